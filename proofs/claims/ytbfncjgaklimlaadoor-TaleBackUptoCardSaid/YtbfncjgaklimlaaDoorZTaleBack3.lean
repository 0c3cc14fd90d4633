/-
  Part 3 of the proof of taleBackLaw.proved: the code computes these functions, and the law holds of them, with no condition beyond the statement's own; put together by a program of ours (wip/decl.py) out of texts of ours.
-/
import Derived.Maps.RangeRun
import Derived.ProofKit
import Derived.OpenShut
import Derived.JoinedCond
import Derived.Deep.Slices
import Derived.Carry
import Derived.IntWalk
import Derived.Lib.LaidTab
import Derived.Stop.LaidErr
import Derived.Test.YtbfncjgaklimlaaDoorCards
import Derived.Test.YtbfncjgaklimlaaDoorTie
import Derived.Deep.DeepHandedRow
import Derived.Test.YtbfncjgaklimlaaDoorZTaleBack2
set_option linter.unusedVariables false
set_option linter.unusedSimpArgs false
namespace Go.Proofs.YtbfncjgaklimlaaDoor
section
open Go.RowKit
set_option maxRecDepth 100000
set_option maxHeartbeats 4000000
set_option synthInstance.maxSize 100000
set_option synthInstance.maxHeartbeats 4000000
theorem qp {p0 p1:Int} {r:Int × Int} (h:jM p0 p1=some r):Fn Tryd.prog 92 [.int .u64 p0,.int .u64 p1] (.tup [.int .u64 r.1,.int .u64 r.2]):=by
 unfold jM at h;refine fT 0 0 Tryd.func92 Tryd.ntmps92 rfl ?_;refine B h fun x2 hx2 h=>(X 14 0 (sQ (v_shr rfl rfl hx2 (B h fun x4 hx4 h=>(Y 11 0 (sQ (v_shr rfl rfl hx4 (B h fun x6 hx6 h=>(Y 15 0 (sQ (v_shr rfl rfl hx6 (B h fun x8 hx8 h=>?_))))))))))))
 refine Y 12 0 (sQ (v_shr rfl rfl hx8 (B h fun x10 b8 h=>(Y 19 0 (sQ (v_shr rfl rfl b8 (Y 10 0 ?_)))))));cases h;exact tD
theorem qr {p0 p1:Int} {r:Int × Int} (h:iq p0 p1=some r):Fn Tryd.prog 79 [.int .u64 p0,.int .u64 p1] (.tup [.int .u64 r.1,.int .u64 r.2]):=by
 unfold iq at h;refine fT 0 0 Tryd.func79 Tryd.ntmps79 rfl ?_;refine B h fun x2 hx2 h=>(X 12 0 (sO (cF (qp hx2) ⟨rfl,(Y 13 0 ?_)⟩)))
 cases h;exact tD
theorem ql {p0:List Ends} {p1:Int} {r:List Ends} (h:f9 p0 p1=some r):FnO Tryd.prog 61 [sL ai p0,iI p1] (.ref 0) [aR 96 2 ai r]:=by
 unfold f9 at h;refine fT 0 10 Tryd.func61 Tryd.ntmps61 rfl (T.ci h rfl (fun ah h=>?_) (fun ah h=>?_))
 ·cases h
 refine B h fun x2 hx2 h=>(X 4 0 (sQ (aD Ty.s90 rfl (Y 3 0 (sO (cF (qr hx2) ⟨rfl,(Y 7 0 (j1 [(0,sL ai p0),(6,.int .u64 x2.2),(26,.bool ((decide (x2.1 > 0)) || decide (x2.2 > 9223372036854775807)))] [] ?_ (fun hK=>?_)))⟩))))))
 ·refine T.ci h rfl (fun bh h=>?_) (fun bh h=>?_)
  ·cases h
  refine B h fun x5 hx5 h=>(X 5 0 (sO (o_mk (en:=ai) (zr:=(⟨0,0⟩:Ends)) Ty.s90 Ty.z96 rfl rfl hx5 rfl rfl (Y 6 1 (sO (si (en:=ai) (xs:=x5) (ys:=p0) Ty.s90 (fun _=>rfl) rfl rfl rfl rfl (Y 4 1 (itr (fun bp:Int × (List Ends)=>mkA 48 [(7,.ref 0),(8,iI bp.1)]) (fun bp=>[aR 96 2 ai bp.2]) h (wk [] [0] 1 rfl) (fun bp v_9 h jz=>?_)))))))))
  obtain ⟨s6,s7⟩:=bp;replace h:dP s6 s7=some v_9:=h;try dsimp only
  unfold dP at h;refine X 5 1 (sQ (fB (en:=ai) Ty.s90 rfl rfl (Y 2 1 (T.ci h rfl (fun fa h=>?_) (fun fa h=>?_)))))
  ·refine B h fun x8 hx8 h=>(B h fun x9 hx9 h=>(B h fun x10 b8 h=>(B h fun x11 fc h=>(X 2 1 (T.drawn mixed (k:=10) rfl ?_)))))
   apply RA.jn 3 (bm 10 127);intro pX
   ·refine rq [0,1,2,4,5] 5 (ra2 3 6 ?_ ?_)
    ·exact oO rfl (iB (en:=ai) (xs:=s7) Ty.s90 rfl rfl rfl rfl hx8 (ra1 6 (oO rfl (iB (en:=ai) (xs:=s7) Ty.s90 rfl rfl rfl rfl hx9 (raE pX)))))
    ·exact oO rfl (iB (en:=ai) (xs:=s7) Ty.s90 rfl rfl rfl rfl hx9 (ra1 3 (oO rfl (iB (en:=ai) (xs:=s7) Ty.s90 rfl rfl rfl rfl hx8 (raT pX)))))
   exact ra1 7 (oO rfl (s8 (en:=ai) (xs:=s7) Ty.s90 (fun _=>rfl) rfl rfl rfl b8 fc rfl (rq [8,9] 0 (RA.done (by decide +kernel) (lk h (wk [] [0] 1 rfl))))))
  refine X 1 1 ?_;replace h:=mi h jz;refine X 5 1 ?_;cases h;exact tO [] [0] 1
 refine X 5 0 (gp 23 (fun ak=>?_) (fun ak=>?_))
 ·refine Yp 4 0 ?_;rw [ak] at hK;exact sx hK
 refine Yp 4 0 ?_;rw [ak] at hK;exact sx hK
theorem rd {p0:Int} {r:Int × Int × Bool} (h:gz p0=some r):Fn Tryd.prog 62 [iI p0] (.tup [iI r.1,iI r.2.1,.bool r.2.2]):=by
 unfold gz at h;refine fT 0 17 Tryd.func62 Tryd.ntmps62 rfl (T.ci h rfl (fun ah h=>?_) (fun ah h=>?_))
 ·refine X 6 0 ?_;cases h;exact tD
 refine jn (Z:=Bool) (fun f5=>mkA 19 [(5,iI p0),(8,.bool f5)]) (fun f5=>[]) (fun f5=>eK p0 f5=some r) (fun f5 h=>?_) (fun hK2=>?_)
 ·revert h;revert f5;intro z1 h;replace h:eK p0 z1=some r:=h;try dsimp only
  unfold eK at h;refine T.ci h rfl (fun fd h=>?_) (fun fd h=>?_)
  ·refine X 6 0 ?_;cases h;exact tD
  refine jn (Z:=Bool) (fun f6=>mkA 19 [(5,iI p0),(12,.bool f6)]) (fun f6=>[]) (fun f6=>fq p0 f6=some r) (fun f6 h=>?_) (fun hK1=>?_)
  ·revert h;revert f6;intro z2 h;replace h:fq p0 z2=some r:=h;try dsimp only
   unfold fq at h;refine T.ci h rfl (fun cq h=>?_) (fun cq h=>?_)
   ·refine X 6 0 ?_;cases h;exact tD
   refine X 5 0 (T.ci h rfl (fun dM h=>?_) (fun dM h=>?_))
   ·refine X 6 0 ?_;cases h;exact tD
   refine X 5 0 (T.ci h rfl (fun fa h=>?_) (fun fa h=>?_))
   ·refine X 6 0 ?_;cases h;exact tD
   refine X 7 0 ?_;cases h;exact tD
  refine X 6 0 (T.ci h rfl (fun ia h=>?_) (fun ia h=>?_))
  ·exact X 1 0 (wu (hK1 (p0==5) h) [] [] 0 rfl)
  exact X 4 0 (wu (hK1 (p0==7) h) [] [] 0 rfl)
 refine X 6 0 (T.ci h rfl (fun wO h=>?_) (fun wO h=>?_))
 ·exact X 1 0 (wu (hK2 (p0==2) h) [] [] 0 rfl)
 refine X 5 0 (T.ci h rfl (fun ib h=>?_) (fun ib h=>?_))
 ·exact X 1 0 (wu (hK2 (p0==3) h) [] [] 0 rfl)
 exact X 4 0 (wu (hK2 (p0==4) h) [] [] 0 rfl)
theorem ml {p0 p1:Int} {r:Bool} (h:fH p0 p1=some r):Fn Tryd.prog 63 [iI p0,iI p1] (.bool r):=by
 unfold fH at h;refine fT 0 4 Tryd.func63 Tryd.ntmps63 rfl (j1 [(4,.bool ((p0==p1) || ((decide (p1<0)) && decide (p0 > 0))))] [] ?_ (fun hK=>?_))
 ·cases h;exact tD
 refine X 6 0 (gp 8 (fun ah=>?_) (fun ah=>?_))
 ·refine Yp 9 0 ?_;rw [ah] at hK;exact sx hK
 refine Y 3 0 (gp 11 (fun ak=>?_) (fun ak=>?_))
 ·refine Yp 6 0 ?_;rw [ah] at hK;rw [ak] at hK;exact sx hK
 refine Yp 6 0 ?_;rw [ah] at hK;rw [ak] at hK;exact sx hK
theorem rm {p0:Net} {r:(List Ends) × Int} (h:gH p0=some r):FnO Tryd.prog 42 [.agg (aF p0)] (.tup [.ref 0,iI r.2]) [aR 96 2 ai r.1]:=by
 unfold gH at h;refine fT 0 7 Tryd.func42 Tryd.ntmps42 rfl (j1 [(1,.ptr 0 0),(36,.bool ((decide (((p0.Nodes).length:Int)<1)) || ((decide (((p0.Nodes).length:Int) > 12)) || ((decide (p0.Rings<0)) || decide (p0.Rings > 16)))))] [.box (aF p0)] ?_ (fun hK=>?_))
 ·refine T.ci h rfl (fun bE h=>?_) (fun bE h=>?_)
  ·refine X 5 1 ?_;cases h;exact tO [(0,96,2)] [1] 1
  refine X 2 1 (j1 [(1,.ptr 0 0),(44,.bool ((decide (p0.Room<1)) || decide (p0.Room > 6)))] [.box (aF p0)] ?_ (fun hK=>?_))
  ·refine T.ci h rfl (fun lj h=>?_) (fun lj h=>?_)
   ·refine X 5 1 ?_;cases h;exact tO [(0,96,2)] [1] 1
   refine B h fun x4 hx4 h=>(X 4 1 (sO (bM (rows:=List.map ai [(⟨(-1),(-1)⟩:Ends)]) (vs:=[.agg [iI (-1),iI (-1)]]) Ty.s90 Ty.z96 rfl rfl rfl rfl rfl rfl (Y 2 2 (sO (cO 2 (ql hx4) ⟨rfl,(Y 11 3 (sQ (aD Ty.s22 rfl (Y 3 3 (itr (fun c6:Int × Int × (List Ends)=>mkA 197 [(1,.ptr 0 0),(4,.ref 1),(5,iI c6.1),(51,sL al p0.Nodes),(52,iI ((p0.Nodes).length:Int)),(53,iI c6.2.1)]) (fun c6=>[.box (aF p0),aR 96 2 ai c6.2.2]) h (wk [] [0,2] 3 rfl) (fun c6 v_124 h eC=>?_))))))⟩))))))
   obtain ⟨s5,s6,s7⟩:=c6;replace h:dX p0 s5 s6 s7=some v_124:=h;try dsimp only
   unfold dX at h;refine X 5 2 (T.ci h rfl (fun wo h=>?_) (fun wo h=>?_))
   ·refine B h fun x9 hx9 h=>(X 6 2 (sQ (bb Ty.s22 (fun _=>rfl) rfl rfl hx9 (B h fun x11 fc h=>(Y 9 2 (sO (cF (rd fc) ⟨rfl,(Y 14 3 (T.ci h rfl (fun wq h=>?_) (fun wq h=>?_)))⟩)))))))
    ·refine X 5 3 ?_;replace h:=mi h eC;cases h;exact tO [(0,96,2)] [3] 3
    refine B h fun x12 cR h=>(X 2 3 ?_)
    obtain ⟨wt,hz,h⟩:=bind_some h;revert hz h;revert wt;intro c14 hz h;refine j1 [(1,.ptr 0 0),(4,.ref 1),(5,iI s5),(6,iI s6),(7,.ptr 2 0),(51,sL al p0.Nodes),(52,iI ((p0.Nodes).length:Int)),(53,iI s6),(80,.bool c14)] [.box (aF p0),aR 96 2 ai s7,.box (al x9)] ?_ (fun hK=>?_)
    ·refine T.ci h rfl (fun wv h=>?_) (fun wv h=>?_)
     ·refine X 5 3 ?_;replace h:=mi h eC;cases h;exact tO [(0,96,2)] [3] 3
     refine X 2 3 (j1 [(1,.ptr 0 0),(4,.ref 1),(5,iI s5),(6,iI s6),(7,.ptr 2 0),(51,sL al p0.Nodes),(52,iI ((p0.Nodes).length:Int)),(53,iI s6),(118,.bool ((decide (x9.A<0)) || (if (x9.Kind==1)=true then ((decide (x9.A >= 4)) || (if (x9.Kind==2)=true then ((decide (x9.A > 3)) || ((x9.Kind != 1) && ((x9.Kind != 2) && x9.A != 0))) else ((x9.Kind != 1) && ((x9.Kind != 2) && x9.A != 0)))) else (if (x9.Kind==2)=true then ((decide (x9.A > 3)) || ((x9.Kind != 1) && ((x9.Kind != 2) && x9.A != 0))) else ((x9.Kind != 1) && ((x9.Kind != 2) && x9.A != 0))))))] [.box (aF p0),aR 96 2 ai s7,.box (al x9)] ?_ (fun hK=>?_))
     ·refine T.ci h rfl (fun ww h=>?_) (fun ww h=>?_)
      ·refine X 5 3 ?_;replace h:=mi h eC;cases h;exact tO [(0,96,2)] [3] 3
      refine X 1 3 (jn (Z:=Int) (fun fW=>mkA 197 [(1,.ptr 0 0),(4,.ref 1),(5,iI fW),(6,iI s6),(7,.ptr 2 0),(51,sL al p0.Nodes),(52,iI ((p0.Nodes).length:Int)),(53,iI s6)]) (fun fW=>[.box (aF p0),aR 96 2 ai s7,.box (al x9)]) (fun fW=>eM p0 s6 s7 x9 fW=some v_124) (fun fW h=>?_) (fun hK3=>?_))
      ·revert h;revert fW;intro z15 h;replace h:eM p0 s6 s7 x9 z15=some v_124:=h;try dsimp only
       unfold eM at h;refine X 5 3 (sQ (aD Ty.s53 rfl (Y 3 3 (itr (fun eB:Int × (List Ends)=>mkA 197 [(1,.ptr 0 0),(4,.ref 1),(5,iI z15),(6,iI s6),(7,.ptr 2 0),(51,sL al p0.Nodes),(52,iI ((p0.Nodes).length:Int)),(53,iI s6),(125,sL aj x9.In),(126,iI ((x9.In).length:Int)),(127,iI eB.1)]) (fun eB=>[.box (aF p0),aR 96 2 ai eB.2,.box (al x9)]) h (wk [] [0,1,2] 3 rfl) (fun eB v_160 h k8=>?_)))));obtain ⟨s16,s17⟩:=eB;replace h:d5 p0 s6 x9 z15 s16 s17=some v_160:=h;try dsimp only
       unfold d5 at h;refine X 5 3 (T.ci h rfl (fun wx h=>?_) (fun wx h=>?_))
       ·refine B h fun x19 dN h=>(X 5 3 (sQ (bb Ty.s53 (fun _=>rfl) rfl rfl dN (Y 4 3 (j1 [(1,.ptr 0 0),(4,.ref 1),(5,iI z15),(6,iI s6),(7,.ptr 2 0),(12,iI x19),(51,sL al p0.Nodes),(52,iI ((p0.Nodes).length:Int)),(53,iI s6),(125,sL aj x9.In),(126,iI ((x9.In).length:Int)),(127,iI s16),(138,.bool ((decide (x19<0)) || decide (x19 >= p0.Rings)))] [.box (aF p0),aR 96 2 ai s17,.box (al x9)] ?_ (fun hK=>?_))))))
        ·refine T.ci h rfl (fun wy h=>?_) (fun wy h=>?_)
         ·refine X 5 3 ?_;replace h:=mi h k8;replace h:=mi h eC;cases h;exact tO [(0,96,2)] [3] 3
         refine B h fun x23 ll h=>(B h fun x24 xg h=>(X 6 3 (sQ (aL (en:=ai) Ty.s90 rfl rfl rfl ll (Y 1 3 (sO (bL (en:=ai) (a:=x24) rfl rfl xg (bC Ty.k3 (c:=iI x24.dst) rfl (Y 2 3 (T.ci h rfl (fun wz h=>?_) (fun wz h=>?_)))))))))))
         ·refine X 5 3 ?_;replace h:=mi h k8;replace h:=mi h eC;cases h;exact tO [(0,96,2)] [3] 3
         exact B h fun x25 xh h=>(B h fun x26 xi h=>(X 5 3 (sQ (aL (en:=ai) Ty.s90 rfl rfl rfl xh (Y 1 3 (sO (jS (en:=ai) (a:=x26) (a':=(⟨x26.src,s6⟩:Ends)) Ty.c3 Ty.i3 rfl (vs:=[iI s6]) rfl rfl rfl xi rfl rfl rfl (Y 5 3 (lk h (wk [] [0,1,2] 3 rfl))))))))))
        refine X 5 3 (gp 133 (fun la=>?_) (fun la=>?_))
        ·refine Yp 6 3 ?_;rw [la] at hK;exact sx hK
        refine Yp 6 3 ?_;rw [la] at hK;exact sx hK
       refine X 1 3 ?_;replace h:=mi h k8;refine X 4 3 (sQ (aD Ty.s53 rfl (Y 3 3 (itr (fun eA:Int × (List Ends)=>mkA 197 [(1,.ptr 0 0),(4,.ref 1),(5,iI z15),(6,iI s6),(51,sL al p0.Nodes),(52,iI ((p0.Nodes).length:Int)),(53,iI s6),(152,sL aj x9.Out),(153,iI ((x9.Out).length:Int)),(154,iI eA.1)]) (fun eA=>[.box (aF p0),aR 96 2 ai eA.2]) h (wk [] [0,1] 3 rfl) (fun eA v_179 h lc=>?_)))));obtain ⟨s27,s28⟩:=eA;replace h:dZ p0 s6 x9 z15 s27 s28=some v_179:=h;try dsimp only
       unfold dZ at h;refine X 5 2 (T.ci h rfl (fun wA h=>?_) (fun wA h=>?_))
       ·refine B h fun x30 di h=>(X 5 2 (sQ (bb Ty.s53 (fun _=>rfl) rfl rfl di (Y 4 2 (j1 [(1,.ptr 0 0),(4,.ref 1),(5,iI z15),(6,iI s6),(14,iI x30),(51,sL al p0.Nodes),(52,iI ((p0.Nodes).length:Int)),(53,iI s6),(152,sL aj x9.Out),(153,iI ((x9.Out).length:Int)),(154,iI s27),(165,.bool ((decide (x30<0)) || decide (x30 >= p0.Rings)))] [.box (aF p0),aR 96 2 ai s28] ?_ (fun hK=>?_))))))
        ·refine T.ci h rfl (fun wC h=>?_) (fun wC h=>?_)
         ·refine X 5 2 ?_;replace h:=mi h lc;replace h:=mi h eC;cases h;exact tO [(0,96,2)] [2] 2
         refine B h fun x34 jA h=>(B h fun x35 lm h=>(X 6 2 (sQ (aL (en:=ai) Ty.s90 rfl rfl rfl jA (Y 1 2 (sO (bL (en:=ai) (a:=x35) rfl rfl lm (bC Ty.k3 (c:=iI x35.src) rfl (Y 2 2 (T.ci h rfl (fun wD h=>?_) (fun wD h=>?_)))))))))))
         ·refine X 5 2 ?_;replace h:=mi h lc;replace h:=mi h eC;cases h;exact tO [(0,96,2)] [2] 2
         exact B h fun x36 xj h=>(B h fun x37 xk h=>(X 5 2 (sQ (aL (en:=ai) Ty.s90 rfl rfl rfl xj (Y 1 2 (sO (jS (en:=ai) (a:=x37) (a':=(⟨s6,x37.dst⟩:Ends)) Ty.c3 Ty.i3 rfl (vs:=[iI s6]) rfl rfl rfl xk rfl rfl rfl (Y 5 2 (lk h (wk [] [0,1] 2 rfl))))))))))
        refine X 5 2 (gp 160 (fun ld=>?_) (fun ld=>?_))
        ·refine Yp 6 2 ?_;rw [ld] at hK;exact sx hK
        refine Yp 6 2 ?_;rw [ld] at hK;exact sx hK
       refine X 1 2 ?_;replace h:=mi h lc;exact X 4 2 (lk h (wk [] [0,1] 2 rfl))
      refine X 7 3 (T.ci h rfl (fun wF h=>?_) (fun wF h=>?_))
      ·exact X 5 3 (wu (hK3 (IntKind.i64.wrap (s5+1)) h) [] [0,1,2] 3 rfl)
      exact X 1 3 (sx (hK3 s5 h))
     refine X 6 3 ?_;rcases aK (decide (x9.A<0)) with aN | aN
     ·exact gT 84 aN (Yp 35 3 (T.sub hK ⟨rfl,rfl,rfl,rfl,rfl,rfl,rfl,rfl,(congrArg AV.bool (by simp only [aN,bz,if_true,if_false,xG])).symm,tqz⟩))
     refine yg 3 aN (yg 3 aN (yg 3 aN (yg 3 aN ?_)));rcases aK (x9.Kind==1) with aX | aX
     ·refine yg 3 aX (yg 3 aX (yg 3 aX (yQ aN (aW (v:=.bool (decide (x9.A >= 4))) rfl aX rfl (sQ (aT (v:=.bool (decide (x9.A >= 4))) rfl aN rfl (Y 1 3 ?_)))))));rcases aK (decide (x9.A >= 4)) with bx | bx
      ·exact gT 94 bx (Yp 25 3 (T.sub hK ⟨rfl,rfl,rfl,rfl,rfl,rfl,rfl,rfl,(congrArg AV.bool (by simp only [aN,aX,bx,bz,if_true,if_false,xG])).symm,tqz⟩))
      refine yg 3 bx (yg 3 bx (yg 3 bx (yg 3 bx ?_)));rcases aK (x9.Kind==2) with bI | bI
      ·refine yg 3 bI (yg 3 bI (yg 3 bI (yQ bx (aW (v:=.bool (decide (x9.A > 3))) rfl bI rfl (sQ (aT (v:=.bool (decide (x9.A > 3))) rfl bx rfl (Y 1 3 ?_)))))));rcases aK (decide (x9.A > 3)) with bQ | bQ
       ·exact gT 104 bQ (Yp 15 3 (T.sub hK ⟨rfl,rfl,rfl,rfl,rfl,rfl,rfl,rfl,(congrArg AV.bool (by simp only [aN,aX,bx,bI,bQ,bz,if_true,if_false,xG])).symm,tqz⟩))
       refine yg 3 bQ (yg 3 bQ (yg 3 bQ (yg 3 bQ ?_)));rcases aK (x9.Kind != 1) with dH | dH
       ·refine yg 3 dH (yg 3 dH (yg 3 dH (yQ bQ (aW (v:=.bool (x9.Kind != 2)) rfl dH rfl (yg 3 bQ ?_)))));rcases aK (x9.Kind != 2) with hO | hO
        ·exact gT 113 hO (Y 3 3 (gF 104 bQ (Yp 3 3 (T.sub hK ⟨rfl,rfl,rfl,rfl,rfl,rfl,rfl,rfl,(congrArg AV.bool (by simp only [aN,aX,bx,bI,bQ,dH,hO,bz,if_true,if_false,xG])).symm,tqz⟩))))
        exact gF 113 hO (Y 3 3 (gF 104 bQ (Yp 3 3 (T.sub hK ⟨rfl,rfl,rfl,rfl,rfl,rfl,rfl,rfl,(congrArg AV.bool (by simp only [aN,aX,bx,bI,bQ,dH,hO,bz,if_true,if_false,xG])).symm,tqz⟩))))
       exact gF 108 dH (Y 3 3 (gF 104 bQ (Yp 8 3 (T.sub hK ⟨rfl,rfl,rfl,rfl,rfl,rfl,rfl,rfl,(congrArg AV.bool (by simp only [aN,aX,bx,bI,bQ,dH,bz,if_true,if_false,xG])).symm,tqz⟩))))
      refine sN bI (sN bI (sN bI (yQ bx (aT (v:=.bool false) rfl bI rfl (sQ (aT (v:=.bool false) rfl bx rfl (Y 1 3 (yg 3 rfl (yg 3 rfl (yg 3 rfl (yg 3 rfl ?_)))))))))));rcases aK (x9.Kind != 1) with dI | dI
      ·refine yg 3 dI (yg 3 dI (yg 3 dI (yQ rfl (aW (v:=.bool (x9.Kind != 2)) rfl dI rfl (yg 3 rfl ?_)))));rcases aK (x9.Kind != 2) with hP | hP
       ·exact gT 113 hP (Yp 6 3 (T.sub hK ⟨rfl,rfl,rfl,rfl,rfl,rfl,rfl,rfl,(congrArg AV.bool (by simp only [aN,aX,bx,bI,dI,hP,bz,if_true,if_false,xG])).symm,tqz⟩))
       exact gF 113 hP (Yp 6 3 (T.sub hK ⟨rfl,rfl,rfl,rfl,rfl,rfl,rfl,rfl,(congrArg AV.bool (by simp only [aN,aX,bx,bI,dI,hP,bz,if_true,if_false,xG])).symm,tqz⟩))
      exact gF 108 dI (Yp 11 3 (T.sub hK ⟨rfl,rfl,rfl,rfl,rfl,rfl,rfl,rfl,(congrArg AV.bool (by simp only [aN,aX,bx,bI,dI,bz,if_true,if_false,xG])).symm,tqz⟩))
     refine sN aX (sN aX (sN aX (yQ aN (aT (v:=.bool false) rfl aX rfl (sQ (aT (v:=.bool false) rfl aN rfl (Y 1 3 (yg 3 rfl (yg 3 rfl (yg 3 rfl (yg 3 rfl ?_)))))))))));rcases aK (x9.Kind==2) with bJ | bJ
     ·refine yg 3 bJ (yg 3 bJ (yg 3 bJ (yQ rfl (aW (v:=.bool (decide (x9.A > 3))) rfl bJ rfl (sQ (aT (v:=.bool (decide (x9.A > 3))) rfl rfl rfl (Y 1 3 ?_)))))));rcases aK (decide (x9.A > 3)) with bR | bR
      ·exact gT 104 bR (Yp 15 3 (T.sub hK ⟨rfl,rfl,rfl,rfl,rfl,rfl,rfl,rfl,(congrArg AV.bool (by simp only [aN,aX,bJ,bR,bz,if_true,if_false,xG])).symm,tqz⟩))
      refine yg 3 bR (yg 3 bR (yg 3 bR (yg 3 bR ?_)));rcases aK (x9.Kind != 1) with dJ | dJ
      ·refine yg 3 dJ (yg 3 dJ (yg 3 dJ (yQ bR (aW (v:=.bool (x9.Kind != 2)) rfl dJ rfl (yg 3 bR ?_)))));rcases aK (x9.Kind != 2) with hU | hU
       ·exact gT 113 hU (Y 3 3 (gF 104 bR (Yp 3 3 (T.sub hK ⟨rfl,rfl,rfl,rfl,rfl,rfl,rfl,rfl,(congrArg AV.bool (by simp only [aN,aX,bJ,bR,dJ,hU,bz,if_true,if_false,xG])).symm,tqz⟩))))
       exact gF 113 hU (Y 3 3 (gF 104 bR (Yp 3 3 (T.sub hK ⟨rfl,rfl,rfl,rfl,rfl,rfl,rfl,rfl,(congrArg AV.bool (by simp only [aN,aX,bJ,bR,dJ,hU,bz,if_true,if_false,xG])).symm,tqz⟩))))
      exact gF 108 dJ (Y 3 3 (gF 104 bR (Yp 8 3 (T.sub hK ⟨rfl,rfl,rfl,rfl,rfl,rfl,rfl,rfl,(congrArg AV.bool (by simp only [aN,aX,bJ,bR,dJ,bz,if_true,if_false,xG])).symm,tqz⟩))))
     refine sN bJ (sN bJ (sN bJ (yQ rfl (aT (v:=.bool false) rfl bJ rfl (sQ (aT (v:=.bool false) rfl rfl rfl (Y 1 3 (yg 3 rfl (yg 3 rfl (yg 3 rfl (yg 3 rfl ?_)))))))))));rcases aK (x9.Kind != 1) with dK | dK
     ·refine yg 3 dK (yg 3 dK (yg 3 dK (yQ rfl (aW (v:=.bool (x9.Kind != 2)) rfl dK rfl (yg 3 rfl ?_)))));rcases aK (x9.Kind != 2) with hX | hX
      ·exact gT 113 hX (Yp 6 3 (T.sub hK ⟨rfl,rfl,rfl,rfl,rfl,rfl,rfl,rfl,(congrArg AV.bool (by simp only [aN,aX,bJ,dK,hX,bz,if_true,if_false,xG])).symm,tqz⟩))
      exact gF 113 hX (Yp 6 3 (T.sub hK ⟨rfl,rfl,rfl,rfl,rfl,rfl,rfl,rfl,(congrArg AV.bool (by simp only [aN,aX,bJ,dK,hX,bz,if_true,if_false,xG])).symm,tqz⟩))
     exact gF 108 dK (Yp 11 3 (T.sub hK ⟨rfl,rfl,rfl,rfl,rfl,rfl,rfl,rfl,(congrArg AV.bool (by simp only [aN,aX,bJ,dK,bz,if_true,if_false,xG])).symm,tqz⟩))
    refine X 4 3 (sQ (aD Ty.s53 rfl (Y 1 3 (sO (cF (ml cR) ⟨rfl,(Y 2 3 (gi 73 hz (fun wG hz=>?_) (fun wG hz=>?_)))⟩)))))
    ·refine Yp 8 3 ?_;cases hz;exact sx hK
    refine B hz fun x13 bi hz=>(Y 2 3 (yQ rfl (aD Ty.s53 rfl (Y 1 3 (yO rfl (cF (ml bi) ⟨rfl,(Yp 3 3 ?_)⟩))))))
    cases hz;exact sx hK
   refine X 1 2 ?_;replace h:=mi h eC;refine X 4 2 (sQ (fB (en:=ai) Ty.s90 rfl rfl (Y 3 2 (itr (fun fU:Int=>mkA 197 [(4,.ref 0),(5,iI s5),(179,.ref 0),(180,iI ((s7).length:Int)),(181,iI fU)]) (fun fU=>[aR 96 2 ai s7]) h (wk [] [1] 2 rfl) (fun fU v_198 h jv=>?_)))));revert jv h;revert fU;intro s38 h jv;replace h:eO s5 s7 s38=some v_198:=h;try dsimp only
   unfold eO at h;refine X 5 1 (T.ci h rfl (fun wH h=>?_) (fun wH h=>?_))
   ·refine B h fun x41 xl h=>(B h fun x42 xm h=>(X 5 1 (sQ (aL (en:=ai) Ty.s90 rfl rfl rfl xl (sO (bL (en:=ai) (a:=x42) rfl rfl xm (tH Ty.k96 Ty.c96 rfl (cs:=(ai x42)) rfl (Y 3 1 (j1 [(4,.ref 0),(5,iI s5),(179,.ref 0),(180,iI ((s7).length:Int)),(181,iI s38),(192,.bool ((decide (x42.src<0)) || decide (x42.dst<0)))] [aR 96 2 ai s7] ?_ (fun hK=>?_))))))))))
    ·refine T.ci h rfl (fun wI h=>?_) (fun wI h=>?_)
     ·refine X 5 1 ?_;replace h:=mi h jv;cases h;exact tO [(0,96,2)] [1] 1
     exact X 5 1 (lk h (wk [] [0] 1 rfl))
    refine X 6 2 (gp 188 (fun lf=>?_) (fun lf=>?_))
    ·refine Yp 5 2 ?_;rw [lf] at hK;exact wu hK [] [0] 2 rfl
    refine Yp 5 2 ?_;rw [lf] at hK;exact wu hK [] [0] 2 rfl
   refine X 1 1 ?_;replace h:=mi h jv;refine X 6 1 (T.ci h rfl (fun wJ h=>?_) (fun wJ h=>?_))
   ·refine X 5 1 ?_;cases h;exact tO [(0,96,2)] [1] 1
   refine X 7 1 ?_;cases h;exact tO [] [0] 1
  refine X 6 1 (gp 40 (fun fd=>?_) (fun fd=>?_))
  ·refine Yp 5 1 ?_;rw [fd] at hK;exact sx hK
  refine Yp 5 1 ?_;rw [fd] at hK;exact sx hK
 refine X 4 1 (sQ (aD Ty.s22 rfl (Y 2 1 (gp 21 (fun ah=>?_) (fun ah=>?_)))))
 ·refine Yp 16 1 ?_;rw [ah] at hK;exact sx hK
 refine Y 2 1 (yQ rfl (aD Ty.s22 rfl (Yp 3 1 (gp 27 (fun ak=>?_) (fun ak=>?_)))))
 ·refine Yp 10 1 ?_;rw [ah] at hK;rw [ak] at hK;exact sx hK
 refine Yp 5 1 (gp 32 (fun bh=>?_) (fun bh=>?_))
 ·refine Yp 5 1 ?_;rw [ah] at hK;rw [ak] at hK;rw [bh] at hK;exact sx hK
 refine Yp 5 1 ?_;rw [ah] at hK;rw [ak] at hK;rw [bh] at hK;exact sx hK
theorem qn {p0:Int} {p1:List Bool} {p2:List Ends} {r:Bool} (h:gb p0 p1 p2=some r):FnX Tryd.prog 44 [iI p0,.ptr 0 0,.ptr 1 0] [.box [.ref 2],.box [.ref 3],aR 4 1 bf p1,aR 96 2 ai p2] (.bool r) [.box [.ref 2],.box [.ref 3],aR 4 1 bf p1,aR 96 2 ai p2]:=by
 unfold gb at h;refine fT 4 0 Tryd.func44 Tryd.ntmps44 rfl ?_;refine B h fun x5 hx5 h=>(B h fun x6 hx6 h=>(B h fun x7 hx7 h=>(B h fun x8 hx8 h=>(X 5 4 (T.drawn mixed (k:=10) rfl (rq [2] 9 (rL [1,3,4,5,6,7,8,9] 1 rfl (r0 3 rfl (aL (en:=ai) Ty.s90 rfl rfl rfl hx5 (rq [4] 6 ?_))))))))))
 refine rL [0,6,7,8,9] 0 rfl (ra1 5 (oO rfl (bL (en:=ai) (a:=x6) rfl rfl hx6 (bC Ty.k3 (c:=iI x6.src) rfl (r0 6 rfl (aL (en:=bf) Ty.s93 rfl rfl rfl hx7 (ra1 7 (oO rfl (bL (en:=bf) (a:=x8) rfl rfl hx8 (bC Ty.k4 (c:=.bool x8) rfl (rq [8,9] 0 (RA.done (by decide +kernel) ?_))))))))))));cases h;exact tN [0,1,2,3]
theorem qi {p0:List Int} {p1:List Bool} {p2:List Ends} {r:Int} (h:il p0 p1 p2=some r):FnX Tryd.prog 64 [sL aj p0,.func 44 [.ptr 0 0,.ptr 1 0]] [.box [.ref 2],.box [.ref 3],aR 4 1 bf p1,aR 96 2 ai p2] (iI r) [.box [.ref 2],.box [.ref 3],aR 4 1 bf p1,aR 96 2 ai p2]:=by
 unfold il at h;refine fT 4 8 Tryd.func64 Tryd.ntmps64 rfl (sQ (aD Ty.s53 rfl (Y 3 4 (itr (fun f4:Int=>mkA 19 [(0,sL aj p0),(1,.func 44 [.ptr 0 0,.ptr 1 0]),(7,iI ((p0).length:Int)),(8,iI f4)]) (fun f4=>[.box [.ref 2],.box [.ref 3],aR 4 1 bf p1,aR 96 2 ai p2]) h (wk [] [0,1,2,3] 4 rfl) (fun f4 v_6 h jB=>?_)))));revert jB h;revert f4;intro s1 h jB;replace h:fg p0 p1 p2 s1=some v_6:=h;try dsimp only
 unfold fg at h;refine X 5 4 (T.ci h rfl (fun ln h=>?_) (fun ln h=>?_))
 ·refine B h fun x4 hx4 h=>(B h fun x5 hx5 h=>(X 13 4 (sQ (bb Ty.s53 (fun _=>rfl) rfl rfl hx4 (Y 1 4 (sO (cG [0,1,2,3] 4 4 (qn hx5) ⟨rfl,(Y 1 4 (T.ci h rfl (fun cq h=>?_) (fun cq h=>?_)))⟩)))))))
  ·refine X 5 4 ?_;replace h:=mi h jB;cases h;exact tN [0,1,2,3]
  exact X 5 4 (lk h (wk [] [0,1,2,3] 4 rfl))
 refine X 1 4 ?_;replace h:=mi h jB;refine X 4 4 ?_;cases h;exact tN [0,1,2,3]
theorem qh {p0:List Int} {p1:List Bool} {p2:List Ends} {r:Bool} (h:ff p0 p1 p2=some r):FnX Tryd.prog 43 [sL aj p0,.func 44 [.ptr 0 0,.ptr 1 0]] [.box [.ref 2],.box [.ref 3],aR 4 1 bf p1,aR 96 2 ai p2] (.bool r) [.box [.ref 2],.box [.ref 3],aR 4 1 bf p1,aR 96 2 ai p2]:=by
 unfold ff at h;refine fT 4 0 Tryd.func43 Tryd.ntmps43 rfl ?_;refine B h fun x2 hx2 h=>(X 8 4 (sO (cG [0,1,2,3] 4 4 (qi hx2) ⟨rfl,(Y 3 4 ?_)⟩)))
 cases h;exact tN [0,1,2,3]
theorem qY {p0:Net} {r:(List Int) × Int} (h:gy p0=some r):FnO Tryd.prog 28 [.agg (aF p0)] (.tup [.ref 0,iI r.2]) [aR 3 1 aj r.1]:=by
 unfold gy at h;refine fT 0 0 Tryd.func28 Tryd.ntmps28 rfl ?_;refine B h fun x2 hx2 h=>(X 9 0 (sO (cO 1 (rm hx2) ⟨rfl,(Y 13 2 (T.ci h rfl (fun ah h=>?_) (fun ah h=>?_)))⟩)))
 ·refine X 6 3 ?_;cases h;exact tO [(0,3,1)] [3] 3
 refine B h fun x4 hx4 h=>(X 9 3 (sQ (aD Ty.s22 rfl (sO (o_mk (en:=bf) (zr:=false) Ty.s93 Ty.z4 rfl rfl hx4 rfl rfl (Y 5 4 (itr (fun eD:(List Int) × (List Bool)=>mkA 61 [(1,.ptr 0 0),(4,.ptr 1 0),(6,.ref 2),(7,.ptr 3 0)]) (fun eD=>[.box (aF p0),.box [.ref 4],aR 3 1 aj eD.1,.box [.ref 5],aR 96 2 ai x2.1,aR 4 1 bf eD.2]) h (wk [(6,3,1)] [0,2,5,4,1,3] 5 rfl) (fun eD v_73 h pN=>?_))))))))
 obtain ⟨s5,s6⟩:=eD;replace h:dU p0 x2 s5 s6=some v_73:=h;try dsimp only
 unfold dU at h;refine X 4 6 (sQ (fB (en:=aj) Ty.s53 rfl rfl (Y 2 6 (sQ (aD Ty.s22 rfl (Y 2 6 (T.ci h rfl (fun wS h=>?_) (fun wS h=>?_))))))))
 ·refine X 6 6 (jn (Z:=Int) (fun fY=>mkA 61 [(1,.ptr 0 0),(4,.ptr 1 0),(6,.ref 2),(7,.ptr 3 0),(8,iI fY)]) (fun fY=>[.box (aF p0),.box [.ref 4],aR 3 1 aj s5,.box [.ref 5],aR 96 2 ai x2.1,aR 4 1 bf s6]) (fun fY=>eJ s5 s6 fY=some v_73) (fun fY h=>?_) (fun hK1=>?_))
  ·revert h;revert fY;intro z14 h;replace h:eJ s5 s6 z14=some v_73:=h;try dsimp only
   unfold eJ at h;refine X 6 6 (T.ci h rfl (fun wT h=>?_) (fun wT h=>?_))
   ·refine X 5 6 ?_;replace h:=mi h pN;cases h;exact tO [(0,3,1)] [6] 6
   refine B h fun x17 dj h=>(B h fun x18 dO h=>(X 5 6 (sQ (aL (en:=bf) Ty.s93 rfl rfl rfl dj (sO (jS (en:=bf) (a:=x18) (a':=true) Ty.c4 Ty.i4 rfl (vs:=[.bool true]) rfl rfl rfl dO rfl rfl rfl (B h fun x19 dN h=>(Y 4 6 (sO (bM (rows:=List.map aj [z14]) (vs:=[iI z14]) Ty.s53 Ty.z3 rfl rfl rfl rfl rfl rfl (sO (fy (en:=aj) (xs:=s5) (ys:=([z14]:List Int)) Ty.s53 (fun _=>rfl) rfl rfl rfl dN rfl rfl (Y 2 8 ?_)))))))))))))
   exact lk h (wk [] [0,1,7,3,4,5] 8 rfl)
  refine X 5 6 (sQ (aD Ty.s22 rfl (Y 3 6 (itr (fun fV:Int=>mkA 61 [(1,.ptr 0 0),(4,.ptr 1 0),(6,.ref 2),(7,.ptr 3 0),(8,iI (-1)),(30,sL al p0.Nodes),(31,iI ((p0.Nodes).length:Int)),(32,iI fV)]) (fun fV=>[.box (aF p0),.box [.ref 4],aR 3 1 aj s5,.box [.ref 5],aR 96 2 ai x2.1,aR 4 1 bf s6]) h (wk [] [0,1,2,3,4,5] 6 rfl) (fun fV v_103 h jx=>?_)))));revert jx h;revert fV;intro s7 h jx;replace h:dV p0 x2 s5 s6 s7=some v_103:=h;try dsimp only
  unfold dV at h;refine X 5 6 (T.ci h rfl (fun wK h=>?_) (fun wK h=>?_))
  ·refine B h fun x9 hx9 h=>(X 6 6 (sQ (bb Ty.s22 (fun _=>rfl) rfl rfl hx9 (B h fun x10 b8 h=>(B h fun x11 fc h=>(Y 5 6 ?_))))))
   obtain ⟨wL,hz,h⟩:=bind_some h;revert hz h;revert wL;intro c13 hz h;refine j1 [(1,.ptr 0 0),(4,.ptr 1 0),(6,.ref 2),(7,.ptr 3 0),(8,iI (-1)),(9,iI s7),(30,sL al p0.Nodes),(31,iI ((p0.Nodes).length:Int)),(32,iI s7),(48,.bool c13)] [.box (aF p0),.box [.ref 4],aR 3 1 aj s5,.box [.ref 5],aR 96 2 ai x2.1,aR 4 1 bf s6] ?_ (fun hK=>?_)
   ·refine T.ci h rfl (fun wM h=>?_) (fun wM h=>?_)
    ·refine X 6 6 ?_;replace h:=mi h jx;exact sx (hK1 s7 h)
    exact X 5 6 (lk h (wk [] [0,1,2,3,4,5] 6 rfl))
   refine X 4 7 (sQ (aL (en:=bf) Ty.s93 rfl rfl rfl b8 (sO (bL (en:=bf) (a:=x11) rfl rfl fc (bC Ty.k4 (c:=.bool x11) rfl (Y 2 7 (gi 42 hz (fun wN hz=>?_) (fun wN hz=>?_))))))))
   ·refine B hz fun x12 cR hz=>(Y 3 7 (yO rfl (cG [3,1,5,4] 7 4 (qh cR) ⟨rfl,(Yp 3 7 ?_)⟩)))
    cases hz;exact wu hK [] [0,1,2,3,4,5] 7 rfl
   refine Yp 7 7 ?_;cases hz;exact wu hK [] [0,1,2,3,4,5] 7 rfl
  refine X 1 6 ?_;replace h:=mi h jx;exact sx (hK1 (-1) h)
 refine X 1 6 ?_;replace h:=mi h pN;refine X 6 6 ?_;cases h;exact tO [] [2] 6
theorem me {p0:Net} {r:Int} (h:cr p0=some r):Fn Tryd.prog 11 [.agg (aF p0)] (iI r):=by
 unfold cr at h;refine fT 0 0 Tryd.func11 Tryd.ntmps11 rfl ?_;refine B h fun x2 hx2 h=>(X 8 0 (sO (cO 1 (qY hx2) ⟨rfl,(Y 11 2 ?_)⟩)))
 cases h;exact tD
theorem bu {p0:Int} {r:List UInt8} (h:cB p0=some r):Fn Tryd.prog 15 [.int .i64 p0] (.str r):=uW p0 r h
theorem jP {p0:List (List UInt8)} {p1 r:List UInt8} (h:strings_Join p0 p1=some r):Fn Tryd.prog 14 [.sl (List.map ab p0),.str p1] (.str r):=by
 unfold strings_Join joinB at h;split at h
 ·rename_i hc;cases h;exact u7 p0 p1 hc.1 hc.2
 ·cases h
theorem qw {p0 r:List Int} (h:jQ p0=some r):FnX Tryd.prog 29 [.ptr 0 0] [.boxB 44 [.np 0,.ref 1],aR 5 1 aJ p0] (.tup []) [.boxB 44 [.np 0,.ref 1],aR 5 1 aJ r]:=by cases h;exact qH _
theorem qg {p0:List UInt8} {p1:List Int} {r:Int × Unit × (List Int)} (h:ik p0 p1=some r):FnX Tryd.prog 13 [.ptr 0 0,.str p0] [.boxB 44 [.np 0,.ref 1],aR 5 1 aJ p1] (.tup [iI r.1,.nili]) [.boxB 44 [.np 0,.ref 2],.dead,aR 5 1 aJ r.2.2]:=by unfold ik at h;refine fT 2 0 Tryd.func13 Tryd.ntmps13 rfl ?_;refine T.mvBB 0 1 1 (cs:=[.np 0,.ref 1]) rfl rfl rfl rfl (cs':=[.np 0,.ref 2]) rfl rfl (B h fun x2 hx2 h=>(X 8 3 (sO (cG [0,2] 3 2 (qw hx2) ⟨rfl,(B h fun x4 hx4 h=>(Y 7 3 (sO (ra rfl rfl (bC Ty.k42 (c:=.ref 2) rfl (Y 1 3 (sO (tY (xs:=x2) (s:=p0) Ty.s42 Tryd.underlying9 (by kernel_rfl) rfl rfl rfl hx4 rfl rfl (Y 2 4 ?_)))))))))⟩))));refine sO (t8 rfl rfl (vs:=[.ref 3]) rfl Tryd.underlying42 rfl (by decide) rfl (Y 8 4 ?_));cases h;exact tN [0,1,3]
theorem lK {p0:List (List UInt8)} {p1 r:List Int} (h:fj p0 p1=some r):FnX Tryd.prog 12 [.ref 0,.ptr 1 0] [aR 9 1 ab p0,.boxB 44 [.np 1,.ref 2],aR 5 1 aJ p1] (.tup []) [aR 9 1 ab p0,.boxB 44 [.np 1,.ref 3],.dead,aR 5 1 aJ r]:=by unfold fj at h;refine fT 3 0 Tryd.func12 Tryd.ntmps12 rfl ?_;refine T.mvBB 1 1 2 (cs:=[.np 1,.ref 2]) rfl rfl rfl rfl (cs':=[.np 1,.ref 3]) rfl rfl (B h fun x1 hx1 h=>(B h fun x2 hx2 h=>(B h fun x3 hx3 h=>(X 2 4 (sO (cF (jP hx1) ⟨rfl,(sQ (ph rfl rfl hx2 (sO (cG [1,3] 4 3 (qg hx3) ⟨rfl,(Y 1 5 ?_)⟩))))⟩))))));cases h;exact eN [0,1,2,4]
theorem bB {r:List (List UInt8)} (h:dq=some r):FnO Tryd.prog 16 [] (.ref 0) [aR 9 1 ab r]:=by unfold dq at h;refine fT 0 6 Tryd.func16 Tryd.ntmps16 rfl (sO (bM (rows:=List.map ab [[],[115,111,117,114,99,101],[109,97,112],[115,99,97,110],[99,111,117,110,116],[116,101,101],[109,101,114,103,101],[115,112,108,105,116],[115,105,110,107]]) (vs:=[.str [],.str [115,111,117,114,99,101],.str [109,97,112],.str [115,99,97,110],.str [99,111,117,110,116],.str [116,101,101],.str [109,101,114,103,101],.str [115,112,108,105,116],.str [115,105,110,107]]) Ty.s45 Ty.z9 rfl rfl rfl rfl rfl rfl (Y 2 1 ?_)));cases h;exact tO [] [0] 1
theorem dp {p0:List Int} {r:List UInt8} (h:gj p0=some r):Fn Tryd.prog 17 [sL aj p0] (.str r):=by
 unfold gj at h;refine fT 0 12 Tryd.func17 Tryd.ntmps17 rfl (sQ (aD Ty.s53 rfl (Y 3 0 (itr (fun cQ:Int × (List (List UInt8))=>mkA 23 [(3,.ref 0),(6,sL aj p0),(7,iI ((p0).length:Int)),(8,iI cQ.1)]) (fun cQ=>[aR 9 1 ab cQ.2]) h (wk [(3,9,1)] [0] 0 rfl) (fun cQ v_4 h xn=>?_)))));obtain ⟨s1,s2⟩:=cQ;replace h:dS p0 s1 s2=some v_4:=h;try dsimp only
 unfold dS at h;refine X 5 1 (T.ci h rfl (fun fd h=>?_) (fun fd h=>?_))
 ·refine B h fun x4 hx4 h=>(X 5 1 (sQ (bb Ty.s53 (fun _=>rfl) rfl rfl hx4 (B h fun x5 hx5 h=>(B h fun x6 hx6 h=>(Y 6 1 (sO (cF (bu hx5) ⟨rfl,(sO (bM (rows:=List.map ab [x5]) (vs:=[.str x5]) Ty.s45 Ty.z9 rfl rfl rfl rfl rfl rfl (sO (fy (en:=ab) (xs:=s2) (ys:=([x5]:List (List UInt8))) Ty.s45 (fun _=>rfl) rfl rfl rfl hx6 rfl rfl (Y 6 3 ?_)))))⟩))))))))
  exact lk h (wk [] [2] 3 rfl)
 refine X 1 1 ?_;replace h:=mi h xn;refine X 4 1 (sQ (fB (en:=ab) Ty.s45 rfl rfl (Y 2 1 (T.ci h rfl (fun ln h=>?_) (fun ln h=>?_)))))
 ·refine X 4 1 ?_;cases h;exact tD
 refine B h fun x8 hx8 h=>(X 4 1 (sO (cF (jP hx8) ⟨rfl,(Y 2 1 ?_)⟩)))
 cases h;exact tD
theorem qK {p0:List Int} {r:List UInt8} (h:j8 p0=some r):FnX Tryd.prog 18 [.ptr 0 0] [.boxB 44 [.np 0,.ref 1],aR 5 1 aJ p0] (.str r) [.dead,.dead]:=sA p0 r h
theorem lZ {p0:Net} {r:(List UInt8) × Int} (h:d7 p0=some r):Fn Tryd.prog 4 [.agg (aF p0)] (.tup [.str r.1,iI r.2]):=by
 unfold d7 at h;refine fT 0 0 Tryd.func4 Tryd.ntmps4 rfl ?_;refine B h fun x2 hx2 h=>(X 10 0 (sO (cF (me hx2) ⟨rfl,(Y 7 1 (T.ci h rfl (fun ah h=>?_) (fun ah h=>?_)))⟩)))
 ·refine X 6 1 ?_;cases h;exact tD
 refine X 3 1 (sO (uf (e:=5) (z:=1) Ty.z44 rfl rfl (B h fun x6 hx6 h=>(B h fun x7 hx7 h=>(B h fun x8 hx8 h=>(Y 7 3 (T.drawn mixed (k:=9) rfl ?_)))))));apply RA.jn 3 (bm 9 63);intro hS2
 ·refine rq [0,1,4] 6 (rL [2,3,6,7,8] 2 rfl (ra2 3 5 ?_ ?_))
  ·exact oO rfl (cF (bu hx6) ⟨rfl,(ra1 5 (og 3 ⟨rfl,(raE hS2)⟩))⟩)
  ·exact og 3 ⟨rfl,(ra1 3 (oO rfl (cF (bu hx6) ⟨rfl,(raT hS2)⟩)))⟩
 refine ra1 6 (oO rfl (cF (bu hx7) ⟨rfl,(ra1 7 (oO rfl (bM (rows:=List.map ab [[114,105,110,103,115],x6,x7]) (vs:=[.str [114,105,110,103,115],.str x6,.str x7]) Ty.s45 Ty.z9 rfl rfl rfl rfl rfl rfl (ra1 8 (oO rfl (cG [3,1,2] 4 4 (lK hx8) ⟨rfl,(RA.done (by decide +kernel) (X 5 5 (sQ (aD Ty.s22 rfl (Y 3 5 ?_)))))⟩))))))⟩));refine itr (fun cN:Int × (List Int)=>mkA 50 [(5,.ptr 0 0),(6,.func 12 [.ptr 0 0]),(25,sL al p0.Nodes),(26,iI ((p0.Nodes).length:Int)),(27,iI cN.1)]) (fun cN=>[.boxB 44 [.np 0,.ref 1],aR 5 1 aJ cN.2]) h (wk [] [1,4] 5 rfl) (fun cN v_72 h wU=>?_);obtain ⟨s9,s10⟩:=cN;replace h:dT p0 s9 s10=some v_72:=h;try dsimp only
 unfold dT at h;refine X 5 2 (T.ci h rfl (fun wW h=>?_) (fun wW h=>?_))
 ·refine B h fun x12 cR h=>(X 5 2 (sQ (bb Ty.s22 (fun _=>rfl) rfl rfl cR (B h fun x13 bi h=>(B h fun x14 bq h=>(B h fun x15 eF h=>(B h fun x16 ca h=>(B h fun x17 dj h=>(B h fun x18 dO h=>(B h fun x19 dN h=>?_))))))))))
  refine Y 4 2 (T.drawn mixed (k:=17) rfl ?_);apply RA.jn 2 (bm 17 32767);intro pY;apply RA.jn 3 (bm 17 16383);intro lp;apply RA.jn 3 (bm 17 32735);intro pZ;apply RA.jn 4 (bm 17 14335);intro jC;apply RA.jn 4 (bm 17 16351);intro lq;apply RA.jn 5 (bm 17 14079);intro lr;apply RA.jn 5 (bm 17 14303);intro jD;apply RA.jn 5 (bm 17 6143);intro lu;apply RA.jn 6 (bm 17 14047);intro ij;apply RA.jn 6 (bm 17 16327);intro p5;apply RA.jn 6 (bm 17 13055);intro p6;apply RA.jn 6 (bm 17 5887);intro p7;apply RA.jn 6 (bm 17 6111);intro lv;apply RA.jn 7 (bm 17 14279);intro lw;apply RA.jn 7 (bm 17 13023);intro jE;apply RA.jn 7 (bm 17 5855);intro jF;apply RA.jn 8 (bm 17 14023);intro jG;apply RA.jn 8 (bm 17 14029);intro jH;apply RA.jn 8 (bm 17 6087);intro p8;apply RA.jn 8 (bm 17 4831);intro lx;apply RA.jn 9 (bm 17 12999);intro ly;apply RA.jn 9 (bm 17 13901);intro lz;apply RA.jn 9 (bm 17 14021);intro lA;apply RA.jn 9 (bm 17 13005);intro lB;apply RA.jn 9 (bm 17 5831);intro lC;apply RA.jn 9 (bm 17 5837);intro lD;apply RA.jn 10 (bm 17 4807);intro pO;apply RA.jn 10 (bm 17 12877);intro pP;apply RA.jn 10 (bm 17 12997);intro pQ;apply RA.jn 10 (bm 17 13893);intro pR;apply RA.jn 10 (bm 17 5709);intro pS;apply RA.jn 10 (bm 17 5829);intro pT;apply RA.jn 10 (bm 17 4813);intro pU
  ·refine rq [0,2,6,9,12] 12 (ra5 1 3 7 10 13 ?_ ?_ ?_ ?_ ?_)
   ·exact oO rfl (cO 3 (bB bi) ⟨rfl,(rL [7,8,11,14,15,16] 7 rfl (raE pO))⟩)
   ·refine og 3 ⟨rfl,(ra4 1 7 10 13 ?_ ?_ ?_ ?_)⟩
    ·exact oO rfl (cO 3 (bB bi) ⟨rfl,(r0 4 rfl (aL (en:=ab) Ty.s45 rfl rfl rfl bq (rL [7,8,11,14,15,16] 7 rfl (raE lx))))⟩)
    ·exact og 3 ⟨rfl,(raE pU)⟩
    ·exact og 3 ⟨rfl,(raE pS)⟩
    ·exact og 3 ⟨rfl,(raE pP)⟩
   ·refine og 3 ⟨rfl,(ra4 1 3 10 13 ?_ ?_ ?_ ?_)⟩
    ·exact oO rfl (cO 3 (bB bi) ⟨rfl,(raT pO)⟩)
    ·exact og 3 ⟨rfl,(raT pU)⟩
    ·exact og 3 ⟨rfl,(raE pT)⟩
    ·exact og 3 ⟨rfl,(raE pQ)⟩
   ·refine og 3 ⟨rfl,(ra4 1 3 7 13 ?_ ?_ ?_ ?_)⟩
    ·exact oO rfl (cO 3 (bB bi) ⟨rfl,(rL [7,8,11,14,15,16] 7 rfl (raE lC))⟩)
    ·exact og 3 ⟨rfl,(raT pS)⟩
    ·exact og 3 ⟨rfl,(raT pT)⟩
    ·exact og 3 ⟨rfl,(raE pR)⟩
   ·refine og 3 ⟨rfl,(ra4 1 3 7 10 ?_ ?_ ?_ ?_)⟩
    ·exact oO rfl (cO 3 (bB bi) ⟨rfl,(rL [7,8,11,14,15,16] 7 rfl (raE ly))⟩)
    ·exact og 3 ⟨rfl,(raT pP)⟩
    ·exact og 3 ⟨rfl,(raT pQ)⟩
    ·exact og 3 ⟨rfl,(raT pR)⟩
  ·refine ra3 1 10 13 ?_ ?_ ?_
   ·exact oO rfl (cO 3 (bB bi) ⟨rfl,(r0 4 rfl (aL (en:=ab) Ty.s45 rfl rfl rfl bq (raT lx)))⟩)
   ·exact og 3 ⟨rfl,(raE lD)⟩
   ·exact og 3 ⟨rfl,(raE lB)⟩
  ·refine ra3 1 3 13 ?_ ?_ ?_
   ·exact oO rfl (cO 3 (bB bi) ⟨rfl,(raT lC)⟩)
   ·exact og 3 ⟨rfl,(raT lD)⟩
   ·exact og 3 ⟨rfl,(raE lA)⟩
  ·refine ra3 1 7 13 ?_ ?_ ?_
   ·exact oO rfl (cO 3 (bB bi) ⟨rfl,(r0 4 rfl (aL (en:=ab) Ty.s45 rfl rfl rfl bq (rL [7,8,11,14,15,16] 7 rfl (raE jF))))⟩)
   ·exact og 3 ⟨rfl,(raT lD)⟩
   ·exact og 3 ⟨rfl,(raE lz)⟩
  ·refine ra3 1 3 7 ?_ ?_ ?_
   ·exact oO rfl (cO 3 (bB bi) ⟨rfl,(rL [7,8,11,14,15,16] 7 rfl (raE jG))⟩)
   ·exact og 3 ⟨rfl,(raT lz)⟩
   ·exact og 3 ⟨rfl,(raT lA)⟩
  ·refine ra3 1 3 10 ?_ ?_ ?_
   ·exact oO rfl (cO 3 (bB bi) ⟨rfl,(raT ly)⟩)
   ·exact og 3 ⟨rfl,(raT lB)⟩
   ·exact og 3 ⟨rfl,(raT lA)⟩
  ·refine ra3 1 7 10 ?_ ?_ ?_
   ·exact oO rfl (cO 3 (bB bi) ⟨rfl,(r0 4 rfl (aL (en:=ab) Ty.s45 rfl rfl rfl bq (rL [7,8,11,14,15,16] 7 rfl (raE jE))))⟩)
   ·exact og 3 ⟨rfl,(raT lB)⟩
   ·exact og 3 ⟨rfl,(raT lz)⟩
  ·refine ra4 3 8 10 13 ?_ ?_ ?_ ?_
   ·exact og 4 ⟨rfl,(r0 4 rfl (aL (en:=ab) Ty.s45 rfl rfl rfl bq (raT lx)))⟩
   ·exact oO rfl (cF (bu ca) ⟨rfl,(rL [10,11,14,15,16] 10 rfl (raE p8))⟩)
   ·exact og 4 ⟨rfl,(raT lC)⟩
   ·exact og 4 ⟨rfl,(raT ly)⟩
  ·refine ra2 1 13 ?_ ?_
   ·exact oO rfl (cO 3 (bB bi) ⟨rfl,(r0 4 rfl (aL (en:=ab) Ty.s45 rfl rfl rfl bq (raT jF)))⟩)
   ·exact og 3 ⟨rfl,(raE jH)⟩
  ·refine ra3 3 8 13 ?_ ?_ ?_
   ·exact og 4 ⟨rfl,(r0 4 rfl (aL (en:=ab) Ty.s45 rfl rfl rfl bq (raT jF)))⟩
   ·exact oO rfl (cF (bu ca) ⟨rfl,(raT p8)⟩)
   ·exact og 4 ⟨rfl,(raT jG)⟩
  ·refine ra2 1 10 ?_ ?_
   ·exact oO rfl (cO 3 (bB bi) ⟨rfl,(r0 4 rfl (aL (en:=ab) Ty.s45 rfl rfl rfl bq (raT jE)))⟩)
   ·exact og 3 ⟨rfl,(raT jH)⟩
  ·refine ra2 1 3 ?_ ?_
   ·exact oO rfl (cO 3 (bB bi) ⟨rfl,(raT jG)⟩)
   ·exact og 3 ⟨rfl,(raT jH)⟩
  ·refine ra2 1 7 ?_ ?_
   ·exact oO rfl (cO 3 (bB bi) ⟨rfl,(r0 4 rfl (aL (en:=ab) Ty.s45 rfl rfl rfl bq (rL [7,8,11,14,15,16] 7 rfl (raE ij))))⟩)
   ·exact og 3 ⟨rfl,(raT jH)⟩
  ·refine ra3 3 8 10 ?_ ?_ ?_
   ·exact og 4 ⟨rfl,(r0 4 rfl (aL (en:=ab) Ty.s45 rfl rfl rfl bq (raT jE)))⟩
   ·exact oO rfl (cF (bu ca) ⟨rfl,(rL [10,11,14,15,16] 10 rfl (raE lw))⟩)
   ·exact og 4 ⟨rfl,(raT jG)⟩
  ·refine ra4 5 8 10 13 ?_ ?_ ?_ ?_
   ·refine oO rfl (bL (en:=ab) (a:=x15) rfl rfl eF (bC Ty.k9 (c:=.str x15) rfl (ra3 8 10 13 ?_ ?_ ?_)))
    ·exact oO rfl (cF (bu ca) ⟨rfl,(rL [10,11,14,15,16] 10 rfl (raE lu))⟩)
    ·exact og 4 ⟨rfl,(raE p7)⟩
    ·exact og 4 ⟨rfl,(raE p6)⟩
   ·exact oO rfl (cF (bu ca) ⟨rfl,(rL [10,11,14,15,16] 10 rfl (raE lv))⟩)
   ·exact og 4 ⟨rfl,(raT jF)⟩
   ·exact og 4 ⟨rfl,(raT jE)⟩
  ·refine ra3 3 11 13 ?_ ?_ ?_
   ·exact og 4 ⟨rfl,(r0 4 rfl (aL (en:=ab) Ty.s45 rfl rfl rfl bq (raT lv)))⟩
   ·exact oO rfl (cF (dp dj) ⟨rfl,(rL [13,14,15,16] 13 rfl (raE p5))⟩)
   ·exact og 4 ⟨rfl,(raT lw)⟩
  ·exact ra1 1 (oO rfl (cO 3 (bB bi) ⟨rfl,(r0 4 rfl (aL (en:=ab) Ty.s45 rfl rfl rfl bq (raT ij)))⟩))
  ·refine ra2 3 8 ?_ ?_
   ·exact og 4 ⟨rfl,(r0 4 rfl (aL (en:=ab) Ty.s45 rfl rfl rfl bq (raT ij)))⟩
   ·exact oO rfl (cF (bu ca) ⟨rfl,(raT lw)⟩)
  ·refine ra3 5 8 13 ?_ ?_ ?_
   ·exact oO rfl (bL (en:=ab) (a:=x15) rfl rfl eF (bC Ty.k9 (c:=.str x15) rfl (raT p7)))
   ·exact oO rfl (cF (bu ca) ⟨rfl,(raT lv)⟩)
   ·exact og 4 ⟨rfl,(raT ij)⟩
  ·refine ra3 5 8 10 ?_ ?_ ?_
   ·exact oO rfl (bL (en:=ab) (a:=x15) rfl rfl eF (bC Ty.k9 (c:=.str x15) rfl (raT p6)))
   ·exact oO rfl (cF (bu ca) ⟨rfl,(rL [10,11,14,15,16] 10 rfl (raE jD))⟩)
   ·exact og 4 ⟨rfl,(raT ij)⟩
  ·refine ra2 3 11 ?_ ?_
   ·exact og 4 ⟨rfl,(r0 4 rfl (aL (en:=ab) Ty.s45 rfl rfl rfl bq (raT jD)))⟩
   ·exact oO rfl (cF (dp dj) ⟨rfl,(raT p5)⟩)
  ·refine ra3 5 11 13 ?_ ?_ ?_
   ·exact oO rfl (bL (en:=ab) (a:=x15) rfl rfl eF (bC Ty.k9 (c:=.str x15) rfl (raT lu)))
   ·exact oO rfl (cF (dp dj) ⟨rfl,(rL [13,14,15,16] 13 rfl (raE lq))⟩)
   ·exact og 4 ⟨rfl,(raT jD)⟩
  ·refine ra2 8 13 ?_ ?_
   ·exact oO rfl (cF (bu ca) ⟨rfl,(raT lu)⟩)
   ·exact og 4 ⟨rfl,(raE lr)⟩
  ·refine ra2 8 10 ?_ ?_
   ·exact oO rfl (cF (bu ca) ⟨rfl,(ra1 10 (og 4 ⟨rfl,(raE jC)⟩))⟩)
   ·exact og 4 ⟨rfl,(raT lr)⟩
  ·refine ra2 3 14 ?_ ?_
   ·exact og 4 ⟨rfl,(r0 4 rfl (aL (en:=ab) Ty.s45 rfl rfl rfl bq (raT lq)))⟩
   ·exact oO rfl (cF (dp dO) ⟨rfl,(ra1 3 (og 4 ⟨rfl,(r0 4 rfl (aL (en:=ab) Ty.s45 rfl rfl rfl bq (raE pZ)))⟩))⟩)
  ·refine ra2 5 8 ?_ ?_
   ·exact oO rfl (bL (en:=ab) (a:=x15) rfl rfl eF (bC Ty.k9 (c:=.str x15) rfl (raT lr)))
   ·exact oO rfl (cF (bu ca) ⟨rfl,(raT jD)⟩)
  ·refine ra2 11 13 ?_ ?_
   ·exact oO rfl (cF (dp dj) ⟨rfl,(ra1 13 (og 4 ⟨rfl,(raE lp)⟩))⟩)
   ·exact og 4 ⟨rfl,(raT jC)⟩
  ·refine ra2 5 11 ?_ ?_
   ·exact oO rfl (bL (en:=ab) (a:=x15) rfl rfl eF (bC Ty.k9 (c:=.str x15) rfl (raT jC)))
   ·exact oO rfl (cF (dp dj) ⟨rfl,(raT lq)⟩)
  ·exact ra1 8 (oO rfl (cF (bu ca) ⟨rfl,(raT jC)⟩))
  ·refine ra2 5 14 ?_ ?_
   ·exact oO rfl (bL (en:=ab) (a:=x15) rfl rfl eF (bC Ty.k9 (c:=.str x15) rfl (raT lp)))
   ·exact oO rfl (cF (dp dO) ⟨rfl,(raT pZ)⟩)
  ·exact ra1 11 (oO rfl (cF (dp dj) ⟨rfl,(raT lp)⟩))
  ·exact ra1 5 (oO rfl (bL (en:=ab) (a:=x15) rfl rfl eF (bC Ty.k9 (c:=.str x15) rfl (raE pY))))
  ·exact ra1 14 (oO rfl (cF (dp dO) ⟨rfl,(raT pY)⟩))
  exact ra1 15 (oO rfl (bM (rows:=List.map ab [x15,x16,x17,x18]) (vs:=[.str x15,.str x16,.str x17,.str x18]) Ty.s45 Ty.z9 rfl rfl rfl rfl rfl rfl (ra1 16 (oO rfl (cG [4,0,1] 5 4 (lK dN) ⟨rfl,(RA.done (by decide +kernel) (X 4 6 (lk h (wk [] [0,5] 6 rfl))))⟩)))))
 refine X 1 2 ?_;replace h:=mi h wU;refine B h fun x21 xo h=>(X 2 2 (sO (cG [0,1] 2 2 (qK xo) ⟨rfl,(Y 3 2 ?_)⟩)))
 cases h;exact tD
theorem jK {r:Net} (h:gc=some r):Fn Tryd.prog 19 [] (.agg (aF r)):=by unfold gc at h;refine fT 0 6 Tryd.func19 Tryd.ntmps19 rfl (sO (bM (rows:=List.map aj [0]) (vs:=[iI 0]) Ty.s53 Ty.z3 rfl rfl rfl rfl rfl rfl (Y 1 2 (sO (bM (rows:=List.map aj [1]) (vs:=[iI 1]) Ty.s53 Ty.z3 rfl rfl rfl rfl rfl rfl (Y 1 3 (sO (bM (rows:=List.map aj [0,1]) (vs:=[iI 0,iI 1]) Ty.s53 Ty.z3 rfl rfl rfl rfl rfl rfl (sO (bM (rows:=List.map aj [2]) (vs:=[iI 2]) Ty.s53 Ty.z3 rfl rfl rfl rfl rfl rfl (Y 1 5 (sO (bM (rows:=List.map aj [2]) (vs:=[iI 2]) Ty.s53 Ty.z3 rfl rfl rfl rfl rfl rfl (Y 1 6 ?_))))))))))))));refine RS.fC 1 (RS.fC 2 (RS.fC 3 (RS.fC 4 (RS.fC 5 (sO (qF (rows:=List.map al [(⟨1,0,[],[0]⟩:Node),(⟨1,1,[],[1]⟩:Node),(⟨6,0,[0,1],[2]⟩:Node),(⟨8,0,[2],[]⟩:Node)]) (vs:=[.agg [iI 1,iI 0,.nils,sL aj [0]],.agg [iI 1,iI 1,.nils,sL aj [1]],.agg [iI 6,iI 0,sL aj [0,1],sL aj [2]],.agg [iI 8,iI 0,sL aj [2],.nils]]) (vs2:=[.agg [iI 1,iI 0,sL aj [],sL aj [0]],.agg [iI 1,iI 1,sL aj [],sL aj [1]],.agg [iI 6,iI 0,sL aj [0,1],sL aj [2]],.agg [iI 8,iI 0,sL aj [2],sL aj []]]) Ty.s22 Ty.z55 rfl rfl rfl rfl rfl rfl (Y 3 7 ?_)))))));cases h;exact tD
theorem ku {p0 p1:List UInt8} {r:List (List UInt8)} (h:dD p0 p1=some r):Fn Tryd.prog 20 [.str p0,.str p1] (.sl (List.map ab r)):=tT p0 p1 r h
theorem o8 {p0:List UInt8} {r:Int} (h:atoiW p0=some r):Fn Tryd.prog 27 [.str p0] (.tup [.int .i64 r,.nili]):=vn p0 r h
theorem cE {p0:List UInt8} {r:Int} (h:dr p0=some r):Fn Tryd.prog 34 [.str p0] (iI r):=by
 unfold dr at h;refine fT 0 0 Tryd.func34 Tryd.ntmps34 rfl ?_;refine B h fun x2 hx2 h=>(X 7 0 (sO (cD (o8 hx2) ⟨rfl,(Y 7 0 ?_)⟩)))
 obtain ⟨xp,hz,h⟩:=bind_some h;revert hz h;revert xp;intro c4 hz h;refine j1 [(3,iI x2),(21,.bool c4)] [] ?_ (fun hK=>?_)
 ·refine T.ci h rfl (fun bh h=>?_) (fun bh h=>?_)
  ·cases h
  refine X 6 0 ?_;cases h;exact tD
 refine X 3 0 (sO (uw Tryd.underlying47 rfl (Yp 5 0 (gi 16 hz (fun ah hz=>?_) (fun ah hz=>?_)))))
 ·refine Yp 6 0 ?_;cases hz;exact sx hK
 refine B hz fun x3 hx3 hz=>(Y 1 0 (yO rfl (cF (bu hx3) ⟨rfl,(Yp 4 0 ?_)⟩)))
 cases hz;exact sx hK
theorem fw {p0:List UInt8} {r:List Int} (h:gY p0=some r):Fn Tryd.prog 35 [.str p0] (.sl (List.map aj r)):=rW p0 r h
theorem lN {p0:Int} {p1:List UInt8} {p2 p3:Int} {p4:List Node} {r:Bool × Int × Int × (List Node)} (h:cC p0 p1 p2 p3 p4=some r):FnX Tryd.prog 21 [.ptr 0 0,iI p0,.str p1] [.box [.ref 1,iI p2,iI p3],aR 55 4 al p4] (.bool r.1) [.box [.ref 2,iI r.2.1,iI r.2.2.1],.dead,aR 55 4 al r.2.2.2]:=by
 unfold cC at h;refine fnTD 2 Tryd.func21 Tryd.ntmps21 ?_;refine TD.seq (T.mvB 0 0 1 (cs:=[.ref 1,iI p2,iI p3]) rfl rfl rfl rfl (cs':=[.ref 2,iI p2,iI p3]) rfl rfl (T.region (go 1 3 (RS.nil (TD.defer 1 rfl (go 1 4 (RS.nil ⟨_,_,_,rfl,rfl,idleF,(T.seq ?_)⟩)))))));obtain ⟨x2,hx2,h⟩:=bind_some h;refine T.region (go 1 4 (sO (cD (ku hx2) ⟨rfl,(go 1 4 (RS.nil (T.seq (T.seq (T.region (go 2 4 (RS.nil ?_)))))))⟩)));refine T.ci h rfl (fun ah h=>?_) (fun ah h=>?_)
 ·refine T.seq ?_;obtain ⟨lE,hz,h⟩:=bind_some h;revert hz h;revert lE;intro c4 hz h;refine T.join (Z:=Unit) (fun _=>mkA 81 [(0,.ptr 0 0),(6,.ptr 2 0),(7,sL ab x2),(23,.bool c4)]) (fun _=>[.box [.ref 3,iI p2,iI p3],.dead,.box [.bool false],aR 55 4 al p4]) (fun _=>True) (fun _ _=>?_) (fun hK=>?_)
  ·refine T.ci h rfl (fun bE h=>?_) (fun bE h=>?_)
   ·refine T.seq (T.region (go 1 4 (RS.nil ?_)));cases h;exact tN [0,1,3]
   refine T.skip (T.seq ?_);obtain ⟨x9,hx9,h⟩:=bind_some h;obtain ⟨x10,b8,h⟩:=bind_some h;obtain ⟨x11,fc,h⟩:=bind_some h;obtain ⟨x12,cR,h⟩:=bind_some h;refine T.drawn mixed (k:=16) rfl ?_;apply RA.jn 7 (bm 16 511);intro hS5
   ·refine rq [0,1,2] 13 (r0 3 rfl (bb Ty.s45 (fun _=>rfl) rfl rfl hx9 (rq [6] 11 (r0 7 rfl (bb Ty.s45 (fun _=>rfl) rfl rfl fc (rL [4,5,9,10,11,12,13,14,15] 4 rfl (ra2 5 8 ?_ ?_)))))))
    ·exact oO rfl (cF (cE b8) ⟨rfl,(ra1 8 (og 4 ⟨rfl,(raE hS5)⟩))⟩)
    ·exact og 4 ⟨rfl,(ra1 5 (oO rfl (cF (cE b8) ⟨rfl,(raT hS5)⟩)))⟩
   refine ra1 9 (oO rfl (cF (cE cR) ⟨rfl,(rq [10,11] 4 (ra1 12 (og 4 ⟨rfl,(rq [13,14] 1 (ra1 15 (og 4 ⟨rfl,(RA.done (by decide +kernel) (T.seq ?_))⟩)))⟩)))⟩));refine T.region (go 1 4 (RS.nil ?_));cases h;exact tN [0,1,3]
  refine T.region (go 1 4 (sQ (aD Ty.s45 rfl (go 2 4 ?_))));rcases aK (((x2).length:Int) != 3) with ak | ak
  ·replace hz:=b7 hz ak;exact sN ak (sN ak (sN ak (sN ak (sQ (aW (v:=.bool true) rfl ak rfl (RS.nil (T.weakR (hK () trivial) (Weak.mkN [] [0,1,3,2] (by decide) (by decide) rfl ⟨cu rfl,cu rfl,rn_s rfl,cj ((congrArg (fun p=>p) (xA hz)).symm),tqz⟩ (dF (cs:=[.ref 3,iI p2,iI p3]) (ds:=[.ref 2,iI p2,iI p3]) rfl ⟨cZ rfl,aq rfl,aq rfl,tqz⟩ (ol rfl (rw_bs [.bool false] rfl (rw_ar rfl rfl (cm)))))))))))))
  replace hz:=bV hz ak;obtain ⟨x3,hx3,hz⟩:=bind_some hz;exact yg 4 ak (yQ ak (bb Ty.s45 (fun _=>rfl) rfl rfl hx3 (yg 4 ak (yg 4 ak (sQ (aT (v:=.bool (!(x3==[114,105,110,103,115]))) rfl ak rfl (RS.nil (T.weakR (hK () trivial) (Weak.mkN [] [0,1,3,2] (by decide) (by decide) rfl ⟨cu rfl,cu rfl,rn_s rfl,cj ((congrArg (fun p=>p) (xA hz)).symm),tqz⟩ (dF (cs:=[.ref 3,iI p2,iI p3]) (ds:=[.ref 2,iI p2,iI p3]) rfl ⟨cZ rfl,aq rfl,aq rfl,tqz⟩ (ol rfl (rw_bs [.bool false] rfl (rw_ar rfl rfl (cm))))))))))))))
 refine T.skip (T.seq (T.seq (T.region (go 1 4 (sQ (aD Ty.s45 rfl (go 1 4 (RS.nil (T.ci h rfl (fun lj h=>?_) (fun lj h=>?_))))))))))
 ·refine T.seq (T.region (go 1 4 (RS.nil ?_)));cases h;exact tN [0,1,2]
 refine T.skip (T.seq (T.seq ?_));obtain ⟨x14,bq,h⟩:=bind_some h;refine T.region (sO (cO 4 (bB bq) ⟨rfl,(sQ (fB (en:=ab) Ty.s45 rfl rfl (go 1 5 (RS.nil (T.block (T.iter (fun dh:Int=>mkA 81 [(0,.ptr 0 0),(6,.ptr 2 0),(7,sL ab x2),(41,.ref 3),(42,iI ((x14).length:Int)),(43,iI dh)]) (fun dh=>[.box [.ref 4,iI p2,iI p3],.dead,.box [.bool false],aR 9 1 ab x14,aR 55 4 al p4]) h (wk [] [0,1,3,4,2] 5 rfl) (fun dh v_38 h jy=>?_)))))))⟩));revert jy h;revert dh;intro s15 h jy;replace h:dk p2 x2 p3 p4 x14 s15=some v_38:=h;try dsimp only
 unfold dk at h;refine T.seq (T.region (go 1 5 (RS.nil (T.seq (T.ci h rfl (fun lh h=>?_) (fun lh h=>?_))))))
 ·refine T.skip (T.seq (T.block (T.seq ?_)));obtain ⟨x18,dO,h⟩:=bind_some h;obtain ⟨x19,dN,h⟩:=bind_some h;refine T.region (go 1 5 (sQ (aL (en:=ab) Ty.s45 rfl rfl rfl dO (sO (bL (en:=ab) (a:=x19) rfl rfl dN (bC Ty.k9 (c:=.str x19) rfl (go 2 5 (RS.nil ?_))))))));obtain ⟨wX,hz,h⟩:=bind_some h;revert hz h;revert wX;intro c21 hz h;refine T.join (Z:=Unit) (fun _=>mkA 81 [(0,.ptr 0 0),(6,.ptr 2 0),(7,sL ab x2),(8,iI s15),(41,.ref 3),(42,iI ((x14).length:Int)),(43,iI s15),(56,.bool c21)]) (fun _=>[.box [.ref 4,iI p2,iI p3],.dead,.box [.bool false],aR 9 1 ab x14,aR 55 4 al p4]) (fun _=>True) (fun _ _=>?_) (fun hK=>?_)
  ·refine T.ci h rfl (fun wY h=>?_) (fun wY h=>?_)
   ·refine T.seq ?_;obtain ⟨x29,xq,h⟩:=bind_some h;obtain ⟨x30,di,h⟩:=bind_some h;obtain ⟨x31,xr,h⟩:=bind_some h;obtain ⟨x32,jI,h⟩:=bind_some h;obtain ⟨x33,xt,h⟩:=bind_some h;obtain ⟨x34,jA,h⟩:=bind_some h;obtain ⟨x35,lm,h⟩:=bind_some h;refine T.drawn mixed (k:=24) rfl ?_;apply RA.jn 5 (bm 24 524287);intro p9;apply RA.jn 7 (bm 24 131071);intro lF;apply RA.jn 8 (bm 24 122879);intro jJ;apply RA.jn 8 (bm 24 131055);intro qa;apply RA.jn 9 (bm 24 122863);intro lG;apply RA.jn 9 (bm 24 122367);intro lH;apply RA.jn 9 (bm 24 57343);intro lI;apply RA.jn 10 (bm 24 57327);intro qb;apply RA.jn 10 (bm 24 118271);intro qc;apply RA.jn 10 (bm 24 122351);intro qd;apply RA.jn 10 (bm 24 56831);intro qe
    ·refine rq [0,1,2,3,5,6] 18 (r0 7 rfl (bb Ty.s45 (fun _=>rfl) rfl rfl xq (rq [10] 16 (r0 11 rfl (bb Ty.s45 (fun _=>rfl) rfl rfl xr (rq [14] 14 (r0 15 rfl (bb Ty.s45 (fun _=>rfl) rfl rfl xt (rL [8,9,13,17,18,19,20,21,22,23] 8 rfl (ra4 4 9 12 16 ?_ ?_ ?_ ?_))))))))))
     ·refine og 5 ⟨rfl,(ra3 9 12 16 ?_ ?_ ?_)⟩
      ·exact oO rfl (cF (cE di) ⟨rfl,(rL [12,13,17,18,19,20,21,22,23] 12 rfl (raE lI))⟩)
      ·exact og 5 ⟨rfl,(raE qe)⟩
      ·exact og 5 ⟨rfl,(raE qc)⟩
     ·exact oO rfl (cF (cE di) ⟨rfl,(rL [12,13,17,18,19,20,21,22,23] 12 rfl (raE qb))⟩)
     ·refine og 5 ⟨rfl,(ra3 4 9 16 ?_ ?_ ?_)⟩
      ·exact og 5 ⟨rfl,(raT qe)⟩
      ·exact oO rfl (cF (cE di) ⟨rfl,(raT qb)⟩)
      ·exact og 5 ⟨rfl,(raE qd)⟩
     ·refine og 5 ⟨rfl,(ra3 4 9 12 ?_ ?_ ?_)⟩
      ·exact og 5 ⟨rfl,(raT qc)⟩
      ·exact oO rfl (cF (cE di) ⟨rfl,(rL [12,13,17,18,19,20,21,22,23] 12 rfl (raE lG))⟩)
      ·exact og 5 ⟨rfl,(raT qd)⟩
    ·refine ra2 9 16 ?_ ?_
     ·exact oO rfl (cF (cE di) ⟨rfl,(raT lI)⟩)
     ·exact og 5 ⟨rfl,(raE lH)⟩
    ·refine ra2 4 9 ?_ ?_
     ·exact og 5 ⟨rfl,(raT lH)⟩
     ·exact oO rfl (cF (cE di) ⟨rfl,(raT lG)⟩)
    ·refine ra2 9 12 ?_ ?_
     ·exact oO rfl (cF (cE di) ⟨rfl,(ra1 12 (og 5 ⟨rfl,(raE jJ)⟩))⟩)
     ·exact og 5 ⟨rfl,(raT lH)⟩
    ·refine ra3 4 13 16 ?_ ?_ ?_
     ·exact og 5 ⟨rfl,(raT lI)⟩
     ·exact oO rfl (cD (fw jI) ⟨rfl,(rL [16,17,18,19,20,21,22,23] 16 rfl (raE qa))⟩)
     ·exact og 5 ⟨rfl,(raT lG)⟩
    ·refine ra2 13 16 ?_ ?_
     ·exact oO rfl (cD (fw jI) ⟨rfl,(ra1 16 (og 5 ⟨rfl,(raE lF)⟩))⟩)
     ·exact og 5 ⟨rfl,(raT jJ)⟩
    ·exact ra1 9 (oO rfl (cF (cE di) ⟨rfl,(raT jJ)⟩))
    ·refine ra2 4 13 ?_ ?_
     ·exact og 5 ⟨rfl,(raT jJ)⟩
     ·exact oO rfl (cD (fw jI) ⟨rfl,(raT qa)⟩)
    ·refine ra2 4 17 ?_ ?_
     ·exact og 5 ⟨rfl,(raT lF)⟩
     ·exact oO rfl (cD (fw jA) ⟨rfl,(rq [18] 6 (rL [4,20,21,22,23] 4 rfl (raE p9)))⟩)
    ·exact ra1 13 (oO rfl (cD (fw jI) ⟨rfl,(raT lF)⟩))
    ·exact ra1 17 (oO rfl (cD (fw jA) ⟨rfl,(rq [18] 5 (raT p9))⟩))
    refine ra1 19 (oO rfl (bM (rows:=List.map al [(⟨s15,x30,x32,x34⟩:Node)]) (vs:=[.agg [iI s15,iI x30,sL aj x32,sL aj x34]]) Ty.s22 Ty.z55 rfl rfl rfl rfl rfl rfl (ra1 20 (oO rfl (fy (en:=al) (xs:=p4) (ys:=([(⟨s15,x30,x32,x34⟩:Node)]:List Node)) Ty.s22 (fun _=>rfl) rfl rfl rfl lm rfl rfl (rq [21,22] 1 (ra1 23 (og 7 ⟨rfl,(RA.done (by decide +kernel) (T.seq (T.region ?_)))⟩))))))));refine go 1 7 (RS.nil ?_);obtain ⟨w_54,h,hw_54⟩:=kC h;replace h:=h.trans (congrArg some (jy _ hw_54));cases h;exact tN [0,1,6]
   exact T.skip (T.region (go 2 5 (RS.nil (⟨IntKind.i64.wrap (s15+1),(xA h).symm,wk [] [0,1,2,3,4] 5 rfl⟩))))
  refine T.region (go 3 5 ?_);rcases aK (decide (s15 > 0)) with aA | aA
  ·replace hz:=b7 hz aA;obtain ⟨x20,lJ,hz⟩:=bind_some hz;exact yg 5 aA (yg 5 aA (yQ aA (bb Ty.s45 (fun _=>rfl) rfl rfl lJ (yg 5 aA (yg 5 aA (sQ (aW (v:=.bool (x19==x20)) rfl aA rfl (RS.nil (T.sub (hK () trivial) ⟨rfl,rfl,rfl,rfl,rfl,rfl,rfl,(congrArg AV.bool ((congrArg (fun p=>p) (xA hz)).symm)).symm,tqz⟩)))))))))
  replace hz:=bV hz aA;exact sN aA (sN aA (sN aA (sN aA (sN aA (sQ (aT (v:=.bool false) rfl aA rfl (RS.nil (T.sub (hK () trivial) ⟨rfl,rfl,rfl,rfl,rfl,rfl,rfl,(congrArg AV.bool ((congrArg (fun p=>p) (xA hz)).symm)).symm,tqz⟩))))))))
 refine T.exit ?_;obtain ⟨w_55,h,hw_55⟩:=kC h;replace h:=h.trans (congrArg some (jy _ hw_55));refine T.seq (T.region (go 1 5 (RS.nil ?_)));cases h;exact tN [0,1,4]
theorem lX {p0:List UInt8} {r:Net × Int × Int} (h:d6 p0=some r):Fn Tryd.prog 6 [.str p0] (.tup [.agg (aF r.1),iI r.2.1,iI r.2.2]):=by
 unfold d6 at h;refine fT 0 13 Tryd.func6 Tryd.ntmps6 rfl (T.ci h rfl (fun ah h=>?_) (fun ah h=>?_))
 ·refine X 7 1 ?_;cases h;exact tD
 refine B h fun x2 hx2 h=>(X 4 1 (sO (cD (ku hx2) ⟨rfl,(Y 6 1 (sQ (aD Ty.s45 rfl (Y 3 1 (nB 0 0 55 4 1 (itr (fun bD:Int × Int × Int × (List Node)=>mkA 57 [(2,.ptr 0 0),(5,sL ab x2),(16,sL ab x2),(17,iI ((x2).length:Int)),(18,iI bD.1)]) (fun bD=>[.box [.ref 1,iI bD.2.1,iI bD.2.2.1],aR 55 4 al bD.2.2.2]) h (wk [] [0,1] 2 rfl) (fun bD v_27 h pV=>?_)))))))⟩)))
 obtain ⟨s3,s4,s5,s6⟩:=bD;replace h:ba x2 s3 s4 s5 s6=some v_27:=h;try dsimp only
 unfold ba at h;refine X 5 2 (T.ci h rfl (fun wZ h=>?_) (fun wZ h=>?_))
 ·refine B h fun x8 hx8 h=>(X 6 2 (sQ (bb Ty.s45 (fun _=>rfl) rfl rfl hx8 (Y 8 2 (sQ (aD Ty.s45 rfl (Y 4 2 ?_)))))))
  obtain ⟨lg,hz,h⟩:=bind_some h;obtain ⟨c11,c12,c13,c14⟩:=lg;refine j1 [(2,.ptr 0 0),(5,sL ab x2),(6,iI s3),(16,sL ab x2),(17,iI ((x2).length:Int)),(18,iI s3),(46,.bool c11)] [.box [.ref 1,iI c12,iI c13],aR 55 4 al c14] ?_ (fun hK=>?_)
  ·refine T.ci h rfl (fun w6 h=>?_) (fun w6 h=>?_)
   ·refine X 8 2 ?_;replace h:=mi h pV;cases h;exact tD
   exact X 5 2 (lk h (wk [] [0,1] 2 rfl))
  refine X 4 2 ?_;rcases aK (s3==(IntKind.i64.wrap (((x2).length:Int) - 1))) with bK | bK
  ·replace hz:=b7 hz bK;refine yg 2 bK (yg 2 bK (yg 2 bK ?_));rcases aK (!(x8==[])) with fb | fb
   ·replace hz:=b7 hz fb;exact gT 32 fb (Y 2 2 (gT 29 bK (Yp 13 2 (T.weakR hK (Weak.mkN [] [0,1] (by decide) (cH _) rfl ⟨cu rfl,rn_s rfl,aq rfl,rn_s rfl,aq rfl,aq rfl,cj ((congrArg (fun p=>p.1) (xA hz)).symm),tqz⟩ (dF (cs:=[.ref 1,iI c12,iI c13]) (ds:=[.ref 1,iI s4,iI s5]) rfl ⟨cZ rfl,aq ((congrArg (fun p=>p.2.1) (xA hz)).symm),aq ((congrArg (fun p=>p.2.2.1) (xA hz)).symm),tqz⟩ (rw_ar rfl ((congrArg (fun p=>p.2.2.2) (xA hz)).symm) (cm))))))))
   replace hz:=bV hz fb;refine yg 2 fb (yg 2 fb (yQ bK (aT (v:=.bool (s3==0)) rfl fb rfl (sQ (aW (v:=.bool (s3==0)) rfl bK rfl (Y 1 2 ?_))))));rcases aK (s3==0) with dL | dL
   ·replace hz:=b7 hz dL;exact gT 37 dL (Yp 10 2 (T.weakR hK (Weak.mkN [] [0,1] (by decide) (cH _) rfl ⟨cu rfl,rn_s rfl,aq rfl,rn_s rfl,aq rfl,aq rfl,cj ((congrArg (fun p=>p.1) (xA hz)).symm),tqz⟩ (dF (cs:=[.ref 1,iI c12,iI c13]) (ds:=[.ref 1,iI s4,iI s5]) rfl ⟨cZ rfl,aq ((congrArg (fun p=>p.2.1) (xA hz)).symm),aq ((congrArg (fun p=>p.2.2.1) (xA hz)).symm),tqz⟩ (rw_ar rfl ((congrArg (fun p=>p.2.2.2) (xA hz)).symm) (cm))))))
   replace hz:=bV hz dL;refine yg 2 dL (yg 2 dL (yg 2 dL ?_));rcases aK (!(s3==(IntKind.i64.wrap (((x2).length:Int) - 1)))) with ic | ic
   ·replace hz:=b7 hz ic;exact B hz fun x9 hx9 hz=>(gT 40 ic (Y 2 2 (yO rfl (cG [0,1] 2 3 (lN hx9) ⟨rfl,(Y 1 3 (gF 37 dL (Yp 3 3 (T.weakR hK (Weak.mkN [] [0,2] (by decide) (cH _) rfl ⟨cu rfl,rn_s rfl,aq rfl,rn_s rfl,aq rfl,aq rfl,cj ((congrArg (fun p=>p.1) (xA hz)).symm),tqz⟩ (dF (cs:=[.ref 1,iI c12,iI c13]) (ds:=[.ref 2,iI x9.2.1,iI x9.2.2.1]) rfl ⟨cZ rfl,aq ((congrArg (fun p=>p.2.1) (xA hz)).symm),aq ((congrArg (fun p=>p.2.2.1) (xA hz)).symm),tqz⟩ (rw_ar rfl ((congrArg (fun p=>p.2.2.2) (xA hz)).symm) (cm))))))))⟩))))
   replace hz:=bV hz ic;exact gF 40 ic (Y 4 2 (gF 37 dL (Yp 3 2 (T.weakR hK (Weak.mkN [] [0,1] (by decide) (cH _) rfl ⟨cu rfl,rn_s rfl,aq rfl,rn_s rfl,aq rfl,aq rfl,cj ((congrArg (fun p=>p.1) (xA hz)).symm),tqz⟩ (dF (cs:=[.ref 1,iI c12,iI c13]) (ds:=[.ref 1,iI s4,iI s5]) rfl ⟨cZ rfl,aq ((congrArg (fun p=>p.2.1) (xA hz)).symm),aq ((congrArg (fun p=>p.2.2.1) (xA hz)).symm),tqz⟩ (rw_ar rfl ((congrArg (fun p=>p.2.2.2) (xA hz)).symm) (cm))))))))
  replace hz:=bV hz bK;refine sN bK (sN bK (sN bK (sU (sU (sN bK (sQ (aT (v:=.bool false) rfl bK rfl (Y 1 2 (yg 2 rfl (yg 2 rfl ?_))))))))));refine yg 2 rfl ?_;rcases aK (!(s3==(IntKind.i64.wrap (((x2).length:Int) - 1)))) with ig | ig
  ·replace hz:=b7 hz ig;exact B hz fun x10 b8 hz=>(gT 40 ig (Y 2 2 (yO rfl (cG [0,1] 2 3 (lN b8) ⟨rfl,(Yp 4 3 (T.weakR hK (Weak.mkN [] [0,2] (by decide) (cH _) rfl ⟨cu rfl,rn_s rfl,aq rfl,rn_s rfl,aq rfl,aq rfl,cj ((congrArg (fun p=>p.1) (xA hz)).symm),tqz⟩ (dF (cs:=[.ref 1,iI c12,iI c13]) (ds:=[.ref 2,iI x10.2.1,iI x10.2.2.1]) rfl ⟨cZ rfl,aq ((congrArg (fun p=>p.2.1) (xA hz)).symm),aq ((congrArg (fun p=>p.2.2.1) (xA hz)).symm),tqz⟩ (rw_ar rfl ((congrArg (fun p=>p.2.2.2) (xA hz)).symm) (cm))))))⟩))))
  replace hz:=bV hz ig;exact gF 40 ig (Yp 7 2 (T.weakR hK (Weak.mkN [] [0,1] (by decide) (cH _) rfl ⟨cu rfl,rn_s rfl,aq rfl,rn_s rfl,aq rfl,aq rfl,cj ((congrArg (fun p=>p.1) (xA hz)).symm),tqz⟩ (dF (cs:=[.ref 1,iI c12,iI c13]) (ds:=[.ref 1,iI s4,iI s5]) rfl ⟨cZ rfl,aq ((congrArg (fun p=>p.2.1) (xA hz)).symm),aq ((congrArg (fun p=>p.2.2.1) (xA hz)).symm),tqz⟩ (rw_ar rfl ((congrArg (fun p=>p.2.2.2) (xA hz)).symm) (cm))))))
 refine X 1 2 ?_;replace h:=mi h pV;refine B h fun x16 ca h=>(X 4 2 (sO (cF (me ca) ⟨rfl,(Y 7 2 (T.ci h rfl (fun ii h=>?_) (fun ii h=>?_)))⟩)))
 ·refine X 8 2 ?_;cases h;exact tD
 refine X 8 2 ?_;cases h;exact tD
theorem lM {p0 p1:List Int} {r:Bool} (h:dm p0 p1=some r):Fn Tryd.prog 24 [sL aj p0,sL aj p1] (.bool r):=by
 unfold dm at h;refine fT 0 8 Tryd.func24 Tryd.ntmps24 rfl (sQ (aD Ty.s53 rfl (Y 1 0 (sQ (aD Ty.s53 rfl (Y 2 0 (T.ci h rfl (fun ah h=>?_) (fun ah h=>?_))))))))
 ·refine X 4 0 ?_;cases h;exact tD
 refine X 5 0 (sQ (aD Ty.s53 rfl (Y 3 0 (itr (fun bg:Int=>mkA 26 [(0,sL aj p0),(1,sL aj p1),(12,iI ((p0).length:Int)),(13,iI bg)]) (fun bg=>[]) h (wk [] [] 0 rfl) (fun bg v_7 h cb=>?_)))));revert cb h;revert bg;intro s1 h cb;replace h:eG p0 p1 s1=some v_7:=h;try dsimp only
 unfold eG at h;refine X 5 0 (T.ci h rfl (fun cq h=>?_) (fun cq h=>?_))
 ·refine B h fun x4 hx4 h=>(B h fun x5 hx5 h=>(X 9 0 (T.drawn mixed (k:=9) rfl (rq [0,1] 7 (r0 2 rfl (bb Ty.s53 (fun _=>rfl) rfl rfl hx4 (rq [4,5] 4 (r0 6 rfl (bb Ty.s53 (fun _=>rfl) rfl rfl hx5 (rL [3,8] 3 rfl (ra1 7 ?_)))))))))))
  refine og 0 ⟨rfl,(rq [8] 0 (RA.done (by decide +kernel) (T.ci h rfl (fun dM h=>?_) (fun dM h=>?_))))⟩
  ·refine X 4 0 ?_;replace h:=mi h cb;cases h;exact tD
  exact X 5 0 (lk h (wk [] [] 0 rfl))
 refine X 1 0 ?_;replace h:=mi h cb;refine X 4 0 ?_;cases h;exact tD
theorem qk {p0 p1:Node} {r:Bool} (h:eH p0 p1=some r):Fn Tryd.prog 23 [.agg (al p0),.agg (al p1)] (.bool r):=by
 unfold eH at h;refine fT 0 6 Tryd.func23 Tryd.ntmps23 rfl ?_;obtain ⟨xu,hz,h⟩:=bind_some h;revert hz h;revert xu;intro c3 hz h;refine j1 [(4,.bool c3)] [] ?_ (fun hK=>?_)
 ·cases h;exact tD
 refine X 8 2 (gi 10 hz (fun ah hz=>?_) (fun ah hz=>?_))
 ·refine Yp 7 2 (gi 17 hz (fun ak hz=>?_) (fun ak hz=>?_))
  ·refine B hz fun x1 hx1 hz=>(Y 4 2 (yO rfl (cF (lM hx1) ⟨rfl,(Yp 2 2 (gi 24 hz (fun bh hz=>?_) (fun bh hz=>?_)))⟩)))
   ·refine B hz fun x2 hx2 hz=>(Y 4 2 (yO rfl (cF (lM hx2) ⟨rfl,(Yp 3 2 ?_)⟩)))
    cases hz;exact wu hK [] [] 2 rfl
   refine Yp 8 2 ?_;cases hz;exact wu hK [] [] 2 rfl
  refine Yp 15 2 ?_;cases hz;exact wu hK [] [] 2 rfl
 refine Yp 22 2 ?_;cases hz;exact wu hK [] [] 2 rfl
theorem qf {p0 p1:List Node} {r:Bool} (h:fe p0 p1=some r):Fn Tryd.prog 22 [sL al p0,sL al p1,.func 23 []] (.bool r):=by
 unfold fe at h;refine fT 0 8 Tryd.func22 Tryd.ntmps22 rfl (sQ (aD Ty.s22 rfl (Y 1 0 (sQ (aD Ty.s22 rfl (Y 2 0 (T.ci h rfl (fun ah h=>?_) (fun ah h=>?_))))))))
 ·refine X 4 0 ?_;cases h;exact tD
 refine X 5 0 (sQ (aD Ty.s22 rfl (Y 3 0 (itr (fun bg:Int=>mkA 32 [(1,sL al p1),(2,.func 23 []),(15,sL al p0),(16,iI ((p0).length:Int)),(17,iI bg)]) (fun bg=>[]) h (wk [] [] 0 rfl) (fun bg v_7 h cb=>?_)))));revert cb h;revert bg;intro s1 h cb;replace h:cc p0 p1 s1=some v_7:=h;try dsimp only
 unfold cc at h;refine X 5 0 (T.ci h rfl (fun cq h=>?_) (fun cq h=>?_))
 ·refine B h fun x3 hx3 h=>(X 6 0 (sQ (bb Ty.s22 (fun _=>rfl) rfl rfl hx3 (B h fun x5 hx5 h=>(Y 9 0 (sQ (bb Ty.s22 (fun _=>rfl) rfl rfl hx5 (B h fun x7 hx7 h=>(Y 9 1 (sO (cF (qk hx7) ⟨rfl,(Y 2 2 ?_)⟩)))))))))))
  refine T.ci h rfl (fun dM h=>?_) (fun dM h=>?_)
  ·refine X 4 2 ?_;replace h:=mi h cb;cases h;exact tD
  exact X 5 2 (lk h (wk [] [] 2 rfl))
 refine X 1 0 ?_;replace h:=mi h cb;refine X 4 0 ?_;cases h;exact tD
theorem lL {p0 p1:Net} {r:Bool} (h:dl p0 p1=some r):Fn Tryd.prog 7 [.agg (aF p0),.agg (aF p1)] (.bool r):=by
 unfold dl at h;refine fT 0 6 Tryd.func7 Tryd.ntmps7 rfl ?_;obtain ⟨lE,hz,h⟩:=bind_some h;revert hz h;revert lE;intro c2 hz h;refine j1 [(4,.bool c2)] [] ?_ (fun hK=>?_)
 ·cases h;exact tD
 refine X 8 2 (gi 10 hz (fun ah hz=>?_) (fun ah hz=>?_))
 ·refine Yp 7 2 (gi 17 hz (fun ak hz=>?_) (fun ak hz=>?_))
  ·refine B hz fun x1 hx1 hz=>(Y 4 2 (yO rfl (cF (qf hx1) ⟨rfl,(Yp 3 2 ?_)⟩)))
   cases hz;exact wu hK [] [] 2 rfl
  refine Yp 8 2 ?_;cases hz;exact wu hK [] [] 2 rfl
 refine Yp 15 2 ?_;cases hz;exact wu hK [] [] 2 rfl
end
section
open Go.RowKit
theorem Sim.other {aw:List Ob} {σ:List Value} {w w':World} {F:Nat->Prop} (h:Sim aw σ w F) (hk:∀ b,(F b∨Dof aw σ b)->w'.heap[b]?=w.heap[b]?) (hs:w.heap.size<=w'.heap.size):Sim aw σ w' F :=
 ⟨h.len,fun k o v ho hv=>(h.obj k o v ho hv).mono (fun _ _ e=>e) (fun _ e=>e) (fun b hb=>hk b (.inl hb)) (fun hl b hb=>⟨hk b (.inr ⟨k,o,v,ho,hl,hv,hb⟩),h.free ⟨k,o,v,ho,hl,hv,hb⟩⟩),h.sep,
  fun b hb=>xT (h.lt b hb) hs,h.gd.mono (fun _ hb=>hb) fun b hb=>hk b (.inl hb)⟩
section
variable {P:Program} {ops:Array Oper} {Q:Exit→Act→World→Prop} {rest:List Oper} {o:Oper} {a:Act} {w w':World} {v:Value}
theorem fQ (hg:o.guard=none) (h:(execOp a.eval o).run P w=.ok (.value v) w') (hk:wpList P ops Q rest (a.put o.dst v) w'):wpList P ops Q (o::rest) a w :=
 wpList_plain hg fun K hK=>by unfold Oper.wp;rw [h];exact hK _ _ hk
end
structure AgF (W:List Nat) (a a':Act):Prop where
 sz:a'.tmps.size=a.tmps.size
 ds:a'.defers=a.defers
 tm:∀ t,t ∉ W->a'.tmps[t]?=a.tmps[t]?
theorem AgF.refl (W:List Nat) (a:Act):AgF W a a:=⟨rfl,rfl,fun _ _=>rfl⟩
theorem AgF.put {W:List Nat} {a a':Act} (h:AgF W a a') {t:Nat} (ht:t∈W) (v:Value):AgF W a (a'.put (some t) v):=by
 refine ⟨by simp [Act.put,h.sz],by simp [Act.put,h.ds],fun s hs=>?_⟩;have hne:¬ t=s:=fun e=>hs (e▸ht)
 simp only [Act.put,Array.getElem?_setIfInBounds,hne,if_false];exact h.tm s hs
theorem ub {a:Act} {t:Nat} (h:t<a.tmps.size) (v:Value):(a.put (some t) v).tmps[t]?=some v:=by simp [Act.put,h]
theorem tj {a:Act} {t:Nat} {v:Value} (h:a.tmps[t]?=some v):a.eval (.tmp t)=v:=by show a.tmps.getD t undef=v;simp [Array.getD,h];grind
end
section
open Go.RowKit
open Go.ChangeMaps (setBlock)
section
variable {P:Program} {N n:Nat} {fr fr':List AV} {aw aw':List Ob} {l:List (Nat × AV)} {s:St} {σ σ':List Value} {w w':World} {F F':Nat→Prop} {a a':Act}
theorem Cur.other {r:Nat} (h:Cur s fr aw σ w F a) (hr:s.w.heap.size<=r) (hF:¬ F r) (hD:¬ Dof aw σ r) (hk:∀ b,b≠r->w'.heap[b]?=w.heap[b]?) (hs:w'.heap.size=w.heap.size) (hos:w'.os=w.os) (ht:w'.tape=w.tape) (ho:Drw w w') :
  Cur s fr aw σ w' F a :=
 have h1:∀ b,(F b∨Dof aw σ b)->w'.heap[b]?=w.heap[b]?:=fun b hb=>hk b (fun e=>by subst e;exact hb.elim hF hD)
 ⟨h.sim.other h1 (by omega),⟨h.fr.1.mono (fun _ _ e=>e) (fun _ e=>e) fun b hb=>h1 b (.inl hb),h.fr.2⟩,
  ⟨hos.trans h.mv.os,ht.trans h.mv.tape,⟨ho.1.trans h.mv.output.1,yx h.mv.output.2 ho.2⟩,by have:=h.mv.size;omega,fun b hb hd=>(hk b (by omega)).trans (h.mv.keep b hb hd),h.mv.pre,h.mv.sub,h.mv.sup,h.mv.own⟩,h.ds⟩
def Bs (aw:List Ob) (σ:List Value) (w:World) (F:Nat->Prop) (b:Nat):Prop:=b<w.heap.size/\¬ F b/\¬ Dof aw σ b
theorem Bs.mv {b:Nat} (h:Bs aw σ w F b) (m:Mv aw σ w F aw' σ' w' F'):Bs aw' σ' w' F' b/\w'.heap[b]?=w.heap[b]? :=
 ⟨⟨xT h.1 m.size,fun hF=>(m.sup b hF).elim h.2.1 fun q=>q.elim h.2.2 fun q=>by have:=h.1;omega,fun hD=>(m.own b hD).elim h.2.2 fun q=>by have:=h.1;omega⟩,m.keep b h.1 h.2.2⟩
theorem Cur.here (h:Cur s fr aw σ w F a):Cur ⟨aw,σ,w,F,a.defers⟩ fr aw σ w F a:=⟨h.sim,h.fr,.refl ..,rfl⟩
theorem Cur.thence (h:Cur s fr aw σ w F a) (h':Cur ⟨aw,σ,w,F,a.defers⟩ fr' aw' σ' w' F' a'):Cur s fr' aw' σ' w' F' a':=⟨h'.sim,h'.fr,h.mv.trans h'.mv,h'.ds.trans h.ds⟩
theorem T.beside {c:Code} {Q:Exit->List AV->List Ob->Prop} (hN:aw.length=N) (h:T P N c Q fr aw) (hc:Cur s fr aw σ w F a) :
  c.wp P (fun e a' w'=>∃ fr' aw' σ' F',Q e fr' aw'/\Cur s fr' aw' σ' w' F' a'/\Mv aw σ w F aw' σ' w' F') a w :=
 wp_mono (h.out ⟨aw,σ,w,F,a.defers⟩ hN hc.sim.len σ w F a hc.here) fun e a' w' ⟨fr',aw',σ',F',hq,h'⟩=>⟨fr',aw',σ',F',hq,hc.thence h',h'.mv⟩
theorem RS.beside {ops:Array Oper} {os:List Oper} {K:List AV->List Ob->Prop} (hN:aw.length=N) (h:RS P N ops os K fr aw) (hc:Cur s fr aw σ w F a) {Q:Exit->Act->World->Prop}
  (hQ:∀ fr' aw' σ' w' F' a',K fr' aw'->Cur s fr' aw' σ' w' F' a'->Mv aw σ w F aw' σ' w' F'->Q .normal a' w'):wpList P ops Q os a w :=
 h.out ⟨aw,σ,w,F,a.defers⟩ hN hc.sim.len σ w F a hc.here Q fun fr' aw' σ' w' F' a' h' hK=>hQ fr' aw' σ' w' F' a' hK (hc.thence h') h'.mv
theorem Cur.putA (h:Cur s (mkA n l) aw σ w F a) {r:AV} {v:Value} (hr:Rel σ w F r v) (t:Nat):Cur s (mkA n ((t,r)::l)) aw σ w F (a.put (some t) v):=by have:=bl h hr (some t);rwa [br] at this
theorem Cur.cst (h:Cur s (mkA n l) aw σ w F a) {t:Nat} {v:Value} (he:evA n l (.tmp t)=.cst v):a.eval (.tmp t)=v:=by have:=h.fr.ev (.tmp t);rw [aa,he] at this;generalize a.eval (.tmp t)=u at this;cases this;rfl
theorem oY {t u:Nat} {r:AV} (h:u≠t):evA n ((u,r)::l) (.tmp t)=evA n l (.tmp t):=by rw [<- aa,<- aa];show (mkA n ((u,r)::l)).getD t .any=(mkA n l).getD t .any;rw [xK,xK,bU,bU,dy,if_neg h]
theorem qG {α:Type} {f:α->Nat} {Z ds:List α} (hZ:(Z.map f).Nodup) (hd:(ds.map f).Nodup) (hs:∀ d,d∈ds->d∈Z) (ha:∀ z,z∈Z->f z∈ds.map f):ds.Perm Z:=by
 induction ds generalizing Z with
 | nil =>
  cases Z with
  | nil=>exact .refl _
  | cons z Z=>have:=ha z xC;simp at this
 | cons d ds ih =>
  obtain ⟨A,B,rfl⟩:=List.append_of_mem (hs d xC);have hp:(A++d::B).Perm (d::(A++B)):=List.perm_middle;have hZ':((d::(A++B)).map f).Nodup:=(hp.map f).nodup_iff.1 hZ;rw [xM,yM] at hZ' hd;refine (List.Perm.cons d (ih hZ'.2 hd.2 (fun x hx=>?_) fun z hz=>?_)).trans hp.symm
  ·have h1:=hp.mem_iff.1 (hs x (xH _ hx));rcases yc.1 h1 with rfl | h1
   ·exact absurd (List.mem_map_of_mem hx) hd.1
   ·exact h1
  ·have h1:=ha z (hp.mem_iff.2 (xH _ hz));rcases yc.1 h1 with h1 | h1
   ·exact absurd (h1▸List.mem_map_of_mem hz) hZ'.1
   ·exact h1
theorem nI {α:Type} {f:α->Nat}:∀ {Z ds:List α},(ds.map f).Nodup->(∀ d,d∈ds->d∈Z)->ds.length<=Z.length
 | Z,[],_,_=>xY _
 | Z,d::ds,hd,hs=>by
  obtain ⟨A,B,rfl⟩:=List.append_of_mem (hs d xC);rw [xM,yM] at hd;have:=nI (Z:=A++B) hd.2 fun x hx=>by
   have h1:=(List.perm_middle.mem_iff).1 (hs x (xH _ hx));rcases yc.1 h1 with rfl | h1
   ·exact absurd (List.mem_map_of_mem hx) hd.1
   ·exact h1
  simp only [xF,xE] at this ⊢;omega
theorem fS {m:Sem Value} {v:Value} (h:m.run P w=.ok v w'):((do pure (.value (<- m)):Sem Next)).run P w=.ok (.value v) w':=by simp only [Sem.run_bind,h,Result.andThen_ok,Sem.run_pure]
theorem Cur.slot (h:Cur s (mkA n l) aw σ w F a) {t:Nat} (ht:t<n) (v:Value):(a.put (some t) v).eval (.tmp t)=v:=by have h1:=h.fr.1.1;rw [eT] at h1;exact tj (ub (by simp at h1;omega) v)
theorem oz {x:Operand} {k:Nat} {vs:Array Value} {v:Value} (he:a.eval x=.tuple vs) (hv:vs[k]?=some v):(Instr.extract (a.eval x) k).run P w=.ok v w:=by rw [he];simp [Instr.extract,hv,Sem.run_pure]
theorem sZ {κ ν:Type} {ek:κ->AV} {ev:ν->AV} {L:Value->List (κ × ν)->List (Nat × AV)} {A:List (κ × ν)->List Ob} {Q:Exit->List AV->List Ob->Prop}
  {Z:List (MapEntry × (κ × ν))} {es:Array MapEntry} {clock bm r:Nat} (hZ:Z.map (·.1)=es.toList) (hrel:∀ z,z∈Z->∀ σ w F,Rel σ w F (ek z.2.1) z.1.key/\Rel σ w F (ev z.2.2) z.1.val) (hborn:Born es clock)
  {b b1 i5 i6 tn te ti tE:Nat} {ty1 ty2 ty3:TypeId} {ps1 ps2 ps3:String} {af1 af2 af3:Array Edge} {os:List Oper} {R7:Code} (hA:∀ zs,(A zs).length=N)
  (hi:∀ ptr zs,evA n (L ptr zs) (.tmp ti)=.cst ptr) (h1:tn<n) (h2:te<n) (d1:tn≠ti) (d2:te≠ti) (d3:te≠tn)
  (h6:∀ ptr zs k v,RS P N (⟨some tE,.entry (.tmp ti),ty3,ps3,af3,none⟩::os).toArray os (fun fr aw=>T P N R7 (fun e fr' aw'=>e=.normal/\Weak N fr' aw' (mkA n (L ptr (zs++[(k,v)]))) (A (zs++[(k,v)]))) fr aw)
   (mkA n ((tE,.tup [ek k,ev v])::(te,.bool true)::(tn,.tup [.bool true,ek k,ev v])::L ptr zs)) (A zs))
  (hQ:∀ ptr zs,zs.Perm (Z.map (·.2))->Q (.exit b) (mkA n ((te,.bool false)::(tn,.tup [.bool false])::L ptr zs)) (A zs))
  {ptr:Value} (hptr:ptr=.pointer (some ⟨r,0,none⟩)) (hc:Cur s (mkA n (L ptr [])) (A []) σ w F a) (hr:Bs (A []) σ w F r) (hb:Bs (A []) σ w F bm) (hrb:r≠bm) (her:w.heap[r]?=some (.mapIter (some bm) clock #[] clock)) (heb:w.heap[bm]?=some (.map es clock)) (hrs:s.w.heap.size<=r) :
  (Code.loop (.seq (.region i5 (List.toArray [⟨some tn,.next (.tmp ti) false,ty1,ps1,af1,none⟩,⟨some te,.extract (.tmp tn) 0,ty2,ps2,af2,none⟩]) false) (.seq (.cond (.tmp te) .skip (.exit b)) (.block b1 (.seq (.region i6 (⟨some tE,.entry (.tmp ti),ty3,ps3,af3,none⟩::os).toArray false) R7))))).wp P (CQ s Q) a w:=by
 refine wp_loop_ghost (fun m a w=>∃ (ds:List (MapEntry × (κ × ν))) (σ:List Value) (F:Nat->Prop) (seen:Array Nat) (last:Nat),m=Z.length - ds.length/\(∀ d,d∈ds->d∈Z)/\(ds.map (·.1.born)).Nodup/\seen.toList=ds.map (·.1.born)/\clock<=last /\
  Cur s (mkA n (L ptr (ds.map (·.2)))) (A (ds.map (·.2))) σ w F a/\Bs (A (ds.map (·.2))) σ w F r/\Bs (A (ds.map (·.2))) σ w F bm/\w.heap[r]?=some (.mapIter (some bm) clock seen last)/\w.heap[bm]?=some (.map es clock)) Z.length
  ⟨[],σ,F,#[],clock,by simp,by simp,by simp,by simp,xD _,hc,hr,hb,her,heb⟩ ?_
 rintro m a w ⟨ds,σ,F,seen,last,hm,hds,hnd,hseen,hcl,hc,hr,hb,her,heb⟩
 have hZn:(Z.map (·.1.born)).Nodup:=by have:=hborn.2;rw [<- hZ,yA] at this;exact this
 have hit:=hc.cst (hi ptr _)
 refine wp_seq (wp_region_list ?_)
 rcases run_next_at (P:=P) w ty1 r bm clock last seen es clock her heb hborn.1 hcl with ⟨h0,hrun⟩ | ⟨e,he,w1,hw1,hrun⟩
 ·have hp:(ds.map (·.2)).Perm (Z.map (·.2)):=(qG hZn hnd hds fun z hz=>by
   have hze:z.1∈es.toList:=hZ▸List.mem_map_of_mem hz;rw [<- hseen];refine Classical.byContradiction fun hx=>?_
   have:z.1∈(leftOf es seen).toList:=by simpa [leftOf] using ⟨by simpa using hze,by simpa using hx⟩
   rw [show (leftOf es seen).toList=[] from xB (by simpa using h0)] at this;cases this).map _
  have hc1:=hc.putA (r:=.tup [.bool false]) (v:=.tuple #[.bool false]) (.tup [.bool false] [.bool false] rfl fun j c u h1 h2=>by
   match j with
   | 0=>cases h1;cases h2;exact .bool _
   | j+1=>cases h1) tn
  refine fQ rfl (v:=.tuple #[.bool false]) (w':=w) (fS (by rw [hit,hptr];exact hrun)) ?_
  refine fQ rfl (v:=.bool false) (w':=w) (fS (oz (hc.slot h1 _) rfl)) ?_
  have hc2:=hc1.putA (r:=.bool false) (v:=.bool false) (.bool _) te
  refine wp_seq (wp_cond_false (hc1.slot h2 _) (wp_exit ?_))
  exact ⟨_,_,_,_,hQ _ _ hp,hc2⟩
 ·obtain ⟨z,hz,rfl⟩:∃ z,z∈Z/\z.1=e:=by
   have h3:e∈es.toList:=by simp [leftOf] at he ⊢;exact he.1
   rw [<- hZ] at h3;obtain ⟨z,hz,h4⟩:=xU.1 h3;exact ⟨z,hz,h4⟩
  have hns:z.1.born ∉ ds.map (·.1.born):=by rw [<- hseen];simp [leftOf] at he ⊢;exact he.2
  have hr1:w1.heap[r]?=w.heap[r]?/\w1.heap=w.heap:=by rcases hw1 with rfl | rfl<;>exact ⟨rfl,rfl⟩
  have hcW:Cur s (mkA n (L ptr (ds.map (·.2)))) (A (ds.map (·.2))) σ (setBlock w1 r (.mapIter (some bm) clock (seen.push z.1.born) clock)) F a:=by
   refine hc.other hrs hr.2.1 hr.2.2 (fun b hb=>?_) ?_ ?_ ?_ ?_
   ·simp [setBlock,hr1.2,Array.getElem?_setIfInBounds,Ne.symm hb]
   ·simp [setBlock,hr1.2]
   ·rcases hw1 with rfl | rfl<;>rfl
   ·rcases hw1 with rfl | rfl<;>rfl
   ·rcases hw1 with rfl | rfl<;>exact drO
  refine fQ rfl (v:=.tuple #[.bool true,z.1.key,z.1.val]) (fS (by rw [hit,hptr];exact hrun)) ?_
  generalize hW:setBlock w1 r (.mapIter (some bm) clock (seen.push z.1.born) clock)=W at hcW
  have hWr:W.heap[r]?=some (.mapIter (some bm) clock (seen.push z.1.born) clock):=by rw [<- hW];simp [setBlock,hr1.2,Array.getElem?_setIfInBounds,hr.1]
  have hWb:W.heap[bm]?=some (.map es clock):=by rw [<- hW];simp [setBlock,hr1.2,Array.getElem?_setIfInBounds,hrb];exact heb
  have hWs:W.heap.size=w.heap.size:=by rw [<- hW];simp [setBlock,hr1.2]
  have hre:=hrel z hz σ W F
  have hc1:=hcW.putA (r:=.tup [.bool true,ek z.2.1,ev z.2.2]) (v:=.tuple #[.bool true,z.1.key,z.1.val]) (.tup [.bool true,ek z.2.1,ev z.2.2] [.bool true,z.1.key,z.1.val] rfl fun j c u h1 h2=>by
   match j with
   | 0=>cases h1;cases h2;exact .bool _
   | 1=>cases h1;cases h2;exact hre.1
   | 2=>cases h1;cases h2;exact hre.2
   | j+3=>cases h1) tn
  refine fQ rfl (v:=.bool true) (w':=W) (fS (oz (hcW.slot h1 _) rfl)) ?_
  have hc2:=hc1.putA (r:=.bool true) (v:=.bool true) (.bool _) te
  refine wp_seq (wp_cond_true (hc1.slot h2 _) (wp_skip (wp_block (wp_seq (wp_region_list ?_)))))
  have hit2:=hc2.cst (t:=ti) (by rw [oY d2,oY d1];exact hi ptr _)
  refine fQ rfl (v:=.tuple #[z.1.key,z.1.val]) (w':=W) (fS (by rw [hit2,hptr];exact run_entry_at W r bm clock seen es clock z.1 hWr hWb (hZ▸List.mem_map_of_mem hz) hborn.2)) ?_
  have hc3:=hc2.putA (r:=.tup [ek z.2.1,ev z.2.2]) (v:=.tuple #[z.1.key,z.1.val]) (.tup [ek z.2.1,ev z.2.2] [z.1.key,z.1.val] rfl fun j c u h1 h2=>by
   match j with
   | 0=>cases h1;cases h2;exact hre.1
   | 1=>cases h1;cases h2;exact hre.2
   | j+2=>cases h1) tE
  have hh:=hc3.here
  refine (h6 ptr (ds.map (·.2)) z.2.1 z.2.2).out _ (hA _) hc3.sim.len σ W F _ hh _ fun fr4 aw4 σ4 w4 F4 a4 hc4 hT=>?_
  refine wp_mono (hT.out _ (hA _) hc3.sim.len σ4 w4 F4 a4 hc4) ?_
  rintro e5 a5 w5 ⟨fr5,aw5,σ5,F5,⟨rfl,hwk⟩,hc5⟩
  obtain ⟨σ6,hc6⟩:=hc5.weak hc3.sim.len (by show Weak (A _).length _ _ _ _;rw [hA];exact hwk)
  have hr6:=Bs.mv (b:=r) (F:=F) (w:=W) ⟨hWs.symm▸hr.1,hr.2⟩ hc6.mv
  have hb6:=Bs.mv (b:=bm) (F:=F) (w:=W) ⟨hWs.symm▸hb.1,hb.2⟩ hc6.mv
  have hnd':((ds++[z]).map (·.1.born)).Nodup:=by rw [yv,List.nodup_append];exact ⟨hnd,by simp,fun x hx y hy e=>by simp at hy;subst hy;subst e;exact hns hx⟩
  have hds':∀ d,d∈ds++[z]->d∈Z:=fun d hd=>(xN.1 hd).elim (hds d) fun q=>by simp at q;exact q▸hz
  have hlen:=nI hnd' hds'
  have hz2:(ds++[z]).map (·.2)=ds.map (·.2)++[(z.2.1,z.2.2)]:=by simp
  refine ⟨Z.length - (ds++[z]).length,by simp at hlen ⊢;omega,ds++[z],σ6,F5,seen.push z.1.born,clock,rfl,hds',hnd',by simp [hseen],xD _,?_⟩
  rw [hz2]
  exact ⟨hc3.thence hc6,hr6.1,hb6.1,hr6.2.trans hWr,hb6.2.trans hWb⟩
theorem Sim.kill (h:Sim aw σ w F) (i:Nat):Sim (aw.set i .dead) σ w F :=
  ⟨by rw [h.len];simp,fun k o v ho hv=>by
      rcases bG ho with ⟨rfl,rfl,_⟩ | ⟨_,h2⟩
      · trivial
      · exact h.obj k o v h2 hv,fun k k' o o' v v' g hne ho ho' hl hl' hv hv' hb hb'=>by
      rcases bG ho with ⟨rfl,rfl,_⟩ | ⟨_,h2⟩
      · cases hl
      · rcases bG ho' with ⟨rfl,rfl,_⟩ | ⟨_,h3⟩
        · cases hl'
        · exact h.sep k k' o o' v v' g hne h2 h3 hl hl' hv hv' hb hb',h.lt,h.gd⟩
theorem Dof.kill {i b:Nat} (h:Dof (aw.set i .dead) σ b):∃ (k:Nat) (o:Ob) (v:Value),k≠i/\aw[k]?=some o/\o.live=true/\σ[k]?=some v/\Bk o v b:=by
 obtain ⟨k,o,v,ho,hl,hv,hb⟩:=h;rcases bG ho with ⟨rfl,rfl,_⟩ | ⟨hne,h2⟩
 ·cases hl
 ·exact ⟨k,o,v,fun e=>hne (by omega),h2,hl,hv,hb⟩
theorem Mv.kill (i:Nat):Mv aw σ w F (aw.set i .dead) σ w F :=
 ⟨rfl,rfl,drO,xD _,fun _ _ _=>rfl,fun _ _ h=>h,fun _ h=>h,fun _ h=>.inl h,fun b h=>.inl (by obtain ⟨k,o,v,_,h1,h2,h3,h4⟩:=h.kill;exact ⟨k,o,v,h1,h2,h3,h4⟩)⟩
theorem T.rangeM {κ ν:Type} {ek:κ->AV} {ev:ν->AV} {L:Value->List (κ × ν)->List (Nat × AV)} {A:List (κ × ν)->List Ob} {Q:Exit->List AV->List Ob->Prop} (ys:List (κ × ν)) {M id:Nat}
  (hek:∀ k v σ w F σ' w' F',Rel σ w F (ek k) v->Rel σ' w' F' (ek k) v) (hev:∀ k v σ w F σ' w' F',Rel σ w F (ev k) v->Rel σ' w' F' (ev k) v)
  {b b1 i4 i5 i6 tn te ti tE tc:Nat} {mt kt et ty0 ty1 ty2 ty3:TypeId} {ps0 ps1 ps2 ps3:String} {af0 af1 af2 af3:Array Edge} {os:List Oper} {R7:Code} {o1:Oper}
  (hg:o1.guard=none) (hd:o1.dst=some tc) (hm:P.underlying mt=some (.map kt et)) (hid:aw.length=id)
  (ho:OP P M o1 (mkA n l) aw fun r aw1=>r=.mpr id/\aw1=aw++[.mp (List.map ek (List.map Prod.fst ys)) (List.map ev (List.map Prod.snd ys))])
  (hA:∀ zs,(A zs).length=id+1) (hi:∀ ptr zs,evA n (L ptr zs) (.tmp ti)=.cst ptr) (h0:tc<n) (h1:tn<n) (h2:te<n) (d1:tn≠ti) (d2:te≠ti) (d3:te≠tn)
  (hW:∀ ptr,Weak (id+1) (mkA n ((ti,.cst ptr)::(tc,.mpr id)::l)) (aw++[.dead]) (mkA n (L ptr [])) (A []))
  (h6:∀ ptr zs k v,RS P (id+1) (⟨some tE,.entry (.tmp ti),ty3,ps3,af3,none⟩::os).toArray os (fun fr aw=>T P (id+1) R7 (fun e fr' aw'=>e=.normal/\Weak (id+1) fr' aw' (mkA n (L ptr (zs++[(k,v)]))) (A (zs++[(k,v)]))) fr aw)
   (mkA n ((tE,.tup [ek k,ev v])::(te,.bool true)::(tn,.tup [.bool true,ek k,ev v])::L ptr zs)) (A zs))
  (hQ:∀ ptr zs,zs.Perm ys->Q .normal (mkA n ((te,.bool false)::(tn,.tup [.bool false])::L ptr zs)) (A zs)) :
  T P M (.seq (.region i4 (List.toArray [o1,⟨some ti,.range mt (.tmp tc),ty0,ps0,af0,none⟩]) false) (.block b (.loop (.seq (.region i5 (List.toArray [⟨some tn,.next (.tmp ti) false,ty1,ps1,af1,none⟩,⟨some te,.extract (.tmp tn) 0,ty2,ps2,af2,none⟩]) false) (.seq (.cond (.tmp te) .skip (.exit b)) (.block b1 (.seq (.region i6 (⟨some tE,.entry (.tmp ti),ty3,ps3,af3,none⟩::os).toArray false) R7))))))) Q (mkA n l) aw :=
 ⟨fun st hM h3 σ w F a hc=>by
  refine wp_seq (wp_region_list ?_);unfold wpList;rw [if_pos (by simp [Region.wanted,hg])];refine .inl (ho.out st hM h3 σ w F a hc _ _ fun r aw1 σ1 w1 F1 v ⟨hr,haw⟩ hcur hrel=>?_);subst hr haw hid;rw [hd];have hc1:=hcur.putA hrel tc;have hid:(aw++[Ob.mp (List.map ek (List.map Prod.fst ys)) (List.map ev (List.map Prod.snd ys))])[aw.length]?=some (Ob.mp (List.map ek (List.map Prod.fst ys)) (List.map ev (List.map Prod.snd ys))):=by simp
  cases hrel with
  | mpr _ r hσ =>
   obtain ⟨g,es,clock,hv,hgm,hk,hvv,hF,hB⟩:=hcur.sim.obj _ _ _ hid hσ;cases hv;refine fQ rfl (fS (by rw [hcur.slot h0];exact run_range_map w1 mt kt et g es clock hm hgm)) ?_;have hgl:g<w1.heap.size:=by
    rcases Nat.lt_or_ge g w1.heap.size with h | h
    ·exact h
    ·simp [Array.getElem?_eq_none h] at hgm
   have hold:∀ b,b<w1.heap.size->(w1.alloc (.mapIter (some g) clock #[] clock)).heap[b]?=w1.heap[b]?:=fun b hb=>by show (w1.heap.push _)[b]?=_;rw [Array.getElem?_push];simp [Nat.ne_of_lt hb]
   have hsz:(w1.alloc (.mapIter (some g) clock #[] clock)).heap.size=w1.heap.size+1:=by show (w1.heap.push _).size=_;simp
   have hnew:(w1.alloc (.mapIter (some g) clock #[] clock)).heap[w1.heap.size]?=some (.mapIter (some g) clock #[] clock):=heap_alloc_new ..;generalize hW2:w1.alloc (.mapIter (some g) clock #[] clock)=W at hold hsz hnew;have hc2:=hc1.step (hcur.sim.grow (fun _ h=>h) (fun _ h=>.inl h) (fun b hb=>by have:=hcur.sim.lt b hb;omega) hold) (.grow (fun _ h=>h) (fun _ h=>.inl h) (by rw [<- hW2];rfl) (by rw [<- hW2];rfl) (by rw [<- hW2];exact drO) (by omega) hold);have hc3:=hc2.putA (.cst (.pointer (some ⟨w1.heap.size,0,none⟩))) ti;have hc4:=hc3.step (hc3.sim.kill aw.length) (Mv.kill aw.length);have hdof:∀ b,Dof ((aw++[Ob.mp (List.map ek (List.map Prod.fst ys)) (List.map ev (List.map Prod.snd ys))]).set aw.length .dead) σ1 b->b<w1.heap.size/\b≠g:=fun b hb=>by obtain ⟨k,o,v,hne,ho1,hl,hv1,hbk⟩:=hb.kill;exact ⟨hcur.sim.lt_own ⟨k,o,v,ho1,hl,hv1,hbk⟩,fun e=>hcur.sim.sep k aw.length o _ v _ g hne ho1 hid hl rfl hv1 hσ (e▸hbk) rfl⟩
   rw [show (aw++[Ob.mp (List.map ek (List.map Prod.fst ys)) (List.map ev (List.map Prod.snd ys))]).set aw.length .dead=aw++[.dead] by simp] at hc4 hdof;obtain ⟨σ6,hc6⟩:=hc4.here.weak hc4.sim.len (by show Weak (aw++[Ob.dead]).length _ _ _ _;rw [xF];exact hW _);have hr6:=Bs.mv (b:=w1.heap.size) (aw:=aw++[.dead]) (σ:=σ1) (w:=W) (F:=F1) ⟨by omega,fun h=>by have:=hcur.sim.lt _ h;omega,fun h=>by have:=(hdof _ h).1;omega⟩ hc6.mv;have hb6:=Bs.mv (b:=g) (aw:=aw++[.dead]) (σ:=σ1) (w:=W) (F:=F1) ⟨by omega,hF,fun h=>(hdof _ h).2 rfl⟩ hc6.mv;have hkl:es.toList.length=ys.length:=by have:=hk.1;simpa using this
   refine wp_block (wp_mono (sZ (Q:=cV b Q) (Z:=es.toList.zip ys) (es:=es) (clock:=clock) (bm:=g) (r:=w1.heap.size) (by rw [List.map_fst_zip];omega) (fun z hz=>?_) hB hA hi h1 h2 d1 d2 d3 h6 (fun ptr zs hp=>?_) rfl (hc4.thence hc6) hr6.1 hb6.1 (by omega) hnew ((hold g hgl).trans hgm) (by have:=hcur.mv.size;omega)) ?_)
   ·obtain ⟨j,hj⟩:=List.mem_iff_getElem?.1 hz;rw [List.getElem?_zip_eq_some] at hj;intro σ0 w0 F0;exact ⟨hek _ _ _ _ _ _ _ _ (hk.2 j (ek z.2.1) z.1.key (by simp [hj.2]) (by simp only [xL,hj.1,yL])),hev _ _ _ _ _ _ _ _ (hvv.2 j (ev z.2.2) z.1.val (by simp [hj.2]) (by simp only [xL,hj.1,yL]))⟩
   ·simp only [cV,if_pos];exact hQ ptr zs (by rwa [List.map_snd_zip (by omega)] at hp)
   ·rintro e a' w' ⟨fr',aw',σ',F',hq,hcur⟩;cases e with
    | exit id' =>
     simp only [Exit.inBlock,cV] at hq ⊢;split
     ·rename_i he;rw [if_pos he] at hq;exact ⟨fr',aw',σ',F',hq,hcur⟩
     ·rename_i he;rw [if_neg he] at hq;exact ⟨fr',aw',σ',F',hq,hcur⟩
    | _=>exact ⟨fr',aw',σ',F',hq,hcur⟩⟩
end
end
section
open Go.RowKit
section
variable {P:Program} {N n:Nat} {aw:List Ob} {l:List (Nat × AV)}
def RM {κ ν:Type} (n N:Nat) (L:Value->List (κ × ν)->List (Nat × AV)) (A:List (κ × ν)->List Ob) (ptr:Value) (zs:List (κ × ν)):Exit->List AV->List Ob->Prop:=fun e fr aw=>e=.normal/\Weak N fr aw (mkA n (L ptr zs)) (A zs)
theorem rngM {κ ν:Type} {ek:κ->AV} {ev:ν->AV} {st:List Fr} (L:Value->List (κ × ν)->List (Nat × AV)) (A:List (κ × ν)->List Ob) {Q:Exit->List AV->List Ob->Prop} (ys:List (κ × ν)) {M:Nat} (id:Nat)
  (hek:∀ k v σ w F σ' w' F',Rel σ w F (ek k) v->Rel σ' w' F' (ek k) v) (hev:∀ k v σ w F σ' w' F',Rel σ w F (ev k) v->Rel σ' w' F' (ev k) v)
  {b b1 i4 i5 i6 tn te ti tE tc:Nat} {mt kt et ty0 ty1 ty2 ty3:TypeId} {ps0 ps1 ps2 ps3:String} {af0 af1 af2 af3:Array Edge} {os:List Oper} {R7:Code} {o1:Oper}
  (hg:o1.guard=none) (hd:o1.dst=some tc) (hm:P.underlying mt=some (.map kt et)) (hid:aw.length=id)
  (ho:OP P M o1 (mkA n l) aw fun r aw1=>r=.mpr id/\aw1=aw++[.mp (List.map ek (List.map Prod.fst ys)) (List.map ev (List.map Prod.snd ys))])
  (hA:∀ zs,(A zs).length=id+1) (hi:∀ ptr zs,evA n (L ptr zs) (.tmp ti)=.cst ptr) (hn:tc<n/\tn<n/\te<n/\tn≠ti/\te≠ti/\te≠tn)
  (hW:∀ ptr,Weak (id+1) (mkA n ((ti,.cst ptr)::(tc,.mpr id)::l)) (aw++[.dead]) (mkA n (L ptr [])) (A []))
  (h6:∀ ptr zs k v,RS P (id+1) (⟨some tE,.entry (.tmp ti),ty3,ps3,af3,none⟩::os).toArray os (qs P (id+1) [.sq R7] (RM n (id+1) L A ptr (zs++[(k,v)])) .normal)
   (mkA n ((tE,.tup [ek k,ev v])::(te,.bool true)::(tn,.tup [.bool true,ek k,ev v])::L ptr zs)) (A zs))
  (hQ:∀ ptr zs,zs.Perm ys->qs P M st Q .normal (mkA n ((te,.bool false)::(tn,.tup [.bool false])::L ptr zs)) (A zs)) :
  T P M (.seq (.region i4 (List.toArray [o1,⟨some ti,.range mt (.tmp tc),ty0,ps0,af0,none⟩]) false) (.block b (.loop (.seq (.region i5 (List.toArray [⟨some tn,.next (.tmp ti) false,ty1,ps1,af1,none⟩,⟨some te,.extract (.tmp tn) 0,ty2,ps2,af2,none⟩]) false) (.seq (.cond (.tmp te) .skip (.exit b)) (.block b1 (.seq (.region i6 (⟨some tE,.entry (.tmp ti),ty3,ps3,af3,none⟩::os).toArray false) R7))))))) (qs P M st Q) (mkA n l) aw :=
 T.rangeM ys hek hev hg hd hm hid ho hA hi hn.1 hn.2.1 hn.2.2.1 hn.2.2.2.1 hn.2.2.2.2.1 hn.2.2.2.2.2 hW h6 hQ
theorem vH (s:List UInt8) (v:Value) (σ:List Value) (w:World) (F:Nat->Prop) (σ':List Value) (w':World) (F':Nat->Prop) (h:Rel σ w F (.str s) v):Rel σ' w' F' (.str s) v:=by cases h;exact .str _
theorem vP (q:IntKind) (i:Int) (v:Value) (σ:List Value) (w:World) (F:Nat->Prop) (σ':List Value) (w':World) (F':Nat->Prop) (h:Rel σ w F (.int q i) v):Rel σ' w' F' (.int q i) v:=by cases h;exact .int _ _
theorem wkC {aw':List Ob} (t:Nat) (ρ:List Nat) (c:Nat) {v:Value} {l':List (Nat × AV)} (h:mpF ρ l' l fun bs es=>mpOs ρ aw ρ aw' fun bs' es'=>(bs,bs')=(es,es')) (hv:lkA l t=.cst v:=by rfl) [g:GoodF l'] [g':GoodOs aw'] (hc:aw.length=c:=by rfl)
  (h1:ρ.Nodup:=by decide) (h2:∀ k,k<N->ρ[k]?=some k:=by decide):Weak N (mkA n l) aw (mkA n ((t,.cst v)::l')) aw':=by
 obtain ⟨bs,es,h,h3⟩:=kV h
 obtain ⟨bs',es',h,h4⟩:=eV h
 injection h with e1 e2
 exact Weak.mkN [] ρ h1 h2 rfl ⟨by rw [hv];exact fun σ w F u hr σ' _=>by (cases hr;exact .cst _),h3 g.out e1⟩ (h4 g'.out e2)
end
end
section
open Go.RowKit
set_option maxRecDepth 100000
set_option maxHeartbeats 4000000
set_option synthInstance.maxSize 100000
set_option synthInstance.maxHeartbeats 4000000
theorem qt {r:Bool} (h:fk=some r):Fn Tryd.prog 5 [] (.bool r):=by
 unfold fk at h;refine fT 0 0 Tryd.func5 Tryd.ntmps5 rfl ?_;refine B h fun x3 hx3 h=>(B h fun x4 hx4 h=>(X 6 0 (sO (cD (jK hx3) ⟨rfl,(sO (cF (lZ hx4) ⟨rfl,(B h fun x6 hx6 h=>(Y 9 0 (sO (cD (lX hx6) ⟨rfl,(Y 9 0 ?_)⟩))))⟩))⟩))))
 obtain ⟨xv,hz,h⟩:=bind_some h;revert hz h;revert xv;intro c9 hz h;refine j1 [(0,.bool c9)] [] ?_ (fun hK=>?_)
 ·cases h;exact tD
 refine X 1 1 ?_;rcases aK (x4.2==0) with ah | ah
 ·replace hz:=b7 hz ah;rcases aK (x6.2.2==0) with ak | ak
  ·replace hz:=b7 hz ak;rcases aK (x6.2.1==0) with bh | bh
   ·replace hz:=b7 hz bh;rcases aK (x4.1==[114,105,110,103,115,32,51,32,49,10,115,111,117,114,99,101,32,48,32,45,32,48,10,115,111,117,114,99,101,32,49,32,45,32,49,10,109,101,114,103,101,32,48,32,48,44,49,32,50,10,115,105,110,107,32,48,32,50,32,45,10]) with bE | bE
    ·replace hz:=b7 hz bE;refine B hz fun x7 hx7 hz=>(B hz fun x8 hx8 hz=>(T.drawn mixed (k:=20) rfl ?_))
     apply RA.jn 3 (bm 20 131071);intro hS6
     ·refine rq [0,1,2] 17 (ry 3 ah rfl (ry 4 ah rfl (r0 5 rfl (aW (v:=.bool (x6.2.2==0)) rfl ah rfl (rq [6] 13 (ry 7 ak rfl (ry 8 ak rfl (r0 9 rfl (aW (v:=.bool (x6.2.1==0)) rfl ak rfl (rq [10] 9 (ry 11 bh rfl ?_)))))))))));refine ry 12 bh rfl (r0 13 rfl (aW (v:=.bool (x4.1==[114,105,110,103,115,32,51,32,49,10,115,111,117,114,99,101,32,48,32,45,32,48,10,115,111,117,114,99,101,32,49,32,45,32,49,10,109,101,114,103,101,32,48,32,48,44,49,32,50,10,115,105,110,107,32,48,32,50,32,45,10])) rfl bh rfl (rq [14] 5 (ra2 15 16 ?_ ?_))))
      ·exact oy 1 bE rfl (ra1 16 (oP rfl bE (cD (jK hx7) ⟨rfl,(raE hS6)⟩)))
      ·exact oP rfl bE (cD (jK hx7) ⟨rfl,(ra1 15 (oy 1 bE rfl (raT hS6)))⟩)
     exact ra1 17 (oP rfl bE (cF (lL hx8) ⟨rfl,(r0 18 rfl (aW (v:=.bool x8) rfl bE rfl (rq [19] 0 (RA.done (by decide +kernel) (T.weakR hK (Weak.mkN [] [] (by decide) (cH _) rfl ⟨cj ((congrArg (fun p=>p) (xA hz)).symm),tqz⟩ (cm)))))))⟩))
    replace hz:=bV hz bE;refine T.drawn mixed (k:=20) rfl (rq [0,1,2] 17 (ry 3 ah rfl (ry 4 ah rfl (r0 5 rfl (aW (v:=.bool (x6.2.2==0)) rfl ah rfl (rq [6] 13 (ry 7 ak rfl (ry 8 ak rfl (r0 9 rfl (aW (v:=.bool (x6.2.1==0)) rfl ak rfl (rq [10] 9 ?_)))))))))));refine ry 11 bh rfl (ry 12 bh rfl (r0 13 rfl (aW (v:=.bool (x4.1==[114,105,110,103,115,32,51,32,49,10,115,111,117,114,99,101,32,48,32,45,32,48,10,115,111,117,114,99,101,32,49,32,45,32,49,10,109,101,114,103,101,32,48,32,48,44,49,32,50,10,115,105,110,107,32,48,32,50,32,45,10])) rfl bh rfl (rq [14] 5 (r2 15 rfl bE (r2 16 rfl bE (r2 17 rfl bE (r0 18 rfl (aT (v:=.bool false) rfl bE rfl (rq [19] 0 (RA.done (by decide +kernel) ?_)))))))))));exact T.weakR hK (Weak.mkN [] [] (by decide) (cH _) rfl ⟨cj ((congrArg (fun p=>p) (xA hz)).symm),tqz⟩ (cm))
   replace hz:=bV hz bh;refine T.drawn mixed (k:=20) rfl (rq [0,1,2] 17 (ry 3 ah rfl (ry 4 ah rfl (r0 5 rfl (aW (v:=.bool (x6.2.2==0)) rfl ah rfl (rq [6] 13 (ry 7 ak rfl (ry 8 ak rfl (r0 9 rfl (aW (v:=.bool (x6.2.1==0)) rfl ak rfl (rq [10] 9 ?_)))))))))));exact r2 11 rfl bh (r2 12 rfl bh (r0 13 rfl (aT (v:=.bool false) rfl bh rfl (rq [14] 5 (r2 15 rfl rfl (r2 16 rfl rfl (r2 17 rfl rfl (r0 18 rfl (aT (v:=.bool false) rfl rfl rfl (rq [19] 0 (RA.done (by decide +kernel) (T.weakR hK (Weak.mkN [] [] (by decide) (cH _) rfl ⟨cj ((congrArg (fun p=>p) (xA hz)).symm),tqz⟩ (cm))))))))))))))
  replace hz:=bV hz ak;refine T.drawn mixed (k:=20) rfl (rq [0,1,2] 17 (ry 3 ah rfl (ry 4 ah rfl (r0 5 rfl (aW (v:=.bool (x6.2.2==0)) rfl ah rfl (rq [6] 13 (r2 7 rfl ak (r2 8 rfl ak (r0 9 rfl (aT (v:=.bool false) rfl ak rfl (rq [10] 9 ?_)))))))))));exact r2 11 rfl rfl (r2 12 rfl rfl (r0 13 rfl (aT (v:=.bool false) rfl rfl rfl (rq [14] 5 (r2 15 rfl rfl (r2 16 rfl rfl (r2 17 rfl rfl (r0 18 rfl (aT (v:=.bool false) rfl rfl rfl (rq [19] 0 (RA.done (by decide +kernel) (T.weakR hK (Weak.mkN [] [] (by decide) (cH _) rfl ⟨cj ((congrArg (fun p=>p) (xA hz)).symm),tqz⟩ (cm))))))))))))))
 replace hz:=bV hz ah;refine T.drawn mixed (k:=20) rfl (rq [0,1,2] 17 (r2 3 rfl ah (r2 4 rfl ah (r0 5 rfl (aT (v:=.bool false) rfl ah rfl (rq [6] 13 (r2 7 rfl rfl (r2 8 rfl rfl (r0 9 rfl (aT (v:=.bool false) rfl rfl rfl (rq [10] 9 ?_)))))))))));exact r2 11 rfl rfl (r2 12 rfl rfl (r0 13 rfl (aT (v:=.bool false) rfl rfl rfl (rq [14] 5 (r2 15 rfl rfl (r2 16 rfl rfl (r2 17 rfl rfl (r0 18 rfl (aT (v:=.bool false) rfl rfl rfl (rq [19] 0 (RA.done (by decide +kernel) (T.weakR hK (Weak.mkN [] [] (by decide) (cH _) rfl ⟨cj ((congrArg (fun p=>p) (xA hz)).symm),tqz⟩ (cm))))))))))))))
theorem ny {r:List (List UInt8 × Int)} (h:jl=some r):FnO Tryd.prog 25 [] (.mpr 0) [.mp (List.map kS (List.map Prod.fst r)) (List.map kI (List.map Prod.snd r))]:=by
 cases h;first
 | refine fT 0 2 Tryd.func25 Tryd.ntmps25 rfl (sO (ed rfl rfl ?_))
 | refine fT 0 3 Tryd.func25 Tryd.ntmps25 rfl (sO (ed rfl rfl ?_))
 | refine fT 0 4 Tryd.func25 Tryd.ntmps25 rfl (sO (ed rfl rfl ?_))
 | refine fT 0 5 Tryd.func25 Tryd.ntmps25 rfl (sO (ed rfl rfl ?_))
 | refine fT 0 6 Tryd.func25 Tryd.ntmps25 rfl (sO (ed rfl rfl ?_))
 | refine fT 0 7 Tryd.func25 Tryd.ntmps25 rfl (sO (ed rfl rfl ?_))
 | refine fT 0 8 Tryd.func25 Tryd.ntmps25 rfl (sO (ed rfl rfl ?_))
 refine sO (dY (ek:=kS) (ks:=[]) (vs:=[]) (k:=[103,111]) (a:=iI 1) (o2:=.mp (List.map kS [[103,111]]) [iI 1]) (.inr rfl) Tryd.underlying67 (KeyT.str Tryd.underlying9) rfl rfl rfl rfl rfl rfl ?_);refine sO (dY (ek:=kS) (ks:=[[103,111]]) (vs:=[iI 1]) (k:=[119,114,105,116,101]) (a:=iI 2) (o2:=.mp (List.map kS [[103,111],[119,114,105,116,101]]) [iI 1,iI 2]) (.inr rfl) Tryd.underlying67 (KeyT.str Tryd.underlying9) rfl rfl rfl rfl rfl rfl ?_);refine sO (dY (ek:=kS) (ks:=[[103,111],[119,114,105,116,101]]) (vs:=[iI 1,iI 2]) (k:=[102,108,117,115,104]) (a:=iI 3) (o2:=.mp (List.map kS [[103,111],[119,114,105,116,101],[102,108,117,115,104]]) [iI 1,iI 2,iI 3]) (.inr rfl) Tryd.underlying67 (KeyT.str Tryd.underlying9) rfl rfl rfl rfl rfl rfl ?_);refine sO (dY (ek:=kS) (ks:=[[103,111],[119,114,105,116,101],[102,108,117,115,104]]) (vs:=[iI 1,iI 2,iI 3]) (k:=[116,101,108,108]) (a:=iI 4) (o2:=.mp (List.map kS [[103,111],[119,114,105,116,101],[102,108,117,115,104],[116,101,108,108]]) [iI 1,iI 2,iI 3,iI 4]) (.inr rfl) Tryd.underlying67 (KeyT.str Tryd.underlying9) rfl rfl rfl rfl rfl rfl ?_);refine sO (dY (ek:=kS) (ks:=[[103,111],[119,114,105,116,101],[102,108,117,115,104],[116,101,108,108]]) (vs:=[iI 1,iI 2,iI 3,iI 4]) (k:=[99,117,116]) (a:=iI 5) (o2:=.mp (List.map kS [[103,111],[119,114,105,116,101],[102,108,117,115,104],[116,101,108,108],[99,117,116]]) [iI 1,iI 2,iI 3,iI 4,iI 5]) (.inr rfl) Tryd.underlying67 (KeyT.str Tryd.underlying9) rfl rfl rfl rfl rfl rfl ?_);refine sO (dY (ek:=kS) (ks:=[[103,111],[119,114,105,116,101],[102,108,117,115,104],[116,101,108,108],[99,117,116]]) (vs:=[iI 1,iI 2,iI 3,iI 4,iI 5]) (k:=[117,112]) (a:=iI 6) (o2:=.mp (List.map kS [[103,111],[119,114,105,116,101],[102,108,117,115,104],[116,101,108,108],[99,117,116],[117,112]]) [iI 1,iI 2,iI 3,iI 4,iI 5,iI 6]) (.inr rfl) Tryd.underlying67 (KeyT.str Tryd.underlying9) rfl rfl rfl rfl rfl rfl ?_);refine sO (dY (ek:=kS) (ks:=[[103,111],[119,114,105,116,101],[102,108,117,115,104],[116,101,108,108],[99,117,116],[117,112]]) (vs:=[iI 1,iI 2,iI 3,iI 4,iI 5,iI 6]) (k:=[108,97,121]) (a:=iI 7) (o2:=.mp (List.map kS [[103,111],[119,114,105,116,101],[102,108,117,115,104],[116,101,108,108],[99,117,116],[117,112],[108,97,121]]) [iI 1,iI 2,iI 3,iI 4,iI 5,iI 6,iI 7]) (.inr rfl) Tryd.underlying67 (KeyT.str Tryd.underlying9) rfl rfl rfl rfl rfl rfl ?_);refine Y 3 1 ?_;exact tO [] [0] 1
theorem qC {p0:List Happening} {r:(List UInt8) × Int} (h:gk p0=some r):Fn Tryd.prog 8 [sL aC p0] (.tup [.str r.1,iI r.2]):=by
 unfold gk at h;refine fT 0 9 Tryd.func8 Tryd.ntmps8 rfl (sQ (aD Ty.s25 rfl (Y 2 0 (T.ci h rfl (fun ah h=>?_) (fun ah h=>?_)))))
 ·refine X 5 0 ?_;cases h;exact tD
 refine X 3 0 (sO (ed rfl rfl (Y 3 1 (rngM (fun ptr z2=>[(17,.cst ptr),(0,sL aC p0),(4,.mpr 0)]) (fun z2=>[.mp (List.map kI (List.map Prod.fst (bA z2))) (List.map kS (List.map Prod.snd (bA z2))),.dead]) cL 1 vH (vP _) rfl rfl Tryd.underlying67 rfl (cG [] 1 1 (FnX.of_fnO (ny rfl)) ⟨rfl,⟨rfl,rfl⟩⟩) (fun _=>rfl) (fun _ _=>rfl) (by decide) (fun ptr=>wkC 17 [0,1] 2 rfl) (fun ptr z2 k v=>?_) (fun ptr z2 hp=>?_)))))
 ·exact Y 9 2 (sO (tq (ek:=kI) (ev:=kS) (xs:=bA z2) (k:=v) (a:=k) (.inl rfl) Tryd.underlying66 (KeyT.int Tryd.underlying3) rfl rfl rfl rfl rfl (Y 1 2 (⟨rfl,by simp only [mH];exact wkC 17 [0,1] 2 rfl⟩))))
 have h:=qL h z2 hp;refine X 8 2 (sQ (aD Ty.s25 rfl (Y 3 2 (itr (fun bp:Int × (List (List UInt8))=>mkA 56 [(4,.mpr 0),(7,.ref 1),(26,sL aC p0),(27,iI ((p0).length:Int)),(28,iI bp.1)]) (fun bp=>[.mp (List.map kI (List.map Prod.fst (bA z2))) (List.map kS (List.map Prod.snd (bA z2))),aR 9 1 ab bp.2]) h (wk [(7,9,1)] [0,2] 2 rfl) (fun bp v_9 h jz=>?_)))));obtain ⟨s3,s4⟩:=bp;replace h:cS p0 z2 s3 s4=some v_9:=h;try dsimp only
 unfold cS at h;refine X 5 2 (T.ci h rfl (fun fa h=>?_) (fun fa h=>?_))
 ·refine B h fun x6 hx6 h=>(X 5 2 (sQ (bb Ty.s25 (fun _=>rfl) rfl rfl hx6 (Y 9 2 (sO (l7 (ek:=kI) (ev:=kS) (xs:=(bA z2)) (k:=x6.Kind) (z0:=[]) Tryd.underlying66 (KeyT.int Tryd.underlying3) Ty.w9 (fun _ _ _=>.str []) rfl rfl rfl (Y 12 3 (T.ci h rfl (fun ia h=>?_) (fun ia h=>?_)))))))))
  ·refine X 5 3 ?_;replace h:=mi h jz;cases h;exact tD
  refine X 8 3 (T.ci h rfl (fun ib h=>?_) (fun ib h=>?_))
  ·exact B h fun x7 hx7 h=>(B h fun x8 hx8 h=>(X 4 3 (sO (cF (bu hx7) ⟨rfl,(sQ (ph rfl rfl hx8 (B h fun x9 hx9 h=>(Y 5 3 (sO (bM (rows:=List.map ab [x8]) (vs:=[.str x8]) Ty.s45 Ty.z9 rfl rfl rfl rfl rfl rfl (sO (fy (en:=ab) (xs:=s4) (ys:=([x8]:List (List UInt8))) Ty.s45 (fun _=>rfl) rfl rfl rfl hx9 rfl rfl (Y 6 5 (lk h (wk [] [0,4] 5 rfl)))))))))))⟩))))
  exact B h fun x10 b8 h=>(X 4 3 (sO (bM (rows:=List.map ab [((mget x6.Kind (bA z2)).getD [])]) (vs:=[.str ((mget x6.Kind (bA z2)).getD [])]) Ty.s45 Ty.z9 rfl rfl rfl rfl rfl rfl (sO (fy (en:=ab) (xs:=s4) (ys:=([((mget x6.Kind (bA z2)).getD [])]:List (List UInt8))) Ty.s45 (fun _=>rfl) rfl rfl rfl b8 rfl rfl (Y 6 5 (lk h (wk [] [0,4] 5 rfl))))))))
 refine X 1 2 ?_;replace h:=mi h jz;refine B h fun x12 cR h=>(X 3 2 (sO (cF (jP cR) ⟨rfl,(Y 3 2 ?_)⟩)))
 cases h;exact tD
theorem rV {p0 p1:List UInt8} {r:Int} (h:je p0 p1=some r):Fn Tryd.prog 26 [.str p0,.str p1] (.int .i64 r):=sC p0 p1 r h
theorem qy {p0:List UInt8} {r:(List Happening) × Int × Int} (h:gh p0=some r):FnO Tryd.prog 9 [.str p0] (.tup [.ref 0,iI r.2.1,iI r.2.2]) [aR 38 2 aC r.1]:=by
 unfold gh at h;refine fT 0 13 Tryd.func9 Tryd.ntmps9 rfl (T.ci h rfl (fun ah h=>?_) (fun ah h=>?_))
 ·refine X 6 0 ?_;cases h;exact tO [(0,38,2)] [0] 0
 refine X 7 0 (T.ci h rfl (fun ak h=>?_) (fun ak h=>?_))
 ·refine X 6 0 ?_;cases h;exact tO [(0,38,2)] [0] 0
 refine B h fun x2 hx2 h=>(X 5 0 (sO (cD (ku hx2) ⟨rfl,(sQ (aD Ty.s45 rfl (Y 3 0 (itr (fun cP:Int × (List Happening)=>mkA 83 [(2,.ref 0),(19,sL ab x2),(20,iI ((x2).length:Int)),(21,iI cP.1)]) (fun cP=>[aR 38 2 aC cP.2]) h (wk [(2,38,2)] [0] 0 rfl) (fun cP v_28 h pW=>?_)))))⟩)))
 obtain ⟨s3,s4⟩:=cP;replace h:dR x2 s3 s4=some v_28:=h;try dsimp only
 unfold dR at h;refine X 5 1 (T.ci h rfl (fun bK h=>?_) (fun bK h=>?_))
 ·refine B h fun x6 hx6 h=>(X 6 1 (sQ (bb Ty.s45 (fun _=>rfl) rfl rfl hx6 (B h fun x8 hx8 h=>(Y 7 1 (sO (cF (rV hx8) ⟨rfl,(Y 2 1 (jn (Z:=Int) (fun fZ=>mkA 83 [(2,.ref 0),(5,iI s3),(6,.str x6),(7,iI fZ),(19,sL ab x2),(20,iI ((x2).length:Int)),(21,iI s3)]) (fun fZ=>[aR 38 2 aC s4]) (fun fZ=>eI s3 s4 x6 fZ=some v_28) (fun fZ h=>?_) (fun hK2=>?_)))⟩)))))))
  ·revert h;revert fZ;intro z9 h;replace h:eI s3 s4 x6 z9=some v_28:=h;try dsimp only
   unfold eI at h;refine B h fun x12 cR h=>(B h fun x13 bi h=>(X 1 1 (T.drawn mixed (k:=10) rfl (rq [1,2] 8 (r0 3 rfl (jU Tryd.underlying9 rfl rfl rfl bi (ra1 0 (oO rfl (cG [] 1 1 (FnX.of_fnO (ny cR)) ⟨rfl,(ra1 4 (oO rfl (l7 (ek:=kS) (ev:=kI) (xs:=x12) (k:=x13) (z0:=0) Tryd.underlying67 (KeyT.str Tryd.underlying9) Ty.w3 (fun _ _ _=>.int _ _) rfl rfl rfl ?_)))⟩)))))))))
   refine rq [5,6,7,8,9] 0 (RA.done (by decide +kernel) (X 4 2 (jn (Z:=Bool × Int) (fun eE=>mkA 83 [(2,.ref 0),(5,iI s3),(8,iI ((mget x13 x12).getD 0)),(9,.bool eE.1),(10,iI eE.2),(19,sL ab x2),(20,iI ((x2).length:Int)),(21,iI s3)]) (fun eE=>[aR 38 2 aC s4]) (fun eE=>dQ s3 s4 x12 x13 eE.1 eE.2=some v_28) (fun eE h=>?_) (fun hK1=>?_))))
   ·obtain ⟨z21,z22⟩:=eE;replace h:dQ s3 s4 x12 x13 z21 z22=some v_28:=h;try dsimp only
    unfold dQ at h;refine X 6 1 (T.ci h rfl (fun w7 h=>?_) (fun w7 h=>?_))
    ·refine X 7 1 ?_;replace h:=mi h pW;cases h;exact tO [(0,38,2)] [1] 1
    refine B h fun x23 ll h=>(X 6 1 (sO (bM (rows:=List.map aC [(⟨((mget x13 x12).getD 0),z22⟩:Happening)]) (vs:=[.agg [iI ((mget x13 x12).getD 0),iI z22]]) Ty.s25 Ty.z38 rfl rfl rfl rfl rfl rfl (sO (fy (en:=aC) (xs:=s4) (ys:=([(⟨((mget x13 x12).getD 0),z22⟩:Happening)]:List Happening)) Ty.s25 (fun _=>rfl) rfl rfl rfl ll rfl rfl (Y 6 3 ?_))))))
    exact lk h (wk [] [2] 3 rfl)
   refine X 1 2 (j1 [(2,.ref 0),(5,iI s3),(6,.str x6),(7,iI z9),(8,iI ((mget x13 x12).getD 0)),(9,.bool ((mget x13 x12).isSome)),(10,iI 0),(19,sL ab x2),(20,iI ((x2).length:Int)),(21,iI s3),(46,.bool (((mget x13 x12).isSome) && decide (z9<((x6).length:Int))))] [aR 38 2 aC s4] ?_ (fun hK=>?_))
   ·refine T.ci h rfl (fun lh h=>?_) (fun lh h=>?_)
    ·refine B h fun x17 dj h=>(B h fun x18 dO h=>(X 4 1 (sO (q7 Tryd.underlying9 rfl rfl rfl dj (sO (cD (o8 dO) ⟨rfl,(Y 6 1 ?_)⟩))))))
     rcases aK (x18 != 0) with aA | aA
     ·replace h:=b7 h aA;refine B h fun x19 dN h=>(B h fun x20 lJ h=>(T.drawn mixed (k:=17) rfl (rq [0,1] 15 (ra1 2 (oO rfl (o3 Tryd.underlying47 rfl (rq [3] 13 (ry 4 rfl rfl (ry 5 rfl rfl (r0 6 rfl (aW (v:=.bool (x18 != 0)) rfl rfl rfl ?_)))))))))))
      refine rq [7] 9 (ry 8 aA rfl (ry 10 aA rfl (ry 11 aA rfl (r1 12 rfl aA (jU Tryd.underlying9 rfl rfl rfl lJ (ra1 9 (oP rfl aA (cF (bu dN) ⟨rfl,(ry 13 aA rfl (r0 14 rfl (aW (v:=.bool (x19==x20)) rfl aA rfl (rq [15,16] 0 ?_))))⟩))))))));exact RA.done (by decide +kernel) (wu (hK1 (x19==x20,x18) h) [] [0] 1 rfl)
     replace h:=bV h aA;refine T.drawn mixed (k:=17) rfl (rq [0,1] 15 (ra1 2 (oO rfl (o3 Tryd.underlying47 rfl (rq [3] 13 (ry 4 rfl rfl (ry 5 rfl rfl (r0 6 rfl (aW (v:=.bool (x18 != 0)) rfl rfl rfl (rq [7] 9 (r2 8 rfl aA ?_)))))))))));exact r2 9 rfl aA (r2 10 rfl aA (r2 11 rfl aA (r2 12 rfl aA (r2 13 rfl aA (r0 14 rfl (aT (v:=.bool false) rfl aA rfl (rq [15,16] 0 (RA.done (by decide +kernel) (sx (hK1 (false,x18) h))))))))))
    exact X 1 1 (wu (hK1 ((mget x13 x12).isSome,0) h) [] [0] 1 rfl)
   refine X 4 2 (gp 41 (fun ii=>?_) (fun ii=>?_))
   ·refine Yp 6 2 ?_;rw [ii] at hK ⊢;exact wu hK [] [0] 2 rfl
   refine Yp 6 2 ?_;rw [ii] at hK ⊢;exact wu hK [] [0] 2 rfl
  refine X 6 1 (T.ci h rfl (fun w8 h=>?_) (fun w8 h=>?_))
  ·exact X 5 1 (sx (hK2 ((x6).length:Int) h))
  exact X 1 1 (sx (hK2 x8 h))
 refine X 1 1 ?_;replace h:=mi h pW;refine X 4 1 (sQ (fB (en:=aC) Ty.s25 rfl rfl (Y 2 1 (T.ci h rfl (fun xa h=>?_) (fun xa h=>?_)))))
 ·refine X 6 1 ?_;cases h;exact tO [(0,38,2)] [1] 1
 refine X 8 1 ?_;cases h;exact tO [] [0] 1
theorem qj {p0 p1:List Happening} {r:Bool} (h:f8 p0 p1=some r):Fn Tryd.prog 10 [sL aC p0,sL aC p1] (.bool r):=by
 unfold f8 at h;refine fT 0 8 Tryd.func10 Tryd.ntmps10 rfl (sQ (aD Ty.s25 rfl (Y 1 0 (sQ (aD Ty.s25 rfl (Y 2 0 (T.ci h rfl (fun ah h=>?_) (fun ah h=>?_))))))))
 ·refine X 4 0 ?_;cases h;exact tD
 refine X 5 0 (sQ (aD Ty.s25 rfl (Y 3 0 (itr (fun bg:Int=>mkA 26 [(0,sL aC p0),(1,sL aC p1),(12,iI ((p0).length:Int)),(13,iI bg)]) (fun bg=>[]) h (wk [] [] 0 rfl) (fun bg v_7 h cb=>?_)))));revert cb h;revert bg;intro s1 h cb;replace h:f7 p0 p1 s1=some v_7:=h;try dsimp only
 unfold f7 at h;refine X 5 0 (T.ci h rfl (fun cq h=>?_) (fun cq h=>?_))
 ·refine B h fun x4 hx4 h=>(B h fun x5 hx5 h=>(X 9 0 (T.drawn mixed (k:=9) rfl (rq [0,1] 7 (r0 2 rfl (bb Ty.s25 (fun _=>rfl) rfl rfl hx4 (rq [4,5] 4 (r0 6 rfl (bb Ty.s25 (fun _=>rfl) rfl rfl hx5 (rL [3,8] 3 rfl (ra1 7 ?_)))))))))))
  refine og 0 ⟨rfl,(r0 8 rfl (we (cs:=[iI x4.Kind,iI x4.N]) (ds:=[iI x5.Kind,iI x5.N]) (r:=x4==x5) Ty.q38 rfl rfl rfl rfl (qv x4 x5) (RA.done (by decide +kernel) (T.ci h rfl (fun dM h=>?_) (fun dM h=>?_)))))⟩
  ·refine X 4 0 ?_;replace h:=mi h cb;cases h;exact tD
  exact X 5 0 (lk h (wk [] [] 0 rfl))
 refine X 1 0 ?_;replace h:=mi h cb;refine X 4 0 ?_;cases h;exact tD
theorem qm {p0:Net} {p1:List Happening} {r:Bool} (h:im p0 p1=some r):Fn Tryd.prog 3 [.agg (aF p0),sL aC p1] (.bool r):=by
 unfold im at h;refine fT 0 0 Tryd.func3 Tryd.ntmps3 rfl ?_;refine B h fun x2 hx2 h=>(X 8 0 (sO (cF (lZ hx2) ⟨rfl,(B h fun x4 hx4 h=>(Y 9 1 (sO (cF (qt hx4) ⟨rfl,(Y 2 1 (T.ci h rfl (fun ah h=>?_) (fun ah h=>?_)))⟩))))⟩)))
 ·refine X 4 1 ?_;cases h;exact tD
 refine X 1 1 (j0 [(1,sL aC p1)] [] (fh p1=some r) (fun h=>?_) (fun hK1=>?_))
 ·unfold fh at h;refine B h fun x10 b8 h=>(X 3 0 (sO (cF (qC b8) ⟨rfl,(Y 7 0 (j1 [(1,sL aC p1),(10,.str x10.1),(52,.bool ((x10.2 != 0) || decide (((x10.1).length:Int) > 4000)))] [] ?_ (fun hK=>?_)))⟩)))
  ·refine T.ci h rfl (fun dM h=>?_) (fun dM h=>?_)
   ·refine X 4 0 ?_;cases h;exact tD
   refine B h fun x13 bi h=>(X 4 0 (sO (cO 0 (qy bi) ⟨rfl,(Y 8 1 ?_)⟩)))
   obtain ⟨xb,hz,h⟩:=bind_some h;revert hz h;revert xb;intro c15 hz h;refine j1 [(4,.bool c15)] [] ?_ (fun hK=>?_)
   ·cases h;exact tD
   refine X 5 1 (gi 61 hz (fun fa hz=>?_) (fun fa hz=>?_))
   ·refine Yp 4 1 (gi 65 hz (fun ia hz=>?_) (fun ia hz=>?_))
    ·refine B hz fun x14 bq hz=>(Y 2 1 (yO rfl (cF (qj bq) ⟨rfl,(Yp 3 1 ?_)⟩)))
     cases hz;exact wu hK [] [] 1 rfl
    refine Yp 6 1 ?_;cases hz;exact wu hK [] [] 1 rfl
   refine Yp 10 1 ?_;cases hz;exact wu hK [] [] 1 rfl
  refine X 5 0 (gp 48 (fun cq=>?_) (fun cq=>?_))
  ·refine Yp 5 0 ?_;rw [cq] at hK;exact sx hK
  refine Yp 5 0 ?_;rw [cq] at hK;exact sx hK
 refine X 6 1 (T.ci h rfl (fun ib h=>?_) (fun ib h=>?_))
 ·refine B h fun x6 hx6 h=>(X 3 1 (sO (cD (lX hx6) ⟨rfl,(Y 9 1 ?_)⟩)))
  obtain ⟨xc,hz,h⟩:=bind_some h;revert hz h;revert xc;intro c8 hz h;refine j1 [(1,sL aC p1),(40,.bool c8)] [] ?_ (fun hK=>?_)
  ·refine T.ci h rfl (fun xd h=>?_) (fun xd h=>?_)
   ·refine X 4 0 ?_;cases h;exact tD
   exact X 1 0 (sx (hK1 h))
  refine X 5 2 (gi 31 hz (fun xe hz=>?_) (fun xe hz=>?_))
  ·refine Yp 10 2 ?_;cases hz;exact wu hK [] [] 2 rfl
  refine Yp 4 2 (gi 35 hz (fun xf hz=>?_) (fun xf hz=>?_))
  ·refine Yp 6 2 ?_;cases hz;exact wu hK [] [] 2 rfl
  refine B hz fun x7 hx7 hz=>(Y 2 2 (yO rfl (cF (lL hx7) ⟨rfl,(Yp 3 2 ?_)⟩)))
  cases hz;exact wu hK [] [] 2 rfl
 exact X 1 1 (wu (hK1 h) [] [] 1 rfl)
end
section
open Go.ChangeShapes Go.WideShapes Go.ChangeAt Go.RowKit
theorem mc {α:Type} {p:Nat->α->Prop}:∀ n:Nat,(∀ i,i<n->∃ x,p i x)->∃ l:List α,l.length=n/\∀ (i:Nat) x,l[i]?=some x->p i x
 | 0,_=>⟨[],rfl,fun i x h=>by simp at h⟩
 | n+1,h=>by
  obtain ⟨l,hl,hp⟩:=mc n (fun i hi=>h i (by omega));obtain ⟨y,hy⟩:=h n (by omega);refine ⟨l++[y],by simp [hl],fun i x hx=>?_⟩;rw [xW] at hx;split at hx
  ·exact hp i x hx
  ·have:i=n:=by
    have:=(xy.1 hx).1;simp at this;omega
   subst this;simp [hl] at hx;subst hx;exact hy
theorem nm {H:Type} (d:DataW H):1<=Rows.uptoBulk d:=by
 cases d with
 | lit l=>cases l<;>simp [Rows.uptoBulk]
 | _=>simp [Rows.uptoBulk]
theorem nD {H α:Type} (m:α->Nat):∀ (l:List α) (ds:List (DataW H)),l.length=ds.length->(∀ (i:Nat) x d,l[i]?=some x->ds[i]?=some d->m x<=Rows.uptoBulk d)->(l.map m).sum<=Rows.uptoBulkAll ds
 | [],[],_,_=>by simp
 | [],_::_,h,_=>by simp at h
 | _::_,[],h,_=>by simp at h
 | x::l,d::ds,h,hp=>by have h0:=hp 0 x d rfl rfl;have h1:=nD m l ds (by simpa using h) (fun i y e hy he=>hp (i+1) y e (by simpa using hy) (by simpa using he));simp only [xM,List.sum_cons,Rows.uptoBulkAll];omega
structure Opn (P:Program) (t:TypeId) {α:Type} (en:α->List AV) (good:α->Prop) (m:α->Nat):Prop where
 opn:∀ {H:Type} {enc:TypeId × Value->H} {W:World} {fuel:Nat} {cs:List Value} {x:DataW H × List MemPlace},DataW.trod enc P W 0 (fun _=>true) true fuel t cs=some x ->
  ∃ a,RelL [] W (fun b=>b<W.heap.size) (en a) cs/\(∀ u,u∈cs->u.oneCell'=true)/\good a/\m a<=Rows.uptoBulk x.1
theorem Opn.map {P:Program} {t:TypeId} {α β:Type} {en:α->List AV} {good:α->Prop} {m:α->Nat} (h:Opn P t en good m) (f:α->β) {en':β->List AV} {good':β->Prop} {m':β->Nat}
  (he:∀ a,en' (f a)=en a) (hg:∀ a,good a->good' (f a)) (hm:∀ a,m' (f a)<=m a):Opn P t en' good' m' :=
 ⟨fun hx=>by obtain ⟨a,h1,h2,h3,h4⟩:=h.opn hx;exact ⟨f a,by rw [he];exact h1,h2,hg a h3,yx (hm a) h4⟩⟩
theorem gE {σ:List Value} {w:World} {F:Nat->Prop} {a:AV} {v:Value} (h:Rel σ w F a v):RelL σ w F [a] [v]:=.cons h .nil
theorem Opn.bool {P:Program} {t:TypeId} (ht:P.underlying t=some .bool):Opn P t (fun b:Bool=>[.bool b]) (fun _=>True) (fun _=>1) :=
 ⟨fun hx=>by obtain ⟨b,rfl,rfl⟩:=DataW.trod_bool ht hx;exact ⟨b,gE (.bool b),by simp [Value.oneCell'],trivial,nm _⟩⟩
theorem Opn.int {P:Program} {t:TypeId} {k:IntKind} (ht:P.underlying t=some (.int k)):Opn P t (fun n:Int=>[.int k n]) (fun n=>k.min<=n/\n<=k.max) (fun _=>1) :=
 ⟨fun hx=>by obtain ⟨n,rfl,rfl,hw⟩:=DataW.trod_int ht hx;refine ⟨n,gE (.int k n),by simp [Value.oneCell'],?_,nm _⟩;simpa only [Lit.wf,yB,decide_eq_true_eq] using hw⟩
theorem Opn.str {P:Program} {t:TypeId} (ht:P.underlying t=some .string):Opn P t (fun s:List UInt8=>[.str s]) (fun s=>s.length<=maxLen) (fun s=>s.length+1) :=
 ⟨fun hx=>by
  obtain ⟨s,rfl,rfl,hw⟩:=DataW.trod_string ht hx;refine ⟨s.data.toList,gE (by simpa using Rel.str s.data.toList),by simp [Value.oneCell'],?_,by simp [Rows.uptoBulk]⟩;have e:s.data.toList.length=s.size:=by rw [Array.length_toList];rfl
  omega⟩
theorem Opn.slice {P:Program} {t e:TypeId} {α:Type} {en:α->List AV} {good:α->Prop} {m:α->Nat} {size:Nat} (ht:P.underlying t=some (.slice e)) (hc:P.cellsOf e=size+1) (h:Opn P e en good m) :
  Opn P t (fun l:List α=>[.sl (l.map en)]) (fun l=>∀ a,a∈l->good a) (fun l=>(l.map m).sum+1):=by
 refine ⟨fun {H enc W fuel cs x} hx=>?_⟩
 rcases DataW.trod_slice ht hx with ⟨rfl,rfl⟩ | ⟨a,len,cap,elems,rest,n,_,rfl,rfl,hb,hl,hm,hlen,hel,hsp,hns⟩
 ·exact ⟨[],gE .slNil,by simp [Value.oneCell'],by simp,by simp [Rows.uptoBulk]⟩
 rw [hc] at hel
 have hone:∀ i,i<len->∃ y:α × List Value × (DataW H × List MemPlace),elems[i]?=some y.2.2/\W.cells? 0 (a.add (i*(size+1))) (size+1)=some y.2.1/\RelL [] W (fun b=>b<W.heap.size) (en y.1) y.2.1/\(∀ u,u∈y.2.1->u.oneCell'=true)/\good y.1/\m y.1<=Rows.uptoBulk y.2.2.1:=by intro i hi;have h1:=hel i hi;rw [xx (by omega:i<elems.length)] at h1;obtain ⟨cs',hcs,ht'⟩:=Option.bind_eq_some_iff.1 h1;obtain ⟨y,g1,g2,g3,g4⟩:=h.opn ht';exact ⟨(y,cs',elems[i]),xx (by omega),hcs,g1,g2,g3,g4⟩
 obtain ⟨ys,hys,hp⟩:=mc len hone
 refine ⟨ys.map (·.1),gE ?_,by simp [Value.oneCell'],?_,?_⟩
 ·have hrl:((ys.map (·.1)).map en).length=len:=by simp [hys]
  have key:Rel [] W (fun b=>b<W.heap.size) (.sl ((ys.map (·.1)).map en)) (.slice (some a) ((ys.map (·.1)).map en).length cap):=by
   refine .sl _ (size+1) a cap (fun i j=>((ys[i]?).bind (fun y=>y.2.1[j]?)).getD .nilIface) (fun hne=>?_) (by omega) hm (fun row hrow=>?_) (fun i j hi hj=>?_) (fun i j hi hj=>?_) (fun i row j x hi hj=>?_)
   ·have hpos:0<len:=by
     rcases Nat.eq_zero_or_pos len with h0 | h0
     ·exfalso;apply hne;apply xB;omega
     ·exact h0
    obtain ⟨y,hy⟩:∃ y,ys[0]?=some y:=⟨ys[0],xx (by omega)⟩
    have:=World.cells?_block (hp 0 y hy).2.1 (by omega);rwa [fo] at this
   ·simp only [yA,xU] at hrow;obtain ⟨y,hy,rfl⟩:=hrow;obtain ⟨i,hi,hi'⟩:=List.getElem_of_mem hy;have h1:=hp i y (by rw [xx hi,hi']);have h2:=(World.cells?_some h1.2.1).2.1;have h3:=h1.2.2.1.1;simp only [Function.comp];omega
   ·rw [hrl] at hi;obtain ⟨y,hy⟩:∃ y,ys[i]?=some y:=⟨ys[i],xx (by omega)⟩
    have h1:=hp i y hy;have h2:=(World.cells?_some h1.2.1).2.1;have h3:y.2.1[j]?=some y.2.1[j]:=xx (by omega);simp only [hy,xw,h3,yw];exact h1.2.2.2.1 _ (xV _)
   ·rw [hrl] at hi;obtain ⟨y,hy⟩:∃ y,ys[i]?=some y:=⟨ys[i],xx (by omega)⟩
    have h1:=hp i y hy;have h2:=World.cells?_some h1.2.1;have h3:y.2.1[j]?=some y.2.1[j]:=xx (by omega);simp only [hy,xw,h3,yw];rw [<- cT,h2.2.2 j hj,h3]
   ·simp only [yA,xL,xI] at hi;obtain ⟨y,hy,rfl⟩:=hi;have h1:=hp i y hy;obtain ⟨v,hv,hr⟩:=h1.2.2.1.get hj;simp only [hy,xw,hv,yw];exact hr
  rwa [hrl] at key
 ·intro z hz
  simp only [xU] at hz
  obtain ⟨y,hy,rfl⟩:=hz
  obtain ⟨i,hi,hi'⟩:=List.getElem_of_mem hy
  exact (hp i y (by rw [xx hi,hi'])).2.2.2.2.1
 ·have:=nD m (ys.map (·.1)) (elems.map (·.1)) (by simp [hys,hlen]) (fun i z d hz hd=>by
   simp only [xL,xI] at hz hd;obtain ⟨y,hy,rfl⟩:=hz;obtain ⟨el,he,rfl⟩:=hd;have h1:=hp i y hy;rw [h1.1] at he;obtain rfl:=xA he;exact h1.2.2.2.2.2)
  simp only [Rows.uptoBulk]
  omega
structure OpnF (P:Program) (fs:List Field) (off total:Nat) {α:Type} (en:α->List AV) (good:α->Prop) (m:α->Nat):Prop where
 opn:∀ {H:Type} {enc:TypeId × Value->H} {W:World} {fuel:Nat} {cs:List Value} {xs:List (DataW H × List MemPlace)},cs.length=total ->
  xs.length=fs.length->(∀ (i:Nat) (f:Field),fs[i]?=some f->DataW.trod enc P W 0 (fun _=>true) true fuel f.type ((cs.drop f.offset).take (P.cellsOf f.type))=xs[i]?) ->
  ∃ a,RelL [] W (fun b=>b<W.heap.size) (en a) (cs.drop off)/\(∀ u,u∈cs.drop off->u.oneCell'=true)/\good a/\m a<=Rows.uptoBulkAll (xs.map (·.1))
theorem OpnF.nil {P:Program} {total:Nat}:OpnF P [] total total (fun _:Unit=>[]) (fun _=>True) (fun _=>0) :=
 ⟨fun hl hx hp=>⟨(),by rw [List.drop_of_length_le (by omega)];exact .nil,by rw [List.drop_of_length_le (by omega)];simp,trivial,by simp⟩⟩
theorem OpnF.cons {P:Program} {f:Field} {fs:List Field} {off total:Nat} {α β:Type} {en1:α->List AV} {en2:β->List AV} {g1:α->Prop} {g2:β->Prop} {m1:α->Nat} {m2:β->Nat}
  (ho:f.offset=off) (c:Nat) (hc:P.cellsOf f.type=c) (h1:Opn P f.type en1 g1 m1) (h2:OpnF P fs (off+c) total en2 g2 m2) :
  OpnF P (f::fs) off total (fun p:α × β=>en1 p.1++en2 p.2) (fun p=>g1 p.1/\g2 p.2) (fun p=>m1 p.1+m2 p.2):=by
 refine ⟨fun {H enc W fuel cs xs} hl hx hp=>?_⟩
 match xs,hx with
 | x::xs,hx =>
  have h0:=hp 0 f rfl
  simp only [List.getElem?_cons_zero] at h0
  subst ho;subst hc
  obtain ⟨a,a1,a2,a3,a4⟩:=h1.opn h0
  obtain ⟨b,b1,b2,b3,b4⟩:=h2.opn (xs:=xs) hl (by simpa using hx) (fun i f' hf=>by simpa using hp (i+1) f' (by simpa using hf))
  have hs:cs.drop f.offset=(cs.drop f.offset).take (P.cellsOf f.type)++cs.drop (f.offset+P.cellsOf f.type):=by rw [<- yX];exact (yy _ _).symm
  refine ⟨(a,b),?_,fun u hu=>?_,⟨a3,b3⟩,?_⟩
  ·rw [hs];exact a1.append b1
  ·rw [hs,xN] at hu
   exact hu.elim (a2 u) (b2 u)
  ·simp only [xM,Rows.uptoBulkAll];omega
theorem Opn.struct {P:Program} {t:TypeId} {fs:Array Field} {total:Nat} {α:Type} {en:α->List AV} {good:α->Prop} {m:α->Nat} (ht:P.underlying t=some (.struct fs)) (hc:P.cellsOf t=total)
  (h:OpnF P fs.toList 0 total en good m):Opn P t en good m:=by
 refine ⟨fun {H enc W fuel cs x} hx=>?_⟩
 obtain ⟨xs,n,rfl,rfl,hl,hxl,hp⟩:=DataW.trod_struct ht hx
 obtain ⟨a,h1,h2,h3,h4⟩:=h.opn (enc:=enc) (W:=W) (fuel:=n) (cs:=cs) (xs:=xs) (by omega) (by simp [hxl]) (fun i f hf=>hp i f (by simpa using hf))
 exact ⟨a,by simpa using h1,by simpa using h2,h3,by simp only [Rows.uptoBulk];omega⟩
theorem Opn.arg {P:Program} {t:TypeId} {α:Type} {en:α->AV} {good:α->Prop} {m:α->Nat} (h:Opn P t (fun a=>[en a]) good m)
  (ht:(match P.underlying t with | some (.struct _) | some (.array _ _)=>false | _=>true)=true)
  {H:Type} {enc:TypeId × Value->H} {W:World} {base:Nat} {v:Value} {d:DataW H} {ps:List MemPlace} (hval:Value.okWide P W .any base t v) (hd:DataW.Trod enc P W 0 (fun _=>true) true t v d ps) :
  ∃ a,Rel [] W (fun b=>b<W.heap.size) (en a) v/\good a/\m a<=Rows.uptoBulk d:=by
 obtain ⟨fuel,hf⟩:=hd
 obtain ⟨a,h1,h2,h3,h4⟩:=h.opn hf
 have hv:v.cells=#[v]:=by
  cases v with
  | agg cs =>
   exfalso;unfold Value.okWide at hval;split at hval
   ·rename_i e;rw [e] at ht;simp at ht
   ·rename_i e;rw [e] at ht;simp at ht
   ·unfold Cell.okWide at hval;split at hval<;>simp_all [Cell.ok]
  | _=>rfl
 rw [hv] at h1
 exact ⟨a,h1.2 0 (en a) v rfl rfl,h3,h4⟩
theorem Opn.args {P:Program} {t:TypeId} {α:Type} {en:α->List AV} {good:α->Prop} {m:α->Nat} (h:Opn P t en good m)
  {fs:Array Field} (ht:P.underlying t=some (.struct fs))
  {H:Type} {enc:TypeId × Value->H} {W:World} {base:Nat} {v:Value} {d:DataW H} {ps:List MemPlace} (hval:Value.okWide P W .any base t v) (hd:DataW.Trod enc P W 0 (fun _=>true) true t v d ps) :
  ∃ a,Rel [] W (fun b=>b<W.heap.size) (.agg (en a)) v/\good a/\m a<=Rows.uptoBulk d:=by
 obtain ⟨fuel,hf⟩:=hd
 obtain ⟨a,h1,h2,h3,h4⟩:=h.opn hf
 unfold Value.okWide at hval
 rw [ht] at hval
 obtain ⟨cs,rfl,_,_⟩:=hval
 simp only [Value.cells] at h1 h2
 refine ⟨a,?_,h3,h4⟩
 have:=Rel.agg (σ:=[]) (w:=W) (F:=fun b=>b<W.heap.size) (en a) cs.toList h1.1 h2 h1.2
 simpa using this
theorem ne {H:Type} {enc:TypeId × Value->H} {P:Program} (hl:laidOutB P=true) {W W':World} (hb:Below W.heap.size W W') (sp:Nat->Bool) :
  ∀ {ts:List TypeId} {vs:List Value} {ds:List (DataW H)} {ps:List MemPlace},(ts.all fun t=>P.readableRec t && decide (t<P.types.size))=true->DataW.TrodAll enc P W 0 (fun _=>true) true ts vs ds ps ->
   (∀ x∈ps,x.block<W.heap.size)->(∀ x∈ps,sp x.block=true)->DataW.TrodAll enc P W' 0 sp true ts vs ds ps
 | [],[],[],_,_,h,_,_=>h
 | [],_::_,_,_,_,h,_,_=>h.elim
 | [],[],_::_,_,_,h,_,_=>h.elim
 | _::_,[],_,_,_,h,_,_=>h.elim
 | _::_,_::_,[],_,_,h,_,_=>h.elim
 | t::ts,v::vs,d::ds,ps,hr,h,hlt,hsp=>by
  obtain ⟨p,q,h1,h2,rfl⟩:=h;simp only [List.all_cons,yB,decide_eq_true_eq] at hr;exact ⟨p,q,WideElems.Trod_stays hl hr.1.1 hr.1.2 h1 (fun x hx=>hb.same (hlt x (by simp [hx]))) (fun x hx=>hsp x (by simp [hx])),
   ne hl hb sp hr.2 h2 (fun x hx=>hlt x (by simp [hx])) (fun x hx=>hsp x (by simp [hx])),rfl⟩
section
variable {H:Type} {enc:TypeId × Value→H} {P:Program}
theorem qD {f:Func} {s:ChangeSpec} {apart fresh handsOn again:Bool} {W W':World} {args:Array Value} {v:Value} {ds gs:List (DataW H)} {before pa pv:List MemPlace}
  (hW:DataW.Whole enc P f.params.toList s.vars apart W args.toList ds gs before)
  (hres:∀ (b:Nat) (sp:Nat->Bool) (hd:Bool),DataW.TrodAll enc P W' b sp hd f.resultTypes.toList (v.resultList f.resultTypes.size) (s.fn H (ds++gs)).results [])
  (hargs:∀ sp:Nat->Bool,(∀ p∈before,sp p.block=true)->DataW.TrodAll enc P W' 0 sp true f.params.toList args.toList (s.fn H (ds++gs)).args pa)
  (hvars:∀ sp:Nat->Bool,(∀ p∈before,sp p.block=true)->DataW.TrodVars enc P W' sp s.vars (s.fn H (ds++gs)).vars pv)
  (hps:before=pa++pv) (hb:Below W.heap.size W W')
  (hok:∀ (j:Nat) (t:TypeId) (r:Value),f.resultTypes[j]?=some t->(v.resultList f.resultTypes.size)[j]?=some r->Value.okWide P W' .any 0 t r) :
  s.post enc P f apart fresh handsOn again W args v W':=by
 have hlt:∀ p∈before,p.block<W.heap.size:=fun p hp=>hW.lt p hp
 have hold:∀ p∈before,(fun b=>decide (b<W.heap.size)) p.block=true:=fun p hp=>by simpa using hlt p hp
 refine ⟨ds,gs,before,[],pa,pv,hW,hres _ _ _,hargs _ hold,hvars _ hold,World.keptBut_mono (fun p hp=>⟨hp,?_⟩) (hb.frame (·∈before)),fun _=>?_⟩
 ·rw [hps,xN] at hp
  exact Or.inr hp
 ·obtain ⟨_,_,_,_,_,hz,hn⟩:=hW
  refine ⟨hok,_,_,([]++pa)++pv,⟨[]++pa,pv,trodAll_append (hargs _ (fun _ _=>rfl)) (hres _ _ _),hvars _ (fun _ _=>rfl),rfl,?_,?_⟩,?_⟩
  ·intro b off hp
   have hin:MemPlace.cell b off∈before:=by rw [hps];simpa using hp
   rw [hb.frozen (hlt _ hin)]
   exact hz b off hin
  ·intro ha
   have:=hn ha
   rw [hps] at this
   simpa using this
  ·intro p hp _
   rw [hps]
   simpa using hp
end
theorem tU {H:Type} {enc:TypeId × Value->H} {P:Program} {id:FuncId} {f:Func} {s:ChangeSpec} {W:World} {args:Array Value} {ds gs:List (DataW H)} {before:List MemPlace} {av:List AV} {tb:TypeId}
  (hl:laidOutB P=true) (htb:P.underlying tb=some .bool) (hres:f.resultTypes=#[tb]) (hr:(f.params.toList.all fun t=>P.readableRec t && decide (t<P.types.size))=true) (hvars:s.vars=[])
  (hfn:(s.fn H (ds++gs)).results=[.lit (.bool true)]) (hfa:(s.fn H (ds++gs)).args=ds) (hfv:(s.fn H (ds++gs)).vars=[])
  (hW:DataW.Whole enc P f.params.toList s.vars false W args.toList ds gs before)
  (hrel:RelL [] W (fun b=>b<W.heap.size) av args.toList) (hc:ACalls P id av [] fun r aw'=>r=.bool true/\aw'=[]) (hG:Gd W (fun b=>b<W.heap.size):=by intro g h;simp [gvs] at h) :
  Calls P id args W fun e W'=>∃ v,e=.returned v/\s.post enc P f false true false false W args v W':=by
 have hs:Sim [] [] W (fun b=>b<W.heap.size):=⟨rfl,fun k o v h=>by simp at h,fun k k' o o' v v' g _ h=>by simp at h,fun b h=>h,hG⟩
 refine (hc.2 W _ [] args.toList hs hrel).mono fun e W' hx=>?_
 obtain ⟨v,r,aw',σ',F',he,⟨hr1,hr2⟩,_,hv,hm⟩:=hx
 subst hr1;subst hr2
 cases hv
 have hb:Below W.heap.size W W':=⟨hm.os,hm.tape,hm.output.1,hm.size,fun k hk=>hm.keep k hk (fun ⟨k',o,v,ho,_⟩=>by simp at ho)⟩
 refine ⟨.bool true,he,?_⟩
 have hW':=hW
 obtain ⟨p,q,hA,hV,rfl,hfz,hnd⟩:=hW'
 rw [hvars] at hV
 obtain ⟨rfl,rfl⟩:=trodVars_none hV
 have hlt:∀ x∈p++[],x.block<W.heap.size:=fun x hx=>hW.lt x hx
 refine qD (pa:=p) (pv:=[]) hW (fun b sp hd=>?_) (fun sp hsp=>?_) (fun sp hsp=>?_) rfl hb (ok_one hres rfl (okWide_bool_mk htb _))
 ·rw [hfn,hres]
  exact trodAll_cons_mk (shut_bool htb _) trodAll_mk0
 ·rw [hfa]
  exact ne hl hb sp hr hA (fun x hx=>hlt x (by simpa using hx)) (fun x hx=>hsp x (by simpa using hx))
 ·rw [hfv,hvars]
  exact rfl
end
def gI (n:Int):Prop := -9223372036854775808<=n/\n<=9223372036854775807
def gL {α:Type} (g:α->Prop) (l:List α):Prop:=∀ a,a∈l->g a
def gNode (a:Node):Prop:=gI a.Kind/\gI a.A/\gL gI a.In/\gL gI a.Out
def gNet (a:Net):Prop:=gL gNode a.Nodes/\gI a.Rings/\gI a.Room
def jZ (a:Happening):Prop:=gI a.Kind/\gI a.N
def mI (n:Int):Nat:=1
def mB (b:Bool):Nat:=1
def mL {α:Type} (m:α->Nat) (l:List α):Nat:=(l.map m).sum+1
def mNode (a:Node):Nat:=mL mI a.In+mL mI a.Out+2
def mNet (a:Net):Nat:=mL mNode a.Nodes+2
def gm (a:Happening):Nat:=2
theorem js {α:Type} {m:α->Nat} (h:∀ a,1<=m a):∀ l:List α,l.length<=mL m l
 | []=>by simp [mL]
 | a::l=>by have:=js h l;grind [mL]
theorem pq {α:Type} {m:α->Nat}:∀ {l:List α} {a:α},a∈l->m a<=mL m l
 | b::l,a,h=>by
  rcases yc.1 h with rfl | h
  ·simp [mL];omega
  ·have:=pq (m:=m) h;grind [mL]
theorem eS {n:Int} (h0 : -9223372036854775808<=n) (h1:n<=9223372036854775807):IntKind.i64.wrap n=n:=IntWalk.i64_in n ⟨h0,h1⟩
theorem bv {k:Nat} (h:k<4611686018427387904):IntKind.i64.wrap ((k:Int)+1)=((k+1:Nat):Int):=by grind [eS]
theorem bc {α:Type} {xs:List α} {k:Nat} {x:α} (h:xs[k]?=some x):idx xs (k:Int)=some x:=by assumption
theorem jk {α:Type} {xs:List α} {k:Nat} (h:k<xs.length):ixN xs (k:Int)=some k:=by simp_all [ixN]
theorem eZ {α:Type} {xs ys:List α} (h:xs.length+ys.length<=1099511627776):app xs ys=some (xs++ys):=by unfold app;rw [if_pos h]
theorem pH {xs ys:List UInt8} (h:xs.length+ys.length<=4611686018427387904):cat xs ys=some (xs++ys):=by unfold cat;rw [if_pos h]
theorem pj {α:Type} {xs:List α} {i j:Nat} (h:i<=j) (h2:j<=xs.length):sub xs (i:Int) (j:Int)=some ((xs.take j).drop i):=by simp_all [sub]
theorem sub_0 {α:Type} {xs:List α} {j:Nat} (h2:j<=xs.length):sub xs 0 (j:Int)=some (xs.take j):=by have:=pj (xs:=xs) (i:=0) (j:=j) (by omega) h2;grind
theorem uM {α:Type} {xs:List α} {i:Nat} (h2:i<=xs.length):sub xs (i:Int) (xs.length:Int)=some (xs.drop i):=by simp_all [pj]
def de {α σ ρ:Type} (f:Nat->α->σ->Option (σ ⊕ ρ)) (fin:σ->Option ρ):Nat->List α->σ->Option ρ
 | _,[],st=>fin st
 | k,x::xs,st=>match f k x st with
  | none=>none
  | some (.inl st')=>de f fin (k+1) xs st'
  | some (.inr r)=>some r
theorem mM {α σ ρ τ:Type} (xs:List α) (hx:xs.length<=1099511627776) (e:Nat->σ->τ) {body:τ->Option (τ ⊕ ρ)} (f:Nat->α->σ->Option (σ ⊕ ρ)) (fin:σ->Option ρ)
  (h1:∀ (k:Nat) x st,xs[k]?=some x->k<xs.length->idx xs (k:Int)=some x->decide ((k:Int)<(xs.length:Int))=true->IntKind.i64.wrap ((k:Int)+1)=((k+1:Nat):Int) ->
   body (e k st)=match f k x st with
    | none=>none
    | some (.inl st')=>some (.inl (e (k+1) st'))
    | some (.inr r)=>some (.inr r))
  (h2:∀ st,decide ((xs.length:Int)<(xs.length:Int))=false->body (e xs.length st)=(fin st).map .inr) :
  ∀ (n k:Nat) st,k+n=xs.length->iter body (e k st)=de f fin k (xs.drop k) st
 | 0,k,st,h=>by
  have hk:k=xs.length:=by omega
  subst hk;rw [am,h2 st (by simp),List.drop_length];unfold de;cases fin st<;>rfl
 | n+1,k,st,h=>by
  have hlt:k<xs.length:=by omega
  have hg:xs[k]?=some xs[k]:=xx hlt;rw [am,h1 k xs[k] st hg hlt (bc hg) (by simp;omega) (bv (by omega)),yi hlt];unfold de;cases f k xs[k] st with
  | none=>rfl
  | some v =>
   cases v with
   | inl st'=>exact mM xs hx e f fin h1 h2 n (k+1) st' (by omega)
   | inr r=>rfl
theorem mj {α σ ρ τ:Type} (xs:List α) (hx:xs.length<=1099511627776) (e:Nat->σ->τ) {body:τ->Option (τ ⊕ ρ)} (f:Nat->α->σ->Option (σ ⊕ ρ)) (fin:σ->Option ρ) (st:σ)
  (h1:∀ (k:Nat) x st,xs[k]?=some x->k<xs.length->idx xs (k:Int)=some x->decide ((k:Int)<(xs.length:Int))=true->IntKind.i64.wrap ((k:Int)+1)=((k+1:Nat):Int) ->
   body (e k st)=match f k x st with
    | none=>none
    | some (.inl st')=>some (.inl (e (k+1) st'))
    | some (.inr r)=>some (.inr r))
  (h2:∀ st,decide ((xs.length:Int)<(xs.length:Int))=false->body (e xs.length st)=(fin st).map .inr):iter body (e 0 st)=de f fin 0 xs st:=by
 have:=mM xs hx e f fin h1 h2 xs.length 0 st (by omega)
 grind
theorem jY {α:Type} [DecidableEq α] (a b:List α) (ha:a.length<=1099511627776) (hl:a.length=b.length) {body:Int->Option (Int ⊕ Bool)}
  (h1:∀ (k:Nat) x y,decide ((k:Int)<(a.length:Int))=true->idx a (k:Int)=some x->idx b (k:Int)=some y->IntKind.i64.wrap ((k:Int)+1)=((k+1:Nat):Int)->body k=if x=y then some (.inl ((k+1:Nat):Int)) else some (.inr false))
  (h2:decide ((a.length:Int)<(a.length:Int))=false->body a.length=some (.inr true)):iter body 0=some (decide (a=b)):=by
 have key:∀ (n k:Nat),k+n=a.length->iter body k=some (decide (a.drop k=b.drop k)):=by
  intro n;induction n with
  | zero =>
   grind [am]
  | succ n ih =>
   intro k hk;have hlt:k<a.length:=by omega
   have hlt2:k<b.length:=by omega
   have hd:(a.drop k=b.drop k) ↔ (a[k]=b[k]/\a.drop (k+1)=b.drop (k+1)):=by grind [List.drop_eq_getElem_cons]
   rw [am,h1 k a[k] b[k] (by simp;omega) (bc (xx hlt)) (bc (xx hlt2)) (bv (by omega))];grind
 have:=key a.length 0 (by omega)
 grind
section
open Go.RowKit
theorem on3:Opn Tryd.prog 3 (fun n:Int=>[.int .i64 n]) gI mI :=
 (Opn.int Tryd.underlying3).map id (fun _=>rfl) (fun a h=>⟨h.1,h.2⟩) (fun _=>xD _)
theorem on53:Opn Tryd.prog 53 (fun l=>[.sl (l.map aj)]) (gL gI) (mL mI) :=
 (Opn.slice (size:=0) Tryd.underlying53 Ty.c3 on3).map id (fun _=>rfl) (fun a h=>h) (fun _=>xD _)
theorem on55:Opn Tryd.prog 55 al gNode mNode :=
 (Opn.struct Tryd.underlying55 Ty.c55 (OpnF.cons rfl 1 Ty.c3 on3 (OpnF.cons rfl 1 Ty.c3 on3 (OpnF.cons rfl 1 Ty.c53 on53 (OpnF.cons rfl 1 Ty.c53 on53 OpnF.nil))))).map (fun p=>(⟨p.1,p.2.1,p.2.2.1,p.2.2.2.1⟩:Node)) (fun p=>rfl) (fun p h=>⟨h.1,h.2.1,h.2.2.1,h.2.2.2.1⟩) (fun p=>by simp only [mNode,mI,mB];omega)
theorem on22:Opn Tryd.prog 22 (fun l=>[.sl (l.map al)]) (gL gNode) (mL mNode) :=
 (Opn.slice (size:=3) Tryd.underlying22 Ty.c55 on55).map id (fun _=>rfl) (fun a h=>h) (fun _=>xD _)
theorem on24:Opn Tryd.prog 24 aF gNet mNet :=
 (Opn.struct Tryd.underlying24 Ty.c24 (OpnF.cons rfl 1 Ty.c22 on22 (OpnF.cons rfl 1 Ty.c3 on3 (OpnF.cons rfl 1 Ty.c3 on3 OpnF.nil)))).map (fun p=>(⟨p.1,p.2.1,p.2.2.1⟩:Net)) (fun p=>rfl) (fun p h=>⟨h.1,h.2.1,h.2.2.1⟩) (fun p=>by simp only [mNet,mI,mB];omega)
theorem on38:Opn Tryd.prog 38 aC jZ gm :=
 (Opn.struct Tryd.underlying38 Ty.c38 (OpnF.cons rfl 1 Ty.c3 on3 (OpnF.cons rfl 1 Ty.c3 on3 OpnF.nil))).map (fun p=>(⟨p.1,p.2.1⟩:Happening)) (fun p=>rfl) (fun p h=>⟨h.1,h.2.1⟩) (fun p=>by simp only [gm,mI,mB];omega)
theorem on25:Opn Tryd.prog 25 (fun l=>[.sl (l.map aC)]) (gL jZ) (mL gm) :=
 (Opn.slice (size:=1) Tryd.underlying25 Ty.c38 on38).map id (fun _=>rfl) (fun a h=>h) (fun _=>xD _)
end
section
open Go
def dig (n:Int):List UInt8:=Go.Lib.decDigits n.toNat
theorem gK {n:Int} (h:0<=n/\n<100):cB n=some (dig n):=by
 unfold cB itoaS;first
 | (rw [if_pos h];rfl)
 | (rw [if_pos (by omega)];unfold Go.Lib.itoa;rw [if_neg (by omega)];rfl)
theorem dA {n:Int} (h:n<100):(dig n).length<=2/\dig n≠[]:=by
 unfold dig;unfold Go.Lib.decDigits;split
 ·exact ⟨by simp,by simp⟩
 ·unfold Go.Lib.decDigits;rw [dif_pos (by omega)];exact ⟨by simp,by simp⟩
def aH (l:List Int):List UInt8:=if l=[] then [45] else Go.Lib.join (l.map dig) [44]
theorem takeS {α:Type} {l:List α} {k:Nat} {x:α} (h:l[k]?=some x):l.take (k+1)=l.take k++[x]:=by rw [List.take_add_one,h];rfl
theorem o5:∀ xs:List (List UInt8),(∀ x,x∈xs->x.length<=2)->Go.Lib.lens xs<=2*xs.length
 | [],_=>by simp [Go.Lib.lens]
 | x::r,h=>by
  have h1:=h x xC;have h2:=o5 r fun y hy=>h y (xH _ hy)
  simp only [Go.Lib.lens,xM,List.sum_cons,xE] at h2 ⊢;omega
theorem oB (xs:List (List UInt8)) (h:∀ x,x∈xs->x.length<=2):(Go.Lib.join xs [44]).length<=3*xs.length:=by
 cases xs with
 | nil=>rw [Go.Lib.join_nil];simp
 | cons x r =>
  have:=o5 (x::r) h;rw [Go.Lib.join_length];simp only [xE,xS] at this ⊢;omega
section
variable {l:List Int} (hl:l.length≤1000) (h:∀ x,x∈l→0≤x∧x<100)
include hl h
theorem oI (k:Nat):(Go.Lib.join ((l.take k).map dig) [44]).length<=3000:=by
 have:=oB ((l.take k).map dig) fun x hx=>by obtain ⟨y,hy,rfl⟩:=xU.1 hx;exact (dA (h y (ya hy)).2).1
 rw [xP,yH] at this;omega
theorem lY:∀ (m k:Nat),k+m=l.length->iter (fun cQ:Int × (List (List UInt8))=>dS l cQ.1 cQ.2) ((k:Int),(l.take k).map dig)=some (aH l)
 | 0,k,hk=>by
  have e:dS l (k:Int) ((l.take k).map dig)=some (.inr (aH l)):=by
   have hj:=oI hl h l.length;unfold dS;rw [xR (xD _)] at hj;rw [if_neg (by simp;omega),xR (by omega)];unfold aH;by_cases h0:l=[]
   ·subst h0;rfl
   ·rw [if_neg (by simpa using h0),if_neg h0];unfold strings_Join joinB;rw [if_pos ⟨by simp;omega,by omega⟩];rfl
  rw [am];simp only [e]
 | m+1,k,hk=>by
  have hlt:k<l.length:=by omega
  have hx:l[k]?=some l[k]:=xx hlt;have hb:=h l[k] (xV hlt);generalize l[k]=x at hx hb;have e:dS l (k:Int) ((l.take k).map dig)=some (.inl (((k+1:Nat):Int),(l.take (k+1)).map dig)):=by unfold dS;rw [if_pos (by simp;omega),bc hx,xw,gK hb,xw,eZ (by simp;omega),xw,bv (by omega),takeS hx,yv];rfl
  rw [am];simp only [e];exact lY m (k+1) (by omega)
theorem mG:gj l=some (aH l):=lY hl h l.length 0 (by omega)
end
end
section
open Go
def kindsL:List (List UInt8):=[[115,111,117,114,99,101],[109,97,112],[115,99,97,110],[99,111,117,110,116],[116,101,101],[109,101,114,103,101],[115,112,108,105,116],[115,105,110,107]]
def bW (k:Int):List UInt8:=kindsL.getD (k - 1).toNat []
def bS (x:Node):List UInt8:=bW x.Kind++[32]++dig x.A++[32]++aH x.In++[32]++aH x.Out++[10]
def cz (n:Net):List UInt8:=[114,105,110,103,115,32]++dig n.Rings++[32]++dig n.Room++[10]
def dg (n:Net):List UInt8:=cz n++(n.Nodes.map bS).flatten
structure TNode (x:Node):Prop where
 k:1<=x.Kind/\x.Kind<=8
 a:0<=x.A/\x.A<100
 i:x.In.length<=1000/\∀ r,r∈x.In->0<=r/\r<100
 o:x.Out.length<=1000/\∀ r,r∈x.Out->0<=r/\r<100
structure TN (n:Net):Prop where
 l:n.Nodes.length<=12
 r:0<=n.Rings/\n.Rings<100
 m:0<=n.Room/\n.Room<100
 x:∀ x,x∈n.Nodes->TNode x
theorem ky {l:List Int} (hl:l.length<=1000) (h:∀ x,x∈l->0<=x/\x<100):(aH l).length<=3000:=by
 have:=oI hl h l.length;rw [xR (xD _)] at this;unfold aH;split
 ·simp
 ·exact this
theorem oH (k:Int):(bW k).length<=6:=by
 unfold bW;rw [xK];cases h:kindsL[(k - 1).toNat]? with
 | none=>simp
 | some x =>
  have hall:∀ y,y∈kindsL->y.length<=6:=by decide
  exact hall x (xz h)
theorem kG {x:Node} (t:TNode x):(bS x).length<=7000:=by have h1:=oH x.Kind;have h2:=(dA t.a.2).1;have h3:=ky t.i.1 t.i.2;have h4:=ky t.o.1 t.o.2;unfold bS;simp only [xF,xE,xS];omega
theorem nf:∀ l:List Node,(∀ x,x∈l->TNode x)->((l.map bS).flatten).length<=7000*l.length
 | [],_=>by simp
 | x::l,h=>by
  have h1:=kG (h x xC);have h2:=nf l fun y hy=>h y (xH _ hy)
  rw [xM,xX,xF,xE];omega
theorem jd {n:Net} (t:TN n):(cz n).length<=100:=by have h1:=(dA t.r.2).1;have h2:=(dA t.m.2).1;unfold cz;simp only [xF,xE,xS];omega
theorem ro (a b:List UInt8):aU (a++b)=aU a++aU b:=by unfold aU;rw [yv]
theorem mm (a:List UInt8):(aU a).length=a.length:=by unfold aU;rw [xP]
theorem qP (a:List UInt8):cw (aU a)=a:=by
 unfold cw aU;rw [yA];induction a with
 | nil=>rfl
 | cons b a ih=>rw [xM,ih];simp
theorem pk (ws:List (List UInt8)) (s:List UInt8) (hw:ws.length<=4) (hj:(Go.Lib.join ws [32]).length<=10000) (hp:s.length<=10000000):fj ws (aU s)=some (aU (s++Go.Lib.join ws [32]++[10])):=by unfold fj strings_Join joinB;rw [if_pos ⟨by omega,by omega⟩,xw,pH (by simp only [xE,xS];omega),xw];unfold ik jQ;rw [xw,eZ (by rw [mm,mm,xF];simp only [xE,xS];omega),xw,xw,<- ro,yF]
theorem join4 (a b c d:List UInt8):Go.Lib.join [a,b,c,d] [32]=a++[32]++b++[32]++c++[32]++d:=by rw [Go.Lib.join_cons];simp [Go.Lib.joinTail]
theorem join3 (a b c:List UInt8):Go.Lib.join [a,b,c] [32]=a++[32]++b++[32]++c:=by rw [Go.Lib.join_cons];simp [Go.Lib.joinTail]
theorem nH {k:Int} (h:1<=k/\k<=8):∃ j:Nat,k=(j:Int)/\j<9/\([]::kindsL)[j]?=some (bW k)/\j - 1<8/\kindsL[j - 1]?=some (bW k):=by
 obtain ⟨j,rfl⟩:=yS (show 0<=k by omega);refine ⟨j,rfl,by omega,?_⟩;have:j=1∨j=2∨j=3∨j=4∨j=5∨j=6∨j=7∨j=8:=by omega
 rcases this with rfl | rfl | rfl | rfl | rfl | rfl | rfl | rfl<;>exact ⟨rfl,by decide,rfl⟩
section
variable {n:Net} (t:TN n)
include t
theorem mq:∀ (m k:Nat),k+m=n.Nodes.length->iter (fun cN:Int × (List Int)=>dT n cN.1 cN.2) ((k:Int),aU (cz n++((n.Nodes.take k).map bS).flatten))=some (dg n,0)
 | 0,k,hk=>by
  have e:dT n (k:Int) (aU (cz n++((n.Nodes.take k).map bS).flatten))=some (.inr (dg n,0)):=by
   unfold dT;rw [if_neg (by simp;omega),xR (by omega)];unfold j8 bldS;rw [if_pos ⟨by simp [aU,cz],fun x hx=>by obtain ⟨b,_,rfl⟩:=xU.1 hx;have:=b.toNat_lt;omega⟩,qP]
   rfl
  rw [am];simp only [e]
 | m+1,k,hk=>by
  have hlt:k<n.Nodes.length:=by omega
  have hx:n.Nodes[k]?=some n.Nodes[k]:=xx hlt;have tx:=t.x n.Nodes[k] (xV hlt);generalize n.Nodes[k]=x at hx tx;obtain ⟨j,hj,hj9,hjn,_⟩:=nH tx.k;have hl1:=nf (n.Nodes.take k) fun y hy=>t.x y (ya hy)
  have hl2:=jd t;have hl3:=kG tx;have htk:(n.Nodes.take k).length<=12:=by rw [yH];have:=t.l;omega
  have e:dT n (k:Int) (aU (cz n++((n.Nodes.take k).map bS).flatten))=some (.inl (((k+1:Nat):Int),aU (cz n++((n.Nodes.take (k+1)).map bS).flatten))):=by
   unfold dT;rw [if_pos (by simp;omega),bc hx,xw,show dq=some ([]::kindsL) from rfl,xw,hj,jk (show j<([]::kindsL).length from hj9),xw,hjn,xw,gK tx.a,xw,mG tx.i.1 tx.i.2,xw,mG tx.o.1 tx.o.2,xw,
    pk _ _ (by simp) (by rw [join4];unfold bS at hl3;simp only [xF,xE,xS] at hl3 ⊢;omega) (by rw [xF];omega),xw,bv (by have:=t.l;omega),takeS hx,yv,yJ,join4]
   unfold bS;simp only [xM,List.map_nil,xX,List.flatten_nil,yE,yF]
  rw [am];simp only [e];exact mq m (k+1) (by omega)
theorem nq (hc:cr n=some 0):d7 n=some (dg n,0):=by
 have hl2:=jd t;unfold d7;rw [hc,xw,if_neg (by decide),gK t.r,xw,gK t.m,xw,show ([]:List Int)=aU [] from rfl,
  pk _ _ (by simp) (by rw [join3];unfold cz at hl2;simp only [xF,xE,xS] at hl2 ⊢;omega) (by simp),xw,join3]
 have:=mq t n.Nodes.length 0 (by omega);simp only [List.take_zero,List.map_nil,List.flatten_nil,yE] at this;rw [<- this];unfold cz;simp only [yl,yb,yF];rfl
end
end
section
open Go
theorem mJ (b:UInt8):∀ ls:List (List UInt8),(∀ l,l∈ls->b ∉ l)->aO b (ls.map (·++[b])).flatten=ls++[[]]
 | [],_=>rfl
 | l::ls,h=>by rw [xM,xX,yF];show aO b (l++b::(ls.map (·++[b])).flatten)=_;rw [fI _ (h l xC),mJ b ls fun x hx=>h x (xH _ hx)];rfl
theorem gr (b:UInt8):∀ (ws:List (List UInt8)),ws≠[]->(∀ l,l∈ws->b ∉ l)->aO b (Go.Lib.join ws [b])=ws
 | [],h,_=>absurd rfl h
 | [w],_,h=>by rw [Go.Lib.join_one,gX (h w xC)]
 | w::v::ws,_,h=>by
  have ih:=gr b (v::ws) (by simp) fun x hx=>h x (xH _ hx)
  have e:Go.Lib.join (w::v::ws) [b]=w++b::Go.Lib.join (v::ws) [b]:=by rw [Go.Lib.join_cons,Go.Lib.join_cons];simp [Go.Lib.joinTail]
  rw [e,fI _ (h w xC),ih]
theorem g8 {u:Nat} (h:u<10):Go.Lib.decDigits u=[UInt8.ofNat (48+u)]:=by rw [Go.Lib.decDigits,dif_pos h]
theorem kQ {u:Nat} (h:¬ u<10):Go.Lib.decDigits u=Go.Lib.decDigits (u / 10)++[UInt8.ofNat (48+u % 10)]:=by rw [Go.Lib.decDigits,dif_neg h]
theorem mZ {k:Nat} (h:k<10):(UInt8.ofNat (48+k)).toNat=48+k:=by rw [UInt8.toNat_ofNat'];omega
theorem kz (u:Nat):∀ x,x∈Go.Lib.decDigits u->48<=x.toNat/\x.toNat<=57:=by
 induction u using Nat.strongRecOn with
 | ind u ih =>
  intro x hx;by_cases h:u<10
  ·rw [g8 h] at hx;obtain rfl:=yD.1 hx;rw [mZ h];omega
  ·rw [kQ h] at hx;rcases xN.1 hx with hx | hx
   ·exact ih _ (by omega) x hx
   ·obtain rfl:=yD.1 hx;rw [mZ (by omega)];omega
theorem eP {l:List UInt8} {b:UInt8} (h:∀ x,x∈l->48<=x.toNat/\x.toNat<=57) (hb:b.toNat<48∨57<b.toNat):b ∉ l:=fun hm=>by have:=h b hm;omega
theorem dB (n:Int):∀ x,x∈dig n->48<=x.toNat/\x.toNat<=57:=kz _
theorem ni {l:List Int}:∀ x,x∈aH l->44<=x.toNat/\x.toNat<=57:=by
 intro x hx;unfold aH at hx;split at hx
 ·obtain rfl:=yD.1 hx;decide
 ·have:∀ ws:List (List UInt8),(∀ w,w∈ws->∀ x,x∈w->48<=x.toNat/\x.toNat<=57)->∀ x,x∈Go.Lib.join ws [44]->44<=x.toNat/\x.toNat<=57:=by
   intro ws;induction ws with
   | nil=>intro _ x hx;rw [Go.Lib.join_nil] at hx;cases hx
   | cons w ws ih =>
    intro h x hx;cases ws with
    | nil =>
     rw [Go.Lib.join_one] at hx;have:=h w xC x hx;omega
    | cons v ws =>
     have e:Go.Lib.join (w::v::ws) [44]=w++44::Go.Lib.join (v::ws) [44]:=by rw [Go.Lib.join_cons,Go.Lib.join_cons];simp [Go.Lib.joinTail]
     rw [e] at hx;rcases xN.1 hx with hx | hx
     ·have:=h w xC x hx;omega
     ·rcases yc.1 hx with rfl | hx
      ·decide
      ·exact ih (fun w hw=>h w (xH _ hw)) x hx
  refine this _ (fun w hw=>?_) x hx;obtain ⟨n,_,rfl⟩:=xU.1 hw;exact dB n
theorem iJ {n:Int} (h:0<=n/\n<100):cY (dig n)=some n/\dr (dig n)=some n:=by
  obtain ⟨u,rfl⟩:=yS h.1;have hu:u<100:=by omega
  have ha:atoiS (dig (u:Int))=some (u:Int):=by
    unfold atoiS;rw [if_pos (by have:=(dA h.2).1;omega)];unfold dig;rw [yT];by_cases h1:u<10
    · rw [g8 h1];have hd:∀ v,v<10->Go.Lib.atoi [UInt8.ofNat (48+v)]=some (v:Int):=by decide
      exact hd u h1
    · rw [kQ h1,g8 (by omega)];have hd:∀ v,v<10->∀ w,w<10->Go.Lib.atoi ([UInt8.ofNat (48+v)]++[UInt8.ofNat (48+w)])=some ((10*v+w:Nat):Int):=by decide
      rw [hd _ (by omega) _ (by omega)];congr 2;omega
  refine ⟨?_,?_⟩
  · unfold cY itoa100;rw [ha,xw,if_neg (by omega),if_pos h,xw];exact if_pos rfl
  · have hw:atoiW (dig (u:Int))=some (u:Int):=by
      unfold atoiW;first
      | exact ha
      | (unfold atoiA dig
         rw [if_pos (by have:=(dA h.2).1;unfold dig at this;omega)]
         have:=na (n:=(u:Int)) ⟨by omega,by omega⟩
         unfold Go.Lib.itoa at this
         rw [if_neg (by omega)] at this
         rw [this])
    unfold dr;rw [hw,xw,if_neg (by simp),gK h];simp
theorem oh:∀ l:List Int,(∀ x,x∈l->0<=x/\x<100)->allT (l.map dig)=some l
 | [],_=>rfl
 | x::l,h=>by rw [xM];unfold allT;rw [(iJ (h x xC)).1,xw,oh l fun y hy=>h y (xH _ hy)];rfl
theorem mh {l:List Int} (hl:l.length<=1000) (h:∀ x,x∈l->0<=x/\x<100):gY (aH l)=some l:=by
 have hle:=ky hl h;unfold gY gZ;by_cases h0:l=[]
 ·subst h0;rfl
 ·have hne:aH l≠[45]:=by
   intro e;have hm:(45:UInt8)∈aH l:=by rw [e];exact xC
   unfold aH at hm e;rw [if_neg h0] at hm e;cases l with
   | nil=>exact h0 rfl
   | cons x r =>
    rw [xM,Go.Lib.join_cons] at e;have hd:=(dA (h x xC).2).2;cases hx:dig x with
    | nil=>exact hd hx
    | cons c s =>
     rw [hx] at e;have hc:=dB x c (by rw [hx];exact xC);injection e with e1 e2
     subst e1;revert hc;decide
  rw [if_neg hne,if_pos (by omega)];have e:aO 44 (aH l)=l.map dig:=by
   unfold aH;rw [if_neg h0];refine gr 44 _ (by simpa using h0) fun w hw=>?_
   obtain ⟨n,_,rfl⟩:=xU.1 hw;exact eP (dB n) (by decide)
  rw [e,oh l h]
end
section
open Go
def verbsL:List (List UInt8):=[[103,111],[119,114,105,116,101],[102,108,117,115,104],[116,101,108,108],[99,117,116],[117,112],[108,97,121]]
def bY (k:Int):List UInt8:=verbsL.getD (k - 1).toNat []
def charsT:List UInt8:=[45,48,49,50,51,52,53,54,55,56,57]
def an (x:Happening):List UInt8:=bY x.Kind++if x.N=0 then [] else Go.Lib.itoa x.N
def Int64 (n:Int):Prop := -9223372036854775808<=n/\n<=9223372036854775807
theorem n6 (n:Int):∀ x,x∈Go.Lib.itoa n->x=45∨48<=x.toNat/\x.toNat<=57:=by
 intro x hx;unfold Go.Lib.itoa at hx;split at hx
 ·rcases yc.1 hx with h | h
  ·exact .inl h
  ·exact .inr (kz _ x h)
 ·exact .inr (kz _ x hx)
theorem mA (n:Int):∃ c r,Go.Lib.itoa n=c::r/\c∈charsT:=by
 unfold Go.Lib.itoa;split
 ·exact ⟨45,_,rfl,by decide⟩
 ·obtain ⟨c,r,e,h1,h2⟩:=iN n.toNat;refine ⟨c,r,e,?_⟩;have hall:∀ k,k<10->UInt8.ofNat (48+k)∈charsT:=by decide
  have:=hall (c.toNat - 48) (by omega);rw [show 48+(c.toNat - 48)=c.toNat by omega,UInt8.ofNat_toNat] at this;exact this
theorem iY (k:Int):∀ x,x∈bY k->97<=x.toNat/\x.toNat<128:=by
 unfold bY;rw [xK];cases h:verbsL[(k - 1).toNat]? with
 | none=>intro x hx;simp at hx
 | some l =>
  have hall:∀ y,y∈verbsL->∀ x,x∈y->97<=x.toNat/\x.toNat<128:=by decide
  exact hall l (xz h)
theorem uz (x:Happening):(32:UInt8) ∉ an x:=by
 intro h;unfold an at h;rcases xN.1 h with h | h
 ·have:=iY _ _ h;revert this;decide
 ·split at h
  ·cases h
  ·rcases n6 _ _ h with h | h
   ·revert h;decide
   ·revert h;decide
theorem rM (x:Happening):∀ b,b∈an x->b.toNat<128:=by
 intro b h;unfold an at h;rcases xN.1 h with h | h
 ·exact (iY _ _ h).2
 ·split at h
  ·cases h
  ·rcases n6 _ _ h with rfl | h
   ·decide
   ·omega
theorem mT {l:List UInt8} (h:∀ x,x∈l->97<=x.toNat/\x.toNat<128):∀ x,x∈l->charsT.contains x=false:=by
 intro x hx;have hall:∀ y,y∈charsT->y.toNat<97:=by decide
 cases hc:charsT.contains x with
 | false=>rfl
 | true =>
  have h1:=hall x (by simpa using hc);have:=h x hx;omega
theorem mo:∀ l:List UInt8,(∀ x,x∈l->charsT.contains x=false)->Go.Lib.indexAny l charsT = -1
 | [],_=>rfl
 | x::l,h=>by unfold Go.Lib.indexAny;rw [if_neg (by rw [h x xC];decide),if_pos (by rw [mo l fun y hy=>h y (xH _ hy)];rfl)]
theorem nj {c:UInt8} (hc:c∈charsT) (r:List UInt8):∀ l:List UInt8,(∀ x,x∈l->charsT.contains x=false)->Go.Lib.indexAny (l++c::r) charsT=l.length
 | [],_=>by
  show Go.Lib.indexAny (c::r) charsT=_;unfold Go.Lib.indexAny;rw [if_pos (by simpa using hc)];rfl
 | x::l,h=>by
  have ih:=nj hc r l fun y hy=>h y (xH _ hy)
  show Go.Lib.indexAny (x::(l++c::r)) charsT=_;unfold Go.Lib.indexAny;rw [if_neg (by rw [h x xC];decide),ih,if_neg (by simp)];simp
theorem uC (x:Happening):Go.Lib.indexAny (an x) charsT=if x.N=0 then -1 else ((bY x.Kind).length:Int):=by
 unfold an;split
 ·rw [yE,mo _ (mT (iY _))]
 ·obtain ⟨c,r,e,hc⟩:=mA x.N;rw [e,nj hc r _ (mT (iY _))]
theorem l0 {l:List Happening} (h:l≠[]):aO 32 (Go.Lib.join (l.map an) [32])=l.map an :=
 gr 32 _ (by simpa using h) fun w hw=>by obtain ⟨x,_,rfl⟩:=xU.1 hw;exact uz x
theorem sk {n:Int} (h:Int64 n):atoiA (Go.Lib.itoa n)=some n:=by
 have hl:(Go.Lib.itoa n).length<=9223372036854775806:=by
  have hd:∀ u:Nat,u<18446744073709551616->(Go.Lib.decDigits u).length<=u+1:=by
   intro u;induction u using Nat.strongRecOn with
   | ind u ih =>
    intro hu;by_cases h:u<10
    ·rw [ju h];simp
    ·rw [jo h];have:=ih (u / 10) (by omega) (by omega);simp only [xF,xE,xS];omega
  have hs:∀ u:Nat,u<=9223372036854775808->(Go.Lib.decDigits u).length<=922337203685477582:=by
   intro u hu;by_cases h:u<10
   ·rw [ju h];simp
   ·rw [jo h];have:=hd (u / 10) (by omega);simp only [xF,xE,xS];omega
  unfold Go.Lib.itoa;split
  ·have:=hs n.natAbs (by have:=h.1;omega);simp only [xE];omega
  ·have:=hs n.toNat (by have:=h.2;omega);omega
 unfold atoiA;rw [if_pos hl,na h]
end
section
open Go
def e6 (x:Happening):Prop:=1<=x.Kind/\x.Kind<=7
instance (x:Happening):Decidable (e6 x):=by unfold e6;infer_instance
theorem kM {k:Int} (h:1<=k/\k<=7):k=1∨k=2∨k=3∨k=4∨k=5∨k=6∨k=7:=by omega
theorem rl {k:Int} (h:1<=k/\k<=7):(bY k,k)∈cL:=by rcases kM h with rfl | rfl | rfl | rfl | rfl | rfl | rfl<;>decide
theorem ug {k:Int}:(bY k).length<=5:=by
 unfold bY;rw [xK];cases h:verbsL[(k - 1).toNat]? with
 | none=>simp
 | some l =>
  have hall:∀ y,y∈verbsL->y.length<=5:=by decide
  exact hall l (xz h)
theorem o9 {zs:List (List UInt8 × Int)} (h:zs.Perm cL) (k:Int):mget k (bA zs)=if 1<=k/\k<=7 then some (bY k) else none:=by
 have hn:(zs.map (·.2)).Nodup:=(h.map (·.2)).nodup_iff.2 (by decide);split
 ·rename_i hk;exact (mz k zs hn).1 _ (h.mem_iff.2 (rl hk))
 ·rename_i hk;refine (mz k zs hn).2 fun v hv=>hk ?_
  have hall:∀ z,z∈cL->1<=z.2/\z.2<=7:=by decide
  exact hall _ (h.mem_iff.1 hv)
theorem kY:∀ k u:Nat,u<10 ^ (k+1)->(Go.Lib.decDigits u).length<=k+1
 | 0,u,h=>by rw [g8 (by simpa using h)];simp
 | k+1,u,h=>by
  by_cases h1:u<10
  ·rw [g8 h1];simp
  ·rw [kQ h1];have:=kY k (u / 10) (by rw [Nat.pow_succ] at h;omega);simp only [xF,xE,xS];omega
theorem u1 {n:Int} (h:Int64 n):(Go.Lib.itoa n).length<=20:=by
 unfold Go.Lib.itoa;split
 ·have:=kY 18 n.natAbs (by have:=h.1;omega);simp only [xE];omega
 ·have:=kY 18 n.toNat (by have:=h.2;omega);omega
theorem kJ {x:Happening} (h:Int64 x.N):(an x).length<=25:=by
 unfold an;have h1:=ug (k:=x.Kind);have h2:=u1 h;rw [xF];split
 ·simp;omega
 ·omega
theorem mP {n:Int} (h:Int64 n):cB n=some (Go.Lib.itoa n):=by unfold cB itoaS;exact if_pos h
theorem om:∀ xs:List (List UInt8),(∀ x,x∈xs->x.length<=25)->Go.Lib.lens xs<=25*xs.length
 | [],_=>by simp [Go.Lib.lens]
 | x::r,h=>by
  have h1:=h x xC;have h2:=om r fun y hy=>h y (xH _ hy)
  simp only [Go.Lib.lens,xM,List.sum_cons,xE] at h2 ⊢;omega
theorem u3 (xs:List (List UInt8)) (h:∀ x,x∈xs->x.length<=25):(Go.Lib.join xs [32]).length<=26*xs.length:=by
 cases xs with
 | nil=>rw [Go.Lib.join_nil];simp
 | cons x r =>
  have:=om (x::r) h;rw [Go.Lib.join_length];simp only [xE,xS] at this ⊢;omega
section
variable {l:List Happening} (hN:∀ x,x∈l→Int64 x.N) (hl:l.length≤60) {zs:List (List UInt8 × Int)} (hz:zs.Perm cL)
include hN hl hz
def fK (l:List Happening):List UInt8 × Int:=if ∀ x,x∈l->e6 x then (Go.Lib.join (l.map an) [32],0) else ([],5)
theorem l6:∀ m k:Nat,k+m=l.length->(∀ x,x∈l.take k->e6 x)->iter (fun bp:Int × (List (List UInt8))=>cS l zs bp.1 bp.2) ((k:Int),(l.take k).map an)=some (fK l)
 | 0,k,h,hk=>by
  have ht:l.take k=l:=xR (by omega);rw [ht] at hk ⊢;rw [am];have e:cS l zs (k:Int) (l.map an)=some (.inr (fK l)):=by
   unfold cS;have hj:strings_Join (l.map an) [32]=some (Go.Lib.join (l.map an) [32]):=by
    unfold strings_Join joinB;have:=u3 (l.map an) fun w hw=>by obtain ⟨x,hx,rfl⟩:=xU.1 hw;exact kJ (hN x hx)
    rw [xP] at this;exact if_pos ⟨by simp;omega,by omega⟩
   rw [if_neg (by simp;omega),hj,xw];unfold fK;rw [if_pos hk];rfl
  simp only [e]
 | m + 1,k,h,hk=>by
  have hlt:k<l.length:=by omega
  have hx:l[k]?=some l[k]:=xx hlt;have hm:l[k]∈l:=xV hlt;generalize l[k]=x at hx hm;rw [am];by_cases hok:e6 x
  ·have e:cS l zs (k:Int) ((l.take k).map an)=some (.inl (((k+1:Nat):Int),(l.take (k+1)).map an)):=by
    unfold cS;rw [if_pos (by simp;omega),bc hx,xw,(o9 hz x.Kind).trans (if_pos hok),if_neg (by simp)];have hw:=kJ (hN x hm);rw [takeS hx,yv];by_cases h0:x.N=0
    ·rw [if_neg (by simp [h0]),yw,eZ (by simp;omega),xw,bv (by omega)];simp [an,h0]
    ·rw [if_pos (by simp [h0]),mP (hN x hm),xw,yw,pH (by unfold an at hw;rw [if_neg h0,xF] at hw;omega),xw,eZ (by simp;omega),xw,bv (by omega)];simp [an,h0]
   simp only [e];exact l6 m (k+1) (by omega) fun y hy=>by
    rw [takeS hx] at hy;rcases xN.1 hy with hy | hy
    ·exact hk y hy
    ·simp at hy;exact hy▸hok
  ·have e:cS l zs (k:Int) ((l.take k).map an)=some (.inr ([],5)):=by
    unfold cS;rw [if_pos (by simp;omega),bc hx,xw,(o9 hz x.Kind).trans (if_neg hok),if_pos (by simp)];rfl
   simp only [e];unfold fK;rw [if_neg fun hh=>hok (hh x hm)]
end
theorem r6 {l:List Happening} (hN:∀ x,x∈l->Int64 x.N) (hl:l.length<=1099511627776):gk l=some (if l.length > 60 then ([],2) else fK l):=by
 unfold gk;by_cases h:l.length > 60
 ·rw [if_pos (by simp;omega),if_pos h]
 ·rw [if_neg (by simp;omega),if_neg h];exact rS fun zs hz=>by have:=l6 hN (by omega) hz l.length 0 (by omega) (by simp);simpa using this
end
section
open Go
def dc (n:Net):List UInt8:=Go.Lib.join [[114,105,110,103,115],dig n.Rings,dig n.Room] [32]
def db (x:Node):List UInt8:=Go.Lib.join [bW x.Kind,dig x.A,aH x.In,aH x.Out] [32]
theorem pM (n:Net):cz n=dc n++[10]:=by unfold cz dc;rw [join3];simp
theorem pz (x:Node):bS x=db x++[10]:=by unfold bS db;rw [join4]
theorem vF (n:Net):dg n=((dc n::n.Nodes.map db).map (·++[10])).flatten:=by unfold dg;rw [xM,xX,pM,yA];congr 3;funext x;exact pz x
theorem nX (k:Int):∀ x,x∈bW k->97<=x.toNat:=by
 unfold bW;rw [xK];cases h:kindsL[(k - 1).toNat]? with
 | none=>intro x hx;simp at hx
 | some l =>
  have hall:∀ y,y∈kindsL->∀ x,x∈y->97<=x.toNat:=by decide
  exact hall l (xz h)
theorem pb {n:Net}:∀ w,w∈[[114,105,110,103,115],dig n.Rings,dig n.Room]->(32:UInt8) ∉ w/\(10:UInt8) ∉ w:=by
 intro w hw;simp only [yc,yZ,or_false] at hw;rcases hw with rfl | rfl | rfl
 ·decide
 ·exact ⟨eP (dB _) (by decide),eP (dB _) (by decide)⟩
 ·exact ⟨eP (dB _) (by decide),eP (dB _) (by decide)⟩
theorem oT {x:Node}:∀ w,w∈[bW x.Kind,dig x.A,aH x.In,aH x.Out]->(32:UInt8) ∉ w/\(10:UInt8) ∉ w:=by
 have hn:∀ l,(32:UInt8) ∉ aH l/\(10:UInt8) ∉ aH l:=fun l=>⟨fun h=>by have:=ni _ h;revert this;decide,fun h=>by have:=ni _ h;revert this;decide⟩
 intro w hw;simp only [yc,yZ,or_false] at hw;rcases hw with rfl | rfl | rfl | rfl
 ·exact ⟨fun h=>by have:=nX _ _ h;revert this;decide,fun h=>by have:=nX _ _ h;revert this;decide⟩
 ·exact ⟨eP (dB _) (by decide),eP (dB _) (by decide)⟩
 ·exact hn _
 ·exact hn _
theorem kx {b c:UInt8} (hc:c≠b):∀ ws:List (List UInt8),(∀ w,w∈ws->c ∉ w)->c ∉ Go.Lib.join ws [b]
 | [],_=>by rw [Go.Lib.join_nil];simp
 | [w],h=>by rw [Go.Lib.join_one];exact h w xC
 | w::v::ws,h=>by
  have ih:=kx hc (v::ws) fun x hx=>h x (xH _ hx)
  have e:Go.Lib.join (w::v::ws) [b]=w++b::Go.Lib.join (v::ws) [b]:=by rw [Go.Lib.join_cons,Go.Lib.join_cons];simp [Go.Lib.joinTail]
  rw [e];intro hm;rcases xN.1 hm with hm | hm
  ·exact h w xC hm
  ·rcases yc.1 hm with hm | hm
   ·exact hc hm
   ·exact ih hm
theorem tB (n:Net):∀ l,l∈dc n::n.Nodes.map db->(10:UInt8) ∉ l:=by
 intro l hl;rcases yc.1 hl with rfl | hl
 ·exact kx (by decide) _ fun w hw=>(pb w hw).2
 ·obtain ⟨x,_,rfl⟩:=xU.1 hl;exact kx (by decide) _ fun w hw=>(oT w hw).2
theorem iO {s:List UInt8} {b:UInt8} (h:s.length<4294967281):dD s [b]=some (aO b s):=by unfold dD hE;show fP s b=_;rw [sE,if_pos h]
theorem kT {α:Type} (a:α) (l:List α):idx (a::l) 0=some a:=bc (k:=0) rfl
theorem pD {α:Type} (a b:α) (l:List α):idx (a::b::l) 1=some b:=bc (k:=1) rfl
theorem pJ {α:Type} (a b c:α) (l:List α):idx (a::b::c::l) 2=some c:=bc (k:=2) rfl
theorem vK {α:Type} (a b c d:α) (l:List α):idx (a::b::c::d::l) 3=some d:=bc (k:=3) rfl
section
variable {n:Net} (t:TN n)
include t
theorem sT (a b:Int) (l:List Node):cC 0 (dc n) a b l=some (true,n.Rings,n.Room,l):=by
 have hl:(dc n).length<4294967281:=by have:=jd t;rw [pM,xF] at this;omega
 unfold cC;rw [iO hl];unfold dc;rw [gr 32 _ (by simp) fun w hw=>(pb w hw).1,xw,if_pos (by decide),if_neg (by simp),kT,xw,xw,if_neg (by decide),
  pD,xw,(iJ t.r).2,xw,pJ,xw,(iJ t.m).2,xw]
end
theorem tI:∀ i,i<9->∀ j,j<9->i≠j->([]::kindsL)[i]?≠([]::kindsL)[j]?:=by decide
theorem m6 {x:Node} (tx:TNode x) {a b:Int} {l:List Node} (hl:l.length<=100) {j:Nat} (hj:x.Kind=(j:Int)) (h1:1<=j) (h9:j<9) (hn:([]::kindsL)[j]?=some (bW x.Kind)) :
  ∀ m k:Nat,k+m=j->iter (fun dh:Int=>dk a [bW x.Kind,dig x.A,aH x.In,aH x.Out] b l ([]::kindsL) dh) (k:Int)=some (true,a,b,l++[x])
 | 0,k,hk=>by
  obtain rfl:k=j:=by omega
  have e:dk a [bW x.Kind,dig x.A,aH x.In,aH x.Out] b l ([]::kindsL) (k:Int)=some (.inr (true,a,b,l++[x])):=by
   unfold dk;rw [if_pos (by simp [kindsL];omega),jk (show k<([]::kindsL).length from h9),xw,hn,xw,if_pos (by simp;omega),kT,xw,xw,if_pos (by simp),
    pD,xw,(iJ tx.a).2,xw,pJ,xw,mh tx.i.1 tx.i.2,xw,vK,xw,mh tx.o.1 tx.o.2,xw,
    eZ (by simp;omega),xw,<- hj]
   rfl
  rw [am];simp only [e]
 | m+1,k,hk=>by
  have hk9:k<([]::kindsL).length:=by simp [kindsL];omega
  have hx:([]::kindsL)[k]?=some ([]::kindsL)[k]:=xx hk9;have hne:([]::kindsL)[k]≠bW x.Kind:=fun e=>by have:=tI k (by omega) j h9 (by omega);rw [hx,hn,e] at this;exact this rfl
  have e:dk a [bW x.Kind,dig x.A,aH x.In,aH x.Out] b l ([]::kindsL) (k:Int)=some (.inl ((k+1:Nat):Int)):=by
   unfold dk;rw [if_pos (by simp [kindsL];omega),jk (show k<([]::kindsL).length from hk9),xw,hx,xw];by_cases h0:0<k
   ·rw [if_pos (by simp;omega),kT,xw,xw,if_neg (by simpa using hne),bv (by omega)]
   ·rw [if_neg (by simp;omega),xw,if_neg (by decide),bv (by omega)]
  rw [am];simp only [e];exact m6 tx hl hj h1 h9 hn m (k+1) (by omega)
theorem sM {x:Node} (tx:TNode x) {a b:Int} {l:List Node} (hl:l.length<=100) {k:Nat} (hk:1<=k):cC (k:Int) (db x) a b l=some (true,a,b,l++[x]):=by
 have hlen:(db x).length<4294967281:=by have:=kG tx;rw [pz,xF] at this;omega
 obtain ⟨j,hj,hj9,hjn,_⟩:=nH tx.k;unfold cC;rw [iO hlen];unfold db;rw [gr 32 _ (by simp) fun w hw=>(oT w hw).1,xw,if_neg (by simp;omega),if_neg (by simp),show dq=some ([]::kindsL) from rfl,xw];exact m6 tx hl hj (by have:=tx.k.1;omega) hj9 hjn j 0 (by omega)
end
section
open Go
theorem oE {l:List Int} (hl:l.length<=16) (h:∀ x,x∈l->0<=x/\x<100):(aH l).length<=48:=by
 have:=oB (l.map dig) fun x hx=>by obtain ⟨y,hy,rfl⟩:=xU.1 hx;exact (dA (h y hy).2).1
 rw [xP] at this;unfold aH;split
 ·simp
 ·omega
def TN16 (n:Net):Prop:=∀ x,x∈n.Nodes->x.In.length<=16/\x.Out.length<=16
theorem uZ {x:Node} (t:TNode x) (h:x.In.length<=16/\x.Out.length<=16):(bS x).length<=110:=by have h1:=oH x.Kind;have h2:=(dA t.a.2).1;have h3:=oE h.1 t.i.2;have h4:=oE h.2 t.o.2;unfold bS;simp only [xF,xE,xS];omega
theorem nr:∀ l:List Node,(∀ x,x∈l->TNode x)->(∀ x,x∈l->x.In.length<=16/\x.Out.length<=16)->((l.map bS).flatten).length<=110*l.length
 | [],_,_=>by simp
 | x::l,h,h'=>by
  have h1:=uZ (h x xC) (h' x xC);have h2:=nr l (fun y hy=>h y (xH _ hy)) fun y hy=>h' y (xH _ hy)
  rw [xM,xX,xF,xE];omega
section
variable {n:Net} (t:TN n) (t16:TN16 n)
include t
theorem u9 (t16:TN16 n):(dg n).length<=4000:=by have h1:=jd t;have h2:=nr n.Nodes t.x t16;have:=t.l;unfold dg;rw [xF];omega
theorem ma {ls:List (List UInt8)} (hls:ls=(dc n::n.Nodes.map db)++[[]]) (hc:cr n=some 0):∀ m k:Nat,k+m=n.Nodes.length ->
  iter (fun bD:Int × Int × Int × (List Node)=>ba ls bD.1 bD.2.1 bD.2.2.1 bD.2.2.2) (((k+1:Nat):Int),n.Rings,n.Room,n.Nodes.take k)=some (n,0,0)
 | 0,k,hk=>by
  have hlen:ls.length=n.Nodes.length+2:=by rw [hls];simp
  have hN:=t.l;have hw:IntKind.i64.wrap ((ls.length:Int) - 1)=((n.Nodes.length+1:Nat):Int):=by rw [eS (by omega) (by omega)];omega
  have hx:ls[k+1]?=some []:=by rw [hls,yn (by simp;omega)];simp only [xE,xP];rw [show k+1 - (n.Nodes.length+1)=0 by omega];rfl
  have e:ba ls ((k+1:Nat):Int) n.Rings n.Room (n.Nodes.take k)=some (.inl (((k+2:Nat):Int),n.Rings,n.Room,n.Nodes)):=by unfold ba;rw [if_pos (by rw [hlen];simp;omega),bc hx,xw,hw,if_pos (by simp;omega),if_neg (by simp),if_neg (by simp;omega),if_neg (by simp;omega),xw];simp only;rw [if_neg (by simp),bv (by omega),xR (by omega)]
  have e2:ba ls ((k+2:Nat):Int) n.Rings n.Room n.Nodes=some (.inr (n,0,0)):=by unfold ba;rw [if_neg (by rw [hlen];simp;omega),show (⟨n.Nodes,n.Rings,n.Room⟩:Net)=n from rfl,hc,xw,if_neg (by decide)];rfl
  rw [am];simp only [e];rw [am];simp only [e2]
 | m+1,k,hk=>by
  have hlen:ls.length=n.Nodes.length+2:=by rw [hls];simp
  have hN:=t.l;have hw:IntKind.i64.wrap ((ls.length:Int) - 1)=((n.Nodes.length+1:Nat):Int):=by rw [eS (by omega) (by omega)];omega
  have hlt:k<n.Nodes.length:=by omega
  have hx:n.Nodes[k]?=some n.Nodes[k]:=xx hlt;have tx:=t.x n.Nodes[k] (xV hlt);have hl:ls[k+1]?=some (db n.Nodes[k]):=by rw [hls,xJ (by simp;omega),List.getElem?_cons_succ,xL,hx];rfl
  have htk:=takeS hx;generalize n.Nodes[k]=x at hx tx hl htk;have e:ba ls ((k+1:Nat):Int) n.Rings n.Room (n.Nodes.take k)=some (.inl (((k+1+1:Nat):Int),n.Rings,n.Room,n.Nodes.take (k+1))):=by unfold ba;rw [if_pos (by rw [hlen];simp;omega),bc hl,xw,hw,if_neg (by simp;omega),if_pos (by simp;omega),sM tx (by rw [yH];omega) (by omega),xw,xw];simp only;rw [if_neg (by simp),bv (by omega),htk]
  rw [am];simp only [e];exact ma hls hc m (k+1) (by omega)
theorem rH (t16:TN16 n) (hc:cr n=some 0):d6 (dg n)=some (n,0,0):=by
 have h16:=u9 t t16;have hN:=t.l;unfold d6;rw [if_neg (by simp;omega),iO (by omega),xw,vF,mJ 10 _ (tB n)];obtain ⟨ls,hls⟩:∃ ls,ls=(dc n::n.Nodes.map db)++[[]]:=⟨_,rfl⟩
 rw [<- hls];have hlen:ls.length=n.Nodes.length+2:=by rw [hls];simp
 have hw:IntKind.i64.wrap ((ls.length:Int) - 1)=((n.Nodes.length+1:Nat):Int):=by rw [eS (by omega) (by omega)];omega
 have hx:ls[0]?=some (dc n):=by rw [hls];rfl
 have e:ba ls ((0:Nat):Int) 0 0 []=some (.inl (((0+1:Nat):Int),n.Rings,n.Room,n.Nodes.take 0)):=by unfold ba;rw [if_pos (by rw [hlen];simp;omega),bc hx,xw,hw,if_neg (by simp;omega),if_pos (by simp;omega),show (((0:Nat):Int))=0 from rfl,sT t,xw,xw];simp only;rw [if_neg (by simp)];rfl
 rw [am];have e':ba ls 0 0 0 []=some (.inl (((0+1:Nat):Int),n.Rings,n.Room,n.Nodes.take 0)):=e;simp only [e'];exact ma t hls hc n.Nodes.length 0 (by omega)
end
end
section
open Go
theorem lO (a b:List Int) (ha:a.length<=1099511627776):dm a b=some (decide (a=b)):=by
 unfold dm;by_cases hl:a.length=b.length
 ·rw [if_neg (by simp;omega)];refine jY a b ha hl (fun k x y h0 hx hy hw=>?_) (fun h0=>?_)
  ·unfold eG;rw [if_pos h0,hx,xw,hy,xw,hw];by_cases e:x=y
   ·rw [if_neg (by simpa using e),if_pos e]
   ·rw [if_pos (by simpa using e),if_neg e];rfl
  ·unfold eG;rw [if_neg (by rw [h0];decide)];rfl
 ·rw [if_pos (by simp;omega),decide_eq_false (fun e=>hl (by rw [e]))]
theorem rf (x:Node) (h:x.In.length<=1099511627776) (h':x.Out.length<=1099511627776):eH x x=some true:=by unfold eH;rw [if_pos (by simp),if_pos (by simp),lO _ _ h,xw,if_pos (by simp),lO _ _ h',xw,xw];simp
theorem qS (l:List Node) (hl:l.length<=1099511627776) (h:∀ x,x∈l->x.In.length<=1099511627776/\x.Out.length<=1099511627776):fe l l=some true:=by
 unfold fe;rw [if_neg (by simp)];have key:∀ m k:Nat,k+m=l.length->iter (fun bg:Int=>cc l l bg) (k:Int)=some true:=by
  intro m;induction m with
  | zero =>
   intro k hk;have e:cc l l (k:Int)=some (.inr true):=by unfold cc;rw [if_neg (by simp;omega)];rfl
   rw [am];simp only [e]
  | succ m ih =>
   intro k hk;have hx:l[k]?=some l[k]:=xx (by omega);have hb:=h l[k] (xV (by omega));have e:cc l l (k:Int)=some (.inl ((k+1:Nat):Int)):=by unfold cc;rw [if_pos (by simp;omega),bc hx,xw,xw,rf _ hb.1 hb.2,xw,if_neg (by decide),bv (by omega)]
   rw [am];simp only [e];exact ih (k+1) (by omega)
 exact key l.length 0 (by omega)
theorem rB {n:Net} (t:TN n):dl n n=some true:=by
 have hN:=t.l;unfold dl;rw [if_pos (by simp),if_pos (by simp),qS _ (by omega) fun x hx=>by have tx:=t.x x hx;exact ⟨by have:=tx.i.1;omega,by have:=tx.o.1;omega⟩,xw,xw]
end
noncomputable section
open Go
def iterF {α β:Type} (body:α->Option (α ⊕ β)):Nat->α->Option β
 | 0,_=>none
 | k+1,s=>match body s with
  | none=>none
  | some (.inr r)=>some r
  | some (.inl s')=>iterF body k s'
theorem oM {α β:Type} {bF body:α->Option (α ⊕ β)} (hb:∀ s x,bF s=some x->body s=some x):∀ (k:Nat) (s:α) (r:β),iterF bF k s=some r->iter body s=some r
 | 0,s,r,h=>by cases h
 | k+1,s,r,h=>by
  unfold iterF at h;rw [am];cases e:bF s with
  | none=>rw [e] at h;cases h
  | some x =>
   rw [e] at h;simp only [hb s x e];cases x with
   | inr y=>cases h;rfl
   | inl s'=>exact oM hb k s' r h
def lineF (p0:Int) (p1:List UInt8) (p2 p3:Int) (p4:List Node):Option (Bool × Int × Int × (List Node)) :=
 (Option.bind (dD p1 ([32]:List UInt8)) fun x2=>(if (p0==0)=true then (Option.bind (if (((x2).length:Int) != 3)=true then (some true) else (Option.bind (idx x2 0) fun x3=>(some (!(x3==[114,105,110,103,115]))))) fun c4=>(if c4=true then (some (false,p2,p3,p4)) else (Option.bind (idx x2 1) fun x9=>(Option.bind (dr x9) fun x10=>(Option.bind (idx x2 2) fun x11=>(Option.bind (dr x11) fun x12=>(some (true,x10,x12,p4)))))))) else (if (((x2).length:Int) != 4)=true then (some (false,p2,p3,p4)) else (Option.bind dq fun x14=>(iterF (fun dh:Int=>dk p2 x2 p3 p4 x14 dh) 20 0)))))
theorem gW {p0:Int} {p1:List UInt8} {p2 p3:Int} {p4:List Node} {r:Bool × Int × Int × (List Node)} (h:lineF p0 p1 p2 p3 p4=some r):cC p0 p1 p2 p3 p4=some r:=by
 unfold lineF at h;unfold cC;cases hs:dD p1 [32] with
 | none=>rw [hs] at h;cases h
 | some x2 =>
  rw [hs,xw] at h;rw [xw];split at h
  ·rename_i h0;rw [if_pos h0];exact h
  ·rename_i h0;rw [if_neg h0];split at h
   ·rename_i h1;rw [if_pos h1];exact h
   ·rename_i h1;rw [if_neg h1,show dq=some ([]::kindsL) from rfl,xw];rw [show dq=some ([]::kindsL) from rfl,xw] at h;exact oM (fun _ _ h=>h) 20 0 r h
theorem gV {x2:List (List UInt8)} {k:Nat} {t:List UInt8} {a b:Int} {nd:List Node} {r:Int × Int × List Node} (h:x2[k]?=some t) (hk:k+1<x2.length) (hl:x2.length<=1000) (hr:cC (k:Int) t a b nd=some (true,r)) :
  ba x2 (k:Int) a b nd=some (.inl (((k+1:Nat):Int),r.1,r.2.1,r.2.2)):=by
 unfold ba
 have hw:IntKind.i64.wrap ((x2.length:Int) - 1)=(x2.length:Int) - 1:=eS (by omega) (by omega)
 have hne:((k:Int)==(x2.length:Int) - 1)=false:=by rw [beq_eq_false_iff_ne];omega
 rw [if_pos (by simp;omega),bc h,xw,hw,hne,if_neg (by decide),if_pos (by decide),hr,xw,xw]
 simp only [Bool.not_true]
 rw [if_neg (by decide),bv (by omega)]
def meetL:List (List UInt8):=[[114,105,110,103,115,32,51,32,49],[115,111,117,114,99,101,32,48,32,45,32,48],[115,111,117,114,99,101,32,49,32,45,32,49],[109,101,114,103,101,32,48,32,48,44,49,32,50],[115,105,110,107,32,48,32,50,32,45],[]]
def meetT:Net:=⟨[⟨1,0,[],[0]⟩,⟨1,1,[],[1]⟩,⟨6,0,[0,1],[2]⟩,⟨8,0,[2],[]⟩],3,1⟩
theorem uH:TN meetT:=⟨by decide,by decide,by decide,fun x hx=>by simp only [meetT,yc,yZ,or_false] at hx;rcases hx with rfl | rfl | rfl | rfl<;>exact ⟨by decide,by decide,⟨by decide,by decide⟩,⟨by decide,by decide⟩⟩⟩
theorem rC (hc:cr meetT=some 0):d6 (dg meetT)=some (meetT,0,0):=by
 have hs:dD (dg meetT) [10]=some meetL:=by decide +kernel
 have s0:ba meetL ((0:Nat):Int) 0 0 []=some (.inl (((0+1:Nat):Int),3,1,[])):=gV (r:=(3,1,[])) rfl (by decide) (by decide) (gW (by decide +kernel));have s1:ba meetL ((0+1:Nat):Int) 3 1 []=some (.inl (((0+1+1:Nat):Int),3,1,meetT.Nodes.take 1)):=gV (r:=(3,1,meetT.Nodes.take 1)) rfl (by decide) (by decide) (gW (by decide +kernel));have s2:ba meetL ((0+1+1:Nat):Int) 3 1 (meetT.Nodes.take 1)=some (.inl (((0+1+1+1:Nat):Int),3,1,meetT.Nodes.take 2)):=gV (r:=(3,1,meetT.Nodes.take 2)) rfl (by decide) (by decide) (gW (by decide +kernel));have s3:ba meetL ((0+1+1+1:Nat):Int) 3 1 (meetT.Nodes.take 2)=some (.inl (((0+1+1+1+1:Nat):Int),3,1,meetT.Nodes.take 3)):=gV (r:=(3,1,meetT.Nodes.take 3)) rfl (by decide) (by decide) (gW (by decide +kernel));have s4:ba meetL ((0+1+1+1+1:Nat):Int) 3 1 (meetT.Nodes.take 3)=some (.inl (((0+1+1+1+1+1:Nat):Int),3,1,meetT.Nodes)):=gV (r:=(3,1,meetT.Nodes)) rfl (by decide) (by decide) (gW (by decide +kernel));have s5:ba meetL ((0+1+1+1+1+1:Nat):Int) 3 1 meetT.Nodes=some (.inl (6,3,1,meetT.Nodes)):=rfl;have s6:ba meetL 6 3 1 meetT.Nodes=some (.inr (meetT,0,0)):=by unfold ba;rw [if_neg (by decide),show cr (⟨meetT.Nodes,3,1⟩:Net)=some 0 from hc,xw,if_neg (by decide)];rfl
 unfold d6;rw [if_neg (by decide +kernel),hs,xw];rw [am];simp only [yU] at s0;simp only [s0];rw [am];simp only [s1];rw [am];simp only [s2];rw [am];simp only [s3];rw [am];simp only [s4];rw [am];simp only [s5];rw [am];simp only [s6]
theorem uY (hc:cr meetT=some 0) (hs:dl meetT meetT=some true):fk=some true:=by unfold fk;rw [show gc=some meetT from rfl,xw,nq uH hc,xw,rC hc,xw,if_pos (by decide),if_pos (by decide),if_pos (by decide),if_pos (by decide +kernel),xw,hs];rfl
end
def ew:Ends:=⟨-1, -1⟩
theorem nk (R:Nat) (hR:R<=16):∀ (n k:Nat) (xs:List Ends),R - k<=n->1<=k->k<=R->xs.length=R->xs.take k=List.replicate k ew ->
  iter (fun ss:Int × List Ends=>dP ss.1 ss.2) ((k:Int),xs)=some (List.replicate R ew)
 | n,k,xs,hn,h1,h2,hl,ht=>by
  rw [am];by_cases hk:k=R
  ·simp_all [dP,xR]
  ·have hkR:k<R:=by omega
   have v1:vwok xs.length (k:Int) (xs.length:Int)=some ():=by simp_all [vwok]
   have v2:vwok xs.length 0 (k:Int)=some ():=by simp_all [vwok]
   have v3:vwok xs.length ((((k:Int)).toNat:Nat):Int) ((((k:Int).toNat:Nat):Int)+((((xs.length:Int)).toNat - (k:Int).toNat:Nat):Int))=some ():=by grind
   have v4:vwok xs.length ((((0:Int)).toNat:Nat):Int) ((((0:Int).toNat:Nat):Int)+(((k:Int).toNat - (0:Int).toNat:Nat):Int))=some ():=by grind
   have hstep:dP (k:Int) xs=some (.inl (((k+min (R - k) k:Nat):Int),xs.take k++(xs.take k).take (R - k)++xs.drop (k+min (R - k) k))):=by
    unfold dP;rw [if_pos (by simp;omega),v1,xw,v2,xw,v3,xw,v4,xw];have e1:IntKind.i64.wrap ((k:Int)+((min (((xs.length:Int)).toNat - (k:Int).toNat) ((k:Int).toNat - (0:Int).toNat):Nat):Int))=((k+min (R - k) k:Nat):Int):=by grind [eS]
    simp_all [cpy]
   rw [hstep];simp only;have hm:1<=min (R - k) k:=by omega
   match n,hn with
   | 0,hn=>omega
   | n+1,hn =>
    refine nk R hR n (k+min (R - k) k) _ (by omega) (by omega) (by omega) (by simp;omega) ?_
    simp_all
theorem uE (R:Nat) (hR:R<=16):iq (IntKind.u64.wrap (([(⟨(-1),(-1)⟩:Ends)]:List Ends).length:Int)) (IntKind.u64.wrap (R:Int))=some (0,(R:Int)):=by
 have:R=0∨R=1∨R=2∨R=3∨R=4∨R=5∨R=6∨R=7∨R=8∨R=9∨R=10∨R=11∨R=12∨R=13∨R=14∨R=15∨R=16:=by omega
 rcases this with rfl | rfl | rfl | rfl | rfl | rfl | rfl | rfl | rfl | rfl | rfl | rfl | rfl | rfl | rfl | rfl | rfl<;>rfl
theorem sj (R:Nat) (hR:R<=16):f9 ([(⟨(-1),(-1)⟩:Ends)]:List Ends) (R:Int)=some (List.replicate R ew):=by
 unfold f9;rw [if_neg (by simp),uE R hR,xw,if_neg (by simp;omega),eS (show -9223372036854775808<=(R:Int) by omega) (show (R:Int)<=9223372036854775807 by omega)];have hmk:mk (R:Int) (⟨0,0⟩:Ends)=some (List.replicate R ⟨0,0⟩):=by unfold mk;grind
 rw [hmk,xw];simp only [List.length_replicate,List.length_singleton];by_cases h0:R=0
 ·grind [am,dP,cpy]
 ·have e:min R 1=1:=by omega
  rw [e];have hc:cpy (List.replicate R (⟨0,0⟩:Ends)) 0 R [(⟨(-1),(-1)⟩:Ends)]=ew::(List.replicate R (⟨0,0⟩:Ends)).drop 1:=by grind [cpy,List.take_of_length_le,ew]
  rw [hc];exact nk R hR R 1 _ (by omega) (by omega) (by omega) (by simp;omega) (by simp)
def g7 (k:Int):Option (Int × Int):=if k=1 then some (0,1) else if k=2∨k=3∨k=4 then some (1,1) else if k=5∨k=7 then some (1, -1) else if k=6 then some (-1,1) else if k=8 then some (1,0) else none
def bZ (n:Nat) (want:Int):Bool:=decide ((n:Int)=want∨want<0/\0<n)
def badA (x:Node):Bool:=decide (x.A<0∨x.Kind=1/\4<=x.A∨x.Kind=2/\3<x.A∨x.Kind≠1/\x.Kind≠2/\x.A≠0)
def dz (x:Node):Int:=match g7 x.Kind with
 | none=>5
 | some (i,o)=>if (bZ x.In.length i && bZ x.Out.length o)=false then 4 else if badA x then 3 else 0
def cx (R i:Int):List Int->List Ends->Int ⊕ List Ends
 | [],l=>.inr l
 | r::rs,l=>if r<0∨R<=r then .inl 3 else match l[r.toNat]? with
  | none=>.inl 99
  | some e=>if 0<=e.dst then .inl 6 else cx R i rs (l.set r.toNat ⟨e.src,i⟩)
def b6 (R i:Int):List Int->List Ends->Int ⊕ List Ends
 | [],l=>.inr l
 | r::rs,l=>if r<0∨R<=r then .inl 3 else match l[r.toNat]? with
  | none=>.inl 99
  | some e=>if 0<=e.src then .inl 6 else b6 R i rs (l.set r.toNat ⟨i,e.dst⟩)
def oneN (R:Int) (i:Nat) (x:Node) (l:List Ends):Int ⊕ List Ends :=
 if dz x≠0 then .inl (dz x) else match cx R i x.In l with
  | .inl e=>.inl e
  | .inr l1=>b6 R i x.Out l1
def dE (R:Int):Nat->List Node->Nat->List Ends->Int ⊕ (Nat × List Ends)
 | _,[],s,l=>.inr (s,l)
 | i,x::xs,s,l=>match oneN R i x l with
  | .inl e=>.inl e
  | .inr l1=>dE R (i+1) xs (if x.Kind=8 then s+1 else s) l1
def lookN (n:Net):Int ⊕ List Ends :=
 if n.Nodes.length<1∨12<n.Nodes.length∨n.Rings<0∨16<n.Rings then .inl 2
 else if n.Room<1∨6<n.Room then .inl 3
 else match dE n.Rings 0 n.Nodes 0 (List.replicate n.Rings.toNat ew) with
  | .inl e=>.inl e
  | .inr (s,l)=>if l.any (fun e=>decide (e.src<0∨e.dst<0)) then .inl 9 else if s≠1 then .inl 4 else .inr l
theorem kb (R i:Int):∀ (rs:List Int) (l l1:List Ends),cx R i rs l=.inr l1->l1.length=l.length
 | [],l,l1,h=>by cases h;rfl
 | r::rs,l,l1,h=>by
  unfold cx at h;split at h
  ·cases h
  ·split at h
   ·cases h
   ·split at h
    ·cases h
    ·have:=kb R i rs _ l1 h;grind
theorem iM (R i:Int):∀ (rs:List Int) (l l1:List Ends),b6 R i rs l=.inr l1->l1.length=l.length
 | [],l,l1,h=>by cases h;rfl
 | r::rs,l,l1,h=>by
  unfold b6 at h;split at h
  ·cases h
  ·split at h
   ·cases h
   ·split at h
    ·cases h
    ·have:=iM R i rs _ l1 h;grind
theorem tQ {R:Int} {i:Nat} {x:Node} {l l1:List Ends} (h:oneN R i x l=.inr l1):l1.length=l.length:=by
 unfold oneN at h;split at h
 ·cases h
 ·split at h
  ·cases h
  ·rename_i l2 h2;exact (iM R i _ _ _ h).trans (kb R i _ _ _ h2)
theorem tw (k:Int):gz k=some (match g7 k with | some (i,o)=>(i,o,true) | none=>(0,0,false)):=by grind [gz,eK,fq,g7]
theorem uL (n:Nat) (w:Int):fH (n:Int) w=some (bZ n w):=by unfold fH bZ;congr 1;grind
theorem vm (n:Net) (s:Int) (i:Nat) (x:Node) (hR:n.Rings<=16) (k:Nat) (l:List Ends) (hlt:k<x.Out.length) (hx:x.Out.length<=1099511627776) (hl:(l.length:Int)=n.Rings) :
  dZ n i x s k l=if x.Out[k]<0∨n.Rings<=x.Out[k] then some (.inr (.inr ([],3))) else match l[x.Out[k].toNat]? with
   | none=>none
   | some e=>if 0<=e.src then some (.inr (.inr ([],6))) else some (.inl (((k+1:Nat):Int),l.set x.Out[k].toNat ⟨i,e.dst⟩)):=by
 unfold dZ
 rw [if_pos (by simp;omega),bc (xx hlt),xw]
 by_cases hr:x.Out[k]<0∨n.Rings<=x.Out[k]
 ·grind
 ·rw [if_neg (by simp;omega),if_neg hr]
  have hrl:x.Out[k].toNat<l.length:=by omega
  have hix:ixN l x.Out[k]=some x.Out[k].toNat:=by simp_all [ixN]
  have hg:=xx hrl
  simp only [hix,hg,xw,bv (show k<4611686018427387904 by omega)]
  simp
theorem uK (n:Net) (s:Int) (i:Nat) (x:Node) (hR:n.Rings<=16) (k:Nat) (l:List Ends) (hlt:k<x.In.length) (hx:x.In.length<=1099511627776) (hl:(l.length:Int)=n.Rings) :
  d5 n i x s k l=if x.In[k]<0∨n.Rings<=x.In[k] then some (.inr (.inr ([],3))) else match l[x.In[k].toNat]? with
   | none=>none
   | some e=>if 0<=e.dst then some (.inr (.inr ([],6))) else some (.inl (((k+1:Nat):Int),l.set x.In[k].toNat ⟨e.src,i⟩)):=by
 unfold d5
 rw [if_pos (by simp;omega),bc (xx hlt),xw]
 by_cases hr:x.In[k]<0∨n.Rings<=x.In[k]
 ·grind
 ·rw [if_neg (by simp;omega),if_neg hr]
  have hrl:x.In[k].toNat<l.length:=by omega
  have hix:ixN l x.In[k]=some x.In[k].toNat:=by simp_all [ixN]
  have hg:=xx hrl
  simp only [hix,hg,xw,bv (show k<4611686018427387904 by omega)]
  simp
theorem o4 (n:Net) (s:Int) (i:Nat) (x:Node) (hx:x.Out.length<=1099511627776) (hi:i<=12) (hR:n.Rings<=16) :
  ∀ (m k:Nat) (l:List Ends),k+m=x.Out.length->(l.length:Int)=n.Rings ->
  iter (fun ss:Int × List Ends=>dZ n i x s ss.1 ss.2) ((k:Int),l)=match b6 n.Rings i (x.Out.drop k) l with
   | .inl e=>some (.inr ([],e))
   | .inr l1=>some (.inl (s,((i+1:Nat):Int),l1))
 | 0,k,l,h,hl=>by
  have hk:k=x.Out.length:=by omega
  subst hk;have:dZ n i x s (x.Out.length:Int) l=some (.inr (.inl (s,((i+1:Nat):Int),l))):=by unfold dZ;rw [if_neg (by simp),bv (by omega)];rfl
  grind [am,b6]
 | m+1,k,l,h,hl=>by
  have hlt:k<x.Out.length:=by omega
  rw [am,yi hlt];simp only [b6,vm n s i x hR k l hlt hx hl];by_cases hr:x.Out[k]<0∨n.Rings<=x.Out[k]
  ·grind
  ·simp only [if_neg hr];have hrl:x.Out[k].toNat<l.length:=by omega
   simp only [xx hrl];by_cases he:0<=l[x.Out[k].toNat].src
   ·grind
   ·simp only [if_neg he];exact o4 n s i x hx hi hR m (k+1) _ (by omega) (by grind)
theorem ov (n:Net) (s:Int) (i:Nat) (x:Node) (hx:x.Out.length<=1099511627776) (hx2:x.In.length<=1099511627776) (hi:i<=12) (hR:n.Rings<=16) :
  ∀ (m k:Nat) (l:List Ends),k+m=x.In.length->(l.length:Int)=n.Rings ->
  iter (fun ss:Int × List Ends=>d5 n i x s ss.1 ss.2) ((k:Int),l)=match (match cx n.Rings i (x.In.drop k) l with | .inl e=>Sum.inl e | .inr l1=>b6 n.Rings i x.Out l1) with
   | .inl e=>some (.inr ([],e))
   | .inr l1=>some (.inl (s,((i+1:Nat):Int),l1))
 | 0,k,l,h,hl=>by
  have hk:k=x.In.length:=by omega
  subst hk;have:=o4 n s i x hx hi hR x.Out.length 0 l (by omega) hl;simp only [List.drop_zero,yU] at this;have h2:d5 n i x s (x.In.length:Int) l=Option.map Sum.inr (match b6 n.Rings i x.Out l with | .inl e=>some (.inr ([],e)) | .inr l1=>some (.inl (s,((i+1:Nat):Int),l1))):=by simp_all [d5]
  grind [am,cx]
 | m+1,k,l,h,hl=>by
  have hlt:k<x.In.length:=by omega
  rw [am,yi hlt];simp only [cx,uK n s i x hR k l hlt hx2 hl];by_cases hr:x.In[k]<0∨n.Rings<=x.In[k]
  ·grind
  ·simp only [if_neg hr];have hrl:x.In[k].toNat<l.length:=by omega
   simp only [xx hrl];by_cases he:0<=l[x.In[k].toNat].dst
   ·grind
   ·simp only [if_neg he];exact ov n s i x hx hx2 hi hR m (k+1) _ (by omega) (by grind)
theorem vv (x:Node):((decide (x.A<0)) || (if (x.Kind==1)=true then ((decide (x.A >= 4)) || (if (x.Kind==2)=true then ((decide (x.A > 3)) || ((x.Kind != 1) && ((x.Kind != 2) && x.A != 0))) else ((x.Kind != 1) && ((x.Kind != 2) && x.A != 0)))) else (if (x.Kind==2)=true then ((decide (x.A > 3)) || ((x.Kind != 1) && ((x.Kind != 2) && x.A != 0))) else ((x.Kind != 1) && ((x.Kind != 2) && x.A != 0)))))=badA x:=by unfold badA;grind
theorem uS (s:Int) (l:List Ends) (hl:l.length<=16):iter (fun ss:Int=>eO s l ss) 0=some (if l.any (fun e=>decide (e.src<0∨e.dst<0)) then ([],9) else if s≠1 then ([],4) else (l,0)):=by
 have:=mj (σ:=Unit) l (by omega) (fun k _=>(k:Int)) (body:=fun ss=>eO s l ss)
  (fun k e _=>if e.src<0∨e.dst<0 then some (.inr ([],9)) else some (.inl ())) (fun _=>if s≠1 then some ([],4) else some (l,0)) ()
  (fun k e _ hk hlt _ h2 h3=>by unfold eO;rw [h2,jk hlt,h3];grind)
  (fun _ h=>by simp [eO])
 refine Eq.trans this ?_;have key:∀ (ys:List Ends) (k:Nat),de (σ:=Unit) (ρ:=List Ends × Int) (fun k e _=>if e.src<0∨e.dst<0 then some (.inr ([],9)) else some (.inl ())) (fun _=>if s≠1 then some ([],4) else some (l,0)) k ys ()=some (if ys.any (fun e=>decide (e.src<0∨e.dst<0)) then ([],9) else if s≠1 then ([],4) else (l,0)):=by
  intro ys;induction ys with
  | nil=>grind [de]
  | cons y ys ih =>
   intro k;unfold de;grind
 exact key l 0
theorem oJ (n:Net) (hn:n.Nodes.length<=12) (hR0:0<=n.Rings) (hR:n.Rings<=16) (hio:∀ x∈n.Nodes,x.In.length<=1099511627776/\x.Out.length<=1099511627776) :
  ∀ (m k s:Nat) (l:List Ends),k+m=n.Nodes.length->s<=k->(l.length:Int)=n.Rings ->
  iter (fun ss:Int × Int × List Ends=>dX n ss.1 ss.2.1 ss.2.2) ((s:Int),(k:Int),l)=some (match dE n.Rings k (n.Nodes.drop k) s l with
   | .inl e=>([],e)
   | .inr (s,l)=>if l.any (fun e=>decide (e.src<0∨e.dst<0)) then ([],9) else if s≠1 then ([],4) else (l,0))
 | 0,k,s,l,h,hs,hl=>by
  have hk:k=n.Nodes.length:=by omega
  subst hk;have h5:dX n s (n.Nodes.length:Int) l=some (.inr (if l.any (fun e=>decide (e.src<0∨e.dst<0)) then ([],9) else if (s:Int)≠1 then ([],4) else (l,0))):=by unfold dX;rw [if_neg (by simp),uS _ _ (by omega)];rfl
  grind [am,dE]
 | m + 1,k,s,l,h,hs,hl=>by
  have hlt:k<n.Nodes.length:=by omega
  have hmem:n.Nodes[k]∈n.Nodes:=xV hlt;rw [am,yi hlt];simp only [dE];have step:dX n s k l=match oneN n.Rings k n.Nodes[k] l with
    | .inl e=>some (.inr ([],e))
    | .inr l1=>some (.inl (((if n.Nodes[k].Kind=8 then s+1 else s:Nat):Int),((k+1:Nat):Int),l1)):=by
   unfold dX
   rw [if_pos (by simp;omega),bc (xx hlt),xw,tw,xw]
   generalize n.Nodes[k]=x at hmem
   unfold oneN dz
   cases ha:g7 x.Kind with
   | none=>simp
   | some io =>
    obtain ⟨i0,o0⟩:=io
    simp only [Bool.not_true,xG,if_false,uL,xw]
    have hfit:(if (!bZ x.In.length i0)=true then some true else some (!bZ x.Out.length o0))=some (!(bZ x.In.length i0 && bZ x.Out.length o0)):=by grind
    rw [hfit,xw]
    by_cases hf:(bZ x.In.length i0 && bZ x.Out.length o0)=false
    ·grind
    ·have hf':(bZ x.In.length i0 && bZ x.Out.length o0)=true:=by grind
     rw [if_neg (by simp [hf']),vv]
     simp only [hf',Bool.true_eq_false,if_false]
     by_cases hb:badA x=true
     ·simp [hb]
     ·simp only [hb,if_false,xG,ne_eq,not_true_eq_false]
      obtain ⟨h1,h2⟩:=hio x hmem
      have k3:∀ s':Int,eM n k l x s'=match (match cx n.Rings k x.In l with | .inl e=>Sum.inl e | .inr l1=>b6 n.Rings k x.Out l1) with
        | .inl e=>some (.inr ([],e))
        | .inr l1=>some (.inl (s',((k+1:Nat):Int),l1)):=fun s'=>by
       unfold eM
       have:=ov n s' k x h2 h1 (by omega) hR x.In.length 0 l (by omega) hl
       grind
      by_cases h8:x.Kind=8
      ·rw [if_pos (by simp [h8]),k3,bv (by omega)]
       grind
      grind
  simp only [step];cases ho:oneN n.Rings k n.Nodes[k] l with
  | inl e=>rfl
  | inr l1 =>
   simp only;exact oJ n hn hR0 hR hio m (k+1) _ l1 (by omega) (by grind) (by grind [tQ])
theorem rg (n:Net) (hio:∀ x∈n.Nodes,x.In.length<=1099511627776/\x.Out.length<=1099511627776):gH n=some (match lookN n with | .inl e=>([],e) | .inr l=>(l,0)):=by
 unfold gH lookN;by_cases h1:n.Nodes.length<1∨12<n.Nodes.length∨n.Rings<0∨16<n.Rings
 ·grind
 rw [if_neg (by simp;omega),if_neg h1];by_cases h2:n.Room<1∨6<n.Room
 ·grind
 rw [if_neg (by simp;omega),if_neg h2];have hRn:n.Rings=((n.Rings.toNat:Nat):Int):=by omega
 rw [hRn,sj _ (by omega),xw,<- hRn];have:=oJ n (by omega) (by omega) (by omega) hio n.Nodes.length 0 0 (List.replicate n.Rings.toNat ew) (by omega) (by omega) (by simp;omega);grind
theorem mE (R i:Int) (hi:0<=i):∀ (rs:List Int) (l l1:List Ends),(l.length:Int)=R->cx R i rs l=.inr l1 ->
  (∀ r∈rs,0<=r/\r<R/\∀ e,l[r.toNat]?=some e->e.dst<0)/\rs.Nodup/\∀ j:Nat,l1[j]?=if (j:Int)∈rs then (l[j]?).map (fun e=>⟨e.src,i⟩) else l[j]?
 | [],l,l1,hl,h=>by cases h;simp
 | r :: rs,l,l1,hl,h=>by
  unfold cx at h;split at h
  ·cases h
  ·rename_i hr;split at h
   ·cases h
   ·rename_i e he;split at h
    ·cases h
    ·rename_i hd;have hlt:r.toNat<l.length:=(xy.1 he).1;obtain ⟨h1,h2,h3⟩:=mE R i hi rs _ l1 (by grind) h;have hnot:r ∉ rs:=fun hm=>by
      grind
     refine ⟨fun q hq=>?_,yM.2 ⟨hnot,h2⟩,fun j=>?_⟩
     ·rcases yc.1 hq with rfl | hq
      ·grind
      ·obtain ⟨a,b,c⟩:=h1 q hq;refine ⟨a,b,fun e' he'=>?_⟩;have hne:q≠r:=fun e=>hnot (e▸hq)
       exact c e' (by rw [xO,if_neg (by omega)];exact he')
     ·rw [h3 j,xO];by_cases hj:(j:Int)=r
      ·have hjr:r.toNat=j:=by omega
       grind
      ·have hjr:¬ r.toNat=j:=by omega
       simp_all
theorem mC (R i:Int) (hi:0<=i):∀ (rs:List Int) (l l1:List Ends),(l.length:Int)=R->b6 R i rs l=.inr l1 ->
  (∀ r∈rs,0<=r/\r<R/\∀ e,l[r.toNat]?=some e->e.src<0)/\rs.Nodup/\∀ j:Nat,l1[j]?=if (j:Int)∈rs then (l[j]?).map (fun e=>⟨i,e.dst⟩) else l[j]?
 | [],l,l1,hl,h=>by cases h;simp
 | r :: rs,l,l1,hl,h=>by
  unfold b6 at h;split at h
  ·cases h
  ·rename_i hr;split at h
   ·cases h
   ·rename_i e he;split at h
    ·cases h
    ·rename_i hd;have hlt:r.toNat<l.length:=(xy.1 he).1;obtain ⟨h1,h2,h3⟩:=mC R i hi rs _ l1 (by grind) h;have hnot:r ∉ rs:=fun hm=>by
      grind
     refine ⟨fun q hq=>?_,yM.2 ⟨hnot,h2⟩,fun j=>?_⟩
     ·rcases yc.1 hq with rfl | hq
      ·grind
      ·obtain ⟨a,b,c⟩:=h1 q hq;refine ⟨a,b,fun e' he'=>?_⟩;have hne:q≠r:=fun e=>hnot (e▸hq)
       exact c e' (by rw [xO,if_neg (by omega)];exact he')
     ·rw [h3 j,xO];by_cases hj:(j:Int)=r
      ·have hjr:r.toNat=j:=by omega
       grind
      ·have hjr:¬ r.toNat=j:=by omega
       simp_all
structure Looked (ns:List Node) (R:Int) (k:Nat) (l:List Ends):Prop where
 len:(l.length:Int)=R
 src:∀ (j:Nat) e,l[j]?=some e->(e.src<0∨∃ (i:Nat) (x:Node),i<k/\ns[i]?=some x/\e.src=i/\(j:Int)∈x.Out)
 dst:∀ (j:Nat) e,l[j]?=some e->(e.dst<0∨∃ (i:Nat) (x:Node),i<k/\ns[i]?=some x/\e.dst=i/\(j:Int)∈x.In)
 node:∀ (i:Nat) x,i<k->ns[i]?=some x->dz x=0/\x.In.Nodup/\x.Out.Nodup /\
  (∀ r∈x.In,0<=r/\r<R/\∃ e,l[r.toNat]?=some e/\e.dst=i)/\(∀ r∈x.Out,0<=r/\r<R/\∃ e,l[r.toNat]?=some e/\e.src=i)
theorem Looked.one {ns:List Node} {R:Int} {k:Nat} {l l1:List Ends} {x:Node} (h:Looked ns R k l) (hx:ns[k]?=some x) (ho:oneN R k x l=.inr l1):Looked ns R (k+1) l1:=by
 unfold oneN at ho;split at ho
 ·cases ho
 ·rename_i hne;split at ho
  ·cases ho
  ·rename_i l2 h2;have hl2:(l2.length:Int)=R:=by rw [kb R k _ _ _ h2];exact h.len
   obtain ⟨a1,a2,a3⟩:=mE R k (by omega) _ _ _ h.len h2;obtain ⟨b1,b2,b3⟩:=mC R k (by omega) _ _ _ hl2 ho;have hent:∀ (j:Nat) e1,l1[j]?=some e1->∃ e,l[j]?=some e/\e1.src=(if (j:Int)∈x.Out then (k:Int) else e.src)/\e1.dst=(if (j:Int)∈x.In then (k:Int) else e.dst):=fun j e1 he1=>by
    rw [b3 j,a3 j] at he1;cases hj:l[j]? with
    | none=>simp_all
    | some e =>
     rw [hj] at he1;refine ⟨e,rfl,?_⟩;split at he1<;>split at he1<;>cases he1<;>simp_all
   have hent2:∀ (j:Nat) e,l[j]?=some e->∃ e1,l1[j]?=some e1/\e1.src=(if (j:Int)∈x.Out then (k:Int) else e.src)/\e1.dst=(if (j:Int)∈x.In then (k:Int) else e.dst):=fun j e he=>by
    have hlt:j<l1.length:=by grind [iM]
    obtain ⟨e',h1,h3⟩:=hent j _ (xx hlt);rw [he] at h1;cases h1;grind
   refine ⟨by grind [iM],fun j e1 he1=>?_,fun j e1 he1=>?_,fun i y hi hy=>?_⟩
   ·obtain ⟨e,he,hs,_⟩:=hent j e1 he1;by_cases hm:(j:Int)∈x.Out
    ·grind
    ·rw [if_neg hm] at hs;rw [hs];rcases h.src j e he with h1 | ⟨i,y,h1,h2,h3,h4⟩
     all_goals grind
   ·obtain ⟨e,he,_,hs⟩:=hent j e1 he1;by_cases hm:(j:Int)∈x.In
    ·grind
    ·rw [if_neg hm] at hs;rw [hs];rcases h.dst j e he with h1 | ⟨i,y,h1,h2,h3,h4⟩
     all_goals grind
   ·rcases Nat.lt_or_ge i k with hik | hik
    ·obtain ⟨c1,c2,c3,c4,c5⟩:=h.node i y hik hy;refine ⟨c1,c2,c3,fun r hr=>?_,fun r hr=>?_⟩
     ·obtain ⟨d1,d2,e,d3,d4⟩:=c4 r hr;refine ⟨d1,d2,?_⟩;obtain ⟨e1,f1,_,f2⟩:=hent2 _ e d3;have hnm:(r.toNat:Int) ∉ x.In:=fun hm=>by
       grind [Int.toNat_natCast]
      grind
     ·obtain ⟨d1,d2,e,d3,d4⟩:=c5 r hr;refine ⟨d1,d2,?_⟩;obtain ⟨e1,f1,f2,_⟩:=hent2 _ e d3;have hnm:(r.toNat:Int) ∉ x.Out:=fun hm=>by
       have hl2e:∃ e2,l2[r.toNat]?=some e2/\e2.src=e.src:=by rw [a3];split<;>simp [d3]
       obtain ⟨e2,g1,g2⟩:=hl2e;grind [Int.toNat_natCast]
      grind
    ·have hik:i=k:=by omega
     subst hik;rw [hx] at hy;cases hy;refine ⟨by omega,a2,b2,fun r hr=>?_,fun r hr=>?_⟩
     ·obtain ⟨d1,d2,_⟩:=a1 r hr;refine ⟨d1,d2,?_⟩;have hlt:r.toNat<l.length:=by have:=h.len;omega
      obtain ⟨e1,f1,_,f2⟩:=hent2 _ _ (xx hlt);rw [if_pos (by grind [Int.toNat_of_nonneg])] at f2;grind
     ·obtain ⟨d1,d2,_⟩:=b1 r hr;refine ⟨d1,d2,?_⟩;have hlt:r.toNat<l.length:=by have:=h.len;omega
      obtain ⟨e1,f1,f2,_⟩:=hent2 _ _ (xx hlt);rw [if_pos (by grind [Int.toNat_of_nonneg])] at f2;grind
theorem Looked.start (ns:List Node) (R:Nat):Looked ns R 0 (List.replicate R ew) :=
 ⟨by simp,fun j e he=>by rw [yC] at he;split at he<;>cases he;exact .inl (by decide),fun j e he=>by rw [yC] at he;split at he<;>cases he;exact .inl (by decide),fun i x hi=>by omega⟩
theorem mV (ns:List Node) (R:Int):∀ (xs:List Node) (k s:Nat) (l:List Ends) (s1:Nat) (l1:List Ends),ns.drop k=xs->Looked ns R k l->dE R k xs s l=.inr (s1,l1) ->
  Looked ns R ns.length l1/\s1=s+(xs.filter (fun x=>decide (x.Kind=8))).length
 | [],k,s,l,s1,l1,hd,h,hn=>by
  cases hn;have hk:ns.length<=k:=List.drop_eq_nil_iff.1 hd;refine ⟨⟨h.len,fun j e he=>?_,fun j e he=>?_,fun i x hi hx=>h.node i x (by omega) hx⟩,by simp⟩
  ·rcases h.src j e he with h1 | ⟨i,y,h1,h2,h3⟩
   all_goals grind
  ·rcases h.dst j e he with h1 | ⟨i,y,h1,h2,h3⟩
   all_goals grind
 | x::xs,k,s,l,s1,l1,hd,h,hn=>by
  have hx:ns[k]?=some x:=by have:=congrArg (fun l=>l[0]?) hd;grind
  have hd2:ns.drop (k+1)=xs:=by have:=congrArg (List.drop 1) hd;grind [List.drop_drop]
  unfold dE at hn;split at hn
  ·cases hn
  ·rename_i l2 h2;obtain ⟨a,b⟩:=mV ns R xs (k+1) _ l2 s1 l1 hd2 (h.one hx h2) hn;grind
structure NetL (n:Net) (l:List Ends):Prop where
 n1:1<=n.Nodes.length
 n2:n.Nodes.length<=12
 r1:0<=n.Rings
 r2:n.Rings<=16
 m1:1<=n.Room
 m2:n.Room<=6
 len:(l.length:Int)=n.Rings
 src:∀ (j:Nat) e,l[j]?=some e->∃ (i:Nat) (x:Node),n.Nodes[i]?=some x/\e.src=i/\(j:Int)∈x.Out
 dst:∀ (j:Nat) e,l[j]?=some e->∃ (i:Nat) (x:Node),n.Nodes[i]?=some x/\e.dst=i/\(j:Int)∈x.In
 err:∀ (i:Nat) x,n.Nodes[i]?=some x->dz x=0
 ndI:∀ (i:Nat) x,n.Nodes[i]?=some x->x.In.Nodup
 ndO:∀ (i:Nat) x,n.Nodes[i]?=some x->x.Out.Nodup
 inn:∀ (i:Nat) x,n.Nodes[i]?=some x->∀ r∈x.In,0<=r/\r<n.Rings/\∃ e,l[r.toNat]?=some e/\e.dst=i
 out:∀ (i:Nat) x,n.Nodes[i]?=some x->∀ r∈x.Out,0<=r/\r<n.Rings/\∃ e,l[r.toNat]?=some e/\e.src=i
 sink:(n.Nodes.filter (fun x=>decide (x.Kind=8))).length=1
theorem nz {n:Net} {l:List Ends} (h:lookN n=.inr l):NetL n l:=by
 unfold lookN at h;split at h
 ·cases h
 ·rename_i h1;split at h
  ·cases h
  ·rename_i h2;split at h
   ·cases h
   ·rename_i s l' hn;split at h
    ·cases h
    ·rename_i hany;split at h
     ·cases h
     ·rename_i hs;cases h;have hst:=Looked.start n.Nodes n.Rings.toNat;rw [yK (by omega)] at hst;obtain ⟨a,b⟩:=mV n.Nodes n.Rings n.Nodes 0 0 _ s l (by simp) hst hn;have hpos:∀ (j:Nat) e,l[j]?=some e->¬ e.src<0/\¬ e.dst<0:=fun j e he=>by
       grind
      refine ⟨by omega,by omega,by omega,by omega,by omega,by omega,a.len,fun j e he=>?_,fun j e he=>?_,fun i x hx=>(a.node i x (xy.1 hx).1 hx).1,fun i x hx=>(a.node i x (xy.1 hx).1 hx).2.1,fun i x hx=>(a.node i x (xy.1 hx).1 hx).2.2.1,fun i x hx=>(a.node i x (xy.1 hx).1 hx).2.2.2.1,fun i x hx=>(a.node i x (xy.1 hx).1 hx).2.2.2.2,by omega⟩
      ·rcases a.src j e he with h3 | ⟨i,y,_,h4⟩
       all_goals grind
      ·rcases a.dst j e he with h3 | ⟨i,y,_,h4⟩
       all_goals grind
section
def eu (ok:Nat->Bool):Nat->Nat->Option Nat
 | 0,_=>none
 | m+1,k=>if ok k then some k else eu ok m (k+1)
theorem l8 {ok:Nat->Bool}:∀ {m k i:Nat},eu ok m k=some i->k<=i/\i<k+m/\ok i=true
 | 0,k,i,h=>by cases h
 | m+1,k,i,h=>by
  unfold eu at h;split at h
  ·grind
  ·obtain ⟨a,b,c⟩:=l8 h;grind
def fedN (l:List Ends) (out:List Nat) (x:Node):Bool:=x.In.all fun r=>match l[r.toNat]? with | some e=>out.contains e.src.toNat | none=>false
def okN (l:List Ends) (out:List Nat) (ns:List Node) (i:Nat):Bool:=!(out.contains i) && (match ns[i]? with | some x=>fedN l out x | none=>false)
def ordN (l:List Ends) (ns:List Node):Nat->List Nat->Option (List Nat)
 | 0,out=>some out
 | m+1,out=>match eu (okN l out ns) ns.length 0 with
  | none=>none
  | some i=>ordN l ns m (out++[i])
def netR (n:Net):List Int × Int:=match lookN n with
 | .inl e=>([],e)
 | .inr l=>match ordN l n.Nodes n.Nodes.length [] with
  | none=>([],7)
  | some out=>(out.map (fun i:Nat=>(i:Int)),0)
def aP (N:Nat) (out:List Nat):List Bool:=(List.range N).map fun i=>out.contains i
theorem fD {N:Nat} {out:List Nat} {i:Nat} (h:i<N):(aP N out)[i]?=some (out.contains i):=by grind [aP]
theorem gC {N:Nat} {out:List Nat}:(aP N out).length=N:=by simp [aP]
theorem sf {N:Nat} {out:List Nat} {i:Nat} (h:i<N):(aP N out).set i true=aP N (out++[i]):=by
 apply yh;intro j;rw [xO,gC];by_cases hj:j<N
 ·rw [fD hj];by_cases hij:i=j
  ·simp_all [fD]
  ·rw [if_neg hij,fD hj];grind
 simp_all [gC]
theorem r4 (N:Nat):List.replicate N false=aP N []:=by
 apply yh;intro j;rw [yC];by_cases hj:j<N
 ·simp_all [fD]
 simp_all [gC]
theorem ua {n:Net} (out:List Nat) (ho:out.length<=12) (z:Option Nat) (hz:∀ i,z=some i->i<n.Nodes.length):eJ (out.map (fun i:Nat=>(i:Int))) (aP n.Nodes.length out) (match z with | some i=>(i:Int) | none => -1)=match z with
  | some i=>some (.inl ((out++[i]).map (fun i:Nat=>(i:Int)),aP n.Nodes.length (out++[i])))
  | none=>some (.inr ([],7)):=by
 unfold eJ
 cases z with
 | none=>rfl
 | some i =>
  have hi:=hz i rfl
  simp only
  rw [if_neg (by simp)]
  have e1:ixN (aP n.Nodes.length out) (i:Int)=some i:=by simp_all [ixN,gC]
  grind [fD,eZ,sf]
section
variable {n:Net} {l:List Ends} (hn:NetL n l)
include hn
theorem wa {j:Nat} {e:Ends} (h:l[j]?=some e):0<=e.src/\e.src.toNat<n.Nodes.length:=by obtain ⟨i,x,h1,h2,_⟩:=hn.src j e h;grind
theorem sy {i:Nat} {x:Node} (hx:n.Nodes[i]?=some x) (out:List Nat) {r:Int} (hr:r∈x.In) :
  gb r (aP n.Nodes.length out) l=some (!(match l[r.toNat]? with | some e=>out.contains e.src.toNat | none=>false)):=by
 obtain ⟨h1,h2,e,h3,_⟩:=hn.inn i x hx r hr
 have hlt:=(xy.1 h3).1
 obtain ⟨h4,h5⟩:=wa hn h3
 simp_all [ixN,aP,gb]
theorem rF {i:Nat} {x:Node} (hx:n.Nodes[i]?=some x) (out:List Nat) (hl:x.In.length<=1099511627776):ff x.In (aP n.Nodes.length out) l=some (!fedN l out x):=by
 unfold ff il;have:=mj (σ:=Unit) x.In hl (fun k _=>(k:Int)) (body:=fun ss=>fg x.In (aP n.Nodes.length out) l ss)
  (fun k r _=>if (match l[r.toNat]? with | some e=>out.contains e.src.toNat | none=>false)=false then some (.inr (k:Int)) else some (.inl ())) (fun _=>some (-1)) ()
  (fun k r _ hk hlt h1 h2 h3=>by unfold fg;rw [h2,h1,h3];simp only [if_true,xw];grind [sy])
  (fun _ h=>by simp [fg])
 simp only [yU] at this;rw [this];have key:∀ (ys:List Int) (k:Nat),∃ v:Int,de (σ:=Unit) (fun k r _=>if (match l[r.toNat]? with | some e=>out.contains e.src.toNat | none=>false)=false then some (.inr (k:Int)) else some (.inl ())) (fun _=>some (-1:Int)) k ys ()=some v /\
   decide (v >= 0)=!(ys.all fun r=>match l[r.toNat]? with | some e=>out.contains e.src.toNat | none=>false):=by
  intro ys
  induction ys with
  | nil=>intro k;exact ⟨-1,rfl,by simp⟩
  | cons y ys ih =>
   intro k
   unfold de
   by_cases h:(match l[y.toNat]? with | some e=>out.contains e.src.toNat | none=>false)=false
   ·simp_all
   simp_all
 obtain ⟨v,h1,h2⟩:=key x.In 0;rw [h1,xw,h2];rfl
theorem n7 (hio:∀ x∈n.Nodes,x.In.length<=1099511627776) (q:Int) (out:List Nat) (ho:out.length<=12):∀ (m k:Nat),k+m=n.Nodes.length ->
  iter (fun ss:Int=>dV n (l,q) (out.map (fun i:Nat=>(i:Int))) (aP n.Nodes.length out) ss) (k:Int)=match eu (okN l out n.Nodes) m k with
   | some i=>some (.inl ((out++[i]).map (fun i:Nat=>(i:Int)),aP n.Nodes.length (out++[i])))
   | none=>some (.inr ([],7))
 | 0,k,h=>by
  have hk:k=n.Nodes.length:=by omega
  subst hk;have:dV n (l,q) (out.map (fun i:Nat=>(i:Int))) (aP n.Nodes.length out) (n.Nodes.length:Int)=some (.inr (.inr ([],7))):=by unfold dV;rw [if_neg (by simp)];rfl
  rw [am,this];rfl
 | m+1,k,h=>by
  have hlt:k<n.Nodes.length:=by omega
  have hn2:=hn.n2;have hx:n.Nodes[k]?=some n.Nodes[k]:=xx hlt;have e1:ixN (aP n.Nodes.length out) (k:Int)=some k:=by simp_all [ixN,gC]
  have hstep:dV n (l,q) (out.map (fun i:Nat=>(i:Int))) (aP n.Nodes.length out) (k:Int)=if okN l out n.Nodes k then some (.inr (.inl ((out++[k]).map (fun i:Nat=>(i:Int)),aP n.Nodes.length (out++[k])))) else some (.inl ((k+1:Nat):Int)):=by
   unfold dV;rw [if_pos (by simp;omega),bc hx,xw];simp only [e1,xw,fD hlt];have hok:okN l out n.Nodes k=(!(out.contains k) && fedN l out n.Nodes[k]):=by unfold okN;rw [hx]
   have hin:(if (!(out.contains k))=true then (ff n.Nodes[k].In (aP n.Nodes.length out) l).bind fun x12=>some (!x12) else some false)=some (okN l out n.Nodes k):=by grind [rF]
   rw [hin,xw,bv (by omega)];by_cases hb:okN l out n.Nodes k=true
   ·rw [if_pos hb,if_pos hb];have:=ua (n:=n) out ho (some k) (fun i e=>by grind);grind
   grind
  rw [am,hstep,eu];by_cases hb:okN l out n.Nodes k=true
  ·grind
  ·simp only [if_neg hb];exact n7 hio q out ho m (k+1) (by omega)
theorem nZ (hio:∀ x∈n.Nodes,x.In.length<=1099511627776) (q:Int):∀ (m:Nat) (out:List Nat),out.length+m=n.Nodes.length ->
  iter (fun ss:List Int × List Bool=>dU n (l,q) ss.1 ss.2) (out.map (fun i:Nat=>(i:Int)),aP n.Nodes.length out)=some (match ordN l n.Nodes m out with
   | none=>([],7)
   | some out=>(out.map (fun i:Nat=>(i:Int)),0))
 | 0,out,h=>by
  have:dU n (l,q) (out.map (fun i:Nat=>(i:Int))) (aP n.Nodes.length out)=some (.inr (out.map (fun i:Nat=>(i:Int)),0)):=by simp_all [dU]
  grind [am,ordN]
 | m+1,out,h=>by
  have hstep:dU n (l,q) (out.map (fun i:Nat=>(i:Int))) (aP n.Nodes.length out)=match eu (okN l out n.Nodes) n.Nodes.length 0 with
   | some i=>some (.inl ((out++[i]).map (fun i:Nat=>(i:Int)),aP n.Nodes.length (out++[i])))
   | none=>some (.inr ([],7)):=by
   unfold dU
   rw [if_pos (by simp;omega)]
   have:=n7 hn hio q out (by have:=hn.n2;omega) n.Nodes.length 0 (by omega)
   omega
  rw [am];simp only [hstep,ordN];cases eu (okN l out n.Nodes) n.Nodes.length 0 with
  | none=>rfl
  | some i =>
   simp only;exact nZ hio q m (out++[i]) (by simp;omega)
end
theorem nR (R i:Int):∀ (rs:List Int) (l:List Ends),cx R i rs l≠.inl 0
 | [],l,h=>by cases h
 | r::rs,l,h=>by
  unfold cx at h;split at h
  ·grind
  ·split at h
   ·grind
   ·split at h
    ·grind
    ·exact nR R i rs _ h
theorem nP (R i:Int):∀ (rs:List Int) (l:List Ends),b6 R i rs l≠.inl 0
 | [],l,h=>by cases h
 | r::rs,l,h=>by
  unfold b6 at h;split at h
  ·grind
  ·split at h
   ·grind
   ·split at h
    ·grind
    ·exact nP R i rs _ h
theorem vA (R:Int) (i:Nat) (x:Node) (l:List Ends):oneN R i x l≠.inl 0:=fun h=>by grind [oneN,nR,nP]
theorem mR (R:Int):∀ (xs:List Node) (k s:Nat) (l:List Ends),dE R k xs s l≠.inl 0
 | [],k,s,l,h=>by cases h
 | x::xs,k,s,l,h=>by
  unfold dE at h;split at h
  ·grind [vA]
  ·exact mR R xs _ _ _ h
theorem n5 (n:Net):lookN n≠.inl 0:=fun h=>by grind [lookN,mR]
theorem qN (n:Net) (hio:∀ x∈n.Nodes,x.In.length<=1099511627776/\x.Out.length<=1099511627776):gy n=some (netR n):=by
 unfold gy netR;rw [rg n hio,xw];cases h:lookN n with
 | inl e =>
  simp only;have he:e≠0:=fun e0=>n5 n (e0▸h)
  grind
 | inr l =>
  simp only;have hn:=nz h;rw [if_neg (by simp)];have hmk:mk (n.Nodes.length:Int) false=some (aP n.Nodes.length []):=by unfold mk;rw [if_pos (by have:=hn.n2;omega),<- r4];rfl
  rw [hmk,xw];have:=nZ hn (fun x hx=>(hio x hx).1) 0 n.Nodes.length [] (by simp);grind
theorem lV (n:Net) (hio:∀ x∈n.Nodes,x.In.length<=1099511627776/\x.Out.length<=1099511627776):cr n=some (netR n).2:=by grind [cr,qN]
end
section
theorem lQ {κ ν:Type} [DecidableEq κ] (k:κ) (v:ν):∀ m:List (κ × ν),mget k (mset k v m)=some v
 | []=>by simp [mset,mget]
 | p::r=>by
  unfold mset;split
  ·simp [mget]
  ·rename_i h;simp only [mget,if_neg h];exact lQ k v r
theorem lT {κ ν:Type} [DecidableEq κ] {k k':κ} (v:ν) (hk:k≠k'):∀ m:List (κ × ν),mget k (mset k' v m)=mget k m
 | []=>by simp [mset,mget,hk]
 | p::r=>by
  unfold mset;split
  ·simp_all [mget]
  ·simp only [mget];rw [lT v hk r]
theorem lU {κ ν:Type} [DecidableEq κ] {k:κ} (v:ν):∀ {m:List (κ × ν)},mget k m=none->(mset k v m).length=m.length+1
 | [],_=>rfl
 | p::r,h=>by
  simp only [mget] at h;split at h
  ·cases h
  ·rename_i hk;simp only [mset,if_neg hk,xE];rw [lU v h]
structure MRi (v:List Int) (m:List (Int × Int)):Prop where
 len:m.length=v.countP (fun x=>decide (0<=x))
 get:∀ (j:Nat) x,v[j]?=some x->mget (j:Int) m=if x<0 then none else some x
theorem MRi.set {v:List Int} {m:List (Int × Int)} (h:MRi v m) {j:Nat} {x y:Int} (hx:v[j]?=some x) (h0:x<0) (h1:0<=y):MRi (v.set j y) (mset (j:Int) y m):=by
 have hlt:=(xy.1 hx).1;have hv:v[j]=x:=(xy.1 hx).2;have hn:mget (j:Int) m=none:=by rw [h.get j x hx,if_pos h0]
 refine ⟨?_,fun k z hz=>?_⟩
 ·rw [lU y hn,h.len,List.countP_set hlt,hv];grind
 ·rw [xO] at hz;by_cases hjk:j=k
  ·simp_all [lQ]
  ·rw [if_neg hjk] at hz;rw [lT y (by omega)];exact h.get k z hz
theorem MRi.start (R:Nat):MRi (List.replicate R (-1)) []:=by
 refine ⟨?_,fun j x hx=>?_⟩
 ·grind
 ·rw [yC] at hx;split at hx<;>cases hx;rfl
section
variable {n:Net} {l:List Ends} (hn:NetL n l) {fr:List (Int × Int)} (hm:MRi (l.map Ends.src) fr)
include hn hm
end
end
theorem oK {n:Net} (h:(netR n).2=0):∃ l out,lookN n=.inr l/\NetL n l/\ordN l n.Nodes n.Nodes.length []=some out/\netR n=(out.map (fun i:Nat=>(i:Int)),0):=by grind [netR,n5,nz]
theorem vY {n:Net} (h:mNet n<=1048576):∀ x∈n.Nodes,x.In.length<=1099511627776/\x.Out.length<=1099511627776:=fun x hx=>by have h1:mNode x<=mL mNode n.Nodes:=pq hx;have h0:mNode x=mL mI x.In+mL mI x.Out+2:=rfl;have h2:x.In.length<=mL mI x.In:=js (fun _=>xD 1) _;have h3:x.Out.length<=mL mI x.Out:=js (fun _=>xD 1) _;grind [mNet]
theorem nw (l:List Ends) (ns:List Node):∀ (m:Nat) (out o:List Nat),ordN l ns m out=some o->o.length=out.length+m
 | 0,out,o,h=>by cases h;rfl
 | m+1,out,o,h=>by
  unfold ordN at h;split at h
  ·cases h
  ·have:=nw l ns m _ o h;grind
theorem mS {l:List Ends} {ns:List Node}:∀ {m:Nat} {out o:List Nat},ordN l ns m out=some o->out.Nodup->(∀ x∈out,x<ns.length) ->
  o.Nodup/\(∀ x∈o,x<ns.length)/\out <+: o/\∀ (p i:Nat),out.length<=p->o[p]?=some i->okN l (o.take p) ns i=true
 | 0,out,o,h,h1,h2=>by
  cases h;grind
 | m+1,out,o,h,h1,h2=>by
  unfold ordN at h;split at h
  ·cases h
  ·rename_i i hi;obtain ⟨_,hlt,hok⟩:=l8 hi;have hni:i ∉ out:=by
    simp_all [okN]
   obtain ⟨a,b,c,d⟩:=mS h (List.nodup_append.2 ⟨h1,by simp,by grind⟩) (fun x hx=>by grind)
   refine ⟨a,b,(List.prefix_append out [i]).trans c,fun p j hp hj=>?_⟩;by_cases hpe:p=out.length
   ·subst hpe;obtain ⟨t,ht⟩:=c;grind
   grind
theorem jT:∀ (N:Nat) (l:List Nat),l.Nodup->(∀ x∈l,x<N)->l.length<=N
 | 0,l,_,h=>by
  cases l with
  | nil=>simp
  | cons x l=>grind [List.mem_cons_self]
 | N+1,l,hd,h=>by
  have:=jT N (l.erase N) (hd.erase N) (fun x hx=>by grind)
  grind
theorem ul {N:Nat} {l:List Nat} (hd:l.Nodup) (h:∀ x∈l,x<N) (hl:l.length=N) {i:Nat} (hi:i<N):i∈l:=by
 refine Classical.byContradiction fun hn=>?_
 have:=jT N (i::l) (yM.2 ⟨hn,hd⟩) (fun x hx=>by grind)
 grind
structure OrdL (n:Net) (l:List Ends) (o:List Nat):Prop where
 nd:o.Nodup
 lt:∀ x∈o,x<n.Nodes.length
 len:o.length=n.Nodes.length
 fed:∀ (p i:Nat) (x:Node) (r:Int) (e:Ends),o[p]?=some i->n.Nodes[i]?=some x->r∈x.In->l[r.toNat]?=some e->e.src.toNat∈o.take p
theorem uB {n:Net} {l:List Ends} {o:List Nat} (h:ordN l n.Nodes n.Nodes.length []=some o):OrdL n l o:=by obtain ⟨a,b,_,d⟩:=mS h List.nodup_nil (fun x hx=>by simp at hx);have hl:=nw _ _ _ _ _ h;refine ⟨a,b,by grind,fun p i x r e hp hx hr he=>?_⟩;have:=d p i (xY _) hp;unfold okN at this;rw [yB,hx] at this;grind [fedN]
theorem bnd {α β:Type} {o:Option α} {k:α->Option β} {x:α} {r:Option β} (h:o=some x) (h2:k x=r):Option.bind o k=r:=by grind
def good (l:List Keyed) (i:Nat):Prop:=∀ x,l[i]?=some x->1<=x.N/\∀ j y,i=j+1->l[j]?=some y->y.Key<x.Key
def pm (k f:Int):Prop:=1<=k/\k<=8/\(k=2->0<=f/\f<=3)
def ap (n:Net) (i:Nat):Node:=n.Nodes.getD i ⟨0,0,[],[]⟩
structure RightN (n:Net):Prop where
 n1:1<=n.Nodes.length
 n2:n.Nodes.length<=12
 r1:0<=n.Rings
 r2:n.Rings<=16
 m1:1<=n.Room
 m2:n.Room<=6
 kind:∀ i,i<n.Nodes.length->pm (ap n i).Kind (ap n i).A
 a0:∀ i,i<n.Nodes.length->0<=(ap n i).A
 in1:∀ i,i<n.Nodes.length->(ap n i).Kind=1->(ap n i).In=[]
 in6:∀ i,i<n.Nodes.length->(ap n i).Kind=6->1<=(ap n i).In.length
 inx:∀ i,i<n.Nodes.length->(ap n i).Kind≠1->(ap n i).Kind≠6->(ap n i).In.length=1
 out8:∀ i,i<n.Nodes.length->(ap n i).Kind=8->(ap n i).Out=[]
 out1:∀ i,i<n.Nodes.length->(ap n i).Kind≠8->1<=(ap n i).Out.length
 outx:∀ i,i<n.Nodes.length->(ap n i).Kind≠8->(ap n i).Kind≠5->(ap n i).Kind≠7->(ap n i).Out.length=1
 inR:∀ i,i<n.Nodes.length->∀ r,r∈(ap n i).In->0<=r/\r<n.Rings
 outR:∀ i,i<n.Nodes.length->∀ r,r∈(ap n i).Out->0<=r/\r<n.Rings
 ndI:∀ i,i<n.Nodes.length->(ap n i).In.Nodup
 ndO:∀ i,i<n.Nodes.length->(ap n i).Out.Nodup
 oneI:∀ i j r,i<n.Nodes.length->j<n.Nodes.length->r∈(ap n i).In->r∈(ap n j).In->i=j
 oneO:∀ i j r,i<n.Nodes.length->j<n.Nodes.length->r∈(ap n i).Out->r∈(ap n j).Out->i=j
 toI:∀ r:Nat,(r:Int)<n.Rings->∃ i,i<n.Nodes.length/\(r:Int)∈(ap n i).In
 toO:∀ r:Nat,(r:Int)<n.Rings->∃ i,i<n.Nodes.length/\(r:Int)∈(ap n i).Out
 sink:∃ s,s<n.Nodes.length/\(ap n s).Kind=8
 sink1:∀ i j,i<n.Nodes.length->j<n.Nodes.length->(ap n i).Kind=8->(ap n j).Kind=8->i=j
 ord:∃ pos:Nat->Nat,(∀ i,i<n.Nodes.length->pos i<n.Nodes.length)/\(∀ i j,i<n.Nodes.length->j<n.Nodes.length->pos i=pos j->i=j)/\∀ i j r,i<n.Nodes.length->j<n.Nodes.length->r∈(ap n i).Out->r∈(ap n j).In->pos i<pos j
theorem ke {n:Net} {i:Nat} (h:i<n.Nodes.length):n.Nodes[i]?=some (ap n i):=by grind [ap]
theorem r5 {x:Node} (h:dz x=0):pm x.Kind x.A/\0<=x.A/\(x.Kind=1->x.In=[])/\(x.Kind=6->1<=x.In.length)/\(x.Kind≠1->x.Kind≠6->x.In.length=1)/\(x.Kind=8->x.Out=[])/\(x.Kind≠8->1<=x.Out.length) /\
  (x.Kind≠8->x.Kind≠5->x.Kind≠7->x.Out.length=1):=by
 unfold dz at h
 split at h
 ·omega
 ·rename_i i o har
  split at h
  ·omega
  ·rename_i hf
   split at h
   ·omega
   ·rename_i hb
    have hfi:bZ x.In.length i=true/\bZ x.Out.length o=true:=by grind
    have h1:=of_decide_eq_true hfi.1
    have h2:=of_decide_eq_true hfi.2
    have h3:¬ (x.A<0∨x.Kind=1/\4<=x.A∨x.Kind=2/\3<x.A∨x.Kind≠1/\x.Kind≠2/\x.A≠0):=fun e=>hb (by grind [badA])
    unfold g7 at har
    have hz:∀ l:List Int,(l.length:Int)=0->l=[]:=fun l hl=>xB (by omega)
    split at har
    ·cases har;rename_i hk
     exact ⟨⟨by omega,by omega,by omega⟩,by omega,fun _=>hz _ (by omega),by omega,by omega,by omega,by omega,by omega⟩
    ·split at har
     ·cases har;rename_i hk1 hk
      exact ⟨⟨by omega,by omega,by omega⟩,by omega,by omega,by omega,by omega,by omega,by omega,by omega⟩
     ·split at har
      ·cases har;rename_i hk1 hk2 hk
       exact ⟨⟨by omega,by omega,by omega⟩,by omega,by omega,by omega,by omega,by omega,by omega,by omega⟩
      ·split at har
       ·cases har;rename_i hk1 hk2 hk3 hk
        exact ⟨⟨by omega,by omega,by omega⟩,by omega,by omega,by omega,by omega,by omega,by omega,by omega⟩
       ·split at har
        ·cases har;rename_i hk1 hk2 hk3 hk4 hk
         exact ⟨⟨by omega,by omega,by omega⟩,by omega,by omega,by omega,by omega,fun _=>hz _ (by omega),by omega,by omega⟩
        ·cases har
theorem mF {α:Type} {p:α->Bool}:∀ {l:List α},(l.filter p).length=1->∃ (i:Nat) (x:α),l[i]?=some x/\p x=true/\∀ (j:Nat) (y:α),l[j]?=some y->p y=true->j=i
 | [],h=>by simp at h
 | a::l,h=>by
  by_cases ha:p a=true
  ·rw [List.filter_cons_of_pos ha] at h;have h0:l.filter p=[]:=xB (by simpa using h);refine ⟨0,a,rfl,ha,fun j y hy hp=>?_⟩;cases j with
   | zero=>rfl
   | succ j =>
    have hm:y∈l.filter p:=List.mem_filter.2 ⟨xz (by assumption),hp⟩;grind
  ·rw [List.filter_cons_of_neg ha] at h;obtain ⟨i,x,h1,h2,h3⟩:=mF h;refine ⟨i+1,x,by grind,h2,fun j y hy hp=>?_⟩;grind
theorem nb {n:Net} (h:(netR n).2=0):RightN n:=by
 obtain ⟨l,o,hlk,hl,ho,_⟩:=oK h;have hord:=uB ho;have hg:∀ i,i<n.Nodes.length->n.Nodes[i]?=some (ap n i):=fun i hi=>ke hi
 have he:=fun i hi=>r5 (hl.err i _ (hg i hi))
 obtain ⟨s,xs,hs,hs8,hsu⟩:=mF hl.sink;have hsl:=(xy.1 hs).1;have hsx:ap n s=xs:=by grind
 refine ⟨hl.n1,hl.n2,hl.r1,hl.r2,hl.m1,hl.m2,fun i hi=>(he i hi).1,fun i hi=>(he i hi).2.1,fun i hi=>(he i hi).2.2.1,fun i hi=>(he i hi).2.2.2.1,fun i hi=>(he i hi).2.2.2.2.1,fun i hi=>(he i hi).2.2.2.2.2.1,fun i hi=>(he i hi).2.2.2.2.2.2.1,fun i hi=>(he i hi).2.2.2.2.2.2.2,
  fun i hi r hr=>⟨(hl.inn i _ (hg i hi) r hr).1,(hl.inn i _ (hg i hi) r hr).2.1⟩,fun i hi r hr=>⟨(hl.out i _ (hg i hi) r hr).1,(hl.out i _ (hg i hi) r hr).2.1⟩,fun i hi=>hl.ndI i _ (hg i hi),fun i hi=>hl.ndO i _ (hg i hi),
  fun i j r hi hj h1 h2=>?_,fun i j r hi hj h1 h2=>?_,fun r hr=>?_,fun r hr=>?_,⟨s,hsl,by grind⟩,fun i j hi hj h1 h2=>?_,?_⟩
 ·obtain ⟨_,_,e,e1,e2⟩:=hl.inn i _ (hg i hi) r h1;obtain ⟨_,_,e',e3,e4⟩:=hl.inn j _ (hg j hj) r h2;grind
 ·obtain ⟨_,_,e,e1,e2⟩:=hl.out i _ (hg i hi) r h1;obtain ⟨_,_,e',e3,e4⟩:=hl.out j _ (hg j hj) r h2;grind
 ·have hlt:r<l.length:=by have:=hl.len;omega
  obtain ⟨i,x,h1,_,h3⟩:=hl.dst r _ (xx hlt);grind
 ·have hlt:r<l.length:=by have:=hl.len;omega
  obtain ⟨i,x,h1,_,h3⟩:=hl.src r _ (xx hlt);grind
 ·grind
 ·have hmem:∀ i,i<n.Nodes.length->i∈o:=fun i hi=>ul hord.nd hord.lt hord.len hi
  have hidx:∀ i,i<n.Nodes.length->o[o.idxOf i]?=some i:=fun i hi=>by grind
  refine ⟨fun i=>o.idxOf i,fun i hi=>?_,fun i j hi hj e=>?_,fun i j r hi hj h1 h2=>?_⟩
  ·show o.idxOf i<_;rw [<- hord.len];grind
  ·grind
  ·obtain ⟨_,_,e,e1,e2⟩:=hl.out i _ (hg i hi) r h1;have h3:=hord.fed _ j _ r e (hidx j hj) (hg j hj) h2 e1;rw [e2,yT] at h3;show o.idxOf i<o.idxOf j;obtain ⟨q,hq⟩:=yI h3;rw [yk] at hq;split at hq
   ·rename_i hlt;have hq2:=hidx i hi;have:q=o.idxOf i:=by
     have hql:=(xy.1 hq).1;refine (List.getElem?_inj hql hord.nd).1 ?_;rw [hq,hq2]
    omega
   ·cases hq
section
open Go
theorem tk (a b:List Int) (ha:a.length<=1099511627776) (hl:a.length=b.length):dm a b=some (decide (a=b)):=by
 unfold dm;rw [if_neg (by simp;omega)];exact jY a b ha hl (fun k x y h1 h2 h3 h4=>by
  unfold eG;rw [h1,h2,h3,h4];by_cases h:x=y<;>simp [h]) (fun h=>by
  unfold eG;rw [h];simp)
theorem mK (a:List Int) (ha:a.length<=1099511627776):dm a a=some true:=by rw [tk a a ha rfl];simp
theorem sY {x:Node} (h1:x.In.length<=1099511627776) (h2:x.Out.length<=1099511627776):eH x x=some true:=by unfold eH;rw [if_pos (by simp),if_pos (by simp),mK x.In h1,mK x.Out h2];simp
theorem lS {n:Net} (hl:n.Nodes.length<=1000) (hio:∀ x∈n.Nodes,x.In.length<=1099511627776/\x.Out.length<=1099511627776):∀ (m k:Nat),k+m=n.Nodes.length->iter (fun ss:Int=>cc n.Nodes n.Nodes ss) (k:Int)=some true
 | 0,k,h=>by
  rw [am];have e:cc n.Nodes n.Nodes (k:Int)=some (.inr true):=by unfold cc;rw [if_neg (by simp;omega)];rfl
  simp only [e]
 | m+1,k,h=>by
  have hlt:k<n.Nodes.length:=by omega
  have hx:n.Nodes[k]?=some n.Nodes[k]:=xx hlt;have hio':=hio n.Nodes[k] (xV hlt);generalize n.Nodes[k]=x at hx hio';rw [am];have e:cc n.Nodes n.Nodes (k:Int)=some (.inl ((k+1:Nat):Int)):=by unfold cc;rw [if_pos (by simp;omega),bc hx,xw,xw,sY hio'.1 hio'.2,xw,if_neg (by simp),bv (by omega)]
  simp only [e];exact lS hl hio m (k+1) (by omega)
theorem t1 {n:Net} (hl:n.Nodes.length<=1000) (hio:∀ x∈n.Nodes,x.In.length<=1099511627776/\x.Out.length<=1099511627776):dl n n=some true:=by unfold dl;rw [if_pos (by simp),if_pos (by simp)];unfold fe;rw [if_neg (by simp)];have:=lS hl hio n.Nodes.length 0 (by omega);rw [yU] at this;rw [this];rfl
theorem a3_of {x:Node} (h:dz x=0):x.A<=3:=by
 unfold dz at h;split at h
 ·exact absurd h (by decide)
 ·split at h
  ·exact absurd h (by decide)
  ·split at h
   ·exact absurd h (by decide)
   ·rename_i hb;unfold badA at hb;simp only [decide_eq_true_eq,not_or,not_and] at hb;omega
theorem iC {l:List Int} {R:Int} (hd:l.Nodup) (h:∀ r,r∈l->0<=r/\r<R) (hR:0<=R):(l.length:Int)<=R:=by
 have h1:(l.map Int.toNat).Nodup:=List.pairwise_map.2 (List.Pairwise.imp_of_mem (fun {a b} ha hb hne e=>hne (by have:=h a ha;have:=h b hb;omega)) hd);have:=jT R.toNat (l.map Int.toNat) h1 (fun x hx=>by obtain ⟨a,ha,rfl⟩:=xU.1 hx;have:=h a ha;omega)
 simp at this;omega
theorem tn_of {n:Net} (h:(netR n).2=0):TN n:=by have R:=nb h;obtain ⟨l,o,hlk,hl,ho,_⟩:=oK h;have r1:=R.r1;have r2:=R.r2;have m1:=R.m1;have m2:=R.m2;refine ⟨R.n2,⟨r1,by omega⟩,⟨by omega,by omega⟩,fun x hx=>?_⟩;obtain ⟨i,hi⟩:=yI hx;have hlt:=(xy.1 hi).1;have hg:=ke hlt;rw [hi] at hg;cases hg;have hk:=R.kind i hlt;have ha:=a3_of (hl.err i _ hi);have l1:=iC (R.ndI i hlt) (R.inR i hlt) r1;have l2:=iC (R.ndO i hlt) (R.outR i hlt) r1;exact ⟨⟨hk.1,hk.2.1⟩,⟨R.a0 i hlt,by omega⟩,⟨by omega,fun r hr=>by have:=R.inR i hlt r hr;omega⟩,⟨by omega,fun r hr=>by have:=R.outR i hlt r hr;omega⟩⟩
theorem n8:∀ x∈meetT.Nodes,x.In.length<=1099511627776/\x.Out.length<=1099511627776:=by decide
theorem mN:fk=some true:=uY (by rw [lV meetT n8];decide +kernel) (t1 (by decide) n8)
end
section
open Go
theorem sm {k:Int} (h:1<=k/\k<=7):mget (bY k) cL=some k:=by rcases kM h with rfl | rfl | rfl | rfl | rfl | rfl | rfl<;>decide
theorem uV {k:Int} (h:1<=k/\k<=7):bY k≠[]:=by rcases kM h with rfl | rfl | rfl | rfl | rfl | rfl | rfl<;>decide
section
variable {l:List Happening} (hK:∀ x,x∈l→e6 x) (hN:∀ x,x∈l→Int64 x.N) (hl:l.length≤60)
include hK hN hl
theorem nV:∀ m k:Nat,k+m=l.length->iter (fun cP:Int × (List Happening)=>dR (l.map an) cP.1 cP.2) ((k:Int),l.take k)=some (l,0,0)
 | 0,k,h=>by
  rw [xR (by omega),am];have e:dR (l.map an) (k:Int) l=some (.inr (l,0,0)):=by unfold dR;rw [if_neg (by simp;omega),if_neg (by simp;omega)];rfl
  simp only [e]
 | m + 1,k,h=>by
  have hlt:k<l.length:=by omega
  have hx:l[k]?=some l[k]:=xx hlt;have hm:l[k]∈l:=xV hlt;have htk:=takeS hx;generalize l[k]=x at hx hm htk;have hk:=hK x hm;have hn:=hN x hm;have hw:=kJ hn;have hv:=sm hk;have hw':(l.map an)[k]?=some (an x):=by rw [xL,hx];rfl
  have hk1:dQ (k:Int) (l.take k) cL (bY x.Kind) true x.N=some (.inl (((k+1:Nat):Int),l.take (k+1))):=by unfold dQ;rw [if_neg (by simp),hv,yw,eZ (by simp;omega),xw,bv (by omega),htk]
  have hix:je (an x) [45,48,49,50,51,52,53,54,55,56,57]=some (if x.N=0 then -1 else ((bY x.Kind).length:Int)):=by unfold je gP;rw [if_pos ⟨by omega,by decide,rM x,by decide⟩];exact congrArg some (uC x)
  rw [am];have e:dR (l.map an) (k:Int) (l.take k)=some (.inl (((k+1:Nat):Int),l.take (k+1))):=by
   unfold dR;rw [if_pos (by simp;omega),bc hw',xw,hix,xw];by_cases h0:x.N=0
   ·have hW:an x=bY x.Kind:=by unfold an;rw [if_pos h0,yE]
    rw [if_pos h0,if_pos (by decide),hW];unfold eI;rw [show jl=some cL from rfl,xw,sub_0 (xD _),xw,List.take_length,if_neg (by simp),hv,<- h0];exact hk1
   ·have hW:an x=bY x.Kind++Go.Lib.itoa x.N:=by unfold an;rw [if_neg h0]
    have hI:Go.Lib.itoa x.N≠[]:=by obtain ⟨c,r,e,_⟩:=mA x.N;rw [e];simp
    have hI':0<(Go.Lib.itoa x.N).length:=List.length_pos_iff.2 hI;rw [if_neg h0,if_neg (by simp),hW];unfold eI;rw [show jl=some cL from rfl,xw,sub_0 (by simp),xw,List.take_left,if_pos (by rw [hv];simp;omega),uM (by simp),xw,List.drop_left,
     show atoiW (Go.Lib.itoa x.N)=some x.N from sk hn,xw,if_pos (by simpa using h0),mP hn,xw,xw,show (Go.Lib.itoa x.N==Go.Lib.itoa x.N)=true from beq_self_eq_true _]
    exact hk1
  simp only [e];exact nV m (k+1) (by omega)
theorem qX (h4:(Go.Lib.join (l.map an) [32]).length<=4000):gh (Go.Lib.join (l.map an) [32])=some (l,0,0):=by
 unfold gh;rw [if_neg (by simp;omega)];by_cases h0:l=[]
 ·subst h0;rw [if_pos (by decide)]
 ·have hne:Go.Lib.join (l.map an) [32]≠[]:=by
   intro e;have hc:=l0 h0;rw [e] at hc;cases hl':l with
   | nil=>exact h0 hl'
   | cons y r =>
    rw [hl'] at hc;have hy:=uV (hK y (by rw [hl'];exact xC));have:an y=[]:=by
     have h1:aO 32 []=[[]]:=by decide
     rw [h1] at hc;simp at hc;exact hc.1
    unfold an at this;exact hy (List.append_eq_nil_iff.1 this).1
  rw [if_neg (by simpa using hne),iO (by omega),xw,l0 h0];exact nV hK hN hl l.length 0 (by omega)
end
theorem eqHap (l:List Happening) (h:l.length<=1099511627776):f8 l l=some true:=by
 unfold f8;rw [if_neg (by simp)];rw [jY l l h rfl (fun k x y h0 hx hy hw=>by
  cases hx.symm.trans hy;unfold f7;rw [if_pos h0,hx,xw,xw,hw];rw [if_neg (by simp),if_pos rfl]) (fun h0=>by
  unfold f7;rw [if_neg (by rw [h0];decide)];rfl)]
 simp
theorem uP {l:List Happening} (hN:∀ x,x∈l->Int64 x.N) (hl:l.length<=1099511627776):fh l=some true:=by
 unfold fh;rw [r6 hN hl,xw];by_cases h6:l.length > 60
 ·rw [if_pos h6,if_pos (by simp)]
 ·rw [if_neg h6];unfold fK;by_cases hK:∀ x,x∈l->e6 x
  ·rw [if_pos hK];by_cases h4:(Go.Lib.join (l.map an) [32]).length > 4000
   ·rw [if_pos (by simp;omega)]
   ·rw [if_neg (by simp;omega),qX hK hN (by omega) (by omega),xw,eqHap l hl];rfl
  ·rw [if_neg hK,if_pos (by simp)]
theorem vh {n:Net} (h:(netR n).2=0):TN16 n:=by intro x hx;have R:=nb h;have r1:=R.r1;have r2:=R.r2;obtain ⟨i,hi⟩:=yI hx;have hlt:=(xy.1 hi).1;have hg:=ke hlt;rw [hi] at hg;cases hg;have l1:=iC (R.ndI i hlt) (R.inR i hlt) r1;have l2:=iC (R.ndO i hlt) (R.outR i hlt) r1;exact ⟨by omega,by omega⟩
theorem qE (n:Net) (script:List Happening) (gn:gNet n) (gs:gL jZ script) (hb:mNet n+(mL gm script+0)<=1048576):im n script=some true:=by
 have hio:=vY (show mNet n<=1048576 by omega);have hc:=lV n hio;have hsl:script.length<=1048576:=by have:=js (m:=gm) (fun _=>(by decide:1<=2)) script;omega
 have hk:=uP (l:=script) (fun x hx=>(gs x hx).2) (by omega);unfold im;by_cases h0:(netR n).2=0
 ·have t:=tn_of h0;rw [h0] at hc;rw [nq t hc,xw,mN,xw,if_neg (by decide),if_pos (by simp),rH t (vh h0) hc,xw,if_neg (by simp),if_neg (by simp),rB t,xw,xw,if_neg (by decide)];exact hk
 ·have hp:d7 n=some ([],(netR n).2):=by
   unfold d7;rw [hc,xw,if_pos (by simpa using h0)]
  rw [hp,xw,mN,xw,if_neg (by decide),if_neg (by simpa using h0)];exact hk
end
end Go.Proofs.YtbfncjgaklimlaaDoor
namespace Go.Proofs.YtbfncjgaklimlaaDoor.taleBackLaw
open Go.ChangeShapes Go.WideShapes Go.ChangeAt Go.RowKit
theorem own:ownKnob Tryd.prog.godebug=none:=by kernel_rfl
theorem laid:laidOutB Tryd.prog=true:=by kernel_rfl
theorem ok:(Tryd.f3.params.toList.all fun t=>Tryd.prog.readableRec t && decide (t<Tryd.prog.types.size))=true:=by kernel_rfl
theorem gd_of {W:World} (h:laidMet Tryd.prog Rows.taleBackUptoRow.laid W):Gd W fun b=>b<W.heap.size:=fun g hg=>by
 obtain rfl:g=3:=by simpa [gvs] using hg
 have hn:Tryd.prog.globalNamed "internal/strconv.uint64pow10" = some 3:=by kernel_rfl
 have ht:=Go.Lib.tabIs_of_head (k:=.u64) (zs:=Go.Lib.pow10Tab) (t:=139) (e:=122) (n:=20) hn (by kernel_rfl) (by kernel_rfl) (by kernel_rfl) (by kernel_rfl) (by kernel_rfl) h.tail.tail;unfold Go.Lib.TabIs World.var? at ht;rw [hn] at ht;simp only [xw] at ht;split at ht
 ·rename_i cs t fz ho;cases ht;exact ⟨(xZ.1 ho).1,_,ho,_,_,_,rfl,fun _=>rfl⟩
 ·cases ht
set_option maxRecDepth 100000 in
theorem contract (H:Type) (enc:TypeId × Value->H) (W:World) (base:Nat) (args:Array Value) (ds gs:List (DataW H)) (before:List MemPlace)
  (hval:∀ (j:Nat) t v,Tryd.f3.params[j]?=some t->args[j]?=some v->Value.okWide Tryd.prog W .any base t v)
  (hW:DataW.Whole enc Tryd.prog Tryd.f3.params.toList Rows.taleBackSpec.vars false W args.toList ds gs before) (hk:Rows.uptoSmall H (ds++gs)=true) (hG:Gd W fun b=>b<W.heap.size) :
  Calls Tryd.prog 3 args W fun e W'=>∃ v,e=.returned v/\Rows.taleBackSpec.post enc Tryd.prog Tryd.f3 false true false false W args v W':=by
 have hW':=hW
 obtain ⟨p,q,hA0,hV,rfl,hfz,hnd⟩:=hW
 have hA:DataW.TrodAll enc Tryd.prog W 0 (fun _=>true) true Tryd.f3.params.toList args.toList ds p:=hA0
 rw [Tryd.params3] at hA hval
 obtain ⟨v0,vs0,d0,ds0,p0,q0,hargs,rfl,rfl,h0,r0⟩:=trodAll_cons hA
 obtain ⟨v1,vs1,d1,ds1,p1,q1,rfl,rfl,rfl,h1,r1⟩:=trodAll_cons r0
 obtain ⟨rfl,rfl,rfl⟩:=trodAll_nil r1
 obtain rfl:args=#[v0,v1]:=by cases args;simp_all
 obtain ⟨rfl,rfl⟩:=trodVars_none hV
 obtain ⟨x0,a0,g0,m0⟩:=Opn.args on24 Tryd.underlying24 (hval 0 _ v0 rfl rfl) h0
 obtain ⟨x1,a1,g1,m1⟩:=Opn.arg on25 (by rw [Tryd.underlying25]) (hval 1 _ v1 rfl rfl) h1
 have hb:Rows.uptoBulkAll ([d0,d1]:List (DataW H))<=1048576:=of_decide_eq_true hk
 simp only [Rows.uptoBulkAll] at hb
 refine tU laid Tryd.underlying4 (by kernel_rfl) ok rfl rfl rfl rfl hW' (av:=[_,_]) (.cons a0 (.cons a1 (.nil))) (qm (qE x0 x1 g0 g1 (by omega))) hG
set_option maxRecDepth 100000 in
def flatV:Nat->DataW Unit->List Value
 | _,.lit (.int k x)=>[.int k x]
 | f+1,.agg l=>(l.map (flatV f)).flatten
 | _,_=>[]
def putC (d:DataW Unit):Go.Obj->Go.Obj
 | .cells c t frozen=>.cells (match d with | .agg l=>(flatV 4 (.agg l)).toArray | _=>c) t frozen
 | o=>o
def putI (ty:TypeId) (b:Nat):Go.Obj->Go.Obj
 | .cells _ t frozen=>.cells #[.iface ty (.pointer (some ⟨b,0,none⟩))] t frozen
 | o=>o
def strOf:DataW Unit->List UInt8
 | .iface _ (.ptr (.agg [.lit (.string b)]))=>b
 | _=>[]
def datum (x:String):DataW Unit:=((Rows.taleBackUptoRow.laid.find? fun p=>p.1==x).map (·.2)).getD .nil
noncomputable def laidWorld (os:Os):World :=
 { World.holding Tryd.prog os ⟨#[],#[],[]⟩ with heap:=(((((((((((World.holding Tryd.prog os ⟨#[],#[],[]⟩).heap.modify 0 (putC (datum "internal/bytealg.MaxLen"))).modify 1 (putI 145 ((World.holding Tryd.prog os ⟨#[],#[],[]⟩).heap.size+0))).modify 2 (putI 145 ((World.holding Tryd.prog os ⟨#[],#[],[]⟩).heap.size+1))).modify 3 (putC (datum "internal/strconv.uint64pow10"))).modify 4 (putC (datum "unicode/utf8.first"))).modify 5 (putC (datum "unicode/utf8.acceptRanges"))).modify 6 (putC (datum "math/bits.deBruijn32tab"))).modify 7 (putC (datum "math/bits.deBruijn64tab"))).push (.cells #[.string ⟨(strOf (datum "strconv.ErrSyntax")).toArray⟩] 147 (0,0))).push (.cells #[.string ⟨(strOf (datum "strconv.ErrRange")).toArray⟩] 147 (0,0))) }
theorem laid_met (os:Os):laidMet Tryd.prog Rows.taleBackUptoRow.laid ((laidWorld os).forCall (fun _ _=>0) ⟨#[],#[.agg #[.slice none 0 0,.int .i64 0,.int .i64 0],.slice none 0 0],[]⟩).memory :=
 laidMet_of_run' 8 (by kernel_rfl) (by kernel_rfl)
theorem reads (os:Os) {H:Type} (enc:TypeId × Value->H):∃ places,DataW.whole enc Tryd.prog ((laidWorld os).forCall (fun _ _=>0) ⟨#[],#[.agg #[.slice none 0 0,.int .i64 0,.int .i64 0],.slice none 0 0],[]⟩).memory Tryd.f3.params.toList Rows.taleBackSpec.vars false #[.agg #[.slice none 0 0,.int .i64 0,.int .i64 0],.slice none 0 0].toList 8=some ([.agg [.nil,.lit (.int .i64 0),.lit (.int .i64 0)],.nil],[],places) :=
 ⟨[],by kernel_rfl⟩
set_option maxRecDepth 100000 in
theorem lifted (os:Os) (started:os.Started) (H:Type) (enc:TypeId × Value->H) (F:Stop.Interp) :
  ReturnsInHanded {} Tryd.checked os 3 .any ((Rows.OpenSpec.upto Rows.taleBackSpec).preRow enc Tryd.prog Tryd.f3 Rows.taleBackUptoRow.domain false Rows.taleBackUptoRow.laid) (((Rows.OpenSpec.upto Rows.taleBackSpec).at F).post enc Tryd.prog Tryd.f3 false true false false):=by
 obtain ⟨places,hx⟩:=reads os enc
 refine returnsInHanded_of_row (C:=Tryd.checked) (s:=Rows.OpenSpec.upto Rows.taleBackSpec) own started (by kernel_rfl) Tryd.func3
  (witness_row_at (enc:=enc) (C:=Tryd.checked) false (laidWorld os) #[.agg #[.slice none 0 0,.int .i64 0,.int .i64 0],.slice none 0 0] rfl (by kernel_rfl) (by kernel_rfl) (by kernel_rfl)
   (OpenSpec.preRow_of_cond 8 hx (by kernel_rfl) (fun k hk=>by cases hk;kernel_rfl) (by kernel_rfl) (laid_met os))) ?_
 intro W base args ds gs before hval hW _ hk _ hL _ _
 exact contract H enc W base args ds gs before hval hW (hk _ rfl) (gd_of hL)
theorem said:Rows.TaleBackUptoSaid :=
 OpenClaim.holds_of_cond 3 Tryd.f3 rfl rfl rfl rfl rfl rfl rfl ⟨rfl,rfl,rfl,rfl,rfl⟩ rfl rfl rfl rfl rfl (by kernel_rfl) Tryd.func3 (by kernel_rfl)
  (of_decide_eq_true (by kernel_rfl)) (by unfold Func.isWrapper;first | (rw [if_pos (by decide +kernel)];kernel_rfl) | (rw [if_neg (by decide +kernel)];exact ⟨rfl,rfl⟩))
  (fun os started H enc _ F=>by rw [OpenClaim.pre_eq_preRow];exact lifted os started H enc F)
theorem plain (f:FuncId) (fn:Func) (hf:Tryd.pinned.checked.prog.funcNamed "crossroads/crosslaw.TaleBack" = some f) (hfn:Tryd.pinned.checked.prog.funcs[f]?=some fn) :
  true=Tryd.pinned.checked.prog.looks []/\∀ (j:Nat) t,fn.params[j]?=some t->Tryd.pinned.checked.prog.wantsStandIn t=false:=by
 obtain rfl:f=3:=xA ((show Tryd.prog.funcNamed "crossroads/crosslaw.TaleBack" = some 3 by kernel_rfl).symm.trans hf) |>.symm
 obtain rfl:fn=Tryd.f3:=(xA (Tryd.func3.symm.trans hfn)).symm
 refine ⟨by kernel_rfl,fun j t ht=>?_⟩
 have h:(Tryd.f3.params.toList.all fun t=>!Tryd.prog.wantsStandIn t)=true:=by kernel_rfl
 have h:=ye.1 h t (by simpa using Array.mem_of_getElem? ht)
 exact (show Tryd.prog.wantsStandIn t=false by simpa using h)
theorem proved:Rows.TaleBackUptoCardSaid :=
 Claim7.holds_tied_plain_at .later [] _ _ _ _ said (fun _ h=>by cases h) (by kernel_rfl) (fun _ h=>by cases h) taleBackUpto_row_tie rfl ⟨rfl,rfl⟩ (by kernel_rfl) rfl plain (by kernel_rfl)
#print axioms proved
end Go.Proofs.YtbfncjgaklimlaaDoor.taleBackLaw
