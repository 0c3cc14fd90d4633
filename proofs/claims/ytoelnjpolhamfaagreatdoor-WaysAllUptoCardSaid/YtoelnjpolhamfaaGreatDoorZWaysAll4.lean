/-
  Part 4 of the proof of waysAllLaw.proved: the code computes these functions, and the law holds of them, with no condition beyond the statement's own; put together by a program of ours (wip/decl.py) out of texts of ours.
-/
import Derived.Shelf.SlSortCmp.NoneTotal
import Derived.Deep.QuietTactic
import Derived.Sort.LotA
import Derived.IntWalk
import Derived.Shelf.GgSortFunc.SmallK
import Derived.Shelf.GgSortFunc.Tiny
import Derived.Test.YtoelnjpolhamfaaGreatDoorZWaysAll3
set_option linter.unusedVariables false
set_option linter.unusedSimpArgs false
namespace Go.Proofs.YtoelnjpolhamfaaGreatDoor
section
open Go.RowKit
set_option maxRecDepth 100000
set_option maxHeartbeats 4000000
set_option synthInstance.maxSize 100000
set_option synthInstance.maxHeartbeats 4000000
theorem ow {p0:Net} {p1:List (List Item)} {p2:State} {p3:Move} {r:Item × Bool} (h:jK p0 p1 p2 p3=some r):Fn Tryz.prog 84 [.agg (au p0),sL (ae aa) p1,.agg (aH p2),.agg (aD p3)] (.tup [.agg (aa r.1),.bool r.2]):=by
 unfold jK at h;refine fT 0 0 Tryz.func84 Tryz.ntmps84 rfl ?_;refine B h fun x2 hx2 h=>(X 14 0 (sQ (ao Ty.s22 (fun _=>rfl) rfl rfl hx2 (Y 11 4 (T.ci h rfl (fun hb_1 h=>?_) (fun hb_1 h=>?_))))))
 ·refine B h fun x5 hx5 h=>(B h fun x6 hx6 h=>(X 2 5 (T.drawn mixed (k:=13) rfl (rq [0,2,6,7] 9 (rL [8,9,10,11,12] 8 rfl (r0 9 rfl (ao Ty.s25 (fun _=>rfl) rfl rfl hx6 (rL [10,11,12] 10 rfl (r0 11 rfl (aj Ty.s26 rfl (rL [1,4,5,12] 1 rfl ?_)))))))))))
  refine ra1 3 (og 5 ⟨rfl,(r0 4 rfl (ao Ty.s49 (fun _=>rfl) rfl rfl hx5 (ra1 5 (og 5 ⟨rfl,(rq [12] 0 (RA.done (by decide +kernel) (T.ci h rfl (fun hb_2 h=>?_) (fun hb_2 h=>?_))))⟩))))⟩)
  ·refine X 6 5 ?_;cases h;exact tD
  refine B h fun x10 hx10 h=>(B h fun x11 hx11 h=>(B h fun x12 hx12 h=>(X 2 5 (T.drawn mixed (k:=15) rfl (rq [0,1,5,7] 11 (rL [2,3,4,11,12,13,14] 2 rfl (r0 3 rfl (ao Ty.s25 (fun _=>rfl) rfl rfl hx10 (rL [4,11,12,13,14] 4 rfl (rL [6,9,10,11,12,13,14] 6 rfl ?_))))))))))
  refine ra1 8 (og 5 ⟨rfl,(r0 9 rfl (ao Ty.s49 (fun _=>rfl) rfl rfl hx11 (ra1 10 (og 5 ⟨rfl,(r0 11 rfl (ao Ty.s26 (fun _=>rfl) rfl rfl hx12 (ra1 12 (og 5 ⟨rfl,(ra1 13 (og 5 ⟨rfl,?_⟩))⟩))))⟩))))⟩);refine rq [14] 0 (RA.done (by decide +kernel) ?_);cases h;exact tD
 refine B h fun x15 hx15 h=>(B h fun x16 hx16 h=>(X 2 5 (T.drawn mixed (k:=11) rfl (rq [0,2,4] 8 (rL [1,8,9,10] 1 rfl (rL [3,6,7,8,9,10] 3 rfl (ra1 5 (og 5 ⟨rfl,(r0 6 rfl (ao Ty.s49 (fun _=>rfl) rfl rfl hx15 ?_))⟩))))))))
 refine ra1 7 (og 5 ⟨rfl,(r0 8 rfl (ao Ty.s25 (fun _=>rfl) rfl rfl hx16 (ra1 9 (og 5 ⟨rfl,(rq [10] 0 (RA.done (by decide +kernel) (X 4 5 (sQ (aj Ty.s26 rfl (Y 2 5 ?_))))))⟩))))⟩);refine T.ci h rfl (fun hb_3 h=>?_) (fun hb_3 h=>?_)
 ·refine X 6 5 ?_;cases h;exact tD
 refine B h fun x18 hx18 h=>(X 4 5 (sQ (ao Ty.s26 (fun _=>rfl) rfl rfl hx18 (Y 4 5 ?_))))
 cases h;exact tD
theorem xW {p0:Item} {p1:Int} {r:Int × Int} (h:kZ p0 p1=some r):Fn Tryz.prog 111 [.agg (aa p0),iI p1] (.tup [iI r.1,iI r.2]):=by
 unfold kZ at h;refine fT 0 7 Tryz.func111 Tryz.ntmps111 rfl (j1 [(1,iI p1),(2,.ptr 0 0),(11,.bool ((decide (p1<1)) || decide (p1 > 16)))] [.box (aa p0)] ?_ (fun hK=>?_))
 ·refine T.ci h rfl (fun hb_2 h=>?_) (fun hb_2 h=>?_)
  ·refine X 5 1 ?_;cases h;exact tD
  refine B h fun x4 hx4 h=>(B h fun x5 hx5 h=>(X 6 1 (sQ (v_rem rfl rfl hx4 (Y 3 1 (sQ (v_rem rfl rfl hx5 (Y 3 1 ?_))))))))
  cases h;exact tD
 refine X 5 1 (gp 8 (fun hb_1=>?_) (fun hb_1=>?_))
 ·refine Yp 4 1 ?_;rw [hb_1] at hK;exact sx hK
 refine Yp 4 1 ?_;rw [hb_1] at hK;exact sx hK
theorem qT {p0:Node} {p1:Item} {r:List Int} (h:jF p0 p1=some r):Fn Tryz.prog 86 [.agg (ai p0),.agg (aa p1)] (sL ah r):=by
 unfold jF at h;refine fT 0 13 Tryz.func86 Tryz.ntmps86 rfl (T.ci h rfl (fun hb_1 h=>?_) (fun hb_1 h=>?_))
 ·refine X 6 2 ?_;cases h;exact tD
 refine B h fun x2 hx2 h=>(X 6 2 (sQ (aj Ty.s49 rfl (sO (cF (xW hx2) ⟨rfl,(B h fun x4 hx4 h=>(Y 13 2 (sO (yT Ty.s49 (fun _=>rfl) rfl rfl rfl hx4 (Y 2 2 ?_)))))⟩)))))
 cases h;exact tD
theorem xe {p0:Int} {p1:List Int} {p2:List (List Item)} {p3:List Memory} {p4:List Choice} {p5:List Item} {p6:List Node} {p7 p8:Int} {r:Bool} (h:mj p0 p1 p2 p3 p4 p5 p6 p7 p8=some r):FnX Tryz.prog 110 [iI p0,.ptr 0 0,.ptr 1 0] [.box [sL ah p1,sL (ae aa) p2,sL am p3,sL aF p4,sL aa p5],.box [sL ai p6,iI p7,iI p8]] (.bool r) [.box [sL ah p1,sL (ae aa) p2,sL am p3,sL aF p4,sL aa p5],.box [sL ai p6,iI p7,iI p8]]:=by
 unfold mj at h;refine fT 2 0 Tryz.func110 Tryz.ntmps110 rfl ?_;refine B h fun x2 hx2 h=>(X 5 2 (T.drawn mixed (k:=10) rfl (rq [0,2,6] 7 (rL [1,3,4,5,8,9] 1 rfl (r0 3 rfl (ao Ty.s25 (fun _=>rfl) rfl rfl hx2 (rL [4,5,8,9] 4 rfl (r0 5 rfl (aj Ty.s26 rfl (ra1 7 (og 2 ⟨rfl,?_⟩)))))))))))
 refine rq [8,9] 0 (RA.done (by decide +kernel) ?_);cases h;exact tN [0,1]
theorem wJ {p0 p1:List Int} {p2:List (List Item)} {p3:List Memory} {p4:List Choice} {p5:List Item} {p6:List Node} {p7 p8 r:Int} (h:l7 p0 p1 p2 p3 p4 p5 p6 p7 p8=some r):FnX Tryz.prog 129 [sL ah p0,.func 110 [.ptr 0 0,.ptr 1 0]] [.box [sL ah p1,sL (ae aa) p2,sL am p3,sL aF p4,sL aa p5],.box [sL ai p6,iI p7,iI p8]] (iI r) [.box [sL ah p1,sL (ae aa) p2,sL am p3,sL aF p4,sL aa p5],.box [sL ai p6,iI p7,iI p8]]:=by
 unfold l7 at h;refine fT 2 8 Tryz.func129 Tryz.ntmps129 rfl (sQ (aj Ty.s49 rfl (Y 3 2 (itr (fun ss_5:Int=>mkA 19 [(0,sL ah p0),(1,.func 110 [.ptr 0 0,.ptr 1 0]),(7,iI ((p0).length:Int)),(8,iI ss_5)]) (fun ss_5=>[.box [sL ah p1,sL (ae aa) p2,sL am p3,sL aF p4,sL aa p5],.box [sL ai p6,iI p7,iI p8]]) h (wk [] [0,1] 2 rfl) (fun ss_5 v_6 h hv_6=>?_)))));revert hv_6 h;revert ss_5;intro s1 h hv_6;replace h:ko p0 p1 p2 p3 p4 p5 p6 p7 p8 s1=some v_6:=h;try dsimp only
 unfold ko at h;refine X 5 2 (T.ci h rfl (fun hb_7 h=>?_) (fun hb_7 h=>?_))
 ·refine B h fun x4 hx4 h=>(B h fun x5 hx5 h=>(X 13 2 (sQ (ao Ty.s49 (fun _=>rfl) rfl rfl hx4 (Y 1 2 (sO (cG [0,1] 2 2 (xe hx5) ⟨rfl,(Y 1 2 (T.ci h rfl (fun hb_8 h=>?_) (fun hb_8 h=>?_)))⟩)))))))
  ·refine X 5 2 ?_;replace h:=mi h hv_6;cases h;exact tN [0,1]
  exact X 5 2 (lk h (wk [] [0,1] 2 rfl))
 refine X 1 2 ?_;replace h:=mi h hv_6;refine X 4 2 ?_;cases h;exact tN [0,1]
theorem wD {p0 p1:List Int} {p2:List (List Item)} {p3:List Memory} {p4:List Choice} {p5:List Item} {p6:List Node} {p7 p8:Int} {r:Bool} (h:kp p0 p1 p2 p3 p4 p5 p6 p7 p8=some r):FnX Tryz.prog 109 [sL ah p0,.func 110 [.ptr 0 0,.ptr 1 0]] [.box [sL ah p1,sL (ae aa) p2,sL am p3,sL aF p4,sL aa p5],.box [sL ai p6,iI p7,iI p8]] (.bool r) [.box [sL ah p1,sL (ae aa) p2,sL am p3,sL aF p4,sL aa p5],.box [sL ai p6,iI p7,iI p8]]:=by
 unfold kp at h;refine fT 2 0 Tryz.func109 Tryz.ntmps109 rfl ?_;refine B h fun x2 hx2 h=>(X 8 2 (sO (cG [0,1] 2 2 (wJ hx2) ⟨rfl,(Y 3 2 ?_)⟩)))
 cases h;exact tN [0,1]
theorem qi {p0 r:List Keyed} (h:f0 p0=some r):FnO Tryz.prog 104 [.sl (List.map aq p0)] (.ref 0) [.arr 161 2 (List.map aq r)]:=by
 have hr:p0=r:=by
  unfold f0 app at h;split at h
  ·simpa using h
  ·cases h
 refine gR (N:=0) rfl Tryz.func104 rfl (by kernel_rfl) Tryz.ntmps104 rfl ?_;show T _ _ _ _ (mkA 8 [(0,.sl (List.map aq p0))]) [];refine T.seq ?_;refine T.region ?_;refine RS.op rfl (OP.q rfl (cg (v:=.nils) rfl ?_));refine RS.nil ?_;refine T.seq ?_;refine T.seq ?_;refine T.region ?_;refine RS.op rfl (OP.q rfl (c0 (v:=.sl (List.map aq p0)) rfl ?_));refine RS.op rfl (OP.q rfl (iF Ty.s120 rfl rfl (fun z hz=>?_)));refine RS.nil ?_;refine T.cond (b:=z) rfl (fun hb=>?_) (fun hb=>?_)
 ·refine T.seq ?_;refine T.region ?_;refine RS.op rfl (OP.q rfl (cg (v:=.nils) rfl ?_));refine RS.nil ?_;refine T.ret ?_;refine dg (v:=.nils) rfl ?_;refine dh ?_;have h0:p0=[]:=List.map_eq_nil_iff.1 (hz hb);exact di (.ref 0) [(0,161,2)] [0] (by decide) (bx _) rfl (bW rfl) (dc (en:=aq) (ys:=[]) rfl ig (by rw [<- hr,h0]) (bh)) ⟨rfl,rfl⟩
 ·refine T.skip ?_;refine T.seq ?_;refine T.region ?_;refine RS.op rfl (aM (rows:=List.map aq []) (vs:=[]) Ty.s120 Ty.z161 rfl rfl rfl rfl rfl (aw':=[.arr 161 2 (List.map aq [])]) rfl ?_);refine RS.op rfl (OP.q rfl (c0 (v:=.sl (List.map aq p0)) rfl ?_));refine RS.op rfl (bG (en:=aq) (xs:=([]:List Keyed)) (ys:=p0) (r:=r) Ty.s120 (fun _=>rfl) rfl rfl rfl h rfl (aw':=[.dead,.arr 161 2 (List.map aq r)]) rfl ?_);refine RS.op rfl (OP.q rfl (cg (v:=.ref 1) rfl ?_));refine RS.nil ?_;refine T.ret ?_;refine dg (v:=.ref 1) rfl ?_;refine dh ?_;exact di (.ref 0) [] [1] (by decide) (bx _) rfl (bW rfl) (dc rfl ig rfl (bh)) ⟨rfl,rfl⟩
theorem oq {p0 r:Memory} (h:fv p0=some r):FnO Tryz.prog 81 [.agg (am p0)] (.agg [iI r.Sum,.ref 0,iI r.Dep]) [aR 161 2 aq r.Keys]:=by
 unfold fv at h;refine fT 0 0 Tryz.func81 Tryz.ntmps81 rfl ?_;refine B h fun x2 hx2 h=>(X 9 0 (sO (cO 2 (qi hx2) ⟨rfl,(Y 8 3 ?_)⟩)))
 cases h;exact tO [] [2] 3
theorem xy {p0:Item} {r:Int} (h:od p0=some r):Fn Tryz.prog 130 [.agg (aa p0)] (iI r):=by
 unfold od at h;refine fT 0 12 Tryz.func130 Tryz.ntmps130 rfl ?_;cases h;exact tD
theorem xp {p0:Item} {r:Int} (h:ob p0=some r):Fn Tryz.prog 131 [.agg (aa p0)] (iI r):=by
 unfold ob at h;refine fT 0 12 Tryz.func131 Tryz.ntmps131 rfl ?_;cases h;exact tD
theorem xw {p0:Item} {r:Int} (h:oe p0=some r):Fn Tryz.prog 132 [.agg (aa p0)] (iI r):=by
 unfold oe at h;refine fT 0 12 Tryz.func132 Tryz.ntmps132 rfl ?_;cases h;exact tD
theorem xv {p0:Item} {r:Int} (h:oa p0=some r):Fn Tryz.prog 133 [.agg (aa p0)] (iI r):=by
 unfold oa at h;refine fT 0 14 Tryz.func133 Tryz.ntmps133 rfl ?_;cases h;exact tD
theorem qr {p0:Int} {p1 r:Item} (h:ol p0 p1=some r):Fn Tryz.prog 112 [iI p0,.agg (aa p1)] (.agg (aa r)):=by
 unfold ol at h;refine fT 0 7 Tryz.func112 Tryz.ntmps112 rfl (sQ (uC (cs:=[.func 130 [],.func 131 [],.func 132 [],.func 133 []]) Ty.z197 Ty.p197 rfl (Y 3 2 ?_)));obtain ⟨zt_4,hz,h⟩:=bind_some h;revert hz h;revert zt_4;intro c6 hz h;refine j1 [(3,.ptr 0 0),(4,.ptr 1 0)] [.box [iI p1.Key,iI c6,iI p1.Dep],.box [iI 0,iI 0,iI 0]] ?_ (fun hK=>?_)
 ·refine X 5 2 ?_;cases h;exact tD
 refine X 1 3 ?_;rcases ba (p0==0) with hb_1 | hb_1
 ·replace hz:=bT hz hb_1;refine B hz fun x1 hx1 hz=>(T.drawn mixed (k:=7) rfl (rq [0] 6 (r0 1 rfl (mD (q:=0) Tryz.underlying197 Ty.c196 Ty.i196 rfl rfl (by simpa using hb_1) rfl rfl (off':=0) rfl (rL [2,4,5,6] 2 rfl (ra1 3 (og 3 ⟨rfl,(ra1 4 (oO rfl (cF (xy hx1) ⟨rfl,(rq [5] 1 ?_)⟩)))⟩)))))))
  exact ra1 6 (og 3 ⟨rfl,(RA.done (by decide +kernel) (T.weakR hK (Weak.mkN [] [0,1] (by decide) (bx _) rfl ⟨cP rfl,cP rfl,trivial⟩ (fL (cs:=[iI p1.Key,iI c6,iI p1.Dep]) (ds:=[iI p1.Key,iI x1,iI p1.Dep]) rfl ⟨be rfl,be ((congrArg (fun p=>p) (Option.some.inj hz)).symm),be rfl,trivial⟩ (rw_bs [iI 0,iI 0,iI 0] rfl (bh))))))⟩)
 replace hz:=bR hz hb_1;rcases ba (p0==1) with hb_2 | hb_2
 ·replace hz:=bT hz hb_2;refine B hz fun x2 hx2 hz=>(T.drawn mixed (k:=7) rfl (rq [0] 6 (r0 1 rfl (mD (q:=1) Tryz.underlying197 Ty.c196 Ty.i196 rfl rfl (by simpa using hb_2) rfl rfl (off':=1) rfl (rL [2,4,5,6] 2 rfl (ra1 3 (og 3 ⟨rfl,(ra1 4 (oO rfl (cF (xp hx2) ⟨rfl,(rq [5] 1 ?_)⟩)))⟩)))))))
  exact ra1 6 (og 3 ⟨rfl,(RA.done (by decide +kernel) (T.weakR hK (Weak.mkN [] [0,1] (by decide) (bx _) rfl ⟨cP rfl,cP rfl,trivial⟩ (fL (cs:=[iI p1.Key,iI c6,iI p1.Dep]) (ds:=[iI p1.Key,iI x2,iI p1.Dep]) rfl ⟨be rfl,be ((congrArg (fun p=>p) (Option.some.inj hz)).symm),be rfl,trivial⟩ (rw_bs [iI 0,iI 0,iI 0] rfl (bh))))))⟩)
 replace hz:=bR hz hb_2;rcases ba (p0==2) with hb_3 | hb_3
 ·replace hz:=bT hz hb_3;refine B hz fun x3 hx3 hz=>(T.drawn mixed (k:=7) rfl (rq [0] 6 (r0 1 rfl (mD (q:=2) Tryz.underlying197 Ty.c196 Ty.i196 rfl rfl (by simpa using hb_3) rfl rfl (off':=2) rfl (rL [2,4,5,6] 2 rfl (ra1 3 (og 3 ⟨rfl,(ra1 4 (oO rfl (cF (xw hx3) ⟨rfl,(rq [5] 1 ?_)⟩)))⟩)))))))
  exact ra1 6 (og 3 ⟨rfl,(RA.done (by decide +kernel) (T.weakR hK (Weak.mkN [] [0,1] (by decide) (bx _) rfl ⟨cP rfl,cP rfl,trivial⟩ (fL (cs:=[iI p1.Key,iI c6,iI p1.Dep]) (ds:=[iI p1.Key,iI x3,iI p1.Dep]) rfl ⟨be rfl,be ((congrArg (fun p=>p) (Option.some.inj hz)).symm),be rfl,trivial⟩ (rw_bs [iI 0,iI 0,iI 0] rfl (bh))))))⟩)
 replace hz:=bR hz hb_3;refine B hz fun x4 hx4 hz=>(B hz fun x5 hx5 hz=>(T.drawn mixed (k:=7) rfl (rq [0] 6 (r0 1 rfl (mD (q:=3) Tryz.underlying197 Ty.c196 Ty.i196 rfl rfl (Ad hx4) rfl rfl (off':=3) rfl (rL [2,4,5,6] 2 rfl (ra1 3 (og 3 ⟨rfl,(ra1 4 (oO rfl (cF (xv hx5) ⟨rfl,?_⟩)))⟩))))))))
 exact rq [5] 1 (ra1 6 (og 3 ⟨rfl,(RA.done (by decide +kernel) (T.weakR hK (Weak.mkN [] [0,1] (by decide) (bx _) rfl ⟨cP rfl,cP rfl,trivial⟩ (fL (cs:=[iI p1.Key,iI c6,iI p1.Dep]) (ds:=[iI p1.Key,iI x5,iI p1.Dep]) rfl ⟨be rfl,be ((congrArg (fun p=>p) (Option.some.inj hz)).symm),be rfl,trivial⟩ (rw_bs [iI 0,iI 0,iI 0] rfl (bh))))))⟩))
theorem qt {p0:Keyed} {p1 r:Int} (h:js p0 p1=some r):Fn Tryz.prog 114 [.agg (aq p0),iI p1] (iI r):=by
 unfold js at h;refine fT 0 15 Tryz.func114 Tryz.ntmps114 rfl (T.ci h rfl (fun hb_1 h=>?_) (fun hb_1 h=>?_))
 ·refine X 4 1 ?_;cases h;exact tD
 refine X 8 1 (T.ci h rfl (fun hb_2 h=>?_) (fun hb_2 h=>?_))
 ·refine X 4 1 ?_;cases h;exact tD
 refine X 5 1 ?_;cases h;exact tD
theorem wy {p0:List Keyed} {p1:Int} {r:Int × Bool} (h:kj p0 p1=some r):Fn Tryz.prog 113 [sL aq p0,iI p1,.func 114 []] (.tup [iI r.1,.bool r.2]):=by
 unfold kj at h;refine fT 0 8 Tryz.func113 Tryz.ntmps113 rfl (sQ (aj Ty.s120 rfl (Y 10 0 (itr (fun ss_5:Int × Int=>mkA 49 [(0,sL aq p0),(1,iI p1),(2,.func 114 []),(8,iI ((p0).length:Int)),(9,iI ss_5.1),(10,iI ss_5.2)]) (fun ss_5=>[]) h (wk [] [] 0 rfl) (fun ss_5 v_6 h hv_6=>?_)))));obtain ⟨s1,s2⟩:=ss_5;replace h:ki p0 p1 s1 s2=some v_6:=h;try dsimp only
 unfold ki at h;refine X 7 0 (T.ci h rfl (fun hb_7 h=>?_) (fun hb_7 h=>?_))
 ·refine B h fun x4 hx4 h=>(X 8 0 (sQ (v_shr rfl rfl hx4 (B h fun x7 hx7 h=>(B h fun x8 hx8 h=>(Y 8 0 (sQ (ao Ty.s120 (fun _=>rfl) rfl rfl hx7 (Y 2 0 (sO (cF (qt hx8) ⟨rfl,(Y 2 0 ?_)⟩)))))))))))
  refine T.ci h rfl (fun hb_8 h=>?_) (fun hb_8 h=>?_)
  ·exact X 5 0 (lk h (wk [] [] 0 rfl))
  exact X 4 0 (lk h (wk [] [] 0 rfl))
 refine X 1 0 ?_;replace h:=mi h hv_6;obtain ⟨zt_11,hz,h⟩:=bind_some h;revert hz h;revert zt_11;intro c11 hz h;refine j1 [(6,iI s1),(7,.bool c11)] [] ?_ (fun hK=>?_)
 ·cases h;exact tD
 refine X 7 0 (gi 39 hz (fun hb_10 hz=>?_) (fun hb_10 hz=>?_))
 ·refine B hz fun x9 hx9 hz=>(B hz fun x10 hx10 hz=>(Y 3 0 (yQ rfl (ao Ty.s120 (fun _=>rfl) rfl rfl hx9 (Y 2 0 (yO rfl (cF (qt hx10) ⟨rfl,(Yp 5 0 ?_)⟩)))))))
  cases hz;exact sx hK
 refine Yp 12 0 ?_;cases hz;exact sx hK
theorem wL {p0:Int} {p1 p2 r:List Keyed} (h:kr p0 p1 p2=some r):FnX Tryz.prog 115 [.ref 0,iI p0,.ref 1] [aR 161 2 aq p1,aR 161 2 aq p2] (.ref 2) [.dead,.dead,aR 161 2 aq r]:=by
 unfold kr at h;refine fT 2 0 Tryz.func115 Tryz.ntmps115 rfl ?_;refine T.mvS 0 0 rfl rfl rfl rfl (T.exposeM 0 2 (xs:=p1) rfl rfl (fun C hC=>?_));have h:=zt h C hC;unfold nT at h;refine B h fun x2 hx2 h=>(X 8 3 (sO (mG Ty.s120 rfl rfl rfl hx2 (Y 4 3 (sQ (bt (en:=aq) Ty.s120 rfl rfl (Y 8 3 (T.ci h rfl (fun hb_1 h=>?_) (fun hb_1 h=>?_)))))))))
 ·cases h
 refine X 4 3 (sO (pj Ty.s120 rfl (Y 9 3 (T.ci h rfl (fun hb_2 h=>?_) (fun hb_2 h=>?_)))))
 ·refine B h fun x4 hx4 h=>(X 4 3 (sO (AL (en:=aq) (xs:=p1) (ys:=p2) Ty.s120 (fun _=>rfl) rfl rfl rfl rfl rfl rfl hx4 rfl rfl (Y 2 4 ?_))))
  cases h;exact tO [] [0,1,3] 4
 refine X 8 3 (sO (AG Ty.s120 rfl (Y 2 3 (T.ci h rfl (fun hb_3 h=>?_) (fun hb_3 h=>?_)))))
 ·refine B h fun x7 hx7 h=>(B h fun x8 hx8 h=>(X 4 3 (sO (zb Ty.s120 rfl rfl hx7 (Y 5 3 (sO (AU (en:=aq) (z0:=(⟨0,0⟩:Keyed)) (xs:=p1) Ty.s120 Tryz.underlying3 Ty.z161 (fun _=>rfl) rfl rfl rfl hx8 rfl rfl (B h fun x11 hx11 h=>(B h fun x12 hx12 h=>(Y 6 4 (sO (dK (en:=aq) (xs:=x8) Ty.s120 rfl rfl rfl rfl hx11 ?_))))))))))))
  refine Y 1 4 (sO (r8 (en:=aq) (xs:=x8) (ys:=p2) Ty.s120 (fun _=>rfl) rfl rfl rfl rfl hx12 rfl (B h fun x17 hx17 h=>(B h fun x18 hx18 h=>(B h fun x19 hx19 h=>(B h fun x20 hx20 h=>(Y 2 4 (T.drawn mixed (k:=9) rfl ?_))))))));apply RA.jn 1 (bm 9 255);intro hS4
  ·refine rq [0,1,2,3,5,6] 3 (ra2 4 7 ?_ ?_)
   ·exact oO rfl (dK (en:=aq) (xs:=(cpy x8 ((p0).toNat) ((((x8).length:Int)).toNat - (p0).toNat) p2)) Ty.s120 rfl rfl rfl rfl hx17 (ra1 7 (oO rfl (mG Ty.s120 rfl rfl rfl hx18 (raE hS4)))))
   ·exact oO rfl (mG Ty.s120 rfl rfl rfl hx18 (ra1 4 (oO rfl (dK (en:=aq) (xs:=(cpy x8 ((p0).toNat) ((((x8).length:Int)).toNat - (p0).toNat) p2)) Ty.s120 rfl rfl rfl rfl hx17 (raT hS4)))))
  refine ra1 8 (oO rfl (Ae (en:=aq) (xs:=(cpy x8 ((p0).toNat) ((((x8).length:Int)).toNat - (p0).toNat) p2)) (ys:=p1) Ty.s120 (fun _=>rfl) rfl rfl rfl rfl hx19 hx20 rfl (RA.done (by decide +kernel) (X 5 4 ?_))));cases h;exact tO [] [0,1,3] 4
 refine B h fun x22 hx22 h=>(X 7 3 (sO (C3 (en:=aq) (xs:=p1) Ty.s120 rfl rfl rfl rfl hx22 rfl rfl (B h fun x25 hx25 h=>(B h fun x26 hx26 h=>(Y 10 4 (sO (ll (en:=aq) (xs:=p1) Ty.s120 rfl rfl rfl rfl hx25 (sO (yI (fn:=Tryz.f134) (tS:=120) (tR:=4) (en:=aq) (xs:=p1) (ys:=p2) Tryz.func134 (by kernel_rfl) (by kernel_rfl) (by kernel_rfl) (by kernel_rfl) Ty.s120 rfl rfl rfl rfl hx26 (B h fun x30 hx30 h=>(B h fun x31 hx31 h=>?_))))))))))))
 refine B h fun x32 hx32 h=>(Y 4 4 (T.drawn mixed (k:=9) rfl ?_))
 apply RA.jn 1 (bm 9 255);intro hS5
 ·refine rq [0,1,2,3,5,6] 3 (ra2 4 7 ?_ ?_)
  ·exact oO rfl (ll (en:=aq) (xs:=p1) Ty.s120 rfl rfl rfl rfl hx30 (ra1 7 (oO rfl (ll (en:=aq) (xs:=p1) Ty.s120 rfl rfl rfl rfl hx31 (raE hS5)))))
  ·exact oO rfl (ll (en:=aq) (xs:=p1) Ty.s120 rfl rfl rfl rfl hx31 (ra1 4 (oO rfl (ll (en:=aq) (xs:=p1) Ty.s120 rfl rfl rfl rfl hx30 (raT hS5)))))
 refine ra1 8 (oO rfl (Az (en:=aq) (xs:=p1) Ty.s120 (fun _=>rfl) rfl rfl rfl hx32 rfl (RA.done (by decide +kernel) (B h fun x35 hx35 h=>(B h fun x36 hx36 h=>(X 4 4 (sO (dK (en:=aq) (xs:=x32) Ty.s120 rfl rfl rfl rfl hx35 (Y 1 4 (sO (r8 (en:=aq) (xs:=x32) (ys:=p2) Ty.s120 (fun _=>rfl) rfl rfl rfl rfl hx36 rfl (Y 6 4 ?_))))))))))));cases h;exact tO [] [0,1,3] 4
theorem gz {p0 p1:Int} {p2:Memory} {p3:Item} {r:Memory × Item × Int} (h:d7 p0 p1 p2 p3=some r):Fn Tryz.prog 87 [iI p0,iI p1,.agg (am p2),.agg (aa p3)] (.tup [.agg (am r.1),.agg (aa r.2.1),iI r.2.2]):=by
 unfold d7 at h;refine fT 0 0 Tryz.func87 Tryz.ntmps87 rfl ?_;refine B h fun x2 hx2 h=>(X 12 0 (sO (cF (qv hx2) ⟨rfl,(Y 7 4 (T.ci h rfl (fun hb_1 h=>?_) (fun hb_1 h=>?_)))⟩)))
 ·refine X 9 4 ?_;cases h;exact tD
 refine X 8 4 (T.ci h rfl (fun hb_2 h=>?_) (fun hb_2 h=>?_))
 ·refine X 8 4 ?_;cases h;exact tD
 refine B h fun x4 hx4 h=>(X 4 4 (sO (cG [] 4 1 (FnX.of_fnO (oq hx4)) ⟨rfl,(Y 13 5 (T.ci h rfl (fun hb_3 h=>?_) (fun hb_3 h=>?_)))⟩)))
 ·refine X 1 5 (j1 [(1,iI p1),(6,.ptr 0 0),(7,.ptr 1 0),(8,.ptr 2 0),(9,.ptr 3 0),(36,.bool ((decide (p1<0)) || decide (p1 > 3)))] [.box [iI x4.Sum,.ref 4,iI x4.Dep],.box (aa p3),.box [iI 0,.nils,iI 0],.box [iI 0,iI 0,iI 0],aR 161 2 aq x4.Keys] ?_ (fun hK=>?_))
  ·refine T.ci h rfl (fun hb_5 h=>?_) (fun hb_5 h=>?_)
   ·refine X 8 5 ?_;cases h;exact tD
   refine B h fun x7 hx7 h=>(X 2 5 (T.drawn mixed (k:=7) rfl ?_))
   apply RA.jn 3 (bm 7 15);intro hS6
   ·refine rq [1] 6 (rL [2,3,4,5,6] 2 rfl (ra2 0 3 ?_ ?_))
    ·exact og 5 ⟨rfl,(ra1 3 (oO rfl (cF (qr hx7) ⟨rfl,(raE hS6)⟩)))⟩
    ·exact oO rfl (cF (qr hx7) ⟨rfl,(ra1 0 (og 5 ⟨rfl,(raT hS6)⟩))⟩)
   refine ra1 4 (og 5 ⟨rfl,(ra1 5 (og 5 ⟨rfl,(rq [6] 0 (RA.done (by decide +kernel) ?_))⟩))⟩);cases h;exact tD
  refine X 5 5 (gp 33 (fun hb_4=>?_) (fun hb_4=>?_))
  ·refine Yp 4 5 ?_;rw [hb_4] at hK;exact sx hK
  refine Yp 4 5 ?_;rw [hb_4] at hK;exact sx hK
 refine X 5 5 (T.ci h rfl (fun hb_7 h=>?_) (fun hb_7 h=>?_))
 ·refine X 21 5 (T.drawn mixed (k:=11) rfl ?_);apply RA.jn 2 (bm 11 511);intro hS8;apply RA.jn 3 (bm 11 255);intro hS9;apply RA.jn 4 (bm 11 319);intro hS10;apply RA.jn 4 (bm 11 367);intro hS11;apply RA.jn 5 (bm 11 111);intro hS12;apply RA.jn 5 (bm 11 123);intro hS13;apply RA.jn 5 (bm 11 63);intro hS14
  ·refine rq [1,3,5] 8 (rL [0,8,9,10] 0 rfl (ra4 2 4 6 8 ?_ ?_ ?_ ?_))
   ·refine og 5 ⟨rfl,(ra3 4 6 8 ?_ ?_ ?_)⟩
    ·exact og 5 ⟨rfl,(raE hS14)⟩
    ·exact og 5 ⟨rfl,(raE hS12)⟩
    ·exact og 5 ⟨rfl,(rL [4,7,9,10] 4 rfl (raE hS10))⟩
   ·refine og 5 ⟨rfl,(ra3 2 6 8 ?_ ?_ ?_)⟩
    ·exact og 5 ⟨rfl,(raT hS14)⟩
    ·exact og 5 ⟨rfl,(raE hS13)⟩
    ·exact og 5 ⟨rfl,(rL [2,7,9,10] 2 rfl (raT hS10))⟩
   ·refine og 5 ⟨rfl,(ra3 2 4 8 ?_ ?_ ?_)⟩
    ·exact og 5 ⟨rfl,(raT hS12)⟩
    ·exact og 5 ⟨rfl,(raT hS13)⟩
    ·exact og 5 ⟨rfl,(rL [2,7,9,10] 2 rfl (raE hS11))⟩
   ·exact og 5 ⟨rfl,(rL [2,7,9,10] 2 rfl (rL [4,7,9,10] 4 rfl (raT hS10)))⟩
  ·refine ra2 6 8 ?_ ?_
   ·exact og 5 ⟨rfl,(rq [7] 3 (raE hS9))⟩
   ·exact og 5 ⟨rfl,(raT hS10)⟩
  ·refine ra2 2 8 ?_ ?_
   ·exact og 5 ⟨rfl,(rq [7] 3 (raT hS9))⟩
   ·exact og 5 ⟨rfl,(ra1 2 (og 5 ⟨rfl,(rq [7] 2 (raE hS8))⟩))⟩
  ·refine ra2 4 8 ?_ ?_
   ·exact og 5 ⟨rfl,(rq [7] 3 (raT hS9))⟩
   ·exact og 5 ⟨rfl,(raT hS11)⟩
  ·exact ra1 4 (og 5 ⟨rfl,(rq [7] 2 (raT hS8))⟩)
  ·exact ra1 6 (og 5 ⟨rfl,(rq [7] 2 (raT hS8))⟩)
  ·exact ra1 8 (og 5 ⟨rfl,(raT hS8)⟩)
  refine ra1 9 (og 5 ⟨rfl,(rq [10] 0 (RA.done (by decide +kernel) ?_))⟩);cases h;exact tD
 refine X 5 5 (T.ci h rfl (fun hb_15 h=>?_) (fun hb_15 h=>?_))
 ·refine B h fun x9 hx9 h=>(X 6 5 (sO (cF (wy hx9) ⟨rfl,(Y 17 5 (j1 [(6,.ptr 0 0),(7,.ptr 1 0),(8,.ptr 2 0),(9,.ptr 3 0),(12,iI x9.1),(13,.bool x9.2),(88,.bool ((!x9.2) && ((x4.Keys).length:Int)==6))] [.box [iI x4.Sum,.ref 4,iI (if p3.Dep > x4.Dep then p3.Dep else x4.Dep)],.box (aa p3),.box [iI 0,.nils,iI 0],.box [iI 0,iI 0,iI 0],aR 161 2 aq x4.Keys] ?_ (fun hK=>?_)))⟩)))
  ·refine T.ci h rfl (fun hb_17 h=>?_) (fun hb_17 h=>?_)
   ·refine X 1 5 (T.drawn mixed (k:=9) rfl ?_);apply RA.jn 2 (bm 9 127);intro hS18;apply RA.jn 3 (bm 9 63);intro hS19;apply RA.jn 4 (bm 9 79);intro hS20
    ·refine rq [1,3] 7 (rL [0,6,7,8] 0 rfl (ra3 2 4 6 ?_ ?_ ?_))
     ·refine og 5 ⟨rfl,(ra2 4 6 ?_ ?_)⟩
      ·exact og 5 ⟨rfl,(rq [5] 3 (raE hS19))⟩
      ·exact og 5 ⟨rfl,(raE hS20)⟩
     ·refine og 5 ⟨rfl,(ra2 2 6 ?_ ?_)⟩
      ·exact og 5 ⟨rfl,(rq [5] 3 (raT hS19))⟩
      ·exact og 5 ⟨rfl,(ra1 2 (og 5 ⟨rfl,(rq [5] 2 (raE hS18))⟩))⟩
     ·exact og 5 ⟨rfl,(rL [2,5,7,8] 2 rfl (raT hS20))⟩
    ·exact ra1 4 (og 5 ⟨rfl,(rq [5] 2 (raT hS18))⟩)
    ·exact ra1 6 (og 5 ⟨rfl,(raT hS18)⟩)
    refine ra1 7 (og 5 ⟨rfl,(rq [8] 0 (RA.done (by decide +kernel) ?_))⟩);cases h;exact tD
   refine X 1 5 (jn (Z:=List Keyed) (fun zz_22=>mkA 137 [(6,.ptr 0 0),(7,.ptr 1 0),(8,.ptr 2 0),(9,.ptr 3 0),(12,iI x9.1)]) (fun zz_22=>[.box [iI x4.Sum,.ref 4,iI (if p3.Dep > x4.Dep then p3.Dep else x4.Dep)],.box (aa p3),.box [iI 0,.nils,iI 0],.box [iI 0,iI 0,iI 0],aR 161 2 aq zz_22]) (fun zz_22=>fq p3 x4 x9 zz_22=some r) (fun zz_22 h=>?_) (fun hK1=>?_))
   ·revert h;revert zz_22;intro z12 h;replace h:fq p3 x4 x9 z12=some r:=h;try dsimp only
    unfold fq at h;refine B h fun x17 hx17 h=>(B h fun x18 hx18 h=>(B h fun x19 hx19 h=>(B h fun x20 hx20 h=>(X 5 5 (sQ (aA (en:=aq) Ty.s120 rfl rfl rfl hx17 (Y 1 5 (sO (aB (en:=aq) (a:=x18) rfl rfl hx18 (aE Ty.k3 (c:=iI x18.N) rfl (Y 1 5 (sQ (aA (en:=aq) Ty.s120 rfl rfl rfl hx19 ?_)))))))))))))
    refine Y 1 5 (sO (cB (en:=aq) (a:=x20) (a':=(⟨x20.Key,IntKind.i64.wrap (x18.N+1)⟩:Keyed)) Ty.c3 Ty.i3 rfl (vs:=[iI (IntKind.i64.wrap (x18.N+1))]) rfl rfl rfl hx20 rfl rfl rfl (B h fun x23 hx23 h=>(B h fun x24 hx24 h=>(Y 2 5 (T.drawn mixed (k:=15) rfl ?_))))));apply RA.jn 2 (bm 15 8191);intro hS23;apply RA.jn 3 (bm 15 4095);intro hS24;apply RA.jn 4 (bm 15 5887);intro hS25;apply RA.jn 4 (bm 15 5119);intro hS26;apply RA.jn 5 (bm 15 1791);intro hS27;apply RA.jn 5 (bm 15 2043);intro hS28;apply RA.jn 5 (bm 15 1023);intro hS29;apply RA.jn 6 (bm 15 1787);intro hS30;apply RA.jn 6 (bm 15 767);intro hS31;apply RA.jn 7 (bm 15 763);intro hS32;apply RA.jn 8 (bm 15 1583);intro hS33;apply RA.jn 9 (bm 15 1579);intro hS34;apply RA.jn 9 (bm 15 1582);intro hS35;apply RA.jn 9 (bm 15 559);intro hS36
    ·refine rq [1,3,5,9] 11 (ra4 0 2 4 10 ?_ ?_ ?_ ?_)
     ·refine og 5 ⟨rfl,(ra4 2 4 10 12 ?_ ?_ ?_ ?_)⟩
      ·exact og 5 ⟨rfl,(raE hS36)⟩
      ·exact og 5 ⟨rfl,(r0 6 rfl (aA (en:=aq) Ty.s120 rfl rfl rfl hx23 (rq [7] 7 (raE hS32))))⟩
      ·exact og 5 ⟨rfl,(raE hS34)⟩
      ·exact og 5 ⟨rfl,(rL [4,6,7,8,11,13,14] 4 rfl (r0 6 rfl (aA (en:=aq) Ty.s120 rfl rfl rfl hx23 (rq [7] 6 (rL [2,11,13,14] 2 rfl (rL [10,11,13,14] 10 rfl (raE hS25)))))))⟩
     ·refine og 5 ⟨rfl,(ra3 0 4 10 ?_ ?_ ?_)⟩
      ·exact og 5 ⟨rfl,(raT hS36)⟩
      ·exact og 5 ⟨rfl,(r0 6 rfl (aA (en:=aq) Ty.s120 rfl rfl rfl hx23 (rq [7] 7 (rL [0,12,13,14] 0 rfl (raE hS31)))))⟩
      ·exact og 5 ⟨rfl,(raE hS35)⟩
     ·exact og 5 ⟨rfl,(r0 6 rfl (aA (en:=aq) Ty.s120 rfl rfl rfl hx23 (rq [7] 8 (rL [0,12,13,14] 0 rfl (raT hS32)))))⟩
     ·refine og 5 ⟨rfl,(ra3 0 2 4 ?_ ?_ ?_)⟩
      ·exact og 5 ⟨rfl,(raT hS34)⟩
      ·exact og 5 ⟨rfl,(raT hS35)⟩
      ·exact og 5 ⟨rfl,(r0 6 rfl (aA (en:=aq) Ty.s120 rfl rfl rfl hx23 (rq [7] 7 (rL [0,12,13,14] 0 rfl (raE hS30)))))⟩
    ·refine ra3 4 10 12 ?_ ?_ ?_
     ·exact og 5 ⟨rfl,(r0 6 rfl (aA (en:=aq) Ty.s120 rfl rfl rfl hx23 (rq [7] 6 (raT hS31))))⟩
     ·exact og 5 ⟨rfl,(raE hS33)⟩
     ·exact og 5 ⟨rfl,(rL [4,6,7,8,11,13,14] 4 rfl (r0 6 rfl (aA (en:=aq) Ty.s120 rfl rfl rfl hx23 (rq [7] 5 (rL [10,11,13,14] 10 rfl (raT hS25))))))⟩
    ·refine ra2 0 4 ?_ ?_
     ·exact og 5 ⟨rfl,(raT hS33)⟩
     ·exact og 5 ⟨rfl,(r0 6 rfl (aA (en:=aq) Ty.s120 rfl rfl rfl hx23 (rq [7] 6 (rL [0,12,13,14] 0 rfl (raE hS27)))))⟩
    ·refine ra3 2 4 12 ?_ ?_ ?_
     ·exact og 5 ⟨rfl,(raT hS33)⟩
     ·exact og 5 ⟨rfl,(r0 6 rfl (aA (en:=aq) Ty.s120 rfl rfl rfl hx23 (rq [7] 6 (raT hS30))))⟩
     ·exact og 5 ⟨rfl,(rL [4,6,7,8,11,13,14] 4 rfl (r0 6 rfl (aA (en:=aq) Ty.s120 rfl rfl rfl hx23 (rq [7] 5 (rL [2,11,13,14] 2 rfl (raT hS25))))))⟩
    ·refine ra2 4 12 ?_ ?_
     ·exact og 5 ⟨rfl,(r0 6 rfl (aA (en:=aq) Ty.s120 rfl rfl rfl hx23 (rq [7] 5 (raT hS27))))⟩
     ·exact og 5 ⟨rfl,(ra1 4 (og 5 ⟨rfl,(r0 6 rfl (aA (en:=aq) Ty.s120 rfl rfl rfl hx23 (rq [7] 4 (raT hS25))))⟩))⟩
    ·refine ra4 2 8 10 12 ?_ ?_ ?_ ?_
     ·exact og 5 ⟨rfl,(raT hS31)⟩
     ·refine oO rfl (aB (en:=aq) (a:=x24) rfl rfl hx24 (aE Ty.k3 (c:=iI x24.N) rfl (ra3 2 10 12 ?_ ?_ ?_)))
      ·exact og 5 ⟨rfl,(raE hS29)⟩
      ·exact og 5 ⟨rfl,(raE hS28)⟩
      ·exact og 5 ⟨rfl,(rL [2,11,13,14] 2 rfl (raE hS26))⟩
     ·exact og 5 ⟨rfl,(raT hS30)⟩
     ·exact og 5 ⟨rfl,(rL [2,11,13,14] 2 rfl (rL [10,11,13,14] 10 rfl (raT hS25)))⟩
    ·refine ra3 8 10 12 ?_ ?_ ?_
     ·exact oO rfl (aB (en:=aq) (a:=x24) rfl rfl hx24 (aE Ty.k3 (c:=iI x24.N) rfl (raT hS29)))
     ·exact og 5 ⟨rfl,(raT hS27)⟩
     ·exact og 5 ⟨rfl,(rL [10,11,13,14] 10 rfl (raT hS25))⟩
    ·refine ra3 2 8 12 ?_ ?_ ?_
     ·exact og 5 ⟨rfl,(raT hS27)⟩
     ·exact oO rfl (aB (en:=aq) (a:=x24) rfl rfl hx24 (aE Ty.k3 (c:=iI x24.N) rfl (raT hS28)))
     ·exact og 5 ⟨rfl,(rL [2,11,13,14] 2 rfl (raT hS25))⟩
    ·refine ra2 10 12 ?_ ?_
     ·exact og 5 ⟨rfl,(rq [11] 3 (raE hS24))⟩
     ·exact og 5 ⟨rfl,(raT hS26)⟩
    ·refine ra2 2 12 ?_ ?_
     ·exact og 5 ⟨rfl,(rq [11] 3 (raT hS24))⟩
     ·exact og 5 ⟨rfl,(ra1 2 (og 5 ⟨rfl,(rq [11] 2 (raE hS23))⟩))⟩
    ·refine ra2 8 12 ?_ ?_
     ·exact oO rfl (aB (en:=aq) (a:=x24) rfl rfl hx24 (aE Ty.k3 (c:=iI x24.N) rfl (rq [11] 3 (raT hS24))))
     ·exact og 5 ⟨rfl,(raT hS25)⟩
    ·exact ra1 10 (og 5 ⟨rfl,(rq [11] 2 (raT hS23))⟩)
    ·exact ra1 8 (oO rfl (aB (en:=aq) (a:=x24) rfl rfl hx24 (aE Ty.k3 (c:=iI x24.N) rfl (rq [11] 2 (raT hS23)))))
    ·exact ra1 12 (og 5 ⟨rfl,(raT hS23)⟩)
    refine ra1 13 (og 5 ⟨rfl,(rq [14] 0 (RA.done (by decide +kernel) ?_))⟩);cases h;exact tD
   refine X 6 5 (T.ci h rfl (fun hb_37 h=>?_) (fun hb_37 h=>?_))
   ·exact B h fun x11 hx11 h=>(X 7 5 (sO (aM (rows:=List.map aq [(⟨p3.Key,0⟩:Keyed)]) (vs:=[.agg [iI p3.Key,iI 0]]) Ty.s120 Ty.z161 rfl rfl rfl rfl rfl rfl (sO (cG [4,5] 6 3 (wL hx11) ⟨rfl,(Y 3 7 (wu (hK1 x11 h) [] [0,1,2,3,6] 7 rfl))⟩)))))
   exact X 1 5 (sx (hK1 x4.Keys h))
  refine X 5 5 (gp 83 (fun hb_16=>?_) (fun hb_16=>?_))
  ·refine Y 2 5 (yQ rfl (bt (en:=aq) Ty.s120 rfl rfl (Yp 3 5 ?_)));rw [hb_16] at hK;exact sx hK
  refine Yp 6 5 ?_;rw [hb_16] at hK;exact sx hK
 refine X 6 5 (T.ci h rfl (fun hb_38 h=>?_) (fun hb_38 h=>?_))
 ·refine X 1 5 (T.ci h rfl (fun hb_39 h=>?_) (fun hb_39 h=>?_))
  ·refine X 1 5 (T.drawn mixed (k:=5) rfl ?_);apply RA.jn 2 (bm 5 7);intro hS40
   ·refine rL [0,2,3,4] 0 rfl (ra2 1 2 ?_ ?_)
    ·exact og 5 ⟨rfl,(ra1 2 (og 5 ⟨rfl,(raE hS40)⟩))⟩
    ·exact og 5 ⟨rfl,(ra1 1 (og 5 ⟨rfl,(raT hS40)⟩))⟩
   refine ra1 3 (og 5 ⟨rfl,(rq [4] 0 (RA.done (by decide +kernel) ?_))⟩);cases h;exact tD
  refine X 9 5 ?_;cases h;exact tD
 refine X 5 5 (T.ci h rfl (fun hb_41 h=>?_) (fun hb_41 h=>?_))
 ·refine X 1 5 (T.ci h rfl (fun hb_42 h=>?_) (fun hb_42 h=>?_))
  ·refine X 1 5 (T.drawn mixed (k:=5) rfl ?_);apply RA.jn 2 (bm 5 7);intro hS43
   ·refine rL [0,2,3,4] 0 rfl (ra2 1 2 ?_ ?_)
    ·exact og 5 ⟨rfl,(ra1 2 (og 5 ⟨rfl,(raE hS43)⟩))⟩
    ·exact og 5 ⟨rfl,(ra1 1 (og 5 ⟨rfl,(raT hS43)⟩))⟩
   refine ra1 3 (og 5 ⟨rfl,(rq [4] 0 (RA.done (by decide +kernel) ?_))⟩);cases h;exact tD
  refine X 9 5 ?_;cases h;exact tD
 refine X 5 5 (T.ci h rfl (fun hb_44 h=>?_) (fun hb_44 h=>?_))
 ·refine X 1 5 (T.ci h rfl (fun hb_45 h=>?_) (fun hb_45 h=>?_))
  ·refine X 1 5 (T.drawn mixed (k:=5) rfl ?_);apply RA.jn 2 (bm 5 7);intro hS46
   ·refine rL [0,2,3,4] 0 rfl (ra2 1 2 ?_ ?_)
    ·exact og 5 ⟨rfl,(ra1 2 (og 5 ⟨rfl,(raE hS46)⟩))⟩
    ·exact og 5 ⟨rfl,(ra1 1 (og 5 ⟨rfl,(raT hS46)⟩))⟩
   refine ra1 3 (og 5 ⟨rfl,(rq [4] 0 (RA.done (by decide +kernel) ?_))⟩);cases h;exact tD
  refine X 9 5 ?_;cases h;exact tD
 refine X 5 5 (T.ci h rfl (fun hb_47 h=>?_) (fun hb_47 h=>?_))
 ·refine X 1 5 (T.ci h rfl (fun hb_48 h=>?_) (fun hb_48 h=>?_))
  ·refine X 1 5 (T.drawn mixed (k:=5) rfl ?_);apply RA.jn 2 (bm 5 7);intro hS49
   ·refine rL [0,2,3,4] 0 rfl (ra2 1 2 ?_ ?_)
    ·exact og 5 ⟨rfl,(ra1 2 (og 5 ⟨rfl,(raE hS49)⟩))⟩
    ·exact og 5 ⟨rfl,(ra1 1 (og 5 ⟨rfl,(raT hS49)⟩))⟩
   refine ra1 3 (og 5 ⟨rfl,(rq [4] 0 (RA.done (by decide +kernel) ?_))⟩);cases h;exact tD
  refine X 9 5 ?_;cases h;exact tD
 refine X 4 5 (T.ci h rfl (fun hb_50 h=>?_) (fun hb_50 h=>?_))
 ·refine X 1 5 (T.drawn mixed (k:=5) rfl ?_);apply RA.jn 2 (bm 5 7);intro hS51
  ·refine rL [0,2,3,4] 0 rfl (ra2 1 2 ?_ ?_)
   ·exact og 5 ⟨rfl,(ra1 2 (og 5 ⟨rfl,(raE hS51)⟩))⟩
   ·exact og 5 ⟨rfl,(ra1 1 (og 5 ⟨rfl,(raT hS51)⟩))⟩
  refine ra1 3 (og 5 ⟨rfl,(rq [4] 0 (RA.done (by decide +kernel) ?_))⟩);cases h;exact tD
 refine X 9 5 ?_;cases h;exact tD
theorem rk {p0:Net} {p1:List (List Item)} {p2:State} {p3:Move} {r:Bool} (h:iy p0 p1 p2 p3=some r):Fn Tryz.prog 83 [.agg (au p0),sL (ae aa) p1,.agg (aH p2),.agg (aD p3)] (.bool r):=by
 unfold iy at h;refine fT 0 0 Tryz.func83 Tryz.ntmps83 rfl ?_;refine B h fun x2 hx2 h=>(X 13 0 (sQ (ao Ty.s22 (fun _=>rfl) rfl rfl hx2 (B h fun x4 hx4 h=>(Y 10 3 (sO (cF (ow hx4) ⟨rfl,(Y 8 4 ?_)⟩)))))))
 obtain ⟨zt_2,hz,h⟩:=bind_some h;revert hz h;revert zt_2;intro c7 hz h;refine j1 [(6,.ptr 0 0),(7,.ptr 1 0),(9,.ptr 2 0),(10,.ptr 3 0),(37,.bool c7)] [.box (aH p2),.box (aD p3),.box (ai x2),.box (aa x4.1)] ?_ (fun hK=>?_)
 ·refine T.ci h rfl (fun hb_3 h=>?_) (fun hb_3 h=>?_)
  ·refine X 4 4 ?_;cases h;exact tD
  refine X 2 4 (j1 [(6,.ptr 0 0),(7,.ptr 1 0),(9,.ptr 2 0),(10,.ptr 3 0),(57,.bool (if (x2.Kind==6)=true then ((((p2.Choices).length:Int)==500) || ((x2.Kind==8) && ((p2.Out).length:Int)==2000)) else ((x2.Kind==8) && ((p2.Out).length:Int)==2000)))] [.box (aH p2),.box (aD p3),.box (ai x2),.box (aa x4.1)] ?_ (fun hK=>?_))
  ·refine T.ci h rfl (fun hb_8 h=>?_) (fun hb_8 h=>?_)
   ·refine X 4 4 ?_;cases h;exact tD
   refine B h fun x11 hx11 h=>(B h fun x12 hx12 h=>(X 2 4 (T.drawn mixed (k:=21) rfl ?_)))
   apply RA.jn 3 (bm 21 262143);intro hS9;apply RA.jn 4 (bm 21 196607);intro hS10;apply RA.jn 4 (bm 21 131071);intro hS11;apply RA.jn 8 (bm 21 198655);intro hS12
   ·refine rq [0,2,4,6] 17 (rL [1,11,12,13,14,15,18,19,20] 1 rfl (rL [3,11,12,13,14,15,18,19,20] 3 rfl (rL [5,8,9,11,12,13,14,15,18,19,20] 5 rfl (rL [7,8,9,11,12,13,14,15,18,19,20] 7 rfl (r0 8 rfl (ao Ty.s50 (fun _=>rfl) rfl rfl hx11 (rL [9,11,12,13,14,15,18,19,20] 9 rfl (rL [10,11,12,13,14,15,18,19,20] 10 rfl (ra3 11 16 17 ?_ ?_ ?_)))))))))
    ·refine oO rfl (cD (gz hx12) ⟨rfl,(rq [12,13,14,15] 5 (ra2 16 17 ?_ ?_))⟩)
     ·exact og 4 ⟨rfl,(raE hS11)⟩
     ·exact og 4 ⟨rfl,(raE hS10)⟩
    ·refine og 4 ⟨rfl,(ra2 11 17 ?_ ?_)⟩
     ·exact oO rfl (cD (gz hx12) ⟨rfl,(rq [12,13,14,15] 4 (raT hS11))⟩)
     ·exact og 5 ⟨rfl,(raE hS12)⟩
    ·refine og 4 ⟨rfl,(ra2 11 16 ?_ ?_)⟩
     ·exact oO rfl (cD (gz hx12) ⟨rfl,(rq [12,13,14,15] 4 (raT hS10))⟩)
     ·exact og 5 ⟨rfl,(raV hS12 [0,1,2,3,5,4] rfl)⟩
   ·exact ra1 11 (oO rfl (cD (gz hx12) ⟨rfl,(rq [12,13,14,15] 3 (raE hS9))⟩))
   ·exact ra1 17 (og 5 ⟨rfl,(raT hS9)⟩)
   ·exact ra1 16 (og 5 ⟨rfl,(raV hS9 [0,1,2,3,5,4] rfl)⟩)
   refine ra1 18 (og 6 ⟨rfl,(ra1 19 (og 6 ⟨rfl,(rq [20] 0 (RA.done (by decide +kernel) (X 6 6 ?_)))⟩))⟩);cases h;exact tD
  refine X 6 4 (gp 41 (fun hb_4=>?_) (fun hb_4=>?_))
  ·refine Y 2 4 (yQ rfl (aj Ty.s51 rfl (Yp 3 4 (gp 47 (fun hb_5=>?_) (fun hb_5=>?_)))))
   ·refine Yp 11 4 ?_;rw [hb_4] at hK;rw [hb_5] at hK;exact sx hK
   refine Y 4 4 (gp 51 (fun hb_6=>?_) (fun hb_6=>?_))
   ·refine Y 2 4 (yQ rfl (aj Ty.s26 rfl (Yp 4 4 ?_)));rw [hb_4] at hK;rw [hb_5] at hK;rw [hb_6] at hK;exact sx hK
   refine Yp 7 4 ?_;rw [hb_4] at hK;rw [hb_5] at hK;rw [hb_6] at hK;exact sx hK
  refine Yp 10 4 (gp 51 (fun hb_7=>?_) (fun hb_7=>?_))
  ·refine Y 2 4 (yQ rfl (aj Ty.s26 rfl (Yp 4 4 ?_)));rw [hb_4] at hK;rw [hb_7] at hK;exact sx hK
  refine Yp 7 4 ?_;rw [hb_4] at hK;rw [hb_7] at hK;exact sx hK
 refine X 5 5 (gi 31 hz (fun hb_1 hz=>?_) (fun hb_1 hz=>?_))
 ·refine Yp 7 5 ?_;cases hz;exact wu hK [] [1,2,3,4] 5 rfl
 refine B hz fun x5 hx5 hz=>(B hz fun x6 hx6 hz=>(Y 2 5 (yO rfl (cD (qT hx5) ⟨rfl,(Y 1 5 (yO rfl (cG [1,0] 5 2 (wD hx6) ⟨rfl,(Yp 2 5 ?_)⟩)))⟩))))
 cases hz;exact wu hK [] [1,2,3,4] 5 rfl
theorem xS {p0:Net} {p1:List (List Item)} {p2:State} {r:List Move} (h:k0 p0 p1 p2=some r):FnO Tryz.prog 56 [.agg (au p0),sL (ae aa) p1,.agg (aH p2)] (.ref 0) [aR 88 2 aD r]:=by
 unfold k0 at h;refine fT 0 15 Tryz.func56 Tryz.ntmps56 rfl (sQ (aj Ty.s22 rfl (Y 3 2 (itr (fun ss_27:Int × (List Move)=>mkA 46 [(1,sL (ae aa) p1),(3,.ptr 0 0),(5,.ptr 1 0),(7,.ref 2),(14,sL ai p0.Nodes),(15,iI ((p0.Nodes).length:Int)),(16,iI ss_27.1)]) (fun ss_27=>[.box (au p0),.box (aH p2),aR 88 2 aD ss_27.2]) h (wk [(7,88,2)] [0,1,2] 2 rfl) (fun ss_27 v_28 h hv_28=>?_)))));obtain ⟨s1,s2⟩:=ss_27;replace h:gn p0 p1 p2 s1 s2=some v_28:=h;try dsimp only
 unfold gn at h;refine X 5 3 (T.ci h rfl (fun hb_29 h=>?_) (fun hb_29 h=>?_))
 ·refine B h fun x4 hx4 h=>(X 6 3 (sQ (ao Ty.s22 (fun _=>rfl) rfl rfl hx4 (Y 9 3 (jn (Z:=Int) (fun zz_31=>mkA 46 [(1,sL (ae aa) p1),(3,.ptr 0 0),(5,.ptr 1 0),(7,.ref 2),(8,iI s1),(10,iI zz_31),(14,sL ai p0.Nodes),(15,iI ((p0.Nodes).length:Int)),(16,iI s1)]) (fun zz_31=>[.box (au p0),.box (aH p2),aR 88 2 aD s2]) (fun zz_31=>jp p0 p1 s1 p2 s2 zz_31=some v_28) (fun zz_31 h=>?_) (fun hK2=>?_))))))
  ·revert h;revert zz_31;intro z5 h;replace h:jp p0 p1 s1 p2 s2 z5=some v_28:=h;try dsimp only
   unfold jp at h;refine X 6 3 (itr (fun ss_36:Int × (List Move)=>mkA 46 [(1,sL (ae aa) p1),(3,.ptr 0 0),(5,.ptr 1 0),(7,.ref 2),(8,iI s1),(14,sL ai p0.Nodes),(15,iI ((p0.Nodes).length:Int)),(16,iI s1),(27,iI z5),(28,iI ss_36.1)]) (fun ss_36=>[.box (au p0),.box (aH p2),aR 88 2 aD ss_36.2]) h (wk [] [0,1,2] 3 rfl) (fun ss_36 v_37 h hv_37=>?_));obtain ⟨s6,s7⟩:=ss_36;replace h:dZ p0 p1 s1 p2 z5 s6 s7=some v_37:=h;try dsimp only
   unfold dZ at h;refine X 5 3 (T.ci h rfl (fun hb_38 h=>?_) (fun hb_38 h=>?_))
   ·refine B h fun x9 hx9 h=>(X 22 3 (sO (cF (rk hx9) ⟨rfl,(Y 1 4 (T.ci h rfl (fun hb_39 h=>?_) (fun hb_39 h=>?_)))⟩)))
    ·exact B h fun x10 hx10 h=>(X 3 4 (sO (aM (rows:=List.map aD [(⟨s1,s6⟩:Move)]) (vs:=[.agg [iI s1,iI s6]]) Ty.s84 Ty.z88 rfl rfl rfl rfl rfl rfl (sO (bG (en:=aD) (xs:=s7) (ys:=([(⟨s1,s6⟩:Move)]:List Move)) Ty.s84 (fun _=>rfl) rfl rfl rfl hx10 rfl rfl (Y 6 6 (lk h (wk [] [0,1,5] 6 rfl))))))))
    exact X 5 4 (lk h (wk [] [0,1,2] 4 rfl))
   refine X 1 3 ?_;replace h:=mi h hv_37;exact X 4 3 (lk h (wk [] [0,1,2] 3 rfl))
  refine X 7 4 (T.ci h rfl (fun hb_41 h=>?_) (fun hb_41 h=>?_))
  ·exact X 3 4 (sQ (aj Ty.s49 rfl (Y 2 4 (wu (hK2 ((x4.In).length:Int) h) [] [0,1,2] 4 rfl))))
  exact X 1 4 (wu (hK2 1 h) [] [0,1,2] 4 rfl)
 refine X 1 3 ?_;replace h:=mi h hv_28;refine X 5 3 ?_;cases h;exact tO [] [2] 3
theorem ye {p0:Net} {p1:List (List Item)} {p2:State} {r:(List Move) × Int} (h:il p0 p1 p2=some r):FnO Tryz.prog 89 [.agg (au p0),sL (ae aa) p1,.agg (aH p2)] (.tup [.ref 0,iI r.2]) [aR 88 2 aD r.1]:=by
 unfold il at h;refine fT 0 0 Tryz.func89 Tryz.ntmps89 rfl ?_;refine B h fun x2 hx2 h=>(X 13 0 (sO (cF (qF hx2) ⟨rfl,(Y 7 2 (T.ci h rfl (fun hb_1 h=>?_) (fun hb_1 h=>?_)))⟩)))
 ·refine X 6 2 ?_;cases h;exact tO [(0,88,2)] [2] 2
 refine B h fun x4 hx4 h=>(X 6 2 (sO (cO 2 (xS hx4) ⟨rfl,(Y 3 3 ?_)⟩)))
 cases h;exact tO [] [2] 3
theorem wM {p0:Move} {p1:List Node} {p2 p3:Int} {p4:List (List Item)} {p5:Int} {p6:List ((List UInt8) × Unit)} {p7:List (List Item)} {r:Bool} (h:ku p0 p1 p2 p3 p4 p5 p6 p7=some r):FnX Tryz.prog 90 [.agg (aD p0),.ptr 0 0] [.box [.ptr 1 0],.box [sL ai p1,iI p2,iI p3,sL (ae aa) p4,iI p5,.mpr 2,.ref 3],.mp (List.map kS (List.map Prod.fst p6)) (List.map kU (List.map Prod.snd p6)),aR 26 1 (ae aa) p7] (.bool r) [.box [.ptr 1 0],.box [sL ai p1,iI p2,iI p3,sL (ae aa) p4,iI p5,.mpr 2,.ref 3],.mp (List.map kS (List.map Prod.fst p6)) (List.map kU (List.map Prod.snd p6)),aR 26 1 (ae aa) p7]:=by
 unfold ku at h;refine fT 4 0 Tryz.func90 Tryz.ntmps90 rfl ?_;refine B h fun x2 hx2 h=>(X 6 4 (T.drawn mixed (k:=12) rfl (rq [5] 11 (rL [0,1,2,3,4,7,8,9,10,11] 0 rfl (rq [1,2,3] 7 (rL [4,7,8,9,10,11] 4 rfl (ra1 6 (og 5 ⟨rfl,(r0 7 rfl (ao Ty.s22 (fun _=>rfl) rfl rfl hx2 ?_))⟩))))))))
 refine rq [8] 3 (ra1 9 (og 5 ⟨rfl,(rq [10,11] 0 (RA.done (by decide +kernel) ?_))⟩));cases h;exact tN [0,1,2,3]
theorem wH {p0:List Move} {p1:List Node} {p2 p3:Int} {p4:List (List Item)} {p5:Int} {p6:List ((List UInt8) × Unit)} {p7:List (List Item)} {r:Int} (h:iY p0 p1 p2 p3 p4 p5 p6 p7=some r):FnX Tryz.prog 43 [.ref 0,.func 90 [.ptr 1 0]] [aR 88 2 aD p0,.box [.ptr 2 0],.box [sL ai p1,iI p2,iI p3,sL (ae aa) p4,iI p5,.mpr 3,.ref 4],.mp (List.map kS (List.map Prod.fst p6)) (List.map kU (List.map Prod.snd p6)),aR 26 1 (ae aa) p7] (iI r) [aR 88 2 aD p0,.box [.ptr 2 0],.box [sL ai p1,iI p2,iI p3,sL (ae aa) p4,iI p5,.mpr 3,.ref 4],.mp (List.map kS (List.map Prod.fst p6)) (List.map kU (List.map Prod.snd p6)),aR 26 1 (ae aa) p7]:=by
 unfold iY at h;refine fT 5 8 Tryz.func43 Tryz.ntmps43 rfl (sQ (bt (en:=aD) Ty.s84 rfl rfl (Y 3 5 (itr (fun ss_5:Int=>mkA 19 [(0,.ref 0),(1,.func 90 [.ptr 1 0]),(7,iI ((p0).length:Int)),(8,iI ss_5)]) (fun ss_5=>[aR 88 2 aD p0,.box [.ptr 2 0],.box [sL ai p1,iI p2,iI p3,sL (ae aa) p4,iI p5,.mpr 3,.ref 4],.mp (List.map kS (List.map Prod.fst p6)) (List.map kU (List.map Prod.snd p6)),aR 26 1 (ae aa) p7]) h (wk [] [0,1,2,3,4] 5 rfl) (fun ss_5 v_6 h hv_6=>?_)))));revert hv_6 h;revert ss_5;intro s1 h hv_6;replace h:e6 p0 p1 p2 p3 p4 p5 p6 p7 s1=some v_6:=h;try dsimp only
 unfold e6 at h;refine X 5 5 (T.ci h rfl (fun hb_7 h=>?_) (fun hb_7 h=>?_))
 ·refine B h fun x5 hx5 h=>(B h fun x6 hx6 h=>(B h fun x7 hx7 h=>(X 13 5 (sQ (aA (en:=aD) Ty.s84 rfl rfl rfl hx5 (sO (aB (en:=aD) (a:=x6) rfl rfl hx6 (cm Ty.k88 Ty.c88 rfl (cs:=(aD x6)) rfl (sO (cG [1,2,3,4] 5 4 (wM hx7) ⟨rfl,(Y 1 5 (T.ci h rfl (fun hb_8 h=>?_) (fun hb_8 h=>?_)))⟩))))))))))
  ·refine X 5 5 ?_;replace h:=mi h hv_6;cases h;exact tN [0,1,2,3,4]
  exact X 5 5 (lk h (wk [] [0,1,2,3,4] 5 rfl))
 refine X 1 5 ?_;replace h:=mi h hv_6;refine X 4 5 ?_;cases h;exact tN [0,1,2,3,4]
theorem wA {p0 r:List (List Item)} (h:l5 p0=some r):FnO Tryz.prog 20 [.sl (List.map (ae aa) p0)] (.ref 0) [.arr 26 1 (List.map (ae aa) r)]:=by
 have hr:p0=r:=by
  unfold l5 app at h;split at h
  ·simpa using h
  ·cases h
 refine gR (N:=0) rfl Tryz.func20 rfl (by kernel_rfl) Tryz.ntmps20 rfl ?_;show T _ _ _ _ (mkA 8 [(0,.sl (List.map (ae aa) p0))]) [];refine T.seq ?_;refine T.region ?_;refine RS.op rfl (OP.q rfl (cg (v:=.nils) rfl ?_));refine RS.nil ?_;refine T.seq ?_;refine T.seq ?_;refine T.region ?_;refine RS.op rfl (OP.q rfl (c0 (v:=.sl (List.map (ae aa) p0)) rfl ?_));refine RS.op rfl (OP.q rfl (iF Ty.s25 rfl rfl (fun z hz=>?_)));refine RS.nil ?_;refine T.cond (b:=z) rfl (fun hb=>?_) (fun hb=>?_)
 ·refine T.seq ?_;refine T.region ?_;refine RS.op rfl (OP.q rfl (cg (v:=.nils) rfl ?_));refine RS.nil ?_;refine T.ret ?_;refine dg (v:=.nils) rfl ?_;refine dh ?_;have h0:p0=[]:=List.map_eq_nil_iff.1 (hz hb);exact di (.ref 0) [(0,26,1)] [0] (by decide) (bx _) rfl (bW rfl) (dc (en:=(ae aa)) (ys:=[]) rfl (j7 dB) (by rw [<- hr,h0]) (bh)) ⟨rfl,rfl⟩
 ·refine T.skip ?_;refine T.seq ?_;refine T.region ?_;refine RS.op rfl (aM (rows:=List.map (ae aa) []) (vs:=[]) Ty.s25 Ty.z26 rfl rfl rfl rfl rfl (aw':=[.arr 26 1 (List.map (ae aa) [])]) rfl ?_);refine RS.op rfl (OP.q rfl (c0 (v:=.sl (List.map (ae aa) p0)) rfl ?_));refine RS.op rfl (bG (en:=(ae aa)) (xs:=([]:List (List Item))) (ys:=p0) (r:=r) Ty.s25 (fun _=>rfl) rfl rfl rfl h rfl (aw':=[.dead,.arr 26 1 (List.map (ae aa) r)]) rfl ?_);refine RS.op rfl (OP.q rfl (cg (v:=.ref 1) rfl ?_));refine RS.nil ?_;refine T.ret ?_;refine dg (v:=.ref 1) rfl ?_;refine dh ?_;exact di (.ref 0) [] [1] (by decide) (bx _) rfl (bW rfl) (dc rfl (j7 dB) rfl (bh)) ⟨rfl,rfl⟩
theorem dy {p0 r:List Item} (h:cX p0=some r):FnO Tryz.prog 21 [.sl (List.map aa p0)] (.ref 0) [.arr 39 3 (List.map aa r)]:=by
 have hr:p0=r:=by
  unfold cX app at h;split at h
  ·simpa using h
  ·cases h
 refine gR (N:=0) rfl Tryz.func21 rfl (by kernel_rfl) Tryz.ntmps21 rfl ?_;show T _ _ _ _ (mkA 8 [(0,.sl (List.map aa p0))]) [];refine T.seq ?_;refine T.region ?_;refine RS.op rfl (OP.q rfl (cg (v:=.nils) rfl ?_));refine RS.nil ?_;refine T.seq ?_;refine T.seq ?_;refine T.region ?_;refine RS.op rfl (OP.q rfl (c0 (v:=.sl (List.map aa p0)) rfl ?_));refine RS.op rfl (OP.q rfl (iF Ty.s26 rfl rfl (fun z hz=>?_)));refine RS.nil ?_;refine T.cond (b:=z) rfl (fun hb=>?_) (fun hb=>?_)
 ·refine T.seq ?_;refine T.region ?_;refine RS.op rfl (OP.q rfl (cg (v:=.nils) rfl ?_));refine RS.nil ?_;refine T.ret ?_;refine dg (v:=.nils) rfl ?_;refine dh ?_;have h0:p0=[]:=List.map_eq_nil_iff.1 (hz hb);exact di (.ref 0) [(0,39,3)] [0] (by decide) (bx _) rfl (bW rfl) (dc (en:=aa) (ys:=[]) rfl dB (by rw [<- hr,h0]) (bh)) ⟨rfl,rfl⟩
 ·refine T.skip ?_;refine T.seq ?_;refine T.region ?_;refine RS.op rfl (aM (rows:=List.map aa []) (vs:=[]) Ty.s26 Ty.z39 rfl rfl rfl rfl rfl (aw':=[.arr 39 3 (List.map aa [])]) rfl ?_);refine RS.op rfl (OP.q rfl (c0 (v:=.sl (List.map aa p0)) rfl ?_));refine RS.op rfl (bG (en:=aa) (xs:=([]:List Item)) (ys:=p0) (r:=r) Ty.s26 (fun _=>rfl) rfl rfl rfl h rfl (aw':=[.dead,.arr 39 3 (List.map aa r)]) rfl ?_);refine RS.op rfl (OP.q rfl (cg (v:=.ref 1) rfl ?_));refine RS.nil ?_;refine T.ret ?_;refine dg (v:=.ref 1) rfl ?_;refine dh ?_;exact di (.ref 0) [] [1] (by decide) (bx _) rfl (bW rfl) (dc rfl dB rfl (bh)) ⟨rfl,rfl⟩
theorem w5 {p0 r:List Memory} (h:me p0=some r):FnO Tryz.prog 80 [.sl (List.map am p0)] (.ref 0) [.arr 122 3 (List.map am r)]:=by
 have hr:p0=r:=by
  unfold me app at h;split at h
  ·simpa using h
  ·cases h
 refine gR (N:=0) rfl Tryz.func80 rfl (by kernel_rfl) Tryz.ntmps80 rfl ?_;show T _ _ _ _ (mkA 8 [(0,.sl (List.map am p0))]) [];refine T.seq ?_;refine T.region ?_;refine RS.op rfl (OP.q rfl (cg (v:=.nils) rfl ?_));refine RS.nil ?_;refine T.seq ?_;refine T.seq ?_;refine T.region ?_;refine RS.op rfl (OP.q rfl (c0 (v:=.sl (List.map am p0)) rfl ?_));refine RS.op rfl (OP.q rfl (iF Ty.s50 rfl rfl (fun z hz=>?_)));refine RS.nil ?_;refine T.cond (b:=z) rfl (fun hb=>?_) (fun hb=>?_)
 ·refine T.seq ?_;refine T.region ?_;refine RS.op rfl (OP.q rfl (cg (v:=.nils) rfl ?_));refine RS.nil ?_;refine T.ret ?_;refine dg (v:=.nils) rfl ?_;refine dh ?_;have h0:p0=[]:=List.map_eq_nil_iff.1 (hz hb);exact di (.ref 0) [(0,122,3)] [0] (by decide) (bx _) rfl (bW rfl) (dc (en:=am) (ys:=[]) rfl jy (by rw [<- hr,h0]) (bh)) ⟨rfl,rfl⟩
 ·refine T.skip ?_;refine T.seq ?_;refine T.region ?_;refine RS.op rfl (aM (rows:=List.map am []) (vs:=[]) Ty.s50 Ty.z122 rfl rfl rfl rfl rfl (aw':=[.arr 122 3 (List.map am [])]) rfl ?_);refine RS.op rfl (OP.q rfl (c0 (v:=.sl (List.map am p0)) rfl ?_));refine RS.op rfl (bG (en:=am) (xs:=([]:List Memory)) (ys:=p0) (r:=r) Ty.s50 (fun _=>rfl) rfl rfl rfl h rfl (aw':=[.dead,.arr 122 3 (List.map am r)]) rfl ?_);refine RS.op rfl (OP.q rfl (cg (v:=.ref 1) rfl ?_));refine RS.nil ?_;refine T.ret ?_;refine dg (v:=.ref 1) rfl ?_;refine dh ?_;exact di (.ref 0) [] [1] (by decide) (bx _) rfl (bW rfl) (dc rfl jy rfl (bh)) ⟨rfl,rfl⟩
theorem kC {p0 r:List Choice} (h:jc p0=some r):FnO Tryz.prog 82 [.sl (List.map aF p0)] (.ref 0) [.arr 119 2 (List.map aF r)]:=by
 have hr:p0=r:=by
  unfold jc app at h;split at h
  ·simpa using h
  ·cases h
 refine gR (N:=0) rfl Tryz.func82 rfl (by kernel_rfl) Tryz.ntmps82 rfl ?_;show T _ _ _ _ (mkA 8 [(0,.sl (List.map aF p0))]) [];refine T.seq ?_;refine T.region ?_;refine RS.op rfl (OP.q rfl (cg (v:=.nils) rfl ?_));refine RS.nil ?_;refine T.seq ?_;refine T.seq ?_;refine T.region ?_;refine RS.op rfl (OP.q rfl (c0 (v:=.sl (List.map aF p0)) rfl ?_));refine RS.op rfl (OP.q rfl (iF Ty.s51 rfl rfl (fun z hz=>?_)));refine RS.nil ?_;refine T.cond (b:=z) rfl (fun hb=>?_) (fun hb=>?_)
 ·refine T.seq ?_;refine T.region ?_;refine RS.op rfl (OP.q rfl (cg (v:=.nils) rfl ?_));refine RS.nil ?_;refine T.ret ?_;refine dg (v:=.nils) rfl ?_;refine dh ?_;have h0:p0=[]:=List.map_eq_nil_iff.1 (hz hb);exact di (.ref 0) [(0,119,2)] [0] (by decide) (bx _) rfl (bW rfl) (dc (en:=aF) (ys:=[]) rfl jz (by rw [<- hr,h0]) (bh)) ⟨rfl,rfl⟩
 ·refine T.skip ?_;refine T.seq ?_;refine T.region ?_;refine RS.op rfl (aM (rows:=List.map aF []) (vs:=[]) Ty.s51 Ty.z119 rfl rfl rfl rfl rfl (aw':=[.arr 119 2 (List.map aF [])]) rfl ?_);refine RS.op rfl (OP.q rfl (c0 (v:=.sl (List.map aF p0)) rfl ?_));refine RS.op rfl (bG (en:=aF) (xs:=([]:List Choice)) (ys:=p0) (r:=r) Ty.s51 (fun _=>rfl) rfl rfl rfl h rfl (aw':=[.dead,.arr 119 2 (List.map aF r)]) rfl ?_);refine RS.op rfl (OP.q rfl (cg (v:=.ref 1) rfl ?_));refine RS.nil ?_;refine T.ret ?_;refine dg (v:=.ref 1) rfl ?_;refine dh ?_;exact di (.ref 0) [] [1] (by decide) (bx _) rfl (bW rfl) (dc rfl jz rfl (bh)) ⟨rfl,rfl⟩
theorem yq {p0 r:State} (h:jJ p0=some r):FnO Tryz.prog 55 [.agg (aH p0)] (.agg [.ref 0,.ref 1,.ref 2,.ref 3,.ref 4]) [aR 3 1 ah r.At,aR 26 1 (ae aa) r.Rings,aR 122 3 am r.Memory,aR 119 2 aF r.Choices,aR 39 3 aa r.Out]:=by
 unfold jJ at h;refine fT 0 0 Tryz.func55 Tryz.ntmps55 rfl ?_;refine B h fun x2 hx2 h=>(X 9 0 (sO (cO 2 (bP hx2) ⟨rfl,(B h fun x4 hx4 h=>(Y 7 3 (sO (cQ 3 (wA hx4) ⟨rfl,(Y 8 4 (sQ (bt (en:=(ae aa)) Ty.s25 rfl rfl (Y 3 4 (itr (fun ss_7:Int × (List (List Item))=>mkA 60 [(1,.ptr 0 0),(2,.ptr 1 0),(15,iI ((x4).length:Int)),(16,iI ss_7.1)]) (fun ss_7=>[.box [.ref 2,.ref 3,sL am p0.Memory,sL aF p0.Choices,sL aa p0.Out],.box [.nils,.nils,.nils,.nils,.nils],aR 3 1 ah x2,aR 26 1 (ae aa) ss_7.2]) h (wk [] [0,1,2,3] 4 rfl) (fun ss_7 v_8 h hv_8=>?_))))))⟩))))⟩)))
 obtain ⟨s5,s6⟩:=ss_7;replace h:gy p0 x2 x4 s5 s6=some v_8:=h;try dsimp only
 unfold gy at h;refine X 5 4 (T.ci h rfl (fun hb_9 h=>?_) (fun hb_9 h=>?_))
 ·refine B h fun x7 hx7 h=>(B h fun x8 hx8 h=>(B h fun x9 hx9 h=>(B h fun x10 hx10 h=>(B h fun x11 hx11 h=>(X 8 4 (T.drawn mixed (k:=11) rfl ?_))))))
  apply RA.jn 1 (bm 11 1023);intro hS10;apply RA.jn 3 (bm 11 255);intro hS11
  ·refine rq [0,2,3,5] 7 (rL [4,6,7,8,9,10] 4 rfl (r0 6 rfl (aA (en:=(ae aa)) Ty.s25 rfl rfl rfl hx7 (ra2 1 7 ?_ ?_))))
   ·exact og 4 ⟨rfl,(ra1 7 (oO rfl (aB (en:=(ae aa)) (a:=x8) rfl rfl hx8 (aE Ty.k26 (c:=sL aa x8) rfl (raE hS11)))))⟩
   ·refine oO rfl (aB (en:=(ae aa)) (a:=x8) rfl rfl hx8 (aE Ty.k26 (c:=sL aa x8) rfl (ra2 1 8 ?_ ?_)))
    ·exact og 4 ⟨rfl,(raT hS11)⟩
    ·exact oO rfl (cO 4 (dy hx9) ⟨rfl,(ra1 1 (og 5 ⟨rfl,(r0 9 rfl (aA (en:=(ae aa)) Ty.s25 rfl rfl rfl hx10 (raE hS10)))⟩))⟩)
  ·exact ra1 8 (oO rfl (cO 4 (dy hx9) ⟨rfl,(r0 9 rfl (aA (en:=(ae aa)) Ty.s25 rfl rfl rfl hx10 (raT hS10)))⟩))
  exact ra1 10 (RO.fC 4 (oO rfl (cB (en:=(ae aa)) (a:=x11) (a':=x9) Ty.c26 Ty.i26 rfl (vs:=[sL aa x9]) rfl rfl rfl hx11 rfl rfl rfl (RA.done (by decide +kernel) (X 4 5 (lk h (wk [] [0,1,2,3] 5 rfl)))))))
 refine X 1 4 ?_;replace h:=mi h hv_8;refine B h fun x13 hx13 h=>(X 4 4 (sO (cQ 4 (w5 hx13) ⟨rfl,(Y 8 5 (sQ (bt (en:=am) Ty.s50 rfl rfl (Y 3 5 (itr (fun ss_19:Int × (List Memory)=>mkA 60 [(1,.ptr 0 0),(2,.ptr 1 0),(36,iI ((x13).length:Int)),(37,iI ss_19.1)]) (fun ss_19=>[.box [.ref 2,.ref 3,.ref 4,sL aF p0.Choices,sL aa p0.Out],.box [.nils,.nils,.nils,.nils,.nils],aR 3 1 ah x2,aR 26 1 (ae aa) s6,aR 122 3 am ss_19.2]) h (wk [] [0,1,2,3,4] 5 rfl) (fun ss_19 v_20 h hv_20=>?_))))))⟩)))
 obtain ⟨s14,s15⟩:=ss_19;replace h:gw p0 x2 s6 x13 s14 s15=some v_20:=h;try dsimp only
 unfold gw at h;refine X 5 5 (T.ci h rfl (fun hb_21 h=>?_) (fun hb_21 h=>?_))
 ·refine B h fun x16 hx16 h=>(B h fun x17 hx17 h=>(B h fun x18 hx18 h=>(B h fun x19 hx19 h=>(B h fun x20 hx20 h=>(X 8 5 (T.drawn mixed (k:=11) rfl ?_))))))
  apply RA.jn 1 (bm 11 1023);intro hS22;apply RA.jn 3 (bm 11 255);intro hS23
  ·refine rq [0,2,3,5] 7 (rL [4,6,7,8,9,10] 4 rfl (r0 6 rfl (aA (en:=am) Ty.s50 rfl rfl rfl hx16 (ra2 1 7 ?_ ?_))))
   ·exact og 5 ⟨rfl,(ra1 7 (oO rfl (aB (en:=am) (a:=x17) rfl rfl hx17 (cm Ty.k122 Ty.c122 rfl (cs:=(am x17)) rfl (raE hS23)))))⟩
   ·refine oO rfl (aB (en:=am) (a:=x17) rfl rfl hx17 (cm Ty.k122 Ty.c122 rfl (cs:=(am x17)) rfl (ra2 1 8 ?_ ?_)))
    ·exact og 5 ⟨rfl,(raT hS23)⟩
    ·exact oO rfl (cG [] 5 1 (FnX.of_fnO (oq hx18)) ⟨rfl,(ra1 1 (og 6 ⟨rfl,(r0 9 rfl (aA (en:=am) Ty.s50 rfl rfl rfl hx19 (raE hS22)))⟩))⟩)
  ·exact ra1 8 (oO rfl (cG [] 5 1 (FnX.of_fnO (oq hx18)) ⟨rfl,(r0 9 rfl (aA (en:=am) Ty.s50 rfl rfl rfl hx19 (raT hS22)))⟩))
  exact ra1 10 (RO.fC 5 (oO rfl (cB (en:=am) (a:=x20) (a':=x18) Ty.c122 Ty.i122 rfl (vs:=[iI x18.Sum,sL aq x18.Keys,iI x18.Dep]) rfl rfl rfl hx20 rfl rfl rfl (RA.done (by decide +kernel) (X 4 6 (lk h (wk [] [0,1,2,3,4] 6 rfl)))))))
 refine X 1 5 ?_;replace h:=mi h hv_20;refine B h fun x22 hx22 h=>(X 4 5 (sO (cO 5 (kC hx22) ⟨rfl,(B h fun x24 hx24 h=>(Y 7 6 (sO (cO 6 (dy hx24) ⟨rfl,(Y 8 7 ?_)⟩))))⟩)))
 cases h;exact tO [] [2,3,4,5,6] 7
theorem eF {p0:List Item} {r:Item × (List Item) × Int} (h:lm p0=some r):FnO Tryz.prog 85 [sL aa p0] (.tup [.agg (aa r.1),.ref 0,iI r.2.2]) [aR 39 3 aa r.2.1]:=by
 unfold lm at h;refine fT 0 10 Tryz.func85 Tryz.ntmps85 rfl (sQ (aj Ty.s26 rfl (Y 2 1 (T.ci h rfl (fun hb_1 h=>?_) (fun hb_1 h=>?_)))))
 ·refine X 7 1 ?_;cases h;exact tO [(1,39,3)] [1] 1
 refine X 5 1 (sQ (aj Ty.s26 rfl (Y 2 1 (T.ci h rfl (fun hb_2 h=>?_) (fun hb_2 h=>?_)))))
 ·refine X 7 1 ?_;cases h;exact tO [(1,39,3)] [1] 1
 refine B h fun x4 hx4 h=>(B h fun x5 hx5 h=>(B h fun x6 hx6 h=>(X 2 1 (T.drawn mixed (k:=9) rfl ?_))))
 apply RA.jn 3 (bm 9 63);intro hS3
 ·refine rq [0] 8 (r0 1 rfl (ao Ty.s26 (fun _=>rfl) rfl rfl hx4 (rq [3] 6 (r0 4 rfl (df Ty.s26 (fun _=>rfl) rfl rfl rfl hx5 (ra2 2 5 ?_ ?_))))))
  ·exact og 1 ⟨rfl,(ra1 5 (oO rfl (cO 1 (dy hx6) ⟨rfl,(raE hS3)⟩)))⟩
  ·exact oO rfl (cO 1 (dy hx6) ⟨rfl,(ra1 2 (og 2 ⟨rfl,(raT hS3)⟩))⟩)
 refine ra1 6 (og 2 ⟨rfl,(rq [7,8] 0 (RA.done (by decide +kernel) ?_))⟩);cases h;exact tO [] [1] 2
theorem q7 {p0:List Item} {p1:Int} {p2:Item} {r:(List Item) × Int} (h:lA p0 p1 p2=some r):FnO Tryz.prog 88 [sL aa p0,iI p1,.agg (aa p2)] (.tup [.ref 0,iI r.2]) [aR 39 3 aa r.1]:=by
 unfold lA at h;refine fT 0 7 Tryz.func88 Tryz.ntmps88 rfl (j1 [(0,sL aa p0),(1,iI p1),(5,.ptr 0 0),(13,.bool ((decide (p1<1)) || decide (p1 > 6)))] [.box (aa p2)] ?_ (fun hK=>?_))
 ·refine T.ci h rfl (fun hb_2 h=>?_) (fun hb_2 h=>?_)
  ·refine X 5 1 ?_;cases h;exact tO [(0,39,3)] [1] 1
  refine X 5 1 (sQ (aj Ty.s26 rfl (Y 3 1 (T.ci h rfl (fun hb_3 h=>?_) (fun hb_3 h=>?_)))))
  ·refine X 5 1 ?_;cases h;exact tO [(0,39,3)] [1] 1
  refine X 5 1 (sQ (aj Ty.s26 rfl (Y 3 1 (T.ci h rfl (fun hb_4 h=>?_) (fun hb_4 h=>?_)))))
  ·refine X 5 1 ?_;cases h;exact tO [(0,39,3)] [1] 1
  refine B h fun x4 hx4 h=>(B h fun x5 hx5 h=>(X 2 1 (T.drawn mixed (k:=7) rfl ?_)))
  apply RA.jn 3 (bm 7 15);intro hS5;apply RA.jn 4 (bm 7 7);intro hS6
  ·refine rq [0] 6 (ra2 1 2 ?_ ?_)
   ·exact oO rfl (cO 1 (dy hx4) ⟨rfl,(ra1 2 (og 2 ⟨rfl,(raE hS6)⟩))⟩)
   ·refine og 1 ⟨rfl,(ra2 1 3 ?_ ?_)⟩
    ·exact oO rfl (cO 1 (dy hx4) ⟨rfl,(raT hS6)⟩)
    ·exact oO rfl (aM (rows:=List.map aa [p2]) (vs:=[.agg (aa p2)]) Ty.s26 Ty.z39 rfl rfl rfl rfl rfl rfl (ra1 1 (oO rfl (cO 2 (dy hx4) ⟨rfl,(raE hS5)⟩))))
  ·exact ra1 3 (oO rfl (aM (rows:=List.map aa [p2]) (vs:=[.agg (aa p2)]) Ty.s26 Ty.z39 rfl rfl rfl rfl rfl rfl (raV hS5 [0,2,1] rfl)))
  refine ra1 4 (oO rfl (bG (en:=aa) (xs:=x4) (ys:=([p2]:List Item)) Ty.s26 (fun _=>rfl) rfl rfl rfl hx5 rfl rfl (rq [5,6] 0 (RA.done (by decide +kernel) ?_))));cases h;exact tO [] [3] 4
 refine X 5 1 (gp 10 (fun hb_1=>?_) (fun hb_1=>?_))
 ·refine Yp 4 1 ?_;rw [hb_1] at hK;exact sx hK
 refine Yp 4 1 ?_;rw [hb_1] at hK;exact sx hK
theorem xz {p0:Net} {p1:List (List Item)} {p2:Move} {p3:List Int} {p4:List (List Item)} {p5:List Memory} {p6:List Choice} {p7:List Item} {r:(List Int) × (List (List Item)) × (List Memory) × (List Choice) × (List Item)} (h:jo p0 p1 p2 p3 p4 p5 p6 p7=some r):FnX Tryz.prog 57 [.agg (au p0),sL (ae aa) p1,.ptr 0 0,.agg (aD p2)] [.box [.ref 1,.ref 2,.ref 3,.ref 4,.ref 5],aR 3 1 ah p3,aR 26 1 (ae aa) p4,aR 122 3 am p5,aR 119 2 aF p6,aR 39 3 aa p7] (.tup []) [.box [.ref 1,.ref 2,.ref 3,.ref 6,.ref 7],aR 3 1 ah r.1,aR 26 1 (ae aa) r.2.1,aR 122 3 am r.2.2.1,.dead,.dead,aR 119 2 aF r.2.2.2.1,aR 39 3 aa r.2.2.2.2]:=by
 unfold jo at h;refine fT 6 0 Tryz.func57 Tryz.ntmps57 rfl ?_;refine mO 0 4 5 6 (mO 0 3 4 7 (B h fun x2 hx2 h=>(X 11 8 (sQ (ao Ty.s22 (fun _=>rfl) rfl rfl hx2 (B h fun x4 hx4 h=>(Y 5 10 (T.drawn mixed (k:=13) rfl ?_))))))));apply RA.jn 2 (bm 13 2047);intro hS1
 ·refine rq [1,2,3] 10 (rL [0,6,7,8,9,11,12] 0 rfl (rL [4,6,7,8,9,11,12] 4 rfl (rL [5,6,7,8,9,11,12] 5 rfl (ra2 6 10 ?_ ?_))))
  ·exact oO rfl (cF (ow hx4) ⟨rfl,(rq [7,8,9] 3 (ra1 10 (og 11 ⟨rfl,(raE hS1)⟩)))⟩)
  ·exact og 11 ⟨rfl,(ra1 6 (oO rfl (cF (ow hx4) ⟨rfl,(rq [7,8,9] 2 (raT hS1))⟩)))⟩
 refine ra1 11 (og 12 ⟨rfl,(rq [12] 0 (RA.done (by decide +kernel) (jn (Z:=(List Int) × (List (List Item))) (fun zz_21=>mkA 162 [(2,.ptr 0 0),(4,.ptr 6 0),(7,.ptr 7 0),(8,.ptr 8 0),(9,.ptr 9 0)]) (fun zz_21=>[.box [.ref 1,.ref 2,.ref 3,.ref 10,.ref 11],aR 3 1 ah zz_21.1,aR 26 1 (ae aa) zz_21.2,aR 122 3 am p5,.dead,.dead,.box (au p0),.box (aD p2),.box (ai x2),.box (aa x4.1),aR 119 2 aF p6,aR 39 3 aa p7]) (fun zz_21=>g8 p0 p2 x2 x4 p5 p6 p7 zz_21.1 zz_21.2=some r) (fun zz_21 h=>?_) (fun hK4=>?_))))⟩)
 ·obtain ⟨z16,z17⟩:=zz_21;replace h:g8 p0 p2 x2 x4 p5 p6 p7 z16 z17=some r:=h;try dsimp only
  unfold g8 at h;refine B h fun x19 hx19 h=>(X 4 12 (sO (cD (qT hx19) ⟨rfl,(Y 2 12 (jn (Z:=Int × (List Choice)) (fun zz_23=>mkA 162 [(2,.ptr 0 0),(4,.ptr 6 0),(7,.ptr 7 0),(8,.ptr 8 0),(9,.ptr 9 0),(11,sL ah x19)]) (fun zz_23=>[.box [.ref 1,.ref 2,.ref 3,.ref 10,.ref 11],aR 3 1 ah z16,aR 26 1 (ae aa) z17,aR 122 3 am p5,.dead,.dead,.box (au p0),.box (aD p2),.box (ai x2),.box [iI x4.1.Key,iI x4.1.Val,iI zz_23.1],aR 119 2 aF zz_23.2,aR 39 3 aa p7]) (fun zz_23=>g9 p0 p2 x2 x4 p5 p7 z16 z17 x19 zz_23.1 zz_23.2=some r) (fun zz_23 h=>?_) (fun hK3=>?_)))⟩)))
  ·obtain ⟨z22,z23⟩:=zz_23;replace h:g9 p0 p2 x2 x4 p5 p7 z16 z17 x19 z22 z23=some r:=h;try dsimp only
   unfold g9 at h;refine B h fun x29 hx29 h=>(B h fun x30 hx30 h=>(B h fun x31 hx31 h=>(B h fun x32 hx32 h=>(B h fun x33 hx33 h=>(X 1 12 (T.drawn mixed (k:=27) rfl ?_))))))
   apply RA.jn 2 (bm 27 33554431);intro hS24;apply RA.jn 4 (bm 27 16777183);intro hS25;apply RA.jn 8 (bm 27 524287);intro hS26;apply RA.jn 9 (bm 27 524255);intro hS27;apply RA.jn 9 (bm 27 524279);intro hS28;apply RA.jn 9 (bm 27 393215);intro hS29
   ·refine rq [0,1,2,4,6,8,10,11,12,14] 17 (rL [7,19,20,21,22,23,24,25,26] 7 rfl (rL [9,19,20,21,22,23,24,25,26] 9 rfl (rL [13,16,17,19,20,21,22,23,24,25,26] 13 rfl (rL [15,16,17,19,20,21,22,23,24,25,26] 15 rfl (r0 16 rfl (aA (en:=am) Ty.s50 rfl rfl rfl hx29 (rL [18,19,20,21,22,23,24,25,26] 18 rfl (ra3 3 5 17 ?_ ?_ ?_))))))))
    ·refine og 12 ⟨rfl,(ra2 5 17 ?_ ?_)⟩
     ·exact og 12 ⟨rfl,(raE hS29)⟩
     ·exact oO rfl (aB (en:=am) (a:=x30) rfl rfl hx30 (cm Ty.k122 Ty.c122 rfl (cs:=(am x30)) rfl (raE hS27)))
    ·refine og 12 ⟨rfl,(ra2 3 17 ?_ ?_)⟩
     ·exact og 12 ⟨rfl,(raT hS29)⟩
     ·exact oO rfl (aB (en:=am) (a:=x30) rfl rfl hx30 (cm Ty.k122 Ty.c122 rfl (cs:=(am x30)) rfl (raE hS28)))
    ·refine oO rfl (aB (en:=am) (a:=x30) rfl rfl hx30 (cm Ty.k122 Ty.c122 rfl (cs:=(am x30)) rfl (ra3 3 5 19 ?_ ?_ ?_)))
     ·exact og 12 ⟨rfl,(raT hS27)⟩
     ·exact og 12 ⟨rfl,(raT hS28)⟩
     ·exact oO rfl (cD (gz hx31) ⟨rfl,(rq [20,21,22,23] 5 (rL [3,24,25,26] 3 rfl (raE hS25)))⟩)
   ·exact ra1 17 (oO rfl (aB (en:=am) (a:=x30) rfl rfl hx30 (cm Ty.k122 Ty.c122 rfl (cs:=(am x30)) rfl (raE hS26))))
   ·refine ra2 3 19 ?_ ?_
    ·exact og 12 ⟨rfl,(raT hS26)⟩
    ·exact oO rfl (cD (gz hx31) ⟨rfl,(rq [20,21,22,23] 4 (ra1 3 (og 12 ⟨rfl,(r0 24 rfl (aA (en:=am) Ty.s50 rfl rfl rfl hx32 (raE hS24)))⟩)))⟩)
   ·refine ra2 5 19 ?_ ?_
    ·exact og 12 ⟨rfl,(raT hS26)⟩
    ·exact oO rfl (cD (gz hx31) ⟨rfl,(rq [20,21,22,23] 4 (raT hS25))⟩)
   ·exact ra1 19 (oO rfl (cD (gz hx31) ⟨rfl,(rq [20,21,22,23] 3 (r0 24 rfl (aA (en:=am) Ty.s50 rfl rfl rfl hx32 (raT hS24))))⟩))
   ·exact ra1 5 (og 12 ⟨rfl,(r0 24 rfl (aA (en:=am) Ty.s50 rfl rfl rfl hx32 (raT hS24)))⟩)
   refine ra1 25 (oO rfl (cB (en:=am) (a:=x33) (a':=x31.1) Ty.c122 Ty.i122 rfl (vs:=[iI x31.1.Sum,sL aq x31.1.Keys,iI x31.1.Dep]) rfl rfl rfl hx33 rfl rfl rfl (ra1 26 (og 12 ⟨rfl,(RA.done (by decide +kernel) (jn (Z:=List Item) (fun zz_31=>mkA 162 [(2,.ptr 0 0),(4,.ptr 6 0),(9,.ptr 7 0),(11,sL ah x19)]) (fun zz_31=>[.box [.ref 1,.ref 2,.ref 3,.ref 8,.ref 9],aR 3 1 ah z16,aR 26 1 (ae aa) z17,aR 122 3 am (List.set p5 x32 x31.1),.dead,.dead,.box (au p0),.box (aa x31.2.1),aR 119 2 aF z23,aR 39 3 aa zz_31]) (fun zz_31=>jf p0 p5 z16 z17 x19 z23 x31 x32 zz_31=some r) (fun zz_31 h=>?_) (fun hK2=>?_)))⟩))))
   ·revert h;revert zz_31;intro z35 h;replace h:jf p0 p5 z16 z17 x19 z23 x31 x32 z35=some r:=h;try dsimp only
    unfold jf at h;refine X 3 10 (sQ (aj Ty.s49 rfl (Y 3 10 (itr (fun ss_38:Int × (List (List Item))=>mkA 162 [(2,.ptr 0 0),(4,.ptr 6 0),(9,.ptr 7 0),(135,sL ah x19),(136,iI ((x19).length:Int)),(137,iI ss_38.1)]) (fun ss_38=>[.box [.ref 1,.ref 2,.ref 3,.ref 8,.ref 9],aR 3 1 ah z16,aR 26 1 (ae aa) ss_38.2,aR 122 3 am (List.set p5 x32 x31.1),.dead,.dead,.box (au p0),.box (aa x31.2.1),aR 119 2 aF z23,aR 39 3 aa z35]) h (wk [] [0,1,2,3,4,5,6,7,8,9] 10 rfl) (fun ss_38 v_39 h hv_39=>?_)))));obtain ⟨s36,s37⟩:=ss_38;replace h:gj p0 p5 z16 x19 z23 x31 x32 z35 s36 s37=some v_39:=h;try dsimp only
    unfold gj at h;refine X 5 10 (T.ci h rfl (fun hb_40 h=>?_) (fun hb_40 h=>?_))
    ·refine B h fun x39 hx39 h=>(X 5 10 (sQ (ao Ty.s49 (fun _=>rfl) rfl rfl hx39 (B h fun x40 hx40 h=>(B h fun x41 hx41 h=>(B h fun x42 hx42 h=>(B h fun x43 hx43 h=>(B h fun x44 hx44 h=>(Y 3 10 (T.drawn mixed (k:=21) rfl ?_))))))))))
     apply RA.jn 1 (bm 21 1048575);intro hS41;apply RA.jn 6 (bm 21 32767);intro hS42
     ·refine rq [0,1,2,4,5,6,7,9,12] 12 (rL [8,10,11,15,16,17,18,19,20] 8 rfl (r0 10 rfl (aA (en:=(ae aa)) Ty.s25 rfl rfl rfl hx40 (rL [13,15,16,17,18,19,20] 13 rfl (rL [14,15,16,17,18,19,20] 14 rfl (ra2 3 11 ?_ ?_))))))
      ·exact og 10 ⟨rfl,(ra1 11 (oO rfl (aB (en:=(ae aa)) (a:=x41) rfl rfl hx41 (aE Ty.k26 (c:=sL aa x41) rfl (raE hS42)))))⟩
      ·refine oO rfl (aB (en:=(ae aa)) (a:=x41) rfl rfl hx41 (aE Ty.k26 (c:=sL aa x41) rfl (ra2 3 15 ?_ ?_)))
       ·exact og 10 ⟨rfl,(raT hS42)⟩
       ·exact oO rfl (cO 10 (q7 hx42) ⟨rfl,(rq [16,17,18] 3 (ra1 3 (og 11 ⟨rfl,(r0 19 rfl (aA (en:=(ae aa)) Ty.s25 rfl rfl rfl hx43 (raE hS41)))⟩)))⟩)
     ·exact ra1 15 (oO rfl (cO 10 (q7 hx42) ⟨rfl,(rq [16,17,18] 2 (r0 19 rfl (aA (en:=(ae aa)) Ty.s25 rfl rfl rfl hx43 (raT hS41))))⟩))
     exact ra1 20 (RO.fC 10 (oO rfl (cB (en:=(ae aa)) (a:=x44) (a':=x42.1) Ty.c26 Ty.i26 rfl (vs:=[sL aa x42.1]) rfl rfl rfl hx44 rfl rfl rfl (RA.done (by decide +kernel) (X 4 11 (lk h (wk [] [0,1,2,3,4,5,6,7,8,9] 11 rfl)))))))
    refine X 1 10 ?_;replace h:=mi h hv_39;cases h;exact eN [0,1,2,3,4,5,8,9]
   refine X 7 12 (T.ci h rfl (fun hb_44 h=>?_) (fun hb_44 h=>?_))
   ·refine B h fun x34 hx34 h=>(T.drawn mixed (k:=11) rfl (rq [0,1,2,3] 7 (rL [4,7,8,9,10] 4 rfl (ra1 5 (og 12 ⟨rfl,(ra1 6 (oO rfl (aM (rows:=List.map aa [x31.2.1]) (vs:=[.agg (aa x31.2.1)]) Ty.s26 Ty.z39 rfl rfl rfl rfl rfl rfl (ra1 7 (oO rfl (bG (en:=aa) (xs:=p7) (ys:=([x31.2.1]:List Item)) Ty.s26 (fun _=>rfl) rfl rfl rfl hx34 rfl rfl ?_))))))⟩)))))
    exact rq [8,9] 1 (ra1 10 (og 14 ⟨rfl,(RA.done (by decide +kernel) (wu (hK2 x34 h) [] [0,1,2,3,4,5,6,9,10,13] 14 rfl))⟩))
   exact X 1 12 (wu (hK2 p7 h) [] [0,1,2,3,4,5,6,9,10,11] 12 rfl)
  refine X 7 12 (T.ci h rfl (fun hb_45 h=>?_) (fun hb_45 h=>?_))
  ·refine B h fun x21 hx21 h=>(X 1 12 (T.drawn mixed (k:=15) rfl (rq [0,1,2,3,5,7] 9 (rL [4,11,12,13,14] 4 rfl (rL [6,9,10,11,12,13,14] 6 rfl (ra1 8 (og 12 ⟨rfl,(rq [9] 5 (ra1 10 ?_))⟩)))))))
   refine oO rfl (aM (rows:=List.map aF [(⟨p2.Node,p2.Lane⟩:Choice)]) (vs:=[.agg (aD p2)]) Ty.s51 Ty.z119 rfl rfl rfl rfl rfl rfl (ra1 11 (oO rfl (bG (en:=aF) (xs:=p6) (ys:=([(⟨p2.Node,p2.Lane⟩:Choice)]:List Choice)) Ty.s51 (fun _=>rfl) rfl rfl rfl hx21 rfl rfl (rq [12,13] 1 (ra1 14 (og 14 ⟨rfl,(RA.done (by decide +kernel) (X 5 14 (sQ (bt (en:=aF) Ty.s51 rfl rfl (Y 3 14 ?_)))))⟩)))))));exact wu (hK3 (((x21).length:Int),x21) h) [] [0,1,2,3,4,5,6,7,8,9,13,11] 14 rfl
  exact X 1 12 (sx (hK3 (x4.1.Dep,p6) h))
 refine X 7 12 (T.ci h rfl (fun hb_46 h=>?_) (fun hb_46 h=>?_))
 ·refine B h fun x5 hx5 h=>(B h fun x6 hx6 h=>(B h fun x7 hx7 h=>(B h fun x8 hx8 h=>(T.drawn mixed (k:=11) rfl (rq [0,1,2,4] 7 (rL [3,6,7,8,9,10] 3 rfl (ra1 5 (og 12 ⟨rfl,(r0 6 rfl (aA (en:=ah) Ty.s49 rfl rfl rfl hx5 ?_))⟩))))))))
  exact ra1 7 (oO rfl (aB (en:=ah) (a:=x6) rfl rfl hx6 (aE Ty.k3 (c:=iI x6) rfl (rq [8] 2 (r0 9 rfl (aA (en:=ah) Ty.s49 rfl rfl rfl hx7 (ra1 10 (oO rfl (cB (en:=ah) (a:=x8) (a':=IntKind.i64.wrap (x6+1)) Ty.c3 Ty.i3 rfl (vs:=[iI (IntKind.i64.wrap (x6+1))]) rfl rfl rfl hx8 rfl rfl rfl (RA.done (by decide +kernel) (wu (hK4 ((List.set p3 x7 (IntKind.i64.wrap (x6+1))),p4) h) [] [0,1,2,3,4,5,8,9,10,11,7,6] 12 rfl)))))))))))
 refine B h fun x9 hx9 h=>(B h fun x10 hx10 h=>(B h fun x11 hx11 h=>(B h fun x12 hx12 h=>(B h fun x13 hx13 h=>(B h fun x14 hx14 h=>(B h fun x15 hx15 h=>(T.drawn mixed (k:=29) rfl ?_)))))))
 apply RA.jn 1 (bm 29 268435455);intro hS47;apply RA.jn 3 (bm 29 134217215);intro hS48;apply RA.jn 5 (bm 29 134216831);intro hS49;apply RA.jn 5 (bm 29 134216927);intro hS50;apply RA.jn 7 (bm 29 4194303);intro hS51;apply RA.jn 8 (bm 29 4193791);intro hS52;apply RA.jn 8 (bm 29 4194295);intro hS53;apply RA.jn 8 (bm 29 2097151);intro hS54;apply RA.jn 9 (bm 29 4193783);intro hS55;apply RA.jn 9 (bm 29 2096639);intro hS56;apply RA.jn 10 (bm 29 4193503);intro hS57;apply RA.jn 10 (bm 29 4193407);intro hS58;apply RA.jn 10 (bm 29 2096631);intro hS59;apply RA.jn 11 (bm 29 4193375);intro hS60;apply RA.jn 11 (bm 29 4193399);intro hS61;apply RA.jn 11 (bm 29 4193495);intro hS62;apply RA.jn 11 (bm 29 2096351);intro hS63;apply RA.jn 11 (bm 29 2096255);intro hS64
 ·refine rq [0,1,2,4,6,10,11,12,14,16] 19 (rL [13,20,21,22,23,24,25,26,27,28] 13 rfl (rL [15,18,19,20,21,22,23,24,25,26,27,28] 15 rfl (rL [17,18,19,20,21,22,23,24,25,26,27,28] 17 rfl (r0 18 rfl (ao Ty.s49 (fun _=>rfl) rfl rfl hx10 (rL [19,20,21,22,23,24,25,26,27,28] 19 rfl (r0 20 rfl (aA (en:=(ae aa)) Ty.s25 rfl rfl rfl hx11 (ra4 3 5 7 21 ?_ ?_ ?_ ?_)))))))))
  ·refine og 12 ⟨rfl,(ra3 5 7 21 ?_ ?_ ?_)⟩
   ·exact og 12 ⟨rfl,(raE hS64)⟩
   ·exact og 12 ⟨rfl,(raE hS63)⟩
   ·exact oO rfl (aB (en:=(ae aa)) (a:=x12) rfl rfl hx12 (aE Ty.k26 (c:=sL aa x12) rfl (raE hS60)))
  ·refine og 12 ⟨rfl,(ra3 3 7 21 ?_ ?_ ?_)⟩
   ·exact og 12 ⟨rfl,(raT hS64)⟩
   ·exact og 12 ⟨rfl,(r0 8 rfl (ao Ty.s49 (fun _=>rfl) rfl rfl hx9 (raE hS59)))⟩
   ·exact oO rfl (aB (en:=(ae aa)) (a:=x12) rfl rfl hx12 (aE Ty.k26 (c:=sL aa x12) rfl (raE hS61)))
  ·refine og 12 ⟨rfl,(ra3 3 5 21 ?_ ?_ ?_)⟩
   ·exact og 12 ⟨rfl,(raT hS63)⟩
   ·exact og 12 ⟨rfl,(r0 8 rfl (ao Ty.s49 (fun _=>rfl) rfl rfl hx9 (raT hS59)))⟩
   ·exact oO rfl (aB (en:=(ae aa)) (a:=x12) rfl rfl hx12 (aE Ty.k26 (c:=sL aa x12) rfl (raE hS62)))
  ·refine oO rfl (aB (en:=(ae aa)) (a:=x12) rfl rfl hx12 (aE Ty.k26 (c:=sL aa x12) rfl (ra4 3 5 7 22 ?_ ?_ ?_ ?_)))
   ·exact og 12 ⟨rfl,(raT hS60)⟩
   ·exact og 12 ⟨rfl,(raT hS61)⟩
   ·exact og 12 ⟨rfl,(raT hS62)⟩
   ·exact oO rfl (cO 12 (eF hx13) ⟨rfl,(rq [23,24,25,26] 7 (rL [3,27,28] 3 rfl (rL [5,8,9,27,28] 5 rfl (raE hS49))))⟩)
 ·refine ra2 7 21 ?_ ?_
  ·exact og 12 ⟨rfl,(r0 8 rfl (ao Ty.s49 (fun _=>rfl) rfl rfl hx9 (raE hS56)))⟩
  ·exact oO rfl (aB (en:=(ae aa)) (a:=x12) rfl rfl hx12 (aE Ty.k26 (c:=sL aa x12) rfl (raE hS58)))
 ·refine ra2 5 21 ?_ ?_
  ·exact og 12 ⟨rfl,(r0 8 rfl (ao Ty.s49 (fun _=>rfl) rfl rfl hx9 (raT hS56)))⟩
  ·exact oO rfl (aB (en:=(ae aa)) (a:=x12) rfl rfl hx12 (aE Ty.k26 (c:=sL aa x12) rfl (raE hS57)))
 ·refine ra3 3 5 22 ?_ ?_ ?_
  ·exact og 12 ⟨rfl,(raT hS57)⟩
  ·exact og 12 ⟨rfl,(r0 8 rfl (ao Ty.s49 (fun _=>rfl) rfl rfl hx9 (raE hS55)))⟩
  ·exact oO rfl (cO 12 (eF hx13) ⟨rfl,(rq [23,24,25,26] 6 (rL [3,27,28] 3 rfl (raE hS50)))⟩)
 ·refine ra3 3 7 22 ?_ ?_ ?_
  ·exact og 12 ⟨rfl,(raT hS58)⟩
  ·exact og 12 ⟨rfl,(r0 8 rfl (ao Ty.s49 (fun _=>rfl) rfl rfl hx9 (raT hS55)))⟩
  ·exact oO rfl (cO 12 (eF hx13) ⟨rfl,(rq [23,24,25,26] 6 (rL [3,27,28] 3 rfl (raT hS49)))⟩)
 ·refine ra3 5 7 22 ?_ ?_ ?_
  ·exact og 12 ⟨rfl,(raT hS58)⟩
  ·exact og 12 ⟨rfl,(raT hS57)⟩
  ·exact oO rfl (cO 12 (eF hx13) ⟨rfl,(rq [23,24,25,26] 6 (rL [5,8,9,27,28] 5 rfl (raT hS49)))⟩)
 ·refine ra3 3 9 21 ?_ ?_ ?_
  ·exact og 12 ⟨rfl,(raT hS56)⟩
  ·refine og 12 ⟨rfl,(ra2 3 21 ?_ ?_)⟩
   ·exact og 12 ⟨rfl,(raE hS54)⟩
   ·exact oO rfl (aB (en:=(ae aa)) (a:=x12) rfl rfl hx12 (aE Ty.k26 (c:=sL aa x12) rfl (raE hS53)))
  ·exact oO rfl (aB (en:=(ae aa)) (a:=x12) rfl rfl hx12 (aE Ty.k26 (c:=sL aa x12) rfl (raT hS55)))
 ·refine ra2 7 22 ?_ ?_
  ·exact og 12 ⟨rfl,(r0 8 rfl (ao Ty.s49 (fun _=>rfl) rfl rfl hx9 (raE hS52)))⟩
  ·exact oO rfl (cO 12 (eF hx13) ⟨rfl,(rq [23,24,25,26] 5 (raT hS49))⟩)
 ·refine ra2 5 22 ?_ ?_
  ·exact og 12 ⟨rfl,(r0 8 rfl (ao Ty.s49 (fun _=>rfl) rfl rfl hx9 (raT hS52)))⟩
  ·exact oO rfl (cO 12 (eF hx13) ⟨rfl,(rq [23,24,25,26] 5 (raT hS50))⟩)
 ·refine ra2 9 21 ?_ ?_
  ·exact og 12 ⟨rfl,(raT hS54)⟩
  ·exact oO rfl (aB (en:=(ae aa)) (a:=x12) rfl rfl hx12 (aE Ty.k26 (c:=sL aa x12) rfl (raT hS52)))
 ·refine ra3 3 9 22 ?_ ?_ ?_
  ·exact og 12 ⟨rfl,(raT hS52)⟩
  ·exact og 12 ⟨rfl,(raT hS53)⟩
  ·exact oO rfl (cO 12 (eF hx13) ⟨rfl,(rq [23,24,25,26] 4 (rL [3,27,28] 3 rfl (raE hS48)))⟩)
 ·exact ra1 21 (oO rfl (aB (en:=(ae aa)) (a:=x12) rfl rfl hx12 (aE Ty.k26 (c:=sL aa x12) rfl (raE hS51))))
 ·refine ra2 3 22 ?_ ?_
  ·exact og 12 ⟨rfl,(raT hS51)⟩
  ·exact oO rfl (cO 12 (eF hx13) ⟨rfl,(rq [23,24,25,26] 3 (ra1 3 (og 13 ⟨rfl,(r0 27 rfl (aA (en:=(ae aa)) Ty.s25 rfl rfl rfl hx14 (raE hS47)))⟩)))⟩)
 ·refine ra2 9 22 ?_ ?_
  ·exact og 12 ⟨rfl,(raT hS51)⟩
  ·exact oO rfl (cO 12 (eF hx13) ⟨rfl,(rq [23,24,25,26] 3 (raT hS48))⟩)
 ·exact ra1 22 (oO rfl (cO 12 (eF hx13) ⟨rfl,(rq [23,24,25,26] 2 (r0 27 rfl (aA (en:=(ae aa)) Ty.s25 rfl rfl rfl hx14 (raT hS47))))⟩))
 ·exact ra1 5 (og 13 ⟨rfl,(r0 8 rfl (ao Ty.s49 (fun _=>rfl) rfl rfl hx9 (raT hS48)))⟩)
 ·exact ra1 7 (og 13 ⟨rfl,(r0 8 rfl (ao Ty.s49 (fun _=>rfl) rfl rfl hx9 (raT hS48)))⟩)
 ·exact ra1 9 (og 13 ⟨rfl,(r0 27 rfl (aA (en:=(ae aa)) Ty.s25 rfl rfl rfl hx14 (raT hS47)))⟩)
 exact ra1 28 (RO.fC 12 (oO rfl (cB (en:=(ae aa)) (a:=x15) (a':=x13.2.1) Ty.c26 Ty.i26 rfl (vs:=[sL aa x13.2.1]) rfl rfl rfl hx15 rfl rfl rfl (RA.done (by decide +kernel) (wu (hK4 (p3,(List.set p4 x14 x13.2.1)) h) [] [0,1,2,3,4,5,8,9,10,11,7,6] 13 rfl)))))
end
section
open Go.RowKit Go.Shelf
set_option maxRecDepth 100000
set_option maxHeartbeats 4000000
def iR:Go.Shelf.Ren:=⟨fun n=>match n with | 129=>102 | 171=>92 | 243=>117 | 246=>136 | 283=>159 | 284=>160 | 285=>161 | 286=>162 | 317=>170 | 318=>171 | 319=>172 | 320=>173 | 337=>177 | 338=>178 | _=>0,fun n=>match n with | 0=>0 | 2=>2 | 3=>3 | 4=>4 | 5=>5 | 9=>9 | 20=>20 | 37=>93 | 46=>111 | 51=>155 | 53=>157 | 171=>217 | 173=>219 | 212=>229 | 213=>230 | 232=>237 | 233=>238 | _=>0,fun n=>match n with | 17=>0 | 18=>1 | 19=>2 | _=>0⟩
theorem iL:Lays.n171 Tryz.prog iR where
 mixed:=by kernel_rfl
 f129:=by kernel_rfl
 f171:=by kernel_rfl
 f243:=by kernel_rfl
 f246:=by kernel_rfl
 f283:=by kernel_rfl
 f284:=by kernel_rfl
 f285:=by kernel_rfl
 f286:=by kernel_rfl
 f317:=by kernel_rfl
 f318:=by kernel_rfl
 f319:=by kernel_rfl
 f320:=by kernel_rfl
 f337:=by kernel_rfl
 f338:=by kernel_rfl
 t0:=by kernel_rfl
 a0:=fun w=>by kernel_rfl
 z0:=fun w=>by kernel_rfl
 v0:=fun w=>by kernel_rfl
 t2:=by kernel_rfl
 a2:=fun w=>by kernel_rfl
 z2:=fun w=>by kernel_rfl
 v2:=fun w=>by kernel_rfl
 t3:=by kernel_rfl
 a3:=fun w=>by kernel_rfl
 z3:=fun w=>by kernel_rfl
 v3:=fun w=>by kernel_rfl
 t4:=by kernel_rfl
 a4:=fun w=>by kernel_rfl
 z4:=fun w=>by kernel_rfl
 v4:=fun w=>by kernel_rfl
 t5:=by kernel_rfl
 a5:=fun w=>by kernel_rfl
 z5:=fun w=>by kernel_rfl
 v5:=fun w=>by kernel_rfl
 t9:=by kernel_rfl
 a9:=fun w=>by kernel_rfl
 z9:=fun w=>by kernel_rfl
 v9:=fun w=>by kernel_rfl
 t20:=by kernel_rfl
 a20:=fun w=>by kernel_rfl
 z20:=fun w=>by kernel_rfl
 v20:=fun w=>by kernel_rfl
 t37:=by kernel_rfl
 a37:=fun w=>by kernel_rfl
 z37:=fun w=>by kernel_rfl
 v37:=fun w=>by kernel_rfl
 t46:=by kernel_rfl
 a46:=fun w=>by kernel_rfl
 z46:=fun w=>by kernel_rfl
 v46:=fun w=>by kernel_rfl
 t51:=by kernel_rfl
 a51:=fun w=>by kernel_rfl
 z51:=fun w=>by kernel_rfl
 v51:=fun w=>by kernel_rfl
 t53:=by kernel_rfl
 a53:=fun w=>by kernel_rfl
 z53:=fun w=>by kernel_rfl
 v53:=fun w=>by kernel_rfl
 t171:=by kernel_rfl
 a171:=fun w=>by kernel_rfl
 z171:=fun w=>by kernel_rfl
 v171:=fun w=>by kernel_rfl
 t173:=by kernel_rfl
 a173:=fun w=>by kernel_rfl
 z173:=fun w=>by kernel_rfl
 v173:=fun w=>by kernel_rfl
 t212:=by kernel_rfl
 a212:=fun w=>by kernel_rfl
 z212:=fun w=>by kernel_rfl
 v212:=fun w=>by kernel_rfl
 t213:=by kernel_rfl
 a213:=fun w=>by kernel_rfl
 z213:=fun w=>by kernel_rfl
 t232:=by kernel_rfl
 a232:=fun w=>by kernel_rfl
 z232:=fun w=>by kernel_rfl
 v232:=fun w=>by kernel_rfl
 t233:=by kernel_rfl
 a233:=fun w=>by kernel_rfl
 z233:=fun w=>by kernel_rfl
 v233:=fun w=>by kernel_rfl
 g17:=by kernel_rfl
 g18:=by kernel_rfl
 g19:=by kernel_rfl
theorem BJ (p0:Int) (r:List UInt8) (h:itoaS p0=some r):Fn Tryz.prog 92 [.int .i64 p0] (.str r):=by
 unfold itoaS at h;split at h
 ·rename_i h0;injection h with h
  subst h;refine ⟨callable Tryz.func92 rfl (by kernel_rfl),fun w F σ vs hs hr=>?_⟩;match vs,hr with
  | [v0],hr =>
   have r0:Rel σ w F (.int .i64 p0) v0:=hr.2 0 _ v0 rfl rfl
   cases r0
   obtain ⟨i,rfl⟩:=Int.eq_ofNat_of_zero_le h0.1
   refine (Any.strconv_Itoa_small iL i (by omega) w).mono ?_
   rintro e w' ⟨rfl,rfl⟩
   exact ⟨_,_,[],σ,F,rfl,⟨rfl,rfl⟩,hs,.str _,.refl ..⟩
 ·cases h
end
section
open Go.RowKit Go.Shelf
set_option maxRecDepth 100000
set_option maxHeartbeats 4000000
def rRen:Go.Shelf.Ren:=⟨fun n=>match n with | 6=>33 | 14=>64 | 15=>65 | 20=>93 | 21=>94 | 22=>95 | 23=>96 | 24=>97 | 25=>98 | 26=>99 | 27=>100 | 28=>101 | 29=>102 | 46=>118 | 47=>119 | 48=>120 | 49=>121 | 50=>122 | 57=>137 | 60=>179 | 61=>180 | 62=>181 | 63=>182 | 64=>183 | 65=>184 | 66=>185 | 67=>186 | 68=>187 | 69=>188 | 70=>189 | 71=>190 | 72=>191 | 73=>192 | 74=>193 | 75=>197 | _=>0,fun n=>match n with | 0=>0 | 1=>1 | 2=>2 | 3=>3 | 4=>4 | 5=>5 | 6=>6 | 7=>7 | 8=>8 | 9=>9 | 10=>10 | 11=>11 | 12=>12 | 13=>13 | 14=>14 | 15=>15 | 16=>16 | 17=>17 | 18=>18 | 19=>19 | 20=>20 | 21=>21 | 22=>25 | 23=>71 | 24=>26 | 25=>70 | 27=>49 | 29=>43 | 37=>109 | 38=>110 | 39=>111 | 40=>41 | 42=>112 | 44=>147 | 45=>148 | 46=>149 | 47=>150 | 48=>151 | 49=>152 | 50=>75 | 51=>153 | 52=>154 | 53=>155 | 54=>156 | 55=>157 | 66=>173 | 67=>174 | 68=>175 | 69=>176 | 70=>177 | 71=>178 | 76=>201 | 77=>202 | 78=>203 | 81=>239 | 82=>240 | 83=>241 | 84=>242 | 85=>243 | 86=>244 | 87=>186 | 88=>245 | 89=>246 | 90=>247 | 91=>248 | 92=>249 | 93=>250 | 94=>251 | 95=>252 | 96=>179 | _=>0,fun n=>n⟩
theorem rLay:SlLaysF.n6 Tryz.prog rRen where
 mixed:=by kernel_rfl
 f6:=⟨ "slices.SortFunc[[][]crossroads/api.Item,[]crossroads/api.Item]", by kernel_rfl,by kernel_rfl⟩
 f14:=⟨ "slices.pdqsortCmpFunc[[]crossroads/api.Item]", by kernel_rfl,by kernel_rfl⟩
 f15:=by kernel_rfl
 f20:=⟨ "slices.insertionSortCmpFunc[[]crossroads/api.Item]", by kernel_rfl,by kernel_rfl⟩
 f21:=⟨ "slices.heapSortCmpFunc[[]crossroads/api.Item]", by kernel_rfl,by kernel_rfl⟩
 f22:=⟨ "slices.breakPatternsCmpFunc[[]crossroads/api.Item]", by kernel_rfl,by kernel_rfl⟩
 f23:=⟨ "slices.choosePivotCmpFunc[[]crossroads/api.Item]", by kernel_rfl,by kernel_rfl⟩
 f24:=⟨ "slices.reverseRangeCmpFunc[[]crossroads/api.Item]", by kernel_rfl,by kernel_rfl⟩
 f25:=⟨ "slices.partialInsertionSortCmpFunc[[]crossroads/api.Item]", by kernel_rfl,by kernel_rfl⟩
 f26:=⟨ "slices.partitionEqualCmpFunc[[]crossroads/api.Item]", by kernel_rfl,by kernel_rfl⟩
 f27:=⟨ "slices.partitionCmpFunc[[]crossroads/api.Item]", by kernel_rfl,by kernel_rfl⟩
 f28:=by kernel_rfl
 f29:=by kernel_rfl
 f46:=⟨ "slices.siftDownCmpFunc[[]crossroads/api.Item]", by kernel_rfl,by kernel_rfl⟩
 f47:=by kernel_rfl
 f48:=by kernel_rfl
 f49:=⟨ "slices.medianAdjacentCmpFunc[[]crossroads/api.Item]", by kernel_rfl,by kernel_rfl⟩
 f50:=⟨ "slices.medianCmpFunc[[]crossroads/api.Item]", by kernel_rfl,by kernel_rfl⟩
 f57:=⟨ "slices.order2CmpFunc[[]crossroads/api.Item]", by kernel_rfl,by kernel_rfl⟩
 t0:=by kernel_rfl
 a0:=fun w=>by kernel_rfl
 z0:=fun w=>by kernel_rfl
 v0:=fun w=>by kernel_rfl
 t3:=by kernel_rfl
 a3:=fun w=>by kernel_rfl
 z3:=fun w=>by kernel_rfl
 v3:=fun w=>by kernel_rfl
 t4:=by kernel_rfl
 a4:=fun w=>by kernel_rfl
 z4:=fun w=>by kernel_rfl
 v4:=fun w=>by kernel_rfl
 t5:=by kernel_rfl
 a5:=fun w=>by kernel_rfl
 z5:=fun w=>by kernel_rfl
 v5:=fun w=>by kernel_rfl
 t9:=by kernel_rfl
 a9:=fun w=>by kernel_rfl
 z9:=fun w=>by kernel_rfl
 v9:=fun w=>by kernel_rfl
 t22:=by kernel_rfl
 a22:=fun w=>by kernel_rfl
 z22:=fun w=>by kernel_rfl
 v22:=fun w=>by kernel_rfl
 a24:=fun w=>by kernel_rfl
 z24:=fun w=>by kernel_rfl
 t25:=by kernel_rfl
 a25:=fun w=>by kernel_rfl
 z25:=fun w=>by kernel_rfl
 v25:=fun w=>by kernel_rfl
 t39:=by kernel_rfl
 a39:=fun w=>by kernel_rfl
 z39:=fun w=>by kernel_rfl
 v39:=fun w=>by kernel_rfl
 t45:=by kernel_rfl
 a45:=fun w=>by kernel_rfl
 z45:=fun w=>by kernel_rfl
 v45:=fun w=>by kernel_rfl
 t46:=by kernel_rfl
 a46:=fun w=>by kernel_rfl
 z46:=fun w=>by kernel_rfl
 v46:=fun w=>by kernel_rfl
 t50:=by kernel_rfl
 a50:=fun w=>by kernel_rfl
 z50:=fun w=>by kernel_rfl
 v50:=fun w=>by kernel_rfl
 t53:=by kernel_rfl
 a53:=fun w=>by kernel_rfl
 z53:=fun w=>by kernel_rfl
 v53:=fun w=>by kernel_rfl
 t55:=by kernel_rfl
 a55:=fun w=>by kernel_rfl
 z55:=fun w=>by kernel_rfl
 v55:=fun w=>by kernel_rfl
 t66:=by kernel_rfl
 a66:=fun w=>by kernel_rfl
 z66:=fun w=>by kernel_rfl
 v66:=fun w=>by kernel_rfl
 t70:=by kernel_rfl
 a70:=fun w=>by kernel_rfl
 z70:=fun w=>by kernel_rfl
 v70:=fun w=>by kernel_rfl
 t76:=by kernel_rfl
 a76:=fun w=>by kernel_rfl
 z76:=fun w=>by kernel_rfl
 v76:=fun w=>by kernel_rfl
 t77:=by kernel_rfl
 a77:=fun w=>by kernel_rfl
 z77:=fun w=>by kernel_rfl
 v77:=fun w=>by kernel_rfl
open Go.Sort Go.Lib
theorem Bx {aw':List Ob} {σ σ':List Value} {F F':Nat->Prop} {W w':World} (h:Mv [] σ W F aw' σ' w' F'):∃ q os',w'=Sort.grow (W.drewN q) os':=by
 have hk:∀ b,b<W.heap.size->w'.heap[b]?=W.heap[b]?:=fun b hb=>h.keep b hb (fun ⟨k,o,v,ho,_⟩=>by simp at ho)
 have hs:=h.size;have hd:=h.output.2;have e1:w'.heap=W.heap++w'.heap.extract W.heap.size w'.heap.size:=by
  apply Array.ext_getElem?;intro i;by_cases hi:i<W.heap.size
  ·rw [Array.getElem?_append_left hi,hk i hi]
  ·rw [Array.getElem?_append_right (by omega),Array.getElem?_extract];by_cases h2:i<w'.heap.size
   ·rw [if_pos (by omega)];congr 1;omega
   ·rw [if_neg (by omega),Array.getElem?_eq_none (by omega)]
 refine ⟨w'.drawn - W.drawn,w'.heap.extract W.heap.size w'.heap.size,?_⟩;have h1:=h.os;have h2:=h.tape;have h3:=h.output.1;obtain ⟨hp,tp,dr,os,out⟩:=w';simp only [Sort.grow,World.drewN] at *;rw [<- e1,h1,h2,h3];congr 1;omega
abbrev cf (σ:List Value) (w:World) (F:Nat->Prop):={p:List Item × Value // Rel σ w F (sL aa p.1) p.2/\dep0 p.1=true}
theorem u4 {σ:List Value} {w:World} {F:Nat->Prop}:∀ (xs:List (List Item)) (flat:List Value),RelL σ w F (xs.map (ae aa)).flatten flat->xs.all dep0=true->∃ ds:List (cf σ w F),ds.map (·.1.1)=xs/\ds.map (·.1.2)=flat
 | [],flat,h,_=>⟨[],rfl,(List.eq_nil_of_length_eq_zero h.1).symm⟩
 | x::xs,[],h,_=>absurd h.1 (by simp [ae])
 | x::xs,v::flat,h,h0=>by
  rw [List.all_cons,Bool.and_eq_true] at h0;obtain ⟨ds,h1,h2⟩:=u4 xs flat ⟨by have:=h.1;simp [ae] at this ⊢;omega,fun j y u hy hu=>h.2 (j+1) y u (by simpa [ae] using hy) (by simpa using hu)⟩ h0.2;exact ⟨⟨(x,v),h.2 0 _ v (by simp [ae]) rfl,h0.1⟩::ds,by simp [h1],by simp [h2]⟩
theorem sJ {σ:List Value} {w:World} {F:Nat->Prop}:∀ (ds:List (cf σ w F)),RelL σ w F ((ds.map (·.1.1)).map (ae aa)).flatten (ds.map (·.1.2))
 | []=>.nil
 | d::ds=>.cons d.2.1 (sJ ds)
theorem vp {σ:List Value} {w:World} {F:Nat->Prop} (d:cf σ w F):d.1.2.oneCell'=true:=by
 obtain ⟨⟨x,v⟩,h,_⟩:=d;have h:Rel σ w F (.sl (List.map aa x)) v:=h;show v.oneCell'=true;generalize List.map aa x=rows at h;cases h<;>rfl
theorem vq {σ:List Value} {w:World} {F:Nat->Prop} (d:cf σ w F):d.1.1.length<=maxLen:=by
 obtain ⟨⟨x,v⟩,h,_⟩:=d;have h:Rel σ w F (.sl (List.map aa x)) v:=h;show x.length<=maxLen;generalize hr:List.map aa x=rows at h;have hl:x.length=rows.length:=by rw [<- hr,List.length_map]
 cases h with
 | slNil=>rw [hl];exact Nat.zero_le _
 | sl _ _ _ c _ _ hn hm=>omega
set_option linter.unusedSimpArgs false in
theorem r6 (BY:FuncId) (f:List Item->List Item->Option Int) (hc:∀ {a b:List Item} {r:Int},f a b=some r->Fn Tryz.prog BY [sL aa a,sL aa b] (iI r))
  (hf:∀ a b,a.length<=maxLen->b.length<=maxLen->dep0 a=true->dep0 b=true->f a b=some (cfR a b)) {p0 r:List (List Item)} (h:sortR p0=some r) :
  FnX Tryz.prog 33 [.ref 0,.func BY []] [.arr 26 1 (List.map (ae aa) p0)] (.tup []) [.arr 26 1 (List.map (ae aa) r)]:=by
 unfold sortR at h
 split at h
 rotate_left
 ·cases h
 rename_i hlt
 obtain ⟨hlt,hd0⟩:=hlt
 cases h
 refine ⟨callable Tryz.func33 rfl (by kernel_rfl),fun w F σ vs hs hr=>?_⟩
 match vs,hr with
 | [v0, v1],hr =>
  have r0:Rel σ w F (.ref 0) v0:=hr.2 0 _ v0 rfl rfl
  have r1:Rel σ w F (.func BY []) v1:=hr.2 1 _ v1 rfl rfl
  cases r0 with
  | ref _ A q cp hσ0 =>
  cases r1 with
  | func _ _ lb hl hcc =>
  match lb,hl,hcc with
  | [], hl,hcc =>
   obtain ⟨hq,flat,hown,hfl,hcase⟩:=dC hs (id:=0) rfl hσ0
   rw [List.length_map] at hq
   subst hq
   have grown:∀ (W:World) (os:Array Obj) (b:Nat),b<W.heap.size->(Sort.grow W os).heap[b]?=W.heap[b]?:=fun W os b hb=>by
    show (W.heap++os)[b]?=_;rw [Array.getElem?_append_left hb]
   by_cases h0:p0=[]
   ·subst h0
    have hN:=AnyF.slices_SortFunc_none (ρ:=rRen) { rLay with } A cp (.func (.func BY) #[] #[]) w
    change Calls Tryz.prog 33 _ _ _ at hN
    refine hN.mono ?_
    rintro e w' ⟨rfl,rfl⟩
    exact ⟨_,_,_,σ,F,rfl,⟨rfl,rfl⟩,hs,dN,.refl _ _ _ _⟩
   ·rcases hcase with hcase | ⟨ga,cur,rfl,hFa,hga,hnc,hcm,hsz,htk⟩
    ·exact absurd (List.map_eq_nil_iff.1 hcase) h0
    ·obtain ⟨ds,hds1,hds2⟩:=u4 p0 flat hfl.2.2 hd0
     have hdl:ds.length=p0.length:=by rw [<- hds1,List.length_map]
     have hga':ga<w.heap.size:=(Array.getElem?_eq_some_iff.1 hga).1
     have hcurn:p0.length<=cur.size:=by rw [hsz,Nat.mul_one];exact hnc
     have hne:ds≠[]:=fun e=>by subst e;simp at hdl;exact h0 (List.eq_nil_of_length_eq_zero hdl.symm)
     letI:Inhabited (cf σ w F):=⟨ds.head hne⟩
     have hgetc:∀ j (hj:j<ds.length),cur.toList[j]?=some (ds[j]).1.2:=fun j hj=>by
      have:flat[j]?=some (ds[j]).1.2:=by rw [<- hds2,List.getElem?_map,List.getElem?_eq_getElem hj];rfl
      rw [<- htk,List.getElem?_take] at this;split at this
      ·exact this
      ·cases this
     have hH:Holds (fun x:cf σ w F=>x.1.2) w ga 0 ds.toArray:=by
      intro j hj;have hj':j<ds.length:=by simpa using hj
      refine ⟨?_,by simp [World.frozen?,hga]⟩;have hc1:=hgetc j hj';rw [Array.getElem?_toList] at hc1;rw [Nat.zero_add,cell_of_row w ga j cur 26 (0,0) hga,hc1,getElem!_pos _ j hj];simp
     have hpar:=hf [] [] (Nat.zero_le _) (Nat.zero_le _) rfl rfl
     have hcmp:CmpLays1 Tryz.prog BY #[] (fun x:cf σ w F=>x.1.2) (fun x y=>cfR x.1.1 y.1.1) ga 0 ds.toArray.size w:=by
      intro m os dk hsk x y;have hW:∀ b,b<w.heap.size->b≠ga->(sortWorld (fun x:cf σ w F=>x.1.2) w ga 0 m dk os).heap[b]?=w.heap[b]?:=fun b hb hne=>by
       unfold sortWorld;rw [grown _ os b (by simpa [putRow,mapBlock,Sort.ahead] using hb)];have:¬ ga=b:=fun e=>hne e.symm
       simp [putRow,mapBlock,Array.getElem?_modify,Sort.ahead,this]
      have hWs:w.heap.size<=(sortWorld (fun x:cf σ w F=>x.1.2) w ga 0 m dk os).heap.size:=by
       unfold sortWorld;rw [size_grow];simp [putRow,mapBlock,Sort.ahead]
      have hFn:∀ b,F b->b≠ga:=fun b hb e=>hFa (e▸hb)
      have rel:∀ d:cf σ w F,Rel [] (sortWorld (fun x:cf σ w F=>x.1.2) w ga 0 m dk os) F (sL aa d.1.1) d.1.2:=fun d =>
       Rel.mono (fun _ _ h=>h) (fun _ h=>h) (fun b hb=>hW b (hs.lt b hb) (hFn b hb)) (bL dB _ σ w F _ d.2.1 [])
      have hcon:=hc (hf x.1.1 y.1.1 (vq x) (vq y) x.2.2 y.2.2);have:=hcon.2 (sortWorld (fun x:cf σ w F=>x.1.2) w ga 0 m dk os) F [] [x.1.2,y.1.2] ⟨rfl,fun k o v ho=>by simp at ho,fun k k' o o' v v' g _ ho=>by simp at ho,fun b hb=>Nat.lt_of_lt_of_le (hs.lt b hb) hWs⟩ (.cons (rel x) (.cons (rel y) .nil));refine this.mono ?_;rintro e w' ⟨v,r,aw',σ',F',rfl,⟨rfl,rfl⟩,_,hrel,hmv⟩;cases hrel;exact ⟨rfl,Bx hmv⟩
     have hS:=Any.slices_SortFunc rLay (fun x:cf σ w F=>x.1.2) vp (fun x y=>cfR x.1.1 y.1.1) (swoR fun x:cf σ w F=>x.1.1) BY #[] ga 0 cp ds.toArray w (fun args w=>(hc hpar).1 args w) hcmp hH hga' (by simp [hdl];exact hlt)
     change Calls Tryz.prog 33 _ _ _ at hS
     simp only [List.size_toArray,hdl] at hS
     refine hS.mono ?_
     rintro e w' ⟨rfl,D,n,os,hp,hso,rfl⟩
     have hDs:D.size=p0.length:=by rw [hp.1,List.size_toArray,hdl]
     have hperm:D.toList.Perm ds:=by
      have h3:=hp.2.2;rw [<- hdl] at h3;have e1:D.extract 0 ds.length=D:=by rw [show ds.length=D.size by omega];exact Array.extract_size
      have e2:ds.toArray.extract 0 ds.length=ds.toArray:=by rw [show ds.length=ds.toArray.size by simp];exact Array.extract_size
      rw [e1,e2] at h3;simpa using h3
     have hsl:ce p0=D.toList.map (·.1.1):=by
      refine rp ?_ (fun a ha=>?_) (kR p0) ?_
      ·rw [<- hds1];exact (d8 _).trans ((hperm.map _).symm)
      ·exact List.all_eq_true.1 hd0 a ((d8 p0).subset ha)
      ·rw [List.pairwise_map,List.pairwise_iff_getElem];intro i j hi hj hij;have:=hso i j (Nat.zero_le _) hij (by rw [<- hDs];simpa using hj);rw [getElem!_pos _ j (by simpa using hj),getElem!_pos _ i (by simpa using hi)] at this;have h5:¬ cfR (D[j]'(by simpa using hj)).1.1 (D[i]'(by simpa using hi)).1.1<0:=by simpa [ltOf] using this
       have h6:=eS (D[i]'(by simpa using hi)).1.1 (D[j]'(by simpa using hj)).1.1;simp only [Array.getElem_toList];omega
     rw [hsl]
     have hW1:(putRow (fun x:cf σ w F=>x.1.2) (Sort.ahead w n) ga 0 D).heap[ga]?=some (.cells (putCells (fun x:cf σ w F=>x.1.2) 0 D cur) 26 (0,0)):=by
      simp [putRow,mapBlock,Array.getElem?_modify,Sort.ahead,hga,onCells]
     have hW1o:∀ b,b≠ga->(putRow (fun x:cf σ w F=>x.1.2) (Sort.ahead w n) ga 0 D).heap[b]?=w.heap[b]?:=fun b hb=>by
      have:¬ ga=b:=fun e=>hb e.symm
      simp [putRow,mapBlock,Array.getElem?_modify,Sort.ahead,this]
     have hW1s:(putRow (fun x:cf σ w F=>x.1.2) (Sort.ahead w n) ga 0 D).heap.size=w.heap.size:=by simp [putRow,mapBlock,Sort.ahead]
     have hORel:ORel σ (putRow (fun x:cf σ w F=>x.1.2) (Sort.ahead w n) ga 0 D) F (.arr 26 1 (List.map (ae aa) (D.toList.map (·.1.1)))) (.slice (some ⟨ga,0,none⟩) p0.length cp):=by
      have hDl:(List.map (ae aa) (D.toList.map (·.1.1))).length=p0.length:=by simp [hDs]
      refine ⟨D.toList.map (·.1.2),⟨?_,.inr ⟨ga,cp,_,by rw [hDl],Nat.zero_le _,hW1,by rw [hDl];exact hnc,hcm,by simp [putCells,hsz],?_⟩⟩,⟨fun row hr=>?_,fun u hu=>?_,?_⟩,fun g2 hg2=>?_,_,_,_,rfl⟩
      ·rw [hDl];simp [hDs]
      ·rw [hDl];apply List.ext_getElem?;intro k;rw [List.getElem?_take];by_cases hk:k<p0.length*1
       ·rw [if_pos hk,Array.getElem?_toList,List.getElem?_map,Array.getElem?_toList];simp only [putCells,Array.getElem?_mapIdx];rw [Array.getElem?_eq_getElem (show k<cur.size by omega),Option.map_some,if_pos ⟨Nat.zero_le _,by omega⟩,Array.getElem?_eq_getElem (show k<D.size by omega),Nat.sub_zero,getElem!_pos _ k (by omega)];rfl
       ·rw [if_neg hk,List.getElem?_eq_none (by simp [hDs];omega)]
      ·obtain ⟨a,_,rfl⟩:=List.mem_map.1 hr;rfl
      ·obtain ⟨a,_,rfl⟩:=List.mem_map.1 hu;exact vp a
      ·exact RelL.mono (fun _ _ h=>h) (fun _ h=>h) (fun b hb=>hW1o b (fun e=>hFa (e▸hb))) (sJ D.toList)
      ·simp [Value.ownBlock] at hg2;subst hg2;exact hFa
     have s1:=hs.write (b0:=ga) 0 rfl rfl hσ0 rfl hW1o hW1s (.arr 26 1 (List.map (ae aa) (D.toList.map (·.1.1)))) hORel (fun _ h=>h)
     have m1:Mv [.arr 26 1 (List.map (ae aa) p0)] σ w F ([Ob.arr 26 1 (List.map (ae aa) p0)].set 0 (.arr 26 1 (List.map (ae aa) (D.toList.map (·.1.1))))) σ (putRow (fun x:cf σ w F=>x.1.2) (Sort.ahead w n) ga 0 D) F :=
      Mv.write (aw:=[.arr 26 1 (List.map (ae aa) p0)]) (w:=w) (w':=putRow (fun x:cf σ w F=>x.1.2) (Sort.ahead w n) ga 0 D) (F:=F) (b0:=ga) (o:=.arr 26 1 (List.map (ae aa) p0)) 0 rfl rfl hσ0 rfl rfl rfl ⟨rfl,Nat.le_add_right _ _⟩ hW1o hW1s (.arr 26 1 (List.map (ae aa) (D.toList.map (·.1.1)))) (fun _ h=>h)
     have eW:sortWorld (fun x:cf σ w F=>x.1.2) w ga 0 n D os=Sort.grow (putRow (fun x:cf σ w F=>x.1.2) (Sort.ahead w n) ga 0 D) os:=rfl
     rw [eW]
     exact ⟨_,_,_,σ,F,rfl,⟨rfl,rfl⟩,s1.grow (fun _ h=>h) (fun _ h=>.inl h) (fun b hb=>by have:=s1.lt b hb;rw [size_grow];omega) (grown _ os),dN,m1.trans (.grow (fun _ h=>h) (fun _ h=>.inl h) rfl rfl drO (by rw [size_grow];omega) (grown _ os))⟩
end
def gI (n:Int):Prop := -9223372036854775808<=n/\n<=9223372036854775807
def gL {α:Type} (g:α->Prop) (l:List α):Prop:=∀ a,a∈l->g a
def gItem (a:Item):Prop:=gI a.Key/\gI a.Val/\gI a.Dep
def gNode (a:Node):Prop:=gI a.Kind/\gI a.A/\gL gI a.In/\gL gI a.Out
def gNet (a:Net):Prop:=gL gNode a.Nodes/\gI a.Rings/\gI a.Room
def mI (n:Int):Nat:=1
def mB (b:Bool):Nat:=1
def mL {α:Type} (m:α->Nat) (l:List α):Nat:=(l.map m).sum+1
def mItem (a:Item):Nat:=3
def eV (a:Node):Nat:=mL mI a.In+mL mI a.Out+2
def mNet (a:Net):Nat:=mL eV a.Nodes+2
theorem nH {α:Type} {m:α->Nat} (h:∀ a,1<=m a):∀ l:List α,l.length<=mL m l
 | []=>by simp [mL]
 | a::l=>by
  have:=nH h l;have:=h a;simp [mL] at *;omega
theorem vV {α:Type} {m:α->Nat}:∀ {l:List α} {a:α},a∈l->m a<=mL m l
 | b::l,a,h=>by
  rcases List.mem_cons.1 h with rfl | h
  ·simp [mL];omega
  ·have:=vV (m:=m) h;simp [mL] at *;omega
theorem Dk {α:Type} {m:α->Nat} (l:List α) (a:α):mL m (a::l)=m a+mL m l:=by simp [mL];omega
theorem bl {n:Int} (h0 : -9223372036854775808<=n) (h1:n<=9223372036854775807):IntKind.i64.wrap n=n:=IntWalk.i64_in n ⟨h0,h1⟩
theorem aJ {k:Nat} (h:k<4611686018427387904):IntKind.i64.wrap ((k:Int)+1)=((k+1:Nat):Int):=by rw [bl (by omega) (by omega)];rfl
theorem aN {α:Type} {xs:List α} {k:Nat} {x:α} (h:xs[k]?=some x):idx xs (k:Int)=some x:=by
 unfold idx;rw [if_pos (by omega)];simpa using h
theorem bd {α:Type} {xs:List α} {k:Nat} (h:k<xs.length):ixN xs (k:Int)=some k:=by
 unfold ixN;rw [if_pos (by omega)];simp
theorem bB {α:Type} {xs ys:List α} (h:xs.length+ys.length<=1099511627776):app xs ys=some (xs++ys):=by unfold app;rw [if_pos h]
theorem lR {xs ys:List UInt8} (h:xs.length+ys.length<=4611686018427387904):cat xs ys=some (xs++ys):=by unfold cat;rw [if_pos h]
theorem pW {α:Type} {xs:List α} {i j:Nat} (h:i<=j) (h2:j<=xs.length):sub xs (i:Int) (j:Int)=some ((xs.take j).drop i):=by
 unfold sub;rw [if_pos (by omega)];simp
theorem sub_0 {α:Type} {xs:List α} {j:Nat} (h2:j<=xs.length):sub xs 0 (j:Int)=some (xs.take j):=by
 have:=pW (xs:=xs) (i:=0) (j:=j) (by omega) h2;simpa using this
theorem BU {α:Type} {xs:List α} {i:Nat} (h2:i<=xs.length):sub xs (i:Int) (xs.length:Int)=some (xs.drop i):=by
 have:=pW (xs:=xs) (i:=i) (j:=xs.length) h2 (Nat.le_refl _);simpa using this
def dS {α σ ρ:Type} (f:Nat->α->σ->Option (σ ⊕ ρ)) (fin:σ->Option ρ):Nat->List α->σ->Option ρ
 | _,[],st=>fin st
 | k,x::xs,st=>match f k x st with
  | none=>none
  | some (.inl st')=>dS f fin (k+1) xs st'
  | some (.inr r)=>some r
theorem sw {α σ ρ τ:Type} (xs:List α) (hx:xs.length<=1099511627776) (e:Nat->σ->τ) {body:τ->Option (τ ⊕ ρ)} (f:Nat->α->σ->Option (σ ⊕ ρ)) (fin:σ->Option ρ)
  (h1:∀ (k:Nat) x st,xs[k]?=some x->k<xs.length->idx xs (k:Int)=some x->decide ((k:Int)<(xs.length:Int))=true->IntKind.i64.wrap ((k:Int)+1)=((k+1:Nat):Int) ->
   body (e k st)=match f k x st with
    | none=>none
    | some (.inl st')=>some (.inl (e (k+1) st'))
    | some (.inr r)=>some (.inr r))
  (h2:∀ st,decide ((xs.length:Int)<(xs.length:Int))=false->body (e xs.length st)=(fin st).map .inr) :
  ∀ (n k:Nat) st,k+n=xs.length->iter body (e k st)=dS f fin k (xs.drop k) st
 | 0,k,st,h=>by
  have hk:k=xs.length:=by omega
  subst hk;rw [an,h2 st (by simp),List.drop_length];unfold dS;cases fin st<;>rfl
 | n+1,k,st,h=>by
  have hlt:k<xs.length:=by omega
  have hg:xs[k]?=some xs[k]:=List.getElem?_eq_getElem hlt;rw [an,h1 k xs[k] st hg hlt (aN hg) (by simp;omega) (aJ (by omega)),List.drop_eq_getElem_cons hlt];unfold dS;cases f k xs[k] st with
  | none=>rfl
  | some v =>
   cases v with
   | inl st'=>exact sw xs hx e f fin h1 h2 n (k+1) st' (by omega)
   | inr r=>rfl
theorem oN {α σ ρ τ:Type} (xs:List α) (hx:xs.length<=1099511627776) (e:Nat->σ->τ) {body:τ->Option (τ ⊕ ρ)} (f:Nat->α->σ->Option (σ ⊕ ρ)) (fin:σ->Option ρ) (st:σ)
  (h1:∀ (k:Nat) x st,xs[k]?=some x->k<xs.length->idx xs (k:Int)=some x->decide ((k:Int)<(xs.length:Int))=true->IntKind.i64.wrap ((k:Int)+1)=((k+1:Nat):Int) ->
   body (e k st)=match f k x st with
    | none=>none
    | some (.inl st')=>some (.inl (e (k+1) st'))
    | some (.inr r)=>some (.inr r))
  (h2:∀ st,decide ((xs.length:Int)<(xs.length:Int))=false->body (e xs.length st)=(fin st).map .inr):iter body (e 0 st)=dS f fin 0 xs st:=by
 have:=sw xs hx e f fin h1 h2 xs.length 0 st (by omega)
 simpa using this
theorem lx {α β:Type} {body:α->Option (α ⊕ β)} (I:α->Prop) (μ:α->Nat) (R:β->Prop) (h:∀ s,I s->(∃ s',body s=some (.inl s')/\I s'/\μ s' < μ s)∨∃ r,body s=some (.inr r)/\R r):∀ (n:Nat) s,μ s<=n->I s->∃ r,iter body s=some r/\R r
 | n,s,hn,hs=>by
  rcases h s hs with ⟨s',h1,h2,h3⟩ | ⟨r,h1,h2⟩
  ·match n,hn with
   | 0,hn=>omega
   | n+1,hn =>
    obtain ⟨r,h4,h5⟩:=lx I μ R h n s' (by omega) h2
    exact ⟨r,by rw [an,h1];exact h4,h5⟩
  ·exact ⟨r,by rw [an,h1],h2⟩
theorem oF {α:Type} [DecidableEq α] (a b:List α) (ha:a.length<=1099511627776) (hl:a.length=b.length) {body:Int->Option (Int ⊕ Bool)}
  (h1:∀ (k:Nat) x y,decide ((k:Int)<(a.length:Int))=true->idx a (k:Int)=some x->idx b (k:Int)=some y->IntKind.i64.wrap ((k:Int)+1)=((k+1:Nat):Int)->body k=if x=y then some (.inl ((k+1:Nat):Int)) else some (.inr false))
  (h2:decide ((a.length:Int)<(a.length:Int))=false->body a.length=some (.inr true)):iter body 0=some (decide (a=b)):=by
 have key:∀ (n k:Nat),k+n=a.length->iter body k=some (decide (a.drop k=b.drop k)):=by
  intro n;induction n with
  | zero =>
   intro k hk;have hk:k=a.length:=by omega
   subst hk;rw [an,h2 (by simp),List.drop_length,List.drop_of_length_le (by omega)];simp
  | succ n ih =>
   intro k hk;have hlt:k<a.length:=by omega
   have hlt2:k<b.length:=by omega
   have hd:(a.drop k=b.drop k) ↔ (a[k]=b[k]/\a.drop (k+1)=b.drop (k+1)):=by
    have ea:=List.drop_eq_getElem_cons hlt;have eb:=List.drop_eq_getElem_cons hlt2;constructor
    ·intro h;rw [ea,eb] at h;exact List.cons.inj h
    ·rintro ⟨h1,h2⟩;rw [ea,eb,h1,h2]
   rw [an,h1 k a[k] b[k] (by simp;omega) (aN (List.getElem?_eq_getElem hlt)) (aN (List.getElem?_eq_getElem hlt2)) (aJ (by omega))];by_cases hxy:a[k]=b[k]
   ·rw [if_pos hxy];simp only;rw [ih (k+1) (by omega)];simp [hd,hxy]
   ·rw [if_neg hxy];simp [hd,hxy]
 have:=key a.length 0 (by omega)
 simpa using this
theorem yZ (x y:Item):kT x y=some (if x.Key<y.Key∨x.Key=y.Key/\x.Val<y.Val then -1 else if x.Key=y.Key/\x.Val=y.Val then 0 else 1):=by
 unfold kT;by_cases h1:x.Key=y.Key<;>by_cases h2:x.Val=y.Val<;>simp [h1,h2]<;>(repeat' split)<;>first | rfl | (exfalso;omega)
theorem uY (a b:List Item) (la:a.length<=9223372036854775807):∀ (m i:Nat),a.length - i=m->i<=a.length->iter (fun s:Int=>iU a b s) (i:Int)=some (cfR (a.drop i) (b.drop i)):=by
 intro m;induction m with
 | zero =>
  intro i hm hi;have e:i=a.length:=by omega
  subst e;rw [an];unfold iU;rw [if_neg (by simp),List.drop_length];by_cases h:a.length<b.length
  ·rw [if_pos (by simpa using h),List.drop_eq_getElem_cons h];rfl
  ·rw [if_neg (by simpa using h),List.drop_eq_nil_of_le (by omega)];rfl
 | succ m ih =>
  intro i hm hi;have hlt:i<a.length:=by omega
  rw [an];unfold iU;have ea:idx a (i:Int)=some a[i]:=by unfold idx;rw [if_pos (by omega)];simp [hlt]
  rw [if_pos (by simpa using hlt),ea,Option.bind_some,List.drop_eq_getElem_cons hlt];by_cases h:i<b.length
  ·have eb:idx b (i:Int)=some b[i]:=by unfold idx;rw [if_pos (by omega)];simp [h]
   rw [if_neg (by simp;omega),eb,Option.bind_some,yZ,Option.bind_some,List.drop_eq_getElem_cons h];unfold cfR;by_cases h1:a[i].Key<b[i].Key∨a[i].Key=b[i].Key/\a[i].Val<b[i].Val
   ·rw [if_pos h1,if_pos (by decide),if_pos h1];rfl
   ·rw [if_neg h1,if_neg h1];by_cases h2:a[i].Key=b[i].Key/\a[i].Val=b[i].Val
    ·rw [if_pos h2,if_pos h2,if_neg (by decide)];have:=ih (i+1) (by omega) (by omega);rw [bl (by omega) (by omega)];exact this
    ·rw [if_neg h2,if_neg h2,if_pos (by decide)];rfl
  ·rw [if_pos (by simp;omega),show b.drop i=[] from List.drop_eq_nil_of_le (by omega)];rfl
theorem qw (a b:List Item) (la:a.length<=9223372036854775807):ik a b=some (cfR a b):=by
 unfold ik iV;have:=uY a b la _ 0 rfl (Nat.zero_le _);simp only [Int.natCast_zero,List.drop_zero] at this;rw [this];rfl
theorem xL (a b:List Item) (la:a.length<=maxLen) (lb:b.length<=maxLen) (_:dep0 a=true) (_:dep0 b=true):ik a b=some (cfR a b):=qw a b (by simpa [maxLen] using la)
section
open Go.RowKit
set_option maxRecDepth 100000
set_option maxHeartbeats 4000000
set_option synthInstance.maxSize 100000
set_option synthInstance.maxHeartbeats 4000000
theorem o8 {p0:Net} {p1:List (List Item)} {p2:State} {p3:Move} {r:State × Int} (h:gP p0 p1 p2 p3=some r):Fn Tryz.prog 63 [.agg (au p0),sL (ae aa) p1,.agg (aH p2),.agg (aD p3)] (.tup [.agg (aH r.1),iI r.2]):=by
 unfold gP at h;refine fT 0 0 Tryz.func63 Tryz.ntmps63 rfl ?_;refine B h fun x2 hx2 h=>(X 14 0 (sO (cF (qF hx2) ⟨rfl,(Y 7 4 (T.ci h rfl (fun hb_1 h=>?_) (fun hb_1 h=>?_)))⟩)))
 ·refine X 7 4 ?_;cases h;exact tD
 refine X 2 4 ?_;obtain ⟨zt_7,hz,h⟩:=bind_some h;revert hz h;revert zt_7;intro c5 hz h;refine j1 [(1,sL (ae aa) p1),(4,.ptr 0 0),(6,.ptr 1 0),(7,.ptr 2 0),(8,.ptr 3 0),(62,.bool c5)] [.box (au p0),.box (aH p2),.box (aD p3),.box [.nils,.nils,.nils,.nils,.nils]] ?_ (fun hK=>?_)
 ·refine T.ci h rfl (fun hb_8 h=>?_) (fun hb_8 h=>?_)
  ·refine X 6 4 ?_;cases h;exact tD
  refine B h fun x7 hx7 h=>(X 8 4 (sO (cF (rk hx7) ⟨rfl,(Y 2 4 (T.ci h rfl (fun hb_9 h=>?_) (fun hb_9 h=>?_)))⟩)))
  ·refine X 6 4 ?_;cases h;exact tD
  refine B h fun x9 hx9 h=>(X 4 4 (sO (cG [] 4 5 (FnX.of_fnO (yq hx9)) ⟨rfl,(B h fun x11 hx11 h=>(Y 7 9 (sO (cG [1,4,5,6,7,8] 9 8 (xz hx11) ⟨rfl,(Y 7 11 ?_)⟩))))⟩)))
  cases h;exact tD
 refine X 1 4 ?_;rcases ba (decide (p3.Node<0)) with hb_2 | hb_2
 ·replace hz:=bT hz hb_2;refine T.drawn mixed (k:=44) rfl (rq [0] 43 (ra1 1 (og 4 ⟨rfl,(rq [2,3] 40 (r2 4 rfl hb_2 (r2 5 rfl hb_2 (r2 6 rfl hb_2 (r2 7 rfl hb_2 (r2 8 rfl hb_2 ?_))))))⟩)));refine r2 9 rfl hb_2 (r0 10 rfl (aY (v:=.bool true) rfl hb_2 rfl (rq [11] 32 (r2 12 rfl rfl (r2 13 rfl rfl (r2 14 rfl rfl (r0 15 rfl (aY (v:=.bool true) rfl rfl rfl (rq [16] 27 (r2 17 rfl rfl (r2 18 rfl rfl ?_)))))))))));refine r2 19 rfl rfl (r2 20 rfl rfl (r3 21 rfl (r3 22 rfl (r3 23 rfl (r3 24 rfl (r3 25 rfl (r3 26 rfl (r3 27 rfl (r3 28 rfl ?_)))))))));refine r3 29 rfl (r3 30 rfl (r3 31 rfl (r3 32 rfl (r3 33 rfl (r3 34 rfl (r3 35 rfl (r3 36 rfl (r3 37 rfl (r3 38 rfl ?_)))))))));exact r3 39 rfl (r3 40 rfl (r3 41 rfl (r2 42 rfl rfl (r0 43 rfl (aY (v:=.bool true) rfl rfl rfl (RA.done (by decide +kernel) (T.sub hK ⟨rfl,rfl,rfl,rfl,rfl,(congrArg AV.bool ((congrArg (fun p=>p) (Option.some.inj hz)).symm)).symm,trivial⟩)))))))
 replace hz:=bR hz hb_2;rcases ba (decide (p3.Node >= ((p0.Nodes).length:Int))) with hb_3 | hb_3
 ·replace hz:=bT hz hb_3;refine T.drawn mixed (k:=44) rfl ?_;apply RA.jn 0 (bm 44 17592186044415);intro hS10
  ·refine rq [0] 43 (ra1 1 (og 4 ⟨rfl,(rq [2,3] 40 (ry 4 hb_2 rfl (ry 6 hb_2 rfl (ra2 5 7 ?_ ?_))))⟩))
   ·refine oy 4 hb_2 rfl (ra1 7 (oy 4 hb_2 rfl (r1 8 rfl hb_2 (aj Ty.s22 rfl (ry 9 hb_2 rfl (r0 10 rfl (aP (v:=.bool (decide (p3.Node >= ((p0.Nodes).length:Int)))) rfl hb_2 rfl (rq [11] 32 (r2 12 rfl hb_3 (r2 13 rfl hb_3 (r2 14 rfl hb_3 ?_)))))))))));refine r0 15 rfl (aY (v:=.bool true) rfl hb_3 rfl (rq [16] 27 (r2 17 rfl rfl (r2 18 rfl rfl (r2 19 rfl rfl (r2 20 rfl rfl (r3 21 rfl (r3 22 rfl (r3 23 rfl (r3 24 rfl ?_))))))))));refine r3 25 rfl (r3 26 rfl (r3 27 rfl (r3 28 rfl (r3 29 rfl (r3 30 rfl (r3 31 rfl (r3 32 rfl (r3 33 rfl (r3 34 rfl ?_)))))))));exact r3 35 rfl (r3 36 rfl (r3 37 rfl (r3 38 rfl (r3 39 rfl (r3 40 rfl (r3 41 rfl (r2 42 rfl rfl (r0 43 rfl (aY (v:=.bool true) rfl rfl rfl (raE hS10))))))))))
   ·refine oy 4 hb_2 rfl (r1 8 rfl hb_2 (aj Ty.s22 rfl (ra1 5 (oy 4 hb_2 rfl (ry 9 hb_2 rfl (r0 10 rfl (aP (v:=.bool (decide (p3.Node >= ((p0.Nodes).length:Int)))) rfl hb_2 rfl (rq [11] 32 (r2 12 rfl hb_3 (r2 13 rfl hb_3 (r2 14 rfl hb_3 ?_)))))))))));refine r0 15 rfl (aY (v:=.bool true) rfl hb_3 rfl (rq [16] 27 (r2 17 rfl rfl (r2 18 rfl rfl (r2 19 rfl rfl (r2 20 rfl rfl (r3 21 rfl (r3 22 rfl (r3 23 rfl (r3 24 rfl ?_))))))))));refine r3 25 rfl (r3 26 rfl (r3 27 rfl (r3 28 rfl (r3 29 rfl (r3 30 rfl (r3 31 rfl (r3 32 rfl (r3 33 rfl (r3 34 rfl ?_)))))))));exact r3 35 rfl (r3 36 rfl (r3 37 rfl (r3 38 rfl (r3 39 rfl (r3 40 rfl (r3 41 rfl (r2 42 rfl rfl (r0 43 rfl (aY (v:=.bool true) rfl rfl rfl (raT hS10))))))))))
  exact RA.done (by decide +kernel) (T.sub hK ⟨rfl,rfl,rfl,rfl,rfl,(congrArg AV.bool ((congrArg (fun p=>p) (Option.some.inj hz)).symm)).symm,trivial⟩)
 replace hz:=bR hz hb_3;rcases ba (decide (p3.Lane<0)) with hb_4 | hb_4
 ·replace hz:=bT hz hb_4;refine T.drawn mixed (k:=44) rfl ?_;apply RA.jn 31 (bm 44 8191);intro hS11
  ·refine rq [0] 43 (ra1 1 (og 4 ⟨rfl,(rq [2,3] 40 (ry 4 hb_2 rfl (ry 6 hb_2 rfl (ra2 5 7 ?_ ?_))))⟩))
   ·exact oy 4 hb_2 rfl (ra1 7 (oy 4 hb_2 rfl (r1 8 rfl hb_2 (aj Ty.s22 rfl (ry 9 hb_2 rfl (r0 10 rfl (aP (v:=.bool (decide (p3.Node >= ((p0.Nodes).length:Int)))) rfl hb_2 rfl (rq [11] 32 (ry 12 hb_3 rfl (raE hS11))))))))))
   ·exact oy 4 hb_2 rfl (r1 8 rfl hb_2 (aj Ty.s22 rfl (ra1 5 (oy 4 hb_2 rfl (ry 9 hb_2 rfl (r0 10 rfl (aP (v:=.bool (decide (p3.Node >= ((p0.Nodes).length:Int)))) rfl hb_2 rfl (rq [11] 32 (ry 12 hb_3 rfl (raT hS11))))))))))
  refine ra1 13 (oy 4 hb_3 rfl (ry 14 hb_3 rfl (r0 15 rfl (aP (v:=.bool (decide (p3.Lane<0))) rfl hb_3 rfl (rq [16] 27 (r2 17 rfl hb_4 (r2 18 rfl hb_4 (r2 19 rfl hb_4 (r2 20 rfl hb_4 (r3 21 rfl ?_))))))))));refine r3 22 rfl (r3 23 rfl (r3 24 rfl (r3 25 rfl (r3 26 rfl (r3 27 rfl (r3 28 rfl (r3 29 rfl (r3 30 rfl (r3 31 rfl ?_)))))))));refine r3 32 rfl (r3 33 rfl (r3 34 rfl (r3 35 rfl (r3 36 rfl (r3 37 rfl (r3 38 rfl (r3 39 rfl (r3 40 rfl (r3 41 rfl ?_)))))))));exact r2 42 rfl hb_4 (r0 43 rfl (aY (v:=.bool true) rfl hb_4 rfl (RA.done (by decide +kernel) (T.sub hK ⟨rfl,rfl,rfl,rfl,rfl,(congrArg AV.bool ((congrArg (fun p=>p) (Option.some.inj hz)).symm)).symm,trivial⟩))))
 replace hz:=bR hz hb_4;rcases ba (decide (p3.Lane > 0)) with hb_5 | hb_5
 ·replace hz:=bT hz hb_5;refine B hz fun x3 hx3 hz=>?_
  rcases ba (x3.Kind != 6) with hb_6 | hb_6
  ·replace hz:=bT hz hb_6;refine T.drawn mixed (k:=44) rfl ?_;apply RA.jn 17 (bm 44 134217727);intro hS12;apply RA.jn 31 (bm 44 8191);intro hS13
   ·refine rq [0] 43 (ra1 1 (og 4 ⟨rfl,(rq [2,3] 40 (ry 4 hb_2 rfl (ry 6 hb_2 rfl (ra2 5 7 ?_ ?_))))⟩))
    ·exact oy 4 hb_2 rfl (ra1 7 (oy 4 hb_2 rfl (r1 8 rfl hb_2 (aj Ty.s22 rfl (ry 9 hb_2 rfl (r0 10 rfl (aP (v:=.bool (decide (p3.Node >= ((p0.Nodes).length:Int)))) rfl hb_2 rfl (rq [11] 32 (ry 12 hb_3 rfl (raE hS13))))))))))
    ·exact oy 4 hb_2 rfl (r1 8 rfl hb_2 (aj Ty.s22 rfl (ra1 5 (oy 4 hb_2 rfl (ry 9 hb_2 rfl (r0 10 rfl (aP (v:=.bool (decide (p3.Node >= ((p0.Nodes).length:Int)))) rfl hb_2 rfl (rq [11] 32 (ry 12 hb_3 rfl (raT hS13))))))))))
   ·refine ra1 13 (oy 4 hb_3 rfl (ry 14 hb_3 rfl (r0 15 rfl (aP (v:=.bool (decide (p3.Lane<0))) rfl hb_3 rfl (rq [16] 27 (ry 17 hb_4 rfl (ra1 18 (oy 4 hb_4 rfl (ry 19 hb_4 rfl (ry 20 hb_4 rfl ?_))))))))));refine ry 21 hb_5 rfl (ry 23 hb_5 rfl (ra2 22 24 ?_ ?_))
    ·exact oy 4 hb_5 rfl (ra1 24 (oy 4 hb_5 rfl (r1 25 rfl hb_5 (ao Ty.s22 (fun _=>rfl) rfl rfl hx3 (ry 26 hb_5 rfl (raE hS12))))))
    ·exact oy 4 hb_5 rfl (ra1 22 (oy 4 hb_5 rfl (r1 25 rfl hb_5 (ao Ty.s22 (fun _=>rfl) rfl rfl hx3 (ry 26 hb_5 rfl (raT hS12))))))
   refine ra1 27 (oy 4 hb_5 rfl (ry 28 hb_5 rfl (ry 29 hb_5 rfl (r2 30 rfl hb_6 (r2 31 rfl hb_6 (r2 32 rfl hb_6 (r2 33 rfl hb_6 (r2 34 rfl hb_6 (r2 35 rfl hb_6 ?_)))))))));exact r2 36 rfl hb_6 (r2 37 rfl hb_6 (r2 38 rfl hb_6 (r2 39 rfl hb_6 (r2 40 rfl hb_6 (r1 41 rfl hb_5 (aY (v:=.bool true) rfl hb_6 rfl (r1 42 rfl hb_4 (aY (v:=.bool true) rfl hb_5 rfl (r0 43 rfl (aP (v:=.bool true) rfl hb_4 rfl (RA.done (by decide +kernel) (T.sub hK ⟨rfl,rfl,rfl,rfl,rfl,(congrArg AV.bool ((congrArg (fun p=>p) (Option.some.inj hz)).symm)).symm,trivial⟩))))))))))))
  replace hz:=bR hz hb_6;refine B hz fun x4 hx4 hz=>(T.drawn mixed (k:=44) rfl ?_)
  apply RA.jn 0 (bm 44 17592186044415);intro hS14;apply RA.jn 6 (bm 44 274877906943);intro hS15;apply RA.jn 7 (bm 44 272730423295);intro hS16;apply RA.jn 9 (bm 44 60129542143);intro hS17;apply RA.jn 9 (bm 44 34359738367);intro hS18;apply RA.jn 17 (bm 44 134217727);intro hS19;apply RA.jn 31 (bm 44 8191);intro hS20
  ·refine rq [0] 43 (ra1 1 (og 4 ⟨rfl,(rq [2,3] 40 (ry 4 hb_2 rfl (ry 6 hb_2 rfl (ra2 5 7 ?_ ?_))))⟩))
   ·exact oy 4 hb_2 rfl (ra1 7 (oy 4 hb_2 rfl (r1 8 rfl hb_2 (aj Ty.s22 rfl (ry 9 hb_2 rfl (r0 10 rfl (aP (v:=.bool (decide (p3.Node >= ((p0.Nodes).length:Int)))) rfl hb_2 rfl (rq [11] 32 (ry 12 hb_3 rfl (raE hS20))))))))))
   ·exact oy 4 hb_2 rfl (r1 8 rfl hb_2 (aj Ty.s22 rfl (ra1 5 (oy 4 hb_2 rfl (ry 9 hb_2 rfl (r0 10 rfl (aP (v:=.bool (decide (p3.Node >= ((p0.Nodes).length:Int)))) rfl hb_2 rfl (rq [11] 32 (ry 12 hb_3 rfl (raT hS20))))))))))
  ·refine ra1 13 (oy 4 hb_3 rfl (ry 14 hb_3 rfl (r0 15 rfl (aP (v:=.bool (decide (p3.Lane<0))) rfl hb_3 rfl (rq [16] 27 (ry 17 hb_4 rfl (ra1 18 (oy 4 hb_4 rfl (ry 19 hb_4 rfl (ry 20 hb_4 rfl ?_))))))))));refine ry 21 hb_5 rfl (ry 23 hb_5 rfl (ra2 22 24 ?_ ?_))
   ·exact oy 4 hb_5 rfl (ra1 24 (oy 4 hb_5 rfl (r1 25 rfl hb_5 (ao Ty.s22 (fun _=>rfl) rfl rfl hx3 (ry 26 hb_5 rfl (raE hS19))))))
   ·exact oy 4 hb_5 rfl (ra1 22 (oy 4 hb_5 rfl (r1 25 rfl hb_5 (ao Ty.s22 (fun _=>rfl) rfl rfl hx3 (ry 26 hb_5 rfl (raT hS19))))))
  ·refine ra1 27 (oy 4 hb_5 rfl (ry 28 hb_5 rfl (ry 29 hb_5 rfl (ry 30 hb_6 rfl (ry 32 hb_6 rfl (ry 34 hb_6 rfl (ra3 31 33 35 ?_ ?_ ?_)))))))
   ·refine oy 4 hb_6 rfl (ra2 33 35 ?_ ?_)
    ·exact oy 4 hb_6 rfl (raE hS18)
    ·exact oy 4 hb_6 rfl (raE hS17)
   ·refine oy 4 hb_6 rfl (ra2 31 35 ?_ ?_)
    ·exact oy 4 hb_6 rfl (raT hS18)
    ·exact oy 4 hb_6 rfl (r1 36 rfl hb_6 (ao Ty.s22 (fun _=>rfl) rfl rfl hx4 (ry 37 hb_6 rfl (raE hS16))))
   ·refine oy 4 hb_6 rfl (ra2 31 33 ?_ ?_)
    ·exact oy 4 hb_6 rfl (raT hS17)
    ·exact oy 4 hb_6 rfl (r1 36 rfl hb_6 (ao Ty.s22 (fun _=>rfl) rfl rfl hx4 (ry 37 hb_6 rfl (raT hS16))))
  ·exact ra1 35 (oy 4 hb_6 rfl (r1 36 rfl hb_6 (ao Ty.s22 (fun _=>rfl) rfl rfl hx4 (ry 37 hb_6 rfl (raE hS15)))))
  ·exact ra1 33 (oy 4 hb_6 rfl (r1 36 rfl hb_6 (ao Ty.s22 (fun _=>rfl) rfl rfl hx4 (ry 37 hb_6 rfl (raT hS15)))))
  ·refine ra2 31 38 ?_ ?_
   ·exact oy 4 hb_6 rfl (raT hS15)
   ·exact oy 4 hb_6 rfl (r1 39 rfl hb_6 (aj Ty.s49 rfl (ra1 31 (oy 4 hb_6 rfl (ry 40 hb_6 rfl (r1 41 rfl hb_5 (aP (v:=.bool (decide (p3.Lane >= ((x4.In).length:Int)))) rfl hb_6 rfl (r1 42 rfl hb_4 (aY (v:=.bool (decide (p3.Lane >= ((x4.In).length:Int)))) rfl hb_5 rfl (r0 43 rfl (aP (v:=.bool (decide (p3.Lane >= ((x4.In).length:Int)))) rfl hb_4 rfl (raE hS14))))))))))))
  ·exact ra1 38 (oy 4 hb_6 rfl (r1 39 rfl hb_6 (aj Ty.s49 rfl (ry 40 hb_6 rfl (r1 41 rfl hb_5 (aP (v:=.bool (decide (p3.Lane >= ((x4.In).length:Int)))) rfl hb_6 rfl (r1 42 rfl hb_4 (aY (v:=.bool (decide (p3.Lane >= ((x4.In).length:Int)))) rfl hb_5 rfl (r0 43 rfl (aP (v:=.bool (decide (p3.Lane >= ((x4.In).length:Int)))) rfl hb_4 rfl (raT hS14)))))))))))
  exact RA.done (by decide +kernel) (T.sub hK ⟨rfl,rfl,rfl,rfl,rfl,(congrArg AV.bool ((congrArg (fun p=>p) (Option.some.inj hz)).symm)).symm,trivial⟩)
 replace hz:=bR hz hb_5;refine T.drawn mixed (k:=44) rfl ?_;apply RA.jn 31 (bm 44 8191);intro hS21
 ·refine rq [0] 43 (ra1 1 (og 4 ⟨rfl,(rq [2,3] 40 (ry 4 hb_2 rfl (ry 6 hb_2 rfl (ra2 5 7 ?_ ?_))))⟩))
  ·exact oy 4 hb_2 rfl (ra1 7 (oy 4 hb_2 rfl (r1 8 rfl hb_2 (aj Ty.s22 rfl (ry 9 hb_2 rfl (r0 10 rfl (aP (v:=.bool (decide (p3.Node >= ((p0.Nodes).length:Int)))) rfl hb_2 rfl (rq [11] 32 (ry 12 hb_3 rfl (raE hS21))))))))))
  ·exact oy 4 hb_2 rfl (r1 8 rfl hb_2 (aj Ty.s22 rfl (ra1 5 (oy 4 hb_2 rfl (ry 9 hb_2 rfl (r0 10 rfl (aP (v:=.bool (decide (p3.Node >= ((p0.Nodes).length:Int)))) rfl hb_2 rfl (rq [11] 32 (ry 12 hb_3 rfl (raT hS21))))))))))
 refine ra1 13 (oy 4 hb_3 rfl (ry 14 hb_3 rfl (r0 15 rfl (aP (v:=.bool (decide (p3.Lane<0))) rfl hb_3 rfl (rq [16] 27 (ry 17 hb_4 rfl (ra1 18 (oy 4 hb_4 rfl (ry 19 hb_4 rfl (ry 20 hb_4 rfl ?_))))))))));refine r2 21 rfl hb_5 (r2 22 rfl hb_5 (r2 23 rfl hb_5 (r2 24 rfl hb_5 (r2 25 rfl hb_5 (r2 26 rfl hb_5 (r2 27 rfl hb_5 (r2 28 rfl hb_5 (r2 29 rfl hb_5 (r3 30 rfl ?_)))))))));refine r3 31 rfl (r3 32 rfl (r3 33 rfl (r3 34 rfl (r3 35 rfl (r3 36 rfl (r3 37 rfl (r3 38 rfl (r3 39 rfl (r3 40 rfl ?_)))))))));exact r2 41 rfl hb_5 (r1 42 rfl hb_4 (aP (v:=.bool false) rfl hb_5 rfl (r0 43 rfl (aP (v:=.bool false) rfl hb_4 rfl (RA.done (by decide +kernel) (T.sub hK ⟨rfl,rfl,rfl,rfl,rfl,(congrArg AV.bool ((congrArg (fun p=>p) (Option.some.inj hz)).symm)).symm,trivial⟩))))))
theorem wW {p0:State} {p1:List Node} {p2 p3:Int} {p4:List (List Item)} {p5:Int} {p6:List ((List UInt8) × Unit)} {p7:List (List Item)} {r:State × (List Move)} (h:kx p0 p1 p2 p3 p4 p5 p6 p7=some r):FnX Tryz.prog 61 [.ptr 0 0,.agg (aH p0)] [.box [sL ai p1,iI p2,iI p3,sL (ae aa) p4,iI p5,.mpr 1,.ref 2],.mp (List.map kS (List.map Prod.fst p6)) (List.map kU (List.map Prod.snd p6)),aR 26 1 (ae aa) p7] (.tup [.agg (aH r.1),.ref 3]) [.box [sL ai p1,iI p2,iI p3,sL (ae aa) p4,iI p5,.mpr 1,.ref 2],.mp (List.map kS (List.map Prod.fst p6)) (List.map kU (List.map Prod.snd p6)),aR 26 1 (ae aa) p7,aR 88 2 aD r.2]:=by
 unfold kx at h;refine fT 3 8 Tryz.func61 Tryz.ntmps61 rfl (itr (fun ss_19:(List Int) × (List (List Item)) × (List Memory) × (List Choice) × (List Item)=>mkA 46 [(2,.ptr 3 0),(3,.ptr 4 0),(4,.ptr 5 0)]) (fun ss_19=>[.box [sL ai p1,iI p2,iI p3,sL (ae aa) p4,iI p5,.mpr 1,.ref 2],.mp (List.map kS (List.map Prod.fst p6)) (List.map kU (List.map Prod.snd p6)),aR 26 1 (ae aa) p7,.box [.ptr 0 0],.box [sL ah ss_19.1,sL (ae aa) ss_19.2.1,sL am ss_19.2.2.1,sL aF ss_19.2.2.2.1,sL aa ss_19.2.2.2.2],.box [.nils,.nils,.nils,.nils,.nils]]) h (wk [] [0,1,2,3,4,5] 6 rfl) (fun ss_19 v_20 h hv_20=>?_));obtain ⟨s1,s2,s3,s4,s5⟩:=ss_19;replace h:eB p1 p2 p3 p4 p5 p6 p7 s1 s2 s3 s4 s5=some v_20:=h;try dsimp only
 unfold eB at h;refine B h fun x7 hx7 h=>(X 2 6 (T.drawn mixed (k:=15) rfl ?_))
 apply RA.jn 6 (bm 15 511);intro hS21;apply RA.jn 7 (bm 15 255);intro hS22;apply RA.jn 7 (bm 15 383);intro hS23
 ·refine ra3 0 4 8 ?_ ?_ ?_
  ·exact og 6 ⟨rfl,(rq [1,2] 12 (rL [4,5,6,7,9,10,11,12,13,14] 4 rfl (rq [5,6] 9 (rL [3,9,10,11,12,13,14] 3 rfl (rL [7,9,10,11,12,13,14] 7 rfl (raE hS22))))))⟩
  ·exact og 6 ⟨rfl,(rq [5,6] 12 (rL [0,1,2,3,9,10,11,12,13,14] 0 rfl (rq [1,2] 9 (rL [3,9,10,11,12,13,14] 3 rfl (rL [7,9,10,11,12,13,14] 7 rfl (raT hS22))))))⟩
  ·refine og 6 ⟨rfl,(ra2 0 4 ?_ ?_)⟩
   ·exact og 6 ⟨rfl,(rq [1,2] 11 (rL [4,5,6,7,9,10,11,12,13,14] 4 rfl (rq [5,6] 8 (rL [3,9,10,11,12,13,14] 3 rfl (raE hS23)))))⟩
   ·exact og 6 ⟨rfl,(rq [5,6] 11 (rL [0,1,2,3,9,10,11,12,13,14] 0 rfl (rq [1,2] 8 (rL [3,9,10,11,12,13,14] 3 rfl (raT hS23)))))⟩
 ·exact ra1 7 (og 6 ⟨rfl,(raE hS21)⟩)
 ·exact ra1 8 (og 6 ⟨rfl,(raT hS21)⟩)
 refine ra1 9 (oO rfl (cO 6 (ye hx7) ⟨rfl,(rq [10,11,12,13,14] 0 (RA.done (by decide +kernel) (B h fun x9 hx9 h=>(X 4 7 (sO (cG [6,3,0,1,2] 7 5 (wH hx9) ⟨rfl,(Y 8 7 (T.ci h rfl (fun hb_24 h=>?_) (fun hb_24 h=>?_)))⟩))))))⟩))
 ·refine X 7 7 ?_;replace h:=mi h hv_20;cases h;exact tO [] [0,1,2,6] 7
 refine B h fun x10 hx10 h=>(B h fun x11 hx11 h=>(B h fun x12 hx12 h=>(X 1 7 (T.drawn mixed (k:=18) rfl ?_))))
 apply RA.jn 5 (bm 18 8191);intro hS26;apply RA.jn 6 (bm 18 4095);intro hS27;apply RA.jn 6 (bm 18 7935);intro hS28;apply RA.jn 6 (bm 18 8063);intro hS29;apply RA.jn 13 (bm 18 7936);intro hS30
 ·refine rq [9,10] 16 (r0 11 rfl (aA (en:=aD) Ty.s84 rfl rfl rfl hx10 (ra4 0 4 8 12 ?_ ?_ ?_ ?_)))
  ·exact og 7 ⟨rfl,(rq [1,2] 12 (rL [4,5,6,7,13,14,15,16,17] 4 rfl (rq [5,6] 9 (rL [3,13,14,15,16,17] 3 rfl (rL [7,13,14,15,16,17] 7 rfl (rL [8,13,14,15,16,17] 8 rfl (raE hS27)))))))⟩
  ·exact og 7 ⟨rfl,(rq [5,6] 12 (rL [0,1,2,3,13,14,15,16,17] 0 rfl (rq [1,2] 9 (rL [3,13,14,15,16,17] 3 rfl (rL [7,13,14,15,16,17] 7 rfl (rL [8,13,14,15,16,17] 8 rfl (raT hS27)))))))⟩
  ·refine og 7 ⟨rfl,(ra3 0 4 12 ?_ ?_ ?_)⟩
   ·exact og 7 ⟨rfl,(rq [1,2] 11 (rL [4,5,6,7,13,14,15,16,17] 4 rfl (rq [5,6] 8 (rL [3,13,14,15,16,17] 3 rfl (rL [7,13,14,15,16,17] 7 rfl (raT hS27))))))⟩
   ·exact og 7 ⟨rfl,(rq [5,6] 11 (rL [0,1,2,3,13,14,15,16,17] 0 rfl (rq [1,2] 8 (rL [3,13,14,15,16,17] 3 rfl (rL [7,13,14,15,16,17] 7 rfl (raT hS27))))))⟩
   ·exact oO rfl (aB (en:=aD) (a:=x11) rfl rfl hx11 (cm Ty.k88 Ty.c88 rfl (cs:=(aD x11)) rfl (raE hS30)))
  ·refine oO rfl (aB (en:=aD) (a:=x11) rfl rfl hx11 (cm Ty.k88 Ty.c88 rfl (cs:=(aD x11)) rfl (ra3 0 4 8 ?_ ?_ ?_)))
   ·exact og 7 ⟨rfl,(rq [1,2] 11 (rL [4,5,6,7,13,14,15,16,17] 4 rfl (rq [5,6] 8 (rL [3,13,14,15,16,17] 3 rfl (rL [7,13,14,15,16,17] 7 rfl (raE hS28))))))⟩
   ·exact og 7 ⟨rfl,(rq [5,6] 11 (rL [0,1,2,3,13,14,15,16,17] 0 rfl (rq [1,2] 8 (rL [3,13,14,15,16,17] 3 rfl (rL [7,13,14,15,16,17] 7 rfl (raT hS28))))))⟩
   ·exact og 7 ⟨rfl,(raT hS30)⟩
 ·refine ra2 0 4 ?_ ?_
  ·exact og 7 ⟨rfl,(rq [1,2] 10 (rL [4,5,6,7,13,14,15,16,17] 4 rfl (rq [5,6] 7 (rL [3,13,14,15,16,17] 3 rfl (raE hS29)))))⟩
  ·exact og 7 ⟨rfl,(rq [5,6] 10 (rL [0,1,2,3,13,14,15,16,17] 0 rfl (rq [1,2] 7 (rL [3,13,14,15,16,17] 3 rfl (raT hS29)))))⟩
 ·exact ra1 7 (og 7 ⟨rfl,(raE hS26)⟩)
 ·exact ra1 8 (og 7 ⟨rfl,(raT hS26)⟩)
 ·exact ra1 12 (oO rfl (aB (en:=aD) (a:=x11) rfl rfl hx11 (cm Ty.k88 Ty.c88 rfl (cs:=(aD x11)) rfl (raT hS26))))
 exact ra1 13 (oO rfl (cD (o8 hx12) ⟨rfl,(rq [14,15,16] 1 (ra1 17 (og 7 ⟨rfl,(RA.done (by decide +kernel) (lk h (wk [] [0,1,2,3,4,5] 7 rfl)))⟩)))⟩))
theorem xO {p0:Net} {p1:List Choice} {r:Int} (h:kX p0 p1=some r):Fn Tryz.prog 116 [.agg (au p0),sL aF p1] (iI r):=by
 unfold kX at h;refine fT 0 0 Tryz.func116 Tryz.ntmps116 rfl ?_;refine B h fun x2 hx2 h=>(X 9 0 (sO (cF (qN hx2) ⟨rfl,(Y 7 1 (T.ci h rfl (fun hb_1 h=>?_) (fun hb_1 h=>?_)))⟩)))
 ·refine X 5 1 ?_;cases h;exact tD
 refine X 5 1 (sQ (aj Ty.s51 rfl (Y 2 1 (T.ci h rfl (fun hb_2 h=>?_) (fun hb_2 h=>?_)))))
 ·refine X 4 1 ?_;cases h;exact tD
 refine X 5 1 (sQ (aj Ty.s51 rfl (Y 3 1 (itr (fun ss_29:Int=>mkA 60 [(2,.ptr 0 0),(16,sL aF p1),(17,iI ((p1).length:Int)),(18,iI ss_29)]) (fun ss_29=>[.box (au p0)]) h (wk [] [0] 1 rfl) (fun ss_29 v_30 h hv_30=>?_)))));revert hv_30 h;revert ss_29;intro s3 h hv_30;replace h:kO p0 p1 s3=some v_30:=h;try dsimp only
 unfold kO at h;refine X 5 1 (T.ci h rfl (fun hb_31 h=>?_) (fun hb_31 h=>?_))
 ·refine B h fun x5 hx5 h=>(X 5 1 (sQ (ao Ty.s51 (fun _=>rfl) rfl rfl hx5 (Y 5 1 ?_))))
  obtain ⟨zt_34,hz,h⟩:=bind_some h;revert hz h;revert zt_34;intro c7 hz h;refine j1 [(2,.ptr 0 0),(7,.ptr 1 0),(16,sL aF p1),(17,iI ((p1).length:Int)),(18,iI s3),(42,.bool c7)] [.box (au p0),.box (aF x5)] ?_ (fun hK=>?_)
  ·refine T.ci h rfl (fun hb_35 h=>?_) (fun hb_35 h=>?_)
   ·refine X 4 2 ?_;replace h:=mi h hv_30;cases h;exact tD
   refine X 1 2 ?_;obtain ⟨zt_38,hz,h⟩:=bind_some h;revert hz h;revert zt_38;intro c9 hz h;refine j1 [(2,.ptr 0 0),(16,sL aF p1),(17,iI ((p1).length:Int)),(18,iI s3),(58,.bool c9)] [.box (au p0)] ?_ (fun hK=>?_)
   ·refine T.ci h rfl (fun hb_39 h=>?_) (fun hb_39 h=>?_)
    ·refine X 4 1 ?_;replace h:=mi h hv_30;cases h;exact tD
    exact X 5 1 (lk h (wk [] [0] 1 rfl))
   refine X 1 2 ?_;rcases ba (decide (x5.Lane<0)) with hb_37 | hb_37
   ·replace hz:=bT hz hb_37;refine T.drawn mixed (k:=16) rfl (rq [0] 15 (ra1 1 (og 2 ⟨rfl,(rq [2,3] 12 (r2 4 rfl hb_37 (r2 5 rfl hb_37 (r2 6 rfl hb_37 (r2 7 rfl hb_37 (r2 8 rfl hb_37 ?_))))))⟩)));exact r2 9 rfl hb_37 (r2 10 rfl hb_37 (r2 11 rfl hb_37 (r2 12 rfl hb_37 (r2 13 rfl hb_37 (r2 14 rfl hb_37 (r0 15 rfl (aY (v:=.bool true) rfl hb_37 rfl (RA.done (by decide +kernel) (T.weakR hK (Weak.mkN [] [0] (by decide) (bx _) rfl ⟨cP rfl,rn_s rfl,be rfl,be rfl,eP ((congrArg (fun p=>p) (Option.some.inj hz)).symm),trivial⟩ (rw_bs (au p0) rfl (bh))))))))))))
   replace hz:=bR hz hb_37;refine B hz fun x8 hx8 hz=>(T.drawn mixed (k:=16) rfl ?_)
   apply RA.jn 0 (bm 16 65535);intro hS41;apply RA.jn 4 (bm 16 4095);intro hS42;apply RA.jn 5 (bm 16 4063);intro hS43;apply RA.jn 7 (bm 16 895);intro hS44;apply RA.jn 7 (bm 16 511);intro hS45
   ·refine rq [0] 15 (ra1 1 (og 2 ⟨rfl,(rq [2,3] 12 (ry 4 hb_37 rfl (ry 6 hb_37 rfl (ry 8 hb_37 rfl (ra3 5 7 9 ?_ ?_ ?_)))))⟩))
    ·refine oy 2 hb_37 rfl (ra2 7 9 ?_ ?_)
     ·exact oy 2 hb_37 rfl (raE hS45)
     ·exact oy 2 hb_37 rfl (raE hS44)
    ·refine oy 2 hb_37 rfl (ra2 5 9 ?_ ?_)
     ·exact oy 2 hb_37 rfl (raT hS45)
     ·exact oy 2 hb_37 rfl (r1 10 rfl hb_37 (ao Ty.s22 (fun _=>rfl) rfl rfl hx8 (ry 11 hb_37 rfl (raE hS43))))
    ·refine oy 2 hb_37 rfl (ra2 5 7 ?_ ?_)
     ·exact oy 2 hb_37 rfl (raT hS44)
     ·exact oy 2 hb_37 rfl (r1 10 rfl hb_37 (ao Ty.s22 (fun _=>rfl) rfl rfl hx8 (ry 11 hb_37 rfl (raT hS43))))
   ·exact ra1 9 (oy 2 hb_37 rfl (r1 10 rfl hb_37 (ao Ty.s22 (fun _=>rfl) rfl rfl hx8 (ry 11 hb_37 rfl (raE hS42)))))
   ·exact ra1 7 (oy 2 hb_37 rfl (r1 10 rfl hb_37 (ao Ty.s22 (fun _=>rfl) rfl rfl hx8 (ry 11 hb_37 rfl (raT hS42)))))
   ·refine ra2 5 12 ?_ ?_
    ·exact oy 2 hb_37 rfl (raT hS42)
    ·exact oy 2 hb_37 rfl (r1 13 rfl hb_37 (aj Ty.s49 rfl (ra1 5 (oy 2 hb_37 rfl (ry 14 hb_37 rfl (r0 15 rfl (aP (v:=.bool (decide (x5.Lane >= ((x8.In).length:Int)))) rfl hb_37 rfl (raE hS41))))))))
   ·exact ra1 12 (oy 2 hb_37 rfl (r1 13 rfl hb_37 (aj Ty.s49 rfl (ry 14 hb_37 rfl (r0 15 rfl (aP (v:=.bool (decide (x5.Lane >= ((x8.In).length:Int)))) rfl hb_37 rfl (raT hS41)))))))
   exact RA.done (by decide +kernel) (T.weakR hK (Weak.mkN [] [0] (by decide) (bx _) rfl ⟨cP rfl,rn_s rfl,be rfl,be rfl,eP ((congrArg (fun p=>p) (Option.some.inj hz)).symm),trivial⟩ (rw_bs (au p0) rfl (bh))))
  refine X 6 2 (gi 25 hz (fun hb_32 hz=>?_) (fun hb_32 hz=>?_))
  ·refine Yp 18 2 ?_;cases hz;exact sx hK
  refine Y 4 2 (yQ rfl (aj Ty.s22 rfl (Yp 3 2 (gi 33 hz (fun hb_33 hz=>?_) (fun hb_33 hz=>?_)))))
  ·refine Yp 10 2 ?_;cases hz;exact sx hK
  refine B hz fun x6 hx6 hz=>(Y 4 2 (yQ rfl (ao Ty.s22 (fun _=>rfl) rfl rfl hx6 (Yp 5 2 ?_))))
  cases hz;exact sx hK
 refine X 1 1 ?_;replace h:=mi h hv_30;refine X 4 1 ?_;cases h;exact tD
theorem xR {p0:Net} {p1:List Choice} {r:(List (List Int)) × Int} (h:jA p0 p1=some r):Fn Tryz.prog 91 [.agg (au p0),sL aF p1] (.tup [sL (ae ah) r.1,iI r.2]):=by
 unfold jA at h;refine fT 0 0 Tryz.func91 Tryz.ntmps91 rfl ?_;refine B h fun x2 hx2 h=>(X 11 0 (sO (cF (xO hx2) ⟨rfl,(Y 7 1 (T.ci h rfl (fun hb_1 h=>?_) (fun hb_1 h=>?_)))⟩)))
 ·refine X 6 1 ?_;cases h;exact tD
 refine B h fun x4 hx4 h=>(X 5 1 (sQ (aj Ty.s22 rfl (sO (Cp (en:=ah) (e2:=3) (c:=1) Ty.s143 Ty.z49 rfl rfl hx4 rfl rfl rfl (Y 6 3 (sQ (aj Ty.s51 rfl (Y 3 3 (itr (fun ss_20:Int × (List (Bool × List Int))=>mkA 41 [(7,.ref 0),(20,sL aF p1),(21,iI ((p1).length:Int)),(22,iI ss_20.1)]) (fun ss_20=>[.hd 49 1,.cl 3 1 (cL ah ss_20.2)]) h (wk [] [1,2] 3 rfl) (fun ss_20 v_21 h hv_21=>?_)))))))))))
 obtain ⟨s5,s6⟩:=ss_20;replace h:gm p1 s5 s6=some v_21:=h;try dsimp only
 unfold gm at h;refine X 5 2 (T.ci h rfl (fun hb_22 h=>?_) (fun hb_22 h=>?_))
 ·refine B h fun x8 hx8 h=>(X 5 2 (sQ (ao Ty.s51 (fun _=>rfl) rfl rfl hx8 (B h fun x9 hx9 h=>(B h fun x10 hx10 h=>(B h fun x11 hx11 h=>(B h fun x12 hx12 h=>(Y 4 2 (T.drawn mixed (k:=14) rfl ?_)))))))))
  apply RA.jn 2 (bm 14 4095);intro hS23;apply RA.jn 3 (bm 14 2047);intro hS24;apply RA.jn 4 (bm 14 1919);intro hS25;apply RA.jn 4 (bm 14 2043);intro hS26;apply RA.jn 4 (bm 14 1023);intro hS27;apply RA.jn 5 (bm 14 1855);intro hS28;apply RA.jn 5 (bm 14 1915);intro hS29;apply RA.jn 5 (bm 14 895);intro hS30
  ·refine rq [0,1,3,4,8] 9 (rL [5,6,7,11,12,13] 5 rfl (rL [9,10,11,12,13] 9 rfl (ra3 2 6 10 ?_ ?_ ?_)))
   ·refine og 3 ⟨rfl,(ra2 6 10 ?_ ?_)⟩
    ·exact oO rfl (bi Ty.s143 rfl rfl rfl rfl br hx9 (raE hS30))
    ·exact oO rfl (aM (rows:=List.map ah [x8.Lane]) (vs:=[iI x8.Lane]) Ty.s49 Ty.z3 rfl rfl rfl rfl rfl rfl (raE hS28))
   ·refine oO rfl (bi Ty.s143 rfl rfl rfl rfl br hx9 (ra3 2 7 10 ?_ ?_ ?_))
    ·exact og 3 ⟨rfl,(raT hS30)⟩
    ·refine oO rfl (bu Ty.k49 rfl rfl rfl hx10 (ra2 2 10 ?_ ?_))
     ·exact og 3 ⟨rfl,(raE hS27)⟩
     ·exact oO rfl (aM (rows:=List.map ah [x8.Lane]) (vs:=[iI x8.Lane]) Ty.s49 Ty.z3 rfl rfl rfl rfl rfl rfl (raE hS26))
    ·exact oO rfl (aM (rows:=List.map ah [x8.Lane]) (vs:=[iI x8.Lane]) Ty.s49 Ty.z3 rfl rfl rfl rfl rfl rfl (raE hS29))
   ·refine oO rfl (aM (rows:=List.map ah [x8.Lane]) (vs:=[iI x8.Lane]) Ty.s49 Ty.z3 rfl rfl rfl rfl rfl rfl (ra2 2 6 ?_ ?_))
    ·exact og 4 ⟨rfl,(raT hS28)⟩
    ·exact oO rfl (bi Ty.s143 rfl rfl rfl rfl br hx9 (raT hS29))
  ·refine ra2 7 10 ?_ ?_
   ·exact oO rfl (bu Ty.k49 rfl rfl rfl hx10 (raT hS27))
   ·exact oO rfl (aM (rows:=List.map ah [x8.Lane]) (vs:=[iI x8.Lane]) Ty.s49 Ty.z3 rfl rfl rfl rfl rfl rfl (raE hS25))
  ·refine ra2 2 7 ?_ ?_
   ·exact og 4 ⟨rfl,(raT hS25)⟩
   ·exact oO rfl (bu Ty.k49 rfl rfl rfl hx10 (raT hS26))
  ·exact ra1 6 (oO rfl (bi Ty.s143 rfl rfl rfl rfl br hx9 (raT hS25)))
  ·exact ra1 10 (oO rfl (aM (rows:=List.map ah [x8.Lane]) (vs:=[iI x8.Lane]) Ty.s49 Ty.z3 rfl rfl rfl rfl rfl rfl (raE hS24)))
  ·refine ra2 2 11 ?_ ?_
   ·exact og 4 ⟨rfl,(raT hS24)⟩
   ·exact RO.outc 33 1 x9 rfl rfl hx11 rfl rfl (oO rfl (bG (en:=ah) (xs:=x11) (ys:=([x8.Lane]:List Int)) Ty.s49 (fun _=>rfl) rfl rfl rfl hx12 rfl rfl (ra1 2 (og 6 ⟨rfl,(raE hS23)⟩))))
  ·exact ra1 7 (oO rfl (bu Ty.k49 rfl rfl rfl hx10 (raT hS24)))
  ·exact ra1 11 (RO.outc 33 1 x9 rfl rfl hx11 rfl rfl (oO rfl (bG (en:=ah) (xs:=x11) (ys:=([x8.Lane]:List Int)) Ty.s49 (fun _=>rfl) rfl rfl rfl hx12 rfl rfl (raT hS23))))
  exact ra1 12 (oO rfl (bi Ty.s143 rfl rfl rfl rfl cl_lh hx9 (ra1 13 (oO rfl (uv Ty.c49 Ty.i49 (fun _=>rfl) (fun _=>rfl) rfl rfl rfl rfl cl_lh hx10 cl_sh rfl rfl (RA.done (by decide +kernel) (X 4 7 (lk h (wk [] [0,6] 7 rfl)))))))))
 refine X 1 2 ?_;replace h:=mi h hv_21;refine X 6 2 (T.thaw 0 1 rfl rfl rfl ?_);cases h;exact tD
theorem BW {p0:Int} {r:List UInt8} (h:itoaW p0=some r):Fn Tryz.prog 92 [.int .i64 p0] (.str r):=BJ p0 r h
theorem wY {p0:State} {p1:List Node} {p2 p3:Int} {p4:List (List Item)} {p5:Int} {p6:List ((List UInt8) × Unit)} {p7:List (List Item)} {r:List UInt8} (h:kw p0 p1 p2 p3 p4 p5 p6 p7=some r):FnX Tryz.prog 62 [.ptr 0 0,.agg (aH p0)] [.box [sL ai p1,iI p2,iI p3,sL (ae aa) p4,iI p5,.mpr 1,.ref 2],.mp (List.map kS (List.map Prod.fst p6)) (List.map kU (List.map Prod.snd p6)),aR 26 1 (ae aa) p7] (.str r) [.box [sL ai p1,iI p2,iI p3,sL (ae aa) p4,iI p5,.mpr 1,.ref 2],.mp (List.map kS (List.map Prod.fst p6)) (List.map kU (List.map Prod.snd p6)),aR 26 1 (ae aa) p7]:=by
 unfold kw at h;refine fT 3 0 Tryz.func62 Tryz.ntmps62 rfl ?_;refine B h fun x2 hx2 h=>(X 6 3 (T.drawn mixed (k:=12) rfl (rq [0,1,2,4] 8 (rL [3,6,7,8,9,10,11] 3 rfl (ra1 5 (og 4 ⟨rfl,(ra1 6 (oO rfl (cD (xR hx2) ⟨rfl,(rq [7,8,9,10,11] 0 ?_)⟩)))⟩))))))
 refine RA.done (by decide +kernel) (X 8 4 (sQ (aj Ty.s143 rfl (Y 3 4 (itr (fun ss_15:(List UInt8) × Int=>mkA 44 [(7,.str ss_15.1),(22,sL (ae ah) x2.1),(23,iI ((x2.1).length:Int)),(24,iI ss_15.2)]) (fun ss_15=>[.box [sL ai p1,iI p2,iI p3,sL (ae aa) p4,iI p5,.mpr 1,.ref 2],.mp (List.map kS (List.map Prod.fst p6)) (List.map kU (List.map Prod.snd p6)),aR 26 1 (ae aa) p7]) h (wk [] [0,1,2] 4 rfl) (fun ss_15 v_16 h hv_16=>?_))))));obtain ⟨s3,s4⟩:=ss_15;replace h:fQ x2 s3 s4=some v_16:=h;try dsimp only
 unfold fQ at h;refine X 5 3 (T.ci h rfl (fun hb_17 h=>?_) (fun hb_17 h=>?_))
 ·refine B h fun x6 hx6 h=>(X 5 3 (sQ (ao Ty.s143 (fun _=>rfl) rfl rfl hx6 (Y 7 3 (sQ (aj Ty.s49 rfl (Y 3 3 (itr (fun ss_20:(List UInt8) × Int=>mkA 44 [(7,.str ss_20.1),(22,sL (ae ah) x2.1),(23,iI ((x2.1).length:Int)),(24,iI s4),(28,sL ah x6),(29,iI ((x6).length:Int)),(30,iI ss_20.2)]) (fun ss_20=>[.box [sL ai p1,iI p2,iI p3,sL (ae aa) p4,iI p5,.mpr 1,.ref 2],.mp (List.map kS (List.map Prod.fst p6)) (List.map kU (List.map Prod.snd p6)),aR 26 1 (ae aa) p7]) h (wk [] [0,1,2] 3 rfl) (fun ss_20 v_21 h hv_21=>?_)))))))))
  obtain ⟨s7,s8⟩:=ss_20;replace h:fP s4 x6 s7 s8=some v_21:=h;try dsimp only
  unfold fP at h;refine X 5 3 (T.ci h rfl (fun hb_22 h=>?_) (fun hb_22 h=>?_))
  ·refine B h fun x10 hx10 h=>(X 5 3 (sQ (ao Ty.s49 (fun _=>rfl) rfl rfl hx10 (B h fun x11 hx11 h=>(B h fun x12 hx12 h=>(B h fun x13 hx13 h=>(Y 6 3 (sO (cF (BW hx11) ⟨rfl,(sQ (lQ rfl rfl hx12 (sQ (lQ rfl rfl hx13 ?_))))⟩)))))))))
   exact Y 6 3 (lk h (wk [] [0,1,2] 3 rfl))
  refine X 1 3 ?_;replace h:=mi h hv_21;exact B h fun x14 hx14 h=>(X 2 3 (sQ (lQ rfl rfl hx14 (Y 6 3 (lk h (wk [] [0,1,2] 3 rfl))))))
 refine X 1 3 ?_;replace h:=mi h hv_16;refine X 5 3 ?_;cases h;exact tN [0,1,2]
theorem qJ {p0:List Item} {r:(List Item) × Int} (h:jE p0=some r):FnO Tryz.prog 36 [sL aa p0] (.tup [.ref 0,iI r.2]) [aR 39 3 aa r.1]:=by
 unfold jE at h;refine fT 0 9 Tryz.func36 Tryz.ntmps36 rfl (sQ (aj Ty.s26 rfl (Y 2 0 (T.ci h rfl (fun hb_1 h=>?_) (fun hb_1 h=>?_)))))
 ·refine X 5 0 ?_;cases h;exact tO [(0,39,3)] [0] 0
 refine B h fun x2 hx2 h=>(X 4 0 (sO (cO 0 (dy hx2) ⟨rfl,(Y 6 1 (sQ (bt (en:=aa) Ty.s26 rfl rfl (Y 3 1 (itr (fun ss_4:Int × (List Item)=>mkA 22 [(4,.ref 0),(12,iI ((x2).length:Int)),(13,iI ss_4.1)]) (fun ss_4=>[aR 39 3 aa ss_4.2]) h (wk [] [0] 1 rfl) (fun ss_4 v_5 h hv_5=>?_))))))⟩)))
 obtain ⟨s3,s4⟩:=ss_4;replace h:hU x2 s3 s4=some v_5:=h;try dsimp only
 unfold hU at h;refine X 5 1 (T.ci h rfl (fun hb_6 h=>?_) (fun hb_6 h=>?_))
 ·exact B h fun x5 hx5 h=>(B h fun x6 hx6 h=>(X 11 1 (sQ (aA (en:=aa) Ty.s26 rfl rfl rfl hx5 (Y 1 1 (sO (cB (en:=aa) (a:=x6) (a':=(⟨x6.Key,x6.Val,0⟩:Item)) Ty.c3 Ty.i3 rfl (vs:=[iI 0]) rfl rfl rfl hx6 rfl rfl rfl (Y 5 1 (lk h (wk [] [0] 1 rfl))))))))))
 refine X 1 1 ?_;replace h:=mi h hv_5;refine X 6 1 ?_;cases h;exact tO [] [0] 1
theorem wS {p0:State} {p1:List Node} {p2 p3:Int} {p4:List (List Item)} {p5:Int} {p6:List ((List UInt8) × Unit)} {p7:List (List Item)} {r:Bool × (List Node) × Int × Int × (List (List Item)) × Int × (List ((List UInt8) × Unit)) × (List (List Item))} (h:ma p0 p1 p2 p3 p4 p5 p6 p7=some r):FnX Tryz.prog 29 [.ptr 0 0,.agg (aH p0)] [.box [sL ai p1,iI p2,iI p3,sL (ae aa) p4,iI p5,.mpr 1,.ref 2],.mp (List.map kS (List.map Prod.fst p6)) (List.map kU (List.map Prod.snd p6)),aR 26 1 (ae aa) p7] (.bool r.1) [.box [sL ai r.2.1,iI r.2.2.1,iI r.2.2.2.1,sL (ae aa) r.2.2.2.2.1,iI r.2.2.2.2.2.1,.mpr 1,.ref 3],.mp (List.map kS (List.map Prod.fst r.2.2.2.2.2.2.1)) (List.map kU (List.map Prod.snd r.2.2.2.2.2.2.1)),.dead,aR 26 1 (ae aa) r.2.2.2.2.2.2.2]:=by
 unfold ma at h;replace h:=rM h;obtain ⟨n9,h⟩:=h;induction n9 generalizing p0 p1 p2 p3 p4 p5 p6 p7 r
 · simp [cU] at h
 rename_i n9 ih;replace h:fa (cU (fun (rcr:(State × (List Node) × Int × Int × (List (List Item)) × Int × (List ((List UInt8) × Unit)) × (List (List Item)))->Option (Bool × (List Node) × Int × Int × (List (List Item)) × Int × (List ((List UInt8) × Unit)) × (List (List Item)))) (a:State × (List Node) × Int × Int × (List (List Item)) × Int × (List ((List UInt8) × Unit)) × (List (List Item)))=>fa rcr a.1 a.2.1 a.2.2.1 a.2.2.2.1 a.2.2.2.2.1 a.2.2.2.2.2.1 a.2.2.2.2.2.2.1 a.2.2.2.2.2.2.2) n9) p0 p1 p2 p3 p4 p5 p6 p7=some r:=h;generalize cU (fun (rcr:(State × (List Node) × Int × Int × (List (List Item)) × Int × (List ((List UInt8) × Unit)) × (List (List Item)))->Option (Bool × (List Node) × Int × Int × (List (List Item)) × Int × (List ((List UInt8) × Unit)) × (List (List Item)))) (a:State × (List Node) × Int × Int × (List (List Item)) × Int × (List ((List UInt8) × Unit)) × (List (List Item)))=>fa rcr a.1 a.2.1 a.2.2.1 a.2.2.2.1 a.2.2.2.2.1 a.2.2.2.2.2.1 a.2.2.2.2.2.2.1 a.2.2.2.2.2.2.2) n9=rcr at h ih;unfold fa at h;refine fT 3 0 Tryz.func29 Tryz.ntmps29 rfl ?_;refine mO 0 6 2 3 (B h fun x2 hx2 h=>(X 9 4 (sO (cG [0,1,3] 5 4 (wW hx2) ⟨rfl,(B h fun x4 hx4 h=>(Y 10 6 (sO (cG [0,1,3] 6 3 (wY hx4) ⟨rfl,(Y 10 6 (sO (oA (ek:=kS) (ev:=kU) (xs:=p6) (k:=x4) (z0:=()) Tryz.underlying65 (KeyT.str Tryz.underlying9) Ty.w106 (fun _ _ _=>Bg) rfl rfl rfl (Y 11 6 ?_))))⟩))))⟩))));refine T.ci h rfl (fun hb_1 h=>?_) (fun hb_1 h=>?_)
 ·refine X 4 7 ?_;cases h;exact tN [0,1,2,3]
 refine X 9 7 (sO (iE (ek:=kS) (ev:=kU) (xs:=p6) (k:=x4) (a:=()) (.inl rfl) Tryz.underlying65 (KeyT.str Tryz.underlying9) rfl rfl rfl rfl rfl (Y 21 7 (T.ci h rfl (fun hb_2 h=>?_) (fun hb_2 h=>?_)))))
 ·refine X 4 7 ?_;cases h;exact tN [0,1,2,3]
 refine X 5 7 (sQ (bt (en:=aD) Ty.s84 rfl rfl (Y 2 7 (T.ci h rfl (fun hb_3 h=>?_) (fun hb_3 h=>?_)))))
 ·refine B h fun x6 hx6 h=>(X 4 7 (sO (cO 7 (qJ hx6) ⟨rfl,(B h fun x8 hx8 h=>(Y 14 8 (RS.fC 7 (sO (aM (rows:=List.map (ae aa) [x6.1]) (vs:=[sL aa x6.1]) Ty.s25 Ty.z26 rfl rfl rfl rfl rfl rfl (sO (bG (en:=(ae aa)) (xs:=p7) (ys:=([x6.1]:List (List Item))) Ty.s25 (fun _=>rfl) rfl rfl rfl hx8 rfl rfl (Y 8 10 ?_))))))))⟩)))
  cases h;exact tN [0,1,2,9]
 refine X 5 7 (sQ (bt (en:=aD) Ty.s84 rfl rfl (Y 3 7 (itr (fun ss_10:Int × (List Node) × Int × Int × (List (List Item)) × Int × (List ((List UInt8) × Unit)) × (List (List Item))=>mkA 96 [(0,.ptr 0 0),(3,.ptr 3 0),(71,.ref 4),(72,iI ((x2.2).length:Int)),(73,iI ss_10.1)]) (fun ss_10=>[.box [sL ai ss_10.2.1,iI ss_10.2.2.1,iI ss_10.2.2.2.1,sL (ae aa) ss_10.2.2.2.2.1,iI ss_10.2.2.2.2.2.1,.mpr 1,.ref 5],.mp (List.map kS (List.map Prod.fst ss_10.2.2.2.2.2.2.1)) (List.map kU (List.map Prod.snd ss_10.2.2.2.2.2.2.1)),.dead,.box (aH x2.1),aR 88 2 aD x2.2,aR 26 1 (ae aa) ss_10.2.2.2.2.2.2.2]) h (wk [] [0,1,2,4,5,3] 7 rfl) (fun ss_10 v_11 h hv_11=>?_)))));obtain ⟨s9,s10,s11,s12,s13,s14,s15,s16⟩:=ss_10;replace h:dX rcr x2 s9 s10 s11 s12 s13 s14 s15 s16=some v_11:=h;try dsimp only
 unfold dX at h;refine X 5 6 (T.ci h rfl (fun hb_12 h=>?_) (fun hb_12 h=>?_))
 ·refine B h fun x19 hx19 h=>(B h fun x20 hx20 h=>(X 5 6 (sQ (aA (en:=aD) Ty.s84 rfl rfl rfl hx19 (sO (aB (en:=aD) (a:=x20) rfl rfl hx20 (cm Ty.k88 Ty.c88 rfl (cs:=(aD x20)) rfl (B h fun x22 hx22 h=>(Y 4 6 (T.drawn mixed (k:=17) rfl ?_))))))))))
  apply RA.jn 2 (bm 17 32767);intro hS13
  ·refine rq [0,1,2,4,5,6] 11 (rL [3,10,11,12,13,15,16] 3 rfl (rL [7,10,11,12,13,15,16] 7 rfl (rL [8,10,11,12,13,15,16] 8 rfl (rL [9,10,11,12,13,15,16] 9 rfl (ra2 10 14 ?_ ?_)))))
   ·exact oO rfl (cD (o8 hx22) ⟨rfl,(rq [11,12,13] 3 (ra1 14 (og 7 ⟨rfl,(raE hS13)⟩)))⟩)
   ·exact og 7 ⟨rfl,(ra1 10 (oO rfl (cD (o8 hx22) ⟨rfl,(rq [11,12,13] 2 (raT hS13))⟩)))⟩
  refine ra1 15 (og 8 ⟨rfl,(rq [16] 0 (RA.done (by decide +kernel) (B h fun x24 hx24 h=>(X 4 8 (sO (cG [0,1,5] 8 4 (ih hx24) ⟨rfl,(Y 2 9 (T.ci h rfl (fun hb_14 h=>?_) (fun hb_14 h=>?_)))⟩))))))⟩)
  ·refine X 4 9 ?_;replace h:=mi h hv_11;cases h;exact tN [0,1,2,8]
  exact X 5 9 (lk h (wk [] [0,1,2,3,4,8] 9 rfl))
 refine X 1 6 ?_;replace h:=mi h hv_11;refine X 4 6 ?_;cases h;exact tN [0,1,2,5]
theorem xI {p0 p1:Item} {r:Int} (h:kT p0 p1=some r):Fn Tryz.prog 32 [.agg (aa p0),.agg (aa p1)] (iI r):=by
 unfold kT at h;refine fT 0 17 Tryz.func32 Tryz.ntmps32 rfl (T.ci h rfl (fun hb_1 h=>?_) (fun hb_1 h=>?_))
 ·refine X 9 2 (T.ci h rfl (fun hb_2 h=>?_) (fun hb_2 h=>?_))
  ·refine X 4 2 ?_;cases h;exact tD
  refine X 5 2 ?_;cases h;exact tD
 refine X 9 2 (T.ci h rfl (fun hb_3 h=>?_) (fun hb_3 h=>?_))
 ·refine X 9 2 (T.ci h rfl (fun hb_4 h=>?_) (fun hb_4 h=>?_))
  ·refine X 4 2 ?_;cases h;exact tD
  refine X 5 2 ?_;cases h;exact tD
 refine X 5 2 ?_;cases h;exact tD
theorem qf {p0 p1:List Item} {r:Int} (h:iV p0 p1=some r):Fn Tryz.prog 31 [sL aa p0,sL aa p1,.func 32 []] (iI r):=by
 unfold iV at h;refine fT 0 8 Tryz.func31 Tryz.ntmps31 rfl (sQ (aj Ty.s26 rfl (Y 3 0 (itr (fun ss_7:Int=>mkA 39 [(0,sL aa p0),(1,sL aa p1),(2,.func 32 []),(11,sL aa p0),(12,iI ((p0).length:Int)),(13,iI ss_7)]) (fun ss_7=>[]) h (wk [] [] 0 rfl) (fun ss_7 v_8 h hv_8=>?_)))));revert hv_8 h;revert ss_7;intro s1 h hv_8;replace h:iU p0 p1 s1=some v_8:=h;try dsimp only
 unfold iU at h;refine X 5 0 (T.ci h rfl (fun hb_9 h=>?_) (fun hb_9 h=>?_))
 ·refine B h fun x3 hx3 h=>(X 6 0 (sQ (ao Ty.s26 (fun _=>rfl) rfl rfl hx3 (Y 10 0 (sQ (aj Ty.s26 rfl (Y 2 1 (T.ci h rfl (fun hb_10 h=>?_) (fun hb_10 h=>?_)))))))))
  ·refine X 4 1 ?_;replace h:=mi h hv_8;cases h;exact tD
  refine B h fun x5 hx5 h=>(X 5 1 (sQ (ao Ty.s26 (fun _=>rfl) rfl rfl hx5 (B h fun x7 hx7 h=>(Y 9 1 (sO (cF (xI hx7) ⟨rfl,(Y 7 2 (T.ci h rfl (fun hb_12 h=>?_) (fun hb_12 h=>?_)))⟩)))))))
  ·refine X 5 2 ?_;replace h:=mi h hv_8;cases h;exact tD
  exact X 5 2 (lk h (wk [] [] 2 rfl))
 refine X 1 0 ?_;replace h:=mi h hv_8;refine X 4 0 (sQ (aj Ty.s26 rfl (Y 1 0 (sQ (aj Ty.s26 rfl (Y 2 0 (T.ci h rfl (fun hb_15 h=>?_) (fun hb_15 h=>?_))))))))
 ·refine X 4 0 ?_;cases h;exact tD
 refine X 5 0 ?_;cases h;exact tD
theorem qH {p0 p1:List Item} {r:Int} (h:ik p0 p1=some r):Fn Tryz.prog 30 [sL aa p0,sL aa p1] (iI r):=by
 unfold ik at h;refine fT 0 0 Tryz.func30 Tryz.ntmps30 rfl ?_;refine B h fun x2 hx2 h=>(X 8 0 (sO (cF (qf hx2) ⟨rfl,(Y 2 0 ?_)⟩)))
 cases h;exact tD
theorem w6 {p0 r:List (List Item)} (h:nV p0=some r):FnX Tryz.prog 33 [.ref 0,.func 30 []] [aR 26 1 (ae aa) p0] (.tup []) [aR 26 1 (ae aa) r]:=r6 30 ik (fun h=>qH h) xL h
theorem qk {p0 p1:List Item} {r:Bool} (h:jg p0 p1=some r):FnX Tryz.prog 35 [sL aa p0,sL aa p1,.ptr 0 0] [.box [.func 30 []]] (.bool r) [.box [.func 30 []]]:=by
 unfold jg at h;refine fT 1 0 Tryz.func35 Tryz.ntmps35 rfl ?_;refine B h fun x2 hx2 h=>(X 9 1 (sO (cF (qH hx2) ⟨rfl,(Y 3 1 ?_)⟩)))
 cases h;exact tN [0]
theorem wv {p0 r:List (List Item)} (h:kg p0=some r):FnX Tryz.prog 34 [.ref 0,.func 35 [.ptr 1 0]] [aR 26 1 (ae aa) p0,.box [.func 30 []]] (.ref 2) [.dead,.box [.func 30 []],aR 26 1 (ae aa) r]:=by
 unfold kg at h;refine fT 2 0 Tryz.func34 Tryz.ntmps34 rfl ?_;refine T.mvS 0 0 rfl rfl rfl rfl (X 8 3 (sQ (bt (en:=(ae aa)) Ty.s25 rfl rfl (Y 2 3 (T.ci h rfl (fun hb_1 h=>?_) (fun hb_1 h=>?_))))))
 ·refine X 5 3 ?_;cases h;exact tO [] [0,1,2] 3
 refine X 7 3 (itr (fun ss_50:Int=>mkA 66 [(0,.ref 2),(1,.func 35 [.ptr 1 0]),(5,iI ss_50)]) (fun ss_50=>[.dead,.box [.func 30 []],aR 26 1 (ae aa) p0]) h (wk [] [0,1,2] 3 rfl) (fun ss_50 v_51 h hv_51=>?_));revert hv_51 h;revert ss_50;intro s1 h hv_51;replace h:eA p0 s1=some v_51:=h;try dsimp only
 unfold eA at h;refine X 5 3 (sQ (bt (en:=(ae aa)) Ty.s25 rfl rfl (Y 2 3 (T.ci h rfl (fun hb_52 h=>?_) (fun hb_52 h=>?_)))))
 ·refine B h fun x7 hx7 h=>(B h fun x8 hx8 h=>(B h fun x9 hx9 h=>(B h fun x10 hx10 h=>(B h fun x11 hx11 h=>(X 4 3 (T.drawn mixed (k:=11) rfl ?_))))))
  apply RA.jn 1 (bm 11 1023);intro hS53
  ·refine rq [0,1,2] 8 (r0 3 rfl (aA (en:=(ae aa)) Ty.s25 rfl rfl rfl hx7 (rq [5,6,7] 4 (r0 8 rfl (aA (en:=(ae aa)) Ty.s25 rfl rfl rfl hx9 (ra2 4 9 ?_ ?_))))))
   ·exact oO rfl (aB (en:=(ae aa)) (a:=x8) rfl rfl hx8 (aE Ty.k26 (c:=sL aa x8) rfl (ra1 9 (oO rfl (aB (en:=(ae aa)) (a:=x10) rfl rfl hx10 (aE Ty.k26 (c:=sL aa x10) rfl (raE hS53)))))))
   ·exact oO rfl (aB (en:=(ae aa)) (a:=x10) rfl rfl hx10 (aE Ty.k26 (c:=sL aa x10) rfl (ra1 4 (oO rfl (aB (en:=(ae aa)) (a:=x8) rfl rfl hx8 (aE Ty.k26 (c:=sL aa x8) rfl (raT hS53)))))))
  refine ra1 10 (oO rfl (cG [1] 3 1 (qk hx11) ⟨rfl,(RA.done (by decide +kernel) (T.ci h rfl (fun hb_54 h=>?_) (fun hb_54 h=>?_)))⟩))
  ·refine B h fun x13 hx13 h=>(X 4 3 (sO (dK (en:=(ae aa)) (xs:=p0) Ty.s25 rfl rfl rfl rfl hx13 (Y 8 3 (itr (fun ss_67:Int × Int × (List (List Item))=>mkA 66 [(0,.ref 2),(1,.func 35 [.ptr 1 0]),(5,iI ss_67.1),(6,.vw 2 1 ((s1).toNat) ((((p0).length:Int)).toNat - (s1).toNat) none),(7,iI ss_67.2.1)]) (fun ss_67=>[.dead,.box [.func 30 []],aR 26 1 (ae aa) ss_67.2.2]) h (Weak.mkN [] [0,1,2] (by decide) (by decide) rfl ⟨bW rfl,em ⟨cP rfl,trivial⟩,be rfl,rn_vw rfl rfl rfl,be rfl,trivial⟩ (jZ rfl (fL (cs:=[.func 30 []]) (ds:=[.func 30 []]) rfl ⟨em trivial,trivial⟩ (rw_ar rfl rfl (bh))))) (fun ss_67 v_68 h hv_68=>?_))))))
   obtain ⟨s14,s15,s16⟩:=ss_67;replace h:fN p0 s1 s14 s15 s16=some v_68:=h;try dsimp only
   unfold fN at h;refine X 5 3 (sO (pj Ty.s25 rfl (Y 2 3 (T.ci h rfl (fun hb_69 h=>?_) (fun hb_69 h=>?_)))))
   ·refine B h fun x22 hx22 h=>(B h fun x23 hx23 h=>(B h fun x24 hx24 h=>(B h fun x25 hx25 h=>(B h fun x26 hx26 h=>(X 4 3 (T.drawn mixed (k:=12) rfl ?_))))))
    apply RA.jn 2 (bm 12 1023);intro hS70;apply RA.jn 3 (bm 12 1007);intro hS71;apply RA.jn 3 (bm 12 511);intro hS72;apply RA.jn 4 (bm 12 495);intro hS73
    ·refine rq [0,1,2,5,6,7] 6 (ra2 3 8 ?_ ?_)
     ·refine oO rfl (du Ty.s25 rfl rfl hx22 (ra2 4 8 ?_ ?_))
      ·exact oO rfl (aB (en:=(ae aa)) (a:=x23) rfl rfl hx23 (aE Ty.k26 (c:=sL aa x23) rfl (ra1 8 (oO rfl (du Ty.s25 rfl rfl hx24 (raE hS72))))))
      ·exact oO rfl (du Ty.s25 rfl rfl hx24 (raE hS73))
     ·refine oO rfl (du Ty.s25 rfl rfl hx24 (ra2 3 9 ?_ ?_))
      ·exact oO rfl (du Ty.s25 rfl rfl hx22 (raT hS73))
      ·exact oO rfl (aB (en:=(ae aa)) (a:=x25) rfl rfl hx25 (aE Ty.k26 (c:=sL aa x25) rfl (ra1 3 (oO rfl (du Ty.s25 rfl rfl hx22 (raE hS71))))))
    ·refine ra2 4 9 ?_ ?_
     ·exact oO rfl (aB (en:=(ae aa)) (a:=x23) rfl rfl hx23 (aE Ty.k26 (c:=sL aa x23) rfl (raT hS72)))
     ·exact oO rfl (aB (en:=(ae aa)) (a:=x25) rfl rfl hx25 (aE Ty.k26 (c:=sL aa x25) rfl (raT hS71)))
    ·exact ra1 9 (oO rfl (aB (en:=(ae aa)) (a:=x25) rfl rfl hx25 (aE Ty.k26 (c:=sL aa x25) rfl (raE hS70))))
    ·exact ra1 4 (oO rfl (aB (en:=(ae aa)) (a:=x23) rfl rfl hx23 (aE Ty.k26 (c:=sL aa x23) rfl (raT hS70))))
    refine ra1 10 (oO rfl (cG [1] 3 1 (qk hx26) ⟨rfl,(rq [11] 0 (RA.done (by decide +kernel) (T.ci h rfl (fun hb_74 h=>?_) (fun hb_74 h=>?_))))⟩))
    ·refine B h fun x31 hx31 h=>(B h fun x32 hx32 h=>(B h fun x33 hx33 h=>(B h fun x34 hx34 h=>(X 6 3 (sO (du Ty.s25 rfl rfl hx31 (sO (aB (en:=(ae aa)) (a:=x32) rfl rfl hx32 (aE Ty.k26 (c:=sL aa x32) rfl (sQ (aA (en:=(ae aa)) Ty.s25 rfl rfl rfl hx33 (sO (cB (en:=(ae aa)) (a:=x34) (a':=x32) Ty.c26 Ty.i26 rfl (vs:=[sL aa x32]) rfl rfl rfl hx34 rfl rfl rfl (Y 11 3 ?_))))))))))))))
     exact lk h (Weak.mkN [] [0,1,2] (by decide) (by decide) rfl ⟨bW rfl,em ⟨cP rfl,trivial⟩,be rfl,rn_vw rfl rfl rfl,be rfl,trivial⟩ (jZ rfl (fL (cs:=[.func 30 []]) (ds:=[.func 30 []]) rfl ⟨em trivial,trivial⟩ (rw_ar rfl rfl (bh)))))
    exact X 6 3 (lk h (Weak.mkN [] [0,1,2] (by decide) (by decide) rfl ⟨bW rfl,em ⟨cP rfl,trivial⟩,be rfl,rn_vw rfl rfl rfl,be rfl,trivial⟩ (jZ rfl (fL (cs:=[.func 30 []]) (ds:=[.func 30 []]) rfl ⟨em trivial,trivial⟩ (rw_ar rfl rfl (bh))))))
   refine X 1 3 ?_;replace h:=mi h hv_68;refine B h fun x37 hx37 h=>(B h fun x38 hx38 h=>(X 4 3 (sO (dK (en:=(ae aa)) (xs:=s16) Ty.s25 rfl rfl rfl rfl hx37 (sO (re (en:=(ae aa)) (xs:=s16) (z0:=[]) Ty.s25 Ty.z26 (fun σ w F vs h=>uN σ w F vs h) rfl (fun _=>rfl) rfl rfl hx38 rfl (B h fun x40 hx40 h=>(Y 5 3 (sO (ov (en:=(ae aa)) (xs:=(clr s16 ((s14).toNat) ((((s16).length:Int)).toNat - (s14).toNat) [])) Ty.s25 rfl rfl rfl hx40 rfl rfl (Y 2 4 ?_)))))))))))
   replace h:=mi h hv_51;cases h;exact tO [] [0,1,3] 4
  exact X 6 3 (lk h (wk [] [0,1,2] 3 rfl))
 refine X 1 3 ?_;replace h:=mi h hv_51;refine X 5 3 ?_;cases h;exact tO [] [0,1,2] 3
theorem oH {p0:Net} {p1:List (List Item)} {r:(List (List Item)) × Int} (h:iw p0 p1=some r):FnO Tryz.prog 7 [.agg (au p0),sL (ae aa) p1] (.tup [.ref 0,iI r.2]) [aR 26 1 (ae aa) r.1]:=by
 unfold iw at h;refine fT 0 0 Tryz.func7 Tryz.ntmps7 rfl ?_;refine B h fun x2 hx2 h=>(X 10 0 (sO (cG [] 1 5 (FnX.of_fnO (xX hx2)) ⟨rfl,(Y 13 6 (T.ci h rfl (fun hb_1 h=>?_) (fun hb_1 h=>?_)))⟩)))
 ·refine X 6 7 ?_;cases h;exact tO [(0,26,1)] [7] 7
 refine B h fun x4 hx4 h=>(X 4 7 (sO (cD (yK hx4) ⟨rfl,(Y 1 7 (sO (im rfl rfl (Y 5 8 (nB 8 6 26 1 9 (B h fun x6 hx6 h=>(X 4 10 (RS.fC 1 ?_))))))))⟩)))
 refine RS.fC 2 (RS.fC 3 (RS.fC 4 (RS.fC 5 (sO (cG [8,7,9] 10 4 (wS hx6) ⟨rfl,(Y 2 11 (T.ci h rfl (fun hb_2 h=>?_) (fun hb_2 h=>?_)))⟩)))))
 ·refine X 5 11 ?_;cases h;exact tO [(0,26,1)] [11] 11
 refine B h fun x8 hx8 h=>(X 7 11 (T.drawn mixed (k:=6) rfl (rq [0,1,2] 3 (rL [3,5] 3 rfl (ra1 4 (og 12 ⟨rfl,(ra1 5 (oO rfl (cG [10] 12 1 (w6 hx8) ⟨rfl,(RA.done (by decide +kernel) ?_)⟩)))⟩))))))
 refine B h fun x10 hx10 h=>(X 7 12 (sO (cG [10,11] 12 3 (wv hx10) ⟨rfl,(Y 3 13 ?_)⟩)))
 cases h;exact tO [] [12] 13
theorem xG {r:List (List Item)} (h:mA=some r):FnO Tryz.prog 40 [] (.ref 0) [aR 26 1 (ae aa) r]:=by
 unfold mA at h;refine fT 0 0 Tryz.func40 Tryz.ntmps40 rfl ?_;refine B h fun x3 hx3 h=>(B h fun x4 hx4 h=>(X 6 0 (sO (cF (hJ hx3) ⟨rfl,(sO (aM (rows:=List.map aa [x3]) (vs:=[.agg (aa x3)]) Ty.s26 Ty.z39 rfl rfl rfl rfl rfl rfl (sO (cF (hJ hx4) ⟨rfl,(sO (aM (rows:=List.map aa [x4]) (vs:=[.agg (aa x4)]) Ty.s26 Ty.z39 rfl rfl rfl rfl rfl rfl (RS.fC 0 (RS.fC 1 (sO (aM (rows:=List.map (ae aa) [[x3],[x4]]) (vs:=[sL aa [x3],sL aa [x4]]) Ty.s25 Ty.z26 rfl rfl rfl rfl rfl rfl ?_))))))⟩))))⟩))))
 refine Y 2 3 ?_;cases h;exact tO [] [2] 3
theorem nX {p0 p1:List Item} {r:Bool} (h:fg p0 p1=some r):Fn Tryz.prog 13 [sL aa p0,sL aa p1] (.bool r):=by
 unfold fg at h;refine fT 0 8 Tryz.func13 Tryz.ntmps13 rfl (sQ (aj Ty.s26 rfl (Y 1 0 (sQ (aj Ty.s26 rfl (Y 2 0 (T.ci h rfl (fun hb_1 h=>?_) (fun hb_1 h=>?_))))))))
 ·refine X 4 0 ?_;cases h;exact tD
 refine X 5 0 (sQ (aj Ty.s26 rfl (Y 3 0 (itr (fun ss_6:Int=>mkA 26 [(0,sL aa p0),(1,sL aa p1),(12,iI ((p0).length:Int)),(13,iI ss_6)]) (fun ss_6=>[]) h (wk [] [] 0 rfl) (fun ss_6 v_7 h hv_7=>?_)))));revert hv_7 h;revert ss_6;intro s1 h hv_7;replace h:gZ p0 p1 s1=some v_7:=h;try dsimp only
 unfold gZ at h;refine X 5 0 (T.ci h rfl (fun hb_8 h=>?_) (fun hb_8 h=>?_))
 ·refine B h fun x4 hx4 h=>(B h fun x5 hx5 h=>(X 9 0 (T.drawn mixed (k:=9) rfl (rq [0,1] 7 (r0 2 rfl (ao Ty.s26 (fun _=>rfl) rfl rfl hx4 (rq [4,5] 4 (r0 6 rfl (ao Ty.s26 (fun _=>rfl) rfl rfl hx5 (rL [3,8] 3 rfl (ra1 7 ?_)))))))))))
  refine og 0 ⟨rfl,(r0 8 rfl (Dr (cs:=[iI x4.Key,iI x4.Val,iI x4.Dep]) (ds:=[iI x5.Key,iI x5.Val,iI x5.Dep]) (r:=x4==x5) Ty.q39 rfl rfl rfl rfl (q4 x4 x5) (RA.done (by decide +kernel) (T.ci h rfl (fun hb_9 h=>?_) (fun hb_9 h=>?_)))))⟩
  ·refine X 4 0 ?_;replace h:=mi h hv_7;cases h;exact tD
  exact X 5 0 (lk h (wk [] [] 0 rfl))
 refine X 1 0 ?_;replace h:=mi h hv_7;refine X 4 0 ?_;cases h;exact tD
theorem nS {p0 p1:List (List Item)} {r:Bool} (h:gV p0 p1=some r):Fn Tryz.prog 12 [sL (ae aa) p0,sL (ae aa) p1,.func 13 []] (.bool r):=by
 unfold gV at h;refine fT 0 8 Tryz.func12 Tryz.ntmps12 rfl (sQ (aj Ty.s25 rfl (Y 1 0 (sQ (aj Ty.s25 rfl (Y 2 0 (T.ci h rfl (fun hb_1 h=>?_) (fun hb_1 h=>?_))))))))
 ·refine X 4 0 ?_;cases h;exact tD
 refine X 5 0 (sQ (aj Ty.s25 rfl (Y 3 0 (itr (fun ss_6:Int=>mkA 32 [(1,sL (ae aa) p1),(2,.func 13 []),(15,sL (ae aa) p0),(16,iI ((p0).length:Int)),(17,iI ss_6)]) (fun ss_6=>[]) h (wk [] [] 0 rfl) (fun ss_6 v_7 h hv_7=>?_)))));revert hv_7 h;revert ss_6;intro s1 h hv_7;replace h:j9 p0 p1 s1=some v_7:=h;try dsimp only
 unfold j9 at h;refine X 5 0 (T.ci h rfl (fun hb_8 h=>?_) (fun hb_8 h=>?_))
 ·refine B h fun x3 hx3 h=>(X 6 0 (sQ (ao Ty.s25 (fun _=>rfl) rfl rfl hx3 (B h fun x5 hx5 h=>(Y 8 0 (sQ (ao Ty.s25 (fun _=>rfl) rfl rfl hx5 (B h fun x7 hx7 h=>(Y 8 0 (sO (cF (nX hx7) ⟨rfl,(Y 2 0 ?_)⟩)))))))))))
  refine T.ci h rfl (fun hb_9 h=>?_) (fun hb_9 h=>?_)
  ·refine X 4 0 ?_;replace h:=mi h hv_7;cases h;exact tD
  exact X 5 0 (lk h (wk [] [] 0 rfl))
 refine X 1 0 ?_;replace h:=mi h hv_7;refine X 4 0 ?_;cases h;exact tD
theorem xo {r:Bool} (h:kM=some r):Fn Tryz.prog 10 [] (.bool r):=by
 unfold kM at h;refine fT 0 0 Tryz.func10 Tryz.ntmps10 rfl ?_;refine B h fun x5 hx5 h=>(B h fun x6 hx6 h=>(B h fun x8 hx8 h=>(X 6 0 (sO (cD (xl hx5) ⟨rfl,(sO (cQ 0 (xG hx6) ⟨rfl,(RS.fC 0 (sO (cQ 1 (oH hx8) ⟨rfl,(Y 6 2 ?_)⟩)))⟩))⟩)))))
 obtain ⟨zt_2,hz,h⟩:=bind_some h;revert hz h;revert zt_2;intro c14 hz h;refine j1 [(0,.bool c14)] [] ?_ (fun hK=>?_)
 ·cases h;exact tD
 refine X 5 2 (gi 11 hz (fun hb_1 hz=>?_) (fun hb_1 hz=>?_))
 ·refine B hz fun x9 hx9 hz=>(B hz fun x10 hx10 hz=>(B hz fun x11 hx11 hz=>(B hz fun x12 hx12 hz=>(B hz fun x13 hx13 hz=>(Y 1 2 (yO rfl (cF (hJ hx9) ⟨rfl,(yO rfl (cF (hJ hx10) ⟨rfl,(yO rfl (aM (rows:=List.map aa [x9,x10]) (vs:=[.agg (aa x9),.agg (aa x10)]) Ty.s26 Ty.z39 rfl rfl rfl rfl rfl rfl (yO rfl (cF (hJ hx11) ⟨rfl,?_⟩))))⟩))⟩)))))))
  refine yO rfl (cF (hJ hx12) ⟨rfl,(yO rfl (aM (rows:=List.map aa [x11,x12]) (vs:=[.agg (aa x11),.agg (aa x12)]) Ty.s26 Ty.z39 rfl rfl rfl rfl rfl rfl (RS.fC 2 (RS.fC 3 (yO rfl (aM (rows:=List.map (ae aa) [[x9,x10],[x11,x12]]) (vs:=[sL aa [x9,x10],sL aa [x11,x12]]) Ty.s25 Ty.z26 rfl rfl rfl rfl rfl rfl (yO rfl (cF (nS hx13) ⟨rfl,(Yp 3 5 ?_)⟩))))))))⟩);cases hz;exact wu hK [] [] 5 rfl
 refine Yp 12 2 ?_;cases hz;exact wu hK [] [] 2 rfl
theorem qy {p0 p1:List Item} {r:Int} (h:jD p0 p1=some r):Fn Tryz.prog 38 [sL aa p0,sL aa p1] (iI r):=by
 unfold jD at h;refine fT 0 0 Tryz.func38 Tryz.ntmps38 rfl ?_;refine B h fun x2 hx2 h=>(X 8 0 (sO (cF (qf hx2) ⟨rfl,(Y 2 0 ?_)⟩)))
 cases h;exact tD
theorem wq {p0:List (List Item)} {p1:List Item} {r:Int × Bool} (h:gW p0 p1=some r):Fn Tryz.prog 37 [sL (ae aa) p0,sL aa p1,.func 38 []] (.tup [iI r.1,.bool r.2]):=by
 unfold gW at h;refine fT 0 8 Tryz.func37 Tryz.ntmps37 rfl (sQ (aj Ty.s25 rfl (Y 10 0 (itr (fun ss_5:Int × Int=>mkA 49 [(0,sL (ae aa) p0),(1,sL aa p1),(2,.func 38 []),(8,iI ((p0).length:Int)),(9,iI ss_5.1),(10,iI ss_5.2)]) (fun ss_5=>[]) h (wk [] [] 0 rfl) (fun ss_5 v_6 h hv_6=>?_)))));obtain ⟨s1,s2⟩:=ss_5;replace h:gU p0 p1 s1 s2=some v_6:=h;try dsimp only
 unfold gU at h;refine X 7 0 (T.ci h rfl (fun hb_7 h=>?_) (fun hb_7 h=>?_))
 ·refine B h fun x4 hx4 h=>(X 8 0 (sQ (v_shr rfl rfl hx4 (B h fun x7 hx7 h=>(B h fun x8 hx8 h=>(Y 8 0 (sQ (ao Ty.s25 (fun _=>rfl) rfl rfl hx7 (Y 2 0 (sO (cF (qy hx8) ⟨rfl,(Y 2 0 ?_)⟩)))))))))))
  refine T.ci h rfl (fun hb_8 h=>?_) (fun hb_8 h=>?_)
  ·exact X 5 0 (lk h (wk [] [] 0 rfl))
  exact X 4 0 (lk h (wk [] [] 0 rfl))
 refine X 1 0 ?_;replace h:=mi h hv_6;obtain ⟨zt_11,hz,h⟩:=bind_some h;revert hz h;revert zt_11;intro c11 hz h;refine j1 [(6,iI s1),(7,.bool c11)] [] ?_ (fun hK=>?_)
 ·cases h;exact tD
 refine X 7 0 (gi 39 hz (fun hb_10 hz=>?_) (fun hb_10 hz=>?_))
 ·refine B hz fun x9 hx9 hz=>(B hz fun x10 hx10 hz=>(Y 3 0 (yQ rfl (ao Ty.s25 (fun _=>rfl) rfl rfl hx9 (Y 2 0 (yO rfl (cF (qy hx10) ⟨rfl,(Yp 5 0 ?_)⟩)))))))
  cases hz;exact sx hK
 refine Yp 12 0 ?_;cases hz;exact sx hK
theorem y5 {p0:Net} {p1:List (List Item)} {p2:List Item} {r:Bool × Int} (h:eJ p0 p1 p2=some r):Fn Tryz.prog 8 [.agg (au p0),sL (ae aa) p1,sL aa p2] (.tup [.bool r.1,iI r.2]):=by
 unfold eJ at h;refine fT 0 10 Tryz.func8 Tryz.ntmps8 rfl (sQ (aj Ty.s26 rfl (Y 2 1 (T.ci h rfl (fun hb_1 h=>?_) (fun hb_1 h=>?_)))))
 ·refine X 5 1 ?_;cases h;exact tD
 refine B h fun x2 hx2 h=>(X 5 1 (sO (cQ 1 (oH hx2) ⟨rfl,(Y 12 2 (T.ci h rfl (fun hb_2 h=>?_) (fun hb_2 h=>?_)))⟩)))
 ·refine X 6 2 ?_;cases h;exact tD
 refine B h fun x4 hx4 h=>(X 4 2 (sO (cO 2 (qJ hx4) ⟨rfl,(B h fun x6 hx6 h=>(Y 10 3 (sO (cF (wq hx6) ⟨rfl,(Y 12 3 ?_)⟩))))⟩)))
 cases h;exact tD
theorem qh {p0:Int} {r:Bool} (h:jb p0=some r):Fn Tryz.prog 68 [iI p0] (.bool r):=by
 unfold jb at h;refine fT 0 10 Tryz.func68 Tryz.ntmps68 rfl ?_;cases h;exact tD
theorem dY {p0:Int} {r:Bool} (h:de p0=some r):Fn Tryz.prog 66 [iI p0] (.bool r):=by
 unfold de at h;refine fT 0 10 Tryz.func66 Tryz.ntmps66 rfl ?_;cases h;exact tD
theorem nU {p0:Int} {r:Bool} (h:g6 p0=some r):Fn Tryz.prog 67 [iI p0] (.bool r):=by
 unfold g6 at h;refine fT 0 10 Tryz.func67 Tryz.ntmps67 rfl ?_;cases h;exact tD
theorem xg {p0:List Int} {p1 r:Int} (h:ml p0 p1=some r):Fn Tryz.prog 103 [sL ah p0,iI p1] (iI r):=by
 unfold ml at h;refine fT 0 8 Tryz.func103 Tryz.ntmps103 rfl (sQ (aj Ty.s49 rfl (Y 3 0 (itr (fun ss_5:Int=>mkA 19 [(0,sL ah p0),(1,iI p1),(7,iI ((p0).length:Int)),(8,iI ss_5)]) (fun ss_5=>[]) h (wk [] [] 0 rfl) (fun ss_5 v_6 h hv_6=>?_)))));revert hv_6 h;revert ss_5;intro s1 h hv_6;replace h:ja p0 p1 s1=some v_6:=h;try dsimp only
 unfold ja at h;refine X 5 0 (T.ci h rfl (fun hb_7 h=>?_) (fun hb_7 h=>?_))
 ·refine B h fun x3 hx3 h=>(X 13 0 (sQ (ao Ty.s49 (fun _=>rfl) rfl rfl hx3 (Y 3 0 (T.ci h rfl (fun hb_8 h=>?_) (fun hb_8 h=>?_))))))
  ·refine X 5 0 ?_;replace h:=mi h hv_6;cases h;exact tD
  exact X 5 0 (lk h (wk [] [] 0 rfl))
 refine X 1 0 ?_;replace h:=mi h hv_6;refine X 4 0 ?_;cases h;exact tD
theorem qg {p0:List Int} {p1:Int} {r:Bool} (h:i7 p0 p1=some r):Fn Tryz.prog 69 [sL ah p0,iI p1] (.bool r):=by
 unfold i7 at h;refine fT 0 0 Tryz.func69 Tryz.ntmps69 rfl ?_;refine B h fun x2 hx2 h=>(X 8 0 (sO (cF (xg hx2) ⟨rfl,(Y 3 0 ?_)⟩)))
 cases h;exact tD
end
noncomputable section
open Go.RowKit Go.Shelf
set_option maxRecDepth 100000
set_option maxHeartbeats 4000000
def sRen:Go.Shelf.Ren:=⟨fun n=>match n with | 6=>105 | 10=>123 | 11=>124 | 12=>125 | 13=>65 | 14=>126 | 15=>138 | 16=>139 | 17=>140 | 18=>141 | 19=>142 | 20=>143 | 21=>144 | 22=>145 | 23=>146 | 24=>101 | 25=>102 | 26=>147 | 27=>148 | 28=>149 | 29=>150 | 30=>151 | 31=>152 | 32=>153 | 33=>154 | 34=>163 | 35=>164 | 36=>165 | 37=>166 | 38=>167 | 39=>174 | 40=>179 | 41=>180 | 42=>181 | 43=>182 | 44=>183 | 45=>184 | 46=>185 | 47=>186 | 48=>187 | 49=>188 | 50=>189 | 51=>190 | 52=>191 | 53=>192 | 54=>193 | 55=>194 | 56=>195 | 57=>196 | 58=>197 | _=>0,fun n=>match n with | 0=>0 | 1=>1 | 2=>2 | 3=>3 | 4=>4 | 5=>5 | 6=>6 | 7=>7 | 8=>8 | 9=>9 | 10=>10 | 11=>11 | 12=>12 | 13=>13 | 14=>14 | 15=>15 | 16=>16 | 17=>17 | 18=>18 | 19=>19 | 20=>20 | 21=>21 | 23=>162 | 26=>163 | 28=>49 | 32=>179 | 33=>180 | 34=>181 | 35=>182 | 36=>183 | 37=>184 | 38=>185 | 39=>186 | 40=>110 | 41=>111 | 42=>187 | 43=>188 | 44=>189 | 45=>204 | 46=>205 | 47=>206 | 48=>154 | 49=>155 | 50=>156 | 51=>157 | 52=>207 | 53=>208 | 54=>209 | 55=>210 | 56=>211 | 57=>212 | 58=>75 | 59=>213 | 60=>221 | 61=>174 | 62=>175 | 63=>222 | 64=>177 | 65=>223 | 66=>231 | 67=>202 | 68=>232 | 69=>239 | 70=>240 | 71=>241 | 72=>242 | 73=>243 | 74=>244 | 75=>245 | 76=>246 | 77=>247 | 78=>248 | 79=>249 | 80=>250 | 81=>251 | 82=>252 | 83=>253 | 84=>254 | _=>0,fun n=>n⟩
theorem sLay:LaysGg.n6 Tryz.prog sRen where
 mixed:=mixed
 f6:=by kernel_rfl
 f10:=by kernel_rfl
 f11:=by kernel_rfl
 f12:=by kernel_rfl
 f13:=by kernel_rfl
 f14:=by kernel_rfl
 f24:=by kernel_rfl
 f25:=by kernel_rfl
 f26:=by kernel_rfl
 f27:=by kernel_rfl
 f28:=by kernel_rfl
 f29:=by kernel_rfl
 f30:=by kernel_rfl
 f31:=by kernel_rfl
 f32:=by kernel_rfl
 f33:=by kernel_rfl
 f34:=by kernel_rfl
 f35:=by kernel_rfl
 f36:=by kernel_rfl
 f37:=by kernel_rfl
 f38:=by kernel_rfl
 f39:=by kernel_rfl
 t0:=by kernel_rfl
 a0:=fun w=>by kernel_rfl
 z0:=fun w=>by kernel_rfl
 v0:=fun w=>by kernel_rfl
 i0:=by kernel_rfl
 t3:=by kernel_rfl
 a3:=fun w=>by kernel_rfl
 z3:=fun w=>by kernel_rfl
 v3:=fun w=>by kernel_rfl
 i3:=by kernel_rfl
 t4:=by kernel_rfl
 a4:=fun w=>by kernel_rfl
 z4:=fun w=>by kernel_rfl
 v4:=fun w=>by kernel_rfl
 i4:=by kernel_rfl
 t5:=by kernel_rfl
 a5:=fun w=>by kernel_rfl
 z5:=fun w=>by kernel_rfl
 v5:=fun w=>by kernel_rfl
 i5:=by kernel_rfl
 t9:=by kernel_rfl
 a9:=fun w=>by kernel_rfl
 z9:=fun w=>by kernel_rfl
 v9:=fun w=>by kernel_rfl
 i9:=by kernel_rfl
 t12:=by kernel_rfl
 a12:=fun w=>by kernel_rfl
 z12:=fun w=>by kernel_rfl
 v12:=fun w=>by kernel_rfl
 i12:=by kernel_rfl
 t17:=by kernel_rfl
 a17:=fun w=>by kernel_rfl
 z17:=fun w=>by kernel_rfl
 v17:=fun w=>by kernel_rfl
 i17:=by kernel_rfl
 t20:=by kernel_rfl
 a20:=fun w=>by kernel_rfl
 z20:=fun w=>by kernel_rfl
 v20:=fun w=>by kernel_rfl
 i20:=by kernel_rfl
 t26:=by kernel_rfl
 a26:=fun w=>by kernel_rfl
 z26:=fun w=>by kernel_rfl
 v26:=fun w=>by kernel_rfl
 i26:=by kernel_rfl
 t32:=by kernel_rfl
 a32:=fun w=>by kernel_rfl
 z32:=fun w=>by kernel_rfl
 v32:=fun w=>by kernel_rfl
 i32:=by kernel_rfl
 t33:=by kernel_rfl
 a33:=fun w=>by kernel_rfl
 z33:=fun w=>by kernel_rfl
 v33:=fun w=>by kernel_rfl
 i33:=by kernel_rfl
 t35:=by kernel_rfl
 a35:=fun w=>by kernel_rfl
 z35:=fun w=>by kernel_rfl
 v35:=fun w=>by kernel_rfl
 i35:=by kernel_rfl
 t37:=by kernel_rfl
 a37:=fun w=>by kernel_rfl
 z37:=fun w=>by kernel_rfl
 v37:=fun w=>by kernel_rfl
 i37:=by kernel_rfl
 t41:=by kernel_rfl
 a41:=fun w=>by kernel_rfl
 z41:=fun w=>by kernel_rfl
 v41:=fun w=>by kernel_rfl
 i41:=by kernel_rfl
 t44:=by kernel_rfl
 a44:=fun w=>by kernel_rfl
 z44:=fun w=>by kernel_rfl
 v44:=fun w=>by kernel_rfl
 i44:=by kernel_rfl
 t49:=by kernel_rfl
 a49:=fun w=>by kernel_rfl
 z49:=fun w=>by kernel_rfl
 v49:=fun w=>by kernel_rfl
 i49:=by kernel_rfl
 t51:=by kernel_rfl
 a51:=fun w=>by kernel_rfl
 z51:=fun w=>by kernel_rfl
 v51:=fun w=>by kernel_rfl
 i51:=by kernel_rfl
 t53:=by kernel_rfl
 a53:=fun w=>by kernel_rfl
 z53:=fun w=>by kernel_rfl
 v53:=fun w=>by kernel_rfl
 i53:=by kernel_rfl
 t54:=by kernel_rfl
 a54:=fun w=>by kernel_rfl
 z54:=fun w=>by kernel_rfl
 v54:=fun w=>by kernel_rfl
 i54:=by kernel_rfl
 t58:=by kernel_rfl
 a58:=fun w=>by kernel_rfl
 z58:=fun w=>by kernel_rfl
 v58:=fun w=>by kernel_rfl
 i58:=by kernel_rfl
 t60:=by kernel_rfl
 a60:=fun w=>by kernel_rfl
 z60:=fun w=>by kernel_rfl
 v60:=fun w=>by kernel_rfl
 i60:=by kernel_rfl
 t64:=by kernel_rfl
 a64:=fun w=>by kernel_rfl
 z64:=fun w=>by kernel_rfl
 v64:=fun w=>by kernel_rfl
 i64:=by kernel_rfl
 t66:=by kernel_rfl
 a66:=fun w=>by kernel_rfl
 z66:=fun w=>by kernel_rfl
 v66:=fun w=>by kernel_rfl
 i66:=by kernel_rfl
 t67:=by kernel_rfl
 a67:=fun w=>by kernel_rfl
 z67:=fun w=>by kernel_rfl
 v67:=fun w=>by kernel_rfl
 i67:=by kernel_rfl
 t75:=by kernel_rfl
 a75:=fun w=>by kernel_rfl
 z75:=fun w=>by kernel_rfl
 v75:=fun w=>by kernel_rfl
 i75:=by kernel_rfl
 t76:=by kernel_rfl
 a76:=fun w=>by kernel_rfl
 z76:=fun w=>by kernel_rfl
 v76:=fun w=>by kernel_rfl
 i76:=by kernel_rfl
 t77:=by kernel_rfl
 a77:=fun w=>by kernel_rfl
 z77:=fun w=>by kernel_rfl
 v77:=fun w=>by kernel_rfl
 i77:=by kernel_rfl
 t78:=by kernel_rfl
 a78:=fun w=>by kernel_rfl
 z78:=fun w=>by kernel_rfl
 v78:=fun w=>by kernel_rfl
 i78:=by kernel_rfl
 t79:=by kernel_rfl
 a79:=fun w=>by kernel_rfl
 z79:=fun w=>by kernel_rfl
 v79:=fun w=>by kernel_rfl
 i79:=by kernel_rfl
 t80:=by kernel_rfl
 a80:=fun w=>by kernel_rfl
 z80:=fun w=>by kernel_rfl
 v80:=fun w=>by kernel_rfl
 i80:=by kernel_rfl
 t82:=by kernel_rfl
 a82:=fun w=>by kernel_rfl
 z82:=fun w=>by kernel_rfl
 v82:=fun w=>by kernel_rfl
 i82:=by kernel_rfl
open Go.Sort Go.Lib
def svT:TypeInfo:=(Tryz.prog.info? 120).get (by kernel_rfl)
def svE:TypeInfo:=(Tryz.prog.info? 161).get (by kernel_rfl)
theorem svK (n:Nat) (h2:2<=n):Lib.swapperK n svE 25=9:=by
 have a:svE.hasPointers=false:=by kernel_rfl
 have b:svE.bytes=16:=by kernel_rfl
 have c:(n==0)=false:=by simp;omega
 have d:(n==1)=false:=by simp;omega
 simp [Lib.swapperK,a,b,c,d]
def bq (x:Keyed):List Value:=[.int .i64 x.Key,.int .i64 x.N]
theorem swoK:SWO ltK where
 irrefl:=fun x=>by simp [ltK]
 trans:=fun x y z h1 h2=>by simp [ltK] at *;omega
 ntrans:=fun x y z h1 h2=>by simp [ltK] at *;omega
theorem DG (blk off c Bs size:Nat) (W:World) (G:Nat->Int) (hs:W.cell? ⟨Bs,1,none⟩=some (.slice (some ⟨blk,off,none⟩) size c))
  (hc:∀ t,t<size->W.cell? ⟨blk,off+t*2,none⟩=some (.int .i64 (G t))) (i j:Nat) (hi:i<size) (hj:j<size) (_hsz:size<4611686018427387904) :
  Calls Tryz.prog 106 #[.int .i64 i,.int .i64 j,.pointer (some ⟨Bs,0,none⟩)] W fun e w'=>e=.returned (.bool (decide (G i<G j)))/\∃ q,w'=W.drewN q:=by
 have ci:=hc i hi
 have cj:=hc j hj
 go_enter Tryz.func106,Tryz.ntmps106
 go_wp2
 go_quiet (fail)
 go_wp2
 go_ret
 exact ⟨rfl,nq,rfl⟩
theorem tB {σ:List Value} {w:World} {F:Nat->Prop}:∀ (xs:List Keyed) (flat:List Value),RelL σ w F (xs.map aq).flatten flat->flat=(xs.map bq).flatten
 | [],flat,h=>List.eq_nil_of_length_eq_zero h.1
 | x::xs,flat,h=>by
  match flat,h with
  | [],h=>exact absurd h.1 (by simp [aq])
  | [a],h=>exact absurd h.1 (by simp [aq])
  | a::b::r,h =>
   have h1:Rel σ w F (.int .i64 x.Key) a:=h.2 0 _ a rfl rfl
   have h2:Rel σ w F (.int .i64 x.N) b:=h.2 1 _ b rfl rfl
   have h3:=tB xs r ⟨by have:=h.1;simp [aq] at this ⊢;omega,fun j y v hy hv=>h.2 (j+2) y v (by simpa [aq] using hy) (by simpa using hv)⟩
   cases h1;cases h2
   rw [h3];rfl
theorem sr {σ:List Value} {w:World} {F:Nat->Prop}:∀ (xs:List Keyed),RelL σ w F (xs.map aq).flatten (xs.map bq).flatten
 | []=>.nil
 | x::xs=>.cons (.int _ _) (.cons (.int _ _) (sr xs))
theorem th:∀ (xs:List Keyed) (t:Nat),t<xs.length*2->((xs.map bq).flatten)[t]?=some (bq xs[t / 2]!)[t % 2]!
 | [],t,h=>by simp at h
 | x::xs,0,h=>rfl
 | x::xs,1,h=>rfl
 | x::xs,t+2,h=>by
  have h1:=th xs t (by simp at h;omega);have e1:(t+2) / 2=t / 2+1:=by omega
  have e2:(t+2) % 2=t % 2:=by omega
  rw [e1,e2];show ((xs.map bq).flatten)[t]?=_;rw [h1];simp
theorem rv (xs:List Keyed):(flatK bq 2 xs.toArray).toList=(xs.map bq).flatten:=by
 have hl:((xs.map bq).flatten).length=xs.length*2:=by
  induction xs with
  | nil=>rfl
  | cons x xs ih=>simp [bq] at ih ⊢;omega
 apply List.ext_getElem?;intro t;by_cases ht:t<xs.length*2
 ·rw [th xs t ht];have h2:t<(flatK bq 2 xs.toArray).size:=by simpa using ht
  have h3:=get_flatK bq 2 xs.toArray t (by simpa using ht);rw [getElem!_pos _ t h2] at h3;rw [Array.getElem?_toList,Array.getElem?_eq_getElem h2,h3];simp
 ·rw [List.getElem?_eq_none (by simp;omega),List.getElem?_eq_none (by rw [hl];omega)]
theorem CD (p0 r:List Keyed) (p1 p2:Int) (h:sortK p0=some r):FnX Tryz.prog 105 [.ifc 120 (.ref 0),.func 106 [.ptr 1 0]] [.arr 161 2 (List.map aq p0),.box [.int .i64 p1,.ref 0,.int .i64 p2]] (.tup []) [.arr 161 2 (List.map aq r),.box [.int .i64 p1,.ref 0,.int .i64 p2]]:=by
 unfold sortK at h;refine ⟨callable Tryz.func105 rfl (by kernel_rfl),fun w F σ vs hs hr=>?_⟩;match vs,hr with
 | [v0, v1],hr =>
  have r0:Rel σ w F (.ifc 120 (.ref 0)) v0:=hr.2 0 _ v0 rfl rfl
  have r1:Rel σ w F (.func 106 [.ptr 1 0]) v1:=hr.2 1 _ v1 rfl rfl
  cases r0 with
  | ifc _ _ v r0 =>
  cases r0 with
  | ref _ A q cp hσ0 =>
  cases r1 with
  | func _ _ lb hl hc =>
  match lb,hl,hc with
  | [b0],hl,hc =>
   have rb:Rel σ w F (.ptr 1 0) b0:=hc 0 _ _ rfl rfl
   cases rb with
   | ptr _ _ gb hσ1 =>
   obtain ⟨gb',us,ty,e1,hgb,hbr,hb1,hFb⟩:=hs.obj 1 _ _ rfl hσ1
   cases e1
   obtain ⟨hq,flat,hown,hfl,hcase⟩:=dC hs (id:=0) rfl hσ0
   rw [List.length_map] at hq
   subst hq
   have grown:∀ (W:World) (os:Array Obj) (b:Nat),b<W.heap.size->(Sort.grow W os).heap[b]?=W.heap[b]?:=fun W os b hb=>by
    show (W.heap++os)[b]?=_;rw [Array.getElem?_append_left hb]
   split at h
   ·rename_i h1
    cases h
    have tiny:∀ (n:Nat),n<=1->Calls Tryz.prog 105 #[.iface 120 (.slice A n cp),.func (.func 106) #[] #[.pointer (some ⟨gb,0,none⟩)]] w fun e w'=>e=.returned (.tuple #[])/\∃ os,w'=Sort.grow w os:=by
     intro n hn;match n,hn with
     | 0,hn=>exact Any.sort_Slice_tiny sLay 120 161 svT svE (by kernel_rfl) (by kernel_rfl) (by kernel_rfl) (by kernel_rfl) 25 (fun _=>by kernel_rfl) A 0 cp hn 138 (by kernel_rfl) _ _ _ w
     | 1,hn=>exact Any.sort_Slice_tiny sLay 120 161 svT svE (by kernel_rfl) (by kernel_rfl) (by kernel_rfl) (by kernel_rfl) 25 (fun _=>by kernel_rfl) A 1 cp hn 139 (by kernel_rfl) _ _ _ w
    refine (tiny p0.length h1).mono ?_
    rintro e w' ⟨rfl,os,rfl⟩
    exact ⟨_,_,_,σ,F,rfl,⟨rfl,rfl⟩,hs.grow (fun _ h=>h) (fun _ h=>.inl h) (fun b hb=>by have:=hs.lt b hb;rw [size_grow];omega) (grown w os),dN,.grow (fun _ h=>h) (fun _ h=>.inl h) rfl rfl drO (by rw [size_grow];omega) (grown w os)⟩
   ·rename_i h1
    have h2:2<=p0.length:=by omega
    split at h
    ·rename_i h12
     cases h
     rcases hcase with hcase | ⟨ga,cur,rfl,hFa,hga,hnc,hcm,hsz,htk⟩
     ·have:p0=[]:=List.map_eq_nil_iff.1 hcase
      subst this;simp at h2
     ·have hflat:=tB p0 flat hfl.2.2
      have hds:p0.toArray.size=p0.length:=by simp
      have hga':ga<w.heap.size:=(Array.getElem?_eq_some_iff.1 hga).1
      have hgb':gb<w.heap.size:=(Array.getElem?_eq_some_iff.1 hgb).1
      have hne:gb≠ga:=by
       rintro rfl;exact hs.sep 0 1 _ _ _ _ gb (by decide) rfl rfl rfl rfl hσ0 hσ1 rfl rfl
      have hcurn:p0.length*2<=cur.size:=by rw [hsz];exact Nat.mul_le_mul_right _ hnc
      have hH:HoldsK bq 2 w ga 0 p0.toArray:=by
       intro j hj;have hj2:j<p0.length*2:=by simpa using hj
       refine ⟨?_,by simp [World.frozen?,hga]⟩;have hc1:cur.toList[j]?=((p0.map bq).flatten)[j]?:=by rw [<- hflat,<- htk,List.getElem?_take,if_pos hj2]
       rw [Nat.zero_add,cell_of_row w ga j cur 161 (0,0) hga,<- Array.getElem?_toList,hc1,<- rv,Array.getElem?_toList,Array.getElem?_eq_getElem hj,getElem!_pos _ j hj];rfl
      have hbc:w.cell? ⟨gb,1,none⟩=some (.slice (some ⟨ga,0,none⟩) p0.length cp):=by
       obtain ⟨u,hu,hru⟩:=hbr.get (j:=1) (a:=.ref 0) rfl;cases hru with
       | ref _ a1 n1 c1 hσ2 =>
        rw [hσ0] at hσ2;cases hσ2;rw [cell_of_row w gb 1 us ty (0,0) hgb,<- Array.getElem?_toList];exact hu
      have hless:LessReadsK Tryz.prog 106 #[.pointer (some ⟨gb,0,none⟩)] bq 2 ltK ga 0 p0.toArray.size w:=by
       intro m os dk hdk i j hi hj;have e:sortWorldK bq 2 w ga 0 m dk os=putRowK bq 2 (Sort.grow (Sort.ahead w m) os) ga 0 dk:=by
        unfold sortWorldK;rw [putRowK_grow _ _ (Sort.ahead w m) _ ga 0 _ hga']
       have hHg:HoldsK bq 2 (Sort.grow (Sort.ahead w m) os) ga 0 p0.toArray:=holdsK_grow _ _ _ _ ga 0 p0.toArray hga' (holdsK_ahead _ _ _ _ _ _ _ hH);refine DG ga 0 cp gb p0.toArray.size _ (fun t=>dk[t]!.Key) ?_ (fun t ht=>?_) i j hi hj (by omega)
       ·rw [e,cell?_putRowK_other _ _ _ ga 0 dk _ (by show gb≠ga;exact hne),cell?_grow _ _ _ (by show gb<w.heap.size;exact hgb'),hds];exact hbc
       ·rw [e];exact ((holdsK_putRowK _ _ _ ga 0 p0.toArray dk hHg hdk).cell (i:=t) (c:=0) (by omega) (by omega)).1
      have hS:=Any.sort_Slice_small_cells sLay 120 161 svT svE (by kernel_rfl) (by kernel_rfl) (by kernel_rfl) (by kernel_rfl) 25 (fun _=>by kernel_rfl) bq 2 (fun _=>rfl) (by kernel_rfl) (fun _=>by kernel_rfl)
       (fun x v hv=>by simp [bq] at hv;rcases hv with rfl | rfl<;>rfl) ltK 106 #[.pointer (some ⟨gb,0,none⟩)]
       (enters_of Tryz.func106 (by kernel_rfl) rfl) ga 0 cp p0.toArray (by rw [hds];exact h2) (by rw [hds];exact h12) 146 (by rw [svK _ (by rw [hds];exact h2)];kernel_rfl) false
       (fun args W=>run_callFunc_extern Tryz.func146 (by kernel_rfl) (by kernel_rfl) (by kernel_rfl) (e:=Extern.ReflectliteSwapper.swap false) (by kernel_rfl) args W) w hless hH hga'
      change Calls Tryz.prog 105 _ _ _ at hS
      have hDs:(Sort.insertionSort ltK p0.toArray 0 p0.toArray.size).size=p0.length:=by
       have:=(insertionSort_holds swoK p0.toArray 0 p0.toArray.size (Nat.zero_le _) (Nat.le_refl _)).1.1;rw [this];exact hds
      generalize hD:Sort.insertionSort ltK p0.toArray 0 p0.toArray.size=D at hS hDs
      rw [hds] at hS
      refine hS.mono ?_
      rintro e w' ⟨rfl,n,os,rfl⟩
      have hDl:(List.map aq D.toList).length=p0.length:=by rw [List.length_map,Array.length_toList (xs:=D),hDs]
      have hFs:(flatK bq 2 D).size=p0.length*2:=by simp [hDs]
      have hFl:(flatK bq 2 D).toList=(D.toList.map bq).flatten:=by
       have:=rv D.toList;rwa [Array.toArray_toList] at this
      have hW1:(putRowK bq 2 (Sort.ahead w n) ga 0 D).heap[ga]?=some (.cells (putCells id 0 (flatK bq 2 D) cur) 161 (0,0)):=by
       simp [putRowK,putRow,mapBlock,Array.getElem?_modify,Sort.ahead,hga,onCells]
      have hW1o:∀ b,b≠ga->(putRowK bq 2 (Sort.ahead w n) ga 0 D).heap[b]?=w.heap[b]?:=fun b hb=>by
       have:¬ ga=b:=fun e=>hb e.symm
       simp [putRowK,putRow,mapBlock,Array.getElem?_modify,Sort.ahead,this]
      have hW1s:(putRowK bq 2 (Sort.ahead w n) ga 0 D).heap.size=w.heap.size:=by simp [putRowK,Sort.ahead]
      have hORel:ORel σ (putRowK bq 2 (Sort.ahead w n) ga 0 D) F (.arr 161 2 (List.map aq D.toList)) (.slice (some ⟨ga,0,none⟩) p0.length cp):=by
       refine ⟨(D.toList.map bq).flatten,⟨?_,.inr ⟨ga,cp,_,by rw [hDl],Nat.zero_le _,hW1,by rw [hDl];exact hnc,hcm,by simp [putCells,hsz],?_⟩⟩,⟨fun row hr=>?_,fun u hu=>?_,sr _⟩,fun g2 hg2=>?_,_,_,_,rfl⟩
       ·rw [<- hFl,Array.length_toList (xs:=flatK bq 2 D),hFs,hDl]
       ·rw [<- hFl,hDl];apply List.ext_getElem?;intro k;rw [List.getElem?_take];by_cases hk:k<p0.length*2
        ·rw [if_pos hk,Array.getElem?_toList,Array.getElem?_toList];simp only [putCells,Array.getElem?_mapIdx];rw [Array.getElem?_eq_getElem (show k<cur.size by omega),Option.map_some,if_pos ⟨Nat.zero_le _,by omega⟩,Array.getElem?_eq_getElem (show k<(flatK bq 2 D).size by omega),Nat.sub_zero,getElem!_pos _ k (by omega)];rfl
        ·rw [if_neg hk,List.getElem?_eq_none (by rw [Array.length_toList,hFs];omega)]
       ·obtain ⟨a,_,rfl⟩:=List.mem_map.1 hr;rfl
       ·obtain ⟨row,hrow,hu⟩:=List.mem_flatten.1 hu;obtain ⟨a,_,rfl⟩:=List.mem_map.1 hrow;simp [bq] at hu;rcases hu with rfl | rfl<;>rfl
       ·simp [Value.ownBlock] at hg2;subst hg2;exact hFa
      have s1:=hs.write (b0:=ga) 0 rfl rfl hσ0 rfl hW1o hW1s (.arr 161 2 (List.map aq D.toList)) hORel (fun _ h=>h)
      have m1:Mv [.arr 161 2 (List.map aq p0),.box [.int .i64 p1,.ref 0,.int .i64 p2]] σ w F ([.arr 161 2 (List.map aq p0),.box [.int .i64 p1,.ref 0,.int .i64 p2]].set 0 (.arr 161 2 (List.map aq D.toList))) σ (putRowK bq 2 (Sort.ahead w n) ga 0 D) F:=Mv.write (aw:=[.arr 161 2 (List.map aq p0),.box [.int .i64 p1,.ref 0,.int .i64 p2]]) (w:=w) (w':=putRowK bq 2 (Sort.ahead w n) ga 0 D) (F:=F) (b0:=ga) (o:=.arr 161 2 (List.map aq p0)) 0 rfl rfl hσ0 rfl rfl rfl ⟨rfl,Nat.le_add_right _ _⟩ hW1o hW1s (.arr 161 2 (List.map aq D.toList)) (fun _ h=>h)
      exact ⟨_,_,_,σ,F,rfl,⟨rfl,rfl⟩,s1.grow (fun _ h=>h) (fun _ h=>.inl h) (fun b hb=>by have:=s1.lt b hb;rw [size_grow];omega) (grown _ os),dN,m1.trans (.grow (fun _ h=>h) (fun _ h=>.inl h) rfl rfl drO (by rw [size_grow];omega) (grown _ os))⟩
    ·cases h
end
section
open Go.RowKit
set_option maxRecDepth 100000
set_option maxHeartbeats 4000000
set_option synthInstance.maxSize 100000
set_option synthInstance.maxHeartbeats 4000000
theorem xb {p0:Net} {r:(List Int) × Int} (h:kF p0=some r):FnO Tryz.prog 39 [.agg (au p0)] (.tup [.ref 0,iI r.2]) [aR 3 1 ah r.1]:=by
 unfold kF at h;refine fT 0 7 Tryz.func39 Tryz.ntmps39 rfl (j1 [(1,.ptr 0 0),(48,.bool ((((p0.Nodes).length:Int)==0) || ((decide (((p0.Nodes).length:Int) > 12)) || ((decide (p0.Rings<0)) || decide (p0.Rings > 16)))))] [.box (au p0)] ?_ (fun hK=>?_))
 ·refine T.ci h rfl (fun hb_4 h=>?_) (fun hb_4 h=>?_)
  ·refine X 5 1 ?_;cases h;exact tO [(0,3,1)] [1] 1
  refine X 2 1 (j1 [(1,.ptr 0 0),(56,.bool ((decide (p0.Room<1)) || decide (p0.Room > 6)))] [.box (au p0)] ?_ (fun hK=>?_))
  ·refine T.ci h rfl (fun hb_6 h=>?_) (fun hb_6 h=>?_)
   ·refine X 5 1 ?_;cases h;exact tO [(0,3,1)] [1] 1
   refine X 3 1 (sO (im rfl rfl (sO (im rfl rfl (Y 12 3 (sQ (aj Ty.s22 rfl (Y 3 3 (itr (fun ss_293:Int × Int × (List (Int × Int)) × (List (Int × Int))=>mkA 249 [(1,.ptr 0 0),(4,.mpr 1),(5,.mpr 2),(6,iI ss_293.1),(60,sL ai p0.Nodes),(61,iI ((p0.Nodes).length:Int)),(62,iI ss_293.2.1)]) (fun ss_293=>[.box (au p0),.mp (List.map kI (List.map Prod.fst ss_293.2.2.1)) (List.map kI (List.map Prod.snd ss_293.2.2.1)),.mp (List.map kI (List.map Prod.fst ss_293.2.2.2)) (List.map kI (List.map Prod.snd ss_293.2.2.2))]) h (wk [] [0,1,2] 3 rfl) (fun ss_293 v_294 h hv_294=>?_))))))))));obtain ⟨s3,s4,s5,s6⟩:=ss_293;replace h:eC p0 s3 s4 s5 s6=some v_294:=h;try dsimp only
   unfold eC at h;refine X 5 3 (T.ci h rfl (fun hb_295 h=>?_) (fun hb_295 h=>?_))
   ·refine B h fun x8 hx8 h=>(X 6 3 (sQ (ao Ty.s22 (fun _=>rfl) rfl rfl hx8 (Y 17 3 (T.join2 (Z:=Unit) (fun zz_360=>mkA 249 [(1,.ptr 0 0),(4,.mpr 1),(5,.mpr 2),(6,iI s3),(7,iI s4),(8,.ptr 3 0),(60,sL ai p0.Nodes),(61,iI ((p0.Nodes).length:Int)),(62,iI s4)]) (fun zz_360=>[.box (au p0),.mp (List.map kI (List.map Prod.fst s5)) (List.map kI (List.map Prod.snd s5)),.mp (List.map kI (List.map Prod.fst s6)) (List.map kI (List.map Prod.snd s6)),.box (ai x8)]) (fun zz_360=>dq p0 s3 s4 s5 s6 x8=some v_294) (fun zz_360 h=>?_) (fun hK3=>?_))))))
    ·replace h:dq p0 s3 s4 s5 s6 x8=some v_294:=h;unfold dq at h;refine X 2 4 (sO (im rfl rfl (sO (iE (ek:=kI) (ev:=kI) (xs:=([]:List (Int × Int))) (k:=1) (a:=3) (.inr rfl) Tryz.underlying79 (KeyT.int Tryz.underlying3) rfl rfl rfl rfl rfl (sO (iE (ek:=kI) (ev:=kI) (xs:=(mset 1 3 ([]:List (Int × Int)))) (k:=2) (a:=3) (.inr rfl) Tryz.underlying79 (KeyT.int Tryz.underlying3) rfl rfl rfl rfl rfl (Y 3 5 (sO (jT (ek:=kI) (ev:=kI) (xs:=(mset 2 3 (mset 1 3 ([]:List (Int × Int))))) (k:=x8.Kind) (z0:=0) Tryz.underlying79 (KeyT.int Tryz.underlying3) Ty.w3 (fun _ _ _=>.int _ _) rfl rfl rfl (Y 3 5 (j1 [(1,.ptr 0 0),(4,.mpr 1),(5,.mpr 2),(6,iI s3),(7,iI s4),(8,.ptr 3 0),(60,sL ai p0.Nodes),(61,iI ((p0.Nodes).length:Int)),(62,iI s4),(130,.bool ((decide (x8.A<0)) || decide (x8.A > ((mget x8.Kind (mset 2 3 (mset 1 3 ([]:List (Int × Int))))).getD 0))))] [.box (au p0),.mp (List.map kI (List.map Prod.fst s5)) (List.map kI (List.map Prod.snd s5)),.mp (List.map kI (List.map Prod.fst s6)) (List.map kI (List.map Prod.snd s6)),.box (ai x8)] ?_ (fun hK=>?_))))))))))))
     ·refine T.ci h rfl (fun hb_362 h=>?_) (fun hb_362 h=>?_)
      ·refine X 5 4 ?_;replace h:=mi h hv_294;cases h;exact tO [(0,3,1)] [4] 4
      refine X 6 4 (sQ (aj Ty.s49 rfl (Y 3 4 (itr (fun ss_372:Int × (List (Int × Int))=>mkA 249 [(1,.ptr 0 0),(4,.mpr 1),(5,.mpr 2),(6,iI s3),(7,iI s4),(8,.ptr 3 0),(60,sL ai p0.Nodes),(61,iI ((p0.Nodes).length:Int)),(62,iI s4),(132,sL ah x8.In),(133,iI ((x8.In).length:Int)),(134,iI ss_372.1)]) (fun ss_372=>[.box (au p0),.mp (List.map kI (List.map Prod.fst s5)) (List.map kI (List.map Prod.snd s5)),.mp (List.map kI (List.map Prod.fst ss_372.2)) (List.map kI (List.map Prod.snd ss_372.2)),.box (ai x8)]) h (wk [] [0,1,2,3] 4 rfl) (fun ss_372 v_373 h hv_373=>?_)))));obtain ⟨s34,s35⟩:=ss_372;replace h:dJ p0 s3 s4 s5 x8 s34 s35=some v_373:=h;try dsimp only
      unfold dJ at h;refine X 5 4 (T.ci h rfl (fun hb_374 h=>?_) (fun hb_374 h=>?_))
      ·refine B h fun x37 hx37 h=>(X 5 4 (sQ (ao Ty.s49 (fun _=>rfl) rfl rfl hx37 (Y 4 4 (j1 [(1,.ptr 0 0),(4,.mpr 1),(5,.mpr 2),(6,iI s3),(7,iI s4),(8,.ptr 3 0),(16,iI x37),(60,sL ai p0.Nodes),(61,iI ((p0.Nodes).length:Int)),(62,iI s4),(132,sL ah x8.In),(133,iI ((x8.In).length:Int)),(134,iI s34),(145,.bool ((decide (x37<0)) || decide (x37 >= p0.Rings)))] [.box (au p0),.mp (List.map kI (List.map Prod.fst s5)) (List.map kI (List.map Prod.snd s5)),.mp (List.map kI (List.map Prod.fst s35)) (List.map kI (List.map Prod.snd s35)),.box (ai x8)] ?_ (fun hK=>?_))))))
       ·refine T.ci h rfl (fun hb_376 h=>?_) (fun hb_376 h=>?_)
        ·refine X 5 4 ?_;replace h:=mi h hv_373;replace h:=mi h hv_294;cases h;exact tO [(0,3,1)] [4] 4
        refine X 6 4 (sO (oA (ek:=kI) (ev:=kI) (xs:=s35) (k:=x37) (z0:=0) Tryz.underlying79 (KeyT.int Tryz.underlying3) Ty.w3 (fun _ _ _=>.int _ _) rfl rfl rfl (Y 10 4 (T.ci h rfl (fun hb_379 h=>?_) (fun hb_379 h=>?_)))))
        ·refine X 5 4 ?_;replace h:=mi h hv_373;replace h:=mi h hv_294;cases h;exact tO [(0,3,1)] [4] 4
        exact X 5 4 (sO (iE (ek:=kI) (ev:=kI) (xs:=s35) (k:=x37) (a:=s4) (.inl rfl) Tryz.underlying79 (KeyT.int Tryz.underlying3) rfl rfl rfl rfl rfl (Y 5 4 (lk h (wk [] [0,1,2,3] 4 rfl)))))
       refine X 5 4 (gp 140 (fun hb_375=>?_) (fun hb_375=>?_))
       ·refine Yp 6 4 ?_;rw [hb_375] at hK;exact sx hK
       refine Yp 6 4 ?_;rw [hb_375] at hK;exact sx hK
      refine X 1 4 ?_;replace h:=mi h hv_373;refine X 5 4 (sQ (aj Ty.s49 rfl (Y 3 4 (itr (fun ss_391:Int × (List (Int × Int))=>mkA 249 [(1,.ptr 0 0),(4,.mpr 1),(5,.mpr 2),(6,iI s3),(7,iI s4),(8,.ptr 3 0),(60,sL ai p0.Nodes),(61,iI ((p0.Nodes).length:Int)),(62,iI s4),(158,sL ah x8.Out),(159,iI ((x8.Out).length:Int)),(160,iI ss_391.1)]) (fun ss_391=>[.box (au p0),.mp (List.map kI (List.map Prod.fst ss_391.2)) (List.map kI (List.map Prod.snd ss_391.2)),.mp (List.map kI (List.map Prod.fst s35)) (List.map kI (List.map Prod.snd s35)),.box (ai x8)]) h (wk [] [0,1,2,3] 4 rfl) (fun ss_391 v_392 h hv_392=>?_)))));obtain ⟨s39,s40⟩:=ss_391;replace h:eD p0 s3 s4 x8 s35 s39 s40=some v_392:=h;try dsimp only
      unfold eD at h;refine X 5 4 (T.ci h rfl (fun hb_393 h=>?_) (fun hb_393 h=>?_))
      ·refine B h fun x42 hx42 h=>(X 5 4 (sQ (ao Ty.s49 (fun _=>rfl) rfl rfl hx42 (Y 4 4 (j1 [(1,.ptr 0 0),(4,.mpr 1),(5,.mpr 2),(6,iI s3),(7,iI s4),(8,.ptr 3 0),(20,iI x42),(60,sL ai p0.Nodes),(61,iI ((p0.Nodes).length:Int)),(62,iI s4),(158,sL ah x8.Out),(159,iI ((x8.Out).length:Int)),(160,iI s39),(171,.bool ((decide (x42<0)) || decide (x42 >= p0.Rings)))] [.box (au p0),.mp (List.map kI (List.map Prod.fst s40)) (List.map kI (List.map Prod.snd s40)),.mp (List.map kI (List.map Prod.fst s35)) (List.map kI (List.map Prod.snd s35)),.box (ai x8)] ?_ (fun hK=>?_))))))
       ·refine T.ci h rfl (fun hb_395 h=>?_) (fun hb_395 h=>?_)
        ·refine X 5 4 ?_;replace h:=mi h hv_392;replace h:=mi h hv_294;cases h;exact tO [(0,3,1)] [4] 4
        refine X 6 4 (sO (oA (ek:=kI) (ev:=kI) (xs:=s40) (k:=x42) (z0:=0) Tryz.underlying79 (KeyT.int Tryz.underlying3) Ty.w3 (fun _ _ _=>.int _ _) rfl rfl rfl (Y 10 4 (T.ci h rfl (fun hb_398 h=>?_) (fun hb_398 h=>?_)))))
        ·refine X 5 4 ?_;replace h:=mi h hv_392;replace h:=mi h hv_294;cases h;exact tO [(0,3,1)] [4] 4
        exact X 5 4 (sO (iE (ek:=kI) (ev:=kI) (xs:=s40) (k:=x42) (a:=s4) (.inl rfl) Tryz.underlying79 (KeyT.int Tryz.underlying3) rfl rfl rfl rfl rfl (Y 5 4 (lk h (wk [] [0,1,2,3] 4 rfl)))))
       refine X 5 4 (gp 166 (fun hb_394=>?_) (fun hb_394=>?_))
       ·refine Yp 6 4 ?_;rw [hb_394] at hK;exact sx hK
       refine Yp 6 4 ?_;rw [hb_394] at hK;exact sx hK
      refine X 1 4 ?_;replace h:=mi h hv_392;refine X 6 4 (T.ci h rfl (fun hb_402 h=>?_) (fun hb_402 h=>?_))
      ·exact X 9 4 (lk h (wk [] [0,1,2] 4 rfl))
      exact X 5 4 (lk h (wk [] [0,1,2] 4 rfl))
     refine X 6 5 (gp 125 (fun hb_361=>?_) (fun hb_361=>?_))
     ·refine Yp 6 5 ?_;rw [hb_361] at hK;exact wu hK [] [0,1,2,3] 5 rfl
     refine Yp 6 5 ?_;rw [hb_361] at hK;exact wu hK [] [0,1,2,3] 5 rfl
    refine X 2 4 (sO (im rfl rfl (Y 3 5 (sO (fu (ek:=kI) (ks:=[]) (vs:=[]) (k:=1) (a:=.agg [.func 68 [],.func 66 []]) (o2:=.mp (List.map kI [1]) [.agg [.func 68 [],.func 66 []]]) (.inr rfl) Tryz.underlying116 (KeyT.int Tryz.underlying3) rfl rfl rfl rfl rfl rfl (Y 3 5 (sO (fu (ek:=kI) (ks:=[1]) (vs:=[.agg [.func 68 [],.func 66 []]]) (k:=2) (a:=.agg [.func 66 [],.func 66 []]) (o2:=.mp (List.map kI [1,2]) [.agg [.func 68 [],.func 66 []],.agg [.func 66 [],.func 66 []]]) (.inr rfl) Tryz.underlying116 (KeyT.int Tryz.underlying3) rfl rfl rfl rfl rfl rfl (Y 3 5 (sO (fu (ek:=kI) (ks:=[1,2]) (vs:=[.agg [.func 68 [],.func 66 []],.agg [.func 66 [],.func 66 []]]) (k:=3) (a:=.agg [.func 66 [],.func 66 []]) (o2:=.mp (List.map kI [1,2,3]) [.agg [.func 68 [],.func 66 []],.agg [.func 66 [],.func 66 []],.agg [.func 66 [],.func 66 []]]) (.inr rfl) Tryz.underlying116 (KeyT.int Tryz.underlying3) rfl rfl rfl rfl rfl rfl (Y 3 5 (sO (fu (ek:=kI) (ks:=[1,2,3]) (vs:=[.agg [.func 68 [],.func 66 []],.agg [.func 66 [],.func 66 []],.agg [.func 66 [],.func 66 []]]) (k:=4) (a:=.agg [.func 66 [],.func 66 []]) (o2:=.mp (List.map kI [1,2,3,4]) [.agg [.func 68 [],.func 66 []],.agg [.func 66 [],.func 66 []],.agg [.func 66 [],.func 66 []],.agg [.func 66 [],.func 66 []]]) (.inr rfl) Tryz.underlying116 (KeyT.int Tryz.underlying3) rfl rfl rfl rfl rfl rfl ?_))))))))))))));refine Y 3 5 (sO (fu (ek:=kI) (ks:=[1,2,3,4]) (vs:=[.agg [.func 68 [],.func 66 []],.agg [.func 66 [],.func 66 []],.agg [.func 66 [],.func 66 []],.agg [.func 66 [],.func 66 []]]) (k:=5) (a:=.agg [.func 66 [],.func 67 []]) (o2:=.mp (List.map kI [1,2,3,4,5]) [.agg [.func 68 [],.func 66 []],.agg [.func 66 [],.func 66 []],.agg [.func 66 [],.func 66 []],.agg [.func 66 [],.func 66 []],.agg [.func 66 [],.func 67 []]]) (.inr rfl) Tryz.underlying116 (KeyT.int Tryz.underlying3) rfl rfl rfl rfl rfl rfl (Y 3 5 (sO (fu (ek:=kI) (ks:=[1,2,3,4,5]) (vs:=[.agg [.func 68 [],.func 66 []],.agg [.func 66 [],.func 66 []],.agg [.func 66 [],.func 66 []],.agg [.func 66 [],.func 66 []],.agg [.func 66 [],.func 67 []]]) (k:=7) (a:=.agg [.func 66 [],.func 67 []]) (o2:=.mp (List.map kI [1,2,3,4,5,7]) [.agg [.func 68 [],.func 66 []],.agg [.func 66 [],.func 66 []],.agg [.func 66 [],.func 66 []],.agg [.func 66 [],.func 66 []],.agg [.func 66 [],.func 67 []],.agg [.func 66 [],.func 67 []]]) (.inr rfl) Tryz.underlying116 (KeyT.int Tryz.underlying3) rfl rfl rfl rfl rfl rfl (Y 3 5 (sO (fu (ek:=kI) (ks:=[1,2,3,4,5,7]) (vs:=[.agg [.func 68 [],.func 66 []],.agg [.func 66 [],.func 66 []],.agg [.func 66 [],.func 66 []],.agg [.func 66 [],.func 66 []],.agg [.func 66 [],.func 67 []],.agg [.func 66 [],.func 67 []]]) (k:=6) (a:=.agg [.func 67 [],.func 66 []]) (o2:=.mp (List.map kI [1,2,3,4,5,7,6]) [.agg [.func 68 [],.func 66 []],.agg [.func 66 [],.func 66 []],.agg [.func 66 [],.func 66 []],.agg [.func 66 [],.func 66 []],.agg [.func 66 [],.func 67 []],.agg [.func 66 [],.func 67 []],.agg [.func 67 [],.func 66 []]]) (.inr rfl) Tryz.underlying116 (KeyT.int Tryz.underlying3) rfl rfl rfl rfl rfl rfl (Y 3 5 (sO (fu (ek:=kI) (ks:=[1,2,3,4,5,7,6]) (vs:=[.agg [.func 68 [],.func 66 []],.agg [.func 66 [],.func 66 []],.agg [.func 66 [],.func 66 []],.agg [.func 66 [],.func 66 []],.agg [.func 66 [],.func 67 []],.agg [.func 66 [],.func 67 []],.agg [.func 67 [],.func 66 []]]) (k:=8) (a:=.agg [.func 66 [],.func 68 []]) (o2:=.mp (List.map kI [1,2,3,4,5,7,6,8]) [.agg [.func 68 [],.func 66 []],.agg [.func 66 [],.func 66 []],.agg [.func 66 [],.func 66 []],.agg [.func 66 [],.func 66 []],.agg [.func 66 [],.func 67 []],.agg [.func 66 [],.func 67 []],.agg [.func 67 [],.func 66 []],.agg [.func 66 [],.func 68 []]]) (.inr rfl) Tryz.underlying116 (KeyT.int Tryz.underlying3) rfl rfl rfl rfl rfl rfl (Y 3 5 ?_))))))))))));rcases ba (x8.Kind==1) with hb_411 | hb_411
    ·replace h:=bT h hb_411;refine sO (fk (ek:=kI) (ks:=[1,2,3,4,5,7,6,8]) (vs:=[.agg [.func 68 [],.func 66 []],.agg [.func 66 [],.func 66 []],.agg [.func 66 [],.func 66 []],.agg [.func 66 [],.func 66 []],.agg [.func 66 [],.func 67 []],.agg [.func 66 [],.func 67 []],.agg [.func 67 [],.func 66 []],.agg [.func 66 [],.func 68 []]]) (k:=x8.Kind) (az:=.agg [.nilf,.nilf]) (a:=.agg [.func 68 [],.func 66 []]) (r:=(some 0)) Tryz.underlying116 (KeyT.int Tryz.underlying3) Ty.w114 (fun _ _ _=>eQ (vs:=[.nilFunc,.nilFunc]) (.cons (.nilf) (.cons (.nilf) (.nil))) rfl) rfl rfl rfl (gS (eq_of_beq hb_411)) rfl (B h fun x9 hx9 h=>(Y 16 5 ?_)));obtain ⟨zt_420,hz,h⟩:=bind_some h;revert hz h;revert zt_420;intro c11 hz h;refine j1 [(1,.ptr 0 0),(4,.mpr 1),(5,.mpr 2),(6,iI s3),(7,iI s4),(8,.ptr 3 0),(60,sL ai p0.Nodes),(61,iI ((p0.Nodes).length:Int)),(62,iI s4),(116,.bool c11)] [.box (au p0),.mp (List.map kI (List.map Prod.fst s5)) (List.map kI (List.map Prod.snd s5)),.mp (List.map kI (List.map Prod.fst s6)) (List.map kI (List.map Prod.snd s6)),.box (ai x8)] ?_ (fun hK=>?_)
     ·refine T.ci h rfl (fun hb_421 h=>?_) (fun hb_421 h=>?_)
      ·refine X 5 4 ?_;replace h:=mi h hv_294;cases h;exact tO [(0,3,1)] [4] 4
      exact X 1 4 (sx (hK3 () h))
     refine X 6 6 (sQ (aj Ty.s49 rfl (sO (cF (qh hx9) ⟨rfl,(Y 2 6 (gi 108 hz (fun hb_419 hz=>?_) (fun hb_419 hz=>?_)))⟩))))
     ·refine Yp 9 6 ?_;cases hz;exact wu hK [] [0,1,2,3] 6 rfl
     refine B hz fun x10 hx10 hz=>(Y 4 6 (yQ rfl (aj Ty.s49 rfl (yO rfl (cF (dY hx10) ⟨rfl,(Yp 3 6 ?_)⟩)))))
     cases hz;exact wu hK [] [0,1,2,3] 6 rfl
    replace h:=bR h hb_411;rcases ba (x8.Kind==2) with hb_412 | hb_412
    ·replace h:=bT h hb_412;refine sO (fk (ek:=kI) (ks:=[1,2,3,4,5,7,6,8]) (vs:=[.agg [.func 68 [],.func 66 []],.agg [.func 66 [],.func 66 []],.agg [.func 66 [],.func 66 []],.agg [.func 66 [],.func 66 []],.agg [.func 66 [],.func 67 []],.agg [.func 66 [],.func 67 []],.agg [.func 67 [],.func 66 []],.agg [.func 66 [],.func 68 []]]) (k:=x8.Kind) (az:=.agg [.nilf,.nilf]) (a:=.agg [.func 66 [],.func 66 []]) (r:=(some 1)) Tryz.underlying116 (KeyT.int Tryz.underlying3) Ty.w114 (fun _ _ _=>eQ (vs:=[.nilFunc,.nilFunc]) (.cons (.nilf) (.cons (.nilf) (.nil))) rfl) rfl rfl rfl (bf (ne_of_beq_false hb_411) (gS (eq_of_beq hb_412))) rfl (B h fun x12 hx12 h=>(Y 16 5 ?_)));obtain ⟨zt_424,hz,h⟩:=bind_some h;revert hz h;revert zt_424;intro c14 hz h;refine j1 [(1,.ptr 0 0),(4,.mpr 1),(5,.mpr 2),(6,iI s3),(7,iI s4),(8,.ptr 3 0),(60,sL ai p0.Nodes),(61,iI ((p0.Nodes).length:Int)),(62,iI s4),(116,.bool c14)] [.box (au p0),.mp (List.map kI (List.map Prod.fst s5)) (List.map kI (List.map Prod.snd s5)),.mp (List.map kI (List.map Prod.fst s6)) (List.map kI (List.map Prod.snd s6)),.box (ai x8)] ?_ (fun hK=>?_)
     ·refine T.ci h rfl (fun hb_425 h=>?_) (fun hb_425 h=>?_)
      ·refine X 5 4 ?_;replace h:=mi h hv_294;cases h;exact tO [(0,3,1)] [4] 4
      exact X 1 4 (sx (hK3 () h))
     refine X 6 6 (sQ (aj Ty.s49 rfl (sO (cF (dY hx12) ⟨rfl,(Y 2 6 (gi 108 hz (fun hb_423 hz=>?_) (fun hb_423 hz=>?_)))⟩))))
     ·refine Yp 9 6 ?_;cases hz;exact wu hK [] [0,1,2,3] 6 rfl
     refine B hz fun x13 hx13 hz=>(Y 4 6 (yQ rfl (aj Ty.s49 rfl (yO rfl (cF (dY hx13) ⟨rfl,(Yp 3 6 ?_)⟩)))))
     cases hz;exact wu hK [] [0,1,2,3] 6 rfl
    replace h:=bR h hb_412;rcases ba (x8.Kind==3) with hb_413 | hb_413
    ·replace h:=bT h hb_413;refine sO (fk (ek:=kI) (ks:=[1,2,3,4,5,7,6,8]) (vs:=[.agg [.func 68 [],.func 66 []],.agg [.func 66 [],.func 66 []],.agg [.func 66 [],.func 66 []],.agg [.func 66 [],.func 66 []],.agg [.func 66 [],.func 67 []],.agg [.func 66 [],.func 67 []],.agg [.func 67 [],.func 66 []],.agg [.func 66 [],.func 68 []]]) (k:=x8.Kind) (az:=.agg [.nilf,.nilf]) (a:=.agg [.func 66 [],.func 66 []]) (r:=(some 2)) Tryz.underlying116 (KeyT.int Tryz.underlying3) Ty.w114 (fun _ _ _=>eQ (vs:=[.nilFunc,.nilFunc]) (.cons (.nilf) (.cons (.nilf) (.nil))) rfl) rfl rfl rfl (bf (ne_of_beq_false hb_411) (bf (ne_of_beq_false hb_412) (gS (eq_of_beq hb_413)))) rfl (B h fun x15 hx15 h=>(Y 16 5 ?_)));obtain ⟨zt_428,hz,h⟩:=bind_some h;revert hz h;revert zt_428;intro c17 hz h;refine j1 [(1,.ptr 0 0),(4,.mpr 1),(5,.mpr 2),(6,iI s3),(7,iI s4),(8,.ptr 3 0),(60,sL ai p0.Nodes),(61,iI ((p0.Nodes).length:Int)),(62,iI s4),(116,.bool c17)] [.box (au p0),.mp (List.map kI (List.map Prod.fst s5)) (List.map kI (List.map Prod.snd s5)),.mp (List.map kI (List.map Prod.fst s6)) (List.map kI (List.map Prod.snd s6)),.box (ai x8)] ?_ (fun hK=>?_)
     ·refine T.ci h rfl (fun hb_429 h=>?_) (fun hb_429 h=>?_)
      ·refine X 5 4 ?_;replace h:=mi h hv_294;cases h;exact tO [(0,3,1)] [4] 4
      exact X 1 4 (sx (hK3 () h))
     refine X 6 6 (sQ (aj Ty.s49 rfl (sO (cF (dY hx15) ⟨rfl,(Y 2 6 (gi 108 hz (fun hb_427 hz=>?_) (fun hb_427 hz=>?_)))⟩))))
     ·refine Yp 9 6 ?_;cases hz;exact wu hK [] [0,1,2,3] 6 rfl
     refine B hz fun x16 hx16 hz=>(Y 4 6 (yQ rfl (aj Ty.s49 rfl (yO rfl (cF (dY hx16) ⟨rfl,(Yp 3 6 ?_)⟩)))))
     cases hz;exact wu hK [] [0,1,2,3] 6 rfl
    replace h:=bR h hb_413;rcases ba (x8.Kind==4) with hb_414 | hb_414
    ·replace h:=bT h hb_414;refine sO (fk (ek:=kI) (ks:=[1,2,3,4,5,7,6,8]) (vs:=[.agg [.func 68 [],.func 66 []],.agg [.func 66 [],.func 66 []],.agg [.func 66 [],.func 66 []],.agg [.func 66 [],.func 66 []],.agg [.func 66 [],.func 67 []],.agg [.func 66 [],.func 67 []],.agg [.func 67 [],.func 66 []],.agg [.func 66 [],.func 68 []]]) (k:=x8.Kind) (az:=.agg [.nilf,.nilf]) (a:=.agg [.func 66 [],.func 66 []]) (r:=(some 3)) Tryz.underlying116 (KeyT.int Tryz.underlying3) Ty.w114 (fun _ _ _=>eQ (vs:=[.nilFunc,.nilFunc]) (.cons (.nilf) (.cons (.nilf) (.nil))) rfl) rfl rfl rfl (bf (ne_of_beq_false hb_411) (bf (ne_of_beq_false hb_412) (bf (ne_of_beq_false hb_413) (gS (eq_of_beq hb_414))))) rfl (B h fun x18 hx18 h=>(Y 16 5 ?_)));obtain ⟨zt_432,hz,h⟩:=bind_some h;revert hz h;revert zt_432;intro c20 hz h;refine j1 [(1,.ptr 0 0),(4,.mpr 1),(5,.mpr 2),(6,iI s3),(7,iI s4),(8,.ptr 3 0),(60,sL ai p0.Nodes),(61,iI ((p0.Nodes).length:Int)),(62,iI s4),(116,.bool c20)] [.box (au p0),.mp (List.map kI (List.map Prod.fst s5)) (List.map kI (List.map Prod.snd s5)),.mp (List.map kI (List.map Prod.fst s6)) (List.map kI (List.map Prod.snd s6)),.box (ai x8)] ?_ (fun hK=>?_)
     ·refine T.ci h rfl (fun hb_433 h=>?_) (fun hb_433 h=>?_)
      ·refine X 5 4 ?_;replace h:=mi h hv_294;cases h;exact tO [(0,3,1)] [4] 4
      exact X 1 4 (sx (hK3 () h))
     refine X 6 6 (sQ (aj Ty.s49 rfl (sO (cF (dY hx18) ⟨rfl,(Y 2 6 (gi 108 hz (fun hb_431 hz=>?_) (fun hb_431 hz=>?_)))⟩))))
     ·refine Yp 9 6 ?_;cases hz;exact wu hK [] [0,1,2,3] 6 rfl
     refine B hz fun x19 hx19 hz=>(Y 4 6 (yQ rfl (aj Ty.s49 rfl (yO rfl (cF (dY hx19) ⟨rfl,(Yp 3 6 ?_)⟩)))))
     cases hz;exact wu hK [] [0,1,2,3] 6 rfl
    replace h:=bR h hb_414;rcases ba (x8.Kind==5) with hb_415 | hb_415
    ·replace h:=bT h hb_415;refine sO (fk (ek:=kI) (ks:=[1,2,3,4,5,7,6,8]) (vs:=[.agg [.func 68 [],.func 66 []],.agg [.func 66 [],.func 66 []],.agg [.func 66 [],.func 66 []],.agg [.func 66 [],.func 66 []],.agg [.func 66 [],.func 67 []],.agg [.func 66 [],.func 67 []],.agg [.func 67 [],.func 66 []],.agg [.func 66 [],.func 68 []]]) (k:=x8.Kind) (az:=.agg [.nilf,.nilf]) (a:=.agg [.func 66 [],.func 67 []]) (r:=(some 4)) Tryz.underlying116 (KeyT.int Tryz.underlying3) Ty.w114 (fun _ _ _=>eQ (vs:=[.nilFunc,.nilFunc]) (.cons (.nilf) (.cons (.nilf) (.nil))) rfl) rfl rfl rfl (bf (ne_of_beq_false hb_411) (bf (ne_of_beq_false hb_412) (bf (ne_of_beq_false hb_413) (bf (ne_of_beq_false hb_414) (gS (eq_of_beq hb_415)))))) rfl (B h fun x21 hx21 h=>(Y 16 5 ?_)));obtain ⟨zt_436,hz,h⟩:=bind_some h;revert hz h;revert zt_436;intro c23 hz h;refine j1 [(1,.ptr 0 0),(4,.mpr 1),(5,.mpr 2),(6,iI s3),(7,iI s4),(8,.ptr 3 0),(60,sL ai p0.Nodes),(61,iI ((p0.Nodes).length:Int)),(62,iI s4),(116,.bool c23)] [.box (au p0),.mp (List.map kI (List.map Prod.fst s5)) (List.map kI (List.map Prod.snd s5)),.mp (List.map kI (List.map Prod.fst s6)) (List.map kI (List.map Prod.snd s6)),.box (ai x8)] ?_ (fun hK=>?_)
     ·refine T.ci h rfl (fun hb_437 h=>?_) (fun hb_437 h=>?_)
      ·refine X 5 4 ?_;replace h:=mi h hv_294;cases h;exact tO [(0,3,1)] [4] 4
      exact X 1 4 (sx (hK3 () h))
     refine X 6 6 (sQ (aj Ty.s49 rfl (sO (cF (dY hx21) ⟨rfl,(Y 2 6 (gi 108 hz (fun hb_435 hz=>?_) (fun hb_435 hz=>?_)))⟩))))
     ·refine Yp 9 6 ?_;cases hz;exact wu hK [] [0,1,2,3] 6 rfl
     refine B hz fun x22 hx22 hz=>(Y 4 6 (yQ rfl (aj Ty.s49 rfl (yO rfl (cF (nU hx22) ⟨rfl,(Yp 3 6 ?_)⟩)))))
     cases hz;exact wu hK [] [0,1,2,3] 6 rfl
    replace h:=bR h hb_415;rcases ba (x8.Kind==7) with hb_416 | hb_416
    ·replace h:=bT h hb_416;refine sO (fk (ek:=kI) (ks:=[1,2,3,4,5,7,6,8]) (vs:=[.agg [.func 68 [],.func 66 []],.agg [.func 66 [],.func 66 []],.agg [.func 66 [],.func 66 []],.agg [.func 66 [],.func 66 []],.agg [.func 66 [],.func 67 []],.agg [.func 66 [],.func 67 []],.agg [.func 67 [],.func 66 []],.agg [.func 66 [],.func 68 []]]) (k:=x8.Kind) (az:=.agg [.nilf,.nilf]) (a:=.agg [.func 66 [],.func 67 []]) (r:=(some 5)) Tryz.underlying116 (KeyT.int Tryz.underlying3) Ty.w114 (fun _ _ _=>eQ (vs:=[.nilFunc,.nilFunc]) (.cons (.nilf) (.cons (.nilf) (.nil))) rfl) rfl rfl rfl (bf (ne_of_beq_false hb_411) (bf (ne_of_beq_false hb_412) (bf (ne_of_beq_false hb_413) (bf (ne_of_beq_false hb_414) (bf (ne_of_beq_false hb_415) (gS (eq_of_beq hb_416))))))) rfl (B h fun x24 hx24 h=>(Y 16 5 ?_)));obtain ⟨zt_440,hz,h⟩:=bind_some h;revert hz h;revert zt_440;intro c26 hz h;refine j1 [(1,.ptr 0 0),(4,.mpr 1),(5,.mpr 2),(6,iI s3),(7,iI s4),(8,.ptr 3 0),(60,sL ai p0.Nodes),(61,iI ((p0.Nodes).length:Int)),(62,iI s4),(116,.bool c26)] [.box (au p0),.mp (List.map kI (List.map Prod.fst s5)) (List.map kI (List.map Prod.snd s5)),.mp (List.map kI (List.map Prod.fst s6)) (List.map kI (List.map Prod.snd s6)),.box (ai x8)] ?_ (fun hK=>?_)
     ·refine T.ci h rfl (fun hb_441 h=>?_) (fun hb_441 h=>?_)
      ·refine X 5 4 ?_;replace h:=mi h hv_294;cases h;exact tO [(0,3,1)] [4] 4
      exact X 1 4 (sx (hK3 () h))
     refine X 6 6 (sQ (aj Ty.s49 rfl (sO (cF (dY hx24) ⟨rfl,(Y 2 6 (gi 108 hz (fun hb_439 hz=>?_) (fun hb_439 hz=>?_)))⟩))))
     ·refine Yp 9 6 ?_;cases hz;exact wu hK [] [0,1,2,3] 6 rfl
     refine B hz fun x25 hx25 hz=>(Y 4 6 (yQ rfl (aj Ty.s49 rfl (yO rfl (cF (nU hx25) ⟨rfl,(Yp 3 6 ?_)⟩)))))
     cases hz;exact wu hK [] [0,1,2,3] 6 rfl
    replace h:=bR h hb_416;rcases ba (x8.Kind==6) with hb_417 | hb_417
    ·replace h:=bT h hb_417;refine sO (fk (ek:=kI) (ks:=[1,2,3,4,5,7,6,8]) (vs:=[.agg [.func 68 [],.func 66 []],.agg [.func 66 [],.func 66 []],.agg [.func 66 [],.func 66 []],.agg [.func 66 [],.func 66 []],.agg [.func 66 [],.func 67 []],.agg [.func 66 [],.func 67 []],.agg [.func 67 [],.func 66 []],.agg [.func 66 [],.func 68 []]]) (k:=x8.Kind) (az:=.agg [.nilf,.nilf]) (a:=.agg [.func 67 [],.func 66 []]) (r:=(some 6)) Tryz.underlying116 (KeyT.int Tryz.underlying3) Ty.w114 (fun _ _ _=>eQ (vs:=[.nilFunc,.nilFunc]) (.cons (.nilf) (.cons (.nilf) (.nil))) rfl) rfl rfl rfl (bf (ne_of_beq_false hb_411) (bf (ne_of_beq_false hb_412) (bf (ne_of_beq_false hb_413) (bf (ne_of_beq_false hb_414) (bf (ne_of_beq_false hb_415) (bf (ne_of_beq_false hb_416) (gS (eq_of_beq hb_417)))))))) rfl (B h fun x27 hx27 h=>(Y 16 5 ?_)));obtain ⟨zt_444,hz,h⟩:=bind_some h;revert hz h;revert zt_444;intro c29 hz h;refine j1 [(1,.ptr 0 0),(4,.mpr 1),(5,.mpr 2),(6,iI s3),(7,iI s4),(8,.ptr 3 0),(60,sL ai p0.Nodes),(61,iI ((p0.Nodes).length:Int)),(62,iI s4),(116,.bool c29)] [.box (au p0),.mp (List.map kI (List.map Prod.fst s5)) (List.map kI (List.map Prod.snd s5)),.mp (List.map kI (List.map Prod.fst s6)) (List.map kI (List.map Prod.snd s6)),.box (ai x8)] ?_ (fun hK=>?_)
     ·refine T.ci h rfl (fun hb_445 h=>?_) (fun hb_445 h=>?_)
      ·refine X 5 4 ?_;replace h:=mi h hv_294;cases h;exact tO [(0,3,1)] [4] 4
      exact X 1 4 (sx (hK3 () h))
     refine X 6 6 (sQ (aj Ty.s49 rfl (sO (cF (nU hx27) ⟨rfl,(Y 2 6 (gi 108 hz (fun hb_443 hz=>?_) (fun hb_443 hz=>?_)))⟩))))
     ·refine Yp 9 6 ?_;cases hz;exact wu hK [] [0,1,2,3] 6 rfl
     refine B hz fun x28 hx28 hz=>(Y 4 6 (yQ rfl (aj Ty.s49 rfl (yO rfl (cF (dY hx28) ⟨rfl,(Yp 3 6 ?_)⟩)))))
     cases hz;exact wu hK [] [0,1,2,3] 6 rfl
    replace h:=bR h hb_417;rcases ba (x8.Kind==8) with hb_418 | hb_418
    ·replace h:=bT h hb_418;refine sO (fk (ek:=kI) (ks:=[1,2,3,4,5,7,6,8]) (vs:=[.agg [.func 68 [],.func 66 []],.agg [.func 66 [],.func 66 []],.agg [.func 66 [],.func 66 []],.agg [.func 66 [],.func 66 []],.agg [.func 66 [],.func 67 []],.agg [.func 66 [],.func 67 []],.agg [.func 67 [],.func 66 []],.agg [.func 66 [],.func 68 []]]) (k:=x8.Kind) (az:=.agg [.nilf,.nilf]) (a:=.agg [.func 66 [],.func 68 []]) (r:=(some 7)) Tryz.underlying116 (KeyT.int Tryz.underlying3) Ty.w114 (fun _ _ _=>eQ (vs:=[.nilFunc,.nilFunc]) (.cons (.nilf) (.cons (.nilf) (.nil))) rfl) rfl rfl rfl (bf (ne_of_beq_false hb_411) (bf (ne_of_beq_false hb_412) (bf (ne_of_beq_false hb_413) (bf (ne_of_beq_false hb_414) (bf (ne_of_beq_false hb_415) (bf (ne_of_beq_false hb_416) (bf (ne_of_beq_false hb_417) (gS (eq_of_beq hb_418))))))))) rfl (B h fun x30 hx30 h=>(Y 16 5 ?_)));obtain ⟨zt_448,hz,h⟩:=bind_some h;revert hz h;revert zt_448;intro c32 hz h;refine j1 [(1,.ptr 0 0),(4,.mpr 1),(5,.mpr 2),(6,iI s3),(7,iI s4),(8,.ptr 3 0),(60,sL ai p0.Nodes),(61,iI ((p0.Nodes).length:Int)),(62,iI s4),(116,.bool c32)] [.box (au p0),.mp (List.map kI (List.map Prod.fst s5)) (List.map kI (List.map Prod.snd s5)),.mp (List.map kI (List.map Prod.fst s6)) (List.map kI (List.map Prod.snd s6)),.box (ai x8)] ?_ (fun hK=>?_)
     ·refine T.ci h rfl (fun hb_449 h=>?_) (fun hb_449 h=>?_)
      ·refine X 5 4 ?_;replace h:=mi h hv_294;cases h;exact tO [(0,3,1)] [4] 4
      exact X 1 4 (sx (hK3 () h))
     refine X 6 6 (sQ (aj Ty.s49 rfl (sO (cF (dY hx30) ⟨rfl,(Y 2 6 (gi 108 hz (fun hb_447 hz=>?_) (fun hb_447 hz=>?_)))⟩))))
     ·refine Yp 9 6 ?_;cases hz;exact wu hK [] [0,1,2,3] 6 rfl
     refine B hz fun x31 hx31 hz=>(Y 4 6 (yQ rfl (aj Ty.s49 rfl (yO rfl (cF (qh hx31) ⟨rfl,(Yp 3 6 ?_)⟩)))))
     cases hz;exact wu hK [] [0,1,2,3] 6 rfl
    replace h:=bR h hb_418;refine sO (fk (ek:=kI) (ks:=[1,2,3,4,5,7,6,8]) (vs:=[.agg [.func 68 [],.func 66 []],.agg [.func 66 [],.func 66 []],.agg [.func 66 [],.func 66 []],.agg [.func 66 [],.func 66 []],.agg [.func 66 [],.func 67 []],.agg [.func 66 [],.func 67 []],.agg [.func 67 [],.func 66 []],.agg [.func 66 [],.func 68 []]]) (k:=x8.Kind) (az:=.agg [.nilf,.nilf]) (a:=.agg [.nilf,.nilf]) (r:=none) Tryz.underlying116 (KeyT.int Tryz.underlying3) Ty.w114 (fun _ _ _=>eQ (vs:=[.nilFunc,.nilFunc]) (.cons (.nilf) (.cons (.nilf) (.nil))) rfl) rfl rfl rfl (bf (ne_of_beq_false hb_411) (bf (ne_of_beq_false hb_412) (bf (ne_of_beq_false hb_413) (bf (ne_of_beq_false hb_414) (bf (ne_of_beq_false hb_415) (bf (ne_of_beq_false hb_416) (bf (ne_of_beq_false hb_417) (bf (ne_of_beq_false hb_418) B6)))))))) rfl (Y 19 5 ?_));replace h:=mi h hv_294;cases h;exact tO [(0,3,1)] [6] 6
   refine X 1 3 ?_;replace h:=mi h hv_294;refine X 1 3 (j1 [(1,.ptr 0 0),(4,.mpr 1),(6,iI s3),(200,.bool ((((s5).length:Int) != p0.Rings) || ((s6).length:Int) != p0.Rings))] [.box (au p0),.mp (List.map kI (List.map Prod.fst s5)) (List.map kI (List.map Prod.snd s5))] ?_ (fun hK=>?_))
   ·refine T.ci h rfl (fun hb_454 h=>?_) (fun hb_454 h=>?_)
    ·refine X 5 2 ?_;cases h;exact tO [(0,3,1)] [2] 2
    refine X 7 2 (T.ci h rfl (fun hb_455 h=>?_) (fun hb_455 h=>?_))
    ·refine X 5 2 ?_;cases h;exact tO [(0,3,1)] [2] 2
    refine X 10 2 (sQ (aj Ty.s22 rfl (Y 3 2 (itr (fun ss_532:Int × (List Int)=>mkA 249 [(1,.ptr 0 0),(4,.mpr 1),(23,.ref 2),(205,iI ((p0.Nodes).length:Int)),(206,iI ss_532.1)]) (fun ss_532=>[.box (au p0),.mp (List.map kI (List.map Prod.fst s5)) (List.map kI (List.map Prod.snd s5)),aR 3 1 ah ss_532.2]) h (wk [(23,3,1)] [0,1,2] 2 rfl) (fun ss_532 v_533 h hv_533=>?_)))));obtain ⟨s45,s46⟩:=ss_532;replace h:fb p0 s5 s45 s46=some v_533:=h;try dsimp only
    unfold fb at h;refine X 5 3 (T.ci h rfl (fun hb_534 h=>?_) (fun hb_534 h=>?_))
    ·refine X 12 3 (sQ (aj Ty.s22 rfl (Y 4 3 (itr (fun ss_557:Int × Int=>mkA 249 [(1,.ptr 0 0),(4,.mpr 1),(23,.ref 2),(24,iI ss_557.1),(25,iI ss_557.2),(205,iI ((p0.Nodes).length:Int)),(206,iI s45)]) (fun ss_557=>[.box (au p0),.mp (List.map kI (List.map Prod.fst s5)) (List.map kI (List.map Prod.snd s5)),aR 3 1 ah s46]) h (wk [] [0,1,2] 3 rfl) (fun ss_557 v_558 h hv_558=>?_)))));obtain ⟨s47,s48⟩:=ss_557;replace h:fV p0 s5 s45 s46 s47 s48=some v_558:=h;try dsimp only
     unfold fV at h;refine X 6 3 (T.ci h rfl (fun hb_559 h=>?_) (fun hb_559 h=>?_))
     ·refine B h fun x50 hx50 h=>(X 8 3 (sO (cF (qg hx50) ⟨rfl,(Y 1 3 (T.ci h rfl (fun hb_560 h=>?_) (fun hb_560 h=>?_)))⟩)))
      ·exact X 6 3 (lk h (wk [] [0,1,2] 3 rfl))
      refine B h fun x52 hx52 h=>(X 11 3 (sQ (ao Ty.s22 (fun _=>rfl) rfl rfl hx52 (Y 2 3 (sQ (aj Ty.s49 rfl (Y 3 3 (itr (fun ss_564:Bool × Int=>mkA 249 [(1,.ptr 0 0),(4,.mpr 1),(23,.ref 2),(24,iI s47),(25,iI s48),(26,.bool ss_564.1),(205,iI ((p0.Nodes).length:Int)),(206,iI s45),(224,sL ah x52.In),(225,iI ((x52.In).length:Int)),(226,iI ss_564.2)]) (fun ss_564=>[.box (au p0),.mp (List.map kI (List.map Prod.fst s5)) (List.map kI (List.map Prod.snd s5)),aR 3 1 ah s46]) h (wk [] [0,1,2] 3 rfl) (fun ss_564 v_565 h hv_565=>?_)))))))))
      obtain ⟨s53,s54⟩:=ss_564;replace h:fY s5 s46 s47 s48 x52 s53 s54=some v_565:=h;try dsimp only
      unfold fY at h;refine X 5 3 (T.ci h rfl (fun hb_566 h=>?_) (fun hb_566 h=>?_))
      ·refine B h fun x56 hx56 h=>(X 5 3 (sQ (ao Ty.s49 (fun _=>rfl) rfl rfl hx56 (Y 6 3 (gi 231 h (fun hb_567 h=>?_) (fun hb_567 h=>?_))))))
       ·exact B h fun x57 hx57 h=>(Y 3 3 (yO rfl (jT (ek:=kI) (ev:=kI) (xs:=s5) (k:=x56) (z0:=0) Tryz.underlying79 (KeyT.int Tryz.underlying3) Ty.w3 (fun _ _ _=>.int _ _) rfl rfl rfl (yO rfl (cF (qg hx57) ⟨rfl,(Yp 7 3 (lk h (wk [] [0,1,2] 3 rfl)))⟩)))))
       exact Yp 12 3 (lk h (wk [] [0,1,2] 3 rfl))
      refine X 1 3 ?_;replace h:=mi h hv_565;refine X 4 3 (T.ci h rfl (fun hb_569 h=>?_) (fun hb_569 h=>?_))
      ·exact X 9 3 (lk h (wk [] [0,1,2] 3 rfl))
      exact X 6 3 (lk h (wk [] [0,1,2] 3 rfl))
     refine X 1 3 ?_;replace h:=mi h hv_558;refine X 6 3 (T.ci h rfl (fun hb_571 h=>?_) (fun hb_571 h=>?_))
     ·refine X 5 3 ?_;replace h:=mi h hv_533;cases h;exact tO [(0,3,1)] [3] 3
     exact B h fun x58 hx58 h=>(X 4 3 (sO (aM (rows:=List.map ah [s47]) (vs:=[iI s47]) Ty.s49 Ty.z3 rfl rfl rfl rfl rfl rfl (sO (bG (en:=ah) (xs:=s46) (ys:=([s47]:List Int)) Ty.s49 (fun _=>rfl) rfl rfl rfl hx58 rfl rfl (Y 6 5 (lk h (wk [] [0,1,4] 5 rfl))))))))
    refine X 1 3 ?_;replace h:=mi h hv_533;refine X 6 3 ?_;cases h;exact tO [] [2] 3
   refine X 3 3 (sO (uh (ek:=kI) (ev:=kI) (xs:=s5) Tryz.underlying79 rfl rfl (Y 4 3 (gp 194 (fun hb_453=>?_) (fun hb_453=>?_)))))
   ·refine Yp 7 3 ?_;rw [hb_453] at hK;exact wu hK [] [0,1] 3 rfl
   refine Y 1 3 (yO rfl (uh (ek:=kI) (ev:=kI) (xs:=s6) Tryz.underlying79 rfl rfl (Yp 5 3 ?_)));rw [hb_453] at hK;exact wu hK [] [0,1] 3 rfl
  refine X 6 1 (gp 52 (fun hb_5=>?_) (fun hb_5=>?_))
  ·refine Yp 5 1 ?_;rw [hb_5] at hK;exact sx hK
  refine Yp 5 1 ?_;rw [hb_5] at hK;exact sx hK
 refine X 4 1 (sQ (aj Ty.s22 rfl (Y 2 1 (gp 33 (fun hb_1=>?_) (fun hb_1=>?_)))))
 ·refine Yp 16 1 ?_;rw [hb_1] at hK;exact sx hK
 refine Y 2 1 (yQ rfl (aj Ty.s22 rfl (Yp 3 1 (gp 39 (fun hb_2=>?_) (fun hb_2=>?_)))))
 ·refine Yp 10 1 ?_;rw [hb_1] at hK;rw [hb_2] at hK;exact sx hK
 refine Yp 5 1 (gp 44 (fun hb_3=>?_) (fun hb_3=>?_))
 ·refine Yp 5 1 ?_;rw [hb_1] at hK;rw [hb_2] at hK;rw [hb_3] at hK;exact sx hK
 refine Yp 5 1 ?_;rw [hb_1] at hK;rw [hb_2] at hK;rw [hb_3] at hK;exact sx hK
theorem wZ {p0:Net} {p1:List (List Item)} {r:Int} (h:kz p0 p1=some r):Fn Tryz.prog 9 [.agg (au p0),sL (ae aa) p1] (iI r):=by
 unfold kz at h;refine fT 0 0 Tryz.func9 Tryz.ntmps9 rfl ?_;refine B h fun x2 hx2 h=>(X 9 0 (sO (cO 1 (xb hx2) ⟨rfl,(Y 11 2 (T.ci h rfl (fun hb_1 h=>?_) (fun hb_1 h=>?_)))⟩)))
 ·refine X 5 2 ?_;cases h;exact tD
 refine X 5 2 (sQ (aj Ty.s25 rfl (Y 2 2 (T.ci h rfl (fun hb_2 h=>?_) (fun hb_2 h=>?_)))))
 ·refine X 4 2 ?_;cases h;exact tD
 refine X 5 2 (sQ (aj Ty.s25 rfl (Y 3 2 (itr (fun ss_27:Int=>mkA 72 [(1,sL (ae aa) p1),(2,.ptr 0 0),(25,sL (ae aa) p1),(26,iI ((p1).length:Int)),(27,iI ss_27)]) (fun ss_27=>[.box (au p0)]) h (wk [] [0] 2 rfl) (fun ss_27 v_28 h hv_28=>?_)))));revert hv_28 h;revert ss_27;intro s3 h hv_28;replace h:iZ p0 p1 s3=some v_28:=h;try dsimp only
 unfold iZ at h;refine X 5 1 (T.ci h rfl (fun hb_29 h=>?_) (fun hb_29 h=>?_))
 ·refine B h fun x5 hx5 h=>(X 5 1 (sQ (ao Ty.s25 (fun _=>rfl) rfl rfl hx5 (Y 7 1 (sQ (aj Ty.s26 rfl (Y 2 1 (T.ci h rfl (fun hb_30 h=>?_) (fun hb_30 h=>?_)))))))))
  ·refine X 4 1 ?_;replace h:=mi h hv_28;cases h;exact tD
  refine X 4 1 (sQ (aj Ty.s26 rfl (Y 3 1 (itr (fun ss_36:Int=>mkA 72 [(1,sL (ae aa) p1),(2,.ptr 0 0),(25,sL (ae aa) p1),(26,iI ((p1).length:Int)),(27,iI s3),(34,sL aa x5),(35,iI ((x5).length:Int)),(36,iI ss_36)]) (fun ss_36=>[.box (au p0)]) h (wk [] [0] 1 rfl) (fun ss_36 v_37 h hv_37=>?_)))));revert hv_37 h;revert ss_36;intro s6 h hv_37;replace h:i6 s3 x5 s6=some v_37:=h;try dsimp only
  unfold i6 at h;refine X 5 1 (T.ci h rfl (fun hb_38 h=>?_) (fun hb_38 h=>?_))
  ·refine B h fun x8 hx8 h=>(X 5 1 (sQ (ao Ty.s26 (fun _=>rfl) rfl rfl hx8 (Y 10 1 (T.ci h rfl (fun hb_39 h=>?_) (fun hb_39 h=>?_))))))
   ·refine X 4 2 ?_;replace h:=mi h hv_37;replace h:=mi h hv_28;cases h;exact tD
   exact X 5 2 (lk h (wk [] [0] 2 rfl))
  refine X 1 1 ?_;replace h:=mi h hv_37;exact X 4 1 (lk h (wk [] [0] 1 rfl))
 refine X 1 1 ?_;replace h:=mi h hv_28;refine X 2 1 (sO (im rfl rfl (Y 7 2 (sQ (aj Ty.s22 rfl (Y 3 2 (itr (fun ss_52:Int × (List (Int × Int))=>mkA 72 [(1,sL (ae aa) p1),(11,.mpr 0),(47,sL ai p0.Nodes),(48,iI ((p0.Nodes).length:Int)),(49,iI ss_52.1)]) (fun ss_52=>[.mp (List.map kI (List.map Prod.fst ss_52.2)) (List.map kI (List.map Prod.snd ss_52.2))]) h (wk [] [1] 2 rfl) (fun ss_52 v_53 h hv_53=>?_))))))));obtain ⟨s9,s10⟩:=ss_52;replace h:fR p0 p1 s9 s10=some v_53:=h;try dsimp only
 unfold fR at h;refine X 5 1 (T.ci h rfl (fun hb_54 h=>?_) (fun hb_54 h=>?_))
 ·refine B h fun x12 hx12 h=>(X 5 1 (sQ (ao Ty.s22 (fun _=>rfl) rfl rfl hx12 (Y 10 1 (T.ci h rfl (fun hb_55 h=>?_) (fun hb_55 h=>?_))))))
  ·refine X 6 2 (sQ (aj Ty.s25 rfl (Y 2 2 (T.ci h rfl (fun hb_56 h=>?_) (fun hb_56 h=>?_)))))
   ·refine X 4 2 ?_;replace h:=mi h hv_53;cases h;exact tD
   refine X 6 2 (sO (jT (ek:=kI) (ev:=kI) (xs:=s10) (k:=x12.A) (z0:=0) Tryz.underlying79 (KeyT.int Tryz.underlying3) Ty.w3 (fun _ _ _=>.int _ _) rfl rfl rfl (Y 1 2 (sO (iE (ek:=kI) (ev:=kI) (xs:=s10) (k:=x12.A) (a:=(IntKind.i64.wrap (((mget x12.A s10).getD 0)+1))) (.inl rfl) Tryz.underlying79 (KeyT.int Tryz.underlying3) rfl rfl rfl rfl rfl (Y 6 2 (sO (jT (ek:=kI) (ev:=kI) (xs:=(mset x12.A (IntKind.i64.wrap (((mget x12.A s10).getD 0)+1)) s10)) (k:=x12.A) (z0:=0) Tryz.underlying79 (KeyT.int Tryz.underlying3) Ty.w3 (fun _ _ _=>.int _ _) rfl rfl rfl (Y 2 2 (T.ci h rfl (fun hb_58 h=>?_) (fun hb_58 h=>?_)))))))))))
   ·refine X 4 2 ?_;replace h:=mi h hv_53;cases h;exact tD
   exact X 5 2 (lk h (wk [] [0] 2 rfl))
  exact X 5 2 (lk h (wk [] [0] 2 rfl))
 refine X 1 1 ?_;replace h:=mi h hv_53;refine X 4 1 ?_;cases h;exact tD
theorem xu {p0:Net} {p1:List (List Item)} {r:State} (h:kL p0 p1=some r):Fn Tryz.prog 41 [.agg (au p0),sL (ae aa) p1] (.agg (aH r)):=by
 unfold kL at h;refine fT 0 0 Tryz.func41 Tryz.ntmps41 rfl ?_;refine B h fun x4 hx4 h=>(B h fun x5 hx5 h=>(B h fun x6 hx6 h=>(X 6 0 (T.drawn mixed (k:=12) rfl ?_))))
 apply RA.jn 1 (bm 12 2047);intro hS1;apply RA.jn 3 (bm 12 991);intro hS2;apply RA.jn 3 (bm 12 1019);intro hS3;apply RA.jn 3 (bm 12 511);intro hS4;apply RA.jn 4 (bm 12 975);intro hS5;apply RA.jn 4 (bm 12 987);intro hS6;apply RA.jn 4 (bm 12 479);intro hS7;apply RA.jn 4 (bm 12 507);intro hS8;apply RA.jn 5 (bm 12 463);intro hS9;apply RA.jn 5 (bm 12 475);intro hS10;apply RA.jn 5 (bm 12 127);intro hS11;apply RA.jn 6 (bm 12 95);intro hS12
 ·refine rq [0] 11 (r0 1 rfl (aj Ty.s25 rfl (rq [3,6] 8 (ra3 2 4 7 ?_ ?_ ?_))))
  ·refine oO rfl (cz (en:=ah) (zr:=0) Ty.s49 Ty.z3 rfl rfl hx4 rfl rfl (ra2 4 7 ?_ ?_))
   ·exact og 3 ⟨rfl,(raE hS12)⟩
   ·exact og 3 ⟨rfl,(r0 8 rfl (aj Ty.s22 rfl (raE hS9)))⟩
  ·refine og 2 ⟨rfl,(ra3 2 5 7 ?_ ?_ ?_)⟩
   ·exact oO rfl (cz (en:=ah) (zr:=0) Ty.s49 Ty.z3 rfl rfl hx4 rfl rfl (raT hS12))
   ·refine oO rfl (b7 (en:=(ae aa)) (zr:=([]:List Item)) Ty.s25 Ty.z26 ⟨.inr ⟨rfl,rfl⟩,trivial⟩ rfl rfl hx5 rfl rfl (ra2 2 7 ?_ ?_))
    ·exact oO rfl (cz (en:=ah) (zr:=0) Ty.s49 Ty.z3 rfl rfl hx4 rfl rfl (raE hS11))
    ·exact og 3 ⟨rfl,(r0 8 rfl (aj Ty.s22 rfl (raE hS8)))⟩
   ·exact og 2 ⟨rfl,(r0 8 rfl (aj Ty.s22 rfl (raE hS10)))⟩
  ·refine og 2 ⟨rfl,(r0 8 rfl (aj Ty.s22 rfl (ra3 2 4 9 ?_ ?_ ?_)))⟩
   ·exact oO rfl (cz (en:=ah) (zr:=0) Ty.s49 Ty.z3 rfl rfl hx4 rfl rfl (raT hS9))
   ·exact og 2 ⟨rfl,(raT hS10)⟩
   ·refine oO rfl (b7 (en:=am) (zr:=(⟨0,[],0⟩:Memory)) Ty.s50 Ty.z122 ⟨.inl rfl,.inr ⟨rfl,rfl⟩,.inl rfl,trivial⟩ rfl rfl hx6 rfl rfl (ra2 2 4 ?_ ?_))
    ·exact oO rfl (cz (en:=ah) (zr:=0) Ty.s49 Ty.z3 rfl rfl hx4 rfl rfl (raE hS5))
    ·exact og 3 ⟨rfl,(raE hS6)⟩
 ·refine ra2 5 7 ?_ ?_
  ·exact oO rfl (b7 (en:=(ae aa)) (zr:=([]:List Item)) Ty.s25 Ty.z26 ⟨.inr ⟨rfl,rfl⟩,trivial⟩ rfl rfl hx5 rfl rfl (raV hS11 [0,1,3,2] rfl))
  ·exact og 3 ⟨rfl,(r0 8 rfl (aj Ty.s22 rfl (raE hS7)))⟩
 ·exact ra1 7 (og 4 ⟨rfl,(r0 8 rfl (aj Ty.s22 rfl (raE hS4)))⟩)
 ·refine ra3 2 5 9 ?_ ?_ ?_
  ·exact oO rfl (cz (en:=ah) (zr:=0) Ty.s49 Ty.z3 rfl rfl hx4 rfl rfl (raT hS7))
  ·exact oO rfl (b7 (en:=(ae aa)) (zr:=([]:List Item)) Ty.s25 Ty.z26 ⟨.inr ⟨rfl,rfl⟩,trivial⟩ rfl rfl hx5 rfl rfl (raT hS8))
  ·exact oO rfl (b7 (en:=am) (zr:=(⟨0,[],0⟩:Memory)) Ty.s50 Ty.z122 ⟨.inl rfl,.inr ⟨rfl,rfl⟩,.inl rfl,trivial⟩ rfl rfl hx6 rfl rfl (raT hS6))
 ·refine ra2 4 9 ?_ ?_
  ·exact og 3 ⟨rfl,(raT hS7)⟩
  ·exact oO rfl (b7 (en:=am) (zr:=(⟨0,[],0⟩:Memory)) Ty.s50 Ty.z122 ⟨.inl rfl,.inr ⟨rfl,rfl⟩,.inl rfl,trivial⟩ rfl rfl hx6 rfl rfl (raV hS5 [0,1,3,2] rfl))
 ·refine ra2 2 9 ?_ ?_
  ·exact oO rfl (cz (en:=ah) (zr:=0) Ty.s49 Ty.z3 rfl rfl hx4 rfl rfl (raT hS4))
  ·exact oO rfl (b7 (en:=am) (zr:=(⟨0,[],0⟩:Memory)) Ty.s50 Ty.z122 ⟨.inl rfl,.inr ⟨rfl,rfl⟩,.inl rfl,trivial⟩ rfl rfl hx6 rfl rfl (raE hS3))
 ·refine ra2 5 9 ?_ ?_
  ·exact oO rfl (b7 (en:=(ae aa)) (zr:=([]:List Item)) Ty.s25 Ty.z26 ⟨.inr ⟨rfl,rfl⟩,trivial⟩ rfl rfl hx5 rfl rfl (raV hS4 [0,1,3,2] rfl))
  ·exact oO rfl (b7 (en:=am) (zr:=(⟨0,[],0⟩:Memory)) Ty.s50 Ty.z122 ⟨.inl rfl,.inr ⟨rfl,rfl⟩,.inl rfl,trivial⟩ rfl rfl hx6 rfl rfl (raE hS2))
 ·refine ra2 2 5 ?_ ?_
  ·exact oO rfl (cz (en:=ah) (zr:=0) Ty.s49 Ty.z3 rfl rfl hx4 rfl rfl (raV hS2 [0,1,3,2] rfl))
  ·exact oO rfl (b7 (en:=(ae aa)) (zr:=([]:List Item)) Ty.s25 Ty.z26 ⟨.inr ⟨rfl,rfl⟩,trivial⟩ rfl rfl hx5 rfl rfl (raV hS3 [0,1,3,2] rfl))
 ·exact ra1 4 (og 4 ⟨rfl,(raV hS2 [0,1,3,2] rfl)⟩)
 ·exact ra1 9 (oO rfl (b7 (en:=am) (zr:=(⟨0,[],0⟩:Memory)) Ty.s50 Ty.z122 ⟨.inl rfl,.inr ⟨rfl,rfl⟩,.inl rfl,trivial⟩ rfl rfl hx6 rfl rfl (rq [10] 1 (raE hS1))))
 ·exact ra1 2 (oO rfl (cz (en:=ah) (zr:=0) Ty.s49 Ty.z3 rfl rfl hx4 rfl rfl (rq [10] 1 (raV hS1 [0,1,2,4,3] rfl))))
 ·exact ra1 5 (oO rfl (b7 (en:=(ae aa)) (zr:=([]:List Item)) Ty.s25 Ty.z26 ⟨.inr ⟨rfl,rfl⟩,trivial⟩ rfl rfl hx5 rfl rfl (rq [10] 1 (raV hS1 [0,1,4,2,3] rfl))))
 refine ra1 11 (og 5 ⟨rfl,(RA.done (by decide +kernel) ?_)⟩);cases h;exact tD
theorem xc {p0:State} {r:State × (List (Bool × List Item))} (h:kG p0=some r):FnO Tryz.prog 70 [.agg (aH p0)] (.agg [.ref 0,.ref 1,.ref 3,.ref 4,.ref 5]) [aR 3 1 ah r.1.At,.hd 26 2,.cl 39 3 (cL aa r.2),aR 122 3 am r.1.Memory,aR 119 2 aF r.1.Choices,aR 39 3 aa r.1.Out]:=by
 unfold kG at h;refine fT 0 0 Tryz.func70 Tryz.ntmps70 rfl ?_;refine B h fun x4 hx4 h=>(B h fun x5 hx5 h=>(B h fun x6 hx6 h=>(X 6 0 (T.drawn mixed (k:=12) rfl ?_))))
 apply RA.jn 1 (bm 12 2047);intro hS1;apply RA.jn 3 (bm 12 1279);intro hS2;apply RA.jn 4 (bm 12 1247);intro hS3;apply RA.jn 4 (bm 12 255);intro hS4;apply RA.jn 5 (bm 12 1119);intro hS5;apply RA.jn 5 (bm 12 1243);intro hS6;apply RA.jn 5 (bm 12 223);intro hS7;apply RA.jn 6 (bm 12 95);intro hS8;apply RA.jn 6 (bm 12 1115);intro hS9;apply RA.jn 6 (bm 12 1227);intro hS10;apply RA.jn 6 (bm 12 219);intro hS11
 ·refine rq [0,3,6] 9 (rL [1,2,5,8,9,11] 1 rfl (ra4 2 4 7 10 ?_ ?_ ?_ ?_))
  ·exact oO rfl (cO 2 (bP hx4) ⟨rfl,(rL [4,5,8,9,11] 4 rfl (raE hS8))⟩)
  ·refine og 2 ⟨rfl,(ra3 2 7 10 ?_ ?_ ?_)⟩
   ·exact oO rfl (cO 2 (bP hx4) ⟨rfl,(raT hS8)⟩)
   ·exact og 2 ⟨rfl,(raE hS11)⟩
   ·exact og 2 ⟨rfl,(raE hS9)⟩
  ·refine og 2 ⟨rfl,(ra3 2 4 10 ?_ ?_ ?_)⟩
   ·exact oO rfl (cO 2 (bP hx4) ⟨rfl,(rL [4,5,8,9,11] 4 rfl (raE hS7))⟩)
   ·exact og 2 ⟨rfl,(raT hS11)⟩
   ·exact og 2 ⟨rfl,(raE hS10)⟩
  ·refine og 2 ⟨rfl,(ra3 2 4 7 ?_ ?_ ?_)⟩
   ·exact oO rfl (cO 3 (bP hx4) ⟨rfl,(rL [4,5,8,9,11] 4 rfl (raE hS5))⟩)
   ·exact og 3 ⟨rfl,(raT hS9)⟩
   ·exact og 3 ⟨rfl,(raT hS10)⟩
 ·refine ra2 2 10 ?_ ?_
  ·exact oO rfl (cO 2 (bP hx4) ⟨rfl,(raT hS7)⟩)
  ·exact og 2 ⟨rfl,(raE hS6)⟩
 ·refine ra2 2 4 ?_ ?_
  ·exact oO rfl (cO 3 (bP hx4) ⟨rfl,(ra1 4 (og 4 ⟨rfl,(raE hS3)⟩))⟩)
  ·exact og 3 ⟨rfl,(raT hS6)⟩
 ·refine ra2 2 7 ?_ ?_
  ·exact oO rfl (cO 3 (bP hx4) ⟨rfl,(raT hS5)⟩)
  ·exact og 3 ⟨rfl,(raT hS6)⟩
 ·refine ra3 5 7 10 ?_ ?_ ?_
  ·exact oO rfl (cO 3 (kC hx5) ⟨rfl,(rL [7,8,9,11] 7 rfl (raE hS4))⟩)
  ·exact og 3 ⟨rfl,(raT hS7)⟩
  ·exact og 3 ⟨rfl,(raV hS5 [0,1,3,2] rfl)⟩
 ·refine ra2 5 10 ?_ ?_
  ·exact oO rfl (cO 3 (kC hx5) ⟨rfl,(raT hS4)⟩)
  ·exact og 3 ⟨rfl,(raV hS3 [0,1,3,2] rfl)⟩
 ·exact ra1 2 (oO rfl (cO 3 (bP hx4) ⟨rfl,(raT hS3)⟩))
 ·refine ra2 5 7 ?_ ?_
  ·exact oO rfl (cO 4 (kC hx5) ⟨rfl,(ra1 7 (og 5 ⟨rfl,(raE hS2)⟩))⟩)
  ·exact og 4 ⟨rfl,(raT hS3)⟩
 ·refine ra2 8 10 ?_ ?_
  ·exact oO rfl (cO 4 (dy hx6) ⟨rfl,(rq [9] 2 (ra1 10 (og 5 ⟨rfl,(raE hS1)⟩)))⟩)
  ·exact og 4 ⟨rfl,(raV hS2 [0,1,4,2,3] rfl)⟩
 ·exact ra1 5 (oO rfl (cO 4 (kC hx5) ⟨rfl,(raT hS2)⟩))
 ·exact ra1 8 (oO rfl (cO 5 (dy hx6) ⟨rfl,(rq [9] 1 (raV hS1 [0,1,3,4,5,2] rfl))⟩))
 refine ra1 11 (og 6 ⟨rfl,(RA.done (by decide +kernel) (X 5 6 (sQ (aj Ty.s25 rfl (Y 3 6 (T.nilB 5 1 26 1 (cs:=[.ref 2,.nils,.nils,.ref 3,.ref 4]) rfl rfl (cs':=[.ref 2,.ref 6,.nils,.ref 3,.ref 4]) rfl rfl (T.mkhd 6 39 3 aa rfl rfl rfl (itr (fun ss_18:Int × (List (Bool × List Item))=>mkA 52 [(1,.ptr 0 0),(2,.ptr 1 0),(3,.ptr 2 0),(19,sL (ae aa) p0.Rings),(20,iI ((p0.Rings).length:Int)),(21,iI ss_18.1)]) (fun ss_18=>[.box (aH p0),.box [.nils,.nils,.nils,.nils,.nils],.box [.ref 3,.ref 4,.nils,.ref 5,.ref 6],aR 3 1 ah x4,.hd 26 7,aR 119 2 aF x5,aR 39 3 aa x6,.cl 39 3 (cL aa ss_18.2)]) h (wk [] [0,1,5,2,6,3,4,7] 8 rfl) (fun ss_18 v_19 h hv_19=>?_)))))))))⟩);obtain ⟨s7,s8⟩:=ss_18;replace h:fU p0 x4 x5 x6 s7 s8=some v_19:=h;try dsimp only
 unfold fU at h;refine X 5 8 (T.ci h rfl (fun hb_20 h=>?_) (fun hb_20 h=>?_))
 ·refine B h fun x10 hx10 h=>(X 5 8 (sQ (ao Ty.s25 (fun _=>rfl) rfl rfl hx10 (B h fun x11 hx11 h=>(B h fun x12 hx12 h=>(Y 3 8 (T.drawn mixed (k:=8) rfl ?_)))))))
  apply RA.jn 4 (bm 8 15);intro hS21
  ·refine rq [0,2] 6 (ra2 1 3 ?_ ?_)
   ·exact og 8 ⟨rfl,(ra1 3 (oO rfl (cO 8 (dy hx11) ⟨rfl,(raE hS21)⟩)))⟩
   ·exact oO rfl (cO 8 (dy hx11) ⟨rfl,(rL [1,5,6,7] 1 rfl (raT hS21))⟩)
  exact ra1 4 (oO rfl (Cg (en:=aa) (xs:=x11) Ty.s25 rfl (fun _=>rfl) rfl rfl rfl rfl (ra1 5 (oO rfl (CN (en:=aa) (xs:=s8) (ys:=([(false,x11)]:List (Bool × List Item))) Ty.s25 rfl rfl rfl rfl rfl rfl rfl rfl hx12 rfl rfl rfl (rq [6] 1 (ra1 7 (og 13 ⟨rfl,(RA.done (by decide +kernel) (X 4 13 (lk h (wk [] [0,1,2,3,11,5,6,12] 13 rfl))))⟩))))))))
 refine X 1 8 ?_;replace h:=mi h hv_19;refine X 5 8 (sQ (aj Ty.s50 rfl (Y 3 8 (nB 2 2 122 3 8 (itr (fun ss_26:Int × (List Memory)=>mkA 52 [(2,.ptr 0 0),(3,.ptr 1 0),(34,sL am p0.Memory),(35,iI ((p0.Memory).length:Int)),(36,iI ss_26.1)]) (fun ss_26=>[.box [.nils,.nils,.nils,.nils,.nils],.box [.ref 2,.ref 3,.ref 4,.ref 5,.ref 6],aR 3 1 ah x4,.hd 26 7,aR 122 3 am ss_26.2,aR 119 2 aF x5,aR 39 3 aa x6,.cl 39 3 (cL aa s8)]) h (wk [] [1,2,3,4,8,5,6,7] 9 rfl) (fun ss_26 v_27 h hv_27=>?_))))));obtain ⟨s13,s14⟩:=ss_26;replace h:fW p0 x4 x5 x6 s8 s13 s14=some v_27:=h;try dsimp only
 unfold fW at h;refine X 5 8 (T.ci h rfl (fun hb_28 h=>?_) (fun hb_28 h=>?_))
 ·refine B h fun x16 hx16 h=>(X 5 8 (sQ (ao Ty.s50 (fun _=>rfl) rfl rfl hx16 (B h fun x18 hx18 h=>(Y 8 8 (sO (cO 9 (qi hx18) ⟨rfl,(B h fun x19 hx19 h=>(Y 7 10 (RS.fC 9 (sO (aM (rows:=List.map am [(⟨x16.Sum,x18,x16.Dep⟩:Memory)]) (vs:=[.agg [iI x16.Sum,sL aq x18,iI x16.Dep]]) Ty.s50 Ty.z122 rfl rfl rfl rfl rfl rfl ?_)))))⟩)))))))
  exact sO (bG (en:=am) (xs:=s14) (ys:=([(⟨x16.Sum,x18,x16.Dep⟩:Memory)]:List Memory)) Ty.s50 (fun _=>rfl) rfl rfl rfl hx19 rfl rfl (Y 7 12 (lk h (wk [] [0,1,2,3,11,5,6,7] 12 rfl))))
 refine X 1 8 ?_;replace h:=mi h hv_27;refine X 5 8 ?_;cases h;exact tO [] [2,3,7,4,5,6] 8
theorem qm {p0:Item} {p1 r:Int} (h:kQ p0 p1=some r):Fn Tryz.prog 71 [.agg (aa p0),iI p1] (iI r):=by
 unfold kQ at h;refine fT 0 0 Tryz.func71 Tryz.ntmps71 rfl ?_;refine B h fun x2 hx2 h=>(X 10 0 (sQ (v_rem rfl rfl hx2 (Y 8 1 (T.ci h rfl (fun hb_1 h=>?_) (fun hb_1 h=>?_))))))
 ·refine X 11 1 ?_;cases h;exact tD
 refine X 6 1 ?_;cases h;exact tD
theorem xH {p0:List Keyed} {p1 p2:Int} {r:List Keyed} (h:om p0 p1 p2=some r):FnX Tryz.prog 105 [.ifc 120 (.ref 0),.func 106 [.ptr 1 0]] [aR 161 2 aq p0,.box [iI p1,.ref 0,iI p2]] (.tup []) [aR 161 2 aq r,.box [iI p1,.ref 0,iI p2]]:=CD p0 r p1 p2 h
theorem mr {p0 p1:Int} {p2:Memory} {p3:Item} {r:Memory × Item × Int} (h:hT p0 p1 p2 p3=some r):Fn Tryz.prog 72 [iI p0,iI p1,.agg (am p2),.agg (aa p3)] (.tup [.agg (am r.1),.agg (aa r.2.1),iI r.2.2]):=by
 unfold hT at h;refine fT 0 0 Tryz.func72 Tryz.ntmps72 rfl ?_;refine B h fun x2 hx2 h=>(X 12 0 (sO (yU (en:=aq) (ys:=p2.Keys) Ty.s120 (fun _=>rfl) rfl rfl hx2 rfl rfl (Y 14 5 (T.ci h rfl (fun hb_1 h=>?_) (fun hb_1 h=>?_))))))
 ·refine X 10 5 (T.ci h rfl (fun hb_2 h=>?_) (fun hb_2 h=>?_))
  ·refine X 8 5 (T.drawn mixed (k:=5) rfl ?_);apply RA.jn 2 (bm 5 7);intro hS3
   ·refine rL [0,2,3,4] 0 rfl (ra2 1 2 ?_ ?_)
    ·exact og 5 ⟨rfl,(ra1 2 (og 5 ⟨rfl,(raE hS3)⟩))⟩
    ·exact og 5 ⟨rfl,(ra1 1 (og 5 ⟨rfl,(raT hS3)⟩))⟩
   refine ra1 3 (og 5 ⟨rfl,(rq [4] 0 (RA.done (by decide +kernel) ?_))⟩);cases h;exact tD
  refine X 5 5 (T.ci h rfl (fun hb_4 h=>?_) (fun hb_4 h=>?_))
  ·refine X 10 5 (T.drawn mixed (k:=5) rfl ?_);apply RA.jn 2 (bm 5 7);intro hS5
   ·refine rL [0,2,3,4] 0 rfl (ra2 1 2 ?_ ?_)
    ·exact og 5 ⟨rfl,(ra1 2 (og 5 ⟨rfl,(raE hS5)⟩))⟩
    ·exact og 5 ⟨rfl,(ra1 1 (og 5 ⟨rfl,(raT hS5)⟩))⟩
   refine ra1 3 (og 5 ⟨rfl,(rq [4] 0 (RA.done (by decide +kernel) ?_))⟩);cases h;exact tD
  refine X 5 5 (T.ci h rfl (fun hb_6 h=>?_) (fun hb_6 h=>?_))
  ·refine X 8 5 (T.drawn mixed (k:=5) rfl ?_);apply RA.jn 2 (bm 5 7);intro hS7
   ·refine rL [0,2,3,4] 0 rfl (ra2 1 2 ?_ ?_)
    ·exact og 5 ⟨rfl,(ra1 2 (og 5 ⟨rfl,(raE hS7)⟩))⟩
    ·exact og 5 ⟨rfl,(ra1 1 (og 5 ⟨rfl,(raT hS7)⟩))⟩
   refine ra1 3 (og 5 ⟨rfl,(rq [4] 0 (RA.done (by decide +kernel) ?_))⟩);cases h;exact tD
  refine X 5 5 (T.ci h rfl (fun hb_8 h=>?_) (fun hb_8 h=>?_))
  ·refine X 10 5 (T.drawn mixed (k:=5) rfl ?_);apply RA.jn 2 (bm 5 7);intro hS9
   ·refine rL [0,2,3,4] 0 rfl (ra2 1 2 ?_ ?_)
    ·exact og 5 ⟨rfl,(ra1 2 (og 5 ⟨rfl,(raE hS9)⟩))⟩
    ·exact og 5 ⟨rfl,(ra1 1 (og 5 ⟨rfl,(raT hS9)⟩))⟩
   refine ra1 3 (og 5 ⟨rfl,(rq [4] 0 (RA.done (by decide +kernel) ?_))⟩);cases h;exact tD
  refine X 8 5 ?_;cases h;exact tD
 refine X 5 5 (T.ci h rfl (fun hb_10 h=>?_) (fun hb_10 h=>?_))
 ·refine X 34 5 (T.drawn mixed (k:=5) rfl ?_);apply RA.jn 2 (bm 5 7);intro hS11
  ·refine rL [0,2,3,4] 0 rfl (ra2 1 2 ?_ ?_)
   ·exact og 5 ⟨rfl,(ra1 2 (og 5 ⟨rfl,(raE hS11)⟩))⟩
   ·exact og 5 ⟨rfl,(ra1 1 (og 5 ⟨rfl,(raT hS11)⟩))⟩
  refine ra1 3 (og 5 ⟨rfl,(rq [4] 0 (RA.done (by decide +kernel) ?_))⟩);cases h;exact tD
 refine X 5 5 (T.ci h rfl (fun hb_12 h=>?_) (fun hb_12 h=>?_))
 ·refine X 26 5 (sQ (bt (en:=aq) Ty.s120 rfl rfl (Y 3 5 (itr (fun ss_17:Int × Int=>mkA 147 [(6,.ptr 0 0),(7,.ptr 1 0),(8,.ptr 2 0),(9,.ptr 3 0),(11,iI ss_17.1),(86,.ref 4),(87,iI ((x2).length:Int)),(88,iI ss_17.2)]) (fun ss_17=>[.box [iI p2.Sum,.ref 4,iI (if p3.Dep > p2.Dep then p3.Dep else p2.Dep)],.box [iI p3.Key,iI p3.Val,iI (if p3.Dep > p2.Dep then p3.Dep else p2.Dep)],.box [iI 0,.nils,iI 0],.box [iI 0,iI 0,iI 0],aR 161 2 aq x2]) h (wk [] [0,1,2,3,4] 5 rfl) (fun ss_17 v_18 h hv_18=>?_)))));obtain ⟨s3,s4⟩:=ss_17;replace h:dA p2 x2 p3 s3 s4=some v_18:=h;try dsimp only
  unfold dA at h;refine X 5 5 (T.ci h rfl (fun hb_19 h=>?_) (fun hb_19 h=>?_))
  ·refine B h fun x7 hx7 h=>(B h fun x8 hx8 h=>(X 6 5 (sQ (aA (en:=aq) Ty.s120 rfl rfl rfl hx7 (sO (aB (en:=aq) (a:=x8) rfl rfl hx8 (cm Ty.k161 Ty.c161 rfl (cs:=(aq x8)) rfl (Y 12 5 (T.ci h rfl (fun hb_20 h=>?_) (fun hb_20 h=>?_))))))))))
   ·exact X 8 6 (lk h (wk [] [0,1,2,3,4] 6 rfl))
   exact X 5 6 (lk h (wk [] [0,1,2,3,4] 6 rfl))
  refine X 1 5 ?_;replace h:=mi h hv_18;refine X 12 5 (T.ci h rfl (fun hb_22 h=>?_) (fun hb_22 h=>?_))
  ·refine B h fun x13 hx13 h=>(B h fun x14 hx14 h=>(B h fun x15 hx15 h=>(B h fun x16 hx16 h=>(X 5 5 (sQ (aA (en:=aq) Ty.s120 rfl rfl rfl hx13 (Y 1 5 (sO (aB (en:=aq) (a:=x14) rfl rfl hx14 (aE Ty.k3 (c:=iI x14.N) rfl (Y 1 5 (sQ (aA (en:=aq) Ty.s120 rfl rfl rfl hx15 ?_)))))))))))))
   refine Y 1 5 (sO (cB (en:=aq) (a:=x16) (a':=(⟨x16.Key,IntKind.i64.wrap (x14.N+1)⟩:Keyed)) Ty.c3 Ty.i3 rfl (vs:=[iI (IntKind.i64.wrap (x14.N+1))]) rfl rfl rfl hx16 rfl rfl rfl (B h fun x17 hx17 h=>(B h fun x18 hx18 h=>(Y 5 5 (sQ (aA (en:=aq) Ty.s120 rfl rfl rfl hx17 (Y 1 5 (sO (aB (en:=aq) (a:=x18) rfl rfl hx18 (aE Ty.k3 (c:=iI x18.N) rfl (Y 4 5 (T.drawn mixed (k:=5) rfl ?_)))))))))))));apply RA.jn 2 (bm 5 7);intro hS23
   ·refine rL [0,2,3,4] 0 rfl (ra2 1 2 ?_ ?_)
    ·exact og 5 ⟨rfl,(ra1 2 (og 5 ⟨rfl,(raE hS23)⟩))⟩
    ·exact og 5 ⟨rfl,(ra1 1 (og 5 ⟨rfl,(raT hS23)⟩))⟩
   refine ra1 3 (og 5 ⟨rfl,(rq [4] 0 (RA.done (by decide +kernel) ?_))⟩);cases h;exact tD
  refine X 4 5 (sQ (bt (en:=aq) Ty.s120 rfl rfl (Y 3 5 (T.ci h rfl (fun hb_24 h=>?_) (fun hb_24 h=>?_)))))
  ·refine B h fun x20 hx20 h=>(X 7 5 (sO (aM (rows:=List.map aq [(⟨p3.Key,1⟩:Keyed)]) (vs:=[.agg [iI p3.Key,iI 1]]) Ty.s120 Ty.z161 rfl rfl rfl rfl rfl rfl (sO (bG (en:=aq) (xs:=x2) (ys:=([(⟨p3.Key,1⟩:Keyed)]:List Keyed)) Ty.s120 (fun _=>rfl) rfl rfl rfl hx20 rfl rfl (B h fun x22 hx22 h=>(Y 7 7 (sO (zE Tryz.underlying120 rfl rfl (Y 1 7 (sO (By (aw2:=[.box [iI p2.Sum,.ref 6,iI (if p3.Dep > p2.Dep then p3.Dep else p2.Dep)],.box [iI p3.Key,iI 0,iI (if p3.Dep > p2.Dep then p3.Dep else p2.Dep)],.box [iI 0,.nils,iI 0],.box [iI 0,iI 0,iI 0],.dead,.dead,aR 161 2 aq x22]) (v':=.tup []) (n0:=7) (n1:=2) [6,0] rfl rfl (xH hx22) (dc rfl ig rfl (fL rfl ⟨be rfl,bW rfl,be rfl,trivial⟩ bh)) ⟨Da (bW rfl),em ⟨cP rfl,trivial⟩,trivial⟩ (vI trivial) ⟨.inl ⟨1,_,by decide,rfl,CV ⟨ct (aX _ _),pS (by decide),ct (aX _ _),trivial⟩⟩,.inr ⟨rfl,rfl⟩,.inr ⟨rfl,rfl⟩,.inr ⟨rfl,rfl⟩,.inr ⟨rfl,rfl⟩,.inr ⟨rfl,rfl⟩,.inl ⟨0,_,by decide,rfl,Cu ig⟩,trivial⟩ (Y 6 7 ?_)))))))))))))
   refine T.drawn mixed (k:=5) rfl ?_;apply RA.jn 2 (bm 5 7);intro hS25
   ·refine rL [0,2,3,4] 0 rfl (ra2 1 2 ?_ ?_)
    ·exact og 7 ⟨rfl,(ra1 2 (og 7 ⟨rfl,(raE hS25)⟩))⟩
    ·exact og 7 ⟨rfl,(ra1 1 (og 7 ⟨rfl,(raT hS25)⟩))⟩
   refine ra1 3 (og 7 ⟨rfl,(rq [4] 0 (RA.done (by decide +kernel) ?_))⟩);cases h;exact tD
  refine X 2 5 (T.drawn mixed (k:=5) rfl ?_);apply RA.jn 2 (bm 5 7);intro hS26
  ·refine rL [0,2,3,4] 0 rfl (ra2 1 2 ?_ ?_)
   ·exact og 5 ⟨rfl,(ra1 2 (og 5 ⟨rfl,(raE hS26)⟩))⟩
   ·exact og 5 ⟨rfl,(ra1 1 (og 5 ⟨rfl,(raT hS26)⟩))⟩
  refine ra1 3 (og 5 ⟨rfl,(rq [4] 0 (RA.done (by decide +kernel) ?_))⟩);cases h;exact tD
 refine X 6 5 (T.ci h rfl (fun hb_27 h=>?_) (fun hb_27 h=>?_))
 ·refine X 1 5 (T.ci h rfl (fun hb_28 h=>?_) (fun hb_28 h=>?_))
  ·refine X 2 5 (T.drawn mixed (k:=5) rfl ?_);apply RA.jn 2 (bm 5 7);intro hS29
   ·refine rL [0,2,3,4] 0 rfl (ra2 1 2 ?_ ?_)
    ·exact og 5 ⟨rfl,(ra1 2 (og 5 ⟨rfl,(raE hS29)⟩))⟩
    ·exact og 5 ⟨rfl,(ra1 1 (og 5 ⟨rfl,(raT hS29)⟩))⟩
   refine ra1 3 (og 5 ⟨rfl,(rq [4] 0 (RA.done (by decide +kernel) ?_))⟩);cases h;exact tD
  refine X 8 5 ?_;cases h;exact tD
 refine X 5 5 (T.ci h rfl (fun hb_30 h=>?_) (fun hb_30 h=>?_))
 ·refine X 1 5 (T.ci h rfl (fun hb_31 h=>?_) (fun hb_31 h=>?_))
  ·refine X 2 5 (T.drawn mixed (k:=5) rfl ?_);apply RA.jn 2 (bm 5 7);intro hS32
   ·refine rL [0,2,3,4] 0 rfl (ra2 1 2 ?_ ?_)
    ·exact og 5 ⟨rfl,(ra1 2 (og 5 ⟨rfl,(raE hS32)⟩))⟩
    ·exact og 5 ⟨rfl,(ra1 1 (og 5 ⟨rfl,(raT hS32)⟩))⟩
   refine ra1 3 (og 5 ⟨rfl,(rq [4] 0 (RA.done (by decide +kernel) ?_))⟩);cases h;exact tD
  refine X 8 5 ?_;cases h;exact tD
 refine X 5 5 (T.ci h rfl (fun hb_33 h=>?_) (fun hb_33 h=>?_))
 ·refine X 1 5 (T.ci h rfl (fun hb_34 h=>?_) (fun hb_34 h=>?_))
  ·refine X 2 5 (T.drawn mixed (k:=5) rfl ?_);apply RA.jn 2 (bm 5 7);intro hS35
   ·refine rL [0,2,3,4] 0 rfl (ra2 1 2 ?_ ?_)
    ·exact og 5 ⟨rfl,(ra1 2 (og 5 ⟨rfl,(raE hS35)⟩))⟩
    ·exact og 5 ⟨rfl,(ra1 1 (og 5 ⟨rfl,(raT hS35)⟩))⟩
   refine ra1 3 (og 5 ⟨rfl,(rq [4] 0 (RA.done (by decide +kernel) ?_))⟩);cases h;exact tD
  refine X 8 5 ?_;cases h;exact tD
 refine X 5 5 (T.ci h rfl (fun hb_36 h=>?_) (fun hb_36 h=>?_))
 ·refine X 1 5 (T.ci h rfl (fun hb_37 h=>?_) (fun hb_37 h=>?_))
  ·refine X 2 5 (T.drawn mixed (k:=5) rfl ?_);apply RA.jn 2 (bm 5 7);intro hS38
   ·refine rL [0,2,3,4] 0 rfl (ra2 1 2 ?_ ?_)
    ·exact og 5 ⟨rfl,(ra1 2 (og 5 ⟨rfl,(raE hS38)⟩))⟩
    ·exact og 5 ⟨rfl,(ra1 1 (og 5 ⟨rfl,(raT hS38)⟩))⟩
   refine ra1 3 (og 5 ⟨rfl,(rq [4] 0 (RA.done (by decide +kernel) ?_))⟩);cases h;exact tD
  refine X 8 5 ?_;cases h;exact tD
 refine X 4 5 (T.ci h rfl (fun hb_39 h=>?_) (fun hb_39 h=>?_))
 ·refine X 2 5 (T.drawn mixed (k:=5) rfl ?_);apply RA.jn 2 (bm 5 7);intro hS40
  ·refine rL [0,2,3,4] 0 rfl (ra2 1 2 ?_ ?_)
   ·exact og 5 ⟨rfl,(ra1 2 (og 5 ⟨rfl,(raE hS40)⟩))⟩
   ·exact og 5 ⟨rfl,(ra1 1 (og 5 ⟨rfl,(raT hS40)⟩))⟩
  refine ra1 3 (og 5 ⟨rfl,(rq [4] 0 (RA.done (by decide +kernel) ?_))⟩);cases h;exact tD
 refine X 8 5 ?_;cases h;exact tD
theorem nY {p0:Net} {p1:List (List Item)} {p2:State} {p3:Move} {r:State × Bool} (h:fo p0 p1 p2 p3=some r):Fn Tryz.prog 46 [.agg (au p0),sL (ae aa) p1,.agg (aH p2),.agg (aD p3)] (.tup [.agg (aH r.1),.bool r.2]):=by
 unfold fo at h;refine fT 0 0 Tryz.func46 Tryz.ntmps46 rfl ?_;refine B h fun x2 hx2 h=>(X 11 0 (sO (cG [] 4 6 (FnX.of_fnO (xc hx2)) ⟨rfl,(B h fun x4 hx4 h=>(Y 8 10 (sQ (ao Ty.s22 (fun _=>rfl) rfl rfl hx4 (Y 8 10 (jn (Z:=Int × Int × Int × (List Int) × (List (Bool × List Item))) (fun zz_39=>mkA 188 [(4,.ptr 0 0),(6,.ptr 1 0),(7,.ptr 2 0),(8,.ptr 3 0),(10,.ptr 4 0),(11,.ptr 5 0)]) (fun zz_39=>[.box (au p0),.box [.ref 6,.ref 7,.ref 8,.ref 9,.ref 10],.box (aD p3),.box [.nils,.nils,.nils,.nils,.nils],.box (ai x4),.box [iI zz_39.1,iI zz_39.2.1,iI zz_39.2.2.1],aR 3 1 ah zz_39.2.2.2.1,.hd 26 11,aR 122 3 am x2.1.Memory,aR 119 2 aF x2.1.Choices,aR 39 3 aa x2.1.Out,.cl 39 3 (cL aa zz_39.2.2.2.2)]) (fun zz_39=>f9 p0 x2 p3 x4 zz_39.1 zz_39.2.1 zz_39.2.2.1 zz_39.2.2.2.1 zz_39.2.2.2.2=some r) (fun zz_39 h=>?_) (fun hK4=>?_)))))))⟩)))
 ·obtain ⟨z27,z28,z29,z30,z31⟩:=zz_39;replace h:f9 p0 x2 p3 x4 z27 z28 z29 z30 z31=some r:=h;try dsimp only
  unfold f9 at h;refine X 6 12 (jn (Z:=List Int) (fun zz_42=>mkA 188 [(4,.ptr 0 0),(6,.ptr 1 0),(7,.ptr 2 0),(8,.ptr 3 0),(10,.ptr 4 0),(11,.ptr 5 0),(14,sL ah zz_42)]) (fun zz_42=>[.box (au p0),.box [.ref 6,.ref 7,.ref 8,.ref 9,.ref 10],.box (aD p3),.box [.nils,.nils,.nils,.nils,.nils],.box (ai x4),.box [iI z27,iI z28,iI z29],aR 3 1 ah z30,.hd 26 11,aR 122 3 am x2.1.Memory,aR 119 2 aF x2.1.Choices,aR 39 3 aa x2.1.Out,.cl 39 3 (cL aa z31)]) (fun zz_42=>fe p0 x2 p3 x4 z27 z28 z29 z30 z31 zz_42=some r) (fun zz_42 h=>?_) (fun hK3=>?_))
  ·revert h;revert zz_42;intro z34 h;replace h:fe p0 x2 p3 x4 z27 z28 z29 z30 z31 z34=some r:=h;try dsimp only
   unfold fe at h;refine jn (Z:=Int × (List Choice)) (fun zz_45=>mkA 188 [(4,.ptr 0 0),(6,.ptr 1 0),(7,.ptr 2 0),(8,.ptr 3 0),(10,.ptr 4 0),(11,.ptr 5 0),(14,sL ah z34)]) (fun zz_45=>[.box (au p0),.box [.ref 6,.ref 7,.ref 8,.ref 9,.ref 10],.box (aD p3),.box [.nils,.nils,.nils,.nils,.nils],.box (ai x4),.box [iI z27,iI z28,iI zz_45.1],aR 3 1 ah z30,.hd 26 11,aR 122 3 am x2.1.Memory,aR 119 2 aF zz_45.2,aR 39 3 aa x2.1.Out,.cl 39 3 (cL aa z31)]) (fun zz_45=>g7 p0 x2 p3 x4 z27 z28 z30 z31 z34 zz_45.1 zz_45.2=some r) (fun zz_45 h=>?_) (fun hK2=>?_)
   ·obtain ⟨z37,z38⟩:=zz_45;replace h:g7 p0 x2 p3 x4 z27 z28 z30 z31 z34 z37 z38=some r:=h;try dsimp only
    unfold g7 at h;refine B h fun x44 hx44 h=>(B h fun x45 hx45 h=>(B h fun x46 hx46 h=>(B h fun x47 hx47 h=>(B h fun x48 hx48 h=>(X 1 12 (T.drawn mixed (k:=23) rfl ?_))))))
    apply RA.jn 2 (bm 23 2097151);intro hS46;apply RA.jn 4 (bm 23 1048567);intro hS47;apply RA.jn 8 (bm 23 32767);intro hS48;apply RA.jn 9 (bm 23 32759);intro hS49;apply RA.jn 9 (bm 23 32765);intro hS50;apply RA.jn 9 (bm 23 24575);intro hS51
    ·refine rq [0,2,4,6,8,10] 17 (rL [5,15,16,17,18,19,20,21,22] 5 rfl (rL [7,15,16,17,18,19,20,21,22] 7 rfl (rL [9,12,13,15,16,17,18,19,20,21,22] 9 rfl (rL [11,12,13,15,16,17,18,19,20,21,22] 11 rfl (r0 12 rfl (aA (en:=am) Ty.s50 rfl rfl rfl hx44 (rL [14,15,16,17,18,19,20,21,22] 14 rfl (ra3 1 3 13 ?_ ?_ ?_))))))))
     ·refine og 12 ⟨rfl,(ra2 3 13 ?_ ?_)⟩
      ·exact og 12 ⟨rfl,(raE hS51)⟩
      ·exact oO rfl (aB (en:=am) (a:=x45) rfl rfl hx45 (cm Ty.k122 Ty.c122 rfl (cs:=(am x45)) rfl (raE hS49)))
     ·refine og 12 ⟨rfl,(ra2 1 13 ?_ ?_)⟩
      ·exact og 12 ⟨rfl,(raT hS51)⟩
      ·exact oO rfl (aB (en:=am) (a:=x45) rfl rfl hx45 (cm Ty.k122 Ty.c122 rfl (cs:=(am x45)) rfl (raE hS50)))
     ·refine oO rfl (aB (en:=am) (a:=x45) rfl rfl hx45 (cm Ty.k122 Ty.c122 rfl (cs:=(am x45)) rfl (ra3 1 3 15 ?_ ?_ ?_)))
      ·exact og 12 ⟨rfl,(raT hS49)⟩
      ·exact og 12 ⟨rfl,(raT hS50)⟩
      ·exact oO rfl (cD (mr hx46) ⟨rfl,(rq [16,17,18,19] 5 (rL [1,20,21,22] 1 rfl (raE hS47)))⟩)
    ·exact ra1 13 (oO rfl (aB (en:=am) (a:=x45) rfl rfl hx45 (cm Ty.k122 Ty.c122 rfl (cs:=(am x45)) rfl (raE hS48))))
    ·refine ra2 1 15 ?_ ?_
     ·exact og 12 ⟨rfl,(raT hS48)⟩
     ·exact oO rfl (cD (mr hx46) ⟨rfl,(rq [16,17,18,19] 4 (ra1 1 (og 12 ⟨rfl,(r0 20 rfl (aA (en:=am) Ty.s50 rfl rfl rfl hx47 (raE hS46)))⟩)))⟩)
    ·refine ra2 3 15 ?_ ?_
     ·exact og 12 ⟨rfl,(raT hS48)⟩
     ·exact oO rfl (cD (mr hx46) ⟨rfl,(rq [16,17,18,19] 4 (raT hS47))⟩)
    ·exact ra1 15 (oO rfl (cD (mr hx46) ⟨rfl,(rq [16,17,18,19] 3 (r0 20 rfl (aA (en:=am) Ty.s50 rfl rfl rfl hx47 (raT hS46))))⟩))
    ·exact ra1 3 (og 12 ⟨rfl,(r0 20 rfl (aA (en:=am) Ty.s50 rfl rfl rfl hx47 (raT hS46)))⟩)
    refine ra1 21 (oO rfl (cB (en:=am) (a:=x48) (a':=x46.1) Ty.c122 Ty.i122 rfl (vs:=[iI x46.1.Sum,sL aq x46.1.Keys,iI x46.1.Dep]) rfl rfl rfl hx48 rfl rfl rfl (ra1 22 (og 12 ⟨rfl,(RA.done (by decide +kernel) (X 4 12 (sQ (aj Ty.s49 rfl (Y 3 12 (itr (fun ss_78:Int × (List (Bool × List Item))=>mkA 188 [(4,.ptr 0 0),(6,.ptr 1 0),(8,.ptr 2 0),(10,.ptr 3 0),(11,.ptr 4 0),(144,sL ah z34),(145,iI ((z34).length:Int)),(146,iI ss_78.1)]) (fun ss_78=>[.box (au p0),.box [.ref 5,.ref 6,.ref 7,.ref 8,.ref 9],.box [.nils,.nils,.nils,.nils,.nils],.box (ai x4),.box (aa x46.2.1),aR 3 1 ah z30,.hd 26 10,aR 122 3 am (List.set x2.1.Memory x47 x46.1),aR 119 2 aF z38,aR 39 3 aa x2.1.Out,.cl 39 3 (cL aa ss_78.2)]) h (wk [] [0,1,3,4,5,6,7,8,9,10,11] 12 rfl) (fun ss_78 v_79 h hv_79=>?_)))))))⟩))));obtain ⟨s49,s50⟩:=ss_78;replace h:dt p0 x2 x4 z30 z34 z38 x46 x47 s49 s50=some v_79:=h;try dsimp only
    unfold dt at h;refine X 5 11 (T.ci h rfl (fun hb_80 h=>?_) (fun hb_80 h=>?_))
    ·refine B h fun x52 hx52 h=>(X 5 11 (sQ (ao Ty.s49 (fun _=>rfl) rfl rfl hx52 (B h fun x55 hx55 h=>(B h fun x56 hx56 h=>(Y 5 11 (T.drawn mixed (k:=9) rfl ?_)))))))
     apply RA.jn 0 (bm 9 511);intro hS81;apply RA.jn 2 (bm 9 223);intro hS82;apply RA.jn 3 (bm 9 207);intro hS83
     ·refine rq [0,2,6] 6 (rL [1,3,4,5,8] 1 rfl (ra2 3 7 ?_ ?_))
      ·refine oO rfl (bi Ty.s25 rfl rfl rfl rfl br hx55 (ra2 4 7 ?_ ?_))
       ·refine oO rfl (bu Ty.k26 rfl rfl rfl hx56 (ra2 5 7 ?_ ?_))
        ·exact oO rfl (pA Ty.s26 rfl rfl hx56 (ra1 7 (og 11 ⟨rfl,(rq [8] 0 (raE hS81))⟩)))
        ·exact og 11 ⟨rfl,(raE hS82)⟩
       ·exact og 11 ⟨rfl,(raE hS83)⟩
      ·exact og 11 ⟨rfl,(ra1 3 (oO rfl (bi Ty.s25 rfl rfl rfl rfl br hx55 (raT hS83))))⟩
     ·exact ra1 4 (oO rfl (bu Ty.k26 rfl rfl rfl hx56 (raT hS82)))
     ·exact ra1 5 (oO rfl (pA Ty.s26 rfl rfl hx56 (rq [8] 0 (raT hS81))))
     refine RA.done (by decide +kernel) (T.ci h rfl (fun hb_84 h=>?_) (fun hb_84 h=>?_))
     ·refine X 6 11 (T.thaw 6 10 rfl rfl rfl ?_);replace h:=mi h hv_79;cases h;exact tD
     refine B h fun x57 hx57 h=>(B h fun x58 hx58 h=>(X 1 11 (T.drawn mixed (k:=13) rfl ?_)))
     apply RA.jn 2 (bm 13 2047);intro hS86;apply RA.jn 3 (bm 13 1023);intro hS87;apply RA.jn 4 (bm 13 895);intro hS88;apply RA.jn 4 (bm 13 1021);intro hS89;apply RA.jn 4 (bm 13 511);intro hS90;apply RA.jn 5 (bm 13 831);intro hS91;apply RA.jn 5 (bm 13 893);intro hS92;apply RA.jn 5 (bm 13 383);intro hS93
     ·refine rq [0,2,3,5] 9 (rL [4,6,7,10,11,12] 4 rfl (rL [8,9,10,11,12] 8 rfl (ra3 1 6 9 ?_ ?_ ?_)))
      ·refine og 11 ⟨rfl,(ra2 6 9 ?_ ?_)⟩
       ·exact oO rfl (bi Ty.s25 rfl rfl rfl rfl br hx55 (raE hS93))
       ·exact oO rfl (aM (rows:=List.map aa [x46.2.1]) (vs:=[.agg (aa x46.2.1)]) Ty.s26 Ty.z39 rfl rfl rfl rfl rfl rfl (raE hS91))
      ·refine oO rfl (bi Ty.s25 rfl rfl rfl rfl br hx55 (ra3 1 7 9 ?_ ?_ ?_))
       ·exact og 11 ⟨rfl,(raT hS93)⟩
       ·refine oO rfl (bu Ty.k26 rfl rfl rfl hx56 (ra2 1 9 ?_ ?_))
        ·exact og 11 ⟨rfl,(raE hS90)⟩
        ·exact oO rfl (aM (rows:=List.map aa [x46.2.1]) (vs:=[.agg (aa x46.2.1)]) Ty.s26 Ty.z39 rfl rfl rfl rfl rfl rfl (raE hS89))
       ·exact oO rfl (aM (rows:=List.map aa [x46.2.1]) (vs:=[.agg (aa x46.2.1)]) Ty.s26 Ty.z39 rfl rfl rfl rfl rfl rfl (raE hS92))
      ·refine oO rfl (aM (rows:=List.map aa [x46.2.1]) (vs:=[.agg (aa x46.2.1)]) Ty.s26 Ty.z39 rfl rfl rfl rfl rfl rfl (ra2 1 6 ?_ ?_))
       ·exact og 12 ⟨rfl,(raT hS91)⟩
       ·exact oO rfl (bi Ty.s25 rfl rfl rfl rfl br hx55 (raT hS92))
     ·refine ra2 7 9 ?_ ?_
      ·exact oO rfl (bu Ty.k26 rfl rfl rfl hx56 (raT hS90))
      ·exact oO rfl (aM (rows:=List.map aa [x46.2.1]) (vs:=[.agg (aa x46.2.1)]) Ty.s26 Ty.z39 rfl rfl rfl rfl rfl rfl (raE hS88))
     ·refine ra2 1 7 ?_ ?_
      ·exact og 12 ⟨rfl,(raT hS88)⟩
      ·exact oO rfl (bu Ty.k26 rfl rfl rfl hx56 (raT hS89))
     ·exact ra1 6 (oO rfl (bi Ty.s25 rfl rfl rfl rfl br hx55 (raT hS88)))
     ·exact ra1 9 (oO rfl (aM (rows:=List.map aa [x46.2.1]) (vs:=[.agg (aa x46.2.1)]) Ty.s26 Ty.z39 rfl rfl rfl rfl rfl rfl (raE hS87)))
     ·refine ra2 1 10 ?_ ?_
      ·exact og 12 ⟨rfl,(raT hS87)⟩
      ·exact RO.outc 167 10 x55 rfl rfl hx57 rfl rfl (oO rfl (bG (en:=aa) (xs:=x57) (ys:=([x46.2.1]:List Item)) Ty.s26 (fun _=>rfl) rfl rfl rfl hx58 rfl rfl (ra1 1 (og 14 ⟨rfl,(raE hS86)⟩))))
     ·exact ra1 7 (oO rfl (bu Ty.k26 rfl rfl rfl hx56 (raT hS87)))
     ·exact ra1 10 (RO.outc 167 10 x55 rfl rfl hx57 rfl rfl (oO rfl (bG (en:=aa) (xs:=x57) (ys:=([x46.2.1]:List Item)) Ty.s26 (fun _=>rfl) rfl rfl rfl hx58 rfl rfl (raT hS86))))
     exact ra1 11 (oO rfl (bi Ty.s25 rfl rfl rfl rfl cl_lh hx55 (ra1 12 (oO rfl (uv Ty.c26 Ty.i26 (fun _=>rfl) (fun _=>rfl) rfl rfl rfl rfl cl_lh hx56 cl_sh rfl rfl (RA.done (by decide +kernel) (X 4 15 (lk h (wk [] [0,1,2,3,4,5,6,7,8,9,14] 15 rfl)))))))))
    refine X 1 11 ?_;replace h:=mi h hv_79;refine X 7 11 (T.ci h rfl (fun hb_95 h=>?_) (fun hb_95 h=>?_))
    ·refine X 5 11 (sQ (bt (en:=aa) Ty.s26 rfl rfl (Y 2 11 (T.ci h rfl (fun hb_96 h=>?_) (fun hb_96 h=>?_)))))
     ·refine X 6 11 (T.thaw 6 10 rfl rfl rfl ?_);cases h;exact tD
     refine B h fun x59 hx59 h=>(X 5 11 (sO (aM (rows:=List.map aa [x46.2.1]) (vs:=[.agg (aa x46.2.1)]) Ty.s26 Ty.z39 rfl rfl rfl rfl rfl rfl (sO (bG (en:=aa) (xs:=x2.1.Out) (ys:=([x46.2.1]:List Item)) Ty.s26 (fun _=>rfl) rfl rfl rfl hx59 rfl rfl (Y 9 13 (T.thaw 6 10 rfl rfl rfl ?_)))))))
     cases h;exact tD
    refine X 7 11 (T.thaw 6 10 rfl rfl rfl ?_);cases h;exact tD
   refine X 7 12 (T.ci h rfl (fun hb_97 h=>?_) (fun hb_97 h=>?_))
   ·refine X 5 12 (sQ (bt (en:=aF) Ty.s51 rfl rfl (Y 2 12 (T.ci h rfl (fun hb_98 h=>?_) (fun hb_98 h=>?_)))))
    ·refine X 6 12 (T.thaw 7 11 rfl rfl rfl ?_);cases h;exact tD
    refine B h fun x36 hx36 h=>(X 10 12 (sO (aM (rows:=List.map aF [(⟨p3.Node,p3.Lane⟩:Choice)]) (vs:=[.agg (aD p3)]) Ty.s51 Ty.z119 rfl rfl rfl rfl rfl rfl (sO (bG (en:=aF) (xs:=x2.1.Choices) (ys:=([(⟨p3.Node,p3.Lane⟩:Choice)]:List Choice)) Ty.s51 (fun _=>rfl) rfl rfl rfl hx36 rfl rfl (Y 6 14 (sQ (bt (en:=aF) Ty.s51 rfl rfl (Y 3 14 ?_)))))))))
    exact wu (hK2 (((x36).length:Int),x36) h) [] [0,1,2,3,4,5,6,7,8,13,10,11] 14 rfl
   exact X 1 12 (sx (hK2 (z29,x2.1.Choices) h))
  refine X 7 12 (T.ci h rfl (fun hb_99 h=>?_) (fun hb_99 h=>?_))
  ·refine B h fun x32 hx32 h=>(B h fun x33 hx33 h=>(T.drawn mixed (k:=11) rfl ?_))
   apply RA.jn 3 (bm 11 255);intro hS100
   ·refine rq [0,3] 9 (rL [4,5,6,7,8,9,10] 4 rfl (r0 5 rfl (aj Ty.s49 rfl (rL [2,6,7,8,9,10] 2 rfl (ra2 1 6 ?_ ?_)))))
    ·exact og 12 ⟨rfl,(ra1 6 (oO rfl (cF (qm hx32) ⟨rfl,(r0 7 rfl (ao Ty.s49 (fun _=>rfl) rfl rfl hx33 (raE hS100)))⟩)))⟩
    ·exact oO rfl (cF (qm hx32) ⟨rfl,(ra1 1 (og 12 ⟨rfl,(r0 7 rfl (ao Ty.s49 (fun _=>rfl) rfl rfl hx33 (raT hS100)))⟩))⟩)
   exact ra1 8 (og 12 ⟨rfl,(ra1 9 (oO rfl (aM (rows:=List.map ah [x33]) (vs:=[iI x33]) Ty.s49 Ty.z3 rfl rfl rfl rfl rfl rfl (rq [10] 0 (RA.done (by decide +kernel) (T.fC 12 (wu (hK3 [x33] h) [] [0,1,2,3,4,5,6,7,8,9,10,11] 13 rfl)))))))⟩)
  exact X 1 12 (sx (hK3 x4.Out h))
 refine X 7 12 (T.ci h rfl (fun hb_101 h=>?_) (fun hb_101 h=>?_))
 ·refine B h fun x9 hx9 h=>(B h fun x10 hx10 h=>(B h fun x11 hx11 h=>(B h fun x12 hx12 h=>(X 1 12 (T.drawn mixed (k:=13) rfl (rq [0,1,5,7] 9 (rL [2,3,4,11,12] 2 rfl (r0 3 rfl (ao Ty.s25 (fun _=>rfl) rfl rfl hx9 (rL [4,11,12] 4 rfl ?_))))))))))
  refine rL [6,9,10,11,12] 6 rfl (ra1 8 (og 12 ⟨rfl,(r0 9 rfl (aA (en:=ah) Ty.s49 rfl rfl rfl hx10 (ra1 10 (oO rfl (aB (en:=ah) (a:=x11) rfl rfl hx11 (aE Ty.k3 (c:=iI x11) rfl (r0 11 rfl (df Ty.s26 (fun _=>rfl) rfl rfl rfl hx12 (rq [12] 0 (RA.done (by decide +kernel) (X 4 12 ?_)))))))))))⟩));refine sQ (aj Ty.s26 rfl (Y 2 12 (T.ci h rfl (fun hb_102 h=>?_) (fun hb_102 h=>?_))))
  ·refine X 6 12 (T.thaw 5 6 rfl rfl rfl ?_);cases h;exact tD
  refine B h fun x14 hx14 h=>(X 4 12 (sQ (ao Ty.s26 (fun _=>rfl) rfl rfl hx14 (B h fun x15 hx15 h=>(B h fun x16 hx16 h=>(B h fun x17 hx17 h=>(B h fun x18 hx18 h=>(Y 8 12 (sQ (aA (en:=ah) Ty.s49 rfl rfl rfl hx15 (sO (aB (en:=ah) (a:=x16) rfl rfl hx16 (aE Ty.k3 (c:=iI x16) rfl ?_)))))))))))))
  exact Y 1 12 (sQ (aA (en:=ah) Ty.s49 rfl rfl rfl hx17 (sO (cB (en:=ah) (a:=x18) (a':=IntKind.i64.wrap (x16+1)) Ty.c3 Ty.i3 rfl (vs:=[iI (IntKind.i64.wrap (x16+1))]) rfl rfl rfl hx18 rfl rfl rfl (Y 1 12 (wu (hK4 (x14.Key,x14.Val,x14.Dep,(List.set x2.1.At x17 (IntKind.i64.wrap (x16+1))),x2.2) h) [] [0,1,2,3,10,11,4,5,7,8,9,6] 12 rfl))))))
 refine B h fun x20 hx20 h=>(X 6 12 (sQ (ao Ty.s49 (fun _=>rfl) rfl rfl hx20 (B h fun x23 hx23 h=>(B h fun x24 hx24 h=>(Y 9 12 (sO (bi Ty.s25 rfl rfl rfl rfl br hx23 (sO (bu Ty.k26 rfl rfl rfl hx24 (sO (pA Ty.s26 rfl rfl hx24 (Y 2 12 ?_)))))))))))))
 refine T.ci h rfl (fun hb_103 h=>?_) (fun hb_103 h=>?_)
 ·refine X 6 12 (T.thaw 5 6 rfl rfl rfl ?_);cases h;exact tD
 refine B h fun x25 hx25 h=>(B h fun x26 hx26 h=>(X 1 12 (T.drawn mixed (k:=19) rfl ?_)))
 apply RA.jn 2 (bm 19 131071);intro hS104;apply RA.jn 3 (bm 19 65535);intro hS105;apply RA.jn 3 (bm 19 131069);intro hS106;apply RA.jn 4 (bm 19 65533);intro hS107;apply RA.jn 4 (bm 19 65023);intro hS108;apply RA.jn 4 (bm 19 81919);intro hS109;apply RA.jn 5 (bm 19 16383);intro hS110;apply RA.jn 5 (bm 19 81917);intro hS111;apply RA.jn 5 (bm 19 73727);intro hS112;apply RA.jn 6 (bm 19 64639);intro hS113;apply RA.jn 6 (bm 19 15871);intro hS114;apply RA.jn 6 (bm 19 16381);intro hS115;apply RA.jn 6 (bm 19 8191);intro hS116;apply RA.jn 6 (bm 19 73725);intro hS117;apply RA.jn 7 (bm 19 64575);intro hS118;apply RA.jn 7 (bm 19 64637);intro hS119;apply RA.jn 7 (bm 19 15869);intro hS120;apply RA.jn 7 (bm 19 7679);intro hS121;apply RA.jn 7 (bm 19 8189);intro hS122;apply RA.jn 7 (bm 19 6143);intro hS123;apply RA.jn 8 (bm 19 64573);intro hS124;apply RA.jn 8 (bm 19 15487);intro hS125;apply RA.jn 8 (bm 19 7677);intro hS126;apply RA.jn 8 (bm 19 5631);intro hS127;apply RA.jn 9 (bm 19 15423);intro hS128;apply RA.jn 9 (bm 19 15485);intro hS129;apply RA.jn 9 (bm 19 7295);intro hS130;apply RA.jn 10 (bm 19 15407);intro hS131;apply RA.jn 10 (bm 19 15421);intro hS132;apply RA.jn 10 (bm 19 7231);intro hS133;apply RA.jn 10 (bm 19 7293);intro hS134;apply RA.jn 10 (bm 19 5247);intro hS135;apply RA.jn 11 (bm 19 7215);intro hS136;apply RA.jn 11 (bm 19 7229);intro hS137;apply RA.jn 11 (bm 19 5183);intro hS138
 ·refine rq [0,2,3,5,10,12] 13 (ra3 1 4 11 ?_ ?_ ?_)
  ·refine og 12 ⟨rfl,(ra2 4 11 ?_ ?_)⟩
   ·exact og 12 ⟨rfl,(raE hS138)⟩
   ·exact og 12 ⟨rfl,(raE hS136)⟩
  ·refine og 12 ⟨rfl,(ra3 1 6 11 ?_ ?_ ?_)⟩
   ·exact og 12 ⟨rfl,(raT hS138)⟩
   ·refine oO rfl (bi Ty.s25 rfl rfl rfl rfl br hx23 (ra3 1 7 11 ?_ ?_ ?_))
    ·exact og 12 ⟨rfl,(raE hS135)⟩
    ·refine oO rfl (bu Ty.k26 rfl rfl rfl hx24 (RA.fzi 76 6 x23 rfl rfl hx24 rfl (r0 8 rfl (ao Ty.s26 (fun _=>rfl) rfl rfl hx25 (ra3 1 9 11 ?_ ?_ ?_)))))
     ·exact og 13 ⟨rfl,(raE hS127)⟩
     ·refine og 13 ⟨rfl,(ra3 1 11 16 ?_ ?_ ?_)⟩
      ·exact og 13 ⟨rfl,(raE hS123)⟩
      ·exact og 13 ⟨rfl,(raE hS122)⟩
      ·exact og 13 ⟨rfl,(rL [11,13,14,15,17,18] 11 rfl (raE hS117))⟩
     ·exact og 13 ⟨rfl,(raE hS126)⟩
    ·exact og 12 ⟨rfl,(raE hS134)⟩
   ·exact og 12 ⟨rfl,(raE hS137)⟩
  ·refine og 12 ⟨rfl,(ra3 1 4 13 ?_ ?_ ?_)⟩
   ·exact og 12 ⟨rfl,(raT hS136)⟩
   ·exact og 12 ⟨rfl,(raT hS137)⟩
   ·refine oO rfl (bi Ty.s25 rfl rfl rfl rfl br hx23 (ra3 1 4 14 ?_ ?_ ?_))
    ·exact og 12 ⟨rfl,(raE hS131)⟩
    ·exact og 12 ⟨rfl,(raE hS132)⟩
    ·exact oO rfl (bu Ty.k26 rfl rfl rfl hx24 (RA.fzi 83 6 x23 rfl rfl hx24 rfl (r0 15 rfl (df Ty.s26 (fun _=>rfl) rfl rfl rfl hx26 (rL [4,6,7,8,9,16,17,18] 4 rfl (raE hS124))))))
 ·refine ra2 6 11 ?_ ?_
  ·exact oO rfl (bi Ty.s25 rfl rfl rfl rfl br hx23 (raT hS135))
  ·exact og 12 ⟨rfl,(raE hS133)⟩
 ·refine ra3 1 6 13 ?_ ?_ ?_
  ·exact og 12 ⟨rfl,(raT hS133)⟩
  ·exact oO rfl (bi Ty.s25 rfl rfl rfl rfl br hx23 (raT hS134))
  ·exact oO rfl (bi Ty.s25 rfl rfl rfl rfl br hx23 (raT hS132))
 ·refine ra2 4 13 ?_ ?_
  ·exact og 12 ⟨rfl,(raT hS133)⟩
  ·exact oO rfl (bi Ty.s25 rfl rfl rfl rfl br hx23 (raT hS131))
 ·refine ra2 7 11 ?_ ?_
  ·exact oO rfl (bu Ty.k26 rfl rfl rfl hx24 (RA.fzi 76 6 x23 rfl rfl hx24 rfl (r0 8 rfl (ao Ty.s26 (fun _=>rfl) rfl rfl hx25 (raT hS127)))))
  ·exact og 12 ⟨rfl,(raE hS130)⟩
 ·refine ra3 1 7 13 ?_ ?_ ?_
  ·exact og 12 ⟨rfl,(raT hS130)⟩
  ·exact oO rfl (bu Ty.k26 rfl rfl rfl hx24 (RA.fzi 76 6 x23 rfl rfl hx24 rfl (r0 8 rfl (ao Ty.s26 (fun _=>rfl) rfl rfl hx25 (raT hS126)))))
  ·exact oO rfl (bi Ty.s25 rfl rfl rfl rfl br hx23 (raE hS129))
 ·refine ra2 6 13 ?_ ?_
  ·exact oO rfl (bi Ty.s25 rfl rfl rfl rfl br hx23 (raT hS130))
  ·exact oO rfl (bi Ty.s25 rfl rfl rfl rfl br hx23 (raE hS128))
 ·refine ra3 1 6 14 ?_ ?_ ?_
  ·exact og 12 ⟨rfl,(raT hS128)⟩
  ·exact oO rfl (bi Ty.s25 rfl rfl rfl rfl br hx23 (raT hS129))
  ·exact oO rfl (bu Ty.k26 rfl rfl rfl hx24 (RA.fzi 83 6 x23 rfl rfl hx24 rfl (r0 15 rfl (df Ty.s26 (fun _=>rfl) rfl rfl rfl hx26 (raT hS124)))))
 ·refine ra2 4 14 ?_ ?_
  ·exact og 12 ⟨rfl,(raT hS128)⟩
  ·exact oO rfl (bu Ty.k26 rfl rfl rfl hx24 (RA.fzi 83 6 x23 rfl rfl hx24 rfl (r0 15 rfl (df Ty.s26 (fun _=>rfl) rfl rfl rfl hx26 (ra1 4 (og 13 ⟨rfl,(raE hS118)⟩))))))
 ·refine ra2 7 13 ?_ ?_
  ·exact oO rfl (bu Ty.k26 rfl rfl rfl hx24 (RA.fzi 76 6 x23 rfl rfl hx24 rfl (r0 8 rfl (ao Ty.s26 (fun _=>rfl) rfl rfl hx25 (raE hS121)))))
  ·exact oO rfl (bi Ty.s25 rfl rfl rfl rfl br hx23 (raE hS125))
 ·refine ra3 1 7 14 ?_ ?_ ?_
  ·exact og 12 ⟨rfl,(raT hS125)⟩
  ·exact oO rfl (bu Ty.k26 rfl rfl rfl hx24 (RA.fzi 76 6 x23 rfl rfl hx24 rfl (r0 8 rfl (ao Ty.s26 (fun _=>rfl) rfl rfl hx25 (raE hS120)))))
  ·exact oO rfl (bu Ty.k26 rfl rfl rfl hx24 (RA.fzi 83 6 x23 rfl rfl hx24 rfl (r0 15 rfl (df Ty.s26 (fun _=>rfl) rfl rfl rfl hx26 (raE hS119)))))
 ·refine ra2 6 14 ?_ ?_
  ·exact oO rfl (bi Ty.s25 rfl rfl rfl rfl br hx23 (raT hS125))
  ·exact oO rfl (bu Ty.k26 rfl rfl rfl hx24 (RA.fzi 83 6 x23 rfl rfl hx24 rfl (r0 15 rfl (df Ty.s26 (fun _=>rfl) rfl rfl rfl hx26 (raT hS118)))))
 ·refine ra2 9 11 ?_ ?_
  ·exact og 13 ⟨rfl,(raT hS123)⟩
  ·exact og 13 ⟨rfl,(raT hS121)⟩
 ·refine ra3 1 9 13 ?_ ?_ ?_
  ·exact og 13 ⟨rfl,(raT hS121)⟩
  ·exact og 13 ⟨rfl,(raT hS122)⟩
  ·exact oO rfl (bi Ty.s25 rfl rfl rfl rfl br (ixf hx23) (raT hS120))
 ·refine ra2 7 14 ?_ ?_
  ·exact oO rfl (bu Ty.k26 rfl rfl rfl hx24 (RA.fzi 76 6 x23 rfl rfl hx24 rfl (r0 8 rfl (ao Ty.s26 (fun _=>rfl) rfl rfl hx25 (raE hS114)))))
  ·exact oO rfl (bu Ty.k26 rfl rfl rfl hx24 (RA.fzi 83 6 x23 rfl rfl hx24 rfl (r0 15 rfl (df Ty.s26 (fun _=>rfl) rfl rfl rfl hx26 (raE hS113)))))
 ·refine ra2 1 6 ?_ ?_
  ·exact og 13 ⟨rfl,(raT hS118)⟩
  ·exact oO rfl (bi Ty.s25 rfl rfl rfl rfl br (ixf hx23) (raT hS119))
 ·refine ra2 11 16 ?_ ?_
  ·exact og 13 ⟨rfl,(raE hS116)⟩
  ·exact og 13 ⟨rfl,(ra1 11 (og 13 ⟨rfl,(raE hS112)⟩))⟩
 ·refine ra3 1 13 16 ?_ ?_ ?_
  ·exact og 13 ⟨rfl,(raT hS116)⟩
  ·exact oO rfl (bi Ty.s25 rfl rfl rfl rfl br (ixf hx23) (raE hS115))
  ·exact og 13 ⟨rfl,(raT hS117)⟩
 ·refine ra2 9 13 ?_ ?_
  ·exact og 13 ⟨rfl,(raT hS116)⟩
  ·exact oO rfl (bi Ty.s25 rfl rfl rfl rfl br (ixf hx23) (raT hS114))
 ·refine ra3 1 9 14 ?_ ?_ ?_
  ·exact og 13 ⟨rfl,(raT hS114)⟩
  ·exact og 13 ⟨rfl,(raT hS115)⟩
  ·exact oO rfl (bu Ty.k26 rfl rfl rfl (atf hx24 hx24) (RA.fzi 83 6 x23 rfl rfl (atf hx24 hx24) rfl (r0 15 rfl (df Ty.s26 (fun _=>rfl) rfl rfl rfl hx26 (rL [9,16,17,18] 9 rfl (raE hS107))))))
 ·refine ra2 1 7 ?_ ?_
  ·exact og 13 ⟨rfl,(raT hS113)⟩
  ·exact oO rfl (bu Ty.k26 rfl rfl rfl (atf hx24 hx24) (RA.fzi 76 6 x23 rfl rfl (atf hx24 hx24) rfl (r0 8 rfl (ao Ty.s26 (fun _=>rfl) rfl rfl hx25 (rL [9,16,17,18] 9 rfl (raT hS107))))))
 ·exact ra1 6 (oO rfl (bi Ty.s25 rfl rfl rfl rfl br (ixf hx23) (raT hS113)))
 ·refine ra2 1 13 ?_ ?_
  ·exact og 13 ⟨rfl,(raT hS112)⟩
  ·exact oO rfl (bi Ty.s25 rfl rfl rfl rfl br (ixf hx23) (raE hS111))
 ·refine ra2 13 16 ?_ ?_
  ·exact oO rfl (bi Ty.s25 rfl rfl rfl rfl br (ixf hx23) (raE hS110))
  ·exact og 13 ⟨rfl,(raT hS112)⟩
 ·refine ra3 1 14 16 ?_ ?_ ?_
  ·exact og 13 ⟨rfl,(raT hS110)⟩
  ·exact oO rfl (bu Ty.k26 rfl rfl rfl (atf hx24 hx24) (RA.fzi 83 6 x23 rfl rfl (atf hx24 hx24) rfl (r0 15 rfl (df Ty.s26 (fun _=>rfl) rfl rfl rfl hx26 (raT hS107)))))
  ·exact og 13 ⟨rfl,(raT hS111)⟩
 ·refine ra2 9 14 ?_ ?_
  ·exact og 13 ⟨rfl,(raT hS110)⟩
  ·exact oO rfl (bu Ty.k26 rfl rfl rfl (atf hx24 hx24) (RA.fzi 83 6 x23 rfl rfl (atf hx24 hx24) rfl (r0 15 rfl (df Ty.s26 (fun _=>rfl) rfl rfl rfl hx26 (raE hS108)))))
 ·exact ra1 7 (oO rfl (bu Ty.k26 rfl rfl rfl (atf hx24 hx24) (RA.fzi 76 6 x23 rfl rfl (atf hx24 hx24) rfl (r0 8 rfl (ao Ty.s26 (fun _=>rfl) rfl rfl hx25 (raT hS108))))))
 ·exact ra1 13 (oO rfl (bi Ty.s25 rfl rfl rfl rfl br (ixf hx23) (raE hS109)))
 ·refine ra2 1 14 ?_ ?_
  ·exact og 13 ⟨rfl,(raT hS109)⟩
  ·exact oO rfl (bu Ty.k26 rfl rfl rfl (atf hx24 hx24) (RA.fzi 83 6 x23 rfl rfl (atf hx24 hx24) rfl (r0 15 rfl (df Ty.s26 (fun _=>rfl) rfl rfl rfl hx26 (raE hS106)))))
 ·refine ra2 14 16 ?_ ?_
  ·exact oO rfl (bu Ty.k26 rfl rfl rfl (atf hx24 hx24) (RA.fzi 83 6 x23 rfl rfl (atf hx24 hx24) rfl (r0 15 rfl (df Ty.s26 (fun _=>rfl) rfl rfl rfl hx26 (raE hS105)))))
  ·exact og 13 ⟨rfl,(raT hS109)⟩
 ·exact ra1 14 (oO rfl (bu Ty.k26 rfl rfl rfl (atf hx24 hx24) (RA.fzi 83 6 x23 rfl rfl (atf hx24 hx24) rfl (r0 15 rfl (df Ty.s26 (fun _=>rfl) rfl rfl rfl hx26 (raE hS104))))))
 ·exact ra1 9 (og 14 ⟨rfl,(raT hS105)⟩)
 ·refine ra2 1 16 ?_ ?_
  ·exact og 14 ⟨rfl,(raT hS105)⟩
  ·exact og 14 ⟨rfl,(raT hS106)⟩
 ·exact ra1 1 (og 14 ⟨rfl,(raT hS104)⟩)
 ·exact ra1 16 (og 14 ⟨rfl,(raT hS104)⟩)
 exact ra1 17 (oO rfl (bi Ty.s25 rfl rfl rfl rfl br (ixf (ixf hx23)) (ra1 18 (oO rfl (AQ Ty.c26 Ty.i26 (fun _=>rfl) (fun _=>rfl) rfl rfl rfl br (atf (atf hx24 hx24) (atf hx24 hx24)) cl_f rfl rfl (RA.done (by decide +kernel) (wu (hK4 (x25.Key,x25.Val,x25.Dep,x2.1.At,(fzd (fzd (fzd x2.2 x23 x24) x23 x24) x23 x26)) h) [] [0,1,2,3,10,11,4,5,7,8,9,14] 15 rfl)))))))
end
theorem zU (x y:Item) (hx:x.Dep=0) (hy:y.Dep=0):kJ x y=some (if x.Key<y.Key∨x.Key=y.Key/\x.Val<y.Val then -1 else if x.Key=y.Key/\x.Val=y.Val then 0 else 1):=by
 obtain ⟨k,v,d⟩:=x;obtain ⟨k',v',d'⟩:=y;simp only at hx hy;subst hx hy;unfold kJ;by_cases h1:k<k'∨k=k'/\v<v'
 ·rw [if_pos h1,if_pos (by simpa using h1)]
 ·rw [if_neg h1,if_neg (by simpa using h1)];by_cases h2:k=k'/\v=v'
  ·rw [if_pos h2,if_pos (by simp [h2.1,h2.2])]
  ·rw [if_neg h2,if_neg (by simpa using h2)]
theorem u5 {l:List Item} (h:dep0 l=true) {i:Nat} (hi:i<l.length):l[i].Dep=0:=by
 have:=List.all_eq_true.1 h _ (List.getElem_mem hi);simpa using this
theorem yG (a b:List Item) (la:a.length<=9223372036854775807) (ha:dep0 a=true) (hb:dep0 b=true):∀ (m i:Nat),a.length - i=m->i<=a.length->iter (fun s:Int=>iT a b s) (i:Int)=some (cfR (a.drop i) (b.drop i)):=by
 intro m;induction m with
 | zero =>
  intro i hm hi;have e:i=a.length:=by omega
  subst e;rw [an];unfold iT;rw [if_neg (by simp),List.drop_length];by_cases h:a.length<b.length
  ·rw [if_pos (by simpa using h),List.drop_eq_getElem_cons h];rfl
  ·rw [if_neg (by simpa using h),List.drop_eq_nil_of_le (by omega)];rfl
 | succ m ih =>
  intro i hm hi;have hlt:i<a.length:=by omega
  rw [an];unfold iT;have ea:idx a (i:Int)=some a[i]:=by unfold idx;rw [if_pos (by omega)];simp [hlt]
  rw [if_pos (by simpa using hlt),ea,Option.bind_some,List.drop_eq_getElem_cons hlt];by_cases h:i<b.length
  ·have eb:idx b (i:Int)=some b[i]:=by unfold idx;rw [if_pos (by omega)];simp [h]
   rw [if_neg (by simp;omega),eb,Option.bind_some,zU _ _ (u5 ha hlt) (u5 hb h),Option.bind_some,List.drop_eq_getElem_cons h];unfold cfR;by_cases h1:a[i].Key<b[i].Key∨a[i].Key=b[i].Key/\a[i].Val<b[i].Val
   ·rw [if_pos h1,if_pos (by decide),if_pos h1];rfl
   ·rw [if_neg h1,if_neg h1];by_cases h2:a[i].Key=b[i].Key/\a[i].Val=b[i].Val
    ·rw [if_pos h2,if_pos h2,if_neg (by decide)];have:=ih (i+1) (by omega) (by omega);rw [bl (by omega) (by omega)];exact this
    ·rw [if_neg h2,if_neg h2,if_pos (by decide)];rfl
  ·rw [if_pos (by simp;omega),show b.drop i=[] from List.drop_eq_nil_of_le (by omega)];rfl
theorem xm (a b:List Item) (la:a.length<=maxLen) (lb:b.length<=maxLen) (ha:dep0 a=true) (hb:dep0 b=true):kK a b=some (cfR a b):=by
 unfold kK lW;have:=yG a b (by simpa [maxLen] using la) ha hb _ 0 rfl (Nat.zero_le _);simp only [Int.natCast_zero,List.drop_zero] at this;rw [this];rfl
section
open Go.RowKit
set_option maxRecDepth 100000
set_option maxHeartbeats 4000000
set_option synthInstance.maxSize 100000
set_option synthInstance.maxHeartbeats 4000000
theorem ql {p0:Net} {p1:List (List Item)} {p2:State} {r:List Move} (h:jj p0 p1 p2=some r):FnO Tryz.prog 42 [.agg (au p0),sL (ae aa) p1,.agg (aH p2)] (.ref 0) [aR 88 2 aD r]:=by
 unfold jj at h;refine fT 0 15 Tryz.func42 Tryz.ntmps42 rfl (sQ (aj Ty.s22 rfl (Y 3 2 (itr (fun ss_27:Int × (List Move)=>mkA 52 [(1,sL (ae aa) p1),(3,.ptr 0 0),(5,.ptr 1 0),(7,.ref 2),(16,sL ai p0.Nodes),(17,iI ((p0.Nodes).length:Int)),(18,iI ss_27.1)]) (fun ss_27=>[.box (au p0),.box (aH p2),aR 88 2 aD ss_27.2]) h (wk [(7,88,2)] [0,1,2] 2 rfl) (fun ss_27 v_28 h hv_28=>?_)))));obtain ⟨s1,s2⟩:=ss_27;replace h:gc p0 p1 p2 s1 s2=some v_28:=h;try dsimp only
 unfold gc at h;refine X 5 3 (T.ci h rfl (fun hb_29 h=>?_) (fun hb_29 h=>?_))
 ·refine B h fun x4 hx4 h=>(X 6 3 (sQ (ao Ty.s22 (fun _=>rfl) rfl rfl hx4 (Y 9 3 (jn (Z:=Int) (fun zz_31=>mkA 52 [(1,sL (ae aa) p1),(3,.ptr 0 0),(5,.ptr 1 0),(7,.ref 2),(8,iI s1),(10,iI zz_31),(16,sL ai p0.Nodes),(17,iI ((p0.Nodes).length:Int)),(18,iI s1)]) (fun zz_31=>[.box (au p0),.box (aH p2),aR 88 2 aD s2]) (fun zz_31=>je p0 p1 s1 p2 s2 zz_31=some v_28) (fun zz_31 h=>?_) (fun hK2=>?_))))))
  ·revert h;revert zz_31;intro z5 h;replace h:je p0 p1 s1 p2 s2 z5=some v_28:=h;try dsimp only
   unfold je at h;refine X 5 3 (itr (fun ss_36:Int × (List Move)=>mkA 52 [(1,sL (ae aa) p1),(3,.ptr 0 0),(5,.ptr 1 0),(7,.ref 2),(8,iI s1),(10,iI z5),(11,iI ss_36.1),(16,sL ai p0.Nodes),(17,iI ((p0.Nodes).length:Int)),(18,iI s1)]) (fun ss_36=>[.box (au p0),.box (aH p2),aR 88 2 aD ss_36.2]) h (wk [] [0,1,2] 3 rfl) (fun ss_36 v_37 h hv_37=>?_));obtain ⟨s6,s7⟩:=ss_36;replace h:f8 p0 p1 s1 p2 z5 s6 s7=some v_37:=h;try dsimp only
   unfold f8 at h;refine X 7 3 (T.ci h rfl (fun hb_38 h=>?_) (fun hb_38 h=>?_))
   ·refine B h fun x9 hx9 h=>(X 17 3 (sO (cD (nY hx9) ⟨rfl,(Y 11 4 (T.ci h rfl (fun hb_39 h=>?_) (fun hb_39 h=>?_)))⟩)))
    ·exact B h fun x10 hx10 h=>(X 3 5 (sO (aM (rows:=List.map aD [(⟨s1,s6⟩:Move)]) (vs:=[.agg [iI s1,iI s6]]) Ty.s84 Ty.z88 rfl rfl rfl rfl rfl rfl (sO (bG (en:=aD) (xs:=s7) (ys:=([(⟨s1,s6⟩:Move)]:List Move)) Ty.s84 (fun _=>rfl) rfl rfl rfl hx10 rfl rfl (Y 7 7 (lk h (wk [] [0,1,6] 7 rfl))))))))
    exact X 6 5 (lk h (wk [] [0,1,2] 5 rfl))
   refine X 1 3 ?_;replace h:=mi h hv_37;exact X 4 3 (lk h (wk [] [0,1,2] 3 rfl))
  refine X 7 4 (T.ci h rfl (fun hb_41 h=>?_) (fun hb_41 h=>?_))
  ·exact X 3 4 (sQ (aj Ty.s49 rfl (Y 2 4 (wu (hK2 ((x4.In).length:Int) h) [] [0,1,2] 4 rfl))))
  exact X 1 4 (wu (hK2 1 h) [] [0,1,2] 4 rfl)
 refine X 1 3 ?_;replace h:=mi h hv_28;refine X 5 3 ?_;cases h;exact tO [] [2] 3
theorem wX {p0:Move} {p1:List Node} {p2 p3:Int} {r:Bool} (h:kv p0 p1 p2 p3=some r):FnX Tryz.prog 44 [.agg (aD p0),.ptr 0 0] [.box [sL ai p1,iI p2,iI p3]] (.bool r) [.box [sL ai p1,iI p2,iI p3]]:=by
 unfold kv at h;refine fT 1 0 Tryz.func44 Tryz.ntmps44 rfl ?_;refine B h fun x2 hx2 h=>(X 11 1 (sQ (ao Ty.s22 (fun _=>rfl) rfl rfl hx2 (Y 5 2 ?_))))
 cases h;exact tN [0]
theorem wG {p0:List Move} {p1:List Node} {p2 p3 r:Int} (h:gX p0 p1 p2 p3=some r):FnX Tryz.prog 43 [.ref 0,.func 44 [.ptr 1 0]] [aR 88 2 aD p0,.box [sL ai p1,iI p2,iI p3]] (iI r) [aR 88 2 aD p0,.box [sL ai p1,iI p2,iI p3]]:=by
 unfold gX at h;refine fT 2 8 Tryz.func43 Tryz.ntmps43 rfl (sQ (bt (en:=aD) Ty.s84 rfl rfl (Y 3 2 (itr (fun ss_5:Int=>mkA 19 [(0,.ref 0),(1,.func 44 [.ptr 1 0]),(7,iI ((p0).length:Int)),(8,iI ss_5)]) (fun ss_5=>[aR 88 2 aD p0,.box [sL ai p1,iI p2,iI p3]]) h (wk [] [0,1] 2 rfl) (fun ss_5 v_6 h hv_6=>?_)))));revert hv_6 h;revert ss_5;intro s1 h hv_6;replace h:e8 p0 p1 p2 p3 s1=some v_6:=h;try dsimp only
 unfold e8 at h;refine X 5 2 (T.ci h rfl (fun hb_7 h=>?_) (fun hb_7 h=>?_))
 ·refine B h fun x5 hx5 h=>(B h fun x6 hx6 h=>(B h fun x7 hx7 h=>(X 13 2 (sQ (aA (en:=aD) Ty.s84 rfl rfl rfl hx5 (sO (aB (en:=aD) (a:=x6) rfl rfl hx6 (cm Ty.k88 Ty.c88 rfl (cs:=(aD x6)) rfl (sO (cG [1] 2 1 (wX hx7) ⟨rfl,(Y 1 2 (T.ci h rfl (fun hb_8 h=>?_) (fun hb_8 h=>?_)))⟩))))))))))
  ·refine X 5 2 ?_;replace h:=mi h hv_6;cases h;exact tN [0,1]
  exact X 5 2 (lk h (wk [] [0,1] 2 rfl))
 refine X 1 2 ?_;replace h:=mi h hv_6;refine X 4 2 ?_;cases h;exact tN [0,1]
theorem wT {p0:Move} {p1:List Node} {p2 p3:Int} {r:Bool} (h:ky p0 p1 p2 p3=some r):FnX Tryz.prog 45 [.agg (aD p0),.ptr 0 0] [.box [sL ai p1,iI p2,iI p3]] (.bool r) [.box [sL ai p1,iI p2,iI p3]]:=by
 unfold ky at h;refine fT 1 0 Tryz.func45 Tryz.ntmps45 rfl ?_;refine B h fun x2 hx2 h=>(X 11 1 (sQ (ao Ty.s22 (fun _=>rfl) rfl rfl hx2 (Y 5 2 ?_))))
 cases h;exact tN [0]
theorem wI {p0:List Move} {p1:List Node} {p2 p3 r:Int} (h:gY p0 p1 p2 p3=some r):FnX Tryz.prog 43 [.ref 0,.func 45 [.ptr 1 0]] [aR 88 2 aD p0,.box [sL ai p1,iI p2,iI p3]] (iI r) [aR 88 2 aD p0,.box [sL ai p1,iI p2,iI p3]]:=by
 unfold gY at h;refine fT 2 8 Tryz.func43 Tryz.ntmps43 rfl (sQ (bt (en:=aD) Ty.s84 rfl rfl (Y 3 2 (itr (fun ss_5:Int=>mkA 19 [(0,.ref 0),(1,.func 45 [.ptr 1 0]),(7,iI ((p0).length:Int)),(8,iI ss_5)]) (fun ss_5=>[aR 88 2 aD p0,.box [sL ai p1,iI p2,iI p3]]) h (wk [] [0,1] 2 rfl) (fun ss_5 v_6 h hv_6=>?_)))));revert hv_6 h;revert ss_5;intro s1 h hv_6;replace h:e7 p0 p1 p2 p3 s1=some v_6:=h;try dsimp only
 unfold e7 at h;refine X 5 2 (T.ci h rfl (fun hb_7 h=>?_) (fun hb_7 h=>?_))
 ·refine B h fun x5 hx5 h=>(B h fun x6 hx6 h=>(B h fun x7 hx7 h=>(X 13 2 (sQ (aA (en:=aD) Ty.s84 rfl rfl rfl hx5 (sO (aB (en:=aD) (a:=x6) rfl rfl hx6 (cm Ty.k88 Ty.c88 rfl (cs:=(aD x6)) rfl (sO (cG [1] 2 1 (wT hx7) ⟨rfl,(Y 1 2 (T.ci h rfl (fun hb_8 h=>?_) (fun hb_8 h=>?_)))⟩))))))))))
  ·refine X 5 2 ?_;replace h:=mi h hv_6;cases h;exact tN [0,1]
  exact X 5 2 (lk h (wk [] [0,1] 2 rfl))
 refine X 1 2 ?_;replace h:=mi h hv_6;refine X 4 2 ?_;cases h;exact tN [0,1]
theorem xk {p0:List Choice} {p1:Int} {r:List Int} (h:kH p0 p1=some r):FnO Tryz.prog 47 [sL aF p0,iI p1] (.ref 0) [aR 3 1 ah r]:=by
 unfold kH at h;refine fT 0 12 Tryz.func47 Tryz.ntmps47 rfl (sQ (aj Ty.s51 rfl (Y 3 0 (itr (fun ss_5:Int × (List Int)=>mkA 25 [(1,iI p1),(5,.ref 0),(8,sL aF p0),(9,iI ((p0).length:Int)),(10,iI ss_5.1)]) (fun ss_5=>[aR 3 1 ah ss_5.2]) h (wk [(5,3,1)] [0] 0 rfl) (fun ss_5 v_6 h hv_6=>?_)))));obtain ⟨s1,s2⟩:=ss_5;replace h:fZ p0 p1 s1 s2=some v_6:=h;try dsimp only
 unfold fZ at h;refine X 5 1 (T.ci h rfl (fun hb_7 h=>?_) (fun hb_7 h=>?_))
 ·refine B h fun x4 hx4 h=>(X 5 1 (sQ (ao Ty.s51 (fun _=>rfl) rfl rfl hx4 (Y 11 1 (T.ci h rfl (fun hb_8 h=>?_) (fun hb_8 h=>?_))))))
  ·exact B h fun x5 hx5 h=>(X 4 2 (sO (aM (rows:=List.map ah [x4.Lane]) (vs:=[iI x4.Lane]) Ty.s49 Ty.z3 rfl rfl rfl rfl rfl rfl (sO (bG (en:=ah) (xs:=s2) (ys:=([x4.Lane]:List Int)) Ty.s49 (fun _=>rfl) rfl rfl rfl hx5 rfl rfl (Y 6 4 (lk h (wk [] [3] 4 rfl))))))))
  exact X 5 2 (lk h (wk [] [0] 2 rfl))
 refine X 1 1 ?_;replace h:=mi h hv_6;refine X 5 1 ?_;cases h;exact tO [] [0] 1
theorem xj {p0 p1:Item} {r:Int} (h:kJ p0 p1=some r):Fn Tryz.prog 73 [.agg (aa p0),.agg (aa p1)] (iI r):=by
 unfold kJ at h;refine fT 0 8 Tryz.func73 Tryz.ntmps73 rfl (j1 [(2,.ptr 0 0),(3,.ptr 1 0),(5,.bool ((decide (p0.Key<p1.Key)) || ((p0.Key==p1.Key) && decide (p0.Val<p1.Val))))] [.box (aa p0),.box (aa p1)] ?_ (fun hK=>?_))
 ·refine T.ci h rfl (fun hb_3 h=>?_) (fun hb_3 h=>?_)
  ·refine X 4 2 ?_;cases h;exact tD
  refine X 4 2 (sQ (C8 (cs:=[iI p0.Key,iI p0.Val,iI p0.Dep]) (ds:=[iI p1.Key,iI p1.Val,iI p1.Dep]) (r:=p0==p1) Ty.q39 rfl rfl rfl rfl (q4 p0 p1) (Y 2 2 (T.ci h rfl (fun hb_4 h=>?_) (fun hb_4 h=>?_)))))
  ·refine X 4 2 ?_;cases h;exact tD
  refine X 5 2 ?_;cases h;exact tD
 refine X 8 2 (gp 11 (fun hb_1=>?_) (fun hb_1=>?_))
 ·refine Yp 15 2 ?_;rw [hb_1] at hK;exact sx hK
 refine Y 6 2 (gp 17 (fun hb_2=>?_) (fun hb_2=>?_))
 ·refine Yp 9 2 ?_;rw [hb_1] at hK;rw [hb_2] at hK;exact sx hK
 refine Yp 9 2 ?_;rw [hb_1] at hK;rw [hb_2] at hK;exact sx hK
theorem wr {p0 p1:List Item} {r:Int} (h:lW p0 p1=some r):Fn Tryz.prog 31 [sL aa p0,sL aa p1,.func 73 []] (iI r):=by
 unfold lW at h;refine fT 0 8 Tryz.func31 Tryz.ntmps31 rfl (sQ (aj Ty.s26 rfl (Y 3 0 (itr (fun ss_7:Int=>mkA 39 [(0,sL aa p0),(1,sL aa p1),(2,.func 73 []),(11,sL aa p0),(12,iI ((p0).length:Int)),(13,iI ss_7)]) (fun ss_7=>[]) h (wk [] [] 0 rfl) (fun ss_7 v_8 h hv_8=>?_)))));revert hv_8 h;revert ss_7;intro s1 h hv_8;replace h:iT p0 p1 s1=some v_8:=h;try dsimp only
 unfold iT at h;refine X 5 0 (T.ci h rfl (fun hb_9 h=>?_) (fun hb_9 h=>?_))
 ·refine B h fun x3 hx3 h=>(X 6 0 (sQ (ao Ty.s26 (fun _=>rfl) rfl rfl hx3 (Y 10 0 (sQ (aj Ty.s26 rfl (Y 2 1 (T.ci h rfl (fun hb_10 h=>?_) (fun hb_10 h=>?_)))))))))
  ·refine X 4 1 ?_;replace h:=mi h hv_8;cases h;exact tD
  refine B h fun x5 hx5 h=>(X 5 1 (sQ (ao Ty.s26 (fun _=>rfl) rfl rfl hx5 (B h fun x7 hx7 h=>(Y 9 1 (sO (cF (xj hx7) ⟨rfl,(Y 7 2 (T.ci h rfl (fun hb_12 h=>?_) (fun hb_12 h=>?_)))⟩)))))))
  ·refine X 5 2 ?_;replace h:=mi h hv_8;cases h;exact tD
  exact X 5 2 (lk h (wk [] [] 2 rfl))
 refine X 1 0 ?_;replace h:=mi h hv_8;refine X 4 0 (sQ (aj Ty.s26 rfl (Y 1 0 (sQ (aj Ty.s26 rfl (Y 2 0 (T.ci h rfl (fun hb_15 h=>?_) (fun hb_15 h=>?_))))))))
 ·refine X 4 0 ?_;cases h;exact tD
 refine X 5 0 ?_;cases h;exact tD
theorem xr {p0 p1:List Item} {r:Int} (h:kK p0 p1=some r):Fn Tryz.prog 48 [sL aa p0,sL aa p1] (iI r):=by
 unfold kK at h;refine fT 0 0 Tryz.func48 Tryz.ntmps48 rfl ?_;refine B h fun x2 hx2 h=>(X 8 0 (sO (cF (wr hx2) ⟨rfl,(Y 2 0 ?_)⟩)))
 cases h;exact tD
theorem w7 {p0 r:List (List Item)} (h:nW p0=some r):FnX Tryz.prog 33 [.ref 0,.func 48 []] [aR 26 1 (ae aa) p0] (.tup []) [aR 26 1 (ae aa) r]:=r6 48 kK (fun h=>xr h) xm h
theorem ww {p0 r:List (List Item)} (h:kf p0=some r):FnX Tryz.prog 34 [.ref 0,.func 13 []] [aR 26 1 (ae aa) p0] (.ref 1) [.dead,aR 26 1 (ae aa) r]:=by
 unfold kf at h;refine fT 1 0 Tryz.func34 Tryz.ntmps34 rfl ?_;refine T.mvS 0 0 rfl rfl rfl rfl (X 8 2 (sQ (bt (en:=(ae aa)) Ty.s25 rfl rfl (Y 2 2 (T.ci h rfl (fun hb_1 h=>?_) (fun hb_1 h=>?_))))))
 ·refine X 5 2 ?_;cases h;exact tO [] [0,1] 2
 refine X 7 2 (itr (fun ss_50:Int=>mkA 66 [(0,.ref 1),(1,.func 13 []),(5,iI ss_50)]) (fun ss_50=>[.dead,aR 26 1 (ae aa) p0]) h (wk [] [0,1] 2 rfl) (fun ss_50 v_51 h hv_51=>?_));revert hv_51 h;revert ss_50;intro s1 h hv_51;replace h:eu p0 s1=some v_51:=h;try dsimp only
 unfold eu at h;refine X 5 2 (sQ (bt (en:=(ae aa)) Ty.s25 rfl rfl (Y 2 2 (T.ci h rfl (fun hb_52 h=>?_) (fun hb_52 h=>?_)))))
 ·refine B h fun x7 hx7 h=>(B h fun x8 hx8 h=>(B h fun x9 hx9 h=>(B h fun x10 hx10 h=>(B h fun x11 hx11 h=>(X 4 2 (T.drawn mixed (k:=11) rfl ?_))))))
  apply RA.jn 1 (bm 11 1023);intro hS53
  ·refine rq [0,1,2] 8 (r0 3 rfl (aA (en:=(ae aa)) Ty.s25 rfl rfl rfl hx7 (rq [5,6,7] 4 (r0 8 rfl (aA (en:=(ae aa)) Ty.s25 rfl rfl rfl hx9 (ra2 4 9 ?_ ?_))))))
   ·exact oO rfl (aB (en:=(ae aa)) (a:=x8) rfl rfl hx8 (aE Ty.k26 (c:=sL aa x8) rfl (ra1 9 (oO rfl (aB (en:=(ae aa)) (a:=x10) rfl rfl hx10 (aE Ty.k26 (c:=sL aa x10) rfl (raE hS53)))))))
   ·exact oO rfl (aB (en:=(ae aa)) (a:=x10) rfl rfl hx10 (aE Ty.k26 (c:=sL aa x10) rfl (ra1 4 (oO rfl (aB (en:=(ae aa)) (a:=x8) rfl rfl hx8 (aE Ty.k26 (c:=sL aa x8) rfl (raT hS53)))))))
  refine ra1 10 (oO rfl (cF (nX hx11) ⟨rfl,(RA.done (by decide +kernel) (T.ci h rfl (fun hb_54 h=>?_) (fun hb_54 h=>?_)))⟩))
  ·refine B h fun x13 hx13 h=>(X 4 2 (sO (dK (en:=(ae aa)) (xs:=p0) Ty.s25 rfl rfl rfl rfl hx13 (Y 8 2 (itr (fun ss_67:Int × Int × (List (List Item))=>mkA 66 [(0,.ref 1),(1,.func 13 []),(5,iI ss_67.1),(6,.vw 1 1 ((s1).toNat) ((((p0).length:Int)).toNat - (s1).toNat) none),(7,iI ss_67.2.1)]) (fun ss_67=>[.dead,aR 26 1 (ae aa) ss_67.2.2]) h (Weak.mkN [] [0,1] (by decide) (by decide) rfl ⟨bW rfl,em trivial,be rfl,rn_vw rfl rfl rfl,be rfl,trivial⟩ (jZ rfl (rw_ar rfl rfl (bh)))) (fun ss_67 v_68 h hv_68=>?_))))))
   obtain ⟨s14,s15,s16⟩:=ss_67;replace h:fM p0 s1 s14 s15 s16=some v_68:=h;try dsimp only
   unfold fM at h;refine X 5 2 (sO (pj Ty.s25 rfl (Y 2 2 (T.ci h rfl (fun hb_69 h=>?_) (fun hb_69 h=>?_)))))
   ·refine B h fun x22 hx22 h=>(B h fun x23 hx23 h=>(B h fun x24 hx24 h=>(B h fun x25 hx25 h=>(B h fun x26 hx26 h=>(X 4 2 (T.drawn mixed (k:=12) rfl ?_))))))
    apply RA.jn 2 (bm 12 1023);intro hS70;apply RA.jn 3 (bm 12 1007);intro hS71;apply RA.jn 3 (bm 12 511);intro hS72;apply RA.jn 4 (bm 12 495);intro hS73
    ·refine rq [0,1,2,5,6,7] 6 (ra2 3 8 ?_ ?_)
     ·refine oO rfl (du Ty.s25 rfl rfl hx22 (ra2 4 8 ?_ ?_))
      ·exact oO rfl (aB (en:=(ae aa)) (a:=x23) rfl rfl hx23 (aE Ty.k26 (c:=sL aa x23) rfl (ra1 8 (oO rfl (du Ty.s25 rfl rfl hx24 (raE hS72))))))
      ·exact oO rfl (du Ty.s25 rfl rfl hx24 (raE hS73))
     ·refine oO rfl (du Ty.s25 rfl rfl hx24 (ra2 3 9 ?_ ?_))
      ·exact oO rfl (du Ty.s25 rfl rfl hx22 (raT hS73))
      ·exact oO rfl (aB (en:=(ae aa)) (a:=x25) rfl rfl hx25 (aE Ty.k26 (c:=sL aa x25) rfl (ra1 3 (oO rfl (du Ty.s25 rfl rfl hx22 (raE hS71))))))
    ·refine ra2 4 9 ?_ ?_
     ·exact oO rfl (aB (en:=(ae aa)) (a:=x23) rfl rfl hx23 (aE Ty.k26 (c:=sL aa x23) rfl (raT hS72)))
     ·exact oO rfl (aB (en:=(ae aa)) (a:=x25) rfl rfl hx25 (aE Ty.k26 (c:=sL aa x25) rfl (raT hS71)))
    ·exact ra1 9 (oO rfl (aB (en:=(ae aa)) (a:=x25) rfl rfl hx25 (aE Ty.k26 (c:=sL aa x25) rfl (raE hS70))))
    ·exact ra1 4 (oO rfl (aB (en:=(ae aa)) (a:=x23) rfl rfl hx23 (aE Ty.k26 (c:=sL aa x23) rfl (raT hS70))))
    refine ra1 10 (oO rfl (cF (nX hx26) ⟨rfl,(rq [11] 0 (RA.done (by decide +kernel) (T.ci h rfl (fun hb_74 h=>?_) (fun hb_74 h=>?_))))⟩))
    ·refine B h fun x31 hx31 h=>(B h fun x32 hx32 h=>(B h fun x33 hx33 h=>(B h fun x34 hx34 h=>(X 6 2 (sO (du Ty.s25 rfl rfl hx31 (sO (aB (en:=(ae aa)) (a:=x32) rfl rfl hx32 (aE Ty.k26 (c:=sL aa x32) rfl (sQ (aA (en:=(ae aa)) Ty.s25 rfl rfl rfl hx33 (sO (cB (en:=(ae aa)) (a:=x34) (a':=x32) Ty.c26 Ty.i26 rfl (vs:=[sL aa x32]) rfl rfl rfl hx34 rfl rfl rfl (Y 11 2 ?_))))))))))))))
     exact lk h (Weak.mkN [] [0,1] (by decide) (by decide) rfl ⟨bW rfl,em trivial,be rfl,rn_vw rfl rfl rfl,be rfl,trivial⟩ (jZ rfl (rw_ar rfl rfl (bh))))
    exact X 6 2 (lk h (Weak.mkN [] [0,1] (by decide) (by decide) rfl ⟨bW rfl,em trivial,be rfl,rn_vw rfl rfl rfl,be rfl,trivial⟩ (jZ rfl (rw_ar rfl rfl (bh)))))
   refine X 1 2 ?_;replace h:=mi h hv_68;refine B h fun x37 hx37 h=>(B h fun x38 hx38 h=>(X 4 2 (sO (dK (en:=(ae aa)) (xs:=s16) Ty.s25 rfl rfl rfl rfl hx37 (sO (re (en:=(ae aa)) (xs:=s16) (z0:=[]) Ty.s25 Ty.z26 (fun σ w F vs h=>uN σ w F vs h) rfl (fun _=>rfl) rfl rfl hx38 rfl (B h fun x40 hx40 h=>(Y 5 2 (sO (ov (en:=(ae aa)) (xs:=(clr s16 ((s14).toNat) ((((s16).length:Int)).toNat - (s14).toNat) [])) Ty.s25 rfl rfl rfl hx40 rfl rfl (Y 2 3 ?_)))))))))))
   replace h:=mi h hv_51;cases h;exact tO [] [0,2] 3
  exact X 6 2 (lk h (wk [] [0,1] 2 rfl))
 refine X 1 2 ?_;replace h:=mi h hv_51;refine X 5 2 ?_;cases h;exact tO [] [0,1] 2
theorem xt {p0:Net} {p1:List (List Item)} {p2:Int} {r:(List (List Item)) × Int × Bool} (h:jh p0 p1 p2=some r):FnO Tryz.prog 11 [.agg (au p0),sL (ae aa) p1,iI p2] (.tup [.ref 0,iI r.2.1,.bool r.2.2]) [aR 26 1 (ae aa) r.1]:=by
 unfold jh at h;refine fT 0 9 Tryz.func11 Tryz.ntmps11 rfl (sO (im rfl rfl (B h fun x2 hx2 h=>(Y 14 2 (sO (cD (xu hx2) ⟨rfl,(sO (aM (rows:=List.map aH [x2]) (vs:=[.agg (aH x2)]) Ty.s83 Ty.z53 rfl rfl rfl rfl rfl rfl (Y 4 3 (itr (fun ss_109:Int × (List ((List UInt8) × Int)) × (List (List Item)) × (List State)=>mkA 160 [(1,sL (ae aa) p1),(2,iI p2),(3,.ptr 0 0),(9,.mpr 1),(10,iI ss_109.1),(11,.ref 2),(12,.ref 3)]) (fun ss_109=>[.box (au p0),.mp (List.map kS (List.map Prod.fst ss_109.2.1)) (List.map kI (List.map Prod.snd ss_109.2.1)),aR 26 1 (ae aa) ss_109.2.2.1,aR 53 5 aH ss_109.2.2.2]) h (wk [(11,26,1)] [0,1,3,2] 3 rfl) (fun ss_109 v_110 h hv_110=>?_)))))⟩))))));obtain ⟨s3,s4,s5,s6⟩:=ss_109;replace h:gf p0 p1 p2 s3 s4 s5 s6=some v_110:=h;try dsimp only
 unfold gf at h;refine X 4 4 (sQ (bt (en:=aH) Ty.s83 rfl rfl (Y 2 4 (T.ci h rfl (fun hb_111 h=>?_) (fun hb_111 h=>?_)))))
 ·refine B h fun x9 hx9 h=>(B h fun x10 hx10 h=>(X 6 4 (sQ (bt (en:=aH) Ty.s83 rfl rfl (Y 1 4 (sQ (aA (en:=aH) Ty.s83 rfl rfl rfl hx9 (sO (aB (en:=aH) (a:=x10) rfl rfl hx10 (cm Ty.k53 Ty.c53 rfl (cs:=(aH x10)) rfl (B h fun x12 hx12 h=>(Y 7 4 (sQ (bt (en:=aH) Ty.s83 rfl rfl ?_))))))))))))))
  refine Y 1 5 (sO (ov (en:=aH) (xs:=s6) Ty.s83 rfl rfl rfl hx12 rfl rfl (B h fun x14 hx14 h=>(Y 7 6 (sO (cO 6 (ql hx14) ⟨rfl,(B h fun x16 hx16 h=>(Y 7 7 (sO (cG [6,0] 7 2 (wG hx16) ⟨rfl,(Y 3 7 (itr (fun ss_114:Int × (List Int) × (List (List Item)) × (List Memory) × (List Choice) × (List Item) × (List Move)=>mkA 160 [(1,sL (ae aa) p1),(2,iI p2),(3,.ptr 0 0),(9,.mpr 1),(10,iI s3),(11,.ref 2),(12,.ref 3),(13,.ptr 4 0),(14,.ref 5),(15,iI ss_114.1)]) (fun ss_114=>[.box (au p0),.mp (List.map kS (List.map Prod.fst s4)) (List.map kI (List.map Prod.snd s4)),aR 26 1 (ae aa) s5,aR 53 5 aH x12,.box [sL ah ss_114.2.1,sL (ae aa) ss_114.2.2.1,sL am ss_114.2.2.2.1,sL aF ss_114.2.2.2.2.1,sL aa ss_114.2.2.2.2.2.1],aR 88 2 aD ss_114.2.2.2.2.2.2]) h (wk [] [0,1,2,5,4,6] 7 rfl) (fun ss_114 v_115 h hv_115=>?_)))⟩))))⟩))))));obtain ⟨s17,s18,s19,s20,s21,s22,s23⟩:=ss_114;replace h:fh p0 p1 p2 s3 s4 s5 x12 s17 s18 s19 s20 s21 s22 s23=some v_115:=h;try dsimp only
  unfold fh at h;refine X 6 6 (T.ci h rfl (fun hb_116 h=>?_) (fun hb_116 h=>?_))
  ·refine B h fun x27 hx27 h=>(B h fun x28 hx28 h=>(B h fun x29 hx29 h=>(X 4 6 (T.drawn mixed (k:=12) rfl (rq [1,3,4] 9 (r0 5 rfl (aA (en:=aD) Ty.s84 rfl rfl rfl hx27 (rL [0,7,8,9,10,11] 0 rfl (rL [2,7,8,9,10,11] 2 rfl (ra1 6 ?_))))))))))
   refine oO rfl (aB (en:=aD) (a:=x28) rfl rfl hx28 (cm Ty.k88 Ty.c88 rfl (cs:=(aD x28)) rfl (ra1 7 (oO rfl (cD (nY hx29) ⟨rfl,(rq [8,9,10] 1 (ra1 11 (og 6 ⟨rfl,(RA.done (by decide +kernel) (B h fun x30 hx30 h=>(X 4 6 (sO (cO 6 (ql hx30) ⟨rfl,?_⟩)))))⟩)))⟩)))));exact B h fun x31 hx31 h=>(Y 5 7 (sO (cG [6,0] 7 2 (wI hx31) ⟨rfl,(Y 2 7 (lk h (wk [] [0,1,2,3,4,6] 7 rfl)))⟩)))
  refine X 1 6 ?_;replace h:=mi h hv_115;refine X 9 6 (sQ (aj Ty.s22 rfl (Y 3 6 (itr (fun ss_132:(List UInt8) × Int=>mkA 160 [(1,sL (ae aa) p1),(2,iI p2),(3,.ptr 0 0),(9,.mpr 1),(10,iI s3),(11,.ref 2),(12,.ref 3),(13,.ptr 4 0),(14,.ref 5),(16,.str ss_132.1),(75,iI ((p0.Nodes).length:Int)),(76,iI ss_132.2)]) (fun ss_132=>[.box (au p0),.mp (List.map kS (List.map Prod.fst s4)) (List.map kI (List.map Prod.snd s4)),aR 26 1 (ae aa) s5,aR 53 5 aH x12,.box [sL ah s18,sL (ae aa) s19,sL am s20,sL aF s21,sL aa s22],aR 88 2 aD s23]) h (wk [] [0,1,2,3,4,5] 6 rfl) (fun ss_132 v_133 h hv_133=>?_)))));obtain ⟨s32,s33⟩:=ss_132;replace h:dz p0 p1 p2 s3 s4 s5 x12 s18 s19 s20 s21 s22 s23 s32 s33=some v_133:=h;try dsimp only
  unfold dz at h;refine X 5 6 (T.ci h rfl (fun hb_134 h=>?_) (fun hb_134 h=>?_))
  ·refine B h fun x35 hx35 h=>(X 14 6 (sO (cO 6 (xk hx35) ⟨rfl,(sQ (bt (en:=ah) Ty.s49 rfl rfl (Y 3 7 (itr (fun ss_137:(List UInt8) × Int=>mkA 160 [(1,sL (ae aa) p1),(2,iI p2),(3,.ptr 0 0),(9,.mpr 1),(10,iI s3),(11,.ref 2),(12,.ref 3),(13,.ptr 4 0),(14,.ref 5),(16,.str ss_137.1),(75,iI ((p0.Nodes).length:Int)),(76,iI s33),(82,.ref 6),(83,iI ((x35).length:Int)),(84,iI ss_137.2)]) (fun ss_137=>[.box (au p0),.mp (List.map kS (List.map Prod.fst s4)) (List.map kI (List.map Prod.snd s4)),aR 26 1 (ae aa) s5,aR 53 5 aH x12,.box [sL ah s18,sL (ae aa) s19,sL am s20,sL aF s21,sL aa s22],aR 88 2 aD s23,aR 3 1 ah x35]) h (wk [] [0,1,2,3,4,5,6] 7 rfl) (fun ss_137 v_138 h hv_138=>?_)))))⟩)))
   obtain ⟨s36,s37⟩:=ss_137;replace h:gh s33 x35 s36 s37=some v_138:=h;try dsimp only
   unfold gh at h;refine X 5 7 (T.ci h rfl (fun hb_139 h=>?_) (fun hb_139 h=>?_))
   ·refine B h fun x40 hx40 h=>(B h fun x41 hx41 h=>(X 5 7 (sQ (aA (en:=ah) Ty.s49 rfl rfl rfl hx40 (sO (aB (en:=ah) (a:=x41) rfl rfl hx41 (aE Ty.k3 (c:=iI x41) rfl (B h fun x42 hx42 h=>(Y 7 7 (sO (aM (rows:=List.map enc8 [IntKind.u8.wrap (IntKind.i64.wrap (97+x41))]) (vs:=[.int .u8 (IntKind.u8.wrap (IntKind.i64.wrap (97+x41)))]) Ty.s93 Ty.z5 rfl rfl rfl rfl rfl rfl (sO (xY (xs:=[IntKind.u8.wrap (IntKind.i64.wrap (97+x41))]) Tryz.underlying93 Tryz.underlying5 Tryz.underlying9 rfl rfl (sQ (lQ rfl rfl hx42 ?_)))))))))))))))
    exact Y 6 8 (lk h (wk [] [0,1,2,3,4,5,6] 8 rfl))
   refine X 1 7 ?_;replace h:=mi h hv_138;exact B h fun x43 hx43 h=>(X 2 7 (sQ (lQ rfl rfl hx43 (Y 6 7 (lk h (wk [] [0,1,2,3,4,5] 7 rfl))))))
  refine X 1 6 ?_;replace h:=mi h hv_133;refine X 5 6 (sO (jT (ek:=kS) (ev:=kI) (xs:=s4) (k:=s32) (z0:=0) Tryz.underlying81 (KeyT.str Tryz.underlying9) Ty.w3 (fun _ _ _=>.int _ _) rfl rfl rfl (Y 1 6 (sO (iE (ek:=kS) (ev:=kI) (xs:=s4) (k:=s32) (a:=(IntKind.i64.wrap (((mget s32 s4).getD 0)+1))) (.inl rfl) Tryz.underlying81 (KeyT.str Tryz.underlying9) rfl rfl rfl rfl rfl (Y 5 6 (sO (jT (ek:=kS) (ev:=kI) (xs:=(mset s32 (IntKind.i64.wrap (((mget s32 s4).getD 0)+1)) s4)) (k:=s32) (z0:=0) Tryz.underlying81 (KeyT.str Tryz.underlying9) Ty.w3 (fun _ _ _=>.int _ _) rfl rfl rfl (Y 2 6 (T.ci h rfl (fun hb_142 h=>?_) (fun hb_142 h=>?_)))))))))))
  ·exact X 1 6 (lk h (wk [] [0,1,2,3] 6 rfl))
  refine X 14 6 (T.ci h rfl (fun hb_143 h=>?_) (fun hb_143 h=>?_))
  ·refine X 7 6 ?_;replace h:=mi h hv_110;cases h;exact tO [(0,26,1)] [6] 6
  refine X 1 6 (jn (Z:=List (List Item)) (fun zz_152=>mkA 160 [(1,sL (ae aa) p1),(2,iI p2),(3,.ptr 0 0),(9,.mpr 1),(10,iI (IntKind.i64.wrap (s3+1))),(11,.ref 2),(12,.ref 3),(13,.ptr 4 0),(14,.ref 5)]) (fun zz_152=>[.box (au p0),.mp (List.map kS (List.map Prod.fst (mset s32 (IntKind.i64.wrap (((mget s32 s4).getD 0)+1)) s4))) (List.map kI (List.map Prod.snd (mset s32 (IntKind.i64.wrap (((mget s32 s4).getD 0)+1)) s4))),aR 26 1 (ae aa) zz_152,aR 53 5 aH x12,.box [sL ah s18,sL (ae aa) s19,sL am s20,sL aF s21,sL aa s22],aR 88 2 aD s23]) (fun zz_152=>ff p0 p1 s3 s4 x12 s18 s19 s20 s21 s22 s23 s32 zz_152=some v_110) (fun zz_152 h=>?_) (fun hK3=>?_))
  ·revert h;revert zz_152;intro z51 h;replace h:ff p0 p1 s3 s4 x12 s18 s19 s20 s21 s22 s23 s32 z51=some v_110:=h;try dsimp only
   unfold ff at h;refine X 3 6 (sQ (bt (en:=aD) Ty.s84 rfl rfl (Y 3 6 (itr (fun ss_155:Int × (List State)=>mkA 160 [(1,sL (ae aa) p1),(2,iI p2),(3,.ptr 0 0),(9,.mpr 1),(10,iI (IntKind.i64.wrap (s3+1))),(11,.ref 2),(12,.ref 3),(13,.ptr 4 0),(136,.ref 5),(137,iI ((s23).length:Int)),(138,iI ss_155.1)]) (fun ss_155=>[.box (au p0),.mp (List.map kS (List.map Prod.fst (mset s32 (IntKind.i64.wrap (((mget s32 s4).getD 0)+1)) s4))) (List.map kI (List.map Prod.snd (mset s32 (IntKind.i64.wrap (((mget s32 s4).getD 0)+1)) s4))),aR 26 1 (ae aa) z51,aR 53 5 aH ss_155.2,.box [sL ah s18,sL (ae aa) s19,sL am s20,sL aF s21,sL aa s22],aR 88 2 aD s23]) h (wk [] [0,1,2,3,4,5] 6 rfl) (fun ss_155 v_156 h hv_156=>?_)))));obtain ⟨s52,s53⟩:=ss_155;replace h:f7 p0 p1 s3 s4 s18 s19 s20 s21 s22 s23 s32 z51 s52 s53=some v_156:=h;try dsimp only
   unfold f7 at h;refine X 5 6 (T.ci h rfl (fun hb_157 h=>?_) (fun hb_157 h=>?_))
   ·refine B h fun x56 hx56 h=>(B h fun x57 hx57 h=>(X 5 6 (sQ (aA (en:=aD) Ty.s84 rfl rfl rfl hx56 (sO (aB (en:=aD) (a:=x57) rfl rfl hx57 (cm Ty.k88 Ty.c88 rfl (cs:=(aD x57)) rfl (B h fun x59 hx59 h=>(Y 9 6 (sO (cD (nY hx59) ⟨rfl,(B h fun x60 hx60 h=>(Y 10 7 ?_))⟩)))))))))))
    exact sO (aM (rows:=List.map aH [x59.1]) (vs:=[.agg (aH x59.1)]) Ty.s83 Ty.z53 rfl rfl rfl rfl rfl rfl (sO (bG (en:=aH) (xs:=s53) (ys:=([x59.1]:List State)) Ty.s83 (fun _=>rfl) rfl rfl rfl hx60 rfl rfl (Y 6 10 (lk h (wk [] [0,1,2,9,4,5] 10 rfl))))))
   refine X 1 6 ?_;replace h:=mi h hv_156;exact lk h (wk [] [0,1,2,3] 6 rfl)
  refine X 4 6 (sQ (bt (en:=aD) Ty.s84 rfl rfl (Y 2 6 (T.ci h rfl (fun hb_159 h=>?_) (fun hb_159 h=>?_)))))
  ·refine X 9 6 (sQ (aj Ty.s26 rfl (Y 3 6 (itr (fun ss_162:Int × (List Item)=>mkA 160 [(1,sL (ae aa) p1),(2,iI p2),(3,.ptr 0 0),(9,.mpr 1),(10,iI (IntKind.i64.wrap (s3+1))),(11,.ref 2),(12,.ref 3),(13,.ptr 4 0),(14,.ref 5),(20,.ref 6),(117,sL aa s22),(118,iI ((s22).length:Int)),(119,iI ss_162.1)]) (fun ss_162=>[.box (au p0),.mp (List.map kS (List.map Prod.fst (mset s32 (IntKind.i64.wrap (((mget s32 s4).getD 0)+1)) s4))) (List.map kI (List.map Prod.snd (mset s32 (IntKind.i64.wrap (((mget s32 s4).getD 0)+1)) s4))),aR 26 1 (ae aa) s5,aR 53 5 aH x12,.box [sL ah s18,sL (ae aa) s19,sL am s20,sL aF s21,sL aa s22],aR 88 2 aD s23,aR 39 3 aa ss_162.2]) h (wk [(20,39,3)] [0,1,2,3,4,5,6] 6 rfl) (fun ss_162 v_163 h hv_163=>?_)))));obtain ⟨s44,s45⟩:=ss_162;replace h:f5 p0 p1 s3 s4 s5 x12 s18 s19 s20 s21 s22 s23 s32 s44 s45=some v_163:=h;try dsimp only
   unfold f5 at h;refine X 5 7 (T.ci h rfl (fun hb_164 h=>?_) (fun hb_164 h=>?_))
   ·refine B h fun x47 hx47 h=>(X 5 7 (sQ (ao Ty.s26 (fun _=>rfl) rfl rfl hx47 (B h fun x48 hx48 h=>(B h fun x49 hx49 h=>(Y 10 7 (sO (cF (hJ hx48) ⟨rfl,(sO (aM (rows:=List.map aa [x48]) (vs:=[.agg (aa x48)]) Ty.s26 Ty.z39 rfl rfl rfl rfl rfl rfl (sO (bG (en:=aa) (xs:=s45) (ys:=([x48]:List Item)) Ty.s26 (fun _=>rfl) rfl rfl rfl hx49 rfl rfl (Y 6 10 ?_)))))⟩))))))))
    exact lk h (wk [] [0,1,2,3,4,5,9] 10 rfl)
   refine X 1 7 ?_;replace h:=mi h hv_163;exact B h fun x50 hx50 h=>(X 3 7 (RS.fC 6 (sO (aM (rows:=List.map (ae aa) [s45]) (vs:=[sL aa s45]) Ty.s25 Ty.z26 rfl rfl rfl rfl rfl rfl (sO (bG (en:=(ae aa)) (xs:=s5) (ys:=([s45]:List (List Item))) Ty.s25 (fun _=>rfl) rfl rfl rfl hx50 rfl rfl (Y 2 9 (wu (hK3 x50 h) [] [0,1,8,3,4,5] 9 rfl))))))))
  exact X 1 6 (sx (hK3 s5 h))
 refine X 1 4 ?_;replace h:=mi h hv_110;refine B h fun x62 hx62 h=>(X 3 4 (sO (cG [2] 4 1 (w7 hx62) ⟨rfl,(B h fun x64 hx64 h=>(Y 4 4 (sO (cG [2] 4 2 (ww hx64) ⟨rfl,(Y 5 5 ?_)⟩))))⟩)))
 cases h;exact tO [] [4] 5
theorem xh {p0 p1:Item} {r:Bool} (h:mo p0 p1=some r):Fn Tryz.prog 51 [.agg (aa p0),.agg (aa p1)] (.bool r):=by
 unfold mo at h;refine fT 0 6 Tryz.func51 Tryz.ntmps51 rfl (j1 [(4,.bool ((p0.Key==p1.Key) && p0.Val==p1.Val))] [] ?_ (fun hK=>?_))
 ·cases h;exact tD
 refine X 8 2 (gp 10 (fun hb_1=>?_) (fun hb_1=>?_))
 ·refine Yp 8 2 ?_;rw [hb_1] at hK;exact wu hK [] [] 2 rfl
 refine Yp 8 2 ?_;rw [hb_1] at hK;exact wu hK [] [] 2 rfl
theorem ws {p0 p1:List Item} {r:Bool} (h:lX p0 p1=some r):Fn Tryz.prog 50 [sL aa p0,sL aa p1,.func 51 []] (.bool r):=by
 unfold lX at h;refine fT 0 8 Tryz.func50 Tryz.ntmps50 rfl (sQ (aj Ty.s26 rfl (Y 1 0 (sQ (aj Ty.s26 rfl (Y 2 0 (T.ci h rfl (fun hb_1 h=>?_) (fun hb_1 h=>?_))))))))
 ·refine X 4 0 ?_;cases h;exact tD
 refine X 5 0 (sQ (aj Ty.s26 rfl (Y 3 0 (itr (fun ss_6:Int=>mkA 32 [(1,sL aa p1),(2,.func 51 []),(15,sL aa p0),(16,iI ((p0).length:Int)),(17,iI ss_6)]) (fun ss_6=>[]) h (wk [] [] 0 rfl) (fun ss_6 v_7 h hv_7=>?_)))));revert hv_7 h;revert ss_6;intro s1 h hv_7;replace h:ka p0 p1 s1=some v_7:=h;try dsimp only
 unfold ka at h;refine X 5 0 (T.ci h rfl (fun hb_8 h=>?_) (fun hb_8 h=>?_))
 ·refine B h fun x3 hx3 h=>(X 6 0 (sQ (ao Ty.s26 (fun _=>rfl) rfl rfl hx3 (B h fun x5 hx5 h=>(Y 9 0 (sQ (ao Ty.s26 (fun _=>rfl) rfl rfl hx5 (B h fun x7 hx7 h=>(Y 9 1 (sO (cF (xh hx7) ⟨rfl,(Y 2 2 ?_)⟩)))))))))))
  refine T.ci h rfl (fun hb_9 h=>?_) (fun hb_9 h=>?_)
  ·refine X 4 2 ?_;replace h:=mi h hv_7;cases h;exact tD
  exact X 5 2 (lk h (wk [] [] 2 rfl))
 refine X 1 0 ?_;replace h:=mi h hv_7;refine X 4 0 ?_;cases h;exact tD
theorem xx {p0 p1:List Item} {r:Bool} (h:kN p0 p1=some r):Fn Tryz.prog 16 [sL aa p0,sL aa p1] (.bool r):=by
 unfold kN at h;refine fT 0 0 Tryz.func16 Tryz.ntmps16 rfl ?_;refine B h fun x2 hx2 h=>(X 8 0 (sO (cF (ws hx2) ⟨rfl,(Y 2 0 ?_)⟩)))
 cases h;exact tD
theorem wO {p0 p1:List Item} {r:Bool} (h:l9 p0 p1=some r):FnX Tryz.prog 15 [sL aa p0,.ptr 0 0] [.box [sL aa p1]] (.bool r) [.box [sL aa p1]]:=by
 unfold l9 at h;refine fT 1 0 Tryz.func15 Tryz.ntmps15 rfl ?_;refine B h fun x2 hx2 h=>(X 8 1 (sO (cF (xx hx2) ⟨rfl,(Y 2 1 ?_)⟩)))
 cases h;exact tN [0]
theorem wx {p0:List (List Item)} {p1:List Item} {r:Int} (h:lY p0 p1=some r):FnX Tryz.prog 49 [.ref 0,.func 15 [.ptr 1 0]] [aR 26 1 (ae aa) p0,.box [sL aa p1]] (iI r) [aR 26 1 (ae aa) p0,.box [sL aa p1]]:=by
 unfold lY at h;refine fT 2 8 Tryz.func49 Tryz.ntmps49 rfl (sQ (bt (en:=(ae aa)) Ty.s25 rfl rfl (Y 3 2 (itr (fun ss_5:Int=>mkA 19 [(0,.ref 0),(1,.func 15 [.ptr 1 0]),(7,iI ((p0).length:Int)),(8,iI ss_5)]) (fun ss_5=>[aR 26 1 (ae aa) p0,.box [sL aa p1]]) h (wk [] [0,1] 2 rfl) (fun ss_5 v_6 h hv_6=>?_)))));revert hv_6 h;revert ss_5;intro s1 h hv_6;replace h:fO p0 p1 s1=some v_6:=h;try dsimp only
 unfold fO at h;refine X 5 2 (T.ci h rfl (fun hb_7 h=>?_) (fun hb_7 h=>?_))
 ·refine B h fun x5 hx5 h=>(B h fun x6 hx6 h=>(B h fun x7 hx7 h=>(X 13 2 (sQ (aA (en:=(ae aa)) Ty.s25 rfl rfl rfl hx5 (sO (aB (en:=(ae aa)) (a:=x6) rfl rfl hx6 (aE Ty.k26 (c:=sL aa x6) rfl (sO (cG [1] 2 1 (wO hx7) ⟨rfl,(Y 1 2 (T.ci h rfl (fun hb_8 h=>?_) (fun hb_8 h=>?_)))⟩))))))))))
  ·refine X 5 2 ?_;replace h:=mi h hv_6;cases h;exact tN [0,1]
  exact X 5 2 (lk h (wk [] [0,1] 2 rfl))
 refine X 1 2 ?_;replace h:=mi h hv_6;refine X 4 2 ?_;cases h;exact tN [0,1]
theorem wt {p0:List (List Item)} {p1:List Item} {r:Bool} (h:kb p0 p1=some r):FnX Tryz.prog 14 [.ref 0,.func 15 [.ptr 1 0]] [aR 26 1 (ae aa) p0,.box [sL aa p1]] (.bool r) [aR 26 1 (ae aa) p0,.box [sL aa p1]]:=by
 unfold kb at h;refine fT 2 0 Tryz.func14 Tryz.ntmps14 rfl ?_;refine B h fun x2 hx2 h=>(X 8 2 (sO (cG [0,1] 2 2 (wx hx2) ⟨rfl,(Y 3 2 ?_)⟩)))
 cases h;exact tN [0,1]
theorem xi {p0:Net} {p1:List (List Item)} {p2:List Item} {r:Bool} (h:mq p0 p1 p2=some r):Fn Tryz.prog 3 [.agg (au p0),sL (ae aa) p1,sL aa p2] (.bool r):=by
 unfold mq at h;refine fT 0 0 Tryz.func3 Tryz.ntmps3 rfl ?_;refine B h fun x2 hx2 h=>(X 10 0 (sO (cQ 2 (oH hx2) ⟨rfl,(B h fun x4 hx4 h=>(Y 11 3 (sO (cF (y5 hx4) ⟨rfl,(B h fun x6 hx6 h=>(Y 10 3 (sO (cF (wZ hx6) ⟨rfl,(B h fun x8 hx8 h=>?_)⟩))))⟩))))⟩)))
 refine Y 5 3 (sO (cF (xo hx8) ⟨rfl,(Y 2 3 (T.ci h rfl (fun hb_1 h=>?_) (fun hb_1 h=>?_)))⟩))
 ·refine X 4 3 ?_;cases h;exact tD
 refine X 5 3 (jn (Z:=Int × (List (List Item))) (fun zz_4=>mkA 95 [(5,.ptr 0 0),(7,.ref 1),(8,iI x2.2),(9,.bool x4.1),(10,iI x4.2),(11,iI zz_4.1),(12,.ref 2)]) (fun zz_4=>[.box [sL aa p2],aR 26 1 (ae aa) x2.1,aR 26 1 (ae aa) zz_4.2]) (fun zz_4=>fc p2 x2 x4 zz_4.1 zz_4.2=some r) (fun zz_4 h=>?_) (fun hK1=>?_))
 ·obtain ⟨z11,z12⟩:=zz_4;replace h:fc p2 x2 x4 z11 z12=some r:=h;try dsimp only
  unfold fc at h;refine X 1 3 ?_;obtain ⟨zt_10,hz,h⟩:=bind_some h;revert hz h;revert zt_10;intro c15 hz h;refine j1 [(5,.ptr 0 0),(9,.bool x4.1),(10,iI x4.2),(11,iI z11),(12,.ref 1),(67,.bool c15)] [.box [sL aa p2],aR 26 1 (ae aa) z12] ?_ (fun hK=>?_)
  ·refine T.ci h rfl (fun hb_11 h=>?_) (fun hb_11 h=>?_)
   ·refine X 4 2 ?_;cases h;exact tD
   refine X 5 2 (sQ (aj Ty.s26 rfl (Y 2 2 (T.ci h rfl (fun hb_12 h=>?_) (fun hb_12 h=>?_)))))
   ·refine j1 [(6,.bool ((x4.2==2) && !x4.1))] [] ?_ (fun hK=>?_)
    ·cases h;exact tD
    refine X 5 2 (gp 73 (fun hb_13=>?_) (fun hb_13=>?_))
    ·refine Yp 5 2 ?_;rw [hb_13] at hK;exact wu hK [] [] 2 rfl
    refine Yp 5 2 ?_;rw [hb_13] at hK;exact wu hK [] [] 2 rfl
   refine X 7 2 (T.ci h rfl (fun hb_14 h=>?_) (fun hb_14 h=>?_))
   ·refine j1 [(6,.bool ((x4.2==z11) && !x4.1))] [] ?_ (fun hK=>?_)
    ·cases h;exact tD
    refine X 6 2 (gp 82 (fun hb_15=>?_) (fun hb_15=>?_))
    ·refine Yp 5 2 ?_;rw [hb_15] at hK;exact wu hK [] [] 2 rfl
    refine Yp 5 2 ?_;rw [hb_15] at hK;exact wu hK [] [] 2 rfl
   refine X 1 2 ?_;obtain ⟨zt_17,hz,h⟩:=bind_some h;revert hz h;revert zt_17;intro c19 hz h;refine j1 [(6,.bool c19)] [] ?_ (fun hK=>?_)
   ·cases h;exact tD
   refine X 5 2 (gi 88 hz (fun hb_16 hz=>?_) (fun hb_16 hz=>?_))
   ·refine B hz fun x18 hx18 hz=>(Y 3 2 (yO rfl (cG [1,0] 2 2 (wt hx18) ⟨rfl,(Yp 4 2 ?_)⟩)))
    cases hz;exact wu hK [] [] 2 rfl
   refine Yp 8 2 ?_;cases hz;exact wu hK [] [] 2 rfl
  refine X 6 3 (gi 49 hz (fun hb_5 hz=>?_) (fun hb_5 hz=>?_))
  ·refine Yp 19 3 ?_;cases hz;exact wu hK [] [0,2] 3 rfl
  refine Y 3 3 (gi 52 hz (fun hb_6 hz=>?_) (fun hb_6 hz=>?_))
  ·refine Y 1 3 (yQ rfl (bt (en:=(ae aa)) Ty.s25 rfl rfl (Yp 4 3 (gi 58 hz (fun hb_7 hz=>?_) (fun hb_7 hz=>?_)))))
   ·refine Yp 10 3 ?_;cases hz;exact wu hK [] [0,2] 3 rfl
   refine Y 3 3 (gi 61 hz (fun hb_8 hz=>?_) (fun hb_8 hz=>?_))
   ·refine B hz fun x13 hx13 hz=>(Y 2 3 (yO rfl (cF (nS hx13) ⟨rfl,(Yp 4 3 ?_)⟩)))
    cases hz;exact wu hK [] [0,2] 3 rfl
   refine Yp 7 3 ?_;cases hz;exact wu hK [] [0,2] 3 rfl
  refine Yp 9 3 (gi 61 hz (fun hb_9 hz=>?_) (fun hb_9 hz=>?_))
  ·refine B hz fun x14 hx14 hz=>(Y 2 3 (yO rfl (cF (nS hx14) ⟨rfl,(Yp 4 3 ?_)⟩)))
   cases hz;exact wu hK [] [0,2] 3 rfl
  refine Yp 7 3 ?_;cases hz;exact wu hK [] [0,2] 3 rfl
 refine X 6 3 (T.ci h rfl (fun hb_18 h=>?_) (fun hb_18 h=>?_))
 ·refine B h fun x10 hx10 h=>(X 4 3 (sO (cQ 3 (xt hx10) ⟨rfl,(Y 18 4 (T.ci h rfl (fun hb_19 h=>?_) (fun hb_19 h=>?_)))⟩)))
  ·exact X 3 4 (wu (hK1 (2,x10.1) h) [] [1,2,3] 4 rfl)
  exact X 1 4 (wu (hK1 (x6,x10.1) h) [] [1,2,3] 4 rfl)
 exact X 1 3 (wu (hK1 (x6,[]) h) [(12,26,1)] [1,2,3] 3 rfl)
end
end Go.Proofs.YtoelnjpolhamfaaGreatDoor
