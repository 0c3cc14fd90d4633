/-
  Part 5 of the proof of trailAllowedLaw.proved: the code computes these functions, and the law holds of them, with no condition beyond the statement's own; put together by a program of ours (wip/decl.py) out of texts of ours.
-/
import Derived.Test.YtfbmoockopakjaaGreatZTrailAllowed4
namespace Go.Proofs.YtfbmoockopakjaaGreat
open Go.RowKit
set_option linter.unusedVariables false
set_option linter.unusedSimpArgs false
set_option maxRecDepth 100000
set_option maxHeartbeats 4000000
set_option synthInstance.maxSize 100000
set_option synthInstance.maxHeartbeats 4000000
theorem crossref_Moves_c (p0:Net) (p1:List (List Item)) (p2:State) (r:List Move) (h:Q9b p0 p1 p2=some r):FnO Tryz.prog 22 [.agg (Qma p0),sL (encL Qaa) p1,.agg (Qra p2)] (.ref 0) [aR 51 2 Qta r]:=by
  unfold Q9b at h
  refine fnT 0 Tryz.func22 Tryz.ntmps22 ?_
  refine T.seq (T.region (go 3 0 (RS.nil (T.seq (T.region (go 1 2 (RS.nil (T.seq (T.seq ?_)))))))))
  refine T.region (go 2 2 (sQ (Qfa Ty.s22 rfl (go 1 2 (RS.nil (T.block (T.iter (fun ss_27:Int × (List Move)=>mkA 52 [(1,sL (encL Qaa) p1),(3,.ptr 0 0),(5,.ptr 1 0),(7,.ref 2),(16,sL Qja p0.Nodes),(17,iI ((p0.Nodes).length:Int)),(18,iI ss_27.1)]) (fun ss_27=>[.box (Qma p0),.box (Qra p2),aR 51 2 Qta ss_27.2]) h (wk [(7,51,2)] [0,1,2] 2 rfl) (fun ss_27 v_28 h hv_28=>?_))))))))
  obtain ⟨s1,s2⟩:=ss_27
  replace h:Z0a p0 p1 p2 s1 s2=some v_28:=h
  try dsimp only
  unfold Z0a at h
  refine T.seq (T.region (go 1 3 (RS.nil (T.seq (T.ci h rfl (fun hb_29 h=>?_) (fun hb_29 h=>?_))))))
  ·refine T.skip (T.seq (T.block (T.seq ?_)))
   obtain ⟨x4,hx4,h⟩:=bind_some h
   refine T.region (go 1 3 (sQ (Qda Ty.s22 (fun _=>rfl) rfl rfl hx4 (go 4 3 (RS.nil (T.seq (T.region (go 1 4 (RS.nil (T.join (Z:=Int) (fun zz_31=>mkA 52 [(1,sL (encL Qaa) p1),(3,.ptr 0 0),(5,.ptr 1 0),(7,.ref 2),(8,iI s1),(10,iI zz_31),(16,sL Qja p0.Nodes),(17,iI ((p0.Nodes).length:Int)),(18,iI s1)]) (fun zz_31=>[.box (Qma p0),.box (Qra p2),aR 51 2 Qta s2]) (fun zz_31=>V8a p0 p1 s1 p2 s2 zz_31=some v_28) (fun zz_31 h=>?_) (fun hK2=>?_)))))))))))
   ·revert h;revert zz_31;intro z5 h
    replace h:V8a p0 p1 s1 p2 s2 z5=some v_28:=h
    try dsimp only
    unfold V8a at h
    refine T.seq (T.region (go 1 3 (RS.nil (T.block (T.iter (fun ss_36:Int × (List Move)=>mkA 52 [(1,sL (encL Qaa) p1),(3,.ptr 0 0),(5,.ptr 1 0),(7,.ref 2),(8,iI s1),(10,iI z5),(11,iI ss_36.1),(16,sL Qja p0.Nodes),(17,iI ((p0.Nodes).length:Int)),(18,iI s1)]) (fun ss_36=>[.box (Qma p0),.box (Qra p2),aR 51 2 Qta ss_36.2]) h (wk [] [0,1,2] 3 rfl) (fun ss_36 v_37 h hv_37=>?_))))))
    obtain ⟨s6,s7⟩:=ss_36
    replace h:Z1a p0 p1 s1 p2 z5 s6 s7=some v_37:=h
    try dsimp only
    unfold Z1a at h
    refine T.seq (T.seq (T.region (go 3 3 (RS.nil (T.ci h rfl (fun hb_38 h=>?_) (fun hb_38 h=>?_))))))
    ·refine T.skip (T.seq (T.block (T.seq (T.region (go 5 3 (RS.nil (T.seq ?_)))))))
     obtain ⟨x9,hx9,h⟩:=bind_some h
     refine T.region (go 4 4 (sO (cD (crossref_Moved_c p0 p1 p2 (⟨s1,s6⟩:Move) x9 hx9) ⟨rfl,(go 6 4 (RS.nil (T.seq (T.region (go 1 5 (RS.nil (T.ci h rfl (fun hb_39 h=>?_) (fun hb_39 h=>?_))))))))⟩)))
     ·obtain ⟨x10,hx10,h⟩:=bind_some h
      refine T.region (go 2 5 (sO (Qva (rows:=List.map Qta [(⟨s1,s6⟩:Move)]) (vs:=[.agg [iI s1,iI s6]]) Ty.s45 Ty.z51 rfl rfl rfl rfl rfl rfl (sO (J5a (en:=Qta) (xs:=s7) (ys:=([(⟨s1,s6⟩:Move)]:List Move)) Ty.s45 (fun _=>rfl) rfl rfl rfl hx10 rfl rfl (go 1 7 (RS.nil (T.region (go 3 7 (RS.nil ?_))))))))))
      exact ⟨(IntKind.i64.wrap (s6+1),x10),(Option.some.inj h).symm,wk [] [0,1,6] 7 rfl⟩
     refine T.skip (T.region (go 3 5 (RS.nil ?_)))
     exact ⟨(IntKind.i64.wrap (s6+1),s7),(Option.some.inj h).symm,wk [] [0,1,2] 5 rfl⟩
    refine T.exit ?_
    obtain ⟨w_40,h,hw_40⟩:=Qsa h
    replace h:=h.trans (congrArg some (hv_37 _ hw_40))
    refine T.region (go 2 3 (RS.nil ?_))
    exact ⟨(IntKind.i64.wrap (s1+1),s7),(Option.some.inj h).symm,wk [] [0,1,2] 3 rfl⟩
   refine T.seq (T.region (go 3 4 (RS.nil (T.ci h rfl (fun hb_41 h=>?_) (fun hb_41 h=>?_)))))
   ·refine T.region (go 2 4 (sQ (Qfa Ty.s26 rfl (go 1 4 (RS.nil ?_)))))
    exact T.weakR (hK2 ((x4.In).length:Int) h) (wk [] [0,1,2] 4 rfl)
   refine T.skip ?_
   exact T.weakR (hK2 1 h) (wk [] [0,1,2] 4 rfl)
  refine T.exit ?_
  obtain ⟨w_42,h,hw_42⟩:=Qsa h
  replace h:=h.trans (congrArg some (hv_28 _ hw_42))
  refine T.seq (T.region (go 2 3 (RS.nil ?_)))
  cases h
  exact tO [] [2] 3
theorem crossref_LanesOf_c (p0:List Choice) (p1:Int) (r:List Int) (h:Vxa p0 p1=some r):FnO Tryz.prog 69 [sL Qba p0,iI p1] (.ref 0) [aR 3 1 encI r]:=by
  unfold Vxa at h
  refine fnT 0 Tryz.func69 Tryz.ntmps69 ?_
  refine T.seq (T.region (go 1 0 (RS.nil (T.seq (T.region (go 1 0 (RS.nil (T.seq (T.seq ?_)))))))))
  refine T.region (go 1 0 (sQ (Qfa Ty.s28 rfl (go 1 0 (RS.nil (T.block (T.iter (fun ss_5:Int × (List Int)=>mkA 25 [(1,iI p1),(5,.ref 0),(8,sL Qba p0),(9,iI ((p0).length:Int)),(10,iI ss_5.1)]) (fun ss_5=>[aR 3 1 encI ss_5.2]) h (wk [(5,3,1)] [0] 0 rfl) (fun ss_5 v_6 h hv_6=>?_))))))))
  obtain ⟨s1,s2⟩:=ss_5
  replace h:Zja p0 p1 s1 s2=some v_6:=h
  try dsimp only
  unfold Zja at h
  refine T.seq (T.region (go 1 1 (RS.nil (T.seq (T.ci h rfl (fun hb_7 h=>?_) (fun hb_7 h=>?_))))))
  ·refine T.skip (T.seq (T.block (T.seq ?_)))
   obtain ⟨x4,hx4,h⟩:=bind_some h
   refine T.region (sQ (Qda Ty.s28 (fun _=>rfl) rfl rfl hx4 (go 3 1 (RS.nil (T.seq (T.region (go 4 2 (RS.nil (T.ci h rfl (fun hb_8 h=>?_) (fun hb_8 h=>?_))))))))))
   ·obtain ⟨x5,hx5,h⟩:=bind_some h
    refine T.region (go 3 2 (sO (Qva (rows:=List.map encI [x4.Lane]) (vs:=[iI x4.Lane]) Ty.s26 Ty.z3 rfl rfl rfl rfl rfl rfl (sO (J5a (en:=encI) (xs:=s2) (ys:=([x4.Lane]:List Int)) Ty.s26 (fun _=>rfl) rfl rfl rfl hx5 rfl rfl (go 1 4 (RS.nil (T.region (go 2 4 (RS.nil ?_))))))))))
    exact ⟨(IntKind.i64.wrap (s1+1),x5),(Option.some.inj h).symm,wk [] [3] 4 rfl⟩
   refine T.skip (T.region (go 2 2 (RS.nil ?_)))
   exact ⟨(IntKind.i64.wrap (s1+1),s2),(Option.some.inj h).symm,wk [] [0] 2 rfl⟩
  refine T.exit ?_
  obtain ⟨w_9,h,hw_9⟩:=Qsa h
  replace h:=h.trans (congrArg some (hv_6 _ hw_9))
  refine T.seq (T.region (go 2 1 (RS.nil ?_)))
  cases h
  exact tO [] [0] 1
theorem crossref_AllowedOf_c (p0:Net) (p1:State) (p2:List Choice) (p3:List Move) (r:List Move) (h:Yna p0 p1 p2 p3=some r):FnO Tryz.prog 29 [.agg (Qma p0),.agg (Qra p1),sL Qba p2,sL Qta p3] (.ref 0) [aR 51 2 Qta r]:=by
  unfold Yna at h
  refine fnT 0 Tryz.func29 Tryz.ntmps29 ?_
  refine T.seq (T.region (go 3 0 (RS.nil (T.seq (T.region (go 1 2 (RS.nil (T.seq (T.seq ?_)))))))))
  refine T.region (go 1 2 (sQ (Qfa Ty.s45 rfl (go 1 2 (RS.nil (T.block (T.iter (fun ss_15:Int × (List Move)=>mkA 58 [(2,sL Qba p2),(4,.ptr 0 0),(5,.ptr 1 0),(9,.ref 2),(14,sL Qta p3),(15,iI ((p3).length:Int)),(16,iI ss_15.1)]) (fun ss_15=>[.box (Qma p0),.box (Qra p1),aR 51 2 Qta ss_15.2]) h (wk [(9,51,2)] [0,1,2] 2 rfl) (fun ss_15 v_16 h hv_16=>?_))))))))
  obtain ⟨s1,s2⟩:=ss_15
  replace h:Jxa p0 p1 p2 p3 s1 s2=some v_16:=h
  try dsimp only
  unfold Jxa at h
  refine T.seq (T.region (go 1 3 (RS.nil (T.seq (T.ci h rfl (fun hb_17 h=>?_) (fun hb_17 h=>?_))))))
  ·refine T.skip (T.seq (T.block (T.seq ?_)))
   obtain ⟨x4,hx4,h⟩:=bind_some h
   refine T.region (sQ (Qda Ty.s45 (fun _=>rfl) rfl rfl hx4 (go 3 3 (RS.nil (T.seq (T.seq ?_))))))
   obtain ⟨x6,hx6,h⟩:=bind_some h
   refine T.region (go 4 4 (sQ (Qda Ty.s22 (fun _=>rfl) rfl rfl hx6 (go 3 4 (RS.nil (T.ci h rfl (fun hb_18 h=>?_) (fun hb_18 h=>?_)))))))
   ·refine T.seq ?_
    obtain ⟨x9,hx9,h⟩:=bind_some h
    obtain ⟨x10,hx10,h⟩:=bind_some h
    refine T.drawn mixed (k:=11) rfl ?_
    apply RA.jn 3 #[true,true,true,true,true,true,true,true,false,false,false];intro hS19
    ·refine rq [0,2,5,6] 7 (rL [1,4,8,9,10] 1 rfl (rL [3,4,8,9,10] 3 rfl (ra2 4 7 ?_ ?_)))
     ·refine oO rfl (cO 4 (crossref_LanesOf_c p1.Choices x4.Node x9 hx9) ⟨rfl,(ra1 7 (og 5 ⟨rfl,?_⟩))⟩)
      exact raE hS19
     ·refine og 4 ⟨rfl,(ra1 4 (oO rfl (cO 4 (crossref_LanesOf_c p1.Choices x4.Node x9 hx9) ⟨rfl,?_⟩)))⟩
      exact raT hS19
    refine ra1 8 (oO rfl (cO 5 (crossref_LanesOf_c p2 x4.Node x10 hx10) ⟨rfl,(rq [9,10] 0 (RA.done (by decide +kernel) ?_))⟩))
    obtain ⟨zt_21,hz,h⟩:=bind_some h
    revert hz h;revert zt_21;intro c13 hz h
    refine T.join (Z:=Unit) (fun _=>mkA 58 [(2,sL Qba p2),(4,.ptr 0 0),(5,.ptr 1 0),(9,.ref 2),(11,.ptr 3 0),(14,sL Qta p3),(15,iI ((p3).length:Int)),(16,iI s1),(51,.bool c13)]) (fun _=>[.box (Qma p0),.box (Qra p1),aR 51 2 Qta s2,.box (Qta x4)]) (fun _=>True) (fun _ _=>?_) (fun hK=>?_)
    ·refine T.ci h rfl (fun hb_22 h=>?_) (fun hb_22 h=>?_)
     ·refine T.exit (T.region (go 2 4 (RS.nil ?_)))
      exact ⟨(IntKind.i64.wrap (s1+1),s2),(Option.some.inj h).symm,wk [] [0,1,2] 4 rfl⟩
     refine T.skip ?_
     obtain ⟨x14,hx14,h⟩:=bind_some h
     refine T.region (go 2 4 (sO (Qva (rows:=List.map Qta [x4]) (vs:=[.agg (Qta x4)]) Ty.s45 Ty.z51 rfl rfl rfl rfl rfl rfl (sO (J5a (en:=Qta) (xs:=s2) (ys:=([x4]:List Move)) Ty.s45 (fun _=>rfl) rfl rfl rfl hx14 rfl rfl (go 1 6 (RS.nil (T.region (go 2 6 (RS.nil ?_))))))))))
     exact ⟨(IntKind.i64.wrap (s1+1),x14),(Option.some.inj h).symm,wk [] [0,1,5] 6 rfl⟩
    rcases Qha (decide (((x9).length:Int)<((x10).length:Int))) with hb_20 | hb_20
    ·replace hz:=ite_T hz hb_20
     obtain ⟨x11,hx11,hz⟩:=bind_some hz
     obtain ⟨x12,hx12,hz⟩:=bind_some hz
     refine T.drawn mixed (k:=15) rfl ?_
     apply RA.jn 0 #[true,true,true,true,true,true,true,true,true,true,true,true,true,true,true];intro hS23
     ·refine rq [0] 14 (r0 1 rfl (Zfa (en:=encI) Ty.s26 rfl rfl (rq [2] 12 (r0 3 rfl (Zfa (en:=encI) Ty.s26 rfl rfl (rq [4,5] 9 (ry 6 hb_20 rfl (ry 7 hb_20 rfl (r1 8 rfl hb_20 (Zfa (en:=encI) Ty.s26 rfl rfl (r1 9 rfl hb_20 (Qoa (en:=encI) Ty.s26 rfl rfl rfl hx11 (ry 11 hb_20 rfl ?_)))))))))))))
      refine ra2 10 12 ?_ ?_
      ·refine oP rfl hb_20 (Qwa (en:=encI) (a:=x12) rfl rfl hx12 (Jra Ty.k3 (c:=iI x12) rfl (ra1 12 (oy 6 hb_20 rfl (ry 13 hb_20 rfl (r0 14 rfl (Qna (v:=.bool (x12 != x4.Lane)) rfl hb_20 rfl ?_)))))))
       exact raE hS23
      ·refine oy 6 hb_20 rfl (ra1 10 (oP rfl hb_20 (Qwa (en:=encI) (a:=x12) rfl rfl hx12 (Jra Ty.k3 (c:=iI x12) rfl (ry 13 hb_20 rfl (r0 14 rfl (Qna (v:=.bool (x12 != x4.Lane)) rfl hb_20 rfl ?_)))))))
       exact raT hS23
     refine RA.done (by decide +kernel) ?_
     exact T.weakR (hK () trivial) (Weak.mkN [] [0,1,2,3] (by decide) (Qla _) rfl ⟨rn_s rfl,Qqa rfl,Qqa rfl,Qza rfl,Qqa rfl,rn_s rfl,Qga rfl,Qga rfl,Q6a ((congrArg (fun p=>p) (Option.some.inj hz)).symm),trivial⟩ (rw_bs (Qma p0) rfl (rw_bs (Qra p1) rfl (rw_ar rfl rfl (rw_bs (Qta x4) rfl (Qxa))))))
    replace hz:=ite_F hz hb_20
    refine T.drawn mixed (k:=15) rfl (rq [0] 14 (r0 1 rfl (Zfa (en:=encI) Ty.s26 rfl rfl (rq [2] 12 (r0 3 rfl (Zfa (en:=encI) Ty.s26 rfl rfl (rq [4,5] 9 (r2 6 rfl hb_20 (r2 7 rfl hb_20 (r2 8 rfl hb_20 (r2 9 rfl hb_20 ?_)))))))))))
    refine r2 10 rfl hb_20 (r2 11 rfl hb_20 (r2 12 rfl hb_20 (r2 13 rfl hb_20 (r0 14 rfl (Qia (v:=.bool false) rfl hb_20 rfl (RA.done (by decide +kernel) ?_))))))
    exact T.weakR (hK () trivial) (Weak.mkN [] [0,1,2,3] (by decide) (Qla _) rfl ⟨rn_s rfl,Qqa rfl,Qqa rfl,Qza rfl,Qqa rfl,rn_s rfl,Qga rfl,Qga rfl,Q6a ((congrArg (fun p=>p) (Option.some.inj hz)).symm),trivial⟩ (rw_bs (Qma p0) rfl (rw_bs (Qra p1) rfl (rw_ar rfl rfl (rw_bs (Qta x4) rfl (Qxa))))))
   refine T.skip ?_
   obtain ⟨x15,hx15,h⟩:=bind_some h
   refine T.region (go 2 4 (sO (Qva (rows:=List.map Qta [x4]) (vs:=[.agg (Qta x4)]) Ty.s45 Ty.z51 rfl rfl rfl rfl rfl rfl (sO (J5a (en:=Qta) (xs:=s2) (ys:=([x4]:List Move)) Ty.s45 (fun _=>rfl) rfl rfl rfl hx15 rfl rfl (go 1 6 (RS.nil (T.region (go 2 6 (RS.nil ?_))))))))))
   exact ⟨(IntKind.i64.wrap (s1+1),x15),(Option.some.inj h).symm,wk [] [0,1,5] 6 rfl⟩
  refine T.exit ?_
  obtain ⟨w_24,h,hw_24⟩:=Qsa h
  replace h:=h.trans (congrArg some (hv_16 _ hw_24))
  refine T.seq (T.region (go 2 3 (RS.nil ?_)))
  cases h
  exact tO [] [2] 3
theorem Qib (p0:List Item) (p1:List Int) (p2:List (List Item)) (p3:List Memory) (p4:List Choice) (p5:List Item) (r:Bool) (h:Jua p0 p1 p2 p3 p4 p5=some r):FnX Tryz.prog 46 [sL Qaa p0,.ptr 0 0] [.box [sL encI p1,sL (encL Qaa) p2,sL Qca p3,sL Qba p4,sL Qaa p5]] (.bool r) [.box [sL encI p1,sL (encL Qaa) p2,sL Qca p3,sL Qba p4,sL Qaa p5]]:=by
  unfold Jua at h
  refine fnT 1 Tryz.func46 Tryz.ntmps46 ?_
  refine T.seq (T.region (go 1 1 (RS.nil (T.seq (T.seq (T.region (go 1 1 (sQ (Qfa Ty.s29 rfl (go 1 1 ?_))))))))))
  refine RS.nil (T.block (T.iter (fun ss_7:Int=>mkA 24 [(1,.ptr 0 0),(6,sL Qaa p0),(7,iI ((p0).length:Int)),(8,iI ss_7)]) (fun ss_7=>[.box [sL encI p1,sL (encL Qaa) p2,sL Qca p3,sL Qba p4,sL Qaa p5]]) h (wk [] [0] 1 rfl) (fun ss_7 v_8 h hv_8=>?_)))
  revert hv_8 h;revert ss_7;intro s1 h hv_8
  replace h:Jza p0 p4 s1=some v_8:=h
  try dsimp only
  unfold Jza at h
  refine T.seq (T.region (go 1 1 (RS.nil (T.seq (T.ci h rfl (fun hb_9 h=>?_) (fun hb_9 h=>?_))))))
  ·refine T.skip (T.seq (T.block (T.seq ?_)))
   obtain ⟨x3,hx3,h⟩:=bind_some h
   refine T.region (sQ (Qda Ty.s29 (fun _=>rfl) rfl rfl hx3 (go 3 1 (RS.nil (T.join (Z:=Unit) (fun _=>mkA 24 [(1,.ptr 0 0),(6,sL Qaa p0),(7,iI ((p0).length:Int)),(8,iI s1),(22,.bool ((decide (x3.Dep<0)) || decide (x3.Dep > ((p4).length:Int))))]) (fun _=>[.box [sL encI p1,sL (encL Qaa) p2,sL Qca p3,sL Qba p4,sL Qaa p5]]) (fun _=>True) (fun _ _=>?_) (fun hK=>?_))))))
   ·refine T.ci h rfl (fun hb_11 h=>?_) (fun hb_11 h=>?_)
    ·refine T.seq (T.region (go 1 1 (RS.nil ?_)))
     obtain ⟨w_12,h,hw_12⟩:=Qsa h
     replace h:=h.trans (congrArg some (hv_8 _ hw_12))
     cases h
     exact tN [0]
    refine T.skip (T.region (go 2 1 (RS.nil ?_)))
    exact ⟨IntKind.i64.wrap (s1+1),(Option.some.inj h).symm,wk [] [0] 1 rfl⟩
   refine T.region (go 4 2 ?_)
   rcases Qha (decide (x3.Dep<0)) with hb_10 | hb_10
   ·refine sN hb_10 (sN hb_10 (sN hb_10 (sN hb_10 (sN hb_10 (sN hb_10 (sQ (Qna (v:=.bool true) rfl hb_10 rfl (RS.nil ?_))))))))
    exact T.weakR (hK () trivial) (Weak.mkN [] [0] (by decide) (by decide) rfl ⟨Qqa rfl,rn_s rfl,Qga rfl,Qga rfl,Q6a (by simp only [hb_10,bz,if_true,if_false,Bool.false_eq_true]),trivial⟩ (rw_bs [sL encI p1,sL (encL Qaa) p2,sL Qca p3,sL Qba p4,sL Qaa p5] rfl (Qxa)))
   refine yg 2 hb_10 (yg 2 hb_10 (yg 2 hb_10 (yg 2 hb_10 (yQ hb_10 (Qfa Ty.s28 rfl (yg 2 hb_10 (sQ (Qia (v:=.bool (decide (x3.Dep > ((p4).length:Int)))) rfl hb_10 rfl (RS.nil ?_)))))))))
   exact T.weakR (hK () trivial) (Weak.mkN [] [0] (by decide) (by decide) rfl ⟨Qqa rfl,rn_s rfl,Qga rfl,Qga rfl,Q6a (by simp only [hb_10,bz,if_true,if_false,Bool.false_eq_true]),trivial⟩ (rw_bs [sL encI p1,sL (encL Qaa) p2,sL Qca p3,sL Qba p4,sL Qaa p5] rfl (Qxa)))
  refine T.exit ?_
  obtain ⟨w_13,h,hw_13⟩:=Qsa h
  replace h:=h.trans (congrArg some (hv_8 _ hw_13))
  refine T.seq (T.region (go 1 1 (RS.nil ?_)))
  cases h
  exact tN [0]
theorem crossref_CheckMemory_c (p0:Memory) (r:Int) (h:V1a p0=some r):Fn Tryz.prog 47 [.agg (Qca p0)] (iI r):=by
  unfold V1a at h
  refine fnT 0 Tryz.func47 Tryz.ntmps47 ?_
  refine T.seq (T.region (go 2 0 (RS.nil (T.seq (T.seq (T.region (go 2 1 (sQ (Qfa Ty.s82 rfl (go 1 1 ?_))))))))))
  refine RS.nil (T.ci h rfl (fun hb_1 h=>?_) (fun hb_1 h=>?_))
  ·refine T.seq (T.region (go 1 1 (RS.nil ?_)))
   cases h
   exact tD
  refine T.skip (T.seq (T.seq (T.region (go 2 1 (sQ (Qfa Ty.s82 rfl (go 1 1 (RS.nil (T.block (T.iter (fun ss_16:Int=>mkA 38 [(1,.ptr 0 0),(10,sL Qka p0.Keys),(11,iI ((p0.Keys).length:Int)),(12,iI ss_16)]) (fun ss_16=>[.box (Qca p0)]) h (wk [] [0] 1 rfl) (fun ss_16 v_17 h hv_17=>?_)))))))))))
  revert hv_17 h;revert ss_16;intro s1 h hv_17
  replace h:Z7a p0 s1=some v_17:=h
  try dsimp only
  unfold Z7a at h
  refine T.seq (T.region (go 1 1 (RS.nil (T.seq (T.ci h rfl (fun hb_18 h=>?_) (fun hb_18 h=>?_))))))
  ·refine T.skip (T.seq (T.block (T.seq ?_)))
   obtain ⟨x3,hx3,h⟩:=bind_some h
   refine T.region (go 1 1 (sQ (Qda Ty.s82 (fun _=>rfl) rfl rfl hx3 (go 4 1 (RS.nil (T.seq (T.seq (T.region (go 3 2 (RS.nil ?_))))))))))
   refine T.ci h rfl (fun hb_19 h=>?_) (fun hb_19 h=>?_)
   ·refine T.seq (T.region (go 1 2 (RS.nil ?_)))
    obtain ⟨w_20,h,hw_20⟩:=Qsa h
    replace h:=h.trans (congrArg some (hv_17 _ hw_20))
    cases h
    exact tD
   refine T.skip ?_
   obtain ⟨zt_22,hz,h⟩:=bind_some h
   revert hz h;revert zt_22;intro c5 hz h
   refine T.join (Z:=Unit) (fun _=>mkA 38 [(1,.ptr 0 0),(10,sL Qka p0.Keys),(11,iI ((p0.Keys).length:Int)),(12,iI s1),(33,.bool c5)]) (fun _=>[.box (Qca p0)]) (fun _=>True) (fun _ _=>?_) (fun hK=>?_)
   ·refine T.ci h rfl (fun hb_23 h=>?_) (fun hb_23 h=>?_)
    ·refine T.seq (T.region (go 1 1 (RS.nil ?_)))
     obtain ⟨w_24,h,hw_24⟩:=Qsa h
     replace h:=h.trans (congrArg some (hv_17 _ hw_24))
     cases h
     exact tD
    refine T.skip (T.region (go 2 1 (RS.nil ?_)))
    exact ⟨IntKind.i64.wrap (s1+1),(Option.some.inj h).symm,wk [] [0] 1 rfl⟩
   rcases Qha (decide (s1 > 0)) with hb_21 | hb_21
   ·replace hz:=ite_T hz hb_21
    obtain ⟨x4,hx4,hz⟩:=bind_some hz
    refine T.drawn mixed (k:=14) rfl ?_
    apply RA.jn 0 #[true,true,true,true,true,true,true,true,true,true,true,true,true,true];intro hS25
    apply RA.jn 3 #[true,true,true,true,true,true,true,true,true,true,true,false,false,false];intro hS26
    ·refine rq [0,1,2] 11 (ry 3 hb_21 rfl (ry 5 hb_21 rfl (ry 7 hb_21 rfl (ry 8 hb_21 rfl (ra2 4 6 ?_ ?_)))))
     ·refine oy 2 hb_21 rfl (ra1 6 (oy 2 hb_21 rfl (r1 9 rfl hb_21 (Qda Ty.s82 (fun _=>rfl) rfl rfl hx4 (ry 10 hb_21 rfl ?_)))))
      exact raE hS26
     ·refine oy 2 hb_21 rfl (r1 9 rfl hb_21 (Qda Ty.s82 (fun _=>rfl) rfl rfl hx4 (ry 10 hb_21 rfl (ra2 4 11 ?_ ?_))))
      ·refine oy 2 hb_21 rfl ?_
       exact raT hS26
      ·refine oy 2 hb_21 rfl (ra1 4 (oy 2 hb_21 rfl (ry 12 hb_21 rfl (r0 13 rfl (Qna (v:=.bool (decide (x3.Key≤x4.Key))) rfl hb_21 rfl ?_)))))
       exact raE hS25
    ·refine ra1 11 (oy 2 hb_21 rfl (ry 12 hb_21 rfl (r0 13 rfl (Qna (v:=.bool (decide (x3.Key≤x4.Key))) rfl hb_21 rfl ?_))))
     exact raT hS25
    refine RA.done (by decide +kernel) ?_
    exact T.weakR (hK () trivial) (Weak.mkN [] [0] (by decide) (Qla _) rfl ⟨Qqa rfl,rn_s rfl,Qga rfl,Qga rfl,Q6a ((congrArg (fun p=>p) (Option.some.inj hz)).symm),trivial⟩ (rw_bs (Qca p0) rfl (Qxa)))
   replace hz:=ite_F hz hb_21
   refine T.drawn mixed (k:=14) rfl (rq [0,1,2] 11 (r2 3 rfl hb_21 (r2 4 rfl hb_21 (r2 5 rfl hb_21 (r2 6 rfl hb_21 (r2 7 rfl hb_21 (r2 8 rfl hb_21 (r2 9 rfl hb_21 (r2 10 rfl hb_21 ?_)))))))))
   refine r2 11 rfl hb_21 (r2 12 rfl hb_21 (r0 13 rfl (Qia (v:=.bool false) rfl hb_21 rfl (RA.done (by decide +kernel) ?_))))
   exact T.weakR (hK () trivial) (Weak.mkN [] [0] (by decide) (Qla _) rfl ⟨Qqa rfl,rn_s rfl,Qga rfl,Qga rfl,Q6a ((congrArg (fun p=>p) (Option.some.inj hz)).symm),trivial⟩ (rw_bs (Qca p0) rfl (Qxa)))
  refine T.exit ?_
  obtain ⟨w_27,h,hw_27⟩:=Qsa h
  replace h:=h.trans (congrArg some (hv_17 _ hw_27))
  refine T.seq (T.seq (T.region (go 3 1 (RS.nil (T.ci h rfl (fun hb_28 h=>?_) (fun hb_28 h=>?_))))))
  ·refine T.seq (T.region (go 1 1 (RS.nil ?_)))
   cases h
   exact tD
  refine T.skip (T.seq (T.region (go 1 1 (RS.nil ?_))))
  cases h
  exact tD
theorem crossref_IsChoice_c (p0:Net) (p1:Choice) (r:Bool) (h:Yya p0 p1=some r):Fn Tryz.prog 48 [.agg (Qma p0),.agg (Qba p1)] (.bool r):=by
  unfold Yya at h
  refine fnT 0 Tryz.func48 Tryz.ntmps48 ?_
  refine T.seq (T.region (go 3 0 (RS.nil ?_)))
  obtain ⟨zt_5,hz,h⟩:=bind_some h
  revert hz h;revert zt_5;intro c3 hz h
  refine T.join (Z:=Unit) (fun _=>mkA 44 [(4,.bool c3)]) (fun _=>[]) (fun _=>True) (fun _ _=>?_) (fun hK=>?_)
  ·cases h
   exact tD
  rcases Qha (decide (p1.Node ≥ 0)) with hb_1 | hb_1
  ·replace hz:=ite_T hz hb_1
   rcases Qha (decide (p1.Node<((p0.Nodes).length:Int))) with hb_2 | hb_2
   ·replace hz:=ite_T hz hb_2
    obtain ⟨x1,hx1,hz⟩:=bind_some hz
    rcases Qha (x1.Kind==6) with hb_3 | hb_3
    ·replace hz:=ite_T hz hb_3
     rcases Qha (decide (p1.Lane ≥ 0)) with hb_4 | hb_4
     ·replace hz:=ite_T hz hb_4
      obtain ⟨x2,hx2,hz⟩:=bind_some hz
      refine T.drawn mixed (k:=40) rfl ?_
      apply RA.jn 0 #[true,true,true,true,true,true,true,true,true,true,true,true,true,true,true,true,true,true,true,true,true,true,true,true,true,true,true,true,true,true,true,true,true,true,true,true,true,true,true,true];intro hS6
      apply RA.jn 5 #[true,true,true,true,true,true,true,true,true,true,true,true,true,true,true,true,true,true,true,true,true,true,true,true,true,true,true,true,true,true,true,true,true,true,true,false,false,false,false,false];intro hS7
      apply RA.jn 6 #[true,true,true,true,true,true,true,true,true,true,true,true,true,true,true,true,true,true,true,true,true,true,true,true,true,true,true,true,false,true,true,true,true,true,true,false,false,false,false,false];intro hS8
      apply RA.jn 8 #[true,true,true,true,true,true,true,true,true,true,true,true,true,true,true,true,true,true,true,true,true,true,true,true,true,true,true,true,true,true,false,true,true,false,false,false,false,false,false,false];intro hS9
      apply RA.jn 8 #[true,true,true,true,true,true,true,true,true,true,true,true,true,true,true,true,true,true,true,true,true,true,true,true,true,true,true,true,true,true,true,true,false,false,false,false,false,false,false,false];intro hS10
      apply RA.jn 22 #[true,true,true,true,true,true,true,true,true,true,true,true,true,true,true,true,true,true,false,false,false,false,false,false,false,false,false,false,false,false,false,false,false,false,false,false,false,false,false,false];intro hS11
      apply RA.jn 26 #[true,true,true,true,true,true,true,true,true,true,true,true,true,false,true,false,false,false,false,false,false,false,false,false,false,false,false,false,false,false,false,false,false,false,false,false,false,false,false,false];intro hS12
      ·refine rq [0] 39 (ra1 1 (og 2 ⟨rfl,(rq [2,3] 36 (ry 4 hb_1 rfl (ry 6 hb_1 rfl (ra2 5 7 ?_ ?_))))⟩))
       ·refine oy 2 hb_1 rfl (ra1 7 (oy 2 hb_1 rfl (r1 8 rfl hb_1 (Qfa Ty.s22 rfl (ry 9 hb_1 rfl (r0 10 rfl (Qna (v:=.bool (decide (p1.Node<((p0.Nodes).length:Int)))) rfl hb_1 rfl (rq [11] 28 (ry 12 hb_2 rfl (ry 14 hb_2 rfl ?_))))))))))
        exact raE hS12
       ·refine oy 2 hb_1 rfl (r1 8 rfl hb_1 (Qfa Ty.s22 rfl (ra1 5 (oy 2 hb_1 rfl (ry 9 hb_1 rfl (r0 10 rfl (Qna (v:=.bool (decide (p1.Node<((p0.Nodes).length:Int)))) rfl hb_1 rfl (rq [11] 28 (ry 12 hb_2 rfl (ry 14 hb_2 rfl ?_))))))))))
        exact raT hS12
      ·refine ra2 13 15 ?_ ?_
       ·refine oy 2 hb_2 rfl (ra1 15 (oy 2 hb_2 rfl (r1 16 rfl hb_2 (Qda Ty.s22 (fun _=>rfl) rfl rfl hx1 (ry 17 hb_2 rfl ?_)))))
        exact raE hS11
       ·refine oy 2 hb_2 rfl (ra1 13 (oy 2 hb_2 rfl (r1 16 rfl hb_2 (Qda Ty.s22 (fun _=>rfl) rfl rfl hx1 (ry 17 hb_2 rfl ?_)))))
        exact raT hS11
      ·refine ra1 18 (oy 2 hb_2 rfl (ry 19 hb_2 rfl (r0 20 rfl (Qna (v:=.bool (x1.Kind==6)) rfl hb_2 rfl (rq [21] 18 (ry 22 hb_3 rfl (ra1 23 (oy 2 hb_3 rfl (ry 24 hb_3 rfl (r0 25 rfl (Qna (v:=.bool (decide (p1.Lane ≥ 0))) rfl hb_3 rfl ?_)))))))))))
       refine rq [26] 13 (ry 27 hb_4 rfl (ry 29 hb_4 rfl (ry 31 hb_4 rfl (ra3 28 30 32 ?_ ?_ ?_))))
       ·refine oy 2 hb_4 rfl (ra2 30 32 ?_ ?_)
        ·refine oy 2 hb_4 rfl ?_
         exact raE hS10
        ·refine oy 2 hb_4 rfl ?_
         exact raE hS9
       ·refine oy 2 hb_4 rfl (ra2 28 32 ?_ ?_)
        ·refine oy 2 hb_4 rfl ?_
         exact raT hS10
        ·refine oy 2 hb_4 rfl (r1 33 rfl hb_4 (Qda Ty.s22 (fun _=>rfl) rfl rfl hx2 (ry 34 hb_4 rfl ?_)))
         exact raE hS8
       ·refine oy 2 hb_4 rfl (ra2 28 30 ?_ ?_)
        ·refine oy 2 hb_4 rfl ?_
         exact raT hS9
        ·refine oy 2 hb_4 rfl (r1 33 rfl hb_4 (Qda Ty.s22 (fun _=>rfl) rfl rfl hx2 (ry 34 hb_4 rfl ?_)))
         exact raT hS8
      ·refine ra1 32 (oy 2 hb_4 rfl (r1 33 rfl hb_4 (Qda Ty.s22 (fun _=>rfl) rfl rfl hx2 (ry 34 hb_4 rfl ?_))))
       exact raE hS7
      ·refine ra1 30 (oy 2 hb_4 rfl (r1 33 rfl hb_4 (Qda Ty.s22 (fun _=>rfl) rfl rfl hx2 (ry 34 hb_4 rfl ?_))))
       exact raT hS7
      ·refine ra2 28 35 ?_ ?_
       ·refine oy 2 hb_4 rfl ?_
        exact raT hS7
       ·refine oy 2 hb_4 rfl (r1 36 rfl hb_4 (Qfa Ty.s26 rfl (ra1 28 (oy 2 hb_4 rfl (ry 37 hb_4 rfl (r0 38 rfl (Qna (v:=.bool (decide (p1.Lane<((x2.In).length:Int)))) rfl hb_4 rfl (rq [39] 0 ?_))))))))
        exact raE hS6
      ·refine ra1 35 (oy 2 hb_4 rfl (r1 36 rfl hb_4 (Qfa Ty.s26 rfl (ry 37 hb_4 rfl (r0 38 rfl (Qna (v:=.bool (decide (p1.Lane<((x2.In).length:Int)))) rfl hb_4 rfl (rq [39] 0 ?_)))))))
       exact raT hS6
      refine RA.done (by decide +kernel) ?_
      exact T.weakR (hK () trivial) (Weak.mkN [] [] (by decide) (Qla _) rfl ⟨Q6a ((congrArg (fun p=>p) (Option.some.inj hz)).symm),trivial⟩ (Qxa))
     replace hz:=ite_F hz hb_4
     refine T.drawn mixed (k:=40) rfl ?_
     apply RA.jn 22 #[true,true,true,true,true,true,true,true,true,true,true,true,true,true,true,true,true,true,false,false,false,false,false,false,false,false,false,false,false,false,false,false,false,false,false,false,false,false,false,false];intro hS13
     apply RA.jn 26 #[true,true,true,true,true,true,true,true,true,true,true,true,true,false,true,false,false,false,false,false,false,false,false,false,false,false,false,false,false,false,false,false,false,false,false,false,false,false,false,false];intro hS14
     ·refine rq [0] 39 (ra1 1 (og 2 ⟨rfl,(rq [2,3] 36 (ry 4 hb_1 rfl (ry 6 hb_1 rfl (ra2 5 7 ?_ ?_))))⟩))
      ·refine oy 2 hb_1 rfl (ra1 7 (oy 2 hb_1 rfl (r1 8 rfl hb_1 (Qfa Ty.s22 rfl (ry 9 hb_1 rfl (r0 10 rfl (Qna (v:=.bool (decide (p1.Node<((p0.Nodes).length:Int)))) rfl hb_1 rfl (rq [11] 28 (ry 12 hb_2 rfl (ry 14 hb_2 rfl ?_))))))))))
       exact raE hS14
      ·refine oy 2 hb_1 rfl (r1 8 rfl hb_1 (Qfa Ty.s22 rfl (ra1 5 (oy 2 hb_1 rfl (ry 9 hb_1 rfl (r0 10 rfl (Qna (v:=.bool (decide (p1.Node<((p0.Nodes).length:Int)))) rfl hb_1 rfl (rq [11] 28 (ry 12 hb_2 rfl (ry 14 hb_2 rfl ?_))))))))))
       exact raT hS14
     ·refine ra2 13 15 ?_ ?_
      ·refine oy 2 hb_2 rfl (ra1 15 (oy 2 hb_2 rfl (r1 16 rfl hb_2 (Qda Ty.s22 (fun _=>rfl) rfl rfl hx1 (ry 17 hb_2 rfl ?_)))))
       exact raE hS13
      ·refine oy 2 hb_2 rfl (ra1 13 (oy 2 hb_2 rfl (r1 16 rfl hb_2 (Qda Ty.s22 (fun _=>rfl) rfl rfl hx1 (ry 17 hb_2 rfl ?_)))))
       exact raT hS13
     refine ra1 18 (oy 2 hb_2 rfl (ry 19 hb_2 rfl (r0 20 rfl (Qna (v:=.bool (x1.Kind==6)) rfl hb_2 rfl (rq [21] 18 (ry 22 hb_3 rfl (ra1 23 (oy 2 hb_3 rfl (ry 24 hb_3 rfl (r0 25 rfl (Qna (v:=.bool (decide (p1.Lane ≥ 0))) rfl hb_3 rfl ?_)))))))))))
     refine rq [26] 13 (r2 27 rfl hb_4 (r2 28 rfl hb_4 (r2 29 rfl hb_4 (r2 30 rfl hb_4 (r2 31 rfl hb_4 (r2 32 rfl hb_4 (r2 33 rfl hb_4 (r2 34 rfl hb_4 (r2 35 rfl hb_4 ?_)))))))))
     refine r2 36 rfl hb_4 (r2 37 rfl hb_4 (r0 38 rfl (Qia (v:=.bool false) rfl hb_4 rfl (rq [39] 0 (RA.done (by decide +kernel) ?_)))))
     exact T.weakR (hK () trivial) (Weak.mkN [] [] (by decide) (Qla _) rfl ⟨Q6a ((congrArg (fun p=>p) (Option.some.inj hz)).symm),trivial⟩ (Qxa))
    replace hz:=ite_F hz hb_3
    refine T.drawn mixed (k:=40) rfl ?_
    apply RA.jn 22 #[true,true,true,true,true,true,true,true,true,true,true,true,true,true,true,true,true,true,false,false,false,false,false,false,false,false,false,false,false,false,false,false,false,false,false,false,false,false,false,false];intro hS15
    apply RA.jn 26 #[true,true,true,true,true,true,true,true,true,true,true,true,true,false,true,false,false,false,false,false,false,false,false,false,false,false,false,false,false,false,false,false,false,false,false,false,false,false,false,false];intro hS16
    ·refine rq [0] 39 (ra1 1 (og 2 ⟨rfl,(rq [2,3] 36 (ry 4 hb_1 rfl (ry 6 hb_1 rfl (ra2 5 7 ?_ ?_))))⟩))
     ·refine oy 2 hb_1 rfl (ra1 7 (oy 2 hb_1 rfl (r1 8 rfl hb_1 (Qfa Ty.s22 rfl (ry 9 hb_1 rfl (r0 10 rfl (Qna (v:=.bool (decide (p1.Node<((p0.Nodes).length:Int)))) rfl hb_1 rfl (rq [11] 28 (ry 12 hb_2 rfl (ry 14 hb_2 rfl ?_))))))))))
      exact raE hS16
     ·refine oy 2 hb_1 rfl (r1 8 rfl hb_1 (Qfa Ty.s22 rfl (ra1 5 (oy 2 hb_1 rfl (ry 9 hb_1 rfl (r0 10 rfl (Qna (v:=.bool (decide (p1.Node<((p0.Nodes).length:Int)))) rfl hb_1 rfl (rq [11] 28 (ry 12 hb_2 rfl (ry 14 hb_2 rfl ?_))))))))))
      exact raT hS16
    ·refine ra2 13 15 ?_ ?_
     ·refine oy 2 hb_2 rfl (ra1 15 (oy 2 hb_2 rfl (r1 16 rfl hb_2 (Qda Ty.s22 (fun _=>rfl) rfl rfl hx1 (ry 17 hb_2 rfl ?_)))))
      exact raE hS15
     ·refine oy 2 hb_2 rfl (ra1 13 (oy 2 hb_2 rfl (r1 16 rfl hb_2 (Qda Ty.s22 (fun _=>rfl) rfl rfl hx1 (ry 17 hb_2 rfl ?_)))))
      exact raT hS15
    refine ra1 18 (oy 2 hb_2 rfl (ry 19 hb_2 rfl (r0 20 rfl (Qna (v:=.bool (x1.Kind==6)) rfl hb_2 rfl (rq [21] 18 (r2 22 rfl hb_3 (r2 23 rfl hb_3 (r2 24 rfl hb_3 (r0 25 rfl (Qia (v:=.bool false) rfl hb_3 rfl (rq [26] 13 ?_)))))))))))
    refine r2 27 rfl rfl (r2 28 rfl rfl (r2 29 rfl rfl (r2 30 rfl rfl (r2 31 rfl rfl (r2 32 rfl rfl (r2 33 rfl rfl (r2 34 rfl rfl (r2 35 rfl rfl (r2 36 rfl rfl ?_)))))))))
    refine r2 37 rfl rfl (r0 38 rfl (Qia (v:=.bool false) rfl rfl rfl (rq [39] 0 (RA.done (by decide +kernel) ?_))))
    exact T.weakR (hK () trivial) (Weak.mkN [] [] (by decide) (Qla _) rfl ⟨Q6a ((congrArg (fun p=>p) (Option.some.inj hz)).symm),trivial⟩ (Qxa))
   replace hz:=ite_F hz hb_2
   refine T.drawn mixed (k:=40) rfl ?_
   apply RA.jn 0 #[true,true,true,true,true,true,true,true,true,true,true,true,true,true,true,true,true,true,true,true,true,true,true,true,true,true,true,true,true,true,true,true,true,true,true,true,true,true,true,true];intro hS17
   ·refine rq [0] 39 (ra1 1 (og 2 ⟨rfl,(rq [2,3] 36 (ry 4 hb_1 rfl (ry 6 hb_1 rfl (ra2 5 7 ?_ ?_))))⟩))
    ·refine oy 2 hb_1 rfl (ra1 7 (oy 2 hb_1 rfl (r1 8 rfl hb_1 (Qfa Ty.s22 rfl (ry 9 hb_1 rfl (r0 10 rfl (Qna (v:=.bool (decide (p1.Node<((p0.Nodes).length:Int)))) rfl hb_1 rfl (rq [11] 28 (r2 12 rfl hb_2 (r2 13 rfl hb_2 (r2 14 rfl hb_2 ?_)))))))))))
     refine r2 15 rfl hb_2 (r2 16 rfl hb_2 (r2 17 rfl hb_2 (r2 18 rfl hb_2 (r2 19 rfl hb_2 (r0 20 rfl (Qia (v:=.bool false) rfl hb_2 rfl (rq [21] 18 (r2 22 rfl rfl (r2 23 rfl rfl (r2 24 rfl rfl ?_))))))))))
     refine r0 25 rfl (Qia (v:=.bool false) rfl rfl rfl (rq [26] 13 (r2 27 rfl rfl (r2 28 rfl rfl (r2 29 rfl rfl (r2 30 rfl rfl (r2 31 rfl rfl (r2 32 rfl rfl (r2 33 rfl rfl (r2 34 rfl rfl ?_))))))))))
     refine r2 35 rfl rfl (r2 36 rfl rfl (r2 37 rfl rfl (r0 38 rfl (Qia (v:=.bool false) rfl rfl rfl (rq [39] 0 ?_)))))
     exact raE hS17
    ·refine oy 2 hb_1 rfl (r1 8 rfl hb_1 (Qfa Ty.s22 rfl (ra1 5 (oy 2 hb_1 rfl (ry 9 hb_1 rfl (r0 10 rfl (Qna (v:=.bool (decide (p1.Node<((p0.Nodes).length:Int)))) rfl hb_1 rfl (rq [11] 28 (r2 12 rfl hb_2 (r2 13 rfl hb_2 (r2 14 rfl hb_2 ?_)))))))))))
     refine r2 15 rfl hb_2 (r2 16 rfl hb_2 (r2 17 rfl hb_2 (r2 18 rfl hb_2 (r2 19 rfl hb_2 (r0 20 rfl (Qia (v:=.bool false) rfl hb_2 rfl (rq [21] 18 (r2 22 rfl rfl (r2 23 rfl rfl (r2 24 rfl rfl ?_))))))))))
     refine r0 25 rfl (Qia (v:=.bool false) rfl rfl rfl (rq [26] 13 (r2 27 rfl rfl (r2 28 rfl rfl (r2 29 rfl rfl (r2 30 rfl rfl (r2 31 rfl rfl (r2 32 rfl rfl (r2 33 rfl rfl (r2 34 rfl rfl ?_))))))))))
     refine r2 35 rfl rfl (r2 36 rfl rfl (r2 37 rfl rfl (r0 38 rfl (Qia (v:=.bool false) rfl rfl rfl (rq [39] 0 ?_)))))
     exact raT hS17
   refine RA.done (by decide +kernel) ?_
   exact T.weakR (hK () trivial) (Weak.mkN [] [] (by decide) (Qla _) rfl ⟨Q6a ((congrArg (fun p=>p) (Option.some.inj hz)).symm),trivial⟩ (Qxa))
  replace hz:=ite_F hz hb_1
  refine T.drawn mixed (k:=40) rfl (rq [0] 39 (ra1 1 (og 2 ⟨rfl,(rq [2,3] 36 (r2 4 rfl hb_1 (r2 5 rfl hb_1 (r2 6 rfl hb_1 (r2 7 rfl hb_1 (r2 8 rfl hb_1 ?_))))))⟩)))
  refine r2 9 rfl hb_1 (r0 10 rfl (Qia (v:=.bool false) rfl hb_1 rfl (rq [11] 28 (r2 12 rfl rfl (r2 13 rfl rfl (r2 14 rfl rfl (r2 15 rfl rfl (r2 16 rfl rfl (r2 17 rfl rfl (r2 18 rfl rfl ?_))))))))))
  refine r2 19 rfl rfl (r0 20 rfl (Qia (v:=.bool false) rfl rfl rfl (rq [21] 18 (r2 22 rfl rfl (r2 23 rfl rfl (r2 24 rfl rfl (r0 25 rfl (Qia (v:=.bool false) rfl rfl rfl (rq [26] 13 (r2 27 rfl rfl (r2 28 rfl rfl ?_)))))))))))
  refine r2 29 rfl rfl (r2 30 rfl rfl (r2 31 rfl rfl (r2 32 rfl rfl (r2 33 rfl rfl (r2 34 rfl rfl (r2 35 rfl rfl (r2 36 rfl rfl (r2 37 rfl rfl (r0 38 rfl (Qia (v:=.bool false) rfl rfl rfl ?_))))))))))
  refine rq [39] 0 (RA.done (by decide +kernel) ?_)
  exact T.weakR (hK () trivial) (Weak.mkN [] [] (by decide) (Qla _) rfl ⟨Q6a ((congrArg (fun p=>p) (Option.some.inj hz)).symm),trivial⟩ (Qxa))
theorem crossref_CheckState_c (p0:Net) (p1:List (List Item)) (p2:State) (r:Int) (h:Yca p0 p1 p2=some r):Fn Tryz.prog 15 [.agg (Qma p0),sL (encL Qaa) p1,.agg (Qra p2)] (iI r):=by
  unfold Yca at h
  refine fnT 0 Tryz.func15 Tryz.ntmps15 ?_
  refine T.seq (T.region (go 3 0 (RS.nil (T.seq (T.seq ?_)))))
  obtain ⟨x2,hx2,h⟩:=bind_some h
  refine T.region (go 2 2 (sO (cF (crossref_CheckSources_c p0 p1 x2 hx2) ⟨rfl,(go 1 2 (RS.nil (T.seq (T.region (go 2 2 (RS.nil (T.ci h rfl (fun hb_1 h=>?_) (fun hb_1 h=>?_))))))))⟩)))
  ·refine T.seq (T.region (go 2 2 (RS.nil ?_)))
   cases h
   exact tD
  refine T.skip (T.seq (T.join (Z:=Unit) (fun _=>mkA 131 [(1,sL (encL Qaa) p1),(3,.ptr 0 0),(5,.ptr 1 0),(46,.bool ((((p2.At).length:Int) != ((p1).length:Int)) || ((((p2.Rings).length:Int) != p0.Rings) || ((p2.Memory).length:Int) != ((p0.Nodes).length:Int))))]) (fun _=>[.box (Qma p0),.box (Qra p2)]) (fun _=>True) (fun _ _=>?_) (fun hK=>?_)))
  ·refine T.ci h rfl (fun hb_4 h=>?_) (fun hb_4 h=>?_)
   ·refine T.seq (T.region (go 1 2 (RS.nil ?_)))
    cases h
    exact tD
   refine T.skip (T.seq (T.join (Z:=Unit) (fun _=>mkA 131 [(1,sL (encL Qaa) p1),(3,.ptr 0 0),(5,.ptr 1 0),(56,.bool ((decide (((p2.Choices).length:Int) > 500)) || decide (((p2.Out).length:Int) > 2000)))]) (fun _=>[.box (Qma p0),.box (Qra p2)]) (fun _=>True) (fun _ _=>?_) (fun hK=>?_)))
   ·refine T.ci h rfl (fun hb_6 h=>?_) (fun hb_6 h=>?_)
    ·refine T.seq (T.region (go 1 2 (RS.nil ?_)))
     cases h
     exact tD
    refine T.skip (T.seq (T.seq (T.region (go 2 2 (sQ (Qfa Ty.s26 rfl (go 1 2 (RS.nil (T.block (T.iter (fun ss_15:Int=>mkA 131 [(1,sL (encL Qaa) p1),(3,.ptr 0 0),(5,.ptr 1 0),(58,sL encI p2.At),(59,iI ((p2.At).length:Int)),(60,iI ss_15)]) (fun ss_15=>[.box (Qma p0),.box (Qra p2)]) h (wk [] [0,1] 2 rfl) (fun ss_15 v_16 h hv_16=>?_)))))))))))
    revert hv_16 h;revert ss_15;intro s5 h hv_16
    replace h:Vea p0 p1 p2 s5=some v_16:=h
    try dsimp only
    unfold Vea at h
    refine T.seq (T.region (go 1 2 (RS.nil (T.seq (T.ci h rfl (fun hb_17 h=>?_) (fun hb_17 h=>?_))))))
    ·refine T.skip (T.seq (T.block (T.seq ?_)))
     obtain ⟨x7,hx7,h⟩:=bind_some h
     refine T.region (go 1 2 (sQ (Qda Ty.s26 (fun _=>rfl) rfl rfl hx7 (go 3 2 (RS.nil ?_)))))
     obtain ⟨zt_19,hz,h⟩:=bind_some h
     revert hz h;revert zt_19;intro c9 hz h
     refine T.join (Z:=Unit) (fun _=>mkA 131 [(1,sL (encL Qaa) p1),(3,.ptr 0 0),(5,.ptr 1 0),(58,sL encI p2.At),(59,iI ((p2.At).length:Int)),(60,iI s5),(75,.bool c9)]) (fun _=>[.box (Qma p0),.box (Qra p2)]) (fun _=>True) (fun _ _=>?_) (fun hK=>?_)
     ·refine T.ci h rfl (fun hb_20 h=>?_) (fun hb_20 h=>?_)
      ·refine T.seq (T.region (go 1 2 (RS.nil ?_)))
       obtain ⟨w_21,h,hw_21⟩:=Qsa h
       replace h:=h.trans (congrArg some (hv_16 _ hw_21))
       cases h
       exact tD
      refine T.skip (T.region (go 2 2 (RS.nil ?_)))
      exact ⟨IntKind.i64.wrap (s5+1),(Option.some.inj h).symm,wk [] [0,1] 2 rfl⟩
     refine T.region (go 3 2 ?_)
     rcases Qha (decide (x7<0)) with hb_18 | hb_18
     ·replace hz:=ite_T hz hb_18
      refine sN hb_18 (sN hb_18 (sN hb_18 (sN hb_18 (sN hb_18 (sN hb_18 (sN hb_18 (sQ (Qna (v:=.bool true) rfl hb_18 rfl (RS.nil ?_)))))))))
      exact T.sub (hK () trivial) ⟨rfl,rfl,rfl,rfl,rfl,rfl,(congrArg AV.bool ((congrArg (fun p=>p) (Option.some.inj hz)).symm)).symm,trivial⟩
     replace hz:=ite_F hz hb_18
     obtain ⟨x8,hx8,hz⟩:=bind_some hz
     refine yg 2 hb_18 (yg 2 hb_18 (yg 2 hb_18 (yQ hb_18 (Qda Ty.s25 (fun _=>rfl) rfl rfl hx8 (yg 2 hb_18 (yQ hb_18 (Qfa Ty.s29 rfl (yg 2 hb_18 (sQ (Qia (v:=.bool (decide (x7 > ((x8).length:Int)))) rfl hb_18 rfl (RS.nil ?_)))))))))))
     exact T.sub (hK () trivial) ⟨rfl,rfl,rfl,rfl,rfl,rfl,(congrArg AV.bool ((congrArg (fun p=>p) (Option.some.inj hz)).symm)).symm,trivial⟩
    refine T.exit ?_
    obtain ⟨w_22,h,hw_22⟩:=Qsa h
    replace h:=h.trans (congrArg some (hv_16 _ hw_22))
    refine T.seq (T.region (go 2 2 (RS.nil (T.seq (T.seq (T.region (go 2 2 (sQ (Qfa Ty.s25 rfl (go 1 2 ?_))))))))))
    refine RS.nil (T.block (T.iter (fun ss_29:Int=>mkA 131 [(3,.ptr 0 0),(5,.ptr 1 0),(10,.func 46 [.ptr 1 0]),(79,sL (encL Qaa) p2.Rings),(80,iI ((p2.Rings).length:Int)),(81,iI ss_29)]) (fun ss_29=>[.box (Qma p0),.box (Qra p2)]) h (wk [] [0,1] 2 rfl) (fun ss_29 v_30 h hv_30=>?_)))
    revert hv_30 h;revert ss_29;intro s10 h hv_30
    replace h:Zta p0 p2 s10=some v_30:=h
    try dsimp only
    unfold Zta at h
    refine T.seq (T.region (go 1 2 (RS.nil (T.seq (T.ci h rfl (fun hb_31 h=>?_) (fun hb_31 h=>?_))))))
    ·refine T.skip (T.seq (T.block (T.seq ?_)))
     obtain ⟨x12,hx12,h⟩:=bind_some h
     refine T.region (sQ (Qda Ty.s25 (fun _=>rfl) rfl rfl hx12 (go 2 2 (RS.nil (T.seq (T.seq (T.region (go 1 2 (sQ (Qfa Ty.s29 rfl (go 3 2 ?_)))))))))))
     refine RS.nil (T.ci h rfl (fun hb_32 h=>?_) (fun hb_32 h=>?_))
     ·refine T.seq (T.region (go 1 2 (RS.nil ?_)))
      obtain ⟨w_33,h,hw_33⟩:=Qsa h
      replace h:=h.trans (congrArg some (hv_30 _ hw_33))
      cases h
      exact tD
     refine T.skip (T.seq ?_)
     obtain ⟨x14,hx14,h⟩:=bind_some h
     refine T.region (go 2 2 (sO (Vja (ac:=[sL Qaa x12,.ptr 1 0]) (as0:=[sL Qaa x12,.ptr 0 0]) (aw0:=[.box (Qra p2)]) (aw1:=[.box (Qra p2)]) (aw2:=[.box (Qma p0),.box (Qra p2)]) (v:=.bool x14) (v':=.bool x14) (n0:=2) (n1:=1) [1] rfl rfl rfl rfl (by decide) (Jsa (cs:=(Qra p2)) (ds:=(Qra p2)) rfl ⟨rn_s rfl,rn_s rfl,rn_s rfl,rn_s rfl,rn_s rfl,trivial⟩ (Qxa)) ⟨rn_s rfl,Qqa rfl,trivial⟩ (Qib x12 p2.At p2.Rings p2.Memory p2.Choices p2.Out x14 hx14) rfl (Qua (Vfa _)) ⟨.inr ⟨rfl,rfl⟩,.inl ⟨0,_,by decide,rfl,Zoa (cs:=(Qra p2)) (ds:=(Qra p2)) ⟨Qua (Qpa Yga _),Qua (Qpa (Y8a Q0a) _),Qua (Qpa Q9a _),Qua (Qpa Q5a _),Qua (Qpa Q0a _),trivial⟩⟩,trivial⟩ (go 1 2 (RS.nil (T.ci h rfl (fun hb_34 h=>?_) (fun hb_34 h=>?_)))))))
     ·refine T.seq (T.region (go 1 2 (RS.nil ?_)))
      obtain ⟨w_35,h,hw_35⟩:=Qsa h
      replace h:=h.trans (congrArg some (hv_30 _ hw_35))
      cases h
      exact tD
     refine T.skip (T.region (go 2 2 (RS.nil ?_)))
     exact ⟨IntKind.i64.wrap (s10+1),(Option.some.inj h).symm,wk [] [0,1] 2 rfl⟩
    refine T.exit ?_
    obtain ⟨w_36,h,hw_36⟩:=Qsa h
    replace h:=h.trans (congrArg some (hv_30 _ hw_36))
    refine T.seq (T.seq (T.region (go 2 2 (sQ (Qfa Ty.s27 rfl (go 1 2 (RS.nil (T.block (T.iter (fun ss_43:Int=>mkA 131 [(3,.ptr 0 0),(5,.ptr 1 0),(10,.func 46 [.ptr 1 0]),(96,sL Qca p2.Memory),(97,iI ((p2.Memory).length:Int)),(98,iI ss_43)]) (fun ss_43=>[.box (Qma p0),.box (Qra p2)]) h (wk [] [0,1] 2 rfl) (fun ss_43 v_44 h hv_44=>?_))))))))))
    revert hv_44 h;revert ss_43;intro s15 h hv_44
    replace h:Zua p0 p2 s15=some v_44:=h
    try dsimp only
    unfold Zua at h
    refine T.seq (T.region (go 1 2 (RS.nil (T.seq (T.ci h rfl (fun hb_45 h=>?_) (fun hb_45 h=>?_))))))
    ·refine T.skip (T.seq (T.block (T.seq ?_)))
     obtain ⟨x17,hx17,h⟩:=bind_some h
     refine T.region (sQ (Qda Ty.s27 (fun _=>rfl) rfl rfl hx17 (go 3 2 (RS.nil (T.seq (T.seq ?_))))))
     obtain ⟨x19,hx19,h⟩:=bind_some h
     refine T.region (go 1 3 (sO (cF (crossref_CheckMemory_c x17 x19 hx19) ⟨rfl,(go 1 3 (RS.nil (T.seq (T.region (go 2 3 (RS.nil (T.ci h rfl (fun hb_46 h=>?_) (fun hb_46 h=>?_))))))))⟩)))
     ·refine T.seq (T.region (go 2 3 (RS.nil ?_)))
      obtain ⟨w_47,h,hw_47⟩:=Qsa h
      replace h:=h.trans (congrArg some (hv_44 _ hw_47))
      cases h
      exact tD
     refine T.skip (T.seq (T.region (go 4 3 (sQ (Qfa Ty.s28 rfl (go 1 3 (RS.nil (T.ci h rfl (fun hb_48 h=>?_) (fun hb_48 h=>?_)))))))))
     ·refine T.seq (T.region (go 1 3 (RS.nil ?_)))
      obtain ⟨w_49,h,hw_49⟩:=Qsa h
      replace h:=h.trans (congrArg some (hv_44 _ hw_49))
      cases h
      exact tD
     refine T.skip (T.region (go 2 3 (RS.nil ?_)))
     exact ⟨IntKind.i64.wrap (s15+1),(Option.some.inj h).symm,wk [] [0,1] 3 rfl⟩
    refine T.exit ?_
    obtain ⟨w_50,h,hw_50⟩:=Qsa h
    replace h:=h.trans (congrArg some (hv_44 _ hw_50))
    refine T.seq (T.seq (T.region (go 2 2 (sQ (Qfa Ty.s28 rfl (go 1 2 (RS.nil (T.block (T.iter (fun ss_55:Int=>mkA 131 [(3,.ptr 0 0),(5,.ptr 1 0),(10,.func 46 [.ptr 1 0]),(115,sL Qba p2.Choices),(116,iI ((p2.Choices).length:Int)),(117,iI ss_55)]) (fun ss_55=>[.box (Qma p0),.box (Qra p2)]) h (wk [] [0,1] 2 rfl) (fun ss_55 v_56 h hv_56=>?_))))))))))
    revert hv_56 h;revert ss_55;intro s20 h hv_56
    replace h:Zsa p0 p2 s20=some v_56:=h
    try dsimp only
    unfold Zsa at h
    refine T.seq (T.region (go 1 2 (RS.nil (T.seq (T.ci h rfl (fun hb_57 h=>?_) (fun hb_57 h=>?_))))))
    ·refine T.skip (T.seq (T.block (T.seq ?_)))
     obtain ⟨x22,hx22,h⟩:=bind_some h
     refine T.region (sQ (Qda Ty.s28 (fun _=>rfl) rfl rfl hx22 (go 3 2 (RS.nil (T.seq ?_)))))
     obtain ⟨x24,hx24,h⟩:=bind_some h
     refine T.region (go 2 3 (sO (cF (crossref_IsChoice_c p0 x22 x24 hx24) ⟨rfl,(go 1 3 (RS.nil (T.ci h rfl (fun hb_58 h=>?_) (fun hb_58 h=>?_))))⟩)))
     ·refine T.seq (T.region (go 1 3 (RS.nil ?_)))
      obtain ⟨w_59,h,hw_59⟩:=Qsa h
      replace h:=h.trans (congrArg some (hv_56 _ hw_59))
      cases h
      exact tD
     refine T.skip (T.region (go 2 3 (RS.nil ?_)))
     exact ⟨IntKind.i64.wrap (s20+1),(Option.some.inj h).symm,wk [] [0,1] 3 rfl⟩
    refine T.exit ?_
    obtain ⟨w_60,h,hw_60⟩:=Qsa h
    replace h:=h.trans (congrArg some (hv_56 _ hw_60))
    refine T.seq (T.seq ?_)
    obtain ⟨x26,hx26,h⟩:=bind_some h
    refine T.region (go 3 2 (sO (Vja (ac:=[sL Qaa p2.Out,.ptr 1 0]) (as0:=[sL Qaa p2.Out,.ptr 0 0]) (aw0:=[.box (Qra p2)]) (aw1:=[.box (Qra p2)]) (aw2:=[.box (Qma p0),.box (Qra p2)]) (v:=.bool x26) (v':=.bool x26) (n0:=2) (n1:=1) [1] rfl rfl rfl rfl (by decide) (Jsa (cs:=(Qra p2)) (ds:=(Qra p2)) rfl ⟨rn_s rfl,rn_s rfl,rn_s rfl,rn_s rfl,rn_s rfl,trivial⟩ (Qxa)) ⟨rn_s rfl,Qqa rfl,trivial⟩ (Qib p2.Out p2.At p2.Rings p2.Memory p2.Choices p2.Out x26 hx26) rfl (Qua (Vfa _)) ⟨.inr ⟨rfl,rfl⟩,.inl ⟨0,_,by decide,rfl,Zoa (cs:=(Qra p2)) (ds:=(Qra p2)) ⟨Qua (Qpa Yga _),Qua (Qpa (Y8a Q0a) _),Qua (Qpa Q9a _),Qua (Qpa Q5a _),Qua (Qpa Q0a _),trivial⟩⟩,trivial⟩ (go 1 2 (RS.nil (T.ci h rfl (fun hb_61 h=>?_) (fun hb_61 h=>?_)))))))
    ·refine T.seq (T.region (go 1 2 (RS.nil ?_)))
     cases h
     exact tD
    refine T.skip (T.seq (T.region (go 1 2 (RS.nil ?_))))
    cases h
    exact tD
   refine T.region (go 2 2 (sQ (Qfa Ty.s28 rfl (go 2 2 ?_))))
   rcases Qha (decide (((p2.Choices).length:Int) > 500)) with hb_5 | hb_5
   ·refine sN hb_5 (sN hb_5 (sN hb_5 (sN hb_5 (sQ (Qna (v:=.bool true) rfl hb_5 rfl (RS.nil ?_))))))
    exact T.sub (hK () trivial) ⟨rfl,rfl,rfl,(congrArg AV.bool (by simp only [hb_5,bz,if_true,if_false,Bool.false_eq_true])).symm,trivial⟩
   refine yg 2 hb_5 (yg 2 hb_5 (yQ hb_5 (Qfa Ty.s29 rfl (yg 2 hb_5 (sQ (Qia (v:=.bool (decide (((p2.Out).length:Int) > 2000))) rfl hb_5 rfl (RS.nil ?_)))))))
   exact T.sub (hK () trivial) ⟨rfl,rfl,rfl,(congrArg AV.bool (by simp only [hb_5,bz,if_true,if_false,Bool.false_eq_true])).symm,trivial⟩
  refine T.region (go 2 2 (sQ (Qfa Ty.s26 rfl (go 1 2 (sQ (Qfa Ty.s25 rfl (go 2 2 ?_)))))))
  rcases Qha (((p2.At).length:Int) != ((p1).length:Int)) with hb_2 | hb_2
  ·refine sN hb_2 (sN hb_2 (sN hb_2 (sN hb_2 (sN hb_2 (sN hb_2 (sQ (Qna (v:=.bool true) rfl hb_2 rfl (go 1 2 (sN rfl (sN rfl ?_))))))))))
   refine sN rfl (sN rfl (sN rfl (sN rfl (sN rfl (sQ (Qna (v:=.bool true) rfl rfl rfl (RS.nil ?_)))))))
   exact T.sub (hK () trivial) ⟨rfl,rfl,rfl,(congrArg AV.bool (by simp only [hb_2,bz,if_true,if_false,Bool.false_eq_true])).symm,trivial⟩
  refine yg 2 hb_2 (yg 2 hb_2 (yQ hb_2 (Qfa Ty.s25 rfl (yg 2 hb_2 (yg 2 hb_2 (yg 2 hb_2 (sQ (Qia (v:=.bool (((p2.Rings).length:Int) != p0.Rings)) rfl hb_2 rfl (go 1 2 ?_)))))))))
  rcases Qha (((p2.Rings).length:Int) != p0.Rings) with hb_3 | hb_3
  ·refine sN hb_3 (sN hb_3 (sN hb_3 (sN hb_3 (sN hb_3 (sN hb_3 (sN hb_3 (sQ (Qna (v:=.bool true) rfl hb_3 rfl (RS.nil ?_)))))))))
   exact T.sub (hK () trivial) ⟨rfl,rfl,rfl,(congrArg AV.bool (by simp only [hb_2,hb_3,bz,if_true,if_false,Bool.false_eq_true])).symm,trivial⟩
  refine yg 2 hb_3 (yg 2 hb_3 (yQ hb_3 (Qfa Ty.s27 rfl (yg 2 hb_3 (yg 2 hb_3 (yQ hb_3 (Qfa Ty.s22 rfl (yg 2 hb_3 (sQ (Qia (v:=.bool (((p2.Memory).length:Int) != ((p0.Nodes).length:Int))) rfl hb_3 rfl (RS.nil ?_)))))))))))
  exact T.sub (hK () trivial) ⟨rfl,rfl,rfl,(congrArg AV.bool (by simp only [hb_2,hb_3,bz,if_true,if_false,Bool.false_eq_true])).symm,trivial⟩
theorem move_Ready_c (p0:Net) (p1:List (List Item)) (p2:State) (r:(List Move) × Int) (h:move_Ready p0 p1 p2=some r):FnO Tryz.prog 18 [.agg (Qma p0),sL (encL Qaa) p1,.agg (Qra p2)] (.tup [.ref 0,iI r.2]) [aR 51 2 Qta r.1]:=by
  unfold move_Ready at h
  refine fnT 0 Tryz.func18 Tryz.ntmps18 ?_
  refine T.seq (T.region (go 4 0 (RS.nil (T.seq (T.seq ?_)))))
  obtain ⟨x2,hx2,h⟩:=bind_some h
  refine T.region (go 3 2 (sO (cF (move_Check_c p0 p1 p2 x2 hx2) ⟨rfl,(go 1 2 (RS.nil (T.seq (T.region (go 2 2 (RS.nil (T.ci h rfl (fun hb_1 h=>?_) (fun hb_1 h=>?_))))))))⟩)))
  ·refine T.seq (T.region (go 3 2 (RS.nil ?_)))
   cases h
   exact tO [(0,51,2)] [2] 2
  refine T.skip (T.seq ?_)
  obtain ⟨x4,hx4,h⟩:=bind_some h
  refine T.region (go 3 2 (sO (cO 2 (move_ready_c p0 p1 p2 x4 hx4) ⟨rfl,(go 2 3 (RS.nil ?_))⟩)))
  cases h
  exact tO [] [2] 3
theorem slices_Equal_Move_c (p0:List Move) (p1:List Move) (r:Bool) (h:Yaa p0 p1=some r):Fn Tryz.prog 21 [sL Qta p0,sL Qta p1] (.bool r):=by
  unfold Yaa at h
  refine fnT 0 Tryz.func21 Tryz.ntmps21 ?_
  refine T.seq (T.region (go 1 0 (RS.nil (T.seq (T.seq (T.region (go 1 0 (sQ (Qfa Ty.s45 rfl (go 1 0 ?_))))))))))
  refine sQ (Qfa Ty.s45 rfl (go 1 0 (RS.nil (T.ci h rfl (fun hb_1 h=>?_) (fun hb_1 h=>?_)))))
  ·refine T.seq (T.region (go 1 0 (RS.nil ?_)))
   cases h
   exact tD
  refine T.skip (T.seq (T.seq (T.region (go 1 0 (sQ (Qfa Ty.s45 rfl (go 1 0 (RS.nil (T.block (T.iter (fun ss_6:Int=>mkA 26 [(0,sL Qta p0),(1,sL Qta p1),(12,iI ((p0).length:Int)),(13,iI ss_6)]) (fun ss_6=>[]) h (wk [] [] 0 rfl) (fun ss_6 v_7 h hv_7=>?_)))))))))))
  revert hv_7 h;revert ss_6;intro s1 h hv_7
  replace h:V0a p0 p1 s1=some v_7:=h
  try dsimp only
  unfold V0a at h
  refine T.seq (T.region (go 1 0 (RS.nil (T.seq (T.ci h rfl (fun hb_8 h=>?_) (fun hb_8 h=>?_))))))
  ·refine T.skip (T.seq (T.block (T.seq (T.region (go 2 0 (RS.nil (T.seq ?_)))))))
   obtain ⟨x4,hx4,h⟩:=bind_some h
   obtain ⟨x5,hx5,h⟩:=bind_some h
   refine T.drawn mixed (k:=9) rfl (rq [0,1] 7 (r0 2 rfl (Qda Ty.s45 (fun _=>rfl) rfl rfl hx4 (rq [4,5] 4 (r0 6 rfl (Qda Ty.s45 (fun _=>rfl) rfl rfl hx5 (rL [3,8] 3 rfl (ra1 7 (og 0 ⟨rfl,(r0 8 rfl (v_gneq (cs:=[iI x4.Node,iI x4.Lane]) (ds:=[iI x5.Node,iI x5.Lane]) (r:=x4==x5) Ty.q51 rfl rfl rfl rfl (encMove_eq x4 x5) (RA.done (by decide +kernel) ?_)))⟩)))))))))
   refine T.ci h rfl (fun hb_9 h=>?_) (fun hb_9 h=>?_)
   ·refine T.seq (T.region (go 1 0 (RS.nil ?_)))
    obtain ⟨w_10,h,hw_10⟩:=Qsa h
    replace h:=h.trans (congrArg some (hv_7 _ hw_10))
    cases h
    exact tD
   refine T.skip (T.region (go 2 0 (RS.nil ?_)))
   exact ⟨IntKind.i64.wrap (s1+1),(Option.some.inj h).symm,wk [] [] 0 rfl⟩
  refine T.exit ?_
  obtain ⟨w_11,h,hw_11⟩:=Qsa h
  replace h:=h.trans (congrArg some (hv_7 _ hw_11))
  refine T.seq (T.region (go 1 0 (RS.nil ?_)))
  cases h
  exact tD
end Go.Proofs.YtfbmoockopakjaaGreat
namespace Go.Proofs.YtfbmoockopakjaaGreat
open Go.RowKit
set_option linter.unusedVariables false
set_option linter.unusedSimpArgs false
set_option maxRecDepth 100000
set_option maxHeartbeats 4000000
set_option synthInstance.maxSize 100000
set_option synthInstance.maxHeartbeats 4000000
theorem move_Do_c (p0:Net) (p1:List (List Item)) (p2:State) (p3:Move) (r:State × Int) (h:move_Do p0 p1 p2 p3=some r):Fn Tryz.prog 24 [.agg (Qma p0),sL (encL Qaa) p1,.agg (Qra p2),.agg (Qta p3)] (.tup [.agg (Qra r.1),iI r.2]):=by
  unfold move_Do at h
  refine fnT 0 Tryz.func24 Tryz.ntmps24 ?_
  refine T.seq (T.region (go 5 0 (RS.nil (T.seq (T.seq ?_)))))
  obtain ⟨x2,hx2,h⟩:=bind_some h
  refine T.region (go 3 4 (sO (cF (move_Check_c p0 p1 p2 x2 hx2) ⟨rfl,(go 1 4 (RS.nil (T.seq (T.region (go 2 4 (RS.nil (T.ci h rfl (fun hb_1 h=>?_) (fun hb_1 h=>?_))))))))⟩)))
  ·refine T.seq (T.region (go 4 4 (RS.nil ?_)))
   cases h
   exact tD
  refine T.skip (T.seq ?_)
  obtain ⟨zt_7,hz,h⟩:=bind_some h
  revert hz h;revert zt_7;intro c5 hz h
  refine T.join (Z:=Unit) (fun _=>mkA 78 [(1,sL (encL Qaa) p1),(4,.ptr 0 0),(6,.ptr 1 0),(7,.ptr 2 0),(8,.ptr 3 0),(62,.bool c5)]) (fun _=>[.box (Qma p0),.box (Qra p2),.box (Qta p3),.box [.nils,.nils,.nils,.nils,.nils]]) (fun _=>True) (fun _ _=>?_) (fun hK=>?_)
  ·refine T.ci h rfl (fun hb_8 h=>?_) (fun hb_8 h=>?_)
   ·refine T.seq (T.region (go 3 4 (RS.nil ?_)))
    cases h
    exact tD
   refine T.skip (T.seq (T.seq ?_))
   obtain ⟨x7,hx7,h⟩:=bind_some h
   refine T.region (go 4 4 (sO (cF (move_can_c p0 p1 p2 p3 x7 hx7) ⟨rfl,(go 1 4 (RS.nil (T.ci h rfl (fun hb_9 h=>?_) (fun hb_9 h=>?_))))⟩)))
   ·refine T.seq (T.region (go 3 4 (RS.nil ?_)))
    cases h
    exact tD
   refine T.skip (T.seq ?_)
   obtain ⟨x9,hx9,h⟩:=bind_some h
   refine T.region (go 1 4 (sO (Vja (ac:=[.agg (Qra p2)]) (as0:=[.agg (Qra p2)]) (aw0:=[]) (aw1:=[aR 3 1 encI x9.At,aR 29 1 (encL Qaa) x9.Rings,aR 84 3 Qca x9.Memory,aR 77 2 Qba x9.Choices,aR 72 3 Qaa x9.Out]) (aw2:=[.box (Qma p0),.box (Qra p2),.box (Qta p3),.box [.nils,.nils,.nils,.nils,.nils],aR 3 1 encI x9.At,aR 29 1 (encL Qaa) x9.Rings,aR 84 3 Qca x9.Memory,aR 77 2 Qba x9.Choices,aR 72 3 Qaa x9.Out]) (v:=.agg [.ref 0,.ref 1,.ref 2,.ref 3,.ref 4]) (v':=.agg [.ref 4,.ref 5,.ref 6,.ref 7,.ref 8]) (n0:=4) (n1:=5) [] rfl rfl rfl rfl (by decide) (Qxa) ⟨rn_agg ⟨rn_s rfl,rn_s rfl,rn_s rfl,rn_s rfl,rn_s rfl,trivial⟩,trivial⟩ (FnX.of_fnO (move_Copy_c p2 x9 hx9)) rfl (rm_agg (cs:=[.ref 4,.ref 5,.ref 6,.ref 7,.ref 8]) (ds:=[.ref 0,.ref 1,.ref 2,.ref 3,.ref 4]) ⟨Vga (by decide),Vga (by decide),Vga (by decide),Vga (by decide),Vga (by decide),trivial⟩) ⟨.inr ⟨rfl,rfl⟩,.inr ⟨rfl,rfl⟩,.inr ⟨rfl,rfl⟩,.inr ⟨rfl,rfl⟩,.inl ⟨0,_,by decide,rfl,Zca Yga⟩,.inl ⟨1,_,by decide,rfl,Zca (Y8a Q0a)⟩,.inl ⟨2,_,by decide,rfl,Zca Q9a⟩,.inl ⟨3,_,by decide,rfl,Zca Q5a⟩,.inl ⟨4,_,by decide,rfl,Zca Q0a⟩,trivial⟩ (go 1 9 (RS.nil (T.seq ?_))))))
   obtain ⟨x11,hx11,h⟩:=bind_some h
   refine T.region (go 3 9 (sO (Vja (ac:=[.agg (Qma p0),sL (encL Qaa) p1,.ptr 1 0,.agg (Qta p3)]) (as0:=[.agg (Qma p0),sL (encL Qaa) p1,.ptr 0 0,.agg (Qta p3)]) (aw0:=[.box [.ref 1,.ref 2,.ref 3,.ref 4,.ref 5],aR 3 1 encI x9.At,aR 29 1 (encL Qaa) x9.Rings,aR 84 3 Qca x9.Memory,aR 77 2 Qba x9.Choices,aR 72 3 Qaa x9.Out]) (aw1:=[.box [.ref 1,.ref 2,.ref 3,.ref 6,.ref 7],aR 3 1 encI x11.1,aR 29 1 (encL Qaa) x11.2.1,aR 84 3 Qca x11.2.2.1,.dead,.dead,aR 77 2 Qba x11.2.2.2.1,aR 72 3 Qaa x11.2.2.2.2]) (aw2:=[.box (Qma p0),.box [.ref 4,.ref 5,.ref 6,.ref 9,.ref 10],.box (Qta p3),.box [.nils,.nils,.nils,.nils,.nils],aR 3 1 encI x11.1,aR 29 1 (encL Qaa) x11.2.1,aR 84 3 Qca x11.2.2.1,.dead,.dead,aR 77 2 Qba x11.2.2.2.1,aR 72 3 Qaa x11.2.2.2.2]) (v:=.tup []) (v':=.tup []) (n0:=9) (n1:=8) [1,4,5,6,7,8] rfl rfl rfl rfl (by decide) (Jsa (cs:=[.ref 1,.ref 2,.ref 3,.ref 4,.ref 5]) (ds:=[.ref 4,.ref 5,.ref 6,.ref 7,.ref 8]) rfl ⟨Qza rfl,Qza rfl,Qza rfl,Qza rfl,Qza rfl,trivial⟩ (Z2a rfl Yga rfl (Z2a rfl (Y8a Q0a) rfl (Z2a rfl Q9a rfl (Z2a rfl Q5a rfl (Z2a rfl Q0a rfl (Qxa))))))) ⟨rn_agg ⟨rn_s rfl,Qga rfl,Qga rfl,trivial⟩,rn_s rfl,Qqa rfl,rn_agg ⟨Qga rfl,Qga rfl,trivial⟩,trivial⟩ (move_do_x5aa6_c p0 p1 p3 x9.At x9.Rings x9.Memory x9.Choices x9.Out x11 hx11) rfl (rm_tup (cs:=[]) (ds:=[]) trivial) ⟨.inr ⟨rfl,rfl⟩,.inl ⟨0,_,by decide,rfl,Zoa (cs:=[.ref 4,.ref 5,.ref 6,.ref 9,.ref 10]) (ds:=[.ref 1,.ref 2,.ref 3,.ref 6,.ref 7]) ⟨Vga (by decide),Vga (by decide),Vga (by decide),Vga (by decide),Vga (by decide),trivial⟩⟩,.inr ⟨rfl,rfl⟩,.inr ⟨rfl,rfl⟩,.inl ⟨1,_,by decide,rfl,Zca Yga⟩,.inl ⟨2,_,by decide,rfl,Zca (Y8a Q0a)⟩,.inl ⟨3,_,by decide,rfl,Zca Q9a⟩,.inl ⟨4,_,by decide,rfl,trivial⟩,.inl ⟨5,_,by decide,rfl,trivial⟩,.inl ⟨6,_,by decide,rfl,Zca Q5a⟩,.inl ⟨7,_,by decide,rfl,Zca Q0a⟩,trivial⟩ (RS.nil (T.seq (T.region (go 3 11 (RS.nil ?_))))))))
   cases h
   exact tD
  rcases Qha (decide (p3.Node<0)) with hb_2 | hb_2
  ·replace hz:=ite_T hz hb_2
   refine T.drawn mixed (k:=44) rfl (rq [0] 43 (ra1 1 (og 4 ⟨rfl,(rq [2,3] 40 (r2 4 rfl hb_2 (r2 5 rfl hb_2 (r2 6 rfl hb_2 (r2 7 rfl hb_2 (r2 8 rfl hb_2 ?_))))))⟩)))
   refine r2 9 rfl hb_2 (r0 10 rfl (Qna (v:=.bool true) rfl hb_2 rfl (rq [11] 32 (r2 12 rfl rfl (r2 13 rfl rfl (r2 14 rfl rfl (r0 15 rfl (Qna (v:=.bool true) rfl rfl rfl (rq [16] 27 (r2 17 rfl rfl (r2 18 rfl rfl ?_)))))))))))
   refine r2 19 rfl rfl (r2 20 rfl rfl (r3 21 rfl (r3 22 rfl (r3 23 rfl (r3 24 rfl (r3 25 rfl (r3 26 rfl (r3 27 rfl (r3 28 rfl ?_)))))))))
   refine r3 29 rfl (r3 30 rfl (r3 31 rfl (r3 32 rfl (r3 33 rfl (r3 34 rfl (r3 35 rfl (r3 36 rfl (r3 37 rfl (r3 38 rfl ?_)))))))))
   refine r3 39 rfl (r3 40 rfl (r3 41 rfl (r2 42 rfl rfl (r0 43 rfl (Qna (v:=.bool true) rfl rfl rfl (RA.done (by decide +kernel) ?_))))))
   exact T.sub (hK () trivial) ⟨rfl,rfl,rfl,rfl,rfl,(congrArg AV.bool ((congrArg (fun p=>p) (Option.some.inj hz)).symm)).symm,trivial⟩
  replace hz:=ite_F hz hb_2
  rcases Qha (decide (p3.Node ≥ ((p0.Nodes).length:Int))) with hb_3 | hb_3
  ·replace hz:=ite_T hz hb_3
   refine T.drawn mixed (k:=44) rfl ?_
   apply RA.jn 0 #[true,true,true,true,true,true,true,true,true,true,true,true,true,true,true,true,true,true,true,true,true,true,true,true,true,true,true,true,true,true,true,true,true,true,true,true,true,true,true,true,true,true,true,true];intro hS10
   ·refine rq [0] 43 (ra1 1 (og 4 ⟨rfl,(rq [2,3] 40 (ry 4 hb_2 rfl (ry 6 hb_2 rfl (ra2 5 7 ?_ ?_))))⟩))
    ·refine oy 4 hb_2 rfl (ra1 7 (oy 4 hb_2 rfl (r1 8 rfl hb_2 (Qfa Ty.s22 rfl (ry 9 hb_2 rfl (r0 10 rfl (Qia (v:=.bool (decide (p3.Node ≥ ((p0.Nodes).length:Int)))) rfl hb_2 rfl (rq [11] 32 (r2 12 rfl hb_3 (r2 13 rfl hb_3 (r2 14 rfl hb_3 ?_)))))))))))
     refine r0 15 rfl (Qna (v:=.bool true) rfl hb_3 rfl (rq [16] 27 (r2 17 rfl rfl (r2 18 rfl rfl (r2 19 rfl rfl (r2 20 rfl rfl (r3 21 rfl (r3 22 rfl (r3 23 rfl (r3 24 rfl ?_))))))))))
     refine r3 25 rfl (r3 26 rfl (r3 27 rfl (r3 28 rfl (r3 29 rfl (r3 30 rfl (r3 31 rfl (r3 32 rfl (r3 33 rfl (r3 34 rfl ?_)))))))))
     refine r3 35 rfl (r3 36 rfl (r3 37 rfl (r3 38 rfl (r3 39 rfl (r3 40 rfl (r3 41 rfl (r2 42 rfl rfl (r0 43 rfl (Qna (v:=.bool true) rfl rfl rfl ?_)))))))))
     exact raE hS10
    ·refine oy 4 hb_2 rfl (r1 8 rfl hb_2 (Qfa Ty.s22 rfl (ra1 5 (oy 4 hb_2 rfl (ry 9 hb_2 rfl (r0 10 rfl (Qia (v:=.bool (decide (p3.Node ≥ ((p0.Nodes).length:Int)))) rfl hb_2 rfl (rq [11] 32 (r2 12 rfl hb_3 (r2 13 rfl hb_3 (r2 14 rfl hb_3 ?_)))))))))))
     refine r0 15 rfl (Qna (v:=.bool true) rfl hb_3 rfl (rq [16] 27 (r2 17 rfl rfl (r2 18 rfl rfl (r2 19 rfl rfl (r2 20 rfl rfl (r3 21 rfl (r3 22 rfl (r3 23 rfl (r3 24 rfl ?_))))))))))
     refine r3 25 rfl (r3 26 rfl (r3 27 rfl (r3 28 rfl (r3 29 rfl (r3 30 rfl (r3 31 rfl (r3 32 rfl (r3 33 rfl (r3 34 rfl ?_)))))))))
     refine r3 35 rfl (r3 36 rfl (r3 37 rfl (r3 38 rfl (r3 39 rfl (r3 40 rfl (r3 41 rfl (r2 42 rfl rfl (r0 43 rfl (Qna (v:=.bool true) rfl rfl rfl ?_)))))))))
     exact raT hS10
   refine RA.done (by decide +kernel) ?_
   exact T.sub (hK () trivial) ⟨rfl,rfl,rfl,rfl,rfl,(congrArg AV.bool ((congrArg (fun p=>p) (Option.some.inj hz)).symm)).symm,trivial⟩
  replace hz:=ite_F hz hb_3
  rcases Qha (decide (p3.Lane<0)) with hb_4 | hb_4
  ·replace hz:=ite_T hz hb_4
   refine T.drawn mixed (k:=44) rfl ?_
   apply RA.jn 31 #[true,true,true,true,true,true,true,true,true,true,true,true,true,false,false,false,false,false,false,false,false,false,false,false,false,false,false,false,false,false,false,false,false,false,false,false,false,false,false,false,false,false,false,false];intro hS11
   ·refine rq [0] 43 (ra1 1 (og 4 ⟨rfl,(rq [2,3] 40 (ry 4 hb_2 rfl (ry 6 hb_2 rfl (ra2 5 7 ?_ ?_))))⟩))
    ·refine oy 4 hb_2 rfl (ra1 7 (oy 4 hb_2 rfl (r1 8 rfl hb_2 (Qfa Ty.s22 rfl (ry 9 hb_2 rfl (r0 10 rfl (Qia (v:=.bool (decide (p3.Node ≥ ((p0.Nodes).length:Int)))) rfl hb_2 rfl (rq [11] 32 (ry 12 hb_3 rfl ?_)))))))))
     exact raE hS11
    ·refine oy 4 hb_2 rfl (r1 8 rfl hb_2 (Qfa Ty.s22 rfl (ra1 5 (oy 4 hb_2 rfl (ry 9 hb_2 rfl (r0 10 rfl (Qia (v:=.bool (decide (p3.Node ≥ ((p0.Nodes).length:Int)))) rfl hb_2 rfl (rq [11] 32 (ry 12 hb_3 rfl ?_)))))))))
     exact raT hS11
   refine ra1 13 (oy 4 hb_3 rfl (ry 14 hb_3 rfl (r0 15 rfl (Qia (v:=.bool (decide (p3.Lane<0))) rfl hb_3 rfl (rq [16] 27 (r2 17 rfl hb_4 (r2 18 rfl hb_4 (r2 19 rfl hb_4 (r2 20 rfl hb_4 (r3 21 rfl ?_))))))))))
   refine r3 22 rfl (r3 23 rfl (r3 24 rfl (r3 25 rfl (r3 26 rfl (r3 27 rfl (r3 28 rfl (r3 29 rfl (r3 30 rfl (r3 31 rfl ?_)))))))))
   refine r3 32 rfl (r3 33 rfl (r3 34 rfl (r3 35 rfl (r3 36 rfl (r3 37 rfl (r3 38 rfl (r3 39 rfl (r3 40 rfl (r3 41 rfl ?_)))))))))
   refine r2 42 rfl hb_4 (r0 43 rfl (Qna (v:=.bool true) rfl hb_4 rfl (RA.done (by decide +kernel) ?_)))
   exact T.sub (hK () trivial) ⟨rfl,rfl,rfl,rfl,rfl,(congrArg AV.bool ((congrArg (fun p=>p) (Option.some.inj hz)).symm)).symm,trivial⟩
  replace hz:=ite_F hz hb_4
  rcases Qha (decide (p3.Lane > 0)) with hb_5 | hb_5
  ·replace hz:=ite_T hz hb_5
   obtain ⟨x3,hx3,hz⟩:=bind_some hz
   rcases Qha (x3.Kind != 6) with hb_6 | hb_6
   ·replace hz:=ite_T hz hb_6
    refine T.drawn mixed (k:=44) rfl ?_
    apply RA.jn 17 #[true,true,true,true,true,true,true,true,true,true,true,true,true,true,true,true,true,true,true,true,true,true,true,true,true,true,true,false,false,false,false,false,false,false,false,false,false,false,false,false,false,false,false,false];intro hS12
    apply RA.jn 31 #[true,true,true,true,true,true,true,true,true,true,true,true,true,false,false,false,false,false,false,false,false,false,false,false,false,false,false,false,false,false,false,false,false,false,false,false,false,false,false,false,false,false,false,false];intro hS13
    ·refine rq [0] 43 (ra1 1 (og 4 ⟨rfl,(rq [2,3] 40 (ry 4 hb_2 rfl (ry 6 hb_2 rfl (ra2 5 7 ?_ ?_))))⟩))
     ·refine oy 4 hb_2 rfl (ra1 7 (oy 4 hb_2 rfl (r1 8 rfl hb_2 (Qfa Ty.s22 rfl (ry 9 hb_2 rfl (r0 10 rfl (Qia (v:=.bool (decide (p3.Node ≥ ((p0.Nodes).length:Int)))) rfl hb_2 rfl (rq [11] 32 (ry 12 hb_3 rfl ?_)))))))))
      exact raE hS13
     ·refine oy 4 hb_2 rfl (r1 8 rfl hb_2 (Qfa Ty.s22 rfl (ra1 5 (oy 4 hb_2 rfl (ry 9 hb_2 rfl (r0 10 rfl (Qia (v:=.bool (decide (p3.Node ≥ ((p0.Nodes).length:Int)))) rfl hb_2 rfl (rq [11] 32 (ry 12 hb_3 rfl ?_)))))))))
      exact raT hS13
    ·refine ra1 13 (oy 4 hb_3 rfl (ry 14 hb_3 rfl (r0 15 rfl (Qia (v:=.bool (decide (p3.Lane<0))) rfl hb_3 rfl (rq [16] 27 (ry 17 hb_4 rfl (ra1 18 (oy 4 hb_4 rfl (ry 19 hb_4 rfl (ry 20 hb_4 rfl ?_))))))))))
     refine ry 21 hb_5 rfl (ry 23 hb_5 rfl (ra2 22 24 ?_ ?_))
     ·refine oy 4 hb_5 rfl (ra1 24 (oy 4 hb_5 rfl (r1 25 rfl hb_5 (Qda Ty.s22 (fun _=>rfl) rfl rfl hx3 (ry 26 hb_5 rfl ?_)))))
      exact raE hS12
     ·refine oy 4 hb_5 rfl (ra1 22 (oy 4 hb_5 rfl (r1 25 rfl hb_5 (Qda Ty.s22 (fun _=>rfl) rfl rfl hx3 (ry 26 hb_5 rfl ?_)))))
      exact raT hS12
    refine ra1 27 (oy 4 hb_5 rfl (ry 28 hb_5 rfl (ry 29 hb_5 rfl (r2 30 rfl hb_6 (r2 31 rfl hb_6 (r2 32 rfl hb_6 (r2 33 rfl hb_6 (r2 34 rfl hb_6 (r2 35 rfl hb_6 ?_)))))))))
    refine r2 36 rfl hb_6 (r2 37 rfl hb_6 (r2 38 rfl hb_6 (r2 39 rfl hb_6 (r2 40 rfl hb_6 (r1 41 rfl hb_5 (Qna (v:=.bool true) rfl hb_6 rfl (r1 42 rfl hb_4 (Qna (v:=.bool true) rfl hb_5 rfl (r0 43 rfl (Qia (v:=.bool true) rfl hb_4 rfl (RA.done (by decide +kernel) ?_)))))))))))
    exact T.sub (hK () trivial) ⟨rfl,rfl,rfl,rfl,rfl,(congrArg AV.bool ((congrArg (fun p=>p) (Option.some.inj hz)).symm)).symm,trivial⟩
   replace hz:=ite_F hz hb_6
   obtain ⟨x4,hx4,hz⟩:=bind_some hz
   refine T.drawn mixed (k:=44) rfl ?_
   apply RA.jn 0 #[true,true,true,true,true,true,true,true,true,true,true,true,true,true,true,true,true,true,true,true,true,true,true,true,true,true,true,true,true,true,true,true,true,true,true,true,true,true,true,true,true,true,true,true];intro hS14
   apply RA.jn 6 #[true,true,true,true,true,true,true,true,true,true,true,true,true,true,true,true,true,true,true,true,true,true,true,true,true,true,true,true,true,true,true,true,true,true,true,true,true,true,false,false,false,false,false,false];intro hS15
   apply RA.jn 7 #[true,true,true,true,true,true,true,true,true,true,true,true,true,true,true,true,true,true,true,true,true,true,true,true,true,true,true,true,true,true,true,false,true,true,true,true,true,true,false,false,false,false,false,false];intro hS16
   apply RA.jn 9 #[true,true,true,true,true,true,true,true,true,true,true,true,true,true,true,true,true,true,true,true,true,true,true,true,true,true,true,true,true,true,true,true,true,false,true,true,false,false,false,false,false,false,false,false];intro hS17
   apply RA.jn 9 #[true,true,true,true,true,true,true,true,true,true,true,true,true,true,true,true,true,true,true,true,true,true,true,true,true,true,true,true,true,true,true,true,true,true,true,false,false,false,false,false,false,false,false,false];intro hS18
   apply RA.jn 17 #[true,true,true,true,true,true,true,true,true,true,true,true,true,true,true,true,true,true,true,true,true,true,true,true,true,true,true,false,false,false,false,false,false,false,false,false,false,false,false,false,false,false,false,false];intro hS19
   apply RA.jn 31 #[true,true,true,true,true,true,true,true,true,true,true,true,true,false,false,false,false,false,false,false,false,false,false,false,false,false,false,false,false,false,false,false,false,false,false,false,false,false,false,false,false,false,false,false];intro hS20
   ·refine rq [0] 43 (ra1 1 (og 4 ⟨rfl,(rq [2,3] 40 (ry 4 hb_2 rfl (ry 6 hb_2 rfl (ra2 5 7 ?_ ?_))))⟩))
    ·refine oy 4 hb_2 rfl (ra1 7 (oy 4 hb_2 rfl (r1 8 rfl hb_2 (Qfa Ty.s22 rfl (ry 9 hb_2 rfl (r0 10 rfl (Qia (v:=.bool (decide (p3.Node ≥ ((p0.Nodes).length:Int)))) rfl hb_2 rfl (rq [11] 32 (ry 12 hb_3 rfl ?_)))))))))
     exact raE hS20
    ·refine oy 4 hb_2 rfl (r1 8 rfl hb_2 (Qfa Ty.s22 rfl (ra1 5 (oy 4 hb_2 rfl (ry 9 hb_2 rfl (r0 10 rfl (Qia (v:=.bool (decide (p3.Node ≥ ((p0.Nodes).length:Int)))) rfl hb_2 rfl (rq [11] 32 (ry 12 hb_3 rfl ?_)))))))))
     exact raT hS20
   ·refine ra1 13 (oy 4 hb_3 rfl (ry 14 hb_3 rfl (r0 15 rfl (Qia (v:=.bool (decide (p3.Lane<0))) rfl hb_3 rfl (rq [16] 27 (ry 17 hb_4 rfl (ra1 18 (oy 4 hb_4 rfl (ry 19 hb_4 rfl (ry 20 hb_4 rfl ?_))))))))))
    refine ry 21 hb_5 rfl (ry 23 hb_5 rfl (ra2 22 24 ?_ ?_))
    ·refine oy 4 hb_5 rfl (ra1 24 (oy 4 hb_5 rfl (r1 25 rfl hb_5 (Qda Ty.s22 (fun _=>rfl) rfl rfl hx3 (ry 26 hb_5 rfl ?_)))))
     exact raE hS19
    ·refine oy 4 hb_5 rfl (ra1 22 (oy 4 hb_5 rfl (r1 25 rfl hb_5 (Qda Ty.s22 (fun _=>rfl) rfl rfl hx3 (ry 26 hb_5 rfl ?_)))))
     exact raT hS19
   ·refine ra1 27 (oy 4 hb_5 rfl (ry 28 hb_5 rfl (ry 29 hb_5 rfl (ry 30 hb_6 rfl (ry 32 hb_6 rfl (ry 34 hb_6 rfl (ra3 31 33 35 ?_ ?_ ?_)))))))
    ·refine oy 4 hb_6 rfl (ra2 33 35 ?_ ?_)
     ·refine oy 4 hb_6 rfl ?_
      exact raE hS18
     ·refine oy 4 hb_6 rfl ?_
      exact raE hS17
    ·refine oy 4 hb_6 rfl (ra2 31 35 ?_ ?_)
     ·refine oy 4 hb_6 rfl ?_
      exact raT hS18
     ·refine oy 4 hb_6 rfl (r1 36 rfl hb_6 (Qda Ty.s22 (fun _=>rfl) rfl rfl hx4 (ry 37 hb_6 rfl ?_)))
      exact raE hS16
    ·refine oy 4 hb_6 rfl (ra2 31 33 ?_ ?_)
     ·refine oy 4 hb_6 rfl ?_
      exact raT hS17
     ·refine oy 4 hb_6 rfl (r1 36 rfl hb_6 (Qda Ty.s22 (fun _=>rfl) rfl rfl hx4 (ry 37 hb_6 rfl ?_)))
      exact raT hS16
   ·refine ra1 35 (oy 4 hb_6 rfl (r1 36 rfl hb_6 (Qda Ty.s22 (fun _=>rfl) rfl rfl hx4 (ry 37 hb_6 rfl ?_))))
    exact raE hS15
   ·refine ra1 33 (oy 4 hb_6 rfl (r1 36 rfl hb_6 (Qda Ty.s22 (fun _=>rfl) rfl rfl hx4 (ry 37 hb_6 rfl ?_))))
    exact raT hS15
   ·refine ra2 31 38 ?_ ?_
    ·refine oy 4 hb_6 rfl ?_
     exact raT hS15
    ·refine oy 4 hb_6 rfl (r1 39 rfl hb_6 (Qfa Ty.s26 rfl (ra1 31 (oy 4 hb_6 rfl (ry 40 hb_6 rfl (r1 41 rfl hb_5 (Qia (v:=.bool (decide (p3.Lane ≥ ((x4.In).length:Int)))) rfl hb_6 rfl (r1 42 rfl hb_4 (Qna (v:=.bool (decide (p3.Lane ≥ ((x4.In).length:Int)))) rfl hb_5 rfl (r0 43 rfl (Qia (v:=.bool (decide (p3.Lane ≥ ((x4.In).length:Int)))) rfl hb_4 rfl ?_)))))))))))
     exact raE hS14
   ·refine ra1 38 (oy 4 hb_6 rfl (r1 39 rfl hb_6 (Qfa Ty.s26 rfl (ry 40 hb_6 rfl (r1 41 rfl hb_5 (Qia (v:=.bool (decide (p3.Lane ≥ ((x4.In).length:Int)))) rfl hb_6 rfl (r1 42 rfl hb_4 (Qna (v:=.bool (decide (p3.Lane ≥ ((x4.In).length:Int)))) rfl hb_5 rfl (r0 43 rfl (Qia (v:=.bool (decide (p3.Lane ≥ ((x4.In).length:Int)))) rfl hb_4 rfl ?_))))))))))
    exact raT hS14
   refine RA.done (by decide +kernel) ?_
   exact T.sub (hK () trivial) ⟨rfl,rfl,rfl,rfl,rfl,(congrArg AV.bool ((congrArg (fun p=>p) (Option.some.inj hz)).symm)).symm,trivial⟩
  replace hz:=ite_F hz hb_5
  refine T.drawn mixed (k:=44) rfl ?_
  apply RA.jn 31 #[true,true,true,true,true,true,true,true,true,true,true,true,true,false,false,false,false,false,false,false,false,false,false,false,false,false,false,false,false,false,false,false,false,false,false,false,false,false,false,false,false,false,false,false];intro hS21
  ·refine rq [0] 43 (ra1 1 (og 4 ⟨rfl,(rq [2,3] 40 (ry 4 hb_2 rfl (ry 6 hb_2 rfl (ra2 5 7 ?_ ?_))))⟩))
   ·refine oy 4 hb_2 rfl (ra1 7 (oy 4 hb_2 rfl (r1 8 rfl hb_2 (Qfa Ty.s22 rfl (ry 9 hb_2 rfl (r0 10 rfl (Qia (v:=.bool (decide (p3.Node ≥ ((p0.Nodes).length:Int)))) rfl hb_2 rfl (rq [11] 32 (ry 12 hb_3 rfl ?_)))))))))
    exact raE hS21
   ·refine oy 4 hb_2 rfl (r1 8 rfl hb_2 (Qfa Ty.s22 rfl (ra1 5 (oy 4 hb_2 rfl (ry 9 hb_2 rfl (r0 10 rfl (Qia (v:=.bool (decide (p3.Node ≥ ((p0.Nodes).length:Int)))) rfl hb_2 rfl (rq [11] 32 (ry 12 hb_3 rfl ?_)))))))))
    exact raT hS21
  refine ra1 13 (oy 4 hb_3 rfl (ry 14 hb_3 rfl (r0 15 rfl (Qia (v:=.bool (decide (p3.Lane<0))) rfl hb_3 rfl (rq [16] 27 (ry 17 hb_4 rfl (ra1 18 (oy 4 hb_4 rfl (ry 19 hb_4 rfl (ry 20 hb_4 rfl ?_))))))))))
  refine r2 21 rfl hb_5 (r2 22 rfl hb_5 (r2 23 rfl hb_5 (r2 24 rfl hb_5 (r2 25 rfl hb_5 (r2 26 rfl hb_5 (r2 27 rfl hb_5 (r2 28 rfl hb_5 (r2 29 rfl hb_5 (r3 30 rfl ?_)))))))))
  refine r3 31 rfl (r3 32 rfl (r3 33 rfl (r3 34 rfl (r3 35 rfl (r3 36 rfl (r3 37 rfl (r3 38 rfl (r3 39 rfl (r3 40 rfl ?_)))))))))
  refine r2 41 rfl hb_5 (r1 42 rfl hb_4 (Qia (v:=.bool false) rfl hb_5 rfl (r0 43 rfl (Qia (v:=.bool false) rfl hb_4 rfl (RA.done (by decide +kernel) ?_)))))
  exact T.sub (hK () trivial) ⟨rfl,rfl,rfl,rfl,rfl,(congrArg AV.bool ((congrArg (fun p=>p) (Option.some.inj hz)).symm)).symm,trivial⟩
theorem crossref_CheckChoices_c (p0:Net) (p1:List Choice) (r:Int) (h:Vua p0 p1=some r):Fn Tryz.prog 26 [.agg (Qma p0),sL Qba p1] (iI r):=by
  unfold Vua at h
  refine fnT 0 Tryz.func26 Tryz.ntmps26 ?_
  refine T.seq (T.region (go 2 0 (RS.nil (T.seq (T.seq ?_)))))
  obtain ⟨x2,hx2,h⟩:=bind_some h
  refine T.region (go 1 1 (sO (cO 1 (crossref_CheckNet_c p0 x2 hx2) ⟨rfl,(go 5 2 (RS.nil (T.seq (T.region (go 2 2 (RS.nil (T.ci h rfl (fun hb_1 h=>?_) (fun hb_1 h=>?_))))))))⟩)))
  ·refine T.seq (T.region (go 2 2 (RS.nil ?_)))
   cases h
   exact tD
  refine T.skip (T.seq (T.seq (T.region (go 1 2 (sQ (Qfa Ty.s28 rfl (go 1 2 (RS.nil (T.ci h rfl (fun hb_2 h=>?_) (fun hb_2 h=>?_))))))))))
  ·refine T.seq (T.region (go 1 2 (RS.nil ?_)))
   cases h
   exact tD
  refine T.skip (T.seq (T.seq (T.region (go 1 2 (sQ (Qfa Ty.s28 rfl (go 1 2 (RS.nil (T.block (T.iter (fun ss_29:Int=>mkA 64 [(2,.ptr 0 0),(20,sL Qba p1),(21,iI ((p1).length:Int)),(22,iI ss_29)]) (fun ss_29=>[.box (Qma p0)]) h (wk [] [0] 2 rfl) (fun ss_29 v_30 h hv_30=>?_)))))))))))
  revert hv_30 h;revert ss_29;intro s3 h hv_30
  replace h:Zza p0 p1 s3=some v_30:=h
  try dsimp only
  unfold Zza at h
  refine T.seq (T.region (go 1 1 (RS.nil (T.seq (T.ci h rfl (fun hb_31 h=>?_) (fun hb_31 h=>?_))))))
  ·refine T.skip (T.seq (T.block (T.seq ?_)))
   obtain ⟨x5,hx5,h⟩:=bind_some h
   refine T.region (sQ (Qda Ty.s28 (fun _=>rfl) rfl rfl hx5 (go 3 1 (RS.nil (T.seq ?_)))))
   obtain ⟨zt_34,hz,h⟩:=bind_some h
   revert hz h;revert zt_34;intro c7 hz h
   refine T.join (Z:=Unit) (fun _=>mkA 64 [(2,.ptr 0 0),(8,.ptr 1 0),(20,sL Qba p1),(21,iI ((p1).length:Int)),(22,iI s3),(46,.bool c7)]) (fun _=>[.box (Qma p0),.box (Qba x5)]) (fun _=>True) (fun _ _=>?_) (fun hK=>?_)
   ·refine T.ci h rfl (fun hb_35 h=>?_) (fun hb_35 h=>?_)
    ·refine T.seq (T.region (go 1 2 (RS.nil ?_)))
     obtain ⟨w_36,h,hw_36⟩:=Qsa h
     replace h:=h.trans (congrArg some (hv_30 _ hw_36))
     cases h
     exact tD
    refine T.skip ?_
    obtain ⟨zt_38,hz,h⟩:=bind_some h
    revert hz h;revert zt_38;intro c9 hz h
    refine T.join (Z:=Unit) (fun _=>mkA 64 [(2,.ptr 0 0),(20,sL Qba p1),(21,iI ((p1).length:Int)),(22,iI s3),(62,.bool c9)]) (fun _=>[.box (Qma p0)]) (fun _=>True) (fun _ _=>?_) (fun hK=>?_)
    ·refine T.ci h rfl (fun hb_39 h=>?_) (fun hb_39 h=>?_)
     ·refine T.seq (T.region (go 1 1 (RS.nil ?_)))
      obtain ⟨w_40,h,hw_40⟩:=Qsa h
      replace h:=h.trans (congrArg some (hv_30 _ hw_40))
      cases h
      exact tD
     refine T.skip (T.region (go 2 1 (RS.nil ?_)))
     exact ⟨IntKind.i64.wrap (s3+1),(Option.some.inj h).symm,wk [] [0] 1 rfl⟩
    rcases Qha (decide (x5.Lane<0)) with hb_37 | hb_37
    ·replace hz:=ite_T hz hb_37
     refine T.drawn mixed (k:=16) rfl (rq [0] 15 (ra1 1 (og 2 ⟨rfl,(rq [2,3] 12 (r2 4 rfl hb_37 (r2 5 rfl hb_37 (r2 6 rfl hb_37 (r2 7 rfl hb_37 (r2 8 rfl hb_37 ?_))))))⟩)))
     refine r2 9 rfl hb_37 (r2 10 rfl hb_37 (r2 11 rfl hb_37 (r2 12 rfl hb_37 (r2 13 rfl hb_37 (r2 14 rfl hb_37 (r0 15 rfl (Qna (v:=.bool true) rfl hb_37 rfl (RA.done (by decide +kernel) ?_))))))))
     exact T.weakR (hK () trivial) (Weak.mkN [] [0] (by decide) (Qla _) rfl ⟨Qqa rfl,rn_s rfl,Qga rfl,Qga rfl,Q6a ((congrArg (fun p=>p) (Option.some.inj hz)).symm),trivial⟩ (rw_bs (Qma p0) rfl (Qxa)))
    replace hz:=ite_F hz hb_37
    obtain ⟨x8,hx8,hz⟩:=bind_some hz
    refine T.drawn mixed (k:=16) rfl ?_
    apply RA.jn 0 #[true,true,true,true,true,true,true,true,true,true,true,true,true,true,true,true];intro hS41
    apply RA.jn 4 #[true,true,true,true,true,true,true,true,true,true,true,true,false,false,false,false];intro hS42
    apply RA.jn 5 #[true,true,true,true,true,false,true,true,true,true,true,true,false,false,false,false];intro hS43
    apply RA.jn 7 #[true,true,true,true,true,true,true,false,true,true,false,false,false,false,false,false];intro hS44
    apply RA.jn 7 #[true,true,true,true,true,true,true,true,true,false,false,false,false,false,false,false];intro hS45
    ·refine rq [0] 15 (ra1 1 (og 2 ⟨rfl,(rq [2,3] 12 (ry 4 hb_37 rfl (ry 6 hb_37 rfl (ry 8 hb_37 rfl (ra3 5 7 9 ?_ ?_ ?_)))))⟩))
     ·refine oy 2 hb_37 rfl (ra2 7 9 ?_ ?_)
      ·refine oy 2 hb_37 rfl ?_
       exact raE hS45
      ·refine oy 2 hb_37 rfl ?_
       exact raE hS44
     ·refine oy 2 hb_37 rfl (ra2 5 9 ?_ ?_)
      ·refine oy 2 hb_37 rfl ?_
       exact raT hS45
      ·refine oy 2 hb_37 rfl (r1 10 rfl hb_37 (Qda Ty.s22 (fun _=>rfl) rfl rfl hx8 (ry 11 hb_37 rfl ?_)))
       exact raE hS43
     ·refine oy 2 hb_37 rfl (ra2 5 7 ?_ ?_)
      ·refine oy 2 hb_37 rfl ?_
       exact raT hS44
      ·refine oy 2 hb_37 rfl (r1 10 rfl hb_37 (Qda Ty.s22 (fun _=>rfl) rfl rfl hx8 (ry 11 hb_37 rfl ?_)))
       exact raT hS43
    ·refine ra1 9 (oy 2 hb_37 rfl (r1 10 rfl hb_37 (Qda Ty.s22 (fun _=>rfl) rfl rfl hx8 (ry 11 hb_37 rfl ?_))))
     exact raE hS42
    ·refine ra1 7 (oy 2 hb_37 rfl (r1 10 rfl hb_37 (Qda Ty.s22 (fun _=>rfl) rfl rfl hx8 (ry 11 hb_37 rfl ?_))))
     exact raT hS42
    ·refine ra2 5 12 ?_ ?_
     ·refine oy 2 hb_37 rfl ?_
      exact raT hS42
     ·refine oy 2 hb_37 rfl (r1 13 rfl hb_37 (Qfa Ty.s26 rfl (ra1 5 (oy 2 hb_37 rfl (ry 14 hb_37 rfl (r0 15 rfl (Qia (v:=.bool (decide (x5.Lane ≥ ((x8.In).length:Int)))) rfl hb_37 rfl ?_)))))))
      exact raE hS41
    ·refine ra1 12 (oy 2 hb_37 rfl (r1 13 rfl hb_37 (Qfa Ty.s26 rfl (ry 14 hb_37 rfl (r0 15 rfl (Qia (v:=.bool (decide (x5.Lane ≥ ((x8.In).length:Int)))) rfl hb_37 rfl ?_))))))
     exact raT hS41
    refine RA.done (by decide +kernel) ?_
    exact T.weakR (hK () trivial) (Weak.mkN [] [0] (by decide) (Qla _) rfl ⟨Qqa rfl,rn_s rfl,Qga rfl,Qga rfl,Q6a ((congrArg (fun p=>p) (Option.some.inj hz)).symm),trivial⟩ (rw_bs (Qma p0) rfl (Qxa)))
   refine T.region (go 4 2 ?_)
   rcases Qha (decide (x5.Node<0)) with hb_32 | hb_32
   ·replace hz:=ite_T hz hb_32
    refine sN hb_32 (sN hb_32 (sN hb_32 (sN hb_32 (sN hb_32 (sN hb_32 (sQ (Qna (v:=.bool true) rfl hb_32 rfl (go 1 2 (sN rfl (sN rfl ?_))))))))))
    refine sN rfl (sN rfl (sN rfl (sN rfl (sN rfl (sN rfl (sQ (Qna (v:=.bool true) rfl rfl rfl (RS.nil ?_))))))))
    exact T.sub (hK () trivial) ⟨rfl,rfl,rfl,rfl,rfl,(congrArg AV.bool ((congrArg (fun p=>p) (Option.some.inj hz)).symm)).symm,trivial⟩
   replace hz:=ite_F hz hb_32
   refine yg 2 hb_32 (yg 2 hb_32 (yg 2 hb_32 (yg 2 hb_32 (yQ hb_32 (Qfa Ty.s22 rfl (yg 2 hb_32 (sQ (Qia (v:=.bool (decide (x5.Node ≥ ((p0.Nodes).length:Int)))) rfl hb_32 rfl (go 1 2 ?_)))))))))
   rcases Qha (decide (x5.Node ≥ ((p0.Nodes).length:Int))) with hb_33 | hb_33
   ·replace hz:=ite_T hz hb_33
    refine sN hb_33 (sN hb_33 (sN hb_33 (sN hb_33 (sN hb_33 (sN hb_33 (sN hb_33 (sN hb_33 (sQ (Qna (v:=.bool true) rfl hb_33 rfl (RS.nil ?_))))))))))
    exact T.sub (hK () trivial) ⟨rfl,rfl,rfl,rfl,rfl,(congrArg AV.bool ((congrArg (fun p=>p) (Option.some.inj hz)).symm)).symm,trivial⟩
   replace hz:=ite_F hz hb_33
   obtain ⟨x6,hx6,hz⟩:=bind_some hz
   refine yg 2 hb_33 (yg 2 hb_33 (yg 2 hb_33 (yg 2 hb_33 (yQ hb_33 (Qda Ty.s22 (fun _=>rfl) rfl rfl hx6 (yg 2 hb_33 (yg 2 hb_33 (yg 2 hb_33 (sQ (Qia (v:=.bool (x6.Kind != 6)) rfl hb_33 rfl (RS.nil ?_)))))))))))
   exact T.sub (hK () trivial) ⟨rfl,rfl,rfl,rfl,rfl,(congrArg AV.bool ((congrArg (fun p=>p) (Option.some.inj hz)).symm)).symm,trivial⟩
  refine T.exit ?_
  obtain ⟨w_46,h,hw_46⟩:=Qsa h
  replace h:=h.trans (congrArg some (hv_30 _ hw_46))
  refine T.seq (T.region (go 1 1 (RS.nil ?_)))
  cases h
  exact tD
theorem slices_Clone_Move_c (p0 r:List Move) (h:Y0a p0=some r):FnO Tryz.prog 64 [.sl (List.map Qta p0)] (.ref 0) [.arr 51 2 (List.map Qta r)]:=by
  have hr:p0=r:=by
    unfold Y0a app at h
    split at h
    · simpa using h
    · cases h
  refine fn_of_T (N:=0) rfl Tryz.func64 rfl (by kernel_rfl) Tryz.ntmps64 rfl ?_
  show T _ _ _ _ (mkA 8 [(0,.sl (List.map Qta p0))]) []
  refine T.seq ?_
  refine T.region ?_
  refine RS.op rfl (OP.q rfl (Vba (v:=.nils) rfl ?_))
  refine RS.nil ?_
  refine T.seq ?_
  refine T.seq ?_
  refine T.region ?_
  refine RS.op rfl (OP.q rfl (v_move (v:=.sl (List.map Qta p0)) rfl ?_))
  refine RS.op rfl (OP.q rfl (v_nileq Ty.s45 rfl rfl (fun z hz=>?_)))
  refine RS.nil ?_
  refine T.cond (b:=z) rfl (fun hb=>?_) (fun hb=>?_)
  · refine T.seq ?_
    refine T.region ?_
    refine RS.op rfl (OP.q rfl (Vba (v:=.nils) rfl ?_))
    refine RS.nil ?_
    refine T.ret ?_
    refine Qfb (v:=.nils) rfl ?_
    refine Yla ?_
    have h0:p0=[]:=List.map_eq_nil_iff.1 (hz hb)
    exact Q5b (.ref 0) [(0,51,2)] [0] (by decide) (Qla _) rfl (Qza rfl) (Z2a (en:=Qta) (ys:=[]) rfl encMove_p (by rw [← hr,h0]) (Qxa)) ⟨rfl,rfl⟩
  · refine T.skip ?_
    refine T.seq ?_
    refine T.region ?_
    refine RS.op rfl (Qva (rows:=List.map Qta []) (vs:=[]) Ty.s45 Ty.z51 rfl rfl rfl rfl rfl (aw':=[.arr 51 2 (List.map Qta [])]) rfl ?_)
    refine RS.op rfl (OP.q rfl (v_move (v:=.sl (List.map Qta p0)) rfl ?_))
    refine RS.op rfl (J5a (en:=Qta) (xs:=([]:List Move)) (ys:=p0) (r:=r) Ty.s45 (fun _=>rfl) rfl rfl rfl h rfl (aw':=[.dead,.arr 51 2 (List.map Qta r)]) rfl ?_)
    refine RS.op rfl (OP.q rfl (Vba (v:=.ref 1) rfl ?_))
    refine RS.nil ?_
    refine T.ret ?_
    refine Qfb (v:=.ref 1) rfl ?_
    refine Yla ?_
    exact Q5b (.ref 0) [] [1] (by decide) (Qla _) rfl (Qza rfl) (Z2a rfl encMove_p rfl (Qxa)) ⟨rfl,rfl⟩
theorem trail_count_c (p0:List Choice) (p1:Int) (r:Int) (h:trail_count p0 p1=some r):Fn Tryz.prog 67 [sL Qba p0,iI p1] (iI r):=by
  unfold trail_count at h
  refine fnT 0 Tryz.func67 Tryz.ntmps67 ?_
  refine T.seq (T.region (go 1 0 (RS.nil (T.seq (T.region (go 1 0 (RS.nil (T.seq (T.seq ?_)))))))))
  refine T.region (go 1 0 (sQ (Qfa Ty.s28 rfl (go 1 0 (RS.nil (T.block (T.iter (fun ss_5:Int × Int=>mkA 22 [(1,iI p1),(5,iI ss_5.1),(8,sL Qba p0),(9,iI ((p0).length:Int)),(10,iI ss_5.2)]) (fun ss_5=>[]) h (wk [] [] 0 rfl) (fun ss_5 v_6 h hv_6=>?_))))))))
  obtain ⟨s1,s2⟩:=ss_5
  replace h:V6a p0 p1 s1 s2=some v_6:=h
  try dsimp only
  unfold V6a at h
  refine T.seq (T.region (go 1 0 (RS.nil (T.seq (T.ci h rfl (fun hb_7 h=>?_) (fun hb_7 h=>?_))))))
  ·refine T.skip (T.seq (T.block (T.seq ?_)))
   obtain ⟨x4,hx4,h⟩:=bind_some h
   refine T.region (sQ (Qda Ty.s28 (fun _=>rfl) rfl rfl hx4 (go 3 0 (RS.nil (T.seq (T.region (go 4 1 (RS.nil (T.ci h rfl (fun hb_8 h=>?_) (fun hb_8 h=>?_))))))))))
   ·refine T.region (go 3 1 (RS.nil (T.region (go 2 1 (RS.nil ?_)))))
    exact ⟨(IntKind.i64.wrap (s1+1),IntKind.i64.wrap (s2+1)),(Option.some.inj h).symm,wk [] [] 1 rfl⟩
   refine T.skip (T.region (go 2 1 (RS.nil ?_)))
   exact ⟨(s1,IntKind.i64.wrap (s2+1)),(Option.some.inj h).symm,wk [] [] 1 rfl⟩
  refine T.exit ?_
  obtain ⟨w_9,h,hw_9⟩:=Qsa h
  replace h:=h.trans (congrArg some (hv_6 _ hw_9))
  refine T.seq (T.region (go 2 0 (RS.nil ?_)))
  cases h
  exact tD
theorem trail_next_c (p0:List Choice) (p1:Int) (p2:Int) (r:Int) (h:trail_next p0 p1 p2=some r):Fn Tryz.prog 66 [sL Qba p0,iI p1,iI p2] (iI r):=by
  unfold trail_next at h
  refine fnT 0 Tryz.func66 Tryz.ntmps66 ?_
  refine T.seq (T.region (go 1 0 (RS.nil (T.seq (T.seq (T.region (go 1 0 (sQ (Qfa Ty.s28 rfl (go 1 0 ?_))))))))))
  refine RS.nil (T.block (T.iter (fun ss_7:Int × Int=>mkA 26 [(1,iI p1),(2,iI ss_7.1),(9,sL Qba p0),(10,iI ((p0).length:Int)),(11,iI ss_7.2)]) (fun ss_7=>[]) h (wk [] [] 0 rfl) (fun ss_7 v_8 h hv_8=>?_)))
  obtain ⟨s1,s2⟩:=ss_7
  replace h:Vqa p0 p1 s1 s2=some v_8:=h
  try dsimp only
  unfold Vqa at h
  refine T.seq (T.region (go 1 0 (RS.nil (T.seq (T.ci h rfl (fun hb_9 h=>?_) (fun hb_9 h=>?_))))))
  ·refine T.skip (T.seq (T.block (T.seq ?_)))
   obtain ⟨x4,hx4,h⟩:=bind_some h
   refine T.region (sQ (Qda Ty.s28 (fun _=>rfl) rfl rfl hx4 (go 3 0 (RS.nil (T.seq (T.seq (T.region (go 4 1 (RS.nil (T.ci h rfl (fun hb_10 h=>?_) (fun hb_10 h=>?_)))))))))))
   ·refine T.exit (T.region (go 2 1 (RS.nil ?_)))
    exact ⟨(s1,IntKind.i64.wrap (s2+1)),(Option.some.inj h).symm,wk [] [] 1 rfl⟩
   refine T.skip (T.seq (T.seq (T.region (go 2 1 (RS.nil (T.ci h rfl (fun hb_11 h=>?_) (fun hb_11 h=>?_)))))))
   ·refine T.seq (T.region (go 3 1 (RS.nil ?_)))
    obtain ⟨w_12,h,hw_12⟩:=Qsa h
    replace h:=h.trans (congrArg some (hv_8 _ hw_12))
    cases h
    exact tD
   refine T.skip (T.region (go 3 1 (RS.nil (T.region (go 2 1 (RS.nil ?_))))))
   exact ⟨(IntKind.i64.wrap (s1 - 1),IntKind.i64.wrap (s2+1)),(Option.some.inj h).symm,wk [] [] 1 rfl⟩
  refine T.exit ?_
  obtain ⟨w_13,h,hw_13⟩:=Qsa h
  replace h:=h.trans (congrArg some (hv_8 _ hw_13))
  refine T.seq (T.region (go 1 0 (RS.nil ?_)))
  cases h
  exact tD
theorem trail_Allowed_1_xef1f_c (p0:Move) (p1:List Node) (p2:Int) (p3:Int) (p4:List Choice) (p5:List Int) (p6:List (List Item)) (p7:List Memory) (p8:List Choice) (p9:List Item) (r:Bool) (h:Z3a p0 p1 p2 p3 p4 p5 p6 p7 p8 p9=some r):FnX Tryz.prog 65 [.agg (Qta p0),.ptr 0 0,.ptr 1 0,.ptr 2 0] [.box [sL Qja p1,iI p2,iI p3],.box [sL Qba p4],.box [sL encI p5,sL (encL Qaa) p6,sL Qca p7,sL Qba p8,sL Qaa p9]] (.bool r) [.box [sL Qja p1,iI p2,iI p3],.box [sL Qba p4],.box [sL encI p5,sL (encL Qaa) p6,sL Qca p7,sL Qba p8,sL Qaa p9]]:=by
  unfold Z3a at h
  refine fnT 3 Tryz.func65 Tryz.ntmps65 ?_
  refine T.seq (T.region (go 2 3 (RS.nil (T.seq ?_))))
  obtain ⟨zt_3,hz,h⟩:=bind_some h
  revert hz h;revert zt_3;intro c2 hz h
  refine T.join (Z:=Unit) (fun _=>mkA 45 [(2,.ptr 1 0),(3,.ptr 2 0),(4,.ptr 3 0),(27,.bool c2)]) (fun _=>[.box [sL Qja p1,iI p2,iI p3],.box [sL Qba p4],.box [sL encI p5,sL (encL Qaa) p6,sL Qca p7,sL Qba p8,sL Qaa p9],.box (Qta p0)]) (fun _=>True) (fun _ _=>?_) (fun hK=>?_)
  ·refine T.ci h rfl (fun hb_4 h=>?_) (fun hb_4 h=>?_)
   ·refine T.seq (T.region (go 1 4 (RS.nil ?_)))
    cases h
    exact tN [0,1,2]
   refine T.skip (T.seq ?_)
   obtain ⟨x5,hx5,h⟩:=bind_some h
   obtain ⟨x6,hx6,h⟩:=bind_some h
   refine T.drawn mixed (k:=10) rfl ?_
   apply RA.jn 2 #[true,true,true,true,true,true,true,true,false,false];intro hS5
   apply RA.jn 3 #[true,true,false,true,true,true,true,true,false,false];intro hS6
   apply RA.jn 3 #[true,true,true,true,true,true,true,false,false,false];intro hS7
   ·refine rq [1,3,5] 7 (rL [4,7,8,9] 4 rfl (rL [6,7,8,9] 6 rfl (ra3 0 2 7 ?_ ?_ ?_)))
    ·refine og 4 ⟨rfl,(ra2 2 7 ?_ ?_)⟩
     ·refine og 4 ⟨rfl,?_⟩
      exact raE hS7
     ·refine oO rfl (cF (trail_count_c p8 p0.Node x5 hx5) ⟨rfl,?_⟩)
      exact raE hS6
    ·refine og 4 ⟨rfl,(ra2 0 7 ?_ ?_)⟩
     ·refine og 4 ⟨rfl,?_⟩
      exact raT hS7
     ·refine oO rfl (cF (trail_count_c p8 p0.Node x5 hx5) ⟨rfl,(ra1 0 (og 4 ⟨rfl,?_⟩))⟩)
      exact raE hS5
    ·refine oO rfl (cF (trail_count_c p8 p0.Node x5 hx5) ⟨rfl,(rL [0,8,9] 0 rfl ?_)⟩)
     exact raT hS6
   ·refine ra1 7 (oO rfl (cF (trail_count_c p8 p0.Node x5 hx5) ⟨rfl,?_⟩))
    exact raT hS5
   ·refine ra1 2 (og 4 ⟨rfl,?_⟩)
    exact raT hS5
   refine ra1 8 (oO rfl (cF (trail_next_c p4 p0.Node x5 x6 hx6) ⟨rfl,(rq [9] 0 (RA.done (by decide +kernel) (T.join (Z:=Unit) (fun _=>mkA 45 [(5,.bool ((decide (x6 ≥ 0)) && x6 != p0.Lane))]) (fun _=>[.box [sL Qja p1,iI p2,iI p3],.box [sL Qba p4],.box [sL encI p5,sL (encL Qaa) p6,sL Qca p7,sL Qba p8,sL Qaa p9]]) (fun _=>True) (fun _ _=>?_) (fun hK=>?_))))⟩))
   ·cases h
    exact tN [0,1,2]
   refine T.region (go 3 4 ?_)
   rcases Qha (decide (x6 ≥ 0)) with hb_8 | hb_8
   ·refine yg 4 hb_8 (yg 4 hb_8 (yg 4 hb_8 (yg 4 hb_8 (sQ (Qna (v:=.bool (x6 != p0.Lane)) rfl hb_8 rfl (go 1 4 (RS.nil ?_)))))))
    exact T.weakR (hK () trivial) (Weak.mkN [] [0,1,2] (by decide) (by decide) rfl ⟨Q6a (by simp only [hb_8,bz,if_true,if_false,Bool.false_eq_true]),trivial⟩ (rw_bs [sL Qja p1,iI p2,iI p3] rfl (rw_bs [sL Qba p4] rfl (rw_bs [sL encI p5,sL (encL Qaa) p6,sL Qca p7,sL Qba p8,sL Qaa p9] rfl (Qxa)))))
   refine sN hb_8 (sN hb_8 (sN hb_8 (sN hb_8 (sQ (Qia (v:=.bool false) rfl hb_8 rfl (go 1 4 (RS.nil ?_)))))))
   exact T.weakR (hK () trivial) (Weak.mkN [] [0,1,2] (by decide) (by decide) rfl ⟨Q6a (by simp only [hb_8,bz,if_true,if_false,Bool.false_eq_true]),trivial⟩ (rw_bs [sL Qja p1,iI p2,iI p3] rfl (rw_bs [sL Qba p4] rfl (rw_bs [sL encI p5,sL (encL Qaa) p6,sL Qca p7,sL Qba p8,sL Qaa p9] rfl (Qxa)))))
  refine T.region (go 4 4 ?_)
  rcases Qha (decide (p0.Node<0)) with hb_1 | hb_1
  ·replace hz:=ite_T hz hb_1
   refine sN hb_1 (sN hb_1 (sN hb_1 (sN hb_1 (sN hb_1 (sN hb_1 (sQ (Qna (v:=.bool true) rfl hb_1 rfl (go 1 4 (sN rfl (sN rfl ?_))))))))))
   refine sN rfl (sN rfl (sN rfl (sN rfl (sN rfl (sN rfl (sQ (Qna (v:=.bool true) rfl rfl rfl (RS.nil ?_))))))))
   exact T.sub (hK () trivial) ⟨rfl,rfl,rfl,(congrArg AV.bool ((congrArg (fun p=>p) (Option.some.inj hz)).symm)).symm,trivial⟩
  replace hz:=ite_F hz hb_1
  refine yg 4 hb_1 (yg 4 hb_1 (yg 4 hb_1 (yg 4 hb_1 (yQ hb_1 (Qfa Ty.s22 rfl (yg 4 hb_1 (sQ (Qia (v:=.bool (decide (p0.Node ≥ ((p1).length:Int)))) rfl hb_1 rfl (go 1 4 ?_)))))))))
  rcases Qha (decide (p0.Node ≥ ((p1).length:Int))) with hb_2 | hb_2
  ·replace hz:=ite_T hz hb_2
   refine sN hb_2 (sN hb_2 (sN hb_2 (sN hb_2 (sN hb_2 (sN hb_2 (sN hb_2 (sN hb_2 (sQ (Qna (v:=.bool true) rfl hb_2 rfl (RS.nil ?_))))))))))
   exact T.sub (hK () trivial) ⟨rfl,rfl,rfl,(congrArg AV.bool ((congrArg (fun p=>p) (Option.some.inj hz)).symm)).symm,trivial⟩
  replace hz:=ite_F hz hb_2
  obtain ⟨x1,hx1,hz⟩:=bind_some hz
  refine yg 4 hb_2 (yg 4 hb_2 (yg 4 hb_2 (yg 4 hb_2 (yQ hb_2 (Qda Ty.s22 (fun _=>rfl) rfl rfl hx1 (yg 4 hb_2 (yg 4 hb_2 (yg 4 hb_2 (sQ (Qia (v:=.bool (x1.Kind != 6)) rfl hb_2 rfl (RS.nil ?_)))))))))))
  exact T.sub (hK () trivial) ⟨rfl,rfl,rfl,(congrArg AV.bool ((congrArg (fun p=>p) (Option.some.inj hz)).symm)).symm,trivial⟩
theorem slices_IndexFunc_Move_x0f00_c (p0:List Move) (p1:List Node) (p2:Int) (p3:Int) (p4:List Choice) (p5:List Int) (p6:List (List Item)) (p7:List Memory) (p8:List Choice) (p9:List Item) (r:Int) (h:Jva p0 p1 p2 p3 p4 p5 p6 p7 p8 p9=some r):FnX Tryz.prog 91 [.ref 0,.func 65 [.ptr 1 0,.ptr 2 0,.ptr 3 0]] [aR 51 2 Qta p0,.box [sL Qja p1,iI p2,iI p3],.box [sL Qba p4],.box [sL encI p5,sL (encL Qaa) p6,sL Qca p7,sL Qba p8,sL Qaa p9]] (iI r) [aR 51 2 Qta p0,.box [sL Qja p1,iI p2,iI p3],.box [sL Qba p4],.box [sL encI p5,sL (encL Qaa) p6,sL Qca p7,sL Qba p8,sL Qaa p9]]:=by
  unfold Jva at h
  refine fnT 4 Tryz.func91 Tryz.ntmps91 ?_
  refine T.seq (T.region (go 1 4 (RS.nil (T.seq (T.seq (T.region (go 1 4 (sQ (Zfa (en:=Qta) Ty.s45 rfl rfl (go 1 4 ?_))))))))))
  refine RS.nil (T.block (T.iter (fun ss_5:Int=>mkA 19 [(0,.ref 0),(1,.func 65 [.ptr 1 0,.ptr 2 0,.ptr 3 0]),(7,iI ((p0).length:Int)),(8,iI ss_5)]) (fun ss_5=>[aR 51 2 Qta p0,.box [sL Qja p1,iI p2,iI p3],.box [sL Qba p4],.box [sL encI p5,sL (encL Qaa) p6,sL Qca p7,sL Qba p8,sL Qaa p9]]) h (wk [] [0,1,2,3] 4 rfl) (fun ss_5 v_6 h hv_6=>?_)))
  revert hv_6 h;revert ss_5;intro s1 h hv_6
  replace h:Jba p0 p1 p2 p3 p4 p5 p6 p7 p8 p9 s1=some v_6:=h
  try dsimp only
  unfold Jba at h
  refine T.seq (T.region (go 1 4 (RS.nil (T.seq (T.ci h rfl (fun hb_7 h=>?_) (fun hb_7 h=>?_))))))
  ·refine T.skip (T.seq (T.block (T.seq (T.region (go 2 4 (RS.nil (T.seq ?_)))))))
   obtain ⟨x5,hx5,h⟩:=bind_some h
   obtain ⟨x6,hx6,h⟩:=bind_some h
   obtain ⟨x7,hx7,h⟩:=bind_some h
   refine T.region (go 3 4 (sQ (Qoa (en:=Qta) Ty.s45 rfl rfl rfl hx5 (sO (Qwa (en:=Qta) (a:=x6) rfl rfl hx6 (Ywa Ty.k51 Ty.c51 rfl (cs:=(Qta x6)) rfl (sO (Vja (ac:=[.agg (Qta x6),.ptr 1 0,.ptr 2 0,.ptr 3 0]) (as0:=[.agg (Qta x6),.ptr 0 0,.ptr 1 0,.ptr 2 0]) (aw0:=[.box [sL Qja p1,iI p2,iI p3],.box [sL Qba p4],.box [sL encI p5,sL (encL Qaa) p6,sL Qca p7,sL Qba p8,sL Qaa p9]]) (aw1:=[.box [sL Qja p1,iI p2,iI p3],.box [sL Qba p4],.box [sL encI p5,sL (encL Qaa) p6,sL Qca p7,sL Qba p8,sL Qaa p9]]) (aw2:=[aR 51 2 Qta p0,.box [sL Qja p1,iI p2,iI p3],.box [sL Qba p4],.box [sL encI p5,sL (encL Qaa) p6,sL Qca p7,sL Qba p8,sL Qaa p9]]) (v:=.bool x7) (v':=.bool x7) (n0:=4) (n1:=3) [1,2,3] rfl rfl rfl rfl (by decide) (Jsa (cs:=[sL Qja p1,iI p2,iI p3]) (ds:=[sL Qja p1,iI p2,iI p3]) rfl ⟨rn_s rfl,Qga rfl,Qga rfl,trivial⟩ (Jsa (cs:=[sL Qba p4]) (ds:=[sL Qba p4]) rfl ⟨rn_s rfl,trivial⟩ (Jsa (cs:=[sL encI p5,sL (encL Qaa) p6,sL Qca p7,sL Qba p8,sL Qaa p9]) (ds:=[sL encI p5,sL (encL Qaa) p6,sL Qca p7,sL Qba p8,sL Qaa p9]) rfl ⟨rn_s rfl,rn_s rfl,rn_s rfl,rn_s rfl,rn_s rfl,trivial⟩ (Qxa)))) ⟨rn_agg ⟨Qga rfl,Qga rfl,trivial⟩,Qqa rfl,Qqa rfl,Qqa rfl,trivial⟩ (trail_Allowed_1_xef1f_c x6 p1 p2 p3 p4 p5 p6 p7 p8 p9 x7 hx7) rfl (Qua (Vfa _)) ⟨.inr ⟨rfl,rfl⟩,.inl ⟨0,_,by decide,rfl,Zoa (cs:=[sL Qja p1,iI p2,iI p3]) (ds:=[sL Qja p1,iI p2,iI p3]) ⟨Qua (Qpa Qsb _),Qua (Qea _ _),Qua (Qea _ _),trivial⟩⟩,.inl ⟨1,_,by decide,rfl,Zoa (cs:=[sL Qba p4]) (ds:=[sL Qba p4]) ⟨Qua (Qpa Q5a _),trivial⟩⟩,.inl ⟨2,_,by decide,rfl,Zoa (cs:=[sL encI p5,sL (encL Qaa) p6,sL Qca p7,sL Qba p8,sL Qaa p9]) (ds:=[sL encI p5,sL (encL Qaa) p6,sL Qca p7,sL Qba p8,sL Qaa p9]) ⟨Qua (Qpa Yga _),Qua (Qpa (Y8a Q0a) _),Qua (Qpa Q9a _),Qua (Qpa Q5a _),Qua (Qpa Q0a _),trivial⟩⟩,trivial⟩ (RS.nil (T.ci h rfl (fun hb_8 h=>?_) (fun hb_8 h=>?_)))))))))))
   ·refine T.seq (T.region (go 2 4 (RS.nil ?_)))
    obtain ⟨w_9,h,hw_9⟩:=Qsa h
    replace h:=h.trans (congrArg some (hv_6 _ hw_9))
    cases h
    exact tN [0,1,2,3]
   refine T.skip (T.region (go 2 4 (RS.nil ?_)))
   exact ⟨IntKind.i64.wrap (s1+1),(Option.some.inj h).symm,wk [] [0,1,2,3] 4 rfl⟩
  refine T.exit ?_
  obtain ⟨w_10,h,hw_10⟩:=Qsa h
  replace h:=h.trans (congrArg some (hv_6 _ hw_10))
  refine T.seq (T.region (go 1 4 (RS.nil ?_)))
  cases h
  exact tN [0,1,2,3]
theorem slices_DeleteFunc_Move_x0f00_c (p0:List Move) (p1:List Node) (p2:Int) (p3:Int) (p4:List Choice) (p5:List Int) (p6:List (List Item)) (p7:List Memory) (p8:List Choice) (p9:List Item) (r:List Move) (h:Zda p0 p1 p2 p3 p4 p5 p6 p7 p8 p9=some r):FnX Tryz.prog 63 [.ref 0,.func 65 [.ptr 1 0,.ptr 2 0,.ptr 3 0]] [aR 51 2 Qta p0,.box [sL Qja p1,iI p2,iI p3],.box [sL Qba p4],.box [sL encI p5,sL (encL Qaa) p6,sL Qca p7,sL Qba p8,sL Qaa p9]] (.ref 4) [.dead,.box [sL Qja p1,iI p2,iI p3],.box [sL Qba p4],.box [sL encI p5,sL (encL Qaa) p6,sL Qca p7,sL Qba p8,sL Qaa p9],aR 51 2 Qta r]:=by
  unfold Zda at h
  refine fnT 4 Tryz.func63 Tryz.ntmps63 ?_
  refine T.mvS 0 0 rfl rfl rfl rfl (T.seq (T.region (go 1 5 (RS.nil (T.seq ?_)))))
  obtain ⟨x2,hx2,h⟩:=bind_some h
  refine T.region (go 2 5 (sO (Vja (ac:=[.ref 4,.func 65 [.ptr 1 0,.ptr 2 0,.ptr 3 0]]) (as0:=[.ref 0,.func 65 [.ptr 1 0,.ptr 2 0,.ptr 3 0]]) (aw0:=[aR 51 2 Qta p0,.box [sL Qja p1,iI p2,iI p3],.box [sL Qba p4],.box [sL encI p5,sL (encL Qaa) p6,sL Qca p7,sL Qba p8,sL Qaa p9]]) (aw1:=[aR 51 2 Qta p0,.box [sL Qja p1,iI p2,iI p3],.box [sL Qba p4],.box [sL encI p5,sL (encL Qaa) p6,sL Qca p7,sL Qba p8,sL Qaa p9]]) (aw2:=[.dead,.box [sL Qja p1,iI p2,iI p3],.box [sL Qba p4],.box [sL encI p5,sL (encL Qaa) p6,sL Qca p7,sL Qba p8,sL Qaa p9],aR 51 2 Qta p0]) (v:=iI x2) (v':=iI x2) (n0:=5) (n1:=4) [4,1,2,3] rfl rfl rfl rfl (by decide) (Z2a rfl encMove_p rfl (Jsa (cs:=[sL Qja p1,iI p2,iI p3]) (ds:=[sL Qja p1,iI p2,iI p3]) rfl ⟨rn_s rfl,Qga rfl,Qga rfl,trivial⟩ (Jsa (cs:=[sL Qba p4]) (ds:=[sL Qba p4]) rfl ⟨rn_s rfl,trivial⟩ (Jsa (cs:=[sL encI p5,sL (encL Qaa) p6,sL Qca p7,sL Qba p8,sL Qaa p9]) (ds:=[sL encI p5,sL (encL Qaa) p6,sL Qca p7,sL Qba p8,sL Qaa p9]) rfl ⟨rn_s rfl,rn_s rfl,rn_s rfl,rn_s rfl,rn_s rfl,trivial⟩ (Qxa))))) ⟨Qza rfl,rn_func ⟨Qqa rfl,Qqa rfl,Qqa rfl,trivial⟩,trivial⟩ (slices_IndexFunc_Move_x0f00_c p0 p1 p2 p3 p4 p5 p6 p7 p8 p9 x2 hx2) rfl (Qua (Qea _ _)) ⟨.inr ⟨rfl,rfl⟩,.inl ⟨1,_,by decide,rfl,Zoa (cs:=[sL Qja p1,iI p2,iI p3]) (ds:=[sL Qja p1,iI p2,iI p3]) ⟨Qua (Qpa Qsb _),Qua (Qea _ _),Qua (Qea _ _),trivial⟩⟩,.inl ⟨2,_,by decide,rfl,Zoa (cs:=[sL Qba p4]) (ds:=[sL Qba p4]) ⟨Qua (Qpa Q5a _),trivial⟩⟩,.inl ⟨3,_,by decide,rfl,Zoa (cs:=[sL encI p5,sL (encL Qaa) p6,sL Qca p7,sL Qba p8,sL Qaa p9]) (ds:=[sL encI p5,sL (encL Qaa) p6,sL Qca p7,sL Qba p8,sL Qaa p9]) ⟨Qua (Qpa Yga _),Qua (Qpa (Y8a Q0a) _),Qua (Qpa Q9a _),Qua (Qpa Q5a _),Qua (Qpa Q0a _),trivial⟩⟩,.inl ⟨0,_,by decide,rfl,Zca encMove_p⟩,trivial⟩ (go 1 5 (RS.nil (T.seq (T.seq (T.region (go 2 5 (RS.nil ?_))))))))))
  refine T.ci h rfl (fun hb_1 h=>?_) (fun hb_1 h=>?_)
  ·refine T.seq (T.region (go 2 5 (RS.nil ?_)))
   cases h
   exact tO [] [0,1,2,3,4] 5
  refine T.skip (T.seq (T.seq (T.region (go 3 5 (RS.nil (T.block (T.iter (fun ss_6:Int × Int × (List Move)=>mkA 42 [(0,.ref 4),(1,.func 65 [.ptr 1 0,.ptr 2 0,.ptr 3 0]),(5,iI ss_6.1),(6,iI ss_6.2.1)]) (fun ss_6=>[.dead,.box [sL Qja p1,iI p2,iI p3],.box [sL Qba p4],.box [sL encI p5,sL (encL Qaa) p6,sL Qca p7,sL Qba p8,sL Qaa p9],aR 51 2 Qta ss_6.2.2]) h (wk [] [0,1,2,3,4] 5 rfl) (fun ss_6 v_7 h hv_7=>?_))))))))
  obtain ⟨s3,s4,s5⟩:=ss_6
  replace h:Q2a p1 p2 p3 p4 p5 p6 p7 p8 p9 s3 s4 s5=some v_7:=h
  try dsimp only
  unfold Q2a at h
  refine T.seq (T.seq (T.region (go 2 5 (sQ (Zfa (en:=Qta) Ty.s45 rfl rfl (go 1 5 (RS.nil (T.ci h rfl (fun hb_8 h=>?_) (fun hb_8 h=>?_)))))))))
  ·refine T.skip (T.seq (T.block (T.seq ?_)))
   obtain ⟨x8,hx8,h⟩:=bind_some h
   obtain ⟨x9,hx9,h⟩:=bind_some h
   refine T.region (go 2 5 (sQ (Qoa (en:=Qta) Ty.s45 rfl rfl rfl hx8 (sO (Qwa (en:=Qta) (a:=x9) rfl rfl hx9 (Ywa Ty.k51 Ty.c51 rfl (cs:=(Qta x9)) rfl (go 2 5 (RS.nil (T.seq ?_)))))))))
   obtain ⟨x11,hx11,h⟩:=bind_some h
   refine T.region (go 2 6 (sO (Vja (ac:=[.agg (Qta x9),.ptr 1 0,.ptr 2 0,.ptr 3 0]) (as0:=[.agg (Qta x9),.ptr 0 0,.ptr 1 0,.ptr 2 0]) (aw0:=[.box [sL Qja p1,iI p2,iI p3],.box [sL Qba p4],.box [sL encI p5,sL (encL Qaa) p6,sL Qca p7,sL Qba p8,sL Qaa p9]]) (aw1:=[.box [sL Qja p1,iI p2,iI p3],.box [sL Qba p4],.box [sL encI p5,sL (encL Qaa) p6,sL Qca p7,sL Qba p8,sL Qaa p9]]) (aw2:=[.dead,.box [sL Qja p1,iI p2,iI p3],.box [sL Qba p4],.box [sL encI p5,sL (encL Qaa) p6,sL Qca p7,sL Qba p8,sL Qaa p9],aR 51 2 Qta s5,.box (Qta x9)]) (v:=.bool x11) (v':=.bool x11) (n0:=6) (n1:=3) [1,2,3] rfl rfl rfl rfl (by decide) (Jsa (cs:=[sL Qja p1,iI p2,iI p3]) (ds:=[sL Qja p1,iI p2,iI p3]) rfl ⟨rn_s rfl,Qga rfl,Qga rfl,trivial⟩ (Jsa (cs:=[sL Qba p4]) (ds:=[sL Qba p4]) rfl ⟨rn_s rfl,trivial⟩ (Jsa (cs:=[sL encI p5,sL (encL Qaa) p6,sL Qca p7,sL Qba p8,sL Qaa p9]) (ds:=[sL encI p5,sL (encL Qaa) p6,sL Qca p7,sL Qba p8,sL Qaa p9]) rfl ⟨rn_s rfl,rn_s rfl,rn_s rfl,rn_s rfl,rn_s rfl,trivial⟩ (Qxa)))) ⟨rn_agg ⟨Qga rfl,Qga rfl,trivial⟩,Qqa rfl,Qqa rfl,Qqa rfl,trivial⟩ (trail_Allowed_1_xef1f_c x9 p1 p2 p3 p4 p5 p6 p7 p8 p9 x11 hx11) rfl (Qua (Vfa _)) ⟨.inr ⟨rfl,rfl⟩,.inl ⟨0,_,by decide,rfl,Zoa (cs:=[sL Qja p1,iI p2,iI p3]) (ds:=[sL Qja p1,iI p2,iI p3]) ⟨Qua (Qpa Qsb _),Qua (Qea _ _),Qua (Qea _ _),trivial⟩⟩,.inl ⟨1,_,by decide,rfl,Zoa (cs:=[sL Qba p4]) (ds:=[sL Qba p4]) ⟨Qua (Qpa Q5a _),trivial⟩⟩,.inl ⟨2,_,by decide,rfl,Zoa (cs:=[sL encI p5,sL (encL Qaa) p6,sL Qca p7,sL Qba p8,sL Qaa p9]) (ds:=[sL encI p5,sL (encL Qaa) p6,sL Qca p7,sL Qba p8,sL Qaa p9]) ⟨Qua (Qpa Yga _),Qua (Qpa (Y8a Q0a) _),Qua (Qpa Q9a _),Qua (Qpa Q5a _),Qua (Qpa Q0a _),trivial⟩⟩,.inr ⟨rfl,rfl⟩,.inr ⟨rfl,rfl⟩,trivial⟩ (go 1 6 (RS.nil (T.ci h rfl (fun hb_9 h=>?_) (fun hb_9 h=>?_)))))))
   ·refine T.seq ?_
    obtain ⟨x14,hx14,h⟩:=bind_some h
    obtain ⟨x15,hx15,h⟩:=bind_some h
    refine T.region (go 3 6 (sQ (Qoa (en:=Qta) Ty.s45 rfl rfl rfl hx14 (sO (J2a (en:=Qta) (a:=x15) (a':=x9) Ty.c51 Ty.i51 rfl (vs:=[iI x9.Node,iI x9.Lane]) rfl rfl rfl hx15 rfl rfl rfl (RS.nil (T.region (go 3 6 (RS.nil (T.region (go 3 6 ?_)))))))))))
    refine RS.nil ?_
    exact ⟨(IntKind.i64.wrap (s3+1),IntKind.i64.wrap (s4+1),(List.set s5 x14 x9)),(Option.some.inj h).symm,wk [] [0,1,2,3,4] 6 rfl⟩
   refine T.skip (T.region (go 3 6 (RS.nil ?_)))
   exact ⟨(s3,IntKind.i64.wrap (s4+1),s5),(Option.some.inj h).symm,wk [] [0,1,2,3,4] 6 rfl⟩
  refine T.exit ?_
  obtain ⟨w_10,h,hw_10⟩:=Qsa h
  replace h:=h.trans (congrArg some (hv_7 _ hw_10))
  refine T.seq ?_
  obtain ⟨x18,hx18,h⟩:=bind_some h
  obtain ⟨x19,hx19,h⟩:=bind_some h
  refine T.region (go 2 5 (sO (Qyb (en:=Qta) (xs:=s5) Ty.s45 rfl rfl rfl rfl hx18 (sO (o_clear_vw (en:=Qta) (xs:=s5) (z0:=(⟨0,0⟩:Move)) Ty.s45 Ty.z51 (fun _=>rfl) rfl rfl hx19 rfl (RS.nil (T.seq ?_)))))))
  obtain ⟨x21,hx21,h⟩:=bind_some h
  refine T.region (go 2 5 (sO (o_slice_own (en:=Qta) (xs:=(clr s5 ((s3).toNat) ((((s5).length:Int)).toNat - (s3).toNat) (⟨0,0⟩:Move))) Ty.s45 rfl rfl rfl hx21 rfl rfl (go 1 6 (RS.nil ?_)))))
  cases h
  exact tO [] [0,1,2,3,5] 6
theorem Y3a (p0:Net) (p1:State) (p2:List Choice) (p3:List Move) (r:List Move) (h:Z5a p0 p1 p2 p3=some r):FnO Tryz.prog 27 [.agg (Qma p0),.agg (Qra p1),sL Qba p2,sL Qta p3] (.ref 0) [aR 51 2 Qta r]:=by
  unfold Z5a at h
  refine fnT 0 Tryz.func27 Tryz.ntmps27 ?_
  refine T.seq (T.region (go 4 0 (RS.nil (T.seq ?_))))
  obtain ⟨x3,hx3,h⟩:=bind_some h
  obtain ⟨x4,hx4,h⟩:=bind_some h
  refine T.region (go 1 3 (sO (cO 3 (slices_Clone_Move_c p3 x3 hx3) ⟨rfl,(go 1 4 (sO (Vja (ac:=[.ref 3,.func 65 [.ptr 0 0,.ptr 2 0,.ptr 1 0]]) (as0:=[.ref 0,.func 65 [.ptr 1 0,.ptr 2 0,.ptr 3 0]]) (aw0:=[aR 51 2 Qta x3,.box (Qma p0),.box [sL Qba p2],.box (Qra p1)]) (aw1:=[.dead,.box (Qma p0),.box [sL Qba p2],.box (Qra p1),aR 51 2 Qta x4]) (aw2:=[.box (Qma p0),.box (Qra p1),.box [sL Qba p2],.dead,aR 51 2 Qta x4]) (v:=.ref 4) (v':=.ref 4) (n0:=4) (n1:=5) [3,0,2,1] rfl rfl rfl rfl (by decide) (Z2a rfl encMove_p rfl (Jsa (cs:=(Qma p0)) (ds:=(Qma p0)) rfl ⟨rn_s rfl,Qga rfl,Qga rfl,trivial⟩ (Jsa (cs:=[sL Qba p2]) (ds:=[sL Qba p2]) rfl ⟨rn_s rfl,trivial⟩ (Jsa (cs:=(Qra p1)) (ds:=(Qra p1)) rfl ⟨rn_s rfl,rn_s rfl,rn_s rfl,rn_s rfl,rn_s rfl,trivial⟩ (Qxa))))) ⟨Qza rfl,rn_func ⟨Qqa rfl,Qqa rfl,Qqa rfl,trivial⟩,trivial⟩ (slices_DeleteFunc_Move_x0f00_c x3 p0.Nodes p0.Rings p0.Room p2 p1.At p1.Rings p1.Memory p1.Choices p1.Out x4 hx4) rfl (Vga (by decide)) ⟨.inl ⟨1,_,by decide,rfl,Zoa (cs:=(Qma p0)) (ds:=(Qma p0)) ⟨Qua (Qpa Qsb _),Qua (Qea _ _),Qua (Qea _ _),trivial⟩⟩,.inl ⟨3,_,by decide,rfl,Zoa (cs:=(Qra p1)) (ds:=(Qra p1)) ⟨Qua (Qpa Yga _),Qua (Qpa (Y8a Q0a) _),Qua (Qpa Q9a _),Qua (Qpa Q5a _),Qua (Qpa Q0a _),trivial⟩⟩,.inl ⟨2,_,by decide,rfl,Zoa (cs:=[sL Qba p2]) (ds:=[sL Qba p2]) ⟨Qua (Qpa Q5a _),trivial⟩⟩,.inl ⟨0,_,by decide,rfl,trivial⟩,.inl ⟨4,_,by decide,rfl,Zca encMove_p⟩,trivial⟩ (go 1 5 (RS.nil ?_)))))⟩)))
  cases h
  exact tO [] [4] 5
end Go.Proofs.YtfbmoockopakjaaGreat
namespace Go.Proofs.YtfbmoockopakjaaGreat
open Go.RowKit
set_option linter.unusedVariables false
set_option linter.unusedSimpArgs false
set_option maxRecDepth 100000
set_option maxHeartbeats 4000000
set_option synthInstance.maxSize 100000
set_option synthInstance.maxHeartbeats 4000000
theorem trail_Check_c (p0:Net) (p1:List Choice) (r:Int) (h:trail_Check p0 p1=some r):Fn Tryz.prog 70 [.agg (Qma p0),sL Qba p1] (iI r):=by
  unfold trail_Check at h
  refine fnT 0 Tryz.func70 Tryz.ntmps70 ?_
  refine T.seq (T.region (go 2 0 (RS.nil (T.seq (T.seq ?_)))))
  obtain ⟨x2,hx2,h⟩:=bind_some h
  refine T.region (go 1 1 (sO (cF (net_Check_c p0 x2 hx2) ⟨rfl,(go 1 1 (RS.nil (T.seq (T.region (go 2 1 (RS.nil (T.ci h rfl (fun hb_1 h=>?_) (fun hb_1 h=>?_))))))))⟩)))
  ·refine T.seq (T.region (go 2 1 (RS.nil ?_)))
   cases h
   exact tD
  refine T.skip (T.seq (T.seq (T.region (go 1 1 (sQ (Qfa Ty.s28 rfl (go 1 1 (RS.nil (T.ci h rfl (fun hb_2 h=>?_) (fun hb_2 h=>?_))))))))))
  ·refine T.seq (T.region (go 1 1 (RS.nil ?_)))
   cases h
   exact tD
  refine T.skip (T.seq (T.seq (T.region (go 1 1 (sQ (Qfa Ty.s28 rfl (go 1 1 (RS.nil (T.block (T.iter (fun ss_29:Int=>mkA 60 [(2,.ptr 0 0),(16,sL Qba p1),(17,iI ((p1).length:Int)),(18,iI ss_29)]) (fun ss_29=>[.box (Qma p0)]) h (wk [] [0] 1 rfl) (fun ss_29 v_30 h hv_30=>?_)))))))))))
  revert hv_30 h;revert ss_29;intro s3 h hv_30
  replace h:Jdb p0 p1 s3=some v_30:=h
  try dsimp only
  unfold Jdb at h
  refine T.seq (T.region (go 1 1 (RS.nil (T.seq (T.ci h rfl (fun hb_31 h=>?_) (fun hb_31 h=>?_))))))
  ·refine T.skip (T.seq (T.block (T.seq ?_)))
   obtain ⟨x5,hx5,h⟩:=bind_some h
   refine T.region (sQ (Qda Ty.s28 (fun _=>rfl) rfl rfl hx5 (go 3 1 (RS.nil (T.seq ?_)))))
   obtain ⟨zt_34,hz,h⟩:=bind_some h
   revert hz h;revert zt_34;intro c7 hz h
   refine T.join (Z:=Unit) (fun _=>mkA 60 [(2,.ptr 0 0),(7,.ptr 1 0),(16,sL Qba p1),(17,iI ((p1).length:Int)),(18,iI s3),(42,.bool c7)]) (fun _=>[.box (Qma p0),.box (Qba x5)]) (fun _=>True) (fun _ _=>?_) (fun hK=>?_)
   ·refine T.ci h rfl (fun hb_35 h=>?_) (fun hb_35 h=>?_)
    ·refine T.seq (T.region (go 1 2 (RS.nil ?_)))
     obtain ⟨w_36,h,hw_36⟩:=Qsa h
     replace h:=h.trans (congrArg some (hv_30 _ hw_36))
     cases h
     exact tD
    refine T.skip ?_
    obtain ⟨zt_38,hz,h⟩:=bind_some h
    revert hz h;revert zt_38;intro c9 hz h
    refine T.join (Z:=Unit) (fun _=>mkA 60 [(2,.ptr 0 0),(16,sL Qba p1),(17,iI ((p1).length:Int)),(18,iI s3),(58,.bool c9)]) (fun _=>[.box (Qma p0)]) (fun _=>True) (fun _ _=>?_) (fun hK=>?_)
    ·refine T.ci h rfl (fun hb_39 h=>?_) (fun hb_39 h=>?_)
     ·refine T.seq (T.region (go 1 1 (RS.nil ?_)))
      obtain ⟨w_40,h,hw_40⟩:=Qsa h
      replace h:=h.trans (congrArg some (hv_30 _ hw_40))
      cases h
      exact tD
     refine T.skip (T.region (go 2 1 (RS.nil ?_)))
     exact ⟨IntKind.i64.wrap (s3+1),(Option.some.inj h).symm,wk [] [0] 1 rfl⟩
    rcases Qha (decide (x5.Lane<0)) with hb_37 | hb_37
    ·replace hz:=ite_T hz hb_37
     refine T.drawn mixed (k:=16) rfl (rq [0] 15 (ra1 1 (og 2 ⟨rfl,(rq [2,3] 12 (r2 4 rfl hb_37 (r2 5 rfl hb_37 (r2 6 rfl hb_37 (r2 7 rfl hb_37 (r2 8 rfl hb_37 ?_))))))⟩)))
     refine r2 9 rfl hb_37 (r2 10 rfl hb_37 (r2 11 rfl hb_37 (r2 12 rfl hb_37 (r2 13 rfl hb_37 (r2 14 rfl hb_37 (r0 15 rfl (Qna (v:=.bool true) rfl hb_37 rfl (RA.done (by decide +kernel) ?_))))))))
     exact T.weakR (hK () trivial) (Weak.mkN [] [0] (by decide) (Qla _) rfl ⟨Qqa rfl,rn_s rfl,Qga rfl,Qga rfl,Q6a ((congrArg (fun p=>p) (Option.some.inj hz)).symm),trivial⟩ (rw_bs (Qma p0) rfl (Qxa)))
    replace hz:=ite_F hz hb_37
    obtain ⟨x8,hx8,hz⟩:=bind_some hz
    refine T.drawn mixed (k:=16) rfl ?_
    apply RA.jn 0 #[true,true,true,true,true,true,true,true,true,true,true,true,true,true,true,true];intro hS41
    apply RA.jn 4 #[true,true,true,true,true,true,true,true,true,true,true,true,false,false,false,false];intro hS42
    apply RA.jn 5 #[true,true,true,true,true,false,true,true,true,true,true,true,false,false,false,false];intro hS43
    apply RA.jn 7 #[true,true,true,true,true,true,true,false,true,true,false,false,false,false,false,false];intro hS44
    apply RA.jn 7 #[true,true,true,true,true,true,true,true,true,false,false,false,false,false,false,false];intro hS45
    ·refine rq [0] 15 (ra1 1 (og 2 ⟨rfl,(rq [2,3] 12 (ry 4 hb_37 rfl (ry 6 hb_37 rfl (ry 8 hb_37 rfl (ra3 5 7 9 ?_ ?_ ?_)))))⟩))
     ·refine oy 2 hb_37 rfl (ra2 7 9 ?_ ?_)
      ·refine oy 2 hb_37 rfl ?_
       exact raE hS45
      ·refine oy 2 hb_37 rfl ?_
       exact raE hS44
     ·refine oy 2 hb_37 rfl (ra2 5 9 ?_ ?_)
      ·refine oy 2 hb_37 rfl ?_
       exact raT hS45
      ·refine oy 2 hb_37 rfl (r1 10 rfl hb_37 (Qda Ty.s22 (fun _=>rfl) rfl rfl hx8 (ry 11 hb_37 rfl ?_)))
       exact raE hS43
     ·refine oy 2 hb_37 rfl (ra2 5 7 ?_ ?_)
      ·refine oy 2 hb_37 rfl ?_
       exact raT hS44
      ·refine oy 2 hb_37 rfl (r1 10 rfl hb_37 (Qda Ty.s22 (fun _=>rfl) rfl rfl hx8 (ry 11 hb_37 rfl ?_)))
       exact raT hS43
    ·refine ra1 9 (oy 2 hb_37 rfl (r1 10 rfl hb_37 (Qda Ty.s22 (fun _=>rfl) rfl rfl hx8 (ry 11 hb_37 rfl ?_))))
     exact raE hS42
    ·refine ra1 7 (oy 2 hb_37 rfl (r1 10 rfl hb_37 (Qda Ty.s22 (fun _=>rfl) rfl rfl hx8 (ry 11 hb_37 rfl ?_))))
     exact raT hS42
    ·refine ra2 5 12 ?_ ?_
     ·refine oy 2 hb_37 rfl ?_
      exact raT hS42
     ·refine oy 2 hb_37 rfl (r1 13 rfl hb_37 (Qfa Ty.s26 rfl (ra1 5 (oy 2 hb_37 rfl (ry 14 hb_37 rfl (r0 15 rfl (Qia (v:=.bool (decide (x5.Lane ≥ ((x8.In).length:Int)))) rfl hb_37 rfl ?_)))))))
      exact raE hS41
    ·refine ra1 12 (oy 2 hb_37 rfl (r1 13 rfl hb_37 (Qfa Ty.s26 rfl (ry 14 hb_37 rfl (r0 15 rfl (Qia (v:=.bool (decide (x5.Lane ≥ ((x8.In).length:Int)))) rfl hb_37 rfl ?_))))))
     exact raT hS41
    refine RA.done (by decide +kernel) ?_
    exact T.weakR (hK () trivial) (Weak.mkN [] [0] (by decide) (Qla _) rfl ⟨Qqa rfl,rn_s rfl,Qga rfl,Qga rfl,Q6a ((congrArg (fun p=>p) (Option.some.inj hz)).symm),trivial⟩ (rw_bs (Qma p0) rfl (Qxa)))
   refine T.region (go 4 2 ?_)
   rcases Qha (decide (x5.Node<0)) with hb_32 | hb_32
   ·replace hz:=ite_T hz hb_32
    refine sN hb_32 (sN hb_32 (sN hb_32 (sN hb_32 (sN hb_32 (sN hb_32 (sQ (Qna (v:=.bool true) rfl hb_32 rfl (go 1 2 (sN rfl (sN rfl ?_))))))))))
    refine sN rfl (sN rfl (sN rfl (sN rfl (sN rfl (sN rfl (sQ (Qna (v:=.bool true) rfl rfl rfl (RS.nil ?_))))))))
    exact T.sub (hK () trivial) ⟨rfl,rfl,rfl,rfl,rfl,(congrArg AV.bool ((congrArg (fun p=>p) (Option.some.inj hz)).symm)).symm,trivial⟩
   replace hz:=ite_F hz hb_32
   refine yg 2 hb_32 (yg 2 hb_32 (yg 2 hb_32 (yg 2 hb_32 (yQ hb_32 (Qfa Ty.s22 rfl (yg 2 hb_32 (sQ (Qia (v:=.bool (decide (x5.Node ≥ ((p0.Nodes).length:Int)))) rfl hb_32 rfl (go 1 2 ?_)))))))))
   rcases Qha (decide (x5.Node ≥ ((p0.Nodes).length:Int))) with hb_33 | hb_33
   ·replace hz:=ite_T hz hb_33
    refine sN hb_33 (sN hb_33 (sN hb_33 (sN hb_33 (sN hb_33 (sN hb_33 (sN hb_33 (sN hb_33 (sQ (Qna (v:=.bool true) rfl hb_33 rfl (RS.nil ?_))))))))))
    exact T.sub (hK () trivial) ⟨rfl,rfl,rfl,rfl,rfl,(congrArg AV.bool ((congrArg (fun p=>p) (Option.some.inj hz)).symm)).symm,trivial⟩
   replace hz:=ite_F hz hb_33
   obtain ⟨x6,hx6,hz⟩:=bind_some hz
   refine yg 2 hb_33 (yg 2 hb_33 (yg 2 hb_33 (yg 2 hb_33 (yQ hb_33 (Qda Ty.s22 (fun _=>rfl) rfl rfl hx6 (yg 2 hb_33 (yg 2 hb_33 (yg 2 hb_33 (sQ (Qia (v:=.bool (x6.Kind != 6)) rfl hb_33 rfl (RS.nil ?_)))))))))))
   exact T.sub (hK () trivial) ⟨rfl,rfl,rfl,rfl,rfl,(congrArg AV.bool ((congrArg (fun p=>p) (Option.some.inj hz)).symm)).symm,trivial⟩
  refine T.exit ?_
  obtain ⟨w_46,h,hw_46⟩:=Qsa h
  replace h:=h.trans (congrArg some (hv_30 _ hw_46))
  refine T.seq (T.region (go 1 1 (RS.nil ?_)))
  cases h
  exact tD
theorem trail_Play_c (p0:Net) (p1:List (List Item)) (p2:List Choice) (p3:List Int) (r:State × Int) (h:trail_Play p0 p1 p2 p3=some r):Fn Tryz.prog 30 [.agg (Qma p0),sL (encL Qaa) p1,sL Qba p2,sL encI p3] (.tup [.agg (Qra r.1),iI r.2]):=by
  unfold trail_Play at h
  refine fnT 0 Tryz.func30 Tryz.ntmps30 ?_
  refine T.seq (T.region (go 3 0 (RS.nil (T.seq ?_))))
  obtain ⟨x2,hx2,h⟩:=bind_some h
  refine T.region (go 2 2 (sO (Vja (ac:=[.agg (Qma p0),sL (encL Qaa) p1]) (as0:=[.agg (Qma p0),sL (encL Qaa) p1]) (aw0:=[]) (aw1:=[aR 3 1 encI x2.1.At,aR 29 1 (encL Qaa) x2.1.Rings,aR 84 3 Qca x2.1.Memory,aR 77 2 Qba x2.1.Choices,aR 72 3 Qaa x2.1.Out]) (aw2:=[.box (Qma p0),.box [.nils,.nils,.nils,.nils,.nils],aR 3 1 encI x2.1.At,aR 29 1 (encL Qaa) x2.1.Rings,aR 84 3 Qca x2.1.Memory,aR 77 2 Qba x2.1.Choices,aR 72 3 Qaa x2.1.Out]) (v:=.tup [.agg [.ref 0,.ref 1,.ref 2,.ref 3,.ref 4],iI x2.2]) (v':=.tup [.agg [.ref 2,.ref 3,.ref 4,.ref 5,.ref 6],iI x2.2]) (n0:=2) (n1:=5) [] rfl rfl rfl rfl (by decide) (Qxa) ⟨rn_agg ⟨rn_s rfl,Qga rfl,Qga rfl,trivial⟩,rn_s rfl,trivial⟩ (FnX.of_fnO (move_Start_c p0 p1 x2 hx2)) rfl (rm_tup (cs:=[.agg [.ref 2,.ref 3,.ref 4,.ref 5,.ref 6],iI x2.2]) (ds:=[.agg [.ref 0,.ref 1,.ref 2,.ref 3,.ref 4],iI x2.2]) ⟨rm_agg (cs:=[.ref 2,.ref 3,.ref 4,.ref 5,.ref 6]) (ds:=[.ref 0,.ref 1,.ref 2,.ref 3,.ref 4]) ⟨Vga (by decide),Vga (by decide),Vga (by decide),Vga (by decide),Vga (by decide),trivial⟩,Qua (Qea _ _),trivial⟩) ⟨.inr ⟨rfl,rfl⟩,.inr ⟨rfl,rfl⟩,.inl ⟨0,_,by decide,rfl,Zca Yga⟩,.inl ⟨1,_,by decide,rfl,Zca (Y8a Q0a)⟩,.inl ⟨2,_,by decide,rfl,Zca Q9a⟩,.inl ⟨3,_,by decide,rfl,Zca Q5a⟩,.inl ⟨4,_,by decide,rfl,Zca Q0a⟩,trivial⟩ (go 6 7 (RS.nil (T.seq (T.seq (T.region (go 2 8 (RS.nil ?_))))))))))
  refine T.ci h rfl (fun hb_1 h=>?_) (fun hb_1 h=>?_)
  ·refine T.seq (T.region (go 4 8 (RS.nil ?_)))
   cases h
   exact tD
  refine T.skip (T.seq (T.seq ?_))
  obtain ⟨x4,hx4,h⟩:=bind_some h
  refine T.region (go 2 8 (sO (cF (trail_Check_c p0 p2 x4 hx4) ⟨rfl,(go 1 8 (RS.nil (T.seq (T.region (go 2 8 (RS.nil (T.ci h rfl (fun hb_2 h=>?_) (fun hb_2 h=>?_))))))))⟩)))
  ·refine T.seq (T.region (go 4 8 (RS.nil ?_)))
   cases h
   exact tD
  refine T.skip (T.seq (T.seq (T.region (go 1 8 (sQ (Qfa Ty.s26 rfl (go 1 8 (RS.nil (T.ci h rfl (fun hb_3 h=>?_) (fun hb_3 h=>?_))))))))))
  ·refine T.seq (T.region (go 3 8 (RS.nil ?_)))
   cases h
   exact tD
  refine T.skip (T.seq (T.seq (T.region (go 1 8 (sQ (Qfa Ty.s26 rfl (go 1 8 (RS.nil (T.block (T.fC 2 ?_))))))))))
  refine T.fC 3 (T.fC 4 (T.fC 5 (T.fC 6 (T.iter (fun ss_18:Int × (List Int) × (List (List Item)) × (List Memory) × (List Choice) × (List Item)=>mkA 81 [(1,sL (encL Qaa) p1),(2,sL Qba p2),(4,.ptr 0 0),(8,.ptr 1 0),(10,.ptr 2 0),(38,sL encI p3),(39,iI ((p3).length:Int)),(40,iI ss_18.1)]) (fun ss_18=>[.box (Qma p0),.box [.nils,.nils,.nils,.nils,.nils],.box [sL encI ss_18.2.1,sL (encL Qaa) ss_18.2.2.1,sL Qca ss_18.2.2.2.1,sL Qba ss_18.2.2.2.2.1,sL Qaa ss_18.2.2.2.2.2]]) h (wk [] [0,1,7] 8 rfl) (fun ss_18 v_19 h hv_19=>?_)))))
  obtain ⟨s5,s6,s7,s8,s9,s10⟩:=ss_18
  replace h:Vsa p0 p1 p2 p3 s5 s6 s7 s8 s9 s10=some v_19:=h
  try dsimp only
  unfold Vsa at h
  refine T.seq (T.region (go 1 3 (RS.nil (T.seq (T.ci h rfl (fun hb_20 h=>?_) (fun hb_20 h=>?_))))))
  ·refine T.skip (T.seq (T.block (T.seq ?_)))
   obtain ⟨x12,hx12,h⟩:=bind_some h
   refine T.region (sQ (Qda Ty.s26 (fun _=>rfl) rfl rfl hx12 (go 2 3 (RS.nil (T.seq ?_)))))
   obtain ⟨x14,hx14,h⟩:=bind_some h
   refine T.region (go 3 3 (sO (cO 3 (move_Ready_c p0 p1 (⟨s6,s7,s8,s9,s10⟩:State) x14 hx14) ⟨rfl,(go 5 4 (RS.nil (T.seq ?_)))⟩)))
   obtain ⟨x16,hx16,h⟩:=bind_some h
   refine T.region (go 4 4 (sO (cO 4 (Y3a p0 (⟨s6,s7,s8,s9,s10⟩:State) p2 x14.1 x16 hx16) ⟨rfl,(go 1 5 (RS.nil (T.seq (T.seq (T.region (go 1 5 (sQ (Zfa (en:=Qta) Ty.s45 rfl rfl ?_))))))))⟩)))
   refine go 1 5 (RS.nil (T.ci h rfl (fun hb_21 h=>?_) (fun hb_21 h=>?_)))
   ·refine T.exit ?_
    obtain ⟨w_22,h,hw_22⟩:=Qsa h
    replace h:=h.trans (congrArg some (hv_19 _ hw_22))
    refine T.seq (T.region (go 3 5 (RS.nil ?_)))
    cases h
    exact tD
   refine T.skip ?_
   obtain ⟨x17,hx17,h⟩:=bind_some h
   obtain ⟨x18,hx18,h⟩:=bind_some h
   obtain ⟨x19,hx19,h⟩:=bind_some h
   obtain ⟨x20,hx20,h⟩:=bind_some h
   obtain ⟨x21,hx21,h⟩:=bind_some h
   refine T.drawn mixed (k:=21) rfl (rq [1,3,4,5] 17 (r0 6 rfl (Zfa (en:=Qta) Ty.s45 rfl rfl (r0 7 rfl (v_rem rfl rfl hx17 (rq [8] 14 (r0 9 rfl (Zfa (en:=Qta) Ty.s45 rfl rfl (rq [10,11] 11 (r0 12 rfl (Zfa (en:=Qta) Ty.s45 rfl rfl (r0 13 rfl (v_rem rfl rfl hx18 (r0 14 rfl (Qoa (en:=Qta) Ty.s45 rfl rfl rfl hx19 ?_)))))))))))))))
   refine rL [0,16,17,18,19,20] 0 rfl (rL [2,16,17,18,19,20] 2 rfl (ra1 15 (oO rfl (Qwa (en:=Qta) (a:=x20) rfl rfl hx20 (Ywa Ty.k51 Ty.c51 rfl (cs:=(Qta x20)) rfl (ra1 16 (oO rfl (cD (move_Do_c p0 p1 (⟨s6,s7,s8,s9,s10⟩:State) x20 x21 hx21) ⟨rfl,(rq [17,18,19] 1 (ra1 20 (og 5 ⟨rfl,(RA.done (by decide +kernel) ?_)⟩)))⟩))))))))
   refine T.region (go 2 5 (RS.nil ?_))
   exact ⟨(IntKind.i64.wrap (s5+1),x21.1.At,x21.1.Rings,x21.1.Memory,x21.1.Choices,x21.1.Out),(Option.some.inj h).symm,wk [] [0,1,2] 5 rfl⟩
  refine T.exit ?_
  obtain ⟨w_23,h,hw_23⟩:=Qsa h
  replace h:=h.trans (congrArg some (hv_19 _ hw_23))
  refine T.seq (T.region (go 3 3 (RS.nil ?_)))
  cases h
  exact tD
theorem trail_Lanes_c (p0:Net) (p1:List Choice) (r:(List (List Int)) × Int) (h:trail_Lanes p0 p1=some r):Fn Tryz.prog 68 [.agg (Qma p0),sL Qba p1] (.tup [sL (encL encI) r.1,iI r.2]):=by
  unfold trail_Lanes at h
  refine fnT 0 Tryz.func68 Tryz.ntmps68 ?_
  refine T.seq (T.region (go 3 0 (RS.nil (T.seq (T.seq ?_)))))
  obtain ⟨x2,hx2,h⟩:=bind_some h
  refine T.region (go 2 1 (sO (cF (trail_Check_c p0 p1 x2 hx2) ⟨rfl,(go 1 1 (RS.nil (T.seq (T.region (go 2 1 (RS.nil (T.ci h rfl (fun hb_1 h=>?_) (fun hb_1 h=>?_))))))))⟩)))
  ·refine T.seq (T.region (go 3 1 (RS.nil ?_)))
   cases h
   exact tD
  refine T.skip (T.seq ?_)
  obtain ⟨x4,hx4,h⟩:=bind_some h
  refine T.region (go 2 1 (sQ (Qfa Ty.s22 rfl (sO (o_mk_hd (en:=encI) (e2:=3) (c:=1) Ty.s106 Ty.z26 rfl rfl hx4 rfl rfl rfl (go 1 3 (RS.nil (T.seq (T.seq (T.region (go 1 3 ?_)))))))))))
  refine sQ (Qfa Ty.s28 rfl (go 1 3 (RS.nil (T.block (T.iter (fun ss_20:Int × (List (Bool × List Int))=>mkA 41 [(7,.ref 0),(20,sL Qba p1),(21,iI ((p1).length:Int)),(22,iI ss_20.1)]) (fun ss_20=>[.hd 26 1,.cl 3 1 (cL encI ss_20.2)]) h (Weak.mkN [] [1,2] (by decide) (Qla _) rfl ⟨Qza rfl,rn_s rfl,Qga rfl,Qga rfl,trivial⟩ (rw_hd rfl rfl (rw_cl (en:=encI) (ys:=x4) rfl rfl (Qxa)))) (fun ss_20 v_21 h hv_21=>?_))))))
  obtain ⟨s5,s6⟩:=ss_20
  replace h:V5a p1 s5 s6=some v_21:=h
  try dsimp only
  unfold V5a at h
  refine T.seq (T.region (go 1 2 (RS.nil (T.seq (T.ci h rfl (fun hb_22 h=>?_) (fun hb_22 h=>?_))))))
  ·refine T.skip (T.seq (T.block (T.seq ?_)))
   obtain ⟨x8,hx8,h⟩:=bind_some h
   refine T.region (sQ (Qda Ty.s28 (fun _=>rfl) rfl rfl hx8 (go 3 2 (RS.nil ?_))))
   obtain ⟨x9,hx9,h⟩:=bind_some h
   obtain ⟨x10,hx10,h⟩:=bind_some h
   obtain ⟨x11,hx11,h⟩:=bind_some h
   obtain ⟨x12,hx12,h⟩:=bind_some h
   refine T.drawn mixed (k:=14) rfl ?_
   apply RA.jn 2 #[true,true,true,true,true,true,true,true,true,true,true,true,false,false];intro hS23
   apply RA.jn 3 #[true,true,true,true,true,true,true,true,true,true,true,false,false,false];intro hS24
   apply RA.jn 4 #[true,true,true,true,true,true,true,false,true,true,true,false,false,false];intro hS25
   apply RA.jn 4 #[true,true,false,true,true,true,true,true,true,true,true,false,false,false];intro hS26
   apply RA.jn 4 #[true,true,true,true,true,true,true,true,true,true,false,false,false,false];intro hS27
   apply RA.jn 5 #[true,true,true,true,true,true,false,false,true,true,true,false,false,false];intro hS28
   apply RA.jn 5 #[true,true,false,true,true,true,true,false,true,true,true,false,false,false];intro hS29
   apply RA.jn 5 #[true,true,true,true,true,true,true,false,true,true,false,false,false,false];intro hS30
   ·refine rq [0,1,3,4,8] 9 (rL [5,6,7,11,12,13] 5 rfl (rL [9,10,11,12,13] 9 rfl (ra3 2 6 10 ?_ ?_ ?_)))
    ·refine og 3 ⟨rfl,(ra2 6 10 ?_ ?_)⟩
     ·refine oO rfl (Zla Ty.s106 rfl rfl rfl rfl cl_l hx9 ?_)
      exact raE hS30
     ·refine oO rfl (Qva (rows:=List.map encI [x8.Lane]) (vs:=[iI x8.Lane]) Ty.s26 Ty.z3 rfl rfl rfl rfl rfl rfl ?_)
      exact raE hS28
    ·refine oO rfl (Zla Ty.s106 rfl rfl rfl rfl cl_l hx9 (ra3 2 7 10 ?_ ?_ ?_))
     ·refine og 3 ⟨rfl,?_⟩
      exact raT hS30
     ·refine oO rfl (Zya Ty.k26 rfl rfl rfl hx10 (ra2 2 10 ?_ ?_))
      ·refine og 3 ⟨rfl,?_⟩
       exact raE hS27
      ·refine oO rfl (Qva (rows:=List.map encI [x8.Lane]) (vs:=[iI x8.Lane]) Ty.s26 Ty.z3 rfl rfl rfl rfl rfl rfl ?_)
       exact raE hS26
     ·refine oO rfl (Qva (rows:=List.map encI [x8.Lane]) (vs:=[iI x8.Lane]) Ty.s26 Ty.z3 rfl rfl rfl rfl rfl rfl ?_)
      exact raE hS29
    ·refine oO rfl (Qva (rows:=List.map encI [x8.Lane]) (vs:=[iI x8.Lane]) Ty.s26 Ty.z3 rfl rfl rfl rfl rfl rfl (ra2 2 6 ?_ ?_))
     ·refine og 4 ⟨rfl,?_⟩
      exact raT hS28
     ·refine oO rfl (Zla Ty.s106 rfl rfl rfl rfl cl_l hx9 ?_)
      exact raT hS29
   ·refine ra2 7 10 ?_ ?_
    ·refine oO rfl (Zya Ty.k26 rfl rfl rfl hx10 ?_)
     exact raT hS27
    ·refine oO rfl (Qva (rows:=List.map encI [x8.Lane]) (vs:=[iI x8.Lane]) Ty.s26 Ty.z3 rfl rfl rfl rfl rfl rfl ?_)
     exact raE hS25
   ·refine ra2 2 7 ?_ ?_
    ·refine og 4 ⟨rfl,?_⟩
     exact raT hS25
    ·refine oO rfl (Zya Ty.k26 rfl rfl rfl hx10 ?_)
     exact raT hS26
   ·refine ra1 6 (oO rfl (Zla Ty.s106 rfl rfl rfl rfl cl_l hx9 ?_))
    exact raT hS25
   ·refine ra1 10 (oO rfl (Qva (rows:=List.map encI [x8.Lane]) (vs:=[iI x8.Lane]) Ty.s26 Ty.z3 rfl rfl rfl rfl rfl rfl ?_))
    exact raE hS24
   ·refine ra2 2 11 ?_ ?_
    ·refine og 4 ⟨rfl,?_⟩
     exact raT hS24
    ·refine RO.outc 33 1 x9 rfl rfl hx11 rfl rfl (oO rfl (J5a (en:=encI) (xs:=x11) (ys:=([x8.Lane]:List Int)) Ty.s26 (fun _=>rfl) rfl rfl rfl hx12 rfl rfl (ra1 2 (og 6 ⟨rfl,?_⟩))))
     exact raE hS23
   ·refine ra1 7 (oO rfl (Zya Ty.k26 rfl rfl rfl hx10 ?_))
    exact raT hS24
   ·refine ra1 11 (RO.outc 33 1 x9 rfl rfl hx11 rfl rfl (oO rfl (J5a (en:=encI) (xs:=x11) (ys:=([x8.Lane]:List Int)) Ty.s26 (fun _=>rfl) rfl rfl rfl hx12 rfl rfl ?_)))
    exact raT hS23
   refine ra1 12 (oO rfl (Zla Ty.s106 rfl rfl rfl rfl cl_lh hx9 (ra1 13 (oO rfl (o_st_hd Ty.c26 Ty.i26 (fun _=>rfl) (fun _=>rfl) rfl rfl rfl rfl cl_lh hx10 cl_sh rfl rfl (RA.done (by decide +kernel) (T.region (go 2 7 (RS.nil ?_)))))))))
   exact ⟨(IntKind.i64.wrap (s5+1),(own s6 x9 x12)),(Option.some.inj h).symm,Weak.mkN [] [0,6] (by decide) (Qla _) rfl ⟨Qza rfl,rn_s rfl,Qga rfl,Qga rfl,trivial⟩ (rw_hd rfl rfl (rw_cl (en:=encI) (ys:=(own s6 x9 x12)) rfl rfl (Qxa)))⟩
  refine T.exit ?_
  obtain ⟨w_31,h,hw_31⟩:=Qsa h
  replace h:=h.trans (congrArg some (hv_21 _ hw_31))
  refine T.seq (T.region (go 3 2 (RS.nil (T.thaw 0 1 rfl rfl rfl ?_))))
  cases h
  exact tD
theorem crosslaw_trailed_c (r:Bool) (h:Yja=some r):Fn Tryz.prog 28 [] (.bool r):=by
  unfold Yja at h
  refine fnT 0 Tryz.func28 Tryz.ntmps28 ?_
  refine T.seq (T.region (go 1 0 (RS.nil (T.seq ?_))))
  obtain ⟨x7,hx7,h⟩:=bind_some h
  obtain ⟨x8,hx8,h⟩:=bind_some h
  obtain ⟨x12,hx12,h⟩:=bind_some h
  refine T.region (sO (cD (crosslaw_meeting_c x7 hx7) ⟨rfl,(sO (cQ 0 (crosslaw_two_c x8 hx8) ⟨rfl,(go 1 1 (sO (Qva (rows:=List.map Qba [(⟨2,1⟩:Choice)]) (vs:=[.agg [iI 2,iI 1]]) Ty.s28 Ty.z77 rfl rfl rfl rfl rfl rfl (sO (Qva (rows:=List.map encI [0,0,0,0,0,0]) (vs:=[iI 0,iI 0,iI 0,iI 0,iI 0,iI 0]) Ty.s26 Ty.z3 rfl rfl rfl rfl rfl rfl (RS.fC 0 (RS.fC 1 (RS.fC 2 (sO (cD (trail_Play_c x7 x8 ([(⟨2,1⟩:Choice)]:List Choice) ([0,0,0,0,0,0]:List Int) x12 hx12) ⟨rfl,?_⟩))))))))))⟩))⟩))
  refine go 6 3 (RS.nil (T.seq ?_))
  obtain ⟨x15,hx15,h⟩:=bind_some h
  obtain ⟨x16,hx16,h⟩:=bind_some h
  refine T.drawn mixed (k:=9) rfl ?_
  apply RA.jn 6 #[true,true,true,false,false,false,false,false,false];intro hS1
  ·refine rq [1] 8 (ra2 0 2 ?_ ?_)
   ·refine oO rfl (cD (crosslaw_meeting_c x15 hx15) ⟨rfl,(ra1 2 (og 4 ⟨rfl,?_⟩))⟩)
    exact raE hS1
   ·refine og 4 ⟨rfl,(ra1 0 (oO rfl (cD (crosslaw_meeting_c x15 hx15) ⟨rfl,?_⟩)))⟩
    exact raT hS1
  refine ra1 3 (oO rfl (cD (trail_Lanes_c x15 x12.1.Choices x16 hx16) ⟨rfl,(rq [4,5,6,7,8] 0 (RA.done (by decide +kernel) ?_))⟩))
  obtain ⟨zt_6,hz,h⟩:=bind_some h
  revert hz h;revert zt_6;intro c19 hz h
  refine T.join (Z:=Unit) (fun _=>mkA 45 [(0,.bool c19)]) (fun _=>[]) (fun _=>True) (fun _ _=>?_) (fun hK=>?_)
  ·cases h
   exact tD
  refine T.region (go 3 4 ?_)
  rcases Qha (x12.2==0) with hb_2 | hb_2
  ·replace hz:=ite_T hz hb_2
   refine yg 4 hb_2 (yg 4 hb_2 (sQ (Qna (v:=.bool (x16.2==0)) rfl hb_2 rfl (go 1 4 ?_))))
   rcases Qha (x16.2==0) with hb_3 | hb_3
   ·replace hz:=ite_T hz hb_3
    refine yg 4 hb_3 (yQ hb_3 (Qfa Ty.s106 rfl (yg 4 hb_3 (sQ (Qna (v:=.bool (((x16.1).length:Int)==4)) rfl hb_3 rfl (go 1 4 ?_))))))
    rcases Qha (((x16.1).length:Int)==4) with hb_4 | hb_4
    ·replace hz:=ite_T hz hb_4
     obtain ⟨x17,hx17,hz⟩:=bind_some hz
     obtain ⟨x18,hx18,hz⟩:=bind_some hz
     refine yg 4 hb_4 (yQ hb_4 (Qda Ty.s106 (fun _=>rfl) rfl rfl hx17 (yg 4 hb_4 (yO hb_4 (Qva (rows:=List.map encI [1,0]) (vs:=[iI 1,iI 0]) Ty.s26 Ty.z3 rfl rfl rfl rfl rfl rfl (yO hb_4 (cF (slices_Equal_int_c x17 ([1,0]:List Int) x18 hx18) ⟨rfl,(sQ (Qna (v:=.bool x18) rfl hb_4 rfl (go 1 5 ?_)))⟩)))))))
     rcases Qha x18 with hb_5 | hb_5
     ·replace hz:=ite_T hz hb_5
      refine yg 5 hb_5 (yg 5 hb_5 (yQ hb_5 (Qfa Ty.s29 rfl (yg 5 hb_5 (sQ (Qna (v:=.bool (((x12.1.Out).length:Int)==2)) rfl hb_5 rfl (go 1 5 (RS.nil ?_))))))))
      exact T.weakR (hK () trivial) (Weak.mkN [] [] (by decide) (Qla _) rfl ⟨Q6a ((congrArg (fun p=>p) (Option.some.inj hz)).symm),trivial⟩ (Qxa))
     replace hz:=ite_F hz hb_5
     refine sN hb_5 (sN hb_5 (sN hb_5 (sN hb_5 (sQ (Qia (v:=.bool false) rfl hb_5 rfl (go 1 5 (RS.nil ?_)))))))
     exact T.weakR (hK () trivial) (Weak.mkN [] [] (by decide) (Qla _) rfl ⟨Q6a ((congrArg (fun p=>p) (Option.some.inj hz)).symm),trivial⟩ (Qxa))
    replace hz:=ite_F hz hb_4
    refine sN hb_4 (sN hb_4 (sN hb_4 (sN hb_4 (sN hb_4 (sQ (Qia (v:=.bool false) rfl hb_4 rfl (go 1 4 (sN rfl (sN rfl (sN rfl ?_))))))))))
    refine sN rfl (sQ (Qia (v:=.bool false) rfl rfl rfl (go 1 4 (RS.nil ?_))))
    exact T.weakR (hK () trivial) (Weak.mkN [] [] (by decide) (Qla _) rfl ⟨Q6a ((congrArg (fun p=>p) (Option.some.inj hz)).symm),trivial⟩ (Qxa))
   replace hz:=ite_F hz hb_3
   refine sN hb_3 (sN hb_3 (sN hb_3 (sQ (Qia (v:=.bool false) rfl hb_3 rfl (go 1 4 (sN rfl (sN rfl (sN rfl (sN rfl (sN rfl ?_))))))))))
   refine sQ (Qia (v:=.bool false) rfl rfl rfl (go 1 4 (sN rfl (sN rfl (sN rfl (sN rfl (sQ (Qia (v:=.bool false) rfl rfl rfl (go 1 4 (RS.nil ?_))))))))))
   exact T.weakR (hK () trivial) (Weak.mkN [] [] (by decide) (Qla _) rfl ⟨Q6a ((congrArg (fun p=>p) (Option.some.inj hz)).symm),trivial⟩ (Qxa))
  replace hz:=ite_F hz hb_2
  refine sN hb_2 (sN hb_2 (sQ (Qia (v:=.bool false) rfl hb_2 rfl (go 1 4 (sN rfl (sN rfl (sN rfl (sQ (Qia (v:=.bool false) rfl rfl rfl (go 1 4 (sN rfl ?_)))))))))))
  refine sN rfl (sN rfl (sN rfl (sN rfl (sQ (Qia (v:=.bool false) rfl rfl rfl (go 1 4 (sN rfl (sN rfl (sN rfl (sN rfl ?_))))))))))
  refine sQ (Qia (v:=.bool false) rfl rfl rfl (go 1 4 (RS.nil ?_)))
  exact T.weakR (hK () trivial) (Weak.mkN [] [] (by decide) (Qla _) rfl ⟨Q6a ((congrArg (fun p=>p) (Option.some.inj hz)).symm),trivial⟩ (Qxa))
theorem crosslaw_TrailAllowed_c (p0:Net) (p1:List (List Item)) (p2:State) (p3:List Choice) (r:Bool) (h:Ypa p0 p1 p2 p3=some r):Fn Tryz.prog 6 [.agg (Qma p0),sL (encL Qaa) p1,.agg (Qra p2),sL Qba p3] (.bool r):=by
  unfold Ypa at h
  refine fnT 0 Tryz.func6 Tryz.ntmps6 ?_
  refine T.seq (T.region (go 3 0 (RS.nil (T.seq ?_))))
  obtain ⟨x1,hx1,h⟩:=bind_some h
  obtain ⟨zt_2,hz,h⟩:=bind_some h
  revert hz h;revert zt_2;intro c3 hz h
  refine T.join (Z:=Unit) (fun _=>mkA 44 [(1,sL (encL Qaa) p1),(3,sL Qba p3),(4,.ptr 0 0),(6,.ptr 1 0),(20,.bool c3)]) (fun _=>[.box (Qma p0),.box (Qra p2)]) (fun _=>True) (fun _ _=>?_) (fun hK=>?_)
  ·refine T.ci h rfl (fun hb_3 h=>?_) (fun hb_3 h=>?_)
   ·refine T.seq ?_
    obtain ⟨x5,hx5,h⟩:=bind_some h
    refine T.region (go 3 2 (sO (cO 2 (Y3a p0 p2 p3 ([]:List Move) x5 hx5) ⟨rfl,(RS.nil (T.seq ?_))⟩)))
    obtain ⟨x7,hx7,h⟩:=bind_some h
    refine T.region (sO (cF (crosslaw_trailed_c x7 hx7) ⟨rfl,(go 1 3 (RS.nil ?_))⟩))
    cases h
    exact tD
   refine T.skip (T.seq ?_)
   obtain ⟨x9,hx9,h⟩:=bind_some h
   refine T.region (go 3 2 (sO (cO 2 (crossref_Moves_c p0 p1 p2 x9 hx9) ⟨rfl,(go 1 3 (RS.nil ?_))⟩)))
   obtain ⟨x10,hx10,h⟩:=bind_some h
   obtain ⟨zt_5,hz,h⟩:=bind_some h
   revert hz h;revert zt_5;intro c14 hz h
   refine T.join (Z:=Unit) (fun _=>mkA 44 [(8,.bool c14)]) (fun _=>[]) (fun _=>True) (fun _ _=>?_) (fun hK=>?_)
   ·cases h
    exact tD
   rcases Qha x10 with hb_4 | hb_4
   ·replace hz:=ite_T hz hb_4
    obtain ⟨x11,hx11,hz⟩:=bind_some hz
    obtain ⟨x12,hx12,hz⟩:=bind_some hz
    obtain ⟨x13,hx13,hz⟩:=bind_some hz
    refine T.drawn mixed (k:=15) rfl ?_
    apply RA.jn 4 #[true,true,true,true,true,true,true,true,true,true,true,false,false,false,false];intro hS6
    apply RA.jn 5 #[true,true,true,true,true,true,false,true,true,true,true,false,false,false,false];intro hS7
    apply RA.jn 5 #[true,true,true,true,true,true,true,false,true,true,true,false,false,false,false];intro hS8
    apply RA.jn 5 #[true,true,true,true,true,true,true,true,false,true,true,false,false,false,false];intro hS9
    apply RA.jn 6 #[true,true,true,false,true,true,false,true,true,true,true,false,false,false,false];intro hS10
    apply RA.jn 6 #[true,true,false,true,true,true,false,true,true,true,true,false,false,false,false];intro hS11
    apply RA.jn 6 #[true,true,true,true,true,true,false,false,true,true,true,false,false,false,false];intro hS12
    apply RA.jn 6 #[true,true,true,true,true,true,false,true,false,true,true,false,false,false,false];intro hS13
    apply RA.jn 7 #[true,true,true,false,true,true,false,false,true,true,true,false,false,false,false];intro hS14
    apply RA.jn 7 #[true,true,false,true,true,true,false,false,true,true,true,false,false,false,false];intro hS15
    apply RA.jn 7 #[true,true,false,false,true,true,false,true,true,true,true,false,false,false,false];intro hS16
    apply RA.jn 7 #[true,true,true,false,true,true,false,true,false,true,true,false,false,false,false];intro hS17
    apply RA.jn 7 #[true,true,false,true,true,true,false,true,false,true,true,false,false,false,false];intro hS18
    apply RA.jn 7 #[true,true,true,true,true,true,false,false,false,true,true,false,false,false,false];intro hS19
    ·refine ra1 0 (oO rfl (cF (crosslaw_trailed_c x10 hx10) ⟨rfl,(rq [1] 13 (ry 4 hb_4 rfl (ry 5 hb_4 rfl (ry 9 hb_4 rfl (ry 10 hb_4 rfl (ra4 2 3 7 8 ?_ ?_ ?_ ?_))))))⟩))
     ·refine oy 3 hb_4 rfl (ra3 3 7 8 ?_ ?_ ?_)
      ·refine oy 3 hb_4 rfl ?_
       exact raE hS19
      ·refine oy 3 hb_4 rfl ?_
       exact raE hS17
      ·refine oy 3 hb_4 rfl ?_
       exact raE hS14
     ·refine oy 3 hb_4 rfl (ra3 2 7 8 ?_ ?_ ?_)
      ·refine oy 3 hb_4 rfl ?_
       exact raT hS19
      ·refine oy 3 hb_4 rfl ?_
       exact raE hS18
      ·refine oy 3 hb_4 rfl ?_
       exact raE hS15
     ·refine oy 3 hb_4 rfl (ra3 2 3 8 ?_ ?_ ?_)
      ·refine oy 3 hb_4 rfl ?_
       exact raT hS17
      ·refine oy 3 hb_4 rfl ?_
       exact raT hS18
      ·refine oy 3 hb_4 rfl ?_
       exact raE hS16
     ·refine oy 3 hb_4 rfl (ra3 2 3 7 ?_ ?_ ?_)
      ·refine oy 3 hb_4 rfl ?_
       exact raT hS14
      ·refine oy 3 hb_4 rfl ?_
       exact raT hS15
      ·refine oy 3 hb_4 rfl ?_
       exact raT hS16
    ·refine ra3 6 7 8 ?_ ?_ ?_
     ·refine oP rfl hb_4 (cO 3 (Y3a p0 p2 p3 x9 x11 hx11) ⟨rfl,(ra2 7 8 ?_ ?_)⟩)
      ·refine oy 4 hb_4 rfl ?_
       exact raE hS9
      ·refine oy 4 hb_4 rfl ?_
       exact raE hS8
     ·refine oy 3 hb_4 rfl ?_
      exact raE hS13
     ·refine oy 3 hb_4 rfl ?_
      exact raE hS12
    ·refine ra2 2 8 ?_ ?_
     ·refine oy 3 hb_4 rfl ?_
      exact raT hS13
     ·refine oy 3 hb_4 rfl ?_
      exact raE hS11
    ·refine ra2 3 8 ?_ ?_
     ·refine oy 3 hb_4 rfl ?_
      exact raT hS13
     ·refine oy 3 hb_4 rfl ?_
      exact raE hS10
    ·refine ra2 2 3 ?_ ?_
     ·refine oy 3 hb_4 rfl ?_
      exact raT hS10
     ·refine oy 3 hb_4 rfl ?_
      exact raT hS11
    ·refine ra2 2 7 ?_ ?_
     ·refine oy 3 hb_4 rfl ?_
      exact raT hS12
     ·refine oy 3 hb_4 rfl ?_
      exact raT hS11
    ·refine ra2 3 7 ?_ ?_
     ·refine oy 3 hb_4 rfl ?_
      exact raT hS12
     ·refine oy 3 hb_4 rfl ?_
      exact raT hS10
    ·refine ra2 6 8 ?_ ?_
     ·refine oP rfl hb_4 (cO 3 (Y3a p0 p2 p3 x9 x11 hx11) ⟨rfl,?_⟩)
      exact raT hS9
     ·refine oy 3 hb_4 rfl ?_
      exact raE hS7
    ·refine ra2 6 7 ?_ ?_
     ·refine oP rfl hb_4 (cO 3 (Y3a p0 p2 p3 x9 x11 hx11) ⟨rfl,?_⟩)
      exact raT hS8
     ·refine oy 3 hb_4 rfl ?_
      exact raT hS7
    ·refine ra1 2 (oy 3 hb_4 rfl ?_)
     exact raT hS7
    ·refine ra1 3 (oy 3 hb_4 rfl ?_)
     exact raT hS7
    ·refine ra1 8 (oy 4 hb_4 rfl ?_)
     exact raE hS6
    ·refine ra1 7 (oy 4 hb_4 rfl ?_)
     exact raT hS6
    ·refine ra1 6 (oP rfl hb_4 (cO 3 (Y3a p0 p2 p3 x9 x11 hx11) ⟨rfl,?_⟩))
     exact raT hS6
    refine ra1 11 (oP rfl hb_4 (cO 4 (crossref_AllowedOf_c p0 p2 p3 x9 x12 hx12) ⟨rfl,(ra1 12 (oP rfl hb_4 (cF (slices_Equal_Move_c x11 x12 x13 hx13) ⟨rfl,(r0 13 rfl (Qna (v:=.bool x13) rfl hb_4 rfl (rq [14] 0 (RA.done (by decide +kernel) ?_))))⟩)))⟩))
    exact T.weakR (hK () trivial) (Weak.mkN [] [] (by decide) (Qla _) rfl ⟨Q6a ((congrArg (fun p=>p) (Option.some.inj hz)).symm),trivial⟩ (Qxa))
   replace hz:=ite_F hz hb_4
   refine T.drawn mixed (k:=15) rfl (ra1 0 (oO rfl (cF (crosslaw_trailed_c x10 hx10) ⟨rfl,(rq [1] 13 (r2 2 rfl hb_4 (r2 3 rfl hb_4 (r2 4 rfl hb_4 (r2 5 rfl hb_4 (r2 6 rfl hb_4 (r2 7 rfl hb_4 ?_)))))))⟩)))
   refine r2 8 rfl hb_4 (r2 9 rfl hb_4 (r2 10 rfl hb_4 (r2 11 rfl hb_4 (r2 12 rfl hb_4 (r0 13 rfl (Qia (v:=.bool false) rfl hb_4 rfl (rq [14] 0 (RA.done (by decide +kernel) ?_))))))))
   exact T.weakR (hK () trivial) (Weak.mkN [] [] (by decide) (Qla _) rfl ⟨Q6a ((congrArg (fun p=>p) (Option.some.inj hz)).symm),trivial⟩ (Qxa))
  refine T.region (go 3 2 (sO (cF (crossref_CheckState_c p0 p1 p2 x1 hx1) ⟨rfl,(go 2 2 ?_)⟩)))
  rcases Qha (x1 != 0) with hb_1 | hb_1
  ·replace hz:=ite_T hz hb_1
   refine sN hb_1 (sN hb_1 (sN hb_1 (sN hb_1 (sQ (Qna (v:=.bool true) rfl hb_1 rfl (RS.nil ?_))))))
   exact T.sub (hK () trivial) ⟨rfl,rfl,rfl,rfl,(congrArg AV.bool ((congrArg (fun p=>p) (Option.some.inj hz)).symm)).symm,trivial⟩
  replace hz:=ite_F hz hb_1
  obtain ⟨x2,hx2,hz⟩:=bind_some hz
  refine yg 2 hb_1 (yg 2 hb_1 (yO hb_1 (cF (crossref_CheckChoices_c p0 p3 x2 hx2) ⟨rfl,(yg 2 hb_1 (sQ (Qia (v:=.bool (x2 != 0)) rfl hb_1 rfl (RS.nil ?_))))⟩)))
  exact T.sub (hK () trivial) ⟨rfl,rfl,rfl,rfl,(congrArg AV.bool ((congrArg (fun p=>p) (Option.some.inj hz)).symm)).symm,trivial⟩
end Go.Proofs.YtfbmoockopakjaaGreat
namespace Go.Proofs.YtfbmoockopakjaaGreat
open Go.ChangeShapes Go.WideShapes Go.ChangeAt Go.RowKit
set_option linter.unusedVariables false
set_option linter.unusedSimpArgs false
theorem list_choose {α:Type} {p:Nat→α→Prop}:∀ n:Nat,(∀ i,i<n→∃ x,p i x)→∃ l:List α,l.length=n∧∀ (i:Nat) x,l[i]?=some x→p i x
  | 0,_=>⟨[],rfl,fun i x h=>by simp at h⟩
  | n + 1,h=>by
    obtain ⟨l,hl,hp⟩:=list_choose n (fun i hi=>h i (by omega))
    obtain ⟨y,hy⟩:=h n (by omega)
    refine ⟨l++[y],by simp [hl],fun i x hx=>?_⟩
    rw [List.getElem?_append] at hx
    split at hx
    · exact hp i x hx
    · have:i=n:=by
        have:=(List.getElem?_eq_some_iff.1 hx).1
        simp at this;omega
      subst this
      simp [hl] at hx
      subst hx;exact hy
theorem bulk_one {H:Type} (d:DataW H):1≤Rows.uptoBulk d:=by
  cases d with
  | lit l=>cases l<;>simp [Rows.uptoBulk]
  | _=>simp [Rows.uptoBulk]
theorem bulk_sum {H α:Type} (m:α→Nat):∀ (l:List α) (ds:List (DataW H)),l.length=ds.length→(∀ (i:Nat) x d,l[i]?=some x→ds[i]?=some d→m x≤Rows.uptoBulk d)→(l.map m).sum≤Rows.uptoBulkAll ds
  | [],[],_,_=>by simp
  | [],_::_,h,_=>by simp at h
  | _::_,[],h,_=>by simp at h
  | x::l,d::ds,h,hp=>by
    have h0:=hp 0 x d rfl rfl
    have h1:=bulk_sum m l ds (by simpa using h) (fun i y e hy he=>hp (i+1) y e (by simpa using hy) (by simpa using he))
    simp only [List.map_cons,List.sum_cons,Rows.uptoBulkAll]
    omega
structure Opn (P:Program) (t:TypeId) {α:Type} (en:α→List AV) (good:α→Prop) (m:α→Nat):Prop where
  opn:∀ {H:Type} {enc:TypeId × Value→H} {W:World} {fuel:Nat} {cs:List Value} {x:DataW H × List MemPlace},DataW.trod enc P W 0 (fun _=>true) true fuel t cs=some x →
    ∃ a,RelL [] W (fun b=>b<W.heap.size) (en a) cs∧(∀ u,u∈cs→u.oneCell'=true)∧good a∧m a≤Rows.uptoBulk x.1
theorem Opn.map {P:Program} {t:TypeId} {α β:Type} {en:α→List AV} {good:α→Prop} {m:α→Nat} (h:Opn P t en good m) (f:α→β) {en':β→List AV} {good':β→Prop} {m':β→Nat}
    (he:∀ a,en' (f a)=en a) (hg:∀ a,good a→good' (f a)) (hm:∀ a,m' (f a)≤m a):Opn P t en' good' m' :=
  ⟨fun hx=>by
    obtain ⟨a,h1,h2,h3,h4⟩:=h.opn hx
    exact ⟨f a,by rw [he];exact h1,h2,hg a h3,Nat.le_trans (hm a) h4⟩⟩
theorem relL_one {σ:List Value} {w:World} {F:Nat→Prop} {a:AV} {v:Value} (h:Rel σ w F a v):RelL σ w F [a] [v]:=.cons h .nil
theorem Opn.bool {P:Program} {t:TypeId} (ht:P.underlying t=some .bool):Opn P t (fun b:Bool=>[.bool b]) (fun _=>True) (fun _=>1) :=
  ⟨fun hx=>by
    obtain ⟨b,rfl,rfl⟩:=DataW.trod_bool ht hx
    exact ⟨b,relL_one (.bool b),by simp [Value.oneCell'],trivial,bulk_one _⟩⟩
theorem Opn.int {P:Program} {t:TypeId} {k:IntKind} (ht:P.underlying t=some (.int k)):Opn P t (fun n:Int=>[.int k n]) (fun n=>k.min≤n∧n≤k.max) (fun _=>1) :=
  ⟨fun hx=>by
    obtain ⟨n,rfl,rfl,hw⟩:=DataW.trod_int ht hx
    refine ⟨n,relL_one (.int k n),by simp [Value.oneCell'],?_,bulk_one _⟩
    simpa only [Lit.wf,Bool.and_eq_true,decide_eq_true_eq] using hw⟩
theorem Opn.str {P:Program} {t:TypeId} (ht:P.underlying t=some .string):Opn P t (fun s:List UInt8=>[.str s]) (fun s=>s.length≤maxLen) (fun s=>s.length+1) :=
  ⟨fun hx=>by
    obtain ⟨s,rfl,rfl,hw⟩:=DataW.trod_string ht hx
    refine ⟨s.data.toList,relL_one (by simpa using Rel.str s.data.toList),by simp [Value.oneCell'],?_,by simp [Rows.uptoBulk]⟩
    have e:s.data.toList.length=s.size:=by rw [Array.length_toList];rfl
    omega⟩
theorem Opn.slice {P:Program} {t e:TypeId} {α:Type} {en:α→List AV} {good:α→Prop} {m:α→Nat} {size:Nat} (ht:P.underlying t=some (.slice e)) (hc:P.cellsOf e=size+1) (h:Opn P e en good m) :
    Opn P t (fun l:List α=>[.sl (l.map en)]) (fun l=>∀ a,a∈l→good a) (fun l=>(l.map m).sum+1):=by
  refine ⟨fun {H enc W fuel cs x} hx=>?_⟩
  rcases DataW.trod_slice ht hx with ⟨rfl,rfl⟩ | ⟨a,len,cap,elems,rest,n,_,rfl,rfl,hb,hl,hm,hlen,hel,hsp,hns⟩
  · exact ⟨[],relL_one .slNil,by simp [Value.oneCell'],by simp,by simp [Rows.uptoBulk]⟩
  rw [hc] at hel
  have hone:∀ i,i<len→∃ y:α × List Value × (DataW H × List MemPlace),elems[i]?=some y.2.2∧W.cells? 0 (a.add (i*(size+1))) (size+1)=some y.2.1∧RelL [] W (fun b=>b<W.heap.size) (en y.1) y.2.1∧(∀ u,u∈y.2.1→u.oneCell'=true)∧good y.1∧m y.1≤Rows.uptoBulk y.2.2.1:=by
    intro i hi
    have h1:=hel i hi
    rw [List.getElem?_eq_getElem (by omega:i<elems.length)] at h1
    obtain ⟨cs',hcs,ht'⟩:=Option.bind_eq_some_iff.1 h1
    obtain ⟨y,g1,g2,g3,g4⟩:=h.opn ht'
    exact ⟨(y,cs',elems[i]),List.getElem?_eq_getElem (by omega),hcs,g1,g2,g3,g4⟩
  obtain ⟨ys,hys,hp⟩:=list_choose len hone
  refine ⟨ys.map (·.1),relL_one ?_,by simp [Value.oneCell'],?_,?_⟩
  · have hrl:((ys.map (·.1)).map en).length=len:=by simp [hys]
    have key:Rel [] W (fun b=>b<W.heap.size) (.sl ((ys.map (·.1)).map en)) (.slice (some a) ((ys.map (·.1)).map en).length cap):=by
      refine .sl _ (size+1) a cap (fun i j=>((ys[i]?).bind (fun y=>y.2.1[j]?)).getD .nilIface) (fun hne=>?_) (by omega) hm (fun row hrow=>?_) (fun i j hi hj=>?_) (fun i j hi hj=>?_) (fun i row j x hi hj=>?_)
      · have hpos:0<len:=by
          rcases Nat.eq_zero_or_pos len with h0 | h0
          · exfalso;apply hne;apply List.eq_nil_of_length_eq_zero;omega
          · exact h0
        obtain ⟨y,hy⟩:∃ y,ys[0]?=some y:=⟨ys[0],List.getElem?_eq_getElem (by omega)⟩
        have:=World.cells?_block (hp 0 y hy).2.1 (by omega)
        rwa [Jkb] at this
      · simp only [List.map_map,List.mem_map] at hrow
        obtain ⟨y,hy,rfl⟩:=hrow
        obtain ⟨i,hi,hi'⟩:=List.getElem_of_mem hy
        have h1:=hp i y (by rw [List.getElem?_eq_getElem hi,hi'])
        have h2:=(World.cells?_some h1.2.1).2.1
        have h3:=h1.2.2.1.1
        simp only [Function.comp];omega
      · rw [hrl] at hi
        obtain ⟨y,hy⟩:∃ y,ys[i]?=some y:=⟨ys[i],List.getElem?_eq_getElem (by omega)⟩
        have h1:=hp i y hy
        have h2:=(World.cells?_some h1.2.1).2.1
        have h3:y.2.1[j]?=some y.2.1[j]:=List.getElem?_eq_getElem (by omega)
        simp only [hy,Option.bind_some,h3,Option.getD_some]
        exact h1.2.2.2.1 _ (List.getElem_mem _)
      · rw [hrl] at hi
        obtain ⟨y,hy⟩:∃ y,ys[i]?=some y:=⟨ys[i],List.getElem?_eq_getElem (by omega)⟩
        have h1:=hp i y hy
        have h2:=World.cells?_some h1.2.1
        have h3:y.2.1[j]?=some y.2.1[j]:=List.getElem?_eq_getElem (by omega)
        simp only [hy,Option.bind_some,h3,Option.getD_some]
        rw [← Qjb,h2.2.2 j hj,h3]
      · simp only [List.map_map,List.getElem?_map,Option.map_eq_some_iff] at hi
        obtain ⟨y,hy,rfl⟩:=hi
        have h1:=hp i y hy
        obtain ⟨v,hv,hr⟩:=h1.2.2.1.get hj
        simp only [hy,Option.bind_some,hv,Option.getD_some]
        exact hr
    rwa [hrl] at key
  · intro z hz
    simp only [List.mem_map] at hz
    obtain ⟨y,hy,rfl⟩:=hz
    obtain ⟨i,hi,hi'⟩:=List.getElem_of_mem hy
    exact (hp i y (by rw [List.getElem?_eq_getElem hi,hi'])).2.2.2.2.1
  · have:=bulk_sum m (ys.map (·.1)) (elems.map (·.1)) (by simp [hys,hlen]) (fun i z d hz hd=>by
      simp only [List.getElem?_map,Option.map_eq_some_iff] at hz hd
      obtain ⟨y,hy,rfl⟩:=hz
      obtain ⟨el,he,rfl⟩:=hd
      have h1:=hp i y hy
      rw [h1.1] at he
      obtain rfl:=Option.some.inj he
      exact h1.2.2.2.2.2)
    simp only [Rows.uptoBulk]
    omega
structure OpnF (P:Program) (fs:List Field) (off total:Nat) {α:Type} (en:α→List AV) (good:α→Prop) (m:α→Nat):Prop where
  opn:∀ {H:Type} {enc:TypeId × Value→H} {W:World} {fuel:Nat} {cs:List Value} {xs:List (DataW H × List MemPlace)},cs.length=total →
    xs.length=fs.length→(∀ (i:Nat) (f:Field),fs[i]?=some f→DataW.trod enc P W 0 (fun _=>true) true fuel f.type ((cs.drop f.offset).take (P.cellsOf f.type))=xs[i]?) →
    ∃ a,RelL [] W (fun b=>b<W.heap.size) (en a) (cs.drop off)∧(∀ u,u∈cs.drop off→u.oneCell'=true)∧good a∧m a≤Rows.uptoBulkAll (xs.map (·.1))
theorem OpnF.nil {P:Program} {total:Nat}:OpnF P [] total total (fun _:Unit=>[]) (fun _=>True) (fun _=>0) :=
  ⟨fun hl hx hp=>⟨(),by rw [List.drop_of_length_le (by omega)];exact .nil,by rw [List.drop_of_length_le (by omega)];simp,trivial,by simp⟩⟩
theorem OpnF.cons {P:Program} {f:Field} {fs:List Field} {off total:Nat} {α β:Type} {en1:α→List AV} {en2:β→List AV} {g1:α→Prop} {g2:β→Prop} {m1:α→Nat} {m2:β→Nat}
    (ho:f.offset=off) (c:Nat) (hc:P.cellsOf f.type=c) (h1:Opn P f.type en1 g1 m1) (h2:OpnF P fs (off+c) total en2 g2 m2) :
    OpnF P (f::fs) off total (fun p:α × β=>en1 p.1++en2 p.2) (fun p=>g1 p.1∧g2 p.2) (fun p=>m1 p.1+m2 p.2):=by
  refine ⟨fun {H enc W fuel cs xs} hl hx hp=>?_⟩
  match xs,hx with
  | x :: xs,hx =>
    have h0:=hp 0 f rfl
    simp only [List.getElem?_cons_zero] at h0
    subst ho;subst hc
    obtain ⟨a,a1,a2,a3,a4⟩:=h1.opn h0
    obtain ⟨b,b1,b2,b3,b4⟩:=h2.opn (xs:=xs) hl (by simpa using hx) (fun i f' hf=>by simpa using hp (i+1) f' (by simpa using hf))
    have hs:cs.drop f.offset=(cs.drop f.offset).take (P.cellsOf f.type)++cs.drop (f.offset+P.cellsOf f.type):=by
      rw [← List.drop_drop];exact (List.take_append_drop _ _).symm
    refine ⟨(a,b),?_,fun u hu=>?_,⟨a3,b3⟩,?_⟩
    · rw [hs];exact a1.append b1
    · rw [hs,List.mem_append] at hu
      exact hu.elim (a2 u) (b2 u)
    · simp only [List.map_cons,Rows.uptoBulkAll];omega
theorem Opn.struct {P:Program} {t:TypeId} {fs:Array Field} {total:Nat} {α:Type} {en:α→List AV} {good:α→Prop} {m:α→Nat} (ht:P.underlying t=some (.struct fs)) (hc:P.cellsOf t=total)
    (h:OpnF P fs.toList 0 total en good m):Opn P t en good m:=by
  refine ⟨fun {H enc W fuel cs x} hx=>?_⟩
  obtain ⟨xs,n,rfl,rfl,hl,hxl,hp⟩:=DataW.trod_struct ht hx
  obtain ⟨a,h1,h2,h3,h4⟩:=h.opn (enc:=enc) (W:=W) (fuel:=n) (cs:=cs) (xs:=xs) (by omega) (by simp [hxl]) (fun i f hf=>hp i f (by simpa using hf))
  exact ⟨a,by simpa using h1,by simpa using h2,h3,by simp only [Rows.uptoBulk];omega⟩
theorem Opn.arg {P:Program} {t:TypeId} {α:Type} {en:α→AV} {good:α→Prop} {m:α→Nat} (h:Opn P t (fun a=>[en a]) good m)
    (ht:(match P.underlying t with | some (.struct _) | some (.array _ _)=>false | _=>true)=true)
    {H:Type} {enc:TypeId × Value→H} {W:World} {base:Nat} {v:Value} {d:DataW H} {ps:List MemPlace} (hval:Value.okWide P W .any base t v) (hd:DataW.Trod enc P W 0 (fun _=>true) true t v d ps) :
    ∃ a,Rel [] W (fun b=>b<W.heap.size) (en a) v∧good a∧m a≤Rows.uptoBulk d:=by
  obtain ⟨fuel,hf⟩:=hd
  obtain ⟨a,h1,h2,h3,h4⟩:=h.opn hf
  have hv:v.cells=#[v]:=by
    cases v with
    | agg cs =>
      exfalso
      unfold Value.okWide at hval
      split at hval
      · rename_i e;rw [e] at ht;simp at ht
      · rename_i e;rw [e] at ht;simp at ht
      · unfold Cell.okWide at hval
        split at hval<;>simp_all [Cell.ok]
    | _=>rfl
  rw [hv] at h1
  exact ⟨a,h1.2 0 (en a) v rfl rfl,h3,h4⟩
theorem Opn.args {P:Program} {t:TypeId} {α:Type} {en:α→List AV} {good:α→Prop} {m:α→Nat} (h:Opn P t en good m)
    {fs:Array Field} (ht:P.underlying t=some (.struct fs))
    {H:Type} {enc:TypeId × Value→H} {W:World} {base:Nat} {v:Value} {d:DataW H} {ps:List MemPlace} (hval:Value.okWide P W .any base t v) (hd:DataW.Trod enc P W 0 (fun _=>true) true t v d ps) :
    ∃ a,Rel [] W (fun b=>b<W.heap.size) (.agg (en a)) v∧good a∧m a≤Rows.uptoBulk d:=by
  obtain ⟨fuel,hf⟩:=hd
  obtain ⟨a,h1,h2,h3,h4⟩:=h.opn hf
  unfold Value.okWide at hval
  rw [ht] at hval
  obtain ⟨cs,rfl,_,_⟩:=hval
  simp only [Value.cells] at h1 h2
  refine ⟨a,?_,h3,h4⟩
  have:=Rel.agg (σ:=[]) (w:=W) (F:=fun b=>b<W.heap.size) (en a) cs.toList h1.1 h2 h1.2
  simpa using this
theorem stays_all {H:Type} {enc:TypeId × Value→H} {P:Program} (hl:laidOutB P=true) {W W':World} (hb:Below W.heap.size W W') (sp:Nat→Bool) :
    ∀ {ts:List TypeId} {vs:List Value} {ds:List (DataW H)} {ps:List MemPlace},(ts.all fun t=>P.readableRec t && decide (t<P.types.size))=true→DataW.TrodAll enc P W 0 (fun _=>true) true ts vs ds ps →
      (∀ x∈ps,x.block<W.heap.size)→(∀ x∈ps,sp x.block=true)→DataW.TrodAll enc P W' 0 sp true ts vs ds ps
  | [],[],[],_,_,h,_,_=>h
  | [],_::_,_,_,_,h,_,_=>h.elim
  | [],[],_::_,_,_,h,_,_=>h.elim
  | _::_,[],_,_,_,h,_,_=>h.elim
  | _::_,_::_,[],_,_,h,_,_=>h.elim
  | t :: ts,v::vs,d::ds,ps,hr,h,hlt,hsp=>by
    obtain ⟨p,q,h1,h2,rfl⟩:=h
    simp only [List.all_cons,Bool.and_eq_true,decide_eq_true_eq] at hr
    exact ⟨p,q,WideElems.Trod_stays hl hr.1.1 hr.1.2 h1 (fun x hx=>hb.same (hlt x (by simp [hx]))) (fun x hx=>hsp x (by simp [hx])),
      stays_all hl hb sp hr.2 h2 (fun x hx=>hlt x (by simp [hx])) (fun x hx=>hsp x (by simp [hx])),rfl⟩
section
variable {H:Type} {enc:TypeId × Value→H} {P:Program}
theorem post_of_below {f:Func} {s:ChangeSpec} {apart fresh handsOn again:Bool} {W W':World} {args:Array Value} {v:Value} {ds gs:List (DataW H)} {before pa pv:List MemPlace}
    (hW:DataW.Whole enc P f.params.toList s.vars apart W args.toList ds gs before)
    (hres:∀ (b:Nat) (sp:Nat→Bool) (hd:Bool),DataW.TrodAll enc P W' b sp hd f.resultTypes.toList (v.resultList f.resultTypes.size) (s.fn H (ds++gs)).results [])
    (hargs:∀ sp:Nat→Bool,(∀ p∈before,sp p.block=true)→DataW.TrodAll enc P W' 0 sp true f.params.toList args.toList (s.fn H (ds++gs)).args pa)
    (hvars:∀ sp:Nat→Bool,(∀ p∈before,sp p.block=true)→DataW.TrodVars enc P W' sp s.vars (s.fn H (ds++gs)).vars pv)
    (hps:before=pa++pv) (hb:Below W.heap.size W W')
    (hok:∀ (j:Nat) (t:TypeId) (r:Value),f.resultTypes[j]?=some t→(v.resultList f.resultTypes.size)[j]?=some r→Value.okWide P W' .any 0 t r) :
    s.post enc P f apart fresh handsOn again W args v W':=by
  have hlt:∀ p∈before,p.block<W.heap.size:=fun p hp=>hW.lt p hp
  have hold:∀ p∈before,(fun b=>decide (b<W.heap.size)) p.block=true:=fun p hp=>by simpa using hlt p hp
  refine ⟨ds,gs,before,[],pa,pv,hW,hres _ _ _,hargs _ hold,hvars _ hold,World.keptBut_mono (fun p hp=>⟨hp,?_⟩) (hb.frame (·∈before)),fun _=>?_⟩
  · rw [hps,List.mem_append] at hp
    exact Or.inr hp
  · obtain ⟨_,_,_,_,_,hz,hn⟩:=hW
    refine ⟨hok,_,_,([]++pa)++pv,⟨[]++pa,pv,trodAll_append (hargs _ (fun _ _=>rfl)) (hres _ _ _),hvars _ (fun _ _=>rfl),rfl,?_,?_⟩,?_⟩
    · intro b off hp
      have hin:MemPlace.cell b off∈before:=by rw [hps];simpa using hp
      rw [hb.frozen (hlt _ hin)]
      exact hz b off hin
    · intro ha
      have:=hn ha
      rw [hps] at this
      simpa using this
    · intro p hp _
      rw [hps]
      simpa using hp
end
theorem law_post {H:Type} {enc:TypeId × Value→H} {P:Program} {id:FuncId} {f:Func} {s:ChangeSpec} {W:World} {args:Array Value} {ds gs:List (DataW H)} {before:List MemPlace} {av:List AV} {tb:TypeId}
    (hl:laidOutB P=true) (htb:P.underlying tb=some .bool) (hres:f.resultTypes=#[tb]) (hr:(f.params.toList.all fun t=>P.readableRec t && decide (t<P.types.size))=true) (hvars:s.vars=[])
    (hfn:(s.fn H (ds++gs)).results=[.lit (.bool true)]) (hfa:(s.fn H (ds++gs)).args=ds) (hfv:(s.fn H (ds++gs)).vars=[])
    (hW:DataW.Whole enc P f.params.toList s.vars false W args.toList ds gs before)
    (hrel:RelL [] W (fun b=>b<W.heap.size) av args.toList) (hc:ACalls P id av [] fun r aw'=>r=.bool true∧aw'=[]) :
    Calls P id args W fun e W'=>∃ v,e=.returned v∧s.post enc P f false true false false W args v W':=by
  have hs:Sim [] [] W (fun b=>b<W.heap.size):=⟨rfl,fun k o v h=>by simp at h,fun k k' o o' v v' g _ h=>by simp at h,fun b h=>h⟩
  refine (hc.2 W _ [] args.toList hs hrel).mono fun e W' hx=>?_
  obtain ⟨v,r,aw',σ',F',he,⟨hr1,hr2⟩,_,hv,hm⟩:=hx
  subst hr1;subst hr2
  cases hv
  have hb:Below W.heap.size W W':=⟨hm.os,hm.tape,hm.output,hm.size,fun k hk=>hm.keep k hk (fun ⟨k',o,v,ho,_⟩=>by simp at ho)⟩
  refine ⟨.bool true,he,?_⟩
  have hW':=hW
  obtain ⟨p,q,hA,hV,rfl,hfz,hnd⟩:=hW'
  rw [hvars] at hV
  obtain ⟨rfl,rfl⟩:=trodVars_none hV
  have hlt:∀ x∈p++[],x.block<W.heap.size:=fun x hx=>hW.lt x hx
  refine post_of_below (pa:=p) (pv:=[]) hW (fun b sp hd=>?_) (fun sp hsp=>?_) (fun sp hsp=>?_) rfl hb (ok_one hres rfl (okWide_bool_mk htb _))
  · rw [hfn,hres]
    exact trodAll_cons_mk (shut_bool htb _) trodAll_mk0
  · rw [hfa]
    exact stays_all hl hb sp hr hA (fun x hx=>hlt x (by simpa using hx)) (fun x hx=>hsp x (by simpa using hx))
  · rw [hfv,hvars]
    exact rfl
end Go.Proofs.YtfbmoockopakjaaGreat
namespace Go.Proofs.YtfbmoockopakjaaGreat
set_option linter.unusedVariables false
set_option linter.unusedSimpArgs false
def gI (n:Int):Prop := -9223372036854775808≤n∧n≤9223372036854775807
def gL {α:Type} (g:α→Prop) (l:List α):Prop:=∀ a,a∈l→g a
def gItem (a:Item):Prop:=gI a.Key∧gI a.Val∧gI a.Dep
def gNode (a:Node):Prop:=gI a.Kind∧gI a.A∧gL gI a.In∧gL gI a.Out
def gNet (a:Net):Prop:=gL gNode a.Nodes∧gI a.Rings∧gI a.Room
def gKeyed (a:Keyed):Prop:=gI a.Key∧gI a.N
def gMemory (a:Memory):Prop:=gI a.Sum∧gL gKeyed a.Keys∧gI a.Dep
def gChoice (a:Choice):Prop:=gI a.Node∧gI a.Lane
def gState (a:State):Prop:=gL gI a.At∧gL (gL gItem) a.Rings∧gL gMemory a.Memory∧gL gChoice a.Choices∧gL gItem a.Out
def mI (n:Int):Nat:=1
def mB (b:Bool):Nat:=1
def mL {α:Type} (m:α→Nat) (l:List α):Nat:=(l.map m).sum+1
def mItem (a:Item):Nat:=3
def mNode (a:Node):Nat:=mL mI a.In+mL mI a.Out+2
def mNet (a:Net):Nat:=mL mNode a.Nodes+2
def mKeyed (a:Keyed):Nat:=2
def mMemory (a:Memory):Nat:=mL mKeyed a.Keys+2
def mChoice (a:Choice):Nat:=2
def mState (a:State):Nat:=mL mI a.At+mL (mL mItem) a.Rings+mL mMemory a.Memory+mL mChoice a.Choices+mL mItem a.Out
theorem len_le {α:Type} {m:α→Nat} (h:∀ a,1≤m a):∀ l:List α,l.length≤mL m l
  | []=>by simp [mL]
  | a::l=>by
    have:=len_le h l
    have:=h a
    simp [mL] at *;omega
theorem sum_le {α:Type} {m:α→Nat}:∀ {l:List α} {a:α},a∈l→m a≤mL m l
  | b :: l,a,h=>by
    rcases List.mem_cons.1 h with rfl | h
    · simp [mL];omega
    · have:=sum_le (m:=m) h
      simp [mL] at *;omega
theorem Yqa {n:Int} (h0 : -9223372036854775808≤n) (h1:n≤9223372036854775807):IntKind.i64.wrap n=n:=IntWalk.i64_in n ⟨h0,h1⟩
theorem Zna {k:Nat} (h:k<4611686018427387904):IntKind.i64.wrap ((k:Int)+1)=((k+1:Nat):Int):=by rw [Yqa (by omega) (by omega)];rfl
theorem J8a {α:Type} {xs:List α} {k:Nat} {x:α} (h:xs[k]?=some x):idx xs (k:Int)=some x:=by
  unfold idx;rw [if_pos (by omega)];simpa using h
theorem ixN_at {α:Type} {xs:List α} {k:Nat} (h:k<xs.length):ixN xs (k:Int)=some k:=by
  unfold ixN;rw [if_pos (by omega)];simp
theorem Qnb {α:Type} {xs ys:List α} (h:xs.length+ys.length≤1099511627776):app xs ys=some (xs++ys):=by unfold app;rw [if_pos h]
theorem sub_ok {α:Type} {xs:List α} {i j:Nat} (h:i≤j) (h2:j≤xs.length):sub xs (i:Int) (j:Int)=some ((xs.take j).drop i):=by
  unfold sub;rw [if_pos (by omega)];simp
theorem sub_0 {α:Type} {xs:List α} {j:Nat} (h2:j≤xs.length):sub xs 0 (j:Int)=some (xs.take j):=by
  have:=sub_ok (xs:=xs) (i:=0) (j:=j) (by omega) h2
  simpa using this
theorem sub_end {α:Type} {xs:List α} {i:Nat} (h2:i≤xs.length):sub xs (i:Int) (xs.length:Int)=some (xs.drop i):=by
  have:=sub_ok (xs:=xs) (i:=i) (j:=xs.length) h2 (Nat.le_refl _)
  simpa using this
def foldE {α σ ρ:Type} (f:Nat→α→σ→Option (σ ⊕ ρ)) (fin:σ→Option ρ):Nat→List α→σ→Option ρ
  | _,[],st=>fin st
  | k,x::xs,st=>match f k x st with
    | none=>none
    | some (.inl st')=>foldE f fin (k+1) xs st'
    | some (.inr r)=>some r
theorem iter_list {α σ ρ τ:Type} (xs:List α) (hx:xs.length≤1099511627776) (e:Nat→σ→τ) {body:τ→Option (τ ⊕ ρ)} (f:Nat→α→σ→Option (σ ⊕ ρ)) (fin:σ→Option ρ)
    (h1 : ∀ (k:Nat) x st,xs[k]?=some x→k<xs.length→idx xs (k:Int)=some x→decide ((k:Int)<(xs.length:Int))=true→IntKind.i64.wrap ((k:Int)+1)=((k+1:Nat):Int) →
      body (e k st)=match f k x st with
        | none=>none
        | some (.inl st')=>some (.inl (e (k+1) st'))
        | some (.inr r)=>some (.inr r))
    (h2:∀ st,decide ((xs.length:Int)<(xs.length:Int))=false→body (e xs.length st)=(fin st).map .inr) :
    ∀ (n k:Nat) st,k+n=xs.length→iter body (e k st)=foldE f fin k (xs.drop k) st
  | 0,k,st,h=>by
    have hk:k=xs.length:=by omega
    subst hk
    rw [Qya,h2 st (by simp),List.drop_length]
    unfold foldE
    cases fin st<;>rfl
  | n + 1,k,st,h=>by
    have hlt:k<xs.length:=by omega
    have hg:xs[k]?=some xs[k]:=List.getElem?_eq_getElem hlt
    rw [Qya,h1 k xs[k] st hg hlt (J8a hg) (by simp;omega) (Zna (by omega)),List.drop_eq_getElem_cons hlt]
    unfold foldE
    cases f k xs[k] st with
    | none=>rfl
    | some v =>
      cases v with
      | inl st'=>exact iter_list xs hx e f fin h1 h2 n (k+1) st' (by omega)
      | inr r=>rfl
theorem iter_list0 {α σ ρ τ:Type} (xs:List α) (hx:xs.length≤1099511627776) (e:Nat→σ→τ) {body:τ→Option (τ ⊕ ρ)} (f:Nat→α→σ→Option (σ ⊕ ρ)) (fin:σ→Option ρ) (st:σ)
    (h1 : ∀ (k:Nat) x st,xs[k]?=some x→k<xs.length→idx xs (k:Int)=some x→decide ((k:Int)<(xs.length:Int))=true→IntKind.i64.wrap ((k:Int)+1)=((k+1:Nat):Int) →
      body (e k st)=match f k x st with
        | none=>none
        | some (.inl st')=>some (.inl (e (k+1) st'))
        | some (.inr r)=>some (.inr r))
    (h2:∀ st,decide ((xs.length:Int)<(xs.length:Int))=false→body (e xs.length st)=(fin st).map .inr):iter body (e 0 st)=foldE f fin 0 xs st:=by
  have:=iter_list xs hx e f fin h1 h2 xs.length 0 st (by omega)
  simpa using this
theorem iter_inv {α β:Type} {body:α→Option (α ⊕ β)} (I:α→Prop) (μ:α→Nat) (R:β→Prop) (h:∀ s,I s→(∃ s',body s=some (.inl s')∧I s'∧μ s' < μ s)∨∃ r,body s=some (.inr r)∧R r):∀ (n:Nat) s,μ s≤n→I s→∃ r,iter body s=some r∧R r
  | n,s,hn,hs=>by
    rcases h s hs with ⟨s',h1,h2,h3⟩ | ⟨r,h1,h2⟩
    · match n,hn with
      | 0,hn=>omega
      | n+1,hn =>
        obtain ⟨r,h4,h5⟩:=iter_inv I μ R h n s' (by omega) h2
        exact ⟨r,by rw [Qya,h1];exact h4,h5⟩
    · exact ⟨r,by rw [Qya,h1],h2⟩
theorem equal_loop {α:Type} [DecidableEq α] (a b:List α) (ha:a.length≤1099511627776) (hl:a.length=b.length) {body:Int→Option (Int ⊕ Bool)}
    (h1:∀ (k:Nat) x y,decide ((k:Int)<(a.length:Int))=true→idx a (k:Int)=some x→idx b (k:Int)=some y→IntKind.i64.wrap ((k:Int)+1)=((k+1:Nat):Int)→body k=if x=y then some (.inl ((k+1:Nat):Int)) else some (.inr false))
    (h2:decide ((a.length:Int)<(a.length:Int))=false→body a.length=some (.inr true)):iter body 0=some (decide (a=b)):=by
  have key:∀ (n k:Nat),k+n=a.length→iter body k=some (decide (a.drop k=b.drop k)):=by
    intro n
    induction n with
    | zero =>
      intro k hk
      have hk:k=a.length:=by omega
      subst hk
      rw [Qya,h2 (by simp),List.drop_length,List.drop_of_length_le (by omega)]
      simp
    | succ n ih =>
      intro k hk
      have hlt:k<a.length:=by omega
      have hlt2:k<b.length:=by omega
      have hd:(a.drop k=b.drop k) ↔ (a[k]=b[k]∧a.drop (k+1)=b.drop (k+1)):=by
        have ea:=List.drop_eq_getElem_cons hlt
        have eb:=List.drop_eq_getElem_cons hlt2
        constructor
        · intro h;rw [ea,eb] at h;exact List.cons.inj h
        · rintro ⟨h1,h2⟩;rw [ea,eb,h1,h2]
      rw [Qya,h1 k a[k] b[k] (by simp;omega) (J8a (List.getElem?_eq_getElem hlt)) (J8a (List.getElem?_eq_getElem hlt2)) (Zna (by omega))]
      by_cases hxy:a[k]=b[k]
      · rw [if_pos hxy]
        simp only
        rw [ih (k+1) (by omega)]
        simp [hd,hxy]
      · rw [if_neg hxy]
        simp [hd,hxy]
  have:=key a.length 0 (by omega)
  simpa using this
end Go.Proofs.YtfbmoockopakjaaGreat
namespace Go.Proofs.YtfbmoockopakjaaGreat
open Go.RowKit
set_option linter.unusedVariables false
set_option linter.unusedSimpArgs false
theorem on3:Opn Tryz.prog 3 (fun n:Int=>[.int .i64 n]) gI mI :=
  (Opn.int Tryz.underlying3).map id (fun _=>rfl) (fun a h=>⟨h.1,h.2⟩) (fun _=>Nat.le_refl _)
theorem on26:Opn Tryz.prog 26 (fun l=>[.sl (l.map encI)]) (gL gI) (mL mI) :=
  (Opn.slice (size:=0) Tryz.underlying26 Ty.c3 on3).map id (fun _=>rfl) (fun a h=>h) (fun _=>Nat.le_refl _)
theorem on57:Opn Tryz.prog 57 Qja gNode mNode :=
  (Opn.struct Tryz.underlying57 Ty.c57 (OpnF.cons rfl 1 Ty.c3 on3 (OpnF.cons rfl 1 Ty.c3 on3 (OpnF.cons rfl 1 Ty.c26 on26 (OpnF.cons rfl 1 Ty.c26 on26 OpnF.nil))))).map (fun p=>(⟨p.1,p.2.1,p.2.2.1,p.2.2.2.1⟩:Node)) (fun p=>rfl) (fun p h=>⟨h.1,h.2.1,h.2.2.1,h.2.2.2.1⟩) (fun p=>by simp only [mNode,mI,mB];omega)
theorem on22:Opn Tryz.prog 22 (fun l=>[.sl (l.map Qja)]) (gL gNode) (mL mNode) :=
  (Opn.slice (size:=3) Tryz.underlying22 Ty.c57 on57).map id (fun _=>rfl) (fun a h=>h) (fun _=>Nat.le_refl _)
theorem on24:Opn Tryz.prog 24 Qma gNet mNet :=
  (Opn.struct Tryz.underlying24 Ty.c24 (OpnF.cons rfl 1 Ty.c22 on22 (OpnF.cons rfl 1 Ty.c3 on3 (OpnF.cons rfl 1 Ty.c3 on3 OpnF.nil)))).map (fun p=>(⟨p.1,p.2.1,p.2.2.1⟩:Net)) (fun p=>rfl) (fun p h=>⟨h.1,h.2.1,h.2.2.1⟩) (fun p=>by simp only [mNet,mI,mB];omega)
theorem on72:Opn Tryz.prog 72 Qaa gItem mItem :=
  (Opn.struct Tryz.underlying72 Ty.c72 (OpnF.cons rfl 1 Ty.c3 on3 (OpnF.cons rfl 1 Ty.c3 on3 (OpnF.cons rfl 1 Ty.c3 on3 OpnF.nil)))).map (fun p=>(⟨p.1,p.2.1,p.2.2.1⟩:Item)) (fun p=>rfl) (fun p h=>⟨h.1,h.2.1,h.2.2.1⟩) (fun p=>by simp only [mItem,mI,mB];omega)
theorem on29:Opn Tryz.prog 29 (fun l=>[.sl (l.map Qaa)]) (gL gItem) (mL mItem) :=
  (Opn.slice (size:=2) Tryz.underlying29 Ty.c72 on72).map id (fun _=>rfl) (fun a h=>h) (fun _=>Nat.le_refl _)
theorem on25:Opn Tryz.prog 25 (fun l=>[.sl (l.map (encL Qaa))]) (gL (gL gItem)) (mL (mL mItem)) :=
  (Opn.slice (size:=0) Tryz.underlying25 Ty.c29 on29).map id (fun _=>rfl) (fun a h=>h) (fun _=>Nat.le_refl _)
theorem on97:Opn Tryz.prog 97 Qka gKeyed mKeyed :=
  (Opn.struct Tryz.underlying97 Ty.c97 (OpnF.cons rfl 1 Ty.c3 on3 (OpnF.cons rfl 1 Ty.c3 on3 OpnF.nil))).map (fun p=>(⟨p.1,p.2.1⟩:Keyed)) (fun p=>rfl) (fun p h=>⟨h.1,h.2.1⟩) (fun p=>by simp only [mKeyed,mI,mB];omega)
theorem on82:Opn Tryz.prog 82 (fun l=>[.sl (l.map Qka)]) (gL gKeyed) (mL mKeyed) :=
  (Opn.slice (size:=1) Tryz.underlying82 Ty.c97 on97).map id (fun _=>rfl) (fun a h=>h) (fun _=>Nat.le_refl _)
theorem on84:Opn Tryz.prog 84 Qca gMemory mMemory :=
  (Opn.struct Tryz.underlying84 Ty.c84 (OpnF.cons rfl 1 Ty.c3 on3 (OpnF.cons rfl 1 Ty.c82 on82 (OpnF.cons rfl 1 Ty.c3 on3 OpnF.nil)))).map (fun p=>(⟨p.1,p.2.1,p.2.2.1⟩:Memory)) (fun p=>rfl) (fun p h=>⟨h.1,h.2.1,h.2.2.1⟩) (fun p=>by simp only [mMemory,mI,mB];omega)
theorem on27:Opn Tryz.prog 27 (fun l=>[.sl (l.map Qca)]) (gL gMemory) (mL mMemory) :=
  (Opn.slice (size:=2) Tryz.underlying27 Ty.c84 on84).map id (fun _=>rfl) (fun a h=>h) (fun _=>Nat.le_refl _)
theorem on77:Opn Tryz.prog 77 Qba gChoice mChoice :=
  (Opn.struct Tryz.underlying77 Ty.c77 (OpnF.cons rfl 1 Ty.c3 on3 (OpnF.cons rfl 1 Ty.c3 on3 OpnF.nil))).map (fun p=>(⟨p.1,p.2.1⟩:Choice)) (fun p=>rfl) (fun p h=>⟨h.1,h.2.1⟩) (fun p=>by simp only [mChoice,mI,mB];omega)
theorem on28:Opn Tryz.prog 28 (fun l=>[.sl (l.map Qba)]) (gL gChoice) (mL mChoice) :=
  (Opn.slice (size:=1) Tryz.underlying28 Ty.c77 on77).map id (fun _=>rfl) (fun a h=>h) (fun _=>Nat.le_refl _)
theorem on31:Opn Tryz.prog 31 Qra gState mState :=
  (Opn.struct Tryz.underlying31 Ty.c31 (OpnF.cons rfl 1 Ty.c26 on26 (OpnF.cons rfl 1 Ty.c25 on25 (OpnF.cons rfl 1 Ty.c27 on27 (OpnF.cons rfl 1 Ty.c28 on28 (OpnF.cons rfl 1 Ty.c29 on29 OpnF.nil)))))).map (fun p=>(⟨p.1,p.2.1,p.2.2.1,p.2.2.2.1,p.2.2.2.2.1⟩:State)) (fun p=>rfl) (fun p h=>⟨h.1,h.2.1,h.2.2.1,h.2.2.2.1,h.2.2.2.2.1⟩) (fun p=>by simp only [mState,mI,mB];omega)
end Go.Proofs.YtfbmoockopakjaaGreat
namespace Go.Proofs.YtfbmoockopakjaaGreat
set_option linter.unusedVariables false
set_option linter.unusedSimpArgs false
def noEnds:Ends:=⟨-1, -1⟩
theorem rep_loop (R:Nat) (hR:R≤16):∀ (n k:Nat) (xs:List Ends),R - k≤n→1≤k→k≤R→xs.length=R→xs.take k=List.replicate k noEnds →
    iter (fun ss:Int × List Ends=>Jwa ss.1 ss.2) ((k:Int),xs)=some (List.replicate R noEnds)
  | n, k, xs,hn,h1,h2,hl,ht=>by
    rw [Qya]
    by_cases hk:k=R
    · subst hk
      unfold Jwa
      rw [if_neg (by simp [hl])]
      have:xs=List.replicate k noEnds:=by rw [← ht,List.take_of_length_le (by omega)]
      simp [this]
    · have hkR:k<R:=by omega
      have v1:vwok xs.length (k:Int) (xs.length:Int)=some ():=by unfold vwok;rw [if_pos (by omega)]
      have v2:vwok xs.length 0 (k:Int)=some ():=by unfold vwok;rw [if_pos (by omega)]
      have v3:vwok xs.length ((((k:Int)).toNat:Nat):Int) ((((k:Int).toNat:Nat):Int)+((((xs.length:Int)).toNat - (k:Int).toNat:Nat):Int))=some ():=by unfold vwok;rw [if_pos (by omega)]
      have v4:vwok xs.length ((((0:Int)).toNat:Nat):Int) ((((0:Int).toNat:Nat):Int)+(((k:Int).toNat - (0:Int).toNat:Nat):Int))=some ():=by unfold vwok;rw [if_pos (by simp;omega)]
      have hstep:Jwa (k:Int) xs=some (.inl (((k+min (R - k) k:Nat):Int),xs.take k++(xs.take k).take (R - k)++xs.drop (k+min (R - k) k))):=by
        unfold Jwa
        rw [if_pos (by simp;omega),v1,Option.bind_some,v2,Option.bind_some,v3,Option.bind_some,v4,Option.bind_some]
        have e1:IntKind.i64.wrap ((k:Int)+((min (((xs.length:Int)).toNat - (k:Int).toNat) ((k:Int).toNat - (0:Int).toNat):Nat):Int))=((k+min (R - k) k:Nat):Int):=by
          rw [Yqa (by omega) (by simp only [Int.toNat_natCast,Int.toNat_zero,hl];omega)]
          simp only [Int.toNat_natCast,Int.toNat_zero,hl];omega
        rw [e1]
        simp only [cpy,Int.toNat_natCast,Int.toNat_zero,hl,List.drop_zero,Nat.sub_zero,List.length_take]
        congr 5
        omega
      rw [hstep]
      simp only
      have hm:1≤min (R - k) k:=by omega
      match n,hn with
      | 0,hn=>omega
      | n+1,hn =>
        refine rep_loop R hR n (k+min (R - k) k) _ (by omega) (by omega) (by omega) (by simp;omega) ?_
        rw [ht,List.take_replicate]
        have e:(List.replicate k noEnds++List.replicate (min (R - k) k) noEnds).length=k+min (R - k) k:=by simp
        rw [← e,List.take_left,e]
        simp
theorem mul_lit (R:Nat) (hR:R≤16):math_bits_Mul (IntKind.u64.wrap (([(⟨(-1),(-1)⟩:Ends)]:List Ends).length:Int)) (IntKind.u64.wrap (R:Int))=some (0,(R:Int)):=by
  have:R=0∨R=1∨R=2∨R=3∨R=4∨R=5∨R=6∨R=7∨R=8∨R=9∨R=10∨R=11∨R=12∨R=13∨R=14∨R=15∨R=16:=by omega
  rcases this with rfl | rfl | rfl | rfl | rfl | rfl | rfl | rfl | rfl | rfl | rfl | rfl | rfl | rfl | rfl | rfl | rfl<;>rfl
theorem repeat_eq (R:Nat) (hR:R≤16):Yma ([(⟨(-1),(-1)⟩:Ends)]:List Ends) (R:Int)=some (List.replicate R noEnds):=by
  unfold Yma
  rw [if_neg (by simp),mul_lit R hR,Option.bind_some,if_neg (by simp;omega),Yqa (show -9223372036854775808≤(R:Int) by omega) (show (R:Int)≤9223372036854775807 by omega)]
  have hmk:mk (R:Int) (⟨0,0⟩:Ends)=some (List.replicate R ⟨0,0⟩):=by unfold mk;rw [if_pos (by omega)];rfl
  rw [hmk,Option.bind_some]
  simp only [List.length_replicate,List.length_singleton]
  by_cases h0:R=0
  · subst h0
    rw [Qya]
    unfold Jwa
    simp [cpy]
  · have e:min R 1=1:=by omega
    rw [e]
    have hc:cpy (List.replicate R (⟨0,0⟩:Ends)) 0 R [(⟨(-1),(-1)⟩:Ends)]=noEnds::(List.replicate R (⟨0,0⟩:Ends)).drop 1:=by
      unfold cpy
      have:([(⟨(-1),(-1)⟩:Ends)]:List Ends).take R=[⟨-1, -1⟩]:=List.take_of_length_le (by simp;omega)
      rw [this]
      simp [e,noEnds]
    rw [hc]
    exact rep_loop R hR R 1 _ (by omega) (by omega) (by omega) (by simp;omega) (by simp)
def arityN (k:Int):Option (Int × Int):=if k=1 then some (0,1) else if k=2∨k=3∨k=4 then some (1,1) else if k=5∨k=7 then some (1, -1) else if k=6 then some (-1,1) else if k=8 then some (1,0) else none
def fitsN (n:Nat) (want:Int):Bool:=decide ((n:Int)=want∨want<0∧0<n)
def badA (x:Node):Bool:=decide (x.A<0∨x.Kind=1∧4≤x.A∨x.Kind=2∧3<x.A∨x.Kind≠1∧x.Kind≠2∧x.A≠0)
def Q4b (x:Node):Int:=match arityN x.Kind with
  | none=>5
  | some (i,o)=>if (fitsN x.In.length i && fitsN x.Out.length o)=false then 4 else if badA x then 3 else 0
def takeN (R i:Int):List Int→List Ends→Int ⊕ List Ends
  | [],l=>.inr l
  | r::rs,l=>if r<0∨R≤r then .inl 3 else match l[r.toNat]? with
    | none=>.inl 99
    | some e=>if 0≤e.dst then .inl 6 else takeN R i rs (l.set r.toNat ⟨e.src,i⟩)
def giveN (R i:Int):List Int→List Ends→Int ⊕ List Ends
  | [],l=>.inr l
  | r::rs,l=>if r<0∨R≤r then .inl 3 else match l[r.toNat]? with
    | none=>.inl 99
    | some e=>if 0≤e.src then .inl 6 else giveN R i rs (l.set r.toNat ⟨i,e.dst⟩)
def oneN (R:Int) (i:Nat) (x:Node) (l:List Ends):Int ⊕ List Ends :=
  if Q4b x≠0 then .inl (Q4b x) else match takeN R i x.In l with
    | .inl e=>.inl e
    | .inr l1=>giveN R i x.Out l1
def nodesN (R:Int):Nat→List Node→Nat→List Ends→Int ⊕ (Nat × List Ends)
  | _,[],s,l=>.inr (s,l)
  | i,x::xs,s,l=>match oneN R i x l with
    | .inl e=>.inl e
    | .inr l1=>nodesN R (i+1) xs (if x.Kind=8 then s+1 else s) l1
def lookN (n:Net):Int ⊕ List Ends :=
  if n.Nodes.length<1∨12<n.Nodes.length∨n.Rings<0∨16<n.Rings then .inl 2
  else if n.Room<1∨6<n.Room then .inl 3
  else match nodesN n.Rings 0 n.Nodes 0 (List.replicate n.Rings.toNat noEnds) with
    | .inl e=>.inl e
    | .inr (s,l)=>if l.any (fun e=>decide (e.src<0∨e.dst<0)) then .inl 9 else if s≠1 then .inl 4 else .inr l
theorem takeN_len (R i:Int):∀ (rs:List Int) (l l1:List Ends),takeN R i rs l=.inr l1→l1.length=l.length
  | [],l,l1,h=>by cases h;rfl
  | r :: rs,l,l1,h=>by
    unfold takeN at h
    split at h
    · cases h
    · split at h
      · cases h
      · split at h
        · cases h
        · have:=takeN_len R i rs _ l1 h;simpa using this
theorem giveN_len (R i:Int):∀ (rs:List Int) (l l1:List Ends),giveN R i rs l=.inr l1→l1.length=l.length
  | [],l,l1,h=>by cases h;rfl
  | r :: rs,l,l1,h=>by
    unfold giveN at h
    split at h
    · cases h
    · split at h
      · cases h
      · split at h
        · cases h
        · have:=giveN_len R i rs _ l1 h;simpa using this
theorem oneN_len {R:Int} {i:Nat} {x:Node} {l l1:List Ends} (h:oneN R i x l=.inr l1):l1.length=l.length:=by
  unfold oneN at h
  split at h
  · cases h
  · split at h
    · cases h
    · rename_i l2 h2
      exact (giveN_len R i _ _ _ h).trans (takeN_len R i _ _ _ h2)
theorem arity_eq (k:Int):net_arity k=some (match arityN k with | some (i,o)=>(i,o,true) | none=>(0,0,false)):=by
  unfold net_arity Qwb Jmb arityN
  by_cases h1:k=1
  · subst h1;rfl
  by_cases h2:k=2
  · subst h2;rfl
  by_cases h3:k=3
  · subst h3;rfl
  by_cases h4:k=4
  · subst h4;rfl
  by_cases h5:k=5
  · subst h5;rfl
  by_cases h6:k=6
  · subst h6;rfl
  by_cases h7:k=7
  · subst h7;rfl
  by_cases h8:k=8
  · subst h8;rfl
  simp [h1,h2,h3,h4,h5,h6,h7,h8]
theorem fits_eq (n:Nat) (w:Int):net_fits (n:Int) w=some (fitsN n w):=by
  unfold net_fits fitsN
  congr 1
  rw [Bool.eq_iff_iff]
  simp
theorem look_s1 (n:Net) (s:Int) (i:Nat) (x:Node) (hR:n.Rings≤16) (k:Nat) (l:List Ends) (hlt:k<x.Out.length) (hx:x.Out.length≤1099511627776) (hl:(l.length:Int)=n.Rings) :
    Qrb n i x s k l=if x.Out[k]<0∨n.Rings≤x.Out[k] then some (.inr (.inr ([],3))) else match l[x.Out[k].toNat]? with
      | none=>none
      | some e=>if 0≤e.src then some (.inr (.inr ([],6))) else some (.inl (((k+1:Nat):Int),l.set x.Out[k].toNat ⟨i,e.dst⟩)):=by
  unfold Qrb
  rw [if_pos (by simp;omega),J8a (List.getElem?_eq_getElem hlt),Option.bind_some]
  by_cases hr:x.Out[k]<0∨n.Rings≤x.Out[k]
  · rw [if_pos (by simp;omega),if_pos hr];rfl
  · rw [if_neg (by simp;omega),if_neg hr]
    have hrl:x.Out[k].toNat<l.length:=by omega
    have hix:ixN l x.Out[k]=some x.Out[k].toNat:=by unfold ixN;rw [if_pos (by omega)]
    have hg:=List.getElem?_eq_getElem hrl
    simp only [hix,hg,Option.bind_some,Zna (show k<4611686018427387904 by omega)]
    by_cases he:0≤l[x.Out[k].toNat].src
    · rw [if_pos (by simp;omega),if_pos he];rfl
    · rw [if_neg (by simp;omega),if_neg he]
theorem look_s2 (n:Net) (s:Int) (i:Nat) (x:Node) (hR:n.Rings≤16) (k:Nat) (l:List Ends) (hlt:k<x.In.length) (hx:x.In.length≤1099511627776) (hl:(l.length:Int)=n.Rings) :
    Qpb n i x s k l=if x.In[k]<0∨n.Rings≤x.In[k] then some (.inr (.inr ([],3))) else match l[x.In[k].toNat]? with
      | none=>none
      | some e=>if 0≤e.dst then some (.inr (.inr ([],6))) else some (.inl (((k+1:Nat):Int),l.set x.In[k].toNat ⟨e.src,i⟩)):=by
  unfold Qpb
  rw [if_pos (by simp;omega),J8a (List.getElem?_eq_getElem hlt),Option.bind_some]
  by_cases hr:x.In[k]<0∨n.Rings≤x.In[k]
  · rw [if_pos (by simp;omega),if_pos hr];rfl
  · rw [if_neg (by simp;omega),if_neg hr]
    have hrl:x.In[k].toNat<l.length:=by omega
    have hix:ixN l x.In[k]=some x.In[k].toNat:=by unfold ixN;rw [if_pos (by omega)]
    have hg:=List.getElem?_eq_getElem hrl
    simp only [hix,hg,Option.bind_some,Zna (show k<4611686018427387904 by omega)]
    by_cases he:0≤l[x.In[k].toNat].dst
    · rw [if_pos (by simp;omega),if_pos he];rfl
    · rw [if_neg (by simp;omega),if_neg he]
theorem look_l1 (n:Net) (s:Int) (i:Nat) (x:Node) (hx:x.Out.length≤1099511627776) (hi:i≤12) (hR:n.Rings≤16) :
    ∀ (m k:Nat) (l:List Ends),k+m=x.Out.length→(l.length:Int)=n.Rings →
    iter (fun ss:Int × List Ends=>Qrb n i x s ss.1 ss.2) ((k:Int),l)=match giveN n.Rings i (x.Out.drop k) l with
      | .inl e=>some (.inr ([],e))
      | .inr l1=>some (.inl (s,((i+1:Nat):Int),l1))
  | 0,k,l,h,hl=>by
    have hk:k=x.Out.length:=by omega
    subst hk
    have:Qrb n i x s (x.Out.length:Int) l=some (.inr (.inl (s,((i+1:Nat):Int),l))):=by
      unfold Qrb
      rw [if_neg (by simp),Zna (by omega)];rfl
    rw [Qya,List.drop_length]
    simp only [this,giveN]
  | m + 1,k,l,h,hl=>by
    have hlt:k<x.Out.length:=by omega
    rw [Qya,List.drop_eq_getElem_cons hlt]
    simp only [giveN,look_s1 n s i x hR k l hlt hx hl]
    by_cases hr:x.Out[k]<0∨n.Rings≤x.Out[k]
    · simp only [if_pos hr]
    · simp only [if_neg hr]
      have hrl:x.Out[k].toNat<l.length:=by omega
      simp only [List.getElem?_eq_getElem hrl]
      by_cases he:0≤l[x.Out[k].toNat].src
      · simp only [if_pos he]
      · simp only [if_neg he]
        exact look_l1 n s i x hx hi hR m (k+1) _ (by omega) (by simpa using hl)
theorem look_l2 (n:Net) (s:Int) (i:Nat) (x:Node) (hx:x.Out.length≤1099511627776) (hx2:x.In.length≤1099511627776) (hi:i≤12) (hR:n.Rings≤16) :
    ∀ (m k:Nat) (l:List Ends),k+m=x.In.length→(l.length:Int)=n.Rings →
    iter (fun ss:Int × List Ends=>Qpb n i x s ss.1 ss.2) ((k:Int),l)=match (match takeN n.Rings i (x.In.drop k) l with | .inl e=>Sum.inl e | .inr l1=>giveN n.Rings i x.Out l1) with
      | .inl e=>some (.inr ([],e))
      | .inr l1=>some (.inl (s,((i+1:Nat):Int),l1))
  | 0,k,l,h,hl=>by
    have hk:k=x.In.length:=by omega
    subst hk
    have:=look_l1 n s i x hx hi hR x.Out.length 0 l (by omega) hl
    simp only [List.drop_zero,Int.natCast_zero] at this
    have h2:Qpb n i x s (x.In.length:Int) l=Option.map Sum.inr (match giveN n.Rings i x.Out l with | .inl e=>some (.inr ([],e)) | .inr l1=>some (.inl (s,((i+1:Nat):Int),l1))):=by
      unfold Qpb
      rw [if_neg (by simp)]
      rw [← this]
    rw [Qya,List.drop_length]
    simp only [h2,takeN]
    cases giveN n.Rings i x.Out l<;>rfl
  | m + 1,k,l,h,hl=>by
    have hlt:k<x.In.length:=by omega
    rw [Qya,List.drop_eq_getElem_cons hlt]
    simp only [takeN,look_s2 n s i x hR k l hlt hx2 hl]
    by_cases hr:x.In[k]<0∨n.Rings≤x.In[k]
    · simp only [if_pos hr]
    · simp only [if_neg hr]
      have hrl:x.In[k].toNat<l.length:=by omega
      simp only [List.getElem?_eq_getElem hrl]
      by_cases he:0≤l[x.In[k].toNat].dst
      · simp only [if_pos he]
      · simp only [if_neg he]
        exact look_l2 n s i x hx hx2 hi hR m (k+1) _ (by omega) (by simpa using hl)
theorem badA_eq (x:Node):((decide (x.A<0)) || (if (x.Kind==1)=true then ((decide (x.A ≥ 4)) || (if (x.Kind==2)=true then ((decide (x.A > 3)) || ((x.Kind != 1) && ((x.Kind != 2) && x.A != 0))) else ((x.Kind != 1) && ((x.Kind != 2) && x.A != 0)))) else (if (x.Kind==2)=true then ((decide (x.A > 3)) || ((x.Kind != 1) && ((x.Kind != 2) && x.A != 0))) else ((x.Kind != 1) && ((x.Kind != 2) && x.A != 0)))))=badA x:=by
  unfold badA
  by_cases h1:x.Kind=1
  · rw [Bool.eq_iff_iff];simp [h1]
  · by_cases h2:x.Kind=2
    · rw [Bool.eq_iff_iff];simp [h1,h2]
    · rw [Bool.eq_iff_iff];simp [h1,h2]
theorem look_l4 (s:Int) (l:List Ends) (hl:l.length≤16):iter (fun ss:Int=>Jib s l ss) 0=some (if l.any (fun e=>decide (e.src<0∨e.dst<0)) then ([],9) else if s≠1 then ([],4) else (l,0)):=by
  have:=iter_list0 (σ:=Unit) l (by omega) (fun k _=>(k:Int)) (body:=fun ss=>Jib s l ss)
    (fun k e _=>if e.src<0∨e.dst<0 then some (.inr ([],9)) else some (.inl ())) (fun _=>if s≠1 then some ([],4) else some (l,0)) ()
    (fun k e _ hk hlt _ h2 h3=>by
      unfold Jib
      rw [h2,ixN_at hlt,h3]
      simp only [if_true,Option.bind_some,hk]
      by_cases h:e.src<0∨e.dst<0
      · rw [if_pos (by simp;omega),if_pos h];rfl
      · rw [if_neg (by simp;omega),if_neg h])
    (fun _ h=>by
      unfold Jib;rw [h]
      by_cases hs:s=1<;>simp [hs])
  refine Eq.trans this ?_
  have key:∀ (ys:List Ends) (k:Nat),foldE (σ:=Unit) (ρ:=List Ends × Int) (fun k e _=>if e.src<0∨e.dst<0 then some (.inr ([],9)) else some (.inl ())) (fun _=>if s≠1 then some ([],4) else some (l,0)) k ys ()=some (if ys.any (fun e=>decide (e.src<0∨e.dst<0)) then ([],9) else if s≠1 then ([],4) else (l,0)):=by
    intro ys
    induction ys with
    | nil=>intro k;simp only [foldE,List.any_nil];by_cases hs:s=1<;>simp [hs]
    | cons y ys ih =>
      intro k
      unfold foldE
      by_cases h:y.src<0∨y.dst<0
      · rw [if_pos h];simp [h]
      · rw [if_neg h];simp only;rw [ih];simp [h]
  exact key l 0
theorem look_l5 (n:Net) (hn:n.Nodes.length≤12) (hR0:0≤n.Rings) (hR:n.Rings≤16) (hio:∀ x∈n.Nodes,x.In.length≤1099511627776∧x.Out.length≤1099511627776) :
    ∀ (m k s:Nat) (l:List Ends),k+m=n.Nodes.length→s≤k→(l.length:Int)=n.Rings →
    iter (fun ss:Int × Int × List Ends=>Qtb n ss.1 ss.2.1 ss.2.2) ((s:Int),(k:Int),l)=some (match nodesN n.Rings k (n.Nodes.drop k) s l with
      | .inl e=>([],e)
      | .inr (s,l)=>if l.any (fun e=>decide (e.src<0∨e.dst<0)) then ([],9) else if s≠1 then ([],4) else (l,0))
  | 0,k,s,l,h,hs,hl=>by
    have hk:k=n.Nodes.length:=by omega
    subst hk
    have h5:Qtb n s (n.Nodes.length:Int) l=some (.inr (if l.any (fun e=>decide (e.src<0∨e.dst<0)) then ([],9) else if (s:Int)≠1 then ([],4) else (l,0))):=by
      unfold Qtb
      rw [if_neg (by simp),look_l4 _ _ (by omega)];rfl
    have:((s:Int)≠1) ↔ (s≠1):=by omega
    rw [Qya,List.drop_length]
    simp only [h5,nodesN,this]
  | m + 1, k, s,l,h,hs,hl=>by
    have hlt:k<n.Nodes.length:=by omega
    have hmem:n.Nodes[k]∈n.Nodes:=List.getElem_mem hlt
    rw [Qya,List.drop_eq_getElem_cons hlt]
    simp only [nodesN]
    have step : Qtb n s k l=match oneN n.Rings k n.Nodes[k] l with
        | .inl e=>some (.inr ([],e))
        | .inr l1=>some (.inl (((if n.Nodes[k].Kind=8 then s+1 else s:Nat):Int),((k+1:Nat):Int),l1)):=by
      unfold Qtb
      rw [if_pos (by simp;omega),J8a (List.getElem?_eq_getElem hlt),Option.bind_some,arity_eq,Option.bind_some]
      generalize n.Nodes[k]=x at hmem
      unfold oneN Q4b
      cases ha:arityN x.Kind with
      | none=>simp
      | some io =>
        obtain ⟨i0,o0⟩:=io
        simp only [Bool.not_true,Bool.false_eq_true,if_false,fits_eq,Option.bind_some]
        have hfit:(if (!fitsN x.In.length i0)=true then some true else some (!fitsN x.Out.length o0))=some (!(fitsN x.In.length i0 && fitsN x.Out.length o0)):=by
          cases fitsN x.In.length i0<;>simp
        rw [hfit,Option.bind_some]
        by_cases hf:(fitsN x.In.length i0 && fitsN x.Out.length o0)=false
        · rw [if_pos (by simp [hf])]
          simp [hf]
        · have hf':(fitsN x.In.length i0 && fitsN x.Out.length o0)=true:=by simpa using hf
          rw [if_neg (by simp [hf']),badA_eq]
          simp only [hf',Bool.true_eq_false,if_false]
          by_cases hb:badA x=true
          · simp [hb]
          · simp only [hb,if_false,Bool.false_eq_true,ne_eq,not_true_eq_false]
            obtain ⟨h1,h2⟩:=hio x hmem
            have k3:∀ s':Int,Jhb n k l x s'=match (match takeN n.Rings k x.In l with | .inl e=>Sum.inl e | .inr l1=>giveN n.Rings k x.Out l1) with
                | .inl e=>some (.inr ([],e))
                | .inr l1=>some (.inl (s',((k+1:Nat):Int),l1)):=fun s'=>by
              unfold Jhb
              have:=look_l2 n s' k x h2 h1 (by omega) hR x.In.length 0 l (by omega) hl
              simpa using this
            by_cases h8:x.Kind=8
            · rw [if_pos (by simp [h8]),k3,Zna (by omega)]
              simp only [h8,if_true]
            · rw [if_neg (by simp [h8]),k3]
              simp only [h8,if_false]
    simp only [step]
    cases ho:oneN n.Rings k n.Nodes[k] l with
    | inl e=>rfl
    | inr l1 =>
      simp only
      exact look_l5 n hn hR0 hR hio m (k+1) _ l1 (by omega) (by split<;>omega) (by rw [oneN_len ho];exact hl)
theorem net_look_eq (n:Net) (hio:∀ x∈n.Nodes,x.In.length≤1099511627776∧x.Out.length≤1099511627776):net_look n=some (match lookN n with | .inl e=>([],e) | .inr l=>(l,0)):=by
  unfold net_look lookN
  by_cases h1:n.Nodes.length<1∨12<n.Nodes.length∨n.Rings<0∨16<n.Rings
  · rw [if_pos (by simp;omega),if_pos h1]
  rw [if_neg (by simp;omega),if_neg h1]
  by_cases h2:n.Room<1∨6<n.Room
  · rw [if_pos (by simp;omega),if_pos h2]
  rw [if_neg (by simp;omega),if_neg h2]
  have hRn:n.Rings=((n.Rings.toNat:Nat):Int):=by omega
  rw [hRn,repeat_eq _ (by omega),Option.bind_some,← hRn]
  have:=look_l5 n (by omega) (by omega) (by omega) hio n.Nodes.length 0 0 (List.replicate n.Rings.toNat noEnds) (by omega) (by omega) (by simp;omega)
  simp only [Int.natCast_zero,List.drop_zero] at this
  rw [this]
  cases nodesN n.Rings 0 n.Nodes 0 (List.replicate n.Rings.toNat noEnds) with
  | inl e=>rfl
  | inr q =>
    obtain ⟨s,l⟩:=q
    simp only
    split
    · rfl
    · split<;>rfl
end Go.Proofs.YtfbmoockopakjaaGreat
namespace Go.Proofs.YtfbmoockopakjaaGreat
set_option linter.unusedVariables false
set_option linter.unusedSimpArgs false
theorem takeN_spec (R i:Int) (hi:0≤i):∀ (rs:List Int) (l l1:List Ends),(l.length:Int)=R→takeN R i rs l=.inr l1 →
    (∀ r∈rs,0≤r∧r<R∧∀ e,l[r.toNat]?=some e→e.dst<0)∧rs.Nodup∧∀ j:Nat,l1[j]?=if (j:Int)∈rs then (l[j]?).map (fun e=>⟨e.src,i⟩) else l[j]?
  | [],l,l1,hl,h=>by cases h;exact ⟨fun r hr=>by simp at hr,List.nodup_nil,fun j=>by simp⟩
  | r :: rs,l,l1,hl,h=>by
    unfold takeN at h
    split at h
    · cases h
    · rename_i hr
      split at h
      · cases h
      · rename_i e he
        split at h
        · cases h
        · rename_i hd
          have hlt:r.toNat<l.length:=(List.getElem?_eq_some_iff.1 he).1
          obtain ⟨h1,h2,h3⟩:=takeN_spec R i hi rs _ l1 (by simpa using hl) h
          have hnot:r ∉ rs:=fun hm=>by
            have:=(h1 r hm).2.2 ⟨e.src,i⟩ (by rw [List.getElem?_set,if_pos rfl,if_pos hlt])
            simp at this;omega
          refine ⟨fun q hq=>?_,List.nodup_cons.2 ⟨hnot,h2⟩,fun j=>?_⟩
          · rcases List.mem_cons.1 hq with rfl | hq
            · exact ⟨by omega,by omega,fun e' he'=>by rw [he] at he';cases he';omega⟩
            · obtain ⟨a,b,c⟩:=h1 q hq
              refine ⟨a,b,fun e' he'=>?_⟩
              have hne:q≠r:=fun e=>hnot (e▸hq)
              exact c e' (by rw [List.getElem?_set,if_neg (by omega)];exact he')
          · rw [h3 j,List.getElem?_set]
            by_cases hj:(j:Int)=r
            · have hjr:r.toNat=j:=by omega
              rw [if_neg (by rw [hj];exact hnot),if_pos hjr,if_pos hlt,if_pos (by rw [hj];exact List.mem_cons_self),← hjr,he]
              rfl
            · have hjr:¬ r.toNat=j:=by omega
              rw [if_neg hjr]
              by_cases hm:(j:Int)∈rs
              · rw [if_pos hm,if_pos (List.mem_cons_of_mem _ hm)]
              · rw [if_neg hm,if_neg (by simp [hj,hm])]
theorem giveN_spec (R i:Int) (hi:0≤i):∀ (rs:List Int) (l l1:List Ends),(l.length:Int)=R→giveN R i rs l=.inr l1 →
    (∀ r∈rs,0≤r∧r<R∧∀ e,l[r.toNat]?=some e→e.src<0)∧rs.Nodup∧∀ j:Nat,l1[j]?=if (j:Int)∈rs then (l[j]?).map (fun e=>⟨i,e.dst⟩) else l[j]?
  | [],l,l1,hl,h=>by cases h;exact ⟨fun r hr=>by simp at hr,List.nodup_nil,fun j=>by simp⟩
  | r :: rs,l,l1,hl,h=>by
    unfold giveN at h
    split at h
    · cases h
    · rename_i hr
      split at h
      · cases h
      · rename_i e he
        split at h
        · cases h
        · rename_i hd
          have hlt:r.toNat<l.length:=(List.getElem?_eq_some_iff.1 he).1
          obtain ⟨h1,h2,h3⟩:=giveN_spec R i hi rs _ l1 (by simpa using hl) h
          have hnot:r ∉ rs:=fun hm=>by
            have:=(h1 r hm).2.2 ⟨i,e.dst⟩ (by rw [List.getElem?_set,if_pos rfl,if_pos hlt])
            simp at this;omega
          refine ⟨fun q hq=>?_,List.nodup_cons.2 ⟨hnot,h2⟩,fun j=>?_⟩
          · rcases List.mem_cons.1 hq with rfl | hq
            · exact ⟨by omega,by omega,fun e' he'=>by rw [he] at he';cases he';omega⟩
            · obtain ⟨a,b,c⟩:=h1 q hq
              refine ⟨a,b,fun e' he'=>?_⟩
              have hne:q≠r:=fun e=>hnot (e▸hq)
              exact c e' (by rw [List.getElem?_set,if_neg (by omega)];exact he')
          · rw [h3 j,List.getElem?_set]
            by_cases hj:(j:Int)=r
            · have hjr:r.toNat=j:=by omega
              rw [if_neg (by rw [hj];exact hnot),if_pos hjr,if_pos hlt,if_pos (by rw [hj];exact List.mem_cons_self),← hjr,he]
              rfl
            · have hjr:¬ r.toNat=j:=by omega
              rw [if_neg hjr]
              by_cases hm:(j:Int)∈rs
              · rw [if_pos hm,if_pos (List.mem_cons_of_mem _ hm)]
              · rw [if_neg hm,if_neg (by simp [hj,hm])]
structure Looked (ns:List Node) (R:Int) (k:Nat) (l:List Ends):Prop where
  len:(l.length:Int)=R
  src:∀ (j:Nat) e,l[j]?=some e→(e.src<0∨∃ (i:Nat) (x:Node),i<k∧ns[i]?=some x∧e.src=i∧(j:Int)∈x.Out)
  dst:∀ (j:Nat) e,l[j]?=some e→(e.dst<0∨∃ (i:Nat) (x:Node),i<k∧ns[i]?=some x∧e.dst=i∧(j:Int)∈x.In)
  node:∀ (i:Nat) x,i<k→ns[i]?=some x→Q4b x=0∧x.In.Nodup∧x.Out.Nodup ∧
    (∀ r∈x.In,0≤r∧r<R∧∃ e,l[r.toNat]?=some e∧e.dst=i)∧(∀ r∈x.Out,0≤r∧r<R∧∃ e,l[r.toNat]?=some e∧e.src=i)
theorem Looked.one {ns:List Node} {R:Int} {k:Nat} {l l1:List Ends} {x:Node} (h:Looked ns R k l) (hx:ns[k]?=some x) (ho:oneN R k x l=.inr l1):Looked ns R (k+1) l1:=by
  unfold oneN at ho
  split at ho
  · cases ho
  · rename_i hne
    split at ho
    · cases ho
    · rename_i l2 h2
      have hl2:(l2.length:Int)=R:=by rw [takeN_len R k _ _ _ h2];exact h.len
      obtain ⟨a1,a2,a3⟩:=takeN_spec R k (by omega) _ _ _ h.len h2
      obtain ⟨b1,b2,b3⟩:=giveN_spec R k (by omega) _ _ _ hl2 ho
      have hent:∀ (j:Nat) e1,l1[j]?=some e1→∃ e,l[j]?=some e∧e1.src=(if (j:Int)∈x.Out then (k:Int) else e.src)∧e1.dst=(if (j:Int)∈x.In then (k:Int) else e.dst):=fun j e1 he1=>by
        rw [b3 j,a3 j] at he1
        cases hj:l[j]? with
        | none=>rw [hj] at he1;split at he1<;>split at he1<;>cases he1
        | some e =>
          rw [hj] at he1
          refine ⟨e,rfl,?_⟩
          split at he1<;>split at he1<;>cases he1<;>simp_all
      have hent2:∀ (j:Nat) e,l[j]?=some e→∃ e1,l1[j]?=some e1∧e1.src=(if (j:Int)∈x.Out then (k:Int) else e.src)∧e1.dst=(if (j:Int)∈x.In then (k:Int) else e.dst):=fun j e he=>by
        have hlt:j<l1.length:=by
          have:=giveN_len R k _ _ _ ho
          have:=takeN_len R k _ _ _ h2
          have:=(List.getElem?_eq_some_iff.1 he).1
          omega
        obtain ⟨e',h1,h3⟩:=hent j _ (List.getElem?_eq_getElem hlt)
        rw [he] at h1;cases h1
        exact ⟨_,List.getElem?_eq_getElem hlt,h3⟩
      refine ⟨by rw [giveN_len R k _ _ _ ho];exact hl2,fun j e1 he1=>?_,fun j e1 he1=>?_,fun i y hi hy=>?_⟩
      · obtain ⟨e,he,hs,_⟩:=hent j e1 he1
        by_cases hm:(j:Int)∈x.Out
        · rw [if_pos hm] at hs
          exact .inr ⟨k,x,by omega,hx,hs,hm⟩
        · rw [if_neg hm] at hs
          rw [hs]
          rcases h.src j e he with h1 | ⟨i,y,h1,h2,h3,h4⟩
          · exact .inl h1
          · exact .inr ⟨i,y,by omega,h2,h3,h4⟩
      · obtain ⟨e,he,_,hs⟩:=hent j e1 he1
        by_cases hm:(j:Int)∈x.In
        · rw [if_pos hm] at hs
          exact .inr ⟨k,x,by omega,hx,hs,hm⟩
        · rw [if_neg hm] at hs
          rw [hs]
          rcases h.dst j e he with h1 | ⟨i,y,h1,h2,h3,h4⟩
          · exact .inl h1
          · exact .inr ⟨i,y,by omega,h2,h3,h4⟩
      · rcases Nat.lt_or_ge i k with hik | hik
        · obtain ⟨c1,c2,c3,c4,c5⟩:=h.node i y hik hy
          refine ⟨c1,c2,c3,fun r hr=>?_,fun r hr=>?_⟩
          · obtain ⟨d1,d2,e,d3,d4⟩:=c4 r hr
            refine ⟨d1,d2,?_⟩
            obtain ⟨e1,f1,_,f2⟩:=hent2 _ e d3
            have hnm:(r.toNat:Int) ∉ x.In:=fun hm=>by
              have:=(a1 _ hm).2.2 e (by rw [Int.toNat_natCast];exact d3)
              omega
            rw [if_neg hnm] at f2
            exact ⟨e1,f1,f2.trans d4⟩
          · obtain ⟨d1,d2,e,d3,d4⟩:=c5 r hr
            refine ⟨d1,d2,?_⟩
            obtain ⟨e1,f1,f2,_⟩:=hent2 _ e d3
            have hnm:(r.toNat:Int) ∉ x.Out:=fun hm=>by
              have hl2e:∃ e2,l2[r.toNat]?=some e2∧e2.src=e.src:=by
                rw [a3]
                split<;>simp [d3]
              obtain ⟨e2,g1,g2⟩:=hl2e
              have:=(b1 _ hm).2.2 e2 (by rw [Int.toNat_natCast];exact g1)
              omega
            rw [if_neg hnm] at f2
            exact ⟨e1,f1,f2.trans d4⟩
        · have hik:i=k:=by omega
          subst hik
          rw [hx] at hy;cases hy
          refine ⟨by simpa using hne,a2,b2,fun r hr=>?_,fun r hr=>?_⟩
          · obtain ⟨d1,d2,_⟩:=a1 r hr
            refine ⟨d1,d2,?_⟩
            have hlt:r.toNat<l.length:=by have:=h.len;omega
            obtain ⟨e1,f1,_,f2⟩:=hent2 _ _ (List.getElem?_eq_getElem hlt)
            rw [if_pos (by rw [Int.toNat_of_nonneg d1];exact hr)] at f2
            exact ⟨e1,f1,f2⟩
          · obtain ⟨d1,d2,_⟩:=b1 r hr
            refine ⟨d1,d2,?_⟩
            have hlt:r.toNat<l.length:=by have:=h.len;omega
            obtain ⟨e1,f1,f2,_⟩:=hent2 _ _ (List.getElem?_eq_getElem hlt)
            rw [if_pos (by rw [Int.toNat_of_nonneg d1];exact hr)] at f2
            exact ⟨e1,f1,f2⟩
theorem Looked.start (ns:List Node) (R:Nat):Looked ns R 0 (List.replicate R noEnds) :=
  ⟨by simp,fun j e he=>by rw [List.getElem?_replicate] at he;split at he<;>cases he;exact .inl (by decide),fun j e he=>by rw [List.getElem?_replicate] at he;split at he<;>cases he;exact .inl (by decide),fun i x hi=>by omega⟩
theorem nodesN_ok (ns:List Node) (R:Int):∀ (xs:List Node) (k s:Nat) (l:List Ends) (s1:Nat) (l1:List Ends),ns.drop k=xs→Looked ns R k l→nodesN R k xs s l=.inr (s1,l1) →
    Looked ns R ns.length l1∧s1=s+(xs.filter (fun x=>decide (x.Kind=8))).length
  | [],k,s,l,s1,l1,hd,h,hn=>by
    cases hn
    have hk:ns.length≤k:=List.drop_eq_nil_iff.1 hd
    refine ⟨⟨h.len,fun j e he=>?_,fun j e he=>?_,fun i x hi hx=>h.node i x (by omega) hx⟩,by simp⟩
    · rcases h.src j e he with h1 | ⟨i,y,h1,h2,h3⟩
      · exact .inl h1
      · exact .inr ⟨i,y,(List.getElem?_eq_some_iff.1 h2).1,h2,h3⟩
    · rcases h.dst j e he with h1 | ⟨i,y,h1,h2,h3⟩
      · exact .inl h1
      · exact .inr ⟨i,y,(List.getElem?_eq_some_iff.1 h2).1,h2,h3⟩
  | x :: xs,k,s,l,s1,l1,hd,h,hn=>by
    have hx:ns[k]?=some x:=by
      have:=congrArg (fun l=>l[0]?) hd
      simpa [List.getElem?_drop] using this
    have hd2:ns.drop (k+1)=xs:=by
      have:=congrArg (List.drop 1) hd
      simpa [List.drop_drop,Nat.add_comm] using this
    unfold nodesN at hn
    split at hn
    · cases hn
    · rename_i l2 h2
      obtain ⟨a,b⟩:=nodesN_ok ns R xs (k+1) _ l2 s1 l1 hd2 (h.one hx h2) hn
      refine ⟨a,?_⟩
      rw [b]
      by_cases h8:x.Kind=8
      · simp [h8];omega
      · simp [h8]
structure NetL (n:Net) (l:List Ends):Prop where
  n1:1≤n.Nodes.length
  n2:n.Nodes.length≤12
  r1:0≤n.Rings
  r2:n.Rings≤16
  m1:1≤n.Room
  m2:n.Room≤6
  len:(l.length:Int)=n.Rings
  src:∀ (j:Nat) e,l[j]?=some e→∃ (i:Nat) (x:Node),n.Nodes[i]?=some x∧e.src=i∧(j:Int)∈x.Out
  dst:∀ (j:Nat) e,l[j]?=some e→∃ (i:Nat) (x:Node),n.Nodes[i]?=some x∧e.dst=i∧(j:Int)∈x.In
  err:∀ (i:Nat) x,n.Nodes[i]?=some x→Q4b x=0
  ndI:∀ (i:Nat) x,n.Nodes[i]?=some x→x.In.Nodup
  ndO:∀ (i:Nat) x,n.Nodes[i]?=some x→x.Out.Nodup
  inn:∀ (i:Nat) x,n.Nodes[i]?=some x→∀ r∈x.In,0≤r∧r<n.Rings∧∃ e,l[r.toNat]?=some e∧e.dst=i
  out:∀ (i:Nat) x,n.Nodes[i]?=some x→∀ r∈x.Out,0≤r∧r<n.Rings∧∃ e,l[r.toNat]?=some e∧e.src=i
  sink:(n.Nodes.filter (fun x=>decide (x.Kind=8))).length=1
theorem lookN_ok {n:Net} {l:List Ends} (h:lookN n=.inr l):NetL n l:=by
  unfold lookN at h
  split at h
  · cases h
  · rename_i h1
    split at h
    · cases h
    · rename_i h2
      split at h
      · cases h
      · rename_i s l' hn
        split at h
        · cases h
        · rename_i hany
          split at h
          · cases h
          · rename_i hs
            cases h
            have hst:=Looked.start n.Nodes n.Rings.toNat
            rw [Int.toNat_of_nonneg (by omega)] at hst
            obtain ⟨a,b⟩:=nodesN_ok n.Nodes n.Rings n.Nodes 0 0 _ s l (by simp) hst hn
            have hpos:∀ (j:Nat) e,l[j]?=some e→¬ e.src<0∧¬ e.dst<0:=fun j e he=>by
              have hm:=List.mem_of_getElem? he
              simp only [List.any_eq_true,not_exists,not_and] at hany
              have:=hany e hm
              simp at this;omega
            refine ⟨by omega,by omega,by omega,by omega,by omega,by omega,a.len,fun j e he=>?_,fun j e he=>?_,fun i x hx=>(a.node i x (List.getElem?_eq_some_iff.1 hx).1 hx).1,fun i x hx=>(a.node i x (List.getElem?_eq_some_iff.1 hx).1 hx).2.1,fun i x hx=>(a.node i x (List.getElem?_eq_some_iff.1 hx).1 hx).2.2.1,fun i x hx=>(a.node i x (List.getElem?_eq_some_iff.1 hx).1 hx).2.2.2.1,fun i x hx=>(a.node i x (List.getElem?_eq_some_iff.1 hx).1 hx).2.2.2.2,by omega⟩
            · rcases a.src j e he with h3 | ⟨i,y,_,h4⟩
              · exact absurd h3 (hpos j e he).1
              · exact ⟨i,y,h4⟩
            · rcases a.dst j e he with h3 | ⟨i,y,_,h4⟩
              · exact absurd h3 (hpos j e he).2
              · exact ⟨i,y,h4⟩
end Go.Proofs.YtfbmoockopakjaaGreat
namespace Go.Proofs.YtfbmoockopakjaaGreat
set_option linter.unusedVariables false
set_option linter.unusedSimpArgs false
def firstN (ok:Nat→Bool):Nat→Nat→Option Nat
  | 0,_=>none
  | m+1,k=>if ok k then some k else firstN ok m (k+1)
theorem firstN_some {ok:Nat→Bool}:∀ {m k i:Nat},firstN ok m k=some i→k≤i∧i<k+m∧ok i=true
  | 0,k,i,h=>by cases h
  | m+1,k,i,h=>by
    unfold firstN at h
    split at h
    · rename_i hk;cases h;exact ⟨by omega,by omega,hk⟩
    · obtain ⟨a,b,c⟩:=firstN_some h;exact ⟨by omega,by omega,c⟩
theorem firstN_succ {ok:Nat→Bool}:∀ (m k:Nat),firstN ok (m+1) k=match firstN ok m k with | some i=>some i | none=>if ok (k+m) then some (k+m) else none
  | 0,k=>by simp [firstN]
  | m + 1,k=>by
    rw [firstN,firstN_succ m (k+1)]
    by_cases h:ok k=true
    · simp [firstN,h]
    · rw [if_neg h,firstN,if_neg h]
      rw [show k+1+m=k+(m+1) by omega]
def lastD (ok:Nat→Bool):Nat→Int→Int
  | 0,b=>b
  | k+1,b=>lastD ok k (if ok k then (k:Int) else b)
theorem lastD_eq {ok:Nat→Bool}:∀ (k:Nat) (b:Int),lastD ok k b=match firstN ok k 0 with | some i=>(i:Int) | none=>b
  | 0,b=>rfl
  | k+1,b=>by
    rw [lastD,lastD_eq k,firstN_succ]
    cases firstN ok k 0 with
    | some i=>rfl
    | none=>simp only [Nat.zero_add];split<;>rfl
def fedN (l:List Ends) (out:List Nat) (x:Node):Bool:=x.In.all fun r=>match l[r.toNat]? with | some e=>out.contains e.src.toNat | none=>false
def okN (l:List Ends) (out:List Nat) (ns:List Node) (i:Nat):Bool:=!(out.contains i) && (match ns[i]? with | some x=>fedN l out x | none=>false)
def ordN (l:List Ends) (ns:List Node):Nat→List Nat→Option (List Nat)
  | 0,out=>some out
  | m+1,out=>match firstN (okN l out ns) ns.length 0 with
    | none=>none
    | some i=>ordN l ns m (out++[i])
def netR (n:Net):List Int × Int:=match lookN n with
  | .inl e=>([],e)
  | .inr l=>match ordN l n.Nodes n.Nodes.length [] with
    | none=>([],7)
    | some out=>(out.map (fun i:Nat=>(i:Int)),0)
def doneL (N:Nat) (out:List Nat):List Bool:=(List.range N).map fun i=>out.contains i
theorem doneL_get {N:Nat} {out:List Nat} {i:Nat} (h:i<N):(doneL N out)[i]?=some (out.contains i):=by
  unfold doneL;rw [List.getElem?_map,List.getElem?_range h];rfl
theorem doneL_len {N:Nat} {out:List Nat}:(doneL N out).length=N:=by simp [doneL]
theorem doneL_set {N:Nat} {out:List Nat} {i:Nat} (h:i<N):(doneL N out).set i true=doneL N (out++[i]):=by
  apply List.ext_getElem?
  intro j
  rw [List.getElem?_set,doneL_len]
  by_cases hj:j<N
  · rw [doneL_get hj]
    by_cases hij:i=j
    · subst hij;rw [if_pos rfl,if_pos h,doneL_get h];simp
    · rw [if_neg hij,doneL_get hj]
      have:¬ j=i:=fun e=>hij e.symm
      simp [this]
  · rw [List.getElem?_eq_none (by rw [doneL_len];omega),List.getElem?_eq_none (by rw [doneL_len];omega),if_neg (by omega)]
theorem doneL_nil (N:Nat):List.replicate N false=doneL N []:=by
  apply List.ext_getElem?
  intro j
  rw [List.getElem?_replicate]
  by_cases hj:j<N
  · rw [if_pos hj,doneL_get hj];rfl
  · rw [if_neg hj,List.getElem?_eq_none (by rw [doneL_len];omega)]
theorem order_k1 {n:Net} (out:List Nat) (ho:out.length≤12) (z:Option Nat) (hz:∀ i,z=some i→i<n.Nodes.length):Qub (out.map (fun i:Nat=>(i:Int))) (doneL n.Nodes.length out) (match z with | some i=>(i:Int) | none => -1)=match z with
    | some i=>some (.inl ((out++[i]).map (fun i:Nat=>(i:Int)),doneL n.Nodes.length (out++[i])))
    | none=>some (.inr ([],7)):=by
  unfold Qub
  cases z with
  | none=>rfl
  | some i =>
    have hi:=hz i rfl
    simp only
    rw [if_neg (by rw [decide_eq_true_iff];omega)]
    have e1:ixN (doneL n.Nodes.length out) (i:Int)=some i:=by unfold ixN;rw [if_pos (by rw [doneL_len];omega)];rfl
    simp only [e1,Option.bind_some,doneL_get hi]
    rw [Qnb (by simp;omega),Option.bind_some,doneL_set hi]
    simp
section
variable {n:Net} {l:List Ends} (hn:NetL n l)
include hn
theorem src_lt {j:Nat} {e:Ends} (h:l[j]?=some e):0≤e.src∧e.src.toNat<n.Nodes.length:=by
  obtain ⟨i,x,h1,h2,_⟩:=hn.src j e h
  have:=(List.getElem?_eq_some_iff.1 h1).1
  omega
theorem notfed_eq {i:Nat} {x:Node} (hx:n.Nodes[i]?=some x) (out:List Nat) {r:Int} (hr:r∈x.In) :
    Y2a r (doneL n.Nodes.length out) l=some (!(match l[r.toNat]? with | some e=>out.contains e.src.toNat | none=>false)):=by
  obtain ⟨h1,h2,e,h3,_⟩:=hn.inn i x hx r hr
  have hlt:=(List.getElem?_eq_some_iff.1 h3).1
  obtain ⟨h4,h5⟩:=src_lt hn h3
  have e1:ixN l r=some r.toNat:=by unfold ixN;rw [if_pos (by omega)]
  have e2:ixN (doneL n.Nodes.length out) e.src=some e.src.toNat:=by unfold ixN;rw [if_pos (by rw [doneL_len];omega)]
  unfold Y2a
  simp only [e1,Option.bind_some,h3,e2,doneL_get h5]
theorem notfed_any {i:Nat} {x:Node} (hx:n.Nodes[i]?=some x) (out:List Nat) (hl:x.In.length≤1099511627776):Jpa x.In (doneL n.Nodes.length out) l=some (!fedN l out x):=by
  unfold Jpa Vda
  have:=iter_list0 (σ:=Unit) x.In hl (fun k _=>(k:Int)) (body:=fun ss=>Joa x.In (doneL n.Nodes.length out) l ss)
    (fun k r _=>if (match l[r.toNat]? with | some e=>out.contains e.src.toNat | none=>false)=false then some (.inr (k:Int)) else some (.inl ())) (fun _=>some (-1)) ()
    (fun k r _ hk hlt h1 h2 h3=>by
      unfold Joa
      rw [h2,h1,h3]
      simp only [if_true,Option.bind_some]
      rw [notfed_eq hn hx out (List.mem_of_getElem? hk),Option.bind_some]
      generalize (match l[r.toNat]? with | some e=>out.contains e.src.toNat | none=>false)=b
      cases b<;>rfl)
    (fun _ h=>by unfold Joa;rw [h];rfl)
  simp only [Int.natCast_zero] at this
  rw [this]
  have key:∀ (ys:List Int) (k:Nat),∃ v:Int,foldE (σ:=Unit) (fun k r _=>if (match l[r.toNat]? with | some e=>out.contains e.src.toNat | none=>false)=false then some (.inr (k:Int)) else some (.inl ())) (fun _=>some (-1:Int)) k ys ()=some v ∧
      decide (v ≥ 0)=!(ys.all fun r=>match l[r.toNat]? with | some e=>out.contains e.src.toNat | none=>false):=by
    intro ys
    induction ys with
    | nil=>intro k;exact ⟨-1,rfl,by simp⟩
    | cons y ys ih =>
      intro k
      unfold foldE
      by_cases h:(match l[y.toNat]? with | some e=>out.contains e.src.toNat | none=>false)=false
      · rw [if_pos h]
        exact ⟨k,rfl,by rw [List.all_cons,h];simp⟩
      · rw [if_neg h]
        simp only
        obtain ⟨v,h1,h2⟩:=ih (k+1)
        refine ⟨v,h1,?_⟩
        rw [h2,List.all_cons]
        have h':(match l[y.toNat]? with | some e=>out.contains e.src.toNat | none=>false)=true:=by simpa using h
        rw [h'];simp
  obtain ⟨v,h1,h2⟩:=key x.In 0
  rw [h1,Option.bind_some,h2]
  rfl
theorem order_l2 (hio:∀ x∈n.Nodes,x.In.length≤1099511627776) (q:Int) (out:List Nat) (ho:out.length≤12):∀ (m k:Nat),k+m=n.Nodes.length →
    iter (fun ss:Int=>Qab n (l,q) (out.map (fun i:Nat=>(i:Int))) (doneL n.Nodes.length out) ss) (k:Int)=match firstN (okN l out n.Nodes) m k with
      | some i=>some (.inl ((out++[i]).map (fun i:Nat=>(i:Int)),doneL n.Nodes.length (out++[i])))
      | none=>some (.inr ([],7))
  | 0,k,h=>by
    have hk:k=n.Nodes.length:=by omega
    subst hk
    have:Qab n (l,q) (out.map (fun i:Nat=>(i:Int))) (doneL n.Nodes.length out) (n.Nodes.length:Int)=some (.inr (.inr ([],7))):=by
      unfold Qab
      rw [if_neg (by simp)]
      rfl
    rw [Qya,this]
    rfl
  | m + 1,k,h=>by
    have hlt:k<n.Nodes.length:=by omega
    have hn2:=hn.n2
    have hx:n.Nodes[k]?=some n.Nodes[k]:=List.getElem?_eq_getElem hlt
    have e1:ixN (doneL n.Nodes.length out) (k:Int)=some k:=by unfold ixN;rw [if_pos (by rw [doneL_len];omega)];rfl
    have hstep:Qab n (l,q) (out.map (fun i:Nat=>(i:Int))) (doneL n.Nodes.length out) (k:Int)=if okN l out n.Nodes k then some (.inr (.inl ((out++[k]).map (fun i:Nat=>(i:Int)),doneL n.Nodes.length (out++[k])))) else some (.inl ((k+1:Nat):Int)):=by
      unfold Qab
      rw [if_pos (by simp;omega),J8a hx,Option.bind_some]
      simp only [e1,Option.bind_some,doneL_get hlt]
      have hok:okN l out n.Nodes k=(!(out.contains k) && fedN l out n.Nodes[k]):=by unfold okN;rw [hx]
      have hin:(if (!(out.contains k))=true then (Jpa n.Nodes[k].In (doneL n.Nodes.length out) l).bind fun x12=>some (!x12) else some false)=some (okN l out n.Nodes k):=by
        rw [notfed_any hn hx out (hio _ (List.getElem_mem hlt)),hok]
        cases out.contains k<;>simp
      rw [hin,Option.bind_some,Zna (by omega)]
      by_cases hb:okN l out n.Nodes k=true
      · rw [if_pos hb,if_pos hb]
        have:=order_k1 (n:=n) out ho (some k) (fun i e=>by cases e;exact hlt)
        simp only at this
        rw [this];rfl
      · rw [if_neg hb,if_neg hb]
    rw [Qya,hstep,firstN]
    by_cases hb:okN l out n.Nodes k=true
    · simp only [if_pos hb]
    · simp only [if_neg hb]
      exact order_l2 hio q out ho m (k+1) (by omega)
theorem order_l3 (hio:∀ x∈n.Nodes,x.In.length≤1099511627776) (q:Int):∀ (m:Nat) (out:List Nat),out.length+m=n.Nodes.length →
    iter (fun ss:List Int × List Bool=>Y5a n (l,q) ss.1 ss.2) (out.map (fun i:Nat=>(i:Int)),doneL n.Nodes.length out)=some (match ordN l n.Nodes m out with
      | none=>([],7)
      | some out=>(out.map (fun i:Nat=>(i:Int)),0))
  | 0,out,h=>by
    have:Y5a n (l,q) (out.map (fun i:Nat=>(i:Int))) (doneL n.Nodes.length out)=some (.inr (out.map (fun i:Nat=>(i:Int)),0)):=by
      unfold Y5a
      rw [if_neg (by simp;omega)];rfl
    rw [Qya]
    simp only [this,ordN]
  | m + 1,out,h=>by
    have hstep:Y5a n (l,q) (out.map (fun i:Nat=>(i:Int))) (doneL n.Nodes.length out)=match firstN (okN l out n.Nodes) n.Nodes.length 0 with
      | some i=>some (.inl ((out++[i]).map (fun i:Nat=>(i:Int)),doneL n.Nodes.length (out++[i])))
      | none=>some (.inr ([],7)):=by
      unfold Y5a
      rw [if_pos (by simp;omega)]
      have:=order_l2 hn hio q out (by have:=hn.n2;omega) n.Nodes.length 0 (by omega)
      simpa using this
    rw [Qya]
    simp only [hstep,ordN]
    cases firstN (okN l out n.Nodes) n.Nodes.length 0 with
    | none=>rfl
    | some i =>
      simp only
      exact order_l3 hio q m (out++[i]) (by simp;omega)
end
theorem takeN_ne (R i:Int):∀ (rs:List Int) (l:List Ends),takeN R i rs l≠.inl 0
  | [],l,h=>by cases h
  | r :: rs,l,h=>by
    unfold takeN at h
    split at h
    · exact absurd (Sum.inl.inj h) (by decide)
    · split at h
      · exact absurd (Sum.inl.inj h) (by decide)
      · split at h
        · exact absurd (Sum.inl.inj h) (by decide)
        · exact takeN_ne R i rs _ h
theorem giveN_ne (R i:Int):∀ (rs:List Int) (l:List Ends),giveN R i rs l≠.inl 0
  | [],l,h=>by cases h
  | r :: rs,l,h=>by
    unfold giveN at h
    split at h
    · exact absurd (Sum.inl.inj h) (by decide)
    · split at h
      · exact absurd (Sum.inl.inj h) (by decide)
      · split at h
        · exact absurd (Sum.inl.inj h) (by decide)
        · exact giveN_ne R i rs _ h
theorem oneN_ne (R:Int) (i:Nat) (x:Node) (l:List Ends):oneN R i x l≠.inl 0:=fun h=>by
  unfold oneN at h
  split at h
  · rename_i hne;exact hne (Sum.inl.inj h)
  · split at h
    · rename_i h2;cases h;exact takeN_ne _ _ _ _ h2
    · exact giveN_ne _ _ _ _ h
theorem nodesN_ne (R:Int):∀ (xs:List Node) (k s:Nat) (l:List Ends),nodesN R k xs s l≠.inl 0
  | [],k,s,l,h=>by cases h
  | x::xs,k,s,l,h=>by
    unfold nodesN at h
    split at h
    · rename_i h2;cases h;exact oneN_ne _ _ _ _ h2
    · exact nodesN_ne R xs _ _ _ h
theorem lookN_ne (n:Net):lookN n≠.inl 0:=fun h=>by
  unfold lookN at h
  split at h
  · exact absurd (Sum.inl.inj h) (by decide)
  · split at h
    · exact absurd (Sum.inl.inj h) (by decide)
    · split at h
      · rename_i h2;cases h;exact nodesN_ne _ _ _ _ _ h2
      · split at h
        · exact absurd (Sum.inl.inj h) (by decide)
        · split at h
          · exact absurd (Sum.inl.inj h) (by decide)
          · cases h
theorem net_Order_eq (n:Net) (hio:∀ x∈n.Nodes,x.In.length≤1099511627776∧x.Out.length≤1099511627776):net_Order n=some (netR n):=by
  unfold net_Order netR
  rw [net_look_eq n hio,Option.bind_some]
  cases h:lookN n with
  | inl e =>
    simp only
    have he:e≠0:=fun e0=>lookN_ne n (e0▸h)
    rw [if_pos (by simpa using he)]
  | inr l =>
    simp only
    have hn:=lookN_ok h
    rw [if_neg (by simp)]
    have hmk:mk (n.Nodes.length:Int) false=some (doneL n.Nodes.length []):=by
      unfold mk;rw [if_pos (by have:=hn.n2;omega),← doneL_nil];rfl
    rw [hmk,Option.bind_some]
    have:=order_l3 hn (fun x hx=>(hio x hx).1) 0 n.Nodes.length [] (by simp)
    simp only [List.map_nil] at this
    rw [this]
theorem net_Check_eq (n:Net) (hio:∀ x∈n.Nodes,x.In.length≤1099511627776∧x.Out.length≤1099511627776):net_Check n=some (netR n).2:=by
  unfold net_Check;rw [net_Order_eq n hio];rfl
end Go.Proofs.YtfbmoockopakjaaGreat
namespace Go.Proofs.YtfbmoockopakjaaGreat
set_option linter.unusedVariables false
set_option linter.unusedSimpArgs false
theorem mget_mset_same {κ ν:Type} [DecidableEq κ] (k:κ) (v:ν):∀ m:List (κ × ν),mget k (mset k v m)=some v
  | []=>by simp [mset,mget]
  | p :: r=>by
    unfold mset
    split
    · simp [mget]
    · rename_i h
      simp only [mget,if_neg h]
      exact mget_mset_same k v r
theorem mget_mset_ne {κ ν:Type} [DecidableEq κ] {k k':κ} (v:ν) (hk:k≠k'):∀ m:List (κ × ν),mget k (mset k' v m)=mget k m
  | []=>by simp [mset,mget,hk]
  | p :: r=>by
    unfold mset
    split
    · rename_i h
      simp only [mget,if_neg hk]
      rw [if_neg (fun e=>hk (e.trans h.symm))]
    · simp only [mget]
      rw [mget_mset_ne v hk r]
theorem mset_len_new {κ ν:Type} [DecidableEq κ] {k:κ} (v:ν):∀ {m:List (κ × ν)},mget k m=none→(mset k v m).length=m.length+1
  | [],_=>rfl
  | p :: r,h=>by
    simp only [mget] at h
    split at h
    · cases h
    · rename_i hk
      simp only [mset,if_neg hk,List.length_cons]
      rw [mset_len_new v h]
structure MRi (v:List Int) (m:List (Int × Int)):Prop where
  len:m.length=v.countP (fun x=>decide (0≤x))
  get:∀ (j:Nat) x,v[j]?=some x→mget (j:Int) m=if x<0 then none else some x
theorem MRi.set {v:List Int} {m:List (Int × Int)} (h:MRi v m) {j:Nat} {x y:Int} (hx:v[j]?=some x) (h0:x<0) (h1:0≤y):MRi (v.set j y) (mset (j:Int) y m):=by
  have hlt:=(List.getElem?_eq_some_iff.1 hx).1
  have hv:v[j]=x:=(List.getElem?_eq_some_iff.1 hx).2
  have hn:mget (j:Int) m=none:=by rw [h.get j x hx,if_pos h0]
  refine ⟨?_,fun k z hz=>?_⟩
  · rw [mset_len_new y hn,h.len,List.countP_set hlt,hv]
    have a:¬ 0≤x:=by omega
    simp [a,h1]
  · rw [List.getElem?_set] at hz
    by_cases hjk:j=k
    · subst hjk
      rw [if_pos rfl,if_pos hlt] at hz
      cases hz
      rw [mget_mset_same,if_neg (by omega)]
    · rw [if_neg hjk] at hz
      rw [mget_mset_ne y (by omega)]
      exact h.get k z hz
theorem MRi.start (R:Nat):MRi (List.replicate R (-1)) []:=by
  refine ⟨?_,fun j x hx=>?_⟩
  · simp [List.countP_replicate]
  · rw [List.getElem?_replicate] at hx
    split at hx<;>cases hx
    rfl
theorem map_set_src {l:List Ends} {j:Nat} {e:Ends} (i:Int) (h:l[j]?=some e):(l.set j ⟨i,e.dst⟩).map Ends.src=(l.map Ends.src).set j i∧(l.set j ⟨i,e.dst⟩).map Ends.dst=l.map Ends.dst:=by
  refine ⟨by rw [List.map_set],?_⟩
  rw [List.map_set]
  have hlt:=(List.getElem?_eq_some_iff.1 h).1
  have:(l.map Ends.dst)[j]'(by simpa using hlt)=e.dst:=by simp [(List.getElem?_eq_some_iff.1 h).2]
  show (l.map Ends.dst).set j e.dst=_
  rw [← this];exact List.set_getElem_self _
theorem map_set_dst {l:List Ends} {j:Nat} {e:Ends} (i:Int) (h:l[j]?=some e):(l.set j ⟨e.src,i⟩).map Ends.dst=(l.map Ends.dst).set j i∧(l.set j ⟨e.src,i⟩).map Ends.src=l.map Ends.src:=by
  refine ⟨by rw [List.map_set],?_⟩
  rw [List.map_set]
  have hlt:=(List.getElem?_eq_some_iff.1 h).1
  have:(l.map Ends.src)[j]'(by simpa using hlt)=e.src:=by simp [(List.getElem?_eq_some_iff.1 h).2]
  show (l.map Ends.src).set j e.src=_
  rw [← this];exact List.set_getElem_self _
theorem chk_l1 (n:Net) (s i:Nat) (x:Node) (to:List (Int × Int)) (hx:x.Out.length≤1099511627776) (hi:i≤12) (hs:s≤12) (hR:n.Rings≤16) :
    ∀ (m k:Nat) (l:List Ends) (fr:List (Int × Int)),k+m=x.Out.length→(l.length:Int)=n.Rings→MRi (l.map Ends.src) fr →
    match giveN n.Rings i (x.Out.drop k) l with
      | .inl e=>iter (fun ss:Int × List (Int × Int)=>Jma n s i x to ss.1 ss.2) ((k:Int),fr)=some (.inr ([],e))
      | .inr l1=>∃ fr1,MRi (l1.map Ends.src) fr1∧l1.map Ends.dst=l.map Ends.dst∧iter (fun ss:Int × List (Int × Int)=>Jma n s i x to ss.1 ss.2) ((k:Int),fr)=some (.inl (((if x.Kind=8 then s+1 else s:Nat):Int),((i+1:Nat):Int),fr1,to))
  | 0,k,l,fr,h,hl,hm=>by
    have hk:k=x.Out.length:=by omega
    subst hk
    rw [List.drop_length]
    simp only [giveN]
    refine ⟨fr,hm,trivial,?_⟩
    have hstep:Jma n s i x to (x.Out.length:Int) fr=some (.inr (.inl (((if x.Kind=8 then s+1 else s:Nat):Int),((i+1:Nat):Int),fr,to))):=by
      unfold Jma
      rw [if_neg (by simp),Zna (by omega),Zna (by omega)]
      by_cases h8:x.Kind=8<;>simp [h8]
    rw [Qya]
    simp only [hstep]
  | m + 1,k,l,fr,h,hl,hm=>by
    have hlt:k<x.Out.length:=by omega
    rw [List.drop_eq_getElem_cons hlt,Qya]
    have hstep:Jma n s i x to (k:Int) fr=if x.Out[k]<0∨n.Rings≤x.Out[k] then some (.inr (.inr ([],3))) else if (mget x.Out[k] fr).isSome then some (.inr (.inr ([],6))) else some (.inl (((k+1:Nat):Int),mset x.Out[k] i fr)):=by
      unfold Jma
      rw [if_pos (by simp;omega),J8a (List.getElem?_eq_getElem hlt),Option.bind_some,Zna (by omega)]
      by_cases hr:x.Out[k]<0∨n.Rings≤x.Out[k]
      · rw [if_pos (by simp;omega),if_pos hr];rfl
      · rw [if_neg (by simp;omega),if_neg hr]
        rfl
    simp only [giveN,hstep]
    by_cases hr:x.Out[k]<0∨n.Rings≤x.Out[k]
    · simp only [if_pos hr]
    · simp only [if_neg hr]
      have hrl:x.Out[k].toNat<l.length:=by omega
      have hge:=List.getElem?_eq_getElem hrl
      have hge2:(l.map Ends.src)[x.Out[k].toNat]?=some l[x.Out[k].toNat].src:=by rw [List.getElem?_map,hge];rfl
      have hget:=hm.get _ _ hge2
      have hc:((x.Out[k].toNat:Nat):Int)=x.Out[k]:=by omega
      rw [hc] at hget
      simp only [hge]
      by_cases he:0≤l[x.Out[k].toNat].src
      · rw [if_neg (by omega)] at hget
        simp only [if_pos he,hget,Option.isSome_some,if_true]
      · rw [if_pos (by omega)] at hget
        simp only [if_neg he,hget,Option.isSome_none,Bool.false_eq_true,if_false]
        obtain ⟨q1,q2⟩:=map_set_src (i:Int) hge
        have hm2:=hm.set (y:=(i:Int)) hge2 (by omega) (by omega)
        rw [hc,← q1] at hm2
        have:=chk_l1 n s i x to hx hi hs hR m (k+1) (l.set x.Out[k].toNat ⟨i,l[x.Out[k].toNat].dst⟩) (mset x.Out[k] i fr) (by omega) (by simpa using hl) hm2
        cases hgv:giveN n.Rings i (x.Out.drop (k+1)) (l.set x.Out[k].toNat ⟨i,l[x.Out[k].toNat].dst⟩) with
        | inl e=>rw [hgv] at this;exact this
        | inr l1 =>
          rw [hgv] at this
          obtain ⟨fr1,a,b,c⟩:=this
          exact ⟨fr1,a,b.trans q2,c⟩
theorem chk_l2 (n:Net) (s i:Nat) (x:Node) (fr:List (Int × Int)) (hx:x.Out.length≤1099511627776) (hx2:x.In.length≤1099511627776) (hi:i≤12) (hs:s≤12) (hR:n.Rings≤16) :
    ∀ (m k:Nat) (l:List Ends) (to:List (Int × Int)),k+m=x.In.length→(l.length:Int)=n.Rings→MRi (l.map Ends.src) fr→MRi (l.map Ends.dst) to →
    match (match takeN n.Rings i (x.In.drop k) l with | .inl e=>Sum.inl e | .inr l1=>giveN n.Rings i x.Out l1) with
      | .inl e=>iter (fun ss:Int × List (Int × Int)=>Jaa n s i fr x ss.1 ss.2) ((k:Int),to)=some (.inr ([],e))
      | .inr l1=>∃ fr1 to1,MRi (l1.map Ends.src) fr1∧MRi (l1.map Ends.dst) to1∧iter (fun ss:Int × List (Int × Int)=>Jaa n s i fr x ss.1 ss.2) ((k:Int),to)=some (.inl (((if x.Kind=8 then s+1 else s:Nat):Int),((i+1:Nat):Int),fr1,to1))
  | 0,k,l,to,h,hl,hm,hm2=>by
    have hk:k=x.In.length:=by omega
    subst hk
    rw [List.drop_length]
    simp only [takeN]
    have h1:=chk_l1 n s i x to hx hi hs hR x.Out.length 0 l fr (by omega) hl hm
    simp only [List.drop_zero,Int.natCast_zero] at h1
    have hstep:Jaa n s i fr x (x.In.length:Int) to=Option.map Sum.inr (iter (fun ss:Int × List (Int × Int)=>Jma n s i x to ss.1 ss.2) (0,fr)):=by
      unfold Jaa
      rw [if_neg (by simp)]
    rw [Qya]
    simp only [hstep]
    cases hg:giveN n.Rings i x.Out l with
    | inl e=>rw [hg] at h1;simp only at h1 ⊢;rw [h1];rfl
    | inr l1 =>
      rw [hg] at h1
      obtain ⟨fr1,a,b,c⟩:=h1
      refine ⟨fr1,to,a,by rw [b];exact hm2,?_⟩
      rw [c];rfl
  | m + 1,k,l,to,h,hl,hm,hm2=>by
    have hlt:k<x.In.length:=by omega
    rw [List.drop_eq_getElem_cons hlt,Qya]
    have hstep:Jaa n s i fr x (k:Int) to=if x.In[k]<0∨n.Rings≤x.In[k] then some (.inr (.inr ([],3))) else if (mget x.In[k] to).isSome then some (.inr (.inr ([],6))) else some (.inl (((k+1:Nat):Int),mset x.In[k] i to)):=by
      unfold Jaa
      rw [if_pos (by simp;omega),J8a (List.getElem?_eq_getElem hlt),Option.bind_some,Zna (by omega)]
      by_cases hr:x.In[k]<0∨n.Rings≤x.In[k]
      · rw [if_pos (by simp;omega),if_pos hr];rfl
      · rw [if_neg (by simp;omega),if_neg hr]
        rfl
    simp only [takeN,hstep]
    by_cases hr:x.In[k]<0∨n.Rings≤x.In[k]
    · simp only [if_pos hr]
    · simp only [if_neg hr]
      have hrl:x.In[k].toNat<l.length:=by omega
      have hge:=List.getElem?_eq_getElem hrl
      have hge2:(l.map Ends.dst)[x.In[k].toNat]?=some l[x.In[k].toNat].dst:=by rw [List.getElem?_map,hge];rfl
      have hget:=hm2.get _ _ hge2
      have hc:((x.In[k].toNat:Nat):Int)=x.In[k]:=by omega
      rw [hc] at hget
      simp only [hge]
      by_cases he:0≤l[x.In[k].toNat].dst
      · rw [if_neg (by omega)] at hget
        simp only [if_pos he,hget,Option.isSome_some,if_true]
      · rw [if_pos (by omega)] at hget
        simp only [if_neg he,hget,Option.isSome_none,Bool.false_eq_true,if_false]
        obtain ⟨q1,q2⟩:=map_set_dst (i:Int) hge
        have hm3:=hm2.set (y:=(i:Int)) hge2 (by omega) (by omega)
        rw [hc,← q1] at hm3
        exact chk_l2 n s i x fr hx hx2 hi hs hR m (k+1) (l.set x.In[k].toNat ⟨l[x.In[k].toNat].src,i⟩) (mset x.In[k] i to) (by omega) (by simpa using hl) (by rw [q2];exact hm) hm3
theorem chk_A (x:Node) (h:arityN x.Kind≠none):((decide (x.A<0)) || decide (x.A > ((mget x.Kind (mset 2 3 (mset 1 3 ([]:List (Int × Int))))).getD 0)))=badA x:=by
  have e:mset 2 3 (mset 1 3 ([]:List (Int × Int)))=[(1,3),(2,3)]:=by decide
  rw [e]
  unfold badA
  by_cases h1:x.Kind=1
  · rw [Bool.eq_iff_iff];simp [h1,mget];omega
  · by_cases h2:x.Kind=2
    · rw [Bool.eq_iff_iff];simp [h1,h2,mget]
    · rw [Bool.eq_iff_iff];simp [h1,h2,mget];omega
theorem chk_node (n:Net) (s i:Nat) (x:Node) (hx:n.Nodes[i]?=some x) (hx1:x.Out.length≤1099511627776) (hx2:x.In.length≤1099511627776) (hi:i<n.Nodes.length) (hn:n.Nodes.length≤12) (hs:s≤12) (hR:n.Rings≤16) (l:List Ends) (fr to:List (Int × Int))
    (hl:(l.length:Int)=n.Rings) (hm:MRi (l.map Ends.src) fr) (hm2:MRi (l.map Ends.dst) to) :
    match oneN n.Rings i x l with
      | .inl e=>Jna n s i fr to=some (.inr ([],e))
      | .inr l1=>∃ fr1 to1,MRi (l1.map Ends.src) fr1∧MRi (l1.map Ends.dst) to1∧Jna n s i fr to=some (.inl (((if x.Kind=8 then s+1 else s:Nat):Int),((i+1:Nat):Int),fr1,to1)):=by
  have h2:=chk_l2 n s i x fr hx1 hx2 (by omega) hs hR x.In.length 0 l to (by omega) hl hm hm2
  simp only [List.drop_zero,Int.natCast_zero] at h2
  have k3:arityN x.Kind≠none→Q8a n s i fr to x=if badA x=true then some (.inr ([],3)) else iter (fun ss:Int × List (Int × Int)=>Jaa n s i fr x ss.1 ss.2) (0,to):=fun ha=>by
    unfold Q8a
    rw [chk_A x ha];rfl
  have fit:∀ (a b:Int),arityN x.Kind=some (a,b)→∀ (p q:Option Bool),p=some (fitsN x.In.length a)→q=some (fitsN x.Out.length b) →
      (Option.bind p fun x9=>Option.bind (if (!x9)=true then some true else Option.bind q fun x10=>some (!x10)) fun c11=>if c11=true then (Option.map Sum.inr (some ([],4))) else Q8a n s i fr to x)
        = (if Q4b x≠0 then (some (.inr ([],Q4b x)):Option ((Int × Int × (List (Int × Int)) × (List (Int × Int))) ⊕ ((List Int) × Int))) else iter (fun ss:Int × List (Int × Int)=>Jaa n s i fr x ss.1 ss.2) (0,to)):=fun a b hab p q hp hq=>by
    rw [hp,hq,k3 (by rw [hab];simp)]
    unfold Q4b
    rw [hab]
    simp only [Option.bind_some]
    cases fitsN x.In.length a
    · simp
    · cases fitsN x.Out.length b
      · simp
      · cases hb:badA x<;>simp
  have c1:∀ m:Nat,Q7a (m:Int)=some (fitsN m 1):=fun m=>by
    unfold Q7a fitsN;congr 1;rw [Bool.eq_iff_iff];simp
  have c2:∀ m:Nat,Zwa (m:Int)=some (fitsN m (-1)):=fun m=>by
    unfold Zwa fitsN;congr 1;rw [Bool.eq_iff_iff];simp;omega
  have c3:∀ m:Nat,Vka (m:Int)=some (fitsN m 0):=fun m=>by
    unfold Vka fitsN;congr 1;rw [Bool.eq_iff_iff];simp
  have hl7:Jna n s i fr to=if Q4b x≠0 then some (.inr ([],Q4b x)) else iter (fun ss:Int × List (Int × Int)=>Jaa n s i fr x ss.1 ss.2) (0,to):=by
    unfold Jna
    rw [if_pos (by simp;omega),J8a hx,Option.bind_some]
    by_cases h1:x.Kind=1
    · rw [if_pos (by simp [h1])];exact fit 0 1 (by simp [arityN,h1]) _ _ (c3 _) (c1 _)
    rw [if_neg (by simp [h1])]
    by_cases h2:x.Kind=2
    · rw [if_pos (by simp [h2])];exact fit 1 1 (by simp [arityN,h2]) _ _ (c1 _) (c1 _)
    rw [if_neg (by simp [h2])]
    by_cases h3:x.Kind=3
    · rw [if_pos (by simp [h3])];exact fit 1 1 (by simp [arityN,h3]) _ _ (c1 _) (c1 _)
    rw [if_neg (by simp [h3])]
    by_cases h4:x.Kind=4
    · rw [if_pos (by simp [h4])];exact fit 1 1 (by simp [arityN,h4]) _ _ (c1 _) (c1 _)
    rw [if_neg (by simp [h4])]
    by_cases h5:x.Kind=5
    · rw [if_pos (by simp [h5])];exact fit 1 (-1) (by simp [arityN,h5]) _ _ (c1 _) (c2 _)
    rw [if_neg (by simp [h5])]
    by_cases h7:x.Kind=7
    · rw [if_pos (by simp [h7])];exact fit 1 (-1) (by simp [arityN,h7]) _ _ (c1 _) (c2 _)
    rw [if_neg (by simp [h7])]
    by_cases h6:x.Kind=6
    · rw [if_pos (by simp [h6])];exact fit (-1) 1 (by simp [arityN,h6]) _ _ (c2 _) (c1 _)
    rw [if_neg (by simp [h6])]
    by_cases h8:x.Kind=8
    · rw [if_pos (by simp [h8])];exact fit 1 0 (by simp [arityN,h8]) _ _ (c1 _) (c3 _)
    rw [if_neg (by simp [h8])]
    have:Q4b x=5:=by unfold Q4b;simp [arityN,h1,h2,h3,h4,h5,h6,h7,h8]
    rw [this];rfl
  unfold oneN
  rw [hl7]
  by_cases he:Q4b x≠0
  · simp only [if_pos he]
  · simp only [if_neg he]
    exact h2
theorem contains_int_eq (out:List Nat) (ho:out.length≤12) (z:Int) (hz:0≤z):Vla (out.map (fun i:Nat=>(i:Int))) z=some (out.contains z.toNat):=by
  unfold Vla Jeb
  have:=iter_list0 (σ:=Unit) (out.map (fun i:Nat=>(i:Int))) (by simp;omega) (fun k _=>(k:Int)) (body:=fun ss=>Via (out.map (fun i:Nat=>(i:Int))) z ss)
    (fun k r _=>if z=r then some (.inr (k:Int)) else some (.inl ())) (fun _=>some (-1)) ()
    (fun k r _ hk hlt h1 h2 h3=>by
      unfold Via
      rw [h2,h1,h3]
      by_cases h:z=r<;>simp [h])
    (fun _ h=>by unfold Via;rw [h];rfl)
  simp only [Int.natCast_zero] at this
  rw [this]
  have key:∀ (ys:List Nat) (k:Nat),∃ v:Int,foldE (σ:=Unit) (fun k r _=>if z=r then some (.inr (k:Int)) else some (.inl ())) (fun _=>some (-1:Int)) k (ys.map (fun i:Nat=>(i:Int))) ()=some v∧decide (v ≥ 0)=ys.contains z.toNat:=by
    intro ys
    induction ys with
    | nil=>intro k;exact ⟨-1,rfl,by simp⟩
    | cons y ys ih =>
      intro k
      simp only [List.map_cons,foldE]
      by_cases h:z=(y:Int)
      · rw [if_pos h]
        refine ⟨k,rfl,?_⟩
        have:z.toNat=y:=by omega
        simp [this]
      · rw [if_neg h]
        simp only
        obtain ⟨v,h1,h2⟩:=ih (k+1)
        refine ⟨v,h1,?_⟩
        rw [h2]
        have:¬ z.toNat=y:=by omega
        simp [this]
  obtain ⟨v,h1,h2⟩:=key out 0
  rw [h1,Option.bind_some,h2]
section
variable {n:Net} {l:List Ends} (hn:NetL n l) {fr:List (Int × Int)} (hm:MRi (l.map Ends.src) fr)
include hn hm
theorem chk_l4 (out:List Nat) (ho:out.length≤12) (best k:Int) {x:Node} {i:Nat} (hx:n.Nodes[i]?=some x) (hxl:x.In.length≤1099511627776):∀ (m j:Nat) (b:Bool),j+m=x.In.length →
    iter (fun ss:Bool × Int=>J9a fr (out.map (fun i:Nat=>(i:Int))) best k x ss.1 ss.2) (b,(j:Int))=some (.inl (if (b && (x.In.drop j).all fun r=>match l[r.toNat]? with | some e=>out.contains e.src.toNat | none=>false)=true then k else best,IntKind.i64.wrap (k - 1)))
  | 0,j,b,h=>by
    have hk:j=x.In.length:=by omega
    subst hk
    have hstep:J9a fr (out.map (fun i:Nat=>(i:Int))) best k x b (x.In.length:Int)=some (.inr (.inl (if b=true then k else best,IntKind.i64.wrap (k - 1)))):=by
      unfold J9a
      rw [if_neg (by simp)]
      cases b<;>rfl
    rw [Qya]
    simp only [hstep,List.drop_length,List.all_nil,Bool.and_true]
  | m + 1,j,b,h=>by
    have hlt:j<x.In.length:=by omega
    have hmem:x.In[j]∈x.In:=List.getElem_mem hlt
    obtain ⟨r0,r1,e,he,_⟩:=hn.inn i x hx _ hmem
    obtain ⟨s0,_⟩:=src_lt hn he
    have hge2:(l.map Ends.src)[x.In[j].toNat]?=some e.src:=by rw [List.getElem?_map,he];rfl
    have hget:=hm.get _ _ hge2
    rw [Int.toNat_of_nonneg r0,if_neg (by omega)] at hget
    have hstep:J9a fr (out.map (fun i:Nat=>(i:Int))) best k x b (j:Int)=some (.inl (b && out.contains e.src.toNat,((j+1:Nat):Int))):=by
      unfold J9a
      rw [if_pos (by simp;omega),J8a (List.getElem?_eq_getElem hlt),Option.bind_some,Zna (by omega),hget]
      cases b
      · rfl
      · simp only [if_true,Option.getD_some,contains_int_eq out ho _ s0,Option.bind_some,Bool.true_and]
    rw [Qya]
    simp only [hstep]
    rw [chk_l4 out ho best k hx hxl m (j+1) _ (by omega),List.drop_eq_getElem_cons hlt,List.all_cons,he]
    simp only [Bool.and_assoc]
theorem chk_l5 (hio:∀ x∈n.Nodes,x.In.length≤1099511627776) (cnt:Nat) (hcnt:cnt≤12) (out:List Nat) (ho:out.length≤12):∀ (k:Nat) (best:Int),k≤n.Nodes.length →
    iter (fun ss:Int × Int=>J7a n fr (cnt:Int) (out.map (fun i:Nat=>(i:Int))) ss.1 ss.2) (best,(k:Int) - 1)=(if lastD (okN l out n.Nodes) k best<0 then some (.inr ([],7)) else some (.inl (((cnt+1:Nat):Int),out.map (fun i:Nat=>(i:Int))++[lastD (okN l out n.Nodes) k best])))
  | 0,best,_=>by
    have hstep:J7a n fr (cnt:Int) (out.map (fun i:Nat=>(i:Int))) best (((0:Nat):Int) - 1)=some (.inr (if best<0 then .inr ([],7) else .inl (((cnt+1:Nat):Int),out.map (fun i:Nat=>(i:Int))++[best]))):=by
      unfold J7a
      rw [if_neg (by simp),Zna (by omega),Qnb (by simp;omega)]
      by_cases hb:best<0<;>simp [hb]
    rw [Qya]
    simp only [hstep,lastD]
    by_cases hb:best<0<;>simp [hb]
  | k + 1,best,hk=>by
    have hlt:k<n.Nodes.length:=by omega
    have hx:n.Nodes[k]?=some n.Nodes[k]:=List.getElem?_eq_getElem hlt
    have hn2:=hn.n2
    have hw:IntKind.i64.wrap ((k:Int) - 1)=(k:Int) - 1:=Yqa (by omega) (by omega)
    have hok:okN l out n.Nodes k=(!(out.contains k) && fedN l out n.Nodes[k]):=by unfold okN;rw [hx]
    have hstep:J7a n fr (cnt:Int) (out.map (fun i:Nat=>(i:Int))) best (((k+1:Nat):Int) - 1)=some (.inl (if okN l out n.Nodes k=true then (k:Int) else best,(k:Int) - 1)):=by
      have e1:(((k+1:Nat):Int) - 1)=(k:Int):=by omega
      rw [e1]
      unfold J7a
      rw [if_pos (by simp),contains_int_eq out ho _ (by omega),Option.bind_some,Int.toNat_natCast]
      by_cases hc:out.contains k=true
      · rw [if_pos hc,hw,hok,hc];simp
      · rw [if_neg hc,J8a hx,Option.bind_some]
        have:=chk_l4 hn hm out ho best k hx (hio _ (List.getElem_mem hlt)) n.Nodes[k].In.length 0 true (by omega)
        simp only [Int.natCast_zero,List.drop_zero,Bool.true_and] at this
        rw [this,hw,hok]
        have hc':out.contains k=false:=by simpa using hc
        rw [hc']
        simp only [Bool.not_false,Bool.true_and]
        rfl
    rw [Qya]
    simp only [hstep,lastD]
    exact chk_l5 hio cnt hcnt out ho k _ (by omega)
theorem chk_l6 (hio:∀ x∈n.Nodes,x.In.length≤1099511627776):∀ (m:Nat) (out:List Nat),out.length+m=n.Nodes.length →
    iter (fun ss:Int × List Int=>Jta n fr ss.1 ss.2) ((out.length:Int),out.map (fun i:Nat=>(i:Int)))=some (match ordN l n.Nodes m out with
      | none=>([],7)
      | some out=>(out.map (fun i:Nat=>(i:Int)),0))
  | 0,out,h=>by
    have:Jta n fr (out.length:Int) (out.map (fun i:Nat=>(i:Int)))=some (.inr (out.map (fun i:Nat=>(i:Int)),0)):=by
      unfold Jta
      rw [if_neg (by simp;omega)];rfl
    rw [Qya]
    simp only [this,ordN]
  | m + 1,out,h=>by
    have hn2:=hn.n2
    have hstep:Jta n fr (out.length:Int) (out.map (fun i:Nat=>(i:Int)))=match firstN (okN l out n.Nodes) n.Nodes.length 0 with
      | some i=>some (.inl (((out++[i]).length:Int),(out++[i]).map (fun i:Nat=>(i:Int))))
      | none=>some (.inr ([],7)):=by
      unfold Jta
      rw [if_pos (by simp;omega),Yqa (by omega) (by omega),chk_l5 hn hm hio out.length (by omega) out (by omega) n.Nodes.length (-1) (by omega),lastD_eq]
      cases firstN (okN l out n.Nodes) n.Nodes.length 0 with
      | none=>rfl
      | some i=>simp
    rw [Qya]
    simp only [hstep,ordN]
    cases firstN (okN l out n.Nodes) n.Nodes.length 0 with
    | none=>rfl
    | some i =>
      simp only
      exact chk_l6 hio m (out++[i]) (by simp;omega)
end
theorem chk_l7 (n:Net) (hn:n.Nodes.length≤12) (hn1:1≤n.Nodes.length) (hR0:0≤n.Rings) (hR:n.Rings≤16) (hm1:1≤n.Room) (hm2':n.Room≤6) (hio:∀ x∈n.Nodes,x.In.length≤1099511627776∧x.Out.length≤1099511627776) :
    ∀ (m k s:Nat) (l:List Ends) (fr to:List (Int × Int)),k+m=n.Nodes.length→s≤k→(l.length:Int)=n.Rings→MRi (l.map Ends.src) fr→MRi (l.map Ends.dst) to →
    (∀ s1 l1,nodesN n.Rings k (n.Nodes.drop k) s l=.inr (s1,l1)→¬ (l1.any (fun e=>decide (e.src<0∨e.dst<0))=true)→s1=1→NetL n l1) →
    iter (fun ss:Int × Int × List (Int × Int) × List (Int × Int)=>Jna n ss.1 ss.2.1 ss.2.2.1 ss.2.2.2) ((s:Int),(k:Int),fr,to)=some (match nodesN n.Rings k (n.Nodes.drop k) s l with
      | .inl e=>([],e)
      | .inr (s,l)=>if l.any (fun e=>decide (e.src<0∨e.dst<0)) then ([],9) else if s≠1 then ([],4) else match ordN l n.Nodes n.Nodes.length [] with
        | none=>([],7)
        | some out=>(out.map (fun i:Nat=>(i:Int)),0))
  | 0, k, s,l,fr,to,h,hs,hl,hm,hm2,hL=>by
    have hk:k=n.Nodes.length:=by omega
    subst hk
    rw [List.drop_length] at hL ⊢
    have hlen:∀ (f:Ends→Int) (mm:List (Int × Int)),MRi (l.map f) mm→((mm.length:Int)=n.Rings ↔ ∀ e∈l,0≤f e):=fun f mm hmm=>by
      have e1:=hmm.len
      have e2:(l.map f).countP (fun x=>decide (0≤x))=(l.map f).length ↔ ∀ x∈l.map f,decide (0≤x)=true:=List.countP_eq_length
      rw [← e1,List.length_map] at e2
      constructor
      · intro h1 e he
        have:=e2.1 (by omega) (f e) (List.mem_map_of_mem he)
        simpa using this
      · intro h1
        have:=e2.2 (fun x hx=>by obtain ⟨e,he,rfl⟩:=List.mem_map.1 hx;simpa using h1 e he)
        omega
    have a1:=hlen _ _ hm
    have a2:=hlen _ _ hm2
    simp only [nodesN] at hL ⊢
    have hany:(l.any (fun e=>decide (e.src<0∨e.dst<0))=true) ↔ ¬ ((fr.length:Int)=n.Rings∧(to.length:Int)=n.Rings):=by
      rw [a1,a2]
      simp only [List.any_eq_true,decide_eq_true_eq]
      constructor
      · rintro ⟨e,he,h1⟩ ⟨h2,h3⟩
        have:=h2 e he;have:=h3 e he;omega
      · intro h1
        refine Classical.byContradiction fun h2=>h1 ⟨fun e he=>?_,fun e he=>?_⟩
        · refine Classical.byContradiction fun h3=>h2 ⟨e,he,.inl (by omega)⟩
        · refine Classical.byContradiction fun h3=>h2 ⟨e,he,.inr (by omega)⟩
    have hstep:Jna n (s:Int) (n.Nodes.length:Int) fr to=Option.map Sum.inr (if (l.any (fun e=>decide (e.src<0∨e.dst<0)))=true then some ([],9) else if s≠1 then some ([],4) else iter (fun ss:Int × List Int=>Jta n fr ss.1 ss.2) (0,[])):=by
      unfold Jna
      rw [if_neg (by simp)]
      congr 1
      by_cases h1:l.any (fun e=>decide (e.src<0∨e.dst<0))=true
      · have:=hany.1 h1
        rw [if_pos (by simp;omega),if_pos h1]
      · have:(fr.length:Int)=n.Rings∧(to.length:Int)=n.Rings:=by
          refine Classical.byContradiction fun h2=>h1 (hany.2 h2)
        rw [if_neg (by simp;omega),if_neg h1]
        by_cases h2:s=1
        · subst h2;rfl
        · rw [if_pos (by simp;omega),if_pos h2]
    rw [Qya]
    simp only [hstep]
    by_cases h1:l.any (fun e=>decide (e.src<0∨e.dst<0))=true
    · simp only [if_pos h1];rfl
    · simp only [if_neg h1]
      by_cases h2:s=1
      · subst h2
        have hnl:=hL 1 l rfl h1 rfl
        have:=chk_l6 hnl hm (fun x hx=>(hio x hx).1) n.Nodes.length [] (by simp)
        simp only [List.length_nil,Int.natCast_zero,List.map_nil] at this
        simp only [ne_eq,not_true_eq_false,if_false,this]
        rfl
      · simp only [ne_eq,h2,not_false_eq_true,if_true];rfl
  | m + 1,k,s,l,fr,to,h,hs,hl,hm,hm2,hL=>by
    have hlt:k<n.Nodes.length:=by omega
    have hx:n.Nodes[k]?=some n.Nodes[k]:=List.getElem?_eq_getElem hlt
    obtain ⟨q1,q2⟩:=hio _ (List.getElem_mem hlt)
    have hone:=chk_node n s k n.Nodes[k] hx q2 q1 hlt hn (by omega) hR l fr to hl hm hm2
    rw [List.drop_eq_getElem_cons hlt] at hL ⊢
    simp only [nodesN] at hL ⊢
    rw [Qya]
    cases ho:oneN n.Rings k n.Nodes[k] l with
    | inl e =>
      rw [ho] at hone
      simp only at hone
      simp only [hone]
    | inr l1 =>
      rw [ho] at hone hL
      obtain ⟨fr1,to1,r1,r2,r3⟩:=hone
      simp only [r3]
      exact chk_l7 n hn hn1 hR0 hR hm1 hm2' hio m (k+1) _ l1 fr1 to1 (by omega) (by split<;>omega) (by rw [oneN_len ho];exact hl) r1 r2 (by simpa using hL)
theorem crossref_CheckNet_eq (n:Net) (hio:∀ x∈n.Nodes,x.In.length≤1099511627776∧x.Out.length≤1099511627776):Yba n=some (netR n):=by
  unfold Yba netR
  have hL:∀ l,lookN n=.inr l→NetL n l:=fun l h=>lookN_ok h
  unfold lookN at hL ⊢
  by_cases h1:n.Nodes.length<1∨12<n.Nodes.length∨n.Rings<0∨16<n.Rings
  · rw [if_pos (by simp only [Bool.or_eq_true,beq_iff_eq,decide_eq_true_eq];omega),if_pos h1]
  rw [if_neg (by simp only [Bool.or_eq_true,beq_iff_eq,decide_eq_true_eq];omega),if_neg h1]
  rw [if_neg h1] at hL
  by_cases h2:n.Room<1∨6<n.Room
  · rw [if_pos (by simp;omega),if_pos h2]
  rw [if_neg (by simp;omega),if_neg h2]
  rw [if_neg h2] at hL
  have:=chk_l7 n (by omega) (by omega) (by omega) (by omega) (by omega) (by omega) hio n.Nodes.length 0 0 (List.replicate n.Rings.toNat noEnds) [] [] (by omega) (by omega) (by simp;omega) (by simpa [noEnds] using MRi.start n.Rings.toNat) (by simpa [noEnds] using MRi.start n.Rings.toNat) (fun s1 l1 a b c=>by
    simp only [List.drop_zero] at a
    have:=hL l1
    rw [a] at this
    simp only at this
    rw [if_neg b,c] at this
    exact this rfl)
  simp only [Int.natCast_zero,List.drop_zero] at this
  rw [this]
  cases nodesN n.Rings 0 n.Nodes 0 (List.replicate n.Rings.toNat noEnds) with
  | inl e=>rfl
  | inr q =>
    obtain ⟨s,l⟩:=q
    simp only
    by_cases h3:l.any (fun e=>decide (e.src<0∨e.dst<0))=true
    · rw [if_pos h3,if_pos h3]
    · rw [if_neg h3,if_neg h3]
      by_cases h4:s≠1
      · rw [if_pos h4,if_pos h4]
      · (rw [if_neg h4,if_neg h4])<;>cases ho:ordN l n.Nodes n.Nodes.length []<;>simp only [ho]
end Go.Proofs.YtfbmoockopakjaaGreat
namespace Go.Proofs.YtfbmoockopakjaaGreat
set_option linter.unusedVariables false
set_option linter.unusedSimpArgs false
theorem netR_ok {n:Net} (h:(netR n).2=0):∃ l out,lookN n=.inr l∧NetL n l∧ordN l n.Nodes n.Nodes.length []=some out∧netR n=(out.map (fun i:Nat=>(i:Int)),0):=by
  unfold netR at h ⊢
  cases hl:lookN n with
  | inl e=>rw [hl] at h;simp only at h;subst h;exact absurd hl (lookN_ne n)
  | inr l =>
    rw [hl] at h
    simp only at h ⊢
    cases ho:ordN l n.Nodes n.Nodes.length [] with
    | none=>rw [ho] at h;simp at h
    | some out=>exact ⟨l,out,rfl,lookN_ok hl,ho,rfl⟩
theorem net_io {n:Net} (h:mNet n≤1048576):∀ x∈n.Nodes,x.In.length≤1099511627776∧x.Out.length≤1099511627776:=fun x hx=>by
  have h1:mNode x≤mL mNode n.Nodes:=sum_le hx
  have h0:mNode x=mL mI x.In+mL mI x.Out+2:=rfl
  have h2:x.In.length≤mL mI x.In:=len_le (fun _=>Nat.le_refl 1) _
  have h3:x.Out.length≤mL mI x.Out:=len_le (fun _=>Nat.le_refl 1) _
  unfold mNet at h
  omega
def itemsErr:List (List Item)→Int
  | []=>0
  | s::r=>if 20<s.length then 2 else if s.any (fun x=>decide (x.Dep≠0)) then 4 else itemsErr r
def seenErr (len:Nat):List Node→List Int→Int
  | [],_=>0
  | x::xs,seen=>if x.Kind≠1 then seenErr len xs seen else if (len:Int)≤x.A then 5 else if x.A∈seen then 6 else seenErr len xs (x.A::seen)
def srcR (n:Net) (l:List (List Item)):Int:=if (netR n).2≠0 then (netR n).2 else if 4<l.length then 2 else if itemsErr l≠0 then itemsErr l else seenErr l.length n.Nodes []
theorem items_loop (l:List (List Item)) (hl:l.length≤4) {body:Int→Option (Int ⊕ Int)} {inner:Nat→List Item→Int→Option (Int ⊕ (Int ⊕ Int))} (fin:Option Int)
    (h1:∀ (k:Nat) s,l[k]?=some s→k<l.length→body (k:Int)=if 20<s.length then some (.inr 2) else iter (inner k s) 0)
    (h2:body (l.length:Int)=fin.map Sum.inr)
    (h3:∀ (k:Nat) s (j:Nat) x,l[k]?=some s→k<l.length→s[j]?=some x→j<20→inner k s (j:Int)=if x.Dep≠0 then some (.inr (.inr 4)) else some (.inl ((j+1:Nat):Int)))
    (h4:∀ (k:Nat) s,l[k]?=some s→k<l.length→inner k s (s.length:Int)=some (.inr (.inl ((k+1:Nat):Int)))) :
    ∀ (m k:Nat),k+m=l.length→iter body (k:Int)=if itemsErr (l.drop k)≠0 then some (itemsErr (l.drop k)) else fin
  | 0,k,h=>by
    have hk:k=l.length:=by omega
    subst hk
    rw [Qya,h2,List.drop_length]
    simp only [itemsErr,ne_eq,not_true_eq_false,if_false]
    cases fin<;>rfl
  | m + 1,k,h=>by
    have hlt:k<l.length:=by omega
    have hs:l[k]?=some l[k]:=List.getElem?_eq_getElem hlt
    rw [Qya,h1 k _ hs hlt,List.drop_eq_getElem_cons hlt]
    generalize hsq:l[k]=s at *
    simp only [itemsErr]
    by_cases h20:20<s.length
    · simp [h20]
    · simp only [if_neg h20]
      have key:∀ (q j:Nat),j+q=s.length→iter (inner k s) (j:Int)=if (s.drop j).any (fun x=>decide (x.Dep≠0)) then some (.inr 4) else some (.inl ((k+1:Nat):Int)):=by
        intro q
        induction q with
        | zero =>
          intro j hj
          have hj:j=s.length:=by omega
          subst hj
          rw [Qya,h4 k s hs hlt,List.drop_length]
          simp
        | succ q ih =>
          intro j hj
          have hjl:j<s.length:=by omega
          rw [Qya,h3 k s j s[j] hs hlt (List.getElem?_eq_getElem hjl) (by omega),List.drop_eq_getElem_cons hjl,List.any_cons]
          by_cases hd:s[j].Dep≠0
          · simp [hd]
          · rw [if_neg hd]
            simp only
            rw [ih (j+1) (by omega)]
            simp [hd]
      have:=key s.length 0 (by omega)
      simp only [Int.natCast_zero,List.drop_zero] at this
      rw [this]
      by_cases hany:s.any (fun x=>decide (x.Dep≠0))=true
      · simp only [if_pos hany];simp
      · simp only [if_neg hany]
        exact items_loop l hl fin h1 h2 h3 h4 m (k+1) (by omega)
theorem seenL_get {N:Nat} (hN:N≤4) (seen:List Int) {a:Int} (h0:0≤a) (h1:a<N):((List.range N).map fun i:Nat=>decide ((i:Int)∈seen))[a.toNat]?=some (decide (a∈seen)):=by
  rw [List.getElem?_map,List.getElem?_range (by omega)]
  simp only [Option.map_some,Option.some.injEq]
  rw [Int.toNat_of_nonneg h0]
theorem seen_prog (n:Net) (l:List (List Item)) (hl:l.length≤4) (hn:n.Nodes.length≤12) (hA:∀ x∈n.Nodes,0≤x.A):∀ (m k:Nat) (seen:List Int),k+m=n.Nodes.length →
    iter (fun ss:Int × List Bool=>V7a n l ss.1 ss.2) ((k:Int),(List.range l.length).map fun i:Nat=>decide ((i:Int)∈seen))=some (seenErr l.length (n.Nodes.drop k) seen)
  | 0,k,seen,h=>by
    have hk:k=n.Nodes.length:=by omega
    subst hk
    have:∀ b,V7a n l (n.Nodes.length:Int) b=some (.inr 0):=fun b=>by unfold V7a;rw [if_neg (by simp)];rfl
    rw [Qya]
    simp only [this,List.drop_length,seenErr]
  | m + 1, k, seen,h=>by
    have hlt:k<n.Nodes.length:=by omega
    have hx:n.Nodes[k]?=some n.Nodes[k]:=List.getElem?_eq_getElem hlt
    have hA':=hA _ (List.getElem_mem hlt)
    rw [List.drop_eq_getElem_cons hlt,Qya]
    generalize hxq:n.Nodes[k]=x at *
    simp only [seenErr]
    have hstep:V7a n l (k:Int) ((List.range l.length).map fun i:Nat=>decide ((i:Int)∈seen))=if x.Kind≠1 then some (.inl (((k+1:Nat):Int),(List.range l.length).map fun i:Nat=>decide ((i:Int)∈seen))) else if (l.length:Int)≤x.A then some (.inr 5) else if x.A∈seen then some (.inr 6) else some (.inl (((k+1:Nat):Int),(List.range l.length).map fun i:Nat=>decide ((i:Int)∈x.A::seen))):=by
      unfold V7a
      rw [if_pos (by simp;omega),J8a hx,Option.bind_some,Zna (by omega)]
      by_cases h1:x.Kind≠1
      · rw [if_pos (by simpa using h1),if_pos h1]
      · rw [if_neg (by simpa using h1),if_neg h1]
        by_cases h2:(l.length:Int)≤x.A
        · rw [if_pos (by simpa using h2),if_pos h2];rfl
        · rw [if_neg (by simpa using h2),if_neg h2]
          have hix:ixN ((List.range l.length).map fun i:Nat=>decide ((i:Int)∈seen)) x.A=some x.A.toNat:=by unfold ixN;rw [if_pos (by simp;omega)]
          have hg:=seenL_get hl seen hA' (show x.A<l.length by omega)
          simp only [hix,hg,Option.bind_some]
          by_cases h3:x.A∈seen
          · simp [h3]
          · simp only [h3,decide_false,Bool.false_eq_true,if_false]
            congr 3
            apply List.ext_getElem?
            intro j
            rw [List.getElem?_set,List.getElem?_map,List.getElem?_map]
            by_cases hj:j<l.length
            · rw [List.getElem?_range hj]
              simp only [List.length_map,List.length_range,Option.map_some]
              by_cases hjx:x.A.toNat=j
              · rw [if_pos hjx,if_pos (by omega)]
                have:(j:Int)=x.A:=by omega
                simp [this]
              · rw [if_neg hjx]
                have:¬ (j:Int)=x.A:=by omega
                simp [this]
            · rw [if_neg (by omega),List.getElem?_eq_none (by simp;omega)];rfl
    rw [hstep]
    by_cases h1:x.Kind≠1
    · simp only [if_pos h1]
      exact seen_prog n l hl hn hA m (k+1) seen (by omega)
    · simp only [if_neg h1]
      by_cases h2:(l.length:Int)≤x.A
      · simp only [if_pos h2]
      · simp only [if_neg h2]
        by_cases h3:x.A∈seen
        · simp only [if_pos h3]
        · simp only [if_neg h3]
          exact seen_prog n l hl hn hA m (k+1) (x.A::seen) (by omega)
theorem seen_ref (n:Net) (l:List (List Item)) (hl:l.length≤4) (hn:n.Nodes.length≤12):∀ (m k:Nat) (seen:List Int) (rd:List (Int × Int)),k+m=n.Nodes.length→(∀ a,mget a rd=if a∈seen then some 1 else none) →
    iter (fun ss:Int × List (Int × Int)=>Jla n l ss.1 ss.2) ((k:Int),rd)=some (seenErr l.length (n.Nodes.drop k) seen)
  | 0,k,seen,rd,h,hr=>by
    have hk:k=n.Nodes.length:=by omega
    subst hk
    have:∀ b,Jla n l (n.Nodes.length:Int) b=some (.inr 0):=fun b=>by unfold Jla;rw [if_neg (by simp)];rfl
    rw [Qya]
    simp only [this,List.drop_length,seenErr]
  | m + 1,k,seen,rd,h,hr=>by
    have hlt:k<n.Nodes.length:=by omega
    have hx:n.Nodes[k]?=some n.Nodes[k]:=List.getElem?_eq_getElem hlt
    rw [List.drop_eq_getElem_cons hlt,Qya]
    generalize hxq:n.Nodes[k]=x at *
    simp only [seenErr]
    have hstep:Jla n l (k:Int) rd=if x.Kind≠1 then some (.inl (((k+1:Nat):Int),rd)) else if (l.length:Int)≤x.A then some (.inr 5) else if x.A∈seen then some (.inr 6) else some (.inl (((k+1:Nat):Int),mset x.A 1 rd)):=by
      unfold Jla
      rw [if_pos (by simp;omega),J8a hx,Option.bind_some,Zna (by omega),mget_mset_same,hr]
      by_cases h1:x.Kind≠1
      · rw [if_neg (by simpa using h1),if_pos h1]
      · rw [if_pos (by simpa using h1),if_neg h1]
        by_cases h2:(l.length:Int)≤x.A
        · rw [if_pos (by simpa using h2),if_pos h2];rfl
        · rw [if_neg (by simpa using h2),if_neg h2]
          by_cases h3:x.A∈seen
          · rw [if_pos h3,if_pos h3,if_pos (by decide)];rfl
          · rw [if_neg h3,if_neg h3,if_neg (by decide)]
            rfl
    rw [hstep]
    by_cases h1:x.Kind≠1
    · simp only [if_pos h1]
      exact seen_ref n l hl hn m (k+1) seen rd (by omega) hr
    · simp only [if_neg h1]
      by_cases h2:(l.length:Int)≤x.A
      · simp only [if_pos h2]
      · simp only [if_neg h2]
        by_cases h3:x.A∈seen
        · simp only [if_pos h3]
        · simp only [if_neg h3]
          refine seen_ref n l hl hn m (k+1) (x.A::seen) _ (by omega) (fun a=>?_)
          by_cases ha:a=x.A
          · subst ha;rw [mget_mset_same];simp
          · rw [mget_mset_ne 1 ha,hr a];simp [ha]
theorem nodeA {n:Net} {l:List Ends} (h:NetL n l):∀ x∈n.Nodes,0≤x.A:=fun x hx=>by
  obtain ⟨i,hi,rfl⟩:=List.mem_iff_getElem.1 hx
  have:=h.err i _ (List.getElem?_eq_getElem hi)
  unfold Q4b at this
  split at this
  · exact absurd this (by decide)
  · split at this
    · exact absurd this (by decide)
    · split at this
      · exact absurd this (by decide)
      · rename_i hb
        unfold badA at hb
        simp at hb
        omega
theorem net_Sources_eq (n:Net) (l:List (List Item)) (hio:∀ x∈n.Nodes,x.In.length≤1099511627776∧x.Out.length≤1099511627776):net_Sources n l=some (srcR n l):=by
  unfold net_Sources srcR
  rw [net_Check_eq n hio,Option.bind_some]
  by_cases h:(netR n).2=0
  · obtain ⟨le,out,_,hl,_,_⟩:=netR_ok h
    rw [if_neg (show ¬ ((netR n).2 != 0)=true by simp [h]),if_neg (show ¬ (netR n).2≠0 by simp [h])]
    by_cases h4:4<l.length
    · rw [if_pos (by simp;omega),if_pos h4]
    · rw [if_neg (by simp;omega),if_neg h4]
      have hmk:mk (l.length:Int) false=some ((List.range l.length).map fun i:Nat=>decide ((i:Int)∈([]:List Int))):=by
        unfold mk;rw [if_pos (by omega)]
        congr 1
        simp [List.map_const']
      have hseen:=seen_prog n l (by omega) hl.n2 (nodeA hl) n.Nodes.length 0 [] (by omega)
      simp only [Int.natCast_zero,List.drop_zero] at hseen
      have:=items_loop l (by omega) (body:=fun ss=>Qkb n l ss) (inner:=fun k s ss=>Qlb k s ss) (some (seenErr l.length n.Nodes []))
        (fun k s hs hlt=>by
          unfold Qkb
          rw [if_pos (by simp;omega),J8a hs,Option.bind_some]
          by_cases h20:20<s.length
          · rw [if_pos (by simp;omega),if_pos h20];rfl
          · rw [if_neg (by simp;omega),if_neg h20])
        (by
          unfold Qkb
          rw [if_neg (by simp),hmk,Option.bind_some,hseen])
        (fun k s j x hs hlt hx hj=>by
          have hjl:=(List.getElem?_eq_some_iff.1 hx).1
          unfold Qlb
          rw [if_pos (by simp;omega),J8a hx,Option.bind_some,Zna (by omega)]
          by_cases hd:x.Dep≠0
          · rw [if_pos (by simpa using hd),if_pos hd];rfl
          · rw [if_neg (by simpa using hd),if_neg hd])
        (fun k s hs hlt=>by
          unfold Qlb
          rw [if_neg (by simp),Zna (by omega)];rfl) l.length 0 (by omega)
      simp only [Int.natCast_zero,List.drop_zero] at this
      rw [this]
      by_cases hi:itemsErr l≠0
      · rw [if_pos hi,if_pos hi]
      · rw [if_neg hi,if_neg hi]
  · rw [if_pos (by simpa using h),if_pos h]
theorem crossref_CheckSources_eq (n:Net) (l:List (List Item)) (hio:∀ x∈n.Nodes,x.In.length≤1099511627776∧x.Out.length≤1099511627776):Vta n l=some (srcR n l):=by
  unfold Vta srcR
  rw [crossref_CheckNet_eq n hio,Option.bind_some]
  by_cases h:(netR n).2=0
  · obtain ⟨le,out,_,hl,_,_⟩:=netR_ok h
    rw [if_neg (show ¬ ((netR n).2 != 0)=true by simp [h]),if_neg (show ¬ (netR n).2≠0 by simp [h])]
    by_cases h4:4<l.length
    · rw [if_pos (by simp;omega),if_pos h4]
    · rw [if_neg (by simp;omega),if_neg h4]
      have hseen:=seen_ref n l (by omega) hl.n2 n.Nodes.length 0 [] [] (by omega) (fun a=>by simp [mget])
      simp only [Int.natCast_zero,List.drop_zero] at hseen
      have:=items_loop l (by omega) (body:=fun ss=>Zia n l ss) (inner:=fun k s ss=>Zha k s ss) (some (seenErr l.length n.Nodes []))
        (fun k s hs hlt=>by
          unfold Zia
          rw [if_pos (by simp;omega),J8a hs,Option.bind_some]
          by_cases h20:20<s.length
          · rw [if_pos (by simp;omega),if_pos h20];rfl
          · rw [if_neg (by simp;omega),if_neg h20])
        (by
          unfold Zia
          rw [if_neg (by simp),hseen])
        (fun k s j x hs hlt hx hj=>by
          have hjl:=(List.getElem?_eq_some_iff.1 hx).1
          unfold Zha
          rw [if_pos (by simp;omega),J8a hx,Option.bind_some,Zna (by omega)]
          by_cases hd:x.Dep≠0
          · rw [if_pos (by simpa using hd),if_pos hd];rfl
          · rw [if_neg (by simpa using hd),if_neg hd])
        (fun k s hs hlt=>by
          unfold Zha
          rw [if_neg (by simp),Zna (by omega)];rfl) l.length 0 (by omega)
      simp only [Int.natCast_zero,List.drop_zero] at this
      rw [this]
      by_cases hi:itemsErr l≠0
      · rw [if_pos hi,if_pos hi]
      · rw [if_neg hi,if_neg hi]
  · rw [if_pos (by simpa using h),if_pos h]
def meetN:Net:=⟨[⟨1,0,[],[0]⟩,⟨1,1,[],[1]⟩,⟨6,0,[0,1],[2]⟩,⟨8,0,[2],[]⟩],3,1⟩
def twoN:List (List Item):=[[⟨1,1,0⟩],[⟨2,2,0⟩]]
theorem meet_io:∀ x∈meetN.Nodes,x.In.length≤1099511627776∧x.Out.length≤1099511627776:=by decide
theorem meet_src:srcR meetN twoN=0:=by decide
theorem ordN_len (l:List Ends) (ns:List Node):∀ (m:Nat) (out o:List Nat),ordN l ns m out=some o→o.length=out.length+m
  | 0,out,o,h=>by cases h;rfl
  | m + 1,out,o,h=>by
    unfold ordN at h
    split at h
    · cases h
    · have:=ordN_len l ns m _ o h
      simp at this;omega
end Go.Proofs.YtfbmoockopakjaaGreat
namespace Go.Proofs.YtfbmoockopakjaaGreat
set_option linter.unusedVariables false
set_option linter.unusedSimpArgs false
theorem ordN_spec {l:List Ends} {ns:List Node}:∀ {m:Nat} {out o:List Nat},ordN l ns m out=some o→out.Nodup→(∀ x∈out,x<ns.length) →
    o.Nodup∧(∀ x∈o,x<ns.length)∧out <+: o∧∀ (p i:Nat),out.length≤p→o[p]?=some i→okN l (o.take p) ns i=true
  | 0,out,o,h,h1,h2=>by
    cases h
    exact ⟨h1,h2,List.prefix_refl _,fun p i hp hi=>by rw [List.getElem?_eq_none hp] at hi;cases hi⟩
  | m + 1,out,o,h,h1,h2=>by
    unfold ordN at h
    split at h
    · cases h
    · rename_i i hi
      obtain ⟨_,hlt,hok⟩:=firstN_some hi
      have hni:i ∉ out:=by
        unfold okN at hok
        rw [Bool.and_eq_true] at hok
        simpa using hok.1
      obtain ⟨a,b,c,d⟩:=ordN_spec h (List.nodup_append.2 ⟨h1,by simp,by intro x hx y hy;simp at hy;subst hy;rintro rfl;exact hni hx⟩) (fun x hx=>by
        rcases List.mem_append.1 hx with hx | hx
        · exact h2 x hx
        · simp at hx;omega)
      refine ⟨a,b,(List.prefix_append out [i]).trans c,fun p j hp hj=>?_⟩
      by_cases hpe:p=out.length
      · subst hpe
        obtain ⟨t,ht⟩:=c
        rw [← ht] at hj ⊢
        simp only [List.append_assoc,List.singleton_append,List.getElem?_append_right (Nat.le_refl _),Nat.sub_self] at hj
        simp at hj
        subst hj
        rw [List.append_assoc,List.take_left]
        exact hok
      · exact d p j (by simp;omega) hj
theorem nodup_lt_len:∀ (N:Nat) (l:List Nat),l.Nodup→(∀ x∈l,x<N)→l.length≤N
  | 0,l,_,h=>by
    cases l with
    | nil=>exact Nat.le_refl _
    | cons x l=>exact absurd (h x List.mem_cons_self) (by omega)
  | N + 1,l,hd,h=>by
    have:=nodup_lt_len N (l.erase N) (hd.erase N) (fun x hx=>by
      have h1:=(List.Nodup.mem_erase_iff hd).1 hx
      have:=h x h1.2
      omega)
    by_cases hm:N∈l
    · rw [List.length_erase_of_mem hm] at this;omega
    · rw [List.erase_of_not_mem hm] at this;omega
theorem full_mem {N:Nat} {l:List Nat} (hd:l.Nodup) (h:∀ x∈l,x<N) (hl:l.length=N) {i:Nat} (hi:i<N):i∈l:=by
  refine Classical.byContradiction fun hn=>?_
  have:=nodup_lt_len N (i::l) (List.nodup_cons.2 ⟨hn,hd⟩) (fun x hx=>by
    rcases List.mem_cons.1 hx with rfl | hx
    · exact hi
    · exact h x hx)
  simp at this;omega
structure OrdL (n:Net) (l:List Ends) (o:List Nat):Prop where
  nd:o.Nodup
  lt:∀ x∈o,x<n.Nodes.length
  len:o.length=n.Nodes.length
  fed:∀ (p i:Nat) (x:Node) (r:Int) (e:Ends),o[p]?=some i→n.Nodes[i]?=some x→r∈x.In→l[r.toNat]?=some e→e.src.toNat∈o.take p
theorem ordL_of {n:Net} {l:List Ends} {o:List Nat} (h:ordN l n.Nodes n.Nodes.length []=some o):OrdL n l o:=by
  obtain ⟨a,b,_,d⟩:=ordN_spec h List.nodup_nil (fun x hx=>by simp at hx)
  have hl:=ordN_len _ _ _ _ _ h
  refine ⟨a,b,by simpa using hl,fun p i x r e hp hx hr he=>?_⟩
  have:=d p i (Nat.zero_le _) hp
  unfold okN at this
  rw [Bool.and_eq_true,hx] at this
  have h2:=this.2
  simp only [fedN,List.all_eq_true] at h2
  have h3:=h2 r hr
  rw [he] at h3
  simpa using h3
end Go.Proofs.YtfbmoockopakjaaGreat
namespace Go.Proofs.YtfbmoockopakjaaGreat
set_option linter.unusedVariables false
set_option linter.unusedSimpArgs false
theorem bnd {α β:Type} {o:Option α} {k:α→Option β} {x:α} {r:Option β} (h:o=some x) (h2:k x=r):Option.bind o k=r:=by rw [h];exact h2
theorem vwok_ok {n:Nat} {i j:Int} (h:0≤i∧i≤j∧j≤n):vwok n i j=some ():=by unfold vwok;rw [if_pos h]
theorem cpy_app {α:Type} (a c d ys:List α) (n:Nat) (h:c.length=ys.length) (hn:ys.length≤n):cpy (a++(c++d)) a.length n ys=a++(ys++d):=by
  unfold cpy
  rw [List.take_left,List.take_of_length_le hn,Nat.min_eq_right hn,← h,← List.drop_drop,List.drop_left,List.drop_left,List.append_assoc]
theorem ins_eq (a b:List Keyed) (y:Keyed) (h:a.length+b.length≤1000000):Zva (a.length:Int) (a++b) [y]=some (a++y::b):=by
  unfold Zva
  refine allC_of (fun C hC=>?_)
  unfold Yea
  have hl:(a++b).length=a.length+b.length:=List.length_append
  have h1:([y]:List Keyed).length=1:=rfl
  have w1:IntKind.i64.wrap ((((a++b).length:Nat):Int)+(([y]:List Keyed).length:Int))=((a.length+b.length+1:Nat):Int):=by rw [Yqa (by omega) (by omega)];omega
  have w2:IntKind.i64.wrap ((a.length:Int)+(([y]:List Keyed).length:Int))=((a.length+1:Nat):Int):=by rw [Yqa (by omega) (by omega)];omega
  have w3:IntKind.i64.wrap (((a.length+b.length+1:Nat):Int) - (a.length:Int))=((b.length+1:Nat):Int):=by rw [Yqa (by omega) (by omega)];omega
  simp only [w1,w2,w3,Int.toNat_natCast]
  refine bnd (vwok_ok (by omega)) ?_
  rw [if_neg (by simp)]
  by_cases hb:b=[]
  · subst hb
    rw [if_pos (by simp)]
    refine bnd (Qnb (by simp;omega)) ?_
    simp
  · have hbl:0<b.length:=List.length_pos_iff.2 hb
    rw [if_neg (by simp;omega)]
    by_cases hg:a.length+b.length+1 > C
    · rw [if_pos (by simp;omega)]
      refine bnd (vwok_ok (by omega)) ?_
      have hz:growz (a++b) a.length C ((b.length+1:Nat):Int) (⟨0,0⟩:Keyed)=some (a++([(⟨0,0⟩:Keyed)]++List.replicate b.length (⟨0,0⟩:Keyed))):=by
        unfold growz
        rw [if_pos (by rw [hl];omega),List.take_left,Int.toNat_natCast,List.replicate_succ];rfl
      refine bnd hz ?_
      have hzl:(a++([(⟨0,0⟩:Keyed)]++List.replicate b.length (⟨0,0⟩:Keyed))).length=a.length+(b.length+1):=by simp<;>omega
      have e1:a.length+(b.length+1) - a.length=b.length+1:=by omega
      have c1:=cpy_app a [(⟨0,0⟩:Keyed)] (List.replicate b.length (⟨0,0⟩:Keyed)) [y] (b.length+1) rfl (by simp)
      have hal:(a++([y]++List.replicate b.length (⟨0,0⟩:Keyed))).length=a.length+(b.length+1):=by simp<;>omega
      have e2:a.length+(b.length+1) - (a.length+1)=b.length:=by omega
      simp only [hzl,e1,c1,hal,e2,hl,Nat.zero_add,Nat.add_sub_cancel_left,Int.toNat_natCast]
      refine bnd (vwok_ok (by omega)) (bnd (vwok_ok (by omega)) (bnd (vwok_ok (by omega)) (bnd (vwok_ok (by omega)) (bnd (vwok_ok (by omega)) (bnd (vwok_ok (by omega)) ?_)))))
      rw [List.drop_left,List.take_length]
      have c2:=cpy_app (a++[y]) (List.replicate b.length (⟨0,0⟩:Keyed)) [] b b.length (by simp) (Nat.le_refl _)
      simp only [List.append_nil,List.length_append,List.length_singleton,List.append_assoc] at c2
      rw [c2]
      simp
    · rw [if_neg (by simp;omega)]
      have hx:roomx (a++b).length C ((a.length+b.length+1:Nat):Int)=some 1:=by
        unfold roomx
        rw [if_pos (by rw [hl];omega),hl,Int.toNat_natCast]
        congr 1;omega
      refine bnd hx ?_
      have e2:a.length+b.length+1 - (a.length+1)=b.length:=by omega
      have e3:a.length+b.length+1 - a.length=b.length+1:=by omega
      simp only [hl,Int.toNat_natCast,e2,e3]
      refine bnd (vwok_ok (by omega)) ?_
      refine bnd (show ovok [y] b.length=some () by unfold ovok;rw [if_pos (by simp;omega)]) ?_
      refine bnd (vwok_ok (by omega)) (bnd (vwok_ok (by omega)) ?_)
      have hu:cpyU (a++b) 1 (a.length+1) b.length a.length (b.length+1)=some (a++(b.take 1++b)):=by
        unfold cpyU
        rw [if_pos (by rw [hl];omega),List.drop_left,List.take_append]
        simp [List.take_of_length_le]
      refine bnd hu ?_
      have htl:(b.take 1).length=1:=by simp;omega
      have hul:(a++(b.take 1++b)).length=a.length+(b.length+1):=by rw [List.length_append,List.length_append,htl];omega
      have e1:a.length+(b.length+1) - a.length=b.length+1:=by omega
      have c1:=cpy_app a (b.take 1) b [y] (b.length+1) (by rw [htl];rfl) (by simp)
      simp only [hul,e1,c1,Int.toNat_natCast]
      refine bnd (vwok_ok (by omega)) (bnd (vwok_ok (by omega)) ?_)
      rfl
theorem cmp_eq (x:Keyed) (k:Int):Jlb x k=some (if x.Key<k then -1 else if x.Key > k then 1 else 0):=by
  unfold Jlb
  by_cases h1:x.Key<k
  · simp [h1]
  · by_cases h2:x.Key > k<;>simp [h1,h2]
end Go.Proofs.YtfbmoockopakjaaGreat
namespace Go.Proofs.YtfbmoockopakjaaGreat
set_option linter.unusedVariables false
set_option linter.unusedSimpArgs false
theorem CheckMemory_eq (m:Memory):V1a m=Yta m:=by
  have e:Z7a=Zka:=by
    funext m s
    unfold Z7a Zka
    split
    · cases idx m.Keys s with
      | none=>rfl
      | some x =>
        simp only [Option.bind_some]
        by_cases h:x.N<1
        · rw [if_pos (show decide (x.N≤0)=true by simp;omega),if_pos (show decide (x.N<1)=true by simpa using h)]
          rfl
        · rw [if_neg (show ¬ decide (x.N≤0)=true by simp;omega),if_neg (show ¬ decide (x.N<1)=true by simpa using h)]
    · rfl
  unfold V1a Yta
  rw [e]
def good (l:List Keyed) (i:Nat):Prop:=∀ x,l[i]?=some x→1≤x.N∧∀ j y,i=j+1→l[j]?=some y→y.Key<x.Key
theorem check_loop (m : Memory) (hl:m.Keys.length≤6):∀ (n k:Nat),k+n=m.Keys.length→∃ c,iter (fun ss:Int=>Zka m ss) (k:Int)=some c∧(c=0 ↔ (∀ i,k≤i→i<m.Keys.length→good m.Keys i)∧0≤m.Dep)
  | 0,k,h=>by
    have hk:k=m.Keys.length:=by omega
    subst hk
    by_cases hd:m.Dep<0
    · refine ⟨3,?_,by constructor<;>intro h<;>omega⟩
      rw [Qya]
      unfold Zka
      simp [hd]
    · refine ⟨0,?_,?_⟩
      · rw [Qya]
        unfold Zka
        simp [hd]
      · exact ⟨fun _=>⟨fun i h1 h2=>by omega,by omega⟩,fun _=>rfl⟩
  | n + 1, k, h => by
    have hk:k<m.Keys.length:=by omega
    have hx:m.Keys[k]?=some m.Keys[k]:=List.getElem?_eq_getElem hk
    generalize hxv:m.Keys[k]=x at hx
    have hkw:decide ((k:Int)<(m.Keys.length:Int))=true:=by simp;omega
    have hw:IntKind.i64.wrap ((k:Int)+1)=((k+1:Nat):Int):=Zna (by omega)
    by_cases hg:good m.Keys k
    · obtain ⟨hg1,hg2⟩:=hg x hx
      obtain ⟨c,h1,h2⟩:=check_loop m hl n (k+1) (by omega)
      refine ⟨c,?_,?_⟩
      · rw [Qya]
        have e:Zka m (k:Int)=some (.inl ((k+1:Nat):Int)):=by
          unfold Zka
          rw [if_pos hkw,J8a hx,Option.bind_some,if_neg (show ¬ decide (x.N<1)=true by simp;omega)]
          cases k with
          | zero=>simp [show IntKind.i64.wrap 1=1 from rfl]
          | succ j =>
            have hy:m.Keys[j]?=some m.Keys[j]:=List.getElem?_eq_getElem (by omega)
            have:=hg2 j _ rfl hy
            rw [if_pos (by simp),Yqa (by omega) (by omega),show ((j+1:Nat):Int) - 1=(j:Int) by omega,J8a hy,Option.bind_some,Option.bind_some,if_neg (by simp;omega),hw]
        simp only [e]
        exact h1
      · rw [h2]
        constructor
        · rintro ⟨h3,h4⟩
          exact ⟨fun i hi hi2=>by
            by_cases e:i=k
            · subst e;exact hg
            · exact h3 i (by omega) hi2,h4⟩
        · rintro ⟨h3,h4⟩
          exact ⟨fun i hi hi2=>h3 i (by omega) hi2,h4⟩
    · refine ⟨4, ?_, by constructor
                        · intro h;omega
                        · rintro ⟨h3,_⟩;exact absurd (h3 k (Nat.le_refl _) hk) hg⟩
      rw [Qya]
      have e:Zka m (k:Int)=some (.inr 4):=by
        unfold Zka
        rw [if_pos hkw,J8a hx,Option.bind_some]
        by_cases hn:x.N<1
        · rw [if_pos (show decide (x.N<1)=true by simpa using hn)];rfl
        · rw [if_neg (show ¬ decide (x.N<1)=true by simpa using hn)]
          cases k with
          | zero=>exact absurd (fun y hy=>by rw [hx] at hy;cases hy;exact ⟨by omega,fun j z hj=>by omega⟩) hg
          | succ j =>
            have hy:m.Keys[j]?=some m.Keys[j]:=List.getElem?_eq_getElem (by omega)
            rw [if_pos (by simp),Yqa (by omega) (by omega),show ((j+1:Nat):Int) - 1=(j:Int) by omega,J8a hy,Option.bind_some,Option.bind_some]
            have:x.Key≤(m.Keys[j]).Key:=by
              apply Int.not_lt.1
              intro hlt
              exact hg (fun z hz=>by
                rw [hx] at hz;cases hz
                exact ⟨by omega,fun i y hi hy2=>by
                  have:i=j:=by omega
                  subst this
                  rw [hy] at hy2;cases hy2;exact hlt⟩)
            rw [if_pos (by simpa using this)];rfl
      simp only [e]
structure okM (m:Memory):Prop where
  len:m.Keys.length≤6
  n:∀ x,x∈m.Keys→1≤x.N
  lt:∀ (i j:Nat) x y,i<j→m.Keys[i]?=some x→m.Keys[j]?=some y→x.Key<y.Key
  dep:0≤m.Dep
theorem good_lt {l:List Keyed} (h:∀ i,i<l.length→good l i):∀ (n i j:Nat) x y,j=i+1+n→l[i]?=some x→l[j]?=some y→x.Key<y.Key
  | 0,i,j,x,y,e,hx,hy=>(h j (List.getElem?_eq_some_iff.1 hy).1 y hy).2 i x (by omega) hx
  | n+1,i,j,x,y,e,hx,hy=>by
    have hj:=(List.getElem?_eq_some_iff.1 hy).1
    have hz:l[i+1+n]?=some l[i+1+n]:=List.getElem?_eq_getElem (by omega)
    have h1:=good_lt h n i (i+1+n) x _ rfl hx hz
    have h2:=(h j hj y hy).2 (i+1+n) _ (by omega) hz
    omega
theorem Check_iff (m:Memory):∃ c,Yta m=some c∧(c=0 ↔ okM m):=by
  unfold Yta
  by_cases hl:m.Keys.length≤6
  · rw [if_neg (by simp;omega)]
    obtain ⟨c,h1,h2⟩:=check_loop m hl m.Keys.length 0 (by omega)
    refine ⟨c,h1,h2.trans ⟨fun ⟨h3,h4⟩=>⟨hl,fun x hx=>?_,fun i j x y hij hx hy=>?_,h4⟩,fun h=>⟨fun i _ hi x hx=>⟨h.n x (List.mem_of_getElem? hx),fun j y e hy=>h.lt j i y x (by omega) hy hx⟩,h.dep⟩⟩⟩
    · obtain ⟨i,hi⟩:=List.getElem?_of_mem hx
      exact (h3 i (Nat.zero_le _) (List.getElem?_eq_some_iff.1 hi).1 x hi).1
    · exact good_lt (fun i hi=>h3 i (Nat.zero_le _) hi) (j - i - 1) i j x y (by omega) hx hy
  · rw [if_pos (by simp;omega)]
    exact ⟨2,rfl,fun h=>by omega,fun h=>absurd h.len hl⟩
theorem search_at (l:List Keyed) (key:Int) (hl:l.length≤6) (hs:∀ (i j:Nat) x y,i<j→l[i]?=some x→l[j]?=some y→x.Key<y.Key) :
    ∃ (i:Nat) (b:Bool),Jka l key=some ((i:Int),b)∧i≤l.length∧(∀ t x,t<i→l[t]?=some x→x.Key<key)∧(∀ t x,i≤t→l[t]?=some x→key≤x.Key)∧(b=true ↔ ∃ x,l[i]?=some x∧x.Key=key):=by
  unfold Jka
  obtain ⟨r,h1,i,h2,h3,h4,h5,h6⟩:=iter_inv (body:=fun ss:Int × Int=>Jea l key ss.1 ss.2)
    (fun s=>(0≤s.1∧s.1≤s.2∧s.2≤(l.length:Int))∧(∀ (t:Nat) (x:Keyed),(t:Int)<s.1→l[t]?=some x→x.Key<key)∧(∀ (t:Nat) (x:Keyed),s.2≤(t:Int)→l[t]?=some x→key≤x.Key)) (fun s=>(s.2 - s.1).toNat)
    (fun r=>∃ i:Nat,r.1=(i:Int)∧i≤l.length∧(∀ t x,t<i→l[t]?=some x→x.Key<key)∧(∀ t x,i≤t→l[t]?=some x→key≤x.Key)∧(r.2=true ↔ ∃ x,l[i]?=some x∧x.Key=key)) (fun s hs0=>by
      obtain ⟨s1,s2⟩:=s
      simp only at hs0 ⊢
      obtain ⟨hb,ha,hc⟩:=hs0
      unfold Jea
      by_cases hlt:s1<s2
      · rw [if_pos (by simpa using hlt)]
        have e1:shr .u64 (IntKind.u64.wrap (IntKind.i64.wrap (s1+s2))) 1=some ((s1+s2) / 2):=by
          rw [Yqa (by omega) (by omega),IntWalk.u64_in _ ⟨by omega,by omega⟩]
          unfold shr
          rw [if_pos (by decide)]
          congr 1
          show (s1+s2).fdiv 2=_
          rw [Int.fdiv_eq_ediv_of_nonneg _ (by decide)]
        rw [e1,Option.bind_some]
        obtain ⟨h,hh⟩:∃ h:Nat,(s1+s2) / 2=(h:Int):=Int.eq_ofNat_of_zero_le (by omega)
        have hhl:h<l.length:=by omega
        have hx:l[h]?=some l[h]:=List.getElem?_eq_getElem hhl
        generalize hxv:l[h]=x at hx
        have e2:IntKind.i64.wrap (h:Int)=(h:Int):=Yqa (by omega) (by omega)
        have e4:IntKind.i64.wrap ((h:Int)+1)=(h:Int)+1:=Yqa (by omega) (by omega)
        rw [hh,e2,J8a hx,Option.bind_some,cmp_eq,Option.bind_some,e4]
        refine .inl ?_
        by_cases hk:x.Key<key
        · rw [if_pos hk]
          refine ⟨((h:Int)+1,s2),rfl,⟨⟨by show 0≤(h:Int)+1;omega,by show (h:Int)+1≤s2;omega,hb.2.2⟩,fun t y ht hy=>?_,hc⟩,by show (s2 - ((h:Int)+1)).toNat<(s2 - s1).toNat;omega⟩
          have ht:(t:Int)<(h:Int)+1:=ht
          by_cases e:t=h
          · subst e;rw [hx] at hy;cases hy;exact hk
          · have:=hs t h y x (by omega) hy hx;omega
        · have e5:(if decide ((if x.Key<key then (-1:Int) else if x.Key > key then 1 else 0)<0)=true then (some (.inl ((h:Int)+1,s2)):Option ((Int × Int) ⊕ (Int × Bool))) else some (.inl (s1,(h:Int))))=some (.inl (s1,(h:Int))):=by
            rw [if_neg hk]
            split<;>rfl
          refine ⟨(s1,(h:Int)),e5,⟨⟨hb.1,by show s1≤(h:Int);omega,by show (h:Int)≤_;omega⟩,ha,fun t y ht hy=>?_⟩,by show ((h:Int) - s1).toNat<(s2 - s1).toNat;omega⟩
          have ht:(h:Int)≤(t:Int):=ht
          by_cases e:t=h
          · subst e;rw [hx] at hy;cases hy;omega
          · have:=hs h t x y (by omega) hx hy;omega
      · rw [if_neg (by simpa using hlt)]
        refine .inr ?_
        obtain ⟨k,rfl⟩:=Int.eq_ofNat_of_zero_le hb.1
        have hk2:s2=(k:Int):=by omega
        subst hk2
        by_cases hk:k<l.length
        · have hx:l[k]?=some l[k]:=List.getElem?_eq_getElem hk
          generalize hxv:l[k]=x at hx
          rw [if_pos (by simp;omega),J8a hx,Option.bind_some,cmp_eq]
          refine ⟨_,rfl,k,rfl,by omega,fun t y ht hy=>ha t y (by omega) hy,fun t y ht hy=>hc t y (by omega) hy,?_⟩
          have:=hc k x (by omega) hx
          simp only [hx,Option.some.injEq,exists_eq_left']
          by_cases e:x.Key=key
          · simp [e]
          · have h1:¬ x.Key<key:=by omega
            have h2:x.Key > key:=by omega
            simp [h1,h2,e]
        · rw [if_neg (by simp;omega)]
          refine ⟨_,rfl,k,rfl,by omega,fun t y ht hy=>ha t y (by omega) hy,fun t y ht hy=>hc t y (by omega) hy,?_⟩
          rw [List.getElem?_eq_none (by omega)]
          simp) _ (0,(l.length:Int)) (Nat.le_refl _) ⟨by simp,fun t x ht=>by
            have ht:(t:Int)<0:=ht
            omega,fun t x ht hx=>by
            have ht:(l.length:Int)≤(t:Int):=ht
            have:=(List.getElem?_eq_some_iff.1 hx).1
            omega⟩
  obtain ⟨r1,r2⟩:=r
  simp only at h2
  subst h2
  exact ⟨i,r2,h1,h3,h4,h5,h6⟩
theorem sortK_eq (l t:List Keyed) (hl:l.length≤12) (hp:t.Perm l) (hs:t.Pairwise (fun a b=>a.Key<b.Key)):sortK l=some t:=by
  unfold sortK
  split
  · rename_i h1
    match l,hp,h1 with
    | [],hp,_=>rw [List.perm_nil.1 hp]
    | [a],hp,_=>rw [List.perm_singleton.1 hp]
  · congr 1
    have swo:Sort.SWO ltK:=⟨fun x=>by simp [ltK],fun x y z h1 h2=>by simp [ltK] at *;omega,fun x y z h1 h2=>by simp [ltK] at *;omega⟩
    obtain ⟨⟨hsz,_,hperm⟩,hsort⟩:=Sort.insertionSort_holds swo l.toArray 0 l.toArray.size (Nat.zero_le _) (Nat.le_refl _)
    generalize hD:Sort.insertionSort ltK l.toArray 0 l.toArray.size=D at hsz hperm hsort
    have hpl:D.toList.Perm l:=by
      rw [← hsz,Array.extract_size] at hperm
      rw [hsz,Array.extract_size] at hperm
      exact hperm
    have hpt:D.toList.Perm t:=hpl.trans hp.symm
    have hnd:(D.toList.map (·.Key)).Nodup:=by
      have h1:(t.map (·.Key)).Nodup:=by
        unfold List.Nodup
        rw [List.pairwise_map]
        exact hs.imp (fun h=>by omega)
      exact ((hpt.map _).nodup_iff).2 h1
    refine List.Perm.eq_of_pairwise (le:=fun a b=>a.Key<b.Key) (fun a b _ _ h1 h2=>by omega) ?_ hs hpt
    rw [List.pairwise_iff_getElem]
    intro i j hi hj hij
    have h1:=hsort i j (Nat.zero_le _) hij (by simpa [hsz] using hj)
    have hi':i<D.size:=by simpa using hi
    have hj':j<D.size:=by simpa using hj
    rw [getElem!_pos D i hi',getElem!_pos D j hj'] at h1
    simp only [ltK,decide_eq_false_iff_not] at h1
    have h2:D.toList[i].Key≠D.toList[j].Key:=by
      unfold List.Nodup at hnd
      rw [List.pairwise_map,List.pairwise_iff_getElem] at hnd
      exact hnd i j hi hj hij
    simp only [Array.getElem_toList] at h2 ⊢
    omega
end Go.Proofs.YtfbmoockopakjaaGreat
namespace Go.Proofs.YtfbmoockopakjaaGreat
set_option linter.unusedVariables false
set_option linter.unusedSimpArgs false
theorem make_loop (m:Memory) (x:Item) (hl:m.Keys.length≤6) (i:Nat) (fd:Bool) (h1:∀ t y,t<i→m.Keys[t]?=some y→y.Key<x.Key) (h2:∀ t y,i≤t→m.Keys[t]?=some y→x.Key≤y.Key)
    (h3:fd=true ↔ ∃ y,m.Keys[i]?=some y∧y.Key=x.Key) (hs:∀ (i j:Nat) x y,i<j→m.Keys[i]?=some x→m.Keys[j]?=some y→x.Key<y.Key):∀ (n k:Nat),k+n=m.Keys.length →
    iter (fun ss:Int × Int=>Jqa m m.Keys x ss.1 ss.2) ((if fd=true∧i<k then (i:Int) else -1),(k:Int))=iter (fun ss:Int × Int=>Jqa m m.Keys x ss.1 ss.2) ((if fd=true then (i:Int) else -1),(m.Keys.length:Int))
  | 0,k,h=>by
    have hk:k=m.Keys.length:=by omega
    subst hk
    by_cases hf:fd=true
    · obtain ⟨y,hy,_⟩:=h3.1 hf
      have:=(List.getElem?_eq_some_iff.1 hy).1
      rw [if_pos ⟨hf,this⟩,if_pos hf]
    · rw [if_neg (fun e=>hf e.1),if_neg hf]
  | n + 1, k, h=>by
    have hk:k<m.Keys.length:=by omega
    have hy:m.Keys[k]?=some m.Keys[k]:=List.getElem?_eq_getElem hk
    generalize hyv:m.Keys[k]=y at hy
    have e:Jqa m m.Keys x (if fd=true∧i<k then (i:Int) else -1) (k:Int)=some (.inl ((if fd=true∧i<k+1 then (i:Int) else -1),((k+1:Nat):Int))):=by
      unfold Jqa
      rw [if_pos (by simp;omega),ixN_at hk,Option.bind_some,hy,Option.bind_some,Zna (by omega)]
      by_cases hkey:y.Key=x.Key
      · have hik:i=k:=by
          rcases Nat.lt_trichotomy k i with h4 | h4 | h4
          · have:=h1 k y h4 hy;omega
          · omega
          · have hz:m.Keys[i]?=some m.Keys[i]:=List.getElem?_eq_getElem (by omega)
            have h5:=h2 i _ (Nat.le_refl _) hz
            have h6:=hs i k _ y h4 hz hy
            omega
        subst hik
        have hf:fd=true:=h3.2 ⟨y,hy,hkey⟩
        rw [if_pos (by simpa using hkey),if_pos ⟨hf,by omega⟩]
      · rw [if_neg (by simpa using hkey)]
        have:(fd=true∧i<k+1) ↔ (fd=true∧i<k):=by
          constructor
          · rintro ⟨hf,h4⟩
            refine ⟨hf,?_⟩
            rcases Nat.lt_or_ge i k with h5 | h5
            · exact h5
            · have:i=k:=by omega
              subst this
              obtain ⟨z,hz,hz2⟩:=h3.1 hf
              rw [hy] at hz;cases hz
              exact absurd hz2 hkey
          · rintro ⟨hf,h4⟩;exact ⟨hf,by omega⟩
        simp only [this]
    rw [Qya]
    simp only [e]
    exact make_loop m x hl i fd h1 h2 h3 hs n (k+1) (by omega)
inductive StepR (k f:Int) (m:Memory) (x:Item):Memory × Item × Int→Prop
  | err (e:Int) (h:e≠0):StepR k f m x (⟨0,[],0⟩,⟨0,0,0⟩,e)
  | same (s d:Int) (y:Item) (hd:0≤d):StepR k f m x (⟨s,m.Keys,d⟩,y,0)
  | inc (i:Nat) (v:Keyed) (d:Int) (y:Item) (hi:m.Keys[i]?=some v) (hd:0≤d):StepR k f m x (⟨m.Sum,m.Keys.set i ⟨v.Key,IntKind.i64.wrap (v.N+1)⟩,d⟩,y,0)
  | ins (i:Nat) (d:Int) (y:Item) (hd:0≤d) (hl:m.Keys.length<6) (hi:i≤m.Keys.length) (h1:∀ t z,t<i→m.Keys[t]?=some z→z.Key<x.Key) (h2:∀ t z,i≤t→m.Keys[t]?=some z→x.Key<z.Key):StepR k f m x (⟨m.Sum,m.Keys.take i++⟨x.Key,1⟩::m.Keys.drop i,d⟩,y,0)
theorem step_make (k f:Int) (m:Memory) (x:Item) (ok:okM m) (hx:0≤x.Dep):∃ R,Yza k f m x=some R∧Qcb k f m x=some R∧StepR k f m x R:=by
  obtain ⟨c,hc,hc2⟩:=Check_iff m
  have hc0:=hc2.2 ok
  subst hc0
  have hap:app [] m.Keys=some m.Keys:=by rw [Qnb (by have:=ok.len;simp;omega)];rfl
  have hcl:Zra m.Keys=some m.Keys:=hap
  have hco:Q0b m=some m:=by unfold Q0b;rw [hcl];rfl
  have hdp:0≤(if x.Dep > m.Dep then x.Dep else m.Dep):=by have:=ok.dep;split<;>omega
  have hnd:¬ decide (x.Dep<0)=true:=by simpa using hx
  unfold Yza Qcb
  rw [hc,Option.bind_some,if_neg (by simp),if_neg hnd,hco,Option.bind_some,hap,Option.bind_some]
  by_cases k2:k=2
  · subst k2
    rw [if_pos (show ((2:Int)==2)=true from rfl),if_pos (show ((2:Int)==2)=true from rfl)]
    by_cases hf:0≤f∧f≤3
    · rw [if_neg (by simp;omega)]
      have:f=0∨f=1∨f=2∨f=3:=by omega
      rcases this with rfl | rfl | rfl | rfl
      · exact ⟨_,rfl,rfl,.same _ _ _ ok.dep⟩
      · refine ⟨_,rfl,?_,.same _ _ _ ok.dep⟩
        rw [Int.two_mul];rfl
      · exact ⟨_,rfl,rfl,.same _ _ _ ok.dep⟩
      · exact ⟨_,rfl,rfl,.same _ _ _ ok.dep⟩
    · rw [if_pos (by simp;omega),if_neg (by simp;omega),if_neg (by simp;omega),if_neg (by simp;omega),if_neg (by simp;omega)]
      exact ⟨_,rfl,rfl,.err 3 (by decide)⟩
  · have n2 : ¬ (k == 2)=true:=by simpa using k2
    rw [if_neg n2,if_neg n2]
    by_cases k3:k=3
    · subst k3
      rw [if_pos (show ((3:Int)==3)=true from rfl),if_pos (show ((3:Int)==3)=true from rfl)]
      exact ⟨_,rfl,rfl,.same _ _ _ hdp⟩
    · have n3 : ¬ (k == 3)=true:=by simpa using k3
      rw [if_neg n3,if_neg n3]
      by_cases k4:k=4
      · subst k4
        rw [if_pos (show ((4:Int)==4)=true from rfl),if_pos (show ((4:Int)==4)=true from rfl)]
        obtain ⟨i,b,hs,hi,h1,h2,h3⟩:=search_at m.Keys x.Key ok.len ok.lt
        have hlp:=make_loop m x ok.len i b h1 h2 h3 ok.lt m.Keys.length 0 (by omega)
        rw [if_neg (by omega)] at hlp
        rw [hs,Option.bind_some]
        rw [show ((0:Nat):Int)=0 from rfl] at hlp
        rw [hlp,Qya]
        cases b with
        | true =>
          obtain ⟨v,hv,hvk⟩:=h3.1 rfl
          have hil:=(List.getElem?_eq_some_iff.1 hv).1
          rw [if_neg (by simp),if_neg (by simp)]
          have hset:i<(m.Keys.set i (⟨v.Key,IntKind.i64.wrap (v.N+1)⟩:Keyed)).length:=by simpa using hil
          have hsg:(m.Keys.set i (⟨v.Key,IntKind.i64.wrap (v.N+1)⟩:Keyed))[i]?=some ⟨v.Key,IntKind.i64.wrap (v.N+1)⟩:=by simp [hil]
          refine ⟨(⟨m.Sum,m.Keys.set i ⟨v.Key,IntKind.i64.wrap (v.N+1)⟩,if x.Dep > m.Dep then x.Dep else m.Dep⟩,⟨x.Key,IntKind.i64.wrap (v.N+1),if x.Dep > m.Dep then x.Dep else m.Dep⟩,0),?_,?_,.inc i v _ _ hv hdp⟩
          · unfold V2a
            simp only [ixN_at hil,Option.bind_some,hv,ixN_at hset,hsg]
          · have e:Jqa m m.Keys x (if True then (i:Int) else -1) (m.Keys.length:Int)=some (.inr (⟨m.Sum,m.Keys.set i ⟨v.Key,IntKind.i64.wrap (v.N+1)⟩,if x.Dep > m.Dep then x.Dep else m.Dep⟩,⟨x.Key,IntKind.i64.wrap (v.N+1),if x.Dep > m.Dep then x.Dep else m.Dep⟩,0)):=by
              unfold Jqa
              rw [if_pos trivial,if_neg (by simp),if_pos (by simp)]
              simp only [ixN_at hil,Option.bind_some,hv,ixN_at hset,hsg]
              rfl
            simp only [e]
        | false =>
          have hnf:∀ t z,i≤t→m.Keys[t]?=some z→x.Key<z.Key:=fun t z ht hz=>by
            have h4:=h2 t z ht hz
            rcases Int.lt_or_eq_of_le h4 with h5 | h5
            · exact h5
            · exfalso
              by_cases e:t=i
              · subst e;exact absurd (h3.2 ⟨z,hz,h5.symm⟩) (by decide)
              · have hil:i<m.Keys.length:=by have:=(List.getElem?_eq_some_iff.1 hz).1;omega
                have hy:m.Keys[i]?=some m.Keys[i]:=List.getElem?_eq_getElem hil
                have h6:=h2 i _ (Nat.le_refl _) hy
                have h7:=ok.lt i t _ z (by omega) hy hz
                omega
          by_cases h6:m.Keys.length=6
          · rw [if_pos (by simp;omega)]
            refine ⟨_,rfl,?_,.same _ _ _ hdp⟩
            have e:Jqa m m.Keys x (if False then (i:Int) else -1) (m.Keys.length:Int)=some (.inr (⟨m.Sum,m.Keys,if x.Dep > m.Dep then x.Dep else m.Dep⟩,⟨x.Key,0,if x.Dep > m.Dep then x.Dep else m.Dep⟩,0)):=by
              unfold Jqa
              rw [if_neg (fun h:False=>h),if_neg (by simp),if_neg (by simp),if_neg (by simp;omega)];rfl
            simp only [Bool.false_eq_true,e]
          · have hl6:m.Keys.length<6:=by have:=ok.len;omega
            rw [if_neg (by simp;omega),if_pos (by simp)]
            have hin:=ins_eq (m.Keys.take i) (m.Keys.drop i) (⟨x.Key,0⟩:Keyed) (by simp;omega)
            have hti:(m.Keys.take i).length=i:=by simp;omega
            rw [List.take_append_drop,hti] at hin
            have hset:∀ a b:Keyed,(m.Keys.take i++a::m.Keys.drop i).set i b=m.Keys.take i++b::m.Keys.drop i:=fun a b=>by
              rw [List.set_append_right _ _ (by omega),hti,Nat.sub_self];rfl
            have hget:∀ a:Keyed,(m.Keys.take i++a::m.Keys.drop i)[i]?=some a:=fun a=>by
              rw [List.getElem?_append_right (by omega),hti,Nat.sub_self];rfl
            have hlen:∀ a:Keyed,i<(m.Keys.take i++a::m.Keys.drop i).length:=fun a=>by simp;omega
            have hw:IntKind.i64.wrap ((0:Int)+1)=1:=rfl
            refine ⟨(⟨m.Sum,m.Keys.take i++⟨x.Key,1⟩::m.Keys.drop i,if x.Dep > m.Dep then x.Dep else m.Dep⟩,⟨x.Key,1,if x.Dep > m.Dep then x.Dep else m.Dep⟩,0),?_,?_,.ins i _ _ hdp hl6 hi h1 hnf⟩
            · simp only
              rw [hin,Option.bind_some]
              unfold V2a
              simp only [ixN_at (hlen _),Option.bind_some,hget,hset,hw]
            · have hsort:sortK (m.Keys++[(⟨x.Key,1⟩:Keyed)])=some (m.Keys.take i++⟨x.Key,1⟩::m.Keys.drop i):=by
                refine sortK_eq _ _ (by simp;omega) ?_ ?_
                · refine List.perm_middle.trans ?_
                  rw [List.take_append_drop]
                  exact (List.perm_append_singleton _ _).symm
                · rw [List.pairwise_append,List.pairwise_cons]
                  have hpw:m.Keys.Pairwise (fun a b=>a.Key<b.Key):=by
                    rw [List.pairwise_iff_getElem]
                    exact fun a b ha hb hab=>ok.lt a b _ _ hab (List.getElem?_eq_getElem ha) (List.getElem?_eq_getElem hb)
                  refine ⟨hpw.sublist (List.take_sublist _ _),⟨fun z hz=>?_,hpw.sublist (List.drop_sublist _ _)⟩,fun a ha b hb=>?_⟩
                  · obtain ⟨t,ht⟩:=List.getElem?_of_mem hz
                    rw [List.getElem?_drop] at ht
                    exact hnf (i+t) z (by omega) ht
                  · obtain ⟨t,ht⟩:=List.getElem?_of_mem ha
                    rw [List.getElem?_take] at ht
                    split at ht
                    · rename_i hti2
                      have h7:=h1 t a hti2 ht
                      rcases List.mem_cons.1 hb with rfl | hb
                      · exact h7
                      · obtain ⟨t2,ht2⟩:=List.getElem?_of_mem hb
                        rw [List.getElem?_drop] at ht2
                        have h8:=hnf (i+t2) b (by omega) ht2
                        omega
                    · cases ht
              have e:Jqa m m.Keys x (if False then (i:Int) else -1) (m.Keys.length:Int)=some (.inr (⟨m.Sum,m.Keys.take i++⟨x.Key,1⟩::m.Keys.drop i,if x.Dep > m.Dep then x.Dep else m.Dep⟩,⟨x.Key,1,if x.Dep > m.Dep then x.Dep else m.Dep⟩,0)):=by
                unfold Jqa
                rw [if_neg (fun h:False=>h),if_neg (by simp),if_neg (by simp),if_pos (by simp;omega),Qnb (by simp;omega),Option.bind_some]
                unfold sort_Slice_K
                rw [hsort];rfl
              simp only [Bool.false_eq_true,e]
      · have n4:¬ (k==4)=true:=by simpa using k4
        rw [if_neg n4,if_neg n4]
        have sm:StepR k f m x (m,x,0):=.same m.Sum m.Dep x ok.dep
        by_cases hk:k=1∨k=5∨k=6∨k=7∨k=8
        · rcases hk with rfl | rfl | rfl | rfl | rfl<;>exact ⟨_,rfl,rfl,sm⟩
        · have n1:¬ (k==1)=true:=by simp;omega
          have n5:¬ (k==5)=true:=by simp;omega
          have n6:¬ (k==6)=true:=by simp;omega
          have n7:¬ (k==7)=true:=by simp;omega
          have n8:¬ (k==8)=true:=by simp;omega
          rw [if_neg n1,if_neg n5,if_neg n6,if_neg n7,if_neg n8]
          exact ⟨_,rfl,rfl,.err 5 (by decide)⟩
end Go.Proofs.YtfbmoockopakjaaGreat
namespace Go.Proofs.YtfbmoockopakjaaGreat
set_option linter.unusedVariables false
set_option linter.unusedSimpArgs false
theorem lt_of_pw {l:List Keyed} (h:l.Pairwise (fun a b=>a.Key<b.Key)):∀ (i j:Nat) x y,i<j→l[i]?=some x→l[j]?=some y→x.Key<y.Key:=fun i j x y hij hx hy=>by
  obtain ⟨hi,rfl⟩:=List.getElem?_eq_some_iff.1 hx
  obtain ⟨hj,rfl⟩:=List.getElem?_eq_some_iff.1 hy
  exact List.pairwise_iff_getElem.1 h i j hi hj hij
theorem ins_pw {l:List Keyed} {i:Nat} {key:Int} (hlt:∀ (i j:Nat) x y,i<j→l[i]?=some x→l[j]?=some y→x.Key<y.Key) (h1:∀ t z,t<i→l[t]?=some z→z.Key<key) (h2:∀ t z,i≤t→l[t]?=some z→key<z.Key) :
    (l.take i++(⟨key,1⟩:Keyed)::l.drop i).Pairwise (fun a b=>a.Key<b.Key):=by
  rw [List.pairwise_append,List.pairwise_cons]
  have hpw:l.Pairwise (fun a b=>a.Key<b.Key):=by
    rw [List.pairwise_iff_getElem]
    exact fun a b ha hb hab=>hlt a b _ _ hab (List.getElem?_eq_getElem ha) (List.getElem?_eq_getElem hb)
  refine ⟨hpw.sublist (List.take_sublist _ _),⟨fun z hz=>?_,hpw.sublist (List.drop_sublist _ _)⟩,fun a ha b hb=>?_⟩
  · obtain ⟨t,ht⟩:=List.getElem?_of_mem hz
    rw [List.getElem?_drop] at ht
    exact h2 (i+t) z (by omega) ht
  · obtain ⟨t,ht⟩:=List.getElem?_of_mem ha
    rw [List.getElem?_take] at ht
    split at ht
    · rename_i hti
      have h7:=h1 t a hti ht
      rcases List.mem_cons.1 hb with rfl | hb
      · exact h7
      · obtain ⟨t2,ht2⟩:=List.getElem?_of_mem hb
        rw [List.getElem?_drop] at ht2
        have h8:=h2 (i+t2) b (by omega) ht2
        omega
    · cases ht
theorem stepR_ok {k f:Int} {m:Memory} {x:Item} {R:Memory × Item × Int} (h:StepR k f m x R) (ok:okM m) (B:Int) (h0:0≤B) (hB:∀ y,y∈m.Keys→y.N≤B) (hB2:B<4611686018427387904) (hR:R.2.2=0):okM R.1∧∀ y,y∈R.1.Keys→y.N≤B+1:=by
  cases h with
  | err e he=>exact absurd hR he
  | same s d y hd=>exact ⟨⟨ok.len,ok.n,ok.lt,hd⟩,fun y hy=>by have:=hB y hy;omega⟩
  | inc i v d y hi hd =>
    have hv:=List.mem_of_getElem? hi
    have hv1:=ok.n v hv
    have hv2:=hB v hv
    have hw:IntKind.i64.wrap (v.N+1)=v.N+1:=Yqa (by omega) (by omega)
    have hget:∀ (a:Nat) (z:Keyed),(m.Keys.set i ⟨v.Key,IntKind.i64.wrap (v.N+1)⟩)[a]?=some z→∃ z',m.Keys[a]?=some z'∧z'.Key=z.Key:=fun a z hz=>by
      rw [List.getElem?_set] at hz
      split at hz
      · rename_i e
        subst e
        split at hz
        · cases hz;exact ⟨v,hi,rfl⟩
        · cases hz
      · exact ⟨z,hz,rfl⟩
    refine ⟨⟨by simpa using ok.len,fun z hz=>?_,fun a b z1 z2 hab hz1 hz2=>?_,hd⟩,fun z hz=>?_⟩
    · rcases List.mem_or_eq_of_mem_set hz with h1 | h1
      · exact ok.n z h1
      · subst h1;rw [hw];show 1≤v.N+1;omega
    · obtain ⟨w1,e1,e2⟩:=hget a z1 hz1
      obtain ⟨w2,e3,e4⟩:=hget b z2 hz2
      have:=ok.lt a b w1 w2 hab e1 e3
      omega
    · rcases List.mem_or_eq_of_mem_set hz with h1 | h1
      · have:=hB z h1;omega
      · subst h1;rw [hw];show v.N+1≤B+1;omega
  | ins i d y hd hl hi h1 h2 =>
    have hm:∀ z,z∈m.Keys.take i++(⟨x.Key,1⟩:Keyed)::m.Keys.drop i→z∈m.Keys∨z.N=1:=fun z hz=>by
      rcases List.mem_append.1 hz with h3 | h3
      · exact .inl (List.mem_of_mem_take h3)
      · rcases List.mem_cons.1 h3 with h3 | h3
        · exact .inr (by rw [h3])
        · exact .inl (List.mem_of_mem_drop h3)
    refine ⟨⟨by simp;omega,fun z hz=>?_,lt_of_pw (ins_pw ok.lt h1 h2),hd⟩,fun z hz=>?_⟩
    · rcases hm z hz with h3 | h3
      · exact ok.n z h3
      · omega
    · rcases hm z hz with h3 | h3
      · have:=hB z h3;omega
      · omega
end Go.Proofs.YtfbmoockopakjaaGreat
namespace Go.Proofs.YtfbmoockopakjaaGreat
set_option linter.unusedVariables false
set_option linter.unusedSimpArgs false
def maxD (a b:Int):Int:=if b > a then b else a
def mapP (f:Int) (x:Item):Int:=if f=0 then IntKind.i64.wrap (x.Val+1) else if f=1 then IntKind.i64.wrap (2*x.Val) else if f=2 then IntKind.i64.wrap (0 - x.Val) else IntKind.i64.wrap (x.Val+x.Key)
def lowN (key:Int):List Keyed→Nat
  | []=>0
  | y::ys=>if y.Key<key then lowN key ys+1 else 0
def newK (key:Int) (l:List Keyed):List Keyed × Int:=if l.length=6 then (l,0) else (l.take (lowN key l)++⟨key,1⟩::l.drop (lowN key l),1)
def cntP (key:Int) (l:List Keyed):List Keyed × Int :=
  match l[lowN key l]? with
  | some y=>if y.Key=key then (l.set (lowN key l) ⟨y.Key,IntKind.i64.wrap (y.N+1)⟩,IntKind.i64.wrap (y.N+1)) else newK key l
  | none=>newK key l
def stepP (k f:Int) (m:Memory) (x:Item):Memory × Item :=
  if k=2 then (m,⟨x.Key,mapP f x,x.Dep⟩)
  else if k=3 then (⟨IntKind.i64.wrap (m.Sum+x.Val),m.Keys,maxD m.Dep x.Dep⟩,⟨x.Key,IntKind.i64.wrap (m.Sum+x.Val),maxD m.Dep x.Dep⟩)
  else if k=4 then (⟨m.Sum,(cntP x.Key m.Keys).1,maxD m.Dep x.Dep⟩,⟨x.Key,(cntP x.Key m.Keys).2,maxD m.Dep x.Dep⟩)
  else (m,x)
def kindOk (k f:Int):Prop:=1≤k∧k≤8∧(k=2→0≤f∧f≤3)
theorem lowN_is {key:Int}:∀ {l:List Keyed} {i:Nat},i≤l.length→(∀ t x,t<i→l[t]?=some x→x.Key<key)→(∀ t x,i≤t→l[t]?=some x→key≤x.Key)→lowN key l=i
  | [],i,hi,_,_=>by simp at hi;subst hi;rfl
  | y::ys,0,hi,h1,h2=>by
    have:=h2 0 y (Nat.le_refl _) rfl
    unfold lowN;rw [if_neg (by omega)]
  | y::ys,i+1,hi,h1,h2=>by
    have:=h1 0 y (by omega) rfl
    unfold lowN
    rw [if_pos this,lowN_is (i:=i) (by simpa using hi) (fun t x ht hx=>h1 (t+1) x (by omega) (by simpa using hx)) (fun t x ht hx=>h2 (t+1) x (by omega) (by simpa using hx))]
theorem step_PR (k f:Int) (m:Memory) (x:Item) (ok:okM m) (hx:0≤x.Dep) (hk:kindOk k f):Yza k f m x=some ((stepP k f m x).1,(stepP k f m x).2,0)∧StepR k f m x ((stepP k f m x).1,(stepP k f m x).2,0):=by
  obtain ⟨c,hc,hc2⟩:=Check_iff m
  have hc0:=hc2.2 ok
  subst hc0
  have hap:app [] m.Keys=some m.Keys:=by rw [Qnb (by have:=ok.len;simp;omega)];rfl
  have hcl:Zra m.Keys=some m.Keys:=hap
  have hco:Q0b m=some m:=by unfold Q0b;rw [hcl];rfl
  have hnd:¬ decide (x.Dep<0)=true:=by simpa using hx
  have hdp:0≤maxD m.Dep x.Dep:=by have:=ok.dep;unfold maxD;split<;>omega
  unfold Yza
  rw [hc,Option.bind_some,if_neg (by simp),if_neg hnd,hco,Option.bind_some]
  by_cases k2:k=2
  · subst k2
    rw [if_pos (show ((2:Int)==2)=true from rfl)]
    have hf:=hk.2.2 rfl
    rw [if_neg (by simp;omega)]
    have:f=0∨f=1∨f=2∨f=3:=by omega
    rcases this with rfl | rfl | rfl | rfl<;>exact ⟨rfl,.same _ _ _ ok.dep⟩
  · have n2 : ¬ (k==2)=true:=by simpa using k2
    rw [if_neg n2]
    by_cases k3:k=3
    · subst k3
      rw [if_pos (show ((3:Int)==3)=true from rfl)]
      exact ⟨rfl,.same _ _ _ hdp⟩
    · have n3 : ¬ (k==3)=true:=by simpa using k3
      rw [if_neg n3]
      by_cases k4:k=4
      · subst k4
        rw [if_pos (show ((4:Int)==4)=true from rfl)]
        obtain ⟨i,b,hs,hi,h1,h2,h3⟩:=search_at m.Keys x.Key ok.len ok.lt
        have hlow:=lowN_is hi h1 h2
        have hP:stepP 4 f m x=(⟨m.Sum,(cntP x.Key m.Keys).1,maxD m.Dep x.Dep⟩,⟨x.Key,(cntP x.Key m.Keys).2,maxD m.Dep x.Dep⟩):=rfl
        rw [hs,Option.bind_some,hP]
        cases b with
        | true =>
          obtain ⟨v,hv,hvk⟩:=h3.1 rfl
          have hil:=(List.getElem?_eq_some_iff.1 hv).1
          have hcp:cntP x.Key m.Keys=(m.Keys.set i ⟨v.Key,IntKind.i64.wrap (v.N+1)⟩,IntKind.i64.wrap (v.N+1)):=by
            unfold cntP
            rw [hlow,hv]
            simp only
            rw [if_pos hvk]
          rw [if_neg (by simp),if_neg (by simp),hcp]
          have hset:i<(m.Keys.set i (⟨v.Key,IntKind.i64.wrap (v.N+1)⟩:Keyed)).length:=by simpa using hil
          have hsg:(m.Keys.set i (⟨v.Key,IntKind.i64.wrap (v.N+1)⟩:Keyed))[i]?=some ⟨v.Key,IntKind.i64.wrap (v.N+1)⟩:=by simp [hil]
          refine ⟨?_,.inc i v _ _ hv hdp⟩
          unfold V2a
          simp only [ixN_at hil,Option.bind_some,hv,ixN_at hset,hsg]
          rfl
        | false =>
          have hcn:cntP x.Key m.Keys=newK x.Key m.Keys:=by
            unfold cntP
            rw [hlow]
            cases hv:m.Keys[i]? with
            | none=>rfl
            | some v =>
              simp only
              rw [if_neg (fun e=>absurd (h3.2 ⟨v,hv,e⟩) (by decide))]
          rw [hcn]
          by_cases h6:m.Keys.length=6
          · rw [if_pos (by simp;omega)]
            unfold newK
            rw [if_pos h6];exact ⟨rfl,.same _ _ _ hdp⟩
          · have hl6:m.Keys.length<6:=by have:=ok.len;omega
            rw [if_neg (by simp;omega),if_pos (by simp)]
            have hin:=ins_eq (m.Keys.take i) (m.Keys.drop i) (⟨x.Key,0⟩:Keyed) (by simp;omega)
            have hti:(m.Keys.take i).length=i:=by simp;omega
            rw [List.take_append_drop,hti] at hin
            have hset:∀ a b:Keyed,(m.Keys.take i++a::m.Keys.drop i).set i b=m.Keys.take i++b::m.Keys.drop i:=fun a b=>by
              rw [List.set_append_right _ _ (by omega),hti,Nat.sub_self];rfl
            have hget:∀ a:Keyed,(m.Keys.take i++a::m.Keys.drop i)[i]?=some a:=fun a=>by
              rw [List.getElem?_append_right (by omega),hti,Nat.sub_self];rfl
            have hlen:∀ a:Keyed,i<(m.Keys.take i++a::m.Keys.drop i).length:=fun a=>by simp;omega
            have hw:IntKind.i64.wrap ((0:Int)+1)=1:=rfl
            have hnf:∀ t z,i≤t→m.Keys[t]?=some z→x.Key<z.Key:=fun t z ht hz=>by
              have h4:=h2 t z ht hz
              rcases Int.lt_or_eq_of_le h4 with h5 | h5
              · exact h5
              · exfalso
                by_cases e:t=i
                · subst e;exact absurd (h3.2 ⟨z,hz,h5.symm⟩) (by decide)
                · have hil:i<m.Keys.length:=by have:=(List.getElem?_eq_some_iff.1 hz).1;omega
                  have hy:m.Keys[i]?=some m.Keys[i]:=List.getElem?_eq_getElem hil
                  have h6:=h2 i _ (Nat.le_refl _) hy
                  have h7:=ok.lt i t _ z (by omega) hy hz
                  omega
            have hnk:newK x.Key m.Keys=(m.Keys.take i++⟨x.Key,1⟩::m.Keys.drop i,1):=by unfold newK;rw [if_neg h6,hlow]
            rw [hnk]
            refine ⟨?_,.ins i _ _ hdp hl6 hi h1 hnf⟩
            simp only
            rw [hin,Option.bind_some]
            unfold V2a
            simp only [ixN_at (hlen _),Option.bind_some,hget,hset,hw]
            rfl
      · have n4:¬ (k==4)=true:=by simpa using k4
        rw [if_neg n4]
        have hP:stepP k f m x=(m,x):=by unfold stepP;rw [if_neg k2,if_neg k3,if_neg k4]
        rw [hP]
        have hk':k=1∨k=5∨k=6∨k=7∨k=8:=by have:=hk.1;have:=hk.2.1;omega
        rcases hk' with rfl | rfl | rfl | rfl | rfl<;>exact ⟨rfl,.same m.Sum m.Dep x ok.dep⟩
theorem step_P (k f:Int) (m:Memory) (x:Item) (ok:okM m) (hx:0≤x.Dep) (hk:kindOk k f):Yza k f m x=some ((stepP k f m x).1,(stepP k f m x).2,0):=(step_PR k f m x ok hx hk).1
theorem stepP_R (k f:Int) (m:Memory) (x:Item) (ok:okM m) (hx:0≤x.Dep) (hk:kindOk k f):StepR k f m x ((stepP k f m x).1,(stepP k f m x).2,0):=(step_PR k f m x ok hx hk).2
theorem stepP_ok {k f:Int} {m:Memory} {x:Item} (ok:okM m) (hx:0≤x.Dep) (hk:kindOk k f) (B:Int) (h0:0≤B) (hB:∀ y,y∈m.Keys→y.N≤B) (hB2:B<4611686018427387904) :
    okM (stepP k f m x).1∧∀ y,y∈(stepP k f m x).1.Keys→y.N≤B+1:=stepR_ok (stepP_R k f m x ok hx hk) ok B h0 hB hB2 rfl
theorem make_P (k f:Int) (m:Memory) (x:Item) (ok:okM m) (hx:0≤x.Dep) (hk:kindOk k f):Qcb k f m x=some ((stepP k f m x).1,(stepP k f m x).2,0):=by
  obtain ⟨R,h1,h2,_⟩:=step_make k f m x ok hx
  rw [step_P k f m x ok hx hk] at h1
  cases h1
  exact h2
def deep (k:Int):Bool:=k==3 || k==4
theorem stepP_dep (k f:Int) (m:Memory) (x:Item):(stepP k f m x).2.Dep=(if deep k then maxD m.Dep x.Dep else x.Dep)∧(stepP k f m x).1.Dep=if deep k then maxD m.Dep x.Dep else m.Dep:=by
  unfold stepP deep
  by_cases h2:k=2
  · subst h2;exact ⟨rfl,rfl⟩
  · by_cases h3:k=3
    · subst h3;exact ⟨rfl,rfl⟩
    · by_cases h4:k=4
      · subst h4;exact ⟨rfl,rfl⟩
      · rw [if_neg h2,if_neg h3,if_neg h4]
        have:(k==3 || k==4)=false:=by simp [h3,h4]
        rw [this];exact ⟨rfl,rfl⟩
end Go.Proofs.YtfbmoockopakjaaGreat
