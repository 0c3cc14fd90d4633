/-
  Part 4 of the proof of savePutLaw.proved: the code computes these functions, and the law holds of them, with no condition beyond the statement's own; put together by a program of ours (wip/decl.py) out of texts of ours.
-/
import Derived.Test.YtchmpaaofmihcaaGreatZSavePut3
namespace Go.Proofs.YtchmpaaofmihcaaGreat
open Go.RowKit
set_option linter.unusedVariables false
set_option linter.unusedSimpArgs false
set_option maxRecDepth 100000
set_option maxHeartbeats 4000000
set_option synthInstance.maxSize 100000
set_option synthInstance.maxHeartbeats 4000000
theorem Ypa (p0:List Item) (r:Item × (List Item) × Int) (h:ring_Take p0=some r):FnO Tryz.prog 87 [sL Qaa p0] (.tup [.agg (Qaa r.1),.ref 0,iI r.2.2]) [aR 115 3 Qaa r.2.1]:=by
  unfold ring_Take at h
  refine fnT 0 Tryz.func87 Tryz.ntmps87 ?_
  refine T.seq (T.region (go 3 0 (RS.nil (T.seq (T.seq (T.region (go 1 1 (sQ (Qfa Ty.s52 rfl (go 1 1 ?_))))))))))
  refine RS.nil (T.ci h rfl (fun hb_1 h=>?_) (fun hb_1 h=>?_))
  ·refine T.seq (T.region (go 4 1 (RS.nil ?_)))
   cases h
   exact tO [(1,115,3)] [1] 1
  refine T.skip (T.seq (T.seq (T.region (go 1 1 (sQ (Qfa Ty.s52 rfl (go 1 1 (RS.nil (T.ci h rfl (fun hb_2 h=>?_) (fun hb_2 h=>?_))))))))))
  ·refine T.seq (T.region (go 4 1 (RS.nil ?_)))
   cases h
   exact tO [(1,115,3)] [1] 1
  refine T.skip (T.seq ?_)
  obtain ⟨x4,hx4,h⟩:=bind_some h
  obtain ⟨x5,hx5,h⟩:=bind_some h
  obtain ⟨x6,hx6,h⟩:=bind_some h
  refine T.drawn mixed (k:=9) rfl ?_
  apply RA.jn 3 #[true,true,true,true,true,true,false,false,false];intro hS3
  ·refine rq [0] 8 (r0 1 rfl (Qga Ty.s52 (fun _=>rfl) rfl rfl hx4 (rq [3] 6 (r0 4 rfl (v_slice_sl Ty.s52 (fun _=>rfl) rfl rfl rfl hx5 (ra2 2 5 ?_ ?_))))))
   ·refine og 1 ⟨rfl,(ra1 5 (oO rfl (cO 1 (V8a x5 x6 hx6) ⟨rfl,?_⟩)))⟩
    exact raE hS3
   ·refine oO rfl (cO 1 (V8a x5 x6 hx6) ⟨rfl,(ra1 2 (og 2 ⟨rfl,?_⟩))⟩)
    exact raT hS3
  refine ra1 6 (og 2 ⟨rfl,(rq [7,8] 0 (RA.done (by decide +kernel) ?_))⟩)
  cases h
  exact tO [] [1] 2
theorem ring_Put_c (p0:List Item) (p1:Int) (p2:Item) (r:(List Item) × Int) (h:ring_Put p0 p1 p2=some r):FnO Tryz.prog 90 [sL Qaa p0,iI p1,.agg (Qaa p2)] (.tup [.ref 0,iI r.2]) [aR 115 3 Qaa r.1]:=by
  unfold ring_Put at h
  refine fnT 0 Tryz.func90 Tryz.ntmps90 ?_
  refine T.seq (T.region (go 3 0 (RS.nil (T.seq (T.join (Z:=Unit) (fun _=>mkA 27 [(0,sL Qaa p0),(1,iI p1),(5,.ptr 0 0),(13,.bool ((decide (p1<1)) || decide (p1 > 6)))]) (fun _=>[.box (Qaa p2)]) (fun _=>True) (fun _ _=>?_) (fun hK=>?_))))))
  ·refine T.ci h rfl (fun hb_2 h=>?_) (fun hb_2 h=>?_)
   ·refine T.seq (T.region (go 2 1 (RS.nil ?_)))
    cases h
    exact tO [(0,115,3)] [1] 1
   refine T.skip (T.seq (T.seq (T.region (go 1 1 (sQ (Qfa Ty.s52 rfl (go 2 1 (RS.nil (T.ci h rfl (fun hb_3 h=>?_) (fun hb_3 h=>?_))))))))))
   ·refine T.seq (T.region (go 2 1 (RS.nil ?_)))
    cases h
    exact tO [(0,115,3)] [1] 1
   refine T.skip (T.seq (T.seq (T.region (go 1 1 (sQ (Qfa Ty.s52 rfl (go 2 1 (RS.nil (T.ci h rfl (fun hb_4 h=>?_) (fun hb_4 h=>?_))))))))))
   ·refine T.seq (T.region (go 2 1 (RS.nil ?_)))
    cases h
    exact tO [(0,115,3)] [1] 1
   refine T.skip (T.seq ?_)
   obtain ⟨x4,hx4,h⟩:=bind_some h
   obtain ⟨x5,hx5,h⟩:=bind_some h
   refine T.drawn mixed (k:=7) rfl ?_
   apply RA.jn 3 #[true,true,true,true,false,false,false];intro hS5
   apply RA.jn 4 #[true,true,true,false,false,false,false];intro hS6
   ·refine rq [0] 6 (ra2 1 2 ?_ ?_)
    ·refine oO rfl (cO 1 (V8a p0 x4 hx4) ⟨rfl,(ra1 2 (og 2 ⟨rfl,?_⟩))⟩)
     exact raE hS6
    ·refine og 1 ⟨rfl,(ra2 1 3 ?_ ?_)⟩
     ·refine oO rfl (cO 1 (V8a p0 x4 hx4) ⟨rfl,?_⟩)
      exact raT hS6
     ·refine oO rfl (Qra (rows:=List.map Qaa [p2]) (vs:=[.agg (Qaa p2)]) Ty.s52 Ty.z115 rfl rfl rfl rfl rfl rfl (ra1 1 (oO rfl (cO 2 (V8a p0 x4 hx4) ⟨rfl,?_⟩))))
      exact raE hS5
   ·refine ra1 3 (oO rfl (Qra (rows:=List.map Qaa [p2]) (vs:=[.agg (Qaa p2)]) Ty.s52 Ty.z115 rfl rfl rfl rfl rfl rfl ?_))
    exact raV hS5 [0,2,1] rfl
   refine ra1 4 (oO rfl (Zma (en:=Qaa) (xs:=x4) (ys:=([p2]:List Item)) Ty.s52 (fun _=>rfl) rfl rfl rfl hx5 rfl rfl (rq [5,6] 0 (RA.done (by decide +kernel) ?_))))
   cases h
   exact tO [] [3] 4
  refine T.region (go 3 1 ?_)
  rcases Qca (decide (p1<1)) with hb_1 | hb_1
  ·refine sN hb_1 (sN hb_1 (sQ (Qha (v:=.bool true) rfl hb_1 rfl (RS.nil ?_))))
   exact T.sub (hK () trivial) ⟨rfl,rfl,rfl,(congrArg AV.bool (by simp only [hb_1,bz,if_true,if_false,Bool.false_eq_true])).symm,trivial⟩
  refine yg 1 hb_1 (yg 1 hb_1 (sQ (Qda (v:=.bool (decide (p1 > 6))) rfl hb_1 rfl (RS.nil ?_))))
  exact T.sub (hK () trivial) ⟨rfl,rfl,rfl,(congrArg AV.bool (by simp only [hb_1,bz,if_true,if_false,Bool.false_eq_true])).symm,trivial⟩
theorem move_do_x5aa6_c (p0:Net) (p1:List (List Item)) (p2:Move) (p3:List Int) (p4:List (List Item)) (p5:List Memory) (p6:List Choice) (p7:List Item) (r:(List Int) × (List (List Item)) × (List Memory) × (List Choice) × (List Item)) (h:Q1b p0 p1 p2 p3 p4 p5 p6 p7=some r):FnX Tryz.prog 66 [.agg (Jda p0),sL (encL Qaa) p1,.ptr 0 0,.agg (Zia p2)] [.box [.ref 1,.ref 2,.ref 3,.ref 4,.ref 5],aR 3 1 encI p3,aR 52 1 (encL Qaa) p4,aR 90 3 Qba p5,aR 94 2 Qea p6,aR 115 3 Qaa p7] (.tup []) [.box [.ref 1,.ref 2,.ref 3,.ref 6,.ref 7],aR 3 1 encI r.1,aR 52 1 (encL Qaa) r.2.1,aR 90 3 Qba r.2.2.1,.dead,.dead,aR 94 2 Qea r.2.2.2.1,aR 115 3 Qaa r.2.2.2.2]:=by
  unfold Q1b at h
  refine fnT 6 Tryz.func66 Tryz.ntmps66 ?_
  refine T.mvB 0 4 5 (cs:=[.ref 1,.ref 2,.ref 3,.ref 4,.ref 5]) rfl rfl rfl rfl (cs':=[.ref 1,.ref 2,.ref 3,.ref 4,.ref 6]) rfl rfl (T.mvB 0 3 4 (cs:=[.ref 1,.ref 2,.ref 3,.ref 4,.ref 6]) rfl rfl rfl rfl (cs':=[.ref 1,.ref 2,.ref 3,.ref 7,.ref 6]) rfl rfl (T.seq (T.region (go 2 8 (RS.nil (T.seq ?_))))))
  obtain ⟨x2,hx2,h⟩:=bind_some h
  refine T.region (go 4 10 (sQ (Qga Ty.s45 (fun _=>rfl) rfl rfl hx2 (go 3 10 (RS.nil (T.seq ?_))))))
  obtain ⟨x4,hx4,h⟩:=bind_some h
  refine T.drawn mixed (k:=13) rfl ?_
  apply RA.jn 2 #[true,true,true,true,true,true,true,true,true,true,true,false,false];intro hS1
  ·refine rq [1,2,3] 10 (rL [0,6,7,8,9,11,12] 0 rfl (rL [4,6,7,8,9,11,12] 4 rfl (rL [5,6,7,8,9,11,12] 5 rfl (ra2 6 10 ?_ ?_))))
   ·refine oO rfl (cF (move_head_c p0 p1 (⟨p3,p4,p5,p6,p7⟩:State) p2 x4 hx4) ⟨rfl,(rq [7,8,9] 3 (ra1 10 (og 11 ⟨rfl,?_⟩)))⟩)
    exact raE hS1
   ·refine og 11 ⟨rfl,(ra1 6 (oO rfl (cF (move_head_c p0 p1 (⟨p3,p4,p5,p6,p7⟩:State) p2 x4 hx4) ⟨rfl,(rq [7,8,9] 2 ?_)⟩)))⟩
    exact raT hS1
  refine ra1 11 (og 12 ⟨rfl,(rq [12] 0 (RA.done (by decide +kernel) (T.join (Z:=(List Int) × (List (List Item))) (fun zz_21=>mkA 162 [(2,.ptr 0 0),(4,.ptr 6 0),(7,.ptr 7 0),(8,.ptr 8 0),(9,.ptr 9 0)]) (fun zz_21=>[.box [.ref 1,.ref 2,.ref 3,.ref 10,.ref 11],aR 3 1 encI zz_21.1,aR 52 1 (encL Qaa) zz_21.2,aR 90 3 Qba p5,.dead,.dead,.box (Jda p0),.box (Zia p2),.box (Jea x2),.box (Qaa x4.1),aR 94 2 Qea p6,aR 115 3 Qaa p7]) (fun zz_21=>Vwa p0 p2 x2 x4 p5 p6 p7 zz_21.1 zz_21.2=some r) (fun zz_21 h=>?_) (fun hK4=>?_))))⟩)
  ·obtain ⟨z16,z17⟩:=zz_21
   replace h:Vwa p0 p2 x2 x4 p5 p6 p7 z16 z17=some r:=h
   try dsimp only
   unfold Vwa at h
   refine T.seq ?_
   obtain ⟨x19,hx19,h⟩:=bind_some h
   refine T.region (go 2 12 (sO (cD (move_outs_c x2 x4.1 x19 hx19) ⟨rfl,(go 1 12 (RS.nil (T.join (Z:=Int × (List Choice)) (fun zz_23=>mkA 162 [(2,.ptr 0 0),(4,.ptr 6 0),(7,.ptr 7 0),(8,.ptr 8 0),(9,.ptr 9 0),(11,sL encI x19)]) (fun zz_23=>[.box [.ref 1,.ref 2,.ref 3,.ref 10,.ref 11],aR 3 1 encI z16,aR 52 1 (encL Qaa) z17,aR 90 3 Qba p5,.dead,.dead,.box (Jda p0),.box (Zia p2),.box (Jea x2),.box [iI x4.1.Key,iI x4.1.Val,iI zz_23.1],aR 94 2 Qea zz_23.2,aR 115 3 Qaa p7]) (fun zz_23=>Vva p0 p2 x2 x4 p5 p7 z16 z17 x19 zz_23.1 zz_23.2=some r) (fun zz_23 h=>?_) (fun hK3=>?_))))⟩)))
   ·obtain ⟨z22,z23⟩:=zz_23
    replace h:Vva p0 p2 x2 x4 p5 p7 z16 z17 x19 z22 z23=some r:=h
    try dsimp only
    unfold Vva at h
    refine T.seq ?_
    obtain ⟨x29,hx29,h⟩:=bind_some h
    obtain ⟨x30,hx30,h⟩:=bind_some h
    obtain ⟨x31,hx31,h⟩:=bind_some h
    obtain ⟨x32,hx32,h⟩:=bind_some h
    obtain ⟨x33,hx33,h⟩:=bind_some h
    refine T.drawn mixed (k:=27) rfl ?_
    apply RA.jn 2 #[true,true,true,true,true,true,true,true,true,true,true,true,true,true,true,true,true,true,true,true,true,true,true,true,true,false,false];intro hS24
    apply RA.jn 4 #[true,true,true,true,true,false,true,true,true,true,true,true,true,true,true,true,true,true,true,true,true,true,true,true,false,false,false];intro hS25
    apply RA.jn 8 #[true,true,true,true,true,true,true,true,true,true,true,true,true,true,true,true,true,true,true,false,false,false,false,false,false,false,false];intro hS26
    apply RA.jn 9 #[true,true,true,true,true,false,true,true,true,true,true,true,true,true,true,true,true,true,true,false,false,false,false,false,false,false,false];intro hS27
    apply RA.jn 9 #[true,true,true,false,true,true,true,true,true,true,true,true,true,true,true,true,true,true,true,false,false,false,false,false,false,false,false];intro hS28
    apply RA.jn 9 #[true,true,true,true,true,true,true,true,true,true,true,true,true,true,true,true,true,false,true,false,false,false,false,false,false,false,false];intro hS29
    ·refine rq [0,1,2,4,6,8,10,11,12,14] 17 (rL [7,19,20,21,22,23,24,25,26] 7 rfl (rL [9,19,20,21,22,23,24,25,26] 9 rfl (rL [13,16,17,19,20,21,22,23,24,25,26] 13 rfl (rL [15,16,17,19,20,21,22,23,24,25,26] 15 rfl (r0 16 rfl (Qqa (en:=Qba) Ty.s50 rfl rfl rfl hx29 (rL [18,19,20,21,22,23,24,25,26] 18 rfl (ra3 3 5 17 ?_ ?_ ?_))))))))
     ·refine og 12 ⟨rfl,(ra2 5 17 ?_ ?_)⟩
      ·refine og 12 ⟨rfl,?_⟩
       exact raE hS29
      ·refine oO rfl (Qya (en:=Qba) (a:=x30) rfl rfl hx30 (loadRowA Ty.k90 Ty.c90 rfl (cs:=(Qba x30)) rfl ?_))
       exact raE hS27
     ·refine og 12 ⟨rfl,(ra2 3 17 ?_ ?_)⟩
      ·refine og 12 ⟨rfl,?_⟩
       exact raT hS29
      ·refine oO rfl (Qya (en:=Qba) (a:=x30) rfl rfl hx30 (loadRowA Ty.k90 Ty.c90 rfl (cs:=(Qba x30)) rfl ?_))
       exact raE hS28
     ·refine oO rfl (Qya (en:=Qba) (a:=x30) rfl rfl hx30 (loadRowA Ty.k90 Ty.c90 rfl (cs:=(Qba x30)) rfl (ra3 3 5 19 ?_ ?_ ?_)))
      ·refine og 12 ⟨rfl,?_⟩
       exact raT hS27
      ·refine og 12 ⟨rfl,?_⟩
       exact raT hS28
      ·refine oO rfl (cD (Yya x2.Kind x2.A x30 (⟨x4.1.Key,x4.1.Val,z22⟩:Item) x31 hx31) ⟨rfl,(rq [20,21,22,23] 5 (rL [3,24,25,26] 3 rfl ?_))⟩)
       exact raE hS25
    ·refine ra1 17 (oO rfl (Qya (en:=Qba) (a:=x30) rfl rfl hx30 (loadRowA Ty.k90 Ty.c90 rfl (cs:=(Qba x30)) rfl ?_)))
     exact raE hS26
    ·refine ra2 3 19 ?_ ?_
     ·refine og 12 ⟨rfl,?_⟩
      exact raT hS26
     ·refine oO rfl (cD (Yya x2.Kind x2.A x30 (⟨x4.1.Key,x4.1.Val,z22⟩:Item) x31 hx31) ⟨rfl,(rq [20,21,22,23] 4 (ra1 3 (og 12 ⟨rfl,(r0 24 rfl (Qqa (en:=Qba) Ty.s50 rfl rfl rfl hx32 ?_))⟩)))⟩)
      exact raE hS24
    ·refine ra2 5 19 ?_ ?_
     ·refine og 12 ⟨rfl,?_⟩
      exact raT hS26
     ·refine oO rfl (cD (Yya x2.Kind x2.A x30 (⟨x4.1.Key,x4.1.Val,z22⟩:Item) x31 hx31) ⟨rfl,(rq [20,21,22,23] 4 ?_)⟩)
      exact raT hS25
    ·refine ra1 19 (oO rfl (cD (Yya x2.Kind x2.A x30 (⟨x4.1.Key,x4.1.Val,z22⟩:Item) x31 hx31) ⟨rfl,(rq [20,21,22,23] 3 (r0 24 rfl (Qqa (en:=Qba) Ty.s50 rfl rfl rfl hx32 ?_)))⟩))
     exact raT hS24
    ·refine ra1 5 (og 12 ⟨rfl,(r0 24 rfl (Qqa (en:=Qba) Ty.s50 rfl rfl rfl hx32 ?_))⟩)
     exact raT hS24
    refine ra1 25 (oO rfl (Zta (en:=Qba) (a:=x33) (a':=x31.1) Ty.c90 Ty.i90 rfl (vs:=[iI x31.1.Sum,sL Qla x31.1.Keys,iI x31.1.Dep]) rfl rfl rfl hx33 rfl rfl rfl (ra1 26 (og 12 ⟨rfl,(RA.done (by decide +kernel) (T.join (Z:=List Item) (fun zz_31=>mkA 162 [(2,.ptr 0 0),(4,.ptr 6 0),(9,.ptr 7 0),(11,sL encI x19)]) (fun zz_31=>[.box [.ref 1,.ref 2,.ref 3,.ref 8,.ref 9],aR 3 1 encI z16,aR 52 1 (encL Qaa) z17,aR 90 3 Qba (List.set p5 x32 x31.1),.dead,.dead,.box (Jda p0),.box (Qaa x31.2.1),aR 94 2 Qea z23,aR 115 3 Qaa zz_31]) (fun zz_31=>Yha p0 p5 z16 z17 x19 z23 x31 x32 zz_31=some r) (fun zz_31 h=>?_) (fun hK2=>?_)))⟩))))
    ·revert h;revert zz_31;intro z35 h
     replace h:Yha p0 p5 z16 z17 x19 z23 x31 x32 z35=some r:=h
     try dsimp only
     unfold Yha at h
     refine T.seq (T.region (go 1 10 (sQ (Qfa Ty.s49 rfl (go 1 10 (RS.nil (T.block (T.iter (fun ss_38:Int × (List (List Item))=>mkA 162 [(2,.ptr 0 0),(4,.ptr 6 0),(9,.ptr 7 0),(135,sL encI x19),(136,iI ((x19).length:Int)),(137,iI ss_38.1)]) (fun ss_38=>[.box [.ref 1,.ref 2,.ref 3,.ref 8,.ref 9],aR 3 1 encI z16,aR 52 1 (encL Qaa) ss_38.2,aR 90 3 Qba (List.set p5 x32 x31.1),.dead,.dead,.box (Jda p0),.box (Qaa x31.2.1),aR 94 2 Qea z23,aR 115 3 Qaa z35]) h (wk [] [0,1,2,3,4,5,6,7,8,9] 10 rfl) (fun ss_38 v_39 h hv_39=>?_)))))))))
     obtain ⟨s36,s37⟩:=ss_38
     replace h:Vba p0 p5 z16 x19 z23 x31 x32 z35 s36 s37=some v_39:=h
     try dsimp only
     unfold Vba at h
     refine T.seq (T.region (go 1 10 (RS.nil (T.seq (T.ci h rfl (fun hb_40 h=>?_) (fun hb_40 h=>?_))))))
     ·refine T.skip (T.seq (T.block (T.seq ?_)))
      obtain ⟨x39,hx39,h⟩:=bind_some h
      refine T.region (sQ (Qga Ty.s49 (fun _=>rfl) rfl rfl hx39 (go 2 10 (RS.nil ?_))))
      obtain ⟨x40,hx40,h⟩:=bind_some h
      obtain ⟨x41,hx41,h⟩:=bind_some h
      obtain ⟨x42,hx42,h⟩:=bind_some h
      obtain ⟨x43,hx43,h⟩:=bind_some h
      obtain ⟨x44,hx44,h⟩:=bind_some h
      refine T.drawn mixed (k:=21) rfl ?_
      apply RA.jn 1 #[true,true,true,true,true,true,true,true,true,true,true,true,true,true,true,true,true,true,true,true,false];intro hS41
      apply RA.jn 6 #[true,true,true,true,true,true,true,true,true,true,true,true,true,true,true,false,false,false,false,false,false];intro hS42
      ·refine rq [0,1,2,4,5,6,7,9,12] 12 (rL [8,10,11,15,16,17,18,19,20] 8 rfl (r0 10 rfl (Qqa (en:=(encL Qaa)) Ty.s48 rfl rfl rfl hx40 (rL [13,15,16,17,18,19,20] 13 rfl (rL [14,15,16,17,18,19,20] 14 rfl (ra2 3 11 ?_ ?_))))))
       ·refine og 10 ⟨rfl,(ra1 11 (oO rfl (Qya (en:=(encL Qaa)) (a:=x41) rfl rfl hx41 (Jva Ty.k52 (c:=sL Qaa x41) rfl ?_))))⟩
        exact raE hS42
       ·refine oO rfl (Qya (en:=(encL Qaa)) (a:=x41) rfl rfl hx41 (Jva Ty.k52 (c:=sL Qaa x41) rfl (ra2 3 15 ?_ ?_)))
        ·refine og 10 ⟨rfl,?_⟩
         exact raT hS42
        ·refine oO rfl (cO 10 (ring_Put_c x41 p0.Room x31.2.1 x42 hx42) ⟨rfl,(rq [16,17,18] 3 (ra1 3 (og 11 ⟨rfl,(r0 19 rfl (Qqa (en:=(encL Qaa)) Ty.s48 rfl rfl rfl hx43 ?_))⟩)))⟩)
         exact raE hS41
      ·refine ra1 15 (oO rfl (cO 10 (ring_Put_c x41 p0.Room x31.2.1 x42 hx42) ⟨rfl,(rq [16,17,18] 2 (r0 19 rfl (Qqa (en:=(encL Qaa)) Ty.s48 rfl rfl rfl hx43 ?_)))⟩))
       exact raT hS41
      refine ra1 20 (RO.fC 10 (oO rfl (Zta (en:=(encL Qaa)) (a:=x44) (a':=x42.1) Ty.c52 Ty.i52 rfl (vs:=[sL Qaa x42.1]) rfl rfl rfl hx44 rfl rfl rfl (RA.done (by decide +kernel) (T.region (go 2 11 (RS.nil ?_)))))))
      exact ⟨(IntKind.i64.wrap (s36+1),(List.set s37 x43 x42.1)),(Option.some.inj h).symm,wk [] [0,1,2,3,4,5,6,7,8,9] 11 rfl⟩
     refine T.exit ?_
     obtain ⟨w_43,h,hw_43⟩:=Qpa h
     replace h:=h.trans (congrArg some (hv_39 _ hw_43))
     refine exN (Qxb ?_)
     exact ret_norm (v:=.tup []) (aw1:=[.box [.ref 1,.ref 2,.ref 3,.ref 8,.ref 9],aR 3 1 encI z16,aR 52 1 (encL Qaa) s37,aR 90 3 Qba (List.set p5 x32 x31.1),.dead,.dead,.box (Jda p0),.box (Qaa x31.2.1),aR 94 2 Qea z23,aR 115 3 Qaa z35]) (.tup []) [0,1,2,3,4,5,8,9] rfl (by decide) (by decide) (rn_tup trivial) (Jfa (cs:=[.ref 1,.ref 2,.ref 3,.ref 6,.ref 7]) (ds:=[.ref 1,.ref 2,.ref 3,.ref 8,.ref 9]) rfl ⟨Q8a rfl,Q8a rfl,Q8a rfl,Q8a rfl,Q8a rfl,trivial⟩ (Jza rfl encI_p (congrArg (fun r:(List Int) × (List (List Item)) × (List Memory) × (List Choice) × (List Item)=>r.1) (Option.some.inj h)).symm (Jza rfl (encL_p Jca) (congrArg (fun r:(List Int) × (List (List Item)) × (List Memory) × (List Choice) × (List Item)=>r.2.1) (Option.some.inj h)).symm (Jza rfl J9a (congrArg (fun r:(List Int) × (List (List Item)) × (List Memory) × (List Choice) × (List Item)=>r.2.2.1) (Option.some.inj h)).symm (rw_dead rfl (rw_dead rfl (Jza rfl J8a (congrArg (fun r:(List Int) × (List (List Item)) × (List Memory) × (List Choice) × (List Item)=>r.2.2.2.1) (Option.some.inj h)).symm (Jza rfl Jca (congrArg (fun r:(List Int) × (List (List Item)) × (List Memory) × (List Choice) × (List Item)=>r.2.2.2.2) (Option.some.inj h)).symm (Qoa))))))))) ⟨rfl,rfl⟩
    refine T.seq (T.region (go 3 12 (RS.nil (T.ci h rfl (fun hb_44 h=>?_) (fun hb_44 h=>?_)))))
    ·obtain ⟨x34,hx34,h⟩:=bind_some h
     refine T.drawn mixed (k:=11) rfl (rq [0,1,2,3] 7 (rL [4,7,8,9,10] 4 rfl (ra1 5 (og 12 ⟨rfl,(ra1 6 (oO rfl (Qra (rows:=List.map Qaa [x31.2.1]) (vs:=[.agg (Qaa x31.2.1)]) Ty.s52 Ty.z115 rfl rfl rfl rfl rfl rfl (ra1 7 (oO rfl (Zma (en:=Qaa) (xs:=p7) (ys:=([x31.2.1]:List Item)) Ty.s52 (fun _=>rfl) rfl rfl rfl hx34 rfl rfl (rq [8,9] 1 ?_)))))))⟩))))
     refine ra1 10 (og 14 ⟨rfl,(RA.done (by decide +kernel) ?_)⟩)
     exact T.weakR (hK2 x34 h) (wk [] [0,1,2,3,4,5,6,9,10,13] 14 rfl)
    refine T.skip ?_
    exact T.weakR (hK2 p7 h) (wk [] [0,1,2,3,4,5,6,9,10,11] 12 rfl)
   refine T.seq (T.region (go 3 12 (RS.nil (T.ci h rfl (fun hb_45 h=>?_) (fun hb_45 h=>?_)))))
   ·refine T.seq ?_
    obtain ⟨x21,hx21,h⟩:=bind_some h
    refine T.drawn mixed (k:=15) rfl (rq [0,1,2,3,5,7] 9 (rL [4,11,12,13,14] 4 rfl (rL [6,9,10,11,12,13,14] 6 rfl (ra1 8 (og 12 ⟨rfl,(rq [9] 5 (ra1 10 (oO rfl (Qra (rows:=List.map Qea [(⟨p2.Node,p2.Lane⟩:Choice)]) (vs:=[.agg (Zia p2)]) Ty.s51 Ty.z94 rfl rfl rfl rfl rfl rfl (ra1 11 ?_)))))⟩)))))
    refine oO rfl (Zma (en:=Qea) (xs:=p6) (ys:=([(⟨p2.Node,p2.Lane⟩:Choice)]:List Choice)) Ty.s51 (fun _=>rfl) rfl rfl rfl hx21 rfl rfl (rq [12,13] 1 (ra1 14 (og 14 ⟨rfl,(RA.done (by decide +kernel) (T.region (go 4 14 (sQ (Yda (en:=Qea) Ty.s51 rfl rfl (go 2 14 (RS.nil ?_)))))))⟩))))
    exact T.weakR (hK3 (((x21).length:Int),x21) h) (wk [] [0,1,2,3,4,5,6,7,8,9,13,11] 14 rfl)
   refine T.skip ?_
   exact T.su (hK3 (x4.1.Dep,p6) h)
  refine T.seq (T.region (go 3 12 (RS.nil (T.ci h rfl (fun hb_46 h=>?_) (fun hb_46 h=>?_)))))
  ·obtain ⟨x5,hx5,h⟩:=bind_some h
   obtain ⟨x6,hx6,h⟩:=bind_some h
   obtain ⟨x7,hx7,h⟩:=bind_some h
   obtain ⟨x8,hx8,h⟩:=bind_some h
   refine T.drawn mixed (k:=11) rfl (rq [0,1,2,4] 7 (rL [3,6,7,8,9,10] 3 rfl (ra1 5 (og 12 ⟨rfl,(r0 6 rfl (Qqa (en:=encI) Ty.s49 rfl rfl rfl hx5 (ra1 7 (oO rfl (Qya (en:=encI) (a:=x6) rfl rfl hx6 (Jva Ty.k3 (c:=iI x6) rfl (rq [8] 2 (r0 9 rfl (Qqa (en:=encI) Ty.s49 rfl rfl rfl hx7 ?_)))))))))⟩))))
   refine ra1 10 (oO rfl (Zta (en:=encI) (a:=x8) (a':=IntKind.i64.wrap (x6+1)) Ty.c3 Ty.i3 rfl (vs:=[iI (IntKind.i64.wrap (x6+1))]) rfl rfl rfl hx8 rfl rfl rfl (RA.done (by decide +kernel) ?_)))
   exact T.weakR (hK4 ((List.set p3 x7 (IntKind.i64.wrap (x6+1))),p4) h) (wk [] [0,1,2,3,4,5,8,9,10,11,7,6] 12 rfl)
  obtain ⟨x9,hx9,h⟩:=bind_some h
  obtain ⟨x10,hx10,h⟩:=bind_some h
  obtain ⟨x11,hx11,h⟩:=bind_some h
  obtain ⟨x12,hx12,h⟩:=bind_some h
  obtain ⟨x13,hx13,h⟩:=bind_some h
  obtain ⟨x14,hx14,h⟩:=bind_some h
  obtain ⟨x15,hx15,h⟩:=bind_some h
  refine T.drawn mixed (k:=29) rfl ?_
  apply RA.jn 1 #[true,true,true,true,true,true,true,true,true,true,true,true,true,true,true,true,true,true,true,true,true,true,true,true,true,true,true,true,false];intro hS47
  apply RA.jn 3 #[true,true,true,true,true,true,true,true,true,false,true,true,true,true,true,true,true,true,true,true,true,true,true,true,true,true,true,false,false];intro hS48
  apply RA.jn 5 #[true,true,true,true,true,true,true,false,false,false,true,true,true,true,true,true,true,true,true,true,true,true,true,true,true,true,true,false,false];intro hS49
  apply RA.jn 5 #[true,true,true,true,true,false,true,true,false,false,true,true,true,true,true,true,true,true,true,true,true,true,true,true,true,true,true,false,false];intro hS50
  apply RA.jn 7 #[true,true,true,true,true,true,true,true,true,true,true,true,true,true,true,true,true,true,true,true,true,true,false,false,false,false,false,false,false];intro hS51
  apply RA.jn 8 #[true,true,true,true,true,true,true,true,true,false,true,true,true,true,true,true,true,true,true,true,true,true,false,false,false,false,false,false,false];intro hS52
  apply RA.jn 8 #[true,true,true,false,true,true,true,true,true,true,true,true,true,true,true,true,true,true,true,true,true,true,false,false,false,false,false,false,false];intro hS53
  apply RA.jn 8 #[true,true,true,true,true,true,true,true,true,true,true,true,true,true,true,true,true,true,true,true,true,false,false,false,false,false,false,false,false];intro hS54
  apply RA.jn 9 #[true,true,true,false,true,true,true,true,true,false,true,true,true,true,true,true,true,true,true,true,true,true,false,false,false,false,false,false,false];intro hS55
  apply RA.jn 9 #[true,true,true,true,true,true,true,true,true,false,true,true,true,true,true,true,true,true,true,true,true,false,false,false,false,false,false,false,false];intro hS56
  apply RA.jn 10 #[true,true,true,true,true,false,true,true,false,false,true,true,true,true,true,true,true,true,true,true,true,true,false,false,false,false,false,false,false];intro hS57
  apply RA.jn 10 #[true,true,true,true,true,true,true,false,false,false,true,true,true,true,true,true,true,true,true,true,true,true,false,false,false,false,false,false,false];intro hS58
  apply RA.jn 10 #[true,true,true,false,true,true,true,true,true,false,true,true,true,true,true,true,true,true,true,true,true,false,false,false,false,false,false,false,false];intro hS59
  apply RA.jn 11 #[true,true,true,true,true,false,true,false,false,false,true,true,true,true,true,true,true,true,true,true,true,true,false,false,false,false,false,false,false];intro hS60
  apply RA.jn 11 #[true,true,true,false,true,true,true,false,false,false,true,true,true,true,true,true,true,true,true,true,true,true,false,false,false,false,false,false,false];intro hS61
  apply RA.jn 11 #[true,true,true,false,true,false,true,true,false,false,true,true,true,true,true,true,true,true,true,true,true,true,false,false,false,false,false,false,false];intro hS62
  apply RA.jn 11 #[true,true,true,true,true,false,true,true,false,false,true,true,true,true,true,true,true,true,true,true,true,false,false,false,false,false,false,false,false];intro hS63
  apply RA.jn 11 #[true,true,true,true,true,true,true,false,false,false,true,true,true,true,true,true,true,true,true,true,true,false,false,false,false,false,false,false,false];intro hS64
  ·refine rq [0,1,2,4,6,10,11,12,14,16] 19 (rL [13,20,21,22,23,24,25,26,27,28] 13 rfl (rL [15,18,19,20,21,22,23,24,25,26,27,28] 15 rfl (rL [17,18,19,20,21,22,23,24,25,26,27,28] 17 rfl (r0 18 rfl (Qga Ty.s49 (fun _=>rfl) rfl rfl hx10 (rL [19,20,21,22,23,24,25,26,27,28] 19 rfl (r0 20 rfl (Qqa (en:=(encL Qaa)) Ty.s48 rfl rfl rfl hx11 (ra4 3 5 7 21 ?_ ?_ ?_ ?_)))))))))
   ·refine og 12 ⟨rfl,(ra3 5 7 21 ?_ ?_ ?_)⟩
    ·refine og 12 ⟨rfl,?_⟩
     exact raE hS64
    ·refine og 12 ⟨rfl,?_⟩
     exact raE hS63
    ·refine oO rfl (Qya (en:=(encL Qaa)) (a:=x12) rfl rfl hx12 (Jva Ty.k52 (c:=sL Qaa x12) rfl ?_))
     exact raE hS60
   ·refine og 12 ⟨rfl,(ra3 3 7 21 ?_ ?_ ?_)⟩
    ·refine og 12 ⟨rfl,?_⟩
     exact raT hS64
    ·refine og 12 ⟨rfl,(r0 8 rfl (Qga Ty.s49 (fun _=>rfl) rfl rfl hx9 ?_))⟩
     exact raE hS59
    ·refine oO rfl (Qya (en:=(encL Qaa)) (a:=x12) rfl rfl hx12 (Jva Ty.k52 (c:=sL Qaa x12) rfl ?_))
     exact raE hS61
   ·refine og 12 ⟨rfl,(ra3 3 5 21 ?_ ?_ ?_)⟩
    ·refine og 12 ⟨rfl,?_⟩
     exact raT hS63
    ·refine og 12 ⟨rfl,(r0 8 rfl (Qga Ty.s49 (fun _=>rfl) rfl rfl hx9 ?_))⟩
     exact raT hS59
    ·refine oO rfl (Qya (en:=(encL Qaa)) (a:=x12) rfl rfl hx12 (Jva Ty.k52 (c:=sL Qaa x12) rfl ?_))
     exact raE hS62
   ·refine oO rfl (Qya (en:=(encL Qaa)) (a:=x12) rfl rfl hx12 (Jva Ty.k52 (c:=sL Qaa x12) rfl (ra4 3 5 7 22 ?_ ?_ ?_ ?_)))
    ·refine og 12 ⟨rfl,?_⟩
     exact raT hS60
    ·refine og 12 ⟨rfl,?_⟩
     exact raT hS61
    ·refine og 12 ⟨rfl,?_⟩
     exact raT hS62
    ·refine oO rfl (cO 12 (Ypa x12 x13 hx13) ⟨rfl,(rq [23,24,25,26] 7 (rL [3,27,28] 3 rfl (rL [5,8,9,27,28] 5 rfl ?_)))⟩)
     exact raE hS49
  ·refine ra2 7 21 ?_ ?_
   ·refine og 12 ⟨rfl,(r0 8 rfl (Qga Ty.s49 (fun _=>rfl) rfl rfl hx9 ?_))⟩
    exact raE hS56
   ·refine oO rfl (Qya (en:=(encL Qaa)) (a:=x12) rfl rfl hx12 (Jva Ty.k52 (c:=sL Qaa x12) rfl ?_))
    exact raE hS58
  ·refine ra2 5 21 ?_ ?_
   ·refine og 12 ⟨rfl,(r0 8 rfl (Qga Ty.s49 (fun _=>rfl) rfl rfl hx9 ?_))⟩
    exact raT hS56
   ·refine oO rfl (Qya (en:=(encL Qaa)) (a:=x12) rfl rfl hx12 (Jva Ty.k52 (c:=sL Qaa x12) rfl ?_))
    exact raE hS57
  ·refine ra3 3 5 22 ?_ ?_ ?_
   ·refine og 12 ⟨rfl,?_⟩
    exact raT hS57
   ·refine og 12 ⟨rfl,(r0 8 rfl (Qga Ty.s49 (fun _=>rfl) rfl rfl hx9 ?_))⟩
    exact raE hS55
   ·refine oO rfl (cO 12 (Ypa x12 x13 hx13) ⟨rfl,(rq [23,24,25,26] 6 (rL [3,27,28] 3 rfl ?_))⟩)
    exact raE hS50
  ·refine ra3 3 7 22 ?_ ?_ ?_
   ·refine og 12 ⟨rfl,?_⟩
    exact raT hS58
   ·refine og 12 ⟨rfl,(r0 8 rfl (Qga Ty.s49 (fun _=>rfl) rfl rfl hx9 ?_))⟩
    exact raT hS55
   ·refine oO rfl (cO 12 (Ypa x12 x13 hx13) ⟨rfl,(rq [23,24,25,26] 6 (rL [3,27,28] 3 rfl ?_))⟩)
    exact raT hS49
  ·refine ra3 5 7 22 ?_ ?_ ?_
   ·refine og 12 ⟨rfl,?_⟩
    exact raT hS58
   ·refine og 12 ⟨rfl,?_⟩
    exact raT hS57
   ·refine oO rfl (cO 12 (Ypa x12 x13 hx13) ⟨rfl,(rq [23,24,25,26] 6 (rL [5,8,9,27,28] 5 rfl ?_))⟩)
    exact raT hS49
  ·refine ra3 3 9 21 ?_ ?_ ?_
   ·refine og 12 ⟨rfl,?_⟩
    exact raT hS56
   ·refine og 12 ⟨rfl,(ra2 3 21 ?_ ?_)⟩
    ·refine og 12 ⟨rfl,?_⟩
     exact raE hS54
    ·refine oO rfl (Qya (en:=(encL Qaa)) (a:=x12) rfl rfl hx12 (Jva Ty.k52 (c:=sL Qaa x12) rfl ?_))
     exact raE hS53
   ·refine oO rfl (Qya (en:=(encL Qaa)) (a:=x12) rfl rfl hx12 (Jva Ty.k52 (c:=sL Qaa x12) rfl ?_))
    exact raT hS55
  ·refine ra2 7 22 ?_ ?_
   ·refine og 12 ⟨rfl,(r0 8 rfl (Qga Ty.s49 (fun _=>rfl) rfl rfl hx9 ?_))⟩
    exact raE hS52
   ·refine oO rfl (cO 12 (Ypa x12 x13 hx13) ⟨rfl,(rq [23,24,25,26] 5 ?_)⟩)
    exact raT hS49
  ·refine ra2 5 22 ?_ ?_
   ·refine og 12 ⟨rfl,(r0 8 rfl (Qga Ty.s49 (fun _=>rfl) rfl rfl hx9 ?_))⟩
    exact raT hS52
   ·refine oO rfl (cO 12 (Ypa x12 x13 hx13) ⟨rfl,(rq [23,24,25,26] 5 ?_)⟩)
    exact raT hS50
  ·refine ra2 9 21 ?_ ?_
   ·refine og 12 ⟨rfl,?_⟩
    exact raT hS54
   ·refine oO rfl (Qya (en:=(encL Qaa)) (a:=x12) rfl rfl hx12 (Jva Ty.k52 (c:=sL Qaa x12) rfl ?_))
    exact raT hS52
  ·refine ra3 3 9 22 ?_ ?_ ?_
   ·refine og 12 ⟨rfl,?_⟩
    exact raT hS52
   ·refine og 12 ⟨rfl,?_⟩
    exact raT hS53
   ·refine oO rfl (cO 12 (Ypa x12 x13 hx13) ⟨rfl,(rq [23,24,25,26] 4 (rL [3,27,28] 3 rfl ?_))⟩)
    exact raE hS48
  ·refine ra1 21 (oO rfl (Qya (en:=(encL Qaa)) (a:=x12) rfl rfl hx12 (Jva Ty.k52 (c:=sL Qaa x12) rfl ?_)))
   exact raE hS51
  ·refine ra2 3 22 ?_ ?_
   ·refine og 12 ⟨rfl,?_⟩
    exact raT hS51
   ·refine oO rfl (cO 12 (Ypa x12 x13 hx13) ⟨rfl,(rq [23,24,25,26] 3 (ra1 3 (og 13 ⟨rfl,(r0 27 rfl (Qqa (en:=(encL Qaa)) Ty.s48 rfl rfl rfl hx14 ?_))⟩)))⟩)
    exact raE hS47
  ·refine ra2 9 22 ?_ ?_
   ·refine og 12 ⟨rfl,?_⟩
    exact raT hS51
   ·refine oO rfl (cO 12 (Ypa x12 x13 hx13) ⟨rfl,(rq [23,24,25,26] 3 ?_)⟩)
    exact raT hS48
  ·refine ra1 22 (oO rfl (cO 12 (Ypa x12 x13 hx13) ⟨rfl,(rq [23,24,25,26] 2 (r0 27 rfl (Qqa (en:=(encL Qaa)) Ty.s48 rfl rfl rfl hx14 ?_)))⟩))
   exact raT hS47
  ·refine ra1 5 (og 13 ⟨rfl,(r0 8 rfl (Qga Ty.s49 (fun _=>rfl) rfl rfl hx9 ?_))⟩)
   exact raT hS48
  ·refine ra1 7 (og 13 ⟨rfl,(r0 8 rfl (Qga Ty.s49 (fun _=>rfl) rfl rfl hx9 ?_))⟩)
   exact raT hS48
  ·refine ra1 9 (og 13 ⟨rfl,(r0 27 rfl (Qqa (en:=(encL Qaa)) Ty.s48 rfl rfl rfl hx14 ?_))⟩)
   exact raT hS47
  refine ra1 28 (RO.fC 12 (oO rfl (Zta (en:=(encL Qaa)) (a:=x15) (a':=x13.2.1) Ty.c52 Ty.i52 rfl (vs:=[sL Qaa x13.2.1]) rfl rfl rfl hx15 rfl rfl rfl (RA.done (by decide +kernel) ?_))))
  exact T.weakR (hK4 (p3,(List.set p4 x14 x13.2.1)) h) (wk [] [0,1,2,3,4,5,8,9,10,11,7,6] 13 rfl)
theorem move_Play_c (p0:Net) (p1:List (List Item)) (p2:List Int) (r:State × Int) (h:move_Play p0 p1 p2=some r):Fn Tryz.prog 26 [.agg (Jda p0),sL (encL Qaa) p1,sL encI p2] (.tup [.agg (Qta r.1),iI r.2]):=by
  unfold move_Play at h
  refine fnT 0 Tryz.func26 Tryz.ntmps26 ?_
  refine T.seq (T.region (go 3 0 (RS.nil (T.seq ?_))))
  obtain ⟨x2,hx2,h⟩:=bind_some h
  refine T.region (go 2 2 (sO (Q5a (ac:=[.agg (Jda p0),sL (encL Qaa) p1]) (as0:=[.agg (Jda p0),sL (encL Qaa) p1]) (aw0:=[]) (aw1:=[aR 3 1 encI x2.1.At,aR 52 1 (encL Qaa) x2.1.Rings,aR 90 3 Qba x2.1.Memory,aR 94 2 Qea x2.1.Choices,aR 115 3 Qaa x2.1.Out]) (aw2:=[.box (Jda p0),.box [.nils,.nils,.nils,.nils,.nils],aR 3 1 encI x2.1.At,aR 52 1 (encL Qaa) x2.1.Rings,aR 90 3 Qba x2.1.Memory,aR 94 2 Qea x2.1.Choices,aR 115 3 Qaa x2.1.Out]) (v:=.tup [.agg [.ref 0,.ref 1,.ref 2,.ref 3,.ref 4],iI x2.2]) (v':=.tup [.agg [.ref 2,.ref 3,.ref 4,.ref 5,.ref 6],iI x2.2]) (n0:=2) (n1:=5) [] rfl rfl rfl rfl (by decide) (Qoa) ⟨rn_agg ⟨rn_s rfl,Q2a rfl,Q2a rfl,trivial⟩,rn_s rfl,trivial⟩ (FnX.of_fnO (move_Start_c p0 p1 x2 hx2)) rfl (Qjb (cs:=[.agg [.ref 2,.ref 3,.ref 4,.ref 5,.ref 6],iI x2.2]) (ds:=[.agg [.ref 0,.ref 1,.ref 2,.ref 3,.ref 4],iI x2.2]) ⟨rm_agg (cs:=[.ref 2,.ref 3,.ref 4,.ref 5,.ref 6]) (ds:=[.ref 0,.ref 1,.ref 2,.ref 3,.ref 4]) ⟨J1a (by decide),J1a (by decide),J1a (by decide),J1a (by decide),J1a (by decide),trivial⟩,Qia (Qua _ _),trivial⟩) ⟨.inr ⟨rfl,rfl⟩,.inr ⟨rfl,rfl⟩,.inl ⟨0,_,by decide,rfl,Jia encI_p⟩,.inl ⟨1,_,by decide,rfl,Jia (encL_p Jca)⟩,.inl ⟨2,_,by decide,rfl,Jia J9a⟩,.inl ⟨3,_,by decide,rfl,Jia J8a⟩,.inl ⟨4,_,by decide,rfl,Jia Jca⟩,trivial⟩ (go 6 7 (RS.nil (T.seq (T.seq (T.region (go 2 8 (RS.nil ?_))))))))))
  refine T.ci h rfl (fun hb_1 h=>?_) (fun hb_1 h=>?_)
  ·refine T.seq (T.region (go 4 8 (RS.nil ?_)))
   cases h
   exact tD
  refine T.skip (T.seq (T.seq (T.region (go 1 8 (sQ (Qfa Ty.s49 rfl (go 1 8 (RS.nil (T.ci h rfl (fun hb_2 h=>?_) (fun hb_2 h=>?_))))))))))
  ·refine T.seq (T.region (go 3 8 (RS.nil ?_)))
   cases h
   exact tD
  refine T.skip (T.seq (T.seq (T.region (go 1 8 (sQ (Qfa Ty.s49 rfl (go 1 8 (RS.nil (T.block (T.iter (fun ss_7:Int × (List Int) × (List (List Item)) × (List Memory) × (List Choice) × (List Item)=>mkA 58 [(1,sL (encL Qaa) p1),(3,.ptr 0 0),(6,.ptr 1 0),(8,.ptr 2 0),(27,sL encI p2),(28,iI ((p2).length:Int)),(29,iI ss_7.1)]) (fun ss_7=>[.box (Jda p0),.box [.nils,.nils,.nils,.nils,.nils],.box [.ref 3,.ref 4,.ref 5,.ref 6,.ref 7],aR 3 1 encI ss_7.2.1,aR 52 1 (encL Qaa) ss_7.2.2.1,aR 90 3 Qba ss_7.2.2.2.1,aR 94 2 Qea ss_7.2.2.2.2.1,aR 115 3 Qaa ss_7.2.2.2.2.2]) h (wk [] [0,1,7,2,3,4,5,6] 8 rfl) (fun ss_7 v_8 h hv_8=>?_)))))))))))
  obtain ⟨s3,s4,s5,s6,s7,s8⟩:=ss_7
  replace h:V4a p0 p1 p2 s3 s4 s5 s6 s7 s8=some v_8:=h
  try dsimp only
  unfold V4a at h
  refine T.seq (T.region (go 1 8 (RS.nil (T.seq (T.ci h rfl (fun hb_9 h=>?_) (fun hb_9 h=>?_))))))
  ·refine T.skip (T.seq (T.block (T.seq ?_)))
   obtain ⟨x10,hx10,h⟩:=bind_some h
   refine T.region (sQ (Qga Ty.s49 (fun _=>rfl) rfl rfl hx10 (go 2 8 (RS.nil (T.seq ?_)))))
   obtain ⟨x12,hx12,h⟩:=bind_some h
   refine T.region (go 3 8 (sO (cO 8 (move_ready_c p0 p1 (⟨s4,s5,s6,s7,s8⟩:State) x12 hx12) ⟨rfl,(go 1 9 (RS.nil (T.seq (T.seq (T.region (go 1 9 (sQ (Yda (en:=Zia) Ty.s131 rfl rfl ?_))))))))⟩)))
   refine go 1 9 (RS.nil (T.ci h rfl (fun hb_10 h=>?_) (fun hb_10 h=>?_)))
   ·refine T.exit ?_
    obtain ⟨w_11,h,hw_11⟩:=Qpa h
    replace h:=h.trans (congrArg some (hv_8 _ hw_11))
    refine T.seq (T.region (go 3 9 (RS.nil ?_)))
    cases h
    exact tD
   refine T.skip ?_
   obtain ⟨x13,hx13,h⟩:=bind_some h
   obtain ⟨x14,hx14,h⟩:=bind_some h
   obtain ⟨x15,hx15,h⟩:=bind_some h
   obtain ⟨x16,hx16,h⟩:=bind_some h
   obtain ⟨x17,hx17,h⟩:=bind_some h
   refine T.drawn mixed (k:=16) rfl (rq [1,2,3,4] 12 (r0 5 rfl (Yda (en:=Zia) Ty.s131 rfl rfl (r0 6 rfl (v_rem rfl rfl hx13 (rq [7] 9 (r0 8 rfl (Yda (en:=Zia) Ty.s131 rfl rfl (rq [9,10] 6 (r0 11 rfl (Yda (en:=Zia) Ty.s131 rfl rfl (r0 12 rfl (v_rem rfl rfl hx14 (r0 13 rfl (Qqa (en:=Zia) Ty.s131 rfl rfl rfl hx15 ?_)))))))))))))))
   refine rL [0,15] 0 rfl (ra1 14 (oO rfl (Qya (en:=Zia) (a:=x16) rfl rfl hx16 (loadRowA Ty.k135 Ty.c135 rfl (cs:=(Zia x16)) rfl (ra1 15 (oO rfl (Q5a (ac:=[.agg (Jda p0),sL (encL Qaa) p1,.ptr 2 0,.agg (Zia x16)]) (as0:=[.agg (Jda p0),sL (encL Qaa) p1,.ptr 0 0,.agg (Zia x16)]) (aw0:=[.box [.ref 1,.ref 2,.ref 3,.ref 4,.ref 5],aR 3 1 encI s4,aR 52 1 (encL Qaa) s5,aR 90 3 Qba s6,aR 94 2 Qea s7,aR 115 3 Qaa s8]) (aw1:=[.box [.ref 1,.ref 2,.ref 3,.ref 6,.ref 7],aR 3 1 encI x17.1,aR 52 1 (encL Qaa) x17.2.1,aR 90 3 Qba x17.2.2.1,.dead,.dead,aR 94 2 Qea x17.2.2.2.1,aR 115 3 Qaa x17.2.2.2.2]) (aw2:=[.box (Jda p0),.box [.nils,.nils,.nils,.nils,.nils],.box [.ref 3,.ref 4,.ref 5,.ref 9,.ref 10],aR 3 1 encI x17.1,aR 52 1 (encL Qaa) x17.2.1,aR 90 3 Qba x17.2.2.1,.dead,.dead,aR 135 2 Zia x12,aR 94 2 Qea x17.2.2.2.1,aR 115 3 Qaa x17.2.2.2.2]) (v:=.tup []) (v':=.tup []) (n0:=9) (n1:=8) [2,3,4,5,6,7] rfl rfl rfl rfl (by decide) (Jfa (cs:=[.ref 1,.ref 2,.ref 3,.ref 4,.ref 5]) (ds:=[.ref 3,.ref 4,.ref 5,.ref 6,.ref 7]) rfl ⟨Q8a rfl,Q8a rfl,Q8a rfl,Q8a rfl,Q8a rfl,trivial⟩ (Jza rfl encI_p rfl (Jza rfl (encL_p Jca) rfl (Jza rfl J9a rfl (Jza rfl J8a rfl (Jza rfl Jca rfl (Qoa))))))) ⟨rn_agg ⟨rn_s rfl,Q2a rfl,Q2a rfl,trivial⟩,rn_s rfl,Qma rfl,rn_agg ⟨Q2a rfl,Q2a rfl,trivial⟩,trivial⟩ (move_do_x5aa6_c p0 p1 x16 s4 s5 s6 s7 s8 x17 hx17) rfl (Qjb (cs:=[]) (ds:=[]) trivial) ⟨.inr ⟨rfl,rfl⟩,.inr ⟨rfl,rfl⟩,.inl ⟨0,_,by decide,rfl,Jba (cs:=[.ref 3,.ref 4,.ref 5,.ref 9,.ref 10]) (ds:=[.ref 1,.ref 2,.ref 3,.ref 6,.ref 7]) ⟨J1a (by decide),J1a (by decide),J1a (by decide),J1a (by decide),J1a (by decide),trivial⟩⟩,.inl ⟨1,_,by decide,rfl,Jia encI_p⟩,.inl ⟨2,_,by decide,rfl,Jia (encL_p Jca)⟩,.inl ⟨3,_,by decide,rfl,Jia J9a⟩,.inl ⟨4,_,by decide,rfl,trivial⟩,.inl ⟨5,_,by decide,rfl,trivial⟩,.inr ⟨rfl,rfl⟩,.inl ⟨6,_,by decide,rfl,Jia J8a⟩,.inl ⟨7,_,by decide,rfl,Jia Jca⟩,trivial⟩ (RA.done (by decide +kernel) (T.region (go 2 11 (RS.nil ?_)))))))))))
   exact ⟨(IntKind.i64.wrap (s3+1),x17.1,x17.2.1,x17.2.2.1,x17.2.2.2.1,x17.2.2.2.2),(Option.some.inj h).symm,wk [] [0,1,2,3,4,5,9,10] 11 rfl⟩
  refine T.exit ?_
  obtain ⟨w_12,h,hw_12⟩:=Qpa h
  replace h:=h.trans (congrArg some (hv_8 _ hw_12))
  refine T.seq (T.region (go 3 8 (RS.nil ?_)))
  cases h
  exact tD
theorem move_Check_1_1_xa01a_c (p0:Item) (p1:List Int) (p2:List (List Item)) (p3:List Memory) (p4:List Choice) (p5:List Item) (r:Bool) (h:Yqa p0 p1 p2 p3 p4 p5=some r):FnX Tryz.prog 71 [.agg (Qaa p0),.ptr 0 0] [.box [sL encI p1,sL (encL Qaa) p2,sL Qba p3,sL Qea p4,sL Qaa p5]] (.bool r) [.box [sL encI p1,sL (encL Qaa) p2,sL Qba p3,sL Qea p4,sL Qaa p5]]:=by
  unfold Yqa at h
  refine fnT 1 Tryz.func71 Tryz.ntmps71 ?_
  refine T.seq (T.region (go 2 1 (RS.nil (T.join (Z:=Unit) (fun _=>mkA 15 [(3,.bool ((decide (p0.Dep<0)) || decide (p0.Dep > ((p4).length:Int))))]) (fun _=>[.box [sL encI p1,sL (encL Qaa) p2,sL Qba p3,sL Qea p4,sL Qaa p5]]) (fun _=>True) (fun _ _=>?_) (fun hK=>?_)))))
  ·cases h
   exact tN [0]
  refine T.region (go 4 2 ?_)
  rcases Qca (decide (p0.Dep<0)) with hb_1 | hb_1
  ·refine sN hb_1 (sN hb_1 (sN hb_1 (sN hb_1 (sN hb_1 (sN hb_1 (sQ (Qha (v:=.bool true) rfl hb_1 rfl (go 1 2 (RS.nil ?_)))))))))
   exact T.weakR (hK () trivial) (Weak.mkN [] [0] (by decide) (by decide) rfl ⟨Joa (by simp only [hb_1,bz,if_true,if_false,Bool.false_eq_true]),trivial⟩ (rw_bs [sL encI p1,sL (encL Qaa) p2,sL Qba p3,sL Qea p4,sL Qaa p5] rfl (Qoa)))
  refine yg 2 hb_1 (yg 2 hb_1 (yg 2 hb_1 (yg 2 hb_1 (yQ hb_1 (Qfa Ty.s51 rfl (yg 2 hb_1 (sQ (Qda (v:=.bool (decide (p0.Dep > ((p4).length:Int)))) rfl hb_1 rfl (go 1 2 (RS.nil ?_))))))))))
  exact T.weakR (hK () trivial) (Weak.mkN [] [0] (by decide) (by decide) rfl ⟨Joa (by simp only [hb_1,bz,if_true,if_false,Bool.false_eq_true]),trivial⟩ (rw_bs [sL encI p1,sL (encL Qaa) p2,sL Qba p3,sL Qea p4,sL Qaa p5] rfl (Qoa)))
theorem slices_IndexFunc_Item_xd8db_c (p0:List Item) (p1:List Int) (p2:List (List Item)) (p3:List Memory) (p4:List Choice) (p5:List Item) (r:Int) (h:Z6a p0 p1 p2 p3 p4 p5=some r):FnX Tryz.prog 92 [sL Qaa p0,.func 71 [.ptr 0 0]] [.box [sL encI p1,sL (encL Qaa) p2,sL Qba p3,sL Qea p4,sL Qaa p5]] (iI r) [.box [sL encI p1,sL (encL Qaa) p2,sL Qba p3,sL Qea p4,sL Qaa p5]]:=by
  unfold Z6a at h
  refine fnT 1 Tryz.func92 Tryz.ntmps92 ?_
  refine T.seq (T.region (go 1 1 (RS.nil (T.seq (T.seq (T.region (go 1 1 (sQ (Qfa Ty.s52 rfl (go 1 1 ?_))))))))))
  refine RS.nil (T.block (T.iter (fun ss_5:Int=>mkA 19 [(0,sL Qaa p0),(1,.func 71 [.ptr 0 0]),(7,iI ((p0).length:Int)),(8,iI ss_5)]) (fun ss_5=>[.box [sL encI p1,sL (encL Qaa) p2,sL Qba p3,sL Qea p4,sL Qaa p5]]) h (wk [] [0] 1 rfl) (fun ss_5 v_6 h hv_6=>?_)))
  revert hv_6 h;revert ss_5;intro s1 h hv_6
  replace h:J0a p0 p1 p2 p3 p4 p5 s1=some v_6:=h
  try dsimp only
  unfold J0a at h
  refine T.seq (T.region (go 1 1 (RS.nil (T.seq (T.ci h rfl (fun hb_7 h=>?_) (fun hb_7 h=>?_))))))
  ·refine T.skip (T.seq (T.block (T.seq (T.region (go 2 1 (RS.nil (T.seq ?_)))))))
   obtain ⟨x4,hx4,h⟩:=bind_some h
   obtain ⟨x5,hx5,h⟩:=bind_some h
   refine T.region (go 3 1 (sQ (Qga Ty.s52 (fun _=>rfl) rfl rfl hx4 (go 1 1 (sO (Q5a (ac:=[.agg (Qaa x4),.ptr 0 0]) (as0:=[.agg (Qaa x4),.ptr 0 0]) (aw0:=[.box [sL encI p1,sL (encL Qaa) p2,sL Qba p3,sL Qea p4,sL Qaa p5]]) (aw1:=[.box [sL encI p1,sL (encL Qaa) p2,sL Qba p3,sL Qea p4,sL Qaa p5]]) (aw2:=[.box [sL encI p1,sL (encL Qaa) p2,sL Qba p3,sL Qea p4,sL Qaa p5]]) (v:=.bool x5) (v':=.bool x5) (n0:=1) (n1:=1) [0] rfl rfl rfl rfl (by decide) (Jfa (cs:=[sL encI p1,sL (encL Qaa) p2,sL Qba p3,sL Qea p4,sL Qaa p5]) (ds:=[sL encI p1,sL (encL Qaa) p2,sL Qba p3,sL Qea p4,sL Qaa p5]) rfl ⟨rn_s rfl,rn_s rfl,rn_s rfl,rn_s rfl,rn_s rfl,trivial⟩ (Qoa)) ⟨rn_agg ⟨Q2a rfl,Q2a rfl,Q2a rfl,trivial⟩,Qma rfl,trivial⟩ (move_Check_1_1_xa01a_c x4 p1 p2 p3 p4 p5 x5 hx5) rfl (Qia (Vza _)) ⟨.inl ⟨0,_,by decide,rfl,Jba (cs:=[sL encI p1,sL (encL Qaa) p2,sL Qba p3,sL Qea p4,sL Qaa p5]) (ds:=[sL encI p1,sL (encL Qaa) p2,sL Qba p3,sL Qea p4,sL Qaa p5]) ⟨Qia (Qwa encI_p _),Qia (Qwa (encL_p Jca) _),Qia (Qwa J9a _),Qia (Qwa J8a _),Qia (Qwa Jca _),trivial⟩⟩,trivial⟩ (RS.nil (T.ci h rfl (fun hb_8 h=>?_) (fun hb_8 h=>?_)))))))))
   ·refine T.seq (T.region (go 2 1 (RS.nil ?_)))
    obtain ⟨w_9,h,hw_9⟩:=Qpa h
    replace h:=h.trans (congrArg some (hv_6 _ hw_9))
    cases h
    exact tN [0]
   refine T.skip (T.region (go 2 1 (RS.nil ?_)))
   exact ⟨IntKind.i64.wrap (s1+1),(Option.some.inj h).symm,wk [] [0] 1 rfl⟩
  refine T.exit ?_
  obtain ⟨w_10,h,hw_10⟩:=Qpa h
  replace h:=h.trans (congrArg some (hv_6 _ hw_10))
  refine T.seq (T.region (go 1 1 (RS.nil ?_)))
  cases h
  exact tN [0]
theorem slices_ContainsFunc_Item_xd8db_c (p0:List Item) (p1:List Int) (p2:List (List Item)) (p3:List Memory) (p4:List Choice) (p5:List Item) (r:Bool) (h:Zoa p0 p1 p2 p3 p4 p5=some r):FnX Tryz.prog 70 [sL Qaa p0,.func 71 [.ptr 0 0]] [.box [sL encI p1,sL (encL Qaa) p2,sL Qba p3,sL Qea p4,sL Qaa p5]] (.bool r) [.box [sL encI p1,sL (encL Qaa) p2,sL Qba p3,sL Qea p4,sL Qaa p5]]:=by
  unfold Zoa at h
  refine fnT 1 Tryz.func70 Tryz.ntmps70 ?_
  refine T.seq (T.region (go 1 1 (RS.nil (T.seq ?_))))
  obtain ⟨x2,hx2,h⟩:=bind_some h
  refine T.region (go 2 1 (sO (Q5a (ac:=[sL Qaa p0,.func 71 [.ptr 0 0]]) (as0:=[sL Qaa p0,.func 71 [.ptr 0 0]]) (aw0:=[.box [sL encI p1,sL (encL Qaa) p2,sL Qba p3,sL Qea p4,sL Qaa p5]]) (aw1:=[.box [sL encI p1,sL (encL Qaa) p2,sL Qba p3,sL Qea p4,sL Qaa p5]]) (aw2:=[.box [sL encI p1,sL (encL Qaa) p2,sL Qba p3,sL Qea p4,sL Qaa p5]]) (v:=iI x2) (v':=iI x2) (n0:=1) (n1:=1) [0] rfl rfl rfl rfl (by decide) (Jfa (cs:=[sL encI p1,sL (encL Qaa) p2,sL Qba p3,sL Qea p4,sL Qaa p5]) (ds:=[sL encI p1,sL (encL Qaa) p2,sL Qba p3,sL Qea p4,sL Qaa p5]) rfl ⟨rn_s rfl,rn_s rfl,rn_s rfl,rn_s rfl,rn_s rfl,trivial⟩ (Qoa)) ⟨rn_s rfl,rn_func ⟨Qma rfl,trivial⟩,trivial⟩ (slices_IndexFunc_Item_xd8db_c p0 p1 p2 p3 p4 p5 x2 hx2) rfl (Qia (Qua _ _)) ⟨.inl ⟨0,_,by decide,rfl,Jba (cs:=[sL encI p1,sL (encL Qaa) p2,sL Qba p3,sL Qea p4,sL Qaa p5]) (ds:=[sL encI p1,sL (encL Qaa) p2,sL Qba p3,sL Qea p4,sL Qaa p5]) ⟨Qia (Qwa encI_p _),Qia (Qwa (encL_p Jca) _),Qia (Qwa J9a _),Qia (Qwa J8a _),Qia (Qwa Jca _),trivial⟩⟩,trivial⟩ (go 2 1 (RS.nil ?_)))))
  cases h
  exact tN [0]
theorem move_Check_1_xa01a_c (p0:List Item) (p1:List Int) (p2:List (List Item)) (p3:List Memory) (p4:List Choice) (p5:List Item) (r:Bool) (h:Vta p0 p1 p2 p3 p4 p5=some r):FnX Tryz.prog 69 [sL Qaa p0,.ptr 0 0] [.box [sL encI p1,sL (encL Qaa) p2,sL Qba p3,sL Qea p4,sL Qaa p5]] (.bool r) [.box [sL encI p1,sL (encL Qaa) p2,sL Qba p3,sL Qea p4,sL Qaa p5]]:=by
  unfold Vta at h
  refine fnT 1 Tryz.func69 Tryz.ntmps69 ?_
  refine T.seq (T.region (go 1 1 (RS.nil (T.seq ?_))))
  obtain ⟨x2,hx2,h⟩:=bind_some h
  refine T.region (go 2 1 (sO (Q5a (ac:=[sL Qaa p0,.func 71 [.ptr 0 0]]) (as0:=[sL Qaa p0,.func 71 [.ptr 0 0]]) (aw0:=[.box [sL encI p1,sL (encL Qaa) p2,sL Qba p3,sL Qea p4,sL Qaa p5]]) (aw1:=[.box [sL encI p1,sL (encL Qaa) p2,sL Qba p3,sL Qea p4,sL Qaa p5]]) (aw2:=[.box [sL encI p1,sL (encL Qaa) p2,sL Qba p3,sL Qea p4,sL Qaa p5]]) (v:=.bool x2) (v':=.bool x2) (n0:=1) (n1:=1) [0] rfl rfl rfl rfl (by decide) (Jfa (cs:=[sL encI p1,sL (encL Qaa) p2,sL Qba p3,sL Qea p4,sL Qaa p5]) (ds:=[sL encI p1,sL (encL Qaa) p2,sL Qba p3,sL Qea p4,sL Qaa p5]) rfl ⟨rn_s rfl,rn_s rfl,rn_s rfl,rn_s rfl,rn_s rfl,trivial⟩ (Qoa)) ⟨rn_s rfl,rn_func ⟨Qma rfl,trivial⟩,trivial⟩ (slices_ContainsFunc_Item_xd8db_c p0 p1 p2 p3 p4 p5 x2 hx2) rfl (Qia (Vza _)) ⟨.inl ⟨0,_,by decide,rfl,Jba (cs:=[sL encI p1,sL (encL Qaa) p2,sL Qba p3,sL Qea p4,sL Qaa p5]) (ds:=[sL encI p1,sL (encL Qaa) p2,sL Qba p3,sL Qea p4,sL Qaa p5]) ⟨Qia (Qwa encI_p _),Qia (Qwa (encL_p Jca) _),Qia (Qwa J9a _),Qia (Qwa J8a _),Qia (Qwa Jca _),trivial⟩⟩,trivial⟩ (go 2 1 (RS.nil ?_)))))
  cases h
  exact tN [0]
theorem move_choice_c (p0:Net) (p1:Choice) (r:Bool) (h:move_choice p0 p1=some r):Fn Tryz.prog 73 [.agg (Jda p0),.agg (Qea p1)] (.bool r):=by
  unfold move_choice at h
  refine fnT 0 Tryz.func73 Tryz.ntmps73 ?_
  refine T.seq (T.region (go 3 0 (RS.nil ?_)))
  obtain ⟨zt_5,hz,h⟩:=bind_some h
  revert hz h;revert zt_5;intro c3 hz h
  refine T.join (Z:=Unit) (fun _=>mkA 44 [(4,.bool c3)]) (fun _=>[]) (fun _=>True) (fun _ _=>?_) (fun hK=>?_)
  ·cases h
   exact tD
  rcases Qca (decide (p1.Node ≥ 0)) with hb_1 | hb_1
  ·replace hz:=ite_T hz hb_1
   rcases Qca (decide (p1.Node<((p0.Nodes).length:Int))) with hb_2 | hb_2
   ·replace hz:=ite_T hz hb_2
    obtain ⟨x1,hx1,hz⟩:=bind_some hz
    rcases Qca (x1.Kind==6) with hb_3 | hb_3
    ·replace hz:=ite_T hz hb_3
     rcases Qca (decide (p1.Lane ≥ 0)) with hb_4 | hb_4
     ·replace hz:=ite_T hz hb_4
      obtain ⟨x2,hx2,hz⟩:=bind_some hz
      refine T.drawn mixed (k:=40) rfl ?_
      apply RA.jn 0 #[true,true,true,true,true,true,true,true,true,true,true,true,true,true,true,true,true,true,true,true,true,true,true,true,true,true,true,true,true,true,true,true,true,true,true,true,true,true,true,true];intro hS6
      apply RA.jn 5 #[true,true,true,true,true,true,true,true,true,true,true,true,true,true,true,true,true,true,true,true,true,true,true,true,true,true,true,true,true,true,true,true,true,true,true,false,false,false,false,false];intro hS7
      apply RA.jn 6 #[true,true,true,true,true,true,true,true,true,true,true,true,true,true,true,true,true,true,true,true,true,true,true,true,true,true,true,true,false,true,true,true,true,true,true,false,false,false,false,false];intro hS8
      apply RA.jn 8 #[true,true,true,true,true,true,true,true,true,true,true,true,true,true,true,true,true,true,true,true,true,true,true,true,true,true,true,true,true,true,false,true,true,false,false,false,false,false,false,false];intro hS9
      apply RA.jn 8 #[true,true,true,true,true,true,true,true,true,true,true,true,true,true,true,true,true,true,true,true,true,true,true,true,true,true,true,true,true,true,true,true,false,false,false,false,false,false,false,false];intro hS10
      apply RA.jn 22 #[true,true,true,true,true,true,true,true,true,true,true,true,true,true,true,true,true,true,false,false,false,false,false,false,false,false,false,false,false,false,false,false,false,false,false,false,false,false,false,false];intro hS11
      apply RA.jn 26 #[true,true,true,true,true,true,true,true,true,true,true,true,true,false,true,false,false,false,false,false,false,false,false,false,false,false,false,false,false,false,false,false,false,false,false,false,false,false,false,false];intro hS12
      ·refine rq [0] 39 (ra1 1 (og 2 ⟨rfl,(rq [2,3] 36 (ry 4 hb_1 rfl (ry 6 hb_1 rfl (ra2 5 7 ?_ ?_))))⟩))
       ·refine oy 2 hb_1 rfl (ra1 7 (oy 2 hb_1 rfl (r1 8 rfl hb_1 (Qfa Ty.s45 rfl (ry 9 hb_1 rfl (r0 10 rfl (Qha (v:=.bool (decide (p1.Node<((p0.Nodes).length:Int)))) rfl hb_1 rfl (rq [11] 28 (ry 12 hb_2 rfl (ry 14 hb_2 rfl ?_))))))))))
        exact raE hS12
       ·refine oy 2 hb_1 rfl (r1 8 rfl hb_1 (Qfa Ty.s45 rfl (ra1 5 (oy 2 hb_1 rfl (ry 9 hb_1 rfl (r0 10 rfl (Qha (v:=.bool (decide (p1.Node<((p0.Nodes).length:Int)))) rfl hb_1 rfl (rq [11] 28 (ry 12 hb_2 rfl (ry 14 hb_2 rfl ?_))))))))))
        exact raT hS12
      ·refine ra2 13 15 ?_ ?_
       ·refine oy 2 hb_2 rfl (ra1 15 (oy 2 hb_2 rfl (r1 16 rfl hb_2 (Qga Ty.s45 (fun _=>rfl) rfl rfl hx1 (ry 17 hb_2 rfl ?_)))))
        exact raE hS11
       ·refine oy 2 hb_2 rfl (ra1 13 (oy 2 hb_2 rfl (r1 16 rfl hb_2 (Qga Ty.s45 (fun _=>rfl) rfl rfl hx1 (ry 17 hb_2 rfl ?_)))))
        exact raT hS11
      ·refine ra1 18 (oy 2 hb_2 rfl (ry 19 hb_2 rfl (r0 20 rfl (Qha (v:=.bool (x1.Kind==6)) rfl hb_2 rfl (rq [21] 18 (ry 22 hb_3 rfl (ra1 23 (oy 2 hb_3 rfl (ry 24 hb_3 rfl (r0 25 rfl (Qha (v:=.bool (decide (p1.Lane ≥ 0))) rfl hb_3 rfl ?_)))))))))))
       refine rq [26] 13 (ry 27 hb_4 rfl (ry 29 hb_4 rfl (ry 31 hb_4 rfl (ra3 28 30 32 ?_ ?_ ?_))))
       ·refine oy 2 hb_4 rfl (ra2 30 32 ?_ ?_)
        ·refine oy 2 hb_4 rfl ?_
         exact raE hS10
        ·refine oy 2 hb_4 rfl ?_
         exact raE hS9
       ·refine oy 2 hb_4 rfl (ra2 28 32 ?_ ?_)
        ·refine oy 2 hb_4 rfl ?_
         exact raT hS10
        ·refine oy 2 hb_4 rfl (r1 33 rfl hb_4 (Qga Ty.s45 (fun _=>rfl) rfl rfl hx2 (ry 34 hb_4 rfl ?_)))
         exact raE hS8
       ·refine oy 2 hb_4 rfl (ra2 28 30 ?_ ?_)
        ·refine oy 2 hb_4 rfl ?_
         exact raT hS9
        ·refine oy 2 hb_4 rfl (r1 33 rfl hb_4 (Qga Ty.s45 (fun _=>rfl) rfl rfl hx2 (ry 34 hb_4 rfl ?_)))
         exact raT hS8
      ·refine ra1 32 (oy 2 hb_4 rfl (r1 33 rfl hb_4 (Qga Ty.s45 (fun _=>rfl) rfl rfl hx2 (ry 34 hb_4 rfl ?_))))
       exact raE hS7
      ·refine ra1 30 (oy 2 hb_4 rfl (r1 33 rfl hb_4 (Qga Ty.s45 (fun _=>rfl) rfl rfl hx2 (ry 34 hb_4 rfl ?_))))
       exact raT hS7
      ·refine ra2 28 35 ?_ ?_
       ·refine oy 2 hb_4 rfl ?_
        exact raT hS7
       ·refine oy 2 hb_4 rfl (r1 36 rfl hb_4 (Qfa Ty.s49 rfl (ra1 28 (oy 2 hb_4 rfl (ry 37 hb_4 rfl (r0 38 rfl (Qha (v:=.bool (decide (p1.Lane<((x2.In).length:Int)))) rfl hb_4 rfl (rq [39] 0 ?_))))))))
        exact raE hS6
      ·refine ra1 35 (oy 2 hb_4 rfl (r1 36 rfl hb_4 (Qfa Ty.s49 rfl (ry 37 hb_4 rfl (r0 38 rfl (Qha (v:=.bool (decide (p1.Lane<((x2.In).length:Int)))) rfl hb_4 rfl (rq [39] 0 ?_)))))))
       exact raT hS6
      refine RA.done (by decide +kernel) ?_
      exact T.weakR (hK () trivial) (Weak.mkN [] [] (by decide) (Qsa _) rfl ⟨Joa ((congrArg (fun p=>p) (Option.some.inj hz)).symm),trivial⟩ (Qoa))
     replace hz:=ite_F hz hb_4
     refine T.drawn mixed (k:=40) rfl ?_
     apply RA.jn 22 #[true,true,true,true,true,true,true,true,true,true,true,true,true,true,true,true,true,true,false,false,false,false,false,false,false,false,false,false,false,false,false,false,false,false,false,false,false,false,false,false];intro hS13
     apply RA.jn 26 #[true,true,true,true,true,true,true,true,true,true,true,true,true,false,true,false,false,false,false,false,false,false,false,false,false,false,false,false,false,false,false,false,false,false,false,false,false,false,false,false];intro hS14
     ·refine rq [0] 39 (ra1 1 (og 2 ⟨rfl,(rq [2,3] 36 (ry 4 hb_1 rfl (ry 6 hb_1 rfl (ra2 5 7 ?_ ?_))))⟩))
      ·refine oy 2 hb_1 rfl (ra1 7 (oy 2 hb_1 rfl (r1 8 rfl hb_1 (Qfa Ty.s45 rfl (ry 9 hb_1 rfl (r0 10 rfl (Qha (v:=.bool (decide (p1.Node<((p0.Nodes).length:Int)))) rfl hb_1 rfl (rq [11] 28 (ry 12 hb_2 rfl (ry 14 hb_2 rfl ?_))))))))))
       exact raE hS14
      ·refine oy 2 hb_1 rfl (r1 8 rfl hb_1 (Qfa Ty.s45 rfl (ra1 5 (oy 2 hb_1 rfl (ry 9 hb_1 rfl (r0 10 rfl (Qha (v:=.bool (decide (p1.Node<((p0.Nodes).length:Int)))) rfl hb_1 rfl (rq [11] 28 (ry 12 hb_2 rfl (ry 14 hb_2 rfl ?_))))))))))
       exact raT hS14
     ·refine ra2 13 15 ?_ ?_
      ·refine oy 2 hb_2 rfl (ra1 15 (oy 2 hb_2 rfl (r1 16 rfl hb_2 (Qga Ty.s45 (fun _=>rfl) rfl rfl hx1 (ry 17 hb_2 rfl ?_)))))
       exact raE hS13
      ·refine oy 2 hb_2 rfl (ra1 13 (oy 2 hb_2 rfl (r1 16 rfl hb_2 (Qga Ty.s45 (fun _=>rfl) rfl rfl hx1 (ry 17 hb_2 rfl ?_)))))
       exact raT hS13
     refine ra1 18 (oy 2 hb_2 rfl (ry 19 hb_2 rfl (r0 20 rfl (Qha (v:=.bool (x1.Kind==6)) rfl hb_2 rfl (rq [21] 18 (ry 22 hb_3 rfl (ra1 23 (oy 2 hb_3 rfl (ry 24 hb_3 rfl (r0 25 rfl (Qha (v:=.bool (decide (p1.Lane ≥ 0))) rfl hb_3 rfl ?_)))))))))))
     refine rq [26] 13 (r2 27 rfl hb_4 (r2 28 rfl hb_4 (r2 29 rfl hb_4 (r2 30 rfl hb_4 (r2 31 rfl hb_4 (r2 32 rfl hb_4 (r2 33 rfl hb_4 (r2 34 rfl hb_4 (r2 35 rfl hb_4 ?_)))))))))
     refine r2 36 rfl hb_4 (r2 37 rfl hb_4 (r0 38 rfl (Qda (v:=.bool false) rfl hb_4 rfl (rq [39] 0 (RA.done (by decide +kernel) ?_)))))
     exact T.weakR (hK () trivial) (Weak.mkN [] [] (by decide) (Qsa _) rfl ⟨Joa ((congrArg (fun p=>p) (Option.some.inj hz)).symm),trivial⟩ (Qoa))
    replace hz:=ite_F hz hb_3
    refine T.drawn mixed (k:=40) rfl ?_
    apply RA.jn 22 #[true,true,true,true,true,true,true,true,true,true,true,true,true,true,true,true,true,true,false,false,false,false,false,false,false,false,false,false,false,false,false,false,false,false,false,false,false,false,false,false];intro hS15
    apply RA.jn 26 #[true,true,true,true,true,true,true,true,true,true,true,true,true,false,true,false,false,false,false,false,false,false,false,false,false,false,false,false,false,false,false,false,false,false,false,false,false,false,false,false];intro hS16
    ·refine rq [0] 39 (ra1 1 (og 2 ⟨rfl,(rq [2,3] 36 (ry 4 hb_1 rfl (ry 6 hb_1 rfl (ra2 5 7 ?_ ?_))))⟩))
     ·refine oy 2 hb_1 rfl (ra1 7 (oy 2 hb_1 rfl (r1 8 rfl hb_1 (Qfa Ty.s45 rfl (ry 9 hb_1 rfl (r0 10 rfl (Qha (v:=.bool (decide (p1.Node<((p0.Nodes).length:Int)))) rfl hb_1 rfl (rq [11] 28 (ry 12 hb_2 rfl (ry 14 hb_2 rfl ?_))))))))))
      exact raE hS16
     ·refine oy 2 hb_1 rfl (r1 8 rfl hb_1 (Qfa Ty.s45 rfl (ra1 5 (oy 2 hb_1 rfl (ry 9 hb_1 rfl (r0 10 rfl (Qha (v:=.bool (decide (p1.Node<((p0.Nodes).length:Int)))) rfl hb_1 rfl (rq [11] 28 (ry 12 hb_2 rfl (ry 14 hb_2 rfl ?_))))))))))
      exact raT hS16
    ·refine ra2 13 15 ?_ ?_
     ·refine oy 2 hb_2 rfl (ra1 15 (oy 2 hb_2 rfl (r1 16 rfl hb_2 (Qga Ty.s45 (fun _=>rfl) rfl rfl hx1 (ry 17 hb_2 rfl ?_)))))
      exact raE hS15
     ·refine oy 2 hb_2 rfl (ra1 13 (oy 2 hb_2 rfl (r1 16 rfl hb_2 (Qga Ty.s45 (fun _=>rfl) rfl rfl hx1 (ry 17 hb_2 rfl ?_)))))
      exact raT hS15
    refine ra1 18 (oy 2 hb_2 rfl (ry 19 hb_2 rfl (r0 20 rfl (Qha (v:=.bool (x1.Kind==6)) rfl hb_2 rfl (rq [21] 18 (r2 22 rfl hb_3 (r2 23 rfl hb_3 (r2 24 rfl hb_3 (r0 25 rfl (Qda (v:=.bool false) rfl hb_3 rfl (rq [26] 13 ?_)))))))))))
    refine r2 27 rfl rfl (r2 28 rfl rfl (r2 29 rfl rfl (r2 30 rfl rfl (r2 31 rfl rfl (r2 32 rfl rfl (r2 33 rfl rfl (r2 34 rfl rfl (r2 35 rfl rfl (r2 36 rfl rfl ?_)))))))))
    refine r2 37 rfl rfl (r0 38 rfl (Qda (v:=.bool false) rfl rfl rfl (rq [39] 0 (RA.done (by decide +kernel) ?_))))
    exact T.weakR (hK () trivial) (Weak.mkN [] [] (by decide) (Qsa _) rfl ⟨Joa ((congrArg (fun p=>p) (Option.some.inj hz)).symm),trivial⟩ (Qoa))
   replace hz:=ite_F hz hb_2
   refine T.drawn mixed (k:=40) rfl ?_
   apply RA.jn 0 #[true,true,true,true,true,true,true,true,true,true,true,true,true,true,true,true,true,true,true,true,true,true,true,true,true,true,true,true,true,true,true,true,true,true,true,true,true,true,true,true];intro hS17
   ·refine rq [0] 39 (ra1 1 (og 2 ⟨rfl,(rq [2,3] 36 (ry 4 hb_1 rfl (ry 6 hb_1 rfl (ra2 5 7 ?_ ?_))))⟩))
    ·refine oy 2 hb_1 rfl (ra1 7 (oy 2 hb_1 rfl (r1 8 rfl hb_1 (Qfa Ty.s45 rfl (ry 9 hb_1 rfl (r0 10 rfl (Qha (v:=.bool (decide (p1.Node<((p0.Nodes).length:Int)))) rfl hb_1 rfl (rq [11] 28 (r2 12 rfl hb_2 (r2 13 rfl hb_2 (r2 14 rfl hb_2 ?_)))))))))))
     refine r2 15 rfl hb_2 (r2 16 rfl hb_2 (r2 17 rfl hb_2 (r2 18 rfl hb_2 (r2 19 rfl hb_2 (r0 20 rfl (Qda (v:=.bool false) rfl hb_2 rfl (rq [21] 18 (r2 22 rfl rfl (r2 23 rfl rfl (r2 24 rfl rfl ?_))))))))))
     refine r0 25 rfl (Qda (v:=.bool false) rfl rfl rfl (rq [26] 13 (r2 27 rfl rfl (r2 28 rfl rfl (r2 29 rfl rfl (r2 30 rfl rfl (r2 31 rfl rfl (r2 32 rfl rfl (r2 33 rfl rfl (r2 34 rfl rfl ?_))))))))))
     refine r2 35 rfl rfl (r2 36 rfl rfl (r2 37 rfl rfl (r0 38 rfl (Qda (v:=.bool false) rfl rfl rfl (rq [39] 0 ?_)))))
     exact raE hS17
    ·refine oy 2 hb_1 rfl (r1 8 rfl hb_1 (Qfa Ty.s45 rfl (ra1 5 (oy 2 hb_1 rfl (ry 9 hb_1 rfl (r0 10 rfl (Qha (v:=.bool (decide (p1.Node<((p0.Nodes).length:Int)))) rfl hb_1 rfl (rq [11] 28 (r2 12 rfl hb_2 (r2 13 rfl hb_2 (r2 14 rfl hb_2 ?_)))))))))))
     refine r2 15 rfl hb_2 (r2 16 rfl hb_2 (r2 17 rfl hb_2 (r2 18 rfl hb_2 (r2 19 rfl hb_2 (r0 20 rfl (Qda (v:=.bool false) rfl hb_2 rfl (rq [21] 18 (r2 22 rfl rfl (r2 23 rfl rfl (r2 24 rfl rfl ?_))))))))))
     refine r0 25 rfl (Qda (v:=.bool false) rfl rfl rfl (rq [26] 13 (r2 27 rfl rfl (r2 28 rfl rfl (r2 29 rfl rfl (r2 30 rfl rfl (r2 31 rfl rfl (r2 32 rfl rfl (r2 33 rfl rfl (r2 34 rfl rfl ?_))))))))))
     refine r2 35 rfl rfl (r2 36 rfl rfl (r2 37 rfl rfl (r0 38 rfl (Qda (v:=.bool false) rfl rfl rfl (rq [39] 0 ?_)))))
     exact raT hS17
   refine RA.done (by decide +kernel) ?_
   exact T.weakR (hK () trivial) (Weak.mkN [] [] (by decide) (Qsa _) rfl ⟨Joa ((congrArg (fun p=>p) (Option.some.inj hz)).symm),trivial⟩ (Qoa))
  replace hz:=ite_F hz hb_1
  refine T.drawn mixed (k:=40) rfl (rq [0] 39 (ra1 1 (og 2 ⟨rfl,(rq [2,3] 36 (r2 4 rfl hb_1 (r2 5 rfl hb_1 (r2 6 rfl hb_1 (r2 7 rfl hb_1 (r2 8 rfl hb_1 ?_))))))⟩)))
  refine r2 9 rfl hb_1 (r0 10 rfl (Qda (v:=.bool false) rfl hb_1 rfl (rq [11] 28 (r2 12 rfl rfl (r2 13 rfl rfl (r2 14 rfl rfl (r2 15 rfl rfl (r2 16 rfl rfl (r2 17 rfl rfl (r2 18 rfl rfl ?_))))))))))
  refine r2 19 rfl rfl (r0 20 rfl (Qda (v:=.bool false) rfl rfl rfl (rq [21] 18 (r2 22 rfl rfl (r2 23 rfl rfl (r2 24 rfl rfl (r0 25 rfl (Qda (v:=.bool false) rfl rfl rfl (rq [26] 13 (r2 27 rfl rfl (r2 28 rfl rfl ?_)))))))))))
  refine r2 29 rfl rfl (r2 30 rfl rfl (r2 31 rfl rfl (r2 32 rfl rfl (r2 33 rfl rfl (r2 34 rfl rfl (r2 35 rfl rfl (r2 36 rfl rfl (r2 37 rfl rfl (r0 38 rfl (Qda (v:=.bool false) rfl rfl rfl ?_))))))))))
  refine rq [39] 0 (RA.done (by decide +kernel) ?_)
  exact T.weakR (hK () trivial) (Weak.mkN [] [] (by decide) (Qsa _) rfl ⟨Joa ((congrArg (fun p=>p) (Option.some.inj hz)).symm),trivial⟩ (Qoa))
theorem move_Check_c (p0:Net) (p1:List (List Item)) (p2:State) (r:Int) (h:move_Check p0 p1 p2=some r):Fn Tryz.prog 36 [.agg (Jda p0),sL (encL Qaa) p1,.agg (Qta p2)] (iI r):=by
  unfold move_Check at h
  refine fnT 0 Tryz.func36 Tryz.ntmps36 ?_
  refine T.seq (T.region (go 3 0 (RS.nil (T.seq (T.seq ?_)))))
  obtain ⟨x2,hx2,h⟩:=bind_some h
  refine T.region (go 2 2 (sO (cF (net_Sources_c p0 p1 x2 hx2) ⟨rfl,(go 1 2 (RS.nil (T.seq (T.region (go 2 2 (RS.nil (T.ci h rfl (fun hb_1 h=>?_) (fun hb_1 h=>?_))))))))⟩)))
  ·refine T.seq (T.region (go 2 2 (RS.nil ?_)))
   cases h
   exact tD
  refine T.skip (T.seq (T.join (Z:=Unit) (fun _=>mkA 131 [(1,sL (encL Qaa) p1),(3,.ptr 0 0),(5,.ptr 1 0),(46,.bool ((((p2.At).length:Int) != ((p1).length:Int)) || ((((p2.Rings).length:Int) != p0.Rings) || ((p2.Memory).length:Int) != ((p0.Nodes).length:Int))))]) (fun _=>[.box (Jda p0),.box (Qta p2)]) (fun _=>True) (fun _ _=>?_) (fun hK=>?_)))
  ·refine T.ci h rfl (fun hb_4 h=>?_) (fun hb_4 h=>?_)
   ·refine T.seq (T.region (go 1 2 (RS.nil ?_)))
    cases h
    exact tD
   refine T.skip (T.seq (T.join (Z:=Unit) (fun _=>mkA 131 [(1,sL (encL Qaa) p1),(3,.ptr 0 0),(5,.ptr 1 0),(56,.bool ((decide (((p2.Choices).length:Int) > 500)) || decide (((p2.Out).length:Int) > 2000)))]) (fun _=>[.box (Jda p0),.box (Qta p2)]) (fun _=>True) (fun _ _=>?_) (fun hK=>?_)))
   ·refine T.ci h rfl (fun hb_6 h=>?_) (fun hb_6 h=>?_)
    ·refine T.seq (T.region (go 1 2 (RS.nil ?_)))
     cases h
     exact tD
    refine T.skip (T.seq (T.seq (T.region (go 2 2 (sQ (Qfa Ty.s49 rfl (go 1 2 (RS.nil (T.block (T.iter (fun ss_15:Int=>mkA 131 [(1,sL (encL Qaa) p1),(3,.ptr 0 0),(5,.ptr 1 0),(58,sL encI p2.At),(59,iI ((p2.At).length:Int)),(60,iI ss_15)]) (fun ss_15=>[.box (Jda p0),.box (Qta p2)]) h (wk [] [0,1] 2 rfl) (fun ss_15 v_16 h hv_16=>?_)))))))))))
    revert hv_16 h;revert ss_15;intro s5 h hv_16
    replace h:move_Check_l4 p0 p1 p2 s5=some v_16:=h
    try dsimp only
    unfold move_Check_l4 at h
    refine T.seq (T.region (go 1 2 (RS.nil (T.seq (T.ci h rfl (fun hb_17 h=>?_) (fun hb_17 h=>?_))))))
    ·refine T.skip (T.seq (T.block (T.seq ?_)))
     obtain ⟨x7,hx7,h⟩:=bind_some h
     refine T.region (go 1 2 (sQ (Qga Ty.s49 (fun _=>rfl) rfl rfl hx7 (go 3 2 (RS.nil ?_)))))
     obtain ⟨zt_19,hz,h⟩:=bind_some h
     revert hz h;revert zt_19;intro c9 hz h
     refine T.join (Z:=Unit) (fun _=>mkA 131 [(1,sL (encL Qaa) p1),(3,.ptr 0 0),(5,.ptr 1 0),(58,sL encI p2.At),(59,iI ((p2.At).length:Int)),(60,iI s5),(75,.bool c9)]) (fun _=>[.box (Jda p0),.box (Qta p2)]) (fun _=>True) (fun _ _=>?_) (fun hK=>?_)
     ·refine T.ci h rfl (fun hb_20 h=>?_) (fun hb_20 h=>?_)
      ·refine T.seq (T.region (go 1 2 (RS.nil ?_)))
       obtain ⟨w_21,h,hw_21⟩:=Qpa h
       replace h:=h.trans (congrArg some (hv_16 _ hw_21))
       cases h
       exact tD
      refine T.skip (T.region (go 2 2 (RS.nil ?_)))
      exact ⟨IntKind.i64.wrap (s5+1),(Option.some.inj h).symm,wk [] [0,1] 2 rfl⟩
     refine T.region (go 3 2 ?_)
     rcases Qca (decide (x7<0)) with hb_18 | hb_18
     ·replace hz:=ite_T hz hb_18
      refine sN hb_18 (sN hb_18 (sN hb_18 (sN hb_18 (sN hb_18 (sN hb_18 (sN hb_18 (sQ (Qha (v:=.bool true) rfl hb_18 rfl (RS.nil ?_)))))))))
      exact T.sub (hK () trivial) ⟨rfl,rfl,rfl,rfl,rfl,rfl,(congrArg AV.bool ((congrArg (fun p=>p) (Option.some.inj hz)).symm)).symm,trivial⟩
     replace hz:=ite_F hz hb_18
     obtain ⟨x8,hx8,hz⟩:=bind_some hz
     refine yg 2 hb_18 (yg 2 hb_18 (yg 2 hb_18 (yQ hb_18 (Qga Ty.s48 (fun _=>rfl) rfl rfl hx8 (yg 2 hb_18 (yQ hb_18 (Qfa Ty.s52 rfl (yg 2 hb_18 (sQ (Qda (v:=.bool (decide (x7 > ((x8).length:Int)))) rfl hb_18 rfl (RS.nil ?_)))))))))))
     exact T.sub (hK () trivial) ⟨rfl,rfl,rfl,rfl,rfl,rfl,(congrArg AV.bool ((congrArg (fun p=>p) (Option.some.inj hz)).symm)).symm,trivial⟩
    refine T.exit ?_
    obtain ⟨w_22,h,hw_22⟩:=Qpa h
    replace h:=h.trans (congrArg some (hv_16 _ hw_22))
    refine T.seq (T.region (go 2 2 (RS.nil (T.seq (T.seq (T.region (go 2 2 (sQ (Qfa Ty.s48 rfl (go 1 2 ?_))))))))))
    refine RS.nil (T.block (T.iter (fun ss_29:Int=>mkA 131 [(3,.ptr 0 0),(5,.ptr 1 0),(10,.func 69 [.ptr 1 0]),(79,sL (encL Qaa) p2.Rings),(80,iI ((p2.Rings).length:Int)),(81,iI ss_29)]) (fun ss_29=>[.box (Jda p0),.box (Qta p2)]) h (wk [] [0,1] 2 rfl) (fun ss_29 v_30 h hv_30=>?_)))
    revert hv_30 h;revert ss_29;intro s10 h hv_30
    replace h:Q0b p0 p2 s10=some v_30:=h
    try dsimp only
    unfold Q0b at h
    refine T.seq (T.region (go 1 2 (RS.nil (T.seq (T.ci h rfl (fun hb_31 h=>?_) (fun hb_31 h=>?_))))))
    ·refine T.skip (T.seq (T.block (T.seq ?_)))
     obtain ⟨x12,hx12,h⟩:=bind_some h
     refine T.region (sQ (Qga Ty.s48 (fun _=>rfl) rfl rfl hx12 (go 2 2 (RS.nil (T.seq (T.seq (T.region (go 1 2 (sQ (Qfa Ty.s52 rfl (go 3 2 ?_)))))))))))
     refine RS.nil (T.ci h rfl (fun hb_32 h=>?_) (fun hb_32 h=>?_))
     ·refine T.seq (T.region (go 1 2 (RS.nil ?_)))
      obtain ⟨w_33,h,hw_33⟩:=Qpa h
      replace h:=h.trans (congrArg some (hv_30 _ hw_33))
      cases h
      exact tD
     refine T.skip (T.seq ?_)
     obtain ⟨x14,hx14,h⟩:=bind_some h
     refine T.region (go 2 2 (sO (Q5a (ac:=[sL Qaa x12,.ptr 1 0]) (as0:=[sL Qaa x12,.ptr 0 0]) (aw0:=[.box (Qta p2)]) (aw1:=[.box (Qta p2)]) (aw2:=[.box (Jda p0),.box (Qta p2)]) (v:=.bool x14) (v':=.bool x14) (n0:=2) (n1:=1) [1] rfl rfl rfl rfl (by decide) (Jfa (cs:=(Qta p2)) (ds:=(Qta p2)) rfl ⟨rn_s rfl,rn_s rfl,rn_s rfl,rn_s rfl,rn_s rfl,trivial⟩ (Qoa)) ⟨rn_s rfl,Qma rfl,trivial⟩ (move_Check_1_xa01a_c x12 p2.At p2.Rings p2.Memory p2.Choices p2.Out x14 hx14) rfl (Qia (Vza _)) ⟨.inr ⟨rfl,rfl⟩,.inl ⟨0,_,by decide,rfl,Jba (cs:=(Qta p2)) (ds:=(Qta p2)) ⟨Qia (Qwa encI_p _),Qia (Qwa (encL_p Jca) _),Qia (Qwa J9a _),Qia (Qwa J8a _),Qia (Qwa Jca _),trivial⟩⟩,trivial⟩ (go 1 2 (RS.nil (T.ci h rfl (fun hb_34 h=>?_) (fun hb_34 h=>?_)))))))
     ·refine T.seq (T.region (go 1 2 (RS.nil ?_)))
      obtain ⟨w_35,h,hw_35⟩:=Qpa h
      replace h:=h.trans (congrArg some (hv_30 _ hw_35))
      cases h
      exact tD
     refine T.skip (T.region (go 2 2 (RS.nil ?_)))
     exact ⟨IntKind.i64.wrap (s10+1),(Option.some.inj h).symm,wk [] [0,1] 2 rfl⟩
    refine T.exit ?_
    obtain ⟨w_36,h,hw_36⟩:=Qpa h
    replace h:=h.trans (congrArg some (hv_30 _ hw_36))
    refine T.seq (T.seq (T.region (go 2 2 (sQ (Qfa Ty.s50 rfl (go 1 2 (RS.nil (T.block (T.iter (fun ss_43:Int=>mkA 131 [(3,.ptr 0 0),(5,.ptr 1 0),(10,.func 69 [.ptr 1 0]),(96,sL Qba p2.Memory),(97,iI ((p2.Memory).length:Int)),(98,iI ss_43)]) (fun ss_43=>[.box (Jda p0),.box (Qta p2)]) h (wk [] [0,1] 2 rfl) (fun ss_43 v_44 h hv_44=>?_))))))))))
    revert hv_44 h;revert ss_43;intro s15 h hv_44
    replace h:Q3b p0 p2 s15=some v_44:=h
    try dsimp only
    unfold Q3b at h
    refine T.seq (T.region (go 1 2 (RS.nil (T.seq (T.ci h rfl (fun hb_45 h=>?_) (fun hb_45 h=>?_))))))
    ·refine T.skip (T.seq (T.block (T.seq ?_)))
     obtain ⟨x17,hx17,h⟩:=bind_some h
     refine T.region (sQ (Qga Ty.s50 (fun _=>rfl) rfl rfl hx17 (go 3 2 (RS.nil (T.seq (T.seq ?_))))))
     obtain ⟨x19,hx19,h⟩:=bind_some h
     refine T.region (go 1 3 (sO (cF (stage_Check_c x17 x19 hx19) ⟨rfl,(go 1 3 (RS.nil (T.seq (T.region (go 2 3 (RS.nil (T.ci h rfl (fun hb_46 h=>?_) (fun hb_46 h=>?_))))))))⟩)))
     ·refine T.seq (T.region (go 2 3 (RS.nil ?_)))
      obtain ⟨w_47,h,hw_47⟩:=Qpa h
      replace h:=h.trans (congrArg some (hv_44 _ hw_47))
      cases h
      exact tD
     refine T.skip (T.seq (T.region (go 4 3 (sQ (Qfa Ty.s51 rfl (go 1 3 (RS.nil (T.ci h rfl (fun hb_48 h=>?_) (fun hb_48 h=>?_)))))))))
     ·refine T.seq (T.region (go 1 3 (RS.nil ?_)))
      obtain ⟨w_49,h,hw_49⟩:=Qpa h
      replace h:=h.trans (congrArg some (hv_44 _ hw_49))
      cases h
      exact tD
     refine T.skip (T.region (go 2 3 (RS.nil ?_)))
     exact ⟨IntKind.i64.wrap (s15+1),(Option.some.inj h).symm,wk [] [0,1] 3 rfl⟩
    refine T.exit ?_
    obtain ⟨w_50,h,hw_50⟩:=Qpa h
    replace h:=h.trans (congrArg some (hv_44 _ hw_50))
    refine T.seq (T.seq (T.region (go 2 2 (sQ (Qfa Ty.s51 rfl (go 1 2 (RS.nil (T.block (T.iter (fun ss_55:Int=>mkA 131 [(3,.ptr 0 0),(5,.ptr 1 0),(10,.func 69 [.ptr 1 0]),(115,sL Qea p2.Choices),(116,iI ((p2.Choices).length:Int)),(117,iI ss_55)]) (fun ss_55=>[.box (Jda p0),.box (Qta p2)]) h (wk [] [0,1] 2 rfl) (fun ss_55 v_56 h hv_56=>?_))))))))))
    revert hv_56 h;revert ss_55;intro s20 h hv_56
    replace h:Q6b p0 p2 s20=some v_56:=h
    try dsimp only
    unfold Q6b at h
    refine T.seq (T.region (go 1 2 (RS.nil (T.seq (T.ci h rfl (fun hb_57 h=>?_) (fun hb_57 h=>?_))))))
    ·refine T.skip (T.seq (T.block (T.seq ?_)))
     obtain ⟨x22,hx22,h⟩:=bind_some h
     refine T.region (sQ (Qga Ty.s51 (fun _=>rfl) rfl rfl hx22 (go 3 2 (RS.nil (T.seq ?_)))))
     obtain ⟨x24,hx24,h⟩:=bind_some h
     refine T.region (go 2 3 (sO (cF (move_choice_c p0 x22 x24 hx24) ⟨rfl,(go 1 3 (RS.nil (T.ci h rfl (fun hb_58 h=>?_) (fun hb_58 h=>?_))))⟩)))
     ·refine T.seq (T.region (go 1 3 (RS.nil ?_)))
      obtain ⟨w_59,h,hw_59⟩:=Qpa h
      replace h:=h.trans (congrArg some (hv_56 _ hw_59))
      cases h
      exact tD
     refine T.skip (T.region (go 2 3 (RS.nil ?_)))
     exact ⟨IntKind.i64.wrap (s20+1),(Option.some.inj h).symm,wk [] [0,1] 3 rfl⟩
    refine T.exit ?_
    obtain ⟨w_60,h,hw_60⟩:=Qpa h
    replace h:=h.trans (congrArg some (hv_56 _ hw_60))
    refine T.seq (T.seq ?_)
    obtain ⟨x26,hx26,h⟩:=bind_some h
    refine T.region (go 3 2 (sO (Q5a (ac:=[sL Qaa p2.Out,.ptr 1 0]) (as0:=[sL Qaa p2.Out,.ptr 0 0]) (aw0:=[.box (Qta p2)]) (aw1:=[.box (Qta p2)]) (aw2:=[.box (Jda p0),.box (Qta p2)]) (v:=.bool x26) (v':=.bool x26) (n0:=2) (n1:=1) [1] rfl rfl rfl rfl (by decide) (Jfa (cs:=(Qta p2)) (ds:=(Qta p2)) rfl ⟨rn_s rfl,rn_s rfl,rn_s rfl,rn_s rfl,rn_s rfl,trivial⟩ (Qoa)) ⟨rn_s rfl,Qma rfl,trivial⟩ (move_Check_1_xa01a_c p2.Out p2.At p2.Rings p2.Memory p2.Choices p2.Out x26 hx26) rfl (Qia (Vza _)) ⟨.inr ⟨rfl,rfl⟩,.inl ⟨0,_,by decide,rfl,Jba (cs:=(Qta p2)) (ds:=(Qta p2)) ⟨Qia (Qwa encI_p _),Qia (Qwa (encL_p Jca) _),Qia (Qwa J9a _),Qia (Qwa J8a _),Qia (Qwa Jca _),trivial⟩⟩,trivial⟩ (go 1 2 (RS.nil (T.ci h rfl (fun hb_61 h=>?_) (fun hb_61 h=>?_)))))))
    ·refine T.seq (T.region (go 1 2 (RS.nil ?_)))
     cases h
     exact tD
    refine T.skip (T.seq (T.region (go 1 2 (RS.nil ?_))))
    cases h
    exact tD
   refine T.region (go 2 2 (sQ (Qfa Ty.s51 rfl (go 2 2 ?_))))
   rcases Qca (decide (((p2.Choices).length:Int) > 500)) with hb_5 | hb_5
   ·refine sN hb_5 (sN hb_5 (sN hb_5 (sN hb_5 (sQ (Qha (v:=.bool true) rfl hb_5 rfl (RS.nil ?_))))))
    exact T.sub (hK () trivial) ⟨rfl,rfl,rfl,(congrArg AV.bool (by simp only [hb_5,bz,if_true,if_false,Bool.false_eq_true])).symm,trivial⟩
   refine yg 2 hb_5 (yg 2 hb_5 (yQ hb_5 (Qfa Ty.s52 rfl (yg 2 hb_5 (sQ (Qda (v:=.bool (decide (((p2.Out).length:Int) > 2000))) rfl hb_5 rfl (RS.nil ?_)))))))
   exact T.sub (hK () trivial) ⟨rfl,rfl,rfl,(congrArg AV.bool (by simp only [hb_5,bz,if_true,if_false,Bool.false_eq_true])).symm,trivial⟩
  refine T.region (go 2 2 (sQ (Qfa Ty.s49 rfl (go 1 2 (sQ (Qfa Ty.s48 rfl (go 2 2 ?_)))))))
  rcases Qca (((p2.At).length:Int) != ((p1).length:Int)) with hb_2 | hb_2
  ·refine sN hb_2 (sN hb_2 (sN hb_2 (sN hb_2 (sN hb_2 (sN hb_2 (sQ (Qha (v:=.bool true) rfl hb_2 rfl (go 1 2 (sN rfl (sN rfl ?_))))))))))
   refine sN rfl (sN rfl (sN rfl (sN rfl (sN rfl (sQ (Qha (v:=.bool true) rfl rfl rfl (RS.nil ?_)))))))
   exact T.sub (hK () trivial) ⟨rfl,rfl,rfl,(congrArg AV.bool (by simp only [hb_2,bz,if_true,if_false,Bool.false_eq_true])).symm,trivial⟩
  refine yg 2 hb_2 (yg 2 hb_2 (yQ hb_2 (Qfa Ty.s48 rfl (yg 2 hb_2 (yg 2 hb_2 (yg 2 hb_2 (sQ (Qda (v:=.bool (((p2.Rings).length:Int) != p0.Rings)) rfl hb_2 rfl (go 1 2 ?_)))))))))
  rcases Qca (((p2.Rings).length:Int) != p0.Rings) with hb_3 | hb_3
  ·refine sN hb_3 (sN hb_3 (sN hb_3 (sN hb_3 (sN hb_3 (sN hb_3 (sN hb_3 (sQ (Qha (v:=.bool true) rfl hb_3 rfl (RS.nil ?_)))))))))
   exact T.sub (hK () trivial) ⟨rfl,rfl,rfl,(congrArg AV.bool (by simp only [hb_2,hb_3,bz,if_true,if_false,Bool.false_eq_true])).symm,trivial⟩
  refine yg 2 hb_3 (yg 2 hb_3 (yQ hb_3 (Qfa Ty.s50 rfl (yg 2 hb_3 (yg 2 hb_3 (yQ hb_3 (Qfa Ty.s45 rfl (yg 2 hb_3 (sQ (Qda (v:=.bool (((p2.Memory).length:Int) != ((p0.Nodes).length:Int))) rfl hb_3 rfl (RS.nil ?_)))))))))))
  exact T.sub (hK () trivial) ⟨rfl,rfl,rfl,(congrArg AV.bool (by simp only [hb_2,hb_3,bz,if_true,if_false,Bool.false_eq_true])).symm,trivial⟩
theorem bld_copyCheck_c (p0 r:List Int) (h:bld_copyCheck p0=some r):FnX Tryz.prog 93 [.ptr 0 0] [.boxB 85 [.np 0,.ref 1],aR 5 1 enc8 p0] (.tup []) [.boxB 85 [.np 0,.ref 1],aR 5 1 enc8 r]:=by
  cases h
  exact copyCheck_fn _
theorem Yna (p0:Int) (p1:List Int) (r:Unit × (List Int)) (h:Jna p0 p1=some r):FnX Tryz.prog 74 [.ptr 0 0,.int .u8 p0] [.boxB 85 [.np 0,.ref 1],aR 5 1 enc8 p1] (.nili) [.boxB 85 [.np 0,.ref 2],.dead,aR 5 1 enc8 r.2]:=by
  unfold Jna at h
  refine fnT 2 Tryz.func74 Tryz.ntmps74 ?_
  refine T.mvBB 0 1 1 (cs:=[.np 0,.ref 1]) rfl rfl rfl rfl (cs':=[.np 0,.ref 2]) rfl rfl (T.seq (T.region (go 1 3 (RS.nil (T.seq ?_)))))
  obtain ⟨x2,hx2,h⟩:=bind_some h
  refine T.region (go 1 3 (sO (Q5a (ac:=[.ptr 0 0]) (as0:=[.ptr 0 0]) (aw0:=[.boxB 85 [.np 0,.ref 1],aR 5 1 enc8 p1]) (aw1:=[.boxB 85 [.np 0,.ref 1],aR 5 1 enc8 x2]) (aw2:=[.boxB 85 [.np 0,.ref 2],.dead,aR 5 1 enc8 x2]) (v:=.tup []) (v':=.tup []) (n0:=3) (n1:=2) [0,2] rfl rfl rfl rfl (by decide) (J4a (cs:=[.np 0,.ref 1]) (ds:=[.np 0,.ref 2]) rfl ⟨rn_np rfl,Q8a rfl,trivial⟩ (Jza rfl Zda rfl (Qoa))) ⟨Qma rfl,trivial⟩ (bld_copyCheck_c p1 x2 hx2) rfl (Qjb (cs:=[]) (ds:=[]) trivial) ⟨.inl ⟨0,_,by decide,rfl,Vka (cs:=[.np 0,.ref 2]) (ds:=[.np 0,.ref 1]) ⟨rm_np (by decide),J1a (by decide),trivial⟩⟩,.inr ⟨rfl,rfl⟩,.inl ⟨1,_,by decide,rfl,Jia Zda⟩,trivial⟩ (RS.nil (T.seq ?_)))))
  obtain ⟨x4,hx4,h⟩:=bind_some h
  refine T.region (go 4 3 (sO (o_load_ptrB rfl rfl (Jva Ty.k35 (c:=.ref 2) rfl (go 1 3 (sO (Qra (rows:=List.map enc8 [p0]) (vs:=[.int .u8 p0]) Ty.s35 Ty.z5 rfl rfl rfl rfl rfl rfl (sO (Zma (en:=enc8) (xs:=x2) (ys:=([p0]:List Int)) Ty.s35 (fun _=>rfl) rfl rfl rfl hx4 rfl rfl (go 2 5 (sO (o_storeB rfl rfl (vs:=[.ref 4]) rfl Tryz.underlying35 rfl (by decide) rfl (RS.nil (T.seq ?_))))))))))))))
  refine T.region (go 1 5 (RS.nil (T.rt (res_tmpA (v:=.nili) rfl (Qxb ?_)))))
  exact ret_norm (v:=.nili) (aw1:=[.boxB 85 [.np 0,.ref 4],.dead,.dead,.dead,aR 5 1 enc8 x4]) (.nili) [0,1,4] rfl (by decide) (by decide) (Y5a pure_nili) (J4a (cs:=[.np 0,.ref 2]) (ds:=[.np 0,.ref 4]) rfl ⟨rn_np rfl,Q8a rfl,trivial⟩ (rw_dead rfl (Jza rfl Zda (congrArg (fun r:Unit × (List Int)=>r.2) (Option.some.inj h)).symm (Qoa)))) ⟨rfl,rfl⟩
theorem Qva (p0:Int) (p1:List Int) (r:List Int) (h:Qka p0 p1=some r):FnX Tryz.prog 37 [.ptr 0 0,iI p0] [.boxB 85 [.np 0,.ref 1],aR 5 1 enc8 p1] (.tup []) [.boxB 85 [.np 0,.ref 2],.dead,aR 5 1 enc8 r]:=by
  unfold Qka at h
  refine fnT 2 Tryz.func37 Tryz.ntmps37 ?_
  refine T.mvBB 0 1 1 (cs:=[.np 0,.ref 1]) rfl rfl rfl rfl (cs':=[.np 0,.ref 2]) rfl rfl (T.seq ?_)
  obtain ⟨x3,hx3,h⟩:=bind_some h
  obtain ⟨x4,hx4,h⟩:=bind_some h
  refine T.region (go 2 3 (sQ (v_shl rfl rfl hx3 (go 1 3 (sQ (v_shr rfl rfl hx4 (go 3 3 (RS.nil (T.seq (T.block (T.iter (fun ss_3:Int × (List Int)=>mkA 29 [(0,.ptr 0 0),(4,.int .u64 ss_3.1)]) (fun ss_3=>[.boxB 85 [.np 0,.ref 2],.dead,aR 5 1 enc8 ss_3.2]) h (Weak.mkN [] [0,1,2] (by decide) (by decide) rfl ⟨Qma rfl,Q2a rfl,trivial⟩ (J4a (cs:=[.np 0,.ref 2]) (ds:=[.np 0,.ref 2]) rfl ⟨rn_np rfl,Q8a rfl,trivial⟩ (rw_dead rfl (rw_ar rfl rfl (Qoa))))) (fun ss_3 v_4 h hv_4=>?_))))))))))))
  obtain ⟨s5,s6⟩:=ss_3
  replace h:Jka s5 s6=some v_4:=h
  try dsimp only
  unfold Jka at h
  refine T.seq (T.seq (T.region (go 2 3 (RS.nil (T.ci h rfl (fun hb_5 h=>?_) (fun hb_5 h=>?_))))))
  ·refine T.skip (T.seq (T.block ?_))
   obtain ⟨x7,hx7,h⟩:=bind_some h
   refine T.region (go 6 3 (sO (Q5a (ac:=[.ptr 0 0,.int .u8 (ibits .or .u8 (IntKind.u8.wrap s5) 128)]) (as0:=[.ptr 0 0,.int .u8 (ibits .or .u8 (IntKind.u8.wrap s5) 128)]) (aw0:=[.boxB 85 [.np 0,.ref 1],aR 5 1 enc8 s6]) (aw1:=[.boxB 85 [.np 0,.ref 2],.dead,aR 5 1 enc8 x7.2]) (aw2:=[.boxB 85 [.np 0,.ref 3],.dead,.dead,aR 5 1 enc8 x7.2]) (v:=.nili) (v':=.nili) (n0:=3) (n1:=3) [0,2] rfl rfl rfl rfl (by decide) (J4a (cs:=[.np 0,.ref 1]) (ds:=[.np 0,.ref 2]) rfl ⟨rn_np rfl,Q8a rfl,trivial⟩ (Jza rfl Zda rfl (Qoa))) ⟨Qma rfl,Q2a rfl,trivial⟩ (Yna (ibits .or .u8 (IntKind.u8.wrap s5) 128) s6 x7 hx7) rfl (Qia (pure_nili)) ⟨.inl ⟨0,_,by decide,rfl,Vka (cs:=[.np 0,.ref 3]) (ds:=[.np 0,.ref 2]) ⟨rm_np (by decide),J1a (by decide),trivial⟩⟩,.inr ⟨rfl,rfl⟩,.inl ⟨1,_,by decide,rfl,trivial⟩,.inl ⟨2,_,by decide,rfl,Jia Zda⟩,trivial⟩ (RS.nil ?_))))
   obtain ⟨x8,hx8,h⟩:=bind_some h
   refine T.region (go 1 4 (sQ (v_shr rfl rfl hx8 (go 1 4 (RS.nil ?_)))))
   exact ⟨(x8,x7.2),(Option.some.inj h).symm,Weak.mkN [] [0,1,3] (by decide) (by decide) rfl ⟨Qma rfl,Q2a rfl,trivial⟩ (J4a (cs:=[.np 0,.ref 2]) (ds:=[.np 0,.ref 3]) rfl ⟨rn_np rfl,Q8a rfl,trivial⟩ (rw_dead rfl (rw_ar rfl rfl (Qoa))))⟩
  refine T.exit ?_
  obtain ⟨w_6,h,hw_6⟩:=Qpa h
  replace h:=h.trans (congrArg some (hv_4 _ hw_6))
  obtain ⟨x9,hx9,h⟩:=bind_some h
  refine T.region (go 5 3 (sO (Q5a (ac:=[.ptr 0 0,.int .u8 (IntKind.u8.wrap s5)]) (as0:=[.ptr 0 0,.int .u8 (IntKind.u8.wrap s5)]) (aw0:=[.boxB 85 [.np 0,.ref 1],aR 5 1 enc8 s6]) (aw1:=[.boxB 85 [.np 0,.ref 2],.dead,aR 5 1 enc8 x9.2]) (aw2:=[.boxB 85 [.np 0,.ref 3],.dead,.dead,aR 5 1 enc8 x9.2]) (v:=.nili) (v':=.nili) (n0:=3) (n1:=3) [0,2] rfl rfl rfl rfl (by decide) (J4a (cs:=[.np 0,.ref 1]) (ds:=[.np 0,.ref 2]) rfl ⟨rn_np rfl,Q8a rfl,trivial⟩ (Jza rfl Zda rfl (Qoa))) ⟨Qma rfl,Q2a rfl,trivial⟩ (Yna (IntKind.u8.wrap s5) s6 x9 hx9) rfl (Qia (pure_nili)) ⟨.inl ⟨0,_,by decide,rfl,Vka (cs:=[.np 0,.ref 3]) (ds:=[.np 0,.ref 2]) ⟨rm_np (by decide),J1a (by decide),trivial⟩⟩,.inr ⟨rfl,rfl⟩,.inl ⟨1,_,by decide,rfl,trivial⟩,.inl ⟨2,_,by decide,rfl,Jia Zda⟩,trivial⟩ (RS.nil (exN (Qxb ?_))))))
  exact ret_norm (v:=.tup []) (aw1:=[.boxB 85 [.np 0,.ref 3],.dead,.dead,aR 5 1 enc8 x9.2]) (.tup []) [0,1,3] rfl (by decide) (by decide) (rn_tup trivial) (J4a (cs:=[.np 0,.ref 2]) (ds:=[.np 0,.ref 3]) rfl ⟨rn_np rfl,Q8a rfl,trivial⟩ (rw_dead rfl (Jza rfl Zda (congrArg (fun r:List Int=>r) (Option.some.inj h)).symm (Qoa)))) ⟨rfl,rfl⟩
theorem Jbb (p0:List Item) (p1:List Int) (r:List Int) (h:J2a p0 p1=some r):FnX Tryz.prog 38 [.ptr 0 0,sL Qaa p0] [.boxB 85 [.np 0,.ref 1],aR 5 1 enc8 p1] (.tup []) [.boxB 85 [.np 0,.ref 2],.dead,aR 5 1 enc8 r]:=by
  unfold J2a at h
  refine fnT 2 Tryz.func38 Tryz.ntmps38 ?_
  refine T.mvBB 0 1 1 (cs:=[.np 0,.ref 1]) rfl rfl rfl rfl (cs':=[.np 0,.ref 2]) rfl rfl (T.seq ?_)
  obtain ⟨x2,hx2,h⟩:=bind_some h
  refine T.region (go 2 3 (sQ (Qfa Ty.s52 rfl (sO (Q5a (ac:=[.ptr 0 0,iI ((p0).length:Int)]) (as0:=[.ptr 0 0,iI ((p0).length:Int)]) (aw0:=[.boxB 85 [.np 0,.ref 1],aR 5 1 enc8 p1]) (aw1:=[.boxB 85 [.np 0,.ref 2],.dead,aR 5 1 enc8 x2]) (aw2:=[.boxB 85 [.np 0,.ref 3],.dead,.dead,aR 5 1 enc8 x2]) (v:=.tup []) (v':=.tup []) (n0:=3) (n1:=3) [0,2] rfl rfl rfl rfl (by decide) (J4a (cs:=[.np 0,.ref 1]) (ds:=[.np 0,.ref 2]) rfl ⟨rn_np rfl,Q8a rfl,trivial⟩ (Jza rfl Zda rfl (Qoa))) ⟨Qma rfl,Q2a rfl,trivial⟩ (Qva ((p0).length:Int) p1 x2 hx2) rfl (Qjb (cs:=[]) (ds:=[]) trivial) ⟨.inl ⟨0,_,by decide,rfl,Vka (cs:=[.np 0,.ref 3]) (ds:=[.np 0,.ref 2]) ⟨rm_np (by decide),J1a (by decide),trivial⟩⟩,.inr ⟨rfl,rfl⟩,.inl ⟨1,_,by decide,rfl,trivial⟩,.inl ⟨2,_,by decide,rfl,Jia Zda⟩,trivial⟩ (RS.nil (T.seq (T.region (go 1 4 (sQ (Qfa Ty.s52 rfl (go 1 4 ?_))))))))))))
  refine RS.nil (T.block (T.iter (fun ss_3:Int × (List Int)=>mkA 29 [(0,.ptr 0 0),(10,sL Qaa p0),(11,iI ((p0).length:Int)),(12,iI ss_3.1)]) (fun ss_3=>[.boxB 85 [.np 0,.ref 2],.dead,aR 5 1 enc8 ss_3.2]) h (Weak.mkN [] [0,1,3] (by decide) (by decide) rfl ⟨Qma rfl,rn_s rfl,Q2a rfl,Q2a rfl,trivial⟩ (J4a (cs:=[.np 0,.ref 2]) (ds:=[.np 0,.ref 3]) rfl ⟨rn_np rfl,Q8a rfl,trivial⟩ (rw_dead rfl (rw_ar rfl rfl (Qoa))))) (fun ss_3 v_4 h hv_4=>?_)))
  obtain ⟨s3,s4⟩:=ss_3
  replace h:Zla p0 s3 s4=some v_4:=h
  try dsimp only
  unfold Zla at h
  refine T.seq (T.region (go 1 3 (RS.nil (T.seq (T.ci h rfl (fun hb_5 h=>?_) (fun hb_5 h=>?_))))))
  ·refine T.skip (T.seq (T.block (T.seq ?_)))
   obtain ⟨x6,hx6,h⟩:=bind_some h
   refine T.region (sQ (Qga Ty.s52 (fun _=>rfl) rfl rfl hx6 (go 3 3 (RS.nil (T.seq ?_)))))
   obtain ⟨x8,hx8,h⟩:=bind_some h
   refine T.region (go 3 4 (sO (Q5a (ac:=[.ptr 0 0,iI x6.Key]) (as0:=[.ptr 0 0,iI x6.Key]) (aw0:=[.boxB 85 [.np 0,.ref 1],aR 5 1 enc8 s4]) (aw1:=[.boxB 85 [.np 0,.ref 2],.dead,aR 5 1 enc8 x8]) (aw2:=[.boxB 85 [.np 0,.ref 4],.dead,.dead,.box (Qaa x6),aR 5 1 enc8 x8]) (v:=.tup []) (v':=.tup []) (n0:=4) (n1:=3) [0,2] rfl rfl rfl rfl (by decide) (J4a (cs:=[.np 0,.ref 1]) (ds:=[.np 0,.ref 2]) rfl ⟨rn_np rfl,Q8a rfl,trivial⟩ (Jza rfl Zda rfl (Qoa))) ⟨Qma rfl,Q2a rfl,trivial⟩ (Qva x6.Key s4 x8 hx8) rfl (Qjb (cs:=[]) (ds:=[]) trivial) ⟨.inl ⟨0,_,by decide,rfl,Vka (cs:=[.np 0,.ref 4]) (ds:=[.np 0,.ref 2]) ⟨rm_np (by decide),J1a (by decide),trivial⟩⟩,.inr ⟨rfl,rfl⟩,.inl ⟨1,_,by decide,rfl,trivial⟩,.inr ⟨rfl,rfl⟩,.inl ⟨2,_,by decide,rfl,Jia Zda⟩,trivial⟩ (RS.nil (T.seq ?_)))))
   obtain ⟨x10,hx10,h⟩:=bind_some h
   refine T.region (go 3 5 (sO (Q5a (ac:=[.ptr 0 0,iI x6.Val]) (as0:=[.ptr 0 0,iI x6.Val]) (aw0:=[.boxB 85 [.np 0,.ref 1],aR 5 1 enc8 x8]) (aw1:=[.boxB 85 [.np 0,.ref 2],.dead,aR 5 1 enc8 x10]) (aw2:=[.boxB 85 [.np 0,.ref 5],.dead,.dead,.box (Qaa x6),.dead,aR 5 1 enc8 x10]) (v:=.tup []) (v':=.tup []) (n0:=5) (n1:=3) [0,4] rfl rfl rfl rfl (by decide) (J4a (cs:=[.np 0,.ref 1]) (ds:=[.np 0,.ref 4]) rfl ⟨rn_np rfl,Q8a rfl,trivial⟩ (Jza rfl Zda rfl (Qoa))) ⟨Qma rfl,Q2a rfl,trivial⟩ (Qva x6.Val x8 x10 hx10) rfl (Qjb (cs:=[]) (ds:=[]) trivial) ⟨.inl ⟨0,_,by decide,rfl,Vka (cs:=[.np 0,.ref 5]) (ds:=[.np 0,.ref 2]) ⟨rm_np (by decide),J1a (by decide),trivial⟩⟩,.inr ⟨rfl,rfl⟩,.inr ⟨rfl,rfl⟩,.inr ⟨rfl,rfl⟩,.inl ⟨1,_,by decide,rfl,trivial⟩,.inl ⟨2,_,by decide,rfl,Jia Zda⟩,trivial⟩ (RS.nil ?_))))
   obtain ⟨x11,hx11,h⟩:=bind_some h
   refine T.region (go 3 6 (sO (Q5a (ac:=[.ptr 0 0,iI x6.Dep]) (as0:=[.ptr 0 0,iI x6.Dep]) (aw0:=[.boxB 85 [.np 0,.ref 1],aR 5 1 enc8 x10]) (aw1:=[.boxB 85 [.np 0,.ref 2],.dead,aR 5 1 enc8 x11]) (aw2:=[.boxB 85 [.np 0,.ref 6],.dead,.dead,.box (Qaa x6),.dead,.dead,aR 5 1 enc8 x11]) (v:=.tup []) (v':=.tup []) (n0:=6) (n1:=3) [0,5] rfl rfl rfl rfl (by decide) (J4a (cs:=[.np 0,.ref 1]) (ds:=[.np 0,.ref 5]) rfl ⟨rn_np rfl,Q8a rfl,trivial⟩ (Jza rfl Zda rfl (Qoa))) ⟨Qma rfl,Q2a rfl,trivial⟩ (Qva x6.Dep x10 x11 hx11) rfl (Qjb (cs:=[]) (ds:=[]) trivial) ⟨.inl ⟨0,_,by decide,rfl,Vka (cs:=[.np 0,.ref 6]) (ds:=[.np 0,.ref 2]) ⟨rm_np (by decide),J1a (by decide),trivial⟩⟩,.inr ⟨rfl,rfl⟩,.inr ⟨rfl,rfl⟩,.inr ⟨rfl,rfl⟩,.inr ⟨rfl,rfl⟩,.inl ⟨1,_,by decide,rfl,trivial⟩,.inl ⟨2,_,by decide,rfl,Jia Zda⟩,trivial⟩ (RS.nil (T.region (go 2 7 (RS.nil ?_)))))))
   exact ⟨(IntKind.i64.wrap (s3+1),x11),(Option.some.inj h).symm,Weak.mkN [] [0,1,6] (by decide) (by decide) rfl ⟨Qma rfl,rn_s rfl,Q2a rfl,Q2a rfl,trivial⟩ (J4a (cs:=[.np 0,.ref 2]) (ds:=[.np 0,.ref 6]) rfl ⟨rn_np rfl,Q8a rfl,trivial⟩ (rw_dead rfl (rw_ar rfl rfl (Qoa))))⟩
  refine T.exit ?_
  obtain ⟨w_6,h,hw_6⟩:=Qpa h
  replace h:=h.trans (congrArg some (hv_4 _ hw_6))
  refine exN (Qxb ?_)
  exact ret_norm (v:=.tup []) (aw1:=[.boxB 85 [.np 0,.ref 2],.dead,aR 5 1 enc8 s4]) (.tup []) [0,1,2] rfl (by decide) (by decide) (rn_tup trivial) (J4a (cs:=[.np 0,.ref 2]) (ds:=[.np 0,.ref 2]) rfl ⟨rn_np rfl,Q8a rfl,trivial⟩ (rw_dead rfl (Jza rfl Zda (congrArg (fun r:List Int=>r) (Option.some.inj h)).symm (Qoa)))) ⟨rfl,rfl⟩
theorem bld_String_c (p0:List Int) (r:List UInt8) (h:bld_String p0=some r):FnX Tryz.prog 39 [.ptr 0 0] [.boxB 85 [.np 0,.ref 1],aR 5 1 enc8 p0] (.str r) [.dead,.dead]:=string_fn p0 r h
end Go.Proofs.YtchmpaaofmihcaaGreat
namespace Go.Proofs.YtchmpaaofmihcaaGreat
open Go.RowKit
set_option maxRecDepth 100000
set_option maxHeartbeats 4000000
theorem fnTD {P:Program} {aw:List Ob} {f:FuncId} {fn:Func} {c:Code} {args:List AV} {Q:AV→List Ob→Prop} {m:Nat} (N:Nat) (hf:P.funcs[f]?=some fn) (hm:fn.ntmps=m) (h:iniC 0 args fun l=>TD P N c (retQ P fn N Q) (mkA m l) aw)
    (hb:fn.body=some c:=by rfl) (hN:aw.length=N:=by rfl) (hname:(fn.name == "runtime.NumGoroutine")=false:=by kernel_rfl) (hl:Nat.ble args.length m=true:=by rfl):ACalls P f args aw Q :=
  fn_of_TD hN hf hb hname hm hl (iniC_ok (K:=fun l=>TD P N c (retQ P fn N Q) (mkA m l) aw) h)
theorem catch_idle (p q:Value) (w:World) :
    CallsD Tryz.prog 41 #[p,q] .returning w fun e u' w'=>(∃ v,e=.returned v)∧u'=.returning∧w'=w:=by
  refine callsD_of_wpS Tryz.func41 rfl fun c₀ cs hu=>?_
  apply wpS_seq
  apply wpS_region
  simp [wpOpsS,go_sem,recoverD,hu,Tryz.ntmps41,Exit.thenS]
  apply wpS_seq
  apply wpS_region
  simp [wpOpsS,go_sem,Exit.thenS]
  refine wpS_cond (t:=false) (by simp [Act.eval,Array.replicate]) ?_
  simp only [Bool.false_eq_true,if_false]
  refine wpS_of_wp (wp_skip ?_)
  cases c₀
  simp_all [bodyPostS,results,Tryz.results41]
theorem idleF:IdleF Tryz.prog 41 2:=fun cvs h=>by
  match cvs,h with
  | [p,q],_ =>
    exact ⟨.func 41,#[p,q],41,#[p,q],rfl,fun w=>callable Tryz.func41 rfl (by kernel_rfl) _ w,fun w=>catch_idle p q w⟩
end Go.Proofs.YtchmpaaofmihcaaGreat
namespace Go.Proofs.YtchmpaaofmihcaaGreat
open Go.RowKit
set_option linter.unusedVariables false
set_option linter.unusedSimpArgs false
set_option maxRecDepth 100000
set_option maxHeartbeats 4000000
set_option synthInstance.maxSize 100000
set_option synthInstance.maxHeartbeats 4000000
theorem save_Bytes_c (p0:Net) (p1:List (List Item)) (p2:State) (r:(List UInt8) × Int) (h:save_Bytes p0 p1 p2=some r):Fn Tryz.prog 16 [.agg (Jda p0),sL (encL Qaa) p1,.agg (Qta p2)] (.tup [.str r.1,iI r.2]):=by
  unfold save_Bytes at h
  refine fnT 0 Tryz.func16 Tryz.ntmps16 ?_
  refine T.seq (T.region (go 4 0 (RS.nil (T.seq (T.seq ?_)))))
  obtain ⟨x2,hx2,h⟩:=bind_some h
  refine T.region (go 3 2 (sO (cF (move_Check_c p0 p1 p2 x2 hx2) ⟨rfl,(go 1 2 (RS.nil (T.seq (T.region (go 2 2 (RS.nil (T.ci h rfl (fun hb_1 h=>?_) (fun hb_1 h=>?_))))))))⟩)))
  ·refine T.seq (T.region (go 3 2 (RS.nil ?_)))
   cases h
   exact tD
  refine T.skip (T.seq (T.region (go 1 2 (sO (o_boxW (e:=5) (z:=1) rfl rfl rfl (go 1 4 (RS.nil (T.seq ?_))))))))
  obtain ⟨x4,hx4,h⟩:=bind_some h
  refine T.region (go 3 4 (sQ (Qfa Ty.s49 rfl (sO (Q5a (ac:=[.ptr 2 0,iI ((p2.At).length:Int)]) (as0:=[.ptr 0 0,iI ((p2.At).length:Int)]) (aw0:=[.boxB 85 [.np 0,.ref 1],aR 5 1 enc8 ([]:List Int)]) (aw1:=[.boxB 85 [.np 0,.ref 2],.dead,aR 5 1 enc8 x4]) (aw2:=[.box (Jda p0),.box (Qta p2),.boxB 85 [.np 2,.ref 4],.dead,aR 5 1 enc8 x4]) (v:=.tup []) (v':=.tup []) (n0:=4) (n1:=3) [2,3] rfl rfl rfl rfl (by decide) (J4a (cs:=[.np 0,.ref 1]) (ds:=[.np 2,.ref 3]) rfl ⟨rn_np rfl,Q8a rfl,trivial⟩ (Jza rfl Zda rfl (Qoa))) ⟨Qma rfl,Q2a rfl,trivial⟩ (Qva ((p2.At).length:Int) ([]:List Int) x4 hx4) rfl (Qjb (cs:=[]) (ds:=[]) trivial) ⟨.inr ⟨rfl,rfl⟩,.inr ⟨rfl,rfl⟩,.inl ⟨0,_,by decide,rfl,Vka (cs:=[.np 2,.ref 4]) (ds:=[.np 0,.ref 2]) ⟨rm_np (by decide),J1a (by decide),trivial⟩⟩,.inl ⟨1,_,by decide,rfl,trivial⟩,.inl ⟨2,_,by decide,rfl,Jia Zda⟩,trivial⟩ (RS.nil (T.seq (T.seq (T.region (go 2 5 (sQ (Qfa Ty.s49 rfl ?_))))))))))))
  refine go 1 5 (RS.nil (T.block (T.iter (fun ss_4:Int × (List Int)=>mkA 132 [(5,.ptr 0 0),(9,.ptr 1 0),(35,sL encI p2.At),(36,iI ((p2.At).length:Int)),(37,iI ss_4.1)]) (fun ss_4=>[.box (Qta p2),.boxB 85 [.np 1,.ref 2],aR 5 1 enc8 ss_4.2]) h (Weak.mkN [] [1,2,4] (by decide) (Qsa _) rfl ⟨Qma rfl,Qma rfl,rn_s rfl,Q2a rfl,Q2a rfl,trivial⟩ (rw_bs (Qta p2) rfl (J4a (cs:=[.np 1,.ref 2]) (ds:=[.np 2,.ref 4]) rfl ⟨rn_np rfl,Q8a rfl,trivial⟩ (rw_ar rfl rfl (Qoa))))) (fun ss_4 v_5 h hv_5=>?_))))
  obtain ⟨s5,s6⟩:=ss_4
  replace h:Qub p2 s5 s6=some v_5:=h
  try dsimp only
  unfold Qub at h
  refine T.seq (T.region (go 1 3 (RS.nil (T.seq (T.ci h rfl (fun hb_6 h=>?_) (fun hb_6 h=>?_))))))
  ·refine T.skip (T.seq (T.block (T.seq ?_)))
   obtain ⟨x8,hx8,h⟩:=bind_some h
   refine T.region (sQ (Qga Ty.s49 (fun _=>rfl) rfl rfl hx8 (go 2 3 (RS.nil ?_))))
   obtain ⟨x9,hx9,h⟩:=bind_some h
   refine T.region (go 2 3 (sO (Q5a (ac:=[.ptr 1 0,iI x8]) (as0:=[.ptr 0 0,iI x8]) (aw0:=[.boxB 85 [.np 0,.ref 1],aR 5 1 enc8 s6]) (aw1:=[.boxB 85 [.np 0,.ref 2],.dead,aR 5 1 enc8 x9]) (aw2:=[.box (Qta p2),.boxB 85 [.np 1,.ref 3],.dead,aR 5 1 enc8 x9]) (v:=.tup []) (v':=.tup []) (n0:=3) (n1:=3) [1,2] rfl rfl rfl rfl (by decide) (J4a (cs:=[.np 0,.ref 1]) (ds:=[.np 1,.ref 2]) rfl ⟨rn_np rfl,Q8a rfl,trivial⟩ (Jza rfl Zda rfl (Qoa))) ⟨Qma rfl,Q2a rfl,trivial⟩ (Qva x8 s6 x9 hx9) rfl (Qjb (cs:=[]) (ds:=[]) trivial) ⟨.inr ⟨rfl,rfl⟩,.inl ⟨0,_,by decide,rfl,Vka (cs:=[.np 1,.ref 3]) (ds:=[.np 0,.ref 2]) ⟨rm_np (by decide),J1a (by decide),trivial⟩⟩,.inl ⟨1,_,by decide,rfl,trivial⟩,.inl ⟨2,_,by decide,rfl,Jia Zda⟩,trivial⟩ (RS.nil (T.region (go 2 4 (RS.nil ?_)))))))
   exact ⟨(IntKind.i64.wrap (s5+1),x9),(Option.some.inj h).symm,Weak.mkN [] [0,1,3] (by decide) (Qsa _) rfl ⟨Qma rfl,Qma rfl,rn_s rfl,Q2a rfl,Q2a rfl,trivial⟩ (rw_bs (Qta p2) rfl (J4a (cs:=[.np 1,.ref 2]) (ds:=[.np 1,.ref 3]) rfl ⟨rn_np rfl,Q8a rfl,trivial⟩ (rw_ar rfl rfl (Qoa))))⟩
  refine T.exit ?_
  obtain ⟨w_7,h,hw_7⟩:=Qpa h
  replace h:=h.trans (congrArg some (hv_5 _ hw_7))
  refine T.seq ?_
  obtain ⟨x11,hx11,h⟩:=bind_some h
  refine T.region (go 3 3 (sQ (Qfa Ty.s48 rfl (sO (Q5a (ac:=[.ptr 1 0,iI ((p2.Rings).length:Int)]) (as0:=[.ptr 0 0,iI ((p2.Rings).length:Int)]) (aw0:=[.boxB 85 [.np 0,.ref 1],aR 5 1 enc8 s6]) (aw1:=[.boxB 85 [.np 0,.ref 2],.dead,aR 5 1 enc8 x11]) (aw2:=[.box (Qta p2),.boxB 85 [.np 1,.ref 3],.dead,aR 5 1 enc8 x11]) (v:=.tup []) (v':=.tup []) (n0:=3) (n1:=3) [1,2] rfl rfl rfl rfl (by decide) (J4a (cs:=[.np 0,.ref 1]) (ds:=[.np 1,.ref 2]) rfl ⟨rn_np rfl,Q8a rfl,trivial⟩ (Jza rfl Zda rfl (Qoa))) ⟨Qma rfl,Q2a rfl,trivial⟩ (Qva ((p2.Rings).length:Int) s6 x11 hx11) rfl (Qjb (cs:=[]) (ds:=[]) trivial) ⟨.inr ⟨rfl,rfl⟩,.inl ⟨0,_,by decide,rfl,Vka (cs:=[.np 1,.ref 3]) (ds:=[.np 0,.ref 2]) ⟨rm_np (by decide),J1a (by decide),trivial⟩⟩,.inl ⟨1,_,by decide,rfl,trivial⟩,.inl ⟨2,_,by decide,rfl,Jia Zda⟩,trivial⟩ (RS.nil (T.seq (T.seq (T.region (go 2 4 (sQ (Qfa Ty.s48 rfl ?_))))))))))))
  refine go 1 4 (RS.nil (T.block (T.iter (fun ss_10:Int × (List Int)=>mkA 132 [(5,.ptr 0 0),(9,.ptr 1 0),(51,sL (encL Qaa) p2.Rings),(52,iI ((p2.Rings).length:Int)),(53,iI ss_10.1)]) (fun ss_10=>[.box (Qta p2),.boxB 85 [.np 1,.ref 2],aR 5 1 enc8 ss_10.2]) h (Weak.mkN [] [0,1,3] (by decide) (Qsa _) rfl ⟨Qma rfl,Qma rfl,rn_s rfl,Q2a rfl,Q2a rfl,trivial⟩ (rw_bs (Qta p2) rfl (J4a (cs:=[.np 1,.ref 2]) (ds:=[.np 1,.ref 3]) rfl ⟨rn_np rfl,Q8a rfl,trivial⟩ (rw_ar rfl rfl (Qoa))))) (fun ss_10 v_11 h hv_11=>?_))))
  obtain ⟨s12,s13⟩:=ss_10
  replace h:Q5b p2 s12 s13=some v_11:=h
  try dsimp only
  unfold Q5b at h
  refine T.seq (T.region (go 1 3 (RS.nil (T.seq (T.ci h rfl (fun hb_12 h=>?_) (fun hb_12 h=>?_))))))
  ·refine T.skip (T.seq (T.block (T.seq ?_)))
   obtain ⟨x15,hx15,h⟩:=bind_some h
   refine T.region (sQ (Qga Ty.s48 (fun _=>rfl) rfl rfl hx15 (go 2 3 (RS.nil ?_))))
   obtain ⟨x16,hx16,h⟩:=bind_some h
   refine T.region (go 2 3 (sO (Q5a (ac:=[.ptr 1 0,sL Qaa x15]) (as0:=[.ptr 0 0,sL Qaa x15]) (aw0:=[.boxB 85 [.np 0,.ref 1],aR 5 1 enc8 s13]) (aw1:=[.boxB 85 [.np 0,.ref 2],.dead,aR 5 1 enc8 x16]) (aw2:=[.box (Qta p2),.boxB 85 [.np 1,.ref 3],.dead,aR 5 1 enc8 x16]) (v:=.tup []) (v':=.tup []) (n0:=3) (n1:=3) [1,2] rfl rfl rfl rfl (by decide) (J4a (cs:=[.np 0,.ref 1]) (ds:=[.np 1,.ref 2]) rfl ⟨rn_np rfl,Q8a rfl,trivial⟩ (Jza rfl Zda rfl (Qoa))) ⟨Qma rfl,rn_s rfl,trivial⟩ (Jbb x15 s13 x16 hx16) rfl (Qjb (cs:=[]) (ds:=[]) trivial) ⟨.inr ⟨rfl,rfl⟩,.inl ⟨0,_,by decide,rfl,Vka (cs:=[.np 1,.ref 3]) (ds:=[.np 0,.ref 2]) ⟨rm_np (by decide),J1a (by decide),trivial⟩⟩,.inl ⟨1,_,by decide,rfl,trivial⟩,.inl ⟨2,_,by decide,rfl,Jia Zda⟩,trivial⟩ (RS.nil (T.region (go 2 4 (RS.nil ?_)))))))
   exact ⟨(IntKind.i64.wrap (s12+1),x16),(Option.some.inj h).symm,Weak.mkN [] [0,1,3] (by decide) (Qsa _) rfl ⟨Qma rfl,Qma rfl,rn_s rfl,Q2a rfl,Q2a rfl,trivial⟩ (rw_bs (Qta p2) rfl (J4a (cs:=[.np 1,.ref 2]) (ds:=[.np 1,.ref 3]) rfl ⟨rn_np rfl,Q8a rfl,trivial⟩ (rw_ar rfl rfl (Qoa))))⟩
  refine T.exit ?_
  obtain ⟨w_13,h,hw_13⟩:=Qpa h
  replace h:=h.trans (congrArg some (hv_11 _ hw_13))
  refine T.seq ?_
  obtain ⟨x18,hx18,h⟩:=bind_some h
  refine T.region (go 3 3 (sQ (Qfa Ty.s50 rfl (sO (Q5a (ac:=[.ptr 1 0,iI ((p2.Memory).length:Int)]) (as0:=[.ptr 0 0,iI ((p2.Memory).length:Int)]) (aw0:=[.boxB 85 [.np 0,.ref 1],aR 5 1 enc8 s13]) (aw1:=[.boxB 85 [.np 0,.ref 2],.dead,aR 5 1 enc8 x18]) (aw2:=[.box (Qta p2),.boxB 85 [.np 1,.ref 3],.dead,aR 5 1 enc8 x18]) (v:=.tup []) (v':=.tup []) (n0:=3) (n1:=3) [1,2] rfl rfl rfl rfl (by decide) (J4a (cs:=[.np 0,.ref 1]) (ds:=[.np 1,.ref 2]) rfl ⟨rn_np rfl,Q8a rfl,trivial⟩ (Jza rfl Zda rfl (Qoa))) ⟨Qma rfl,Q2a rfl,trivial⟩ (Qva ((p2.Memory).length:Int) s13 x18 hx18) rfl (Qjb (cs:=[]) (ds:=[]) trivial) ⟨.inr ⟨rfl,rfl⟩,.inl ⟨0,_,by decide,rfl,Vka (cs:=[.np 1,.ref 3]) (ds:=[.np 0,.ref 2]) ⟨rm_np (by decide),J1a (by decide),trivial⟩⟩,.inl ⟨1,_,by decide,rfl,trivial⟩,.inl ⟨2,_,by decide,rfl,Jia Zda⟩,trivial⟩ (RS.nil (T.seq (T.seq (T.region (go 2 4 (sQ (Qfa Ty.s50 rfl ?_))))))))))))
  refine go 1 4 (RS.nil (T.block (T.iter (fun ss_28:Int × (List Int)=>mkA 132 [(5,.ptr 0 0),(9,.ptr 1 0),(67,sL Qba p2.Memory),(68,iI ((p2.Memory).length:Int)),(69,iI ss_28.1)]) (fun ss_28=>[.box (Qta p2),.boxB 85 [.np 1,.ref 2],aR 5 1 enc8 ss_28.2]) h (Weak.mkN [] [0,1,3] (by decide) (Qsa _) rfl ⟨Qma rfl,Qma rfl,rn_s rfl,Q2a rfl,Q2a rfl,trivial⟩ (rw_bs (Qta p2) rfl (J4a (cs:=[.np 1,.ref 2]) (ds:=[.np 1,.ref 3]) rfl ⟨rn_np rfl,Q8a rfl,trivial⟩ (rw_ar rfl rfl (Qoa))))) (fun ss_28 v_29 h hv_29=>?_))))
  obtain ⟨s19,s20⟩:=ss_28
  replace h:Qvb p2 s19 s20=some v_29:=h
  try dsimp only
  unfold Qvb at h
  refine T.seq (T.region (go 1 3 (RS.nil (T.seq (T.ci h rfl (fun hb_30 h=>?_) (fun hb_30 h=>?_))))))
  ·refine T.skip (T.seq (T.block (T.seq ?_)))
   obtain ⟨x22,hx22,h⟩:=bind_some h
   refine T.region (sQ (Qga Ty.s50 (fun _=>rfl) rfl rfl hx22 (go 3 3 (RS.nil (T.seq ?_)))))
   obtain ⟨x24,hx24,h⟩:=bind_some h
   refine T.region (go 3 4 (sO (Q5a (ac:=[.ptr 1 0,iI x22.Sum]) (as0:=[.ptr 0 0,iI x22.Sum]) (aw0:=[.boxB 85 [.np 0,.ref 1],aR 5 1 enc8 s20]) (aw1:=[.boxB 85 [.np 0,.ref 2],.dead,aR 5 1 enc8 x24]) (aw2:=[.box (Qta p2),.boxB 85 [.np 1,.ref 4],.dead,.box (Qba x22),aR 5 1 enc8 x24]) (v:=.tup []) (v':=.tup []) (n0:=4) (n1:=3) [1,2] rfl rfl rfl rfl (by decide) (J4a (cs:=[.np 0,.ref 1]) (ds:=[.np 1,.ref 2]) rfl ⟨rn_np rfl,Q8a rfl,trivial⟩ (Jza rfl Zda rfl (Qoa))) ⟨Qma rfl,Q2a rfl,trivial⟩ (Qva x22.Sum s20 x24 hx24) rfl (Qjb (cs:=[]) (ds:=[]) trivial) ⟨.inr ⟨rfl,rfl⟩,.inl ⟨0,_,by decide,rfl,Vka (cs:=[.np 1,.ref 4]) (ds:=[.np 0,.ref 2]) ⟨rm_np (by decide),J1a (by decide),trivial⟩⟩,.inl ⟨1,_,by decide,rfl,trivial⟩,.inr ⟨rfl,rfl⟩,.inl ⟨2,_,by decide,rfl,Jia Zda⟩,trivial⟩ (RS.nil (T.seq ?_)))))
   obtain ⟨x26,hx26,h⟩:=bind_some h
   refine T.region (go 3 5 (sO (Q5a (ac:=[.ptr 1 0,iI x22.Dep]) (as0:=[.ptr 0 0,iI x22.Dep]) (aw0:=[.boxB 85 [.np 0,.ref 1],aR 5 1 enc8 x24]) (aw1:=[.boxB 85 [.np 0,.ref 2],.dead,aR 5 1 enc8 x26]) (aw2:=[.box (Qta p2),.boxB 85 [.np 1,.ref 5],.dead,.box (Qba x22),.dead,aR 5 1 enc8 x26]) (v:=.tup []) (v':=.tup []) (n0:=5) (n1:=3) [1,4] rfl rfl rfl rfl (by decide) (J4a (cs:=[.np 0,.ref 1]) (ds:=[.np 1,.ref 4]) rfl ⟨rn_np rfl,Q8a rfl,trivial⟩ (Jza rfl Zda rfl (Qoa))) ⟨Qma rfl,Q2a rfl,trivial⟩ (Qva x22.Dep x24 x26 hx26) rfl (Qjb (cs:=[]) (ds:=[]) trivial) ⟨.inr ⟨rfl,rfl⟩,.inl ⟨0,_,by decide,rfl,Vka (cs:=[.np 1,.ref 5]) (ds:=[.np 0,.ref 2]) ⟨rm_np (by decide),J1a (by decide),trivial⟩⟩,.inr ⟨rfl,rfl⟩,.inr ⟨rfl,rfl⟩,.inl ⟨1,_,by decide,rfl,trivial⟩,.inl ⟨2,_,by decide,rfl,Jia Zda⟩,trivial⟩ (RS.nil (T.seq ?_)))))
   obtain ⟨x28,hx28,h⟩:=bind_some h
   refine T.region (go 3 6 (sQ (Qfa Ty.s88 rfl (sO (Q5a (ac:=[.ptr 1 0,iI ((x22.Keys).length:Int)]) (as0:=[.ptr 0 0,iI ((x22.Keys).length:Int)]) (aw0:=[.boxB 85 [.np 0,.ref 1],aR 5 1 enc8 x26]) (aw1:=[.boxB 85 [.np 0,.ref 2],.dead,aR 5 1 enc8 x28]) (aw2:=[.box (Qta p2),.boxB 85 [.np 1,.ref 6],.dead,.box (Qba x22),.dead,.dead,aR 5 1 enc8 x28]) (v:=.tup []) (v':=.tup []) (n0:=6) (n1:=3) [1,5] rfl rfl rfl rfl (by decide) (J4a (cs:=[.np 0,.ref 1]) (ds:=[.np 1,.ref 5]) rfl ⟨rn_np rfl,Q8a rfl,trivial⟩ (Jza rfl Zda rfl (Qoa))) ⟨Qma rfl,Q2a rfl,trivial⟩ (Qva ((x22.Keys).length:Int) x26 x28 hx28) rfl (Qjb (cs:=[]) (ds:=[]) trivial) ⟨.inr ⟨rfl,rfl⟩,.inl ⟨0,_,by decide,rfl,Vka (cs:=[.np 1,.ref 6]) (ds:=[.np 0,.ref 2]) ⟨rm_np (by decide),J1a (by decide),trivial⟩⟩,.inr ⟨rfl,rfl⟩,.inr ⟨rfl,rfl⟩,.inr ⟨rfl,rfl⟩,.inl ⟨1,_,by decide,rfl,trivial⟩,.inl ⟨2,_,by decide,rfl,Jia Zda⟩,trivial⟩ (RS.nil (T.seq (T.region (go 2 7 (sQ (Qfa Ty.s88 rfl (go 1 7 ?_))))))))))))
   refine RS.nil (T.block (T.iter (fun ss_33:Int × (List Int)=>mkA 132 [(5,.ptr 0 0),(9,.ptr 1 0),(67,sL Qba p2.Memory),(68,iI ((p2.Memory).length:Int)),(69,iI s19),(87,sL Qla x22.Keys),(88,iI ((x22.Keys).length:Int)),(89,iI ss_33.1)]) (fun ss_33=>[.box (Qta p2),.boxB 85 [.np 1,.ref 2],aR 5 1 enc8 ss_33.2]) h (Weak.mkN [] [0,1,6] (by decide) (Qsa _) rfl ⟨Qma rfl,Qma rfl,rn_s rfl,Q2a rfl,Q2a rfl,rn_s rfl,Q2a rfl,Q2a rfl,trivial⟩ (rw_bs (Qta p2) rfl (J4a (cs:=[.np 1,.ref 2]) (ds:=[.np 1,.ref 6]) rfl ⟨rn_np rfl,Q8a rfl,trivial⟩ (rw_ar rfl rfl (Qoa))))) (fun ss_33 v_34 h hv_34=>?_)))
   obtain ⟨s29,s30⟩:=ss_33
   replace h:save_Bytes_l1 s19 x22 s29 s30=some v_34:=h
   try dsimp only
   unfold save_Bytes_l1 at h
   refine T.seq (T.region (go 1 3 (RS.nil (T.seq (T.ci h rfl (fun hb_35 h=>?_) (fun hb_35 h=>?_))))))
   ·refine T.skip (T.seq (T.block (T.seq ?_)))
    obtain ⟨x32,hx32,h⟩:=bind_some h
    refine T.region (sQ (Qga Ty.s88 (fun _=>rfl) rfl rfl hx32 (go 3 3 (RS.nil (T.seq ?_)))))
    obtain ⟨x34,hx34,h⟩:=bind_some h
    refine T.region (go 3 4 (sO (Q5a (ac:=[.ptr 1 0,iI x32.Key]) (as0:=[.ptr 0 0,iI x32.Key]) (aw0:=[.boxB 85 [.np 0,.ref 1],aR 5 1 enc8 s30]) (aw1:=[.boxB 85 [.np 0,.ref 2],.dead,aR 5 1 enc8 x34]) (aw2:=[.box (Qta p2),.boxB 85 [.np 1,.ref 4],.dead,.box (Qla x32),aR 5 1 enc8 x34]) (v:=.tup []) (v':=.tup []) (n0:=4) (n1:=3) [1,2] rfl rfl rfl rfl (by decide) (J4a (cs:=[.np 0,.ref 1]) (ds:=[.np 1,.ref 2]) rfl ⟨rn_np rfl,Q8a rfl,trivial⟩ (Jza rfl Zda rfl (Qoa))) ⟨Qma rfl,Q2a rfl,trivial⟩ (Qva x32.Key s30 x34 hx34) rfl (Qjb (cs:=[]) (ds:=[]) trivial) ⟨.inr ⟨rfl,rfl⟩,.inl ⟨0,_,by decide,rfl,Vka (cs:=[.np 1,.ref 4]) (ds:=[.np 0,.ref 2]) ⟨rm_np (by decide),J1a (by decide),trivial⟩⟩,.inl ⟨1,_,by decide,rfl,trivial⟩,.inr ⟨rfl,rfl⟩,.inl ⟨2,_,by decide,rfl,Jia Zda⟩,trivial⟩ (RS.nil ?_))))
    obtain ⟨x35,hx35,h⟩:=bind_some h
    refine T.region (go 3 5 (sO (Q5a (ac:=[.ptr 1 0,iI x32.N]) (as0:=[.ptr 0 0,iI x32.N]) (aw0:=[.boxB 85 [.np 0,.ref 1],aR 5 1 enc8 x34]) (aw1:=[.boxB 85 [.np 0,.ref 2],.dead,aR 5 1 enc8 x35]) (aw2:=[.box (Qta p2),.boxB 85 [.np 1,.ref 5],.dead,.box (Qla x32),.dead,aR 5 1 enc8 x35]) (v:=.tup []) (v':=.tup []) (n0:=5) (n1:=3) [1,4] rfl rfl rfl rfl (by decide) (J4a (cs:=[.np 0,.ref 1]) (ds:=[.np 1,.ref 4]) rfl ⟨rn_np rfl,Q8a rfl,trivial⟩ (Jza rfl Zda rfl (Qoa))) ⟨Qma rfl,Q2a rfl,trivial⟩ (Qva x32.N x34 x35 hx35) rfl (Qjb (cs:=[]) (ds:=[]) trivial) ⟨.inr ⟨rfl,rfl⟩,.inl ⟨0,_,by decide,rfl,Vka (cs:=[.np 1,.ref 5]) (ds:=[.np 0,.ref 2]) ⟨rm_np (by decide),J1a (by decide),trivial⟩⟩,.inr ⟨rfl,rfl⟩,.inr ⟨rfl,rfl⟩,.inl ⟨1,_,by decide,rfl,trivial⟩,.inl ⟨2,_,by decide,rfl,Jia Zda⟩,trivial⟩ (RS.nil (T.region (go 2 6 (RS.nil ?_)))))))
    exact ⟨(IntKind.i64.wrap (s29+1),x35),(Option.some.inj h).symm,Weak.mkN [] [0,1,5] (by decide) (Qsa _) rfl ⟨Qma rfl,Qma rfl,rn_s rfl,Q2a rfl,Q2a rfl,rn_s rfl,Q2a rfl,Q2a rfl,trivial⟩ (rw_bs (Qta p2) rfl (J4a (cs:=[.np 1,.ref 2]) (ds:=[.np 1,.ref 5]) rfl ⟨rn_np rfl,Q8a rfl,trivial⟩ (rw_ar rfl rfl (Qoa))))⟩
   refine T.exit ?_
   obtain ⟨w_36,h,hw_36⟩:=Qpa h
   replace h:=h.trans (congrArg some (hv_34 _ hw_36))
   refine T.region (go 2 3 (RS.nil ?_))
   exact ⟨(IntKind.i64.wrap (s19+1),s30),(Option.some.inj h).symm,Weak.mkN [] [0,1,2] (by decide) (Qsa _) rfl ⟨Qma rfl,Qma rfl,rn_s rfl,Q2a rfl,Q2a rfl,trivial⟩ (rw_bs (Qta p2) rfl (J4a (cs:=[.np 1,.ref 2]) (ds:=[.np 1,.ref 2]) rfl ⟨rn_np rfl,Q8a rfl,trivial⟩ (rw_ar rfl rfl (Qoa))))⟩
  refine T.exit ?_
  obtain ⟨w_37,h,hw_37⟩:=Qpa h
  replace h:=h.trans (congrArg some (hv_29 _ hw_37))
  refine T.seq ?_
  obtain ⟨x37,hx37,h⟩:=bind_some h
  refine T.region (go 3 3 (sQ (Qfa Ty.s51 rfl (sO (Q5a (ac:=[.ptr 1 0,iI ((p2.Choices).length:Int)]) (as0:=[.ptr 0 0,iI ((p2.Choices).length:Int)]) (aw0:=[.boxB 85 [.np 0,.ref 1],aR 5 1 enc8 s20]) (aw1:=[.boxB 85 [.np 0,.ref 2],.dead,aR 5 1 enc8 x37]) (aw2:=[.box (Qta p2),.boxB 85 [.np 1,.ref 3],.dead,aR 5 1 enc8 x37]) (v:=.tup []) (v':=.tup []) (n0:=3) (n1:=3) [1,2] rfl rfl rfl rfl (by decide) (J4a (cs:=[.np 0,.ref 1]) (ds:=[.np 1,.ref 2]) rfl ⟨rn_np rfl,Q8a rfl,trivial⟩ (Jza rfl Zda rfl (Qoa))) ⟨Qma rfl,Q2a rfl,trivial⟩ (Qva ((p2.Choices).length:Int) s20 x37 hx37) rfl (Qjb (cs:=[]) (ds:=[]) trivial) ⟨.inr ⟨rfl,rfl⟩,.inl ⟨0,_,by decide,rfl,Vka (cs:=[.np 1,.ref 3]) (ds:=[.np 0,.ref 2]) ⟨rm_np (by decide),J1a (by decide),trivial⟩⟩,.inl ⟨1,_,by decide,rfl,trivial⟩,.inl ⟨2,_,by decide,rfl,Jia Zda⟩,trivial⟩ (RS.nil (T.seq (T.seq (T.region (go 2 4 (sQ (Qfa Ty.s51 rfl ?_))))))))))))
  refine go 1 4 (RS.nil (T.block (T.iter (fun ss_40:Int × (List Int)=>mkA 132 [(5,.ptr 0 0),(9,.ptr 1 0),(109,sL Qea p2.Choices),(110,iI ((p2.Choices).length:Int)),(111,iI ss_40.1)]) (fun ss_40=>[.box (Qta p2),.boxB 85 [.np 1,.ref 2],aR 5 1 enc8 ss_40.2]) h (Weak.mkN [] [0,1,3] (by decide) (Qsa _) rfl ⟨Qma rfl,Qma rfl,rn_s rfl,Q2a rfl,Q2a rfl,trivial⟩ (rw_bs (Qta p2) rfl (J4a (cs:=[.np 1,.ref 2]) (ds:=[.np 1,.ref 3]) rfl ⟨rn_np rfl,Q8a rfl,trivial⟩ (rw_ar rfl rfl (Qoa))))) (fun ss_40 v_41 h hv_41=>?_))))
  obtain ⟨s38,s39⟩:=ss_40
  replace h:Q7b p2 s38 s39=some v_41:=h
  try dsimp only
  unfold Q7b at h
  refine T.seq (T.region (go 1 3 (RS.nil (T.seq (T.ci h rfl (fun hb_42 h=>?_) (fun hb_42 h=>?_))))))
  ·refine T.skip (T.seq (T.block (T.seq ?_)))
   obtain ⟨x41,hx41,h⟩:=bind_some h
   refine T.region (sQ (Qga Ty.s51 (fun _=>rfl) rfl rfl hx41 (go 3 3 (RS.nil (T.seq ?_)))))
   obtain ⟨x43,hx43,h⟩:=bind_some h
   refine T.region (go 3 4 (sO (Q5a (ac:=[.ptr 1 0,iI x41.Node]) (as0:=[.ptr 0 0,iI x41.Node]) (aw0:=[.boxB 85 [.np 0,.ref 1],aR 5 1 enc8 s39]) (aw1:=[.boxB 85 [.np 0,.ref 2],.dead,aR 5 1 enc8 x43]) (aw2:=[.box (Qta p2),.boxB 85 [.np 1,.ref 4],.dead,.box (Qea x41),aR 5 1 enc8 x43]) (v:=.tup []) (v':=.tup []) (n0:=4) (n1:=3) [1,2] rfl rfl rfl rfl (by decide) (J4a (cs:=[.np 0,.ref 1]) (ds:=[.np 1,.ref 2]) rfl ⟨rn_np rfl,Q8a rfl,trivial⟩ (Jza rfl Zda rfl (Qoa))) ⟨Qma rfl,Q2a rfl,trivial⟩ (Qva x41.Node s39 x43 hx43) rfl (Qjb (cs:=[]) (ds:=[]) trivial) ⟨.inr ⟨rfl,rfl⟩,.inl ⟨0,_,by decide,rfl,Vka (cs:=[.np 1,.ref 4]) (ds:=[.np 0,.ref 2]) ⟨rm_np (by decide),J1a (by decide),trivial⟩⟩,.inl ⟨1,_,by decide,rfl,trivial⟩,.inr ⟨rfl,rfl⟩,.inl ⟨2,_,by decide,rfl,Jia Zda⟩,trivial⟩ (RS.nil ?_))))
   obtain ⟨x44,hx44,h⟩:=bind_some h
   refine T.region (go 3 5 (sO (Q5a (ac:=[.ptr 1 0,iI x41.Lane]) (as0:=[.ptr 0 0,iI x41.Lane]) (aw0:=[.boxB 85 [.np 0,.ref 1],aR 5 1 enc8 x43]) (aw1:=[.boxB 85 [.np 0,.ref 2],.dead,aR 5 1 enc8 x44]) (aw2:=[.box (Qta p2),.boxB 85 [.np 1,.ref 5],.dead,.box (Qea x41),.dead,aR 5 1 enc8 x44]) (v:=.tup []) (v':=.tup []) (n0:=5) (n1:=3) [1,4] rfl rfl rfl rfl (by decide) (J4a (cs:=[.np 0,.ref 1]) (ds:=[.np 1,.ref 4]) rfl ⟨rn_np rfl,Q8a rfl,trivial⟩ (Jza rfl Zda rfl (Qoa))) ⟨Qma rfl,Q2a rfl,trivial⟩ (Qva x41.Lane x43 x44 hx44) rfl (Qjb (cs:=[]) (ds:=[]) trivial) ⟨.inr ⟨rfl,rfl⟩,.inl ⟨0,_,by decide,rfl,Vka (cs:=[.np 1,.ref 5]) (ds:=[.np 0,.ref 2]) ⟨rm_np (by decide),J1a (by decide),trivial⟩⟩,.inr ⟨rfl,rfl⟩,.inr ⟨rfl,rfl⟩,.inl ⟨1,_,by decide,rfl,trivial⟩,.inl ⟨2,_,by decide,rfl,Jia Zda⟩,trivial⟩ (RS.nil (T.region (go 2 6 (RS.nil ?_)))))))
   exact ⟨(IntKind.i64.wrap (s38+1),x44),(Option.some.inj h).symm,Weak.mkN [] [0,1,5] (by decide) (Qsa _) rfl ⟨Qma rfl,Qma rfl,rn_s rfl,Q2a rfl,Q2a rfl,trivial⟩ (rw_bs (Qta p2) rfl (J4a (cs:=[.np 1,.ref 2]) (ds:=[.np 1,.ref 5]) rfl ⟨rn_np rfl,Q8a rfl,trivial⟩ (rw_ar rfl rfl (Qoa))))⟩
  refine T.exit ?_
  obtain ⟨w_43,h,hw_43⟩:=Qpa h
  replace h:=h.trans (congrArg some (hv_41 _ hw_43))
  refine T.seq ?_
  obtain ⟨x46,hx46,h⟩:=bind_some h
  refine T.region (go 3 3 (sO (Q5a (ac:=[.ptr 1 0,sL Qaa p2.Out]) (as0:=[.ptr 0 0,sL Qaa p2.Out]) (aw0:=[.boxB 85 [.np 0,.ref 1],aR 5 1 enc8 s39]) (aw1:=[.boxB 85 [.np 0,.ref 2],.dead,aR 5 1 enc8 x46]) (aw2:=[.box (Qta p2),.boxB 85 [.np 1,.ref 3],.dead,aR 5 1 enc8 x46]) (v:=.tup []) (v':=.tup []) (n0:=3) (n1:=3) [1,2] rfl rfl rfl rfl (by decide) (J4a (cs:=[.np 0,.ref 1]) (ds:=[.np 1,.ref 2]) rfl ⟨rn_np rfl,Q8a rfl,trivial⟩ (Jza rfl Zda rfl (Qoa))) ⟨Qma rfl,rn_s rfl,trivial⟩ (Jbb p2.Out s39 x46 hx46) rfl (Qjb (cs:=[]) (ds:=[]) trivial) ⟨.inr ⟨rfl,rfl⟩,.inl ⟨0,_,by decide,rfl,Vka (cs:=[.np 1,.ref 3]) (ds:=[.np 0,.ref 2]) ⟨rm_np (by decide),J1a (by decide),trivial⟩⟩,.inl ⟨1,_,by decide,rfl,trivial⟩,.inl ⟨2,_,by decide,rfl,Jia Zda⟩,trivial⟩ (RS.nil (T.seq ?_)))))
  obtain ⟨x48,hx48,h⟩:=bind_some h
  refine T.region (go 3 4 (sO (Q5a (ac:=[.ptr 1 0]) (as0:=[.ptr 0 0]) (aw0:=[.boxB 85 [.np 0,.ref 1],aR 5 1 enc8 x46]) (aw1:=[.dead,.dead]) (aw2:=[.box (Qta p2),.dead,.dead,.dead]) (v:=.str x48) (v':=.str x48) (n0:=4) (n1:=2) [1,3] rfl rfl rfl rfl (by decide) (J4a (cs:=[.np 0,.ref 1]) (ds:=[.np 1,.ref 3]) rfl ⟨rn_np rfl,Q8a rfl,trivial⟩ (Jza rfl Zda rfl (Qoa))) ⟨Qma rfl,trivial⟩ (bld_String_c x46 x48 hx48) rfl (Qia (Jha _)) ⟨.inr ⟨rfl,rfl⟩,.inl ⟨0,_,by decide,rfl,trivial⟩,.inr ⟨rfl,rfl⟩,.inl ⟨1,_,by decide,rfl,trivial⟩,trivial⟩ (go 2 4 (RS.nil ?_)))))
  cases h
  exact tD
theorem Qja (p0:List UInt8) (r:Int × (List UInt8)) (h:Qna p0=some r):FnX Tryz.prog 43 [.ptr 0 0] [.box [.str p0]] (iI r.1) [.box [.str r.2]]:=by
  unfold Qna at h
  refine fnT 1 Tryz.func43 Tryz.ntmps43 ?_
  refine T.seq (T.region (go 1 1 (RS.nil (T.seq (T.region (go 1 1 (RS.nil (T.seq (T.seq ?_)))))))))
  refine T.region (go 7 1 (RS.nil (T.block (T.iter (fun ss_5:Int × Int=>mkA 55 [(0,.ptr 0 0),(2,iI 0),(3,.int .u64 ss_5.1),(10,iI (if ((p0).length:Int)<10 then ((p0).length:Int) else 10)),(11,iI ss_5.2)]) (fun ss_5=>[.box [.str p0]]) h (wk [] [0] 1 rfl) (fun ss_5 v_6 h hv_6=>?_)))))
  obtain ⟨s1,s2⟩:=ss_5
  replace h:Jja p0 s1 s2=some v_6:=h
  try dsimp only
  unfold Jja at h
  refine T.seq (T.region (go 1 1 (RS.nil (T.seq (T.ci h rfl (fun hb_7 h=>?_) (fun hb_7 h=>?_))))))
  ·refine T.skip (T.seq (T.block (T.seq (T.region (go 2 1 (RS.nil (T.seq ?_)))))))
   obtain ⟨x5,hx5,h⟩:=bind_some h
   obtain ⟨x6,hx6,h⟩:=bind_some h
   refine T.region (go 6 1 (sQ (Jpa Tryz.underlying9 rfl rfl hx5 (go 4 1 (sQ (v_shl rfl rfl hx6 (go 2 1 (RS.nil (T.seq ?_)))))))))
   obtain ⟨x8,hx8,h⟩:=bind_some h
   refine T.region (go 5 1 (sQ (Jpa Tryz.underlying9 rfl rfl hx8 (go 1 1 (RS.nil (T.ci h rfl (fun hb_8 h=>?_) (fun hb_8 h=>?_)))))))
   ·refine T.seq ?_
    obtain ⟨x10,hx10,h⟩:=bind_some h
    refine T.region (go 7 1 (sO (o_slice_str Tryz.underlying9 rfl rfl rfl hx10 (go 3 1 (RS.nil (T.seq ?_))))))
    obtain ⟨x12,hx12,h⟩:=bind_some h
    refine T.region (go 1 1 (sQ (v_shr rfl rfl hx12 (go 7 1 (RS.nil ?_)))))
    obtain ⟨w_9,h,hw_9⟩:=Qpa h
    replace h:=h.trans (congrArg some (hv_6 _ hw_9))
    cases h
    exact tN [0]
   refine T.skip (T.region (go 2 1 (RS.nil ?_)))
   exact ⟨(ibits .or .u64 s1 x6,IntKind.i64.wrap (s2+1)),(Option.some.inj h).symm,wk [] [0] 1 rfl⟩
  refine T.exit ?_
  obtain ⟨w_10,h,hw_10⟩:=Qpa h
  replace h:=h.trans (congrArg some (hv_6 _ hw_10))
  cases h
theorem save_list_int_x6121_c (p0:List UInt8) (r:(List Int) × (List UInt8)) (h:Yca p0=some r):FnX Tryz.prog 42 [.ptr 0 0,.bnd 43 [.ptr 0 0]] [.box [.str p0]] (.ref 1) [.box [.str r.2],aR 3 1 encI r.1]:=by
  unfold Yca at h
  refine fnT 1 Tryz.func42 Tryz.ntmps42 ?_
  refine T.seq (T.region (go 1 1 (RS.nil (T.seq ?_))))
  obtain ⟨x2,hx2,h⟩:=bind_some h
  refine T.region (go 1 1 (sO (Q5a (ac:=[.ptr 0 0]) (as0:=[.ptr 0 0]) (aw0:=[.box [.str p0]]) (aw1:=[.box [.str x2.2]]) (aw2:=[.box [.str x2.2]]) (v:=iI x2.1) (v':=iI x2.1) (n0:=1) (n1:=1) [0] rfl rfl rfl rfl (by decide) (Jfa (cs:=[.str p0]) (ds:=[.str p0]) rfl ⟨Zua rfl,trivial⟩ (Qoa)) ⟨Qma rfl,trivial⟩ (Qja p0 x2 hx2) rfl (Qia (Qua _ _)) ⟨.inl ⟨0,_,by decide,rfl,Jba (cs:=[.str x2.2]) (ds:=[.str x2.2]) ⟨Qia (Jha _),trivial⟩⟩,trivial⟩ (go 1 1 (RS.nil (T.seq (T.join (Z:=Unit) (fun _=>mkA 32 [(1,.bnd 43 [.ptr 0 0]),(5,iI x2.1),(19,.bool ((decide (x2.1<0)) || decide (x2.1 > ((x2.2).length:Int))))]) (fun _=>[.box [.str x2.2]]) (fun _=>True) (fun _ _=>?_) (fun hK=>?_))))))))
  ·refine T.ci h rfl (fun hb_2 h=>?_) (fun hb_2 h=>?_)
   ·cases h
   refine T.skip (T.seq (T.region (go 1 1 (RS.nil (T.seq (T.seq (T.region (go 2 1 (RS.nil ?_)))))))))
   refine T.block (T.iter (fun ss_5:Int × (List UInt8) × (List Int)=>mkA 32 [(1,.bnd 43 [.ptr 0 0]),(6,.ref 1),(22,iI x2.1),(23,iI ss_5.1)]) (fun ss_5=>[.box [.str ss_5.2.1],aR 3 1 encI ss_5.2.2]) h (wk [(6,3,1)] [0,1] 1 rfl) (fun ss_5 v_6 h hv_6=>?_))
   obtain ⟨s4,s5,s6⟩:=ss_5
   replace h:Zqa x2 s4 s5 s6=some v_6:=h
   try dsimp only
   unfold Zqa at h
   refine T.seq (T.region (go 1 2 (RS.nil (T.seq (T.ci h rfl (fun hb_7 h=>?_) (fun hb_7 h=>?_))))))
   ·refine T.skip (T.seq (T.block ?_))
    obtain ⟨x7,hx7,h⟩:=bind_some h
    obtain ⟨x8,hx8,h⟩:=bind_some h
    refine T.region (go 2 2 (sO (o_callFb (ac:=[.ptr 0 0]) (as0:=[.ptr 0 0]) (aw0:=[.box [.str s5]]) (aw1:=[.box [.str x7.2]]) (aw2:=[.box [.str x7.2],aR 3 1 encI s6]) (v:=iI x7.1) (v':=iI x7.1) (n0:=2) (n1:=1) [0] rfl rfl rfl rfl (by decide) (Jfa (cs:=[.str s5]) (ds:=[.str s5]) rfl ⟨Zua rfl,trivial⟩ (Qoa)) ⟨Qma rfl,trivial⟩ (Qja s5 x7 hx7) rfl (Qia (Qua _ _)) ⟨.inl ⟨0,_,by decide,rfl,Jba (cs:=[.str x7.2]) (ds:=[.str x7.2]) ⟨Qia (Jha _),trivial⟩⟩,.inr ⟨rfl,rfl⟩,trivial⟩ (sO (Qra (rows:=List.map encI [x7.1]) (vs:=[iI x7.1]) Ty.s49 Ty.z3 rfl rfl rfl rfl rfl rfl (sO (Zma (en:=encI) (xs:=s6) (ys:=([x7.1]:List Int)) Ty.s49 (fun _=>rfl) rfl rfl rfl hx8 rfl rfl (go 1 4 (RS.nil (T.region (go 2 4 (RS.nil ?_))))))))))))
    exact ⟨(IntKind.i64.wrap (s4+1),x7.2,x8),(Option.some.inj h).symm,wk [] [0,3] 4 rfl⟩
   refine T.exit ?_
   obtain ⟨w_8,h,hw_8⟩:=Qpa h
   replace h:=h.trans (congrArg some (hv_6 _ hw_8))
   refine T.seq (T.region (go 2 2 (RS.nil ?_)))
   cases h
   exact tO [] [0,1] 2
  refine T.region (go 3 1 ?_)
  rcases Qca (decide (x2.1<0)) with hb_1 | hb_1
  ·refine sN hb_1 (sN hb_1 (sN hb_1 (sN hb_1 (sN hb_1 (sN hb_1 (sN hb_1 (sQ (Qha (v:=.bool true) rfl hb_1 rfl (RS.nil ?_)))))))))
   exact T.sub (hK () trivial) ⟨rfl,rfl,(congrArg AV.bool (by simp only [hb_1,bz,if_true,if_false,Bool.false_eq_true])).symm,trivial⟩
  refine yg 1 hb_1 (yg 1 hb_1 (yg 1 hb_1 (yg 1 hb_1 (yg 1 hb_1 (yg 1 hb_1 (yg 1 hb_1 (sQ (Qda (v:=.bool (decide (x2.1 > ((x2.2).length:Int)))) rfl hb_1 rfl (RS.nil ?_)))))))))
  exact T.sub (hK () trivial) ⟨rfl,rfl,(congrArg AV.bool (by simp only [hb_1,bz,if_true,if_false,Bool.false_eq_true])).symm,trivial⟩
theorem save_reader_item_xd243_c (p0:List UInt8) (r:Item × (List UInt8)) (h:Vga p0=some r):FnX Tryz.prog 77 [.ptr 0 0] [.box [.str p0]] (.agg (Qaa r.1)) [.box [.str r.2]]:=by
  unfold Vga at h
  refine fnT 1 Tryz.func77 Tryz.ntmps77 ?_
  refine T.seq (T.region (go 1 1 (RS.nil (T.seq ?_))))
  obtain ⟨x4,hx4,h⟩:=bind_some h
  obtain ⟨x5,hx5,h⟩:=bind_some h
  obtain ⟨x6,hx6,h⟩:=bind_some h
  refine T.region (go 1 2 (sO (Q5a (ac:=[.ptr 0 0]) (as0:=[.ptr 0 0]) (aw0:=[.box [.str p0]]) (aw1:=[.box [.str x4.2]]) (aw2:=[.box [.str x4.2],.box [iI 0,iI 0,iI 0]]) (v:=iI x4.1) (v':=iI x4.1) (n0:=2) (n1:=1) [0] rfl rfl rfl rfl (by decide) (Jfa (cs:=[.str p0]) (ds:=[.str p0]) rfl ⟨Zua rfl,trivial⟩ (Qoa)) ⟨Qma rfl,trivial⟩ (Qja p0 x4 hx4) rfl (Qia (Qua _ _)) ⟨.inl ⟨0,_,by decide,rfl,Jba (cs:=[.str x4.2]) (ds:=[.str x4.2]) ⟨Qia (Jha _),trivial⟩⟩,.inr ⟨rfl,rfl⟩,trivial⟩ (go 1 2 (sO (Q5a (ac:=[.ptr 0 0]) (as0:=[.ptr 0 0]) (aw0:=[.box [.str x4.2]]) (aw1:=[.box [.str x5.2]]) (aw2:=[.box [.str x5.2],.box [iI 0,iI 0,iI 0]]) (v:=iI x5.1) (v':=iI x5.1) (n0:=2) (n1:=1) [0] rfl rfl rfl rfl (by decide) (Jfa (cs:=[.str x4.2]) (ds:=[.str x4.2]) rfl ⟨Zua rfl,trivial⟩ (Qoa)) ⟨Qma rfl,trivial⟩ (Qja x4.2 x5 hx5) rfl (Qia (Qua _ _)) ⟨.inl ⟨0,_,by decide,rfl,Jba (cs:=[.str x5.2]) (ds:=[.str x5.2]) ⟨Qia (Jha _),trivial⟩⟩,.inr ⟨rfl,rfl⟩,trivial⟩ (go 1 2 (sO (Q5a (ac:=[.ptr 0 0]) (as0:=[.ptr 0 0]) (aw0:=[.box [.str x5.2]]) (aw1:=[.box [.str x6.2]]) (aw2:=[.box [.str x6.2],.box [iI 0,iI 0,iI 0]]) (v:=iI x6.1) (v':=iI x6.1) (n0:=2) (n1:=1) [0] rfl rfl rfl rfl (by decide) (Jfa (cs:=[.str x5.2]) (ds:=[.str x5.2]) rfl ⟨Zua rfl,trivial⟩ (Qoa)) ⟨Qma rfl,trivial⟩ (Qja x5.2 x6 hx6) rfl (Qia (Qua _ _)) ⟨.inl ⟨0,_,by decide,rfl,Jba (cs:=[.str x6.2]) (ds:=[.str x6.2]) ⟨Qia (Jha _),trivial⟩⟩,.inr ⟨rfl,rfl⟩,trivial⟩ (go 2 2 (RS.nil ?_)))))))))))
  cases h
  exact tN [0]
theorem save_list_api_Item_xccb1_c (p0:List UInt8) (r:(List Item) × (List UInt8)) (h:Vsa p0=some r):FnX Tryz.prog 76 [.ptr 0 0,.bnd 77 [.ptr 0 0]] [.box [.str p0]] (.ref 1) [.box [.str r.2],aR 115 3 Qaa r.1]:=by
  unfold Vsa at h
  refine fnT 1 Tryz.func76 Tryz.ntmps76 ?_
  refine T.seq (T.region (go 1 1 (RS.nil (T.seq ?_))))
  obtain ⟨x2,hx2,h⟩:=bind_some h
  refine T.region (go 1 1 (sO (Q5a (ac:=[.ptr 0 0]) (as0:=[.ptr 0 0]) (aw0:=[.box [.str p0]]) (aw1:=[.box [.str x2.2]]) (aw2:=[.box [.str x2.2]]) (v:=iI x2.1) (v':=iI x2.1) (n0:=1) (n1:=1) [0] rfl rfl rfl rfl (by decide) (Jfa (cs:=[.str p0]) (ds:=[.str p0]) rfl ⟨Zua rfl,trivial⟩ (Qoa)) ⟨Qma rfl,trivial⟩ (Qja p0 x2 hx2) rfl (Qia (Qua _ _)) ⟨.inl ⟨0,_,by decide,rfl,Jba (cs:=[.str x2.2]) (ds:=[.str x2.2]) ⟨Qia (Jha _),trivial⟩⟩,trivial⟩ (go 1 1 (RS.nil (T.seq (T.join (Z:=Unit) (fun _=>mkA 32 [(1,.bnd 77 [.ptr 0 0]),(5,iI x2.1),(19,.bool ((decide (x2.1<0)) || decide (x2.1 > ((x2.2).length:Int))))]) (fun _=>[.box [.str x2.2]]) (fun _=>True) (fun _ _=>?_) (fun hK=>?_))))))))
  ·refine T.ci h rfl (fun hb_2 h=>?_) (fun hb_2 h=>?_)
   ·cases h
   refine T.skip (T.seq (T.region (go 1 1 (RS.nil (T.seq (T.seq (T.region (go 2 1 (RS.nil ?_)))))))))
   refine T.block (T.iter (fun ss_5:Int × (List UInt8) × (List Item)=>mkA 32 [(1,.bnd 77 [.ptr 0 0]),(6,.ref 1),(22,iI x2.1),(23,iI ss_5.1)]) (fun ss_5=>[.box [.str ss_5.2.1],aR 115 3 Qaa ss_5.2.2]) h (wk [(6,115,3)] [0,1] 1 rfl) (fun ss_5 v_6 h hv_6=>?_))
   obtain ⟨s4,s5,s6⟩:=ss_5
   replace h:Jxa x2 s4 s5 s6=some v_6:=h
   try dsimp only
   unfold Jxa at h
   refine T.seq (T.region (go 1 2 (RS.nil (T.seq (T.ci h rfl (fun hb_7 h=>?_) (fun hb_7 h=>?_))))))
   ·refine T.skip (T.seq (T.block ?_))
    obtain ⟨x7,hx7,h⟩:=bind_some h
    obtain ⟨x8,hx8,h⟩:=bind_some h
    refine T.region (go 2 2 (sO (o_callFb (ac:=[.ptr 0 0]) (as0:=[.ptr 0 0]) (aw0:=[.box [.str s5]]) (aw1:=[.box [.str x7.2]]) (aw2:=[.box [.str x7.2],aR 115 3 Qaa s6]) (v:=.agg (Qaa x7.1)) (v':=.agg (Qaa x7.1)) (n0:=2) (n1:=1) [0] rfl rfl rfl rfl (by decide) (Jfa (cs:=[.str s5]) (ds:=[.str s5]) rfl ⟨Zua rfl,trivial⟩ (Qoa)) ⟨Qma rfl,trivial⟩ (save_reader_item_xd243_c s5 x7 hx7) rfl (rm_agg (cs:=(Qaa x7.1)) (ds:=(Qaa x7.1)) ⟨Qia (Qua _ _),Qia (Qua _ _),Qia (Qua _ _),trivial⟩) ⟨.inl ⟨0,_,by decide,rfl,Jba (cs:=[.str x7.2]) (ds:=[.str x7.2]) ⟨Qia (Jha _),trivial⟩⟩,.inr ⟨rfl,rfl⟩,trivial⟩ (sO (Qra (rows:=List.map Qaa [x7.1]) (vs:=[.agg (Qaa x7.1)]) Ty.s52 Ty.z115 rfl rfl rfl rfl rfl rfl (sO (Zma (en:=Qaa) (xs:=s6) (ys:=([x7.1]:List Item)) Ty.s52 (fun _=>rfl) rfl rfl rfl hx8 rfl rfl (go 1 4 (RS.nil (T.region (go 2 4 (RS.nil ?_))))))))))))
    exact ⟨(IntKind.i64.wrap (s4+1),x7.2,x8),(Option.some.inj h).symm,wk [] [0,3] 4 rfl⟩
   refine T.exit ?_
   obtain ⟨w_8,h,hw_8⟩:=Qpa h
   replace h:=h.trans (congrArg some (hv_6 _ hw_8))
   refine T.seq (T.region (go 2 2 (RS.nil ?_)))
   cases h
   exact tO [] [0,1] 2
  refine T.region (go 3 1 ?_)
  rcases Qca (decide (x2.1<0)) with hb_1 | hb_1
  ·refine sN hb_1 (sN hb_1 (sN hb_1 (sN hb_1 (sN hb_1 (sN hb_1 (sN hb_1 (sQ (Qha (v:=.bool true) rfl hb_1 rfl (RS.nil ?_)))))))))
   exact T.sub (hK () trivial) ⟨rfl,rfl,(congrArg AV.bool (by simp only [hb_1,bz,if_true,if_false,Bool.false_eq_true])).symm,trivial⟩
  refine yg 1 hb_1 (yg 1 hb_1 (yg 1 hb_1 (yg 1 hb_1 (yg 1 hb_1 (yg 1 hb_1 (yg 1 hb_1 (sQ (Qda (v:=.bool (decide (x2.1 > ((x2.2).length:Int)))) rfl hb_1 rfl (RS.nil ?_)))))))))
  exact T.sub (hK () trivial) ⟨rfl,rfl,(congrArg AV.bool (by simp only [hb_1,bz,if_true,if_false,Bool.false_eq_true])).symm,trivial⟩
theorem Jdb (p0:List UInt8) (r:(List Item) × (List UInt8)) (h:Zja p0=some r):FnX Tryz.prog 45 [.ptr 0 0] [.box [.str p0]] (.ref 1) [.box [.str r.2],aR 115 3 Qaa r.1]:=by
  unfold Zja at h
  refine fnT 1 Tryz.func45 Tryz.ntmps45 ?_
  refine T.seq (T.region (go 1 1 (RS.nil (T.seq ?_))))
  obtain ⟨x2,hx2,h⟩:=bind_some h
  refine T.region (go 2 1 (sQ (v_bnd (cs:=[.ptr 0 0]) rfl (sO (Q5a (ac:=[.ptr 0 0,.bnd 77 [.ptr 0 0]]) (as0:=[.ptr 0 0,.bnd 77 [.ptr 0 0]]) (aw0:=[.box [.str p0]]) (aw1:=[.box [.str x2.2],aR 115 3 Qaa x2.1]) (aw2:=[.box [.str x2.2],aR 115 3 Qaa x2.1]) (v:=.ref 1) (v':=.ref 1) (n0:=1) (n1:=2) [0] rfl rfl rfl rfl (by decide) (Jfa (cs:=[.str p0]) (ds:=[.str p0]) rfl ⟨Zua rfl,trivial⟩ (Qoa)) ⟨Qma rfl,rn_bnd ⟨Qma rfl,trivial⟩,trivial⟩ (save_list_api_Item_xccb1_c p0 x2 hx2) rfl (J1a (by decide)) ⟨.inl ⟨0,_,by decide,rfl,Jba (cs:=[.str x2.2]) (ds:=[.str x2.2]) ⟨Qia (Jha _),trivial⟩⟩,.inl ⟨1,_,by decide,rfl,Jia Jca⟩,trivial⟩ (go 1 2 (RS.nil ?_)))))))
  cases h
  exact tO [] [0,1] 2
theorem save_list_Item_xfbdb_c (p0:List UInt8) (r:(List (List Item)) × (List UInt8)) (h:V0a p0=some r):FnX Tryz.prog 44 [.ptr 0 0,.bnd 45 [.ptr 0 0]] [.box [.str p0]] (.ref 1) [.box [.str r.2],aR 52 1 (encL Qaa) r.1]:=by
  unfold V0a at h
  refine fnT 1 Tryz.func44 Tryz.ntmps44 ?_
  refine T.seq (T.region (go 1 1 (RS.nil (T.seq ?_))))
  obtain ⟨x2,hx2,h⟩:=bind_some h
  refine T.region (go 1 1 (sO (Q5a (ac:=[.ptr 0 0]) (as0:=[.ptr 0 0]) (aw0:=[.box [.str p0]]) (aw1:=[.box [.str x2.2]]) (aw2:=[.box [.str x2.2]]) (v:=iI x2.1) (v':=iI x2.1) (n0:=1) (n1:=1) [0] rfl rfl rfl rfl (by decide) (Jfa (cs:=[.str p0]) (ds:=[.str p0]) rfl ⟨Zua rfl,trivial⟩ (Qoa)) ⟨Qma rfl,trivial⟩ (Qja p0 x2 hx2) rfl (Qia (Qua _ _)) ⟨.inl ⟨0,_,by decide,rfl,Jba (cs:=[.str x2.2]) (ds:=[.str x2.2]) ⟨Qia (Jha _),trivial⟩⟩,trivial⟩ (go 1 1 (RS.nil (T.seq (T.join (Z:=Unit) (fun _=>mkA 32 [(1,.bnd 45 [.ptr 0 0]),(5,iI x2.1),(19,.bool ((decide (x2.1<0)) || decide (x2.1 > ((x2.2).length:Int))))]) (fun _=>[.box [.str x2.2]]) (fun _=>True) (fun _ _=>?_) (fun hK=>?_))))))))
  ·refine T.ci h rfl (fun hb_2 h=>?_) (fun hb_2 h=>?_)
   ·cases h
   refine T.skip (T.seq (T.region (go 1 1 (RS.nil (T.seq (T.seq (T.region (go 2 1 (RS.nil ?_)))))))))
   refine T.block (T.iter (fun ss_5:Int × (List UInt8) × (List (List Item))=>mkA 32 [(1,.bnd 45 [.ptr 0 0]),(6,.ref 1),(22,iI x2.1),(23,iI ss_5.1)]) (fun ss_5=>[.box [.str ss_5.2.1],aR 52 1 (encL Qaa) ss_5.2.2]) h (wk [(6,52,1)] [0,1] 1 rfl) (fun ss_5 v_6 h hv_6=>?_))
   obtain ⟨s4,s5,s6⟩:=ss_5
   replace h:Zga x2 s4 s5 s6=some v_6:=h
   try dsimp only
   unfold Zga at h
   refine T.seq (T.region (go 1 2 (RS.nil (T.seq (T.ci h rfl (fun hb_7 h=>?_) (fun hb_7 h=>?_))))))
   ·refine T.skip (T.seq (T.block ?_))
    obtain ⟨x7,hx7,h⟩:=bind_some h
    obtain ⟨x8,hx8,h⟩:=bind_some h
    refine T.region (go 2 2 (sO (o_callFb (ac:=[.ptr 0 0]) (as0:=[.ptr 0 0]) (aw0:=[.box [.str s5]]) (aw1:=[.box [.str x7.2],aR 115 3 Qaa x7.1]) (aw2:=[.box [.str x7.2],aR 52 1 (encL Qaa) s6,aR 115 3 Qaa x7.1]) (v:=.ref 1) (v':=.ref 2) (n0:=2) (n1:=2) [0] rfl rfl rfl rfl (by decide) (Jfa (cs:=[.str s5]) (ds:=[.str s5]) rfl ⟨Zua rfl,trivial⟩ (Qoa)) ⟨Qma rfl,trivial⟩ (Jdb s5 x7 hx7) rfl (J1a (by decide)) ⟨.inl ⟨0,_,by decide,rfl,Jba (cs:=[.str x7.2]) (ds:=[.str x7.2]) ⟨Qia (Jha _),trivial⟩⟩,.inr ⟨rfl,rfl⟩,.inl ⟨1,_,by decide,rfl,Jia Jca⟩,trivial⟩ (RS.fC 2 (sO (Qra (rows:=List.map (encL Qaa) [x7.1]) (vs:=[sL Qaa x7.1]) Ty.s48 Ty.z52 rfl rfl rfl rfl rfl rfl (sO (Zma (en:=(encL Qaa)) (xs:=s6) (ys:=([x7.1]:List (List Item))) Ty.s48 (fun _=>rfl) rfl rfl rfl hx8 rfl rfl (go 1 5 (RS.nil (T.region (go 2 5 ?_))))))))))))
    refine RS.nil ?_
    exact ⟨(IntKind.i64.wrap (s4+1),x7.2,x8),(Option.some.inj h).symm,wk [] [0,4] 5 rfl⟩
   refine T.exit ?_
   obtain ⟨w_8,h,hw_8⟩:=Qpa h
   replace h:=h.trans (congrArg some (hv_6 _ hw_8))
   refine T.seq (T.region (go 2 2 (RS.nil ?_)))
   cases h
   exact tO [] [0,1] 2
  refine T.region (go 3 1 ?_)
  rcases Qca (decide (x2.1<0)) with hb_1 | hb_1
  ·refine sN hb_1 (sN hb_1 (sN hb_1 (sN hb_1 (sN hb_1 (sN hb_1 (sN hb_1 (sQ (Qha (v:=.bool true) rfl hb_1 rfl (RS.nil ?_)))))))))
   exact T.sub (hK () trivial) ⟨rfl,rfl,(congrArg AV.bool (by simp only [hb_1,bz,if_true,if_false,Bool.false_eq_true])).symm,trivial⟩
  refine yg 1 hb_1 (yg 1 hb_1 (yg 1 hb_1 (yg 1 hb_1 (yg 1 hb_1 (yg 1 hb_1 (yg 1 hb_1 (sQ (Qda (v:=.bool (decide (x2.1 > ((x2.2).length:Int)))) rfl hb_1 rfl (RS.nil ?_)))))))))
  exact T.sub (hK () trivial) ⟨rfl,rfl,(congrArg AV.bool (by simp only [hb_1,bz,if_true,if_false,Bool.false_eq_true])).symm,trivial⟩
theorem save_Of_2_1_x700a_c (p0:List UInt8) (r:Keyed × (List UInt8)) (h:Ywa p0=some r):FnX Tryz.prog 49 [.ptr 0 0] [.box [.ptr 1 0],.box [.str p0]] (.agg (Qla r.1)) [.box [.ptr 1 0],.box [.str r.2]]:=by
  unfold Ywa at h
  refine fnT 2 Tryz.func49 Tryz.ntmps49 ?_
  refine T.seq (T.region (go 1 2 (RS.nil (T.seq ?_))))
  obtain ⟨x3,hx3,h⟩:=bind_some h
  obtain ⟨x4,hx4,h⟩:=bind_some h
  refine T.drawn mixed (k:=6) rfl ?_
  apply RA.jn 3 #[true,true,true,false,false,false];intro hS1
  ·refine rL [0,1,3,4,5] 0 rfl (ra2 1 2 ?_ ?_)
   ·refine oO rfl (Q5a (ac:=[.ptr 1 0]) (as0:=[.ptr 0 0]) (aw0:=[.box [.str p0]]) (aw1:=[.box [.str x3.2]]) (aw2:=[.box [.ptr 1 0],.box [.str x3.2],.box [iI 0,iI 0]]) (v:=iI x3.1) (v':=iI x3.1) (n0:=3) (n1:=1) [1] rfl rfl rfl rfl (by decide) (Jfa (cs:=[.str p0]) (ds:=[.str p0]) rfl ⟨Zua rfl,trivial⟩ (Qoa)) ⟨Qma rfl,trivial⟩ (Qja p0 x3 hx3) rfl (Qia (Qua _ _)) ⟨.inr ⟨rfl,rfl⟩,.inl ⟨0,_,by decide,rfl,Jba (cs:=[.str x3.2]) (ds:=[.str x3.2]) ⟨Qia (Jha _),trivial⟩⟩,.inr ⟨rfl,rfl⟩,trivial⟩ (ra1 2 (og 3 ⟨rfl,?_⟩)))
    exact raE hS1
   ·refine og 3 ⟨rfl,(ra1 1 (oO rfl (Q5a (ac:=[.ptr 1 0]) (as0:=[.ptr 0 0]) (aw0:=[.box [.str p0]]) (aw1:=[.box [.str x3.2]]) (aw2:=[.box [.ptr 1 0],.box [.str x3.2],.box [iI 0,iI 0]]) (v:=iI x3.1) (v':=iI x3.1) (n0:=3) (n1:=1) [1] rfl rfl rfl rfl (by decide) (Jfa (cs:=[.str p0]) (ds:=[.str p0]) rfl ⟨Zua rfl,trivial⟩ (Qoa)) ⟨Qma rfl,trivial⟩ (Qja p0 x3 hx3) rfl (Qia (Qua _ _)) ⟨.inr ⟨rfl,rfl⟩,.inl ⟨0,_,by decide,rfl,Jba (cs:=[.str x3.2]) (ds:=[.str x3.2]) ⟨Qia (Jha _),trivial⟩⟩,.inr ⟨rfl,rfl⟩,trivial⟩ ?_)))⟩
    exact raT hS1
  refine ra1 3 (oO rfl (Q5a (ac:=[.ptr 1 0]) (as0:=[.ptr 0 0]) (aw0:=[.box [.str x3.2]]) (aw1:=[.box [.str x4.2]]) (aw2:=[.box [.ptr 1 0],.box [.str x4.2],.box [iI 0,iI 0]]) (v:=iI x4.1) (v':=iI x4.1) (n0:=3) (n1:=1) [1] rfl rfl rfl rfl (by decide) (Jfa (cs:=[.str x3.2]) (ds:=[.str x3.2]) rfl ⟨Zua rfl,trivial⟩ (Qoa)) ⟨Qma rfl,trivial⟩ (Qja x3.2 x4 hx4) rfl (Qia (Qua _ _)) ⟨.inr ⟨rfl,rfl⟩,.inl ⟨0,_,by decide,rfl,Jba (cs:=[.str x4.2]) (ds:=[.str x4.2]) ⟨Qia (Jha _),trivial⟩⟩,.inr ⟨rfl,rfl⟩,trivial⟩ (rq [4] 1 (ra1 5 (og 3 ⟨rfl,(RA.done (by decide +kernel) ?_)⟩)))))
  cases h
  exact tN [0,1]
theorem save_list_api_Keyed_x5e48_c (p0:List UInt8) (r:(List Keyed) × (List UInt8)) (h:Zsa p0=some r):FnX Tryz.prog 48 [.ptr 0 0,.func 49 [.ptr 1 0]] [.box [.str p0],.box [.ptr 0 0]] (.ref 2) [.box [.str r.2],.box [.ptr 0 0],aR 92 2 Qla r.1]:=by
  unfold Zsa at h
  refine fnT 2 Tryz.func48 Tryz.ntmps48 ?_
  refine T.seq (T.region (go 1 2 (RS.nil (T.seq ?_))))
  obtain ⟨x2,hx2,h⟩:=bind_some h
  refine T.region (go 1 2 (sO (Q5a (ac:=[.ptr 0 0]) (as0:=[.ptr 0 0]) (aw0:=[.box [.str p0]]) (aw1:=[.box [.str x2.2]]) (aw2:=[.box [.str x2.2],.box [.ptr 0 0]]) (v:=iI x2.1) (v':=iI x2.1) (n0:=2) (n1:=1) [0] rfl rfl rfl rfl (by decide) (Jfa (cs:=[.str p0]) (ds:=[.str p0]) rfl ⟨Zua rfl,trivial⟩ (Qoa)) ⟨Qma rfl,trivial⟩ (Qja p0 x2 hx2) rfl (Qia (Qua _ _)) ⟨.inl ⟨0,_,by decide,rfl,Jba (cs:=[.str x2.2]) (ds:=[.str x2.2]) ⟨Qia (Jha _),trivial⟩⟩,.inr ⟨rfl,rfl⟩,trivial⟩ (go 1 2 (RS.nil (T.seq (T.join (Z:=Unit) (fun _=>mkA 32 [(1,.func 49 [.ptr 1 0]),(5,iI x2.1),(19,.bool ((decide (x2.1<0)) || decide (x2.1 > ((x2.2).length:Int))))]) (fun _=>[.box [.str x2.2],.box [.ptr 0 0]]) (fun _=>True) (fun _ _=>?_) (fun hK=>?_))))))))
  ·refine T.ci h rfl (fun hb_2 h=>?_) (fun hb_2 h=>?_)
   ·cases h
   refine T.skip (T.seq (T.region (go 1 2 (RS.nil (T.seq (T.seq (T.region (go 2 2 (RS.nil ?_)))))))))
   refine T.block (T.iter (fun ss_5:Int × (List UInt8) × (List Keyed)=>mkA 32 [(1,.func 49 [.ptr 1 0]),(6,.ref 2),(22,iI x2.1),(23,iI ss_5.1)]) (fun ss_5=>[.box [.str ss_5.2.1],.box [.ptr 0 0],aR 92 2 Qla ss_5.2.2]) h (wk [(6,92,2)] [0,1,2] 2 rfl) (fun ss_5 v_6 h hv_6=>?_))
   obtain ⟨s4,s5,s6⟩:=ss_5
   replace h:Jwa x2 s4 s5 s6=some v_6:=h
   try dsimp only
   unfold Jwa at h
   refine T.seq (T.region (go 1 3 (RS.nil (T.seq (T.ci h rfl (fun hb_7 h=>?_) (fun hb_7 h=>?_))))))
   ·refine T.skip (T.seq (T.block ?_))
    obtain ⟨x7,hx7,h⟩:=bind_some h
    obtain ⟨x8,hx8,h⟩:=bind_some h
    refine T.region (go 2 3 (sO (Q5a (ac:=[.ptr 1 0]) (as0:=[.ptr 0 0]) (aw0:=[.box [.ptr 1 0],.box [.str s5]]) (aw1:=[.box [.ptr 1 0],.box [.str x7.2]]) (aw2:=[.box [.str x7.2],.box [.ptr 0 0],aR 92 2 Qla s6]) (v:=.agg (Qla x7.1)) (v':=.agg (Qla x7.1)) (n0:=3) (n1:=2) [1,0] rfl rfl rfl rfl (by decide) (Jfa (cs:=[.ptr 1 0]) (ds:=[.ptr 0 0]) rfl ⟨Qma rfl,trivial⟩ (Jfa (cs:=[.str s5]) (ds:=[.str s5]) rfl ⟨Zua rfl,trivial⟩ (Qoa))) ⟨Qma rfl,trivial⟩ (save_Of_2_1_x700a_c s5 x7 hx7) rfl (rm_agg (cs:=(Qla x7.1)) (ds:=(Qla x7.1)) ⟨Qia (Qua _ _),Qia (Qua _ _),trivial⟩) ⟨.inl ⟨1,_,by decide,rfl,Jba (cs:=[.str x7.2]) (ds:=[.str x7.2]) ⟨Qia (Jha _),trivial⟩⟩,.inl ⟨0,_,by decide,rfl,Jba (cs:=[.ptr 0 0]) (ds:=[.ptr 1 0]) ⟨rm_ptr (by decide),trivial⟩⟩,.inr ⟨rfl,rfl⟩,trivial⟩ (sO (Qra (rows:=List.map Qla [x7.1]) (vs:=[.agg (Qla x7.1)]) Ty.s88 Ty.z92 rfl rfl rfl rfl rfl rfl (sO (Zma (en:=Qla) (xs:=s6) (ys:=([x7.1]:List Keyed)) Ty.s88 (fun _=>rfl) rfl rfl rfl hx8 rfl rfl (go 1 5 (RS.nil (T.region (go 2 5 (RS.nil ?_))))))))))))
    exact ⟨(IntKind.i64.wrap (s4+1),x7.2,x8),(Option.some.inj h).symm,wk [] [0,1,4] 5 rfl⟩
   refine T.exit ?_
   obtain ⟨w_8,h,hw_8⟩:=Qpa h
   replace h:=h.trans (congrArg some (hv_6 _ hw_8))
   refine T.seq (T.region (go 2 3 (RS.nil ?_)))
   cases h
   exact tO [] [0,1,2] 3
  refine T.region (go 3 2 ?_)
  rcases Qca (decide (x2.1<0)) with hb_1 | hb_1
  ·refine sN hb_1 (sN hb_1 (sN hb_1 (sN hb_1 (sN hb_1 (sN hb_1 (sN hb_1 (sQ (Qha (v:=.bool true) rfl hb_1 rfl (RS.nil ?_)))))))))
   exact T.sub (hK () trivial) ⟨rfl,rfl,(congrArg AV.bool (by simp only [hb_1,bz,if_true,if_false,Bool.false_eq_true])).symm,trivial⟩
  refine yg 2 hb_1 (yg 2 hb_1 (yg 2 hb_1 (yg 2 hb_1 (yg 2 hb_1 (yg 2 hb_1 (yg 2 hb_1 (sQ (Qda (v:=.bool (decide (x2.1 > ((x2.2).length:Int)))) rfl hb_1 rfl (RS.nil ?_)))))))))
  exact T.sub (hK () trivial) ⟨rfl,rfl,(congrArg AV.bool (by simp only [hb_1,bz,if_true,if_false,Bool.false_eq_true])).symm,trivial⟩
theorem save_Of_2_x700a_c (p0:List UInt8) (r:Memory × (List UInt8)) (h:Qhb p0=some r):FnX Tryz.prog 47 [.ptr 0 0] [.box [.ptr 1 0],.box [.str p0]] (.agg (Qba r.1)) [.box [.ptr 1 0],.box [.str r.2]]:=by
  unfold Qhb at h
  refine fnT 2 Tryz.func47 Tryz.ntmps47 ?_
  refine T.seq (T.region (go 1 2 (RS.nil (T.seq ?_))))
  obtain ⟨x4,hx4,h⟩:=bind_some h
  obtain ⟨x5,hx5,h⟩:=bind_some h
  obtain ⟨x6,hx6,h⟩:=bind_some h
  refine T.drawn mixed (k:=9) rfl ?_
  apply RA.jn 3 #[true,true,true,true,true,true,false,false,false];intro hS1
  apply RA.jn 4 #[true,true,true,false,true,true,false,false,false];intro hS2
  apply RA.jn 5 #[true,true,true,false,false,true,false,false,false];intro hS3
  apply RA.jn 5 #[true,false,true,false,true,true,false,false,false];intro hS4
  ·refine rq [5] 8 (rL [0,1,3,6,7,8] 0 rfl (ra3 1 2 4 ?_ ?_ ?_))
   ·refine oO rfl (Q5a (ac:=[.ptr 1 0]) (as0:=[.ptr 0 0]) (aw0:=[.box [.str p0]]) (aw1:=[.box [.str x4.2]]) (aw2:=[.box [.ptr 1 0],.box [.str x4.2],.box [iI 0,.nils,iI 0]]) (v:=iI x4.1) (v':=iI x4.1) (n0:=3) (n1:=1) [1] rfl rfl rfl rfl (by decide) (Jfa (cs:=[.str p0]) (ds:=[.str p0]) rfl ⟨Zua rfl,trivial⟩ (Qoa)) ⟨Qma rfl,trivial⟩ (Qja p0 x4 hx4) rfl (Qia (Qua _ _)) ⟨.inr ⟨rfl,rfl⟩,.inl ⟨0,_,by decide,rfl,Jba (cs:=[.str x4.2]) (ds:=[.str x4.2]) ⟨Qia (Jha _),trivial⟩⟩,.inr ⟨rfl,rfl⟩,trivial⟩ (rL [2,3,6,7,8] 2 rfl ?_))
    exact raE hS3
   ·refine og 3 ⟨rfl,(ra2 1 4 ?_ ?_)⟩
    ·refine oO rfl (Q5a (ac:=[.ptr 1 0]) (as0:=[.ptr 0 0]) (aw0:=[.box [.str p0]]) (aw1:=[.box [.str x4.2]]) (aw2:=[.box [.ptr 1 0],.box [.str x4.2],.box [iI 0,.nils,iI 0]]) (v:=iI x4.1) (v':=iI x4.1) (n0:=3) (n1:=1) [1] rfl rfl rfl rfl (by decide) (Jfa (cs:=[.str p0]) (ds:=[.str p0]) rfl ⟨Zua rfl,trivial⟩ (Qoa)) ⟨Qma rfl,trivial⟩ (Qja p0 x4 hx4) rfl (Qia (Qua _ _)) ⟨.inr ⟨rfl,rfl⟩,.inl ⟨0,_,by decide,rfl,Jba (cs:=[.str x4.2]) (ds:=[.str x4.2]) ⟨Qia (Jha _),trivial⟩⟩,.inr ⟨rfl,rfl⟩,trivial⟩ ?_)
     exact raT hS3
    ·refine og 3 ⟨rfl,?_⟩
     exact raE hS4
   ·refine og 3 ⟨rfl,(ra2 1 2 ?_ ?_)⟩
    ·refine oO rfl (Q5a (ac:=[.ptr 1 0]) (as0:=[.ptr 0 0]) (aw0:=[.box [.str p0]]) (aw1:=[.box [.str x4.2]]) (aw2:=[.box [.ptr 1 0],.box [.str x4.2],.box [iI 0,.nils,iI 0]]) (v:=iI x4.1) (v':=iI x4.1) (n0:=3) (n1:=1) [1] rfl rfl rfl rfl (by decide) (Jfa (cs:=[.str p0]) (ds:=[.str p0]) rfl ⟨Zua rfl,trivial⟩ (Qoa)) ⟨Qma rfl,trivial⟩ (Qja p0 x4 hx4) rfl (Qia (Qua _ _)) ⟨.inr ⟨rfl,rfl⟩,.inl ⟨0,_,by decide,rfl,Jba (cs:=[.str x4.2]) (ds:=[.str x4.2]) ⟨Qia (Jha _),trivial⟩⟩,.inr ⟨rfl,rfl⟩,trivial⟩ (ra1 2 (og 3 ⟨rfl,?_⟩)))
     exact raE hS2
    ·refine og 3 ⟨rfl,?_⟩
     exact raT hS4
  ·refine ra1 1 (oO rfl (Q5a (ac:=[.ptr 1 0]) (as0:=[.ptr 0 0]) (aw0:=[.box [.str p0]]) (aw1:=[.box [.str x4.2]]) (aw2:=[.box [.ptr 1 0],.box [.str x4.2],.box [iI 0,.nils,iI 0]]) (v:=iI x4.1) (v':=iI x4.1) (n0:=3) (n1:=1) [1] rfl rfl rfl rfl (by decide) (Jfa (cs:=[.str p0]) (ds:=[.str p0]) rfl ⟨Zua rfl,trivial⟩ (Qoa)) ⟨Qma rfl,trivial⟩ (Qja p0 x4 hx4) rfl (Qia (Qua _ _)) ⟨.inr ⟨rfl,rfl⟩,.inl ⟨0,_,by decide,rfl,Jba (cs:=[.str x4.2]) (ds:=[.str x4.2]) ⟨Qia (Jha _),trivial⟩⟩,.inr ⟨rfl,rfl⟩,trivial⟩ ?_))
   exact raT hS2
  ·refine ra2 3 4 ?_ ?_
   ·refine oO rfl (Q5a (ac:=[.ptr 1 0]) (as0:=[.ptr 0 0]) (aw0:=[.box [.str x4.2]]) (aw1:=[.box [.str x5.2]]) (aw2:=[.box [.ptr 1 0],.box [.str x5.2],.box [iI 0,.nils,iI 0]]) (v:=iI x5.1) (v':=iI x5.1) (n0:=3) (n1:=1) [1] rfl rfl rfl rfl (by decide) (Jfa (cs:=[.str x4.2]) (ds:=[.str x4.2]) rfl ⟨Zua rfl,trivial⟩ (Qoa)) ⟨Qma rfl,trivial⟩ (Qja x4.2 x5 hx5) rfl (Qia (Qua _ _)) ⟨.inr ⟨rfl,rfl⟩,.inl ⟨0,_,by decide,rfl,Jba (cs:=[.str x5.2]) (ds:=[.str x5.2]) ⟨Qia (Jha _),trivial⟩⟩,.inr ⟨rfl,rfl⟩,trivial⟩ (ra1 4 (og 3 ⟨rfl,?_⟩)))
    exact raE hS1
   ·refine og 3 ⟨rfl,?_⟩
    exact raT hS2
  ·refine ra1 3 (oO rfl (Q5a (ac:=[.ptr 1 0]) (as0:=[.ptr 0 0]) (aw0:=[.box [.str x4.2]]) (aw1:=[.box [.str x5.2]]) (aw2:=[.box [.ptr 1 0],.box [.str x5.2],.box [iI 0,.nils,iI 0]]) (v:=iI x5.1) (v':=iI x5.1) (n0:=3) (n1:=1) [1] rfl rfl rfl rfl (by decide) (Jfa (cs:=[.str x4.2]) (ds:=[.str x4.2]) rfl ⟨Zua rfl,trivial⟩ (Qoa)) ⟨Qma rfl,trivial⟩ (Qja x4.2 x5 hx5) rfl (Qia (Qua _ _)) ⟨.inr ⟨rfl,rfl⟩,.inl ⟨0,_,by decide,rfl,Jba (cs:=[.str x5.2]) (ds:=[.str x5.2]) ⟨Qia (Jha _),trivial⟩⟩,.inr ⟨rfl,rfl⟩,trivial⟩ ?_))
   exact raT hS1
  refine ra1 6 (oO rfl (Q5a (ac:=[.ptr 1 0,.func 49 [.ptr 0 0]]) (as0:=[.ptr 0 0,.func 49 [.ptr 1 0]]) (aw0:=[.box [.str x5.2],.box [.ptr 0 0]]) (aw1:=[.box [.str x6.2],.box [.ptr 0 0],aR 92 2 Qla x6.1]) (aw2:=[.box [.ptr 1 0],.box [.str x6.2],.box [iI 0,.nils,iI 0],aR 92 2 Qla x6.1]) (v:=.ref 2) (v':=.ref 3) (n0:=3) (n1:=3) [1,0] rfl rfl rfl rfl (by decide) (Jfa (cs:=[.str x5.2]) (ds:=[.str x5.2]) rfl ⟨Zua rfl,trivial⟩ (Jfa (cs:=[.ptr 0 0]) (ds:=[.ptr 1 0]) rfl ⟨Qma rfl,trivial⟩ (Qoa))) ⟨Qma rfl,rn_func ⟨Qma rfl,trivial⟩,trivial⟩ (save_list_api_Keyed_x5e48_c x5.2 x6 hx6) rfl (J1a (by decide)) ⟨.inl ⟨1,_,by decide,rfl,Jba (cs:=[.ptr 1 0]) (ds:=[.ptr 0 0]) ⟨rm_ptr (by decide),trivial⟩⟩,.inl ⟨0,_,by decide,rfl,Jba (cs:=[.str x6.2]) (ds:=[.str x6.2]) ⟨Qia (Jha _),trivial⟩⟩,.inr ⟨rfl,rfl⟩,.inl ⟨2,_,by decide,rfl,Jia Yua⟩,trivial⟩ (rq [7] 1 (ra1 8 (og 4 ⟨rfl,(RA.done (by decide +kernel) ?_)⟩)))))
  cases h
  exact tN [0,1]
theorem save_list_api_Memory_xfa57_c (p0:List UInt8) (r:(List Memory) × (List UInt8)) (h:Zna p0=some r):FnX Tryz.prog 46 [.ptr 0 0,.func 47 [.ptr 1 0]] [.box [.str p0],.box [.ptr 0 0]] (.ref 2) [.box [.str r.2],.box [.ptr 0 0],aR 90 3 Qba r.1]:=by
  unfold Zna at h
  refine fnT 2 Tryz.func46 Tryz.ntmps46 ?_
  refine T.seq (T.region (go 1 2 (RS.nil (T.seq ?_))))
  obtain ⟨x2,hx2,h⟩:=bind_some h
  refine T.region (go 1 2 (sO (Q5a (ac:=[.ptr 0 0]) (as0:=[.ptr 0 0]) (aw0:=[.box [.str p0]]) (aw1:=[.box [.str x2.2]]) (aw2:=[.box [.str x2.2],.box [.ptr 0 0]]) (v:=iI x2.1) (v':=iI x2.1) (n0:=2) (n1:=1) [0] rfl rfl rfl rfl (by decide) (Jfa (cs:=[.str p0]) (ds:=[.str p0]) rfl ⟨Zua rfl,trivial⟩ (Qoa)) ⟨Qma rfl,trivial⟩ (Qja p0 x2 hx2) rfl (Qia (Qua _ _)) ⟨.inl ⟨0,_,by decide,rfl,Jba (cs:=[.str x2.2]) (ds:=[.str x2.2]) ⟨Qia (Jha _),trivial⟩⟩,.inr ⟨rfl,rfl⟩,trivial⟩ (go 1 2 (RS.nil (T.seq (T.join (Z:=Unit) (fun _=>mkA 32 [(1,.func 47 [.ptr 1 0]),(5,iI x2.1),(19,.bool ((decide (x2.1<0)) || decide (x2.1 > ((x2.2).length:Int))))]) (fun _=>[.box [.str x2.2],.box [.ptr 0 0]]) (fun _=>True) (fun _ _=>?_) (fun hK=>?_))))))))
  ·refine T.ci h rfl (fun hb_2 h=>?_) (fun hb_2 h=>?_)
   ·cases h
   refine T.skip (T.seq (T.region (go 1 2 (RS.nil (T.seq (T.seq (T.region (go 2 2 (RS.nil ?_)))))))))
   refine T.block (T.iter (fun ss_5:Int × (List UInt8) × (List Memory)=>mkA 32 [(1,.func 47 [.ptr 1 0]),(6,.ref 2),(22,iI x2.1),(23,iI ss_5.1)]) (fun ss_5=>[.box [.str ss_5.2.1],.box [.ptr 0 0],aR 90 3 Qba ss_5.2.2]) h (wk [(6,90,3)] [0,1,2] 2 rfl) (fun ss_5 v_6 h hv_6=>?_))
   obtain ⟨s4,s5,s6⟩:=ss_5
   replace h:Jsa x2 s4 s5 s6=some v_6:=h
   try dsimp only
   unfold Jsa at h
   refine T.seq (T.region (go 1 3 (RS.nil (T.seq (T.ci h rfl (fun hb_7 h=>?_) (fun hb_7 h=>?_))))))
   ·refine T.skip (T.seq (T.block ?_))
    obtain ⟨x7,hx7,h⟩:=bind_some h
    obtain ⟨x8,hx8,h⟩:=bind_some h
    refine T.region (go 2 3 (sO (Q5a (ac:=[.ptr 1 0]) (as0:=[.ptr 0 0]) (aw0:=[.box [.ptr 1 0],.box [.str s5]]) (aw1:=[.box [.ptr 1 0],.box [.str x7.2]]) (aw2:=[.box [.str x7.2],.box [.ptr 0 0],aR 90 3 Qba s6]) (v:=.agg (Qba x7.1)) (v':=.agg (Qba x7.1)) (n0:=3) (n1:=2) [1,0] rfl rfl rfl rfl (by decide) (Jfa (cs:=[.ptr 1 0]) (ds:=[.ptr 0 0]) rfl ⟨Qma rfl,trivial⟩ (Jfa (cs:=[.str s5]) (ds:=[.str s5]) rfl ⟨Zua rfl,trivial⟩ (Qoa))) ⟨Qma rfl,trivial⟩ (save_Of_2_x700a_c s5 x7 hx7) rfl (rm_agg (cs:=(Qba x7.1)) (ds:=(Qba x7.1)) ⟨Qia (Qua _ _),Qia (Qwa Yua _),Qia (Qua _ _),trivial⟩) ⟨.inl ⟨1,_,by decide,rfl,Jba (cs:=[.str x7.2]) (ds:=[.str x7.2]) ⟨Qia (Jha _),trivial⟩⟩,.inl ⟨0,_,by decide,rfl,Jba (cs:=[.ptr 0 0]) (ds:=[.ptr 1 0]) ⟨rm_ptr (by decide),trivial⟩⟩,.inr ⟨rfl,rfl⟩,trivial⟩ (sO (Qra (rows:=List.map Qba [x7.1]) (vs:=[.agg (Qba x7.1)]) Ty.s50 Ty.z90 rfl rfl rfl rfl rfl rfl (sO (Zma (en:=Qba) (xs:=s6) (ys:=([x7.1]:List Memory)) Ty.s50 (fun _=>rfl) rfl rfl rfl hx8 rfl rfl (go 1 5 (RS.nil (T.region (go 2 5 (RS.nil ?_))))))))))))
    exact ⟨(IntKind.i64.wrap (s4+1),x7.2,x8),(Option.some.inj h).symm,wk [] [0,1,4] 5 rfl⟩
   refine T.exit ?_
   obtain ⟨w_8,h,hw_8⟩:=Qpa h
   replace h:=h.trans (congrArg some (hv_6 _ hw_8))
   refine T.seq (T.region (go 2 3 (RS.nil ?_)))
   cases h
   exact tO [] [0,1,2] 3
  refine T.region (go 3 2 ?_)
  rcases Qca (decide (x2.1<0)) with hb_1 | hb_1
  ·refine sN hb_1 (sN hb_1 (sN hb_1 (sN hb_1 (sN hb_1 (sN hb_1 (sN hb_1 (sQ (Qha (v:=.bool true) rfl hb_1 rfl (RS.nil ?_)))))))))
   exact T.sub (hK () trivial) ⟨rfl,rfl,(congrArg AV.bool (by simp only [hb_1,bz,if_true,if_false,Bool.false_eq_true])).symm,trivial⟩
  refine yg 2 hb_1 (yg 2 hb_1 (yg 2 hb_1 (yg 2 hb_1 (yg 2 hb_1 (yg 2 hb_1 (yg 2 hb_1 (sQ (Qda (v:=.bool (decide (x2.1 > ((x2.2).length:Int)))) rfl hb_1 rfl (RS.nil ?_)))))))))
  exact T.sub (hK () trivial) ⟨rfl,rfl,(congrArg AV.bool (by simp only [hb_1,bz,if_true,if_false,Bool.false_eq_true])).symm,trivial⟩
theorem save_Of_3_x700a_c (p0:List UInt8) (r:Choice × (List UInt8)) (h:Qpb p0=some r):FnX Tryz.prog 51 [.ptr 0 0] [.box [.ptr 1 0],.box [.str p0]] (.agg (Qea r.1)) [.box [.ptr 1 0],.box [.str r.2]]:=by
  unfold Qpb at h
  refine fnT 2 Tryz.func51 Tryz.ntmps51 ?_
  refine T.seq (T.region (go 1 2 (RS.nil (T.seq ?_))))
  obtain ⟨x3,hx3,h⟩:=bind_some h
  obtain ⟨x4,hx4,h⟩:=bind_some h
  refine T.drawn mixed (k:=6) rfl ?_
  apply RA.jn 3 #[true,true,true,false,false,false];intro hS1
  ·refine rL [0,1,3,4,5] 0 rfl (ra2 1 2 ?_ ?_)
   ·refine oO rfl (Q5a (ac:=[.ptr 1 0]) (as0:=[.ptr 0 0]) (aw0:=[.box [.str p0]]) (aw1:=[.box [.str x3.2]]) (aw2:=[.box [.ptr 1 0],.box [.str x3.2],.box [iI 0,iI 0]]) (v:=iI x3.1) (v':=iI x3.1) (n0:=3) (n1:=1) [1] rfl rfl rfl rfl (by decide) (Jfa (cs:=[.str p0]) (ds:=[.str p0]) rfl ⟨Zua rfl,trivial⟩ (Qoa)) ⟨Qma rfl,trivial⟩ (Qja p0 x3 hx3) rfl (Qia (Qua _ _)) ⟨.inr ⟨rfl,rfl⟩,.inl ⟨0,_,by decide,rfl,Jba (cs:=[.str x3.2]) (ds:=[.str x3.2]) ⟨Qia (Jha _),trivial⟩⟩,.inr ⟨rfl,rfl⟩,trivial⟩ (ra1 2 (og 3 ⟨rfl,?_⟩)))
    exact raE hS1
   ·refine og 3 ⟨rfl,(ra1 1 (oO rfl (Q5a (ac:=[.ptr 1 0]) (as0:=[.ptr 0 0]) (aw0:=[.box [.str p0]]) (aw1:=[.box [.str x3.2]]) (aw2:=[.box [.ptr 1 0],.box [.str x3.2],.box [iI 0,iI 0]]) (v:=iI x3.1) (v':=iI x3.1) (n0:=3) (n1:=1) [1] rfl rfl rfl rfl (by decide) (Jfa (cs:=[.str p0]) (ds:=[.str p0]) rfl ⟨Zua rfl,trivial⟩ (Qoa)) ⟨Qma rfl,trivial⟩ (Qja p0 x3 hx3) rfl (Qia (Qua _ _)) ⟨.inr ⟨rfl,rfl⟩,.inl ⟨0,_,by decide,rfl,Jba (cs:=[.str x3.2]) (ds:=[.str x3.2]) ⟨Qia (Jha _),trivial⟩⟩,.inr ⟨rfl,rfl⟩,trivial⟩ ?_)))⟩
    exact raT hS1
  refine ra1 3 (oO rfl (Q5a (ac:=[.ptr 1 0]) (as0:=[.ptr 0 0]) (aw0:=[.box [.str x3.2]]) (aw1:=[.box [.str x4.2]]) (aw2:=[.box [.ptr 1 0],.box [.str x4.2],.box [iI 0,iI 0]]) (v:=iI x4.1) (v':=iI x4.1) (n0:=3) (n1:=1) [1] rfl rfl rfl rfl (by decide) (Jfa (cs:=[.str x3.2]) (ds:=[.str x3.2]) rfl ⟨Zua rfl,trivial⟩ (Qoa)) ⟨Qma rfl,trivial⟩ (Qja x3.2 x4 hx4) rfl (Qia (Qua _ _)) ⟨.inr ⟨rfl,rfl⟩,.inl ⟨0,_,by decide,rfl,Jba (cs:=[.str x4.2]) (ds:=[.str x4.2]) ⟨Qia (Jha _),trivial⟩⟩,.inr ⟨rfl,rfl⟩,trivial⟩ (rq [4] 1 (ra1 5 (og 3 ⟨rfl,(RA.done (by decide +kernel) ?_)⟩)))))
  cases h
  exact tN [0,1]
theorem save_list_api_Choice_xfcb2_c (p0:List UInt8) (r:(List Choice) × (List UInt8)) (h:Zka p0=some r):FnX Tryz.prog 50 [.ptr 0 0,.func 51 [.ptr 1 0]] [.box [.str p0],.box [.ptr 0 0]] (.ref 2) [.box [.str r.2],.box [.ptr 0 0],aR 94 2 Qea r.1]:=by
  unfold Zka at h
  refine fnT 2 Tryz.func50 Tryz.ntmps50 ?_
  refine T.seq (T.region (go 1 2 (RS.nil (T.seq ?_))))
  obtain ⟨x2,hx2,h⟩:=bind_some h
  refine T.region (go 1 2 (sO (Q5a (ac:=[.ptr 0 0]) (as0:=[.ptr 0 0]) (aw0:=[.box [.str p0]]) (aw1:=[.box [.str x2.2]]) (aw2:=[.box [.str x2.2],.box [.ptr 0 0]]) (v:=iI x2.1) (v':=iI x2.1) (n0:=2) (n1:=1) [0] rfl rfl rfl rfl (by decide) (Jfa (cs:=[.str p0]) (ds:=[.str p0]) rfl ⟨Zua rfl,trivial⟩ (Qoa)) ⟨Qma rfl,trivial⟩ (Qja p0 x2 hx2) rfl (Qia (Qua _ _)) ⟨.inl ⟨0,_,by decide,rfl,Jba (cs:=[.str x2.2]) (ds:=[.str x2.2]) ⟨Qia (Jha _),trivial⟩⟩,.inr ⟨rfl,rfl⟩,trivial⟩ (go 1 2 (RS.nil (T.seq (T.join (Z:=Unit) (fun _=>mkA 32 [(1,.func 51 [.ptr 1 0]),(5,iI x2.1),(19,.bool ((decide (x2.1<0)) || decide (x2.1 > ((x2.2).length:Int))))]) (fun _=>[.box [.str x2.2],.box [.ptr 0 0]]) (fun _=>True) (fun _ _=>?_) (fun hK=>?_))))))))
  ·refine T.ci h rfl (fun hb_2 h=>?_) (fun hb_2 h=>?_)
   ·cases h
   refine T.skip (T.seq (T.region (go 1 2 (RS.nil (T.seq (T.seq (T.region (go 2 2 (RS.nil ?_)))))))))
   refine T.block (T.iter (fun ss_5:Int × (List UInt8) × (List Choice)=>mkA 32 [(1,.func 51 [.ptr 1 0]),(6,.ref 2),(22,iI x2.1),(23,iI ss_5.1)]) (fun ss_5=>[.box [.str ss_5.2.1],.box [.ptr 0 0],aR 94 2 Qea ss_5.2.2]) h (wk [(6,94,2)] [0,1,2] 2 rfl) (fun ss_5 v_6 h hv_6=>?_))
   obtain ⟨s4,s5,s6⟩:=ss_5
   replace h:Jua x2 s4 s5 s6=some v_6:=h
   try dsimp only
   unfold Jua at h
   refine T.seq (T.region (go 1 3 (RS.nil (T.seq (T.ci h rfl (fun hb_7 h=>?_) (fun hb_7 h=>?_))))))
   ·refine T.skip (T.seq (T.block ?_))
    obtain ⟨x7,hx7,h⟩:=bind_some h
    obtain ⟨x8,hx8,h⟩:=bind_some h
    refine T.region (go 2 3 (sO (Q5a (ac:=[.ptr 1 0]) (as0:=[.ptr 0 0]) (aw0:=[.box [.ptr 1 0],.box [.str s5]]) (aw1:=[.box [.ptr 1 0],.box [.str x7.2]]) (aw2:=[.box [.str x7.2],.box [.ptr 0 0],aR 94 2 Qea s6]) (v:=.agg (Qea x7.1)) (v':=.agg (Qea x7.1)) (n0:=3) (n1:=2) [1,0] rfl rfl rfl rfl (by decide) (Jfa (cs:=[.ptr 1 0]) (ds:=[.ptr 0 0]) rfl ⟨Qma rfl,trivial⟩ (Jfa (cs:=[.str s5]) (ds:=[.str s5]) rfl ⟨Zua rfl,trivial⟩ (Qoa))) ⟨Qma rfl,trivial⟩ (save_Of_3_x700a_c s5 x7 hx7) rfl (rm_agg (cs:=(Qea x7.1)) (ds:=(Qea x7.1)) ⟨Qia (Qua _ _),Qia (Qua _ _),trivial⟩) ⟨.inl ⟨1,_,by decide,rfl,Jba (cs:=[.str x7.2]) (ds:=[.str x7.2]) ⟨Qia (Jha _),trivial⟩⟩,.inl ⟨0,_,by decide,rfl,Jba (cs:=[.ptr 0 0]) (ds:=[.ptr 1 0]) ⟨rm_ptr (by decide),trivial⟩⟩,.inr ⟨rfl,rfl⟩,trivial⟩ (sO (Qra (rows:=List.map Qea [x7.1]) (vs:=[.agg (Qea x7.1)]) Ty.s51 Ty.z94 rfl rfl rfl rfl rfl rfl (sO (Zma (en:=Qea) (xs:=s6) (ys:=([x7.1]:List Choice)) Ty.s51 (fun _=>rfl) rfl rfl rfl hx8 rfl rfl (go 1 5 (RS.nil (T.region (go 2 5 (RS.nil ?_))))))))))))
    exact ⟨(IntKind.i64.wrap (s4+1),x7.2,x8),(Option.some.inj h).symm,wk [] [0,1,4] 5 rfl⟩
   refine T.exit ?_
   obtain ⟨w_8,h,hw_8⟩:=Qpa h
   replace h:=h.trans (congrArg some (hv_6 _ hw_8))
   refine T.seq (T.region (go 2 3 (RS.nil ?_)))
   cases h
   exact tO [] [0,1,2] 3
  refine T.region (go 3 2 ?_)
  rcases Qca (decide (x2.1<0)) with hb_1 | hb_1
  ·refine sN hb_1 (sN hb_1 (sN hb_1 (sN hb_1 (sN hb_1 (sN hb_1 (sN hb_1 (sQ (Qha (v:=.bool true) rfl hb_1 rfl (RS.nil ?_)))))))))
   exact T.sub (hK () trivial) ⟨rfl,rfl,(congrArg AV.bool (by simp only [hb_1,bz,if_true,if_false,Bool.false_eq_true])).symm,trivial⟩
  refine yg 2 hb_1 (yg 2 hb_1 (yg 2 hb_1 (yg 2 hb_1 (yg 2 hb_1 (yg 2 hb_1 (yg 2 hb_1 (sQ (Qda (v:=.bool (decide (x2.1 > ((x2.2).length:Int)))) rfl hb_1 rfl (RS.nil ?_)))))))))
  exact T.sub (hK () trivial) ⟨rfl,rfl,(congrArg AV.bool (by simp only [hb_1,bz,if_true,if_false,Bool.false_eq_true])).symm,trivial⟩
theorem save_Of_c (p0:Net) (p1:List (List Item)) (p2:List UInt8) (r:State × Int) (h:save_Of p0 p1 p2=some r):Fn Tryz.prog 17 [.agg (Jda p0),sL (encL Qaa) p1,.str p2] (.tup [.agg (Qta r.1),iI r.2]):=by
  unfold save_Of at h
  refine fnTD 0 Tryz.func17 Tryz.ntmps17 ?_
  refine TD.seq (T.region (go 3 0 (RS.nil (TD.seq (T.seq ?_)))))
  obtain ⟨x2,hx2,h⟩:=bind_some h
  refine T.region (go 2 3 (sO (cF (net_Sources_c p0 p1 x2 hx2) ⟨rfl,(go 1 3 (RS.nil (T.seq (T.region (go 2 3 (RS.nil (T.ci h rfl (fun hb_1 h=>?_) (fun hb_1 h=>?_))))))))⟩)))
  ·refine T.seq (T.region (go 4 3 (RS.nil ?_)))
   cases h
   exact tD
  refine T.skip (TD.defer 1 rfl (go 1 3 (RS.nil ⟨_,_,_,rfl,rfl,idleF,(T.seq (T.region (go 5 3 (RS.nil (T.seq ?_)))))⟩)))
  obtain ⟨x4,hx4,h⟩:=bind_some h
  refine T.region (go 2 5 (sQ (v_bnd (cs:=[.ptr 3 0]) rfl (sO (Q5a (ac:=[.ptr 3 0,.bnd 43 [.ptr 3 0]]) (as0:=[.ptr 0 0,.bnd 43 [.ptr 0 0]]) (aw0:=[.box [.str p2]]) (aw1:=[.box [.str x4.2],aR 3 1 encI x4.1]) (aw2:=[.box (Jda p0),.box [.nils,.nils,.nils,.nils,.nils],.box [iI 0],.box [.str x4.2],.box [.ptr 3 0],aR 3 1 encI x4.1]) (v:=.ref 1) (v':=.ref 5) (n0:=5) (n1:=2) [3] rfl rfl rfl rfl (by decide) (Jfa (cs:=[.str p2]) (ds:=[.str p2]) rfl ⟨Zua rfl,trivial⟩ (Qoa)) ⟨Qma rfl,rn_bnd ⟨Qma rfl,trivial⟩,trivial⟩ (save_list_int_x6121_c p2 x4 hx4) rfl (J1a (by decide)) ⟨.inr ⟨rfl,rfl⟩,.inr ⟨rfl,rfl⟩,.inr ⟨rfl,rfl⟩,.inl ⟨0,_,by decide,rfl,Jba (cs:=[.str x4.2]) (ds:=[.str x4.2]) ⟨Qia (Jha _),trivial⟩⟩,.inr ⟨rfl,rfl⟩,.inl ⟨1,_,by decide,rfl,Jia encI_p⟩,trivial⟩ (go 2 6 (RS.nil (T.seq ?_))))))))
  obtain ⟨x6,hx6,h⟩:=bind_some h
  refine T.region (go 2 6 (sQ (v_bnd (cs:=[.ptr 3 0]) rfl (sO (Q5a (ac:=[.ptr 3 0,.bnd 45 [.ptr 3 0]]) (as0:=[.ptr 0 0,.bnd 45 [.ptr 0 0]]) (aw0:=[.box [.str x4.2]]) (aw1:=[.box [.str x6.2],aR 52 1 (encL Qaa) x6.1]) (aw2:=[.box (Jda p0),.box [.ref 5,.nils,.nils,.nils,.nils],.box [iI 0],.box [.str x6.2],.box [.ptr 3 0],aR 3 1 encI x4.1,aR 52 1 (encL Qaa) x6.1]) (v:=.ref 1) (v':=.ref 6) (n0:=6) (n1:=2) [3] rfl rfl rfl rfl (by decide) (Jfa (cs:=[.str x4.2]) (ds:=[.str x4.2]) rfl ⟨Zua rfl,trivial⟩ (Qoa)) ⟨Qma rfl,rn_bnd ⟨Qma rfl,trivial⟩,trivial⟩ (save_list_Item_xfbdb_c x4.2 x6 hx6) rfl (J1a (by decide)) ⟨.inr ⟨rfl,rfl⟩,.inr ⟨rfl,rfl⟩,.inr ⟨rfl,rfl⟩,.inl ⟨0,_,by decide,rfl,Jba (cs:=[.str x6.2]) (ds:=[.str x6.2]) ⟨Qia (Jha _),trivial⟩⟩,.inr ⟨rfl,rfl⟩,.inr ⟨rfl,rfl⟩,.inl ⟨1,_,by decide,rfl,Jia (encL_p Jca)⟩,trivial⟩ (go 2 7 (RS.nil (T.seq ?_))))))))
  obtain ⟨x8,hx8,h⟩:=bind_some h
  refine T.region (go 2 7 (sO (Q5a (ac:=[.ptr 3 0,.func 47 [.ptr 4 0]]) (as0:=[.ptr 0 0,.func 47 [.ptr 1 0]]) (aw0:=[.box [.str x6.2],.box [.ptr 0 0]]) (aw1:=[.box [.str x8.2],.box [.ptr 0 0],aR 90 3 Qba x8.1]) (aw2:=[.box (Jda p0),.box [.ref 5,.ref 6,.nils,.nils,.nils],.box [iI 0],.box [.str x8.2],.box [.ptr 3 0],aR 3 1 encI x4.1,aR 52 1 (encL Qaa) x6.1,aR 90 3 Qba x8.1]) (v:=.ref 2) (v':=.ref 7) (n0:=7) (n1:=3) [3,4] rfl rfl rfl rfl (by decide) (Jfa (cs:=[.str x6.2]) (ds:=[.str x6.2]) rfl ⟨Zua rfl,trivial⟩ (Jfa (cs:=[.ptr 0 0]) (ds:=[.ptr 3 0]) rfl ⟨Qma rfl,trivial⟩ (Qoa))) ⟨Qma rfl,rn_func ⟨Qma rfl,trivial⟩,trivial⟩ (save_list_api_Memory_xfa57_c x6.2 x8 hx8) rfl (J1a (by decide)) ⟨.inr ⟨rfl,rfl⟩,.inr ⟨rfl,rfl⟩,.inr ⟨rfl,rfl⟩,.inl ⟨0,_,by decide,rfl,Jba (cs:=[.str x8.2]) (ds:=[.str x8.2]) ⟨Qia (Jha _),trivial⟩⟩,.inl ⟨1,_,by decide,rfl,Jba (cs:=[.ptr 3 0]) (ds:=[.ptr 0 0]) ⟨rm_ptr (by decide),trivial⟩⟩,.inr ⟨rfl,rfl⟩,.inr ⟨rfl,rfl⟩,.inl ⟨2,_,by decide,rfl,Jia J9a⟩,trivial⟩ (go 2 8 (RS.nil (T.seq ?_))))))
  obtain ⟨x10,hx10,h⟩:=bind_some h
  refine T.region (go 2 8 (sO (Q5a (ac:=[.ptr 3 0,.func 51 [.ptr 4 0]]) (as0:=[.ptr 0 0,.func 51 [.ptr 1 0]]) (aw0:=[.box [.str x8.2],.box [.ptr 0 0]]) (aw1:=[.box [.str x10.2],.box [.ptr 0 0],aR 94 2 Qea x10.1]) (aw2:=[.box (Jda p0),.box [.ref 5,.ref 6,.ref 7,.nils,.nils],.box [iI 0],.box [.str x10.2],.box [.ptr 3 0],aR 3 1 encI x4.1,aR 52 1 (encL Qaa) x6.1,aR 90 3 Qba x8.1,aR 94 2 Qea x10.1]) (v:=.ref 2) (v':=.ref 8) (n0:=8) (n1:=3) [3,4] rfl rfl rfl rfl (by decide) (Jfa (cs:=[.str x8.2]) (ds:=[.str x8.2]) rfl ⟨Zua rfl,trivial⟩ (Jfa (cs:=[.ptr 0 0]) (ds:=[.ptr 3 0]) rfl ⟨Qma rfl,trivial⟩ (Qoa))) ⟨Qma rfl,rn_func ⟨Qma rfl,trivial⟩,trivial⟩ (save_list_api_Choice_xfcb2_c x8.2 x10 hx10) rfl (J1a (by decide)) ⟨.inr ⟨rfl,rfl⟩,.inr ⟨rfl,rfl⟩,.inr ⟨rfl,rfl⟩,.inl ⟨0,_,by decide,rfl,Jba (cs:=[.str x10.2]) (ds:=[.str x10.2]) ⟨Qia (Jha _),trivial⟩⟩,.inl ⟨1,_,by decide,rfl,Jba (cs:=[.ptr 3 0]) (ds:=[.ptr 0 0]) ⟨rm_ptr (by decide),trivial⟩⟩,.inr ⟨rfl,rfl⟩,.inr ⟨rfl,rfl⟩,.inr ⟨rfl,rfl⟩,.inl ⟨2,_,by decide,rfl,Jia J8a⟩,trivial⟩ (go 2 9 (RS.nil (T.seq ?_))))))
  obtain ⟨x12,hx12,h⟩:=bind_some h
  refine T.region (go 1 9 (sO (Q5a (ac:=[.ptr 3 0]) (as0:=[.ptr 0 0]) (aw0:=[.box [.str x10.2]]) (aw1:=[.box [.str x12.2],aR 115 3 Qaa x12.1]) (aw2:=[.box (Jda p0),.box [.ref 5,.ref 6,.ref 7,.ref 8,.nils],.box [iI 0],.box [.str x12.2],.box [.ptr 3 0],aR 3 1 encI x4.1,aR 52 1 (encL Qaa) x6.1,aR 90 3 Qba x8.1,aR 94 2 Qea x10.1,aR 115 3 Qaa x12.1]) (v:=.ref 1) (v':=.ref 9) (n0:=9) (n1:=2) [3] rfl rfl rfl rfl (by decide) (Jfa (cs:=[.str x10.2]) (ds:=[.str x10.2]) rfl ⟨Zua rfl,trivial⟩ (Qoa)) ⟨Qma rfl,trivial⟩ (Jdb x10.2 x12 hx12) rfl (J1a (by decide)) ⟨.inr ⟨rfl,rfl⟩,.inr ⟨rfl,rfl⟩,.inr ⟨rfl,rfl⟩,.inl ⟨0,_,by decide,rfl,Jba (cs:=[.str x12.2]) (ds:=[.str x12.2]) ⟨Qia (Jha _),trivial⟩⟩,.inr ⟨rfl,rfl⟩,.inr ⟨rfl,rfl⟩,.inr ⟨rfl,rfl⟩,.inr ⟨rfl,rfl⟩,.inr ⟨rfl,rfl⟩,.inl ⟨1,_,by decide,rfl,Jia Jca⟩,trivial⟩ (go 2 10 (RS.nil (T.seq (T.seq ?_)))))))
  obtain ⟨x14,hx14,h⟩:=bind_some h
  refine T.region (go 3 10 (sO (cF (save_Bytes_c p0 p1 (⟨x4.1,x6.1,x8.1,x10.1,x12.1⟩:State) x14 hx14) ⟨rfl,(go 5 10 (RS.nil (T.join (Z:=Unit) (fun _=>mkA 60 [(6,.ptr 0 0),(7,.ptr 1 0),(57,.bool ((x14.2 != 0) || !(x14.1==p2)))]) (fun _=>[.box [.ref 2,.ref 3,.ref 4,.ref 5,.ref 6],.box [iI 0],aR 3 1 encI x4.1,aR 52 1 (encL Qaa) x6.1,aR 90 3 Qba x8.1,aR 94 2 Qea x10.1,aR 115 3 Qaa x12.1]) (fun _=>True) (fun _ _=>?_) (fun hK=>?_))))⟩)))
  ·refine T.ci h rfl (fun hb_3 h=>?_) (fun hb_3 h=>?_)
   ·refine T.seq (T.region (go 3 7 (RS.nil ?_)))
    cases h
    exact tD
   refine T.skip (T.seq (T.region (go 3 7 (RS.nil ?_))))
   cases h
   exact tD
  refine T.region (go 3 10 ?_)
  rcases Qca (x14.2 != 0) with hb_2 | hb_2
  ·refine sN hb_2 (sN hb_2 (sN hb_2 (sQ (Qha (v:=.bool true) rfl hb_2 rfl (RS.nil ?_)))))
   exact T.weakR (hK () trivial) (Weak.mkN [] [1,2,5,6,7,8,9] (by decide) (Qsa _) rfl ⟨Qma rfl,Qma rfl,Joa (by simp only [hb_2,bz,if_true,if_false,Bool.false_eq_true]),trivial⟩ (Jfa (cs:=[.ref 2,.ref 3,.ref 4,.ref 5,.ref 6]) (ds:=[.ref 5,.ref 6,.ref 7,.ref 8,.ref 9]) rfl ⟨Q8a rfl,Q8a rfl,Q8a rfl,Q8a rfl,Q8a rfl,trivial⟩ (rw_bs [iI 0] rfl (rw_ar rfl rfl (rw_ar rfl rfl (rw_ar rfl rfl (rw_ar rfl rfl (rw_ar rfl rfl (Qoa)))))))))
  refine yg 10 hb_2 (yg 10 hb_2 (yg 10 hb_2 (sQ (Qda (v:=.bool (!(x14.1==p2))) rfl hb_2 rfl (RS.nil ?_)))))
  exact T.weakR (hK () trivial) (Weak.mkN [] [1,2,5,6,7,8,9] (by decide) (Qsa _) rfl ⟨Qma rfl,Qma rfl,Joa (by simp only [hb_2,bz,if_true,if_false,Bool.false_eq_true]),trivial⟩ (Jfa (cs:=[.ref 2,.ref 3,.ref 4,.ref 5,.ref 6]) (ds:=[.ref 5,.ref 6,.ref 7,.ref 8,.ref 9]) rfl ⟨Q8a rfl,Q8a rfl,Q8a rfl,Q8a rfl,Q8a rfl,trivial⟩ (rw_bs [iI 0] rfl (rw_ar rfl rfl (rw_ar rfl rfl (rw_ar rfl rfl (rw_ar rfl rfl (rw_ar rfl rfl (Qoa)))))))))
theorem disk_put_x866e_c (p0:List Write) (p1:List (List UInt8)) (r:List (List UInt8)) (h:Jeb p0 p1=some r):FnX Tryz.prog 91 [.ref 0,sL Q6a p0] [aR 9 1 encS p1] (.ref 1) [.dead,aR 9 1 encS r]:=by
  unfold Jeb at h
  refine fnT 1 Tryz.func91 Tryz.ntmps91 ?_
  refine T.mvS 0 0 rfl rfl rfl rfl (T.seq (T.region (go 1 2 (RS.nil (T.seq (T.seq (T.region (go 1 2 (sQ (Qfa Ty.s23 rfl ?_))))))))))
  refine go 1 2 (RS.nil (T.block (T.iter (fun ss_15:Int × (List (List UInt8))=>mkA 29 [(0,.ref 1),(7,sL Q6a p0),(8,iI ((p0).length:Int)),(9,iI ss_15.1)]) (fun ss_15=>[.dead,aR 9 1 encS ss_15.2]) h (wk [] [0,1] 2 rfl) (fun ss_15 v_16 h hv_16=>?_))))
  obtain ⟨s1,s2⟩:=ss_15
  replace h:Zva p0 s1 s2=some v_16:=h
  try dsimp only
  unfold Zva at h
  refine T.seq (T.region (go 1 2 (RS.nil (T.seq (T.ci h rfl (fun hb_17 h=>?_) (fun hb_17 h=>?_))))))
  ·refine T.skip (T.seq (T.block (T.seq ?_)))
   obtain ⟨x4,hx4,h⟩:=bind_some h
   refine T.region (sQ (Qga Ty.s23 (fun _=>rfl) rfl rfl hx4 (go 3 2 (RS.nil (T.seq (T.block (T.iter (fun ss_20:List (List UInt8)=>mkA 29 [(0,.ref 1),(6,.ptr 2 0),(7,sL Q6a p0),(8,iI ((p0).length:Int)),(9,iI s1)]) (fun ss_20=>[.dead,aR 9 1 encS ss_20,.box (Q6a x4)]) h (wk [] [0,1,2] 3 rfl) (fun ss_20 v_21 h hv_21=>?_))))))))
   revert hv_21 h;revert ss_20;intro s5 h hv_21
   replace h:Q4b s1 x4 s5=some v_21:=h
   try dsimp only
   unfold Q4b at h
   refine T.seq (T.seq (T.region (go 1 3 (sQ (Yda (en:=encS) Ty.s22 rfl rfl (go 3 3 (RS.nil (T.ci h rfl (fun hb_22 h=>?_) (fun hb_22 h=>?_)))))))))
   ·refine T.skip (T.block ?_)
    obtain ⟨x6,hx6,h⟩:=bind_some h
    refine T.region (go 1 3 (sO (Qra (rows:=List.map encS [[]]) (vs:=[.str []]) Ty.s22 Ty.z9 rfl rfl rfl rfl rfl rfl (sO (Zma (en:=encS) (xs:=s5) (ys:=([[]]:List (List UInt8))) Ty.s22 (fun _=>rfl) rfl rfl rfl hx6 rfl rfl (go 1 5 (RS.nil ?_)))))))
    exact ⟨x6,(Option.some.inj h).symm,wk [] [0,4,2] 5 rfl⟩
   refine T.exit ?_
   obtain ⟨w_23,h,hw_23⟩:=Qpa h
   replace h:=h.trans (congrArg some (hv_21 _ hw_23))
   obtain ⟨x7,hx7,h⟩:=bind_some h
   obtain ⟨x8,hx8,h⟩:=bind_some h
   refine T.region (go 5 3 (sQ (Qqa (en:=encS) Ty.s22 rfl rfl rfl hx7 (sO (Zta (en:=encS) (a:=x8) (a':=x4.Bytes) Ty.c9 Ty.i9 rfl (vs:=[.str x4.Bytes]) rfl rfl rfl hx8 rfl rfl rfl (RS.nil (T.region (go 2 3 (RS.nil ?_)))))))))
   exact ⟨(IntKind.i64.wrap (s1+1),(List.set s5 x7 x4.Bytes)),(Option.some.inj h).symm,wk [] [0,1] 3 rfl⟩
  refine T.exit ?_
  obtain ⟨w_24,h,hw_24⟩:=Qpa h
  replace h:=h.trans (congrArg some (hv_16 _ hw_24))
  refine T.seq (T.region (go 2 2 (RS.nil ?_)))
  cases h
  exact tO [] [0,1] 2
theorem disk_Cut_c (p0:Disk) (p1:Int) (r:Disk × Int) (h:disk_Cut p0 p1=some r):Fn Tryz.prog 68 [.agg (Q9a p0),iI p1] (.tup [.agg (Q9a r.1),iI r.2]):=by
  unfold disk_Cut at h
  refine fnT 0 Tryz.func68 Tryz.ntmps68 ?_
  refine T.seq (T.region (go 3 0 (RS.nil (T.seq (T.seq ?_)))))
  obtain ⟨x2,hx2,h⟩:=bind_some h
  refine T.region (go 1 2 (sO (cF (disk_Check_c p0 x2 hx2) ⟨rfl,(go 1 2 (RS.nil (T.seq (T.region (go 2 2 (RS.nil (T.ci h rfl (fun hb_1 h=>?_) (fun hb_1 h=>?_))))))))⟩)))
  ·refine T.seq (T.region (go 4 2 (RS.nil ?_)))
   cases h
   exact tD
  refine T.skip (T.seq (T.join (Z:=Unit) (fun _=>mkA 32 [(1,iI p1),(2,.ptr 0 0),(4,.ptr 1 0),(21,.bool ((decide (p1<0)) || decide (p1 > ((p0.Wait).length:Int))))]) (fun _=>[.box (Q9a p0),.box [.nils,.nils]]) (fun _=>True) (fun _ _=>?_) (fun hK=>?_)))
  ·refine T.ci h rfl (fun hb_3 h=>?_) (fun hb_3 h=>?_)
   ·refine T.seq (T.region (go 3 2 (RS.nil ?_)))
    cases h
    exact tD
   refine T.skip (T.seq ?_)
   obtain ⟨x7,hx7,h⟩:=bind_some h
   obtain ⟨x8,hx8,h⟩:=bind_some h
   obtain ⟨x9,hx9,h⟩:=bind_some h
   refine T.drawn mixed (k:=11) rfl ?_
   apply RA.jn 4 #[true,true,true,true,true,true,true,false,false,false,false];intro hS4
   apply RA.jn 5 #[true,true,false,true,true,true,true,false,false,false,false];intro hS5
   ·refine rq [0,3,5] 8 (ra2 1 4 ?_ ?_)
    ·refine og 2 ⟨rfl,(ra2 2 4 ?_ ?_)⟩
     ·refine oO rfl (cO 2 (Zxa p0.Sectors x7 hx7) ⟨rfl,(ra1 4 (og 3 ⟨rfl,(r0 6 rfl (v_slice_sl Ty.s23 (fun _=>rfl) rfl rfl rfl hx8 ?_))⟩))⟩)
      exact raE hS4
     ·refine og 2 ⟨rfl,(r0 6 rfl (v_slice_sl Ty.s23 (fun _=>rfl) rfl rfl rfl hx8 ?_))⟩
      exact raE hS5
    ·refine og 2 ⟨rfl,(r0 6 rfl (v_slice_sl Ty.s23 (fun _=>rfl) rfl rfl rfl hx8 (ra1 1 (og 2 ⟨rfl,?_⟩))))⟩
     exact raT hS5
   ·refine ra1 2 (oO rfl (cO 2 (Zxa p0.Sectors x7 hx7) ⟨rfl,?_⟩))
    exact raT hS4
   refine ra1 7 (oO rfl (Q5a (ac:=[.ref 2,sL Q6a x8]) (as0:=[.ref 0,sL Q6a x8]) (aw0:=[aR 9 1 encS x7]) (aw1:=[.dead,aR 9 1 encS x9]) (aw2:=[.box (Q9a p0),.box [.nils,.nils],.dead,aR 9 1 encS x9]) (v:=.ref 1) (v':=.ref 3) (n0:=3) (n1:=2) [2] rfl rfl rfl rfl (by decide) (Jza rfl encS_p rfl (Qoa)) ⟨Q8a rfl,rn_s rfl,trivial⟩ (disk_put_x866e_c x8 x7 x9 hx9) rfl (J1a (by decide)) ⟨.inr ⟨rfl,rfl⟩,.inr ⟨rfl,rfl⟩,.inl ⟨0,_,by decide,rfl,trivial⟩,.inl ⟨1,_,by decide,rfl,Jia encS_p⟩,trivial⟩ (rq [8] 2 (ra1 9 (og 4 ⟨rfl,(rq [10] 0 (RA.done (by decide +kernel) ?_))⟩)))))
   cases h
   exact tD
  refine T.region (go 3 2 ?_)
  rcases Qca (decide (p1<0)) with hb_2 | hb_2
  ·refine sN hb_2 (sN hb_2 (sN hb_2 (sN hb_2 (sN hb_2 (sQ (Qha (v:=.bool true) rfl hb_2 rfl (RS.nil ?_)))))))
   exact T.sub (hK () trivial) ⟨rfl,rfl,rfl,(congrArg AV.bool (by simp only [hb_2,bz,if_true,if_false,Bool.false_eq_true])).symm,trivial⟩
  refine yg 2 hb_2 (yg 2 hb_2 (yg 2 hb_2 (yQ hb_2 (Qfa Ty.s23 rfl (yg 2 hb_2 (sQ (Qda (v:=.bool (decide (p1 > ((p0.Wait).length:Int)))) rfl hb_2 rfl (RS.nil ?_))))))))
  exact T.sub (hK () trivial) ⟨rfl,rfl,rfl,(congrArg AV.bool (by simp only [hb_2,bz,if_true,if_false,Bool.false_eq_true])).symm,trivial⟩
theorem disk_Flush_c (p0:Disk) (r:Disk × Int) (h:disk_Flush p0=some r):Fn Tryz.prog 29 [.agg (Q9a p0)] (.tup [.agg (Q9a r.1),iI r.2]):=by
  unfold disk_Flush at h
  refine fnT 0 Tryz.func29 Tryz.ntmps29 ?_
  refine T.seq (T.region (go 3 0 (RS.nil (T.seq ?_))))
  obtain ⟨x2,hx2,h⟩:=bind_some h
  refine T.region (go 3 2 (sQ (Qfa Ty.s23 rfl (sO (cD (disk_Cut_c p0 ((p0.Wait).length:Int) x2 hx2) ⟨rfl,(go 4 2 (RS.nil ?_))⟩)))))
  cases h
  exact tD
theorem frame_Read_c (p0:List UInt8) (r:(List (List UInt8)) × Int × Int) (h:frame_Read p0=some r):FnO Tryz.prog 33 [.str p0] (.tup [.ref 0,iI r.2.1,iI r.2.2]) [aR 9 1 encS r.1]:=by
  unfold frame_Read at h
  refine fnT 0 Tryz.func33 Tryz.ntmps33 ?_
  refine T.seq (T.region (go 3 0 (RS.nil (T.seq (T.seq (T.region (go 3 0 (RS.nil (T.ci h rfl (fun hb_1 h=>?_) (fun hb_1 h=>?_))))))))))
  ·refine T.seq (T.region (go 3 0 (RS.nil ?_)))
   cases h
   exact tO [(0,9,1)] [0] 0
  refine T.skip (T.seq (T.block (T.iter (fun ss_12:Int × (List (List UInt8))=>mkA 66 [(0,.str p0),(2,.ref 0),(3,iI ss_12.1)]) (fun ss_12=>[aR 9 1 encS ss_12.2]) h (wk [(2,9,1)] [0] 0 rfl) (fun ss_12 v_13 h hv_13=>?_))))
  obtain ⟨s1,s2⟩:=ss_12
  replace h:Zha p0 s1 s2=some v_13:=h
  try dsimp only
  unfold Zha at h
  refine T.seq (T.seq (T.region (go 4 1 (RS.nil (T.ci h rfl (fun hb_14 h=>?_) (fun hb_14 h=>?_))))))
  ·refine T.skip (T.block (T.seq ?_))
   obtain ⟨x4,hx4,h⟩:=bind_some h
   refine T.region (go 2 1 (sO (o_slice_str Tryz.underlying9 rfl rfl rfl hx4 (go 1 1 (RS.nil (T.seq ?_))))))
   obtain ⟨x6,hx6,h⟩:=bind_some h
   refine T.region (go 1 1 (sQ (Jpa Tryz.underlying9 rfl rfl hx6 (go 2 1 (RS.nil (T.seq (T.join (Z:=Unit) (fun _=>mkA 66 [(0,.str p0),(2,.ref 0),(3,iI s1),(5,.str x4),(6,iI (IntKind.i64.wrap (x6.toNat:Int))),(33,.bool ((decide ((IntKind.i64.wrap (x6.toNat:Int))<1)) || ((decide ((IntKind.i64.wrap (x6.toNat:Int)) > 60)) || decide (((x4).length:Int)<(IntKind.i64.wrap ((IntKind.i64.wrap (x6.toNat:Int))+3))))))]) (fun _=>[aR 9 1 encS s2]) (fun _=>True) (fun _ _=>?_) (fun hK=>?_))))))))
   ·refine T.ci h rfl (fun hb_17 h=>?_) (fun hb_17 h=>?_)
    ·refine T.exit ?_
     obtain ⟨w_18,h,hw_18⟩:=Qpa h
     replace h:=h.trans (congrArg some (hv_13 _ hw_18))
     refine T.seq (T.region (go 5 1 (RS.nil ?_)))
     cases h
     exact tO [] [0] 1
    refine T.skip (T.seq ?_)
    obtain ⟨x10,hx10,h⟩:=bind_some h
    obtain ⟨x11,hx11,h⟩:=bind_some h
    refine T.region (go 3 1 (sO (o_slice_str Tryz.underlying9 rfl rfl rfl hx10 (sO (cF (frame_sum_c x10 x11 hx11) ⟨rfl,(go 1 1 (RS.nil (T.seq (T.seq ?_))))⟩)))))
    obtain ⟨x15,hx15,h⟩:=bind_some h
    obtain ⟨x16,hx16,h⟩:=bind_some h
    obtain ⟨x17,hx17,h⟩:=bind_some h
    refine T.drawn mixed (k:=14) rfl (rq [0,1,2] 11 (r0 3 rfl (Jpa Tryz.underlying9 rfl rfl hx15 (rq [4] 9 (r0 5 rfl (v_shl rfl rfl hx16 (rq [6,7,8] 5 (r0 9 rfl (Jpa Tryz.underlying9 rfl rfl hx17 (rq [10,11,12,13] 0 (RA.done (by decide +kernel) (T.ci h rfl (fun hb_19 h=>?_) (fun hb_19 h=>?_)))))))))))))
    ·refine T.exit ?_
     obtain ⟨w_20,h,hw_20⟩:=Qpa h
     replace h:=h.trans (congrArg some (hv_13 _ hw_20))
     refine T.seq (T.region (go 5 1 (RS.nil ?_)))
     cases h
     exact tO [] [0] 1
    refine T.skip (T.seq ?_)
    obtain ⟨x20,hx20,h⟩:=bind_some h
    obtain ⟨x21,hx21,h⟩:=bind_some h
    refine T.region (go 4 1 (sO (o_slice_str Tryz.underlying9 rfl rfl rfl hx20 (sO (Qra (rows:=List.map encS [x20]) (vs:=[.str x20]) Ty.s22 Ty.z9 rfl rfl rfl rfl rfl rfl (sO (Zma (en:=encS) (xs:=s2) (ys:=([x20]:List (List UInt8))) Ty.s22 (fun _=>rfl) rfl rfl rfl hx21 rfl rfl (go 1 3 (RS.nil (T.region (go 5 3 (RS.nil ?_))))))))))))
    exact ⟨(IntKind.i64.wrap (s1+(IntKind.i64.wrap ((IntKind.i64.wrap (x6.toNat:Int))+3))),x21),(Option.some.inj h).symm,wk [] [2] 3 rfl⟩
   refine T.region (go 3 1 ?_)
   rcases Qca (decide ((IntKind.i64.wrap (x6.toNat:Int))<1)) with hb_15 | hb_15
   ·refine sN hb_15 (sN hb_15 (sQ (Qha (v:=.bool true) rfl hb_15 rfl (go 1 1 (sN rfl (sN rfl (sN rfl (sN rfl (sN rfl (sQ (Qha (v:=.bool true) rfl rfl rfl ?_)))))))))))
    refine RS.nil ?_
    exact T.sub (hK () trivial) ⟨rfl,rfl,rfl,rfl,rfl,(congrArg AV.bool (by simp only [hb_15,bz,if_true,if_false,Bool.false_eq_true])).symm,trivial⟩
   refine yg 1 hb_15 (yg 1 hb_15 (sQ (Qda (v:=.bool (decide ((IntKind.i64.wrap (x6.toNat:Int)) > 60))) rfl hb_15 rfl (go 1 1 ?_))))
   rcases Qca (decide ((IntKind.i64.wrap (x6.toNat:Int)) > 60)) with hb_16 | hb_16
   ·refine sN hb_16 (sN hb_16 (sN hb_16 (sN hb_16 (sN hb_16 (sQ (Qha (v:=.bool true) rfl hb_16 rfl (RS.nil ?_)))))))
    exact T.sub (hK () trivial) ⟨rfl,rfl,rfl,rfl,rfl,(congrArg AV.bool (by simp only [hb_15,hb_16,bz,if_true,if_false,Bool.false_eq_true])).symm,trivial⟩
   refine yg 1 hb_16 (yg 1 hb_16 (yg 1 hb_16 (yg 1 hb_16 (yg 1 hb_16 (sQ (Qda (v:=.bool (decide (((x4).length:Int)<(IntKind.i64.wrap ((IntKind.i64.wrap (x6.toNat:Int))+3))))) rfl hb_16 rfl (RS.nil ?_)))))))
   exact T.sub (hK () trivial) ⟨rfl,rfl,rfl,rfl,rfl,(congrArg AV.bool (by simp only [hb_15,hb_16,bz,if_true,if_false,Bool.false_eq_true])).symm,trivial⟩
  refine T.exit ?_
  obtain ⟨w_21,h,hw_21⟩:=Qpa h
  replace h:=h.trans (congrArg some (hv_13 _ hw_21))
  refine T.seq (T.region (go 5 1 (RS.nil ?_)))
  cases h
  exact tO [] [0] 1
end Go.Proofs.YtchmpaaofmihcaaGreat
namespace Go.Proofs.YtchmpaaofmihcaaGreat
open Go.RowKit
set_option linter.unusedVariables false
set_option linter.unusedSimpArgs false
set_option maxRecDepth 100000
set_option maxHeartbeats 4000000
set_option synthInstance.maxSize 100000
set_option synthInstance.maxHeartbeats 4000000
theorem save_Get_1_x9d52_c (p0:Int) (p1:Int) (p2:List (List UInt8)) (p3:List Write) (r:(List UInt8) × Bool) (h:Yfa p0 p1 p2 p3=some r):FnX Tryz.prog 32 [iI p0,.ptr 0 0,.ptr 1 0] [.box [iI p1],.box [sL encS p2,sL Q6a p3]] (.tup [.str r.1,.bool r.2]) [.box [iI p1],.box [sL encS p2,sL Q6a p3]]:=by
  unfold Yfa at h
  refine fnT 2 Tryz.func32 Tryz.ntmps32 ?_
  refine T.seq (T.region (go 2 2 (RS.nil (T.seq (T.region (go 5 2 (RS.nil (T.seq (T.seq ?_)))))))))
  refine T.region (go 3 2 (sQ (Qfa Ty.s22 rfl (go 1 2 (RS.nil (T.ci h rfl (fun hb_1 h=>?_) (fun hb_1 h=>?_)))))))
  ·refine T.seq (T.region (go 2 2 (RS.nil ?_)))
   cases h
   exact tN [0,1]
  refine T.skip (T.seq ?_)
  obtain ⟨x3,hx3,h⟩:=bind_some h
  obtain ⟨x4,hx4,h⟩:=bind_some h
  refine T.region (go 3 2 (sQ (Qga Ty.s22 (fun _=>rfl) rfl rfl hx3 (go 1 2 (sO (cO 2 (frame_Read_c x3 x4 hx4) ⟨rfl,(go 7 3 (RS.nil (T.seq ?_)))⟩))))))
  obtain ⟨zt_5,hz,h⟩:=bind_some h
  revert hz h;revert zt_5;intro c11 hz h
  refine T.join (Z:=Unit) (fun _=>mkA 61 [(7,.ref 2),(57,.bool c11)]) (fun _=>[.box [iI p1],.box [sL encS p2,sL Q6a p3],aR 9 1 encS x4.1]) (fun _=>True) (fun _ _=>?_) (fun hK=>?_)
  ·refine T.ci h rfl (fun hb_6 h=>?_) (fun hb_6 h=>?_)
   ·refine T.seq (T.region (go 2 3 (RS.nil ?_)))
    cases h
    exact tN [0,1]
   refine T.skip (T.seq ?_)
   obtain ⟨x14,hx14,h⟩:=bind_some h
   obtain ⟨x15,hx15,h⟩:=bind_some h
   refine T.region (go 1 3 (sQ (Qqa (en:=encS) Ty.s22 rfl rfl rfl hx14 (sO (Qya (en:=encS) (a:=x15) rfl rfl hx15 (Jva Ty.k9 (c:=.str x15) rfl (go 2 3 (RS.nil ?_))))))))
   cases h
   exact tN [0,1]
  refine T.region (go 1 3 (sQ (Yda (en:=encS) Ty.s22 rfl rfl (go 2 3 ?_))))
  rcases Qca (((x4.1).length:Int) != 1) with hb_2 | hb_2
  ·replace hz:=ite_T hz hb_2
   refine sN hb_2 (sN hb_2 (sN hb_2 (sN hb_2 (sN hb_2 (sN hb_2 (sN hb_2 (sN hb_2 (sQ (Qha (v:=.bool true) rfl hb_2 rfl (go 1 3 ?_))))))))))
   refine sN rfl (sN rfl (sN rfl (sN rfl (sN rfl (sQ (Qha (v:=.bool true) rfl rfl rfl (go 1 3 (sN rfl (sN rfl (sN rfl ?_))))))))))
   refine sN rfl (sN rfl (sN rfl (sN rfl (sQ (Qha (v:=.bool true) rfl rfl rfl (RS.nil ?_))))))
   exact T.sub (hK () trivial) ⟨rfl,(congrArg AV.bool ((congrArg (fun p=>p) (Option.some.inj hz)).symm)).symm,trivial⟩
  replace hz:=ite_F hz hb_2
  obtain ⟨x5,hx5,hz⟩:=bind_some hz
  refine yg 3 hb_2 (yg 3 hb_2 (yg 3 hb_2 (yg 3 hb_2 (yQ hb_2 (Qga Ty.s22 (fun _=>rfl) rfl rfl hx5 (yg 3 hb_2 (yg 3 hb_2 (yg 3 hb_2 (sQ (Qda (v:=.bool (x4.2.1 != ((x5).length:Int))) rfl hb_2 rfl (go 1 3 ?_)))))))))))
  rcases Qca (x4.2.1 != ((x5).length:Int)) with hb_3 | hb_3
  ·replace hz:=ite_T hz hb_3
   refine sN hb_3 (sN hb_3 (sN hb_3 (sN hb_3 (sN hb_3 (sQ (Qha (v:=.bool true) rfl hb_3 rfl (go 1 3 (sN rfl (sN rfl (sN rfl ?_))))))))))
   refine sN rfl (sN rfl (sN rfl (sN rfl (sQ (Qha (v:=.bool true) rfl rfl rfl (RS.nil ?_))))))
   exact T.sub (hK () trivial) ⟨rfl,(congrArg AV.bool ((congrArg (fun p=>p) (Option.some.inj hz)).symm)).symm,trivial⟩
  replace hz:=ite_F hz hb_3
  obtain ⟨x6,hx6,hz⟩:=bind_some hz
  obtain ⟨x7,hx7,hz⟩:=bind_some hz
  refine yg 3 hb_3 (yQ hb_3 (Qqa (en:=encS) Ty.s22 rfl rfl rfl hx6 (yO hb_3 (Qya (en:=encS) (a:=x7) rfl rfl hx7 (Jva Ty.k9 (c:=.str x7) rfl (yg 3 hb_3 (yg 3 hb_3 (sQ (Qda (v:=.bool (decide (((x7).length:Int)<3))) rfl hb_3 rfl (go 1 3 ?_))))))))))
  rcases Qca (decide (((x7).length:Int)<3)) with hb_4 | hb_4
  ·replace hz:=ite_T hz hb_4
   refine sN hb_4 (sN hb_4 (sN hb_4 (sN hb_4 (sN hb_4 (sN hb_4 (sN hb_4 (sQ (Qha (v:=.bool true) rfl hb_4 rfl (RS.nil ?_)))))))))
   exact T.sub (hK () trivial) ⟨rfl,(congrArg AV.bool ((congrArg (fun p=>p) (Option.some.inj hz)).symm)).symm,trivial⟩
  replace hz:=ite_F hz hb_4
  obtain ⟨x8,hx8,hz⟩:=bind_some hz
  obtain ⟨x9,hx9,hz⟩:=bind_some hz
  obtain ⟨x10,hx10,hz⟩:=bind_some hz
  refine yg 3 hb_4 (yQ hb_4 (Qqa (en:=encS) Ty.s22 rfl rfl rfl hx8 (yO hb_4 (Qya (en:=encS) (a:=x9) rfl rfl hx9 (Jva Ty.k9 (c:=.str x9) rfl (yQ hb_4 (Jpa Tryz.underlying9 rfl rfl hx10 (yg 3 hb_4 (yg 3 hb_4 (yg 3 hb_4 (sQ (Qda (v:=.bool ((IntKind.i64.wrap (x10.toNat:Int)) != p0)) rfl hb_4 rfl (RS.nil ?_)))))))))))))
  exact T.sub (hK () trivial) ⟨rfl,(congrArg AV.bool ((congrArg (fun p=>p) (Option.some.inj hz)).symm)).symm,trivial⟩
theorem save_Get_c (p0:Disk) (p1:Int) (r:(List UInt8) × Int × Int) (h:save_Get p0 p1=some r):Fn Tryz.prog 14 [.agg (Q9a p0),iI p1] (.tup [.str r.1,iI r.2.1,iI r.2.2]):=by
  unfold save_Get at h
  refine fnT 0 Tryz.func14 Tryz.ntmps14 ?_
  refine T.seq (T.region (go 5 0 (RS.nil (T.seq (T.seq ?_)))))
  obtain ⟨x2,hx2,h⟩:=bind_some h
  refine T.region (go 1 2 (sO (cF (disk_Check_c p0 x2 hx2) ⟨rfl,(go 1 2 (RS.nil (T.seq (T.region (go 2 2 (RS.nil (T.ci h rfl (fun hb_1 h=>?_) (fun hb_1 h=>?_))))))))⟩)))
  ·refine T.seq (T.region (go 4 2 (RS.nil ?_)))
   cases h
   exact tD
  refine T.skip (T.seq (T.join (Z:=Unit) (fun _=>mkA 112 [(2,.ptr 0 0),(3,.ptr 1 0),(4,.str []),(25,.bool ((decide (p1<0)) || decide (p1 > 1)))]) (fun _=>[.box (Q9a p0),.box [iI p1]]) (fun _=>True) (fun _ _=>?_) (fun hK=>?_)))
  ·refine T.ci h rfl (fun hb_3 h=>?_) (fun hb_3 h=>?_)
   ·refine T.seq (T.region (go 3 2 (RS.nil ?_)))
    cases h
    exact tD
   refine T.skip (T.seq (T.region (go 2 2 (RS.nil (T.seq ?_)))))
   obtain ⟨x5,hx5,h⟩:=bind_some h
   refine T.region (go 1 2 (sO (Q5a (ac:=[iI 0,.ptr 1 0,.ptr 0 0]) (as0:=[iI (0:Int),.ptr 0 0,.ptr 1 0]) (aw0:=[.box [iI p1],.box (Q9a p0)]) (aw1:=[.box [iI p1],.box (Q9a p0)]) (aw2:=[.box (Q9a p0),.box [iI p1]]) (v:=.tup [.str x5.1,.bool x5.2]) (v':=.tup [.str x5.1,.bool x5.2]) (n0:=2) (n1:=2) [1,0] rfl rfl rfl rfl (by decide) (Jfa (cs:=[iI p1]) (ds:=[iI p1]) rfl ⟨Q2a rfl,trivial⟩ (Jfa (cs:=(Q9a p0)) (ds:=(Q9a p0)) rfl ⟨rn_s rfl,rn_s rfl,trivial⟩ (Qoa))) ⟨Q2a rfl,Qma rfl,Qma rfl,trivial⟩ (save_Get_1_x9d52_c (0:Int) p1 p0.Sectors p0.Wait x5 hx5) rfl (Qjb (cs:=[.str x5.1,.bool x5.2]) (ds:=[.str x5.1,.bool x5.2]) ⟨Qia (Jha _),Qia (Vza _),trivial⟩) ⟨.inl ⟨1,_,by decide,rfl,Jba (cs:=(Q9a p0)) (ds:=(Q9a p0)) ⟨Qia (Qwa encS_p _),Qia (Qwa Jtb _),trivial⟩⟩,.inl ⟨0,_,by decide,rfl,Jba (cs:=[iI p1]) (ds:=[iI p1]) ⟨Qia (Qua _ _),trivial⟩⟩,trivial⟩ (go 5 2 (RS.nil (T.seq ?_))))))
   obtain ⟨zt_7,hz,h⟩:=bind_some h
   revert hz h;revert zt_7;intro c8 hz h
   refine T.join (Z:=Unit) (fun _=>mkA 112 [(4,.str []),(8,.func 32 [.ptr 0 0,.ptr 1 0]),(9,.str x5.1),(50,.bool c8)]) (fun _=>[.box [iI p1],.box (Q9a p0)]) (fun _=>True) (fun _ _=>?_) (fun hK=>?_)
   ·refine T.ci h rfl (fun hb_8 h=>?_) (fun hb_8 h=>?_)
    ·refine T.seq (T.region (go 3 2 (RS.nil ?_)))
     cases h
     exact tD
    refine T.skip (T.seq (T.seq (T.region (go 1 2 (RS.nil (T.block (T.iter (fun ss_29:(List UInt8) × Int=>mkA 112 [(4,.str ss_29.1),(8,.func 32 [.ptr 0 0,.ptr 1 0]),(9,.str x5.1),(11,iI ss_29.2)]) (fun ss_29=>[.box [iI p1],.box (Q9a p0)]) h (wk [] [0,1] 2 rfl) (fun ss_29 v_30 h hv_30=>?_))))))))
    obtain ⟨s9,s10⟩:=ss_29
    replace h:Jnb p0 p1 x5 s9 s10=some v_30:=h
    try dsimp only
    unfold Jnb at h
    refine T.seq (T.seq ?_)
    obtain ⟨x12,hx12,h⟩:=bind_some h
    refine T.region (go 2 2 (sQ (Jpa Tryz.underlying9 rfl rfl hx12 (go 2 2 (RS.nil (T.ci h rfl (fun hb_31 h=>?_) (fun hb_31 h=>?_)))))))
    ·refine T.skip (T.seq (T.block (T.seq ?_)))
     obtain ⟨x14,hx14,h⟩:=bind_some h
     refine T.region (go 2 2 (sO (Q5a (ac:=[iI s10,.ptr 0 0,.ptr 1 0]) (as0:=[iI s10,.ptr 0 0,.ptr 1 0]) (aw0:=[.box [iI p1],.box (Q9a p0)]) (aw1:=[.box [iI p1],.box (Q9a p0)]) (aw2:=[.box [iI p1],.box (Q9a p0)]) (v:=.tup [.str x14.1,.bool x14.2]) (v':=.tup [.str x14.1,.bool x14.2]) (n0:=2) (n1:=2) [0,1] rfl rfl rfl rfl (by decide) (Jfa (cs:=[iI p1]) (ds:=[iI p1]) rfl ⟨Q2a rfl,trivial⟩ (Jfa (cs:=(Q9a p0)) (ds:=(Q9a p0)) rfl ⟨rn_s rfl,rn_s rfl,trivial⟩ (Qoa))) ⟨Q2a rfl,Qma rfl,Qma rfl,trivial⟩ (save_Get_1_x9d52_c s10 p1 p0.Sectors p0.Wait x14 hx14) rfl (Qjb (cs:=[.str x14.1,.bool x14.2]) (ds:=[.str x14.1,.bool x14.2]) ⟨Qia (Jha _),Qia (Vza _),trivial⟩) ⟨.inl ⟨0,_,by decide,rfl,Jba (cs:=[iI p1]) (ds:=[iI p1]) ⟨Qia (Qua _ _),trivial⟩⟩,.inl ⟨1,_,by decide,rfl,Jba (cs:=(Q9a p0)) (ds:=(Q9a p0)) ⟨Qia (Qwa encS_p _),Qia (Qwa Jtb _),trivial⟩⟩,trivial⟩ (go 5 2 (RS.nil ?_)))))
     obtain ⟨zt_35,hz,h⟩:=bind_some h
     revert hz h;revert zt_35;intro c16 hz h
     refine T.join (Z:=Unit) (fun _=>mkA 112 [(4,.str s9),(8,.func 32 [.ptr 0 0,.ptr 1 0]),(9,.str x5.1),(11,iI s10),(12,.str x14.1),(13,.bool x14.2),(14,.bool c16)]) (fun _=>[.box [iI p1],.box (Q9a p0)]) (fun _=>True) (fun _ _=>?_) (fun hK=>?_)
     ·refine T.seq ?_
      obtain ⟨zt_39,hz,h⟩:=bind_some h
      revert hz h;revert zt_39;intro c21 hz h
      refine T.join (Z:=Unit) (fun _=>mkA 112 [(4,.str s9),(8,.func 32 [.ptr 0 0,.ptr 1 0]),(9,.str x5.1),(11,iI s10),(12,.str x14.1),(103,.bool c21)]) (fun _=>[.box [iI p1],.box (Q9a p0)]) (fun _=>True) (fun _ _=>?_) (fun hK=>?_)
      ·refine T.ci h rfl (fun hb_40 h=>?_) (fun hb_40 h=>?_)
       ·refine T.seq (T.region (go 3 2 (RS.nil ?_)))
        obtain ⟨w_41,h,hw_41⟩:=Qpa h
        replace h:=h.trans (congrArg some (hv_30 _ hw_41))
        cases h
        exact tD
       refine T.skip ?_
       obtain ⟨x22,hx22,h⟩:=bind_some h
       obtain ⟨x23,hx23,h⟩:=bind_some h
       refine T.region (go 2 2 (sO (o_slice_str Tryz.underlying9 rfl rfl rfl hx22 (sQ (v_sadd rfl rfl hx23 (go 1 2 (RS.nil (T.region (go 3 2 (RS.nil ?_))))))))))
       exact ⟨(x23,IntKind.i64.wrap (s10+1)),(Option.some.inj h).symm,wk [] [0,1] 2 rfl⟩
      rcases Qca (!x14.2) with hb_36 | hb_36
      ·replace hz:=ite_T hz hb_36
       refine T.drawn mixed (k:=20) rfl (rq [0,1,2] 17 (r2 3 rfl hb_36 (r2 4 rfl hb_36 (r2 5 rfl hb_36 (r2 6 rfl hb_36 (r2 7 rfl hb_36 (r0 8 rfl (Qha (v:=.bool true) rfl hb_36 rfl (rq [9] 10 (r2 10 rfl rfl ?_))))))))))
       refine r2 11 rfl rfl (r2 12 rfl rfl (r2 13 rfl rfl (r2 14 rfl rfl (r0 15 rfl (Qha (v:=.bool true) rfl rfl rfl (rq [16] 3 (r2 17 rfl rfl (r2 18 rfl rfl (r0 19 rfl (Qha (v:=.bool true) rfl rfl rfl (RA.done (by decide +kernel) ?_)))))))))))
       exact T.sub (hK () trivial) ⟨rfl,rfl,rfl,rfl,rfl,(congrArg AV.bool ((congrArg (fun p=>p) (Option.some.inj hz)).symm)).symm,trivial⟩
      replace hz:=ite_F hz hb_36
      obtain ⟨x17,hx17,hz⟩:=bind_some hz
      obtain ⟨x18,hx18,hz⟩:=bind_some hz
      rcases Qca ((x17.toNat:Int) != (x18.toNat:Int)) with hb_37 | hb_37
      ·replace hz:=ite_T hz hb_37
       refine T.drawn mixed (k:=20) rfl (rq [0,1,2] 17 (ry 3 hb_36 rfl (r1 4 rfl hb_36 (Jpa Tryz.underlying9 rfl rfl hx17 (ry 5 hb_36 rfl (r1 6 rfl hb_36 (Jpa Tryz.underlying9 rfl rfl hx18 (ry 7 hb_36 rfl (r0 8 rfl (Qda (v:=.bool ((x17.toNat:Int) != (x18.toNat:Int))) rfl hb_36 rfl (rq [9] 10 (r2 10 rfl hb_37 ?_))))))))))))
       refine r2 11 rfl hb_37 (r2 12 rfl hb_37 (r2 13 rfl hb_37 (r2 14 rfl hb_37 (r0 15 rfl (Qha (v:=.bool true) rfl hb_37 rfl (rq [16] 3 (r2 17 rfl rfl (r2 18 rfl rfl (r0 19 rfl (Qha (v:=.bool true) rfl rfl rfl (RA.done (by decide +kernel) ?_)))))))))))
       exact T.sub (hK () trivial) ⟨rfl,rfl,rfl,rfl,rfl,(congrArg AV.bool ((congrArg (fun p=>p) (Option.some.inj hz)).symm)).symm,trivial⟩
      replace hz:=ite_F hz hb_37
      obtain ⟨x19,hx19,hz⟩:=bind_some hz
      obtain ⟨x20,hx20,hz⟩:=bind_some hz
      rcases Qca ((x19.toNat:Int) != (x20.toNat:Int)) with hb_38 | hb_38
      ·replace hz:=ite_T hz hb_38
       refine T.drawn mixed (k:=20) rfl (rq [0,1,2] 17 (ry 3 hb_36 rfl (r1 4 rfl hb_36 (Jpa Tryz.underlying9 rfl rfl hx17 (ry 5 hb_36 rfl (r1 6 rfl hb_36 (Jpa Tryz.underlying9 rfl rfl hx18 (ry 7 hb_36 rfl (r0 8 rfl (Qda (v:=.bool ((x17.toNat:Int) != (x18.toNat:Int))) rfl hb_36 rfl (rq [9] 10 (ry 10 hb_37 rfl ?_))))))))))))
       refine r1 11 rfl hb_37 (Jpa Tryz.underlying9 rfl rfl hx19 (ry 12 hb_37 rfl (r1 13 rfl hb_37 (Jpa Tryz.underlying9 rfl rfl hx20 (ry 14 hb_37 rfl (r0 15 rfl (Qda (v:=.bool ((x19.toNat:Int) != (x20.toNat:Int))) rfl hb_37 rfl (rq [16] 3 (r2 17 rfl hb_38 (r2 18 rfl hb_38 (r0 19 rfl (Qha (v:=.bool true) rfl hb_38 rfl (RA.done (by decide +kernel) ?_)))))))))))))
       exact T.sub (hK () trivial) ⟨rfl,rfl,rfl,rfl,rfl,(congrArg AV.bool ((congrArg (fun p=>p) (Option.some.inj hz)).symm)).symm,trivial⟩
      replace hz:=ite_F hz hb_38
      refine T.drawn mixed (k:=20) rfl (rq [0,1,2] 17 (ry 3 hb_36 rfl (r1 4 rfl hb_36 (Jpa Tryz.underlying9 rfl rfl hx17 (ry 5 hb_36 rfl (r1 6 rfl hb_36 (Jpa Tryz.underlying9 rfl rfl hx18 (ry 7 hb_36 rfl (r0 8 rfl (Qda (v:=.bool ((x17.toNat:Int) != (x18.toNat:Int))) rfl hb_36 rfl (rq [9] 10 (ry 10 hb_37 rfl ?_))))))))))))
      refine r1 11 rfl hb_37 (Jpa Tryz.underlying9 rfl rfl hx19 (ry 12 hb_37 rfl (r1 13 rfl hb_37 (Jpa Tryz.underlying9 rfl rfl hx20 (ry 14 hb_37 rfl (r0 15 rfl (Qda (v:=.bool ((x19.toNat:Int) != (x20.toNat:Int))) rfl hb_37 rfl (rq [16] 3 (ry 17 hb_38 rfl (ry 18 hb_38 rfl (r0 19 rfl (Qda (v:=.bool (!c16)) rfl hb_38 rfl (RA.done (by decide +kernel) ?_)))))))))))))
      exact T.sub (hK () trivial) ⟨rfl,rfl,rfl,rfl,rfl,(congrArg AV.bool ((congrArg (fun p=>p) (Option.some.inj hz)).symm)).symm,trivial⟩
     refine T.region (go 4 2 ?_)
     rcases Qca (((x14.1).length:Int)==53) with hb_32 | hb_32
     ·replace hz:=ite_T hz hb_32
      refine sN hb_32 (sN hb_32 (sN hb_32 (sN hb_32 (sN hb_32 (sN hb_32 (sU (sU (sU (sN hb_32 ?_)))))))))
      refine sN hb_32 (sU (sU (sU (sN hb_32 (sQ (Qha (v:=.bool true) rfl hb_32 rfl (go 1 2 (RS.nil ?_))))))))
      exact T.sub (hK () trivial) ⟨rfl,rfl,rfl,rfl,rfl,rfl,(congrArg AV.bool ((congrArg (fun p=>p) (Option.some.inj hz)).symm)).symm,trivial⟩
     replace hz:=ite_F hz hb_32
     obtain ⟨x15,hx15,hz⟩:=bind_some hz
     refine yg 2 hb_32 (yg 2 hb_32 (yQ hb_32 (Jpa Tryz.underlying9 rfl rfl hx15 (yg 2 hb_32 (yg 2 hb_32 (yg 2 hb_32 ?_))))))
     rcases Qca (s10==(IntKind.i64.wrap (x15.toNat:Int))) with hb_33 | hb_33
     ·replace hz:=ite_T hz hb_33
      refine yg 2 hb_33 (yg 2 hb_33 (yg 2 hb_33 (yQ hb_32 (Qha (v:=.bool (decide (((x14.1).length:Int) > 3))) rfl hb_33 rfl (yg 2 hb_32 ?_)))))
      rcases Qca (decide (((x14.1).length:Int) > 3)) with hb_34 | hb_34
      ·replace hz:=ite_T hz hb_34
       refine yg 2 hb_34 (yg 2 hb_34 (yg 2 hb_34 (yQ hb_32 (Qha (v:=.bool (decide (((x14.1).length:Int)<53))) rfl hb_34 rfl (sQ (Qda (v:=.bool (decide (((x14.1).length:Int)<53))) rfl hb_32 rfl (go 1 2 (RS.nil ?_))))))))
       exact T.sub (hK () trivial) ⟨rfl,rfl,rfl,rfl,rfl,rfl,(congrArg AV.bool ((congrArg (fun p=>p) (Option.some.inj hz)).symm)).symm,trivial⟩
      replace hz:=ite_F hz hb_34
      refine sN hb_34 (sN hb_34 (sN hb_34 (yQ hb_32 (Qda (v:=.bool false) rfl hb_34 rfl (sQ (Qda (v:=.bool false) rfl hb_32 rfl (go 1 2 (RS.nil ?_))))))))
      exact T.sub (hK () trivial) ⟨rfl,rfl,rfl,rfl,rfl,rfl,(congrArg AV.bool ((congrArg (fun p=>p) (Option.some.inj hz)).symm)).symm,trivial⟩
     replace hz:=ite_F hz hb_33
     refine sN hb_33 (sN hb_33 (sN hb_33 (yQ hb_32 (Qda (v:=.bool false) rfl hb_33 rfl (yg 2 hb_32 (sN rfl (sN rfl (sN rfl (yQ hb_32 (Qda (v:=.bool false) rfl rfl rfl (sQ (Qda (v:=.bool false) rfl hb_32 rfl ?_))))))))))))
     refine go 1 2 (RS.nil ?_)
     exact T.sub (hK () trivial) ⟨rfl,rfl,rfl,rfl,rfl,rfl,(congrArg AV.bool ((congrArg (fun p=>p) (Option.some.inj hz)).symm)).symm,trivial⟩
    refine T.exit ?_
    obtain ⟨w_42,h,hw_42⟩:=Qpa h
    replace h:=h.trans (congrArg some (hv_30 _ hw_42))
    refine T.seq ?_
    obtain ⟨x25,hx25,h⟩:=bind_some h
    refine T.drawn mixed (k:=7) rfl (rq [0,1] 5 (r0 2 rfl (Jpa Tryz.underlying9 rfl rfl hx25 (rq [3,4,5,6] 0 (RA.done (by decide +kernel) ?_)))))
    cases h
    exact tD
   refine T.region (go 3 2 ?_)
   rcases Qca (!x5.2) with hb_4 | hb_4
   ·replace hz:=ite_T hz hb_4
    refine sN hb_4 (sN hb_4 (sN hb_4 (sQ (Qha (v:=.bool true) rfl hb_4 rfl (go 1 2 (sN rfl (sN rfl (sN rfl (sN rfl (sQ (Qha (v:=.bool true) rfl rfl rfl ?_)))))))))))
    refine go 1 2 (sN rfl (sN rfl (sN rfl (sN rfl (sQ (Qha (v:=.bool true) rfl rfl rfl (RS.nil ?_)))))))
    exact T.weakR (hK () trivial) (Weak.mkN [] [1,0] (by decide) (Qsa _) rfl ⟨Zua rfl,rn_func ⟨Qma rfl,Qma rfl,trivial⟩,Zua rfl,Joa ((congrArg (fun p=>p) (Option.some.inj hz)).symm),trivial⟩ (rw_bs [iI p1] rfl (rw_bs (Q9a p0) rfl (Qoa))))
   replace hz:=ite_F hz hb_4
   refine yg 2 hb_4 (yg 2 hb_4 (yg 2 hb_4 (sQ (Qda (v:=.bool (((x5.1).length:Int) != 3)) rfl hb_4 rfl (go 1 2 ?_)))))
   rcases Qca (((x5.1).length:Int) != 3) with hb_5 | hb_5
   ·replace hz:=ite_T hz hb_5
    refine sN hb_5 (sN hb_5 (sN hb_5 (sN hb_5 (sQ (Qha (v:=.bool true) rfl hb_5 rfl (go 1 2 (sN rfl (sN rfl (sN rfl (sN rfl ?_))))))))))
    refine sQ (Qha (v:=.bool true) rfl rfl rfl (RS.nil ?_))
    exact T.weakR (hK () trivial) (Weak.mkN [] [1,0] (by decide) (Qsa _) rfl ⟨Zua rfl,rn_func ⟨Qma rfl,Qma rfl,trivial⟩,Zua rfl,Joa ((congrArg (fun p=>p) (Option.some.inj hz)).symm),trivial⟩ (rw_bs [iI p1] rfl (rw_bs (Q9a p0) rfl (Qoa))))
   replace hz:=ite_F hz hb_5
   obtain ⟨x6,hx6,hz⟩:=bind_some hz
   refine yg 2 hb_5 (yQ hb_5 (Jpa Tryz.underlying9 rfl rfl hx6 (yg 2 hb_5 (yg 2 hb_5 (sQ (Qda (v:=.bool (decide ((IntKind.i64.wrap (x6.toNat:Int)) > 200))) rfl hb_5 rfl (go 1 2 ?_)))))))
   rcases Qca (decide ((IntKind.i64.wrap (x6.toNat:Int)) > 200)) with hb_6 | hb_6
   ·replace hz:=ite_T hz hb_6
    refine sN hb_6 (sN hb_6 (sN hb_6 (sN hb_6 (sQ (Qha (v:=.bool true) rfl hb_6 rfl (RS.nil ?_))))))
    exact T.weakR (hK () trivial) (Weak.mkN [] [1,0] (by decide) (Qsa _) rfl ⟨Zua rfl,rn_func ⟨Qma rfl,Qma rfl,trivial⟩,Zua rfl,Joa ((congrArg (fun p=>p) (Option.some.inj hz)).symm),trivial⟩ (rw_bs [iI p1] rfl (rw_bs (Q9a p0) rfl (Qoa))))
   replace hz:=ite_F hz hb_6
   obtain ⟨x7,hx7,hz⟩:=bind_some hz
   refine yg 2 hb_6 (yQ hb_6 (Jpa Tryz.underlying9 rfl rfl hx7 (yg 2 hb_6 (yg 2 hb_6 (sQ (Qda (v:=.bool (decide ((IntKind.i64.wrap (x7.toNat:Int)) ≥ 60))) rfl hb_6 rfl (RS.nil ?_)))))))
   exact T.weakR (hK () trivial) (Weak.mkN [] [1,0] (by decide) (Qsa _) rfl ⟨Zua rfl,rn_func ⟨Qma rfl,Qma rfl,trivial⟩,Zua rfl,Joa ((congrArg (fun p=>p) (Option.some.inj hz)).symm),trivial⟩ (rw_bs [iI p1] rfl (rw_bs (Q9a p0) rfl (Qoa))))
  refine T.region (go 3 2 ?_)
  rcases Qca (decide (p1<0)) with hb_2 | hb_2
  ·refine sN hb_2 (sN hb_2 (sQ (Qha (v:=.bool true) rfl hb_2 rfl (RS.nil ?_))))
   exact T.sub (hK () trivial) ⟨rfl,rfl,rfl,(congrArg AV.bool (by simp only [hb_2,bz,if_true,if_false,Bool.false_eq_true])).symm,trivial⟩
  refine yg 2 hb_2 (yg 2 hb_2 (sQ (Qda (v:=.bool (decide (p1 > 1))) rfl hb_2 rfl (RS.nil ?_))))
  exact T.sub (hK () trivial) ⟨rfl,rfl,rfl,(congrArg AV.bool (by simp only [hb_2,bz,if_true,if_false,Bool.false_eq_true])).symm,trivial⟩
theorem slices_Equal_int_c (p0:List Int) (p1:List Int) (r:Bool) (h:Y7a p0 p1=some r):Fn Tryz.prog 56 [sL encI p0,sL encI p1] (.bool r):=by
  unfold Y7a at h
  refine fnT 0 Tryz.func56 Tryz.ntmps56 ?_
  refine T.seq (T.region (go 1 0 (RS.nil (T.seq (T.seq (T.region (go 1 0 (sQ (Qfa Ty.s49 rfl (go 1 0 ?_))))))))))
  refine sQ (Qfa Ty.s49 rfl (go 1 0 (RS.nil (T.ci h rfl (fun hb_1 h=>?_) (fun hb_1 h=>?_)))))
  ·refine T.seq (T.region (go 1 0 (RS.nil ?_)))
   cases h
   exact tD
  refine T.skip (T.seq (T.seq (T.region (go 1 0 (sQ (Qfa Ty.s49 rfl (go 1 0 (RS.nil (T.block (T.iter (fun ss_6:Int=>mkA 26 [(0,sL encI p0),(1,sL encI p1),(12,iI ((p0).length:Int)),(13,iI ss_6)]) (fun ss_6=>[]) h (wk [] [] 0 rfl) (fun ss_6 v_7 h hv_7=>?_)))))))))))
  revert hv_7 h;revert ss_6;intro s1 h hv_7
  replace h:Yba p0 p1 s1=some v_7:=h
  try dsimp only
  unfold Yba at h
  refine T.seq (T.region (go 1 0 (RS.nil (T.seq (T.ci h rfl (fun hb_8 h=>?_) (fun hb_8 h=>?_))))))
  ·refine T.skip (T.seq (T.block (T.seq (T.region (go 2 0 (RS.nil (T.seq ?_)))))))
   obtain ⟨x4,hx4,h⟩:=bind_some h
   obtain ⟨x5,hx5,h⟩:=bind_some h
   refine T.drawn mixed (k:=9) rfl (rq [0,1] 7 (r0 2 rfl (Qga Ty.s49 (fun _=>rfl) rfl rfl hx4 (rq [4,5] 4 (r0 6 rfl (Qga Ty.s49 (fun _=>rfl) rfl rfl hx5 (rL [3,8] 3 rfl (ra1 7 (og 0 ⟨rfl,(rq [8] 0 (RA.done (by decide +kernel) ?_))⟩)))))))))
   refine T.ci h rfl (fun hb_9 h=>?_) (fun hb_9 h=>?_)
   ·refine T.seq (T.region (go 1 0 (RS.nil ?_)))
    obtain ⟨w_10,h,hw_10⟩:=Qpa h
    replace h:=h.trans (congrArg some (hv_7 _ hw_10))
    cases h
    exact tD
   refine T.skip (T.region (go 2 0 (RS.nil ?_)))
   exact ⟨IntKind.i64.wrap (s1+1),(Option.some.inj h).symm,wk [] [] 0 rfl⟩
  refine T.exit ?_
  obtain ⟨w_11,h,hw_11⟩:=Qpa h
  replace h:=h.trans (congrArg some (hv_7 _ hw_11))
  refine T.seq (T.region (go 1 0 (RS.nil ?_)))
  cases h
  exact tD
theorem slices_Equal_Item_c (p0:List Item) (p1:List Item) (r:Bool) (h:Yta p0 p1=some r):Fn Tryz.prog 82 [sL Qaa p0,sL Qaa p1] (.bool r):=by
  unfold Yta at h
  refine fnT 0 Tryz.func82 Tryz.ntmps82 ?_
  refine T.seq (T.region (go 1 0 (RS.nil (T.seq (T.seq (T.region (go 1 0 (sQ (Qfa Ty.s52 rfl (go 1 0 ?_))))))))))
  refine sQ (Qfa Ty.s52 rfl (go 1 0 (RS.nil (T.ci h rfl (fun hb_1 h=>?_) (fun hb_1 h=>?_)))))
  ·refine T.seq (T.region (go 1 0 (RS.nil ?_)))
   cases h
   exact tD
  refine T.skip (T.seq (T.seq (T.region (go 1 0 (sQ (Qfa Ty.s52 rfl (go 1 0 (RS.nil (T.block (T.iter (fun ss_6:Int=>mkA 26 [(0,sL Qaa p0),(1,sL Qaa p1),(12,iI ((p0).length:Int)),(13,iI ss_6)]) (fun ss_6=>[]) h (wk [] [] 0 rfl) (fun ss_6 v_7 h hv_7=>?_)))))))))))
  revert hv_7 h;revert ss_6;intro s1 h hv_7
  replace h:Vya p0 p1 s1=some v_7:=h
  try dsimp only
  unfold Vya at h
  refine T.seq (T.region (go 1 0 (RS.nil (T.seq (T.ci h rfl (fun hb_8 h=>?_) (fun hb_8 h=>?_))))))
  ·refine T.skip (T.seq (T.block (T.seq (T.region (go 2 0 (RS.nil (T.seq ?_)))))))
   obtain ⟨x4,hx4,h⟩:=bind_some h
   obtain ⟨x5,hx5,h⟩:=bind_some h
   refine T.drawn mixed (k:=9) rfl (rq [0,1] 7 (r0 2 rfl (Qga Ty.s52 (fun _=>rfl) rfl rfl hx4 (rq [4,5] 4 (r0 6 rfl (Qga Ty.s52 (fun _=>rfl) rfl rfl hx5 (rL [3,8] 3 rfl (ra1 7 (og 0 ⟨rfl,(r0 8 rfl (v_gneq (cs:=[iI x4.Key,iI x4.Val,iI x4.Dep]) (ds:=[iI x5.Key,iI x5.Val,iI x5.Dep]) (r:=x4==x5) Ty.q115 rfl rfl rfl rfl (encItem_eq x4 x5) (RA.done (by decide +kernel) ?_)))⟩)))))))))
   refine T.ci h rfl (fun hb_9 h=>?_) (fun hb_9 h=>?_)
   ·refine T.seq (T.region (go 1 0 (RS.nil ?_)))
    obtain ⟨w_10,h,hw_10⟩:=Qpa h
    replace h:=h.trans (congrArg some (hv_7 _ hw_10))
    cases h
    exact tD
   refine T.skip (T.region (go 2 0 (RS.nil ?_)))
   exact ⟨IntKind.i64.wrap (s1+1),(Option.some.inj h).symm,wk [] [] 0 rfl⟩
  refine T.exit ?_
  obtain ⟨w_11,h,hw_11⟩:=Qpa h
  replace h:=h.trans (congrArg some (hv_7 _ hw_11))
  refine T.seq (T.region (go 1 0 (RS.nil ?_)))
  cases h
  exact tD
theorem crossref_SameItems_c (p0:List Item) (p1:List Item) (r:Bool) (h:Vua p0 p1=some r):Fn Tryz.prog 58 [sL Qaa p0,sL Qaa p1] (.bool r):=by
  unfold Vua at h
  refine fnT 0 Tryz.func58 Tryz.ntmps58 ?_
  refine T.seq (T.region (go 1 0 (RS.nil (T.seq ?_))))
  obtain ⟨x2,hx2,h⟩:=bind_some h
  refine T.region (go 2 0 (sO (cF (slices_Equal_Item_c p0 p1 x2 hx2) ⟨rfl,(go 1 0 (RS.nil ?_))⟩)))
  cases h
  exact tD
theorem Vfa (p0:List (List Item)) (p1:List (List Item)) (r:Bool) (h:Q1a p0 p1=some r):Fn Tryz.prog 57 [sL (encL Qaa) p0,sL (encL Qaa) p1,.func 58 []] (.bool r):=by
  unfold Q1a at h
  refine fnT 0 Tryz.func57 Tryz.ntmps57 ?_
  refine T.seq (T.region (go 1 0 (RS.nil (T.seq (T.seq (T.region (go 1 0 (sQ (Qfa Ty.s48 rfl (go 1 0 ?_))))))))))
  refine sQ (Qfa Ty.s48 rfl (go 1 0 (RS.nil (T.ci h rfl (fun hb_1 h=>?_) (fun hb_1 h=>?_)))))
  ·refine T.seq (T.region (go 1 0 (RS.nil ?_)))
   cases h
   exact tD
  refine T.skip (T.seq (T.seq (T.region (go 1 0 (sQ (Qfa Ty.s48 rfl (go 1 0 (RS.nil (T.block (T.iter (fun ss_6:Int=>mkA 32 [(1,sL (encL Qaa) p1),(2,.func 58 []),(15,sL (encL Qaa) p0),(16,iI ((p0).length:Int)),(17,iI ss_6)]) (fun ss_6=>[]) h (wk [] [] 0 rfl) (fun ss_6 v_7 h hv_7=>?_)))))))))))
  revert hv_7 h;revert ss_6;intro s1 h hv_7
  replace h:Q0a p0 p1 s1=some v_7:=h
  try dsimp only
  unfold Q0a at h
  refine T.seq (T.region (go 1 0 (RS.nil (T.seq (T.ci h rfl (fun hb_8 h=>?_) (fun hb_8 h=>?_))))))
  ·refine T.skip (T.seq (T.block (T.seq ?_)))
   obtain ⟨x3,hx3,h⟩:=bind_some h
   refine T.region (go 1 0 (sQ (Qga Ty.s48 (fun _=>rfl) rfl rfl hx3 (go 3 0 (RS.nil (T.seq ?_))))))
   obtain ⟨x5,hx5,h⟩:=bind_some h
   refine T.region (go 2 0 (sQ (Qga Ty.s48 (fun _=>rfl) rfl rfl hx5 (go 2 0 (RS.nil (T.seq ?_))))))
   obtain ⟨x7,hx7,h⟩:=bind_some h
   refine T.region (go 3 0 (sO (cF (crossref_SameItems_c x3 x5 x7 hx7) ⟨rfl,(go 1 0 (RS.nil (T.ci h rfl (fun hb_9 h=>?_) (fun hb_9 h=>?_))))⟩)))
   ·refine T.seq (T.region (go 1 0 (RS.nil ?_)))
    obtain ⟨w_10,h,hw_10⟩:=Qpa h
    replace h:=h.trans (congrArg some (hv_7 _ hw_10))
    cases h
    exact tD
   refine T.skip (T.region (go 2 0 (RS.nil ?_)))
   exact ⟨IntKind.i64.wrap (s1+1),(Option.some.inj h).symm,wk [] [] 0 rfl⟩
  refine T.exit ?_
  obtain ⟨w_11,h,hw_11⟩:=Qpa h
  replace h:=h.trans (congrArg some (hv_7 _ hw_11))
  refine T.seq (T.region (go 1 0 (RS.nil ?_)))
  cases h
  exact tD
theorem slices_Equal_Keyed_c (p0:List Keyed) (p1:List Keyed) (r:Bool) (h:Yla p0 p1=some r):Fn Tryz.prog 83 [sL Qla p0,sL Qla p1] (.bool r):=by
  unfold Yla at h
  refine fnT 0 Tryz.func83 Tryz.ntmps83 ?_
  refine T.seq (T.region (go 1 0 (RS.nil (T.seq (T.seq (T.region (go 1 0 (sQ (Qfa Ty.s88 rfl (go 1 0 ?_))))))))))
  refine sQ (Qfa Ty.s88 rfl (go 1 0 (RS.nil (T.ci h rfl (fun hb_1 h=>?_) (fun hb_1 h=>?_)))))
  ·refine T.seq (T.region (go 1 0 (RS.nil ?_)))
   cases h
   exact tD
  refine T.skip (T.seq (T.seq (T.region (go 1 0 (sQ (Qfa Ty.s88 rfl (go 1 0 (RS.nil (T.block (T.iter (fun ss_6:Int=>mkA 26 [(0,sL Qla p0),(1,sL Qla p1),(12,iI ((p0).length:Int)),(13,iI ss_6)]) (fun ss_6=>[]) h (wk [] [] 0 rfl) (fun ss_6 v_7 h hv_7=>?_)))))))))))
  revert hv_7 h;revert ss_6;intro s1 h hv_7
  replace h:Vpa p0 p1 s1=some v_7:=h
  try dsimp only
  unfold Vpa at h
  refine T.seq (T.region (go 1 0 (RS.nil (T.seq (T.ci h rfl (fun hb_8 h=>?_) (fun hb_8 h=>?_))))))
  ·refine T.skip (T.seq (T.block (T.seq (T.region (go 2 0 (RS.nil (T.seq ?_)))))))
   obtain ⟨x4,hx4,h⟩:=bind_some h
   obtain ⟨x5,hx5,h⟩:=bind_some h
   refine T.drawn mixed (k:=9) rfl (rq [0,1] 7 (r0 2 rfl (Qga Ty.s88 (fun _=>rfl) rfl rfl hx4 (rq [4,5] 4 (r0 6 rfl (Qga Ty.s88 (fun _=>rfl) rfl rfl hx5 (rL [3,8] 3 rfl (ra1 7 (og 0 ⟨rfl,(r0 8 rfl (v_gneq (cs:=[iI x4.Key,iI x4.N]) (ds:=[iI x5.Key,iI x5.N]) (r:=x4==x5) Ty.q92 rfl rfl rfl rfl (encKeyed_eq x4 x5) (RA.done (by decide +kernel) ?_)))⟩)))))))))
   refine T.ci h rfl (fun hb_9 h=>?_) (fun hb_9 h=>?_)
   ·refine T.seq (T.region (go 1 0 (RS.nil ?_)))
    obtain ⟨w_10,h,hw_10⟩:=Qpa h
    replace h:=h.trans (congrArg some (hv_7 _ hw_10))
    cases h
    exact tD
   refine T.skip (T.region (go 2 0 (RS.nil ?_)))
   exact ⟨IntKind.i64.wrap (s1+1),(Option.some.inj h).symm,wk [] [] 0 rfl⟩
  refine T.exit ?_
  obtain ⟨w_11,h,hw_11⟩:=Qpa h
  replace h:=h.trans (congrArg some (hv_7 _ hw_11))
  refine T.seq (T.region (go 1 0 (RS.nil ?_)))
  cases h
  exact tD
theorem crossref_SameMemory_c (p0:Memory) (p1:Memory) (r:Bool) (h:Yaa p0 p1=some r):Fn Tryz.prog 60 [.agg (Qba p0),.agg (Qba p1)] (.bool r):=by
  unfold Yaa at h
  refine fnT 0 Tryz.func60 Tryz.ntmps60 ?_
  refine T.seq (T.region (go 3 0 (RS.nil ?_)))
  obtain ⟨zt_3,hz,h⟩:=bind_some h
  revert hz h;revert zt_3;intro c2 hz h
  refine T.join (Z:=Unit) (fun _=>mkA 24 [(4,.bool c2)]) (fun _=>[]) (fun _=>True) (fun _ _=>?_) (fun hK=>?_)
  ·cases h
   exact tD
  refine T.region (go 6 2 ?_)
  rcases Qca (p0.Sum==p1.Sum) with hb_1 | hb_1
  ·replace hz:=ite_T hz hb_1
   refine yg 2 hb_1 (yg 2 hb_1 (yg 2 hb_1 (yg 2 hb_1 (yg 2 hb_1 (sQ (Qha (v:=.bool (p0.Dep==p1.Dep)) rfl hb_1 rfl (go 1 2 ?_)))))))
   rcases Qca (p0.Dep==p1.Dep) with hb_2 | hb_2
   ·replace hz:=ite_T hz hb_2
    obtain ⟨x1,hx1,hz⟩:=bind_some hz
    refine yg 2 hb_2 (yg 2 hb_2 (yg 2 hb_2 (yg 2 hb_2 (yO hb_2 (cF (slices_Equal_Keyed_c p0.Keys p1.Keys x1 hx1) ⟨rfl,(sQ (Qha (v:=.bool x1) rfl hb_2 rfl (go 1 2 (RS.nil ?_))))⟩)))))
    exact T.weakR (hK () trivial) (Weak.mkN [] [] (by decide) (Qsa _) rfl ⟨Joa ((congrArg (fun p=>p) (Option.some.inj hz)).symm),trivial⟩ (Qoa))
   replace hz:=ite_F hz hb_2
   refine sN hb_2 (sN hb_2 (sN hb_2 (sN hb_2 (sN hb_2 (sQ (Qda (v:=.bool false) rfl hb_2 rfl (go 1 2 (RS.nil ?_))))))))
   exact T.weakR (hK () trivial) (Weak.mkN [] [] (by decide) (Qsa _) rfl ⟨Joa ((congrArg (fun p=>p) (Option.some.inj hz)).symm),trivial⟩ (Qoa))
  replace hz:=ite_F hz hb_1
  refine sN hb_1 (sN hb_1 (sN hb_1 (sN hb_1 (sN hb_1 (sQ (Qda (v:=.bool false) rfl hb_1 rfl (go 1 2 (sN rfl (sN rfl (sN rfl ?_))))))))))
  refine sN rfl (sN rfl (sQ (Qda (v:=.bool false) rfl rfl rfl (go 1 2 (RS.nil ?_)))))
  exact T.weakR (hK () trivial) (Weak.mkN [] [] (by decide) (Qsa _) rfl ⟨Joa ((congrArg (fun p=>p) (Option.some.inj hz)).symm),trivial⟩ (Qoa))
theorem Z9a (p0:List Memory) (p1:List Memory) (r:Bool) (h:Qza p0 p1=some r):Fn Tryz.prog 59 [sL Qba p0,sL Qba p1,.func 60 []] (.bool r):=by
  unfold Qza at h
  refine fnT 0 Tryz.func59 Tryz.ntmps59 ?_
  refine T.seq (T.region (go 1 0 (RS.nil (T.seq (T.seq (T.region (go 1 0 (sQ (Qfa Ty.s50 rfl (go 1 0 ?_))))))))))
  refine sQ (Qfa Ty.s50 rfl (go 1 0 (RS.nil (T.ci h rfl (fun hb_1 h=>?_) (fun hb_1 h=>?_)))))
  ·refine T.seq (T.region (go 1 0 (RS.nil ?_)))
   cases h
   exact tD
  refine T.skip (T.seq (T.seq (T.region (go 1 0 (sQ (Qfa Ty.s50 rfl (go 1 0 (RS.nil (T.block (T.iter (fun ss_6:Int=>mkA 32 [(1,sL Qba p1),(2,.func 60 []),(15,sL Qba p0),(16,iI ((p0).length:Int)),(17,iI ss_6)]) (fun ss_6=>[]) h (wk [] [] 0 rfl) (fun ss_6 v_7 h hv_7=>?_)))))))))))
  revert hv_7 h;revert ss_6;intro s1 h hv_7
  replace h:Qxa p0 p1 s1=some v_7:=h
  try dsimp only
  unfold Qxa at h
  refine T.seq (T.region (go 1 0 (RS.nil (T.seq (T.ci h rfl (fun hb_8 h=>?_) (fun hb_8 h=>?_))))))
  ·refine T.skip (T.seq (T.block (T.seq ?_)))
   obtain ⟨x3,hx3,h⟩:=bind_some h
   refine T.region (go 1 0 (sQ (Qga Ty.s50 (fun _=>rfl) rfl rfl hx3 (go 4 0 (RS.nil (T.seq ?_))))))
   obtain ⟨x5,hx5,h⟩:=bind_some h
   refine T.region (go 2 1 (sQ (Qga Ty.s50 (fun _=>rfl) rfl rfl hx5 (go 3 1 (RS.nil (T.seq ?_))))))
   obtain ⟨x7,hx7,h⟩:=bind_some h
   refine T.region (go 3 2 (sO (cF (crossref_SameMemory_c x3 x5 x7 hx7) ⟨rfl,(go 1 2 (RS.nil (T.ci h rfl (fun hb_9 h=>?_) (fun hb_9 h=>?_))))⟩)))
   ·refine T.seq (T.region (go 1 2 (RS.nil ?_)))
    obtain ⟨w_10,h,hw_10⟩:=Qpa h
    replace h:=h.trans (congrArg some (hv_7 _ hw_10))
    cases h
    exact tD
   refine T.skip (T.region (go 2 2 (RS.nil ?_)))
   exact ⟨IntKind.i64.wrap (s1+1),(Option.some.inj h).symm,wk [] [] 2 rfl⟩
  refine T.exit ?_
  obtain ⟨w_11,h,hw_11⟩:=Qpa h
  replace h:=h.trans (congrArg some (hv_7 _ hw_11))
  refine T.seq (T.region (go 1 0 (RS.nil ?_)))
  cases h
  exact tD
theorem slices_Equal_Choice_c (p0:List Choice) (p1:List Choice) (r:Bool) (h:V9a p0 p1=some r):Fn Tryz.prog 61 [sL Qea p0,sL Qea p1] (.bool r):=by
  unfold V9a at h
  refine fnT 0 Tryz.func61 Tryz.ntmps61 ?_
  refine T.seq (T.region (go 1 0 (RS.nil (T.seq (T.seq (T.region (go 1 0 (sQ (Qfa Ty.s51 rfl (go 1 0 ?_))))))))))
  refine sQ (Qfa Ty.s51 rfl (go 1 0 (RS.nil (T.ci h rfl (fun hb_1 h=>?_) (fun hb_1 h=>?_)))))
  ·refine T.seq (T.region (go 1 0 (RS.nil ?_)))
   cases h
   exact tD
  refine T.skip (T.seq (T.seq (T.region (go 1 0 (sQ (Qfa Ty.s51 rfl (go 1 0 (RS.nil (T.block (T.iter (fun ss_6:Int=>mkA 26 [(0,sL Qea p0),(1,sL Qea p1),(12,iI ((p0).length:Int)),(13,iI ss_6)]) (fun ss_6=>[]) h (wk [] [] 0 rfl) (fun ss_6 v_7 h hv_7=>?_)))))))))))
  revert hv_7 h;revert ss_6;intro s1 h hv_7
  replace h:Vha p0 p1 s1=some v_7:=h
  try dsimp only
  unfold Vha at h
  refine T.seq (T.region (go 1 0 (RS.nil (T.seq (T.ci h rfl (fun hb_8 h=>?_) (fun hb_8 h=>?_))))))
  ·refine T.skip (T.seq (T.block (T.seq (T.region (go 2 0 (RS.nil (T.seq ?_)))))))
   obtain ⟨x4,hx4,h⟩:=bind_some h
   obtain ⟨x5,hx5,h⟩:=bind_some h
   refine T.drawn mixed (k:=9) rfl (rq [0,1] 7 (r0 2 rfl (Qga Ty.s51 (fun _=>rfl) rfl rfl hx4 (rq [4,5] 4 (r0 6 rfl (Qga Ty.s51 (fun _=>rfl) rfl rfl hx5 (rL [3,8] 3 rfl (ra1 7 (og 0 ⟨rfl,(r0 8 rfl (v_gneq (cs:=[iI x4.Node,iI x4.Lane]) (ds:=[iI x5.Node,iI x5.Lane]) (r:=x4==x5) Ty.q94 rfl rfl rfl rfl (encChoice_eq x4 x5) (RA.done (by decide +kernel) ?_)))⟩)))))))))
   refine T.ci h rfl (fun hb_9 h=>?_) (fun hb_9 h=>?_)
   ·refine T.seq (T.region (go 1 0 (RS.nil ?_)))
    obtain ⟨w_10,h,hw_10⟩:=Qpa h
    replace h:=h.trans (congrArg some (hv_7 _ hw_10))
    cases h
    exact tD
   refine T.skip (T.region (go 2 0 (RS.nil ?_)))
   exact ⟨IntKind.i64.wrap (s1+1),(Option.some.inj h).symm,wk [] [] 0 rfl⟩
  refine T.exit ?_
  obtain ⟨w_11,h,hw_11⟩:=Qpa h
  replace h:=h.trans (congrArg some (hv_7 _ hw_11))
  refine T.seq (T.region (go 1 0 (RS.nil ?_)))
  cases h
  exact tD
theorem crossref_SameState_c (p0:State) (p1:State) (r:Bool) (h:Yia p0 p1=some r):Fn Tryz.prog 22 [.agg (Qta p0),.agg (Qta p1)] (.bool r):=by
  unfold Yia at h
  refine fnT 0 Tryz.func22 Tryz.ntmps22 ?_
  refine T.seq (T.region (go 3 0 (RS.nil ?_)))
  obtain ⟨x1,hx1,h⟩:=bind_some h
  obtain ⟨zt_5,hz,h⟩:=bind_some h
  revert hz h;revert zt_5;intro c6 hz h
  refine T.join (Z:=Unit) (fun _=>mkA 38 [(4,.bool c6)]) (fun _=>[]) (fun _=>True) (fun _ _=>?_) (fun hK=>?_)
  ·cases h
   exact tD
  refine T.region (go 4 2 (sO (cF (slices_Equal_int_c p0.At p1.At x1 hx1) ⟨rfl,(go 1 2 ?_)⟩)))
  rcases Qca x1 with hb_1 | hb_1
  ·replace hz:=ite_T hz hb_1
   obtain ⟨x2,hx2,hz⟩:=bind_some hz
   refine yg 2 hb_1 (yg 2 hb_1 (yg 2 hb_1 (yg 2 hb_1 (yO hb_1 (cF (Vfa p0.Rings p1.Rings x2 hx2) ⟨rfl,(sQ (Qha (v:=.bool x2) rfl hb_1 rfl (go 1 2 ?_)))⟩)))))
   rcases Qca x2 with hb_2 | hb_2
   ·replace hz:=ite_T hz hb_2
    obtain ⟨x3,hx3,hz⟩:=bind_some hz
    refine yg 2 hb_2 (yg 2 hb_2 (yg 2 hb_2 (yg 2 hb_2 (yO hb_2 (cF (Z9a p0.Memory p1.Memory x3 hx3) ⟨rfl,(sQ (Qha (v:=.bool x3) rfl hb_2 rfl (go 1 2 ?_)))⟩)))))
    rcases Qca x3 with hb_3 | hb_3
    ·replace hz:=ite_T hz hb_3
     obtain ⟨x4,hx4,hz⟩:=bind_some hz
     refine yg 2 hb_3 (yg 2 hb_3 (yg 2 hb_3 (yg 2 hb_3 (yO hb_3 (cF (slices_Equal_Choice_c p0.Choices p1.Choices x4 hx4) ⟨rfl,(sQ (Qha (v:=.bool x4) rfl hb_3 rfl (go 1 2 ?_)))⟩)))))
     rcases Qca x4 with hb_4 | hb_4
     ·replace hz:=ite_T hz hb_4
      obtain ⟨x5,hx5,hz⟩:=bind_some hz
      refine yg 2 hb_4 (yg 2 hb_4 (yg 2 hb_4 (yg 2 hb_4 (yO hb_4 (cF (crossref_SameItems_c p0.Out p1.Out x5 hx5) ⟨rfl,(sQ (Qha (v:=.bool x5) rfl hb_4 rfl (go 1 2 (RS.nil ?_))))⟩)))))
      exact T.weakR (hK () trivial) (Weak.mkN [] [] (by decide) (Qsa _) rfl ⟨Joa ((congrArg (fun p=>p) (Option.some.inj hz)).symm),trivial⟩ (Qoa))
     replace hz:=ite_F hz hb_4
     refine sN hb_4 (sN hb_4 (sN hb_4 (sN hb_4 (sN hb_4 (sQ (Qda (v:=.bool false) rfl hb_4 rfl (go 1 2 (RS.nil ?_))))))))
     exact T.weakR (hK () trivial) (Weak.mkN [] [] (by decide) (Qsa _) rfl ⟨Joa ((congrArg (fun p=>p) (Option.some.inj hz)).symm),trivial⟩ (Qoa))
    replace hz:=ite_F hz hb_3
    refine sN hb_3 (sN hb_3 (sN hb_3 (sN hb_3 (sN hb_3 (sQ (Qda (v:=.bool false) rfl hb_3 rfl (go 1 2 (sN rfl (sN rfl (sN rfl ?_))))))))))
    refine sN rfl (sN rfl (sQ (Qda (v:=.bool false) rfl rfl rfl (go 1 2 (RS.nil ?_)))))
    exact T.weakR (hK () trivial) (Weak.mkN [] [] (by decide) (Qsa _) rfl ⟨Joa ((congrArg (fun p=>p) (Option.some.inj hz)).symm),trivial⟩ (Qoa))
   replace hz:=ite_F hz hb_2
   refine sN hb_2 (sN hb_2 (sN hb_2 (sN hb_2 (sN hb_2 (sQ (Qda (v:=.bool false) rfl hb_2 rfl (go 1 2 (sN rfl (sN rfl (sN rfl ?_))))))))))
   refine sN rfl (sN rfl (sQ (Qda (v:=.bool false) rfl rfl rfl (go 1 2 (sN rfl (sN rfl (sN rfl (sN rfl (sN rfl (sQ (Qda (v:=.bool false) rfl rfl rfl ?_)))))))))))
   refine go 1 2 (RS.nil ?_)
   exact T.weakR (hK () trivial) (Weak.mkN [] [] (by decide) (Qsa _) rfl ⟨Joa ((congrArg (fun p=>p) (Option.some.inj hz)).symm),trivial⟩ (Qoa))
  replace hz:=ite_F hz hb_1
  refine sN hb_1 (sN hb_1 (sN hb_1 (sN hb_1 (sN hb_1 (sQ (Qda (v:=.bool false) rfl hb_1 rfl (go 1 2 (sN rfl (sN rfl (sN rfl ?_))))))))))
  refine sN rfl (sN rfl (sQ (Qda (v:=.bool false) rfl rfl rfl (go 1 2 (sN rfl (sN rfl (sN rfl (sN rfl (sN rfl (sQ (Qda (v:=.bool false) rfl rfl rfl ?_)))))))))))
  refine go 1 2 (sN rfl (sN rfl (sN rfl (sN rfl (sN rfl (sQ (Qda (v:=.bool false) rfl rfl rfl (go 1 2 (RS.nil ?_)))))))))
  exact T.weakR (hK () trivial) (Weak.mkN [] [] (by decide) (Qsa _) rfl ⟨Joa ((congrArg (fun p=>p) (Option.some.inj hz)).symm),trivial⟩ (Qoa))
theorem crosslaw_saved_c (r:Bool) (h:Y8a=some r):Fn Tryz.prog 8 [] (.bool r):=by
  unfold Y8a at h
  refine fnT 0 Tryz.func8 Tryz.ntmps8 ?_
  refine T.seq (T.region (go 1 0 (RS.nil (T.seq ?_))))
  obtain ⟨x6,hx6,h⟩:=bind_some h
  obtain ⟨x7,hx7,h⟩:=bind_some h
  obtain ⟨x10,hx10,h⟩:=bind_some h
  refine T.region (sO (cD (Qfb x6 hx6) ⟨rfl,(sO (cQ 0 (crosslaw_two_c x7 hx7) ⟨rfl,(sO (Qra (rows:=List.map encI [0,0,0]) (vs:=[iI 0,iI 0,iI 0]) Ty.s49 Ty.z3 rfl rfl rfl rfl rfl rfl (RS.fC 0 (RS.fC 1 (sO (cD (move_Play_c x6 x7 ([0,0,0]:List Int) x10 hx10) ⟨rfl,(go 6 2 (RS.nil (T.seq ?_)))⟩))))))⟩))⟩))
  obtain ⟨x14,hx14,h⟩:=bind_some h
  obtain ⟨x15,hx15,h⟩:=bind_some h
  obtain ⟨x16,hx16,h⟩:=bind_some h
  refine T.drawn mixed (k:=9) rfl ?_
  apply RA.jn 6 #[true,true,true,false,false,false,false,false,false];intro hS1
  apply RA.jn 7 #[true,false,true,false,false,false,false,false,false];intro hS2
  ·refine ra2 0 2 ?_ ?_
   ·refine oO rfl (cD (Qfb x14 hx14) ⟨rfl,(ra2 1 2 ?_ ?_)⟩)
    ·refine oO rfl (cQ 3 (crosslaw_two_c x15 hx15) ⟨rfl,(ra1 2 (og 4 ⟨rfl,?_⟩))⟩)
     exact raE hS1
    ·refine og 3 ⟨rfl,?_⟩
     exact raE hS2
   ·refine og 3 ⟨rfl,(ra1 0 (oO rfl (cD (Qfb x14 hx14) ⟨rfl,?_⟩)))⟩
    exact raT hS2
  ·refine ra1 1 (oO rfl (cQ 3 (crosslaw_two_c x15 hx15) ⟨rfl,?_⟩))
   exact raT hS1
  refine ra1 3 (oO rfl (cF (save_Bytes_c x14 x15 x10.1 x16 hx16) ⟨rfl,(rq [4,5,6,7,8] 0 (RA.done (by decide +kernel) (T.seq ?_)))⟩))
  obtain ⟨x21,hx21,h⟩:=bind_some h
  obtain ⟨x22,hx22,h⟩:=bind_some h
  obtain ⟨x24,hx24,h⟩:=bind_some h
  refine T.region (sO (cD (Qfb x21 hx21) ⟨rfl,(sO (cQ 4 (crosslaw_two_c x22 hx22) ⟨rfl,(go 1 5 (RS.fC 4 (sO (cD (save_Of_c x21 x22 x16.1 x24 hx24) ⟨rfl,(go 6 5 (RS.nil (T.seq ?_)))⟩))))⟩))⟩))
  obtain ⟨x26,hx26,h⟩:=bind_some h
  refine T.region (go 1 6 (sO (cD (save_Put_c (⟨[],[]⟩:Disk) (1:Int) (7:Int) ([97,98,99]:List UInt8) x26 hx26) ⟨rfl,(go 6 6 (RS.nil (T.seq ?_)))⟩)))
  obtain ⟨x28,hx28,h⟩:=bind_some h
  refine T.region (go 1 7 (sO (cD (disk_Flush_c x26.1 x28 hx28) ⟨rfl,(go 5 7 (RS.nil (T.seq ?_)))⟩)))
  obtain ⟨x30,hx30,h⟩:=bind_some h
  refine T.region (go 1 7 (sO (cF (save_Get_c x28.1 (1:Int) x30 hx30) ⟨rfl,(go 7 7 (RS.nil ?_))⟩)))
  obtain ⟨zt_12,hz,h⟩:=bind_some h
  revert hz h;revert zt_12;intro c32 hz h
  refine T.join (Z:=Unit) (fun _=>mkA 91 [(0,.bool c32)]) (fun _=>[]) (fun _=>True) (fun _ _=>?_) (fun hK=>?_)
  ·cases h
   exact tD
  refine T.region (go 3 7 ?_)
  rcases Qca (x16.2==0) with hb_3 | hb_3
  ·replace hz:=ite_T hz hb_3
   refine yg 7 hb_3 (yg 7 hb_3 (sQ (Qha (v:=.bool (x24.2==0)) rfl hb_3 rfl (go 1 7 ?_))))
   rcases Qca (x24.2==0) with hb_4 | hb_4
   ·replace hz:=ite_T hz hb_4
    refine yg 7 hb_4 (yg 7 hb_4 (sQ (Qha (v:=.bool (x26.2==0)) rfl hb_4 rfl (go 1 7 ?_))))
    rcases Qca (x26.2==0) with hb_5 | hb_5
    ·replace hz:=ite_T hz hb_5
     refine yg 7 hb_5 (yg 7 hb_5 (sQ (Qha (v:=.bool (x28.2==0)) rfl hb_5 rfl (go 1 7 ?_))))
     rcases Qca (x28.2==0) with hb_6 | hb_6
     ·replace hz:=ite_T hz hb_6
      refine yg 7 hb_6 (yg 7 hb_6 (sQ (Qha (v:=.bool (x30.2.2==0)) rfl hb_6 rfl (go 1 7 ?_))))
      rcases Qca (x30.2.2==0) with hb_7 | hb_7
      ·replace hz:=ite_T hz hb_7
       refine yg 7 hb_7 (yg 7 hb_7 (sQ (Qha (v:=.bool (!(x16.1==[]))) rfl hb_7 rfl (go 1 7 ?_))))
       rcases Qca (!(x16.1==[])) with hb_8 | hb_8
       ·replace hz:=ite_T hz hb_8
        obtain ⟨x31,hx31,hz⟩:=bind_some hz
        refine yg 7 hb_8 (yg 7 hb_8 (yO hb_8 (cF (crossref_SameState_c x10.1 x24.1 x31 hx31) ⟨rfl,(sQ (Qha (v:=.bool x31) rfl hb_8 rfl (go 1 7 ?_)))⟩)))
        rcases Qca x31 with hb_9 | hb_9
        ·replace hz:=ite_T hz hb_9
         refine yg 7 hb_9 (yg 7 hb_9 (yQ hb_9 (Qfa Ty.s51 rfl (yg 7 hb_9 (sQ (Qha (v:=.bool (((x10.1.Choices).length:Int)==1)) rfl hb_9 rfl (go 1 7 ?_)))))))
         rcases Qca (((x10.1.Choices).length:Int)==1) with hb_10 | hb_10
         ·replace hz:=ite_T hz hb_10
          refine yg 7 hb_10 (yg 7 hb_10 (sQ (Qha (v:=.bool (x30.1==[97,98,99])) rfl hb_10 rfl (go 1 7 ?_))))
          rcases Qca (x30.1==[97,98,99]) with hb_11 | hb_11
          ·replace hz:=ite_T hz hb_11
           refine yg 7 hb_11 (yg 7 hb_11 (sQ (Qha (v:=.bool (x30.2.1==7)) rfl hb_11 rfl (go 1 7 (RS.nil ?_)))))
           exact T.weakR (hK () trivial) (Weak.mkN [] [] (by decide) (Qsa _) rfl ⟨Joa ((congrArg (fun p=>p) (Option.some.inj hz)).symm),trivial⟩ (Qoa))
          replace hz:=ite_F hz hb_11
          refine sN hb_11 (sN hb_11 (sQ (Qda (v:=.bool false) rfl hb_11 rfl (go 1 7 (RS.nil ?_)))))
          exact T.weakR (hK () trivial) (Weak.mkN [] [] (by decide) (Qsa _) rfl ⟨Joa ((congrArg (fun p=>p) (Option.some.inj hz)).symm),trivial⟩ (Qoa))
         replace hz:=ite_F hz hb_10
         refine sN hb_10 (sN hb_10 (sQ (Qda (v:=.bool false) rfl hb_10 rfl (go 1 7 (sN rfl (sN rfl (sQ (Qda (v:=.bool false) rfl rfl rfl (go 1 7 (RS.nil ?_))))))))))
         exact T.weakR (hK () trivial) (Weak.mkN [] [] (by decide) (Qsa _) rfl ⟨Joa ((congrArg (fun p=>p) (Option.some.inj hz)).symm),trivial⟩ (Qoa))
        replace hz:=ite_F hz hb_9
        refine sN hb_9 (sN hb_9 (sN hb_9 (sN hb_9 (sQ (Qda (v:=.bool false) rfl hb_9 rfl (go 1 7 (sN rfl (sN rfl (sQ (Qda (v:=.bool false) rfl rfl rfl (go 1 7 ?_)))))))))))
        refine sN rfl (sN rfl (sQ (Qda (v:=.bool false) rfl rfl rfl (go 1 7 (RS.nil ?_)))))
        exact T.weakR (hK () trivial) (Weak.mkN [] [] (by decide) (Qsa _) rfl ⟨Joa ((congrArg (fun p=>p) (Option.some.inj hz)).symm),trivial⟩ (Qoa))
       replace hz:=ite_F hz hb_8
       refine sN hb_8 (sN hb_8 (sN hb_8 (sQ (Qda (v:=.bool false) rfl hb_8 rfl (go 1 7 (sN rfl (sN rfl (sN rfl (sN rfl (sQ (Qda (v:=.bool false) rfl rfl rfl ?_)))))))))))
       refine go 1 7 (sN rfl (sN rfl (sQ (Qda (v:=.bool false) rfl rfl rfl (go 1 7 (sN rfl (sN rfl (sQ (Qda (v:=.bool false) rfl rfl rfl (go 1 7 (RS.nil ?_)))))))))))
       exact T.weakR (hK () trivial) (Weak.mkN [] [] (by decide) (Qsa _) rfl ⟨Joa ((congrArg (fun p=>p) (Option.some.inj hz)).symm),trivial⟩ (Qoa))
      replace hz:=ite_F hz hb_7
      refine sN hb_7 (sN hb_7 (sQ (Qda (v:=.bool false) rfl hb_7 rfl (go 1 7 (sN rfl (sN rfl (sN rfl (sQ (Qda (v:=.bool false) rfl rfl rfl (go 1 7 (sN rfl ?_)))))))))))
      refine sN rfl (sN rfl (sN rfl (sQ (Qda (v:=.bool false) rfl rfl rfl (go 1 7 (sN rfl (sN rfl (sQ (Qda (v:=.bool false) rfl rfl rfl (go 1 7 (sN rfl ?_)))))))))))
      refine sN rfl (sQ (Qda (v:=.bool false) rfl rfl rfl (go 1 7 (RS.nil ?_))))
      exact T.weakR (hK () trivial) (Weak.mkN [] [] (by decide) (Qsa _) rfl ⟨Joa ((congrArg (fun p=>p) (Option.some.inj hz)).symm),trivial⟩ (Qoa))
     replace hz:=ite_F hz hb_6
     refine sN hb_6 (sN hb_6 (sQ (Qda (v:=.bool false) rfl hb_6 rfl (go 1 7 (sN rfl (sN rfl (sQ (Qda (v:=.bool false) rfl rfl rfl (go 1 7 (sN rfl (sN rfl ?_)))))))))))
     refine sN rfl (sQ (Qda (v:=.bool false) rfl rfl rfl (go 1 7 (sN rfl (sN rfl (sN rfl (sN rfl (sQ (Qda (v:=.bool false) rfl rfl rfl (go 1 7 (sN rfl ?_)))))))))))
     refine sN rfl (sQ (Qda (v:=.bool false) rfl rfl rfl (go 1 7 (sN rfl (sN rfl (sQ (Qda (v:=.bool false) rfl rfl rfl (go 1 7 (RS.nil ?_)))))))))
     exact T.weakR (hK () trivial) (Weak.mkN [] [] (by decide) (Qsa _) rfl ⟨Joa ((congrArg (fun p=>p) (Option.some.inj hz)).symm),trivial⟩ (Qoa))
    replace hz:=ite_F hz hb_5
    refine sN hb_5 (sN hb_5 (sQ (Qda (v:=.bool false) rfl hb_5 rfl (go 1 7 (sN rfl (sN rfl (sQ (Qda (v:=.bool false) rfl rfl rfl (go 1 7 (sN rfl (sN rfl ?_)))))))))))
    refine sQ (Qda (v:=.bool false) rfl rfl rfl (go 1 7 (sN rfl (sN rfl (sN rfl (sQ (Qda (v:=.bool false) rfl rfl rfl (go 1 7 (sN rfl (sN rfl (sN rfl ?_)))))))))))
    refine sN rfl (sQ (Qda (v:=.bool false) rfl rfl rfl (go 1 7 (sN rfl (sN rfl (sQ (Qda (v:=.bool false) rfl rfl rfl (go 1 7 (sN rfl (sN rfl (sQ (Qda (v:=.bool false) rfl rfl rfl ?_))))))))))))
    refine go 1 7 (RS.nil ?_)
    exact T.weakR (hK () trivial) (Weak.mkN [] [] (by decide) (Qsa _) rfl ⟨Joa ((congrArg (fun p=>p) (Option.some.inj hz)).symm),trivial⟩ (Qoa))
   replace hz:=ite_F hz hb_4
   refine sN hb_4 (sN hb_4 (sQ (Qda (v:=.bool false) rfl hb_4 rfl (go 1 7 (sN rfl (sN rfl (sQ (Qda (v:=.bool false) rfl rfl rfl (go 1 7 (sN rfl (sN rfl ?_)))))))))))
   refine sQ (Qda (v:=.bool false) rfl rfl rfl (go 1 7 (sN rfl (sN rfl (sQ (Qda (v:=.bool false) rfl rfl rfl (go 1 7 (sN rfl (sN rfl (sN rfl (sQ (Qda (v:=.bool false) rfl rfl rfl ?_))))))))))))
   refine go 1 7 (sN rfl (sN rfl (sN rfl (sN rfl (sQ (Qda (v:=.bool false) rfl rfl rfl (go 1 7 (sN rfl (sN rfl (sQ (Qda (v:=.bool false) rfl rfl rfl ?_)))))))))))
   refine go 1 7 (sN rfl (sN rfl (sQ (Qda (v:=.bool false) rfl rfl rfl (go 1 7 (RS.nil ?_))))))
   exact T.weakR (hK () trivial) (Weak.mkN [] [] (by decide) (Qsa _) rfl ⟨Joa ((congrArg (fun p=>p) (Option.some.inj hz)).symm),trivial⟩ (Qoa))
  replace hz:=ite_F hz hb_3
  refine sN hb_3 (sN hb_3 (sQ (Qda (v:=.bool false) rfl hb_3 rfl (go 1 7 (sN rfl (sN rfl (sQ (Qda (v:=.bool false) rfl rfl rfl (go 1 7 (sN rfl (sN rfl ?_)))))))))))
  refine sQ (Qda (v:=.bool false) rfl rfl rfl (go 1 7 (sN rfl (sN rfl (sQ (Qda (v:=.bool false) rfl rfl rfl (go 1 7 (sN rfl (sN rfl (sQ (Qda (v:=.bool false) rfl rfl rfl (go 1 7 ?_))))))))))))
  refine sN rfl (sN rfl (sN rfl (sQ (Qda (v:=.bool false) rfl rfl rfl (go 1 7 (sN rfl (sN rfl (sN rfl (sN rfl (sQ (Qda (v:=.bool false) rfl rfl rfl ?_)))))))))))
  refine go 1 7 (sN rfl (sN rfl (sQ (Qda (v:=.bool false) rfl rfl rfl (go 1 7 (sN rfl (sN rfl (sQ (Qda (v:=.bool false) rfl rfl rfl (go 1 7 (RS.nil ?_)))))))))))
  exact T.weakR (hK () trivial) (Weak.mkN [] [] (by decide) (Qsa _) rfl ⟨Joa ((congrArg (fun p=>p) (Option.some.inj hz)).symm),trivial⟩ (Qoa))
theorem slices_Equal_string_c (p0:List (List UInt8)) (p1:List (List UInt8)) (r:Bool) (h:J3a p0 p1=some r):Fn Tryz.prog 12 [sL encS p0,sL encS p1] (.bool r):=by
  unfold J3a at h
  refine fnT 0 Tryz.func12 Tryz.ntmps12 ?_
  refine T.seq (T.region (go 1 0 (RS.nil (T.seq (T.seq (T.region (go 1 0 (sQ (Qfa Ty.s22 rfl (go 1 0 ?_))))))))))
  refine sQ (Qfa Ty.s22 rfl (go 1 0 (RS.nil (T.ci h rfl (fun hb_1 h=>?_) (fun hb_1 h=>?_)))))
  ·refine T.seq (T.region (go 1 0 (RS.nil ?_)))
   cases h
   exact tD
  refine T.skip (T.seq (T.seq (T.region (go 1 0 (sQ (Qfa Ty.s22 rfl (go 1 0 (RS.nil (T.block (T.iter (fun ss_6:Int=>mkA 26 [(0,sL encS p0),(1,sL encS p1),(12,iI ((p0).length:Int)),(13,iI ss_6)]) (fun ss_6=>[]) h (wk [] [] 0 rfl) (fun ss_6 v_7 h hv_7=>?_)))))))))))
  revert hv_7 h;revert ss_6;intro s1 h hv_7
  replace h:Vea p0 p1 s1=some v_7:=h
  try dsimp only
  unfold Vea at h
  refine T.seq (T.region (go 1 0 (RS.nil (T.seq (T.ci h rfl (fun hb_8 h=>?_) (fun hb_8 h=>?_))))))
  ·refine T.skip (T.seq (T.block (T.seq (T.region (go 2 0 (RS.nil (T.seq ?_)))))))
   obtain ⟨x4,hx4,h⟩:=bind_some h
   obtain ⟨x5,hx5,h⟩:=bind_some h
   refine T.drawn mixed (k:=9) rfl (rq [0,1] 7 (r0 2 rfl (Qga Ty.s22 (fun _=>rfl) rfl rfl hx4 (rq [4,5] 4 (r0 6 rfl (Qga Ty.s22 (fun _=>rfl) rfl rfl hx5 (rL [3,8] 3 rfl (ra1 7 (og 0 ⟨rfl,(rq [8] 0 (RA.done (by decide +kernel) ?_))⟩)))))))))
   refine T.ci h rfl (fun hb_9 h=>?_) (fun hb_9 h=>?_)
   ·refine T.seq (T.region (go 1 0 (RS.nil ?_)))
    obtain ⟨w_10,h,hw_10⟩:=Qpa h
    replace h:=h.trans (congrArg some (hv_7 _ hw_10))
    cases h
    exact tD
   refine T.skip (T.region (go 2 0 (RS.nil ?_)))
   exact ⟨IntKind.i64.wrap (s1+1),(Option.some.inj h).symm,wk [] [] 0 rfl⟩
  refine T.exit ?_
  obtain ⟨w_11,h,hw_11⟩:=Qpa h
  replace h:=h.trans (congrArg some (hv_7 _ hw_11))
  refine T.seq (T.region (go 1 0 (RS.nil ?_)))
  cases h
  exact tD
theorem slices_Equal_Write_c (p0:List Write) (p1:List Write) (r:Bool) (h:Zaa p0 p1=some r):Fn Tryz.prog 13 [sL Q6a p0,sL Q6a p1] (.bool r):=by
  unfold Zaa at h
  refine fnT 0 Tryz.func13 Tryz.ntmps13 ?_
  refine T.seq (T.region (go 1 0 (RS.nil (T.seq (T.seq (T.region (go 1 0 (sQ (Qfa Ty.s23 rfl (go 1 0 ?_))))))))))
  refine sQ (Qfa Ty.s23 rfl (go 1 0 (RS.nil (T.ci h rfl (fun hb_1 h=>?_) (fun hb_1 h=>?_)))))
  ·refine T.seq (T.region (go 1 0 (RS.nil ?_)))
   cases h
   exact tD
  refine T.skip (T.seq (T.seq (T.region (go 1 0 (sQ (Qfa Ty.s23 rfl (go 1 0 (RS.nil (T.block (T.iter (fun ss_6:Int=>mkA 26 [(0,sL Q6a p0),(1,sL Q6a p1),(12,iI ((p0).length:Int)),(13,iI ss_6)]) (fun ss_6=>[]) h (wk [] [] 0 rfl) (fun ss_6 v_7 h hv_7=>?_)))))))))))
  revert hv_7 h;revert ss_6;intro s1 h hv_7
  replace h:Voa p0 p1 s1=some v_7:=h
  try dsimp only
  unfold Voa at h
  refine T.seq (T.region (go 1 0 (RS.nil (T.seq (T.ci h rfl (fun hb_8 h=>?_) (fun hb_8 h=>?_))))))
  ·refine T.skip (T.seq (T.block (T.seq (T.region (go 2 0 (RS.nil (T.seq ?_)))))))
   obtain ⟨x4,hx4,h⟩:=bind_some h
   obtain ⟨x5,hx5,h⟩:=bind_some h
   refine T.drawn mixed (k:=9) rfl (rq [0,1] 7 (r0 2 rfl (Qga Ty.s23 (fun _=>rfl) rfl rfl hx4 (rq [4,5] 4 (r0 6 rfl (Qga Ty.s23 (fun _=>rfl) rfl rfl hx5 (rL [3,8] 3 rfl (ra1 7 (og 0 ⟨rfl,(r0 8 rfl (v_gneq (cs:=[iI x4.At,.str x4.Bytes]) (ds:=[iI x5.At,.str x5.Bytes]) (r:=x4==x5) Ty.q34 rfl rfl rfl rfl (encWrite_eq x4 x5) (RA.done (by decide +kernel) ?_)))⟩)))))))))
   refine T.ci h rfl (fun hb_9 h=>?_) (fun hb_9 h=>?_)
   ·refine T.seq (T.region (go 1 0 (RS.nil ?_)))
    obtain ⟨w_10,h,hw_10⟩:=Qpa h
    replace h:=h.trans (congrArg some (hv_7 _ hw_10))
    cases h
    exact tD
   refine T.skip (T.region (go 2 0 (RS.nil ?_)))
   exact ⟨IntKind.i64.wrap (s1+1),(Option.some.inj h).symm,wk [] [] 0 rfl⟩
  refine T.exit ?_
  obtain ⟨w_11,h,hw_11⟩:=Qpa h
  replace h:=h.trans (congrArg some (hv_7 _ hw_11))
  refine T.seq (T.region (go 1 0 (RS.nil ?_)))
  cases h
  exact tD
theorem crossref_SameDisk_c (p0:Disk) (p1:Disk) (r:Bool) (h:Yva p0 p1=some r):Fn Tryz.prog 30 [.agg (Q9a p0),.agg (Q9a p1)] (.bool r):=by
  unfold Yva at h
  refine fnT 0 Tryz.func30 Tryz.ntmps30 ?_
  refine T.seq (T.region (go 3 0 (RS.nil ?_)))
  obtain ⟨x1,hx1,h⟩:=bind_some h
  obtain ⟨zt_2,hz,h⟩:=bind_some h
  revert hz h;revert zt_2;intro c3 hz h
  refine T.join (Z:=Unit) (fun _=>mkA 17 [(4,.bool c3)]) (fun _=>[]) (fun _=>True) (fun _ _=>?_) (fun hK=>?_)
  ·cases h
   exact tD
  refine T.region (go 4 2 (sO (cF (slices_Equal_string_c p0.Sectors p1.Sectors x1 hx1) ⟨rfl,(go 1 2 ?_)⟩)))
  rcases Qca x1 with hb_1 | hb_1
  ·replace hz:=ite_T hz hb_1
   obtain ⟨x2,hx2,hz⟩:=bind_some hz
   refine yg 2 hb_1 (yg 2 hb_1 (yg 2 hb_1 (yg 2 hb_1 (yO hb_1 (cF (slices_Equal_Write_c p0.Wait p1.Wait x2 hx2) ⟨rfl,(sQ (Qha (v:=.bool x2) rfl hb_1 rfl (go 1 2 (RS.nil ?_))))⟩)))))
   exact T.weakR (hK () trivial) (Weak.mkN [] [] (by decide) (Qsa _) rfl ⟨Joa ((congrArg (fun p=>p) (Option.some.inj hz)).symm),trivial⟩ (Qoa))
  replace hz:=ite_F hz hb_1
  refine sN hb_1 (sN hb_1 (sN hb_1 (sN hb_1 (sN hb_1 (sQ (Qda (v:=.bool false) rfl hb_1 rfl (go 1 2 (RS.nil ?_))))))))
  exact T.weakR (hK () trivial) (Weak.mkN [] [] (by decide) (Qsa _) rfl ⟨Joa ((congrArg (fun p=>p) (Option.some.inj hz)).symm),trivial⟩ (Qoa))
theorem crosslaw_noDisk_c (p0:Disk) (r:Bool) (h:Yra p0=some r):Fn Tryz.prog 9 [.agg (Q9a p0)] (.bool r):=by
  unfold Yra at h
  refine fnT 0 Tryz.func9 Tryz.ntmps9 ?_
  refine T.seq (T.region (go 2 0 (RS.nil (T.seq ?_))))
  obtain ⟨x2,hx2,h⟩:=bind_some h
  refine T.region (go 2 1 (sO (cF (crossref_SameDisk_c p0 (⟨[],[]⟩:Disk) x2 hx2) ⟨rfl,(go 1 1 (RS.nil ?_))⟩)))
  cases h
  exact tD
theorem crossref_SumOf_c (p0:List UInt8) (r:Int) (h:Jcb p0=some r):Fn Tryz.prog 31 [.str p0] (iI r):=by
  unfold Jcb at h
  refine fnT 0 Tryz.func31 Tryz.ntmps31 ?_
  refine T.seq (T.region (go 1 0 (RS.nil (T.seq ?_))))
  obtain ⟨x2,hx2,h⟩:=bind_some h
  refine T.region (go 4 0 (sO (o_mk0 (en:=enc8) Ty.s35 Ty.z5 rfl rfl hx2 rfl rfl (go 1 1 (RS.nil (T.seq (T.seq (T.region (go 3 1 (RS.nil ?_))))))))))
  refine T.block (T.iter (fun ss_15:Int × (List Int)=>mkA 97 [(0,.str p0),(3,.ref 0),(20,iI ((p0).length:Int)),(21,iI ss_15.1)]) (fun ss_15=>[aR 5 1 enc8 ss_15.2]) h (wk [] [0] 1 rfl) (fun ss_15 v_16 h hv_16=>?_))
  obtain ⟨s3,s4⟩:=ss_15
  replace h:Z1a p0 s3 s4=some v_16:=h
  try dsimp only
  unfold Z1a at h
  refine T.seq (T.region (go 1 1 (RS.nil (T.seq (T.ci h rfl (fun hb_17 h=>?_) (fun hb_17 h=>?_))))))
  ·refine T.skip (T.seq (T.block (T.seq (T.region (go 2 1 (RS.nil (T.seq (T.region (go 1 1 ?_)))))))))
   refine RS.nil (T.block (T.iter (fun ss_20:Int × (List Int)=>mkA 97 [(0,.str p0),(3,.ref 0),(4,iI s3),(5,iI ss_20.1),(20,iI ((p0).length:Int)),(21,iI s3)]) (fun ss_20=>[aR 5 1 enc8 ss_20.2]) h (wk [] [0] 1 rfl) (fun ss_20 v_21 h hv_21=>?_)))
   obtain ⟨s5,s6⟩:=ss_20
   replace h:Z0a p0 s3 s5 s6=some v_21:=h
   try dsimp only
   unfold Z0a at h
   refine T.seq (T.seq (T.region (go 2 1 (RS.nil (T.ci h rfl (fun hb_22 h=>?_) (fun hb_22 h=>?_))))))
   ·refine T.skip (T.seq (T.block ?_))
    obtain ⟨x7,hx7,h⟩:=bind_some h
    obtain ⟨x8,hx8,h⟩:=bind_some h
    obtain ⟨x9,hx9,h⟩:=bind_some h
    refine T.region (go 3 1 (sQ (Jpa Tryz.underlying9 rfl rfl hx7 (go 1 1 (sQ (v_shr rfl rfl hx8 (go 1 1 (sO (Qra (rows:=List.map enc8 [ibits .and .u8 x8 1]) (vs:=[.int .u8 (ibits .and .u8 x8 1)]) Ty.s35 Ty.z5 rfl rfl rfl rfl rfl rfl (sO (Zma (en:=enc8) (xs:=s6) (ys:=([ibits .and .u8 x8 1]:List Int)) Ty.s35 (fun _=>rfl) rfl rfl rfl hx9 rfl rfl (go 1 3 (RS.nil ?_)))))))))))))
    refine T.region (go 3 3 (RS.nil ?_))
    exact ⟨(IntKind.i64.wrap (s5 - 1),x9),(Option.some.inj h).symm,wk [] [2] 3 rfl⟩
   refine T.exit ?_
   obtain ⟨w_23,h,hw_23⟩:=Qpa h
   replace h:=h.trans (congrArg some (hv_21 _ hw_23))
   refine T.region (go 2 1 (RS.nil ?_))
   exact ⟨(IntKind.i64.wrap (s3+1),s6),(Option.some.inj h).symm,wk [] [0] 1 rfl⟩
  refine T.exit ?_
  obtain ⟨w_24,h,hw_24⟩:=Qpa h
  replace h:=h.trans (congrArg some (hv_16 _ hw_24))
  refine T.seq ?_
  obtain ⟨x11,hx11,h⟩:=bind_some h
  refine T.region (go 1 1 (sO (o_app_z (en:=enc8) (z0:=0) (xs:=s4) Ty.s35 Tryz.underlying3 Ty.z5 (fun _=>rfl) rfl rfl rfl hx11 rfl rfl (go 1 2 (RS.nil (T.seq (T.seq (T.region (go 1 2 (RS.nil ?_))))))))))
  refine T.block (T.iter (fun ss_27:Int × (List Int)=>mkA 97 [(3,.ref 0),(40,iI ss_27.1)]) (fun ss_27=>[aR 5 1 enc8 ss_27.2]) h (wk [] [1] 2 rfl) (fun ss_27 v_28 h hv_28=>?_))
  obtain ⟨s12,s13⟩:=ss_27
  replace h:Zza s12 s13=some v_28:=h
  try dsimp only
  unfold Zza at h
  refine T.seq (T.region (go 1 1 (RS.nil (T.seq (T.ci h rfl (fun hb_29 h=>?_) (fun hb_29 h=>?_))))))
  ·refine T.skip (T.seq (T.block (T.seq (T.region (go 2 1 (RS.nil ?_))))))
   obtain ⟨x14,hx14,h⟩:=bind_some h
   obtain ⟨x15,hx15,h⟩:=bind_some h
   obtain ⟨x16,hx16,h⟩:=bind_some h
   obtain ⟨x17,hx17,h⟩:=bind_some h
   refine T.region (go 2 1 (sQ (Qqa (en:=enc8) Ty.s35 rfl rfl rfl hx14 (sO (Qya (en:=enc8) (a:=x15) rfl rfl hx15 (Jva Ty.k5 (c:=.int .u8 x15) rfl (go 1 1 (sQ (Qqa (en:=enc8) Ty.s35 rfl rfl rfl hx16 (sO (Zta (en:=enc8) (a:=x17) (a':=ibits .xor .u8 x15 1) Ty.c5 Ty.i5 rfl (vs:=[.int .u8 (ibits .xor .u8 x15 1)]) rfl rfl rfl hx17 rfl rfl rfl (RS.nil (T.region (go 2 1 ?_))))))))))))))
   refine RS.nil ?_
   exact ⟨(IntKind.i64.wrap (s12+1),(List.set s13 x16 (ibits .xor .u8 x15 1))),(Option.some.inj h).symm,wk [] [0] 1 rfl⟩
  refine T.exit ?_
  obtain ⟨w_30,h,hw_30⟩:=Qpa h
  replace h:=h.trans (congrArg some (hv_28 _ hw_30))
  refine T.seq (T.region (sO (Qra (rows:=List.map enc8 [1,0,0,0,1,0,0,0,0,0,0,1,0,0,0,0,1]) (vs:=[.int .u8 1,.int .u8 0,.int .u8 0,.int .u8 0,.int .u8 1,.int .u8 0,.int .u8 0,.int .u8 0,.int .u8 0,.int .u8 0,.int .u8 0,.int .u8 1,.int .u8 0,.int .u8 0,.int .u8 0,.int .u8 0,.int .u8 1]) Ty.s35 Ty.z5 rfl rfl rfl rfl rfl rfl (go 1 2 (RS.nil (T.seq (T.seq (T.region (go 1 2 (RS.nil ?_))))))))))
  refine T.block (T.iter (fun ss_47:Int × (List Int)=>mkA 97 [(3,.ref 0),(7,.ref 1),(8,iI ss_47.1)]) (fun ss_47=>[aR 5 1 enc8 ss_47.2,aR 5 1 enc8 [1,0,0,0,1,0,0,0,0,0,0,1,0,0,0,0,1]]) h (wk [] [0,1] 2 rfl) (fun ss_47 v_48 h hv_48=>?_))
  obtain ⟨s18,s19⟩:=ss_47
  replace h:Jma s18 s19=some v_48:=h
  try dsimp only
  unfold Jma at h
  refine T.seq (T.seq (T.region (go 3 2 (sQ (Yda (en:=enc8) Ty.s35 rfl rfl (go 1 2 (RS.nil (T.ci h rfl (fun hb_49 h=>?_) (fun hb_49 h=>?_)))))))))
  ·refine T.skip (T.seq (T.block (T.seq ?_)))
   obtain ⟨x22,hx22,h⟩:=bind_some h
   obtain ⟨x23,hx23,h⟩:=bind_some h
   refine T.region (go 2 2 (sQ (Qqa (en:=enc8) Ty.s35 rfl rfl rfl hx22 (sO (Qya (en:=enc8) (a:=x23) rfl rfl hx23 (Jva Ty.k5 (c:=.int .u8 x23) rfl (go 1 2 (RS.nil (T.ci h rfl (fun hb_50 h=>?_) (fun hb_50 h=>?_))))))))))
   ·refine T.seq (T.region (go 1 2 (sQ (Yda (en:=enc8) Ty.s35 rfl rfl (go 1 2 (RS.nil (T.block (T.iter (fun ss_53:Int × (List Int)=>mkA 97 [(3,.ref 0),(7,.ref 1),(8,iI s18),(63,.ref 1),(64,iI (([1,0,0,0,1,0,0,0,0,0,0,1,0,0,0,0,1]).length:Int)),(65,iI ss_53.1)]) (fun ss_53=>[aR 5 1 enc8 ss_53.2,aR 5 1 enc8 [1,0,0,0,1,0,0,0,0,0,0,1,0,0,0,0,1]]) h (wk [] [0,1] 2 rfl) (fun ss_53 v_54 h hv_54=>?_)))))))))
    obtain ⟨s24,s25⟩:=ss_53
    replace h:Zwa s18 s24 s25=some v_54:=h
    try dsimp only
    unfold Zwa at h
    refine T.seq (T.region (go 1 2 (RS.nil (T.seq (T.ci h rfl (fun hb_55 h=>?_) (fun hb_55 h=>?_))))))
    ·refine T.skip (T.seq (T.block (T.seq ?_)))
     obtain ⟨x28,hx28,h⟩:=bind_some h
     obtain ⟨x29,hx29,h⟩:=bind_some h
     refine T.region (go 1 2 (sQ (Qqa (en:=enc8) Ty.s35 rfl rfl rfl hx28 (sO (Qya (en:=enc8) (a:=x29) rfl rfl hx29 (Jva Ty.k5 (c:=.int .u8 x29) rfl (go 2 2 (RS.nil ?_))))))))
     obtain ⟨x30,hx30,h⟩:=bind_some h
     obtain ⟨x31,hx31,h⟩:=bind_some h
     obtain ⟨x32,hx32,h⟩:=bind_some h
     obtain ⟨x33,hx33,h⟩:=bind_some h
     refine T.region (go 4 2 (sQ (Qqa (en:=enc8) Ty.s35 rfl rfl rfl hx30 (sO (Qya (en:=enc8) (a:=x31) rfl rfl hx31 (Jva Ty.k5 (c:=.int .u8 x31) rfl (go 2 2 (sQ (Qqa (en:=enc8) Ty.s35 rfl rfl rfl hx32 (sO (Zta (en:=enc8) (a:=x33) (a':=ibits .xor .u8 x31 x29) Ty.c5 Ty.i5 rfl (vs:=[.int .u8 (ibits .xor .u8 x31 x29)]) rfl rfl rfl hx33 rfl rfl rfl (RS.nil (T.region (go 2 2 ?_))))))))))))))
     refine RS.nil ?_
     exact ⟨(IntKind.i64.wrap (s24+1),(List.set s25 x32 (ibits .xor .u8 x31 x29))),(Option.some.inj h).symm,wk [] [0,1] 2 rfl⟩
    refine T.exit ?_
    obtain ⟨w_56,h,hw_56⟩:=Qpa h
    replace h:=h.trans (congrArg some (hv_54 _ hw_56))
    refine T.region (go 3 2 (RS.nil ?_))
    exact ⟨(IntKind.i64.wrap (s18+1),s25),(Option.some.inj h).symm,wk [] [0,1] 2 rfl⟩
   refine T.skip (T.region (go 3 2 (RS.nil ?_)))
   exact ⟨(IntKind.i64.wrap (s18+1),s19),(Option.some.inj h).symm,wk [] [0,1] 2 rfl⟩
  refine T.exit ?_
  obtain ⟨w_57,h,hw_57⟩:=Qpa h
  replace h:=h.trans (congrArg some (hv_48 _ hw_57))
  refine T.seq (T.region (go 1 2 (RS.nil (T.seq (T.seq ?_)))))
  obtain ⟨x35,hx35,h⟩:=bind_some h
  refine T.region (go 2 2 (sQ (Yda (en:=enc8) Ty.s35 rfl rfl (go 1 2 (RS.fC 0 (sO (o_slice_sl Ty.s35 (fun _=>rfl) rfl rfl rfl hx35 (sQ (Qfa Ty.s35 rfl (go 1 2 (RS.nil (T.block ?_))))))))))))
  refine T.iter (fun ss_60:Int × Int=>mkA 97 [(11,iI ss_60.1),(84,sL enc8 x35),(85,iI ((x35).length:Int)),(86,iI ss_60.2)]) (fun ss_60=>[]) h (wk [] [] 2 rfl) (fun ss_60 v_61 h hv_61=>?_)
  obtain ⟨s36,s37⟩:=ss_60
  replace h:Zya x35 s36 s37=some v_61:=h
  try dsimp only
  unfold Zya at h
  refine T.seq (T.region (go 1 0 (RS.nil (T.seq (T.ci h rfl (fun hb_62 h=>?_) (fun hb_62 h=>?_))))))
  ·refine T.skip (T.seq (T.block (T.seq ?_)))
   obtain ⟨x39,hx39,h⟩:=bind_some h
   refine T.region (sQ (Qga Ty.s35 (fun _=>rfl) rfl rfl hx39 (go 2 0 (RS.nil (T.region (go 6 0 (RS.nil (T.region (go 2 0 (RS.nil ?_))))))))))
   exact ⟨(IntKind.i64.wrap ((IntKind.i64.wrap (2*s36))+(IntKind.i64.wrap x39)),IntKind.i64.wrap (s37+1)),(Option.some.inj h).symm,wk [] [] 0 rfl⟩
  refine T.exit ?_
  obtain ⟨w_63,h,hw_63⟩:=Qpa h
  replace h:=h.trans (congrArg some (hv_61 _ hw_63))
  refine T.seq (T.region (go 2 0 (RS.nil ?_)))
  cases h
  exact tD
theorem crossref_Framed_c (p0:List UInt8) (r:List UInt8) (h:Yxa p0=some r):Fn Tryz.prog 11 [.str p0] (.str r):=by
  unfold Yxa at h
  refine fnT 0 Tryz.func11 Tryz.ntmps11 ?_
  refine T.seq (T.region (go 1 0 (RS.nil (T.seq ?_))))
  obtain ⟨x2,hx2,h⟩:=bind_some h
  refine T.region (go 3 0 (sO (Qra (rows:=List.map enc8 [IntKind.u8.wrap ((p0).length:Int)]) (vs:=[.int .u8 (IntKind.u8.wrap ((p0).length:Int))]) Ty.s35 Ty.z5 rfl rfl rfl rfl rfl rfl (sO (Y2a (xs:=[IntKind.u8.wrap ((p0).length:Int)]) Tryz.underlying35 Tryz.underlying5 Tryz.underlying9 rfl rfl (go 1 1 (sQ (v_sadd rfl rfl hx2 (go 1 1 (RS.nil (T.seq ?_)))))))))))
  obtain ⟨x4,hx4,h⟩:=bind_some h
  refine T.region (go 1 1 (sO (cF (crossref_SumOf_c x2 x4 hx4) ⟨rfl,(go 1 1 (RS.nil (T.seq ?_)))⟩)))
  obtain ⟨x8,hx8,h⟩:=bind_some h
  obtain ⟨x9,hx9,h⟩:=bind_some h
  obtain ⟨x10,hx10,h⟩:=bind_some h
  refine T.region (go 2 1 (sQ (v_quo rfl rfl hx8 (go 2 1 (sQ (v_rem rfl rfl hx9 (go 1 1 (sO (Qra (rows:=List.map enc8 [IntKind.u8.wrap x8,IntKind.u8.wrap x9]) (vs:=[.int .u8 (IntKind.u8.wrap x8),.int .u8 (IntKind.u8.wrap x9)]) Ty.s35 Ty.z5 rfl rfl rfl rfl rfl rfl (sO (Y2a (xs:=[IntKind.u8.wrap x8,IntKind.u8.wrap x9]) Tryz.underlying35 Tryz.underlying5 Tryz.underlying9 rfl rfl (sQ (v_sadd rfl rfl hx10 (go 1 2 ?_))))))))))))))
  refine RS.nil ?_
  cases h
  exact tD
theorem crosslaw_SavePut_c (p0:Disk) (p1:Int) (p2:Int) (p3:List UInt8) (r:Bool) (h:Jgb p0 p1 p2 p3=some r):Fn Tryz.prog 3 [.agg (Q9a p0),iI p1,iI p2,.str p3] (.bool r):=by
  unfold Jgb at h
  refine fnT 0 Tryz.func3 Tryz.ntmps3 ?_
  refine T.seq (T.region (go 2 0 (RS.nil (T.seq ?_))))
  obtain ⟨x2,hx2,h⟩:=bind_some h
  refine T.region (go 4 1 (sO (cD (save_Put_c p0 p1 p2 p3 x2 hx2) ⟨rfl,(go 6 1 (RS.nil (T.seq ?_)))⟩)))
  obtain ⟨x4,hx4,h⟩:=bind_some h
  refine T.region (go 1 2 (sO (cF (crossref_CheckDisk_c p0 x4 hx4) ⟨rfl,(go 1 2 (RS.nil (T.join (Z:=Int) (fun zz_6=>mkA 144 [(1,iI p1),(2,iI p2),(3,.str p3),(4,.ptr 0 0),(9,.ptr 1 0),(10,iI x2.2),(11,iI zz_6)]) (fun zz_6=>[.box (Q9a p0),.box (Q9a x2.1)]) (fun zz_6=>Zca p0 p1 p2 x2 p3 zz_6=some r) (fun zz_6 h=>?_) (fun hK3=>?_))))⟩)))
  ·revert h;revert zz_6;intro z5 h
   replace h:Zca p0 p1 p2 x2 p3 z5=some r:=h
   try dsimp only
   unfold Zca at h
   refine T.seq ?_
   obtain ⟨x7,hx7,h⟩:=bind_some h
   refine T.region (go 3 2 (sQ (v_quo rfl rfl hx7 (go 1 2 (RS.nil (T.join (Z:=Int) (fun zz_10=>mkA 144 [(1,iI p1),(2,iI p2),(3,.str p3),(4,.ptr 0 0),(9,.ptr 1 0),(10,iI x2.2),(11,iI zz_10),(12,iI x7)]) (fun zz_10=>[.box (Q9a p0),.box (Q9a x2.1)]) (fun zz_10=>Zfa p0 p1 p2 x2 p3 x7 zz_10=some r) (fun zz_10 h=>?_) (fun hK2=>?_)))))))
   ·revert h;revert zz_10;intro z8 h
    replace h:Zfa p0 p1 p2 x2 p3 x7 z8=some r:=h
    try dsimp only
    unfold Zfa at h
    refine T.seq ?_
    obtain ⟨x9,hx9,h⟩:=bind_some h
    refine T.join (Z:=Unit) (fun _=>mkA 144 [(1,iI p1),(2,iI p2),(3,.str p3),(4,.ptr 0 0),(9,.ptr 1 0),(10,iI x2.2),(11,iI z8),(12,iI x7),(68,.bool ((!x9) || z8 != 0))]) (fun _=>[.box (Q9a p0),.box (Q9a x2.1)]) (fun _=>True) (fun _ _=>?_) (fun hK=>?_)
    ·refine T.ci h rfl (fun hb_12 h=>?_) (fun hb_12 h=>?_)
     ·obtain ⟨x11,hx11,h⟩:=bind_some h
      obtain ⟨zt_15,hz,h⟩:=bind_some h
      revert hz h;revert zt_15;intro c13 hz h
      refine T.join (Z:=Unit) (fun _=>mkA 144 [(8,.bool c13)]) (fun _=>[]) (fun _=>True) (fun _ _=>?_) (fun hK=>?_)
      ·cases h
       exact tD
      refine T.region (sO (cF (crosslaw_saved_c x11 hx11) ⟨rfl,(go 1 2 ?_)⟩))
      rcases Qca x11 with hb_13 | hb_13
      ·replace hz:=ite_T hz hb_13
       refine yg 2 hb_13 (yg 2 hb_13 (yg 2 hb_13 (sQ (Qha (v:=.bool (x2.2==z8)) rfl hb_13 rfl (go 1 2 ?_)))))
       rcases Qca (x2.2==z8) with hb_14 | hb_14
       ·replace hz:=ite_T hz hb_14
        obtain ⟨x12,hx12,hz⟩:=bind_some hz
        refine yg 2 hb_14 (yO hb_14 (cF (crosslaw_noDisk_c x2.1 x12 hx12) ⟨rfl,(sQ (Qha (v:=.bool x12) rfl hb_14 rfl (go 1 2 (RS.nil ?_))))⟩))
        exact T.weakR (hK () trivial) (Weak.mkN [] [] (by decide) (Qsa _) rfl ⟨Joa ((congrArg (fun p=>p) (Option.some.inj hz)).symm),trivial⟩ (Qoa))
       replace hz:=ite_F hz hb_14
       refine sN hb_14 (sN hb_14 (sQ (Qda (v:=.bool false) rfl hb_14 rfl (go 1 2 (RS.nil ?_)))))
       exact T.weakR (hK () trivial) (Weak.mkN [] [] (by decide) (Qsa _) rfl ⟨Joa ((congrArg (fun p=>p) (Option.some.inj hz)).symm),trivial⟩ (Qoa))
      replace hz:=ite_F hz hb_13
      refine sN hb_13 (sN hb_13 (sN hb_13 (sQ (Qda (v:=.bool false) rfl hb_13 rfl (go 1 2 (sN rfl (sN rfl (sQ (Qda (v:=.bool false) rfl rfl rfl (go 1 2 (RS.nil ?_)))))))))))
      exact T.weakR (hK () trivial) (Weak.mkN [] [] (by decide) (Qsa _) rfl ⟨Joa ((congrArg (fun p=>p) (Option.some.inj hz)).symm),trivial⟩ (Qoa))
     refine T.skip (T.seq ?_)
     obtain ⟨x15,hx15,h⟩:=bind_some h
     refine T.region (go 2 2 (sO (cO 2 (Q9b p0.Wait x15 hx15) ⟨rfl,(go 1 3 (RS.nil (T.seq (T.seq (T.region (go 2 3 (RS.nil ?_)))))))⟩)))
     refine T.block (T.iter (fun ss_18:Int × (List Write)=>mkA 144 [(1,iI p1),(2,iI p2),(3,.str p3),(4,.ptr 0 0),(9,.ptr 1 0),(10,iI x2.2),(12,iI x7),(13,.ref 2),(14,iI ss_18.1)]) (fun ss_18=>[.box (Q9a p0),.box (Q9a x2.1),aR 34 2 Q6a ss_18.2]) h (wk [] [0,1,2] 3 rfl) (fun ss_18 v_19 h hv_19=>?_))
     obtain ⟨s16,s17⟩:=ss_18
     replace h:Zea p0 p1 p2 x2 p3 x7 s16 s17=some v_19:=h
     try dsimp only
     unfold Zea at h
     refine T.seq (T.seq (T.region (go 2 3 (RS.nil (T.ci h rfl (fun hb_20 h=>?_) (fun hb_20 h=>?_))))))
     ·refine T.skip (T.seq (T.block (T.seq ?_)))
      obtain ⟨x20,hx20,h⟩:=bind_some h
      obtain ⟨x21,hx21,h⟩:=bind_some h
      refine T.drawn mixed (k:=20) rfl (rq [0,1,2,3,4,5,8,9,10,11,12,13,14,15,16] 5 (r0 17 rfl (v_slice_str Tryz.underlying9 rfl rfl rfl hx20 (ra1 6 (oO rfl (Qra (rows:=List.map enc8 [IntKind.u8.wrap p2,IntKind.u8.wrap s16,IntKind.u8.wrap x7]) (vs:=[.int .u8 (IntKind.u8.wrap p2),.int .u8 (IntKind.u8.wrap s16),.int .u8 (IntKind.u8.wrap x7)]) Ty.s35 Ty.z5 rfl rfl rfl rfl rfl rfl (ra1 7 (oO rfl (Y2a (xs:=[IntKind.u8.wrap p2,IntKind.u8.wrap s16,IntKind.u8.wrap x7]) Tryz.underlying35 Tryz.underlying5 Tryz.underlying9 rfl rfl (r0 18 rfl (v_sadd rfl rfl hx21 (rq [19] 0 (RA.done (by decide +kernel) ?_)))))))))))))
      obtain ⟨x22,hx22,h⟩:=bind_some h
      obtain ⟨x23,hx23,h⟩:=bind_some h
      refine T.region (go 6 4 (sO (cF (crossref_Framed_c x21 x22 hx22) ⟨rfl,(go 1 4 (sO (Qra (rows:=List.map Q6a [(⟨IntKind.i64.wrap ((IntKind.i64.wrap (60*p1))+s16),x22⟩:Write)]) (vs:=[.agg [iI (IntKind.i64.wrap ((IntKind.i64.wrap (60*p1))+s16)),.str x22]]) Ty.s23 Ty.z34 rfl rfl rfl rfl rfl rfl (sO (Zma (en:=Q6a) (xs:=s17) (ys:=([(⟨IntKind.i64.wrap ((IntKind.i64.wrap (60*p1))+s16),x22⟩:Write)]:List Write)) Ty.s23 (fun _=>rfl) rfl rfl rfl hx23 rfl rfl (go 1 6 (RS.nil (T.region (go 3 6 ?_)))))))))⟩)))
      refine RS.nil ?_
      exact ⟨(IntKind.i64.wrap (s16 - 1),x23),(Option.some.inj h).symm,wk [] [0,1,5] 6 rfl⟩
     refine T.exit ?_
     obtain ⟨w_21,h,hw_21⟩:=Qpa h
     replace h:=h.trans (congrArg some (hv_19 _ hw_21))
     refine T.seq ?_
     obtain ⟨x26,hx26,h⟩:=bind_some h
     obtain ⟨x27,hx27,h⟩:=bind_some h
     refine T.region (go 7 3 (sO (Qra (rows:=List.map enc8 [IntKind.u8.wrap p2,0,IntKind.u8.wrap x7]) (vs:=[.int .u8 (IntKind.u8.wrap p2),.int .u8 0,.int .u8 (IntKind.u8.wrap x7)]) Ty.s35 Ty.z5 rfl rfl rfl rfl rfl rfl (sO (Y2a (xs:=[IntKind.u8.wrap p2,0,IntKind.u8.wrap x7]) Tryz.underlying35 Tryz.underlying5 Tryz.underlying9 rfl rfl (sO (cF (crossref_Framed_c (toStr [IntKind.u8.wrap p2,0,IntKind.u8.wrap x7]) x26 hx26) ⟨rfl,(go 1 4 (sO (Qra (rows:=List.map Q6a [(⟨IntKind.i64.wrap (60*p1),x26⟩:Write)]) (vs:=[.agg [iI (IntKind.i64.wrap (60*p1)),.str x26]]) Ty.s23 Ty.z34 rfl rfl rfl rfl rfl rfl (sO (Zma (en:=Q6a) (xs:=s17) (ys:=([(⟨IntKind.i64.wrap (60*p1),x26⟩:Write)]:List Write)) Ty.s23 (fun _=>rfl) rfl rfl rfl hx27 rfl rfl (go 1 6 (RS.nil ?_)))))))⟩)))))))
     obtain ⟨zt_24,hz,h⟩:=bind_some h
     revert hz h;revert zt_24;intro c30 hz h
     refine T.join (Z:=Unit) (fun _=>mkA 144 [(8,.bool c30)]) (fun _=>[]) (fun _=>True) (fun _ _=>?_) (fun hK=>?_)
     ·cases h
      exact tD
     refine T.region (go 3 6 ?_)
     rcases Qca (x2.2==0) with hb_22 | hb_22
     ·replace hz:=ite_T hz hb_22
      obtain ⟨x28,hx28,hz⟩:=bind_some hz
      refine yg 6 hb_22 (yg 6 hb_22 (yg 6 hb_22 (yg 6 hb_22 (yO hb_22 (cF (slices_Equal_string_c x2.1.Sectors p0.Sectors x28 hx28) ⟨rfl,(sQ (Qha (v:=.bool x28) rfl hb_22 rfl (go 1 6 ?_)))⟩)))))
      rcases Qca x28 with hb_23 | hb_23
      ·replace hz:=ite_T hz hb_23
       obtain ⟨x29,hx29,hz⟩:=bind_some hz
       refine yg 6 hb_23 (yg 6 hb_23 (yg 6 hb_23 (yO hb_23 (cF (slices_Equal_Write_c x2.1.Wait x27 x29 hx29) ⟨rfl,(sQ (Qha (v:=.bool x29) rfl hb_23 rfl (go 1 6 (RS.nil ?_))))⟩))))
       exact T.weakR (hK () trivial) (Weak.mkN [] [] (by decide) (Qsa _) rfl ⟨Joa ((congrArg (fun p=>p) (Option.some.inj hz)).symm),trivial⟩ (Qoa))
      replace hz:=ite_F hz hb_23
      refine sN hb_23 (sN hb_23 (sN hb_23 (sN hb_23 (sQ (Qda (v:=.bool false) rfl hb_23 rfl (go 1 6 (RS.nil ?_)))))))
      exact T.weakR (hK () trivial) (Weak.mkN [] [] (by decide) (Qsa _) rfl ⟨Joa ((congrArg (fun p=>p) (Option.some.inj hz)).symm),trivial⟩ (Qoa))
     replace hz:=ite_F hz hb_22
     refine sN hb_22 (sN hb_22 (sN hb_22 (sN hb_22 (sN hb_22 (sQ (Qda (v:=.bool false) rfl hb_22 rfl (go 1 6 (sN rfl (sN rfl (sN rfl ?_))))))))))
     refine sN rfl (sQ (Qda (v:=.bool false) rfl rfl rfl (go 1 6 (RS.nil ?_))))
     exact T.weakR (hK () trivial) (Weak.mkN [] [] (by decide) (Qsa _) rfl ⟨Joa ((congrArg (fun p=>p) (Option.some.inj hz)).symm),trivial⟩ (Qoa))
    refine T.region (sO (cF (crosslaw_saved_c x9 hx9) ⟨rfl,(go 2 2 ?_)⟩))
    rcases Qca (!x9) with hb_11 | hb_11
    ·refine sN hb_11 (sN hb_11 (sQ (Qha (v:=.bool true) rfl hb_11 rfl (RS.nil ?_))))
     exact T.sub (hK () trivial) ⟨rfl,rfl,rfl,rfl,rfl,rfl,rfl,rfl,(congrArg AV.bool (by simp only [hb_11,bz,if_true,if_false,Bool.false_eq_true])).symm,trivial⟩
    refine yg 2 hb_11 (yg 2 hb_11 (sQ (Qda (v:=.bool (z8 != 0)) rfl hb_11 rfl (RS.nil ?_))))
    exact T.sub (hK () trivial) ⟨rfl,rfl,rfl,rfl,rfl,rfl,rfl,rfl,(congrArg AV.bool (by simp only [hb_11,bz,if_true,if_false,Bool.false_eq_true])).symm,trivial⟩
   refine T.join (Z:=Unit) (fun _=>mkA 144 [(1,iI p1),(2,iI p2),(3,.str p3),(4,.ptr 0 0),(9,.ptr 1 0),(10,iI x2.2),(11,iI z5),(12,iI x7),(62,.bool ((z5==0) && ((decide (x7 ≥ 60)) || decide ((IntKind.i64.wrap ((IntKind.i64.wrap (((p0.Wait).length:Int)+x7))+1)) > 300))))]) (fun _=>[.box (Q9a p0),.box (Q9a x2.1)]) (fun _=>True) (fun _ _=>?_) (fun hK=>?_)
   ·refine T.ci h rfl (fun hb_27 h=>?_) (fun hb_27 h=>?_)
    ·refine T.region (go 1 2 (RS.nil ?_))
     exact T.su (hK2 8 h)
    refine T.skip ?_
    exact T.su (hK2 z5 h)
   refine T.region (go 3 2 ?_)
   rcases Qca (z5==0) with hb_25 | hb_25
   ·refine yg 2 hb_25 (yg 2 hb_25 (yg 2 hb_25 ?_))
    rcases Qca (decide (x7 ≥ 60)) with hb_26 | hb_26
    ·refine sN hb_26 (sN hb_26 (sN hb_26 (sN hb_26 (sN hb_26 (sN hb_26 (sN hb_26 (yQ hb_25 (Qha (v:=.bool true) rfl hb_26 rfl (sQ (Qha (v:=.bool true) rfl hb_25 rfl (RS.nil ?_)))))))))))
     exact T.sub (hK () trivial) ⟨rfl,rfl,rfl,rfl,rfl,rfl,rfl,rfl,(congrArg AV.bool (by simp only [hb_25,hb_26,bz,if_true,if_false,Bool.false_eq_true])).symm,trivial⟩
    refine yg 2 hb_26 (yg 2 hb_26 (yQ hb_26 (Qfa Ty.s23 rfl (yg 2 hb_26 (yg 2 hb_26 (yg 2 hb_26 (yg 2 hb_26 (yQ hb_25 (Qda (v:=.bool (decide ((IntKind.i64.wrap ((IntKind.i64.wrap (((p0.Wait).length:Int)+x7))+1)) > 300))) rfl hb_26 rfl (sQ (Qha (v:=.bool (decide ((IntKind.i64.wrap ((IntKind.i64.wrap (((p0.Wait).length:Int)+x7))+1)) > 300))) rfl hb_25 rfl (RS.nil ?_))))))))))))
    exact T.sub (hK () trivial) ⟨rfl,rfl,rfl,rfl,rfl,rfl,rfl,rfl,(congrArg AV.bool (by simp only [hb_25,hb_26,bz,if_true,if_false,Bool.false_eq_true])).symm,trivial⟩
   refine sN hb_25 (sN hb_25 (sN hb_25 (sU (sU (sU (sU (sU (sU (sU ?_)))))))))
   refine sN hb_25 (sQ (Qda (v:=.bool false) rfl hb_25 rfl (RS.nil ?_)))
   exact T.sub (hK () trivial) ⟨rfl,rfl,rfl,rfl,rfl,rfl,rfl,rfl,(congrArg AV.bool (by simp only [hb_25,bz,if_true,if_false,Bool.false_eq_true])).symm,trivial⟩
  refine T.join (Z:=Unit) (fun _=>mkA 144 [(1,iI p1),(2,iI p2),(3,.str p3),(4,.ptr 0 0),(9,.ptr 1 0),(10,iI x2.2),(11,iI x4),(43,.bool ((x4==0) && ((decide (p1<0)) || ((decide (p1 > 1)) || ((decide (p2<0)) || decide (p2 > 200))))))]) (fun _=>[.box (Q9a p0),.box (Q9a x2.1)]) (fun _=>True) (fun _ _=>?_) (fun hK=>?_)
  ·refine T.ci h rfl (fun hb_32 h=>?_) (fun hb_32 h=>?_)
   ·refine T.region (go 1 2 (RS.nil ?_))
    exact T.su (hK3 3 h)
   refine T.skip ?_
   exact T.su (hK3 x4 h)
  refine T.region (go 3 2 ?_)
  rcases Qca (x4==0) with hb_28 | hb_28
  ·refine yg 2 hb_28 (yg 2 hb_28 (yg 2 hb_28 ?_))
   rcases Qca (decide (p1<0)) with hb_29 | hb_29
   ·refine sN hb_29 (sN hb_29 (yQ hb_28 (Qha (v:=.bool true) rfl hb_29 rfl (yg 2 hb_28 (sN rfl (sN rfl (yQ hb_28 (Qha (v:=.bool true) rfl rfl rfl (yg 2 hb_28 (sN rfl (sN rfl ?_)))))))))))
    refine yQ hb_28 (Qha (v:=.bool true) rfl rfl rfl (sQ (Qha (v:=.bool true) rfl hb_28 rfl (RS.nil ?_))))
    exact T.sub (hK () trivial) ⟨rfl,rfl,rfl,rfl,rfl,rfl,rfl,(congrArg AV.bool (by simp only [hb_28,hb_29,bz,if_true,if_false,Bool.false_eq_true])).symm,trivial⟩
   refine yg 2 hb_29 (yg 2 hb_29 (yQ hb_28 (Qda (v:=.bool (decide (p1 > 1))) rfl hb_29 rfl (yg 2 hb_28 ?_))))
   rcases Qca (decide (p1 > 1)) with hb_30 | hb_30
   ·refine sN hb_30 (sN hb_30 (yQ hb_28 (Qha (v:=.bool true) rfl hb_30 rfl (yg 2 hb_28 (sN rfl (sN rfl (yQ hb_28 (Qha (v:=.bool true) rfl rfl rfl (sQ (Qha (v:=.bool true) rfl hb_28 rfl (RS.nil ?_)))))))))))
    exact T.sub (hK () trivial) ⟨rfl,rfl,rfl,rfl,rfl,rfl,rfl,(congrArg AV.bool (by simp only [hb_28,hb_29,hb_30,bz,if_true,if_false,Bool.false_eq_true])).symm,trivial⟩
   refine yg 2 hb_30 (yg 2 hb_30 (yQ hb_28 (Qda (v:=.bool (decide (p2<0))) rfl hb_30 rfl (yg 2 hb_28 ?_))))
   rcases Qca (decide (p2<0)) with hb_31 | hb_31
   ·refine sN hb_31 (sN hb_31 (yQ hb_28 (Qha (v:=.bool true) rfl hb_31 rfl (sQ (Qha (v:=.bool true) rfl hb_28 rfl (RS.nil ?_))))))
    exact T.sub (hK () trivial) ⟨rfl,rfl,rfl,rfl,rfl,rfl,rfl,(congrArg AV.bool (by simp only [hb_28,hb_29,hb_30,hb_31,bz,if_true,if_false,Bool.false_eq_true])).symm,trivial⟩
   refine yg 2 hb_31 (yg 2 hb_31 (yQ hb_28 (Qda (v:=.bool (decide (p2 > 200))) rfl hb_31 rfl (sQ (Qha (v:=.bool (decide (p2 > 200))) rfl hb_28 rfl (RS.nil ?_))))))
   exact T.sub (hK () trivial) ⟨rfl,rfl,rfl,rfl,rfl,rfl,rfl,(congrArg AV.bool (by simp only [hb_28,hb_29,hb_30,hb_31,bz,if_true,if_false,Bool.false_eq_true])).symm,trivial⟩
  refine sN hb_28 (sN hb_28 (sN hb_28 (sU (sU (sN hb_28 (sN hb_28 (sU (sU (sN hb_28 ?_)))))))))
  refine sN hb_28 (sU (sU (sN hb_28 (sQ (Qda (v:=.bool false) rfl hb_28 rfl (RS.nil ?_))))))
  exact T.sub (hK () trivial) ⟨rfl,rfl,rfl,rfl,rfl,rfl,rfl,(congrArg AV.bool (by simp only [hb_28,bz,if_true,if_false,Bool.false_eq_true])).symm,trivial⟩
end Go.Proofs.YtchmpaaofmihcaaGreat
namespace Go.Proofs.YtchmpaaofmihcaaGreat
open Go.ChangeShapes Go.WideShapes Go.ChangeAt Go.RowKit
set_option linter.unusedVariables false
set_option linter.unusedSimpArgs false
theorem list_choose {α:Type} {p:Nat→α→Prop}:∀ n:Nat,(∀ i,i<n→∃ x,p i x)→∃ l:List α,l.length=n∧∀ (i:Nat) x,l[i]?=some x→p i x
  | 0,_=>⟨[],rfl,fun i x h=>by simp at h⟩
  | n + 1,h=>by
    obtain ⟨l,hl,hp⟩:=list_choose n (fun i hi=>h i (by omega))
    obtain ⟨y,hy⟩:=h n (by omega)
    refine ⟨l++[y],by simp [hl],fun i x hx=>?_⟩
    rw [List.getElem?_append] at hx
    split at hx
    · exact hp i x hx
    · have:i=n:=by
        have:=(List.getElem?_eq_some_iff.1 hx).1
        simp at this;omega
      subst this
      simp [hl] at hx
      subst hx;exact hy
theorem bulk_one {H:Type} (d:DataW H):1≤Rows.uptoBulk d:=by
  cases d with
  | lit l=>cases l<;>simp [Rows.uptoBulk]
  | _=>simp [Rows.uptoBulk]
theorem bulk_sum {H α:Type} (m:α→Nat):∀ (l:List α) (ds:List (DataW H)),l.length=ds.length→(∀ (i:Nat) x d,l[i]?=some x→ds[i]?=some d→m x≤Rows.uptoBulk d)→(l.map m).sum≤Rows.uptoBulkAll ds
  | [],[],_,_=>by simp
  | [],_::_,h,_=>by simp at h
  | _::_,[],h,_=>by simp at h
  | x::l,d::ds,h,hp=>by
    have h0:=hp 0 x d rfl rfl
    have h1:=bulk_sum m l ds (by simpa using h) (fun i y e hy he=>hp (i+1) y e (by simpa using hy) (by simpa using he))
    simp only [List.map_cons,List.sum_cons,Rows.uptoBulkAll]
    omega
structure Opn (P:Program) (t:TypeId) {α:Type} (en:α→List AV) (good:α→Prop) (m:α→Nat):Prop where
  opn:∀ {H:Type} {enc:TypeId × Value→H} {W:World} {fuel:Nat} {cs:List Value} {x:DataW H × List MemPlace},DataW.trod enc P W 0 (fun _=>true) true fuel t cs=some x →
    ∃ a,RelL [] W (fun b=>b<W.heap.size) (en a) cs∧(∀ u,u∈cs→u.oneCell'=true)∧good a∧m a≤Rows.uptoBulk x.1
theorem Opn.map {P:Program} {t:TypeId} {α β:Type} {en:α→List AV} {good:α→Prop} {m:α→Nat} (h:Opn P t en good m) (f:α→β) {en':β→List AV} {good':β→Prop} {m':β→Nat}
    (he:∀ a,en' (f a)=en a) (hg:∀ a,good a→good' (f a)) (hm:∀ a,m' (f a)≤m a):Opn P t en' good' m' :=
  ⟨fun hx=>by
    obtain ⟨a,h1,h2,h3,h4⟩:=h.opn hx
    exact ⟨f a,by rw [he];exact h1,h2,hg a h3,Nat.le_trans (hm a) h4⟩⟩
theorem relL_one {σ:List Value} {w:World} {F:Nat→Prop} {a:AV} {v:Value} (h:Rel σ w F a v):RelL σ w F [a] [v]:=.cons h .nil
theorem Opn.bool {P:Program} {t:TypeId} (ht:P.underlying t=some .bool):Opn P t (fun b:Bool=>[.bool b]) (fun _=>True) (fun _=>1) :=
  ⟨fun hx=>by
    obtain ⟨b,rfl,rfl⟩:=DataW.trod_bool ht hx
    exact ⟨b,relL_one (.bool b),by simp [Value.oneCell'],trivial,bulk_one _⟩⟩
theorem Opn.int {P:Program} {t:TypeId} {k:IntKind} (ht:P.underlying t=some (.int k)):Opn P t (fun n:Int=>[.int k n]) (fun n=>k.min≤n∧n≤k.max) (fun _=>1) :=
  ⟨fun hx=>by
    obtain ⟨n,rfl,rfl,hw⟩:=DataW.trod_int ht hx
    refine ⟨n,relL_one (.int k n),by simp [Value.oneCell'],?_,bulk_one _⟩
    simpa only [Lit.wf,Bool.and_eq_true,decide_eq_true_eq] using hw⟩
theorem Opn.str {P:Program} {t:TypeId} (ht:P.underlying t=some .string):Opn P t (fun s:List UInt8=>[.str s]) (fun s=>s.length≤maxLen) (fun s=>s.length+1) :=
  ⟨fun hx=>by
    obtain ⟨s,rfl,rfl,hw⟩:=DataW.trod_string ht hx
    refine ⟨s.data.toList,relL_one (by simpa using Rel.str s.data.toList),by simp [Value.oneCell'],?_,by simp [Rows.uptoBulk]⟩
    have e:s.data.toList.length=s.size:=by rw [Array.length_toList];rfl
    omega⟩
theorem Opn.slice {P:Program} {t e:TypeId} {α:Type} {en:α→List AV} {good:α→Prop} {m:α→Nat} {size:Nat} (ht:P.underlying t=some (.slice e)) (hc:P.cellsOf e=size+1) (h:Opn P e en good m) :
    Opn P t (fun l:List α=>[.sl (l.map en)]) (fun l=>∀ a,a∈l→good a) (fun l=>(l.map m).sum+1):=by
  refine ⟨fun {H enc W fuel cs x} hx=>?_⟩
  rcases DataW.trod_slice ht hx with ⟨rfl,rfl⟩ | ⟨a,len,cap,elems,rest,n,_,rfl,rfl,hb,hl,hm,hlen,hel,hsp,hns⟩
  · exact ⟨[],relL_one .slNil,by simp [Value.oneCell'],by simp,by simp [Rows.uptoBulk]⟩
  rw [hc] at hel
  have hone:∀ i,i<len→∃ y:α × List Value × (DataW H × List MemPlace),elems[i]?=some y.2.2∧W.cells? 0 (a.add (i*(size+1))) (size+1)=some y.2.1∧RelL [] W (fun b=>b<W.heap.size) (en y.1) y.2.1∧(∀ u,u∈y.2.1→u.oneCell'=true)∧good y.1∧m y.1≤Rows.uptoBulk y.2.2.1:=by
    intro i hi
    have h1:=hel i hi
    rw [List.getElem?_eq_getElem (by omega:i<elems.length)] at h1
    obtain ⟨cs',hcs,ht'⟩:=Option.bind_eq_some_iff.1 h1
    obtain ⟨y,g1,g2,g3,g4⟩:=h.opn ht'
    exact ⟨(y,cs',elems[i]),List.getElem?_eq_getElem (by omega),hcs,g1,g2,g3,g4⟩
  obtain ⟨ys,hys,hp⟩:=list_choose len hone
  refine ⟨ys.map (·.1),relL_one ?_,by simp [Value.oneCell'],?_,?_⟩
  · have hrl:((ys.map (·.1)).map en).length=len:=by simp [hys]
    have key:Rel [] W (fun b=>b<W.heap.size) (.sl ((ys.map (·.1)).map en)) (.slice (some a) ((ys.map (·.1)).map en).length cap):=by
      refine .sl _ (size+1) a cap (fun i j=>((ys[i]?).bind (fun y=>y.2.1[j]?)).getD .nilIface) (fun hne=>?_) (by omega) hm (fun row hrow=>?_) (fun i j hi hj=>?_) (fun i j hi hj=>?_) (fun i row j x hi hj=>?_)
      · have hpos:0<len:=by
          rcases Nat.eq_zero_or_pos len with h0 | h0
          · exfalso;apply hne;apply List.eq_nil_of_length_eq_zero;omega
          · exact h0
        obtain ⟨y,hy⟩:∃ y,ys[0]?=some y:=⟨ys[0],List.getElem?_eq_getElem (by omega)⟩
        have:=World.cells?_block (hp 0 y hy).2.1 (by omega)
        rwa [Jpb] at this
      · simp only [List.map_map,List.mem_map] at hrow
        obtain ⟨y,hy,rfl⟩:=hrow
        obtain ⟨i,hi,hi'⟩:=List.getElem_of_mem hy
        have h1:=hp i y (by rw [List.getElem?_eq_getElem hi,hi'])
        have h2:=(World.cells?_some h1.2.1).2.1
        have h3:=h1.2.2.1.1
        simp only [Function.comp];omega
      · rw [hrl] at hi
        obtain ⟨y,hy⟩:∃ y,ys[i]?=some y:=⟨ys[i],List.getElem?_eq_getElem (by omega)⟩
        have h1:=hp i y hy
        have h2:=(World.cells?_some h1.2.1).2.1
        have h3:y.2.1[j]?=some y.2.1[j]:=List.getElem?_eq_getElem (by omega)
        simp only [hy,Option.bind_some,h3,Option.getD_some]
        exact h1.2.2.2.1 _ (List.getElem_mem _)
      · rw [hrl] at hi
        obtain ⟨y,hy⟩:∃ y,ys[i]?=some y:=⟨ys[i],List.getElem?_eq_getElem (by omega)⟩
        have h1:=hp i y hy
        have h2:=World.cells?_some h1.2.1
        have h3:y.2.1[j]?=some y.2.1[j]:=List.getElem?_eq_getElem (by omega)
        simp only [hy,Option.bind_some,h3,Option.getD_some]
        rw [← Y9a,h2.2.2 j hj,h3]
      · simp only [List.map_map,List.getElem?_map,Option.map_eq_some_iff] at hi
        obtain ⟨y,hy,rfl⟩:=hi
        have h1:=hp i y hy
        obtain ⟨v,hv,hr⟩:=h1.2.2.1.get hj
        simp only [hy,Option.bind_some,hv,Option.getD_some]
        exact hr
    rwa [hrl] at key
  · intro z hz
    simp only [List.mem_map] at hz
    obtain ⟨y,hy,rfl⟩:=hz
    obtain ⟨i,hi,hi'⟩:=List.getElem_of_mem hy
    exact (hp i y (by rw [List.getElem?_eq_getElem hi,hi'])).2.2.2.2.1
  · have:=bulk_sum m (ys.map (·.1)) (elems.map (·.1)) (by simp [hys,hlen]) (fun i z d hz hd=>by
      simp only [List.getElem?_map,Option.map_eq_some_iff] at hz hd
      obtain ⟨y,hy,rfl⟩:=hz
      obtain ⟨el,he,rfl⟩:=hd
      have h1:=hp i y hy
      rw [h1.1] at he
      obtain rfl:=Option.some.inj he
      exact h1.2.2.2.2.2)
    simp only [Rows.uptoBulk]
    omega
structure OpnF (P:Program) (fs:List Field) (off total:Nat) {α:Type} (en:α→List AV) (good:α→Prop) (m:α→Nat):Prop where
  opn:∀ {H:Type} {enc:TypeId × Value→H} {W:World} {fuel:Nat} {cs:List Value} {xs:List (DataW H × List MemPlace)},cs.length=total →
    xs.length=fs.length→(∀ (i:Nat) (f:Field),fs[i]?=some f→DataW.trod enc P W 0 (fun _=>true) true fuel f.type ((cs.drop f.offset).take (P.cellsOf f.type))=xs[i]?) →
    ∃ a,RelL [] W (fun b=>b<W.heap.size) (en a) (cs.drop off)∧(∀ u,u∈cs.drop off→u.oneCell'=true)∧good a∧m a≤Rows.uptoBulkAll (xs.map (·.1))
theorem OpnF.nil {P:Program} {total:Nat}:OpnF P [] total total (fun _:Unit=>[]) (fun _=>True) (fun _=>0) :=
  ⟨fun hl hx hp=>⟨(),by rw [List.drop_of_length_le (by omega)];exact .nil,by rw [List.drop_of_length_le (by omega)];simp,trivial,by simp⟩⟩
theorem OpnF.cons {P:Program} {f:Field} {fs:List Field} {off total:Nat} {α β:Type} {en1:α→List AV} {en2:β→List AV} {g1:α→Prop} {g2:β→Prop} {m1:α→Nat} {m2:β→Nat}
    (ho:f.offset=off) (c:Nat) (hc:P.cellsOf f.type=c) (h1:Opn P f.type en1 g1 m1) (h2:OpnF P fs (off+c) total en2 g2 m2) :
    OpnF P (f::fs) off total (fun p:α × β=>en1 p.1++en2 p.2) (fun p=>g1 p.1∧g2 p.2) (fun p=>m1 p.1+m2 p.2):=by
  refine ⟨fun {H enc W fuel cs xs} hl hx hp=>?_⟩
  match xs,hx with
  | x :: xs,hx =>
    have h0:=hp 0 f rfl
    simp only [List.getElem?_cons_zero] at h0
    subst ho;subst hc
    obtain ⟨a,a1,a2,a3,a4⟩:=h1.opn h0
    obtain ⟨b,b1,b2,b3,b4⟩:=h2.opn (xs:=xs) hl (by simpa using hx) (fun i f' hf=>by simpa using hp (i+1) f' (by simpa using hf))
    have hs:cs.drop f.offset=(cs.drop f.offset).take (P.cellsOf f.type)++cs.drop (f.offset+P.cellsOf f.type):=by
      rw [← List.drop_drop];exact (List.take_append_drop _ _).symm
    refine ⟨(a,b),?_,fun u hu=>?_,⟨a3,b3⟩,?_⟩
    · rw [hs];exact a1.append b1
    · rw [hs,List.mem_append] at hu
      exact hu.elim (a2 u) (b2 u)
    · simp only [List.map_cons,Rows.uptoBulkAll];omega
theorem Opn.struct {P:Program} {t:TypeId} {fs:Array Field} {total:Nat} {α:Type} {en:α→List AV} {good:α→Prop} {m:α→Nat} (ht:P.underlying t=some (.struct fs)) (hc:P.cellsOf t=total)
    (h:OpnF P fs.toList 0 total en good m):Opn P t en good m:=by
  refine ⟨fun {H enc W fuel cs x} hx=>?_⟩
  obtain ⟨xs,n,rfl,rfl,hl,hxl,hp⟩:=DataW.trod_struct ht hx
  obtain ⟨a,h1,h2,h3,h4⟩:=h.opn (enc:=enc) (W:=W) (fuel:=n) (cs:=cs) (xs:=xs) (by omega) (by simp [hxl]) (fun i f hf=>hp i f (by simpa using hf))
  exact ⟨a,by simpa using h1,by simpa using h2,h3,by simp only [Rows.uptoBulk];omega⟩
theorem Opn.arg {P:Program} {t:TypeId} {α:Type} {en:α→AV} {good:α→Prop} {m:α→Nat} (h:Opn P t (fun a=>[en a]) good m)
    (ht:(match P.underlying t with | some (.struct _) | some (.array _ _)=>false | _=>true)=true)
    {H:Type} {enc:TypeId × Value→H} {W:World} {base:Nat} {v:Value} {d:DataW H} {ps:List MemPlace} (hval:Value.okWide P W .any base t v) (hd:DataW.Trod enc P W 0 (fun _=>true) true t v d ps) :
    ∃ a,Rel [] W (fun b=>b<W.heap.size) (en a) v∧good a∧m a≤Rows.uptoBulk d:=by
  obtain ⟨fuel,hf⟩:=hd
  obtain ⟨a,h1,h2,h3,h4⟩:=h.opn hf
  have hv:v.cells=#[v]:=by
    cases v with
    | agg cs =>
      exfalso
      unfold Value.okWide at hval
      split at hval
      · rename_i e;rw [e] at ht;simp at ht
      · rename_i e;rw [e] at ht;simp at ht
      · unfold Cell.okWide at hval
        split at hval<;>simp_all [Cell.ok]
    | _=>rfl
  rw [hv] at h1
  exact ⟨a,h1.2 0 (en a) v rfl rfl,h3,h4⟩
theorem Opn.args {P:Program} {t:TypeId} {α:Type} {en:α→List AV} {good:α→Prop} {m:α→Nat} (h:Opn P t en good m)
    {fs:Array Field} (ht:P.underlying t=some (.struct fs))
    {H:Type} {enc:TypeId × Value→H} {W:World} {base:Nat} {v:Value} {d:DataW H} {ps:List MemPlace} (hval:Value.okWide P W .any base t v) (hd:DataW.Trod enc P W 0 (fun _=>true) true t v d ps) :
    ∃ a,Rel [] W (fun b=>b<W.heap.size) (.agg (en a)) v∧good a∧m a≤Rows.uptoBulk d:=by
  obtain ⟨fuel,hf⟩:=hd
  obtain ⟨a,h1,h2,h3,h4⟩:=h.opn hf
  unfold Value.okWide at hval
  rw [ht] at hval
  obtain ⟨cs,rfl,_,_⟩:=hval
  simp only [Value.cells] at h1 h2
  refine ⟨a,?_,h3,h4⟩
  have:=Rel.agg (σ:=[]) (w:=W) (F:=fun b=>b<W.heap.size) (en a) cs.toList h1.1 h2 h1.2
  simpa using this
theorem stays_all {H:Type} {enc:TypeId × Value→H} {P:Program} (hl:laidOutB P=true) {W W':World} (hb:Below W.heap.size W W') (sp:Nat→Bool) :
    ∀ {ts:List TypeId} {vs:List Value} {ds:List (DataW H)} {ps:List MemPlace},(ts.all fun t=>P.readableRec t && decide (t<P.types.size))=true→DataW.TrodAll enc P W 0 (fun _=>true) true ts vs ds ps →
      (∀ x∈ps,x.block<W.heap.size)→(∀ x∈ps,sp x.block=true)→DataW.TrodAll enc P W' 0 sp true ts vs ds ps
  | [],[],[],_,_,h,_,_=>h
  | [],_::_,_,_,_,h,_,_=>h.elim
  | [],[],_::_,_,_,h,_,_=>h.elim
  | _::_,[],_,_,_,h,_,_=>h.elim
  | _::_,_::_,[],_,_,h,_,_=>h.elim
  | t :: ts,v::vs,d::ds,ps,hr,h,hlt,hsp=>by
    obtain ⟨p,q,h1,h2,rfl⟩:=h
    simp only [List.all_cons,Bool.and_eq_true,decide_eq_true_eq] at hr
    exact ⟨p,q,WideElems.Trod_stays hl hr.1.1 hr.1.2 h1 (fun x hx=>hb.same (hlt x (by simp [hx]))) (fun x hx=>hsp x (by simp [hx])),
      stays_all hl hb sp hr.2 h2 (fun x hx=>hlt x (by simp [hx])) (fun x hx=>hsp x (by simp [hx])),rfl⟩
section
variable {H:Type} {enc:TypeId × Value→H} {P:Program}
theorem post_of_below {f:Func} {s:ChangeSpec} {apart fresh handsOn again:Bool} {W W':World} {args:Array Value} {v:Value} {ds gs:List (DataW H)} {before pa pv:List MemPlace}
    (hW:DataW.Whole enc P f.params.toList s.vars apart W args.toList ds gs before)
    (hres:∀ (b:Nat) (sp:Nat→Bool) (hd:Bool),DataW.TrodAll enc P W' b sp hd f.resultTypes.toList (v.resultList f.resultTypes.size) (s.fn H (ds++gs)).results [])
    (hargs:∀ sp:Nat→Bool,(∀ p∈before,sp p.block=true)→DataW.TrodAll enc P W' 0 sp true f.params.toList args.toList (s.fn H (ds++gs)).args pa)
    (hvars:∀ sp:Nat→Bool,(∀ p∈before,sp p.block=true)→DataW.TrodVars enc P W' sp s.vars (s.fn H (ds++gs)).vars pv)
    (hps:before=pa++pv) (hb:Below W.heap.size W W')
    (hok:∀ (j:Nat) (t:TypeId) (r:Value),f.resultTypes[j]?=some t→(v.resultList f.resultTypes.size)[j]?=some r→Value.okWide P W' .any 0 t r) :
    s.post enc P f apart fresh handsOn again W args v W':=by
  have hlt:∀ p∈before,p.block<W.heap.size:=fun p hp=>hW.lt p hp
  have hold:∀ p∈before,(fun b=>decide (b<W.heap.size)) p.block=true:=fun p hp=>by simpa using hlt p hp
  refine ⟨ds,gs,before,[],pa,pv,hW,hres _ _ _,hargs _ hold,hvars _ hold,World.keptBut_mono (fun p hp=>⟨hp,?_⟩) (hb.frame (·∈before)),fun _=>?_⟩
  · rw [hps,List.mem_append] at hp
    exact Or.inr hp
  · obtain ⟨_,_,_,_,_,hz,hn⟩:=hW
    refine ⟨hok,_,_,([]++pa)++pv,⟨[]++pa,pv,trodAll_append (hargs _ (fun _ _=>rfl)) (hres _ _ _),hvars _ (fun _ _=>rfl),rfl,?_,?_⟩,?_⟩
    · intro b off hp
      have hin:MemPlace.cell b off∈before:=by rw [hps];simpa using hp
      rw [hb.frozen (hlt _ hin)]
      exact hz b off hin
    · intro ha
      have:=hn ha
      rw [hps] at this
      simpa using this
    · intro p hp _
      rw [hps]
      simpa using hp
end
theorem law_post {H:Type} {enc:TypeId × Value→H} {P:Program} {id:FuncId} {f:Func} {s:ChangeSpec} {W:World} {args:Array Value} {ds gs:List (DataW H)} {before:List MemPlace} {av:List AV} {tb:TypeId}
    (hl:laidOutB P=true) (htb:P.underlying tb=some .bool) (hres:f.resultTypes=#[tb]) (hr:(f.params.toList.all fun t=>P.readableRec t && decide (t<P.types.size))=true) (hvars:s.vars=[])
    (hfn:(s.fn H (ds++gs)).results=[.lit (.bool true)]) (hfa:(s.fn H (ds++gs)).args=ds) (hfv:(s.fn H (ds++gs)).vars=[])
    (hW:DataW.Whole enc P f.params.toList s.vars false W args.toList ds gs before)
    (hrel:RelL [] W (fun b=>b<W.heap.size) av args.toList) (hc:ACalls P id av [] fun r aw'=>r=.bool true∧aw'=[]) :
    Calls P id args W fun e W'=>∃ v,e=.returned v∧s.post enc P f false true false false W args v W':=by
  have hs:Sim [] [] W (fun b=>b<W.heap.size):=⟨rfl,fun k o v h=>by simp at h,fun k k' o o' v v' g _ h=>by simp at h,fun b h=>h⟩
  refine (hc.2 W _ [] args.toList hs hrel).mono fun e W' hx=>?_
  obtain ⟨v,r,aw',σ',F',he,⟨hr1,hr2⟩,_,hv,hm⟩:=hx
  subst hr1;subst hr2
  cases hv
  have hb:Below W.heap.size W W':=⟨hm.os,hm.tape,hm.output,hm.size,fun k hk=>hm.keep k hk (fun ⟨k',o,v,ho,_⟩=>by simp at ho)⟩
  refine ⟨.bool true,he,?_⟩
  have hW':=hW
  obtain ⟨p,q,hA,hV,rfl,hfz,hnd⟩:=hW'
  rw [hvars] at hV
  obtain ⟨rfl,rfl⟩:=trodVars_none hV
  have hlt:∀ x∈p++[],x.block<W.heap.size:=fun x hx=>hW.lt x hx
  refine post_of_below (pa:=p) (pv:=[]) hW (fun b sp hd=>?_) (fun sp hsp=>?_) (fun sp hsp=>?_) rfl hb (ok_one hres rfl (okWide_bool_mk htb _))
  · rw [hfn,hres]
    exact trodAll_cons_mk (shut_bool htb _) trodAll_mk0
  · rw [hfa]
    exact stays_all hl hb sp hr hA (fun x hx=>hlt x (by simpa using hx)) (fun x hx=>hsp x (by simpa using hx))
  · rw [hfv,hvars]
    exact rfl
end Go.Proofs.YtchmpaaofmihcaaGreat
namespace Go.Proofs.YtchmpaaofmihcaaGreat
set_option linter.unusedVariables false
set_option linter.unusedSimpArgs false
def gI (n:Int):Prop := -9223372036854775808≤n∧n≤9223372036854775807
def gL {α:Type} (g:α→Prop) (l:List α):Prop:=∀ a,a∈l→g a
def gS (s:List UInt8):Prop:=True
def gItem (a:Item):Prop:=gI a.Key∧gI a.Val∧gI a.Dep
def gKeyed (a:Keyed):Prop:=gI a.Key∧gI a.N
def gMemory (a:Memory):Prop:=gI a.Sum∧gL gKeyed a.Keys∧gI a.Dep
def gChoice (a:Choice):Prop:=gI a.Node∧gI a.Lane
def gState (a:State):Prop:=gL gI a.At∧gL (gL gItem) a.Rings∧gL gMemory a.Memory∧gL gChoice a.Choices∧gL gItem a.Out
def gWrite (a:Write):Prop:=gI a.At∧gS a.Bytes
def gDisk (a:Disk):Prop:=gL gS a.Sectors∧gL gWrite a.Wait
def mI (n:Int):Nat:=1
def mB (b:Bool):Nat:=1
def mS (s:List UInt8):Nat:=s.length+1
def mL {α:Type} (m:α→Nat) (l:List α):Nat:=(l.map m).sum+1
def mItem (a:Item):Nat:=3
def mKeyed (a:Keyed):Nat:=2
def mMemory (a:Memory):Nat:=mL mKeyed a.Keys+2
def mChoice (a:Choice):Nat:=2
def mState (a:State):Nat:=mL mI a.At+mL (mL mItem) a.Rings+mL mMemory a.Memory+mL mChoice a.Choices+mL mItem a.Out
def mWrite (a:Write):Nat:=mS a.Bytes+1
def mDisk (a:Disk):Nat:=mL mS a.Sectors+mL mWrite a.Wait
theorem len_le {α:Type} {m:α→Nat} (h:∀ a,1≤m a):∀ l:List α,l.length≤mL m l
  | []=>by simp [mL]
  | a::l=>by
    have:=len_le h l
    have:=h a
    simp [mL] at *;omega
theorem sum_le {α:Type} {m:α→Nat}:∀ {l:List α} {a:α},a∈l→m a≤mL m l
  | b :: l,a,h=>by
    rcases List.mem_cons.1 h with rfl | h
    · simp [mL];omega
    · have:=sum_le (m:=m) h
      simp [mL] at *;omega
theorem Jga {n:Int} (h0 : -9223372036854775808≤n) (h1:n≤9223372036854775807):IntKind.i64.wrap n=n:=IntWalk.i64_in n ⟨h0,h1⟩
theorem V5a {k:Nat} (h:k<4611686018427387904):IntKind.i64.wrap ((k:Int)+1)=((k+1:Nat):Int):=by rw [Jga (by omega) (by omega)];rfl
theorem Z4a {α:Type} {xs:List α} {k:Nat} {x:α} (h:xs[k]?=some x):idx xs (k:Int)=some x:=by
  unfold idx;rw [if_pos (by omega)];simpa using h
theorem ixN_at {α:Type} {xs:List α} {k:Nat} (h:k<xs.length):ixN xs (k:Int)=some k:=by
  unfold ixN;rw [if_pos (by omega)];simp
theorem app_ok {α:Type} {xs ys:List α} (h:xs.length+ys.length≤1099511627776):app xs ys=some (xs++ys):=by unfold app;rw [if_pos h]
theorem cat_ok {xs ys:List UInt8} (h:xs.length+ys.length≤4611686018427387904):cat xs ys=some (xs++ys):=by unfold cat;rw [if_pos h]
theorem sub_ok {α:Type} {xs:List α} {i j:Nat} (h:i≤j) (h2:j≤xs.length):sub xs (i:Int) (j:Int)=some ((xs.take j).drop i):=by
  unfold sub;rw [if_pos (by omega)];simp
theorem sub_0 {α:Type} {xs:List α} {j:Nat} (h2:j≤xs.length):sub xs 0 (j:Int)=some (xs.take j):=by
  have:=sub_ok (xs:=xs) (i:=0) (j:=j) (by omega) h2
  simpa using this
theorem sub_end {α:Type} {xs:List α} {i:Nat} (h2:i≤xs.length):sub xs (i:Int) (xs.length:Int)=some (xs.drop i):=by
  have:=sub_ok (xs:=xs) (i:=i) (j:=xs.length) h2 (Nat.le_refl _)
  simpa using this
def foldE {α σ ρ:Type} (f:Nat→α→σ→Option (σ ⊕ ρ)) (fin:σ→Option ρ):Nat→List α→σ→Option ρ
  | _,[],st=>fin st
  | k,x::xs,st=>match f k x st with
    | none=>none
    | some (.inl st')=>foldE f fin (k+1) xs st'
    | some (.inr r)=>some r
theorem iter_list {α σ ρ τ:Type} (xs:List α) (hx:xs.length≤1099511627776) (e:Nat→σ→τ) {body:τ→Option (τ ⊕ ρ)} (f:Nat→α→σ→Option (σ ⊕ ρ)) (fin:σ→Option ρ)
    (h1 : ∀ (k:Nat) x st,xs[k]?=some x→k<xs.length→idx xs (k:Int)=some x→decide ((k:Int)<(xs.length:Int))=true→IntKind.i64.wrap ((k:Int)+1)=((k+1:Nat):Int) →
      body (e k st)=match f k x st with
        | none=>none
        | some (.inl st')=>some (.inl (e (k+1) st'))
        | some (.inr r)=>some (.inr r))
    (h2:∀ st,decide ((xs.length:Int)<(xs.length:Int))=false→body (e xs.length st)=(fin st).map .inr) :
    ∀ (n k:Nat) st,k+n=xs.length→iter body (e k st)=foldE f fin k (xs.drop k) st
  | 0,k,st,h=>by
    have hk:k=xs.length:=by omega
    subst hk
    rw [Q3a,h2 st (by simp),List.drop_length]
    unfold foldE
    cases fin st<;>rfl
  | n + 1,k,st,h=>by
    have hlt:k<xs.length:=by omega
    have hg:xs[k]?=some xs[k]:=List.getElem?_eq_getElem hlt
    rw [Q3a,h1 k xs[k] st hg hlt (Z4a hg) (by simp;omega) (V5a (by omega)),List.drop_eq_getElem_cons hlt]
    unfold foldE
    cases f k xs[k] st with
    | none=>rfl
    | some v =>
      cases v with
      | inl st'=>exact iter_list xs hx e f fin h1 h2 n (k+1) st' (by omega)
      | inr r=>rfl
theorem iter_list0 {α σ ρ τ:Type} (xs:List α) (hx:xs.length≤1099511627776) (e:Nat→σ→τ) {body:τ→Option (τ ⊕ ρ)} (f:Nat→α→σ→Option (σ ⊕ ρ)) (fin:σ→Option ρ) (st:σ)
    (h1 : ∀ (k:Nat) x st,xs[k]?=some x→k<xs.length→idx xs (k:Int)=some x→decide ((k:Int)<(xs.length:Int))=true→IntKind.i64.wrap ((k:Int)+1)=((k+1:Nat):Int) →
      body (e k st)=match f k x st with
        | none=>none
        | some (.inl st')=>some (.inl (e (k+1) st'))
        | some (.inr r)=>some (.inr r))
    (h2:∀ st,decide ((xs.length:Int)<(xs.length:Int))=false→body (e xs.length st)=(fin st).map .inr):iter body (e 0 st)=foldE f fin 0 xs st:=by
  have:=iter_list xs hx e f fin h1 h2 xs.length 0 st (by omega)
  simpa using this
theorem iter_inv {α β:Type} {body:α→Option (α ⊕ β)} (I:α→Prop) (μ:α→Nat) (R:β→Prop) (h:∀ s,I s→(∃ s',body s=some (.inl s')∧I s'∧μ s' < μ s)∨∃ r,body s=some (.inr r)∧R r):∀ (n:Nat) s,μ s≤n→I s→∃ r,iter body s=some r∧R r
  | n,s,hn,hs=>by
    rcases h s hs with ⟨s',h1,h2,h3⟩ | ⟨r,h1,h2⟩
    · match n,hn with
      | 0,hn=>omega
      | n+1,hn =>
        obtain ⟨r,h4,h5⟩:=iter_inv I μ R h n s' (by omega) h2
        exact ⟨r,by rw [Q3a,h1];exact h4,h5⟩
    · exact ⟨r,by rw [Q3a,h1],h2⟩
theorem equal_loop {α:Type} [DecidableEq α] (a b:List α) (ha:a.length≤1099511627776) (hl:a.length=b.length) {body:Int→Option (Int ⊕ Bool)}
    (h1:∀ (k:Nat) x y,decide ((k:Int)<(a.length:Int))=true→idx a (k:Int)=some x→idx b (k:Int)=some y→IntKind.i64.wrap ((k:Int)+1)=((k+1:Nat):Int)→body k=if x=y then some (.inl ((k+1:Nat):Int)) else some (.inr false))
    (h2:decide ((a.length:Int)<(a.length:Int))=false→body a.length=some (.inr true)):iter body 0=some (decide (a=b)):=by
  have key:∀ (n k:Nat),k+n=a.length→iter body k=some (decide (a.drop k=b.drop k)):=by
    intro n
    induction n with
    | zero =>
      intro k hk
      have hk:k=a.length:=by omega
      subst hk
      rw [Q3a,h2 (by simp),List.drop_length,List.drop_of_length_le (by omega)]
      simp
    | succ n ih =>
      intro k hk
      have hlt:k<a.length:=by omega
      have hlt2:k<b.length:=by omega
      have hd:(a.drop k=b.drop k) ↔ (a[k]=b[k]∧a.drop (k+1)=b.drop (k+1)):=by
        have ea:=List.drop_eq_getElem_cons hlt
        have eb:=List.drop_eq_getElem_cons hlt2
        constructor
        · intro h;rw [ea,eb] at h;exact List.cons.inj h
        · rintro ⟨h1,h2⟩;rw [ea,eb,h1,h2]
      rw [Q3a,h1 k a[k] b[k] (by simp;omega) (Z4a (List.getElem?_eq_getElem hlt)) (Z4a (List.getElem?_eq_getElem hlt2)) (V5a (by omega))]
      by_cases hxy:a[k]=b[k]
      · rw [if_pos hxy]
        simp only
        rw [ih (k+1) (by omega)]
        simp [hd,hxy]
      · rw [if_neg hxy]
        simp [hd,hxy]
  have:=key a.length 0 (by omega)
  simpa using this
end Go.Proofs.YtchmpaaofmihcaaGreat
namespace Go.Proofs.YtchmpaaofmihcaaGreat
open Go.RowKit
set_option linter.unusedVariables false
set_option linter.unusedSimpArgs false
theorem on9:Opn Tryz.prog 9 (fun s:List UInt8=>[.str s]) gS mS :=
  (Opn.str Tryz.underlying9).map id (fun _=>rfl) (fun _ _=>trivial) (fun _=>Nat.le_refl _)
theorem on22:Opn Tryz.prog 22 (fun l=>[.sl (l.map encS)]) (gL gS) (mL mS) :=
  (Opn.slice (size:=0) Tryz.underlying22 Ty.c9 on9).map id (fun _=>rfl) (fun a h=>h) (fun _=>Nat.le_refl _)
theorem on3:Opn Tryz.prog 3 (fun n:Int=>[.int .i64 n]) gI mI :=
  (Opn.int Tryz.underlying3).map id (fun _=>rfl) (fun a h=>⟨h.1,h.2⟩) (fun _=>Nat.le_refl _)
theorem on34:Opn Tryz.prog 34 Q6a gWrite mWrite :=
  (Opn.struct Tryz.underlying34 Ty.c34 (OpnF.cons rfl 1 Ty.c3 on3 (OpnF.cons rfl 1 Ty.c9 on9 OpnF.nil))).map (fun p=>(⟨p.1,p.2.1⟩:Write)) (fun p=>rfl) (fun p h=>⟨h.1,h.2.1⟩) (fun p=>by simp only [mWrite,mI,mB];omega)
theorem on23:Opn Tryz.prog 23 (fun l=>[.sl (l.map Q6a)]) (gL gWrite) (mL mWrite) :=
  (Opn.slice (size:=1) Tryz.underlying23 Ty.c34 on34).map id (fun _=>rfl) (fun a h=>h) (fun _=>Nat.le_refl _)
theorem on25:Opn Tryz.prog 25 Q9a gDisk mDisk :=
  (Opn.struct Tryz.underlying25 Ty.c25 (OpnF.cons rfl 1 Ty.c22 on22 (OpnF.cons rfl 1 Ty.c23 on23 OpnF.nil))).map (fun p=>(⟨p.1,p.2.1⟩:Disk)) (fun p=>rfl) (fun p h=>⟨h.1,h.2.1⟩) (fun p=>by simp only [mDisk,mI,mB];omega)
end Go.Proofs.YtchmpaaofmihcaaGreat
namespace Go.Proofs.YtchmpaaofmihcaaGreat
set_option linter.unusedVariables false
set_option linter.unusedSimpArgs false
def zz (n:Int):Nat:=if 0≤n then (2*n).toNat else (-2*n - 1).toNat
theorem zz_lt {n:Int} (h:gI n):zz n<18446744073709551616:=by unfold gI at h;unfold zz;split<;>omega
def vb:Nat→Nat→List UInt8
  | 0,u=>[UInt8.ofNat u]
  | f+1,u=>if u<128 then [UInt8.ofNat u] else UInt8.ofNat (u % 128+128)::vb f (u / 128)
def num (n:Int):List UInt8:=vb 9 (zz n)
theorem vb_len:∀ (f u:Nat),(vb f u).length≤f+1∧1≤(vb f u).length
  | 0,u=>by simp [vb]
  | f+1,u=>by
    unfold vb
    have:=vb_len f (u / 128)
    split<;>simp<;>omega
theorem Qdb (n:Int):(num n).length≤10∧1≤(num n).length:=vb_len 9 _
def lst {α:Type} (e:α→List UInt8) (l:List α):List UInt8:=num (l.length:Int)++l.flatMap e
def bItem (x:Item):List UInt8:=num x.Key++(num x.Val++num x.Dep)
def bKeyed (x:Keyed):List UInt8:=num x.Key++num x.N
def bMem (x:Memory):List UInt8:=num x.Sum++(num x.Dep++lst bKeyed x.Keys)
def Via (x:Choice):List UInt8:=num x.Node++num x.Lane
def bState (x:State):List UInt8:=lst num x.At++(lst (lst bItem) x.Rings++(lst bMem x.Memory++(lst Via x.Choices++lst bItem x.Out)))
abbrev short {α:Type} (ok:α→Prop) (l:List α):Prop:=l.length≤1099511627776∧∀ a,a∈l→ok a
def sMem (x:Memory):Prop:=gI x.Sum∧gI x.Dep∧short gKeyed x.Keys
def sState (x:State):Prop:=short gI x.At∧short (short gItem) x.Rings∧short sMem x.Memory∧short gChoice x.Choices∧short gItem x.Out
end Go.Proofs.YtchmpaaofmihcaaGreat
namespace Go.Proofs.YtchmpaaofmihcaaGreat
set_option linter.unusedVariables false
set_option linter.unusedSimpArgs false
theorem ofInt_i64 (a:Nat) (ha:a<9223372036854775808):(BitVec.ofInt 64 (a:Int)).toNat=a:=by
  rw [BitVec.toNat_ofInt];omega
theorem bits_and (a b:Nat) (ha:a<9223372036854775808) (hb:b<9223372036854775808):ibits .and .i64 (a:Int) (b:Int)=((a &&& b:Nat):Int):=by
  have hx:a &&& b<2 ^ 63:=Nat.lt_of_le_of_lt Nat.and_le_left (by omega)
  show IntKind.i64.wrap ((BitVec.ofInt 64 (a:Int) &&& BitVec.ofInt 64 (b:Int)).toNat:Int)=_
  rw [BitVec.toNat_and,ofInt_i64 a ha,ofInt_i64 b hb,Jga (by omega) (by omega)]
theorem bits_or (a b:Nat) (ha:a<9223372036854775808) (hb:b<9223372036854775808):ibits .or .i64 (a:Int) (b:Int)=((a ||| b:Nat):Int):=by
  have hx:a ||| b<2 ^ 63:=Nat.or_lt_two_pow (by omega) (by omega)
  show IntKind.i64.wrap ((BitVec.ofInt 64 (a:Int) ||| BitVec.ofInt 64 (b:Int)).toNat:Int)=_
  rw [BitVec.toNat_or,ofInt_i64 a ha,ofInt_i64 b hb,Jga (by omega) (by omega)]
theorem bits_xor (a b:Nat) (ha:a<9223372036854775808) (hb:b<9223372036854775808):ibits .xor .i64 (a:Int) (b:Int)=((a ^^^ b:Nat):Int):=by
  have hx:a ^^^ b<2 ^ 63:=Nat.xor_lt_two_pow (by omega) (by omega)
  show IntKind.i64.wrap ((BitVec.ofInt 64 (a:Int) ^^^ BitVec.ofInt 64 (b:Int)).toNat:Int)=_
  rw [BitVec.toNat_xor,ofInt_i64 a ha,ofInt_i64 b hb,Jga (by omega) (by omega)]
def crc1 (n:Nat):Nat:=if (n*2) &&& 65536≠0 then (n*2) ^^^ 69665 else n*2
def crcN:Nat→Nat→Nat
  | 0,n=>n
  | k+1,n=>crcN k (crc1 n)
def crcB (n:Nat) (b:UInt8):Nat:=crcN 8 (n ^^^ (b.toNat*256))
def crc (l:List UInt8):Nat:=l.foldl crcB 65535
theorem and_hi (q r q' r':Nat) (hr:r<65536) (hr':r' < 65536):(65536*q+r) &&& (65536*q' + r')=65536*(q &&& q')+(r &&& r'):=by
  have hrr:r &&& r' < 2 ^ 16:=Nat.lt_of_le_of_lt Nat.and_le_left hr
  apply Nat.eq_of_testBit_eq
  intro i
  have e:(65536:Nat)=2 ^ 16:=by decide
  rw [e] at hr hr' ⊢
  rw [Nat.testBit_and,Nat.testBit_two_pow_mul_add _ hr,Nat.testBit_two_pow_mul_add _ hr',Nat.testBit_two_pow_mul_add _ hrr]
  split<;>simp [Nat.testBit_and]
theorem xor_hi (q r q' r':Nat) (hr:r<65536) (hr':r' < 65536):(65536*q+r) ^^^ (65536*q' + r')=65536*(q ^^^ q')+(r ^^^ r'):=by
  have hrr:r ^^^ r' < 2 ^ 16:=Nat.xor_lt_two_pow (n:=16) (by omega) (by omega)
  apply Nat.eq_of_testBit_eq
  intro i
  have e:(65536:Nat)=2 ^ 16:=by decide
  rw [e] at hr hr' ⊢
  rw [Nat.testBit_xor,Nat.testBit_two_pow_mul_add _ hr,Nat.testBit_two_pow_mul_add _ hr',Nat.testBit_two_pow_mul_add _ hrr]
  split<;>simp [Nat.testBit_xor]
theorem xor_lt16 {a b:Nat} (ha:a<65536) (hb:b<65536):a ^^^ b<65536:=Nat.xor_lt_two_pow (n:=16) ha hb
theorem crc1_lo {n:Nat} (h:n<32768):crc1 n=n*2:=by
  have e:(n*2) &&& 65536=0:=by
    have:=and_hi 0 (n*2) 1 0 (by omega) (by omega)
    simpa using this
  unfold crc1
  rw [e];rfl
theorem crc1_hi {n:Nat} (h:32768≤n) (h':n<65536):crc1 n=(n*2 - 65536) ^^^ 4129:=by
  have e:n*2=65536*1+(n*2 - 65536):=by omega
  have e1:(n*2) &&& 65536=65536:=by
    have:=and_hi 1 (n*2 - 65536) 1 0 (by omega) (by omega)
    rw [← e] at this
    simpa using this
  have e2:=xor_hi 1 (n*2 - 65536) 1 4129 (by omega) (by omega)
  rw [← e] at e2
  unfold crc1
  rw [e1,if_pos (by decide)]
  simpa using e2
theorem crc1_lt {n:Nat} (h:n<65536):crc1 n<65536:=by
  by_cases h':n<32768
  · rw [crc1_lo h'];omega
  · rw [crc1_hi (by omega) h];exact xor_lt16 (by omega) (by decide)
theorem crcN_lt {k n:Nat} (h:n<65536):crcN k n<65536:=by
  induction k generalizing n with
  | zero=>exact h
  | succ k ih=>exact ih (crc1_lt h)
theorem crcX_lt {n:Nat} {b:UInt8} (h:n<65536):n ^^^ (b.toNat*256)<65536:=xor_lt16 h (by have:=b.toNat_lt;omega)
theorem crcB_lt {n:Nat} {b:UInt8} (h:n<65536):crcB n b<65536:=crcN_lt (crcX_lt h)
theorem crcF_lt (l:List UInt8):∀ {n:Nat},n<65536→l.foldl crcB n<65536:=by
  induction l with
  | nil=>exact fun h=>h
  | cons b l ih=>exact fun h=>ih (crcB_lt h)
theorem crc_lt (l:List UInt8):crc l<65536:=crcF_lt l (by decide)
theorem wrap_n {n:Nat} (h:n<9223372036854775808):IntKind.i64.wrap (n:Int)=(n:Int):=Jga (by omega) (by omega)
theorem wrap_b (c:UInt8):IntKind.i64.wrap (c.toNat:Int)=(c.toNat:Int):=wrap_n (by have:=c.toNat_lt;omega)
theorem u8_mod (n:Nat):IntKind.u8.wrap (n:Int)=((n % 256:Nat):Int):=by simp [IntKind.wrap,IntKind.signed,IntKind.bits]
theorem str_1 (n:Nat):toStr [IntKind.u8.wrap (n:Int)]=[UInt8.ofNat n]:=by
  unfold toStr
  rw [u8_mod]
  simp only [List.map_cons,List.map_nil,Int.toNat_natCast]
  congr 1
  exact UInt8.toNat_inj.1 (by simp)
theorem str_2 (n m:Nat):toStr [IntKind.u8.wrap (n:Int),IntKind.u8.wrap (m:Int)]=[UInt8.ofNat n,UInt8.ofNat m]:=by
  have h1:=str_1 n
  have h2:=str_1 m
  unfold toStr at *
  simp only [List.map_cons,List.map_nil,List.cons.injEq,and_true] at *
  exact ⟨h1,h2⟩
theorem shl_n {x k:Nat} (hk:k≤64) (h:x*2 ^ k<9223372036854775808):shl .i64 (x:Int) (k:Int)=some ((x*2 ^ k:Nat):Int):=by
  unfold shl
  rw [if_pos (by omega)]
  have e:min (k:Int).toNat IntKind.i64.bits=k:=by
    have:IntKind.i64.bits=64:=rfl
    rw [this];simp;omega
  rw [e]
  congr 1
  have:((x:Int)*2 ^ k)=((x*2 ^ k:Nat):Int):=by push_cast;rfl
  rw [this,wrap_n h]
theorem shr8 {x:Nat} (h:x<9223372036854775808):shr .i64 (x:Int) 8=some ((x / 256:Nat):Int):=by
  unfold shr
  rw [if_pos (by omega)]
  have e:min (8:Int).toNat IntKind.i64.bits=8:=rfl
  rw [e]
  congr 1
  rw [Int.fdiv_eq_ediv_of_nonneg _ (by decide)]
  omega
theorem sum_inner (s2:Int):∀ (n j x:Nat),j+n=8→x<65536→iter (fun ss:Int × Int=>Yza s2 ss.1 ss.2) ((x:Int),(j:Int))=some (.inl (((crcN n x:Nat):Int),IntKind.i64.wrap (s2+1)))
  | 0,j,x,hj,hx=>by
    have e:Yza s2 (x:Int) (j:Int)=some (.inr (.inl ((x:Int),IntKind.i64.wrap (s2+1)))):=by
      unfold Yza
      rw [if_neg (by simp;omega)];rfl
    rw [Q3a];simp only [e];rfl
  | n + 1,j,x,hj,hx=>by
    have h1:shl .i64 (x:Int) 1=some ((x*2:Nat):Int):=by
      have:=shl_n (x:=x) (k:=1) (by omega) (by omega)
      simpa using this
    have ha:ibits .and .i64 ((x*2:Nat):Int) 65536=(((x*2) &&& 65536:Nat):Int):=bits_and (x*2) 65536 (by omega) (by decide)
    have hb:ibits .xor .i64 ((x*2:Nat):Int) 69665=(((x*2) ^^^ 69665:Nat):Int):=bits_xor (x*2) 69665 (by omega) (by decide)
    have e:Yza s2 (x:Int) (j:Int)=some (.inl (((crc1 x:Nat):Int),((j+1:Nat):Int))):=by
      unfold Yza
      rw [if_pos (by simp;omega),h1]
      simp only [Option.bind_some]
      rw [ha,hb,V5a (by omega)]
      unfold crc1
      by_cases hc:(x*2) &&& 65536=0
      · rw [if_neg (by simp [hc]),if_neg (by simp [hc])]
      · rw [if_pos (by simpa using hc),if_pos (by simpa using hc)]
    rw [Q3a];simp only [e]
    exact sum_inner s2 n (j+1) (crc1 x) (by omega) (crc1_lt hx)
theorem frame_sum_eq (b:List UInt8) (hb:b.length≤1099511627776):frame_sum b=some ((crc b:Nat):Int):=by
  unfold frame_sum
  have:=iter_list0 (σ:=Fin 65536) b hb (fun k st=>((st.val:Int),(k:Int))) (body:=fun ss:Int × Int=>Y4a b ss.1 ss.2)
    (fun k x st=>some (.inl ⟨crcB st.val x,crcB_lt st.isLt⟩)) (fun st=>some (st.val:Int)) ⟨65535,by decide⟩
    (fun k x st _ hk h1 h2 h3=>by
      show Y4a b (st.val:Int) (k:Int)=_
      unfold Y4a
      rw [h2,h1]
      simp only [if_true,Option.bind_some,wrap_b]
      have hx:=x.toNat_lt
      have hst:=st.isLt
      have h4:shl .i64 (x.toNat:Int) 8=some ((x.toNat*256:Nat):Int):=by
        have:=shl_n (x:=x.toNat) (k:=8) (by omega) (by omega)
        simpa using this
      rw [h4]
      simp only [Option.bind_some]
      rw [bits_xor _ _ (by omega) (by omega)]
      have:=sum_inner (k:Int) 8 0 (st.val ^^^ x.toNat*256) (by omega) (crcX_lt st.isLt)
      rw [h3] at this
      exact this)
    (fun st h=>by
      show Y4a b (st.val:Int) (b.length:Int)=_
      unfold Y4a
      rw [h];rfl)
  refine Eq.trans this ?_
  have fold:∀ (ys:List UInt8) (k:Nat) (st:Fin 65536),foldE (σ:=Fin 65536) (ρ:=Int) (fun k x st=>some (.inl ⟨crcB st.val x,crcB_lt st.isLt⟩)) (fun st=>some (st.val:Int)) k ys st=some ((ys.foldl crcB st.val:Nat):Int):=by
    intro ys
    induction ys with
    | nil=>intro k st;rfl
    | cons y ys ih=>intro k st;unfold foldE;simp only;rw [ih];rfl
  rw [fold];rfl
def frm (b:List UInt8):List UInt8:=UInt8.ofNat b.length::b++[UInt8.ofNat (crc (UInt8.ofNat b.length::b) / 256),UInt8.ofNat (crc (UInt8.ofNat b.length::b))]
def putFr (b:List UInt8):List UInt8 × Int:=if b=[] then ([],4) else if 60<b.length then ([],2) else (frm b,0)
theorem frame_Put_eq (b:List UInt8):frame_Put b=some (putFr b):=by
  unfold frame_Put putFr
  by_cases h1:b=[]
  · rw [if_pos (by simp [h1]),if_pos h1]
  rw [if_neg (by simpa using h1),if_neg h1]
  by_cases h2:60<b.length
  · rw [if_pos (by simp;omega),if_pos h2]
  rw [if_neg (by simp;omega),if_neg h2,str_1,cat_ok (by simp;omega)]
  simp only [Option.bind_some,List.singleton_append]
  rw [frame_sum_eq _ (by simp;omega)]
  simp only [Option.bind_some]
  have hc:=crc_lt (UInt8.ofNat b.length::b)
  rw [shr8 (by omega)]
  simp only [Option.bind_some]
  rw [str_2,cat_ok (by simp;omega)]
  simp [frm]
def recAt (r:List UInt8):Option (List UInt8) :=
  match r with
  | []=>none
  | h::t =>
    if h.toNat<1∨60<h.toNat∨t.length+1<h.toNat+3 then none
    else if (t.getD h.toNat 0).toNat*256+(t.getD (h.toNat+1) 0).toNat≠crc (h::t.take h.toNat) then none
    else some (t.take h.toNat)
def records:Nat→List UInt8→List (List UInt8) × Nat
  | 0,_=>([],0)
  | n+1,r =>
    match recAt r with
    | none=>([],0)
    | some p=>(p::(records n (r.drop (p.length+3))).1,p.length+3+(records n (r.drop (p.length+3))).2)
def readR (b:List UInt8):List (List UInt8) × Int × Int :=
  if 12800<b.length then ([],0,2) else ((records b.length b).1,((records b.length b).2:Int),0)
theorem frame_Read_eq (b:List UInt8):frame_Read b=some (readR b):=by
  unfold frame_Read readR
  by_cases h0:12800<b.length
  · rw [if_pos (by simp;omega),if_pos h0]
  rw [if_neg (by simp;omega),if_neg h0]
  have key:∀ (n u:Nat) (acc:List (List UInt8)),u≤b.length→acc.length≤u→b.length≤u+n →
      iter (fun ss:Int × List (List UInt8)=>Zha b ss.1 ss.2) ((u:Int),acc)=some (acc++(records n (b.drop u)).1,((u+(records n (b.drop u)).2:Nat):Int),0):=by
    intro n
    induction n with
    | zero =>
      intro u acc hu ha hn
      have e:Zha b (u:Int) acc=some (.inr (acc,(u:Int),0)):=by
        unfold Zha
        rw [if_neg (by simp;omega)];rfl
      rw [Q3a];simp only [e];simp [records]
    | succ n ih =>
      intro u acc hu ha hn
      have stop:recAt (b.drop u)=none→Zha b (u:Int) acc=some (.inr (acc,(u:Int),0))→iter (fun ss:Int × List (List UInt8)=>Zha b ss.1 ss.2) ((u:Int),acc)=some (acc++(records (n+1) (b.drop u)).1,((u+(records (n+1) (b.drop u)).2:Nat):Int),0):=by
        intro h1 h2
        rw [Q3a];simp only [h2];simp [records,h1]
      by_cases hlt:u<b.length
      · have hr:b.drop u=b[u]::b.drop (u+1):=List.drop_eq_getElem_cons hlt
        generalize hc:b[u]=c at hr
        generalize ht:b.drop (u+1)=t at hr
        have hlen:t.length+1+u=b.length:=by rw [← ht];simp;omega
        have hcl:=c.toNat_lt
        have w1:IntKind.i64.wrap ((c.toNat:Int)+1)=((c.toNat+1:Nat):Int):=by rw [Jga (by omega) (by omega)];rfl
        have w2:IntKind.i64.wrap ((c.toNat:Int)+2)=((c.toNat+2:Nat):Int):=by rw [Jga (by omega) (by omega)];rfl
        have w3:IntKind.i64.wrap ((c.toNat:Int)+3)=((c.toNat+3:Nat):Int):=by rw [Jga (by omega) (by omega)];rfl
        have e1:sub b (u:Int) (b.length:Int)=some (c::t):=by rw [sub_end hu,hr]
        have e2:idx (c::t) 0=some c:=by simp [idx]
        rw [hr] at stop ⊢
        by_cases hbad:c.toNat<1∨60<c.toNat∨t.length+1<c.toNat+3
        · refine stop (by simp only [recAt];rw [if_pos hbad]) ?_
          unfold Zha
          rw [if_pos (by simp;omega),e1]
          simp only [Option.bind_some]
          rw [e2]
          simp only [Option.bind_some,wrap_b,w1,w2,w3]
          rw [if_pos (by simp;omega)];rfl
        have e3:sub (c::t) 0 ((c.toNat+1:Nat):Int)=some (c::t.take c.toNat):=by rw [sub_0 (by simp;omega)];simp
        have e4:sub (c::t) 1 ((c.toNat+1:Nat):Int)=some (t.take c.toNat):=by
          have:=sub_ok (xs:=c::t) (i:=1) (j:=c.toNat+1) (by omega) (by simp;omega)
          simpa using this
        have hs:=frame_sum_eq (c::t.take c.toNat) (by simp;omega)
        have hcs:=crc_lt (c::t.take c.toNat)
        have hx:∃ x,t[c.toNat]?=some x:=⟨_,List.getElem?_eq_getElem (by omega)⟩
        have hy:∃ y,t[c.toNat+1]?=some y:=⟨_,List.getElem?_eq_getElem (by omega)⟩
        obtain ⟨x,hx⟩:=hx
        obtain ⟨y,hy⟩:=hy
        have ix:idx (c::t) ((c.toNat+1:Nat):Int)=some x:=Z4a (by simpa using hx)
        have iy:idx (c::t) ((c.toNat+2:Nat):Int)=some y:=Z4a (by simpa using hy)
        have hxl:=x.toNat_lt
        have hyl:=y.toNat_lt
        have h8:shl .i64 (x.toNat:Int) 8=some ((x.toNat*256:Nat):Int):=by
          have:=shl_n (x:=x.toNat) (k:=8) (by omega) (by omega)
          simpa using this
        have hor:x.toNat*256 ||| y.toNat=x.toNat*256+y.toNat:=by
          have:=Nat.two_pow_add_eq_or_of_lt (i:=8) (b:=y.toNat) hyl x.toNat
          rw [Nat.mul_comm x.toNat 256,show (256:Nat)=2 ^ 8 by decide,← this]
        have hx':t.getD c.toNat 0=x:=by rw [List.getD_eq_getElem?_getD,hx];rfl
        have hy':t.getD (c.toNat+1) 0=y:=by rw [List.getD_eq_getElem?_getD,hy];rfl
        by_cases hsum:x.toNat*256+y.toNat=crc (c::t.take c.toNat)
        · have hsome:recAt (c::t)=some (t.take c.toNat):=by simp only [recAt,hx',hy'];rw [if_neg hbad,if_neg (by omega)]
          have hp:(t.take c.toNat).length=c.toNat:=by simp;omega
          have e:Zha b (u:Int) acc=some (.inl (((u+(c.toNat+3):Nat):Int),acc++[t.take c.toNat])):=by
            unfold Zha
            rw [if_pos (by simp;omega),e1]
            simp only [Option.bind_some]
            rw [e2]
            simp only [Option.bind_some,wrap_b,w1,w2,w3]
            rw [if_neg (by simp;omega),e3]
            simp only [Option.bind_some]
            rw [hs]
            simp only [Option.bind_some]
            rw [ix]
            simp only [Option.bind_some,wrap_b]
            rw [h8]
            simp only [Option.bind_some]
            rw [iy]
            simp only [Option.bind_some,wrap_b]
            rw [bits_or _ _ (by omega) (by omega),hor,if_neg (by simp [hsum]),e4]
            simp only [Option.bind_some]
            rw [app_ok (by simp;omega)]
            simp only [Option.bind_some]
            rw [show (u:Int)+((c.toNat+3:Nat):Int)=((u+(c.toNat+3):Nat):Int) by omega,wrap_n (by omega)]
          rw [Q3a];simp only [e]
          have hdrop:(c::t).drop (c.toNat+3)=b.drop (u+(c.toNat+3)):=by rw [← hr,List.drop_drop]
          rw [ih (u+(c.toNat+3)) (acc++[t.take c.toNat]) (by omega) (by simp;omega) (by omega)]
          have hstep:records (n+1) (c::t)=(t.take c.toNat::(records n (b.drop (u+(c.toNat+3)))).1,c.toNat+3+(records n (b.drop (u+(c.toNat+3)))).2):=by
            simp only [records,hsome,hp,hdrop]
          rw [hstep]
          simp;omega
        · refine stop (by simp only [recAt,hx',hy'];rw [if_neg hbad,if_pos hsum]) ?_
          unfold Zha
          rw [if_pos (by simp;omega),e1]
          simp only [Option.bind_some]
          rw [e2]
          simp only [Option.bind_some,wrap_b,w1,w2,w3]
          rw [if_neg (by simp;omega),e3]
          simp only [Option.bind_some]
          rw [hs]
          simp only [Option.bind_some]
          rw [ix]
          simp only [Option.bind_some,wrap_b]
          rw [h8]
          simp only [Option.bind_some]
          rw [iy]
          simp only [Option.bind_some,wrap_b]
          rw [bits_or _ _ (by omega) (by omega),hor,if_pos (by simp;omega)];rfl
      · have hnil:b.drop u=[]:=List.drop_of_length_le (by omega)
        refine stop (by rw [hnil];rfl) ?_
        unfold Zha
        rw [if_neg (by simp;omega)];rfl
  have:=key b.length 0 [] (by omega) (by simp) (by omega)
  simpa using this
theorem slices_Equal_string_eq (a b:List (List UInt8)) (ha:a.length≤1099511627776):J3a a b=some (decide (a=b)):=by
  unfold J3a
  by_cases hl:a.length=b.length
  · rw [if_neg (by simp;omega)]
    exact equal_loop a b ha hl (fun k x y h1 h2 h3 h4=>by
      unfold Vea
      rw [h1,h2,h3,h4]
      by_cases h:x=y<;>simp [h]) (fun h=>by
      unfold Vea
      rw [h];simp)
  · rw [if_pos (by simp;omega)]
    have:a≠b:=fun e=>hl (by rw [e])
    simp [this]
end Go.Proofs.YtchmpaaofmihcaaGreat
