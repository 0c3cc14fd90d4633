/-
  Part 4 of the proof of saveGetLaw.proved: the code computes these functions, and the law holds of them, with no condition beyond the statement's own; put together by a program of ours (wip/decl.py) out of texts of ours.
-/
import Derived.Test.YtchmpaaofmihcaaGreatZSaveGet3
namespace Go.Proofs.YtchmpaaofmihcaaGreat
open Go.RowKit
set_option linter.unusedVariables false
set_option linter.unusedSimpArgs false
set_option maxRecDepth 100000
set_option maxHeartbeats 4000000
set_option synthInstance.maxSize 100000
set_option synthInstance.maxHeartbeats 4000000
theorem Ysa (p0:List Item) (r:Item × (List Item) × Int) (h:ring_Take p0=some r):FnO Tryz.prog 87 [sL Qaa p0] (.tup [.agg (Qaa r.1),.ref 0,iI r.2.2]) [aR 115 3 Qaa r.2.1]:=by
  unfold ring_Take at h
  refine fnT 0 Tryz.func87 Tryz.ntmps87 ?_
  refine T.seq (T.region (go 3 0 (RS.nil (T.seq (T.seq (T.region (go 1 1 (sQ (Qka Ty.s52 rfl (go 1 1 ?_))))))))))
  refine RS.nil (T.ci h rfl (fun hb_1 h=>?_) (fun hb_1 h=>?_))
  ·refine T.seq (T.region (go 4 1 (RS.nil ?_)))
   cases h
   exact tO [(1,115,3)] [1] 1
  refine T.skip (T.seq (T.seq (T.region (go 1 1 (sQ (Qka Ty.s52 rfl (go 1 1 (RS.nil (T.ci h rfl (fun hb_2 h=>?_) (fun hb_2 h=>?_))))))))))
  ·refine T.seq (T.region (go 4 1 (RS.nil ?_)))
   cases h
   exact tO [(1,115,3)] [1] 1
  refine T.skip (T.seq ?_)
  obtain ⟨x4,hx4,h⟩:=bind_some h
  obtain ⟨x5,hx5,h⟩:=bind_some h
  obtain ⟨x6,hx6,h⟩:=bind_some h
  refine T.drawn mixed (k:=9) rfl ?_
  apply RA.jn 3 #[true,true,true,true,true,true,false,false,false];intro hS3
  ·refine rq [0] 8 (r0 1 rfl (Qja Ty.s52 (fun _=>rfl) rfl rfl hx4 (rq [3] 6 (r0 4 rfl (v_slice_sl Ty.s52 (fun _=>rfl) rfl rfl rfl hx5 (ra2 2 5 ?_ ?_))))))
   ·refine og 1 ⟨rfl,(ra1 5 (oO rfl (cO 1 (Yea x5 x6 hx6) ⟨rfl,?_⟩)))⟩
    exact raE hS3
   ·refine oO rfl (cO 1 (Yea x5 x6 hx6) ⟨rfl,(ra1 2 (og 2 ⟨rfl,?_⟩))⟩)
    exact raT hS3
  refine ra1 6 (og 2 ⟨rfl,(rq [7,8] 0 (RA.done (by decide +kernel) ?_))⟩)
  cases h
  exact tO [] [1] 2
theorem ring_Put_c (p0:List Item) (p1:Int) (p2:Item) (r:(List Item) × Int) (h:ring_Put p0 p1 p2=some r):FnO Tryz.prog 90 [sL Qaa p0,iI p1,.agg (Qaa p2)] (.tup [.ref 0,iI r.2]) [aR 115 3 Qaa r.1]:=by
  unfold ring_Put at h
  refine fnT 0 Tryz.func90 Tryz.ntmps90 ?_
  refine T.seq (T.region (go 3 0 (RS.nil (T.seq (T.join (Z:=Unit) (fun _=>mkA 27 [(0,sL Qaa p0),(1,iI p1),(5,.ptr 0 0),(13,.bool ((decide (p1<1)) || decide (p1 > 6)))]) (fun _=>[.box (Qaa p2)]) (fun _=>True) (fun _ _=>?_) (fun hK=>?_))))))
  ·refine T.ci h rfl (fun hb_2 h=>?_) (fun hb_2 h=>?_)
   ·refine T.seq (T.region (go 2 1 (RS.nil ?_)))
    cases h
    exact tO [(0,115,3)] [1] 1
   refine T.skip (T.seq (T.seq (T.region (go 1 1 (sQ (Qka Ty.s52 rfl (go 2 1 (RS.nil (T.ci h rfl (fun hb_3 h=>?_) (fun hb_3 h=>?_))))))))))
   ·refine T.seq (T.region (go 2 1 (RS.nil ?_)))
    cases h
    exact tO [(0,115,3)] [1] 1
   refine T.skip (T.seq (T.seq (T.region (go 1 1 (sQ (Qka Ty.s52 rfl (go 2 1 (RS.nil (T.ci h rfl (fun hb_4 h=>?_) (fun hb_4 h=>?_))))))))))
   ·refine T.seq (T.region (go 2 1 (RS.nil ?_)))
    cases h
    exact tO [(0,115,3)] [1] 1
   refine T.skip (T.seq ?_)
   obtain ⟨x4,hx4,h⟩:=bind_some h
   obtain ⟨x5,hx5,h⟩:=bind_some h
   refine T.drawn mixed (k:=7) rfl ?_
   apply RA.jn 3 #[true,true,true,true,false,false,false];intro hS5
   apply RA.jn 4 #[true,true,true,false,false,false,false];intro hS6
   ·refine rq [0] 6 (ra2 1 2 ?_ ?_)
    ·refine oO rfl (cO 1 (Yea p0 x4 hx4) ⟨rfl,(ra1 2 (og 2 ⟨rfl,?_⟩))⟩)
     exact raE hS6
    ·refine og 1 ⟨rfl,(ra2 1 3 ?_ ?_)⟩
     ·refine oO rfl (cO 1 (Yea p0 x4 hx4) ⟨rfl,?_⟩)
      exact raT hS6
     ·refine oO rfl (Qsa (rows:=List.map Qaa [p2]) (vs:=[.agg (Qaa p2)]) Ty.s52 Ty.z115 rfl rfl rfl rfl rfl rfl (ra1 1 (oO rfl (cO 2 (Yea p0 x4 hx4) ⟨rfl,?_⟩))))
      exact raE hS5
   ·refine ra1 3 (oO rfl (Qsa (rows:=List.map Qaa [p2]) (vs:=[.agg (Qaa p2)]) Ty.s52 Ty.z115 rfl rfl rfl rfl rfl rfl ?_))
    exact raV hS5 [0,2,1] rfl
   refine ra1 4 (oO rfl (Zva (en:=Qaa) (xs:=x4) (ys:=([p2]:List Item)) Ty.s52 (fun _=>rfl) rfl rfl rfl hx5 rfl rfl (rq [5,6] 0 (RA.done (by decide +kernel) ?_))))
   cases h
   exact tO [] [3] 4
  refine T.region (go 3 1 ?_)
  rcases Qca (decide (p1<1)) with hb_1 | hb_1
  ·refine sN hb_1 (sN hb_1 (sQ (Qga (v:=.bool true) rfl hb_1 rfl (RS.nil ?_))))
   exact T.sub (hK () trivial) ⟨rfl,rfl,rfl,(congrArg AV.bool (by simp only [hb_1,bz,if_true,if_false,Bool.false_eq_true])).symm,trivial⟩
  refine yg 1 hb_1 (yg 1 hb_1 (sQ (Qba (v:=.bool (decide (p1 > 6))) rfl hb_1 rfl (RS.nil ?_))))
  exact T.sub (hK () trivial) ⟨rfl,rfl,rfl,(congrArg AV.bool (by simp only [hb_1,bz,if_true,if_false,Bool.false_eq_true])).symm,trivial⟩
theorem move_do_x5aa6_c (p0:Net) (p1:List (List Item)) (p2:Move) (p3:List Int) (p4:List (List Item)) (p5:List Memory) (p6:List Choice) (p7:List Item) (r:(List Int) × (List (List Item)) × (List Memory) × (List Choice) × (List Item)) (h:Q3b p0 p1 p2 p3 p4 p5 p6 p7=some r):FnX Tryz.prog 66 [.agg (Jfa p0),sL (encL Qaa) p1,.ptr 0 0,.agg (Zla p2)] [.box [.ref 1,.ref 2,.ref 3,.ref 4,.ref 5],aR 3 1 encI p3,aR 52 1 (encL Qaa) p4,aR 90 3 Qda p5,aR 94 2 Qia p6,aR 115 3 Qaa p7] (.tup []) [.box [.ref 1,.ref 2,.ref 3,.ref 6,.ref 7],aR 3 1 encI r.1,aR 52 1 (encL Qaa) r.2.1,aR 90 3 Qda r.2.2.1,.dead,.dead,aR 94 2 Qia r.2.2.2.1,aR 115 3 Qaa r.2.2.2.2]:=by
  unfold Q3b at h
  refine fnT 6 Tryz.func66 Tryz.ntmps66 ?_
  refine T.mvB 0 4 5 (cs:=[.ref 1,.ref 2,.ref 3,.ref 4,.ref 5]) rfl rfl rfl rfl (cs':=[.ref 1,.ref 2,.ref 3,.ref 4,.ref 6]) rfl rfl (T.mvB 0 3 4 (cs:=[.ref 1,.ref 2,.ref 3,.ref 4,.ref 6]) rfl rfl rfl rfl (cs':=[.ref 1,.ref 2,.ref 3,.ref 7,.ref 6]) rfl rfl (T.seq (T.region (go 2 8 (RS.nil (T.seq ?_))))))
  obtain ⟨x2,hx2,h⟩:=bind_some h
  refine T.region (go 4 10 (sQ (Qja Ty.s45 (fun _=>rfl) rfl rfl hx2 (go 3 10 (RS.nil (T.seq ?_))))))
  obtain ⟨x4,hx4,h⟩:=bind_some h
  refine T.drawn mixed (k:=13) rfl ?_
  apply RA.jn 2 #[true,true,true,true,true,true,true,true,true,true,true,false,false];intro hS1
  ·refine rq [1,2,3] 10 (rL [0,6,7,8,9,11,12] 0 rfl (rL [4,6,7,8,9,11,12] 4 rfl (rL [5,6,7,8,9,11,12] 5 rfl (ra2 6 10 ?_ ?_))))
   ·refine oO rfl (cF (move_head_c p0 p1 (⟨p3,p4,p5,p6,p7⟩:State) p2 x4 hx4) ⟨rfl,(rq [7,8,9] 3 (ra1 10 (og 11 ⟨rfl,?_⟩)))⟩)
    exact raE hS1
   ·refine og 11 ⟨rfl,(ra1 6 (oO rfl (cF (move_head_c p0 p1 (⟨p3,p4,p5,p6,p7⟩:State) p2 x4 hx4) ⟨rfl,(rq [7,8,9] 2 ?_)⟩)))⟩
    exact raT hS1
  refine ra1 11 (og 12 ⟨rfl,(rq [12] 0 (RA.done (by decide +kernel) (T.join (Z:=(List Int) × (List (List Item))) (fun zz_21=>mkA 162 [(2,.ptr 0 0),(4,.ptr 6 0),(7,.ptr 7 0),(8,.ptr 8 0),(9,.ptr 9 0)]) (fun zz_21=>[.box [.ref 1,.ref 2,.ref 3,.ref 10,.ref 11],aR 3 1 encI zz_21.1,aR 52 1 (encL Qaa) zz_21.2,aR 90 3 Qda p5,.dead,.dead,.box (Jfa p0),.box (Zla p2),.box (Jia x2),.box (Qaa x4.1),aR 94 2 Qia p6,aR 115 3 Qaa p7]) (fun zz_21=>Vxa p0 p2 x2 x4 p5 p6 p7 zz_21.1 zz_21.2=some r) (fun zz_21 h=>?_) (fun hK4=>?_))))⟩)
  ·obtain ⟨z16,z17⟩:=zz_21
   replace h:Vxa p0 p2 x2 x4 p5 p6 p7 z16 z17=some r:=h
   try dsimp only
   unfold Vxa at h
   refine T.seq ?_
   obtain ⟨x19,hx19,h⟩:=bind_some h
   refine T.region (go 2 12 (sO (cD (move_outs_c x2 x4.1 x19 hx19) ⟨rfl,(go 1 12 (RS.nil (T.join (Z:=Int × (List Choice)) (fun zz_23=>mkA 162 [(2,.ptr 0 0),(4,.ptr 6 0),(7,.ptr 7 0),(8,.ptr 8 0),(9,.ptr 9 0),(11,sL encI x19)]) (fun zz_23=>[.box [.ref 1,.ref 2,.ref 3,.ref 10,.ref 11],aR 3 1 encI z16,aR 52 1 (encL Qaa) z17,aR 90 3 Qda p5,.dead,.dead,.box (Jfa p0),.box (Zla p2),.box (Jia x2),.box [iI x4.1.Key,iI x4.1.Val,iI zz_23.1],aR 94 2 Qia zz_23.2,aR 115 3 Qaa p7]) (fun zz_23=>Vya p0 p2 x2 x4 p5 p7 z16 z17 x19 zz_23.1 zz_23.2=some r) (fun zz_23 h=>?_) (fun hK3=>?_))))⟩)))
   ·obtain ⟨z22,z23⟩:=zz_23
    replace h:Vya p0 p2 x2 x4 p5 p7 z16 z17 x19 z22 z23=some r:=h
    try dsimp only
    unfold Vya at h
    refine T.seq ?_
    obtain ⟨x29,hx29,h⟩:=bind_some h
    obtain ⟨x30,hx30,h⟩:=bind_some h
    obtain ⟨x31,hx31,h⟩:=bind_some h
    obtain ⟨x32,hx32,h⟩:=bind_some h
    obtain ⟨x33,hx33,h⟩:=bind_some h
    refine T.drawn mixed (k:=27) rfl ?_
    apply RA.jn 2 #[true,true,true,true,true,true,true,true,true,true,true,true,true,true,true,true,true,true,true,true,true,true,true,true,true,false,false];intro hS24
    apply RA.jn 4 #[true,true,true,true,true,false,true,true,true,true,true,true,true,true,true,true,true,true,true,true,true,true,true,true,false,false,false];intro hS25
    apply RA.jn 8 #[true,true,true,true,true,true,true,true,true,true,true,true,true,true,true,true,true,true,true,false,false,false,false,false,false,false,false];intro hS26
    apply RA.jn 9 #[true,true,true,true,true,false,true,true,true,true,true,true,true,true,true,true,true,true,true,false,false,false,false,false,false,false,false];intro hS27
    apply RA.jn 9 #[true,true,true,false,true,true,true,true,true,true,true,true,true,true,true,true,true,true,true,false,false,false,false,false,false,false,false];intro hS28
    apply RA.jn 9 #[true,true,true,true,true,true,true,true,true,true,true,true,true,true,true,true,true,false,true,false,false,false,false,false,false,false,false];intro hS29
    ·refine rq [0,1,2,4,6,8,10,11,12,14] 17 (rL [7,19,20,21,22,23,24,25,26] 7 rfl (rL [9,19,20,21,22,23,24,25,26] 9 rfl (rL [13,16,17,19,20,21,22,23,24,25,26] 13 rfl (rL [15,16,17,19,20,21,22,23,24,25,26] 15 rfl (r0 16 rfl (Qha (en:=Qda) Ty.s50 rfl rfl rfl hx29 (rL [18,19,20,21,22,23,24,25,26] 18 rfl (ra3 3 5 17 ?_ ?_ ?_))))))))
     ·refine og 12 ⟨rfl,(ra2 5 17 ?_ ?_)⟩
      ·refine og 12 ⟨rfl,?_⟩
       exact raE hS29
      ·refine oO rfl (Qfa (en:=Qda) (a:=x30) rfl rfl hx30 (loadRowA Ty.k90 Ty.c90 rfl (cs:=(Qda x30)) rfl ?_))
       exact raE hS27
     ·refine og 12 ⟨rfl,(ra2 3 17 ?_ ?_)⟩
      ·refine og 12 ⟨rfl,?_⟩
       exact raT hS29
      ·refine oO rfl (Qfa (en:=Qda) (a:=x30) rfl rfl hx30 (loadRowA Ty.k90 Ty.c90 rfl (cs:=(Qda x30)) rfl ?_))
       exact raE hS28
     ·refine oO rfl (Qfa (en:=Qda) (a:=x30) rfl rfl hx30 (loadRowA Ty.k90 Ty.c90 rfl (cs:=(Qda x30)) rfl (ra3 3 5 19 ?_ ?_ ?_)))
      ·refine og 12 ⟨rfl,?_⟩
       exact raT hS27
      ·refine og 12 ⟨rfl,?_⟩
       exact raT hS28
      ·refine oO rfl (cD (Yza x2.Kind x2.A x30 (⟨x4.1.Key,x4.1.Val,z22⟩:Item) x31 hx31) ⟨rfl,(rq [20,21,22,23] 5 (rL [3,24,25,26] 3 rfl ?_))⟩)
       exact raE hS25
    ·refine ra1 17 (oO rfl (Qfa (en:=Qda) (a:=x30) rfl rfl hx30 (loadRowA Ty.k90 Ty.c90 rfl (cs:=(Qda x30)) rfl ?_)))
     exact raE hS26
    ·refine ra2 3 19 ?_ ?_
     ·refine og 12 ⟨rfl,?_⟩
      exact raT hS26
     ·refine oO rfl (cD (Yza x2.Kind x2.A x30 (⟨x4.1.Key,x4.1.Val,z22⟩:Item) x31 hx31) ⟨rfl,(rq [20,21,22,23] 4 (ra1 3 (og 12 ⟨rfl,(r0 24 rfl (Qha (en:=Qda) Ty.s50 rfl rfl rfl hx32 ?_))⟩)))⟩)
      exact raE hS24
    ·refine ra2 5 19 ?_ ?_
     ·refine og 12 ⟨rfl,?_⟩
      exact raT hS26
     ·refine oO rfl (cD (Yza x2.Kind x2.A x30 (⟨x4.1.Key,x4.1.Val,z22⟩:Item) x31 hx31) ⟨rfl,(rq [20,21,22,23] 4 ?_)⟩)
      exact raT hS25
    ·refine ra1 19 (oO rfl (cD (Yza x2.Kind x2.A x30 (⟨x4.1.Key,x4.1.Val,z22⟩:Item) x31 hx31) ⟨rfl,(rq [20,21,22,23] 3 (r0 24 rfl (Qha (en:=Qda) Ty.s50 rfl rfl rfl hx32 ?_)))⟩))
     exact raT hS24
    ·refine ra1 5 (og 12 ⟨rfl,(r0 24 rfl (Qha (en:=Qda) Ty.s50 rfl rfl rfl hx32 ?_))⟩)
     exact raT hS24
    refine ra1 25 (oO rfl (Zxa (en:=Qda) (a:=x33) (a':=x31.1) Ty.c90 Ty.i90 rfl (vs:=[iI x31.1.Sum,sL Qqa x31.1.Keys,iI x31.1.Dep]) rfl rfl rfl hx33 rfl rfl rfl (ra1 26 (og 12 ⟨rfl,(RA.done (by decide +kernel) (T.join (Z:=List Item) (fun zz_31=>mkA 162 [(2,.ptr 0 0),(4,.ptr 6 0),(9,.ptr 7 0),(11,sL encI x19)]) (fun zz_31=>[.box [.ref 1,.ref 2,.ref 3,.ref 8,.ref 9],aR 3 1 encI z16,aR 52 1 (encL Qaa) z17,aR 90 3 Qda (List.set p5 x32 x31.1),.dead,.dead,.box (Jfa p0),.box (Qaa x31.2.1),aR 94 2 Qia z23,aR 115 3 Qaa zz_31]) (fun zz_31=>Yfa p0 p5 z16 z17 x19 z23 x31 x32 zz_31=some r) (fun zz_31 h=>?_) (fun hK2=>?_)))⟩))))
    ·revert h;revert zz_31;intro z35 h
     replace h:Yfa p0 p5 z16 z17 x19 z23 x31 x32 z35=some r:=h
     try dsimp only
     unfold Yfa at h
     refine T.seq (T.region (go 1 10 (sQ (Qka Ty.s49 rfl (go 1 10 (RS.nil (T.block (T.iter (fun ss_38:Int × (List (List Item))=>mkA 162 [(2,.ptr 0 0),(4,.ptr 6 0),(9,.ptr 7 0),(135,sL encI x19),(136,iI ((x19).length:Int)),(137,iI ss_38.1)]) (fun ss_38=>[.box [.ref 1,.ref 2,.ref 3,.ref 8,.ref 9],aR 3 1 encI z16,aR 52 1 (encL Qaa) ss_38.2,aR 90 3 Qda (List.set p5 x32 x31.1),.dead,.dead,.box (Jfa p0),.box (Qaa x31.2.1),aR 94 2 Qia z23,aR 115 3 Qaa z35]) h (wk [] [0,1,2,3,4,5,6,7,8,9] 10 rfl) (fun ss_38 v_39 h hv_39=>?_)))))))))
     obtain ⟨s36,s37⟩:=ss_38
     replace h:Vfa p0 p5 z16 x19 z23 x31 x32 z35 s36 s37=some v_39:=h
     try dsimp only
     unfold Vfa at h
     refine T.seq (T.region (go 1 10 (RS.nil (T.seq (T.ci h rfl (fun hb_40 h=>?_) (fun hb_40 h=>?_))))))
     ·refine T.skip (T.seq (T.block (T.seq ?_)))
      obtain ⟨x39,hx39,h⟩:=bind_some h
      refine T.region (sQ (Qja Ty.s49 (fun _=>rfl) rfl rfl hx39 (go 2 10 (RS.nil ?_))))
      obtain ⟨x40,hx40,h⟩:=bind_some h
      obtain ⟨x41,hx41,h⟩:=bind_some h
      obtain ⟨x42,hx42,h⟩:=bind_some h
      obtain ⟨x43,hx43,h⟩:=bind_some h
      obtain ⟨x44,hx44,h⟩:=bind_some h
      refine T.drawn mixed (k:=21) rfl ?_
      apply RA.jn 1 #[true,true,true,true,true,true,true,true,true,true,true,true,true,true,true,true,true,true,true,true,false];intro hS41
      apply RA.jn 6 #[true,true,true,true,true,true,true,true,true,true,true,true,true,true,true,false,false,false,false,false,false];intro hS42
      ·refine rq [0,1,2,4,5,6,7,9,12] 12 (rL [8,10,11,15,16,17,18,19,20] 8 rfl (r0 10 rfl (Qha (en:=(encL Qaa)) Ty.s48 rfl rfl rfl hx40 (rL [13,15,16,17,18,19,20] 13 rfl (rL [14,15,16,17,18,19,20] 14 rfl (ra2 3 11 ?_ ?_))))))
       ·refine og 10 ⟨rfl,(ra1 11 (oO rfl (Qfa (en:=(encL Qaa)) (a:=x41) rfl rfl hx41 (Q0a Ty.k52 (c:=sL Qaa x41) rfl ?_))))⟩
        exact raE hS42
       ·refine oO rfl (Qfa (en:=(encL Qaa)) (a:=x41) rfl rfl hx41 (Q0a Ty.k52 (c:=sL Qaa x41) rfl (ra2 3 15 ?_ ?_)))
        ·refine og 10 ⟨rfl,?_⟩
         exact raT hS42
        ·refine oO rfl (cO 10 (ring_Put_c x41 p0.Room x31.2.1 x42 hx42) ⟨rfl,(rq [16,17,18] 3 (ra1 3 (og 11 ⟨rfl,(r0 19 rfl (Qha (en:=(encL Qaa)) Ty.s48 rfl rfl rfl hx43 ?_))⟩)))⟩)
         exact raE hS41
      ·refine ra1 15 (oO rfl (cO 10 (ring_Put_c x41 p0.Room x31.2.1 x42 hx42) ⟨rfl,(rq [16,17,18] 2 (r0 19 rfl (Qha (en:=(encL Qaa)) Ty.s48 rfl rfl rfl hx43 ?_)))⟩))
       exact raT hS41
      refine ra1 20 (RO.fC 10 (oO rfl (Zxa (en:=(encL Qaa)) (a:=x44) (a':=x42.1) Ty.c52 Ty.i52 rfl (vs:=[sL Qaa x42.1]) rfl rfl rfl hx44 rfl rfl rfl (RA.done (by decide +kernel) (T.region (go 2 11 (RS.nil ?_)))))))
      exact ⟨(IntKind.i64.wrap (s36+1),(List.set s37 x43 x42.1)),(Option.some.inj h).symm,wk [] [0,1,2,3,4,5,6,7,8,9] 11 rfl⟩
     refine T.exit ?_
     obtain ⟨w_43,h,hw_43⟩:=Qva h
     replace h:=h.trans (congrArg some (hv_39 _ hw_43))
     refine exN (Qwb ?_)
     exact ret_norm (v:=.tup []) (aw1:=[.box [.ref 1,.ref 2,.ref 3,.ref 8,.ref 9],aR 3 1 encI z16,aR 52 1 (encL Qaa) s37,aR 90 3 Qda (List.set p5 x32 x31.1),.dead,.dead,.box (Jfa p0),.box (Qaa x31.2.1),aR 94 2 Qia z23,aR 115 3 Qaa z35]) (.tup []) [0,1,2,3,4,5,8,9] rfl (by decide) (by decide) (rn_tup trivial) (Jba (cs:=[.ref 1,.ref 2,.ref 3,.ref 6,.ref 7]) (ds:=[.ref 1,.ref 2,.ref 3,.ref 8,.ref 9]) rfl ⟨Q9a rfl,Q9a rfl,Q9a rfl,Q9a rfl,Q9a rfl,trivial⟩ (J4a rfl encI_p (congrArg (fun r:(List Int) × (List (List Item)) × (List Memory) × (List Choice) × (List Item)=>r.1) (Option.some.inj h)).symm (J4a rfl (encL_p Jga) (congrArg (fun r:(List Int) × (List (List Item)) × (List Memory) × (List Choice) × (List Item)=>r.2.1) (Option.some.inj h)).symm (J4a rfl Zba (congrArg (fun r:(List Int) × (List (List Item)) × (List Memory) × (List Choice) × (List Item)=>r.2.2.1) (Option.some.inj h)).symm (rw_dead rfl (rw_dead rfl (J4a rfl Zca (congrArg (fun r:(List Int) × (List (List Item)) × (List Memory) × (List Choice) × (List Item)=>r.2.2.2.1) (Option.some.inj h)).symm (J4a rfl Jga (congrArg (fun r:(List Int) × (List (List Item)) × (List Memory) × (List Choice) × (List Item)=>r.2.2.2.2) (Option.some.inj h)).symm (Qna))))))))) ⟨rfl,rfl⟩
    refine T.seq (T.region (go 3 12 (RS.nil (T.ci h rfl (fun hb_44 h=>?_) (fun hb_44 h=>?_)))))
    ·obtain ⟨x34,hx34,h⟩:=bind_some h
     refine T.drawn mixed (k:=11) rfl (rq [0,1,2,3] 7 (rL [4,7,8,9,10] 4 rfl (ra1 5 (og 12 ⟨rfl,(ra1 6 (oO rfl (Qsa (rows:=List.map Qaa [x31.2.1]) (vs:=[.agg (Qaa x31.2.1)]) Ty.s52 Ty.z115 rfl rfl rfl rfl rfl rfl (ra1 7 (oO rfl (Zva (en:=Qaa) (xs:=p7) (ys:=([x31.2.1]:List Item)) Ty.s52 (fun _=>rfl) rfl rfl rfl hx34 rfl rfl (rq [8,9] 1 ?_)))))))⟩))))
     refine ra1 10 (og 14 ⟨rfl,(RA.done (by decide +kernel) ?_)⟩)
     exact T.weakR (hK2 x34 h) (wk [] [0,1,2,3,4,5,6,9,10,13] 14 rfl)
    refine T.skip ?_
    exact T.weakR (hK2 p7 h) (wk [] [0,1,2,3,4,5,6,9,10,11] 12 rfl)
   refine T.seq (T.region (go 3 12 (RS.nil (T.ci h rfl (fun hb_45 h=>?_) (fun hb_45 h=>?_)))))
   ·refine T.seq ?_
    obtain ⟨x21,hx21,h⟩:=bind_some h
    refine T.drawn mixed (k:=15) rfl (rq [0,1,2,3,5,7] 9 (rL [4,11,12,13,14] 4 rfl (rL [6,9,10,11,12,13,14] 6 rfl (ra1 8 (og 12 ⟨rfl,(rq [9] 5 (ra1 10 (oO rfl (Qsa (rows:=List.map Qia [(⟨p2.Node,p2.Lane⟩:Choice)]) (vs:=[.agg (Zla p2)]) Ty.s51 Ty.z94 rfl rfl rfl rfl rfl rfl (ra1 11 ?_)))))⟩)))))
    refine oO rfl (Zva (en:=Qia) (xs:=p6) (ys:=([(⟨p2.Node,p2.Lane⟩:Choice)]:List Choice)) Ty.s51 (fun _=>rfl) rfl rfl rfl hx21 rfl rfl (rq [12,13] 1 (ra1 14 (og 14 ⟨rfl,(RA.done (by decide +kernel) (T.region (go 4 14 (sQ (Zga (en:=Qia) Ty.s51 rfl rfl (go 2 14 (RS.nil ?_)))))))⟩))))
    exact T.weakR (hK3 (((x21).length:Int),x21) h) (wk [] [0,1,2,3,4,5,6,7,8,9,13,11] 14 rfl)
   refine T.skip ?_
   exact T.su (hK3 (x4.1.Dep,p6) h)
  refine T.seq (T.region (go 3 12 (RS.nil (T.ci h rfl (fun hb_46 h=>?_) (fun hb_46 h=>?_)))))
  ·obtain ⟨x5,hx5,h⟩:=bind_some h
   obtain ⟨x6,hx6,h⟩:=bind_some h
   obtain ⟨x7,hx7,h⟩:=bind_some h
   obtain ⟨x8,hx8,h⟩:=bind_some h
   refine T.drawn mixed (k:=11) rfl (rq [0,1,2,4] 7 (rL [3,6,7,8,9,10] 3 rfl (ra1 5 (og 12 ⟨rfl,(r0 6 rfl (Qha (en:=encI) Ty.s49 rfl rfl rfl hx5 (ra1 7 (oO rfl (Qfa (en:=encI) (a:=x6) rfl rfl hx6 (Q0a Ty.k3 (c:=iI x6) rfl (rq [8] 2 (r0 9 rfl (Qha (en:=encI) Ty.s49 rfl rfl rfl hx7 ?_)))))))))⟩))))
   refine ra1 10 (oO rfl (Zxa (en:=encI) (a:=x8) (a':=IntKind.i64.wrap (x6+1)) Ty.c3 Ty.i3 rfl (vs:=[iI (IntKind.i64.wrap (x6+1))]) rfl rfl rfl hx8 rfl rfl rfl (RA.done (by decide +kernel) ?_)))
   exact T.weakR (hK4 ((List.set p3 x7 (IntKind.i64.wrap (x6+1))),p4) h) (wk [] [0,1,2,3,4,5,8,9,10,11,7,6] 12 rfl)
  obtain ⟨x9,hx9,h⟩:=bind_some h
  obtain ⟨x10,hx10,h⟩:=bind_some h
  obtain ⟨x11,hx11,h⟩:=bind_some h
  obtain ⟨x12,hx12,h⟩:=bind_some h
  obtain ⟨x13,hx13,h⟩:=bind_some h
  obtain ⟨x14,hx14,h⟩:=bind_some h
  obtain ⟨x15,hx15,h⟩:=bind_some h
  refine T.drawn mixed (k:=29) rfl ?_
  apply RA.jn 1 #[true,true,true,true,true,true,true,true,true,true,true,true,true,true,true,true,true,true,true,true,true,true,true,true,true,true,true,true,false];intro hS47
  apply RA.jn 3 #[true,true,true,true,true,true,true,true,true,false,true,true,true,true,true,true,true,true,true,true,true,true,true,true,true,true,true,false,false];intro hS48
  apply RA.jn 5 #[true,true,true,true,true,true,true,false,false,false,true,true,true,true,true,true,true,true,true,true,true,true,true,true,true,true,true,false,false];intro hS49
  apply RA.jn 5 #[true,true,true,true,true,false,true,true,false,false,true,true,true,true,true,true,true,true,true,true,true,true,true,true,true,true,true,false,false];intro hS50
  apply RA.jn 7 #[true,true,true,true,true,true,true,true,true,true,true,true,true,true,true,true,true,true,true,true,true,true,false,false,false,false,false,false,false];intro hS51
  apply RA.jn 8 #[true,true,true,true,true,true,true,true,true,false,true,true,true,true,true,true,true,true,true,true,true,true,false,false,false,false,false,false,false];intro hS52
  apply RA.jn 8 #[true,true,true,false,true,true,true,true,true,true,true,true,true,true,true,true,true,true,true,true,true,true,false,false,false,false,false,false,false];intro hS53
  apply RA.jn 8 #[true,true,true,true,true,true,true,true,true,true,true,true,true,true,true,true,true,true,true,true,true,false,false,false,false,false,false,false,false];intro hS54
  apply RA.jn 9 #[true,true,true,false,true,true,true,true,true,false,true,true,true,true,true,true,true,true,true,true,true,true,false,false,false,false,false,false,false];intro hS55
  apply RA.jn 9 #[true,true,true,true,true,true,true,true,true,false,true,true,true,true,true,true,true,true,true,true,true,false,false,false,false,false,false,false,false];intro hS56
  apply RA.jn 10 #[true,true,true,true,true,false,true,true,false,false,true,true,true,true,true,true,true,true,true,true,true,true,false,false,false,false,false,false,false];intro hS57
  apply RA.jn 10 #[true,true,true,true,true,true,true,false,false,false,true,true,true,true,true,true,true,true,true,true,true,true,false,false,false,false,false,false,false];intro hS58
  apply RA.jn 10 #[true,true,true,false,true,true,true,true,true,false,true,true,true,true,true,true,true,true,true,true,true,false,false,false,false,false,false,false,false];intro hS59
  apply RA.jn 11 #[true,true,true,true,true,false,true,false,false,false,true,true,true,true,true,true,true,true,true,true,true,true,false,false,false,false,false,false,false];intro hS60
  apply RA.jn 11 #[true,true,true,false,true,true,true,false,false,false,true,true,true,true,true,true,true,true,true,true,true,true,false,false,false,false,false,false,false];intro hS61
  apply RA.jn 11 #[true,true,true,false,true,false,true,true,false,false,true,true,true,true,true,true,true,true,true,true,true,true,false,false,false,false,false,false,false];intro hS62
  apply RA.jn 11 #[true,true,true,true,true,false,true,true,false,false,true,true,true,true,true,true,true,true,true,true,true,false,false,false,false,false,false,false,false];intro hS63
  apply RA.jn 11 #[true,true,true,true,true,true,true,false,false,false,true,true,true,true,true,true,true,true,true,true,true,false,false,false,false,false,false,false,false];intro hS64
  ·refine rq [0,1,2,4,6,10,11,12,14,16] 19 (rL [13,20,21,22,23,24,25,26,27,28] 13 rfl (rL [15,18,19,20,21,22,23,24,25,26,27,28] 15 rfl (rL [17,18,19,20,21,22,23,24,25,26,27,28] 17 rfl (r0 18 rfl (Qja Ty.s49 (fun _=>rfl) rfl rfl hx10 (rL [19,20,21,22,23,24,25,26,27,28] 19 rfl (r0 20 rfl (Qha (en:=(encL Qaa)) Ty.s48 rfl rfl rfl hx11 (ra4 3 5 7 21 ?_ ?_ ?_ ?_)))))))))
   ·refine og 12 ⟨rfl,(ra3 5 7 21 ?_ ?_ ?_)⟩
    ·refine og 12 ⟨rfl,?_⟩
     exact raE hS64
    ·refine og 12 ⟨rfl,?_⟩
     exact raE hS63
    ·refine oO rfl (Qfa (en:=(encL Qaa)) (a:=x12) rfl rfl hx12 (Q0a Ty.k52 (c:=sL Qaa x12) rfl ?_))
     exact raE hS60
   ·refine og 12 ⟨rfl,(ra3 3 7 21 ?_ ?_ ?_)⟩
    ·refine og 12 ⟨rfl,?_⟩
     exact raT hS64
    ·refine og 12 ⟨rfl,(r0 8 rfl (Qja Ty.s49 (fun _=>rfl) rfl rfl hx9 ?_))⟩
     exact raE hS59
    ·refine oO rfl (Qfa (en:=(encL Qaa)) (a:=x12) rfl rfl hx12 (Q0a Ty.k52 (c:=sL Qaa x12) rfl ?_))
     exact raE hS61
   ·refine og 12 ⟨rfl,(ra3 3 5 21 ?_ ?_ ?_)⟩
    ·refine og 12 ⟨rfl,?_⟩
     exact raT hS63
    ·refine og 12 ⟨rfl,(r0 8 rfl (Qja Ty.s49 (fun _=>rfl) rfl rfl hx9 ?_))⟩
     exact raT hS59
    ·refine oO rfl (Qfa (en:=(encL Qaa)) (a:=x12) rfl rfl hx12 (Q0a Ty.k52 (c:=sL Qaa x12) rfl ?_))
     exact raE hS62
   ·refine oO rfl (Qfa (en:=(encL Qaa)) (a:=x12) rfl rfl hx12 (Q0a Ty.k52 (c:=sL Qaa x12) rfl (ra4 3 5 7 22 ?_ ?_ ?_ ?_)))
    ·refine og 12 ⟨rfl,?_⟩
     exact raT hS60
    ·refine og 12 ⟨rfl,?_⟩
     exact raT hS61
    ·refine og 12 ⟨rfl,?_⟩
     exact raT hS62
    ·refine oO rfl (cO 12 (Ysa x12 x13 hx13) ⟨rfl,(rq [23,24,25,26] 7 (rL [3,27,28] 3 rfl (rL [5,8,9,27,28] 5 rfl ?_)))⟩)
     exact raE hS49
  ·refine ra2 7 21 ?_ ?_
   ·refine og 12 ⟨rfl,(r0 8 rfl (Qja Ty.s49 (fun _=>rfl) rfl rfl hx9 ?_))⟩
    exact raE hS56
   ·refine oO rfl (Qfa (en:=(encL Qaa)) (a:=x12) rfl rfl hx12 (Q0a Ty.k52 (c:=sL Qaa x12) rfl ?_))
    exact raE hS58
  ·refine ra2 5 21 ?_ ?_
   ·refine og 12 ⟨rfl,(r0 8 rfl (Qja Ty.s49 (fun _=>rfl) rfl rfl hx9 ?_))⟩
    exact raT hS56
   ·refine oO rfl (Qfa (en:=(encL Qaa)) (a:=x12) rfl rfl hx12 (Q0a Ty.k52 (c:=sL Qaa x12) rfl ?_))
    exact raE hS57
  ·refine ra3 3 5 22 ?_ ?_ ?_
   ·refine og 12 ⟨rfl,?_⟩
    exact raT hS57
   ·refine og 12 ⟨rfl,(r0 8 rfl (Qja Ty.s49 (fun _=>rfl) rfl rfl hx9 ?_))⟩
    exact raE hS55
   ·refine oO rfl (cO 12 (Ysa x12 x13 hx13) ⟨rfl,(rq [23,24,25,26] 6 (rL [3,27,28] 3 rfl ?_))⟩)
    exact raE hS50
  ·refine ra3 3 7 22 ?_ ?_ ?_
   ·refine og 12 ⟨rfl,?_⟩
    exact raT hS58
   ·refine og 12 ⟨rfl,(r0 8 rfl (Qja Ty.s49 (fun _=>rfl) rfl rfl hx9 ?_))⟩
    exact raT hS55
   ·refine oO rfl (cO 12 (Ysa x12 x13 hx13) ⟨rfl,(rq [23,24,25,26] 6 (rL [3,27,28] 3 rfl ?_))⟩)
    exact raT hS49
  ·refine ra3 5 7 22 ?_ ?_ ?_
   ·refine og 12 ⟨rfl,?_⟩
    exact raT hS58
   ·refine og 12 ⟨rfl,?_⟩
    exact raT hS57
   ·refine oO rfl (cO 12 (Ysa x12 x13 hx13) ⟨rfl,(rq [23,24,25,26] 6 (rL [5,8,9,27,28] 5 rfl ?_))⟩)
    exact raT hS49
  ·refine ra3 3 9 21 ?_ ?_ ?_
   ·refine og 12 ⟨rfl,?_⟩
    exact raT hS56
   ·refine og 12 ⟨rfl,(ra2 3 21 ?_ ?_)⟩
    ·refine og 12 ⟨rfl,?_⟩
     exact raE hS54
    ·refine oO rfl (Qfa (en:=(encL Qaa)) (a:=x12) rfl rfl hx12 (Q0a Ty.k52 (c:=sL Qaa x12) rfl ?_))
     exact raE hS53
   ·refine oO rfl (Qfa (en:=(encL Qaa)) (a:=x12) rfl rfl hx12 (Q0a Ty.k52 (c:=sL Qaa x12) rfl ?_))
    exact raT hS55
  ·refine ra2 7 22 ?_ ?_
   ·refine og 12 ⟨rfl,(r0 8 rfl (Qja Ty.s49 (fun _=>rfl) rfl rfl hx9 ?_))⟩
    exact raE hS52
   ·refine oO rfl (cO 12 (Ysa x12 x13 hx13) ⟨rfl,(rq [23,24,25,26] 5 ?_)⟩)
    exact raT hS49
  ·refine ra2 5 22 ?_ ?_
   ·refine og 12 ⟨rfl,(r0 8 rfl (Qja Ty.s49 (fun _=>rfl) rfl rfl hx9 ?_))⟩
    exact raT hS52
   ·refine oO rfl (cO 12 (Ysa x12 x13 hx13) ⟨rfl,(rq [23,24,25,26] 5 ?_)⟩)
    exact raT hS50
  ·refine ra2 9 21 ?_ ?_
   ·refine og 12 ⟨rfl,?_⟩
    exact raT hS54
   ·refine oO rfl (Qfa (en:=(encL Qaa)) (a:=x12) rfl rfl hx12 (Q0a Ty.k52 (c:=sL Qaa x12) rfl ?_))
    exact raT hS52
  ·refine ra3 3 9 22 ?_ ?_ ?_
   ·refine og 12 ⟨rfl,?_⟩
    exact raT hS52
   ·refine og 12 ⟨rfl,?_⟩
    exact raT hS53
   ·refine oO rfl (cO 12 (Ysa x12 x13 hx13) ⟨rfl,(rq [23,24,25,26] 4 (rL [3,27,28] 3 rfl ?_))⟩)
    exact raE hS48
  ·refine ra1 21 (oO rfl (Qfa (en:=(encL Qaa)) (a:=x12) rfl rfl hx12 (Q0a Ty.k52 (c:=sL Qaa x12) rfl ?_)))
   exact raE hS51
  ·refine ra2 3 22 ?_ ?_
   ·refine og 12 ⟨rfl,?_⟩
    exact raT hS51
   ·refine oO rfl (cO 12 (Ysa x12 x13 hx13) ⟨rfl,(rq [23,24,25,26] 3 (ra1 3 (og 13 ⟨rfl,(r0 27 rfl (Qha (en:=(encL Qaa)) Ty.s48 rfl rfl rfl hx14 ?_))⟩)))⟩)
    exact raE hS47
  ·refine ra2 9 22 ?_ ?_
   ·refine og 12 ⟨rfl,?_⟩
    exact raT hS51
   ·refine oO rfl (cO 12 (Ysa x12 x13 hx13) ⟨rfl,(rq [23,24,25,26] 3 ?_)⟩)
    exact raT hS48
  ·refine ra1 22 (oO rfl (cO 12 (Ysa x12 x13 hx13) ⟨rfl,(rq [23,24,25,26] 2 (r0 27 rfl (Qha (en:=(encL Qaa)) Ty.s48 rfl rfl rfl hx14 ?_)))⟩))
   exact raT hS47
  ·refine ra1 5 (og 13 ⟨rfl,(r0 8 rfl (Qja Ty.s49 (fun _=>rfl) rfl rfl hx9 ?_))⟩)
   exact raT hS48
  ·refine ra1 7 (og 13 ⟨rfl,(r0 8 rfl (Qja Ty.s49 (fun _=>rfl) rfl rfl hx9 ?_))⟩)
   exact raT hS48
  ·refine ra1 9 (og 13 ⟨rfl,(r0 27 rfl (Qha (en:=(encL Qaa)) Ty.s48 rfl rfl rfl hx14 ?_))⟩)
   exact raT hS47
  refine ra1 28 (RO.fC 12 (oO rfl (Zxa (en:=(encL Qaa)) (a:=x15) (a':=x13.2.1) Ty.c52 Ty.i52 rfl (vs:=[sL Qaa x13.2.1]) rfl rfl rfl hx15 rfl rfl rfl (RA.done (by decide +kernel) ?_))))
  exact T.weakR (hK4 (p3,(List.set p4 x14 x13.2.1)) h) (wk [] [0,1,2,3,4,5,8,9,10,11,7,6] 13 rfl)
theorem move_Play_c (p0:Net) (p1:List (List Item)) (p2:List Int) (r:State × Int) (h:move_Play p0 p1 p2=some r):Fn Tryz.prog 26 [.agg (Jfa p0),sL (encL Qaa) p1,sL encI p2] (.tup [.agg (Qxa r.1),iI r.2]):=by
  unfold move_Play at h
  refine fnT 0 Tryz.func26 Tryz.ntmps26 ?_
  refine T.seq (T.region (go 3 0 (RS.nil (T.seq ?_))))
  obtain ⟨x2,hx2,h⟩:=bind_some h
  refine T.region (go 2 2 (sO (Q6a (ac:=[.agg (Jfa p0),sL (encL Qaa) p1]) (as0:=[.agg (Jfa p0),sL (encL Qaa) p1]) (aw0:=[]) (aw1:=[aR 3 1 encI x2.1.At,aR 52 1 (encL Qaa) x2.1.Rings,aR 90 3 Qda x2.1.Memory,aR 94 2 Qia x2.1.Choices,aR 115 3 Qaa x2.1.Out]) (aw2:=[.box (Jfa p0),.box [.nils,.nils,.nils,.nils,.nils],aR 3 1 encI x2.1.At,aR 52 1 (encL Qaa) x2.1.Rings,aR 90 3 Qda x2.1.Memory,aR 94 2 Qia x2.1.Choices,aR 115 3 Qaa x2.1.Out]) (v:=.tup [.agg [.ref 0,.ref 1,.ref 2,.ref 3,.ref 4],iI x2.2]) (v':=.tup [.agg [.ref 2,.ref 3,.ref 4,.ref 5,.ref 6],iI x2.2]) (n0:=2) (n1:=5) [] rfl rfl rfl rfl (by decide) (Qna) ⟨rn_agg ⟨rn_s rfl,Qya rfl,Qya rfl,trivial⟩,rn_s rfl,trivial⟩ (FnX.of_fnO (move_Start_c p0 p1 x2 hx2)) rfl (Qib (cs:=[.agg [.ref 2,.ref 3,.ref 4,.ref 5,.ref 6],iI x2.2]) (ds:=[.agg [.ref 0,.ref 1,.ref 2,.ref 3,.ref 4],iI x2.2]) ⟨rm_agg (cs:=[.ref 2,.ref 3,.ref 4,.ref 5,.ref 6]) (ds:=[.ref 0,.ref 1,.ref 2,.ref 3,.ref 4]) ⟨J2a (by decide),J2a (by decide),J2a (by decide),J2a (by decide),J2a (by decide),trivial⟩,Qea (Qwa _ _),trivial⟩) ⟨.inr ⟨rfl,rfl⟩,.inr ⟨rfl,rfl⟩,.inl ⟨0,_,by decide,rfl,Jna encI_p⟩,.inl ⟨1,_,by decide,rfl,Jna (encL_p Jga)⟩,.inl ⟨2,_,by decide,rfl,Jna Zba⟩,.inl ⟨3,_,by decide,rfl,Jna Zca⟩,.inl ⟨4,_,by decide,rfl,Jna Jga⟩,trivial⟩ (go 6 7 (RS.nil (T.seq (T.seq (T.region (go 2 8 (RS.nil ?_))))))))))
  refine T.ci h rfl (fun hb_1 h=>?_) (fun hb_1 h=>?_)
  ·refine T.seq (T.region (go 4 8 (RS.nil ?_)))
   cases h
   exact tD
  refine T.skip (T.seq (T.seq (T.region (go 1 8 (sQ (Qka Ty.s49 rfl (go 1 8 (RS.nil (T.ci h rfl (fun hb_2 h=>?_) (fun hb_2 h=>?_))))))))))
  ·refine T.seq (T.region (go 3 8 (RS.nil ?_)))
   cases h
   exact tD
  refine T.skip (T.seq (T.seq (T.region (go 1 8 (sQ (Qka Ty.s49 rfl (go 1 8 (RS.nil (T.block (T.iter (fun ss_7:Int × (List Int) × (List (List Item)) × (List Memory) × (List Choice) × (List Item)=>mkA 58 [(1,sL (encL Qaa) p1),(3,.ptr 0 0),(6,.ptr 1 0),(8,.ptr 2 0),(27,sL encI p2),(28,iI ((p2).length:Int)),(29,iI ss_7.1)]) (fun ss_7=>[.box (Jfa p0),.box [.nils,.nils,.nils,.nils,.nils],.box [.ref 3,.ref 4,.ref 5,.ref 6,.ref 7],aR 3 1 encI ss_7.2.1,aR 52 1 (encL Qaa) ss_7.2.2.1,aR 90 3 Qda ss_7.2.2.2.1,aR 94 2 Qia ss_7.2.2.2.2.1,aR 115 3 Qaa ss_7.2.2.2.2.2]) h (wk [] [0,1,7,2,3,4,5,6] 8 rfl) (fun ss_7 v_8 h hv_8=>?_)))))))))))
  obtain ⟨s3,s4,s5,s6,s7,s8⟩:=ss_7
  replace h:V7a p0 p1 p2 s3 s4 s5 s6 s7 s8=some v_8:=h
  try dsimp only
  unfold V7a at h
  refine T.seq (T.region (go 1 8 (RS.nil (T.seq (T.ci h rfl (fun hb_9 h=>?_) (fun hb_9 h=>?_))))))
  ·refine T.skip (T.seq (T.block (T.seq ?_)))
   obtain ⟨x10,hx10,h⟩:=bind_some h
   refine T.region (sQ (Qja Ty.s49 (fun _=>rfl) rfl rfl hx10 (go 2 8 (RS.nil (T.seq ?_)))))
   obtain ⟨x12,hx12,h⟩:=bind_some h
   refine T.region (go 3 8 (sO (cO 8 (move_ready_c p0 p1 (⟨s4,s5,s6,s7,s8⟩:State) x12 hx12) ⟨rfl,(go 1 9 (RS.nil (T.seq (T.seq (T.region (go 1 9 (sQ (Zga (en:=Zla) Ty.s131 rfl rfl ?_))))))))⟩)))
   refine go 1 9 (RS.nil (T.ci h rfl (fun hb_10 h=>?_) (fun hb_10 h=>?_)))
   ·refine T.exit ?_
    obtain ⟨w_11,h,hw_11⟩:=Qva h
    replace h:=h.trans (congrArg some (hv_8 _ hw_11))
    refine T.seq (T.region (go 3 9 (RS.nil ?_)))
    cases h
    exact tD
   refine T.skip ?_
   obtain ⟨x13,hx13,h⟩:=bind_some h
   obtain ⟨x14,hx14,h⟩:=bind_some h
   obtain ⟨x15,hx15,h⟩:=bind_some h
   obtain ⟨x16,hx16,h⟩:=bind_some h
   obtain ⟨x17,hx17,h⟩:=bind_some h
   refine T.drawn mixed (k:=16) rfl (rq [1,2,3,4] 12 (r0 5 rfl (Zga (en:=Zla) Ty.s131 rfl rfl (r0 6 rfl (v_rem rfl rfl hx13 (rq [7] 9 (r0 8 rfl (Zga (en:=Zla) Ty.s131 rfl rfl (rq [9,10] 6 (r0 11 rfl (Zga (en:=Zla) Ty.s131 rfl rfl (r0 12 rfl (v_rem rfl rfl hx14 (r0 13 rfl (Qha (en:=Zla) Ty.s131 rfl rfl rfl hx15 ?_)))))))))))))))
   refine rL [0,15] 0 rfl (ra1 14 (oO rfl (Qfa (en:=Zla) (a:=x16) rfl rfl hx16 (loadRowA Ty.k135 Ty.c135 rfl (cs:=(Zla x16)) rfl (ra1 15 (oO rfl (Q6a (ac:=[.agg (Jfa p0),sL (encL Qaa) p1,.ptr 2 0,.agg (Zla x16)]) (as0:=[.agg (Jfa p0),sL (encL Qaa) p1,.ptr 0 0,.agg (Zla x16)]) (aw0:=[.box [.ref 1,.ref 2,.ref 3,.ref 4,.ref 5],aR 3 1 encI s4,aR 52 1 (encL Qaa) s5,aR 90 3 Qda s6,aR 94 2 Qia s7,aR 115 3 Qaa s8]) (aw1:=[.box [.ref 1,.ref 2,.ref 3,.ref 6,.ref 7],aR 3 1 encI x17.1,aR 52 1 (encL Qaa) x17.2.1,aR 90 3 Qda x17.2.2.1,.dead,.dead,aR 94 2 Qia x17.2.2.2.1,aR 115 3 Qaa x17.2.2.2.2]) (aw2:=[.box (Jfa p0),.box [.nils,.nils,.nils,.nils,.nils],.box [.ref 3,.ref 4,.ref 5,.ref 9,.ref 10],aR 3 1 encI x17.1,aR 52 1 (encL Qaa) x17.2.1,aR 90 3 Qda x17.2.2.1,.dead,.dead,aR 135 2 Zla x12,aR 94 2 Qia x17.2.2.2.1,aR 115 3 Qaa x17.2.2.2.2]) (v:=.tup []) (v':=.tup []) (n0:=9) (n1:=8) [2,3,4,5,6,7] rfl rfl rfl rfl (by decide) (Jba (cs:=[.ref 1,.ref 2,.ref 3,.ref 4,.ref 5]) (ds:=[.ref 3,.ref 4,.ref 5,.ref 6,.ref 7]) rfl ⟨Q9a rfl,Q9a rfl,Q9a rfl,Q9a rfl,Q9a rfl,trivial⟩ (J4a rfl encI_p rfl (J4a rfl (encL_p Jga) rfl (J4a rfl Zba rfl (J4a rfl Zca rfl (J4a rfl Jga rfl (Qna))))))) ⟨rn_agg ⟨rn_s rfl,Qya rfl,Qya rfl,trivial⟩,rn_s rfl,Qla rfl,rn_agg ⟨Qya rfl,Qya rfl,trivial⟩,trivial⟩ (move_do_x5aa6_c p0 p1 x16 s4 s5 s6 s7 s8 x17 hx17) rfl (Qib (cs:=[]) (ds:=[]) trivial) ⟨.inr ⟨rfl,rfl⟩,.inr ⟨rfl,rfl⟩,.inl ⟨0,_,by decide,rfl,Q7a (cs:=[.ref 3,.ref 4,.ref 5,.ref 9,.ref 10]) (ds:=[.ref 1,.ref 2,.ref 3,.ref 6,.ref 7]) ⟨J2a (by decide),J2a (by decide),J2a (by decide),J2a (by decide),J2a (by decide),trivial⟩⟩,.inl ⟨1,_,by decide,rfl,Jna encI_p⟩,.inl ⟨2,_,by decide,rfl,Jna (encL_p Jga)⟩,.inl ⟨3,_,by decide,rfl,Jna Zba⟩,.inl ⟨4,_,by decide,rfl,trivial⟩,.inl ⟨5,_,by decide,rfl,trivial⟩,.inr ⟨rfl,rfl⟩,.inl ⟨6,_,by decide,rfl,Jna Zca⟩,.inl ⟨7,_,by decide,rfl,Jna Jga⟩,trivial⟩ (RA.done (by decide +kernel) (T.region (go 2 11 (RS.nil ?_)))))))))))
   exact ⟨(IntKind.i64.wrap (s3+1),x17.1,x17.2.1,x17.2.2.1,x17.2.2.2.1,x17.2.2.2.2),(Option.some.inj h).symm,wk [] [0,1,2,3,4,5,9,10] 11 rfl⟩
  refine T.exit ?_
  obtain ⟨w_12,h,hw_12⟩:=Qva h
  replace h:=h.trans (congrArg some (hv_8 _ hw_12))
  refine T.seq (T.region (go 3 8 (RS.nil ?_)))
  cases h
  exact tD
theorem move_Check_1_1_xa01a_c (p0:Item) (p1:List Int) (p2:List (List Item)) (p3:List Memory) (p4:List Choice) (p5:List Item) (r:Bool) (h:Yta p0 p1 p2 p3 p4 p5=some r):FnX Tryz.prog 71 [.agg (Qaa p0),.ptr 0 0] [.box [sL encI p1,sL (encL Qaa) p2,sL Qda p3,sL Qia p4,sL Qaa p5]] (.bool r) [.box [sL encI p1,sL (encL Qaa) p2,sL Qda p3,sL Qia p4,sL Qaa p5]]:=by
  unfold Yta at h
  refine fnT 1 Tryz.func71 Tryz.ntmps71 ?_
  refine T.seq (T.region (go 2 1 (RS.nil (T.join (Z:=Unit) (fun _=>mkA 15 [(3,.bool ((decide (p0.Dep<0)) || decide (p0.Dep > ((p4).length:Int))))]) (fun _=>[.box [sL encI p1,sL (encL Qaa) p2,sL Qda p3,sL Qia p4,sL Qaa p5]]) (fun _=>True) (fun _ _=>?_) (fun hK=>?_)))))
  ·cases h
   exact tN [0]
  refine T.region (go 4 2 ?_)
  rcases Qca (decide (p0.Dep<0)) with hb_1 | hb_1
  ·refine sN hb_1 (sN hb_1 (sN hb_1 (sN hb_1 (sN hb_1 (sN hb_1 (sQ (Qga (v:=.bool true) rfl hb_1 rfl (go 1 2 (RS.nil ?_)))))))))
   exact T.weakR (hK () trivial) (Weak.mkN [] [0] (by decide) (by decide) rfl ⟨Jha (by simp only [hb_1,bz,if_true,if_false,Bool.false_eq_true]),trivial⟩ (rw_bs [sL encI p1,sL (encL Qaa) p2,sL Qda p3,sL Qia p4,sL Qaa p5] rfl (Qna)))
  refine yg 2 hb_1 (yg 2 hb_1 (yg 2 hb_1 (yg 2 hb_1 (yQ hb_1 (Qka Ty.s51 rfl (yg 2 hb_1 (sQ (Qba (v:=.bool (decide (p0.Dep > ((p4).length:Int)))) rfl hb_1 rfl (go 1 2 (RS.nil ?_))))))))))
  exact T.weakR (hK () trivial) (Weak.mkN [] [0] (by decide) (by decide) rfl ⟨Jha (by simp only [hb_1,bz,if_true,if_false,Bool.false_eq_true]),trivial⟩ (rw_bs [sL encI p1,sL (encL Qaa) p2,sL Qda p3,sL Qia p4,sL Qaa p5] rfl (Qna)))
theorem slices_IndexFunc_Item_xd8db_c (p0:List Item) (p1:List Int) (p2:List (List Item)) (p3:List Memory) (p4:List Choice) (p5:List Item) (r:Int) (h:Vda p0 p1 p2 p3 p4 p5=some r):FnX Tryz.prog 92 [sL Qaa p0,.func 71 [.ptr 0 0]] [.box [sL encI p1,sL (encL Qaa) p2,sL Qda p3,sL Qia p4,sL Qaa p5]] (iI r) [.box [sL encI p1,sL (encL Qaa) p2,sL Qda p3,sL Qia p4,sL Qaa p5]]:=by
  unfold Vda at h
  refine fnT 1 Tryz.func92 Tryz.ntmps92 ?_
  refine T.seq (T.region (go 1 1 (RS.nil (T.seq (T.seq (T.region (go 1 1 (sQ (Qka Ty.s52 rfl (go 1 1 ?_))))))))))
  refine RS.nil (T.block (T.iter (fun ss_5:Int=>mkA 19 [(0,sL Qaa p0),(1,.func 71 [.ptr 0 0]),(7,iI ((p0).length:Int)),(8,iI ss_5)]) (fun ss_5=>[.box [sL encI p1,sL (encL Qaa) p2,sL Qda p3,sL Qia p4,sL Qaa p5]]) h (wk [] [0] 1 rfl) (fun ss_5 v_6 h hv_6=>?_)))
  revert hv_6 h;revert ss_5;intro s1 h hv_6
  replace h:J1a p0 p1 p2 p3 p4 p5 s1=some v_6:=h
  try dsimp only
  unfold J1a at h
  refine T.seq (T.region (go 1 1 (RS.nil (T.seq (T.ci h rfl (fun hb_7 h=>?_) (fun hb_7 h=>?_))))))
  ·refine T.skip (T.seq (T.block (T.seq (T.region (go 2 1 (RS.nil (T.seq ?_)))))))
   obtain ⟨x4,hx4,h⟩:=bind_some h
   obtain ⟨x5,hx5,h⟩:=bind_some h
   refine T.region (go 3 1 (sQ (Qja Ty.s52 (fun _=>rfl) rfl rfl hx4 (go 1 1 (sO (Q6a (ac:=[.agg (Qaa x4),.ptr 0 0]) (as0:=[.agg (Qaa x4),.ptr 0 0]) (aw0:=[.box [sL encI p1,sL (encL Qaa) p2,sL Qda p3,sL Qia p4,sL Qaa p5]]) (aw1:=[.box [sL encI p1,sL (encL Qaa) p2,sL Qda p3,sL Qia p4,sL Qaa p5]]) (aw2:=[.box [sL encI p1,sL (encL Qaa) p2,sL Qda p3,sL Qia p4,sL Qaa p5]]) (v:=.bool x5) (v':=.bool x5) (n0:=1) (n1:=1) [0] rfl rfl rfl rfl (by decide) (Jba (cs:=[sL encI p1,sL (encL Qaa) p2,sL Qda p3,sL Qia p4,sL Qaa p5]) (ds:=[sL encI p1,sL (encL Qaa) p2,sL Qda p3,sL Qia p4,sL Qaa p5]) rfl ⟨rn_s rfl,rn_s rfl,rn_s rfl,rn_s rfl,rn_s rfl,trivial⟩ (Qna)) ⟨rn_agg ⟨Qya rfl,Qya rfl,Qya rfl,trivial⟩,Qla rfl,trivial⟩ (move_Check_1_1_xa01a_c x4 p1 p2 p3 p4 p5 x5 hx5) rfl (Qea (V1a _)) ⟨.inl ⟨0,_,by decide,rfl,Q7a (cs:=[sL encI p1,sL (encL Qaa) p2,sL Qda p3,sL Qia p4,sL Qaa p5]) (ds:=[sL encI p1,sL (encL Qaa) p2,sL Qda p3,sL Qia p4,sL Qaa p5]) ⟨Qea (Qua encI_p _),Qea (Qua (encL_p Jga) _),Qea (Qua Zba _),Qea (Qua Zca _),Qea (Qua Jga _),trivial⟩⟩,trivial⟩ (RS.nil (T.ci h rfl (fun hb_8 h=>?_) (fun hb_8 h=>?_)))))))))
   ·refine T.seq (T.region (go 2 1 (RS.nil ?_)))
    obtain ⟨w_9,h,hw_9⟩:=Qva h
    replace h:=h.trans (congrArg some (hv_6 _ hw_9))
    cases h
    exact tN [0]
   refine T.skip (T.region (go 2 1 (RS.nil ?_)))
   exact ⟨IntKind.i64.wrap (s1+1),(Option.some.inj h).symm,wk [] [0] 1 rfl⟩
  refine T.exit ?_
  obtain ⟨w_10,h,hw_10⟩:=Qva h
  replace h:=h.trans (congrArg some (hv_6 _ hw_10))
  refine T.seq (T.region (go 1 1 (RS.nil ?_)))
  cases h
  exact tN [0]
theorem slices_ContainsFunc_Item_xd8db_c (p0:List Item) (p1:List Int) (p2:List (List Item)) (p3:List Memory) (p4:List Choice) (p5:List Item) (r:Bool) (h:Zqa p0 p1 p2 p3 p4 p5=some r):FnX Tryz.prog 70 [sL Qaa p0,.func 71 [.ptr 0 0]] [.box [sL encI p1,sL (encL Qaa) p2,sL Qda p3,sL Qia p4,sL Qaa p5]] (.bool r) [.box [sL encI p1,sL (encL Qaa) p2,sL Qda p3,sL Qia p4,sL Qaa p5]]:=by
  unfold Zqa at h
  refine fnT 1 Tryz.func70 Tryz.ntmps70 ?_
  refine T.seq (T.region (go 1 1 (RS.nil (T.seq ?_))))
  obtain ⟨x2,hx2,h⟩:=bind_some h
  refine T.region (go 2 1 (sO (Q6a (ac:=[sL Qaa p0,.func 71 [.ptr 0 0]]) (as0:=[sL Qaa p0,.func 71 [.ptr 0 0]]) (aw0:=[.box [sL encI p1,sL (encL Qaa) p2,sL Qda p3,sL Qia p4,sL Qaa p5]]) (aw1:=[.box [sL encI p1,sL (encL Qaa) p2,sL Qda p3,sL Qia p4,sL Qaa p5]]) (aw2:=[.box [sL encI p1,sL (encL Qaa) p2,sL Qda p3,sL Qia p4,sL Qaa p5]]) (v:=iI x2) (v':=iI x2) (n0:=1) (n1:=1) [0] rfl rfl rfl rfl (by decide) (Jba (cs:=[sL encI p1,sL (encL Qaa) p2,sL Qda p3,sL Qia p4,sL Qaa p5]) (ds:=[sL encI p1,sL (encL Qaa) p2,sL Qda p3,sL Qia p4,sL Qaa p5]) rfl ⟨rn_s rfl,rn_s rfl,rn_s rfl,rn_s rfl,rn_s rfl,trivial⟩ (Qna)) ⟨rn_s rfl,V3a ⟨Qla rfl,trivial⟩,trivial⟩ (slices_IndexFunc_Item_xd8db_c p0 p1 p2 p3 p4 p5 x2 hx2) rfl (Qea (Qwa _ _)) ⟨.inl ⟨0,_,by decide,rfl,Q7a (cs:=[sL encI p1,sL (encL Qaa) p2,sL Qda p3,sL Qia p4,sL Qaa p5]) (ds:=[sL encI p1,sL (encL Qaa) p2,sL Qda p3,sL Qia p4,sL Qaa p5]) ⟨Qea (Qua encI_p _),Qea (Qua (encL_p Jga) _),Qea (Qua Zba _),Qea (Qua Zca _),Qea (Qua Jga _),trivial⟩⟩,trivial⟩ (go 2 1 (RS.nil ?_)))))
  cases h
  exact tN [0]
theorem move_Check_1_xa01a_c (p0:List Item) (p1:List Int) (p2:List (List Item)) (p3:List Memory) (p4:List Choice) (p5:List Item) (r:Bool) (h:Vva p0 p1 p2 p3 p4 p5=some r):FnX Tryz.prog 69 [sL Qaa p0,.ptr 0 0] [.box [sL encI p1,sL (encL Qaa) p2,sL Qda p3,sL Qia p4,sL Qaa p5]] (.bool r) [.box [sL encI p1,sL (encL Qaa) p2,sL Qda p3,sL Qia p4,sL Qaa p5]]:=by
  unfold Vva at h
  refine fnT 1 Tryz.func69 Tryz.ntmps69 ?_
  refine T.seq (T.region (go 1 1 (RS.nil (T.seq ?_))))
  obtain ⟨x2,hx2,h⟩:=bind_some h
  refine T.region (go 2 1 (sO (Q6a (ac:=[sL Qaa p0,.func 71 [.ptr 0 0]]) (as0:=[sL Qaa p0,.func 71 [.ptr 0 0]]) (aw0:=[.box [sL encI p1,sL (encL Qaa) p2,sL Qda p3,sL Qia p4,sL Qaa p5]]) (aw1:=[.box [sL encI p1,sL (encL Qaa) p2,sL Qda p3,sL Qia p4,sL Qaa p5]]) (aw2:=[.box [sL encI p1,sL (encL Qaa) p2,sL Qda p3,sL Qia p4,sL Qaa p5]]) (v:=.bool x2) (v':=.bool x2) (n0:=1) (n1:=1) [0] rfl rfl rfl rfl (by decide) (Jba (cs:=[sL encI p1,sL (encL Qaa) p2,sL Qda p3,sL Qia p4,sL Qaa p5]) (ds:=[sL encI p1,sL (encL Qaa) p2,sL Qda p3,sL Qia p4,sL Qaa p5]) rfl ⟨rn_s rfl,rn_s rfl,rn_s rfl,rn_s rfl,rn_s rfl,trivial⟩ (Qna)) ⟨rn_s rfl,V3a ⟨Qla rfl,trivial⟩,trivial⟩ (slices_ContainsFunc_Item_xd8db_c p0 p1 p2 p3 p4 p5 x2 hx2) rfl (Qea (V1a _)) ⟨.inl ⟨0,_,by decide,rfl,Q7a (cs:=[sL encI p1,sL (encL Qaa) p2,sL Qda p3,sL Qia p4,sL Qaa p5]) (ds:=[sL encI p1,sL (encL Qaa) p2,sL Qda p3,sL Qia p4,sL Qaa p5]) ⟨Qea (Qua encI_p _),Qea (Qua (encL_p Jga) _),Qea (Qua Zba _),Qea (Qua Zca _),Qea (Qua Jga _),trivial⟩⟩,trivial⟩ (go 2 1 (RS.nil ?_)))))
  cases h
  exact tN [0]
theorem move_choice_c (p0:Net) (p1:Choice) (r:Bool) (h:move_choice p0 p1=some r):Fn Tryz.prog 73 [.agg (Jfa p0),.agg (Qia p1)] (.bool r):=by
  unfold move_choice at h
  refine fnT 0 Tryz.func73 Tryz.ntmps73 ?_
  refine T.seq (T.region (go 3 0 (RS.nil ?_)))
  obtain ⟨zt_5,hz,h⟩:=bind_some h
  revert hz h;revert zt_5;intro c3 hz h
  refine T.join (Z:=Unit) (fun _=>mkA 44 [(4,.bool c3)]) (fun _=>[]) (fun _=>True) (fun _ _=>?_) (fun hK=>?_)
  ·cases h
   exact tD
  rcases Qca (decide (p1.Node ≥ 0)) with hb_1 | hb_1
  ·replace hz:=ite_T hz hb_1
   rcases Qca (decide (p1.Node<((p0.Nodes).length:Int))) with hb_2 | hb_2
   ·replace hz:=ite_T hz hb_2
    obtain ⟨x1,hx1,hz⟩:=bind_some hz
    rcases Qca (x1.Kind==6) with hb_3 | hb_3
    ·replace hz:=ite_T hz hb_3
     rcases Qca (decide (p1.Lane ≥ 0)) with hb_4 | hb_4
     ·replace hz:=ite_T hz hb_4
      obtain ⟨x2,hx2,hz⟩:=bind_some hz
      refine T.drawn mixed (k:=40) rfl ?_
      apply RA.jn 0 #[true,true,true,true,true,true,true,true,true,true,true,true,true,true,true,true,true,true,true,true,true,true,true,true,true,true,true,true,true,true,true,true,true,true,true,true,true,true,true,true];intro hS6
      apply RA.jn 5 #[true,true,true,true,true,true,true,true,true,true,true,true,true,true,true,true,true,true,true,true,true,true,true,true,true,true,true,true,true,true,true,true,true,true,true,false,false,false,false,false];intro hS7
      apply RA.jn 6 #[true,true,true,true,true,true,true,true,true,true,true,true,true,true,true,true,true,true,true,true,true,true,true,true,true,true,true,true,false,true,true,true,true,true,true,false,false,false,false,false];intro hS8
      apply RA.jn 8 #[true,true,true,true,true,true,true,true,true,true,true,true,true,true,true,true,true,true,true,true,true,true,true,true,true,true,true,true,true,true,false,true,true,false,false,false,false,false,false,false];intro hS9
      apply RA.jn 8 #[true,true,true,true,true,true,true,true,true,true,true,true,true,true,true,true,true,true,true,true,true,true,true,true,true,true,true,true,true,true,true,true,false,false,false,false,false,false,false,false];intro hS10
      apply RA.jn 22 #[true,true,true,true,true,true,true,true,true,true,true,true,true,true,true,true,true,true,false,false,false,false,false,false,false,false,false,false,false,false,false,false,false,false,false,false,false,false,false,false];intro hS11
      apply RA.jn 26 #[true,true,true,true,true,true,true,true,true,true,true,true,true,false,true,false,false,false,false,false,false,false,false,false,false,false,false,false,false,false,false,false,false,false,false,false,false,false,false,false];intro hS12
      ·refine rq [0] 39 (ra1 1 (og 2 ⟨rfl,(rq [2,3] 36 (ry 4 hb_1 rfl (ry 6 hb_1 rfl (ra2 5 7 ?_ ?_))))⟩))
       ·refine oy 2 hb_1 rfl (ra1 7 (oy 2 hb_1 rfl (r1 8 rfl hb_1 (Qka Ty.s45 rfl (ry 9 hb_1 rfl (r0 10 rfl (Qga (v:=.bool (decide (p1.Node<((p0.Nodes).length:Int)))) rfl hb_1 rfl (rq [11] 28 (ry 12 hb_2 rfl (ry 14 hb_2 rfl ?_))))))))))
        exact raE hS12
       ·refine oy 2 hb_1 rfl (r1 8 rfl hb_1 (Qka Ty.s45 rfl (ra1 5 (oy 2 hb_1 rfl (ry 9 hb_1 rfl (r0 10 rfl (Qga (v:=.bool (decide (p1.Node<((p0.Nodes).length:Int)))) rfl hb_1 rfl (rq [11] 28 (ry 12 hb_2 rfl (ry 14 hb_2 rfl ?_))))))))))
        exact raT hS12
      ·refine ra2 13 15 ?_ ?_
       ·refine oy 2 hb_2 rfl (ra1 15 (oy 2 hb_2 rfl (r1 16 rfl hb_2 (Qja Ty.s45 (fun _=>rfl) rfl rfl hx1 (ry 17 hb_2 rfl ?_)))))
        exact raE hS11
       ·refine oy 2 hb_2 rfl (ra1 13 (oy 2 hb_2 rfl (r1 16 rfl hb_2 (Qja Ty.s45 (fun _=>rfl) rfl rfl hx1 (ry 17 hb_2 rfl ?_)))))
        exact raT hS11
      ·refine ra1 18 (oy 2 hb_2 rfl (ry 19 hb_2 rfl (r0 20 rfl (Qga (v:=.bool (x1.Kind==6)) rfl hb_2 rfl (rq [21] 18 (ry 22 hb_3 rfl (ra1 23 (oy 2 hb_3 rfl (ry 24 hb_3 rfl (r0 25 rfl (Qga (v:=.bool (decide (p1.Lane ≥ 0))) rfl hb_3 rfl ?_)))))))))))
       refine rq [26] 13 (ry 27 hb_4 rfl (ry 29 hb_4 rfl (ry 31 hb_4 rfl (ra3 28 30 32 ?_ ?_ ?_))))
       ·refine oy 2 hb_4 rfl (ra2 30 32 ?_ ?_)
        ·refine oy 2 hb_4 rfl ?_
         exact raE hS10
        ·refine oy 2 hb_4 rfl ?_
         exact raE hS9
       ·refine oy 2 hb_4 rfl (ra2 28 32 ?_ ?_)
        ·refine oy 2 hb_4 rfl ?_
         exact raT hS10
        ·refine oy 2 hb_4 rfl (r1 33 rfl hb_4 (Qja Ty.s45 (fun _=>rfl) rfl rfl hx2 (ry 34 hb_4 rfl ?_)))
         exact raE hS8
       ·refine oy 2 hb_4 rfl (ra2 28 30 ?_ ?_)
        ·refine oy 2 hb_4 rfl ?_
         exact raT hS9
        ·refine oy 2 hb_4 rfl (r1 33 rfl hb_4 (Qja Ty.s45 (fun _=>rfl) rfl rfl hx2 (ry 34 hb_4 rfl ?_)))
         exact raT hS8
      ·refine ra1 32 (oy 2 hb_4 rfl (r1 33 rfl hb_4 (Qja Ty.s45 (fun _=>rfl) rfl rfl hx2 (ry 34 hb_4 rfl ?_))))
       exact raE hS7
      ·refine ra1 30 (oy 2 hb_4 rfl (r1 33 rfl hb_4 (Qja Ty.s45 (fun _=>rfl) rfl rfl hx2 (ry 34 hb_4 rfl ?_))))
       exact raT hS7
      ·refine ra2 28 35 ?_ ?_
       ·refine oy 2 hb_4 rfl ?_
        exact raT hS7
       ·refine oy 2 hb_4 rfl (r1 36 rfl hb_4 (Qka Ty.s49 rfl (ra1 28 (oy 2 hb_4 rfl (ry 37 hb_4 rfl (r0 38 rfl (Qga (v:=.bool (decide (p1.Lane<((x2.In).length:Int)))) rfl hb_4 rfl (rq [39] 0 ?_))))))))
        exact raE hS6
      ·refine ra1 35 (oy 2 hb_4 rfl (r1 36 rfl hb_4 (Qka Ty.s49 rfl (ry 37 hb_4 rfl (r0 38 rfl (Qga (v:=.bool (decide (p1.Lane<((x2.In).length:Int)))) rfl hb_4 rfl (rq [39] 0 ?_)))))))
       exact raT hS6
      refine RA.done (by decide +kernel) ?_
      exact T.weakR (hK () trivial) (Weak.mkN [] [] (by decide) (Qra _) rfl ⟨Jha ((congrArg (fun p=>p) (Option.some.inj hz)).symm),trivial⟩ (Qna))
     replace hz:=ite_F hz hb_4
     refine T.drawn mixed (k:=40) rfl ?_
     apply RA.jn 22 #[true,true,true,true,true,true,true,true,true,true,true,true,true,true,true,true,true,true,false,false,false,false,false,false,false,false,false,false,false,false,false,false,false,false,false,false,false,false,false,false];intro hS13
     apply RA.jn 26 #[true,true,true,true,true,true,true,true,true,true,true,true,true,false,true,false,false,false,false,false,false,false,false,false,false,false,false,false,false,false,false,false,false,false,false,false,false,false,false,false];intro hS14
     ·refine rq [0] 39 (ra1 1 (og 2 ⟨rfl,(rq [2,3] 36 (ry 4 hb_1 rfl (ry 6 hb_1 rfl (ra2 5 7 ?_ ?_))))⟩))
      ·refine oy 2 hb_1 rfl (ra1 7 (oy 2 hb_1 rfl (r1 8 rfl hb_1 (Qka Ty.s45 rfl (ry 9 hb_1 rfl (r0 10 rfl (Qga (v:=.bool (decide (p1.Node<((p0.Nodes).length:Int)))) rfl hb_1 rfl (rq [11] 28 (ry 12 hb_2 rfl (ry 14 hb_2 rfl ?_))))))))))
       exact raE hS14
      ·refine oy 2 hb_1 rfl (r1 8 rfl hb_1 (Qka Ty.s45 rfl (ra1 5 (oy 2 hb_1 rfl (ry 9 hb_1 rfl (r0 10 rfl (Qga (v:=.bool (decide (p1.Node<((p0.Nodes).length:Int)))) rfl hb_1 rfl (rq [11] 28 (ry 12 hb_2 rfl (ry 14 hb_2 rfl ?_))))))))))
       exact raT hS14
     ·refine ra2 13 15 ?_ ?_
      ·refine oy 2 hb_2 rfl (ra1 15 (oy 2 hb_2 rfl (r1 16 rfl hb_2 (Qja Ty.s45 (fun _=>rfl) rfl rfl hx1 (ry 17 hb_2 rfl ?_)))))
       exact raE hS13
      ·refine oy 2 hb_2 rfl (ra1 13 (oy 2 hb_2 rfl (r1 16 rfl hb_2 (Qja Ty.s45 (fun _=>rfl) rfl rfl hx1 (ry 17 hb_2 rfl ?_)))))
       exact raT hS13
     refine ra1 18 (oy 2 hb_2 rfl (ry 19 hb_2 rfl (r0 20 rfl (Qga (v:=.bool (x1.Kind==6)) rfl hb_2 rfl (rq [21] 18 (ry 22 hb_3 rfl (ra1 23 (oy 2 hb_3 rfl (ry 24 hb_3 rfl (r0 25 rfl (Qga (v:=.bool (decide (p1.Lane ≥ 0))) rfl hb_3 rfl ?_)))))))))))
     refine rq [26] 13 (r2 27 rfl hb_4 (r2 28 rfl hb_4 (r2 29 rfl hb_4 (r2 30 rfl hb_4 (r2 31 rfl hb_4 (r2 32 rfl hb_4 (r2 33 rfl hb_4 (r2 34 rfl hb_4 (r2 35 rfl hb_4 ?_)))))))))
     refine r2 36 rfl hb_4 (r2 37 rfl hb_4 (r0 38 rfl (Qba (v:=.bool false) rfl hb_4 rfl (rq [39] 0 (RA.done (by decide +kernel) ?_)))))
     exact T.weakR (hK () trivial) (Weak.mkN [] [] (by decide) (Qra _) rfl ⟨Jha ((congrArg (fun p=>p) (Option.some.inj hz)).symm),trivial⟩ (Qna))
    replace hz:=ite_F hz hb_3
    refine T.drawn mixed (k:=40) rfl ?_
    apply RA.jn 22 #[true,true,true,true,true,true,true,true,true,true,true,true,true,true,true,true,true,true,false,false,false,false,false,false,false,false,false,false,false,false,false,false,false,false,false,false,false,false,false,false];intro hS15
    apply RA.jn 26 #[true,true,true,true,true,true,true,true,true,true,true,true,true,false,true,false,false,false,false,false,false,false,false,false,false,false,false,false,false,false,false,false,false,false,false,false,false,false,false,false];intro hS16
    ·refine rq [0] 39 (ra1 1 (og 2 ⟨rfl,(rq [2,3] 36 (ry 4 hb_1 rfl (ry 6 hb_1 rfl (ra2 5 7 ?_ ?_))))⟩))
     ·refine oy 2 hb_1 rfl (ra1 7 (oy 2 hb_1 rfl (r1 8 rfl hb_1 (Qka Ty.s45 rfl (ry 9 hb_1 rfl (r0 10 rfl (Qga (v:=.bool (decide (p1.Node<((p0.Nodes).length:Int)))) rfl hb_1 rfl (rq [11] 28 (ry 12 hb_2 rfl (ry 14 hb_2 rfl ?_))))))))))
      exact raE hS16
     ·refine oy 2 hb_1 rfl (r1 8 rfl hb_1 (Qka Ty.s45 rfl (ra1 5 (oy 2 hb_1 rfl (ry 9 hb_1 rfl (r0 10 rfl (Qga (v:=.bool (decide (p1.Node<((p0.Nodes).length:Int)))) rfl hb_1 rfl (rq [11] 28 (ry 12 hb_2 rfl (ry 14 hb_2 rfl ?_))))))))))
      exact raT hS16
    ·refine ra2 13 15 ?_ ?_
     ·refine oy 2 hb_2 rfl (ra1 15 (oy 2 hb_2 rfl (r1 16 rfl hb_2 (Qja Ty.s45 (fun _=>rfl) rfl rfl hx1 (ry 17 hb_2 rfl ?_)))))
      exact raE hS15
     ·refine oy 2 hb_2 rfl (ra1 13 (oy 2 hb_2 rfl (r1 16 rfl hb_2 (Qja Ty.s45 (fun _=>rfl) rfl rfl hx1 (ry 17 hb_2 rfl ?_)))))
      exact raT hS15
    refine ra1 18 (oy 2 hb_2 rfl (ry 19 hb_2 rfl (r0 20 rfl (Qga (v:=.bool (x1.Kind==6)) rfl hb_2 rfl (rq [21] 18 (r2 22 rfl hb_3 (r2 23 rfl hb_3 (r2 24 rfl hb_3 (r0 25 rfl (Qba (v:=.bool false) rfl hb_3 rfl (rq [26] 13 ?_)))))))))))
    refine r2 27 rfl rfl (r2 28 rfl rfl (r2 29 rfl rfl (r2 30 rfl rfl (r2 31 rfl rfl (r2 32 rfl rfl (r2 33 rfl rfl (r2 34 rfl rfl (r2 35 rfl rfl (r2 36 rfl rfl ?_)))))))))
    refine r2 37 rfl rfl (r0 38 rfl (Qba (v:=.bool false) rfl rfl rfl (rq [39] 0 (RA.done (by decide +kernel) ?_))))
    exact T.weakR (hK () trivial) (Weak.mkN [] [] (by decide) (Qra _) rfl ⟨Jha ((congrArg (fun p=>p) (Option.some.inj hz)).symm),trivial⟩ (Qna))
   replace hz:=ite_F hz hb_2
   refine T.drawn mixed (k:=40) rfl ?_
   apply RA.jn 0 #[true,true,true,true,true,true,true,true,true,true,true,true,true,true,true,true,true,true,true,true,true,true,true,true,true,true,true,true,true,true,true,true,true,true,true,true,true,true,true,true];intro hS17
   ·refine rq [0] 39 (ra1 1 (og 2 ⟨rfl,(rq [2,3] 36 (ry 4 hb_1 rfl (ry 6 hb_1 rfl (ra2 5 7 ?_ ?_))))⟩))
    ·refine oy 2 hb_1 rfl (ra1 7 (oy 2 hb_1 rfl (r1 8 rfl hb_1 (Qka Ty.s45 rfl (ry 9 hb_1 rfl (r0 10 rfl (Qga (v:=.bool (decide (p1.Node<((p0.Nodes).length:Int)))) rfl hb_1 rfl (rq [11] 28 (r2 12 rfl hb_2 (r2 13 rfl hb_2 (r2 14 rfl hb_2 ?_)))))))))))
     refine r2 15 rfl hb_2 (r2 16 rfl hb_2 (r2 17 rfl hb_2 (r2 18 rfl hb_2 (r2 19 rfl hb_2 (r0 20 rfl (Qba (v:=.bool false) rfl hb_2 rfl (rq [21] 18 (r2 22 rfl rfl (r2 23 rfl rfl (r2 24 rfl rfl ?_))))))))))
     refine r0 25 rfl (Qba (v:=.bool false) rfl rfl rfl (rq [26] 13 (r2 27 rfl rfl (r2 28 rfl rfl (r2 29 rfl rfl (r2 30 rfl rfl (r2 31 rfl rfl (r2 32 rfl rfl (r2 33 rfl rfl (r2 34 rfl rfl ?_))))))))))
     refine r2 35 rfl rfl (r2 36 rfl rfl (r2 37 rfl rfl (r0 38 rfl (Qba (v:=.bool false) rfl rfl rfl (rq [39] 0 ?_)))))
     exact raE hS17
    ·refine oy 2 hb_1 rfl (r1 8 rfl hb_1 (Qka Ty.s45 rfl (ra1 5 (oy 2 hb_1 rfl (ry 9 hb_1 rfl (r0 10 rfl (Qga (v:=.bool (decide (p1.Node<((p0.Nodes).length:Int)))) rfl hb_1 rfl (rq [11] 28 (r2 12 rfl hb_2 (r2 13 rfl hb_2 (r2 14 rfl hb_2 ?_)))))))))))
     refine r2 15 rfl hb_2 (r2 16 rfl hb_2 (r2 17 rfl hb_2 (r2 18 rfl hb_2 (r2 19 rfl hb_2 (r0 20 rfl (Qba (v:=.bool false) rfl hb_2 rfl (rq [21] 18 (r2 22 rfl rfl (r2 23 rfl rfl (r2 24 rfl rfl ?_))))))))))
     refine r0 25 rfl (Qba (v:=.bool false) rfl rfl rfl (rq [26] 13 (r2 27 rfl rfl (r2 28 rfl rfl (r2 29 rfl rfl (r2 30 rfl rfl (r2 31 rfl rfl (r2 32 rfl rfl (r2 33 rfl rfl (r2 34 rfl rfl ?_))))))))))
     refine r2 35 rfl rfl (r2 36 rfl rfl (r2 37 rfl rfl (r0 38 rfl (Qba (v:=.bool false) rfl rfl rfl (rq [39] 0 ?_)))))
     exact raT hS17
   refine RA.done (by decide +kernel) ?_
   exact T.weakR (hK () trivial) (Weak.mkN [] [] (by decide) (Qra _) rfl ⟨Jha ((congrArg (fun p=>p) (Option.some.inj hz)).symm),trivial⟩ (Qna))
  replace hz:=ite_F hz hb_1
  refine T.drawn mixed (k:=40) rfl (rq [0] 39 (ra1 1 (og 2 ⟨rfl,(rq [2,3] 36 (r2 4 rfl hb_1 (r2 5 rfl hb_1 (r2 6 rfl hb_1 (r2 7 rfl hb_1 (r2 8 rfl hb_1 ?_))))))⟩)))
  refine r2 9 rfl hb_1 (r0 10 rfl (Qba (v:=.bool false) rfl hb_1 rfl (rq [11] 28 (r2 12 rfl rfl (r2 13 rfl rfl (r2 14 rfl rfl (r2 15 rfl rfl (r2 16 rfl rfl (r2 17 rfl rfl (r2 18 rfl rfl ?_))))))))))
  refine r2 19 rfl rfl (r0 20 rfl (Qba (v:=.bool false) rfl rfl rfl (rq [21] 18 (r2 22 rfl rfl (r2 23 rfl rfl (r2 24 rfl rfl (r0 25 rfl (Qba (v:=.bool false) rfl rfl rfl (rq [26] 13 (r2 27 rfl rfl (r2 28 rfl rfl ?_)))))))))))
  refine r2 29 rfl rfl (r2 30 rfl rfl (r2 31 rfl rfl (r2 32 rfl rfl (r2 33 rfl rfl (r2 34 rfl rfl (r2 35 rfl rfl (r2 36 rfl rfl (r2 37 rfl rfl (r0 38 rfl (Qba (v:=.bool false) rfl rfl rfl ?_))))))))))
  refine rq [39] 0 (RA.done (by decide +kernel) ?_)
  exact T.weakR (hK () trivial) (Weak.mkN [] [] (by decide) (Qra _) rfl ⟨Jha ((congrArg (fun p=>p) (Option.some.inj hz)).symm),trivial⟩ (Qna))
theorem move_Check_c (p0:Net) (p1:List (List Item)) (p2:State) (r:Int) (h:move_Check p0 p1 p2=some r):Fn Tryz.prog 36 [.agg (Jfa p0),sL (encL Qaa) p1,.agg (Qxa p2)] (iI r):=by
  unfold move_Check at h
  refine fnT 0 Tryz.func36 Tryz.ntmps36 ?_
  refine T.seq (T.region (go 3 0 (RS.nil (T.seq (T.seq ?_)))))
  obtain ⟨x2,hx2,h⟩:=bind_some h
  refine T.region (go 2 2 (sO (cF (net_Sources_c p0 p1 x2 hx2) ⟨rfl,(go 1 2 (RS.nil (T.seq (T.region (go 2 2 (RS.nil (T.ci h rfl (fun hb_1 h=>?_) (fun hb_1 h=>?_))))))))⟩)))
  ·refine T.seq (T.region (go 2 2 (RS.nil ?_)))
   cases h
   exact tD
  refine T.skip (T.seq (T.join (Z:=Unit) (fun _=>mkA 131 [(1,sL (encL Qaa) p1),(3,.ptr 0 0),(5,.ptr 1 0),(46,.bool ((((p2.At).length:Int) != ((p1).length:Int)) || ((((p2.Rings).length:Int) != p0.Rings) || ((p2.Memory).length:Int) != ((p0.Nodes).length:Int))))]) (fun _=>[.box (Jfa p0),.box (Qxa p2)]) (fun _=>True) (fun _ _=>?_) (fun hK=>?_)))
  ·refine T.ci h rfl (fun hb_4 h=>?_) (fun hb_4 h=>?_)
   ·refine T.seq (T.region (go 1 2 (RS.nil ?_)))
    cases h
    exact tD
   refine T.skip (T.seq (T.join (Z:=Unit) (fun _=>mkA 131 [(1,sL (encL Qaa) p1),(3,.ptr 0 0),(5,.ptr 1 0),(56,.bool ((decide (((p2.Choices).length:Int) > 500)) || decide (((p2.Out).length:Int) > 2000)))]) (fun _=>[.box (Jfa p0),.box (Qxa p2)]) (fun _=>True) (fun _ _=>?_) (fun hK=>?_)))
   ·refine T.ci h rfl (fun hb_6 h=>?_) (fun hb_6 h=>?_)
    ·refine T.seq (T.region (go 1 2 (RS.nil ?_)))
     cases h
     exact tD
    refine T.skip (T.seq (T.seq (T.region (go 2 2 (sQ (Qka Ty.s49 rfl (go 1 2 (RS.nil (T.block (T.iter (fun ss_15:Int=>mkA 131 [(1,sL (encL Qaa) p1),(3,.ptr 0 0),(5,.ptr 1 0),(58,sL encI p2.At),(59,iI ((p2.At).length:Int)),(60,iI ss_15)]) (fun ss_15=>[.box (Jfa p0),.box (Qxa p2)]) h (wk [] [0,1] 2 rfl) (fun ss_15 v_16 h hv_16=>?_)))))))))))
    revert hv_16 h;revert ss_15;intro s5 h hv_16
    replace h:move_Check_l4 p0 p1 p2 s5=some v_16:=h
    try dsimp only
    unfold move_Check_l4 at h
    refine T.seq (T.region (go 1 2 (RS.nil (T.seq (T.ci h rfl (fun hb_17 h=>?_) (fun hb_17 h=>?_))))))
    ·refine T.skip (T.seq (T.block (T.seq ?_)))
     obtain ⟨x7,hx7,h⟩:=bind_some h
     refine T.region (go 1 2 (sQ (Qja Ty.s49 (fun _=>rfl) rfl rfl hx7 (go 3 2 (RS.nil ?_)))))
     obtain ⟨zt_19,hz,h⟩:=bind_some h
     revert hz h;revert zt_19;intro c9 hz h
     refine T.join (Z:=Unit) (fun _=>mkA 131 [(1,sL (encL Qaa) p1),(3,.ptr 0 0),(5,.ptr 1 0),(58,sL encI p2.At),(59,iI ((p2.At).length:Int)),(60,iI s5),(75,.bool c9)]) (fun _=>[.box (Jfa p0),.box (Qxa p2)]) (fun _=>True) (fun _ _=>?_) (fun hK=>?_)
     ·refine T.ci h rfl (fun hb_20 h=>?_) (fun hb_20 h=>?_)
      ·refine T.seq (T.region (go 1 2 (RS.nil ?_)))
       obtain ⟨w_21,h,hw_21⟩:=Qva h
       replace h:=h.trans (congrArg some (hv_16 _ hw_21))
       cases h
       exact tD
      refine T.skip (T.region (go 2 2 (RS.nil ?_)))
      exact ⟨IntKind.i64.wrap (s5+1),(Option.some.inj h).symm,wk [] [0,1] 2 rfl⟩
     refine T.region (go 3 2 ?_)
     rcases Qca (decide (x7<0)) with hb_18 | hb_18
     ·replace hz:=ite_T hz hb_18
      refine sN hb_18 (sN hb_18 (sN hb_18 (sN hb_18 (sN hb_18 (sN hb_18 (sN hb_18 (sQ (Qga (v:=.bool true) rfl hb_18 rfl (RS.nil ?_)))))))))
      exact T.sub (hK () trivial) ⟨rfl,rfl,rfl,rfl,rfl,rfl,(congrArg AV.bool ((congrArg (fun p=>p) (Option.some.inj hz)).symm)).symm,trivial⟩
     replace hz:=ite_F hz hb_18
     obtain ⟨x8,hx8,hz⟩:=bind_some hz
     refine yg 2 hb_18 (yg 2 hb_18 (yg 2 hb_18 (yQ hb_18 (Qja Ty.s48 (fun _=>rfl) rfl rfl hx8 (yg 2 hb_18 (yQ hb_18 (Qka Ty.s52 rfl (yg 2 hb_18 (sQ (Qba (v:=.bool (decide (x7 > ((x8).length:Int)))) rfl hb_18 rfl (RS.nil ?_)))))))))))
     exact T.sub (hK () trivial) ⟨rfl,rfl,rfl,rfl,rfl,rfl,(congrArg AV.bool ((congrArg (fun p=>p) (Option.some.inj hz)).symm)).symm,trivial⟩
    refine T.exit ?_
    obtain ⟨w_22,h,hw_22⟩:=Qva h
    replace h:=h.trans (congrArg some (hv_16 _ hw_22))
    refine T.seq (T.region (go 2 2 (RS.nil (T.seq (T.seq (T.region (go 2 2 (sQ (Qka Ty.s48 rfl (go 1 2 ?_))))))))))
    refine RS.nil (T.block (T.iter (fun ss_29:Int=>mkA 131 [(3,.ptr 0 0),(5,.ptr 1 0),(10,.func 69 [.ptr 1 0]),(79,sL (encL Qaa) p2.Rings),(80,iI ((p2.Rings).length:Int)),(81,iI ss_29)]) (fun ss_29=>[.box (Jfa p0),.box (Qxa p2)]) h (wk [] [0,1] 2 rfl) (fun ss_29 v_30 h hv_30=>?_)))
    revert hv_30 h;revert ss_29;intro s10 h hv_30
    replace h:Q0b p0 p2 s10=some v_30:=h
    try dsimp only
    unfold Q0b at h
    refine T.seq (T.region (go 1 2 (RS.nil (T.seq (T.ci h rfl (fun hb_31 h=>?_) (fun hb_31 h=>?_))))))
    ·refine T.skip (T.seq (T.block (T.seq ?_)))
     obtain ⟨x12,hx12,h⟩:=bind_some h
     refine T.region (sQ (Qja Ty.s48 (fun _=>rfl) rfl rfl hx12 (go 2 2 (RS.nil (T.seq (T.seq (T.region (go 1 2 (sQ (Qka Ty.s52 rfl (go 3 2 ?_)))))))))))
     refine RS.nil (T.ci h rfl (fun hb_32 h=>?_) (fun hb_32 h=>?_))
     ·refine T.seq (T.region (go 1 2 (RS.nil ?_)))
      obtain ⟨w_33,h,hw_33⟩:=Qva h
      replace h:=h.trans (congrArg some (hv_30 _ hw_33))
      cases h
      exact tD
     refine T.skip (T.seq ?_)
     obtain ⟨x14,hx14,h⟩:=bind_some h
     refine T.region (go 2 2 (sO (Q6a (ac:=[sL Qaa x12,.ptr 1 0]) (as0:=[sL Qaa x12,.ptr 0 0]) (aw0:=[.box (Qxa p2)]) (aw1:=[.box (Qxa p2)]) (aw2:=[.box (Jfa p0),.box (Qxa p2)]) (v:=.bool x14) (v':=.bool x14) (n0:=2) (n1:=1) [1] rfl rfl rfl rfl (by decide) (Jba (cs:=(Qxa p2)) (ds:=(Qxa p2)) rfl ⟨rn_s rfl,rn_s rfl,rn_s rfl,rn_s rfl,rn_s rfl,trivial⟩ (Qna)) ⟨rn_s rfl,Qla rfl,trivial⟩ (move_Check_1_xa01a_c x12 p2.At p2.Rings p2.Memory p2.Choices p2.Out x14 hx14) rfl (Qea (V1a _)) ⟨.inr ⟨rfl,rfl⟩,.inl ⟨0,_,by decide,rfl,Q7a (cs:=(Qxa p2)) (ds:=(Qxa p2)) ⟨Qea (Qua encI_p _),Qea (Qua (encL_p Jga) _),Qea (Qua Zba _),Qea (Qua Zca _),Qea (Qua Jga _),trivial⟩⟩,trivial⟩ (go 1 2 (RS.nil (T.ci h rfl (fun hb_34 h=>?_) (fun hb_34 h=>?_)))))))
     ·refine T.seq (T.region (go 1 2 (RS.nil ?_)))
      obtain ⟨w_35,h,hw_35⟩:=Qva h
      replace h:=h.trans (congrArg some (hv_30 _ hw_35))
      cases h
      exact tD
     refine T.skip (T.region (go 2 2 (RS.nil ?_)))
     exact ⟨IntKind.i64.wrap (s10+1),(Option.some.inj h).symm,wk [] [0,1] 2 rfl⟩
    refine T.exit ?_
    obtain ⟨w_36,h,hw_36⟩:=Qva h
    replace h:=h.trans (congrArg some (hv_30 _ hw_36))
    refine T.seq (T.seq (T.region (go 2 2 (sQ (Qka Ty.s50 rfl (go 1 2 (RS.nil (T.block (T.iter (fun ss_43:Int=>mkA 131 [(3,.ptr 0 0),(5,.ptr 1 0),(10,.func 69 [.ptr 1 0]),(96,sL Qda p2.Memory),(97,iI ((p2.Memory).length:Int)),(98,iI ss_43)]) (fun ss_43=>[.box (Jfa p0),.box (Qxa p2)]) h (wk [] [0,1] 2 rfl) (fun ss_43 v_44 h hv_44=>?_))))))))))
    revert hv_44 h;revert ss_43;intro s15 h hv_44
    replace h:Q1b p0 p2 s15=some v_44:=h
    try dsimp only
    unfold Q1b at h
    refine T.seq (T.region (go 1 2 (RS.nil (T.seq (T.ci h rfl (fun hb_45 h=>?_) (fun hb_45 h=>?_))))))
    ·refine T.skip (T.seq (T.block (T.seq ?_)))
     obtain ⟨x17,hx17,h⟩:=bind_some h
     refine T.region (sQ (Qja Ty.s50 (fun _=>rfl) rfl rfl hx17 (go 3 2 (RS.nil (T.seq (T.seq ?_))))))
     obtain ⟨x19,hx19,h⟩:=bind_some h
     refine T.region (go 1 3 (sO (cF (stage_Check_c x17 x19 hx19) ⟨rfl,(go 1 3 (RS.nil (T.seq (T.region (go 2 3 (RS.nil (T.ci h rfl (fun hb_46 h=>?_) (fun hb_46 h=>?_))))))))⟩)))
     ·refine T.seq (T.region (go 2 3 (RS.nil ?_)))
      obtain ⟨w_47,h,hw_47⟩:=Qva h
      replace h:=h.trans (congrArg some (hv_44 _ hw_47))
      cases h
      exact tD
     refine T.skip (T.seq (T.region (go 4 3 (sQ (Qka Ty.s51 rfl (go 1 3 (RS.nil (T.ci h rfl (fun hb_48 h=>?_) (fun hb_48 h=>?_)))))))))
     ·refine T.seq (T.region (go 1 3 (RS.nil ?_)))
      obtain ⟨w_49,h,hw_49⟩:=Qva h
      replace h:=h.trans (congrArg some (hv_44 _ hw_49))
      cases h
      exact tD
     refine T.skip (T.region (go 2 3 (RS.nil ?_)))
     exact ⟨IntKind.i64.wrap (s15+1),(Option.some.inj h).symm,wk [] [0,1] 3 rfl⟩
    refine T.exit ?_
    obtain ⟨w_50,h,hw_50⟩:=Qva h
    replace h:=h.trans (congrArg some (hv_44 _ hw_50))
    refine T.seq (T.seq (T.region (go 2 2 (sQ (Qka Ty.s51 rfl (go 1 2 (RS.nil (T.block (T.iter (fun ss_55:Int=>mkA 131 [(3,.ptr 0 0),(5,.ptr 1 0),(10,.func 69 [.ptr 1 0]),(115,sL Qia p2.Choices),(116,iI ((p2.Choices).length:Int)),(117,iI ss_55)]) (fun ss_55=>[.box (Jfa p0),.box (Qxa p2)]) h (wk [] [0,1] 2 rfl) (fun ss_55 v_56 h hv_56=>?_))))))))))
    revert hv_56 h;revert ss_55;intro s20 h hv_56
    replace h:Q8b p0 p2 s20=some v_56:=h
    try dsimp only
    unfold Q8b at h
    refine T.seq (T.region (go 1 2 (RS.nil (T.seq (T.ci h rfl (fun hb_57 h=>?_) (fun hb_57 h=>?_))))))
    ·refine T.skip (T.seq (T.block (T.seq ?_)))
     obtain ⟨x22,hx22,h⟩:=bind_some h
     refine T.region (sQ (Qja Ty.s51 (fun _=>rfl) rfl rfl hx22 (go 3 2 (RS.nil (T.seq ?_)))))
     obtain ⟨x24,hx24,h⟩:=bind_some h
     refine T.region (go 2 3 (sO (cF (move_choice_c p0 x22 x24 hx24) ⟨rfl,(go 1 3 (RS.nil (T.ci h rfl (fun hb_58 h=>?_) (fun hb_58 h=>?_))))⟩)))
     ·refine T.seq (T.region (go 1 3 (RS.nil ?_)))
      obtain ⟨w_59,h,hw_59⟩:=Qva h
      replace h:=h.trans (congrArg some (hv_56 _ hw_59))
      cases h
      exact tD
     refine T.skip (T.region (go 2 3 (RS.nil ?_)))
     exact ⟨IntKind.i64.wrap (s20+1),(Option.some.inj h).symm,wk [] [0,1] 3 rfl⟩
    refine T.exit ?_
    obtain ⟨w_60,h,hw_60⟩:=Qva h
    replace h:=h.trans (congrArg some (hv_56 _ hw_60))
    refine T.seq (T.seq ?_)
    obtain ⟨x26,hx26,h⟩:=bind_some h
    refine T.region (go 3 2 (sO (Q6a (ac:=[sL Qaa p2.Out,.ptr 1 0]) (as0:=[sL Qaa p2.Out,.ptr 0 0]) (aw0:=[.box (Qxa p2)]) (aw1:=[.box (Qxa p2)]) (aw2:=[.box (Jfa p0),.box (Qxa p2)]) (v:=.bool x26) (v':=.bool x26) (n0:=2) (n1:=1) [1] rfl rfl rfl rfl (by decide) (Jba (cs:=(Qxa p2)) (ds:=(Qxa p2)) rfl ⟨rn_s rfl,rn_s rfl,rn_s rfl,rn_s rfl,rn_s rfl,trivial⟩ (Qna)) ⟨rn_s rfl,Qla rfl,trivial⟩ (move_Check_1_xa01a_c p2.Out p2.At p2.Rings p2.Memory p2.Choices p2.Out x26 hx26) rfl (Qea (V1a _)) ⟨.inr ⟨rfl,rfl⟩,.inl ⟨0,_,by decide,rfl,Q7a (cs:=(Qxa p2)) (ds:=(Qxa p2)) ⟨Qea (Qua encI_p _),Qea (Qua (encL_p Jga) _),Qea (Qua Zba _),Qea (Qua Zca _),Qea (Qua Jga _),trivial⟩⟩,trivial⟩ (go 1 2 (RS.nil (T.ci h rfl (fun hb_61 h=>?_) (fun hb_61 h=>?_)))))))
    ·refine T.seq (T.region (go 1 2 (RS.nil ?_)))
     cases h
     exact tD
    refine T.skip (T.seq (T.region (go 1 2 (RS.nil ?_))))
    cases h
    exact tD
   refine T.region (go 2 2 (sQ (Qka Ty.s51 rfl (go 2 2 ?_))))
   rcases Qca (decide (((p2.Choices).length:Int) > 500)) with hb_5 | hb_5
   ·refine sN hb_5 (sN hb_5 (sN hb_5 (sN hb_5 (sQ (Qga (v:=.bool true) rfl hb_5 rfl (RS.nil ?_))))))
    exact T.sub (hK () trivial) ⟨rfl,rfl,rfl,(congrArg AV.bool (by simp only [hb_5,bz,if_true,if_false,Bool.false_eq_true])).symm,trivial⟩
   refine yg 2 hb_5 (yg 2 hb_5 (yQ hb_5 (Qka Ty.s52 rfl (yg 2 hb_5 (sQ (Qba (v:=.bool (decide (((p2.Out).length:Int) > 2000))) rfl hb_5 rfl (RS.nil ?_)))))))
   exact T.sub (hK () trivial) ⟨rfl,rfl,rfl,(congrArg AV.bool (by simp only [hb_5,bz,if_true,if_false,Bool.false_eq_true])).symm,trivial⟩
  refine T.region (go 2 2 (sQ (Qka Ty.s49 rfl (go 1 2 (sQ (Qka Ty.s48 rfl (go 2 2 ?_)))))))
  rcases Qca (((p2.At).length:Int) != ((p1).length:Int)) with hb_2 | hb_2
  ·refine sN hb_2 (sN hb_2 (sN hb_2 (sN hb_2 (sN hb_2 (sN hb_2 (sQ (Qga (v:=.bool true) rfl hb_2 rfl (go 1 2 (sN rfl (sN rfl ?_))))))))))
   refine sN rfl (sN rfl (sN rfl (sN rfl (sN rfl (sQ (Qga (v:=.bool true) rfl rfl rfl (RS.nil ?_)))))))
   exact T.sub (hK () trivial) ⟨rfl,rfl,rfl,(congrArg AV.bool (by simp only [hb_2,bz,if_true,if_false,Bool.false_eq_true])).symm,trivial⟩
  refine yg 2 hb_2 (yg 2 hb_2 (yQ hb_2 (Qka Ty.s48 rfl (yg 2 hb_2 (yg 2 hb_2 (yg 2 hb_2 (sQ (Qba (v:=.bool (((p2.Rings).length:Int) != p0.Rings)) rfl hb_2 rfl (go 1 2 ?_)))))))))
  rcases Qca (((p2.Rings).length:Int) != p0.Rings) with hb_3 | hb_3
  ·refine sN hb_3 (sN hb_3 (sN hb_3 (sN hb_3 (sN hb_3 (sN hb_3 (sN hb_3 (sQ (Qga (v:=.bool true) rfl hb_3 rfl (RS.nil ?_)))))))))
   exact T.sub (hK () trivial) ⟨rfl,rfl,rfl,(congrArg AV.bool (by simp only [hb_2,hb_3,bz,if_true,if_false,Bool.false_eq_true])).symm,trivial⟩
  refine yg 2 hb_3 (yg 2 hb_3 (yQ hb_3 (Qka Ty.s50 rfl (yg 2 hb_3 (yg 2 hb_3 (yQ hb_3 (Qka Ty.s45 rfl (yg 2 hb_3 (sQ (Qba (v:=.bool (((p2.Memory).length:Int) != ((p0.Nodes).length:Int))) rfl hb_3 rfl (RS.nil ?_)))))))))))
  exact T.sub (hK () trivial) ⟨rfl,rfl,rfl,(congrArg AV.bool (by simp only [hb_2,hb_3,bz,if_true,if_false,Bool.false_eq_true])).symm,trivial⟩
theorem bld_copyCheck_c (p0 r:List Int) (h:bld_copyCheck p0=some r):FnX Tryz.prog 93 [.ptr 0 0] [.boxB 85 [.np 0,.ref 1],aR 5 1 enc8 p0] (.tup []) [.boxB 85 [.np 0,.ref 1],aR 5 1 enc8 r]:=by
  cases h
  exact copyCheck_fn _
theorem Yqa (p0:Int) (p1:List Int) (r:Unit × (List Int)) (h:Jra p0 p1=some r):FnX Tryz.prog 74 [.ptr 0 0,.int .u8 p0] [.boxB 85 [.np 0,.ref 1],aR 5 1 enc8 p1] (.nili) [.boxB 85 [.np 0,.ref 2],.dead,aR 5 1 enc8 r.2]:=by
  unfold Jra at h
  refine fnT 2 Tryz.func74 Tryz.ntmps74 ?_
  refine T.mvBB 0 1 1 (cs:=[.np 0,.ref 1]) rfl rfl rfl rfl (cs':=[.np 0,.ref 2]) rfl rfl (T.seq (T.region (go 1 3 (RS.nil (T.seq ?_)))))
  obtain ⟨x2,hx2,h⟩:=bind_some h
  refine T.region (go 1 3 (sO (Q6a (ac:=[.ptr 0 0]) (as0:=[.ptr 0 0]) (aw0:=[.boxB 85 [.np 0,.ref 1],aR 5 1 enc8 p1]) (aw1:=[.boxB 85 [.np 0,.ref 1],aR 5 1 enc8 x2]) (aw2:=[.boxB 85 [.np 0,.ref 2],.dead,aR 5 1 enc8 x2]) (v:=.tup []) (v':=.tup []) (n0:=3) (n1:=2) [0,2] rfl rfl rfl rfl (by decide) (J6a (cs:=[.np 0,.ref 1]) (ds:=[.np 0,.ref 2]) rfl ⟨rn_np rfl,Q9a rfl,trivial⟩ (J4a rfl Zfa rfl (Qna))) ⟨Qla rfl,trivial⟩ (bld_copyCheck_c p1 x2 hx2) rfl (Qib (cs:=[]) (ds:=[]) trivial) ⟨.inl ⟨0,_,by decide,rfl,Vna (cs:=[.np 0,.ref 2]) (ds:=[.np 0,.ref 1]) ⟨rm_np (by decide),J2a (by decide),trivial⟩⟩,.inr ⟨rfl,rfl⟩,.inl ⟨1,_,by decide,rfl,Jna Zfa⟩,trivial⟩ (RS.nil (T.seq ?_)))))
  obtain ⟨x4,hx4,h⟩:=bind_some h
  refine T.region (go 4 3 (sO (o_load_ptrB rfl rfl (Q0a Ty.k35 (c:=.ref 2) rfl (go 1 3 (sO (Qsa (rows:=List.map enc8 [p0]) (vs:=[.int .u8 p0]) Ty.s35 Ty.z5 rfl rfl rfl rfl rfl rfl (sO (Zva (en:=enc8) (xs:=x2) (ys:=([p0]:List Int)) Ty.s35 (fun _=>rfl) rfl rfl rfl hx4 rfl rfl (go 2 5 (sO (o_storeB rfl rfl (vs:=[.ref 4]) rfl Tryz.underlying35 rfl (by decide) rfl (RS.nil (T.seq ?_))))))))))))))
  refine T.region (go 1 5 (RS.nil (T.rt (res_tmpA (v:=.nili) rfl (Qwb ?_)))))
  exact ret_norm (v:=.nili) (aw1:=[.boxB 85 [.np 0,.ref 4],.dead,.dead,.dead,aR 5 1 enc8 x4]) (.nili) [0,1,4] rfl (by decide) (by decide) (Y5a pure_nili) (J6a (cs:=[.np 0,.ref 2]) (ds:=[.np 0,.ref 4]) rfl ⟨rn_np rfl,Q9a rfl,trivial⟩ (rw_dead rfl (J4a rfl Zfa (congrArg (fun r:Unit × (List Int)=>r.2) (Option.some.inj h)).symm (Qna)))) ⟨rfl,rfl⟩
theorem Qza (p0:Int) (p1:List Int) (r:List Int) (h:Qoa p0 p1=some r):FnX Tryz.prog 37 [.ptr 0 0,iI p0] [.boxB 85 [.np 0,.ref 1],aR 5 1 enc8 p1] (.tup []) [.boxB 85 [.np 0,.ref 2],.dead,aR 5 1 enc8 r]:=by
  unfold Qoa at h
  refine fnT 2 Tryz.func37 Tryz.ntmps37 ?_
  refine T.mvBB 0 1 1 (cs:=[.np 0,.ref 1]) rfl rfl rfl rfl (cs':=[.np 0,.ref 2]) rfl rfl (T.seq ?_)
  obtain ⟨x3,hx3,h⟩:=bind_some h
  obtain ⟨x4,hx4,h⟩:=bind_some h
  refine T.region (go 2 3 (sQ (v_shl rfl rfl hx3 (go 1 3 (sQ (v_shr rfl rfl hx4 (go 3 3 (RS.nil (T.seq (T.block (T.iter (fun ss_3:Int × (List Int)=>mkA 29 [(0,.ptr 0 0),(4,.int .u64 ss_3.1)]) (fun ss_3=>[.boxB 85 [.np 0,.ref 2],.dead,aR 5 1 enc8 ss_3.2]) h (Weak.mkN [] [0,1,2] (by decide) (by decide) rfl ⟨Qla rfl,Qya rfl,trivial⟩ (J6a (cs:=[.np 0,.ref 2]) (ds:=[.np 0,.ref 2]) rfl ⟨rn_np rfl,Q9a rfl,trivial⟩ (rw_dead rfl (rw_ar rfl rfl (Qna))))) (fun ss_3 v_4 h hv_4=>?_))))))))))))
  obtain ⟨s5,s6⟩:=ss_3
  replace h:Joa s5 s6=some v_4:=h
  try dsimp only
  unfold Joa at h
  refine T.seq (T.seq (T.region (go 2 3 (RS.nil (T.ci h rfl (fun hb_5 h=>?_) (fun hb_5 h=>?_))))))
  ·refine T.skip (T.seq (T.block ?_))
   obtain ⟨x7,hx7,h⟩:=bind_some h
   refine T.region (go 6 3 (sO (Q6a (ac:=[.ptr 0 0,.int .u8 (ibits .or .u8 (IntKind.u8.wrap s5) 128)]) (as0:=[.ptr 0 0,.int .u8 (ibits .or .u8 (IntKind.u8.wrap s5) 128)]) (aw0:=[.boxB 85 [.np 0,.ref 1],aR 5 1 enc8 s6]) (aw1:=[.boxB 85 [.np 0,.ref 2],.dead,aR 5 1 enc8 x7.2]) (aw2:=[.boxB 85 [.np 0,.ref 3],.dead,.dead,aR 5 1 enc8 x7.2]) (v:=.nili) (v':=.nili) (n0:=3) (n1:=3) [0,2] rfl rfl rfl rfl (by decide) (J6a (cs:=[.np 0,.ref 1]) (ds:=[.np 0,.ref 2]) rfl ⟨rn_np rfl,Q9a rfl,trivial⟩ (J4a rfl Zfa rfl (Qna))) ⟨Qla rfl,Qya rfl,trivial⟩ (Yqa (ibits .or .u8 (IntKind.u8.wrap s5) 128) s6 x7 hx7) rfl (Qea (pure_nili)) ⟨.inl ⟨0,_,by decide,rfl,Vna (cs:=[.np 0,.ref 3]) (ds:=[.np 0,.ref 2]) ⟨rm_np (by decide),J2a (by decide),trivial⟩⟩,.inr ⟨rfl,rfl⟩,.inl ⟨1,_,by decide,rfl,trivial⟩,.inl ⟨2,_,by decide,rfl,Jna Zfa⟩,trivial⟩ (RS.nil ?_))))
   obtain ⟨x8,hx8,h⟩:=bind_some h
   refine T.region (go 1 4 (sQ (v_shr rfl rfl hx8 (go 1 4 (RS.nil ?_)))))
   exact ⟨(x8,x7.2),(Option.some.inj h).symm,Weak.mkN [] [0,1,3] (by decide) (by decide) rfl ⟨Qla rfl,Qya rfl,trivial⟩ (J6a (cs:=[.np 0,.ref 2]) (ds:=[.np 0,.ref 3]) rfl ⟨rn_np rfl,Q9a rfl,trivial⟩ (rw_dead rfl (rw_ar rfl rfl (Qna))))⟩
  refine T.exit ?_
  obtain ⟨w_6,h,hw_6⟩:=Qva h
  replace h:=h.trans (congrArg some (hv_4 _ hw_6))
  obtain ⟨x9,hx9,h⟩:=bind_some h
  refine T.region (go 5 3 (sO (Q6a (ac:=[.ptr 0 0,.int .u8 (IntKind.u8.wrap s5)]) (as0:=[.ptr 0 0,.int .u8 (IntKind.u8.wrap s5)]) (aw0:=[.boxB 85 [.np 0,.ref 1],aR 5 1 enc8 s6]) (aw1:=[.boxB 85 [.np 0,.ref 2],.dead,aR 5 1 enc8 x9.2]) (aw2:=[.boxB 85 [.np 0,.ref 3],.dead,.dead,aR 5 1 enc8 x9.2]) (v:=.nili) (v':=.nili) (n0:=3) (n1:=3) [0,2] rfl rfl rfl rfl (by decide) (J6a (cs:=[.np 0,.ref 1]) (ds:=[.np 0,.ref 2]) rfl ⟨rn_np rfl,Q9a rfl,trivial⟩ (J4a rfl Zfa rfl (Qna))) ⟨Qla rfl,Qya rfl,trivial⟩ (Yqa (IntKind.u8.wrap s5) s6 x9 hx9) rfl (Qea (pure_nili)) ⟨.inl ⟨0,_,by decide,rfl,Vna (cs:=[.np 0,.ref 3]) (ds:=[.np 0,.ref 2]) ⟨rm_np (by decide),J2a (by decide),trivial⟩⟩,.inr ⟨rfl,rfl⟩,.inl ⟨1,_,by decide,rfl,trivial⟩,.inl ⟨2,_,by decide,rfl,Jna Zfa⟩,trivial⟩ (RS.nil (exN (Qwb ?_))))))
  exact ret_norm (v:=.tup []) (aw1:=[.boxB 85 [.np 0,.ref 3],.dead,.dead,aR 5 1 enc8 x9.2]) (.tup []) [0,1,3] rfl (by decide) (by decide) (rn_tup trivial) (J6a (cs:=[.np 0,.ref 2]) (ds:=[.np 0,.ref 3]) rfl ⟨rn_np rfl,Q9a rfl,trivial⟩ (rw_dead rfl (J4a rfl Zfa (congrArg (fun r:List Int=>r) (Option.some.inj h)).symm (Qna)))) ⟨rfl,rfl⟩
theorem Jdb (p0:List Item) (p1:List Int) (r:List Int) (h:J7a p0 p1=some r):FnX Tryz.prog 38 [.ptr 0 0,sL Qaa p0] [.boxB 85 [.np 0,.ref 1],aR 5 1 enc8 p1] (.tup []) [.boxB 85 [.np 0,.ref 2],.dead,aR 5 1 enc8 r]:=by
  unfold J7a at h
  refine fnT 2 Tryz.func38 Tryz.ntmps38 ?_
  refine T.mvBB 0 1 1 (cs:=[.np 0,.ref 1]) rfl rfl rfl rfl (cs':=[.np 0,.ref 2]) rfl rfl (T.seq ?_)
  obtain ⟨x2,hx2,h⟩:=bind_some h
  refine T.region (go 2 3 (sQ (Qka Ty.s52 rfl (sO (Q6a (ac:=[.ptr 0 0,iI ((p0).length:Int)]) (as0:=[.ptr 0 0,iI ((p0).length:Int)]) (aw0:=[.boxB 85 [.np 0,.ref 1],aR 5 1 enc8 p1]) (aw1:=[.boxB 85 [.np 0,.ref 2],.dead,aR 5 1 enc8 x2]) (aw2:=[.boxB 85 [.np 0,.ref 3],.dead,.dead,aR 5 1 enc8 x2]) (v:=.tup []) (v':=.tup []) (n0:=3) (n1:=3) [0,2] rfl rfl rfl rfl (by decide) (J6a (cs:=[.np 0,.ref 1]) (ds:=[.np 0,.ref 2]) rfl ⟨rn_np rfl,Q9a rfl,trivial⟩ (J4a rfl Zfa rfl (Qna))) ⟨Qla rfl,Qya rfl,trivial⟩ (Qza ((p0).length:Int) p1 x2 hx2) rfl (Qib (cs:=[]) (ds:=[]) trivial) ⟨.inl ⟨0,_,by decide,rfl,Vna (cs:=[.np 0,.ref 3]) (ds:=[.np 0,.ref 2]) ⟨rm_np (by decide),J2a (by decide),trivial⟩⟩,.inr ⟨rfl,rfl⟩,.inl ⟨1,_,by decide,rfl,trivial⟩,.inl ⟨2,_,by decide,rfl,Jna Zfa⟩,trivial⟩ (RS.nil (T.seq (T.region (go 1 4 (sQ (Qka Ty.s52 rfl (go 1 4 ?_))))))))))))
  refine RS.nil (T.block (T.iter (fun ss_3:Int × (List Int)=>mkA 29 [(0,.ptr 0 0),(10,sL Qaa p0),(11,iI ((p0).length:Int)),(12,iI ss_3.1)]) (fun ss_3=>[.boxB 85 [.np 0,.ref 2],.dead,aR 5 1 enc8 ss_3.2]) h (Weak.mkN [] [0,1,3] (by decide) (by decide) rfl ⟨Qla rfl,rn_s rfl,Qya rfl,Qya rfl,trivial⟩ (J6a (cs:=[.np 0,.ref 2]) (ds:=[.np 0,.ref 3]) rfl ⟨rn_np rfl,Q9a rfl,trivial⟩ (rw_dead rfl (rw_ar rfl rfl (Qna))))) (fun ss_3 v_4 h hv_4=>?_)))
  obtain ⟨s3,s4⟩:=ss_3
  replace h:Zna p0 s3 s4=some v_4:=h
  try dsimp only
  unfold Zna at h
  refine T.seq (T.region (go 1 3 (RS.nil (T.seq (T.ci h rfl (fun hb_5 h=>?_) (fun hb_5 h=>?_))))))
  ·refine T.skip (T.seq (T.block (T.seq ?_)))
   obtain ⟨x6,hx6,h⟩:=bind_some h
   refine T.region (sQ (Qja Ty.s52 (fun _=>rfl) rfl rfl hx6 (go 3 3 (RS.nil (T.seq ?_)))))
   obtain ⟨x8,hx8,h⟩:=bind_some h
   refine T.region (go 3 4 (sO (Q6a (ac:=[.ptr 0 0,iI x6.Key]) (as0:=[.ptr 0 0,iI x6.Key]) (aw0:=[.boxB 85 [.np 0,.ref 1],aR 5 1 enc8 s4]) (aw1:=[.boxB 85 [.np 0,.ref 2],.dead,aR 5 1 enc8 x8]) (aw2:=[.boxB 85 [.np 0,.ref 4],.dead,.dead,.box (Qaa x6),aR 5 1 enc8 x8]) (v:=.tup []) (v':=.tup []) (n0:=4) (n1:=3) [0,2] rfl rfl rfl rfl (by decide) (J6a (cs:=[.np 0,.ref 1]) (ds:=[.np 0,.ref 2]) rfl ⟨rn_np rfl,Q9a rfl,trivial⟩ (J4a rfl Zfa rfl (Qna))) ⟨Qla rfl,Qya rfl,trivial⟩ (Qza x6.Key s4 x8 hx8) rfl (Qib (cs:=[]) (ds:=[]) trivial) ⟨.inl ⟨0,_,by decide,rfl,Vna (cs:=[.np 0,.ref 4]) (ds:=[.np 0,.ref 2]) ⟨rm_np (by decide),J2a (by decide),trivial⟩⟩,.inr ⟨rfl,rfl⟩,.inl ⟨1,_,by decide,rfl,trivial⟩,.inr ⟨rfl,rfl⟩,.inl ⟨2,_,by decide,rfl,Jna Zfa⟩,trivial⟩ (RS.nil (T.seq ?_)))))
   obtain ⟨x10,hx10,h⟩:=bind_some h
   refine T.region (go 3 5 (sO (Q6a (ac:=[.ptr 0 0,iI x6.Val]) (as0:=[.ptr 0 0,iI x6.Val]) (aw0:=[.boxB 85 [.np 0,.ref 1],aR 5 1 enc8 x8]) (aw1:=[.boxB 85 [.np 0,.ref 2],.dead,aR 5 1 enc8 x10]) (aw2:=[.boxB 85 [.np 0,.ref 5],.dead,.dead,.box (Qaa x6),.dead,aR 5 1 enc8 x10]) (v:=.tup []) (v':=.tup []) (n0:=5) (n1:=3) [0,4] rfl rfl rfl rfl (by decide) (J6a (cs:=[.np 0,.ref 1]) (ds:=[.np 0,.ref 4]) rfl ⟨rn_np rfl,Q9a rfl,trivial⟩ (J4a rfl Zfa rfl (Qna))) ⟨Qla rfl,Qya rfl,trivial⟩ (Qza x6.Val x8 x10 hx10) rfl (Qib (cs:=[]) (ds:=[]) trivial) ⟨.inl ⟨0,_,by decide,rfl,Vna (cs:=[.np 0,.ref 5]) (ds:=[.np 0,.ref 2]) ⟨rm_np (by decide),J2a (by decide),trivial⟩⟩,.inr ⟨rfl,rfl⟩,.inr ⟨rfl,rfl⟩,.inr ⟨rfl,rfl⟩,.inl ⟨1,_,by decide,rfl,trivial⟩,.inl ⟨2,_,by decide,rfl,Jna Zfa⟩,trivial⟩ (RS.nil ?_))))
   obtain ⟨x11,hx11,h⟩:=bind_some h
   refine T.region (go 3 6 (sO (Q6a (ac:=[.ptr 0 0,iI x6.Dep]) (as0:=[.ptr 0 0,iI x6.Dep]) (aw0:=[.boxB 85 [.np 0,.ref 1],aR 5 1 enc8 x10]) (aw1:=[.boxB 85 [.np 0,.ref 2],.dead,aR 5 1 enc8 x11]) (aw2:=[.boxB 85 [.np 0,.ref 6],.dead,.dead,.box (Qaa x6),.dead,.dead,aR 5 1 enc8 x11]) (v:=.tup []) (v':=.tup []) (n0:=6) (n1:=3) [0,5] rfl rfl rfl rfl (by decide) (J6a (cs:=[.np 0,.ref 1]) (ds:=[.np 0,.ref 5]) rfl ⟨rn_np rfl,Q9a rfl,trivial⟩ (J4a rfl Zfa rfl (Qna))) ⟨Qla rfl,Qya rfl,trivial⟩ (Qza x6.Dep x10 x11 hx11) rfl (Qib (cs:=[]) (ds:=[]) trivial) ⟨.inl ⟨0,_,by decide,rfl,Vna (cs:=[.np 0,.ref 6]) (ds:=[.np 0,.ref 2]) ⟨rm_np (by decide),J2a (by decide),trivial⟩⟩,.inr ⟨rfl,rfl⟩,.inr ⟨rfl,rfl⟩,.inr ⟨rfl,rfl⟩,.inr ⟨rfl,rfl⟩,.inl ⟨1,_,by decide,rfl,trivial⟩,.inl ⟨2,_,by decide,rfl,Jna Zfa⟩,trivial⟩ (RS.nil (T.region (go 2 7 (RS.nil ?_)))))))
   exact ⟨(IntKind.i64.wrap (s3+1),x11),(Option.some.inj h).symm,Weak.mkN [] [0,1,6] (by decide) (by decide) rfl ⟨Qla rfl,rn_s rfl,Qya rfl,Qya rfl,trivial⟩ (J6a (cs:=[.np 0,.ref 2]) (ds:=[.np 0,.ref 6]) rfl ⟨rn_np rfl,Q9a rfl,trivial⟩ (rw_dead rfl (rw_ar rfl rfl (Qna))))⟩
  refine T.exit ?_
  obtain ⟨w_6,h,hw_6⟩:=Qva h
  replace h:=h.trans (congrArg some (hv_4 _ hw_6))
  refine exN (Qwb ?_)
  exact ret_norm (v:=.tup []) (aw1:=[.boxB 85 [.np 0,.ref 2],.dead,aR 5 1 enc8 s4]) (.tup []) [0,1,2] rfl (by decide) (by decide) (rn_tup trivial) (J6a (cs:=[.np 0,.ref 2]) (ds:=[.np 0,.ref 2]) rfl ⟨rn_np rfl,Q9a rfl,trivial⟩ (rw_dead rfl (J4a rfl Zfa (congrArg (fun r:List Int=>r) (Option.some.inj h)).symm (Qna)))) ⟨rfl,rfl⟩
theorem bld_String_c (p0:List Int) (r:List UInt8) (h:bld_String p0=some r):FnX Tryz.prog 39 [.ptr 0 0] [.boxB 85 [.np 0,.ref 1],aR 5 1 enc8 p0] (.str r) [.dead,.dead]:=string_fn p0 r h
end Go.Proofs.YtchmpaaofmihcaaGreat
namespace Go.Proofs.YtchmpaaofmihcaaGreat
open Go.RowKit
set_option maxRecDepth 100000
set_option maxHeartbeats 4000000
theorem fnTD {P:Program} {aw:List Ob} {f:FuncId} {fn:Func} {c:Code} {args:List AV} {Q:AV→List Ob→Prop} {m:Nat} (N:Nat) (hf:P.funcs[f]?=some fn) (hm:fn.ntmps=m) (h:iniC 0 args fun l=>TD P N c (retQ P fn N Q) (mkA m l) aw)
    (hb:fn.body=some c:=by rfl) (hN:aw.length=N:=by rfl) (hname:(fn.name == "runtime.NumGoroutine")=false:=by kernel_rfl) (hl:Nat.ble args.length m=true:=by rfl):ACalls P f args aw Q :=
  fn_of_TD hN hf hb hname hm hl (iniC_ok (K:=fun l=>TD P N c (retQ P fn N Q) (mkA m l) aw) h)
theorem catch_idle (p q:Value) (w:World) :
    CallsD Tryz.prog 41 #[p,q] .returning w fun e u' w'=>(∃ v,e=.returned v)∧u'=.returning∧w'=w:=by
  refine callsD_of_wpS Tryz.func41 rfl fun c₀ cs hu=>?_
  apply wpS_seq
  apply wpS_region
  simp [wpOpsS,go_sem,recoverD,hu,Tryz.ntmps41,Exit.thenS]
  apply wpS_seq
  apply wpS_region
  simp [wpOpsS,go_sem,Exit.thenS]
  refine wpS_cond (t:=false) (by simp [Act.eval,Array.replicate]) ?_
  simp only [Bool.false_eq_true,if_false]
  refine wpS_of_wp (wp_skip ?_)
  cases c₀
  simp_all [bodyPostS,results,Tryz.results41]
theorem idleF:IdleF Tryz.prog 41 2:=fun cvs h=>by
  match cvs,h with
  | [p,q],_ =>
    exact ⟨.func 41,#[p,q],41,#[p,q],rfl,fun w=>callable Tryz.func41 rfl (by kernel_rfl) _ w,fun w=>catch_idle p q w⟩
end Go.Proofs.YtchmpaaofmihcaaGreat
namespace Go.Proofs.YtchmpaaofmihcaaGreat
open Go.RowKit
set_option linter.unusedVariables false
set_option linter.unusedSimpArgs false
set_option maxRecDepth 100000
set_option maxHeartbeats 4000000
set_option synthInstance.maxSize 100000
set_option synthInstance.maxHeartbeats 4000000
theorem save_Bytes_c (p0:Net) (p1:List (List Item)) (p2:State) (r:(List UInt8) × Int) (h:save_Bytes p0 p1 p2=some r):Fn Tryz.prog 16 [.agg (Jfa p0),sL (encL Qaa) p1,.agg (Qxa p2)] (.tup [.str r.1,iI r.2]):=by
  unfold save_Bytes at h
  refine fnT 0 Tryz.func16 Tryz.ntmps16 ?_
  refine T.seq (T.region (go 4 0 (RS.nil (T.seq (T.seq ?_)))))
  obtain ⟨x2,hx2,h⟩:=bind_some h
  refine T.region (go 3 2 (sO (cF (move_Check_c p0 p1 p2 x2 hx2) ⟨rfl,(go 1 2 (RS.nil (T.seq (T.region (go 2 2 (RS.nil (T.ci h rfl (fun hb_1 h=>?_) (fun hb_1 h=>?_))))))))⟩)))
  ·refine T.seq (T.region (go 3 2 (RS.nil ?_)))
   cases h
   exact tD
  refine T.skip (T.seq (T.region (go 1 2 (sO (o_boxW (e:=5) (z:=1) rfl rfl rfl (go 1 4 (RS.nil (T.seq ?_))))))))
  obtain ⟨x4,hx4,h⟩:=bind_some h
  refine T.region (go 3 4 (sQ (Qka Ty.s49 rfl (sO (Q6a (ac:=[.ptr 2 0,iI ((p2.At).length:Int)]) (as0:=[.ptr 0 0,iI ((p2.At).length:Int)]) (aw0:=[.boxB 85 [.np 0,.ref 1],aR 5 1 enc8 ([]:List Int)]) (aw1:=[.boxB 85 [.np 0,.ref 2],.dead,aR 5 1 enc8 x4]) (aw2:=[.box (Jfa p0),.box (Qxa p2),.boxB 85 [.np 2,.ref 4],.dead,aR 5 1 enc8 x4]) (v:=.tup []) (v':=.tup []) (n0:=4) (n1:=3) [2,3] rfl rfl rfl rfl (by decide) (J6a (cs:=[.np 0,.ref 1]) (ds:=[.np 2,.ref 3]) rfl ⟨rn_np rfl,Q9a rfl,trivial⟩ (J4a rfl Zfa rfl (Qna))) ⟨Qla rfl,Qya rfl,trivial⟩ (Qza ((p2.At).length:Int) ([]:List Int) x4 hx4) rfl (Qib (cs:=[]) (ds:=[]) trivial) ⟨.inr ⟨rfl,rfl⟩,.inr ⟨rfl,rfl⟩,.inl ⟨0,_,by decide,rfl,Vna (cs:=[.np 2,.ref 4]) (ds:=[.np 0,.ref 2]) ⟨rm_np (by decide),J2a (by decide),trivial⟩⟩,.inl ⟨1,_,by decide,rfl,trivial⟩,.inl ⟨2,_,by decide,rfl,Jna Zfa⟩,trivial⟩ (RS.nil (T.seq (T.seq (T.region (go 2 5 (sQ (Qka Ty.s49 rfl ?_))))))))))))
  refine go 1 5 (RS.nil (T.block (T.iter (fun ss_4:Int × (List Int)=>mkA 132 [(5,.ptr 0 0),(9,.ptr 1 0),(35,sL encI p2.At),(36,iI ((p2.At).length:Int)),(37,iI ss_4.1)]) (fun ss_4=>[.box (Qxa p2),.boxB 85 [.np 1,.ref 2],aR 5 1 enc8 ss_4.2]) h (Weak.mkN [] [1,2,4] (by decide) (Qra _) rfl ⟨Qla rfl,Qla rfl,rn_s rfl,Qya rfl,Qya rfl,trivial⟩ (rw_bs (Qxa p2) rfl (J6a (cs:=[.np 1,.ref 2]) (ds:=[.np 2,.ref 4]) rfl ⟨rn_np rfl,Q9a rfl,trivial⟩ (rw_ar rfl rfl (Qna))))) (fun ss_4 v_5 h hv_5=>?_))))
  obtain ⟨s5,s6⟩:=ss_4
  replace h:Q2b p2 s5 s6=some v_5:=h
  try dsimp only
  unfold Q2b at h
  refine T.seq (T.region (go 1 3 (RS.nil (T.seq (T.ci h rfl (fun hb_6 h=>?_) (fun hb_6 h=>?_))))))
  ·refine T.skip (T.seq (T.block (T.seq ?_)))
   obtain ⟨x8,hx8,h⟩:=bind_some h
   refine T.region (sQ (Qja Ty.s49 (fun _=>rfl) rfl rfl hx8 (go 2 3 (RS.nil ?_))))
   obtain ⟨x9,hx9,h⟩:=bind_some h
   refine T.region (go 2 3 (sO (Q6a (ac:=[.ptr 1 0,iI x8]) (as0:=[.ptr 0 0,iI x8]) (aw0:=[.boxB 85 [.np 0,.ref 1],aR 5 1 enc8 s6]) (aw1:=[.boxB 85 [.np 0,.ref 2],.dead,aR 5 1 enc8 x9]) (aw2:=[.box (Qxa p2),.boxB 85 [.np 1,.ref 3],.dead,aR 5 1 enc8 x9]) (v:=.tup []) (v':=.tup []) (n0:=3) (n1:=3) [1,2] rfl rfl rfl rfl (by decide) (J6a (cs:=[.np 0,.ref 1]) (ds:=[.np 1,.ref 2]) rfl ⟨rn_np rfl,Q9a rfl,trivial⟩ (J4a rfl Zfa rfl (Qna))) ⟨Qla rfl,Qya rfl,trivial⟩ (Qza x8 s6 x9 hx9) rfl (Qib (cs:=[]) (ds:=[]) trivial) ⟨.inr ⟨rfl,rfl⟩,.inl ⟨0,_,by decide,rfl,Vna (cs:=[.np 1,.ref 3]) (ds:=[.np 0,.ref 2]) ⟨rm_np (by decide),J2a (by decide),trivial⟩⟩,.inl ⟨1,_,by decide,rfl,trivial⟩,.inl ⟨2,_,by decide,rfl,Jna Zfa⟩,trivial⟩ (RS.nil (T.region (go 2 4 (RS.nil ?_)))))))
   exact ⟨(IntKind.i64.wrap (s5+1),x9),(Option.some.inj h).symm,Weak.mkN [] [0,1,3] (by decide) (Qra _) rfl ⟨Qla rfl,Qla rfl,rn_s rfl,Qya rfl,Qya rfl,trivial⟩ (rw_bs (Qxa p2) rfl (J6a (cs:=[.np 1,.ref 2]) (ds:=[.np 1,.ref 3]) rfl ⟨rn_np rfl,Q9a rfl,trivial⟩ (rw_ar rfl rfl (Qna))))⟩
  refine T.exit ?_
  obtain ⟨w_7,h,hw_7⟩:=Qva h
  replace h:=h.trans (congrArg some (hv_5 _ hw_7))
  refine T.seq ?_
  obtain ⟨x11,hx11,h⟩:=bind_some h
  refine T.region (go 3 3 (sQ (Qka Ty.s48 rfl (sO (Q6a (ac:=[.ptr 1 0,iI ((p2.Rings).length:Int)]) (as0:=[.ptr 0 0,iI ((p2.Rings).length:Int)]) (aw0:=[.boxB 85 [.np 0,.ref 1],aR 5 1 enc8 s6]) (aw1:=[.boxB 85 [.np 0,.ref 2],.dead,aR 5 1 enc8 x11]) (aw2:=[.box (Qxa p2),.boxB 85 [.np 1,.ref 3],.dead,aR 5 1 enc8 x11]) (v:=.tup []) (v':=.tup []) (n0:=3) (n1:=3) [1,2] rfl rfl rfl rfl (by decide) (J6a (cs:=[.np 0,.ref 1]) (ds:=[.np 1,.ref 2]) rfl ⟨rn_np rfl,Q9a rfl,trivial⟩ (J4a rfl Zfa rfl (Qna))) ⟨Qla rfl,Qya rfl,trivial⟩ (Qza ((p2.Rings).length:Int) s6 x11 hx11) rfl (Qib (cs:=[]) (ds:=[]) trivial) ⟨.inr ⟨rfl,rfl⟩,.inl ⟨0,_,by decide,rfl,Vna (cs:=[.np 1,.ref 3]) (ds:=[.np 0,.ref 2]) ⟨rm_np (by decide),J2a (by decide),trivial⟩⟩,.inl ⟨1,_,by decide,rfl,trivial⟩,.inl ⟨2,_,by decide,rfl,Jna Zfa⟩,trivial⟩ (RS.nil (T.seq (T.seq (T.region (go 2 4 (sQ (Qka Ty.s48 rfl ?_))))))))))))
  refine go 1 4 (RS.nil (T.block (T.iter (fun ss_10:Int × (List Int)=>mkA 132 [(5,.ptr 0 0),(9,.ptr 1 0),(51,sL (encL Qaa) p2.Rings),(52,iI ((p2.Rings).length:Int)),(53,iI ss_10.1)]) (fun ss_10=>[.box (Qxa p2),.boxB 85 [.np 1,.ref 2],aR 5 1 enc8 ss_10.2]) h (Weak.mkN [] [0,1,3] (by decide) (Qra _) rfl ⟨Qla rfl,Qla rfl,rn_s rfl,Qya rfl,Qya rfl,trivial⟩ (rw_bs (Qxa p2) rfl (J6a (cs:=[.np 1,.ref 2]) (ds:=[.np 1,.ref 3]) rfl ⟨rn_np rfl,Q9a rfl,trivial⟩ (rw_ar rfl rfl (Qna))))) (fun ss_10 v_11 h hv_11=>?_))))
  obtain ⟨s12,s13⟩:=ss_10
  replace h:Q6b p2 s12 s13=some v_11:=h
  try dsimp only
  unfold Q6b at h
  refine T.seq (T.region (go 1 3 (RS.nil (T.seq (T.ci h rfl (fun hb_12 h=>?_) (fun hb_12 h=>?_))))))
  ·refine T.skip (T.seq (T.block (T.seq ?_)))
   obtain ⟨x15,hx15,h⟩:=bind_some h
   refine T.region (sQ (Qja Ty.s48 (fun _=>rfl) rfl rfl hx15 (go 2 3 (RS.nil ?_))))
   obtain ⟨x16,hx16,h⟩:=bind_some h
   refine T.region (go 2 3 (sO (Q6a (ac:=[.ptr 1 0,sL Qaa x15]) (as0:=[.ptr 0 0,sL Qaa x15]) (aw0:=[.boxB 85 [.np 0,.ref 1],aR 5 1 enc8 s13]) (aw1:=[.boxB 85 [.np 0,.ref 2],.dead,aR 5 1 enc8 x16]) (aw2:=[.box (Qxa p2),.boxB 85 [.np 1,.ref 3],.dead,aR 5 1 enc8 x16]) (v:=.tup []) (v':=.tup []) (n0:=3) (n1:=3) [1,2] rfl rfl rfl rfl (by decide) (J6a (cs:=[.np 0,.ref 1]) (ds:=[.np 1,.ref 2]) rfl ⟨rn_np rfl,Q9a rfl,trivial⟩ (J4a rfl Zfa rfl (Qna))) ⟨Qla rfl,rn_s rfl,trivial⟩ (Jdb x15 s13 x16 hx16) rfl (Qib (cs:=[]) (ds:=[]) trivial) ⟨.inr ⟨rfl,rfl⟩,.inl ⟨0,_,by decide,rfl,Vna (cs:=[.np 1,.ref 3]) (ds:=[.np 0,.ref 2]) ⟨rm_np (by decide),J2a (by decide),trivial⟩⟩,.inl ⟨1,_,by decide,rfl,trivial⟩,.inl ⟨2,_,by decide,rfl,Jna Zfa⟩,trivial⟩ (RS.nil (T.region (go 2 4 (RS.nil ?_)))))))
   exact ⟨(IntKind.i64.wrap (s12+1),x16),(Option.some.inj h).symm,Weak.mkN [] [0,1,3] (by decide) (Qra _) rfl ⟨Qla rfl,Qla rfl,rn_s rfl,Qya rfl,Qya rfl,trivial⟩ (rw_bs (Qxa p2) rfl (J6a (cs:=[.np 1,.ref 2]) (ds:=[.np 1,.ref 3]) rfl ⟨rn_np rfl,Q9a rfl,trivial⟩ (rw_ar rfl rfl (Qna))))⟩
  refine T.exit ?_
  obtain ⟨w_13,h,hw_13⟩:=Qva h
  replace h:=h.trans (congrArg some (hv_11 _ hw_13))
  refine T.seq ?_
  obtain ⟨x18,hx18,h⟩:=bind_some h
  refine T.region (go 3 3 (sQ (Qka Ty.s50 rfl (sO (Q6a (ac:=[.ptr 1 0,iI ((p2.Memory).length:Int)]) (as0:=[.ptr 0 0,iI ((p2.Memory).length:Int)]) (aw0:=[.boxB 85 [.np 0,.ref 1],aR 5 1 enc8 s13]) (aw1:=[.boxB 85 [.np 0,.ref 2],.dead,aR 5 1 enc8 x18]) (aw2:=[.box (Qxa p2),.boxB 85 [.np 1,.ref 3],.dead,aR 5 1 enc8 x18]) (v:=.tup []) (v':=.tup []) (n0:=3) (n1:=3) [1,2] rfl rfl rfl rfl (by decide) (J6a (cs:=[.np 0,.ref 1]) (ds:=[.np 1,.ref 2]) rfl ⟨rn_np rfl,Q9a rfl,trivial⟩ (J4a rfl Zfa rfl (Qna))) ⟨Qla rfl,Qya rfl,trivial⟩ (Qza ((p2.Memory).length:Int) s13 x18 hx18) rfl (Qib (cs:=[]) (ds:=[]) trivial) ⟨.inr ⟨rfl,rfl⟩,.inl ⟨0,_,by decide,rfl,Vna (cs:=[.np 1,.ref 3]) (ds:=[.np 0,.ref 2]) ⟨rm_np (by decide),J2a (by decide),trivial⟩⟩,.inl ⟨1,_,by decide,rfl,trivial⟩,.inl ⟨2,_,by decide,rfl,Jna Zfa⟩,trivial⟩ (RS.nil (T.seq (T.seq (T.region (go 2 4 (sQ (Qka Ty.s50 rfl ?_))))))))))))
  refine go 1 4 (RS.nil (T.block (T.iter (fun ss_28:Int × (List Int)=>mkA 132 [(5,.ptr 0 0),(9,.ptr 1 0),(67,sL Qda p2.Memory),(68,iI ((p2.Memory).length:Int)),(69,iI ss_28.1)]) (fun ss_28=>[.box (Qxa p2),.boxB 85 [.np 1,.ref 2],aR 5 1 enc8 ss_28.2]) h (Weak.mkN [] [0,1,3] (by decide) (Qra _) rfl ⟨Qla rfl,Qla rfl,rn_s rfl,Qya rfl,Qya rfl,trivial⟩ (rw_bs (Qxa p2) rfl (J6a (cs:=[.np 1,.ref 2]) (ds:=[.np 1,.ref 3]) rfl ⟨rn_np rfl,Q9a rfl,trivial⟩ (rw_ar rfl rfl (Qna))))) (fun ss_28 v_29 h hv_29=>?_))))
  obtain ⟨s19,s20⟩:=ss_28
  replace h:Q5b p2 s19 s20=some v_29:=h
  try dsimp only
  unfold Q5b at h
  refine T.seq (T.region (go 1 3 (RS.nil (T.seq (T.ci h rfl (fun hb_30 h=>?_) (fun hb_30 h=>?_))))))
  ·refine T.skip (T.seq (T.block (T.seq ?_)))
   obtain ⟨x22,hx22,h⟩:=bind_some h
   refine T.region (sQ (Qja Ty.s50 (fun _=>rfl) rfl rfl hx22 (go 3 3 (RS.nil (T.seq ?_)))))
   obtain ⟨x24,hx24,h⟩:=bind_some h
   refine T.region (go 3 4 (sO (Q6a (ac:=[.ptr 1 0,iI x22.Sum]) (as0:=[.ptr 0 0,iI x22.Sum]) (aw0:=[.boxB 85 [.np 0,.ref 1],aR 5 1 enc8 s20]) (aw1:=[.boxB 85 [.np 0,.ref 2],.dead,aR 5 1 enc8 x24]) (aw2:=[.box (Qxa p2),.boxB 85 [.np 1,.ref 4],.dead,.box (Qda x22),aR 5 1 enc8 x24]) (v:=.tup []) (v':=.tup []) (n0:=4) (n1:=3) [1,2] rfl rfl rfl rfl (by decide) (J6a (cs:=[.np 0,.ref 1]) (ds:=[.np 1,.ref 2]) rfl ⟨rn_np rfl,Q9a rfl,trivial⟩ (J4a rfl Zfa rfl (Qna))) ⟨Qla rfl,Qya rfl,trivial⟩ (Qza x22.Sum s20 x24 hx24) rfl (Qib (cs:=[]) (ds:=[]) trivial) ⟨.inr ⟨rfl,rfl⟩,.inl ⟨0,_,by decide,rfl,Vna (cs:=[.np 1,.ref 4]) (ds:=[.np 0,.ref 2]) ⟨rm_np (by decide),J2a (by decide),trivial⟩⟩,.inl ⟨1,_,by decide,rfl,trivial⟩,.inr ⟨rfl,rfl⟩,.inl ⟨2,_,by decide,rfl,Jna Zfa⟩,trivial⟩ (RS.nil (T.seq ?_)))))
   obtain ⟨x26,hx26,h⟩:=bind_some h
   refine T.region (go 3 5 (sO (Q6a (ac:=[.ptr 1 0,iI x22.Dep]) (as0:=[.ptr 0 0,iI x22.Dep]) (aw0:=[.boxB 85 [.np 0,.ref 1],aR 5 1 enc8 x24]) (aw1:=[.boxB 85 [.np 0,.ref 2],.dead,aR 5 1 enc8 x26]) (aw2:=[.box (Qxa p2),.boxB 85 [.np 1,.ref 5],.dead,.box (Qda x22),.dead,aR 5 1 enc8 x26]) (v:=.tup []) (v':=.tup []) (n0:=5) (n1:=3) [1,4] rfl rfl rfl rfl (by decide) (J6a (cs:=[.np 0,.ref 1]) (ds:=[.np 1,.ref 4]) rfl ⟨rn_np rfl,Q9a rfl,trivial⟩ (J4a rfl Zfa rfl (Qna))) ⟨Qla rfl,Qya rfl,trivial⟩ (Qza x22.Dep x24 x26 hx26) rfl (Qib (cs:=[]) (ds:=[]) trivial) ⟨.inr ⟨rfl,rfl⟩,.inl ⟨0,_,by decide,rfl,Vna (cs:=[.np 1,.ref 5]) (ds:=[.np 0,.ref 2]) ⟨rm_np (by decide),J2a (by decide),trivial⟩⟩,.inr ⟨rfl,rfl⟩,.inr ⟨rfl,rfl⟩,.inl ⟨1,_,by decide,rfl,trivial⟩,.inl ⟨2,_,by decide,rfl,Jna Zfa⟩,trivial⟩ (RS.nil (T.seq ?_)))))
   obtain ⟨x28,hx28,h⟩:=bind_some h
   refine T.region (go 3 6 (sQ (Qka Ty.s88 rfl (sO (Q6a (ac:=[.ptr 1 0,iI ((x22.Keys).length:Int)]) (as0:=[.ptr 0 0,iI ((x22.Keys).length:Int)]) (aw0:=[.boxB 85 [.np 0,.ref 1],aR 5 1 enc8 x26]) (aw1:=[.boxB 85 [.np 0,.ref 2],.dead,aR 5 1 enc8 x28]) (aw2:=[.box (Qxa p2),.boxB 85 [.np 1,.ref 6],.dead,.box (Qda x22),.dead,.dead,aR 5 1 enc8 x28]) (v:=.tup []) (v':=.tup []) (n0:=6) (n1:=3) [1,5] rfl rfl rfl rfl (by decide) (J6a (cs:=[.np 0,.ref 1]) (ds:=[.np 1,.ref 5]) rfl ⟨rn_np rfl,Q9a rfl,trivial⟩ (J4a rfl Zfa rfl (Qna))) ⟨Qla rfl,Qya rfl,trivial⟩ (Qza ((x22.Keys).length:Int) x26 x28 hx28) rfl (Qib (cs:=[]) (ds:=[]) trivial) ⟨.inr ⟨rfl,rfl⟩,.inl ⟨0,_,by decide,rfl,Vna (cs:=[.np 1,.ref 6]) (ds:=[.np 0,.ref 2]) ⟨rm_np (by decide),J2a (by decide),trivial⟩⟩,.inr ⟨rfl,rfl⟩,.inr ⟨rfl,rfl⟩,.inr ⟨rfl,rfl⟩,.inl ⟨1,_,by decide,rfl,trivial⟩,.inl ⟨2,_,by decide,rfl,Jna Zfa⟩,trivial⟩ (RS.nil (T.seq (T.region (go 2 7 (sQ (Qka Ty.s88 rfl (go 1 7 ?_))))))))))))
   refine RS.nil (T.block (T.iter (fun ss_33:Int × (List Int)=>mkA 132 [(5,.ptr 0 0),(9,.ptr 1 0),(67,sL Qda p2.Memory),(68,iI ((p2.Memory).length:Int)),(69,iI s19),(87,sL Qqa x22.Keys),(88,iI ((x22.Keys).length:Int)),(89,iI ss_33.1)]) (fun ss_33=>[.box (Qxa p2),.boxB 85 [.np 1,.ref 2],aR 5 1 enc8 ss_33.2]) h (Weak.mkN [] [0,1,6] (by decide) (Qra _) rfl ⟨Qla rfl,Qla rfl,rn_s rfl,Qya rfl,Qya rfl,rn_s rfl,Qya rfl,Qya rfl,trivial⟩ (rw_bs (Qxa p2) rfl (J6a (cs:=[.np 1,.ref 2]) (ds:=[.np 1,.ref 6]) rfl ⟨rn_np rfl,Q9a rfl,trivial⟩ (rw_ar rfl rfl (Qna))))) (fun ss_33 v_34 h hv_34=>?_)))
   obtain ⟨s29,s30⟩:=ss_33
   replace h:save_Bytes_l1 s19 x22 s29 s30=some v_34:=h
   try dsimp only
   unfold save_Bytes_l1 at h
   refine T.seq (T.region (go 1 3 (RS.nil (T.seq (T.ci h rfl (fun hb_35 h=>?_) (fun hb_35 h=>?_))))))
   ·refine T.skip (T.seq (T.block (T.seq ?_)))
    obtain ⟨x32,hx32,h⟩:=bind_some h
    refine T.region (sQ (Qja Ty.s88 (fun _=>rfl) rfl rfl hx32 (go 3 3 (RS.nil (T.seq ?_)))))
    obtain ⟨x34,hx34,h⟩:=bind_some h
    refine T.region (go 3 4 (sO (Q6a (ac:=[.ptr 1 0,iI x32.Key]) (as0:=[.ptr 0 0,iI x32.Key]) (aw0:=[.boxB 85 [.np 0,.ref 1],aR 5 1 enc8 s30]) (aw1:=[.boxB 85 [.np 0,.ref 2],.dead,aR 5 1 enc8 x34]) (aw2:=[.box (Qxa p2),.boxB 85 [.np 1,.ref 4],.dead,.box (Qqa x32),aR 5 1 enc8 x34]) (v:=.tup []) (v':=.tup []) (n0:=4) (n1:=3) [1,2] rfl rfl rfl rfl (by decide) (J6a (cs:=[.np 0,.ref 1]) (ds:=[.np 1,.ref 2]) rfl ⟨rn_np rfl,Q9a rfl,trivial⟩ (J4a rfl Zfa rfl (Qna))) ⟨Qla rfl,Qya rfl,trivial⟩ (Qza x32.Key s30 x34 hx34) rfl (Qib (cs:=[]) (ds:=[]) trivial) ⟨.inr ⟨rfl,rfl⟩,.inl ⟨0,_,by decide,rfl,Vna (cs:=[.np 1,.ref 4]) (ds:=[.np 0,.ref 2]) ⟨rm_np (by decide),J2a (by decide),trivial⟩⟩,.inl ⟨1,_,by decide,rfl,trivial⟩,.inr ⟨rfl,rfl⟩,.inl ⟨2,_,by decide,rfl,Jna Zfa⟩,trivial⟩ (RS.nil ?_))))
    obtain ⟨x35,hx35,h⟩:=bind_some h
    refine T.region (go 3 5 (sO (Q6a (ac:=[.ptr 1 0,iI x32.N]) (as0:=[.ptr 0 0,iI x32.N]) (aw0:=[.boxB 85 [.np 0,.ref 1],aR 5 1 enc8 x34]) (aw1:=[.boxB 85 [.np 0,.ref 2],.dead,aR 5 1 enc8 x35]) (aw2:=[.box (Qxa p2),.boxB 85 [.np 1,.ref 5],.dead,.box (Qqa x32),.dead,aR 5 1 enc8 x35]) (v:=.tup []) (v':=.tup []) (n0:=5) (n1:=3) [1,4] rfl rfl rfl rfl (by decide) (J6a (cs:=[.np 0,.ref 1]) (ds:=[.np 1,.ref 4]) rfl ⟨rn_np rfl,Q9a rfl,trivial⟩ (J4a rfl Zfa rfl (Qna))) ⟨Qla rfl,Qya rfl,trivial⟩ (Qza x32.N x34 x35 hx35) rfl (Qib (cs:=[]) (ds:=[]) trivial) ⟨.inr ⟨rfl,rfl⟩,.inl ⟨0,_,by decide,rfl,Vna (cs:=[.np 1,.ref 5]) (ds:=[.np 0,.ref 2]) ⟨rm_np (by decide),J2a (by decide),trivial⟩⟩,.inr ⟨rfl,rfl⟩,.inr ⟨rfl,rfl⟩,.inl ⟨1,_,by decide,rfl,trivial⟩,.inl ⟨2,_,by decide,rfl,Jna Zfa⟩,trivial⟩ (RS.nil (T.region (go 2 6 (RS.nil ?_)))))))
    exact ⟨(IntKind.i64.wrap (s29+1),x35),(Option.some.inj h).symm,Weak.mkN [] [0,1,5] (by decide) (Qra _) rfl ⟨Qla rfl,Qla rfl,rn_s rfl,Qya rfl,Qya rfl,rn_s rfl,Qya rfl,Qya rfl,trivial⟩ (rw_bs (Qxa p2) rfl (J6a (cs:=[.np 1,.ref 2]) (ds:=[.np 1,.ref 5]) rfl ⟨rn_np rfl,Q9a rfl,trivial⟩ (rw_ar rfl rfl (Qna))))⟩
   refine T.exit ?_
   obtain ⟨w_36,h,hw_36⟩:=Qva h
   replace h:=h.trans (congrArg some (hv_34 _ hw_36))
   refine T.region (go 2 3 (RS.nil ?_))
   exact ⟨(IntKind.i64.wrap (s19+1),s30),(Option.some.inj h).symm,Weak.mkN [] [0,1,2] (by decide) (Qra _) rfl ⟨Qla rfl,Qla rfl,rn_s rfl,Qya rfl,Qya rfl,trivial⟩ (rw_bs (Qxa p2) rfl (J6a (cs:=[.np 1,.ref 2]) (ds:=[.np 1,.ref 2]) rfl ⟨rn_np rfl,Q9a rfl,trivial⟩ (rw_ar rfl rfl (Qna))))⟩
  refine T.exit ?_
  obtain ⟨w_37,h,hw_37⟩:=Qva h
  replace h:=h.trans (congrArg some (hv_29 _ hw_37))
  refine T.seq ?_
  obtain ⟨x37,hx37,h⟩:=bind_some h
  refine T.region (go 3 3 (sQ (Qka Ty.s51 rfl (sO (Q6a (ac:=[.ptr 1 0,iI ((p2.Choices).length:Int)]) (as0:=[.ptr 0 0,iI ((p2.Choices).length:Int)]) (aw0:=[.boxB 85 [.np 0,.ref 1],aR 5 1 enc8 s20]) (aw1:=[.boxB 85 [.np 0,.ref 2],.dead,aR 5 1 enc8 x37]) (aw2:=[.box (Qxa p2),.boxB 85 [.np 1,.ref 3],.dead,aR 5 1 enc8 x37]) (v:=.tup []) (v':=.tup []) (n0:=3) (n1:=3) [1,2] rfl rfl rfl rfl (by decide) (J6a (cs:=[.np 0,.ref 1]) (ds:=[.np 1,.ref 2]) rfl ⟨rn_np rfl,Q9a rfl,trivial⟩ (J4a rfl Zfa rfl (Qna))) ⟨Qla rfl,Qya rfl,trivial⟩ (Qza ((p2.Choices).length:Int) s20 x37 hx37) rfl (Qib (cs:=[]) (ds:=[]) trivial) ⟨.inr ⟨rfl,rfl⟩,.inl ⟨0,_,by decide,rfl,Vna (cs:=[.np 1,.ref 3]) (ds:=[.np 0,.ref 2]) ⟨rm_np (by decide),J2a (by decide),trivial⟩⟩,.inl ⟨1,_,by decide,rfl,trivial⟩,.inl ⟨2,_,by decide,rfl,Jna Zfa⟩,trivial⟩ (RS.nil (T.seq (T.seq (T.region (go 2 4 (sQ (Qka Ty.s51 rfl ?_))))))))))))
  refine go 1 4 (RS.nil (T.block (T.iter (fun ss_40:Int × (List Int)=>mkA 132 [(5,.ptr 0 0),(9,.ptr 1 0),(109,sL Qia p2.Choices),(110,iI ((p2.Choices).length:Int)),(111,iI ss_40.1)]) (fun ss_40=>[.box (Qxa p2),.boxB 85 [.np 1,.ref 2],aR 5 1 enc8 ss_40.2]) h (Weak.mkN [] [0,1,3] (by decide) (Qra _) rfl ⟨Qla rfl,Qla rfl,rn_s rfl,Qya rfl,Qya rfl,trivial⟩ (rw_bs (Qxa p2) rfl (J6a (cs:=[.np 1,.ref 2]) (ds:=[.np 1,.ref 3]) rfl ⟨rn_np rfl,Q9a rfl,trivial⟩ (rw_ar rfl rfl (Qna))))) (fun ss_40 v_41 h hv_41=>?_))))
  obtain ⟨s38,s39⟩:=ss_40
  replace h:Q4b p2 s38 s39=some v_41:=h
  try dsimp only
  unfold Q4b at h
  refine T.seq (T.region (go 1 3 (RS.nil (T.seq (T.ci h rfl (fun hb_42 h=>?_) (fun hb_42 h=>?_))))))
  ·refine T.skip (T.seq (T.block (T.seq ?_)))
   obtain ⟨x41,hx41,h⟩:=bind_some h
   refine T.region (sQ (Qja Ty.s51 (fun _=>rfl) rfl rfl hx41 (go 3 3 (RS.nil (T.seq ?_)))))
   obtain ⟨x43,hx43,h⟩:=bind_some h
   refine T.region (go 3 4 (sO (Q6a (ac:=[.ptr 1 0,iI x41.Node]) (as0:=[.ptr 0 0,iI x41.Node]) (aw0:=[.boxB 85 [.np 0,.ref 1],aR 5 1 enc8 s39]) (aw1:=[.boxB 85 [.np 0,.ref 2],.dead,aR 5 1 enc8 x43]) (aw2:=[.box (Qxa p2),.boxB 85 [.np 1,.ref 4],.dead,.box (Qia x41),aR 5 1 enc8 x43]) (v:=.tup []) (v':=.tup []) (n0:=4) (n1:=3) [1,2] rfl rfl rfl rfl (by decide) (J6a (cs:=[.np 0,.ref 1]) (ds:=[.np 1,.ref 2]) rfl ⟨rn_np rfl,Q9a rfl,trivial⟩ (J4a rfl Zfa rfl (Qna))) ⟨Qla rfl,Qya rfl,trivial⟩ (Qza x41.Node s39 x43 hx43) rfl (Qib (cs:=[]) (ds:=[]) trivial) ⟨.inr ⟨rfl,rfl⟩,.inl ⟨0,_,by decide,rfl,Vna (cs:=[.np 1,.ref 4]) (ds:=[.np 0,.ref 2]) ⟨rm_np (by decide),J2a (by decide),trivial⟩⟩,.inl ⟨1,_,by decide,rfl,trivial⟩,.inr ⟨rfl,rfl⟩,.inl ⟨2,_,by decide,rfl,Jna Zfa⟩,trivial⟩ (RS.nil ?_))))
   obtain ⟨x44,hx44,h⟩:=bind_some h
   refine T.region (go 3 5 (sO (Q6a (ac:=[.ptr 1 0,iI x41.Lane]) (as0:=[.ptr 0 0,iI x41.Lane]) (aw0:=[.boxB 85 [.np 0,.ref 1],aR 5 1 enc8 x43]) (aw1:=[.boxB 85 [.np 0,.ref 2],.dead,aR 5 1 enc8 x44]) (aw2:=[.box (Qxa p2),.boxB 85 [.np 1,.ref 5],.dead,.box (Qia x41),.dead,aR 5 1 enc8 x44]) (v:=.tup []) (v':=.tup []) (n0:=5) (n1:=3) [1,4] rfl rfl rfl rfl (by decide) (J6a (cs:=[.np 0,.ref 1]) (ds:=[.np 1,.ref 4]) rfl ⟨rn_np rfl,Q9a rfl,trivial⟩ (J4a rfl Zfa rfl (Qna))) ⟨Qla rfl,Qya rfl,trivial⟩ (Qza x41.Lane x43 x44 hx44) rfl (Qib (cs:=[]) (ds:=[]) trivial) ⟨.inr ⟨rfl,rfl⟩,.inl ⟨0,_,by decide,rfl,Vna (cs:=[.np 1,.ref 5]) (ds:=[.np 0,.ref 2]) ⟨rm_np (by decide),J2a (by decide),trivial⟩⟩,.inr ⟨rfl,rfl⟩,.inr ⟨rfl,rfl⟩,.inl ⟨1,_,by decide,rfl,trivial⟩,.inl ⟨2,_,by decide,rfl,Jna Zfa⟩,trivial⟩ (RS.nil (T.region (go 2 6 (RS.nil ?_)))))))
   exact ⟨(IntKind.i64.wrap (s38+1),x44),(Option.some.inj h).symm,Weak.mkN [] [0,1,5] (by decide) (Qra _) rfl ⟨Qla rfl,Qla rfl,rn_s rfl,Qya rfl,Qya rfl,trivial⟩ (rw_bs (Qxa p2) rfl (J6a (cs:=[.np 1,.ref 2]) (ds:=[.np 1,.ref 5]) rfl ⟨rn_np rfl,Q9a rfl,trivial⟩ (rw_ar rfl rfl (Qna))))⟩
  refine T.exit ?_
  obtain ⟨w_43,h,hw_43⟩:=Qva h
  replace h:=h.trans (congrArg some (hv_41 _ hw_43))
  refine T.seq ?_
  obtain ⟨x46,hx46,h⟩:=bind_some h
  refine T.region (go 3 3 (sO (Q6a (ac:=[.ptr 1 0,sL Qaa p2.Out]) (as0:=[.ptr 0 0,sL Qaa p2.Out]) (aw0:=[.boxB 85 [.np 0,.ref 1],aR 5 1 enc8 s39]) (aw1:=[.boxB 85 [.np 0,.ref 2],.dead,aR 5 1 enc8 x46]) (aw2:=[.box (Qxa p2),.boxB 85 [.np 1,.ref 3],.dead,aR 5 1 enc8 x46]) (v:=.tup []) (v':=.tup []) (n0:=3) (n1:=3) [1,2] rfl rfl rfl rfl (by decide) (J6a (cs:=[.np 0,.ref 1]) (ds:=[.np 1,.ref 2]) rfl ⟨rn_np rfl,Q9a rfl,trivial⟩ (J4a rfl Zfa rfl (Qna))) ⟨Qla rfl,rn_s rfl,trivial⟩ (Jdb p2.Out s39 x46 hx46) rfl (Qib (cs:=[]) (ds:=[]) trivial) ⟨.inr ⟨rfl,rfl⟩,.inl ⟨0,_,by decide,rfl,Vna (cs:=[.np 1,.ref 3]) (ds:=[.np 0,.ref 2]) ⟨rm_np (by decide),J2a (by decide),trivial⟩⟩,.inl ⟨1,_,by decide,rfl,trivial⟩,.inl ⟨2,_,by decide,rfl,Jna Zfa⟩,trivial⟩ (RS.nil (T.seq ?_)))))
  obtain ⟨x48,hx48,h⟩:=bind_some h
  refine T.region (go 3 4 (sO (Q6a (ac:=[.ptr 1 0]) (as0:=[.ptr 0 0]) (aw0:=[.boxB 85 [.np 0,.ref 1],aR 5 1 enc8 x46]) (aw1:=[.dead,.dead]) (aw2:=[.box (Qxa p2),.dead,.dead,.dead]) (v:=.str x48) (v':=.str x48) (n0:=4) (n1:=2) [1,3] rfl rfl rfl rfl (by decide) (J6a (cs:=[.np 0,.ref 1]) (ds:=[.np 1,.ref 3]) rfl ⟨rn_np rfl,Q9a rfl,trivial⟩ (J4a rfl Zfa rfl (Qna))) ⟨Qla rfl,trivial⟩ (bld_String_c x46 x48 hx48) rfl (Qea (Jda _)) ⟨.inr ⟨rfl,rfl⟩,.inl ⟨0,_,by decide,rfl,trivial⟩,.inr ⟨rfl,rfl⟩,.inl ⟨1,_,by decide,rfl,trivial⟩,trivial⟩ (go 2 4 (RS.nil ?_)))))
  cases h
  exact tD
theorem Qma (p0:List UInt8) (r:Int × (List UInt8)) (h:Qta p0=some r):FnX Tryz.prog 43 [.ptr 0 0] [.box [.str p0]] (iI r.1) [.box [.str r.2]]:=by
  unfold Qta at h
  refine fnT 1 Tryz.func43 Tryz.ntmps43 ?_
  refine T.seq (T.region (go 1 1 (RS.nil (T.seq (T.region (go 1 1 (RS.nil (T.seq (T.seq ?_)))))))))
  refine T.region (go 7 1 (RS.nil (T.block (T.iter (fun ss_5:Int × Int=>mkA 55 [(0,.ptr 0 0),(2,iI 0),(3,.int .u64 ss_5.1),(10,iI (if ((p0).length:Int)<10 then ((p0).length:Int) else 10)),(11,iI ss_5.2)]) (fun ss_5=>[.box [.str p0]]) h (wk [] [0] 1 rfl) (fun ss_5 v_6 h hv_6=>?_)))))
  obtain ⟨s1,s2⟩:=ss_5
  replace h:Jma p0 s1 s2=some v_6:=h
  try dsimp only
  unfold Jma at h
  refine T.seq (T.region (go 1 1 (RS.nil (T.seq (T.ci h rfl (fun hb_7 h=>?_) (fun hb_7 h=>?_))))))
  ·refine T.skip (T.seq (T.block (T.seq (T.region (go 2 1 (RS.nil (T.seq ?_)))))))
   obtain ⟨x5,hx5,h⟩:=bind_some h
   obtain ⟨x6,hx6,h⟩:=bind_some h
   refine T.region (go 6 1 (sQ (Jaa Tryz.underlying9 rfl rfl hx5 (go 4 1 (sQ (v_shl rfl rfl hx6 (go 2 1 (RS.nil (T.seq ?_)))))))))
   obtain ⟨x8,hx8,h⟩:=bind_some h
   refine T.region (go 5 1 (sQ (Jaa Tryz.underlying9 rfl rfl hx8 (go 1 1 (RS.nil (T.ci h rfl (fun hb_8 h=>?_) (fun hb_8 h=>?_)))))))
   ·refine T.seq ?_
    obtain ⟨x10,hx10,h⟩:=bind_some h
    refine T.region (go 7 1 (sO (Y6a Tryz.underlying9 rfl rfl rfl hx10 (go 3 1 (RS.nil (T.seq ?_))))))
    obtain ⟨x12,hx12,h⟩:=bind_some h
    refine T.region (go 1 1 (sQ (v_shr rfl rfl hx12 (go 7 1 (RS.nil ?_)))))
    obtain ⟨w_9,h,hw_9⟩:=Qva h
    replace h:=h.trans (congrArg some (hv_6 _ hw_9))
    cases h
    exact tN [0]
   refine T.skip (T.region (go 2 1 (RS.nil ?_)))
   exact ⟨(ibits .or .u64 s1 x6,IntKind.i64.wrap (s2+1)),(Option.some.inj h).symm,wk [] [0] 1 rfl⟩
  refine T.exit ?_
  obtain ⟨w_10,h,hw_10⟩:=Qva h
  replace h:=h.trans (congrArg some (hv_6 _ hw_10))
  cases h
theorem save_list_int_x6121_c (p0:List UInt8) (r:(List Int) × (List UInt8)) (h:Yda p0=some r):FnX Tryz.prog 42 [.ptr 0 0,.bnd 43 [.ptr 0 0]] [.box [.str p0]] (.ref 1) [.box [.str r.2],aR 3 1 encI r.1]:=by
  unfold Yda at h
  refine fnT 1 Tryz.func42 Tryz.ntmps42 ?_
  refine T.seq (T.region (go 1 1 (RS.nil (T.seq ?_))))
  obtain ⟨x2,hx2,h⟩:=bind_some h
  refine T.region (go 1 1 (sO (Q6a (ac:=[.ptr 0 0]) (as0:=[.ptr 0 0]) (aw0:=[.box [.str p0]]) (aw1:=[.box [.str x2.2]]) (aw2:=[.box [.str x2.2]]) (v:=iI x2.1) (v':=iI x2.1) (n0:=1) (n1:=1) [0] rfl rfl rfl rfl (by decide) (Jba (cs:=[.str p0]) (ds:=[.str p0]) rfl ⟨J8a rfl,trivial⟩ (Qna)) ⟨Qla rfl,trivial⟩ (Qma p0 x2 hx2) rfl (Qea (Qwa _ _)) ⟨.inl ⟨0,_,by decide,rfl,Q7a (cs:=[.str x2.2]) (ds:=[.str x2.2]) ⟨Qea (Jda _),trivial⟩⟩,trivial⟩ (go 1 1 (RS.nil (T.seq (T.join (Z:=Unit) (fun _=>mkA 32 [(1,.bnd 43 [.ptr 0 0]),(5,iI x2.1),(19,.bool ((decide (x2.1<0)) || decide (x2.1 > ((x2.2).length:Int))))]) (fun _=>[.box [.str x2.2]]) (fun _=>True) (fun _ _=>?_) (fun hK=>?_))))))))
  ·refine T.ci h rfl (fun hb_2 h=>?_) (fun hb_2 h=>?_)
   ·cases h
   refine T.skip (T.seq (T.region (go 1 1 (RS.nil (T.seq (T.seq (T.region (go 2 1 (RS.nil ?_)))))))))
   refine T.block (T.iter (fun ss_5:Int × (List UInt8) × (List Int)=>mkA 32 [(1,.bnd 43 [.ptr 0 0]),(6,.ref 1),(22,iI x2.1),(23,iI ss_5.1)]) (fun ss_5=>[.box [.str ss_5.2.1],aR 3 1 encI ss_5.2.2]) h (wk [(6,3,1)] [0,1] 1 rfl) (fun ss_5 v_6 h hv_6=>?_))
   obtain ⟨s4,s5,s6⟩:=ss_5
   replace h:Zta x2 s4 s5 s6=some v_6:=h
   try dsimp only
   unfold Zta at h
   refine T.seq (T.region (go 1 2 (RS.nil (T.seq (T.ci h rfl (fun hb_7 h=>?_) (fun hb_7 h=>?_))))))
   ·refine T.skip (T.seq (T.block ?_))
    obtain ⟨x7,hx7,h⟩:=bind_some h
    obtain ⟨x8,hx8,h⟩:=bind_some h
    refine T.region (go 2 2 (sO (o_callFb (ac:=[.ptr 0 0]) (as0:=[.ptr 0 0]) (aw0:=[.box [.str s5]]) (aw1:=[.box [.str x7.2]]) (aw2:=[.box [.str x7.2],aR 3 1 encI s6]) (v:=iI x7.1) (v':=iI x7.1) (n0:=2) (n1:=1) [0] rfl rfl rfl rfl (by decide) (Jba (cs:=[.str s5]) (ds:=[.str s5]) rfl ⟨J8a rfl,trivial⟩ (Qna)) ⟨Qla rfl,trivial⟩ (Qma s5 x7 hx7) rfl (Qea (Qwa _ _)) ⟨.inl ⟨0,_,by decide,rfl,Q7a (cs:=[.str x7.2]) (ds:=[.str x7.2]) ⟨Qea (Jda _),trivial⟩⟩,.inr ⟨rfl,rfl⟩,trivial⟩ (sO (Qsa (rows:=List.map encI [x7.1]) (vs:=[iI x7.1]) Ty.s49 Ty.z3 rfl rfl rfl rfl rfl rfl (sO (Zva (en:=encI) (xs:=s6) (ys:=([x7.1]:List Int)) Ty.s49 (fun _=>rfl) rfl rfl rfl hx8 rfl rfl (go 1 4 (RS.nil (T.region (go 2 4 (RS.nil ?_))))))))))))
    exact ⟨(IntKind.i64.wrap (s4+1),x7.2,x8),(Option.some.inj h).symm,wk [] [0,3] 4 rfl⟩
   refine T.exit ?_
   obtain ⟨w_8,h,hw_8⟩:=Qva h
   replace h:=h.trans (congrArg some (hv_6 _ hw_8))
   refine T.seq (T.region (go 2 2 (RS.nil ?_)))
   cases h
   exact tO [] [0,1] 2
  refine T.region (go 3 1 ?_)
  rcases Qca (decide (x2.1<0)) with hb_1 | hb_1
  ·refine sN hb_1 (sN hb_1 (sN hb_1 (sN hb_1 (sN hb_1 (sN hb_1 (sN hb_1 (sQ (Qga (v:=.bool true) rfl hb_1 rfl (RS.nil ?_)))))))))
   exact T.sub (hK () trivial) ⟨rfl,rfl,(congrArg AV.bool (by simp only [hb_1,bz,if_true,if_false,Bool.false_eq_true])).symm,trivial⟩
  refine yg 1 hb_1 (yg 1 hb_1 (yg 1 hb_1 (yg 1 hb_1 (yg 1 hb_1 (yg 1 hb_1 (yg 1 hb_1 (sQ (Qba (v:=.bool (decide (x2.1 > ((x2.2).length:Int)))) rfl hb_1 rfl (RS.nil ?_)))))))))
  exact T.sub (hK () trivial) ⟨rfl,rfl,(congrArg AV.bool (by simp only [hb_1,bz,if_true,if_false,Bool.false_eq_true])).symm,trivial⟩
theorem save_reader_item_xd243_c (p0:List UInt8) (r:Item × (List UInt8)) (h:Via p0=some r):FnX Tryz.prog 77 [.ptr 0 0] [.box [.str p0]] (.agg (Qaa r.1)) [.box [.str r.2]]:=by
  unfold Via at h
  refine fnT 1 Tryz.func77 Tryz.ntmps77 ?_
  refine T.seq (T.region (go 1 1 (RS.nil (T.seq ?_))))
  obtain ⟨x4,hx4,h⟩:=bind_some h
  obtain ⟨x5,hx5,h⟩:=bind_some h
  obtain ⟨x6,hx6,h⟩:=bind_some h
  refine T.region (go 1 2 (sO (Q6a (ac:=[.ptr 0 0]) (as0:=[.ptr 0 0]) (aw0:=[.box [.str p0]]) (aw1:=[.box [.str x4.2]]) (aw2:=[.box [.str x4.2],.box [iI 0,iI 0,iI 0]]) (v:=iI x4.1) (v':=iI x4.1) (n0:=2) (n1:=1) [0] rfl rfl rfl rfl (by decide) (Jba (cs:=[.str p0]) (ds:=[.str p0]) rfl ⟨J8a rfl,trivial⟩ (Qna)) ⟨Qla rfl,trivial⟩ (Qma p0 x4 hx4) rfl (Qea (Qwa _ _)) ⟨.inl ⟨0,_,by decide,rfl,Q7a (cs:=[.str x4.2]) (ds:=[.str x4.2]) ⟨Qea (Jda _),trivial⟩⟩,.inr ⟨rfl,rfl⟩,trivial⟩ (go 1 2 (sO (Q6a (ac:=[.ptr 0 0]) (as0:=[.ptr 0 0]) (aw0:=[.box [.str x4.2]]) (aw1:=[.box [.str x5.2]]) (aw2:=[.box [.str x5.2],.box [iI 0,iI 0,iI 0]]) (v:=iI x5.1) (v':=iI x5.1) (n0:=2) (n1:=1) [0] rfl rfl rfl rfl (by decide) (Jba (cs:=[.str x4.2]) (ds:=[.str x4.2]) rfl ⟨J8a rfl,trivial⟩ (Qna)) ⟨Qla rfl,trivial⟩ (Qma x4.2 x5 hx5) rfl (Qea (Qwa _ _)) ⟨.inl ⟨0,_,by decide,rfl,Q7a (cs:=[.str x5.2]) (ds:=[.str x5.2]) ⟨Qea (Jda _),trivial⟩⟩,.inr ⟨rfl,rfl⟩,trivial⟩ (go 1 2 (sO (Q6a (ac:=[.ptr 0 0]) (as0:=[.ptr 0 0]) (aw0:=[.box [.str x5.2]]) (aw1:=[.box [.str x6.2]]) (aw2:=[.box [.str x6.2],.box [iI 0,iI 0,iI 0]]) (v:=iI x6.1) (v':=iI x6.1) (n0:=2) (n1:=1) [0] rfl rfl rfl rfl (by decide) (Jba (cs:=[.str x5.2]) (ds:=[.str x5.2]) rfl ⟨J8a rfl,trivial⟩ (Qna)) ⟨Qla rfl,trivial⟩ (Qma x5.2 x6 hx6) rfl (Qea (Qwa _ _)) ⟨.inl ⟨0,_,by decide,rfl,Q7a (cs:=[.str x6.2]) (ds:=[.str x6.2]) ⟨Qea (Jda _),trivial⟩⟩,.inr ⟨rfl,rfl⟩,trivial⟩ (go 2 2 (RS.nil ?_)))))))))))
  cases h
  exact tN [0]
theorem save_list_api_Item_xccb1_c (p0:List UInt8) (r:(List Item) × (List UInt8)) (h:Vua p0=some r):FnX Tryz.prog 76 [.ptr 0 0,.bnd 77 [.ptr 0 0]] [.box [.str p0]] (.ref 1) [.box [.str r.2],aR 115 3 Qaa r.1]:=by
  unfold Vua at h
  refine fnT 1 Tryz.func76 Tryz.ntmps76 ?_
  refine T.seq (T.region (go 1 1 (RS.nil (T.seq ?_))))
  obtain ⟨x2,hx2,h⟩:=bind_some h
  refine T.region (go 1 1 (sO (Q6a (ac:=[.ptr 0 0]) (as0:=[.ptr 0 0]) (aw0:=[.box [.str p0]]) (aw1:=[.box [.str x2.2]]) (aw2:=[.box [.str x2.2]]) (v:=iI x2.1) (v':=iI x2.1) (n0:=1) (n1:=1) [0] rfl rfl rfl rfl (by decide) (Jba (cs:=[.str p0]) (ds:=[.str p0]) rfl ⟨J8a rfl,trivial⟩ (Qna)) ⟨Qla rfl,trivial⟩ (Qma p0 x2 hx2) rfl (Qea (Qwa _ _)) ⟨.inl ⟨0,_,by decide,rfl,Q7a (cs:=[.str x2.2]) (ds:=[.str x2.2]) ⟨Qea (Jda _),trivial⟩⟩,trivial⟩ (go 1 1 (RS.nil (T.seq (T.join (Z:=Unit) (fun _=>mkA 32 [(1,.bnd 77 [.ptr 0 0]),(5,iI x2.1),(19,.bool ((decide (x2.1<0)) || decide (x2.1 > ((x2.2).length:Int))))]) (fun _=>[.box [.str x2.2]]) (fun _=>True) (fun _ _=>?_) (fun hK=>?_))))))))
  ·refine T.ci h rfl (fun hb_2 h=>?_) (fun hb_2 h=>?_)
   ·cases h
   refine T.skip (T.seq (T.region (go 1 1 (RS.nil (T.seq (T.seq (T.region (go 2 1 (RS.nil ?_)))))))))
   refine T.block (T.iter (fun ss_5:Int × (List UInt8) × (List Item)=>mkA 32 [(1,.bnd 77 [.ptr 0 0]),(6,.ref 1),(22,iI x2.1),(23,iI ss_5.1)]) (fun ss_5=>[.box [.str ss_5.2.1],aR 115 3 Qaa ss_5.2.2]) h (wk [(6,115,3)] [0,1] 1 rfl) (fun ss_5 v_6 h hv_6=>?_))
   obtain ⟨s4,s5,s6⟩:=ss_5
   replace h:J0a x2 s4 s5 s6=some v_6:=h
   try dsimp only
   unfold J0a at h
   refine T.seq (T.region (go 1 2 (RS.nil (T.seq (T.ci h rfl (fun hb_7 h=>?_) (fun hb_7 h=>?_))))))
   ·refine T.skip (T.seq (T.block ?_))
    obtain ⟨x7,hx7,h⟩:=bind_some h
    obtain ⟨x8,hx8,h⟩:=bind_some h
    refine T.region (go 2 2 (sO (o_callFb (ac:=[.ptr 0 0]) (as0:=[.ptr 0 0]) (aw0:=[.box [.str s5]]) (aw1:=[.box [.str x7.2]]) (aw2:=[.box [.str x7.2],aR 115 3 Qaa s6]) (v:=.agg (Qaa x7.1)) (v':=.agg (Qaa x7.1)) (n0:=2) (n1:=1) [0] rfl rfl rfl rfl (by decide) (Jba (cs:=[.str s5]) (ds:=[.str s5]) rfl ⟨J8a rfl,trivial⟩ (Qna)) ⟨Qla rfl,trivial⟩ (save_reader_item_xd243_c s5 x7 hx7) rfl (rm_agg (cs:=(Qaa x7.1)) (ds:=(Qaa x7.1)) ⟨Qea (Qwa _ _),Qea (Qwa _ _),Qea (Qwa _ _),trivial⟩) ⟨.inl ⟨0,_,by decide,rfl,Q7a (cs:=[.str x7.2]) (ds:=[.str x7.2]) ⟨Qea (Jda _),trivial⟩⟩,.inr ⟨rfl,rfl⟩,trivial⟩ (sO (Qsa (rows:=List.map Qaa [x7.1]) (vs:=[.agg (Qaa x7.1)]) Ty.s52 Ty.z115 rfl rfl rfl rfl rfl rfl (sO (Zva (en:=Qaa) (xs:=s6) (ys:=([x7.1]:List Item)) Ty.s52 (fun _=>rfl) rfl rfl rfl hx8 rfl rfl (go 1 4 (RS.nil (T.region (go 2 4 (RS.nil ?_))))))))))))
    exact ⟨(IntKind.i64.wrap (s4+1),x7.2,x8),(Option.some.inj h).symm,wk [] [0,3] 4 rfl⟩
   refine T.exit ?_
   obtain ⟨w_8,h,hw_8⟩:=Qva h
   replace h:=h.trans (congrArg some (hv_6 _ hw_8))
   refine T.seq (T.region (go 2 2 (RS.nil ?_)))
   cases h
   exact tO [] [0,1] 2
  refine T.region (go 3 1 ?_)
  rcases Qca (decide (x2.1<0)) with hb_1 | hb_1
  ·refine sN hb_1 (sN hb_1 (sN hb_1 (sN hb_1 (sN hb_1 (sN hb_1 (sN hb_1 (sQ (Qga (v:=.bool true) rfl hb_1 rfl (RS.nil ?_)))))))))
   exact T.sub (hK () trivial) ⟨rfl,rfl,(congrArg AV.bool (by simp only [hb_1,bz,if_true,if_false,Bool.false_eq_true])).symm,trivial⟩
  refine yg 1 hb_1 (yg 1 hb_1 (yg 1 hb_1 (yg 1 hb_1 (yg 1 hb_1 (yg 1 hb_1 (yg 1 hb_1 (sQ (Qba (v:=.bool (decide (x2.1 > ((x2.2).length:Int)))) rfl hb_1 rfl (RS.nil ?_)))))))))
  exact T.sub (hK () trivial) ⟨rfl,rfl,(congrArg AV.bool (by simp only [hb_1,bz,if_true,if_false,Bool.false_eq_true])).symm,trivial⟩
theorem Jfb (p0:List UInt8) (r:(List Item) × (List UInt8)) (h:Zia p0=some r):FnX Tryz.prog 45 [.ptr 0 0] [.box [.str p0]] (.ref 1) [.box [.str r.2],aR 115 3 Qaa r.1]:=by
  unfold Zia at h
  refine fnT 1 Tryz.func45 Tryz.ntmps45 ?_
  refine T.seq (T.region (go 1 1 (RS.nil (T.seq ?_))))
  obtain ⟨x2,hx2,h⟩:=bind_some h
  refine T.region (go 2 1 (sQ (v_bnd (cs:=[.ptr 0 0]) rfl (sO (Q6a (ac:=[.ptr 0 0,.bnd 77 [.ptr 0 0]]) (as0:=[.ptr 0 0,.bnd 77 [.ptr 0 0]]) (aw0:=[.box [.str p0]]) (aw1:=[.box [.str x2.2],aR 115 3 Qaa x2.1]) (aw2:=[.box [.str x2.2],aR 115 3 Qaa x2.1]) (v:=.ref 1) (v':=.ref 1) (n0:=1) (n1:=2) [0] rfl rfl rfl rfl (by decide) (Jba (cs:=[.str p0]) (ds:=[.str p0]) rfl ⟨J8a rfl,trivial⟩ (Qna)) ⟨Qla rfl,rn_bnd ⟨Qla rfl,trivial⟩,trivial⟩ (save_list_api_Item_xccb1_c p0 x2 hx2) rfl (J2a (by decide)) ⟨.inl ⟨0,_,by decide,rfl,Q7a (cs:=[.str x2.2]) (ds:=[.str x2.2]) ⟨Qea (Jda _),trivial⟩⟩,.inl ⟨1,_,by decide,rfl,Jna Jga⟩,trivial⟩ (go 1 2 (RS.nil ?_)))))))
  cases h
  exact tO [] [0,1] 2
theorem save_list_Item_xfbdb_c (p0:List UInt8) (r:(List (List Item)) × (List UInt8)) (h:V2a p0=some r):FnX Tryz.prog 44 [.ptr 0 0,.bnd 45 [.ptr 0 0]] [.box [.str p0]] (.ref 1) [.box [.str r.2],aR 52 1 (encL Qaa) r.1]:=by
  unfold V2a at h
  refine fnT 1 Tryz.func44 Tryz.ntmps44 ?_
  refine T.seq (T.region (go 1 1 (RS.nil (T.seq ?_))))
  obtain ⟨x2,hx2,h⟩:=bind_some h
  refine T.region (go 1 1 (sO (Q6a (ac:=[.ptr 0 0]) (as0:=[.ptr 0 0]) (aw0:=[.box [.str p0]]) (aw1:=[.box [.str x2.2]]) (aw2:=[.box [.str x2.2]]) (v:=iI x2.1) (v':=iI x2.1) (n0:=1) (n1:=1) [0] rfl rfl rfl rfl (by decide) (Jba (cs:=[.str p0]) (ds:=[.str p0]) rfl ⟨J8a rfl,trivial⟩ (Qna)) ⟨Qla rfl,trivial⟩ (Qma p0 x2 hx2) rfl (Qea (Qwa _ _)) ⟨.inl ⟨0,_,by decide,rfl,Q7a (cs:=[.str x2.2]) (ds:=[.str x2.2]) ⟨Qea (Jda _),trivial⟩⟩,trivial⟩ (go 1 1 (RS.nil (T.seq (T.join (Z:=Unit) (fun _=>mkA 32 [(1,.bnd 45 [.ptr 0 0]),(5,iI x2.1),(19,.bool ((decide (x2.1<0)) || decide (x2.1 > ((x2.2).length:Int))))]) (fun _=>[.box [.str x2.2]]) (fun _=>True) (fun _ _=>?_) (fun hK=>?_))))))))
  ·refine T.ci h rfl (fun hb_2 h=>?_) (fun hb_2 h=>?_)
   ·cases h
   refine T.skip (T.seq (T.region (go 1 1 (RS.nil (T.seq (T.seq (T.region (go 2 1 (RS.nil ?_)))))))))
   refine T.block (T.iter (fun ss_5:Int × (List UInt8) × (List (List Item))=>mkA 32 [(1,.bnd 45 [.ptr 0 0]),(6,.ref 1),(22,iI x2.1),(23,iI ss_5.1)]) (fun ss_5=>[.box [.str ss_5.2.1],aR 52 1 (encL Qaa) ss_5.2.2]) h (wk [(6,52,1)] [0,1] 1 rfl) (fun ss_5 v_6 h hv_6=>?_))
   obtain ⟨s4,s5,s6⟩:=ss_5
   replace h:Zja x2 s4 s5 s6=some v_6:=h
   try dsimp only
   unfold Zja at h
   refine T.seq (T.region (go 1 2 (RS.nil (T.seq (T.ci h rfl (fun hb_7 h=>?_) (fun hb_7 h=>?_))))))
   ·refine T.skip (T.seq (T.block ?_))
    obtain ⟨x7,hx7,h⟩:=bind_some h
    obtain ⟨x8,hx8,h⟩:=bind_some h
    refine T.region (go 2 2 (sO (o_callFb (ac:=[.ptr 0 0]) (as0:=[.ptr 0 0]) (aw0:=[.box [.str s5]]) (aw1:=[.box [.str x7.2],aR 115 3 Qaa x7.1]) (aw2:=[.box [.str x7.2],aR 52 1 (encL Qaa) s6,aR 115 3 Qaa x7.1]) (v:=.ref 1) (v':=.ref 2) (n0:=2) (n1:=2) [0] rfl rfl rfl rfl (by decide) (Jba (cs:=[.str s5]) (ds:=[.str s5]) rfl ⟨J8a rfl,trivial⟩ (Qna)) ⟨Qla rfl,trivial⟩ (Jfb s5 x7 hx7) rfl (J2a (by decide)) ⟨.inl ⟨0,_,by decide,rfl,Q7a (cs:=[.str x7.2]) (ds:=[.str x7.2]) ⟨Qea (Jda _),trivial⟩⟩,.inr ⟨rfl,rfl⟩,.inl ⟨1,_,by decide,rfl,Jna Jga⟩,trivial⟩ (RS.fC 2 (sO (Qsa (rows:=List.map (encL Qaa) [x7.1]) (vs:=[sL Qaa x7.1]) Ty.s48 Ty.z52 rfl rfl rfl rfl rfl rfl (sO (Zva (en:=(encL Qaa)) (xs:=s6) (ys:=([x7.1]:List (List Item))) Ty.s48 (fun _=>rfl) rfl rfl rfl hx8 rfl rfl (go 1 5 (RS.nil (T.region (go 2 5 ?_))))))))))))
    refine RS.nil ?_
    exact ⟨(IntKind.i64.wrap (s4+1),x7.2,x8),(Option.some.inj h).symm,wk [] [0,4] 5 rfl⟩
   refine T.exit ?_
   obtain ⟨w_8,h,hw_8⟩:=Qva h
   replace h:=h.trans (congrArg some (hv_6 _ hw_8))
   refine T.seq (T.region (go 2 2 (RS.nil ?_)))
   cases h
   exact tO [] [0,1] 2
  refine T.region (go 3 1 ?_)
  rcases Qca (decide (x2.1<0)) with hb_1 | hb_1
  ·refine sN hb_1 (sN hb_1 (sN hb_1 (sN hb_1 (sN hb_1 (sN hb_1 (sN hb_1 (sQ (Qga (v:=.bool true) rfl hb_1 rfl (RS.nil ?_)))))))))
   exact T.sub (hK () trivial) ⟨rfl,rfl,(congrArg AV.bool (by simp only [hb_1,bz,if_true,if_false,Bool.false_eq_true])).symm,trivial⟩
  refine yg 1 hb_1 (yg 1 hb_1 (yg 1 hb_1 (yg 1 hb_1 (yg 1 hb_1 (yg 1 hb_1 (yg 1 hb_1 (sQ (Qba (v:=.bool (decide (x2.1 > ((x2.2).length:Int)))) rfl hb_1 rfl (RS.nil ?_)))))))))
  exact T.sub (hK () trivial) ⟨rfl,rfl,(congrArg AV.bool (by simp only [hb_1,bz,if_true,if_false,Bool.false_eq_true])).symm,trivial⟩
theorem save_Of_2_1_x700a_c (p0:List UInt8) (r:Keyed × (List UInt8)) (h:Yua p0=some r):FnX Tryz.prog 49 [.ptr 0 0] [.box [.ptr 1 0],.box [.str p0]] (.agg (Qqa r.1)) [.box [.ptr 1 0],.box [.str r.2]]:=by
  unfold Yua at h
  refine fnT 2 Tryz.func49 Tryz.ntmps49 ?_
  refine T.seq (T.region (go 1 2 (RS.nil (T.seq ?_))))
  obtain ⟨x3,hx3,h⟩:=bind_some h
  obtain ⟨x4,hx4,h⟩:=bind_some h
  refine T.drawn mixed (k:=6) rfl ?_
  apply RA.jn 3 #[true,true,true,false,false,false];intro hS1
  ·refine rL [0,1,3,4,5] 0 rfl (ra2 1 2 ?_ ?_)
   ·refine oO rfl (Q6a (ac:=[.ptr 1 0]) (as0:=[.ptr 0 0]) (aw0:=[.box [.str p0]]) (aw1:=[.box [.str x3.2]]) (aw2:=[.box [.ptr 1 0],.box [.str x3.2],.box [iI 0,iI 0]]) (v:=iI x3.1) (v':=iI x3.1) (n0:=3) (n1:=1) [1] rfl rfl rfl rfl (by decide) (Jba (cs:=[.str p0]) (ds:=[.str p0]) rfl ⟨J8a rfl,trivial⟩ (Qna)) ⟨Qla rfl,trivial⟩ (Qma p0 x3 hx3) rfl (Qea (Qwa _ _)) ⟨.inr ⟨rfl,rfl⟩,.inl ⟨0,_,by decide,rfl,Q7a (cs:=[.str x3.2]) (ds:=[.str x3.2]) ⟨Qea (Jda _),trivial⟩⟩,.inr ⟨rfl,rfl⟩,trivial⟩ (ra1 2 (og 3 ⟨rfl,?_⟩)))
    exact raE hS1
   ·refine og 3 ⟨rfl,(ra1 1 (oO rfl (Q6a (ac:=[.ptr 1 0]) (as0:=[.ptr 0 0]) (aw0:=[.box [.str p0]]) (aw1:=[.box [.str x3.2]]) (aw2:=[.box [.ptr 1 0],.box [.str x3.2],.box [iI 0,iI 0]]) (v:=iI x3.1) (v':=iI x3.1) (n0:=3) (n1:=1) [1] rfl rfl rfl rfl (by decide) (Jba (cs:=[.str p0]) (ds:=[.str p0]) rfl ⟨J8a rfl,trivial⟩ (Qna)) ⟨Qla rfl,trivial⟩ (Qma p0 x3 hx3) rfl (Qea (Qwa _ _)) ⟨.inr ⟨rfl,rfl⟩,.inl ⟨0,_,by decide,rfl,Q7a (cs:=[.str x3.2]) (ds:=[.str x3.2]) ⟨Qea (Jda _),trivial⟩⟩,.inr ⟨rfl,rfl⟩,trivial⟩ ?_)))⟩
    exact raT hS1
  refine ra1 3 (oO rfl (Q6a (ac:=[.ptr 1 0]) (as0:=[.ptr 0 0]) (aw0:=[.box [.str x3.2]]) (aw1:=[.box [.str x4.2]]) (aw2:=[.box [.ptr 1 0],.box [.str x4.2],.box [iI 0,iI 0]]) (v:=iI x4.1) (v':=iI x4.1) (n0:=3) (n1:=1) [1] rfl rfl rfl rfl (by decide) (Jba (cs:=[.str x3.2]) (ds:=[.str x3.2]) rfl ⟨J8a rfl,trivial⟩ (Qna)) ⟨Qla rfl,trivial⟩ (Qma x3.2 x4 hx4) rfl (Qea (Qwa _ _)) ⟨.inr ⟨rfl,rfl⟩,.inl ⟨0,_,by decide,rfl,Q7a (cs:=[.str x4.2]) (ds:=[.str x4.2]) ⟨Qea (Jda _),trivial⟩⟩,.inr ⟨rfl,rfl⟩,trivial⟩ (rq [4] 1 (ra1 5 (og 3 ⟨rfl,(RA.done (by decide +kernel) ?_)⟩)))))
  cases h
  exact tN [0,1]
theorem save_list_api_Keyed_x5e48_c (p0:List UInt8) (r:(List Keyed) × (List UInt8)) (h:Zua p0=some r):FnX Tryz.prog 48 [.ptr 0 0,.func 49 [.ptr 1 0]] [.box [.str p0],.box [.ptr 0 0]] (.ref 2) [.box [.str r.2],.box [.ptr 0 0],aR 92 2 Qqa r.1]:=by
  unfold Zua at h
  refine fnT 2 Tryz.func48 Tryz.ntmps48 ?_
  refine T.seq (T.region (go 1 2 (RS.nil (T.seq ?_))))
  obtain ⟨x2,hx2,h⟩:=bind_some h
  refine T.region (go 1 2 (sO (Q6a (ac:=[.ptr 0 0]) (as0:=[.ptr 0 0]) (aw0:=[.box [.str p0]]) (aw1:=[.box [.str x2.2]]) (aw2:=[.box [.str x2.2],.box [.ptr 0 0]]) (v:=iI x2.1) (v':=iI x2.1) (n0:=2) (n1:=1) [0] rfl rfl rfl rfl (by decide) (Jba (cs:=[.str p0]) (ds:=[.str p0]) rfl ⟨J8a rfl,trivial⟩ (Qna)) ⟨Qla rfl,trivial⟩ (Qma p0 x2 hx2) rfl (Qea (Qwa _ _)) ⟨.inl ⟨0,_,by decide,rfl,Q7a (cs:=[.str x2.2]) (ds:=[.str x2.2]) ⟨Qea (Jda _),trivial⟩⟩,.inr ⟨rfl,rfl⟩,trivial⟩ (go 1 2 (RS.nil (T.seq (T.join (Z:=Unit) (fun _=>mkA 32 [(1,.func 49 [.ptr 1 0]),(5,iI x2.1),(19,.bool ((decide (x2.1<0)) || decide (x2.1 > ((x2.2).length:Int))))]) (fun _=>[.box [.str x2.2],.box [.ptr 0 0]]) (fun _=>True) (fun _ _=>?_) (fun hK=>?_))))))))
  ·refine T.ci h rfl (fun hb_2 h=>?_) (fun hb_2 h=>?_)
   ·cases h
   refine T.skip (T.seq (T.region (go 1 2 (RS.nil (T.seq (T.seq (T.region (go 2 2 (RS.nil ?_)))))))))
   refine T.block (T.iter (fun ss_5:Int × (List UInt8) × (List Keyed)=>mkA 32 [(1,.func 49 [.ptr 1 0]),(6,.ref 2),(22,iI x2.1),(23,iI ss_5.1)]) (fun ss_5=>[.box [.str ss_5.2.1],.box [.ptr 0 0],aR 92 2 Qqa ss_5.2.2]) h (wk [(6,92,2)] [0,1,2] 2 rfl) (fun ss_5 v_6 h hv_6=>?_))
   obtain ⟨s4,s5,s6⟩:=ss_5
   replace h:Jza x2 s4 s5 s6=some v_6:=h
   try dsimp only
   unfold Jza at h
   refine T.seq (T.region (go 1 3 (RS.nil (T.seq (T.ci h rfl (fun hb_7 h=>?_) (fun hb_7 h=>?_))))))
   ·refine T.skip (T.seq (T.block ?_))
    obtain ⟨x7,hx7,h⟩:=bind_some h
    obtain ⟨x8,hx8,h⟩:=bind_some h
    refine T.region (go 2 3 (sO (Q6a (ac:=[.ptr 1 0]) (as0:=[.ptr 0 0]) (aw0:=[.box [.ptr 1 0],.box [.str s5]]) (aw1:=[.box [.ptr 1 0],.box [.str x7.2]]) (aw2:=[.box [.str x7.2],.box [.ptr 0 0],aR 92 2 Qqa s6]) (v:=.agg (Qqa x7.1)) (v':=.agg (Qqa x7.1)) (n0:=3) (n1:=2) [1,0] rfl rfl rfl rfl (by decide) (Jba (cs:=[.ptr 1 0]) (ds:=[.ptr 0 0]) rfl ⟨Qla rfl,trivial⟩ (Jba (cs:=[.str s5]) (ds:=[.str s5]) rfl ⟨J8a rfl,trivial⟩ (Qna))) ⟨Qla rfl,trivial⟩ (save_Of_2_1_x700a_c s5 x7 hx7) rfl (rm_agg (cs:=(Qqa x7.1)) (ds:=(Qqa x7.1)) ⟨Qea (Qwa _ _),Qea (Qwa _ _),trivial⟩) ⟨.inl ⟨1,_,by decide,rfl,Q7a (cs:=[.str x7.2]) (ds:=[.str x7.2]) ⟨Qea (Jda _),trivial⟩⟩,.inl ⟨0,_,by decide,rfl,Q7a (cs:=[.ptr 0 0]) (ds:=[.ptr 1 0]) ⟨rm_ptr (by decide),trivial⟩⟩,.inr ⟨rfl,rfl⟩,trivial⟩ (sO (Qsa (rows:=List.map Qqa [x7.1]) (vs:=[.agg (Qqa x7.1)]) Ty.s88 Ty.z92 rfl rfl rfl rfl rfl rfl (sO (Zva (en:=Qqa) (xs:=s6) (ys:=([x7.1]:List Keyed)) Ty.s88 (fun _=>rfl) rfl rfl rfl hx8 rfl rfl (go 1 5 (RS.nil (T.region (go 2 5 (RS.nil ?_))))))))))))
    exact ⟨(IntKind.i64.wrap (s4+1),x7.2,x8),(Option.some.inj h).symm,wk [] [0,1,4] 5 rfl⟩
   refine T.exit ?_
   obtain ⟨w_8,h,hw_8⟩:=Qva h
   replace h:=h.trans (congrArg some (hv_6 _ hw_8))
   refine T.seq (T.region (go 2 3 (RS.nil ?_)))
   cases h
   exact tO [] [0,1,2] 3
  refine T.region (go 3 2 ?_)
  rcases Qca (decide (x2.1<0)) with hb_1 | hb_1
  ·refine sN hb_1 (sN hb_1 (sN hb_1 (sN hb_1 (sN hb_1 (sN hb_1 (sN hb_1 (sQ (Qga (v:=.bool true) rfl hb_1 rfl (RS.nil ?_)))))))))
   exact T.sub (hK () trivial) ⟨rfl,rfl,(congrArg AV.bool (by simp only [hb_1,bz,if_true,if_false,Bool.false_eq_true])).symm,trivial⟩
  refine yg 2 hb_1 (yg 2 hb_1 (yg 2 hb_1 (yg 2 hb_1 (yg 2 hb_1 (yg 2 hb_1 (yg 2 hb_1 (sQ (Qba (v:=.bool (decide (x2.1 > ((x2.2).length:Int)))) rfl hb_1 rfl (RS.nil ?_)))))))))
  exact T.sub (hK () trivial) ⟨rfl,rfl,(congrArg AV.bool (by simp only [hb_1,bz,if_true,if_false,Bool.false_eq_true])).symm,trivial⟩
theorem save_Of_2_x700a_c (p0:List UInt8) (r:Memory × (List UInt8)) (h:Qmb p0=some r):FnX Tryz.prog 47 [.ptr 0 0] [.box [.ptr 1 0],.box [.str p0]] (.agg (Qda r.1)) [.box [.ptr 1 0],.box [.str r.2]]:=by
  unfold Qmb at h
  refine fnT 2 Tryz.func47 Tryz.ntmps47 ?_
  refine T.seq (T.region (go 1 2 (RS.nil (T.seq ?_))))
  obtain ⟨x4,hx4,h⟩:=bind_some h
  obtain ⟨x5,hx5,h⟩:=bind_some h
  obtain ⟨x6,hx6,h⟩:=bind_some h
  refine T.drawn mixed (k:=9) rfl ?_
  apply RA.jn 3 #[true,true,true,true,true,true,false,false,false];intro hS1
  apply RA.jn 4 #[true,true,true,false,true,true,false,false,false];intro hS2
  apply RA.jn 5 #[true,true,true,false,false,true,false,false,false];intro hS3
  apply RA.jn 5 #[true,false,true,false,true,true,false,false,false];intro hS4
  ·refine rq [5] 8 (rL [0,1,3,6,7,8] 0 rfl (ra3 1 2 4 ?_ ?_ ?_))
   ·refine oO rfl (Q6a (ac:=[.ptr 1 0]) (as0:=[.ptr 0 0]) (aw0:=[.box [.str p0]]) (aw1:=[.box [.str x4.2]]) (aw2:=[.box [.ptr 1 0],.box [.str x4.2],.box [iI 0,.nils,iI 0]]) (v:=iI x4.1) (v':=iI x4.1) (n0:=3) (n1:=1) [1] rfl rfl rfl rfl (by decide) (Jba (cs:=[.str p0]) (ds:=[.str p0]) rfl ⟨J8a rfl,trivial⟩ (Qna)) ⟨Qla rfl,trivial⟩ (Qma p0 x4 hx4) rfl (Qea (Qwa _ _)) ⟨.inr ⟨rfl,rfl⟩,.inl ⟨0,_,by decide,rfl,Q7a (cs:=[.str x4.2]) (ds:=[.str x4.2]) ⟨Qea (Jda _),trivial⟩⟩,.inr ⟨rfl,rfl⟩,trivial⟩ (rL [2,3,6,7,8] 2 rfl ?_))
    exact raE hS3
   ·refine og 3 ⟨rfl,(ra2 1 4 ?_ ?_)⟩
    ·refine oO rfl (Q6a (ac:=[.ptr 1 0]) (as0:=[.ptr 0 0]) (aw0:=[.box [.str p0]]) (aw1:=[.box [.str x4.2]]) (aw2:=[.box [.ptr 1 0],.box [.str x4.2],.box [iI 0,.nils,iI 0]]) (v:=iI x4.1) (v':=iI x4.1) (n0:=3) (n1:=1) [1] rfl rfl rfl rfl (by decide) (Jba (cs:=[.str p0]) (ds:=[.str p0]) rfl ⟨J8a rfl,trivial⟩ (Qna)) ⟨Qla rfl,trivial⟩ (Qma p0 x4 hx4) rfl (Qea (Qwa _ _)) ⟨.inr ⟨rfl,rfl⟩,.inl ⟨0,_,by decide,rfl,Q7a (cs:=[.str x4.2]) (ds:=[.str x4.2]) ⟨Qea (Jda _),trivial⟩⟩,.inr ⟨rfl,rfl⟩,trivial⟩ ?_)
     exact raT hS3
    ·refine og 3 ⟨rfl,?_⟩
     exact raE hS4
   ·refine og 3 ⟨rfl,(ra2 1 2 ?_ ?_)⟩
    ·refine oO rfl (Q6a (ac:=[.ptr 1 0]) (as0:=[.ptr 0 0]) (aw0:=[.box [.str p0]]) (aw1:=[.box [.str x4.2]]) (aw2:=[.box [.ptr 1 0],.box [.str x4.2],.box [iI 0,.nils,iI 0]]) (v:=iI x4.1) (v':=iI x4.1) (n0:=3) (n1:=1) [1] rfl rfl rfl rfl (by decide) (Jba (cs:=[.str p0]) (ds:=[.str p0]) rfl ⟨J8a rfl,trivial⟩ (Qna)) ⟨Qla rfl,trivial⟩ (Qma p0 x4 hx4) rfl (Qea (Qwa _ _)) ⟨.inr ⟨rfl,rfl⟩,.inl ⟨0,_,by decide,rfl,Q7a (cs:=[.str x4.2]) (ds:=[.str x4.2]) ⟨Qea (Jda _),trivial⟩⟩,.inr ⟨rfl,rfl⟩,trivial⟩ (ra1 2 (og 3 ⟨rfl,?_⟩)))
     exact raE hS2
    ·refine og 3 ⟨rfl,?_⟩
     exact raT hS4
  ·refine ra1 1 (oO rfl (Q6a (ac:=[.ptr 1 0]) (as0:=[.ptr 0 0]) (aw0:=[.box [.str p0]]) (aw1:=[.box [.str x4.2]]) (aw2:=[.box [.ptr 1 0],.box [.str x4.2],.box [iI 0,.nils,iI 0]]) (v:=iI x4.1) (v':=iI x4.1) (n0:=3) (n1:=1) [1] rfl rfl rfl rfl (by decide) (Jba (cs:=[.str p0]) (ds:=[.str p0]) rfl ⟨J8a rfl,trivial⟩ (Qna)) ⟨Qla rfl,trivial⟩ (Qma p0 x4 hx4) rfl (Qea (Qwa _ _)) ⟨.inr ⟨rfl,rfl⟩,.inl ⟨0,_,by decide,rfl,Q7a (cs:=[.str x4.2]) (ds:=[.str x4.2]) ⟨Qea (Jda _),trivial⟩⟩,.inr ⟨rfl,rfl⟩,trivial⟩ ?_))
   exact raT hS2
  ·refine ra2 3 4 ?_ ?_
   ·refine oO rfl (Q6a (ac:=[.ptr 1 0]) (as0:=[.ptr 0 0]) (aw0:=[.box [.str x4.2]]) (aw1:=[.box [.str x5.2]]) (aw2:=[.box [.ptr 1 0],.box [.str x5.2],.box [iI 0,.nils,iI 0]]) (v:=iI x5.1) (v':=iI x5.1) (n0:=3) (n1:=1) [1] rfl rfl rfl rfl (by decide) (Jba (cs:=[.str x4.2]) (ds:=[.str x4.2]) rfl ⟨J8a rfl,trivial⟩ (Qna)) ⟨Qla rfl,trivial⟩ (Qma x4.2 x5 hx5) rfl (Qea (Qwa _ _)) ⟨.inr ⟨rfl,rfl⟩,.inl ⟨0,_,by decide,rfl,Q7a (cs:=[.str x5.2]) (ds:=[.str x5.2]) ⟨Qea (Jda _),trivial⟩⟩,.inr ⟨rfl,rfl⟩,trivial⟩ (ra1 4 (og 3 ⟨rfl,?_⟩)))
    exact raE hS1
   ·refine og 3 ⟨rfl,?_⟩
    exact raT hS2
  ·refine ra1 3 (oO rfl (Q6a (ac:=[.ptr 1 0]) (as0:=[.ptr 0 0]) (aw0:=[.box [.str x4.2]]) (aw1:=[.box [.str x5.2]]) (aw2:=[.box [.ptr 1 0],.box [.str x5.2],.box [iI 0,.nils,iI 0]]) (v:=iI x5.1) (v':=iI x5.1) (n0:=3) (n1:=1) [1] rfl rfl rfl rfl (by decide) (Jba (cs:=[.str x4.2]) (ds:=[.str x4.2]) rfl ⟨J8a rfl,trivial⟩ (Qna)) ⟨Qla rfl,trivial⟩ (Qma x4.2 x5 hx5) rfl (Qea (Qwa _ _)) ⟨.inr ⟨rfl,rfl⟩,.inl ⟨0,_,by decide,rfl,Q7a (cs:=[.str x5.2]) (ds:=[.str x5.2]) ⟨Qea (Jda _),trivial⟩⟩,.inr ⟨rfl,rfl⟩,trivial⟩ ?_))
   exact raT hS1
  refine ra1 6 (oO rfl (Q6a (ac:=[.ptr 1 0,.func 49 [.ptr 0 0]]) (as0:=[.ptr 0 0,.func 49 [.ptr 1 0]]) (aw0:=[.box [.str x5.2],.box [.ptr 0 0]]) (aw1:=[.box [.str x6.2],.box [.ptr 0 0],aR 92 2 Qqa x6.1]) (aw2:=[.box [.ptr 1 0],.box [.str x6.2],.box [iI 0,.nils,iI 0],aR 92 2 Qqa x6.1]) (v:=.ref 2) (v':=.ref 3) (n0:=3) (n1:=3) [1,0] rfl rfl rfl rfl (by decide) (Jba (cs:=[.str x5.2]) (ds:=[.str x5.2]) rfl ⟨J8a rfl,trivial⟩ (Jba (cs:=[.ptr 0 0]) (ds:=[.ptr 1 0]) rfl ⟨Qla rfl,trivial⟩ (Qna))) ⟨Qla rfl,V3a ⟨Qla rfl,trivial⟩,trivial⟩ (save_list_api_Keyed_x5e48_c x5.2 x6 hx6) rfl (J2a (by decide)) ⟨.inl ⟨1,_,by decide,rfl,Q7a (cs:=[.ptr 1 0]) (ds:=[.ptr 0 0]) ⟨rm_ptr (by decide),trivial⟩⟩,.inl ⟨0,_,by decide,rfl,Q7a (cs:=[.str x6.2]) (ds:=[.str x6.2]) ⟨Qea (Jda _),trivial⟩⟩,.inr ⟨rfl,rfl⟩,.inl ⟨2,_,by decide,rfl,Jna Yva⟩,trivial⟩ (rq [7] 1 (ra1 8 (og 4 ⟨rfl,(RA.done (by decide +kernel) ?_)⟩)))))
  cases h
  exact tN [0,1]
theorem save_list_api_Memory_xfa57_c (p0:List UInt8) (r:(List Memory) × (List UInt8)) (h:Zoa p0=some r):FnX Tryz.prog 46 [.ptr 0 0,.func 47 [.ptr 1 0]] [.box [.str p0],.box [.ptr 0 0]] (.ref 2) [.box [.str r.2],.box [.ptr 0 0],aR 90 3 Qda r.1]:=by
  unfold Zoa at h
  refine fnT 2 Tryz.func46 Tryz.ntmps46 ?_
  refine T.seq (T.region (go 1 2 (RS.nil (T.seq ?_))))
  obtain ⟨x2,hx2,h⟩:=bind_some h
  refine T.region (go 1 2 (sO (Q6a (ac:=[.ptr 0 0]) (as0:=[.ptr 0 0]) (aw0:=[.box [.str p0]]) (aw1:=[.box [.str x2.2]]) (aw2:=[.box [.str x2.2],.box [.ptr 0 0]]) (v:=iI x2.1) (v':=iI x2.1) (n0:=2) (n1:=1) [0] rfl rfl rfl rfl (by decide) (Jba (cs:=[.str p0]) (ds:=[.str p0]) rfl ⟨J8a rfl,trivial⟩ (Qna)) ⟨Qla rfl,trivial⟩ (Qma p0 x2 hx2) rfl (Qea (Qwa _ _)) ⟨.inl ⟨0,_,by decide,rfl,Q7a (cs:=[.str x2.2]) (ds:=[.str x2.2]) ⟨Qea (Jda _),trivial⟩⟩,.inr ⟨rfl,rfl⟩,trivial⟩ (go 1 2 (RS.nil (T.seq (T.join (Z:=Unit) (fun _=>mkA 32 [(1,.func 47 [.ptr 1 0]),(5,iI x2.1),(19,.bool ((decide (x2.1<0)) || decide (x2.1 > ((x2.2).length:Int))))]) (fun _=>[.box [.str x2.2],.box [.ptr 0 0]]) (fun _=>True) (fun _ _=>?_) (fun hK=>?_))))))))
  ·refine T.ci h rfl (fun hb_2 h=>?_) (fun hb_2 h=>?_)
   ·cases h
   refine T.skip (T.seq (T.region (go 1 2 (RS.nil (T.seq (T.seq (T.region (go 2 2 (RS.nil ?_)))))))))
   refine T.block (T.iter (fun ss_5:Int × (List UInt8) × (List Memory)=>mkA 32 [(1,.func 47 [.ptr 1 0]),(6,.ref 2),(22,iI x2.1),(23,iI ss_5.1)]) (fun ss_5=>[.box [.str ss_5.2.1],.box [.ptr 0 0],aR 90 3 Qda ss_5.2.2]) h (wk [(6,90,3)] [0,1,2] 2 rfl) (fun ss_5 v_6 h hv_6=>?_))
   obtain ⟨s4,s5,s6⟩:=ss_5
   replace h:Jwa x2 s4 s5 s6=some v_6:=h
   try dsimp only
   unfold Jwa at h
   refine T.seq (T.region (go 1 3 (RS.nil (T.seq (T.ci h rfl (fun hb_7 h=>?_) (fun hb_7 h=>?_))))))
   ·refine T.skip (T.seq (T.block ?_))
    obtain ⟨x7,hx7,h⟩:=bind_some h
    obtain ⟨x8,hx8,h⟩:=bind_some h
    refine T.region (go 2 3 (sO (Q6a (ac:=[.ptr 1 0]) (as0:=[.ptr 0 0]) (aw0:=[.box [.ptr 1 0],.box [.str s5]]) (aw1:=[.box [.ptr 1 0],.box [.str x7.2]]) (aw2:=[.box [.str x7.2],.box [.ptr 0 0],aR 90 3 Qda s6]) (v:=.agg (Qda x7.1)) (v':=.agg (Qda x7.1)) (n0:=3) (n1:=2) [1,0] rfl rfl rfl rfl (by decide) (Jba (cs:=[.ptr 1 0]) (ds:=[.ptr 0 0]) rfl ⟨Qla rfl,trivial⟩ (Jba (cs:=[.str s5]) (ds:=[.str s5]) rfl ⟨J8a rfl,trivial⟩ (Qna))) ⟨Qla rfl,trivial⟩ (save_Of_2_x700a_c s5 x7 hx7) rfl (rm_agg (cs:=(Qda x7.1)) (ds:=(Qda x7.1)) ⟨Qea (Qwa _ _),Qea (Qua Yva _),Qea (Qwa _ _),trivial⟩) ⟨.inl ⟨1,_,by decide,rfl,Q7a (cs:=[.str x7.2]) (ds:=[.str x7.2]) ⟨Qea (Jda _),trivial⟩⟩,.inl ⟨0,_,by decide,rfl,Q7a (cs:=[.ptr 0 0]) (ds:=[.ptr 1 0]) ⟨rm_ptr (by decide),trivial⟩⟩,.inr ⟨rfl,rfl⟩,trivial⟩ (sO (Qsa (rows:=List.map Qda [x7.1]) (vs:=[.agg (Qda x7.1)]) Ty.s50 Ty.z90 rfl rfl rfl rfl rfl rfl (sO (Zva (en:=Qda) (xs:=s6) (ys:=([x7.1]:List Memory)) Ty.s50 (fun _=>rfl) rfl rfl rfl hx8 rfl rfl (go 1 5 (RS.nil (T.region (go 2 5 (RS.nil ?_))))))))))))
    exact ⟨(IntKind.i64.wrap (s4+1),x7.2,x8),(Option.some.inj h).symm,wk [] [0,1,4] 5 rfl⟩
   refine T.exit ?_
   obtain ⟨w_8,h,hw_8⟩:=Qva h
   replace h:=h.trans (congrArg some (hv_6 _ hw_8))
   refine T.seq (T.region (go 2 3 (RS.nil ?_)))
   cases h
   exact tO [] [0,1,2] 3
  refine T.region (go 3 2 ?_)
  rcases Qca (decide (x2.1<0)) with hb_1 | hb_1
  ·refine sN hb_1 (sN hb_1 (sN hb_1 (sN hb_1 (sN hb_1 (sN hb_1 (sN hb_1 (sQ (Qga (v:=.bool true) rfl hb_1 rfl (RS.nil ?_)))))))))
   exact T.sub (hK () trivial) ⟨rfl,rfl,(congrArg AV.bool (by simp only [hb_1,bz,if_true,if_false,Bool.false_eq_true])).symm,trivial⟩
  refine yg 2 hb_1 (yg 2 hb_1 (yg 2 hb_1 (yg 2 hb_1 (yg 2 hb_1 (yg 2 hb_1 (yg 2 hb_1 (sQ (Qba (v:=.bool (decide (x2.1 > ((x2.2).length:Int)))) rfl hb_1 rfl (RS.nil ?_)))))))))
  exact T.sub (hK () trivial) ⟨rfl,rfl,(congrArg AV.bool (by simp only [hb_1,bz,if_true,if_false,Bool.false_eq_true])).symm,trivial⟩
theorem save_Of_3_x700a_c (p0:List UInt8) (r:Choice × (List UInt8)) (h:Qqb p0=some r):FnX Tryz.prog 51 [.ptr 0 0] [.box [.ptr 1 0],.box [.str p0]] (.agg (Qia r.1)) [.box [.ptr 1 0],.box [.str r.2]]:=by
  unfold Qqb at h
  refine fnT 2 Tryz.func51 Tryz.ntmps51 ?_
  refine T.seq (T.region (go 1 2 (RS.nil (T.seq ?_))))
  obtain ⟨x3,hx3,h⟩:=bind_some h
  obtain ⟨x4,hx4,h⟩:=bind_some h
  refine T.drawn mixed (k:=6) rfl ?_
  apply RA.jn 3 #[true,true,true,false,false,false];intro hS1
  ·refine rL [0,1,3,4,5] 0 rfl (ra2 1 2 ?_ ?_)
   ·refine oO rfl (Q6a (ac:=[.ptr 1 0]) (as0:=[.ptr 0 0]) (aw0:=[.box [.str p0]]) (aw1:=[.box [.str x3.2]]) (aw2:=[.box [.ptr 1 0],.box [.str x3.2],.box [iI 0,iI 0]]) (v:=iI x3.1) (v':=iI x3.1) (n0:=3) (n1:=1) [1] rfl rfl rfl rfl (by decide) (Jba (cs:=[.str p0]) (ds:=[.str p0]) rfl ⟨J8a rfl,trivial⟩ (Qna)) ⟨Qla rfl,trivial⟩ (Qma p0 x3 hx3) rfl (Qea (Qwa _ _)) ⟨.inr ⟨rfl,rfl⟩,.inl ⟨0,_,by decide,rfl,Q7a (cs:=[.str x3.2]) (ds:=[.str x3.2]) ⟨Qea (Jda _),trivial⟩⟩,.inr ⟨rfl,rfl⟩,trivial⟩ (ra1 2 (og 3 ⟨rfl,?_⟩)))
    exact raE hS1
   ·refine og 3 ⟨rfl,(ra1 1 (oO rfl (Q6a (ac:=[.ptr 1 0]) (as0:=[.ptr 0 0]) (aw0:=[.box [.str p0]]) (aw1:=[.box [.str x3.2]]) (aw2:=[.box [.ptr 1 0],.box [.str x3.2],.box [iI 0,iI 0]]) (v:=iI x3.1) (v':=iI x3.1) (n0:=3) (n1:=1) [1] rfl rfl rfl rfl (by decide) (Jba (cs:=[.str p0]) (ds:=[.str p0]) rfl ⟨J8a rfl,trivial⟩ (Qna)) ⟨Qla rfl,trivial⟩ (Qma p0 x3 hx3) rfl (Qea (Qwa _ _)) ⟨.inr ⟨rfl,rfl⟩,.inl ⟨0,_,by decide,rfl,Q7a (cs:=[.str x3.2]) (ds:=[.str x3.2]) ⟨Qea (Jda _),trivial⟩⟩,.inr ⟨rfl,rfl⟩,trivial⟩ ?_)))⟩
    exact raT hS1
  refine ra1 3 (oO rfl (Q6a (ac:=[.ptr 1 0]) (as0:=[.ptr 0 0]) (aw0:=[.box [.str x3.2]]) (aw1:=[.box [.str x4.2]]) (aw2:=[.box [.ptr 1 0],.box [.str x4.2],.box [iI 0,iI 0]]) (v:=iI x4.1) (v':=iI x4.1) (n0:=3) (n1:=1) [1] rfl rfl rfl rfl (by decide) (Jba (cs:=[.str x3.2]) (ds:=[.str x3.2]) rfl ⟨J8a rfl,trivial⟩ (Qna)) ⟨Qla rfl,trivial⟩ (Qma x3.2 x4 hx4) rfl (Qea (Qwa _ _)) ⟨.inr ⟨rfl,rfl⟩,.inl ⟨0,_,by decide,rfl,Q7a (cs:=[.str x4.2]) (ds:=[.str x4.2]) ⟨Qea (Jda _),trivial⟩⟩,.inr ⟨rfl,rfl⟩,trivial⟩ (rq [4] 1 (ra1 5 (og 3 ⟨rfl,(RA.done (by decide +kernel) ?_)⟩)))))
  cases h
  exact tN [0,1]
theorem save_list_api_Choice_xfcb2_c (p0:List UInt8) (r:(List Choice) × (List UInt8)) (h:Zma p0=some r):FnX Tryz.prog 50 [.ptr 0 0,.func 51 [.ptr 1 0]] [.box [.str p0],.box [.ptr 0 0]] (.ref 2) [.box [.str r.2],.box [.ptr 0 0],aR 94 2 Qia r.1]:=by
  unfold Zma at h
  refine fnT 2 Tryz.func50 Tryz.ntmps50 ?_
  refine T.seq (T.region (go 1 2 (RS.nil (T.seq ?_))))
  obtain ⟨x2,hx2,h⟩:=bind_some h
  refine T.region (go 1 2 (sO (Q6a (ac:=[.ptr 0 0]) (as0:=[.ptr 0 0]) (aw0:=[.box [.str p0]]) (aw1:=[.box [.str x2.2]]) (aw2:=[.box [.str x2.2],.box [.ptr 0 0]]) (v:=iI x2.1) (v':=iI x2.1) (n0:=2) (n1:=1) [0] rfl rfl rfl rfl (by decide) (Jba (cs:=[.str p0]) (ds:=[.str p0]) rfl ⟨J8a rfl,trivial⟩ (Qna)) ⟨Qla rfl,trivial⟩ (Qma p0 x2 hx2) rfl (Qea (Qwa _ _)) ⟨.inl ⟨0,_,by decide,rfl,Q7a (cs:=[.str x2.2]) (ds:=[.str x2.2]) ⟨Qea (Jda _),trivial⟩⟩,.inr ⟨rfl,rfl⟩,trivial⟩ (go 1 2 (RS.nil (T.seq (T.join (Z:=Unit) (fun _=>mkA 32 [(1,.func 51 [.ptr 1 0]),(5,iI x2.1),(19,.bool ((decide (x2.1<0)) || decide (x2.1 > ((x2.2).length:Int))))]) (fun _=>[.box [.str x2.2],.box [.ptr 0 0]]) (fun _=>True) (fun _ _=>?_) (fun hK=>?_))))))))
  ·refine T.ci h rfl (fun hb_2 h=>?_) (fun hb_2 h=>?_)
   ·cases h
   refine T.skip (T.seq (T.region (go 1 2 (RS.nil (T.seq (T.seq (T.region (go 2 2 (RS.nil ?_)))))))))
   refine T.block (T.iter (fun ss_5:Int × (List UInt8) × (List Choice)=>mkA 32 [(1,.func 51 [.ptr 1 0]),(6,.ref 2),(22,iI x2.1),(23,iI ss_5.1)]) (fun ss_5=>[.box [.str ss_5.2.1],.box [.ptr 0 0],aR 94 2 Qia ss_5.2.2]) h (wk [(6,94,2)] [0,1,2] 2 rfl) (fun ss_5 v_6 h hv_6=>?_))
   obtain ⟨s4,s5,s6⟩:=ss_5
   replace h:Jua x2 s4 s5 s6=some v_6:=h
   try dsimp only
   unfold Jua at h
   refine T.seq (T.region (go 1 3 (RS.nil (T.seq (T.ci h rfl (fun hb_7 h=>?_) (fun hb_7 h=>?_))))))
   ·refine T.skip (T.seq (T.block ?_))
    obtain ⟨x7,hx7,h⟩:=bind_some h
    obtain ⟨x8,hx8,h⟩:=bind_some h
    refine T.region (go 2 3 (sO (Q6a (ac:=[.ptr 1 0]) (as0:=[.ptr 0 0]) (aw0:=[.box [.ptr 1 0],.box [.str s5]]) (aw1:=[.box [.ptr 1 0],.box [.str x7.2]]) (aw2:=[.box [.str x7.2],.box [.ptr 0 0],aR 94 2 Qia s6]) (v:=.agg (Qia x7.1)) (v':=.agg (Qia x7.1)) (n0:=3) (n1:=2) [1,0] rfl rfl rfl rfl (by decide) (Jba (cs:=[.ptr 1 0]) (ds:=[.ptr 0 0]) rfl ⟨Qla rfl,trivial⟩ (Jba (cs:=[.str s5]) (ds:=[.str s5]) rfl ⟨J8a rfl,trivial⟩ (Qna))) ⟨Qla rfl,trivial⟩ (save_Of_3_x700a_c s5 x7 hx7) rfl (rm_agg (cs:=(Qia x7.1)) (ds:=(Qia x7.1)) ⟨Qea (Qwa _ _),Qea (Qwa _ _),trivial⟩) ⟨.inl ⟨1,_,by decide,rfl,Q7a (cs:=[.str x7.2]) (ds:=[.str x7.2]) ⟨Qea (Jda _),trivial⟩⟩,.inl ⟨0,_,by decide,rfl,Q7a (cs:=[.ptr 0 0]) (ds:=[.ptr 1 0]) ⟨rm_ptr (by decide),trivial⟩⟩,.inr ⟨rfl,rfl⟩,trivial⟩ (sO (Qsa (rows:=List.map Qia [x7.1]) (vs:=[.agg (Qia x7.1)]) Ty.s51 Ty.z94 rfl rfl rfl rfl rfl rfl (sO (Zva (en:=Qia) (xs:=s6) (ys:=([x7.1]:List Choice)) Ty.s51 (fun _=>rfl) rfl rfl rfl hx8 rfl rfl (go 1 5 (RS.nil (T.region (go 2 5 (RS.nil ?_))))))))))))
    exact ⟨(IntKind.i64.wrap (s4+1),x7.2,x8),(Option.some.inj h).symm,wk [] [0,1,4] 5 rfl⟩
   refine T.exit ?_
   obtain ⟨w_8,h,hw_8⟩:=Qva h
   replace h:=h.trans (congrArg some (hv_6 _ hw_8))
   refine T.seq (T.region (go 2 3 (RS.nil ?_)))
   cases h
   exact tO [] [0,1,2] 3
  refine T.region (go 3 2 ?_)
  rcases Qca (decide (x2.1<0)) with hb_1 | hb_1
  ·refine sN hb_1 (sN hb_1 (sN hb_1 (sN hb_1 (sN hb_1 (sN hb_1 (sN hb_1 (sQ (Qga (v:=.bool true) rfl hb_1 rfl (RS.nil ?_)))))))))
   exact T.sub (hK () trivial) ⟨rfl,rfl,(congrArg AV.bool (by simp only [hb_1,bz,if_true,if_false,Bool.false_eq_true])).symm,trivial⟩
  refine yg 2 hb_1 (yg 2 hb_1 (yg 2 hb_1 (yg 2 hb_1 (yg 2 hb_1 (yg 2 hb_1 (yg 2 hb_1 (sQ (Qba (v:=.bool (decide (x2.1 > ((x2.2).length:Int)))) rfl hb_1 rfl (RS.nil ?_)))))))))
  exact T.sub (hK () trivial) ⟨rfl,rfl,(congrArg AV.bool (by simp only [hb_1,bz,if_true,if_false,Bool.false_eq_true])).symm,trivial⟩
theorem save_Of_c (p0:Net) (p1:List (List Item)) (p2:List UInt8) (r:State × Int) (h:save_Of p0 p1 p2=some r):Fn Tryz.prog 17 [.agg (Jfa p0),sL (encL Qaa) p1,.str p2] (.tup [.agg (Qxa r.1),iI r.2]):=by
  unfold save_Of at h
  refine fnTD 0 Tryz.func17 Tryz.ntmps17 ?_
  refine TD.seq (T.region (go 3 0 (RS.nil (TD.seq (T.seq ?_)))))
  obtain ⟨x2,hx2,h⟩:=bind_some h
  refine T.region (go 2 3 (sO (cF (net_Sources_c p0 p1 x2 hx2) ⟨rfl,(go 1 3 (RS.nil (T.seq (T.region (go 2 3 (RS.nil (T.ci h rfl (fun hb_1 h=>?_) (fun hb_1 h=>?_))))))))⟩)))
  ·refine T.seq (T.region (go 4 3 (RS.nil ?_)))
   cases h
   exact tD
  refine T.skip (TD.defer 1 rfl (go 1 3 (RS.nil ⟨_,_,_,rfl,rfl,idleF,(T.seq (T.region (go 5 3 (RS.nil (T.seq ?_)))))⟩)))
  obtain ⟨x4,hx4,h⟩:=bind_some h
  refine T.region (go 2 5 (sQ (v_bnd (cs:=[.ptr 3 0]) rfl (sO (Q6a (ac:=[.ptr 3 0,.bnd 43 [.ptr 3 0]]) (as0:=[.ptr 0 0,.bnd 43 [.ptr 0 0]]) (aw0:=[.box [.str p2]]) (aw1:=[.box [.str x4.2],aR 3 1 encI x4.1]) (aw2:=[.box (Jfa p0),.box [.nils,.nils,.nils,.nils,.nils],.box [iI 0],.box [.str x4.2],.box [.ptr 3 0],aR 3 1 encI x4.1]) (v:=.ref 1) (v':=.ref 5) (n0:=5) (n1:=2) [3] rfl rfl rfl rfl (by decide) (Jba (cs:=[.str p2]) (ds:=[.str p2]) rfl ⟨J8a rfl,trivial⟩ (Qna)) ⟨Qla rfl,rn_bnd ⟨Qla rfl,trivial⟩,trivial⟩ (save_list_int_x6121_c p2 x4 hx4) rfl (J2a (by decide)) ⟨.inr ⟨rfl,rfl⟩,.inr ⟨rfl,rfl⟩,.inr ⟨rfl,rfl⟩,.inl ⟨0,_,by decide,rfl,Q7a (cs:=[.str x4.2]) (ds:=[.str x4.2]) ⟨Qea (Jda _),trivial⟩⟩,.inr ⟨rfl,rfl⟩,.inl ⟨1,_,by decide,rfl,Jna encI_p⟩,trivial⟩ (go 2 6 (RS.nil (T.seq ?_))))))))
  obtain ⟨x6,hx6,h⟩:=bind_some h
  refine T.region (go 2 6 (sQ (v_bnd (cs:=[.ptr 3 0]) rfl (sO (Q6a (ac:=[.ptr 3 0,.bnd 45 [.ptr 3 0]]) (as0:=[.ptr 0 0,.bnd 45 [.ptr 0 0]]) (aw0:=[.box [.str x4.2]]) (aw1:=[.box [.str x6.2],aR 52 1 (encL Qaa) x6.1]) (aw2:=[.box (Jfa p0),.box [.ref 5,.nils,.nils,.nils,.nils],.box [iI 0],.box [.str x6.2],.box [.ptr 3 0],aR 3 1 encI x4.1,aR 52 1 (encL Qaa) x6.1]) (v:=.ref 1) (v':=.ref 6) (n0:=6) (n1:=2) [3] rfl rfl rfl rfl (by decide) (Jba (cs:=[.str x4.2]) (ds:=[.str x4.2]) rfl ⟨J8a rfl,trivial⟩ (Qna)) ⟨Qla rfl,rn_bnd ⟨Qla rfl,trivial⟩,trivial⟩ (save_list_Item_xfbdb_c x4.2 x6 hx6) rfl (J2a (by decide)) ⟨.inr ⟨rfl,rfl⟩,.inr ⟨rfl,rfl⟩,.inr ⟨rfl,rfl⟩,.inl ⟨0,_,by decide,rfl,Q7a (cs:=[.str x6.2]) (ds:=[.str x6.2]) ⟨Qea (Jda _),trivial⟩⟩,.inr ⟨rfl,rfl⟩,.inr ⟨rfl,rfl⟩,.inl ⟨1,_,by decide,rfl,Jna (encL_p Jga)⟩,trivial⟩ (go 2 7 (RS.nil (T.seq ?_))))))))
  obtain ⟨x8,hx8,h⟩:=bind_some h
  refine T.region (go 2 7 (sO (Q6a (ac:=[.ptr 3 0,.func 47 [.ptr 4 0]]) (as0:=[.ptr 0 0,.func 47 [.ptr 1 0]]) (aw0:=[.box [.str x6.2],.box [.ptr 0 0]]) (aw1:=[.box [.str x8.2],.box [.ptr 0 0],aR 90 3 Qda x8.1]) (aw2:=[.box (Jfa p0),.box [.ref 5,.ref 6,.nils,.nils,.nils],.box [iI 0],.box [.str x8.2],.box [.ptr 3 0],aR 3 1 encI x4.1,aR 52 1 (encL Qaa) x6.1,aR 90 3 Qda x8.1]) (v:=.ref 2) (v':=.ref 7) (n0:=7) (n1:=3) [3,4] rfl rfl rfl rfl (by decide) (Jba (cs:=[.str x6.2]) (ds:=[.str x6.2]) rfl ⟨J8a rfl,trivial⟩ (Jba (cs:=[.ptr 0 0]) (ds:=[.ptr 3 0]) rfl ⟨Qla rfl,trivial⟩ (Qna))) ⟨Qla rfl,V3a ⟨Qla rfl,trivial⟩,trivial⟩ (save_list_api_Memory_xfa57_c x6.2 x8 hx8) rfl (J2a (by decide)) ⟨.inr ⟨rfl,rfl⟩,.inr ⟨rfl,rfl⟩,.inr ⟨rfl,rfl⟩,.inl ⟨0,_,by decide,rfl,Q7a (cs:=[.str x8.2]) (ds:=[.str x8.2]) ⟨Qea (Jda _),trivial⟩⟩,.inl ⟨1,_,by decide,rfl,Q7a (cs:=[.ptr 3 0]) (ds:=[.ptr 0 0]) ⟨rm_ptr (by decide),trivial⟩⟩,.inr ⟨rfl,rfl⟩,.inr ⟨rfl,rfl⟩,.inl ⟨2,_,by decide,rfl,Jna Zba⟩,trivial⟩ (go 2 8 (RS.nil (T.seq ?_))))))
  obtain ⟨x10,hx10,h⟩:=bind_some h
  refine T.region (go 2 8 (sO (Q6a (ac:=[.ptr 3 0,.func 51 [.ptr 4 0]]) (as0:=[.ptr 0 0,.func 51 [.ptr 1 0]]) (aw0:=[.box [.str x8.2],.box [.ptr 0 0]]) (aw1:=[.box [.str x10.2],.box [.ptr 0 0],aR 94 2 Qia x10.1]) (aw2:=[.box (Jfa p0),.box [.ref 5,.ref 6,.ref 7,.nils,.nils],.box [iI 0],.box [.str x10.2],.box [.ptr 3 0],aR 3 1 encI x4.1,aR 52 1 (encL Qaa) x6.1,aR 90 3 Qda x8.1,aR 94 2 Qia x10.1]) (v:=.ref 2) (v':=.ref 8) (n0:=8) (n1:=3) [3,4] rfl rfl rfl rfl (by decide) (Jba (cs:=[.str x8.2]) (ds:=[.str x8.2]) rfl ⟨J8a rfl,trivial⟩ (Jba (cs:=[.ptr 0 0]) (ds:=[.ptr 3 0]) rfl ⟨Qla rfl,trivial⟩ (Qna))) ⟨Qla rfl,V3a ⟨Qla rfl,trivial⟩,trivial⟩ (save_list_api_Choice_xfcb2_c x8.2 x10 hx10) rfl (J2a (by decide)) ⟨.inr ⟨rfl,rfl⟩,.inr ⟨rfl,rfl⟩,.inr ⟨rfl,rfl⟩,.inl ⟨0,_,by decide,rfl,Q7a (cs:=[.str x10.2]) (ds:=[.str x10.2]) ⟨Qea (Jda _),trivial⟩⟩,.inl ⟨1,_,by decide,rfl,Q7a (cs:=[.ptr 3 0]) (ds:=[.ptr 0 0]) ⟨rm_ptr (by decide),trivial⟩⟩,.inr ⟨rfl,rfl⟩,.inr ⟨rfl,rfl⟩,.inr ⟨rfl,rfl⟩,.inl ⟨2,_,by decide,rfl,Jna Zca⟩,trivial⟩ (go 2 9 (RS.nil (T.seq ?_))))))
  obtain ⟨x12,hx12,h⟩:=bind_some h
  refine T.region (go 1 9 (sO (Q6a (ac:=[.ptr 3 0]) (as0:=[.ptr 0 0]) (aw0:=[.box [.str x10.2]]) (aw1:=[.box [.str x12.2],aR 115 3 Qaa x12.1]) (aw2:=[.box (Jfa p0),.box [.ref 5,.ref 6,.ref 7,.ref 8,.nils],.box [iI 0],.box [.str x12.2],.box [.ptr 3 0],aR 3 1 encI x4.1,aR 52 1 (encL Qaa) x6.1,aR 90 3 Qda x8.1,aR 94 2 Qia x10.1,aR 115 3 Qaa x12.1]) (v:=.ref 1) (v':=.ref 9) (n0:=9) (n1:=2) [3] rfl rfl rfl rfl (by decide) (Jba (cs:=[.str x10.2]) (ds:=[.str x10.2]) rfl ⟨J8a rfl,trivial⟩ (Qna)) ⟨Qla rfl,trivial⟩ (Jfb x10.2 x12 hx12) rfl (J2a (by decide)) ⟨.inr ⟨rfl,rfl⟩,.inr ⟨rfl,rfl⟩,.inr ⟨rfl,rfl⟩,.inl ⟨0,_,by decide,rfl,Q7a (cs:=[.str x12.2]) (ds:=[.str x12.2]) ⟨Qea (Jda _),trivial⟩⟩,.inr ⟨rfl,rfl⟩,.inr ⟨rfl,rfl⟩,.inr ⟨rfl,rfl⟩,.inr ⟨rfl,rfl⟩,.inr ⟨rfl,rfl⟩,.inl ⟨1,_,by decide,rfl,Jna Jga⟩,trivial⟩ (go 2 10 (RS.nil (T.seq (T.seq ?_)))))))
  obtain ⟨x14,hx14,h⟩:=bind_some h
  refine T.region (go 3 10 (sO (cF (save_Bytes_c p0 p1 (⟨x4.1,x6.1,x8.1,x10.1,x12.1⟩:State) x14 hx14) ⟨rfl,(go 5 10 (RS.nil (T.join (Z:=Unit) (fun _=>mkA 60 [(6,.ptr 0 0),(7,.ptr 1 0),(57,.bool ((x14.2 != 0) || !(x14.1==p2)))]) (fun _=>[.box [.ref 2,.ref 3,.ref 4,.ref 5,.ref 6],.box [iI 0],aR 3 1 encI x4.1,aR 52 1 (encL Qaa) x6.1,aR 90 3 Qda x8.1,aR 94 2 Qia x10.1,aR 115 3 Qaa x12.1]) (fun _=>True) (fun _ _=>?_) (fun hK=>?_))))⟩)))
  ·refine T.ci h rfl (fun hb_3 h=>?_) (fun hb_3 h=>?_)
   ·refine T.seq (T.region (go 3 7 (RS.nil ?_)))
    cases h
    exact tD
   refine T.skip (T.seq (T.region (go 3 7 (RS.nil ?_))))
   cases h
   exact tD
  refine T.region (go 3 10 ?_)
  rcases Qca (x14.2 != 0) with hb_2 | hb_2
  ·refine sN hb_2 (sN hb_2 (sN hb_2 (sQ (Qga (v:=.bool true) rfl hb_2 rfl (RS.nil ?_)))))
   exact T.weakR (hK () trivial) (Weak.mkN [] [1,2,5,6,7,8,9] (by decide) (Qra _) rfl ⟨Qla rfl,Qla rfl,Jha (by simp only [hb_2,bz,if_true,if_false,Bool.false_eq_true]),trivial⟩ (Jba (cs:=[.ref 2,.ref 3,.ref 4,.ref 5,.ref 6]) (ds:=[.ref 5,.ref 6,.ref 7,.ref 8,.ref 9]) rfl ⟨Q9a rfl,Q9a rfl,Q9a rfl,Q9a rfl,Q9a rfl,trivial⟩ (rw_bs [iI 0] rfl (rw_ar rfl rfl (rw_ar rfl rfl (rw_ar rfl rfl (rw_ar rfl rfl (rw_ar rfl rfl (Qna)))))))))
  refine yg 10 hb_2 (yg 10 hb_2 (yg 10 hb_2 (sQ (Qba (v:=.bool (!(x14.1==p2))) rfl hb_2 rfl (RS.nil ?_)))))
  exact T.weakR (hK () trivial) (Weak.mkN [] [1,2,5,6,7,8,9] (by decide) (Qra _) rfl ⟨Qla rfl,Qla rfl,Jha (by simp only [hb_2,bz,if_true,if_false,Bool.false_eq_true]),trivial⟩ (Jba (cs:=[.ref 2,.ref 3,.ref 4,.ref 5,.ref 6]) (ds:=[.ref 5,.ref 6,.ref 7,.ref 8,.ref 9]) rfl ⟨Q9a rfl,Q9a rfl,Q9a rfl,Q9a rfl,Q9a rfl,trivial⟩ (rw_bs [iI 0] rfl (rw_ar rfl rfl (rw_ar rfl rfl (rw_ar rfl rfl (rw_ar rfl rfl (rw_ar rfl rfl (Qna)))))))))
theorem disk_put_x866e_c (p0:List Write) (p1:List (List UInt8)) (r:List (List UInt8)) (h:Jeb p0 p1=some r):FnX Tryz.prog 91 [.ref 0,sL Jja p0] [aR 9 1 encS p1] (.ref 1) [.dead,aR 9 1 encS r]:=by
  unfold Jeb at h
  refine fnT 1 Tryz.func91 Tryz.ntmps91 ?_
  refine T.mvS 0 0 rfl rfl rfl rfl (T.seq (T.region (go 1 2 (RS.nil (T.seq (T.seq (T.region (go 1 2 (sQ (Qka Ty.s23 rfl ?_))))))))))
  refine go 1 2 (RS.nil (T.block (T.iter (fun ss_15:Int × (List (List UInt8))=>mkA 29 [(0,.ref 1),(7,sL Jja p0),(8,iI ((p0).length:Int)),(9,iI ss_15.1)]) (fun ss_15=>[.dead,aR 9 1 encS ss_15.2]) h (wk [] [0,1] 2 rfl) (fun ss_15 v_16 h hv_16=>?_))))
  obtain ⟨s1,s2⟩:=ss_15
  replace h:Zya p0 s1 s2=some v_16:=h
  try dsimp only
  unfold Zya at h
  refine T.seq (T.region (go 1 2 (RS.nil (T.seq (T.ci h rfl (fun hb_17 h=>?_) (fun hb_17 h=>?_))))))
  ·refine T.skip (T.seq (T.block (T.seq ?_)))
   obtain ⟨x4,hx4,h⟩:=bind_some h
   refine T.region (sQ (Qja Ty.s23 (fun _=>rfl) rfl rfl hx4 (go 3 2 (RS.nil (T.seq (T.block (T.iter (fun ss_20:List (List UInt8)=>mkA 29 [(0,.ref 1),(6,.ptr 2 0),(7,sL Jja p0),(8,iI ((p0).length:Int)),(9,iI s1)]) (fun ss_20=>[.dead,aR 9 1 encS ss_20,.box (Jja x4)]) h (wk [] [0,1,2] 3 rfl) (fun ss_20 v_21 h hv_21=>?_))))))))
   revert hv_21 h;revert ss_20;intro s5 h hv_21
   replace h:Q7b s1 x4 s5=some v_21:=h
   try dsimp only
   unfold Q7b at h
   refine T.seq (T.seq (T.region (go 1 3 (sQ (Zga (en:=encS) Ty.s22 rfl rfl (go 3 3 (RS.nil (T.ci h rfl (fun hb_22 h=>?_) (fun hb_22 h=>?_)))))))))
   ·refine T.skip (T.block ?_)
    obtain ⟨x6,hx6,h⟩:=bind_some h
    refine T.region (go 1 3 (sO (Qsa (rows:=List.map encS [[]]) (vs:=[.str []]) Ty.s22 Ty.z9 rfl rfl rfl rfl rfl rfl (sO (Zva (en:=encS) (xs:=s5) (ys:=([[]]:List (List UInt8))) Ty.s22 (fun _=>rfl) rfl rfl rfl hx6 rfl rfl (go 1 5 (RS.nil ?_)))))))
    exact ⟨x6,(Option.some.inj h).symm,wk [] [0,4,2] 5 rfl⟩
   refine T.exit ?_
   obtain ⟨w_23,h,hw_23⟩:=Qva h
   replace h:=h.trans (congrArg some (hv_21 _ hw_23))
   obtain ⟨x7,hx7,h⟩:=bind_some h
   obtain ⟨x8,hx8,h⟩:=bind_some h
   refine T.region (go 5 3 (sQ (Qha (en:=encS) Ty.s22 rfl rfl rfl hx7 (sO (Zxa (en:=encS) (a:=x8) (a':=x4.Bytes) Ty.c9 Ty.i9 rfl (vs:=[.str x4.Bytes]) rfl rfl rfl hx8 rfl rfl rfl (RS.nil (T.region (go 2 3 (RS.nil ?_)))))))))
   exact ⟨(IntKind.i64.wrap (s1+1),(List.set s5 x7 x4.Bytes)),(Option.some.inj h).symm,wk [] [0,1] 3 rfl⟩
  refine T.exit ?_
  obtain ⟨w_24,h,hw_24⟩:=Qva h
  replace h:=h.trans (congrArg some (hv_16 _ hw_24))
  refine T.seq (T.region (go 2 2 (RS.nil ?_)))
  cases h
  exact tO [] [0,1] 2
theorem disk_Cut_c (p0:Disk) (p1:Int) (r:Disk × Int) (h:disk_Cut p0 p1=some r):Fn Tryz.prog 68 [.agg (Qpa p0),iI p1] (.tup [.agg (Qpa r.1),iI r.2]):=by
  unfold disk_Cut at h
  refine fnT 0 Tryz.func68 Tryz.ntmps68 ?_
  refine T.seq (T.region (go 3 0 (RS.nil (T.seq (T.seq ?_)))))
  obtain ⟨x2,hx2,h⟩:=bind_some h
  refine T.region (go 1 2 (sO (cF (disk_Check_c p0 x2 hx2) ⟨rfl,(go 1 2 (RS.nil (T.seq (T.region (go 2 2 (RS.nil (T.ci h rfl (fun hb_1 h=>?_) (fun hb_1 h=>?_))))))))⟩)))
  ·refine T.seq (T.region (go 4 2 (RS.nil ?_)))
   cases h
   exact tD
  refine T.skip (T.seq (T.join (Z:=Unit) (fun _=>mkA 32 [(1,iI p1),(2,.ptr 0 0),(4,.ptr 1 0),(21,.bool ((decide (p1<0)) || decide (p1 > ((p0.Wait).length:Int))))]) (fun _=>[.box (Qpa p0),.box [.nils,.nils]]) (fun _=>True) (fun _ _=>?_) (fun hK=>?_)))
  ·refine T.ci h rfl (fun hb_3 h=>?_) (fun hb_3 h=>?_)
   ·refine T.seq (T.region (go 3 2 (RS.nil ?_)))
    cases h
    exact tD
   refine T.skip (T.seq ?_)
   obtain ⟨x7,hx7,h⟩:=bind_some h
   obtain ⟨x8,hx8,h⟩:=bind_some h
   obtain ⟨x9,hx9,h⟩:=bind_some h
   refine T.drawn mixed (k:=11) rfl ?_
   apply RA.jn 4 #[true,true,true,true,true,true,true,false,false,false,false];intro hS4
   apply RA.jn 5 #[true,true,false,true,true,true,true,false,false,false,false];intro hS5
   ·refine rq [0,3,5] 8 (ra2 1 4 ?_ ?_)
    ·refine og 2 ⟨rfl,(ra2 2 4 ?_ ?_)⟩
     ·refine oO rfl (cO 2 (Z4a p0.Sectors x7 hx7) ⟨rfl,(ra1 4 (og 3 ⟨rfl,(r0 6 rfl (v_slice_sl Ty.s23 (fun _=>rfl) rfl rfl rfl hx8 ?_))⟩))⟩)
      exact raE hS4
     ·refine og 2 ⟨rfl,(r0 6 rfl (v_slice_sl Ty.s23 (fun _=>rfl) rfl rfl rfl hx8 ?_))⟩
      exact raE hS5
    ·refine og 2 ⟨rfl,(r0 6 rfl (v_slice_sl Ty.s23 (fun _=>rfl) rfl rfl rfl hx8 (ra1 1 (og 2 ⟨rfl,?_⟩))))⟩
     exact raT hS5
   ·refine ra1 2 (oO rfl (cO 2 (Z4a p0.Sectors x7 hx7) ⟨rfl,?_⟩))
    exact raT hS4
   refine ra1 7 (oO rfl (Q6a (ac:=[.ref 2,sL Jja x8]) (as0:=[.ref 0,sL Jja x8]) (aw0:=[aR 9 1 encS x7]) (aw1:=[.dead,aR 9 1 encS x9]) (aw2:=[.box (Qpa p0),.box [.nils,.nils],.dead,aR 9 1 encS x9]) (v:=.ref 1) (v':=.ref 3) (n0:=3) (n1:=2) [2] rfl rfl rfl rfl (by decide) (J4a rfl encS_p rfl (Qna)) ⟨Q9a rfl,rn_s rfl,trivial⟩ (disk_put_x866e_c x8 x7 x9 hx9) rfl (J2a (by decide)) ⟨.inr ⟨rfl,rfl⟩,.inr ⟨rfl,rfl⟩,.inl ⟨0,_,by decide,rfl,trivial⟩,.inl ⟨1,_,by decide,rfl,Jna encS_p⟩,trivial⟩ (rq [8] 2 (ra1 9 (og 4 ⟨rfl,(rq [10] 0 (RA.done (by decide +kernel) ?_))⟩)))))
   cases h
   exact tD
  refine T.region (go 3 2 ?_)
  rcases Qca (decide (p1<0)) with hb_2 | hb_2
  ·refine sN hb_2 (sN hb_2 (sN hb_2 (sN hb_2 (sN hb_2 (sQ (Qga (v:=.bool true) rfl hb_2 rfl (RS.nil ?_)))))))
   exact T.sub (hK () trivial) ⟨rfl,rfl,rfl,(congrArg AV.bool (by simp only [hb_2,bz,if_true,if_false,Bool.false_eq_true])).symm,trivial⟩
  refine yg 2 hb_2 (yg 2 hb_2 (yg 2 hb_2 (yQ hb_2 (Qka Ty.s23 rfl (yg 2 hb_2 (sQ (Qba (v:=.bool (decide (p1 > ((p0.Wait).length:Int)))) rfl hb_2 rfl (RS.nil ?_))))))))
  exact T.sub (hK () trivial) ⟨rfl,rfl,rfl,(congrArg AV.bool (by simp only [hb_2,bz,if_true,if_false,Bool.false_eq_true])).symm,trivial⟩
theorem disk_Flush_c (p0:Disk) (r:Disk × Int) (h:disk_Flush p0=some r):Fn Tryz.prog 29 [.agg (Qpa p0)] (.tup [.agg (Qpa r.1),iI r.2]):=by
  unfold disk_Flush at h
  refine fnT 0 Tryz.func29 Tryz.ntmps29 ?_
  refine T.seq (T.region (go 3 0 (RS.nil (T.seq ?_))))
  obtain ⟨x2,hx2,h⟩:=bind_some h
  refine T.region (go 3 2 (sQ (Qka Ty.s23 rfl (sO (cD (disk_Cut_c p0 ((p0.Wait).length:Int) x2 hx2) ⟨rfl,(go 4 2 (RS.nil ?_))⟩)))))
  cases h
  exact tD
theorem frame_Read_c (p0:List UInt8) (r:(List (List UInt8)) × Int × Int) (h:frame_Read p0=some r):FnO Tryz.prog 33 [.str p0] (.tup [.ref 0,iI r.2.1,iI r.2.2]) [aR 9 1 encS r.1]:=by
  unfold frame_Read at h
  refine fnT 0 Tryz.func33 Tryz.ntmps33 ?_
  refine T.seq (T.region (go 3 0 (RS.nil (T.seq (T.seq (T.region (go 3 0 (RS.nil (T.ci h rfl (fun hb_1 h=>?_) (fun hb_1 h=>?_))))))))))
  ·refine T.seq (T.region (go 3 0 (RS.nil ?_)))
   cases h
   exact tO [(0,9,1)] [0] 0
  refine T.skip (T.seq (T.block (T.iter (fun ss_12:Int × (List (List UInt8))=>mkA 66 [(0,.str p0),(2,.ref 0),(3,iI ss_12.1)]) (fun ss_12=>[aR 9 1 encS ss_12.2]) h (wk [(2,9,1)] [0] 0 rfl) (fun ss_12 v_13 h hv_13=>?_))))
  obtain ⟨s1,s2⟩:=ss_12
  replace h:Zka p0 s1 s2=some v_13:=h
  try dsimp only
  unfold Zka at h
  refine T.seq (T.seq (T.region (go 4 1 (RS.nil (T.ci h rfl (fun hb_14 h=>?_) (fun hb_14 h=>?_))))))
  ·refine T.skip (T.block (T.seq ?_))
   obtain ⟨x4,hx4,h⟩:=bind_some h
   refine T.region (go 2 1 (sO (Y6a Tryz.underlying9 rfl rfl rfl hx4 (go 1 1 (RS.nil (T.seq ?_))))))
   obtain ⟨x6,hx6,h⟩:=bind_some h
   refine T.region (go 1 1 (sQ (Jaa Tryz.underlying9 rfl rfl hx6 (go 2 1 (RS.nil (T.seq (T.join (Z:=Unit) (fun _=>mkA 66 [(0,.str p0),(2,.ref 0),(3,iI s1),(5,.str x4),(6,iI (IntKind.i64.wrap (x6.toNat:Int))),(33,.bool ((decide ((IntKind.i64.wrap (x6.toNat:Int))<1)) || ((decide ((IntKind.i64.wrap (x6.toNat:Int)) > 60)) || decide (((x4).length:Int)<(IntKind.i64.wrap ((IntKind.i64.wrap (x6.toNat:Int))+3))))))]) (fun _=>[aR 9 1 encS s2]) (fun _=>True) (fun _ _=>?_) (fun hK=>?_))))))))
   ·refine T.ci h rfl (fun hb_17 h=>?_) (fun hb_17 h=>?_)
    ·refine T.exit ?_
     obtain ⟨w_18,h,hw_18⟩:=Qva h
     replace h:=h.trans (congrArg some (hv_13 _ hw_18))
     refine T.seq (T.region (go 5 1 (RS.nil ?_)))
     cases h
     exact tO [] [0] 1
    refine T.skip (T.seq ?_)
    obtain ⟨x10,hx10,h⟩:=bind_some h
    obtain ⟨x11,hx11,h⟩:=bind_some h
    refine T.region (go 3 1 (sO (Y6a Tryz.underlying9 rfl rfl rfl hx10 (sO (cF (frame_sum_c x10 x11 hx11) ⟨rfl,(go 1 1 (RS.nil (T.seq (T.seq ?_))))⟩)))))
    obtain ⟨x15,hx15,h⟩:=bind_some h
    obtain ⟨x16,hx16,h⟩:=bind_some h
    obtain ⟨x17,hx17,h⟩:=bind_some h
    refine T.drawn mixed (k:=14) rfl (rq [0,1,2] 11 (r0 3 rfl (Jaa Tryz.underlying9 rfl rfl hx15 (rq [4] 9 (r0 5 rfl (v_shl rfl rfl hx16 (rq [6,7,8] 5 (r0 9 rfl (Jaa Tryz.underlying9 rfl rfl hx17 (rq [10,11,12,13] 0 (RA.done (by decide +kernel) (T.ci h rfl (fun hb_19 h=>?_) (fun hb_19 h=>?_)))))))))))))
    ·refine T.exit ?_
     obtain ⟨w_20,h,hw_20⟩:=Qva h
     replace h:=h.trans (congrArg some (hv_13 _ hw_20))
     refine T.seq (T.region (go 5 1 (RS.nil ?_)))
     cases h
     exact tO [] [0] 1
    refine T.skip (T.seq ?_)
    obtain ⟨x20,hx20,h⟩:=bind_some h
    obtain ⟨x21,hx21,h⟩:=bind_some h
    refine T.region (go 4 1 (sO (Y6a Tryz.underlying9 rfl rfl rfl hx20 (sO (Qsa (rows:=List.map encS [x20]) (vs:=[.str x20]) Ty.s22 Ty.z9 rfl rfl rfl rfl rfl rfl (sO (Zva (en:=encS) (xs:=s2) (ys:=([x20]:List (List UInt8))) Ty.s22 (fun _=>rfl) rfl rfl rfl hx21 rfl rfl (go 1 3 (RS.nil (T.region (go 5 3 (RS.nil ?_))))))))))))
    exact ⟨(IntKind.i64.wrap (s1+(IntKind.i64.wrap ((IntKind.i64.wrap (x6.toNat:Int))+3))),x21),(Option.some.inj h).symm,wk [] [2] 3 rfl⟩
   refine T.region (go 3 1 ?_)
   rcases Qca (decide ((IntKind.i64.wrap (x6.toNat:Int))<1)) with hb_15 | hb_15
   ·refine sN hb_15 (sN hb_15 (sQ (Qga (v:=.bool true) rfl hb_15 rfl (go 1 1 (sN rfl (sN rfl (sN rfl (sN rfl (sN rfl (sQ (Qga (v:=.bool true) rfl rfl rfl ?_)))))))))))
    refine RS.nil ?_
    exact T.sub (hK () trivial) ⟨rfl,rfl,rfl,rfl,rfl,(congrArg AV.bool (by simp only [hb_15,bz,if_true,if_false,Bool.false_eq_true])).symm,trivial⟩
   refine yg 1 hb_15 (yg 1 hb_15 (sQ (Qba (v:=.bool (decide ((IntKind.i64.wrap (x6.toNat:Int)) > 60))) rfl hb_15 rfl (go 1 1 ?_))))
   rcases Qca (decide ((IntKind.i64.wrap (x6.toNat:Int)) > 60)) with hb_16 | hb_16
   ·refine sN hb_16 (sN hb_16 (sN hb_16 (sN hb_16 (sN hb_16 (sQ (Qga (v:=.bool true) rfl hb_16 rfl (RS.nil ?_)))))))
    exact T.sub (hK () trivial) ⟨rfl,rfl,rfl,rfl,rfl,(congrArg AV.bool (by simp only [hb_15,hb_16,bz,if_true,if_false,Bool.false_eq_true])).symm,trivial⟩
   refine yg 1 hb_16 (yg 1 hb_16 (yg 1 hb_16 (yg 1 hb_16 (yg 1 hb_16 (sQ (Qba (v:=.bool (decide (((x4).length:Int)<(IntKind.i64.wrap ((IntKind.i64.wrap (x6.toNat:Int))+3))))) rfl hb_16 rfl (RS.nil ?_)))))))
   exact T.sub (hK () trivial) ⟨rfl,rfl,rfl,rfl,rfl,(congrArg AV.bool (by simp only [hb_15,hb_16,bz,if_true,if_false,Bool.false_eq_true])).symm,trivial⟩
  refine T.exit ?_
  obtain ⟨w_21,h,hw_21⟩:=Qva h
  replace h:=h.trans (congrArg some (hv_13 _ hw_21))
  refine T.seq (T.region (go 5 1 (RS.nil ?_)))
  cases h
  exact tO [] [0] 1
end Go.Proofs.YtchmpaaofmihcaaGreat
namespace Go.Proofs.YtchmpaaofmihcaaGreat
open Go.RowKit
set_option linter.unusedVariables false
set_option linter.unusedSimpArgs false
set_option maxRecDepth 100000
set_option maxHeartbeats 4000000
set_option synthInstance.maxSize 100000
set_option synthInstance.maxHeartbeats 4000000
theorem save_Get_1_x9d52_c (p0:Int) (p1:Int) (p2:List (List UInt8)) (p3:List Write) (r:(List UInt8) × Bool) (h:Yia p0 p1 p2 p3=some r):FnX Tryz.prog 32 [iI p0,.ptr 0 0,.ptr 1 0] [.box [iI p1],.box [sL encS p2,sL Jja p3]] (.tup [.str r.1,.bool r.2]) [.box [iI p1],.box [sL encS p2,sL Jja p3]]:=by
  unfold Yia at h
  refine fnT 2 Tryz.func32 Tryz.ntmps32 ?_
  refine T.seq (T.region (go 2 2 (RS.nil (T.seq (T.region (go 5 2 (RS.nil (T.seq (T.seq ?_)))))))))
  refine T.region (go 3 2 (sQ (Qka Ty.s22 rfl (go 1 2 (RS.nil (T.ci h rfl (fun hb_1 h=>?_) (fun hb_1 h=>?_)))))))
  ·refine T.seq (T.region (go 2 2 (RS.nil ?_)))
   cases h
   exact tN [0,1]
  refine T.skip (T.seq ?_)
  obtain ⟨x3,hx3,h⟩:=bind_some h
  obtain ⟨x4,hx4,h⟩:=bind_some h
  refine T.region (go 3 2 (sQ (Qja Ty.s22 (fun _=>rfl) rfl rfl hx3 (go 1 2 (sO (cO 2 (frame_Read_c x3 x4 hx4) ⟨rfl,(go 7 3 (RS.nil (T.seq ?_)))⟩))))))
  obtain ⟨zt_5,hz,h⟩:=bind_some h
  revert hz h;revert zt_5;intro c11 hz h
  refine T.join (Z:=Unit) (fun _=>mkA 61 [(7,.ref 2),(57,.bool c11)]) (fun _=>[.box [iI p1],.box [sL encS p2,sL Jja p3],aR 9 1 encS x4.1]) (fun _=>True) (fun _ _=>?_) (fun hK=>?_)
  ·refine T.ci h rfl (fun hb_6 h=>?_) (fun hb_6 h=>?_)
   ·refine T.seq (T.region (go 2 3 (RS.nil ?_)))
    cases h
    exact tN [0,1]
   refine T.skip (T.seq ?_)
   obtain ⟨x14,hx14,h⟩:=bind_some h
   obtain ⟨x15,hx15,h⟩:=bind_some h
   refine T.region (go 1 3 (sQ (Qha (en:=encS) Ty.s22 rfl rfl rfl hx14 (sO (Qfa (en:=encS) (a:=x15) rfl rfl hx15 (Q0a Ty.k9 (c:=.str x15) rfl (go 2 3 (RS.nil ?_))))))))
   cases h
   exact tN [0,1]
  refine T.region (go 1 3 (sQ (Zga (en:=encS) Ty.s22 rfl rfl (go 2 3 ?_))))
  rcases Qca (((x4.1).length:Int) != 1) with hb_2 | hb_2
  ·replace hz:=ite_T hz hb_2
   refine sN hb_2 (sN hb_2 (sN hb_2 (sN hb_2 (sN hb_2 (sN hb_2 (sN hb_2 (sN hb_2 (sQ (Qga (v:=.bool true) rfl hb_2 rfl (go 1 3 ?_))))))))))
   refine sN rfl (sN rfl (sN rfl (sN rfl (sN rfl (sQ (Qga (v:=.bool true) rfl rfl rfl (go 1 3 (sN rfl (sN rfl (sN rfl ?_))))))))))
   refine sN rfl (sN rfl (sN rfl (sN rfl (sQ (Qga (v:=.bool true) rfl rfl rfl (RS.nil ?_))))))
   exact T.sub (hK () trivial) ⟨rfl,(congrArg AV.bool ((congrArg (fun p=>p) (Option.some.inj hz)).symm)).symm,trivial⟩
  replace hz:=ite_F hz hb_2
  obtain ⟨x5,hx5,hz⟩:=bind_some hz
  refine yg 3 hb_2 (yg 3 hb_2 (yg 3 hb_2 (yg 3 hb_2 (yQ hb_2 (Qja Ty.s22 (fun _=>rfl) rfl rfl hx5 (yg 3 hb_2 (yg 3 hb_2 (yg 3 hb_2 (sQ (Qba (v:=.bool (x4.2.1 != ((x5).length:Int))) rfl hb_2 rfl (go 1 3 ?_)))))))))))
  rcases Qca (x4.2.1 != ((x5).length:Int)) with hb_3 | hb_3
  ·replace hz:=ite_T hz hb_3
   refine sN hb_3 (sN hb_3 (sN hb_3 (sN hb_3 (sN hb_3 (sQ (Qga (v:=.bool true) rfl hb_3 rfl (go 1 3 (sN rfl (sN rfl (sN rfl ?_))))))))))
   refine sN rfl (sN rfl (sN rfl (sN rfl (sQ (Qga (v:=.bool true) rfl rfl rfl (RS.nil ?_))))))
   exact T.sub (hK () trivial) ⟨rfl,(congrArg AV.bool ((congrArg (fun p=>p) (Option.some.inj hz)).symm)).symm,trivial⟩
  replace hz:=ite_F hz hb_3
  obtain ⟨x6,hx6,hz⟩:=bind_some hz
  obtain ⟨x7,hx7,hz⟩:=bind_some hz
  refine yg 3 hb_3 (yQ hb_3 (Qha (en:=encS) Ty.s22 rfl rfl rfl hx6 (yO hb_3 (Qfa (en:=encS) (a:=x7) rfl rfl hx7 (Q0a Ty.k9 (c:=.str x7) rfl (yg 3 hb_3 (yg 3 hb_3 (sQ (Qba (v:=.bool (decide (((x7).length:Int)<3))) rfl hb_3 rfl (go 1 3 ?_))))))))))
  rcases Qca (decide (((x7).length:Int)<3)) with hb_4 | hb_4
  ·replace hz:=ite_T hz hb_4
   refine sN hb_4 (sN hb_4 (sN hb_4 (sN hb_4 (sN hb_4 (sN hb_4 (sN hb_4 (sQ (Qga (v:=.bool true) rfl hb_4 rfl (RS.nil ?_)))))))))
   exact T.sub (hK () trivial) ⟨rfl,(congrArg AV.bool ((congrArg (fun p=>p) (Option.some.inj hz)).symm)).symm,trivial⟩
  replace hz:=ite_F hz hb_4
  obtain ⟨x8,hx8,hz⟩:=bind_some hz
  obtain ⟨x9,hx9,hz⟩:=bind_some hz
  obtain ⟨x10,hx10,hz⟩:=bind_some hz
  refine yg 3 hb_4 (yQ hb_4 (Qha (en:=encS) Ty.s22 rfl rfl rfl hx8 (yO hb_4 (Qfa (en:=encS) (a:=x9) rfl rfl hx9 (Q0a Ty.k9 (c:=.str x9) rfl (yQ hb_4 (Jaa Tryz.underlying9 rfl rfl hx10 (yg 3 hb_4 (yg 3 hb_4 (yg 3 hb_4 (sQ (Qba (v:=.bool ((IntKind.i64.wrap (x10.toNat:Int)) != p0)) rfl hb_4 rfl (RS.nil ?_)))))))))))))
  exact T.sub (hK () trivial) ⟨rfl,(congrArg AV.bool ((congrArg (fun p=>p) (Option.some.inj hz)).symm)).symm,trivial⟩
theorem save_Get_c (p0:Disk) (p1:Int) (r:(List UInt8) × Int × Int) (h:save_Get p0 p1=some r):Fn Tryz.prog 14 [.agg (Qpa p0),iI p1] (.tup [.str r.1,iI r.2.1,iI r.2.2]):=by
  unfold save_Get at h
  refine fnT 0 Tryz.func14 Tryz.ntmps14 ?_
  refine T.seq (T.region (go 5 0 (RS.nil (T.seq (T.seq ?_)))))
  obtain ⟨x2,hx2,h⟩:=bind_some h
  refine T.region (go 1 2 (sO (cF (disk_Check_c p0 x2 hx2) ⟨rfl,(go 1 2 (RS.nil (T.seq (T.region (go 2 2 (RS.nil (T.ci h rfl (fun hb_1 h=>?_) (fun hb_1 h=>?_))))))))⟩)))
  ·refine T.seq (T.region (go 4 2 (RS.nil ?_)))
   cases h
   exact tD
  refine T.skip (T.seq (T.join (Z:=Unit) (fun _=>mkA 112 [(2,.ptr 0 0),(3,.ptr 1 0),(4,.str []),(25,.bool ((decide (p1<0)) || decide (p1 > 1)))]) (fun _=>[.box (Qpa p0),.box [iI p1]]) (fun _=>True) (fun _ _=>?_) (fun hK=>?_)))
  ·refine T.ci h rfl (fun hb_3 h=>?_) (fun hb_3 h=>?_)
   ·refine T.seq (T.region (go 3 2 (RS.nil ?_)))
    cases h
    exact tD
   refine T.skip (T.seq (T.region (go 2 2 (RS.nil (T.seq ?_)))))
   obtain ⟨x5,hx5,h⟩:=bind_some h
   refine T.region (go 1 2 (sO (Q6a (ac:=[iI 0,.ptr 1 0,.ptr 0 0]) (as0:=[iI (0:Int),.ptr 0 0,.ptr 1 0]) (aw0:=[.box [iI p1],.box (Qpa p0)]) (aw1:=[.box [iI p1],.box (Qpa p0)]) (aw2:=[.box (Qpa p0),.box [iI p1]]) (v:=.tup [.str x5.1,.bool x5.2]) (v':=.tup [.str x5.1,.bool x5.2]) (n0:=2) (n1:=2) [1,0] rfl rfl rfl rfl (by decide) (Jba (cs:=[iI p1]) (ds:=[iI p1]) rfl ⟨Qya rfl,trivial⟩ (Jba (cs:=(Qpa p0)) (ds:=(Qpa p0)) rfl ⟨rn_s rfl,rn_s rfl,trivial⟩ (Qna))) ⟨Qya rfl,Qla rfl,Qla rfl,trivial⟩ (save_Get_1_x9d52_c (0:Int) p1 p0.Sectors p0.Wait x5 hx5) rfl (Qib (cs:=[.str x5.1,.bool x5.2]) (ds:=[.str x5.1,.bool x5.2]) ⟨Qea (Jda _),Qea (V1a _),trivial⟩) ⟨.inl ⟨1,_,by decide,rfl,Q7a (cs:=(Qpa p0)) (ds:=(Qpa p0)) ⟨Qea (Qua encS_p _),Qea (Qua Zza _),trivial⟩⟩,.inl ⟨0,_,by decide,rfl,Q7a (cs:=[iI p1]) (ds:=[iI p1]) ⟨Qea (Qwa _ _),trivial⟩⟩,trivial⟩ (go 5 2 (RS.nil (T.seq ?_))))))
   obtain ⟨zt_7,hz,h⟩:=bind_some h
   revert hz h;revert zt_7;intro c8 hz h
   refine T.join (Z:=Unit) (fun _=>mkA 112 [(4,.str []),(8,.func 32 [.ptr 0 0,.ptr 1 0]),(9,.str x5.1),(50,.bool c8)]) (fun _=>[.box [iI p1],.box (Qpa p0)]) (fun _=>True) (fun _ _=>?_) (fun hK=>?_)
   ·refine T.ci h rfl (fun hb_8 h=>?_) (fun hb_8 h=>?_)
    ·refine T.seq (T.region (go 3 2 (RS.nil ?_)))
     cases h
     exact tD
    refine T.skip (T.seq (T.seq (T.region (go 1 2 (RS.nil (T.block (T.iter (fun ss_29:(List UInt8) × Int=>mkA 112 [(4,.str ss_29.1),(8,.func 32 [.ptr 0 0,.ptr 1 0]),(9,.str x5.1),(11,iI ss_29.2)]) (fun ss_29=>[.box [iI p1],.box (Qpa p0)]) h (wk [] [0,1] 2 rfl) (fun ss_29 v_30 h hv_30=>?_))))))))
    obtain ⟨s9,s10⟩:=ss_29
    replace h:Jkb p0 p1 x5 s9 s10=some v_30:=h
    try dsimp only
    unfold Jkb at h
    refine T.seq (T.seq ?_)
    obtain ⟨x12,hx12,h⟩:=bind_some h
    refine T.region (go 2 2 (sQ (Jaa Tryz.underlying9 rfl rfl hx12 (go 2 2 (RS.nil (T.ci h rfl (fun hb_31 h=>?_) (fun hb_31 h=>?_)))))))
    ·refine T.skip (T.seq (T.block (T.seq ?_)))
     obtain ⟨x14,hx14,h⟩:=bind_some h
     refine T.region (go 2 2 (sO (Q6a (ac:=[iI s10,.ptr 0 0,.ptr 1 0]) (as0:=[iI s10,.ptr 0 0,.ptr 1 0]) (aw0:=[.box [iI p1],.box (Qpa p0)]) (aw1:=[.box [iI p1],.box (Qpa p0)]) (aw2:=[.box [iI p1],.box (Qpa p0)]) (v:=.tup [.str x14.1,.bool x14.2]) (v':=.tup [.str x14.1,.bool x14.2]) (n0:=2) (n1:=2) [0,1] rfl rfl rfl rfl (by decide) (Jba (cs:=[iI p1]) (ds:=[iI p1]) rfl ⟨Qya rfl,trivial⟩ (Jba (cs:=(Qpa p0)) (ds:=(Qpa p0)) rfl ⟨rn_s rfl,rn_s rfl,trivial⟩ (Qna))) ⟨Qya rfl,Qla rfl,Qla rfl,trivial⟩ (save_Get_1_x9d52_c s10 p1 p0.Sectors p0.Wait x14 hx14) rfl (Qib (cs:=[.str x14.1,.bool x14.2]) (ds:=[.str x14.1,.bool x14.2]) ⟨Qea (Jda _),Qea (V1a _),trivial⟩) ⟨.inl ⟨0,_,by decide,rfl,Q7a (cs:=[iI p1]) (ds:=[iI p1]) ⟨Qea (Qwa _ _),trivial⟩⟩,.inl ⟨1,_,by decide,rfl,Q7a (cs:=(Qpa p0)) (ds:=(Qpa p0)) ⟨Qea (Qua encS_p _),Qea (Qua Zza _),trivial⟩⟩,trivial⟩ (go 5 2 (RS.nil ?_)))))
     obtain ⟨zt_35,hz,h⟩:=bind_some h
     revert hz h;revert zt_35;intro c16 hz h
     refine T.join (Z:=Unit) (fun _=>mkA 112 [(4,.str s9),(8,.func 32 [.ptr 0 0,.ptr 1 0]),(9,.str x5.1),(11,iI s10),(12,.str x14.1),(13,.bool x14.2),(14,.bool c16)]) (fun _=>[.box [iI p1],.box (Qpa p0)]) (fun _=>True) (fun _ _=>?_) (fun hK=>?_)
     ·refine T.seq ?_
      obtain ⟨zt_39,hz,h⟩:=bind_some h
      revert hz h;revert zt_39;intro c21 hz h
      refine T.join (Z:=Unit) (fun _=>mkA 112 [(4,.str s9),(8,.func 32 [.ptr 0 0,.ptr 1 0]),(9,.str x5.1),(11,iI s10),(12,.str x14.1),(103,.bool c21)]) (fun _=>[.box [iI p1],.box (Qpa p0)]) (fun _=>True) (fun _ _=>?_) (fun hK=>?_)
      ·refine T.ci h rfl (fun hb_40 h=>?_) (fun hb_40 h=>?_)
       ·refine T.seq (T.region (go 3 2 (RS.nil ?_)))
        obtain ⟨w_41,h,hw_41⟩:=Qva h
        replace h:=h.trans (congrArg some (hv_30 _ hw_41))
        cases h
        exact tD
       refine T.skip ?_
       obtain ⟨x22,hx22,h⟩:=bind_some h
       obtain ⟨x23,hx23,h⟩:=bind_some h
       refine T.region (go 2 2 (sO (Y6a Tryz.underlying9 rfl rfl rfl hx22 (sQ (v_sadd rfl rfl hx23 (go 1 2 (RS.nil (T.region (go 3 2 (RS.nil ?_))))))))))
       exact ⟨(x23,IntKind.i64.wrap (s10+1)),(Option.some.inj h).symm,wk [] [0,1] 2 rfl⟩
      rcases Qca (!x14.2) with hb_36 | hb_36
      ·replace hz:=ite_T hz hb_36
       refine T.drawn mixed (k:=20) rfl (rq [0,1,2] 17 (r2 3 rfl hb_36 (r2 4 rfl hb_36 (r2 5 rfl hb_36 (r2 6 rfl hb_36 (r2 7 rfl hb_36 (r0 8 rfl (Qga (v:=.bool true) rfl hb_36 rfl (rq [9] 10 (r2 10 rfl rfl ?_))))))))))
       refine r2 11 rfl rfl (r2 12 rfl rfl (r2 13 rfl rfl (r2 14 rfl rfl (r0 15 rfl (Qga (v:=.bool true) rfl rfl rfl (rq [16] 3 (r2 17 rfl rfl (r2 18 rfl rfl (r0 19 rfl (Qga (v:=.bool true) rfl rfl rfl (RA.done (by decide +kernel) ?_)))))))))))
       exact T.sub (hK () trivial) ⟨rfl,rfl,rfl,rfl,rfl,(congrArg AV.bool ((congrArg (fun p=>p) (Option.some.inj hz)).symm)).symm,trivial⟩
      replace hz:=ite_F hz hb_36
      obtain ⟨x17,hx17,hz⟩:=bind_some hz
      obtain ⟨x18,hx18,hz⟩:=bind_some hz
      rcases Qca ((x17.toNat:Int) != (x18.toNat:Int)) with hb_37 | hb_37
      ·replace hz:=ite_T hz hb_37
       refine T.drawn mixed (k:=20) rfl (rq [0,1,2] 17 (ry 3 hb_36 rfl (r1 4 rfl hb_36 (Jaa Tryz.underlying9 rfl rfl hx17 (ry 5 hb_36 rfl (r1 6 rfl hb_36 (Jaa Tryz.underlying9 rfl rfl hx18 (ry 7 hb_36 rfl (r0 8 rfl (Qba (v:=.bool ((x17.toNat:Int) != (x18.toNat:Int))) rfl hb_36 rfl (rq [9] 10 (r2 10 rfl hb_37 ?_))))))))))))
       refine r2 11 rfl hb_37 (r2 12 rfl hb_37 (r2 13 rfl hb_37 (r2 14 rfl hb_37 (r0 15 rfl (Qga (v:=.bool true) rfl hb_37 rfl (rq [16] 3 (r2 17 rfl rfl (r2 18 rfl rfl (r0 19 rfl (Qga (v:=.bool true) rfl rfl rfl (RA.done (by decide +kernel) ?_)))))))))))
       exact T.sub (hK () trivial) ⟨rfl,rfl,rfl,rfl,rfl,(congrArg AV.bool ((congrArg (fun p=>p) (Option.some.inj hz)).symm)).symm,trivial⟩
      replace hz:=ite_F hz hb_37
      obtain ⟨x19,hx19,hz⟩:=bind_some hz
      obtain ⟨x20,hx20,hz⟩:=bind_some hz
      rcases Qca ((x19.toNat:Int) != (x20.toNat:Int)) with hb_38 | hb_38
      ·replace hz:=ite_T hz hb_38
       refine T.drawn mixed (k:=20) rfl (rq [0,1,2] 17 (ry 3 hb_36 rfl (r1 4 rfl hb_36 (Jaa Tryz.underlying9 rfl rfl hx17 (ry 5 hb_36 rfl (r1 6 rfl hb_36 (Jaa Tryz.underlying9 rfl rfl hx18 (ry 7 hb_36 rfl (r0 8 rfl (Qba (v:=.bool ((x17.toNat:Int) != (x18.toNat:Int))) rfl hb_36 rfl (rq [9] 10 (ry 10 hb_37 rfl ?_))))))))))))
       refine r1 11 rfl hb_37 (Jaa Tryz.underlying9 rfl rfl hx19 (ry 12 hb_37 rfl (r1 13 rfl hb_37 (Jaa Tryz.underlying9 rfl rfl hx20 (ry 14 hb_37 rfl (r0 15 rfl (Qba (v:=.bool ((x19.toNat:Int) != (x20.toNat:Int))) rfl hb_37 rfl (rq [16] 3 (r2 17 rfl hb_38 (r2 18 rfl hb_38 (r0 19 rfl (Qga (v:=.bool true) rfl hb_38 rfl (RA.done (by decide +kernel) ?_)))))))))))))
       exact T.sub (hK () trivial) ⟨rfl,rfl,rfl,rfl,rfl,(congrArg AV.bool ((congrArg (fun p=>p) (Option.some.inj hz)).symm)).symm,trivial⟩
      replace hz:=ite_F hz hb_38
      refine T.drawn mixed (k:=20) rfl (rq [0,1,2] 17 (ry 3 hb_36 rfl (r1 4 rfl hb_36 (Jaa Tryz.underlying9 rfl rfl hx17 (ry 5 hb_36 rfl (r1 6 rfl hb_36 (Jaa Tryz.underlying9 rfl rfl hx18 (ry 7 hb_36 rfl (r0 8 rfl (Qba (v:=.bool ((x17.toNat:Int) != (x18.toNat:Int))) rfl hb_36 rfl (rq [9] 10 (ry 10 hb_37 rfl ?_))))))))))))
      refine r1 11 rfl hb_37 (Jaa Tryz.underlying9 rfl rfl hx19 (ry 12 hb_37 rfl (r1 13 rfl hb_37 (Jaa Tryz.underlying9 rfl rfl hx20 (ry 14 hb_37 rfl (r0 15 rfl (Qba (v:=.bool ((x19.toNat:Int) != (x20.toNat:Int))) rfl hb_37 rfl (rq [16] 3 (ry 17 hb_38 rfl (ry 18 hb_38 rfl (r0 19 rfl (Qba (v:=.bool (!c16)) rfl hb_38 rfl (RA.done (by decide +kernel) ?_)))))))))))))
      exact T.sub (hK () trivial) ⟨rfl,rfl,rfl,rfl,rfl,(congrArg AV.bool ((congrArg (fun p=>p) (Option.some.inj hz)).symm)).symm,trivial⟩
     refine T.region (go 4 2 ?_)
     rcases Qca (((x14.1).length:Int)==53) with hb_32 | hb_32
     ·replace hz:=ite_T hz hb_32
      refine sN hb_32 (sN hb_32 (sN hb_32 (sN hb_32 (sN hb_32 (sN hb_32 (sU (sU (sU (sN hb_32 ?_)))))))))
      refine sN hb_32 (sU (sU (sU (sN hb_32 (sQ (Qga (v:=.bool true) rfl hb_32 rfl (go 1 2 (RS.nil ?_))))))))
      exact T.sub (hK () trivial) ⟨rfl,rfl,rfl,rfl,rfl,rfl,(congrArg AV.bool ((congrArg (fun p=>p) (Option.some.inj hz)).symm)).symm,trivial⟩
     replace hz:=ite_F hz hb_32
     obtain ⟨x15,hx15,hz⟩:=bind_some hz
     refine yg 2 hb_32 (yg 2 hb_32 (yQ hb_32 (Jaa Tryz.underlying9 rfl rfl hx15 (yg 2 hb_32 (yg 2 hb_32 (yg 2 hb_32 ?_))))))
     rcases Qca (s10==(IntKind.i64.wrap (x15.toNat:Int))) with hb_33 | hb_33
     ·replace hz:=ite_T hz hb_33
      refine yg 2 hb_33 (yg 2 hb_33 (yg 2 hb_33 (yQ hb_32 (Qga (v:=.bool (decide (((x14.1).length:Int) > 3))) rfl hb_33 rfl (yg 2 hb_32 ?_)))))
      rcases Qca (decide (((x14.1).length:Int) > 3)) with hb_34 | hb_34
      ·replace hz:=ite_T hz hb_34
       refine yg 2 hb_34 (yg 2 hb_34 (yg 2 hb_34 (yQ hb_32 (Qga (v:=.bool (decide (((x14.1).length:Int)<53))) rfl hb_34 rfl (sQ (Qba (v:=.bool (decide (((x14.1).length:Int)<53))) rfl hb_32 rfl (go 1 2 (RS.nil ?_))))))))
       exact T.sub (hK () trivial) ⟨rfl,rfl,rfl,rfl,rfl,rfl,(congrArg AV.bool ((congrArg (fun p=>p) (Option.some.inj hz)).symm)).symm,trivial⟩
      replace hz:=ite_F hz hb_34
      refine sN hb_34 (sN hb_34 (sN hb_34 (yQ hb_32 (Qba (v:=.bool false) rfl hb_34 rfl (sQ (Qba (v:=.bool false) rfl hb_32 rfl (go 1 2 (RS.nil ?_))))))))
      exact T.sub (hK () trivial) ⟨rfl,rfl,rfl,rfl,rfl,rfl,(congrArg AV.bool ((congrArg (fun p=>p) (Option.some.inj hz)).symm)).symm,trivial⟩
     replace hz:=ite_F hz hb_33
     refine sN hb_33 (sN hb_33 (sN hb_33 (yQ hb_32 (Qba (v:=.bool false) rfl hb_33 rfl (yg 2 hb_32 (sN rfl (sN rfl (sN rfl (yQ hb_32 (Qba (v:=.bool false) rfl rfl rfl (sQ (Qba (v:=.bool false) rfl hb_32 rfl ?_))))))))))))
     refine go 1 2 (RS.nil ?_)
     exact T.sub (hK () trivial) ⟨rfl,rfl,rfl,rfl,rfl,rfl,(congrArg AV.bool ((congrArg (fun p=>p) (Option.some.inj hz)).symm)).symm,trivial⟩
    refine T.exit ?_
    obtain ⟨w_42,h,hw_42⟩:=Qva h
    replace h:=h.trans (congrArg some (hv_30 _ hw_42))
    refine T.seq ?_
    obtain ⟨x25,hx25,h⟩:=bind_some h
    refine T.drawn mixed (k:=7) rfl (rq [0,1] 5 (r0 2 rfl (Jaa Tryz.underlying9 rfl rfl hx25 (rq [3,4,5,6] 0 (RA.done (by decide +kernel) ?_)))))
    cases h
    exact tD
   refine T.region (go 3 2 ?_)
   rcases Qca (!x5.2) with hb_4 | hb_4
   ·replace hz:=ite_T hz hb_4
    refine sN hb_4 (sN hb_4 (sN hb_4 (sQ (Qga (v:=.bool true) rfl hb_4 rfl (go 1 2 (sN rfl (sN rfl (sN rfl (sN rfl (sQ (Qga (v:=.bool true) rfl rfl rfl ?_)))))))))))
    refine go 1 2 (sN rfl (sN rfl (sN rfl (sN rfl (sQ (Qga (v:=.bool true) rfl rfl rfl (RS.nil ?_)))))))
    exact T.weakR (hK () trivial) (Weak.mkN [] [1,0] (by decide) (Qra _) rfl ⟨J8a rfl,V3a ⟨Qla rfl,Qla rfl,trivial⟩,J8a rfl,Jha ((congrArg (fun p=>p) (Option.some.inj hz)).symm),trivial⟩ (rw_bs [iI p1] rfl (rw_bs (Qpa p0) rfl (Qna))))
   replace hz:=ite_F hz hb_4
   refine yg 2 hb_4 (yg 2 hb_4 (yg 2 hb_4 (sQ (Qba (v:=.bool (((x5.1).length:Int) != 3)) rfl hb_4 rfl (go 1 2 ?_)))))
   rcases Qca (((x5.1).length:Int) != 3) with hb_5 | hb_5
   ·replace hz:=ite_T hz hb_5
    refine sN hb_5 (sN hb_5 (sN hb_5 (sN hb_5 (sQ (Qga (v:=.bool true) rfl hb_5 rfl (go 1 2 (sN rfl (sN rfl (sN rfl (sN rfl ?_))))))))))
    refine sQ (Qga (v:=.bool true) rfl rfl rfl (RS.nil ?_))
    exact T.weakR (hK () trivial) (Weak.mkN [] [1,0] (by decide) (Qra _) rfl ⟨J8a rfl,V3a ⟨Qla rfl,Qla rfl,trivial⟩,J8a rfl,Jha ((congrArg (fun p=>p) (Option.some.inj hz)).symm),trivial⟩ (rw_bs [iI p1] rfl (rw_bs (Qpa p0) rfl (Qna))))
   replace hz:=ite_F hz hb_5
   obtain ⟨x6,hx6,hz⟩:=bind_some hz
   refine yg 2 hb_5 (yQ hb_5 (Jaa Tryz.underlying9 rfl rfl hx6 (yg 2 hb_5 (yg 2 hb_5 (sQ (Qba (v:=.bool (decide ((IntKind.i64.wrap (x6.toNat:Int)) > 200))) rfl hb_5 rfl (go 1 2 ?_)))))))
   rcases Qca (decide ((IntKind.i64.wrap (x6.toNat:Int)) > 200)) with hb_6 | hb_6
   ·replace hz:=ite_T hz hb_6
    refine sN hb_6 (sN hb_6 (sN hb_6 (sN hb_6 (sQ (Qga (v:=.bool true) rfl hb_6 rfl (RS.nil ?_))))))
    exact T.weakR (hK () trivial) (Weak.mkN [] [1,0] (by decide) (Qra _) rfl ⟨J8a rfl,V3a ⟨Qla rfl,Qla rfl,trivial⟩,J8a rfl,Jha ((congrArg (fun p=>p) (Option.some.inj hz)).symm),trivial⟩ (rw_bs [iI p1] rfl (rw_bs (Qpa p0) rfl (Qna))))
   replace hz:=ite_F hz hb_6
   obtain ⟨x7,hx7,hz⟩:=bind_some hz
   refine yg 2 hb_6 (yQ hb_6 (Jaa Tryz.underlying9 rfl rfl hx7 (yg 2 hb_6 (yg 2 hb_6 (sQ (Qba (v:=.bool (decide ((IntKind.i64.wrap (x7.toNat:Int)) ≥ 60))) rfl hb_6 rfl (RS.nil ?_)))))))
   exact T.weakR (hK () trivial) (Weak.mkN [] [1,0] (by decide) (Qra _) rfl ⟨J8a rfl,V3a ⟨Qla rfl,Qla rfl,trivial⟩,J8a rfl,Jha ((congrArg (fun p=>p) (Option.some.inj hz)).symm),trivial⟩ (rw_bs [iI p1] rfl (rw_bs (Qpa p0) rfl (Qna))))
  refine T.region (go 3 2 ?_)
  rcases Qca (decide (p1<0)) with hb_2 | hb_2
  ·refine sN hb_2 (sN hb_2 (sQ (Qga (v:=.bool true) rfl hb_2 rfl (RS.nil ?_))))
   exact T.sub (hK () trivial) ⟨rfl,rfl,rfl,(congrArg AV.bool (by simp only [hb_2,bz,if_true,if_false,Bool.false_eq_true])).symm,trivial⟩
  refine yg 2 hb_2 (yg 2 hb_2 (sQ (Qba (v:=.bool (decide (p1 > 1))) rfl hb_2 rfl (RS.nil ?_))))
  exact T.sub (hK () trivial) ⟨rfl,rfl,rfl,(congrArg AV.bool (by simp only [hb_2,bz,if_true,if_false,Bool.false_eq_true])).symm,trivial⟩
theorem slices_Equal_int_c (p0:List Int) (p1:List Int) (r:Bool) (h:Y8a p0 p1=some r):Fn Tryz.prog 56 [sL encI p0,sL encI p1] (.bool r):=by
  unfold Y8a at h
  refine fnT 0 Tryz.func56 Tryz.ntmps56 ?_
  refine T.seq (T.region (go 1 0 (RS.nil (T.seq (T.seq (T.region (go 1 0 (sQ (Qka Ty.s49 rfl (go 1 0 ?_))))))))))
  refine sQ (Qka Ty.s49 rfl (go 1 0 (RS.nil (T.ci h rfl (fun hb_1 h=>?_) (fun hb_1 h=>?_)))))
  ·refine T.seq (T.region (go 1 0 (RS.nil ?_)))
   cases h
   exact tD
  refine T.skip (T.seq (T.seq (T.region (go 1 0 (sQ (Qka Ty.s49 rfl (go 1 0 (RS.nil (T.block (T.iter (fun ss_6:Int=>mkA 26 [(0,sL encI p0),(1,sL encI p1),(12,iI ((p0).length:Int)),(13,iI ss_6)]) (fun ss_6=>[]) h (wk [] [] 0 rfl) (fun ss_6 v_7 h hv_7=>?_)))))))))))
  revert hv_7 h;revert ss_6;intro s1 h hv_7
  replace h:Yaa p0 p1 s1=some v_7:=h
  try dsimp only
  unfold Yaa at h
  refine T.seq (T.region (go 1 0 (RS.nil (T.seq (T.ci h rfl (fun hb_8 h=>?_) (fun hb_8 h=>?_))))))
  ·refine T.skip (T.seq (T.block (T.seq (T.region (go 2 0 (RS.nil (T.seq ?_)))))))
   obtain ⟨x4,hx4,h⟩:=bind_some h
   obtain ⟨x5,hx5,h⟩:=bind_some h
   refine T.drawn mixed (k:=9) rfl (rq [0,1] 7 (r0 2 rfl (Qja Ty.s49 (fun _=>rfl) rfl rfl hx4 (rq [4,5] 4 (r0 6 rfl (Qja Ty.s49 (fun _=>rfl) rfl rfl hx5 (rL [3,8] 3 rfl (ra1 7 (og 0 ⟨rfl,(rq [8] 0 (RA.done (by decide +kernel) ?_))⟩)))))))))
   refine T.ci h rfl (fun hb_9 h=>?_) (fun hb_9 h=>?_)
   ·refine T.seq (T.region (go 1 0 (RS.nil ?_)))
    obtain ⟨w_10,h,hw_10⟩:=Qva h
    replace h:=h.trans (congrArg some (hv_7 _ hw_10))
    cases h
    exact tD
   refine T.skip (T.region (go 2 0 (RS.nil ?_)))
   exact ⟨IntKind.i64.wrap (s1+1),(Option.some.inj h).symm,wk [] [] 0 rfl⟩
  refine T.exit ?_
  obtain ⟨w_11,h,hw_11⟩:=Qva h
  replace h:=h.trans (congrArg some (hv_7 _ hw_11))
  refine T.seq (T.region (go 1 0 (RS.nil ?_)))
  cases h
  exact tD
theorem slices_Equal_Item_c (p0:List Item) (p1:List Item) (r:Bool) (h:Yxa p0 p1=some r):Fn Tryz.prog 82 [sL Qaa p0,sL Qaa p1] (.bool r):=by
  unfold Yxa at h
  refine fnT 0 Tryz.func82 Tryz.ntmps82 ?_
  refine T.seq (T.region (go 1 0 (RS.nil (T.seq (T.seq (T.region (go 1 0 (sQ (Qka Ty.s52 rfl (go 1 0 ?_))))))))))
  refine sQ (Qka Ty.s52 rfl (go 1 0 (RS.nil (T.ci h rfl (fun hb_1 h=>?_) (fun hb_1 h=>?_)))))
  ·refine T.seq (T.region (go 1 0 (RS.nil ?_)))
   cases h
   exact tD
  refine T.skip (T.seq (T.seq (T.region (go 1 0 (sQ (Qka Ty.s52 rfl (go 1 0 (RS.nil (T.block (T.iter (fun ss_6:Int=>mkA 26 [(0,sL Qaa p0),(1,sL Qaa p1),(12,iI ((p0).length:Int)),(13,iI ss_6)]) (fun ss_6=>[]) h (wk [] [] 0 rfl) (fun ss_6 v_7 h hv_7=>?_)))))))))))
  revert hv_7 h;revert ss_6;intro s1 h hv_7
  replace h:V0a p0 p1 s1=some v_7:=h
  try dsimp only
  unfold V0a at h
  refine T.seq (T.region (go 1 0 (RS.nil (T.seq (T.ci h rfl (fun hb_8 h=>?_) (fun hb_8 h=>?_))))))
  ·refine T.skip (T.seq (T.block (T.seq (T.region (go 2 0 (RS.nil (T.seq ?_)))))))
   obtain ⟨x4,hx4,h⟩:=bind_some h
   obtain ⟨x5,hx5,h⟩:=bind_some h
   refine T.drawn mixed (k:=9) rfl (rq [0,1] 7 (r0 2 rfl (Qja Ty.s52 (fun _=>rfl) rfl rfl hx4 (rq [4,5] 4 (r0 6 rfl (Qja Ty.s52 (fun _=>rfl) rfl rfl hx5 (rL [3,8] 3 rfl (ra1 7 (og 0 ⟨rfl,(r0 8 rfl (v_gneq (cs:=[iI x4.Key,iI x4.Val,iI x4.Dep]) (ds:=[iI x5.Key,iI x5.Val,iI x5.Dep]) (r:=x4==x5) Ty.q115 rfl rfl rfl rfl (encItem_eq x4 x5) (RA.done (by decide +kernel) ?_)))⟩)))))))))
   refine T.ci h rfl (fun hb_9 h=>?_) (fun hb_9 h=>?_)
   ·refine T.seq (T.region (go 1 0 (RS.nil ?_)))
    obtain ⟨w_10,h,hw_10⟩:=Qva h
    replace h:=h.trans (congrArg some (hv_7 _ hw_10))
    cases h
    exact tD
   refine T.skip (T.region (go 2 0 (RS.nil ?_)))
   exact ⟨IntKind.i64.wrap (s1+1),(Option.some.inj h).symm,wk [] [] 0 rfl⟩
  refine T.exit ?_
  obtain ⟨w_11,h,hw_11⟩:=Qva h
  replace h:=h.trans (congrArg some (hv_7 _ hw_11))
  refine T.seq (T.region (go 1 0 (RS.nil ?_)))
  cases h
  exact tD
theorem crossref_SameItems_c (p0:List Item) (p1:List Item) (r:Bool) (h:Vta p0 p1=some r):Fn Tryz.prog 58 [sL Qaa p0,sL Qaa p1] (.bool r):=by
  unfold Vta at h
  refine fnT 0 Tryz.func58 Tryz.ntmps58 ?_
  refine T.seq (T.region (go 1 0 (RS.nil (T.seq ?_))))
  obtain ⟨x2,hx2,h⟩:=bind_some h
  refine T.region (go 2 0 (sO (cF (slices_Equal_Item_c p0 p1 x2 hx2) ⟨rfl,(go 1 0 (RS.nil ?_))⟩)))
  cases h
  exact tD
theorem Vka (p0:List (List Item)) (p1:List (List Item)) (r:Bool) (h:Q5a p0 p1=some r):Fn Tryz.prog 57 [sL (encL Qaa) p0,sL (encL Qaa) p1,.func 58 []] (.bool r):=by
  unfold Q5a at h
  refine fnT 0 Tryz.func57 Tryz.ntmps57 ?_
  refine T.seq (T.region (go 1 0 (RS.nil (T.seq (T.seq (T.region (go 1 0 (sQ (Qka Ty.s48 rfl (go 1 0 ?_))))))))))
  refine sQ (Qka Ty.s48 rfl (go 1 0 (RS.nil (T.ci h rfl (fun hb_1 h=>?_) (fun hb_1 h=>?_)))))
  ·refine T.seq (T.region (go 1 0 (RS.nil ?_)))
   cases h
   exact tD
  refine T.skip (T.seq (T.seq (T.region (go 1 0 (sQ (Qka Ty.s48 rfl (go 1 0 (RS.nil (T.block (T.iter (fun ss_6:Int=>mkA 32 [(1,sL (encL Qaa) p1),(2,.func 58 []),(15,sL (encL Qaa) p0),(16,iI ((p0).length:Int)),(17,iI ss_6)]) (fun ss_6=>[]) h (wk [] [] 0 rfl) (fun ss_6 v_7 h hv_7=>?_)))))))))))
  revert hv_7 h;revert ss_6;intro s1 h hv_7
  replace h:Q2a p0 p1 s1=some v_7:=h
  try dsimp only
  unfold Q2a at h
  refine T.seq (T.region (go 1 0 (RS.nil (T.seq (T.ci h rfl (fun hb_8 h=>?_) (fun hb_8 h=>?_))))))
  ·refine T.skip (T.seq (T.block (T.seq ?_)))
   obtain ⟨x3,hx3,h⟩:=bind_some h
   refine T.region (go 1 0 (sQ (Qja Ty.s48 (fun _=>rfl) rfl rfl hx3 (go 3 0 (RS.nil (T.seq ?_))))))
   obtain ⟨x5,hx5,h⟩:=bind_some h
   refine T.region (go 2 0 (sQ (Qja Ty.s48 (fun _=>rfl) rfl rfl hx5 (go 2 0 (RS.nil (T.seq ?_))))))
   obtain ⟨x7,hx7,h⟩:=bind_some h
   refine T.region (go 3 0 (sO (cF (crossref_SameItems_c x3 x5 x7 hx7) ⟨rfl,(go 1 0 (RS.nil (T.ci h rfl (fun hb_9 h=>?_) (fun hb_9 h=>?_))))⟩)))
   ·refine T.seq (T.region (go 1 0 (RS.nil ?_)))
    obtain ⟨w_10,h,hw_10⟩:=Qva h
    replace h:=h.trans (congrArg some (hv_7 _ hw_10))
    cases h
    exact tD
   refine T.skip (T.region (go 2 0 (RS.nil ?_)))
   exact ⟨IntKind.i64.wrap (s1+1),(Option.some.inj h).symm,wk [] [] 0 rfl⟩
  refine T.exit ?_
  obtain ⟨w_11,h,hw_11⟩:=Qva h
  replace h:=h.trans (congrArg some (hv_7 _ hw_11))
  refine T.seq (T.region (go 1 0 (RS.nil ?_)))
  cases h
  exact tD
theorem slices_Equal_Keyed_c (p0:List Keyed) (p1:List Keyed) (r:Bool) (h:Yma p0 p1=some r):Fn Tryz.prog 83 [sL Qqa p0,sL Qqa p1] (.bool r):=by
  unfold Yma at h
  refine fnT 0 Tryz.func83 Tryz.ntmps83 ?_
  refine T.seq (T.region (go 1 0 (RS.nil (T.seq (T.seq (T.region (go 1 0 (sQ (Qka Ty.s88 rfl (go 1 0 ?_))))))))))
  refine sQ (Qka Ty.s88 rfl (go 1 0 (RS.nil (T.ci h rfl (fun hb_1 h=>?_) (fun hb_1 h=>?_)))))
  ·refine T.seq (T.region (go 1 0 (RS.nil ?_)))
   cases h
   exact tD
  refine T.skip (T.seq (T.seq (T.region (go 1 0 (sQ (Qka Ty.s88 rfl (go 1 0 (RS.nil (T.block (T.iter (fun ss_6:Int=>mkA 26 [(0,sL Qqa p0),(1,sL Qqa p1),(12,iI ((p0).length:Int)),(13,iI ss_6)]) (fun ss_6=>[]) h (wk [] [] 0 rfl) (fun ss_6 v_7 h hv_7=>?_)))))))))))
  revert hv_7 h;revert ss_6;intro s1 h hv_7
  replace h:Vqa p0 p1 s1=some v_7:=h
  try dsimp only
  unfold Vqa at h
  refine T.seq (T.region (go 1 0 (RS.nil (T.seq (T.ci h rfl (fun hb_8 h=>?_) (fun hb_8 h=>?_))))))
  ·refine T.skip (T.seq (T.block (T.seq (T.region (go 2 0 (RS.nil (T.seq ?_)))))))
   obtain ⟨x4,hx4,h⟩:=bind_some h
   obtain ⟨x5,hx5,h⟩:=bind_some h
   refine T.drawn mixed (k:=9) rfl (rq [0,1] 7 (r0 2 rfl (Qja Ty.s88 (fun _=>rfl) rfl rfl hx4 (rq [4,5] 4 (r0 6 rfl (Qja Ty.s88 (fun _=>rfl) rfl rfl hx5 (rL [3,8] 3 rfl (ra1 7 (og 0 ⟨rfl,(r0 8 rfl (v_gneq (cs:=[iI x4.Key,iI x4.N]) (ds:=[iI x5.Key,iI x5.N]) (r:=x4==x5) Ty.q92 rfl rfl rfl rfl (encKeyed_eq x4 x5) (RA.done (by decide +kernel) ?_)))⟩)))))))))
   refine T.ci h rfl (fun hb_9 h=>?_) (fun hb_9 h=>?_)
   ·refine T.seq (T.region (go 1 0 (RS.nil ?_)))
    obtain ⟨w_10,h,hw_10⟩:=Qva h
    replace h:=h.trans (congrArg some (hv_7 _ hw_10))
    cases h
    exact tD
   refine T.skip (T.region (go 2 0 (RS.nil ?_)))
   exact ⟨IntKind.i64.wrap (s1+1),(Option.some.inj h).symm,wk [] [] 0 rfl⟩
  refine T.exit ?_
  obtain ⟨w_11,h,hw_11⟩:=Qva h
  replace h:=h.trans (congrArg some (hv_7 _ hw_11))
  refine T.seq (T.region (go 1 0 (RS.nil ?_)))
  cases h
  exact tD
theorem crossref_SameMemory_c (p0:Memory) (p1:Memory) (r:Bool) (h:Yba p0 p1=some r):Fn Tryz.prog 60 [.agg (Qda p0),.agg (Qda p1)] (.bool r):=by
  unfold Yba at h
  refine fnT 0 Tryz.func60 Tryz.ntmps60 ?_
  refine T.seq (T.region (go 3 0 (RS.nil ?_)))
  obtain ⟨zt_3,hz,h⟩:=bind_some h
  revert hz h;revert zt_3;intro c2 hz h
  refine T.join (Z:=Unit) (fun _=>mkA 24 [(4,.bool c2)]) (fun _=>[]) (fun _=>True) (fun _ _=>?_) (fun hK=>?_)
  ·cases h
   exact tD
  refine T.region (go 6 2 ?_)
  rcases Qca (p0.Sum==p1.Sum) with hb_1 | hb_1
  ·replace hz:=ite_T hz hb_1
   refine yg 2 hb_1 (yg 2 hb_1 (yg 2 hb_1 (yg 2 hb_1 (yg 2 hb_1 (sQ (Qga (v:=.bool (p0.Dep==p1.Dep)) rfl hb_1 rfl (go 1 2 ?_)))))))
   rcases Qca (p0.Dep==p1.Dep) with hb_2 | hb_2
   ·replace hz:=ite_T hz hb_2
    obtain ⟨x1,hx1,hz⟩:=bind_some hz
    refine yg 2 hb_2 (yg 2 hb_2 (yg 2 hb_2 (yg 2 hb_2 (yO hb_2 (cF (slices_Equal_Keyed_c p0.Keys p1.Keys x1 hx1) ⟨rfl,(sQ (Qga (v:=.bool x1) rfl hb_2 rfl (go 1 2 (RS.nil ?_))))⟩)))))
    exact T.weakR (hK () trivial) (Weak.mkN [] [] (by decide) (Qra _) rfl ⟨Jha ((congrArg (fun p=>p) (Option.some.inj hz)).symm),trivial⟩ (Qna))
   replace hz:=ite_F hz hb_2
   refine sN hb_2 (sN hb_2 (sN hb_2 (sN hb_2 (sN hb_2 (sQ (Qba (v:=.bool false) rfl hb_2 rfl (go 1 2 (RS.nil ?_))))))))
   exact T.weakR (hK () trivial) (Weak.mkN [] [] (by decide) (Qra _) rfl ⟨Jha ((congrArg (fun p=>p) (Option.some.inj hz)).symm),trivial⟩ (Qna))
  replace hz:=ite_F hz hb_1
  refine sN hb_1 (sN hb_1 (sN hb_1 (sN hb_1 (sN hb_1 (sQ (Qba (v:=.bool false) rfl hb_1 rfl (go 1 2 (sN rfl (sN rfl (sN rfl ?_))))))))))
  refine sN rfl (sN rfl (sQ (Qba (v:=.bool false) rfl rfl rfl (go 1 2 (RS.nil ?_)))))
  exact T.weakR (hK () trivial) (Weak.mkN [] [] (by decide) (Qra _) rfl ⟨Jha ((congrArg (fun p=>p) (Option.some.inj hz)).symm),trivial⟩ (Qna))
theorem Vaa (p0:List Memory) (p1:List Memory) (r:Bool) (h:Q3a p0 p1=some r):Fn Tryz.prog 59 [sL Qda p0,sL Qda p1,.func 60 []] (.bool r):=by
  unfold Q3a at h
  refine fnT 0 Tryz.func59 Tryz.ntmps59 ?_
  refine T.seq (T.region (go 1 0 (RS.nil (T.seq (T.seq (T.region (go 1 0 (sQ (Qka Ty.s50 rfl (go 1 0 ?_))))))))))
  refine sQ (Qka Ty.s50 rfl (go 1 0 (RS.nil (T.ci h rfl (fun hb_1 h=>?_) (fun hb_1 h=>?_)))))
  ·refine T.seq (T.region (go 1 0 (RS.nil ?_)))
   cases h
   exact tD
  refine T.skip (T.seq (T.seq (T.region (go 1 0 (sQ (Qka Ty.s50 rfl (go 1 0 (RS.nil (T.block (T.iter (fun ss_6:Int=>mkA 32 [(1,sL Qda p1),(2,.func 60 []),(15,sL Qda p0),(16,iI ((p0).length:Int)),(17,iI ss_6)]) (fun ss_6=>[]) h (wk [] [] 0 rfl) (fun ss_6 v_7 h hv_7=>?_)))))))))))
  revert hv_7 h;revert ss_6;intro s1 h hv_7
  replace h:Q1a p0 p1 s1=some v_7:=h
  try dsimp only
  unfold Q1a at h
  refine T.seq (T.region (go 1 0 (RS.nil (T.seq (T.ci h rfl (fun hb_8 h=>?_) (fun hb_8 h=>?_))))))
  ·refine T.skip (T.seq (T.block (T.seq ?_)))
   obtain ⟨x3,hx3,h⟩:=bind_some h
   refine T.region (go 1 0 (sQ (Qja Ty.s50 (fun _=>rfl) rfl rfl hx3 (go 4 0 (RS.nil (T.seq ?_))))))
   obtain ⟨x5,hx5,h⟩:=bind_some h
   refine T.region (go 2 1 (sQ (Qja Ty.s50 (fun _=>rfl) rfl rfl hx5 (go 3 1 (RS.nil (T.seq ?_))))))
   obtain ⟨x7,hx7,h⟩:=bind_some h
   refine T.region (go 3 2 (sO (cF (crossref_SameMemory_c x3 x5 x7 hx7) ⟨rfl,(go 1 2 (RS.nil (T.ci h rfl (fun hb_9 h=>?_) (fun hb_9 h=>?_))))⟩)))
   ·refine T.seq (T.region (go 1 2 (RS.nil ?_)))
    obtain ⟨w_10,h,hw_10⟩:=Qva h
    replace h:=h.trans (congrArg some (hv_7 _ hw_10))
    cases h
    exact tD
   refine T.skip (T.region (go 2 2 (RS.nil ?_)))
   exact ⟨IntKind.i64.wrap (s1+1),(Option.some.inj h).symm,wk [] [] 2 rfl⟩
  refine T.exit ?_
  obtain ⟨w_11,h,hw_11⟩:=Qva h
  replace h:=h.trans (congrArg some (hv_7 _ hw_11))
  refine T.seq (T.region (go 1 0 (RS.nil ?_)))
  cases h
  exact tD
theorem slices_Equal_Choice_c (p0:List Choice) (p1:List Choice) (r:Bool) (h:V9a p0 p1=some r):Fn Tryz.prog 61 [sL Qia p0,sL Qia p1] (.bool r):=by
  unfold V9a at h
  refine fnT 0 Tryz.func61 Tryz.ntmps61 ?_
  refine T.seq (T.region (go 1 0 (RS.nil (T.seq (T.seq (T.region (go 1 0 (sQ (Qka Ty.s51 rfl (go 1 0 ?_))))))))))
  refine sQ (Qka Ty.s51 rfl (go 1 0 (RS.nil (T.ci h rfl (fun hb_1 h=>?_) (fun hb_1 h=>?_)))))
  ·refine T.seq (T.region (go 1 0 (RS.nil ?_)))
   cases h
   exact tD
  refine T.skip (T.seq (T.seq (T.region (go 1 0 (sQ (Qka Ty.s51 rfl (go 1 0 (RS.nil (T.block (T.iter (fun ss_6:Int=>mkA 26 [(0,sL Qia p0),(1,sL Qia p1),(12,iI ((p0).length:Int)),(13,iI ss_6)]) (fun ss_6=>[]) h (wk [] [] 0 rfl) (fun ss_6 v_7 h hv_7=>?_)))))))))))
  revert hv_7 h;revert ss_6;intro s1 h hv_7
  replace h:Vja p0 p1 s1=some v_7:=h
  try dsimp only
  unfold Vja at h
  refine T.seq (T.region (go 1 0 (RS.nil (T.seq (T.ci h rfl (fun hb_8 h=>?_) (fun hb_8 h=>?_))))))
  ·refine T.skip (T.seq (T.block (T.seq (T.region (go 2 0 (RS.nil (T.seq ?_)))))))
   obtain ⟨x4,hx4,h⟩:=bind_some h
   obtain ⟨x5,hx5,h⟩:=bind_some h
   refine T.drawn mixed (k:=9) rfl (rq [0,1] 7 (r0 2 rfl (Qja Ty.s51 (fun _=>rfl) rfl rfl hx4 (rq [4,5] 4 (r0 6 rfl (Qja Ty.s51 (fun _=>rfl) rfl rfl hx5 (rL [3,8] 3 rfl (ra1 7 (og 0 ⟨rfl,(r0 8 rfl (v_gneq (cs:=[iI x4.Node,iI x4.Lane]) (ds:=[iI x5.Node,iI x5.Lane]) (r:=x4==x5) Ty.q94 rfl rfl rfl rfl (encChoice_eq x4 x5) (RA.done (by decide +kernel) ?_)))⟩)))))))))
   refine T.ci h rfl (fun hb_9 h=>?_) (fun hb_9 h=>?_)
   ·refine T.seq (T.region (go 1 0 (RS.nil ?_)))
    obtain ⟨w_10,h,hw_10⟩:=Qva h
    replace h:=h.trans (congrArg some (hv_7 _ hw_10))
    cases h
    exact tD
   refine T.skip (T.region (go 2 0 (RS.nil ?_)))
   exact ⟨IntKind.i64.wrap (s1+1),(Option.some.inj h).symm,wk [] [] 0 rfl⟩
  refine T.exit ?_
  obtain ⟨w_11,h,hw_11⟩:=Qva h
  replace h:=h.trans (congrArg some (hv_7 _ hw_11))
  refine T.seq (T.region (go 1 0 (RS.nil ?_)))
  cases h
  exact tD
theorem crossref_SameState_c (p0:State) (p1:State) (r:Bool) (h:Yla p0 p1=some r):Fn Tryz.prog 22 [.agg (Qxa p0),.agg (Qxa p1)] (.bool r):=by
  unfold Yla at h
  refine fnT 0 Tryz.func22 Tryz.ntmps22 ?_
  refine T.seq (T.region (go 3 0 (RS.nil ?_)))
  obtain ⟨x1,hx1,h⟩:=bind_some h
  obtain ⟨zt_5,hz,h⟩:=bind_some h
  revert hz h;revert zt_5;intro c6 hz h
  refine T.join (Z:=Unit) (fun _=>mkA 38 [(4,.bool c6)]) (fun _=>[]) (fun _=>True) (fun _ _=>?_) (fun hK=>?_)
  ·cases h
   exact tD
  refine T.region (go 4 2 (sO (cF (slices_Equal_int_c p0.At p1.At x1 hx1) ⟨rfl,(go 1 2 ?_)⟩)))
  rcases Qca x1 with hb_1 | hb_1
  ·replace hz:=ite_T hz hb_1
   obtain ⟨x2,hx2,hz⟩:=bind_some hz
   refine yg 2 hb_1 (yg 2 hb_1 (yg 2 hb_1 (yg 2 hb_1 (yO hb_1 (cF (Vka p0.Rings p1.Rings x2 hx2) ⟨rfl,(sQ (Qga (v:=.bool x2) rfl hb_1 rfl (go 1 2 ?_)))⟩)))))
   rcases Qca x2 with hb_2 | hb_2
   ·replace hz:=ite_T hz hb_2
    obtain ⟨x3,hx3,hz⟩:=bind_some hz
    refine yg 2 hb_2 (yg 2 hb_2 (yg 2 hb_2 (yg 2 hb_2 (yO hb_2 (cF (Vaa p0.Memory p1.Memory x3 hx3) ⟨rfl,(sQ (Qga (v:=.bool x3) rfl hb_2 rfl (go 1 2 ?_)))⟩)))))
    rcases Qca x3 with hb_3 | hb_3
    ·replace hz:=ite_T hz hb_3
     obtain ⟨x4,hx4,hz⟩:=bind_some hz
     refine yg 2 hb_3 (yg 2 hb_3 (yg 2 hb_3 (yg 2 hb_3 (yO hb_3 (cF (slices_Equal_Choice_c p0.Choices p1.Choices x4 hx4) ⟨rfl,(sQ (Qga (v:=.bool x4) rfl hb_3 rfl (go 1 2 ?_)))⟩)))))
     rcases Qca x4 with hb_4 | hb_4
     ·replace hz:=ite_T hz hb_4
      obtain ⟨x5,hx5,hz⟩:=bind_some hz
      refine yg 2 hb_4 (yg 2 hb_4 (yg 2 hb_4 (yg 2 hb_4 (yO hb_4 (cF (crossref_SameItems_c p0.Out p1.Out x5 hx5) ⟨rfl,(sQ (Qga (v:=.bool x5) rfl hb_4 rfl (go 1 2 (RS.nil ?_))))⟩)))))
      exact T.weakR (hK () trivial) (Weak.mkN [] [] (by decide) (Qra _) rfl ⟨Jha ((congrArg (fun p=>p) (Option.some.inj hz)).symm),trivial⟩ (Qna))
     replace hz:=ite_F hz hb_4
     refine sN hb_4 (sN hb_4 (sN hb_4 (sN hb_4 (sN hb_4 (sQ (Qba (v:=.bool false) rfl hb_4 rfl (go 1 2 (RS.nil ?_))))))))
     exact T.weakR (hK () trivial) (Weak.mkN [] [] (by decide) (Qra _) rfl ⟨Jha ((congrArg (fun p=>p) (Option.some.inj hz)).symm),trivial⟩ (Qna))
    replace hz:=ite_F hz hb_3
    refine sN hb_3 (sN hb_3 (sN hb_3 (sN hb_3 (sN hb_3 (sQ (Qba (v:=.bool false) rfl hb_3 rfl (go 1 2 (sN rfl (sN rfl (sN rfl ?_))))))))))
    refine sN rfl (sN rfl (sQ (Qba (v:=.bool false) rfl rfl rfl (go 1 2 (RS.nil ?_)))))
    exact T.weakR (hK () trivial) (Weak.mkN [] [] (by decide) (Qra _) rfl ⟨Jha ((congrArg (fun p=>p) (Option.some.inj hz)).symm),trivial⟩ (Qna))
   replace hz:=ite_F hz hb_2
   refine sN hb_2 (sN hb_2 (sN hb_2 (sN hb_2 (sN hb_2 (sQ (Qba (v:=.bool false) rfl hb_2 rfl (go 1 2 (sN rfl (sN rfl (sN rfl ?_))))))))))
   refine sN rfl (sN rfl (sQ (Qba (v:=.bool false) rfl rfl rfl (go 1 2 (sN rfl (sN rfl (sN rfl (sN rfl (sN rfl (sQ (Qba (v:=.bool false) rfl rfl rfl ?_)))))))))))
   refine go 1 2 (RS.nil ?_)
   exact T.weakR (hK () trivial) (Weak.mkN [] [] (by decide) (Qra _) rfl ⟨Jha ((congrArg (fun p=>p) (Option.some.inj hz)).symm),trivial⟩ (Qna))
  replace hz:=ite_F hz hb_1
  refine sN hb_1 (sN hb_1 (sN hb_1 (sN hb_1 (sN hb_1 (sQ (Qba (v:=.bool false) rfl hb_1 rfl (go 1 2 (sN rfl (sN rfl (sN rfl ?_))))))))))
  refine sN rfl (sN rfl (sQ (Qba (v:=.bool false) rfl rfl rfl (go 1 2 (sN rfl (sN rfl (sN rfl (sN rfl (sN rfl (sQ (Qba (v:=.bool false) rfl rfl rfl ?_)))))))))))
  refine go 1 2 (sN rfl (sN rfl (sN rfl (sN rfl (sN rfl (sQ (Qba (v:=.bool false) rfl rfl rfl (go 1 2 (RS.nil ?_)))))))))
  exact T.weakR (hK () trivial) (Weak.mkN [] [] (by decide) (Qra _) rfl ⟨Jha ((congrArg (fun p=>p) (Option.some.inj hz)).symm),trivial⟩ (Qna))
theorem crosslaw_saved_c (r:Bool) (h:Qbb=some r):Fn Tryz.prog 8 [] (.bool r):=by
  unfold Qbb at h
  refine fnT 0 Tryz.func8 Tryz.ntmps8 ?_
  refine T.seq (T.region (go 1 0 (RS.nil (T.seq ?_))))
  obtain ⟨x6,hx6,h⟩:=bind_some h
  obtain ⟨x7,hx7,h⟩:=bind_some h
  obtain ⟨x10,hx10,h⟩:=bind_some h
  refine T.region (sO (cD (Qfb x6 hx6) ⟨rfl,(sO (cQ 0 (crosslaw_two_c x7 hx7) ⟨rfl,(sO (Qsa (rows:=List.map encI [0,0,0]) (vs:=[iI 0,iI 0,iI 0]) Ty.s49 Ty.z3 rfl rfl rfl rfl rfl rfl (RS.fC 0 (RS.fC 1 (sO (cD (move_Play_c x6 x7 ([0,0,0]:List Int) x10 hx10) ⟨rfl,(go 6 2 (RS.nil (T.seq ?_)))⟩))))))⟩))⟩))
  obtain ⟨x14,hx14,h⟩:=bind_some h
  obtain ⟨x15,hx15,h⟩:=bind_some h
  obtain ⟨x16,hx16,h⟩:=bind_some h
  refine T.drawn mixed (k:=9) rfl ?_
  apply RA.jn 6 #[true,true,true,false,false,false,false,false,false];intro hS1
  apply RA.jn 7 #[true,false,true,false,false,false,false,false,false];intro hS2
  ·refine ra2 0 2 ?_ ?_
   ·refine oO rfl (cD (Qfb x14 hx14) ⟨rfl,(ra2 1 2 ?_ ?_)⟩)
    ·refine oO rfl (cQ 3 (crosslaw_two_c x15 hx15) ⟨rfl,(ra1 2 (og 4 ⟨rfl,?_⟩))⟩)
     exact raE hS1
    ·refine og 3 ⟨rfl,?_⟩
     exact raE hS2
   ·refine og 3 ⟨rfl,(ra1 0 (oO rfl (cD (Qfb x14 hx14) ⟨rfl,?_⟩)))⟩
    exact raT hS2
  ·refine ra1 1 (oO rfl (cQ 3 (crosslaw_two_c x15 hx15) ⟨rfl,?_⟩))
   exact raT hS1
  refine ra1 3 (oO rfl (cF (save_Bytes_c x14 x15 x10.1 x16 hx16) ⟨rfl,(rq [4,5,6,7,8] 0 (RA.done (by decide +kernel) (T.seq ?_)))⟩))
  obtain ⟨x21,hx21,h⟩:=bind_some h
  obtain ⟨x22,hx22,h⟩:=bind_some h
  obtain ⟨x24,hx24,h⟩:=bind_some h
  refine T.region (sO (cD (Qfb x21 hx21) ⟨rfl,(sO (cQ 4 (crosslaw_two_c x22 hx22) ⟨rfl,(go 1 5 (RS.fC 4 (sO (cD (save_Of_c x21 x22 x16.1 x24 hx24) ⟨rfl,(go 6 5 (RS.nil (T.seq ?_)))⟩))))⟩))⟩))
  obtain ⟨x26,hx26,h⟩:=bind_some h
  refine T.region (go 1 6 (sO (cD (save_Put_c (⟨[],[]⟩:Disk) (1:Int) (7:Int) ([97,98,99]:List UInt8) x26 hx26) ⟨rfl,(go 6 6 (RS.nil (T.seq ?_)))⟩)))
  obtain ⟨x28,hx28,h⟩:=bind_some h
  refine T.region (go 1 7 (sO (cD (disk_Flush_c x26.1 x28 hx28) ⟨rfl,(go 5 7 (RS.nil (T.seq ?_)))⟩)))
  obtain ⟨x30,hx30,h⟩:=bind_some h
  refine T.region (go 1 7 (sO (cF (save_Get_c x28.1 (1:Int) x30 hx30) ⟨rfl,(go 7 7 (RS.nil ?_))⟩)))
  obtain ⟨zt_12,hz,h⟩:=bind_some h
  revert hz h;revert zt_12;intro c32 hz h
  refine T.join (Z:=Unit) (fun _=>mkA 91 [(0,.bool c32)]) (fun _=>[]) (fun _=>True) (fun _ _=>?_) (fun hK=>?_)
  ·cases h
   exact tD
  refine T.region (go 3 7 ?_)
  rcases Qca (x16.2==0) with hb_3 | hb_3
  ·replace hz:=ite_T hz hb_3
   refine yg 7 hb_3 (yg 7 hb_3 (sQ (Qga (v:=.bool (x24.2==0)) rfl hb_3 rfl (go 1 7 ?_))))
   rcases Qca (x24.2==0) with hb_4 | hb_4
   ·replace hz:=ite_T hz hb_4
    refine yg 7 hb_4 (yg 7 hb_4 (sQ (Qga (v:=.bool (x26.2==0)) rfl hb_4 rfl (go 1 7 ?_))))
    rcases Qca (x26.2==0) with hb_5 | hb_5
    ·replace hz:=ite_T hz hb_5
     refine yg 7 hb_5 (yg 7 hb_5 (sQ (Qga (v:=.bool (x28.2==0)) rfl hb_5 rfl (go 1 7 ?_))))
     rcases Qca (x28.2==0) with hb_6 | hb_6
     ·replace hz:=ite_T hz hb_6
      refine yg 7 hb_6 (yg 7 hb_6 (sQ (Qga (v:=.bool (x30.2.2==0)) rfl hb_6 rfl (go 1 7 ?_))))
      rcases Qca (x30.2.2==0) with hb_7 | hb_7
      ·replace hz:=ite_T hz hb_7
       refine yg 7 hb_7 (yg 7 hb_7 (sQ (Qga (v:=.bool (!(x16.1==[]))) rfl hb_7 rfl (go 1 7 ?_))))
       rcases Qca (!(x16.1==[])) with hb_8 | hb_8
       ·replace hz:=ite_T hz hb_8
        obtain ⟨x31,hx31,hz⟩:=bind_some hz
        refine yg 7 hb_8 (yg 7 hb_8 (yO hb_8 (cF (crossref_SameState_c x10.1 x24.1 x31 hx31) ⟨rfl,(sQ (Qga (v:=.bool x31) rfl hb_8 rfl (go 1 7 ?_)))⟩)))
        rcases Qca x31 with hb_9 | hb_9
        ·replace hz:=ite_T hz hb_9
         refine yg 7 hb_9 (yg 7 hb_9 (yQ hb_9 (Qka Ty.s51 rfl (yg 7 hb_9 (sQ (Qga (v:=.bool (((x10.1.Choices).length:Int)==1)) rfl hb_9 rfl (go 1 7 ?_)))))))
         rcases Qca (((x10.1.Choices).length:Int)==1) with hb_10 | hb_10
         ·replace hz:=ite_T hz hb_10
          refine yg 7 hb_10 (yg 7 hb_10 (sQ (Qga (v:=.bool (x30.1==[97,98,99])) rfl hb_10 rfl (go 1 7 ?_))))
          rcases Qca (x30.1==[97,98,99]) with hb_11 | hb_11
          ·replace hz:=ite_T hz hb_11
           refine yg 7 hb_11 (yg 7 hb_11 (sQ (Qga (v:=.bool (x30.2.1==7)) rfl hb_11 rfl (go 1 7 (RS.nil ?_)))))
           exact T.weakR (hK () trivial) (Weak.mkN [] [] (by decide) (Qra _) rfl ⟨Jha ((congrArg (fun p=>p) (Option.some.inj hz)).symm),trivial⟩ (Qna))
          replace hz:=ite_F hz hb_11
          refine sN hb_11 (sN hb_11 (sQ (Qba (v:=.bool false) rfl hb_11 rfl (go 1 7 (RS.nil ?_)))))
          exact T.weakR (hK () trivial) (Weak.mkN [] [] (by decide) (Qra _) rfl ⟨Jha ((congrArg (fun p=>p) (Option.some.inj hz)).symm),trivial⟩ (Qna))
         replace hz:=ite_F hz hb_10
         refine sN hb_10 (sN hb_10 (sQ (Qba (v:=.bool false) rfl hb_10 rfl (go 1 7 (sN rfl (sN rfl (sQ (Qba (v:=.bool false) rfl rfl rfl (go 1 7 (RS.nil ?_))))))))))
         exact T.weakR (hK () trivial) (Weak.mkN [] [] (by decide) (Qra _) rfl ⟨Jha ((congrArg (fun p=>p) (Option.some.inj hz)).symm),trivial⟩ (Qna))
        replace hz:=ite_F hz hb_9
        refine sN hb_9 (sN hb_9 (sN hb_9 (sN hb_9 (sQ (Qba (v:=.bool false) rfl hb_9 rfl (go 1 7 (sN rfl (sN rfl (sQ (Qba (v:=.bool false) rfl rfl rfl (go 1 7 ?_)))))))))))
        refine sN rfl (sN rfl (sQ (Qba (v:=.bool false) rfl rfl rfl (go 1 7 (RS.nil ?_)))))
        exact T.weakR (hK () trivial) (Weak.mkN [] [] (by decide) (Qra _) rfl ⟨Jha ((congrArg (fun p=>p) (Option.some.inj hz)).symm),trivial⟩ (Qna))
       replace hz:=ite_F hz hb_8
       refine sN hb_8 (sN hb_8 (sN hb_8 (sQ (Qba (v:=.bool false) rfl hb_8 rfl (go 1 7 (sN rfl (sN rfl (sN rfl (sN rfl (sQ (Qba (v:=.bool false) rfl rfl rfl ?_)))))))))))
       refine go 1 7 (sN rfl (sN rfl (sQ (Qba (v:=.bool false) rfl rfl rfl (go 1 7 (sN rfl (sN rfl (sQ (Qba (v:=.bool false) rfl rfl rfl (go 1 7 (RS.nil ?_)))))))))))
       exact T.weakR (hK () trivial) (Weak.mkN [] [] (by decide) (Qra _) rfl ⟨Jha ((congrArg (fun p=>p) (Option.some.inj hz)).symm),trivial⟩ (Qna))
      replace hz:=ite_F hz hb_7
      refine sN hb_7 (sN hb_7 (sQ (Qba (v:=.bool false) rfl hb_7 rfl (go 1 7 (sN rfl (sN rfl (sN rfl (sQ (Qba (v:=.bool false) rfl rfl rfl (go 1 7 (sN rfl ?_)))))))))))
      refine sN rfl (sN rfl (sN rfl (sQ (Qba (v:=.bool false) rfl rfl rfl (go 1 7 (sN rfl (sN rfl (sQ (Qba (v:=.bool false) rfl rfl rfl (go 1 7 (sN rfl ?_)))))))))))
      refine sN rfl (sQ (Qba (v:=.bool false) rfl rfl rfl (go 1 7 (RS.nil ?_))))
      exact T.weakR (hK () trivial) (Weak.mkN [] [] (by decide) (Qra _) rfl ⟨Jha ((congrArg (fun p=>p) (Option.some.inj hz)).symm),trivial⟩ (Qna))
     replace hz:=ite_F hz hb_6
     refine sN hb_6 (sN hb_6 (sQ (Qba (v:=.bool false) rfl hb_6 rfl (go 1 7 (sN rfl (sN rfl (sQ (Qba (v:=.bool false) rfl rfl rfl (go 1 7 (sN rfl (sN rfl ?_)))))))))))
     refine sN rfl (sQ (Qba (v:=.bool false) rfl rfl rfl (go 1 7 (sN rfl (sN rfl (sN rfl (sN rfl (sQ (Qba (v:=.bool false) rfl rfl rfl (go 1 7 (sN rfl ?_)))))))))))
     refine sN rfl (sQ (Qba (v:=.bool false) rfl rfl rfl (go 1 7 (sN rfl (sN rfl (sQ (Qba (v:=.bool false) rfl rfl rfl (go 1 7 (RS.nil ?_)))))))))
     exact T.weakR (hK () trivial) (Weak.mkN [] [] (by decide) (Qra _) rfl ⟨Jha ((congrArg (fun p=>p) (Option.some.inj hz)).symm),trivial⟩ (Qna))
    replace hz:=ite_F hz hb_5
    refine sN hb_5 (sN hb_5 (sQ (Qba (v:=.bool false) rfl hb_5 rfl (go 1 7 (sN rfl (sN rfl (sQ (Qba (v:=.bool false) rfl rfl rfl (go 1 7 (sN rfl (sN rfl ?_)))))))))))
    refine sQ (Qba (v:=.bool false) rfl rfl rfl (go 1 7 (sN rfl (sN rfl (sN rfl (sQ (Qba (v:=.bool false) rfl rfl rfl (go 1 7 (sN rfl (sN rfl (sN rfl ?_)))))))))))
    refine sN rfl (sQ (Qba (v:=.bool false) rfl rfl rfl (go 1 7 (sN rfl (sN rfl (sQ (Qba (v:=.bool false) rfl rfl rfl (go 1 7 (sN rfl (sN rfl (sQ (Qba (v:=.bool false) rfl rfl rfl ?_))))))))))))
    refine go 1 7 (RS.nil ?_)
    exact T.weakR (hK () trivial) (Weak.mkN [] [] (by decide) (Qra _) rfl ⟨Jha ((congrArg (fun p=>p) (Option.some.inj hz)).symm),trivial⟩ (Qna))
   replace hz:=ite_F hz hb_4
   refine sN hb_4 (sN hb_4 (sQ (Qba (v:=.bool false) rfl hb_4 rfl (go 1 7 (sN rfl (sN rfl (sQ (Qba (v:=.bool false) rfl rfl rfl (go 1 7 (sN rfl (sN rfl ?_)))))))))))
   refine sQ (Qba (v:=.bool false) rfl rfl rfl (go 1 7 (sN rfl (sN rfl (sQ (Qba (v:=.bool false) rfl rfl rfl (go 1 7 (sN rfl (sN rfl (sN rfl (sQ (Qba (v:=.bool false) rfl rfl rfl ?_))))))))))))
   refine go 1 7 (sN rfl (sN rfl (sN rfl (sN rfl (sQ (Qba (v:=.bool false) rfl rfl rfl (go 1 7 (sN rfl (sN rfl (sQ (Qba (v:=.bool false) rfl rfl rfl ?_)))))))))))
   refine go 1 7 (sN rfl (sN rfl (sQ (Qba (v:=.bool false) rfl rfl rfl (go 1 7 (RS.nil ?_))))))
   exact T.weakR (hK () trivial) (Weak.mkN [] [] (by decide) (Qra _) rfl ⟨Jha ((congrArg (fun p=>p) (Option.some.inj hz)).symm),trivial⟩ (Qna))
  replace hz:=ite_F hz hb_3
  refine sN hb_3 (sN hb_3 (sQ (Qba (v:=.bool false) rfl hb_3 rfl (go 1 7 (sN rfl (sN rfl (sQ (Qba (v:=.bool false) rfl rfl rfl (go 1 7 (sN rfl (sN rfl ?_)))))))))))
  refine sQ (Qba (v:=.bool false) rfl rfl rfl (go 1 7 (sN rfl (sN rfl (sQ (Qba (v:=.bool false) rfl rfl rfl (go 1 7 (sN rfl (sN rfl (sQ (Qba (v:=.bool false) rfl rfl rfl (go 1 7 ?_))))))))))))
  refine sN rfl (sN rfl (sN rfl (sQ (Qba (v:=.bool false) rfl rfl rfl (go 1 7 (sN rfl (sN rfl (sN rfl (sN rfl (sQ (Qba (v:=.bool false) rfl rfl rfl ?_)))))))))))
  refine go 1 7 (sN rfl (sN rfl (sQ (Qba (v:=.bool false) rfl rfl rfl (go 1 7 (sN rfl (sN rfl (sQ (Qba (v:=.bool false) rfl rfl rfl (go 1 7 (RS.nil ?_)))))))))))
  exact T.weakR (hK () trivial) (Weak.mkN [] [] (by decide) (Qra _) rfl ⟨Jha ((congrArg (fun p=>p) (Option.some.inj hz)).symm),trivial⟩ (Qna))
theorem crossref_SumOf_c (p0:List UInt8) (r:Int) (h:Jcb p0=some r):Fn Tryz.prog 31 [.str p0] (iI r):=by
  unfold Jcb at h
  refine fnT 0 Tryz.func31 Tryz.ntmps31 ?_
  refine T.seq (T.region (go 1 0 (RS.nil (T.seq ?_))))
  obtain ⟨x2,hx2,h⟩:=bind_some h
  refine T.region (go 4 0 (sO (o_mk0 (en:=enc8) Ty.s35 Ty.z5 rfl rfl hx2 rfl rfl (go 1 1 (RS.nil (T.seq (T.seq (T.region (go 3 1 (RS.nil ?_))))))))))
  refine T.block (T.iter (fun ss_15:Int × (List Int)=>mkA 97 [(0,.str p0),(3,.ref 0),(20,iI ((p0).length:Int)),(21,iI ss_15.1)]) (fun ss_15=>[aR 5 1 enc8 ss_15.2]) h (wk [] [0] 1 rfl) (fun ss_15 v_16 h hv_16=>?_))
  obtain ⟨s3,s4⟩:=ss_15
  replace h:Z3a p0 s3 s4=some v_16:=h
  try dsimp only
  unfold Z3a at h
  refine T.seq (T.region (go 1 1 (RS.nil (T.seq (T.ci h rfl (fun hb_17 h=>?_) (fun hb_17 h=>?_))))))
  ·refine T.skip (T.seq (T.block (T.seq (T.region (go 2 1 (RS.nil (T.seq (T.region (go 1 1 ?_)))))))))
   refine RS.nil (T.block (T.iter (fun ss_20:Int × (List Int)=>mkA 97 [(0,.str p0),(3,.ref 0),(4,iI s3),(5,iI ss_20.1),(20,iI ((p0).length:Int)),(21,iI s3)]) (fun ss_20=>[aR 5 1 enc8 ss_20.2]) h (wk [] [0] 1 rfl) (fun ss_20 v_21 h hv_21=>?_)))
   obtain ⟨s5,s6⟩:=ss_20
   replace h:Z5a p0 s3 s5 s6=some v_21:=h
   try dsimp only
   unfold Z5a at h
   refine T.seq (T.seq (T.region (go 2 1 (RS.nil (T.ci h rfl (fun hb_22 h=>?_) (fun hb_22 h=>?_))))))
   ·refine T.skip (T.seq (T.block ?_))
    obtain ⟨x7,hx7,h⟩:=bind_some h
    obtain ⟨x8,hx8,h⟩:=bind_some h
    obtain ⟨x9,hx9,h⟩:=bind_some h
    refine T.region (go 3 1 (sQ (Jaa Tryz.underlying9 rfl rfl hx7 (go 1 1 (sQ (v_shr rfl rfl hx8 (go 1 1 (sO (Qsa (rows:=List.map enc8 [ibits .and .u8 x8 1]) (vs:=[.int .u8 (ibits .and .u8 x8 1)]) Ty.s35 Ty.z5 rfl rfl rfl rfl rfl rfl (sO (Zva (en:=enc8) (xs:=s6) (ys:=([ibits .and .u8 x8 1]:List Int)) Ty.s35 (fun _=>rfl) rfl rfl rfl hx9 rfl rfl (go 1 3 (RS.nil ?_)))))))))))))
    refine T.region (go 3 3 (RS.nil ?_))
    exact ⟨(IntKind.i64.wrap (s5 - 1),x9),(Option.some.inj h).symm,wk [] [2] 3 rfl⟩
   refine T.exit ?_
   obtain ⟨w_23,h,hw_23⟩:=Qva h
   replace h:=h.trans (congrArg some (hv_21 _ hw_23))
   refine T.region (go 2 1 (RS.nil ?_))
   exact ⟨(IntKind.i64.wrap (s3+1),s6),(Option.some.inj h).symm,wk [] [0] 1 rfl⟩
  refine T.exit ?_
  obtain ⟨w_24,h,hw_24⟩:=Qva h
  replace h:=h.trans (congrArg some (hv_16 _ hw_24))
  refine T.seq ?_
  obtain ⟨x11,hx11,h⟩:=bind_some h
  refine T.region (go 1 1 (sO (o_app_z (en:=enc8) (z0:=0) (xs:=s4) Ty.s35 Tryz.underlying3 Ty.z5 (fun _=>rfl) rfl rfl rfl hx11 rfl rfl (go 1 2 (RS.nil (T.seq (T.seq (T.region (go 1 2 (RS.nil ?_))))))))))
  refine T.block (T.iter (fun ss_27:Int × (List Int)=>mkA 97 [(3,.ref 0),(40,iI ss_27.1)]) (fun ss_27=>[aR 5 1 enc8 ss_27.2]) h (wk [] [1] 2 rfl) (fun ss_27 v_28 h hv_28=>?_))
  obtain ⟨s12,s13⟩:=ss_27
  replace h:Z1a s12 s13=some v_28:=h
  try dsimp only
  unfold Z1a at h
  refine T.seq (T.region (go 1 1 (RS.nil (T.seq (T.ci h rfl (fun hb_29 h=>?_) (fun hb_29 h=>?_))))))
  ·refine T.skip (T.seq (T.block (T.seq (T.region (go 2 1 (RS.nil ?_))))))
   obtain ⟨x14,hx14,h⟩:=bind_some h
   obtain ⟨x15,hx15,h⟩:=bind_some h
   obtain ⟨x16,hx16,h⟩:=bind_some h
   obtain ⟨x17,hx17,h⟩:=bind_some h
   refine T.region (go 2 1 (sQ (Qha (en:=enc8) Ty.s35 rfl rfl rfl hx14 (sO (Qfa (en:=enc8) (a:=x15) rfl rfl hx15 (Q0a Ty.k5 (c:=.int .u8 x15) rfl (go 1 1 (sQ (Qha (en:=enc8) Ty.s35 rfl rfl rfl hx16 (sO (Zxa (en:=enc8) (a:=x17) (a':=ibits .xor .u8 x15 1) Ty.c5 Ty.i5 rfl (vs:=[.int .u8 (ibits .xor .u8 x15 1)]) rfl rfl rfl hx17 rfl rfl rfl (RS.nil (T.region (go 2 1 ?_))))))))))))))
   refine RS.nil ?_
   exact ⟨(IntKind.i64.wrap (s12+1),(List.set s13 x16 (ibits .xor .u8 x15 1))),(Option.some.inj h).symm,wk [] [0] 1 rfl⟩
  refine T.exit ?_
  obtain ⟨w_30,h,hw_30⟩:=Qva h
  replace h:=h.trans (congrArg some (hv_28 _ hw_30))
  refine T.seq (T.region (sO (Qsa (rows:=List.map enc8 [1,0,0,0,1,0,0,0,0,0,0,1,0,0,0,0,1]) (vs:=[.int .u8 1,.int .u8 0,.int .u8 0,.int .u8 0,.int .u8 1,.int .u8 0,.int .u8 0,.int .u8 0,.int .u8 0,.int .u8 0,.int .u8 0,.int .u8 1,.int .u8 0,.int .u8 0,.int .u8 0,.int .u8 0,.int .u8 1]) Ty.s35 Ty.z5 rfl rfl rfl rfl rfl rfl (go 1 2 (RS.nil (T.seq (T.seq (T.region (go 1 2 (RS.nil ?_))))))))))
  refine T.block (T.iter (fun ss_47:Int × (List Int)=>mkA 97 [(3,.ref 0),(7,.ref 1),(8,iI ss_47.1)]) (fun ss_47=>[aR 5 1 enc8 ss_47.2,aR 5 1 enc8 [1,0,0,0,1,0,0,0,0,0,0,1,0,0,0,0,1]]) h (wk [] [0,1] 2 rfl) (fun ss_47 v_48 h hv_48=>?_))
  obtain ⟨s18,s19⟩:=ss_47
  replace h:Jsa s18 s19=some v_48:=h
  try dsimp only
  unfold Jsa at h
  refine T.seq (T.seq (T.region (go 3 2 (sQ (Zga (en:=enc8) Ty.s35 rfl rfl (go 1 2 (RS.nil (T.ci h rfl (fun hb_49 h=>?_) (fun hb_49 h=>?_)))))))))
  ·refine T.skip (T.seq (T.block (T.seq ?_)))
   obtain ⟨x22,hx22,h⟩:=bind_some h
   obtain ⟨x23,hx23,h⟩:=bind_some h
   refine T.region (go 2 2 (sQ (Qha (en:=enc8) Ty.s35 rfl rfl rfl hx22 (sO (Qfa (en:=enc8) (a:=x23) rfl rfl hx23 (Q0a Ty.k5 (c:=.int .u8 x23) rfl (go 1 2 (RS.nil (T.ci h rfl (fun hb_50 h=>?_) (fun hb_50 h=>?_))))))))))
   ·refine T.seq (T.region (go 1 2 (sQ (Zga (en:=enc8) Ty.s35 rfl rfl (go 1 2 (RS.nil (T.block (T.iter (fun ss_53:Int × (List Int)=>mkA 97 [(3,.ref 0),(7,.ref 1),(8,iI s18),(63,.ref 1),(64,iI (([1,0,0,0,1,0,0,0,0,0,0,1,0,0,0,0,1]).length:Int)),(65,iI ss_53.1)]) (fun ss_53=>[aR 5 1 enc8 ss_53.2,aR 5 1 enc8 [1,0,0,0,1,0,0,0,0,0,0,1,0,0,0,0,1]]) h (wk [] [0,1] 2 rfl) (fun ss_53 v_54 h hv_54=>?_)))))))))
    obtain ⟨s24,s25⟩:=ss_53
    replace h:Z0a s18 s24 s25=some v_54:=h
    try dsimp only
    unfold Z0a at h
    refine T.seq (T.region (go 1 2 (RS.nil (T.seq (T.ci h rfl (fun hb_55 h=>?_) (fun hb_55 h=>?_))))))
    ·refine T.skip (T.seq (T.block (T.seq ?_)))
     obtain ⟨x28,hx28,h⟩:=bind_some h
     obtain ⟨x29,hx29,h⟩:=bind_some h
     refine T.region (go 1 2 (sQ (Qha (en:=enc8) Ty.s35 rfl rfl rfl hx28 (sO (Qfa (en:=enc8) (a:=x29) rfl rfl hx29 (Q0a Ty.k5 (c:=.int .u8 x29) rfl (go 2 2 (RS.nil ?_))))))))
     obtain ⟨x30,hx30,h⟩:=bind_some h
     obtain ⟨x31,hx31,h⟩:=bind_some h
     obtain ⟨x32,hx32,h⟩:=bind_some h
     obtain ⟨x33,hx33,h⟩:=bind_some h
     refine T.region (go 4 2 (sQ (Qha (en:=enc8) Ty.s35 rfl rfl rfl hx30 (sO (Qfa (en:=enc8) (a:=x31) rfl rfl hx31 (Q0a Ty.k5 (c:=.int .u8 x31) rfl (go 2 2 (sQ (Qha (en:=enc8) Ty.s35 rfl rfl rfl hx32 (sO (Zxa (en:=enc8) (a:=x33) (a':=ibits .xor .u8 x31 x29) Ty.c5 Ty.i5 rfl (vs:=[.int .u8 (ibits .xor .u8 x31 x29)]) rfl rfl rfl hx33 rfl rfl rfl (RS.nil (T.region (go 2 2 ?_))))))))))))))
     refine RS.nil ?_
     exact ⟨(IntKind.i64.wrap (s24+1),(List.set s25 x32 (ibits .xor .u8 x31 x29))),(Option.some.inj h).symm,wk [] [0,1] 2 rfl⟩
    refine T.exit ?_
    obtain ⟨w_56,h,hw_56⟩:=Qva h
    replace h:=h.trans (congrArg some (hv_54 _ hw_56))
    refine T.region (go 3 2 (RS.nil ?_))
    exact ⟨(IntKind.i64.wrap (s18+1),s25),(Option.some.inj h).symm,wk [] [0,1] 2 rfl⟩
   refine T.skip (T.region (go 3 2 (RS.nil ?_)))
   exact ⟨(IntKind.i64.wrap (s18+1),s19),(Option.some.inj h).symm,wk [] [0,1] 2 rfl⟩
  refine T.exit ?_
  obtain ⟨w_57,h,hw_57⟩:=Qva h
  replace h:=h.trans (congrArg some (hv_48 _ hw_57))
  refine T.seq (T.region (go 1 2 (RS.nil (T.seq (T.seq ?_)))))
  obtain ⟨x35,hx35,h⟩:=bind_some h
  refine T.region (go 2 2 (sQ (Zga (en:=enc8) Ty.s35 rfl rfl (go 1 2 (RS.fC 0 (sO (o_slice_sl Ty.s35 (fun _=>rfl) rfl rfl rfl hx35 (sQ (Qka Ty.s35 rfl (go 1 2 (RS.nil (T.block ?_))))))))))))
  refine T.iter (fun ss_60:Int × Int=>mkA 97 [(11,iI ss_60.1),(84,sL enc8 x35),(85,iI ((x35).length:Int)),(86,iI ss_60.2)]) (fun ss_60=>[]) h (wk [] [] 2 rfl) (fun ss_60 v_61 h hv_61=>?_)
  obtain ⟨s36,s37⟩:=ss_60
  replace h:Z2a x35 s36 s37=some v_61:=h
  try dsimp only
  unfold Z2a at h
  refine T.seq (T.region (go 1 0 (RS.nil (T.seq (T.ci h rfl (fun hb_62 h=>?_) (fun hb_62 h=>?_))))))
  ·refine T.skip (T.seq (T.block (T.seq ?_)))
   obtain ⟨x39,hx39,h⟩:=bind_some h
   refine T.region (sQ (Qja Ty.s35 (fun _=>rfl) rfl rfl hx39 (go 2 0 (RS.nil (T.region (go 6 0 (RS.nil (T.region (go 2 0 (RS.nil ?_))))))))))
   exact ⟨(IntKind.i64.wrap ((IntKind.i64.wrap (2*s36))+(IntKind.i64.wrap x39)),IntKind.i64.wrap (s37+1)),(Option.some.inj h).symm,wk [] [] 0 rfl⟩
  refine T.exit ?_
  obtain ⟨w_63,h,hw_63⟩:=Qva h
  replace h:=h.trans (congrArg some (hv_61 _ hw_63))
  refine T.seq (T.region (go 2 0 (RS.nil ?_)))
  cases h
  exact tD
theorem crossref_Framed_c (p0:List UInt8) (r:List UInt8) (h:Qpb p0=some r):Fn Tryz.prog 11 [.str p0] (.str r):=by
  unfold Qpb at h
  refine fnT 0 Tryz.func11 Tryz.ntmps11 ?_
  refine T.seq (T.region (go 1 0 (RS.nil (T.seq ?_))))
  obtain ⟨x2,hx2,h⟩:=bind_some h
  refine T.region (go 3 0 (sO (Qsa (rows:=List.map enc8 [IntKind.u8.wrap ((p0).length:Int)]) (vs:=[.int .u8 (IntKind.u8.wrap ((p0).length:Int))]) Ty.s35 Ty.z5 rfl rfl rfl rfl rfl rfl (sO (Zpa (xs:=[IntKind.u8.wrap ((p0).length:Int)]) Tryz.underlying35 Tryz.underlying5 Tryz.underlying9 rfl rfl (go 1 1 (sQ (v_sadd rfl rfl hx2 (go 1 1 (RS.nil (T.seq ?_)))))))))))
  obtain ⟨x4,hx4,h⟩:=bind_some h
  refine T.region (go 1 1 (sO (cF (crossref_SumOf_c x2 x4 hx4) ⟨rfl,(go 1 1 (RS.nil (T.seq ?_)))⟩)))
  obtain ⟨x8,hx8,h⟩:=bind_some h
  obtain ⟨x9,hx9,h⟩:=bind_some h
  obtain ⟨x10,hx10,h⟩:=bind_some h
  refine T.region (go 2 1 (sQ (v_quo rfl rfl hx8 (go 2 1 (sQ (v_rem rfl rfl hx9 (go 1 1 (sO (Qsa (rows:=List.map enc8 [IntKind.u8.wrap x8,IntKind.u8.wrap x9]) (vs:=[.int .u8 (IntKind.u8.wrap x8),.int .u8 (IntKind.u8.wrap x9)]) Ty.s35 Ty.z5 rfl rfl rfl rfl rfl rfl (sO (Zpa (xs:=[IntKind.u8.wrap x8,IntKind.u8.wrap x9]) Tryz.underlying35 Tryz.underlying5 Tryz.underlying9 rfl rfl (sQ (v_sadd rfl rfl hx10 (go 1 2 ?_))))))))))))))
  refine RS.nil ?_
  cases h
  exact tD
theorem Jla (p0:Int) (p1:Int) (p2:List (List UInt8)) (p3:List Write) (r:List UInt8) (h:Jya p0 p1 p2 p3=some r):FnX Tryz.prog 34 [iI p0,.ptr 0 0,.ptr 1 0] [.box [iI p1],.box [sL encS p2,sL Jja p3]] (.str r) [.box [iI p1],.box [sL encS p2,sL Jja p3]]:=by
  unfold Jya at h
  refine fnT 2 Tryz.func34 Tryz.ntmps34 ?_
  refine T.seq (T.region (go 1 2 (RS.nil (T.seq (T.seq (T.region (go 6 2 (sQ (Qka Ty.s22 rfl (go 1 2 ?_))))))))))
  refine RS.nil (T.ci h rfl (fun hb_1 h=>?_) (fun hb_1 h=>?_))
  ·refine T.seq ?_
   obtain ⟨x2,hx2,h⟩:=bind_some h
   refine T.region (go 6 2 (sQ (Qja Ty.s22 (fun _=>rfl) rfl rfl hx2 (go 2 2 (RS.nil ?_)))))
   cases h
   exact tN [0,1]
  refine T.skip (T.seq (T.region (go 1 2 (RS.nil ?_))))
  cases h
  exact tN [0,1]
end Go.Proofs.YtchmpaaofmihcaaGreat
namespace Go.Proofs.YtchmpaaofmihcaaGreat
open Go.RowKit
set_option linter.unusedVariables false
set_option linter.unusedSimpArgs false
set_option maxRecDepth 100000
set_option maxHeartbeats 4000000
set_option synthInstance.maxSize 100000
set_option synthInstance.maxHeartbeats 4000000
theorem crossref_Unframe_c (p0:List UInt8) (r:(List (List UInt8)) × Int) (h:Yga p0=some r):FnO Tryz.prog 35 [.str p0] (.tup [.ref 0,iI r.2]) [aR 9 1 encS r.1]:=by
  unfold Yga at h
  refine fnT 0 Tryz.func35 Tryz.ntmps35 ?_
  refine T.seq (T.region (go 2 0 (RS.nil (T.block (T.iter (fun ss_13:Int × (List (List UInt8))=>mkA 55 [(0,.str p0),(2,.ref 0),(3,iI ss_13.1)]) (fun ss_13=>[aR 9 1 encS ss_13.2]) h (wk [(2,9,1)] [0] 0 rfl) (fun ss_13 v_14 h hv_14=>?_))))))
  obtain ⟨s1,s2⟩:=ss_13
  replace h:Jka p0 s1 s2=some v_14:=h
  try dsimp only
  unfold Jka at h
  refine T.block (T.seq ?_)
  obtain ⟨x4,hx4,h⟩:=bind_some h
  refine T.region (go 2 1 (sO (Y6a Tryz.underlying9 rfl rfl rfl hx4 (go 1 1 (RS.nil (T.seq (T.seq (T.region (go 3 1 (RS.nil ?_))))))))))
  refine T.ci h rfl (fun hb_15 h=>?_) (fun hb_15 h=>?_)
  ·refine T.seq (T.region (go 4 1 (RS.nil ?_)))
   obtain ⟨w_16,h,hw_16⟩:=Qva h
   replace h:=h.trans (congrArg some (hv_14 _ hw_16))
   cases h
   exact tO [] [0] 1
  refine T.skip (T.seq ?_)
  obtain ⟨x6,hx6,h⟩:=bind_some h
  refine T.region (go 1 1 (sQ (Jaa Tryz.underlying9 rfl rfl hx6 (go 2 1 (RS.nil (T.seq ?_))))))
  obtain ⟨zt_20,hz,h⟩:=bind_some h
  revert hz h;revert zt_20;intro c10 hz h
  refine T.join (Z:=Unit) (fun _=>mkA 55 [(0,.str p0),(2,.ref 0),(3,iI s1),(4,.str x4),(5,iI (IntKind.i64.wrap (x6.toNat:Int))),(41,.bool c10)]) (fun _=>[aR 9 1 encS s2]) (fun _=>True) (fun _ _=>?_) (fun hK=>?_)
  ·refine T.ci h rfl (fun hb_21 h=>?_) (fun hb_21 h=>?_)
   ·refine T.seq (T.region (go 4 1 (RS.nil ?_)))
    obtain ⟨w_22,h,hw_22⟩:=Qva h
    replace h:=h.trans (congrArg some (hv_14 _ hw_22))
    cases h
    exact tO [] [0] 1
   refine T.skip (T.seq ?_)
   obtain ⟨x13,hx13,h⟩:=bind_some h
   obtain ⟨x14,hx14,h⟩:=bind_some h
   refine T.region (go 4 1 (sO (Y6a Tryz.underlying9 rfl rfl rfl hx13 (sO (Qsa (rows:=List.map encS [x13]) (vs:=[.str x13]) Ty.s22 Ty.z9 rfl rfl rfl rfl rfl rfl (sO (Zva (en:=encS) (xs:=s2) (ys:=([x13]:List (List UInt8))) Ty.s22 (fun _=>rfl) rfl rfl rfl hx14 rfl rfl (go 1 3 (RS.nil (T.region (go 5 3 (RS.nil ?_))))))))))))
   exact ⟨(IntKind.i64.wrap (s1+(IntKind.i64.wrap ((IntKind.i64.wrap (x6.toNat:Int))+3))),x14),(Option.some.inj h).symm,wk [] [2] 3 rfl⟩
  rcases Qca (decide ((IntKind.i64.wrap (x6.toNat:Int))<1)) with hb_17 | hb_17
  ·replace hz:=ite_T hz hb_17
   refine T.drawn mixed (k:=25) rfl (rq [0,1,2] 22 (r2 3 rfl hb_17 (r2 4 rfl hb_17 (r0 5 rfl (Qga (v:=.bool true) rfl hb_17 rfl (rq [6] 18 (r2 7 rfl rfl (r2 8 rfl rfl (r2 9 rfl rfl (r2 10 rfl rfl ?_))))))))))
   refine r2 11 rfl rfl (r0 12 rfl (Qga (v:=.bool true) rfl rfl rfl (rq [13] 11 (r2 14 rfl rfl (r2 15 rfl rfl (r2 16 rfl rfl (r2 17 rfl rfl (r2 18 rfl rfl (r2 19 rfl rfl (r2 20 rfl rfl ?_))))))))))
   refine r2 21 rfl rfl (r2 22 rfl rfl (r2 23 rfl rfl (r0 24 rfl (Qga (v:=.bool true) rfl rfl rfl (RA.done (by decide +kernel) ?_)))))
   exact T.sub (hK () trivial) ⟨rfl,rfl,rfl,rfl,rfl,(congrArg AV.bool ((congrArg (fun p=>p) (Option.some.inj hz)).symm)).symm,trivial⟩
  replace hz:=ite_F hz hb_17
  rcases Qca (decide ((IntKind.i64.wrap (x6.toNat:Int)) > 60)) with hb_18 | hb_18
  ·replace hz:=ite_T hz hb_18
   refine T.drawn mixed (k:=25) rfl (rq [0,1,2] 22 (ry 3 hb_17 rfl (ry 4 hb_17 rfl (r0 5 rfl (Qba (v:=.bool (decide ((IntKind.i64.wrap (x6.toNat:Int)) > 60))) rfl hb_17 rfl (rq [6] 18 (r2 7 rfl hb_18 (r2 8 rfl hb_18 (r2 9 rfl hb_18 (r2 10 rfl hb_18 ?_))))))))))
   refine r2 11 rfl hb_18 (r0 12 rfl (Qga (v:=.bool true) rfl hb_18 rfl (rq [13] 11 (r2 14 rfl rfl (r2 15 rfl rfl (r2 16 rfl rfl (r2 17 rfl rfl (r2 18 rfl rfl (r2 19 rfl rfl (r2 20 rfl rfl ?_))))))))))
   refine r2 21 rfl rfl (r2 22 rfl rfl (r2 23 rfl rfl (r0 24 rfl (Qga (v:=.bool true) rfl rfl rfl (RA.done (by decide +kernel) ?_)))))
   exact T.sub (hK () trivial) ⟨rfl,rfl,rfl,rfl,rfl,(congrArg AV.bool ((congrArg (fun p=>p) (Option.some.inj hz)).symm)).symm,trivial⟩
  replace hz:=ite_F hz hb_18
  rcases Qca (decide ((IntKind.i64.wrap ((IntKind.i64.wrap (x6.toNat:Int))+3)) > ((x4).length:Int))) with hb_19 | hb_19
  ·replace hz:=ite_T hz hb_19
   refine T.drawn mixed (k:=25) rfl (rq [0,1,2] 22 (ry 3 hb_17 rfl (ry 4 hb_17 rfl (r0 5 rfl (Qba (v:=.bool (decide ((IntKind.i64.wrap (x6.toNat:Int)) > 60))) rfl hb_17 rfl (rq [6] 18 (ry 7 hb_18 rfl (ry 8 hb_18 rfl (ry 9 hb_18 rfl (ry 10 hb_18 rfl ?_))))))))))
   refine ry 11 hb_18 rfl (r0 12 rfl (Qba (v:=.bool (decide ((IntKind.i64.wrap ((IntKind.i64.wrap (x6.toNat:Int))+3)) > ((x4).length:Int)))) rfl hb_18 rfl (rq [13] 11 (r2 14 rfl hb_19 (r2 15 rfl hb_19 (r2 16 rfl hb_19 (r2 17 rfl hb_19 (r2 18 rfl hb_19 (r2 19 rfl hb_19 (r2 20 rfl hb_19 ?_))))))))))
   refine r2 21 rfl hb_19 (r2 22 rfl hb_19 (r2 23 rfl hb_19 (r0 24 rfl (Qga (v:=.bool true) rfl hb_19 rfl (RA.done (by decide +kernel) ?_)))))
   exact T.sub (hK () trivial) ⟨rfl,rfl,rfl,rfl,rfl,(congrArg AV.bool ((congrArg (fun p=>p) (Option.some.inj hz)).symm)).symm,trivial⟩
  replace hz:=ite_F hz hb_19
  obtain ⟨x7,hx7,hz⟩:=bind_some hz
  obtain ⟨x8,hx8,hz⟩:=bind_some hz
  obtain ⟨x9,hx9,hz⟩:=bind_some hz
  refine T.drawn mixed (k:=25) rfl (rq [0,1,2] 22 (ry 3 hb_17 rfl (ry 4 hb_17 rfl (r0 5 rfl (Qba (v:=.bool (decide ((IntKind.i64.wrap (x6.toNat:Int)) > 60))) rfl hb_17 rfl (rq [6] 18 (ry 7 hb_18 rfl (ry 8 hb_18 rfl (ry 9 hb_18 rfl (ry 10 hb_18 rfl ?_))))))))))
  refine ry 11 hb_18 rfl (r0 12 rfl (Qba (v:=.bool (decide ((IntKind.i64.wrap ((IntKind.i64.wrap (x6.toNat:Int))+3)) > ((x4).length:Int)))) rfl hb_18 rfl (rq [13] 11 (ry 14 hb_19 rfl (ry 15 hb_19 rfl (ry 16 hb_19 rfl (r1 17 rfl hb_19 (J5a Tryz.underlying9 rfl rfl rfl hx7 (ry 19 hb_19 rfl (ry 20 hb_19 rfl (ry 21 hb_19 rfl ?_)))))))))))
  refine r1 22 rfl hb_19 (J5a Tryz.underlying9 rfl rfl rfl hx9 (ra1 18 (oP rfl hb_19 (cF (crossref_Framed_c x7 x8 hx8) ⟨rfl,(ry 23 hb_19 rfl (r0 24 rfl (Qba (v:=.bool (!(x8==x9))) rfl hb_19 rfl (RA.done (by decide +kernel) ?_))))⟩))))
  exact T.sub (hK () trivial) ⟨rfl,rfl,rfl,rfl,rfl,(congrArg AV.bool ((congrArg (fun p=>p) (Option.some.inj hz)).symm)).symm,trivial⟩
theorem crossref_SlotOf_c (p0:Disk) (p1:Int) (r:(List UInt8) × Int × Bool) (h:Qkb p0 p1=some r):Fn Tryz.prog 15 [.agg (Qpa p0),iI p1] (.tup [.str r.1,iI r.2.1,.bool r.2.2]):=by
  unfold Qkb at h
  refine fnT 0 Tryz.func15 Tryz.ntmps15 ?_
  refine T.seq (T.region (go 5 0 (RS.nil (T.seq (T.region (go 2 2 (RS.nil (T.seq ?_))))))))
  obtain ⟨x3,hx3,h⟩:=bind_some h
  obtain ⟨x4,hx4,h⟩:=bind_some h
  refine T.region (go 1 2 (sO (Q6a (ac:=[iI 0,.ptr 1 0,.ptr 0 0]) (as0:=[iI (0:Int),.ptr 0 0,.ptr 1 0]) (aw0:=[.box [iI p1],.box (Qpa p0)]) (aw1:=[.box [iI p1],.box (Qpa p0)]) (aw2:=[.box (Qpa p0),.box [iI p1]]) (v:=.str x3) (v':=.str x3) (n0:=2) (n1:=2) [1,0] rfl rfl rfl rfl (by decide) (Jba (cs:=[iI p1]) (ds:=[iI p1]) rfl ⟨Qya rfl,trivial⟩ (Jba (cs:=(Qpa p0)) (ds:=(Qpa p0)) rfl ⟨rn_s rfl,rn_s rfl,trivial⟩ (Qna))) ⟨Qya rfl,Qla rfl,Qla rfl,trivial⟩ (Jla (0:Int) p1 p0.Sectors p0.Wait x3 hx3) rfl (Qea (Jda _)) ⟨.inl ⟨1,_,by decide,rfl,Q7a (cs:=(Qpa p0)) (ds:=(Qpa p0)) ⟨Qea (Qua encS_p _),Qea (Qua Zza _),trivial⟩⟩,.inl ⟨0,_,by decide,rfl,Q7a (cs:=[iI p1]) (ds:=[iI p1]) ⟨Qea (Qwa _ _),trivial⟩⟩,trivial⟩ (sO (cO 2 (crossref_Unframe_c x3 x4 hx4) ⟨rfl,(go 5 3 (RS.nil (T.seq ?_)))⟩)))))
  obtain ⟨zt_6,hz,h⟩:=bind_some h
  revert hz h;revert zt_6;intro c17 hz h
  refine T.join (Z:=Unit) (fun _=>mkA 142 [(4,.str []),(7,.func 34 [.ptr 0 0,.ptr 1 0]),(8,.ref 2),(58,.bool c17)]) (fun _=>[.box [iI p1],.box (Qpa p0),aR 9 1 encS x4.1]) (fun _=>True) (fun _ _=>?_) (fun hK=>?_)
  ·refine T.ci h rfl (fun hb_7 h=>?_) (fun hb_7 h=>?_)
   ·refine T.seq (T.region (go 3 3 (RS.nil ?_)))
    cases h
    exact tD
   refine T.skip (T.seq ?_)
   obtain ⟨x21,hx21,h⟩:=bind_some h
   obtain ⟨x22,hx22,h⟩:=bind_some h
   obtain ⟨x23,hx23,h⟩:=bind_some h
   refine T.region (go 1 3 (sQ (Qha (en:=encS) Ty.s22 rfl rfl rfl hx21 (sO (Qfa (en:=encS) (a:=x22) rfl rfl hx22 (Q0a Ty.k9 (c:=.str x22) rfl (sQ (Jaa Tryz.underlying9 rfl rfl hx23 (go 2 3 (RS.nil (T.seq (T.seq (T.region ?_)))))))))))))
   refine go 1 3 (RS.nil (T.block (T.iter (fun ss_50:(List UInt8) × Int=>mkA 142 [(4,.str ss_50.1),(7,.func 34 [.ptr 0 0,.ptr 1 0]),(8,.ref 2),(10,iI (IntKind.i64.wrap (x23.toNat:Int))),(11,iI ss_50.2)]) (fun ss_50=>[.box [iI p1],.box (Qpa p0),aR 9 1 encS x4.1]) h (wk [] [0,1,2] 3 rfl) (fun ss_50 v_51 h hv_51=>?_))))
   obtain ⟨s24,s25⟩:=ss_50
   replace h:Zra p0 p1 x4 x23 s24 s25=some v_51:=h
   try dsimp only
   unfold Zra at h
   refine T.seq (T.seq (T.region (go 3 3 (RS.nil (T.ci h rfl (fun hb_52 h=>?_) (fun hb_52 h=>?_))))))
   ·refine T.skip (T.seq (T.block (T.seq ?_)))
    obtain ⟨x28,hx28,h⟩:=bind_some h
    obtain ⟨x29,hx29,h⟩:=bind_some h
    refine T.region (go 2 3 (sO (Q6a (ac:=[iI s25,.ptr 0 0,.ptr 1 0]) (as0:=[iI s25,.ptr 0 0,.ptr 1 0]) (aw0:=[.box [iI p1],.box (Qpa p0)]) (aw1:=[.box [iI p1],.box (Qpa p0)]) (aw2:=[.box [iI p1],.box (Qpa p0),aR 9 1 encS x4.1]) (v:=.str x28) (v':=.str x28) (n0:=3) (n1:=2) [0,1] rfl rfl rfl rfl (by decide) (Jba (cs:=[iI p1]) (ds:=[iI p1]) rfl ⟨Qya rfl,trivial⟩ (Jba (cs:=(Qpa p0)) (ds:=(Qpa p0)) rfl ⟨rn_s rfl,rn_s rfl,trivial⟩ (Qna))) ⟨Qya rfl,Qla rfl,Qla rfl,trivial⟩ (Jla s25 p1 p0.Sectors p0.Wait x28 hx28) rfl (Qea (Jda _)) ⟨.inl ⟨0,_,by decide,rfl,Q7a (cs:=[iI p1]) (ds:=[iI p1]) ⟨Qea (Qwa _ _),trivial⟩⟩,.inl ⟨1,_,by decide,rfl,Q7a (cs:=(Qpa p0)) (ds:=(Qpa p0)) ⟨Qea (Qua encS_p _),Qea (Qua Zza _),trivial⟩⟩,.inr ⟨rfl,rfl⟩,trivial⟩ (sO (cO 3 (crossref_Unframe_c x28 x29 hx29) ⟨rfl,(go 5 4 (RS.nil (T.seq ?_)))⟩)))))
    obtain ⟨zt_59,hz,h⟩:=bind_some h
    revert hz h;revert zt_59;intro c43 hz h
    refine T.join (Z:=Unit) (fun _=>mkA 142 [(4,.str s24),(7,.func 34 [.ptr 0 0,.ptr 1 0]),(8,.ref 2),(10,iI (IntKind.i64.wrap (x23.toNat:Int))),(11,iI s25),(12,.ref 3),(129,.bool c43)]) (fun _=>[.box [iI p1],.box (Qpa p0),aR 9 1 encS x4.1,aR 9 1 encS x29.1]) (fun _=>True) (fun _ _=>?_) (fun hK=>?_)
    ·refine T.ci h rfl (fun hb_60 h=>?_) (fun hb_60 h=>?_)
     ·refine T.seq (T.region (go 3 4 (RS.nil ?_)))
      obtain ⟨w_61,h,hw_61⟩:=Qva h
      replace h:=h.trans (congrArg some (hv_51 _ hw_61))
      cases h
      exact tD
     refine T.skip ?_
     obtain ⟨x44,hx44,h⟩:=bind_some h
     obtain ⟨x45,hx45,h⟩:=bind_some h
     obtain ⟨x46,hx46,h⟩:=bind_some h
     obtain ⟨x47,hx47,h⟩:=bind_some h
     refine T.region (go 2 4 (sQ (Qha (en:=encS) Ty.s22 rfl rfl rfl hx44 (sO (Qfa (en:=encS) (a:=x45) rfl rfl hx45 (Q0a Ty.k9 (c:=.str x45) rfl (sO (Y6a Tryz.underlying9 rfl rfl rfl hx46 (sQ (v_sadd rfl rfl hx47 (go 1 4 (RS.nil (T.region (go 3 4 ?_))))))))))))))
     refine RS.nil ?_
     exact ⟨(x47,IntKind.i64.wrap (s25+1)),(Option.some.inj h).symm,wk [] [0,1,2] 4 rfl⟩
    rcases Qca (((x29.1).length:Int) != 1) with hb_53 | hb_53
    ·replace hz:=ite_T hz hb_53
     refine T.drawn mixed (k:=54) rfl (rq [0] 53 (r0 1 rfl (Zga (en:=encS) Ty.s22 rfl rfl (rq [2,3] 50 (r2 4 rfl hb_53 (r2 5 rfl hb_53 (r2 6 rfl hb_53 (r2 7 rfl hb_53 (r2 8 rfl hb_53 (r2 9 rfl hb_53 ?_))))))))))
     refine r0 10 rfl (Qga (v:=.bool true) rfl hb_53 rfl (rq [11] 42 (r2 12 rfl rfl (r2 13 rfl rfl (r2 14 rfl rfl (r2 15 rfl rfl (r2 16 rfl rfl (r0 17 rfl (Qga (v:=.bool true) rfl rfl rfl (rq [18] 35 (r2 19 rfl rfl ?_)))))))))))
     refine r2 20 rfl rfl (r2 21 rfl rfl (r2 22 rfl rfl (r2 23 rfl rfl (r2 24 rfl rfl (r2 25 rfl rfl (r2 26 rfl rfl (r2 27 rfl rfl (r2 28 rfl rfl (r2 29 rfl rfl ?_)))))))))
     refine r2 30 rfl rfl (r2 31 rfl rfl (r2 32 rfl rfl (r2 33 rfl rfl (r0 34 rfl (Qga (v:=.bool true) rfl rfl rfl (rq [35] 18 (r2 36 rfl rfl (r2 37 rfl rfl (r2 38 rfl rfl (r2 39 rfl rfl ?_))))))))))
     refine r2 40 rfl rfl (r0 41 rfl (Qga (v:=.bool true) rfl rfl rfl (rq [42] 11 (r2 43 rfl rfl (r2 44 rfl rfl (r2 45 rfl rfl (r2 46 rfl rfl (r3 47 rfl (r3 48 rfl (r3 49 rfl ?_))))))))))
     refine r3 50 rfl (r3 51 rfl (r2 52 rfl rfl (r0 53 rfl (Qga (v:=.bool true) rfl rfl rfl (RA.done (by decide +kernel) ?_)))))
     exact T.sub (hK () trivial) ⟨rfl,rfl,rfl,rfl,rfl,rfl,(congrArg AV.bool ((congrArg (fun p=>p) (Option.some.inj hz)).symm)).symm,trivial⟩
    replace hz:=ite_F hz hb_53
    obtain ⟨x30,hx30,hz⟩:=bind_some hz
    rcases Qca (x29.2 != ((x30).length:Int)) with hb_54 | hb_54
    ·replace hz:=ite_T hz hb_54
     refine T.drawn mixed (k:=54) rfl (rq [0] 53 (r0 1 rfl (Zga (en:=encS) Ty.s22 rfl rfl (rq [2,3] 50 (ry 4 hb_53 rfl (ry 5 hb_53 rfl (ry 6 hb_53 rfl (ra1 7 (oP rfl hb_53 (Q6a (ac:=[iI s25,.ptr 0 0,.ptr 1 0]) (as0:=[iI s25,.ptr 0 0,.ptr 1 0]) (aw0:=[.box [iI p1],.box (Qpa p0)]) (aw1:=[.box [iI p1],.box (Qpa p0)]) (aw2:=[.box [iI p1],.box (Qpa p0),aR 9 1 encS x4.1,aR 9 1 encS x29.1]) (v:=.str x30) (v':=.str x30) (n0:=4) (n1:=2) [0,1] rfl rfl rfl rfl (by decide) (Jba (cs:=[iI p1]) (ds:=[iI p1]) rfl ⟨Qya rfl,trivial⟩ (Jba (cs:=(Qpa p0)) (ds:=(Qpa p0)) rfl ⟨rn_s rfl,rn_s rfl,trivial⟩ (Qna))) ⟨Qya rfl,Qla rfl,Qla rfl,trivial⟩ (Jla s25 p1 p0.Sectors p0.Wait x30 hx30) rfl (Qea (Jda _)) ⟨.inl ⟨0,_,by decide,rfl,Q7a (cs:=[iI p1]) (ds:=[iI p1]) ⟨Qea (Qwa _ _),trivial⟩⟩,.inl ⟨1,_,by decide,rfl,Q7a (cs:=(Qpa p0)) (ds:=(Qpa p0)) ⟨Qea (Qua encS_p _),Qea (Qua Zza _),trivial⟩⟩,.inr ⟨rfl,rfl⟩,.inr ⟨rfl,rfl⟩,trivial⟩ (ry 8 hb_53 rfl ?_)))))))))))
     refine ry 9 hb_53 rfl (r0 10 rfl (Qba (v:=.bool (x29.2 != ((x30).length:Int))) rfl hb_53 rfl (rq [11] 42 (r2 12 rfl hb_54 (r2 13 rfl hb_54 (r2 14 rfl hb_54 (r2 15 rfl hb_54 (r2 16 rfl hb_54 (r0 17 rfl (Qga (v:=.bool true) rfl hb_54 rfl (rq [18] 35 ?_)))))))))))
     refine r2 19 rfl rfl (r2 20 rfl rfl (r2 21 rfl rfl (r2 22 rfl rfl (r2 23 rfl rfl (r2 24 rfl rfl (r2 25 rfl rfl (r2 26 rfl rfl (r2 27 rfl rfl (r2 28 rfl rfl ?_)))))))))
     refine r2 29 rfl rfl (r2 30 rfl rfl (r2 31 rfl rfl (r2 32 rfl rfl (r2 33 rfl rfl (r0 34 rfl (Qga (v:=.bool true) rfl rfl rfl (rq [35] 18 (r2 36 rfl rfl (r2 37 rfl rfl (r2 38 rfl rfl ?_))))))))))
     refine r2 39 rfl rfl (r2 40 rfl rfl (r0 41 rfl (Qga (v:=.bool true) rfl rfl rfl (rq [42] 11 (r2 43 rfl rfl (r2 44 rfl rfl (r2 45 rfl rfl (r2 46 rfl rfl (r3 47 rfl (r3 48 rfl ?_))))))))))
     refine r3 49 rfl (r3 50 rfl (r3 51 rfl (r2 52 rfl rfl (r0 53 rfl (Qga (v:=.bool true) rfl rfl rfl (RA.done (by decide +kernel) ?_))))))
     exact T.sub (hK () trivial) ⟨rfl,rfl,rfl,rfl,rfl,rfl,(congrArg AV.bool ((congrArg (fun p=>p) (Option.some.inj hz)).symm)).symm,trivial⟩
    replace hz:=ite_F hz hb_54
    obtain ⟨x31,hx31,hz⟩:=bind_some hz
    obtain ⟨x32,hx32,hz⟩:=bind_some hz
    rcases Qca (decide (((x32).length:Int)<4)) with hb_55 | hb_55
    ·replace hz:=ite_T hz hb_55
     refine T.drawn mixed (k:=54) rfl (rq [0] 53 (r0 1 rfl (Zga (en:=encS) Ty.s22 rfl rfl (rq [2,3] 50 (ry 4 hb_53 rfl (ry 5 hb_53 rfl (ry 6 hb_53 rfl (ra1 7 (oP rfl hb_53 (Q6a (ac:=[iI s25,.ptr 0 0,.ptr 1 0]) (as0:=[iI s25,.ptr 0 0,.ptr 1 0]) (aw0:=[.box [iI p1],.box (Qpa p0)]) (aw1:=[.box [iI p1],.box (Qpa p0)]) (aw2:=[.box [iI p1],.box (Qpa p0),aR 9 1 encS x4.1,aR 9 1 encS x29.1]) (v:=.str x30) (v':=.str x30) (n0:=4) (n1:=2) [0,1] rfl rfl rfl rfl (by decide) (Jba (cs:=[iI p1]) (ds:=[iI p1]) rfl ⟨Qya rfl,trivial⟩ (Jba (cs:=(Qpa p0)) (ds:=(Qpa p0)) rfl ⟨rn_s rfl,rn_s rfl,trivial⟩ (Qna))) ⟨Qya rfl,Qla rfl,Qla rfl,trivial⟩ (Jla s25 p1 p0.Sectors p0.Wait x30 hx30) rfl (Qea (Jda _)) ⟨.inl ⟨0,_,by decide,rfl,Q7a (cs:=[iI p1]) (ds:=[iI p1]) ⟨Qea (Qwa _ _),trivial⟩⟩,.inl ⟨1,_,by decide,rfl,Q7a (cs:=(Qpa p0)) (ds:=(Qpa p0)) ⟨Qea (Qua encS_p _),Qea (Qua Zza _),trivial⟩⟩,.inr ⟨rfl,rfl⟩,.inr ⟨rfl,rfl⟩,trivial⟩ (ry 8 hb_53 rfl ?_)))))))))))
     refine ry 9 hb_53 rfl (r0 10 rfl (Qba (v:=.bool (x29.2 != ((x30).length:Int))) rfl hb_53 rfl (rq [11] 42 (ry 12 hb_54 rfl (r1 13 rfl hb_54 (Qha (en:=encS) Ty.s22 rfl rfl rfl hx31 (ra1 14 (oP rfl hb_54 (Qfa (en:=encS) (a:=x32) rfl rfl hx32 (Q0a Ty.k9 (c:=.str x32) rfl (ry 15 hb_54 rfl (ry 16 hb_54 rfl (r0 17 rfl (Qba (v:=.bool (decide (((x32).length:Int)<4))) rfl hb_54 rfl ?_))))))))))))))
     refine rq [18] 35 (r2 19 rfl hb_55 (r2 20 rfl hb_55 (r2 21 rfl hb_55 (r2 22 rfl hb_55 (r2 23 rfl hb_55 (r2 24 rfl hb_55 (r2 25 rfl hb_55 (r2 26 rfl hb_55 (r2 27 rfl hb_55 ?_)))))))))
     refine r2 28 rfl hb_55 (r2 29 rfl hb_55 (r2 30 rfl hb_55 (r2 31 rfl hb_55 (r2 32 rfl hb_55 (r2 33 rfl hb_55 (r0 34 rfl (Qga (v:=.bool true) rfl hb_55 rfl (rq [35] 18 (r2 36 rfl rfl (r2 37 rfl rfl ?_))))))))))
     refine r2 38 rfl rfl (r2 39 rfl rfl (r2 40 rfl rfl (r0 41 rfl (Qga (v:=.bool true) rfl rfl rfl (rq [42] 11 (r2 43 rfl rfl (r2 44 rfl rfl (r2 45 rfl rfl (r2 46 rfl rfl (r3 47 rfl ?_))))))))))
     refine r3 48 rfl (r3 49 rfl (r3 50 rfl (r3 51 rfl (r2 52 rfl rfl (r0 53 rfl (Qga (v:=.bool true) rfl rfl rfl (RA.done (by decide +kernel) ?_)))))))
     exact T.sub (hK () trivial) ⟨rfl,rfl,rfl,rfl,rfl,rfl,(congrArg AV.bool ((congrArg (fun p=>p) (Option.some.inj hz)).symm)).symm,trivial⟩
    replace hz:=ite_F hz hb_55
    obtain ⟨x33,hx33,hz⟩:=bind_some hz
    obtain ⟨x34,hx34,hz⟩:=bind_some hz
    obtain ⟨x35,hx35,hz⟩:=bind_some hz
    obtain ⟨x36,hx36,hz⟩:=bind_some hz
    obtain ⟨x37,hx37,hz⟩:=bind_some hz
    obtain ⟨x38,hx38,hz⟩:=bind_some hz
    rcases Qca (!(x35==(toStr [(x38.toNat:Int),IntKind.u8.wrap s25,IntKind.u8.wrap (IntKind.i64.wrap (x23.toNat:Int))]))) with hb_56 | hb_56
    ·replace hz:=ite_T hz hb_56
     refine T.drawn mixed (k:=54) rfl ?_
     apply RA.jn 0 #[true,true,true,true,true,true,true,true,true,true,true,true,true,true,true,true,true,true,true,true,true,true,true,true,true,true,true,true,true,true,true,true,true,true,true,true,true,true,true,true,true,true,true,true,true,true,true,true,true,true,true,true,true,true];intro hS62
     apply RA.jn 22 #[true,true,true,true,true,true,true,true,true,true,true,true,true,true,true,true,true,true,true,true,true,true,true,true,true,true,true,true,true,true,true,true,false,false,false,false,false,false,false,false,false,false,false,false,false,false,false,false,false,false,false,false,false,false];intro hS63
     apply RA.jn 23 #[true,true,true,true,true,true,true,true,true,true,true,true,true,true,true,true,true,true,true,true,true,true,true,true,true,true,true,true,true,true,true,false,false,false,false,false,false,false,false,false,false,false,false,false,false,false,false,false,false,false,false,false,false,false];intro hS64
     ·refine rq [0] 53 (r0 1 rfl (Zga (en:=encS) Ty.s22 rfl rfl (rq [2,3] 50 (ry 4 hb_53 rfl (ry 5 hb_53 rfl (ry 6 hb_53 rfl (ra1 7 (oP rfl hb_53 (Q6a (ac:=[iI s25,.ptr 0 0,.ptr 1 0]) (as0:=[iI s25,.ptr 0 0,.ptr 1 0]) (aw0:=[.box [iI p1],.box (Qpa p0)]) (aw1:=[.box [iI p1],.box (Qpa p0)]) (aw2:=[.box [iI p1],.box (Qpa p0),aR 9 1 encS x4.1,aR 9 1 encS x29.1]) (v:=.str x30) (v':=.str x30) (n0:=4) (n1:=2) [0,1] rfl rfl rfl rfl (by decide) (Jba (cs:=[iI p1]) (ds:=[iI p1]) rfl ⟨Qya rfl,trivial⟩ (Jba (cs:=(Qpa p0)) (ds:=(Qpa p0)) rfl ⟨rn_s rfl,rn_s rfl,trivial⟩ (Qna))) ⟨Qya rfl,Qla rfl,Qla rfl,trivial⟩ (Jla s25 p1 p0.Sectors p0.Wait x30 hx30) rfl (Qea (Jda _)) ⟨.inl ⟨0,_,by decide,rfl,Q7a (cs:=[iI p1]) (ds:=[iI p1]) ⟨Qea (Qwa _ _),trivial⟩⟩,.inl ⟨1,_,by decide,rfl,Q7a (cs:=(Qpa p0)) (ds:=(Qpa p0)) ⟨Qea (Qua encS_p _),Qea (Qua Zza _),trivial⟩⟩,.inr ⟨rfl,rfl⟩,.inr ⟨rfl,rfl⟩,trivial⟩ (ry 8 hb_53 rfl (ry 9 hb_53 rfl ?_)))))))))))
      refine r0 10 rfl (Qba (v:=.bool (x29.2 != ((x30).length:Int))) rfl hb_53 rfl (rq [11] 42 (ry 12 hb_54 rfl (r1 13 rfl hb_54 (Qha (en:=encS) Ty.s22 rfl rfl rfl hx31 (ra1 14 (oP rfl hb_54 (Qfa (en:=encS) (a:=x32) rfl rfl hx32 (Q0a Ty.k9 (c:=.str x32) rfl (ry 15 hb_54 rfl (ry 16 hb_54 rfl (r0 17 rfl (Qba (v:=.bool (decide (((x32).length:Int)<4))) rfl hb_54 rfl (rq [18] 35 ?_))))))))))))))
      refine ry 19 hb_55 rfl (r1 20 rfl hb_55 (Qha (en:=encS) Ty.s22 rfl rfl rfl hx33 (ry 23 hb_55 rfl (r1 24 rfl hb_55 (Qha (en:=encS) Ty.s22 rfl rfl rfl hx36 (ry 27 hb_55 rfl (ry 28 hb_55 rfl (ry 29 hb_55 rfl (ry 30 hb_55 rfl (ra2 21 25 ?_ ?_))))))))))
      ·refine oP rfl hb_55 (Qfa (en:=encS) (a:=x34) rfl rfl hx34 (Q0a Ty.k9 (c:=.str x34) rfl (r1 22 rfl hb_55 (J5a Tryz.underlying9 rfl rfl rfl hx35 (ra1 25 (oP rfl hb_55 (Qfa (en:=encS) (a:=x37) rfl rfl hx37 (Q0a Ty.k9 (c:=.str x37) rfl (r1 26 rfl hb_55 (Jaa Tryz.underlying9 rfl rfl hx38 ?_))))))))))
       exact raE hS64
      ·refine oP rfl hb_55 (Qfa (en:=encS) (a:=x37) rfl rfl hx37 (Q0a Ty.k9 (c:=.str x37) rfl (r1 26 rfl hb_55 (Jaa Tryz.underlying9 rfl rfl hx38 (ra2 21 31 ?_ ?_)))))
       ·refine oP rfl hb_55 (Qfa (en:=encS) (a:=x34) rfl rfl hx34 (Q0a Ty.k9 (c:=.str x34) rfl (r1 22 rfl hb_55 (J5a Tryz.underlying9 rfl rfl rfl hx35 ?_))))
        exact raT hS64
       ·refine oP rfl hb_55 (Qsa (rows:=List.map enc8 [(x38.toNat:Int),IntKind.u8.wrap s25,IntKind.u8.wrap (IntKind.i64.wrap (x23.toNat:Int))]) (vs:=[.int .u8 (x38.toNat:Int),.int .u8 (IntKind.u8.wrap s25),.int .u8 (IntKind.u8.wrap (IntKind.i64.wrap (x23.toNat:Int)))]) Ty.s35 Ty.z5 rfl rfl rfl rfl rfl rfl (ra2 21 32 ?_ ?_))
        ·refine oP rfl hb_55 (Qfa (en:=encS) (a:=x34) rfl rfl hx34 (Q0a Ty.k9 (c:=.str x34) rfl (r1 22 rfl hb_55 (J5a Tryz.underlying9 rfl rfl rfl hx35 ?_))))
         exact raE hS63
        ·refine oP rfl hb_55 (Zpa (xs:=[(x38.toNat:Int),IntKind.u8.wrap s25,IntKind.u8.wrap (IntKind.i64.wrap (x23.toNat:Int))]) Tryz.underlying35 Tryz.underlying5 Tryz.underlying9 rfl rfl (ra1 21 (oP rfl hb_55 (Qfa (en:=encS) (a:=x34) rfl rfl hx34 (Q0a Ty.k9 (c:=.str x34) rfl (r1 22 rfl hb_55 (J5a Tryz.underlying9 rfl rfl rfl hx35 (ry 33 hb_55 rfl (r0 34 rfl (Qba (v:=.bool (!(x35==(toStr [(x38.toNat:Int),IntKind.u8.wrap s25,IntKind.u8.wrap (IntKind.i64.wrap (x23.toNat:Int))])))) rfl hb_55 rfl (rq [35] 18 (r2 36 rfl hb_56 (r2 37 rfl hb_56 (r2 38 rfl hb_56 ?_))))))))))))))
         refine r2 39 rfl hb_56 (r2 40 rfl hb_56 (r0 41 rfl (Qga (v:=.bool true) rfl hb_56 rfl (rq [42] 11 (r2 43 rfl rfl (r2 44 rfl rfl (r2 45 rfl rfl (r2 46 rfl rfl (r3 47 rfl (r3 48 rfl ?_))))))))))
         refine r3 49 rfl (r3 50 rfl (r3 51 rfl (r2 52 rfl rfl (r0 53 rfl (Qga (v:=.bool true) rfl rfl rfl ?_)))))
         exact raE hS62
     ·refine ra1 31 (oP rfl hb_55 (Qsa (rows:=List.map enc8 [(x38.toNat:Int),IntKind.u8.wrap s25,IntKind.u8.wrap (IntKind.i64.wrap (x23.toNat:Int))]) (vs:=[.int .u8 (x38.toNat:Int),.int .u8 (IntKind.u8.wrap s25),.int .u8 (IntKind.u8.wrap (IntKind.i64.wrap (x23.toNat:Int)))]) Ty.s35 Ty.z5 rfl rfl rfl rfl rfl rfl ?_))
      exact raT hS63
     ·refine ra1 32 (oP rfl hb_55 (Zpa (xs:=[(x38.toNat:Int),IntKind.u8.wrap s25,IntKind.u8.wrap (IntKind.i64.wrap (x23.toNat:Int))]) Tryz.underlying35 Tryz.underlying5 Tryz.underlying9 rfl rfl (ry 33 hb_55 rfl (r0 34 rfl (Qba (v:=.bool (!(x35==(toStr [(x38.toNat:Int),IntKind.u8.wrap s25,IntKind.u8.wrap (IntKind.i64.wrap (x23.toNat:Int))])))) rfl hb_55 rfl (rq [35] 18 (r2 36 rfl hb_56 (r2 37 rfl hb_56 (r2 38 rfl hb_56 (r2 39 rfl hb_56 (r2 40 rfl hb_56 ?_)))))))))))
      refine r0 41 rfl (Qga (v:=.bool true) rfl hb_56 rfl (rq [42] 11 (r2 43 rfl rfl (r2 44 rfl rfl (r2 45 rfl rfl (r2 46 rfl rfl (r3 47 rfl (r3 48 rfl (r3 49 rfl (r3 50 rfl ?_))))))))))
      refine r3 51 rfl (r2 52 rfl rfl (r0 53 rfl (Qga (v:=.bool true) rfl rfl rfl ?_)))
      exact raT hS62
     refine RA.done (by decide +kernel) ?_
     exact T.weakR (hK () trivial) (Weak.mkN [] [0,1,2,3] (by decide) (Qra _) rfl ⟨J8a rfl,V3a ⟨Qla rfl,Qla rfl,trivial⟩,Q9a rfl,Qya rfl,Qya rfl,Q9a rfl,Jha ((congrArg (fun p=>p) (Option.some.inj hz)).symm),trivial⟩ (rw_bs [iI p1] rfl (rw_bs (Qpa p0) rfl (rw_ar rfl rfl (rw_ar rfl rfl (Qna))))))
    replace hz:=ite_F hz hb_56
    obtain ⟨x39,hx39,hz⟩:=bind_some hz
    obtain ⟨x40,hx40,hz⟩:=bind_some hz
    rcases Qca (decide (((x40).length:Int) > 53)) with hb_57 | hb_57
    ·replace hz:=ite_T hz hb_57
     refine T.drawn mixed (k:=54) rfl ?_
     apply RA.jn 16 #[true,true,true,true,true,true,true,true,true,true,true,true,true,true,true,true,true,true,true,true,true,true,true,true,true,true,true,true,true,true,true,true,true,true,true,true,true,true,false,false,false,false,false,false,false,false,false,false,false,false,false,false,false,false];intro hS65
     apply RA.jn 22 #[true,true,true,true,true,true,true,true,true,true,true,true,true,true,true,true,true,true,true,true,true,true,true,true,true,true,true,true,true,true,true,true,false,false,false,false,false,false,false,false,false,false,false,false,false,false,false,false,false,false,false,false,false,false];intro hS66
     apply RA.jn 23 #[true,true,true,true,true,true,true,true,true,true,true,true,true,true,true,true,true,true,true,true,true,true,true,true,true,true,true,true,true,true,true,false,false,false,false,false,false,false,false,false,false,false,false,false,false,false,false,false,false,false,false,false,false,false];intro hS67
     ·refine rq [0] 53 (r0 1 rfl (Zga (en:=encS) Ty.s22 rfl rfl (rq [2,3] 50 (ry 4 hb_53 rfl (ry 5 hb_53 rfl (ry 6 hb_53 rfl (ra1 7 (oP rfl hb_53 (Q6a (ac:=[iI s25,.ptr 0 0,.ptr 1 0]) (as0:=[iI s25,.ptr 0 0,.ptr 1 0]) (aw0:=[.box [iI p1],.box (Qpa p0)]) (aw1:=[.box [iI p1],.box (Qpa p0)]) (aw2:=[.box [iI p1],.box (Qpa p0),aR 9 1 encS x4.1,aR 9 1 encS x29.1]) (v:=.str x30) (v':=.str x30) (n0:=4) (n1:=2) [0,1] rfl rfl rfl rfl (by decide) (Jba (cs:=[iI p1]) (ds:=[iI p1]) rfl ⟨Qya rfl,trivial⟩ (Jba (cs:=(Qpa p0)) (ds:=(Qpa p0)) rfl ⟨rn_s rfl,rn_s rfl,trivial⟩ (Qna))) ⟨Qya rfl,Qla rfl,Qla rfl,trivial⟩ (Jla s25 p1 p0.Sectors p0.Wait x30 hx30) rfl (Qea (Jda _)) ⟨.inl ⟨0,_,by decide,rfl,Q7a (cs:=[iI p1]) (ds:=[iI p1]) ⟨Qea (Qwa _ _),trivial⟩⟩,.inl ⟨1,_,by decide,rfl,Q7a (cs:=(Qpa p0)) (ds:=(Qpa p0)) ⟨Qea (Qua encS_p _),Qea (Qua Zza _),trivial⟩⟩,.inr ⟨rfl,rfl⟩,.inr ⟨rfl,rfl⟩,trivial⟩ (ry 8 hb_53 rfl (ry 9 hb_53 rfl ?_)))))))))))
      refine r0 10 rfl (Qba (v:=.bool (x29.2 != ((x30).length:Int))) rfl hb_53 rfl (rq [11] 42 (ry 12 hb_54 rfl (r1 13 rfl hb_54 (Qha (en:=encS) Ty.s22 rfl rfl rfl hx31 (ra1 14 (oP rfl hb_54 (Qfa (en:=encS) (a:=x32) rfl rfl hx32 (Q0a Ty.k9 (c:=.str x32) rfl (ry 15 hb_54 rfl (ry 16 hb_54 rfl (r0 17 rfl (Qba (v:=.bool (decide (((x32).length:Int)<4))) rfl hb_54 rfl (rq [18] 35 ?_))))))))))))))
      refine ry 19 hb_55 rfl (r1 20 rfl hb_55 (Qha (en:=encS) Ty.s22 rfl rfl rfl hx33 (ry 23 hb_55 rfl (r1 24 rfl hb_55 (Qha (en:=encS) Ty.s22 rfl rfl rfl hx36 (ry 27 hb_55 rfl (ry 28 hb_55 rfl (ry 29 hb_55 rfl (ry 30 hb_55 rfl (ra2 21 25 ?_ ?_))))))))))
      ·refine oP rfl hb_55 (Qfa (en:=encS) (a:=x34) rfl rfl hx34 (Q0a Ty.k9 (c:=.str x34) rfl (r1 22 rfl hb_55 (J5a Tryz.underlying9 rfl rfl rfl hx35 (ra1 25 (oP rfl hb_55 (Qfa (en:=encS) (a:=x37) rfl rfl hx37 (Q0a Ty.k9 (c:=.str x37) rfl (r1 26 rfl hb_55 (Jaa Tryz.underlying9 rfl rfl hx38 ?_))))))))))
       exact raE hS67
      ·refine oP rfl hb_55 (Qfa (en:=encS) (a:=x37) rfl rfl hx37 (Q0a Ty.k9 (c:=.str x37) rfl (r1 26 rfl hb_55 (Jaa Tryz.underlying9 rfl rfl hx38 (ra2 21 31 ?_ ?_)))))
       ·refine oP rfl hb_55 (Qfa (en:=encS) (a:=x34) rfl rfl hx34 (Q0a Ty.k9 (c:=.str x34) rfl (r1 22 rfl hb_55 (J5a Tryz.underlying9 rfl rfl rfl hx35 ?_))))
        exact raT hS67
       ·refine oP rfl hb_55 (Qsa (rows:=List.map enc8 [(x38.toNat:Int),IntKind.u8.wrap s25,IntKind.u8.wrap (IntKind.i64.wrap (x23.toNat:Int))]) (vs:=[.int .u8 (x38.toNat:Int),.int .u8 (IntKind.u8.wrap s25),.int .u8 (IntKind.u8.wrap (IntKind.i64.wrap (x23.toNat:Int)))]) Ty.s35 Ty.z5 rfl rfl rfl rfl rfl rfl (ra2 21 32 ?_ ?_))
        ·refine oP rfl hb_55 (Qfa (en:=encS) (a:=x34) rfl rfl hx34 (Q0a Ty.k9 (c:=.str x34) rfl (r1 22 rfl hb_55 (J5a Tryz.underlying9 rfl rfl rfl hx35 ?_))))
         exact raE hS66
        ·refine oP rfl hb_55 (Zpa (xs:=[(x38.toNat:Int),IntKind.u8.wrap s25,IntKind.u8.wrap (IntKind.i64.wrap (x23.toNat:Int))]) Tryz.underlying35 Tryz.underlying5 Tryz.underlying9 rfl rfl (ra1 21 (oP rfl hb_55 (Qfa (en:=encS) (a:=x34) rfl rfl hx34 (Q0a Ty.k9 (c:=.str x34) rfl (r1 22 rfl hb_55 (J5a Tryz.underlying9 rfl rfl rfl hx35 (ry 33 hb_55 rfl (r0 34 rfl (Qba (v:=.bool (!(x35==(toStr [(x38.toNat:Int),IntKind.u8.wrap s25,IntKind.u8.wrap (IntKind.i64.wrap (x23.toNat:Int))])))) rfl hb_55 rfl (rq [35] 18 (ry 36 hb_56 rfl (r1 37 rfl hb_56 (Qha (en:=encS) Ty.s22 rfl rfl rfl hx39 ?_))))))))))))))
         exact raE hS65
     ·refine ra1 31 (oP rfl hb_55 (Qsa (rows:=List.map enc8 [(x38.toNat:Int),IntKind.u8.wrap s25,IntKind.u8.wrap (IntKind.i64.wrap (x23.toNat:Int))]) (vs:=[.int .u8 (x38.toNat:Int),.int .u8 (IntKind.u8.wrap s25),.int .u8 (IntKind.u8.wrap (IntKind.i64.wrap (x23.toNat:Int)))]) Ty.s35 Ty.z5 rfl rfl rfl rfl rfl rfl ?_))
      exact raT hS66
     ·refine ra1 32 (oP rfl hb_55 (Zpa (xs:=[(x38.toNat:Int),IntKind.u8.wrap s25,IntKind.u8.wrap (IntKind.i64.wrap (x23.toNat:Int))]) Tryz.underlying35 Tryz.underlying5 Tryz.underlying9 rfl rfl (ry 33 hb_55 rfl (r0 34 rfl (Qba (v:=.bool (!(x35==(toStr [(x38.toNat:Int),IntKind.u8.wrap s25,IntKind.u8.wrap (IntKind.i64.wrap (x23.toNat:Int))])))) rfl hb_55 rfl (rq [35] 18 (ry 36 hb_56 rfl (r1 37 rfl hb_56 (Qha (en:=encS) Ty.s22 rfl rfl rfl hx39 ?_)))))))))
      exact raT hS65
     refine ra1 38 (oP rfl hb_56 (Qfa (en:=encS) (a:=x40) rfl rfl hx40 (Q0a Ty.k9 (c:=.str x40) rfl (ry 39 hb_56 rfl (ry 40 hb_56 rfl (r0 41 rfl (Qba (v:=.bool (decide (((x40).length:Int) > 53))) rfl hb_56 rfl (rq [42] 11 (r2 43 rfl hb_57 (r2 44 rfl hb_57 (r2 45 rfl hb_57 (r2 46 rfl hb_57 ?_))))))))))))
     refine r3 47 rfl (r3 48 rfl (r3 49 rfl (r3 50 rfl (r3 51 rfl (r2 52 rfl hb_57 (r0 53 rfl (Qga (v:=.bool true) rfl hb_57 rfl (RA.done (by decide +kernel) ?_))))))))
     exact T.weakR (hK () trivial) (Weak.mkN [] [0,1,2,3] (by decide) (Qra _) rfl ⟨J8a rfl,V3a ⟨Qla rfl,Qla rfl,trivial⟩,Q9a rfl,Qya rfl,Qya rfl,Q9a rfl,Jha ((congrArg (fun p=>p) (Option.some.inj hz)).symm),trivial⟩ (rw_bs [iI p1] rfl (rw_bs (Qpa p0) rfl (rw_ar rfl rfl (rw_ar rfl rfl (Qna))))))
    replace hz:=ite_F hz hb_57
    rcases Qca (decide (s25<(IntKind.i64.wrap (x23.toNat:Int)))) with hb_58 | hb_58
    ·replace hz:=ite_T hz hb_58
     obtain ⟨x41,hx41,hz⟩:=bind_some hz
     obtain ⟨x42,hx42,hz⟩:=bind_some hz
     refine T.drawn mixed (k:=54) rfl ?_
     apply RA.jn 16 #[true,true,true,true,true,true,true,true,true,true,true,true,true,true,true,true,true,true,true,true,true,true,true,true,true,true,true,true,true,true,true,true,true,true,true,true,true,true,false,false,false,false,false,false,false,false,false,false,false,false,false,false,false,false];intro hS68
     apply RA.jn 22 #[true,true,true,true,true,true,true,true,true,true,true,true,true,true,true,true,true,true,true,true,true,true,true,true,true,true,true,true,true,true,true,true,false,false,false,false,false,false,false,false,false,false,false,false,false,false,false,false,false,false,false,false,false,false];intro hS69
     apply RA.jn 23 #[true,true,true,true,true,true,true,true,true,true,true,true,true,true,true,true,true,true,true,true,true,true,true,true,true,true,true,true,true,true,true,false,false,false,false,false,false,false,false,false,false,false,false,false,false,false,false,false,false,false,false,false,false,false];intro hS70
     ·refine rq [0] 53 (r0 1 rfl (Zga (en:=encS) Ty.s22 rfl rfl (rq [2,3] 50 (ry 4 hb_53 rfl (ry 5 hb_53 rfl (ry 6 hb_53 rfl (ra1 7 (oP rfl hb_53 (Q6a (ac:=[iI s25,.ptr 0 0,.ptr 1 0]) (as0:=[iI s25,.ptr 0 0,.ptr 1 0]) (aw0:=[.box [iI p1],.box (Qpa p0)]) (aw1:=[.box [iI p1],.box (Qpa p0)]) (aw2:=[.box [iI p1],.box (Qpa p0),aR 9 1 encS x4.1,aR 9 1 encS x29.1]) (v:=.str x30) (v':=.str x30) (n0:=4) (n1:=2) [0,1] rfl rfl rfl rfl (by decide) (Jba (cs:=[iI p1]) (ds:=[iI p1]) rfl ⟨Qya rfl,trivial⟩ (Jba (cs:=(Qpa p0)) (ds:=(Qpa p0)) rfl ⟨rn_s rfl,rn_s rfl,trivial⟩ (Qna))) ⟨Qya rfl,Qla rfl,Qla rfl,trivial⟩ (Jla s25 p1 p0.Sectors p0.Wait x30 hx30) rfl (Qea (Jda _)) ⟨.inl ⟨0,_,by decide,rfl,Q7a (cs:=[iI p1]) (ds:=[iI p1]) ⟨Qea (Qwa _ _),trivial⟩⟩,.inl ⟨1,_,by decide,rfl,Q7a (cs:=(Qpa p0)) (ds:=(Qpa p0)) ⟨Qea (Qua encS_p _),Qea (Qua Zza _),trivial⟩⟩,.inr ⟨rfl,rfl⟩,.inr ⟨rfl,rfl⟩,trivial⟩ (ry 8 hb_53 rfl (ry 9 hb_53 rfl ?_)))))))))))
      refine r0 10 rfl (Qba (v:=.bool (x29.2 != ((x30).length:Int))) rfl hb_53 rfl (rq [11] 42 (ry 12 hb_54 rfl (r1 13 rfl hb_54 (Qha (en:=encS) Ty.s22 rfl rfl rfl hx31 (ra1 14 (oP rfl hb_54 (Qfa (en:=encS) (a:=x32) rfl rfl hx32 (Q0a Ty.k9 (c:=.str x32) rfl (ry 15 hb_54 rfl (ry 16 hb_54 rfl (r0 17 rfl (Qba (v:=.bool (decide (((x32).length:Int)<4))) rfl hb_54 rfl (rq [18] 35 ?_))))))))))))))
      refine ry 19 hb_55 rfl (r1 20 rfl hb_55 (Qha (en:=encS) Ty.s22 rfl rfl rfl hx33 (ry 23 hb_55 rfl (r1 24 rfl hb_55 (Qha (en:=encS) Ty.s22 rfl rfl rfl hx36 (ry 27 hb_55 rfl (ry 28 hb_55 rfl (ry 29 hb_55 rfl (ry 30 hb_55 rfl (ra2 21 25 ?_ ?_))))))))))
      ·refine oP rfl hb_55 (Qfa (en:=encS) (a:=x34) rfl rfl hx34 (Q0a Ty.k9 (c:=.str x34) rfl (r1 22 rfl hb_55 (J5a Tryz.underlying9 rfl rfl rfl hx35 (ra1 25 (oP rfl hb_55 (Qfa (en:=encS) (a:=x37) rfl rfl hx37 (Q0a Ty.k9 (c:=.str x37) rfl (r1 26 rfl hb_55 (Jaa Tryz.underlying9 rfl rfl hx38 ?_))))))))))
       exact raE hS70
      ·refine oP rfl hb_55 (Qfa (en:=encS) (a:=x37) rfl rfl hx37 (Q0a Ty.k9 (c:=.str x37) rfl (r1 26 rfl hb_55 (Jaa Tryz.underlying9 rfl rfl hx38 (ra2 21 31 ?_ ?_)))))
       ·refine oP rfl hb_55 (Qfa (en:=encS) (a:=x34) rfl rfl hx34 (Q0a Ty.k9 (c:=.str x34) rfl (r1 22 rfl hb_55 (J5a Tryz.underlying9 rfl rfl rfl hx35 ?_))))
        exact raT hS70
       ·refine oP rfl hb_55 (Qsa (rows:=List.map enc8 [(x38.toNat:Int),IntKind.u8.wrap s25,IntKind.u8.wrap (IntKind.i64.wrap (x23.toNat:Int))]) (vs:=[.int .u8 (x38.toNat:Int),.int .u8 (IntKind.u8.wrap s25),.int .u8 (IntKind.u8.wrap (IntKind.i64.wrap (x23.toNat:Int)))]) Ty.s35 Ty.z5 rfl rfl rfl rfl rfl rfl (ra2 21 32 ?_ ?_))
        ·refine oP rfl hb_55 (Qfa (en:=encS) (a:=x34) rfl rfl hx34 (Q0a Ty.k9 (c:=.str x34) rfl (r1 22 rfl hb_55 (J5a Tryz.underlying9 rfl rfl rfl hx35 ?_))))
         exact raE hS69
        ·refine oP rfl hb_55 (Zpa (xs:=[(x38.toNat:Int),IntKind.u8.wrap s25,IntKind.u8.wrap (IntKind.i64.wrap (x23.toNat:Int))]) Tryz.underlying35 Tryz.underlying5 Tryz.underlying9 rfl rfl (ra1 21 (oP rfl hb_55 (Qfa (en:=encS) (a:=x34) rfl rfl hx34 (Q0a Ty.k9 (c:=.str x34) rfl (r1 22 rfl hb_55 (J5a Tryz.underlying9 rfl rfl rfl hx35 (ry 33 hb_55 rfl (r0 34 rfl (Qba (v:=.bool (!(x35==(toStr [(x38.toNat:Int),IntKind.u8.wrap s25,IntKind.u8.wrap (IntKind.i64.wrap (x23.toNat:Int))])))) rfl hb_55 rfl (rq [35] 18 (ry 36 hb_56 rfl (r1 37 rfl hb_56 (Qha (en:=encS) Ty.s22 rfl rfl rfl hx39 ?_))))))))))))))
         exact raE hS68
     ·refine ra1 31 (oP rfl hb_55 (Qsa (rows:=List.map enc8 [(x38.toNat:Int),IntKind.u8.wrap s25,IntKind.u8.wrap (IntKind.i64.wrap (x23.toNat:Int))]) (vs:=[.int .u8 (x38.toNat:Int),.int .u8 (IntKind.u8.wrap s25),.int .u8 (IntKind.u8.wrap (IntKind.i64.wrap (x23.toNat:Int)))]) Ty.s35 Ty.z5 rfl rfl rfl rfl rfl rfl ?_))
      exact raT hS69
     ·refine ra1 32 (oP rfl hb_55 (Zpa (xs:=[(x38.toNat:Int),IntKind.u8.wrap s25,IntKind.u8.wrap (IntKind.i64.wrap (x23.toNat:Int))]) Tryz.underlying35 Tryz.underlying5 Tryz.underlying9 rfl rfl (ry 33 hb_55 rfl (r0 34 rfl (Qba (v:=.bool (!(x35==(toStr [(x38.toNat:Int),IntKind.u8.wrap s25,IntKind.u8.wrap (IntKind.i64.wrap (x23.toNat:Int))])))) rfl hb_55 rfl (rq [35] 18 (ry 36 hb_56 rfl (r1 37 rfl hb_56 (Qha (en:=encS) Ty.s22 rfl rfl rfl hx39 ?_)))))))))
      exact raT hS68
     refine ra1 38 (oP rfl hb_56 (Qfa (en:=encS) (a:=x40) rfl rfl hx40 (Q0a Ty.k9 (c:=.str x40) rfl (ry 39 hb_56 rfl (ry 40 hb_56 rfl (r0 41 rfl (Qba (v:=.bool (decide (((x40).length:Int) > 53))) rfl hb_56 rfl (rq [42] 11 (ry 43 hb_57 rfl (ry 44 hb_57 rfl (ry 45 hb_57 rfl (ry 46 hb_57 rfl ?_))))))))))))
     refine ry 47 hb_58 rfl (r1 48 rfl hb_58 (Qha (en:=encS) Ty.s22 rfl rfl rfl hx41 (ra1 49 (oP rfl hb_58 (Qfa (en:=encS) (a:=x42) rfl rfl hx42 (Q0a Ty.k9 (c:=.str x42) rfl (ry 50 hb_58 rfl (ry 51 hb_58 rfl (r1 52 rfl hb_57 (Qga (v:=.bool (decide (((x42).length:Int)<53))) rfl hb_58 rfl (r0 53 rfl (Qba (v:=.bool (decide (((x42).length:Int)<53))) rfl hb_57 rfl (RA.done (by decide +kernel) ?_)))))))))))))
     exact T.weakR (hK () trivial) (Weak.mkN [] [0,1,2,3] (by decide) (Qra _) rfl ⟨J8a rfl,V3a ⟨Qla rfl,Qla rfl,trivial⟩,Q9a rfl,Qya rfl,Qya rfl,Q9a rfl,Jha ((congrArg (fun p=>p) (Option.some.inj hz)).symm),trivial⟩ (rw_bs [iI p1] rfl (rw_bs (Qpa p0) rfl (rw_ar rfl rfl (rw_ar rfl rfl (Qna))))))
    replace hz:=ite_F hz hb_58
    refine T.drawn mixed (k:=54) rfl ?_
    apply RA.jn 16 #[true,true,true,true,true,true,true,true,true,true,true,true,true,true,true,true,true,true,true,true,true,true,true,true,true,true,true,true,true,true,true,true,true,true,true,true,true,true,false,false,false,false,false,false,false,false,false,false,false,false,false,false,false,false];intro hS71
    apply RA.jn 22 #[true,true,true,true,true,true,true,true,true,true,true,true,true,true,true,true,true,true,true,true,true,true,true,true,true,true,true,true,true,true,true,true,false,false,false,false,false,false,false,false,false,false,false,false,false,false,false,false,false,false,false,false,false,false];intro hS72
    apply RA.jn 23 #[true,true,true,true,true,true,true,true,true,true,true,true,true,true,true,true,true,true,true,true,true,true,true,true,true,true,true,true,true,true,true,false,false,false,false,false,false,false,false,false,false,false,false,false,false,false,false,false,false,false,false,false,false,false];intro hS73
    ·refine rq [0] 53 (r0 1 rfl (Zga (en:=encS) Ty.s22 rfl rfl (rq [2,3] 50 (ry 4 hb_53 rfl (ry 5 hb_53 rfl (ry 6 hb_53 rfl (ra1 7 (oP rfl hb_53 (Q6a (ac:=[iI s25,.ptr 0 0,.ptr 1 0]) (as0:=[iI s25,.ptr 0 0,.ptr 1 0]) (aw0:=[.box [iI p1],.box (Qpa p0)]) (aw1:=[.box [iI p1],.box (Qpa p0)]) (aw2:=[.box [iI p1],.box (Qpa p0),aR 9 1 encS x4.1,aR 9 1 encS x29.1]) (v:=.str x30) (v':=.str x30) (n0:=4) (n1:=2) [0,1] rfl rfl rfl rfl (by decide) (Jba (cs:=[iI p1]) (ds:=[iI p1]) rfl ⟨Qya rfl,trivial⟩ (Jba (cs:=(Qpa p0)) (ds:=(Qpa p0)) rfl ⟨rn_s rfl,rn_s rfl,trivial⟩ (Qna))) ⟨Qya rfl,Qla rfl,Qla rfl,trivial⟩ (Jla s25 p1 p0.Sectors p0.Wait x30 hx30) rfl (Qea (Jda _)) ⟨.inl ⟨0,_,by decide,rfl,Q7a (cs:=[iI p1]) (ds:=[iI p1]) ⟨Qea (Qwa _ _),trivial⟩⟩,.inl ⟨1,_,by decide,rfl,Q7a (cs:=(Qpa p0)) (ds:=(Qpa p0)) ⟨Qea (Qua encS_p _),Qea (Qua Zza _),trivial⟩⟩,.inr ⟨rfl,rfl⟩,.inr ⟨rfl,rfl⟩,trivial⟩ (ry 8 hb_53 rfl (ry 9 hb_53 rfl ?_)))))))))))
     refine r0 10 rfl (Qba (v:=.bool (x29.2 != ((x30).length:Int))) rfl hb_53 rfl (rq [11] 42 (ry 12 hb_54 rfl (r1 13 rfl hb_54 (Qha (en:=encS) Ty.s22 rfl rfl rfl hx31 (ra1 14 (oP rfl hb_54 (Qfa (en:=encS) (a:=x32) rfl rfl hx32 (Q0a Ty.k9 (c:=.str x32) rfl (ry 15 hb_54 rfl (ry 16 hb_54 rfl (r0 17 rfl (Qba (v:=.bool (decide (((x32).length:Int)<4))) rfl hb_54 rfl (rq [18] 35 ?_))))))))))))))
     refine ry 19 hb_55 rfl (r1 20 rfl hb_55 (Qha (en:=encS) Ty.s22 rfl rfl rfl hx33 (ry 23 hb_55 rfl (r1 24 rfl hb_55 (Qha (en:=encS) Ty.s22 rfl rfl rfl hx36 (ry 27 hb_55 rfl (ry 28 hb_55 rfl (ry 29 hb_55 rfl (ry 30 hb_55 rfl (ra2 21 25 ?_ ?_))))))))))
     ·refine oP rfl hb_55 (Qfa (en:=encS) (a:=x34) rfl rfl hx34 (Q0a Ty.k9 (c:=.str x34) rfl (r1 22 rfl hb_55 (J5a Tryz.underlying9 rfl rfl rfl hx35 (ra1 25 (oP rfl hb_55 (Qfa (en:=encS) (a:=x37) rfl rfl hx37 (Q0a Ty.k9 (c:=.str x37) rfl (r1 26 rfl hb_55 (Jaa Tryz.underlying9 rfl rfl hx38 ?_))))))))))
      exact raE hS73
     ·refine oP rfl hb_55 (Qfa (en:=encS) (a:=x37) rfl rfl hx37 (Q0a Ty.k9 (c:=.str x37) rfl (r1 26 rfl hb_55 (Jaa Tryz.underlying9 rfl rfl hx38 (ra2 21 31 ?_ ?_)))))
      ·refine oP rfl hb_55 (Qfa (en:=encS) (a:=x34) rfl rfl hx34 (Q0a Ty.k9 (c:=.str x34) rfl (r1 22 rfl hb_55 (J5a Tryz.underlying9 rfl rfl rfl hx35 ?_))))
       exact raT hS73
      ·refine oP rfl hb_55 (Qsa (rows:=List.map enc8 [(x38.toNat:Int),IntKind.u8.wrap s25,IntKind.u8.wrap (IntKind.i64.wrap (x23.toNat:Int))]) (vs:=[.int .u8 (x38.toNat:Int),.int .u8 (IntKind.u8.wrap s25),.int .u8 (IntKind.u8.wrap (IntKind.i64.wrap (x23.toNat:Int)))]) Ty.s35 Ty.z5 rfl rfl rfl rfl rfl rfl (ra2 21 32 ?_ ?_))
       ·refine oP rfl hb_55 (Qfa (en:=encS) (a:=x34) rfl rfl hx34 (Q0a Ty.k9 (c:=.str x34) rfl (r1 22 rfl hb_55 (J5a Tryz.underlying9 rfl rfl rfl hx35 ?_))))
        exact raE hS72
       ·refine oP rfl hb_55 (Zpa (xs:=[(x38.toNat:Int),IntKind.u8.wrap s25,IntKind.u8.wrap (IntKind.i64.wrap (x23.toNat:Int))]) Tryz.underlying35 Tryz.underlying5 Tryz.underlying9 rfl rfl (ra1 21 (oP rfl hb_55 (Qfa (en:=encS) (a:=x34) rfl rfl hx34 (Q0a Ty.k9 (c:=.str x34) rfl (r1 22 rfl hb_55 (J5a Tryz.underlying9 rfl rfl rfl hx35 (ry 33 hb_55 rfl (r0 34 rfl (Qba (v:=.bool (!(x35==(toStr [(x38.toNat:Int),IntKind.u8.wrap s25,IntKind.u8.wrap (IntKind.i64.wrap (x23.toNat:Int))])))) rfl hb_55 rfl (rq [35] 18 (ry 36 hb_56 rfl (r1 37 rfl hb_56 (Qha (en:=encS) Ty.s22 rfl rfl rfl hx39 ?_))))))))))))))
        exact raE hS71
    ·refine ra1 31 (oP rfl hb_55 (Qsa (rows:=List.map enc8 [(x38.toNat:Int),IntKind.u8.wrap s25,IntKind.u8.wrap (IntKind.i64.wrap (x23.toNat:Int))]) (vs:=[.int .u8 (x38.toNat:Int),.int .u8 (IntKind.u8.wrap s25),.int .u8 (IntKind.u8.wrap (IntKind.i64.wrap (x23.toNat:Int)))]) Ty.s35 Ty.z5 rfl rfl rfl rfl rfl rfl ?_))
     exact raT hS72
    ·refine ra1 32 (oP rfl hb_55 (Zpa (xs:=[(x38.toNat:Int),IntKind.u8.wrap s25,IntKind.u8.wrap (IntKind.i64.wrap (x23.toNat:Int))]) Tryz.underlying35 Tryz.underlying5 Tryz.underlying9 rfl rfl (ry 33 hb_55 rfl (r0 34 rfl (Qba (v:=.bool (!(x35==(toStr [(x38.toNat:Int),IntKind.u8.wrap s25,IntKind.u8.wrap (IntKind.i64.wrap (x23.toNat:Int))])))) rfl hb_55 rfl (rq [35] 18 (ry 36 hb_56 rfl (r1 37 rfl hb_56 (Qha (en:=encS) Ty.s22 rfl rfl rfl hx39 ?_)))))))))
     exact raT hS71
    refine ra1 38 (oP rfl hb_56 (Qfa (en:=encS) (a:=x40) rfl rfl hx40 (Q0a Ty.k9 (c:=.str x40) rfl (ry 39 hb_56 rfl (ry 40 hb_56 rfl (r0 41 rfl (Qba (v:=.bool (decide (((x40).length:Int) > 53))) rfl hb_56 rfl (rq [42] 11 (ry 43 hb_57 rfl (ry 44 hb_57 rfl (ry 45 hb_57 rfl (ry 46 hb_57 rfl ?_))))))))))))
    refine r2 47 rfl hb_58 (r2 48 rfl hb_58 (r2 49 rfl hb_58 (r2 50 rfl hb_58 (r2 51 rfl hb_58 (r1 52 rfl hb_57 (Qba (v:=.bool false) rfl hb_58 rfl (r0 53 rfl (Qba (v:=.bool false) rfl hb_57 rfl (RA.done (by decide +kernel) ?_)))))))))
    exact T.weakR (hK () trivial) (Weak.mkN [] [0,1,2,3] (by decide) (Qra _) rfl ⟨J8a rfl,V3a ⟨Qla rfl,Qla rfl,trivial⟩,Q9a rfl,Qya rfl,Qya rfl,Q9a rfl,Jha ((congrArg (fun p=>p) (Option.some.inj hz)).symm),trivial⟩ (rw_bs [iI p1] rfl (rw_bs (Qpa p0) rfl (rw_ar rfl rfl (rw_ar rfl rfl (Qna))))))
   refine T.exit ?_
   obtain ⟨w_74,h,hw_74⟩:=Qva h
   replace h:=h.trans (congrArg some (hv_51 _ hw_74))
   refine T.seq ?_
   obtain ⟨x51,hx51,h⟩:=bind_some h
   obtain ⟨x52,hx52,h⟩:=bind_some h
   obtain ⟨x53,hx53,h⟩:=bind_some h
   refine T.drawn mixed (k:=9) rfl (rq [0,1] 7 (r0 2 rfl (Qha (en:=encS) Ty.s22 rfl rfl rfl hx51 (rq [6] 5 (ra1 3 (oO rfl (Qfa (en:=encS) (a:=x52) rfl rfl hx52 (Q0a Ty.k9 (c:=.str x52) rfl (r0 4 rfl (Jaa Tryz.underlying9 rfl rfl hx53 (rq [5,7,8] 0 (RA.done (by decide +kernel) ?_))))))))))))
   cases h
   exact tD
  refine T.region (go 1 3 (sQ (Zga (en:=encS) Ty.s22 rfl rfl (go 2 3 ?_))))
  rcases Qca (((x4.1).length:Int) != 1) with hb_1 | hb_1
  ·replace hz:=ite_T hz hb_1
   refine sN hb_1 (sN hb_1 (sN hb_1 (sN hb_1 (sN hb_1 (sQ (Qga (v:=.bool true) rfl hb_1 rfl (go 1 3 (sN rfl (sN rfl (sN rfl ?_))))))))))
   refine sN rfl (sN rfl (sQ (Qga (v:=.bool true) rfl rfl rfl (go 1 3 (sN rfl (sN rfl (sN rfl (sN rfl (sN rfl (sQ (Qga (v:=.bool true) rfl rfl rfl ?_)))))))))))
   refine go 1 3 (sN rfl (sN rfl (sN rfl (sN rfl (sN rfl (sQ (Qga (v:=.bool true) rfl rfl rfl (go 1 3 (sN rfl (sN rfl ?_))))))))))
   refine sN rfl (sN rfl (sN rfl (sQ (Qga (v:=.bool true) rfl rfl rfl (RS.nil ?_)))))
   exact T.weakR (hK () trivial) (Weak.mkN [] [1,0,2] (by decide) (Qra _) rfl ⟨J8a rfl,V3a ⟨Qla rfl,Qla rfl,trivial⟩,Q9a rfl,Jha ((congrArg (fun p=>p) (Option.some.inj hz)).symm),trivial⟩ (rw_bs [iI p1] rfl (rw_bs (Qpa p0) rfl (rw_ar rfl rfl (Qna)))))
  replace hz:=ite_F hz hb_1
  obtain ⟨x5,hx5,hz⟩:=bind_some hz
  refine yg 3 hb_1 (yg 3 hb_1 (yO hb_1 (Q6a (ac:=[iI 0,.ptr 1 0,.ptr 0 0]) (as0:=[iI (0:Int),.ptr 0 0,.ptr 1 0]) (aw0:=[.box [iI p1],.box (Qpa p0)]) (aw1:=[.box [iI p1],.box (Qpa p0)]) (aw2:=[.box (Qpa p0),.box [iI p1],aR 9 1 encS x4.1]) (v:=.str x5) (v':=.str x5) (n0:=3) (n1:=2) [1,0] rfl rfl rfl rfl (by decide) (Jba (cs:=[iI p1]) (ds:=[iI p1]) rfl ⟨Qya rfl,trivial⟩ (Jba (cs:=(Qpa p0)) (ds:=(Qpa p0)) rfl ⟨rn_s rfl,rn_s rfl,trivial⟩ (Qna))) ⟨Qya rfl,Qla rfl,Qla rfl,trivial⟩ (Jla (0:Int) p1 p0.Sectors p0.Wait x5 hx5) rfl (Qea (Jda _)) ⟨.inl ⟨1,_,by decide,rfl,Q7a (cs:=(Qpa p0)) (ds:=(Qpa p0)) ⟨Qea (Qua encS_p _),Qea (Qua Zza _),trivial⟩⟩,.inl ⟨0,_,by decide,rfl,Q7a (cs:=[iI p1]) (ds:=[iI p1]) ⟨Qea (Qwa _ _),trivial⟩⟩,.inr ⟨rfl,rfl⟩,trivial⟩ (yg 3 hb_1 (yg 3 hb_1 (sQ (Qba (v:=.bool (x4.2 != ((x5).length:Int))) rfl hb_1 rfl (go 1 3 ?_))))))))
  rcases Qca (x4.2 != ((x5).length:Int)) with hb_2 | hb_2
  ·replace hz:=ite_T hz hb_2
   refine sN hb_2 (sN hb_2 (sN hb_2 (sN hb_2 (sN hb_2 (sQ (Qga (v:=.bool true) rfl hb_2 rfl (go 1 3 (sN rfl (sN rfl (sN rfl ?_))))))))))
   refine sN rfl (sN rfl (sQ (Qga (v:=.bool true) rfl rfl rfl (go 1 3 (sN rfl (sN rfl (sN rfl (sN rfl (sN rfl (sQ (Qga (v:=.bool true) rfl rfl rfl ?_)))))))))))
   refine go 1 3 (sN rfl (sN rfl (sN rfl (sN rfl (sN rfl (sQ (Qga (v:=.bool true) rfl rfl rfl (RS.nil ?_))))))))
   exact T.weakR (hK () trivial) (Weak.mkN [] [1,0,2] (by decide) (Qra _) rfl ⟨J8a rfl,V3a ⟨Qla rfl,Qla rfl,trivial⟩,Q9a rfl,Jha ((congrArg (fun p=>p) (Option.some.inj hz)).symm),trivial⟩ (rw_bs [iI p1] rfl (rw_bs (Qpa p0) rfl (rw_ar rfl rfl (Qna)))))
  replace hz:=ite_F hz hb_2
  obtain ⟨x6,hx6,hz⟩:=bind_some hz
  obtain ⟨x7,hx7,hz⟩:=bind_some hz
  refine yg 3 hb_2 (yQ hb_2 (Qha (en:=encS) Ty.s22 rfl rfl rfl hx6 (yO hb_2 (Qfa (en:=encS) (a:=x7) rfl rfl hx7 (Q0a Ty.k9 (c:=.str x7) rfl (yg 3 hb_2 (yg 3 hb_2 (sQ (Qba (v:=.bool (((x7).length:Int) != 3)) rfl hb_2 rfl (go 1 3 ?_))))))))))
  rcases Qca (((x7).length:Int) != 3) with hb_3 | hb_3
  ·replace hz:=ite_T hz hb_3
   refine sN hb_3 (sN hb_3 (sN hb_3 (sN hb_3 (sN hb_3 (sQ (Qga (v:=.bool true) rfl hb_3 rfl (go 1 3 (sN rfl (sN rfl (sN rfl ?_))))))))))
   refine sN rfl (sN rfl (sQ (Qga (v:=.bool true) rfl rfl rfl (go 1 3 (sN rfl (sN rfl (sN rfl (sN rfl (sN rfl (sQ (Qga (v:=.bool true) rfl rfl rfl ?_)))))))))))
   refine RS.nil ?_
   exact T.weakR (hK () trivial) (Weak.mkN [] [1,0,2] (by decide) (Qra _) rfl ⟨J8a rfl,V3a ⟨Qla rfl,Qla rfl,trivial⟩,Q9a rfl,Jha ((congrArg (fun p=>p) (Option.some.inj hz)).symm),trivial⟩ (rw_bs [iI p1] rfl (rw_bs (Qpa p0) rfl (rw_ar rfl rfl (Qna)))))
  replace hz:=ite_F hz hb_3
  obtain ⟨x8,hx8,hz⟩:=bind_some hz
  obtain ⟨x9,hx9,hz⟩:=bind_some hz
  obtain ⟨x10,hx10,hz⟩:=bind_some hz
  refine yg 3 hb_3 (yQ hb_3 (Qha (en:=encS) Ty.s22 rfl rfl rfl hx8 (yO hb_3 (Qfa (en:=encS) (a:=x9) rfl rfl hx9 (Q0a Ty.k9 (c:=.str x9) rfl (yQ hb_3 (Jaa Tryz.underlying9 rfl rfl hx10 (yg 3 hb_3 (sQ (Qba (v:=.bool (decide ((x10.toNat:Int) > 200))) rfl hb_3 rfl (go 1 3 ?_)))))))))))
  rcases Qca (decide ((x10.toNat:Int) > 200)) with hb_4 | hb_4
  ·replace hz:=ite_T hz hb_4
   refine sN hb_4 (sN hb_4 (sN hb_4 (sN hb_4 (sN hb_4 (sQ (Qga (v:=.bool true) rfl hb_4 rfl (go 1 3 (sN rfl (sN rfl (sN rfl ?_))))))))))
   refine sN rfl (sN rfl (sQ (Qga (v:=.bool true) rfl rfl rfl (RS.nil ?_))))
   exact T.weakR (hK () trivial) (Weak.mkN [] [1,0,2] (by decide) (Qra _) rfl ⟨J8a rfl,V3a ⟨Qla rfl,Qla rfl,trivial⟩,Q9a rfl,Jha ((congrArg (fun p=>p) (Option.some.inj hz)).symm),trivial⟩ (rw_bs [iI p1] rfl (rw_bs (Qpa p0) rfl (rw_ar rfl rfl (Qna)))))
  replace hz:=ite_F hz hb_4
  obtain ⟨x11,hx11,hz⟩:=bind_some hz
  obtain ⟨x12,hx12,hz⟩:=bind_some hz
  obtain ⟨x13,hx13,hz⟩:=bind_some hz
  refine yg 3 hb_4 (yQ hb_4 (Qha (en:=encS) Ty.s22 rfl rfl rfl hx11 (yO hb_4 (Qfa (en:=encS) (a:=x12) rfl rfl hx12 (Q0a Ty.k9 (c:=.str x12) rfl (yQ hb_4 (Jaa Tryz.underlying9 rfl rfl hx13 (yg 3 hb_4 (sQ (Qba (v:=.bool ((x13.toNat:Int) != 0)) rfl hb_4 rfl (go 1 3 ?_)))))))))))
  rcases Qca ((x13.toNat:Int) != 0) with hb_5 | hb_5
  ·replace hz:=ite_T hz hb_5
   refine sN hb_5 (sN hb_5 (sN hb_5 (sN hb_5 (sN hb_5 (sQ (Qga (v:=.bool true) rfl hb_5 rfl (RS.nil ?_)))))))
   exact T.weakR (hK () trivial) (Weak.mkN [] [1,0,2] (by decide) (Qra _) rfl ⟨J8a rfl,V3a ⟨Qla rfl,Qla rfl,trivial⟩,Q9a rfl,Jha ((congrArg (fun p=>p) (Option.some.inj hz)).symm),trivial⟩ (rw_bs [iI p1] rfl (rw_bs (Qpa p0) rfl (rw_ar rfl rfl (Qna)))))
  replace hz:=ite_F hz hb_5
  obtain ⟨x14,hx14,hz⟩:=bind_some hz
  obtain ⟨x15,hx15,hz⟩:=bind_some hz
  obtain ⟨x16,hx16,hz⟩:=bind_some hz
  refine yg 3 hb_5 (yQ hb_5 (Qha (en:=encS) Ty.s22 rfl rfl rfl hx14 (yO hb_5 (Qfa (en:=encS) (a:=x15) rfl rfl hx15 (Q0a Ty.k9 (c:=.str x15) rfl (yQ hb_5 (Jaa Tryz.underlying9 rfl rfl hx16 (yg 3 hb_5 (sQ (Qba (v:=.bool (decide ((x16.toNat:Int) ≥ 60))) rfl hb_5 rfl (RS.nil ?_)))))))))))
  exact T.weakR (hK () trivial) (Weak.mkN [] [1,0,2] (by decide) (Qra _) rfl ⟨J8a rfl,V3a ⟨Qla rfl,Qla rfl,trivial⟩,Q9a rfl,Jha ((congrArg (fun p=>p) (Option.some.inj hz)).symm),trivial⟩ (rw_bs [iI p1] rfl (rw_bs (Qpa p0) rfl (rw_ar rfl rfl (Qna)))))
theorem crosslaw_SaveGet_c (p0:Disk) (p1:Int) (r:Bool) (h:Jhb p0 p1=some r):Fn Tryz.prog 4 [.agg (Qpa p0),iI p1] (.bool r):=by
  unfold Jhb at h
  refine fnT 0 Tryz.func4 Tryz.ntmps4 ?_
  refine T.seq (T.region (go 2 0 (RS.nil (T.seq ?_))))
  obtain ⟨x2,hx2,h⟩:=bind_some h
  refine T.region (go 2 1 (sO (cF (save_Get_c p0 p1 x2 hx2) ⟨rfl,(go 7 1 (RS.nil (T.seq ?_)))⟩)))
  obtain ⟨x4,hx4,h⟩:=bind_some h
  refine T.region (go 1 1 (sO (cF (crossref_CheckDisk_c p0 x4 hx4) ⟨rfl,(go 1 1 (RS.nil (T.join (Z:=Int) (fun zz_4=>mkA 82 [(1,iI p1),(2,.ptr 0 0),(5,.str x2.1),(6,iI x2.2.1),(7,iI x2.2.2),(8,iI zz_4)]) (fun zz_4=>[.box (Qpa p0)]) (fun zz_4=>Zha p0 p1 x2 zz_4=some r) (fun zz_4 h=>?_) (fun hK1=>?_))))⟩)))
  ·revert h;revert zz_4;intro z5 h
   replace h:Zha p0 p1 x2 z5=some r:=h
   try dsimp only
   unfold Zha at h
   refine T.seq ?_
   obtain ⟨x6,hx6,h⟩:=bind_some h
   refine T.join (Z:=Unit) (fun _=>mkA 82 [(1,iI p1),(2,.ptr 0 0),(5,.str x2.1),(6,iI x2.2.1),(7,iI x2.2.2),(8,iI z5),(36,.bool ((!x6) || z5 != 0))]) (fun _=>[.box (Qpa p0)]) (fun _=>True) (fun _ _=>?_) (fun hK=>?_)
   ·refine T.ci h rfl (fun hb_6 h=>?_) (fun hb_6 h=>?_)
    ·obtain ⟨x8,hx8,h⟩:=bind_some h
     refine T.join (Z:=Unit) (fun _=>mkA 82 [(4,.bool (x8 && ((x2.2.2==z5) && ((x2.1==[]) && x2.2.1==0))))]) (fun _=>[]) (fun _=>True) (fun _ _=>?_) (fun hK=>?_)
     ·cases h
      exact tD
     refine T.region (sO (cF (crosslaw_saved_c x8 hx8) ⟨rfl,(go 1 1 ?_)⟩))
     rcases Qca x8 with hb_7 | hb_7
     ·refine yg 1 hb_7 (yg 1 hb_7 (yg 1 hb_7 (sQ (Qga (v:=.bool (x2.2.2==z5)) rfl hb_7 rfl (go 1 1 ?_)))))
      rcases Qca (x2.2.2==z5) with hb_8 | hb_8
      ·refine yg 1 hb_8 (yg 1 hb_8 (sQ (Qga (v:=.bool (x2.1==[])) rfl hb_8 rfl (go 1 1 ?_))))
       rcases Qca (x2.1==[]) with hb_9 | hb_9
       ·refine yg 1 hb_9 (yg 1 hb_9 (sQ (Qga (v:=.bool (x2.2.1==0)) rfl hb_9 rfl (go 1 1 (RS.nil ?_)))))
        exact T.weakR (hK () trivial) (Weak.mkN [] [] (by decide) (Qra _) rfl ⟨Jha (by simp only [hb_7,hb_8,hb_9,bz,if_true,if_false,Bool.false_eq_true]),trivial⟩ (Qna))
       refine sN hb_9 (sN hb_9 (sQ (Qba (v:=.bool false) rfl hb_9 rfl (go 1 1 (RS.nil ?_)))))
       exact T.weakR (hK () trivial) (Weak.mkN [] [] (by decide) (Qra _) rfl ⟨Jha (by simp only [hb_7,hb_8,hb_9,bz,if_true,if_false,Bool.false_eq_true]),trivial⟩ (Qna))
      refine sN hb_8 (sN hb_8 (sQ (Qba (v:=.bool false) rfl hb_8 rfl (go 1 1 (sN rfl (sN rfl (sQ (Qba (v:=.bool false) rfl rfl rfl (go 1 1 (RS.nil ?_))))))))))
      exact T.weakR (hK () trivial) (Weak.mkN [] [] (by decide) (Qra _) rfl ⟨Jha (by simp only [hb_7,hb_8,bz,if_true,if_false,Bool.false_eq_true]),trivial⟩ (Qna))
     refine sN hb_7 (sN hb_7 (sN hb_7 (sQ (Qba (v:=.bool false) rfl hb_7 rfl (go 1 1 (sN rfl (sN rfl (sQ (Qba (v:=.bool false) rfl rfl rfl (go 1 1 (sN rfl ?_)))))))))))
     refine sN rfl (sQ (Qba (v:=.bool false) rfl rfl rfl (go 1 1 (RS.nil ?_))))
     exact T.weakR (hK () trivial) (Weak.mkN [] [] (by decide) (Qra _) rfl ⟨Jha (by simp only [hb_7,bz,if_true,if_false,Bool.false_eq_true]),trivial⟩ (Qna))
    refine T.skip (T.seq ?_)
    obtain ⟨x11,hx11,h⟩:=bind_some h
    refine T.region (go 2 1 (sO (cF (crossref_SlotOf_c p0 p1 x11 hx11) ⟨rfl,(go 7 1 (RS.nil (T.seq (T.seq (T.region (go 2 1 (RS.nil ?_)))))))⟩)))
    refine T.ci h rfl (fun hb_10 h=>?_) (fun hb_10 h=>?_)
    ·refine T.join (Z:=Unit) (fun _=>mkA 82 [(4,.bool ((x2.2.2==12) && ((x2.1==[]) && x2.2.1==0)))]) (fun _=>[]) (fun _=>True) (fun _ _=>?_) (fun hK=>?_)
     ·cases h
      exact tD
     refine T.region (go 3 1 ?_)
     rcases Qca (x2.2.2==12) with hb_11 | hb_11
     ·refine yg 1 hb_11 (yg 1 hb_11 (sQ (Qga (v:=.bool (x2.1==[])) rfl hb_11 rfl (go 1 1 ?_))))
      rcases Qca (x2.1==[]) with hb_12 | hb_12
      ·refine yg 1 hb_12 (yg 1 hb_12 (sQ (Qga (v:=.bool (x2.2.1==0)) rfl hb_12 rfl (go 1 1 (RS.nil ?_)))))
       exact T.weakR (hK () trivial) (Weak.mkN [] [] (by decide) (Qra _) rfl ⟨Jha (by simp only [hb_11,hb_12,bz,if_true,if_false,Bool.false_eq_true]),trivial⟩ (Qna))
      refine sN hb_12 (sN hb_12 (sQ (Qba (v:=.bool false) rfl hb_12 rfl (go 1 1 (RS.nil ?_)))))
      exact T.weakR (hK () trivial) (Weak.mkN [] [] (by decide) (Qra _) rfl ⟨Jha (by simp only [hb_11,hb_12,bz,if_true,if_false,Bool.false_eq_true]),trivial⟩ (Qna))
     refine sN hb_11 (sN hb_11 (sQ (Qba (v:=.bool false) rfl hb_11 rfl (go 1 1 (sN rfl (sN rfl (sQ (Qba (v:=.bool false) rfl rfl rfl (go 1 1 (RS.nil ?_))))))))))
     exact T.weakR (hK () trivial) (Weak.mkN [] [] (by decide) (Qra _) rfl ⟨Jha (by simp only [hb_11,bz,if_true,if_false,Bool.false_eq_true]),trivial⟩ (Qna))
    refine T.skip (T.join (Z:=Unit) (fun _=>mkA 82 [(4,.bool ((x2.2.2==0) && ((x2.1==x11.1) && x2.2.1==x11.2.1)))]) (fun _=>[]) (fun _=>True) (fun _ _=>?_) (fun hK=>?_))
    ·cases h
     exact tD
    refine T.region (go 3 1 ?_)
    rcases Qca (x2.2.2==0) with hb_13 | hb_13
    ·refine yg 1 hb_13 (yg 1 hb_13 (yg 1 hb_13 (sQ (Qga (v:=.bool (x2.1==x11.1)) rfl hb_13 rfl (go 1 1 ?_)))))
     rcases Qca (x2.1==x11.1) with hb_14 | hb_14
     ·refine yg 1 hb_14 (yg 1 hb_14 (yg 1 hb_14 (sQ (Qga (v:=.bool (x2.2.1==x11.2.1)) rfl hb_14 rfl (go 1 1 (RS.nil ?_))))))
      exact T.weakR (hK () trivial) (Weak.mkN [] [] (by decide) (Qra _) rfl ⟨Jha (by simp only [hb_13,hb_14,bz,if_true,if_false,Bool.false_eq_true]),trivial⟩ (Qna))
     refine sN hb_14 (sN hb_14 (sN hb_14 (sQ (Qba (v:=.bool false) rfl hb_14 rfl (go 1 1 (RS.nil ?_))))))
     exact T.weakR (hK () trivial) (Weak.mkN [] [] (by decide) (Qra _) rfl ⟨Jha (by simp only [hb_13,hb_14,bz,if_true,if_false,Bool.false_eq_true]),trivial⟩ (Qna))
    refine sN hb_13 (sN hb_13 (sN hb_13 (sQ (Qba (v:=.bool false) rfl hb_13 rfl (go 1 1 (sN rfl (sN rfl (sN rfl (sQ (Qba (v:=.bool false) rfl rfl rfl (go 1 1 ?_)))))))))))
    refine RS.nil ?_
    exact T.weakR (hK () trivial) (Weak.mkN [] [] (by decide) (Qra _) rfl ⟨Jha (by simp only [hb_13,bz,if_true,if_false,Bool.false_eq_true]),trivial⟩ (Qna))
   refine T.region (sO (cF (crosslaw_saved_c x6 hx6) ⟨rfl,(go 2 1 ?_)⟩))
   rcases Qca (!x6) with hb_5 | hb_5
   ·refine sN hb_5 (sN hb_5 (sQ (Qga (v:=.bool true) rfl hb_5 rfl (RS.nil ?_))))
    exact T.sub (hK () trivial) ⟨rfl,rfl,rfl,rfl,rfl,rfl,(congrArg AV.bool (by simp only [hb_5,bz,if_true,if_false,Bool.false_eq_true])).symm,trivial⟩
   refine yg 1 hb_5 (yg 1 hb_5 (sQ (Qba (v:=.bool (z5 != 0)) rfl hb_5 rfl (RS.nil ?_))))
   exact T.sub (hK () trivial) ⟨rfl,rfl,rfl,rfl,rfl,rfl,(congrArg AV.bool (by simp only [hb_5,bz,if_true,if_false,Bool.false_eq_true])).symm,trivial⟩
  refine T.join (Z:=Unit) (fun _=>mkA 82 [(1,iI p1),(2,.ptr 0 0),(5,.str x2.1),(6,iI x2.2.1),(7,iI x2.2.2),(8,iI x4),(30,.bool ((x4==0) && ((decide (p1<0)) || decide (p1 > 1))))]) (fun _=>[.box (Qpa p0)]) (fun _=>True) (fun _ _=>?_) (fun hK=>?_)
  ·refine T.ci h rfl (fun hb_17 h=>?_) (fun hb_17 h=>?_)
   ·refine T.region (go 1 1 (RS.nil ?_))
    exact T.su (hK1 3 h)
   refine T.skip ?_
   exact T.su (hK1 x4 h)
  refine T.region (go 3 1 ?_)
  rcases Qca (x4==0) with hb_15 | hb_15
  ·refine yg 1 hb_15 (yg 1 hb_15 (yg 1 hb_15 ?_))
   rcases Qca (decide (p1<0)) with hb_16 | hb_16
   ·refine sN hb_16 (sN hb_16 (yQ hb_15 (Qga (v:=.bool true) rfl hb_16 rfl (sQ (Qga (v:=.bool true) rfl hb_15 rfl (RS.nil ?_))))))
    exact T.sub (hK () trivial) ⟨rfl,rfl,rfl,rfl,rfl,rfl,(congrArg AV.bool (by simp only [hb_15,hb_16,bz,if_true,if_false,Bool.false_eq_true])).symm,trivial⟩
   refine yg 1 hb_16 (yg 1 hb_16 (yQ hb_15 (Qba (v:=.bool (decide (p1 > 1))) rfl hb_16 rfl (sQ (Qga (v:=.bool (decide (p1 > 1))) rfl hb_15 rfl (RS.nil ?_))))))
   exact T.sub (hK () trivial) ⟨rfl,rfl,rfl,rfl,rfl,rfl,(congrArg AV.bool (by simp only [hb_15,hb_16,bz,if_true,if_false,Bool.false_eq_true])).symm,trivial⟩
  refine sN hb_15 (sN hb_15 (sN hb_15 (sU (sU (sN hb_15 (sQ (Qba (v:=.bool false) rfl hb_15 rfl (RS.nil ?_))))))))
  exact T.sub (hK () trivial) ⟨rfl,rfl,rfl,rfl,rfl,rfl,(congrArg AV.bool (by simp only [hb_15,bz,if_true,if_false,Bool.false_eq_true])).symm,trivial⟩
end Go.Proofs.YtchmpaaofmihcaaGreat
