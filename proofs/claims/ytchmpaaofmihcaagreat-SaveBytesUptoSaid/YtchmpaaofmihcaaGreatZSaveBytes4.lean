/-
  Part 4 of the proof of saveBytesLaw.proved: the code computes these functions, and the law holds of them, with no condition beyond the statement's own; put together by a program of ours (wip/decl.py) out of texts of ours.
-/
import Derived.Test.YtchmpaaofmihcaaGreatZSaveBytes3
namespace Go.Proofs.YtchmpaaofmihcaaGreat
open Go.RowKit
set_option linter.unusedVariables false
set_option linter.unusedSimpArgs false
set_option maxRecDepth 100000
set_option maxHeartbeats 4000000
set_option synthInstance.maxSize 100000
set_option synthInstance.maxHeartbeats 4000000
theorem Jhd (p0:List Item) (p1:Int) (p2:Item) (r:(List Item) × Int) (h:Vwc p0 p1 p2=some r):FnO Tryz.prog 90 [sL Qca p0,iI p1,.agg (Qca p2)] (.tup [.ref 0,iI r.2]) [aR 115 3 Qca r.1]:=by
 unfold Vwc at h
 refine fnT 0 Tryz.func90 Tryz.ntmps90 ?_
 refine T.seq (T.region (go 3 0 (RS.nil (T.seq (T.join (Z:=Unit) (fun _=>mkA 27 [(0,sL Qca p0),(1,iI p1),(5,.ptr 0 0),(13,.bool ((decide (p1<1)) || decide (p1 > 6)))]) (fun _=>[.box (Qca p2)]) (fun _=>True) (fun _ _=>?_) (fun hK=>?_))))))
 ·refine T.ci h rfl (fun hb_2 h=>?_) (fun hb_2 h=>?_)
  ·refine T.seq (T.region (go 2 1 (RS.nil ?_)))
   cases h
   exact tO [(0,115,3)] [1] 1
  refine T.skip (T.seq (T.seq (T.region (go 1 1 (sQ (Qia Ty.s52 rfl (go 2 1 (RS.nil (T.ci h rfl (fun hb_3 h=>?_) (fun hb_3 h=>?_))))))))))
  ·refine T.seq (T.region (go 2 1 (RS.nil ?_)))
   cases h
   exact tO [(0,115,3)] [1] 1
  refine T.skip (T.seq (T.seq (T.region (go 1 1 (sQ (Qia Ty.s52 rfl (go 2 1 (RS.nil (T.ci h rfl (fun hb_4 h=>?_) (fun hb_4 h=>?_))))))))))
  ·refine T.seq (T.region (go 2 1 (RS.nil ?_)))
   cases h
   exact tO [(0,115,3)] [1] 1
  refine T.skip (T.seq ?_)
  obtain ⟨x4,hx4,h⟩:=bind_some h
  obtain ⟨x5,hx5,h⟩:=bind_some h
  refine T.drawn mixed (k:=7) rfl ?_
  apply RA.jn 3 #[true,true,true,true,false,false,false];intro hS5
  apply RA.jn 4 #[true,true,true,false,false,false,false];intro hS6
  ·refine rq [0] 6 (ra2 1 2 ?_ ?_)
   ·refine oO rfl (cO 1 (Yza p0 x4 hx4) ⟨rfl,(ra1 2 (og 2 ⟨rfl,?_⟩))⟩)
    exact raE hS6
   ·refine og 1 ⟨rfl,(ra2 1 3 ?_ ?_)⟩
    ·refine oO rfl (cO 1 (Yza p0 x4 hx4) ⟨rfl,?_⟩)
     exact raT hS6
    ·refine oO rfl (Q9a (rows:=List.map Qca [p2]) (vs:=[.agg (Qca p2)]) Ty.s52 Ty.z115 rfl rfl rfl rfl rfl rfl (ra1 1 (oO rfl (cO 2 (Yza p0 x4 hx4) ⟨rfl,?_⟩))))
     exact raE hS5
  ·refine ra1 3 (oO rfl (Q9a (rows:=List.map Qca [p2]) (vs:=[.agg (Qca p2)]) Ty.s52 Ty.z115 rfl rfl rfl rfl rfl rfl ?_))
   exact raV hS5 [0,2,1] rfl
  refine ra1 4 (oO rfl (Voa (en:=Qca) (xs:=x4) (ys:=([p2]:List Item)) Ty.s52 (fun _=>rfl) rfl rfl rfl hx5 rfl rfl (rq [5,6] 0 (RA.done (by decide +kernel) ?_))))
  cases h
  exact tO [] [3] 4
 refine T.region (go 3 1 ?_)
 rcases Qga (decide (p1<1)) with hb_1 | hb_1
 ·refine sN hb_1 (sN hb_1 (sQ (Qna (v:=.bool true) rfl hb_1 rfl (RS.nil ?_))))
  exact T.sub (hK () trivial) ⟨rfl,rfl,rfl,(congrArg AV.bool (by simp only [hb_1,bz,if_true,if_false,Bool.false_eq_true])).symm,trivial⟩
 refine yg 1 hb_1 (yg 1 hb_1 (sQ (Qha (v:=.bool (decide (p1 > 6))) rfl hb_1 rfl (RS.nil ?_))))
 exact T.sub (hK () trivial) ⟨rfl,rfl,rfl,(congrArg AV.bool (by simp only [hb_1,bz,if_true,if_false,Bool.false_eq_true])).symm,trivial⟩
theorem Qmd (p0:Net) (p1:List (List Item)) (p2:Move) (p3:List Int) (p4:List (List Item)) (p5:List Memory) (p6:List Choice) (p7:List Item) (r:(List Int) × (List (List Item)) × (List Memory) × (List Choice) × (List Item)) (h:J4b p0 p1 p2 p3 p4 p5 p6 p7=some r):FnX Tryz.prog 66 [.agg (Qxa p0),sL (encL Qca) p1,.ptr 0 0,.agg (Vfa p2)] [.box [.ref 1,.ref 2,.ref 3,.ref 4,.ref 5],aR 3 1 encI p3,aR 52 1 (encL Qca) p4,aR 90 3 Qla p5,aR 94 2 Qta p6,aR 115 3 Qca p7] (.tup []) [.box [.ref 1,.ref 2,.ref 3,.ref 6,.ref 7],aR 3 1 encI r.1,aR 52 1 (encL Qca) r.2.1,aR 90 3 Qla r.2.2.1,.dead,.dead,aR 94 2 Qta r.2.2.2.1,aR 115 3 Qca r.2.2.2.2]:=by
 unfold J4b at h
 refine fnT 6 Tryz.func66 Tryz.ntmps66 ?_
 refine T.mvB 0 4 5 (cs:=[.ref 1,.ref 2,.ref 3,.ref 4,.ref 5]) rfl rfl rfl rfl (cs':=[.ref 1,.ref 2,.ref 3,.ref 4,.ref 6]) rfl rfl (T.mvB 0 3 4 (cs:=[.ref 1,.ref 2,.ref 3,.ref 4,.ref 6]) rfl rfl rfl rfl (cs':=[.ref 1,.ref 2,.ref 3,.ref 7,.ref 6]) rfl rfl (T.seq (T.region (go 2 8 (RS.nil (T.seq ?_))))))
 obtain ⟨x2,hx2,h⟩:=bind_some h
 refine T.region (go 4 10 (sQ (Qka Ty.s45 (fun _=>rfl) rfl rfl hx2 (go 3 10 (RS.nil (T.seq ?_))))))
 obtain ⟨x4,hx4,h⟩:=bind_some h
 refine T.drawn mixed (k:=13) rfl ?_
 apply RA.jn 2 #[true,true,true,true,true,true,true,true,true,true,true,false,false];intro hS1
 ·refine rq [1,2,3] 10 (rL [0,6,7,8,9,11,12] 0 rfl (rL [4,6,7,8,9,11,12] 4 rfl (rL [5,6,7,8,9,11,12] 5 rfl (ra2 6 10 ?_ ?_))))
  ·refine oO rfl (cF (Zzc p0 p1 (⟨p3,p4,p5,p6,p7⟩:State) p2 x4 hx4) ⟨rfl,(rq [7,8,9] 3 (ra1 10 (og 11 ⟨rfl,?_⟩)))⟩)
   exact raE hS1
  ·refine og 11 ⟨rfl,(ra1 6 (oO rfl (cF (Zzc p0 p1 (⟨p3,p4,p5,p6,p7⟩:State) p2 x4 hx4) ⟨rfl,(rq [7,8,9] 2 ?_)⟩)))⟩
   exact raT hS1
 refine ra1 11 (og 12 ⟨rfl,(rq [12] 0 (RA.done (by decide +kernel) (T.join (Z:=(List Int) × (List (List Item))) (fun zz_21=>mkA 162 [(2,.ptr 0 0),(4,.ptr 6 0),(7,.ptr 7 0),(8,.ptr 8 0),(9,.ptr 9 0)]) (fun zz_21=>[.box [.ref 1,.ref 2,.ref 3,.ref 10,.ref 11],aR 3 1 encI zz_21.1,aR 52 1 (encL Qca) zz_21.2,aR 90 3 Qla p5,.dead,.dead,.box (Qxa p0),.box (Vfa p2),.box (Q5a x2),.box (Qca x4.1),aR 94 2 Qta p6,aR 115 3 Qca p7]) (fun zz_21=>Yoa p0 p2 x2 x4 p5 p6 p7 zz_21.1 zz_21.2=some r) (fun zz_21 h=>?_) (fun hK4=>?_))))⟩)
 ·obtain ⟨z16,z17⟩:=zz_21
  replace h:Yoa p0 p2 x2 x4 p5 p6 p7 z16 z17=some r:=h
  try dsimp only
  unfold Yoa at h
  refine T.seq ?_
  obtain ⟨x19,hx19,h⟩:=bind_some h
  refine T.region (go 2 12 (sO (cD (Qtd x2 x4.1 x19 hx19) ⟨rfl,(go 1 12 (RS.nil (T.join (Z:=Int × (List Choice)) (fun zz_23=>mkA 162 [(2,.ptr 0 0),(4,.ptr 6 0),(7,.ptr 7 0),(8,.ptr 8 0),(9,.ptr 9 0),(11,sL encI x19)]) (fun zz_23=>[.box [.ref 1,.ref 2,.ref 3,.ref 10,.ref 11],aR 3 1 encI z16,aR 52 1 (encL Qca) z17,aR 90 3 Qla p5,.dead,.dead,.box (Qxa p0),.box (Vfa p2),.box (Q5a x2),.box [iI x4.1.Key,iI x4.1.Val,iI zz_23.1],aR 94 2 Qta zz_23.2,aR 115 3 Qca p7]) (fun zz_23=>Yna p0 p2 x2 x4 p5 p7 z16 z17 x19 zz_23.1 zz_23.2=some r) (fun zz_23 h=>?_) (fun hK3=>?_))))⟩)))
  ·obtain ⟨z22,z23⟩:=zz_23
   replace h:Yna p0 p2 x2 x4 p5 p7 z16 z17 x19 z22 z23=some r:=h
   try dsimp only
   unfold Yna at h
   refine T.seq ?_
   obtain ⟨x29,hx29,h⟩:=bind_some h
   obtain ⟨x30,hx30,h⟩:=bind_some h
   obtain ⟨x31,hx31,h⟩:=bind_some h
   obtain ⟨x32,hx32,h⟩:=bind_some h
   obtain ⟨x33,hx33,h⟩:=bind_some h
   refine T.drawn mixed (k:=27) rfl ?_
   apply RA.jn 2 #[true,true,true,true,true,true,true,true,true,true,true,true,true,true,true,true,true,true,true,true,true,true,true,true,true,false,false];intro hS24
   apply RA.jn 4 #[true,true,true,true,true,false,true,true,true,true,true,true,true,true,true,true,true,true,true,true,true,true,true,true,false,false,false];intro hS25
   apply RA.jn 8 #[true,true,true,true,true,true,true,true,true,true,true,true,true,true,true,true,true,true,true,false,false,false,false,false,false,false,false];intro hS26
   apply RA.jn 9 #[true,true,true,true,true,false,true,true,true,true,true,true,true,true,true,true,true,true,true,false,false,false,false,false,false,false,false];intro hS27
   apply RA.jn 9 #[true,true,true,false,true,true,true,true,true,true,true,true,true,true,true,true,true,true,true,false,false,false,false,false,false,false,false];intro hS28
   apply RA.jn 9 #[true,true,true,true,true,true,true,true,true,true,true,true,true,true,true,true,true,false,true,false,false,false,false,false,false,false,false];intro hS29
   ·refine rq [0,1,2,4,6,8,10,11,12,14] 17 (rL [7,19,20,21,22,23,24,25,26] 7 rfl (rL [9,19,20,21,22,23,24,25,26] 9 rfl (rL [13,16,17,19,20,21,22,23,24,25,26] 13 rfl (rL [15,16,17,19,20,21,22,23,24,25,26] 15 rfl (r0 16 rfl (Q6a (en:=Qla) Ty.s50 rfl rfl rfl hx29 (rL [18,19,20,21,22,23,24,25,26] 18 rfl (ra3 3 5 17 ?_ ?_ ?_))))))))
    ·refine og 12 ⟨rfl,(ra2 5 17 ?_ ?_)⟩
     ·refine og 12 ⟨rfl,?_⟩
      exact raE hS29
     ·refine oO rfl (Jga (en:=Qla) (a:=x30) rfl rfl hx30 (Zic Ty.k90 Ty.c90 rfl (cs:=(Qla x30)) rfl ?_))
      exact raE hS27
    ·refine og 12 ⟨rfl,(ra2 3 17 ?_ ?_)⟩
     ·refine og 12 ⟨rfl,?_⟩
      exact raT hS29
     ·refine oO rfl (Jga (en:=Qla) (a:=x30) rfl rfl hx30 (Zic Ty.k90 Ty.c90 rfl (cs:=(Qla x30)) rfl ?_))
      exact raE hS28
    ·refine oO rfl (Jga (en:=Qla) (a:=x30) rfl rfl hx30 (Zic Ty.k90 Ty.c90 rfl (cs:=(Qla x30)) rfl (ra3 3 5 19 ?_ ?_ ?_)))
     ·refine og 12 ⟨rfl,?_⟩
      exact raT hS27
     ·refine og 12 ⟨rfl,?_⟩
      exact raT hS28
     ·refine oO rfl (cD (Qtb x2.Kind x2.A x30 (⟨x4.1.Key,x4.1.Val,z22⟩:Item) x31 hx31) ⟨rfl,(rq [20,21,22,23] 5 (rL [3,24,25,26] 3 rfl ?_))⟩)
      exact raE hS25
   ·refine ra1 17 (oO rfl (Jga (en:=Qla) (a:=x30) rfl rfl hx30 (Zic Ty.k90 Ty.c90 rfl (cs:=(Qla x30)) rfl ?_)))
    exact raE hS26
   ·refine ra2 3 19 ?_ ?_
    ·refine og 12 ⟨rfl,?_⟩
     exact raT hS26
    ·refine oO rfl (cD (Qtb x2.Kind x2.A x30 (⟨x4.1.Key,x4.1.Val,z22⟩:Item) x31 hx31) ⟨rfl,(rq [20,21,22,23] 4 (ra1 3 (og 12 ⟨rfl,(r0 24 rfl (Q6a (en:=Qla) Ty.s50 rfl rfl rfl hx32 ?_))⟩)))⟩)
     exact raE hS24
   ·refine ra2 5 19 ?_ ?_
    ·refine og 12 ⟨rfl,?_⟩
     exact raT hS26
    ·refine oO rfl (cD (Qtb x2.Kind x2.A x30 (⟨x4.1.Key,x4.1.Val,z22⟩:Item) x31 hx31) ⟨rfl,(rq [20,21,22,23] 4 ?_)⟩)
     exact raT hS25
   ·refine ra1 19 (oO rfl (cD (Qtb x2.Kind x2.A x30 (⟨x4.1.Key,x4.1.Val,z22⟩:Item) x31 hx31) ⟨rfl,(rq [20,21,22,23] 3 (r0 24 rfl (Q6a (en:=Qla) Ty.s50 rfl rfl rfl hx32 ?_)))⟩))
    exact raT hS24
   ·refine ra1 5 (og 12 ⟨rfl,(r0 24 rfl (Q6a (en:=Qla) Ty.s50 rfl rfl rfl hx32 ?_))⟩)
    exact raT hS24
   refine ra1 25 (oO rfl (Yda (en:=Qla) (a:=x33) (a':=x31.1) Ty.c90 Ty.i90 rfl (vs:=[iI x31.1.Sum,sL Qwa x31.1.Keys,iI x31.1.Dep]) rfl rfl rfl hx33 rfl rfl rfl (ra1 26 (og 12 ⟨rfl,(RA.done (by decide +kernel) (T.join (Z:=List Item) (fun zz_31=>mkA 162 [(2,.ptr 0 0),(4,.ptr 6 0),(9,.ptr 7 0),(11,sL encI x19)]) (fun zz_31=>[.box [.ref 1,.ref 2,.ref 3,.ref 8,.ref 9],aR 3 1 encI z16,aR 52 1 (encL Qca) z17,aR 90 3 Qla (List.set p5 x32 x31.1),.dead,.dead,.box (Qxa p0),.box (Qca x31.2.1),aR 94 2 Qta z23,aR 115 3 Qca zz_31]) (fun zz_31=>Y8a p0 p5 z16 z17 x19 z23 x31 x32 zz_31=some r) (fun zz_31 h=>?_) (fun hK2=>?_)))⟩))))
   ·revert h;revert zz_31;intro z35 h
    replace h:Y8a p0 p5 z16 z17 x19 z23 x31 x32 z35=some r:=h
    try dsimp only
    unfold Y8a at h
    refine T.seq (T.region (go 1 10 (sQ (Qia Ty.s49 rfl (go 1 10 (RS.nil (T.block (T.iter (fun ss_38:Int × (List (List Item))=>mkA 162 [(2,.ptr 0 0),(4,.ptr 6 0),(9,.ptr 7 0),(135,sL encI x19),(136,iI ((x19).length:Int)),(137,iI ss_38.1)]) (fun ss_38=>[.box [.ref 1,.ref 2,.ref 3,.ref 8,.ref 9],aR 3 1 encI z16,aR 52 1 (encL Qca) ss_38.2,aR 90 3 Qla (List.set p5 x32 x31.1),.dead,.dead,.box (Qxa p0),.box (Qca x31.2.1),aR 94 2 Qta z23,aR 115 3 Qca z35]) h (wk [] [0,1,2,3,4,5,6,7,8,9] 10 rfl) (fun ss_38 v_39 h hv_39=>?_)))))))))
    obtain ⟨s36,s37⟩:=ss_38
    replace h:Vya p0 p5 z16 x19 z23 x31 x32 z35 s36 s37=some v_39:=h
    try dsimp only
    unfold Vya at h
    refine T.seq (T.region (go 1 10 (RS.nil (T.seq (T.ci h rfl (fun hb_40 h=>?_) (fun hb_40 h=>?_))))))
    ·refine T.skip (T.seq (T.block (T.seq ?_)))
     obtain ⟨x39,hx39,h⟩:=bind_some h
     refine T.region (sQ (Qka Ty.s49 (fun _=>rfl) rfl rfl hx39 (go 2 10 (RS.nil ?_))))
     obtain ⟨x40,hx40,h⟩:=bind_some h
     obtain ⟨x41,hx41,h⟩:=bind_some h
     obtain ⟨x42,hx42,h⟩:=bind_some h
     obtain ⟨x43,hx43,h⟩:=bind_some h
     obtain ⟨x44,hx44,h⟩:=bind_some h
     refine T.drawn mixed (k:=21) rfl ?_
     apply RA.jn 1 #[true,true,true,true,true,true,true,true,true,true,true,true,true,true,true,true,true,true,true,true,false];intro hS41
     apply RA.jn 6 #[true,true,true,true,true,true,true,true,true,true,true,true,true,true,true,false,false,false,false,false,false];intro hS42
     ·refine rq [0,1,2,4,5,6,7,9,12] 12 (rL [8,10,11,15,16,17,18,19,20] 8 rfl (r0 10 rfl (Q6a (en:=(encL Qca)) Ty.s48 rfl rfl rfl hx40 (rL [13,15,16,17,18,19,20] 13 rfl (rL [14,15,16,17,18,19,20] 14 rfl (ra2 3 11 ?_ ?_))))))
      ·refine og 10 ⟨rfl,(ra1 11 (oO rfl (Jga (en:=(encL Qca)) (a:=x41) rfl rfl hx41 (Qra Ty.k52 (c:=sL Qca x41) rfl ?_))))⟩
       exact raE hS42
      ·refine oO rfl (Jga (en:=(encL Qca)) (a:=x41) rfl rfl hx41 (Qra Ty.k52 (c:=sL Qca x41) rfl (ra2 3 15 ?_ ?_)))
       ·refine og 10 ⟨rfl,?_⟩
        exact raT hS42
       ·refine oO rfl (cO 10 (Jhd x41 p0.Room x31.2.1 x42 hx42) ⟨rfl,(rq [16,17,18] 3 (ra1 3 (og 11 ⟨rfl,(r0 19 rfl (Q6a (en:=(encL Qca)) Ty.s48 rfl rfl rfl hx43 ?_))⟩)))⟩)
        exact raE hS41
     ·refine ra1 15 (oO rfl (cO 10 (Jhd x41 p0.Room x31.2.1 x42 hx42) ⟨rfl,(rq [16,17,18] 2 (r0 19 rfl (Q6a (en:=(encL Qca)) Ty.s48 rfl rfl rfl hx43 ?_)))⟩))
      exact raT hS41
     refine ra1 20 (RO.fC 10 (oO rfl (Yda (en:=(encL Qca)) (a:=x44) (a':=x42.1) Ty.c52 Ty.i52 rfl (vs:=[sL Qca x42.1]) rfl rfl rfl hx44 rfl rfl rfl (RA.done (by decide +kernel) (T.region (go 2 11 (RS.nil ?_)))))))
     exact ⟨(IntKind.i64.wrap (s36+1),(List.set s37 x43 x42.1)),(Option.some.inj h).symm,wk [] [0,1,2,3,4,5,6,7,8,9] 11 rfl⟩
    refine T.exit ?_
    obtain ⟨w_43,h,hw_43⟩:=Qpa h
    replace h:=h.trans (congrArg some (hv_39 _ hw_43))
    refine exN (J1b ?_)
    exact Vgc (v:=.tup []) (aw1:=[.box [.ref 1,.ref 2,.ref 3,.ref 8,.ref 9],aR 3 1 encI z16,aR 52 1 (encL Qca) s37,aR 90 3 Qla (List.set p5 x32 x31.1),.dead,.dead,.box (Qxa p0),.box (Qca x31.2.1),aR 94 2 Qta z23,aR 115 3 Qca z35]) (.tup []) [0,1,2,3,4,5,8,9] rfl (by decide) (by decide) (Jbe trivial) (Qoa (cs:=[.ref 1,.ref 2,.ref 3,.ref 6,.ref 7]) (ds:=[.ref 1,.ref 2,.ref 3,.ref 8,.ref 9]) rfl ⟨Jha rfl,Jha rfl,Jha rfl,Jha rfl,Jha rfl,trivial⟩ (Zia rfl J7b (congrArg (fun r:(List Int) × (List (List Item)) × (List Memory) × (List Choice) × (List Item)=>r.1) (Option.some.inj h)).symm (Zia rfl (Zyb Jia) (congrArg (fun r:(List Int) × (List (List Item)) × (List Memory) × (List Choice) × (List Item)=>r.2.1) (Option.some.inj h)).symm (Zia rfl Zga (congrArg (fun r:(List Int) × (List (List Item)) × (List Memory) × (List Choice) × (List Item)=>r.2.2.1) (Option.some.inj h)).symm (Q8c rfl (Q8c rfl (Zia rfl Zha (congrArg (fun r:(List Int) × (List (List Item)) × (List Memory) × (List Choice) × (List Item)=>r.2.2.2.1) (Option.some.inj h)).symm (Zia rfl Jia (congrArg (fun r:(List Int) × (List (List Item)) × (List Memory) × (List Choice) × (List Item)=>r.2.2.2.2) (Option.some.inj h)).symm (Qfa))))))))) ⟨rfl,rfl⟩
   refine T.seq (T.region (go 3 12 (RS.nil (T.ci h rfl (fun hb_44 h=>?_) (fun hb_44 h=>?_)))))
   ·obtain ⟨x34,hx34,h⟩:=bind_some h
    refine T.drawn mixed (k:=11) rfl (rq [0,1,2,3] 7 (rL [4,7,8,9,10] 4 rfl (ra1 5 (og 12 ⟨rfl,(ra1 6 (oO rfl (Q9a (rows:=List.map Qca [x31.2.1]) (vs:=[.agg (Qca x31.2.1)]) Ty.s52 Ty.z115 rfl rfl rfl rfl rfl rfl (ra1 7 (oO rfl (Voa (en:=Qca) (xs:=p7) (ys:=([x31.2.1]:List Item)) Ty.s52 (fun _=>rfl) rfl rfl rfl hx34 rfl rfl (rq [8,9] 1 ?_)))))))⟩))))
    refine ra1 10 (og 14 ⟨rfl,(RA.done (by decide +kernel) ?_)⟩)
    exact T.weakR (hK2 x34 h) (wk [] [0,1,2,3,4,5,6,9,10,13] 14 rfl)
   refine T.skip ?_
   exact T.weakR (hK2 p7 h) (wk [] [0,1,2,3,4,5,6,9,10,11] 12 rfl)
  refine T.seq (T.region (go 3 12 (RS.nil (T.ci h rfl (fun hb_45 h=>?_) (fun hb_45 h=>?_)))))
  ·refine T.seq ?_
   obtain ⟨x21,hx21,h⟩:=bind_some h
   refine T.drawn mixed (k:=15) rfl (rq [0,1,2,3,5,7] 9 (rL [4,11,12,13,14] 4 rfl (rL [6,9,10,11,12,13,14] 6 rfl (ra1 8 (og 12 ⟨rfl,(rq [9] 5 (ra1 10 (oO rfl (Q9a (rows:=List.map Qta [(⟨p2.Node,p2.Lane⟩:Choice)]) (vs:=[.agg (Vfa p2)]) Ty.s51 Ty.z94 rfl rfl rfl rfl rfl rfl (ra1 11 ?_)))))⟩)))))
   refine oO rfl (Voa (en:=Qta) (xs:=p6) (ys:=([(⟨p2.Node,p2.Lane⟩:Choice)]:List Choice)) Ty.s51 (fun _=>rfl) rfl rfl rfl hx21 rfl rfl (rq [12,13] 1 (ra1 14 (og 14 ⟨rfl,(RA.done (by decide +kernel) (T.region (go 4 14 (sQ (Q0b (en:=Qta) Ty.s51 rfl rfl (go 2 14 (RS.nil ?_)))))))⟩))))
   exact T.weakR (hK3 (((x21).length:Int),x21) h) (wk [] [0,1,2,3,4,5,6,7,8,9,13,11] 14 rfl)
  refine T.skip ?_
  exact T.su (hK3 (x4.1.Dep,p6) h)
 refine T.seq (T.region (go 3 12 (RS.nil (T.ci h rfl (fun hb_46 h=>?_) (fun hb_46 h=>?_)))))
 ·obtain ⟨x5,hx5,h⟩:=bind_some h
  obtain ⟨x6,hx6,h⟩:=bind_some h
  obtain ⟨x7,hx7,h⟩:=bind_some h
  obtain ⟨x8,hx8,h⟩:=bind_some h
  refine T.drawn mixed (k:=11) rfl (rq [0,1,2,4] 7 (rL [3,6,7,8,9,10] 3 rfl (ra1 5 (og 12 ⟨rfl,(r0 6 rfl (Q6a (en:=encI) Ty.s49 rfl rfl rfl hx5 (ra1 7 (oO rfl (Jga (en:=encI) (a:=x6) rfl rfl hx6 (Qra Ty.k3 (c:=iI x6) rfl (rq [8] 2 (r0 9 rfl (Q6a (en:=encI) Ty.s49 rfl rfl rfl hx7 ?_)))))))))⟩))))
  refine ra1 10 (oO rfl (Yda (en:=encI) (a:=x8) (a':=IntKind.i64.wrap (x6+1)) Ty.c3 Ty.i3 rfl (vs:=[iI (IntKind.i64.wrap (x6+1))]) rfl rfl rfl hx8 rfl rfl rfl (RA.done (by decide +kernel) ?_)))
  exact T.weakR (hK4 ((List.set p3 x7 (IntKind.i64.wrap (x6+1))),p4) h) (wk [] [0,1,2,3,4,5,8,9,10,11,7,6] 12 rfl)
 obtain ⟨x9,hx9,h⟩:=bind_some h
 obtain ⟨x10,hx10,h⟩:=bind_some h
 obtain ⟨x11,hx11,h⟩:=bind_some h
 obtain ⟨x12,hx12,h⟩:=bind_some h
 obtain ⟨x13,hx13,h⟩:=bind_some h
 obtain ⟨x14,hx14,h⟩:=bind_some h
 obtain ⟨x15,hx15,h⟩:=bind_some h
 refine T.drawn mixed (k:=29) rfl ?_
 apply RA.jn 1 #[true,true,true,true,true,true,true,true,true,true,true,true,true,true,true,true,true,true,true,true,true,true,true,true,true,true,true,true,false];intro hS47
 apply RA.jn 3 #[true,true,true,true,true,true,true,true,true,false,true,true,true,true,true,true,true,true,true,true,true,true,true,true,true,true,true,false,false];intro hS48
 apply RA.jn 5 #[true,true,true,true,true,true,true,false,false,false,true,true,true,true,true,true,true,true,true,true,true,true,true,true,true,true,true,false,false];intro hS49
 apply RA.jn 5 #[true,true,true,true,true,false,true,true,false,false,true,true,true,true,true,true,true,true,true,true,true,true,true,true,true,true,true,false,false];intro hS50
 apply RA.jn 7 #[true,true,true,true,true,true,true,true,true,true,true,true,true,true,true,true,true,true,true,true,true,true,false,false,false,false,false,false,false];intro hS51
 apply RA.jn 8 #[true,true,true,true,true,true,true,true,true,false,true,true,true,true,true,true,true,true,true,true,true,true,false,false,false,false,false,false,false];intro hS52
 apply RA.jn 8 #[true,true,true,false,true,true,true,true,true,true,true,true,true,true,true,true,true,true,true,true,true,true,false,false,false,false,false,false,false];intro hS53
 apply RA.jn 8 #[true,true,true,true,true,true,true,true,true,true,true,true,true,true,true,true,true,true,true,true,true,false,false,false,false,false,false,false,false];intro hS54
 apply RA.jn 9 #[true,true,true,false,true,true,true,true,true,false,true,true,true,true,true,true,true,true,true,true,true,true,false,false,false,false,false,false,false];intro hS55
 apply RA.jn 9 #[true,true,true,true,true,true,true,true,true,false,true,true,true,true,true,true,true,true,true,true,true,false,false,false,false,false,false,false,false];intro hS56
 apply RA.jn 10 #[true,true,true,true,true,false,true,true,false,false,true,true,true,true,true,true,true,true,true,true,true,true,false,false,false,false,false,false,false];intro hS57
 apply RA.jn 10 #[true,true,true,true,true,true,true,false,false,false,true,true,true,true,true,true,true,true,true,true,true,true,false,false,false,false,false,false,false];intro hS58
 apply RA.jn 10 #[true,true,true,false,true,true,true,true,true,false,true,true,true,true,true,true,true,true,true,true,true,false,false,false,false,false,false,false,false];intro hS59
 apply RA.jn 11 #[true,true,true,true,true,false,true,false,false,false,true,true,true,true,true,true,true,true,true,true,true,true,false,false,false,false,false,false,false];intro hS60
 apply RA.jn 11 #[true,true,true,false,true,true,true,false,false,false,true,true,true,true,true,true,true,true,true,true,true,true,false,false,false,false,false,false,false];intro hS61
 apply RA.jn 11 #[true,true,true,false,true,false,true,true,false,false,true,true,true,true,true,true,true,true,true,true,true,true,false,false,false,false,false,false,false];intro hS62
 apply RA.jn 11 #[true,true,true,true,true,false,true,true,false,false,true,true,true,true,true,true,true,true,true,true,true,false,false,false,false,false,false,false,false];intro hS63
 apply RA.jn 11 #[true,true,true,true,true,true,true,false,false,false,true,true,true,true,true,true,true,true,true,true,true,false,false,false,false,false,false,false,false];intro hS64
 ·refine rq [0,1,2,4,6,10,11,12,14,16] 19 (rL [13,20,21,22,23,24,25,26,27,28] 13 rfl (rL [15,18,19,20,21,22,23,24,25,26,27,28] 15 rfl (rL [17,18,19,20,21,22,23,24,25,26,27,28] 17 rfl (r0 18 rfl (Qka Ty.s49 (fun _=>rfl) rfl rfl hx10 (rL [19,20,21,22,23,24,25,26,27,28] 19 rfl (r0 20 rfl (Q6a (en:=(encL Qca)) Ty.s48 rfl rfl rfl hx11 (ra4 3 5 7 21 ?_ ?_ ?_ ?_)))))))))
  ·refine og 12 ⟨rfl,(ra3 5 7 21 ?_ ?_ ?_)⟩
   ·refine og 12 ⟨rfl,?_⟩
    exact raE hS64
   ·refine og 12 ⟨rfl,?_⟩
    exact raE hS63
   ·refine oO rfl (Jga (en:=(encL Qca)) (a:=x12) rfl rfl hx12 (Qra Ty.k52 (c:=sL Qca x12) rfl ?_))
    exact raE hS60
  ·refine og 12 ⟨rfl,(ra3 3 7 21 ?_ ?_ ?_)⟩
   ·refine og 12 ⟨rfl,?_⟩
    exact raT hS64
   ·refine og 12 ⟨rfl,(r0 8 rfl (Qka Ty.s49 (fun _=>rfl) rfl rfl hx9 ?_))⟩
    exact raE hS59
   ·refine oO rfl (Jga (en:=(encL Qca)) (a:=x12) rfl rfl hx12 (Qra Ty.k52 (c:=sL Qca x12) rfl ?_))
    exact raE hS61
  ·refine og 12 ⟨rfl,(ra3 3 5 21 ?_ ?_ ?_)⟩
   ·refine og 12 ⟨rfl,?_⟩
    exact raT hS63
   ·refine og 12 ⟨rfl,(r0 8 rfl (Qka Ty.s49 (fun _=>rfl) rfl rfl hx9 ?_))⟩
    exact raT hS59
   ·refine oO rfl (Jga (en:=(encL Qca)) (a:=x12) rfl rfl hx12 (Qra Ty.k52 (c:=sL Qca x12) rfl ?_))
    exact raE hS62
  ·refine oO rfl (Jga (en:=(encL Qca)) (a:=x12) rfl rfl hx12 (Qra Ty.k52 (c:=sL Qca x12) rfl (ra4 3 5 7 22 ?_ ?_ ?_ ?_)))
   ·refine og 12 ⟨rfl,?_⟩
    exact raT hS60
   ·refine og 12 ⟨rfl,?_⟩
    exact raT hS61
   ·refine og 12 ⟨rfl,?_⟩
    exact raT hS62
   ·refine oO rfl (cO 12 (Qib x12 x13 hx13) ⟨rfl,(rq [23,24,25,26] 7 (rL [3,27,28] 3 rfl (rL [5,8,9,27,28] 5 rfl ?_)))⟩)
    exact raE hS49
 ·refine ra2 7 21 ?_ ?_
  ·refine og 12 ⟨rfl,(r0 8 rfl (Qka Ty.s49 (fun _=>rfl) rfl rfl hx9 ?_))⟩
   exact raE hS56
  ·refine oO rfl (Jga (en:=(encL Qca)) (a:=x12) rfl rfl hx12 (Qra Ty.k52 (c:=sL Qca x12) rfl ?_))
   exact raE hS58
 ·refine ra2 5 21 ?_ ?_
  ·refine og 12 ⟨rfl,(r0 8 rfl (Qka Ty.s49 (fun _=>rfl) rfl rfl hx9 ?_))⟩
   exact raT hS56
  ·refine oO rfl (Jga (en:=(encL Qca)) (a:=x12) rfl rfl hx12 (Qra Ty.k52 (c:=sL Qca x12) rfl ?_))
   exact raE hS57
 ·refine ra3 3 5 22 ?_ ?_ ?_
  ·refine og 12 ⟨rfl,?_⟩
   exact raT hS57
  ·refine og 12 ⟨rfl,(r0 8 rfl (Qka Ty.s49 (fun _=>rfl) rfl rfl hx9 ?_))⟩
   exact raE hS55
  ·refine oO rfl (cO 12 (Qib x12 x13 hx13) ⟨rfl,(rq [23,24,25,26] 6 (rL [3,27,28] 3 rfl ?_))⟩)
   exact raE hS50
 ·refine ra3 3 7 22 ?_ ?_ ?_
  ·refine og 12 ⟨rfl,?_⟩
   exact raT hS58
  ·refine og 12 ⟨rfl,(r0 8 rfl (Qka Ty.s49 (fun _=>rfl) rfl rfl hx9 ?_))⟩
   exact raT hS55
  ·refine oO rfl (cO 12 (Qib x12 x13 hx13) ⟨rfl,(rq [23,24,25,26] 6 (rL [3,27,28] 3 rfl ?_))⟩)
   exact raT hS49
 ·refine ra3 5 7 22 ?_ ?_ ?_
  ·refine og 12 ⟨rfl,?_⟩
   exact raT hS58
  ·refine og 12 ⟨rfl,?_⟩
   exact raT hS57
  ·refine oO rfl (cO 12 (Qib x12 x13 hx13) ⟨rfl,(rq [23,24,25,26] 6 (rL [5,8,9,27,28] 5 rfl ?_))⟩)
   exact raT hS49
 ·refine ra3 3 9 21 ?_ ?_ ?_
  ·refine og 12 ⟨rfl,?_⟩
   exact raT hS56
  ·refine og 12 ⟨rfl,(ra2 3 21 ?_ ?_)⟩
   ·refine og 12 ⟨rfl,?_⟩
    exact raE hS54
   ·refine oO rfl (Jga (en:=(encL Qca)) (a:=x12) rfl rfl hx12 (Qra Ty.k52 (c:=sL Qca x12) rfl ?_))
    exact raE hS53
  ·refine oO rfl (Jga (en:=(encL Qca)) (a:=x12) rfl rfl hx12 (Qra Ty.k52 (c:=sL Qca x12) rfl ?_))
   exact raT hS55
 ·refine ra2 7 22 ?_ ?_
  ·refine og 12 ⟨rfl,(r0 8 rfl (Qka Ty.s49 (fun _=>rfl) rfl rfl hx9 ?_))⟩
   exact raE hS52
  ·refine oO rfl (cO 12 (Qib x12 x13 hx13) ⟨rfl,(rq [23,24,25,26] 5 ?_)⟩)
   exact raT hS49
 ·refine ra2 5 22 ?_ ?_
  ·refine og 12 ⟨rfl,(r0 8 rfl (Qka Ty.s49 (fun _=>rfl) rfl rfl hx9 ?_))⟩
   exact raT hS52
  ·refine oO rfl (cO 12 (Qib x12 x13 hx13) ⟨rfl,(rq [23,24,25,26] 5 ?_)⟩)
   exact raT hS50
 ·refine ra2 9 21 ?_ ?_
  ·refine og 12 ⟨rfl,?_⟩
   exact raT hS54
  ·refine oO rfl (Jga (en:=(encL Qca)) (a:=x12) rfl rfl hx12 (Qra Ty.k52 (c:=sL Qca x12) rfl ?_))
   exact raT hS52
 ·refine ra3 3 9 22 ?_ ?_ ?_
  ·refine og 12 ⟨rfl,?_⟩
   exact raT hS52
  ·refine og 12 ⟨rfl,?_⟩
   exact raT hS53
  ·refine oO rfl (cO 12 (Qib x12 x13 hx13) ⟨rfl,(rq [23,24,25,26] 4 (rL [3,27,28] 3 rfl ?_))⟩)
   exact raE hS48
 ·refine ra1 21 (oO rfl (Jga (en:=(encL Qca)) (a:=x12) rfl rfl hx12 (Qra Ty.k52 (c:=sL Qca x12) rfl ?_)))
  exact raE hS51
 ·refine ra2 3 22 ?_ ?_
  ·refine og 12 ⟨rfl,?_⟩
   exact raT hS51
  ·refine oO rfl (cO 12 (Qib x12 x13 hx13) ⟨rfl,(rq [23,24,25,26] 3 (ra1 3 (og 13 ⟨rfl,(r0 27 rfl (Q6a (en:=(encL Qca)) Ty.s48 rfl rfl rfl hx14 ?_))⟩)))⟩)
   exact raE hS47
 ·refine ra2 9 22 ?_ ?_
  ·refine og 12 ⟨rfl,?_⟩
   exact raT hS51
  ·refine oO rfl (cO 12 (Qib x12 x13 hx13) ⟨rfl,(rq [23,24,25,26] 3 ?_)⟩)
   exact raT hS48
 ·refine ra1 22 (oO rfl (cO 12 (Qib x12 x13 hx13) ⟨rfl,(rq [23,24,25,26] 2 (r0 27 rfl (Q6a (en:=(encL Qca)) Ty.s48 rfl rfl rfl hx14 ?_)))⟩))
  exact raT hS47
 ·refine ra1 5 (og 13 ⟨rfl,(r0 8 rfl (Qka Ty.s49 (fun _=>rfl) rfl rfl hx9 ?_))⟩)
  exact raT hS48
 ·refine ra1 7 (og 13 ⟨rfl,(r0 8 rfl (Qka Ty.s49 (fun _=>rfl) rfl rfl hx9 ?_))⟩)
  exact raT hS48
 ·refine ra1 9 (og 13 ⟨rfl,(r0 27 rfl (Q6a (en:=(encL Qca)) Ty.s48 rfl rfl rfl hx14 ?_))⟩)
  exact raT hS47
 refine ra1 28 (RO.fC 12 (oO rfl (Yda (en:=(encL Qca)) (a:=x15) (a':=x13.2.1) Ty.c52 Ty.i52 rfl (vs:=[sL Qca x13.2.1]) rfl rfl rfl hx15 rfl rfl rfl (RA.done (by decide +kernel) ?_))))
 exact T.weakR (hK4 (p3,(List.set p4 x14 x13.2.1)) h) (wk [] [0,1,2,3,4,5,8,9,10,11,7,6] 13 rfl)
theorem Qfe (p0:Net) (p1:List (List Item)) (p2:List Int) (r:State × Int) (h:Jxc p0 p1 p2=some r):Fn Tryz.prog 26 [.agg (Qxa p0),sL (encL Qca) p1,sL encI p2] (.tup [.agg (Q2a r.1),iI r.2]):=by
 unfold Jxc at h
 refine fnT 0 Tryz.func26 Tryz.ntmps26 ?_
 refine T.seq (T.region (go 3 0 (RS.nil (T.seq ?_))))
 obtain ⟨x2,hx2,h⟩:=bind_some h
 refine T.region (go 2 2 (sO (Qza (aw2:=[.box (Qxa p0),.box [.nils,.nils,.nils,.nils,.nils],aR 3 1 encI x2.1.At,aR 52 1 (encL Qca) x2.1.Rings,aR 90 3 Qla x2.1.Memory,aR 94 2 Qta x2.1.Choices,aR 115 3 Qca x2.1.Out]) (v':=.tup [.agg [.ref 2,.ref 3,.ref 4,.ref 5,.ref 6],iI x2.2]) (n0:=2) (n1:=5) [] rfl rfl (FnX.of_fnO (Yyd p0 p1 x2 hx2)) (Qfa) ⟨Qnd ⟨rn_s rfl,Qja rfl,Qja rfl,trivial⟩,rn_s rfl,trivial⟩ (Jkb ⟨Q0d ⟨Zla (by decide),Zla (by decide),Zla (by decide),Zla (by decide),Zla (by decide),trivial⟩,Qea (Qba _ _),trivial⟩) ⟨.inr ⟨rfl,rfl⟩,.inr ⟨rfl,rfl⟩,.inl ⟨0,_,by decide,rfl,Jva J7b⟩,.inl ⟨1,_,by decide,rfl,Jva (Zyb Jia)⟩,.inl ⟨2,_,by decide,rfl,Jva Zga⟩,.inl ⟨3,_,by decide,rfl,Jva Zha⟩,.inl ⟨4,_,by decide,rfl,Jva Jia⟩,trivial⟩ (go 6 7 (RS.nil (T.seq (T.seq (T.region (go 2 8 (RS.nil ?_))))))))))
 refine T.ci h rfl (fun hb_1 h=>?_) (fun hb_1 h=>?_)
 ·refine T.seq (T.region (go 4 8 (RS.nil ?_)))
  cases h
  exact tD
 refine T.skip (T.seq (T.seq (T.region (go 1 8 (sQ (Qia Ty.s49 rfl (go 1 8 (RS.nil (T.ci h rfl (fun hb_2 h=>?_) (fun hb_2 h=>?_))))))))))
 ·refine T.seq (T.region (go 3 8 (RS.nil ?_)))
  cases h
  exact tD
 refine T.skip (T.seq (T.seq (T.region (go 1 8 (sQ (Qia Ty.s49 rfl (go 1 8 (RS.nil (T.block (T.iter (fun ss_7:Int × (List Int) × (List (List Item)) × (List Memory) × (List Choice) × (List Item)=>mkA 58 [(1,sL (encL Qca) p1),(3,.ptr 0 0),(6,.ptr 1 0),(8,.ptr 2 0),(27,sL encI p2),(28,iI ((p2).length:Int)),(29,iI ss_7.1)]) (fun ss_7=>[.box (Qxa p0),.box [.nils,.nils,.nils,.nils,.nils],.box [.ref 3,.ref 4,.ref 5,.ref 6,.ref 7],aR 3 1 encI ss_7.2.1,aR 52 1 (encL Qca) ss_7.2.2.1,aR 90 3 Qla ss_7.2.2.2.1,aR 94 2 Qta ss_7.2.2.2.2.1,aR 115 3 Qca ss_7.2.2.2.2.2]) h (wk [] [0,1,7,2,3,4,5,6] 8 rfl) (fun ss_7 v_8 h hv_8=>?_)))))))))))
 obtain ⟨s3,s4,s5,s6,s7,s8⟩:=ss_7
 replace h:Ywa p0 p1 p2 s3 s4 s5 s6 s7 s8=some v_8:=h
 try dsimp only
 unfold Ywa at h
 refine T.seq (T.region (go 1 8 (RS.nil (T.seq (T.ci h rfl (fun hb_9 h=>?_) (fun hb_9 h=>?_))))))
 ·refine T.skip (T.seq (T.block (T.seq ?_)))
  obtain ⟨x10,hx10,h⟩:=bind_some h
  refine T.region (sQ (Qka Ty.s49 (fun _=>rfl) rfl rfl hx10 (go 2 8 (RS.nil (T.seq ?_)))))
  obtain ⟨x12,hx12,h⟩:=bind_some h
  refine T.region (go 3 8 (sO (cO 8 (Ytd p0 p1 (⟨s4,s5,s6,s7,s8⟩:State) x12 hx12) ⟨rfl,(go 1 9 (RS.nil (T.seq (T.seq (T.region (go 1 9 (sQ (Q0b (en:=Vfa) Ty.s131 rfl rfl ?_))))))))⟩)))
  refine go 1 9 (RS.nil (T.ci h rfl (fun hb_10 h=>?_) (fun hb_10 h=>?_)))
  ·refine T.exit ?_
   obtain ⟨w_11,h,hw_11⟩:=Qpa h
   replace h:=h.trans (congrArg some (hv_8 _ hw_11))
   refine T.seq (T.region (go 3 9 (RS.nil ?_)))
   cases h
   exact tD
  refine T.skip ?_
  obtain ⟨x13,hx13,h⟩:=bind_some h
  obtain ⟨x14,hx14,h⟩:=bind_some h
  obtain ⟨x15,hx15,h⟩:=bind_some h
  obtain ⟨x16,hx16,h⟩:=bind_some h
  obtain ⟨x17,hx17,h⟩:=bind_some h
  refine T.drawn mixed (k:=16) rfl (rq [1,2,3,4] 12 (r0 5 rfl (Q0b (en:=Vfa) Ty.s131 rfl rfl (r0 6 rfl (v_rem rfl rfl hx13 (rq [7] 9 (r0 8 rfl (Q0b (en:=Vfa) Ty.s131 rfl rfl (rq [9,10] 6 (r0 11 rfl (Q0b (en:=Vfa) Ty.s131 rfl rfl (r0 12 rfl (v_rem rfl rfl hx14 (r0 13 rfl (Q6a (en:=Vfa) Ty.s131 rfl rfl rfl hx15 ?_)))))))))))))))
  refine rL [0,15] 0 rfl (ra1 14 (oO rfl (Jga (en:=Vfa) (a:=x16) rfl rfl hx16 (Zic Ty.k135 Ty.c135 rfl (cs:=(Vfa x16)) rfl (ra1 15 (oO rfl (Qza (aw2:=[.box (Qxa p0),.box [.nils,.nils,.nils,.nils,.nils],.box [.ref 3,.ref 4,.ref 5,.ref 9,.ref 10],aR 3 1 encI x17.1,aR 52 1 (encL Qca) x17.2.1,aR 90 3 Qla x17.2.2.1,.dead,.dead,aR 135 2 Vfa x12,aR 94 2 Qta x17.2.2.2.1,aR 115 3 Qca x17.2.2.2.2]) (v':=.tup []) (n0:=9) (n1:=8) [2,3,4,5,6,7] rfl rfl (Qmd p0 p1 x16 s4 s5 s6 s7 s8 x17 hx17) (Qoa rfl ⟨Jha rfl,Jha rfl,Jha rfl,Jha rfl,Jha rfl,trivial⟩ (Zia rfl J7b rfl (Zia rfl (Zyb Jia) rfl (Zia rfl Zga rfl (Zia rfl Zha rfl (Zia rfl Jia rfl Qfa)))))) ⟨Qnd ⟨rn_s rfl,Qja rfl,Qja rfl,trivial⟩,rn_s rfl,Qda rfl,Qnd ⟨Qja rfl,Qja rfl,trivial⟩,trivial⟩ (Jkb trivial) ⟨.inr ⟨rfl,rfl⟩,.inr ⟨rfl,rfl⟩,.inl ⟨0,_,by decide,rfl,Qya ⟨Zla (by decide),Zla (by decide),Zla (by decide),Zla (by decide),Zla (by decide),trivial⟩⟩,.inl ⟨1,_,by decide,rfl,Jva J7b⟩,.inl ⟨2,_,by decide,rfl,Jva (Zyb Jia)⟩,.inl ⟨3,_,by decide,rfl,Jva Zga⟩,.inl ⟨4,_,by decide,rfl,trivial⟩,.inl ⟨5,_,by decide,rfl,trivial⟩,.inr ⟨rfl,rfl⟩,.inl ⟨6,_,by decide,rfl,Jva Zha⟩,.inl ⟨7,_,by decide,rfl,Jva Jia⟩,trivial⟩ (RA.done (by decide +kernel) (T.region (go 2 11 (RS.nil ?_)))))))))))
  exact ⟨(IntKind.i64.wrap (s3+1),x17.1,x17.2.1,x17.2.2.1,x17.2.2.2.1,x17.2.2.2.2),(Option.some.inj h).symm,wk [] [0,1,2,3,4,5,9,10] 11 rfl⟩
 refine T.exit ?_
 obtain ⟨w_12,h,hw_12⟩:=Qpa h
 replace h:=h.trans (congrArg some (hv_8 _ hw_12))
 refine T.seq (T.region (go 3 8 (RS.nil ?_)))
 cases h
 exact tD
theorem Jmc (p0:Item) (p1:List Int) (p2:List (List Item)) (p3:List Memory) (p4:List Choice) (p5:List Item) (r:Bool) (h:Qkb p0 p1 p2 p3 p4 p5=some r):FnX Tryz.prog 71 [.agg (Qca p0),.ptr 0 0] [.box [sL encI p1,sL (encL Qca) p2,sL Qla p3,sL Qta p4,sL Qca p5]] (.bool r) [.box [sL encI p1,sL (encL Qca) p2,sL Qla p3,sL Qta p4,sL Qca p5]]:=by
 unfold Qkb at h
 refine fnT 1 Tryz.func71 Tryz.ntmps71 ?_
 refine T.seq (T.region (go 2 1 (RS.nil (T.join (Z:=Unit) (fun _=>mkA 15 [(3,.bool ((decide (p0.Dep<0)) || decide (p0.Dep > ((p4).length:Int))))]) (fun _=>[.box [sL encI p1,sL (encL Qca) p2,sL Qla p3,sL Qta p4,sL Qca p5]]) (fun _=>True) (fun _ _=>?_) (fun hK=>?_)))))
 ·cases h
  exact tN [0]
 refine T.region (go 4 2 ?_)
 rcases Qga (decide (p0.Dep<0)) with hb_1 | hb_1
 ·refine sN hb_1 (sN hb_1 (sN hb_1 (sN hb_1 (sN hb_1 (sN hb_1 (sQ (Qna (v:=.bool true) rfl hb_1 rfl (go 1 2 (RS.nil ?_)))))))))
  exact T.weakR (hK () trivial) (Weak.mkN [] [0] (by decide) (by decide) rfl ⟨Jca (by simp only [hb_1,bz,if_true,if_false,Bool.false_eq_true]),trivial⟩ (rw_bs [sL encI p1,sL (encL Qca) p2,sL Qla p3,sL Qta p4,sL Qca p5] rfl (Qfa)))
 refine yg 2 hb_1 (yg 2 hb_1 (yg 2 hb_1 (yg 2 hb_1 (yQ hb_1 (Qia Ty.s51 rfl (yg 2 hb_1 (sQ (Qha (v:=.bool (decide (p0.Dep > ((p4).length:Int)))) rfl hb_1 rfl (go 1 2 (RS.nil ?_))))))))))
 exact T.weakR (hK () trivial) (Weak.mkN [] [0] (by decide) (by decide) rfl ⟨Jca (by simp only [hb_1,bz,if_true,if_false,Bool.false_eq_true]),trivial⟩ (rw_bs [sL encI p1,sL (encL Qca) p2,sL Qla p3,sL Qta p4,sL Qca p5] rfl (Qfa)))
theorem V2b (p0:List Item) (p1:List Int) (p2:List (List Item)) (p3:List Memory) (p4:List Choice) (p5:List Item) (r:Int) (h:Vsa p0 p1 p2 p3 p4 p5=some r):FnX Tryz.prog 92 [sL Qca p0,.func 71 [.ptr 0 0]] [.box [sL encI p1,sL (encL Qca) p2,sL Qla p3,sL Qta p4,sL Qca p5]] (iI r) [.box [sL encI p1,sL (encL Qca) p2,sL Qla p3,sL Qta p4,sL Qca p5]]:=by
 unfold Vsa at h
 refine fnT 1 Tryz.func92 Tryz.ntmps92 ?_
 refine T.seq (T.region (go 1 1 (RS.nil (T.seq (T.seq (T.region (go 1 1 (sQ (Qia Ty.s52 rfl (go 1 1 ?_))))))))))
 refine RS.nil (T.block (T.iter (fun ss_5:Int=>mkA 19 [(0,sL Qca p0),(1,.func 71 [.ptr 0 0]),(7,iI ((p0).length:Int)),(8,iI ss_5)]) (fun ss_5=>[.box [sL encI p1,sL (encL Qca) p2,sL Qla p3,sL Qta p4,sL Qca p5]]) h (wk [] [0] 1 rfl) (fun ss_5 v_6 h hv_6=>?_)))
 revert hv_6 h;revert ss_5;intro s1 h hv_6
 replace h:Zma p0 p1 p2 p3 p4 p5 s1=some v_6:=h
 try dsimp only
 unfold Zma at h
 refine T.seq (T.region (go 1 1 (RS.nil (T.seq (T.ci h rfl (fun hb_7 h=>?_) (fun hb_7 h=>?_))))))
 ·refine T.skip (T.seq (T.block (T.seq (T.region (go 2 1 (RS.nil (T.seq ?_)))))))
  obtain ⟨x4,hx4,h⟩:=bind_some h
  obtain ⟨x5,hx5,h⟩:=bind_some h
  refine T.region (go 3 1 (sQ (Qka Ty.s52 (fun _=>rfl) rfl rfl hx4 (go 1 1 (sO (Qza (aw2:=[.box [sL encI p1,sL (encL Qca) p2,sL Qla p3,sL Qta p4,sL Qca p5]]) (v':=.bool x5) (n0:=1) (n1:=1) [0] rfl rfl (Jmc x4 p1 p2 p3 p4 p5 x5 hx5) (Qoa rfl ⟨rn_s rfl,rn_s rfl,rn_s rfl,rn_s rfl,rn_s rfl,trivial⟩ Qfa) ⟨Qnd ⟨Qja rfl,Qja rfl,Qja rfl,trivial⟩,Qda rfl,trivial⟩ (Qea (V4a _)) ⟨.inl ⟨0,_,by decide,rfl,Qya ⟨Qea (Q3a J7b _),Qea (Q3a (Zyb Jia) _),Qea (Q3a Zga _),Qea (Q3a Zha _),Qea (Q3a Jia _),trivial⟩⟩,trivial⟩ (RS.nil (T.ci h rfl (fun hb_8 h=>?_) (fun hb_8 h=>?_)))))))))
  ·refine T.seq (T.region (go 2 1 (RS.nil ?_)))
   obtain ⟨w_9,h,hw_9⟩:=Qpa h
   replace h:=h.trans (congrArg some (hv_6 _ hw_9))
   cases h
   exact tN [0]
  refine T.skip (T.region (go 2 1 (RS.nil ?_)))
  exact ⟨IntKind.i64.wrap (s1+1),(Option.some.inj h).symm,wk [] [0] 1 rfl⟩
 refine T.exit ?_
 obtain ⟨w_10,h,hw_10⟩:=Qpa h
 replace h:=h.trans (congrArg some (hv_6 _ hw_10))
 refine T.seq (T.region (go 1 1 (RS.nil ?_)))
 cases h
 exact tN [0]
theorem Vbb (p0:List Item) (p1:List Int) (p2:List (List Item)) (p3:List Memory) (p4:List Choice) (p5:List Item) (r:Bool) (h:Vba p0 p1 p2 p3 p4 p5=some r):FnX Tryz.prog 70 [sL Qca p0,.func 71 [.ptr 0 0]] [.box [sL encI p1,sL (encL Qca) p2,sL Qla p3,sL Qta p4,sL Qca p5]] (.bool r) [.box [sL encI p1,sL (encL Qca) p2,sL Qla p3,sL Qta p4,sL Qca p5]]:=by
 unfold Vba at h
 refine fnT 1 Tryz.func70 Tryz.ntmps70 ?_
 refine T.seq (T.region (go 1 1 (RS.nil (T.seq ?_))))
 obtain ⟨x2,hx2,h⟩:=bind_some h
 refine T.region (go 2 1 (sO (Qza (aw2:=[.box [sL encI p1,sL (encL Qca) p2,sL Qla p3,sL Qta p4,sL Qca p5]]) (v':=iI x2) (n0:=1) (n1:=1) [0] rfl rfl (V2b p0 p1 p2 p3 p4 p5 x2 hx2) (Qoa rfl ⟨rn_s rfl,rn_s rfl,rn_s rfl,rn_s rfl,rn_s rfl,trivial⟩ Qfa) ⟨rn_s rfl,Vka ⟨Qda rfl,trivial⟩,trivial⟩ (Qea (Qba _ _)) ⟨.inl ⟨0,_,by decide,rfl,Qya ⟨Qea (Q3a J7b _),Qea (Q3a (Zyb Jia) _),Qea (Q3a Zga _),Qea (Q3a Zha _),Qea (Q3a Jia _),trivial⟩⟩,trivial⟩ (go 2 1 (RS.nil ?_)))))
 cases h
 exact tN [0]
theorem V5b (p0:List Item) (p1:List Int) (p2:List (List Item)) (p3:List Memory) (p4:List Choice) (p5:List Item) (r:Bool) (h:Yma p0 p1 p2 p3 p4 p5=some r):FnX Tryz.prog 69 [sL Qca p0,.ptr 0 0] [.box [sL encI p1,sL (encL Qca) p2,sL Qla p3,sL Qta p4,sL Qca p5]] (.bool r) [.box [sL encI p1,sL (encL Qca) p2,sL Qla p3,sL Qta p4,sL Qca p5]]:=by
 unfold Yma at h
 refine fnT 1 Tryz.func69 Tryz.ntmps69 ?_
 refine T.seq (T.region (go 1 1 (RS.nil (T.seq ?_))))
 obtain ⟨x2,hx2,h⟩:=bind_some h
 refine T.region (go 2 1 (sO (Qza (aw2:=[.box [sL encI p1,sL (encL Qca) p2,sL Qla p3,sL Qta p4,sL Qca p5]]) (v':=.bool x2) (n0:=1) (n1:=1) [0] rfl rfl (Vbb p0 p1 p2 p3 p4 p5 x2 hx2) (Qoa rfl ⟨rn_s rfl,rn_s rfl,rn_s rfl,rn_s rfl,rn_s rfl,trivial⟩ Qfa) ⟨rn_s rfl,Vka ⟨Qda rfl,trivial⟩,trivial⟩ (Qea (V4a _)) ⟨.inl ⟨0,_,by decide,rfl,Qya ⟨Qea (Q3a J7b _),Qea (Q3a (Zyb Jia) _),Qea (Q3a Zga _),Qea (Q3a Zha _),Qea (Q3a Jia _),trivial⟩⟩,trivial⟩ (go 2 1 (RS.nil ?_)))))
 cases h
 exact tN [0]
theorem Zed (p0:Net) (p1:Choice) (r:Bool) (h:Ynb p0 p1=some r):Fn Tryz.prog 73 [.agg (Qxa p0),.agg (Qta p1)] (.bool r):=by
 unfold Ynb at h
 refine fnT 0 Tryz.func73 Tryz.ntmps73 ?_
 refine T.seq (T.region (go 3 0 (RS.nil ?_)))
 obtain ⟨zt_5,hz,h⟩:=bind_some h
 revert hz h;revert zt_5;intro c3 hz h
 refine T.join (Z:=Unit) (fun _=>mkA 44 [(4,.bool c3)]) (fun _=>[]) (fun _=>True) (fun _ _=>?_) (fun hK=>?_)
 ·cases h
  exact tD
 rcases Qga (decide (p1.Node ≥ 0)) with hb_1 | hb_1
 ·replace hz:=ite_T hz hb_1
  rcases Qga (decide (p1.Node<((p0.Nodes).length:Int))) with hb_2 | hb_2
  ·replace hz:=ite_T hz hb_2
   obtain ⟨x1,hx1,hz⟩:=bind_some hz
   rcases Qga (x1.Kind==6) with hb_3 | hb_3
   ·replace hz:=ite_T hz hb_3
    rcases Qga (decide (p1.Lane ≥ 0)) with hb_4 | hb_4
    ·replace hz:=ite_T hz hb_4
     obtain ⟨x2,hx2,hz⟩:=bind_some hz
     refine T.drawn mixed (k:=40) rfl ?_
     apply RA.jn 0 #[true,true,true,true,true,true,true,true,true,true,true,true,true,true,true,true,true,true,true,true,true,true,true,true,true,true,true,true,true,true,true,true,true,true,true,true,true,true,true,true];intro hS6
     apply RA.jn 5 #[true,true,true,true,true,true,true,true,true,true,true,true,true,true,true,true,true,true,true,true,true,true,true,true,true,true,true,true,true,true,true,true,true,true,true,false,false,false,false,false];intro hS7
     apply RA.jn 6 #[true,true,true,true,true,true,true,true,true,true,true,true,true,true,true,true,true,true,true,true,true,true,true,true,true,true,true,true,false,true,true,true,true,true,true,false,false,false,false,false];intro hS8
     apply RA.jn 8 #[true,true,true,true,true,true,true,true,true,true,true,true,true,true,true,true,true,true,true,true,true,true,true,true,true,true,true,true,true,true,false,true,true,false,false,false,false,false,false,false];intro hS9
     apply RA.jn 8 #[true,true,true,true,true,true,true,true,true,true,true,true,true,true,true,true,true,true,true,true,true,true,true,true,true,true,true,true,true,true,true,true,false,false,false,false,false,false,false,false];intro hS10
     apply RA.jn 22 #[true,true,true,true,true,true,true,true,true,true,true,true,true,true,true,true,true,true,false,false,false,false,false,false,false,false,false,false,false,false,false,false,false,false,false,false,false,false,false,false];intro hS11
     apply RA.jn 26 #[true,true,true,true,true,true,true,true,true,true,true,true,true,false,true,false,false,false,false,false,false,false,false,false,false,false,false,false,false,false,false,false,false,false,false,false,false,false,false,false];intro hS12
     ·refine rq [0] 39 (ra1 1 (og 2 ⟨rfl,(rq [2,3] 36 (ry 4 hb_1 rfl (ry 6 hb_1 rfl (ra2 5 7 ?_ ?_))))⟩))
      ·refine oy 2 hb_1 rfl (ra1 7 (oy 2 hb_1 rfl (r1 8 rfl hb_1 (Qia Ty.s45 rfl (ry 9 hb_1 rfl (r0 10 rfl (Qna (v:=.bool (decide (p1.Node<((p0.Nodes).length:Int)))) rfl hb_1 rfl (rq [11] 28 (ry 12 hb_2 rfl (ry 14 hb_2 rfl ?_))))))))))
       exact raE hS12
      ·refine oy 2 hb_1 rfl (r1 8 rfl hb_1 (Qia Ty.s45 rfl (ra1 5 (oy 2 hb_1 rfl (ry 9 hb_1 rfl (r0 10 rfl (Qna (v:=.bool (decide (p1.Node<((p0.Nodes).length:Int)))) rfl hb_1 rfl (rq [11] 28 (ry 12 hb_2 rfl (ry 14 hb_2 rfl ?_))))))))))
       exact raT hS12
     ·refine ra2 13 15 ?_ ?_
      ·refine oy 2 hb_2 rfl (ra1 15 (oy 2 hb_2 rfl (r1 16 rfl hb_2 (Qka Ty.s45 (fun _=>rfl) rfl rfl hx1 (ry 17 hb_2 rfl ?_)))))
       exact raE hS11
      ·refine oy 2 hb_2 rfl (ra1 13 (oy 2 hb_2 rfl (r1 16 rfl hb_2 (Qka Ty.s45 (fun _=>rfl) rfl rfl hx1 (ry 17 hb_2 rfl ?_)))))
       exact raT hS11
     ·refine ra1 18 (oy 2 hb_2 rfl (ry 19 hb_2 rfl (r0 20 rfl (Qna (v:=.bool (x1.Kind==6)) rfl hb_2 rfl (rq [21] 18 (ry 22 hb_3 rfl (ra1 23 (oy 2 hb_3 rfl (ry 24 hb_3 rfl (r0 25 rfl (Qna (v:=.bool (decide (p1.Lane ≥ 0))) rfl hb_3 rfl ?_)))))))))))
      refine rq [26] 13 (ry 27 hb_4 rfl (ry 29 hb_4 rfl (ry 31 hb_4 rfl (ra3 28 30 32 ?_ ?_ ?_))))
      ·refine oy 2 hb_4 rfl (ra2 30 32 ?_ ?_)
       ·refine oy 2 hb_4 rfl ?_
        exact raE hS10
       ·refine oy 2 hb_4 rfl ?_
        exact raE hS9
      ·refine oy 2 hb_4 rfl (ra2 28 32 ?_ ?_)
       ·refine oy 2 hb_4 rfl ?_
        exact raT hS10
       ·refine oy 2 hb_4 rfl (r1 33 rfl hb_4 (Qka Ty.s45 (fun _=>rfl) rfl rfl hx2 (ry 34 hb_4 rfl ?_)))
        exact raE hS8
      ·refine oy 2 hb_4 rfl (ra2 28 30 ?_ ?_)
       ·refine oy 2 hb_4 rfl ?_
        exact raT hS9
       ·refine oy 2 hb_4 rfl (r1 33 rfl hb_4 (Qka Ty.s45 (fun _=>rfl) rfl rfl hx2 (ry 34 hb_4 rfl ?_)))
        exact raT hS8
     ·refine ra1 32 (oy 2 hb_4 rfl (r1 33 rfl hb_4 (Qka Ty.s45 (fun _=>rfl) rfl rfl hx2 (ry 34 hb_4 rfl ?_))))
      exact raE hS7
     ·refine ra1 30 (oy 2 hb_4 rfl (r1 33 rfl hb_4 (Qka Ty.s45 (fun _=>rfl) rfl rfl hx2 (ry 34 hb_4 rfl ?_))))
      exact raT hS7
     ·refine ra2 28 35 ?_ ?_
      ·refine oy 2 hb_4 rfl ?_
       exact raT hS7
      ·refine oy 2 hb_4 rfl (r1 36 rfl hb_4 (Qia Ty.s49 rfl (ra1 28 (oy 2 hb_4 rfl (ry 37 hb_4 rfl (r0 38 rfl (Qna (v:=.bool (decide (p1.Lane<((x2.In).length:Int)))) rfl hb_4 rfl (rq [39] 0 ?_))))))))
       exact raE hS6
     ·refine ra1 35 (oy 2 hb_4 rfl (r1 36 rfl hb_4 (Qia Ty.s49 rfl (ry 37 hb_4 rfl (r0 38 rfl (Qna (v:=.bool (decide (p1.Lane<((x2.In).length:Int)))) rfl hb_4 rfl (rq [39] 0 ?_)))))))
      exact raT hS6
     refine RA.done (by decide +kernel) ?_
     exact T.weakR (hK () trivial) (Weak.mkN [] [] (by decide) (Qma _) rfl ⟨Jca ((congrArg (fun p=>p) (Option.some.inj hz)).symm),trivial⟩ (Qfa))
    replace hz:=ite_F hz hb_4
    refine T.drawn mixed (k:=40) rfl ?_
    apply RA.jn 22 #[true,true,true,true,true,true,true,true,true,true,true,true,true,true,true,true,true,true,false,false,false,false,false,false,false,false,false,false,false,false,false,false,false,false,false,false,false,false,false,false];intro hS13
    apply RA.jn 26 #[true,true,true,true,true,true,true,true,true,true,true,true,true,false,true,false,false,false,false,false,false,false,false,false,false,false,false,false,false,false,false,false,false,false,false,false,false,false,false,false];intro hS14
    ·refine rq [0] 39 (ra1 1 (og 2 ⟨rfl,(rq [2,3] 36 (ry 4 hb_1 rfl (ry 6 hb_1 rfl (ra2 5 7 ?_ ?_))))⟩))
     ·refine oy 2 hb_1 rfl (ra1 7 (oy 2 hb_1 rfl (r1 8 rfl hb_1 (Qia Ty.s45 rfl (ry 9 hb_1 rfl (r0 10 rfl (Qna (v:=.bool (decide (p1.Node<((p0.Nodes).length:Int)))) rfl hb_1 rfl (rq [11] 28 (ry 12 hb_2 rfl (ry 14 hb_2 rfl ?_))))))))))
      exact raE hS14
     ·refine oy 2 hb_1 rfl (r1 8 rfl hb_1 (Qia Ty.s45 rfl (ra1 5 (oy 2 hb_1 rfl (ry 9 hb_1 rfl (r0 10 rfl (Qna (v:=.bool (decide (p1.Node<((p0.Nodes).length:Int)))) rfl hb_1 rfl (rq [11] 28 (ry 12 hb_2 rfl (ry 14 hb_2 rfl ?_))))))))))
      exact raT hS14
    ·refine ra2 13 15 ?_ ?_
     ·refine oy 2 hb_2 rfl (ra1 15 (oy 2 hb_2 rfl (r1 16 rfl hb_2 (Qka Ty.s45 (fun _=>rfl) rfl rfl hx1 (ry 17 hb_2 rfl ?_)))))
      exact raE hS13
     ·refine oy 2 hb_2 rfl (ra1 13 (oy 2 hb_2 rfl (r1 16 rfl hb_2 (Qka Ty.s45 (fun _=>rfl) rfl rfl hx1 (ry 17 hb_2 rfl ?_)))))
      exact raT hS13
    refine ra1 18 (oy 2 hb_2 rfl (ry 19 hb_2 rfl (r0 20 rfl (Qna (v:=.bool (x1.Kind==6)) rfl hb_2 rfl (rq [21] 18 (ry 22 hb_3 rfl (ra1 23 (oy 2 hb_3 rfl (ry 24 hb_3 rfl (r0 25 rfl (Qna (v:=.bool (decide (p1.Lane ≥ 0))) rfl hb_3 rfl ?_)))))))))))
    refine rq [26] 13 (r2 27 rfl hb_4 (r2 28 rfl hb_4 (r2 29 rfl hb_4 (r2 30 rfl hb_4 (r2 31 rfl hb_4 (r2 32 rfl hb_4 (r2 33 rfl hb_4 (r2 34 rfl hb_4 (r2 35 rfl hb_4 ?_)))))))))
    refine r2 36 rfl hb_4 (r2 37 rfl hb_4 (r0 38 rfl (Qha (v:=.bool false) rfl hb_4 rfl (rq [39] 0 (RA.done (by decide +kernel) ?_)))))
    exact T.weakR (hK () trivial) (Weak.mkN [] [] (by decide) (Qma _) rfl ⟨Jca ((congrArg (fun p=>p) (Option.some.inj hz)).symm),trivial⟩ (Qfa))
   replace hz:=ite_F hz hb_3
   refine T.drawn mixed (k:=40) rfl ?_
   apply RA.jn 22 #[true,true,true,true,true,true,true,true,true,true,true,true,true,true,true,true,true,true,false,false,false,false,false,false,false,false,false,false,false,false,false,false,false,false,false,false,false,false,false,false];intro hS15
   apply RA.jn 26 #[true,true,true,true,true,true,true,true,true,true,true,true,true,false,true,false,false,false,false,false,false,false,false,false,false,false,false,false,false,false,false,false,false,false,false,false,false,false,false,false];intro hS16
   ·refine rq [0] 39 (ra1 1 (og 2 ⟨rfl,(rq [2,3] 36 (ry 4 hb_1 rfl (ry 6 hb_1 rfl (ra2 5 7 ?_ ?_))))⟩))
    ·refine oy 2 hb_1 rfl (ra1 7 (oy 2 hb_1 rfl (r1 8 rfl hb_1 (Qia Ty.s45 rfl (ry 9 hb_1 rfl (r0 10 rfl (Qna (v:=.bool (decide (p1.Node<((p0.Nodes).length:Int)))) rfl hb_1 rfl (rq [11] 28 (ry 12 hb_2 rfl (ry 14 hb_2 rfl ?_))))))))))
     exact raE hS16
    ·refine oy 2 hb_1 rfl (r1 8 rfl hb_1 (Qia Ty.s45 rfl (ra1 5 (oy 2 hb_1 rfl (ry 9 hb_1 rfl (r0 10 rfl (Qna (v:=.bool (decide (p1.Node<((p0.Nodes).length:Int)))) rfl hb_1 rfl (rq [11] 28 (ry 12 hb_2 rfl (ry 14 hb_2 rfl ?_))))))))))
     exact raT hS16
   ·refine ra2 13 15 ?_ ?_
    ·refine oy 2 hb_2 rfl (ra1 15 (oy 2 hb_2 rfl (r1 16 rfl hb_2 (Qka Ty.s45 (fun _=>rfl) rfl rfl hx1 (ry 17 hb_2 rfl ?_)))))
     exact raE hS15
    ·refine oy 2 hb_2 rfl (ra1 13 (oy 2 hb_2 rfl (r1 16 rfl hb_2 (Qka Ty.s45 (fun _=>rfl) rfl rfl hx1 (ry 17 hb_2 rfl ?_)))))
     exact raT hS15
   refine ra1 18 (oy 2 hb_2 rfl (ry 19 hb_2 rfl (r0 20 rfl (Qna (v:=.bool (x1.Kind==6)) rfl hb_2 rfl (rq [21] 18 (r2 22 rfl hb_3 (r2 23 rfl hb_3 (r2 24 rfl hb_3 (r0 25 rfl (Qha (v:=.bool false) rfl hb_3 rfl (rq [26] 13 ?_)))))))))))
   refine r2 27 rfl rfl (r2 28 rfl rfl (r2 29 rfl rfl (r2 30 rfl rfl (r2 31 rfl rfl (r2 32 rfl rfl (r2 33 rfl rfl (r2 34 rfl rfl (r2 35 rfl rfl (r2 36 rfl rfl ?_)))))))))
   refine r2 37 rfl rfl (r0 38 rfl (Qha (v:=.bool false) rfl rfl rfl (rq [39] 0 (RA.done (by decide +kernel) ?_))))
   exact T.weakR (hK () trivial) (Weak.mkN [] [] (by decide) (Qma _) rfl ⟨Jca ((congrArg (fun p=>p) (Option.some.inj hz)).symm),trivial⟩ (Qfa))
  replace hz:=ite_F hz hb_2
  refine T.drawn mixed (k:=40) rfl ?_
  apply RA.jn 0 #[true,true,true,true,true,true,true,true,true,true,true,true,true,true,true,true,true,true,true,true,true,true,true,true,true,true,true,true,true,true,true,true,true,true,true,true,true,true,true,true];intro hS17
  ·refine rq [0] 39 (ra1 1 (og 2 ⟨rfl,(rq [2,3] 36 (ry 4 hb_1 rfl (ry 6 hb_1 rfl (ra2 5 7 ?_ ?_))))⟩))
   ·refine oy 2 hb_1 rfl (ra1 7 (oy 2 hb_1 rfl (r1 8 rfl hb_1 (Qia Ty.s45 rfl (ry 9 hb_1 rfl (r0 10 rfl (Qna (v:=.bool (decide (p1.Node<((p0.Nodes).length:Int)))) rfl hb_1 rfl (rq [11] 28 (r2 12 rfl hb_2 (r2 13 rfl hb_2 (r2 14 rfl hb_2 ?_)))))))))))
    refine r2 15 rfl hb_2 (r2 16 rfl hb_2 (r2 17 rfl hb_2 (r2 18 rfl hb_2 (r2 19 rfl hb_2 (r0 20 rfl (Qha (v:=.bool false) rfl hb_2 rfl (rq [21] 18 (r2 22 rfl rfl (r2 23 rfl rfl (r2 24 rfl rfl ?_))))))))))
    refine r0 25 rfl (Qha (v:=.bool false) rfl rfl rfl (rq [26] 13 (r2 27 rfl rfl (r2 28 rfl rfl (r2 29 rfl rfl (r2 30 rfl rfl (r2 31 rfl rfl (r2 32 rfl rfl (r2 33 rfl rfl (r2 34 rfl rfl ?_))))))))))
    refine r2 35 rfl rfl (r2 36 rfl rfl (r2 37 rfl rfl (r0 38 rfl (Qha (v:=.bool false) rfl rfl rfl (rq [39] 0 ?_)))))
    exact raE hS17
   ·refine oy 2 hb_1 rfl (r1 8 rfl hb_1 (Qia Ty.s45 rfl (ra1 5 (oy 2 hb_1 rfl (ry 9 hb_1 rfl (r0 10 rfl (Qna (v:=.bool (decide (p1.Node<((p0.Nodes).length:Int)))) rfl hb_1 rfl (rq [11] 28 (r2 12 rfl hb_2 (r2 13 rfl hb_2 (r2 14 rfl hb_2 ?_)))))))))))
    refine r2 15 rfl hb_2 (r2 16 rfl hb_2 (r2 17 rfl hb_2 (r2 18 rfl hb_2 (r2 19 rfl hb_2 (r0 20 rfl (Qha (v:=.bool false) rfl hb_2 rfl (rq [21] 18 (r2 22 rfl rfl (r2 23 rfl rfl (r2 24 rfl rfl ?_))))))))))
    refine r0 25 rfl (Qha (v:=.bool false) rfl rfl rfl (rq [26] 13 (r2 27 rfl rfl (r2 28 rfl rfl (r2 29 rfl rfl (r2 30 rfl rfl (r2 31 rfl rfl (r2 32 rfl rfl (r2 33 rfl rfl (r2 34 rfl rfl ?_))))))))))
    refine r2 35 rfl rfl (r2 36 rfl rfl (r2 37 rfl rfl (r0 38 rfl (Qha (v:=.bool false) rfl rfl rfl (rq [39] 0 ?_)))))
    exact raT hS17
  refine RA.done (by decide +kernel) ?_
  exact T.weakR (hK () trivial) (Weak.mkN [] [] (by decide) (Qma _) rfl ⟨Jca ((congrArg (fun p=>p) (Option.some.inj hz)).symm),trivial⟩ (Qfa))
 replace hz:=ite_F hz hb_1
 refine T.drawn mixed (k:=40) rfl (rq [0] 39 (ra1 1 (og 2 ⟨rfl,(rq [2,3] 36 (r2 4 rfl hb_1 (r2 5 rfl hb_1 (r2 6 rfl hb_1 (r2 7 rfl hb_1 (r2 8 rfl hb_1 ?_))))))⟩)))
 refine r2 9 rfl hb_1 (r0 10 rfl (Qha (v:=.bool false) rfl hb_1 rfl (rq [11] 28 (r2 12 rfl rfl (r2 13 rfl rfl (r2 14 rfl rfl (r2 15 rfl rfl (r2 16 rfl rfl (r2 17 rfl rfl (r2 18 rfl rfl ?_))))))))))
 refine r2 19 rfl rfl (r0 20 rfl (Qha (v:=.bool false) rfl rfl rfl (rq [21] 18 (r2 22 rfl rfl (r2 23 rfl rfl (r2 24 rfl rfl (r0 25 rfl (Qha (v:=.bool false) rfl rfl rfl (rq [26] 13 (r2 27 rfl rfl (r2 28 rfl rfl ?_)))))))))))
 refine r2 29 rfl rfl (r2 30 rfl rfl (r2 31 rfl rfl (r2 32 rfl rfl (r2 33 rfl rfl (r2 34 rfl rfl (r2 35 rfl rfl (r2 36 rfl rfl (r2 37 rfl rfl (r0 38 rfl (Qha (v:=.bool false) rfl rfl rfl ?_))))))))))
 refine rq [39] 0 (RA.done (by decide +kernel) ?_)
 exact T.weakR (hK () trivial) (Weak.mkN [] [] (by decide) (Qma _) rfl ⟨Jca ((congrArg (fun p=>p) (Option.some.inj hz)).symm),trivial⟩ (Qfa))
theorem Yrd (p0:Net) (p1:List (List Item)) (p2:State) (r:Int) (h:Vkb p0 p1 p2=some r):Fn Tryz.prog 36 [.agg (Qxa p0),sL (encL Qca) p1,.agg (Q2a p2)] (iI r):=by
 unfold Vkb at h
 refine fnT 0 Tryz.func36 Tryz.ntmps36 ?_
 refine T.seq (T.region (go 3 0 (RS.nil (T.seq (T.seq ?_)))))
 obtain ⟨x2,hx2,h⟩:=bind_some h
 refine T.region (go 2 2 (sO (cF (Jac p0 p1 x2 hx2) ⟨rfl,(go 1 2 (RS.nil (T.seq (T.region (go 2 2 (RS.nil (T.ci h rfl (fun hb_1 h=>?_) (fun hb_1 h=>?_))))))))⟩)))
 ·refine T.seq (T.region (go 2 2 (RS.nil ?_)))
  cases h
  exact tD
 refine T.skip (T.seq (T.join (Z:=Unit) (fun _=>mkA 131 [(1,sL (encL Qca) p1),(3,.ptr 0 0),(5,.ptr 1 0),(46,.bool ((((p2.At).length:Int) != ((p1).length:Int)) || ((((p2.Rings).length:Int) != p0.Rings) || ((p2.Memory).length:Int) != ((p0.Nodes).length:Int))))]) (fun _=>[.box (Qxa p0),.box (Q2a p2)]) (fun _=>True) (fun _ _=>?_) (fun hK=>?_)))
 ·refine T.ci h rfl (fun hb_4 h=>?_) (fun hb_4 h=>?_)
  ·refine T.seq (T.region (go 1 2 (RS.nil ?_)))
   cases h
   exact tD
  refine T.skip (T.seq (T.join (Z:=Unit) (fun _=>mkA 131 [(1,sL (encL Qca) p1),(3,.ptr 0 0),(5,.ptr 1 0),(56,.bool ((decide (((p2.Choices).length:Int) > 500)) || decide (((p2.Out).length:Int) > 2000)))]) (fun _=>[.box (Qxa p0),.box (Q2a p2)]) (fun _=>True) (fun _ _=>?_) (fun hK=>?_)))
  ·refine T.ci h rfl (fun hb_6 h=>?_) (fun hb_6 h=>?_)
   ·refine T.seq (T.region (go 1 2 (RS.nil ?_)))
    cases h
    exact tD
   refine T.skip (T.seq (T.seq (T.region (go 2 2 (sQ (Qia Ty.s49 rfl (go 1 2 (RS.nil (T.block (T.iter (fun ss_15:Int=>mkA 131 [(1,sL (encL Qca) p1),(3,.ptr 0 0),(5,.ptr 1 0),(58,sL encI p2.At),(59,iI ((p2.At).length:Int)),(60,iI ss_15)]) (fun ss_15=>[.box (Qxa p0),.box (Q2a p2)]) h (wk [] [0,1] 2 rfl) (fun ss_15 v_16 h hv_16=>?_)))))))))))
   revert hv_16 h;revert ss_15;intro s5 h hv_16
   replace h:Z6b p0 p1 p2 s5=some v_16:=h
   try dsimp only
   unfold Z6b at h
   refine T.seq (T.region (go 1 2 (RS.nil (T.seq (T.ci h rfl (fun hb_17 h=>?_) (fun hb_17 h=>?_))))))
   ·refine T.skip (T.seq (T.block (T.seq ?_)))
    obtain ⟨x7,hx7,h⟩:=bind_some h
    refine T.region (go 1 2 (sQ (Qka Ty.s49 (fun _=>rfl) rfl rfl hx7 (go 3 2 (RS.nil ?_)))))
    obtain ⟨zt_19,hz,h⟩:=bind_some h
    revert hz h;revert zt_19;intro c9 hz h
    refine T.join (Z:=Unit) (fun _=>mkA 131 [(1,sL (encL Qca) p1),(3,.ptr 0 0),(5,.ptr 1 0),(58,sL encI p2.At),(59,iI ((p2.At).length:Int)),(60,iI s5),(75,.bool c9)]) (fun _=>[.box (Qxa p0),.box (Q2a p2)]) (fun _=>True) (fun _ _=>?_) (fun hK=>?_)
    ·refine T.ci h rfl (fun hb_20 h=>?_) (fun hb_20 h=>?_)
     ·refine T.seq (T.region (go 1 2 (RS.nil ?_)))
      obtain ⟨w_21,h,hw_21⟩:=Qpa h
      replace h:=h.trans (congrArg some (hv_16 _ hw_21))
      cases h
      exact tD
     refine T.skip (T.region (go 2 2 (RS.nil ?_)))
     exact ⟨IntKind.i64.wrap (s5+1),(Option.some.inj h).symm,wk [] [0,1] 2 rfl⟩
    refine T.region (go 3 2 ?_)
    rcases Qga (decide (x7<0)) with hb_18 | hb_18
    ·replace hz:=ite_T hz hb_18
     refine sN hb_18 (sN hb_18 (sN hb_18 (sN hb_18 (sN hb_18 (sN hb_18 (sN hb_18 (sQ (Qna (v:=.bool true) rfl hb_18 rfl (RS.nil ?_)))))))))
     exact T.sub (hK () trivial) ⟨rfl,rfl,rfl,rfl,rfl,rfl,(congrArg AV.bool ((congrArg (fun p=>p) (Option.some.inj hz)).symm)).symm,trivial⟩
    replace hz:=ite_F hz hb_18
    obtain ⟨x8,hx8,hz⟩:=bind_some hz
    refine yg 2 hb_18 (yg 2 hb_18 (yg 2 hb_18 (yQ hb_18 (Qka Ty.s48 (fun _=>rfl) rfl rfl hx8 (yg 2 hb_18 (yQ hb_18 (Qia Ty.s52 rfl (yg 2 hb_18 (sQ (Qha (v:=.bool (decide (x7 > ((x8).length:Int)))) rfl hb_18 rfl (RS.nil ?_)))))))))))
    exact T.sub (hK () trivial) ⟨rfl,rfl,rfl,rfl,rfl,rfl,(congrArg AV.bool ((congrArg (fun p=>p) (Option.some.inj hz)).symm)).symm,trivial⟩
   refine T.exit ?_
   obtain ⟨w_22,h,hw_22⟩:=Qpa h
   replace h:=h.trans (congrArg some (hv_16 _ hw_22))
   refine T.seq (T.region (go 2 2 (RS.nil (T.seq (T.seq (T.region (go 2 2 (sQ (Qia Ty.s48 rfl (go 1 2 ?_))))))))))
   refine RS.nil (T.block (T.iter (fun ss_29:Int=>mkA 131 [(3,.ptr 0 0),(5,.ptr 1 0),(10,.func 69 [.ptr 1 0]),(79,sL (encL Qca) p2.Rings),(80,iI ((p2.Rings).length:Int)),(81,iI ss_29)]) (fun ss_29=>[.box (Qxa p0),.box (Q2a p2)]) h (wk [] [0,1] 2 rfl) (fun ss_29 v_30 h hv_30=>?_)))
   revert hv_30 h;revert ss_29;intro s10 h hv_30
   replace h:Jxb p0 p2 s10=some v_30:=h
   try dsimp only
   unfold Jxb at h
   refine T.seq (T.region (go 1 2 (RS.nil (T.seq (T.ci h rfl (fun hb_31 h=>?_) (fun hb_31 h=>?_))))))
   ·refine T.skip (T.seq (T.block (T.seq ?_)))
    obtain ⟨x12,hx12,h⟩:=bind_some h
    refine T.region (sQ (Qka Ty.s48 (fun _=>rfl) rfl rfl hx12 (go 2 2 (RS.nil (T.seq (T.seq (T.region (go 1 2 (sQ (Qia Ty.s52 rfl (go 3 2 ?_)))))))))))
    refine RS.nil (T.ci h rfl (fun hb_32 h=>?_) (fun hb_32 h=>?_))
    ·refine T.seq (T.region (go 1 2 (RS.nil ?_)))
     obtain ⟨w_33,h,hw_33⟩:=Qpa h
     replace h:=h.trans (congrArg some (hv_30 _ hw_33))
     cases h
     exact tD
    refine T.skip (T.seq ?_)
    obtain ⟨x14,hx14,h⟩:=bind_some h
    refine T.region (go 2 2 (sO (Qza (aw2:=[.box (Qxa p0),.box (Q2a p2)]) (v':=.bool x14) (n0:=2) (n1:=1) [1] rfl rfl (V5b x12 p2.At p2.Rings p2.Memory p2.Choices p2.Out x14 hx14) (Qoa rfl ⟨rn_s rfl,rn_s rfl,rn_s rfl,rn_s rfl,rn_s rfl,trivial⟩ Qfa) ⟨rn_s rfl,Qda rfl,trivial⟩ (Qea (V4a _)) ⟨.inr ⟨rfl,rfl⟩,.inl ⟨0,_,by decide,rfl,Qya ⟨Qea (Q3a J7b _),Qea (Q3a (Zyb Jia) _),Qea (Q3a Zga _),Qea (Q3a Zha _),Qea (Q3a Jia _),trivial⟩⟩,trivial⟩ (go 1 2 (RS.nil (T.ci h rfl (fun hb_34 h=>?_) (fun hb_34 h=>?_)))))))
    ·refine T.seq (T.region (go 1 2 (RS.nil ?_)))
     obtain ⟨w_35,h,hw_35⟩:=Qpa h
     replace h:=h.trans (congrArg some (hv_30 _ hw_35))
     cases h
     exact tD
    refine T.skip (T.region (go 2 2 (RS.nil ?_)))
    exact ⟨IntKind.i64.wrap (s10+1),(Option.some.inj h).symm,wk [] [0,1] 2 rfl⟩
   refine T.exit ?_
   obtain ⟨w_36,h,hw_36⟩:=Qpa h
   replace h:=h.trans (congrArg some (hv_30 _ hw_36))
   refine T.seq (T.seq (T.region (go 2 2 (sQ (Qia Ty.s50 rfl (go 1 2 (RS.nil (T.block (T.iter (fun ss_43:Int=>mkA 131 [(3,.ptr 0 0),(5,.ptr 1 0),(10,.func 69 [.ptr 1 0]),(96,sL Qla p2.Memory),(97,iI ((p2.Memory).length:Int)),(98,iI ss_43)]) (fun ss_43=>[.box (Qxa p0),.box (Q2a p2)]) h (wk [] [0,1] 2 rfl) (fun ss_43 v_44 h hv_44=>?_))))))))))
   revert hv_44 h;revert ss_43;intro s15 h hv_44
   replace h:Jub p0 p2 s15=some v_44:=h
   try dsimp only
   unfold Jub at h
   refine T.seq (T.region (go 1 2 (RS.nil (T.seq (T.ci h rfl (fun hb_45 h=>?_) (fun hb_45 h=>?_))))))
   ·refine T.skip (T.seq (T.block (T.seq ?_)))
    obtain ⟨x17,hx17,h⟩:=bind_some h
    refine T.region (sQ (Qka Ty.s50 (fun _=>rfl) rfl rfl hx17 (go 3 2 (RS.nil (T.seq (T.seq ?_))))))
    obtain ⟨x19,hx19,h⟩:=bind_some h
    refine T.region (go 1 3 (sO (cF (Vbc x17 x19 hx19) ⟨rfl,(go 1 3 (RS.nil (T.seq (T.region (go 2 3 (RS.nil (T.ci h rfl (fun hb_46 h=>?_) (fun hb_46 h=>?_))))))))⟩)))
    ·refine T.seq (T.region (go 2 3 (RS.nil ?_)))
     obtain ⟨w_47,h,hw_47⟩:=Qpa h
     replace h:=h.trans (congrArg some (hv_44 _ hw_47))
     cases h
     exact tD
    refine T.skip (T.seq (T.region (go 4 3 (sQ (Qia Ty.s51 rfl (go 1 3 (RS.nil (T.ci h rfl (fun hb_48 h=>?_) (fun hb_48 h=>?_)))))))))
    ·refine T.seq (T.region (go 1 3 (RS.nil ?_)))
     obtain ⟨w_49,h,hw_49⟩:=Qpa h
     replace h:=h.trans (congrArg some (hv_44 _ hw_49))
     cases h
     exact tD
    refine T.skip (T.region (go 2 3 (RS.nil ?_)))
    exact ⟨IntKind.i64.wrap (s15+1),(Option.some.inj h).symm,wk [] [0,1] 3 rfl⟩
   refine T.exit ?_
   obtain ⟨w_50,h,hw_50⟩:=Qpa h
   replace h:=h.trans (congrArg some (hv_44 _ hw_50))
   refine T.seq (T.seq (T.region (go 2 2 (sQ (Qia Ty.s51 rfl (go 1 2 (RS.nil (T.block (T.iter (fun ss_55:Int=>mkA 131 [(3,.ptr 0 0),(5,.ptr 1 0),(10,.func 69 [.ptr 1 0]),(115,sL Qta p2.Choices),(116,iI ((p2.Choices).length:Int)),(117,iI ss_55)]) (fun ss_55=>[.box (Qxa p0),.box (Q2a p2)]) h (wk [] [0,1] 2 rfl) (fun ss_55 v_56 h hv_56=>?_))))))))))
   revert hv_56 h;revert ss_55;intro s20 h hv_56
   replace h:J3b p0 p2 s20=some v_56:=h
   try dsimp only
   unfold J3b at h
   refine T.seq (T.region (go 1 2 (RS.nil (T.seq (T.ci h rfl (fun hb_57 h=>?_) (fun hb_57 h=>?_))))))
   ·refine T.skip (T.seq (T.block (T.seq ?_)))
    obtain ⟨x22,hx22,h⟩:=bind_some h
    refine T.region (sQ (Qka Ty.s51 (fun _=>rfl) rfl rfl hx22 (go 3 2 (RS.nil (T.seq ?_)))))
    obtain ⟨x24,hx24,h⟩:=bind_some h
    refine T.region (go 2 3 (sO (cF (Zed p0 x22 x24 hx24) ⟨rfl,(go 1 3 (RS.nil (T.ci h rfl (fun hb_58 h=>?_) (fun hb_58 h=>?_))))⟩)))
    ·refine T.seq (T.region (go 1 3 (RS.nil ?_)))
     obtain ⟨w_59,h,hw_59⟩:=Qpa h
     replace h:=h.trans (congrArg some (hv_56 _ hw_59))
     cases h
     exact tD
    refine T.skip (T.region (go 2 3 (RS.nil ?_)))
    exact ⟨IntKind.i64.wrap (s20+1),(Option.some.inj h).symm,wk [] [0,1] 3 rfl⟩
   refine T.exit ?_
   obtain ⟨w_60,h,hw_60⟩:=Qpa h
   replace h:=h.trans (congrArg some (hv_56 _ hw_60))
   refine T.seq (T.seq ?_)
   obtain ⟨x26,hx26,h⟩:=bind_some h
   refine T.region (go 3 2 (sO (Qza (aw2:=[.box (Qxa p0),.box (Q2a p2)]) (v':=.bool x26) (n0:=2) (n1:=1) [1] rfl rfl (V5b p2.Out p2.At p2.Rings p2.Memory p2.Choices p2.Out x26 hx26) (Qoa rfl ⟨rn_s rfl,rn_s rfl,rn_s rfl,rn_s rfl,rn_s rfl,trivial⟩ Qfa) ⟨rn_s rfl,Qda rfl,trivial⟩ (Qea (V4a _)) ⟨.inr ⟨rfl,rfl⟩,.inl ⟨0,_,by decide,rfl,Qya ⟨Qea (Q3a J7b _),Qea (Q3a (Zyb Jia) _),Qea (Q3a Zga _),Qea (Q3a Zha _),Qea (Q3a Jia _),trivial⟩⟩,trivial⟩ (go 1 2 (RS.nil (T.ci h rfl (fun hb_61 h=>?_) (fun hb_61 h=>?_)))))))
   ·refine T.seq (T.region (go 1 2 (RS.nil ?_)))
    cases h
    exact tD
   refine T.skip (T.seq (T.region (go 1 2 (RS.nil ?_))))
   cases h
   exact tD
  refine T.region (go 2 2 (sQ (Qia Ty.s51 rfl (go 2 2 ?_))))
  rcases Qga (decide (((p2.Choices).length:Int) > 500)) with hb_5 | hb_5
  ·refine sN hb_5 (sN hb_5 (sN hb_5 (sN hb_5 (sQ (Qna (v:=.bool true) rfl hb_5 rfl (RS.nil ?_))))))
   exact T.sub (hK () trivial) ⟨rfl,rfl,rfl,(congrArg AV.bool (by simp only [hb_5,bz,if_true,if_false,Bool.false_eq_true])).symm,trivial⟩
  refine yg 2 hb_5 (yg 2 hb_5 (yQ hb_5 (Qia Ty.s52 rfl (yg 2 hb_5 (sQ (Qha (v:=.bool (decide (((p2.Out).length:Int) > 2000))) rfl hb_5 rfl (RS.nil ?_)))))))
  exact T.sub (hK () trivial) ⟨rfl,rfl,rfl,(congrArg AV.bool (by simp only [hb_5,bz,if_true,if_false,Bool.false_eq_true])).symm,trivial⟩
 refine T.region (go 2 2 (sQ (Qia Ty.s49 rfl (go 1 2 (sQ (Qia Ty.s48 rfl (go 2 2 ?_)))))))
 rcases Qga (((p2.At).length:Int) != ((p1).length:Int)) with hb_2 | hb_2
 ·refine sN hb_2 (sN hb_2 (sN hb_2 (sN hb_2 (sN hb_2 (sN hb_2 (sQ (Qna (v:=.bool true) rfl hb_2 rfl (go 1 2 (sN rfl (sN rfl ?_))))))))))
  refine sN rfl (sN rfl (sN rfl (sN rfl (sN rfl (sQ (Qna (v:=.bool true) rfl rfl rfl (RS.nil ?_)))))))
  exact T.sub (hK () trivial) ⟨rfl,rfl,rfl,(congrArg AV.bool (by simp only [hb_2,bz,if_true,if_false,Bool.false_eq_true])).symm,trivial⟩
 refine yg 2 hb_2 (yg 2 hb_2 (yQ hb_2 (Qia Ty.s48 rfl (yg 2 hb_2 (yg 2 hb_2 (yg 2 hb_2 (sQ (Qha (v:=.bool (((p2.Rings).length:Int) != p0.Rings)) rfl hb_2 rfl (go 1 2 ?_)))))))))
 rcases Qga (((p2.Rings).length:Int) != p0.Rings) with hb_3 | hb_3
 ·refine sN hb_3 (sN hb_3 (sN hb_3 (sN hb_3 (sN hb_3 (sN hb_3 (sN hb_3 (sQ (Qna (v:=.bool true) rfl hb_3 rfl (RS.nil ?_)))))))))
  exact T.sub (hK () trivial) ⟨rfl,rfl,rfl,(congrArg AV.bool (by simp only [hb_2,hb_3,bz,if_true,if_false,Bool.false_eq_true])).symm,trivial⟩
 refine yg 2 hb_3 (yg 2 hb_3 (yQ hb_3 (Qia Ty.s50 rfl (yg 2 hb_3 (yg 2 hb_3 (yQ hb_3 (Qia Ty.s45 rfl (yg 2 hb_3 (sQ (Qha (v:=.bool (((p2.Memory).length:Int) != ((p0.Nodes).length:Int))) rfl hb_3 rfl (RS.nil ?_)))))))))))
 exact T.sub (hK () trivial) ⟨rfl,rfl,rfl,(congrArg AV.bool (by simp only [hb_2,hb_3,bz,if_true,if_false,Bool.false_eq_true])).symm,trivial⟩
theorem Qyd (p0 r:List Int) (h:Q5c p0=some r):FnX Tryz.prog 93 [.ptr 0 0] [.boxB 85 [.np 0,.ref 1],aR 5 1 enc8 p0] (.tup []) [.boxB 85 [.np 0,.ref 1],aR 5 1 enc8 r]:=by
 cases h
 exact Yed _
theorem Qfb (p0:Int) (p1:List Int) (r:Unit × (List Int)) (h:J2a p0 p1=some r):FnX Tryz.prog 74 [.ptr 0 0,.int .u8 p0] [.boxB 85 [.np 0,.ref 1],aR 5 1 enc8 p1] (.nili) [.boxB 85 [.np 0,.ref 2],.dead,aR 5 1 enc8 r.2]:=by
 unfold J2a at h
 refine fnT 2 Tryz.func74 Tryz.ntmps74 ?_
 refine T.mvBB 0 1 1 (cs:=[.np 0,.ref 1]) rfl rfl rfl rfl (cs':=[.np 0,.ref 2]) rfl rfl (T.seq (T.region (go 1 3 (RS.nil (T.seq ?_)))))
 obtain ⟨x2,hx2,h⟩:=bind_some h
 refine T.region (go 1 3 (sO (Qza (aw2:=[.boxB 85 [.np 0,.ref 2],.dead,aR 5 1 enc8 x2]) (v':=.tup []) (n0:=3) (n1:=2) [0,2] rfl rfl (Qyd p1 x2 hx2) (Zqa rfl ⟨rn_np rfl,Jha rfl,trivial⟩ (Zia rfl Z5a rfl Qfa)) ⟨Qda rfl,trivial⟩ (Jkb trivial) ⟨.inl ⟨0,_,by decide,rfl,Yia ⟨rm_np (by decide),Zla (by decide),trivial⟩⟩,.inr ⟨rfl,rfl⟩,.inl ⟨1,_,by decide,rfl,Jva Z5a⟩,trivial⟩ (RS.nil (T.seq ?_)))))
 obtain ⟨x4,hx4,h⟩:=bind_some h
 refine T.region (go 4 3 (sO (Q5e rfl rfl (Qra Ty.k35 (c:=.ref 2) rfl (go 1 3 (sO (Q9a (rows:=List.map enc8 [p0]) (vs:=[.int .u8 p0]) Ty.s35 Ty.z5 rfl rfl rfl rfl rfl rfl (sO (Voa (en:=enc8) (xs:=x2) (ys:=([p0]:List Int)) Ty.s35 (fun _=>rfl) rfl rfl rfl hx4 rfl rfl (go 2 5 (sO (J4f rfl rfl (vs:=[.ref 4]) rfl Tryz.underlying35 rfl (by decide) rfl (RS.nil (T.seq ?_))))))))))))))
 refine T.region (go 1 5 (RS.nil (T.rt (Vob (v:=.nili) rfl (J1b ?_)))))
 exact Vgc (v:=.nili) (aw1:=[.boxB 85 [.np 0,.ref 4],.dead,.dead,.dead,aR 5 1 enc8 x4]) (.nili) [0,1,4] rfl (by decide) (by decide) (Yta Y3c) (Zqa (cs:=[.np 0,.ref 2]) (ds:=[.np 0,.ref 4]) rfl ⟨rn_np rfl,Jha rfl,trivial⟩ (Q8c rfl (Zia rfl Z5a (congrArg (fun r:Unit × (List Int)=>r.2) (Option.some.inj h)).symm (Qfa)))) ⟨rfl,rfl⟩
theorem Q7a (p0:Int) (p1:List Int) (r:List Int) (h:Qsa p0 p1=some r):FnX Tryz.prog 37 [.ptr 0 0,iI p0] [.boxB 85 [.np 0,.ref 1],aR 5 1 enc8 p1] (.tup []) [.boxB 85 [.np 0,.ref 2],.dead,aR 5 1 enc8 r]:=by
 unfold Qsa at h
 refine fnT 2 Tryz.func37 Tryz.ntmps37 ?_
 refine T.mvBB 0 1 1 (cs:=[.np 0,.ref 1]) rfl rfl rfl rfl (cs':=[.np 0,.ref 2]) rfl rfl (T.seq ?_)
 obtain ⟨x3,hx3,h⟩:=bind_some h
 obtain ⟨x4,hx4,h⟩:=bind_some h
 refine T.region (go 2 3 (sQ (v_shl rfl rfl hx3 (go 1 3 (sQ (v_shr rfl rfl hx4 (go 3 3 (RS.nil (T.seq (T.block (T.iter (fun ss_3:Int × (List Int)=>mkA 29 [(0,.ptr 0 0),(4,.int .u64 ss_3.1)]) (fun ss_3=>[.boxB 85 [.np 0,.ref 2],.dead,aR 5 1 enc8 ss_3.2]) h (Weak.mkN [] [0,1,2] (by decide) (by decide) rfl ⟨Qda rfl,Qja rfl,trivial⟩ (Zqa (cs:=[.np 0,.ref 2]) (ds:=[.np 0,.ref 2]) rfl ⟨rn_np rfl,Jha rfl,trivial⟩ (Q8c rfl (rw_ar rfl rfl (Qfa))))) (fun ss_3 v_4 h hv_4=>?_))))))))))))
 obtain ⟨s5,s6⟩:=ss_3
 replace h:Jua s5 s6=some v_4:=h
 try dsimp only
 unfold Jua at h
 refine T.seq (T.seq (T.region (go 2 3 (RS.nil (T.ci h rfl (fun hb_5 h=>?_) (fun hb_5 h=>?_))))))
 ·refine T.skip (T.seq (T.block ?_))
  obtain ⟨x7,hx7,h⟩:=bind_some h
  refine T.region (go 6 3 (sO (Qza (aw2:=[.boxB 85 [.np 0,.ref 3],.dead,.dead,aR 5 1 enc8 x7.2]) (v':=.nili) (n0:=3) (n1:=3) [0,2] rfl rfl (Qfb (ibits .or .u8 (IntKind.u8.wrap s5) 128) s6 x7 hx7) (Zqa rfl ⟨rn_np rfl,Jha rfl,trivial⟩ (Zia rfl Z5a rfl Qfa)) ⟨Qda rfl,Qja rfl,trivial⟩ (Qea (Y3c)) ⟨.inl ⟨0,_,by decide,rfl,Yia ⟨rm_np (by decide),Zla (by decide),trivial⟩⟩,.inr ⟨rfl,rfl⟩,.inl ⟨1,_,by decide,rfl,trivial⟩,.inl ⟨2,_,by decide,rfl,Jva Z5a⟩,trivial⟩ (RS.nil ?_))))
  obtain ⟨x8,hx8,h⟩:=bind_some h
  refine T.region (go 1 4 (sQ (v_shr rfl rfl hx8 (go 1 4 (RS.nil ?_)))))
  exact ⟨(x8,x7.2),(Option.some.inj h).symm,Weak.mkN [] [0,1,3] (by decide) (by decide) rfl ⟨Qda rfl,Qja rfl,trivial⟩ (Zqa (cs:=[.np 0,.ref 2]) (ds:=[.np 0,.ref 3]) rfl ⟨rn_np rfl,Jha rfl,trivial⟩ (Q8c rfl (rw_ar rfl rfl (Qfa))))⟩
 refine T.exit ?_
 obtain ⟨w_6,h,hw_6⟩:=Qpa h
 replace h:=h.trans (congrArg some (hv_4 _ hw_6))
 obtain ⟨x9,hx9,h⟩:=bind_some h
 refine T.region (go 5 3 (sO (Qza (aw2:=[.boxB 85 [.np 0,.ref 3],.dead,.dead,aR 5 1 enc8 x9.2]) (v':=.nili) (n0:=3) (n1:=3) [0,2] rfl rfl (Qfb (IntKind.u8.wrap s5) s6 x9 hx9) (Zqa rfl ⟨rn_np rfl,Jha rfl,trivial⟩ (Zia rfl Z5a rfl Qfa)) ⟨Qda rfl,Qja rfl,trivial⟩ (Qea (Y3c)) ⟨.inl ⟨0,_,by decide,rfl,Yia ⟨rm_np (by decide),Zla (by decide),trivial⟩⟩,.inr ⟨rfl,rfl⟩,.inl ⟨1,_,by decide,rfl,trivial⟩,.inl ⟨2,_,by decide,rfl,Jva Z5a⟩,trivial⟩ (RS.nil (exN (J1b ?_))))))
 exact Vgc (v:=.tup []) (aw1:=[.boxB 85 [.np 0,.ref 3],.dead,.dead,aR 5 1 enc8 x9.2]) (.tup []) [0,1,3] rfl (by decide) (by decide) (Jbe trivial) (Zqa (cs:=[.np 0,.ref 2]) (ds:=[.np 0,.ref 3]) rfl ⟨rn_np rfl,Jha rfl,trivial⟩ (Q8c rfl (Zia rfl Z5a (congrArg (fun r:List Int=>r) (Option.some.inj h)).symm (Qfa)))) ⟨rfl,rfl⟩
theorem Zeb (p0:List Item) (p1:List Int) (r:List Int) (h:Zra p0 p1=some r):FnX Tryz.prog 38 [.ptr 0 0,sL Qca p0] [.boxB 85 [.np 0,.ref 1],aR 5 1 enc8 p1] (.tup []) [.boxB 85 [.np 0,.ref 2],.dead,aR 5 1 enc8 r]:=by
 unfold Zra at h
 refine fnT 2 Tryz.func38 Tryz.ntmps38 ?_
 refine T.mvBB 0 1 1 (cs:=[.np 0,.ref 1]) rfl rfl rfl rfl (cs':=[.np 0,.ref 2]) rfl rfl (T.seq ?_)
 obtain ⟨x2,hx2,h⟩:=bind_some h
 refine T.region (go 2 3 (sQ (Qia Ty.s52 rfl (sO (Qza (aw2:=[.boxB 85 [.np 0,.ref 3],.dead,.dead,aR 5 1 enc8 x2]) (v':=.tup []) (n0:=3) (n1:=3) [0,2] rfl rfl (Q7a ((p0).length:Int) p1 x2 hx2) (Zqa rfl ⟨rn_np rfl,Jha rfl,trivial⟩ (Zia rfl Z5a rfl Qfa)) ⟨Qda rfl,Qja rfl,trivial⟩ (Jkb trivial) ⟨.inl ⟨0,_,by decide,rfl,Yia ⟨rm_np (by decide),Zla (by decide),trivial⟩⟩,.inr ⟨rfl,rfl⟩,.inl ⟨1,_,by decide,rfl,trivial⟩,.inl ⟨2,_,by decide,rfl,Jva Z5a⟩,trivial⟩ (RS.nil (T.seq (T.region (go 1 4 (sQ (Qia Ty.s52 rfl (go 1 4 ?_))))))))))))
 refine RS.nil (T.block (T.iter (fun ss_3:Int × (List Int)=>mkA 29 [(0,.ptr 0 0),(10,sL Qca p0),(11,iI ((p0).length:Int)),(12,iI ss_3.1)]) (fun ss_3=>[.boxB 85 [.np 0,.ref 2],.dead,aR 5 1 enc8 ss_3.2]) h (Weak.mkN [] [0,1,3] (by decide) (by decide) rfl ⟨Qda rfl,rn_s rfl,Qja rfl,Qja rfl,trivial⟩ (Zqa (cs:=[.np 0,.ref 2]) (ds:=[.np 0,.ref 3]) rfl ⟨rn_np rfl,Jha rfl,trivial⟩ (Q8c rfl (rw_ar rfl rfl (Qfa))))) (fun ss_3 v_4 h hv_4=>?_)))
 obtain ⟨s3,s4⟩:=ss_3
 replace h:Z9a p0 s3 s4=some v_4:=h
 try dsimp only
 unfold Z9a at h
 refine T.seq (T.region (go 1 3 (RS.nil (T.seq (T.ci h rfl (fun hb_5 h=>?_) (fun hb_5 h=>?_))))))
 ·refine T.skip (T.seq (T.block (T.seq ?_)))
  obtain ⟨x6,hx6,h⟩:=bind_some h
  refine T.region (sQ (Qka Ty.s52 (fun _=>rfl) rfl rfl hx6 (go 3 3 (RS.nil (T.seq ?_)))))
  obtain ⟨x8,hx8,h⟩:=bind_some h
  refine T.region (go 3 4 (sO (Qza (aw2:=[.boxB 85 [.np 0,.ref 4],.dead,.dead,.box (Qca x6),aR 5 1 enc8 x8]) (v':=.tup []) (n0:=4) (n1:=3) [0,2] rfl rfl (Q7a x6.Key s4 x8 hx8) (Zqa rfl ⟨rn_np rfl,Jha rfl,trivial⟩ (Zia rfl Z5a rfl Qfa)) ⟨Qda rfl,Qja rfl,trivial⟩ (Jkb trivial) ⟨.inl ⟨0,_,by decide,rfl,Yia ⟨rm_np (by decide),Zla (by decide),trivial⟩⟩,.inr ⟨rfl,rfl⟩,.inl ⟨1,_,by decide,rfl,trivial⟩,.inr ⟨rfl,rfl⟩,.inl ⟨2,_,by decide,rfl,Jva Z5a⟩,trivial⟩ (RS.nil (T.seq ?_)))))
  obtain ⟨x10,hx10,h⟩:=bind_some h
  refine T.region (go 3 5 (sO (Qza (aw2:=[.boxB 85 [.np 0,.ref 5],.dead,.dead,.box (Qca x6),.dead,aR 5 1 enc8 x10]) (v':=.tup []) (n0:=5) (n1:=3) [0,4] rfl rfl (Q7a x6.Val x8 x10 hx10) (Zqa rfl ⟨rn_np rfl,Jha rfl,trivial⟩ (Zia rfl Z5a rfl Qfa)) ⟨Qda rfl,Qja rfl,trivial⟩ (Jkb trivial) ⟨.inl ⟨0,_,by decide,rfl,Yia ⟨rm_np (by decide),Zla (by decide),trivial⟩⟩,.inr ⟨rfl,rfl⟩,.inr ⟨rfl,rfl⟩,.inr ⟨rfl,rfl⟩,.inl ⟨1,_,by decide,rfl,trivial⟩,.inl ⟨2,_,by decide,rfl,Jva Z5a⟩,trivial⟩ (RS.nil ?_))))
  obtain ⟨x11,hx11,h⟩:=bind_some h
  refine T.region (go 3 6 (sO (Qza (aw2:=[.boxB 85 [.np 0,.ref 6],.dead,.dead,.box (Qca x6),.dead,.dead,aR 5 1 enc8 x11]) (v':=.tup []) (n0:=6) (n1:=3) [0,5] rfl rfl (Q7a x6.Dep x10 x11 hx11) (Zqa rfl ⟨rn_np rfl,Jha rfl,trivial⟩ (Zia rfl Z5a rfl Qfa)) ⟨Qda rfl,Qja rfl,trivial⟩ (Jkb trivial) ⟨.inl ⟨0,_,by decide,rfl,Yia ⟨rm_np (by decide),Zla (by decide),trivial⟩⟩,.inr ⟨rfl,rfl⟩,.inr ⟨rfl,rfl⟩,.inr ⟨rfl,rfl⟩,.inr ⟨rfl,rfl⟩,.inl ⟨1,_,by decide,rfl,trivial⟩,.inl ⟨2,_,by decide,rfl,Jva Z5a⟩,trivial⟩ (RS.nil (T.region (go 2 7 (RS.nil ?_)))))))
  exact ⟨(IntKind.i64.wrap (s3+1),x11),(Option.some.inj h).symm,Weak.mkN [] [0,1,6] (by decide) (by decide) rfl ⟨Qda rfl,rn_s rfl,Qja rfl,Qja rfl,trivial⟩ (Zqa (cs:=[.np 0,.ref 2]) (ds:=[.np 0,.ref 6]) rfl ⟨rn_np rfl,Jha rfl,trivial⟩ (Q8c rfl (rw_ar rfl rfl (Qfa))))⟩
 refine T.exit ?_
 obtain ⟨w_6,h,hw_6⟩:=Qpa h
 replace h:=h.trans (congrArg some (hv_4 _ hw_6))
 refine exN (J1b ?_)
 exact Vgc (v:=.tup []) (aw1:=[.boxB 85 [.np 0,.ref 2],.dead,aR 5 1 enc8 s4]) (.tup []) [0,1,2] rfl (by decide) (by decide) (Jbe trivial) (Zqa (cs:=[.np 0,.ref 2]) (ds:=[.np 0,.ref 2]) rfl ⟨rn_np rfl,Jha rfl,trivial⟩ (Q8c rfl (Zia rfl Z5a (congrArg (fun r:List Int=>r) (Option.some.inj h)).symm (Qfa)))) ⟨rfl,rfl⟩
theorem Vdd (p0:List Int) (r:List UInt8) (h:Qhc p0=some r):FnX Tryz.prog 39 [.ptr 0 0] [.boxB 85 [.np 0,.ref 1],aR 5 1 enc8 p0] (.str r) [.dead,.dead]:=Qsf p0 r h
end Go.Proofs.YtchmpaaofmihcaaGreat
namespace Go.Proofs.YtchmpaaofmihcaaGreat
open Go.RowKit
set_option linter.unusedVariables false
set_option linter.unusedSimpArgs false
def FnP (P:Program) (V:Value) (f:FuncId) (args:List AV) (aw:List Ob) {R:Type} (val:R→AV) (obs:R→List Ob):R ⊕ Unit→Prop
 | .inl x=>FnX P f args aw (val x) (obs x)
 | .inr _=>PanX P V f args aw
def retP (P:Program) (V:Value) (fn:Func) (N:Nat) {R:Type} (Q:R→AV→List Ob→Prop):R ⊕ Unit→Exit→List AV→List Ob→Prop
 | .inl x=>retQ P fn N (Q x)
 | .inr _=>panQ V
section
variable {P:Program} {V:Value} {N n:Nat} {fr:List AV} {aw aw':List Ob} {l:List (Nat × AV)}
instance {fn:Func} {M:Nat} {R:Type} {Q:R→AV→List Ob→Prop} {x:R}:RetI (retP P V fn M Q (.inl x)) (fun fr aw=>vcRes P fr aw fn.results.toList (Ret M (Q x) aw)):=⟨fun _ _ h=>h⟩
theorem fnPT {f:FuncId} {fn:Func} {c:Code} {args:List AV} {R:Type} {val:R→AV} {obs:R→List Ob} {r:R ⊕ Unit} {m:Nat} (N:Nat) (hf:P.funcs[f]?=some fn) (hm:fn.ntmps=m)
  (h:iniC 0 args fun l=>T P N c (retP P V fn N (fun x v aw'=>v=val x∧aw'=obs x) r) (mkA m l) aw)
  (hb:fn.body=some c:=by rfl) (hN:aw.length=N:=by rfl) (hname:(fn.name == "runtime.NumGoroutine")=false:=by kernel_rfl) (hl:Nat.ble args.length m=true:=by rfl):FnP P V f args aw val obs r:=by
 have h':=Zfd (K:=fun l=>T P N c (retP P V fn N (fun x v aw'=>v=val x∧aw'=obs x) r) (mkA m l) aw) h
 cases r with
 | inl x=>exact V3c hN hf hb hname hm hl h'
 | inr u=>exact V7e hN hf hb hname hm hl h'
variable {ops:Array Oper} {o:Oper} {d:Option Tmp} {ty:TypeId} {ps:String} {af:Array Edge} {gd:Option (Nat × Bool)}
theorem PP.panic {x:Operand} {t:TypeId} {Kp:List AV→List Ob→Prop} (hx:evA n l x=.ifc t (.agg [])) (hK:Kp (mkA n l) aw):PP P (.iface t (.agg #[])) N ⟨d,.panic x,ty,ps,af,gd⟩ (mkA n l) aw Kp :=
 ⟨fun st h1 h2 σ w F a hc Kc Q hk=>by
  have hfv:=hc.fr.ev x
  rw [Jea,hx] at hfv
  generalize hvf:a.eval x=vf at hfv
  cases hfv with
  | ifc _ _ u hu =>
   cases hu with
   | agg _ vs hl hone hcs =>
    have:vs=[]:=List.eq_nil_of_length_eq_zero (by simpa using hl)
    subst this
    unfold Oper.wp
    have hrun:(execOp a.eval ⟨d,.panic x,ty,ps,af,gd⟩).run P w=.halt (.panic (.iface t (.agg #[]))) w:=by
     simp only [execOp,hvf]
     rfl
    rw [hrun]
    exact hk aw σ w F hK hc⟩
theorem PP.cal {Kp:List AV→List Ob→Prop} {f:Operand} {args:Array Operand} {ts:Array TypeId} {h:FuncId} {caps ac as0:List AV} {aw0 aw2:List Ob} {n0 n1:Nat} (ρ:List Nat) (hn0:aw.length=n0) (hn1:aw0.length=n1)
 (hf:evA n l f=.func h caps) (ha:args.toList.map (evA n l)++caps=ac) (hnd:ρ.Nodup) (hW:RenW ρ aw ρ aw0) (hA:RenL ρ as0 ac) (hC:PanX P V h as0 aw0) (hlen:aw2.length+ρ.length=n0+n1)
 (hB:BackW (backM ρ n0 n1) ρ aw (aw0.map fun _=>Ob.dead) 0 aw2) (hK:Kp (mkA n l) aw2):PP P V N ⟨d,.call ⟨.value f,args,ts⟩,ty,ps,af,gd⟩ (mkA n l) aw Kp:=by subst hn1;exact PP.call ρ hn0 hf ha hnd hW hA hC hlen hB hK
theorem PP.calb {Kp:List AV→List Ob→Prop} {f:Operand} {args:Array Operand} {ts:Array TypeId} {h:FuncId} {caps ac as0:List AV} {aw0 aw2:List Ob} {n0 n1:Nat} (ρ:List Nat) (hn0:aw.length=n0) (hn1:aw0.length=n1)
 (hf:evA n l f=.bnd h caps) (ha:caps++args.toList.map (evA n l)=ac) (hnd:ρ.Nodup) (hW:RenW ρ aw ρ aw0) (hA:RenL ρ as0 ac) (hC:PanX P V h as0 aw0) (hlen:aw2.length+ρ.length=n0+n1)
 (hB:BackW (backM ρ n0 n1) ρ aw (aw0.map fun _=>Ob.dead) 0 aw2) (hK:Kp (mkA n l) aw2):PP P V N ⟨d,.call ⟨.value f,args,ts⟩,ty,ps,af,gd⟩ (mkA n l) aw Kp:=by subst hn1;exact PP.callb ρ hn0 hf ha hnd hW hA hC hlen hB hK
theorem qc {Kp:List AV→List Ob→Prop} {f:Operand} {args:Array Operand} {ts:Array TypeId} {h:FuncId} {caps ac as0:List AV} {aw0 aw2:List Ob} {n0 n1:Nat} (ρ:List Nat)
 (hf:evA n l f=.func h caps) (ha:args.toList.map (evA n l)++caps=ac) (hC:PanX P V h as0 aw0) (hW:RenW ρ aw ρ aw0) (hA:RenL ρ as0 ac)
 (hB:BackW (backM ρ n0 n1) ρ aw (aw0.map fun _=>Ob.dead) 0 aw2) (hK:Kp (mkA n l) aw2) (hn0:aw.length=n0:=by rfl) (hn1:aw0.length=n1:=by rfl) (hnd:ρ.Nodup:=by decide) (hlen:aw2.length+ρ.length=n0+n1:=by rfl):PP P V N ⟨d,.call ⟨.value f,args,ts⟩,ty,ps,af,gd⟩ (mkA n l) aw Kp:=PP.cal ρ hn0 hn1 hf ha hnd hW hA hC hlen hB hK
theorem qcb {Kp:List AV→List Ob→Prop} {f:Operand} {args:Array Operand} {ts:Array TypeId} {h:FuncId} {caps ac as0:List AV} {aw0 aw2:List Ob} {n0 n1:Nat} (ρ:List Nat)
 (hf:evA n l f=.bnd h caps) (ha:caps++args.toList.map (evA n l)=ac) (hC:PanX P V h as0 aw0) (hW:RenW ρ aw ρ aw0) (hA:RenL ρ as0 ac)
 (hB:BackW (backM ρ n0 n1) ρ aw (aw0.map fun _=>Ob.dead) 0 aw2) (hK:Kp (mkA n l) aw2) (hn0:aw.length=n0:=by rfl) (hn1:aw0.length=n1:=by rfl) (hnd:ρ.Nodup:=by decide) (hlen:aw2.length+ρ.length=n0+n1:=by rfl):PP P V N ⟨d,.call ⟨.value f,args,ts⟩,ty,ps,af,gd⟩ (mkA n l) aw Kp:=PP.calb ρ hn0 hn1 hf ha hnd hW hA hC hlen hB hK
theorem T.rP {id:Nat} {Q:Exit→List AV→List Ob→Prop} (i:Nat) (hi:ops.toList[i]?=some o) (h:RS P N ops (ops.toList.take i) (fun fr aw=>PP P V N o fr aw fun fr aw=>Q (.panic [{ v:=V,recovered:=false }]) fr aw) fr aw) (hg:o.guard=none:=by rfl):T P N (.region id ops false) Q fr aw:=by
 refine T.regionP (pre:=ops.toList.take i) (rest:=ops.toList.drop (i+1)) (o:=o) ?_ hg h
 obtain ⟨hlt,he⟩:=List.getElem?_eq_some_iff.1 hi
 rw [← he,List.getElem_cons_drop,List.take_append_drop]
def panE (V:Value) (st:St) (Kp:List Ob→Prop) (e:Exit) (a:Act) (w:World):Prop:=e=.panic [{ v:=V,recovered:=false }]∧∃ fr aw σ F,Cur st fr aw σ w F a∧Kp aw
theorem Qkf {st:St} {σ:List Value} {w:World} {F:Nat→Prop} {a:Act} {d:Option Tmp} {v:Value} (h:Cur st fr aw σ w F (a.put d v)):∃ fr',Cur st fr' aw σ w F a:=by
 refine ⟨List.replicate a.tmps.size .any,h.sim,⟨⟨by simp,fun j x v hx hv=>?_⟩,trivial⟩,h.mv,?_⟩
 ·rw [List.eq_of_mem_replicate (List.mem_of_getElem? hx)];exact .any v
 ·have:=h.ds
  cases d<;>exact this
theorem Z1f {st:St} {Kp:List Ob→Prop} {d:Option Tmp} {v:Value} {c:List PanicEntry} {a:Act} {w:World} (h:panE V st Kp (.panic c) (a.put d v) w):panE V st Kp (.panic c) a w:=by
 obtain ⟨h1,fr,aw,σ,F,h2,h3⟩:=h
 obtain ⟨fr',h4⟩:=Qkf h2
 exact ⟨h1,fr',aw,σ,F,h4,h3⟩
structure RAP (P:Program) (V:Value) (N:Nat) (ops:Array Oper) (k:Nat) (li:Array Bool) (Kp:List Ob→Prop) (fr:List AV) (aw:List Ob):Prop where
 out:∀ st:St,st.aw.length=N→st.σ.length=st.aw.length→∀ σ w F a,Cur st fr aw σ w F a→wpAny P .any ops (panE V st Kp) k li a w
variable {k:Nat} {li:Array Bool} {Kp:List Ob→Prop}
theorem T.drawnP {id:Nat} {Q:Exit→List AV→List Ob→Prop} (Kp:List Ob→Prop) (hm:P.follows .mixedOrders=true) (hk:ops.size=k) (h:RAP P V N ops k (Array.replicate k false) Kp fr aw) (hq:∀ fr aw,Kp aw→Q (.panic [{ v:=V,recovered:=false }]) fr aw):T P N (.region id ops true) Q fr aw :=
 ⟨fun st h1 h2 σ w F a hc=>by
  subst hk
  have hc':Cur st fr aw σ w.drew F a:=hc.step hc.sim.drew .drew
  refine wp_mono (wp_region_any hm (h.out st h1 h2 σ w.drew F a hc')) (fun e a w hq'=>?_)
  obtain ⟨rfl,fr',aw',σ',F',h3,h4⟩:=hq'
  exact ⟨fr',aw',σ',F',hq _ _ h4,h3⟩⟩
theorem qp0 (i:Nat) (hi:ops[i]?=some o) (h:vcQ P (mkA n l) aw o.op fun r=>stD l o.dst r fun l=>RAP P V N ops k (li.setIfInBounds i true) Kp (mkA n l) aw) (hs:Region.noSelect ops=true:=by decide +kernel) (hf:Region.free .any ops li i=true:=by decide +kernel)
  (hr:(Region.ready .any ops li).contains i=true:=by decide +kernel) (hg:o.guard=none:=by rfl) (hn:Jbc o.op=true:=by rfl):RAP P V N ops (k+1) li Kp (mkA n l) aw :=
 ⟨fun st e1 e2 σ w F a hc=>by
  obtain ⟨v,r,hrun,hrel,hk⟩:=Zdc hc hn h
  refine wpAny_take hi hs hf hr (fun c a w hp=>Z1f hp) (.inl ⟨by simp [Region.wanted,hg],hrun⟩) (RAP.out (Yub (K:=fun l=>RAP P V N ops k (li.setIfInBounds i true) Kp (mkA n l) aw) hk) st e1 e2 σ w F _ ?_)
  have:=Yfa hc hrel o.dst
  rwa [Yha] at this⟩
structure RAO (P:Program) (V:Value) (N:Nat) (ops:Array Oper) (i:Nat) (K:List AV→List Ob→Prop) (Kp:List Ob→Prop) (fr:List AV) (aw:List Ob):Prop where
 out:∀ st:St,st.aw.length=N→st.σ.length=st.aw.length→∀ σ w F a,Cur st fr aw σ w F a→∀ (Kc:Act→World→Prop),
  (∀ fr aw σ w F a,Cur st fr aw σ w F a→K fr aw→Kc a w)→wpOp P ops (panE V st Kp) i Kc a w
theorem RAP.all {rs:List Nat} (hr:Region.ready .any ops li=rs) (hne:rs≠[]) (h:∀ i,i∈rs→RAO P V N ops i (RAP P V N ops k (li.setIfInBounds i true) Kp) Kp fr aw):RAP P V N ops (k+1) li Kp fr aw :=
 ⟨fun st h1 h2 σ w F a hc=>wpAny_all hr hne fun i hi=>(h i hi).out st h1 h2 σ w F a hc _ fun fr aw σ w F a hc hK=>RAP.out hK st h1 h2 σ w F a hc⟩
theorem qA1 (i:Nat) (h:RAO P V N ops i (RAP P V N ops k (li.setIfInBounds i true) Kp) Kp fr aw) (hr:Region.ready .any ops li=[i]:=by decide +kernel):RAP P V N ops (k+1) li Kp fr aw :=
 RAP.all hr (by simp) fun x hx=>by rw [List.mem_singleton] at hx;subst hx;exact h
theorem qA2 (i j:Nat) (h:RAO P V N ops i (RAP P V N ops k (li.setIfInBounds i true) Kp) Kp fr aw) (h':RAO P V N ops j (RAP P V N ops k (li.setIfInBounds j true) Kp) Kp fr aw) (hr:Region.ready .any ops li=[i,j]:=by decide +kernel):RAP P V N ops (k+1) li Kp fr aw :=
 RAP.all hr (by simp) fun x hx=>by
  rcases List.mem_cons.1 hx with rfl | hx
  ·exact h
  ·rw [List.mem_singleton] at hx;subst hx;exact h'
theorem qA3 (i j m:Nat) (h:RAO P V N ops i (RAP P V N ops k (li.setIfInBounds i true) Kp) Kp fr aw) (h':RAO P V N ops j (RAP P V N ops k (li.setIfInBounds j true) Kp) Kp fr aw) (h'':RAO P V N ops m (RAP P V N ops k (li.setIfInBounds m true) Kp) Kp fr aw) (hr:Region.ready .any ops li=[i,j,m]:=by decide +kernel):RAP P V N ops (k+1) li Kp fr aw :=
 RAP.all hr (by simp) fun x hx=>by
  rcases List.mem_cons.1 hx with rfl | hx
  ·exact h
  ·rcases List.mem_cons.1 hx with rfl | hx
   ·exact h'
   ·rw [List.mem_singleton] at hx;subst hx;exact h''
theorem qpO {i:Nat} {K:List AV→List Ob→Prop} (hi:ops[i]?=some o) (h:OP P N o (mkA n l) aw fun r aw'=>stD l o.dst r fun l=>K (mkA n l) aw') (hg:o.guard=none:=by rfl):RAO P V N ops i K Kp (mkA n l) aw :=
 ⟨fun st e1 e2 σ w F a hc Kc hK=>by
  unfold wpOp
  simp only [hi]
  rw [if_pos (by simp [Region.wanted,hg])]
  refine .inl (h.out st e1 e2 σ w F a hc _ _ fun r aw' σ' w' F' v hk hcur hrel=>hK _ _ σ' w' F' _ ?_ (Yub (K:=fun l=>K (mkA n l) aw') hk))
  have:=Yfa hcur hrel o.dst
  rwa [Yha] at this⟩
theorem qpP {i:Nat} {K:List AV→List Ob→Prop} (hi:ops[i]?=some o) (h:PP P V N o (mkA n l) aw fun _ aw=>Kp aw) (hg:o.guard=none:=by rfl):RAO P V N ops i K Kp (mkA n l) aw :=
 ⟨fun st e1 e2 σ w F a hc Kc hK=>by
  unfold wpOp
  simp only [hi]
  rw [if_pos (by simp [Region.wanted,hg])]
  exact .inl (h.out st e1 e2 σ w F a hc _ _ fun aw' σ' w' F' hk hcur=>⟨rfl,_,aw',σ',F',hcur,hk⟩)⟩
end
end Go.Proofs.YtchmpaaofmihcaaGreat
namespace Go.Proofs.YtchmpaaofmihcaaGreat
open Go.RowKit
set_option linter.unusedVariables false
set_option linter.unusedSimpArgs false
set_option maxRecDepth 100000
set_option maxHeartbeats 4000000
set_option synthInstance.maxSize 100000
set_option synthInstance.maxHeartbeats 4000000
theorem Y1b (p0:Net) (p1:List (List Item)) (p2:State) (r:(List UInt8) × Int) (h:Q8b p0 p1 p2=some r):Fn Tryz.prog 16 [.agg (Qxa p0),sL (encL Qca) p1,.agg (Q2a p2)] (.tup [.str r.1,iI r.2]):=by
 unfold Q8b at h
 refine fnT 0 Tryz.func16 Tryz.ntmps16 ?_
 refine T.seq (T.region (go 4 0 (RS.nil (T.seq (T.seq ?_)))))
 obtain ⟨x2,hx2,h⟩:=bind_some h
 refine T.region (go 3 2 (sO (cF (Yrd p0 p1 p2 x2 hx2) ⟨rfl,(go 1 2 (RS.nil (T.seq (T.region (go 2 2 (RS.nil (T.ci h rfl (fun hb_1 h=>?_) (fun hb_1 h=>?_))))))))⟩)))
 ·refine T.seq (T.region (go 3 2 (RS.nil ?_)))
  cases h
  exact tD
 refine T.skip (T.seq (T.region (go 1 2 (sO (o_boxW (e:=5) (z:=1) rfl rfl rfl (go 1 4 (RS.nil (T.seq ?_))))))))
 obtain ⟨x4,hx4,h⟩:=bind_some h
 refine T.region (go 3 4 (sQ (Qia Ty.s49 rfl (sO (Qza (aw2:=[.box (Qxa p0),.box (Q2a p2),.boxB 85 [.np 2,.ref 4],.dead,aR 5 1 enc8 x4]) (v':=.tup []) (n0:=4) (n1:=3) [2,3] rfl rfl (Q7a ((p2.At).length:Int) ([]:List Int) x4 hx4) (Zqa rfl ⟨rn_np rfl,Jha rfl,trivial⟩ (Zia rfl Z5a rfl Qfa)) ⟨Qda rfl,Qja rfl,trivial⟩ (Jkb trivial) ⟨.inr ⟨rfl,rfl⟩,.inr ⟨rfl,rfl⟩,.inl ⟨0,_,by decide,rfl,Yia ⟨rm_np (by decide),Zla (by decide),trivial⟩⟩,.inl ⟨1,_,by decide,rfl,trivial⟩,.inl ⟨2,_,by decide,rfl,Jva Z5a⟩,trivial⟩ (RS.nil (T.seq (T.seq (T.region (go 2 5 (sQ (Qia Ty.s49 rfl ?_))))))))))))
 refine go 1 5 (RS.nil (T.block (T.iter (fun ss_4:Int × (List Int)=>mkA 132 [(5,.ptr 0 0),(9,.ptr 1 0),(35,sL encI p2.At),(36,iI ((p2.At).length:Int)),(37,iI ss_4.1)]) (fun ss_4=>[.box (Q2a p2),.boxB 85 [.np 1,.ref 2],aR 5 1 enc8 ss_4.2]) h (Weak.mkN [] [1,2,4] (by decide) (Qma _) rfl ⟨Qda rfl,Qda rfl,rn_s rfl,Qja rfl,Qja rfl,trivial⟩ (rw_bs (Q2a p2) rfl (Zqa (cs:=[.np 1,.ref 2]) (ds:=[.np 2,.ref 4]) rfl ⟨rn_np rfl,Jha rfl,trivial⟩ (rw_ar rfl rfl (Qfa))))) (fun ss_4 v_5 h hv_5=>?_))))
 obtain ⟨s5,s6⟩:=ss_4
 replace h:J0b p2 s5 s6=some v_5:=h
 try dsimp only
 unfold J0b at h
 refine T.seq (T.region (go 1 3 (RS.nil (T.seq (T.ci h rfl (fun hb_6 h=>?_) (fun hb_6 h=>?_))))))
 ·refine T.skip (T.seq (T.block (T.seq ?_)))
  obtain ⟨x8,hx8,h⟩:=bind_some h
  refine T.region (sQ (Qka Ty.s49 (fun _=>rfl) rfl rfl hx8 (go 2 3 (RS.nil ?_))))
  obtain ⟨x9,hx9,h⟩:=bind_some h
  refine T.region (go 2 3 (sO (Qza (aw2:=[.box (Q2a p2),.boxB 85 [.np 1,.ref 3],.dead,aR 5 1 enc8 x9]) (v':=.tup []) (n0:=3) (n1:=3) [1,2] rfl rfl (Q7a x8 s6 x9 hx9) (Zqa rfl ⟨rn_np rfl,Jha rfl,trivial⟩ (Zia rfl Z5a rfl Qfa)) ⟨Qda rfl,Qja rfl,trivial⟩ (Jkb trivial) ⟨.inr ⟨rfl,rfl⟩,.inl ⟨0,_,by decide,rfl,Yia ⟨rm_np (by decide),Zla (by decide),trivial⟩⟩,.inl ⟨1,_,by decide,rfl,trivial⟩,.inl ⟨2,_,by decide,rfl,Jva Z5a⟩,trivial⟩ (RS.nil (T.region (go 2 4 (RS.nil ?_)))))))
  exact ⟨(IntKind.i64.wrap (s5+1),x9),(Option.some.inj h).symm,Weak.mkN [] [0,1,3] (by decide) (Qma _) rfl ⟨Qda rfl,Qda rfl,rn_s rfl,Qja rfl,Qja rfl,trivial⟩ (rw_bs (Q2a p2) rfl (Zqa (cs:=[.np 1,.ref 2]) (ds:=[.np 1,.ref 3]) rfl ⟨rn_np rfl,Jha rfl,trivial⟩ (rw_ar rfl rfl (Qfa))))⟩
 refine T.exit ?_
 obtain ⟨w_7,h,hw_7⟩:=Qpa h
 replace h:=h.trans (congrArg some (hv_5 _ hw_7))
 refine T.seq ?_
 obtain ⟨x11,hx11,h⟩:=bind_some h
 refine T.region (go 3 3 (sQ (Qia Ty.s48 rfl (sO (Qza (aw2:=[.box (Q2a p2),.boxB 85 [.np 1,.ref 3],.dead,aR 5 1 enc8 x11]) (v':=.tup []) (n0:=3) (n1:=3) [1,2] rfl rfl (Q7a ((p2.Rings).length:Int) s6 x11 hx11) (Zqa rfl ⟨rn_np rfl,Jha rfl,trivial⟩ (Zia rfl Z5a rfl Qfa)) ⟨Qda rfl,Qja rfl,trivial⟩ (Jkb trivial) ⟨.inr ⟨rfl,rfl⟩,.inl ⟨0,_,by decide,rfl,Yia ⟨rm_np (by decide),Zla (by decide),trivial⟩⟩,.inl ⟨1,_,by decide,rfl,trivial⟩,.inl ⟨2,_,by decide,rfl,Jva Z5a⟩,trivial⟩ (RS.nil (T.seq (T.seq (T.region (go 2 4 (sQ (Qia Ty.s48 rfl ?_))))))))))))
 refine go 1 4 (RS.nil (T.block (T.iter (fun ss_10:Int × (List Int)=>mkA 132 [(5,.ptr 0 0),(9,.ptr 1 0),(51,sL (encL Qca) p2.Rings),(52,iI ((p2.Rings).length:Int)),(53,iI ss_10.1)]) (fun ss_10=>[.box (Q2a p2),.boxB 85 [.np 1,.ref 2],aR 5 1 enc8 ss_10.2]) h (Weak.mkN [] [0,1,3] (by decide) (Qma _) rfl ⟨Qda rfl,Qda rfl,rn_s rfl,Qja rfl,Qja rfl,trivial⟩ (rw_bs (Q2a p2) rfl (Zqa (cs:=[.np 1,.ref 2]) (ds:=[.np 1,.ref 3]) rfl ⟨rn_np rfl,Jha rfl,trivial⟩ (rw_ar rfl rfl (Qfa))))) (fun ss_10 v_11 h hv_11=>?_))))
 obtain ⟨s12,s13⟩:=ss_10
 replace h:J5b p2 s12 s13=some v_11:=h
 try dsimp only
 unfold J5b at h
 refine T.seq (T.region (go 1 3 (RS.nil (T.seq (T.ci h rfl (fun hb_12 h=>?_) (fun hb_12 h=>?_))))))
 ·refine T.skip (T.seq (T.block (T.seq ?_)))
  obtain ⟨x15,hx15,h⟩:=bind_some h
  refine T.region (sQ (Qka Ty.s48 (fun _=>rfl) rfl rfl hx15 (go 2 3 (RS.nil ?_))))
  obtain ⟨x16,hx16,h⟩:=bind_some h
  refine T.region (go 2 3 (sO (Qza (aw2:=[.box (Q2a p2),.boxB 85 [.np 1,.ref 3],.dead,aR 5 1 enc8 x16]) (v':=.tup []) (n0:=3) (n1:=3) [1,2] rfl rfl (Zeb x15 s13 x16 hx16) (Zqa rfl ⟨rn_np rfl,Jha rfl,trivial⟩ (Zia rfl Z5a rfl Qfa)) ⟨Qda rfl,rn_s rfl,trivial⟩ (Jkb trivial) ⟨.inr ⟨rfl,rfl⟩,.inl ⟨0,_,by decide,rfl,Yia ⟨rm_np (by decide),Zla (by decide),trivial⟩⟩,.inl ⟨1,_,by decide,rfl,trivial⟩,.inl ⟨2,_,by decide,rfl,Jva Z5a⟩,trivial⟩ (RS.nil (T.region (go 2 4 (RS.nil ?_)))))))
  exact ⟨(IntKind.i64.wrap (s12+1),x16),(Option.some.inj h).symm,Weak.mkN [] [0,1,3] (by decide) (Qma _) rfl ⟨Qda rfl,Qda rfl,rn_s rfl,Qja rfl,Qja rfl,trivial⟩ (rw_bs (Q2a p2) rfl (Zqa (cs:=[.np 1,.ref 2]) (ds:=[.np 1,.ref 3]) rfl ⟨rn_np rfl,Jha rfl,trivial⟩ (rw_ar rfl rfl (Qfa))))⟩
 refine T.exit ?_
 obtain ⟨w_13,h,hw_13⟩:=Qpa h
 replace h:=h.trans (congrArg some (hv_11 _ hw_13))
 refine T.seq ?_
 obtain ⟨x18,hx18,h⟩:=bind_some h
 refine T.region (go 3 3 (sQ (Qia Ty.s50 rfl (sO (Qza (aw2:=[.box (Q2a p2),.boxB 85 [.np 1,.ref 3],.dead,aR 5 1 enc8 x18]) (v':=.tup []) (n0:=3) (n1:=3) [1,2] rfl rfl (Q7a ((p2.Memory).length:Int) s13 x18 hx18) (Zqa rfl ⟨rn_np rfl,Jha rfl,trivial⟩ (Zia rfl Z5a rfl Qfa)) ⟨Qda rfl,Qja rfl,trivial⟩ (Jkb trivial) ⟨.inr ⟨rfl,rfl⟩,.inl ⟨0,_,by decide,rfl,Yia ⟨rm_np (by decide),Zla (by decide),trivial⟩⟩,.inl ⟨1,_,by decide,rfl,trivial⟩,.inl ⟨2,_,by decide,rfl,Jva Z5a⟩,trivial⟩ (RS.nil (T.seq (T.seq (T.region (go 2 4 (sQ (Qia Ty.s50 rfl ?_))))))))))))
 refine go 1 4 (RS.nil (T.block (T.iter (fun ss_28:Int × (List Int)=>mkA 132 [(5,.ptr 0 0),(9,.ptr 1 0),(67,sL Qla p2.Memory),(68,iI ((p2.Memory).length:Int)),(69,iI ss_28.1)]) (fun ss_28=>[.box (Q2a p2),.boxB 85 [.np 1,.ref 2],aR 5 1 enc8 ss_28.2]) h (Weak.mkN [] [0,1,3] (by decide) (Qma _) rfl ⟨Qda rfl,Qda rfl,rn_s rfl,Qja rfl,Qja rfl,trivial⟩ (rw_bs (Q2a p2) rfl (Zqa (cs:=[.np 1,.ref 2]) (ds:=[.np 1,.ref 3]) rfl ⟨rn_np rfl,Jha rfl,trivial⟩ (rw_ar rfl rfl (Qfa))))) (fun ss_28 v_29 h hv_29=>?_))))
 obtain ⟨s19,s20⟩:=ss_28
 replace h:Jyb p2 s19 s20=some v_29:=h
 try dsimp only
 unfold Jyb at h
 refine T.seq (T.region (go 1 3 (RS.nil (T.seq (T.ci h rfl (fun hb_30 h=>?_) (fun hb_30 h=>?_))))))
 ·refine T.skip (T.seq (T.block (T.seq ?_)))
  obtain ⟨x22,hx22,h⟩:=bind_some h
  refine T.region (sQ (Qka Ty.s50 (fun _=>rfl) rfl rfl hx22 (go 3 3 (RS.nil (T.seq ?_)))))
  obtain ⟨x24,hx24,h⟩:=bind_some h
  refine T.region (go 3 4 (sO (Qza (aw2:=[.box (Q2a p2),.boxB 85 [.np 1,.ref 4],.dead,.box (Qla x22),aR 5 1 enc8 x24]) (v':=.tup []) (n0:=4) (n1:=3) [1,2] rfl rfl (Q7a x22.Sum s20 x24 hx24) (Zqa rfl ⟨rn_np rfl,Jha rfl,trivial⟩ (Zia rfl Z5a rfl Qfa)) ⟨Qda rfl,Qja rfl,trivial⟩ (Jkb trivial) ⟨.inr ⟨rfl,rfl⟩,.inl ⟨0,_,by decide,rfl,Yia ⟨rm_np (by decide),Zla (by decide),trivial⟩⟩,.inl ⟨1,_,by decide,rfl,trivial⟩,.inr ⟨rfl,rfl⟩,.inl ⟨2,_,by decide,rfl,Jva Z5a⟩,trivial⟩ (RS.nil (T.seq ?_)))))
  obtain ⟨x26,hx26,h⟩:=bind_some h
  refine T.region (go 3 5 (sO (Qza (aw2:=[.box (Q2a p2),.boxB 85 [.np 1,.ref 5],.dead,.box (Qla x22),.dead,aR 5 1 enc8 x26]) (v':=.tup []) (n0:=5) (n1:=3) [1,4] rfl rfl (Q7a x22.Dep x24 x26 hx26) (Zqa rfl ⟨rn_np rfl,Jha rfl,trivial⟩ (Zia rfl Z5a rfl Qfa)) ⟨Qda rfl,Qja rfl,trivial⟩ (Jkb trivial) ⟨.inr ⟨rfl,rfl⟩,.inl ⟨0,_,by decide,rfl,Yia ⟨rm_np (by decide),Zla (by decide),trivial⟩⟩,.inr ⟨rfl,rfl⟩,.inr ⟨rfl,rfl⟩,.inl ⟨1,_,by decide,rfl,trivial⟩,.inl ⟨2,_,by decide,rfl,Jva Z5a⟩,trivial⟩ (RS.nil (T.seq ?_)))))
  obtain ⟨x28,hx28,h⟩:=bind_some h
  refine T.region (go 3 6 (sQ (Qia Ty.s88 rfl (sO (Qza (aw2:=[.box (Q2a p2),.boxB 85 [.np 1,.ref 6],.dead,.box (Qla x22),.dead,.dead,aR 5 1 enc8 x28]) (v':=.tup []) (n0:=6) (n1:=3) [1,5] rfl rfl (Q7a ((x22.Keys).length:Int) x26 x28 hx28) (Zqa rfl ⟨rn_np rfl,Jha rfl,trivial⟩ (Zia rfl Z5a rfl Qfa)) ⟨Qda rfl,Qja rfl,trivial⟩ (Jkb trivial) ⟨.inr ⟨rfl,rfl⟩,.inl ⟨0,_,by decide,rfl,Yia ⟨rm_np (by decide),Zla (by decide),trivial⟩⟩,.inr ⟨rfl,rfl⟩,.inr ⟨rfl,rfl⟩,.inr ⟨rfl,rfl⟩,.inl ⟨1,_,by decide,rfl,trivial⟩,.inl ⟨2,_,by decide,rfl,Jva Z5a⟩,trivial⟩ (RS.nil (T.seq (T.region (go 2 7 (sQ (Qia Ty.s88 rfl (go 1 7 ?_))))))))))))
  refine RS.nil (T.block (T.iter (fun ss_33:Int × (List Int)=>mkA 132 [(5,.ptr 0 0),(9,.ptr 1 0),(67,sL Qla p2.Memory),(68,iI ((p2.Memory).length:Int)),(69,iI s19),(87,sL Qwa x22.Keys),(88,iI ((x22.Keys).length:Int)),(89,iI ss_33.1)]) (fun ss_33=>[.box (Q2a p2),.boxB 85 [.np 1,.ref 2],aR 5 1 enc8 ss_33.2]) h (Weak.mkN [] [0,1,6] (by decide) (Qma _) rfl ⟨Qda rfl,Qda rfl,rn_s rfl,Qja rfl,Qja rfl,rn_s rfl,Qja rfl,Qja rfl,trivial⟩ (rw_bs (Q2a p2) rfl (Zqa (cs:=[.np 1,.ref 2]) (ds:=[.np 1,.ref 6]) rfl ⟨rn_np rfl,Jha rfl,trivial⟩ (rw_ar rfl rfl (Qfa))))) (fun ss_33 v_34 h hv_34=>?_)))
  obtain ⟨s29,s30⟩:=ss_33
  replace h:Z9b s19 x22 s29 s30=some v_34:=h
  try dsimp only
  unfold Z9b at h
  refine T.seq (T.region (go 1 3 (RS.nil (T.seq (T.ci h rfl (fun hb_35 h=>?_) (fun hb_35 h=>?_))))))
  ·refine T.skip (T.seq (T.block (T.seq ?_)))
   obtain ⟨x32,hx32,h⟩:=bind_some h
   refine T.region (sQ (Qka Ty.s88 (fun _=>rfl) rfl rfl hx32 (go 3 3 (RS.nil (T.seq ?_)))))
   obtain ⟨x34,hx34,h⟩:=bind_some h
   refine T.region (go 3 4 (sO (Qza (aw2:=[.box (Q2a p2),.boxB 85 [.np 1,.ref 4],.dead,.box (Qwa x32),aR 5 1 enc8 x34]) (v':=.tup []) (n0:=4) (n1:=3) [1,2] rfl rfl (Q7a x32.Key s30 x34 hx34) (Zqa rfl ⟨rn_np rfl,Jha rfl,trivial⟩ (Zia rfl Z5a rfl Qfa)) ⟨Qda rfl,Qja rfl,trivial⟩ (Jkb trivial) ⟨.inr ⟨rfl,rfl⟩,.inl ⟨0,_,by decide,rfl,Yia ⟨rm_np (by decide),Zla (by decide),trivial⟩⟩,.inl ⟨1,_,by decide,rfl,trivial⟩,.inr ⟨rfl,rfl⟩,.inl ⟨2,_,by decide,rfl,Jva Z5a⟩,trivial⟩ (RS.nil ?_))))
   obtain ⟨x35,hx35,h⟩:=bind_some h
   refine T.region (go 3 5 (sO (Qza (aw2:=[.box (Q2a p2),.boxB 85 [.np 1,.ref 5],.dead,.box (Qwa x32),.dead,aR 5 1 enc8 x35]) (v':=.tup []) (n0:=5) (n1:=3) [1,4] rfl rfl (Q7a x32.N x34 x35 hx35) (Zqa rfl ⟨rn_np rfl,Jha rfl,trivial⟩ (Zia rfl Z5a rfl Qfa)) ⟨Qda rfl,Qja rfl,trivial⟩ (Jkb trivial) ⟨.inr ⟨rfl,rfl⟩,.inl ⟨0,_,by decide,rfl,Yia ⟨rm_np (by decide),Zla (by decide),trivial⟩⟩,.inr ⟨rfl,rfl⟩,.inr ⟨rfl,rfl⟩,.inl ⟨1,_,by decide,rfl,trivial⟩,.inl ⟨2,_,by decide,rfl,Jva Z5a⟩,trivial⟩ (RS.nil (T.region (go 2 6 (RS.nil ?_)))))))
   exact ⟨(IntKind.i64.wrap (s29+1),x35),(Option.some.inj h).symm,Weak.mkN [] [0,1,5] (by decide) (Qma _) rfl ⟨Qda rfl,Qda rfl,rn_s rfl,Qja rfl,Qja rfl,rn_s rfl,Qja rfl,Qja rfl,trivial⟩ (rw_bs (Q2a p2) rfl (Zqa (cs:=[.np 1,.ref 2]) (ds:=[.np 1,.ref 5]) rfl ⟨rn_np rfl,Jha rfl,trivial⟩ (rw_ar rfl rfl (Qfa))))⟩
  refine T.exit ?_
  obtain ⟨w_36,h,hw_36⟩:=Qpa h
  replace h:=h.trans (congrArg some (hv_34 _ hw_36))
  refine T.region (go 2 3 (RS.nil ?_))
  exact ⟨(IntKind.i64.wrap (s19+1),s30),(Option.some.inj h).symm,Weak.mkN [] [0,1,2] (by decide) (Qma _) rfl ⟨Qda rfl,Qda rfl,rn_s rfl,Qja rfl,Qja rfl,trivial⟩ (rw_bs (Q2a p2) rfl (Zqa (cs:=[.np 1,.ref 2]) (ds:=[.np 1,.ref 2]) rfl ⟨rn_np rfl,Jha rfl,trivial⟩ (rw_ar rfl rfl (Qfa))))⟩
 refine T.exit ?_
 obtain ⟨w_37,h,hw_37⟩:=Qpa h
 replace h:=h.trans (congrArg some (hv_29 _ hw_37))
 refine T.seq ?_
 obtain ⟨x37,hx37,h⟩:=bind_some h
 refine T.region (go 3 3 (sQ (Qia Ty.s51 rfl (sO (Qza (aw2:=[.box (Q2a p2),.boxB 85 [.np 1,.ref 3],.dead,aR 5 1 enc8 x37]) (v':=.tup []) (n0:=3) (n1:=3) [1,2] rfl rfl (Q7a ((p2.Choices).length:Int) s20 x37 hx37) (Zqa rfl ⟨rn_np rfl,Jha rfl,trivial⟩ (Zia rfl Z5a rfl Qfa)) ⟨Qda rfl,Qja rfl,trivial⟩ (Jkb trivial) ⟨.inr ⟨rfl,rfl⟩,.inl ⟨0,_,by decide,rfl,Yia ⟨rm_np (by decide),Zla (by decide),trivial⟩⟩,.inl ⟨1,_,by decide,rfl,trivial⟩,.inl ⟨2,_,by decide,rfl,Jva Z5a⟩,trivial⟩ (RS.nil (T.seq (T.seq (T.region (go 2 4 (sQ (Qia Ty.s51 rfl ?_))))))))))))
 refine go 1 4 (RS.nil (T.block (T.iter (fun ss_40:Int × (List Int)=>mkA 132 [(5,.ptr 0 0),(9,.ptr 1 0),(109,sL Qta p2.Choices),(110,iI ((p2.Choices).length:Int)),(111,iI ss_40.1)]) (fun ss_40=>[.box (Q2a p2),.boxB 85 [.np 1,.ref 2],aR 5 1 enc8 ss_40.2]) h (Weak.mkN [] [0,1,3] (by decide) (Qma _) rfl ⟨Qda rfl,Qda rfl,rn_s rfl,Qja rfl,Qja rfl,trivial⟩ (rw_bs (Q2a p2) rfl (Zqa (cs:=[.np 1,.ref 2]) (ds:=[.np 1,.ref 3]) rfl ⟨rn_np rfl,Jha rfl,trivial⟩ (rw_ar rfl rfl (Qfa))))) (fun ss_40 v_41 h hv_41=>?_))))
 obtain ⟨s38,s39⟩:=ss_40
 replace h:Jtb p2 s38 s39=some v_41:=h
 try dsimp only
 unfold Jtb at h
 refine T.seq (T.region (go 1 3 (RS.nil (T.seq (T.ci h rfl (fun hb_42 h=>?_) (fun hb_42 h=>?_))))))
 ·refine T.skip (T.seq (T.block (T.seq ?_)))
  obtain ⟨x41,hx41,h⟩:=bind_some h
  refine T.region (sQ (Qka Ty.s51 (fun _=>rfl) rfl rfl hx41 (go 3 3 (RS.nil (T.seq ?_)))))
  obtain ⟨x43,hx43,h⟩:=bind_some h
  refine T.region (go 3 4 (sO (Qza (aw2:=[.box (Q2a p2),.boxB 85 [.np 1,.ref 4],.dead,.box (Qta x41),aR 5 1 enc8 x43]) (v':=.tup []) (n0:=4) (n1:=3) [1,2] rfl rfl (Q7a x41.Node s39 x43 hx43) (Zqa rfl ⟨rn_np rfl,Jha rfl,trivial⟩ (Zia rfl Z5a rfl Qfa)) ⟨Qda rfl,Qja rfl,trivial⟩ (Jkb trivial) ⟨.inr ⟨rfl,rfl⟩,.inl ⟨0,_,by decide,rfl,Yia ⟨rm_np (by decide),Zla (by decide),trivial⟩⟩,.inl ⟨1,_,by decide,rfl,trivial⟩,.inr ⟨rfl,rfl⟩,.inl ⟨2,_,by decide,rfl,Jva Z5a⟩,trivial⟩ (RS.nil ?_))))
  obtain ⟨x44,hx44,h⟩:=bind_some h
  refine T.region (go 3 5 (sO (Qza (aw2:=[.box (Q2a p2),.boxB 85 [.np 1,.ref 5],.dead,.box (Qta x41),.dead,aR 5 1 enc8 x44]) (v':=.tup []) (n0:=5) (n1:=3) [1,4] rfl rfl (Q7a x41.Lane x43 x44 hx44) (Zqa rfl ⟨rn_np rfl,Jha rfl,trivial⟩ (Zia rfl Z5a rfl Qfa)) ⟨Qda rfl,Qja rfl,trivial⟩ (Jkb trivial) ⟨.inr ⟨rfl,rfl⟩,.inl ⟨0,_,by decide,rfl,Yia ⟨rm_np (by decide),Zla (by decide),trivial⟩⟩,.inr ⟨rfl,rfl⟩,.inr ⟨rfl,rfl⟩,.inl ⟨1,_,by decide,rfl,trivial⟩,.inl ⟨2,_,by decide,rfl,Jva Z5a⟩,trivial⟩ (RS.nil (T.region (go 2 6 (RS.nil ?_)))))))
  exact ⟨(IntKind.i64.wrap (s38+1),x44),(Option.some.inj h).symm,Weak.mkN [] [0,1,5] (by decide) (Qma _) rfl ⟨Qda rfl,Qda rfl,rn_s rfl,Qja rfl,Qja rfl,trivial⟩ (rw_bs (Q2a p2) rfl (Zqa (cs:=[.np 1,.ref 2]) (ds:=[.np 1,.ref 5]) rfl ⟨rn_np rfl,Jha rfl,trivial⟩ (rw_ar rfl rfl (Qfa))))⟩
 refine T.exit ?_
 obtain ⟨w_43,h,hw_43⟩:=Qpa h
 replace h:=h.trans (congrArg some (hv_41 _ hw_43))
 refine T.seq ?_
 obtain ⟨x46,hx46,h⟩:=bind_some h
 refine T.region (go 3 3 (sO (Qza (aw2:=[.box (Q2a p2),.boxB 85 [.np 1,.ref 3],.dead,aR 5 1 enc8 x46]) (v':=.tup []) (n0:=3) (n1:=3) [1,2] rfl rfl (Zeb p2.Out s39 x46 hx46) (Zqa rfl ⟨rn_np rfl,Jha rfl,trivial⟩ (Zia rfl Z5a rfl Qfa)) ⟨Qda rfl,rn_s rfl,trivial⟩ (Jkb trivial) ⟨.inr ⟨rfl,rfl⟩,.inl ⟨0,_,by decide,rfl,Yia ⟨rm_np (by decide),Zla (by decide),trivial⟩⟩,.inl ⟨1,_,by decide,rfl,trivial⟩,.inl ⟨2,_,by decide,rfl,Jva Z5a⟩,trivial⟩ (RS.nil (T.seq ?_)))))
 obtain ⟨x48,hx48,h⟩:=bind_some h
 refine T.region (go 3 4 (sO (Qza (aw2:=[.box (Q2a p2),.dead,.dead,.dead]) (v':=.str x48) (n0:=4) (n1:=2) [1,3] rfl rfl (Vdd x46 x48 hx48) (Zqa rfl ⟨rn_np rfl,Jha rfl,trivial⟩ (Zia rfl Z5a rfl Qfa)) ⟨Qda rfl,trivial⟩ (Qea (Q1a _)) ⟨.inr ⟨rfl,rfl⟩,.inl ⟨0,_,by decide,rfl,trivial⟩,.inr ⟨rfl,rfl⟩,.inl ⟨1,_,by decide,rfl,trivial⟩,trivial⟩ (go 2 4 (RS.nil ?_)))))
 cases h
 exact tD
theorem Qaa (p0:List UInt8) (r:(Int × (List UInt8)) ⊕ Unit) (h:Qua p0=some r):FnP Tryz.prog (.iface 97 (.agg #[])) 43 [.ptr 0 0] [.box [.str p0]] (fun r:Int × (List UInt8)=>iI r.1) (fun r=>[.box [.str r.2]]) r:=by
 unfold Qua at h
 refine fnPT 1 Tryz.func43 Tryz.ntmps43 ?_
 refine T.seq (T.region (go 1 1 (RS.nil (T.seq (T.region (go 1 1 (RS.nil (T.seq (T.seq ?_)))))))))
 refine T.region (go 7 1 (RS.nil (T.block (T.iter (fun ss_5:Int × Int=>mkA 55 [(0,.ptr 0 0),(2,iI 0),(3,.int .u64 ss_5.1),(10,iI (if ((p0).length:Int)<10 then ((p0).length:Int) else 10)),(11,iI ss_5.2)]) (fun ss_5=>[.box [.str p0]]) h (wk [] [0] 1 rfl) (fun ss_5 v_6 h hv_6=>?_)))))
 obtain ⟨s1,s2⟩:=ss_5
 replace h:Q0a p0 s1 s2=some v_6:=h
 try dsimp only
 unfold Q0a at h
 refine T.seq (T.region (go 1 1 (RS.nil (T.seq (T.ci h rfl (fun hb_7 h=>?_) (fun hb_7 h=>?_))))))
 ·refine T.skip (T.seq (T.block (T.seq (T.region (go 2 1 (RS.nil (T.seq ?_)))))))
  obtain ⟨x5,hx5,h⟩:=bind_some h
  obtain ⟨x6,hx6,h⟩:=bind_some h
  refine T.region (go 6 1 (sQ (J9a Tryz.underlying9 rfl rfl hx5 (go 4 1 (sQ (v_shl rfl rfl hx6 (go 2 1 (RS.nil (T.seq ?_)))))))))
  obtain ⟨x8,hx8,h⟩:=bind_some h
  refine T.region (go 5 1 (sQ (J9a Tryz.underlying9 rfl rfl hx8 (go 1 1 (RS.nil (T.ci h rfl (fun hb_8 h=>?_) (fun hb_8 h=>?_)))))))
  ·refine T.seq ?_
   obtain ⟨x10,hx10,h⟩:=bind_some h
   refine T.region (go 7 1 (sO (Vfb Tryz.underlying9 rfl rfl rfl hx10 (go 3 1 (RS.nil (T.seq ?_))))))
   obtain ⟨x12,hx12,h⟩:=bind_some h
   refine T.region (go 1 1 (sQ (v_shr rfl rfl hx12 (go 7 1 (RS.nil ?_)))))
   obtain ⟨w_9,h,hw_9⟩:=Qpa h
   replace h:=h.trans (congrArg some (hv_6 _ hw_9))
   cases h
   exact tN [0]
  refine T.skip (T.region (go 2 1 (RS.nil ?_)))
  exact ⟨(ibits .or .u64 s1 x6,IntKind.i64.wrap (s2+1)),(Option.some.inj h).symm,wk [] [0] 1 rfl⟩
 refine T.exit ?_
 obtain ⟨w_10,h,hw_10⟩:=Qpa h
 replace h:=h.trans (congrArg some (hv_6 _ hw_10))
 cases h
 refine T.rP (V:=(.iface 97 (.agg #[]))) 2 rfl (go 1 1 (sO (Yob Tryz.underlying97 rfl rfl ?_)))
 exact RS.nil (PP.panic rfl rfl)
theorem Vzb (p0:List UInt8) (r:((List Int) × (List UInt8)) ⊕ Unit) (h:V6a p0=some r):FnP Tryz.prog (.iface 97 (.agg #[])) 42 [.ptr 0 0,.bnd 43 [.ptr 0 0]] [.box [.str p0]] (fun r:(List Int) × (List UInt8)=>.ref 1) (fun r=>[.box [.str r.2],aR 3 1 encI r.1]) r:=by
 unfold V6a at h
 refine fnPT 1 Tryz.func42 Tryz.ntmps42 ?_
 refine T.seq (T.region (go 1 1 (RS.nil (T.seq (Jza h (fun hx2 h=>?_) (fun x2 hx2 h=>?_))))))
 ·cases h
  refine T.rP (V:=(.iface 97 (.agg #[]))) 1 rfl (go 1 1 ?_)
  exact RS.nil (qc (aw2:=[.dead]) (n0:=1) (n1:=1) [0] rfl rfl (Qaa p0 (.inr ()) hx2) (Qoa rfl ⟨Qva rfl,trivial⟩ Qfa) ⟨Qda rfl,trivial⟩ ⟨.inl ⟨0,_,by decide,rfl,trivial⟩,trivial⟩ rfl)
 refine T.region (go 1 1 (sO (Qza (aw2:=[.box [.str x2.2]]) (v':=iI x2.1) (n0:=1) (n1:=1) [0] rfl rfl (Qaa p0 (.inl x2) hx2) (Qoa rfl ⟨Qva rfl,trivial⟩ Qfa) ⟨Qda rfl,trivial⟩ (Qea (Qba _ _)) ⟨.inl ⟨0,_,by decide,rfl,Qya ⟨Qea (Q1a _),trivial⟩⟩,trivial⟩ (go 1 1 (RS.nil (T.seq (T.join (Z:=Unit) (fun _=>mkA 32 [(1,.bnd 43 [.ptr 0 0]),(5,iI x2.1),(19,.bool ((decide (x2.1<0)) || decide (x2.1 > ((x2.2).length:Int))))]) (fun _=>[.box [.str x2.2]]) (fun _=>True) (fun _ _=>?_) (fun hK=>?_))))))))
 ·refine T.ci h rfl (fun hb_2 h=>?_) (fun hb_2 h=>?_)
  ·cases h
   refine T.rP (V:=(.iface 97 (.agg #[]))) 2 rfl (go 1 1 (sO (Yob Tryz.underlying97 rfl rfl ?_)))
   exact RS.nil (PP.panic rfl rfl)
  refine T.skip (T.seq (T.region (go 1 1 (RS.nil (T.seq (T.seq (T.region (go 2 1 (RS.nil ?_)))))))))
  refine T.block (T.iter (fun ss_5:Int × (List UInt8) × (List Int)=>mkA 32 [(1,.bnd 43 [.ptr 0 0]),(6,.ref 1),(22,iI x2.1),(23,iI ss_5.1)]) (fun ss_5=>[.box [.str ss_5.2.1],aR 3 1 encI ss_5.2.2]) h (wk [(6,3,1)] [0,1] 1 rfl) (fun ss_5 v_6 h hv_6=>?_))
  obtain ⟨s4,s5,s6⟩:=ss_5
  replace h:J4a x2 s4 s5 s6=some v_6:=h
  try dsimp only
  unfold J4a at h
  refine T.seq (T.region (go 1 2 (RS.nil (T.seq (T.ci h rfl (fun hb_7 h=>?_) (fun hb_7 h=>?_))))))
  ·refine T.skip (T.seq (T.block (Jza h (fun hx7 h=>?_) (fun x7 hx7 h=>?_))))
   ·obtain ⟨w_8,h,hw_8⟩:=Qpa h
    replace h:=h.trans (congrArg some (hv_6 _ hw_8))
    cases h
    refine T.rP (V:=(.iface 97 (.agg #[]))) 2 rfl (go 2 2 ?_)
    exact RS.nil (qcb (aw2:=[.dead,aR 3 1 encI s6]) (n0:=2) (n1:=1) [0] rfl rfl (Qaa s5 (.inr ()) hx7) (Qoa rfl ⟨Qva rfl,trivial⟩ Qfa) ⟨Qda rfl,trivial⟩ ⟨.inl ⟨0,_,by decide,rfl,trivial⟩,.inr ⟨rfl,rfl⟩,trivial⟩ rfl)
   obtain ⟨x8,hx8,h⟩:=bind_some h
   refine T.region (go 2 2 (sO (Zpd (aw2:=[.box [.str x7.2],aR 3 1 encI s6]) (v':=iI x7.1) (n0:=2) (n1:=1) [0] rfl rfl (Qaa s5 (.inl x7) hx7) (Qoa rfl ⟨Qva rfl,trivial⟩ Qfa) ⟨Qda rfl,trivial⟩ (Qea (Qba _ _)) ⟨.inl ⟨0,_,by decide,rfl,Qya ⟨Qea (Q1a _),trivial⟩⟩,.inr ⟨rfl,rfl⟩,trivial⟩ (sO (Q9a (rows:=List.map encI [x7.1]) (vs:=[iI x7.1]) Ty.s49 Ty.z3 rfl rfl rfl rfl rfl rfl (sO (Voa (en:=encI) (xs:=s6) (ys:=([x7.1]:List Int)) Ty.s49 (fun _=>rfl) rfl rfl rfl hx8 rfl rfl (go 1 4 (RS.nil (T.region (go 2 4 (RS.nil ?_))))))))))))
   exact ⟨(IntKind.i64.wrap (s4+1),x7.2,x8),(Option.some.inj h).symm,wk [] [0,3] 4 rfl⟩
  refine T.exit ?_
  obtain ⟨w_9,h,hw_9⟩:=Qpa h
  replace h:=h.trans (congrArg some (hv_6 _ hw_9))
  refine T.seq (T.region (go 2 2 (RS.nil ?_)))
  cases h
  exact tO [] [0,1] 2
 refine T.region (go 3 1 ?_)
 rcases Qga (decide (x2.1<0)) with hb_1 | hb_1
 ·refine sN hb_1 (sN hb_1 (sN hb_1 (sN hb_1 (sN hb_1 (sN hb_1 (sN hb_1 (sQ (Qna (v:=.bool true) rfl hb_1 rfl (RS.nil ?_)))))))))
  exact T.sub (hK () trivial) ⟨rfl,rfl,(congrArg AV.bool (by simp only [hb_1,bz,if_true,if_false,Bool.false_eq_true])).symm,trivial⟩
 refine yg 1 hb_1 (yg 1 hb_1 (yg 1 hb_1 (yg 1 hb_1 (yg 1 hb_1 (yg 1 hb_1 (yg 1 hb_1 (sQ (Qha (v:=.bool (decide (x2.1 > ((x2.2).length:Int)))) rfl hb_1 rfl (RS.nil ?_)))))))))
 exact T.sub (hK () trivial) ⟨rfl,rfl,(congrArg AV.bool (by simp only [hb_1,bz,if_true,if_false,Bool.false_eq_true])).symm,trivial⟩
theorem Zqb (p0:List UInt8) (r:(Item × (List UInt8)) ⊕ Unit) (h:Zxa p0=some r):FnP Tryz.prog (.iface 97 (.agg #[])) 77 [.ptr 0 0] [.box [.str p0]] (fun r:Item × (List UInt8)=>.agg (Qca r.1)) (fun r=>[.box [.str r.2]]) r:=by
 unfold Zxa at h
 refine fnPT 1 Tryz.func77 Tryz.ntmps77 ?_
 refine T.seq (T.region (go 1 1 (RS.nil (T.seq (Jza h (fun hx4 h=>?_) (fun x4 hx4 h=>?_))))))
 ·cases h
  refine T.rP (V:=(.iface 97 (.agg #[]))) 1 rfl (go 1 2 ?_)
  exact RS.nil (qc (aw2:=[.dead,.box [iI 0,iI 0,iI 0]]) (n0:=2) (n1:=1) [0] rfl rfl (Qaa p0 (.inr ()) hx4) (Qoa rfl ⟨Qva rfl,trivial⟩ Qfa) ⟨Qda rfl,trivial⟩ ⟨.inl ⟨0,_,by decide,rfl,trivial⟩,.inr ⟨rfl,rfl⟩,trivial⟩ rfl)
 refine Jza h (fun hx5 h=>?_) (fun x5 hx5 h=>?_)
 ·cases h
  refine T.rP (V:=(.iface 97 (.agg #[]))) 3 rfl (go 1 2 (sO (Qza (aw2:=[.box [.str x4.2],.box [iI 0,iI 0,iI 0]]) (v':=iI x4.1) (n0:=2) (n1:=1) [0] rfl rfl (Qaa p0 (.inl x4) hx4) (Qoa rfl ⟨Qva rfl,trivial⟩ Qfa) ⟨Qda rfl,trivial⟩ (Qea (Qba _ _)) ⟨.inl ⟨0,_,by decide,rfl,Qya ⟨Qea (Q1a _),trivial⟩⟩,.inr ⟨rfl,rfl⟩,trivial⟩ (go 1 2 ?_))))
  exact RS.nil (qc (aw2:=[.dead,.box [iI 0,iI 0,iI 0]]) (n0:=2) (n1:=1) [0] rfl rfl (Qaa x4.2 (.inr ()) hx5) (Qoa rfl ⟨Qva rfl,trivial⟩ Qfa) ⟨Qda rfl,trivial⟩ ⟨.inl ⟨0,_,by decide,rfl,trivial⟩,.inr ⟨rfl,rfl⟩,trivial⟩ rfl)
 refine Jza h (fun hx6 h=>?_) (fun x6 hx6 h=>?_)
 ·cases h
  refine T.rP (V:=(.iface 97 (.agg #[]))) 5 rfl (go 1 2 (sO (Qza (aw2:=[.box [.str x4.2],.box [iI 0,iI 0,iI 0]]) (v':=iI x4.1) (n0:=2) (n1:=1) [0] rfl rfl (Qaa p0 (.inl x4) hx4) (Qoa rfl ⟨Qva rfl,trivial⟩ Qfa) ⟨Qda rfl,trivial⟩ (Qea (Qba _ _)) ⟨.inl ⟨0,_,by decide,rfl,Qya ⟨Qea (Q1a _),trivial⟩⟩,.inr ⟨rfl,rfl⟩,trivial⟩ (go 1 2 (sO (Qza (aw2:=[.box [.str x5.2],.box [iI 0,iI 0,iI 0]]) (v':=iI x5.1) (n0:=2) (n1:=1) [0] rfl rfl (Qaa x4.2 (.inl x5) hx5) (Qoa rfl ⟨Qva rfl,trivial⟩ Qfa) ⟨Qda rfl,trivial⟩ (Qea (Qba _ _)) ⟨.inl ⟨0,_,by decide,rfl,Qya ⟨Qea (Q1a _),trivial⟩⟩,.inr ⟨rfl,rfl⟩,trivial⟩ (go 1 2 ?_)))))))
  exact RS.nil (qc (aw2:=[.dead,.box [iI 0,iI 0,iI 0]]) (n0:=2) (n1:=1) [0] rfl rfl (Qaa x5.2 (.inr ()) hx6) (Qoa rfl ⟨Qva rfl,trivial⟩ Qfa) ⟨Qda rfl,trivial⟩ ⟨.inl ⟨0,_,by decide,rfl,trivial⟩,.inr ⟨rfl,rfl⟩,trivial⟩ rfl)
 refine T.region (go 1 2 (sO (Qza (aw2:=[.box [.str x4.2],.box [iI 0,iI 0,iI 0]]) (v':=iI x4.1) (n0:=2) (n1:=1) [0] rfl rfl (Qaa p0 (.inl x4) hx4) (Qoa rfl ⟨Qva rfl,trivial⟩ Qfa) ⟨Qda rfl,trivial⟩ (Qea (Qba _ _)) ⟨.inl ⟨0,_,by decide,rfl,Qya ⟨Qea (Q1a _),trivial⟩⟩,.inr ⟨rfl,rfl⟩,trivial⟩ (go 1 2 (sO (Qza (aw2:=[.box [.str x5.2],.box [iI 0,iI 0,iI 0]]) (v':=iI x5.1) (n0:=2) (n1:=1) [0] rfl rfl (Qaa x4.2 (.inl x5) hx5) (Qoa rfl ⟨Qva rfl,trivial⟩ Qfa) ⟨Qda rfl,trivial⟩ (Qea (Qba _ _)) ⟨.inl ⟨0,_,by decide,rfl,Qya ⟨Qea (Q1a _),trivial⟩⟩,.inr ⟨rfl,rfl⟩,trivial⟩ (go 1 2 (sO (Qza (aw2:=[.box [.str x6.2],.box [iI 0,iI 0,iI 0]]) (v':=iI x6.1) (n0:=2) (n1:=1) [0] rfl rfl (Qaa x5.2 (.inl x6) hx6) (Qoa rfl ⟨Qva rfl,trivial⟩ Qfa) ⟨Qda rfl,trivial⟩ (Qea (Qba _ _)) ⟨.inl ⟨0,_,by decide,rfl,Qya ⟨Qea (Q1a _),trivial⟩⟩,.inr ⟨rfl,rfl⟩,trivial⟩ (go 2 2 (RS.nil ?_)))))))))))
 cases h
 exact tN [0]
theorem J8b (p0:List UInt8) (r:((List Item) × (List UInt8)) ⊕ Unit) (h:Vma p0=some r):FnP Tryz.prog (.iface 97 (.agg #[])) 76 [.ptr 0 0,.bnd 77 [.ptr 0 0]] [.box [.str p0]] (fun r:(List Item) × (List UInt8)=>.ref 1) (fun r=>[.box [.str r.2],aR 115 3 Qca r.1]) r:=by
 unfold Vma at h
 refine fnPT 1 Tryz.func76 Tryz.ntmps76 ?_
 refine T.seq (T.region (go 1 1 (RS.nil (T.seq (Jza h (fun hx2 h=>?_) (fun x2 hx2 h=>?_))))))
 ·cases h
  refine T.rP (V:=(.iface 97 (.agg #[]))) 1 rfl (go 1 1 ?_)
  exact RS.nil (qc (aw2:=[.dead]) (n0:=1) (n1:=1) [0] rfl rfl (Qaa p0 (.inr ()) hx2) (Qoa rfl ⟨Qva rfl,trivial⟩ Qfa) ⟨Qda rfl,trivial⟩ ⟨.inl ⟨0,_,by decide,rfl,trivial⟩,trivial⟩ rfl)
 refine T.region (go 1 1 (sO (Qza (aw2:=[.box [.str x2.2]]) (v':=iI x2.1) (n0:=1) (n1:=1) [0] rfl rfl (Qaa p0 (.inl x2) hx2) (Qoa rfl ⟨Qva rfl,trivial⟩ Qfa) ⟨Qda rfl,trivial⟩ (Qea (Qba _ _)) ⟨.inl ⟨0,_,by decide,rfl,Qya ⟨Qea (Q1a _),trivial⟩⟩,trivial⟩ (go 1 1 (RS.nil (T.seq (T.join (Z:=Unit) (fun _=>mkA 32 [(1,.bnd 77 [.ptr 0 0]),(5,iI x2.1),(19,.bool ((decide (x2.1<0)) || decide (x2.1 > ((x2.2).length:Int))))]) (fun _=>[.box [.str x2.2]]) (fun _=>True) (fun _ _=>?_) (fun hK=>?_))))))))
 ·refine T.ci h rfl (fun hb_2 h=>?_) (fun hb_2 h=>?_)
  ·cases h
   refine T.rP (V:=(.iface 97 (.agg #[]))) 2 rfl (go 1 1 (sO (Yob Tryz.underlying97 rfl rfl ?_)))
   exact RS.nil (PP.panic rfl rfl)
  refine T.skip (T.seq (T.region (go 1 1 (RS.nil (T.seq (T.seq (T.region (go 2 1 (RS.nil ?_)))))))))
  refine T.block (T.iter (fun ss_5:Int × (List UInt8) × (List Item)=>mkA 32 [(1,.bnd 77 [.ptr 0 0]),(6,.ref 1),(22,iI x2.1),(23,iI ss_5.1)]) (fun ss_5=>[.box [.str ss_5.2.1],aR 115 3 Qca ss_5.2.2]) h (wk [(6,115,3)] [0,1] 1 rfl) (fun ss_5 v_6 h hv_6=>?_))
  obtain ⟨s4,s5,s6⟩:=ss_5
  replace h:Jqa x2 s4 s5 s6=some v_6:=h
  try dsimp only
  unfold Jqa at h
  refine T.seq (T.region (go 1 2 (RS.nil (T.seq (T.ci h rfl (fun hb_7 h=>?_) (fun hb_7 h=>?_))))))
  ·refine T.skip (T.seq (T.block (Jza h (fun hx7 h=>?_) (fun x7 hx7 h=>?_))))
   ·obtain ⟨w_8,h,hw_8⟩:=Qpa h
    replace h:=h.trans (congrArg some (hv_6 _ hw_8))
    cases h
    refine T.rP (V:=(.iface 97 (.agg #[]))) 2 rfl (go 2 2 ?_)
    exact RS.nil (qcb (aw2:=[.dead,aR 115 3 Qca s6]) (n0:=2) (n1:=1) [0] rfl rfl (Zqb s5 (.inr ()) hx7) (Qoa rfl ⟨Qva rfl,trivial⟩ Qfa) ⟨Qda rfl,trivial⟩ ⟨.inl ⟨0,_,by decide,rfl,trivial⟩,.inr ⟨rfl,rfl⟩,trivial⟩ rfl)
   obtain ⟨x8,hx8,h⟩:=bind_some h
   refine T.region (go 2 2 (sO (Zpd (aw2:=[.box [.str x7.2],aR 115 3 Qca s6]) (v':=.agg (Qca x7.1)) (n0:=2) (n1:=1) [0] rfl rfl (Zqb s5 (.inl x7) hx7) (Qoa rfl ⟨Qva rfl,trivial⟩ Qfa) ⟨Qda rfl,trivial⟩ (Q0d ⟨Qea (Qba _ _),Qea (Qba _ _),Qea (Qba _ _),trivial⟩) ⟨.inl ⟨0,_,by decide,rfl,Qya ⟨Qea (Q1a _),trivial⟩⟩,.inr ⟨rfl,rfl⟩,trivial⟩ (sO (Q9a (rows:=List.map Qca [x7.1]) (vs:=[.agg (Qca x7.1)]) Ty.s52 Ty.z115 rfl rfl rfl rfl rfl rfl (sO (Voa (en:=Qca) (xs:=s6) (ys:=([x7.1]:List Item)) Ty.s52 (fun _=>rfl) rfl rfl rfl hx8 rfl rfl (go 1 4 (RS.nil (T.region (go 2 4 (RS.nil ?_))))))))))))
   exact ⟨(IntKind.i64.wrap (s4+1),x7.2,x8),(Option.some.inj h).symm,wk [] [0,3] 4 rfl⟩
  refine T.exit ?_
  obtain ⟨w_9,h,hw_9⟩:=Qpa h
  replace h:=h.trans (congrArg some (hv_6 _ hw_9))
  refine T.seq (T.region (go 2 2 (RS.nil ?_)))
  cases h
  exact tO [] [0,1] 2
 refine T.region (go 3 1 ?_)
 rcases Qga (decide (x2.1<0)) with hb_1 | hb_1
 ·refine sN hb_1 (sN hb_1 (sN hb_1 (sN hb_1 (sN hb_1 (sN hb_1 (sN hb_1 (sQ (Qna (v:=.bool true) rfl hb_1 rfl (RS.nil ?_)))))))))
  exact T.sub (hK () trivial) ⟨rfl,rfl,(congrArg AV.bool (by simp only [hb_1,bz,if_true,if_false,Bool.false_eq_true])).symm,trivial⟩
 refine yg 1 hb_1 (yg 1 hb_1 (yg 1 hb_1 (yg 1 hb_1 (yg 1 hb_1 (yg 1 hb_1 (yg 1 hb_1 (sQ (Qha (v:=.bool (decide (x2.1 > ((x2.2).length:Int)))) rfl hb_1 rfl (RS.nil ?_)))))))))
 exact T.sub (hK () trivial) ⟨rfl,rfl,(congrArg AV.bool (by simp only [hb_1,bz,if_true,if_false,Bool.false_eq_true])).symm,trivial⟩
theorem Yga (p0:List UInt8) (r:((List Item) × (List UInt8)) ⊕ Unit) (h:Zda p0=some r):FnP Tryz.prog (.iface 97 (.agg #[])) 45 [.ptr 0 0] [.box [.str p0]] (fun r:(List Item) × (List UInt8)=>.ref 1) (fun r=>[.box [.str r.2],aR 115 3 Qca r.1]) r:=by
 unfold Zda at h
 refine fnPT 1 Tryz.func45 Tryz.ntmps45 ?_
 refine T.seq (T.region (go 1 1 (RS.nil (T.seq (Jza h (fun hx2 h=>?_) (fun x2 hx2 h=>?_))))))
 ·cases h
  refine T.rP (V:=(.iface 97 (.agg #[]))) 3 rfl (go 2 1 (sQ (v_bnd (cs:=[.ptr 0 0]) rfl ?_)))
  exact RS.nil (qc (aw2:=[.dead]) (n0:=1) (n1:=1) [0] rfl rfl (J8b p0 (.inr ()) hx2) (Qoa rfl ⟨Qva rfl,trivial⟩ Qfa) ⟨Qda rfl,Qbd ⟨Qda rfl,trivial⟩,trivial⟩ ⟨.inl ⟨0,_,by decide,rfl,trivial⟩,trivial⟩ rfl)
 refine T.region (go 2 1 (sQ (v_bnd (cs:=[.ptr 0 0]) rfl (sO (Qza (aw2:=[.box [.str x2.2],aR 115 3 Qca x2.1]) (v':=.ref 1) (n0:=1) (n1:=2) [0] rfl rfl (J8b p0 (.inl x2) hx2) (Qoa rfl ⟨Qva rfl,trivial⟩ Qfa) ⟨Qda rfl,Qbd ⟨Qda rfl,trivial⟩,trivial⟩ (Zla (by decide)) ⟨.inl ⟨0,_,by decide,rfl,Qya ⟨Qea (Q1a _),trivial⟩⟩,.inl ⟨1,_,by decide,rfl,Jva Jia⟩,trivial⟩ (go 1 2 (RS.nil ?_)))))))
 cases h
 exact tO [] [0,1] 2
theorem Veb (p0:List UInt8) (r:((List (List Item)) × (List UInt8)) ⊕ Unit) (h:Vxa p0=some r):FnP Tryz.prog (.iface 97 (.agg #[])) 44 [.ptr 0 0,.bnd 45 [.ptr 0 0]] [.box [.str p0]] (fun r:(List (List Item)) × (List UInt8)=>.ref 1) (fun r=>[.box [.str r.2],aR 52 1 (encL Qca) r.1]) r:=by
 unfold Vxa at h
 refine fnPT 1 Tryz.func44 Tryz.ntmps44 ?_
 refine T.seq (T.region (go 1 1 (RS.nil (T.seq (Jza h (fun hx2 h=>?_) (fun x2 hx2 h=>?_))))))
 ·cases h
  refine T.rP (V:=(.iface 97 (.agg #[]))) 1 rfl (go 1 1 ?_)
  exact RS.nil (qc (aw2:=[.dead]) (n0:=1) (n1:=1) [0] rfl rfl (Qaa p0 (.inr ()) hx2) (Qoa rfl ⟨Qva rfl,trivial⟩ Qfa) ⟨Qda rfl,trivial⟩ ⟨.inl ⟨0,_,by decide,rfl,trivial⟩,trivial⟩ rfl)
 refine T.region (go 1 1 (sO (Qza (aw2:=[.box [.str x2.2]]) (v':=iI x2.1) (n0:=1) (n1:=1) [0] rfl rfl (Qaa p0 (.inl x2) hx2) (Qoa rfl ⟨Qva rfl,trivial⟩ Qfa) ⟨Qda rfl,trivial⟩ (Qea (Qba _ _)) ⟨.inl ⟨0,_,by decide,rfl,Qya ⟨Qea (Q1a _),trivial⟩⟩,trivial⟩ (go 1 1 (RS.nil (T.seq (T.join (Z:=Unit) (fun _=>mkA 32 [(1,.bnd 45 [.ptr 0 0]),(5,iI x2.1),(19,.bool ((decide (x2.1<0)) || decide (x2.1 > ((x2.2).length:Int))))]) (fun _=>[.box [.str x2.2]]) (fun _=>True) (fun _ _=>?_) (fun hK=>?_))))))))
 ·refine T.ci h rfl (fun hb_2 h=>?_) (fun hb_2 h=>?_)
  ·cases h
   refine T.rP (V:=(.iface 97 (.agg #[]))) 2 rfl (go 1 1 (sO (Yob Tryz.underlying97 rfl rfl ?_)))
   exact RS.nil (PP.panic rfl rfl)
  refine T.skip (T.seq (T.region (go 1 1 (RS.nil (T.seq (T.seq (T.region (go 2 1 (RS.nil ?_)))))))))
  refine T.block (T.iter (fun ss_5:Int × (List UInt8) × (List (List Item))=>mkA 32 [(1,.bnd 45 [.ptr 0 0]),(6,.ref 1),(22,iI x2.1),(23,iI ss_5.1)]) (fun ss_5=>[.box [.str ss_5.2.1],aR 52 1 (encL Qca) ss_5.2.2]) h (wk [(6,52,1)] [0,1] 1 rfl) (fun ss_5 v_6 h hv_6=>?_))
  obtain ⟨s4,s5,s6⟩:=ss_5
  replace h:J1a x2 s4 s5 s6=some v_6:=h
  try dsimp only
  unfold J1a at h
  refine T.seq (T.region (go 1 2 (RS.nil (T.seq (T.ci h rfl (fun hb_7 h=>?_) (fun hb_7 h=>?_))))))
  ·refine T.skip (T.seq (T.block (Jza h (fun hx7 h=>?_) (fun x7 hx7 h=>?_))))
   ·obtain ⟨w_8,h,hw_8⟩:=Qpa h
    replace h:=h.trans (congrArg some (hv_6 _ hw_8))
    cases h
    refine T.rP (V:=(.iface 97 (.agg #[]))) 2 rfl (go 2 2 ?_)
    exact RS.nil (qcb (aw2:=[.dead,aR 52 1 (encL Qca) s6]) (n0:=2) (n1:=1) [0] rfl rfl (Yga s5 (.inr ()) hx7) (Qoa rfl ⟨Qva rfl,trivial⟩ Qfa) ⟨Qda rfl,trivial⟩ ⟨.inl ⟨0,_,by decide,rfl,trivial⟩,.inr ⟨rfl,rfl⟩,trivial⟩ rfl)
   obtain ⟨x8,hx8,h⟩:=bind_some h
   refine T.region (go 2 2 (sO (Zpd (aw2:=[.box [.str x7.2],aR 52 1 (encL Qca) s6,aR 115 3 Qca x7.1]) (v':=.ref 2) (n0:=2) (n1:=2) [0] rfl rfl (Yga s5 (.inl x7) hx7) (Qoa rfl ⟨Qva rfl,trivial⟩ Qfa) ⟨Qda rfl,trivial⟩ (Zla (by decide)) ⟨.inl ⟨0,_,by decide,rfl,Qya ⟨Qea (Q1a _),trivial⟩⟩,.inr ⟨rfl,rfl⟩,.inl ⟨1,_,by decide,rfl,Jva Jia⟩,trivial⟩ (RS.fC 2 (sO (Q9a (rows:=List.map (encL Qca) [x7.1]) (vs:=[sL Qca x7.1]) Ty.s48 Ty.z52 rfl rfl rfl rfl rfl rfl (sO (Voa (en:=(encL Qca)) (xs:=s6) (ys:=([x7.1]:List (List Item))) Ty.s48 (fun _=>rfl) rfl rfl rfl hx8 rfl rfl (go 1 5 (RS.nil (T.region (go 2 5 ?_))))))))))))
   refine RS.nil ?_
   exact ⟨(IntKind.i64.wrap (s4+1),x7.2,x8),(Option.some.inj h).symm,wk [] [0,4] 5 rfl⟩
  refine T.exit ?_
  obtain ⟨w_9,h,hw_9⟩:=Qpa h
  replace h:=h.trans (congrArg some (hv_6 _ hw_9))
  refine T.seq (T.region (go 2 2 (RS.nil ?_)))
  cases h
  exact tO [] [0,1] 2
 refine T.region (go 3 1 ?_)
 rcases Qga (decide (x2.1<0)) with hb_1 | hb_1
 ·refine sN hb_1 (sN hb_1 (sN hb_1 (sN hb_1 (sN hb_1 (sN hb_1 (sN hb_1 (sQ (Qna (v:=.bool true) rfl hb_1 rfl (RS.nil ?_)))))))))
  exact T.sub (hK () trivial) ⟨rfl,rfl,(congrArg AV.bool (by simp only [hb_1,bz,if_true,if_false,Bool.false_eq_true])).symm,trivial⟩
 refine yg 1 hb_1 (yg 1 hb_1 (yg 1 hb_1 (yg 1 hb_1 (yg 1 hb_1 (yg 1 hb_1 (yg 1 hb_1 (sQ (Qha (v:=.bool (decide (x2.1 > ((x2.2).length:Int)))) rfl hb_1 rfl (RS.nil ?_)))))))))
 exact T.sub (hK () trivial) ⟨rfl,rfl,(congrArg AV.bool (by simp only [hb_1,bz,if_true,if_false,Bool.false_eq_true])).symm,trivial⟩
theorem Ykb (p0:List UInt8) (r:(Keyed × (List UInt8)) ⊕ Unit) (h:Yba p0=some r):FnP Tryz.prog (.iface 97 (.agg #[])) 49 [.ptr 0 0] [.box [.ptr 1 0],.box [.str p0]] (fun r:Keyed × (List UInt8)=>.agg (Qwa r.1)) (fun r=>[.box [.ptr 1 0],.box [.str r.2]]) r:=by
 unfold Yba at h
 refine fnPT 2 Tryz.func49 Tryz.ntmps49 ?_
 refine T.seq (T.region (go 1 2 (RS.nil (T.seq (Jza h (fun hx3 h=>?_) (fun x3 hx3 h=>?_))))))
 ·cases h
  refine T.drawnP (V:=(.iface 97 (.agg #[]))) (fun _=>True) mixed (k:=6) rfl ?_ (fun _ _ _=>rfl)
  refine qA2 0 2 ?_ ?_
  ·refine qpO rfl (Qqa rfl rfl (Qra Ty.k99 (c:=.ptr 1 0) rfl (qA2 1 2 ?_ ?_)))
   ·exact qpP rfl (qc (aw2:=[.box [.ptr 1 0],.dead,.box [iI 0,iI 0]]) (n0:=3) (n1:=1) [1] rfl rfl (Qaa p0 (.inr ()) hx3) (Qoa rfl ⟨Qva rfl,trivial⟩ Qfa) ⟨Qda rfl,trivial⟩ ⟨.inr ⟨rfl,rfl⟩,.inl ⟨0,_,by decide,rfl,trivial⟩,.inr ⟨rfl,rfl⟩,trivial⟩ trivial)
   refine qpO rfl (Qqa rfl rfl (Qra Ty.k99 (c:=.ptr 1 0) rfl (qA1 1 ?_)))
   exact qpP rfl (qc (aw2:=[.box [.ptr 1 0],.dead,.box [iI 0,iI 0]]) (n0:=3) (n1:=1) [1] rfl rfl (Qaa p0 (.inr ()) hx3) (Qoa rfl ⟨Qva rfl,trivial⟩ Qfa) ⟨Qda rfl,trivial⟩ ⟨.inr ⟨rfl,rfl⟩,.inl ⟨0,_,by decide,rfl,trivial⟩,.inr ⟨rfl,rfl⟩,trivial⟩ trivial)
  refine qpO rfl (Qqa rfl rfl (Qra Ty.k99 (c:=.ptr 1 0) rfl (qA1 0 (qpO rfl (Qqa rfl rfl (Qra Ty.k99 (c:=.ptr 1 0) rfl (qA1 1 ?_)))))))
  exact qpP rfl (qc (aw2:=[.box [.ptr 1 0],.dead,.box [iI 0,iI 0]]) (n0:=3) (n1:=1) [1] rfl rfl (Qaa p0 (.inr ()) hx3) (Qoa rfl ⟨Qva rfl,trivial⟩ Qfa) ⟨Qda rfl,trivial⟩ ⟨.inr ⟨rfl,rfl⟩,.inl ⟨0,_,by decide,rfl,trivial⟩,.inr ⟨rfl,rfl⟩,trivial⟩ trivial)
 refine Jza h (fun hx4 h=>?_) (fun x4 hx4 h=>?_)
 ·cases h
  refine T.drawnP (V:=(.iface 97 (.agg #[]))) (fun _=>True) mixed (k:=6) rfl ?_ (fun _ _ _=>rfl)
  refine qA2 0 2 ?_ ?_
  ·refine qpO rfl (Qqa rfl rfl (Qra Ty.k99 (c:=.ptr 1 0) rfl (qA2 1 2 ?_ ?_)))
   ·refine qpO rfl (Qza (aw2:=[.box [.ptr 1 0],.box [.str x3.2],.box [iI 0,iI 0]]) (v':=iI x3.1) (n0:=3) (n1:=1) [1] rfl rfl (Qaa p0 (.inl x3) hx3) (Qoa rfl ⟨Qva rfl,trivial⟩ Qfa) ⟨Qda rfl,trivial⟩ (Qea (Qba _ _)) ⟨.inr ⟨rfl,rfl⟩,.inl ⟨0,_,by decide,rfl,Qya ⟨Qea (Q1a _),trivial⟩⟩,.inr ⟨rfl,rfl⟩,trivial⟩ (qA1 2 (qpO rfl (Qqa rfl rfl (Qra Ty.k99 (c:=.ptr 1 0) rfl (qA1 3 ?_))))))
    exact qpP rfl (qc (aw2:=[.box [.ptr 1 0],.dead,.box [iI 0,iI 0]]) (n0:=3) (n1:=1) [1] rfl rfl (Qaa x3.2 (.inr ()) hx4) (Qoa rfl ⟨Qva rfl,trivial⟩ Qfa) ⟨Qda rfl,trivial⟩ ⟨.inr ⟨rfl,rfl⟩,.inl ⟨0,_,by decide,rfl,trivial⟩,.inr ⟨rfl,rfl⟩,trivial⟩ trivial)
   refine qpO rfl (Qqa rfl rfl (Qra Ty.k99 (c:=.ptr 1 0) rfl (qA1 1 (qpO rfl (Qza (aw2:=[.box [.ptr 1 0],.box [.str x3.2],.box [iI 0,iI 0]]) (v':=iI x3.1) (n0:=3) (n1:=1) [1] rfl rfl (Qaa p0 (.inl x3) hx3) (Qoa rfl ⟨Qva rfl,trivial⟩ Qfa) ⟨Qda rfl,trivial⟩ (Qea (Qba _ _)) ⟨.inr ⟨rfl,rfl⟩,.inl ⟨0,_,by decide,rfl,Qya ⟨Qea (Q1a _),trivial⟩⟩,.inr ⟨rfl,rfl⟩,trivial⟩ (qA1 3 ?_))))))
   exact qpP rfl (qc (aw2:=[.box [.ptr 1 0],.dead,.box [iI 0,iI 0]]) (n0:=3) (n1:=1) [1] rfl rfl (Qaa x3.2 (.inr ()) hx4) (Qoa rfl ⟨Qva rfl,trivial⟩ Qfa) ⟨Qda rfl,trivial⟩ ⟨.inr ⟨rfl,rfl⟩,.inl ⟨0,_,by decide,rfl,trivial⟩,.inr ⟨rfl,rfl⟩,trivial⟩ trivial)
  refine qpO rfl (Qqa rfl rfl (Qra Ty.k99 (c:=.ptr 1 0) rfl (qA1 0 (qpO rfl (Qqa rfl rfl (Qra Ty.k99 (c:=.ptr 1 0) rfl (qA1 1 (qpO rfl (Qza (aw2:=[.box [.ptr 1 0],.box [.str x3.2],.box [iI 0,iI 0]]) (v':=iI x3.1) (n0:=3) (n1:=1) [1] rfl rfl (Qaa p0 (.inl x3) hx3) (Qoa rfl ⟨Qva rfl,trivial⟩ Qfa) ⟨Qda rfl,trivial⟩ (Qea (Qba _ _)) ⟨.inr ⟨rfl,rfl⟩,.inl ⟨0,_,by decide,rfl,Qya ⟨Qea (Q1a _),trivial⟩⟩,.inr ⟨rfl,rfl⟩,trivial⟩ (qA1 3 ?_))))))))))
  exact qpP rfl (qc (aw2:=[.box [.ptr 1 0],.dead,.box [iI 0,iI 0]]) (n0:=3) (n1:=1) [1] rfl rfl (Qaa x3.2 (.inr ()) hx4) (Qoa rfl ⟨Qva rfl,trivial⟩ Qfa) ⟨Qda rfl,trivial⟩ ⟨.inr ⟨rfl,rfl⟩,.inl ⟨0,_,by decide,rfl,trivial⟩,.inr ⟨rfl,rfl⟩,trivial⟩ trivial)
 refine T.drawn mixed (k:=6) rfl ?_
 apply RA.jn 3 #[true,true,true,false,false,false];intro hS1
 ·refine rL [0,1,3,4,5] 0 rfl (ra2 1 2 ?_ ?_)
  ·refine oO rfl (Qza (aw2:=[.box [.ptr 1 0],.box [.str x3.2],.box [iI 0,iI 0]]) (v':=iI x3.1) (n0:=3) (n1:=1) [1] rfl rfl (Qaa p0 (.inl x3) hx3) (Qoa rfl ⟨Qva rfl,trivial⟩ Qfa) ⟨Qda rfl,trivial⟩ (Qea (Qba _ _)) ⟨.inr ⟨rfl,rfl⟩,.inl ⟨0,_,by decide,rfl,Qya ⟨Qea (Q1a _),trivial⟩⟩,.inr ⟨rfl,rfl⟩,trivial⟩ (ra1 2 (og 3 ⟨rfl,?_⟩)))
   exact raE hS1
  ·refine og 3 ⟨rfl,(ra1 1 (oO rfl (Qza (aw2:=[.box [.ptr 1 0],.box [.str x3.2],.box [iI 0,iI 0]]) (v':=iI x3.1) (n0:=3) (n1:=1) [1] rfl rfl (Qaa p0 (.inl x3) hx3) (Qoa rfl ⟨Qva rfl,trivial⟩ Qfa) ⟨Qda rfl,trivial⟩ (Qea (Qba _ _)) ⟨.inr ⟨rfl,rfl⟩,.inl ⟨0,_,by decide,rfl,Qya ⟨Qea (Q1a _),trivial⟩⟩,.inr ⟨rfl,rfl⟩,trivial⟩ ?_)))⟩
   exact raT hS1
 refine ra1 3 (oO rfl (Qza (aw2:=[.box [.ptr 1 0],.box [.str x4.2],.box [iI 0,iI 0]]) (v':=iI x4.1) (n0:=3) (n1:=1) [1] rfl rfl (Qaa x3.2 (.inl x4) hx4) (Qoa rfl ⟨Qva rfl,trivial⟩ Qfa) ⟨Qda rfl,trivial⟩ (Qea (Qba _ _)) ⟨.inr ⟨rfl,rfl⟩,.inl ⟨0,_,by decide,rfl,Qya ⟨Qea (Q1a _),trivial⟩⟩,.inr ⟨rfl,rfl⟩,trivial⟩ (rq [4] 1 (ra1 5 (og 3 ⟨rfl,(RA.done (by decide +kernel) ?_)⟩)))))
 cases h
 exact tN [0,1]
theorem Q4a (p0:List UInt8) (r:((List Keyed) × (List UInt8)) ⊕ Unit) (h:Zua p0=some r):FnP Tryz.prog (.iface 97 (.agg #[])) 48 [.ptr 0 0,.func 49 [.ptr 1 0]] [.box [.str p0],.box [.ptr 0 0]] (fun r:(List Keyed) × (List UInt8)=>.ref 2) (fun r=>[.box [.str r.2],.box [.ptr 0 0],aR 92 2 Qwa r.1]) r:=by
 unfold Zua at h
 refine fnPT 2 Tryz.func48 Tryz.ntmps48 ?_
 refine T.seq (T.region (go 1 2 (RS.nil (T.seq (Jza h (fun hx2 h=>?_) (fun x2 hx2 h=>?_))))))
 ·cases h
  refine T.rP (V:=(.iface 97 (.agg #[]))) 1 rfl (go 1 2 ?_)
  exact RS.nil (qc (aw2:=[.dead,.box [.ptr 0 0]]) (n0:=2) (n1:=1) [0] rfl rfl (Qaa p0 (.inr ()) hx2) (Qoa rfl ⟨Qva rfl,trivial⟩ Qfa) ⟨Qda rfl,trivial⟩ ⟨.inl ⟨0,_,by decide,rfl,trivial⟩,.inr ⟨rfl,rfl⟩,trivial⟩ rfl)
 refine T.region (go 1 2 (sO (Qza (aw2:=[.box [.str x2.2],.box [.ptr 0 0]]) (v':=iI x2.1) (n0:=2) (n1:=1) [0] rfl rfl (Qaa p0 (.inl x2) hx2) (Qoa rfl ⟨Qva rfl,trivial⟩ Qfa) ⟨Qda rfl,trivial⟩ (Qea (Qba _ _)) ⟨.inl ⟨0,_,by decide,rfl,Qya ⟨Qea (Q1a _),trivial⟩⟩,.inr ⟨rfl,rfl⟩,trivial⟩ (go 1 2 (RS.nil (T.seq (T.join (Z:=Unit) (fun _=>mkA 32 [(1,.func 49 [.ptr 1 0]),(5,iI x2.1),(19,.bool ((decide (x2.1<0)) || decide (x2.1 > ((x2.2).length:Int))))]) (fun _=>[.box [.str x2.2],.box [.ptr 0 0]]) (fun _=>True) (fun _ _=>?_) (fun hK=>?_))))))))
 ·refine T.ci h rfl (fun hb_2 h=>?_) (fun hb_2 h=>?_)
  ·cases h
   refine T.rP (V:=(.iface 97 (.agg #[]))) 2 rfl (go 1 2 (sO (Yob Tryz.underlying97 rfl rfl ?_)))
   exact RS.nil (PP.panic rfl rfl)
  refine T.skip (T.seq (T.region (go 1 2 (RS.nil (T.seq (T.seq (T.region (go 2 2 (RS.nil ?_)))))))))
  refine T.block (T.iter (fun ss_5:Int × (List UInt8) × (List Keyed)=>mkA 32 [(1,.func 49 [.ptr 1 0]),(6,.ref 2),(22,iI x2.1),(23,iI ss_5.1)]) (fun ss_5=>[.box [.str ss_5.2.1],.box [.ptr 0 0],aR 92 2 Qwa ss_5.2.2]) h (wk [(6,92,2)] [0,1,2] 2 rfl) (fun ss_5 v_6 h hv_6=>?_))
  obtain ⟨s4,s5,s6⟩:=ss_5
  replace h:Joa x2 s4 s5 s6=some v_6:=h
  try dsimp only
  unfold Joa at h
  refine T.seq (T.region (go 1 3 (RS.nil (T.seq (T.ci h rfl (fun hb_7 h=>?_) (fun hb_7 h=>?_))))))
  ·refine T.skip (T.seq (T.block (Jza h (fun hx7 h=>?_) (fun x7 hx7 h=>?_))))
   ·obtain ⟨w_8,h,hw_8⟩:=Qpa h
    replace h:=h.trans (congrArg some (hv_6 _ hw_8))
    cases h
    refine T.rP (V:=(.iface 97 (.agg #[]))) 2 rfl (go 2 3 ?_)
    exact RS.nil (qc (aw2:=[.dead,.dead,aR 92 2 Qwa s6]) (n0:=3) (n1:=2) [1,0] rfl rfl (Ykb s5 (.inr ()) hx7) (Qoa rfl ⟨Qda rfl,trivial⟩ (Qoa rfl ⟨Qva rfl,trivial⟩ Qfa)) ⟨Qda rfl,trivial⟩ ⟨.inl ⟨1,_,by decide,rfl,trivial⟩,.inl ⟨0,_,by decide,rfl,trivial⟩,.inr ⟨rfl,rfl⟩,trivial⟩ rfl)
   obtain ⟨x8,hx8,h⟩:=bind_some h
   refine T.region (go 2 3 (sO (Qza (aw2:=[.box [.str x7.2],.box [.ptr 0 0],aR 92 2 Qwa s6]) (v':=.agg (Qwa x7.1)) (n0:=3) (n1:=2) [1,0] rfl rfl (Ykb s5 (.inl x7) hx7) (Qoa rfl ⟨Qda rfl,trivial⟩ (Qoa rfl ⟨Qva rfl,trivial⟩ Qfa)) ⟨Qda rfl,trivial⟩ (Q0d ⟨Qea (Qba _ _),Qea (Qba _ _),trivial⟩) ⟨.inl ⟨1,_,by decide,rfl,Qya ⟨Qea (Q1a _),trivial⟩⟩,.inl ⟨0,_,by decide,rfl,Qya ⟨Jvd (by decide),trivial⟩⟩,.inr ⟨rfl,rfl⟩,trivial⟩ (sO (Q9a (rows:=List.map Qwa [x7.1]) (vs:=[.agg (Qwa x7.1)]) Ty.s88 Ty.z92 rfl rfl rfl rfl rfl rfl (sO (Voa (en:=Qwa) (xs:=s6) (ys:=([x7.1]:List Keyed)) Ty.s88 (fun _=>rfl) rfl rfl rfl hx8 rfl rfl (go 1 5 (RS.nil (T.region (go 2 5 (RS.nil ?_))))))))))))
   exact ⟨(IntKind.i64.wrap (s4+1),x7.2,x8),(Option.some.inj h).symm,wk [] [0,1,4] 5 rfl⟩
  refine T.exit ?_
  obtain ⟨w_9,h,hw_9⟩:=Qpa h
  replace h:=h.trans (congrArg some (hv_6 _ hw_9))
  refine T.seq (T.region (go 2 3 (RS.nil ?_)))
  cases h
  exact tO [] [0,1,2] 3
 refine T.region (go 3 2 ?_)
 rcases Qga (decide (x2.1<0)) with hb_1 | hb_1
 ·refine sN hb_1 (sN hb_1 (sN hb_1 (sN hb_1 (sN hb_1 (sN hb_1 (sN hb_1 (sQ (Qna (v:=.bool true) rfl hb_1 rfl (RS.nil ?_)))))))))
  exact T.sub (hK () trivial) ⟨rfl,rfl,(congrArg AV.bool (by simp only [hb_1,bz,if_true,if_false,Bool.false_eq_true])).symm,trivial⟩
 refine yg 2 hb_1 (yg 2 hb_1 (yg 2 hb_1 (yg 2 hb_1 (yg 2 hb_1 (yg 2 hb_1 (yg 2 hb_1 (sQ (Qha (v:=.bool (decide (x2.1 > ((x2.2).length:Int)))) rfl hb_1 rfl (RS.nil ?_)))))))))
 exact T.sub (hK () trivial) ⟨rfl,rfl,(congrArg AV.bool (by simp only [hb_1,bz,if_true,if_false,Bool.false_eq_true])).symm,trivial⟩
end Go.Proofs.YtchmpaaofmihcaaGreat
namespace Go.Proofs.YtchmpaaofmihcaaGreat
open Go.RowKit
set_option maxRecDepth 100000
set_option maxHeartbeats 4000000
theorem Vye (p q:Value) (w:World) :
  CallsD Tryz.prog 41 #[p,q] .returning w fun e u' w'=>(∃ v,e=.returned v)∧u'=.returning∧w'=w:=by
 refine callsD_of_wpS Tryz.func41 rfl fun c₀ cs hu=>?_
 apply wpS_seq
 apply wpS_region
 simp [wpOpsS,go_sem,recoverD,hu,Tryz.ntmps41,Exit.thenS]
 apply wpS_seq
 apply wpS_region
 simp [wpOpsS,go_sem,Exit.thenS]
 refine wpS_cond (t:=false) (by simp [Act.eval,Array.replicate]) ?_
 simp only [Bool.false_eq_true,if_false]
 refine wpS_of_wp (wp_skip ?_)
 cases c₀
 simp_all [bodyPostS,results,Tryz.results41]
theorem idleF:IdleF Tryz.prog 41 2:=fun cvs h=>by
 match cvs,h with
 | [p,q],_ =>
  exact ⟨.func 41,#[p,q],41,#[p,q],rfl,fun w=>callable Tryz.func41 rfl (by kernel_rfl) _ w,fun w=>Vye p q w⟩
end Go.Proofs.YtchmpaaofmihcaaGreat
namespace Go.Proofs.YtchmpaaofmihcaaGreat
open Go.RowKit
set_option linter.unusedVariables false
set_option linter.unusedSimpArgs false
abbrev pan1 (V:Value):List PanicEntry:=[{ v:=V,recovered:=false }]
abbrev pan2 (V:Value):List PanicEntry:=[{ v:=V,recovered:=true }]
def CatX (P:Program) (V:Value) (g:FuncId) (args:List AV) (aw aw':List Ob):Prop:=∀ w F σ vs,Sim aw σ w F→RelL σ w F args vs →
 CallsD P g vs.toArray (.panicking (pan1 V)) w fun e u' w'=>(∃ v,e=.returned v)∧u'=.panicking (pan2 V)∧∃ σ' F',Sim aw' σ' w' F'∧Mv aw σ w F aw' σ' w' F'
structure Caught (P:Program) (V:Value) (g:FuncId) (caps:List AV) (aw aw2:List Ob):Prop where
 out:∃ (ρ:List Nat) (as0:List AV) (aw0 aw1:List Ob),ρ.Nodup∧RenW ρ aw ρ aw0∧RenL ρ as0 caps∧CatX P V g as0 aw0 aw1∧aw2.length+ρ.length=aw.length+aw1.length∧BackW (backM ρ aw.length aw1.length) ρ aw aw1 0 aw2
theorem Caught.of {P:Program} {V:Value} {g:FuncId} {caps as0:List AV} {aw aw0 aw1 aw2:List Ob} {n0 n1:Nat} (ρ:List Nat) (hn0:aw.length=n0) (hn1:aw1.length=n1) (hnd:ρ.Nodup) (hW:RenW ρ aw ρ aw0) (hA:RenL ρ as0 caps) (hC:CatX P V g as0 aw0 aw1)
 (hl:aw2.length+ρ.length=n0+n1) (hB:BackW (backM ρ n0 n1) ρ aw aw1 0 aw2):Caught P V g caps aw aw2:=by subst hn0 hn1;exact ⟨ρ,as0,aw0,aw1,hnd,hW,hA,hC,hl,hB⟩
section
variable {P:Program} {V:Value} {N n Nf:Nat} {fr:List AV} {aw aw2:List Ob} {l:List (Nat × AV)} {fn:Func} {Q:AV→List Ob→Prop} {g:FuncId} {caps:List AV}
theorem Caught.run {σ:List Value} {w:World} {F:Nat→Prop} {cvs:List Value} (h:Caught P V g caps aw aw2) (hs:Sim aw σ w F) (hr:RelL σ w F caps cvs) :
  CallsD P g cvs.toArray (.panicking (pan1 V)) w fun e u' w'=>(∃ v,e=.returned v)∧u'=.panicking (pan2 V)∧∃ σ' F',Sim aw2 σ' w' F'∧Mv aw σ w F aw2 σ' w' F':=by
 obtain ⟨ρ,as0,aw0,aw1,hnd,hW,hA,hC,hl,hB⟩:=h.out
 obtain ⟨σ0,hσ,hs0,hd0⟩:=Ywb hs hnd hW
 have hl0:σ0.length=ρ.length:=by rw [hs0.len,(V9b hW).1]
 refine (hC w F σ0 cvs hs0 (Qyb hA hr hσ)).mono ?_
 rintro e u' w' ⟨h1,h2,σ1,F',hs1,hm⟩
 obtain ⟨σ2,s2,m2,_⟩:=Qwc hs hnd hW hσ hl0 hs0 hd0 hs1 hm hl hB
 exact ⟨h1,h2,σ2,F',s2,m2⟩
section
variable {aw:List Ob} {K2:AV→List Ob→Prop} {d:Option Tmp} {ty:TypeId} {ps:String} {af:Array Edge} {gd:Option (Nat × Bool)}
theorem Zwf (k:Nat) {t ti:TypeId} {its:Array (String × TypeId)} (hu:P.underlying t=some (.interface its)) (u:Value) (w:World):(Op.equalIn (k+1) t (.iface ti u) .nilIface).run P w=.ok false w:=by
 simp [Op.equalIn,Sem.run_bind,run_underlying hu]
theorem Qgf {t t2 ti:TypeId} {x y:Operand} {a:AV} {its:Array (String × TypeId)} (hu:P.underlying t=some (.interface its)) (hx:evA n l x=.ifc ti a) (hy:evA n l y=.nili) (h:K2 (.bool true) aw):OP P N ⟨d,.binOp .neq t x y t2,ty,ps,af,gd⟩ (mkA n l) aw K2 :=
 OP.of_ok (fun σ w F ac har hs=>by
  have ex:=har.ev x
  have ey:=har.ev y
  rw [Jea,hx] at ex
  rw [Jea,hy] at ey
  generalize hvx:ac.eval x=vx at ex
  generalize hvy:ac.eval y=vy at ey
  cases ey
  cases ex with
  | ifc _ _ u hu2 =>
   refine ⟨.bool true,_,w,aw,σ,F,_,?_,.inl rfl,hs,.refl ..,.bool true,h⟩
   have he:(Op.equalIn Op.maxDepth t (.iface ti u) .nilIface).run P w=.ok false w:=Zwf 9999 hu u w
   simp [execOp,hvx,hvy,eqGuard,binOp,Op.equal,Sem.run_bind,he])
theorem Vjf {t t0:TypeId} {x:Operand} {a:AV} {dd:TypeDesc} (hu:P.underlying t=some dd) (hd:(match dd with | .interface _=>false | _=>true)=true) (hx:evA n l x=.ifc t a) (h:K2 (.tup [a,.bool true]) aw):OP P N ⟨d,.typeAssert x t0 t true,ty,ps,af,gd⟩ (mkA n l) aw K2 :=
 OP.of_ok (fun σ w F ac har hs=>by
  have ex:=har.ev x
  rw [Jea,hx] at ex
  generalize hvx:ac.eval x=vx at ex
  cases ex with
  | ifc _ _ u hu2 =>
   have hr:RelL σ w F [a,.bool true] [u,.bool true]:=.cons hu2 (.cons (.bool true) .nil)
   refine ⟨.tuple #[u,.bool true],_,w,aw,σ,F,_,?_,.inl rfl,hs,.refl ..,.tup _ _ hr.1 hr.2,h⟩
   cases dd<;>simp_all [execOp,Instr.typeAssert,Sem.run_bind,run_underlying hu])
end
def RecQ (P:Program) (fn:Func) (Nf:Nat) (Q:AV→List Ob→Prop) (V:Value) (g:FuncId) (caps:List AV):Exit→List AV→List Ob→Prop
 | .panic ch,fr,aw=>ch=pan1 V∧∃ aw2,Caught P V g caps aw aw2∧vcRes P fr aw2 fn.results.toList (Ret Nf Q aw2)
 | e,fr,aw=>retQ P fn Nf Q e fr aw
instance:RetI (RecQ P fn Nf Q V g caps) (fun fr aw=>vcRes P fr aw fn.results.toList (Ret Nf Q aw)):=⟨fun _ _ h=>h⟩
def CQR (P:Program) (st:St) (fn:Func) (Nf:Nat) (Q:AV→List Ob→Prop) (V:Value) (e:Exit) (a:Act) (w:World):Prop :=
 CQ st (retQ P fn Nf Q) e a w∨∃ (g:FuncId) (caps:List AV) (cvs:List Value) (st':St),Idle P ⟨.fn (.func g) cvs.toArray,#[]⟩∧(∀ w,(callFunc g cvs.toArray).run P w=.ok (.enter g cvs.toArray) w) ∧
  RelL st'.σ st'.w st'.F caps cvs∧Sim st'.aw st'.σ st'.w st'.F∧Mv st.aw st.σ st.w st.F st'.aw st'.σ st'.w st'.F∧st'.ds=[⟨.fn (.func g) cvs.toArray,#[]⟩]∧CQ st' (RecQ P fn Nf Q V g caps) e a w
structure TDR (P:Program) (N:Nat) (c:Code) (fn:Func) (Nf:Nat) (Q:AV→List Ob→Prop) (V:Value) (fr:List AV) (aw:List Ob):Prop where
 out:∀ st:St,st.aw.length=N→st.σ.length=st.aw.length→st.ds=[]→∀ σ w F a,Cur st fr aw σ w F a→c.wp P (CQR P st fn Nf Q V) a w
theorem TDR.seq {x y:Code} (h:T P N x (thenA (TDR P N y fn Nf Q V) (retQ P fn Nf Q)) fr aw):TDR P N (.seq x y) fn Nf Q V fr aw :=
 ⟨fun st h1 h2 h3 σ w F a hc=>wp_seq (wp_mono (h.out st h1 h2 σ w F a hc) (by
  rintro e a' w' ⟨fr',aw',σ',F',hq,hcur⟩
  cases e with
  | normal=>exact TDR.out hq st h1 h2 h3 σ' w' F' a' hcur
  | _=>exact .inl ⟨fr',aw',σ',F',hq,hcur⟩))⟩
theorem TDR.defer {id:Nat} {ops:Array Oper} {y:Code} {ty:TypeId} {ps:String} {af:Array Edge} {f:Operand} {ts:Array TypeId} (i:Nat) (ho:ops.toList.drop i=[⟨none,.defer ⟨.value f,#[],ts⟩,ty,ps,af,none⟩])
  (h:RS P N ops (ops.toList.take i) (fun fr aw=>∃ (N':Nat) (l:List (Nat × AV)) (caps:List AV) (g:FuncId),aw.length=N'∧fr=mkA n l∧evA n l f=.func g caps∧IdleF P g caps.length∧(∀ vs w,(callFunc g vs).run P w=.ok (.enter g vs) w)∧T P N' y (RecQ P fn Nf Q V g caps) (mkA n l) aw) fr aw):TDR P N (.seq (.region id ops false) y) fn Nf Q V fr aw :=
 ⟨fun st h1 h2 h3 σ w F a hc=>by
  refine wp_seq (wp_region_list ?_)
  rw [← List.take_append_drop i ops.toList,ho]
  refine Q0c _ _ _ (h.out st h1 h2 σ w F a hc _ fun fr aw σ w F a hc hK=>?_)
  obtain ⟨_,l,caps,g,rfl,rfl,hf,hI,hcall,hT⟩:=hK
  show wpList P ops _ (_::[]) a w
  unfold wpList
  rw [if_pos (by simp [Region.wanted])]
  refine .inl ?_
  have hfv:=hc.fr.ev f
  rw [Jea,hf] at hfv
  generalize hvf:a.eval f=vf at hfv
  cases hfv with
  | func _ _ cvs hl hcs =>
   have hrun:(execOp a.eval ⟨none,.defer ⟨.value f,#[],ts⟩,ty,ps,af,none⟩).run P w=.ok (.defer ⟨.fn (.func g) cvs.toArray,#[]⟩) w:=by
    simp [execOp,resolve,Deferred.ofValue,hvf,Sem.run_bind]
   unfold Oper.wp
   rw [hrun,Oper.upon_defer]
   show wpList P ops _ [] _ w
   unfold wpList
   refine wp_mono (hT.out ⟨aw,σ,w,F,[⟨.fn (.func g) cvs.toArray,#[]⟩]⟩ rfl hc.sim.len σ w F _ ?_) fun _ _ _ h=>.inr ⟨g,caps,cvs,⟨aw,σ,w,F,[⟨.fn (.func g) cvs.toArray,#[]⟩]⟩,hI cvs hl,hcall _,⟨hl,hcs⟩,hc.sim,hc.mv,rfl,h⟩
   refine ⟨hc.sim,hc.fr,.refl ..,?_⟩
   have hds:=hc.ds
   rw [h3] at hds
   show _::a.defers=_
   rw [hds]⟩
theorem Qmf {f:FuncId} {c:Code} {args:List AV} {m:Nat} (hN:aw.length=N) (hf:P.funcs[f]?=some fn) (hb:fn.body=some c) (hname:(fn.name == "runtime.NumGoroutine")=false) (hm:fn.ntmps=m) (hl:Nat.ble args.length m=true)
  (h:TDR P N c fn N Q V (mkA m (initA 0 args)) aw):ACalls P f args aw Q:=by
 subst hm hN
 refine ⟨callable hf (by rw [hb];rfl) hname,fun w F σ vs hs hr=>?_⟩
 have hc:Cur ⟨aw,σ,w,F,[]⟩ (args++List.replicate (fn.ntmps - args.length) .any) aw σ w F { tmps:=vs.toArray++Array.replicate (fn.ntmps - vs.toArray.size) undef,defers:=[] }:=by
  refine ⟨hs,⟨?_,trivial⟩,.refl ..,rfl⟩
  have h2:RelL σ w F (List.replicate (fn.ntmps - args.length) .any) (List.replicate (fn.ntmps - vs.length) undef) :=
   ⟨by simp [hr.1],fun j x v hx hv=>by rw [List.eq_of_mem_replicate (List.mem_of_getElem? hx)];exact .any v⟩
  simpa using hr.append h2
 rw [Z0d _ _ (Nat.le_of_ble_eq_true hl)] at hc
 refine calls_of_wp_defers hf hb (wp_mono (h.out ⟨aw,σ,w,F,[]⟩ rfl hs.len rfl σ w F _ hc) ?_)
 have key:∀ (a':Act) (w':World) (fr':List AV) (aw':List Ob) (σ':List Value) (F':Nat→Prop),Sim aw' σ' w' F'→ARel σ' w' F' fr' a'→Mv aw σ w F aw' σ' w' F'→vcRes P fr' aw' fn.results.toList (Ret aw.length Q aw')→∃ v,(results fn a'.tmps).run P w'=.ok v w' ∧
   (∃ v' r aw2 σ2 F2,Ending.returned v=.returned v'∧Q r aw2∧Sim aw2 σ2 w' F2∧Rel σ2 w' F2 r v'∧Mv aw σ w F aw2 σ2 w' F2):=by
  intro a' w' fr' aw' σ' F' hsim hfr hmv hq
  obtain ⟨rs,us,h1,⟨nl,z,r',aw2,hW,hQ⟩,h3⟩:=V4d hfr hsim _ _ hq
  obtain ⟨σn,sn,h1n,mn⟩:=Qvc nl hsim h1
  refine ⟨_,Z2c fn a'.tmps us h3,?_⟩
  have hrel:=Y0d h1n
  have fin:∀ (r1:AV) (aw1:List Ob) (F1:Nat→Prop),Sim aw1 σn w' F1→Mv aw σ w F aw1 σn w' F1→Rel σn w' F1 r1 (if h:us.length=1 then us[0] else .tuple us.toArray)→WeakR aw.length r1 aw1 r' aw2 →
    ∃ v' r aw2 σ2 F2,Ending.returned (if h:us.length=1 then us[0] else .tuple us.toArray)=.returned v'∧Q r aw2∧Sim aw2 σ2 w' F2∧Rel σ2 w' F2 r v'∧Mv aw σ w F aw2 σ2 w' F2:=by
   intro r1 aw1 F1 s1 m1 hr1 ⟨ρ,hnd,hρ,hren,hRW⟩
   obtain ⟨σ2,hσ,s2,hd⟩:=Ywb s1 hnd hRW
   exact ⟨_,r',aw2,σ2,F1,rfl,hQ,s2,hren σn w' F1 _ hr1 σ2 hσ,Mv.ren (st:=⟨aw,σ,w,F,[]⟩) hs.len m1 hρ hσ hd⟩
  cases z with
  | true =>
   obtain ⟨F1,s1,m1,r1⟩:=Z1d sn hrel
   exact fin _ _ F1 s1 ((hmv.trans mn).trans m1) r1 hW
  | false=>exact fin _ _ F' sn (hmv.trans mn) hrel hW
 have plain:∀ (a':Act) (w':World) (fr':List AV) (aw':List Ob) (σ':List Value) (F':Nat→Prop),Cur ⟨aw,σ,w,F,[]⟩ fr' aw' σ' w' F' a'→vcRes P fr' aw' fn.results.toList (Ret aw.length Q aw') →
   Leaves P fn a'.tmps (fun e w'=>∃ v r aw' σ' F',e=.returned v∧Q r aw'∧Sim aw' σ' w' F'∧Rel σ' w' F' r v∧Mv aw σ w F aw' σ' w' F') a'.defers .returning w':=by
  intro a' w' fr' aw' σ' F' hcur hq
  have hd:=hcur.ds
  rw [hd]
  exact key a' w' fr' aw' σ' F' hcur.sim hcur.fr hcur.mv hq
 rintro e a' w' (⟨fr',aw',σ',F',hq,hcur⟩ | ⟨g,caps,cvs,st',hI,hcall,hcv,hsim',hmv',hds',fr',aw',σ',F',hq,hcur⟩)
 ·cases e with
  | normal=>exact plain _ _ _ _ _ _ hcur hq
  | ret=>exact plain _ _ _ _ _ _ hcur hq
  | exit id=>exact hq.elim
  | goto l=>exact hq.elim
  | panic ch=>exact hq.elim
  | outgrown=>exact hq.elim
 ·have hd:=hcur.ds
  rw [hds'] at hd
  have hmv:=hmv'.trans hcur.mv
  have idle:vcRes P fr' aw' fn.results.toList (Ret aw.length Q aw')→Leaves P fn a'.tmps (fun e w'=>∃ v r aw' σ' F',e=.returned v∧Q r aw'∧Sim aw' σ' w' F'∧Rel σ' w' F' r v∧Mv aw σ w F aw' σ' w' F') a'.defers .returning w':=fun hq=>by
   have hk:=key a' w' fr' aw' σ' F' hcur.sim hcur.fr hmv hq
   obtain ⟨fv,cap,g2,gargs,e1,e2,e3⟩:=hI
   rw [hd]
   refine ⟨by simp,fv,cap,g2,gargs,e1,e2 w',(e3 w').mono ?_⟩
   rintro e u' w'' ⟨⟨v,rfl⟩,rfl,rfl⟩
   exact hk
  cases e with
  | normal=>exact idle hq
  | ret=>exact idle hq
  | exit id=>exact hq.elim
  | goto l=>exact hq.elim
  | panic ch =>
   obtain ⟨rfl,aw2,hcat,hq⟩:=hq
   show Leaves P fn a'.tmps _ a'.defers (.panicking (pan1 V)) w'
   rw [hd]
   refine ⟨by simp,.func g,cvs.toArray,g,cvs.toArray,rfl,?_,(hcat.run hcur.sim (hcur.mv.relL hsim' hcv)).mono ?_⟩
   ·have:=hcall w'
    simpa [invoke] using this
   ·rintro e u' w'' ⟨⟨v,rfl⟩,rfl,σ2,F2,s2,m2⟩
    exact key a' w'' fr' aw2 σ2 F2 s2 (m2.aRel hcur.sim hcur.fr) (hmv.trans m2) hq
  | outgrown=>exact hq.elim
end
end Go.Proofs.YtchmpaaofmihcaaGreat
namespace Go.Proofs.YtchmpaaofmihcaaGreat
open Go.RowKit
set_option linter.unusedVariables false
set_option linter.unusedSimpArgs false
set_option maxRecDepth 100000
set_option maxHeartbeats 4000000
theorem vD {n:Nat} {l:List (Nat × AV)} {aw:List Ob} {rs:List ResultVar} {V:AV} [hV:PureC V] (h:resC tyT n l aw rs fun vs=>nrmRC aw (retAV vs) fun v _=>v=V:=by rfl):vcRes Tryz.prog (mkA n l) aw rs (Ret 0 (fun r aw'=>r=V∧aw'=[]) aw) :=
 V6c J4c (fun vs hv=>by
  have h1:=Ztd hv
  exact Jxe (v:=V) (aw1:=(normR aw (retAV vs)).2) (by rw [← h1]) hV.out ⟨rfl,rfl⟩) h
theorem fnTDR {P:Program} {V:Value} {aw:List Ob} {f:FuncId} {fn:Func} {c:Code} {args:List AV} {Q:AV→List Ob→Prop} {m:Nat} (N:Nat) (hf:P.funcs[f]?=some fn) (hm:fn.ntmps=m) (h:iniC 0 args fun l=>TDR P N c fn N Q V (mkA m l) aw)
  (hb:fn.body=some c:=by rfl) (hN:aw.length=N:=by rfl) (hname:(fn.name == "runtime.NumGoroutine")=false:=by kernel_rfl) (hl:Nat.ble args.length m=true:=by rfl):ACalls P f args aw Q :=
 Qmf hN hf hb hname hm hl (Zfd (K:=fun l=>TDR P N c fn N Q V (mkA m l) aw) h)
theorem catX:CatX Tryz.prog (.iface 97 (.agg #[])) 41 [.ptr 0 0,.ptr 1 0] [.box [.any,.any,.any,.any,.any],.box [.any]] [.box [.nils,.nils,.nils,.nils,.nils],.box [iI 12]]:=by
 intro w F σ vs hs hr
 match vs,hr with
 | [p,q],hr =>
  refine callsD_of_wpS Tryz.func41 rfl fun c₀ cs hu=>?_
  apply wpS_seq
  apply wpS_region
  simp [wpOpsS,go_sem,recoverD,hu,Tryz.ntmps41,Exit.thenS]
  have hp:Rel σ w F (.ptr 0 0) p:=hr.2 0 _ p rfl rfl
  have hq:Rel σ w F (.ptr 1 0) q:=hr.2 1 _ q rfl rfl
  have hv:Rel σ w F (.ifc 97 (.agg [])) (.iface 97 (.agg #[])):=.ifc _ _ _ (.agg [] [] rfl (fun _ h=>(List.not_mem_nil h).elim) (fun j c u h=>by simp at h))
  have hc:Cur ⟨[.box [.any,.any,.any,.any,.any],.box [.any]],σ,w,F,[]⟩ [.ptr 0 0,.ptr 1 0,.ifc 97 (.agg []),.any,.any,.any,.any,.any,.any,.any,.any,.any,.any,.any,.any,.any,.any] [.box [.any,.any,.any,.any,.any],.box [.any]] σ w F { tmps:=#[p,q,(.iface 97 (.agg #[])),undef,undef,(.iface 97 (.agg #[])),undef,undef,undef,undef,undef,undef,undef,undef,undef,undef,undef],defers:=[] } :=
   ⟨hs,⟨.cons hp (.cons hq (.cons hv (.cons (.any _) (.cons (.any _) (.cons (.any _) (.cons (.any _) (.cons (.any _) (.cons (.any _) (.cons (.any _) (.cons (.any _) (.cons (.any _) (.cons (.any _) (.cons (.any _) (.cons (.any _) (.cons (.any _) (.cons (.any _) (.nil))))))))))))))))),trivial⟩,.refl ..,rfl⟩
  refine wpS_of_wp (wp_mono (T.out (P:=Tryz.prog) (N:=2) (Q:=fun e fr aw=>e=.normal∧aw=[.box [.nils,.nils,.nils,.nils,.nils],.box [iI 12],.box []]) (fr:=mkA 17 [(0,.ptr 0 0),(1,.ptr 1 0),(2,.ifc 97 (.agg []))]) (aw:=[.box [.any,.any,.any,.any,.any],.box [.any]]) ?_ ⟨[.box [.any,.any,.any,.any,.any],.box [.any]],σ,w,F,[]⟩ rfl hs.len σ w F _ hc) ?_)
  ·refine T.seq (T.region (go 1 2 (sO (Qgf Tryz.underlying20 rfl rfl (RS.nil (T.ct rfl (T.seq (T.seq (T.region (go 1 2 ?_))))))))))
   refine sO (Vjf Tryz.underlying97 rfl rfl (go 6 2 (RS.nil (T.seq (T.region (go 2 3 (RS.nil (T.cf rfl (T.skip (T.region ?_))))))))))
   refine go 3 3 (RS.nil ?_)
   exact ⟨rfl,rfl⟩
  ·rintro e a' w' ⟨fr',aw',σ',F',⟨rfl,rfl⟩,hcur⟩
   obtain ⟨σ2,hσ,s2,hd⟩:=Ywb (aw':=[.box [.nils,.nils,.nils,.nils,.nils],.box [iI 12]]) (ρ:=[0,1]) hcur.sim (by decide) (Qoa (cs:=[.nils,.nils,.nils,.nils,.nils]) (ds:=[.nils,.nils,.nils,.nils,.nils]) rfl ⟨Yta Jya,Yta Jya,Yta Jya,Yta Jya,Yta Jya,trivial⟩ (Qoa (cs:=[iI 12]) (ds:=[iI 12]) rfl ⟨Qja rfl,trivial⟩ Qfa))
   refine ⟨hcur.ds,_,rfl,.tuple #[],?_,⟨_,rfl⟩,rfl,σ2,F',s2,Mv.ren (st:=⟨[.box [.any,.any,.any,.any,.any],.box [.any]],σ,w,F,[]⟩) hs.len hcur.mv (fun k hk=>?_) hσ hd⟩
   ·simp [results,Tryz.results41]
   ·match k,hk with
    | 0,_=>rfl
    | 1,_=>rfl
end Go.Proofs.YtchmpaaofmihcaaGreat
namespace Go.Proofs.YtchmpaaofmihcaaGreat
open Go.RowKit
set_option linter.unusedVariables false
set_option linter.unusedSimpArgs false
set_option maxRecDepth 100000
set_option maxHeartbeats 4000000
set_option synthInstance.maxSize 100000
set_option synthInstance.maxHeartbeats 4000000
theorem Qzc (p0:List UInt8) (r:(Memory × (List UInt8)) ⊕ Unit) (h:Y2a p0=some r):FnP Tryz.prog (.iface 97 (.agg #[])) 47 [.ptr 0 0] [.box [.ptr 1 0],.box [.str p0]] (fun r:Memory × (List UInt8)=>.agg (Qla r.1)) (fun r=>[.box [.ptr 1 0],.box [.str r.2]]) r:=by
 unfold Y2a at h
 refine fnPT 2 Tryz.func47 Tryz.ntmps47 ?_
 refine T.seq (T.region (go 1 2 (RS.nil (T.seq (Jza h (fun hx4 h=>?_) (fun x4 hx4 h=>?_))))))
 ·cases h
  refine T.drawnP (V:=(.iface 97 (.agg #[]))) (fun _=>True) mixed (k:=9) rfl ?_ (fun _ _ _=>rfl)
  refine qp0 5 rfl (Zgc (cs:=[.ptr 0 0]) rfl (qA3 0 2 4 ?_ ?_ ?_))
  ·refine qpO rfl (Qqa rfl rfl (Qra Ty.k99 (c:=.ptr 1 0) rfl (qA3 1 2 4 ?_ ?_ ?_)))
   ·exact qpP rfl (qc (aw2:=[.box [.ptr 1 0],.dead,.box [iI 0,.nils,iI 0]]) (n0:=3) (n1:=1) [1] rfl rfl (Qaa p0 (.inr ()) hx4) (Qoa rfl ⟨Qva rfl,trivial⟩ Qfa) ⟨Qda rfl,trivial⟩ ⟨.inr ⟨rfl,rfl⟩,.inl ⟨0,_,by decide,rfl,trivial⟩,.inr ⟨rfl,rfl⟩,trivial⟩ trivial)
   ·refine qpO rfl (Qqa rfl rfl (Qra Ty.k99 (c:=.ptr 1 0) rfl (qA2 1 4 ?_ ?_)))
    ·exact qpP rfl (qc (aw2:=[.box [.ptr 1 0],.dead,.box [iI 0,.nils,iI 0]]) (n0:=3) (n1:=1) [1] rfl rfl (Qaa p0 (.inr ()) hx4) (Qoa rfl ⟨Qva rfl,trivial⟩ Qfa) ⟨Qda rfl,trivial⟩ ⟨.inr ⟨rfl,rfl⟩,.inl ⟨0,_,by decide,rfl,trivial⟩,.inr ⟨rfl,rfl⟩,trivial⟩ trivial)
    refine qpO rfl (Qqa rfl rfl (Qra Ty.k99 (c:=.ptr 1 0) rfl (qA1 1 ?_)))
    exact qpP rfl (qc (aw2:=[.box [.ptr 1 0],.dead,.box [iI 0,.nils,iI 0]]) (n0:=3) (n1:=1) [1] rfl rfl (Qaa p0 (.inr ()) hx4) (Qoa rfl ⟨Qva rfl,trivial⟩ Qfa) ⟨Qda rfl,trivial⟩ ⟨.inr ⟨rfl,rfl⟩,.inl ⟨0,_,by decide,rfl,trivial⟩,.inr ⟨rfl,rfl⟩,trivial⟩ trivial)
   refine qpO rfl (Qqa rfl rfl (Qra Ty.k99 (c:=.ptr 1 0) rfl (qA2 1 2 ?_ ?_)))
   ·exact qpP rfl (qc (aw2:=[.box [.ptr 1 0],.dead,.box [iI 0,.nils,iI 0]]) (n0:=3) (n1:=1) [1] rfl rfl (Qaa p0 (.inr ()) hx4) (Qoa rfl ⟨Qva rfl,trivial⟩ Qfa) ⟨Qda rfl,trivial⟩ ⟨.inr ⟨rfl,rfl⟩,.inl ⟨0,_,by decide,rfl,trivial⟩,.inr ⟨rfl,rfl⟩,trivial⟩ trivial)
   refine qpO rfl (Qqa rfl rfl (Qra Ty.k99 (c:=.ptr 1 0) rfl (qA1 1 ?_)))
   exact qpP rfl (qc (aw2:=[.box [.ptr 1 0],.dead,.box [iI 0,.nils,iI 0]]) (n0:=3) (n1:=1) [1] rfl rfl (Qaa p0 (.inr ()) hx4) (Qoa rfl ⟨Qva rfl,trivial⟩ Qfa) ⟨Qda rfl,trivial⟩ ⟨.inr ⟨rfl,rfl⟩,.inl ⟨0,_,by decide,rfl,trivial⟩,.inr ⟨rfl,rfl⟩,trivial⟩ trivial)
  ·refine qpO rfl (Qqa rfl rfl (Qra Ty.k99 (c:=.ptr 1 0) rfl (qA2 0 4 ?_ ?_)))
   ·refine qpO rfl (Qqa rfl rfl (Qra Ty.k99 (c:=.ptr 1 0) rfl (qA2 1 4 ?_ ?_)))
    ·exact qpP rfl (qc (aw2:=[.box [.ptr 1 0],.dead,.box [iI 0,.nils,iI 0]]) (n0:=3) (n1:=1) [1] rfl rfl (Qaa p0 (.inr ()) hx4) (Qoa rfl ⟨Qva rfl,trivial⟩ Qfa) ⟨Qda rfl,trivial⟩ ⟨.inr ⟨rfl,rfl⟩,.inl ⟨0,_,by decide,rfl,trivial⟩,.inr ⟨rfl,rfl⟩,trivial⟩ trivial)
    refine qpO rfl (Qqa rfl rfl (Qra Ty.k99 (c:=.ptr 1 0) rfl (qA1 1 ?_)))
    exact qpP rfl (qc (aw2:=[.box [.ptr 1 0],.dead,.box [iI 0,.nils,iI 0]]) (n0:=3) (n1:=1) [1] rfl rfl (Qaa p0 (.inr ()) hx4) (Qoa rfl ⟨Qva rfl,trivial⟩ Qfa) ⟨Qda rfl,trivial⟩ ⟨.inr ⟨rfl,rfl⟩,.inl ⟨0,_,by decide,rfl,trivial⟩,.inr ⟨rfl,rfl⟩,trivial⟩ trivial)
   refine qpO rfl (Qqa rfl rfl (Qra Ty.k99 (c:=.ptr 1 0) rfl (qA1 0 (qpO rfl (Qqa rfl rfl (Qra Ty.k99 (c:=.ptr 1 0) rfl (qA1 1 ?_)))))))
   exact qpP rfl (qc (aw2:=[.box [.ptr 1 0],.dead,.box [iI 0,.nils,iI 0]]) (n0:=3) (n1:=1) [1] rfl rfl (Qaa p0 (.inr ()) hx4) (Qoa rfl ⟨Qva rfl,trivial⟩ Qfa) ⟨Qda rfl,trivial⟩ ⟨.inr ⟨rfl,rfl⟩,.inl ⟨0,_,by decide,rfl,trivial⟩,.inr ⟨rfl,rfl⟩,trivial⟩ trivial)
  refine qpO rfl (Qqa rfl rfl (Qra Ty.k99 (c:=.ptr 1 0) rfl (qA2 0 2 ?_ ?_)))
  ·refine qpO rfl (Qqa rfl rfl (Qra Ty.k99 (c:=.ptr 1 0) rfl (qA2 1 2 ?_ ?_)))
   ·exact qpP rfl (qc (aw2:=[.box [.ptr 1 0],.dead,.box [iI 0,.nils,iI 0]]) (n0:=3) (n1:=1) [1] rfl rfl (Qaa p0 (.inr ()) hx4) (Qoa rfl ⟨Qva rfl,trivial⟩ Qfa) ⟨Qda rfl,trivial⟩ ⟨.inr ⟨rfl,rfl⟩,.inl ⟨0,_,by decide,rfl,trivial⟩,.inr ⟨rfl,rfl⟩,trivial⟩ trivial)
   refine qpO rfl (Qqa rfl rfl (Qra Ty.k99 (c:=.ptr 1 0) rfl (qA1 1 ?_)))
   exact qpP rfl (qc (aw2:=[.box [.ptr 1 0],.dead,.box [iI 0,.nils,iI 0]]) (n0:=3) (n1:=1) [1] rfl rfl (Qaa p0 (.inr ()) hx4) (Qoa rfl ⟨Qva rfl,trivial⟩ Qfa) ⟨Qda rfl,trivial⟩ ⟨.inr ⟨rfl,rfl⟩,.inl ⟨0,_,by decide,rfl,trivial⟩,.inr ⟨rfl,rfl⟩,trivial⟩ trivial)
  refine qpO rfl (Qqa rfl rfl (Qra Ty.k99 (c:=.ptr 1 0) rfl (qA1 0 (qpO rfl (Qqa rfl rfl (Qra Ty.k99 (c:=.ptr 1 0) rfl (qA1 1 ?_)))))))
  exact qpP rfl (qc (aw2:=[.box [.ptr 1 0],.dead,.box [iI 0,.nils,iI 0]]) (n0:=3) (n1:=1) [1] rfl rfl (Qaa p0 (.inr ()) hx4) (Qoa rfl ⟨Qva rfl,trivial⟩ Qfa) ⟨Qda rfl,trivial⟩ ⟨.inr ⟨rfl,rfl⟩,.inl ⟨0,_,by decide,rfl,trivial⟩,.inr ⟨rfl,rfl⟩,trivial⟩ trivial)
 refine Jza h (fun hx5 h=>?_) (fun x5 hx5 h=>?_)
 ·cases h
  refine T.drawnP (V:=(.iface 97 (.agg #[]))) (fun _=>True) mixed (k:=9) rfl ?_ (fun _ _ _=>rfl)
  refine qp0 5 rfl (Zgc (cs:=[.ptr 0 0]) rfl (qA3 0 2 4 ?_ ?_ ?_))
  ·refine qpO rfl (Qqa rfl rfl (Qra Ty.k99 (c:=.ptr 1 0) rfl (qA3 1 2 4 ?_ ?_ ?_)))
   ·refine qpO rfl (Qza (aw2:=[.box [.ptr 1 0],.box [.str x4.2],.box [iI 0,.nils,iI 0]]) (v':=iI x4.1) (n0:=3) (n1:=1) [1] rfl rfl (Qaa p0 (.inl x4) hx4) (Qoa rfl ⟨Qva rfl,trivial⟩ Qfa) ⟨Qda rfl,trivial⟩ (Qea (Qba _ _)) ⟨.inr ⟨rfl,rfl⟩,.inl ⟨0,_,by decide,rfl,Qya ⟨Qea (Q1a _),trivial⟩⟩,.inr ⟨rfl,rfl⟩,trivial⟩ (qA2 2 4 ?_ ?_))
    ·refine qpO rfl (Qqa rfl rfl (Qra Ty.k99 (c:=.ptr 1 0) rfl (qA2 3 4 ?_ ?_)))
     ·exact qpP rfl (qc (aw2:=[.box [.ptr 1 0],.dead,.box [iI 0,.nils,iI 0]]) (n0:=3) (n1:=1) [1] rfl rfl (Qaa x4.2 (.inr ()) hx5) (Qoa rfl ⟨Qva rfl,trivial⟩ Qfa) ⟨Qda rfl,trivial⟩ ⟨.inr ⟨rfl,rfl⟩,.inl ⟨0,_,by decide,rfl,trivial⟩,.inr ⟨rfl,rfl⟩,trivial⟩ trivial)
     refine qpO rfl (Qqa rfl rfl (Qra Ty.k99 (c:=.ptr 1 0) rfl (qA1 3 ?_)))
     exact qpP rfl (qc (aw2:=[.box [.ptr 1 0],.dead,.box [iI 0,.nils,iI 0]]) (n0:=3) (n1:=1) [1] rfl rfl (Qaa x4.2 (.inr ()) hx5) (Qoa rfl ⟨Qva rfl,trivial⟩ Qfa) ⟨Qda rfl,trivial⟩ ⟨.inr ⟨rfl,rfl⟩,.inl ⟨0,_,by decide,rfl,trivial⟩,.inr ⟨rfl,rfl⟩,trivial⟩ trivial)
    refine qpO rfl (Qqa rfl rfl (Qra Ty.k99 (c:=.ptr 1 0) rfl (qA1 2 (qpO rfl (Qqa rfl rfl (Qra Ty.k99 (c:=.ptr 1 0) rfl (qA1 3 ?_)))))))
    exact qpP rfl (qc (aw2:=[.box [.ptr 1 0],.dead,.box [iI 0,.nils,iI 0]]) (n0:=3) (n1:=1) [1] rfl rfl (Qaa x4.2 (.inr ()) hx5) (Qoa rfl ⟨Qva rfl,trivial⟩ Qfa) ⟨Qda rfl,trivial⟩ ⟨.inr ⟨rfl,rfl⟩,.inl ⟨0,_,by decide,rfl,trivial⟩,.inr ⟨rfl,rfl⟩,trivial⟩ trivial)
   ·refine qpO rfl (Qqa rfl rfl (Qra Ty.k99 (c:=.ptr 1 0) rfl (qA2 1 4 ?_ ?_)))
    ·refine qpO rfl (Qza (aw2:=[.box [.ptr 1 0],.box [.str x4.2],.box [iI 0,.nils,iI 0]]) (v':=iI x4.1) (n0:=3) (n1:=1) [1] rfl rfl (Qaa p0 (.inl x4) hx4) (Qoa rfl ⟨Qva rfl,trivial⟩ Qfa) ⟨Qda rfl,trivial⟩ (Qea (Qba _ _)) ⟨.inr ⟨rfl,rfl⟩,.inl ⟨0,_,by decide,rfl,Qya ⟨Qea (Q1a _),trivial⟩⟩,.inr ⟨rfl,rfl⟩,trivial⟩ (qA2 3 4 ?_ ?_))
     ·exact qpP rfl (qc (aw2:=[.box [.ptr 1 0],.dead,.box [iI 0,.nils,iI 0]]) (n0:=3) (n1:=1) [1] rfl rfl (Qaa x4.2 (.inr ()) hx5) (Qoa rfl ⟨Qva rfl,trivial⟩ Qfa) ⟨Qda rfl,trivial⟩ ⟨.inr ⟨rfl,rfl⟩,.inl ⟨0,_,by decide,rfl,trivial⟩,.inr ⟨rfl,rfl⟩,trivial⟩ trivial)
     refine qpO rfl (Qqa rfl rfl (Qra Ty.k99 (c:=.ptr 1 0) rfl (qA1 3 ?_)))
     exact qpP rfl (qc (aw2:=[.box [.ptr 1 0],.dead,.box [iI 0,.nils,iI 0]]) (n0:=3) (n1:=1) [1] rfl rfl (Qaa x4.2 (.inr ()) hx5) (Qoa rfl ⟨Qva rfl,trivial⟩ Qfa) ⟨Qda rfl,trivial⟩ ⟨.inr ⟨rfl,rfl⟩,.inl ⟨0,_,by decide,rfl,trivial⟩,.inr ⟨rfl,rfl⟩,trivial⟩ trivial)
    refine qpO rfl (Qqa rfl rfl (Qra Ty.k99 (c:=.ptr 1 0) rfl (qA1 1 (qpO rfl (Qza (aw2:=[.box [.ptr 1 0],.box [.str x4.2],.box [iI 0,.nils,iI 0]]) (v':=iI x4.1) (n0:=3) (n1:=1) [1] rfl rfl (Qaa p0 (.inl x4) hx4) (Qoa rfl ⟨Qva rfl,trivial⟩ Qfa) ⟨Qda rfl,trivial⟩ (Qea (Qba _ _)) ⟨.inr ⟨rfl,rfl⟩,.inl ⟨0,_,by decide,rfl,Qya ⟨Qea (Q1a _),trivial⟩⟩,.inr ⟨rfl,rfl⟩,trivial⟩ (qA1 3 ?_))))))
    exact qpP rfl (qc (aw2:=[.box [.ptr 1 0],.dead,.box [iI 0,.nils,iI 0]]) (n0:=3) (n1:=1) [1] rfl rfl (Qaa x4.2 (.inr ()) hx5) (Qoa rfl ⟨Qva rfl,trivial⟩ Qfa) ⟨Qda rfl,trivial⟩ ⟨.inr ⟨rfl,rfl⟩,.inl ⟨0,_,by decide,rfl,trivial⟩,.inr ⟨rfl,rfl⟩,trivial⟩ trivial)
   refine qpO rfl (Qqa rfl rfl (Qra Ty.k99 (c:=.ptr 1 0) rfl (qA2 1 2 ?_ ?_)))
   ·refine qpO rfl (Qza (aw2:=[.box [.ptr 1 0],.box [.str x4.2],.box [iI 0,.nils,iI 0]]) (v':=iI x4.1) (n0:=3) (n1:=1) [1] rfl rfl (Qaa p0 (.inl x4) hx4) (Qoa rfl ⟨Qva rfl,trivial⟩ Qfa) ⟨Qda rfl,trivial⟩ (Qea (Qba _ _)) ⟨.inr ⟨rfl,rfl⟩,.inl ⟨0,_,by decide,rfl,Qya ⟨Qea (Q1a _),trivial⟩⟩,.inr ⟨rfl,rfl⟩,trivial⟩ (qA1 2 (qpO rfl (Qqa rfl rfl (Qra Ty.k99 (c:=.ptr 1 0) rfl (qA1 3 ?_))))))
    exact qpP rfl (qc (aw2:=[.box [.ptr 1 0],.dead,.box [iI 0,.nils,iI 0]]) (n0:=3) (n1:=1) [1] rfl rfl (Qaa x4.2 (.inr ()) hx5) (Qoa rfl ⟨Qva rfl,trivial⟩ Qfa) ⟨Qda rfl,trivial⟩ ⟨.inr ⟨rfl,rfl⟩,.inl ⟨0,_,by decide,rfl,trivial⟩,.inr ⟨rfl,rfl⟩,trivial⟩ trivial)
   refine qpO rfl (Qqa rfl rfl (Qra Ty.k99 (c:=.ptr 1 0) rfl (qA1 1 (qpO rfl (Qza (aw2:=[.box [.ptr 1 0],.box [.str x4.2],.box [iI 0,.nils,iI 0]]) (v':=iI x4.1) (n0:=3) (n1:=1) [1] rfl rfl (Qaa p0 (.inl x4) hx4) (Qoa rfl ⟨Qva rfl,trivial⟩ Qfa) ⟨Qda rfl,trivial⟩ (Qea (Qba _ _)) ⟨.inr ⟨rfl,rfl⟩,.inl ⟨0,_,by decide,rfl,Qya ⟨Qea (Q1a _),trivial⟩⟩,.inr ⟨rfl,rfl⟩,trivial⟩ (qA1 3 ?_))))))
   exact qpP rfl (qc (aw2:=[.box [.ptr 1 0],.dead,.box [iI 0,.nils,iI 0]]) (n0:=3) (n1:=1) [1] rfl rfl (Qaa x4.2 (.inr ()) hx5) (Qoa rfl ⟨Qva rfl,trivial⟩ Qfa) ⟨Qda rfl,trivial⟩ ⟨.inr ⟨rfl,rfl⟩,.inl ⟨0,_,by decide,rfl,trivial⟩,.inr ⟨rfl,rfl⟩,trivial⟩ trivial)
  ·refine qpO rfl (Qqa rfl rfl (Qra Ty.k99 (c:=.ptr 1 0) rfl (qA2 0 4 ?_ ?_)))
   ·refine qpO rfl (Qqa rfl rfl (Qra Ty.k99 (c:=.ptr 1 0) rfl (qA2 1 4 ?_ ?_)))
    ·refine qpO rfl (Qza (aw2:=[.box [.ptr 1 0],.box [.str x4.2],.box [iI 0,.nils,iI 0]]) (v':=iI x4.1) (n0:=3) (n1:=1) [1] rfl rfl (Qaa p0 (.inl x4) hx4) (Qoa rfl ⟨Qva rfl,trivial⟩ Qfa) ⟨Qda rfl,trivial⟩ (Qea (Qba _ _)) ⟨.inr ⟨rfl,rfl⟩,.inl ⟨0,_,by decide,rfl,Qya ⟨Qea (Q1a _),trivial⟩⟩,.inr ⟨rfl,rfl⟩,trivial⟩ (qA2 3 4 ?_ ?_))
     ·exact qpP rfl (qc (aw2:=[.box [.ptr 1 0],.dead,.box [iI 0,.nils,iI 0]]) (n0:=3) (n1:=1) [1] rfl rfl (Qaa x4.2 (.inr ()) hx5) (Qoa rfl ⟨Qva rfl,trivial⟩ Qfa) ⟨Qda rfl,trivial⟩ ⟨.inr ⟨rfl,rfl⟩,.inl ⟨0,_,by decide,rfl,trivial⟩,.inr ⟨rfl,rfl⟩,trivial⟩ trivial)
     refine qpO rfl (Qqa rfl rfl (Qra Ty.k99 (c:=.ptr 1 0) rfl (qA1 3 ?_)))
     exact qpP rfl (qc (aw2:=[.box [.ptr 1 0],.dead,.box [iI 0,.nils,iI 0]]) (n0:=3) (n1:=1) [1] rfl rfl (Qaa x4.2 (.inr ()) hx5) (Qoa rfl ⟨Qva rfl,trivial⟩ Qfa) ⟨Qda rfl,trivial⟩ ⟨.inr ⟨rfl,rfl⟩,.inl ⟨0,_,by decide,rfl,trivial⟩,.inr ⟨rfl,rfl⟩,trivial⟩ trivial)
    refine qpO rfl (Qqa rfl rfl (Qra Ty.k99 (c:=.ptr 1 0) rfl (qA1 1 (qpO rfl (Qza (aw2:=[.box [.ptr 1 0],.box [.str x4.2],.box [iI 0,.nils,iI 0]]) (v':=iI x4.1) (n0:=3) (n1:=1) [1] rfl rfl (Qaa p0 (.inl x4) hx4) (Qoa rfl ⟨Qva rfl,trivial⟩ Qfa) ⟨Qda rfl,trivial⟩ (Qea (Qba _ _)) ⟨.inr ⟨rfl,rfl⟩,.inl ⟨0,_,by decide,rfl,Qya ⟨Qea (Q1a _),trivial⟩⟩,.inr ⟨rfl,rfl⟩,trivial⟩ (qA1 3 ?_))))))
    exact qpP rfl (qc (aw2:=[.box [.ptr 1 0],.dead,.box [iI 0,.nils,iI 0]]) (n0:=3) (n1:=1) [1] rfl rfl (Qaa x4.2 (.inr ()) hx5) (Qoa rfl ⟨Qva rfl,trivial⟩ Qfa) ⟨Qda rfl,trivial⟩ ⟨.inr ⟨rfl,rfl⟩,.inl ⟨0,_,by decide,rfl,trivial⟩,.inr ⟨rfl,rfl⟩,trivial⟩ trivial)
   refine qpO rfl (Qqa rfl rfl (Qra Ty.k99 (c:=.ptr 1 0) rfl (qA1 0 (qpO rfl (Qqa rfl rfl (Qra Ty.k99 (c:=.ptr 1 0) rfl (qA1 1 (qpO rfl (Qza (aw2:=[.box [.ptr 1 0],.box [.str x4.2],.box [iI 0,.nils,iI 0]]) (v':=iI x4.1) (n0:=3) (n1:=1) [1] rfl rfl (Qaa p0 (.inl x4) hx4) (Qoa rfl ⟨Qva rfl,trivial⟩ Qfa) ⟨Qda rfl,trivial⟩ (Qea (Qba _ _)) ⟨.inr ⟨rfl,rfl⟩,.inl ⟨0,_,by decide,rfl,Qya ⟨Qea (Q1a _),trivial⟩⟩,.inr ⟨rfl,rfl⟩,trivial⟩ (qA1 3 ?_))))))))))
   exact qpP rfl (qc (aw2:=[.box [.ptr 1 0],.dead,.box [iI 0,.nils,iI 0]]) (n0:=3) (n1:=1) [1] rfl rfl (Qaa x4.2 (.inr ()) hx5) (Qoa rfl ⟨Qva rfl,trivial⟩ Qfa) ⟨Qda rfl,trivial⟩ ⟨.inr ⟨rfl,rfl⟩,.inl ⟨0,_,by decide,rfl,trivial⟩,.inr ⟨rfl,rfl⟩,trivial⟩ trivial)
  refine qpO rfl (Qqa rfl rfl (Qra Ty.k99 (c:=.ptr 1 0) rfl (qA2 0 2 ?_ ?_)))
  ·refine qpO rfl (Qqa rfl rfl (Qra Ty.k99 (c:=.ptr 1 0) rfl (qA2 1 2 ?_ ?_)))
   ·refine qpO rfl (Qza (aw2:=[.box [.ptr 1 0],.box [.str x4.2],.box [iI 0,.nils,iI 0]]) (v':=iI x4.1) (n0:=3) (n1:=1) [1] rfl rfl (Qaa p0 (.inl x4) hx4) (Qoa rfl ⟨Qva rfl,trivial⟩ Qfa) ⟨Qda rfl,trivial⟩ (Qea (Qba _ _)) ⟨.inr ⟨rfl,rfl⟩,.inl ⟨0,_,by decide,rfl,Qya ⟨Qea (Q1a _),trivial⟩⟩,.inr ⟨rfl,rfl⟩,trivial⟩ (qA1 2 (qpO rfl (Qqa rfl rfl (Qra Ty.k99 (c:=.ptr 1 0) rfl (qA1 3 ?_))))))
    exact qpP rfl (qc (aw2:=[.box [.ptr 1 0],.dead,.box [iI 0,.nils,iI 0]]) (n0:=3) (n1:=1) [1] rfl rfl (Qaa x4.2 (.inr ()) hx5) (Qoa rfl ⟨Qva rfl,trivial⟩ Qfa) ⟨Qda rfl,trivial⟩ ⟨.inr ⟨rfl,rfl⟩,.inl ⟨0,_,by decide,rfl,trivial⟩,.inr ⟨rfl,rfl⟩,trivial⟩ trivial)
   refine qpO rfl (Qqa rfl rfl (Qra Ty.k99 (c:=.ptr 1 0) rfl (qA1 1 (qpO rfl (Qza (aw2:=[.box [.ptr 1 0],.box [.str x4.2],.box [iI 0,.nils,iI 0]]) (v':=iI x4.1) (n0:=3) (n1:=1) [1] rfl rfl (Qaa p0 (.inl x4) hx4) (Qoa rfl ⟨Qva rfl,trivial⟩ Qfa) ⟨Qda rfl,trivial⟩ (Qea (Qba _ _)) ⟨.inr ⟨rfl,rfl⟩,.inl ⟨0,_,by decide,rfl,Qya ⟨Qea (Q1a _),trivial⟩⟩,.inr ⟨rfl,rfl⟩,trivial⟩ (qA1 3 ?_))))))
   exact qpP rfl (qc (aw2:=[.box [.ptr 1 0],.dead,.box [iI 0,.nils,iI 0]]) (n0:=3) (n1:=1) [1] rfl rfl (Qaa x4.2 (.inr ()) hx5) (Qoa rfl ⟨Qva rfl,trivial⟩ Qfa) ⟨Qda rfl,trivial⟩ ⟨.inr ⟨rfl,rfl⟩,.inl ⟨0,_,by decide,rfl,trivial⟩,.inr ⟨rfl,rfl⟩,trivial⟩ trivial)
  refine qpO rfl (Qqa rfl rfl (Qra Ty.k99 (c:=.ptr 1 0) rfl (qA1 0 (qpO rfl (Qqa rfl rfl (Qra Ty.k99 (c:=.ptr 1 0) rfl (qA1 1 (qpO rfl (Qza (aw2:=[.box [.ptr 1 0],.box [.str x4.2],.box [iI 0,.nils,iI 0]]) (v':=iI x4.1) (n0:=3) (n1:=1) [1] rfl rfl (Qaa p0 (.inl x4) hx4) (Qoa rfl ⟨Qva rfl,trivial⟩ Qfa) ⟨Qda rfl,trivial⟩ (Qea (Qba _ _)) ⟨.inr ⟨rfl,rfl⟩,.inl ⟨0,_,by decide,rfl,Qya ⟨Qea (Q1a _),trivial⟩⟩,.inr ⟨rfl,rfl⟩,trivial⟩ (qA1 3 ?_))))))))))
  exact qpP rfl (qc (aw2:=[.box [.ptr 1 0],.dead,.box [iI 0,.nils,iI 0]]) (n0:=3) (n1:=1) [1] rfl rfl (Qaa x4.2 (.inr ()) hx5) (Qoa rfl ⟨Qva rfl,trivial⟩ Qfa) ⟨Qda rfl,trivial⟩ ⟨.inr ⟨rfl,rfl⟩,.inl ⟨0,_,by decide,rfl,trivial⟩,.inr ⟨rfl,rfl⟩,trivial⟩ trivial)
 refine Jza h (fun hx6 h=>?_) (fun x6 hx6 h=>?_)
 ·cases h
  refine T.drawnP (V:=(.iface 97 (.agg #[]))) (fun _=>True) mixed (k:=9) rfl ?_ (fun _ _ _=>rfl)
  refine qp0 5 rfl (Zgc (cs:=[.ptr 0 0]) rfl (qA3 0 2 4 ?_ ?_ ?_))
  ·refine qpO rfl (Qqa rfl rfl (Qra Ty.k99 (c:=.ptr 1 0) rfl (qA3 1 2 4 ?_ ?_ ?_)))
   ·refine qpO rfl (Qza (aw2:=[.box [.ptr 1 0],.box [.str x4.2],.box [iI 0,.nils,iI 0]]) (v':=iI x4.1) (n0:=3) (n1:=1) [1] rfl rfl (Qaa p0 (.inl x4) hx4) (Qoa rfl ⟨Qva rfl,trivial⟩ Qfa) ⟨Qda rfl,trivial⟩ (Qea (Qba _ _)) ⟨.inr ⟨rfl,rfl⟩,.inl ⟨0,_,by decide,rfl,Qya ⟨Qea (Q1a _),trivial⟩⟩,.inr ⟨rfl,rfl⟩,trivial⟩ (qA2 2 4 ?_ ?_))
    ·refine qpO rfl (Qqa rfl rfl (Qra Ty.k99 (c:=.ptr 1 0) rfl (qA2 3 4 ?_ ?_)))
     ·refine qpO rfl (Qza (aw2:=[.box [.ptr 1 0],.box [.str x5.2],.box [iI 0,.nils,iI 0]]) (v':=iI x5.1) (n0:=3) (n1:=1) [1] rfl rfl (Qaa x4.2 (.inl x5) hx5) (Qoa rfl ⟨Qva rfl,trivial⟩ Qfa) ⟨Qda rfl,trivial⟩ (Qea (Qba _ _)) ⟨.inr ⟨rfl,rfl⟩,.inl ⟨0,_,by decide,rfl,Qya ⟨Qea (Q1a _),trivial⟩⟩,.inr ⟨rfl,rfl⟩,trivial⟩ (qA1 4 (qpO rfl (Qqa rfl rfl (Qra Ty.k99 (c:=.ptr 1 0) rfl (qA1 6 ?_))))))
      exact qpP rfl (qc (aw2:=[.dead,.dead,.box [iI 0,.nils,iI 0]]) (n0:=3) (n1:=2) [1,0] rfl rfl (Q4a x5.2 (.inr ()) hx6) (Qoa rfl ⟨Qva rfl,trivial⟩ (Qoa rfl ⟨Qda rfl,trivial⟩ Qfa)) ⟨Qda rfl,Vka ⟨Qda rfl,trivial⟩,trivial⟩ ⟨.inl ⟨1,_,by decide,rfl,trivial⟩,.inl ⟨0,_,by decide,rfl,trivial⟩,.inr ⟨rfl,rfl⟩,trivial⟩ trivial)
     refine qpO rfl (Qqa rfl rfl (Qra Ty.k99 (c:=.ptr 1 0) rfl (qA1 3 (qpO rfl (Qza (aw2:=[.box [.ptr 1 0],.box [.str x5.2],.box [iI 0,.nils,iI 0]]) (v':=iI x5.1) (n0:=3) (n1:=1) [1] rfl rfl (Qaa x4.2 (.inl x5) hx5) (Qoa rfl ⟨Qva rfl,trivial⟩ Qfa) ⟨Qda rfl,trivial⟩ (Qea (Qba _ _)) ⟨.inr ⟨rfl,rfl⟩,.inl ⟨0,_,by decide,rfl,Qya ⟨Qea (Q1a _),trivial⟩⟩,.inr ⟨rfl,rfl⟩,trivial⟩ (qA1 6 ?_))))))
     exact qpP rfl (qc (aw2:=[.dead,.dead,.box [iI 0,.nils,iI 0]]) (n0:=3) (n1:=2) [1,0] rfl rfl (Q4a x5.2 (.inr ()) hx6) (Qoa rfl ⟨Qva rfl,trivial⟩ (Qoa rfl ⟨Qda rfl,trivial⟩ Qfa)) ⟨Qda rfl,Vka ⟨Qda rfl,trivial⟩,trivial⟩ ⟨.inl ⟨1,_,by decide,rfl,trivial⟩,.inl ⟨0,_,by decide,rfl,trivial⟩,.inr ⟨rfl,rfl⟩,trivial⟩ trivial)
    refine qpO rfl (Qqa rfl rfl (Qra Ty.k99 (c:=.ptr 1 0) rfl (qA1 2 (qpO rfl (Qqa rfl rfl (Qra Ty.k99 (c:=.ptr 1 0) rfl (qA1 3 (qpO rfl (Qza (aw2:=[.box [.ptr 1 0],.box [.str x5.2],.box [iI 0,.nils,iI 0]]) (v':=iI x5.1) (n0:=3) (n1:=1) [1] rfl rfl (Qaa x4.2 (.inl x5) hx5) (Qoa rfl ⟨Qva rfl,trivial⟩ Qfa) ⟨Qda rfl,trivial⟩ (Qea (Qba _ _)) ⟨.inr ⟨rfl,rfl⟩,.inl ⟨0,_,by decide,rfl,Qya ⟨Qea (Q1a _),trivial⟩⟩,.inr ⟨rfl,rfl⟩,trivial⟩ (qA1 6 ?_))))))))))
    exact qpP rfl (qc (aw2:=[.dead,.dead,.box [iI 0,.nils,iI 0]]) (n0:=3) (n1:=2) [1,0] rfl rfl (Q4a x5.2 (.inr ()) hx6) (Qoa rfl ⟨Qva rfl,trivial⟩ (Qoa rfl ⟨Qda rfl,trivial⟩ Qfa)) ⟨Qda rfl,Vka ⟨Qda rfl,trivial⟩,trivial⟩ ⟨.inl ⟨1,_,by decide,rfl,trivial⟩,.inl ⟨0,_,by decide,rfl,trivial⟩,.inr ⟨rfl,rfl⟩,trivial⟩ trivial)
   ·refine qpO rfl (Qqa rfl rfl (Qra Ty.k99 (c:=.ptr 1 0) rfl (qA2 1 4 ?_ ?_)))
    ·refine qpO rfl (Qza (aw2:=[.box [.ptr 1 0],.box [.str x4.2],.box [iI 0,.nils,iI 0]]) (v':=iI x4.1) (n0:=3) (n1:=1) [1] rfl rfl (Qaa p0 (.inl x4) hx4) (Qoa rfl ⟨Qva rfl,trivial⟩ Qfa) ⟨Qda rfl,trivial⟩ (Qea (Qba _ _)) ⟨.inr ⟨rfl,rfl⟩,.inl ⟨0,_,by decide,rfl,Qya ⟨Qea (Q1a _),trivial⟩⟩,.inr ⟨rfl,rfl⟩,trivial⟩ (qA2 3 4 ?_ ?_))
     ·refine qpO rfl (Qza (aw2:=[.box [.ptr 1 0],.box [.str x5.2],.box [iI 0,.nils,iI 0]]) (v':=iI x5.1) (n0:=3) (n1:=1) [1] rfl rfl (Qaa x4.2 (.inl x5) hx5) (Qoa rfl ⟨Qva rfl,trivial⟩ Qfa) ⟨Qda rfl,trivial⟩ (Qea (Qba _ _)) ⟨.inr ⟨rfl,rfl⟩,.inl ⟨0,_,by decide,rfl,Qya ⟨Qea (Q1a _),trivial⟩⟩,.inr ⟨rfl,rfl⟩,trivial⟩ (qA1 4 (qpO rfl (Qqa rfl rfl (Qra Ty.k99 (c:=.ptr 1 0) rfl (qA1 6 ?_))))))
      exact qpP rfl (qc (aw2:=[.dead,.dead,.box [iI 0,.nils,iI 0]]) (n0:=3) (n1:=2) [1,0] rfl rfl (Q4a x5.2 (.inr ()) hx6) (Qoa rfl ⟨Qva rfl,trivial⟩ (Qoa rfl ⟨Qda rfl,trivial⟩ Qfa)) ⟨Qda rfl,Vka ⟨Qda rfl,trivial⟩,trivial⟩ ⟨.inl ⟨1,_,by decide,rfl,trivial⟩,.inl ⟨0,_,by decide,rfl,trivial⟩,.inr ⟨rfl,rfl⟩,trivial⟩ trivial)
     refine qpO rfl (Qqa rfl rfl (Qra Ty.k99 (c:=.ptr 1 0) rfl (qA1 3 (qpO rfl (Qza (aw2:=[.box [.ptr 1 0],.box [.str x5.2],.box [iI 0,.nils,iI 0]]) (v':=iI x5.1) (n0:=3) (n1:=1) [1] rfl rfl (Qaa x4.2 (.inl x5) hx5) (Qoa rfl ⟨Qva rfl,trivial⟩ Qfa) ⟨Qda rfl,trivial⟩ (Qea (Qba _ _)) ⟨.inr ⟨rfl,rfl⟩,.inl ⟨0,_,by decide,rfl,Qya ⟨Qea (Q1a _),trivial⟩⟩,.inr ⟨rfl,rfl⟩,trivial⟩ (qA1 6 ?_))))))
     exact qpP rfl (qc (aw2:=[.dead,.dead,.box [iI 0,.nils,iI 0]]) (n0:=3) (n1:=2) [1,0] rfl rfl (Q4a x5.2 (.inr ()) hx6) (Qoa rfl ⟨Qva rfl,trivial⟩ (Qoa rfl ⟨Qda rfl,trivial⟩ Qfa)) ⟨Qda rfl,Vka ⟨Qda rfl,trivial⟩,trivial⟩ ⟨.inl ⟨1,_,by decide,rfl,trivial⟩,.inl ⟨0,_,by decide,rfl,trivial⟩,.inr ⟨rfl,rfl⟩,trivial⟩ trivial)
    refine qpO rfl (Qqa rfl rfl (Qra Ty.k99 (c:=.ptr 1 0) rfl (qA1 1 (qpO rfl (Qza (aw2:=[.box [.ptr 1 0],.box [.str x4.2],.box [iI 0,.nils,iI 0]]) (v':=iI x4.1) (n0:=3) (n1:=1) [1] rfl rfl (Qaa p0 (.inl x4) hx4) (Qoa rfl ⟨Qva rfl,trivial⟩ Qfa) ⟨Qda rfl,trivial⟩ (Qea (Qba _ _)) ⟨.inr ⟨rfl,rfl⟩,.inl ⟨0,_,by decide,rfl,Qya ⟨Qea (Q1a _),trivial⟩⟩,.inr ⟨rfl,rfl⟩,trivial⟩ (qA1 3 (qpO rfl (Qza (aw2:=[.box [.ptr 1 0],.box [.str x5.2],.box [iI 0,.nils,iI 0]]) (v':=iI x5.1) (n0:=3) (n1:=1) [1] rfl rfl (Qaa x4.2 (.inl x5) hx5) (Qoa rfl ⟨Qva rfl,trivial⟩ Qfa) ⟨Qda rfl,trivial⟩ (Qea (Qba _ _)) ⟨.inr ⟨rfl,rfl⟩,.inl ⟨0,_,by decide,rfl,Qya ⟨Qea (Q1a _),trivial⟩⟩,.inr ⟨rfl,rfl⟩,trivial⟩ (qA1 6 ?_)))))))))
    exact qpP rfl (qc (aw2:=[.dead,.dead,.box [iI 0,.nils,iI 0]]) (n0:=3) (n1:=2) [1,0] rfl rfl (Q4a x5.2 (.inr ()) hx6) (Qoa rfl ⟨Qva rfl,trivial⟩ (Qoa rfl ⟨Qda rfl,trivial⟩ Qfa)) ⟨Qda rfl,Vka ⟨Qda rfl,trivial⟩,trivial⟩ ⟨.inl ⟨1,_,by decide,rfl,trivial⟩,.inl ⟨0,_,by decide,rfl,trivial⟩,.inr ⟨rfl,rfl⟩,trivial⟩ trivial)
   refine qpO rfl (Qqa rfl rfl (Qra Ty.k99 (c:=.ptr 1 0) rfl (qA2 1 2 ?_ ?_)))
   ·refine qpO rfl (Qza (aw2:=[.box [.ptr 1 0],.box [.str x4.2],.box [iI 0,.nils,iI 0]]) (v':=iI x4.1) (n0:=3) (n1:=1) [1] rfl rfl (Qaa p0 (.inl x4) hx4) (Qoa rfl ⟨Qva rfl,trivial⟩ Qfa) ⟨Qda rfl,trivial⟩ (Qea (Qba _ _)) ⟨.inr ⟨rfl,rfl⟩,.inl ⟨0,_,by decide,rfl,Qya ⟨Qea (Q1a _),trivial⟩⟩,.inr ⟨rfl,rfl⟩,trivial⟩ (qA1 2 (qpO rfl (Qqa rfl rfl (Qra Ty.k99 (c:=.ptr 1 0) rfl (qA1 3 (qpO rfl (Qza (aw2:=[.box [.ptr 1 0],.box [.str x5.2],.box [iI 0,.nils,iI 0]]) (v':=iI x5.1) (n0:=3) (n1:=1) [1] rfl rfl (Qaa x4.2 (.inl x5) hx5) (Qoa rfl ⟨Qva rfl,trivial⟩ Qfa) ⟨Qda rfl,trivial⟩ (Qea (Qba _ _)) ⟨.inr ⟨rfl,rfl⟩,.inl ⟨0,_,by decide,rfl,Qya ⟨Qea (Q1a _),trivial⟩⟩,.inr ⟨rfl,rfl⟩,trivial⟩ (qA1 6 ?_)))))))))
    exact qpP rfl (qc (aw2:=[.dead,.dead,.box [iI 0,.nils,iI 0]]) (n0:=3) (n1:=2) [1,0] rfl rfl (Q4a x5.2 (.inr ()) hx6) (Qoa rfl ⟨Qva rfl,trivial⟩ (Qoa rfl ⟨Qda rfl,trivial⟩ Qfa)) ⟨Qda rfl,Vka ⟨Qda rfl,trivial⟩,trivial⟩ ⟨.inl ⟨1,_,by decide,rfl,trivial⟩,.inl ⟨0,_,by decide,rfl,trivial⟩,.inr ⟨rfl,rfl⟩,trivial⟩ trivial)
   refine qpO rfl (Qqa rfl rfl (Qra Ty.k99 (c:=.ptr 1 0) rfl (qA1 1 (qpO rfl (Qza (aw2:=[.box [.ptr 1 0],.box [.str x4.2],.box [iI 0,.nils,iI 0]]) (v':=iI x4.1) (n0:=3) (n1:=1) [1] rfl rfl (Qaa p0 (.inl x4) hx4) (Qoa rfl ⟨Qva rfl,trivial⟩ Qfa) ⟨Qda rfl,trivial⟩ (Qea (Qba _ _)) ⟨.inr ⟨rfl,rfl⟩,.inl ⟨0,_,by decide,rfl,Qya ⟨Qea (Q1a _),trivial⟩⟩,.inr ⟨rfl,rfl⟩,trivial⟩ (qA1 3 (qpO rfl (Qza (aw2:=[.box [.ptr 1 0],.box [.str x5.2],.box [iI 0,.nils,iI 0]]) (v':=iI x5.1) (n0:=3) (n1:=1) [1] rfl rfl (Qaa x4.2 (.inl x5) hx5) (Qoa rfl ⟨Qva rfl,trivial⟩ Qfa) ⟨Qda rfl,trivial⟩ (Qea (Qba _ _)) ⟨.inr ⟨rfl,rfl⟩,.inl ⟨0,_,by decide,rfl,Qya ⟨Qea (Q1a _),trivial⟩⟩,.inr ⟨rfl,rfl⟩,trivial⟩ (qA1 6 ?_)))))))))
   exact qpP rfl (qc (aw2:=[.dead,.dead,.box [iI 0,.nils,iI 0]]) (n0:=3) (n1:=2) [1,0] rfl rfl (Q4a x5.2 (.inr ()) hx6) (Qoa rfl ⟨Qva rfl,trivial⟩ (Qoa rfl ⟨Qda rfl,trivial⟩ Qfa)) ⟨Qda rfl,Vka ⟨Qda rfl,trivial⟩,trivial⟩ ⟨.inl ⟨1,_,by decide,rfl,trivial⟩,.inl ⟨0,_,by decide,rfl,trivial⟩,.inr ⟨rfl,rfl⟩,trivial⟩ trivial)
  ·refine qpO rfl (Qqa rfl rfl (Qra Ty.k99 (c:=.ptr 1 0) rfl (qA2 0 4 ?_ ?_)))
   ·refine qpO rfl (Qqa rfl rfl (Qra Ty.k99 (c:=.ptr 1 0) rfl (qA2 1 4 ?_ ?_)))
    ·refine qpO rfl (Qza (aw2:=[.box [.ptr 1 0],.box [.str x4.2],.box [iI 0,.nils,iI 0]]) (v':=iI x4.1) (n0:=3) (n1:=1) [1] rfl rfl (Qaa p0 (.inl x4) hx4) (Qoa rfl ⟨Qva rfl,trivial⟩ Qfa) ⟨Qda rfl,trivial⟩ (Qea (Qba _ _)) ⟨.inr ⟨rfl,rfl⟩,.inl ⟨0,_,by decide,rfl,Qya ⟨Qea (Q1a _),trivial⟩⟩,.inr ⟨rfl,rfl⟩,trivial⟩ (qA2 3 4 ?_ ?_))
     ·refine qpO rfl (Qza (aw2:=[.box [.ptr 1 0],.box [.str x5.2],.box [iI 0,.nils,iI 0]]) (v':=iI x5.1) (n0:=3) (n1:=1) [1] rfl rfl (Qaa x4.2 (.inl x5) hx5) (Qoa rfl ⟨Qva rfl,trivial⟩ Qfa) ⟨Qda rfl,trivial⟩ (Qea (Qba _ _)) ⟨.inr ⟨rfl,rfl⟩,.inl ⟨0,_,by decide,rfl,Qya ⟨Qea (Q1a _),trivial⟩⟩,.inr ⟨rfl,rfl⟩,trivial⟩ (qA1 4 (qpO rfl (Qqa rfl rfl (Qra Ty.k99 (c:=.ptr 1 0) rfl (qA1 6 ?_))))))
      exact qpP rfl (qc (aw2:=[.dead,.dead,.box [iI 0,.nils,iI 0]]) (n0:=3) (n1:=2) [1,0] rfl rfl (Q4a x5.2 (.inr ()) hx6) (Qoa rfl ⟨Qva rfl,trivial⟩ (Qoa rfl ⟨Qda rfl,trivial⟩ Qfa)) ⟨Qda rfl,Vka ⟨Qda rfl,trivial⟩,trivial⟩ ⟨.inl ⟨1,_,by decide,rfl,trivial⟩,.inl ⟨0,_,by decide,rfl,trivial⟩,.inr ⟨rfl,rfl⟩,trivial⟩ trivial)
     refine qpO rfl (Qqa rfl rfl (Qra Ty.k99 (c:=.ptr 1 0) rfl (qA1 3 (qpO rfl (Qza (aw2:=[.box [.ptr 1 0],.box [.str x5.2],.box [iI 0,.nils,iI 0]]) (v':=iI x5.1) (n0:=3) (n1:=1) [1] rfl rfl (Qaa x4.2 (.inl x5) hx5) (Qoa rfl ⟨Qva rfl,trivial⟩ Qfa) ⟨Qda rfl,trivial⟩ (Qea (Qba _ _)) ⟨.inr ⟨rfl,rfl⟩,.inl ⟨0,_,by decide,rfl,Qya ⟨Qea (Q1a _),trivial⟩⟩,.inr ⟨rfl,rfl⟩,trivial⟩ (qA1 6 ?_))))))
     exact qpP rfl (qc (aw2:=[.dead,.dead,.box [iI 0,.nils,iI 0]]) (n0:=3) (n1:=2) [1,0] rfl rfl (Q4a x5.2 (.inr ()) hx6) (Qoa rfl ⟨Qva rfl,trivial⟩ (Qoa rfl ⟨Qda rfl,trivial⟩ Qfa)) ⟨Qda rfl,Vka ⟨Qda rfl,trivial⟩,trivial⟩ ⟨.inl ⟨1,_,by decide,rfl,trivial⟩,.inl ⟨0,_,by decide,rfl,trivial⟩,.inr ⟨rfl,rfl⟩,trivial⟩ trivial)
    refine qpO rfl (Qqa rfl rfl (Qra Ty.k99 (c:=.ptr 1 0) rfl (qA1 1 (qpO rfl (Qza (aw2:=[.box [.ptr 1 0],.box [.str x4.2],.box [iI 0,.nils,iI 0]]) (v':=iI x4.1) (n0:=3) (n1:=1) [1] rfl rfl (Qaa p0 (.inl x4) hx4) (Qoa rfl ⟨Qva rfl,trivial⟩ Qfa) ⟨Qda rfl,trivial⟩ (Qea (Qba _ _)) ⟨.inr ⟨rfl,rfl⟩,.inl ⟨0,_,by decide,rfl,Qya ⟨Qea (Q1a _),trivial⟩⟩,.inr ⟨rfl,rfl⟩,trivial⟩ (qA1 3 (qpO rfl (Qza (aw2:=[.box [.ptr 1 0],.box [.str x5.2],.box [iI 0,.nils,iI 0]]) (v':=iI x5.1) (n0:=3) (n1:=1) [1] rfl rfl (Qaa x4.2 (.inl x5) hx5) (Qoa rfl ⟨Qva rfl,trivial⟩ Qfa) ⟨Qda rfl,trivial⟩ (Qea (Qba _ _)) ⟨.inr ⟨rfl,rfl⟩,.inl ⟨0,_,by decide,rfl,Qya ⟨Qea (Q1a _),trivial⟩⟩,.inr ⟨rfl,rfl⟩,trivial⟩ (qA1 6 ?_)))))))))
    exact qpP rfl (qc (aw2:=[.dead,.dead,.box [iI 0,.nils,iI 0]]) (n0:=3) (n1:=2) [1,0] rfl rfl (Q4a x5.2 (.inr ()) hx6) (Qoa rfl ⟨Qva rfl,trivial⟩ (Qoa rfl ⟨Qda rfl,trivial⟩ Qfa)) ⟨Qda rfl,Vka ⟨Qda rfl,trivial⟩,trivial⟩ ⟨.inl ⟨1,_,by decide,rfl,trivial⟩,.inl ⟨0,_,by decide,rfl,trivial⟩,.inr ⟨rfl,rfl⟩,trivial⟩ trivial)
   refine qpO rfl (Qqa rfl rfl (Qra Ty.k99 (c:=.ptr 1 0) rfl (qA1 0 (qpO rfl (Qqa rfl rfl (Qra Ty.k99 (c:=.ptr 1 0) rfl (qA1 1 (qpO rfl (Qza (aw2:=[.box [.ptr 1 0],.box [.str x4.2],.box [iI 0,.nils,iI 0]]) (v':=iI x4.1) (n0:=3) (n1:=1) [1] rfl rfl (Qaa p0 (.inl x4) hx4) (Qoa rfl ⟨Qva rfl,trivial⟩ Qfa) ⟨Qda rfl,trivial⟩ (Qea (Qba _ _)) ⟨.inr ⟨rfl,rfl⟩,.inl ⟨0,_,by decide,rfl,Qya ⟨Qea (Q1a _),trivial⟩⟩,.inr ⟨rfl,rfl⟩,trivial⟩ (qA1 3 (qpO rfl (Qza (aw2:=[.box [.ptr 1 0],.box [.str x5.2],.box [iI 0,.nils,iI 0]]) (v':=iI x5.1) (n0:=3) (n1:=1) [1] rfl rfl (Qaa x4.2 (.inl x5) hx5) (Qoa rfl ⟨Qva rfl,trivial⟩ Qfa) ⟨Qda rfl,trivial⟩ (Qea (Qba _ _)) ⟨.inr ⟨rfl,rfl⟩,.inl ⟨0,_,by decide,rfl,Qya ⟨Qea (Q1a _),trivial⟩⟩,.inr ⟨rfl,rfl⟩,trivial⟩ (qA1 6 ?_)))))))))))))
   exact qpP rfl (qc (aw2:=[.dead,.dead,.box [iI 0,.nils,iI 0]]) (n0:=3) (n1:=2) [1,0] rfl rfl (Q4a x5.2 (.inr ()) hx6) (Qoa rfl ⟨Qva rfl,trivial⟩ (Qoa rfl ⟨Qda rfl,trivial⟩ Qfa)) ⟨Qda rfl,Vka ⟨Qda rfl,trivial⟩,trivial⟩ ⟨.inl ⟨1,_,by decide,rfl,trivial⟩,.inl ⟨0,_,by decide,rfl,trivial⟩,.inr ⟨rfl,rfl⟩,trivial⟩ trivial)
  refine qpO rfl (Qqa rfl rfl (Qra Ty.k99 (c:=.ptr 1 0) rfl (qA2 0 2 ?_ ?_)))
  ·refine qpO rfl (Qqa rfl rfl (Qra Ty.k99 (c:=.ptr 1 0) rfl (qA2 1 2 ?_ ?_)))
   ·refine qpO rfl (Qza (aw2:=[.box [.ptr 1 0],.box [.str x4.2],.box [iI 0,.nils,iI 0]]) (v':=iI x4.1) (n0:=3) (n1:=1) [1] rfl rfl (Qaa p0 (.inl x4) hx4) (Qoa rfl ⟨Qva rfl,trivial⟩ Qfa) ⟨Qda rfl,trivial⟩ (Qea (Qba _ _)) ⟨.inr ⟨rfl,rfl⟩,.inl ⟨0,_,by decide,rfl,Qya ⟨Qea (Q1a _),trivial⟩⟩,.inr ⟨rfl,rfl⟩,trivial⟩ (qA1 2 (qpO rfl (Qqa rfl rfl (Qra Ty.k99 (c:=.ptr 1 0) rfl (qA1 3 (qpO rfl (Qza (aw2:=[.box [.ptr 1 0],.box [.str x5.2],.box [iI 0,.nils,iI 0]]) (v':=iI x5.1) (n0:=3) (n1:=1) [1] rfl rfl (Qaa x4.2 (.inl x5) hx5) (Qoa rfl ⟨Qva rfl,trivial⟩ Qfa) ⟨Qda rfl,trivial⟩ (Qea (Qba _ _)) ⟨.inr ⟨rfl,rfl⟩,.inl ⟨0,_,by decide,rfl,Qya ⟨Qea (Q1a _),trivial⟩⟩,.inr ⟨rfl,rfl⟩,trivial⟩ (qA1 6 ?_)))))))))
    exact qpP rfl (qc (aw2:=[.dead,.dead,.box [iI 0,.nils,iI 0]]) (n0:=3) (n1:=2) [1,0] rfl rfl (Q4a x5.2 (.inr ()) hx6) (Qoa rfl ⟨Qva rfl,trivial⟩ (Qoa rfl ⟨Qda rfl,trivial⟩ Qfa)) ⟨Qda rfl,Vka ⟨Qda rfl,trivial⟩,trivial⟩ ⟨.inl ⟨1,_,by decide,rfl,trivial⟩,.inl ⟨0,_,by decide,rfl,trivial⟩,.inr ⟨rfl,rfl⟩,trivial⟩ trivial)
   refine qpO rfl (Qqa rfl rfl (Qra Ty.k99 (c:=.ptr 1 0) rfl (qA1 1 (qpO rfl (Qza (aw2:=[.box [.ptr 1 0],.box [.str x4.2],.box [iI 0,.nils,iI 0]]) (v':=iI x4.1) (n0:=3) (n1:=1) [1] rfl rfl (Qaa p0 (.inl x4) hx4) (Qoa rfl ⟨Qva rfl,trivial⟩ Qfa) ⟨Qda rfl,trivial⟩ (Qea (Qba _ _)) ⟨.inr ⟨rfl,rfl⟩,.inl ⟨0,_,by decide,rfl,Qya ⟨Qea (Q1a _),trivial⟩⟩,.inr ⟨rfl,rfl⟩,trivial⟩ (qA1 3 (qpO rfl (Qza (aw2:=[.box [.ptr 1 0],.box [.str x5.2],.box [iI 0,.nils,iI 0]]) (v':=iI x5.1) (n0:=3) (n1:=1) [1] rfl rfl (Qaa x4.2 (.inl x5) hx5) (Qoa rfl ⟨Qva rfl,trivial⟩ Qfa) ⟨Qda rfl,trivial⟩ (Qea (Qba _ _)) ⟨.inr ⟨rfl,rfl⟩,.inl ⟨0,_,by decide,rfl,Qya ⟨Qea (Q1a _),trivial⟩⟩,.inr ⟨rfl,rfl⟩,trivial⟩ (qA1 6 ?_)))))))))
   exact qpP rfl (qc (aw2:=[.dead,.dead,.box [iI 0,.nils,iI 0]]) (n0:=3) (n1:=2) [1,0] rfl rfl (Q4a x5.2 (.inr ()) hx6) (Qoa rfl ⟨Qva rfl,trivial⟩ (Qoa rfl ⟨Qda rfl,trivial⟩ Qfa)) ⟨Qda rfl,Vka ⟨Qda rfl,trivial⟩,trivial⟩ ⟨.inl ⟨1,_,by decide,rfl,trivial⟩,.inl ⟨0,_,by decide,rfl,trivial⟩,.inr ⟨rfl,rfl⟩,trivial⟩ trivial)
  refine qpO rfl (Qqa rfl rfl (Qra Ty.k99 (c:=.ptr 1 0) rfl (qA1 0 (qpO rfl (Qqa rfl rfl (Qra Ty.k99 (c:=.ptr 1 0) rfl (qA1 1 (qpO rfl (Qza (aw2:=[.box [.ptr 1 0],.box [.str x4.2],.box [iI 0,.nils,iI 0]]) (v':=iI x4.1) (n0:=3) (n1:=1) [1] rfl rfl (Qaa p0 (.inl x4) hx4) (Qoa rfl ⟨Qva rfl,trivial⟩ Qfa) ⟨Qda rfl,trivial⟩ (Qea (Qba _ _)) ⟨.inr ⟨rfl,rfl⟩,.inl ⟨0,_,by decide,rfl,Qya ⟨Qea (Q1a _),trivial⟩⟩,.inr ⟨rfl,rfl⟩,trivial⟩ (qA1 3 (qpO rfl (Qza (aw2:=[.box [.ptr 1 0],.box [.str x5.2],.box [iI 0,.nils,iI 0]]) (v':=iI x5.1) (n0:=3) (n1:=1) [1] rfl rfl (Qaa x4.2 (.inl x5) hx5) (Qoa rfl ⟨Qva rfl,trivial⟩ Qfa) ⟨Qda rfl,trivial⟩ (Qea (Qba _ _)) ⟨.inr ⟨rfl,rfl⟩,.inl ⟨0,_,by decide,rfl,Qya ⟨Qea (Q1a _),trivial⟩⟩,.inr ⟨rfl,rfl⟩,trivial⟩ (qA1 6 ?_)))))))))))))
  exact qpP rfl (qc (aw2:=[.dead,.dead,.box [iI 0,.nils,iI 0]]) (n0:=3) (n1:=2) [1,0] rfl rfl (Q4a x5.2 (.inr ()) hx6) (Qoa rfl ⟨Qva rfl,trivial⟩ (Qoa rfl ⟨Qda rfl,trivial⟩ Qfa)) ⟨Qda rfl,Vka ⟨Qda rfl,trivial⟩,trivial⟩ ⟨.inl ⟨1,_,by decide,rfl,trivial⟩,.inl ⟨0,_,by decide,rfl,trivial⟩,.inr ⟨rfl,rfl⟩,trivial⟩ trivial)
 refine T.drawn mixed (k:=9) rfl ?_
 apply RA.jn 3 #[true,true,true,true,true,true,false,false,false];intro hS1
 apply RA.jn 4 #[true,true,true,false,true,true,false,false,false];intro hS2
 apply RA.jn 5 #[true,true,true,false,false,true,false,false,false];intro hS3
 apply RA.jn 5 #[true,false,true,false,true,true,false,false,false];intro hS4
 ·refine rq [5] 8 (rL [0,1,3,6,7,8] 0 rfl (ra3 1 2 4 ?_ ?_ ?_))
  ·refine oO rfl (Qza (aw2:=[.box [.ptr 1 0],.box [.str x4.2],.box [iI 0,.nils,iI 0]]) (v':=iI x4.1) (n0:=3) (n1:=1) [1] rfl rfl (Qaa p0 (.inl x4) hx4) (Qoa rfl ⟨Qva rfl,trivial⟩ Qfa) ⟨Qda rfl,trivial⟩ (Qea (Qba _ _)) ⟨.inr ⟨rfl,rfl⟩,.inl ⟨0,_,by decide,rfl,Qya ⟨Qea (Q1a _),trivial⟩⟩,.inr ⟨rfl,rfl⟩,trivial⟩ (rL [2,3,6,7,8] 2 rfl ?_))
   exact raE hS3
  ·refine og 3 ⟨rfl,(ra2 1 4 ?_ ?_)⟩
   ·refine oO rfl (Qza (aw2:=[.box [.ptr 1 0],.box [.str x4.2],.box [iI 0,.nils,iI 0]]) (v':=iI x4.1) (n0:=3) (n1:=1) [1] rfl rfl (Qaa p0 (.inl x4) hx4) (Qoa rfl ⟨Qva rfl,trivial⟩ Qfa) ⟨Qda rfl,trivial⟩ (Qea (Qba _ _)) ⟨.inr ⟨rfl,rfl⟩,.inl ⟨0,_,by decide,rfl,Qya ⟨Qea (Q1a _),trivial⟩⟩,.inr ⟨rfl,rfl⟩,trivial⟩ ?_)
    exact raT hS3
   ·refine og 3 ⟨rfl,?_⟩
    exact raE hS4
  ·refine og 3 ⟨rfl,(ra2 1 2 ?_ ?_)⟩
   ·refine oO rfl (Qza (aw2:=[.box [.ptr 1 0],.box [.str x4.2],.box [iI 0,.nils,iI 0]]) (v':=iI x4.1) (n0:=3) (n1:=1) [1] rfl rfl (Qaa p0 (.inl x4) hx4) (Qoa rfl ⟨Qva rfl,trivial⟩ Qfa) ⟨Qda rfl,trivial⟩ (Qea (Qba _ _)) ⟨.inr ⟨rfl,rfl⟩,.inl ⟨0,_,by decide,rfl,Qya ⟨Qea (Q1a _),trivial⟩⟩,.inr ⟨rfl,rfl⟩,trivial⟩ (ra1 2 (og 3 ⟨rfl,?_⟩)))
    exact raE hS2
   ·refine og 3 ⟨rfl,?_⟩
    exact raT hS4
 ·refine ra1 1 (oO rfl (Qza (aw2:=[.box [.ptr 1 0],.box [.str x4.2],.box [iI 0,.nils,iI 0]]) (v':=iI x4.1) (n0:=3) (n1:=1) [1] rfl rfl (Qaa p0 (.inl x4) hx4) (Qoa rfl ⟨Qva rfl,trivial⟩ Qfa) ⟨Qda rfl,trivial⟩ (Qea (Qba _ _)) ⟨.inr ⟨rfl,rfl⟩,.inl ⟨0,_,by decide,rfl,Qya ⟨Qea (Q1a _),trivial⟩⟩,.inr ⟨rfl,rfl⟩,trivial⟩ ?_))
  exact raT hS2
 ·refine ra2 3 4 ?_ ?_
  ·refine oO rfl (Qza (aw2:=[.box [.ptr 1 0],.box [.str x5.2],.box [iI 0,.nils,iI 0]]) (v':=iI x5.1) (n0:=3) (n1:=1) [1] rfl rfl (Qaa x4.2 (.inl x5) hx5) (Qoa rfl ⟨Qva rfl,trivial⟩ Qfa) ⟨Qda rfl,trivial⟩ (Qea (Qba _ _)) ⟨.inr ⟨rfl,rfl⟩,.inl ⟨0,_,by decide,rfl,Qya ⟨Qea (Q1a _),trivial⟩⟩,.inr ⟨rfl,rfl⟩,trivial⟩ (ra1 4 (og 3 ⟨rfl,?_⟩)))
   exact raE hS1
  ·refine og 3 ⟨rfl,?_⟩
   exact raT hS2
 ·refine ra1 3 (oO rfl (Qza (aw2:=[.box [.ptr 1 0],.box [.str x5.2],.box [iI 0,.nils,iI 0]]) (v':=iI x5.1) (n0:=3) (n1:=1) [1] rfl rfl (Qaa x4.2 (.inl x5) hx5) (Qoa rfl ⟨Qva rfl,trivial⟩ Qfa) ⟨Qda rfl,trivial⟩ (Qea (Qba _ _)) ⟨.inr ⟨rfl,rfl⟩,.inl ⟨0,_,by decide,rfl,Qya ⟨Qea (Q1a _),trivial⟩⟩,.inr ⟨rfl,rfl⟩,trivial⟩ ?_))
  exact raT hS1
 refine ra1 6 (oO rfl (Qza (aw2:=[.box [.ptr 1 0],.box [.str x6.2],.box [iI 0,.nils,iI 0],aR 92 2 Qwa x6.1]) (v':=.ref 3) (n0:=3) (n1:=3) [1,0] rfl rfl (Q4a x5.2 (.inl x6) hx6) (Qoa rfl ⟨Qva rfl,trivial⟩ (Qoa rfl ⟨Qda rfl,trivial⟩ Qfa)) ⟨Qda rfl,Vka ⟨Qda rfl,trivial⟩,trivial⟩ (Zla (by decide)) ⟨.inl ⟨1,_,by decide,rfl,Qya ⟨Jvd (by decide),trivial⟩⟩,.inl ⟨0,_,by decide,rfl,Qya ⟨Qea (Q1a _),trivial⟩⟩,.inr ⟨rfl,rfl⟩,.inl ⟨2,_,by decide,rfl,Jva Qqb⟩,trivial⟩ (rq [7] 1 (ra1 8 (og 4 ⟨rfl,(RA.done (by decide +kernel) ?_)⟩)))))
 cases h
 exact tN [0,1]
theorem Jfb (p0:List UInt8) (r:((List Memory) × (List UInt8)) ⊕ Unit) (h:Zoa p0=some r):FnP Tryz.prog (.iface 97 (.agg #[])) 46 [.ptr 0 0,.func 47 [.ptr 1 0]] [.box [.str p0],.box [.ptr 0 0]] (fun r:(List Memory) × (List UInt8)=>.ref 2) (fun r=>[.box [.str r.2],.box [.ptr 0 0],aR 90 3 Qla r.1]) r:=by
 unfold Zoa at h
 refine fnPT 2 Tryz.func46 Tryz.ntmps46 ?_
 refine T.seq (T.region (go 1 2 (RS.nil (T.seq (Jza h (fun hx2 h=>?_) (fun x2 hx2 h=>?_))))))
 ·cases h
  refine T.rP (V:=(.iface 97 (.agg #[]))) 1 rfl (go 1 2 ?_)
  exact RS.nil (qc (aw2:=[.dead,.box [.ptr 0 0]]) (n0:=2) (n1:=1) [0] rfl rfl (Qaa p0 (.inr ()) hx2) (Qoa rfl ⟨Qva rfl,trivial⟩ Qfa) ⟨Qda rfl,trivial⟩ ⟨.inl ⟨0,_,by decide,rfl,trivial⟩,.inr ⟨rfl,rfl⟩,trivial⟩ rfl)
 refine T.region (go 1 2 (sO (Qza (aw2:=[.box [.str x2.2],.box [.ptr 0 0]]) (v':=iI x2.1) (n0:=2) (n1:=1) [0] rfl rfl (Qaa p0 (.inl x2) hx2) (Qoa rfl ⟨Qva rfl,trivial⟩ Qfa) ⟨Qda rfl,trivial⟩ (Qea (Qba _ _)) ⟨.inl ⟨0,_,by decide,rfl,Qya ⟨Qea (Q1a _),trivial⟩⟩,.inr ⟨rfl,rfl⟩,trivial⟩ (go 1 2 (RS.nil (T.seq (T.join (Z:=Unit) (fun _=>mkA 32 [(1,.func 47 [.ptr 1 0]),(5,iI x2.1),(19,.bool ((decide (x2.1<0)) || decide (x2.1 > ((x2.2).length:Int))))]) (fun _=>[.box [.str x2.2],.box [.ptr 0 0]]) (fun _=>True) (fun _ _=>?_) (fun hK=>?_))))))))
 ·refine T.ci h rfl (fun hb_2 h=>?_) (fun hb_2 h=>?_)
  ·cases h
   refine T.rP (V:=(.iface 97 (.agg #[]))) 2 rfl (go 1 2 (sO (Yob Tryz.underlying97 rfl rfl ?_)))
   exact RS.nil (PP.panic rfl rfl)
  refine T.skip (T.seq (T.region (go 1 2 (RS.nil (T.seq (T.seq (T.region (go 2 2 (RS.nil ?_)))))))))
  refine T.block (T.iter (fun ss_5:Int × (List UInt8) × (List Memory)=>mkA 32 [(1,.func 47 [.ptr 1 0]),(6,.ref 2),(22,iI x2.1),(23,iI ss_5.1)]) (fun ss_5=>[.box [.str ss_5.2.1],.box [.ptr 0 0],aR 90 3 Qla ss_5.2.2]) h (wk [(6,90,3)] [0,1,2] 2 rfl) (fun ss_5 v_6 h hv_6=>?_))
  obtain ⟨s4,s5,s6⟩:=ss_5
  replace h:Jka x2 s4 s5 s6=some v_6:=h
  try dsimp only
  unfold Jka at h
  refine T.seq (T.region (go 1 3 (RS.nil (T.seq (T.ci h rfl (fun hb_7 h=>?_) (fun hb_7 h=>?_))))))
  ·refine T.skip (T.seq (T.block (Jza h (fun hx7 h=>?_) (fun x7 hx7 h=>?_))))
   ·obtain ⟨w_8,h,hw_8⟩:=Qpa h
    replace h:=h.trans (congrArg some (hv_6 _ hw_8))
    cases h
    refine T.rP (V:=(.iface 97 (.agg #[]))) 2 rfl (go 2 3 ?_)
    exact RS.nil (qc (aw2:=[.dead,.dead,aR 90 3 Qla s6]) (n0:=3) (n1:=2) [1,0] rfl rfl (Qzc s5 (.inr ()) hx7) (Qoa rfl ⟨Qda rfl,trivial⟩ (Qoa rfl ⟨Qva rfl,trivial⟩ Qfa)) ⟨Qda rfl,trivial⟩ ⟨.inl ⟨1,_,by decide,rfl,trivial⟩,.inl ⟨0,_,by decide,rfl,trivial⟩,.inr ⟨rfl,rfl⟩,trivial⟩ rfl)
   obtain ⟨x8,hx8,h⟩:=bind_some h
   refine T.region (go 2 3 (sO (Qza (aw2:=[.box [.str x7.2],.box [.ptr 0 0],aR 90 3 Qla s6]) (v':=.agg (Qla x7.1)) (n0:=3) (n1:=2) [1,0] rfl rfl (Qzc s5 (.inl x7) hx7) (Qoa rfl ⟨Qda rfl,trivial⟩ (Qoa rfl ⟨Qva rfl,trivial⟩ Qfa)) ⟨Qda rfl,trivial⟩ (Q0d ⟨Qea (Qba _ _),Qea (Q3a Qqb _),Qea (Qba _ _),trivial⟩) ⟨.inl ⟨1,_,by decide,rfl,Qya ⟨Qea (Q1a _),trivial⟩⟩,.inl ⟨0,_,by decide,rfl,Qya ⟨Jvd (by decide),trivial⟩⟩,.inr ⟨rfl,rfl⟩,trivial⟩ (sO (Q9a (rows:=List.map Qla [x7.1]) (vs:=[.agg (Qla x7.1)]) Ty.s50 Ty.z90 rfl rfl rfl rfl rfl rfl (sO (Voa (en:=Qla) (xs:=s6) (ys:=([x7.1]:List Memory)) Ty.s50 (fun _=>rfl) rfl rfl rfl hx8 rfl rfl (go 1 5 (RS.nil (T.region (go 2 5 (RS.nil ?_))))))))))))
   exact ⟨(IntKind.i64.wrap (s4+1),x7.2,x8),(Option.some.inj h).symm,wk [] [0,1,4] 5 rfl⟩
  refine T.exit ?_
  obtain ⟨w_9,h,hw_9⟩:=Qpa h
  replace h:=h.trans (congrArg some (hv_6 _ hw_9))
  refine T.seq (T.region (go 2 3 (RS.nil ?_)))
  cases h
  exact tO [] [0,1,2] 3
 refine T.region (go 3 2 ?_)
 rcases Qga (decide (x2.1<0)) with hb_1 | hb_1
 ·refine sN hb_1 (sN hb_1 (sN hb_1 (sN hb_1 (sN hb_1 (sN hb_1 (sN hb_1 (sQ (Qna (v:=.bool true) rfl hb_1 rfl (RS.nil ?_)))))))))
  exact T.sub (hK () trivial) ⟨rfl,rfl,(congrArg AV.bool (by simp only [hb_1,bz,if_true,if_false,Bool.false_eq_true])).symm,trivial⟩
 refine yg 2 hb_1 (yg 2 hb_1 (yg 2 hb_1 (yg 2 hb_1 (yg 2 hb_1 (yg 2 hb_1 (yg 2 hb_1 (sQ (Qha (v:=.bool (decide (x2.1 > ((x2.2).length:Int)))) rfl hb_1 rfl (RS.nil ?_)))))))))
 exact T.sub (hK () trivial) ⟨rfl,rfl,(congrArg AV.bool (by simp only [hb_1,bz,if_true,if_false,Bool.false_eq_true])).symm,trivial⟩
theorem Qgc (p0:List UInt8) (r:(Choice × (List UInt8)) ⊕ Unit) (h:Y4a p0=some r):FnP Tryz.prog (.iface 97 (.agg #[])) 51 [.ptr 0 0] [.box [.ptr 1 0],.box [.str p0]] (fun r:Choice × (List UInt8)=>.agg (Qta r.1)) (fun r=>[.box [.ptr 1 0],.box [.str r.2]]) r:=by
 unfold Y4a at h
 refine fnPT 2 Tryz.func51 Tryz.ntmps51 ?_
 refine T.seq (T.region (go 1 2 (RS.nil (T.seq (Jza h (fun hx3 h=>?_) (fun x3 hx3 h=>?_))))))
 ·cases h
  refine T.drawnP (V:=(.iface 97 (.agg #[]))) (fun _=>True) mixed (k:=6) rfl ?_ (fun _ _ _=>rfl)
  refine qA2 0 2 ?_ ?_
  ·refine qpO rfl (Qqa rfl rfl (Qra Ty.k99 (c:=.ptr 1 0) rfl (qA2 1 2 ?_ ?_)))
   ·exact qpP rfl (qc (aw2:=[.box [.ptr 1 0],.dead,.box [iI 0,iI 0]]) (n0:=3) (n1:=1) [1] rfl rfl (Qaa p0 (.inr ()) hx3) (Qoa rfl ⟨Qva rfl,trivial⟩ Qfa) ⟨Qda rfl,trivial⟩ ⟨.inr ⟨rfl,rfl⟩,.inl ⟨0,_,by decide,rfl,trivial⟩,.inr ⟨rfl,rfl⟩,trivial⟩ trivial)
   refine qpO rfl (Qqa rfl rfl (Qra Ty.k99 (c:=.ptr 1 0) rfl (qA1 1 ?_)))
   exact qpP rfl (qc (aw2:=[.box [.ptr 1 0],.dead,.box [iI 0,iI 0]]) (n0:=3) (n1:=1) [1] rfl rfl (Qaa p0 (.inr ()) hx3) (Qoa rfl ⟨Qva rfl,trivial⟩ Qfa) ⟨Qda rfl,trivial⟩ ⟨.inr ⟨rfl,rfl⟩,.inl ⟨0,_,by decide,rfl,trivial⟩,.inr ⟨rfl,rfl⟩,trivial⟩ trivial)
  refine qpO rfl (Qqa rfl rfl (Qra Ty.k99 (c:=.ptr 1 0) rfl (qA1 0 (qpO rfl (Qqa rfl rfl (Qra Ty.k99 (c:=.ptr 1 0) rfl (qA1 1 ?_)))))))
  exact qpP rfl (qc (aw2:=[.box [.ptr 1 0],.dead,.box [iI 0,iI 0]]) (n0:=3) (n1:=1) [1] rfl rfl (Qaa p0 (.inr ()) hx3) (Qoa rfl ⟨Qva rfl,trivial⟩ Qfa) ⟨Qda rfl,trivial⟩ ⟨.inr ⟨rfl,rfl⟩,.inl ⟨0,_,by decide,rfl,trivial⟩,.inr ⟨rfl,rfl⟩,trivial⟩ trivial)
 refine Jza h (fun hx4 h=>?_) (fun x4 hx4 h=>?_)
 ·cases h
  refine T.drawnP (V:=(.iface 97 (.agg #[]))) (fun _=>True) mixed (k:=6) rfl ?_ (fun _ _ _=>rfl)
  refine qA2 0 2 ?_ ?_
  ·refine qpO rfl (Qqa rfl rfl (Qra Ty.k99 (c:=.ptr 1 0) rfl (qA2 1 2 ?_ ?_)))
   ·refine qpO rfl (Qza (aw2:=[.box [.ptr 1 0],.box [.str x3.2],.box [iI 0,iI 0]]) (v':=iI x3.1) (n0:=3) (n1:=1) [1] rfl rfl (Qaa p0 (.inl x3) hx3) (Qoa rfl ⟨Qva rfl,trivial⟩ Qfa) ⟨Qda rfl,trivial⟩ (Qea (Qba _ _)) ⟨.inr ⟨rfl,rfl⟩,.inl ⟨0,_,by decide,rfl,Qya ⟨Qea (Q1a _),trivial⟩⟩,.inr ⟨rfl,rfl⟩,trivial⟩ (qA1 2 (qpO rfl (Qqa rfl rfl (Qra Ty.k99 (c:=.ptr 1 0) rfl (qA1 3 ?_))))))
    exact qpP rfl (qc (aw2:=[.box [.ptr 1 0],.dead,.box [iI 0,iI 0]]) (n0:=3) (n1:=1) [1] rfl rfl (Qaa x3.2 (.inr ()) hx4) (Qoa rfl ⟨Qva rfl,trivial⟩ Qfa) ⟨Qda rfl,trivial⟩ ⟨.inr ⟨rfl,rfl⟩,.inl ⟨0,_,by decide,rfl,trivial⟩,.inr ⟨rfl,rfl⟩,trivial⟩ trivial)
   refine qpO rfl (Qqa rfl rfl (Qra Ty.k99 (c:=.ptr 1 0) rfl (qA1 1 (qpO rfl (Qza (aw2:=[.box [.ptr 1 0],.box [.str x3.2],.box [iI 0,iI 0]]) (v':=iI x3.1) (n0:=3) (n1:=1) [1] rfl rfl (Qaa p0 (.inl x3) hx3) (Qoa rfl ⟨Qva rfl,trivial⟩ Qfa) ⟨Qda rfl,trivial⟩ (Qea (Qba _ _)) ⟨.inr ⟨rfl,rfl⟩,.inl ⟨0,_,by decide,rfl,Qya ⟨Qea (Q1a _),trivial⟩⟩,.inr ⟨rfl,rfl⟩,trivial⟩ (qA1 3 ?_))))))
   exact qpP rfl (qc (aw2:=[.box [.ptr 1 0],.dead,.box [iI 0,iI 0]]) (n0:=3) (n1:=1) [1] rfl rfl (Qaa x3.2 (.inr ()) hx4) (Qoa rfl ⟨Qva rfl,trivial⟩ Qfa) ⟨Qda rfl,trivial⟩ ⟨.inr ⟨rfl,rfl⟩,.inl ⟨0,_,by decide,rfl,trivial⟩,.inr ⟨rfl,rfl⟩,trivial⟩ trivial)
  refine qpO rfl (Qqa rfl rfl (Qra Ty.k99 (c:=.ptr 1 0) rfl (qA1 0 (qpO rfl (Qqa rfl rfl (Qra Ty.k99 (c:=.ptr 1 0) rfl (qA1 1 (qpO rfl (Qza (aw2:=[.box [.ptr 1 0],.box [.str x3.2],.box [iI 0,iI 0]]) (v':=iI x3.1) (n0:=3) (n1:=1) [1] rfl rfl (Qaa p0 (.inl x3) hx3) (Qoa rfl ⟨Qva rfl,trivial⟩ Qfa) ⟨Qda rfl,trivial⟩ (Qea (Qba _ _)) ⟨.inr ⟨rfl,rfl⟩,.inl ⟨0,_,by decide,rfl,Qya ⟨Qea (Q1a _),trivial⟩⟩,.inr ⟨rfl,rfl⟩,trivial⟩ (qA1 3 ?_))))))))))
  exact qpP rfl (qc (aw2:=[.box [.ptr 1 0],.dead,.box [iI 0,iI 0]]) (n0:=3) (n1:=1) [1] rfl rfl (Qaa x3.2 (.inr ()) hx4) (Qoa rfl ⟨Qva rfl,trivial⟩ Qfa) ⟨Qda rfl,trivial⟩ ⟨.inr ⟨rfl,rfl⟩,.inl ⟨0,_,by decide,rfl,trivial⟩,.inr ⟨rfl,rfl⟩,trivial⟩ trivial)
 refine T.drawn mixed (k:=6) rfl ?_
 apply RA.jn 3 #[true,true,true,false,false,false];intro hS1
 ·refine rL [0,1,3,4,5] 0 rfl (ra2 1 2 ?_ ?_)
  ·refine oO rfl (Qza (aw2:=[.box [.ptr 1 0],.box [.str x3.2],.box [iI 0,iI 0]]) (v':=iI x3.1) (n0:=3) (n1:=1) [1] rfl rfl (Qaa p0 (.inl x3) hx3) (Qoa rfl ⟨Qva rfl,trivial⟩ Qfa) ⟨Qda rfl,trivial⟩ (Qea (Qba _ _)) ⟨.inr ⟨rfl,rfl⟩,.inl ⟨0,_,by decide,rfl,Qya ⟨Qea (Q1a _),trivial⟩⟩,.inr ⟨rfl,rfl⟩,trivial⟩ (ra1 2 (og 3 ⟨rfl,?_⟩)))
   exact raE hS1
  ·refine og 3 ⟨rfl,(ra1 1 (oO rfl (Qza (aw2:=[.box [.ptr 1 0],.box [.str x3.2],.box [iI 0,iI 0]]) (v':=iI x3.1) (n0:=3) (n1:=1) [1] rfl rfl (Qaa p0 (.inl x3) hx3) (Qoa rfl ⟨Qva rfl,trivial⟩ Qfa) ⟨Qda rfl,trivial⟩ (Qea (Qba _ _)) ⟨.inr ⟨rfl,rfl⟩,.inl ⟨0,_,by decide,rfl,Qya ⟨Qea (Q1a _),trivial⟩⟩,.inr ⟨rfl,rfl⟩,trivial⟩ ?_)))⟩
   exact raT hS1
 refine ra1 3 (oO rfl (Qza (aw2:=[.box [.ptr 1 0],.box [.str x4.2],.box [iI 0,iI 0]]) (v':=iI x4.1) (n0:=3) (n1:=1) [1] rfl rfl (Qaa x3.2 (.inl x4) hx4) (Qoa rfl ⟨Qva rfl,trivial⟩ Qfa) ⟨Qda rfl,trivial⟩ (Qea (Qba _ _)) ⟨.inr ⟨rfl,rfl⟩,.inl ⟨0,_,by decide,rfl,Qya ⟨Qea (Q1a _),trivial⟩⟩,.inr ⟨rfl,rfl⟩,trivial⟩ (rq [4] 1 (ra1 5 (og 3 ⟨rfl,(RA.done (by decide +kernel) ?_)⟩)))))
 cases h
 exact tN [0,1]
theorem Jdb (p0:List UInt8) (r:((List Choice) × (List UInt8)) ⊕ Unit) (h:Zpa p0=some r):FnP Tryz.prog (.iface 97 (.agg #[])) 50 [.ptr 0 0,.func 51 [.ptr 1 0]] [.box [.str p0],.box [.ptr 0 0]] (fun r:(List Choice) × (List UInt8)=>.ref 2) (fun r=>[.box [.str r.2],.box [.ptr 0 0],aR 94 2 Qta r.1]) r:=by
 unfold Zpa at h
 refine fnPT 2 Tryz.func50 Tryz.ntmps50 ?_
 refine T.seq (T.region (go 1 2 (RS.nil (T.seq (Jza h (fun hx2 h=>?_) (fun x2 hx2 h=>?_))))))
 ·cases h
  refine T.rP (V:=(.iface 97 (.agg #[]))) 1 rfl (go 1 2 ?_)
  exact RS.nil (qc (aw2:=[.dead,.box [.ptr 0 0]]) (n0:=2) (n1:=1) [0] rfl rfl (Qaa p0 (.inr ()) hx2) (Qoa rfl ⟨Qva rfl,trivial⟩ Qfa) ⟨Qda rfl,trivial⟩ ⟨.inl ⟨0,_,by decide,rfl,trivial⟩,.inr ⟨rfl,rfl⟩,trivial⟩ rfl)
 refine T.region (go 1 2 (sO (Qza (aw2:=[.box [.str x2.2],.box [.ptr 0 0]]) (v':=iI x2.1) (n0:=2) (n1:=1) [0] rfl rfl (Qaa p0 (.inl x2) hx2) (Qoa rfl ⟨Qva rfl,trivial⟩ Qfa) ⟨Qda rfl,trivial⟩ (Qea (Qba _ _)) ⟨.inl ⟨0,_,by decide,rfl,Qya ⟨Qea (Q1a _),trivial⟩⟩,.inr ⟨rfl,rfl⟩,trivial⟩ (go 1 2 (RS.nil (T.seq (T.join (Z:=Unit) (fun _=>mkA 32 [(1,.func 51 [.ptr 1 0]),(5,iI x2.1),(19,.bool ((decide (x2.1<0)) || decide (x2.1 > ((x2.2).length:Int))))]) (fun _=>[.box [.str x2.2],.box [.ptr 0 0]]) (fun _=>True) (fun _ _=>?_) (fun hK=>?_))))))))
 ·refine T.ci h rfl (fun hb_2 h=>?_) (fun hb_2 h=>?_)
  ·cases h
   refine T.rP (V:=(.iface 97 (.agg #[]))) 2 rfl (go 1 2 (sO (Yob Tryz.underlying97 rfl rfl ?_)))
   exact RS.nil (PP.panic rfl rfl)
  refine T.skip (T.seq (T.region (go 1 2 (RS.nil (T.seq (T.seq (T.region (go 2 2 (RS.nil ?_)))))))))
  refine T.block (T.iter (fun ss_5:Int × (List UInt8) × (List Choice)=>mkA 32 [(1,.func 51 [.ptr 1 0]),(6,.ref 2),(22,iI x2.1),(23,iI ss_5.1)]) (fun ss_5=>[.box [.str ss_5.2.1],.box [.ptr 0 0],aR 94 2 Qta ss_5.2.2]) h (wk [(6,94,2)] [0,1,2] 2 rfl) (fun ss_5 v_6 h hv_6=>?_))
  obtain ⟨s4,s5,s6⟩:=ss_5
  replace h:Jla x2 s4 s5 s6=some v_6:=h
  try dsimp only
  unfold Jla at h
  refine T.seq (T.region (go 1 3 (RS.nil (T.seq (T.ci h rfl (fun hb_7 h=>?_) (fun hb_7 h=>?_))))))
  ·refine T.skip (T.seq (T.block (Jza h (fun hx7 h=>?_) (fun x7 hx7 h=>?_))))
   ·obtain ⟨w_8,h,hw_8⟩:=Qpa h
    replace h:=h.trans (congrArg some (hv_6 _ hw_8))
    cases h
    refine T.rP (V:=(.iface 97 (.agg #[]))) 2 rfl (go 2 3 ?_)
    exact RS.nil (qc (aw2:=[.dead,.dead,aR 94 2 Qta s6]) (n0:=3) (n1:=2) [1,0] rfl rfl (Qgc s5 (.inr ()) hx7) (Qoa rfl ⟨Qda rfl,trivial⟩ (Qoa rfl ⟨Qva rfl,trivial⟩ Qfa)) ⟨Qda rfl,trivial⟩ ⟨.inl ⟨1,_,by decide,rfl,trivial⟩,.inl ⟨0,_,by decide,rfl,trivial⟩,.inr ⟨rfl,rfl⟩,trivial⟩ rfl)
   obtain ⟨x8,hx8,h⟩:=bind_some h
   refine T.region (go 2 3 (sO (Qza (aw2:=[.box [.str x7.2],.box [.ptr 0 0],aR 94 2 Qta s6]) (v':=.agg (Qta x7.1)) (n0:=3) (n1:=2) [1,0] rfl rfl (Qgc s5 (.inl x7) hx7) (Qoa rfl ⟨Qda rfl,trivial⟩ (Qoa rfl ⟨Qva rfl,trivial⟩ Qfa)) ⟨Qda rfl,trivial⟩ (Q0d ⟨Qea (Qba _ _),Qea (Qba _ _),trivial⟩) ⟨.inl ⟨1,_,by decide,rfl,Qya ⟨Qea (Q1a _),trivial⟩⟩,.inl ⟨0,_,by decide,rfl,Qya ⟨Jvd (by decide),trivial⟩⟩,.inr ⟨rfl,rfl⟩,trivial⟩ (sO (Q9a (rows:=List.map Qta [x7.1]) (vs:=[.agg (Qta x7.1)]) Ty.s51 Ty.z94 rfl rfl rfl rfl rfl rfl (sO (Voa (en:=Qta) (xs:=s6) (ys:=([x7.1]:List Choice)) Ty.s51 (fun _=>rfl) rfl rfl rfl hx8 rfl rfl (go 1 5 (RS.nil (T.region (go 2 5 (RS.nil ?_))))))))))))
   exact ⟨(IntKind.i64.wrap (s4+1),x7.2,x8),(Option.some.inj h).symm,wk [] [0,1,4] 5 rfl⟩
  refine T.exit ?_
  obtain ⟨w_9,h,hw_9⟩:=Qpa h
  replace h:=h.trans (congrArg some (hv_6 _ hw_9))
  refine T.seq (T.region (go 2 3 (RS.nil ?_)))
  cases h
  exact tO [] [0,1,2] 3
 refine T.region (go 3 2 ?_)
 rcases Qga (decide (x2.1<0)) with hb_1 | hb_1
 ·refine sN hb_1 (sN hb_1 (sN hb_1 (sN hb_1 (sN hb_1 (sN hb_1 (sN hb_1 (sQ (Qna (v:=.bool true) rfl hb_1 rfl (RS.nil ?_)))))))))
  exact T.sub (hK () trivial) ⟨rfl,rfl,(congrArg AV.bool (by simp only [hb_1,bz,if_true,if_false,Bool.false_eq_true])).symm,trivial⟩
 refine yg 2 hb_1 (yg 2 hb_1 (yg 2 hb_1 (yg 2 hb_1 (yg 2 hb_1 (yg 2 hb_1 (yg 2 hb_1 (sQ (Qha (v:=.bool (decide (x2.1 > ((x2.2).length:Int)))) rfl hb_1 rfl (RS.nil ?_)))))))))
 exact T.sub (hK () trivial) ⟨rfl,rfl,(congrArg AV.bool (by simp only [hb_1,bz,if_true,if_false,Bool.false_eq_true])).symm,trivial⟩
theorem Y6c (p0:Net) (p1:List (List Item)) (p2:List UInt8) (r:State × Int) (h:V1b p0 p1 p2=some r):Fn Tryz.prog 17 [.agg (Qxa p0),sL (encL Qca) p1,.str p2] (.tup [.agg (Q2a r.1),iI r.2]):=by
 unfold V1b at h
 refine fnTDR (V:=(.iface 97 (.agg #[]))) 0 Tryz.func17 Tryz.ntmps17 ?_
 refine TDR.seq (T.region (go 3 0 (RS.nil (TDR.seq (T.seq ?_)))))
 obtain ⟨x2,hx2,h⟩:=bind_some h
 refine T.region (go 2 3 (sO (cF (Jac p0 p1 x2 hx2) ⟨rfl,(go 1 3 (RS.nil (T.seq (T.region (go 2 3 (RS.nil (T.ci h rfl (fun hb_1 h=>?_) (fun hb_1 h=>?_))))))))⟩)))
 ·refine T.seq (T.region (go 4 3 (RS.nil ?_)))
  cases h
  exact tD
 refine T.skip (TDR.defer 1 rfl (go 1 3 (RS.nil ⟨3,_,_,_,rfl,rfl,rfl,idleF,fun vs w=>callable Tryz.func41 rfl (by kernel_rfl) vs w,(T.seq (T.region (go 5 3 (RS.nil (T.seq (Jza h (fun hx4 h=>?_) (fun x4 hx4 h=>?_)))))))⟩)))
 ·cases h
  refine T.rP (V:=(.iface 97 (.agg #[]))) 3 rfl (go 2 5 (sQ (v_bnd (cs:=[.ptr 3 0]) rfl ?_)))
  exact RS.nil (qc (aw2:=[.box (Qxa p0),.box [.nils,.nils,.nils,.nils,.nils],.box [iI 0],.dead,.box [.ptr 3 0]]) (n0:=5) (n1:=1) [3] rfl rfl (Vzb p2 (.inr ()) hx4) (Qoa rfl ⟨Qva rfl,trivial⟩ Qfa) ⟨Qda rfl,Qbd ⟨Qda rfl,trivial⟩,trivial⟩ ⟨.inr ⟨rfl,rfl⟩,.inr ⟨rfl,rfl⟩,.inr ⟨rfl,rfl⟩,.inl ⟨0,_,by decide,rfl,trivial⟩,.inr ⟨rfl,rfl⟩,trivial⟩ ⟨rfl,[.box (Qxa p0),.box [.nils,.nils,.nils,.nils,.nils],.box [iI 12],.dead,.box [.ptr 3 0]],Caught.of (as0:=[.ptr 0 0,.ptr 1 0]) (aw0:=[.box [.any,.any,.any,.any,.any],.box [.any]]) (aw1:=[.box [.nils,.nils,.nils,.nils,.nils],.box [iI 12]]) (n0:=5) (n1:=2) [1,2] rfl rfl (by decide) (Qoa (cs:=[.any,.any,.any,.any,.any]) (ds:=[.nils,.nils,.nils,.nils,.nils]) rfl ⟨Yua,Yua,Yua,Yua,Yua,trivial⟩ (Qoa (cs:=[.any]) (ds:=[iI 0]) rfl ⟨Yua,trivial⟩ (Qfa))) ⟨Qda rfl,Qda rfl,trivial⟩ catX rfl ⟨.inr ⟨rfl,rfl⟩,.inl ⟨0,_,by decide,rfl,Qya (cs:=[.nils,.nils,.nils,.nils,.nils]) (ds:=[.nils,.nils,.nils,.nils,.nils]) ⟨Qea (Jya),Qea (Jya),Qea (Jya),Qea (Jya),Qea (Jya),trivial⟩⟩,.inl ⟨1,_,by decide,rfl,Qya (cs:=[iI 12]) (ds:=[iI 12]) ⟨Qea (Qba _ _),trivial⟩⟩,.inr ⟨rfl,rfl⟩,.inr ⟨rfl,rfl⟩,trivial⟩,vD⟩)
 refine T.region (go 2 5 (sQ (v_bnd (cs:=[.ptr 3 0]) rfl (sO (Qza (aw2:=[.box (Qxa p0),.box [.nils,.nils,.nils,.nils,.nils],.box [iI 0],.box [.str x4.2],.box [.ptr 3 0],aR 3 1 encI x4.1]) (v':=.ref 5) (n0:=5) (n1:=2) [3] rfl rfl (Vzb p2 (.inl x4) hx4) (Qoa rfl ⟨Qva rfl,trivial⟩ Qfa) ⟨Qda rfl,Qbd ⟨Qda rfl,trivial⟩,trivial⟩ (Zla (by decide)) ⟨.inr ⟨rfl,rfl⟩,.inr ⟨rfl,rfl⟩,.inr ⟨rfl,rfl⟩,.inl ⟨0,_,by decide,rfl,Qya ⟨Qea (Q1a _),trivial⟩⟩,.inr ⟨rfl,rfl⟩,.inl ⟨1,_,by decide,rfl,Jva J7b⟩,trivial⟩ (go 2 6 (RS.nil (T.seq (Jza h (fun hx6 h=>?_) (fun x6 hx6 h=>?_))))))))))
 ·cases h
  refine T.rP (V:=(.iface 97 (.agg #[]))) 3 rfl (go 2 6 (sQ (v_bnd (cs:=[.ptr 3 0]) rfl ?_)))
  exact RS.nil (qc (aw2:=[.box (Qxa p0),.box [.ref 5,.nils,.nils,.nils,.nils],.box [iI 0],.dead,.box [.ptr 3 0],aR 3 1 encI x4.1]) (n0:=6) (n1:=1) [3] rfl rfl (Veb x4.2 (.inr ()) hx6) (Qoa rfl ⟨Qva rfl,trivial⟩ Qfa) ⟨Qda rfl,Qbd ⟨Qda rfl,trivial⟩,trivial⟩ ⟨.inr ⟨rfl,rfl⟩,.inr ⟨rfl,rfl⟩,.inr ⟨rfl,rfl⟩,.inl ⟨0,_,by decide,rfl,trivial⟩,.inr ⟨rfl,rfl⟩,.inr ⟨rfl,rfl⟩,trivial⟩ ⟨rfl,[.box (Qxa p0),.box [.nils,.nils,.nils,.nils,.nils],.box [iI 12],.dead,.box [.ptr 3 0],aR 3 1 encI x4.1],Caught.of (as0:=[.ptr 0 0,.ptr 1 0]) (aw0:=[.box [.any,.any,.any,.any,.any],.box [.any]]) (aw1:=[.box [.nils,.nils,.nils,.nils,.nils],.box [iI 12]]) (n0:=6) (n1:=2) [1,2] rfl rfl (by decide) (Qoa (cs:=[.any,.any,.any,.any,.any]) (ds:=[.ref 5,.nils,.nils,.nils,.nils]) rfl ⟨Yua,Yua,Yua,Yua,Yua,trivial⟩ (Qoa (cs:=[.any]) (ds:=[iI 0]) rfl ⟨Yua,trivial⟩ (Qfa))) ⟨Qda rfl,Qda rfl,trivial⟩ catX rfl ⟨.inr ⟨rfl,rfl⟩,.inl ⟨0,_,by decide,rfl,Qya (cs:=[.nils,.nils,.nils,.nils,.nils]) (ds:=[.nils,.nils,.nils,.nils,.nils]) ⟨Qea (Jya),Qea (Jya),Qea (Jya),Qea (Jya),Qea (Jya),trivial⟩⟩,.inl ⟨1,_,by decide,rfl,Qya (cs:=[iI 12]) (ds:=[iI 12]) ⟨Qea (Qba _ _),trivial⟩⟩,.inr ⟨rfl,rfl⟩,.inr ⟨rfl,rfl⟩,.inr ⟨rfl,rfl⟩,trivial⟩,vD⟩)
 refine T.region (go 2 6 (sQ (v_bnd (cs:=[.ptr 3 0]) rfl (sO (Qza (aw2:=[.box (Qxa p0),.box [.ref 5,.nils,.nils,.nils,.nils],.box [iI 0],.box [.str x6.2],.box [.ptr 3 0],aR 3 1 encI x4.1,aR 52 1 (encL Qca) x6.1]) (v':=.ref 6) (n0:=6) (n1:=2) [3] rfl rfl (Veb x4.2 (.inl x6) hx6) (Qoa rfl ⟨Qva rfl,trivial⟩ Qfa) ⟨Qda rfl,Qbd ⟨Qda rfl,trivial⟩,trivial⟩ (Zla (by decide)) ⟨.inr ⟨rfl,rfl⟩,.inr ⟨rfl,rfl⟩,.inr ⟨rfl,rfl⟩,.inl ⟨0,_,by decide,rfl,Qya ⟨Qea (Q1a _),trivial⟩⟩,.inr ⟨rfl,rfl⟩,.inr ⟨rfl,rfl⟩,.inl ⟨1,_,by decide,rfl,Jva (Zyb Jia)⟩,trivial⟩ (go 2 7 (RS.nil (T.seq (Jza h (fun hx8 h=>?_) (fun x8 hx8 h=>?_))))))))))
 ·cases h
  refine T.rP (V:=(.iface 97 (.agg #[]))) 2 rfl (go 2 7 ?_)
  exact RS.nil (qc (aw2:=[.box (Qxa p0),.box [.ref 5,.ref 6,.nils,.nils,.nils],.box [iI 0],.dead,.dead,aR 3 1 encI x4.1,aR 52 1 (encL Qca) x6.1]) (n0:=7) (n1:=2) [3,4] rfl rfl (Jfb x6.2 (.inr ()) hx8) (Qoa rfl ⟨Qva rfl,trivial⟩ (Qoa rfl ⟨Qda rfl,trivial⟩ Qfa)) ⟨Qda rfl,Vka ⟨Qda rfl,trivial⟩,trivial⟩ ⟨.inr ⟨rfl,rfl⟩,.inr ⟨rfl,rfl⟩,.inr ⟨rfl,rfl⟩,.inl ⟨0,_,by decide,rfl,trivial⟩,.inl ⟨1,_,by decide,rfl,trivial⟩,.inr ⟨rfl,rfl⟩,.inr ⟨rfl,rfl⟩,trivial⟩ ⟨rfl,[.box (Qxa p0),.box [.nils,.nils,.nils,.nils,.nils],.box [iI 12],.dead,.dead,aR 3 1 encI x4.1,aR 52 1 (encL Qca) x6.1],Caught.of (as0:=[.ptr 0 0,.ptr 1 0]) (aw0:=[.box [.any,.any,.any,.any,.any],.box [.any]]) (aw1:=[.box [.nils,.nils,.nils,.nils,.nils],.box [iI 12]]) (n0:=7) (n1:=2) [1,2] rfl rfl (by decide) (Qoa (cs:=[.any,.any,.any,.any,.any]) (ds:=[.ref 5,.ref 6,.nils,.nils,.nils]) rfl ⟨Yua,Yua,Yua,Yua,Yua,trivial⟩ (Qoa (cs:=[.any]) (ds:=[iI 0]) rfl ⟨Yua,trivial⟩ (Qfa))) ⟨Qda rfl,Qda rfl,trivial⟩ catX rfl ⟨.inr ⟨rfl,rfl⟩,.inl ⟨0,_,by decide,rfl,Qya (cs:=[.nils,.nils,.nils,.nils,.nils]) (ds:=[.nils,.nils,.nils,.nils,.nils]) ⟨Qea (Jya),Qea (Jya),Qea (Jya),Qea (Jya),Qea (Jya),trivial⟩⟩,.inl ⟨1,_,by decide,rfl,Qya (cs:=[iI 12]) (ds:=[iI 12]) ⟨Qea (Qba _ _),trivial⟩⟩,.inr ⟨rfl,rfl⟩,.inr ⟨rfl,rfl⟩,.inr ⟨rfl,rfl⟩,.inr ⟨rfl,rfl⟩,trivial⟩,vD⟩)
 refine T.region (go 2 7 (sO (Qza (aw2:=[.box (Qxa p0),.box [.ref 5,.ref 6,.nils,.nils,.nils],.box [iI 0],.box [.str x8.2],.box [.ptr 3 0],aR 3 1 encI x4.1,aR 52 1 (encL Qca) x6.1,aR 90 3 Qla x8.1]) (v':=.ref 7) (n0:=7) (n1:=3) [3,4] rfl rfl (Jfb x6.2 (.inl x8) hx8) (Qoa rfl ⟨Qva rfl,trivial⟩ (Qoa rfl ⟨Qda rfl,trivial⟩ Qfa)) ⟨Qda rfl,Vka ⟨Qda rfl,trivial⟩,trivial⟩ (Zla (by decide)) ⟨.inr ⟨rfl,rfl⟩,.inr ⟨rfl,rfl⟩,.inr ⟨rfl,rfl⟩,.inl ⟨0,_,by decide,rfl,Qya ⟨Qea (Q1a _),trivial⟩⟩,.inl ⟨1,_,by decide,rfl,Qya ⟨Jvd (by decide),trivial⟩⟩,.inr ⟨rfl,rfl⟩,.inr ⟨rfl,rfl⟩,.inl ⟨2,_,by decide,rfl,Jva Zga⟩,trivial⟩ (go 2 8 (RS.nil (T.seq (Jza h (fun hx10 h=>?_) (fun x10 hx10 h=>?_))))))))
 ·cases h
  refine T.rP (V:=(.iface 97 (.agg #[]))) 2 rfl (go 2 8 ?_)
  exact RS.nil (qc (aw2:=[.box (Qxa p0),.box [.ref 5,.ref 6,.ref 7,.nils,.nils],.box [iI 0],.dead,.dead,aR 3 1 encI x4.1,aR 52 1 (encL Qca) x6.1,aR 90 3 Qla x8.1]) (n0:=8) (n1:=2) [3,4] rfl rfl (Jdb x8.2 (.inr ()) hx10) (Qoa rfl ⟨Qva rfl,trivial⟩ (Qoa rfl ⟨Qda rfl,trivial⟩ Qfa)) ⟨Qda rfl,Vka ⟨Qda rfl,trivial⟩,trivial⟩ ⟨.inr ⟨rfl,rfl⟩,.inr ⟨rfl,rfl⟩,.inr ⟨rfl,rfl⟩,.inl ⟨0,_,by decide,rfl,trivial⟩,.inl ⟨1,_,by decide,rfl,trivial⟩,.inr ⟨rfl,rfl⟩,.inr ⟨rfl,rfl⟩,.inr ⟨rfl,rfl⟩,trivial⟩ ⟨rfl,[.box (Qxa p0),.box [.nils,.nils,.nils,.nils,.nils],.box [iI 12],.dead,.dead,aR 3 1 encI x4.1,aR 52 1 (encL Qca) x6.1,aR 90 3 Qla x8.1],Caught.of (as0:=[.ptr 0 0,.ptr 1 0]) (aw0:=[.box [.any,.any,.any,.any,.any],.box [.any]]) (aw1:=[.box [.nils,.nils,.nils,.nils,.nils],.box [iI 12]]) (n0:=8) (n1:=2) [1,2] rfl rfl (by decide) (Qoa (cs:=[.any,.any,.any,.any,.any]) (ds:=[.ref 5,.ref 6,.ref 7,.nils,.nils]) rfl ⟨Yua,Yua,Yua,Yua,Yua,trivial⟩ (Qoa (cs:=[.any]) (ds:=[iI 0]) rfl ⟨Yua,trivial⟩ (Qfa))) ⟨Qda rfl,Qda rfl,trivial⟩ catX rfl ⟨.inr ⟨rfl,rfl⟩,.inl ⟨0,_,by decide,rfl,Qya (cs:=[.nils,.nils,.nils,.nils,.nils]) (ds:=[.nils,.nils,.nils,.nils,.nils]) ⟨Qea (Jya),Qea (Jya),Qea (Jya),Qea (Jya),Qea (Jya),trivial⟩⟩,.inl ⟨1,_,by decide,rfl,Qya (cs:=[iI 12]) (ds:=[iI 12]) ⟨Qea (Qba _ _),trivial⟩⟩,.inr ⟨rfl,rfl⟩,.inr ⟨rfl,rfl⟩,.inr ⟨rfl,rfl⟩,.inr ⟨rfl,rfl⟩,.inr ⟨rfl,rfl⟩,trivial⟩,vD⟩)
 refine T.region (go 2 8 (sO (Qza (aw2:=[.box (Qxa p0),.box [.ref 5,.ref 6,.ref 7,.nils,.nils],.box [iI 0],.box [.str x10.2],.box [.ptr 3 0],aR 3 1 encI x4.1,aR 52 1 (encL Qca) x6.1,aR 90 3 Qla x8.1,aR 94 2 Qta x10.1]) (v':=.ref 8) (n0:=8) (n1:=3) [3,4] rfl rfl (Jdb x8.2 (.inl x10) hx10) (Qoa rfl ⟨Qva rfl,trivial⟩ (Qoa rfl ⟨Qda rfl,trivial⟩ Qfa)) ⟨Qda rfl,Vka ⟨Qda rfl,trivial⟩,trivial⟩ (Zla (by decide)) ⟨.inr ⟨rfl,rfl⟩,.inr ⟨rfl,rfl⟩,.inr ⟨rfl,rfl⟩,.inl ⟨0,_,by decide,rfl,Qya ⟨Qea (Q1a _),trivial⟩⟩,.inl ⟨1,_,by decide,rfl,Qya ⟨Jvd (by decide),trivial⟩⟩,.inr ⟨rfl,rfl⟩,.inr ⟨rfl,rfl⟩,.inr ⟨rfl,rfl⟩,.inl ⟨2,_,by decide,rfl,Jva Zha⟩,trivial⟩ (go 2 9 (RS.nil (T.seq (Jza h (fun hx12 h=>?_) (fun x12 hx12 h=>?_))))))))
 ·cases h
  refine T.rP (V:=(.iface 97 (.agg #[]))) 1 rfl (go 1 9 ?_)
  exact RS.nil (qc (aw2:=[.box (Qxa p0),.box [.ref 5,.ref 6,.ref 7,.ref 8,.nils],.box [iI 0],.dead,.box [.ptr 3 0],aR 3 1 encI x4.1,aR 52 1 (encL Qca) x6.1,aR 90 3 Qla x8.1,aR 94 2 Qta x10.1]) (n0:=9) (n1:=1) [3] rfl rfl (Yga x10.2 (.inr ()) hx12) (Qoa rfl ⟨Qva rfl,trivial⟩ Qfa) ⟨Qda rfl,trivial⟩ ⟨.inr ⟨rfl,rfl⟩,.inr ⟨rfl,rfl⟩,.inr ⟨rfl,rfl⟩,.inl ⟨0,_,by decide,rfl,trivial⟩,.inr ⟨rfl,rfl⟩,.inr ⟨rfl,rfl⟩,.inr ⟨rfl,rfl⟩,.inr ⟨rfl,rfl⟩,.inr ⟨rfl,rfl⟩,trivial⟩ ⟨rfl,[.box (Qxa p0),.box [.nils,.nils,.nils,.nils,.nils],.box [iI 12],.dead,.box [.ptr 3 0],aR 3 1 encI x4.1,aR 52 1 (encL Qca) x6.1,aR 90 3 Qla x8.1,aR 94 2 Qta x10.1],Caught.of (as0:=[.ptr 0 0,.ptr 1 0]) (aw0:=[.box [.any,.any,.any,.any,.any],.box [.any]]) (aw1:=[.box [.nils,.nils,.nils,.nils,.nils],.box [iI 12]]) (n0:=9) (n1:=2) [1,2] rfl rfl (by decide) (Qoa (cs:=[.any,.any,.any,.any,.any]) (ds:=[.ref 5,.ref 6,.ref 7,.ref 8,.nils]) rfl ⟨Yua,Yua,Yua,Yua,Yua,trivial⟩ (Qoa (cs:=[.any]) (ds:=[iI 0]) rfl ⟨Yua,trivial⟩ (Qfa))) ⟨Qda rfl,Qda rfl,trivial⟩ catX rfl ⟨.inr ⟨rfl,rfl⟩,.inl ⟨0,_,by decide,rfl,Qya (cs:=[.nils,.nils,.nils,.nils,.nils]) (ds:=[.nils,.nils,.nils,.nils,.nils]) ⟨Qea (Jya),Qea (Jya),Qea (Jya),Qea (Jya),Qea (Jya),trivial⟩⟩,.inl ⟨1,_,by decide,rfl,Qya (cs:=[iI 12]) (ds:=[iI 12]) ⟨Qea (Qba _ _),trivial⟩⟩,.inr ⟨rfl,rfl⟩,.inr ⟨rfl,rfl⟩,.inr ⟨rfl,rfl⟩,.inr ⟨rfl,rfl⟩,.inr ⟨rfl,rfl⟩,.inr ⟨rfl,rfl⟩,trivial⟩,vD⟩)
 refine T.region (go 1 9 (sO (Qza (aw2:=[.box (Qxa p0),.box [.ref 5,.ref 6,.ref 7,.ref 8,.nils],.box [iI 0],.box [.str x12.2],.box [.ptr 3 0],aR 3 1 encI x4.1,aR 52 1 (encL Qca) x6.1,aR 90 3 Qla x8.1,aR 94 2 Qta x10.1,aR 115 3 Qca x12.1]) (v':=.ref 9) (n0:=9) (n1:=2) [3] rfl rfl (Yga x10.2 (.inl x12) hx12) (Qoa rfl ⟨Qva rfl,trivial⟩ Qfa) ⟨Qda rfl,trivial⟩ (Zla (by decide)) ⟨.inr ⟨rfl,rfl⟩,.inr ⟨rfl,rfl⟩,.inr ⟨rfl,rfl⟩,.inl ⟨0,_,by decide,rfl,Qya ⟨Qea (Q1a _),trivial⟩⟩,.inr ⟨rfl,rfl⟩,.inr ⟨rfl,rfl⟩,.inr ⟨rfl,rfl⟩,.inr ⟨rfl,rfl⟩,.inr ⟨rfl,rfl⟩,.inl ⟨1,_,by decide,rfl,Jva Jia⟩,trivial⟩ (go 2 10 (RS.nil (T.seq (T.seq ?_)))))))
 obtain ⟨x14,hx14,h⟩:=bind_some h
 refine T.region (go 3 10 (sO (cF (Y1b p0 p1 (⟨x4.1,x6.1,x8.1,x10.1,x12.1⟩:State) x14 hx14) ⟨rfl,(go 5 10 (RS.nil (T.join (Z:=Unit) (fun _=>mkA 60 [(6,.ptr 1 0),(7,.ptr 2 0),(57,.bool ((x14.2 != 0) || !(x14.1==p2)))]) (fun _=>[.box (Qxa p0),.box [.ref 3,.ref 4,.ref 5,.ref 6,.ref 7],.box [iI 0],aR 3 1 encI x4.1,aR 52 1 (encL Qca) x6.1,aR 90 3 Qla x8.1,aR 94 2 Qta x10.1,aR 115 3 Qca x12.1]) (fun _=>True) (fun _ _=>?_) (fun hK=>?_))))⟩)))
 ·refine T.ci h rfl (fun hb_3 h=>?_) (fun hb_3 h=>?_)
  ·refine T.seq (T.region (go 3 8 (RS.nil ?_)))
   cases h
   exact tD
  refine T.skip (T.seq (T.region (go 3 8 (RS.nil ?_))))
  cases h
  exact tD
 refine T.region (go 3 10 ?_)
 rcases Qga (x14.2 != 0) with hb_2 | hb_2
 ·refine sN hb_2 (sN hb_2 (sN hb_2 (sQ (Qna (v:=.bool true) rfl hb_2 rfl (RS.nil ?_)))))
  exact T.weakR (hK () trivial) (Weak.mkN [] [0,1,2,5,6,7,8,9] (by decide) (by decide) rfl ⟨Qda rfl,Qda rfl,Jca (by simp only [hb_2,bz,if_true,if_false,Bool.false_eq_true]),trivial⟩ (rw_bs (Qxa p0) rfl (Qoa (cs:=[.ref 3,.ref 4,.ref 5,.ref 6,.ref 7]) (ds:=[.ref 5,.ref 6,.ref 7,.ref 8,.ref 9]) rfl ⟨Jha rfl,Jha rfl,Jha rfl,Jha rfl,Jha rfl,trivial⟩ (rw_bs [iI 0] rfl (rw_ar rfl rfl (rw_ar rfl rfl (rw_ar rfl rfl (rw_ar rfl rfl (rw_ar rfl rfl (Qfa))))))))))
 refine yg 10 hb_2 (yg 10 hb_2 (yg 10 hb_2 (sQ (Qha (v:=.bool (!(x14.1==p2))) rfl hb_2 rfl (RS.nil ?_)))))
 exact T.weakR (hK () trivial) (Weak.mkN [] [0,1,2,5,6,7,8,9] (by decide) (by decide) rfl ⟨Qda rfl,Qda rfl,Jca (by simp only [hb_2,bz,if_true,if_false,Bool.false_eq_true]),trivial⟩ (rw_bs (Qxa p0) rfl (Qoa (cs:=[.ref 3,.ref 4,.ref 5,.ref 6,.ref 7]) (ds:=[.ref 5,.ref 6,.ref 7,.ref 8,.ref 9]) rfl ⟨Jha rfl,Jha rfl,Jha rfl,Jha rfl,Jha rfl,trivial⟩ (rw_bs [iI 0] rfl (rw_ar rfl rfl (rw_ar rfl rfl (rw_ar rfl rfl (rw_ar rfl rfl (rw_ar rfl rfl (Qfa))))))))))
theorem Yic (p0:List Write) (p1:List (List UInt8)) (r:List (List UInt8)) (h:Zdb p0 p1=some r):FnX Tryz.prog 91 [.ref 0,sL J8a p0] [aR 9 1 encS p1] (.ref 1) [.dead,aR 9 1 encS r]:=by
 unfold Zdb at h
 refine fnT 1 Tryz.func91 Tryz.ntmps91 ?_
 refine T.mvS 0 0 rfl rfl rfl rfl (T.seq (T.region (go 1 2 (RS.nil (T.seq (T.seq (T.region (go 1 2 (sQ (Qia Ty.s23 rfl ?_))))))))))
 refine go 1 2 (RS.nil (T.block (T.iter (fun ss_15:Int × (List (List UInt8))=>mkA 29 [(0,.ref 1),(7,sL J8a p0),(8,iI ((p0).length:Int)),(9,iI ss_15.1)]) (fun ss_15=>[.dead,aR 9 1 encS ss_15.2]) h (wk [] [0,1] 2 rfl) (fun ss_15 v_16 h hv_16=>?_))))
 obtain ⟨s1,s2⟩:=ss_15
 replace h:Vna p0 s1 s2=some v_16:=h
 try dsimp only
 unfold Vna at h
 refine T.seq (T.region (go 1 2 (RS.nil (T.seq (T.ci h rfl (fun hb_17 h=>?_) (fun hb_17 h=>?_))))))
 ·refine T.skip (T.seq (T.block (T.seq ?_)))
  obtain ⟨x4,hx4,h⟩:=bind_some h
  refine T.region (sQ (Qka Ty.s23 (fun _=>rfl) rfl rfl hx4 (go 3 2 (RS.nil (T.seq (T.block (T.iter (fun ss_20:List (List UInt8)=>mkA 29 [(0,.ref 1),(6,.ptr 2 0),(7,sL J8a p0),(8,iI ((p0).length:Int)),(9,iI s1)]) (fun ss_20=>[.dead,aR 9 1 encS ss_20,.box (J8a x4)]) h (wk [] [0,1,2] 3 rfl) (fun ss_20 v_21 h hv_21=>?_))))))))
  revert hv_21 h;revert ss_20;intro s5 h hv_21
  replace h:J2b s1 x4 s5=some v_21:=h
  try dsimp only
  unfold J2b at h
  refine T.seq (T.seq (T.region (go 1 3 (sQ (Q0b (en:=encS) Ty.s22 rfl rfl (go 3 3 (RS.nil (T.ci h rfl (fun hb_22 h=>?_) (fun hb_22 h=>?_)))))))))
  ·refine T.skip (T.block ?_)
   obtain ⟨x6,hx6,h⟩:=bind_some h
   refine T.region (go 1 3 (sO (Q9a (rows:=List.map encS [[]]) (vs:=[.str []]) Ty.s22 Ty.z9 rfl rfl rfl rfl rfl rfl (sO (Voa (en:=encS) (xs:=s5) (ys:=([[]]:List (List UInt8))) Ty.s22 (fun _=>rfl) rfl rfl rfl hx6 rfl rfl (go 1 5 (RS.nil ?_)))))))
   exact ⟨x6,(Option.some.inj h).symm,wk [] [0,4,2] 5 rfl⟩
  refine T.exit ?_
  obtain ⟨w_23,h,hw_23⟩:=Qpa h
  replace h:=h.trans (congrArg some (hv_21 _ hw_23))
  obtain ⟨x7,hx7,h⟩:=bind_some h
  obtain ⟨x8,hx8,h⟩:=bind_some h
  refine T.region (go 5 3 (sQ (Q6a (en:=encS) Ty.s22 rfl rfl rfl hx7 (sO (Yda (en:=encS) (a:=x8) (a':=x4.Bytes) Ty.c9 Ty.i9 rfl (vs:=[.str x4.Bytes]) rfl rfl rfl hx8 rfl rfl rfl (RS.nil (T.region (go 2 3 (RS.nil ?_)))))))))
  exact ⟨(IntKind.i64.wrap (s1+1),(List.set s5 x7 x4.Bytes)),(Option.some.inj h).symm,wk [] [0,1] 3 rfl⟩
 refine T.exit ?_
 obtain ⟨w_24,h,hw_24⟩:=Qpa h
 replace h:=h.trans (congrArg some (hv_16 _ hw_24))
 refine T.seq (T.region (go 2 2 (RS.nil ?_)))
 cases h
 exact tO [] [0,1] 2
theorem Vge (p0:Disk) (p1:Int) (r:Disk × Int) (h:Vtc p0 p1=some r):Fn Tryz.prog 68 [.agg (Vaa p0),iI p1] (.tup [.agg (Vaa r.1),iI r.2]):=by
 unfold Vtc at h
 refine fnT 0 Tryz.func68 Tryz.ntmps68 ?_
 refine T.seq (T.region (go 3 0 (RS.nil (T.seq (T.seq ?_)))))
 obtain ⟨x2,hx2,h⟩:=bind_some h
 refine T.region (go 1 2 (sO (cF (Yyb p0 x2 hx2) ⟨rfl,(go 1 2 (RS.nil (T.seq (T.region (go 2 2 (RS.nil (T.ci h rfl (fun hb_1 h=>?_) (fun hb_1 h=>?_))))))))⟩)))
 ·refine T.seq (T.region (go 4 2 (RS.nil ?_)))
  cases h
  exact tD
 refine T.skip (T.seq (T.join (Z:=Unit) (fun _=>mkA 32 [(1,iI p1),(2,.ptr 0 0),(4,.ptr 1 0),(21,.bool ((decide (p1<0)) || decide (p1 > ((p0.Wait).length:Int))))]) (fun _=>[.box (Vaa p0),.box [.nils,.nils]]) (fun _=>True) (fun _ _=>?_) (fun hK=>?_)))
 ·refine T.ci h rfl (fun hb_3 h=>?_) (fun hb_3 h=>?_)
  ·refine T.seq (T.region (go 3 2 (RS.nil ?_)))
   cases h
   exact tD
  refine T.skip (T.seq ?_)
  obtain ⟨x7,hx7,h⟩:=bind_some h
  obtain ⟨x8,hx8,h⟩:=bind_some h
  obtain ⟨x9,hx9,h⟩:=bind_some h
  refine T.drawn mixed (k:=11) rfl ?_
  apply RA.jn 4 #[true,true,true,true,true,true,true,false,false,false,false];intro hS4
  apply RA.jn 5 #[true,true,false,true,true,true,true,false,false,false,false];intro hS5
  ·refine rq [0,3,5] 8 (ra2 1 4 ?_ ?_)
   ·refine og 2 ⟨rfl,(ra2 2 4 ?_ ?_)⟩
    ·refine oO rfl (cO 2 (Vla p0.Sectors x7 hx7) ⟨rfl,(ra1 4 (og 3 ⟨rfl,(r0 6 rfl (Qoc Ty.s23 (fun _=>rfl) rfl rfl rfl hx8 ?_))⟩))⟩)
     exact raE hS4
    ·refine og 2 ⟨rfl,(r0 6 rfl (Qoc Ty.s23 (fun _=>rfl) rfl rfl rfl hx8 ?_))⟩
     exact raE hS5
   ·refine og 2 ⟨rfl,(r0 6 rfl (Qoc Ty.s23 (fun _=>rfl) rfl rfl rfl hx8 (ra1 1 (og 2 ⟨rfl,?_⟩))))⟩
    exact raT hS5
  ·refine ra1 2 (oO rfl (cO 2 (Vla p0.Sectors x7 hx7) ⟨rfl,?_⟩))
   exact raT hS4
  refine ra1 7 (oO rfl (Qza (aw2:=[.box (Vaa p0),.box [.nils,.nils],.dead,aR 9 1 encS x9]) (v':=.ref 3) (n0:=3) (n1:=2) [2] rfl rfl (Yic x8 x7 x9 hx9) (Zia rfl Vvc rfl Qfa) ⟨Jha rfl,rn_s rfl,trivial⟩ (Zla (by decide)) ⟨.inr ⟨rfl,rfl⟩,.inr ⟨rfl,rfl⟩,.inl ⟨0,_,by decide,rfl,trivial⟩,.inl ⟨1,_,by decide,rfl,Jva Vvc⟩,trivial⟩ (rq [8] 2 (ra1 9 (og 4 ⟨rfl,(rq [10] 0 (RA.done (by decide +kernel) ?_))⟩)))))
  cases h
  exact tD
 refine T.region (go 3 2 ?_)
 rcases Qga (decide (p1<0)) with hb_2 | hb_2
 ·refine sN hb_2 (sN hb_2 (sN hb_2 (sN hb_2 (sN hb_2 (sQ (Qna (v:=.bool true) rfl hb_2 rfl (RS.nil ?_)))))))
  exact T.sub (hK () trivial) ⟨rfl,rfl,rfl,(congrArg AV.bool (by simp only [hb_2,bz,if_true,if_false,Bool.false_eq_true])).symm,trivial⟩
 refine yg 2 hb_2 (yg 2 hb_2 (yg 2 hb_2 (yQ hb_2 (Qia Ty.s23 rfl (yg 2 hb_2 (sQ (Qha (v:=.bool (decide (p1 > ((p0.Wait).length:Int)))) rfl hb_2 rfl (RS.nil ?_))))))))
 exact T.sub (hK () trivial) ⟨rfl,rfl,rfl,(congrArg AV.bool (by simp only [hb_2,bz,if_true,if_false,Bool.false_eq_true])).symm,trivial⟩
theorem Ygd (p0:Disk) (r:Disk × Int) (h:Qyc p0=some r):Fn Tryz.prog 29 [.agg (Vaa p0)] (.tup [.agg (Vaa r.1),iI r.2]):=by
 unfold Qyc at h
 refine fnT 0 Tryz.func29 Tryz.ntmps29 ?_
 refine T.seq (T.region (go 3 0 (RS.nil (T.seq ?_))))
 obtain ⟨x2,hx2,h⟩:=bind_some h
 refine T.region (go 3 2 (sQ (Qia Ty.s23 rfl (sO (cD (Vge p0 ((p0.Wait).length:Int) x2 hx2) ⟨rfl,(go 4 2 (RS.nil ?_))⟩)))))
 cases h
 exact tD
theorem Vrd (p0:List UInt8) (r:(List (List UInt8)) × Int × Int) (h:Qfc p0=some r):FnO Tryz.prog 33 [.str p0] (.tup [.ref 0,iI r.2.1,iI r.2.2]) [aR 9 1 encS r.1]:=by
 unfold Qfc at h
 refine fnT 0 Tryz.func33 Tryz.ntmps33 ?_
 refine T.seq (T.region (go 3 0 (RS.nil (T.seq (T.seq (T.region (go 3 0 (RS.nil (T.ci h rfl (fun hb_1 h=>?_) (fun hb_1 h=>?_))))))))))
 ·refine T.seq (T.region (go 3 0 (RS.nil ?_)))
  cases h
  exact tO [(0,9,1)] [0] 0
 refine T.skip (T.seq (T.block (T.iter (fun ss_12:Int × (List (List UInt8))=>mkA 66 [(0,.str p0),(2,.ref 0),(3,iI ss_12.1)]) (fun ss_12=>[aR 9 1 encS ss_12.2]) h (wk [(2,9,1)] [0] 0 rfl) (fun ss_12 v_13 h hv_13=>?_))))
 obtain ⟨s1,s2⟩:=ss_12
 replace h:Z8a p0 s1 s2=some v_13:=h
 try dsimp only
 unfold Z8a at h
 refine T.seq (T.seq (T.region (go 4 1 (RS.nil (T.ci h rfl (fun hb_14 h=>?_) (fun hb_14 h=>?_))))))
 ·refine T.skip (T.block (T.seq ?_))
  obtain ⟨x4,hx4,h⟩:=bind_some h
  refine T.region (go 2 1 (sO (Vfb Tryz.underlying9 rfl rfl rfl hx4 (go 1 1 (RS.nil (T.seq ?_))))))
  obtain ⟨x6,hx6,h⟩:=bind_some h
  refine T.region (go 1 1 (sQ (J9a Tryz.underlying9 rfl rfl hx6 (go 2 1 (RS.nil (T.seq (T.join (Z:=Unit) (fun _=>mkA 66 [(0,.str p0),(2,.ref 0),(3,iI s1),(5,.str x4),(6,iI (IntKind.i64.wrap (x6.toNat:Int))),(33,.bool ((decide ((IntKind.i64.wrap (x6.toNat:Int))<1)) || ((decide ((IntKind.i64.wrap (x6.toNat:Int)) > 60)) || decide (((x4).length:Int)<(IntKind.i64.wrap ((IntKind.i64.wrap (x6.toNat:Int))+3))))))]) (fun _=>[aR 9 1 encS s2]) (fun _=>True) (fun _ _=>?_) (fun hK=>?_))))))))
  ·refine T.ci h rfl (fun hb_17 h=>?_) (fun hb_17 h=>?_)
   ·refine T.exit ?_
    obtain ⟨w_18,h,hw_18⟩:=Qpa h
    replace h:=h.trans (congrArg some (hv_13 _ hw_18))
    refine T.seq (T.region (go 5 1 (RS.nil ?_)))
    cases h
    exact tO [] [0] 1
   refine T.skip (T.seq ?_)
   obtain ⟨x10,hx10,h⟩:=bind_some h
   obtain ⟨x11,hx11,h⟩:=bind_some h
   refine T.region (go 3 1 (sO (Vfb Tryz.underlying9 rfl rfl rfl hx10 (sO (cF (Qod x10 x11 hx11) ⟨rfl,(go 1 1 (RS.nil (T.seq (T.seq ?_))))⟩)))))
   obtain ⟨x15,hx15,h⟩:=bind_some h
   obtain ⟨x16,hx16,h⟩:=bind_some h
   obtain ⟨x17,hx17,h⟩:=bind_some h
   refine T.drawn mixed (k:=14) rfl (rq [0,1,2] 11 (r0 3 rfl (J9a Tryz.underlying9 rfl rfl hx15 (rq [4] 9 (r0 5 rfl (v_shl rfl rfl hx16 (rq [6,7,8] 5 (r0 9 rfl (J9a Tryz.underlying9 rfl rfl hx17 (rq [10,11,12,13] 0 (RA.done (by decide +kernel) (T.ci h rfl (fun hb_19 h=>?_) (fun hb_19 h=>?_)))))))))))))
   ·refine T.exit ?_
    obtain ⟨w_20,h,hw_20⟩:=Qpa h
    replace h:=h.trans (congrArg some (hv_13 _ hw_20))
    refine T.seq (T.region (go 5 1 (RS.nil ?_)))
    cases h
    exact tO [] [0] 1
   refine T.skip (T.seq ?_)
   obtain ⟨x20,hx20,h⟩:=bind_some h
   obtain ⟨x21,hx21,h⟩:=bind_some h
   refine T.region (go 4 1 (sO (Vfb Tryz.underlying9 rfl rfl rfl hx20 (sO (Q9a (rows:=List.map encS [x20]) (vs:=[.str x20]) Ty.s22 Ty.z9 rfl rfl rfl rfl rfl rfl (sO (Voa (en:=encS) (xs:=s2) (ys:=([x20]:List (List UInt8))) Ty.s22 (fun _=>rfl) rfl rfl rfl hx21 rfl rfl (go 1 3 (RS.nil (T.region (go 5 3 (RS.nil ?_))))))))))))
   exact ⟨(IntKind.i64.wrap (s1+(IntKind.i64.wrap ((IntKind.i64.wrap (x6.toNat:Int))+3))),x21),(Option.some.inj h).symm,wk [] [2] 3 rfl⟩
  refine T.region (go 3 1 ?_)
  rcases Qga (decide ((IntKind.i64.wrap (x6.toNat:Int))<1)) with hb_15 | hb_15
  ·refine sN hb_15 (sN hb_15 (sQ (Qna (v:=.bool true) rfl hb_15 rfl (go 1 1 (sN rfl (sN rfl (sN rfl (sN rfl (sN rfl (sQ (Qna (v:=.bool true) rfl rfl rfl ?_)))))))))))
   refine RS.nil ?_
   exact T.sub (hK () trivial) ⟨rfl,rfl,rfl,rfl,rfl,(congrArg AV.bool (by simp only [hb_15,bz,if_true,if_false,Bool.false_eq_true])).symm,trivial⟩
  refine yg 1 hb_15 (yg 1 hb_15 (sQ (Qha (v:=.bool (decide ((IntKind.i64.wrap (x6.toNat:Int)) > 60))) rfl hb_15 rfl (go 1 1 ?_))))
  rcases Qga (decide ((IntKind.i64.wrap (x6.toNat:Int)) > 60)) with hb_16 | hb_16
  ·refine sN hb_16 (sN hb_16 (sN hb_16 (sN hb_16 (sN hb_16 (sQ (Qna (v:=.bool true) rfl hb_16 rfl (RS.nil ?_)))))))
   exact T.sub (hK () trivial) ⟨rfl,rfl,rfl,rfl,rfl,(congrArg AV.bool (by simp only [hb_15,hb_16,bz,if_true,if_false,Bool.false_eq_true])).symm,trivial⟩
  refine yg 1 hb_16 (yg 1 hb_16 (yg 1 hb_16 (yg 1 hb_16 (yg 1 hb_16 (sQ (Qha (v:=.bool (decide (((x4).length:Int)<(IntKind.i64.wrap ((IntKind.i64.wrap (x6.toNat:Int))+3))))) rfl hb_16 rfl (RS.nil ?_)))))))
  exact T.sub (hK () trivial) ⟨rfl,rfl,rfl,rfl,rfl,(congrArg AV.bool (by simp only [hb_15,hb_16,bz,if_true,if_false,Bool.false_eq_true])).symm,trivial⟩
 refine T.exit ?_
 obtain ⟨w_21,h,hw_21⟩:=Qpa h
 replace h:=h.trans (congrArg some (hv_13 _ hw_21))
 refine T.seq (T.region (go 5 1 (RS.nil ?_)))
 cases h
 exact tO [] [0] 1
end Go.Proofs.YtchmpaaofmihcaaGreat
namespace Go.Proofs.YtchmpaaofmihcaaGreat
open Go.RowKit
set_option linter.unusedVariables false
set_option linter.unusedSimpArgs false
set_option maxRecDepth 100000
set_option maxHeartbeats 4000000
set_option synthInstance.maxSize 100000
set_option synthInstance.maxHeartbeats 4000000
theorem Yxb (p0:Int) (p1:Int) (p2:List (List UInt8)) (p3:List Write) (r:(List UInt8) × Bool) (h:Y7a p0 p1 p2 p3=some r):FnX Tryz.prog 32 [iI p0,.ptr 0 0,.ptr 1 0] [.box [iI p1],.box [sL encS p2,sL J8a p3]] (.tup [.str r.1,.bool r.2]) [.box [iI p1],.box [sL encS p2,sL J8a p3]]:=by
 unfold Y7a at h
 refine fnT 2 Tryz.func32 Tryz.ntmps32 ?_
 refine T.seq (T.region (go 2 2 (RS.nil (T.seq (T.region (go 5 2 (RS.nil (T.seq (T.seq ?_)))))))))
 refine T.region (go 3 2 (sQ (Qia Ty.s22 rfl (go 1 2 (RS.nil (T.ci h rfl (fun hb_1 h=>?_) (fun hb_1 h=>?_)))))))
 ·refine T.seq (T.region (go 2 2 (RS.nil ?_)))
  cases h
  exact tN [0,1]
 refine T.skip (T.seq ?_)
 obtain ⟨x3,hx3,h⟩:=bind_some h
 obtain ⟨x4,hx4,h⟩:=bind_some h
 refine T.region (go 3 2 (sQ (Qka Ty.s22 (fun _=>rfl) rfl rfl hx3 (go 1 2 (sO (cO 2 (Vrd x3 x4 hx4) ⟨rfl,(go 7 3 (RS.nil (T.seq ?_)))⟩))))))
 obtain ⟨zt_5,hz,h⟩:=bind_some h
 revert hz h;revert zt_5;intro c11 hz h
 refine T.join (Z:=Unit) (fun _=>mkA 61 [(7,.ref 2),(57,.bool c11)]) (fun _=>[.box [iI p1],.box [sL encS p2,sL J8a p3],aR 9 1 encS x4.1]) (fun _=>True) (fun _ _=>?_) (fun hK=>?_)
 ·refine T.ci h rfl (fun hb_6 h=>?_) (fun hb_6 h=>?_)
  ·refine T.seq (T.region (go 2 3 (RS.nil ?_)))
   cases h
   exact tN [0,1]
  refine T.skip (T.seq ?_)
  obtain ⟨x14,hx14,h⟩:=bind_some h
  obtain ⟨x15,hx15,h⟩:=bind_some h
  refine T.region (go 1 3 (sQ (Q6a (en:=encS) Ty.s22 rfl rfl rfl hx14 (sO (Jga (en:=encS) (a:=x15) rfl rfl hx15 (Qra Ty.k9 (c:=.str x15) rfl (go 2 3 (RS.nil ?_))))))))
  cases h
  exact tN [0,1]
 refine T.region (go 1 3 (sQ (Q0b (en:=encS) Ty.s22 rfl rfl (go 2 3 ?_))))
 rcases Qga (((x4.1).length:Int) != 1) with hb_2 | hb_2
 ·replace hz:=ite_T hz hb_2
  refine sN hb_2 (sN hb_2 (sN hb_2 (sN hb_2 (sN hb_2 (sN hb_2 (sN hb_2 (sN hb_2 (sQ (Qna (v:=.bool true) rfl hb_2 rfl (go 1 3 ?_))))))))))
  refine sN rfl (sN rfl (sN rfl (sN rfl (sN rfl (sQ (Qna (v:=.bool true) rfl rfl rfl (go 1 3 (sN rfl (sN rfl (sN rfl ?_))))))))))
  refine sN rfl (sN rfl (sN rfl (sN rfl (sQ (Qna (v:=.bool true) rfl rfl rfl (RS.nil ?_))))))
  exact T.sub (hK () trivial) ⟨rfl,(congrArg AV.bool ((congrArg (fun p=>p) (Option.some.inj hz)).symm)).symm,trivial⟩
 replace hz:=ite_F hz hb_2
 obtain ⟨x5,hx5,hz⟩:=bind_some hz
 refine yg 3 hb_2 (yg 3 hb_2 (yg 3 hb_2 (yg 3 hb_2 (yQ hb_2 (Qka Ty.s22 (fun _=>rfl) rfl rfl hx5 (yg 3 hb_2 (yg 3 hb_2 (yg 3 hb_2 (sQ (Qha (v:=.bool (x4.2.1 != ((x5).length:Int))) rfl hb_2 rfl (go 1 3 ?_)))))))))))
 rcases Qga (x4.2.1 != ((x5).length:Int)) with hb_3 | hb_3
 ·replace hz:=ite_T hz hb_3
  refine sN hb_3 (sN hb_3 (sN hb_3 (sN hb_3 (sN hb_3 (sQ (Qna (v:=.bool true) rfl hb_3 rfl (go 1 3 (sN rfl (sN rfl (sN rfl ?_))))))))))
  refine sN rfl (sN rfl (sN rfl (sN rfl (sQ (Qna (v:=.bool true) rfl rfl rfl (RS.nil ?_))))))
  exact T.sub (hK () trivial) ⟨rfl,(congrArg AV.bool ((congrArg (fun p=>p) (Option.some.inj hz)).symm)).symm,trivial⟩
 replace hz:=ite_F hz hb_3
 obtain ⟨x6,hx6,hz⟩:=bind_some hz
 obtain ⟨x7,hx7,hz⟩:=bind_some hz
 refine yg 3 hb_3 (yQ hb_3 (Q6a (en:=encS) Ty.s22 rfl rfl rfl hx6 (yO hb_3 (Jga (en:=encS) (a:=x7) rfl rfl hx7 (Qra Ty.k9 (c:=.str x7) rfl (yg 3 hb_3 (yg 3 hb_3 (sQ (Qha (v:=.bool (decide (((x7).length:Int)<3))) rfl hb_3 rfl (go 1 3 ?_))))))))))
 rcases Qga (decide (((x7).length:Int)<3)) with hb_4 | hb_4
 ·replace hz:=ite_T hz hb_4
  refine sN hb_4 (sN hb_4 (sN hb_4 (sN hb_4 (sN hb_4 (sN hb_4 (sN hb_4 (sQ (Qna (v:=.bool true) rfl hb_4 rfl (RS.nil ?_)))))))))
  exact T.sub (hK () trivial) ⟨rfl,(congrArg AV.bool ((congrArg (fun p=>p) (Option.some.inj hz)).symm)).symm,trivial⟩
 replace hz:=ite_F hz hb_4
 obtain ⟨x8,hx8,hz⟩:=bind_some hz
 obtain ⟨x9,hx9,hz⟩:=bind_some hz
 obtain ⟨x10,hx10,hz⟩:=bind_some hz
 refine yg 3 hb_4 (yQ hb_4 (Q6a (en:=encS) Ty.s22 rfl rfl rfl hx8 (yO hb_4 (Jga (en:=encS) (a:=x9) rfl rfl hx9 (Qra Ty.k9 (c:=.str x9) rfl (yQ hb_4 (J9a Tryz.underlying9 rfl rfl hx10 (yg 3 hb_4 (yg 3 hb_4 (yg 3 hb_4 (sQ (Qha (v:=.bool ((IntKind.i64.wrap (x10.toNat:Int)) != p0)) rfl hb_4 rfl (RS.nil ?_)))))))))))))
 exact T.sub (hK () trivial) ⟨rfl,(congrArg AV.bool ((congrArg (fun p=>p) (Option.some.inj hz)).symm)).symm,trivial⟩
theorem Z7e (p0:Disk) (p1:Int) (r:(List UInt8) × Int × Int) (h:Zjc p0 p1=some r):Fn Tryz.prog 14 [.agg (Vaa p0),iI p1] (.tup [.str r.1,iI r.2.1,iI r.2.2]):=by
 unfold Zjc at h
 refine fnT 0 Tryz.func14 Tryz.ntmps14 ?_
 refine T.seq (T.region (go 5 0 (RS.nil (T.seq (T.seq ?_)))))
 obtain ⟨x2,hx2,h⟩:=bind_some h
 refine T.region (go 1 2 (sO (cF (Yyb p0 x2 hx2) ⟨rfl,(go 1 2 (RS.nil (T.seq (T.region (go 2 2 (RS.nil (T.ci h rfl (fun hb_1 h=>?_) (fun hb_1 h=>?_))))))))⟩)))
 ·refine T.seq (T.region (go 4 2 (RS.nil ?_)))
  cases h
  exact tD
 refine T.skip (T.seq (T.join (Z:=Unit) (fun _=>mkA 112 [(2,.ptr 0 0),(3,.ptr 1 0),(4,.str []),(25,.bool ((decide (p1<0)) || decide (p1 > 1)))]) (fun _=>[.box (Vaa p0),.box [iI p1]]) (fun _=>True) (fun _ _=>?_) (fun hK=>?_)))
 ·refine T.ci h rfl (fun hb_3 h=>?_) (fun hb_3 h=>?_)
  ·refine T.seq (T.region (go 3 2 (RS.nil ?_)))
   cases h
   exact tD
  refine T.skip (T.seq (T.region (go 2 2 (RS.nil (T.seq ?_)))))
  obtain ⟨x5,hx5,h⟩:=bind_some h
  refine T.region (go 1 2 (sO (Qza (aw2:=[.box (Vaa p0),.box [iI p1]]) (v':=.tup [.str x5.1,.bool x5.2]) (n0:=2) (n1:=2) [1,0] rfl rfl (Yxb (0:Int) p1 p0.Sectors p0.Wait x5 hx5) (Qoa rfl ⟨Qja rfl,trivial⟩ (Qoa rfl ⟨rn_s rfl,rn_s rfl,trivial⟩ Qfa)) ⟨Qja rfl,Qda rfl,Qda rfl,trivial⟩ (Jkb ⟨Qea (Q1a _),Qea (V4a _),trivial⟩) ⟨.inl ⟨1,_,by decide,rfl,Qya ⟨Qea (Q3a Vvc _),Qea (Q3a Zub _),trivial⟩⟩,.inl ⟨0,_,by decide,rfl,Qya ⟨Qea (Qba _ _),trivial⟩⟩,trivial⟩ (go 5 2 (RS.nil (T.seq ?_))))))
  obtain ⟨zt_7,hz,h⟩:=bind_some h
  revert hz h;revert zt_7;intro c8 hz h
  refine T.join (Z:=Unit) (fun _=>mkA 112 [(4,.str []),(8,.func 32 [.ptr 0 0,.ptr 1 0]),(9,.str x5.1),(50,.bool c8)]) (fun _=>[.box [iI p1],.box (Vaa p0)]) (fun _=>True) (fun _ _=>?_) (fun hK=>?_)
  ·refine T.ci h rfl (fun hb_8 h=>?_) (fun hb_8 h=>?_)
   ·refine T.seq (T.region (go 3 2 (RS.nil ?_)))
    cases h
    exact tD
   refine T.skip (T.seq (T.seq (T.region (go 1 2 (RS.nil (T.block (T.iter (fun ss_29:(List UInt8) × Int=>mkA 112 [(4,.str ss_29.1),(8,.func 32 [.ptr 0 0,.ptr 1 0]),(9,.str x5.1),(11,iI ss_29.2)]) (fun ss_29=>[.box [iI p1],.box (Vaa p0)]) h (wk [] [0,1] 2 rfl) (fun ss_29 v_30 h hv_30=>?_))))))))
   obtain ⟨s9,s10⟩:=ss_29
   replace h:Zob p0 p1 x5 s9 s10=some v_30:=h
   try dsimp only
   unfold Zob at h
   refine T.seq (T.seq ?_)
   obtain ⟨x12,hx12,h⟩:=bind_some h
   refine T.region (go 2 2 (sQ (J9a Tryz.underlying9 rfl rfl hx12 (go 2 2 (RS.nil (T.ci h rfl (fun hb_31 h=>?_) (fun hb_31 h=>?_)))))))
   ·refine T.skip (T.seq (T.block (T.seq ?_)))
    obtain ⟨x14,hx14,h⟩:=bind_some h
    refine T.region (go 2 2 (sO (Qza (aw2:=[.box [iI p1],.box (Vaa p0)]) (v':=.tup [.str x14.1,.bool x14.2]) (n0:=2) (n1:=2) [0,1] rfl rfl (Yxb s10 p1 p0.Sectors p0.Wait x14 hx14) (Qoa rfl ⟨Qja rfl,trivial⟩ (Qoa rfl ⟨rn_s rfl,rn_s rfl,trivial⟩ Qfa)) ⟨Qja rfl,Qda rfl,Qda rfl,trivial⟩ (Jkb ⟨Qea (Q1a _),Qea (V4a _),trivial⟩) ⟨.inl ⟨0,_,by decide,rfl,Qya ⟨Qea (Qba _ _),trivial⟩⟩,.inl ⟨1,_,by decide,rfl,Qya ⟨Qea (Q3a Vvc _),Qea (Q3a Zub _),trivial⟩⟩,trivial⟩ (go 5 2 (RS.nil ?_)))))
    obtain ⟨zt_35,hz,h⟩:=bind_some h
    revert hz h;revert zt_35;intro c16 hz h
    refine T.join (Z:=Unit) (fun _=>mkA 112 [(4,.str s9),(8,.func 32 [.ptr 0 0,.ptr 1 0]),(9,.str x5.1),(11,iI s10),(12,.str x14.1),(13,.bool x14.2),(14,.bool c16)]) (fun _=>[.box [iI p1],.box (Vaa p0)]) (fun _=>True) (fun _ _=>?_) (fun hK=>?_)
    ·refine T.seq ?_
     obtain ⟨zt_39,hz,h⟩:=bind_some h
     revert hz h;revert zt_39;intro c21 hz h
     refine T.join (Z:=Unit) (fun _=>mkA 112 [(4,.str s9),(8,.func 32 [.ptr 0 0,.ptr 1 0]),(9,.str x5.1),(11,iI s10),(12,.str x14.1),(103,.bool c21)]) (fun _=>[.box [iI p1],.box (Vaa p0)]) (fun _=>True) (fun _ _=>?_) (fun hK=>?_)
     ·refine T.ci h rfl (fun hb_40 h=>?_) (fun hb_40 h=>?_)
      ·refine T.seq (T.region (go 3 2 (RS.nil ?_)))
       obtain ⟨w_41,h,hw_41⟩:=Qpa h
       replace h:=h.trans (congrArg some (hv_30 _ hw_41))
       cases h
       exact tD
      refine T.skip ?_
      obtain ⟨x22,hx22,h⟩:=bind_some h
      obtain ⟨x23,hx23,h⟩:=bind_some h
      refine T.region (go 2 2 (sO (Vfb Tryz.underlying9 rfl rfl rfl hx22 (sQ (Ved rfl rfl hx23 (go 1 2 (RS.nil (T.region (go 3 2 (RS.nil ?_))))))))))
      exact ⟨(x23,IntKind.i64.wrap (s10+1)),(Option.some.inj h).symm,wk [] [0,1] 2 rfl⟩
     rcases Qga (!x14.2) with hb_36 | hb_36
     ·replace hz:=ite_T hz hb_36
      refine T.drawn mixed (k:=20) rfl (rq [0,1,2] 17 (r2 3 rfl hb_36 (r2 4 rfl hb_36 (r2 5 rfl hb_36 (r2 6 rfl hb_36 (r2 7 rfl hb_36 (r0 8 rfl (Qna (v:=.bool true) rfl hb_36 rfl (rq [9] 10 (r2 10 rfl rfl ?_))))))))))
      refine r2 11 rfl rfl (r2 12 rfl rfl (r2 13 rfl rfl (r2 14 rfl rfl (r0 15 rfl (Qna (v:=.bool true) rfl rfl rfl (rq [16] 3 (r2 17 rfl rfl (r2 18 rfl rfl (r0 19 rfl (Qna (v:=.bool true) rfl rfl rfl (RA.done (by decide +kernel) ?_)))))))))))
      exact T.sub (hK () trivial) ⟨rfl,rfl,rfl,rfl,rfl,(congrArg AV.bool ((congrArg (fun p=>p) (Option.some.inj hz)).symm)).symm,trivial⟩
     replace hz:=ite_F hz hb_36
     obtain ⟨x17,hx17,hz⟩:=bind_some hz
     obtain ⟨x18,hx18,hz⟩:=bind_some hz
     rcases Qga ((x17.toNat:Int) != (x18.toNat:Int)) with hb_37 | hb_37
     ·replace hz:=ite_T hz hb_37
      refine T.drawn mixed (k:=20) rfl (rq [0,1,2] 17 (ry 3 hb_36 rfl (r1 4 rfl hb_36 (J9a Tryz.underlying9 rfl rfl hx17 (ry 5 hb_36 rfl (r1 6 rfl hb_36 (J9a Tryz.underlying9 rfl rfl hx18 (ry 7 hb_36 rfl (r0 8 rfl (Qha (v:=.bool ((x17.toNat:Int) != (x18.toNat:Int))) rfl hb_36 rfl (rq [9] 10 (r2 10 rfl hb_37 ?_))))))))))))
      refine r2 11 rfl hb_37 (r2 12 rfl hb_37 (r2 13 rfl hb_37 (r2 14 rfl hb_37 (r0 15 rfl (Qna (v:=.bool true) rfl hb_37 rfl (rq [16] 3 (r2 17 rfl rfl (r2 18 rfl rfl (r0 19 rfl (Qna (v:=.bool true) rfl rfl rfl (RA.done (by decide +kernel) ?_)))))))))))
      exact T.sub (hK () trivial) ⟨rfl,rfl,rfl,rfl,rfl,(congrArg AV.bool ((congrArg (fun p=>p) (Option.some.inj hz)).symm)).symm,trivial⟩
     replace hz:=ite_F hz hb_37
     obtain ⟨x19,hx19,hz⟩:=bind_some hz
     obtain ⟨x20,hx20,hz⟩:=bind_some hz
     rcases Qga ((x19.toNat:Int) != (x20.toNat:Int)) with hb_38 | hb_38
     ·replace hz:=ite_T hz hb_38
      refine T.drawn mixed (k:=20) rfl (rq [0,1,2] 17 (ry 3 hb_36 rfl (r1 4 rfl hb_36 (J9a Tryz.underlying9 rfl rfl hx17 (ry 5 hb_36 rfl (r1 6 rfl hb_36 (J9a Tryz.underlying9 rfl rfl hx18 (ry 7 hb_36 rfl (r0 8 rfl (Qha (v:=.bool ((x17.toNat:Int) != (x18.toNat:Int))) rfl hb_36 rfl (rq [9] 10 (ry 10 hb_37 rfl ?_))))))))))))
      refine r1 11 rfl hb_37 (J9a Tryz.underlying9 rfl rfl hx19 (ry 12 hb_37 rfl (r1 13 rfl hb_37 (J9a Tryz.underlying9 rfl rfl hx20 (ry 14 hb_37 rfl (r0 15 rfl (Qha (v:=.bool ((x19.toNat:Int) != (x20.toNat:Int))) rfl hb_37 rfl (rq [16] 3 (r2 17 rfl hb_38 (r2 18 rfl hb_38 (r0 19 rfl (Qna (v:=.bool true) rfl hb_38 rfl (RA.done (by decide +kernel) ?_)))))))))))))
      exact T.sub (hK () trivial) ⟨rfl,rfl,rfl,rfl,rfl,(congrArg AV.bool ((congrArg (fun p=>p) (Option.some.inj hz)).symm)).symm,trivial⟩
     replace hz:=ite_F hz hb_38
     refine T.drawn mixed (k:=20) rfl (rq [0,1,2] 17 (ry 3 hb_36 rfl (r1 4 rfl hb_36 (J9a Tryz.underlying9 rfl rfl hx17 (ry 5 hb_36 rfl (r1 6 rfl hb_36 (J9a Tryz.underlying9 rfl rfl hx18 (ry 7 hb_36 rfl (r0 8 rfl (Qha (v:=.bool ((x17.toNat:Int) != (x18.toNat:Int))) rfl hb_36 rfl (rq [9] 10 (ry 10 hb_37 rfl ?_))))))))))))
     refine r1 11 rfl hb_37 (J9a Tryz.underlying9 rfl rfl hx19 (ry 12 hb_37 rfl (r1 13 rfl hb_37 (J9a Tryz.underlying9 rfl rfl hx20 (ry 14 hb_37 rfl (r0 15 rfl (Qha (v:=.bool ((x19.toNat:Int) != (x20.toNat:Int))) rfl hb_37 rfl (rq [16] 3 (ry 17 hb_38 rfl (ry 18 hb_38 rfl (r0 19 rfl (Qha (v:=.bool (!c16)) rfl hb_38 rfl (RA.done (by decide +kernel) ?_)))))))))))))
     exact T.sub (hK () trivial) ⟨rfl,rfl,rfl,rfl,rfl,(congrArg AV.bool ((congrArg (fun p=>p) (Option.some.inj hz)).symm)).symm,trivial⟩
    refine T.region (go 4 2 ?_)
    rcases Qga (((x14.1).length:Int)==53) with hb_32 | hb_32
    ·replace hz:=ite_T hz hb_32
     refine sN hb_32 (sN hb_32 (sN hb_32 (sN hb_32 (sN hb_32 (sN hb_32 (sU (sU (sU (sN hb_32 ?_)))))))))
     refine sN hb_32 (sU (sU (sU (sN hb_32 (sQ (Qna (v:=.bool true) rfl hb_32 rfl (go 1 2 (RS.nil ?_))))))))
     exact T.sub (hK () trivial) ⟨rfl,rfl,rfl,rfl,rfl,rfl,(congrArg AV.bool ((congrArg (fun p=>p) (Option.some.inj hz)).symm)).symm,trivial⟩
    replace hz:=ite_F hz hb_32
    obtain ⟨x15,hx15,hz⟩:=bind_some hz
    refine yg 2 hb_32 (yg 2 hb_32 (yQ hb_32 (J9a Tryz.underlying9 rfl rfl hx15 (yg 2 hb_32 (yg 2 hb_32 (yg 2 hb_32 ?_))))))
    rcases Qga (s10==(IntKind.i64.wrap (x15.toNat:Int))) with hb_33 | hb_33
    ·replace hz:=ite_T hz hb_33
     refine yg 2 hb_33 (yg 2 hb_33 (yg 2 hb_33 (yQ hb_32 (Qna (v:=.bool (decide (((x14.1).length:Int) > 3))) rfl hb_33 rfl (yg 2 hb_32 ?_)))))
     rcases Qga (decide (((x14.1).length:Int) > 3)) with hb_34 | hb_34
     ·replace hz:=ite_T hz hb_34
      refine yg 2 hb_34 (yg 2 hb_34 (yg 2 hb_34 (yQ hb_32 (Qna (v:=.bool (decide (((x14.1).length:Int)<53))) rfl hb_34 rfl (sQ (Qha (v:=.bool (decide (((x14.1).length:Int)<53))) rfl hb_32 rfl (go 1 2 (RS.nil ?_))))))))
      exact T.sub (hK () trivial) ⟨rfl,rfl,rfl,rfl,rfl,rfl,(congrArg AV.bool ((congrArg (fun p=>p) (Option.some.inj hz)).symm)).symm,trivial⟩
     replace hz:=ite_F hz hb_34
     refine sN hb_34 (sN hb_34 (sN hb_34 (yQ hb_32 (Qha (v:=.bool false) rfl hb_34 rfl (sQ (Qha (v:=.bool false) rfl hb_32 rfl (go 1 2 (RS.nil ?_))))))))
     exact T.sub (hK () trivial) ⟨rfl,rfl,rfl,rfl,rfl,rfl,(congrArg AV.bool ((congrArg (fun p=>p) (Option.some.inj hz)).symm)).symm,trivial⟩
    replace hz:=ite_F hz hb_33
    refine sN hb_33 (sN hb_33 (sN hb_33 (yQ hb_32 (Qha (v:=.bool false) rfl hb_33 rfl (yg 2 hb_32 (sN rfl (sN rfl (sN rfl (yQ hb_32 (Qha (v:=.bool false) rfl rfl rfl (sQ (Qha (v:=.bool false) rfl hb_32 rfl ?_))))))))))))
    refine go 1 2 (RS.nil ?_)
    exact T.sub (hK () trivial) ⟨rfl,rfl,rfl,rfl,rfl,rfl,(congrArg AV.bool ((congrArg (fun p=>p) (Option.some.inj hz)).symm)).symm,trivial⟩
   refine T.exit ?_
   obtain ⟨w_42,h,hw_42⟩:=Qpa h
   replace h:=h.trans (congrArg some (hv_30 _ hw_42))
   refine T.seq ?_
   obtain ⟨x25,hx25,h⟩:=bind_some h
   refine T.drawn mixed (k:=7) rfl (rq [0,1] 5 (r0 2 rfl (J9a Tryz.underlying9 rfl rfl hx25 (rq [3,4,5,6] 0 (RA.done (by decide +kernel) ?_)))))
   cases h
   exact tD
  refine T.region (go 3 2 ?_)
  rcases Qga (!x5.2) with hb_4 | hb_4
  ·replace hz:=ite_T hz hb_4
   refine sN hb_4 (sN hb_4 (sN hb_4 (sQ (Qna (v:=.bool true) rfl hb_4 rfl (go 1 2 (sN rfl (sN rfl (sN rfl (sN rfl (sQ (Qna (v:=.bool true) rfl rfl rfl ?_)))))))))))
   refine go 1 2 (sN rfl (sN rfl (sN rfl (sN rfl (sQ (Qna (v:=.bool true) rfl rfl rfl (RS.nil ?_)))))))
   exact T.weakR (hK () trivial) (Weak.mkN [] [1,0] (by decide) (Qma _) rfl ⟨Qva rfl,Vka ⟨Qda rfl,Qda rfl,trivial⟩,Qva rfl,Jca ((congrArg (fun p=>p) (Option.some.inj hz)).symm),trivial⟩ (rw_bs [iI p1] rfl (rw_bs (Vaa p0) rfl (Qfa))))
  replace hz:=ite_F hz hb_4
  refine yg 2 hb_4 (yg 2 hb_4 (yg 2 hb_4 (sQ (Qha (v:=.bool (((x5.1).length:Int) != 3)) rfl hb_4 rfl (go 1 2 ?_)))))
  rcases Qga (((x5.1).length:Int) != 3) with hb_5 | hb_5
  ·replace hz:=ite_T hz hb_5
   refine sN hb_5 (sN hb_5 (sN hb_5 (sN hb_5 (sQ (Qna (v:=.bool true) rfl hb_5 rfl (go 1 2 (sN rfl (sN rfl (sN rfl (sN rfl ?_))))))))))
   refine sQ (Qna (v:=.bool true) rfl rfl rfl (RS.nil ?_))
   exact T.weakR (hK () trivial) (Weak.mkN [] [1,0] (by decide) (Qma _) rfl ⟨Qva rfl,Vka ⟨Qda rfl,Qda rfl,trivial⟩,Qva rfl,Jca ((congrArg (fun p=>p) (Option.some.inj hz)).symm),trivial⟩ (rw_bs [iI p1] rfl (rw_bs (Vaa p0) rfl (Qfa))))
  replace hz:=ite_F hz hb_5
  obtain ⟨x6,hx6,hz⟩:=bind_some hz
  refine yg 2 hb_5 (yQ hb_5 (J9a Tryz.underlying9 rfl rfl hx6 (yg 2 hb_5 (yg 2 hb_5 (sQ (Qha (v:=.bool (decide ((IntKind.i64.wrap (x6.toNat:Int)) > 200))) rfl hb_5 rfl (go 1 2 ?_)))))))
  rcases Qga (decide ((IntKind.i64.wrap (x6.toNat:Int)) > 200)) with hb_6 | hb_6
  ·replace hz:=ite_T hz hb_6
   refine sN hb_6 (sN hb_6 (sN hb_6 (sN hb_6 (sQ (Qna (v:=.bool true) rfl hb_6 rfl (RS.nil ?_))))))
   exact T.weakR (hK () trivial) (Weak.mkN [] [1,0] (by decide) (Qma _) rfl ⟨Qva rfl,Vka ⟨Qda rfl,Qda rfl,trivial⟩,Qva rfl,Jca ((congrArg (fun p=>p) (Option.some.inj hz)).symm),trivial⟩ (rw_bs [iI p1] rfl (rw_bs (Vaa p0) rfl (Qfa))))
  replace hz:=ite_F hz hb_6
  obtain ⟨x7,hx7,hz⟩:=bind_some hz
  refine yg 2 hb_6 (yQ hb_6 (J9a Tryz.underlying9 rfl rfl hx7 (yg 2 hb_6 (yg 2 hb_6 (sQ (Qha (v:=.bool (decide ((IntKind.i64.wrap (x7.toNat:Int)) ≥ 60))) rfl hb_6 rfl (RS.nil ?_)))))))
  exact T.weakR (hK () trivial) (Weak.mkN [] [1,0] (by decide) (Qma _) rfl ⟨Qva rfl,Vka ⟨Qda rfl,Qda rfl,trivial⟩,Qva rfl,Jca ((congrArg (fun p=>p) (Option.some.inj hz)).symm),trivial⟩ (rw_bs [iI p1] rfl (rw_bs (Vaa p0) rfl (Qfa))))
 refine T.region (go 3 2 ?_)
 rcases Qga (decide (p1<0)) with hb_2 | hb_2
 ·refine sN hb_2 (sN hb_2 (sQ (Qna (v:=.bool true) rfl hb_2 rfl (RS.nil ?_))))
  exact T.sub (hK () trivial) ⟨rfl,rfl,rfl,(congrArg AV.bool (by simp only [hb_2,bz,if_true,if_false,Bool.false_eq_true])).symm,trivial⟩
 refine yg 2 hb_2 (yg 2 hb_2 (sQ (Qha (v:=.bool (decide (p1 > 1))) rfl hb_2 rfl (RS.nil ?_))))
 exact T.sub (hK () trivial) ⟨rfl,rfl,rfl,(congrArg AV.bool (by simp only [hb_2,bz,if_true,if_false,Bool.false_eq_true])).symm,trivial⟩
theorem Vic (p0:List Int) (p1:List Int) (r:Bool) (h:Q1b p0 p1=some r):Fn Tryz.prog 56 [sL encI p0,sL encI p1] (.bool r):=by
 unfold Q1b at h
 refine fnT 0 Tryz.func56 Tryz.ntmps56 ?_
 refine T.seq (T.region (go 1 0 (RS.nil (T.seq (T.seq (T.region (go 1 0 (sQ (Qia Ty.s49 rfl (go 1 0 ?_))))))))))
 refine sQ (Qia Ty.s49 rfl (go 1 0 (RS.nil (T.ci h rfl (fun hb_1 h=>?_) (fun hb_1 h=>?_)))))
 ·refine T.seq (T.region (go 1 0 (RS.nil ?_)))
  cases h
  exact tD
 refine T.skip (T.seq (T.seq (T.region (go 1 0 (sQ (Qia Ty.s49 rfl (go 1 0 (RS.nil (T.block (T.iter (fun ss_6:Int=>mkA 26 [(0,sL encI p0),(1,sL encI p1),(12,iI ((p0).length:Int)),(13,iI ss_6)]) (fun ss_6=>[]) h (wk [] [] 0 rfl) (fun ss_6 v_7 h hv_7=>?_)))))))))))
 revert hv_7 h;revert ss_6;intro s1 h hv_7
 replace h:Yya p0 p1 s1=some v_7:=h
 try dsimp only
 unfold Yya at h
 refine T.seq (T.region (go 1 0 (RS.nil (T.seq (T.ci h rfl (fun hb_8 h=>?_) (fun hb_8 h=>?_))))))
 ·refine T.skip (T.seq (T.block (T.seq (T.region (go 2 0 (RS.nil (T.seq ?_)))))))
  obtain ⟨x4,hx4,h⟩:=bind_some h
  obtain ⟨x5,hx5,h⟩:=bind_some h
  refine T.drawn mixed (k:=9) rfl (rq [0,1] 7 (r0 2 rfl (Qka Ty.s49 (fun _=>rfl) rfl rfl hx4 (rq [4,5] 4 (r0 6 rfl (Qka Ty.s49 (fun _=>rfl) rfl rfl hx5 (rL [3,8] 3 rfl (ra1 7 (og 0 ⟨rfl,(rq [8] 0 (RA.done (by decide +kernel) ?_))⟩)))))))))
  refine T.ci h rfl (fun hb_9 h=>?_) (fun hb_9 h=>?_)
  ·refine T.seq (T.region (go 1 0 (RS.nil ?_)))
   obtain ⟨w_10,h,hw_10⟩:=Qpa h
   replace h:=h.trans (congrArg some (hv_7 _ hw_10))
   cases h
   exact tD
  refine T.skip (T.region (go 2 0 (RS.nil ?_)))
  exact ⟨IntKind.i64.wrap (s1+1),(Option.some.inj h).symm,wk [] [] 0 rfl⟩
 refine T.exit ?_
 obtain ⟨w_11,h,hw_11⟩:=Qpa h
 replace h:=h.trans (congrArg some (hv_7 _ hw_11))
 refine T.seq (T.region (go 1 0 (RS.nil ?_)))
 cases h
 exact tD
theorem Z4c (p0:List Item) (p1:List Item) (r:Bool) (h:Qmb p0 p1=some r):Fn Tryz.prog 82 [sL Qca p0,sL Qca p1] (.bool r):=by
 unfold Qmb at h
 refine fnT 0 Tryz.func82 Tryz.ntmps82 ?_
 refine T.seq (T.region (go 1 0 (RS.nil (T.seq (T.seq (T.region (go 1 0 (sQ (Qia Ty.s52 rfl (go 1 0 ?_))))))))))
 refine sQ (Qia Ty.s52 rfl (go 1 0 (RS.nil (T.ci h rfl (fun hb_1 h=>?_) (fun hb_1 h=>?_)))))
 ·refine T.seq (T.region (go 1 0 (RS.nil ?_)))
  cases h
  exact tD
 refine T.skip (T.seq (T.seq (T.region (go 1 0 (sQ (Qia Ty.s52 rfl (go 1 0 (RS.nil (T.block (T.iter (fun ss_6:Int=>mkA 26 [(0,sL Qca p0),(1,sL Qca p1),(12,iI ((p0).length:Int)),(13,iI ss_6)]) (fun ss_6=>[]) h (wk [] [] 0 rfl) (fun ss_6 v_7 h hv_7=>?_)))))))))))
 revert hv_7 h;revert ss_6;intro s1 h hv_7
 replace h:Ypa p0 p1 s1=some v_7:=h
 try dsimp only
 unfold Ypa at h
 refine T.seq (T.region (go 1 0 (RS.nil (T.seq (T.ci h rfl (fun hb_8 h=>?_) (fun hb_8 h=>?_))))))
 ·refine T.skip (T.seq (T.block (T.seq (T.region (go 2 0 (RS.nil (T.seq ?_)))))))
  obtain ⟨x4,hx4,h⟩:=bind_some h
  obtain ⟨x5,hx5,h⟩:=bind_some h
  refine T.drawn mixed (k:=9) rfl (rq [0,1] 7 (r0 2 rfl (Qka Ty.s52 (fun _=>rfl) rfl rfl hx4 (rq [4,5] 4 (r0 6 rfl (Qka Ty.s52 (fun _=>rfl) rfl rfl hx5 (rL [3,8] 3 rfl (ra1 7 (og 0 ⟨rfl,(r0 8 rfl (Yle (cs:=[iI x4.Key,iI x4.Val,iI x4.Dep]) (ds:=[iI x5.Key,iI x5.Val,iI x5.Dep]) (r:=x4==x5) Ty.q115 rfl rfl rfl rfl (Voe x4 x5) (RA.done (by decide +kernel) ?_)))⟩)))))))))
  refine T.ci h rfl (fun hb_9 h=>?_) (fun hb_9 h=>?_)
  ·refine T.seq (T.region (go 1 0 (RS.nil ?_)))
   obtain ⟨w_10,h,hw_10⟩:=Qpa h
   replace h:=h.trans (congrArg some (hv_7 _ hw_10))
   cases h
   exact tD
  refine T.skip (T.region (go 2 0 (RS.nil ?_)))
  exact ⟨IntKind.i64.wrap (s1+1),(Option.some.inj h).symm,wk [] [] 0 rfl⟩
 refine T.exit ?_
 obtain ⟨w_11,h,hw_11⟩:=Qpa h
 replace h:=h.trans (congrArg some (hv_7 _ hw_11))
 refine T.seq (T.region (go 1 0 (RS.nil ?_)))
 cases h
 exact tD
theorem V4b (p0:List Item) (p1:List Item) (r:Bool) (h:Yla p0 p1=some r):Fn Tryz.prog 58 [sL Qca p0,sL Qca p1] (.bool r):=by
 unfold Yla at h
 refine fnT 0 Tryz.func58 Tryz.ntmps58 ?_
 refine T.seq (T.region (go 1 0 (RS.nil (T.seq ?_))))
 obtain ⟨x2,hx2,h⟩:=bind_some h
 refine T.region (go 2 0 (sO (cF (Z4c p0 p1 x2 hx2) ⟨rfl,(go 1 0 (RS.nil ?_))⟩)))
 cases h
 exact tD
theorem V1a (p0:List (List Item)) (p1:List (List Item)) (r:Bool) (h:Jfa p0 p1=some r):Fn Tryz.prog 57 [sL (encL Qca) p0,sL (encL Qca) p1,.func 58 []] (.bool r):=by
 unfold Jfa at h
 refine fnT 0 Tryz.func57 Tryz.ntmps57 ?_
 refine T.seq (T.region (go 1 0 (RS.nil (T.seq (T.seq (T.region (go 1 0 (sQ (Qia Ty.s48 rfl (go 1 0 ?_))))))))))
 refine sQ (Qia Ty.s48 rfl (go 1 0 (RS.nil (T.ci h rfl (fun hb_1 h=>?_) (fun hb_1 h=>?_)))))
 ·refine T.seq (T.region (go 1 0 (RS.nil ?_)))
  cases h
  exact tD
 refine T.skip (T.seq (T.seq (T.region (go 1 0 (sQ (Qia Ty.s48 rfl (go 1 0 (RS.nil (T.block (T.iter (fun ss_6:Int=>mkA 32 [(1,sL (encL Qca) p1),(2,.func 58 []),(15,sL (encL Qca) p0),(16,iI ((p0).length:Int)),(17,iI ss_6)]) (fun ss_6=>[]) h (wk [] [] 0 rfl) (fun ss_6 v_7 h hv_7=>?_)))))))))))
 revert hv_7 h;revert ss_6;intro s1 h hv_7
 replace h:Jda p0 p1 s1=some v_7:=h
 try dsimp only
 unfold Jda at h
 refine T.seq (T.region (go 1 0 (RS.nil (T.seq (T.ci h rfl (fun hb_8 h=>?_) (fun hb_8 h=>?_))))))
 ·refine T.skip (T.seq (T.block (T.seq ?_)))
  obtain ⟨x3,hx3,h⟩:=bind_some h
  refine T.region (go 1 0 (sQ (Qka Ty.s48 (fun _=>rfl) rfl rfl hx3 (go 3 0 (RS.nil (T.seq ?_))))))
  obtain ⟨x5,hx5,h⟩:=bind_some h
  refine T.region (go 2 0 (sQ (Qka Ty.s48 (fun _=>rfl) rfl rfl hx5 (go 2 0 (RS.nil (T.seq ?_))))))
  obtain ⟨x7,hx7,h⟩:=bind_some h
  refine T.region (go 3 0 (sO (cF (V4b x3 x5 x7 hx7) ⟨rfl,(go 1 0 (RS.nil (T.ci h rfl (fun hb_9 h=>?_) (fun hb_9 h=>?_))))⟩)))
  ·refine T.seq (T.region (go 1 0 (RS.nil ?_)))
   obtain ⟨w_10,h,hw_10⟩:=Qpa h
   replace h:=h.trans (congrArg some (hv_7 _ hw_10))
   cases h
   exact tD
  refine T.skip (T.region (go 2 0 (RS.nil ?_)))
  exact ⟨IntKind.i64.wrap (s1+1),(Option.some.inj h).symm,wk [] [] 0 rfl⟩
 refine T.exit ?_
 obtain ⟨w_11,h,hw_11⟩:=Qpa h
 replace h:=h.trans (congrArg some (hv_7 _ hw_11))
 refine T.seq (T.region (go 1 0 (RS.nil ?_)))
 cases h
 exact tD
theorem Zoc (p0:List Keyed) (p1:List Keyed) (r:Bool) (h:Qbb p0 p1=some r):Fn Tryz.prog 83 [sL Qwa p0,sL Qwa p1] (.bool r):=by
 unfold Qbb at h
 refine fnT 0 Tryz.func83 Tryz.ntmps83 ?_
 refine T.seq (T.region (go 1 0 (RS.nil (T.seq (T.seq (T.region (go 1 0 (sQ (Qia Ty.s88 rfl (go 1 0 ?_))))))))))
 refine sQ (Qia Ty.s88 rfl (go 1 0 (RS.nil (T.ci h rfl (fun hb_1 h=>?_) (fun hb_1 h=>?_)))))
 ·refine T.seq (T.region (go 1 0 (RS.nil ?_)))
  cases h
  exact tD
 refine T.skip (T.seq (T.seq (T.region (go 1 0 (sQ (Qia Ty.s88 rfl (go 1 0 (RS.nil (T.block (T.iter (fun ss_6:Int=>mkA 26 [(0,sL Qwa p0),(1,sL Qwa p1),(12,iI ((p0).length:Int)),(13,iI ss_6)]) (fun ss_6=>[]) h (wk [] [] 0 rfl) (fun ss_6 v_7 h hv_7=>?_)))))))))))
 revert hv_7 h;revert ss_6;intro s1 h hv_7
 replace h:Yja p0 p1 s1=some v_7:=h
 try dsimp only
 unfold Yja at h
 refine T.seq (T.region (go 1 0 (RS.nil (T.seq (T.ci h rfl (fun hb_8 h=>?_) (fun hb_8 h=>?_))))))
 ·refine T.skip (T.seq (T.block (T.seq (T.region (go 2 0 (RS.nil (T.seq ?_)))))))
  obtain ⟨x4,hx4,h⟩:=bind_some h
  obtain ⟨x5,hx5,h⟩:=bind_some h
  refine T.drawn mixed (k:=9) rfl (rq [0,1] 7 (r0 2 rfl (Qka Ty.s88 (fun _=>rfl) rfl rfl hx4 (rq [4,5] 4 (r0 6 rfl (Qka Ty.s88 (fun _=>rfl) rfl rfl hx5 (rL [3,8] 3 rfl (ra1 7 (og 0 ⟨rfl,(r0 8 rfl (Yle (cs:=[iI x4.Key,iI x4.N]) (ds:=[iI x5.Key,iI x5.N]) (r:=x4==x5) Ty.q92 rfl rfl rfl rfl (Q2e x4 x5) (RA.done (by decide +kernel) ?_)))⟩)))))))))
  refine T.ci h rfl (fun hb_9 h=>?_) (fun hb_9 h=>?_)
  ·refine T.seq (T.region (go 1 0 (RS.nil ?_)))
   obtain ⟨w_10,h,hw_10⟩:=Qpa h
   replace h:=h.trans (congrArg some (hv_7 _ hw_10))
   cases h
   exact tD
  refine T.skip (T.region (go 2 0 (RS.nil ?_)))
  exact ⟨IntKind.i64.wrap (s1+1),(Option.some.inj h).symm,wk [] [] 0 rfl⟩
 refine T.exit ?_
 obtain ⟨w_11,h,hw_11⟩:=Qpa h
 replace h:=h.trans (congrArg some (hv_7 _ hw_11))
 refine T.seq (T.region (go 1 0 (RS.nil ?_)))
 cases h
 exact tD
theorem Jzc (p0:Memory) (p1:Memory) (r:Bool) (h:Y1a p0 p1=some r):Fn Tryz.prog 60 [.agg (Qla p0),.agg (Qla p1)] (.bool r):=by
 unfold Y1a at h
 refine fnT 0 Tryz.func60 Tryz.ntmps60 ?_
 refine T.seq (T.region (go 3 0 (RS.nil ?_)))
 obtain ⟨zt_3,hz,h⟩:=bind_some h
 revert hz h;revert zt_3;intro c2 hz h
 refine T.join (Z:=Unit) (fun _=>mkA 24 [(4,.bool c2)]) (fun _=>[]) (fun _=>True) (fun _ _=>?_) (fun hK=>?_)
 ·cases h
  exact tD
 refine T.region (go 6 2 ?_)
 rcases Qga (p0.Sum==p1.Sum) with hb_1 | hb_1
 ·replace hz:=ite_T hz hb_1
  refine yg 2 hb_1 (yg 2 hb_1 (yg 2 hb_1 (yg 2 hb_1 (yg 2 hb_1 (sQ (Qna (v:=.bool (p0.Dep==p1.Dep)) rfl hb_1 rfl (go 1 2 ?_)))))))
  rcases Qga (p0.Dep==p1.Dep) with hb_2 | hb_2
  ·replace hz:=ite_T hz hb_2
   obtain ⟨x1,hx1,hz⟩:=bind_some hz
   refine yg 2 hb_2 (yg 2 hb_2 (yg 2 hb_2 (yg 2 hb_2 (yO hb_2 (cF (Zoc p0.Keys p1.Keys x1 hx1) ⟨rfl,(sQ (Qna (v:=.bool x1) rfl hb_2 rfl (go 1 2 (RS.nil ?_))))⟩)))))
   exact T.weakR (hK () trivial) (Weak.mkN [] [] (by decide) (Qma _) rfl ⟨Jca ((congrArg (fun p=>p) (Option.some.inj hz)).symm),trivial⟩ (Qfa))
  replace hz:=ite_F hz hb_2
  refine sN hb_2 (sN hb_2 (sN hb_2 (sN hb_2 (sN hb_2 (sQ (Qha (v:=.bool false) rfl hb_2 rfl (go 1 2 (RS.nil ?_))))))))
  exact T.weakR (hK () trivial) (Weak.mkN [] [] (by decide) (Qma _) rfl ⟨Jca ((congrArg (fun p=>p) (Option.some.inj hz)).symm),trivial⟩ (Qfa))
 replace hz:=ite_F hz hb_1
 refine sN hb_1 (sN hb_1 (sN hb_1 (sN hb_1 (sN hb_1 (sQ (Qha (v:=.bool false) rfl hb_1 rfl (go 1 2 (sN rfl (sN rfl (sN rfl ?_))))))))))
 refine sN rfl (sN rfl (sQ (Qha (v:=.bool false) rfl rfl rfl (go 1 2 (RS.nil ?_)))))
 exact T.weakR (hK () trivial) (Weak.mkN [] [] (by decide) (Qma _) rfl ⟨Jca ((congrArg (fun p=>p) (Option.some.inj hz)).symm),trivial⟩ (Qfa))
theorem Vwa (p0:List Memory) (p1:List Memory) (r:Bool) (h:Jba p0 p1=some r):Fn Tryz.prog 59 [sL Qla p0,sL Qla p1,.func 60 []] (.bool r):=by
 unfold Jba at h
 refine fnT 0 Tryz.func59 Tryz.ntmps59 ?_
 refine T.seq (T.region (go 1 0 (RS.nil (T.seq (T.seq (T.region (go 1 0 (sQ (Qia Ty.s50 rfl (go 1 0 ?_))))))))))
 refine sQ (Qia Ty.s50 rfl (go 1 0 (RS.nil (T.ci h rfl (fun hb_1 h=>?_) (fun hb_1 h=>?_)))))
 ·refine T.seq (T.region (go 1 0 (RS.nil ?_)))
  cases h
  exact tD
 refine T.skip (T.seq (T.seq (T.region (go 1 0 (sQ (Qia Ty.s50 rfl (go 1 0 (RS.nil (T.block (T.iter (fun ss_6:Int=>mkA 32 [(1,sL Qla p1),(2,.func 60 []),(15,sL Qla p0),(16,iI ((p0).length:Int)),(17,iI ss_6)]) (fun ss_6=>[]) h (wk [] [] 0 rfl) (fun ss_6 v_7 h hv_7=>?_)))))))))))
 revert hv_7 h;revert ss_6;intro s1 h hv_7
 replace h:Q8a p0 p1 s1=some v_7:=h
 try dsimp only
 unfold Q8a at h
 refine T.seq (T.region (go 1 0 (RS.nil (T.seq (T.ci h rfl (fun hb_8 h=>?_) (fun hb_8 h=>?_))))))
 ·refine T.skip (T.seq (T.block (T.seq ?_)))
  obtain ⟨x3,hx3,h⟩:=bind_some h
  refine T.region (go 1 0 (sQ (Qka Ty.s50 (fun _=>rfl) rfl rfl hx3 (go 4 0 (RS.nil (T.seq ?_))))))
  obtain ⟨x5,hx5,h⟩:=bind_some h
  refine T.region (go 2 1 (sQ (Qka Ty.s50 (fun _=>rfl) rfl rfl hx5 (go 3 1 (RS.nil (T.seq ?_))))))
  obtain ⟨x7,hx7,h⟩:=bind_some h
  refine T.region (go 3 2 (sO (cF (Jzc x3 x5 x7 hx7) ⟨rfl,(go 1 2 (RS.nil (T.ci h rfl (fun hb_9 h=>?_) (fun hb_9 h=>?_))))⟩)))
  ·refine T.seq (T.region (go 1 2 (RS.nil ?_)))
   obtain ⟨w_10,h,hw_10⟩:=Qpa h
   replace h:=h.trans (congrArg some (hv_7 _ hw_10))
   cases h
   exact tD
  refine T.skip (T.region (go 2 2 (RS.nil ?_)))
  exact ⟨IntKind.i64.wrap (s1+1),(Option.some.inj h).symm,wk [] [] 2 rfl⟩
 refine T.exit ?_
 obtain ⟨w_11,h,hw_11⟩:=Qpa h
 replace h:=h.trans (congrArg some (hv_7 _ hw_11))
 refine T.seq (T.region (go 1 0 (RS.nil ?_)))
 cases h
 exact tD
theorem Jwc (p0:List Choice) (p1:List Choice) (r:Bool) (h:Y3a p0 p1=some r):Fn Tryz.prog 61 [sL Qta p0,sL Qta p1] (.bool r):=by
 unfold Y3a at h
 refine fnT 0 Tryz.func61 Tryz.ntmps61 ?_
 refine T.seq (T.region (go 1 0 (RS.nil (T.seq (T.seq (T.region (go 1 0 (sQ (Qia Ty.s51 rfl (go 1 0 ?_))))))))))
 refine sQ (Qia Ty.s51 rfl (go 1 0 (RS.nil (T.ci h rfl (fun hb_1 h=>?_) (fun hb_1 h=>?_)))))
 ·refine T.seq (T.region (go 1 0 (RS.nil ?_)))
  cases h
  exact tD
 refine T.skip (T.seq (T.seq (T.region (go 1 0 (sQ (Qia Ty.s51 rfl (go 1 0 (RS.nil (T.block (T.iter (fun ss_6:Int=>mkA 26 [(0,sL Qta p0),(1,sL Qta p1),(12,iI ((p0).length:Int)),(13,iI ss_6)]) (fun ss_6=>[]) h (wk [] [] 0 rfl) (fun ss_6 v_7 h hv_7=>?_)))))))))))
 revert hv_7 h;revert ss_6;intro s1 h hv_7
 replace h:V3a p0 p1 s1=some v_7:=h
 try dsimp only
 unfold V3a at h
 refine T.seq (T.region (go 1 0 (RS.nil (T.seq (T.ci h rfl (fun hb_8 h=>?_) (fun hb_8 h=>?_))))))
 ·refine T.skip (T.seq (T.block (T.seq (T.region (go 2 0 (RS.nil (T.seq ?_)))))))
  obtain ⟨x4,hx4,h⟩:=bind_some h
  obtain ⟨x5,hx5,h⟩:=bind_some h
  refine T.drawn mixed (k:=9) rfl (rq [0,1] 7 (r0 2 rfl (Qka Ty.s51 (fun _=>rfl) rfl rfl hx4 (rq [4,5] 4 (r0 6 rfl (Qka Ty.s51 (fun _=>rfl) rfl rfl hx5 (rL [3,8] 3 rfl (ra1 7 (og 0 ⟨rfl,(r0 8 rfl (Yle (cs:=[iI x4.Node,iI x4.Lane]) (ds:=[iI x5.Node,iI x5.Lane]) (r:=x4==x5) Ty.q94 rfl rfl rfl rfl (Vpd x4 x5) (RA.done (by decide +kernel) ?_)))⟩)))))))))
  refine T.ci h rfl (fun hb_9 h=>?_) (fun hb_9 h=>?_)
  ·refine T.seq (T.region (go 1 0 (RS.nil ?_)))
   obtain ⟨w_10,h,hw_10⟩:=Qpa h
   replace h:=h.trans (congrArg some (hv_7 _ hw_10))
   cases h
   exact tD
  refine T.skip (T.region (go 2 0 (RS.nil ?_)))
  exact ⟨IntKind.i64.wrap (s1+1),(Option.some.inj h).symm,wk [] [] 0 rfl⟩
 refine T.exit ?_
 obtain ⟨w_11,h,hw_11⟩:=Qpa h
 replace h:=h.trans (congrArg some (hv_7 _ hw_11))
 refine T.seq (T.region (go 1 0 (RS.nil ?_)))
 cases h
 exact tD
theorem Zcb (p0:State) (p1:State) (r:Bool) (h:Vva p0 p1=some r):Fn Tryz.prog 22 [.agg (Q2a p0),.agg (Q2a p1)] (.bool r):=by
 unfold Vva at h
 refine fnT 0 Tryz.func22 Tryz.ntmps22 ?_
 refine T.seq (T.region (go 3 0 (RS.nil ?_)))
 obtain ⟨x1,hx1,h⟩:=bind_some h
 obtain ⟨zt_5,hz,h⟩:=bind_some h
 revert hz h;revert zt_5;intro c6 hz h
 refine T.join (Z:=Unit) (fun _=>mkA 38 [(4,.bool c6)]) (fun _=>[]) (fun _=>True) (fun _ _=>?_) (fun hK=>?_)
 ·cases h
  exact tD
 refine T.region (go 4 2 (sO (cF (Vic p0.At p1.At x1 hx1) ⟨rfl,(go 1 2 ?_)⟩)))
 rcases Qga x1 with hb_1 | hb_1
 ·replace hz:=ite_T hz hb_1
  obtain ⟨x2,hx2,hz⟩:=bind_some hz
  refine yg 2 hb_1 (yg 2 hb_1 (yg 2 hb_1 (yg 2 hb_1 (yO hb_1 (cF (V1a p0.Rings p1.Rings x2 hx2) ⟨rfl,(sQ (Qna (v:=.bool x2) rfl hb_1 rfl (go 1 2 ?_)))⟩)))))
  rcases Qga x2 with hb_2 | hb_2
  ·replace hz:=ite_T hz hb_2
   obtain ⟨x3,hx3,hz⟩:=bind_some hz
   refine yg 2 hb_2 (yg 2 hb_2 (yg 2 hb_2 (yg 2 hb_2 (yO hb_2 (cF (Vwa p0.Memory p1.Memory x3 hx3) ⟨rfl,(sQ (Qna (v:=.bool x3) rfl hb_2 rfl (go 1 2 ?_)))⟩)))))
   rcases Qga x3 with hb_3 | hb_3
   ·replace hz:=ite_T hz hb_3
    obtain ⟨x4,hx4,hz⟩:=bind_some hz
    refine yg 2 hb_3 (yg 2 hb_3 (yg 2 hb_3 (yg 2 hb_3 (yO hb_3 (cF (Jwc p0.Choices p1.Choices x4 hx4) ⟨rfl,(sQ (Qna (v:=.bool x4) rfl hb_3 rfl (go 1 2 ?_)))⟩)))))
    rcases Qga x4 with hb_4 | hb_4
    ·replace hz:=ite_T hz hb_4
     obtain ⟨x5,hx5,hz⟩:=bind_some hz
     refine yg 2 hb_4 (yg 2 hb_4 (yg 2 hb_4 (yg 2 hb_4 (yO hb_4 (cF (V4b p0.Out p1.Out x5 hx5) ⟨rfl,(sQ (Qna (v:=.bool x5) rfl hb_4 rfl (go 1 2 (RS.nil ?_))))⟩)))))
     exact T.weakR (hK () trivial) (Weak.mkN [] [] (by decide) (Qma _) rfl ⟨Jca ((congrArg (fun p=>p) (Option.some.inj hz)).symm),trivial⟩ (Qfa))
    replace hz:=ite_F hz hb_4
    refine sN hb_4 (sN hb_4 (sN hb_4 (sN hb_4 (sN hb_4 (sQ (Qha (v:=.bool false) rfl hb_4 rfl (go 1 2 (RS.nil ?_))))))))
    exact T.weakR (hK () trivial) (Weak.mkN [] [] (by decide) (Qma _) rfl ⟨Jca ((congrArg (fun p=>p) (Option.some.inj hz)).symm),trivial⟩ (Qfa))
   replace hz:=ite_F hz hb_3
   refine sN hb_3 (sN hb_3 (sN hb_3 (sN hb_3 (sN hb_3 (sQ (Qha (v:=.bool false) rfl hb_3 rfl (go 1 2 (sN rfl (sN rfl (sN rfl ?_))))))))))
   refine sN rfl (sN rfl (sQ (Qha (v:=.bool false) rfl rfl rfl (go 1 2 (RS.nil ?_)))))
   exact T.weakR (hK () trivial) (Weak.mkN [] [] (by decide) (Qma _) rfl ⟨Jca ((congrArg (fun p=>p) (Option.some.inj hz)).symm),trivial⟩ (Qfa))
  replace hz:=ite_F hz hb_2
  refine sN hb_2 (sN hb_2 (sN hb_2 (sN hb_2 (sN hb_2 (sQ (Qha (v:=.bool false) rfl hb_2 rfl (go 1 2 (sN rfl (sN rfl (sN rfl ?_))))))))))
  refine sN rfl (sN rfl (sQ (Qha (v:=.bool false) rfl rfl rfl (go 1 2 (sN rfl (sN rfl (sN rfl (sN rfl (sN rfl (sQ (Qha (v:=.bool false) rfl rfl rfl ?_)))))))))))
  refine go 1 2 (RS.nil ?_)
  exact T.weakR (hK () trivial) (Weak.mkN [] [] (by decide) (Qma _) rfl ⟨Jca ((congrArg (fun p=>p) (Option.some.inj hz)).symm),trivial⟩ (Qfa))
 replace hz:=ite_F hz hb_1
 refine sN hb_1 (sN hb_1 (sN hb_1 (sN hb_1 (sN hb_1 (sQ (Qha (v:=.bool false) rfl hb_1 rfl (go 1 2 (sN rfl (sN rfl (sN rfl ?_))))))))))
 refine sN rfl (sN rfl (sQ (Qha (v:=.bool false) rfl rfl rfl (go 1 2 (sN rfl (sN rfl (sN rfl (sN rfl (sN rfl (sQ (Qha (v:=.bool false) rfl rfl rfl ?_)))))))))))
 refine go 1 2 (sN rfl (sN rfl (sN rfl (sN rfl (sN rfl (sQ (Qha (v:=.bool false) rfl rfl rfl (go 1 2 (RS.nil ?_)))))))))
 exact T.weakR (hK () trivial) (Weak.mkN [] [] (by decide) (Qma _) rfl ⟨Jca ((congrArg (fun p=>p) (Option.some.inj hz)).symm),trivial⟩ (Qfa))
theorem Ylc (r:Bool) (h:Zfb=some r):Fn Tryz.prog 8 [] (.bool r):=by
 unfold Zfb at h
 refine fnT 0 Tryz.func8 Tryz.ntmps8 ?_
 refine T.seq (T.region (go 1 0 (RS.nil (T.seq ?_))))
 obtain ⟨x6,hx6,h⟩:=bind_some h
 obtain ⟨x7,hx7,h⟩:=bind_some h
 obtain ⟨x10,hx10,h⟩:=bind_some h
 refine T.region (sO (cD (Jcb x6 hx6) ⟨rfl,(sO (cQ 0 (Vnb x7 hx7) ⟨rfl,(sO (Q9a (rows:=List.map encI [0,0,0]) (vs:=[iI 0,iI 0,iI 0]) Ty.s49 Ty.z3 rfl rfl rfl rfl rfl rfl (RS.fC 0 (RS.fC 1 (sO (cD (Qfe x6 x7 ([0,0,0]:List Int) x10 hx10) ⟨rfl,(go 6 2 (RS.nil (T.seq ?_)))⟩))))))⟩))⟩))
 obtain ⟨x14,hx14,h⟩:=bind_some h
 obtain ⟨x15,hx15,h⟩:=bind_some h
 obtain ⟨x16,hx16,h⟩:=bind_some h
 refine T.drawn mixed (k:=9) rfl ?_
 apply RA.jn 6 #[true,true,true,false,false,false,false,false,false];intro hS1
 apply RA.jn 7 #[true,false,true,false,false,false,false,false,false];intro hS2
 ·refine ra2 0 2 ?_ ?_
  ·refine oO rfl (cD (Jcb x14 hx14) ⟨rfl,(ra2 1 2 ?_ ?_)⟩)
   ·refine oO rfl (cQ 3 (Vnb x15 hx15) ⟨rfl,(ra1 2 (og 4 ⟨rfl,?_⟩))⟩)
    exact raE hS1
   ·refine og 3 ⟨rfl,?_⟩
    exact raE hS2
  ·refine og 3 ⟨rfl,(ra1 0 (oO rfl (cD (Jcb x14 hx14) ⟨rfl,?_⟩)))⟩
   exact raT hS2
 ·refine ra1 1 (oO rfl (cQ 3 (Vnb x15 hx15) ⟨rfl,?_⟩))
  exact raT hS1
 refine ra1 3 (oO rfl (cF (Y1b x14 x15 x10.1 x16 hx16) ⟨rfl,(rq [4,5,6,7,8] 0 (RA.done (by decide +kernel) (T.seq ?_)))⟩))
 obtain ⟨x21,hx21,h⟩:=bind_some h
 obtain ⟨x22,hx22,h⟩:=bind_some h
 obtain ⟨x24,hx24,h⟩:=bind_some h
 refine T.region (sO (cD (Jcb x21 hx21) ⟨rfl,(sO (cQ 4 (Vnb x22 hx22) ⟨rfl,(go 1 5 (RS.fC 4 (sO (cD (Y6c x21 x22 x16.1 x24 hx24) ⟨rfl,(go 6 5 (RS.nil (T.seq ?_)))⟩))))⟩))⟩))
 obtain ⟨x26,hx26,h⟩:=bind_some h
 refine T.region (go 1 6 (sO (cD (Z2e (⟨[],[]⟩:Disk) (1:Int) (7:Int) ([97,98,99]:List UInt8) x26 hx26) ⟨rfl,(go 6 6 (RS.nil (T.seq ?_)))⟩)))
 obtain ⟨x28,hx28,h⟩:=bind_some h
 refine T.region (go 1 7 (sO (cD (Ygd x26.1 x28 hx28) ⟨rfl,(go 5 7 (RS.nil (T.seq ?_)))⟩)))
 obtain ⟨x30,hx30,h⟩:=bind_some h
 refine T.region (go 1 7 (sO (cF (Z7e x28.1 (1:Int) x30 hx30) ⟨rfl,(go 7 7 (RS.nil ?_))⟩)))
 obtain ⟨zt_12,hz,h⟩:=bind_some h
 revert hz h;revert zt_12;intro c32 hz h
 refine T.join (Z:=Unit) (fun _=>mkA 91 [(0,.bool c32)]) (fun _=>[]) (fun _=>True) (fun _ _=>?_) (fun hK=>?_)
 ·cases h
  exact tD
 refine T.region (go 3 7 ?_)
 rcases Qga (x16.2==0) with hb_3 | hb_3
 ·replace hz:=ite_T hz hb_3
  refine yg 7 hb_3 (yg 7 hb_3 (sQ (Qna (v:=.bool (x24.2==0)) rfl hb_3 rfl (go 1 7 ?_))))
  rcases Qga (x24.2==0) with hb_4 | hb_4
  ·replace hz:=ite_T hz hb_4
   refine yg 7 hb_4 (yg 7 hb_4 (sQ (Qna (v:=.bool (x26.2==0)) rfl hb_4 rfl (go 1 7 ?_))))
   rcases Qga (x26.2==0) with hb_5 | hb_5
   ·replace hz:=ite_T hz hb_5
    refine yg 7 hb_5 (yg 7 hb_5 (sQ (Qna (v:=.bool (x28.2==0)) rfl hb_5 rfl (go 1 7 ?_))))
    rcases Qga (x28.2==0) with hb_6 | hb_6
    ·replace hz:=ite_T hz hb_6
     refine yg 7 hb_6 (yg 7 hb_6 (sQ (Qna (v:=.bool (x30.2.2==0)) rfl hb_6 rfl (go 1 7 ?_))))
     rcases Qga (x30.2.2==0) with hb_7 | hb_7
     ·replace hz:=ite_T hz hb_7
      refine yg 7 hb_7 (yg 7 hb_7 (sQ (Qna (v:=.bool (!(x16.1==[]))) rfl hb_7 rfl (go 1 7 ?_))))
      rcases Qga (!(x16.1==[])) with hb_8 | hb_8
      ·replace hz:=ite_T hz hb_8
       obtain ⟨x31,hx31,hz⟩:=bind_some hz
       refine yg 7 hb_8 (yg 7 hb_8 (yO hb_8 (cF (Zcb x10.1 x24.1 x31 hx31) ⟨rfl,(sQ (Qna (v:=.bool x31) rfl hb_8 rfl (go 1 7 ?_)))⟩)))
       rcases Qga x31 with hb_9 | hb_9
       ·replace hz:=ite_T hz hb_9
        refine yg 7 hb_9 (yg 7 hb_9 (yQ hb_9 (Qia Ty.s51 rfl (yg 7 hb_9 (sQ (Qna (v:=.bool (((x10.1.Choices).length:Int)==1)) rfl hb_9 rfl (go 1 7 ?_)))))))
        rcases Qga (((x10.1.Choices).length:Int)==1) with hb_10 | hb_10
        ·replace hz:=ite_T hz hb_10
         refine yg 7 hb_10 (yg 7 hb_10 (sQ (Qna (v:=.bool (x30.1==[97,98,99])) rfl hb_10 rfl (go 1 7 ?_))))
         rcases Qga (x30.1==[97,98,99]) with hb_11 | hb_11
         ·replace hz:=ite_T hz hb_11
          refine yg 7 hb_11 (yg 7 hb_11 (sQ (Qna (v:=.bool (x30.2.1==7)) rfl hb_11 rfl (go 1 7 (RS.nil ?_)))))
          exact T.weakR (hK () trivial) (Weak.mkN [] [] (by decide) (Qma _) rfl ⟨Jca ((congrArg (fun p=>p) (Option.some.inj hz)).symm),trivial⟩ (Qfa))
         replace hz:=ite_F hz hb_11
         refine sN hb_11 (sN hb_11 (sQ (Qha (v:=.bool false) rfl hb_11 rfl (go 1 7 (RS.nil ?_)))))
         exact T.weakR (hK () trivial) (Weak.mkN [] [] (by decide) (Qma _) rfl ⟨Jca ((congrArg (fun p=>p) (Option.some.inj hz)).symm),trivial⟩ (Qfa))
        replace hz:=ite_F hz hb_10
        refine sN hb_10 (sN hb_10 (sQ (Qha (v:=.bool false) rfl hb_10 rfl (go 1 7 (sN rfl (sN rfl (sQ (Qha (v:=.bool false) rfl rfl rfl (go 1 7 (RS.nil ?_))))))))))
        exact T.weakR (hK () trivial) (Weak.mkN [] [] (by decide) (Qma _) rfl ⟨Jca ((congrArg (fun p=>p) (Option.some.inj hz)).symm),trivial⟩ (Qfa))
       replace hz:=ite_F hz hb_9
       refine sN hb_9 (sN hb_9 (sN hb_9 (sN hb_9 (sQ (Qha (v:=.bool false) rfl hb_9 rfl (go 1 7 (sN rfl (sN rfl (sQ (Qha (v:=.bool false) rfl rfl rfl (go 1 7 ?_)))))))))))
       refine sN rfl (sN rfl (sQ (Qha (v:=.bool false) rfl rfl rfl (go 1 7 (RS.nil ?_)))))
       exact T.weakR (hK () trivial) (Weak.mkN [] [] (by decide) (Qma _) rfl ⟨Jca ((congrArg (fun p=>p) (Option.some.inj hz)).symm),trivial⟩ (Qfa))
      replace hz:=ite_F hz hb_8
      refine sN hb_8 (sN hb_8 (sN hb_8 (sQ (Qha (v:=.bool false) rfl hb_8 rfl (go 1 7 (sN rfl (sN rfl (sN rfl (sN rfl (sQ (Qha (v:=.bool false) rfl rfl rfl ?_)))))))))))
      refine go 1 7 (sN rfl (sN rfl (sQ (Qha (v:=.bool false) rfl rfl rfl (go 1 7 (sN rfl (sN rfl (sQ (Qha (v:=.bool false) rfl rfl rfl (go 1 7 (RS.nil ?_)))))))))))
      exact T.weakR (hK () trivial) (Weak.mkN [] [] (by decide) (Qma _) rfl ⟨Jca ((congrArg (fun p=>p) (Option.some.inj hz)).symm),trivial⟩ (Qfa))
     replace hz:=ite_F hz hb_7
     refine sN hb_7 (sN hb_7 (sQ (Qha (v:=.bool false) rfl hb_7 rfl (go 1 7 (sN rfl (sN rfl (sN rfl (sQ (Qha (v:=.bool false) rfl rfl rfl (go 1 7 (sN rfl ?_)))))))))))
     refine sN rfl (sN rfl (sN rfl (sQ (Qha (v:=.bool false) rfl rfl rfl (go 1 7 (sN rfl (sN rfl (sQ (Qha (v:=.bool false) rfl rfl rfl (go 1 7 (sN rfl ?_)))))))))))
     refine sN rfl (sQ (Qha (v:=.bool false) rfl rfl rfl (go 1 7 (RS.nil ?_))))
     exact T.weakR (hK () trivial) (Weak.mkN [] [] (by decide) (Qma _) rfl ⟨Jca ((congrArg (fun p=>p) (Option.some.inj hz)).symm),trivial⟩ (Qfa))
    replace hz:=ite_F hz hb_6
    refine sN hb_6 (sN hb_6 (sQ (Qha (v:=.bool false) rfl hb_6 rfl (go 1 7 (sN rfl (sN rfl (sQ (Qha (v:=.bool false) rfl rfl rfl (go 1 7 (sN rfl (sN rfl ?_)))))))))))
    refine sN rfl (sQ (Qha (v:=.bool false) rfl rfl rfl (go 1 7 (sN rfl (sN rfl (sN rfl (sN rfl (sQ (Qha (v:=.bool false) rfl rfl rfl (go 1 7 (sN rfl ?_)))))))))))
    refine sN rfl (sQ (Qha (v:=.bool false) rfl rfl rfl (go 1 7 (sN rfl (sN rfl (sQ (Qha (v:=.bool false) rfl rfl rfl (go 1 7 (RS.nil ?_)))))))))
    exact T.weakR (hK () trivial) (Weak.mkN [] [] (by decide) (Qma _) rfl ⟨Jca ((congrArg (fun p=>p) (Option.some.inj hz)).symm),trivial⟩ (Qfa))
   replace hz:=ite_F hz hb_5
   refine sN hb_5 (sN hb_5 (sQ (Qha (v:=.bool false) rfl hb_5 rfl (go 1 7 (sN rfl (sN rfl (sQ (Qha (v:=.bool false) rfl rfl rfl (go 1 7 (sN rfl (sN rfl ?_)))))))))))
   refine sQ (Qha (v:=.bool false) rfl rfl rfl (go 1 7 (sN rfl (sN rfl (sN rfl (sQ (Qha (v:=.bool false) rfl rfl rfl (go 1 7 (sN rfl (sN rfl (sN rfl ?_)))))))))))
   refine sN rfl (sQ (Qha (v:=.bool false) rfl rfl rfl (go 1 7 (sN rfl (sN rfl (sQ (Qha (v:=.bool false) rfl rfl rfl (go 1 7 (sN rfl (sN rfl (sQ (Qha (v:=.bool false) rfl rfl rfl ?_))))))))))))
   refine go 1 7 (RS.nil ?_)
   exact T.weakR (hK () trivial) (Weak.mkN [] [] (by decide) (Qma _) rfl ⟨Jca ((congrArg (fun p=>p) (Option.some.inj hz)).symm),trivial⟩ (Qfa))
  replace hz:=ite_F hz hb_4
  refine sN hb_4 (sN hb_4 (sQ (Qha (v:=.bool false) rfl hb_4 rfl (go 1 7 (sN rfl (sN rfl (sQ (Qha (v:=.bool false) rfl rfl rfl (go 1 7 (sN rfl (sN rfl ?_)))))))))))
  refine sQ (Qha (v:=.bool false) rfl rfl rfl (go 1 7 (sN rfl (sN rfl (sQ (Qha (v:=.bool false) rfl rfl rfl (go 1 7 (sN rfl (sN rfl (sN rfl (sQ (Qha (v:=.bool false) rfl rfl rfl ?_))))))))))))
  refine go 1 7 (sN rfl (sN rfl (sN rfl (sN rfl (sQ (Qha (v:=.bool false) rfl rfl rfl (go 1 7 (sN rfl (sN rfl (sQ (Qha (v:=.bool false) rfl rfl rfl ?_)))))))))))
  refine go 1 7 (sN rfl (sN rfl (sQ (Qha (v:=.bool false) rfl rfl rfl (go 1 7 (RS.nil ?_))))))
  exact T.weakR (hK () trivial) (Weak.mkN [] [] (by decide) (Qma _) rfl ⟨Jca ((congrArg (fun p=>p) (Option.some.inj hz)).symm),trivial⟩ (Qfa))
 replace hz:=ite_F hz hb_3
 refine sN hb_3 (sN hb_3 (sQ (Qha (v:=.bool false) rfl hb_3 rfl (go 1 7 (sN rfl (sN rfl (sQ (Qha (v:=.bool false) rfl rfl rfl (go 1 7 (sN rfl (sN rfl ?_)))))))))))
 refine sQ (Qha (v:=.bool false) rfl rfl rfl (go 1 7 (sN rfl (sN rfl (sQ (Qha (v:=.bool false) rfl rfl rfl (go 1 7 (sN rfl (sN rfl (sQ (Qha (v:=.bool false) rfl rfl rfl (go 1 7 ?_))))))))))))
 refine sN rfl (sN rfl (sN rfl (sQ (Qha (v:=.bool false) rfl rfl rfl (go 1 7 (sN rfl (sN rfl (sN rfl (sN rfl (sQ (Qha (v:=.bool false) rfl rfl rfl ?_)))))))))))
 refine go 1 7 (sN rfl (sN rfl (sQ (Qha (v:=.bool false) rfl rfl rfl (go 1 7 (sN rfl (sN rfl (sQ (Qha (v:=.bool false) rfl rfl rfl (go 1 7 (RS.nil ?_)))))))))))
 exact T.weakR (hK () trivial) (Weak.mkN [] [] (by decide) (Qma _) rfl ⟨Jca ((congrArg (fun p=>p) (Option.some.inj hz)).symm),trivial⟩ (Qfa))
end Go.Proofs.YtchmpaaofmihcaaGreat
namespace Go.Proofs.YtchmpaaofmihcaaGreat
open Go.RowKit
set_option linter.unusedVariables false
set_option linter.unusedSimpArgs false
set_option maxRecDepth 100000
set_option maxHeartbeats 4000000
set_option synthInstance.maxSize 100000
set_option synthInstance.maxHeartbeats 4000000
theorem Vrb (p0:Int) (r:Bool) (h:V7a p0=some r):Fn Tryz.prog 80 [iI p0] (.bool r):=by
 unfold V7a at h
 refine fnT 0 Tryz.func80 Tryz.ntmps80 ?_
 refine T.seq (T.region (go 1 0 (RS.nil (T.seq (T.region (go 3 0 (RS.nil ?_)))))))
 cases h
 exact tD
theorem Jta (p0:Int) (r:Bool) (h:Jma p0=some r):Fn Tryz.prog 78 [iI p0] (.bool r):=by
 unfold Jma at h
 refine fnT 0 Tryz.func78 Tryz.ntmps78 ?_
 refine T.seq (T.region (go 1 0 (RS.nil (T.seq (T.region (go 3 0 (RS.nil ?_)))))))
 cases h
 exact tD
theorem Jgb (p0:Int) (r:Bool) (h:Vja p0=some r):Fn Tryz.prog 79 [iI p0] (.bool r):=by
 unfold Vja at h
 refine fnT 0 Tryz.func79 Tryz.ntmps79 ?_
 refine T.seq (T.region (go 1 0 (RS.nil (T.seq (T.region (go 3 0 (RS.nil ?_)))))))
 cases h
 exact tD
theorem Vac (p0:List Int) (p1:Int) (r:Int) (h:Zhb p0 p1=some r):Fn Tryz.prog 95 [sL encI p0,iI p1] (iI r):=by
 unfold Zhb at h
 refine fnT 0 Tryz.func95 Tryz.ntmps95 ?_
 refine T.seq (T.region (go 1 0 (RS.nil (T.seq (T.seq (T.region (go 1 0 (sQ (Qia Ty.s49 rfl (go 1 0 ?_))))))))))
 refine RS.nil (T.block (T.iter (fun ss_5:Int=>mkA 19 [(0,sL encI p0),(1,iI p1),(7,iI ((p0).length:Int)),(8,iI ss_5)]) (fun ss_5=>[]) h (wk [] [] 0 rfl) (fun ss_5 v_6 h hv_6=>?_)))
 revert hv_6 h;revert ss_5;intro s1 h hv_6
 replace h:V9a p0 p1 s1=some v_6:=h
 try dsimp only
 unfold V9a at h
 refine T.seq (T.region (go 1 0 (RS.nil (T.seq (T.ci h rfl (fun hb_7 h=>?_) (fun hb_7 h=>?_))))))
 ·refine T.skip (T.seq (T.block (T.seq (T.region (go 2 0 (RS.nil (T.seq ?_)))))))
  obtain ⟨x3,hx3,h⟩:=bind_some h
  refine T.region (go 3 0 (sQ (Qka Ty.s49 (fun _=>rfl) rfl rfl hx3 (go 2 0 (RS.nil (T.ci h rfl (fun hb_8 h=>?_) (fun hb_8 h=>?_)))))))
  ·refine T.seq (T.region (go 2 0 (RS.nil ?_)))
   obtain ⟨w_9,h,hw_9⟩:=Qpa h
   replace h:=h.trans (congrArg some (hv_6 _ hw_9))
   cases h
   exact tD
  refine T.skip (T.region (go 2 0 (RS.nil ?_)))
  exact ⟨IntKind.i64.wrap (s1+1),(Option.some.inj h).symm,wk [] [] 0 rfl⟩
 refine T.exit ?_
 obtain ⟨w_10,h,hw_10⟩:=Qpa h
 replace h:=h.trans (congrArg some (hv_6 _ hw_10))
 refine T.seq (T.region (go 1 0 (RS.nil ?_)))
 cases h
 exact tD
theorem Vqb (p0:List Int) (p1:Int) (r:Bool) (h:V5a p0 p1=some r):Fn Tryz.prog 81 [sL encI p0,iI p1] (.bool r):=by
 unfold V5a at h
 refine fnT 0 Tryz.func81 Tryz.ntmps81 ?_
 refine T.seq (T.region (go 1 0 (RS.nil (T.seq ?_))))
 obtain ⟨x2,hx2,h⟩:=bind_some h
 refine T.region (go 2 0 (sO (cF (Vac p0 p1 x2 hx2) ⟨rfl,(go 2 0 (RS.nil ?_))⟩)))
 cases h
 exact tD
end Go.Proofs.YtchmpaaofmihcaaGreat
