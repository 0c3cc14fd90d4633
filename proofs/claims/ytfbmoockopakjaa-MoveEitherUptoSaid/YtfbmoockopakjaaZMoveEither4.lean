/-
  Part 4 of a proof: what the code computes, and the law of it; put together by a program of ours (wip/decl.py) out of texts of ours.
-/
import Derived.Test.YtfbmoockopakjaaZMoveEither3
namespace Go.Proofs.Ytfbmoockopakjaa
open Go.RowKit
set_option linter.unusedVariables false
set_option linter.unusedSimpArgs false
set_option maxRecDepth 100000
set_option maxHeartbeats 4000000
set_option maxHeartbeats 40000000 in
theorem move_do_x5aa6_c (p0:Net) (p1:List (List Item)) (p2:Move) (p3:List Int) (p4:List (List Item)) (p5:List Memory) (p6:List Choice) (p7:List Item) (r:(List Int) × (List (List Item)) × (List Memory) × (List Choice) × (List Item)) (h:Vha p0 p1 p2 p3 p4 p5 p6 p7=some r):FnX Try.prog 52 [.agg [sL Qga p0.Nodes,iI p0.Rings,iI p0.Room],sL (encL Qaa) p1,.ptr 0 0,.agg [iI p2.Node,iI p2.Lane]] [.box [.ref 1,.ref 2,.ref 3,.ref 4,.ref 5],aR 3 1 encI p3,aR 29 1 (encL Qaa) p4,aR 66 3 Qba p5,aR 94 2 Qca p6,aR 46 3 Qaa p7] (.tup []) [.box [.ref 1,.ref 2,.ref 3,.ref 6,.ref 7],aR 3 1 encI r.1,aR 29 1 (encL Qaa) r.2.1,aR 66 3 Qba r.2.2.1,.dead,.dead,aR 94 2 Qca r.2.2.2.1,aR 46 3 Qaa r.2.2.2.2]:=by
  unfold Vha at h
  refine Jpa (N:=6) rfl Try.func52 rfl (by kernel_rfl) Try.ntmps52 rfl ?_
  show T _ _ _ _ (mkA 162 [(0,.agg [sL Qga p0.Nodes,iI p0.Rings,iI p0.Room]),(1,sL (encL Qaa) p1),(2,.ptr 0 0),(3,.agg [iI p2.Node,iI p2.Lane])]) [.box [.ref 1,.ref 2,.ref 3,.ref 4,.ref 5],aR 3 1 encI p3,aR 29 1 (encL Qaa) p4,aR 66 3 Qba p5,aR 94 2 Qca p6,aR 46 3 Qaa p7]
  refine T.mvB 0 4 5 (cs:=[.ref 1,.ref 2,.ref 3,.ref 4,.ref 5]) rfl rfl rfl rfl (cs':=[.ref 1,.ref 2,.ref 3,.ref 4,.ref 6]) rfl rfl (T.mvB 0 3 4 (cs:=[.ref 1,.ref 2,.ref 3,.ref 4,.ref 6]) rfl rfl rfl rfl (cs':=[.ref 1,.ref 2,.ref 3,.ref 7,.ref 6]) rfl rfl (T.seq (T.region (so (o_box (cs:=[sL Qga p0.Nodes,iI p0.Rings,iI p0.Room]) rfl rfl rfl (so (o_box (cs:=[iI p2.Node,iI p2.Lane]) rfl rfl rfl (RS.nil (T.seq ?_)))))))))
  obtain ⟨x2,hx2,h⟩:=bind_some h
  refine T.region (sq (Qda Ty.f24_0 rfl (off':=0) rfl (so (Qea rfl rfl (Qha Ty.k22 (c:=sL Qga p0.Nodes) rfl (sq (Qda Ty.f57_0 rfl (off':=0) rfl (so (Qea rfl rfl (Qha Ty.k3 (c:=iI p2.Node) rfl (sq (Q0a Ty.s22 (fun _=>rfl) rfl rfl hx2 (so (Jaa rfl (Qna Ty.k40 Ty.c40 rfl (cs:=[iI x2.Kind,iI x2.A,sL encI x2.In,sL encI x2.Out]) rfl (so (Jja Ty.z40 rfl rfl (so (Qoa Ty.c40 Ty.i40 rfl (vs:=[iI x2.Kind,iI x2.A,sL encI x2.In,sL encI x2.Out]) rfl rfl rfl rfl (cs':=[iI x2.Kind,iI x2.A,sL encI x2.In,sL encI x2.Out]) rfl rfl (RS.nil ?_))))))))))))))))))))
  refine T.seq ?_
  obtain ⟨x4,hx4,h⟩:=bind_some h
  refine T.drawn mixed (k:=13) rfl ?_
  let l2:List (Nat × AV):=[(0,.agg [sL Qga p0.Nodes,iI p0.Rings,iI p0.Room]),(1,sL (encL Qaa) p1),(2,.ptr 0 0),(3,.agg [iI p2.Node,iI p2.Lane]),(4,.ptr 8 0),(7,.ptr 9 0),(8,.ptr 10 0),(14,.ptr 8 0),(15,sL Qga p0.Nodes),(16,.ptr 9 0),(17,iI p2.Node),(18,.elt (Qga x2) 0),(19,.agg [iI x2.Kind,iI x2.A,sL encI x2.In,sL encI x2.Out])]
  refine RA.join 2 #[true,true,true,true,true,true,true,true,true,true,true,false,false] (mkA 162 ((9,.ptr 11 0)::(20,.tup [.agg [iI x4.1.Key,iI x4.1.Val,iI x4.1.Dep],.bool x4.2])::(21,.agg [sL Qga p0.Nodes,iI p0.Rings,iI p0.Room])::(22,sL (encL Qaa) p1)::(23,.ptr 0 0)::(24,.ptr 0 0)::(25,.agg [.ref 1,.ref 2,.ref 3,.ref 7,.ref 6])::(26,.agg [iI p2.Node,iI p2.Lane])::(27,.tup [.agg [iI x4.1.Key,iI x4.1.Val,iI x4.1.Dep],.bool x4.2])::(28,.agg [iI x4.1.Key,iI x4.1.Val,iI x4.1.Dep])::(29,.bool x4.2)::l2)) [.box [.ref 1,.ref 2,.ref 3,.ref 7,.ref 6],aR 3 1 encI p3,aR 29 1 (encL Qaa) p4,aR 66 3 Qba p5,.dead,.dead,aR 46 3 Qaa p7,aR 94 2 Qca p6,.box [sL Qga p0.Nodes,iI p0.Rings,iI p0.Room],.box [iI p2.Node,iI p2.Lane],.box [iI x2.Kind,iI x2.A,sL encI x2.In,sL encI x2.Out],.box [iI 0,iI 0,iI 0]] ?_ (fun hS1=>?_)
  ·refine ra1 11 (RO.op rfl rfl (Qoa Ty.c46 Ty.i46 rfl (vs:=[iI x4.1.Key,iI x4.1.Val,iI x4.1.Dep]) rfl rfl rfl rfl (cs':=[iI x4.1.Key,iI x4.1.Val,iI x4.1.Dep]) rfl rfl (rt0 12 rfl (J0a (v:=.bool x4.2) rfl (RA.done (by decide +kernel) (T.join (Z:=(List Int) × (List (List Item))) (fun zz_23=>mkA 162 [(2,.ptr 0 0),(4,.ptr 6 0),(7,.ptr 7 0),(8,.ptr 8 0),(9,.ptr 9 0)]) (fun zz_23=>[.box [.ref 1,.ref 2,.ref 3,.ref 10,.ref 11],aR 3 1 encI zz_23.1,aR 29 1 (encL Qaa) zz_23.2,aR 66 3 Qba p5,.dead,.dead,.box [sL Qga p0.Nodes,iI p0.Rings,iI p0.Room],.box [iI p2.Node,iI p2.Lane],.box [iI x2.Kind,iI x2.A,sL encI x2.In,sL encI x2.Out],.box [iI x4.1.Key,iI x4.1.Val,iI x4.1.Dep],aR 94 2 Qca p6,aR 46 3 Qaa p7]) (fun zz_23=>Vda p0 p2 x2 x4 p5 p6 p7 zz_23.1 zz_23.2=some r) (fun zz_23 h=>?_) (fun hK4=>?_)))))))
   ·obtain ⟨z16,z17⟩:=zz_23
    replace h:Vda p0 p2 x2 x4 p5 p6 p7 z16 z17=some r:=h
    try dsimp only
    unfold Vda at h
    refine T.seq ?_
    obtain ⟨x19,hx19,h⟩:=bind_some h
    refine T.region (so (Qea rfl rfl (Qna Ty.k40 Ty.c40 rfl (cs:=[iI x2.Kind,iI x2.A,sL encI x2.In,sL encI x2.Out]) rfl (so (Qea rfl rfl (Qna Ty.k46 Ty.c46 rfl (cs:=[iI x4.1.Key,iI x4.1.Val,iI x4.1.Dep]) rfl (so (Jfa (as0:=[.agg [iI x2.Kind,iI x2.A,sL encI x2.In,sL encI x2.Out],.agg [iI x4.1.Key,iI x4.1.Val,iI x4.1.Dep]]) (as1:=[.agg [iI x2.Kind,iI x2.A,sL encI x2.In,sL encI x2.Out],.agg [iI x4.1.Key,iI x4.1.Val,iI x4.1.Dep]]) (caps:=[]) (aw1:=[.box [.ref 1,.ref 2,.ref 3,.ref 10,.ref 11],aR 3 1 encI z16,aR 29 1 (encL Qaa) z17,aR 66 3 Qba p5,.dead,.dead,.box [sL Qga p0.Nodes,iI p0.Rings,iI p0.Room],.box [iI p2.Node,iI p2.Lane],.box [iI x2.Kind,iI x2.A,sL encI x2.In,sL encI x2.Out],.box [iI x4.1.Key,iI x4.1.Val,iI x4.1.Dep],aR 94 2 Qca p6,aR 46 3 Qaa p7]) rfl rfl rfl (k_fn (v:=sL encI x19) (move_outs_c x2 x4.1 x19 hx19) (⟨Qsa _ (Qka (⟨Qfa _ _,Qfa _ _,Qia Jta _,Qia Jta _,trivial⟩)),Qsa _ (Qka (⟨Qfa _ _,Qfa _ _,Qfa _ _,trivial⟩)),trivial⟩) (Qia Jta _) (sa (sL encI x19) rfl (RS.nil (T.join (Z:=Int × (List Choice)) (fun zz_25=>mkA 162 [(2,.ptr 0 0),(4,.ptr 6 0),(7,.ptr 7 0),(8,.ptr 8 0),(9,.ptr 9 0),(11,sL encI x19)]) (fun zz_25=>[.box [.ref 1,.ref 2,.ref 3,.ref 10,.ref 11],aR 3 1 encI z16,aR 29 1 (encL Qaa) z17,aR 66 3 Qba p5,.dead,.dead,.box [sL Qga p0.Nodes,iI p0.Rings,iI p0.Room],.box [iI p2.Node,iI p2.Lane],.box [iI x2.Kind,iI x2.A,sL encI x2.In,sL encI x2.Out],.box [iI x4.1.Key,iI x4.1.Val,iI zz_25.1],aR 94 2 Qca zz_25.2,aR 46 3 Qaa p7]) (fun zz_25=>Vca p0 p2 x2 x4 p5 p7 z16 z17 x19 zz_25.1 zz_25.2=some r) (fun zz_25 h=>?_) (fun hK3=>?_)))))))))))))
    ·obtain ⟨z22,z23⟩:=zz_25
     replace h:Vca p0 p2 x2 x4 p5 p7 z16 z17 x19 z22 z23=some r:=h
     try dsimp only
     unfold Vca at h
     refine T.seq ?_
     obtain ⟨x29,hx29,h⟩:=bind_some h
     obtain ⟨x30,hx30,h⟩:=bind_some h
     obtain ⟨x31,hx31,h⟩:=bind_some h
     obtain ⟨x32,hx32,h⟩:=bind_some h
     obtain ⟨x33,hx33,h⟩:=bind_some h
     refine T.drawn mixed (k:=27) rfl ?_
     let l32:List (Nat × AV):=[(2,.ptr 0 0),(4,.ptr 6 0),(7,.ptr 7 0),(8,.ptr 8 0),(9,.ptr 9 0),(11,sL encI x19)]
     let a32:List Ob:=[.box [.ref 1,.ref 2,.ref 3,.ref 10,.ref 11],aR 3 1 encI z16,aR 29 1 (encL Qaa) z17,aR 66 3 Qba p5,.dead,.dead,.box [sL Qga p0.Nodes,iI p0.Rings,iI p0.Room],.box [iI p2.Node,iI p2.Lane],.box [iI x2.Kind,iI x2.A,sL encI x2.In,sL encI x2.Out],.box [iI x4.1.Key,iI x4.1.Val,iI z22],aR 94 2 Qca z23,aR 46 3 Qaa p7]
     refine RA.join 2 #[true,true,true,true,true,true,true,true,true,true,true,true,true,true,true,true,true,true,true,true,true,true,true,true,true,false,false] (mkA 162 ((97,.tup [.agg [iI x31.1.Sum,sL Qja x31.1.Keys,iI x31.1.Dep],.agg [iI x31.2.1.Key,iI x31.2.1.Val,iI x31.2.1.Dep],iI x31.2.2])::(98,.ptr 0 0)::(99,.ptr 0 0)::(100,.ptr 0 2)::(101,.ref 3)::(102,.ptr 7 0)::(103,iI p2.Node)::(104,.ptr 8 0)::(105,iI x2.Kind)::(106,.ptr 8 1)::(107,iI x2.A)::(108,.ptr 0 0)::(109,.ptr 0 0)::(110,.ptr 0 2)::(111,.ref 3)::(112,.ptr 7 0)::(113,iI p2.Node)::(114,.aptr 3 3 x29 0)::(115,.agg [iI x30.Sum,sL Qja x30.Keys,iI x30.Dep])::(116,.agg [iI x4.1.Key,iI x4.1.Val,iI z22])::(117,.tup [.agg [iI x31.1.Sum,sL Qja x31.1.Keys,iI x31.1.Dep],.agg [iI x31.2.1.Key,iI x31.2.1.Val,iI x31.2.1.Dep],iI x31.2.2])::(118,.agg [iI x31.1.Sum,sL Qja x31.1.Keys,iI x31.1.Dep])::(119,.agg [iI x31.2.1.Key,iI x31.2.1.Val,iI x31.2.1.Dep])::(120,iI x31.2.2)::(121,.aptr 3 3 x32 0)::l32)) a32 ?_ (fun hS26=>?_)
     ·refine ra1 25 (RO.op rfl rfl (Zya (en:=Qba) (a:=x33) (a':=x31.1) Ty.c66 Ty.i66 rfl (vs:=[iI x31.1.Sum,sL Qja x31.1.Keys,iI x31.1.Dep]) rfl rfl rfl hx33 rfl rfl rfl (ra1 26 (RO.op rfl rfl (Qoa Ty.c46 Ty.i46 rfl (vs:=[iI x31.2.1.Key,iI x31.2.1.Val,iI x31.2.1.Dep]) rfl rfl rfl rfl (cs':=[iI x31.2.1.Key,iI x31.2.1.Val,iI x31.2.1.Dep]) rfl rfl (RA.done (by decide +kernel) (T.join (Z:=List Item) (fun zz_34=>mkA 162 [(2,.ptr 0 0),(4,.ptr 6 0),(9,.ptr 7 0),(11,sL encI x19)]) (fun zz_34=>[.box [.ref 1,.ref 2,.ref 3,.ref 8,.ref 9],aR 3 1 encI z16,aR 29 1 (encL Qaa) z17,aR 66 3 Qba (List.set p5 x32 x31.1),.dead,.dead,.box [sL Qga p0.Nodes,iI p0.Rings,iI p0.Room],.box [iI x31.2.1.Key,iI x31.2.1.Val,iI x31.2.1.Dep],aR 94 2 Qca z23,aR 46 3 Qaa zz_34]) (fun zz_34=>Vsa p0 p5 z16 z17 x19 z23 x31 x32 zz_34=some r) (fun zz_34 h=>?_) (fun hK2=>?_))))))))
      ·revert h;revert zz_34;intro z35 h
       replace h:Vsa p0 p5 z16 z17 x19 z23 x31 x32 z35=some r:=h
       try dsimp only
       unfold Vsa at h
       refine T.seq (T.region (sm (sL encI x19) rfl (sq (Q3a Ty.s26 rfl (sm (iI 0) rfl (RS.nil (T.block (T.iter (fun ss_43:Int × (List (List Item))=>mkA 162 [(2,.ptr 0 0),(4,.ptr 6 0),(9,.ptr 7 0),(135,sL encI x19),(136,iI ((x19).length:Int)),(137,iI ss_43.1)]) (fun ss_43=>[.box [.ref 1,.ref 2,.ref 3,.ref 8,.ref 9],aR 3 1 encI z16,aR 29 1 (encL Qaa) ss_43.2,aR 66 3 Qba (List.set p5 x32 x31.1),.dead,.dead,.box [sL Qga p0.Nodes,iI p0.Rings,iI p0.Room],.box [iI x31.2.1.Key,iI x31.2.1.Val,iI x31.2.1.Dep],aR 94 2 Qca z23,aR 46 3 Qaa z35]) h (Weak.mkN [] [0,1,2,3,4,5,6,7,8,9] (by decide) (by decide) rfl ⟨Qua rfl,Qua rfl,Qua rfl,rn_s rfl,Qla rfl,Qla rfl,trivial⟩ (Jya (cs:=[.ref 1,.ref 2,.ref 3,.ref 8,.ref 9]) (ds:=[.ref 1,.ref 2,.ref 3,.ref 8,.ref 9]) rfl ⟨Qta rfl,Qta rfl,Qta rfl,Qta rfl,Qta rfl,trivial⟩ (rw_ar rfl rfl (rw_ar rfl rfl (rw_ar rfl rfl (Z6a rfl (Z6a rfl (rw_bs [sL Qga p0.Nodes,iI p0.Rings,iI p0.Room] rfl (rw_bs [iI x31.2.1.Key,iI x31.2.1.Val,iI x31.2.1.Dep] rfl (rw_ar rfl rfl (rw_ar rfl rfl (Qva)))))))))))) (fun ss_43 v_44 h hv_44=>?_)))))))))
       obtain ⟨s36,s37⟩:=ss_43
       replace h:Z1a p0 p5 z16 x19 z23 x31 x32 z35 s36 s37=some v_44:=h
       try dsimp only
       unfold Z1a at h
       refine T.seq (T.region (sq (v_lss rfl rfl (RS.nil (T.seq (T.cond (b:=decide (s36<((x19).length:Int))) rfl (fun hb_45=>?_) (fun hb_45=>?_)))))))
       ·replace h:=ite_T h hb_45
        refine T.skip (T.seq (T.block (T.seq ?_)))
        obtain ⟨x39,hx39,h⟩:=bind_some h
        refine T.region (sq (Q0a Ty.s26 (fun _=>rfl) rfl rfl hx39 (so (Jaa rfl (Qha Ty.k3 (c:=iI x39) rfl (sa (iI x39) rfl (RS.nil ?_)))))))
        obtain ⟨x40,hx40,h⟩:=bind_some h
        obtain ⟨x41,hx41,h⟩:=bind_some h
        obtain ⟨x42,hx42,h⟩:=bind_some h
        obtain ⟨x43,hx43,h⟩:=bind_some h
        obtain ⟨x44,hx44,h⟩:=bind_some h
        refine T.drawn mixed (k:=21) rfl ?_
        let l48:List (Nat × AV):=[(2,.ptr 0 0),(4,.ptr 6 0),(9,.ptr 7 0),(13,iI x39),(135,sL encI x19),(136,iI ((x19).length:Int)),(137,iI s36),(138,.bool (decide (s36<((x19).length:Int)))),(139,.elt (encI x39) 0),(140,iI x39)]
        let a48:List Ob:=[.box [.ref 1,.ref 2,.ref 3,.ref 8,.ref 9],aR 3 1 encI z16,aR 29 1 (encL Qaa) s37,aR 66 3 Qba (List.set p5 x32 x31.1),.dead,.dead,.box [sL Qga p0.Nodes,iI p0.Rings,iI p0.Room],.box [iI x31.2.1.Key,iI x31.2.1.Val,iI x31.2.1.Dep],aR 94 2 Qca z23,aR 46 3 Qaa z35]
        refine RA.join 1 #[true,true,true,true,true,true,true,true,true,true,true,true,true,true,true,true,true,true,true,true,false] (mkA 162 ((141,.tup [.ref 10,iI x42.2])::(142,.ptr 0 0)::(143,.ptr 0 0)::(144,.ptr 0 1)::(145,.ref 2)::(146,iI x39)::(147,.ptr 0 0)::(148,.ptr 0 0)::(149,.ptr 0 1)::(150,.ref 2)::(151,iI x39)::(152,.aptr 2 1 x40 0)::(153,sL Qaa x41)::(154,.ptr 6 2)::(155,iI p0.Room)::(156,.agg [iI x31.2.1.Key,iI x31.2.1.Val,iI x31.2.1.Dep])::(157,.tup [.ref 10,iI x42.2])::(158,.ref 10)::(159,iI x42.2)::(160,.aptr 2 1 x43 0)::l48)) [.box [.ref 1,.ref 2,.ref 3,.ref 8,.ref 9],aR 3 1 encI z16,aR 29 1 (encL Qaa) s37,aR 66 3 Qba (List.set p5 x32 x31.1),.dead,.dead,.box [sL Qga p0.Nodes,iI p0.Rings,iI p0.Room],.box [iI x31.2.1.Key,iI x31.2.1.Val,iI x31.2.1.Dep],aR 94 2 Qca z23,aR 46 3 Qaa z35,aR 46 3 Qaa x42.1] ?_ (fun hS46=>?_)
        ·refine ra1 20 (RO.fz 10 rfl rfl rfl (RO.op rfl rfl (Zya (en:=(encL Qaa)) (a:=x44) (a':=x42.1) Ty.c29 Ty.i29 rfl (vs:=[sL Qaa x42.1]) rfl rfl rfl hx44 rfl rfl rfl (RA.done (by decide +kernel) (T.region (sq (v_add rfl rfl (sm (iI (IntKind.i64.wrap (s36+1))) rfl (RS.nil ?_)))))))))
         exact ⟨(IntKind.i64.wrap (s36+1),(List.set s37 x43 x42.1)),(Option.some.inj h).symm,Weak.mkN [] [0,1,2,3,4,5,6,7,8,9] (by decide) (by decide) rfl ⟨Qua rfl,Qua rfl,Qua rfl,rn_s rfl,Qla rfl,Qla rfl,trivial⟩ (Jya (cs:=[.ref 1,.ref 2,.ref 3,.ref 8,.ref 9]) (ds:=[.ref 1,.ref 2,.ref 3,.ref 8,.ref 9]) rfl ⟨Qta rfl,Qta rfl,Qta rfl,Qta rfl,Qta rfl,trivial⟩ (rw_ar rfl rfl (rw_ar rfl rfl (rw_ar rfl rfl (Z6a rfl (Z6a rfl (rw_bs [sL Qga p0.Nodes,iI p0.Rings,iI p0.Room] rfl (rw_bs [iI x31.2.1.Key,iI x31.2.1.Val,iI x31.2.1.Dep] rfl (rw_ar rfl rfl (rw_ar rfl rfl (Qva)))))))))))⟩
        ·refine RA.join 6 #[true,true,true,true,true,true,true,true,true,true,true,true,true,true,true,false,false,false,false,false,false] (mkA 162 ((142,.ptr 0 0)::(143,.ptr 0 0)::(144,.ptr 0 1)::(145,.ref 2)::(146,iI x39)::(147,.ptr 0 0)::(148,.ptr 0 0)::(149,.ptr 0 1)::(150,.ref 2)::(151,iI x39)::(152,.aptr 2 1 x40 0)::(153,sL Qaa x41)::(154,.ptr 6 2)::(155,iI p0.Room)::(156,.agg [iI x31.2.1.Key,iI x31.2.1.Val,iI x31.2.1.Dep])::l48)) a48 ?_ (fun hS47=>?_)
         ·refine ra1 15 (RO.op rfl rfl (Jfa (as0:=[sL Qaa x41,iI p0.Room,.agg [iI x31.2.1.Key,iI x31.2.1.Val,iI x31.2.1.Dep]]) (as1:=[sL Qaa x41,iI p0.Room,.agg [iI x31.2.1.Key,iI x31.2.1.Val,iI x31.2.1.Dep]]) (caps:=[]) (aw1:=[.box [.ref 1,.ref 2,.ref 3,.ref 8,.ref 9],aR 3 1 encI z16,aR 29 1 (encL Qaa) s37,aR 66 3 Qba (List.set p5 x32 x31.1),.dead,.dead,.box [sL Qga p0.Nodes,iI p0.Rings,iI p0.Room],.box [iI x31.2.1.Key,iI x31.2.1.Val,iI x31.2.1.Dep],aR 94 2 Qca z23,aR 46 3 Qaa z35]) rfl rfl rfl (Vla (v:=.tup [.ref 0,iI x42.2]) (obs:=[aR 46 3 Qaa x42.1]) (v':=.tup [.ref 10,iI x42.2]) (ring_Put_c x41 p0.Room x31.2.1 x42 hx42) (⟨Qia Qma _,Qfa _ _,Qsa _ (Qka (⟨Qfa _ _,Qfa _ _,Qfa _ _,trivial⟩)),trivial⟩) rfl (Zha (J3a fun _=>rfl) Zua) rfl rfl (rt0 16 rfl (Qwa (v:=.tup [.ref 10,iI x42.2]) rfl (rt0 17 rfl (Qxa (v:=.ref 10) rfl rfl (rt0 18 rfl (Qxa (v:=iI x42.2) rfl rfl (rt0 19 rfl (Q5a (en:=(encL Qaa)) Ty.s25 rfl rfl rfl hx43 ?_)))))))))))
          exact raS hS46 ⟨rfl,rfl,rfl,rfl,rfl,rfl,rfl,rfl,rfl,rfl,rfl,rfl,rfl,rfl,rfl,rfl,rfl,rfl,rfl,rfl,rfl,rfl,rfl,rfl,rfl,rfl,rfl,rfl,rfl,rfl,trivial⟩
         ·refine rt0 0 rfl (Qwa (v:=.ptr 0 0) rfl (rt0 1 rfl (V3a rfl (rt0 2 rfl (Qda Ty.f31_1 rfl (off':=1) rfl (rt0 4 rfl (Qwa (v:=iI x39) rfl (rt0 5 rfl (Qwa (v:=.ptr 0 0) rfl (rt0 6 rfl (V3a rfl (rt0 7 rfl (Qda Ty.f31_1 rfl (off':=1) rfl (rt0 9 rfl (Qwa (v:=iI x39) rfl (rt0 12 rfl (Qda Ty.f24_2 rfl (off':=2) rfl (rl0 [8,10,11,15,16,17,18,19,20] 8 rfl (Q1a rfl rfl (Qha Ty.k25 (c:=.ref 2) rfl ?_))))))))))))))))))))
          refine rt0 10 rfl (Q5a (en:=(encL Qaa)) Ty.s25 rfl rfl rfl hx40 (rl0 [13,15,16,17,18,19,20] 13 rfl (Q1a rfl rfl (Qha Ty.k3 (c:=iI p0.Room) rfl (rl0 [14,15,16,17,18,19,20] 14 rfl (Q1a rfl rfl (Qna Ty.k46 Ty.c46 rfl (cs:=[iI x31.2.1.Key,iI x31.2.1.Val,iI x31.2.1.Dep]) rfl (ra2 3 11 ?_ ?_))))))))
          ·refine RO.op rfl rfl (Qea rfl rfl (Qha Ty.k25 (c:=.ref 2) rfl (ra1 11 (RO.op rfl rfl (Q6a (en:=(encL Qaa)) (a:=x41) rfl rfl hx41 (Qha Ty.k29 (c:=sL Qaa x41) rfl ?_))))))
           exact raS hS47 ⟨rfl,rfl,rfl,rfl,rfl,rfl,rfl,rfl,rfl,rfl,rfl,rfl,rfl,rfl,rfl,rfl,rfl,rfl,rfl,rfl,rfl,rfl,rfl,rfl,rfl,trivial⟩
          ·refine RO.op rfl rfl (Q6a (en:=(encL Qaa)) (a:=x41) rfl rfl hx41 (Qha Ty.k29 (c:=sL Qaa x41) rfl (ra2 3 15 ?_ ?_)))
           ·refine RO.op rfl rfl (Qea rfl rfl (Qha Ty.k25 (c:=.ref 2) rfl ?_))
            exact raS hS47 ⟨rfl,rfl,rfl,rfl,rfl,rfl,rfl,rfl,rfl,rfl,rfl,rfl,rfl,rfl,rfl,rfl,rfl,rfl,rfl,rfl,rfl,rfl,rfl,rfl,rfl,trivial⟩
           ·refine RO.op rfl rfl (Jfa (as0:=[sL Qaa x41,iI p0.Room,.agg [iI x31.2.1.Key,iI x31.2.1.Val,iI x31.2.1.Dep]]) (as1:=[sL Qaa x41,iI p0.Room,.agg [iI x31.2.1.Key,iI x31.2.1.Val,iI x31.2.1.Dep]]) (caps:=[]) (aw1:=[.box [.ref 1,.ref 2,.ref 3,.ref 8,.ref 9],aR 3 1 encI z16,aR 29 1 (encL Qaa) s37,aR 66 3 Qba (List.set p5 x32 x31.1),.dead,.dead,.box [sL Qga p0.Nodes,iI p0.Rings,iI p0.Room],.box [iI x31.2.1.Key,iI x31.2.1.Val,iI x31.2.1.Dep],aR 94 2 Qca z23,aR 46 3 Qaa z35]) rfl rfl rfl (Vla (v:=.tup [.ref 0,iI x42.2]) (obs:=[aR 46 3 Qaa x42.1]) (v':=.tup [.ref 10,iI x42.2]) (ring_Put_c x41 p0.Room x31.2.1 x42 hx42) (⟨Qia Qma _,Qfa _ _,Qsa _ (Qka (⟨Qfa _ _,Qfa _ _,Qfa _ _,trivial⟩)),trivial⟩) rfl (Zha (J3a fun _=>rfl) Zua) rfl rfl (rt0 16 rfl (Qwa (v:=.tup [.ref 10,iI x42.2]) rfl (rt0 17 rfl (Qxa (v:=.ref 10) rfl rfl (rt0 18 rfl (Qxa (v:=iI x42.2) rfl rfl (ra1 3 (RO.op rfl rfl (Qea rfl rfl (Qha Ty.k25 (c:=.ref 2) rfl (rt0 19 rfl (Q5a (en:=(encL Qaa)) Ty.s25 rfl rfl rfl hx43 ?_))))))))))))))
            exact raS hS46 ⟨rfl,rfl,rfl,rfl,rfl,rfl,rfl,rfl,rfl,rfl,rfl,rfl,rfl,rfl,rfl,rfl,rfl,rfl,rfl,rfl,rfl,rfl,rfl,rfl,rfl,rfl,rfl,rfl,rfl,rfl,trivial⟩
       replace h:=ite_F h hb_45
       refine T.exit ?_
       obtain ⟨w_49,h,hw_49⟩:=Jqa h
       replace h:=h.trans (congrArg some (hv_44 _ hw_49))
       refine exN (Qra ?_)
       exact Yra (v:=.tup []) (aw1:=[.box [.ref 1,.ref 2,.ref 3,.ref 8,.ref 9],aR 3 1 encI z16,aR 29 1 (encL Qaa) s37,aR 66 3 Qba (List.set p5 x32 x31.1),.dead,.dead,.box [sL Qga p0.Nodes,iI p0.Rings,iI p0.Room],.box [iI x31.2.1.Key,iI x31.2.1.Val,iI x31.2.1.Dep],aR 94 2 Qca z23,aR 46 3 Qaa z35]) (.tup []) [0,1,2,3,4,5,8,9] rfl (by decide) (by decide) (Z9a trivial) (Jya (cs:=[.ref 1,.ref 2,.ref 3,.ref 6,.ref 7]) (ds:=[.ref 1,.ref 2,.ref 3,.ref 8,.ref 9]) rfl ⟨Qta rfl,Qta rfl,Qta rfl,Qta rfl,Qta rfl,trivial⟩ (Jma rfl Jta (congrArg (fun r:(List Int) × (List (List Item)) × (List Memory) × (List Choice) × (List Item)=>r.1) (Option.some.inj h)).symm (Jma rfl (Jna Qma) (congrArg (fun r:(List Int) × (List (List Item)) × (List Memory) × (List Choice) × (List Item)=>r.2.1) (Option.some.inj h)).symm (Jma rfl Qya (congrArg (fun r:(List Int) × (List (List Item)) × (List Memory) × (List Choice) × (List Item)=>r.2.2.1) (Option.some.inj h)).symm (Z6a rfl (Z6a rfl (Jma rfl Q2a (congrArg (fun r:(List Int) × (List (List Item)) × (List Memory) × (List Choice) × (List Item)=>r.2.2.2.1) (Option.some.inj h)).symm (Jma rfl Qma (congrArg (fun r:(List Int) × (List (List Item)) × (List Memory) × (List Choice) × (List Item)=>r.2.2.2.2) (Option.some.inj h)).symm (Qva))))))))) ⟨rfl,rfl⟩
      refine T.seq (T.region (sq (Qda Ty.f40_0 rfl (off':=0) rfl (so (Qea rfl rfl (Qha Ty.k3 (c:=iI x2.Kind) rfl (sq (v_eql rfl rfl (RS.nil (T.cond (b:=x2.Kind==8) rfl (fun hb_50=>?_) (fun hb_50=>?_)))))))))))
      ·replace h:=ite_T h hb_50
       obtain ⟨x34,hx34,h⟩:=bind_some h
       refine T.drawn mixed (k:=11) rfl (rt0 0 rfl (Qwa (v:=.ptr 0 0) rfl (rt0 1 rfl (Qwa (v:=.ptr 0 0) rfl (rt0 2 rfl (V3a rfl (rt0 3 rfl (Qda Ty.f31_4 rfl (off':=4) rfl (rl0 [4,7,8,9,10] 4 rfl (Q1a rfl rfl (Qha Ty.k29 (c:=.ref 11) rfl (ra1 5 (RO.op rfl rfl (Qea rfl rfl (Qna Ty.k46 Ty.c46 rfl (cs:=[iI x31.2.1.Key,iI x31.2.1.Val,iI x31.2.1.Dep]) rfl (ra1 6 (RO.op rfl rfl (J2a (rows:=List.map Qaa [x31.2.1]) (vs:=[.agg [iI x31.2.1.Key,iI x31.2.1.Val,iI x31.2.1.Dep]]) Ty.s29 Ty.z46 rfl rfl rfl rfl rfl rfl ?_))))))))))))))))))
       refine ra1 7 (RO.op rfl rfl (Yxa (en:=Qaa) (xs:=p7) (ys:=([x31.2.1]:List Item)) Ty.s29 (fun _=>rfl) rfl rfl rfl hx34 rfl rfl (rt0 8 rfl (V3a rfl (rt0 9 rfl (Qda Ty.f31_4 rfl (off':=4) rfl (ra1 10 (RO.op rfl rfl (Qoa Ty.c29 Ty.i29 rfl (vs:=[.ref 13]) rfl rfl rfl rfl (cs':=[.ref 1,.ref 2,.ref 3,.ref 10,.ref 13]) rfl rfl (RA.done (by decide +kernel) ?_))))))))))
       exact T.weakR (hK2 x34 h) (Weak.mkN [] [0,1,2,3,4,5,6,9,10,13] (by decide) (by decide) rfl ⟨Qua rfl,Qua rfl,Qua rfl,rn_s rfl,trivial⟩ (Jya (cs:=[.ref 1,.ref 2,.ref 3,.ref 8,.ref 9]) (ds:=[.ref 1,.ref 2,.ref 3,.ref 10,.ref 13]) rfl ⟨Qta rfl,Qta rfl,Qta rfl,Qta rfl,Qta rfl,trivial⟩ (rw_ar rfl rfl (rw_ar rfl rfl (rw_ar rfl rfl (Z6a rfl (Z6a rfl (rw_bs [sL Qga p0.Nodes,iI p0.Rings,iI p0.Room] rfl (rw_bs [iI x31.2.1.Key,iI x31.2.1.Val,iI x31.2.1.Dep] rfl (rw_ar rfl rfl (rw_ar rfl rfl (Qva))))))))))))
      replace h:=ite_F h hb_50
      refine T.skip ?_
      exact T.weakR (hK2 p7 h) (Weak.mkN [] [0,1,2,3,4,5,6,9,10,11] (by decide) (by decide) rfl ⟨Qua rfl,Qua rfl,Qua rfl,rn_s rfl,trivial⟩ (Jya (cs:=[.ref 1,.ref 2,.ref 3,.ref 8,.ref 9]) (ds:=[.ref 1,.ref 2,.ref 3,.ref 10,.ref 11]) rfl ⟨Qta rfl,Qta rfl,Qta rfl,Qta rfl,Qta rfl,trivial⟩ (rw_ar rfl rfl (rw_ar rfl rfl (rw_ar rfl rfl (Z6a rfl (Z6a rfl (rw_bs [sL Qga p0.Nodes,iI p0.Rings,iI p0.Room] rfl (rw_bs [iI x31.2.1.Key,iI x31.2.1.Val,iI x31.2.1.Dep] rfl (rw_ar rfl rfl (rw_ar rfl rfl (Qva))))))))))))
     ·refine RA.join 4 #[true,true,true,true,true,false,true,true,true,true,true,true,true,true,true,true,true,true,true,true,true,true,true,true,false,false,false] (mkA 162 ((97,.tup [.agg [iI x31.1.Sum,sL Qja x31.1.Keys,iI x31.1.Dep],.agg [iI x31.2.1.Key,iI x31.2.1.Val,iI x31.2.1.Dep],iI x31.2.2])::(98,.ptr 0 0)::(99,.ptr 0 0)::(100,.ptr 0 2)::(101,.ref 3)::(102,.ptr 7 0)::(104,.ptr 8 0)::(105,iI x2.Kind)::(106,.ptr 8 1)::(107,iI x2.A)::(108,.ptr 0 0)::(109,.ptr 0 0)::(110,.ptr 0 2)::(111,.ref 3)::(112,.ptr 7 0)::(113,iI p2.Node)::(114,.aptr 3 3 x29 0)::(115,.agg [iI x30.Sum,sL Qja x30.Keys,iI x30.Dep])::(116,.agg [iI x4.1.Key,iI x4.1.Val,iI z22])::(117,.tup [.agg [iI x31.1.Sum,sL Qja x31.1.Keys,iI x31.1.Dep],.agg [iI x31.2.1.Key,iI x31.2.1.Val,iI x31.2.1.Dep],iI x31.2.2])::(118,.agg [iI x31.1.Sum,sL Qja x31.1.Keys,iI x31.1.Dep])::(119,.agg [iI x31.2.1.Key,iI x31.2.1.Val,iI x31.2.1.Dep])::(120,iI x31.2.2)::l32)) a32 ?_ (fun hS27=>?_)
      ·refine ra1 5 (RO.op rfl rfl (Qea rfl rfl (Qha Ty.k3 (c:=iI p2.Node) rfl (rt0 24 rfl (Q5a (en:=Qba) Ty.s27 rfl rfl rfl hx32 ?_)))))
       exact raS hS26 ⟨rfl,rfl,rfl,rfl,rfl,rfl,rfl,rfl,rfl,rfl,rfl,rfl,rfl,rfl,rfl,rfl,rfl,rfl,rfl,rfl,rfl,rfl,rfl,rfl,rfl,rfl,rfl,rfl,rfl,rfl,rfl,trivial⟩
      ·refine RA.join 8 #[true,true,true,true,true,true,true,true,true,true,true,true,true,true,true,true,true,true,true,false,false,false,false,false,false,false,false] (mkA 162 ((98,.ptr 0 0)::(99,.ptr 0 0)::(100,.ptr 0 2)::(101,.ref 3)::(102,.ptr 7 0)::(103,iI p2.Node)::(104,.ptr 8 0)::(105,iI x2.Kind)::(106,.ptr 8 1)::(107,iI x2.A)::(108,.ptr 0 0)::(109,.ptr 0 0)::(110,.ptr 0 2)::(111,.ref 3)::(112,.ptr 7 0)::(113,iI p2.Node)::(114,.aptr 3 3 x29 0)::(115,.agg [iI x30.Sum,sL Qja x30.Keys,iI x30.Dep])::(116,.agg [iI x4.1.Key,iI x4.1.Val,iI z22])::l32)) a32 ?_ (fun hS28=>?_)
       ·refine ra1 19 (RO.op rfl rfl (Jfa (as0:=[iI x2.Kind,iI x2.A,.agg [iI x30.Sum,sL Qja x30.Keys,iI x30.Dep],.agg [iI x4.1.Key,iI x4.1.Val,iI z22]]) (as1:=[iI x2.Kind,iI x2.A,.agg [iI x30.Sum,sL Qja x30.Keys,iI x30.Dep],.agg [iI ((⟨x4.1.Key,x4.1.Val,z22⟩:Item).Key),iI ((⟨x4.1.Key,x4.1.Val,z22⟩:Item).Val),iI ((⟨x4.1.Key,x4.1.Val,z22⟩:Item).Dep)]]) (caps:=[]) (aw1:=[.box [.ref 1,.ref 2,.ref 3,.ref 10,.ref 11],aR 3 1 encI z16,aR 29 1 (encL Qaa) z17,aR 66 3 Qba p5,.dead,.dead,.box [sL Qga p0.Nodes,iI p0.Rings,iI p0.Room],.box [iI p2.Node,iI p2.Lane],.box [iI x2.Kind,iI x2.A,sL encI x2.In,sL encI x2.Out],.box [iI x4.1.Key,iI x4.1.Val,iI z22],aR 94 2 Qca z23,aR 46 3 Qaa p7]) rfl rfl rfl (k_fn (v:=.tup [.agg [iI x31.1.Sum,sL Qja x31.1.Keys,iI x31.1.Dep],.agg [iI x31.2.1.Key,iI x31.2.1.Val,iI x31.2.1.Dep],iI x31.2.2]) (Yba x2.Kind x2.A x30 (⟨x4.1.Key,x4.1.Val,z22⟩:Item) x31 hx31) (⟨Qfa _ _,Qfa _ _,Qsa _ (Qka (⟨Qfa _ _,Qia Jba _,Qfa _ _,trivial⟩)),Qsa _ (Qka (⟨Qfa _ _,Qfa _ _,Qfa _ _,trivial⟩)),trivial⟩) (Joa _ (Qka (⟨Qsa _ (Qka (⟨Qfa _ _,Qia Jba _,Qfa _ _,trivial⟩)),Qsa _ (Qka (⟨Qfa _ _,Qfa _ _,Qfa _ _,trivial⟩)),Qfa _ _,trivial⟩))) (rt0 20 rfl (Qwa (v:=.tup [.agg [iI x31.1.Sum,sL Qja x31.1.Keys,iI x31.1.Dep],.agg [iI x31.2.1.Key,iI x31.2.1.Val,iI x31.2.1.Dep],iI x31.2.2]) rfl (rt0 21 rfl (Qxa (v:=.agg [iI x31.1.Sum,sL Qja x31.1.Keys,iI x31.1.Dep]) rfl rfl (rt0 22 rfl (Qxa (v:=.agg [iI x31.2.1.Key,iI x31.2.1.Val,iI x31.2.1.Dep]) rfl rfl (rt0 23 rfl (Qxa (v:=iI x31.2.2) rfl rfl (rt0 24 rfl (Q5a (en:=Qba) Ty.s27 rfl rfl rfl hx32 ?_)))))))))))))
        exact raS hS26 ⟨rfl,rfl,rfl,rfl,rfl,rfl,rfl,rfl,rfl,rfl,rfl,rfl,rfl,rfl,rfl,rfl,rfl,rfl,rfl,rfl,rfl,rfl,rfl,rfl,rfl,rfl,rfl,rfl,rfl,rfl,rfl,trivial⟩
       ·refine RA.join 9 #[true,true,true,true,true,false,true,true,true,true,true,true,true,true,true,true,true,true,true,false,false,false,false,false,false,false,false] (mkA 162 ((98,.ptr 0 0)::(99,.ptr 0 0)::(100,.ptr 0 2)::(101,.ref 3)::(102,.ptr 7 0)::(104,.ptr 8 0)::(105,iI x2.Kind)::(106,.ptr 8 1)::(107,iI x2.A)::(108,.ptr 0 0)::(109,.ptr 0 0)::(110,.ptr 0 2)::(111,.ref 3)::(112,.ptr 7 0)::(113,iI p2.Node)::(114,.aptr 3 3 x29 0)::(115,.agg [iI x30.Sum,sL Qja x30.Keys,iI x30.Dep])::(116,.agg [iI x4.1.Key,iI x4.1.Val,iI z22])::l32)) a32 ?_ (fun hS29=>?_)
        ·refine ra2 5 19 ?_ ?_
         ·refine RO.op rfl rfl (Qea rfl rfl (Qha Ty.k3 (c:=iI p2.Node) rfl ?_))
          exact raS hS28 ⟨rfl,rfl,rfl,rfl,rfl,rfl,rfl,rfl,rfl,rfl,rfl,rfl,rfl,rfl,rfl,rfl,rfl,rfl,rfl,rfl,rfl,rfl,rfl,rfl,rfl,trivial⟩
         ·refine RO.op rfl rfl (Jfa (as0:=[iI x2.Kind,iI x2.A,.agg [iI x30.Sum,sL Qja x30.Keys,iI x30.Dep],.agg [iI x4.1.Key,iI x4.1.Val,iI z22]]) (as1:=[iI x2.Kind,iI x2.A,.agg [iI x30.Sum,sL Qja x30.Keys,iI x30.Dep],.agg [iI ((⟨x4.1.Key,x4.1.Val,z22⟩:Item).Key),iI ((⟨x4.1.Key,x4.1.Val,z22⟩:Item).Val),iI ((⟨x4.1.Key,x4.1.Val,z22⟩:Item).Dep)]]) (caps:=[]) (aw1:=[.box [.ref 1,.ref 2,.ref 3,.ref 10,.ref 11],aR 3 1 encI z16,aR 29 1 (encL Qaa) z17,aR 66 3 Qba p5,.dead,.dead,.box [sL Qga p0.Nodes,iI p0.Rings,iI p0.Room],.box [iI p2.Node,iI p2.Lane],.box [iI x2.Kind,iI x2.A,sL encI x2.In,sL encI x2.Out],.box [iI x4.1.Key,iI x4.1.Val,iI z22],aR 94 2 Qca z23,aR 46 3 Qaa p7]) rfl rfl rfl (k_fn (v:=.tup [.agg [iI x31.1.Sum,sL Qja x31.1.Keys,iI x31.1.Dep],.agg [iI x31.2.1.Key,iI x31.2.1.Val,iI x31.2.1.Dep],iI x31.2.2]) (Yba x2.Kind x2.A x30 (⟨x4.1.Key,x4.1.Val,z22⟩:Item) x31 hx31) (⟨Qfa _ _,Qfa _ _,Qsa _ (Qka (⟨Qfa _ _,Qia Jba _,Qfa _ _,trivial⟩)),Qsa _ (Qka (⟨Qfa _ _,Qfa _ _,Qfa _ _,trivial⟩)),trivial⟩) (Joa _ (Qka (⟨Qsa _ (Qka (⟨Qfa _ _,Qia Jba _,Qfa _ _,trivial⟩)),Qsa _ (Qka (⟨Qfa _ _,Qfa _ _,Qfa _ _,trivial⟩)),Qfa _ _,trivial⟩))) (rt0 20 rfl (Qwa (v:=.tup [.agg [iI x31.1.Sum,sL Qja x31.1.Keys,iI x31.1.Dep],.agg [iI x31.2.1.Key,iI x31.2.1.Val,iI x31.2.1.Dep],iI x31.2.2]) rfl (rt0 21 rfl (Qxa (v:=.agg [iI x31.1.Sum,sL Qja x31.1.Keys,iI x31.1.Dep]) rfl rfl (rt0 22 rfl (Qxa (v:=.agg [iI x31.2.1.Key,iI x31.2.1.Val,iI x31.2.1.Dep]) rfl rfl (rt0 23 rfl (Qxa (v:=iI x31.2.2) rfl rfl ?_))))))))))
          exact raS hS27 ⟨rfl,rfl,rfl,rfl,rfl,rfl,rfl,rfl,rfl,rfl,rfl,rfl,rfl,rfl,rfl,rfl,rfl,rfl,rfl,rfl,rfl,rfl,rfl,rfl,rfl,rfl,rfl,rfl,rfl,trivial⟩
        ·refine RA.join 9 #[true,true,true,false,true,true,true,true,true,true,true,true,true,true,true,true,true,true,true,false,false,false,false,false,false,false,false] (mkA 162 ((98,.ptr 0 0)::(99,.ptr 0 0)::(100,.ptr 0 2)::(102,.ptr 7 0)::(103,iI p2.Node)::(104,.ptr 8 0)::(105,iI x2.Kind)::(106,.ptr 8 1)::(107,iI x2.A)::(108,.ptr 0 0)::(109,.ptr 0 0)::(110,.ptr 0 2)::(111,.ref 3)::(112,.ptr 7 0)::(113,iI p2.Node)::(114,.aptr 3 3 x29 0)::(115,.agg [iI x30.Sum,sL Qja x30.Keys,iI x30.Dep])::(116,.agg [iI x4.1.Key,iI x4.1.Val,iI z22])::l32)) a32 ?_ (fun hS30=>?_)
         ·refine ra2 3 19 ?_ ?_
          ·refine RO.op rfl rfl (Qea rfl rfl (Qha Ty.k27 (c:=.ref 3) rfl ?_))
           exact raS hS28 ⟨rfl,rfl,rfl,rfl,rfl,rfl,rfl,rfl,rfl,rfl,rfl,rfl,rfl,rfl,rfl,rfl,rfl,rfl,rfl,rfl,rfl,rfl,rfl,rfl,rfl,trivial⟩
          ·refine RO.op rfl rfl (Jfa (as0:=[iI x2.Kind,iI x2.A,.agg [iI x30.Sum,sL Qja x30.Keys,iI x30.Dep],.agg [iI x4.1.Key,iI x4.1.Val,iI z22]]) (as1:=[iI x2.Kind,iI x2.A,.agg [iI x30.Sum,sL Qja x30.Keys,iI x30.Dep],.agg [iI ((⟨x4.1.Key,x4.1.Val,z22⟩:Item).Key),iI ((⟨x4.1.Key,x4.1.Val,z22⟩:Item).Val),iI ((⟨x4.1.Key,x4.1.Val,z22⟩:Item).Dep)]]) (caps:=[]) (aw1:=[.box [.ref 1,.ref 2,.ref 3,.ref 10,.ref 11],aR 3 1 encI z16,aR 29 1 (encL Qaa) z17,aR 66 3 Qba p5,.dead,.dead,.box [sL Qga p0.Nodes,iI p0.Rings,iI p0.Room],.box [iI p2.Node,iI p2.Lane],.box [iI x2.Kind,iI x2.A,sL encI x2.In,sL encI x2.Out],.box [iI x4.1.Key,iI x4.1.Val,iI z22],aR 94 2 Qca z23,aR 46 3 Qaa p7]) rfl rfl rfl (k_fn (v:=.tup [.agg [iI x31.1.Sum,sL Qja x31.1.Keys,iI x31.1.Dep],.agg [iI x31.2.1.Key,iI x31.2.1.Val,iI x31.2.1.Dep],iI x31.2.2]) (Yba x2.Kind x2.A x30 (⟨x4.1.Key,x4.1.Val,z22⟩:Item) x31 hx31) (⟨Qfa _ _,Qfa _ _,Qsa _ (Qka (⟨Qfa _ _,Qia Jba _,Qfa _ _,trivial⟩)),Qsa _ (Qka (⟨Qfa _ _,Qfa _ _,Qfa _ _,trivial⟩)),trivial⟩) (Joa _ (Qka (⟨Qsa _ (Qka (⟨Qfa _ _,Qia Jba _,Qfa _ _,trivial⟩)),Qsa _ (Qka (⟨Qfa _ _,Qfa _ _,Qfa _ _,trivial⟩)),Qfa _ _,trivial⟩))) (rt0 20 rfl (Qwa (v:=.tup [.agg [iI x31.1.Sum,sL Qja x31.1.Keys,iI x31.1.Dep],.agg [iI x31.2.1.Key,iI x31.2.1.Val,iI x31.2.1.Dep],iI x31.2.2]) rfl (rt0 21 rfl (Qxa (v:=.agg [iI x31.1.Sum,sL Qja x31.1.Keys,iI x31.1.Dep]) rfl rfl (rt0 22 rfl (Qxa (v:=.agg [iI x31.2.1.Key,iI x31.2.1.Val,iI x31.2.1.Dep]) rfl rfl (rt0 23 rfl (Qxa (v:=iI x31.2.2) rfl rfl (ra1 3 (RO.op rfl rfl (Qea rfl rfl (Qha Ty.k27 (c:=.ref 3) rfl (rt0 24 rfl (Q5a (en:=Qba) Ty.s27 rfl rfl rfl hx32 ?_))))))))))))))))
           exact raS hS26 ⟨rfl,rfl,rfl,rfl,rfl,rfl,rfl,rfl,rfl,rfl,rfl,rfl,rfl,rfl,rfl,rfl,rfl,rfl,rfl,rfl,rfl,rfl,rfl,rfl,rfl,rfl,rfl,rfl,rfl,rfl,rfl,trivial⟩
         ·refine RA.join 9 #[true,true,true,true,true,true,true,true,true,true,true,true,true,true,true,true,true,false,true,false,false,false,false,false,false,false,false] (mkA 162 ((98,.ptr 0 0)::(99,.ptr 0 0)::(100,.ptr 0 2)::(101,.ref 3)::(102,.ptr 7 0)::(103,iI p2.Node)::(104,.ptr 8 0)::(105,iI x2.Kind)::(106,.ptr 8 1)::(107,iI x2.A)::(108,.ptr 0 0)::(109,.ptr 0 0)::(110,.ptr 0 2)::(111,.ref 3)::(112,.ptr 7 0)::(113,iI p2.Node)::(114,.aptr 3 3 x29 0)::(116,.agg [iI x4.1.Key,iI x4.1.Val,iI z22])::l32)) a32 ?_ (fun hS31=>?_)
          ·refine ra1 17 (RO.op rfl rfl (Q6a (en:=Qba) (a:=x30) rfl rfl hx30 (Qna Ty.k66 Ty.c66 rfl (cs:=[iI x30.Sum,sL Qja x30.Keys,iI x30.Dep]) rfl ?_)))
           exact raS hS28 ⟨rfl,rfl,rfl,rfl,rfl,rfl,rfl,rfl,rfl,rfl,rfl,rfl,rfl,rfl,rfl,rfl,rfl,rfl,rfl,rfl,rfl,rfl,rfl,rfl,rfl,trivial⟩
          ·refine rt0 0 rfl (Qwa (v:=.ptr 0 0) rfl (rt0 1 rfl (V3a rfl (rt0 2 rfl (Qda Ty.f31_2 rfl (off':=2) rfl (rt0 4 rfl (Qda Ty.f57_0 rfl (off':=0) rfl (rt0 6 rfl (Qda Ty.f40_0 rfl (off':=0) rfl (rt0 8 rfl (Qda Ty.f40_1 rfl (off':=1) rfl (rt0 10 rfl (Qwa (v:=.ptr 0 0) rfl (rt0 11 rfl (V3a rfl (rt0 12 rfl (Qda Ty.f31_2 rfl (off':=2) rfl (rt0 14 rfl (Qda Ty.f57_0 rfl (off':=0) rfl ?_)))))))))))))))))))
           refine rl0 [7,19,20,21,22,23,24,25,26] 7 rfl (Q1a rfl rfl (Qha Ty.k3 (c:=iI x2.Kind) rfl (rl0 [9,19,20,21,22,23,24,25,26] 9 rfl (Q1a rfl rfl (Qha Ty.k3 (c:=iI x2.A) rfl (rl0 [13,16,17,19,20,21,22,23,24,25,26] 13 rfl (Q1a rfl rfl (Qha Ty.k27 (c:=.ref 3) rfl (rl0 [15,16,17,19,20,21,22,23,24,25,26] 15 rfl (Q1a rfl rfl (Qha Ty.k3 (c:=iI p2.Node) rfl (rt0 16 rfl (Q5a (en:=Qba) Ty.s27 rfl rfl rfl hx29 (rl0 [18,19,20,21,22,23,24,25,26] 18 rfl (Q1a rfl rfl (Qna Ty.k46 Ty.c46 rfl (cs:=[iI x4.1.Key,iI x4.1.Val,iI z22]) rfl (ra3 3 5 17 ?_ ?_ ?_)))))))))))))))))
           ·refine RO.op rfl rfl (Qea rfl rfl (Qha Ty.k27 (c:=.ref 3) rfl (ra2 5 17 ?_ ?_)))
            ·refine RO.op rfl rfl (Qea rfl rfl (Qha Ty.k3 (c:=iI p2.Node) rfl ?_))
             exact raS hS31 ⟨rfl,rfl,rfl,rfl,rfl,rfl,rfl,rfl,rfl,rfl,rfl,rfl,rfl,rfl,rfl,rfl,rfl,rfl,rfl,rfl,rfl,rfl,rfl,rfl,trivial⟩
            ·refine RO.op rfl rfl (Q6a (en:=Qba) (a:=x30) rfl rfl hx30 (Qna Ty.k66 Ty.c66 rfl (cs:=[iI x30.Sum,sL Qja x30.Keys,iI x30.Dep]) rfl ?_))
             exact raS hS29 ⟨rfl,rfl,rfl,rfl,rfl,rfl,rfl,rfl,rfl,rfl,rfl,rfl,rfl,rfl,rfl,rfl,rfl,rfl,rfl,rfl,rfl,rfl,rfl,rfl,trivial⟩
           ·refine RO.op rfl rfl (Qea rfl rfl (Qha Ty.k3 (c:=iI p2.Node) rfl (ra2 3 17 ?_ ?_)))
            ·refine RO.op rfl rfl (Qea rfl rfl (Qha Ty.k27 (c:=.ref 3) rfl ?_))
             exact raS hS31 ⟨rfl,rfl,rfl,rfl,rfl,rfl,rfl,rfl,rfl,rfl,rfl,rfl,rfl,rfl,rfl,rfl,rfl,rfl,rfl,rfl,rfl,rfl,rfl,rfl,trivial⟩
            ·refine RO.op rfl rfl (Q6a (en:=Qba) (a:=x30) rfl rfl hx30 (Qna Ty.k66 Ty.c66 rfl (cs:=[iI x30.Sum,sL Qja x30.Keys,iI x30.Dep]) rfl ?_))
             exact raS hS30 ⟨rfl,rfl,rfl,rfl,rfl,rfl,rfl,rfl,rfl,rfl,rfl,rfl,rfl,rfl,rfl,rfl,rfl,rfl,rfl,rfl,rfl,rfl,rfl,rfl,trivial⟩
           ·refine RO.op rfl rfl (Q6a (en:=Qba) (a:=x30) rfl rfl hx30 (Qna Ty.k66 Ty.c66 rfl (cs:=[iI x30.Sum,sL Qja x30.Keys,iI x30.Dep]) rfl (ra3 3 5 19 ?_ ?_ ?_)))
            ·refine RO.op rfl rfl (Qea rfl rfl (Qha Ty.k27 (c:=.ref 3) rfl ?_))
             exact raS hS29 ⟨rfl,rfl,rfl,rfl,rfl,rfl,rfl,rfl,rfl,rfl,rfl,rfl,rfl,rfl,rfl,rfl,rfl,rfl,rfl,rfl,rfl,rfl,rfl,rfl,trivial⟩
            ·refine RO.op rfl rfl (Qea rfl rfl (Qha Ty.k3 (c:=iI p2.Node) rfl ?_))
             exact raS hS30 ⟨rfl,rfl,rfl,rfl,rfl,rfl,rfl,rfl,rfl,rfl,rfl,rfl,rfl,rfl,rfl,rfl,rfl,rfl,rfl,rfl,rfl,rfl,rfl,rfl,trivial⟩
            ·refine RO.op rfl rfl (Jfa (as0:=[iI x2.Kind,iI x2.A,.agg [iI x30.Sum,sL Qja x30.Keys,iI x30.Dep],.agg [iI x4.1.Key,iI x4.1.Val,iI z22]]) (as1:=[iI x2.Kind,iI x2.A,.agg [iI x30.Sum,sL Qja x30.Keys,iI x30.Dep],.agg [iI ((⟨x4.1.Key,x4.1.Val,z22⟩:Item).Key),iI ((⟨x4.1.Key,x4.1.Val,z22⟩:Item).Val),iI ((⟨x4.1.Key,x4.1.Val,z22⟩:Item).Dep)]]) (caps:=[]) (aw1:=[.box [.ref 1,.ref 2,.ref 3,.ref 10,.ref 11],aR 3 1 encI z16,aR 29 1 (encL Qaa) z17,aR 66 3 Qba p5,.dead,.dead,.box [sL Qga p0.Nodes,iI p0.Rings,iI p0.Room],.box [iI p2.Node,iI p2.Lane],.box [iI x2.Kind,iI x2.A,sL encI x2.In,sL encI x2.Out],.box [iI x4.1.Key,iI x4.1.Val,iI z22],aR 94 2 Qca z23,aR 46 3 Qaa p7]) rfl rfl rfl (k_fn (v:=.tup [.agg [iI x31.1.Sum,sL Qja x31.1.Keys,iI x31.1.Dep],.agg [iI x31.2.1.Key,iI x31.2.1.Val,iI x31.2.1.Dep],iI x31.2.2]) (Yba x2.Kind x2.A x30 (⟨x4.1.Key,x4.1.Val,z22⟩:Item) x31 hx31) (⟨Qfa _ _,Qfa _ _,Qsa _ (Qka (⟨Qfa _ _,Qia Jba _,Qfa _ _,trivial⟩)),Qsa _ (Qka (⟨Qfa _ _,Qfa _ _,Qfa _ _,trivial⟩)),trivial⟩) (Joa _ (Qka (⟨Qsa _ (Qka (⟨Qfa _ _,Qia Jba _,Qfa _ _,trivial⟩)),Qsa _ (Qka (⟨Qfa _ _,Qfa _ _,Qfa _ _,trivial⟩)),Qfa _ _,trivial⟩))) (rt0 20 rfl (Qwa (v:=.tup [.agg [iI x31.1.Sum,sL Qja x31.1.Keys,iI x31.1.Dep],.agg [iI x31.2.1.Key,iI x31.2.1.Val,iI x31.2.1.Dep],iI x31.2.2]) rfl (rt0 21 rfl (Qxa (v:=.agg [iI x31.1.Sum,sL Qja x31.1.Keys,iI x31.1.Dep]) rfl rfl (rt0 22 rfl (Qxa (v:=.agg [iI x31.2.1.Key,iI x31.2.1.Val,iI x31.2.1.Dep]) rfl rfl (rt0 23 rfl (Qxa (v:=iI x31.2.2) rfl rfl (rl0 [3,24,25,26] 3 rfl (Q1a rfl rfl (Qha Ty.k27 (c:=.ref 3) rfl ?_)))))))))))))
             exact raS hS27 ⟨rfl,rfl,rfl,rfl,rfl,rfl,rfl,rfl,rfl,rfl,rfl,rfl,rfl,rfl,rfl,rfl,rfl,rfl,rfl,rfl,rfl,rfl,rfl,rfl,rfl,rfl,rfl,rfl,rfl,trivial⟩
    refine T.seq (T.region (sq (Qda Ty.f40_0 rfl (off':=0) rfl (so (Qea rfl rfl (Qha Ty.k3 (c:=iI x2.Kind) rfl (sq (v_eql rfl rfl (RS.nil (T.cond (b:=x2.Kind==6) rfl (fun hb_51=>?_) (fun hb_51=>?_)))))))))))
    ·replace h:=ite_T h hb_51
     refine T.seq ?_
     obtain ⟨x21,hx21,h⟩:=bind_some h
     refine T.drawn mixed (k:=15) rfl (rt0 0 rfl (Qwa (v:=.ptr 0 0) rfl (rt0 1 rfl (Qwa (v:=.ptr 0 0) rfl (rt0 2 rfl (V3a rfl (rt0 3 rfl (Qda Ty.f31_3 rfl (off':=3) rfl (rt0 5 rfl (Qda Ty.f57_0 rfl (off':=0) rfl (rt0 7 rfl (Qda Ty.f57_1 rfl (off':=1) rfl (rl0 [4,11,12,13,14] 4 rfl (Q1a rfl rfl (Qha Ty.k28 (c:=.ref 10) rfl (rl0 [6,9,10,11,12,13,14] 6 rfl (Q1a rfl rfl (Qha Ty.k3 (c:=iI p2.Node) rfl (ra1 8 ?_)))))))))))))))))))
     refine RO.op rfl rfl (Qea rfl rfl (Qha Ty.k3 (c:=iI p2.Lane) rfl (rt0 9 rfl (Jxa (cs:=[iI p2.Node,iI p2.Lane]) Ty.z94 Ty.p94 rfl (ra1 10 (RO.op rfl rfl (J2a (rows:=List.map Qca [(⟨p2.Node,p2.Lane⟩:Choice)]) (vs:=[.agg [iI p2.Node,iI p2.Lane]]) Ty.s28 Ty.z94 rfl rfl rfl rfl rfl rfl (ra1 11 (RO.op rfl rfl (Yxa (en:=Qca) (xs:=p6) (ys:=([(⟨p2.Node,p2.Lane⟩:Choice)]:List Choice)) Ty.s28 (fun _=>rfl) rfl rfl rfl hx21 rfl rfl (rt0 12 rfl (V3a rfl (rt0 13 rfl (Qda Ty.f31_3 rfl (off':=3) rfl (ra1 14 (RO.op rfl rfl (Qoa Ty.c28 Ty.i28 rfl (vs:=[.ref 13]) rfl rfl rfl rfl (cs':=[.ref 1,.ref 2,.ref 3,.ref 13,.ref 11]) rfl rfl ?_)))))))))))))))))
     refine RA.done (by decide +kernel) (T.region (sm (.ptr 0 0) rfl (sq (V3a rfl (sq (Qda Ty.f31_3 rfl (off':=3) rfl (so (Qea rfl rfl (Qha Ty.k28 (c:=.ref 13) rfl (sq (Vga (en:=Qca) Ty.s28 rfl rfl (sq (Qda Ty.f46_2 rfl (off':=2) rfl (so (Qoa Ty.c3 Ty.i3 rfl (vs:=[iI ((x21).length:Int)]) rfl rfl rfl rfl (cs':=[iI x4.1.Key,iI x4.1.Val,iI ((x21).length:Int)]) rfl rfl (RS.nil ?_))))))))))))))))
     exact T.weakR (hK3 (((x21).length:Int),x21) h) (Weak.mkN [] [0,1,2,3,4,5,6,7,8,9,13,11] (by decide) (by decide) rfl ⟨Qua rfl,Qua rfl,Qua rfl,Qua rfl,Qua rfl,rn_s rfl,trivial⟩ (Jya (cs:=[.ref 1,.ref 2,.ref 3,.ref 10,.ref 11]) (ds:=[.ref 1,.ref 2,.ref 3,.ref 13,.ref 11]) rfl ⟨Qta rfl,Qta rfl,Qta rfl,Qta rfl,Qta rfl,trivial⟩ (rw_ar rfl rfl (rw_ar rfl rfl (rw_ar rfl rfl (Z6a rfl (Z6a rfl (rw_bs [sL Qga p0.Nodes,iI p0.Rings,iI p0.Room] rfl (rw_bs [iI p2.Node,iI p2.Lane] rfl (rw_bs [iI x2.Kind,iI x2.A,sL encI x2.In,sL encI x2.Out] rfl (Jya (cs:=[iI x4.1.Key,iI x4.1.Val,iI ((x21).length:Int)]) (ds:=[iI x4.1.Key,iI x4.1.Val,iI ((x21).length:Int)]) rfl ⟨Qla rfl,Qla rfl,Qla rfl,trivial⟩ (rw_ar rfl rfl (rw_ar rfl rfl (Qva))))))))))))))
    replace h:=ite_F h hb_51
    refine T.skip ?_
    exact T.sub (hK3 (x4.1.Dep,p6) h) ⟨rfl,rfl,rfl,rfl,rfl,rfl,trivial⟩
   refine T.seq (T.region (sq (Qda Ty.f40_0 rfl (off':=0) rfl (so (Qea rfl rfl (Qha Ty.k3 (c:=iI x2.Kind) rfl (sq (v_eql rfl rfl (RS.nil (T.cond (b:=x2.Kind==1) rfl (fun hb_52=>?_) (fun hb_52=>?_)))))))))))
   ·replace h:=ite_T h hb_52
    obtain ⟨x5,hx5,h⟩:=bind_some h
    obtain ⟨x6,hx6,h⟩:=bind_some h
    obtain ⟨x7,hx7,h⟩:=bind_some h
    obtain ⟨x8,hx8,h⟩:=bind_some h
    refine T.drawn mixed (k:=11) rfl (rt0 0 rfl (Qwa (v:=.ptr 0 0) rfl (rt0 1 rfl (V3a rfl (rt0 2 rfl (Qda Ty.f31_0 rfl (off':=0) rfl (rt0 4 rfl (Qda Ty.f40_1 rfl (off':=1) rfl (rl0 [3,6,7,8,9,10] 3 rfl (Q1a rfl rfl (Qha Ty.k26 (c:=.ref 1) rfl (ra1 5 (RO.op rfl rfl (Qea rfl rfl (Qha Ty.k3 (c:=iI x2.A) rfl (rt0 6 rfl (Q5a (en:=encI) Ty.s26 rfl rfl rfl hx5 (ra1 7 ?_))))))))))))))))))
    refine RO.op rfl rfl (Q6a (en:=encI) (a:=x6) rfl rfl hx6 (Qha Ty.k3 (c:=iI x6) rfl (rt0 8 rfl (v_add rfl rfl (rt0 9 rfl (Q5a (en:=encI) Ty.s26 rfl rfl rfl hx7 (ra1 10 (RO.op rfl rfl (Zya (en:=encI) (a:=x8) (a':=IntKind.i64.wrap (x6+1)) Ty.c3 Ty.i3 rfl (vs:=[iI (IntKind.i64.wrap (x6+1))]) rfl rfl rfl hx8 rfl rfl rfl (RA.done (by decide +kernel) ?_))))))))))
    exact T.weakR (hK4 ((List.set p3 x7 (IntKind.i64.wrap (x6+1))),p4) h) (Weak.mkN [] [0,1,2,3,4,5,8,9,10,11,7,6] (by decide) (by decide) rfl ⟨Qua rfl,Qua rfl,Qua rfl,Qua rfl,Qua rfl,trivial⟩ (Jya (cs:=[.ref 1,.ref 2,.ref 3,.ref 10,.ref 11]) (ds:=[.ref 1,.ref 2,.ref 3,.ref 7,.ref 6]) rfl ⟨Qta rfl,Qta rfl,Qta rfl,Qta rfl,Qta rfl,trivial⟩ (rw_ar rfl rfl (rw_ar rfl rfl (rw_ar rfl rfl (Z6a rfl (Z6a rfl (rw_bs [sL Qga p0.Nodes,iI p0.Rings,iI p0.Room] rfl (rw_bs [iI p2.Node,iI p2.Lane] rfl (rw_bs [iI x2.Kind,iI x2.A,sL encI x2.In,sL encI x2.Out] rfl (rw_bs [iI x4.1.Key,iI x4.1.Val,iI x4.1.Dep] rfl (rw_ar rfl rfl (rw_ar rfl rfl (Qva))))))))))))))
   replace h:=ite_F h hb_52
   obtain ⟨x9,hx9,h⟩:=bind_some h
   obtain ⟨x10,hx10,h⟩:=bind_some h
   obtain ⟨x11,hx11,h⟩:=bind_some h
   obtain ⟨x12,hx12,h⟩:=bind_some h
   obtain ⟨x13,hx13,h⟩:=bind_some h
   obtain ⟨x14,hx14,h⟩:=bind_some h
   obtain ⟨x15,hx15,h⟩:=bind_some h
   refine T.drawn mixed (k:=29) rfl ?_
   let l71:List (Nat × AV):=[(0,.agg [sL Qga p0.Nodes,iI p0.Rings,iI p0.Room]),(1,sL (encL Qaa) p1),(2,.ptr 0 0),(3,.agg [iI p2.Node,iI p2.Lane]),(4,.ptr 8 0),(7,.ptr 9 0),(8,.ptr 10 0),(9,.ptr 11 0),(10,.bool x4.2),(14,.ptr 8 0),(15,sL Qga p0.Nodes),(16,.ptr 9 0),(17,iI p2.Node),(18,.elt (Qga x2) 0),(19,.agg [iI x2.Kind,iI x2.A,sL encI x2.In,sL encI x2.Out]),(20,.tup [.agg [iI x4.1.Key,iI x4.1.Val,iI x4.1.Dep],.bool x4.2]),(21,.agg [sL Qga p0.Nodes,iI p0.Rings,iI p0.Room]),(22,sL (encL Qaa) p1),(23,.ptr 0 0),(24,.ptr 0 0),(25,.agg [.ref 1,.ref 2,.ref 3,.ref 7,.ref 6]),(26,.agg [iI p2.Node,iI p2.Lane]),(27,.tup [.agg [iI x4.1.Key,iI x4.1.Val,iI x4.1.Dep],.bool x4.2]),(28,.agg [iI x4.1.Key,iI x4.1.Val,iI x4.1.Dep]),(29,.bool x4.2),(30,.ptr 10 0),(31,iI x2.Kind),(32,.bool (x2.Kind==1))]
   let a71:List Ob:=[.box [.ref 1,.ref 2,.ref 3,.ref 7,.ref 6],aR 3 1 encI p3,aR 29 1 (encL Qaa) p4,aR 66 3 Qba p5,.dead,.dead,aR 46 3 Qaa p7,aR 94 2 Qca p6,.box [sL Qga p0.Nodes,iI p0.Rings,iI p0.Room],.box [iI p2.Node,iI p2.Lane],.box [iI x2.Kind,iI x2.A,sL encI x2.In,sL encI x2.Out],.box [iI x4.1.Key,iI x4.1.Val,iI x4.1.Dep]]
   refine RA.join 1 #[true,true,true,true,true,true,true,true,true,true,true,true,true,true,true,true,true,true,true,true,true,true,true,true,true,true,true,true,false] (mkA 162 ((43,.tup [.agg [iI x13.1.Key,iI x13.1.Val,iI x13.1.Dep],.ref 12,iI x13.2.2])::(44,.ptr 0 0)::(45,.ptr 0 0)::(46,.ptr 0 1)::(47,.ref 2)::(48,.ptr 10 2)::(49,sL encI x2.In)::(50,.ptr 9 1)::(51,iI p2.Lane)::(52,.elt (encI x9) 0)::(53,iI x9)::(54,.ptr 0 0)::(55,.ptr 0 0)::(56,.ptr 0 1)::(57,.ref 2)::(58,.ptr 10 2)::(59,sL encI x2.In)::(60,.ptr 9 1)::(61,iI p2.Lane)::(62,.elt (encI x10) 0)::(63,iI x10)::(64,.aptr 2 1 x11 0)::(65,sL Qaa x12)::(66,.tup [.agg [iI x13.1.Key,iI x13.1.Val,iI x13.1.Dep],.ref 12,iI x13.2.2])::(67,.agg [iI x13.1.Key,iI x13.1.Val,iI x13.1.Dep])::(68,.ref 12)::(69,iI x13.2.2)::(70,.aptr 2 1 x14 0)::l71)) [.box [.ref 1,.ref 2,.ref 3,.ref 7,.ref 6],aR 3 1 encI p3,aR 29 1 (encL Qaa) p4,aR 66 3 Qba p5,.dead,.dead,aR 46 3 Qaa p7,aR 94 2 Qca p6,.box [sL Qga p0.Nodes,iI p0.Rings,iI p0.Room],.box [iI p2.Node,iI p2.Lane],.box [iI x2.Kind,iI x2.A,sL encI x2.In,sL encI x2.Out],.box [iI x4.1.Key,iI x4.1.Val,iI x4.1.Dep],aR 46 3 Qaa x13.2.1] ?_ (fun hS53=>?_)
   ·refine ra1 28 (RO.fz 12 rfl rfl rfl (RO.op rfl rfl (Zya (en:=(encL Qaa)) (a:=x15) (a':=x13.2.1) Ty.c29 Ty.i29 rfl (vs:=[sL Qaa x13.2.1]) rfl rfl rfl hx15 rfl rfl rfl (RA.done (by decide +kernel) ?_))))
    exact T.weakR (hK4 (p3,(List.set p4 x14 x13.2.1)) h) (Weak.mkN [] [0,1,2,3,4,5,8,9,10,11,7,6] (by decide) (by decide) rfl ⟨Qua rfl,Qua rfl,Qua rfl,Qua rfl,Qua rfl,trivial⟩ (Jya (cs:=[.ref 1,.ref 2,.ref 3,.ref 10,.ref 11]) (ds:=[.ref 1,.ref 2,.ref 3,.ref 7,.ref 6]) rfl ⟨Qta rfl,Qta rfl,Qta rfl,Qta rfl,Qta rfl,trivial⟩ (rw_ar rfl rfl (rw_ar rfl rfl (rw_ar rfl rfl (Z6a rfl (Z6a rfl (rw_bs [sL Qga p0.Nodes,iI p0.Rings,iI p0.Room] rfl (rw_bs [iI p2.Node,iI p2.Lane] rfl (rw_bs [iI x2.Kind,iI x2.A,sL encI x2.In,sL encI x2.Out] rfl (rw_bs [iI x4.1.Key,iI x4.1.Val,iI x4.1.Dep] rfl (rw_ar rfl rfl (rw_ar rfl rfl (Qva))))))))))))))
   ·refine RA.join 3 #[true,true,true,true,true,true,true,true,true,false,true,true,true,true,true,true,true,true,true,true,true,true,true,true,true,true,true,false,false] (mkA 162 ((43,.tup [.agg [iI x13.1.Key,iI x13.1.Val,iI x13.1.Dep],.ref 12,iI x13.2.2])::(44,.ptr 0 0)::(45,.ptr 0 0)::(46,.ptr 0 1)::(47,.ref 2)::(48,.ptr 10 2)::(49,sL encI x2.In)::(50,.ptr 9 1)::(51,iI p2.Lane)::(52,.elt (encI x9) 0)::(54,.ptr 0 0)::(55,.ptr 0 0)::(56,.ptr 0 1)::(57,.ref 2)::(58,.ptr 10 2)::(59,sL encI x2.In)::(60,.ptr 9 1)::(61,iI p2.Lane)::(62,.elt (encI x10) 0)::(63,iI x10)::(64,.aptr 2 1 x11 0)::(65,sL Qaa x12)::(66,.tup [.agg [iI x13.1.Key,iI x13.1.Val,iI x13.1.Dep],.ref 12,iI x13.2.2])::(67,.agg [iI x13.1.Key,iI x13.1.Val,iI x13.1.Dep])::(68,.ref 12)::(69,iI x13.2.2)::l71)) [.box [.ref 1,.ref 2,.ref 3,.ref 7,.ref 6],aR 3 1 encI p3,aR 29 1 (encL Qaa) p4,aR 66 3 Qba p5,.dead,.dead,aR 46 3 Qaa p7,aR 94 2 Qca p6,.box [sL Qga p0.Nodes,iI p0.Rings,iI p0.Room],.box [iI p2.Node,iI p2.Lane],.box [iI x2.Kind,iI x2.A,sL encI x2.In,sL encI x2.Out],.box [iI x4.1.Key,iI x4.1.Val,iI x4.1.Dep],aR 46 3 Qaa x13.2.1] ?_ (fun hS54=>?_)
    ·refine ra1 9 (RO.op rfl rfl (Jaa rfl (Qha Ty.k3 (c:=iI x9) rfl (rt0 27 rfl (Q5a (en:=(encL Qaa)) Ty.s25 rfl rfl rfl hx14 ?_)))))
     exact raS hS53 ⟨rfl,rfl,rfl,rfl,rfl,rfl,rfl,rfl,rfl,rfl,rfl,rfl,rfl,rfl,rfl,rfl,rfl,rfl,rfl,rfl,rfl,rfl,rfl,rfl,rfl,rfl,rfl,rfl,rfl,rfl,rfl,rfl,rfl,rfl,rfl,rfl,rfl,rfl,rfl,rfl,rfl,rfl,rfl,rfl,rfl,rfl,rfl,rfl,rfl,rfl,rfl,rfl,rfl,rfl,rfl,rfl,trivial⟩
    ·refine RA.join 5 #[true,true,true,true,true,true,true,false,false,false,true,true,true,true,true,true,true,true,true,true,true,true,true,true,true,true,true,false,false] (mkA 162 ((43,.tup [.agg [iI x13.1.Key,iI x13.1.Val,iI x13.1.Dep],.ref 12,iI x13.2.2])::(44,.ptr 0 0)::(45,.ptr 0 0)::(46,.ptr 0 1)::(47,.ref 2)::(48,.ptr 10 2)::(49,sL encI x2.In)::(50,.ptr 9 1)::(54,.ptr 0 0)::(55,.ptr 0 0)::(56,.ptr 0 1)::(57,.ref 2)::(58,.ptr 10 2)::(59,sL encI x2.In)::(60,.ptr 9 1)::(61,iI p2.Lane)::(62,.elt (encI x10) 0)::(63,iI x10)::(64,.aptr 2 1 x11 0)::(65,sL Qaa x12)::(66,.tup [.agg [iI x13.1.Key,iI x13.1.Val,iI x13.1.Dep],.ref 12,iI x13.2.2])::(67,.agg [iI x13.1.Key,iI x13.1.Val,iI x13.1.Dep])::(68,.ref 12)::(69,iI x13.2.2)::l71)) [.box [.ref 1,.ref 2,.ref 3,.ref 7,.ref 6],aR 3 1 encI p3,aR 29 1 (encL Qaa) p4,aR 66 3 Qba p5,.dead,.dead,aR 46 3 Qaa p7,aR 94 2 Qca p6,.box [sL Qga p0.Nodes,iI p0.Rings,iI p0.Room],.box [iI p2.Node,iI p2.Lane],.box [iI x2.Kind,iI x2.A,sL encI x2.In,sL encI x2.Out],.box [iI x4.1.Key,iI x4.1.Val,iI x4.1.Dep],aR 46 3 Qaa x13.2.1] ?_ (fun hS55=>?_)
     ·refine ra1 7 (RO.op rfl rfl (Qea rfl rfl (Qha Ty.k3 (c:=iI p2.Lane) rfl (rt0 8 rfl (Q0a Ty.s26 (fun _=>rfl) rfl rfl hx9 ?_)))))
      exact raS hS54 ⟨rfl,rfl,rfl,rfl,rfl,rfl,rfl,rfl,rfl,rfl,rfl,rfl,rfl,rfl,rfl,rfl,rfl,rfl,rfl,rfl,rfl,rfl,rfl,rfl,rfl,rfl,rfl,rfl,rfl,rfl,rfl,rfl,rfl,rfl,rfl,rfl,rfl,rfl,rfl,rfl,rfl,rfl,rfl,rfl,rfl,rfl,rfl,rfl,rfl,rfl,rfl,rfl,rfl,rfl,trivial⟩
     ·refine RA.join 5 #[true,true,true,true,true,false,true,true,false,false,true,true,true,true,true,true,true,true,true,true,true,true,true,true,true,true,true,false,false] (mkA 162 ((43,.tup [.agg [iI x13.1.Key,iI x13.1.Val,iI x13.1.Dep],.ref 12,iI x13.2.2])::(44,.ptr 0 0)::(45,.ptr 0 0)::(46,.ptr 0 1)::(47,.ref 2)::(48,.ptr 10 2)::(50,.ptr 9 1)::(51,iI p2.Lane)::(54,.ptr 0 0)::(55,.ptr 0 0)::(56,.ptr 0 1)::(57,.ref 2)::(58,.ptr 10 2)::(59,sL encI x2.In)::(60,.ptr 9 1)::(61,iI p2.Lane)::(62,.elt (encI x10) 0)::(63,iI x10)::(64,.aptr 2 1 x11 0)::(65,sL Qaa x12)::(66,.tup [.agg [iI x13.1.Key,iI x13.1.Val,iI x13.1.Dep],.ref 12,iI x13.2.2])::(67,.agg [iI x13.1.Key,iI x13.1.Val,iI x13.1.Dep])::(68,.ref 12)::(69,iI x13.2.2)::l71)) [.box [.ref 1,.ref 2,.ref 3,.ref 7,.ref 6],aR 3 1 encI p3,aR 29 1 (encL Qaa) p4,aR 66 3 Qba p5,.dead,.dead,aR 46 3 Qaa p7,aR 94 2 Qca p6,.box [sL Qga p0.Nodes,iI p0.Rings,iI p0.Room],.box [iI p2.Node,iI p2.Lane],.box [iI x2.Kind,iI x2.A,sL encI x2.In,sL encI x2.Out],.box [iI x4.1.Key,iI x4.1.Val,iI x4.1.Dep],aR 46 3 Qaa x13.2.1] ?_ (fun hS56=>?_)
      ·refine ra1 5 (RO.op rfl rfl (Qea rfl rfl (Qha Ty.k26 (c:=sL encI x2.In) rfl (rt0 8 rfl (Q0a Ty.s26 (fun _=>rfl) rfl rfl hx9 ?_)))))
       exact raS hS54 ⟨rfl,rfl,rfl,rfl,rfl,rfl,rfl,rfl,rfl,rfl,rfl,rfl,rfl,rfl,rfl,rfl,rfl,rfl,rfl,rfl,rfl,rfl,rfl,rfl,rfl,rfl,rfl,rfl,rfl,rfl,rfl,rfl,rfl,rfl,rfl,rfl,rfl,rfl,rfl,rfl,rfl,rfl,rfl,rfl,rfl,rfl,rfl,rfl,rfl,rfl,rfl,rfl,rfl,rfl,trivial⟩
      ·refine RA.join 7 #[true,true,true,true,true,true,true,true,true,true,true,true,true,true,true,true,true,true,true,true,true,true,false,false,false,false,false,false,false] (mkA 162 ((44,.ptr 0 0)::(45,.ptr 0 0)::(46,.ptr 0 1)::(47,.ref 2)::(48,.ptr 10 2)::(49,sL encI x2.In)::(50,.ptr 9 1)::(51,iI p2.Lane)::(52,.elt (encI x9) 0)::(53,iI x9)::(54,.ptr 0 0)::(55,.ptr 0 0)::(56,.ptr 0 1)::(57,.ref 2)::(58,.ptr 10 2)::(59,sL encI x2.In)::(60,.ptr 9 1)::(61,iI p2.Lane)::(62,.elt (encI x10) 0)::(63,iI x10)::(64,.aptr 2 1 x11 0)::(65,sL Qaa x12)::l71)) a71 ?_ (fun hS57=>?_)
       ·refine ra1 22 (RO.op rfl rfl (Jfa (as0:=[sL Qaa x12]) (as1:=[sL Qaa x12]) (caps:=[]) (aw1:=[.box [.ref 1,.ref 2,.ref 3,.ref 7,.ref 6],aR 3 1 encI p3,aR 29 1 (encL Qaa) p4,aR 66 3 Qba p5,.dead,.dead,aR 46 3 Qaa p7,aR 94 2 Qca p6,.box [sL Qga p0.Nodes,iI p0.Rings,iI p0.Room],.box [iI p2.Node,iI p2.Lane],.box [iI x2.Kind,iI x2.A,sL encI x2.In,sL encI x2.Out],.box [iI x4.1.Key,iI x4.1.Val,iI x4.1.Dep]]) rfl rfl rfl (Vla (v:=.tup [.agg [iI x13.1.Key,iI x13.1.Val,iI x13.1.Dep],.ref 0,iI x13.2.2]) (obs:=[aR 46 3 Qaa x13.2.1]) (v':=.tup [.agg [iI x13.1.Key,iI x13.1.Val,iI x13.1.Dep],.ref 12,iI x13.2.2]) (Vza x12 x13 hx13) (⟨Qia Qma _,trivial⟩) rfl (Zha (J3a fun _=>rfl) Zua) rfl rfl (rt0 23 rfl (Qwa (v:=.tup [.agg [iI x13.1.Key,iI x13.1.Val,iI x13.1.Dep],.ref 12,iI x13.2.2]) rfl (rt0 24 rfl (Qxa (v:=.agg [iI x13.1.Key,iI x13.1.Val,iI x13.1.Dep]) rfl rfl (rt0 25 rfl (Qxa (v:=.ref 12) rfl rfl (rt0 26 rfl (Qxa (v:=iI x13.2.2) rfl rfl (rt0 27 rfl (Q5a (en:=(encL Qaa)) Ty.s25 rfl rfl rfl hx14 ?_)))))))))))))
        exact raS hS53 ⟨rfl,rfl,rfl,rfl,rfl,rfl,rfl,rfl,rfl,rfl,rfl,rfl,rfl,rfl,rfl,rfl,rfl,rfl,rfl,rfl,rfl,rfl,rfl,rfl,rfl,rfl,rfl,rfl,rfl,rfl,rfl,rfl,rfl,rfl,rfl,rfl,rfl,rfl,rfl,rfl,rfl,rfl,rfl,rfl,rfl,rfl,rfl,rfl,rfl,rfl,rfl,rfl,rfl,rfl,rfl,rfl,trivial⟩
       ·refine RA.join 8 #[true,true,true,true,true,true,true,true,true,false,true,true,true,true,true,true,true,true,true,true,true,true,false,false,false,false,false,false,false] (mkA 162 ((44,.ptr 0 0)::(45,.ptr 0 0)::(46,.ptr 0 1)::(47,.ref 2)::(48,.ptr 10 2)::(49,sL encI x2.In)::(50,.ptr 9 1)::(51,iI p2.Lane)::(52,.elt (encI x9) 0)::(54,.ptr 0 0)::(55,.ptr 0 0)::(56,.ptr 0 1)::(57,.ref 2)::(58,.ptr 10 2)::(59,sL encI x2.In)::(60,.ptr 9 1)::(61,iI p2.Lane)::(62,.elt (encI x10) 0)::(63,iI x10)::(64,.aptr 2 1 x11 0)::(65,sL Qaa x12)::l71)) a71 ?_ (fun hS58=>?_)
        ·refine ra2 9 22 ?_ ?_
         ·refine RO.op rfl rfl (Jaa rfl (Qha Ty.k3 (c:=iI x9) rfl ?_))
          exact raS hS57 ⟨rfl,rfl,rfl,rfl,rfl,rfl,rfl,rfl,rfl,rfl,rfl,rfl,rfl,rfl,rfl,rfl,rfl,rfl,rfl,rfl,rfl,rfl,rfl,rfl,rfl,rfl,rfl,rfl,rfl,rfl,rfl,rfl,rfl,rfl,rfl,rfl,rfl,rfl,rfl,rfl,rfl,rfl,rfl,rfl,rfl,rfl,rfl,rfl,rfl,rfl,trivial⟩
         ·refine RO.op rfl rfl (Jfa (as0:=[sL Qaa x12]) (as1:=[sL Qaa x12]) (caps:=[]) (aw1:=[.box [.ref 1,.ref 2,.ref 3,.ref 7,.ref 6],aR 3 1 encI p3,aR 29 1 (encL Qaa) p4,aR 66 3 Qba p5,.dead,.dead,aR 46 3 Qaa p7,aR 94 2 Qca p6,.box [sL Qga p0.Nodes,iI p0.Rings,iI p0.Room],.box [iI p2.Node,iI p2.Lane],.box [iI x2.Kind,iI x2.A,sL encI x2.In,sL encI x2.Out],.box [iI x4.1.Key,iI x4.1.Val,iI x4.1.Dep]]) rfl rfl rfl (Vla (v:=.tup [.agg [iI x13.1.Key,iI x13.1.Val,iI x13.1.Dep],.ref 0,iI x13.2.2]) (obs:=[aR 46 3 Qaa x13.2.1]) (v':=.tup [.agg [iI x13.1.Key,iI x13.1.Val,iI x13.1.Dep],.ref 12,iI x13.2.2]) (Vza x12 x13 hx13) (⟨Qia Qma _,trivial⟩) rfl (Zha (J3a fun _=>rfl) Zua) rfl rfl (rt0 23 rfl (Qwa (v:=.tup [.agg [iI x13.1.Key,iI x13.1.Val,iI x13.1.Dep],.ref 12,iI x13.2.2]) rfl (rt0 24 rfl (Qxa (v:=.agg [iI x13.1.Key,iI x13.1.Val,iI x13.1.Dep]) rfl rfl (rt0 25 rfl (Qxa (v:=.ref 12) rfl rfl (rt0 26 rfl (Qxa (v:=iI x13.2.2) rfl rfl ?_))))))))))
          exact raS hS54 ⟨rfl,rfl,rfl,rfl,rfl,rfl,rfl,rfl,rfl,rfl,rfl,rfl,rfl,rfl,rfl,rfl,rfl,rfl,rfl,rfl,rfl,rfl,rfl,rfl,rfl,rfl,rfl,rfl,rfl,rfl,rfl,rfl,rfl,rfl,rfl,rfl,rfl,rfl,rfl,rfl,rfl,rfl,rfl,rfl,rfl,rfl,rfl,rfl,rfl,rfl,rfl,rfl,rfl,rfl,trivial⟩
        ·refine RA.join 8 #[true,true,true,false,true,true,true,true,true,true,true,true,true,true,true,true,true,true,true,true,true,true,false,false,false,false,false,false,false] (mkA 162 ((44,.ptr 0 0)::(45,.ptr 0 0)::(46,.ptr 0 1)::(48,.ptr 10 2)::(49,sL encI x2.In)::(50,.ptr 9 1)::(51,iI p2.Lane)::(52,.elt (encI x9) 0)::(53,iI x9)::(54,.ptr 0 0)::(55,.ptr 0 0)::(56,.ptr 0 1)::(57,.ref 2)::(58,.ptr 10 2)::(59,sL encI x2.In)::(60,.ptr 9 1)::(61,iI p2.Lane)::(62,.elt (encI x10) 0)::(63,iI x10)::(64,.aptr 2 1 x11 0)::(65,sL Qaa x12)::l71)) a71 ?_ (fun hS59=>?_)
         ·refine ra2 3 22 ?_ ?_
          ·refine RO.op rfl rfl (Qea rfl rfl (Qha Ty.k25 (c:=.ref 2) rfl ?_))
           exact raS hS57 ⟨rfl,rfl,rfl,rfl,rfl,rfl,rfl,rfl,rfl,rfl,rfl,rfl,rfl,rfl,rfl,rfl,rfl,rfl,rfl,rfl,rfl,rfl,rfl,rfl,rfl,rfl,rfl,rfl,rfl,rfl,rfl,rfl,rfl,rfl,rfl,rfl,rfl,rfl,rfl,rfl,rfl,rfl,rfl,rfl,rfl,rfl,rfl,rfl,rfl,rfl,trivial⟩
          ·refine RO.op rfl rfl (Jfa (as0:=[sL Qaa x12]) (as1:=[sL Qaa x12]) (caps:=[]) (aw1:=[.box [.ref 1,.ref 2,.ref 3,.ref 7,.ref 6],aR 3 1 encI p3,aR 29 1 (encL Qaa) p4,aR 66 3 Qba p5,.dead,.dead,aR 46 3 Qaa p7,aR 94 2 Qca p6,.box [sL Qga p0.Nodes,iI p0.Rings,iI p0.Room],.box [iI p2.Node,iI p2.Lane],.box [iI x2.Kind,iI x2.A,sL encI x2.In,sL encI x2.Out],.box [iI x4.1.Key,iI x4.1.Val,iI x4.1.Dep]]) rfl rfl rfl (Vla (v:=.tup [.agg [iI x13.1.Key,iI x13.1.Val,iI x13.1.Dep],.ref 0,iI x13.2.2]) (obs:=[aR 46 3 Qaa x13.2.1]) (v':=.tup [.agg [iI x13.1.Key,iI x13.1.Val,iI x13.1.Dep],.ref 12,iI x13.2.2]) (Vza x12 x13 hx13) (⟨Qia Qma _,trivial⟩) rfl (Zha (J3a fun _=>rfl) Zua) rfl rfl (rt0 23 rfl (Qwa (v:=.tup [.agg [iI x13.1.Key,iI x13.1.Val,iI x13.1.Dep],.ref 12,iI x13.2.2]) rfl (rt0 24 rfl (Qxa (v:=.agg [iI x13.1.Key,iI x13.1.Val,iI x13.1.Dep]) rfl rfl (rt0 25 rfl (Qxa (v:=.ref 12) rfl rfl (rt0 26 rfl (Qxa (v:=iI x13.2.2) rfl rfl (ra1 3 (RO.op rfl rfl (Qea rfl rfl (Qha Ty.k25 (c:=.ref 2) rfl (rt0 27 rfl (Q5a (en:=(encL Qaa)) Ty.s25 rfl rfl rfl hx14 ?_))))))))))))))))
           exact raS hS53 ⟨rfl,rfl,rfl,rfl,rfl,rfl,rfl,rfl,rfl,rfl,rfl,rfl,rfl,rfl,rfl,rfl,rfl,rfl,rfl,rfl,rfl,rfl,rfl,rfl,rfl,rfl,rfl,rfl,rfl,rfl,rfl,rfl,rfl,rfl,rfl,rfl,rfl,rfl,rfl,rfl,rfl,rfl,rfl,rfl,rfl,rfl,rfl,rfl,rfl,rfl,rfl,rfl,rfl,rfl,rfl,rfl,trivial⟩
         ·refine RA.join 8 #[true,true,true,true,true,true,true,true,true,true,true,true,true,true,true,true,true,true,true,true,true,false,false,false,false,false,false,false,false] (mkA 162 ((44,.ptr 0 0)::(45,.ptr 0 0)::(46,.ptr 0 1)::(47,.ref 2)::(48,.ptr 10 2)::(49,sL encI x2.In)::(50,.ptr 9 1)::(51,iI p2.Lane)::(52,.elt (encI x9) 0)::(53,iI x9)::(54,.ptr 0 0)::(55,.ptr 0 0)::(56,.ptr 0 1)::(57,.ref 2)::(58,.ptr 10 2)::(59,sL encI x2.In)::(60,.ptr 9 1)::(61,iI p2.Lane)::(62,.elt (encI x10) 0)::(63,iI x10)::(64,.aptr 2 1 x11 0)::l71)) a71 ?_ (fun hS60=>?_)
          ·refine ra1 21 (RO.op rfl rfl (Q6a (en:=(encL Qaa)) (a:=x12) rfl rfl hx12 (Qha Ty.k29 (c:=sL Qaa x12) rfl ?_)))
           exact raS hS57 ⟨rfl,rfl,rfl,rfl,rfl,rfl,rfl,rfl,rfl,rfl,rfl,rfl,rfl,rfl,rfl,rfl,rfl,rfl,rfl,rfl,rfl,rfl,rfl,rfl,rfl,rfl,rfl,rfl,rfl,rfl,rfl,rfl,rfl,rfl,rfl,rfl,rfl,rfl,rfl,rfl,rfl,rfl,rfl,rfl,rfl,rfl,rfl,rfl,rfl,rfl,trivial⟩
          ·refine RA.join 9 #[true,true,true,false,true,true,true,true,true,false,true,true,true,true,true,true,true,true,true,true,true,true,false,false,false,false,false,false,false] (mkA 162 ((44,.ptr 0 0)::(45,.ptr 0 0)::(46,.ptr 0 1)::(48,.ptr 10 2)::(49,sL encI x2.In)::(50,.ptr 9 1)::(51,iI p2.Lane)::(52,.elt (encI x9) 0)::(54,.ptr 0 0)::(55,.ptr 0 0)::(56,.ptr 0 1)::(57,.ref 2)::(58,.ptr 10 2)::(59,sL encI x2.In)::(60,.ptr 9 1)::(61,iI p2.Lane)::(62,.elt (encI x10) 0)::(63,iI x10)::(64,.aptr 2 1 x11 0)::(65,sL Qaa x12)::l71)) a71 ?_ (fun hS61=>?_)
           ·refine ra3 3 9 22 ?_ ?_ ?_
            ·refine RO.op rfl rfl (Qea rfl rfl (Qha Ty.k25 (c:=.ref 2) rfl ?_))
             exact raS hS58 ⟨rfl,rfl,rfl,rfl,rfl,rfl,rfl,rfl,rfl,rfl,rfl,rfl,rfl,rfl,rfl,rfl,rfl,rfl,rfl,rfl,rfl,rfl,rfl,rfl,rfl,rfl,rfl,rfl,rfl,rfl,rfl,rfl,rfl,rfl,rfl,rfl,rfl,rfl,rfl,rfl,rfl,rfl,rfl,rfl,rfl,rfl,rfl,rfl,rfl,trivial⟩
            ·refine RO.op rfl rfl (Jaa rfl (Qha Ty.k3 (c:=iI x9) rfl ?_))
             exact raS hS59 ⟨rfl,rfl,rfl,rfl,rfl,rfl,rfl,rfl,rfl,rfl,rfl,rfl,rfl,rfl,rfl,rfl,rfl,rfl,rfl,rfl,rfl,rfl,rfl,rfl,rfl,rfl,rfl,rfl,rfl,rfl,rfl,rfl,rfl,rfl,rfl,rfl,rfl,rfl,rfl,rfl,rfl,rfl,rfl,rfl,rfl,rfl,rfl,rfl,rfl,trivial⟩
            ·refine RO.op rfl rfl (Jfa (as0:=[sL Qaa x12]) (as1:=[sL Qaa x12]) (caps:=[]) (aw1:=[.box [.ref 1,.ref 2,.ref 3,.ref 7,.ref 6],aR 3 1 encI p3,aR 29 1 (encL Qaa) p4,aR 66 3 Qba p5,.dead,.dead,aR 46 3 Qaa p7,aR 94 2 Qca p6,.box [sL Qga p0.Nodes,iI p0.Rings,iI p0.Room],.box [iI p2.Node,iI p2.Lane],.box [iI x2.Kind,iI x2.A,sL encI x2.In,sL encI x2.Out],.box [iI x4.1.Key,iI x4.1.Val,iI x4.1.Dep]]) rfl rfl rfl (Vla (v:=.tup [.agg [iI x13.1.Key,iI x13.1.Val,iI x13.1.Dep],.ref 0,iI x13.2.2]) (obs:=[aR 46 3 Qaa x13.2.1]) (v':=.tup [.agg [iI x13.1.Key,iI x13.1.Val,iI x13.1.Dep],.ref 12,iI x13.2.2]) (Vza x12 x13 hx13) (⟨Qia Qma _,trivial⟩) rfl (Zha (J3a fun _=>rfl) Zua) rfl rfl (rt0 23 rfl (Qwa (v:=.tup [.agg [iI x13.1.Key,iI x13.1.Val,iI x13.1.Dep],.ref 12,iI x13.2.2]) rfl (rt0 24 rfl (Qxa (v:=.agg [iI x13.1.Key,iI x13.1.Val,iI x13.1.Dep]) rfl rfl (rt0 25 rfl (Qxa (v:=.ref 12) rfl rfl (rt0 26 rfl (Qxa (v:=iI x13.2.2) rfl rfl (rl0 [3,27,28] 3 rfl (Q1a rfl rfl (Qha Ty.k25 (c:=.ref 2) rfl ?_)))))))))))))
             exact raS hS54 ⟨rfl,rfl,rfl,rfl,rfl,rfl,rfl,rfl,rfl,rfl,rfl,rfl,rfl,rfl,rfl,rfl,rfl,rfl,rfl,rfl,rfl,rfl,rfl,rfl,rfl,rfl,rfl,rfl,rfl,rfl,rfl,rfl,rfl,rfl,rfl,rfl,rfl,rfl,rfl,rfl,rfl,rfl,rfl,rfl,rfl,rfl,rfl,rfl,rfl,rfl,rfl,rfl,rfl,rfl,trivial⟩
           ·refine RA.join 9 #[true,true,true,true,true,true,true,true,true,false,true,true,true,true,true,true,true,true,true,true,true,false,false,false,false,false,false,false,false] (mkA 162 ((44,.ptr 0 0)::(45,.ptr 0 0)::(46,.ptr 0 1)::(47,.ref 2)::(48,.ptr 10 2)::(49,sL encI x2.In)::(50,.ptr 9 1)::(51,iI p2.Lane)::(52,.elt (encI x9) 0)::(54,.ptr 0 0)::(55,.ptr 0 0)::(56,.ptr 0 1)::(57,.ref 2)::(58,.ptr 10 2)::(59,sL encI x2.In)::(60,.ptr 9 1)::(61,iI p2.Lane)::(62,.elt (encI x10) 0)::(63,iI x10)::(64,.aptr 2 1 x11 0)::l71)) a71 ?_ (fun hS62=>?_)
            ·refine ra2 9 21 ?_ ?_
             ·refine RO.op rfl rfl (Jaa rfl (Qha Ty.k3 (c:=iI x9) rfl ?_))
              exact raS hS60 ⟨rfl,rfl,rfl,rfl,rfl,rfl,rfl,rfl,rfl,rfl,rfl,rfl,rfl,rfl,rfl,rfl,rfl,rfl,rfl,rfl,rfl,rfl,rfl,rfl,rfl,rfl,rfl,rfl,rfl,rfl,rfl,rfl,rfl,rfl,rfl,rfl,rfl,rfl,rfl,rfl,rfl,rfl,rfl,rfl,rfl,rfl,rfl,rfl,rfl,trivial⟩
             ·refine RO.op rfl rfl (Q6a (en:=(encL Qaa)) (a:=x12) rfl rfl hx12 (Qha Ty.k29 (c:=sL Qaa x12) rfl ?_))
              exact raS hS58 ⟨rfl,rfl,rfl,rfl,rfl,rfl,rfl,rfl,rfl,rfl,rfl,rfl,rfl,rfl,rfl,rfl,rfl,rfl,rfl,rfl,rfl,rfl,rfl,rfl,rfl,rfl,rfl,rfl,rfl,rfl,rfl,rfl,rfl,rfl,rfl,rfl,rfl,rfl,rfl,rfl,rfl,rfl,rfl,rfl,rfl,rfl,rfl,rfl,rfl,trivial⟩
            ·refine RA.join 10 #[true,true,true,true,true,false,true,true,false,false,true,true,true,true,true,true,true,true,true,true,true,true,false,false,false,false,false,false,false] (mkA 162 ((44,.ptr 0 0)::(45,.ptr 0 0)::(46,.ptr 0 1)::(47,.ref 2)::(48,.ptr 10 2)::(50,.ptr 9 1)::(51,iI p2.Lane)::(54,.ptr 0 0)::(55,.ptr 0 0)::(56,.ptr 0 1)::(57,.ref 2)::(58,.ptr 10 2)::(59,sL encI x2.In)::(60,.ptr 9 1)::(61,iI p2.Lane)::(62,.elt (encI x10) 0)::(63,iI x10)::(64,.aptr 2 1 x11 0)::(65,sL Qaa x12)::l71)) a71 ?_ (fun hS63=>?_)
             ·refine ra2 5 22 ?_ ?_
              ·refine RO.op rfl rfl (Qea rfl rfl (Qha Ty.k26 (c:=sL encI x2.In) rfl (rt0 8 rfl (Q0a Ty.s26 (fun _=>rfl) rfl rfl hx9 ?_))))
               exact raS hS58 ⟨rfl,rfl,rfl,rfl,rfl,rfl,rfl,rfl,rfl,rfl,rfl,rfl,rfl,rfl,rfl,rfl,rfl,rfl,rfl,rfl,rfl,rfl,rfl,rfl,rfl,rfl,rfl,rfl,rfl,rfl,rfl,rfl,rfl,rfl,rfl,rfl,rfl,rfl,rfl,rfl,rfl,rfl,rfl,rfl,rfl,rfl,rfl,rfl,rfl,trivial⟩
              ·refine RO.op rfl rfl (Jfa (as0:=[sL Qaa x12]) (as1:=[sL Qaa x12]) (caps:=[]) (aw1:=[.box [.ref 1,.ref 2,.ref 3,.ref 7,.ref 6],aR 3 1 encI p3,aR 29 1 (encL Qaa) p4,aR 66 3 Qba p5,.dead,.dead,aR 46 3 Qaa p7,aR 94 2 Qca p6,.box [sL Qga p0.Nodes,iI p0.Rings,iI p0.Room],.box [iI p2.Node,iI p2.Lane],.box [iI x2.Kind,iI x2.A,sL encI x2.In,sL encI x2.Out],.box [iI x4.1.Key,iI x4.1.Val,iI x4.1.Dep]]) rfl rfl rfl (Vla (v:=.tup [.agg [iI x13.1.Key,iI x13.1.Val,iI x13.1.Dep],.ref 0,iI x13.2.2]) (obs:=[aR 46 3 Qaa x13.2.1]) (v':=.tup [.agg [iI x13.1.Key,iI x13.1.Val,iI x13.1.Dep],.ref 12,iI x13.2.2]) (Vza x12 x13 hx13) (⟨Qia Qma _,trivial⟩) rfl (Zha (J3a fun _=>rfl) Zua) rfl rfl (rt0 23 rfl (Qwa (v:=.tup [.agg [iI x13.1.Key,iI x13.1.Val,iI x13.1.Dep],.ref 12,iI x13.2.2]) rfl (rt0 24 rfl (Qxa (v:=.agg [iI x13.1.Key,iI x13.1.Val,iI x13.1.Dep]) rfl rfl (rt0 25 rfl (Qxa (v:=.ref 12) rfl rfl (rt0 26 rfl (Qxa (v:=iI x13.2.2) rfl rfl ?_))))))))))
               exact raS hS56 ⟨rfl,rfl,rfl,rfl,rfl,rfl,rfl,rfl,rfl,rfl,rfl,rfl,rfl,rfl,rfl,rfl,rfl,rfl,rfl,rfl,rfl,rfl,rfl,rfl,rfl,rfl,rfl,rfl,rfl,rfl,rfl,rfl,rfl,rfl,rfl,rfl,rfl,rfl,rfl,rfl,rfl,rfl,rfl,rfl,rfl,rfl,rfl,rfl,rfl,rfl,rfl,rfl,trivial⟩
             ·refine RA.join 10 #[true,true,true,true,true,true,true,false,false,false,true,true,true,true,true,true,true,true,true,true,true,true,false,false,false,false,false,false,false] (mkA 162 ((44,.ptr 0 0)::(45,.ptr 0 0)::(46,.ptr 0 1)::(47,.ref 2)::(48,.ptr 10 2)::(49,sL encI x2.In)::(50,.ptr 9 1)::(54,.ptr 0 0)::(55,.ptr 0 0)::(56,.ptr 0 1)::(57,.ref 2)::(58,.ptr 10 2)::(59,sL encI x2.In)::(60,.ptr 9 1)::(61,iI p2.Lane)::(62,.elt (encI x10) 0)::(63,iI x10)::(64,.aptr 2 1 x11 0)::(65,sL Qaa x12)::l71)) a71 ?_ (fun hS64=>?_)
              ·refine ra2 7 22 ?_ ?_
               ·refine RO.op rfl rfl (Qea rfl rfl (Qha Ty.k3 (c:=iI p2.Lane) rfl (rt0 8 rfl (Q0a Ty.s26 (fun _=>rfl) rfl rfl hx9 ?_))))
                exact raS hS58 ⟨rfl,rfl,rfl,rfl,rfl,rfl,rfl,rfl,rfl,rfl,rfl,rfl,rfl,rfl,rfl,rfl,rfl,rfl,rfl,rfl,rfl,rfl,rfl,rfl,rfl,rfl,rfl,rfl,rfl,rfl,rfl,rfl,rfl,rfl,rfl,rfl,rfl,rfl,rfl,rfl,rfl,rfl,rfl,rfl,rfl,rfl,rfl,rfl,rfl,trivial⟩
               ·refine RO.op rfl rfl (Jfa (as0:=[sL Qaa x12]) (as1:=[sL Qaa x12]) (caps:=[]) (aw1:=[.box [.ref 1,.ref 2,.ref 3,.ref 7,.ref 6],aR 3 1 encI p3,aR 29 1 (encL Qaa) p4,aR 66 3 Qba p5,.dead,.dead,aR 46 3 Qaa p7,aR 94 2 Qca p6,.box [sL Qga p0.Nodes,iI p0.Rings,iI p0.Room],.box [iI p2.Node,iI p2.Lane],.box [iI x2.Kind,iI x2.A,sL encI x2.In,sL encI x2.Out],.box [iI x4.1.Key,iI x4.1.Val,iI x4.1.Dep]]) rfl rfl rfl (Vla (v:=.tup [.agg [iI x13.1.Key,iI x13.1.Val,iI x13.1.Dep],.ref 0,iI x13.2.2]) (obs:=[aR 46 3 Qaa x13.2.1]) (v':=.tup [.agg [iI x13.1.Key,iI x13.1.Val,iI x13.1.Dep],.ref 12,iI x13.2.2]) (Vza x12 x13 hx13) (⟨Qia Qma _,trivial⟩) rfl (Zha (J3a fun _=>rfl) Zua) rfl rfl (rt0 23 rfl (Qwa (v:=.tup [.agg [iI x13.1.Key,iI x13.1.Val,iI x13.1.Dep],.ref 12,iI x13.2.2]) rfl (rt0 24 rfl (Qxa (v:=.agg [iI x13.1.Key,iI x13.1.Val,iI x13.1.Dep]) rfl rfl (rt0 25 rfl (Qxa (v:=.ref 12) rfl rfl (rt0 26 rfl (Qxa (v:=iI x13.2.2) rfl rfl ?_))))))))))
                exact raS hS55 ⟨rfl,rfl,rfl,rfl,rfl,rfl,rfl,rfl,rfl,rfl,rfl,rfl,rfl,rfl,rfl,rfl,rfl,rfl,rfl,rfl,rfl,rfl,rfl,rfl,rfl,rfl,rfl,rfl,rfl,rfl,rfl,rfl,rfl,rfl,rfl,rfl,rfl,rfl,rfl,rfl,rfl,rfl,rfl,rfl,rfl,rfl,rfl,rfl,rfl,rfl,rfl,rfl,trivial⟩
              ·refine RA.join 10 #[true,true,true,false,true,true,true,true,true,false,true,true,true,true,true,true,true,true,true,true,true,false,false,false,false,false,false,false,false] (mkA 162 ((44,.ptr 0 0)::(45,.ptr 0 0)::(46,.ptr 0 1)::(48,.ptr 10 2)::(49,sL encI x2.In)::(50,.ptr 9 1)::(51,iI p2.Lane)::(52,.elt (encI x9) 0)::(54,.ptr 0 0)::(55,.ptr 0 0)::(56,.ptr 0 1)::(57,.ref 2)::(58,.ptr 10 2)::(59,sL encI x2.In)::(60,.ptr 9 1)::(61,iI p2.Lane)::(62,.elt (encI x10) 0)::(63,iI x10)::(64,.aptr 2 1 x11 0)::l71)) a71 ?_ (fun hS65=>?_)
               ·refine ra3 3 9 21 ?_ ?_ ?_
                ·refine RO.op rfl rfl (Qea rfl rfl (Qha Ty.k25 (c:=.ref 2) rfl ?_))
                 exact raS hS62 ⟨rfl,rfl,rfl,rfl,rfl,rfl,rfl,rfl,rfl,rfl,rfl,rfl,rfl,rfl,rfl,rfl,rfl,rfl,rfl,rfl,rfl,rfl,rfl,rfl,rfl,rfl,rfl,rfl,rfl,rfl,rfl,rfl,rfl,rfl,rfl,rfl,rfl,rfl,rfl,rfl,rfl,rfl,rfl,rfl,rfl,rfl,rfl,rfl,trivial⟩
                ·refine RO.op rfl rfl (Jaa rfl (Qha Ty.k3 (c:=iI x9) rfl (ra2 3 21 ?_ ?_)))
                 ·refine RO.op rfl rfl (Qea rfl rfl (Qha Ty.k25 (c:=.ref 2) rfl ?_))
                  exact raS hS60 ⟨rfl,rfl,rfl,rfl,rfl,rfl,rfl,rfl,rfl,rfl,rfl,rfl,rfl,rfl,rfl,rfl,rfl,rfl,rfl,rfl,rfl,rfl,rfl,rfl,rfl,rfl,rfl,rfl,rfl,rfl,rfl,rfl,rfl,rfl,rfl,rfl,rfl,rfl,rfl,rfl,rfl,rfl,rfl,rfl,rfl,rfl,rfl,rfl,rfl,trivial⟩
                 ·refine RO.op rfl rfl (Q6a (en:=(encL Qaa)) (a:=x12) rfl rfl hx12 (Qha Ty.k29 (c:=sL Qaa x12) rfl ?_))
                  exact raS hS59 ⟨rfl,rfl,rfl,rfl,rfl,rfl,rfl,rfl,rfl,rfl,rfl,rfl,rfl,rfl,rfl,rfl,rfl,rfl,rfl,rfl,rfl,rfl,rfl,rfl,rfl,rfl,rfl,rfl,rfl,rfl,rfl,rfl,rfl,rfl,rfl,rfl,rfl,rfl,rfl,rfl,rfl,rfl,rfl,rfl,rfl,rfl,rfl,rfl,rfl,trivial⟩
                ·refine RO.op rfl rfl (Q6a (en:=(encL Qaa)) (a:=x12) rfl rfl hx12 (Qha Ty.k29 (c:=sL Qaa x12) rfl ?_))
                 exact raS hS61 ⟨rfl,rfl,rfl,rfl,rfl,rfl,rfl,rfl,rfl,rfl,rfl,rfl,rfl,rfl,rfl,rfl,rfl,rfl,rfl,rfl,rfl,rfl,rfl,rfl,rfl,rfl,rfl,rfl,rfl,rfl,rfl,rfl,rfl,rfl,rfl,rfl,rfl,rfl,rfl,rfl,rfl,rfl,rfl,rfl,rfl,rfl,rfl,rfl,trivial⟩
               ·refine RA.join 11 #[true,true,true,true,true,false,true,false,false,false,true,true,true,true,true,true,true,true,true,true,true,true,false,false,false,false,false,false,false] (mkA 162 ((44,.ptr 0 0)::(45,.ptr 0 0)::(46,.ptr 0 1)::(47,.ref 2)::(48,.ptr 10 2)::(50,.ptr 9 1)::(54,.ptr 0 0)::(55,.ptr 0 0)::(56,.ptr 0 1)::(57,.ref 2)::(58,.ptr 10 2)::(59,sL encI x2.In)::(60,.ptr 9 1)::(61,iI p2.Lane)::(62,.elt (encI x10) 0)::(63,iI x10)::(64,.aptr 2 1 x11 0)::(65,sL Qaa x12)::l71)) a71 ?_ (fun hS66=>?_)
                ·refine ra3 5 7 22 ?_ ?_ ?_
                 ·refine RO.op rfl rfl (Qea rfl rfl (Qha Ty.k26 (c:=sL encI x2.In) rfl ?_))
                  exact raS hS64 ⟨rfl,rfl,rfl,rfl,rfl,rfl,rfl,rfl,rfl,rfl,rfl,rfl,rfl,rfl,rfl,rfl,rfl,rfl,rfl,rfl,rfl,rfl,rfl,rfl,rfl,rfl,rfl,rfl,rfl,rfl,rfl,rfl,rfl,rfl,rfl,rfl,rfl,rfl,rfl,rfl,rfl,rfl,rfl,rfl,rfl,rfl,rfl,trivial⟩
                 ·refine RO.op rfl rfl (Qea rfl rfl (Qha Ty.k3 (c:=iI p2.Lane) rfl ?_))
                  exact raS hS63 ⟨rfl,rfl,rfl,rfl,rfl,rfl,rfl,rfl,rfl,rfl,rfl,rfl,rfl,rfl,rfl,rfl,rfl,rfl,rfl,rfl,rfl,rfl,rfl,rfl,rfl,rfl,rfl,rfl,rfl,rfl,rfl,rfl,rfl,rfl,rfl,rfl,rfl,rfl,rfl,rfl,rfl,rfl,rfl,rfl,rfl,rfl,rfl,trivial⟩
                 ·refine RO.op rfl rfl (Jfa (as0:=[sL Qaa x12]) (as1:=[sL Qaa x12]) (caps:=[]) (aw1:=[.box [.ref 1,.ref 2,.ref 3,.ref 7,.ref 6],aR 3 1 encI p3,aR 29 1 (encL Qaa) p4,aR 66 3 Qba p5,.dead,.dead,aR 46 3 Qaa p7,aR 94 2 Qca p6,.box [sL Qga p0.Nodes,iI p0.Rings,iI p0.Room],.box [iI p2.Node,iI p2.Lane],.box [iI x2.Kind,iI x2.A,sL encI x2.In,sL encI x2.Out],.box [iI x4.1.Key,iI x4.1.Val,iI x4.1.Dep]]) rfl rfl rfl (Vla (v:=.tup [.agg [iI x13.1.Key,iI x13.1.Val,iI x13.1.Dep],.ref 0,iI x13.2.2]) (obs:=[aR 46 3 Qaa x13.2.1]) (v':=.tup [.agg [iI x13.1.Key,iI x13.1.Val,iI x13.1.Dep],.ref 12,iI x13.2.2]) (Vza x12 x13 hx13) (⟨Qia Qma _,trivial⟩) rfl (Zha (J3a fun _=>rfl) Zua) rfl rfl (rt0 23 rfl (Qwa (v:=.tup [.agg [iI x13.1.Key,iI x13.1.Val,iI x13.1.Dep],.ref 12,iI x13.2.2]) rfl (rt0 24 rfl (Qxa (v:=.agg [iI x13.1.Key,iI x13.1.Val,iI x13.1.Dep]) rfl rfl (rt0 25 rfl (Qxa (v:=.ref 12) rfl rfl (rt0 26 rfl (Qxa (v:=iI x13.2.2) rfl rfl (rl0 [5,8,9,27,28] 5 rfl (Q1a rfl rfl (Qha Ty.k26 (c:=sL encI x2.In) rfl ?_)))))))))))))
                  exact raS hS55 ⟨rfl,rfl,rfl,rfl,rfl,rfl,rfl,rfl,rfl,rfl,rfl,rfl,rfl,rfl,rfl,rfl,rfl,rfl,rfl,rfl,rfl,rfl,rfl,rfl,rfl,rfl,rfl,rfl,rfl,rfl,rfl,rfl,rfl,rfl,rfl,rfl,rfl,rfl,rfl,rfl,rfl,rfl,rfl,rfl,rfl,rfl,rfl,rfl,rfl,rfl,rfl,rfl,trivial⟩
                ·refine RA.join 11 #[true,true,true,false,true,true,true,false,false,false,true,true,true,true,true,true,true,true,true,true,true,true,false,false,false,false,false,false,false] (mkA 162 ((44,.ptr 0 0)::(45,.ptr 0 0)::(46,.ptr 0 1)::(48,.ptr 10 2)::(49,sL encI x2.In)::(50,.ptr 9 1)::(54,.ptr 0 0)::(55,.ptr 0 0)::(56,.ptr 0 1)::(57,.ref 2)::(58,.ptr 10 2)::(59,sL encI x2.In)::(60,.ptr 9 1)::(61,iI p2.Lane)::(62,.elt (encI x10) 0)::(63,iI x10)::(64,.aptr 2 1 x11 0)::(65,sL Qaa x12)::l71)) a71 ?_ (fun hS67=>?_)
                 ·refine ra3 3 7 22 ?_ ?_ ?_
                  ·refine RO.op rfl rfl (Qea rfl rfl (Qha Ty.k25 (c:=.ref 2) rfl ?_))
                   exact raS hS64 ⟨rfl,rfl,rfl,rfl,rfl,rfl,rfl,rfl,rfl,rfl,rfl,rfl,rfl,rfl,rfl,rfl,rfl,rfl,rfl,rfl,rfl,rfl,rfl,rfl,rfl,rfl,rfl,rfl,rfl,rfl,rfl,rfl,rfl,rfl,rfl,rfl,rfl,rfl,rfl,rfl,rfl,rfl,rfl,rfl,rfl,rfl,rfl,trivial⟩
                  ·refine RO.op rfl rfl (Qea rfl rfl (Qha Ty.k3 (c:=iI p2.Lane) rfl (rt0 8 rfl (Q0a Ty.s26 (fun _=>rfl) rfl rfl hx9 ?_))))
                   exact raS hS61 ⟨rfl,rfl,rfl,rfl,rfl,rfl,rfl,rfl,rfl,rfl,rfl,rfl,rfl,rfl,rfl,rfl,rfl,rfl,rfl,rfl,rfl,rfl,rfl,rfl,rfl,rfl,rfl,rfl,rfl,rfl,rfl,rfl,rfl,rfl,rfl,rfl,rfl,rfl,rfl,rfl,rfl,rfl,rfl,rfl,rfl,rfl,rfl,rfl,trivial⟩
                  ·refine RO.op rfl rfl (Jfa (as0:=[sL Qaa x12]) (as1:=[sL Qaa x12]) (caps:=[]) (aw1:=[.box [.ref 1,.ref 2,.ref 3,.ref 7,.ref 6],aR 3 1 encI p3,aR 29 1 (encL Qaa) p4,aR 66 3 Qba p5,.dead,.dead,aR 46 3 Qaa p7,aR 94 2 Qca p6,.box [sL Qga p0.Nodes,iI p0.Rings,iI p0.Room],.box [iI p2.Node,iI p2.Lane],.box [iI x2.Kind,iI x2.A,sL encI x2.In,sL encI x2.Out],.box [iI x4.1.Key,iI x4.1.Val,iI x4.1.Dep]]) rfl rfl rfl (Vla (v:=.tup [.agg [iI x13.1.Key,iI x13.1.Val,iI x13.1.Dep],.ref 0,iI x13.2.2]) (obs:=[aR 46 3 Qaa x13.2.1]) (v':=.tup [.agg [iI x13.1.Key,iI x13.1.Val,iI x13.1.Dep],.ref 12,iI x13.2.2]) (Vza x12 x13 hx13) (⟨Qia Qma _,trivial⟩) rfl (Zha (J3a fun _=>rfl) Zua) rfl rfl (rt0 23 rfl (Qwa (v:=.tup [.agg [iI x13.1.Key,iI x13.1.Val,iI x13.1.Dep],.ref 12,iI x13.2.2]) rfl (rt0 24 rfl (Qxa (v:=.agg [iI x13.1.Key,iI x13.1.Val,iI x13.1.Dep]) rfl rfl (rt0 25 rfl (Qxa (v:=.ref 12) rfl rfl (rt0 26 rfl (Qxa (v:=iI x13.2.2) rfl rfl (rl0 [3,27,28] 3 rfl (Q1a rfl rfl (Qha Ty.k25 (c:=.ref 2) rfl ?_)))))))))))))
                   exact raS hS55 ⟨rfl,rfl,rfl,rfl,rfl,rfl,rfl,rfl,rfl,rfl,rfl,rfl,rfl,rfl,rfl,rfl,rfl,rfl,rfl,rfl,rfl,rfl,rfl,rfl,rfl,rfl,rfl,rfl,rfl,rfl,rfl,rfl,rfl,rfl,rfl,rfl,rfl,rfl,rfl,rfl,rfl,rfl,rfl,rfl,rfl,rfl,rfl,rfl,rfl,rfl,rfl,rfl,trivial⟩
                 ·refine RA.join 11 #[true,true,true,false,true,false,true,true,false,false,true,true,true,true,true,true,true,true,true,true,true,true,false,false,false,false,false,false,false] (mkA 162 ((44,.ptr 0 0)::(45,.ptr 0 0)::(46,.ptr 0 1)::(48,.ptr 10 2)::(50,.ptr 9 1)::(51,iI p2.Lane)::(54,.ptr 0 0)::(55,.ptr 0 0)::(56,.ptr 0 1)::(57,.ref 2)::(58,.ptr 10 2)::(59,sL encI x2.In)::(60,.ptr 9 1)::(61,iI p2.Lane)::(62,.elt (encI x10) 0)::(63,iI x10)::(64,.aptr 2 1 x11 0)::(65,sL Qaa x12)::l71)) a71 ?_ (fun hS68=>?_)
                  ·refine ra3 3 5 22 ?_ ?_ ?_
                   ·refine RO.op rfl rfl (Qea rfl rfl (Qha Ty.k25 (c:=.ref 2) rfl ?_))
                    exact raS hS63 ⟨rfl,rfl,rfl,rfl,rfl,rfl,rfl,rfl,rfl,rfl,rfl,rfl,rfl,rfl,rfl,rfl,rfl,rfl,rfl,rfl,rfl,rfl,rfl,rfl,rfl,rfl,rfl,rfl,rfl,rfl,rfl,rfl,rfl,rfl,rfl,rfl,rfl,rfl,rfl,rfl,rfl,rfl,rfl,rfl,rfl,rfl,rfl,trivial⟩
                   ·refine RO.op rfl rfl (Qea rfl rfl (Qha Ty.k26 (c:=sL encI x2.In) rfl (rt0 8 rfl (Q0a Ty.s26 (fun _=>rfl) rfl rfl hx9 ?_))))
                    exact raS hS61 ⟨rfl,rfl,rfl,rfl,rfl,rfl,rfl,rfl,rfl,rfl,rfl,rfl,rfl,rfl,rfl,rfl,rfl,rfl,rfl,rfl,rfl,rfl,rfl,rfl,rfl,rfl,rfl,rfl,rfl,rfl,rfl,rfl,rfl,rfl,rfl,rfl,rfl,rfl,rfl,rfl,rfl,rfl,rfl,rfl,rfl,rfl,rfl,rfl,trivial⟩
                   ·refine RO.op rfl rfl (Jfa (as0:=[sL Qaa x12]) (as1:=[sL Qaa x12]) (caps:=[]) (aw1:=[.box [.ref 1,.ref 2,.ref 3,.ref 7,.ref 6],aR 3 1 encI p3,aR 29 1 (encL Qaa) p4,aR 66 3 Qba p5,.dead,.dead,aR 46 3 Qaa p7,aR 94 2 Qca p6,.box [sL Qga p0.Nodes,iI p0.Rings,iI p0.Room],.box [iI p2.Node,iI p2.Lane],.box [iI x2.Kind,iI x2.A,sL encI x2.In,sL encI x2.Out],.box [iI x4.1.Key,iI x4.1.Val,iI x4.1.Dep]]) rfl rfl rfl (Vla (v:=.tup [.agg [iI x13.1.Key,iI x13.1.Val,iI x13.1.Dep],.ref 0,iI x13.2.2]) (obs:=[aR 46 3 Qaa x13.2.1]) (v':=.tup [.agg [iI x13.1.Key,iI x13.1.Val,iI x13.1.Dep],.ref 12,iI x13.2.2]) (Vza x12 x13 hx13) (⟨Qia Qma _,trivial⟩) rfl (Zha (J3a fun _=>rfl) Zua) rfl rfl (rt0 23 rfl (Qwa (v:=.tup [.agg [iI x13.1.Key,iI x13.1.Val,iI x13.1.Dep],.ref 12,iI x13.2.2]) rfl (rt0 24 rfl (Qxa (v:=.agg [iI x13.1.Key,iI x13.1.Val,iI x13.1.Dep]) rfl rfl (rt0 25 rfl (Qxa (v:=.ref 12) rfl rfl (rt0 26 rfl (Qxa (v:=iI x13.2.2) rfl rfl (rl0 [3,27,28] 3 rfl (Q1a rfl rfl (Qha Ty.k25 (c:=.ref 2) rfl ?_)))))))))))))
                    exact raS hS56 ⟨rfl,rfl,rfl,rfl,rfl,rfl,rfl,rfl,rfl,rfl,rfl,rfl,rfl,rfl,rfl,rfl,rfl,rfl,rfl,rfl,rfl,rfl,rfl,rfl,rfl,rfl,rfl,rfl,rfl,rfl,rfl,rfl,rfl,rfl,rfl,rfl,rfl,rfl,rfl,rfl,rfl,rfl,rfl,rfl,rfl,rfl,rfl,rfl,rfl,rfl,rfl,rfl,trivial⟩
                  ·refine RA.join 11 #[true,true,true,true,true,false,true,true,false,false,true,true,true,true,true,true,true,true,true,true,true,false,false,false,false,false,false,false,false] (mkA 162 ((44,.ptr 0 0)::(45,.ptr 0 0)::(46,.ptr 0 1)::(47,.ref 2)::(48,.ptr 10 2)::(50,.ptr 9 1)::(51,iI p2.Lane)::(54,.ptr 0 0)::(55,.ptr 0 0)::(56,.ptr 0 1)::(57,.ref 2)::(58,.ptr 10 2)::(59,sL encI x2.In)::(60,.ptr 9 1)::(61,iI p2.Lane)::(62,.elt (encI x10) 0)::(63,iI x10)::(64,.aptr 2 1 x11 0)::l71)) a71 ?_ (fun hS69=>?_)
                   ·refine ra2 5 21 ?_ ?_
                    ·refine RO.op rfl rfl (Qea rfl rfl (Qha Ty.k26 (c:=sL encI x2.In) rfl (rt0 8 rfl (Q0a Ty.s26 (fun _=>rfl) rfl rfl hx9 ?_))))
                     exact raS hS62 ⟨rfl,rfl,rfl,rfl,rfl,rfl,rfl,rfl,rfl,rfl,rfl,rfl,rfl,rfl,rfl,rfl,rfl,rfl,rfl,rfl,rfl,rfl,rfl,rfl,rfl,rfl,rfl,rfl,rfl,rfl,rfl,rfl,rfl,rfl,rfl,rfl,rfl,rfl,rfl,rfl,rfl,rfl,rfl,rfl,rfl,rfl,rfl,rfl,trivial⟩
                    ·refine RO.op rfl rfl (Q6a (en:=(encL Qaa)) (a:=x12) rfl rfl hx12 (Qha Ty.k29 (c:=sL Qaa x12) rfl ?_))
                     exact raS hS63 ⟨rfl,rfl,rfl,rfl,rfl,rfl,rfl,rfl,rfl,rfl,rfl,rfl,rfl,rfl,rfl,rfl,rfl,rfl,rfl,rfl,rfl,rfl,rfl,rfl,rfl,rfl,rfl,rfl,rfl,rfl,rfl,rfl,rfl,rfl,rfl,rfl,rfl,rfl,rfl,rfl,rfl,rfl,rfl,rfl,rfl,rfl,rfl,trivial⟩
                   ·refine RA.join 11 #[true,true,true,true,true,true,true,false,false,false,true,true,true,true,true,true,true,true,true,true,true,false,false,false,false,false,false,false,false] (mkA 162 ((44,.ptr 0 0)::(45,.ptr 0 0)::(46,.ptr 0 1)::(47,.ref 2)::(48,.ptr 10 2)::(49,sL encI x2.In)::(50,.ptr 9 1)::(54,.ptr 0 0)::(55,.ptr 0 0)::(56,.ptr 0 1)::(57,.ref 2)::(58,.ptr 10 2)::(59,sL encI x2.In)::(60,.ptr 9 1)::(61,iI p2.Lane)::(62,.elt (encI x10) 0)::(63,iI x10)::(64,.aptr 2 1 x11 0)::l71)) a71 ?_ (fun hS70=>?_)
                    ·refine ra2 7 21 ?_ ?_
                     ·refine RO.op rfl rfl (Qea rfl rfl (Qha Ty.k3 (c:=iI p2.Lane) rfl (rt0 8 rfl (Q0a Ty.s26 (fun _=>rfl) rfl rfl hx9 ?_))))
                      exact raS hS62 ⟨rfl,rfl,rfl,rfl,rfl,rfl,rfl,rfl,rfl,rfl,rfl,rfl,rfl,rfl,rfl,rfl,rfl,rfl,rfl,rfl,rfl,rfl,rfl,rfl,rfl,rfl,rfl,rfl,rfl,rfl,rfl,rfl,rfl,rfl,rfl,rfl,rfl,rfl,rfl,rfl,rfl,rfl,rfl,rfl,rfl,rfl,rfl,rfl,trivial⟩
                     ·refine RO.op rfl rfl (Q6a (en:=(encL Qaa)) (a:=x12) rfl rfl hx12 (Qha Ty.k29 (c:=sL Qaa x12) rfl ?_))
                      exact raS hS64 ⟨rfl,rfl,rfl,rfl,rfl,rfl,rfl,rfl,rfl,rfl,rfl,rfl,rfl,rfl,rfl,rfl,rfl,rfl,rfl,rfl,rfl,rfl,rfl,rfl,rfl,rfl,rfl,rfl,rfl,rfl,rfl,rfl,rfl,rfl,rfl,rfl,rfl,rfl,rfl,rfl,rfl,rfl,rfl,rfl,rfl,rfl,rfl,trivial⟩
                    ·refine rt0 0 rfl (Qwa (v:=.ptr 0 0) rfl (rt0 1 rfl (V3a rfl (rt0 2 rfl (Qda Ty.f31_1 rfl (off':=1) rfl (rt0 4 rfl (Qda Ty.f40_2 rfl (off':=2) rfl (rt0 6 rfl (Qda Ty.f57_1 rfl (off':=1) rfl (rt0 10 rfl (Qwa (v:=.ptr 0 0) rfl (rt0 11 rfl (V3a rfl (rt0 12 rfl (Qda Ty.f31_1 rfl (off':=1) rfl (rt0 14 rfl (Qda Ty.f40_2 rfl (off':=2) rfl (rt0 16 rfl (Qda Ty.f57_1 rfl (off':=1) rfl ?_)))))))))))))))))))
                     refine rl0 [13,20,21,22,23,24,25,26,27,28] 13 rfl (Q1a rfl rfl (Qha Ty.k25 (c:=.ref 2) rfl (rl0 [15,18,19,20,21,22,23,24,25,26,27,28] 15 rfl (Q1a rfl rfl (Qha Ty.k26 (c:=sL encI x2.In) rfl (rl0 [17,18,19,20,21,22,23,24,25,26,27,28] 17 rfl (Q1a rfl rfl (Qha Ty.k3 (c:=iI p2.Lane) rfl (rt0 18 rfl (Q0a Ty.s26 (fun _=>rfl) rfl rfl hx10 (rl0 [19,20,21,22,23,24,25,26,27,28] 19 rfl (Y1a rfl (Qha Ty.k3 (c:=iI x10) rfl (rt0 20 rfl (Q5a (en:=(encL Qaa)) Ty.s25 rfl rfl rfl hx11 (ra4 3 5 7 21 ?_ ?_ ?_ ?_))))))))))))))))
                     ·refine RO.op rfl rfl (Qea rfl rfl (Qha Ty.k25 (c:=.ref 2) rfl (ra3 5 7 21 ?_ ?_ ?_)))
                      ·refine RO.op rfl rfl (Qea rfl rfl (Qha Ty.k26 (c:=sL encI x2.In) rfl ?_))
                       exact raS hS70 ⟨rfl,rfl,rfl,rfl,rfl,rfl,rfl,rfl,rfl,rfl,rfl,rfl,rfl,rfl,rfl,rfl,rfl,rfl,rfl,rfl,rfl,rfl,rfl,rfl,rfl,rfl,rfl,rfl,rfl,rfl,rfl,rfl,rfl,rfl,rfl,rfl,rfl,rfl,rfl,rfl,rfl,rfl,rfl,rfl,rfl,rfl,trivial⟩
                      ·refine RO.op rfl rfl (Qea rfl rfl (Qha Ty.k3 (c:=iI p2.Lane) rfl ?_))
                       exact raS hS69 ⟨rfl,rfl,rfl,rfl,rfl,rfl,rfl,rfl,rfl,rfl,rfl,rfl,rfl,rfl,rfl,rfl,rfl,rfl,rfl,rfl,rfl,rfl,rfl,rfl,rfl,rfl,rfl,rfl,rfl,rfl,rfl,rfl,rfl,rfl,rfl,rfl,rfl,rfl,rfl,rfl,rfl,rfl,rfl,rfl,rfl,rfl,trivial⟩
                      ·refine RO.op rfl rfl (Q6a (en:=(encL Qaa)) (a:=x12) rfl rfl hx12 (Qha Ty.k29 (c:=sL Qaa x12) rfl ?_))
                       exact raS hS66 ⟨rfl,rfl,rfl,rfl,rfl,rfl,rfl,rfl,rfl,rfl,rfl,rfl,rfl,rfl,rfl,rfl,rfl,rfl,rfl,rfl,rfl,rfl,rfl,rfl,rfl,rfl,rfl,rfl,rfl,rfl,rfl,rfl,rfl,rfl,rfl,rfl,rfl,rfl,rfl,rfl,rfl,rfl,rfl,rfl,rfl,rfl,trivial⟩
                     ·refine RO.op rfl rfl (Qea rfl rfl (Qha Ty.k26 (c:=sL encI x2.In) rfl (ra3 3 7 21 ?_ ?_ ?_)))
                      ·refine RO.op rfl rfl (Qea rfl rfl (Qha Ty.k25 (c:=.ref 2) rfl ?_))
                       exact raS hS70 ⟨rfl,rfl,rfl,rfl,rfl,rfl,rfl,rfl,rfl,rfl,rfl,rfl,rfl,rfl,rfl,rfl,rfl,rfl,rfl,rfl,rfl,rfl,rfl,rfl,rfl,rfl,rfl,rfl,rfl,rfl,rfl,rfl,rfl,rfl,rfl,rfl,rfl,rfl,rfl,rfl,rfl,rfl,rfl,rfl,rfl,rfl,trivial⟩
                      ·refine RO.op rfl rfl (Qea rfl rfl (Qha Ty.k3 (c:=iI p2.Lane) rfl (rt0 8 rfl (Q0a Ty.s26 (fun _=>rfl) rfl rfl hx9 ?_))))
                       exact raS hS65 ⟨rfl,rfl,rfl,rfl,rfl,rfl,rfl,rfl,rfl,rfl,rfl,rfl,rfl,rfl,rfl,rfl,rfl,rfl,rfl,rfl,rfl,rfl,rfl,rfl,rfl,rfl,rfl,rfl,rfl,rfl,rfl,rfl,rfl,rfl,rfl,rfl,rfl,rfl,rfl,rfl,rfl,rfl,rfl,rfl,rfl,rfl,rfl,trivial⟩
                      ·refine RO.op rfl rfl (Q6a (en:=(encL Qaa)) (a:=x12) rfl rfl hx12 (Qha Ty.k29 (c:=sL Qaa x12) rfl ?_))
                       exact raS hS67 ⟨rfl,rfl,rfl,rfl,rfl,rfl,rfl,rfl,rfl,rfl,rfl,rfl,rfl,rfl,rfl,rfl,rfl,rfl,rfl,rfl,rfl,rfl,rfl,rfl,rfl,rfl,rfl,rfl,rfl,rfl,rfl,rfl,rfl,rfl,rfl,rfl,rfl,rfl,rfl,rfl,rfl,rfl,rfl,rfl,rfl,rfl,trivial⟩
                     ·refine RO.op rfl rfl (Qea rfl rfl (Qha Ty.k3 (c:=iI p2.Lane) rfl (ra3 3 5 21 ?_ ?_ ?_)))
                      ·refine RO.op rfl rfl (Qea rfl rfl (Qha Ty.k25 (c:=.ref 2) rfl ?_))
                       exact raS hS69 ⟨rfl,rfl,rfl,rfl,rfl,rfl,rfl,rfl,rfl,rfl,rfl,rfl,rfl,rfl,rfl,rfl,rfl,rfl,rfl,rfl,rfl,rfl,rfl,rfl,rfl,rfl,rfl,rfl,rfl,rfl,rfl,rfl,rfl,rfl,rfl,rfl,rfl,rfl,rfl,rfl,rfl,rfl,rfl,rfl,rfl,rfl,trivial⟩
                      ·refine RO.op rfl rfl (Qea rfl rfl (Qha Ty.k26 (c:=sL encI x2.In) rfl (rt0 8 rfl (Q0a Ty.s26 (fun _=>rfl) rfl rfl hx9 ?_))))
                       exact raS hS65 ⟨rfl,rfl,rfl,rfl,rfl,rfl,rfl,rfl,rfl,rfl,rfl,rfl,rfl,rfl,rfl,rfl,rfl,rfl,rfl,rfl,rfl,rfl,rfl,rfl,rfl,rfl,rfl,rfl,rfl,rfl,rfl,rfl,rfl,rfl,rfl,rfl,rfl,rfl,rfl,rfl,rfl,rfl,rfl,rfl,rfl,rfl,rfl,trivial⟩
                      ·refine RO.op rfl rfl (Q6a (en:=(encL Qaa)) (a:=x12) rfl rfl hx12 (Qha Ty.k29 (c:=sL Qaa x12) rfl ?_))
                       exact raS hS68 ⟨rfl,rfl,rfl,rfl,rfl,rfl,rfl,rfl,rfl,rfl,rfl,rfl,rfl,rfl,rfl,rfl,rfl,rfl,rfl,rfl,rfl,rfl,rfl,rfl,rfl,rfl,rfl,rfl,rfl,rfl,rfl,rfl,rfl,rfl,rfl,rfl,rfl,rfl,rfl,rfl,rfl,rfl,rfl,rfl,rfl,rfl,trivial⟩
                     ·refine RO.op rfl rfl (Q6a (en:=(encL Qaa)) (a:=x12) rfl rfl hx12 (Qha Ty.k29 (c:=sL Qaa x12) rfl (ra4 3 5 7 22 ?_ ?_ ?_ ?_)))
                      ·refine RO.op rfl rfl (Qea rfl rfl (Qha Ty.k25 (c:=.ref 2) rfl ?_))
                       exact raS hS66 ⟨rfl,rfl,rfl,rfl,rfl,rfl,rfl,rfl,rfl,rfl,rfl,rfl,rfl,rfl,rfl,rfl,rfl,rfl,rfl,rfl,rfl,rfl,rfl,rfl,rfl,rfl,rfl,rfl,rfl,rfl,rfl,rfl,rfl,rfl,rfl,rfl,rfl,rfl,rfl,rfl,rfl,rfl,rfl,rfl,rfl,rfl,trivial⟩
                      ·refine RO.op rfl rfl (Qea rfl rfl (Qha Ty.k26 (c:=sL encI x2.In) rfl ?_))
                       exact raS hS67 ⟨rfl,rfl,rfl,rfl,rfl,rfl,rfl,rfl,rfl,rfl,rfl,rfl,rfl,rfl,rfl,rfl,rfl,rfl,rfl,rfl,rfl,rfl,rfl,rfl,rfl,rfl,rfl,rfl,rfl,rfl,rfl,rfl,rfl,rfl,rfl,rfl,rfl,rfl,rfl,rfl,rfl,rfl,rfl,rfl,rfl,rfl,trivial⟩
                      ·refine RO.op rfl rfl (Qea rfl rfl (Qha Ty.k3 (c:=iI p2.Lane) rfl ?_))
                       exact raS hS68 ⟨rfl,rfl,rfl,rfl,rfl,rfl,rfl,rfl,rfl,rfl,rfl,rfl,rfl,rfl,rfl,rfl,rfl,rfl,rfl,rfl,rfl,rfl,rfl,rfl,rfl,rfl,rfl,rfl,rfl,rfl,rfl,rfl,rfl,rfl,rfl,rfl,rfl,rfl,rfl,rfl,rfl,rfl,rfl,rfl,rfl,rfl,trivial⟩
                      ·refine RO.op rfl rfl (Jfa (as0:=[sL Qaa x12]) (as1:=[sL Qaa x12]) (caps:=[]) (aw1:=[.box [.ref 1,.ref 2,.ref 3,.ref 7,.ref 6],aR 3 1 encI p3,aR 29 1 (encL Qaa) p4,aR 66 3 Qba p5,.dead,.dead,aR 46 3 Qaa p7,aR 94 2 Qca p6,.box [sL Qga p0.Nodes,iI p0.Rings,iI p0.Room],.box [iI p2.Node,iI p2.Lane],.box [iI x2.Kind,iI x2.A,sL encI x2.In,sL encI x2.Out],.box [iI x4.1.Key,iI x4.1.Val,iI x4.1.Dep]]) rfl rfl rfl (Vla (v:=.tup [.agg [iI x13.1.Key,iI x13.1.Val,iI x13.1.Dep],.ref 0,iI x13.2.2]) (obs:=[aR 46 3 Qaa x13.2.1]) (v':=.tup [.agg [iI x13.1.Key,iI x13.1.Val,iI x13.1.Dep],.ref 12,iI x13.2.2]) (Vza x12 x13 hx13) (⟨Qia Qma _,trivial⟩) rfl (Zha (J3a fun _=>rfl) Zua) rfl rfl (rt0 23 rfl (Qwa (v:=.tup [.agg [iI x13.1.Key,iI x13.1.Val,iI x13.1.Dep],.ref 12,iI x13.2.2]) rfl (rt0 24 rfl (Qxa (v:=.agg [iI x13.1.Key,iI x13.1.Val,iI x13.1.Dep]) rfl rfl (rt0 25 rfl (Qxa (v:=.ref 12) rfl rfl (rt0 26 rfl (Qxa (v:=iI x13.2.2) rfl rfl (rl0 [3,27,28] 3 rfl (Q1a rfl rfl (Qha Ty.k25 (c:=.ref 2) rfl (rl0 [5,8,9,27,28] 5 rfl (Q1a rfl rfl (Qha Ty.k26 (c:=sL encI x2.In) rfl ?_))))))))))))))))
                       exact raS hS55 ⟨rfl,rfl,rfl,rfl,rfl,rfl,rfl,rfl,rfl,rfl,rfl,rfl,rfl,rfl,rfl,rfl,rfl,rfl,rfl,rfl,rfl,rfl,rfl,rfl,rfl,rfl,rfl,rfl,rfl,rfl,rfl,rfl,rfl,rfl,rfl,rfl,rfl,rfl,rfl,rfl,rfl,rfl,rfl,rfl,rfl,rfl,rfl,rfl,rfl,rfl,rfl,rfl,trivial⟩
  ·refine rt0 1 rfl (Qwa (v:=sL (encL Qaa) p1) rfl (rt0 2 rfl (Qwa (v:=.ptr 0 0) rfl (rt0 3 rfl (V3a rfl (rl0 [0,6,7,8,9,11,12] 0 rfl (Q1a rfl rfl (Qna Ty.k24 Ty.c24 rfl (cs:=[sL Qga p0.Nodes,iI p0.Rings,iI p0.Room]) rfl (rl0 [4,6,7,8,9,11,12] 4 rfl (Q1a rfl rfl (Qna Ty.k31 Ty.c31 rfl (cs:=[.ref 1,.ref 2,.ref 3,.ref 7,.ref 6]) rfl (rl0 [5,6,7,8,9,11,12] 5 rfl (Q1a rfl rfl (Qna Ty.k57 Ty.c57 rfl (cs:=[iI p2.Node,iI p2.Lane]) rfl (ra2 6 10 ?_ ?_)))))))))))))))
   ·refine RO.op rfl rfl (Jfa (as0:=[.agg [sL Qga p0.Nodes,iI p0.Rings,iI p0.Room],sL (encL Qaa) p1,.agg [.ref 1,.ref 2,.ref 3,.ref 7,.ref 6],.agg [iI p2.Node,iI p2.Lane]]) (as1:=[.agg [sL Qga p0.Nodes,iI p0.Rings,iI p0.Room],sL (encL Qaa) p1,.agg [sL encI ((⟨p3,p4,p5,p6,p7⟩:State).At),sL (encL Qaa) ((⟨p3,p4,p5,p6,p7⟩:State).Rings),sL Qba ((⟨p3,p4,p5,p6,p7⟩:State).Memory),sL Qca ((⟨p3,p4,p5,p6,p7⟩:State).Choices),sL Qaa ((⟨p3,p4,p5,p6,p7⟩:State).Out)],.agg [iI p2.Node,iI p2.Lane]]) (caps:=[]) (aw1:=[.box [.ref 1,.ref 2,.ref 3,.ref 7,.ref 6],.dead,.dead,.dead,.dead,.dead,.dead,.dead,.box [sL Qga p0.Nodes,iI p0.Rings,iI p0.Room],.box [iI p2.Node,iI p2.Lane],.box [iI x2.Kind,iI x2.A,sL encI x2.In,sL encI x2.Out]]) rfl rfl rfl (Zda (v:=.tup [.agg [iI x4.1.Key,iI x4.1.Val,iI x4.1.Dep],.bool x4.2]) (move_head_c p0 p1 (⟨p3,p4,p5,p6,p7⟩:State) p2 x4 hx4) (⟨Qsa _ (Qka (⟨Qia J1a _,Qfa _ _,Qfa _ _,trivial⟩)),Qia (Jna Qma) _,Qsa _ (Qka (⟨Qia Jta _,Qia (Jna Qma) _,Qia Qya _,Qia Q2a _,Qia Qma _,trivial⟩)),Qsa _ (Qka (⟨Qfa _ _,Qfa _ _,trivial⟩)),trivial⟩) rfl (rt0 7 rfl (Qwa (v:=.tup [.agg [iI x4.1.Key,iI x4.1.Val,iI x4.1.Dep],.bool x4.2]) rfl (rt0 8 rfl (Qxa (v:=.agg [iI x4.1.Key,iI x4.1.Val,iI x4.1.Dep]) rfl rfl (rt0 9 rfl (Qxa (v:=.bool x4.2) rfl rfl (ra1 10 (RO.op rfl rfl (Jja Ty.z46 rfl (aw':=[.box [.ref 1,.ref 2,.ref 3,.ref 7,.ref 6],aR 3 1 encI p3,aR 29 1 (encL Qaa) p4,aR 66 3 Qba p5,.dead,.dead,aR 46 3 Qaa p7,aR 94 2 Qca p6,.box [sL Qga p0.Nodes,iI p0.Rings,iI p0.Room],.box [iI p2.Node,iI p2.Lane],.box [iI x2.Kind,iI x2.A,sL encI x2.In,sL encI x2.Out],.box [iI 0,iI 0,iI 0]]) rfl ?_)))))))))))
    exact raS hS1 ⟨rfl,rfl,rfl,rfl,rfl,rfl,rfl,rfl,rfl,rfl,rfl,rfl,rfl,rfl,rfl,rfl,rfl,rfl,rfl,rfl,rfl,rfl,rfl,rfl,trivial⟩
   ·refine RO.op rfl rfl (Jja Ty.z46 rfl (aw':=[.box [.ref 1,.ref 2,.ref 3,.ref 7,.ref 6],aR 3 1 encI p3,aR 29 1 (encL Qaa) p4,aR 66 3 Qba p5,.dead,.dead,aR 46 3 Qaa p7,aR 94 2 Qca p6,.box [sL Qga p0.Nodes,iI p0.Rings,iI p0.Room],.box [iI p2.Node,iI p2.Lane],.box [iI x2.Kind,iI x2.A,sL encI x2.In,sL encI x2.Out],.box [iI 0,iI 0,iI 0]]) rfl (ra1 6 (RO.op rfl rfl (Jfa (as0:=[.agg [sL Qga p0.Nodes,iI p0.Rings,iI p0.Room],sL (encL Qaa) p1,.agg [.ref 1,.ref 2,.ref 3,.ref 7,.ref 6],.agg [iI p2.Node,iI p2.Lane]]) (as1:=[.agg [sL Qga p0.Nodes,iI p0.Rings,iI p0.Room],sL (encL Qaa) p1,.agg [sL encI ((⟨p3,p4,p5,p6,p7⟩:State).At),sL (encL Qaa) ((⟨p3,p4,p5,p6,p7⟩:State).Rings),sL Qba ((⟨p3,p4,p5,p6,p7⟩:State).Memory),sL Qca ((⟨p3,p4,p5,p6,p7⟩:State).Choices),sL Qaa ((⟨p3,p4,p5,p6,p7⟩:State).Out)],.agg [iI p2.Node,iI p2.Lane]]) (caps:=[]) (aw1:=[.box [.ref 1,.ref 2,.ref 3,.ref 7,.ref 6],.dead,.dead,.dead,.dead,.dead,.dead,.dead,.box [sL Qga p0.Nodes,iI p0.Rings,iI p0.Room],.box [iI p2.Node,iI p2.Lane],.box [iI x2.Kind,iI x2.A,sL encI x2.In,sL encI x2.Out],.box [iI 0,iI 0,iI 0]]) rfl rfl rfl (Zda (v:=.tup [.agg [iI x4.1.Key,iI x4.1.Val,iI x4.1.Dep],.bool x4.2]) (move_head_c p0 p1 (⟨p3,p4,p5,p6,p7⟩:State) p2 x4 hx4) (⟨Qsa _ (Qka (⟨Qia J1a _,Qfa _ _,Qfa _ _,trivial⟩)),Qia (Jna Qma) _,Qsa _ (Qka (⟨Qia Jta _,Qia (Jna Qma) _,Qia Qya _,Qia Q2a _,Qia Qma _,trivial⟩)),Qsa _ (Qka (⟨Qfa _ _,Qfa _ _,trivial⟩)),trivial⟩) rfl (rt0 7 rfl (Qwa (v:=.tup [.agg [iI x4.1.Key,iI x4.1.Val,iI x4.1.Dep],.bool x4.2]) rfl (rt0 8 rfl (Qxa (v:=.agg [iI x4.1.Key,iI x4.1.Val,iI x4.1.Dep]) rfl rfl (rt0 9 rfl (Qxa (v:=.bool x4.2) rfl rfl ?_)))))))))))
    exact raS hS1 ⟨rfl,rfl,rfl,rfl,rfl,rfl,rfl,rfl,rfl,rfl,rfl,rfl,rfl,rfl,rfl,rfl,rfl,rfl,rfl,rfl,rfl,rfl,rfl,rfl,trivial⟩
end Go.Proofs.Ytfbmoockopakjaa
namespace Go.Proofs.Ytfbmoockopakjaa
open Go.RowKit
set_option linter.unusedVariables false
set_option linter.unusedSimpArgs false
set_option maxRecDepth 100000
set_option maxHeartbeats 4000000
theorem move_Play_c (p0:Net) (p1:List (List Item)) (p2:List Int) (r:State × Int) (h:move_Play p0 p1 p2=some r):Fn Try.prog 12 [.agg [sL Qga p0.Nodes,iI p0.Rings,iI p0.Room],sL (encL Qaa) p1,sL encI p2] (.tup [.agg [sL encI r.1.At,sL (encL Qaa) r.1.Rings,sL Qba r.1.Memory,sL Qca r.1.Choices,sL Qaa r.1.Out],iI r.2]):=by
  unfold move_Play at h
  refine Jpa (N:=0) rfl Try.func12 rfl (by kernel_rfl) Try.ntmps12 rfl ?_
  show T _ _ _ _ (mkA 58 [(0,.agg [sL Qga p0.Nodes,iI p0.Rings,iI p0.Room]),(1,sL (encL Qaa) p1),(2,sL encI p2)]) []
  refine T.seq (T.region (so (o_box (cs:=[sL Qga p0.Nodes,iI p0.Rings,iI p0.Room]) rfl rfl rfl (so (Jja Ty.z31 rfl rfl (sa (iI 0) rfl (RS.nil (T.seq ?_))))))))
  obtain ⟨x2,hx2,h⟩:=bind_some h
  refine T.region (so (Qea rfl rfl (Qna Ty.k24 Ty.c24 rfl (cs:=[sL Qga p0.Nodes,iI p0.Rings,iI p0.Room]) rfl (sm (sL (encL Qaa) p1) rfl (so (Vra (ac:=[.agg [sL Qga p0.Nodes,iI p0.Rings,iI p0.Room],sL (encL Qaa) p1]) (as0:=[.agg [sL Qga p0.Nodes,iI p0.Rings,iI p0.Room],sL (encL Qaa) p1]) (aw0:=[]) (aw1:=[aR 3 1 encI x2.1.At,aR 29 1 (encL Qaa) x2.1.Rings,aR 66 3 Qba x2.1.Memory,aR 94 2 Qca x2.1.Choices,aR 46 3 Qaa x2.1.Out]) (aw2:=[.box [sL Qga p0.Nodes,iI p0.Rings,iI p0.Room],.box [.nils,.nils,.nils,.nils,.nils],aR 3 1 encI x2.1.At,aR 29 1 (encL Qaa) x2.1.Rings,aR 66 3 Qba x2.1.Memory,aR 94 2 Qca x2.1.Choices,aR 46 3 Qaa x2.1.Out]) (v:=.tup [.agg [.ref 0,.ref 1,.ref 2,.ref 3,.ref 4],iI x2.2]) (v':=.tup [.agg [.ref 2,.ref 3,.ref 4,.ref 5,.ref 6],iI x2.2]) (n0:=2) (n1:=5) [] rfl rfl rfl rfl (by decide) (Qva) ⟨J8a ⟨rn_s rfl,Qla rfl,Qla rfl,trivial⟩,rn_s rfl,trivial⟩ (FnX.of_fnO (move_Start_c p0 p1 x2 hx2)) rfl (rm_tup (cs:=[.agg [.ref 2,.ref 3,.ref 4,.ref 5,.ref 6],iI x2.2]) (ds:=[.agg [.ref 0,.ref 1,.ref 2,.ref 3,.ref 4],iI x2.2]) ⟨rm_agg (cs:=[.ref 2,.ref 3,.ref 4,.ref 5,.ref 6]) (ds:=[.ref 0,.ref 1,.ref 2,.ref 3,.ref 4]) ⟨Zpa (by decide),Zpa (by decide),Zpa (by decide),Zpa (by decide),Zpa (by decide),trivial⟩,Jra (Qfa _ _),trivial⟩) ⟨.inr ⟨rfl,rfl⟩,.inr ⟨rfl,rfl⟩,.inl ⟨0,_,by decide,rfl,J9a Jta⟩,.inl ⟨1,_,by decide,rfl,J9a (Jna Qma)⟩,.inl ⟨2,_,by decide,rfl,J9a Qya⟩,.inl ⟨3,_,by decide,rfl,J9a Q2a⟩,.inl ⟨4,_,by decide,rfl,J9a Qma⟩,trivial⟩ (sm (.tup [.agg [.ref 2,.ref 3,.ref 4,.ref 5,.ref 6],iI x2.2]) rfl (sq (Qxa (v:=.agg [.ref 2,.ref 3,.ref 4,.ref 5,.ref 6]) rfl rfl (sq (Qxa (v:=iI x2.2) rfl rfl (so (Jja Ty.z31 rfl rfl (so (Qoa Ty.c31 Ty.i31 rfl (vs:=[.ref 2,.ref 3,.ref 4,.ref 5,.ref 6]) rfl rfl rfl rfl (cs':=[.ref 2,.ref 3,.ref 4,.ref 5,.ref 6]) rfl rfl (sa (iI x2.2) rfl ?_))))))))))))))))
  refine RS.nil (T.seq (T.seq (T.region (sm (iI x2.2) rfl (sq (v_neq rfl rfl (RS.nil (T.cond (b:=x2.2 != 0) rfl (fun hb_1=>?_) (fun hb_1=>?_)))))))))
  ·replace h:=ite_T h hb_1
   refine T.seq (T.region (sq (Jxa (cs:=[.nils,.nils,.nils,.nils,.nils]) Ty.z31 Ty.p31 rfl (sm (iI x2.2) rfl (so (Qoa Ty.c31 Ty.i31 rfl (vs:=[.nils,.nils,.nils,.nils,.nils]) rfl rfl rfl rfl (cs':=[.nils,.nils,.nils,.nils,.nils]) rfl rfl (sa (iI x2.2) rfl (RS.nil (T.rt (Jea (id:=1) (off:=0) (cs:=[.nils,.nils,.nils,.nils,.nils]) (v:=.agg [.nils,.nils,.nils,.nils,.nils]) ?_ ?_ ?_ ?_))))))))))
   · rfl
   · rfl
   · exact fun K h=>(Qna (row:=[.nils,.nils,.nils,.nils,.nils]) (off:=0) Ty.k31 Ty.c31 rfl (cs:=[.nils,.nils,.nils,.nils,.nils]) rfl h)
   refine Qpa (v:=iI x2.2) rfl (Qra ?_)
   exact Qza (v:=.tup [.agg [sL encI [],sL (encL Qaa) [],sL Qba [],sL Qca [],sL Qaa []],iI x2.2]) rfl (Joa _ (Qka (⟨Qsa _ (Qka (⟨Qia Jta _,Qia (Jna Qma) _,Qia Qya _,Qia Q2a _,Qia Qma _,trivial⟩)),Qfa _ _,trivial⟩))) ⟨congrArg (fun r:State × Int=>(.tup [.agg [sL encI r.1.At,sL (encL Qaa) r.1.Rings,sL Qba r.1.Memory,sL Qca r.1.Choices,sL Qaa r.1.Out],iI r.2]:AV)) (Option.some.inj h),rfl⟩
  replace h:=ite_F h hb_1
  refine T.skip (T.seq (T.seq (T.region (sm (sL encI p2) rfl (sq (Q3a Ty.s26 rfl (sq (v_gtr rfl rfl (RS.nil (T.cond (b:=decide (((p2).length:Int) > 2000)) rfl (fun hb_2=>?_) (fun hb_2=>?_)))))))))))
  ·replace h:=ite_T h hb_2
   refine T.seq (T.region (sq (Jxa (cs:=[.nils,.nils,.nils,.nils,.nils]) Ty.z31 Ty.p31 rfl (so (Qoa Ty.c31 Ty.i31 rfl (vs:=[.nils,.nils,.nils,.nils,.nils]) rfl rfl rfl rfl (cs':=[.nils,.nils,.nils,.nils,.nils]) rfl rfl (sa (iI 2) rfl (RS.nil (T.rt (Jea (id:=1) (off:=0) (cs:=[.nils,.nils,.nils,.nils,.nils]) (v:=.agg [.nils,.nils,.nils,.nils,.nils]) ?_ ?_ ?_ ?_)))))))))
   · rfl
   · rfl
   · exact fun K h=>(Qna (row:=[.nils,.nils,.nils,.nils,.nils]) (off:=0) Ty.k31 Ty.c31 rfl (cs:=[.nils,.nils,.nils,.nils,.nils]) rfl h)
   refine Qpa (v:=iI 2) rfl (Qra ?_)
   exact Qza (v:=.tup [.agg [sL encI [],sL (encL Qaa) [],sL Qba [],sL Qca [],sL Qaa []],iI 2]) rfl (Joa _ (Qka (⟨Qsa _ (Qka (⟨Qia Jta _,Qia (Jna Qma) _,Qia Qya _,Qia Q2a _,Qia Qma _,trivial⟩)),Qfa _ _,trivial⟩))) ⟨congrArg (fun r:State × Int=>(.tup [.agg [sL encI r.1.At,sL (encL Qaa) r.1.Rings,sL Qba r.1.Memory,sL Qca r.1.Choices,sL Qaa r.1.Out],iI r.2]:AV)) (Option.some.inj h),rfl⟩
  replace h:=ite_F h hb_2
  refine T.skip (T.seq (T.seq (T.region (sm (sL encI p2) rfl (sq (Q3a Ty.s26 rfl (sm (iI 0) rfl (RS.nil (T.block (T.iter (fun ss_7:Int × (List Int) × (List (List Item)) × (List Memory) × (List Choice) × (List Item)=>mkA 58 [(1,sL (encL Qaa) p1),(3,.ptr 0 0),(6,.ptr 1 0),(8,.ptr 2 0),(27,sL encI p2),(28,iI ((p2).length:Int)),(29,iI ss_7.1)]) (fun ss_7=>[.box [sL Qga p0.Nodes,iI p0.Rings,iI p0.Room],.box [.nils,.nils,.nils,.nils,.nils],.box [.ref 3,.ref 4,.ref 5,.ref 6,.ref 7],aR 3 1 encI ss_7.2.1,aR 29 1 (encL Qaa) ss_7.2.2.1,aR 66 3 Qba ss_7.2.2.2.1,aR 94 2 Qca ss_7.2.2.2.2.1,aR 46 3 Qaa ss_7.2.2.2.2.2]) h (Weak.mkN [] [0,1,7,2,3,4,5,6] (by decide) (Qqa _) rfl ⟨rn_s rfl,Qua rfl,Qua rfl,Qua rfl,rn_s rfl,Qla rfl,Qla rfl,trivial⟩ (rw_bs [sL Qga p0.Nodes,iI p0.Rings,iI p0.Room] rfl (rw_bs [.nils,.nils,.nils,.nils,.nils] rfl (Jya (cs:=[.ref 3,.ref 4,.ref 5,.ref 6,.ref 7]) (ds:=[.ref 2,.ref 3,.ref 4,.ref 5,.ref 6]) rfl ⟨Qta rfl,Qta rfl,Qta rfl,Qta rfl,Qta rfl,trivial⟩ (rw_ar rfl rfl (rw_ar rfl rfl (rw_ar rfl rfl (rw_ar rfl rfl (rw_ar rfl rfl (Qva)))))))))) (fun ss_7 v_8 h hv_8=>?_)))))))))))
  obtain ⟨s3,s4,s5,s6,s7,s8⟩:=ss_7
  replace h:Vja p0 p1 p2 s3 s4 s5 s6 s7 s8=some v_8:=h
  try dsimp only
  unfold Vja at h
  refine T.seq (T.region (sq (v_lss rfl rfl (RS.nil (T.seq (T.cond (b:=decide (s3<((p2).length:Int))) rfl (fun hb_9=>?_) (fun hb_9=>?_)))))))
  ·replace h:=ite_T h hb_9
   refine T.skip (T.seq (T.block (T.seq ?_)))
   obtain ⟨x10,hx10,h⟩:=bind_some h
   refine T.region (sq (Q0a Ty.s26 (fun _=>rfl) rfl rfl hx10 (so (Jaa rfl (Qha Ty.k3 (c:=iI x10) rfl (sa (iI x10) rfl (RS.nil (T.seq ?_))))))))
   obtain ⟨x12,hx12,h⟩:=bind_some h
   refine T.region (so (Qea rfl rfl (Qna Ty.k24 Ty.c24 rfl (cs:=[sL Qga p0.Nodes,iI p0.Rings,iI p0.Room]) rfl (sm (sL (encL Qaa) p1) rfl (so (Qea rfl rfl (Qna Ty.k31 Ty.c31 rfl (cs:=[.ref 3,.ref 4,.ref 5,.ref 6,.ref 7]) rfl (so (Jfa (as0:=[.agg [sL Qga p0.Nodes,iI p0.Rings,iI p0.Room],sL (encL Qaa) p1,.agg [.ref 3,.ref 4,.ref 5,.ref 6,.ref 7]]) (as1:=[.agg [sL Qga p0.Nodes,iI p0.Rings,iI p0.Room],sL (encL Qaa) p1,.agg [sL encI ((⟨s4,s5,s6,s7,s8⟩:State).At),sL (encL Qaa) ((⟨s4,s5,s6,s7,s8⟩:State).Rings),sL Qba ((⟨s4,s5,s6,s7,s8⟩:State).Memory),sL Qca ((⟨s4,s5,s6,s7,s8⟩:State).Choices),sL Qaa ((⟨s4,s5,s6,s7,s8⟩:State).Out)]]) (caps:=[]) (aw1:=[.box [sL Qga p0.Nodes,iI p0.Rings,iI p0.Room],.box [.nils,.nils,.nils,.nils,.nils],.box [.ref 3,.ref 4,.ref 5,.ref 6,.ref 7],.dead,.dead,.dead,.dead,.dead]) rfl rfl rfl (Vla (v:=.ref 0) (obs:=[aR 57 2 Q4a x12]) (v':=.ref 8) (move_ready_c p0 p1 (⟨s4,s5,s6,s7,s8⟩:State) x12 hx12) (⟨Qsa _ (Qka (⟨Qia J1a _,Qfa _ _,Qfa _ _,trivial⟩)),Qia (Jna Qma) _,Qsa _ (Qka (⟨Qia Jta _,Qia (Jna Qma) _,Qia Qya _,Qia Q2a _,Qia Qma _,trivial⟩)),trivial⟩) rfl (Zha (J3a fun _=>rfl) Zua) rfl rfl (sa (.ref 8) rfl (RS.nil (T.seq (T.seq (T.region ?_)))))))))))))))
   refine sm (.ref 8) rfl (sq (Vga (en:=Q4a) Ty.s53 rfl rfl (sq (v_eql rfl rfl (RS.nil (T.cond (b:=((x12).length:Int)==0) rfl (fun hb_10=>?_) (fun hb_10=>?_)))))))
   ·replace h:=ite_T h hb_10
    refine T.exit ?_
    obtain ⟨w_11,h,hw_11⟩:=Jqa h
    replace h:=h.trans (congrArg some (hv_8 _ hw_11))
    refine T.seq (T.region (so (Qea rfl rfl (Qna Ty.k31 Ty.c31 rfl (cs:=[.ref 3,.ref 4,.ref 5,.ref 6,.ref 7]) rfl (so (Qoa Ty.c31 Ty.i31 rfl (vs:=[.ref 3,.ref 4,.ref 5,.ref 6,.ref 7]) rfl rfl rfl rfl (cs':=[.ref 3,.ref 4,.ref 5,.ref 6,.ref 7]) rfl rfl (sa (iI 0) rfl (RS.nil (T.rt (Jea (id:=1) (off:=0) (cs:=[.ref 3,.ref 4,.ref 5,.ref 6,.ref 7]) (v:=.agg [.ref 3,.ref 4,.ref 5,.ref 6,.ref 7]) ?_ ?_ ?_ ?_))))))))))
    · rfl
    · rfl
    · exact fun K h=>(Qna (row:=[.ref 3,.ref 4,.ref 5,.ref 6,.ref 7]) (off:=0) Ty.k31 Ty.c31 rfl (cs:=[.ref 3,.ref 4,.ref 5,.ref 6,.ref 7]) rfl h)
    refine Qpa (v:=iI 0) rfl (Qra ?_)
    exact Qza (v:=.tup [.agg [sL encI s4,sL (encL Qaa) s5,sL Qba s6,sL Qca s7,sL Qaa s8],iI 0]) rfl (Joa _ (Qka (⟨Qsa _ (Qka (⟨Qia Jta _,Qia (Jna Qma) _,Qia Qya _,Qia Q2a _,Qia Qma _,trivial⟩)),Qfa _ _,trivial⟩))) ⟨congrArg (fun r:State × Int=>(.tup [.agg [sL encI r.1.At,sL (encL Qaa) r.1.Rings,sL Qba r.1.Memory,sL Qca r.1.Choices,sL Qaa r.1.Out],iI r.2]:AV)) (Option.some.inj h),rfl⟩
   replace h:=ite_F h hb_10
   refine T.skip ?_
   obtain ⟨x13,hx13,h⟩:=bind_some h
   obtain ⟨x14,hx14,h⟩:=bind_some h
   obtain ⟨x15,hx15,h⟩:=bind_some h
   obtain ⟨x16,hx16,h⟩:=bind_some h
   obtain ⟨x17,hx17,h⟩:=bind_some h
   refine T.drawn mixed (k:=16) rfl (rt0 1 rfl (Qwa (v:=sL (encL Qaa) p1) rfl (rt0 2 rfl (Qwa (v:=.ref 8) rfl (rt0 3 rfl (Qwa (v:=iI x10) rfl (rt0 4 rfl (Qwa (v:=.ref 8) rfl (rt0 5 rfl (Vga (en:=Q4a) Ty.s53 rfl rfl (rt0 6 rfl (v_rem rfl rfl hx13 (rt0 7 rfl (Qwa (v:=.ref 8) rfl (rt0 8 rfl (Vga (en:=Q4a) Ty.s53 rfl rfl (rt0 9 rfl (v_add rfl rfl ?_))))))))))))))))))
   refine rt0 10 rfl (Qwa (v:=.ref 8) rfl (rt0 11 rfl (Vga (en:=Q4a) Ty.s53 rfl rfl (rt0 12 rfl (v_rem rfl rfl hx14 (rt0 13 rfl (Q5a (en:=Q4a) Ty.s53 rfl rfl rfl hx15 (rl0 [0,15] 0 rfl (Q1a rfl rfl (Qna Ty.k24 Ty.c24 rfl (cs:=[sL Qga p0.Nodes,iI p0.Rings,iI p0.Room]) rfl (ra1 14 (RO.op rfl rfl (Q6a (en:=Q4a) (a:=x16) rfl rfl hx16 (Qna Ty.k57 Ty.c57 rfl (cs:=[iI x16.Node,iI x16.Lane]) rfl (ra1 15 (RO.op rfl rfl (Vra (ac:=[.agg [sL Qga p0.Nodes,iI p0.Rings,iI p0.Room],sL (encL Qaa) p1,.ptr 2 0,.agg [iI x16.Node,iI x16.Lane]]) (as0:=[.agg [sL Qga p0.Nodes,iI p0.Rings,iI p0.Room],sL (encL Qaa) p1,.ptr 0 0,.agg [iI x16.Node,iI x16.Lane]]) (aw0:=[.box [.ref 1,.ref 2,.ref 3,.ref 4,.ref 5],aR 3 1 encI s4,aR 29 1 (encL Qaa) s5,aR 66 3 Qba s6,aR 94 2 Qca s7,aR 46 3 Qaa s8]) (aw1:=[.box [.ref 1,.ref 2,.ref 3,.ref 6,.ref 7],aR 3 1 encI x17.1,aR 29 1 (encL Qaa) x17.2.1,aR 66 3 Qba x17.2.2.1,.dead,.dead,aR 94 2 Qca x17.2.2.2.1,aR 46 3 Qaa x17.2.2.2.2]) (aw2:=[.box [sL Qga p0.Nodes,iI p0.Rings,iI p0.Room],.box [.nils,.nils,.nils,.nils,.nils],.box [.ref 3,.ref 4,.ref 5,.ref 9,.ref 10],aR 3 1 encI x17.1,aR 29 1 (encL Qaa) x17.2.1,aR 66 3 Qba x17.2.2.1,.dead,.dead,aR 57 2 Q4a x12,aR 94 2 Qca x17.2.2.2.1,aR 46 3 Qaa x17.2.2.2.2]) (v:=.tup []) (v':=.tup []) (n0:=9) (n1:=8) [2,3,4,5,6,7] rfl rfl rfl rfl (by decide) (Jya (cs:=[.ref 1,.ref 2,.ref 3,.ref 4,.ref 5]) (ds:=[.ref 3,.ref 4,.ref 5,.ref 6,.ref 7]) rfl ⟨Qta rfl,Qta rfl,Qta rfl,Qta rfl,Qta rfl,trivial⟩ (Jma rfl Jta rfl (Jma rfl (Jna Qma) rfl (Jma rfl Qya rfl (Jma rfl Q2a rfl (Jma rfl Qma rfl (Qva))))))) ⟨J8a ⟨rn_s rfl,Qla rfl,Qla rfl,trivial⟩,rn_s rfl,Qua rfl,J8a ⟨Qla rfl,Qla rfl,trivial⟩,trivial⟩ (move_do_x5aa6_c p0 p1 x16 s4 s5 s6 s7 s8 x17 hx17) rfl (rm_tup (cs:=[]) (ds:=[]) trivial) ⟨.inr ⟨rfl,rfl⟩,.inr ⟨rfl,rfl⟩,.inl ⟨0,_,by decide,rfl,V5a (cs:=[.ref 3,.ref 4,.ref 5,.ref 9,.ref 10]) (ds:=[.ref 1,.ref 2,.ref 3,.ref 6,.ref 7]) ⟨Zpa (by decide),Zpa (by decide),Zpa (by decide),Zpa (by decide),Zpa (by decide),trivial⟩⟩,.inl ⟨1,_,by decide,rfl,J9a Jta⟩,.inl ⟨2,_,by decide,rfl,J9a (Jna Qma)⟩,.inl ⟨3,_,by decide,rfl,J9a Qya⟩,.inl ⟨4,_,by decide,rfl,trivial⟩,.inl ⟨5,_,by decide,rfl,trivial⟩,.inr ⟨rfl,rfl⟩,.inl ⟨6,_,by decide,rfl,J9a Q2a⟩,.inl ⟨7,_,by decide,rfl,J9a Qma⟩,trivial⟩ (RA.done (by decide +kernel) ?_))))))))))))))))))
   refine T.region (sq (v_add rfl rfl (sm (iI (IntKind.i64.wrap (s3+1))) rfl (RS.nil ?_))))
   exact ⟨(IntKind.i64.wrap (s3+1),x17.1,x17.2.1,x17.2.2.1,x17.2.2.2.1,x17.2.2.2.2),(Option.some.inj h).symm,Weak.mkN [] [0,1,2,3,4,5,9,10] (by decide) (Qqa _) rfl ⟨rn_s rfl,Qua rfl,Qua rfl,Qua rfl,rn_s rfl,Qla rfl,Qla rfl,trivial⟩ (rw_bs [sL Qga p0.Nodes,iI p0.Rings,iI p0.Room] rfl (rw_bs [.nils,.nils,.nils,.nils,.nils] rfl (Jya (cs:=[.ref 3,.ref 4,.ref 5,.ref 6,.ref 7]) (ds:=[.ref 3,.ref 4,.ref 5,.ref 9,.ref 10]) rfl ⟨Qta rfl,Qta rfl,Qta rfl,Qta rfl,Qta rfl,trivial⟩ (rw_ar rfl rfl (rw_ar rfl rfl (rw_ar rfl rfl (rw_ar rfl rfl (rw_ar rfl rfl (Qva)))))))))⟩
  replace h:=ite_F h hb_9
  refine T.exit ?_
  obtain ⟨w_12,h,hw_12⟩:=Jqa h
  replace h:=h.trans (congrArg some (hv_8 _ hw_12))
  refine T.seq (T.region (so (Qea rfl rfl (Qna Ty.k31 Ty.c31 rfl (cs:=[.ref 3,.ref 4,.ref 5,.ref 6,.ref 7]) rfl (so (Qoa Ty.c31 Ty.i31 rfl (vs:=[.ref 3,.ref 4,.ref 5,.ref 6,.ref 7]) rfl rfl rfl rfl (cs':=[.ref 3,.ref 4,.ref 5,.ref 6,.ref 7]) rfl rfl (sa (iI 0) rfl (RS.nil (T.rt (Jea (id:=1) (off:=0) (cs:=[.ref 3,.ref 4,.ref 5,.ref 6,.ref 7]) (v:=.agg [.ref 3,.ref 4,.ref 5,.ref 6,.ref 7]) ?_ ?_ ?_ ?_))))))))))
  · rfl
  · rfl
  · exact fun K h=>(Qna (row:=[.ref 3,.ref 4,.ref 5,.ref 6,.ref 7]) (off:=0) Ty.k31 Ty.c31 rfl (cs:=[.ref 3,.ref 4,.ref 5,.ref 6,.ref 7]) rfl h)
  refine Qpa (v:=iI 0) rfl (Qra ?_)
  exact Qza (v:=.tup [.agg [sL encI s4,sL (encL Qaa) s5,sL Qba s6,sL Qca s7,sL Qaa s8],iI 0]) rfl (Joa _ (Qka (⟨Qsa _ (Qka (⟨Qia Jta _,Qia (Jna Qma) _,Qia Qya _,Qia Q2a _,Qia Qma _,trivial⟩)),Qfa _ _,trivial⟩))) ⟨congrArg (fun r:State × Int=>(.tup [.agg [sL encI r.1.At,sL (encL Qaa) r.1.Rings,sL Qba r.1.Memory,sL Qca r.1.Choices,sL Qaa r.1.Out],iI r.2]:AV)) (Option.some.inj h),rfl⟩
theorem Vva (r:Net) (h:Yia=some r):Fn Try.prog 53 [] (.agg [sL Qga r.Nodes,iI r.Rings,iI r.Room]):=by
  unfold Yia at h
  refine Jpa (N:=0) rfl Try.func53 rfl (by kernel_rfl) Try.ntmps53 rfl ?_
  show T _ _ _ _ (mkA 12 []) []
  refine T.seq (T.region (so (Jja Ty.z24 rfl rfl (RS.nil (T.seq (T.region (so (J2a (rows:=List.map encI [0]) (vs:=[iI 0]) Ty.s26 Ty.z3 rfl rfl rfl rfl rfl rfl (sq (Jxa (cs:=[iI 1,iI 0,.nils,.ref 1]) Ty.z40 Ty.p40 rfl (so (J2a (rows:=List.map encI [1]) (vs:=[iI 1]) Ty.s26 Ty.z3 rfl rfl rfl rfl rfl rfl (sq (Jxa (cs:=[iI 1,iI 1,.nils,.ref 2]) Ty.z40 Ty.p40 rfl ?_))))))))))))))
  refine so (J2a (rows:=List.map encI [0,1]) (vs:=[iI 0,iI 1]) Ty.s26 Ty.z3 rfl rfl rfl rfl rfl rfl (so (J2a (rows:=List.map encI [2]) (vs:=[iI 2]) Ty.s26 Ty.z3 rfl rfl rfl rfl rfl rfl (sq (Jxa (cs:=[iI 6,iI 0,.ref 3,.ref 4]) Ty.z40 Ty.p40 rfl (so (J2a (rows:=List.map encI [2]) (vs:=[iI 2]) Ty.s26 Ty.z3 rfl rfl rfl rfl rfl rfl (sq (Jxa (cs:=[iI 8,iI 0,.ref 5,.nils]) Ty.z40 Ty.p40 rfl (RS.fz 1 rfl rfl rfl (RS.fz 2 rfl rfl rfl (RS.fz 3 rfl rfl rfl (RS.fz 4 rfl rfl rfl (RS.fz 5 rfl rfl rfl ?_))))))))))))))
  refine so (o_buildSliceN (rows:=List.map Qga [(⟨1,0,[],[0]⟩:Node),(⟨1,1,[],[1]⟩:Node),(⟨6,0,[0,1],[2]⟩:Node),(⟨8,0,[2],[]⟩:Node)]) (vs:=[.agg [iI 1,iI 0,.nils,sL encI [0]],.agg [iI 1,iI 1,.nils,sL encI [1]],.agg [iI 6,iI 0,sL encI [0,1],sL encI [2]],.agg [iI 8,iI 0,sL encI [2],.nils]]) (vs2:=[.agg [iI 1,iI 0,sL encI [],sL encI [0]],.agg [iI 1,iI 1,sL encI [],sL encI [1]],.agg [iI 6,iI 0,sL encI [0,1],sL encI [2]],.agg [iI 8,iI 0,sL encI [2],sL encI []]]) Ty.s22 Ty.z40 rfl rfl rfl rfl rfl rfl (sq (Jxa (cs:=[.ref 6,iI 3,iI 1]) Ty.z24 Ty.p24 rfl (so (Qoa Ty.c24 Ty.i24 rfl (vs:=[.ref 6,iI 3,iI 1]) rfl rfl rfl rfl (cs':=[.ref 6,iI 3,iI 1]) rfl rfl (RS.nil (T.rt (Jea (id:=0) (off:=0) (cs:=[.ref 6,iI 3,iI 1]) (v:=.agg [.ref 6,iI 3,iI 1]) ?_ ?_ ?_ ?_))))))))
  · rfl
  · rfl
  · exact fun K h=>(Qna (row:=[.ref 6,iI 3,iI 1]) (off:=0) Ty.k24 Ty.c24 rfl (cs:=[.ref 6,iI 3,iI 1]) rfl h)
  refine Qra ?_
  exact Qza (v:=.agg [sL Qga [(⟨1,0,[],[0]⟩:Node),(⟨1,1,[],[1]⟩:Node),(⟨6,0,[0,1],[2]⟩:Node),(⟨8,0,[2],[]⟩:Node)],iI 3,iI 1]) rfl (Qsa _ (Qka (⟨Qia J1a _,Qfa _ _,Qfa _ _,trivial⟩))) ⟨congrArg (fun r:Net=>(.agg [sL Qga r.Nodes,iI r.Rings,iI r.Room]:AV)) (Option.some.inj h),rfl⟩
theorem crosslaw_item_c (p0:Int) (p1:Int) (r:Item) (h:crosslaw_item p0 p1=some r):Fn Try.prog 87 [iI p0,iI p1] (.agg [iI r.Key,iI r.Val,iI r.Dep]):=by
  unfold crosslaw_item at h
  refine Jpa (N:=0) rfl Try.func87 rfl (by kernel_rfl) Try.ntmps87 rfl ?_
  show T _ _ _ _ (mkA 8 [(0,iI p0),(1,iI p1)]) []
  refine T.seq (T.region (so (Jja Ty.z46 rfl rfl (RS.nil (T.seq (T.region (sm (iI p0) rfl (sm (iI p1) rfl (sq (Jxa (cs:=[iI p0,iI p1,iI 0]) Ty.z46 Ty.p46 rfl (so (Qoa Ty.c46 Ty.i46 rfl (vs:=[iI p0,iI p1,iI 0]) rfl rfl rfl rfl (cs':=[iI p0,iI p1,iI 0]) rfl rfl ?_))))))))))))
  refine RS.nil (T.rt (Jea (id:=0) (off:=0) (cs:=[iI p0,iI p1,iI 0]) (v:=.agg [iI p0,iI p1,iI 0]) ?_ ?_ ?_ ?_))
  · rfl
  · rfl
  · exact fun K h=>(Qna (row:=[iI p0,iI p1,iI 0]) (off:=0) Ty.k46 Ty.c46 rfl (cs:=[iI p0,iI p1,iI 0]) rfl h)
  refine Qra ?_
  exact Qza (v:=.agg [iI p0,iI p1,iI 0]) rfl (Qsa _ (Qka (⟨Qfa _ _,Qfa _ _,Qfa _ _,trivial⟩))) ⟨congrArg (fun r:Item=>(.agg [iI r.Key,iI r.Val,iI r.Dep]:AV)) (Option.some.inj h),rfl⟩
theorem Y8a (r:List (List Item)) (h:crosslaw_two=some r):FnO Try.prog 54 [] (.ref 0) [aR 29 1 (encL Qaa) r]:=by
  unfold crosslaw_two at h
  refine Jpa (N:=0) rfl Try.func54 rfl (by kernel_rfl) Try.ntmps54 rfl ?_
  show T _ _ _ _ (mkA 6 []) []
  refine T.seq (T.region (sa .nils rfl (RS.nil (T.seq ?_))))
  obtain ⟨x3,hx3,h⟩:=bind_some h
  obtain ⟨x4,hx4,h⟩:=bind_some h
  refine T.region (so (Jfa (as0:=[iI 1,iI 1]) (as1:=[iI (1:Int),iI (1:Int)]) (caps:=[]) (aw1:=[]) rfl rfl rfl (Zda (v:=.agg [iI x3.Key,iI x3.Val,iI x3.Dep]) (crosslaw_item_c (1:Int) (1:Int) x3 hx3) (⟨Qfa _ _,Qfa _ _,trivial⟩) rfl (so (J2a (rows:=List.map Qaa [x3]) (vs:=[.agg [iI x3.Key,iI x3.Val,iI x3.Dep]]) Ty.s29 Ty.z46 rfl rfl rfl rfl rfl rfl (so (Jfa (as0:=[iI 2,iI 2]) (as1:=[iI (2:Int),iI (2:Int)]) (caps:=[]) (aw1:=[aR 46 3 Qaa [x3]]) rfl rfl rfl (Zda (v:=.agg [iI x4.Key,iI x4.Val,iI x4.Dep]) (crosslaw_item_c (2:Int) (2:Int) x4 hx4) (⟨Qfa _ _,Qfa _ _,trivial⟩) rfl (so (J2a (rows:=List.map Qaa [x4]) (vs:=[.agg [iI x4.Key,iI x4.Val,iI x4.Dep]]) Ty.s29 Ty.z46 rfl rfl rfl rfl rfl rfl (RS.fz 0 rfl rfl rfl (RS.fz 1 rfl rfl rfl (so (J2a (rows:=List.map (encL Qaa) [[x3],[x4]]) (vs:=[sL Qaa [x3],sL Qaa [x4]]) Ty.s25 Ty.z29 rfl rfl rfl rfl rfl rfl (sa (.ref 2) rfl (RS.nil ?_))))))))))))))))
  refine T.rt (Qpa (v:=.ref 2) rfl (Qra ?_))
  exact J7a (.ref 0) [] [2] (by decide) (Qqa _) rfl (Qta rfl) (Jma rfl (Jna Qma) (congrArg (fun r:List (List Item)=>r) (Option.some.inj h)).symm (Qva)) ⟨rfl,rfl⟩
theorem move_Check_1_1_xa01a_c (p0:Item) (p1:List Int) (p2:List (List Item)) (p3:List Memory) (p4:List Choice) (p5:List Item) (r:Bool) (h:V0a p0 p1 p2 p3 p4 p5=some r):FnX Try.prog 59 [.agg [iI p0.Key,iI p0.Val,iI p0.Dep],.ptr 0 0] [.box [sL encI p1,sL (encL Qaa) p2,sL Qba p3,sL Qca p4,sL Qaa p5]] (.bool r) [.box [sL encI p1,sL (encL Qaa) p2,sL Qba p3,sL Qca p4,sL Qaa p5]]:=by
  unfold V0a at h
  refine Jpa (N:=1) rfl Try.func59 rfl (by kernel_rfl) Try.ntmps59 rfl ?_
  show T _ _ _ _ (mkA 15 [(0,.agg [iI p0.Key,iI p0.Val,iI p0.Dep]),(1,.ptr 0 0)]) [.box [sL encI p1,sL (encL Qaa) p2,sL Qba p3,sL Qca p4,sL Qaa p5]]
  refine T.seq (T.region (so (o_box (cs:=[iI p0.Key,iI p0.Val,iI p0.Dep]) rfl rfl rfl (sa (.bool false) rfl (RS.nil (T.join (Z:=Unit) (fun _=>mkA 15 [(3,.bool ((decide (p0.Dep<0)) || decide (p0.Dep > ((p4).length:Int))))]) (fun _=>[.box [sL encI p1,sL (encL Qaa) p2,sL Qba p3,sL Qca p4,sL Qaa p5]]) (fun _=>True) (fun _ _=>?_) (fun hK=>?_)))))))
  ·refine T.rt (Qpa (v:=.bool ((decide (p0.Dep<0)) || decide (p0.Dep > ((p4).length:Int)))) rfl (Qra ?_))
   exact Yra (v:=.bool ((decide (p0.Dep<0)) || decide (p0.Dep > ((p4).length:Int)))) (aw1:=[.box [sL encI p1,sL (encL Qaa) p2,sL Qba p3,sL Qca p4,sL Qaa p5]]) (.bool r) [0] rfl (by decide) (by decide) (Jwa (congrArg (fun r:Bool=>r) (Option.some.inj h)).symm) (Jya (cs:=[sL encI p1,sL (encL Qaa) p2,sL Qba p3,sL Qca p4,sL Qaa p5]) (ds:=[sL encI p1,sL (encL Qaa) p2,sL Qba p3,sL Qca p4,sL Qaa p5]) rfl ⟨rn_s rfl,rn_s rfl,rn_s rfl,rn_s rfl,rn_s rfl,trivial⟩ (Qva)) ⟨rfl,rfl⟩
  refine T.region (sq (Qda Ty.f46_2 rfl (off':=2) rfl (so (Qea rfl rfl (Qha Ty.k3 (c:=iI p0.Dep) rfl (sq (v_lss rfl rfl (sm (.bool (decide (p0.Dep<0))) rfl ?_))))))))
  rcases Q7a (decide (p0.Dep<0)) with hb_1 | hb_1
  ·refine sn hb_1 (sn hb_1 (sn hb_1 (sn hb_1 (sn hb_1 (sn hb_1 (sq (Q9a (v:=.bool true) rfl hb_1 rfl (sa (.bool true) rfl (RS.nil ?_)))))))))
   exact T.weakR (hK () trivial) (Weak.mkN [] [0] (by decide) (by decide) rfl ⟨Jwa (by simp only [hb_1,bz,if_true,if_false,Bool.false_eq_true]),trivial⟩ (rw_bs [sL encI p1,sL (encL Qaa) p2,sL Qba p3,sL Qca p4,sL Qaa p5] rfl (Qva)))
  refine yq hb_1 (Qda Ty.f46_2 rfl (off':=2) rfl (yo hb_1 (Qea rfl rfl (Qha Ty.k3 (c:=iI p0.Dep) rfl (yq hb_1 (Qda Ty.f31_3 rfl (off':=3) rfl (yo hb_1 (Qea rfl rfl (Qha Ty.k28 (c:=sL Qca p4) rfl (yq hb_1 (Q3a Ty.s28 rfl (yq hb_1 (v_gtr rfl rfl (sq (Q8a (v:=.bool (decide (p0.Dep > ((p4).length:Int)))) rfl hb_1 rfl (sa (.bool (decide (p0.Dep > ((p4).length:Int)))) rfl (RS.nil ?_)))))))))))))))))
  exact T.weakR (hK () trivial) (Weak.mkN [] [0] (by decide) (by decide) rfl ⟨Jwa (by simp only [hb_1,bz,if_true,if_false,Bool.false_eq_true]),trivial⟩ (rw_bs [sL encI p1,sL (encL Qaa) p2,sL Qba p3,sL Qca p4,sL Qaa p5] rfl (Qva)))
theorem slices_IndexFunc_Item_xd8db_c (p0:List Item) (p1:List Int) (p2:List (List Item)) (p3:List Memory) (p4:List Choice) (p5:List Item) (r:Int) (h:Zxa p0 p1 p2 p3 p4 p5=some r):FnX Try.prog 68 [sL Qaa p0,.func 59 [.ptr 0 0]] [.box [sL encI p1,sL (encL Qaa) p2,sL Qba p3,sL Qca p4,sL Qaa p5]] (iI r) [.box [sL encI p1,sL (encL Qaa) p2,sL Qba p3,sL Qca p4,sL Qaa p5]]:=by
  unfold Zxa at h
  refine Jpa (N:=1) rfl Try.func68 rfl (by kernel_rfl) Try.ntmps68 rfl ?_
  show T _ _ _ _ (mkA 19 [(0,sL Qaa p0),(1,.func 59 [.ptr 0 0])]) [.box [sL encI p1,sL (encL Qaa) p2,sL Qba p3,sL Qca p4,sL Qaa p5]]
  refine T.seq (T.region (sa (iI 0) rfl (RS.nil (T.seq (T.seq (T.region (sm (sL Qaa p0) rfl (sq (Q3a Ty.s29 rfl (sm (iI 0) rfl ?_))))))))))
  refine RS.nil (T.block (T.iter (fun ss_5:Int=>mkA 19 [(0,sL Qaa p0),(1,.func 59 [.ptr 0 0]),(7,iI ((p0).length:Int)),(8,iI ss_5)]) (fun ss_5=>[.box [sL encI p1,sL (encL Qaa) p2,sL Qba p3,sL Qca p4,sL Qaa p5]]) h (Weak.mkN [] [0] (by decide) (by decide) rfl ⟨rn_s rfl,Z7a ⟨Qua rfl,trivial⟩,Qla rfl,Qla rfl,trivial⟩ (rw_bs [sL encI p1,sL (encL Qaa) p2,sL Qba p3,sL Qca p4,sL Qaa p5] rfl (Qva))) (fun ss_5 v_6 h hv_6=>?_)))
  revert hv_6 h;revert ss_5;intro s1 h hv_6
  replace h:Zga p0 p1 p2 p3 p4 p5 s1=some v_6:=h
  try dsimp only
  unfold Zga at h
  refine T.seq (T.region (sq (v_lss rfl rfl (RS.nil (T.seq (T.cond (b:=decide (s1<((p0).length:Int))) rfl (fun hb_7=>?_) (fun hb_7=>?_)))))))
  ·replace h:=ite_T h hb_7
   refine T.skip (T.seq (T.block (T.seq (T.region (sm (iI s1) rfl (sa (iI s1) rfl (RS.nil (T.seq ?_))))))))
   obtain ⟨x4,hx4,h⟩:=bind_some h
   obtain ⟨x5,hx5,h⟩:=bind_some h
   refine T.region (sm (.func 59 [.ptr 0 0]) rfl (sm (sL Qaa p0) rfl (sm (iI s1) rfl (sq (Q0a Ty.s29 (fun _=>rfl) rfl rfl hx4 (so (Jaa rfl (Qna Ty.k46 Ty.c46 rfl (cs:=[iI x4.Key,iI x4.Val,iI x4.Dep]) rfl (so (Vra (ac:=[.agg [iI x4.Key,iI x4.Val,iI x4.Dep],.ptr 0 0]) (as0:=[.agg [iI x4.Key,iI x4.Val,iI x4.Dep],.ptr 0 0]) (aw0:=[.box [sL encI p1,sL (encL Qaa) p2,sL Qba p3,sL Qca p4,sL Qaa p5]]) (aw1:=[.box [sL encI p1,sL (encL Qaa) p2,sL Qba p3,sL Qca p4,sL Qaa p5]]) (aw2:=[.box [sL encI p1,sL (encL Qaa) p2,sL Qba p3,sL Qca p4,sL Qaa p5]]) (v:=.bool x5) (v':=.bool x5) (n0:=1) (n1:=1) [0] rfl rfl rfl rfl (by decide) (Jya (cs:=[sL encI p1,sL (encL Qaa) p2,sL Qba p3,sL Qca p4,sL Qaa p5]) (ds:=[sL encI p1,sL (encL Qaa) p2,sL Qba p3,sL Qca p4,sL Qaa p5]) rfl ⟨rn_s rfl,rn_s rfl,rn_s rfl,rn_s rfl,rn_s rfl,trivial⟩ (Qva)) ⟨J8a ⟨Qla rfl,Qla rfl,Qla rfl,trivial⟩,Qua rfl,trivial⟩ (move_Check_1_1_xa01a_c x4 p1 p2 p3 p4 p5 x5 hx5) rfl (Jra (Jda _)) ⟨.inl ⟨0,_,by decide,rfl,V5a (cs:=[sL encI p1,sL (encL Qaa) p2,sL Qba p3,sL Qca p4,sL Qaa p5]) (ds:=[sL encI p1,sL (encL Qaa) p2,sL Qba p3,sL Qca p4,sL Qaa p5]) ⟨Jra (Qia Jta _),Jra (Qia (Jna Qma) _),Jra (Qia Qya _),Jra (Qia Q2a _),Jra (Qia Qma _),trivial⟩⟩,trivial⟩ (RS.nil (T.cond (b:=x5) rfl (fun hb_8=>?_) (fun hb_8=>?_)))))))))))))
   ·replace h:=ite_T h hb_8
    refine T.seq (T.region (sm (iI s1) rfl (sa (iI s1) rfl (RS.nil (T.rt ?_)))))
    obtain ⟨w_9,h,hw_9⟩:=Jqa h
    replace h:=h.trans (congrArg some (hv_6 _ hw_9))
    refine Qpa (v:=iI s1) rfl (Qra ?_)
    exact Yra (v:=iI s1) (aw1:=[.box [sL encI p1,sL (encL Qaa) p2,sL Qba p3,sL Qca p4,sL Qaa p5]]) (iI r) [0] rfl (by decide) (by decide) (Qla (congrArg (fun r:Int=>r) (Option.some.inj h)).symm) (Jya (cs:=[sL encI p1,sL (encL Qaa) p2,sL Qba p3,sL Qca p4,sL Qaa p5]) (ds:=[sL encI p1,sL (encL Qaa) p2,sL Qba p3,sL Qca p4,sL Qaa p5]) rfl ⟨rn_s rfl,rn_s rfl,rn_s rfl,rn_s rfl,rn_s rfl,trivial⟩ (Qva)) ⟨rfl,rfl⟩
   replace h:=ite_F h hb_8
   refine T.skip (T.region (sq (v_add rfl rfl (sm (iI (IntKind.i64.wrap (s1+1))) rfl (RS.nil ?_)))))
   exact ⟨IntKind.i64.wrap (s1+1),(Option.some.inj h).symm,Weak.mkN [] [0] (by decide) (by decide) rfl ⟨rn_s rfl,Z7a ⟨Qua rfl,trivial⟩,Qla rfl,Qla rfl,trivial⟩ (rw_bs [sL encI p1,sL (encL Qaa) p2,sL Qba p3,sL Qca p4,sL Qaa p5] rfl (Qva))⟩
  replace h:=ite_F h hb_7
  refine T.exit ?_
  obtain ⟨w_10,h,hw_10⟩:=Jqa h
  replace h:=h.trans (congrArg some (hv_6 _ hw_10))
  refine T.seq (T.region (sa (iI (-1)) rfl (RS.nil (T.rt (Qpa (v:=iI (-1)) rfl (Qra ?_))))))
  exact Yra (v:=iI (-1)) (aw1:=[.box [sL encI p1,sL (encL Qaa) p2,sL Qba p3,sL Qca p4,sL Qaa p5]]) (iI r) [0] rfl (by decide) (by decide) (Qla (congrArg (fun r:Int=>r) (Option.some.inj h)).symm) (Jya (cs:=[sL encI p1,sL (encL Qaa) p2,sL Qba p3,sL Qca p4,sL Qaa p5]) (ds:=[sL encI p1,sL (encL Qaa) p2,sL Qba p3,sL Qca p4,sL Qaa p5]) rfl ⟨rn_s rfl,rn_s rfl,rn_s rfl,rn_s rfl,rn_s rfl,trivial⟩ (Qva)) ⟨rfl,rfl⟩
theorem slices_ContainsFunc_Item_xd8db_c (p0:List Item) (p1:List Int) (p2:List (List Item)) (p3:List Memory) (p4:List Choice) (p5:List Item) (r:Bool) (h:Zqa p0 p1 p2 p3 p4 p5=some r):FnX Try.prog 24 [sL Qaa p0,.func 59 [.ptr 0 0]] [.box [sL encI p1,sL (encL Qaa) p2,sL Qba p3,sL Qca p4,sL Qaa p5]] (.bool r) [.box [sL encI p1,sL (encL Qaa) p2,sL Qba p3,sL Qca p4,sL Qaa p5]]:=by
  unfold Zqa at h
  refine Jpa (N:=1) rfl Try.func24 rfl (by kernel_rfl) Try.ntmps24 rfl ?_
  show T _ _ _ _ (mkA 9 [(0,sL Qaa p0),(1,.func 59 [.ptr 0 0])]) [.box [sL encI p1,sL (encL Qaa) p2,sL Qba p3,sL Qca p4,sL Qaa p5]]
  refine T.seq (T.region (sa (.bool false) rfl (RS.nil (T.seq ?_))))
  obtain ⟨x2,hx2,h⟩:=bind_some h
  refine T.region (sm (sL Qaa p0) rfl (sm (.func 59 [.ptr 0 0]) rfl (so (Vra (ac:=[sL Qaa p0,.func 59 [.ptr 0 0]]) (as0:=[sL Qaa p0,.func 59 [.ptr 0 0]]) (aw0:=[.box [sL encI p1,sL (encL Qaa) p2,sL Qba p3,sL Qca p4,sL Qaa p5]]) (aw1:=[.box [sL encI p1,sL (encL Qaa) p2,sL Qba p3,sL Qca p4,sL Qaa p5]]) (aw2:=[.box [sL encI p1,sL (encL Qaa) p2,sL Qba p3,sL Qca p4,sL Qaa p5]]) (v:=iI x2) (v':=iI x2) (n0:=1) (n1:=1) [0] rfl rfl rfl rfl (by decide) (Jya (cs:=[sL encI p1,sL (encL Qaa) p2,sL Qba p3,sL Qca p4,sL Qaa p5]) (ds:=[sL encI p1,sL (encL Qaa) p2,sL Qba p3,sL Qca p4,sL Qaa p5]) rfl ⟨rn_s rfl,rn_s rfl,rn_s rfl,rn_s rfl,rn_s rfl,trivial⟩ (Qva)) ⟨rn_s rfl,Z7a ⟨Qua rfl,trivial⟩,trivial⟩ (slices_IndexFunc_Item_xd8db_c p0 p1 p2 p3 p4 p5 x2 hx2) rfl (Jra (Qfa _ _)) ⟨.inl ⟨0,_,by decide,rfl,V5a (cs:=[sL encI p1,sL (encL Qaa) p2,sL Qba p3,sL Qca p4,sL Qaa p5]) (ds:=[sL encI p1,sL (encL Qaa) p2,sL Qba p3,sL Qca p4,sL Qaa p5]) ⟨Jra (Qia Jta _),Jra (Qia (Jna Qma) _),Jra (Qia Qya _),Jra (Qia Q2a _),Jra (Qia Qma _),trivial⟩⟩,trivial⟩ (sq (v_geq rfl rfl (sa (.bool (decide (x2 ≥ 0))) rfl (RS.nil (T.rt (Qpa (v:=.bool (decide (x2 ≥ 0))) rfl (Qra ?_)))))))))))
  exact Yra (v:=.bool (decide (x2 ≥ 0))) (aw1:=[.box [sL encI p1,sL (encL Qaa) p2,sL Qba p3,sL Qca p4,sL Qaa p5]]) (.bool r) [0] rfl (by decide) (by decide) (Jwa (congrArg (fun r:Bool=>r) (Option.some.inj h)).symm) (Jya (cs:=[sL encI p1,sL (encL Qaa) p2,sL Qba p3,sL Qca p4,sL Qaa p5]) (ds:=[sL encI p1,sL (encL Qaa) p2,sL Qba p3,sL Qca p4,sL Qaa p5]) rfl ⟨rn_s rfl,rn_s rfl,rn_s rfl,rn_s rfl,rn_s rfl,trivial⟩ (Qva)) ⟨rfl,rfl⟩
theorem move_Check_1_xa01a_c (p0:List Item) (p1:List Int) (p2:List (List Item)) (p3:List Memory) (p4:List Choice) (p5:List Item) (r:Bool) (h:Vba p0 p1 p2 p3 p4 p5=some r):FnX Try.prog 58 [sL Qaa p0,.ptr 0 0] [.box [sL encI p1,sL (encL Qaa) p2,sL Qba p3,sL Qca p4,sL Qaa p5]] (.bool r) [.box [sL encI p1,sL (encL Qaa) p2,sL Qba p3,sL Qca p4,sL Qaa p5]]:=by
  unfold Vba at h
  refine Jpa (N:=1) rfl Try.func58 rfl (by kernel_rfl) Try.ntmps58 rfl ?_
  show T _ _ _ _ (mkA 8 [(0,sL Qaa p0),(1,.ptr 0 0)]) [.box [sL encI p1,sL (encL Qaa) p2,sL Qba p3,sL Qca p4,sL Qaa p5]]
  refine T.seq (T.region (sa (.bool false) rfl (RS.nil (T.seq ?_))))
  obtain ⟨x2,hx2,h⟩:=bind_some h
  refine T.region (sm (sL Qaa p0) rfl (sq (v_makeFunc (cs:=[.ptr 0 0]) rfl (so (Vra (ac:=[sL Qaa p0,.func 59 [.ptr 0 0]]) (as0:=[sL Qaa p0,.func 59 [.ptr 0 0]]) (aw0:=[.box [sL encI p1,sL (encL Qaa) p2,sL Qba p3,sL Qca p4,sL Qaa p5]]) (aw1:=[.box [sL encI p1,sL (encL Qaa) p2,sL Qba p3,sL Qca p4,sL Qaa p5]]) (aw2:=[.box [sL encI p1,sL (encL Qaa) p2,sL Qba p3,sL Qca p4,sL Qaa p5]]) (v:=.bool x2) (v':=.bool x2) (n0:=1) (n1:=1) [0] rfl rfl rfl rfl (by decide) (Jya (cs:=[sL encI p1,sL (encL Qaa) p2,sL Qba p3,sL Qca p4,sL Qaa p5]) (ds:=[sL encI p1,sL (encL Qaa) p2,sL Qba p3,sL Qca p4,sL Qaa p5]) rfl ⟨rn_s rfl,rn_s rfl,rn_s rfl,rn_s rfl,rn_s rfl,trivial⟩ (Qva)) ⟨rn_s rfl,Z7a ⟨Qua rfl,trivial⟩,trivial⟩ (slices_ContainsFunc_Item_xd8db_c p0 p1 p2 p3 p4 p5 x2 hx2) rfl (Jra (Jda _)) ⟨.inl ⟨0,_,by decide,rfl,V5a (cs:=[sL encI p1,sL (encL Qaa) p2,sL Qba p3,sL Qca p4,sL Qaa p5]) (ds:=[sL encI p1,sL (encL Qaa) p2,sL Qba p3,sL Qca p4,sL Qaa p5]) ⟨Jra (Qia Jta _),Jra (Qia (Jna Qma) _),Jra (Qia Qya _),Jra (Qia Q2a _),Jra (Qia Qma _),trivial⟩⟩,trivial⟩ (sq (v_not rfl (sa (.bool (!x2)) rfl (RS.nil (T.rt (Qpa (v:=.bool (!x2)) rfl (Qra ?_))))))))))))
  exact Yra (v:=.bool (!x2)) (aw1:=[.box [sL encI p1,sL (encL Qaa) p2,sL Qba p3,sL Qca p4,sL Qaa p5]]) (.bool r) [0] rfl (by decide) (by decide) (Jwa (congrArg (fun r:Bool=>r) (Option.some.inj h)).symm) (Jya (cs:=[sL encI p1,sL (encL Qaa) p2,sL Qba p3,sL Qca p4,sL Qaa p5]) (ds:=[sL encI p1,sL (encL Qaa) p2,sL Qba p3,sL Qca p4,sL Qaa p5]) rfl ⟨rn_s rfl,rn_s rfl,rn_s rfl,rn_s rfl,rn_s rfl,trivial⟩ (Qva)) ⟨rfl,rfl⟩
theorem move_choice_c (p0:Net) (p1:Choice) (r:Bool) (h:move_choice p0 p1=some r):Fn Try.prog 61 [.agg [sL Qga p0.Nodes,iI p0.Rings,iI p0.Room],.agg [iI p1.Node,iI p1.Lane]] (.bool r):=by
  unfold move_choice at h
  refine Jpa (N:=0) rfl Try.func61 rfl (by kernel_rfl) Try.ntmps61 rfl ?_
  show T _ _ _ _ (mkA 44 [(0,.agg [sL Qga p0.Nodes,iI p0.Rings,iI p0.Room]),(1,.agg [iI p1.Node,iI p1.Lane])]) []
  refine T.seq (T.region (so (o_box (cs:=[sL Qga p0.Nodes,iI p0.Rings,iI p0.Room]) rfl rfl rfl (so (o_box (cs:=[iI p1.Node,iI p1.Lane]) rfl rfl rfl (sa (.bool false) rfl (RS.nil ?_)))))))
  obtain ⟨zt_5,hz,h⟩:=bind_some h
  revert hz h;revert zt_5;intro c3 hz h
  refine T.join (Z:=Unit) (fun _=>mkA 44 [(4,.bool c3)]) (fun _=>[]) (fun _=>True) (fun _ _=>?_) (fun hK=>?_)
  ·refine T.rt (Qpa (v:=.bool c3) rfl (Qra ?_))
   exact Qza (v:=.bool c3) rfl (Jda _) ⟨congrArg (fun r:Bool=>(.bool r:AV)) (Option.some.inj h),rfl⟩
  rcases Q7a (decide (p1.Node ≥ 0)) with hb_1 | hb_1
  ·replace hz := ite_T hz hb_1
   rcases Q7a (decide (p1.Node<((p0.Nodes).length:Int))) with hb_2 | hb_2
   ·replace hz:=ite_T hz hb_2
    obtain ⟨x1,hx1,hz⟩:=bind_some hz
    rcases Q7a (x1.Kind==6) with hb_3 | hb_3
    ·replace hz:=ite_T hz hb_3
     rcases Q7a (decide (p1.Lane ≥ 0)) with hb_4 | hb_4
     ·replace hz:=ite_T hz hb_4
      obtain ⟨x2,hx2,hz⟩:=bind_some hz
      refine T.drawn mixed (k:=40) rfl ?_
      let l13:List (Nat × AV):=[(0,.agg [sL Qga p0.Nodes,iI p0.Rings,iI p0.Room]),(1,.agg [iI p1.Node,iI p1.Lane]),(2,.ptr 0 0),(3,.ptr 1 0),(4,.bool false)]
      let a13:List Ob:=[.box [sL Qga p0.Nodes,iI p0.Rings,iI p0.Room],.box [iI p1.Node,iI p1.Lane]]
      refine RA.join 0 #[true,true,true,true,true,true,true,true,true,true,true,true,true,true,true,true,true,true,true,true,true,true,true,true,true,true,true,true,true,true,true,true,true,true,true,true,true,true,true,true] (mkA 44 [(0,.agg [sL Qga p0.Nodes,iI p0.Rings,iI p0.Room]),(1,.agg [iI p1.Node,iI p1.Lane]),(2,.ptr 0 0),(3,.ptr 1 0),(4,.bool (decide (p1.Lane<((x2.In).length:Int)))),(5,.ptr 1 0),(6,iI p1.Node),(7,.bool (decide (p1.Node ≥ 0))),(8,.bool (decide (p1.Node ≥ 0))),(9,.ptr 1 0),(10,iI p1.Node),(11,.ptr 0 0),(12,sL Qga p0.Nodes),(13,iI ((p0.Nodes).length:Int)),(14,.bool (decide (p1.Node<((p0.Nodes).length:Int)))),(15,.bool (decide (p1.Node<((p0.Nodes).length:Int)))),(16,.bool (decide (p1.Node<((p0.Nodes).length:Int)))),(17,.ptr 0 0),(18,sL Qga p0.Nodes),(19,.ptr 1 0),(20,iI p1.Node),(21,.elt (Qga x1) 0),(22,.elt (Qga x1) 0),(23,iI x1.Kind),(24,.bool (x1.Kind==6)),(25,.bool (x1.Kind==6)),(26,.bool (x1.Kind==6)),(27,.ptr 1 1),(28,iI p1.Lane),(29,.bool (decide (p1.Lane ≥ 0))),(30,.bool (decide (p1.Lane ≥ 0))),(31,.bool (decide (p1.Lane ≥ 0))),(32,.ptr 1 1),(33,iI p1.Lane),(34,.ptr 0 0),(35,sL Qga p0.Nodes),(36,.ptr 1 0),(37,iI p1.Node),(38,.elt (Qga x2) 0),(39,.elt (Qga x2) 2),(40,sL encI x2.In),(41,iI ((x2.In).length:Int)),(42,.bool (decide (p1.Lane<((x2.In).length:Int)))),(43,.bool (decide (p1.Lane<((x2.In).length:Int))))]) a13 ?_ (fun hS6=>?_)
      ·refine RA.done (by decide +kernel) ?_
       exact T.weakR (hK () trivial) (Weak.mkN [] [] (by decide) (Qqa _) rfl ⟨Jwa ((congrArg (fun p=>p) (Option.some.inj hz)).symm),trivial⟩ (Qva))
      ·refine RA.join 5 #[true,true,true,true,true,true,true,true,true,true,true,true,true,true,true,true,true,true,true,true,true,true,true,true,true,true,true,true,true,true,true,true,true,true,true,false,false,false,false,false] (mkA 44 ((5,.ptr 1 0)::(6,iI p1.Node)::(7,.bool (decide (p1.Node ≥ 0)))::(8,.bool (decide (p1.Node ≥ 0)))::(9,.ptr 1 0)::(10,iI p1.Node)::(11,.ptr 0 0)::(12,sL Qga p0.Nodes)::(13,iI ((p0.Nodes).length:Int))::(14,.bool (decide (p1.Node<((p0.Nodes).length:Int))))::(15,.bool (decide (p1.Node<((p0.Nodes).length:Int))))::(16,.bool (decide (p1.Node<((p0.Nodes).length:Int))))::(17,.ptr 0 0)::(18,sL Qga p0.Nodes)::(19,.ptr 1 0)::(20,iI p1.Node)::(21,.elt (Qga x1) 0)::(22,.elt (Qga x1) 0)::(23,iI x1.Kind)::(24,.bool (x1.Kind==6))::(25,.bool (x1.Kind==6))::(26,.bool (x1.Kind==6))::(27,.ptr 1 1)::(28,iI p1.Lane)::(29,.bool (decide (p1.Lane ≥ 0)))::(30,.bool (decide (p1.Lane ≥ 0)))::(31,.bool (decide (p1.Lane ≥ 0)))::(32,.ptr 1 1)::(33,iI p1.Lane)::(34,.ptr 0 0)::(35,sL Qga p0.Nodes)::(36,.ptr 1 0)::(37,iI p1.Node)::(38,.elt (Qga x2) 0)::(39,.elt (Qga x2) 2)::l13)) a13 ?_ (fun hS7=>?_)
       ·refine ra1 35 (RO.yes rfl rfl rfl rfl hb_4 (Jaa rfl (Qha Ty.k26 (c:=sL encI x2.In) rfl (rt1 36 rfl hb_4 (Q3a Ty.s26 rfl (rt1 37 rfl hb_4 (v_lss rfl rfl (rt0 38 rfl (Q9a (v:=.bool (decide (p1.Lane<((x2.In).length:Int)))) rfl hb_4 rfl (rt0 39 rfl (J0a (v:=.bool (decide (p1.Lane<((x2.In).length:Int)))) rfl ?_)))))))))))
        exact raS hS6 ⟨rfl,rfl,rfl,rfl,rfl,rfl,rfl,rfl,rfl,rfl,rfl,rfl,rfl,rfl,rfl,rfl,rfl,rfl,rfl,rfl,rfl,rfl,rfl,rfl,rfl,rfl,rfl,rfl,rfl,rfl,rfl,rfl,rfl,rfl,rfl,rfl,rfl,rfl,rfl,rfl,rfl,rfl,rfl,rfl,trivial⟩
       ·refine RA.join 6 #[true,true,true,true,true,true,true,true,true,true,true,true,true,true,true,true,true,true,true,true,true,true,true,true,true,true,true,true,false,true,true,true,true,true,true,false,false,false,false,false] (mkA 44 ((5,.ptr 1 0)::(6,iI p1.Node)::(7,.bool (decide (p1.Node ≥ 0)))::(8,.bool (decide (p1.Node ≥ 0)))::(9,.ptr 1 0)::(10,iI p1.Node)::(11,.ptr 0 0)::(12,sL Qga p0.Nodes)::(13,iI ((p0.Nodes).length:Int))::(14,.bool (decide (p1.Node<((p0.Nodes).length:Int))))::(15,.bool (decide (p1.Node<((p0.Nodes).length:Int))))::(16,.bool (decide (p1.Node<((p0.Nodes).length:Int))))::(17,.ptr 0 0)::(18,sL Qga p0.Nodes)::(19,.ptr 1 0)::(20,iI p1.Node)::(21,.elt (Qga x1) 0)::(22,.elt (Qga x1) 0)::(23,iI x1.Kind)::(24,.bool (x1.Kind==6))::(25,.bool (x1.Kind==6))::(26,.bool (x1.Kind==6))::(27,.ptr 1 1)::(28,iI p1.Lane)::(29,.bool (decide (p1.Lane ≥ 0)))::(30,.bool (decide (p1.Lane ≥ 0)))::(31,.bool (decide (p1.Lane ≥ 0)))::(32,.ptr 1 1)::(34,.ptr 0 0)::(35,sL Qga p0.Nodes)::(36,.ptr 1 0)::(37,iI p1.Node)::(38,.elt (Qga x2) 0)::(39,.elt (Qga x2) 2)::l13)) a13 ?_ (fun hS8=>?_)
        ·refine ra2 28 35 ?_ ?_
         ·refine RO.yes rfl rfl rfl rfl hb_4 (Qea rfl rfl (Qha Ty.k3 (c:=iI p1.Lane) rfl ?_))
          exact raS hS7 ⟨rfl,rfl,rfl,rfl,rfl,rfl,rfl,rfl,rfl,rfl,rfl,rfl,rfl,rfl,rfl,rfl,rfl,rfl,rfl,rfl,rfl,rfl,rfl,rfl,rfl,rfl,rfl,rfl,rfl,rfl,rfl,rfl,rfl,rfl,rfl,rfl,rfl,rfl,rfl,rfl,trivial⟩
         ·refine RO.yes rfl rfl rfl rfl hb_4 (Jaa rfl (Qha Ty.k26 (c:=sL encI x2.In) rfl (rt1 36 rfl hb_4 (Q3a Ty.s26 rfl (ra1 28 (RO.yes rfl rfl rfl rfl hb_4 (Qea rfl rfl (Qha Ty.k3 (c:=iI p1.Lane) rfl (rt1 37 rfl hb_4 (v_lss rfl rfl (rt0 38 rfl (Q9a (v:=.bool (decide (p1.Lane<((x2.In).length:Int)))) rfl hb_4 rfl (rt0 39 rfl (J0a (v:=.bool (decide (p1.Lane<((x2.In).length:Int)))) rfl ?_))))))))))))))
          exact raS hS6 ⟨rfl,rfl,rfl,rfl,rfl,rfl,rfl,rfl,rfl,rfl,rfl,rfl,rfl,rfl,rfl,rfl,rfl,rfl,rfl,rfl,rfl,rfl,rfl,rfl,rfl,rfl,rfl,rfl,rfl,rfl,rfl,rfl,rfl,rfl,rfl,rfl,rfl,rfl,rfl,rfl,rfl,rfl,rfl,rfl,trivial⟩
        ·refine RA.join 8 #[true,true,true,true,true,true,true,true,true,true,true,true,true,true,true,true,true,true,true,true,true,true,true,true,true,true,true,true,true,true,false,true,true,false,false,false,false,false,false,false] (mkA 44 ((5,.ptr 1 0)::(6,iI p1.Node)::(7,.bool (decide (p1.Node ≥ 0)))::(8,.bool (decide (p1.Node ≥ 0)))::(9,.ptr 1 0)::(10,iI p1.Node)::(11,.ptr 0 0)::(12,sL Qga p0.Nodes)::(13,iI ((p0.Nodes).length:Int))::(14,.bool (decide (p1.Node<((p0.Nodes).length:Int))))::(15,.bool (decide (p1.Node<((p0.Nodes).length:Int))))::(16,.bool (decide (p1.Node<((p0.Nodes).length:Int))))::(17,.ptr 0 0)::(18,sL Qga p0.Nodes)::(19,.ptr 1 0)::(20,iI p1.Node)::(21,.elt (Qga x1) 0)::(22,.elt (Qga x1) 0)::(23,iI x1.Kind)::(24,.bool (x1.Kind==6))::(25,.bool (x1.Kind==6))::(26,.bool (x1.Kind==6))::(27,.ptr 1 1)::(28,iI p1.Lane)::(29,.bool (decide (p1.Lane ≥ 0)))::(30,.bool (decide (p1.Lane ≥ 0)))::(31,.bool (decide (p1.Lane ≥ 0)))::(32,.ptr 1 1)::(33,iI p1.Lane)::(34,.ptr 0 0)::(36,.ptr 1 0)::(37,iI p1.Node)::l13)) a13 ?_ (fun hS9=>?_)
         ·refine ra1 30 (RO.yes rfl rfl rfl rfl hb_4 (Qea rfl rfl (Qha Ty.k22 (c:=sL Qga p0.Nodes) rfl (rt1 33 rfl hb_4 (Q0a Ty.s22 (fun _=>rfl) rfl rfl hx2 (rt1 34 rfl hb_4 (Jua Ty.f40_2 rfl (off':=2) rfl ?_)))))))
          exact raS hS7 ⟨rfl,rfl,rfl,rfl,rfl,rfl,rfl,rfl,rfl,rfl,rfl,rfl,rfl,rfl,rfl,rfl,rfl,rfl,rfl,rfl,rfl,rfl,rfl,rfl,rfl,rfl,rfl,rfl,rfl,rfl,rfl,rfl,rfl,rfl,rfl,rfl,rfl,rfl,rfl,rfl,trivial⟩
         ·refine RA.join 8 #[true,true,true,true,true,true,true,true,true,true,true,true,true,true,true,true,true,true,true,true,true,true,true,true,true,true,true,true,true,true,true,true,false,false,false,false,false,false,false,false] (mkA 44 ((5,.ptr 1 0)::(6,iI p1.Node)::(7,.bool (decide (p1.Node ≥ 0)))::(8,.bool (decide (p1.Node ≥ 0)))::(9,.ptr 1 0)::(10,iI p1.Node)::(11,.ptr 0 0)::(12,sL Qga p0.Nodes)::(13,iI ((p0.Nodes).length:Int))::(14,.bool (decide (p1.Node<((p0.Nodes).length:Int))))::(15,.bool (decide (p1.Node<((p0.Nodes).length:Int))))::(16,.bool (decide (p1.Node<((p0.Nodes).length:Int))))::(17,.ptr 0 0)::(18,sL Qga p0.Nodes)::(19,.ptr 1 0)::(20,iI p1.Node)::(21,.elt (Qga x1) 0)::(22,.elt (Qga x1) 0)::(23,iI x1.Kind)::(24,.bool (x1.Kind==6))::(25,.bool (x1.Kind==6))::(26,.bool (x1.Kind==6))::(27,.ptr 1 1)::(28,iI p1.Lane)::(29,.bool (decide (p1.Lane ≥ 0)))::(30,.bool (decide (p1.Lane ≥ 0)))::(31,.bool (decide (p1.Lane ≥ 0)))::(32,.ptr 1 1)::(33,iI p1.Lane)::(34,.ptr 0 0)::(35,sL Qga p0.Nodes)::(36,.ptr 1 0)::l13)) a13 ?_ (fun hS10=>?_)
          ·refine ra1 32 (RO.yes rfl rfl rfl rfl hb_4 (Qea rfl rfl (Qha Ty.k3 (c:=iI p1.Node) rfl (rt1 33 rfl hb_4 (Q0a Ty.s22 (fun _=>rfl) rfl rfl hx2 (rt1 34 rfl hb_4 (Jua Ty.f40_2 rfl (off':=2) rfl ?_)))))))
           exact raS hS7 ⟨rfl,rfl,rfl,rfl,rfl,rfl,rfl,rfl,rfl,rfl,rfl,rfl,rfl,rfl,rfl,rfl,rfl,rfl,rfl,rfl,rfl,rfl,rfl,rfl,rfl,rfl,rfl,rfl,rfl,rfl,rfl,rfl,rfl,rfl,rfl,rfl,rfl,rfl,rfl,rfl,trivial⟩
          ·refine RA.join 22 #[true,true,true,true,true,true,true,true,true,true,true,true,true,true,true,true,true,true,false,false,false,false,false,false,false,false,false,false,false,false,false,false,false,false,false,false,false,false,false,false] (mkA 44 ((5,.ptr 1 0)::(6,iI p1.Node)::(7,.bool (decide (p1.Node ≥ 0)))::(8,.bool (decide (p1.Node ≥ 0)))::(9,.ptr 1 0)::(10,iI p1.Node)::(11,.ptr 0 0)::(12,sL Qga p0.Nodes)::(13,iI ((p0.Nodes).length:Int))::(14,.bool (decide (p1.Node<((p0.Nodes).length:Int))))::(15,.bool (decide (p1.Node<((p0.Nodes).length:Int))))::(16,.bool (decide (p1.Node<((p0.Nodes).length:Int))))::(17,.ptr 0 0)::(18,sL Qga p0.Nodes)::(19,.ptr 1 0)::(20,iI p1.Node)::(21,.elt (Qga x1) 0)::(22,.elt (Qga x1) 0)::l13)) a13 ?_ (fun hS11=>?_)
           ·refine ra1 18 (RO.yes rfl rfl rfl rfl hb_2 (Jaa rfl (Qha Ty.k3 (c:=iI x1.Kind) rfl (rt1 19 rfl hb_2 (v_eql rfl rfl (rt0 20 rfl (Q9a (v:=.bool (x1.Kind==6)) rfl hb_2 rfl (rt0 21 rfl (Qwa (v:=.bool (x1.Kind==6)) rfl (rt1 22 rfl hb_3 (Qda Ty.f94_1 rfl (off':=1) rfl (ra1 23 (RO.yes rfl rfl rfl rfl hb_3 (Qea rfl rfl (Qha Ty.k3 (c:=iI p1.Lane) rfl (rt1 24 rfl hb_3 (v_geq rfl rfl (rt0 25 rfl (Q9a (v:=.bool (decide (p1.Lane ≥ 0))) rfl hb_3 rfl ?_)))))))))))))))))))
            refine rt0 26 rfl (Qwa (v:=.bool (decide (p1.Lane ≥ 0))) rfl (rt1 27 rfl hb_4 (Qda Ty.f94_1 rfl (off':=1) rfl (rt1 29 rfl hb_4 (Qda Ty.f24_0 rfl (off':=0) rfl (rt1 31 rfl hb_4 (Qda Ty.f94_0 rfl (off':=0) rfl (ra3 28 30 32 ?_ ?_ ?_))))))))
            ·refine RO.yes rfl rfl rfl rfl hb_4 (Qea rfl rfl (Qha Ty.k3 (c:=iI p1.Lane) rfl (ra2 30 32 ?_ ?_)))
             ·refine RO.yes rfl rfl rfl rfl hb_4 (Qea rfl rfl (Qha Ty.k22 (c:=sL Qga p0.Nodes) rfl ?_))
              exact raS hS10 ⟨rfl,rfl,rfl,rfl,rfl,rfl,rfl,rfl,rfl,rfl,rfl,rfl,rfl,rfl,rfl,rfl,rfl,rfl,rfl,rfl,rfl,rfl,rfl,rfl,rfl,rfl,rfl,rfl,rfl,rfl,rfl,rfl,rfl,rfl,rfl,rfl,rfl,trivial⟩
             ·refine RO.yes rfl rfl rfl rfl hb_4 (Qea rfl rfl (Qha Ty.k3 (c:=iI p1.Node) rfl ?_))
              exact raS hS9 ⟨rfl,rfl,rfl,rfl,rfl,rfl,rfl,rfl,rfl,rfl,rfl,rfl,rfl,rfl,rfl,rfl,rfl,rfl,rfl,rfl,rfl,rfl,rfl,rfl,rfl,rfl,rfl,rfl,rfl,rfl,rfl,rfl,rfl,rfl,rfl,rfl,rfl,trivial⟩
            ·refine RO.yes rfl rfl rfl rfl hb_4 (Qea rfl rfl (Qha Ty.k22 (c:=sL Qga p0.Nodes) rfl (ra2 28 32 ?_ ?_)))
             ·refine RO.yes rfl rfl rfl rfl hb_4 (Qea rfl rfl (Qha Ty.k3 (c:=iI p1.Lane) rfl ?_))
              exact raS hS10 ⟨rfl,rfl,rfl,rfl,rfl,rfl,rfl,rfl,rfl,rfl,rfl,rfl,rfl,rfl,rfl,rfl,rfl,rfl,rfl,rfl,rfl,rfl,rfl,rfl,rfl,rfl,rfl,rfl,rfl,rfl,rfl,rfl,rfl,rfl,rfl,rfl,rfl,trivial⟩
             ·refine RO.yes rfl rfl rfl rfl hb_4 (Qea rfl rfl (Qha Ty.k3 (c:=iI p1.Node) rfl (rt1 33 rfl hb_4 (Q0a Ty.s22 (fun _=>rfl) rfl rfl hx2 (rt1 34 rfl hb_4 (Jua Ty.f40_2 rfl (off':=2) rfl ?_))))))
              exact raS hS8 ⟨rfl,rfl,rfl,rfl,rfl,rfl,rfl,rfl,rfl,rfl,rfl,rfl,rfl,rfl,rfl,rfl,rfl,rfl,rfl,rfl,rfl,rfl,rfl,rfl,rfl,rfl,rfl,rfl,rfl,rfl,rfl,rfl,rfl,rfl,rfl,rfl,rfl,rfl,rfl,trivial⟩
            ·refine RO.yes rfl rfl rfl rfl hb_4 (Qea rfl rfl (Qha Ty.k3 (c:=iI p1.Node) rfl (ra2 28 30 ?_ ?_)))
             ·refine RO.yes rfl rfl rfl rfl hb_4 (Qea rfl rfl (Qha Ty.k3 (c:=iI p1.Lane) rfl ?_))
              exact raS hS9 ⟨rfl,rfl,rfl,rfl,rfl,rfl,rfl,rfl,rfl,rfl,rfl,rfl,rfl,rfl,rfl,rfl,rfl,rfl,rfl,rfl,rfl,rfl,rfl,rfl,rfl,rfl,rfl,rfl,rfl,rfl,rfl,rfl,rfl,rfl,rfl,rfl,rfl,trivial⟩
             ·refine RO.yes rfl rfl rfl rfl hb_4 (Qea rfl rfl (Qha Ty.k22 (c:=sL Qga p0.Nodes) rfl (rt1 33 rfl hb_4 (Q0a Ty.s22 (fun _=>rfl) rfl rfl hx2 (rt1 34 rfl hb_4 (Jua Ty.f40_2 rfl (off':=2) rfl ?_))))))
              exact raS hS8 ⟨rfl,rfl,rfl,rfl,rfl,rfl,rfl,rfl,rfl,rfl,rfl,rfl,rfl,rfl,rfl,rfl,rfl,rfl,rfl,rfl,rfl,rfl,rfl,rfl,rfl,rfl,rfl,rfl,rfl,rfl,rfl,rfl,rfl,rfl,rfl,rfl,rfl,rfl,rfl,trivial⟩
           ·refine RA.join 26 #[true,true,true,true,true,true,true,true,true,true,true,true,true,false,true,false,false,false,false,false,false,false,false,false,false,false,false,false,false,false,false,false,false,false,false,false,false,false,false,false] (mkA 44 ((5,.ptr 1 0)::(6,iI p1.Node)::(7,.bool (decide (p1.Node ≥ 0)))::(8,.bool (decide (p1.Node ≥ 0)))::(9,.ptr 1 0)::(10,iI p1.Node)::(11,.ptr 0 0)::(12,sL Qga p0.Nodes)::(13,iI ((p0.Nodes).length:Int))::(14,.bool (decide (p1.Node<((p0.Nodes).length:Int))))::(15,.bool (decide (p1.Node<((p0.Nodes).length:Int))))::(16,.bool (decide (p1.Node<((p0.Nodes).length:Int))))::(17,.ptr 0 0)::(19,.ptr 1 0)::l13)) a13 ?_ (fun hS12=>?_)
            ·refine ra2 13 15 ?_ ?_
             ·refine RO.yes rfl rfl rfl rfl hb_2 (Qea rfl rfl (Qha Ty.k22 (c:=sL Qga p0.Nodes) rfl (ra1 15 (RO.yes rfl rfl rfl rfl hb_2 (Qea rfl rfl (Qha Ty.k3 (c:=iI p1.Node) rfl (rt1 16 rfl hb_2 (Q0a Ty.s22 (fun _=>rfl) rfl rfl hx1 (rt1 17 rfl hb_2 (Jua Ty.f40_0 rfl (off':=0) rfl ?_))))))))))
              exact raS hS11 ⟨rfl,rfl,rfl,rfl,rfl,rfl,rfl,rfl,rfl,rfl,rfl,rfl,rfl,rfl,rfl,rfl,rfl,rfl,rfl,rfl,rfl,rfl,rfl,trivial⟩
             ·refine RO.yes rfl rfl rfl rfl hb_2 (Qea rfl rfl (Qha Ty.k3 (c:=iI p1.Node) rfl (ra1 13 (RO.yes rfl rfl rfl rfl hb_2 (Qea rfl rfl (Qha Ty.k22 (c:=sL Qga p0.Nodes) rfl (rt1 16 rfl hb_2 (Q0a Ty.s22 (fun _=>rfl) rfl rfl hx1 (rt1 17 rfl hb_2 (Jua Ty.f40_0 rfl (off':=0) rfl ?_))))))))))
              exact raS hS11 ⟨rfl,rfl,rfl,rfl,rfl,rfl,rfl,rfl,rfl,rfl,rfl,rfl,rfl,rfl,rfl,rfl,rfl,rfl,rfl,rfl,rfl,rfl,rfl,trivial⟩
            ·refine rt0 0 rfl (Qda Ty.f94_0 rfl (off':=0) rfl (ra1 1 (RO.op rfl rfl (Qea rfl rfl (Qha Ty.k3 (c:=iI p1.Node) rfl (rt0 2 rfl (v_geq rfl rfl (rt0 3 rfl (Qwa (v:=.bool (decide (p1.Node ≥ 0))) rfl (rt1 4 rfl hb_1 (Qda Ty.f94_0 rfl (off':=0) rfl (rt1 6 rfl hb_1 (Qda Ty.f24_0 rfl (off':=0) rfl (ra2 5 7 ?_ ?_))))))))))))))
             ·refine RO.yes rfl rfl rfl rfl hb_1 (Qea rfl rfl (Qha Ty.k3 (c:=iI p1.Node) rfl (ra1 7 (RO.yes rfl rfl rfl rfl hb_1 (Qea rfl rfl (Qha Ty.k22 (c:=sL Qga p0.Nodes) rfl (rt1 8 rfl hb_1 (Q3a Ty.s22 rfl (rt1 9 rfl hb_1 (v_lss rfl rfl (rt0 10 rfl (Q9a (v:=.bool (decide (p1.Node<((p0.Nodes).length:Int)))) rfl hb_1 rfl (rt0 11 rfl (Qwa (v:=.bool (decide (p1.Node<((p0.Nodes).length:Int)))) rfl (rt1 12 rfl hb_2 (Qda Ty.f24_0 rfl (off':=0) rfl (rt1 14 rfl hb_2 (Qda Ty.f94_0 rfl (off':=0) rfl ?_))))))))))))))))))
              exact raS hS12 ⟨rfl,rfl,rfl,rfl,rfl,rfl,rfl,rfl,rfl,rfl,rfl,rfl,rfl,rfl,rfl,rfl,rfl,rfl,rfl,trivial⟩
             ·refine RO.yes rfl rfl rfl rfl hb_1 (Qea rfl rfl (Qha Ty.k22 (c:=sL Qga p0.Nodes) rfl (rt1 8 rfl hb_1 (Q3a Ty.s22 rfl (ra1 5 (RO.yes rfl rfl rfl rfl hb_1 (Qea rfl rfl (Qha Ty.k3 (c:=iI p1.Node) rfl (rt1 9 rfl hb_1 (v_lss rfl rfl (rt0 10 rfl (Q9a (v:=.bool (decide (p1.Node<((p0.Nodes).length:Int)))) rfl hb_1 rfl (rt0 11 rfl (Qwa (v:=.bool (decide (p1.Node<((p0.Nodes).length:Int)))) rfl (rt1 12 rfl hb_2 (Qda Ty.f24_0 rfl (off':=0) rfl (rt1 14 rfl hb_2 (Qda Ty.f94_0 rfl (off':=0) rfl ?_))))))))))))))))))
              exact raS hS12 ⟨rfl,rfl,rfl,rfl,rfl,rfl,rfl,rfl,rfl,rfl,rfl,rfl,rfl,rfl,rfl,rfl,rfl,rfl,rfl,trivial⟩
     replace hz:=ite_F hz hb_4
     refine T.drawn mixed (k:=40) rfl ?_
     let l16:List (Nat × AV):=[(0,.agg [sL Qga p0.Nodes,iI p0.Rings,iI p0.Room]),(1,.agg [iI p1.Node,iI p1.Lane]),(2,.ptr 0 0),(3,.ptr 1 0),(4,.bool false)]
     let a16:List Ob:=[.box [sL Qga p0.Nodes,iI p0.Rings,iI p0.Room],.box [iI p1.Node,iI p1.Lane]]
     refine RA.join 22 #[true,true,true,true,true,true,true,true,true,true,true,true,true,true,true,true,true,true,false,false,false,false,false,false,false,false,false,false,false,false,false,false,false,false,false,false,false,false,false,false] (mkA 44 ((5,.ptr 1 0)::(6,iI p1.Node)::(7,.bool (decide (p1.Node ≥ 0)))::(8,.bool (decide (p1.Node ≥ 0)))::(9,.ptr 1 0)::(10,iI p1.Node)::(11,.ptr 0 0)::(12,sL Qga p0.Nodes)::(13,iI ((p0.Nodes).length:Int))::(14,.bool (decide (p1.Node<((p0.Nodes).length:Int))))::(15,.bool (decide (p1.Node<((p0.Nodes).length:Int))))::(16,.bool (decide (p1.Node<((p0.Nodes).length:Int))))::(17,.ptr 0 0)::(18,sL Qga p0.Nodes)::(19,.ptr 1 0)::(20,iI p1.Node)::(21,.elt (Qga x1) 0)::(22,.elt (Qga x1) 0)::l16)) a16 ?_ (fun hS14=>?_)
     ·refine ra1 18 (RO.yes rfl rfl rfl rfl hb_2 (Jaa rfl (Qha Ty.k3 (c:=iI x1.Kind) rfl (rt1 19 rfl hb_2 (v_eql rfl rfl (rt0 20 rfl (Q9a (v:=.bool (x1.Kind==6)) rfl hb_2 rfl (rt0 21 rfl (Qwa (v:=.bool (x1.Kind==6)) rfl (rt1 22 rfl hb_3 (Qda Ty.f94_1 rfl (off':=1) rfl (ra1 23 (RO.yes rfl rfl rfl rfl hb_3 (Qea rfl rfl (Qha Ty.k3 (c:=iI p1.Lane) rfl (rt1 24 rfl hb_3 (v_geq rfl rfl (rt0 25 rfl (Q9a (v:=.bool (decide (p1.Lane ≥ 0))) rfl hb_3 rfl ?_)))))))))))))))))))
      refine rt0 26 rfl (Qwa (v:=.bool (decide (p1.Lane ≥ 0))) rfl (rt2 27 rfl hb_4 (rt2 28 rfl hb_4 (rt2 29 rfl hb_4 (rt2 30 rfl hb_4 (rt2 31 rfl hb_4 (rt2 32 rfl hb_4 (rt2 33 rfl hb_4 (rt2 34 rfl hb_4 (rt2 35 rfl hb_4 ?_))))))))))
      refine rt2 36 rfl hb_4 (rt2 37 rfl hb_4 (rt0 38 rfl (Q8a (v:=.bool false) rfl hb_4 rfl (rt0 39 rfl (J0a (v:=.bool false) rfl (RA.done (by decide +kernel) ?_))))))
      exact T.weakR (hK () trivial) (Weak.mkN [] [] (by decide) (Qqa _) rfl ⟨Jwa ((congrArg (fun p=>p) (Option.some.inj hz)).symm),trivial⟩ (Qva))
     ·refine RA.join 26 #[true,true,true,true,true,true,true,true,true,true,true,true,true,false,true,false,false,false,false,false,false,false,false,false,false,false,false,false,false,false,false,false,false,false,false,false,false,false,false,false] (mkA 44 ((5,.ptr 1 0)::(6,iI p1.Node)::(7,.bool (decide (p1.Node ≥ 0)))::(8,.bool (decide (p1.Node ≥ 0)))::(9,.ptr 1 0)::(10,iI p1.Node)::(11,.ptr 0 0)::(12,sL Qga p0.Nodes)::(13,iI ((p0.Nodes).length:Int))::(14,.bool (decide (p1.Node<((p0.Nodes).length:Int))))::(15,.bool (decide (p1.Node<((p0.Nodes).length:Int))))::(16,.bool (decide (p1.Node<((p0.Nodes).length:Int))))::(17,.ptr 0 0)::(19,.ptr 1 0)::l16)) a16 ?_ (fun hS15=>?_)
      ·refine ra2 13 15 ?_ ?_
       ·refine RO.yes rfl rfl rfl rfl hb_2 (Qea rfl rfl (Qha Ty.k22 (c:=sL Qga p0.Nodes) rfl (ra1 15 (RO.yes rfl rfl rfl rfl hb_2 (Qea rfl rfl (Qha Ty.k3 (c:=iI p1.Node) rfl (rt1 16 rfl hb_2 (Q0a Ty.s22 (fun _=>rfl) rfl rfl hx1 (rt1 17 rfl hb_2 (Jua Ty.f40_0 rfl (off':=0) rfl ?_))))))))))
        exact raS hS14 ⟨rfl,rfl,rfl,rfl,rfl,rfl,rfl,rfl,rfl,rfl,rfl,rfl,rfl,rfl,rfl,rfl,rfl,rfl,rfl,rfl,rfl,rfl,rfl,trivial⟩
       ·refine RO.yes rfl rfl rfl rfl hb_2 (Qea rfl rfl (Qha Ty.k3 (c:=iI p1.Node) rfl (ra1 13 (RO.yes rfl rfl rfl rfl hb_2 (Qea rfl rfl (Qha Ty.k22 (c:=sL Qga p0.Nodes) rfl (rt1 16 rfl hb_2 (Q0a Ty.s22 (fun _=>rfl) rfl rfl hx1 (rt1 17 rfl hb_2 (Jua Ty.f40_0 rfl (off':=0) rfl ?_))))))))))
        exact raS hS14 ⟨rfl,rfl,rfl,rfl,rfl,rfl,rfl,rfl,rfl,rfl,rfl,rfl,rfl,rfl,rfl,rfl,rfl,rfl,rfl,rfl,rfl,rfl,rfl,trivial⟩
      ·refine rt0 0 rfl (Qda Ty.f94_0 rfl (off':=0) rfl (ra1 1 (RO.op rfl rfl (Qea rfl rfl (Qha Ty.k3 (c:=iI p1.Node) rfl (rt0 2 rfl (v_geq rfl rfl (rt0 3 rfl (Qwa (v:=.bool (decide (p1.Node ≥ 0))) rfl (rt1 4 rfl hb_1 (Qda Ty.f94_0 rfl (off':=0) rfl (rt1 6 rfl hb_1 (Qda Ty.f24_0 rfl (off':=0) rfl (ra2 5 7 ?_ ?_))))))))))))))
       ·refine RO.yes rfl rfl rfl rfl hb_1 (Qea rfl rfl (Qha Ty.k3 (c:=iI p1.Node) rfl (ra1 7 (RO.yes rfl rfl rfl rfl hb_1 (Qea rfl rfl (Qha Ty.k22 (c:=sL Qga p0.Nodes) rfl (rt1 8 rfl hb_1 (Q3a Ty.s22 rfl (rt1 9 rfl hb_1 (v_lss rfl rfl (rt0 10 rfl (Q9a (v:=.bool (decide (p1.Node<((p0.Nodes).length:Int)))) rfl hb_1 rfl (rt0 11 rfl (Qwa (v:=.bool (decide (p1.Node<((p0.Nodes).length:Int)))) rfl (rt1 12 rfl hb_2 (Qda Ty.f24_0 rfl (off':=0) rfl (rt1 14 rfl hb_2 (Qda Ty.f94_0 rfl (off':=0) rfl ?_))))))))))))))))))
        exact raS hS15 ⟨rfl,rfl,rfl,rfl,rfl,rfl,rfl,rfl,rfl,rfl,rfl,rfl,rfl,rfl,rfl,rfl,rfl,rfl,rfl,trivial⟩
       ·refine RO.yes rfl rfl rfl rfl hb_1 (Qea rfl rfl (Qha Ty.k22 (c:=sL Qga p0.Nodes) rfl (rt1 8 rfl hb_1 (Q3a Ty.s22 rfl (ra1 5 (RO.yes rfl rfl rfl rfl hb_1 (Qea rfl rfl (Qha Ty.k3 (c:=iI p1.Node) rfl (rt1 9 rfl hb_1 (v_lss rfl rfl (rt0 10 rfl (Q9a (v:=.bool (decide (p1.Node<((p0.Nodes).length:Int)))) rfl hb_1 rfl (rt0 11 rfl (Qwa (v:=.bool (decide (p1.Node<((p0.Nodes).length:Int)))) rfl (rt1 12 rfl hb_2 (Qda Ty.f24_0 rfl (off':=0) rfl (rt1 14 rfl hb_2 (Qda Ty.f94_0 rfl (off':=0) rfl ?_))))))))))))))))))
        exact raS hS15 ⟨rfl,rfl,rfl,rfl,rfl,rfl,rfl,rfl,rfl,rfl,rfl,rfl,rfl,rfl,rfl,rfl,rfl,rfl,rfl,trivial⟩
    replace hz:=ite_F hz hb_3
    refine T.drawn mixed (k:=40) rfl ?_
    let l19:List (Nat × AV):=[(0,.agg [sL Qga p0.Nodes,iI p0.Rings,iI p0.Room]),(1,.agg [iI p1.Node,iI p1.Lane]),(2,.ptr 0 0),(3,.ptr 1 0),(4,.bool false)]
    let a19:List Ob:=[.box [sL Qga p0.Nodes,iI p0.Rings,iI p0.Room],.box [iI p1.Node,iI p1.Lane]]
    refine RA.join 22 #[true,true,true,true,true,true,true,true,true,true,true,true,true,true,true,true,true,true,false,false,false,false,false,false,false,false,false,false,false,false,false,false,false,false,false,false,false,false,false,false] (mkA 44 ((5,.ptr 1 0)::(6,iI p1.Node)::(7,.bool (decide (p1.Node ≥ 0)))::(8,.bool (decide (p1.Node ≥ 0)))::(9,.ptr 1 0)::(10,iI p1.Node)::(11,.ptr 0 0)::(12,sL Qga p0.Nodes)::(13,iI ((p0.Nodes).length:Int))::(14,.bool (decide (p1.Node<((p0.Nodes).length:Int))))::(15,.bool (decide (p1.Node<((p0.Nodes).length:Int))))::(16,.bool (decide (p1.Node<((p0.Nodes).length:Int))))::(17,.ptr 0 0)::(18,sL Qga p0.Nodes)::(19,.ptr 1 0)::(20,iI p1.Node)::(21,.elt (Qga x1) 0)::(22,.elt (Qga x1) 0)::l19)) a19 ?_ (fun hS17=>?_)
    ·refine ra1 18 (RO.yes rfl rfl rfl rfl hb_2 (Jaa rfl (Qha Ty.k3 (c:=iI x1.Kind) rfl (rt1 19 rfl hb_2 (v_eql rfl rfl (rt0 20 rfl (Q9a (v:=.bool (x1.Kind==6)) rfl hb_2 rfl (rt0 21 rfl (Qwa (v:=.bool (x1.Kind==6)) rfl (rt2 22 rfl hb_3 (rt2 23 rfl hb_3 (rt2 24 rfl hb_3 (rt0 25 rfl (Q8a (v:=.bool false) rfl hb_3 rfl (rt0 26 rfl (Qwa (v:=.bool false) rfl ?_))))))))))))))))
     refine rt2 27 rfl rfl (rt2 28 rfl rfl (rt2 29 rfl rfl (rt2 30 rfl rfl (rt2 31 rfl rfl (rt2 32 rfl rfl (rt2 33 rfl rfl (rt2 34 rfl rfl (rt2 35 rfl rfl (rt2 36 rfl rfl ?_)))))))))
     refine rt2 37 rfl rfl (rt0 38 rfl (Q8a (v:=.bool false) rfl rfl rfl (rt0 39 rfl (J0a (v:=.bool false) rfl (RA.done (by decide +kernel) ?_)))))
     exact T.weakR (hK () trivial) (Weak.mkN [] [] (by decide) (Qqa _) rfl ⟨Jwa ((congrArg (fun p=>p) (Option.some.inj hz)).symm),trivial⟩ (Qva))
    ·refine RA.join 26 #[true,true,true,true,true,true,true,true,true,true,true,true,true,false,true,false,false,false,false,false,false,false,false,false,false,false,false,false,false,false,false,false,false,false,false,false,false,false,false,false] (mkA 44 ((5,.ptr 1 0)::(6,iI p1.Node)::(7,.bool (decide (p1.Node ≥ 0)))::(8,.bool (decide (p1.Node ≥ 0)))::(9,.ptr 1 0)::(10,iI p1.Node)::(11,.ptr 0 0)::(12,sL Qga p0.Nodes)::(13,iI ((p0.Nodes).length:Int))::(14,.bool (decide (p1.Node<((p0.Nodes).length:Int))))::(15,.bool (decide (p1.Node<((p0.Nodes).length:Int))))::(16,.bool (decide (p1.Node<((p0.Nodes).length:Int))))::(17,.ptr 0 0)::(19,.ptr 1 0)::l19)) a19 ?_ (fun hS18=>?_)
     ·refine ra2 13 15 ?_ ?_
      ·refine RO.yes rfl rfl rfl rfl hb_2 (Qea rfl rfl (Qha Ty.k22 (c:=sL Qga p0.Nodes) rfl (ra1 15 (RO.yes rfl rfl rfl rfl hb_2 (Qea rfl rfl (Qha Ty.k3 (c:=iI p1.Node) rfl (rt1 16 rfl hb_2 (Q0a Ty.s22 (fun _=>rfl) rfl rfl hx1 (rt1 17 rfl hb_2 (Jua Ty.f40_0 rfl (off':=0) rfl ?_))))))))))
       exact raS hS17 ⟨rfl,rfl,rfl,rfl,rfl,rfl,rfl,rfl,rfl,rfl,rfl,rfl,rfl,rfl,rfl,rfl,rfl,rfl,rfl,rfl,rfl,rfl,rfl,trivial⟩
      ·refine RO.yes rfl rfl rfl rfl hb_2 (Qea rfl rfl (Qha Ty.k3 (c:=iI p1.Node) rfl (ra1 13 (RO.yes rfl rfl rfl rfl hb_2 (Qea rfl rfl (Qha Ty.k22 (c:=sL Qga p0.Nodes) rfl (rt1 16 rfl hb_2 (Q0a Ty.s22 (fun _=>rfl) rfl rfl hx1 (rt1 17 rfl hb_2 (Jua Ty.f40_0 rfl (off':=0) rfl ?_))))))))))
       exact raS hS17 ⟨rfl,rfl,rfl,rfl,rfl,rfl,rfl,rfl,rfl,rfl,rfl,rfl,rfl,rfl,rfl,rfl,rfl,rfl,rfl,rfl,rfl,rfl,rfl,trivial⟩
     ·refine rt0 0 rfl (Qda Ty.f94_0 rfl (off':=0) rfl (ra1 1 (RO.op rfl rfl (Qea rfl rfl (Qha Ty.k3 (c:=iI p1.Node) rfl (rt0 2 rfl (v_geq rfl rfl (rt0 3 rfl (Qwa (v:=.bool (decide (p1.Node ≥ 0))) rfl (rt1 4 rfl hb_1 (Qda Ty.f94_0 rfl (off':=0) rfl (rt1 6 rfl hb_1 (Qda Ty.f24_0 rfl (off':=0) rfl (ra2 5 7 ?_ ?_))))))))))))))
      ·refine RO.yes rfl rfl rfl rfl hb_1 (Qea rfl rfl (Qha Ty.k3 (c:=iI p1.Node) rfl (ra1 7 (RO.yes rfl rfl rfl rfl hb_1 (Qea rfl rfl (Qha Ty.k22 (c:=sL Qga p0.Nodes) rfl (rt1 8 rfl hb_1 (Q3a Ty.s22 rfl (rt1 9 rfl hb_1 (v_lss rfl rfl (rt0 10 rfl (Q9a (v:=.bool (decide (p1.Node<((p0.Nodes).length:Int)))) rfl hb_1 rfl (rt0 11 rfl (Qwa (v:=.bool (decide (p1.Node<((p0.Nodes).length:Int)))) rfl (rt1 12 rfl hb_2 (Qda Ty.f24_0 rfl (off':=0) rfl (rt1 14 rfl hb_2 (Qda Ty.f94_0 rfl (off':=0) rfl ?_))))))))))))))))))
       exact raS hS18 ⟨rfl,rfl,rfl,rfl,rfl,rfl,rfl,rfl,rfl,rfl,rfl,rfl,rfl,rfl,rfl,rfl,rfl,rfl,rfl,trivial⟩
      ·refine RO.yes rfl rfl rfl rfl hb_1 (Qea rfl rfl (Qha Ty.k22 (c:=sL Qga p0.Nodes) rfl (rt1 8 rfl hb_1 (Q3a Ty.s22 rfl (ra1 5 (RO.yes rfl rfl rfl rfl hb_1 (Qea rfl rfl (Qha Ty.k3 (c:=iI p1.Node) rfl (rt1 9 rfl hb_1 (v_lss rfl rfl (rt0 10 rfl (Q9a (v:=.bool (decide (p1.Node<((p0.Nodes).length:Int)))) rfl hb_1 rfl (rt0 11 rfl (Qwa (v:=.bool (decide (p1.Node<((p0.Nodes).length:Int)))) rfl (rt1 12 rfl hb_2 (Qda Ty.f24_0 rfl (off':=0) rfl (rt1 14 rfl hb_2 (Qda Ty.f94_0 rfl (off':=0) rfl ?_))))))))))))))))))
       exact raS hS18 ⟨rfl,rfl,rfl,rfl,rfl,rfl,rfl,rfl,rfl,rfl,rfl,rfl,rfl,rfl,rfl,rfl,rfl,rfl,rfl,trivial⟩
   replace hz:=ite_F hz hb_2
   refine T.drawn mixed (k:=40) rfl ?_
   let l21:List (Nat × AV):=[(0,.agg [sL Qga p0.Nodes,iI p0.Rings,iI p0.Room]),(1,.agg [iI p1.Node,iI p1.Lane]),(2,.ptr 0 0),(3,.ptr 1 0),(4,.bool false)]
   let a21:List Ob:=[.box [sL Qga p0.Nodes,iI p0.Rings,iI p0.Room],.box [iI p1.Node,iI p1.Lane]]
   refine RA.join 0 #[true,true,true,true,true,true,true,true,true,true,true,true,true,true,true,true,true,true,true,true,true,true,true,true,true,true,true,true,true,true,true,true,true,true,true,true,true,true,true,true] (mkA 44 ((5,.ptr 1 0)::(6,iI p1.Node)::(7,.bool (decide (p1.Node ≥ 0)))::(8,.bool (decide (p1.Node ≥ 0)))::(9,.ptr 1 0)::(10,iI p1.Node)::(11,.ptr 0 0)::(12,sL Qga p0.Nodes)::(13,iI ((p0.Nodes).length:Int))::(14,.bool (decide (p1.Node<((p0.Nodes).length:Int))))::(15,.bool (decide (p1.Node<((p0.Nodes).length:Int))))::(16,.bool (decide (p1.Node<((p0.Nodes).length:Int))))::(17,.tup [])::(18,.tup [])::(19,.tup [])::(20,.tup [])::(21,.tup [])::(22,.tup [])::(23,.tup [])::(24,.tup [])::(25,.bool false)::(26,.bool false)::(27,.tup [])::(28,.tup [])::(29,.tup [])::(30,.bool false)::(31,.bool false)::(32,.tup [])::(33,.tup [])::(34,.tup [])::(35,.tup [])::(36,.tup [])::(37,.tup [])::(38,.tup [])::(39,.tup [])::(40,.tup [])::(41,.tup [])::(42,.tup [])::(43,.bool false)::l21)) a21 ?_ (fun hS20=>?_)
   ·refine RA.done (by decide +kernel) ?_
    exact T.weakR (hK () trivial) (Weak.mkN [] [] (by decide) (Qqa _) rfl ⟨Jwa ((congrArg (fun p=>p) (Option.some.inj hz)).symm),trivial⟩ (Qva))
   ·refine rt0 0 rfl (Qda Ty.f94_0 rfl (off':=0) rfl (ra1 1 (RO.op rfl rfl (Qea rfl rfl (Qha Ty.k3 (c:=iI p1.Node) rfl (rt0 2 rfl (v_geq rfl rfl (rt0 3 rfl (Qwa (v:=.bool (decide (p1.Node ≥ 0))) rfl (rt1 4 rfl hb_1 (Qda Ty.f94_0 rfl (off':=0) rfl (rt1 6 rfl hb_1 (Qda Ty.f24_0 rfl (off':=0) rfl (ra2 5 7 ?_ ?_))))))))))))))
    ·refine RO.yes rfl rfl rfl rfl hb_1 (Qea rfl rfl (Qha Ty.k3 (c:=iI p1.Node) rfl (ra1 7 (RO.yes rfl rfl rfl rfl hb_1 (Qea rfl rfl (Qha Ty.k22 (c:=sL Qga p0.Nodes) rfl (rt1 8 rfl hb_1 (Q3a Ty.s22 rfl (rt1 9 rfl hb_1 (v_lss rfl rfl (rt0 10 rfl (Q9a (v:=.bool (decide (p1.Node<((p0.Nodes).length:Int)))) rfl hb_1 rfl (rt0 11 rfl (Qwa (v:=.bool (decide (p1.Node<((p0.Nodes).length:Int)))) rfl (rt2 12 rfl hb_2 (rt2 13 rfl hb_2 (rt2 14 rfl hb_2 ?_)))))))))))))))))
     refine rt2 15 rfl hb_2 (rt2 16 rfl hb_2 (rt2 17 rfl hb_2 (rt2 18 rfl hb_2 (rt2 19 rfl hb_2 (rt0 20 rfl (Q8a (v:=.bool false) rfl hb_2 rfl (rt0 21 rfl (Qwa (v:=.bool false) rfl (rt2 22 rfl rfl (rt2 23 rfl rfl (rt2 24 rfl rfl ?_)))))))))))
     refine rt0 25 rfl (Q8a (v:=.bool false) rfl rfl rfl (rt0 26 rfl (Qwa (v:=.bool false) rfl (rt2 27 rfl rfl (rt2 28 rfl rfl (rt2 29 rfl rfl (rt2 30 rfl rfl (rt2 31 rfl rfl (rt2 32 rfl rfl (rt2 33 rfl rfl (rt2 34 rfl rfl ?_)))))))))))
     refine rt2 35 rfl rfl (rt2 36 rfl rfl (rt2 37 rfl rfl (rt0 38 rfl (Q8a (v:=.bool false) rfl rfl rfl (rt0 39 rfl (J0a (v:=.bool false) rfl ?_))))))
     exact raS hS20 ⟨rfl,rfl,rfl,rfl,rfl,rfl,rfl,rfl,rfl,rfl,rfl,rfl,rfl,rfl,rfl,rfl,rfl,rfl,rfl,rfl,rfl,rfl,rfl,rfl,rfl,rfl,rfl,rfl,rfl,rfl,rfl,rfl,rfl,rfl,rfl,rfl,rfl,rfl,rfl,rfl,rfl,rfl,rfl,rfl,trivial⟩
    ·refine RO.yes rfl rfl rfl rfl hb_1 (Qea rfl rfl (Qha Ty.k22 (c:=sL Qga p0.Nodes) rfl (rt1 8 rfl hb_1 (Q3a Ty.s22 rfl (ra1 5 (RO.yes rfl rfl rfl rfl hb_1 (Qea rfl rfl (Qha Ty.k3 (c:=iI p1.Node) rfl (rt1 9 rfl hb_1 (v_lss rfl rfl (rt0 10 rfl (Q9a (v:=.bool (decide (p1.Node<((p0.Nodes).length:Int)))) rfl hb_1 rfl (rt0 11 rfl (Qwa (v:=.bool (decide (p1.Node<((p0.Nodes).length:Int)))) rfl (rt2 12 rfl hb_2 (rt2 13 rfl hb_2 (rt2 14 rfl hb_2 ?_)))))))))))))))))
     refine rt2 15 rfl hb_2 (rt2 16 rfl hb_2 (rt2 17 rfl hb_2 (rt2 18 rfl hb_2 (rt2 19 rfl hb_2 (rt0 20 rfl (Q8a (v:=.bool false) rfl hb_2 rfl (rt0 21 rfl (Qwa (v:=.bool false) rfl (rt2 22 rfl rfl (rt2 23 rfl rfl (rt2 24 rfl rfl ?_)))))))))))
     refine rt0 25 rfl (Q8a (v:=.bool false) rfl rfl rfl (rt0 26 rfl (Qwa (v:=.bool false) rfl (rt2 27 rfl rfl (rt2 28 rfl rfl (rt2 29 rfl rfl (rt2 30 rfl rfl (rt2 31 rfl rfl (rt2 32 rfl rfl (rt2 33 rfl rfl (rt2 34 rfl rfl ?_)))))))))))
     refine rt2 35 rfl rfl (rt2 36 rfl rfl (rt2 37 rfl rfl (rt0 38 rfl (Q8a (v:=.bool false) rfl rfl rfl (rt0 39 rfl (J0a (v:=.bool false) rfl ?_))))))
     exact raS hS20 ⟨rfl,rfl,rfl,rfl,rfl,rfl,rfl,rfl,rfl,rfl,rfl,rfl,rfl,rfl,rfl,rfl,rfl,rfl,rfl,rfl,rfl,rfl,rfl,rfl,rfl,rfl,rfl,rfl,rfl,rfl,rfl,rfl,rfl,rfl,rfl,rfl,rfl,rfl,rfl,rfl,rfl,rfl,rfl,rfl,trivial⟩
  replace hz:=ite_F hz hb_1
  refine T.drawn mixed (k:=40) rfl (rt0 0 rfl (Qda Ty.f94_0 rfl (off':=0) rfl (ra1 1 (RO.op rfl rfl (Qea rfl rfl (Qha Ty.k3 (c:=iI p1.Node) rfl (rt0 2 rfl (v_geq rfl rfl (rt0 3 rfl (Qwa (v:=.bool (decide (p1.Node ≥ 0))) rfl (rt2 4 rfl hb_1 (rt2 5 rfl hb_1 (rt2 6 rfl hb_1 (rt2 7 rfl hb_1 ?_))))))))))))))
  refine rt2 8 rfl hb_1 (rt2 9 rfl hb_1 (rt0 10 rfl (Q8a (v:=.bool false) rfl hb_1 rfl (rt0 11 rfl (Qwa (v:=.bool false) rfl (rt2 12 rfl rfl (rt2 13 rfl rfl (rt2 14 rfl rfl (rt2 15 rfl rfl (rt2 16 rfl rfl (rt2 17 rfl rfl ?_)))))))))))
  refine rt2 18 rfl rfl (rt2 19 rfl rfl (rt0 20 rfl (Q8a (v:=.bool false) rfl rfl rfl (rt0 21 rfl (Qwa (v:=.bool false) rfl (rt2 22 rfl rfl (rt2 23 rfl rfl (rt2 24 rfl rfl (rt0 25 rfl (Q8a (v:=.bool false) rfl rfl rfl (rt0 26 rfl (Qwa (v:=.bool false) rfl (rt2 27 rfl rfl ?_)))))))))))))
  refine rt2 28 rfl rfl (rt2 29 rfl rfl (rt2 30 rfl rfl (rt2 31 rfl rfl (rt2 32 rfl rfl (rt2 33 rfl rfl (rt2 34 rfl rfl (rt2 35 rfl rfl (rt2 36 rfl rfl (rt2 37 rfl rfl ?_)))))))))
  refine rt0 38 rfl (Q8a (v:=.bool false) rfl rfl rfl (rt0 39 rfl (J0a (v:=.bool false) rfl (RA.done (by decide +kernel) ?_))))
  exact T.weakR (hK () trivial) (Weak.mkN [] [] (by decide) (Qqa _) rfl ⟨Jwa ((congrArg (fun p=>p) (Option.some.inj hz)).symm),trivial⟩ (Qva))
end Go.Proofs.Ytfbmoockopakjaa
namespace Go.Proofs.Ytfbmoockopakjaa
open Go.RowKit
set_option linter.unusedVariables false
set_option linter.unusedSimpArgs false
set_option maxRecDepth 100000
set_option maxHeartbeats 4000000
theorem move_Check_c (p0:Net) (p1:List (List Item)) (p2:State) (r:Int) (h:move_Check p0 p1 p2=some r):Fn Try.prog 15 [.agg [sL Qga p0.Nodes,iI p0.Rings,iI p0.Room],sL (encL Qaa) p1,.agg [sL encI p2.At,sL (encL Qaa) p2.Rings,sL Qba p2.Memory,sL Qca p2.Choices,sL Qaa p2.Out]] (iI r):=by
  unfold move_Check at h
  refine Jpa (N:=0) rfl Try.func15 rfl (by kernel_rfl) Try.ntmps15 rfl ?_
  show T _ _ _ _ (mkA 131 [(0,.agg [sL Qga p0.Nodes,iI p0.Rings,iI p0.Room]),(1,sL (encL Qaa) p1),(2,.agg [sL encI p2.At,sL (encL Qaa) p2.Rings,sL Qba p2.Memory,sL Qca p2.Choices,sL Qaa p2.Out])]) []
  refine T.seq (T.region (so (o_box (cs:=[sL Qga p0.Nodes,iI p0.Rings,iI p0.Room]) rfl rfl rfl (so (o_box (cs:=[sL encI p2.At,sL (encL Qaa) p2.Rings,sL Qba p2.Memory,sL Qca p2.Choices,sL Qaa p2.Out]) rfl rfl rfl (sa (iI 0) rfl (RS.nil (T.seq (T.seq ?_)))))))))
  obtain ⟨x2,hx2,h⟩:=bind_some h
  refine T.region (so (Qea rfl rfl (Qna Ty.k24 Ty.c24 rfl (cs:=[sL Qga p0.Nodes,iI p0.Rings,iI p0.Room]) rfl (sm (sL (encL Qaa) p1) rfl (so (Jfa (as0:=[.agg [sL Qga p0.Nodes,iI p0.Rings,iI p0.Room],sL (encL Qaa) p1]) (as1:=[.agg [sL Qga p0.Nodes,iI p0.Rings,iI p0.Room],sL (encL Qaa) p1]) (caps:=[]) (aw1:=[.box [sL Qga p0.Nodes,iI p0.Rings,iI p0.Room],.box [sL encI p2.At,sL (encL Qaa) p2.Rings,sL Qba p2.Memory,sL Qca p2.Choices,sL Qaa p2.Out]]) rfl rfl rfl (Zda (v:=iI x2) (net_Sources_c p0 p1 x2 hx2) (⟨Qsa _ (Qka (⟨Qia J1a _,Qfa _ _,Qfa _ _,trivial⟩)),Qia (Jna Qma) _,trivial⟩) rfl (sa (iI x2) rfl (RS.nil (T.seq (T.region (sm (iI x2) rfl (sq (v_neq rfl rfl ?_))))))))))))))
  refine RS.nil (T.cond (b:=x2 != 0) rfl (fun hb_1=>?_) (fun hb_1=>?_))
  ·replace h:=ite_T h hb_1
   refine T.seq (T.region (sm (iI x2) rfl (sa (iI x2) rfl (RS.nil (T.rt (Qpa (v:=iI x2) rfl (Qra ?_)))))))
   exact Qza (v:=iI x2) rfl (Qfa _ _) ⟨congrArg (fun r:Int=>(iI r:AV)) (Option.some.inj h),rfl⟩
  replace h:=ite_F h hb_1
  refine T.skip (T.seq (T.join (Z:=Unit) (fun _=>mkA 131 [(1,sL (encL Qaa) p1),(3,.ptr 0 0),(5,.ptr 1 0),(46,.bool ((((p2.At).length:Int) != ((p1).length:Int)) || ((((p2.Rings).length:Int) != p0.Rings) || ((p2.Memory).length:Int) != ((p0.Nodes).length:Int))))]) (fun _=>[.box [sL Qga p0.Nodes,iI p0.Rings,iI p0.Room],.box [sL encI p2.At,sL (encL Qaa) p2.Rings,sL Qba p2.Memory,sL Qca p2.Choices,sL Qaa p2.Out]]) (fun _=>True) (fun _ _=>?_) (fun hK=>?_)))
  ·refine T.cond (b:=((((p2.At).length:Int) != ((p1).length:Int)) || ((((p2.Rings).length:Int) != p0.Rings) || ((p2.Memory).length:Int) != ((p0.Nodes).length:Int)))) rfl (fun hb_4=>?_) (fun hb_4=>?_)
   ·replace h:=ite_T h hb_4
    refine T.seq (T.region (sa (iI 4) rfl (RS.nil (T.rt (Qpa (v:=iI 4) rfl (Qra ?_))))))
    exact Qza (v:=iI 4) rfl (Qfa _ _) ⟨congrArg (fun r:Int=>(iI r:AV)) (Option.some.inj h),rfl⟩
   replace h:=ite_F h hb_4
   refine T.skip (T.seq (T.join (Z:=Unit) (fun _=>mkA 131 [(1,sL (encL Qaa) p1),(3,.ptr 0 0),(5,.ptr 1 0),(56,.bool ((decide (((p2.Choices).length:Int) > 500)) || decide (((p2.Out).length:Int) > 2000)))]) (fun _=>[.box [sL Qga p0.Nodes,iI p0.Rings,iI p0.Room],.box [sL encI p2.At,sL (encL Qaa) p2.Rings,sL Qba p2.Memory,sL Qca p2.Choices,sL Qaa p2.Out]]) (fun _=>True) (fun _ _=>?_) (fun hK=>?_)))
   ·refine T.cond (b:=((decide (((p2.Choices).length:Int) > 500)) || decide (((p2.Out).length:Int) > 2000))) rfl (fun hb_6=>?_) (fun hb_6=>?_)
    ·replace h:=ite_T h hb_6
     refine T.seq (T.region (sa (iI 2) rfl (RS.nil (T.rt (Qpa (v:=iI 2) rfl (Qra ?_))))))
     exact Qza (v:=iI 2) rfl (Qfa _ _) ⟨congrArg (fun r:Int=>(iI r:AV)) (Option.some.inj h),rfl⟩
    replace h:=ite_F h hb_6
    refine T.skip (T.seq (T.seq (T.region (sq (Qda Ty.f31_0 rfl (off':=0) rfl (so (Qea rfl rfl (Qha Ty.k26 (c:=sL encI p2.At) rfl (sq (Q3a Ty.s26 rfl (sm (iI 0) rfl (RS.nil (T.block ?_)))))))))))))
    refine T.iter (fun ss_15:Int=>mkA 131 [(1,sL (encL Qaa) p1),(3,.ptr 0 0),(5,.ptr 1 0),(58,sL encI p2.At),(59,iI ((p2.At).length:Int)),(60,iI ss_15)]) (fun ss_15=>[.box [sL Qga p0.Nodes,iI p0.Rings,iI p0.Room],.box [sL encI p2.At,sL (encL Qaa) p2.Rings,sL Qba p2.Memory,sL Qca p2.Choices,sL Qaa p2.Out]]) h (Weak.mkN [] [0,1] (by decide) (Qqa _) rfl ⟨rn_s rfl,Qua rfl,Qua rfl,rn_s rfl,Qla rfl,Qla rfl,trivial⟩ (rw_bs [sL Qga p0.Nodes,iI p0.Rings,iI p0.Room] rfl (rw_bs [sL encI p2.At,sL (encL Qaa) p2.Rings,sL Qba p2.Memory,sL Qca p2.Choices,sL Qaa p2.Out] rfl (Qva)))) (fun ss_15 v_16 h hv_16=>?_)
    revert hv_16 h;revert ss_15;intro s5 h hv_16
    replace h:move_Check_l4 p0 p1 p2 s5=some v_16:=h
    try dsimp only
    unfold move_Check_l4 at h
    refine T.seq (T.region (sq (v_lss rfl rfl (RS.nil (T.seq (T.cond (b:=decide (s5<((p2.At).length:Int))) rfl (fun hb_17=>?_) (fun hb_17=>?_)))))))
    ·replace h:=ite_T h hb_17
     refine T.skip (T.seq (T.block (T.seq ?_)))
     obtain ⟨x7,hx7,h⟩:=bind_some h
     refine T.region (sm (iI s5) rfl (sq (Q0a Ty.s26 (fun _=>rfl) rfl rfl hx7 (so (Jaa rfl (Qha Ty.k3 (c:=iI x7) rfl (sa (iI s5) rfl (sa (iI x7) rfl (RS.nil ?_)))))))))
     obtain ⟨zt_19,hz,h⟩:=bind_some h
     revert hz h;revert zt_19;intro c9 hz h
     refine T.join (Z:=Unit) (fun _=>mkA 131 [(1,sL (encL Qaa) p1),(3,.ptr 0 0),(5,.ptr 1 0),(58,sL encI p2.At),(59,iI ((p2.At).length:Int)),(60,iI s5),(75,.bool c9)]) (fun _=>[.box [sL Qga p0.Nodes,iI p0.Rings,iI p0.Room],.box [sL encI p2.At,sL (encL Qaa) p2.Rings,sL Qba p2.Memory,sL Qca p2.Choices,sL Qaa p2.Out]]) (fun _=>True) (fun _ _=>?_) (fun hK=>?_)
     ·refine T.cond (b:=c9) rfl (fun hb_20=>?_) (fun hb_20=>?_)
      ·replace h:=ite_T h hb_20
       refine T.seq (T.region (sa (iI 3) rfl (RS.nil (T.rt ?_))))
       obtain ⟨w_21,h,hw_21⟩:=Jqa h
       replace h:=h.trans (congrArg some (hv_16 _ hw_21))
       refine Qpa (v:=iI 3) rfl (Qra ?_)
       exact Qza (v:=iI 3) rfl (Qfa _ _) ⟨congrArg (fun r:Int=>(iI r:AV)) (Option.some.inj h),rfl⟩
      replace h:=ite_F h hb_20
      refine T.skip (T.region (sq (v_add rfl rfl (sm (iI (IntKind.i64.wrap (s5+1))) rfl (RS.nil ?_)))))
      exact ⟨IntKind.i64.wrap (s5+1),(Option.some.inj h).symm,Weak.mkN [] [0,1] (by decide) (Qqa _) rfl ⟨rn_s rfl,Qua rfl,Qua rfl,rn_s rfl,Qla rfl,Qla rfl,trivial⟩ (rw_bs [sL Qga p0.Nodes,iI p0.Rings,iI p0.Room] rfl (rw_bs [sL encI p2.At,sL (encL Qaa) p2.Rings,sL Qba p2.Memory,sL Qca p2.Choices,sL Qaa p2.Out] rfl (Qva)))⟩
     refine T.region (sm (iI x7) rfl (sq (v_lss rfl rfl (sm (.bool (decide (x7<0))) rfl ?_))))
     rcases Q7a (decide (x7<0)) with hb_18 | hb_18
     ·replace hz:=ite_T hz hb_18
      refine sn hb_18 (sn hb_18 (sn hb_18 (sn hb_18 (sn hb_18 (sn hb_18 (sn hb_18 (sq (Q9a (v:=.bool true) rfl hb_18 rfl (RS.nil ?_)))))))))
      exact T.sub (hK () trivial) ⟨rfl,rfl,rfl,rfl,rfl,rfl,(congrArg AV.bool ((congrArg (fun p=>p) (Option.some.inj hz)).symm)).symm,trivial⟩
     replace hz:=ite_F hz hb_18
     obtain ⟨x8,hx8,hz⟩:=bind_some hz
     refine yq hb_18 (Qwa (v:=iI x7) rfl (yq hb_18 (Qwa (v:=sL (encL Qaa) p1) rfl (yq hb_18 (Qwa (v:=iI s5) rfl (yq hb_18 (Q0a Ty.s25 (fun _=>rfl) rfl rfl hx8 (yo hb_18 (Jaa rfl (Qha Ty.k29 (c:=sL Qaa x8) rfl (yq hb_18 (Q3a Ty.s29 rfl (yq hb_18 (v_gtr rfl rfl (sq (Q8a (v:=.bool (decide (x7 > ((x8).length:Int)))) rfl hb_18 rfl (RS.nil ?_)))))))))))))))))
     exact T.sub (hK () trivial) ⟨rfl,rfl,rfl,rfl,rfl,rfl,(congrArg AV.bool ((congrArg (fun p=>p) (Option.some.inj hz)).symm)).symm,trivial⟩
    replace h:=ite_F h hb_17
    refine T.exit ?_
    obtain ⟨w_22,h,hw_22⟩:=Jqa h
    replace h:=h.trans (congrArg some (hv_16 _ hw_22))
    refine T.seq (T.region (sq (v_makeFunc (cs:=[.ptr 1 0]) rfl (sa (.func 58 [.ptr 1 0]) rfl (RS.nil (T.seq (T.seq (T.region (sq (Qda Ty.f31_1 rfl (off':=1) rfl (so (Qea rfl rfl (Qha Ty.k25 (c:=sL (encL Qaa) p2.Rings) rfl ?_)))))))))))))
    refine sq (Q3a Ty.s25 rfl (sm (iI 0) rfl (RS.nil (T.block (T.iter (fun ss_29:Int=>mkA 131 [(3,.ptr 0 0),(5,.ptr 1 0),(10,.func 58 [.ptr 1 0]),(79,sL (encL Qaa) p2.Rings),(80,iI ((p2.Rings).length:Int)),(81,iI ss_29)]) (fun ss_29=>[.box [sL Qga p0.Nodes,iI p0.Rings,iI p0.Room],.box [sL encI p2.At,sL (encL Qaa) p2.Rings,sL Qba p2.Memory,sL Qca p2.Choices,sL Qaa p2.Out]]) h (Weak.mkN [] [0,1] (by decide) (Qqa _) rfl ⟨Qua rfl,Qua rfl,Z7a ⟨Qua rfl,trivial⟩,rn_s rfl,Qla rfl,Qla rfl,trivial⟩ (rw_bs [sL Qga p0.Nodes,iI p0.Rings,iI p0.Room] rfl (rw_bs [sL encI p2.At,sL (encL Qaa) p2.Rings,sL Qba p2.Memory,sL Qca p2.Choices,sL Qaa p2.Out] rfl (Qva)))) (fun ss_29 v_30 h hv_30=>?_))))))
    revert hv_30 h;revert ss_29;intro s10 h hv_30
    replace h:Y4a p0 p2 s10=some v_30:=h
    try dsimp only
    unfold Y4a at h
    refine T.seq (T.region (sq (v_lss rfl rfl (RS.nil (T.seq (T.cond (b:=decide (s10<((p2.Rings).length:Int))) rfl (fun hb_31=>?_) (fun hb_31=>?_)))))))
    ·replace h:=ite_T h hb_31
     refine T.skip (T.seq (T.block (T.seq ?_)))
     obtain ⟨x12,hx12,h⟩:=bind_some h
     refine T.region (sq (Q0a Ty.s25 (fun _=>rfl) rfl rfl hx12 (so (Jaa rfl (Qha Ty.k29 (c:=sL Qaa x12) rfl (sa (sL Qaa x12) rfl (RS.nil (T.seq (T.seq (T.region (sm (sL Qaa x12) rfl (sq (Q3a Ty.s29 rfl ?_)))))))))))))
     refine sq (Qda Ty.f24_2 rfl (off':=2) rfl (so (Qea rfl rfl (Qha Ty.k3 (c:=iI p0.Room) rfl (sq (v_gtr rfl rfl (RS.nil (T.cond (b:=decide (((x12).length:Int) > p0.Room)) rfl (fun hb_32=>?_) (fun hb_32=>?_)))))))))
     ·replace h:=ite_T h hb_32
      refine T.seq (T.region (sa (iI 2) rfl (RS.nil (T.rt ?_))))
      obtain ⟨w_33,h,hw_33⟩:=Jqa h
      replace h:=h.trans (congrArg some (hv_30 _ hw_33))
      refine Qpa (v:=iI 2) rfl (Qra ?_)
      exact Qza (v:=iI 2) rfl (Qfa _ _) ⟨congrArg (fun r:Int=>(iI r:AV)) (Option.some.inj h),rfl⟩
     replace h:=ite_F h hb_32
     refine T.skip (T.seq ?_)
     obtain ⟨x14,hx14,h⟩:=bind_some h
     refine T.region (sm (.func 58 [.ptr 1 0]) rfl (sm (sL Qaa x12) rfl (so (Vra (ac:=[sL Qaa x12,.ptr 1 0]) (as0:=[sL Qaa x12,.ptr 0 0]) (aw0:=[.box [sL encI p2.At,sL (encL Qaa) p2.Rings,sL Qba p2.Memory,sL Qca p2.Choices,sL Qaa p2.Out]]) (aw1:=[.box [sL encI p2.At,sL (encL Qaa) p2.Rings,sL Qba p2.Memory,sL Qca p2.Choices,sL Qaa p2.Out]]) (aw2:=[.box [sL Qga p0.Nodes,iI p0.Rings,iI p0.Room],.box [sL encI p2.At,sL (encL Qaa) p2.Rings,sL Qba p2.Memory,sL Qca p2.Choices,sL Qaa p2.Out]]) (v:=.bool x14) (v':=.bool x14) (n0:=2) (n1:=1) [1] rfl rfl rfl rfl (by decide) (Jya (cs:=[sL encI p2.At,sL (encL Qaa) p2.Rings,sL Qba p2.Memory,sL Qca p2.Choices,sL Qaa p2.Out]) (ds:=[sL encI p2.At,sL (encL Qaa) p2.Rings,sL Qba p2.Memory,sL Qca p2.Choices,sL Qaa p2.Out]) rfl ⟨rn_s rfl,rn_s rfl,rn_s rfl,rn_s rfl,rn_s rfl,trivial⟩ (Qva)) ⟨rn_s rfl,Qua rfl,trivial⟩ (move_Check_1_xa01a_c x12 p2.At p2.Rings p2.Memory p2.Choices p2.Out x14 hx14) rfl (Jra (Jda _)) ⟨.inr ⟨rfl,rfl⟩,.inl ⟨0,_,by decide,rfl,V5a (cs:=[sL encI p2.At,sL (encL Qaa) p2.Rings,sL Qba p2.Memory,sL Qca p2.Choices,sL Qaa p2.Out]) (ds:=[sL encI p2.At,sL (encL Qaa) p2.Rings,sL Qba p2.Memory,sL Qca p2.Choices,sL Qaa p2.Out]) ⟨Jra (Qia Jta _),Jra (Qia (Jna Qma) _),Jra (Qia Qya _),Jra (Qia Q2a _),Jra (Qia Qma _),trivial⟩⟩,trivial⟩ (sq (v_not rfl (RS.nil (T.cond (b:=!x14) rfl (fun hb_34=>?_) (fun hb_34=>?_)))))))))
     ·replace h:=ite_T h hb_34
      refine T.seq (T.region (sa (iI 3) rfl (RS.nil (T.rt ?_))))
      obtain ⟨w_35,h,hw_35⟩:=Jqa h
      replace h:=h.trans (congrArg some (hv_30 _ hw_35))
      refine Qpa (v:=iI 3) rfl (Qra ?_)
      exact Qza (v:=iI 3) rfl (Qfa _ _) ⟨congrArg (fun r:Int=>(iI r:AV)) (Option.some.inj h),rfl⟩
     replace h:=ite_F h hb_34
     refine T.skip (T.region (sq (v_add rfl rfl (sm (iI (IntKind.i64.wrap (s10+1))) rfl (RS.nil ?_)))))
     exact ⟨IntKind.i64.wrap (s10+1),(Option.some.inj h).symm,Weak.mkN [] [0,1] (by decide) (Qqa _) rfl ⟨Qua rfl,Qua rfl,Z7a ⟨Qua rfl,trivial⟩,rn_s rfl,Qla rfl,Qla rfl,trivial⟩ (rw_bs [sL Qga p0.Nodes,iI p0.Rings,iI p0.Room] rfl (rw_bs [sL encI p2.At,sL (encL Qaa) p2.Rings,sL Qba p2.Memory,sL Qca p2.Choices,sL Qaa p2.Out] rfl (Qva)))⟩
    replace h:=ite_F h hb_31
    refine T.exit ?_
    obtain ⟨w_36,h,hw_36⟩:=Jqa h
    replace h:=h.trans (congrArg some (hv_30 _ hw_36))
    refine T.seq (T.seq (T.region (sq (Qda Ty.f31_2 rfl (off':=2) rfl (so (Qea rfl rfl (Qha Ty.k27 (c:=sL Qba p2.Memory) rfl (sq (Q3a Ty.s27 rfl (sm (iI 0) rfl (RS.nil (T.block (T.iter (fun ss_43:Int=>mkA 131 [(3,.ptr 0 0),(5,.ptr 1 0),(10,.func 58 [.ptr 1 0]),(96,sL Qba p2.Memory),(97,iI ((p2.Memory).length:Int)),(98,iI ss_43)]) (fun ss_43=>[.box [sL Qga p0.Nodes,iI p0.Rings,iI p0.Room],.box [sL encI p2.At,sL (encL Qaa) p2.Rings,sL Qba p2.Memory,sL Qca p2.Choices,sL Qaa p2.Out]]) h (Weak.mkN [] [0,1] (by decide) (Qqa _) rfl ⟨Qua rfl,Qua rfl,Z7a ⟨Qua rfl,trivial⟩,rn_s rfl,Qla rfl,Qla rfl,trivial⟩ (rw_bs [sL Qga p0.Nodes,iI p0.Rings,iI p0.Room] rfl (rw_bs [sL encI p2.At,sL (encL Qaa) p2.Rings,sL Qba p2.Memory,sL Qca p2.Choices,sL Qaa p2.Out] rfl (Qva)))) (fun ss_43 v_44 h hv_44=>?_))))))))))))))
    revert hv_44 h;revert ss_43;intro s15 h hv_44
    replace h:Yza p0 p2 s15=some v_44:=h
    try dsimp only
    unfold Yza at h
    refine T.seq (T.region (sq (v_lss rfl rfl (RS.nil (T.seq (T.cond (b:=decide (s15<((p2.Memory).length:Int))) rfl (fun hb_45=>?_) (fun hb_45=>?_)))))))
    ·replace h:=ite_T h hb_45
     refine T.skip (T.seq (T.block (T.seq ?_)))
     obtain ⟨x17,hx17,h⟩:=bind_some h
     refine T.region (sq (Q0a Ty.s27 (fun _=>rfl) rfl rfl hx17 (so (Jaa rfl (Qna Ty.k66 Ty.c66 rfl (cs:=[iI x17.Sum,sL Qja x17.Keys,iI x17.Dep]) rfl (so (Jja Ty.z66 rfl rfl (so (Qoa Ty.c66 Ty.i66 rfl (vs:=[iI x17.Sum,sL Qja x17.Keys,iI x17.Dep]) rfl rfl rfl rfl (cs':=[iI x17.Sum,sL Qja x17.Keys,iI x17.Dep]) rfl rfl (RS.nil (T.seq (T.seq ?_))))))))))))
     obtain ⟨x19,hx19,h⟩:=bind_some h
     refine T.region (so (Qea rfl rfl (Qna Ty.k66 Ty.c66 rfl (cs:=[iI x17.Sum,sL Qja x17.Keys,iI x17.Dep]) rfl (so (Jfa (as0:=[.agg [iI x17.Sum,sL Qja x17.Keys,iI x17.Dep]]) (as1:=[.agg [iI x17.Sum,sL Qja x17.Keys,iI x17.Dep]]) (caps:=[]) (aw1:=[.box [sL Qga p0.Nodes,iI p0.Rings,iI p0.Room],.box [sL encI p2.At,sL (encL Qaa) p2.Rings,sL Qba p2.Memory,sL Qca p2.Choices,sL Qaa p2.Out],.box [iI x17.Sum,sL Qja x17.Keys,iI x17.Dep]]) rfl rfl rfl (Zda (v:=iI x19) (stage_Check_c x17 x19 hx19) (⟨Qsa _ (Qka (⟨Qfa _ _,Qia Jba _,Qfa _ _,trivial⟩)),trivial⟩) rfl (sa (iI x19) rfl (RS.nil (T.seq (T.region (sm (iI x19) rfl (sq (v_neq rfl rfl (RS.nil ?_))))))))))))))
     refine T.cond (b:=x19 != 0) rfl (fun hb_46=>?_) (fun hb_46=>?_)
     ·replace h:=ite_T h hb_46
      refine T.seq (T.region (sm (iI x19) rfl (sa (iI x19) rfl (RS.nil (T.rt ?_)))))
      obtain ⟨w_47,h,hw_47⟩:=Jqa h
      replace h:=h.trans (congrArg some (hv_44 _ hw_47))
      refine Qpa (v:=iI x19) rfl (Qra ?_)
      exact Qza (v:=iI x19) rfl (Qfa _ _) ⟨congrArg (fun r:Int=>(iI r:AV)) (Option.some.inj h),rfl⟩
     replace h:=ite_F h hb_46
     refine T.skip (T.seq (T.region (sq (Qda Ty.f66_2 rfl (off':=2) rfl (so (Qea rfl rfl (Qha Ty.k3 (c:=iI x17.Dep) rfl (sq (Qda Ty.f31_3 rfl (off':=3) rfl (so (Qea rfl rfl (Qha Ty.k28 (c:=sL Qca p2.Choices) rfl (sq (Q3a Ty.s28 rfl (sq (v_gtr rfl rfl (RS.nil ?_)))))))))))))))))
     refine T.cond (b:=decide (x17.Dep > ((p2.Choices).length:Int))) rfl (fun hb_48=>?_) (fun hb_48=>?_)
     ·replace h:=ite_T h hb_48
      refine T.seq (T.region (sa (iI 3) rfl (RS.nil (T.rt ?_))))
      obtain ⟨w_49,h,hw_49⟩:=Jqa h
      replace h:=h.trans (congrArg some (hv_44 _ hw_49))
      refine Qpa (v:=iI 3) rfl (Qra ?_)
      exact Qza (v:=iI 3) rfl (Qfa _ _) ⟨congrArg (fun r:Int=>(iI r:AV)) (Option.some.inj h),rfl⟩
     replace h:=ite_F h hb_48
     refine T.skip (T.region (sq (v_add rfl rfl (sm (iI (IntKind.i64.wrap (s15+1))) rfl (RS.nil ?_)))))
     exact ⟨IntKind.i64.wrap (s15+1),(Option.some.inj h).symm,Weak.mkN [] [0,1] (by decide) (Qqa _) rfl ⟨Qua rfl,Qua rfl,Z7a ⟨Qua rfl,trivial⟩,rn_s rfl,Qla rfl,Qla rfl,trivial⟩ (rw_bs [sL Qga p0.Nodes,iI p0.Rings,iI p0.Room] rfl (rw_bs [sL encI p2.At,sL (encL Qaa) p2.Rings,sL Qba p2.Memory,sL Qca p2.Choices,sL Qaa p2.Out] rfl (Qva)))⟩
    replace h:=ite_F h hb_45
    refine T.exit ?_
    obtain ⟨w_50,h,hw_50⟩:=Jqa h
    replace h:=h.trans (congrArg some (hv_44 _ hw_50))
    refine T.seq (T.seq (T.region (sq (Qda Ty.f31_3 rfl (off':=3) rfl (so (Qea rfl rfl (Qha Ty.k28 (c:=sL Qca p2.Choices) rfl (sq (Q3a Ty.s28 rfl (sm (iI 0) rfl (RS.nil (T.block (T.iter (fun ss_55:Int=>mkA 131 [(3,.ptr 0 0),(5,.ptr 1 0),(10,.func 58 [.ptr 1 0]),(115,sL Qca p2.Choices),(116,iI ((p2.Choices).length:Int)),(117,iI ss_55)]) (fun ss_55=>[.box [sL Qga p0.Nodes,iI p0.Rings,iI p0.Room],.box [sL encI p2.At,sL (encL Qaa) p2.Rings,sL Qba p2.Memory,sL Qca p2.Choices,sL Qaa p2.Out]]) h (Weak.mkN [] [0,1] (by decide) (Qqa _) rfl ⟨Qua rfl,Qua rfl,Z7a ⟨Qua rfl,trivial⟩,rn_s rfl,Qla rfl,Qla rfl,trivial⟩ (rw_bs [sL Qga p0.Nodes,iI p0.Rings,iI p0.Room] rfl (rw_bs [sL encI p2.At,sL (encL Qaa) p2.Rings,sL Qba p2.Memory,sL Qca p2.Choices,sL Qaa p2.Out] rfl (Qva)))) (fun ss_55 v_56 h hv_56=>?_))))))))))))))
    revert hv_56 h;revert ss_55;intro s20 h hv_56
    replace h:Y0a p0 p2 s20=some v_56:=h
    try dsimp only
    unfold Y0a at h
    refine T.seq (T.region (sq (v_lss rfl rfl (RS.nil (T.seq (T.cond (b:=decide (s20<((p2.Choices).length:Int))) rfl (fun hb_57=>?_) (fun hb_57=>?_)))))))
    ·replace h:=ite_T h hb_57
     refine T.skip (T.seq (T.block (T.seq ?_)))
     obtain ⟨x22,hx22,h⟩:=bind_some h
     refine T.region (sq (Q0a Ty.s28 (fun _=>rfl) rfl rfl hx22 (so (Jaa rfl (Qna Ty.k94 Ty.c94 rfl (cs:=[iI x22.Node,iI x22.Lane]) rfl (so (Jja Ty.z94 rfl rfl (so (Qoa Ty.c94 Ty.i94 rfl (vs:=[iI x22.Node,iI x22.Lane]) rfl rfl rfl rfl (cs':=[iI x22.Node,iI x22.Lane]) rfl rfl (RS.nil (T.seq ?_)))))))))))
     obtain ⟨x24,hx24,h⟩:=bind_some h
     refine T.region (so (Qea rfl rfl (Qna Ty.k24 Ty.c24 rfl (cs:=[sL Qga p0.Nodes,iI p0.Rings,iI p0.Room]) rfl (so (Qea rfl rfl (Qna Ty.k94 Ty.c94 rfl (cs:=[iI x22.Node,iI x22.Lane]) rfl (so (Jfa (as0:=[.agg [sL Qga p0.Nodes,iI p0.Rings,iI p0.Room],.agg [iI x22.Node,iI x22.Lane]]) (as1:=[.agg [sL Qga p0.Nodes,iI p0.Rings,iI p0.Room],.agg [iI x22.Node,iI x22.Lane]]) (caps:=[]) (aw1:=[.box [sL Qga p0.Nodes,iI p0.Rings,iI p0.Room],.box [sL encI p2.At,sL (encL Qaa) p2.Rings,sL Qba p2.Memory,sL Qca p2.Choices,sL Qaa p2.Out],.box [iI x22.Node,iI x22.Lane]]) rfl rfl rfl (Zda (v:=.bool x24) (move_choice_c p0 x22 x24 hx24) (⟨Qsa _ (Qka (⟨Qia J1a _,Qfa _ _,Qfa _ _,trivial⟩)),Qsa _ (Qka (⟨Qfa _ _,Qfa _ _,trivial⟩)),trivial⟩) rfl (sq (v_not rfl (RS.nil (T.cond (b:=!x24) rfl (fun hb_58=>?_) (fun hb_58=>?_))))))))))))))
     ·replace h:=ite_T h hb_58
      refine T.seq (T.region (sa (iI 5) rfl (RS.nil (T.rt ?_))))
      obtain ⟨w_59,h,hw_59⟩:=Jqa h
      replace h:=h.trans (congrArg some (hv_56 _ hw_59))
      refine Qpa (v:=iI 5) rfl (Qra ?_)
      exact Qza (v:=iI 5) rfl (Qfa _ _) ⟨congrArg (fun r:Int=>(iI r:AV)) (Option.some.inj h),rfl⟩
     replace h:=ite_F h hb_58
     refine T.skip (T.region (sq (v_add rfl rfl (sm (iI (IntKind.i64.wrap (s20+1))) rfl (RS.nil ?_)))))
     exact ⟨IntKind.i64.wrap (s20+1),(Option.some.inj h).symm,Weak.mkN [] [0,1] (by decide) (Qqa _) rfl ⟨Qua rfl,Qua rfl,Z7a ⟨Qua rfl,trivial⟩,rn_s rfl,Qla rfl,Qla rfl,trivial⟩ (rw_bs [sL Qga p0.Nodes,iI p0.Rings,iI p0.Room] rfl (rw_bs [sL encI p2.At,sL (encL Qaa) p2.Rings,sL Qba p2.Memory,sL Qca p2.Choices,sL Qaa p2.Out] rfl (Qva)))⟩
    replace h:=ite_F h hb_57
    refine T.exit ?_
    obtain ⟨w_60,h,hw_60⟩:=Jqa h
    replace h:=h.trans (congrArg some (hv_56 _ hw_60))
    refine T.seq (T.seq ?_)
    obtain ⟨x26,hx26,h⟩:=bind_some h
    refine T.region (sm (.func 58 [.ptr 1 0]) rfl (sq (Qda Ty.f31_4 rfl (off':=4) rfl (so (Qea rfl rfl (Qha Ty.k29 (c:=sL Qaa p2.Out) rfl (so (Vra (ac:=[sL Qaa p2.Out,.ptr 1 0]) (as0:=[sL Qaa p2.Out,.ptr 0 0]) (aw0:=[.box [sL encI p2.At,sL (encL Qaa) p2.Rings,sL Qba p2.Memory,sL Qca p2.Choices,sL Qaa p2.Out]]) (aw1:=[.box [sL encI p2.At,sL (encL Qaa) p2.Rings,sL Qba p2.Memory,sL Qca p2.Choices,sL Qaa p2.Out]]) (aw2:=[.box [sL Qga p0.Nodes,iI p0.Rings,iI p0.Room],.box [sL encI p2.At,sL (encL Qaa) p2.Rings,sL Qba p2.Memory,sL Qca p2.Choices,sL Qaa p2.Out]]) (v:=.bool x26) (v':=.bool x26) (n0:=2) (n1:=1) [1] rfl rfl rfl rfl (by decide) (Jya (cs:=[sL encI p2.At,sL (encL Qaa) p2.Rings,sL Qba p2.Memory,sL Qca p2.Choices,sL Qaa p2.Out]) (ds:=[sL encI p2.At,sL (encL Qaa) p2.Rings,sL Qba p2.Memory,sL Qca p2.Choices,sL Qaa p2.Out]) rfl ⟨rn_s rfl,rn_s rfl,rn_s rfl,rn_s rfl,rn_s rfl,trivial⟩ (Qva)) ⟨rn_s rfl,Qua rfl,trivial⟩ (move_Check_1_xa01a_c p2.Out p2.At p2.Rings p2.Memory p2.Choices p2.Out x26 hx26) rfl (Jra (Jda _)) ⟨.inr ⟨rfl,rfl⟩,.inl ⟨0,_,by decide,rfl,V5a (cs:=[sL encI p2.At,sL (encL Qaa) p2.Rings,sL Qba p2.Memory,sL Qca p2.Choices,sL Qaa p2.Out]) (ds:=[sL encI p2.At,sL (encL Qaa) p2.Rings,sL Qba p2.Memory,sL Qca p2.Choices,sL Qaa p2.Out]) ⟨Jra (Qia Jta _),Jra (Qia (Jna Qma) _),Jra (Qia Qya _),Jra (Qia Q2a _),Jra (Qia Qma _),trivial⟩⟩,trivial⟩ (sq (v_not rfl (RS.nil (T.cond (b:=!x26) rfl (fun hb_61=>?_) (fun hb_61=>?_)))))))))))))
    ·replace h:=ite_T h hb_61
     refine T.seq (T.region (sa (iI 3) rfl (RS.nil (T.rt (Qpa (v:=iI 3) rfl (Qra ?_))))))
     exact Qza (v:=iI 3) rfl (Qfa _ _) ⟨congrArg (fun r:Int=>(iI r:AV)) (Option.some.inj h),rfl⟩
    replace h:=ite_F h hb_61
    refine T.skip (T.seq (T.region (sa (iI 0) rfl (RS.nil (T.rt (Qpa (v:=iI 0) rfl (Qra ?_)))))))
    exact Qza (v:=iI 0) rfl (Qfa _ _) ⟨congrArg (fun r:Int=>(iI r:AV)) (Option.some.inj h),rfl⟩
   refine T.region (sq (Qda Ty.f31_3 rfl (off':=3) rfl (so (Qea rfl rfl (Qha Ty.k28 (c:=sL Qca p2.Choices) rfl (sq (Q3a Ty.s28 rfl (sq (v_gtr rfl rfl (sm (.bool (decide (((p2.Choices).length:Int) > 500))) rfl ?_))))))))))
   rcases Q7a (decide (((p2.Choices).length:Int) > 500)) with hb_5 | hb_5
   ·refine sn hb_5 (sn hb_5 (sn hb_5 (sn hb_5 (sq (Q9a (v:=.bool true) rfl hb_5 rfl (RS.nil ?_))))))
    exact T.sub (hK () trivial) ⟨rfl,rfl,rfl,(congrArg AV.bool (by simp only [hb_5,bz,if_true,if_false,Bool.false_eq_true])).symm,trivial⟩
   refine yq hb_5 (Qda Ty.f31_4 rfl (off':=4) rfl (yo hb_5 (Qea rfl rfl (Qha Ty.k29 (c:=sL Qaa p2.Out) rfl (yq hb_5 (Q3a Ty.s29 rfl (yq hb_5 (v_gtr rfl rfl (sq (Q8a (v:=.bool (decide (((p2.Out).length:Int) > 2000))) rfl hb_5 rfl (RS.nil ?_)))))))))))
   exact T.sub (hK () trivial) ⟨rfl,rfl,rfl,(congrArg AV.bool (by simp only [hb_5,bz,if_true,if_false,Bool.false_eq_true])).symm,trivial⟩
  refine T.region (sq (Qda Ty.f31_0 rfl (off':=0) rfl (so (Qea rfl rfl (Qha Ty.k26 (c:=sL encI p2.At) rfl (sq (Q3a Ty.s26 rfl (sm (sL (encL Qaa) p1) rfl (sq (Q3a Ty.s25 rfl (sq (v_neq rfl rfl (sm (.bool (((p2.At).length:Int) != ((p1).length:Int))) rfl ?_)))))))))))))
  rcases Q7a (((p2.At).length:Int) != ((p1).length:Int)) with hb_2 | hb_2
  ·refine sn hb_2 (sn hb_2 (sn hb_2 (sn hb_2 (sn hb_2 (sn hb_2 (sq (Q9a (v:=.bool true) rfl hb_2 rfl (sm (.bool true) rfl (sn rfl (sn rfl ?_))))))))))
   refine sn rfl (sn rfl (sn rfl (sn rfl (sn rfl (sq (Q9a (v:=.bool true) rfl rfl rfl (RS.nil ?_)))))))
   exact T.sub (hK () trivial) ⟨rfl,rfl,rfl,(congrArg AV.bool (by simp only [hb_2,bz,if_true,if_false,Bool.false_eq_true])).symm,trivial⟩
  refine yq hb_2 (Qda Ty.f31_1 rfl (off':=1) rfl (yo hb_2 (Qea rfl rfl (Qha Ty.k25 (c:=sL (encL Qaa) p2.Rings) rfl (yq hb_2 (Q3a Ty.s25 rfl (yq hb_2 (Qda Ty.f24_1 rfl (off':=1) rfl (yo hb_2 (Qea rfl rfl (Qha Ty.k3 (c:=iI p0.Rings) rfl (yq hb_2 (v_neq rfl rfl (sq (Q8a (v:=.bool (((p2.Rings).length:Int) != p0.Rings)) rfl hb_2 rfl (sm (.bool (((p2.Rings).length:Int) != p0.Rings)) rfl ?_))))))))))))))))
  rcases Q7a (((p2.Rings).length:Int) != p0.Rings) with hb_3 | hb_3
  ·refine sn hb_3 (sn hb_3 (sn hb_3 (sn hb_3 (sn hb_3 (sn hb_3 (sn hb_3 (sq (Q9a (v:=.bool true) rfl hb_3 rfl (RS.nil ?_)))))))))
   exact T.sub (hK () trivial) ⟨rfl,rfl,rfl,(congrArg AV.bool (by simp only [hb_2,hb_3,bz,if_true,if_false,Bool.false_eq_true])).symm,trivial⟩
  refine yq hb_3 (Qda Ty.f31_2 rfl (off':=2) rfl (yo hb_3 (Qea rfl rfl (Qha Ty.k27 (c:=sL Qba p2.Memory) rfl (yq hb_3 (Q3a Ty.s27 rfl (yq hb_3 (Qda Ty.f24_0 rfl (off':=0) rfl (yo hb_3 (Qea rfl rfl (Qha Ty.k22 (c:=sL Qga p0.Nodes) rfl (yq hb_3 (Q3a Ty.s22 rfl (yq hb_3 (v_neq rfl rfl (sq (Q8a (v:=.bool (((p2.Memory).length:Int) != ((p0.Nodes).length:Int))) rfl hb_3 rfl (RS.nil ?_))))))))))))))))))
  exact T.sub (hK () trivial) ⟨rfl,rfl,rfl,(congrArg AV.bool (by simp only [hb_2,hb_3,bz,if_true,if_false,Bool.false_eq_true])).symm,trivial⟩
theorem slices_Clone_int_c (p0 r:List Int) (h:Qbb p0=some r):FnO Try.prog 88 [.sl (List.map encI p0)] (.ref 0) [.arr 3 1 (List.map encI r)]:=by
  have hr:p0=r:=by
    unfold Qbb app at h
    split at h
    · simpa using h
    · cases h
  refine Jpa (N:=0) rfl Try.func88 rfl (by kernel_rfl) Try.ntmps88 rfl ?_
  show T _ _ _ _ (mkA 8 [(0,.sl (List.map encI p0))]) []
  refine T.seq ?_
  refine T.region ?_
  refine RS.op rfl (OP.q rfl (J0a (v:=.nils) rfl ?_))
  refine RS.nil ?_
  refine T.seq ?_
  refine T.seq ?_
  refine T.region ?_
  refine RS.op rfl (OP.q rfl (Qwa (v:=.sl (List.map encI p0)) rfl ?_))
  refine RS.op rfl (OP.q rfl (v_nileq Ty.s26 rfl rfl (fun z hz=>?_)))
  refine RS.nil ?_
  refine T.cond (b:=z) rfl (fun hb=>?_) (fun hb=>?_)
  · refine T.seq ?_
    refine T.region ?_
    refine RS.op rfl (OP.q rfl (J0a (v:=.nils) rfl ?_))
    refine RS.nil ?_
    refine T.ret ?_
    refine Qpa (v:=.nils) rfl ?_
    refine Qra ?_
    have h0:p0=[]:=List.map_eq_nil_iff.1 (hz hb)
    exact J7a (.ref 0) [(0,3,1)] [0] (by decide) (Qqa _) rfl (Qta rfl) (Jma (en:=encI) (ys:=[]) rfl Jta (by rw [← hr,h0]) (Qva)) ⟨rfl,rfl⟩
  · refine T.skip ?_
    refine T.seq ?_
    refine T.region ?_
    refine RS.op rfl (J2a (rows:=List.map encI []) (vs:=[]) Ty.s26 Ty.z3 rfl rfl rfl rfl rfl (aw':=[.arr 3 1 (List.map encI [])]) rfl ?_)
    refine RS.op rfl (OP.q rfl (Qwa (v:=.sl (List.map encI p0)) rfl ?_))
    refine RS.op rfl (Yxa (en:=encI) (xs:=([]:List Int)) (ys:=p0) (r:=r) Ty.s26 (fun _=>rfl) rfl rfl rfl h rfl (aw':=[.dead,.arr 3 1 (List.map encI r)]) rfl ?_)
    refine RS.op rfl (OP.q rfl (J0a (v:=.ref 1) rfl ?_))
    refine RS.nil ?_
    refine T.ret ?_
    refine Qpa (v:=.ref 1) rfl ?_
    refine Qra ?_
    exact J7a (.ref 0) [] [1] (by decide) (Qqa _) rfl (Qta rfl) (Jma rfl Jta rfl (Qva)) ⟨rfl,rfl⟩
theorem slices_Clone_api_Item_api_Item_c (p0 r:List (List Item)) (h:Zra p0=some r):FnO Try.prog 89 [.sl (List.map (encL Qaa) p0)] (.ref 0) [.arr 29 1 (List.map (encL Qaa) r)]:=by
  have hr:p0=r:=by
    unfold Zra app at h
    split at h
    · simpa using h
    · cases h
  refine Jpa (N:=0) rfl Try.func89 rfl (by kernel_rfl) Try.ntmps89 rfl ?_
  show T _ _ _ _ (mkA 8 [(0,.sl (List.map (encL Qaa) p0))]) []
  refine T.seq ?_
  refine T.region ?_
  refine RS.op rfl (OP.q rfl (J0a (v:=.nils) rfl ?_))
  refine RS.nil ?_
  refine T.seq ?_
  refine T.seq ?_
  refine T.region ?_
  refine RS.op rfl (OP.q rfl (Qwa (v:=.sl (List.map (encL Qaa) p0)) rfl ?_))
  refine RS.op rfl (OP.q rfl (v_nileq Ty.s25 rfl rfl (fun z hz=>?_)))
  refine RS.nil ?_
  refine T.cond (b:=z) rfl (fun hb=>?_) (fun hb=>?_)
  · refine T.seq ?_
    refine T.region ?_
    refine RS.op rfl (OP.q rfl (J0a (v:=.nils) rfl ?_))
    refine RS.nil ?_
    refine T.ret ?_
    refine Qpa (v:=.nils) rfl ?_
    refine Qra ?_
    have h0:p0=[]:=List.map_eq_nil_iff.1 (hz hb)
    exact J7a (.ref 0) [(0,29,1)] [0] (by decide) (Qqa _) rfl (Qta rfl) (Jma (en:=(encL Qaa)) (ys:=[]) rfl (Jna Qma) (by rw [← hr,h0]) (Qva)) ⟨rfl,rfl⟩
  · refine T.skip ?_
    refine T.seq ?_
    refine T.region ?_
    refine RS.op rfl (J2a (rows:=List.map (encL Qaa) []) (vs:=[]) Ty.s25 Ty.z29 rfl rfl rfl rfl rfl (aw':=[.arr 29 1 (List.map (encL Qaa) [])]) rfl ?_)
    refine RS.op rfl (OP.q rfl (Qwa (v:=.sl (List.map (encL Qaa) p0)) rfl ?_))
    refine RS.op rfl (Yxa (en:=(encL Qaa)) (xs:=([]:List (List Item))) (ys:=p0) (r:=r) Ty.s25 (fun _=>rfl) rfl rfl rfl h rfl (aw':=[.dead,.arr 29 1 (List.map (encL Qaa) r)]) rfl ?_)
    refine RS.op rfl (OP.q rfl (J0a (v:=.ref 1) rfl ?_))
    refine RS.nil ?_
    refine T.ret ?_
    refine Qpa (v:=.ref 1) rfl ?_
    refine Qra ?_
    exact J7a (.ref 0) [] [1] (by decide) (Qqa _) rfl (Qta rfl) (Jma rfl (Jna Qma) rfl (Qva)) ⟨rfl,rfl⟩
theorem slices_Clone_Memory_c (p0 r:List Memory) (h:Yha p0=some r):FnO Try.prog 90 [.sl (List.map Qba p0)] (.ref 0) [.arr 66 3 (List.map Qba r)]:=by
  have hr:p0=r:=by
    unfold Yha app at h
    split at h
    · simpa using h
    · cases h
  refine Jpa (N:=0) rfl Try.func90 rfl (by kernel_rfl) Try.ntmps90 rfl ?_
  show T _ _ _ _ (mkA 8 [(0,.sl (List.map Qba p0))]) []
  refine T.seq ?_
  refine T.region ?_
  refine RS.op rfl (OP.q rfl (J0a (v:=.nils) rfl ?_))
  refine RS.nil ?_
  refine T.seq ?_
  refine T.seq ?_
  refine T.region ?_
  refine RS.op rfl (OP.q rfl (Qwa (v:=.sl (List.map Qba p0)) rfl ?_))
  refine RS.op rfl (OP.q rfl (v_nileq Ty.s27 rfl rfl (fun z hz=>?_)))
  refine RS.nil ?_
  refine T.cond (b:=z) rfl (fun hb=>?_) (fun hb=>?_)
  · refine T.seq ?_
    refine T.region ?_
    refine RS.op rfl (OP.q rfl (J0a (v:=.nils) rfl ?_))
    refine RS.nil ?_
    refine T.ret ?_
    refine Qpa (v:=.nils) rfl ?_
    refine Qra ?_
    have h0:p0=[]:=List.map_eq_nil_iff.1 (hz hb)
    exact J7a (.ref 0) [(0,66,3)] [0] (by decide) (Qqa _) rfl (Qta rfl) (Jma (en:=Qba) (ys:=[]) rfl Qya (by rw [← hr,h0]) (Qva)) ⟨rfl,rfl⟩
  · refine T.skip ?_
    refine T.seq ?_
    refine T.region ?_
    refine RS.op rfl (J2a (rows:=List.map Qba []) (vs:=[]) Ty.s27 Ty.z66 rfl rfl rfl rfl rfl (aw':=[.arr 66 3 (List.map Qba [])]) rfl ?_)
    refine RS.op rfl (OP.q rfl (Qwa (v:=.sl (List.map Qba p0)) rfl ?_))
    refine RS.op rfl (Yxa (en:=Qba) (xs:=([]:List Memory)) (ys:=p0) (r:=r) Ty.s27 (fun _=>rfl) rfl rfl rfl h rfl (aw':=[.dead,.arr 66 3 (List.map Qba r)]) rfl ?_)
    refine RS.op rfl (OP.q rfl (J0a (v:=.ref 1) rfl ?_))
    refine RS.nil ?_
    refine T.ret ?_
    refine Qpa (v:=.ref 1) rfl ?_
    refine Qra ?_
    exact J7a (.ref 0) [] [1] (by decide) (Qqa _) rfl (Qta rfl) (Jma rfl Qya rfl (Qva)) ⟨rfl,rfl⟩
theorem slices_Clone_Choice_c (p0 r:List Choice) (h:Yda p0=some r):FnO Try.prog 92 [.sl (List.map Qca p0)] (.ref 0) [.arr 94 2 (List.map Qca r)]:=by
  have hr:p0=r:=by
    unfold Yda app at h
    split at h
    · simpa using h
    · cases h
  refine Jpa (N:=0) rfl Try.func92 rfl (by kernel_rfl) Try.ntmps92 rfl ?_
  show T _ _ _ _ (mkA 8 [(0,.sl (List.map Qca p0))]) []
  refine T.seq ?_
  refine T.region ?_
  refine RS.op rfl (OP.q rfl (J0a (v:=.nils) rfl ?_))
  refine RS.nil ?_
  refine T.seq ?_
  refine T.seq ?_
  refine T.region ?_
  refine RS.op rfl (OP.q rfl (Qwa (v:=.sl (List.map Qca p0)) rfl ?_))
  refine RS.op rfl (OP.q rfl (v_nileq Ty.s28 rfl rfl (fun z hz=>?_)))
  refine RS.nil ?_
  refine T.cond (b:=z) rfl (fun hb=>?_) (fun hb=>?_)
  · refine T.seq ?_
    refine T.region ?_
    refine RS.op rfl (OP.q rfl (J0a (v:=.nils) rfl ?_))
    refine RS.nil ?_
    refine T.ret ?_
    refine Qpa (v:=.nils) rfl ?_
    refine Qra ?_
    have h0:p0=[]:=List.map_eq_nil_iff.1 (hz hb)
    exact J7a (.ref 0) [(0,94,2)] [0] (by decide) (Qqa _) rfl (Qta rfl) (Jma (en:=Qca) (ys:=[]) rfl Q2a (by rw [← hr,h0]) (Qva)) ⟨rfl,rfl⟩
  · refine T.skip ?_
    refine T.seq ?_
    refine T.region ?_
    refine RS.op rfl (J2a (rows:=List.map Qca []) (vs:=[]) Ty.s28 Ty.z94 rfl rfl rfl rfl rfl (aw':=[.arr 94 2 (List.map Qca [])]) rfl ?_)
    refine RS.op rfl (OP.q rfl (Qwa (v:=.sl (List.map Qca p0)) rfl ?_))
    refine RS.op rfl (Yxa (en:=Qca) (xs:=([]:List Choice)) (ys:=p0) (r:=r) Ty.s28 (fun _=>rfl) rfl rfl rfl h rfl (aw':=[.dead,.arr 94 2 (List.map Qca r)]) rfl ?_)
    refine RS.op rfl (OP.q rfl (J0a (v:=.ref 1) rfl ?_))
    refine RS.nil ?_
    refine T.ret ?_
    refine Qpa (v:=.ref 1) rfl ?_
    refine Qra ?_
    exact J7a (.ref 0) [] [1] (by decide) (Qqa _) rfl (Qta rfl) (Jma rfl Q2a rfl (Qva)) ⟨rfl,rfl⟩
theorem move_Copy_c (p0:State) (r:State) (h:move_Copy p0=some r):FnO Try.prog 56 [.agg [sL encI p0.At,sL (encL Qaa) p0.Rings,sL Qba p0.Memory,sL Qca p0.Choices,sL Qaa p0.Out]] (.agg [.ref 0,.ref 1,.ref 2,.ref 3,.ref 4]) [aR 3 1 encI r.At,aR 29 1 (encL Qaa) r.Rings,aR 66 3 Qba r.Memory,aR 94 2 Qca r.Choices,aR 46 3 Qaa r.Out]:=by
  unfold move_Copy at h
  refine Jpa (N:=0) rfl Try.func56 rfl (by kernel_rfl) Try.ntmps56 rfl ?_
  show T _ _ _ _ (mkA 60 [(0,.agg [sL encI p0.At,sL (encL Qaa) p0.Rings,sL Qba p0.Memory,sL Qca p0.Choices,sL Qaa p0.Out])]) []
  refine T.seq (T.region (so (o_box (cs:=[sL encI p0.At,sL (encL Qaa) p0.Rings,sL Qba p0.Memory,sL Qca p0.Choices,sL Qaa p0.Out]) rfl rfl rfl (so (Jja Ty.z31 rfl rfl (RS.nil (T.seq ?_)))))))
  obtain ⟨x2,hx2,h⟩:=bind_some h
  refine T.region (sq (Qda Ty.f31_0 rfl (off':=0) rfl (so (Qea rfl rfl (Qha Ty.k26 (c:=sL encI p0.At) rfl (so (Jfa (as0:=[sL encI p0.At]) (as1:=[sL encI p0.At]) (caps:=[]) (aw1:=[.box [sL encI p0.At,sL (encL Qaa) p0.Rings,sL Qba p0.Memory,sL Qca p0.Choices,sL Qaa p0.Out],.box [.nils,.nils,.nils,.nils,.nils]]) rfl rfl rfl (Vla (v:=.ref 0) (obs:=[aR 3 1 encI x2]) (v':=.ref 2) (slices_Clone_int_c p0.At x2 hx2) (⟨Qia Jta _,trivial⟩) rfl (Zha (J3a fun _=>rfl) Zua) rfl rfl (sq (Qda Ty.f31_0 rfl (off':=0) rfl (so (Qoa Ty.c26 Ty.i26 rfl (vs:=[.ref 2]) rfl rfl rfl rfl (cs':=[.ref 2,sL (encL Qaa) p0.Rings,sL Qba p0.Memory,sL Qca p0.Choices,sL Qaa p0.Out]) rfl rfl (RS.nil (T.seq ?_))))))))))))))
  obtain ⟨x4,hx4,h⟩:=bind_some h
  refine T.region (sq (Qda Ty.f31_1 rfl (off':=1) rfl (so (Qea rfl rfl (Qha Ty.k25 (c:=sL (encL Qaa) p0.Rings) rfl (so (Jfa (as0:=[sL (encL Qaa) p0.Rings]) (as1:=[sL (encL Qaa) p0.Rings]) (caps:=[]) (aw1:=[.box [.ref 2,sL (encL Qaa) p0.Rings,sL Qba p0.Memory,sL Qca p0.Choices,sL Qaa p0.Out],.box [.nils,.nils,.nils,.nils,.nils],aR 3 1 encI x2]) rfl rfl rfl (k_own1' (v:=.ref 0) (xs:=x4) (v':=.ref 3) (slices_Clone_api_Item_api_Item_c p0.Rings x4 hx4) (⟨Qia (Jna Qma) _,trivial⟩) (Jna Qma) (.inl ⟨_,rfl⟩) rfl rfl (sq (Qda Ty.f31_1 rfl (off':=1) rfl (so (Qoa Ty.c25 Ty.i25 rfl (vs:=[.ref 3]) rfl rfl rfl rfl (cs':=[.ref 2,.ref 3,sL Qba p0.Memory,sL Qca p0.Choices,sL Qaa p0.Out]) rfl rfl (RS.nil (T.seq (T.seq (T.region ?_))))))))))))))))
  refine sq (Qda Ty.f31_1 rfl (off':=1) rfl (so (Qea rfl rfl (Qha Ty.k25 (c:=.ref 3) rfl (sq (Vga (en:=(encL Qaa)) Ty.s25 rfl rfl (sm (iI 0) rfl (RS.nil (T.block (T.iter (fun ss_9:Int × (List (List Item))=>mkA 60 [(1,.ptr 0 0),(2,.ptr 1 0),(15,iI ((x4).length:Int)),(16,iI ss_9.1)]) (fun ss_9=>[.box [.ref 2,.ref 3,sL Qba p0.Memory,sL Qca p0.Choices,sL Qaa p0.Out],.box [.nils,.nils,.nils,.nils,.nils],aR 3 1 encI x2,aR 29 1 (encL Qaa) ss_9.2]) h (Weak.mkN [] [0,1,2,3] (by decide) (Qqa _) rfl ⟨Qua rfl,Qua rfl,Qla rfl,Qla rfl,trivial⟩ (Jya (cs:=[.ref 2,.ref 3,sL Qba p0.Memory,sL Qca p0.Choices,sL Qaa p0.Out]) (ds:=[.ref 2,.ref 3,sL Qba p0.Memory,sL Qca p0.Choices,sL Qaa p0.Out]) rfl ⟨Qta rfl,Qta rfl,rn_s rfl,rn_s rfl,rn_s rfl,trivial⟩ (rw_bs [.nils,.nils,.nils,.nils,.nils] rfl (rw_ar rfl rfl (rw_ar rfl rfl (Qva)))))) (fun ss_9 v_10 h hv_10=>?_)))))))))))
  obtain ⟨s5,s6⟩:=ss_9
  replace h:V9a p0 x2 x4 s5 s6=some v_10:=h
  try dsimp only
  unfold V9a at h
  refine T.seq (T.region (sq (v_lss rfl rfl (RS.nil (T.seq (T.cond (b:=decide (s5<((x4).length:Int))) rfl (fun hb_11=>?_) (fun hb_11=>?_)))))))
  ·replace h:=ite_T h hb_11
   refine T.skip (T.seq (T.block (T.seq (T.region (sm (iI s5) rfl (sa (iI s5) rfl (RS.nil ?_)))))))
   obtain ⟨x7,hx7,h⟩:=bind_some h
   obtain ⟨x8,hx8,h⟩:=bind_some h
   obtain ⟨x9,hx9,h⟩:=bind_some h
   obtain ⟨x10,hx10,h⟩:=bind_some h
   obtain ⟨x11,hx11,h⟩:=bind_some h
   refine T.drawn mixed (k:=11) rfl ?_
   let l14:List (Nat × AV):=[(1,.ptr 0 0),(2,.ptr 1 0),(3,iI s5),(15,iI ((x4).length:Int)),(16,iI s5),(17,.bool (decide (s5<((x4).length:Int)))),(18,iI s5)]
   let a14:List Ob:=[.box [.ref 2,.ref 3,sL Qba p0.Memory,sL Qca p0.Choices,sL Qaa p0.Out],.box [.nils,.nils,.nils,.nils,.nils],aR 3 1 encI x2,aR 29 1 (encL Qaa) s6]
   refine RA.join 1 #[true,true,true,true,true,true,true,true,true,true,false] (mkA 60 ((19,.ptr 0 1)::(20,.ref 3)::(21,iI s5)::(22,.ptr 0 1)::(23,.ref 3)::(24,iI s5)::(25,.aptr 3 1 x7 0)::(26,sL Qaa x8)::(27,.ref 4)::(28,.aptr 3 1 x10 0)::l14)) [.box [.ref 2,.ref 3,sL Qba p0.Memory,sL Qca p0.Choices,sL Qaa p0.Out],.box [.nils,.nils,.nils,.nils,.nils],aR 3 1 encI x2,aR 29 1 (encL Qaa) s6,aR 46 3 Qaa x9] ?_ (fun hS12=>?_)
   ·refine ra1 10 (RO.fz 4 rfl rfl rfl (RO.op rfl rfl (Zya (en:=(encL Qaa)) (a:=x11) (a':=x9) Ty.c29 Ty.i29 rfl (vs:=[sL Qaa x9]) rfl rfl rfl hx11 rfl rfl rfl (RA.done (by decide +kernel) (T.region (sq (v_add rfl rfl (sm (iI (IntKind.i64.wrap (s5+1))) rfl (RS.nil ?_)))))))))
    exact ⟨(IntKind.i64.wrap (s5+1),(List.set s6 x10 x9)),(Option.some.inj h).symm,Weak.mkN [] [0,1,2,3] (by decide) (Qqa _) rfl ⟨Qua rfl,Qua rfl,Qla rfl,Qla rfl,trivial⟩ (Jya (cs:=[.ref 2,.ref 3,sL Qba p0.Memory,sL Qca p0.Choices,sL Qaa p0.Out]) (ds:=[.ref 2,.ref 3,sL Qba p0.Memory,sL Qca p0.Choices,sL Qaa p0.Out]) rfl ⟨Qta rfl,Qta rfl,rn_s rfl,rn_s rfl,rn_s rfl,trivial⟩ (rw_bs [.nils,.nils,.nils,.nils,.nils] rfl (rw_ar rfl rfl (rw_ar rfl rfl (Qva)))))⟩
   ·refine RA.join 3 #[true,true,true,true,true,true,true,true,false,false,false] (mkA 60 ((19,.ptr 0 1)::(20,.ref 3)::(21,iI s5)::(22,.ptr 0 1)::(23,.ref 3)::(24,iI s5)::(25,.aptr 3 1 x7 0)::(26,sL Qaa x8)::l14)) a14 ?_ (fun hS13=>?_)
    ·refine ra1 8 (RO.op rfl rfl (Jfa (as0:=[sL Qaa x8]) (as1:=[sL Qaa x8]) (caps:=[]) (aw1:=[.box [.ref 2,.ref 3,sL Qba p0.Memory,sL Qca p0.Choices,sL Qaa p0.Out],.box [.nils,.nils,.nils,.nils,.nils],aR 3 1 encI x2,aR 29 1 (encL Qaa) s6]) rfl rfl rfl (Vla (v:=.ref 0) (obs:=[aR 46 3 Qaa x9]) (v':=.ref 4) (Zma x8 x9 hx9) (⟨Qia Qma _,trivial⟩) rfl (Zha (J3a fun _=>rfl) Zua) rfl rfl (rt0 9 rfl (Q5a (en:=(encL Qaa)) Ty.s25 rfl rfl rfl hx10 ?_)))))
     exact raS hS12 ⟨rfl,rfl,rfl,rfl,rfl,rfl,rfl,rfl,rfl,rfl,rfl,rfl,rfl,rfl,rfl,rfl,rfl,trivial⟩
    ·refine rt0 0 rfl (Qda Ty.f31_1 rfl (off':=1) rfl (rt0 2 rfl (Qwa (v:=iI s5) rfl (rt0 3 rfl (Qda Ty.f31_1 rfl (off':=1) rfl (rt0 5 rfl (Qwa (v:=iI s5) rfl (rl0 [4,6,7,8,9,10] 4 rfl (Q1a rfl rfl (Qha Ty.k25 (c:=.ref 3) rfl (rt0 6 rfl (Q5a (en:=(encL Qaa)) Ty.s25 rfl rfl rfl hx7 (ra2 1 7 ?_ ?_)))))))))))))
     ·refine RO.op rfl rfl (Qea rfl rfl (Qha Ty.k25 (c:=.ref 3) rfl (ra1 7 (RO.op rfl rfl (Q6a (en:=(encL Qaa)) (a:=x8) rfl rfl hx8 (Qha Ty.k29 (c:=sL Qaa x8) rfl ?_))))))
      exact raS hS13 ⟨rfl,rfl,rfl,rfl,rfl,rfl,rfl,rfl,rfl,rfl,rfl,rfl,rfl,rfl,rfl,trivial⟩
     ·refine RO.op rfl rfl (Q6a (en:=(encL Qaa)) (a:=x8) rfl rfl hx8 (Qha Ty.k29 (c:=sL Qaa x8) rfl (ra2 1 8 ?_ ?_)))
      ·refine RO.op rfl rfl (Qea rfl rfl (Qha Ty.k25 (c:=.ref 3) rfl ?_))
       exact raS hS13 ⟨rfl,rfl,rfl,rfl,rfl,rfl,rfl,rfl,rfl,rfl,rfl,rfl,rfl,rfl,rfl,trivial⟩
      ·refine RO.op rfl rfl (Jfa (as0:=[sL Qaa x8]) (as1:=[sL Qaa x8]) (caps:=[]) (aw1:=[.box [.ref 2,.ref 3,sL Qba p0.Memory,sL Qca p0.Choices,sL Qaa p0.Out],.box [.nils,.nils,.nils,.nils,.nils],aR 3 1 encI x2,aR 29 1 (encL Qaa) s6]) rfl rfl rfl (Vla (v:=.ref 0) (obs:=[aR 46 3 Qaa x9]) (v':=.ref 4) (Zma x8 x9 hx9) (⟨Qia Qma _,trivial⟩) rfl (Zha (J3a fun _=>rfl) Zua) rfl rfl (ra1 1 (RO.op rfl rfl (Qea rfl rfl (Qha Ty.k25 (c:=.ref 3) rfl (rt0 9 rfl (Q5a (en:=(encL Qaa)) Ty.s25 rfl rfl rfl hx10 ?_))))))))
       exact raS hS12 ⟨rfl,rfl,rfl,rfl,rfl,rfl,rfl,rfl,rfl,rfl,rfl,rfl,rfl,rfl,rfl,rfl,rfl,trivial⟩
  replace h:=ite_F h hb_11
  refine T.exit ?_
  obtain ⟨w_15,h,hw_15⟩:=Jqa h
  replace h:=h.trans (congrArg some (hv_10 _ hw_15))
  refine T.seq ?_
  obtain ⟨x13,hx13,h⟩:=bind_some h
  refine T.region (sq (Qda Ty.f31_2 rfl (off':=2) rfl (so (Qea rfl rfl (Qha Ty.k27 (c:=sL Qba p0.Memory) rfl (so (Jfa (as0:=[sL Qba p0.Memory]) (as1:=[sL Qba p0.Memory]) (caps:=[]) (aw1:=[.box [.ref 2,.ref 3,sL Qba p0.Memory,sL Qca p0.Choices,sL Qaa p0.Out],.box [.nils,.nils,.nils,.nils,.nils],aR 3 1 encI x2,aR 29 1 (encL Qaa) s6]) rfl rfl rfl (k_own1' (v:=.ref 0) (xs:=x13) (v':=.ref 4) (slices_Clone_Memory_c p0.Memory x13 hx13) (⟨Qia Qya _,trivial⟩) Qya (.inl ⟨_,rfl⟩) rfl rfl (sq (Qda Ty.f31_2 rfl (off':=2) rfl (so (Qoa Ty.c27 Ty.i27 rfl (vs:=[.ref 4]) rfl rfl rfl rfl (cs':=[.ref 2,.ref 3,.ref 4,sL Qca p0.Choices,sL Qaa p0.Out]) rfl rfl (RS.nil (T.seq (T.seq (T.region ?_))))))))))))))))
  refine sq (Qda Ty.f31_2 rfl (off':=2) rfl (so (Qea rfl rfl (Qha Ty.k27 (c:=.ref 4) rfl (sq (Vga (en:=Qba) Ty.s27 rfl rfl (sm (iI 0) rfl (RS.nil (T.block (T.iter (fun ss_24:Int × (List Memory)=>mkA 60 [(1,.ptr 0 0),(2,.ptr 1 0),(36,iI ((x13).length:Int)),(37,iI ss_24.1)]) (fun ss_24=>[.box [.ref 2,.ref 3,.ref 4,sL Qca p0.Choices,sL Qaa p0.Out],.box [.nils,.nils,.nils,.nils,.nils],aR 3 1 encI x2,aR 29 1 (encL Qaa) s6,aR 66 3 Qba ss_24.2]) h (Weak.mkN [] [0,1,2,3,4] (by decide) (Qqa _) rfl ⟨Qua rfl,Qua rfl,Qla rfl,Qla rfl,trivial⟩ (Jya (cs:=[.ref 2,.ref 3,.ref 4,sL Qca p0.Choices,sL Qaa p0.Out]) (ds:=[.ref 2,.ref 3,.ref 4,sL Qca p0.Choices,sL Qaa p0.Out]) rfl ⟨Qta rfl,Qta rfl,Qta rfl,rn_s rfl,rn_s rfl,trivial⟩ (rw_bs [.nils,.nils,.nils,.nils,.nils] rfl (rw_ar rfl rfl (rw_ar rfl rfl (rw_ar rfl rfl (Qva))))))) (fun ss_24 v_25 h hv_25=>?_)))))))))))
  obtain ⟨s14,s15⟩:=ss_24
  replace h:V8a p0 x2 s6 x13 s14 s15=some v_25:=h
  try dsimp only
  unfold V8a at h
  refine T.seq (T.region (sq (v_lss rfl rfl (RS.nil (T.seq (T.cond (b:=decide (s14<((x13).length:Int))) rfl (fun hb_26=>?_) (fun hb_26=>?_)))))))
  ·replace h:=ite_T h hb_26
   refine T.skip (T.seq (T.block (T.seq (T.region (sm (iI s14) rfl (sa (iI s14) rfl (RS.nil ?_)))))))
   obtain ⟨x16,hx16,h⟩:=bind_some h
   obtain ⟨x17,hx17,h⟩:=bind_some h
   obtain ⟨x18,hx18,h⟩:=bind_some h
   obtain ⟨x19,hx19,h⟩:=bind_some h
   obtain ⟨x20,hx20,h⟩:=bind_some h
   refine T.drawn mixed (k:=11) rfl ?_
   let l29:List (Nat × AV):=[(1,.ptr 0 0),(2,.ptr 1 0),(4,iI s14),(36,iI ((x13).length:Int)),(37,iI s14),(38,.bool (decide (s14<((x13).length:Int)))),(39,iI s14)]
   let a29:List Ob:=[.box [.ref 2,.ref 3,.ref 4,sL Qca p0.Choices,sL Qaa p0.Out],.box [.nils,.nils,.nils,.nils,.nils],aR 3 1 encI x2,aR 29 1 (encL Qaa) s6,aR 66 3 Qba s15]
   refine RA.join 1 #[true,true,true,true,true,true,true,true,true,true,false] (mkA 60 ((40,.ptr 0 2)::(41,.ref 4)::(42,iI s14)::(43,.ptr 0 2)::(44,.ref 4)::(45,iI s14)::(46,.aptr 4 3 x16 0)::(47,.agg [iI x17.Sum,sL Qja x17.Keys,iI x17.Dep])::(48,.agg [iI x18.Sum,.ref 5,iI x18.Dep])::(49,.aptr 4 3 x19 0)::l29)) [.box [.ref 2,.ref 3,.ref 4,sL Qca p0.Choices,sL Qaa p0.Out],.box [.nils,.nils,.nils,.nils,.nils],aR 3 1 encI x2,aR 29 1 (encL Qaa) s6,aR 66 3 Qba s15,aR 69 2 Qja x18.Keys] ?_ (fun hS27=>?_)
   ·refine ra1 10 (RO.fz 5 rfl rfl rfl (RO.op rfl rfl (Zya (en:=Qba) (a:=x20) (a':=x18) Ty.c66 Ty.i66 rfl (vs:=[iI x18.Sum,sL Qja x18.Keys,iI x18.Dep]) rfl rfl rfl hx20 rfl rfl rfl (RA.done (by decide +kernel) (T.region (sq (v_add rfl rfl (sm (iI (IntKind.i64.wrap (s14+1))) rfl (RS.nil ?_)))))))))
    exact ⟨(IntKind.i64.wrap (s14+1),(List.set s15 x19 x18)),(Option.some.inj h).symm,Weak.mkN [] [0,1,2,3,4] (by decide) (Qqa _) rfl ⟨Qua rfl,Qua rfl,Qla rfl,Qla rfl,trivial⟩ (Jya (cs:=[.ref 2,.ref 3,.ref 4,sL Qca p0.Choices,sL Qaa p0.Out]) (ds:=[.ref 2,.ref 3,.ref 4,sL Qca p0.Choices,sL Qaa p0.Out]) rfl ⟨Qta rfl,Qta rfl,Qta rfl,rn_s rfl,rn_s rfl,trivial⟩ (rw_bs [.nils,.nils,.nils,.nils,.nils] rfl (rw_ar rfl rfl (rw_ar rfl rfl (rw_ar rfl rfl (Qva))))))⟩
   ·refine RA.join 3 #[true,true,true,true,true,true,true,true,false,false,false] (mkA 60 ((40,.ptr 0 2)::(41,.ref 4)::(42,iI s14)::(43,.ptr 0 2)::(44,.ref 4)::(45,iI s14)::(46,.aptr 4 3 x16 0)::(47,.agg [iI x17.Sum,sL Qja x17.Keys,iI x17.Dep])::l29)) a29 ?_ (fun hS28=>?_)
    ·refine ra1 8 (RO.op rfl rfl (Vra (ac:=[.agg [iI x17.Sum,sL Qja x17.Keys,iI x17.Dep]]) (as0:=[.agg [iI x17.Sum,sL Qja x17.Keys,iI x17.Dep]]) (aw0:=[]) (aw1:=[aR 69 2 Qja x18.Keys]) (aw2:=[.box [.ref 2,.ref 3,.ref 4,sL Qca p0.Choices,sL Qaa p0.Out],.box [.nils,.nils,.nils,.nils,.nils],aR 3 1 encI x2,aR 29 1 (encL Qaa) s6,aR 66 3 Qba s15,aR 69 2 Qja x18.Keys]) (v:=.agg [iI x18.Sum,.ref 0,iI x18.Dep]) (v':=.agg [iI x18.Sum,.ref 5,iI x18.Dep]) (n0:=5) (n1:=1) [] rfl rfl rfl rfl (by decide) (Qva) ⟨J8a ⟨Qla rfl,rn_s rfl,Qla rfl,trivial⟩,trivial⟩ (FnX.of_fnO (stage_Copy_c x17 x18 hx18)) rfl (rm_agg (cs:=[iI x18.Sum,.ref 5,iI x18.Dep]) (ds:=[iI x18.Sum,.ref 0,iI x18.Dep]) ⟨Jra (Qfa _ _),Zpa (by decide),Jra (Qfa _ _),trivial⟩) ⟨.inr ⟨rfl,rfl⟩,.inr ⟨rfl,rfl⟩,.inr ⟨rfl,rfl⟩,.inr ⟨rfl,rfl⟩,.inr ⟨rfl,rfl⟩,.inl ⟨0,_,by decide,rfl,J9a Jba⟩,trivial⟩ (rt0 9 rfl (Q5a (en:=Qba) Ty.s27 rfl rfl rfl hx19 ?_))))
     exact raS hS27 ⟨rfl,rfl,rfl,rfl,rfl,rfl,rfl,rfl,rfl,rfl,rfl,rfl,rfl,rfl,rfl,rfl,rfl,trivial⟩
    ·refine rt0 0 rfl (Qda Ty.f31_2 rfl (off':=2) rfl (rt0 2 rfl (Qwa (v:=iI s14) rfl (rt0 3 rfl (Qda Ty.f31_2 rfl (off':=2) rfl (rt0 5 rfl (Qwa (v:=iI s14) rfl (rl0 [4,6,7,8,9,10] 4 rfl (Q1a rfl rfl (Qha Ty.k27 (c:=.ref 4) rfl (rt0 6 rfl (Q5a (en:=Qba) Ty.s27 rfl rfl rfl hx16 (ra2 1 7 ?_ ?_)))))))))))))
     ·refine RO.op rfl rfl (Qea rfl rfl (Qha Ty.k27 (c:=.ref 4) rfl (ra1 7 (RO.op rfl rfl (Q6a (en:=Qba) (a:=x17) rfl rfl hx17 (Qna Ty.k66 Ty.c66 rfl (cs:=[iI x17.Sum,sL Qja x17.Keys,iI x17.Dep]) rfl ?_))))))
      exact raS hS28 ⟨rfl,rfl,rfl,rfl,rfl,rfl,rfl,rfl,rfl,rfl,rfl,rfl,rfl,rfl,rfl,trivial⟩
     ·refine RO.op rfl rfl (Q6a (en:=Qba) (a:=x17) rfl rfl hx17 (Qna Ty.k66 Ty.c66 rfl (cs:=[iI x17.Sum,sL Qja x17.Keys,iI x17.Dep]) rfl (ra2 1 8 ?_ ?_)))
      ·refine RO.op rfl rfl (Qea rfl rfl (Qha Ty.k27 (c:=.ref 4) rfl ?_))
       exact raS hS28 ⟨rfl,rfl,rfl,rfl,rfl,rfl,rfl,rfl,rfl,rfl,rfl,rfl,rfl,rfl,rfl,trivial⟩
      ·refine RO.op rfl rfl (Vra (ac:=[.agg [iI x17.Sum,sL Qja x17.Keys,iI x17.Dep]]) (as0:=[.agg [iI x17.Sum,sL Qja x17.Keys,iI x17.Dep]]) (aw0:=[]) (aw1:=[aR 69 2 Qja x18.Keys]) (aw2:=[.box [.ref 2,.ref 3,.ref 4,sL Qca p0.Choices,sL Qaa p0.Out],.box [.nils,.nils,.nils,.nils,.nils],aR 3 1 encI x2,aR 29 1 (encL Qaa) s6,aR 66 3 Qba s15,aR 69 2 Qja x18.Keys]) (v:=.agg [iI x18.Sum,.ref 0,iI x18.Dep]) (v':=.agg [iI x18.Sum,.ref 5,iI x18.Dep]) (n0:=5) (n1:=1) [] rfl rfl rfl rfl (by decide) (Qva) ⟨J8a ⟨Qla rfl,rn_s rfl,Qla rfl,trivial⟩,trivial⟩ (FnX.of_fnO (stage_Copy_c x17 x18 hx18)) rfl (rm_agg (cs:=[iI x18.Sum,.ref 5,iI x18.Dep]) (ds:=[iI x18.Sum,.ref 0,iI x18.Dep]) ⟨Jra (Qfa _ _),Zpa (by decide),Jra (Qfa _ _),trivial⟩) ⟨.inr ⟨rfl,rfl⟩,.inr ⟨rfl,rfl⟩,.inr ⟨rfl,rfl⟩,.inr ⟨rfl,rfl⟩,.inr ⟨rfl,rfl⟩,.inl ⟨0,_,by decide,rfl,J9a Jba⟩,trivial⟩ (ra1 1 (RO.op rfl rfl (Qea rfl rfl (Qha Ty.k27 (c:=.ref 4) rfl (rt0 9 rfl (Q5a (en:=Qba) Ty.s27 rfl rfl rfl hx19 ?_)))))))
       exact raS hS27 ⟨rfl,rfl,rfl,rfl,rfl,rfl,rfl,rfl,rfl,rfl,rfl,rfl,rfl,rfl,rfl,rfl,rfl,trivial⟩
  replace h:=ite_F h hb_26
  refine T.exit ?_
  obtain ⟨w_30,h,hw_30⟩:=Jqa h
  replace h:=h.trans (congrArg some (hv_25 _ hw_30))
  refine T.seq ?_
  obtain ⟨x22,hx22,h⟩:=bind_some h
  refine T.region (sq (Qda Ty.f31_3 rfl (off':=3) rfl (so (Qea rfl rfl (Qha Ty.k28 (c:=sL Qca p0.Choices) rfl (so (Jfa (as0:=[sL Qca p0.Choices]) (as1:=[sL Qca p0.Choices]) (caps:=[]) (aw1:=[.box [.ref 2,.ref 3,.ref 4,sL Qca p0.Choices,sL Qaa p0.Out],.box [.nils,.nils,.nils,.nils,.nils],aR 3 1 encI x2,aR 29 1 (encL Qaa) s6,aR 66 3 Qba s15]) rfl rfl rfl (Vla (v:=.ref 0) (obs:=[aR 94 2 Qca x22]) (v':=.ref 5) (slices_Clone_Choice_c p0.Choices x22 hx22) (⟨Qia Q2a _,trivial⟩) rfl (Zha (J3a fun _=>rfl) Zua) rfl rfl (sq (Qda Ty.f31_3 rfl (off':=3) rfl (so (Qoa Ty.c28 Ty.i28 rfl (vs:=[.ref 5]) rfl rfl rfl rfl (cs':=[.ref 2,.ref 3,.ref 4,.ref 5,sL Qaa p0.Out]) rfl rfl (RS.nil (T.seq ?_))))))))))))))
  obtain ⟨x24,hx24,h⟩:=bind_some h
  refine T.region (sq (Qda Ty.f31_4 rfl (off':=4) rfl (so (Qea rfl rfl (Qha Ty.k29 (c:=sL Qaa p0.Out) rfl (so (Jfa (as0:=[sL Qaa p0.Out]) (as1:=[sL Qaa p0.Out]) (caps:=[]) (aw1:=[.box [.ref 2,.ref 3,.ref 4,.ref 5,sL Qaa p0.Out],.box [.nils,.nils,.nils,.nils,.nils],aR 3 1 encI x2,aR 29 1 (encL Qaa) s6,aR 66 3 Qba s15,aR 94 2 Qca x22]) rfl rfl rfl (Vla (v:=.ref 0) (obs:=[aR 46 3 Qaa x24]) (v':=.ref 6) (Zma p0.Out x24 hx24) (⟨Qia Qma _,trivial⟩) rfl (Zha (J3a fun _=>rfl) Zua) rfl rfl (sq (Qda Ty.f31_4 rfl (off':=4) rfl (so (Qoa Ty.c29 Ty.i29 rfl (vs:=[.ref 6]) rfl rfl rfl rfl (cs':=[.ref 2,.ref 3,.ref 4,.ref 5,.ref 6]) rfl rfl (RS.nil (T.seq (T.region (so (Qea rfl rfl (Qna Ty.k31 Ty.c31 rfl (cs:=[.ref 2,.ref 3,.ref 4,.ref 5,.ref 6]) rfl ?_))))))))))))))))))
  refine so (Qoa Ty.c31 Ty.i31 rfl (vs:=[.ref 2,.ref 3,.ref 4,.ref 5,.ref 6]) rfl rfl rfl rfl (cs':=[.ref 2,.ref 3,.ref 4,.ref 5,.ref 6]) rfl rfl (RS.nil (T.rt (Jea (id:=1) (off:=0) (cs:=[.ref 2,.ref 3,.ref 4,.ref 5,.ref 6]) (v:=.agg [.ref 2,.ref 3,.ref 4,.ref 5,.ref 6]) ?_ ?_ ?_ ?_))))
  · rfl
  · rfl
  · exact fun K h=>(Qna (row:=[.ref 2,.ref 3,.ref 4,.ref 5,.ref 6]) (off:=0) Ty.k31 Ty.c31 rfl (cs:=[.ref 2,.ref 3,.ref 4,.ref 5,.ref 6]) rfl h)
  refine Qra ?_
  exact J7a (.agg [.ref 0,.ref 1,.ref 2,.ref 3,.ref 4]) [] [2,3,4,5,6] (by decide) (Qqa _) rfl (J8a ⟨Qta rfl,Qta rfl,Qta rfl,Qta rfl,Qta rfl,trivial⟩) (Jma rfl Jta (congrArg (fun r:State=>r.At) (Option.some.inj h)).symm (Jma rfl (Jna Qma) (congrArg (fun r:State=>r.Rings) (Option.some.inj h)).symm (Jma rfl Qya (congrArg (fun r:State=>r.Memory) (Option.some.inj h)).symm (Jma rfl Q2a (congrArg (fun r:State=>r.Choices) (Option.some.inj h)).symm (Jma rfl Qma (congrArg (fun r:State=>r.Out) (Option.some.inj h)).symm (Qva)))))) ⟨rfl,rfl⟩
theorem move_Finish_c (p0:Net) (p1:List (List Item)) (p2:State) (r:State × Int) (h:move_Finish p0 p1 p2=some r):Fn Try.prog 14 [.agg [sL Qga p0.Nodes,iI p0.Rings,iI p0.Room],sL (encL Qaa) p1,.agg [sL encI p2.At,sL (encL Qaa) p2.Rings,sL Qba p2.Memory,sL Qca p2.Choices,sL Qaa p2.Out]] (.tup [.agg [sL encI r.1.At,sL (encL Qaa) r.1.Rings,sL Qba r.1.Memory,sL Qca r.1.Choices,sL Qaa r.1.Out],iI r.2]):=by
  unfold move_Finish at h
  refine Jpa (N:=0) rfl Try.func14 rfl (by kernel_rfl) Try.ntmps14 rfl ?_
  show T _ _ _ _ (mkA 38 [(0,.agg [sL Qga p0.Nodes,iI p0.Rings,iI p0.Room]),(1,sL (encL Qaa) p1),(2,.agg [sL encI p2.At,sL (encL Qaa) p2.Rings,sL Qba p2.Memory,sL Qca p2.Choices,sL Qaa p2.Out])]) []
  refine T.seq (T.region (so (o_box (cs:=[sL Qga p0.Nodes,iI p0.Rings,iI p0.Room]) rfl rfl rfl (so (o_box (cs:=[sL encI p2.At,sL (encL Qaa) p2.Rings,sL Qba p2.Memory,sL Qca p2.Choices,sL Qaa p2.Out]) rfl rfl rfl (so (Jja Ty.z31 rfl rfl (sa (iI 0) rfl (RS.nil (T.seq (T.seq ?_)))))))))))
  obtain ⟨x2,hx2,h⟩:=bind_some h
  refine T.region (so (Qea rfl rfl (Qna Ty.k24 Ty.c24 rfl (cs:=[sL Qga p0.Nodes,iI p0.Rings,iI p0.Room]) rfl (sm (sL (encL Qaa) p1) rfl (so (Qea rfl rfl (Qna Ty.k31 Ty.c31 rfl (cs:=[sL encI p2.At,sL (encL Qaa) p2.Rings,sL Qba p2.Memory,sL Qca p2.Choices,sL Qaa p2.Out]) rfl (so (Jfa (as0:=[.agg [sL Qga p0.Nodes,iI p0.Rings,iI p0.Room],sL (encL Qaa) p1,.agg [sL encI p2.At,sL (encL Qaa) p2.Rings,sL Qba p2.Memory,sL Qca p2.Choices,sL Qaa p2.Out]]) (as1:=[.agg [sL Qga p0.Nodes,iI p0.Rings,iI p0.Room],sL (encL Qaa) p1,.agg [sL encI p2.At,sL (encL Qaa) p2.Rings,sL Qba p2.Memory,sL Qca p2.Choices,sL Qaa p2.Out]]) (caps:=[]) (aw1:=[.box [sL Qga p0.Nodes,iI p0.Rings,iI p0.Room],.box [sL encI p2.At,sL (encL Qaa) p2.Rings,sL Qba p2.Memory,sL Qca p2.Choices,sL Qaa p2.Out],.box [.nils,.nils,.nils,.nils,.nils]]) rfl rfl rfl (Zda (v:=iI x2) (move_Check_c p0 p1 p2 x2 hx2) (⟨Qsa _ (Qka (⟨Qia J1a _,Qfa _ _,Qfa _ _,trivial⟩)),Qia (Jna Qma) _,Qsa _ (Qka (⟨Qia Jta _,Qia (Jna Qma) _,Qia Qya _,Qia Q2a _,Qia Qma _,trivial⟩)),trivial⟩) rfl (sa (iI x2) rfl (RS.nil (T.seq (T.region (sm (iI x2) rfl ?_)))))))))))))))
  refine sq (v_neq rfl rfl (RS.nil (T.cond (b:=x2 != 0) rfl (fun hb_1=>?_) (fun hb_1=>?_))))
  ·replace h:=ite_T h hb_1
   refine T.seq (T.region (sq (Jxa (cs:=[.nils,.nils,.nils,.nils,.nils]) Ty.z31 Ty.p31 rfl (sm (iI x2) rfl (so (Qoa Ty.c31 Ty.i31 rfl (vs:=[.nils,.nils,.nils,.nils,.nils]) rfl rfl rfl rfl (cs':=[.nils,.nils,.nils,.nils,.nils]) rfl rfl (sa (iI x2) rfl (RS.nil (T.rt (Jea (id:=2) (off:=0) (cs:=[.nils,.nils,.nils,.nils,.nils]) (v:=.agg [.nils,.nils,.nils,.nils,.nils]) ?_ ?_ ?_ ?_))))))))))
   · rfl
   · rfl
   · exact fun K h=>(Qna (row:=[.nils,.nils,.nils,.nils,.nils]) (off:=0) Ty.k31 Ty.c31 rfl (cs:=[.nils,.nils,.nils,.nils,.nils]) rfl h)
   refine Qpa (v:=iI x2) rfl (Qra ?_)
   exact Qza (v:=.tup [.agg [sL encI [],sL (encL Qaa) [],sL Qba [],sL Qca [],sL Qaa []],iI x2]) rfl (Joa _ (Qka (⟨Qsa _ (Qka (⟨Qia Jta _,Qia (Jna Qma) _,Qia Qya _,Qia Q2a _,Qia Qma _,trivial⟩)),Qfa _ _,trivial⟩))) ⟨congrArg (fun r:State × Int=>(.tup [.agg [sL encI r.1.At,sL (encL Qaa) r.1.Rings,sL Qba r.1.Memory,sL Qca r.1.Choices,sL Qaa r.1.Out],iI r.2]:AV)) (Option.some.inj h),rfl⟩
  replace h:=ite_F h hb_1
  refine T.skip (T.seq ?_)
  obtain ⟨x4,hx4,h⟩:=bind_some h
  refine T.region (so (Qea rfl rfl (Qna Ty.k31 Ty.c31 rfl (cs:=[sL encI p2.At,sL (encL Qaa) p2.Rings,sL Qba p2.Memory,sL Qca p2.Choices,sL Qaa p2.Out]) rfl (so (Vra (ac:=[.agg [sL encI p2.At,sL (encL Qaa) p2.Rings,sL Qba p2.Memory,sL Qca p2.Choices,sL Qaa p2.Out]]) (as0:=[.agg [sL encI p2.At,sL (encL Qaa) p2.Rings,sL Qba p2.Memory,sL Qca p2.Choices,sL Qaa p2.Out]]) (aw0:=[]) (aw1:=[aR 3 1 encI x4.At,aR 29 1 (encL Qaa) x4.Rings,aR 66 3 Qba x4.Memory,aR 94 2 Qca x4.Choices,aR 46 3 Qaa x4.Out]) (aw2:=[.box [sL Qga p0.Nodes,iI p0.Rings,iI p0.Room],.box [sL encI p2.At,sL (encL Qaa) p2.Rings,sL Qba p2.Memory,sL Qca p2.Choices,sL Qaa p2.Out],.box [.nils,.nils,.nils,.nils,.nils],aR 3 1 encI x4.At,aR 29 1 (encL Qaa) x4.Rings,aR 66 3 Qba x4.Memory,aR 94 2 Qca x4.Choices,aR 46 3 Qaa x4.Out]) (v:=.agg [.ref 0,.ref 1,.ref 2,.ref 3,.ref 4]) (v':=.agg [.ref 3,.ref 4,.ref 5,.ref 6,.ref 7]) (n0:=3) (n1:=5) [] rfl rfl rfl rfl (by decide) (Qva) ⟨J8a ⟨rn_s rfl,rn_s rfl,rn_s rfl,rn_s rfl,rn_s rfl,trivial⟩,trivial⟩ (FnX.of_fnO (move_Copy_c p2 x4 hx4)) rfl (rm_agg (cs:=[.ref 3,.ref 4,.ref 5,.ref 6,.ref 7]) (ds:=[.ref 0,.ref 1,.ref 2,.ref 3,.ref 4]) ⟨Zpa (by decide),Zpa (by decide),Zpa (by decide),Zpa (by decide),Zpa (by decide),trivial⟩) ⟨.inr ⟨rfl,rfl⟩,.inr ⟨rfl,rfl⟩,.inr ⟨rfl,rfl⟩,.inl ⟨0,_,by decide,rfl,J9a Jta⟩,.inl ⟨1,_,by decide,rfl,J9a (Jna Qma)⟩,.inl ⟨2,_,by decide,rfl,J9a Qya⟩,.inl ⟨3,_,by decide,rfl,J9a Q2a⟩,.inl ⟨4,_,by decide,rfl,J9a Qma⟩,trivial⟩ (so (Qoa Ty.c31 Ty.i31 rfl (vs:=[.ref 3,.ref 4,.ref 5,.ref 6,.ref 7]) rfl rfl rfl rfl (cs':=[.ref 3,.ref 4,.ref 5,.ref 6,.ref 7]) rfl rfl (RS.nil (T.seq (T.seq ?_))))))))))
  obtain ⟨x6,hx6,h⟩:=bind_some h
  refine T.region (so (Qea rfl rfl (Qna Ty.k24 Ty.c24 rfl (cs:=[sL Qga p0.Nodes,iI p0.Rings,iI p0.Room]) rfl (sm (sL (encL Qaa) p1) rfl (so (Qea rfl rfl (Qna Ty.k31 Ty.c31 rfl (cs:=[.ref 3,.ref 4,.ref 5,.ref 6,.ref 7]) rfl (so (Jfa (as0:=[.agg [sL Qga p0.Nodes,iI p0.Rings,iI p0.Room],sL (encL Qaa) p1,.agg [.ref 3,.ref 4,.ref 5,.ref 6,.ref 7]]) (as1:=[.agg [sL Qga p0.Nodes,iI p0.Rings,iI p0.Room],sL (encL Qaa) p1,.agg [sL encI x4.At,sL (encL Qaa) x4.Rings,sL Qba x4.Memory,sL Qca x4.Choices,sL Qaa x4.Out]]) (caps:=[]) (aw1:=[.box [sL Qga p0.Nodes,iI p0.Rings,iI p0.Room],.box [.ref 3,.ref 4,.ref 5,.ref 6,.ref 7],.box [.nils,.nils,.nils,.nils,.nils],.dead,.dead,.dead,.dead,.dead]) rfl rfl rfl (Vla (v:=.ref 0) (obs:=[aR 57 2 Q4a x6]) (v':=.ref 8) (move_ready_c p0 p1 x4 x6 hx6) (⟨Qsa _ (Qka (⟨Qia J1a _,Qfa _ _,Qfa _ _,trivial⟩)),Qia (Jna Qma) _,Qsa _ (Qka (⟨Qia Jta _,Qia (Jna Qma) _,Qia Qya _,Qia Q2a _,Qia Qma _,trivial⟩)),trivial⟩) rfl (Zha (J3a fun _=>rfl) Zua) rfl rfl (sa (.ref 8) rfl (RS.nil (T.block (T.iter (fun ss_4:(List Move) × (List Int) × (List (List Item)) × (List Memory) × (List Choice) × (List Item)=>mkA 38 [(1,sL (encL Qaa) p1),(3,.ptr 0 0),(5,.ptr 1 0),(6,.ptr 2 0),(9,.ref 3)]) (fun ss_4=>[.box [sL Qga p0.Nodes,iI p0.Rings,iI p0.Room],.box [.ref 4,.ref 5,.ref 6,.ref 7,.ref 8],.box [.nils,.nils,.nils,.nils,.nils],aR 57 2 Q4a ss_4.1,aR 3 1 encI ss_4.2.1,aR 29 1 (encL Qaa) ss_4.2.2.1,aR 66 3 Qba ss_4.2.2.2.1,aR 94 2 Qca ss_4.2.2.2.2.1,aR 46 3 Qaa ss_4.2.2.2.2.2]) h (Weak.mkN [] [0,1,2,8,3,4,5,6,7] (by decide) (Qqa _) rfl ⟨rn_s rfl,Qua rfl,Qua rfl,Qua rfl,Qta rfl,trivial⟩ (rw_bs [sL Qga p0.Nodes,iI p0.Rings,iI p0.Room] rfl (Jya (cs:=[.ref 4,.ref 5,.ref 6,.ref 7,.ref 8]) (ds:=[.ref 3,.ref 4,.ref 5,.ref 6,.ref 7]) rfl ⟨Qta rfl,Qta rfl,Qta rfl,Qta rfl,Qta rfl,trivial⟩ (rw_bs [.nils,.nils,.nils,.nils,.nils] rfl (rw_ar rfl rfl (rw_ar rfl rfl (rw_ar rfl rfl (rw_ar rfl rfl (rw_ar rfl rfl (rw_ar rfl rfl (Qva))))))))))) (fun ss_4 v_5 h hv_5=>?_)))))))))))))))
  obtain ⟨s7,s8,s9,s10,s11,s12⟩:=ss_4
  replace h:Z8a p0 p1 s7 s8 s9 s10 s11 s12=some v_5:=h
  try dsimp only
  unfold Z8a at h
  refine T.seq (T.seq (T.region (sm (.ref 3) rfl (sq (Vga (en:=Q4a) Ty.s53 rfl rfl (sq (v_gtr rfl rfl (RS.nil (T.cond (b:=decide (((s7).length:Int) > 0)) rfl (fun hb_6=>?_) (fun hb_6=>?_))))))))))
  ·replace h:=ite_T h hb_6
   refine T.skip (T.seq (T.block ?_))
   obtain ⟨x13,hx13,h⟩:=bind_some h
   obtain ⟨x14,hx14,h⟩:=bind_some h
   obtain ⟨x15,hx15,h⟩:=bind_some h
   refine T.drawn mixed (k:=6) rfl (rt0 1 rfl (Qwa (v:=sL (encL Qaa) p1) rfl (rt0 2 rfl (Qwa (v:=.ref 3) rfl (rt0 3 rfl (Q5a (en:=Q4a) Ty.s53 rfl rfl rfl hx13 (rl0 [0,5] 0 rfl (Q1a rfl rfl (Qna Ty.k24 Ty.c24 rfl (cs:=[sL Qga p0.Nodes,iI p0.Rings,iI p0.Room]) rfl (ra1 4 (RO.op rfl rfl (Q6a (en:=Q4a) (a:=x14) rfl rfl hx14 (Qna Ty.k57 Ty.c57 rfl (cs:=[iI x14.Node,iI x14.Lane]) rfl (ra1 5 (RO.op rfl rfl (Vra (ac:=[.agg [sL Qga p0.Nodes,iI p0.Rings,iI p0.Room],sL (encL Qaa) p1,.ptr 1 0,.agg [iI x14.Node,iI x14.Lane]]) (as0:=[.agg [sL Qga p0.Nodes,iI p0.Rings,iI p0.Room],sL (encL Qaa) p1,.ptr 0 0,.agg [iI x14.Node,iI x14.Lane]]) (aw0:=[.box [.ref 1,.ref 2,.ref 3,.ref 4,.ref 5],aR 3 1 encI s8,aR 29 1 (encL Qaa) s9,aR 66 3 Qba s10,aR 94 2 Qca s11,aR 46 3 Qaa s12]) (aw1:=[.box [.ref 1,.ref 2,.ref 3,.ref 6,.ref 7],aR 3 1 encI x15.1,aR 29 1 (encL Qaa) x15.2.1,aR 66 3 Qba x15.2.2.1,.dead,.dead,aR 94 2 Qca x15.2.2.2.1,aR 46 3 Qaa x15.2.2.2.2]) (aw2:=[.box [sL Qga p0.Nodes,iI p0.Rings,iI p0.Room],.box [.ref 4,.ref 5,.ref 6,.ref 9,.ref 10],.box [.nils,.nils,.nils,.nils,.nils],aR 57 2 Q4a s7,aR 3 1 encI x15.1,aR 29 1 (encL Qaa) x15.2.1,aR 66 3 Qba x15.2.2.1,.dead,.dead,aR 94 2 Qca x15.2.2.2.1,aR 46 3 Qaa x15.2.2.2.2]) (v:=.tup []) (v':=.tup []) (n0:=9) (n1:=8) [1,4,5,6,7,8] rfl rfl rfl rfl (by decide) (Jya (cs:=[.ref 1,.ref 2,.ref 3,.ref 4,.ref 5]) (ds:=[.ref 4,.ref 5,.ref 6,.ref 7,.ref 8]) rfl ⟨Qta rfl,Qta rfl,Qta rfl,Qta rfl,Qta rfl,trivial⟩ (Jma rfl Jta rfl (Jma rfl (Jna Qma) rfl (Jma rfl Qya rfl (Jma rfl Q2a rfl (Jma rfl Qma rfl (Qva))))))) ⟨J8a ⟨rn_s rfl,Qla rfl,Qla rfl,trivial⟩,rn_s rfl,Qua rfl,J8a ⟨Qla rfl,Qla rfl,trivial⟩,trivial⟩ (move_do_x5aa6_c p0 p1 x14 s8 s9 s10 s11 s12 x15 hx15) rfl (rm_tup (cs:=[]) (ds:=[]) trivial) ⟨.inr ⟨rfl,rfl⟩,.inl ⟨0,_,by decide,rfl,V5a (cs:=[.ref 4,.ref 5,.ref 6,.ref 9,.ref 10]) (ds:=[.ref 1,.ref 2,.ref 3,.ref 6,.ref 7]) ⟨Zpa (by decide),Zpa (by decide),Zpa (by decide),Zpa (by decide),Zpa (by decide),trivial⟩⟩,.inr ⟨rfl,rfl⟩,.inr ⟨rfl,rfl⟩,.inl ⟨1,_,by decide,rfl,J9a Jta⟩,.inl ⟨2,_,by decide,rfl,J9a (Jna Qma)⟩,.inl ⟨3,_,by decide,rfl,J9a Qya⟩,.inl ⟨4,_,by decide,rfl,trivial⟩,.inl ⟨5,_,by decide,rfl,trivial⟩,.inl ⟨6,_,by decide,rfl,J9a Q2a⟩,.inl ⟨7,_,by decide,rfl,J9a Qma⟩,trivial⟩ (RA.done (by decide +kernel) ?_)))))))))))))))))
   obtain ⟨x16,hx16,h⟩:=bind_some h
   refine T.region (so (Qea rfl rfl (Qna Ty.k24 Ty.c24 rfl (cs:=[sL Qga p0.Nodes,iI p0.Rings,iI p0.Room]) rfl (sm (sL (encL Qaa) p1) rfl (so (Qea rfl rfl (Qna Ty.k31 Ty.c31 rfl (cs:=[.ref 4,.ref 5,.ref 6,.ref 9,.ref 10]) rfl (so (Jfa (as0:=[.agg [sL Qga p0.Nodes,iI p0.Rings,iI p0.Room],sL (encL Qaa) p1,.agg [.ref 4,.ref 5,.ref 6,.ref 9,.ref 10]]) (as1:=[.agg [sL Qga p0.Nodes,iI p0.Rings,iI p0.Room],sL (encL Qaa) p1,.agg [sL encI ((⟨x15.1,x15.2.1,x15.2.2.1,x15.2.2.2.1,x15.2.2.2.2⟩:State).At),sL (encL Qaa) ((⟨x15.1,x15.2.1,x15.2.2.1,x15.2.2.2.1,x15.2.2.2.2⟩:State).Rings),sL Qba ((⟨x15.1,x15.2.1,x15.2.2.1,x15.2.2.2.1,x15.2.2.2.2⟩:State).Memory),sL Qca ((⟨x15.1,x15.2.1,x15.2.2.1,x15.2.2.2.1,x15.2.2.2.2⟩:State).Choices),sL Qaa ((⟨x15.1,x15.2.1,x15.2.2.1,x15.2.2.2.1,x15.2.2.2.2⟩:State).Out)]]) (caps:=[]) (aw1:=[.box [sL Qga p0.Nodes,iI p0.Rings,iI p0.Room],.box [.ref 4,.ref 5,.ref 6,.ref 9,.ref 10],.box [.nils,.nils,.nils,.nils,.nils],aR 57 2 Q4a s7,.dead,.dead,.dead,.dead,.dead,.dead,.dead]) rfl rfl rfl (Vla (v:=.ref 0) (obs:=[aR 57 2 Q4a x16]) (v':=.ref 11) (move_ready_c p0 p1 (⟨x15.1,x15.2.1,x15.2.2.1,x15.2.2.2.1,x15.2.2.2.2⟩:State) x16 hx16) (⟨Qsa _ (Qka (⟨Qia J1a _,Qfa _ _,Qfa _ _,trivial⟩)),Qia (Jna Qma) _,Qsa _ (Qka (⟨Qia Jta _,Qia (Jna Qma) _,Qia Qya _,Qia Q2a _,Qia Qma _,trivial⟩)),trivial⟩) rfl (Zha (J3a fun _=>rfl) Zua) rfl rfl (sa (.ref 11) rfl (RS.nil ?_))))))))))))
   exact ⟨(x16,x15.1,x15.2.1,x15.2.2.1,x15.2.2.2.1,x15.2.2.2.2),(Option.some.inj h).symm,Weak.mkN [] [0,1,2,11,4,5,6,9,10] (by decide) (Qqa _) rfl ⟨rn_s rfl,Qua rfl,Qua rfl,Qua rfl,Qta rfl,trivial⟩ (rw_bs [sL Qga p0.Nodes,iI p0.Rings,iI p0.Room] rfl (Jya (cs:=[.ref 4,.ref 5,.ref 6,.ref 7,.ref 8]) (ds:=[.ref 4,.ref 5,.ref 6,.ref 9,.ref 10]) rfl ⟨Qta rfl,Qta rfl,Qta rfl,Qta rfl,Qta rfl,trivial⟩ (rw_bs [.nils,.nils,.nils,.nils,.nils] rfl (rw_ar rfl rfl (rw_ar rfl rfl (rw_ar rfl rfl (rw_ar rfl rfl (rw_ar rfl rfl (rw_ar rfl rfl (Qva))))))))))⟩
  replace h:=ite_F h hb_6
  refine T.exit ?_
  obtain ⟨w_7,h,hw_7⟩:=Jqa h
  replace h:=h.trans (congrArg some (hv_5 _ hw_7))
  refine T.seq (T.region (so (Qea rfl rfl (Qna Ty.k31 Ty.c31 rfl (cs:=[.ref 4,.ref 5,.ref 6,.ref 7,.ref 8]) rfl (so (Qoa Ty.c31 Ty.i31 rfl (vs:=[.ref 4,.ref 5,.ref 6,.ref 7,.ref 8]) rfl rfl rfl rfl (cs':=[.ref 4,.ref 5,.ref 6,.ref 7,.ref 8]) rfl rfl (sa (iI 0) rfl (RS.nil (T.rt (Jea (id:=2) (off:=0) (cs:=[.ref 4,.ref 5,.ref 6,.ref 7,.ref 8]) (v:=.agg [.ref 4,.ref 5,.ref 6,.ref 7,.ref 8]) ?_ ?_ ?_ ?_))))))))))
  · rfl
  · rfl
  · exact fun K h=>(Qna (row:=[.ref 4,.ref 5,.ref 6,.ref 7,.ref 8]) (off:=0) Ty.k31 Ty.c31 rfl (cs:=[.ref 4,.ref 5,.ref 6,.ref 7,.ref 8]) rfl h)
  refine Qpa (v:=iI 0) rfl (Qra ?_)
  exact Qza (v:=.tup [.agg [sL encI s8,sL (encL Qaa) s9,sL Qba s10,sL Qca s11,sL Qaa s12],iI 0]) rfl (Joa _ (Qka (⟨Qsa _ (Qka (⟨Qia Jta _,Qia (Jna Qma) _,Qia Qya _,Qia Q2a _,Qia Qma _,trivial⟩)),Qfa _ _,trivial⟩))) ⟨congrArg (fun r:State × Int=>(.tup [.agg [sL encI r.1.At,sL (encL Qaa) r.1.Rings,sL Qba r.1.Memory,sL Qca r.1.Choices,sL Qaa r.1.Out],iI r.2]:AV)) (Option.some.inj h),rfl⟩
theorem slices_Equal_Choice_c (p0:List Choice) (p1:List Choice) (r:Bool) (h:Vma p0 p1=some r):Fn Try.prog 55 [sL Qca p0,sL Qca p1] (.bool r):=by
  unfold Vma at h
  refine Jpa (N:=0) rfl Try.func55 rfl (by kernel_rfl) Try.ntmps55 rfl ?_
  show T _ _ _ _ (mkA 26 [(0,sL Qca p0),(1,sL Qca p1)]) []
  refine T.seq (T.region (sa (.bool false) rfl (RS.nil (T.seq (T.seq (T.region (sm (sL Qca p0) rfl (sq (Q3a Ty.s28 rfl (sm (sL Qca p1) rfl ?_))))))))))
  refine sq (Q3a Ty.s28 rfl (sq (v_neq rfl rfl (RS.nil (T.cond (b:=((p0).length:Int) != ((p1).length:Int)) rfl (fun hb_1=>?_) (fun hb_1=>?_))))))
  ·replace h:=ite_T h hb_1
   refine T.seq (T.region (sa (.bool false) rfl (RS.nil (T.rt (Qpa (v:=.bool false) rfl (Qra ?_))))))
   exact Qza (v:=.bool false) rfl (Jda _) ⟨congrArg (fun r:Bool=>(.bool r:AV)) (Option.some.inj h),rfl⟩
  replace h:=ite_F h hb_1
  refine T.skip (T.seq (T.seq (T.region (sm (sL Qca p0) rfl (sq (Q3a Ty.s28 rfl (sm (iI 0) rfl (RS.nil (T.block (T.iter (fun ss_6:Int=>mkA 26 [(0,sL Qca p0),(1,sL Qca p1),(12,iI ((p0).length:Int)),(13,iI ss_6)]) (fun ss_6=>[]) h (Weak.mkN [] [] (by decide) (Qqa _) rfl ⟨rn_s rfl,rn_s rfl,Qla rfl,Qla rfl,trivial⟩ (Qva)) (fun ss_6 v_7 h hv_7=>?_)))))))))))
  revert hv_7 h;revert ss_6;intro s1 h hv_7
  replace h:Z5a p0 p1 s1=some v_7:=h
  try dsimp only
  unfold Z5a at h
  refine T.seq (T.region (sq (v_lss rfl rfl (RS.nil (T.seq (T.cond (b:=decide (s1<((p0).length:Int))) rfl (fun hb_8=>?_) (fun hb_8=>?_)))))))
  ·replace h:=ite_T h hb_8
   refine T.skip (T.seq (T.block (T.seq (T.region (sm (iI s1) rfl (sa (iI s1) rfl (RS.nil (T.seq ?_))))))))
   obtain ⟨x4,hx4,h⟩:=bind_some h
   obtain ⟨x5,hx5,h⟩:=bind_some h
   refine T.drawn mixed (k:=9) rfl (rt0 0 rfl (Qwa (v:=sL Qca p0) rfl (rt0 1 rfl (Qwa (v:=iI s1) rfl (rt0 2 rfl (Q0a Ty.s28 (fun _=>rfl) rfl rfl hx4 (rt0 4 rfl (Qwa (v:=sL Qca p1) rfl (rt0 5 rfl (Qwa (v:=iI s1) rfl (rt0 6 rfl (Q0a Ty.s28 (fun _=>rfl) rfl rfl hx5 (rl0 [3,8] 3 rfl (Y1a rfl (Qna Ty.k94 Ty.c94 rfl (cs:=[iI x4.Node,iI x4.Lane]) rfl (ra1 7 (RO.op rfl rfl (Jaa rfl (Qna Ty.k94 Ty.c94 rfl (cs:=[iI x5.Node,iI x5.Lane]) rfl ?_)))))))))))))))))))
   refine rt0 8 rfl (v_gneq (cs:=[iI x4.Node,iI x4.Lane]) (ds:=[iI x5.Node,iI x5.Lane]) (r:=x4==x5) Ty.q94 rfl rfl rfl rfl (encChoice_eq x4 x5) (RA.done (by decide +kernel) (T.cond (b:=!(x4==x5)) rfl (fun hb_9=>?_) (fun hb_9=>?_))))
   ·replace h:=ite_T h hb_9
    refine T.seq (T.region (sa (.bool false) rfl (RS.nil (T.rt ?_))))
    obtain ⟨w_10,h,hw_10⟩:=Jqa h
    replace h:=h.trans (congrArg some (hv_7 _ hw_10))
    refine Qpa (v:=.bool false) rfl (Qra ?_)
    exact Qza (v:=.bool false) rfl (Jda _) ⟨congrArg (fun r:Bool=>(.bool r:AV)) (Option.some.inj h),rfl⟩
   replace h:=ite_F h hb_9
   refine T.skip (T.region (sq (v_add rfl rfl (sm (iI (IntKind.i64.wrap (s1+1))) rfl (RS.nil ?_)))))
   exact ⟨IntKind.i64.wrap (s1+1),(Option.some.inj h).symm,Weak.mkN [] [] (by decide) (Qqa _) rfl ⟨rn_s rfl,rn_s rfl,Qla rfl,Qla rfl,trivial⟩ (Qva)⟩
  replace h:=ite_F h hb_8
  refine T.exit ?_
  obtain ⟨w_11,h,hw_11⟩:=Jqa h
  replace h:=h.trans (congrArg some (hv_7 _ hw_11))
  refine T.seq (T.region (sa (.bool true) rfl (RS.nil (T.rt (Qpa (v:=.bool true) rfl (Qra ?_))))))
  exact Qza (v:=.bool true) rfl (Jda _) ⟨congrArg (fun r:Bool=>(.bool r:AV)) (Option.some.inj h),rfl⟩
theorem slices_Equal_Item_c (p0:List Item) (p1:List Item) (r:Bool) (h:V6a p0 p1=some r):Fn Try.prog 49 [sL Qaa p0,sL Qaa p1] (.bool r):=by
  unfold V6a at h
  refine Jpa (N:=0) rfl Try.func49 rfl (by kernel_rfl) Try.ntmps49 rfl ?_
  show T _ _ _ _ (mkA 26 [(0,sL Qaa p0),(1,sL Qaa p1)]) []
  refine T.seq (T.region (sa (.bool false) rfl (RS.nil (T.seq (T.seq (T.region (sm (sL Qaa p0) rfl (sq (Q3a Ty.s29 rfl (sm (sL Qaa p1) rfl ?_))))))))))
  refine sq (Q3a Ty.s29 rfl (sq (v_neq rfl rfl (RS.nil (T.cond (b:=((p0).length:Int) != ((p1).length:Int)) rfl (fun hb_1=>?_) (fun hb_1=>?_))))))
  ·replace h:=ite_T h hb_1
   refine T.seq (T.region (sa (.bool false) rfl (RS.nil (T.rt (Qpa (v:=.bool false) rfl (Qra ?_))))))
   exact Qza (v:=.bool false) rfl (Jda _) ⟨congrArg (fun r:Bool=>(.bool r:AV)) (Option.some.inj h),rfl⟩
  replace h:=ite_F h hb_1
  refine T.skip (T.seq (T.seq (T.region (sm (sL Qaa p0) rfl (sq (Q3a Ty.s29 rfl (sm (iI 0) rfl (RS.nil (T.block (T.iter (fun ss_6:Int=>mkA 26 [(0,sL Qaa p0),(1,sL Qaa p1),(12,iI ((p0).length:Int)),(13,iI ss_6)]) (fun ss_6=>[]) h (Weak.mkN [] [] (by decide) (Qqa _) rfl ⟨rn_s rfl,rn_s rfl,Qla rfl,Qla rfl,trivial⟩ (Qva)) (fun ss_6 v_7 h hv_7=>?_)))))))))))
  revert hv_7 h;revert ss_6;intro s1 h hv_7
  replace h:Vfa p0 p1 s1=some v_7:=h
  try dsimp only
  unfold Vfa at h
  refine T.seq (T.region (sq (v_lss rfl rfl (RS.nil (T.seq (T.cond (b:=decide (s1<((p0).length:Int))) rfl (fun hb_8=>?_) (fun hb_8=>?_)))))))
  ·replace h:=ite_T h hb_8
   refine T.skip (T.seq (T.block (T.seq (T.region (sm (iI s1) rfl (sa (iI s1) rfl (RS.nil (T.seq ?_))))))))
   obtain ⟨x4,hx4,h⟩:=bind_some h
   obtain ⟨x5,hx5,h⟩:=bind_some h
   refine T.drawn mixed (k:=9) rfl (rt0 0 rfl (Qwa (v:=sL Qaa p0) rfl (rt0 1 rfl (Qwa (v:=iI s1) rfl (rt0 2 rfl (Q0a Ty.s29 (fun _=>rfl) rfl rfl hx4 (rt0 4 rfl (Qwa (v:=sL Qaa p1) rfl (rt0 5 rfl (Qwa (v:=iI s1) rfl (rt0 6 rfl (Q0a Ty.s29 (fun _=>rfl) rfl rfl hx5 (rl0 [3,8] 3 rfl (Y1a rfl (Qna Ty.k46 Ty.c46 rfl (cs:=[iI x4.Key,iI x4.Val,iI x4.Dep]) rfl (ra1 7 (RO.op rfl rfl (Jaa rfl (Qna Ty.k46 Ty.c46 rfl (cs:=[iI x5.Key,iI x5.Val,iI x5.Dep]) rfl ?_)))))))))))))))))))
   refine rt0 8 rfl (v_gneq (cs:=[iI x4.Key,iI x4.Val,iI x4.Dep]) (ds:=[iI x5.Key,iI x5.Val,iI x5.Dep]) (r:=x4==x5) Ty.q46 rfl rfl rfl rfl (encItem_eq x4 x5) (RA.done (by decide +kernel) (T.cond (b:=!(x4==x5)) rfl (fun hb_9=>?_) (fun hb_9=>?_))))
   ·replace h:=ite_T h hb_9
    refine T.seq (T.region (sa (.bool false) rfl (RS.nil (T.rt ?_))))
    obtain ⟨w_10,h,hw_10⟩:=Jqa h
    replace h:=h.trans (congrArg some (hv_7 _ hw_10))
    refine Qpa (v:=.bool false) rfl (Qra ?_)
    exact Qza (v:=.bool false) rfl (Jda _) ⟨congrArg (fun r:Bool=>(.bool r:AV)) (Option.some.inj h),rfl⟩
   replace h:=ite_F h hb_9
   refine T.skip (T.region (sq (v_add rfl rfl (sm (iI (IntKind.i64.wrap (s1+1))) rfl (RS.nil ?_)))))
   exact ⟨IntKind.i64.wrap (s1+1),(Option.some.inj h).symm,Weak.mkN [] [] (by decide) (Qqa _) rfl ⟨rn_s rfl,rn_s rfl,Qla rfl,Qla rfl,trivial⟩ (Qva)⟩
  replace h:=ite_F h hb_8
  refine T.exit ?_
  obtain ⟨w_11,h,hw_11⟩:=Jqa h
  replace h:=h.trans (congrArg some (hv_7 _ hw_11))
  refine T.seq (T.region (sa (.bool true) rfl (RS.nil (T.rt (Qpa (v:=.bool true) rfl (Qra ?_))))))
  exact Qza (v:=.bool true) rfl (Jda _) ⟨congrArg (fun r:Bool=>(.bool r:AV)) (Option.some.inj h),rfl⟩
end Go.Proofs.Ytfbmoockopakjaa
namespace Go.Proofs.Ytfbmoockopakjaa
open Go.RowKit
set_option linter.unusedVariables false
set_option linter.unusedSimpArgs false
set_option maxRecDepth 100000
set_option maxHeartbeats 4000000
theorem crosslaw_moved_c (r:Bool) (h:Yka=some r):Fn Try.prog 13 [] (.bool r):=by
  unfold Yka at h
  refine Jpa (N:=0) rfl Try.func13 rfl (by kernel_rfl) Try.ntmps13 rfl ?_
  show T _ _ _ _ (mkA 41 []) []
  refine T.seq (T.region (sa (.bool false) rfl (RS.nil (T.seq ?_))))
  obtain ⟨x6,hx6,h⟩:=bind_some h
  obtain ⟨x7,hx7,h⟩:=bind_some h
  obtain ⟨x10,hx10,h⟩:=bind_some h
  refine T.region (so (Jfa (as0:=[]) (as1:=[]) (caps:=[]) (aw1:=[]) rfl rfl rfl (k_fn (v:=.agg [sL Qga x6.Nodes,iI x6.Rings,iI x6.Room]) (Vva x6 hx6) (trivial) (Qsa _ (Qka (⟨Qia J1a _,Qfa _ _,Qfa _ _,trivial⟩))) (so (Jfa (as0:=[]) (as1:=[]) (caps:=[]) (aw1:=[]) rfl rfl rfl (k_own1' (v:=.ref 0) (xs:=x7) (v':=.ref 0) (Y8a x7 hx7) (trivial) (Jna Qma) (.inl ⟨_,rfl⟩) rfl rfl (so (J2a (rows:=List.map encI [1,1]) (vs:=[iI 1,iI 1]) Ty.s26 Ty.z3 rfl rfl rfl rfl rfl rfl (RS.fz 0 rfl rfl rfl (RS.fz 1 rfl rfl rfl (so (Jfa (as0:=[.agg [sL Qga x6.Nodes,iI x6.Rings,iI x6.Room],sL (encL Qaa) x7,sL encI [1,1]]) (as1:=[.agg [sL Qga x6.Nodes,iI x6.Rings,iI x6.Room],sL (encL Qaa) x7,sL encI ([1,1]:List Int)]) (caps:=[]) (aw1:=[.dead,.dead]) rfl rfl rfl (k_fn (v:=.tup [.agg [sL encI x10.1.At,sL (encL Qaa) x10.1.Rings,sL Qba x10.1.Memory,sL Qca x10.1.Choices,sL Qaa x10.1.Out],iI x10.2]) (move_Play_c x6 x7 ([1,1]:List Int) x10 hx10) (⟨Qsa _ (Qka (⟨Qia J1a _,Qfa _ _,Qfa _ _,trivial⟩)),Qia (Jna Qma) _,Qia Jta _,trivial⟩) (Joa _ (Qka (⟨Qsa _ (Qka (⟨Qia Jta _,Qia (Jna Qma) _,Qia Qya _,Qia Q2a _,Qia Qma _,trivial⟩)),Qfa _ _,trivial⟩))) (sm (.tup [.agg [sL encI x10.1.At,sL (encL Qaa) x10.1.Rings,sL Qba x10.1.Memory,sL Qca x10.1.Choices,sL Qaa x10.1.Out],iI x10.2]) rfl (sq (Qxa (v:=.agg [sL encI x10.1.At,sL (encL Qaa) x10.1.Rings,sL Qba x10.1.Memory,sL Qca x10.1.Choices,sL Qaa x10.1.Out]) rfl rfl (sq (Qxa (v:=iI x10.2) rfl rfl ?_))))))))))))))))))
  refine so (Jja Ty.z31 rfl rfl (so (Qoa Ty.c31 Ty.i31 rfl (vs:=[sL encI x10.1.At,sL (encL Qaa) x10.1.Rings,sL Qba x10.1.Memory,sL Qca x10.1.Choices,sL Qaa x10.1.Out]) rfl rfl rfl rfl (cs':=[sL encI x10.1.At,sL (encL Qaa) x10.1.Rings,sL Qba x10.1.Memory,sL Qca x10.1.Choices,sL Qaa x10.1.Out]) rfl rfl (sa (iI x10.2) rfl (RS.nil (T.seq ?_))))))
  obtain ⟨x15,hx15,h⟩:=bind_some h
  obtain ⟨x16,hx16,h⟩:=bind_some h
  obtain ⟨x18,hx18,h⟩:=bind_some h
  refine T.drawn mixed (k:=10) rfl ?_
  let l8:List (Nat × AV):=[(0,.bool false),(1,.ptr 2 0),(2,iI x10.2),(5,.tup [.agg [sL encI x10.1.At,sL (encL Qaa) x10.1.Rings,sL Qba x10.1.Memory,sL Qca x10.1.Choices,sL Qaa x10.1.Out],iI x10.2]),(6,.agg [sL Qga x6.Nodes,iI x6.Rings,iI x6.Room]),(7,sL (encL Qaa) x7),(8,sL encI [1,1]),(9,.tup [.agg [sL encI x10.1.At,sL (encL Qaa) x10.1.Rings,sL Qba x10.1.Memory,sL Qca x10.1.Choices,sL Qaa x10.1.Out],iI x10.2]),(10,.agg [sL encI x10.1.At,sL (encL Qaa) x10.1.Rings,sL Qba x10.1.Memory,sL Qca x10.1.Choices,sL Qaa x10.1.Out]),(11,iI x10.2)]
  let a8:List Ob:=[.dead,.dead,.box [sL encI x10.1.At,sL (encL Qaa) x10.1.Rings,sL Qba x10.1.Memory,sL Qca x10.1.Choices,sL Qaa x10.1.Out]]
  refine RA.join 2 #[true,true,true,true,true,true,true,true,false,false] (mkA 41 ((3,.ptr 3 0)::(12,.tup [.agg [sL encI x18.1.At,sL (encL Qaa) x18.1.Rings,sL Qba x18.1.Memory,sL Qca x18.1.Choices,sL Qaa x18.1.Out],iI x18.2])::(13,.agg [sL Qga x15.Nodes,iI x15.Rings,iI x15.Room])::(14,sL (encL Qaa) x16)::(15,.agg [sL encI x10.1.At,sL (encL Qaa) x10.1.Rings,sL Qba x10.1.Memory,sL Qca x10.1.Choices,sL Qaa x10.1.Out])::(16,.tup [.agg [sL encI x18.1.At,sL (encL Qaa) x18.1.Rings,sL Qba x18.1.Memory,sL Qca x18.1.Choices,sL Qaa x18.1.Out],iI x18.2])::(17,.agg [sL encI x18.1.At,sL (encL Qaa) x18.1.Rings,sL Qba x18.1.Memory,sL Qca x18.1.Choices,sL Qaa x18.1.Out])::(18,iI x18.2)::l8)) [.dead,.dead,.box [sL encI x10.1.At,sL (encL Qaa) x10.1.Rings,sL Qba x10.1.Memory,sL Qca x10.1.Choices,sL Qaa x10.1.Out],.box [.nils,.nils,.nils,.nils,.nils],.dead] ?_ (fun hS1=>?_)
  ·refine ra1 8 (RO.op rfl rfl (Qoa Ty.c31 Ty.i31 rfl (vs:=[sL encI x18.1.At,sL (encL Qaa) x18.1.Rings,sL Qba x18.1.Memory,sL Qca x18.1.Choices,sL Qaa x18.1.Out]) rfl rfl rfl rfl (cs':=[sL encI x18.1.At,sL (encL Qaa) x18.1.Rings,sL Qba x18.1.Memory,sL Qca x18.1.Choices,sL Qaa x18.1.Out]) rfl rfl (rt0 9 rfl (J0a (v:=iI x18.2) rfl (RA.done (by decide +kernel) ?_)))))
   obtain ⟨zt_12,hz,h⟩:=bind_some h
   revert hz h;revert zt_12;intro c21 hz h
   refine T.join (Z:=Unit) (fun _=>mkA 41 [(0,.bool c21)]) (fun _=>[]) (fun _=>True) (fun _ _=>?_) (fun hK=>?_)
   ·refine T.rt (Qpa (v:=.bool c21) rfl (Qra ?_))
    exact Qza (v:=.bool c21) rfl (Jda _) ⟨congrArg (fun r:Bool=>(.bool r:AV)) (Option.some.inj h),rfl⟩
   refine T.region (sm (iI x10.2) rfl (sq (v_eql rfl rfl (sm (.bool (x10.2==0)) rfl ?_))))
   rcases Q7a (x10.2==0) with hb_9 | hb_9
   ·replace hz:=ite_T hz hb_9
    refine yq hb_9 (Qwa (v:=iI x18.2) rfl (yq hb_9 (v_eql rfl rfl (sq (Q9a (v:=.bool (x18.2==0)) rfl hb_9 rfl (sm (.bool (x18.2==0)) rfl ?_))))))
    rcases Q7a (x18.2==0) with hb_10 | hb_10
    ·replace hz:=ite_T hz hb_10
     obtain ⟨x19,hx19,hz⟩:=bind_some hz
     refine yq hb_10 (Qda Ty.f31_3 rfl (off':=3) rfl (yo hb_10 (Qea rfl rfl (Qha Ty.k28 (c:=sL Qca x18.1.Choices) rfl (yq hb_10 (Jxa (cs:=[iI 2,iI 1]) Ty.z94 Ty.p94 rfl (yq hb_10 (Jxa (cs:=[iI 2,iI 0]) Ty.z94 Ty.p94 rfl (yo hb_10 (J2a (rows:=List.map Qca [(⟨2,1⟩:Choice),(⟨2,0⟩:Choice)]) (vs:=[.agg [iI 2,iI 1],.agg [iI 2,iI 0]]) Ty.s28 Ty.z94 rfl rfl rfl rfl rfl rfl (yo hb_10 (Jfa (as0:=[sL Qca x18.1.Choices,.ref 5]) (as1:=[sL Qca x18.1.Choices,sL Qca ([(⟨2,1⟩:Choice),(⟨2,0⟩:Choice)]:List Choice)]) (caps:=[]) (aw1:=[.dead,.dead,.box [sL encI x10.1.At,sL (encL Qaa) x10.1.Rings,sL Qba x10.1.Memory,sL Qca x10.1.Choices,sL Qaa x10.1.Out],.box [sL encI x18.1.At,sL (encL Qaa) x18.1.Rings,sL Qba x18.1.Memory,sL Qca x18.1.Choices,sL Qaa x18.1.Out],.dead,.dead]) rfl rfl rfl (Zda (v:=.bool x19) (slices_Equal_Choice_c x18.1.Choices ([(⟨2,1⟩:Choice),(⟨2,0⟩:Choice)]:List Choice) x19 hx19) (⟨Qia Q2a _,Qia Q2a _,trivial⟩) rfl (sq (Q9a (v:=.bool x19) rfl hb_10 rfl (sm (.bool x19) rfl ?_))))))))))))))))
     rcases Q7a x19 with hb_11 | hb_11
     ·replace hz:=ite_T hz hb_11
      obtain ⟨x20,hx20,hz⟩:=bind_some hz
      refine yq hb_11 (Qda Ty.f31_4 rfl (off':=4) rfl (yo hb_11 (Qea rfl rfl (Qha Ty.k29 (c:=sL Qaa x18.1.Out) rfl (yq hb_11 (Jxa (cs:=[iI 2,iI 2,iI 1]) Ty.z46 Ty.p46 rfl (yq hb_11 (Jxa (cs:=[iI 1,iI 1,iI 2]) Ty.z46 Ty.p46 rfl (yo hb_11 (J2a (rows:=List.map Qaa [(⟨2,2,1⟩:Item),(⟨1,1,2⟩:Item)]) (vs:=[.agg [iI 2,iI 2,iI 1],.agg [iI 1,iI 1,iI 2]]) Ty.s29 Ty.z46 rfl rfl rfl rfl rfl rfl (yo hb_11 (Jfa (as0:=[sL Qaa x18.1.Out,.ref 6]) (as1:=[sL Qaa x18.1.Out,sL Qaa ([(⟨2,2,1⟩:Item),(⟨1,1,2⟩:Item)]:List Item)]) (caps:=[]) (aw1:=[.dead,.dead,.box [sL encI x10.1.At,sL (encL Qaa) x10.1.Rings,sL Qba x10.1.Memory,sL Qca x10.1.Choices,sL Qaa x10.1.Out],.box [sL encI x18.1.At,sL (encL Qaa) x18.1.Rings,sL Qba x18.1.Memory,sL Qca x18.1.Choices,sL Qaa x18.1.Out],.dead,aR 94 2 Qca [(⟨2,1⟩:Choice),(⟨2,0⟩:Choice)],.dead]) rfl rfl rfl (Zda (v:=.bool x20) (slices_Equal_Item_c x18.1.Out ([(⟨2,2,1⟩:Item),(⟨1,1,2⟩:Item)]:List Item) x20 hx20) (⟨Qia Qma _,Qia Qma _,trivial⟩) rfl (sq (Q9a (v:=.bool x20) rfl hb_11 rfl (sa (.bool x20) rfl (RS.nil ?_)))))))))))))))))
      exact T.weakR (hK () trivial) (Weak.mkN [] [] (by decide) (Qqa _) rfl ⟨Jwa ((congrArg (fun p=>p) (Option.some.inj hz)).symm),trivial⟩ (Qva))
     replace hz:=ite_F hz hb_11
     refine sn hb_11 (sn hb_11 (sn hb_11 (sn hb_11 (sn hb_11 (sn hb_11 (sq (Q8a (v:=.bool false) rfl hb_11 rfl (sa (.bool false) rfl (RS.nil ?_)))))))))
     exact T.weakR (hK () trivial) (Weak.mkN [] [] (by decide) (Qqa _) rfl ⟨Jwa ((congrArg (fun p=>p) (Option.some.inj hz)).symm),trivial⟩ (Qva))
    replace hz:=ite_F hz hb_10
    refine sn hb_10 (sn hb_10 (sn hb_10 (sn hb_10 (sn hb_10 (sn hb_10 (sq (Q8a (v:=.bool false) rfl hb_10 rfl (sm (.bool false) rfl (sn rfl (sn rfl ?_))))))))))
    refine sn rfl (sn rfl (sn rfl (sn rfl (sq (Q8a (v:=.bool false) rfl rfl rfl (sa (.bool false) rfl (RS.nil ?_)))))))
    exact T.weakR (hK () trivial) (Weak.mkN [] [] (by decide) (Qqa _) rfl ⟨Jwa ((congrArg (fun p=>p) (Option.some.inj hz)).symm),trivial⟩ (Qva))
   replace hz:=ite_F hz hb_9
   refine sn hb_9 (sn hb_9 (sq (Q8a (v:=.bool false) rfl hb_9 rfl (sm (.bool false) rfl (sn rfl (sn rfl (sn rfl (sn rfl (sn rfl (sn rfl ?_))))))))))
   refine sq (Q8a (v:=.bool false) rfl rfl rfl (sm (.bool false) rfl (sn rfl (sn rfl (sn rfl (sn rfl (sn rfl (sn rfl (sq (Q8a (v:=.bool false) rfl rfl rfl (sa (.bool false) rfl ?_)))))))))))
   refine RS.nil ?_
   exact T.weakR (hK () trivial) (Weak.mkN [] [] (by decide) (Qqa _) rfl ⟨Jwa ((congrArg (fun p=>p) (Option.some.inj hz)).symm),trivial⟩ (Qva))
  ·refine RA.join 6 #[true,true,true,false,false,false,false,true,false,false] (mkA 41 ((3,.ptr 3 0)::(13,.agg [sL Qga x15.Nodes,iI x15.Rings,iI x15.Room])::(14,.ref 4)::(15,.agg [sL encI x10.1.At,sL (encL Qaa) x10.1.Rings,sL Qba x10.1.Memory,sL Qca x10.1.Choices,sL Qaa x10.1.Out])::l8)) [.dead,.dead,.box [sL encI x10.1.At,sL (encL Qaa) x10.1.Rings,sL Qba x10.1.Memory,sL Qca x10.1.Choices,sL Qaa x10.1.Out],.box [.nils,.nils,.nils,.nils,.nils],aR 29 1 (encL Qaa) x16] ?_ (fun hS2=>?_)
   ·refine ra1 3 (RO.fz 4 rfl rfl rfl (RO.op rfl rfl (Jfa (as0:=[.agg [sL Qga x15.Nodes,iI x15.Rings,iI x15.Room],sL (encL Qaa) x16,.agg [sL encI x10.1.At,sL (encL Qaa) x10.1.Rings,sL Qba x10.1.Memory,sL Qca x10.1.Choices,sL Qaa x10.1.Out]]) (as1:=[.agg [sL Qga x15.Nodes,iI x15.Rings,iI x15.Room],sL (encL Qaa) x16,.agg [sL encI x10.1.At,sL (encL Qaa) x10.1.Rings,sL Qba x10.1.Memory,sL Qca x10.1.Choices,sL Qaa x10.1.Out]]) (caps:=[]) (aw1:=[.dead,.dead,.box [sL encI x10.1.At,sL (encL Qaa) x10.1.Rings,sL Qba x10.1.Memory,sL Qca x10.1.Choices,sL Qaa x10.1.Out],.box [.nils,.nils,.nils,.nils,.nils],.dead]) rfl rfl rfl (k_fn (v:=.tup [.agg [sL encI x18.1.At,sL (encL Qaa) x18.1.Rings,sL Qba x18.1.Memory,sL Qca x18.1.Choices,sL Qaa x18.1.Out],iI x18.2]) (move_Finish_c x15 x16 x10.1 x18 hx18) (⟨Qsa _ (Qka (⟨Qia J1a _,Qfa _ _,Qfa _ _,trivial⟩)),Qia (Jna Qma) _,Qsa _ (Qka (⟨Qia Jta _,Qia (Jna Qma) _,Qia Qya _,Qia Q2a _,Qia Qma _,trivial⟩)),trivial⟩) (Joa _ (Qka (⟨Qsa _ (Qka (⟨Qia Jta _,Qia (Jna Qma) _,Qia Qya _,Qia Q2a _,Qia Qma _,trivial⟩)),Qfa _ _,trivial⟩))) (rt0 4 rfl (Qwa (v:=.tup [.agg [sL encI x18.1.At,sL (encL Qaa) x18.1.Rings,sL Qba x18.1.Memory,sL Qca x18.1.Choices,sL Qaa x18.1.Out],iI x18.2]) rfl (rt0 5 rfl (Qxa (v:=.agg [sL encI x18.1.At,sL (encL Qaa) x18.1.Rings,sL Qba x18.1.Memory,sL Qca x18.1.Choices,sL Qaa x18.1.Out]) rfl rfl (rt0 6 rfl (Qxa (v:=iI x18.2) rfl rfl ?_))))))))))
    exact raS hS1 ⟨rfl,rfl,rfl,rfl,rfl,rfl,rfl,rfl,rfl,rfl,rfl,rfl,rfl,rfl,rfl,rfl,rfl,rfl,trivial⟩
   ·refine RA.join 7 #[true,false,true,false,false,false,false,true,false,false] (mkA 41 ((3,.ptr 3 0)::(13,.agg [sL Qga x15.Nodes,iI x15.Rings,iI x15.Room])::(15,.agg [sL encI x10.1.At,sL (encL Qaa) x10.1.Rings,sL Qba x10.1.Memory,sL Qca x10.1.Choices,sL Qaa x10.1.Out])::l8)) [.dead,.dead,.box [sL encI x10.1.At,sL (encL Qaa) x10.1.Rings,sL Qba x10.1.Memory,sL Qca x10.1.Choices,sL Qaa x10.1.Out],.box [.nils,.nils,.nils,.nils,.nils]] ?_ (fun hS3=>?_)
    ·refine ra1 1 (RO.op rfl rfl (Jfa (as0:=[]) (as1:=[]) (caps:=[]) (aw1:=[.dead,.dead,.box [sL encI x10.1.At,sL (encL Qaa) x10.1.Rings,sL Qba x10.1.Memory,sL Qca x10.1.Choices,sL Qaa x10.1.Out],.box [.nils,.nils,.nils,.nils,.nils]]) rfl rfl rfl (k_own1' (v:=.ref 0) (xs:=x16) (v':=.ref 4) (Y8a x16 hx16) (trivial) (Jna Qma) (.inl ⟨_,rfl⟩) rfl rfl ?_)))
     exact raS hS2 ⟨rfl,rfl,rfl,rfl,rfl,rfl,rfl,rfl,rfl,rfl,rfl,rfl,rfl,rfl,trivial⟩
    ·refine RA.join 7 #[true,true,true,false,false,false,false,false,false,false] (mkA 41 ((13,.agg [sL Qga x15.Nodes,iI x15.Rings,iI x15.Room])::(14,.ref 3)::(15,.agg [sL encI x10.1.At,sL (encL Qaa) x10.1.Rings,sL Qba x10.1.Memory,sL Qca x10.1.Choices,sL Qaa x10.1.Out])::l8)) [.dead,.dead,.box [sL encI x10.1.At,sL (encL Qaa) x10.1.Rings,sL Qba x10.1.Memory,sL Qca x10.1.Choices,sL Qaa x10.1.Out],aR 29 1 (encL Qaa) x16] ?_ (fun hS4=>?_)
     ·refine ra2 3 7 ?_ ?_
      ·refine RO.fz 3 rfl rfl rfl (RO.op rfl rfl (Jfa (as0:=[.agg [sL Qga x15.Nodes,iI x15.Rings,iI x15.Room],sL (encL Qaa) x16,.agg [sL encI x10.1.At,sL (encL Qaa) x10.1.Rings,sL Qba x10.1.Memory,sL Qca x10.1.Choices,sL Qaa x10.1.Out]]) (as1:=[.agg [sL Qga x15.Nodes,iI x15.Rings,iI x15.Room],sL (encL Qaa) x16,.agg [sL encI x10.1.At,sL (encL Qaa) x10.1.Rings,sL Qba x10.1.Memory,sL Qca x10.1.Choices,sL Qaa x10.1.Out]]) (caps:=[]) (aw1:=[.dead,.dead,.box [sL encI x10.1.At,sL (encL Qaa) x10.1.Rings,sL Qba x10.1.Memory,sL Qca x10.1.Choices,sL Qaa x10.1.Out],.dead]) rfl rfl rfl (k_fn (v:=.tup [.agg [sL encI x18.1.At,sL (encL Qaa) x18.1.Rings,sL Qba x18.1.Memory,sL Qca x18.1.Choices,sL Qaa x18.1.Out],iI x18.2]) (move_Finish_c x15 x16 x10.1 x18 hx18) (⟨Qsa _ (Qka (⟨Qia J1a _,Qfa _ _,Qfa _ _,trivial⟩)),Qia (Jna Qma) _,Qsa _ (Qka (⟨Qia Jta _,Qia (Jna Qma) _,Qia Qya _,Qia Q2a _,Qia Qma _,trivial⟩)),trivial⟩) (Joa _ (Qka (⟨Qsa _ (Qka (⟨Qia Jta _,Qia (Jna Qma) _,Qia Qya _,Qia Q2a _,Qia Qma _,trivial⟩)),Qfa _ _,trivial⟩))) (rt0 4 rfl (Qwa (v:=.tup [.agg [sL encI x18.1.At,sL (encL Qaa) x18.1.Rings,sL Qba x18.1.Memory,sL Qca x18.1.Choices,sL Qaa x18.1.Out],iI x18.2]) rfl (rt0 5 rfl (Qxa (v:=.agg [sL encI x18.1.At,sL (encL Qaa) x18.1.Rings,sL Qba x18.1.Memory,sL Qca x18.1.Choices,sL Qaa x18.1.Out]) rfl rfl (rt0 6 rfl (Qxa (v:=iI x18.2) rfl rfl (ra1 7 (RO.op rfl rfl (Jja Ty.z31 rfl (aw':=[.dead,.dead,.box [sL encI x10.1.At,sL (encL Qaa) x10.1.Rings,sL Qba x10.1.Memory,sL Qca x10.1.Choices,sL Qaa x10.1.Out],.dead,.box [.nils,.nils,.nils,.nils,.nils]]) rfl ?_))))))))))))
       exact raW hS1 (Weak.mkN [] [0,1,2,4,3] (by decide) (Qqa _) rfl ⟨Qua rfl,Z9a ⟨J8a ⟨rn_s rfl,rn_s rfl,rn_s rfl,rn_s rfl,rn_s rfl,trivial⟩,Qla rfl,trivial⟩,J8a ⟨rn_s rfl,Qla rfl,Qla rfl,trivial⟩,rn_s rfl,J8a ⟨rn_s rfl,rn_s rfl,rn_s rfl,rn_s rfl,rn_s rfl,trivial⟩,Z9a ⟨J8a ⟨rn_s rfl,rn_s rfl,rn_s rfl,rn_s rfl,rn_s rfl,trivial⟩,Qla rfl,trivial⟩,J8a ⟨rn_s rfl,rn_s rfl,rn_s rfl,rn_s rfl,rn_s rfl,trivial⟩,Qla rfl,Jwa rfl,Qua rfl,Qla rfl,Z9a ⟨J8a ⟨rn_s rfl,rn_s rfl,rn_s rfl,rn_s rfl,rn_s rfl,trivial⟩,Qla rfl,trivial⟩,J8a ⟨rn_s rfl,Qla rfl,Qla rfl,trivial⟩,rn_s rfl,rn_s rfl,Z9a ⟨J8a ⟨rn_s rfl,rn_s rfl,rn_s rfl,rn_s rfl,rn_s rfl,trivial⟩,Qla rfl,trivial⟩,J8a ⟨rn_s rfl,rn_s rfl,rn_s rfl,rn_s rfl,rn_s rfl,trivial⟩,Qla rfl,trivial⟩ (Z6a rfl (Z6a rfl (rw_bs [sL encI x10.1.At,sL (encL Qaa) x10.1.Rings,sL Qba x10.1.Memory,sL Qca x10.1.Choices,sL Qaa x10.1.Out] rfl (rw_bs [.nils,.nils,.nils,.nils,.nils] rfl (Z6a rfl (Qva)))))))
      ·refine RO.op rfl rfl (Jja Ty.z31 rfl (aw':=[.dead,.dead,.box [sL encI x10.1.At,sL (encL Qaa) x10.1.Rings,sL Qba x10.1.Memory,sL Qca x10.1.Choices,sL Qaa x10.1.Out],aR 29 1 (encL Qaa) x16,.box [.nils,.nils,.nils,.nils,.nils]]) rfl ?_)
       exact raW hS2 (Weak.mkN [] [0,1,2,4,3] (by decide) (Qqa _) rfl ⟨Qua rfl,J8a ⟨rn_s rfl,Qla rfl,Qla rfl,trivial⟩,Qta rfl,J8a ⟨rn_s rfl,rn_s rfl,rn_s rfl,rn_s rfl,rn_s rfl,trivial⟩,Jwa rfl,Qua rfl,Qla rfl,Z9a ⟨J8a ⟨rn_s rfl,rn_s rfl,rn_s rfl,rn_s rfl,rn_s rfl,trivial⟩,Qla rfl,trivial⟩,J8a ⟨rn_s rfl,Qla rfl,Qla rfl,trivial⟩,rn_s rfl,rn_s rfl,Z9a ⟨J8a ⟨rn_s rfl,rn_s rfl,rn_s rfl,rn_s rfl,rn_s rfl,trivial⟩,Qla rfl,trivial⟩,J8a ⟨rn_s rfl,rn_s rfl,rn_s rfl,rn_s rfl,rn_s rfl,trivial⟩,Qla rfl,trivial⟩ (Z6a rfl (Z6a rfl (rw_bs [sL encI x10.1.At,sL (encL Qaa) x10.1.Rings,sL Qba x10.1.Memory,sL Qca x10.1.Choices,sL Qaa x10.1.Out] rfl (rw_bs [.nils,.nils,.nils,.nils,.nils] rfl (rw_ar rfl rfl (Qva)))))))
     ·refine RA.join 8 #[true,false,false,false,false,false,false,true,false,false] (mkA 41 ((3,.ptr 3 0)::(13,.agg [sL Qga x15.Nodes,iI x15.Rings,iI x15.Room])::l8)) [.dead,.dead,.box [sL encI x10.1.At,sL (encL Qaa) x10.1.Rings,sL Qba x10.1.Memory,sL Qca x10.1.Choices,sL Qaa x10.1.Out],.box [.nils,.nils,.nils,.nils,.nils]] ?_ (fun hS5=>?_)
      ·refine ra2 1 2 ?_ ?_
       ·refine RO.op rfl rfl (Jfa (as0:=[]) (as1:=[]) (caps:=[]) (aw1:=[.dead,.dead,.box [sL encI x10.1.At,sL (encL Qaa) x10.1.Rings,sL Qba x10.1.Memory,sL Qca x10.1.Choices,sL Qaa x10.1.Out],.box [.nils,.nils,.nils,.nils,.nils]]) rfl rfl rfl (k_own1' (v:=.ref 0) (xs:=x16) (v':=.ref 4) (Y8a x16 hx16) (trivial) (Jna Qma) (.inl ⟨_,rfl⟩) rfl rfl (ra1 2 (RO.op rfl rfl (Qea rfl rfl (Qna Ty.k31 Ty.c31 rfl (cs:=[sL encI x10.1.At,sL (encL Qaa) x10.1.Rings,sL Qba x10.1.Memory,sL Qca x10.1.Choices,sL Qaa x10.1.Out]) rfl ?_))))))
        exact raS hS2 ⟨rfl,rfl,rfl,rfl,rfl,rfl,rfl,rfl,rfl,rfl,rfl,rfl,rfl,rfl,trivial⟩
       ·refine RO.op rfl rfl (Qea rfl rfl (Qna Ty.k31 Ty.c31 rfl (cs:=[sL encI x10.1.At,sL (encL Qaa) x10.1.Rings,sL Qba x10.1.Memory,sL Qca x10.1.Choices,sL Qaa x10.1.Out]) rfl ?_))
        exact raS hS3 ⟨rfl,rfl,rfl,rfl,rfl,rfl,rfl,rfl,rfl,rfl,rfl,rfl,rfl,trivial⟩
      ·refine RA.join 8 #[false,false,true,false,false,false,false,true,false,false] (mkA 41 ((3,.ptr 3 0)::(15,.agg [sL encI x10.1.At,sL (encL Qaa) x10.1.Rings,sL Qba x10.1.Memory,sL Qca x10.1.Choices,sL Qaa x10.1.Out])::l8)) [.dead,.dead,.box [sL encI x10.1.At,sL (encL Qaa) x10.1.Rings,sL Qba x10.1.Memory,sL Qca x10.1.Choices,sL Qaa x10.1.Out],.box [.nils,.nils,.nils,.nils,.nils]] ?_ (fun hS6=>?_)
       ·refine ra1 0 (RO.op rfl rfl (Jfa (as0:=[]) (as1:=[]) (caps:=[]) (aw1:=[.dead,.dead,.box [sL encI x10.1.At,sL (encL Qaa) x10.1.Rings,sL Qba x10.1.Memory,sL Qca x10.1.Choices,sL Qaa x10.1.Out],.box [.nils,.nils,.nils,.nils,.nils]]) rfl rfl rfl (k_fn (v:=.agg [sL Qga x15.Nodes,iI x15.Rings,iI x15.Room]) (Vva x15 hx15) (trivial) (Qsa _ (Qka (⟨Qia J1a _,Qfa _ _,Qfa _ _,trivial⟩))) ?_)))
        exact raS hS3 ⟨rfl,rfl,rfl,rfl,rfl,rfl,rfl,rfl,rfl,rfl,rfl,rfl,rfl,trivial⟩
       ·refine RA.join 8 #[true,false,true,false,false,false,false,false,false,false] (mkA 41 ((13,.agg [sL Qga x15.Nodes,iI x15.Rings,iI x15.Room])::(15,.agg [sL encI x10.1.At,sL (encL Qaa) x10.1.Rings,sL Qba x10.1.Memory,sL Qca x10.1.Choices,sL Qaa x10.1.Out])::l8)) a8 ?_ (fun hS7=>?_)
        ·refine ra2 1 7 ?_ ?_
         ·refine RO.op rfl rfl (Jfa (as0:=[]) (as1:=[]) (caps:=[]) (aw1:=[.dead,.dead,.box [sL encI x10.1.At,sL (encL Qaa) x10.1.Rings,sL Qba x10.1.Memory,sL Qca x10.1.Choices,sL Qaa x10.1.Out]]) rfl rfl rfl (k_own1' (v:=.ref 0) (xs:=x16) (v':=.ref 3) (Y8a x16 hx16) (trivial) (Jna Qma) (.inl ⟨_,rfl⟩) rfl rfl ?_))
          exact raS hS4 ⟨rfl,rfl,rfl,rfl,rfl,rfl,rfl,rfl,rfl,rfl,rfl,rfl,rfl,trivial⟩
         ·refine RO.op rfl rfl (Jja Ty.z31 rfl (aw':=[.dead,.dead,.box [sL encI x10.1.At,sL (encL Qaa) x10.1.Rings,sL Qba x10.1.Memory,sL Qca x10.1.Choices,sL Qaa x10.1.Out],.box [.nils,.nils,.nils,.nils,.nils]]) rfl ?_)
          exact raS hS3 ⟨rfl,rfl,rfl,rfl,rfl,rfl,rfl,rfl,rfl,rfl,rfl,rfl,rfl,trivial⟩
        ·refine ra3 0 2 7 ?_ ?_ ?_
         ·refine RO.op rfl rfl (Jfa (as0:=[]) (as1:=[]) (caps:=[]) (aw1:=[.dead,.dead,.box [sL encI x10.1.At,sL (encL Qaa) x10.1.Rings,sL Qba x10.1.Memory,sL Qca x10.1.Choices,sL Qaa x10.1.Out]]) rfl rfl rfl (k_fn (v:=.agg [sL Qga x15.Nodes,iI x15.Rings,iI x15.Room]) (Vva x15 hx15) (trivial) (Qsa _ (Qka (⟨Qia J1a _,Qfa _ _,Qfa _ _,trivial⟩))) (ra3 1 2 7 ?_ ?_ ?_)))
          ·refine RO.op rfl rfl (Jfa (as0:=[]) (as1:=[]) (caps:=[]) (aw1:=[.dead,.dead,.box [sL encI x10.1.At,sL (encL Qaa) x10.1.Rings,sL Qba x10.1.Memory,sL Qca x10.1.Choices,sL Qaa x10.1.Out]]) rfl rfl rfl (k_own1' (v:=.ref 0) (xs:=x16) (v':=.ref 3) (Y8a x16 hx16) (trivial) (Jna Qma) (.inl ⟨_,rfl⟩) rfl rfl (rl0 [2,3,4,5,6,8,9] 2 rfl (Q1a rfl rfl (Qna Ty.k31 Ty.c31 rfl (cs:=[sL encI x10.1.At,sL (encL Qaa) x10.1.Rings,sL Qba x10.1.Memory,sL Qca x10.1.Choices,sL Qaa x10.1.Out]) rfl ?_)))))
           exact raS hS4 ⟨rfl,rfl,rfl,rfl,rfl,rfl,rfl,rfl,rfl,rfl,rfl,rfl,rfl,trivial⟩
          ·refine RO.op rfl rfl (Qea rfl rfl (Qna Ty.k31 Ty.c31 rfl (cs:=[sL encI x10.1.At,sL (encL Qaa) x10.1.Rings,sL Qba x10.1.Memory,sL Qca x10.1.Choices,sL Qaa x10.1.Out]) rfl ?_))
           exact raS hS7 ⟨rfl,rfl,rfl,rfl,rfl,rfl,rfl,rfl,rfl,rfl,rfl,rfl,trivial⟩
          ·refine RO.op rfl rfl (Jja Ty.z31 rfl (aw':=[.dead,.dead,.box [sL encI x10.1.At,sL (encL Qaa) x10.1.Rings,sL Qba x10.1.Memory,sL Qca x10.1.Choices,sL Qaa x10.1.Out],.box [.nils,.nils,.nils,.nils,.nils]]) rfl ?_)
           exact raS hS5 ⟨rfl,rfl,rfl,rfl,rfl,rfl,rfl,rfl,rfl,rfl,rfl,rfl,trivial⟩
         ·refine RO.op rfl rfl (Qea rfl rfl (Qna Ty.k31 Ty.c31 rfl (cs:=[sL encI x10.1.At,sL (encL Qaa) x10.1.Rings,sL Qba x10.1.Memory,sL Qca x10.1.Choices,sL Qaa x10.1.Out]) rfl (ra2 0 7 ?_ ?_)))
          ·refine RO.op rfl rfl (Jfa (as0:=[]) (as1:=[]) (caps:=[]) (aw1:=[.dead,.dead,.box [sL encI x10.1.At,sL (encL Qaa) x10.1.Rings,sL Qba x10.1.Memory,sL Qca x10.1.Choices,sL Qaa x10.1.Out]]) rfl rfl rfl (k_fn (v:=.agg [sL Qga x15.Nodes,iI x15.Rings,iI x15.Room]) (Vva x15 hx15) (trivial) (Qsa _ (Qka (⟨Qia J1a _,Qfa _ _,Qfa _ _,trivial⟩))) ?_))
           exact raS hS7 ⟨rfl,rfl,rfl,rfl,rfl,rfl,rfl,rfl,rfl,rfl,rfl,rfl,trivial⟩
          ·refine RO.op rfl rfl (Jja Ty.z31 rfl (aw':=[.dead,.dead,.box [sL encI x10.1.At,sL (encL Qaa) x10.1.Rings,sL Qba x10.1.Memory,sL Qca x10.1.Choices,sL Qaa x10.1.Out],.box [.nils,.nils,.nils,.nils,.nils]]) rfl ?_)
           exact raS hS6 ⟨rfl,rfl,rfl,rfl,rfl,rfl,rfl,rfl,rfl,rfl,rfl,rfl,trivial⟩
         ·refine RO.op rfl rfl (Jja Ty.z31 rfl (aw':=[.dead,.dead,.box [sL encI x10.1.At,sL (encL Qaa) x10.1.Rings,sL Qba x10.1.Memory,sL Qca x10.1.Choices,sL Qaa x10.1.Out],.box [.nils,.nils,.nils,.nils,.nils]]) rfl (ra2 0 2 ?_ ?_))
          ·refine RO.op rfl rfl (Jfa (as0:=[]) (as1:=[]) (caps:=[]) (aw1:=[.dead,.dead,.box [sL encI x10.1.At,sL (encL Qaa) x10.1.Rings,sL Qba x10.1.Memory,sL Qca x10.1.Choices,sL Qaa x10.1.Out],.box [.nils,.nils,.nils,.nils,.nils]]) rfl rfl rfl (k_fn (v:=.agg [sL Qga x15.Nodes,iI x15.Rings,iI x15.Room]) (Vva x15 hx15) (trivial) (Qsa _ (Qka (⟨Qia J1a _,Qfa _ _,Qfa _ _,trivial⟩))) ?_))
           exact raS hS5 ⟨rfl,rfl,rfl,rfl,rfl,rfl,rfl,rfl,rfl,rfl,rfl,rfl,trivial⟩
          ·refine RO.op rfl rfl (Qea rfl rfl (Qna Ty.k31 Ty.c31 rfl (cs:=[sL encI x10.1.At,sL (encL Qaa) x10.1.Rings,sL Qba x10.1.Memory,sL Qca x10.1.Choices,sL Qaa x10.1.Out]) rfl ?_))
           exact raS hS6 ⟨rfl,rfl,rfl,rfl,rfl,rfl,rfl,rfl,rfl,rfl,rfl,rfl,trivial⟩
theorem crosslaw_far_c (p0:State) (r:Bool) (h:crosslaw_far p0=some r):Fn Try.prog 16 [.agg [sL encI p0.At,sL (encL Qaa) p0.Rings,sL Qba p0.Memory,sL Qca p0.Choices,sL Qaa p0.Out]] (.bool r):=by
  unfold crosslaw_far at h
  refine Jpa (N:=0) rfl Try.func16 rfl (by kernel_rfl) Try.ntmps16 rfl ?_
  show T _ _ _ _ (mkA 13 [(0,.agg [sL encI p0.At,sL (encL Qaa) p0.Rings,sL Qba p0.Memory,sL Qca p0.Choices,sL Qaa p0.Out])]) []
  refine T.seq (T.region (so (o_box (cs:=[sL encI p0.At,sL (encL Qaa) p0.Rings,sL Qba p0.Memory,sL Qca p0.Choices,sL Qaa p0.Out]) rfl rfl rfl (sa (.bool false) rfl (RS.nil (T.join (Z:=Unit) (fun _=>mkA 13 [(2,.bool ((decide (((p0.Choices).length:Int)<500)) && decide (((p0.Out).length:Int)<2000)))]) (fun _=>[]) (fun _=>True) (fun _ _=>?_) (fun hK=>?_)))))))
  ·refine T.rt (Qpa (v:=.bool ((decide (((p0.Choices).length:Int)<500)) && decide (((p0.Out).length:Int)<2000))) rfl (Qra ?_))
   exact Qza (v:=.bool ((decide (((p0.Choices).length:Int)<500)) && decide (((p0.Out).length:Int)<2000))) rfl (Jda _) ⟨congrArg (fun r:Bool=>(.bool r:AV)) (Option.some.inj h),rfl⟩
  refine T.region (sq (Qda Ty.f31_3 rfl (off':=3) rfl (so (Qea rfl rfl (Qha Ty.k28 (c:=sL Qca p0.Choices) rfl (sq (Q3a Ty.s28 rfl (sq (v_lss rfl rfl (sm (.bool (decide (((p0.Choices).length:Int)<500))) rfl ?_))))))))))
  rcases Q7a (decide (((p0.Choices).length:Int)<500)) with hb_1 | hb_1
  ·refine yq hb_1 (Qda Ty.f31_4 rfl (off':=4) rfl (yo hb_1 (Qea rfl rfl (Qha Ty.k29 (c:=sL Qaa p0.Out) rfl (yq hb_1 (Q3a Ty.s29 rfl (yq hb_1 (v_lss rfl rfl (sq (Q9a (v:=.bool (decide (((p0.Out).length:Int)<2000))) rfl hb_1 rfl (sa (.bool (decide (((p0.Out).length:Int)<2000))) rfl (RS.nil ?_))))))))))))
   exact T.weakR (hK () trivial) (Weak.mkN [] [] (by decide) (Qqa _) rfl ⟨Jwa (by simp only [hb_1,bz,if_true,if_false,Bool.false_eq_true]),trivial⟩ (Qva))
  refine sn hb_1 (sn hb_1 (sn hb_1 (sn hb_1 (sq (Q8a (v:=.bool false) rfl hb_1 rfl (sa (.bool false) rfl (RS.nil ?_)))))))
  exact T.weakR (hK () trivial) (Weak.mkN [] [] (by decide) (Qqa _) rfl ⟨Jwa (by simp only [hb_1,bz,if_true,if_false,Bool.false_eq_true]),trivial⟩ (Qva))
end Go.Proofs.Ytfbmoockopakjaa
namespace Go.Proofs.Ytfbmoockopakjaa
open Go.RowKit
set_option linter.unusedVariables false
set_option linter.unusedSimpArgs false
set_option maxRecDepth 100000
set_option maxHeartbeats 4000000
theorem slices_Equal_int_c (p0:List Int) (p1:List Int) (r:Bool) (h:Yja p0 p1=some r):Fn Try.prog 29 [sL encI p0,sL encI p1] (.bool r):=by
  unfold Yja at h
  refine Jpa (N:=0) rfl Try.func29 rfl (by kernel_rfl) Try.ntmps29 rfl ?_
  show T _ _ _ _ (mkA 26 [(0,sL encI p0),(1,sL encI p1)]) []
  refine T.seq (T.region (sa (.bool false) rfl (RS.nil (T.seq (T.seq (T.region (sm (sL encI p0) rfl (sq (Q3a Ty.s26 rfl (sm (sL encI p1) rfl ?_))))))))))
  refine sq (Q3a Ty.s26 rfl (sq (v_neq rfl rfl (RS.nil (T.cond (b:=((p0).length:Int) != ((p1).length:Int)) rfl (fun hb_1=>?_) (fun hb_1=>?_))))))
  ·replace h:=ite_T h hb_1
   refine T.seq (T.region (sa (.bool false) rfl (RS.nil (T.rt (Qpa (v:=.bool false) rfl (Qra ?_))))))
   exact Qza (v:=.bool false) rfl (Jda _) ⟨congrArg (fun r:Bool=>(.bool r:AV)) (Option.some.inj h),rfl⟩
  replace h:=ite_F h hb_1
  refine T.skip (T.seq (T.seq (T.region (sm (sL encI p0) rfl (sq (Q3a Ty.s26 rfl (sm (iI 0) rfl (RS.nil (T.block (T.iter (fun ss_6:Int=>mkA 26 [(0,sL encI p0),(1,sL encI p1),(12,iI ((p0).length:Int)),(13,iI ss_6)]) (fun ss_6=>[]) h (Weak.mkN [] [] (by decide) (Qqa _) rfl ⟨rn_s rfl,rn_s rfl,Qla rfl,Qla rfl,trivial⟩ (Qva)) (fun ss_6 v_7 h hv_7=>?_)))))))))))
  revert hv_7 h;revert ss_6;intro s1 h hv_7
  replace h:Vna p0 p1 s1=some v_7:=h
  try dsimp only
  unfold Vna at h
  refine T.seq (T.region (sq (v_lss rfl rfl (RS.nil (T.seq (T.cond (b:=decide (s1<((p0).length:Int))) rfl (fun hb_8=>?_) (fun hb_8=>?_)))))))
  ·replace h:=ite_T h hb_8
   refine T.skip (T.seq (T.block (T.seq (T.region (sm (iI s1) rfl (sa (iI s1) rfl (RS.nil (T.seq ?_))))))))
   obtain ⟨x4,hx4,h⟩:=bind_some h
   obtain ⟨x5,hx5,h⟩:=bind_some h
   refine T.drawn mixed (k:=9) rfl (rt0 0 rfl (Qwa (v:=sL encI p0) rfl (rt0 1 rfl (Qwa (v:=iI s1) rfl (rt0 2 rfl (Q0a Ty.s26 (fun _=>rfl) rfl rfl hx4 (rt0 4 rfl (Qwa (v:=sL encI p1) rfl (rt0 5 rfl (Qwa (v:=iI s1) rfl (rt0 6 rfl (Q0a Ty.s26 (fun _=>rfl) rfl rfl hx5 (rl0 [3,8] 3 rfl (Y1a rfl (Qha Ty.k3 (c:=iI x4) rfl (ra1 7 (RO.op rfl rfl (Jaa rfl (Qha Ty.k3 (c:=iI x5) rfl ?_)))))))))))))))))))
   refine rt0 8 rfl (v_neq rfl rfl (RA.done (by decide +kernel) (T.cond (b:=x4 != x5) rfl (fun hb_9=>?_) (fun hb_9=>?_))))
   ·replace h:=ite_T h hb_9
    refine T.seq (T.region (sa (.bool false) rfl (RS.nil (T.rt ?_))))
    obtain ⟨w_10,h,hw_10⟩:=Jqa h
    replace h:=h.trans (congrArg some (hv_7 _ hw_10))
    refine Qpa (v:=.bool false) rfl (Qra ?_)
    exact Qza (v:=.bool false) rfl (Jda _) ⟨congrArg (fun r:Bool=>(.bool r:AV)) (Option.some.inj h),rfl⟩
   replace h:=ite_F h hb_9
   refine T.skip (T.region (sq (v_add rfl rfl (sm (iI (IntKind.i64.wrap (s1+1))) rfl (RS.nil ?_)))))
   exact ⟨IntKind.i64.wrap (s1+1),(Option.some.inj h).symm,Weak.mkN [] [] (by decide) (Qqa _) rfl ⟨rn_s rfl,rn_s rfl,Qla rfl,Qla rfl,trivial⟩ (Qva)⟩
  replace h:=ite_F h hb_8
  refine T.exit ?_
  obtain ⟨w_11,h,hw_11⟩:=Jqa h
  replace h:=h.trans (congrArg some (hv_7 _ hw_11))
  refine T.seq (T.region (sa (.bool true) rfl (RS.nil (T.rt (Qpa (v:=.bool true) rfl (Qra ?_))))))
  exact Qza (v:=.bool true) rfl (Jda _) ⟨congrArg (fun r:Bool=>(.bool r:AV)) (Option.some.inj h),rfl⟩
theorem slices_Equal_Keyed_c (p0:List Keyed) (p1:List Keyed) (r:Bool) (h:Vua p0 p1=some r):Fn Try.prog 34 [sL Qja p0,sL Qja p1] (.bool r):=by
  unfold Vua at h
  refine Jpa (N:=0) rfl Try.func34 rfl (by kernel_rfl) Try.ntmps34 rfl ?_
  show T _ _ _ _ (mkA 26 [(0,sL Qja p0),(1,sL Qja p1)]) []
  refine T.seq (T.region (sa (.bool false) rfl (RS.nil (T.seq (T.seq (T.region (sm (sL Qja p0) rfl (sq (Q3a Ty.s64 rfl (sm (sL Qja p1) rfl ?_))))))))))
  refine sq (Q3a Ty.s64 rfl (sq (v_neq rfl rfl (RS.nil (T.cond (b:=((p0).length:Int) != ((p1).length:Int)) rfl (fun hb_1=>?_) (fun hb_1=>?_))))))
  ·replace h:=ite_T h hb_1
   refine T.seq (T.region (sa (.bool false) rfl (RS.nil (T.rt (Qpa (v:=.bool false) rfl (Qra ?_))))))
   exact Qza (v:=.bool false) rfl (Jda _) ⟨congrArg (fun r:Bool=>(.bool r:AV)) (Option.some.inj h),rfl⟩
  replace h:=ite_F h hb_1
  refine T.skip (T.seq (T.seq (T.region (sm (sL Qja p0) rfl (sq (Q3a Ty.s64 rfl (sm (iI 0) rfl (RS.nil (T.block (T.iter (fun ss_6:Int=>mkA 26 [(0,sL Qja p0),(1,sL Qja p1),(12,iI ((p0).length:Int)),(13,iI ss_6)]) (fun ss_6=>[]) h (Weak.mkN [] [] (by decide) (Qqa _) rfl ⟨rn_s rfl,rn_s rfl,Qla rfl,Qla rfl,trivial⟩ (Qva)) (fun ss_6 v_7 h hv_7=>?_)))))))))))
  revert hv_7 h;revert ss_6;intro s1 h hv_7
  replace h:Vaa p0 p1 s1=some v_7:=h
  try dsimp only
  unfold Vaa at h
  refine T.seq (T.region (sq (v_lss rfl rfl (RS.nil (T.seq (T.cond (b:=decide (s1<((p0).length:Int))) rfl (fun hb_8=>?_) (fun hb_8=>?_)))))))
  ·replace h:=ite_T h hb_8
   refine T.skip (T.seq (T.block (T.seq (T.region (sm (iI s1) rfl (sa (iI s1) rfl (RS.nil (T.seq ?_))))))))
   obtain ⟨x4,hx4,h⟩:=bind_some h
   obtain ⟨x5,hx5,h⟩:=bind_some h
   refine T.drawn mixed (k:=9) rfl (rt0 0 rfl (Qwa (v:=sL Qja p0) rfl (rt0 1 rfl (Qwa (v:=iI s1) rfl (rt0 2 rfl (Q0a Ty.s64 (fun _=>rfl) rfl rfl hx4 (rt0 4 rfl (Qwa (v:=sL Qja p1) rfl (rt0 5 rfl (Qwa (v:=iI s1) rfl (rt0 6 rfl (Q0a Ty.s64 (fun _=>rfl) rfl rfl hx5 (rl0 [3,8] 3 rfl (Y1a rfl (Qna Ty.k69 Ty.c69 rfl (cs:=[iI x4.Key,iI x4.N]) rfl (ra1 7 (RO.op rfl rfl (Jaa rfl (Qna Ty.k69 Ty.c69 rfl (cs:=[iI x5.Key,iI x5.N]) rfl ?_)))))))))))))))))))
   refine rt0 8 rfl (v_gneq (cs:=[iI x4.Key,iI x4.N]) (ds:=[iI x5.Key,iI x5.N]) (r:=x4==x5) Ty.q69 rfl rfl rfl rfl (encKeyed_eq x4 x5) (RA.done (by decide +kernel) (T.cond (b:=!(x4==x5)) rfl (fun hb_9=>?_) (fun hb_9=>?_))))
   ·replace h:=ite_T h hb_9
    refine T.seq (T.region (sa (.bool false) rfl (RS.nil (T.rt ?_))))
    obtain ⟨w_10,h,hw_10⟩:=Jqa h
    replace h:=h.trans (congrArg some (hv_7 _ hw_10))
    refine Qpa (v:=.bool false) rfl (Qra ?_)
    exact Qza (v:=.bool false) rfl (Jda _) ⟨congrArg (fun r:Bool=>(.bool r:AV)) (Option.some.inj h),rfl⟩
   replace h:=ite_F h hb_9
   refine T.skip (T.region (sq (v_add rfl rfl (sm (iI (IntKind.i64.wrap (s1+1))) rfl (RS.nil ?_)))))
   exact ⟨IntKind.i64.wrap (s1+1),(Option.some.inj h).symm,Weak.mkN [] [] (by decide) (Qqa _) rfl ⟨rn_s rfl,rn_s rfl,Qla rfl,Qla rfl,trivial⟩ (Qva)⟩
  replace h:=ite_F h hb_8
  refine T.exit ?_
  obtain ⟨w_11,h,hw_11⟩:=Jqa h
  replace h:=h.trans (congrArg some (hv_7 _ hw_11))
  refine T.seq (T.region (sa (.bool true) rfl (RS.nil (T.rt (Qpa (v:=.bool true) rfl (Qra ?_))))))
  exact Qza (v:=.bool true) rfl (Jda _) ⟨congrArg (fun r:Bool=>(.bool r:AV)) (Option.some.inj h),rfl⟩
theorem move_Ready_c (p0:Net) (p1:List (List Item)) (p2:State) (r:(List Move) × Int) (h:move_Ready p0 p1 p2=some r):FnO Try.prog 26 [.agg [sL Qga p0.Nodes,iI p0.Rings,iI p0.Room],sL (encL Qaa) p1,.agg [sL encI p2.At,sL (encL Qaa) p2.Rings,sL Qba p2.Memory,sL Qca p2.Choices,sL Qaa p2.Out]] (.tup [.ref 0,iI r.2]) [aR 57 2 Q4a r.1]:=by
  unfold move_Ready at h
  refine Jpa (N:=0) rfl Try.func26 rfl (by kernel_rfl) Try.ntmps26 rfl ?_
  show T _ _ _ _ (mkA 20 [(0,.agg [sL Qga p0.Nodes,iI p0.Rings,iI p0.Room]),(1,sL (encL Qaa) p1),(2,.agg [sL encI p2.At,sL (encL Qaa) p2.Rings,sL Qba p2.Memory,sL Qca p2.Choices,sL Qaa p2.Out])]) []
  refine T.seq (T.region (so (o_box (cs:=[sL Qga p0.Nodes,iI p0.Rings,iI p0.Room]) rfl rfl rfl (so (o_box (cs:=[sL encI p2.At,sL (encL Qaa) p2.Rings,sL Qba p2.Memory,sL Qca p2.Choices,sL Qaa p2.Out]) rfl rfl rfl (sa .nils rfl (sa (iI 0) rfl (RS.nil (T.seq (T.seq ?_))))))))))
  obtain ⟨x2,hx2,h⟩:=bind_some h
  refine T.region (so (Qea rfl rfl (Qna Ty.k24 Ty.c24 rfl (cs:=[sL Qga p0.Nodes,iI p0.Rings,iI p0.Room]) rfl (sm (sL (encL Qaa) p1) rfl (so (Qea rfl rfl (Qna Ty.k31 Ty.c31 rfl (cs:=[sL encI p2.At,sL (encL Qaa) p2.Rings,sL Qba p2.Memory,sL Qca p2.Choices,sL Qaa p2.Out]) rfl (so (Jfa (as0:=[.agg [sL Qga p0.Nodes,iI p0.Rings,iI p0.Room],sL (encL Qaa) p1,.agg [sL encI p2.At,sL (encL Qaa) p2.Rings,sL Qba p2.Memory,sL Qca p2.Choices,sL Qaa p2.Out]]) (as1:=[.agg [sL Qga p0.Nodes,iI p0.Rings,iI p0.Room],sL (encL Qaa) p1,.agg [sL encI p2.At,sL (encL Qaa) p2.Rings,sL Qba p2.Memory,sL Qca p2.Choices,sL Qaa p2.Out]]) (caps:=[]) (aw1:=[.box [sL Qga p0.Nodes,iI p0.Rings,iI p0.Room],.box [sL encI p2.At,sL (encL Qaa) p2.Rings,sL Qba p2.Memory,sL Qca p2.Choices,sL Qaa p2.Out]]) rfl rfl rfl (Zda (v:=iI x2) (move_Check_c p0 p1 p2 x2 hx2) (⟨Qsa _ (Qka (⟨Qia J1a _,Qfa _ _,Qfa _ _,trivial⟩)),Qia (Jna Qma) _,Qsa _ (Qka (⟨Qia Jta _,Qia (Jna Qma) _,Qia Qya _,Qia Q2a _,Qia Qma _,trivial⟩)),trivial⟩) rfl (sa (iI x2) rfl (RS.nil (T.seq (T.region (sm (iI x2) rfl ?_)))))))))))))))
  refine sq (v_neq rfl rfl (RS.nil (T.cond (b:=x2 != 0) rfl (fun hb_1=>?_) (fun hb_1=>?_))))
  ·replace h:=ite_T h hb_1
   refine T.seq (T.region (sm (iI x2) rfl (sa .nils rfl (sa (iI x2) rfl (RS.nil (T.rt (Qpa (v:=.nils) rfl (Qpa (v:=iI x2) rfl (Qra ?_)))))))))
   exact J7a (.tup [.ref 0,iI r.2]) [(0,57,2)] [2] (by decide) (Qqa _) rfl (Z9a ⟨Qta rfl,Qla (congrArg (fun r:(List Move) × Int=>r.2) (Option.some.inj h)).symm,trivial⟩) (Jma (en:=Q4a) (ys:=[]) rfl encMove_p (congrArg (fun r:(List Move) × Int=>r.1) (Option.some.inj h)).symm (Qva)) ⟨rfl,rfl⟩
  replace h:=ite_F h hb_1
  refine T.skip (T.seq ?_)
  obtain ⟨x4,hx4,h⟩:=bind_some h
  refine T.region (so (Qea rfl rfl (Qna Ty.k24 Ty.c24 rfl (cs:=[sL Qga p0.Nodes,iI p0.Rings,iI p0.Room]) rfl (sm (sL (encL Qaa) p1) rfl (so (Qea rfl rfl (Qna Ty.k31 Ty.c31 rfl (cs:=[sL encI p2.At,sL (encL Qaa) p2.Rings,sL Qba p2.Memory,sL Qca p2.Choices,sL Qaa p2.Out]) rfl (so (Jfa (as0:=[.agg [sL Qga p0.Nodes,iI p0.Rings,iI p0.Room],sL (encL Qaa) p1,.agg [sL encI p2.At,sL (encL Qaa) p2.Rings,sL Qba p2.Memory,sL Qca p2.Choices,sL Qaa p2.Out]]) (as1:=[.agg [sL Qga p0.Nodes,iI p0.Rings,iI p0.Room],sL (encL Qaa) p1,.agg [sL encI p2.At,sL (encL Qaa) p2.Rings,sL Qba p2.Memory,sL Qca p2.Choices,sL Qaa p2.Out]]) (caps:=[]) (aw1:=[.box [sL Qga p0.Nodes,iI p0.Rings,iI p0.Room],.box [sL encI p2.At,sL (encL Qaa) p2.Rings,sL Qba p2.Memory,sL Qca p2.Choices,sL Qaa p2.Out]]) rfl rfl rfl (Vla (v:=.ref 0) (obs:=[aR 57 2 Q4a x4]) (v':=.ref 2) (move_ready_c p0 p1 p2 x4 hx4) (⟨Qsa _ (Qka (⟨Qia J1a _,Qfa _ _,Qfa _ _,trivial⟩)),Qia (Jna Qma) _,Qsa _ (Qka (⟨Qia Jta _,Qia (Jna Qma) _,Qia Qya _,Qia Q2a _,Qia Qma _,trivial⟩)),trivial⟩) rfl (Zha (J3a fun _=>rfl) Zua) rfl rfl (sa (.ref 2) rfl (sa (iI 0) rfl (RS.nil (T.rt (Qpa (v:=.ref 2) rfl ?_)))))))))))))))
  refine Qpa (v:=iI 0) rfl (Qra ?_)
  exact J7a (.tup [.ref 0,iI r.2]) [] [2] (by decide) (Qqa _) rfl (Z9a ⟨Qta rfl,Qla (congrArg (fun r:(List Move) × Int=>r.2) (Option.some.inj h)).symm,trivial⟩) (Jma rfl encMove_p (congrArg (fun r:(List Move) × Int=>r.1) (Option.some.inj h)).symm (Qva)) ⟨rfl,rfl⟩
theorem Zta (p0:Int) (p1:Int) (r:Int) (h:crossref_At p0 p1=some r):Fn Try.prog 27 [iI p0,iI p1] (iI r):=by
  unfold crossref_At at h
  refine Jpa (N:=0) rfl Try.func27 rfl (by kernel_rfl) Try.ntmps27 rfl ?_
  show T _ _ _ _ (mkA 14 [(0,iI p0),(1,iI p1)]) []
  refine T.seq (T.region (sa (iI 0) rfl (RS.nil (T.seq ?_))))
  obtain ⟨x2,hx2,h⟩:=bind_some h
  refine T.region (sm (iI p0) rfl (sm (iI p1) rfl (sq (v_rem rfl rfl hx2 (sa (iI x2) rfl (RS.nil (T.seq (T.seq (T.region (sm (iI x2) rfl ?_))))))))))
  refine sq (v_lss rfl rfl (RS.nil (T.cond (b:=decide (x2<0)) rfl (fun hb_1=>?_) (fun hb_1=>?_))))
  ·replace h:=ite_T h hb_1
   refine T.region (sm (iI x2) rfl (sm (iI p1) rfl (sq (v_add rfl rfl (sa (iI (IntKind.i64.wrap (x2+p1))) rfl (RS.nil (T.seq (T.region (sm (iI (IntKind.i64.wrap (x2+p1))) rfl (sa (iI (IntKind.i64.wrap (x2+p1))) rfl ?_))))))))))
   refine RS.nil (T.rt (Qpa (v:=iI (IntKind.i64.wrap (x2+p1))) rfl (Qra ?_)))
   exact Qza (v:=iI (IntKind.i64.wrap (x2+p1))) rfl (Qfa _ _) ⟨congrArg (fun r:Int=>(iI r:AV)) (Option.some.inj h),rfl⟩
  replace h:=ite_F h hb_1
  refine T.skip (T.seq (T.region (sm (iI x2) rfl (sa (iI x2) rfl (RS.nil (T.rt (Qpa (v:=iI x2) rfl (Qra ?_))))))))
  exact Qza (v:=iI x2) rfl (Qfa _ _) ⟨congrArg (fun r:Int=>(iI r:AV)) (Option.some.inj h),rfl⟩
end Go.Proofs.Ytfbmoockopakjaa
