/-
  Part 5 of a proof: what the code computes, and the law of it; put together by a program of ours (wip/decl.py) out of texts of ours.
-/
import Derived.Test.YtfbmoockopakjaaZMoveEither4
namespace Go.Proofs.Ytfbmoockopakjaa
open Go.RowKit
set_option linter.unusedVariables false
set_option linter.unusedSimpArgs false
set_option maxRecDepth 100000
set_option maxHeartbeats 4000000
theorem move_Do_c (p0:Net) (p1:List (List Item)) (p2:State) (p3:Move) (r:State × Int) (h:move_Do p0 p1 p2 p3=some r):Fn Try.prog 28 [.agg [sL Qga p0.Nodes,iI p0.Rings,iI p0.Room],sL (encL Qaa) p1,.agg [sL encI p2.At,sL (encL Qaa) p2.Rings,sL Qba p2.Memory,sL Qca p2.Choices,sL Qaa p2.Out],.agg [iI p3.Node,iI p3.Lane]] (.tup [.agg [sL encI r.1.At,sL (encL Qaa) r.1.Rings,sL Qba r.1.Memory,sL Qca r.1.Choices,sL Qaa r.1.Out],iI r.2]):=by
  unfold move_Do at h
  refine Jpa (N:=0) rfl Try.func28 rfl (by kernel_rfl) Try.ntmps28 rfl ?_
  show T _ _ _ _ (mkA 78 [(0,.agg [sL Qga p0.Nodes,iI p0.Rings,iI p0.Room]),(1,sL (encL Qaa) p1),(2,.agg [sL encI p2.At,sL (encL Qaa) p2.Rings,sL Qba p2.Memory,sL Qca p2.Choices,sL Qaa p2.Out]),(3,.agg [iI p3.Node,iI p3.Lane])]) []
  refine T.seq (T.region (so (o_box (cs:=[sL Qga p0.Nodes,iI p0.Rings,iI p0.Room]) rfl rfl rfl (so (o_box (cs:=[sL encI p2.At,sL (encL Qaa) p2.Rings,sL Qba p2.Memory,sL Qca p2.Choices,sL Qaa p2.Out]) rfl rfl rfl (so (o_box (cs:=[iI p3.Node,iI p3.Lane]) rfl rfl rfl (so (Jja Ty.z31 rfl rfl (sa (iI 0) rfl (RS.nil (T.seq (T.seq ?_)))))))))))))
  obtain ⟨x2,hx2,h⟩:=bind_some h
  refine T.region (so (Qea rfl rfl (Qna Ty.k24 Ty.c24 rfl (cs:=[sL Qga p0.Nodes,iI p0.Rings,iI p0.Room]) rfl (sm (sL (encL Qaa) p1) rfl (so (Qea rfl rfl (Qna Ty.k31 Ty.c31 rfl (cs:=[sL encI p2.At,sL (encL Qaa) p2.Rings,sL Qba p2.Memory,sL Qca p2.Choices,sL Qaa p2.Out]) rfl (so (Jfa (as0:=[.agg [sL Qga p0.Nodes,iI p0.Rings,iI p0.Room],sL (encL Qaa) p1,.agg [sL encI p2.At,sL (encL Qaa) p2.Rings,sL Qba p2.Memory,sL Qca p2.Choices,sL Qaa p2.Out]]) (as1:=[.agg [sL Qga p0.Nodes,iI p0.Rings,iI p0.Room],sL (encL Qaa) p1,.agg [sL encI p2.At,sL (encL Qaa) p2.Rings,sL Qba p2.Memory,sL Qca p2.Choices,sL Qaa p2.Out]]) (caps:=[]) (aw1:=[.box [sL Qga p0.Nodes,iI p0.Rings,iI p0.Room],.box [sL encI p2.At,sL (encL Qaa) p2.Rings,sL Qba p2.Memory,sL Qca p2.Choices,sL Qaa p2.Out],.box [iI p3.Node,iI p3.Lane],.box [.nils,.nils,.nils,.nils,.nils]]) rfl rfl rfl (Zda (v:=iI x2) (move_Check_c p0 p1 p2 x2 hx2) (⟨Qsa _ (Qka (⟨Qia J1a _,Qfa _ _,Qfa _ _,trivial⟩)),Qia (Jna Qma) _,Qsa _ (Qka (⟨Qia Jta _,Qia (Jna Qma) _,Qia Qya _,Qia Q2a _,Qia Qma _,trivial⟩)),trivial⟩) rfl (sa (iI x2) rfl (RS.nil (T.seq (T.region (sm (iI x2) rfl ?_)))))))))))))))
  refine sq (v_neq rfl rfl (RS.nil (T.cond (b:=x2 != 0) rfl (fun hb_1=>?_) (fun hb_1=>?_))))
  ·replace h:=ite_T h hb_1
   refine T.seq (T.region (sq (Jxa (cs:=[.nils,.nils,.nils,.nils,.nils]) Ty.z31 Ty.p31 rfl (sm (iI x2) rfl (so (Qoa Ty.c31 Ty.i31 rfl (vs:=[.nils,.nils,.nils,.nils,.nils]) rfl rfl rfl rfl (cs':=[.nils,.nils,.nils,.nils,.nils]) rfl rfl (sa (iI x2) rfl (RS.nil (T.rt (Jea (id:=3) (off:=0) (cs:=[.nils,.nils,.nils,.nils,.nils]) (v:=.agg [.nils,.nils,.nils,.nils,.nils]) ?_ ?_ ?_ ?_))))))))))
   · rfl
   · rfl
   · exact fun K h=>(Qna (row:=[.nils,.nils,.nils,.nils,.nils]) (off:=0) Ty.k31 Ty.c31 rfl (cs:=[.nils,.nils,.nils,.nils,.nils]) rfl h)
   refine Qpa (v:=iI x2) rfl (Qra ?_)
   exact Qza (v:=.tup [.agg [sL encI [],sL (encL Qaa) [],sL Qba [],sL Qca [],sL Qaa []],iI x2]) rfl (Joa _ (Qka (⟨Qsa _ (Qka (⟨Qia Jta _,Qia (Jna Qma) _,Qia Qya _,Qia Q2a _,Qia Qma _,trivial⟩)),Qfa _ _,trivial⟩))) ⟨congrArg (fun r:State × Int=>(.tup [.agg [sL encI r.1.At,sL (encL Qaa) r.1.Rings,sL Qba r.1.Memory,sL Qca r.1.Choices,sL Qaa r.1.Out],iI r.2]:AV)) (Option.some.inj h),rfl⟩
  replace h:=ite_F h hb_1
  refine T.skip (T.seq ?_)
  obtain ⟨zt_7,hz,h⟩:=bind_some h
  revert hz h;revert zt_7;intro c5 hz h
  refine T.join (Z:=Unit) (fun _=>mkA 78 [(1,sL (encL Qaa) p1),(4,.ptr 0 0),(6,.ptr 1 0),(7,.ptr 2 0),(8,.ptr 3 0),(62,.bool c5)]) (fun _=>[.box [sL Qga p0.Nodes,iI p0.Rings,iI p0.Room],.box [sL encI p2.At,sL (encL Qaa) p2.Rings,sL Qba p2.Memory,sL Qca p2.Choices,sL Qaa p2.Out],.box [iI p3.Node,iI p3.Lane],.box [.nils,.nils,.nils,.nils,.nils]]) (fun _=>True) (fun _ _=>?_) (fun hK=>?_)
  ·refine T.cond (b:=c5) rfl (fun hb_8=>?_) (fun hb_8=>?_)
   ·replace h:=ite_T h hb_8
    refine T.seq (T.region (sq (Jxa (cs:=[.nils,.nils,.nils,.nils,.nils]) Ty.z31 Ty.p31 rfl (so (Qoa Ty.c31 Ty.i31 rfl (vs:=[.nils,.nils,.nils,.nils,.nils]) rfl rfl rfl rfl (cs':=[.nils,.nils,.nils,.nils,.nils]) rfl rfl (sa (iI 5) rfl (RS.nil (T.rt (Jea (id:=3) (off:=0) (cs:=[.nils,.nils,.nils,.nils,.nils]) (v:=.agg [.nils,.nils,.nils,.nils,.nils]) ?_ ?_ ?_ ?_)))))))))
    · rfl
    · rfl
    · exact fun K h=>(Qna (row:=[.nils,.nils,.nils,.nils,.nils]) (off:=0) Ty.k31 Ty.c31 rfl (cs:=[.nils,.nils,.nils,.nils,.nils]) rfl h)
    refine Qpa (v:=iI 5) rfl (Qra ?_)
    exact Qza (v:=.tup [.agg [sL encI [],sL (encL Qaa) [],sL Qba [],sL Qca [],sL Qaa []],iI 5]) rfl (Joa _ (Qka (⟨Qsa _ (Qka (⟨Qia Jta _,Qia (Jna Qma) _,Qia Qya _,Qia Q2a _,Qia Qma _,trivial⟩)),Qfa _ _,trivial⟩))) ⟨congrArg (fun r:State × Int=>(.tup [.agg [sL encI r.1.At,sL (encL Qaa) r.1.Rings,sL Qba r.1.Memory,sL Qca r.1.Choices,sL Qaa r.1.Out],iI r.2]:AV)) (Option.some.inj h),rfl⟩
   replace h:=ite_F h hb_8
   refine T.skip (T.seq (T.seq ?_))
   obtain ⟨x7,hx7,h⟩:=bind_some h
   refine T.region (so (Qea rfl rfl (Qna Ty.k24 Ty.c24 rfl (cs:=[sL Qga p0.Nodes,iI p0.Rings,iI p0.Room]) rfl (sm (sL (encL Qaa) p1) rfl (so (Qea rfl rfl (Qna Ty.k31 Ty.c31 rfl (cs:=[sL encI p2.At,sL (encL Qaa) p2.Rings,sL Qba p2.Memory,sL Qca p2.Choices,sL Qaa p2.Out]) rfl (so (Qea rfl rfl (Qna Ty.k57 Ty.c57 rfl (cs:=[iI p3.Node,iI p3.Lane]) rfl (so (Jfa (as0:=[.agg [sL Qga p0.Nodes,iI p0.Rings,iI p0.Room],sL (encL Qaa) p1,.agg [sL encI p2.At,sL (encL Qaa) p2.Rings,sL Qba p2.Memory,sL Qca p2.Choices,sL Qaa p2.Out],.agg [iI p3.Node,iI p3.Lane]]) (as1:=[.agg [sL Qga p0.Nodes,iI p0.Rings,iI p0.Room],sL (encL Qaa) p1,.agg [sL encI p2.At,sL (encL Qaa) p2.Rings,sL Qba p2.Memory,sL Qca p2.Choices,sL Qaa p2.Out],.agg [iI p3.Node,iI p3.Lane]]) (caps:=[]) (aw1:=[.box [sL Qga p0.Nodes,iI p0.Rings,iI p0.Room],.box [sL encI p2.At,sL (encL Qaa) p2.Rings,sL Qba p2.Memory,sL Qca p2.Choices,sL Qaa p2.Out],.box [iI p3.Node,iI p3.Lane],.box [.nils,.nils,.nils,.nils,.nils]]) rfl rfl rfl (Zda (v:=.bool x7) (move_can_c p0 p1 p2 p3 x7 hx7) (⟨Qsa _ (Qka (⟨Qia J1a _,Qfa _ _,Qfa _ _,trivial⟩)),Qia (Jna Qma) _,Qsa _ (Qka (⟨Qia Jta _,Qia (Jna Qma) _,Qia Qya _,Qia Q2a _,Qia Qma _,trivial⟩)),Qsa _ (Qka (⟨Qfa _ _,Qfa _ _,trivial⟩)),trivial⟩) rfl (sq (v_not rfl (RS.nil (T.cond (b:=!x7) rfl (fun hb_9=>?_) (fun hb_9=>?_))))))))))))))))))
   ·replace h:=ite_T h hb_9
    refine T.seq (T.region (sq (Jxa (cs:=[.nils,.nils,.nils,.nils,.nils]) Ty.z31 Ty.p31 rfl (so (Qoa Ty.c31 Ty.i31 rfl (vs:=[.nils,.nils,.nils,.nils,.nils]) rfl rfl rfl rfl (cs':=[.nils,.nils,.nils,.nils,.nils]) rfl rfl (sa (iI 10) rfl (RS.nil (T.rt (Jea (id:=3) (off:=0) (cs:=[.nils,.nils,.nils,.nils,.nils]) (v:=.agg [.nils,.nils,.nils,.nils,.nils]) ?_ ?_ ?_ ?_)))))))))
    · rfl
    · rfl
    · exact fun K h=>(Qna (row:=[.nils,.nils,.nils,.nils,.nils]) (off:=0) Ty.k31 Ty.c31 rfl (cs:=[.nils,.nils,.nils,.nils,.nils]) rfl h)
    refine Qpa (v:=iI 10) rfl (Qra ?_)
    exact Qza (v:=.tup [.agg [sL encI [],sL (encL Qaa) [],sL Qba [],sL Qca [],sL Qaa []],iI 10]) rfl (Joa _ (Qka (⟨Qsa _ (Qka (⟨Qia Jta _,Qia (Jna Qma) _,Qia Qya _,Qia Q2a _,Qia Qma _,trivial⟩)),Qfa _ _,trivial⟩))) ⟨congrArg (fun r:State × Int=>(.tup [.agg [sL encI r.1.At,sL (encL Qaa) r.1.Rings,sL Qba r.1.Memory,sL Qca r.1.Choices,sL Qaa r.1.Out],iI r.2]:AV)) (Option.some.inj h),rfl⟩
   replace h:=ite_F h hb_9
   refine T.skip (T.seq ?_)
   obtain ⟨x9,hx9,h⟩:=bind_some h
   refine T.region (so (Qea rfl rfl (Qna Ty.k31 Ty.c31 rfl (cs:=[sL encI p2.At,sL (encL Qaa) p2.Rings,sL Qba p2.Memory,sL Qca p2.Choices,sL Qaa p2.Out]) rfl (so (Vra (ac:=[.agg [sL encI p2.At,sL (encL Qaa) p2.Rings,sL Qba p2.Memory,sL Qca p2.Choices,sL Qaa p2.Out]]) (as0:=[.agg [sL encI p2.At,sL (encL Qaa) p2.Rings,sL Qba p2.Memory,sL Qca p2.Choices,sL Qaa p2.Out]]) (aw0:=[]) (aw1:=[aR 3 1 encI x9.At,aR 29 1 (encL Qaa) x9.Rings,aR 66 3 Qba x9.Memory,aR 94 2 Qca x9.Choices,aR 46 3 Qaa x9.Out]) (aw2:=[.box [sL Qga p0.Nodes,iI p0.Rings,iI p0.Room],.box [sL encI p2.At,sL (encL Qaa) p2.Rings,sL Qba p2.Memory,sL Qca p2.Choices,sL Qaa p2.Out],.box [iI p3.Node,iI p3.Lane],.box [.nils,.nils,.nils,.nils,.nils],aR 3 1 encI x9.At,aR 29 1 (encL Qaa) x9.Rings,aR 66 3 Qba x9.Memory,aR 94 2 Qca x9.Choices,aR 46 3 Qaa x9.Out]) (v:=.agg [.ref 0,.ref 1,.ref 2,.ref 3,.ref 4]) (v':=.agg [.ref 4,.ref 5,.ref 6,.ref 7,.ref 8]) (n0:=4) (n1:=5) [] rfl rfl rfl rfl (by decide) (Qva) ⟨J8a ⟨rn_s rfl,rn_s rfl,rn_s rfl,rn_s rfl,rn_s rfl,trivial⟩,trivial⟩ (FnX.of_fnO (move_Copy_c p2 x9 hx9)) rfl (rm_agg (cs:=[.ref 4,.ref 5,.ref 6,.ref 7,.ref 8]) (ds:=[.ref 0,.ref 1,.ref 2,.ref 3,.ref 4]) ⟨Zpa (by decide),Zpa (by decide),Zpa (by decide),Zpa (by decide),Zpa (by decide),trivial⟩) ⟨.inr ⟨rfl,rfl⟩,.inr ⟨rfl,rfl⟩,.inr ⟨rfl,rfl⟩,.inr ⟨rfl,rfl⟩,.inl ⟨0,_,by decide,rfl,J9a Jta⟩,.inl ⟨1,_,by decide,rfl,J9a (Jna Qma)⟩,.inl ⟨2,_,by decide,rfl,J9a Qya⟩,.inl ⟨3,_,by decide,rfl,J9a Q2a⟩,.inl ⟨4,_,by decide,rfl,J9a Qma⟩,trivial⟩ (so (Qoa Ty.c31 Ty.i31 rfl (vs:=[.ref 4,.ref 5,.ref 6,.ref 7,.ref 8]) rfl rfl rfl rfl (cs':=[.ref 4,.ref 5,.ref 6,.ref 7,.ref 8]) rfl rfl (RS.nil (T.seq ?_)))))))))
   obtain ⟨x11,hx11,h⟩:=bind_some h
   refine T.region (so (Qea rfl rfl (Qna Ty.k24 Ty.c24 rfl (cs:=[sL Qga p0.Nodes,iI p0.Rings,iI p0.Room]) rfl (sm (sL (encL Qaa) p1) rfl (so (Qea rfl rfl (Qna Ty.k57 Ty.c57 rfl (cs:=[iI p3.Node,iI p3.Lane]) rfl (so (Vra (ac:=[.agg [sL Qga p0.Nodes,iI p0.Rings,iI p0.Room],sL (encL Qaa) p1,.ptr 1 0,.agg [iI p3.Node,iI p3.Lane]]) (as0:=[.agg [sL Qga p0.Nodes,iI p0.Rings,iI p0.Room],sL (encL Qaa) p1,.ptr 0 0,.agg [iI p3.Node,iI p3.Lane]]) (aw0:=[.box [.ref 1,.ref 2,.ref 3,.ref 4,.ref 5],aR 3 1 encI x9.At,aR 29 1 (encL Qaa) x9.Rings,aR 66 3 Qba x9.Memory,aR 94 2 Qca x9.Choices,aR 46 3 Qaa x9.Out]) (aw1:=[.box [.ref 1,.ref 2,.ref 3,.ref 6,.ref 7],aR 3 1 encI x11.1,aR 29 1 (encL Qaa) x11.2.1,aR 66 3 Qba x11.2.2.1,.dead,.dead,aR 94 2 Qca x11.2.2.2.1,aR 46 3 Qaa x11.2.2.2.2]) (aw2:=[.box [sL Qga p0.Nodes,iI p0.Rings,iI p0.Room],.box [.ref 4,.ref 5,.ref 6,.ref 9,.ref 10],.box [iI p3.Node,iI p3.Lane],.box [.nils,.nils,.nils,.nils,.nils],aR 3 1 encI x11.1,aR 29 1 (encL Qaa) x11.2.1,aR 66 3 Qba x11.2.2.1,.dead,.dead,aR 94 2 Qca x11.2.2.2.1,aR 46 3 Qaa x11.2.2.2.2]) (v:=.tup []) (v':=.tup []) (n0:=9) (n1:=8) [1,4,5,6,7,8] rfl rfl rfl rfl (by decide) (Jya (cs:=[.ref 1,.ref 2,.ref 3,.ref 4,.ref 5]) (ds:=[.ref 4,.ref 5,.ref 6,.ref 7,.ref 8]) rfl ⟨Qta rfl,Qta rfl,Qta rfl,Qta rfl,Qta rfl,trivial⟩ (Jma rfl Jta rfl (Jma rfl (Jna Qma) rfl (Jma rfl Qya rfl (Jma rfl Q2a rfl (Jma rfl Qma rfl (Qva))))))) ⟨J8a ⟨rn_s rfl,Qla rfl,Qla rfl,trivial⟩,rn_s rfl,Qua rfl,J8a ⟨Qla rfl,Qla rfl,trivial⟩,trivial⟩ (move_do_x5aa6_c p0 p1 p3 x9.At x9.Rings x9.Memory x9.Choices x9.Out x11 hx11) rfl (rm_tup (cs:=[]) (ds:=[]) trivial) ⟨.inr ⟨rfl,rfl⟩,.inl ⟨0,_,by decide,rfl,V5a (cs:=[.ref 4,.ref 5,.ref 6,.ref 9,.ref 10]) (ds:=[.ref 1,.ref 2,.ref 3,.ref 6,.ref 7]) ⟨Zpa (by decide),Zpa (by decide),Zpa (by decide),Zpa (by decide),Zpa (by decide),trivial⟩⟩,.inr ⟨rfl,rfl⟩,.inr ⟨rfl,rfl⟩,.inl ⟨1,_,by decide,rfl,J9a Jta⟩,.inl ⟨2,_,by decide,rfl,J9a (Jna Qma)⟩,.inl ⟨3,_,by decide,rfl,J9a Qya⟩,.inl ⟨4,_,by decide,rfl,trivial⟩,.inl ⟨5,_,by decide,rfl,trivial⟩,.inl ⟨6,_,by decide,rfl,J9a Q2a⟩,.inl ⟨7,_,by decide,rfl,J9a Qma⟩,trivial⟩ (RS.nil (T.seq (T.region (so (Qea rfl rfl (Qna Ty.k31 Ty.c31 rfl (cs:=[.ref 4,.ref 5,.ref 6,.ref 9,.ref 10]) rfl (so (Qoa Ty.c31 Ty.i31 rfl (vs:=[.ref 4,.ref 5,.ref 6,.ref 9,.ref 10]) rfl rfl rfl rfl (cs':=[.ref 4,.ref 5,.ref 6,.ref 9,.ref 10]) rfl rfl ?_)))))))))))))))))
   refine sa (iI 0) rfl (RS.nil (T.rt (Jea (id:=3) (off:=0) (cs:=[.ref 4,.ref 5,.ref 6,.ref 9,.ref 10]) (v:=.agg [.ref 4,.ref 5,.ref 6,.ref 9,.ref 10]) ?_ ?_ ?_ ?_)))
   · rfl
   · rfl
   · exact fun K h=>(Qna (row:=[.ref 4,.ref 5,.ref 6,.ref 9,.ref 10]) (off:=0) Ty.k31 Ty.c31 rfl (cs:=[.ref 4,.ref 5,.ref 6,.ref 9,.ref 10]) rfl h)
   refine Qpa (v:=iI 0) rfl (Qra ?_)
   exact Qza (v:=.tup [.agg [sL encI x11.1,sL (encL Qaa) x11.2.1,sL Qba x11.2.2.1,sL Qca x11.2.2.2.1,sL Qaa x11.2.2.2.2],iI 0]) rfl (Joa _ (Qka (⟨Qsa _ (Qka (⟨Qia Jta _,Qia (Jna Qma) _,Qia Qya _,Qia Q2a _,Qia Qma _,trivial⟩)),Qfa _ _,trivial⟩))) ⟨congrArg (fun r:State × Int=>(.tup [.agg [sL encI r.1.At,sL (encL Qaa) r.1.Rings,sL Qba r.1.Memory,sL Qca r.1.Choices,sL Qaa r.1.Out],iI r.2]:AV)) (Option.some.inj h),rfl⟩
  rcases Q7a (decide (p3.Node<0)) with hb_2 | hb_2
  ·replace hz:=ite_T hz hb_2
   refine T.drawn mixed (k:=44) rfl (rt0 0 rfl (Qda Ty.f57_0 rfl (off':=0) rfl (ra1 1 (RO.op rfl rfl (Qea rfl rfl (Qha Ty.k3 (c:=iI p3.Node) rfl (rt0 2 rfl (v_lss rfl rfl (rt0 3 rfl (Qwa (v:=.bool (decide (p3.Node<0))) rfl (rt2 4 rfl hb_2 (rt2 5 rfl hb_2 (rt2 6 rfl hb_2 (rt2 7 rfl hb_2 ?_))))))))))))))
   refine rt2 8 rfl hb_2 (rt2 9 rfl hb_2 (rt0 10 rfl (Q9a (v:=.bool true) rfl hb_2 rfl (rt0 11 rfl (Qwa (v:=.bool true) rfl (rt2 12 rfl rfl (rt2 13 rfl rfl (rt2 14 rfl rfl (rt0 15 rfl (Q9a (v:=.bool true) rfl rfl rfl (rt0 16 rfl (Qwa (v:=.bool true) rfl (rt2 17 rfl rfl ?_)))))))))))))
   refine rt2 18 rfl rfl (rt2 19 rfl rfl (rt2 20 rfl rfl (rt3 21 rfl (rt3 22 rfl (rt3 23 rfl (rt3 24 rfl (rt3 25 rfl (rt3 26 rfl (rt3 27 rfl ?_)))))))))
   refine rt3 28 rfl (rt3 29 rfl (rt3 30 rfl (rt3 31 rfl (rt3 32 rfl (rt3 33 rfl (rt3 34 rfl (rt3 35 rfl (rt3 36 rfl (rt3 37 rfl ?_)))))))))
   refine rt3 38 rfl (rt3 39 rfl (rt3 40 rfl (rt3 41 rfl (rt2 42 rfl rfl (rt0 43 rfl (Q9a (v:=.bool true) rfl rfl rfl (RA.done (by decide +kernel) ?_)))))))
   exact T.sub (hK () trivial) ⟨rfl,rfl,rfl,rfl,rfl,(congrArg AV.bool ((congrArg (fun p=>p) (Option.some.inj hz)).symm)).symm,trivial⟩
  replace hz:=ite_F hz hb_2
  rcases Q7a (decide (p3.Node ≥ ((p0.Nodes).length:Int))) with hb_3 | hb_3
  ·replace hz:=ite_T hz hb_3
   refine T.drawn mixed (k:=44) rfl ?_
   let l11:List (Nat × AV):=[(0,.agg [sL Qga p0.Nodes,iI p0.Rings,iI p0.Room]),(1,sL (encL Qaa) p1),(2,.agg [sL encI p2.At,sL (encL Qaa) p2.Rings,sL Qba p2.Memory,sL Qca p2.Choices,sL Qaa p2.Out]),(3,.agg [iI p3.Node,iI p3.Lane]),(4,.ptr 0 0),(6,.ptr 1 0),(7,.ptr 2 0),(8,.ptr 3 0),(9,iI 0),(10,iI x2),(11,.agg [sL Qga p0.Nodes,iI p0.Rings,iI p0.Room]),(12,sL (encL Qaa) p1),(13,.agg [sL encI p2.At,sL (encL Qaa) p2.Rings,sL Qba p2.Memory,sL Qca p2.Choices,sL Qaa p2.Out]),(14,iI x2),(15,iI x2),(16,.bool (x2 != 0))]
   let a11:List Ob:=[.box [sL Qga p0.Nodes,iI p0.Rings,iI p0.Room],.box [sL encI p2.At,sL (encL Qaa) p2.Rings,sL Qba p2.Memory,sL Qca p2.Choices,sL Qaa p2.Out],.box [iI p3.Node,iI p3.Lane],.box [.nils,.nils,.nils,.nils,.nils]]
   refine RA.join 0 #[true,true,true,true,true,true,true,true,true,true,true,true,true,true,true,true,true,true,true,true,true,true,true,true,true,true,true,true,true,true,true,true,true,true,true,true,true,true,true,true,true,true,true,true] (mkA 78 ((19,.ptr 2 0)::(20,iI p3.Node)::(21,.bool (decide (p3.Node<0)))::(22,.bool (decide (p3.Node<0)))::(23,.ptr 2 0)::(24,iI p3.Node)::(25,.ptr 0 0)::(26,sL Qga p0.Nodes)::(27,iI ((p0.Nodes).length:Int))::(28,.bool (decide (p3.Node ≥ ((p0.Nodes).length:Int))))::(29,.bool (decide (p3.Node ≥ ((p0.Nodes).length:Int))))::(30,.bool (decide (p3.Node ≥ ((p0.Nodes).length:Int))))::(31,.tup [])::(32,.tup [])::(33,.tup [])::(34,.bool true)::(35,.bool true)::(36,.tup [])::(37,.tup [])::(38,.tup [])::(39,.tup [])::(40,.tup [])::(41,.tup [])::(42,.tup [])::(43,.tup [])::(44,.tup [])::(45,.tup [])::(46,.tup [])::(47,.tup [])::(48,.tup [])::(49,.tup [])::(50,.tup [])::(51,.tup [])::(52,.tup [])::(53,.tup [])::(54,.tup [])::(55,.tup [])::(56,.tup [])::(57,.tup [])::(58,.tup [])::(59,.tup [])::(60,.tup [])::(61,.tup [])::(62,.bool true)::l11)) a11 ?_ (fun hS10=>?_)
   ·refine RA.done (by decide +kernel) ?_
    exact T.sub (hK () trivial) ⟨rfl,rfl,rfl,rfl,rfl,(congrArg AV.bool ((congrArg (fun p=>p) (Option.some.inj hz)).symm)).symm,trivial⟩
   ·refine rt0 0 rfl (Qda Ty.f57_0 rfl (off':=0) rfl (ra1 1 (RO.op rfl rfl (Qea rfl rfl (Qha Ty.k3 (c:=iI p3.Node) rfl (rt0 2 rfl (v_lss rfl rfl (rt0 3 rfl (Qwa (v:=.bool (decide (p3.Node<0))) rfl (rt1 4 rfl hb_2 (Qda Ty.f57_0 rfl (off':=0) rfl (rt1 6 rfl hb_2 (Qda Ty.f24_0 rfl (off':=0) rfl (ra2 5 7 ?_ ?_))))))))))))))
    ·refine RO.yes rfl rfl rfl rfl hb_2 (Qea rfl rfl (Qha Ty.k3 (c:=iI p3.Node) rfl (ra1 7 (RO.yes rfl rfl rfl rfl hb_2 (Qea rfl rfl (Qha Ty.k22 (c:=sL Qga p0.Nodes) rfl (rt1 8 rfl hb_2 (Q3a Ty.s22 rfl (rt1 9 rfl hb_2 (v_geq rfl rfl (rt0 10 rfl (Q8a (v:=.bool (decide (p3.Node ≥ ((p0.Nodes).length:Int)))) rfl hb_2 rfl (rt0 11 rfl (Qwa (v:=.bool (decide (p3.Node ≥ ((p0.Nodes).length:Int)))) rfl (rt2 12 rfl hb_3 (rt2 13 rfl hb_3 (rt2 14 rfl hb_3 ?_)))))))))))))))))
     refine rt0 15 rfl (Q9a (v:=.bool true) rfl hb_3 rfl (rt0 16 rfl (Qwa (v:=.bool true) rfl (rt2 17 rfl rfl (rt2 18 rfl rfl (rt2 19 rfl rfl (rt2 20 rfl rfl (rt3 21 rfl (rt3 22 rfl (rt3 23 rfl (rt3 24 rfl ?_)))))))))))
     refine rt3 25 rfl (rt3 26 rfl (rt3 27 rfl (rt3 28 rfl (rt3 29 rfl (rt3 30 rfl (rt3 31 rfl (rt3 32 rfl (rt3 33 rfl (rt3 34 rfl ?_)))))))))
     refine rt3 35 rfl (rt3 36 rfl (rt3 37 rfl (rt3 38 rfl (rt3 39 rfl (rt3 40 rfl (rt3 41 rfl (rt2 42 rfl rfl (rt0 43 rfl (Q9a (v:=.bool true) rfl rfl rfl ?_)))))))))
     exact raS hS10 ⟨rfl,rfl,rfl,rfl,rfl,rfl,rfl,rfl,rfl,rfl,rfl,rfl,rfl,rfl,rfl,rfl,rfl,rfl,rfl,rfl,rfl,rfl,rfl,rfl,rfl,rfl,rfl,rfl,rfl,rfl,rfl,rfl,rfl,rfl,rfl,rfl,rfl,rfl,rfl,rfl,rfl,rfl,rfl,rfl,rfl,rfl,rfl,rfl,rfl,rfl,rfl,rfl,rfl,rfl,rfl,rfl,rfl,rfl,rfl,rfl,trivial⟩
    ·refine RO.yes rfl rfl rfl rfl hb_2 (Qea rfl rfl (Qha Ty.k22 (c:=sL Qga p0.Nodes) rfl (rt1 8 rfl hb_2 (Q3a Ty.s22 rfl (ra1 5 (RO.yes rfl rfl rfl rfl hb_2 (Qea rfl rfl (Qha Ty.k3 (c:=iI p3.Node) rfl (rt1 9 rfl hb_2 (v_geq rfl rfl (rt0 10 rfl (Q8a (v:=.bool (decide (p3.Node ≥ ((p0.Nodes).length:Int)))) rfl hb_2 rfl (rt0 11 rfl (Qwa (v:=.bool (decide (p3.Node ≥ ((p0.Nodes).length:Int)))) rfl (rt2 12 rfl hb_3 (rt2 13 rfl hb_3 (rt2 14 rfl hb_3 ?_)))))))))))))))))
     refine rt0 15 rfl (Q9a (v:=.bool true) rfl hb_3 rfl (rt0 16 rfl (Qwa (v:=.bool true) rfl (rt2 17 rfl rfl (rt2 18 rfl rfl (rt2 19 rfl rfl (rt2 20 rfl rfl (rt3 21 rfl (rt3 22 rfl (rt3 23 rfl (rt3 24 rfl ?_)))))))))))
     refine rt3 25 rfl (rt3 26 rfl (rt3 27 rfl (rt3 28 rfl (rt3 29 rfl (rt3 30 rfl (rt3 31 rfl (rt3 32 rfl (rt3 33 rfl (rt3 34 rfl ?_)))))))))
     refine rt3 35 rfl (rt3 36 rfl (rt3 37 rfl (rt3 38 rfl (rt3 39 rfl (rt3 40 rfl (rt3 41 rfl (rt2 42 rfl rfl (rt0 43 rfl (Q9a (v:=.bool true) rfl rfl rfl ?_)))))))))
     exact raS hS10 ⟨rfl,rfl,rfl,rfl,rfl,rfl,rfl,rfl,rfl,rfl,rfl,rfl,rfl,rfl,rfl,rfl,rfl,rfl,rfl,rfl,rfl,rfl,rfl,rfl,rfl,rfl,rfl,rfl,rfl,rfl,rfl,rfl,rfl,rfl,rfl,rfl,rfl,rfl,rfl,rfl,rfl,rfl,rfl,rfl,rfl,rfl,rfl,rfl,rfl,rfl,rfl,rfl,rfl,rfl,rfl,rfl,rfl,rfl,rfl,rfl,trivial⟩
  replace hz:=ite_F hz hb_3
  rcases Q7a (decide (p3.Lane<0)) with hb_4 | hb_4
  ·replace hz:=ite_T hz hb_4
   refine T.drawn mixed (k:=44) rfl ?_
   let l13:List (Nat × AV):=[(0,.agg [sL Qga p0.Nodes,iI p0.Rings,iI p0.Room]),(1,sL (encL Qaa) p1),(2,.agg [sL encI p2.At,sL (encL Qaa) p2.Rings,sL Qba p2.Memory,sL Qca p2.Choices,sL Qaa p2.Out]),(3,.agg [iI p3.Node,iI p3.Lane]),(4,.ptr 0 0),(6,.ptr 1 0),(7,.ptr 2 0),(8,.ptr 3 0),(9,iI 0),(10,iI x2),(11,.agg [sL Qga p0.Nodes,iI p0.Rings,iI p0.Room]),(12,sL (encL Qaa) p1),(13,.agg [sL encI p2.At,sL (encL Qaa) p2.Rings,sL Qba p2.Memory,sL Qca p2.Choices,sL Qaa p2.Out]),(14,iI x2),(15,iI x2),(16,.bool (x2 != 0))]
   let a13:List Ob:=[.box [sL Qga p0.Nodes,iI p0.Rings,iI p0.Room],.box [sL encI p2.At,sL (encL Qaa) p2.Rings,sL Qba p2.Memory,sL Qca p2.Choices,sL Qaa p2.Out],.box [iI p3.Node,iI p3.Lane],.box [.nils,.nils,.nils,.nils,.nils]]
   refine RA.join 31 #[true,true,true,true,true,true,true,true,true,true,true,true,true,false,false,false,false,false,false,false,false,false,false,false,false,false,false,false,false,false,false,false,false,false,false,false,false,false,false,false,false,false,false,false] (mkA 78 ((19,.ptr 2 0)::(20,iI p3.Node)::(21,.bool (decide (p3.Node<0)))::(22,.bool (decide (p3.Node<0)))::(23,.ptr 2 0)::(24,iI p3.Node)::(25,.ptr 0 0)::(26,sL Qga p0.Nodes)::(27,iI ((p0.Nodes).length:Int))::(28,.bool (decide (p3.Node ≥ ((p0.Nodes).length:Int))))::(29,.bool (decide (p3.Node ≥ ((p0.Nodes).length:Int))))::(30,.bool (decide (p3.Node ≥ ((p0.Nodes).length:Int))))::(31,.ptr 2 1)::l13)) a13 ?_ (fun hS12=>?_)
   ·refine ra1 13 (RO.yes rfl rfl rfl rfl hb_3 (Qea rfl rfl (Qha Ty.k3 (c:=iI p3.Lane) rfl (rt1 14 rfl hb_3 (v_lss rfl rfl (rt0 15 rfl (Q8a (v:=.bool (decide (p3.Lane<0))) rfl hb_3 rfl (rt0 16 rfl (Qwa (v:=.bool (decide (p3.Lane<0))) rfl (rt2 17 rfl hb_4 (rt2 18 rfl hb_4 (rt2 19 rfl hb_4 (rt2 20 rfl hb_4 (rt3 21 rfl ?_))))))))))))))
    refine rt3 22 rfl (rt3 23 rfl (rt3 24 rfl (rt3 25 rfl (rt3 26 rfl (rt3 27 rfl (rt3 28 rfl (rt3 29 rfl (rt3 30 rfl (rt3 31 rfl ?_)))))))))
    refine rt3 32 rfl (rt3 33 rfl (rt3 34 rfl (rt3 35 rfl (rt3 36 rfl (rt3 37 rfl (rt3 38 rfl (rt3 39 rfl (rt3 40 rfl (rt3 41 rfl ?_)))))))))
    refine rt2 42 rfl hb_4 (rt0 43 rfl (Q9a (v:=.bool true) rfl hb_4 rfl (RA.done (by decide +kernel) ?_)))
    exact T.sub (hK () trivial) ⟨rfl,rfl,rfl,rfl,rfl,(congrArg AV.bool ((congrArg (fun p=>p) (Option.some.inj hz)).symm)).symm,trivial⟩
   ·refine rt0 0 rfl (Qda Ty.f57_0 rfl (off':=0) rfl (ra1 1 (RO.op rfl rfl (Qea rfl rfl (Qha Ty.k3 (c:=iI p3.Node) rfl (rt0 2 rfl (v_lss rfl rfl (rt0 3 rfl (Qwa (v:=.bool (decide (p3.Node<0))) rfl (rt1 4 rfl hb_2 (Qda Ty.f57_0 rfl (off':=0) rfl (rt1 6 rfl hb_2 (Qda Ty.f24_0 rfl (off':=0) rfl (ra2 5 7 ?_ ?_))))))))))))))
    ·refine RO.yes rfl rfl rfl rfl hb_2 (Qea rfl rfl (Qha Ty.k3 (c:=iI p3.Node) rfl (ra1 7 (RO.yes rfl rfl rfl rfl hb_2 (Qea rfl rfl (Qha Ty.k22 (c:=sL Qga p0.Nodes) rfl (rt1 8 rfl hb_2 (Q3a Ty.s22 rfl (rt1 9 rfl hb_2 (v_geq rfl rfl (rt0 10 rfl (Q8a (v:=.bool (decide (p3.Node ≥ ((p0.Nodes).length:Int)))) rfl hb_2 rfl (rt0 11 rfl (Qwa (v:=.bool (decide (p3.Node ≥ ((p0.Nodes).length:Int)))) rfl (rt1 12 rfl hb_3 (Qda Ty.f57_1 rfl (off':=1) rfl ?_))))))))))))))))
     exact raS hS12 ⟨rfl,rfl,rfl,rfl,rfl,rfl,rfl,rfl,rfl,rfl,rfl,rfl,rfl,rfl,rfl,rfl,rfl,rfl,rfl,rfl,rfl,rfl,rfl,rfl,rfl,rfl,rfl,rfl,rfl,trivial⟩
    ·refine RO.yes rfl rfl rfl rfl hb_2 (Qea rfl rfl (Qha Ty.k22 (c:=sL Qga p0.Nodes) rfl (rt1 8 rfl hb_2 (Q3a Ty.s22 rfl (ra1 5 (RO.yes rfl rfl rfl rfl hb_2 (Qea rfl rfl (Qha Ty.k3 (c:=iI p3.Node) rfl (rt1 9 rfl hb_2 (v_geq rfl rfl (rt0 10 rfl (Q8a (v:=.bool (decide (p3.Node ≥ ((p0.Nodes).length:Int)))) rfl hb_2 rfl (rt0 11 rfl (Qwa (v:=.bool (decide (p3.Node ≥ ((p0.Nodes).length:Int)))) rfl (rt1 12 rfl hb_3 (Qda Ty.f57_1 rfl (off':=1) rfl ?_))))))))))))))))
     exact raS hS12 ⟨rfl,rfl,rfl,rfl,rfl,rfl,rfl,rfl,rfl,rfl,rfl,rfl,rfl,rfl,rfl,rfl,rfl,rfl,rfl,rfl,rfl,rfl,rfl,rfl,rfl,rfl,rfl,rfl,rfl,trivial⟩
  replace hz:=ite_F hz hb_4
  rcases Q7a (decide (p3.Lane > 0)) with hb_5 | hb_5
  ·replace hz:=ite_T hz hb_5
   obtain ⟨x3,hx3,hz⟩:=bind_some hz
   rcases Q7a (x3.Kind != 6) with hb_6 | hb_6
   ·replace hz:=ite_T hz hb_6
    refine T.drawn mixed (k:=44) rfl ?_
    let l16:List (Nat × AV):=[(0,.agg [sL Qga p0.Nodes,iI p0.Rings,iI p0.Room]),(1,sL (encL Qaa) p1),(2,.agg [sL encI p2.At,sL (encL Qaa) p2.Rings,sL Qba p2.Memory,sL Qca p2.Choices,sL Qaa p2.Out]),(3,.agg [iI p3.Node,iI p3.Lane]),(4,.ptr 0 0),(6,.ptr 1 0),(7,.ptr 2 0),(8,.ptr 3 0),(9,iI 0),(10,iI x2),(11,.agg [sL Qga p0.Nodes,iI p0.Rings,iI p0.Room]),(12,sL (encL Qaa) p1),(13,.agg [sL encI p2.At,sL (encL Qaa) p2.Rings,sL Qba p2.Memory,sL Qca p2.Choices,sL Qaa p2.Out]),(14,iI x2),(15,iI x2),(16,.bool (x2 != 0))]
    let a16:List Ob:=[.box [sL Qga p0.Nodes,iI p0.Rings,iI p0.Room],.box [sL encI p2.At,sL (encL Qaa) p2.Rings,sL Qba p2.Memory,sL Qca p2.Choices,sL Qaa p2.Out],.box [iI p3.Node,iI p3.Lane],.box [.nils,.nils,.nils,.nils,.nils]]
    refine RA.join 17 #[true,true,true,true,true,true,true,true,true,true,true,true,true,true,true,true,true,true,true,true,true,true,true,true,true,true,true,false,false,false,false,false,false,false,false,false,false,false,false,false,false,false,false,false] (mkA 78 ((19,.ptr 2 0)::(20,iI p3.Node)::(21,.bool (decide (p3.Node<0)))::(22,.bool (decide (p3.Node<0)))::(23,.ptr 2 0)::(24,iI p3.Node)::(25,.ptr 0 0)::(26,sL Qga p0.Nodes)::(27,iI ((p0.Nodes).length:Int))::(28,.bool (decide (p3.Node ≥ ((p0.Nodes).length:Int))))::(29,.bool (decide (p3.Node ≥ ((p0.Nodes).length:Int))))::(30,.bool (decide (p3.Node ≥ ((p0.Nodes).length:Int))))::(31,.ptr 2 1)::(32,iI p3.Lane)::(33,.bool (decide (p3.Lane<0)))::(34,.bool (decide (p3.Lane<0)))::(35,.bool (decide (p3.Lane<0)))::(36,.ptr 2 1)::(37,iI p3.Lane)::(38,.bool (decide (p3.Lane > 0)))::(39,.bool (decide (p3.Lane > 0)))::(40,.ptr 0 0)::(41,sL Qga p0.Nodes)::(42,.ptr 2 0)::(43,iI p3.Node)::(44,.elt (Qga x3) 0)::(45,.elt (Qga x3) 0)::l16)) a16 ?_ (fun hS14=>?_)
    ·refine ra1 27 (RO.yes rfl rfl rfl rfl hb_5 (Jaa rfl (Qha Ty.k3 (c:=iI x3.Kind) rfl (rt1 28 rfl hb_5 (v_neq rfl rfl (rt1 29 rfl hb_5 (Qwa (v:=.bool (x3.Kind != 6)) rfl (rt2 30 rfl hb_6 (rt2 31 rfl hb_6 (rt2 32 rfl hb_6 (rt2 33 rfl hb_6 (rt2 34 rfl hb_6 (rt2 35 rfl hb_6 ?_)))))))))))))
     refine rt2 36 rfl hb_6 (rt2 37 rfl hb_6 (rt2 38 rfl hb_6 (rt2 39 rfl hb_6 (rt2 40 rfl hb_6 (rt1 41 rfl hb_5 (Q9a (v:=.bool true) rfl hb_6 rfl (rt1 42 rfl hb_4 (Q9a (v:=.bool true) rfl hb_5 rfl (rt0 43 rfl (Q8a (v:=.bool true) rfl hb_4 rfl (RA.done (by decide +kernel) ?_)))))))))))
     exact T.sub (hK () trivial) ⟨rfl,rfl,rfl,rfl,rfl,(congrArg AV.bool ((congrArg (fun p=>p) (Option.some.inj hz)).symm)).symm,trivial⟩
    ·refine RA.join 31 #[true,true,true,true,true,true,true,true,true,true,true,true,true,false,false,false,false,false,false,false,false,false,false,false,false,false,false,false,false,false,false,false,false,false,false,false,false,false,false,false,false,false,false,false] (mkA 78 ((19,.ptr 2 0)::(20,iI p3.Node)::(21,.bool (decide (p3.Node<0)))::(22,.bool (decide (p3.Node<0)))::(23,.ptr 2 0)::(24,iI p3.Node)::(25,.ptr 0 0)::(26,sL Qga p0.Nodes)::(27,iI ((p0.Nodes).length:Int))::(28,.bool (decide (p3.Node ≥ ((p0.Nodes).length:Int))))::(29,.bool (decide (p3.Node ≥ ((p0.Nodes).length:Int))))::(30,.bool (decide (p3.Node ≥ ((p0.Nodes).length:Int))))::(31,.ptr 2 1)::l16)) a16 ?_ (fun hS15=>?_)
     ·refine ra1 13 (RO.yes rfl rfl rfl rfl hb_3 (Qea rfl rfl (Qha Ty.k3 (c:=iI p3.Lane) rfl (rt1 14 rfl hb_3 (v_lss rfl rfl (rt0 15 rfl (Q8a (v:=.bool (decide (p3.Lane<0))) rfl hb_3 rfl (rt0 16 rfl (Qwa (v:=.bool (decide (p3.Lane<0))) rfl (rt1 17 rfl hb_4 (Qda Ty.f57_1 rfl (off':=1) rfl (ra1 18 (RO.yes rfl rfl rfl rfl hb_4 (Qea rfl rfl (Qha Ty.k3 (c:=iI p3.Lane) rfl (rt1 19 rfl hb_4 (v_gtr rfl rfl (rt1 20 rfl hb_4 (Qwa (v:=.bool (decide (p3.Lane > 0))) rfl ?_)))))))))))))))))))
      refine rt1 21 rfl hb_5 (Qda Ty.f24_0 rfl (off':=0) rfl (rt1 23 rfl hb_5 (Qda Ty.f57_0 rfl (off':=0) rfl (ra2 22 24 ?_ ?_))))
      ·refine RO.yes rfl rfl rfl rfl hb_5 (Qea rfl rfl (Qha Ty.k22 (c:=sL Qga p0.Nodes) rfl (ra1 24 (RO.yes rfl rfl rfl rfl hb_5 (Qea rfl rfl (Qha Ty.k3 (c:=iI p3.Node) rfl (rt1 25 rfl hb_5 (Q0a Ty.s22 (fun _=>rfl) rfl rfl hx3 (rt1 26 rfl hb_5 (Jua Ty.f40_0 rfl (off':=0) rfl ?_))))))))))
       exact raS hS14 ⟨rfl,rfl,rfl,rfl,rfl,rfl,rfl,rfl,rfl,rfl,rfl,rfl,rfl,rfl,rfl,rfl,rfl,rfl,rfl,rfl,rfl,rfl,rfl,rfl,rfl,rfl,rfl,rfl,rfl,rfl,rfl,rfl,rfl,rfl,rfl,rfl,rfl,rfl,rfl,rfl,rfl,rfl,rfl,trivial⟩
      ·refine RO.yes rfl rfl rfl rfl hb_5 (Qea rfl rfl (Qha Ty.k3 (c:=iI p3.Node) rfl (ra1 22 (RO.yes rfl rfl rfl rfl hb_5 (Qea rfl rfl (Qha Ty.k22 (c:=sL Qga p0.Nodes) rfl (rt1 25 rfl hb_5 (Q0a Ty.s22 (fun _=>rfl) rfl rfl hx3 (rt1 26 rfl hb_5 (Jua Ty.f40_0 rfl (off':=0) rfl ?_))))))))))
       exact raS hS14 ⟨rfl,rfl,rfl,rfl,rfl,rfl,rfl,rfl,rfl,rfl,rfl,rfl,rfl,rfl,rfl,rfl,rfl,rfl,rfl,rfl,rfl,rfl,rfl,rfl,rfl,rfl,rfl,rfl,rfl,rfl,rfl,rfl,rfl,rfl,rfl,rfl,rfl,rfl,rfl,rfl,rfl,rfl,rfl,trivial⟩
     ·refine rt0 0 rfl (Qda Ty.f57_0 rfl (off':=0) rfl (ra1 1 (RO.op rfl rfl (Qea rfl rfl (Qha Ty.k3 (c:=iI p3.Node) rfl (rt0 2 rfl (v_lss rfl rfl (rt0 3 rfl (Qwa (v:=.bool (decide (p3.Node<0))) rfl (rt1 4 rfl hb_2 (Qda Ty.f57_0 rfl (off':=0) rfl (rt1 6 rfl hb_2 (Qda Ty.f24_0 rfl (off':=0) rfl (ra2 5 7 ?_ ?_))))))))))))))
      ·refine RO.yes rfl rfl rfl rfl hb_2 (Qea rfl rfl (Qha Ty.k3 (c:=iI p3.Node) rfl (ra1 7 (RO.yes rfl rfl rfl rfl hb_2 (Qea rfl rfl (Qha Ty.k22 (c:=sL Qga p0.Nodes) rfl (rt1 8 rfl hb_2 (Q3a Ty.s22 rfl (rt1 9 rfl hb_2 (v_geq rfl rfl (rt0 10 rfl (Q8a (v:=.bool (decide (p3.Node ≥ ((p0.Nodes).length:Int)))) rfl hb_2 rfl (rt0 11 rfl (Qwa (v:=.bool (decide (p3.Node ≥ ((p0.Nodes).length:Int)))) rfl (rt1 12 rfl hb_3 (Qda Ty.f57_1 rfl (off':=1) rfl ?_))))))))))))))))
       exact raS hS15 ⟨rfl,rfl,rfl,rfl,rfl,rfl,rfl,rfl,rfl,rfl,rfl,rfl,rfl,rfl,rfl,rfl,rfl,rfl,rfl,rfl,rfl,rfl,rfl,rfl,rfl,rfl,rfl,rfl,rfl,trivial⟩
      ·refine RO.yes rfl rfl rfl rfl hb_2 (Qea rfl rfl (Qha Ty.k22 (c:=sL Qga p0.Nodes) rfl (rt1 8 rfl hb_2 (Q3a Ty.s22 rfl (ra1 5 (RO.yes rfl rfl rfl rfl hb_2 (Qea rfl rfl (Qha Ty.k3 (c:=iI p3.Node) rfl (rt1 9 rfl hb_2 (v_geq rfl rfl (rt0 10 rfl (Q8a (v:=.bool (decide (p3.Node ≥ ((p0.Nodes).length:Int)))) rfl hb_2 rfl (rt0 11 rfl (Qwa (v:=.bool (decide (p3.Node ≥ ((p0.Nodes).length:Int)))) rfl (rt1 12 rfl hb_3 (Qda Ty.f57_1 rfl (off':=1) rfl ?_))))))))))))))))
       exact raS hS15 ⟨rfl,rfl,rfl,rfl,rfl,rfl,rfl,rfl,rfl,rfl,rfl,rfl,rfl,rfl,rfl,rfl,rfl,rfl,rfl,rfl,rfl,rfl,rfl,rfl,rfl,rfl,rfl,rfl,rfl,trivial⟩
   replace hz:=ite_F hz hb_6
   obtain ⟨x4,hx4,hz⟩:=bind_some hz
   refine T.drawn mixed (k:=44) rfl ?_
   let l24:List (Nat × AV):=[(0,.agg [sL Qga p0.Nodes,iI p0.Rings,iI p0.Room]),(1,sL (encL Qaa) p1),(2,.agg [sL encI p2.At,sL (encL Qaa) p2.Rings,sL Qba p2.Memory,sL Qca p2.Choices,sL Qaa p2.Out]),(3,.agg [iI p3.Node,iI p3.Lane]),(4,.ptr 0 0),(6,.ptr 1 0),(7,.ptr 2 0),(8,.ptr 3 0),(9,iI 0),(10,iI x2),(11,.agg [sL Qga p0.Nodes,iI p0.Rings,iI p0.Room]),(12,sL (encL Qaa) p1),(13,.agg [sL encI p2.At,sL (encL Qaa) p2.Rings,sL Qba p2.Memory,sL Qca p2.Choices,sL Qaa p2.Out]),(14,iI x2),(15,iI x2),(16,.bool (x2 != 0))]
   let a24:List Ob:=[.box [sL Qga p0.Nodes,iI p0.Rings,iI p0.Room],.box [sL encI p2.At,sL (encL Qaa) p2.Rings,sL Qba p2.Memory,sL Qca p2.Choices,sL Qaa p2.Out],.box [iI p3.Node,iI p3.Lane],.box [.nils,.nils,.nils,.nils,.nils]]
   refine RA.join 0 #[true,true,true,true,true,true,true,true,true,true,true,true,true,true,true,true,true,true,true,true,true,true,true,true,true,true,true,true,true,true,true,true,true,true,true,true,true,true,true,true,true,true,true,true] (mkA 78 ((19,.ptr 2 0)::(20,iI p3.Node)::(21,.bool (decide (p3.Node<0)))::(22,.bool (decide (p3.Node<0)))::(23,.ptr 2 0)::(24,iI p3.Node)::(25,.ptr 0 0)::(26,sL Qga p0.Nodes)::(27,iI ((p0.Nodes).length:Int))::(28,.bool (decide (p3.Node ≥ ((p0.Nodes).length:Int))))::(29,.bool (decide (p3.Node ≥ ((p0.Nodes).length:Int))))::(30,.bool (decide (p3.Node ≥ ((p0.Nodes).length:Int))))::(31,.ptr 2 1)::(32,iI p3.Lane)::(33,.bool (decide (p3.Lane<0)))::(34,.bool (decide (p3.Lane<0)))::(35,.bool (decide (p3.Lane<0)))::(36,.ptr 2 1)::(37,iI p3.Lane)::(38,.bool (decide (p3.Lane > 0)))::(39,.bool (decide (p3.Lane > 0)))::(40,.ptr 0 0)::(41,sL Qga p0.Nodes)::(42,.ptr 2 0)::(43,iI p3.Node)::(44,.elt (Qga x3) 0)::(45,.elt (Qga x3) 0)::(46,iI x3.Kind)::(47,.bool (x3.Kind != 6))::(48,.bool (x3.Kind != 6))::(49,.ptr 2 1)::(50,iI p3.Lane)::(51,.ptr 0 0)::(52,sL Qga p0.Nodes)::(53,.ptr 2 0)::(54,iI p3.Node)::(55,.elt (Qga x4) 0)::(56,.elt (Qga x4) 2)::(57,sL encI x4.In)::(58,iI ((x4.In).length:Int))::(59,.bool (decide (p3.Lane ≥ ((x4.In).length:Int))))::(60,.bool (decide (p3.Lane ≥ ((x4.In).length:Int))))::(61,.bool (decide (p3.Lane ≥ ((x4.In).length:Int))))::(62,.bool (decide (p3.Lane ≥ ((x4.In).length:Int))))::l24)) a24 ?_ (fun hS17=>?_)
   ·refine RA.done (by decide +kernel) ?_
    exact T.sub (hK () trivial) ⟨rfl,rfl,rfl,rfl,rfl,(congrArg AV.bool ((congrArg (fun p=>p) (Option.some.inj hz)).symm)).symm,trivial⟩
   ·refine RA.join 6 #[true,true,true,true,true,true,true,true,true,true,true,true,true,true,true,true,true,true,true,true,true,true,true,true,true,true,true,true,true,true,true,true,true,true,true,true,true,true,false,false,false,false,false,false] (mkA 78 ((19,.ptr 2 0)::(20,iI p3.Node)::(21,.bool (decide (p3.Node<0)))::(22,.bool (decide (p3.Node<0)))::(23,.ptr 2 0)::(24,iI p3.Node)::(25,.ptr 0 0)::(26,sL Qga p0.Nodes)::(27,iI ((p0.Nodes).length:Int))::(28,.bool (decide (p3.Node ≥ ((p0.Nodes).length:Int))))::(29,.bool (decide (p3.Node ≥ ((p0.Nodes).length:Int))))::(30,.bool (decide (p3.Node ≥ ((p0.Nodes).length:Int))))::(31,.ptr 2 1)::(32,iI p3.Lane)::(33,.bool (decide (p3.Lane<0)))::(34,.bool (decide (p3.Lane<0)))::(35,.bool (decide (p3.Lane<0)))::(36,.ptr 2 1)::(37,iI p3.Lane)::(38,.bool (decide (p3.Lane > 0)))::(39,.bool (decide (p3.Lane > 0)))::(40,.ptr 0 0)::(41,sL Qga p0.Nodes)::(42,.ptr 2 0)::(43,iI p3.Node)::(44,.elt (Qga x3) 0)::(45,.elt (Qga x3) 0)::(46,iI x3.Kind)::(47,.bool (x3.Kind != 6))::(48,.bool (x3.Kind != 6))::(49,.ptr 2 1)::(50,iI p3.Lane)::(51,.ptr 0 0)::(52,sL Qga p0.Nodes)::(53,.ptr 2 0)::(54,iI p3.Node)::(55,.elt (Qga x4) 0)::(56,.elt (Qga x4) 2)::l24)) a24 ?_ (fun hS18=>?_)
    ·refine ra1 38 (RO.yes rfl rfl rfl rfl hb_6 (Jaa rfl (Qha Ty.k26 (c:=sL encI x4.In) rfl (rt1 39 rfl hb_6 (Q3a Ty.s26 rfl (rt1 40 rfl hb_6 (v_geq rfl rfl (rt1 41 rfl hb_5 (Q8a (v:=.bool (decide (p3.Lane ≥ ((x4.In).length:Int)))) rfl hb_6 rfl (rt1 42 rfl hb_4 (Q9a (v:=.bool (decide (p3.Lane ≥ ((x4.In).length:Int)))) rfl hb_5 rfl (rt0 43 rfl (Q8a (v:=.bool (decide (p3.Lane ≥ ((x4.In).length:Int)))) rfl hb_4 rfl ?_)))))))))))))
     exact raS hS17 ⟨rfl,rfl,rfl,rfl,rfl,rfl,rfl,rfl,rfl,rfl,rfl,rfl,rfl,rfl,rfl,rfl,rfl,rfl,rfl,rfl,rfl,rfl,rfl,rfl,rfl,rfl,rfl,rfl,rfl,rfl,rfl,rfl,rfl,rfl,rfl,rfl,rfl,rfl,rfl,rfl,rfl,rfl,rfl,rfl,rfl,rfl,rfl,rfl,rfl,rfl,rfl,rfl,rfl,rfl,rfl,rfl,rfl,rfl,rfl,rfl,trivial⟩
    ·refine RA.join 7 #[true,true,true,true,true,true,true,true,true,true,true,true,true,true,true,true,true,true,true,true,true,true,true,true,true,true,true,true,true,true,true,false,true,true,true,true,true,true,false,false,false,false,false,false] (mkA 78 ((19,.ptr 2 0)::(20,iI p3.Node)::(21,.bool (decide (p3.Node<0)))::(22,.bool (decide (p3.Node<0)))::(23,.ptr 2 0)::(24,iI p3.Node)::(25,.ptr 0 0)::(26,sL Qga p0.Nodes)::(27,iI ((p0.Nodes).length:Int))::(28,.bool (decide (p3.Node ≥ ((p0.Nodes).length:Int))))::(29,.bool (decide (p3.Node ≥ ((p0.Nodes).length:Int))))::(30,.bool (decide (p3.Node ≥ ((p0.Nodes).length:Int))))::(31,.ptr 2 1)::(32,iI p3.Lane)::(33,.bool (decide (p3.Lane<0)))::(34,.bool (decide (p3.Lane<0)))::(35,.bool (decide (p3.Lane<0)))::(36,.ptr 2 1)::(37,iI p3.Lane)::(38,.bool (decide (p3.Lane > 0)))::(39,.bool (decide (p3.Lane > 0)))::(40,.ptr 0 0)::(41,sL Qga p0.Nodes)::(42,.ptr 2 0)::(43,iI p3.Node)::(44,.elt (Qga x3) 0)::(45,.elt (Qga x3) 0)::(46,iI x3.Kind)::(47,.bool (x3.Kind != 6))::(48,.bool (x3.Kind != 6))::(49,.ptr 2 1)::(51,.ptr 0 0)::(52,sL Qga p0.Nodes)::(53,.ptr 2 0)::(54,iI p3.Node)::(55,.elt (Qga x4) 0)::(56,.elt (Qga x4) 2)::l24)) a24 ?_ (fun hS19=>?_)
     ·refine ra2 31 38 ?_ ?_
      ·refine RO.yes rfl rfl rfl rfl hb_6 (Qea rfl rfl (Qha Ty.k3 (c:=iI p3.Lane) rfl ?_))
       exact raS hS18 ⟨rfl,rfl,rfl,rfl,rfl,rfl,rfl,rfl,rfl,rfl,rfl,rfl,rfl,rfl,rfl,rfl,rfl,rfl,rfl,rfl,rfl,rfl,rfl,rfl,rfl,rfl,rfl,rfl,rfl,rfl,rfl,rfl,rfl,rfl,rfl,rfl,rfl,rfl,rfl,rfl,rfl,rfl,rfl,rfl,rfl,rfl,rfl,rfl,rfl,rfl,rfl,rfl,rfl,rfl,trivial⟩
      ·refine RO.yes rfl rfl rfl rfl hb_6 (Jaa rfl (Qha Ty.k26 (c:=sL encI x4.In) rfl (rt1 39 rfl hb_6 (Q3a Ty.s26 rfl (ra1 31 (RO.yes rfl rfl rfl rfl hb_6 (Qea rfl rfl (Qha Ty.k3 (c:=iI p3.Lane) rfl (rt1 40 rfl hb_6 (v_geq rfl rfl (rt1 41 rfl hb_5 (Q8a (v:=.bool (decide (p3.Lane ≥ ((x4.In).length:Int)))) rfl hb_6 rfl (rt1 42 rfl hb_4 (Q9a (v:=.bool (decide (p3.Lane ≥ ((x4.In).length:Int)))) rfl hb_5 rfl (rt0 43 rfl (Q8a (v:=.bool (decide (p3.Lane ≥ ((x4.In).length:Int)))) rfl hb_4 rfl ?_))))))))))))))))
       exact raS hS17 ⟨rfl,rfl,rfl,rfl,rfl,rfl,rfl,rfl,rfl,rfl,rfl,rfl,rfl,rfl,rfl,rfl,rfl,rfl,rfl,rfl,rfl,rfl,rfl,rfl,rfl,rfl,rfl,rfl,rfl,rfl,rfl,rfl,rfl,rfl,rfl,rfl,rfl,rfl,rfl,rfl,rfl,rfl,rfl,rfl,rfl,rfl,rfl,rfl,rfl,rfl,rfl,rfl,rfl,rfl,rfl,rfl,rfl,rfl,rfl,rfl,trivial⟩
     ·refine RA.join 9 #[true,true,true,true,true,true,true,true,true,true,true,true,true,true,true,true,true,true,true,true,true,true,true,true,true,true,true,true,true,true,true,true,true,false,true,true,false,false,false,false,false,false,false,false] (mkA 78 ((19,.ptr 2 0)::(20,iI p3.Node)::(21,.bool (decide (p3.Node<0)))::(22,.bool (decide (p3.Node<0)))::(23,.ptr 2 0)::(24,iI p3.Node)::(25,.ptr 0 0)::(26,sL Qga p0.Nodes)::(27,iI ((p0.Nodes).length:Int))::(28,.bool (decide (p3.Node ≥ ((p0.Nodes).length:Int))))::(29,.bool (decide (p3.Node ≥ ((p0.Nodes).length:Int))))::(30,.bool (decide (p3.Node ≥ ((p0.Nodes).length:Int))))::(31,.ptr 2 1)::(32,iI p3.Lane)::(33,.bool (decide (p3.Lane<0)))::(34,.bool (decide (p3.Lane<0)))::(35,.bool (decide (p3.Lane<0)))::(36,.ptr 2 1)::(37,iI p3.Lane)::(38,.bool (decide (p3.Lane > 0)))::(39,.bool (decide (p3.Lane > 0)))::(40,.ptr 0 0)::(41,sL Qga p0.Nodes)::(42,.ptr 2 0)::(43,iI p3.Node)::(44,.elt (Qga x3) 0)::(45,.elt (Qga x3) 0)::(46,iI x3.Kind)::(47,.bool (x3.Kind != 6))::(48,.bool (x3.Kind != 6))::(49,.ptr 2 1)::(50,iI p3.Lane)::(51,.ptr 0 0)::(53,.ptr 2 0)::(54,iI p3.Node)::l24)) a24 ?_ (fun hS20=>?_)
      ·refine ra1 33 (RO.yes rfl rfl rfl rfl hb_6 (Qea rfl rfl (Qha Ty.k22 (c:=sL Qga p0.Nodes) rfl (rt1 36 rfl hb_6 (Q0a Ty.s22 (fun _=>rfl) rfl rfl hx4 (rt1 37 rfl hb_6 (Jua Ty.f40_2 rfl (off':=2) rfl ?_)))))))
       exact raS hS18 ⟨rfl,rfl,rfl,rfl,rfl,rfl,rfl,rfl,rfl,rfl,rfl,rfl,rfl,rfl,rfl,rfl,rfl,rfl,rfl,rfl,rfl,rfl,rfl,rfl,rfl,rfl,rfl,rfl,rfl,rfl,rfl,rfl,rfl,rfl,rfl,rfl,rfl,rfl,rfl,rfl,rfl,rfl,rfl,rfl,rfl,rfl,rfl,rfl,rfl,rfl,rfl,rfl,rfl,rfl,trivial⟩
      ·refine RA.join 9 #[true,true,true,true,true,true,true,true,true,true,true,true,true,true,true,true,true,true,true,true,true,true,true,true,true,true,true,true,true,true,true,true,true,true,true,false,false,false,false,false,false,false,false,false] (mkA 78 ((19,.ptr 2 0)::(20,iI p3.Node)::(21,.bool (decide (p3.Node<0)))::(22,.bool (decide (p3.Node<0)))::(23,.ptr 2 0)::(24,iI p3.Node)::(25,.ptr 0 0)::(26,sL Qga p0.Nodes)::(27,iI ((p0.Nodes).length:Int))::(28,.bool (decide (p3.Node ≥ ((p0.Nodes).length:Int))))::(29,.bool (decide (p3.Node ≥ ((p0.Nodes).length:Int))))::(30,.bool (decide (p3.Node ≥ ((p0.Nodes).length:Int))))::(31,.ptr 2 1)::(32,iI p3.Lane)::(33,.bool (decide (p3.Lane<0)))::(34,.bool (decide (p3.Lane<0)))::(35,.bool (decide (p3.Lane<0)))::(36,.ptr 2 1)::(37,iI p3.Lane)::(38,.bool (decide (p3.Lane > 0)))::(39,.bool (decide (p3.Lane > 0)))::(40,.ptr 0 0)::(41,sL Qga p0.Nodes)::(42,.ptr 2 0)::(43,iI p3.Node)::(44,.elt (Qga x3) 0)::(45,.elt (Qga x3) 0)::(46,iI x3.Kind)::(47,.bool (x3.Kind != 6))::(48,.bool (x3.Kind != 6))::(49,.ptr 2 1)::(50,iI p3.Lane)::(51,.ptr 0 0)::(52,sL Qga p0.Nodes)::(53,.ptr 2 0)::l24)) a24 ?_ (fun hS21=>?_)
       ·refine ra1 35 (RO.yes rfl rfl rfl rfl hb_6 (Qea rfl rfl (Qha Ty.k3 (c:=iI p3.Node) rfl (rt1 36 rfl hb_6 (Q0a Ty.s22 (fun _=>rfl) rfl rfl hx4 (rt1 37 rfl hb_6 (Jua Ty.f40_2 rfl (off':=2) rfl ?_)))))))
        exact raS hS18 ⟨rfl,rfl,rfl,rfl,rfl,rfl,rfl,rfl,rfl,rfl,rfl,rfl,rfl,rfl,rfl,rfl,rfl,rfl,rfl,rfl,rfl,rfl,rfl,rfl,rfl,rfl,rfl,rfl,rfl,rfl,rfl,rfl,rfl,rfl,rfl,rfl,rfl,rfl,rfl,rfl,rfl,rfl,rfl,rfl,rfl,rfl,rfl,rfl,rfl,rfl,rfl,rfl,rfl,rfl,trivial⟩
       ·refine RA.join 17 #[true,true,true,true,true,true,true,true,true,true,true,true,true,true,true,true,true,true,true,true,true,true,true,true,true,true,true,false,false,false,false,false,false,false,false,false,false,false,false,false,false,false,false,false] (mkA 78 ((19,.ptr 2 0)::(20,iI p3.Node)::(21,.bool (decide (p3.Node<0)))::(22,.bool (decide (p3.Node<0)))::(23,.ptr 2 0)::(24,iI p3.Node)::(25,.ptr 0 0)::(26,sL Qga p0.Nodes)::(27,iI ((p0.Nodes).length:Int))::(28,.bool (decide (p3.Node ≥ ((p0.Nodes).length:Int))))::(29,.bool (decide (p3.Node ≥ ((p0.Nodes).length:Int))))::(30,.bool (decide (p3.Node ≥ ((p0.Nodes).length:Int))))::(31,.ptr 2 1)::(32,iI p3.Lane)::(33,.bool (decide (p3.Lane<0)))::(34,.bool (decide (p3.Lane<0)))::(35,.bool (decide (p3.Lane<0)))::(36,.ptr 2 1)::(37,iI p3.Lane)::(38,.bool (decide (p3.Lane > 0)))::(39,.bool (decide (p3.Lane > 0)))::(40,.ptr 0 0)::(41,sL Qga p0.Nodes)::(42,.ptr 2 0)::(43,iI p3.Node)::(44,.elt (Qga x3) 0)::(45,.elt (Qga x3) 0)::l24)) a24 ?_ (fun hS22=>?_)
        ·refine ra1 27 (RO.yes rfl rfl rfl rfl hb_5 (Jaa rfl (Qha Ty.k3 (c:=iI x3.Kind) rfl (rt1 28 rfl hb_5 (v_neq rfl rfl (rt1 29 rfl hb_5 (Qwa (v:=.bool (x3.Kind != 6)) rfl (rt1 30 rfl hb_6 (Qda Ty.f57_1 rfl (off':=1) rfl (rt1 32 rfl hb_6 (Qda Ty.f24_0 rfl (off':=0) rfl (rt1 34 rfl hb_6 (Qda Ty.f57_0 rfl (off':=0) rfl (ra3 31 33 35 ?_ ?_ ?_))))))))))))))
         ·refine RO.yes rfl rfl rfl rfl hb_6 (Qea rfl rfl (Qha Ty.k3 (c:=iI p3.Lane) rfl (ra2 33 35 ?_ ?_)))
          ·refine RO.yes rfl rfl rfl rfl hb_6 (Qea rfl rfl (Qha Ty.k22 (c:=sL Qga p0.Nodes) rfl ?_))
           exact raS hS21 ⟨rfl,rfl,rfl,rfl,rfl,rfl,rfl,rfl,rfl,rfl,rfl,rfl,rfl,rfl,rfl,rfl,rfl,rfl,rfl,rfl,rfl,rfl,rfl,rfl,rfl,rfl,rfl,rfl,rfl,rfl,rfl,rfl,rfl,rfl,rfl,rfl,rfl,rfl,rfl,rfl,rfl,rfl,rfl,rfl,rfl,rfl,rfl,rfl,rfl,rfl,rfl,trivial⟩
          ·refine RO.yes rfl rfl rfl rfl hb_6 (Qea rfl rfl (Qha Ty.k3 (c:=iI p3.Node) rfl ?_))
           exact raS hS20 ⟨rfl,rfl,rfl,rfl,rfl,rfl,rfl,rfl,rfl,rfl,rfl,rfl,rfl,rfl,rfl,rfl,rfl,rfl,rfl,rfl,rfl,rfl,rfl,rfl,rfl,rfl,rfl,rfl,rfl,rfl,rfl,rfl,rfl,rfl,rfl,rfl,rfl,rfl,rfl,rfl,rfl,rfl,rfl,rfl,rfl,rfl,rfl,rfl,rfl,rfl,rfl,trivial⟩
         ·refine RO.yes rfl rfl rfl rfl hb_6 (Qea rfl rfl (Qha Ty.k22 (c:=sL Qga p0.Nodes) rfl (ra2 31 35 ?_ ?_)))
          ·refine RO.yes rfl rfl rfl rfl hb_6 (Qea rfl rfl (Qha Ty.k3 (c:=iI p3.Lane) rfl ?_))
           exact raS hS21 ⟨rfl,rfl,rfl,rfl,rfl,rfl,rfl,rfl,rfl,rfl,rfl,rfl,rfl,rfl,rfl,rfl,rfl,rfl,rfl,rfl,rfl,rfl,rfl,rfl,rfl,rfl,rfl,rfl,rfl,rfl,rfl,rfl,rfl,rfl,rfl,rfl,rfl,rfl,rfl,rfl,rfl,rfl,rfl,rfl,rfl,rfl,rfl,rfl,rfl,rfl,rfl,trivial⟩
          ·refine RO.yes rfl rfl rfl rfl hb_6 (Qea rfl rfl (Qha Ty.k3 (c:=iI p3.Node) rfl (rt1 36 rfl hb_6 (Q0a Ty.s22 (fun _=>rfl) rfl rfl hx4 (rt1 37 rfl hb_6 (Jua Ty.f40_2 rfl (off':=2) rfl ?_))))))
           exact raS hS19 ⟨rfl,rfl,rfl,rfl,rfl,rfl,rfl,rfl,rfl,rfl,rfl,rfl,rfl,rfl,rfl,rfl,rfl,rfl,rfl,rfl,rfl,rfl,rfl,rfl,rfl,rfl,rfl,rfl,rfl,rfl,rfl,rfl,rfl,rfl,rfl,rfl,rfl,rfl,rfl,rfl,rfl,rfl,rfl,rfl,rfl,rfl,rfl,rfl,rfl,rfl,rfl,rfl,rfl,trivial⟩
         ·refine RO.yes rfl rfl rfl rfl hb_6 (Qea rfl rfl (Qha Ty.k3 (c:=iI p3.Node) rfl (ra2 31 33 ?_ ?_)))
          ·refine RO.yes rfl rfl rfl rfl hb_6 (Qea rfl rfl (Qha Ty.k3 (c:=iI p3.Lane) rfl ?_))
           exact raS hS20 ⟨rfl,rfl,rfl,rfl,rfl,rfl,rfl,rfl,rfl,rfl,rfl,rfl,rfl,rfl,rfl,rfl,rfl,rfl,rfl,rfl,rfl,rfl,rfl,rfl,rfl,rfl,rfl,rfl,rfl,rfl,rfl,rfl,rfl,rfl,rfl,rfl,rfl,rfl,rfl,rfl,rfl,rfl,rfl,rfl,rfl,rfl,rfl,rfl,rfl,rfl,rfl,trivial⟩
          ·refine RO.yes rfl rfl rfl rfl hb_6 (Qea rfl rfl (Qha Ty.k22 (c:=sL Qga p0.Nodes) rfl (rt1 36 rfl hb_6 (Q0a Ty.s22 (fun _=>rfl) rfl rfl hx4 (rt1 37 rfl hb_6 (Jua Ty.f40_2 rfl (off':=2) rfl ?_))))))
           exact raS hS19 ⟨rfl,rfl,rfl,rfl,rfl,rfl,rfl,rfl,rfl,rfl,rfl,rfl,rfl,rfl,rfl,rfl,rfl,rfl,rfl,rfl,rfl,rfl,rfl,rfl,rfl,rfl,rfl,rfl,rfl,rfl,rfl,rfl,rfl,rfl,rfl,rfl,rfl,rfl,rfl,rfl,rfl,rfl,rfl,rfl,rfl,rfl,rfl,rfl,rfl,rfl,rfl,rfl,rfl,trivial⟩
        ·refine RA.join 31 #[true,true,true,true,true,true,true,true,true,true,true,true,true,false,false,false,false,false,false,false,false,false,false,false,false,false,false,false,false,false,false,false,false,false,false,false,false,false,false,false,false,false,false,false] (mkA 78 ((19,.ptr 2 0)::(20,iI p3.Node)::(21,.bool (decide (p3.Node<0)))::(22,.bool (decide (p3.Node<0)))::(23,.ptr 2 0)::(24,iI p3.Node)::(25,.ptr 0 0)::(26,sL Qga p0.Nodes)::(27,iI ((p0.Nodes).length:Int))::(28,.bool (decide (p3.Node ≥ ((p0.Nodes).length:Int))))::(29,.bool (decide (p3.Node ≥ ((p0.Nodes).length:Int))))::(30,.bool (decide (p3.Node ≥ ((p0.Nodes).length:Int))))::(31,.ptr 2 1)::l24)) a24 ?_ (fun hS23=>?_)
         ·refine ra1 13 (RO.yes rfl rfl rfl rfl hb_3 (Qea rfl rfl (Qha Ty.k3 (c:=iI p3.Lane) rfl (rt1 14 rfl hb_3 (v_lss rfl rfl (rt0 15 rfl (Q8a (v:=.bool (decide (p3.Lane<0))) rfl hb_3 rfl (rt0 16 rfl (Qwa (v:=.bool (decide (p3.Lane<0))) rfl (rt1 17 rfl hb_4 (Qda Ty.f57_1 rfl (off':=1) rfl (ra1 18 (RO.yes rfl rfl rfl rfl hb_4 (Qea rfl rfl (Qha Ty.k3 (c:=iI p3.Lane) rfl (rt1 19 rfl hb_4 (v_gtr rfl rfl (rt1 20 rfl hb_4 (Qwa (v:=.bool (decide (p3.Lane > 0))) rfl ?_)))))))))))))))))))
          refine rt1 21 rfl hb_5 (Qda Ty.f24_0 rfl (off':=0) rfl (rt1 23 rfl hb_5 (Qda Ty.f57_0 rfl (off':=0) rfl (ra2 22 24 ?_ ?_))))
          ·refine RO.yes rfl rfl rfl rfl hb_5 (Qea rfl rfl (Qha Ty.k22 (c:=sL Qga p0.Nodes) rfl (ra1 24 (RO.yes rfl rfl rfl rfl hb_5 (Qea rfl rfl (Qha Ty.k3 (c:=iI p3.Node) rfl (rt1 25 rfl hb_5 (Q0a Ty.s22 (fun _=>rfl) rfl rfl hx3 (rt1 26 rfl hb_5 (Jua Ty.f40_0 rfl (off':=0) rfl ?_))))))))))
           exact raS hS22 ⟨rfl,rfl,rfl,rfl,rfl,rfl,rfl,rfl,rfl,rfl,rfl,rfl,rfl,rfl,rfl,rfl,rfl,rfl,rfl,rfl,rfl,rfl,rfl,rfl,rfl,rfl,rfl,rfl,rfl,rfl,rfl,rfl,rfl,rfl,rfl,rfl,rfl,rfl,rfl,rfl,rfl,rfl,rfl,trivial⟩
          ·refine RO.yes rfl rfl rfl rfl hb_5 (Qea rfl rfl (Qha Ty.k3 (c:=iI p3.Node) rfl (ra1 22 (RO.yes rfl rfl rfl rfl hb_5 (Qea rfl rfl (Qha Ty.k22 (c:=sL Qga p0.Nodes) rfl (rt1 25 rfl hb_5 (Q0a Ty.s22 (fun _=>rfl) rfl rfl hx3 (rt1 26 rfl hb_5 (Jua Ty.f40_0 rfl (off':=0) rfl ?_))))))))))
           exact raS hS22 ⟨rfl,rfl,rfl,rfl,rfl,rfl,rfl,rfl,rfl,rfl,rfl,rfl,rfl,rfl,rfl,rfl,rfl,rfl,rfl,rfl,rfl,rfl,rfl,rfl,rfl,rfl,rfl,rfl,rfl,rfl,rfl,rfl,rfl,rfl,rfl,rfl,rfl,rfl,rfl,rfl,rfl,rfl,rfl,trivial⟩
         ·refine rt0 0 rfl (Qda Ty.f57_0 rfl (off':=0) rfl (ra1 1 (RO.op rfl rfl (Qea rfl rfl (Qha Ty.k3 (c:=iI p3.Node) rfl (rt0 2 rfl (v_lss rfl rfl (rt0 3 rfl (Qwa (v:=.bool (decide (p3.Node<0))) rfl (rt1 4 rfl hb_2 (Qda Ty.f57_0 rfl (off':=0) rfl (rt1 6 rfl hb_2 (Qda Ty.f24_0 rfl (off':=0) rfl (ra2 5 7 ?_ ?_))))))))))))))
          ·refine RO.yes rfl rfl rfl rfl hb_2 (Qea rfl rfl (Qha Ty.k3 (c:=iI p3.Node) rfl (ra1 7 (RO.yes rfl rfl rfl rfl hb_2 (Qea rfl rfl (Qha Ty.k22 (c:=sL Qga p0.Nodes) rfl (rt1 8 rfl hb_2 (Q3a Ty.s22 rfl (rt1 9 rfl hb_2 (v_geq rfl rfl (rt0 10 rfl (Q8a (v:=.bool (decide (p3.Node ≥ ((p0.Nodes).length:Int)))) rfl hb_2 rfl (rt0 11 rfl (Qwa (v:=.bool (decide (p3.Node ≥ ((p0.Nodes).length:Int)))) rfl (rt1 12 rfl hb_3 (Qda Ty.f57_1 rfl (off':=1) rfl ?_))))))))))))))))
           exact raS hS23 ⟨rfl,rfl,rfl,rfl,rfl,rfl,rfl,rfl,rfl,rfl,rfl,rfl,rfl,rfl,rfl,rfl,rfl,rfl,rfl,rfl,rfl,rfl,rfl,rfl,rfl,rfl,rfl,rfl,rfl,trivial⟩
          ·refine RO.yes rfl rfl rfl rfl hb_2 (Qea rfl rfl (Qha Ty.k22 (c:=sL Qga p0.Nodes) rfl (rt1 8 rfl hb_2 (Q3a Ty.s22 rfl (ra1 5 (RO.yes rfl rfl rfl rfl hb_2 (Qea rfl rfl (Qha Ty.k3 (c:=iI p3.Node) rfl (rt1 9 rfl hb_2 (v_geq rfl rfl (rt0 10 rfl (Q8a (v:=.bool (decide (p3.Node ≥ ((p0.Nodes).length:Int)))) rfl hb_2 rfl (rt0 11 rfl (Qwa (v:=.bool (decide (p3.Node ≥ ((p0.Nodes).length:Int)))) rfl (rt1 12 rfl hb_3 (Qda Ty.f57_1 rfl (off':=1) rfl ?_))))))))))))))))
           exact raS hS23 ⟨rfl,rfl,rfl,rfl,rfl,rfl,rfl,rfl,rfl,rfl,rfl,rfl,rfl,rfl,rfl,rfl,rfl,rfl,rfl,rfl,rfl,rfl,rfl,rfl,rfl,rfl,rfl,rfl,rfl,trivial⟩
  replace hz:=ite_F hz hb_5
  refine T.drawn mixed (k:=44) rfl ?_
  let l26:List (Nat × AV):=[(0,.agg [sL Qga p0.Nodes,iI p0.Rings,iI p0.Room]),(1,sL (encL Qaa) p1),(2,.agg [sL encI p2.At,sL (encL Qaa) p2.Rings,sL Qba p2.Memory,sL Qca p2.Choices,sL Qaa p2.Out]),(3,.agg [iI p3.Node,iI p3.Lane]),(4,.ptr 0 0),(6,.ptr 1 0),(7,.ptr 2 0),(8,.ptr 3 0),(9,iI 0),(10,iI x2),(11,.agg [sL Qga p0.Nodes,iI p0.Rings,iI p0.Room]),(12,sL (encL Qaa) p1),(13,.agg [sL encI p2.At,sL (encL Qaa) p2.Rings,sL Qba p2.Memory,sL Qca p2.Choices,sL Qaa p2.Out]),(14,iI x2),(15,iI x2),(16,.bool (x2 != 0))]
  let a26:List Ob:=[.box [sL Qga p0.Nodes,iI p0.Rings,iI p0.Room],.box [sL encI p2.At,sL (encL Qaa) p2.Rings,sL Qba p2.Memory,sL Qca p2.Choices,sL Qaa p2.Out],.box [iI p3.Node,iI p3.Lane],.box [.nils,.nils,.nils,.nils,.nils]]
  refine RA.join 31 #[true,true,true,true,true,true,true,true,true,true,true,true,true,false,false,false,false,false,false,false,false,false,false,false,false,false,false,false,false,false,false,false,false,false,false,false,false,false,false,false,false,false,false,false] (mkA 78 ((19,.ptr 2 0)::(20,iI p3.Node)::(21,.bool (decide (p3.Node<0)))::(22,.bool (decide (p3.Node<0)))::(23,.ptr 2 0)::(24,iI p3.Node)::(25,.ptr 0 0)::(26,sL Qga p0.Nodes)::(27,iI ((p0.Nodes).length:Int))::(28,.bool (decide (p3.Node ≥ ((p0.Nodes).length:Int))))::(29,.bool (decide (p3.Node ≥ ((p0.Nodes).length:Int))))::(30,.bool (decide (p3.Node ≥ ((p0.Nodes).length:Int))))::(31,.ptr 2 1)::l26)) a26 ?_ (fun hS25=>?_)
  ·refine ra1 13 (RO.yes rfl rfl rfl rfl hb_3 (Qea rfl rfl (Qha Ty.k3 (c:=iI p3.Lane) rfl (rt1 14 rfl hb_3 (v_lss rfl rfl (rt0 15 rfl (Q8a (v:=.bool (decide (p3.Lane<0))) rfl hb_3 rfl (rt0 16 rfl (Qwa (v:=.bool (decide (p3.Lane<0))) rfl (rt1 17 rfl hb_4 (Qda Ty.f57_1 rfl (off':=1) rfl (ra1 18 (RO.yes rfl rfl rfl rfl hb_4 (Qea rfl rfl (Qha Ty.k3 (c:=iI p3.Lane) rfl (rt1 19 rfl hb_4 (v_gtr rfl rfl (rt1 20 rfl hb_4 (Qwa (v:=.bool (decide (p3.Lane > 0))) rfl ?_)))))))))))))))))))
   refine rt2 21 rfl hb_5 (rt2 22 rfl hb_5 (rt2 23 rfl hb_5 (rt2 24 rfl hb_5 (rt2 25 rfl hb_5 (rt2 26 rfl hb_5 (rt2 27 rfl hb_5 (rt2 28 rfl hb_5 (rt2 29 rfl hb_5 (rt3 30 rfl ?_)))))))))
   refine rt3 31 rfl (rt3 32 rfl (rt3 33 rfl (rt3 34 rfl (rt3 35 rfl (rt3 36 rfl (rt3 37 rfl (rt3 38 rfl (rt3 39 rfl (rt3 40 rfl ?_)))))))))
   refine rt2 41 rfl hb_5 (rt1 42 rfl hb_4 (Q8a (v:=.bool false) rfl hb_5 rfl (rt0 43 rfl (Q8a (v:=.bool false) rfl hb_4 rfl (RA.done (by decide +kernel) ?_)))))
   exact T.sub (hK () trivial) ⟨rfl,rfl,rfl,rfl,rfl,(congrArg AV.bool ((congrArg (fun p=>p) (Option.some.inj hz)).symm)).symm,trivial⟩
  ·refine rt0 0 rfl (Qda Ty.f57_0 rfl (off':=0) rfl (ra1 1 (RO.op rfl rfl (Qea rfl rfl (Qha Ty.k3 (c:=iI p3.Node) rfl (rt0 2 rfl (v_lss rfl rfl (rt0 3 rfl (Qwa (v:=.bool (decide (p3.Node<0))) rfl (rt1 4 rfl hb_2 (Qda Ty.f57_0 rfl (off':=0) rfl (rt1 6 rfl hb_2 (Qda Ty.f24_0 rfl (off':=0) rfl (ra2 5 7 ?_ ?_))))))))))))))
   ·refine RO.yes rfl rfl rfl rfl hb_2 (Qea rfl rfl (Qha Ty.k3 (c:=iI p3.Node) rfl (ra1 7 (RO.yes rfl rfl rfl rfl hb_2 (Qea rfl rfl (Qha Ty.k22 (c:=sL Qga p0.Nodes) rfl (rt1 8 rfl hb_2 (Q3a Ty.s22 rfl (rt1 9 rfl hb_2 (v_geq rfl rfl (rt0 10 rfl (Q8a (v:=.bool (decide (p3.Node ≥ ((p0.Nodes).length:Int)))) rfl hb_2 rfl (rt0 11 rfl (Qwa (v:=.bool (decide (p3.Node ≥ ((p0.Nodes).length:Int)))) rfl (rt1 12 rfl hb_3 (Qda Ty.f57_1 rfl (off':=1) rfl ?_))))))))))))))))
    exact raS hS25 ⟨rfl,rfl,rfl,rfl,rfl,rfl,rfl,rfl,rfl,rfl,rfl,rfl,rfl,rfl,rfl,rfl,rfl,rfl,rfl,rfl,rfl,rfl,rfl,rfl,rfl,rfl,rfl,rfl,rfl,trivial⟩
   ·refine RO.yes rfl rfl rfl rfl hb_2 (Qea rfl rfl (Qha Ty.k22 (c:=sL Qga p0.Nodes) rfl (rt1 8 rfl hb_2 (Q3a Ty.s22 rfl (ra1 5 (RO.yes rfl rfl rfl rfl hb_2 (Qea rfl rfl (Qha Ty.k3 (c:=iI p3.Node) rfl (rt1 9 rfl hb_2 (v_geq rfl rfl (rt0 10 rfl (Q8a (v:=.bool (decide (p3.Node ≥ ((p0.Nodes).length:Int)))) rfl hb_2 rfl (rt0 11 rfl (Qwa (v:=.bool (decide (p3.Node ≥ ((p0.Nodes).length:Int)))) rfl (rt1 12 rfl hb_3 (Qda Ty.f57_1 rfl (off':=1) rfl ?_))))))))))))))))
    exact raS hS25 ⟨rfl,rfl,rfl,rfl,rfl,rfl,rfl,rfl,rfl,rfl,rfl,rfl,rfl,rfl,rfl,rfl,rfl,rfl,rfl,rfl,rfl,rfl,rfl,rfl,rfl,rfl,rfl,rfl,rfl,trivial⟩
theorem crosslaw_alike_1_c (p0:Item) (p1:Item) (r:Bool) (h:Y9a p0 p1=some r):Fn Try.prog 71 [.agg [iI p0.Key,iI p0.Val,iI p0.Dep],.agg [iI p1.Key,iI p1.Val,iI p1.Dep]] (.bool r):=by
  unfold Y9a at h
  refine Jpa (N:=0) rfl Try.func71 rfl (by kernel_rfl) Try.ntmps71 rfl ?_
  show T _ _ _ _ (mkA 17 [(0,.agg [iI p0.Key,iI p0.Val,iI p0.Dep]),(1,.agg [iI p1.Key,iI p1.Val,iI p1.Dep])]) []
  refine T.seq (T.region (so (o_box (cs:=[iI p0.Key,iI p0.Val,iI p0.Dep]) rfl rfl rfl (so (o_box (cs:=[iI p1.Key,iI p1.Val,iI p1.Dep]) rfl rfl rfl (sa (.bool false) rfl (RS.nil (T.join (Z:=Unit) (fun _=>mkA 17 [(4,.bool ((p0.Key==p1.Key) && p0.Val==p1.Val))]) (fun _=>[]) (fun _=>True) (fun _ _=>?_) (fun hK=>?_)))))))))
  ·refine T.rt (Qpa (v:=.bool ((p0.Key==p1.Key) && p0.Val==p1.Val)) rfl (Qra ?_))
   exact Qza (v:=.bool ((p0.Key==p1.Key) && p0.Val==p1.Val)) rfl (Jda _) ⟨congrArg (fun r:Bool=>(.bool r:AV)) (Option.some.inj h),rfl⟩
  refine T.region (sq (Qda Ty.f46_0 rfl (off':=0) rfl (so (Qea rfl rfl (Qha Ty.k3 (c:=iI p0.Key) rfl (sq (Qda Ty.f46_0 rfl (off':=0) rfl (so (Qea rfl rfl (Qha Ty.k3 (c:=iI p1.Key) rfl (sq (v_eql rfl rfl (sm (.bool (p0.Key==p1.Key)) rfl ?_)))))))))))))
  rcases Q7a (p0.Key==p1.Key) with hb_1 | hb_1
  ·refine yq hb_1 (Qda Ty.f46_1 rfl (off':=1) rfl (yo hb_1 (Qea rfl rfl (Qha Ty.k3 (c:=iI p0.Val) rfl (yq hb_1 (Qda Ty.f46_1 rfl (off':=1) rfl (yo hb_1 (Qea rfl rfl (Qha Ty.k3 (c:=iI p1.Val) rfl (yq hb_1 (v_eql rfl rfl (sq (Q9a (v:=.bool (p0.Val==p1.Val)) rfl hb_1 rfl (sa (.bool (p0.Val==p1.Val)) rfl (RS.nil ?_)))))))))))))))
   exact T.weakR (hK () trivial) (Weak.mkN [] [] (by decide) (Qqa _) rfl ⟨Jwa (by simp only [hb_1,bz,if_true,if_false,Bool.false_eq_true]),trivial⟩ (Qva))
  refine sn hb_1 (sn hb_1 (sn hb_1 (sn hb_1 (sn hb_1 (sq (Q8a (v:=.bool false) rfl hb_1 rfl (sa (.bool false) rfl (RS.nil ?_))))))))
  exact T.weakR (hK () trivial) (Weak.mkN [] [] (by decide) (Qqa _) rfl ⟨Jwa (by simp only [hb_1,bz,if_true,if_false,Bool.false_eq_true]),trivial⟩ (Qva))
theorem Vea (p0:List Item) (p1:List Item) (r:Bool) (h:Jva p0 p1=some r):Fn Try.prog 70 [sL Qaa p0,sL Qaa p1,.func 71 []] (.bool r):=by
  unfold Jva at h
  refine Jpa (N:=0) rfl Try.func70 rfl (by kernel_rfl) Try.ntmps70 rfl ?_
  show T _ _ _ _ (mkA 32 [(0,sL Qaa p0),(1,sL Qaa p1),(2,.func 71 [])]) []
  refine T.seq (T.region (sa (.bool false) rfl (RS.nil (T.seq (T.seq (T.region (sm (sL Qaa p0) rfl (sq (Q3a Ty.s29 rfl (sm (sL Qaa p1) rfl ?_))))))))))
  refine sq (Q3a Ty.s29 rfl (sq (v_neq rfl rfl (RS.nil (T.cond (b:=((p0).length:Int) != ((p1).length:Int)) rfl (fun hb_1=>?_) (fun hb_1=>?_))))))
  ·replace h:=ite_T h hb_1
   refine T.seq (T.region (sa (.bool false) rfl (RS.nil (T.rt (Qpa (v:=.bool false) rfl (Qra ?_))))))
   exact Qza (v:=.bool false) rfl (Jda _) ⟨congrArg (fun r:Bool=>(.bool r:AV)) (Option.some.inj h),rfl⟩
  replace h:=ite_F h hb_1
  refine T.skip (T.seq (T.seq (T.region (sm (sL Qaa p0) rfl (sq (Q3a Ty.s29 rfl (sm (iI 0) rfl (RS.nil (T.block (T.iter (fun ss_6:Int=>mkA 32 [(1,sL Qaa p1),(2,.func 71 []),(15,sL Qaa p0),(16,iI ((p0).length:Int)),(17,iI ss_6)]) (fun ss_6=>[]) h (Weak.mkN [] [] (by decide) (Qqa _) rfl ⟨rn_s rfl,Z7a trivial,rn_s rfl,Qla rfl,Qla rfl,trivial⟩ (Qva)) (fun ss_6 v_7 h hv_7=>?_)))))))))))
  revert hv_7 h;revert ss_6;intro s1 h hv_7
  replace h:Jla p0 p1 s1=some v_7:=h
  try dsimp only
  unfold Jla at h
  refine T.seq (T.region (sq (v_lss rfl rfl (RS.nil (T.seq (T.cond (b:=decide (s1<((p0).length:Int))) rfl (fun hb_8=>?_) (fun hb_8=>?_)))))))
  ·replace h:=ite_T h hb_8
   refine T.skip (T.seq (T.block (T.seq ?_)))
   obtain ⟨x3,hx3,h⟩:=bind_some h
   refine T.region (sm (iI s1) rfl (sq (Q0a Ty.s29 (fun _=>rfl) rfl rfl hx3 (so (Jaa rfl (Qna Ty.k46 Ty.c46 rfl (cs:=[iI x3.Key,iI x3.Val,iI x3.Dep]) rfl (so (Jja Ty.z46 rfl rfl (sa (iI s1) rfl (so (Qoa Ty.c46 Ty.i46 rfl (vs:=[iI x3.Key,iI x3.Val,iI x3.Dep]) rfl rfl rfl rfl (cs':=[iI x3.Key,iI x3.Val,iI x3.Dep]) rfl rfl (RS.nil (T.seq ?_)))))))))))))
   obtain ⟨x5,hx5,h⟩:=bind_some h
   refine T.region (sm (sL Qaa p1) rfl (sm (iI s1) rfl (sq (Q0a Ty.s29 (fun _=>rfl) rfl rfl hx5 (so (Jaa rfl (Qna Ty.k46 Ty.c46 rfl (cs:=[iI x5.Key,iI x5.Val,iI x5.Dep]) rfl (so (Jja Ty.z46 rfl rfl (so (Qoa Ty.c46 Ty.i46 rfl (vs:=[iI x5.Key,iI x5.Val,iI x5.Dep]) rfl rfl rfl rfl (cs':=[iI x5.Key,iI x5.Val,iI x5.Dep]) rfl rfl (RS.nil (T.seq ?_)))))))))))))
   obtain ⟨x7,hx7,h⟩:=bind_some h
   refine T.region (sm (.func 71 []) rfl (so (Qea rfl rfl (Qna Ty.k46 Ty.c46 rfl (cs:=[iI x3.Key,iI x3.Val,iI x3.Dep]) rfl (so (Qea rfl rfl (Qna Ty.k46 Ty.c46 rfl (cs:=[iI x5.Key,iI x5.Val,iI x5.Dep]) rfl (so (Jfa (as0:=[.agg [iI x3.Key,iI x3.Val,iI x3.Dep],.agg [iI x5.Key,iI x5.Val,iI x5.Dep]]) (as1:=[.agg [iI x3.Key,iI x3.Val,iI x3.Dep],.agg [iI x5.Key,iI x5.Val,iI x5.Dep]]) (caps:=[]) (aw1:=[.box [iI x3.Key,iI x3.Val,iI x3.Dep],.box [iI x5.Key,iI x5.Val,iI x5.Dep]]) rfl rfl rfl (Zda (v:=.bool x7) (crosslaw_alike_1_c x3 x5 x7 hx7) (⟨Qsa _ (Qka (⟨Qfa _ _,Qfa _ _,Qfa _ _,trivial⟩)),Qsa _ (Qka (⟨Qfa _ _,Qfa _ _,Qfa _ _,trivial⟩)),trivial⟩) rfl (sq (v_not rfl (RS.nil (T.cond (b:=!x7) rfl (fun hb_9=>?_) (fun hb_9=>?_)))))))))))))))
   ·replace h:=ite_T h hb_9
    refine T.seq (T.region (sa (.bool false) rfl (RS.nil (T.rt ?_))))
    obtain ⟨w_10,h,hw_10⟩:=Jqa h
    replace h:=h.trans (congrArg some (hv_7 _ hw_10))
    refine Qpa (v:=.bool false) rfl (Qra ?_)
    exact Qza (v:=.bool false) rfl (Jda _) ⟨congrArg (fun r:Bool=>(.bool r:AV)) (Option.some.inj h),rfl⟩
   replace h:=ite_F h hb_9
   refine T.skip (T.region (sq (v_add rfl rfl (sm (iI (IntKind.i64.wrap (s1+1))) rfl (RS.nil ?_)))))
   exact ⟨IntKind.i64.wrap (s1+1),(Option.some.inj h).symm,Weak.mkN [] [] (by decide) (Qqa _) rfl ⟨rn_s rfl,Z7a trivial,rn_s rfl,Qla rfl,Qla rfl,trivial⟩ (Qva)⟩
  replace h:=ite_F h hb_8
  refine T.exit ?_
  obtain ⟨w_11,h,hw_11⟩:=Jqa h
  replace h:=h.trans (congrArg some (hv_7 _ hw_11))
  refine T.seq (T.region (sa (.bool true) rfl (RS.nil (T.rt (Qpa (v:=.bool true) rfl (Qra ?_))))))
  exact Qza (v:=.bool true) rfl (Jda _) ⟨congrArg (fun r:Bool=>(.bool r:AV)) (Option.some.inj h),rfl⟩
theorem crosslaw_alike_c (p0:List Item) (p1:List Item) (r:Bool) (h:Yna p0 p1=some r):Fn Try.prog 31 [sL Qaa p0,sL Qaa p1] (.bool r):=by
  unfold Yna at h
  refine Jpa (N:=0) rfl Try.func31 rfl (by kernel_rfl) Try.ntmps31 rfl ?_
  show T _ _ _ _ (mkA 8 [(0,sL Qaa p0),(1,sL Qaa p1)]) []
  refine T.seq (T.region (sa (.bool false) rfl (RS.nil (T.seq ?_))))
  obtain ⟨x2,hx2,h⟩:=bind_some h
  refine T.region (sm (sL Qaa p0) rfl (sm (sL Qaa p1) rfl (so (Jfa (as0:=[sL Qaa p0,sL Qaa p1,.func 71 []]) (as1:=[sL Qaa p0,sL Qaa p1,.func 71 []]) (caps:=[]) (aw1:=[]) rfl rfl rfl (Zda (v:=.bool x2) (Vea p0 p1 x2 hx2) (⟨Qia Qma _,Qia Qma _,pure_func _ _ (Qka (trivial)),trivial⟩) rfl (sa (.bool x2) rfl (RS.nil (T.rt (Qpa (v:=.bool x2) rfl (Qra ?_))))))))))
  exact Qza (v:=.bool x2) rfl (Jda _) ⟨congrArg (fun r:Bool=>(.bool r:AV)) (Option.some.inj h),rfl⟩
theorem Z4a (p0:List (List Item)) (p1:List (List Item)) (r:Bool) (h:Jka p0 p1=some r):Fn Try.prog 30 [sL (encL Qaa) p0,sL (encL Qaa) p1,.func 31 []] (.bool r):=by
  unfold Jka at h
  refine Jpa (N:=0) rfl Try.func30 rfl (by kernel_rfl) Try.ntmps30 rfl ?_
  show T _ _ _ _ (mkA 32 [(0,sL (encL Qaa) p0),(1,sL (encL Qaa) p1),(2,.func 31 [])]) []
  refine T.seq (T.region (sa (.bool false) rfl (RS.nil (T.seq (T.seq (T.region (sm (sL (encL Qaa) p0) rfl (sq (Q3a Ty.s25 rfl (sm (sL (encL Qaa) p1) rfl ?_))))))))))
  refine sq (Q3a Ty.s25 rfl (sq (v_neq rfl rfl (RS.nil (T.cond (b:=((p0).length:Int) != ((p1).length:Int)) rfl (fun hb_1=>?_) (fun hb_1=>?_))))))
  ·replace h:=ite_T h hb_1
   refine T.seq (T.region (sa (.bool false) rfl (RS.nil (T.rt (Qpa (v:=.bool false) rfl (Qra ?_))))))
   exact Qza (v:=.bool false) rfl (Jda _) ⟨congrArg (fun r:Bool=>(.bool r:AV)) (Option.some.inj h),rfl⟩
  replace h:=ite_F h hb_1
  refine T.skip (T.seq (T.seq (T.region (sm (sL (encL Qaa) p0) rfl (sq (Q3a Ty.s25 rfl (sm (iI 0) rfl (RS.nil (T.block (T.iter (fun ss_6:Int=>mkA 32 [(1,sL (encL Qaa) p1),(2,.func 31 []),(15,sL (encL Qaa) p0),(16,iI ((p0).length:Int)),(17,iI ss_6)]) (fun ss_6=>[]) h (Weak.mkN [] [] (by decide) (Qqa _) rfl ⟨rn_s rfl,Z7a trivial,rn_s rfl,Qla rfl,Qla rfl,trivial⟩ (Qva)) (fun ss_6 v_7 h hv_7=>?_)))))))))))
  revert hv_7 h;revert ss_6;intro s1 h hv_7
  replace h:Jha p0 p1 s1=some v_7:=h
  try dsimp only
  unfold Jha at h
  refine T.seq (T.region (sq (v_lss rfl rfl (RS.nil (T.seq (T.cond (b:=decide (s1<((p0).length:Int))) rfl (fun hb_8=>?_) (fun hb_8=>?_)))))))
  ·replace h:=ite_T h hb_8
   refine T.skip (T.seq (T.block (T.seq ?_)))
   obtain ⟨x3,hx3,h⟩:=bind_some h
   refine T.region (sm (iI s1) rfl (sq (Q0a Ty.s25 (fun _=>rfl) rfl rfl hx3 (so (Jaa rfl (Qha Ty.k29 (c:=sL Qaa x3) rfl (sa (iI s1) rfl (sa (sL Qaa x3) rfl (RS.nil (T.seq ?_))))))))))
   obtain ⟨x5,hx5,h⟩:=bind_some h
   refine T.region (sm (sL (encL Qaa) p1) rfl (sm (iI s1) rfl (sq (Q0a Ty.s25 (fun _=>rfl) rfl rfl hx5 (so (Jaa rfl (Qha Ty.k29 (c:=sL Qaa x5) rfl (sa (sL Qaa x5) rfl (RS.nil (T.seq ?_))))))))))
   obtain ⟨x7,hx7,h⟩:=bind_some h
   refine T.region (sm (.func 31 []) rfl (sm (sL Qaa x3) rfl (sm (sL Qaa x5) rfl (so (Jfa (as0:=[sL Qaa x3,sL Qaa x5]) (as1:=[sL Qaa x3,sL Qaa x5]) (caps:=[]) (aw1:=[]) rfl rfl rfl (Zda (v:=.bool x7) (crosslaw_alike_c x3 x5 x7 hx7) (⟨Qia Qma _,Qia Qma _,trivial⟩) rfl (sq (v_not rfl (RS.nil (T.cond (b:=!x7) rfl (fun hb_9=>?_) (fun hb_9=>?_)))))))))))
   ·replace h:=ite_T h hb_9
    refine T.seq (T.region (sa (.bool false) rfl (RS.nil (T.rt ?_))))
    obtain ⟨w_10,h,hw_10⟩:=Jqa h
    replace h:=h.trans (congrArg some (hv_7 _ hw_10))
    refine Qpa (v:=.bool false) rfl (Qra ?_)
    exact Qza (v:=.bool false) rfl (Jda _) ⟨congrArg (fun r:Bool=>(.bool r:AV)) (Option.some.inj h),rfl⟩
   replace h:=ite_F h hb_9
   refine T.skip (T.region (sq (v_add rfl rfl (sm (iI (IntKind.i64.wrap (s1+1))) rfl (RS.nil ?_)))))
   exact ⟨IntKind.i64.wrap (s1+1),(Option.some.inj h).symm,Weak.mkN [] [] (by decide) (Qqa _) rfl ⟨rn_s rfl,Z7a trivial,rn_s rfl,Qla rfl,Qla rfl,trivial⟩ (Qva)⟩
  replace h:=ite_F h hb_8
  refine T.exit ?_
  obtain ⟨w_11,h,hw_11⟩:=Jqa h
  replace h:=h.trans (congrArg some (hv_7 _ hw_11))
  refine T.seq (T.region (sa (.bool true) rfl (RS.nil (T.rt (Qpa (v:=.bool true) rfl (Qra ?_))))))
  exact Qza (v:=.bool true) rfl (Jda _) ⟨congrArg (fun r:Bool=>(.bool r:AV)) (Option.some.inj h),rfl⟩
theorem crosslaw_MoveEither_1_c (p0:Memory) (p1:Memory) (r:Bool) (h:Vwa p0 p1=some r):Fn Try.prog 33 [.agg [iI p0.Sum,sL Qja p0.Keys,iI p0.Dep],.agg [iI p1.Sum,sL Qja p1.Keys,iI p1.Dep]] (.bool r):=by
  unfold Vwa at h
  refine Jpa (N:=0) rfl Try.func33 rfl (by kernel_rfl) Try.ntmps33 rfl ?_
  show T _ _ _ _ (mkA 17 [(0,.agg [iI p0.Sum,sL Qja p0.Keys,iI p0.Dep]),(1,.agg [iI p1.Sum,sL Qja p1.Keys,iI p1.Dep])]) []
  refine T.seq (T.region (so (o_box (cs:=[iI p0.Sum,sL Qja p0.Keys,iI p0.Dep]) rfl rfl rfl (so (o_box (cs:=[iI p1.Sum,sL Qja p1.Keys,iI p1.Dep]) rfl rfl rfl (sa (.bool false) rfl (RS.nil ?_)))))))
  obtain ⟨zt_2,hz,h⟩:=bind_some h
  revert hz h;revert zt_2;intro c2 hz h
  refine T.join (Z:=Unit) (fun _=>mkA 17 [(4,.bool c2)]) (fun _=>[]) (fun _=>True) (fun _ _=>?_) (fun hK=>?_)
  ·refine T.rt (Qpa (v:=.bool c2) rfl (Qra ?_))
   exact Qza (v:=.bool c2) rfl (Jda _) ⟨congrArg (fun r:Bool=>(.bool r:AV)) (Option.some.inj h),rfl⟩
  refine T.region (sq (Qda Ty.f66_0 rfl (off':=0) rfl (so (Qea rfl rfl (Qha Ty.k3 (c:=iI p0.Sum) rfl (sq (Qda Ty.f66_0 rfl (off':=0) rfl (so (Qea rfl rfl (Qha Ty.k3 (c:=iI p1.Sum) rfl (sq (v_eql rfl rfl (sm (.bool (p0.Sum==p1.Sum)) rfl ?_)))))))))))))
  rcases Q7a (p0.Sum==p1.Sum) with hb_1 | hb_1
  ·replace hz:=ite_T hz hb_1
   obtain ⟨x1,hx1,hz⟩:=bind_some hz
   refine yq hb_1 (Qda Ty.f66_1 rfl (off':=1) rfl (yo hb_1 (Qea rfl rfl (Qha Ty.k64 (c:=sL Qja p0.Keys) rfl (yq hb_1 (Qda Ty.f66_1 rfl (off':=1) rfl (yo hb_1 (Qea rfl rfl (Qha Ty.k64 (c:=sL Qja p1.Keys) rfl (yo hb_1 (Jfa (as0:=[sL Qja p0.Keys,sL Qja p1.Keys]) (as1:=[sL Qja p0.Keys,sL Qja p1.Keys]) (caps:=[]) (aw1:=[.box [iI p0.Sum,sL Qja p0.Keys,iI p0.Dep],.box [iI p1.Sum,sL Qja p1.Keys,iI p1.Dep]]) rfl rfl rfl (Zda (v:=.bool x1) (slices_Equal_Keyed_c p0.Keys p1.Keys x1 hx1) (⟨Qia Jba _,Qia Jba _,trivial⟩) rfl (sq (Q9a (v:=.bool x1) rfl hb_1 rfl (sa (.bool x1) rfl (RS.nil ?_))))))))))))))))
   exact T.weakR (hK () trivial) (Weak.mkN [] [] (by decide) (Qqa _) rfl ⟨Jwa ((congrArg (fun p=>p) (Option.some.inj hz)).symm),trivial⟩ (Qva))
  replace hz:=ite_F hz hb_1
  refine sn hb_1 (sn hb_1 (sn hb_1 (sn hb_1 (sn hb_1 (sq (Q8a (v:=.bool false) rfl hb_1 rfl (sa (.bool false) rfl (RS.nil ?_))))))))
  exact T.weakR (hK () trivial) (Weak.mkN [] [] (by decide) (Qqa _) rfl ⟨Jwa ((congrArg (fun p=>p) (Option.some.inj hz)).symm),trivial⟩ (Qva))
theorem Zza (p0:List Memory) (p1:List Memory) (r:Bool) (h:Jia p0 p1=some r):Fn Try.prog 32 [sL Qba p0,sL Qba p1,.func 33 []] (.bool r):=by
  unfold Jia at h
  refine Jpa (N:=0) rfl Try.func32 rfl (by kernel_rfl) Try.ntmps32 rfl ?_
  show T _ _ _ _ (mkA 32 [(0,sL Qba p0),(1,sL Qba p1),(2,.func 33 [])]) []
  refine T.seq (T.region (sa (.bool false) rfl (RS.nil (T.seq (T.seq (T.region (sm (sL Qba p0) rfl (sq (Q3a Ty.s27 rfl (sm (sL Qba p1) rfl ?_))))))))))
  refine sq (Q3a Ty.s27 rfl (sq (v_neq rfl rfl (RS.nil (T.cond (b:=((p0).length:Int) != ((p1).length:Int)) rfl (fun hb_1=>?_) (fun hb_1=>?_))))))
  ·replace h:=ite_T h hb_1
   refine T.seq (T.region (sa (.bool false) rfl (RS.nil (T.rt (Qpa (v:=.bool false) rfl (Qra ?_))))))
   exact Qza (v:=.bool false) rfl (Jda _) ⟨congrArg (fun r:Bool=>(.bool r:AV)) (Option.some.inj h),rfl⟩
  replace h:=ite_F h hb_1
  refine T.skip (T.seq (T.seq (T.region (sm (sL Qba p0) rfl (sq (Q3a Ty.s27 rfl (sm (iI 0) rfl (RS.nil (T.block (T.iter (fun ss_6:Int=>mkA 32 [(1,sL Qba p1),(2,.func 33 []),(15,sL Qba p0),(16,iI ((p0).length:Int)),(17,iI ss_6)]) (fun ss_6=>[]) h (Weak.mkN [] [] (by decide) (Qqa _) rfl ⟨rn_s rfl,Z7a trivial,rn_s rfl,Qla rfl,Qla rfl,trivial⟩ (Qva)) (fun ss_6 v_7 h hv_7=>?_)))))))))))
  revert hv_7 h;revert ss_6;intro s1 h hv_7
  replace h:Jca p0 p1 s1=some v_7:=h
  try dsimp only
  unfold Jca at h
  refine T.seq (T.region (sq (v_lss rfl rfl (RS.nil (T.seq (T.cond (b:=decide (s1<((p0).length:Int))) rfl (fun hb_8=>?_) (fun hb_8=>?_)))))))
  ·replace h:=ite_T h hb_8
   refine T.skip (T.seq (T.block (T.seq ?_)))
   obtain ⟨x3,hx3,h⟩:=bind_some h
   refine T.region (sm (iI s1) rfl (sq (Q0a Ty.s27 (fun _=>rfl) rfl rfl hx3 (so (Jaa rfl (Qna Ty.k66 Ty.c66 rfl (cs:=[iI x3.Sum,sL Qja x3.Keys,iI x3.Dep]) rfl (so (Jja Ty.z66 rfl rfl (sa (iI s1) rfl (so (Qoa Ty.c66 Ty.i66 rfl (vs:=[iI x3.Sum,sL Qja x3.Keys,iI x3.Dep]) rfl rfl rfl rfl (cs':=[iI x3.Sum,sL Qja x3.Keys,iI x3.Dep]) rfl rfl (RS.nil (T.seq ?_)))))))))))))
   obtain ⟨x5,hx5,h⟩:=bind_some h
   refine T.region (sm (sL Qba p1) rfl (sm (iI s1) rfl (sq (Q0a Ty.s27 (fun _=>rfl) rfl rfl hx5 (so (Jaa rfl (Qna Ty.k66 Ty.c66 rfl (cs:=[iI x5.Sum,sL Qja x5.Keys,iI x5.Dep]) rfl (so (Jja Ty.z66 rfl rfl (so (Qoa Ty.c66 Ty.i66 rfl (vs:=[iI x5.Sum,sL Qja x5.Keys,iI x5.Dep]) rfl rfl rfl rfl (cs':=[iI x5.Sum,sL Qja x5.Keys,iI x5.Dep]) rfl rfl (RS.nil (T.seq ?_)))))))))))))
   obtain ⟨x7,hx7,h⟩:=bind_some h
   refine T.region (sm (.func 33 []) rfl (so (Qea rfl rfl (Qna Ty.k66 Ty.c66 rfl (cs:=[iI x3.Sum,sL Qja x3.Keys,iI x3.Dep]) rfl (so (Qea rfl rfl (Qna Ty.k66 Ty.c66 rfl (cs:=[iI x5.Sum,sL Qja x5.Keys,iI x5.Dep]) rfl (so (Jfa (as0:=[.agg [iI x3.Sum,sL Qja x3.Keys,iI x3.Dep],.agg [iI x5.Sum,sL Qja x5.Keys,iI x5.Dep]]) (as1:=[.agg [iI x3.Sum,sL Qja x3.Keys,iI x3.Dep],.agg [iI x5.Sum,sL Qja x5.Keys,iI x5.Dep]]) (caps:=[]) (aw1:=[.box [iI x3.Sum,sL Qja x3.Keys,iI x3.Dep],.box [iI x5.Sum,sL Qja x5.Keys,iI x5.Dep]]) rfl rfl rfl (Zda (v:=.bool x7) (crosslaw_MoveEither_1_c x3 x5 x7 hx7) (⟨Qsa _ (Qka (⟨Qfa _ _,Qia Jba _,Qfa _ _,trivial⟩)),Qsa _ (Qka (⟨Qfa _ _,Qia Jba _,Qfa _ _,trivial⟩)),trivial⟩) rfl (sq (v_not rfl (RS.nil (T.cond (b:=!x7) rfl (fun hb_9=>?_) (fun hb_9=>?_)))))))))))))))
   ·replace h:=ite_T h hb_9
    refine T.seq (T.region (sa (.bool false) rfl (RS.nil (T.rt ?_))))
    obtain ⟨w_10,h,hw_10⟩:=Jqa h
    replace h:=h.trans (congrArg some (hv_7 _ hw_10))
    refine Qpa (v:=.bool false) rfl (Qra ?_)
    exact Qza (v:=.bool false) rfl (Jda _) ⟨congrArg (fun r:Bool=>(.bool r:AV)) (Option.some.inj h),rfl⟩
   replace h:=ite_F h hb_9
   refine T.skip (T.region (sq (v_add rfl rfl (sm (iI (IntKind.i64.wrap (s1+1))) rfl (RS.nil ?_)))))
   exact ⟨IntKind.i64.wrap (s1+1),(Option.some.inj h).symm,Weak.mkN [] [] (by decide) (Qqa _) rfl ⟨rn_s rfl,Z7a trivial,rn_s rfl,Qla rfl,Qla rfl,trivial⟩ (Qva)⟩
  replace h:=ite_F h hb_8
  refine T.exit ?_
  obtain ⟨w_11,h,hw_11⟩:=Jqa h
  replace h:=h.trans (congrArg some (hv_7 _ hw_11))
  refine T.seq (T.region (sa (.bool true) rfl (RS.nil (T.rt (Qpa (v:=.bool true) rfl (Qra ?_))))))
  exact Qza (v:=.bool true) rfl (Jda _) ⟨congrArg (fun r:Bool=>(.bool r:AV)) (Option.some.inj h),rfl⟩
end Go.Proofs.Ytfbmoockopakjaa
namespace Go.Proofs.Ytfbmoockopakjaa
open Go.RowKit
set_option linter.unusedVariables false
set_option linter.unusedSimpArgs false
set_option maxRecDepth 100000
set_option maxHeartbeats 4000000
set_option maxHeartbeats 40000000 in
theorem crosslaw_MoveEither_c (p0:Net) (p1:List (List Item)) (p2:List Int) (p3:Int) (p4:Int) (r:Bool) (h:Yfa p0 p1 p2 p3 p4=some r):Fn Try.prog 6 [.agg [sL Qga p0.Nodes,iI p0.Rings,iI p0.Room],sL (encL Qaa) p1,sL encI p2,iI p3,iI p4] (.bool r):=by
  unfold Yfa at h
  refine Jpa (N:=0) rfl Try.func6 rfl (by kernel_rfl) Try.ntmps6 rfl ?_
  show T _ _ _ _ (mkA 160 [(0,.agg [sL Qga p0.Nodes,iI p0.Rings,iI p0.Room]),(1,sL (encL Qaa) p1),(2,sL encI p2),(3,iI p3),(4,iI p4)]) []
  refine T.seq (T.region (so (o_box (cs:=[sL Qga p0.Nodes,iI p0.Rings,iI p0.Room]) rfl rfl rfl (sa (.bool false) rfl (RS.nil (T.seq ?_))))))
  obtain ⟨x2,hx2,h⟩:=bind_some h
  refine T.region (so (Qea rfl rfl (Qna Ty.k24 Ty.c24 rfl (cs:=[sL Qga p0.Nodes,iI p0.Rings,iI p0.Room]) rfl (sm (sL (encL Qaa) p1) rfl (sm (sL encI p2) rfl (so (Jfa (as0:=[.agg [sL Qga p0.Nodes,iI p0.Rings,iI p0.Room],sL (encL Qaa) p1,sL encI p2]) (as1:=[.agg [sL Qga p0.Nodes,iI p0.Rings,iI p0.Room],sL (encL Qaa) p1,sL encI p2]) (caps:=[]) (aw1:=[.box [sL Qga p0.Nodes,iI p0.Rings,iI p0.Room]]) rfl rfl rfl (k_fn (v:=.tup [.agg [sL encI x2.1.At,sL (encL Qaa) x2.1.Rings,sL Qba x2.1.Memory,sL Qca x2.1.Choices,sL Qaa x2.1.Out],iI x2.2]) (move_Play_c p0 p1 p2 x2 hx2) (⟨Qsa _ (Qka (⟨Qia J1a _,Qfa _ _,Qfa _ _,trivial⟩)),Qia (Jna Qma) _,Qia Jta _,trivial⟩) (Joa _ (Qka (⟨Qsa _ (Qka (⟨Qia Jta _,Qia (Jna Qma) _,Qia Qya _,Qia Q2a _,Qia Qma _,trivial⟩)),Qfa _ _,trivial⟩))) (sm (.tup [.agg [sL encI x2.1.At,sL (encL Qaa) x2.1.Rings,sL Qba x2.1.Memory,sL Qca x2.1.Choices,sL Qaa x2.1.Out],iI x2.2]) rfl (sq (Qxa (v:=.agg [sL encI x2.1.At,sL (encL Qaa) x2.1.Rings,sL Qba x2.1.Memory,sL Qca x2.1.Choices,sL Qaa x2.1.Out]) rfl rfl (sq (Qxa (v:=iI x2.2) rfl rfl (so (Jja Ty.z31 rfl rfl (so (Qoa Ty.c31 Ty.i31 rfl (vs:=[sL encI x2.1.At,sL (encL Qaa) x2.1.Rings,sL Qba x2.1.Memory,sL Qca x2.1.Choices,sL Qaa x2.1.Out]) rfl rfl rfl rfl (cs':=[sL encI x2.1.At,sL (encL Qaa) x2.1.Rings,sL Qba x2.1.Memory,sL Qca x2.1.Choices,sL Qaa x2.1.Out]) rfl rfl ?_)))))))))))))))))
  refine sa (iI x2.2) rfl (RS.nil (T.seq ?_))
  obtain ⟨x4,hx4,h⟩:=bind_some h
  refine T.region (so (Qea rfl rfl (Qna Ty.k24 Ty.c24 rfl (cs:=[sL Qga p0.Nodes,iI p0.Rings,iI p0.Room]) rfl (sm (sL (encL Qaa) p1) rfl (so (Qea rfl rfl (Qna Ty.k31 Ty.c31 rfl (cs:=[sL encI x2.1.At,sL (encL Qaa) x2.1.Rings,sL Qba x2.1.Memory,sL Qca x2.1.Choices,sL Qaa x2.1.Out]) rfl (so (Jfa (as0:=[.agg [sL Qga p0.Nodes,iI p0.Rings,iI p0.Room],sL (encL Qaa) p1,.agg [sL encI x2.1.At,sL (encL Qaa) x2.1.Rings,sL Qba x2.1.Memory,sL Qca x2.1.Choices,sL Qaa x2.1.Out]]) (as1:=[.agg [sL Qga p0.Nodes,iI p0.Rings,iI p0.Room],sL (encL Qaa) p1,.agg [sL encI x2.1.At,sL (encL Qaa) x2.1.Rings,sL Qba x2.1.Memory,sL Qca x2.1.Choices,sL Qaa x2.1.Out]]) (caps:=[]) (aw1:=[.box [sL Qga p0.Nodes,iI p0.Rings,iI p0.Room],.box [sL encI x2.1.At,sL (encL Qaa) x2.1.Rings,sL Qba x2.1.Memory,sL Qca x2.1.Choices,sL Qaa x2.1.Out]]) rfl rfl rfl (Vla (v:=.tup [.ref 0,iI x4.2]) (obs:=[aR 57 2 Q4a x4.1]) (v':=.tup [.ref 2,iI x4.2]) (move_Ready_c p0 p1 x2.1 x4 hx4) (⟨Qsa _ (Qka (⟨Qia J1a _,Qfa _ _,Qfa _ _,trivial⟩)),Qia (Jna Qma) _,Qsa _ (Qka (⟨Qia Jta _,Qia (Jna Qma) _,Qia Qya _,Qia Q2a _,Qia Qma _,trivial⟩)),trivial⟩) rfl (Zha (J3a fun _=>rfl) Zua) rfl rfl (sm (.tup [.ref 2,iI x4.2]) rfl (sq (Qxa (v:=.ref 2) rfl rfl (sq (Qxa (v:=iI x4.2) rfl rfl (sa (.ref 2) rfl (sa (iI x4.2) rfl ?_)))))))))))))))))
  refine RS.nil (T.seq ?_)
  obtain ⟨x5,hx5,h⟩:=bind_some h
  obtain ⟨zt_6,hz,h⟩:=bind_some h
  revert hz h;revert zt_6;intro c7 hz h
  refine T.join (Z:=Unit) (fun _=>mkA 160 [(1,sL (encL Qaa) p1),(3,iI p3),(4,iI p4),(5,.ptr 0 0),(11,.ptr 1 0),(13,.ref 2),(59,.bool c7)]) (fun _=>[.box [sL Qga p0.Nodes,iI p0.Rings,iI p0.Room],.box [sL encI x2.1.At,sL (encL Qaa) x2.1.Rings,sL Qba x2.1.Memory,sL Qca x2.1.Choices,sL Qaa x2.1.Out],aR 57 2 Q4a x4.1]) (fun _=>True) (fun _ _=>?_) (fun hK=>?_)
  ·refine T.cond (b := c7) rfl (fun hb_7=>?_) (fun hb_7=>?_)
   ·replace h:=ite_T h hb_7
    refine T.seq ?_
    obtain ⟨x9,hx9,h⟩:=bind_some h
    refine T.region (so (Jfa (as0:=[]) (as1:=[]) (caps:=[]) (aw1:=[.box [sL Qga p0.Nodes,iI p0.Rings,iI p0.Room],.box [sL encI x2.1.At,sL (encL Qaa) x2.1.Rings,sL Qba x2.1.Memory,sL Qca x2.1.Choices,sL Qaa x2.1.Out],aR 57 2 Q4a x4.1]) rfl rfl rfl (Zda (v:=.bool x9) (crosslaw_moved_c x9 hx9) (trivial) rfl (sa (.bool x9) rfl (RS.nil (T.rt (Qpa (v:=.bool x9) rfl (Qra ?_))))))))
    exact Qza (v:=.bool x9) rfl (Jda _) ⟨congrArg (fun r:Bool=>(.bool r:AV)) (Option.some.inj h),rfl⟩
   replace h:=ite_F h hb_7
   refine T.skip (T.seq ?_)
   obtain ⟨x16,hx16,h⟩:=bind_some h
   obtain ⟨x17,hx17,h⟩:=bind_some h
   obtain ⟨x18,hx18,h⟩:=bind_some h
   obtain ⟨x19,hx19,h⟩:=bind_some h
   obtain ⟨x20,hx20,h⟩:=bind_some h
   obtain ⟨x21,hx21,h⟩:=bind_some h
   refine T.drawn mixed (k:=18) rfl ?_
   let l30:List (Nat × AV):=[(1,sL (encL Qaa) p1),(3,iI p3),(4,iI p4),(5,.ptr 0 0),(11,.ptr 1 0),(13,.ref 2),(59,.bool c7)]
   let a30:List Ob:=[.box [sL Qga p0.Nodes,iI p0.Rings,iI p0.Room],.box [sL encI x2.1.At,sL (encL Qaa) x2.1.Rings,sL Qba x2.1.Memory,sL Qca x2.1.Choices,sL Qaa x2.1.Out],aR 57 2 Q4a x4.1]
   refine RA.join 1 #[true,true,true,true,true,true,true,true,true,true,true,true,true,true,true,true,true,false] (mkA 160 ((15,.ptr 4 0)::(16,.ptr 3 0)::(61,.ref 2)::(62,iI p3)::(63,.ref 2)::(64,iI ((x4.1).length:Int))::(65,iI x16)::(66,.aptr 2 2 x17 0)::(67,.agg [iI x18.Node,iI x18.Lane])::(68,.ref 2)::(69,iI p4)::(70,.ref 2)::(71,iI ((x4.1).length:Int))::(72,iI x19)::(73,.aptr 2 2 x20 0)::(74,.agg [iI x21.Node,iI x21.Lane])::l30)) [.box [sL Qga p0.Nodes,iI p0.Rings,iI p0.Room],.box [sL encI x2.1.At,sL (encL Qaa) x2.1.Rings,sL Qba x2.1.Memory,sL Qca x2.1.Choices,sL Qaa x2.1.Out],aR 57 2 Q4a x4.1,.box [iI 0,iI 0],.box [iI x18.Node,iI x18.Lane]] ?_ (fun hS8=>?_)
   ·refine ra1 17 (RO.op rfl rfl (Qoa Ty.c57 Ty.i57 rfl (vs:=[iI x21.Node,iI x21.Lane]) rfl rfl rfl rfl (cs':=[iI x21.Node,iI x21.Lane]) rfl rfl (RA.done (by decide +kernel) (T.seq (T.seq (T.region (sq (Qda Ty.f57_0 rfl (off':=0) rfl (so (Qea rfl rfl (Qha Ty.k3 (c:=iI x18.Node) rfl (sq (Qda Ty.f57_0 rfl (off':=0) rfl (so (Qea rfl rfl (Qha Ty.k3 (c:=iI x21.Node) rfl ?_))))))))))))))))
    refine sq (v_eql rfl rfl (RS.nil (T.cond (b:=x18.Node==x21.Node) rfl (fun hb_31=>?_) (fun hb_31=>?_))))
    ·replace h:=ite_T h hb_31
     refine T.seq (T.region (sa (.bool true) rfl (RS.nil (T.rt (Qpa (v:=.bool true) rfl (Qra ?_))))))
     exact Qza (v:=.bool true) rfl (Jda _) ⟨congrArg (fun r:Bool=>(.bool r:AV)) (Option.some.inj h),rfl⟩
    replace h:=ite_F h hb_31
    refine T.skip (T.seq ?_)
    obtain ⟨x23,hx23,h⟩:=bind_some h
    refine T.region (so (Qea rfl rfl (Qna Ty.k24 Ty.c24 rfl (cs:=[sL Qga p0.Nodes,iI p0.Rings,iI p0.Room]) rfl (sm (sL (encL Qaa) p1) rfl (so (Qea rfl rfl (Qna Ty.k31 Ty.c31 rfl (cs:=[sL encI x2.1.At,sL (encL Qaa) x2.1.Rings,sL Qba x2.1.Memory,sL Qca x2.1.Choices,sL Qaa x2.1.Out]) rfl (so (Qea rfl rfl (Qna Ty.k57 Ty.c57 rfl (cs:=[iI x18.Node,iI x18.Lane]) rfl (so (Jfa (as0:=[.agg [sL Qga p0.Nodes,iI p0.Rings,iI p0.Room],sL (encL Qaa) p1,.agg [sL encI x2.1.At,sL (encL Qaa) x2.1.Rings,sL Qba x2.1.Memory,sL Qca x2.1.Choices,sL Qaa x2.1.Out],.agg [iI x18.Node,iI x18.Lane]]) (as1:=[.agg [sL Qga p0.Nodes,iI p0.Rings,iI p0.Room],sL (encL Qaa) p1,.agg [sL encI x2.1.At,sL (encL Qaa) x2.1.Rings,sL Qba x2.1.Memory,sL Qca x2.1.Choices,sL Qaa x2.1.Out],.agg [iI x18.Node,iI x18.Lane]]) (caps:=[]) (aw1:=[.box [sL Qga p0.Nodes,iI p0.Rings,iI p0.Room],.box [sL encI x2.1.At,sL (encL Qaa) x2.1.Rings,sL Qba x2.1.Memory,sL Qca x2.1.Choices,sL Qaa x2.1.Out],aR 57 2 Q4a x4.1,.box [iI x21.Node,iI x21.Lane],.box [iI x18.Node,iI x18.Lane]]) rfl rfl rfl (k_fn (v:=.tup [.agg [sL encI x23.1.At,sL (encL Qaa) x23.1.Rings,sL Qba x23.1.Memory,sL Qca x23.1.Choices,sL Qaa x23.1.Out],iI x23.2]) (move_Do_c p0 p1 x2.1 x18 x23 hx23) (⟨Qsa _ (Qka (⟨Qia J1a _,Qfa _ _,Qfa _ _,trivial⟩)),Qia (Jna Qma) _,Qsa _ (Qka (⟨Qia Jta _,Qia (Jna Qma) _,Qia Qya _,Qia Q2a _,Qia Qma _,trivial⟩)),Qsa _ (Qka (⟨Qfa _ _,Qfa _ _,trivial⟩)),trivial⟩) (Joa _ (Qka (⟨Qsa _ (Qka (⟨Qia Jta _,Qia (Jna Qma) _,Qia Qya _,Qia Q2a _,Qia Qma _,trivial⟩)),Qfa _ _,trivial⟩))) (sm (.tup [.agg [sL encI x23.1.At,sL (encL Qaa) x23.1.Rings,sL Qba x23.1.Memory,sL Qca x23.1.Choices,sL Qaa x23.1.Out],iI x23.2]) rfl (sq (Qxa (v:=.agg [sL encI x23.1.At,sL (encL Qaa) x23.1.Rings,sL Qba x23.1.Memory,sL Qca x23.1.Choices,sL Qaa x23.1.Out]) rfl rfl (sq (Qxa (v:=iI x23.2) rfl rfl (so (Jja Ty.z31 rfl rfl ?_))))))))))))))))))))
    refine so (Qoa Ty.c31 Ty.i31 rfl (vs:=[sL encI x23.1.At,sL (encL Qaa) x23.1.Rings,sL Qba x23.1.Memory,sL Qca x23.1.Choices,sL Qaa x23.1.Out]) rfl rfl rfl rfl (cs':=[sL encI x23.1.At,sL (encL Qaa) x23.1.Rings,sL Qba x23.1.Memory,sL Qca x23.1.Choices,sL Qaa x23.1.Out]) rfl rfl (sa (iI x23.2) rfl (RS.nil (T.seq ?_))))
    obtain ⟨x25,hx25,h⟩:=bind_some h
    refine T.region (so (Qea rfl rfl (Qna Ty.k24 Ty.c24 rfl (cs:=[sL Qga p0.Nodes,iI p0.Rings,iI p0.Room]) rfl (sm (sL (encL Qaa) p1) rfl (so (Qea rfl rfl (Qna Ty.k31 Ty.c31 rfl (cs:=[sL encI x2.1.At,sL (encL Qaa) x2.1.Rings,sL Qba x2.1.Memory,sL Qca x2.1.Choices,sL Qaa x2.1.Out]) rfl (so (Qea rfl rfl (Qna Ty.k57 Ty.c57 rfl (cs:=[iI x21.Node,iI x21.Lane]) rfl (so (Jfa (as0:=[.agg [sL Qga p0.Nodes,iI p0.Rings,iI p0.Room],sL (encL Qaa) p1,.agg [sL encI x2.1.At,sL (encL Qaa) x2.1.Rings,sL Qba x2.1.Memory,sL Qca x2.1.Choices,sL Qaa x2.1.Out],.agg [iI x21.Node,iI x21.Lane]]) (as1:=[.agg [sL Qga p0.Nodes,iI p0.Rings,iI p0.Room],sL (encL Qaa) p1,.agg [sL encI x2.1.At,sL (encL Qaa) x2.1.Rings,sL Qba x2.1.Memory,sL Qca x2.1.Choices,sL Qaa x2.1.Out],.agg [iI x21.Node,iI x21.Lane]]) (caps:=[]) (aw1:=[.box [sL Qga p0.Nodes,iI p0.Rings,iI p0.Room],.box [sL encI x2.1.At,sL (encL Qaa) x2.1.Rings,sL Qba x2.1.Memory,sL Qca x2.1.Choices,sL Qaa x2.1.Out],aR 57 2 Q4a x4.1,.box [iI x21.Node,iI x21.Lane],.box [iI x18.Node,iI x18.Lane],.box [sL encI x23.1.At,sL (encL Qaa) x23.1.Rings,sL Qba x23.1.Memory,sL Qca x23.1.Choices,sL Qaa x23.1.Out]]) rfl rfl rfl (k_fn (v:=.tup [.agg [sL encI x25.1.At,sL (encL Qaa) x25.1.Rings,sL Qba x25.1.Memory,sL Qca x25.1.Choices,sL Qaa x25.1.Out],iI x25.2]) (move_Do_c p0 p1 x2.1 x21 x25 hx25) (⟨Qsa _ (Qka (⟨Qia J1a _,Qfa _ _,Qfa _ _,trivial⟩)),Qia (Jna Qma) _,Qsa _ (Qka (⟨Qia Jta _,Qia (Jna Qma) _,Qia Qya _,Qia Q2a _,Qia Qma _,trivial⟩)),Qsa _ (Qka (⟨Qfa _ _,Qfa _ _,trivial⟩)),trivial⟩) (Joa _ (Qka (⟨Qsa _ (Qka (⟨Qia Jta _,Qia (Jna Qma) _,Qia Qya _,Qia Q2a _,Qia Qma _,trivial⟩)),Qfa _ _,trivial⟩))) (sm (.tup [.agg [sL encI x25.1.At,sL (encL Qaa) x25.1.Rings,sL Qba x25.1.Memory,sL Qca x25.1.Choices,sL Qaa x25.1.Out],iI x25.2]) rfl (sq (Qxa (v:=.agg [sL encI x25.1.At,sL (encL Qaa) x25.1.Rings,sL Qba x25.1.Memory,sL Qca x25.1.Choices,sL Qaa x25.1.Out]) rfl rfl (sq (Qxa (v:=iI x25.2) rfl rfl (so (Jja Ty.z31 rfl rfl ?_))))))))))))))))))))
    refine so (Qoa Ty.c31 Ty.i31 rfl (vs:=[sL encI x25.1.At,sL (encL Qaa) x25.1.Rings,sL Qba x25.1.Memory,sL Qca x25.1.Choices,sL Qaa x25.1.Out]) rfl rfl rfl rfl (cs':=[sL encI x25.1.At,sL (encL Qaa) x25.1.Rings,sL Qba x25.1.Memory,sL Qca x25.1.Choices,sL Qaa x25.1.Out]) rfl rfl (sa (iI x25.2) rfl (RS.nil (T.seq (T.join (Z:=Unit) (fun _=>mkA 160 [(1,sL (encL Qaa) p1),(5,.ptr 0 0),(15,.ptr 1 0),(16,.ptr 2 0),(17,.ptr 3 0),(18,.ptr 4 0),(101,.bool ((x23.2 != 0) || x25.2 != 0))]) (fun _=>[.box [sL Qga p0.Nodes,iI p0.Rings,iI p0.Room],.box [iI x18.Node,iI x18.Lane],.box [iI x21.Node,iI x21.Lane],.box [sL encI x23.1.At,sL (encL Qaa) x23.1.Rings,sL Qba x23.1.Memory,sL Qca x23.1.Choices,sL Qaa x23.1.Out],.box [sL encI x25.1.At,sL (encL Qaa) x25.1.Rings,sL Qba x25.1.Memory,sL Qca x25.1.Choices,sL Qaa x25.1.Out]]) (fun _=>True) (fun _ _=>?_) (fun hK=>?_))))))
    ·refine T.cond (b:=((x23.2 != 0) || x25.2 != 0)) rfl (fun hb_33=>?_) (fun hb_33=>?_)
     ·replace h:=ite_T h hb_33
      refine T.seq (T.region (sa (.bool false) rfl (RS.nil (T.rt (Qpa (v:=.bool false) rfl (Qra ?_))))))
      exact Qza (v:=.bool false) rfl (Jda _) ⟨congrArg (fun r:Bool=>(.bool r:AV)) (Option.some.inj h),rfl⟩
     replace h:=ite_F h hb_33
     refine T.skip (T.seq ?_)
     obtain ⟨x28,hx28,h⟩:=bind_some h
     refine T.region (so (Qea rfl rfl (Qna Ty.k24 Ty.c24 rfl (cs:=[sL Qga p0.Nodes,iI p0.Rings,iI p0.Room]) rfl (sm (sL (encL Qaa) p1) rfl (so (Qea rfl rfl (Qna Ty.k31 Ty.c31 rfl (cs:=[sL encI x23.1.At,sL (encL Qaa) x23.1.Rings,sL Qba x23.1.Memory,sL Qca x23.1.Choices,sL Qaa x23.1.Out]) rfl (so (Qea rfl rfl (Qna Ty.k57 Ty.c57 rfl (cs:=[iI x21.Node,iI x21.Lane]) rfl (so (Jfa (as0:=[.agg [sL Qga p0.Nodes,iI p0.Rings,iI p0.Room],sL (encL Qaa) p1,.agg [sL encI x23.1.At,sL (encL Qaa) x23.1.Rings,sL Qba x23.1.Memory,sL Qca x23.1.Choices,sL Qaa x23.1.Out],.agg [iI x21.Node,iI x21.Lane]]) (as1:=[.agg [sL Qga p0.Nodes,iI p0.Rings,iI p0.Room],sL (encL Qaa) p1,.agg [sL encI x23.1.At,sL (encL Qaa) x23.1.Rings,sL Qba x23.1.Memory,sL Qca x23.1.Choices,sL Qaa x23.1.Out],.agg [iI x21.Node,iI x21.Lane]]) (caps:=[]) (aw1:=[.box [sL Qga p0.Nodes,iI p0.Rings,iI p0.Room],.box [iI x18.Node,iI x18.Lane],.box [iI x21.Node,iI x21.Lane],.box [sL encI x23.1.At,sL (encL Qaa) x23.1.Rings,sL Qba x23.1.Memory,sL Qca x23.1.Choices,sL Qaa x23.1.Out],.box [sL encI x25.1.At,sL (encL Qaa) x25.1.Rings,sL Qba x25.1.Memory,sL Qca x25.1.Choices,sL Qaa x25.1.Out]]) rfl rfl rfl (k_fn (v:=.tup [.agg [sL encI x28.1.At,sL (encL Qaa) x28.1.Rings,sL Qba x28.1.Memory,sL Qca x28.1.Choices,sL Qaa x28.1.Out],iI x28.2]) (move_Do_c p0 p1 x23.1 x21 x28 hx28) (⟨Qsa _ (Qka (⟨Qia J1a _,Qfa _ _,Qfa _ _,trivial⟩)),Qia (Jna Qma) _,Qsa _ (Qka (⟨Qia Jta _,Qia (Jna Qma) _,Qia Qya _,Qia Q2a _,Qia Qma _,trivial⟩)),Qsa _ (Qka (⟨Qfa _ _,Qfa _ _,trivial⟩)),trivial⟩) (Joa _ (Qka (⟨Qsa _ (Qka (⟨Qia Jta _,Qia (Jna Qma) _,Qia Qya _,Qia Q2a _,Qia Qma _,trivial⟩)),Qfa _ _,trivial⟩))) (sm (.tup [.agg [sL encI x28.1.At,sL (encL Qaa) x28.1.Rings,sL Qba x28.1.Memory,sL Qca x28.1.Choices,sL Qaa x28.1.Out],iI x28.2]) rfl (sq (Qxa (v:=.agg [sL encI x28.1.At,sL (encL Qaa) x28.1.Rings,sL Qba x28.1.Memory,sL Qca x28.1.Choices,sL Qaa x28.1.Out]) rfl rfl (sq (Qxa (v:=iI x28.2) rfl rfl (so (Qoa Ty.c31 Ty.i31 rfl (vs:=[sL encI x28.1.At,sL (encL Qaa) x28.1.Rings,sL Qba x28.1.Memory,sL Qca x28.1.Choices,sL Qaa x28.1.Out]) rfl rfl rfl rfl (cs':=[sL encI x28.1.At,sL (encL Qaa) x28.1.Rings,sL Qba x28.1.Memory,sL Qca x28.1.Choices,sL Qaa x28.1.Out]) rfl rfl ?_))))))))))))))))))))
     refine sa (iI x28.2) rfl (RS.nil (T.seq ?_))
     obtain ⟨x30,hx30,h⟩:=bind_some h
     refine T.region (so (Qea rfl rfl (Qna Ty.k24 Ty.c24 rfl (cs:=[sL Qga p0.Nodes,iI p0.Rings,iI p0.Room]) rfl (sm (sL (encL Qaa) p1) rfl (so (Qea rfl rfl (Qna Ty.k31 Ty.c31 rfl (cs:=[sL encI x25.1.At,sL (encL Qaa) x25.1.Rings,sL Qba x25.1.Memory,sL Qca x25.1.Choices,sL Qaa x25.1.Out]) rfl (so (Qea rfl rfl (Qna Ty.k57 Ty.c57 rfl (cs:=[iI x18.Node,iI x18.Lane]) rfl (so (Jfa (as0:=[.agg [sL Qga p0.Nodes,iI p0.Rings,iI p0.Room],sL (encL Qaa) p1,.agg [sL encI x25.1.At,sL (encL Qaa) x25.1.Rings,sL Qba x25.1.Memory,sL Qca x25.1.Choices,sL Qaa x25.1.Out],.agg [iI x18.Node,iI x18.Lane]]) (as1:=[.agg [sL Qga p0.Nodes,iI p0.Rings,iI p0.Room],sL (encL Qaa) p1,.agg [sL encI x25.1.At,sL (encL Qaa) x25.1.Rings,sL Qba x25.1.Memory,sL Qca x25.1.Choices,sL Qaa x25.1.Out],.agg [iI x18.Node,iI x18.Lane]]) (caps:=[]) (aw1:=[.box [sL Qga p0.Nodes,iI p0.Rings,iI p0.Room],.box [iI x18.Node,iI x18.Lane],.box [iI x21.Node,iI x21.Lane],.box [sL encI x28.1.At,sL (encL Qaa) x28.1.Rings,sL Qba x28.1.Memory,sL Qca x28.1.Choices,sL Qaa x28.1.Out],.box [sL encI x25.1.At,sL (encL Qaa) x25.1.Rings,sL Qba x25.1.Memory,sL Qca x25.1.Choices,sL Qaa x25.1.Out]]) rfl rfl rfl (k_fn (v:=.tup [.agg [sL encI x30.1.At,sL (encL Qaa) x30.1.Rings,sL Qba x30.1.Memory,sL Qca x30.1.Choices,sL Qaa x30.1.Out],iI x30.2]) (move_Do_c p0 p1 x25.1 x18 x30 hx30) (⟨Qsa _ (Qka (⟨Qia J1a _,Qfa _ _,Qfa _ _,trivial⟩)),Qia (Jna Qma) _,Qsa _ (Qka (⟨Qia Jta _,Qia (Jna Qma) _,Qia Qya _,Qia Q2a _,Qia Qma _,trivial⟩)),Qsa _ (Qka (⟨Qfa _ _,Qfa _ _,trivial⟩)),trivial⟩) (Joa _ (Qka (⟨Qsa _ (Qka (⟨Qia Jta _,Qia (Jna Qma) _,Qia Qya _,Qia Q2a _,Qia Qma _,trivial⟩)),Qfa _ _,trivial⟩))) (sm (.tup [.agg [sL encI x30.1.At,sL (encL Qaa) x30.1.Rings,sL Qba x30.1.Memory,sL Qca x30.1.Choices,sL Qaa x30.1.Out],iI x30.2]) rfl (sq (Qxa (v:=.agg [sL encI x30.1.At,sL (encL Qaa) x30.1.Rings,sL Qba x30.1.Memory,sL Qca x30.1.Choices,sL Qaa x30.1.Out]) rfl rfl (sq (Qxa (v:=iI x30.2) rfl rfl (so (Qoa Ty.c31 Ty.i31 rfl (vs:=[sL encI x30.1.At,sL (encL Qaa) x30.1.Rings,sL Qba x30.1.Memory,sL Qca x30.1.Choices,sL Qaa x30.1.Out]) rfl rfl rfl rfl (cs':=[sL encI x30.1.At,sL (encL Qaa) x30.1.Rings,sL Qba x30.1.Memory,sL Qca x30.1.Choices,sL Qaa x30.1.Out]) rfl rfl ?_))))))))))))))))))))
     refine sa (iI x30.2) rfl (RS.nil (T.seq ?_))
     obtain ⟨zt_37,hz,h⟩:=bind_some h
     revert hz h;revert zt_37;intro c32 hz h
     refine T.join (Z:=Unit) (fun _=>mkA 160 [(17,.ptr 0 0),(18,.ptr 1 0),(140,.bool c32)]) (fun _=>[.box [sL encI x28.1.At,sL (encL Qaa) x28.1.Rings,sL Qba x28.1.Memory,sL Qca x28.1.Choices,sL Qaa x28.1.Out],.box [sL encI x30.1.At,sL (encL Qaa) x30.1.Rings,sL Qba x30.1.Memory,sL Qca x30.1.Choices,sL Qaa x30.1.Out]]) (fun _=>True) (fun _ _=>?_) (fun hK=>?_)
     ·refine T.cond (b:=c32) rfl (fun hb_38=>?_) (fun hb_38=>?_)
      ·replace h:=ite_T h hb_38
       refine T.seq (T.region (sa (.bool false) rfl (RS.nil (T.rt (Qpa (v:=.bool false) rfl (Qra ?_))))))
       exact Qza (v:=.bool false) rfl (Jda _) ⟨congrArg (fun r:Bool=>(.bool r:AV)) (Option.some.inj h),rfl⟩
      replace h:=ite_F h hb_38
      refine T.skip ?_
      obtain ⟨x33,hx33,h⟩:=bind_some h
      obtain ⟨zt_41,hz,h⟩:=bind_some h
      revert hz h;revert zt_41;intro c36 hz h
      refine T.join (Z:=Unit) (fun _=>mkA 160 [(10,.bool c36)]) (fun _=>[]) (fun _=>True) (fun _ _=>?_) (fun hK=>?_)
      ·refine T.rt (Qpa (v:=.bool c36) rfl (Qra ?_))
       exact Qza (v:=.bool c36) rfl (Jda _) ⟨congrArg (fun r:Bool=>(.bool r:AV)) (Option.some.inj h),rfl⟩
      refine T.region (sq (Qda Ty.f31_1 rfl (off':=1) rfl (so (Qea rfl rfl (Qha Ty.k25 (c:=sL (encL Qaa) x28.1.Rings) rfl (sq (Qda Ty.f31_1 rfl (off':=1) rfl (so (Qea rfl rfl (Qha Ty.k25 (c:=sL (encL Qaa) x30.1.Rings) rfl (so (Jfa (as0:=[sL (encL Qaa) x28.1.Rings,sL (encL Qaa) x30.1.Rings,.func 31 []]) (as1:=[sL (encL Qaa) x28.1.Rings,sL (encL Qaa) x30.1.Rings,.func 31 []]) (caps:=[]) (aw1:=[.box [sL encI x28.1.At,sL (encL Qaa) x28.1.Rings,sL Qba x28.1.Memory,sL Qca x28.1.Choices,sL Qaa x28.1.Out],.box [sL encI x30.1.At,sL (encL Qaa) x30.1.Rings,sL Qba x30.1.Memory,sL Qca x30.1.Choices,sL Qaa x30.1.Out]]) rfl rfl rfl (Zda (v:=.bool x33) (Z4a x28.1.Rings x30.1.Rings x33 hx33) (⟨Qia (Jna Qma) _,Qia (Jna Qma) _,pure_func _ _ (Qka (trivial)),trivial⟩) rfl (sm (.bool x33) rfl ?_))))))))))))))
      rcases Q7a x33 with hb_39 | hb_39
      ·replace hz:=ite_T hz hb_39
       obtain ⟨x34,hx34,hz⟩:=bind_some hz
       refine yq hb_39 (Qda Ty.f31_4 rfl (off':=4) rfl (yo hb_39 (Qea rfl rfl (Qha Ty.k29 (c:=sL Qaa x28.1.Out) rfl (yq hb_39 (Qda Ty.f31_4 rfl (off':=4) rfl (yo hb_39 (Qea rfl rfl (Qha Ty.k29 (c:=sL Qaa x30.1.Out) rfl (yo hb_39 (Jfa (as0:=[sL Qaa x28.1.Out,sL Qaa x30.1.Out]) (as1:=[sL Qaa x28.1.Out,sL Qaa x30.1.Out]) (caps:=[]) (aw1:=[.box [sL encI x28.1.At,sL (encL Qaa) x28.1.Rings,sL Qba x28.1.Memory,sL Qca x28.1.Choices,sL Qaa x28.1.Out],.box [sL encI x30.1.At,sL (encL Qaa) x30.1.Rings,sL Qba x30.1.Memory,sL Qca x30.1.Choices,sL Qaa x30.1.Out]]) rfl rfl rfl (Zda (v:=.bool x34) (crosslaw_alike_c x28.1.Out x30.1.Out x34 hx34) (⟨Qia Qma _,Qia Qma _,trivial⟩) rfl (sq (Q9a (v:=.bool x34) rfl hb_39 rfl (sm (.bool x34) rfl ?_)))))))))))))))
       rcases Q7a x34 with hb_40 | hb_40
       ·replace hz:=ite_T hz hb_40
        obtain ⟨x35,hx35,hz⟩:=bind_some hz
        refine yq hb_40 (Qda Ty.f31_2 rfl (off':=2) rfl (yo hb_40 (Qea rfl rfl (Qha Ty.k27 (c:=sL Qba x28.1.Memory) rfl (yq hb_40 (Qda Ty.f31_2 rfl (off':=2) rfl (yo hb_40 (Qea rfl rfl (Qha Ty.k27 (c:=sL Qba x30.1.Memory) rfl (yo hb_40 (Jfa (as0:=[sL Qba x28.1.Memory,sL Qba x30.1.Memory,.func 33 []]) (as1:=[sL Qba x28.1.Memory,sL Qba x30.1.Memory,.func 33 []]) (caps:=[]) (aw1:=[.box [sL encI x28.1.At,sL (encL Qaa) x28.1.Rings,sL Qba x28.1.Memory,sL Qca x28.1.Choices,sL Qaa x28.1.Out],.box [sL encI x30.1.At,sL (encL Qaa) x30.1.Rings,sL Qba x30.1.Memory,sL Qca x30.1.Choices,sL Qaa x30.1.Out]]) rfl rfl rfl (Zda (v:=.bool x35) (Zza x28.1.Memory x30.1.Memory x35 hx35) (⟨Qia Qya _,Qia Qya _,pure_func _ _ (Qka (trivial)),trivial⟩) rfl (sq (Q9a (v:=.bool x35) rfl hb_40 rfl (sa (.bool x35) rfl (RS.nil ?_))))))))))))))))
        exact T.weakR (hK () trivial) (Weak.mkN [] [] (by decide) (Qqa _) rfl ⟨Jwa ((congrArg (fun p=>p) (Option.some.inj hz)).symm),trivial⟩ (Qva))
       replace hz:=ite_F hz hb_40
       refine sn hb_40 (sn hb_40 (sn hb_40 (sn hb_40 (sn hb_40 (sq (Q8a (v:=.bool false) rfl hb_40 rfl (sa (.bool false) rfl (RS.nil ?_))))))))
       exact T.weakR (hK () trivial) (Weak.mkN [] [] (by decide) (Qqa _) rfl ⟨Jwa ((congrArg (fun p=>p) (Option.some.inj hz)).symm),trivial⟩ (Qva))
      replace hz:=ite_F hz hb_39
      refine sn hb_39 (sn hb_39 (sn hb_39 (sn hb_39 (sn hb_39 (sq (Q8a (v:=.bool false) rfl hb_39 rfl (sm (.bool false) rfl (sn rfl (sn rfl (sn rfl ?_))))))))))
      refine sn rfl (sn rfl (sq (Q8a (v:=.bool false) rfl rfl rfl (sa (.bool false) rfl (RS.nil ?_)))))
      exact T.weakR (hK () trivial) (Weak.mkN [] [] (by decide) (Qqa _) rfl ⟨Jwa ((congrArg (fun p=>p) (Option.some.inj hz)).symm),trivial⟩ (Qva))
     refine T.region (sm (iI x28.2) rfl (sq (v_neq rfl rfl (sm (.bool (x28.2 != 0)) rfl ?_))))
     rcases Q7a (x28.2 != 0) with hb_34 | hb_34
     ·replace hz:=ite_T hz hb_34
      refine sn hb_34 (sn hb_34 (sq (Q9a (v:=.bool true) rfl hb_34 rfl (sm (.bool true) rfl (sn rfl (sn rfl (sn rfl (sn rfl (sn rfl (sn rfl ?_))))))))))
      refine sq (Q9a (v:=.bool true) rfl rfl rfl (sm (.bool true) rfl (sn rfl (sn rfl (sn rfl (sn rfl (sn rfl (sn rfl (sn rfl (sq (Q9a (v:=.bool true) rfl rfl rfl ?_)))))))))))
      refine RS.nil ?_
      exact T.weakR (hK () trivial) (Weak.mkN [] [3,4] (by decide) (Qqa _) rfl ⟨Qua rfl,Qua rfl,Jwa ((congrArg (fun p=>p) (Option.some.inj hz)).symm),trivial⟩ (rw_bs [sL encI x28.1.At,sL (encL Qaa) x28.1.Rings,sL Qba x28.1.Memory,sL Qca x28.1.Choices,sL Qaa x28.1.Out] rfl (rw_bs [sL encI x30.1.At,sL (encL Qaa) x30.1.Rings,sL Qba x30.1.Memory,sL Qca x30.1.Choices,sL Qaa x30.1.Out] rfl (Qva))))
     replace hz:=ite_F hz hb_34
     refine yq hb_34 (Qwa (v:=iI x30.2) rfl (yq hb_34 (v_neq rfl rfl (sq (Q8a (v:=.bool (x30.2 != 0)) rfl hb_34 rfl (sm (.bool (x30.2 != 0)) rfl ?_))))))
     rcases Q7a (x30.2 != 0) with hb_35 | hb_35
     ·replace hz:=ite_T hz hb_35
      refine sn hb_35 (sn hb_35 (sn hb_35 (sn hb_35 (sn hb_35 (sn hb_35 (sq (Q9a (v:=.bool true) rfl hb_35 rfl (sm (.bool true) rfl (sn rfl (sn rfl ?_))))))))))
      refine sn rfl (sn rfl (sn rfl (sn rfl (sn rfl (sq (Q9a (v:=.bool true) rfl rfl rfl (RS.nil ?_)))))))
      exact T.weakR (hK () trivial) (Weak.mkN [] [3,4] (by decide) (Qqa _) rfl ⟨Qua rfl,Qua rfl,Jwa ((congrArg (fun p=>p) (Option.some.inj hz)).symm),trivial⟩ (rw_bs [sL encI x28.1.At,sL (encL Qaa) x28.1.Rings,sL Qba x28.1.Memory,sL Qca x28.1.Choices,sL Qaa x28.1.Out] rfl (rw_bs [sL encI x30.1.At,sL (encL Qaa) x30.1.Rings,sL Qba x30.1.Memory,sL Qca x30.1.Choices,sL Qaa x30.1.Out] rfl (Qva))))
     replace hz:=ite_F hz hb_35
     obtain ⟨x31,hx31,hz⟩:=bind_some hz
     refine yq hb_35 (Qda Ty.f31_0 rfl (off':=0) rfl (yo hb_35 (Qea rfl rfl (Qha Ty.k26 (c:=sL encI x28.1.At) rfl (yq hb_35 (Qda Ty.f31_0 rfl (off':=0) rfl (yo hb_35 (Qea rfl rfl (Qha Ty.k26 (c:=sL encI x30.1.At) rfl (yo hb_35 (Jfa (as0:=[sL encI x28.1.At,sL encI x30.1.At]) (as1:=[sL encI x28.1.At,sL encI x30.1.At]) (caps:=[]) (aw1:=[.box [sL Qga p0.Nodes,iI p0.Rings,iI p0.Room],.box [iI x18.Node,iI x18.Lane],.box [iI x21.Node,iI x21.Lane],.box [sL encI x28.1.At,sL (encL Qaa) x28.1.Rings,sL Qba x28.1.Memory,sL Qca x28.1.Choices,sL Qaa x28.1.Out],.box [sL encI x30.1.At,sL (encL Qaa) x30.1.Rings,sL Qba x30.1.Memory,sL Qca x30.1.Choices,sL Qaa x30.1.Out]]) rfl rfl rfl (Zda (v:=.bool x31) (slices_Equal_int_c x28.1.At x30.1.At x31 hx31) (⟨Qia Jta _,Qia Jta _,trivial⟩) rfl (yq hb_35 (v_not rfl (sq (Q8a (v:=.bool (!x31)) rfl hb_35 rfl (sm (.bool (!x31)) rfl ?_)))))))))))))))))
     rcases Q7a (!x31) with hb_36 | hb_36
     ·replace hz:=ite_T hz hb_36
      refine sn hb_36 (sn hb_36 (sn hb_36 (sn hb_36 (sn hb_36 (sn hb_36 (sn hb_36 (sq (Q9a (v:=.bool true) rfl hb_36 rfl (RS.nil ?_)))))))))
      exact T.weakR (hK () trivial) (Weak.mkN [] [3,4] (by decide) (Qqa _) rfl ⟨Qua rfl,Qua rfl,Jwa ((congrArg (fun p=>p) (Option.some.inj hz)).symm),trivial⟩ (rw_bs [sL encI x28.1.At,sL (encL Qaa) x28.1.Rings,sL Qba x28.1.Memory,sL Qca x28.1.Choices,sL Qaa x28.1.Out] rfl (rw_bs [sL encI x30.1.At,sL (encL Qaa) x30.1.Rings,sL Qba x30.1.Memory,sL Qca x30.1.Choices,sL Qaa x30.1.Out] rfl (Qva))))
     replace hz:=ite_F hz hb_36
     refine yq hb_36 (Qda Ty.f31_3 rfl (off':=3) rfl (yo hb_36 (Qea rfl rfl (Qha Ty.k28 (c:=sL Qca x28.1.Choices) rfl (yq hb_36 (Q3a Ty.s28 rfl (yq hb_36 (Qda Ty.f31_3 rfl (off':=3) rfl (yo hb_36 (Qea rfl rfl (Qha Ty.k28 (c:=sL Qca x30.1.Choices) rfl (yq hb_36 (Q3a Ty.s28 rfl (yq hb_36 (v_neq rfl rfl (sq (Q8a (v:=.bool (((x28.1.Choices).length:Int) != ((x30.1.Choices).length:Int))) rfl hb_36 rfl (RS.nil ?_))))))))))))))))))
     exact T.weakR (hK () trivial) (Weak.mkN [] [3,4] (by decide) (Qqa _) rfl ⟨Qua rfl,Qua rfl,Jwa ((congrArg (fun p=>p) (Option.some.inj hz)).symm),trivial⟩ (rw_bs [sL encI x28.1.At,sL (encL Qaa) x28.1.Rings,sL Qba x28.1.Memory,sL Qca x28.1.Choices,sL Qaa x28.1.Out] rfl (rw_bs [sL encI x30.1.At,sL (encL Qaa) x30.1.Rings,sL Qba x30.1.Memory,sL Qca x30.1.Choices,sL Qaa x30.1.Out] rfl (Qva))))
    refine T.region (sm (iI x23.2) rfl (sq (v_neq rfl rfl (sm (.bool (x23.2 != 0)) rfl ?_))))
    rcases Q7a (x23.2 != 0) with hb_32 | hb_32
    ·refine sn hb_32 (sn hb_32 (sq (Q9a (v:=.bool true) rfl hb_32 rfl (RS.nil ?_))))
     exact T.weakR (hK () trivial) (Weak.mkN [] [0,4,3,5,6] (by decide) (Qqa _) rfl ⟨rn_s rfl,Qua rfl,Qua rfl,Qua rfl,Qua rfl,Qua rfl,Jwa (by simp only [hb_32,bz,if_true,if_false,Bool.false_eq_true]),trivial⟩ (rw_bs [sL Qga p0.Nodes,iI p0.Rings,iI p0.Room] rfl (rw_bs [iI x18.Node,iI x18.Lane] rfl (rw_bs [iI x21.Node,iI x21.Lane] rfl (rw_bs [sL encI x23.1.At,sL (encL Qaa) x23.1.Rings,sL Qba x23.1.Memory,sL Qca x23.1.Choices,sL Qaa x23.1.Out] rfl (rw_bs [sL encI x25.1.At,sL (encL Qaa) x25.1.Rings,sL Qba x25.1.Memory,sL Qca x25.1.Choices,sL Qaa x25.1.Out] rfl (Qva)))))))
    refine yq hb_32 (Qwa (v:=iI x25.2) rfl (yq hb_32 (v_neq rfl rfl (sq (Q8a (v:=.bool (x25.2 != 0)) rfl hb_32 rfl (RS.nil ?_))))))
    exact T.weakR (hK () trivial) (Weak.mkN [] [0,4,3,5,6] (by decide) (Qqa _) rfl ⟨rn_s rfl,Qua rfl,Qua rfl,Qua rfl,Qua rfl,Qua rfl,Jwa (by simp only [hb_32,bz,if_true,if_false,Bool.false_eq_true]),trivial⟩ (rw_bs [sL Qga p0.Nodes,iI p0.Rings,iI p0.Room] rfl (rw_bs [iI x18.Node,iI x18.Lane] rfl (rw_bs [iI x21.Node,iI x21.Lane] rfl (rw_bs [sL encI x23.1.At,sL (encL Qaa) x23.1.Rings,sL Qba x23.1.Memory,sL Qca x23.1.Choices,sL Qaa x23.1.Out] rfl (rw_bs [sL encI x25.1.At,sL (encL Qaa) x25.1.Rings,sL Qba x25.1.Memory,sL Qca x25.1.Choices,sL Qaa x25.1.Out] rfl (Qva)))))))
   ·refine RA.join 2 #[true, true,true,true,true,true,true,true,true,true,true,true,true,true,true,true,false,false] (mkA 160 ((15,.ptr 4 0)::(16,.ptr 3 0)::(61,.ref 2)::(62,iI p3)::(63,.ref 2)::(64,iI ((x4.1).length:Int))::(65,iI x16)::(66,.aptr 2 2 x17 0)::(67,.agg [iI x18.Node,iI x18.Lane])::(68,.ref 2)::(69,iI p4)::(70,.ref 2)::(71,iI ((x4.1).length:Int))::(72,iI x19)::(73,.aptr 2 2 x20 0)::(74,.agg [iI x21.Node,iI x21.Lane])::l30)) [.box [sL Qga p0.Nodes,iI p0.Rings,iI p0.Room],.box [sL encI x2.1.At,sL (encL Qaa) x2.1.Rings,sL Qba x2.1.Memory,sL Qca x2.1.Choices,sL Qaa x2.1.Out],aR 57 2 Q4a x4.1,.box [iI 0,iI 0],.box [iI 0,iI 0]] ?_ (fun hS9=>?_)
    ·refine ra1 16 (RO.op rfl rfl (Qoa Ty.c57 Ty.i57 rfl (vs:=[iI x18.Node,iI x18.Lane]) rfl rfl rfl rfl (cs':=[iI x18.Node,iI x18.Lane]) rfl rfl ?_))
     exact raS hS8 ⟨rfl,rfl,rfl,rfl,rfl,rfl,rfl,rfl,rfl,rfl,rfl,rfl,rfl,rfl,rfl,rfl,rfl,rfl,rfl,rfl,rfl,rfl,rfl,trivial⟩
    ·refine RA.join 3 #[true,true,true,true,true,true,true,true,true,true,true,true,true,false,true,true,false,false] (mkA 160 ((15,.ptr 4 0)::(16,.ptr 3 0)::(61,.ref 2)::(62,iI p3)::(63,.ref 2)::(64,iI ((x4.1).length:Int))::(65,iI x16)::(66,.aptr 2 2 x17 0)::(67,.agg [iI x18.Node,iI x18.Lane])::(68,.ref 2)::(69,iI p4)::(70,.ref 2)::(71,iI ((x4.1).length:Int))::(72,iI x19)::(73,.aptr 2 2 x20 0)::l30)) [.box [sL Qga p0.Nodes,iI p0.Rings,iI p0.Room],.box [sL encI x2.1.At,sL (encL Qaa) x2.1.Rings,sL Qba x2.1.Memory,sL Qca x2.1.Choices,sL Qaa x2.1.Out],aR 57 2 Q4a x4.1,.box [iI 0,iI 0],.box [iI 0,iI 0]] ?_ (fun hS10=>?_)
     ·refine ra2 13 16 ?_ ?_
      ·refine RO.op rfl rfl (Q6a (en:=Q4a) (a:=x21) rfl rfl hx21 (Qna Ty.k57 Ty.c57 rfl (cs:=[iI x21.Node,iI x21.Lane]) rfl ?_))
       exact raS hS9 ⟨rfl,rfl,rfl,rfl,rfl,rfl,rfl,rfl,rfl,rfl,rfl,rfl,rfl,rfl,rfl,rfl,rfl,rfl,rfl,rfl,rfl,rfl,rfl,trivial⟩
      ·refine RO.op rfl rfl (Qoa Ty.c57 Ty.i57 rfl (vs:=[iI x18.Node,iI x18.Lane]) rfl rfl rfl rfl (cs':=[iI x18.Node,iI x18.Lane]) rfl rfl (ra1 13 (RO.op rfl rfl (Q6a (en:=Q4a) (a:=x21) rfl rfl hx21 (Qna Ty.k57 Ty.c57 rfl (cs:=[iI x21.Node,iI x21.Lane]) rfl ?_)))))
       exact raS hS8 ⟨rfl,rfl,rfl,rfl,rfl,rfl,rfl,rfl,rfl,rfl,rfl,rfl,rfl,rfl,rfl,rfl,rfl,rfl,rfl,rfl,rfl,rfl,rfl,trivial⟩
     ·refine RA.join 3 #[true,true,true,true,true,true,false,true,true,true,true,true,true,true,true,true,false,false] (mkA 160 ((15,.ptr 4 0)::(16,.ptr 3 0)::(61,.ref 2)::(62,iI p3)::(63,.ref 2)::(64,iI ((x4.1).length:Int))::(65,iI x16)::(66,.aptr 2 2 x17 0)::(68,.ref 2)::(69,iI p4)::(70,.ref 2)::(71,iI ((x4.1).length:Int))::(72,iI x19)::(73,.aptr 2 2 x20 0)::(74,.agg [iI x21.Node,iI x21.Lane])::l30)) [.box [sL Qga p0.Nodes,iI p0.Rings,iI p0.Room],.box [sL encI x2.1.At,sL (encL Qaa) x2.1.Rings,sL Qba x2.1.Memory,sL Qca x2.1.Choices,sL Qaa x2.1.Out],aR 57 2 Q4a x4.1,.box [iI 0,iI 0],.box [iI 0,iI 0]] ?_ (fun hS11=>?_)
      ·refine ra1 6 (RO.op rfl rfl (Q6a (en:=Q4a) (a:=x18) rfl rfl hx18 (Qna Ty.k57 Ty.c57 rfl (cs:=[iI x18.Node,iI x18.Lane]) rfl ?_)))
       exact raS hS9 ⟨rfl,rfl,rfl,rfl,rfl,rfl,rfl,rfl,rfl,rfl,rfl,rfl,rfl,rfl,rfl,rfl,rfl,rfl,rfl,rfl,rfl,rfl,rfl,trivial⟩
      ·refine RA.join 3 #[true,true,true,true,true,true,true,true,true,true,true,true,true,true,false,true,false,false] (mkA 160 ((16,.ptr 3 0)::(61,.ref 2)::(62,iI p3)::(63,.ref 2)::(64,iI ((x4.1).length:Int))::(65,iI x16)::(66,.aptr 2 2 x17 0)::(67,.agg [iI x18.Node,iI x18.Lane])::(68,.ref 2)::(69,iI p4)::(70,.ref 2)::(71,iI ((x4.1).length:Int))::(72,iI x19)::(73,.aptr 2 2 x20 0)::(74,.agg [iI x21.Node,iI x21.Lane])::l30)) [.box [sL Qga p0.Nodes,iI p0.Rings,iI p0.Room],.box [sL encI x2.1.At,sL (encL Qaa) x2.1.Rings,sL Qba x2.1.Memory,sL Qca x2.1.Choices,sL Qaa x2.1.Out],aR 57 2 Q4a x4.1,.box [iI 0,iI 0]] ?_ (fun hS12=>?_)
       ·refine ra1 14 (RO.op rfl rfl (Jja Ty.z57 rfl (aw':=[.box [sL Qga p0.Nodes,iI p0.Rings,iI p0.Room],.box [sL encI x2.1.At,sL (encL Qaa) x2.1.Rings,sL Qba x2.1.Memory,sL Qca x2.1.Choices,sL Qaa x2.1.Out],aR 57 2 Q4a x4.1,.box [iI 0,iI 0],.box [iI 0,iI 0]]) rfl ?_))
        exact raS hS9 ⟨rfl,rfl,rfl,rfl,rfl,rfl,rfl,rfl,rfl,rfl,rfl,rfl,rfl,rfl,rfl,rfl,rfl,rfl,rfl,rfl,rfl,rfl,rfl,trivial⟩
       ·refine RA.join 3 #[true,true,true,true,true,true,true,true,true,true,true,true,true,true,true,false,false,false] (mkA 160 ((15,.ptr 3 0)::(61,.ref 2)::(62,iI p3)::(63,.ref 2)::(64,iI ((x4.1).length:Int))::(65,iI x16)::(66,.aptr 2 2 x17 0)::(67,.agg [iI x18.Node,iI x18.Lane])::(68,.ref 2)::(69,iI p4)::(70,.ref 2)::(71,iI ((x4.1).length:Int))::(72,iI x19)::(73,.aptr 2 2 x20 0)::(74,.agg [iI x21.Node,iI x21.Lane])::l30)) [.box [sL Qga p0.Nodes,iI p0.Rings,iI p0.Room],.box [sL encI x2.1.At,sL (encL Qaa) x2.1.Rings,sL Qba x2.1.Memory,sL Qca x2.1.Choices,sL Qaa x2.1.Out],aR 57 2 Q4a x4.1,.box [iI 0,iI 0]] ?_ (fun hS13=>?_)
        ·refine ra1 15 (RO.op rfl rfl (Jja Ty.z57 rfl (aw':=[.box [sL Qga p0.Nodes,iI p0.Rings,iI p0.Room],.box [sL encI x2.1.At,sL (encL Qaa) x2.1.Rings,sL Qba x2.1.Memory,sL Qca x2.1.Choices,sL Qaa x2.1.Out],aR 57 2 Q4a x4.1,.box [iI 0,iI 0],.box [iI 0,iI 0]]) rfl ?_))
         exact raW hS9 (Weak.mkN [] [0,1,2,4,3] (by decide) (Qqa _) rfl ⟨Qua rfl,Qua rfl,Qta rfl,Qla rfl,Qta rfl,Qla rfl,Qla rfl,rn_aptr rfl rfl,J8a ⟨Qla rfl,Qla rfl,trivial⟩,Qta rfl,Qla rfl,Qta rfl,Qla rfl,Qla rfl,rn_aptr rfl rfl,J8a ⟨Qla rfl,Qla rfl,trivial⟩,rn_s rfl,Qla rfl,Qla rfl,Qua rfl,Qua rfl,Qta rfl,Jwa rfl,trivial⟩ (rw_bs [sL Qga p0.Nodes,iI p0.Rings,iI p0.Room] rfl (rw_bs [sL encI x2.1.At,sL (encL Qaa) x2.1.Rings,sL Qba x2.1.Memory,sL Qca x2.1.Choices,sL Qaa x2.1.Out] rfl (rw_ar rfl rfl (rw_bs [iI 0,iI 0] rfl (rw_bs [iI 0,iI 0] rfl (Qva)))))))
        ·refine RA.join 4 #[true,true,true,true,true,true,false,true,true,true,true,true,true,false,true,true,false,false] (mkA 160 ((15,.ptr 4 0)::(16,.ptr 3 0)::(61,.ref 2)::(62,iI p3)::(63,.ref 2)::(64,iI ((x4.1).length:Int))::(65,iI x16)::(66,.aptr 2 2 x17 0)::(68,.ref 2)::(69,iI p4)::(70,.ref 2)::(71,iI ((x4.1).length:Int))::(72,iI x19)::(73,.aptr 2 2 x20 0)::l30)) [.box [sL Qga p0.Nodes,iI p0.Rings,iI p0.Room],.box [sL encI x2.1.At,sL (encL Qaa) x2.1.Rings,sL Qba x2.1.Memory,sL Qca x2.1.Choices,sL Qaa x2.1.Out],aR 57 2 Q4a x4.1,.box [iI 0,iI 0],.box [iI 0,iI 0]] ?_ (fun hS14=>?_)
         ·refine ra2 6 13 ?_ ?_
          ·refine RO.op rfl rfl (Q6a (en:=Q4a) (a:=x18) rfl rfl hx18 (Qna Ty.k57 Ty.c57 rfl (cs:=[iI x18.Node,iI x18.Lane]) rfl ?_))
           exact raS hS10 ⟨rfl,rfl,rfl,rfl,rfl,rfl,rfl,rfl,rfl,rfl,rfl,rfl,rfl,rfl,rfl,rfl,rfl,rfl,rfl,rfl,rfl,rfl,trivial⟩
          ·refine RO.op rfl rfl (Q6a (en:=Q4a) (a:=x21) rfl rfl hx21 (Qna Ty.k57 Ty.c57 rfl (cs:=[iI x21.Node,iI x21.Lane]) rfl ?_))
           exact raS hS11 ⟨rfl,rfl,rfl,rfl,rfl,rfl,rfl,rfl,rfl,rfl,rfl,rfl,rfl,rfl,rfl,rfl,rfl,rfl,rfl,rfl,rfl,rfl,trivial⟩
         ·refine RA.join 4 #[true,true,true,true,true,true,true,true,true,true,true,true,true,false,false,true,false,false] (mkA 160 ((16,.ptr 3 0)::(61,.ref 2)::(62,iI p3)::(63,.ref 2)::(64,iI ((x4.1).length:Int))::(65,iI x16)::(66,.aptr 2 2 x17 0)::(67,.agg [iI x18.Node,iI x18.Lane])::(68,.ref 2)::(69,iI p4)::(70,.ref 2)::(71,iI ((x4.1).length:Int))::(72,iI x19)::(73,.aptr 2 2 x20 0)::l30)) [.box [sL Qga p0.Nodes,iI p0.Rings,iI p0.Room],.box [sL encI x2.1.At,sL (encL Qaa) x2.1.Rings,sL Qba x2.1.Memory,sL Qca x2.1.Choices,sL Qaa x2.1.Out],aR 57 2 Q4a x4.1,.box [iI 0,iI 0]] ?_ (fun hS15=>?_)
          ·refine ra2 13 14 ?_ ?_
           ·refine RO.op rfl rfl (Q6a (en:=Q4a) (a:=x21) rfl rfl hx21 (Qna Ty.k57 Ty.c57 rfl (cs:=[iI x21.Node,iI x21.Lane]) rfl ?_))
            exact raS hS12 ⟨rfl,rfl,rfl,rfl,rfl,rfl,rfl,rfl,rfl,rfl,rfl,rfl,rfl,rfl,rfl,rfl,rfl,rfl,rfl,rfl,rfl,rfl,trivial⟩
           ·refine RO.op rfl rfl (Jja Ty.z57 rfl (aw':=[.box [sL Qga p0.Nodes,iI p0.Rings,iI p0.Room],.box [sL encI x2.1.At,sL (encL Qaa) x2.1.Rings,sL Qba x2.1.Memory,sL Qca x2.1.Choices,sL Qaa x2.1.Out],aR 57 2 Q4a x4.1,.box [iI 0,iI 0],.box [iI 0,iI 0]]) rfl ?_)
            exact raS hS10 ⟨rfl,rfl,rfl,rfl,rfl,rfl,rfl,rfl,rfl,rfl,rfl,rfl,rfl,rfl,rfl,rfl,rfl,rfl,rfl,rfl,rfl,rfl,trivial⟩
          ·refine RA.join 4 #[true,true,true,true,true,true,false,true,true,true,true,true,true,true,false,true,false,false] (mkA 160 ((16,.ptr 3 0)::(61,.ref 2)::(62,iI p3)::(63,.ref 2)::(64,iI ((x4.1).length:Int))::(65,iI x16)::(66,.aptr 2 2 x17 0)::(68,.ref 2)::(69,iI p4)::(70,.ref 2)::(71,iI ((x4.1).length:Int))::(72,iI x19)::(73,.aptr 2 2 x20 0)::(74,.agg [iI x21.Node,iI x21.Lane])::l30)) [.box [sL Qga p0.Nodes,iI p0.Rings,iI p0.Room],.box [sL encI x2.1.At,sL (encL Qaa) x2.1.Rings,sL Qba x2.1.Memory,sL Qca x2.1.Choices,sL Qaa x2.1.Out],aR 57 2 Q4a x4.1,.box [iI 0,iI 0]] ?_ (fun hS16=>?_)
           ·refine ra2 6 14 ?_ ?_
            ·refine RO.op rfl rfl (Q6a (en:=Q4a) (a:=x18) rfl rfl hx18 (Qna Ty.k57 Ty.c57 rfl (cs:=[iI x18.Node,iI x18.Lane]) rfl ?_))
             exact raS hS12 ⟨rfl,rfl,rfl,rfl,rfl,rfl,rfl,rfl,rfl,rfl,rfl,rfl,rfl,rfl,rfl,rfl,rfl,rfl,rfl,rfl,rfl,rfl,trivial⟩
            ·refine RO.op rfl rfl (Jja Ty.z57 rfl (aw':=[.box [sL Qga p0.Nodes,iI p0.Rings,iI p0.Room],.box [sL encI x2.1.At,sL (encL Qaa) x2.1.Rings,sL Qba x2.1.Memory,sL Qca x2.1.Choices,sL Qaa x2.1.Out],aR 57 2 Q4a x4.1,.box [iI 0,iI 0],.box [iI 0,iI 0]]) rfl ?_)
             exact raS hS11 ⟨rfl,rfl,rfl,rfl,rfl,rfl,rfl,rfl,rfl,rfl,rfl,rfl,rfl,rfl,rfl,rfl,rfl,rfl,rfl,rfl,rfl,rfl,trivial⟩
           ·refine RA.join 4 #[true,true,true,true,true,true,true,true,true,true,true,true,true,false,true,false,false,false] (mkA 160 ((15,.ptr 3 0)::(61,.ref 2)::(62,iI p3)::(63,.ref 2)::(64,iI ((x4.1).length:Int))::(65,iI x16)::(66,.aptr 2 2 x17 0)::(67,.agg [iI x18.Node,iI x18.Lane])::(68,.ref 2)::(69,iI p4)::(70,.ref 2)::(71,iI ((x4.1).length:Int))::(72,iI x19)::(73,.aptr 2 2 x20 0)::l30)) [.box [sL Qga p0.Nodes,iI p0.Rings,iI p0.Room],.box [sL encI x2.1.At,sL (encL Qaa) x2.1.Rings,sL Qba x2.1.Memory,sL Qca x2.1.Choices,sL Qaa x2.1.Out],aR 57 2 Q4a x4.1,.box [iI 0,iI 0]] ?_ (fun hS17=>?_)
            ·refine ra2 13 15 ?_ ?_
             ·refine RO.op rfl rfl (Q6a (en:=Q4a) (a:=x21) rfl rfl hx21 (Qna Ty.k57 Ty.c57 rfl (cs:=[iI x21.Node,iI x21.Lane]) rfl ?_))
              exact raS hS13 ⟨rfl,rfl,rfl,rfl,rfl,rfl,rfl,rfl,rfl,rfl,rfl,rfl,rfl,rfl,rfl,rfl,rfl,rfl,rfl,rfl,rfl,rfl,trivial⟩
             ·refine RO.op rfl rfl (Jja Ty.z57 rfl (aw':=[.box [sL Qga p0.Nodes,iI p0.Rings,iI p0.Room],.box [sL encI x2.1.At,sL (encL Qaa) x2.1.Rings,sL Qba x2.1.Memory,sL Qca x2.1.Choices,sL Qaa x2.1.Out],aR 57 2 Q4a x4.1,.box [iI 0,iI 0],.box [iI 0,iI 0]]) rfl ?_)
              exact raW hS10 (Weak.mkN [] [0,1,2,4,3] (by decide) (Qqa _) rfl ⟨Qua rfl,Qua rfl,Qta rfl,Qla rfl,Qta rfl,Qla rfl,Qla rfl,rn_aptr rfl rfl,J8a ⟨Qla rfl,Qla rfl,trivial⟩,Qta rfl,Qla rfl,Qta rfl,Qla rfl,Qla rfl,rn_aptr rfl rfl,rn_s rfl,Qla rfl,Qla rfl,Qua rfl,Qua rfl,Qta rfl,Jwa rfl,trivial⟩ (rw_bs [sL Qga p0.Nodes,iI p0.Rings,iI p0.Room] rfl (rw_bs [sL encI x2.1.At,sL (encL Qaa) x2.1.Rings,sL Qba x2.1.Memory,sL Qca x2.1.Choices,sL Qaa x2.1.Out] rfl (rw_ar rfl rfl (rw_bs [iI 0,iI 0] rfl (rw_bs [iI 0,iI 0] rfl (Qva)))))))
            ·refine RA.join 4 #[true,true,true,true,true,true,false,true,true,true,true,true,true,true,true,false,false,false] (mkA 160 ((15,.ptr 3 0)::(61,.ref 2)::(62,iI p3)::(63,.ref 2)::(64,iI ((x4.1).length:Int))::(65,iI x16)::(66,.aptr 2 2 x17 0)::(68,.ref 2)::(69,iI p4)::(70,.ref 2)::(71,iI ((x4.1).length:Int))::(72,iI x19)::(73,.aptr 2 2 x20 0)::(74,.agg [iI x21.Node,iI x21.Lane])::l30)) [.box [sL Qga p0.Nodes,iI p0.Rings,iI p0.Room],.box [sL encI x2.1.At,sL (encL Qaa) x2.1.Rings,sL Qba x2.1.Memory,sL Qca x2.1.Choices,sL Qaa x2.1.Out],aR 57 2 Q4a x4.1,.box [iI 0,iI 0]] ?_ (fun hS18=>?_)
             ·refine ra2 6 15 ?_ ?_
              ·refine RO.op rfl rfl (Q6a (en:=Q4a) (a:=x18) rfl rfl hx18 (Qna Ty.k57 Ty.c57 rfl (cs:=[iI x18.Node,iI x18.Lane]) rfl ?_))
               exact raS hS13 ⟨rfl,rfl,rfl,rfl,rfl,rfl,rfl,rfl,rfl,rfl,rfl,rfl,rfl,rfl,rfl,rfl,rfl,rfl,rfl,rfl,rfl,rfl,trivial⟩
              ·refine RO.op rfl rfl (Jja Ty.z57 rfl (aw':=[.box [sL Qga p0.Nodes,iI p0.Rings,iI p0.Room],.box [sL encI x2.1.At,sL (encL Qaa) x2.1.Rings,sL Qba x2.1.Memory,sL Qca x2.1.Choices,sL Qaa x2.1.Out],aR 57 2 Q4a x4.1,.box [iI 0,iI 0],.box [iI 0,iI 0]]) rfl ?_)
               exact raW hS11 (Weak.mkN [] [0,1,2,4,3] (by decide) (Qqa _) rfl ⟨Qua rfl,Qua rfl,Qta rfl,Qla rfl,Qta rfl,Qla rfl,Qla rfl,rn_aptr rfl rfl,Qta rfl,Qla rfl,Qta rfl,Qla rfl,Qla rfl,rn_aptr rfl rfl,J8a ⟨Qla rfl,Qla rfl,trivial⟩,rn_s rfl,Qla rfl,Qla rfl,Qua rfl,Qua rfl,Qta rfl,Jwa rfl,trivial⟩ (rw_bs [sL Qga p0.Nodes,iI p0.Rings,iI p0.Room] rfl (rw_bs [sL encI x2.1.At,sL (encL Qaa) x2.1.Rings,sL Qba x2.1.Memory,sL Qca x2.1.Choices,sL Qaa x2.1.Out] rfl (rw_ar rfl rfl (rw_bs [iI 0,iI 0] rfl (rw_bs [iI 0,iI 0] rfl (Qva)))))))
             ·refine RA.join 4 #[true,true,true,true,true,true,true,true,true,true,true,true,true,true,false,false,false,false] (mkA 160 ((61,.ref 2)::(62,iI p3)::(63,.ref 2)::(64,iI ((x4.1).length:Int))::(65,iI x16)::(66,.aptr 2 2 x17 0)::(67,.agg [iI x18.Node,iI x18.Lane])::(68,.ref 2)::(69,iI p4)::(70,.ref 2)::(71,iI ((x4.1).length:Int))::(72,iI x19)::(73,.aptr 2 2 x20 0)::(74,.agg [iI x21.Node,iI x21.Lane])::l30)) a30 ?_ (fun hS19=>?_)
              ·refine ra2 14 15 ?_ ?_
               ·refine RO.op rfl rfl (Jja Ty.z57 rfl (aw':=[.box [sL Qga p0.Nodes,iI p0.Rings,iI p0.Room],.box [sL encI x2.1.At,sL (encL Qaa) x2.1.Rings,sL Qba x2.1.Memory,sL Qca x2.1.Choices,sL Qaa x2.1.Out],aR 57 2 Q4a x4.1,.box [iI 0,iI 0]]) rfl ?_)
                exact raS hS13 ⟨rfl,rfl,rfl,rfl,rfl,rfl,rfl,rfl,rfl,rfl,rfl,rfl,rfl,rfl,rfl,rfl,rfl,rfl,rfl,rfl,rfl,rfl,trivial⟩
               ·refine RO.op rfl rfl (Jja Ty.z57 rfl (aw':=[.box [sL Qga p0.Nodes,iI p0.Rings,iI p0.Room],.box [sL encI x2.1.At,sL (encL Qaa) x2.1.Rings,sL Qba x2.1.Memory,sL Qca x2.1.Choices,sL Qaa x2.1.Out],aR 57 2 Q4a x4.1,.box [iI 0,iI 0]]) rfl ?_)
                exact raS hS12 ⟨rfl,rfl,rfl,rfl,rfl,rfl,rfl,rfl,rfl,rfl,rfl,rfl,rfl,rfl,rfl,rfl,rfl,rfl,rfl,rfl,rfl,rfl,trivial⟩
              ·refine RA.join 5 #[true,true,true,true,true,true,true,true,true,true,true,false,false,false,true,true,false,false] (mkA 160 ((15,.ptr 4 0)::(16,.ptr 3 0)::(61,.ref 2)::(62,iI p3)::(63,.ref 2)::(64,iI ((x4.1).length:Int))::(65,iI x16)::(66,.aptr 2 2 x17 0)::(67,.agg [iI x18.Node,iI x18.Lane])::(68,.ref 2)::(69,iI p4)::(70,.ref 2)::(71,iI ((x4.1).length:Int))::l30)) [.box [sL Qga p0.Nodes,iI p0.Rings,iI p0.Room],.box [sL encI x2.1.At,sL (encL Qaa) x2.1.Rings,sL Qba x2.1.Memory,sL Qca x2.1.Choices,sL Qaa x2.1.Out],aR 57 2 Q4a x4.1,.box [iI 0,iI 0],.box [iI 0,iI 0]] ?_ (fun hS20=>?_)
               ·refine ra1 11 (RO.op rfl rfl (Jfa (as0:=[iI p4,iI ((x4.1).length:Int)]) (as1:=[iI p4,iI ((x4.1).length:Int)]) (caps:=[]) (aw1:=[.box [sL Qga p0.Nodes,iI p0.Rings,iI p0.Room],.box [sL encI x2.1.At,sL (encL Qaa) x2.1.Rings,sL Qba x2.1.Memory,sL Qca x2.1.Choices,sL Qaa x2.1.Out],aR 57 2 Q4a x4.1,.box [iI 0,iI 0],.box [iI 0,iI 0]]) rfl rfl rfl (Zda (v:=iI x19) (Zta p4 ((x4.1).length:Int) x19 hx19) (⟨Qfa _ _,Qfa _ _,trivial⟩) rfl (rt0 12 rfl (Q5a (en:=Q4a) Ty.s53 rfl rfl rfl hx20 ?_)))))
                exact raS hS10 ⟨rfl,rfl,rfl,rfl,rfl,rfl,rfl,rfl,rfl,rfl,rfl,rfl,rfl,rfl,rfl,rfl,rfl,rfl,rfl,rfl,rfl,rfl,trivial⟩
               ·refine RA.join 5 #[true,true,true,true,true,true,false,true,true,true,true,true,true,false,false,true,false,false] (mkA 160 ((16,.ptr 3 0)::(61,.ref 2)::(62,iI p3)::(63,.ref 2)::(64,iI ((x4.1).length:Int))::(65,iI x16)::(66,.aptr 2 2 x17 0)::(68,.ref 2)::(69,iI p4)::(70,.ref 2)::(71,iI ((x4.1).length:Int))::(72,iI x19)::(73,.aptr 2 2 x20 0)::l30)) [.box [sL Qga p0.Nodes,iI p0.Rings,iI p0.Room],.box [sL encI x2.1.At,sL (encL Qaa) x2.1.Rings,sL Qba x2.1.Memory,sL Qca x2.1.Choices,sL Qaa x2.1.Out],aR 57 2 Q4a x4.1,.box [iI 0,iI 0]] ?_ (fun hS21=>?_)
                ·refine ra3 6 13 14 ?_ ?_ ?_
                 ·refine RO.op rfl rfl (Q6a (en:=Q4a) (a:=x18) rfl rfl hx18 (Qna Ty.k57 Ty.c57 rfl (cs:=[iI x18.Node,iI x18.Lane]) rfl ?_))
                  exact raS hS15 ⟨rfl,rfl,rfl,rfl,rfl,rfl,rfl,rfl,rfl,rfl,rfl,rfl,rfl,rfl,rfl,rfl,rfl,rfl,rfl,rfl,rfl,trivial⟩
                 ·refine RO.op rfl rfl (Q6a (en:=Q4a) (a:=x21) rfl rfl hx21 (Qna Ty.k57 Ty.c57 rfl (cs:=[iI x21.Node,iI x21.Lane]) rfl ?_))
                  exact raS hS16 ⟨rfl,rfl,rfl,rfl,rfl,rfl,rfl,rfl,rfl,rfl,rfl,rfl,rfl,rfl,rfl,rfl,rfl,rfl,rfl,rfl,rfl,trivial⟩
                 ·refine RO.op rfl rfl (Jja Ty.z57 rfl (aw':=[.box [sL Qga p0.Nodes,iI p0.Rings,iI p0.Room],.box [sL encI x2.1.At,sL (encL Qaa) x2.1.Rings,sL Qba x2.1.Memory,sL Qca x2.1.Choices,sL Qaa x2.1.Out],aR 57 2 Q4a x4.1,.box [iI 0,iI 0],.box [iI 0,iI 0]]) rfl ?_)
                  exact raS hS14 ⟨rfl,rfl,rfl,rfl,rfl,rfl,rfl,rfl,rfl,rfl,rfl,rfl,rfl,rfl,rfl,rfl,rfl,rfl,rfl,rfl,rfl,trivial⟩
                ·refine RA.join 5 #[true,true,true,true,true,true,false,true,true,true,true,true,true,false,true,false,false,false] (mkA 160 ((15,.ptr 3 0)::(61,.ref 2)::(62,iI p3)::(63,.ref 2)::(64,iI ((x4.1).length:Int))::(65,iI x16)::(66,.aptr 2 2 x17 0)::(68,.ref 2)::(69,iI p4)::(70,.ref 2)::(71,iI ((x4.1).length:Int))::(72,iI x19)::(73,.aptr 2 2 x20 0)::l30)) [.box [sL Qga p0.Nodes,iI p0.Rings,iI p0.Room],.box [sL encI x2.1.At,sL (encL Qaa) x2.1.Rings,sL Qba x2.1.Memory,sL Qca x2.1.Choices,sL Qaa x2.1.Out],aR 57 2 Q4a x4.1,.box [iI 0,iI 0]] ?_ (fun hS22=>?_)
                 ·refine ra3 6 13 15 ?_ ?_ ?_
                  ·refine RO.op rfl rfl (Q6a (en:=Q4a) (a:=x18) rfl rfl hx18 (Qna Ty.k57 Ty.c57 rfl (cs:=[iI x18.Node,iI x18.Lane]) rfl ?_))
                   exact raS hS17 ⟨rfl,rfl,rfl,rfl,rfl,rfl,rfl,rfl,rfl,rfl,rfl,rfl,rfl,rfl,rfl,rfl,rfl,rfl,rfl,rfl,rfl,trivial⟩
                  ·refine RO.op rfl rfl (Q6a (en:=Q4a) (a:=x21) rfl rfl hx21 (Qna Ty.k57 Ty.c57 rfl (cs:=[iI x21.Node,iI x21.Lane]) rfl ?_))
                   exact raS hS18 ⟨rfl,rfl,rfl,rfl,rfl,rfl,rfl,rfl,rfl,rfl,rfl,rfl,rfl,rfl,rfl,rfl,rfl,rfl,rfl,rfl,rfl,trivial⟩
                  ·refine RO.op rfl rfl (Jja Ty.z57 rfl (aw':=[.box [sL Qga p0.Nodes,iI p0.Rings,iI p0.Room],.box [sL encI x2.1.At,sL (encL Qaa) x2.1.Rings,sL Qba x2.1.Memory,sL Qca x2.1.Choices,sL Qaa x2.1.Out],aR 57 2 Q4a x4.1,.box [iI 0,iI 0],.box [iI 0,iI 0]]) rfl ?_)
                   exact raW hS14 (Weak.mkN [] [0,1,2,4,3] (by decide) (Qqa _) rfl ⟨Qua rfl,Qua rfl,Qta rfl,Qla rfl,Qta rfl,Qla rfl,Qla rfl,rn_aptr rfl rfl,Qta rfl,Qla rfl,Qta rfl,Qla rfl,Qla rfl,rn_aptr rfl rfl,rn_s rfl,Qla rfl,Qla rfl,Qua rfl,Qua rfl,Qta rfl,Jwa rfl,trivial⟩ (rw_bs [sL Qga p0.Nodes,iI p0.Rings,iI p0.Room] rfl (rw_bs [sL encI x2.1.At,sL (encL Qaa) x2.1.Rings,sL Qba x2.1.Memory,sL Qca x2.1.Choices,sL Qaa x2.1.Out] rfl (rw_ar rfl rfl (rw_bs [iI 0,iI 0] rfl (rw_bs [iI 0,iI 0] rfl (Qva)))))))
                 ·refine RA.join 5 #[true,true,true,true,true,true,true,true,true,true,true,true,true,false,false,false,false,false] (mkA 160 ((61,.ref 2)::(62,iI p3)::(63,.ref 2)::(64,iI ((x4.1).length:Int))::(65,iI x16)::(66,.aptr 2 2 x17 0)::(67,.agg [iI x18.Node,iI x18.Lane])::(68,.ref 2)::(69,iI p4)::(70,.ref 2)::(71,iI ((x4.1).length:Int))::(72,iI x19)::(73,.aptr 2 2 x20 0)::l30)) a30 ?_ (fun hS23=>?_)
                  ·refine ra3 13 14 15 ?_ ?_ ?_
                   ·refine RO.op rfl rfl (Q6a (en:=Q4a) (a:=x21) rfl rfl hx21 (Qna Ty.k57 Ty.c57 rfl (cs:=[iI x21.Node,iI x21.Lane]) rfl ?_))
                    exact raS hS19 ⟨rfl,rfl,rfl,rfl,rfl,rfl,rfl,rfl,rfl,rfl,rfl,rfl,rfl,rfl,rfl,rfl,rfl,rfl,rfl,rfl,rfl,trivial⟩
                   ·refine RO.op rfl rfl (Jja Ty.z57 rfl (aw':=[.box [sL Qga p0.Nodes,iI p0.Rings,iI p0.Room],.box [sL encI x2.1.At,sL (encL Qaa) x2.1.Rings,sL Qba x2.1.Memory,sL Qca x2.1.Choices,sL Qaa x2.1.Out],aR 57 2 Q4a x4.1,.box [iI 0,iI 0]]) rfl ?_)
                    exact raS hS17 ⟨rfl,rfl,rfl,rfl,rfl,rfl,rfl,rfl,rfl,rfl,rfl,rfl,rfl,rfl,rfl,rfl,rfl,rfl,rfl,rfl,rfl,trivial⟩
                   ·refine RO.op rfl rfl (Jja Ty.z57 rfl (aw':=[.box [sL Qga p0.Nodes,iI p0.Rings,iI p0.Room],.box [sL encI x2.1.At,sL (encL Qaa) x2.1.Rings,sL Qba x2.1.Memory,sL Qca x2.1.Choices,sL Qaa x2.1.Out],aR 57 2 Q4a x4.1,.box [iI 0,iI 0]]) rfl ?_)
                    exact raS hS15 ⟨rfl,rfl,rfl,rfl,rfl,rfl,rfl,rfl,rfl,rfl,rfl,rfl,rfl,rfl,rfl,rfl,rfl,rfl,rfl,rfl,rfl,trivial⟩
                  ·refine RA.join 6 #[true,true,true,true,true,true,false,true,true,true,true,false,false,false,true,true,false,false] (mkA 160 ((15,.ptr 4 0)::(16,.ptr 3 0)::(61,.ref 2)::(62,iI p3)::(63,.ref 2)::(64,iI ((x4.1).length:Int))::(65,iI x16)::(66,.aptr 2 2 x17 0)::(68,.ref 2)::(69,iI p4)::(70,.ref 2)::(71,iI ((x4.1).length:Int))::l30)) [.box [sL Qga p0.Nodes,iI p0.Rings,iI p0.Room],.box [sL encI x2.1.At,sL (encL Qaa) x2.1.Rings,sL Qba x2.1.Memory,sL Qca x2.1.Choices,sL Qaa x2.1.Out],aR 57 2 Q4a x4.1,.box [iI 0,iI 0],.box [iI 0,iI 0]] ?_ (fun hS24=>?_)
                   ·refine ra2 6 11 ?_ ?_
                    ·refine RO.op rfl rfl (Q6a (en:=Q4a) (a:=x18) rfl rfl hx18 (Qna Ty.k57 Ty.c57 rfl (cs:=[iI x18.Node,iI x18.Lane]) rfl ?_))
                     exact raS hS20 ⟨rfl,rfl,rfl,rfl,rfl,rfl,rfl,rfl,rfl,rfl,rfl,rfl,rfl,rfl,rfl,rfl,rfl,rfl,rfl,rfl,trivial⟩
                    ·refine RO.op rfl rfl (Jfa (as0:=[iI p4,iI ((x4.1).length:Int)]) (as1:=[iI p4,iI ((x4.1).length:Int)]) (caps:=[]) (aw1:=[.box [sL Qga p0.Nodes,iI p0.Rings,iI p0.Room],.box [sL encI x2.1.At,sL (encL Qaa) x2.1.Rings,sL Qba x2.1.Memory,sL Qca x2.1.Choices,sL Qaa x2.1.Out],aR 57 2 Q4a x4.1,.box [iI 0,iI 0],.box [iI 0,iI 0]]) rfl rfl rfl (Zda (v:=iI x19) (Zta p4 ((x4.1).length:Int) x19 hx19) (⟨Qfa _ _,Qfa _ _,trivial⟩) rfl (rt0 12 rfl (Q5a (en:=Q4a) Ty.s53 rfl rfl rfl hx20 ?_))))
                     exact raS hS14 ⟨rfl,rfl,rfl,rfl,rfl,rfl,rfl,rfl,rfl,rfl,rfl,rfl,rfl,rfl,rfl,rfl,rfl,rfl,rfl,rfl,rfl,trivial⟩
                   ·refine RA.join 6 #[true,true,true,true,true,true,true,true,true,true,true,false,false,false,false,true,false,false] (mkA 160 ((16,.ptr 3 0)::(61,.ref 2)::(62,iI p3)::(63,.ref 2)::(64,iI ((x4.1).length:Int))::(65,iI x16)::(66,.aptr 2 2 x17 0)::(67,.agg [iI x18.Node,iI x18.Lane])::(68,.ref 2)::(69,iI p4)::(70,.ref 2)::(71,iI ((x4.1).length:Int))::l30)) [.box [sL Qga p0.Nodes,iI p0.Rings,iI p0.Room],.box [sL encI x2.1.At,sL (encL Qaa) x2.1.Rings,sL Qba x2.1.Memory,sL Qca x2.1.Choices,sL Qaa x2.1.Out],aR 57 2 Q4a x4.1,.box [iI 0,iI 0]] ?_ (fun hS25=>?_)
                    ·refine ra2 11 14 ?_ ?_
                     ·refine RO.op rfl rfl (Jfa (as0:=[iI p4,iI ((x4.1).length:Int)]) (as1:=[iI p4,iI ((x4.1).length:Int)]) (caps:=[]) (aw1:=[.box [sL Qga p0.Nodes,iI p0.Rings,iI p0.Room],.box [sL encI x2.1.At,sL (encL Qaa) x2.1.Rings,sL Qba x2.1.Memory,sL Qca x2.1.Choices,sL Qaa x2.1.Out],aR 57 2 Q4a x4.1,.box [iI 0,iI 0]]) rfl rfl rfl (Zda (v:=iI x19) (Zta p4 ((x4.1).length:Int) x19 hx19) (⟨Qfa _ _,Qfa _ _,trivial⟩) rfl (rt0 12 rfl (Q5a (en:=Q4a) Ty.s53 rfl rfl rfl hx20 ?_))))
                      exact raS hS15 ⟨rfl,rfl,rfl,rfl,rfl,rfl,rfl,rfl,rfl,rfl,rfl,rfl,rfl,rfl,rfl,rfl,rfl,rfl,rfl,rfl,rfl,trivial⟩
                     ·refine RO.op rfl rfl (Jja Ty.z57 rfl (aw':=[.box [sL Qga p0.Nodes,iI p0.Rings,iI p0.Room],.box [sL encI x2.1.At,sL (encL Qaa) x2.1.Rings,sL Qba x2.1.Memory,sL Qca x2.1.Choices,sL Qaa x2.1.Out],aR 57 2 Q4a x4.1,.box [iI 0,iI 0],.box [iI 0,iI 0]]) rfl ?_)
                      exact raS hS20 ⟨rfl,rfl,rfl,rfl,rfl,rfl,rfl,rfl,rfl,rfl,rfl,rfl,rfl,rfl,rfl,rfl,rfl,rfl,rfl,rfl,trivial⟩
                    ·refine RA.join 6 #[true,true,true,true,true,true,true,true,true,true,true,false,false,false,true,false,false,false] (mkA 160 ((15,.ptr 3 0)::(61,.ref 2)::(62,iI p3)::(63,.ref 2)::(64,iI ((x4.1).length:Int))::(65,iI x16)::(66,.aptr 2 2 x17 0)::(67,.agg [iI x18.Node,iI x18.Lane])::(68,.ref 2)::(69,iI p4)::(70,.ref 2)::(71,iI ((x4.1).length:Int))::l30)) [.box [sL Qga p0.Nodes,iI p0.Rings,iI p0.Room],.box [sL encI x2.1.At,sL (encL Qaa) x2.1.Rings,sL Qba x2.1.Memory,sL Qca x2.1.Choices,sL Qaa x2.1.Out],aR 57 2 Q4a x4.1,.box [iI 0,iI 0]] ?_ (fun hS26=>?_)
                     ·refine ra2 11 15 ?_ ?_
                      ·refine RO.op rfl rfl (Jfa (as0:=[iI p4,iI ((x4.1).length:Int)]) (as1:=[iI p4,iI ((x4.1).length:Int)]) (caps:=[]) (aw1:=[.box [sL Qga p0.Nodes,iI p0.Rings,iI p0.Room],.box [sL encI x2.1.At,sL (encL Qaa) x2.1.Rings,sL Qba x2.1.Memory,sL Qca x2.1.Choices,sL Qaa x2.1.Out],aR 57 2 Q4a x4.1,.box [iI 0,iI 0]]) rfl rfl rfl (Zda (v:=iI x19) (Zta p4 ((x4.1).length:Int) x19 hx19) (⟨Qfa _ _,Qfa _ _,trivial⟩) rfl (rt0 12 rfl (Q5a (en:=Q4a) Ty.s53 rfl rfl rfl hx20 ?_))))
                       exact raS hS17 ⟨rfl,rfl,rfl,rfl,rfl,rfl,rfl,rfl,rfl,rfl,rfl,rfl,rfl,rfl,rfl,rfl,rfl,rfl,rfl,rfl,rfl,trivial⟩
                      ·refine RO.op rfl rfl (Jja Ty.z57 rfl (aw':=[.box [sL Qga p0.Nodes,iI p0.Rings,iI p0.Room],.box [sL encI x2.1.At,sL (encL Qaa) x2.1.Rings,sL Qba x2.1.Memory,sL Qca x2.1.Choices,sL Qaa x2.1.Out],aR 57 2 Q4a x4.1,.box [iI 0,iI 0],.box [iI 0,iI 0]]) rfl ?_)
                       exact raW hS20 (Weak.mkN [] [0,1,2,4,3] (by decide) (Qqa _) rfl ⟨Qua rfl,Qua rfl,Qta rfl,Qla rfl,Qta rfl,Qla rfl,Qla rfl,rn_aptr rfl rfl,J8a ⟨Qla rfl,Qla rfl,trivial⟩,Qta rfl,Qla rfl,Qta rfl,Qla rfl,rn_s rfl,Qla rfl,Qla rfl,Qua rfl,Qua rfl,Qta rfl,Jwa rfl,trivial⟩ (rw_bs [sL Qga p0.Nodes,iI p0.Rings,iI p0.Room] rfl (rw_bs [sL encI x2.1.At,sL (encL Qaa) x2.1.Rings,sL Qba x2.1.Memory,sL Qca x2.1.Choices,sL Qaa x2.1.Out] rfl (rw_ar rfl rfl (rw_bs [iI 0,iI 0] rfl (rw_bs [iI 0,iI 0] rfl (Qva)))))))
                     ·refine RA.join 7 #[true,true,true,true,true,true,false,true,true,true,true,false,false,false,false,true,false,false] (mkA 160 ((16,.ptr 3 0)::(61,.ref 2)::(62,iI p3)::(63,.ref 2)::(64,iI ((x4.1).length:Int))::(65,iI x16)::(66,.aptr 2 2 x17 0)::(68,.ref 2)::(69,iI p4)::(70,.ref 2)::(71,iI ((x4.1).length:Int))::l30)) [.box [sL Qga p0.Nodes,iI p0.Rings,iI p0.Room],.box [sL encI x2.1.At,sL (encL Qaa) x2.1.Rings,sL Qba x2.1.Memory,sL Qca x2.1.Choices,sL Qaa x2.1.Out],aR 57 2 Q4a x4.1,.box [iI 0,iI 0]] ?_ (fun hS27=>?_)
                      ·refine ra3 6 11 14 ?_ ?_ ?_
                       ·refine RO.op rfl rfl (Q6a (en:=Q4a) (a:=x18) rfl rfl hx18 (Qna Ty.k57 Ty.c57 rfl (cs:=[iI x18.Node,iI x18.Lane]) rfl ?_))
                        exact raS hS25 ⟨rfl,rfl,rfl,rfl,rfl,rfl,rfl,rfl,rfl,rfl,rfl,rfl,rfl,rfl,rfl,rfl,rfl,rfl,rfl,trivial⟩
                       ·refine RO.op rfl rfl (Jfa (as0:=[iI p4,iI ((x4.1).length:Int)]) (as1:=[iI p4,iI ((x4.1).length:Int)]) (caps:=[]) (aw1:=[.box [sL Qga p0.Nodes,iI p0.Rings,iI p0.Room],.box [sL encI x2.1.At,sL (encL Qaa) x2.1.Rings,sL Qba x2.1.Memory,sL Qca x2.1.Choices,sL Qaa x2.1.Out],aR 57 2 Q4a x4.1,.box [iI 0,iI 0]]) rfl rfl rfl (Zda (v:=iI x19) (Zta p4 ((x4.1).length:Int) x19 hx19) (⟨Qfa _ _,Qfa _ _,trivial⟩) rfl (rt0 12 rfl (Q5a (en:=Q4a) Ty.s53 rfl rfl rfl hx20 ?_))))
                        exact raS hS21 ⟨rfl,rfl,rfl,rfl,rfl,rfl,rfl,rfl,rfl,rfl,rfl,rfl,rfl,rfl,rfl,rfl,rfl,rfl,rfl,rfl,trivial⟩
                       ·refine RO.op rfl rfl (Jja Ty.z57 rfl (aw':=[.box [sL Qga p0.Nodes,iI p0.Rings,iI p0.Room],.box [sL encI x2.1.At,sL (encL Qaa) x2.1.Rings,sL Qba x2.1.Memory,sL Qca x2.1.Choices,sL Qaa x2.1.Out],aR 57 2 Q4a x4.1,.box [iI 0,iI 0],.box [iI 0,iI 0]]) rfl ?_)
                        exact raS hS24 ⟨rfl,rfl,rfl,rfl,rfl,rfl,rfl,rfl,rfl,rfl,rfl,rfl,rfl,rfl,rfl,rfl,rfl,rfl,rfl,trivial⟩
                      ·refine RA.join 7 #[true,true,true,true,true,true,false,true,true,true,true,false,false,false,true,false,false,false] (mkA 160 ((15,.ptr 3 0)::(61,.ref 2)::(62,iI p3)::(63,.ref 2)::(64,iI ((x4.1).length:Int))::(65,iI x16)::(66,.aptr 2 2 x17 0)::(68,.ref 2)::(69,iI p4)::(70,.ref 2)::(71,iI ((x4.1).length:Int))::l30)) [.box [sL Qga p0.Nodes,iI p0.Rings,iI p0.Room],.box [sL encI x2.1.At,sL (encL Qaa) x2.1.Rings,sL Qba x2.1.Memory,sL Qca x2.1.Choices,sL Qaa x2.1.Out],aR 57 2 Q4a x4.1,.box [iI 0,iI 0]] ?_ (fun hS28=>?_)
                       ·refine ra3 6 11 15 ?_ ?_ ?_
                        ·refine RO.op rfl rfl (Q6a (en:=Q4a) (a:=x18) rfl rfl hx18 (Qna Ty.k57 Ty.c57 rfl (cs:=[iI x18.Node,iI x18.Lane]) rfl ?_))
                         exact raS hS26 ⟨rfl,rfl,rfl,rfl,rfl,rfl,rfl,rfl,rfl,rfl,rfl,rfl,rfl,rfl,rfl,rfl,rfl,rfl,rfl,trivial⟩
                        ·refine RO.op rfl rfl (Jfa (as0:=[iI p4,iI ((x4.1).length:Int)]) (as1:=[iI p4,iI ((x4.1).length:Int)]) (caps:=[]) (aw1:=[.box [sL Qga p0.Nodes,iI p0.Rings,iI p0.Room],.box [sL encI x2.1.At,sL (encL Qaa) x2.1.Rings,sL Qba x2.1.Memory,sL Qca x2.1.Choices,sL Qaa x2.1.Out],aR 57 2 Q4a x4.1,.box [iI 0,iI 0]]) rfl rfl rfl (Zda (v:=iI x19) (Zta p4 ((x4.1).length:Int) x19 hx19) (⟨Qfa _ _,Qfa _ _,trivial⟩) rfl (rt0 12 rfl (Q5a (en:=Q4a) Ty.s53 rfl rfl rfl hx20 ?_))))
                         exact raS hS22 ⟨rfl,rfl,rfl,rfl,rfl,rfl,rfl,rfl,rfl,rfl,rfl,rfl,rfl,rfl,rfl,rfl,rfl,rfl,rfl,rfl,trivial⟩
                        ·refine RO.op rfl rfl (Jja Ty.z57 rfl (aw':=[.box [sL Qga p0.Nodes,iI p0.Rings,iI p0.Room],.box [sL encI x2.1.At,sL (encL Qaa) x2.1.Rings,sL Qba x2.1.Memory,sL Qca x2.1.Choices,sL Qaa x2.1.Out],aR 57 2 Q4a x4.1,.box [iI 0,iI 0],.box [iI 0,iI 0]]) rfl ?_)
                         exact raW hS24 (Weak.mkN [] [0,1,2,4,3] (by decide) (Qqa _) rfl ⟨Qua rfl,Qua rfl,Qta rfl,Qla rfl,Qta rfl,Qla rfl,Qla rfl,rn_aptr rfl rfl,Qta rfl,Qla rfl,Qta rfl,Qla rfl,rn_s rfl,Qla rfl,Qla rfl,Qua rfl,Qua rfl,Qta rfl,Jwa rfl,trivial⟩ (rw_bs [sL Qga p0.Nodes,iI p0.Rings,iI p0.Room] rfl (rw_bs [sL encI x2.1.At,sL (encL Qaa) x2.1.Rings,sL Qba x2.1.Memory,sL Qca x2.1.Choices,sL Qaa x2.1.Out] rfl (rw_ar rfl rfl (rw_bs [iI 0,iI 0] rfl (rw_bs [iI 0,iI 0] rfl (Qva)))))))
                       ·refine RA.join 8 #[true,true,true,true,false,false,false,true,true,true,true,false,false,false,true,true,false,false] (mkA 160 ((15,.ptr 4 0)::(16,.ptr 3 0)::(61,.ref 2)::(62,iI p3)::(63,.ref 2)::(64,iI ((x4.1).length:Int))::(68,.ref 2)::(69,iI p4)::(70,.ref 2)::(71,iI ((x4.1).length:Int))::l30)) [.box [sL Qga p0.Nodes,iI p0.Rings,iI p0.Room],.box [sL encI x2.1.At,sL (encL Qaa) x2.1.Rings,sL Qba x2.1.Memory,sL Qca x2.1.Choices,sL Qaa x2.1.Out],aR 57 2 Q4a x4.1,.box [iI 0,iI 0],.box [iI 0,iI 0]] ?_ (fun hS29=>?_)
                        ·refine ra1 4 (RO.op rfl rfl (Jfa (as0:=[iI p3,iI ((x4.1).length:Int)]) (as1:=[iI p3,iI ((x4.1).length:Int)]) (caps:=[]) (aw1:=[.box [sL Qga p0.Nodes,iI p0.Rings,iI p0.Room],.box [sL encI x2.1.At,sL (encL Qaa) x2.1.Rings,sL Qba x2.1.Memory,sL Qca x2.1.Choices,sL Qaa x2.1.Out],aR 57 2 Q4a x4.1,.box [iI 0,iI 0],.box [iI 0,iI 0]]) rfl rfl rfl (Zda (v:=iI x16) (Zta p3 ((x4.1).length:Int) x16 hx16) (⟨Qfa _ _,Qfa _ _,trivial⟩) rfl (rt0 5 rfl (Q5a (en:=Q4a) Ty.s53 rfl rfl rfl hx17 ?_)))))
                         exact raS hS24 ⟨rfl,rfl,rfl,rfl,rfl,rfl,rfl,rfl,rfl,rfl,rfl,rfl,rfl,rfl,rfl,rfl,rfl,rfl,rfl,trivial⟩
                        ·refine rt0 0 rfl (Qwa (v:=.ref 2) rfl (rt0 1 rfl (Qwa (v:=iI p3) rfl (rt0 2 rfl (Qwa (v:=.ref 2) rfl (rt0 3 rfl (Vga (en:=Q4a) Ty.s53 rfl rfl (rt0 7 rfl (Qwa (v:=.ref 2) rfl (rt0 8 rfl (Qwa (v:=iI p4) rfl (rt0 9 rfl (Qwa (v:=.ref 2) rfl (rt0 10 rfl (Vga (en:=Q4a) Ty.s53 rfl rfl (ra3 4 14 15 ?_ ?_ ?_))))))))))))))))
                         ·refine RO.op rfl rfl (Jfa (as0:=[iI p3,iI ((x4.1).length:Int)]) (as1:=[iI p3,iI ((x4.1).length:Int)]) (caps:=[]) (aw1:=[.box [sL Qga p0.Nodes,iI p0.Rings,iI p0.Room],.box [sL encI x2.1.At,sL (encL Qaa) x2.1.Rings,sL Qba x2.1.Memory,sL Qca x2.1.Choices,sL Qaa x2.1.Out],aR 57 2 Q4a x4.1]) rfl rfl rfl (Zda (v:=iI x16) (Zta p3 ((x4.1).length:Int) x16 hx16) (⟨Qfa _ _,Qfa _ _,trivial⟩) rfl (rt0 5 rfl (Q5a (en:=Q4a) Ty.s53 rfl rfl rfl hx17 (ra4 6 11 14 15 ?_ ?_ ?_ ?_)))))
                          ·refine RO.op rfl rfl (Q6a (en:=Q4a) (a:=x18) rfl rfl hx18 (Qna Ty.k57 Ty.c57 rfl (cs:=[iI x18.Node,iI x18.Lane]) rfl (ra3 11 14 15 ?_ ?_ ?_)))
                           ·refine RO.op rfl rfl (Jfa (as0:=[iI p4,iI ((x4.1).length:Int)]) (as1:=[iI p4,iI ((x4.1).length:Int)]) (caps:=[]) (aw1:=[.box [sL Qga p0.Nodes,iI p0.Rings,iI p0.Room],.box [sL encI x2.1.At,sL (encL Qaa) x2.1.Rings,sL Qba x2.1.Memory,sL Qca x2.1.Choices,sL Qaa x2.1.Out],aR 57 2 Q4a x4.1]) rfl rfl rfl (Zda (v:=iI x19) (Zta p4 ((x4.1).length:Int) x19 hx19) (⟨Qfa _ _,Qfa _ _,trivial⟩) rfl (rt0 12 rfl (Q5a (en:=Q4a) Ty.s53 rfl rfl rfl hx20 ?_))))
                            exact raS hS23 ⟨rfl,rfl,rfl,rfl,rfl,rfl,rfl,rfl,rfl,rfl,rfl,rfl,rfl,rfl,rfl,rfl,rfl,rfl,rfl,rfl,trivial⟩
                           ·refine RO.op rfl rfl (Jja Ty.z57 rfl (aw':=[.box [sL Qga p0.Nodes,iI p0.Rings,iI p0.Room],.box [sL encI x2.1.At,sL (encL Qaa) x2.1.Rings,sL Qba x2.1.Memory,sL Qca x2.1.Choices,sL Qaa x2.1.Out],aR 57 2 Q4a x4.1,.box [iI 0,iI 0]]) rfl ?_)
                            exact raS hS26 ⟨rfl,rfl,rfl,rfl,rfl,rfl,rfl,rfl,rfl,rfl,rfl,rfl,rfl,rfl,rfl,rfl,rfl,rfl,rfl,trivial⟩
                           ·refine RO.op rfl rfl (Jja Ty.z57 rfl (aw':=[.box [sL Qga p0.Nodes,iI p0.Rings,iI p0.Room],.box [sL encI x2.1.At,sL (encL Qaa) x2.1.Rings,sL Qba x2.1.Memory,sL Qca x2.1.Choices,sL Qaa x2.1.Out],aR 57 2 Q4a x4.1,.box [iI 0,iI 0]]) rfl ?_)
                            exact raS hS25 ⟨rfl,rfl,rfl,rfl,rfl,rfl,rfl,rfl,rfl,rfl,rfl,rfl,rfl,rfl,rfl,rfl,rfl,rfl,rfl,trivial⟩
                          ·refine RO.op rfl rfl (Jfa (as0:=[iI p4,iI ((x4.1).length:Int)]) (as1:=[iI p4,iI ((x4.1).length:Int)]) (caps:=[]) (aw1:=[.box [sL Qga p0.Nodes,iI p0.Rings,iI p0.Room],.box [sL encI x2.1.At,sL (encL Qaa) x2.1.Rings,sL Qba x2.1.Memory,sL Qca x2.1.Choices,sL Qaa x2.1.Out],aR 57 2 Q4a x4.1]) rfl rfl rfl (Zda (v:=iI x19) (Zta p4 ((x4.1).length:Int) x19 hx19) (⟨Qfa _ _,Qfa _ _,trivial⟩) rfl (rt0 12 rfl (Q5a (en:=Q4a) Ty.s53 rfl rfl rfl hx20 (ra4 6 13 14 15 ?_ ?_ ?_ ?_)))))
                           ·refine RO.op rfl rfl (Q6a (en:=Q4a) (a:=x18) rfl rfl hx18 (Qna Ty.k57 Ty.c57 rfl (cs:=[iI x18.Node,iI x18.Lane]) rfl ?_))
                            exact raS hS23 ⟨rfl,rfl,rfl,rfl,rfl,rfl,rfl,rfl,rfl,rfl,rfl,rfl,rfl,rfl,rfl,rfl,rfl,rfl,rfl,rfl,trivial⟩
                           ·refine RO.op rfl rfl (Q6a (en:=Q4a) (a:=x21) rfl rfl hx21 (Qna Ty.k57 Ty.c57 rfl (cs:=[iI x21.Node,iI x21.Lane]) rfl (ra3 6 14 15 ?_ ?_ ?_)))
                            ·refine RO.op rfl rfl (Q6a (en:=Q4a) (a:=x18) rfl rfl hx18 (Qna Ty.k57 Ty.c57 rfl (cs:=[iI x18.Node,iI x18.Lane]) rfl ?_))
                             exact raS hS19 ⟨rfl,rfl,rfl,rfl,rfl,rfl,rfl,rfl,rfl,rfl,rfl,rfl,rfl,rfl,rfl,rfl,rfl,rfl,rfl,rfl,rfl,trivial⟩
                            ·refine RO.op rfl rfl (Jja Ty.z57 rfl (aw':=[.box [sL Qga p0.Nodes,iI p0.Rings,iI p0.Room],.box [sL encI x2.1.At,sL (encL Qaa) x2.1.Rings,sL Qba x2.1.Memory,sL Qca x2.1.Choices,sL Qaa x2.1.Out],aR 57 2 Q4a x4.1,.box [iI 0,iI 0]]) rfl ?_)
                             exact raS hS18 ⟨rfl,rfl,rfl,rfl,rfl,rfl,rfl,rfl,rfl,rfl,rfl,rfl,rfl,rfl,rfl,rfl,rfl,rfl,rfl,rfl,rfl,trivial⟩
                            ·refine RO.op rfl rfl (Jja Ty.z57 rfl (aw':=[.box [sL Qga p0.Nodes,iI p0.Rings,iI p0.Room],.box [sL encI x2.1.At,sL (encL Qaa) x2.1.Rings,sL Qba x2.1.Memory,sL Qca x2.1.Choices,sL Qaa x2.1.Out],aR 57 2 Q4a x4.1,.box [iI 0,iI 0]]) rfl ?_)
                             exact raS hS16 ⟨rfl,rfl,rfl,rfl,rfl,rfl,rfl,rfl,rfl,rfl,rfl,rfl,rfl,rfl,rfl,rfl,rfl,rfl,rfl,rfl,rfl,trivial⟩
                           ·refine RO.op rfl rfl (Jja Ty.z57 rfl (aw':=[.box [sL Qga p0.Nodes,iI p0.Rings,iI p0.Room],.box [sL encI x2.1.At,sL (encL Qaa) x2.1.Rings,sL Qba x2.1.Memory,sL Qca x2.1.Choices,sL Qaa x2.1.Out],aR 57 2 Q4a x4.1,.box [iI 0,iI 0]]) rfl ?_)
                            exact raS hS22 ⟨rfl,rfl,rfl,rfl,rfl,rfl,rfl,rfl,rfl,rfl,rfl,rfl,rfl,rfl,rfl,rfl,rfl,rfl,rfl,rfl,trivial⟩
                           ·refine RO.op rfl rfl (Jja Ty.z57 rfl (aw':=[.box [sL Qga p0.Nodes,iI p0.Rings,iI p0.Room],.box [sL encI x2.1.At,sL (encL Qaa) x2.1.Rings,sL Qba x2.1.Memory,sL Qca x2.1.Choices,sL Qaa x2.1.Out],aR 57 2 Q4a x4.1,.box [iI 0,iI 0]]) rfl ?_)
                            exact raS hS21 ⟨rfl,rfl,rfl,rfl,rfl,rfl,rfl,rfl,rfl,rfl,rfl,rfl,rfl,rfl,rfl,rfl,rfl,rfl,rfl,rfl,trivial⟩
                          ·refine RO.op rfl rfl (Jja Ty.z57 rfl (aw':=[.box [sL Qga p0.Nodes,iI p0.Rings,iI p0.Room],.box [sL encI x2.1.At,sL (encL Qaa) x2.1.Rings,sL Qba x2.1.Memory,sL Qca x2.1.Choices,sL Qaa x2.1.Out],aR 57 2 Q4a x4.1,.box [iI 0,iI 0]]) rfl ?_)
                           exact raS hS28 ⟨rfl,rfl,rfl,rfl,rfl,rfl,rfl,rfl,rfl,rfl,rfl,rfl,rfl,rfl,rfl,rfl,rfl,rfl,trivial⟩
                          ·refine RO.op rfl rfl (Jja Ty.z57 rfl (aw':=[.box [sL Qga p0.Nodes,iI p0.Rings,iI p0.Room],.box [sL encI x2.1.At,sL (encL Qaa) x2.1.Rings,sL Qba x2.1.Memory,sL Qca x2.1.Choices,sL Qaa x2.1.Out],aR 57 2 Q4a x4.1,.box [iI 0,iI 0]]) rfl ?_)
                           exact raS hS27 ⟨rfl,rfl,rfl,rfl,rfl,rfl,rfl,rfl,rfl,rfl,rfl,rfl,rfl,rfl,rfl,rfl,rfl,rfl,trivial⟩
                         ·refine RO.op rfl rfl (Jja Ty.z57 rfl (aw':=[.box [sL Qga p0.Nodes,iI p0.Rings,iI p0.Room],.box [sL encI x2.1.At,sL (encL Qaa) x2.1.Rings,sL Qba x2.1.Memory,sL Qca x2.1.Choices,sL Qaa x2.1.Out],aR 57 2 Q4a x4.1,.box [iI 0,iI 0]]) rfl (ra2 4 15 ?_ ?_))
                          ·refine RO.op rfl rfl (Jfa (as0:=[iI p3,iI ((x4.1).length:Int)]) (as1:=[iI p3,iI ((x4.1).length:Int)]) (caps:=[]) (aw1:=[.box [sL Qga p0.Nodes,iI p0.Rings,iI p0.Room],.box [sL encI x2.1.At,sL (encL Qaa) x2.1.Rings,sL Qba x2.1.Memory,sL Qca x2.1.Choices,sL Qaa x2.1.Out],aR 57 2 Q4a x4.1,.box [iI 0,iI 0]]) rfl rfl rfl (Zda (v:=iI x16) (Zta p3 ((x4.1).length:Int) x16 hx16) (⟨Qfa _ _,Qfa _ _,trivial⟩) rfl (rt0 5 rfl (Q5a (en:=Q4a) Ty.s53 rfl rfl rfl hx17 ?_))))
                           exact raS hS28 ⟨rfl,rfl,rfl,rfl,rfl,rfl,rfl,rfl,rfl,rfl,rfl,rfl,rfl,rfl,rfl,rfl,rfl,rfl,trivial⟩
                          ·refine RO.op rfl rfl (Jja Ty.z57 rfl (aw':=[.box [sL Qga p0.Nodes,iI p0.Rings,iI p0.Room],.box [sL encI x2.1.At,sL (encL Qaa) x2.1.Rings,sL Qba x2.1.Memory,sL Qca x2.1.Choices,sL Qaa x2.1.Out],aR 57 2 Q4a x4.1,.box [iI 0,iI 0],.box [iI 0,iI 0]]) rfl ?_)
                           exact raW hS29 (Weak.mkN [] [0,1,2,4,3] (by decide) (Qqa _) rfl ⟨Qua rfl,Qua rfl,Qta rfl,Qla rfl,Qta rfl,Qla rfl,Qta rfl,Qla rfl,Qta rfl,Qla rfl,rn_s rfl,Qla rfl,Qla rfl,Qua rfl,Qua rfl,Qta rfl,Jwa rfl,trivial⟩ (rw_bs [sL Qga p0.Nodes,iI p0.Rings,iI p0.Room] rfl (rw_bs [sL encI x2.1.At,sL (encL Qaa) x2.1.Rings,sL Qba x2.1.Memory,sL Qca x2.1.Choices,sL Qaa x2.1.Out] rfl (rw_ar rfl rfl (rw_bs [iI 0,iI 0] rfl (rw_bs [iI 0,iI 0] rfl (Qva)))))))
                         ·refine RO.op rfl rfl (Jja Ty.z57 rfl (aw':=[.box [sL Qga p0.Nodes,iI p0.Rings,iI p0.Room],.box [sL encI x2.1.At,sL (encL Qaa) x2.1.Rings,sL Qba x2.1.Memory,sL Qca x2.1.Choices,sL Qaa x2.1.Out],aR 57 2 Q4a x4.1,.box [iI 0,iI 0]]) rfl (ra2 4 14 ?_ ?_))
                          ·refine RO.op rfl rfl (Jfa (as0:=[iI p3,iI ((x4.1).length:Int)]) (as1:=[iI p3,iI ((x4.1).length:Int)]) (caps:=[]) (aw1:=[.box [sL Qga p0.Nodes,iI p0.Rings,iI p0.Room],.box [sL encI x2.1.At,sL (encL Qaa) x2.1.Rings,sL Qba x2.1.Memory,sL Qca x2.1.Choices,sL Qaa x2.1.Out],aR 57 2 Q4a x4.1,.box [iI 0,iI 0]]) rfl rfl rfl (Zda (v:=iI x16) (Zta p3 ((x4.1).length:Int) x16 hx16) (⟨Qfa _ _,Qfa _ _,trivial⟩) rfl (rt0 5 rfl (Q5a (en:=Q4a) Ty.s53 rfl rfl rfl hx17 ?_))))
                           exact raS hS27 ⟨rfl,rfl,rfl,rfl,rfl,rfl,rfl,rfl,rfl,rfl,rfl,rfl,rfl,rfl,rfl,rfl,rfl,rfl,trivial⟩
                          ·refine RO.op rfl rfl (Jja Ty.z57 rfl (aw':=[.box [sL Qga p0.Nodes,iI p0.Rings,iI p0.Room],.box [sL encI x2.1.At,sL (encL Qaa) x2.1.Rings,sL Qba x2.1.Memory,sL Qca x2.1.Choices,sL Qaa x2.1.Out],aR 57 2 Q4a x4.1,.box [iI 0,iI 0],.box [iI 0,iI 0]]) rfl ?_)
                           exact raS hS29 ⟨rfl,rfl,rfl,rfl,rfl,rfl,rfl,rfl,rfl,rfl,rfl,rfl,rfl,rfl,rfl,rfl,rfl,trivial⟩
  refine T.region (so (Jfa (as0:=[]) (as1:=[]) (caps:=[]) (aw1:=[.box [sL Qga p0.Nodes,iI p0.Rings,iI p0.Room],.box [sL encI x2.1.At,sL (encL Qaa) x2.1.Rings,sL Qba x2.1.Memory,sL Qca x2.1.Choices,sL Qaa x2.1.Out],aR 57 2 Q4a x4.1]) rfl rfl rfl (Zda (v:=.bool x5) (crosslaw_moved_c x5 hx5) (trivial) rfl (sq (v_not rfl (sm (.bool (!x5)) rfl ?_))))))
  rcases Q7a (!x5) with hb_1 | hb_1
  ·replace hz:=ite_T hz hb_1
   refine sn hb_1 (sn hb_1 (sq (Q9a (v:=.bool true) rfl hb_1 rfl (sm (.bool true) rfl (sn rfl (sn rfl (sq (Q9a (v:=.bool true) rfl rfl rfl (sm (.bool true) rfl (sn rfl (sn rfl ?_)))))))))))
   refine sn rfl (sq (Q9a (v:=.bool true) rfl rfl rfl (sm (.bool true) rfl (sn rfl (sn rfl (sn rfl (sq (Q9a (v:=.bool true) rfl rfl rfl (sm (.bool true) rfl (sn rfl (sn rfl ?_)))))))))))
   refine sn rfl (sn rfl (sn rfl (sq (Q9a (v:=.bool true) rfl rfl rfl (RS.nil ?_)))))
   exact T.sub (hK () trivial) ⟨rfl,rfl,rfl,rfl,rfl,rfl,(congrArg AV.bool ((congrArg (fun p=>p) (Option.some.inj hz)).symm)).symm,trivial⟩
  replace hz:=ite_F hz hb_1
  refine yq hb_1 (Qwa (v:=iI x2.2) rfl (yq hb_1 (v_neq rfl rfl (sq (Q8a (v:=.bool (x2.2 != 0)) rfl hb_1 rfl (sm (.bool (x2.2 != 0)) rfl ?_))))))
  rcases Q7a (x2.2 != 0) with hb_2 | hb_2
  ·replace hz:=ite_T hz hb_2
   refine sn hb_2 (sn hb_2 (sq (Q9a (v:=.bool true) rfl hb_2 rfl (sm (.bool true) rfl (sn rfl (sn rfl (sn rfl (sq (Q9a (v:=.bool true) rfl rfl rfl (sm (.bool true) rfl (sn rfl ?_)))))))))))
   refine sn rfl (sn rfl (sq (Q9a (v:=.bool true) rfl rfl rfl (sm (.bool true) rfl (sn rfl (sn rfl (sn rfl (sn rfl (sn rfl (sq (Q9a (v:=.bool true) rfl rfl rfl ?_)))))))))))
   refine RS.nil ?_
   exact T.sub (hK () trivial) ⟨rfl,rfl,rfl,rfl,rfl,rfl,(congrArg AV.bool ((congrArg (fun p=>p) (Option.some.inj hz)).symm)).symm,trivial⟩
  replace hz:=ite_F hz hb_2
  refine yq hb_2 (Qwa (v:=iI x4.2) rfl (yq hb_2 (v_neq rfl rfl (sq (Q8a (v:=.bool (x4.2 != 0)) rfl hb_2 rfl (sm (.bool (x4.2 != 0)) rfl ?_))))))
  rcases Q7a (x4.2 != 0) with hb_3 | hb_3
  ·replace hz:=ite_T hz hb_3
   refine sn hb_3 (sn hb_3 (sn hb_3 (sq (Q9a (v:=.bool true) rfl hb_3 rfl (sm (.bool true) rfl (sn rfl (sn rfl (sn rfl (sq (Q9a (v:=.bool true) rfl rfl rfl (sm (.bool true) rfl ?_)))))))))))
   refine sn rfl (sn rfl (sn rfl (sn rfl (sn rfl (sq (Q9a (v:=.bool true) rfl rfl rfl (RS.nil ?_)))))))
   exact T.sub (hK () trivial) ⟨rfl,rfl,rfl,rfl,rfl,rfl,(congrArg AV.bool ((congrArg (fun p=>p) (Option.some.inj hz)).symm)).symm,trivial⟩
  replace hz:=ite_F hz hb_3
  refine yq hb_3 (Qwa (v:=.ref 2) rfl (yq hb_3 (Vga (en:=Q4a) Ty.s53 rfl rfl (yq hb_3 (v_eql rfl rfl (sq (Q8a (v:=.bool (((x4.1).length:Int)==0)) rfl hb_3 rfl (sm (.bool (((x4.1).length:Int)==0)) rfl ?_))))))))
  rcases Q7a (((x4.1).length:Int)==0) with hb_4 | hb_4
  ·replace hz:=ite_T hz hb_4
   refine sn hb_4 (sn hb_4 (sn hb_4 (sq (Q9a (v:=.bool true) rfl hb_4 rfl (sm (.bool true) rfl (sn rfl (sn rfl (sn rfl (sn rfl (sn rfl ?_))))))))))
   refine sq (Q9a (v:=.bool true) rfl rfl rfl (RS.nil ?_))
   exact T.sub (hK () trivial) ⟨rfl,rfl,rfl,rfl,rfl,rfl,(congrArg AV.bool ((congrArg (fun p=>p) (Option.some.inj hz)).symm)).symm,trivial⟩
  replace hz:=ite_F hz hb_4
  obtain ⟨x6,hx6,hz⟩:=bind_some hz
  refine yo hb_4 (Qea rfl rfl (Qna Ty.k31 Ty.c31 rfl (cs:=[sL encI x2.1.At,sL (encL Qaa) x2.1.Rings,sL Qba x2.1.Memory,sL Qca x2.1.Choices,sL Qaa x2.1.Out]) rfl (yo hb_4 (Jfa (as0:=[.agg [sL encI x2.1.At,sL (encL Qaa) x2.1.Rings,sL Qba x2.1.Memory,sL Qca x2.1.Choices,sL Qaa x2.1.Out]]) (as1:=[.agg [sL encI x2.1.At,sL (encL Qaa) x2.1.Rings,sL Qba x2.1.Memory,sL Qca x2.1.Choices,sL Qaa x2.1.Out]]) (caps:=[]) (aw1:=[.box [sL Qga p0.Nodes,iI p0.Rings,iI p0.Room],.box [sL encI x2.1.At,sL (encL Qaa) x2.1.Rings,sL Qba x2.1.Memory,sL Qca x2.1.Choices,sL Qaa x2.1.Out],aR 57 2 Q4a x4.1]) rfl rfl rfl (Zda (v:=.bool x6) (crosslaw_far_c x2.1 x6 hx6) (⟨Qsa _ (Qka (⟨Qia Jta _,Qia (Jna Qma) _,Qia Qya _,Qia Q2a _,Qia Qma _,trivial⟩)),trivial⟩) rfl (yq hb_4 (v_not rfl (sq (Q8a (v:=.bool (!x6)) rfl hb_4 rfl (sm (.bool (!x6)) rfl ?_))))))))))
  rcases Q7a (!x6) with hb_5 | hb_5
  ·replace hz:=ite_T hz hb_5
   refine sn hb_5 (sn hb_5 (sn hb_5 (sn hb_5 (sn hb_5 (sq (Q9a (v:=.bool true) rfl hb_5 rfl (RS.nil ?_)))))))
   exact T.sub (hK () trivial) ⟨rfl,rfl,rfl,rfl,rfl,rfl,(congrArg AV.bool ((congrArg (fun p=>p) (Option.some.inj hz)).symm)).symm,trivial⟩
  replace hz:=ite_F hz hb_5
  refine yq hb_5 (Qda Ty.f31_3 rfl (off':=3) rfl (yo hb_5 (Qea rfl rfl (Qha Ty.k28 (c:=sL Qca x2.1.Choices) rfl (yq hb_5 (Q3a Ty.s28 rfl (yq hb_5 (v_add rfl rfl (yq hb_5 (v_gtr rfl rfl (sq (Q8a (v:=.bool (decide ((IntKind.i64.wrap (((x2.1.Choices).length:Int)+2)) > 500))) rfl hb_5 rfl (RS.nil ?_)))))))))))))
  exact T.sub (hK () trivial) ⟨rfl,rfl,rfl,rfl,rfl,rfl,(congrArg AV.bool ((congrArg (fun p=>p) (Option.some.inj hz)).symm)).symm,trivial⟩
end Go.Proofs.Ytfbmoockopakjaa
namespace Go.Proofs.Ytfbmoockopakjaa
open Go.ChangeShapes Go.WideShapes Go.ChangeAt Go.RowKit
set_option linter.unusedVariables false
set_option linter.unusedSimpArgs false
theorem list_choose {α:Type} {p:Nat→α→Prop}:∀ n:Nat,(∀ i,i<n→∃ x,p i x)→∃ l:List α,l.length=n∧∀ (i:Nat) x,l[i]?=some x→p i x
  | 0,_=>⟨[],rfl,fun i x h=>by simp at h⟩
  | n + 1,h=>by
    obtain ⟨l,hl,hp⟩:=list_choose n (fun i hi=>h i (by omega))
    obtain ⟨y,hy⟩:=h n (by omega)
    refine ⟨l++[y],by simp [hl],fun i x hx=>?_⟩
    rw [List.getElem?_append] at hx
    split at hx
    · exact hp i x hx
    · have:i=n:=by
        have:=(List.getElem?_eq_some_iff.1 hx).1
        simp at this;omega
      subst this
      simp [hl] at hx
      subst hx;exact hy
theorem bulk_one {H:Type} (d:DataW H):1≤Rows.uptoBulk d:=by
  cases d with
  | lit l=>cases l<;>simp [Rows.uptoBulk]
  | _=>simp [Rows.uptoBulk]
theorem bulk_sum {H α:Type} (m:α→Nat):∀ (l:List α) (ds:List (DataW H)),l.length=ds.length→(∀ (i:Nat) x d,l[i]?=some x→ds[i]?=some d→m x≤Rows.uptoBulk d)→(l.map m).sum≤Rows.uptoBulkAll ds
  | [],[],_,_=>by simp
  | [],_::_,h,_=>by simp at h
  | _::_,[],h,_=>by simp at h
  | x::l,d::ds,h,hp=>by
    have h0:=hp 0 x d rfl rfl
    have h1:=bulk_sum m l ds (by simpa using h) (fun i y e hy he=>hp (i+1) y e (by simpa using hy) (by simpa using he))
    simp only [List.map_cons,List.sum_cons,Rows.uptoBulkAll]
    omega
structure Opn (P:Program) (t:TypeId) {α:Type} (en:α→List AV) (good:α→Prop) (m:α→Nat):Prop where
  opn:∀ {H:Type} {enc:TypeId × Value→H} {W:World} {fuel:Nat} {cs:List Value} {x:DataW H × List MemPlace},DataW.trod enc P W 0 (fun _=>true) true fuel t cs=some x →
    ∃ a,RelL [] W (fun b=>b<W.heap.size) (en a) cs∧(∀ u,u∈cs→u.oneCell'=true)∧good a∧m a≤Rows.uptoBulk x.1
theorem Opn.map {P:Program} {t:TypeId} {α β:Type} {en:α→List AV} {good:α→Prop} {m:α→Nat} (h:Opn P t en good m) (f:α→β) {en':β→List AV} {good':β→Prop} {m':β→Nat}
    (he:∀ a,en' (f a)=en a) (hg:∀ a,good a→good' (f a)) (hm:∀ a,m' (f a)≤m a):Opn P t en' good' m' :=
  ⟨fun hx=>by
    obtain ⟨a,h1,h2,h3,h4⟩:=h.opn hx
    exact ⟨f a,by rw [he];exact h1,h2,hg a h3,Nat.le_trans (hm a) h4⟩⟩
theorem relL_one {σ:List Value} {w:World} {F:Nat→Prop} {a:AV} {v:Value} (h:Rel σ w F a v):RelL σ w F [a] [v]:=.cons h .nil
theorem Opn.bool {P:Program} {t:TypeId} (ht:P.underlying t=some .bool):Opn P t (fun b:Bool=>[.bool b]) (fun _=>True) (fun _=>1) :=
  ⟨fun hx=>by
    obtain ⟨b,rfl,rfl⟩:=DataW.trod_bool ht hx
    exact ⟨b,relL_one (.bool b),by simp [Value.oneCell'],trivial,bulk_one _⟩⟩
theorem Opn.int {P:Program} {t:TypeId} {k:IntKind} (ht:P.underlying t=some (.int k)):Opn P t (fun n:Int=>[.int k n]) (fun n=>k.min≤n∧n≤k.max) (fun _=>1) :=
  ⟨fun hx=>by
    obtain ⟨n,rfl,rfl,hw⟩:=DataW.trod_int ht hx
    refine ⟨n,relL_one (.int k n),by simp [Value.oneCell'],?_,bulk_one _⟩
    simpa only [Lit.wf,Bool.and_eq_true,decide_eq_true_eq] using hw⟩
theorem Opn.str {P:Program} {t:TypeId} (ht:P.underlying t=some .string):Opn P t (fun s:List UInt8=>[.str s]) (fun s=>s.length≤maxLen) (fun s=>s.length+1) :=
  ⟨fun hx=>by
    obtain ⟨s,rfl,rfl,hw⟩:=DataW.trod_string ht hx
    refine ⟨s.data.toList,relL_one (by simpa using Rel.str s.data.toList),by simp [Value.oneCell'],?_,by simp [Rows.uptoBulk]⟩
    have e:s.data.toList.length=s.size:=by rw [Array.length_toList];rfl
    omega⟩
theorem Opn.slice {P:Program} {t e:TypeId} {α:Type} {en:α→List AV} {good:α→Prop} {m:α→Nat} {size:Nat} (ht:P.underlying t=some (.slice e)) (hc:P.cellsOf e=size+1) (h:Opn P e en good m) :
    Opn P t (fun l:List α=>[.sl (l.map en)]) (fun l=>∀ a,a∈l→good a) (fun l=>(l.map m).sum+1):=by
  refine ⟨fun {H enc W fuel cs x} hx=>?_⟩
  rcases DataW.trod_slice ht hx with ⟨rfl,rfl⟩ | ⟨a,len,cap,elems,rest,n,_,rfl,rfl,hb,hl,hm,hlen,hel,hsp,hns⟩
  · exact ⟨[],relL_one .slNil,by simp [Value.oneCell'],by simp,by simp [Rows.uptoBulk]⟩
  rw [hc] at hel
  have hone:∀ i,i<len→∃ y:α × List Value × (DataW H × List MemPlace),elems[i]?=some y.2.2∧W.cells? 0 (a.add (i*(size+1))) (size+1)=some y.2.1∧RelL [] W (fun b=>b<W.heap.size) (en y.1) y.2.1∧(∀ u,u∈y.2.1→u.oneCell'=true)∧good y.1∧m y.1≤Rows.uptoBulk y.2.2.1:=by
    intro i hi
    have h1:=hel i hi
    rw [List.getElem?_eq_getElem (by omega:i<elems.length)] at h1
    obtain ⟨cs',hcs,ht'⟩:=Option.bind_eq_some_iff.1 h1
    obtain ⟨y,g1,g2,g3,g4⟩:=h.opn ht'
    exact ⟨(y,cs',elems[i]),List.getElem?_eq_getElem (by omega),hcs,g1,g2,g3,g4⟩
  obtain ⟨ys,hys,hp⟩:=list_choose len hone
  refine ⟨ys.map (·.1),relL_one ?_,by simp [Value.oneCell'],?_,?_⟩
  · have hrl:((ys.map (·.1)).map en).length=len:=by simp [hys]
    have key:Rel [] W (fun b=>b<W.heap.size) (.sl ((ys.map (·.1)).map en)) (.slice (some a) ((ys.map (·.1)).map en).length cap):=by
      refine .sl _ (size+1) a cap (fun i j=>((ys[i]?).bind (fun y=>y.2.1[j]?)).getD .nilIface) (fun hne=>?_) (by omega) hm (fun row hrow=>?_) (fun i j hi hj=>?_) (fun i j hi hj=>?_) (fun i row j x hi hj=>?_)
      · have hpos:0<len:=by
          rcases Nat.eq_zero_or_pos len with h0 | h0
          · exfalso;apply hne;apply List.eq_nil_of_length_eq_zero;omega
          · exact h0
        obtain ⟨y,hy⟩:∃ y,ys[0]?=some y:=⟨ys[0],List.getElem?_eq_getElem (by omega)⟩
        have:=World.cells?_block (hp 0 y hy).2.1 (by omega)
        rwa [Qjb] at this
      · simp only [List.map_map,List.mem_map] at hrow
        obtain ⟨y,hy,rfl⟩:=hrow
        obtain ⟨i,hi,hi'⟩:=List.getElem_of_mem hy
        have h1:=hp i y (by rw [List.getElem?_eq_getElem hi,hi'])
        have h2:=(World.cells?_some h1.2.1).2.1
        have h3:=h1.2.2.1.1
        simp only [Function.comp];omega
      · rw [hrl] at hi
        obtain ⟨y,hy⟩:∃ y,ys[i]?=some y:=⟨ys[i],List.getElem?_eq_getElem (by omega)⟩
        have h1:=hp i y hy
        have h2:=(World.cells?_some h1.2.1).2.1
        have h3:y.2.1[j]?=some y.2.1[j]:=List.getElem?_eq_getElem (by omega)
        simp only [hy,Option.bind_some,h3,Option.getD_some]
        exact h1.2.2.2.1 _ (List.getElem_mem _)
      · rw [hrl] at hi
        obtain ⟨y,hy⟩:∃ y,ys[i]?=some y:=⟨ys[i],List.getElem?_eq_getElem (by omega)⟩
        have h1:=hp i y hy
        have h2:=World.cells?_some h1.2.1
        have h3:y.2.1[j]?=some y.2.1[j]:=List.getElem?_eq_getElem (by omega)
        simp only [hy,Option.bind_some,h3,Option.getD_some]
        rw [← Yoa,h2.2.2 j hj,h3]
      · simp only [List.map_map,List.getElem?_map,Option.map_eq_some_iff] at hi
        obtain ⟨y,hy,rfl⟩:=hi
        have h1:=hp i y hy
        obtain ⟨v,hv,hr⟩:=h1.2.2.1.get hj
        simp only [hy,Option.bind_some,hv,Option.getD_some]
        exact hr
    rwa [hrl] at key
  · intro z hz
    simp only [List.mem_map] at hz
    obtain ⟨y,hy,rfl⟩:=hz
    obtain ⟨i,hi,hi'⟩:=List.getElem_of_mem hy
    exact (hp i y (by rw [List.getElem?_eq_getElem hi,hi'])).2.2.2.2.1
  · have:=bulk_sum m (ys.map (·.1)) (elems.map (·.1)) (by simp [hys,hlen]) (fun i z d hz hd=>by
      simp only [List.getElem?_map,Option.map_eq_some_iff] at hz hd
      obtain ⟨y,hy,rfl⟩:=hz
      obtain ⟨el,he,rfl⟩:=hd
      have h1:=hp i y hy
      rw [h1.1] at he
      obtain rfl:=Option.some.inj he
      exact h1.2.2.2.2.2)
    simp only [Rows.uptoBulk]
    omega
structure OpnF (P:Program) (fs:List Field) (off total:Nat) {α:Type} (en:α→List AV) (good:α→Prop) (m:α→Nat):Prop where
  opn:∀ {H:Type} {enc:TypeId × Value→H} {W:World} {fuel:Nat} {cs:List Value} {xs:List (DataW H × List MemPlace)},cs.length=total →
    xs.length=fs.length→(∀ (i:Nat) (f:Field),fs[i]?=some f→DataW.trod enc P W 0 (fun _=>true) true fuel f.type ((cs.drop f.offset).take (P.cellsOf f.type))=xs[i]?) →
    ∃ a,RelL [] W (fun b=>b<W.heap.size) (en a) (cs.drop off)∧(∀ u,u∈cs.drop off→u.oneCell'=true)∧good a∧m a≤Rows.uptoBulkAll (xs.map (·.1))
theorem OpnF.nil {P:Program} {total:Nat}:OpnF P [] total total (fun _:Unit=>[]) (fun _=>True) (fun _=>0) :=
  ⟨fun hl hx hp=>⟨(),by rw [List.drop_of_length_le (by omega)];exact .nil,by rw [List.drop_of_length_le (by omega)];simp,trivial,by simp⟩⟩
theorem OpnF.cons {P:Program} {f:Field} {fs:List Field} {off total:Nat} {α β:Type} {en1:α→List AV} {en2:β→List AV} {g1:α→Prop} {g2:β→Prop} {m1:α→Nat} {m2:β→Nat}
    (ho:f.offset=off) (c:Nat) (hc:P.cellsOf f.type=c) (h1:Opn P f.type en1 g1 m1) (h2:OpnF P fs (off+c) total en2 g2 m2) :
    OpnF P (f::fs) off total (fun p:α × β=>en1 p.1++en2 p.2) (fun p=>g1 p.1∧g2 p.2) (fun p=>m1 p.1+m2 p.2):=by
  refine ⟨fun {H enc W fuel cs xs} hl hx hp=>?_⟩
  match xs,hx with
  | x :: xs,hx =>
    have h0:=hp 0 f rfl
    simp only [List.getElem?_cons_zero] at h0
    subst ho;subst hc
    obtain ⟨a,a1,a2,a3,a4⟩:=h1.opn h0
    obtain ⟨b,b1,b2,b3,b4⟩:=h2.opn (xs:=xs) hl (by simpa using hx) (fun i f' hf=>by simpa using hp (i+1) f' (by simpa using hf))
    have hs:cs.drop f.offset=(cs.drop f.offset).take (P.cellsOf f.type)++cs.drop (f.offset+P.cellsOf f.type):=by
      rw [← List.drop_drop];exact (List.take_append_drop _ _).symm
    refine ⟨(a,b),?_,fun u hu=>?_,⟨a3,b3⟩,?_⟩
    · rw [hs];exact a1.append b1
    · rw [hs,List.mem_append] at hu
      exact hu.elim (a2 u) (b2 u)
    · simp only [List.map_cons,Rows.uptoBulkAll];omega
theorem Opn.struct {P:Program} {t:TypeId} {fs:Array Field} {total:Nat} {α:Type} {en:α→List AV} {good:α→Prop} {m:α→Nat} (ht:P.underlying t=some (.struct fs)) (hc:P.cellsOf t=total)
    (h:OpnF P fs.toList 0 total en good m):Opn P t en good m:=by
  refine ⟨fun {H enc W fuel cs x} hx=>?_⟩
  obtain ⟨xs,n,rfl,rfl,hl,hxl,hp⟩:=DataW.trod_struct ht hx
  obtain ⟨a,h1,h2,h3,h4⟩:=h.opn (enc:=enc) (W:=W) (fuel:=n) (cs:=cs) (xs:=xs) (by omega) (by simp [hxl]) (fun i f hf=>hp i f (by simpa using hf))
  exact ⟨a,by simpa using h1,by simpa using h2,h3,by simp only [Rows.uptoBulk];omega⟩
theorem Opn.arg {P:Program} {t:TypeId} {α:Type} {en:α→AV} {good:α→Prop} {m:α→Nat} (h:Opn P t (fun a=>[en a]) good m)
    (ht:(match P.underlying t with | some (.struct _) | some (.array _ _)=>false | _=>true)=true)
    {H:Type} {enc:TypeId × Value→H} {W:World} {base:Nat} {v:Value} {d:DataW H} {ps:List MemPlace} (hval:Value.okWide P W .any base t v) (hd:DataW.Trod enc P W 0 (fun _=>true) true t v d ps) :
    ∃ a,Rel [] W (fun b=>b<W.heap.size) (en a) v∧good a∧m a≤Rows.uptoBulk d:=by
  obtain ⟨fuel,hf⟩:=hd
  obtain ⟨a,h1,h2,h3,h4⟩:=h.opn hf
  have hv:v.cells=#[v]:=by
    cases v with
    | agg cs =>
      exfalso
      unfold Value.okWide at hval
      split at hval
      · rename_i e;rw [e] at ht;simp at ht
      · rename_i e;rw [e] at ht;simp at ht
      · unfold Cell.okWide at hval
        split at hval<;>simp_all [Cell.ok]
    | _=>rfl
  rw [hv] at h1
  exact ⟨a,h1.2 0 (en a) v rfl rfl,h3,h4⟩
theorem Opn.args {P:Program} {t:TypeId} {α:Type} {en:α→List AV} {good:α→Prop} {m:α→Nat} (h:Opn P t en good m)
    {fs:Array Field} (ht:P.underlying t=some (.struct fs))
    {H:Type} {enc:TypeId × Value→H} {W:World} {base:Nat} {v:Value} {d:DataW H} {ps:List MemPlace} (hval:Value.okWide P W .any base t v) (hd:DataW.Trod enc P W 0 (fun _=>true) true t v d ps) :
    ∃ a,Rel [] W (fun b=>b<W.heap.size) (.agg (en a)) v∧good a∧m a≤Rows.uptoBulk d:=by
  obtain ⟨fuel,hf⟩:=hd
  obtain ⟨a,h1,h2,h3,h4⟩:=h.opn hf
  unfold Value.okWide at hval
  rw [ht] at hval
  obtain ⟨cs,rfl,_,_⟩:=hval
  simp only [Value.cells] at h1 h2
  refine ⟨a,?_,h3,h4⟩
  have:=Rel.agg (σ:=[]) (w:=W) (F:=fun b=>b<W.heap.size) (en a) cs.toList h1.1 h2 h1.2
  simpa using this
theorem stays_all {H:Type} {enc:TypeId × Value→H} {P:Program} (hl:laidOutB P=true) {W W':World} (hb:Below W.heap.size W W') (sp:Nat→Bool) :
    ∀ {ts:List TypeId} {vs:List Value} {ds:List (DataW H)} {ps:List MemPlace},(ts.all fun t=>P.readableRec t && decide (t<P.types.size))=true→DataW.TrodAll enc P W 0 (fun _=>true) true ts vs ds ps →
      (∀ x∈ps,x.block<W.heap.size)→(∀ x∈ps,sp x.block=true)→DataW.TrodAll enc P W' 0 sp true ts vs ds ps
  | [],[],[],_,_,h,_,_=>h
  | [],_::_,_,_,_,h,_,_=>h.elim
  | [],[],_::_,_,_,h,_,_=>h.elim
  | _::_,[],_,_,_,h,_,_=>h.elim
  | _::_,_::_,[],_,_,h,_,_=>h.elim
  | t :: ts,v::vs,d::ds,ps,hr,h,hlt,hsp=>by
    obtain ⟨p,q,h1,h2,rfl⟩:=h
    simp only [List.all_cons,Bool.and_eq_true,decide_eq_true_eq] at hr
    exact ⟨p,q,WideElems.Trod_stays hl hr.1.1 hr.1.2 h1 (fun x hx=>hb.same (hlt x (by simp [hx]))) (fun x hx=>hsp x (by simp [hx])),
      stays_all hl hb sp hr.2 h2 (fun x hx=>hlt x (by simp [hx])) (fun x hx=>hsp x (by simp [hx])),rfl⟩
section
variable {H:Type} {enc:TypeId × Value→H} {P:Program}
theorem post_of_below {f:Func} {s:ChangeSpec} {apart fresh handsOn again:Bool} {W W':World} {args:Array Value} {v:Value} {ds gs:List (DataW H)} {before pa pv:List MemPlace}
    (hW:DataW.Whole enc P f.params.toList s.vars apart W args.toList ds gs before)
    (hres:∀ (b:Nat) (sp:Nat→Bool) (hd:Bool),DataW.TrodAll enc P W' b sp hd f.resultTypes.toList (v.resultList f.resultTypes.size) (s.fn H (ds++gs)).results [])
    (hargs:∀ sp:Nat→Bool,(∀ p∈before,sp p.block=true)→DataW.TrodAll enc P W' 0 sp true f.params.toList args.toList (s.fn H (ds++gs)).args pa)
    (hvars:∀ sp:Nat→Bool,(∀ p∈before,sp p.block=true)→DataW.TrodVars enc P W' sp s.vars (s.fn H (ds++gs)).vars pv)
    (hps:before=pa++pv) (hb:Below W.heap.size W W')
    (hok:∀ (j:Nat) (t:TypeId) (r:Value),f.resultTypes[j]?=some t→(v.resultList f.resultTypes.size)[j]?=some r→Value.okWide P W' .any 0 t r) :
    s.post enc P f apart fresh handsOn again W args v W':=by
  have hlt:∀ p∈before,p.block<W.heap.size:=fun p hp=>hW.lt p hp
  have hold:∀ p∈before,(fun b=>decide (b<W.heap.size)) p.block=true:=fun p hp=>by simpa using hlt p hp
  refine ⟨ds,gs,before,[],pa,pv,hW,hres _ _ _,hargs _ hold,hvars _ hold,World.keptBut_mono (fun p hp=>⟨hp,?_⟩) (hb.frame (·∈before)),fun _=>?_⟩
  · rw [hps,List.mem_append] at hp
    exact Or.inr hp
  · obtain ⟨_,_,_,_,_,hz,hn⟩:=hW
    refine ⟨hok,_,_,([]++pa)++pv,⟨[]++pa,pv,trodAll_append (hargs _ (fun _ _=>rfl)) (hres _ _ _),hvars _ (fun _ _=>rfl),rfl,?_,?_⟩,?_⟩
    · intro b off hp
      have hin:MemPlace.cell b off∈before:=by rw [hps];simpa using hp
      rw [hb.frozen (hlt _ hin)]
      exact hz b off hin
    · intro ha
      have:=hn ha
      rw [hps] at this
      simpa using this
    · intro p hp _
      rw [hps]
      simpa using hp
end
theorem law_post {H:Type} {enc:TypeId × Value→H} {P:Program} {id:FuncId} {f:Func} {s:ChangeSpec} {W:World} {args:Array Value} {ds gs:List (DataW H)} {before:List MemPlace} {av:List AV} {tb:TypeId}
    (hl:laidOutB P=true) (htb:P.underlying tb=some .bool) (hres:f.resultTypes=#[tb]) (hr:(f.params.toList.all fun t=>P.readableRec t && decide (t<P.types.size))=true) (hvars:s.vars=[])
    (hfn:(s.fn H (ds++gs)).results=[.lit (.bool true)]) (hfa:(s.fn H (ds++gs)).args=ds) (hfv:(s.fn H (ds++gs)).vars=[])
    (hW:DataW.Whole enc P f.params.toList s.vars false W args.toList ds gs before)
    (hrel:RelL [] W (fun b=>b<W.heap.size) av args.toList) (hc:ACalls P id av [] fun r aw'=>r=.bool true∧aw'=[]) :
    Calls P id args W fun e W'=>∃ v,e=.returned v∧s.post enc P f false true false false W args v W':=by
  have hs:Sim [] [] W (fun b=>b<W.heap.size):=⟨rfl,fun k o v h=>by simp at h,fun k k' o o' v v' g _ h=>by simp at h,fun b h=>h⟩
  refine (hc.2 W _ [] args.toList hs hrel).mono fun e W' hx=>?_
  obtain ⟨v,r,aw',σ',F',he,⟨hr1,hr2⟩,_,hv,hm⟩:=hx
  subst hr1;subst hr2
  cases hv
  have hb:Below W.heap.size W W':=⟨hm.os,hm.tape,hm.output,hm.size,fun k hk=>hm.keep k hk (fun ⟨k',o,v,ho,_⟩=>by simp at ho)⟩
  refine ⟨.bool true,he,?_⟩
  have hW':=hW
  obtain ⟨p,q,hA,hV,rfl,hfz,hnd⟩:=hW'
  rw [hvars] at hV
  obtain ⟨rfl,rfl⟩:=trodVars_none hV
  have hlt:∀ x∈p++[],x.block<W.heap.size:=fun x hx=>hW.lt x hx
  refine post_of_below (pa:=p) (pv:=[]) hW (fun b sp hd=>?_) (fun sp hsp=>?_) (fun sp hsp=>?_) rfl hb (ok_one hres rfl (okWide_bool_mk htb _))
  · rw [hfn,hres]
    exact trodAll_cons_mk (shut_bool htb _) trodAll_mk0
  · rw [hfa]
    exact stays_all hl hb sp hr hA (fun x hx=>hlt x (by simpa using hx)) (fun x hx=>hsp x (by simpa using hx))
  · rw [hfv,hvars]
    exact rfl
end Go.Proofs.Ytfbmoockopakjaa
namespace Go.Proofs.Ytfbmoockopakjaa
set_option linter.unusedVariables false
set_option linter.unusedSimpArgs false
def gI (n:Int):Prop := -9223372036854775808≤n∧n≤9223372036854775807
def gL {α:Type} (g:α→Prop) (l:List α):Prop:=∀ a,a∈l→g a
def gItem (a:Item):Prop:=gI a.Key∧gI a.Val∧gI a.Dep
def gNode (a:Node):Prop:=gI a.Kind∧gI a.A∧gL gI a.In∧gL gI a.Out
def gNet (a:Net):Prop:=gL gNode a.Nodes∧gI a.Rings∧gI a.Room
def mI (n:Int):Nat:=1
def mB (b:Bool):Nat:=1
def mL {α:Type} (m:α→Nat) (l:List α):Nat:=(l.map m).sum+1
def mItem (a:Item):Nat:=3
def mNode (a:Node):Nat:=mL mI a.In+mL mI a.Out+2
def mNet (a:Net):Nat:=mL mNode a.Nodes+2
theorem len_le {α:Type} {m:α→Nat} (h:∀ a,1≤m a):∀ l:List α,l.length≤mL m l
  | []=>by simp [mL]
  | a::l=>by
    have:=len_le h l
    have:=h a
    simp [mL] at *;omega
theorem sum_le {α:Type} {m:α→Nat}:∀ {l:List α} {a:α},a∈l→m a≤mL m l
  | b :: l,a,h=>by
    rcases List.mem_cons.1 h with rfl | h
    · simp [mL];omega
    · have:=sum_le (m:=m) h
      simp [mL] at *;omega
theorem Yqa {n:Int} (h0 : -9223372036854775808≤n) (h1:n≤9223372036854775807):IntKind.i64.wrap n=n:=IntWalk.i64_in n ⟨h0,h1⟩
theorem Qkb {k:Nat} (h:k<4611686018427387904):IntKind.i64.wrap ((k:Int)+1)=((k+1:Nat):Int):=by rw [Yqa (by omega) (by omega)];rfl
theorem Voa {α:Type} {xs:List α} {k:Nat} {x:α} (h:xs[k]?=some x):idx xs (k:Int)=some x:=by
  unfold idx;rw [if_pos (by omega)];simpa using h
theorem ixN_at {α:Type} {xs:List α} {k:Nat} (h:k<xs.length):ixN xs (k:Int)=some k:=by
  unfold ixN;rw [if_pos (by omega)];simp
theorem app_ok {α:Type} {xs ys:List α} (h:xs.length+ys.length≤1099511627776):app xs ys=some (xs++ys):=by unfold app;rw [if_pos h]
theorem sub_ok {α:Type} {xs:List α} {i j:Nat} (h:i≤j) (h2:j≤xs.length):sub xs (i:Int) (j:Int)=some ((xs.take j).drop i):=by
  unfold sub;rw [if_pos (by omega)];simp
theorem sub_end {α:Type} {xs:List α} {i:Nat} (h2:i≤xs.length):sub xs (i:Int) (xs.length:Int)=some (xs.drop i):=by
  have:=sub_ok (xs:=xs) (i:=i) (j:=xs.length) h2 (Nat.le_refl _)
  simpa using this
def foldE {α σ ρ:Type} (f:Nat→α→σ→Option (σ ⊕ ρ)) (fin:σ→Option ρ):Nat→List α→σ→Option ρ
  | _,[],st=>fin st
  | k,x::xs,st=>match f k x st with
    | none=>none
    | some (.inl st')=>foldE f fin (k+1) xs st'
    | some (.inr r)=>some r
theorem iter_list {α σ ρ τ:Type} (xs:List α) (hx:xs.length≤1099511627776) (e:Nat→σ→τ) {body:τ→Option (τ ⊕ ρ)} (f:Nat→α→σ→Option (σ ⊕ ρ)) (fin:σ→Option ρ)
    (h1 : ∀ (k:Nat) x st,xs[k]?=some x→k<xs.length→idx xs (k:Int)=some x→decide ((k:Int)<(xs.length:Int))=true→IntKind.i64.wrap ((k:Int)+1)=((k+1:Nat):Int) →
      body (e k st)=match f k x st with
        | none=>none
        | some (.inl st')=>some (.inl (e (k+1) st'))
        | some (.inr r)=>some (.inr r))
    (h2:∀ st,decide ((xs.length:Int)<(xs.length:Int))=false→body (e xs.length st)=(fin st).map .inr) :
    ∀ (n k:Nat) st,k+n=xs.length→iter body (e k st)=foldE f fin k (xs.drop k) st
  | 0,k,st,h=>by
    have hk:k=xs.length:=by omega
    subst hk
    rw [J5a,h2 st (by simp),List.drop_length]
    unfold foldE
    cases fin st<;>rfl
  | n + 1,k,st,h=>by
    have hlt:k<xs.length:=by omega
    have hg:xs[k]?=some xs[k]:=List.getElem?_eq_getElem hlt
    rw [J5a,h1 k xs[k] st hg hlt (Voa hg) (by simp;omega) (Qkb (by omega)),List.drop_eq_getElem_cons hlt]
    unfold foldE
    cases f k xs[k] st with
    | none=>rfl
    | some v =>
      cases v with
      | inl st'=>exact iter_list xs hx e f fin h1 h2 n (k+1) st' (by omega)
      | inr r=>rfl
theorem iter_list0 {α σ ρ τ:Type} (xs:List α) (hx:xs.length≤1099511627776) (e:Nat→σ→τ) {body:τ→Option (τ ⊕ ρ)} (f:Nat→α→σ→Option (σ ⊕ ρ)) (fin:σ→Option ρ) (st:σ)
    (h1 : ∀ (k:Nat) x st,xs[k]?=some x→k<xs.length→idx xs (k:Int)=some x→decide ((k:Int)<(xs.length:Int))=true→IntKind.i64.wrap ((k:Int)+1)=((k+1:Nat):Int) →
      body (e k st)=match f k x st with
        | none=>none
        | some (.inl st')=>some (.inl (e (k+1) st'))
        | some (.inr r)=>some (.inr r))
    (h2:∀ st,decide ((xs.length:Int)<(xs.length:Int))=false→body (e xs.length st)=(fin st).map .inr):iter body (e 0 st)=foldE f fin 0 xs st:=by
  have:=iter_list xs hx e f fin h1 h2 xs.length 0 st (by omega)
  simpa using this
theorem iter_inv {α β:Type} {body:α→Option (α ⊕ β)} (I:α→Prop) (μ:α→Nat) (R:β→Prop) (h:∀ s,I s→(∃ s',body s=some (.inl s')∧I s'∧μ s' < μ s)∨∃ r,body s=some (.inr r)∧R r):∀ (n:Nat) s,μ s≤n→I s→∃ r,iter body s=some r∧R r
  | n,s,hn,hs=>by
    rcases h s hs with ⟨s',h1,h2,h3⟩ | ⟨r,h1,h2⟩
    · match n,hn with
      | 0,hn=>omega
      | n+1,hn =>
        obtain ⟨r,h4,h5⟩:=iter_inv I μ R h n s' (by omega) h2
        exact ⟨r,by rw [J5a,h1];exact h4,h5⟩
    · exact ⟨r,by rw [J5a,h1],h2⟩
theorem equal_loop {α:Type} [DecidableEq α] (a b:List α) (ha:a.length≤1099511627776) (hl:a.length=b.length) {body:Int→Option (Int ⊕ Bool)}
    (h1:∀ (k:Nat) x y,decide ((k:Int)<(a.length:Int))=true→idx a (k:Int)=some x→idx b (k:Int)=some y→IntKind.i64.wrap ((k:Int)+1)=((k+1:Nat):Int)→body k=if x=y then some (.inl ((k+1:Nat):Int)) else some (.inr false))
    (h2:decide ((a.length:Int)<(a.length:Int))=false→body a.length=some (.inr true)):iter body 0=some (decide (a=b)):=by
  have key:∀ (n k:Nat),k+n=a.length→iter body k=some (decide (a.drop k=b.drop k)):=by
    intro n
    induction n with
    | zero =>
      intro k hk
      have hk:k=a.length:=by omega
      subst hk
      rw [J5a,h2 (by simp),List.drop_length,List.drop_of_length_le (by omega)]
      simp
    | succ n ih =>
      intro k hk
      have hlt:k<a.length:=by omega
      have hlt2:k<b.length:=by omega
      have hd:(a.drop k=b.drop k) ↔ (a[k]=b[k]∧a.drop (k+1)=b.drop (k+1)):=by
        have ea:=List.drop_eq_getElem_cons hlt
        have eb:=List.drop_eq_getElem_cons hlt2
        constructor
        · intro h;rw [ea,eb] at h;exact List.cons.inj h
        · rintro ⟨h1,h2⟩;rw [ea,eb,h1,h2]
      rw [J5a,h1 k a[k] b[k] (by simp;omega) (Voa (List.getElem?_eq_getElem hlt)) (Voa (List.getElem?_eq_getElem hlt2)) (Qkb (by omega))]
      by_cases hxy:a[k]=b[k]
      · rw [if_pos hxy]
        simp only
        rw [ih (k+1) (by omega)]
        simp [hd,hxy]
      · rw [if_neg hxy]
        simp [hd,hxy]
  have:=key a.length 0 (by omega)
  simpa using this
end Go.Proofs.Ytfbmoockopakjaa
namespace Go.Proofs.Ytfbmoockopakjaa
open Go.RowKit
set_option linter.unusedVariables false
set_option linter.unusedSimpArgs false
theorem on3:Opn Try.prog 3 (fun n:Int=>[.int .i64 n]) gI mI :=
  (Opn.int Try.underlying3).map id (fun _=>rfl) (fun a h=>⟨h.1,h.2⟩) (fun _=>Nat.le_refl _)
theorem on26:Opn Try.prog 26 (fun l=>[.sl (l.map encI)]) (gL gI) (mL mI) :=
  (Opn.slice (size:=0) Try.underlying26 Ty.c3 on3).map id (fun _=>rfl) (fun a h=>h) (fun _=>Nat.le_refl _)
theorem on40:Opn Try.prog 40 Qga gNode mNode :=
  (Opn.struct Try.underlying40 Ty.c40 (OpnF.cons rfl 1 Ty.c3 on3 (OpnF.cons rfl 1 Ty.c3 on3 (OpnF.cons rfl 1 Ty.c26 on26 (OpnF.cons rfl 1 Ty.c26 on26 OpnF.nil))))).map (fun p=>(⟨p.1,p.2.1,p.2.2.1,p.2.2.2.1⟩:Node)) (fun p=>rfl) (fun p h=>⟨h.1,h.2.1,h.2.2.1,h.2.2.2.1⟩) (fun p=>by simp only [mNode,mI,mB];omega)
theorem on22:Opn Try.prog 22 (fun l=>[.sl (l.map Qga)]) (gL gNode) (mL mNode) :=
  (Opn.slice (size:=3) Try.underlying22 Ty.c40 on40).map id (fun _=>rfl) (fun a h=>h) (fun _=>Nat.le_refl _)
theorem on24:Opn Try.prog 24 encNet gNet mNet :=
  (Opn.struct Try.underlying24 Ty.c24 (OpnF.cons rfl 1 Ty.c22 on22 (OpnF.cons rfl 1 Ty.c3 on3 (OpnF.cons rfl 1 Ty.c3 on3 OpnF.nil)))).map (fun p=>(⟨p.1,p.2.1,p.2.2.1⟩:Net)) (fun p=>rfl) (fun p h=>⟨h.1,h.2.1,h.2.2.1⟩) (fun p=>by simp only [mNet,mI,mB];omega)
theorem on46:Opn Try.prog 46 Qaa gItem mItem :=
  (Opn.struct Try.underlying46 Ty.c46 (OpnF.cons rfl 1 Ty.c3 on3 (OpnF.cons rfl 1 Ty.c3 on3 (OpnF.cons rfl 1 Ty.c3 on3 OpnF.nil)))).map (fun p=>(⟨p.1,p.2.1,p.2.2.1⟩:Item)) (fun p=>rfl) (fun p h=>⟨h.1,h.2.1,h.2.2.1⟩) (fun p=>by simp only [mItem,mI,mB];omega)
theorem on29:Opn Try.prog 29 (fun l=>[.sl (l.map Qaa)]) (gL gItem) (mL mItem) :=
  (Opn.slice (size:=2) Try.underlying29 Ty.c46 on46).map id (fun _=>rfl) (fun a h=>h) (fun _=>Nat.le_refl _)
theorem on25:Opn Try.prog 25 (fun l=>[.sl (l.map (encL Qaa))]) (gL (gL gItem)) (mL (mL mItem)) :=
  (Opn.slice (size:=0) Try.underlying25 Ty.c29 on29).map id (fun _=>rfl) (fun a h=>h) (fun _=>Nat.le_refl _)
end Go.Proofs.Ytfbmoockopakjaa
namespace Go.Proofs.Ytfbmoockopakjaa
set_option linter.unusedVariables false
set_option linter.unusedSimpArgs false
def noEnds:Ends:=⟨-1, -1⟩
theorem rep_loop (R:Nat) (hR:R≤16):∀ (n k:Nat) (xs:List Ends),R - k≤n→1≤k→k≤R→xs.length=R→xs.take k=List.replicate k noEnds →
    iter (fun ss:Int × List Ends=>Zfa ss.1 ss.2) ((k:Int),xs)=some (List.replicate R noEnds)
  | n, k, xs,hn,h1,h2,hl,ht=>by
    rw [J5a]
    by_cases hk:k=R
    · subst hk
      unfold Zfa
      rw [if_neg (by simp [hl])]
      have:xs=List.replicate k noEnds:=by rw [← ht,List.take_of_length_le (by omega)]
      simp [this]
    · have hkR:k<R:=by omega
      have v1:vwok xs.length (k:Int) (xs.length:Int)=some ():=by unfold vwok;rw [if_pos (by omega)]
      have v2:vwok xs.length 0 (k:Int)=some ():=by unfold vwok;rw [if_pos (by omega)]
      have v3:vwok xs.length ((((k:Int)).toNat:Nat):Int) ((((k:Int).toNat:Nat):Int)+((((xs.length:Int)).toNat - (k:Int).toNat:Nat):Int))=some ():=by unfold vwok;rw [if_pos (by omega)]
      have v4:vwok xs.length ((((0:Int)).toNat:Nat):Int) ((((0:Int).toNat:Nat):Int)+(((k:Int).toNat - (0:Int).toNat:Nat):Int))=some ():=by unfold vwok;rw [if_pos (by simp;omega)]
      have hstep:Zfa (k:Int) xs=some (.inl (((k+min (R - k) k:Nat):Int),xs.take k++(xs.take k).take (R - k)++xs.drop (k+min (R - k) k))):=by
        unfold Zfa
        rw [if_pos (by simp;omega),v1,Option.bind_some,v2,Option.bind_some,v3,Option.bind_some,v4,Option.bind_some]
        have e1:IntKind.i64.wrap ((k:Int)+((min (((xs.length:Int)).toNat - (k:Int).toNat) ((k:Int).toNat - (0:Int).toNat):Nat):Int))=((k+min (R - k) k:Nat):Int):=by
          rw [Yqa (by omega) (by simp only [Int.toNat_natCast,Int.toNat_zero,hl];omega)]
          simp only [Int.toNat_natCast,Int.toNat_zero,hl];omega
        rw [e1]
        simp only [cpy,Int.toNat_natCast,Int.toNat_zero,hl,List.drop_zero,Nat.sub_zero,List.length_take]
        congr 5
        omega
      rw [hstep]
      simp only
      have hm:1≤min (R - k) k:=by omega
      match n,hn with
      | 0,hn=>omega
      | n+1,hn =>
        refine rep_loop R hR n (k+min (R - k) k) _ (by omega) (by omega) (by omega) (by simp;omega) ?_
        rw [ht,List.take_replicate]
        have e:(List.replicate k noEnds++List.replicate (min (R - k) k) noEnds).length=k+min (R - k) k:=by simp
        rw [← e,List.take_left,e]
        simp
theorem mul_lit (R:Nat) (hR:R≤16):math_bits_Mul (IntKind.u64.wrap (([(⟨(-1),(-1)⟩:Ends)]:List Ends).length:Int)) (IntKind.u64.wrap (R:Int))=some (0,(R:Int)):=by
  have:R=0∨R=1∨R=2∨R=3∨R=4∨R=5∨R=6∨R=7∨R=8∨R=9∨R=10∨R=11∨R=12∨R=13∨R=14∨R=15∨R=16:=by omega
  rcases this with rfl | rfl | rfl | rfl | rfl | rfl | rfl | rfl | rfl | rfl | rfl | rfl | rfl | rfl | rfl | rfl | rfl<;>rfl
theorem repeat_eq (R:Nat) (hR:R≤16):Vya ([(⟨(-1),(-1)⟩:Ends)]:List Ends) (R:Int)=some (List.replicate R noEnds):=by
  unfold Vya
  rw [if_neg (by simp),mul_lit R hR,Option.bind_some,if_neg (by simp;omega),Yqa (show -9223372036854775808≤(R:Int) by omega) (show (R:Int)≤9223372036854775807 by omega)]
  have hmk:mk (R:Int) (⟨0,0⟩:Ends)=some (List.replicate R ⟨0,0⟩):=by unfold mk;rw [if_pos (by omega)];rfl
  rw [hmk,Option.bind_some]
  simp only [List.length_replicate,List.length_singleton]
  by_cases h0:R=0
  · subst h0
    rw [J5a]
    unfold Zfa
    simp [cpy]
  · have e:min R 1=1:=by omega
    rw [e]
    have hc:cpy (List.replicate R (⟨0,0⟩:Ends)) 0 R [(⟨(-1),(-1)⟩:Ends)]=noEnds::(List.replicate R (⟨0,0⟩:Ends)).drop 1:=by
      unfold cpy
      have:([(⟨(-1),(-1)⟩:Ends)]:List Ends).take R=[⟨-1, -1⟩]:=List.take_of_length_le (by simp;omega)
      rw [this]
      simp [e,noEnds]
    rw [hc]
    exact rep_loop R hR R 1 _ (by omega) (by omega) (by omega) (by simp;omega) (by simp)
def arityN (k:Int):Option (Int × Int):=if k=1 then some (0,1) else if k=2∨k=3∨k=4 then some (1,1) else if k=5∨k=7 then some (1, -1) else if k=6 then some (-1,1) else if k=8 then some (1,0) else none
def fitsN (n:Nat) (want:Int):Bool:=decide ((n:Int)=want∨want<0∧0<n)
def badA (x:Node):Bool:=decide (x.A<0∨x.Kind=1∧4≤x.A∨x.Kind=2∧3<x.A∨x.Kind≠1∧x.Kind≠2∧x.A≠0)
def nodeErr (x:Node):Int:=match arityN x.Kind with
  | none=>5
  | some (i,o)=>if (fitsN x.In.length i && fitsN x.Out.length o)=false then 4 else if badA x then 3 else 0
def takeN (R i:Int):List Int→List Ends→Int ⊕ List Ends
  | [],l=>.inr l
  | r::rs,l=>if r<0∨R≤r then .inl 3 else match l[r.toNat]? with
    | none=>.inl 99
    | some e=>if 0≤e.dst then .inl 6 else takeN R i rs (l.set r.toNat ⟨e.src,i⟩)
def giveN (R i:Int):List Int→List Ends→Int ⊕ List Ends
  | [],l=>.inr l
  | r::rs,l=>if r<0∨R≤r then .inl 3 else match l[r.toNat]? with
    | none=>.inl 99
    | some e=>if 0≤e.src then .inl 6 else giveN R i rs (l.set r.toNat ⟨i,e.dst⟩)
def oneN (R:Int) (i:Nat) (x:Node) (l:List Ends):Int ⊕ List Ends :=
  if nodeErr x≠0 then .inl (nodeErr x) else match takeN R i x.In l with
    | .inl e=>.inl e
    | .inr l1=>giveN R i x.Out l1
def nodesN (R:Int):Nat→List Node→Nat→List Ends→Int ⊕ (Nat × List Ends)
  | _,[],s,l=>.inr (s,l)
  | i,x::xs,s,l=>match oneN R i x l with
    | .inl e=>.inl e
    | .inr l1=>nodesN R (i+1) xs (if x.Kind=8 then s+1 else s) l1
def lookN (n:Net):Int ⊕ List Ends :=
  if n.Nodes.length<1∨12<n.Nodes.length∨n.Rings<0∨16<n.Rings then .inl 2
  else if n.Room<1∨6<n.Room then .inl 3
  else match nodesN n.Rings 0 n.Nodes 0 (List.replicate n.Rings.toNat noEnds) with
    | .inl e=>.inl e
    | .inr (s,l)=>if l.any (fun e=>decide (e.src<0∨e.dst<0)) then .inl 9 else if s≠1 then .inl 4 else .inr l
theorem takeN_len (R i:Int):∀ (rs:List Int) (l l1:List Ends),takeN R i rs l=.inr l1→l1.length=l.length
  | [],l,l1,h=>by cases h;rfl
  | r :: rs,l,l1,h=>by
    unfold takeN at h
    split at h
    · cases h
    · split at h
      · cases h
      · split at h
        · cases h
        · have:=takeN_len R i rs _ l1 h;simpa using this
theorem giveN_len (R i:Int):∀ (rs:List Int) (l l1:List Ends),giveN R i rs l=.inr l1→l1.length=l.length
  | [],l,l1,h=>by cases h;rfl
  | r :: rs,l,l1,h=>by
    unfold giveN at h
    split at h
    · cases h
    · split at h
      · cases h
      · split at h
        · cases h
        · have:=giveN_len R i rs _ l1 h;simpa using this
theorem oneN_len {R:Int} {i:Nat} {x:Node} {l l1:List Ends} (h:oneN R i x l=.inr l1):l1.length=l.length:=by
  unfold oneN at h
  split at h
  · cases h
  · split at h
    · cases h
    · rename_i l2 h2
      exact (giveN_len R i _ _ _ h).trans (takeN_len R i _ _ _ h2)
theorem arity_eq (k:Int):net_arity k=some (match arityN k with | some (i,o)=>(i,o,true) | none=>(0,0,false)):=by
  unfold net_arity Yta Qib arityN
  by_cases h1:k=1
  · subst h1;rfl
  by_cases h2:k=2
  · subst h2;rfl
  by_cases h3:k=3
  · subst h3;rfl
  by_cases h4:k=4
  · subst h4;rfl
  by_cases h5:k=5
  · subst h5;rfl
  by_cases h6:k=6
  · subst h6;rfl
  by_cases h7:k=7
  · subst h7;rfl
  by_cases h8:k=8
  · subst h8;rfl
  simp [h1,h2,h3,h4,h5,h6,h7,h8]
theorem fits_eq (n:Nat) (w:Int):net_fits (n:Int) w=some (fitsN n w):=by
  unfold net_fits fitsN
  congr 1
  rw [Bool.eq_iff_iff]
  simp
theorem look_s1 (n:Net) (s:Int) (i:Nat) (x:Node) (hR:n.Rings≤16) (k:Nat) (l:List Ends) (hlt:k<x.Out.length) (hx:x.Out.length≤1099511627776) (hl:(l.length:Int)=n.Rings) :
    Yya n i x s k l=if x.Out[k]<0∨n.Rings≤x.Out[k] then some (.inr (.inr ([],3))) else match l[x.Out[k].toNat]? with
      | none=>none
      | some e=>if 0≤e.src then some (.inr (.inr ([],6))) else some (.inl (((k+1:Nat):Int),l.set x.Out[k].toNat ⟨i,e.dst⟩)):=by
  unfold Yya
  rw [if_pos (by simp;omega),Voa (List.getElem?_eq_getElem hlt),Option.bind_some]
  by_cases hr:x.Out[k]<0∨n.Rings≤x.Out[k]
  · rw [if_pos (by simp;omega),if_pos hr];rfl
  · rw [if_neg (by simp;omega),if_neg hr]
    have hrl:x.Out[k].toNat<l.length:=by omega
    have hix:ixN l x.Out[k]=some x.Out[k].toNat:=by unfold ixN;rw [if_pos (by omega)]
    have hg:=List.getElem?_eq_getElem hrl
    simp only [hix,hg,Option.bind_some,Qkb (show k<4611686018427387904 by omega)]
    by_cases he:0≤l[x.Out[k].toNat].src
    · rw [if_pos (by simp;omega),if_pos he];rfl
    · rw [if_neg (by simp;omega),if_neg he]
theorem look_s2 (n:Net) (s:Int) (i:Nat) (x:Node) (hR:n.Rings≤16) (k:Nat) (l:List Ends) (hlt:k<x.In.length) (hx:x.In.length≤1099511627776) (hl:(l.length:Int)=n.Rings) :
    Ywa n i x s k l=if x.In[k]<0∨n.Rings≤x.In[k] then some (.inr (.inr ([],3))) else match l[x.In[k].toNat]? with
      | none=>none
      | some e=>if 0≤e.dst then some (.inr (.inr ([],6))) else some (.inl (((k+1:Nat):Int),l.set x.In[k].toNat ⟨e.src,i⟩)):=by
  unfold Ywa
  rw [if_pos (by simp;omega),Voa (List.getElem?_eq_getElem hlt),Option.bind_some]
  by_cases hr:x.In[k]<0∨n.Rings≤x.In[k]
  · rw [if_pos (by simp;omega),if_pos hr];rfl
  · rw [if_neg (by simp;omega),if_neg hr]
    have hrl:x.In[k].toNat<l.length:=by omega
    have hix:ixN l x.In[k]=some x.In[k].toNat:=by unfold ixN;rw [if_pos (by omega)]
    have hg:=List.getElem?_eq_getElem hrl
    simp only [hix,hg,Option.bind_some,Qkb (show k<4611686018427387904 by omega)]
    by_cases he:0≤l[x.In[k].toNat].dst
    · rw [if_pos (by simp;omega),if_pos he];rfl
    · rw [if_neg (by simp;omega),if_neg he]
theorem look_l1 (n:Net) (s:Int) (i:Nat) (x:Node) (hx:x.Out.length≤1099511627776) (hi:i≤12) (hR:n.Rings≤16) :
    ∀ (m k:Nat) (l:List Ends),k+m=x.Out.length→(l.length:Int)=n.Rings →
    iter (fun ss:Int × List Ends=>Yya n i x s ss.1 ss.2) ((k:Int),l)=match giveN n.Rings i (x.Out.drop k) l with
      | .inl e=>some (.inr ([],e))
      | .inr l1=>some (.inl (s,((i+1:Nat):Int),l1))
  | 0,k,l,h,hl=>by
    have hk:k=x.Out.length:=by omega
    subst hk
    have:Yya n i x s (x.Out.length:Int) l=some (.inr (.inl (s,((i+1:Nat):Int),l))):=by
      unfold Yya
      rw [if_neg (by simp),Qkb (by omega)];rfl
    rw [J5a,List.drop_length]
    simp only [this,giveN]
  | m + 1,k,l,h,hl=>by
    have hlt:k<x.Out.length:=by omega
    rw [J5a,List.drop_eq_getElem_cons hlt]
    simp only [giveN,look_s1 n s i x hR k l hlt hx hl]
    by_cases hr:x.Out[k]<0∨n.Rings≤x.Out[k]
    · simp only [if_pos hr]
    · simp only [if_neg hr]
      have hrl:x.Out[k].toNat<l.length:=by omega
      simp only [List.getElem?_eq_getElem hrl]
      by_cases he:0≤l[x.Out[k].toNat].src
      · simp only [if_pos he]
      · simp only [if_neg he]
        exact look_l1 n s i x hx hi hR m (k+1) _ (by omega) (by simpa using hl)
theorem look_l2 (n:Net) (s:Int) (i:Nat) (x:Node) (hx:x.Out.length≤1099511627776) (hx2:x.In.length≤1099511627776) (hi:i≤12) (hR:n.Rings≤16) :
    ∀ (m k:Nat) (l:List Ends),k+m=x.In.length→(l.length:Int)=n.Rings →
    iter (fun ss:Int × List Ends=>Ywa n i x s ss.1 ss.2) ((k:Int),l)=match (match takeN n.Rings i (x.In.drop k) l with | .inl e=>Sum.inl e | .inr l1=>giveN n.Rings i x.Out l1) with
      | .inl e=>some (.inr ([],e))
      | .inr l1=>some (.inl (s,((i+1:Nat):Int),l1))
  | 0,k,l,h,hl=>by
    have hk:k=x.In.length:=by omega
    subst hk
    have:=look_l1 n s i x hx hi hR x.Out.length 0 l (by omega) hl
    simp only [List.drop_zero,Int.natCast_zero] at this
    have h2:Ywa n i x s (x.In.length:Int) l=Option.map Sum.inr (match giveN n.Rings i x.Out l with | .inl e=>some (.inr ([],e)) | .inr l1=>some (.inl (s,((i+1:Nat):Int),l1))):=by
      unfold Ywa
      rw [if_neg (by simp)]
      rw [← this]
    rw [J5a,List.drop_length]
    simp only [h2,takeN]
    cases giveN n.Rings i x.Out l<;>rfl
  | m + 1,k,l,h,hl=>by
    have hlt:k<x.In.length:=by omega
    rw [J5a,List.drop_eq_getElem_cons hlt]
    simp only [takeN,look_s2 n s i x hR k l hlt hx2 hl]
    by_cases hr:x.In[k]<0∨n.Rings≤x.In[k]
    · simp only [if_pos hr]
    · simp only [if_neg hr]
      have hrl:x.In[k].toNat<l.length:=by omega
      simp only [List.getElem?_eq_getElem hrl]
      by_cases he:0≤l[x.In[k].toNat].dst
      · simp only [if_pos he]
      · simp only [if_neg he]
        exact look_l2 n s i x hx hx2 hi hR m (k+1) _ (by omega) (by simpa using hl)
theorem badA_eq (x:Node):((decide (x.A<0)) || (if (x.Kind==1)=true then ((decide (x.A ≥ 4)) || (if (x.Kind==2)=true then ((decide (x.A > 3)) || ((x.Kind != 1) && ((x.Kind != 2) && x.A != 0))) else ((x.Kind != 1) && ((x.Kind != 2) && x.A != 0)))) else (if (x.Kind==2)=true then ((decide (x.A > 3)) || ((x.Kind != 1) && ((x.Kind != 2) && x.A != 0))) else ((x.Kind != 1) && ((x.Kind != 2) && x.A != 0)))))=badA x:=by
  unfold badA
  by_cases h1:x.Kind=1
  · rw [Bool.eq_iff_iff];simp [h1]
  · by_cases h2:x.Kind=2
    · rw [Bool.eq_iff_iff];simp [h1,h2]
    · rw [Bool.eq_iff_iff];simp [h1,h2]
theorem look_l4 (s:Int) (l:List Ends) (hl:l.length≤16):iter (fun ss:Int=>Qdb s l ss) 0=some (if l.any (fun e=>decide (e.src<0∨e.dst<0)) then ([],9) else if s≠1 then ([],4) else (l,0)):=by
  have:=iter_list0 (σ:=Unit) l (by omega) (fun k _=>(k:Int)) (body:=fun ss=>Qdb s l ss)
    (fun k e _=>if e.src<0∨e.dst<0 then some (.inr ([],9)) else some (.inl ())) (fun _=>if s≠1 then some ([],4) else some (l,0)) ()
    (fun k e _ hk hlt _ h2 h3=>by
      unfold Qdb
      rw [h2,ixN_at hlt,h3]
      simp only [if_true,Option.bind_some,hk]
      by_cases h:e.src<0∨e.dst<0
      · rw [if_pos (by simp;omega),if_pos h];rfl
      · rw [if_neg (by simp;omega),if_neg h])
    (fun _ h=>by
      unfold Qdb;rw [h]
      by_cases hs:s=1<;>simp [hs])
  refine Eq.trans this ?_
  have key:∀ (ys:List Ends) (k:Nat),foldE (σ:=Unit) (ρ:=List Ends × Int) (fun k e _=>if e.src<0∨e.dst<0 then some (.inr ([],9)) else some (.inl ())) (fun _=>if s≠1 then some ([],4) else some (l,0)) k ys ()=some (if ys.any (fun e=>decide (e.src<0∨e.dst<0)) then ([],9) else if s≠1 then ([],4) else (l,0)):=by
    intro ys
    induction ys with
    | nil=>intro k;simp only [foldE,List.any_nil];by_cases hs:s=1<;>simp [hs]
    | cons y ys ih =>
      intro k
      unfold foldE
      by_cases h:y.src<0∨y.dst<0
      · rw [if_pos h];simp [h]
      · rw [if_neg h];simp only;rw [ih];simp [h]
  exact key l 0
theorem look_l5 (n:Net) (hn:n.Nodes.length≤12) (hR0:0≤n.Rings) (hR:n.Rings≤16) (hio:∀ x∈n.Nodes,x.In.length≤1099511627776∧x.Out.length≤1099511627776) :
    ∀ (m k s:Nat) (l:List Ends),k+m=n.Nodes.length→s≤k→(l.length:Int)=n.Rings →
    iter (fun ss:Int × Int × List Ends=>Ysa n ss.1 ss.2.1 ss.2.2) ((s:Int),(k:Int),l)=some (match nodesN n.Rings k (n.Nodes.drop k) s l with
      | .inl e=>([],e)
      | .inr (s,l)=>if l.any (fun e=>decide (e.src<0∨e.dst<0)) then ([],9) else if s≠1 then ([],4) else (l,0))
  | 0,k,s,l,h,hs,hl=>by
    have hk:k=n.Nodes.length:=by omega
    subst hk
    have h5:Ysa n s (n.Nodes.length:Int) l=some (.inr (if l.any (fun e=>decide (e.src<0∨e.dst<0)) then ([],9) else if (s:Int)≠1 then ([],4) else (l,0))):=by
      unfold Ysa
      rw [if_neg (by simp),look_l4 _ _ (by omega)];rfl
    have:((s:Int)≠1) ↔ (s≠1):=by omega
    rw [J5a,List.drop_length]
    simp only [h5,nodesN,this]
  | m + 1, k, s,l,h,hs,hl=>by
    have hlt:k<n.Nodes.length:=by omega
    have hmem:n.Nodes[k]∈n.Nodes:=List.getElem_mem hlt
    rw [J5a,List.drop_eq_getElem_cons hlt]
    simp only [nodesN]
    have step : Ysa n s k l=match oneN n.Rings k n.Nodes[k] l with
        | .inl e=>some (.inr ([],e))
        | .inr l1=>some (.inl (((if n.Nodes[k].Kind=8 then s+1 else s:Nat):Int),((k+1:Nat):Int),l1)):=by
      unfold Ysa
      rw [if_pos (by simp;omega),Voa (List.getElem?_eq_getElem hlt),Option.bind_some,arity_eq,Option.bind_some]
      generalize n.Nodes[k]=x at hmem
      unfold oneN nodeErr
      cases ha:arityN x.Kind with
      | none=>simp
      | some io =>
        obtain ⟨i0,o0⟩:=io
        simp only [Bool.not_true,Bool.false_eq_true,if_false,fits_eq,Option.bind_some]
        have hfit:(if (!fitsN x.In.length i0)=true then some true else some (!fitsN x.Out.length o0))=some (!(fitsN x.In.length i0 && fitsN x.Out.length o0)):=by
          cases fitsN x.In.length i0<;>simp
        rw [hfit,Option.bind_some]
        by_cases hf:(fitsN x.In.length i0 && fitsN x.Out.length o0)=false
        · rw [if_pos (by simp [hf])]
          simp [hf]
        · have hf':(fitsN x.In.length i0 && fitsN x.Out.length o0)=true:=by simpa using hf
          rw [if_neg (by simp [hf']),badA_eq]
          simp only [hf',Bool.true_eq_false,if_false]
          by_cases hb:badA x=true
          · simp [hb]
          · simp only [hb,if_false,Bool.false_eq_true,ne_eq,not_true_eq_false]
            obtain ⟨h1,h2⟩:=hio x hmem
            have k3:∀ s':Int,Qcb n k l x s'=match (match takeN n.Rings k x.In l with | .inl e=>Sum.inl e | .inr l1=>giveN n.Rings k x.Out l1) with
                | .inl e=>some (.inr ([],e))
                | .inr l1=>some (.inl (s',((k+1:Nat):Int),l1)):=fun s'=>by
              unfold Qcb
              have:=look_l2 n s' k x h2 h1 (by omega) hR x.In.length 0 l (by omega) hl
              simpa using this
            by_cases h8:x.Kind=8
            · rw [if_pos (by simp [h8]),k3,Qkb (by omega)]
              simp only [h8,if_true]
            · rw [if_neg (by simp [h8]),k3]
              simp only [h8,if_false]
    simp only [step]
    cases ho:oneN n.Rings k n.Nodes[k] l with
    | inl e=>rfl
    | inr l1 =>
      simp only
      exact look_l5 n hn hR0 hR hio m (k+1) _ l1 (by omega) (by split<;>omega) (by rw [oneN_len ho];exact hl)
theorem net_look_eq (n:Net) (hio:∀ x∈n.Nodes,x.In.length≤1099511627776∧x.Out.length≤1099511627776):net_look n=some (match lookN n with | .inl e=>([],e) | .inr l=>(l,0)):=by
  unfold net_look lookN
  by_cases h1:n.Nodes.length<1∨12<n.Nodes.length∨n.Rings<0∨16<n.Rings
  · rw [if_pos (by simp;omega),if_pos h1]
  rw [if_neg (by simp;omega),if_neg h1]
  by_cases h2:n.Room<1∨6<n.Room
  · rw [if_pos (by simp;omega),if_pos h2]
  rw [if_neg (by simp;omega),if_neg h2]
  have hRn:n.Rings=((n.Rings.toNat:Nat):Int):=by omega
  rw [hRn,repeat_eq _ (by omega),Option.bind_some,← hRn]
  have:=look_l5 n (by omega) (by omega) (by omega) hio n.Nodes.length 0 0 (List.replicate n.Rings.toNat noEnds) (by omega) (by omega) (by simp;omega)
  simp only [Int.natCast_zero,List.drop_zero] at this
  rw [this]
  cases nodesN n.Rings 0 n.Nodes 0 (List.replicate n.Rings.toNat noEnds) with
  | inl e=>rfl
  | inr q =>
    obtain ⟨s,l⟩:=q
    simp only
    split
    · rfl
    · split<;>rfl
end Go.Proofs.Ytfbmoockopakjaa
namespace Go.Proofs.Ytfbmoockopakjaa
set_option linter.unusedVariables false
set_option linter.unusedSimpArgs false
theorem takeN_spec (R i:Int) (hi:0≤i):∀ (rs:List Int) (l l1:List Ends),(l.length:Int)=R→takeN R i rs l=.inr l1 →
    (∀ r∈rs,0≤r∧r<R∧∀ e,l[r.toNat]?=some e→e.dst<0)∧rs.Nodup∧∀ j:Nat,l1[j]?=if (j:Int)∈rs then (l[j]?).map (fun e=>⟨e.src,i⟩) else l[j]?
  | [],l,l1,hl,h=>by cases h;exact ⟨fun r hr=>by simp at hr,List.nodup_nil,fun j=>by simp⟩
  | r :: rs,l,l1,hl,h=>by
    unfold takeN at h
    split at h
    · cases h
    · rename_i hr
      split at h
      · cases h
      · rename_i e he
        split at h
        · cases h
        · rename_i hd
          have hlt:r.toNat<l.length:=(List.getElem?_eq_some_iff.1 he).1
          obtain ⟨h1,h2,h3⟩:=takeN_spec R i hi rs _ l1 (by simpa using hl) h
          have hnot:r ∉ rs:=fun hm=>by
            have:=(h1 r hm).2.2 ⟨e.src,i⟩ (by rw [List.getElem?_set,if_pos rfl,if_pos hlt])
            simp at this;omega
          refine ⟨fun q hq=>?_,List.nodup_cons.2 ⟨hnot,h2⟩,fun j=>?_⟩
          · rcases List.mem_cons.1 hq with rfl | hq
            · exact ⟨by omega,by omega,fun e' he'=>by rw [he] at he';cases he';omega⟩
            · obtain ⟨a,b,c⟩:=h1 q hq
              refine ⟨a,b,fun e' he'=>?_⟩
              have hne:q≠r:=fun e=>hnot (e▸hq)
              exact c e' (by rw [List.getElem?_set,if_neg (by omega)];exact he')
          · rw [h3 j,List.getElem?_set]
            by_cases hj:(j:Int)=r
            · have hjr:r.toNat=j:=by omega
              rw [if_neg (by rw [hj];exact hnot),if_pos hjr,if_pos hlt,if_pos (by rw [hj];exact List.mem_cons_self),← hjr,he]
              rfl
            · have hjr:¬ r.toNat=j:=by omega
              rw [if_neg hjr]
              by_cases hm:(j:Int)∈rs
              · rw [if_pos hm,if_pos (List.mem_cons_of_mem _ hm)]
              · rw [if_neg hm,if_neg (by simp [hj,hm])]
theorem giveN_spec (R i:Int) (hi:0≤i):∀ (rs:List Int) (l l1:List Ends),(l.length:Int)=R→giveN R i rs l=.inr l1 →
    (∀ r∈rs,0≤r∧r<R∧∀ e,l[r.toNat]?=some e→e.src<0)∧rs.Nodup∧∀ j:Nat,l1[j]?=if (j:Int)∈rs then (l[j]?).map (fun e=>⟨i,e.dst⟩) else l[j]?
  | [],l,l1,hl,h=>by cases h;exact ⟨fun r hr=>by simp at hr,List.nodup_nil,fun j=>by simp⟩
  | r :: rs,l,l1,hl,h=>by
    unfold giveN at h
    split at h
    · cases h
    · rename_i hr
      split at h
      · cases h
      · rename_i e he
        split at h
        · cases h
        · rename_i hd
          have hlt:r.toNat<l.length:=(List.getElem?_eq_some_iff.1 he).1
          obtain ⟨h1,h2,h3⟩:=giveN_spec R i hi rs _ l1 (by simpa using hl) h
          have hnot:r ∉ rs:=fun hm=>by
            have:=(h1 r hm).2.2 ⟨i,e.dst⟩ (by rw [List.getElem?_set,if_pos rfl,if_pos hlt])
            simp at this;omega
          refine ⟨fun q hq=>?_,List.nodup_cons.2 ⟨hnot,h2⟩,fun j=>?_⟩
          · rcases List.mem_cons.1 hq with rfl | hq
            · exact ⟨by omega,by omega,fun e' he'=>by rw [he] at he';cases he';omega⟩
            · obtain ⟨a,b,c⟩:=h1 q hq
              refine ⟨a,b,fun e' he'=>?_⟩
              have hne:q≠r:=fun e=>hnot (e▸hq)
              exact c e' (by rw [List.getElem?_set,if_neg (by omega)];exact he')
          · rw [h3 j,List.getElem?_set]
            by_cases hj:(j:Int)=r
            · have hjr:r.toNat=j:=by omega
              rw [if_neg (by rw [hj];exact hnot),if_pos hjr,if_pos hlt,if_pos (by rw [hj];exact List.mem_cons_self),← hjr,he]
              rfl
            · have hjr:¬ r.toNat=j:=by omega
              rw [if_neg hjr]
              by_cases hm:(j:Int)∈rs
              · rw [if_pos hm,if_pos (List.mem_cons_of_mem _ hm)]
              · rw [if_neg hm,if_neg (by simp [hj,hm])]
structure Looked (ns:List Node) (R:Int) (k:Nat) (l:List Ends):Prop where
  len:(l.length:Int)=R
  src:∀ (j:Nat) e,l[j]?=some e→(e.src<0∨∃ (i:Nat) (x:Node),i<k∧ns[i]?=some x∧e.src=i∧(j:Int)∈x.Out)
  dst:∀ (j:Nat) e,l[j]?=some e→(e.dst<0∨∃ (i:Nat) (x:Node),i<k∧ns[i]?=some x∧e.dst=i∧(j:Int)∈x.In)
  node:∀ (i:Nat) x,i<k→ns[i]?=some x→nodeErr x=0∧x.In.Nodup∧x.Out.Nodup ∧
    (∀ r∈x.In,0≤r∧r<R∧∃ e,l[r.toNat]?=some e∧e.dst=i)∧(∀ r∈x.Out,0≤r∧r<R∧∃ e,l[r.toNat]?=some e∧e.src=i)
theorem Looked.one {ns:List Node} {R:Int} {k:Nat} {l l1:List Ends} {x:Node} (h:Looked ns R k l) (hx:ns[k]?=some x) (ho:oneN R k x l=.inr l1):Looked ns R (k+1) l1:=by
  unfold oneN at ho
  split at ho
  · cases ho
  · rename_i hne
    split at ho
    · cases ho
    · rename_i l2 h2
      have hl2:(l2.length:Int)=R:=by rw [takeN_len R k _ _ _ h2];exact h.len
      obtain ⟨a1,a2,a3⟩:=takeN_spec R k (by omega) _ _ _ h.len h2
      obtain ⟨b1,b2,b3⟩:=giveN_spec R k (by omega) _ _ _ hl2 ho
      have hent:∀ (j:Nat) e1,l1[j]?=some e1→∃ e,l[j]?=some e∧e1.src=(if (j:Int)∈x.Out then (k:Int) else e.src)∧e1.dst=(if (j:Int)∈x.In then (k:Int) else e.dst):=fun j e1 he1=>by
        rw [b3 j,a3 j] at he1
        cases hj:l[j]? with
        | none=>rw [hj] at he1;split at he1<;>split at he1<;>cases he1
        | some e =>
          rw [hj] at he1
          refine ⟨e,rfl,?_⟩
          split at he1<;>split at he1<;>cases he1<;>simp_all
      have hent2:∀ (j:Nat) e,l[j]?=some e→∃ e1,l1[j]?=some e1∧e1.src=(if (j:Int)∈x.Out then (k:Int) else e.src)∧e1.dst=(if (j:Int)∈x.In then (k:Int) else e.dst):=fun j e he=>by
        have hlt:j<l1.length:=by
          have:=giveN_len R k _ _ _ ho
          have:=takeN_len R k _ _ _ h2
          have:=(List.getElem?_eq_some_iff.1 he).1
          omega
        obtain ⟨e',h1,h3⟩:=hent j _ (List.getElem?_eq_getElem hlt)
        rw [he] at h1;cases h1
        exact ⟨_,List.getElem?_eq_getElem hlt,h3⟩
      refine ⟨by rw [giveN_len R k _ _ _ ho];exact hl2,fun j e1 he1=>?_,fun j e1 he1=>?_,fun i y hi hy=>?_⟩
      · obtain ⟨e,he,hs,_⟩:=hent j e1 he1
        by_cases hm:(j:Int)∈x.Out
        · rw [if_pos hm] at hs
          exact .inr ⟨k,x,by omega,hx,hs,hm⟩
        · rw [if_neg hm] at hs
          rw [hs]
          rcases h.src j e he with h1 | ⟨i,y,h1,h2,h3,h4⟩
          · exact .inl h1
          · exact .inr ⟨i,y,by omega,h2,h3,h4⟩
      · obtain ⟨e,he,_,hs⟩:=hent j e1 he1
        by_cases hm:(j:Int)∈x.In
        · rw [if_pos hm] at hs
          exact .inr ⟨k,x,by omega,hx,hs,hm⟩
        · rw [if_neg hm] at hs
          rw [hs]
          rcases h.dst j e he with h1 | ⟨i,y,h1,h2,h3,h4⟩
          · exact .inl h1
          · exact .inr ⟨i,y,by omega,h2,h3,h4⟩
      · rcases Nat.lt_or_ge i k with hik | hik
        · obtain ⟨c1,c2,c3,c4,c5⟩:=h.node i y hik hy
          refine ⟨c1,c2,c3,fun r hr=>?_,fun r hr=>?_⟩
          · obtain ⟨d1,d2,e,d3,d4⟩:=c4 r hr
            refine ⟨d1,d2,?_⟩
            obtain ⟨e1,f1,_,f2⟩:=hent2 _ e d3
            have hnm:(r.toNat:Int) ∉ x.In:=fun hm=>by
              have:=(a1 _ hm).2.2 e (by rw [Int.toNat_natCast];exact d3)
              omega
            rw [if_neg hnm] at f2
            exact ⟨e1,f1,f2.trans d4⟩
          · obtain ⟨d1,d2,e,d3,d4⟩:=c5 r hr
            refine ⟨d1,d2,?_⟩
            obtain ⟨e1,f1,f2,_⟩:=hent2 _ e d3
            have hnm:(r.toNat:Int) ∉ x.Out:=fun hm=>by
              have hl2e:∃ e2,l2[r.toNat]?=some e2∧e2.src=e.src:=by
                rw [a3]
                split<;>simp [d3]
              obtain ⟨e2,g1,g2⟩:=hl2e
              have:=(b1 _ hm).2.2 e2 (by rw [Int.toNat_natCast];exact g1)
              omega
            rw [if_neg hnm] at f2
            exact ⟨e1,f1,f2.trans d4⟩
        · have hik:i=k:=by omega
          subst hik
          rw [hx] at hy;cases hy
          refine ⟨by simpa using hne,a2,b2,fun r hr=>?_,fun r hr=>?_⟩
          · obtain ⟨d1,d2,_⟩:=a1 r hr
            refine ⟨d1,d2,?_⟩
            have hlt:r.toNat<l.length:=by have:=h.len;omega
            obtain ⟨e1,f1,_,f2⟩:=hent2 _ _ (List.getElem?_eq_getElem hlt)
            rw [if_pos (by rw [Int.toNat_of_nonneg d1];exact hr)] at f2
            exact ⟨e1,f1,f2⟩
          · obtain ⟨d1,d2,_⟩:=b1 r hr
            refine ⟨d1,d2,?_⟩
            have hlt:r.toNat<l.length:=by have:=h.len;omega
            obtain ⟨e1,f1,f2,_⟩:=hent2 _ _ (List.getElem?_eq_getElem hlt)
            rw [if_pos (by rw [Int.toNat_of_nonneg d1];exact hr)] at f2
            exact ⟨e1,f1,f2⟩
theorem Looked.start (ns:List Node) (R:Nat):Looked ns R 0 (List.replicate R noEnds) :=
  ⟨by simp,fun j e he=>by rw [List.getElem?_replicate] at he;split at he<;>cases he;exact .inl (by decide),fun j e he=>by rw [List.getElem?_replicate] at he;split at he<;>cases he;exact .inl (by decide),fun i x hi=>by omega⟩
theorem nodesN_ok (ns:List Node) (R:Int):∀ (xs:List Node) (k s:Nat) (l:List Ends) (s1:Nat) (l1:List Ends),ns.drop k=xs→Looked ns R k l→nodesN R k xs s l=.inr (s1,l1) →
    Looked ns R ns.length l1∧s1=s+(xs.filter (fun x=>decide (x.Kind=8))).length
  | [],k,s,l,s1,l1,hd,h,hn=>by
    cases hn
    have hk:ns.length≤k:=List.drop_eq_nil_iff.1 hd
    refine ⟨⟨h.len,fun j e he=>?_,fun j e he=>?_,fun i x hi hx=>h.node i x (by omega) hx⟩,by simp⟩
    · rcases h.src j e he with h1 | ⟨i,y,h1,h2,h3⟩
      · exact .inl h1
      · exact .inr ⟨i,y,(List.getElem?_eq_some_iff.1 h2).1,h2,h3⟩
    · rcases h.dst j e he with h1 | ⟨i,y,h1,h2,h3⟩
      · exact .inl h1
      · exact .inr ⟨i,y,(List.getElem?_eq_some_iff.1 h2).1,h2,h3⟩
  | x :: xs,k,s,l,s1,l1,hd,h,hn=>by
    have hx:ns[k]?=some x:=by
      have:=congrArg (fun l=>l[0]?) hd
      simpa [List.getElem?_drop] using this
    have hd2:ns.drop (k+1)=xs:=by
      have:=congrArg (List.drop 1) hd
      simpa [List.drop_drop,Nat.add_comm] using this
    unfold nodesN at hn
    split at hn
    · cases hn
    · rename_i l2 h2
      obtain ⟨a,b⟩:=nodesN_ok ns R xs (k+1) _ l2 s1 l1 hd2 (h.one hx h2) hn
      refine ⟨a,?_⟩
      rw [b]
      by_cases h8:x.Kind=8
      · simp [h8];omega
      · simp [h8]
structure NetL (n:Net) (l:List Ends):Prop where
  n1:1≤n.Nodes.length
  n2:n.Nodes.length≤12
  r1:0≤n.Rings
  r2:n.Rings≤16
  m1:1≤n.Room
  m2:n.Room≤6
  len:(l.length:Int)=n.Rings
  src:∀ (j:Nat) e,l[j]?=some e→∃ (i:Nat) (x:Node),n.Nodes[i]?=some x∧e.src=i∧(j:Int)∈x.Out
  dst:∀ (j:Nat) e,l[j]?=some e→∃ (i:Nat) (x:Node),n.Nodes[i]?=some x∧e.dst=i∧(j:Int)∈x.In
  err:∀ (i:Nat) x,n.Nodes[i]?=some x→nodeErr x=0
  ndI:∀ (i:Nat) x,n.Nodes[i]?=some x→x.In.Nodup
  ndO:∀ (i:Nat) x,n.Nodes[i]?=some x→x.Out.Nodup
  inn:∀ (i:Nat) x,n.Nodes[i]?=some x→∀ r∈x.In,0≤r∧r<n.Rings∧∃ e,l[r.toNat]?=some e∧e.dst=i
  out:∀ (i:Nat) x,n.Nodes[i]?=some x→∀ r∈x.Out,0≤r∧r<n.Rings∧∃ e,l[r.toNat]?=some e∧e.src=i
  sink:(n.Nodes.filter (fun x=>decide (x.Kind=8))).length=1
theorem lookN_ok {n:Net} {l:List Ends} (h:lookN n=.inr l):NetL n l:=by
  unfold lookN at h
  split at h
  · cases h
  · rename_i h1
    split at h
    · cases h
    · rename_i h2
      split at h
      · cases h
      · rename_i s l' hn
        split at h
        · cases h
        · rename_i hany
          split at h
          · cases h
          · rename_i hs
            cases h
            have hst:=Looked.start n.Nodes n.Rings.toNat
            rw [Int.toNat_of_nonneg (by omega)] at hst
            obtain ⟨a,b⟩:=nodesN_ok n.Nodes n.Rings n.Nodes 0 0 _ s l (by simp) hst hn
            have hpos:∀ (j:Nat) e,l[j]?=some e→¬ e.src<0∧¬ e.dst<0:=fun j e he=>by
              have hm:=List.mem_of_getElem? he
              simp only [List.any_eq_true,not_exists,not_and] at hany
              have:=hany e hm
              simp at this;omega
            refine ⟨by omega,by omega,by omega,by omega,by omega,by omega,a.len,fun j e he=>?_,fun j e he=>?_,fun i x hx=>(a.node i x (List.getElem?_eq_some_iff.1 hx).1 hx).1,fun i x hx=>(a.node i x (List.getElem?_eq_some_iff.1 hx).1 hx).2.1,fun i x hx=>(a.node i x (List.getElem?_eq_some_iff.1 hx).1 hx).2.2.1,fun i x hx=>(a.node i x (List.getElem?_eq_some_iff.1 hx).1 hx).2.2.2.1,fun i x hx=>(a.node i x (List.getElem?_eq_some_iff.1 hx).1 hx).2.2.2.2,by omega⟩
            · rcases a.src j e he with h3 | ⟨i,y,_,h4⟩
              · exact absurd h3 (hpos j e he).1
              · exact ⟨i,y,h4⟩
            · rcases a.dst j e he with h3 | ⟨i,y,_,h4⟩
              · exact absurd h3 (hpos j e he).2
              · exact ⟨i,y,h4⟩
end Go.Proofs.Ytfbmoockopakjaa
namespace Go.Proofs.Ytfbmoockopakjaa
set_option linter.unusedVariables false
set_option linter.unusedSimpArgs false
def firstN (ok:Nat→Bool):Nat→Nat→Option Nat
  | 0,_=>none
  | m+1,k=>if ok k then some k else firstN ok m (k+1)
theorem firstN_some {ok:Nat→Bool}:∀ {m k i:Nat},firstN ok m k=some i→k≤i∧i<k+m∧ok i=true
  | 0,k,i,h=>by cases h
  | m+1,k,i,h=>by
    unfold firstN at h
    split at h
    · rename_i hk;cases h;exact ⟨by omega,by omega,hk⟩
    · obtain ⟨a,b,c⟩:=firstN_some h;exact ⟨by omega,by omega,c⟩
def fedN (l:List Ends) (out:List Nat) (x:Node):Bool:=x.In.all fun r=>match l[r.toNat]? with | some e=>out.contains e.src.toNat | none=>false
def okN (l:List Ends) (out:List Nat) (ns:List Node) (i:Nat):Bool:=!(out.contains i) && (match ns[i]? with | some x=>fedN l out x | none=>false)
def ordN (l:List Ends) (ns:List Node):Nat→List Nat→Option (List Nat)
  | 0,out=>some out
  | m+1,out=>match firstN (okN l out ns) ns.length 0 with
    | none=>none
    | some i=>ordN l ns m (out++[i])
def netR (n:Net):List Int × Int:=match lookN n with
  | .inl e=>([],e)
  | .inr l=>match ordN l n.Nodes n.Nodes.length [] with
    | none=>([],7)
    | some out=>(out.map (fun i:Nat=>(i:Int)),0)
def doneL (N:Nat) (out:List Nat):List Bool:=(List.range N).map fun i=>out.contains i
theorem doneL_get {N:Nat} {out:List Nat} {i:Nat} (h:i<N):(doneL N out)[i]?=some (out.contains i):=by
  unfold doneL;rw [List.getElem?_map,List.getElem?_range h];rfl
theorem doneL_len {N:Nat} {out:List Nat}:(doneL N out).length=N:=by simp [doneL]
theorem doneL_set {N:Nat} {out:List Nat} {i:Nat} (h:i<N):(doneL N out).set i true=doneL N (out++[i]):=by
  apply List.ext_getElem?
  intro j
  rw [List.getElem?_set,doneL_len]
  by_cases hj:j<N
  · rw [doneL_get hj]
    by_cases hij:i=j
    · subst hij;rw [if_pos rfl,if_pos h,doneL_get h];simp
    · rw [if_neg hij,doneL_get hj]
      have:¬ j=i:=fun e=>hij e.symm
      simp [this]
  · rw [List.getElem?_eq_none (by rw [doneL_len];omega),List.getElem?_eq_none (by rw [doneL_len];omega),if_neg (by omega)]
theorem doneL_nil (N:Nat):List.replicate N false=doneL N []:=by
  apply List.ext_getElem?
  intro j
  rw [List.getElem?_replicate]
  by_cases hj:j<N
  · rw [if_pos hj,doneL_get hj];rfl
  · rw [if_neg hj,List.getElem?_eq_none (by rw [doneL_len];omega)]
theorem order_k1 {n:Net} (out:List Nat) (ho:out.length≤12) (z:Option Nat) (hz:∀ i,z=some i→i<n.Nodes.length):Yva (out.map (fun i:Nat=>(i:Int))) (doneL n.Nodes.length out) (match z with | some i=>(i:Int) | none => -1)=match z with
    | some i=>some (.inl ((out++[i]).map (fun i:Nat=>(i:Int)),doneL n.Nodes.length (out++[i])))
    | none=>some (.inr ([],7)):=by
  unfold Yva
  cases z with
  | none=>rfl
  | some i =>
    have hi:=hz i rfl
    simp only
    rw [if_neg (by rw [decide_eq_true_iff];omega)]
    have e1:ixN (doneL n.Nodes.length out) (i:Int)=some i:=by unfold ixN;rw [if_pos (by rw [doneL_len];omega)];rfl
    simp only [e1,Option.bind_some,doneL_get hi]
    rw [app_ok (by simp;omega),Option.bind_some,doneL_set hi]
    simp
section
variable {n:Net} {l:List Ends} (hn:NetL n l)
include hn
theorem src_lt {j:Nat} {e:Ends} (h:l[j]?=some e):0≤e.src∧e.src.toNat<n.Nodes.length:=by
  obtain ⟨i,x,h1,h2,_⟩:=hn.src j e h
  have:=(List.getElem?_eq_some_iff.1 h1).1
  omega
theorem notfed_eq {i:Nat} {x:Node} (hx:n.Nodes[i]?=some x) (out:List Nat) {r:Int} (hr:r∈x.In) :
    V4a r (doneL n.Nodes.length out) l=some (!(match l[r.toNat]? with | some e=>out.contains e.src.toNat | none=>false)):=by
  obtain ⟨h1,h2,e,h3,_⟩:=hn.inn i x hx r hr
  have hlt:=(List.getElem?_eq_some_iff.1 h3).1
  obtain ⟨h4,h5⟩:=src_lt hn h3
  have e1:ixN l r=some r.toNat:=by unfold ixN;rw [if_pos (by omega)]
  have e2:ixN (doneL n.Nodes.length out) e.src=some e.src.toNat:=by unfold ixN;rw [if_pos (by rw [doneL_len];omega)]
  unfold V4a
  simp only [e1,Option.bind_some,h3,e2,doneL_get h5]
theorem notfed_any {i:Nat} {x:Node} (hx:n.Nodes[i]?=some x) (out:List Nat) (hl:x.In.length≤1099511627776):Zaa x.In (doneL n.Nodes.length out) l=some (!fedN l out x):=by
  unfold Zaa Z3a
  have:=iter_list0 (σ:=Unit) x.In hl (fun k _=>(k:Int)) (body:=fun ss=>Zba x.In (doneL n.Nodes.length out) l ss)
    (fun k r _=>if (match l[r.toNat]? with | some e=>out.contains e.src.toNat | none=>false)=false then some (.inr (k:Int)) else some (.inl ())) (fun _=>some (-1)) ()
    (fun k r _ hk hlt h1 h2 h3=>by
      unfold Zba
      rw [h2,h1,h3]
      simp only [if_true,Option.bind_some]
      rw [notfed_eq hn hx out (List.mem_of_getElem? hk),Option.bind_some]
      generalize (match l[r.toNat]? with | some e=>out.contains e.src.toNat | none=>false)=b
      cases b<;>rfl)
    (fun _ h=>by unfold Zba;rw [h];rfl)
  simp only [Int.natCast_zero] at this
  rw [this]
  have key:∀ (ys:List Int) (k:Nat),∃ v:Int,foldE (σ:=Unit) (fun k r _=>if (match l[r.toNat]? with | some e=>out.contains e.src.toNat | none=>false)=false then some (.inr (k:Int)) else some (.inl ())) (fun _=>some (-1:Int)) k ys ()=some v ∧
      decide (v ≥ 0)=!(ys.all fun r=>match l[r.toNat]? with | some e=>out.contains e.src.toNat | none=>false):=by
    intro ys
    induction ys with
    | nil=>intro k;exact ⟨-1,rfl,by simp⟩
    | cons y ys ih =>
      intro k
      unfold foldE
      by_cases h:(match l[y.toNat]? with | some e=>out.contains e.src.toNat | none=>false)=false
      · rw [if_pos h]
        exact ⟨k,rfl,by rw [List.all_cons,h];simp⟩
      · rw [if_neg h]
        simp only
        obtain ⟨v,h1,h2⟩:=ih (k+1)
        refine ⟨v,h1,?_⟩
        rw [h2,List.all_cons]
        have h':(match l[y.toNat]? with | some e=>out.contains e.src.toNat | none=>false)=true:=by simpa using h
        rw [h'];simp
  obtain ⟨v,h1,h2⟩:=key x.In 0
  rw [h1,Option.bind_some,h2]
  rfl
theorem order_l2 (hio:∀ x∈n.Nodes,x.In.length≤1099511627776) (q:Int) (out:List Nat) (ho:out.length≤12):∀ (m k:Nat),k+m=n.Nodes.length →
    iter (fun ss:Int=>Yca n (l,q) (out.map (fun i:Nat=>(i:Int))) (doneL n.Nodes.length out) ss) (k:Int)=match firstN (okN l out n.Nodes) m k with
      | some i=>some (.inl ((out++[i]).map (fun i:Nat=>(i:Int)),doneL n.Nodes.length (out++[i])))
      | none=>some (.inr ([],7))
  | 0,k,h=>by
    have hk:k=n.Nodes.length:=by omega
    subst hk
    have:Yca n (l,q) (out.map (fun i:Nat=>(i:Int))) (doneL n.Nodes.length out) (n.Nodes.length:Int)=some (.inr (.inr ([],7))):=by
      unfold Yca
      rw [if_neg (by simp)]
      rfl
    rw [J5a,this]
    rfl
  | m + 1,k,h=>by
    have hlt:k<n.Nodes.length:=by omega
    have hn2:=hn.n2
    have hx:n.Nodes[k]?=some n.Nodes[k]:=List.getElem?_eq_getElem hlt
    have e1:ixN (doneL n.Nodes.length out) (k:Int)=some k:=by unfold ixN;rw [if_pos (by rw [doneL_len];omega)];rfl
    have hstep:Yca n (l,q) (out.map (fun i:Nat=>(i:Int))) (doneL n.Nodes.length out) (k:Int)=if okN l out n.Nodes k then some (.inr (.inl ((out++[k]).map (fun i:Nat=>(i:Int)),doneL n.Nodes.length (out++[k])))) else some (.inl ((k+1:Nat):Int)):=by
      unfold Yca
      rw [if_pos (by simp;omega),Voa hx,Option.bind_some]
      simp only [e1,Option.bind_some,doneL_get hlt]
      have hok:okN l out n.Nodes k=(!(out.contains k) && fedN l out n.Nodes[k]):=by unfold okN;rw [hx]
      have hin:(if (!(out.contains k))=true then (Zaa n.Nodes[k].In (doneL n.Nodes.length out) l).bind fun x12=>some (!x12) else some false)=some (okN l out n.Nodes k):=by
        rw [notfed_any hn hx out (hio _ (List.getElem_mem hlt)),hok]
        cases out.contains k<;>simp
      rw [hin,Option.bind_some,Qkb (by omega)]
      by_cases hb:okN l out n.Nodes k=true
      · rw [if_pos hb,if_pos hb]
        have:=order_k1 (n:=n) out ho (some k) (fun i e=>by cases e;exact hlt)
        simp only at this
        rw [this];rfl
      · rw [if_neg hb,if_neg hb]
    rw [J5a,hstep,firstN]
    by_cases hb:okN l out n.Nodes k=true
    · simp only [if_pos hb]
    · simp only [if_neg hb]
      exact order_l2 hio q out ho m (k+1) (by omega)
theorem order_l3 (hio:∀ x∈n.Nodes,x.In.length≤1099511627776) (q:Int):∀ (m:Nat) (out:List Nat),out.length+m=n.Nodes.length →
    iter (fun ss:List Int × List Bool=>V7a n (l,q) ss.1 ss.2) (out.map (fun i:Nat=>(i:Int)),doneL n.Nodes.length out)=some (match ordN l n.Nodes m out with
      | none=>([],7)
      | some out=>(out.map (fun i:Nat=>(i:Int)),0))
  | 0,out,h=>by
    have:V7a n (l,q) (out.map (fun i:Nat=>(i:Int))) (doneL n.Nodes.length out)=some (.inr (out.map (fun i:Nat=>(i:Int)),0)):=by
      unfold V7a
      rw [if_neg (by simp;omega)];rfl
    rw [J5a]
    simp only [this,ordN]
  | m + 1,out,h=>by
    have hstep:V7a n (l,q) (out.map (fun i:Nat=>(i:Int))) (doneL n.Nodes.length out)=match firstN (okN l out n.Nodes) n.Nodes.length 0 with
      | some i=>some (.inl ((out++[i]).map (fun i:Nat=>(i:Int)),doneL n.Nodes.length (out++[i])))
      | none=>some (.inr ([],7)):=by
      unfold V7a
      rw [if_pos (by simp;omega)]
      have:=order_l2 hn hio q out (by have:=hn.n2;omega) n.Nodes.length 0 (by omega)
      simpa using this
    rw [J5a]
    simp only [hstep,ordN]
    cases firstN (okN l out n.Nodes) n.Nodes.length 0 with
    | none=>rfl
    | some i =>
      simp only
      exact order_l3 hio q m (out++[i]) (by simp;omega)
end
theorem takeN_ne (R i:Int):∀ (rs:List Int) (l:List Ends),takeN R i rs l≠.inl 0
  | [],l,h=>by cases h
  | r :: rs,l,h=>by
    unfold takeN at h
    split at h
    · exact absurd (Sum.inl.inj h) (by decide)
    · split at h
      · exact absurd (Sum.inl.inj h) (by decide)
      · split at h
        · exact absurd (Sum.inl.inj h) (by decide)
        · exact takeN_ne R i rs _ h
theorem giveN_ne (R i:Int):∀ (rs:List Int) (l:List Ends),giveN R i rs l≠.inl 0
  | [],l,h=>by cases h
  | r :: rs,l,h=>by
    unfold giveN at h
    split at h
    · exact absurd (Sum.inl.inj h) (by decide)
    · split at h
      · exact absurd (Sum.inl.inj h) (by decide)
      · split at h
        · exact absurd (Sum.inl.inj h) (by decide)
        · exact giveN_ne R i rs _ h
theorem oneN_ne (R:Int) (i:Nat) (x:Node) (l:List Ends):oneN R i x l≠.inl 0:=fun h=>by
  unfold oneN at h
  split at h
  · rename_i hne;exact hne (Sum.inl.inj h)
  · split at h
    · rename_i h2;cases h;exact takeN_ne _ _ _ _ h2
    · exact giveN_ne _ _ _ _ h
theorem nodesN_ne (R:Int):∀ (xs:List Node) (k s:Nat) (l:List Ends),nodesN R k xs s l≠.inl 0
  | [],k,s,l,h=>by cases h
  | x::xs,k,s,l,h=>by
    unfold nodesN at h
    split at h
    · rename_i h2;cases h;exact oneN_ne _ _ _ _ h2
    · exact nodesN_ne R xs _ _ _ h
theorem lookN_ne (n:Net):lookN n≠.inl 0:=fun h=>by
  unfold lookN at h
  split at h
  · exact absurd (Sum.inl.inj h) (by decide)
  · split at h
    · exact absurd (Sum.inl.inj h) (by decide)
    · split at h
      · rename_i h2;cases h;exact nodesN_ne _ _ _ _ _ h2
      · split at h
        · exact absurd (Sum.inl.inj h) (by decide)
        · split at h
          · exact absurd (Sum.inl.inj h) (by decide)
          · cases h
theorem net_Order_eq (n:Net) (hio:∀ x∈n.Nodes,x.In.length≤1099511627776∧x.Out.length≤1099511627776):net_Order n=some (netR n):=by
  unfold net_Order netR
  rw [net_look_eq n hio,Option.bind_some]
  cases h:lookN n with
  | inl e =>
    simp only
    have he:e≠0:=fun e0=>lookN_ne n (e0▸h)
    rw [if_pos (by simpa using he)]
  | inr l =>
    simp only
    have hn:=lookN_ok h
    rw [if_neg (by simp)]
    have hmk:mk (n.Nodes.length:Int) false=some (doneL n.Nodes.length []):=by
      unfold mk;rw [if_pos (by have:=hn.n2;omega),← doneL_nil];rfl
    rw [hmk,Option.bind_some]
    have:=order_l3 hn (fun x hx=>(hio x hx).1) 0 n.Nodes.length [] (by simp)
    simp only [List.map_nil] at this
    rw [this]
theorem net_Check_eq (n:Net) (hio:∀ x∈n.Nodes,x.In.length≤1099511627776∧x.Out.length≤1099511627776):net_Check n=some (netR n).2:=by
  unfold net_Check;rw [net_Order_eq n hio];rfl
end Go.Proofs.Ytfbmoockopakjaa
namespace Go.Proofs.Ytfbmoockopakjaa
set_option linter.unusedVariables false
set_option linter.unusedSimpArgs false
theorem mget_mset_same {κ ν:Type} [DecidableEq κ] (k:κ) (v:ν):∀ m:List (κ × ν),mget k (mset k v m)=some v
  | []=>by simp [mset,mget]
  | p :: r=>by
    unfold mset
    split
    · simp [mget]
    · rename_i h
      simp only [mget,if_neg h]
      exact mget_mset_same k v r
theorem mget_mset_ne {κ ν:Type} [DecidableEq κ] {k k':κ} (v:ν) (hk:k≠k'):∀ m:List (κ × ν),mget k (mset k' v m)=mget k m
  | []=>by simp [mset,mget,hk]
  | p :: r=>by
    unfold mset
    split
    · rename_i h
      simp only [mget,if_neg hk]
      rw [if_neg (fun e=>hk (e.trans h.symm))]
    · simp only [mget]
      rw [mget_mset_ne v hk r]
theorem mset_len_new {κ ν:Type} [DecidableEq κ] {k:κ} (v:ν):∀ {m:List (κ × ν)},mget k m=none→(mset k v m).length=m.length+1
  | [],_=>rfl
  | p :: r,h=>by
    simp only [mget] at h
    split at h
    · cases h
    · rename_i hk
      simp only [mset,if_neg hk,List.length_cons]
      rw [mset_len_new v h]
structure MRi (v:List Int) (m:List (Int × Int)):Prop where
  len:m.length=v.countP (fun x=>decide (0≤x))
  get:∀ (j:Nat) x,v[j]?=some x→mget (j:Int) m=if x<0 then none else some x
theorem MRi.set {v:List Int} {m:List (Int × Int)} (h:MRi v m) {j:Nat} {x y:Int} (hx:v[j]?=some x) (h0:x<0) (h1:0≤y):MRi (v.set j y) (mset (j:Int) y m):=by
  have hlt:=(List.getElem?_eq_some_iff.1 hx).1
  have hv:v[j]=x:=(List.getElem?_eq_some_iff.1 hx).2
  have hn:mget (j:Int) m=none:=by rw [h.get j x hx,if_pos h0]
  refine ⟨?_,fun k z hz=>?_⟩
  · rw [mset_len_new y hn,h.len,List.countP_set hlt,hv]
    have a:¬ 0≤x:=by omega
    simp [a,h1]
  · rw [List.getElem?_set] at hz
    by_cases hjk:j=k
    · subst hjk
      rw [if_pos rfl,if_pos hlt] at hz
      cases hz
      rw [mget_mset_same,if_neg (by omega)]
    · rw [if_neg hjk] at hz
      rw [mget_mset_ne y (by omega)]
      exact h.get k z hz
theorem MRi.start (R:Nat):MRi (List.replicate R (-1)) []:=by
  refine ⟨?_,fun j x hx=>?_⟩
  · simp [List.countP_replicate]
  · rw [List.getElem?_replicate] at hx
    split at hx<;>cases hx
    rfl
section
variable {n:Net} {l:List Ends} (hn:NetL n l) {fr:List (Int × Int)} (hm:MRi (l.map Ends.src) fr)
include hn hm
end
end Go.Proofs.Ytfbmoockopakjaa
namespace Go.Proofs.Ytfbmoockopakjaa
set_option linter.unusedVariables false
set_option linter.unusedSimpArgs false
theorem netR_ok {n:Net} (h:(netR n).2=0):∃ l out,lookN n=.inr l∧NetL n l∧ordN l n.Nodes n.Nodes.length []=some out∧netR n=(out.map (fun i:Nat=>(i:Int)),0):=by
  unfold netR at h ⊢
  cases hl:lookN n with
  | inl e=>rw [hl] at h;simp only at h;subst h;exact absurd hl (lookN_ne n)
  | inr l =>
    rw [hl] at h
    simp only at h ⊢
    cases ho:ordN l n.Nodes n.Nodes.length [] with
    | none=>rw [ho] at h;simp at h
    | some out=>exact ⟨l,out,rfl,lookN_ok hl,ho,rfl⟩
theorem net_io {n:Net} (h:mNet n≤1048576):∀ x∈n.Nodes,x.In.length≤1099511627776∧x.Out.length≤1099511627776:=fun x hx=>by
  have h1:mNode x≤mL mNode n.Nodes:=sum_le hx
  have h0:mNode x=mL mI x.In+mL mI x.Out+2:=rfl
  have h2:x.In.length≤mL mI x.In:=len_le (fun _=>Nat.le_refl 1) _
  have h3:x.Out.length≤mL mI x.Out:=len_le (fun _=>Nat.le_refl 1) _
  unfold mNet at h
  omega
def itemsErr:List (List Item)→Int
  | []=>0
  | s::r=>if 20<s.length then 2 else if s.any (fun x=>decide (x.Dep≠0)) then 4 else itemsErr r
def seenErr (len:Nat):List Node→List Int→Int
  | [],_=>0
  | x::xs,seen=>if x.Kind≠1 then seenErr len xs seen else if (len:Int)≤x.A then 5 else if x.A∈seen then 6 else seenErr len xs (x.A::seen)
def srcR (n:Net) (l:List (List Item)):Int:=if (netR n).2≠0 then (netR n).2 else if 4<l.length then 2 else if itemsErr l≠0 then itemsErr l else seenErr l.length n.Nodes []
theorem items_loop (l:List (List Item)) (hl:l.length≤4) {body:Int→Option (Int ⊕ Int)} {inner:Nat→List Item→Int→Option (Int ⊕ (Int ⊕ Int))} (fin:Option Int)
    (h1:∀ (k:Nat) s,l[k]?=some s→k<l.length→body (k:Int)=if 20<s.length then some (.inr 2) else iter (inner k s) 0)
    (h2:body (l.length:Int)=fin.map Sum.inr)
    (h3:∀ (k:Nat) s (j:Nat) x,l[k]?=some s→k<l.length→s[j]?=some x→j<20→inner k s (j:Int)=if x.Dep≠0 then some (.inr (.inr 4)) else some (.inl ((j+1:Nat):Int)))
    (h4:∀ (k:Nat) s,l[k]?=some s→k<l.length→inner k s (s.length:Int)=some (.inr (.inl ((k+1:Nat):Int)))) :
    ∀ (m k:Nat),k+m=l.length→iter body (k:Int)=if itemsErr (l.drop k)≠0 then some (itemsErr (l.drop k)) else fin
  | 0,k,h=>by
    have hk:k=l.length:=by omega
    subst hk
    rw [J5a,h2,List.drop_length]
    simp only [itemsErr,ne_eq,not_true_eq_false,if_false]
    cases fin<;>rfl
  | m + 1,k,h=>by
    have hlt:k<l.length:=by omega
    have hs:l[k]?=some l[k]:=List.getElem?_eq_getElem hlt
    rw [J5a,h1 k _ hs hlt,List.drop_eq_getElem_cons hlt]
    generalize hsq:l[k]=s at *
    simp only [itemsErr]
    by_cases h20:20<s.length
    · simp [h20]
    · simp only [if_neg h20]
      have key:∀ (q j:Nat),j+q=s.length→iter (inner k s) (j:Int)=if (s.drop j).any (fun x=>decide (x.Dep≠0)) then some (.inr 4) else some (.inl ((k+1:Nat):Int)):=by
        intro q
        induction q with
        | zero =>
          intro j hj
          have hj:j=s.length:=by omega
          subst hj
          rw [J5a,h4 k s hs hlt,List.drop_length]
          simp
        | succ q ih =>
          intro j hj
          have hjl:j<s.length:=by omega
          rw [J5a,h3 k s j s[j] hs hlt (List.getElem?_eq_getElem hjl) (by omega),List.drop_eq_getElem_cons hjl,List.any_cons]
          by_cases hd:s[j].Dep≠0
          · simp [hd]
          · rw [if_neg hd]
            simp only
            rw [ih (j+1) (by omega)]
            simp [hd]
      have:=key s.length 0 (by omega)
      simp only [Int.natCast_zero,List.drop_zero] at this
      rw [this]
      by_cases hany:s.any (fun x=>decide (x.Dep≠0))=true
      · simp only [if_pos hany];simp
      · simp only [if_neg hany]
        exact items_loop l hl fin h1 h2 h3 h4 m (k+1) (by omega)
theorem seenL_get {N:Nat} (hN:N≤4) (seen:List Int) {a:Int} (h0:0≤a) (h1:a<N):((List.range N).map fun i:Nat=>decide ((i:Int)∈seen))[a.toNat]?=some (decide (a∈seen)):=by
  rw [List.getElem?_map,List.getElem?_range (by omega)]
  simp only [Option.map_some,Option.some.injEq]
  rw [Int.toNat_of_nonneg h0]
theorem seen_prog (n:Net) (l:List (List Item)) (hl:l.length≤4) (hn:n.Nodes.length≤12) (hA:∀ x∈n.Nodes,0≤x.A):∀ (m k:Nat) (seen:List Int),k+m=n.Nodes.length →
    iter (fun ss:Int × List Bool=>Via n l ss.1 ss.2) ((k:Int),(List.range l.length).map fun i:Nat=>decide ((i:Int)∈seen))=some (seenErr l.length (n.Nodes.drop k) seen)
  | 0,k,seen,h=>by
    have hk:k=n.Nodes.length:=by omega
    subst hk
    have:∀ b,Via n l (n.Nodes.length:Int) b=some (.inr 0):=fun b=>by unfold Via;rw [if_neg (by simp)];rfl
    rw [J5a]
    simp only [this,List.drop_length,seenErr]
  | m + 1, k, seen,h=>by
    have hlt:k<n.Nodes.length:=by omega
    have hx:n.Nodes[k]?=some n.Nodes[k]:=List.getElem?_eq_getElem hlt
    have hA':=hA _ (List.getElem_mem hlt)
    rw [List.drop_eq_getElem_cons hlt,J5a]
    generalize hxq:n.Nodes[k]=x at *
    simp only [seenErr]
    have hstep:Via n l (k:Int) ((List.range l.length).map fun i:Nat=>decide ((i:Int)∈seen))=if x.Kind≠1 then some (.inl (((k+1:Nat):Int),(List.range l.length).map fun i:Nat=>decide ((i:Int)∈seen))) else if (l.length:Int)≤x.A then some (.inr 5) else if x.A∈seen then some (.inr 6) else some (.inl (((k+1:Nat):Int),(List.range l.length).map fun i:Nat=>decide ((i:Int)∈x.A::seen))):=by
      unfold Via
      rw [if_pos (by simp;omega),Voa hx,Option.bind_some,Qkb (by omega)]
      by_cases h1:x.Kind≠1
      · rw [if_pos (by simpa using h1),if_pos h1]
      · rw [if_neg (by simpa using h1),if_neg h1]
        by_cases h2:(l.length:Int)≤x.A
        · rw [if_pos (by simpa using h2),if_pos h2];rfl
        · rw [if_neg (by simpa using h2),if_neg h2]
          have hix:ixN ((List.range l.length).map fun i:Nat=>decide ((i:Int)∈seen)) x.A=some x.A.toNat:=by unfold ixN;rw [if_pos (by simp;omega)]
          have hg:=seenL_get hl seen hA' (show x.A<l.length by omega)
          simp only [hix,hg,Option.bind_some]
          by_cases h3:x.A∈seen
          · simp [h3]
          · simp only [h3,decide_false,Bool.false_eq_true,if_false]
            congr 3
            apply List.ext_getElem?
            intro j
            rw [List.getElem?_set,List.getElem?_map,List.getElem?_map]
            by_cases hj:j<l.length
            · rw [List.getElem?_range hj]
              simp only [List.length_map,List.length_range,Option.map_some]
              by_cases hjx:x.A.toNat=j
              · rw [if_pos hjx,if_pos (by omega)]
                have:(j:Int)=x.A:=by omega
                simp [this]
              · rw [if_neg hjx]
                have:¬ (j:Int)=x.A:=by omega
                simp [this]
            · rw [if_neg (by omega),List.getElem?_eq_none (by simp;omega)];rfl
    rw [hstep]
    by_cases h1:x.Kind≠1
    · simp only [if_pos h1]
      exact seen_prog n l hl hn hA m (k+1) seen (by omega)
    · simp only [if_neg h1]
      by_cases h2:(l.length:Int)≤x.A
      · simp only [if_pos h2]
      · simp only [if_neg h2]
        by_cases h3:x.A∈seen
        · simp only [if_pos h3]
        · simp only [if_neg h3]
          exact seen_prog n l hl hn hA m (k+1) (x.A::seen) (by omega)
theorem nodeA {n:Net} {l:List Ends} (h:NetL n l):∀ x∈n.Nodes,0≤x.A:=fun x hx=>by
  obtain ⟨i,hi,rfl⟩:=List.mem_iff_getElem.1 hx
  have:=h.err i _ (List.getElem?_eq_getElem hi)
  unfold nodeErr at this
  split at this
  · exact absurd this (by decide)
  · split at this
    · exact absurd this (by decide)
    · split at this
      · exact absurd this (by decide)
      · rename_i hb
        unfold badA at hb
        simp at hb
        omega
theorem net_Sources_eq (n:Net) (l:List (List Item)) (hio:∀ x∈n.Nodes,x.In.length≤1099511627776∧x.Out.length≤1099511627776):net_Sources n l=some (srcR n l):=by
  unfold net_Sources srcR
  rw [net_Check_eq n hio,Option.bind_some]
  by_cases h:(netR n).2=0
  · obtain ⟨le,out,_,hl,_,_⟩:=netR_ok h
    rw [if_neg (show ¬ ((netR n).2 != 0)=true by simp [h]),if_neg (show ¬ (netR n).2≠0 by simp [h])]
    by_cases h4:4<l.length
    · rw [if_pos (by simp;omega),if_pos h4]
    · rw [if_neg (by simp;omega),if_neg h4]
      have hmk:mk (l.length:Int) false=some ((List.range l.length).map fun i:Nat=>decide ((i:Int)∈([]:List Int))):=by
        unfold mk;rw [if_pos (by omega)]
        congr 1
        simp [List.map_const']
      have hseen:=seen_prog n l (by omega) hl.n2 (nodeA hl) n.Nodes.length 0 [] (by omega)
      simp only [Int.natCast_zero,List.drop_zero] at hseen
      have:=items_loop l (by omega) (body:=fun ss=>Yla n l ss) (inner:=fun k s ss=>Ypa k s ss) (some (seenErr l.length n.Nodes []))
        (fun k s hs hlt=>by
          unfold Yla
          rw [if_pos (by simp;omega),Voa hs,Option.bind_some]
          by_cases h20:20<s.length
          · rw [if_pos (by simp;omega),if_pos h20];rfl
          · rw [if_neg (by simp;omega),if_neg h20])
        (by
          unfold Yla
          rw [if_neg (by simp),hmk,Option.bind_some,hseen])
        (fun k s j x hs hlt hx hj=>by
          have hjl:=(List.getElem?_eq_some_iff.1 hx).1
          unfold Ypa
          rw [if_pos (by simp;omega),Voa hx,Option.bind_some,Qkb (by omega)]
          by_cases hd:x.Dep≠0
          · rw [if_pos (by simpa using hd),if_pos hd];rfl
          · rw [if_neg (by simpa using hd),if_neg hd])
        (fun k s hs hlt=>by
          unfold Ypa
          rw [if_neg (by simp),Qkb (by omega)];rfl) l.length 0 (by omega)
      simp only [Int.natCast_zero,List.drop_zero] at this
      rw [this]
      by_cases hi:itemsErr l≠0
      · rw [if_pos hi,if_pos hi]
      · rw [if_neg hi,if_neg hi]
  · rw [if_pos (by simpa using h),if_pos h]
def meetN:Net:=⟨[⟨1,0,[],[0]⟩,⟨1,1,[],[1]⟩,⟨6,0,[0,1],[2]⟩,⟨8,0,[2],[]⟩],3,1⟩
def twoN:List (List Item):=[[⟨1,1,0⟩],[⟨2,2,0⟩]]
theorem meet_io:∀ x∈meetN.Nodes,x.In.length≤1099511627776∧x.Out.length≤1099511627776:=by decide
theorem meet_src:srcR meetN twoN=0:=by decide
theorem ordN_len (l:List Ends) (ns:List Node):∀ (m:Nat) (out o:List Nat),ordN l ns m out=some o→o.length=out.length+m
  | 0,out,o,h=>by cases h;rfl
  | m + 1,out,o,h=>by
    unfold ordN at h
    split at h
    · cases h
    · have:=ordN_len l ns m _ o h
      simp at this;omega
end Go.Proofs.Ytfbmoockopakjaa
namespace Go.Proofs.Ytfbmoockopakjaa
set_option linter.unusedVariables false
set_option linter.unusedSimpArgs false
theorem ordN_spec {l:List Ends} {ns:List Node}:∀ {m:Nat} {out o:List Nat},ordN l ns m out=some o→out.Nodup→(∀ x∈out,x<ns.length) →
    o.Nodup∧(∀ x∈o,x<ns.length)∧out <+: o∧∀ (p i:Nat),out.length≤p→o[p]?=some i→okN l (o.take p) ns i=true
  | 0,out,o,h,h1,h2=>by
    cases h
    exact ⟨h1,h2,List.prefix_refl _,fun p i hp hi=>by rw [List.getElem?_eq_none hp] at hi;cases hi⟩
  | m + 1,out,o,h,h1,h2=>by
    unfold ordN at h
    split at h
    · cases h
    · rename_i i hi
      obtain ⟨_,hlt,hok⟩:=firstN_some hi
      have hni:i ∉ out:=by
        unfold okN at hok
        rw [Bool.and_eq_true] at hok
        simpa using hok.1
      obtain ⟨a,b,c,d⟩:=ordN_spec h (List.nodup_append.2 ⟨h1,by simp,by intro x hx y hy;simp at hy;subst hy;rintro rfl;exact hni hx⟩) (fun x hx=>by
        rcases List.mem_append.1 hx with hx | hx
        · exact h2 x hx
        · simp at hx;omega)
      refine ⟨a,b,(List.prefix_append out [i]).trans c,fun p j hp hj=>?_⟩
      by_cases hpe:p=out.length
      · subst hpe
        obtain ⟨t,ht⟩:=c
        rw [← ht] at hj ⊢
        simp only [List.append_assoc,List.singleton_append,List.getElem?_append_right (Nat.le_refl _),Nat.sub_self] at hj
        simp at hj
        subst hj
        rw [List.append_assoc,List.take_left]
        exact hok
      · exact d p j (by simp;omega) hj
theorem nodup_lt_len:∀ (N:Nat) (l:List Nat),l.Nodup→(∀ x∈l,x<N)→l.length≤N
  | 0,l,_,h=>by
    cases l with
    | nil=>exact Nat.le_refl _
    | cons x l=>exact absurd (h x List.mem_cons_self) (by omega)
  | N + 1,l,hd,h=>by
    have:=nodup_lt_len N (l.erase N) (hd.erase N) (fun x hx=>by
      have h1:=(List.Nodup.mem_erase_iff hd).1 hx
      have:=h x h1.2
      omega)
    by_cases hm:N∈l
    · rw [List.length_erase_of_mem hm] at this;omega
    · rw [List.erase_of_not_mem hm] at this;omega
theorem full_mem {N:Nat} {l:List Nat} (hd:l.Nodup) (h:∀ x∈l,x<N) (hl:l.length=N) {i:Nat} (hi:i<N):i∈l:=by
  refine Classical.byContradiction fun hn=>?_
  have:=nodup_lt_len N (i::l) (List.nodup_cons.2 ⟨hn,hd⟩) (fun x hx=>by
    rcases List.mem_cons.1 hx with rfl | hx
    · exact hi
    · exact h x hx)
  simp at this;omega
structure OrdL (n:Net) (l:List Ends) (o:List Nat):Prop where
  nd:o.Nodup
  lt:∀ x∈o,x<n.Nodes.length
  len:o.length=n.Nodes.length
  fed:∀ (p i:Nat) (x:Node) (r:Int) (e:Ends),o[p]?=some i→n.Nodes[i]?=some x→r∈x.In→l[r.toNat]?=some e→e.src.toNat∈o.take p
theorem ordL_of {n:Net} {l:List Ends} {o:List Nat} (h:ordN l n.Nodes n.Nodes.length []=some o):OrdL n l o:=by
  obtain ⟨a,b,_,d⟩:=ordN_spec h List.nodup_nil (fun x hx=>by simp at hx)
  have hl:=ordN_len _ _ _ _ _ h
  refine ⟨a,b,by simpa using hl,fun p i x r e hp hx hr he=>?_⟩
  have:=d p i (Nat.zero_le _) hp
  unfold okN at this
  rw [Bool.and_eq_true,hx] at this
  have h2:=this.2
  simp only [fedN,List.all_eq_true] at h2
  have h3:=h2 r hr
  rw [he] at h3
  simpa using h3
end Go.Proofs.Ytfbmoockopakjaa
namespace Go.Proofs.Ytfbmoockopakjaa
set_option linter.unusedVariables false
set_option linter.unusedSimpArgs false
theorem bnd {α β:Type} {o:Option α} {k:α→Option β} {x:α} {r:Option β} (h:o=some x) (h2:k x=r):Option.bind o k=r:=by rw [h];exact h2
theorem vwok_ok {n:Nat} {i j:Int} (h:0≤i∧i≤j∧j≤n):vwok n i j=some ():=by unfold vwok;rw [if_pos h]
theorem cpy_app {α:Type} (a c d ys:List α) (n:Nat) (h:c.length=ys.length) (hn:ys.length≤n):cpy (a++(c++d)) a.length n ys=a++(ys++d):=by
  unfold cpy
  rw [List.take_left,List.take_of_length_le hn,Nat.min_eq_right hn,← h,← List.drop_drop,List.drop_left,List.drop_left,List.append_assoc]
theorem ins_eq (a b:List Keyed) (y:Keyed) (h:a.length+b.length≤1000000):Zsa (a.length:Int) (a++b) [y]=some (a++y::b):=by
  unfold Zsa
  refine allC_of (fun C hC=>?_)
  unfold Vka
  have hl:(a++b).length=a.length+b.length:=List.length_append
  have h1:([y]:List Keyed).length=1:=rfl
  have w1:IntKind.i64.wrap ((((a++b).length:Nat):Int)+(([y]:List Keyed).length:Int))=((a.length+b.length+1:Nat):Int):=by rw [Yqa (by omega) (by omega)];omega
  have w2:IntKind.i64.wrap ((a.length:Int)+(([y]:List Keyed).length:Int))=((a.length+1:Nat):Int):=by rw [Yqa (by omega) (by omega)];omega
  have w3:IntKind.i64.wrap (((a.length+b.length+1:Nat):Int) - (a.length:Int))=((b.length+1:Nat):Int):=by rw [Yqa (by omega) (by omega)];omega
  simp only [w1,w2,w3,Int.toNat_natCast]
  refine bnd (vwok_ok (by omega)) ?_
  rw [if_neg (by simp)]
  by_cases hb:b=[]
  · subst hb
    rw [if_pos (by simp)]
    refine bnd (app_ok (by simp;omega)) ?_
    simp
  · have hbl:0<b.length:=List.length_pos_iff.2 hb
    rw [if_neg (by simp;omega)]
    by_cases hg:a.length+b.length+1 > C
    · rw [if_pos (by simp;omega)]
      refine bnd (vwok_ok (by omega)) ?_
      have hz:growz (a++b) a.length C ((b.length+1:Nat):Int) (⟨0,0⟩:Keyed)=some (a++([(⟨0,0⟩:Keyed)]++List.replicate b.length (⟨0,0⟩:Keyed))):=by
        unfold growz
        rw [if_pos (by rw [hl];omega),List.take_left,Int.toNat_natCast,List.replicate_succ];rfl
      refine bnd hz ?_
      have hzl:(a++([(⟨0,0⟩:Keyed)]++List.replicate b.length (⟨0,0⟩:Keyed))).length=a.length+(b.length+1):=by simp<;>omega
      have e1:a.length+(b.length+1) - a.length=b.length+1:=by omega
      have c1:=cpy_app a [(⟨0,0⟩:Keyed)] (List.replicate b.length (⟨0,0⟩:Keyed)) [y] (b.length+1) rfl (by simp)
      have hal:(a++([y]++List.replicate b.length (⟨0,0⟩:Keyed))).length=a.length+(b.length+1):=by simp<;>omega
      have e2:a.length+(b.length+1) - (a.length+1)=b.length:=by omega
      simp only [hzl,e1,c1,hal,e2,hl,Nat.zero_add,Nat.add_sub_cancel_left,Int.toNat_natCast]
      refine bnd (vwok_ok (by omega)) (bnd (vwok_ok (by omega)) (bnd (vwok_ok (by omega)) (bnd (vwok_ok (by omega)) (bnd (vwok_ok (by omega)) (bnd (vwok_ok (by omega)) ?_)))))
      rw [List.drop_left,List.take_length]
      have c2:=cpy_app (a++[y]) (List.replicate b.length (⟨0,0⟩:Keyed)) [] b b.length (by simp) (Nat.le_refl _)
      simp only [List.append_nil,List.length_append,List.length_singleton,List.append_assoc] at c2
      rw [c2]
      simp
    · rw [if_neg (by simp;omega)]
      have hx:roomx (a++b).length C ((a.length+b.length+1:Nat):Int)=some 1:=by
        unfold roomx
        rw [if_pos (by rw [hl];omega),hl,Int.toNat_natCast]
        congr 1;omega
      refine bnd hx ?_
      have e2:a.length+b.length+1 - (a.length+1)=b.length:=by omega
      have e3:a.length+b.length+1 - a.length=b.length+1:=by omega
      simp only [hl,Int.toNat_natCast,e2,e3]
      refine bnd (vwok_ok (by omega)) ?_
      refine bnd (show ovok [y] b.length=some () by unfold ovok;rw [if_pos (by simp;omega)]) ?_
      refine bnd (vwok_ok (by omega)) (bnd (vwok_ok (by omega)) ?_)
      have hu:cpyU (a++b) 1 (a.length+1) b.length a.length (b.length+1)=some (a++(b.take 1++b)):=by
        unfold cpyU
        rw [if_pos (by rw [hl];omega),List.drop_left,List.take_append]
        simp [List.take_of_length_le]
      refine bnd hu ?_
      have htl:(b.take 1).length=1:=by simp;omega
      have hul:(a++(b.take 1++b)).length=a.length+(b.length+1):=by rw [List.length_append,List.length_append,htl];omega
      have e1:a.length+(b.length+1) - a.length=b.length+1:=by omega
      have c1:=cpy_app a (b.take 1) b [y] (b.length+1) (by rw [htl];rfl) (by simp)
      simp only [hul,e1,c1,Int.toNat_natCast]
      refine bnd (vwok_ok (by omega)) (bnd (vwok_ok (by omega)) ?_)
      rfl
theorem cmp_eq (x:Keyed) (k:Int):Qmb x k=some (if x.Key<k then -1 else if x.Key > k then 1 else 0):=by
  unfold Qmb
  by_cases h1:x.Key<k
  · simp [h1]
  · by_cases h2:x.Key > k<;>simp [h1,h2]
end Go.Proofs.Ytfbmoockopakjaa
namespace Go.Proofs.Ytfbmoockopakjaa
set_option linter.unusedVariables false
set_option linter.unusedSimpArgs false
def good (l:List Keyed) (i:Nat):Prop:=∀ x,l[i]?=some x→1≤x.N∧∀ j y,i=j+1→l[j]?=some y→y.Key<x.Key
theorem check_loop (m : Memory) (hl:m.Keys.length≤6):∀ (n k:Nat),k+n=m.Keys.length→∃ c,iter (fun ss:Int=>Zwa m ss) (k:Int)=some c∧(c=0 ↔ (∀ i,k≤i→i<m.Keys.length→good m.Keys i)∧0≤m.Dep)
  | 0,k,h=>by
    have hk:k=m.Keys.length:=by omega
    subst hk
    by_cases hd:m.Dep<0
    · refine ⟨3,?_,by constructor<;>intro h<;>omega⟩
      rw [J5a]
      unfold Zwa
      simp [hd]
    · refine ⟨0,?_,?_⟩
      · rw [J5a]
        unfold Zwa
        simp [hd]
      · exact ⟨fun _=>⟨fun i h1 h2=>by omega,by omega⟩,fun _=>rfl⟩
  | n + 1, k, h => by
    have hk:k<m.Keys.length:=by omega
    have hx:m.Keys[k]?=some m.Keys[k]:=List.getElem?_eq_getElem hk
    generalize hxv:m.Keys[k]=x at hx
    have hkw:decide ((k:Int)<(m.Keys.length:Int))=true:=by simp;omega
    have hw:IntKind.i64.wrap ((k:Int)+1)=((k+1:Nat):Int):=Qkb (by omega)
    by_cases hg:good m.Keys k
    · obtain ⟨hg1,hg2⟩:=hg x hx
      obtain ⟨c,h1,h2⟩:=check_loop m hl n (k+1) (by omega)
      refine ⟨c,?_,?_⟩
      · rw [J5a]
        have e:Zwa m (k:Int)=some (.inl ((k+1:Nat):Int)):=by
          unfold Zwa
          rw [if_pos hkw,Voa hx,Option.bind_some,if_neg (show ¬ decide (x.N<1)=true by simp;omega)]
          cases k with
          | zero=>simp [show IntKind.i64.wrap 1=1 from rfl]
          | succ j =>
            have hy:m.Keys[j]?=some m.Keys[j]:=List.getElem?_eq_getElem (by omega)
            have:=hg2 j _ rfl hy
            rw [if_pos (by simp),Yqa (by omega) (by omega),show ((j+1:Nat):Int) - 1=(j:Int) by omega,Voa hy,Option.bind_some,Option.bind_some,if_neg (by simp;omega),hw]
        simp only [e]
        exact h1
      · rw [h2]
        constructor
        · rintro ⟨h3,h4⟩
          exact ⟨fun i hi hi2=>by
            by_cases e:i=k
            · subst e;exact hg
            · exact h3 i (by omega) hi2,h4⟩
        · rintro ⟨h3,h4⟩
          exact ⟨fun i hi hi2=>h3 i (by omega) hi2,h4⟩
    · refine ⟨4, ?_, by constructor
                        · intro h;omega
                        · rintro ⟨h3,_⟩;exact absurd (h3 k (Nat.le_refl _) hk) hg⟩
      rw [J5a]
      have e:Zwa m (k:Int)=some (.inr 4):=by
        unfold Zwa
        rw [if_pos hkw,Voa hx,Option.bind_some]
        by_cases hn:x.N<1
        · rw [if_pos (show decide (x.N<1)=true by simpa using hn)];rfl
        · rw [if_neg (show ¬ decide (x.N<1)=true by simpa using hn)]
          cases k with
          | zero=>exact absurd (fun y hy=>by rw [hx] at hy;cases hy;exact ⟨by omega,fun j z hj=>by omega⟩) hg
          | succ j =>
            have hy:m.Keys[j]?=some m.Keys[j]:=List.getElem?_eq_getElem (by omega)
            rw [if_pos (by simp),Yqa (by omega) (by omega),show ((j+1:Nat):Int) - 1=(j:Int) by omega,Voa hy,Option.bind_some,Option.bind_some]
            have:x.Key≤(m.Keys[j]).Key:=by
              apply Int.not_lt.1
              intro hlt
              exact hg (fun z hz=>by
                rw [hx] at hz;cases hz
                exact ⟨by omega,fun i y hi hy2=>by
                  have:i=j:=by omega
                  subst this
                  rw [hy] at hy2;cases hy2;exact hlt⟩)
            rw [if_pos (by simpa using this)];rfl
      simp only [e]
structure okM (m:Memory):Prop where
  len:m.Keys.length≤6
  n:∀ x,x∈m.Keys→1≤x.N
  lt:∀ (i j:Nat) x y,i<j→m.Keys[i]?=some x→m.Keys[j]?=some y→x.Key<y.Key
  dep:0≤m.Dep
theorem good_lt {l:List Keyed} (h:∀ i,i<l.length→good l i):∀ (n i j:Nat) x y,j=i+1+n→l[i]?=some x→l[j]?=some y→x.Key<y.Key
  | 0,i,j,x,y,e,hx,hy=>(h j (List.getElem?_eq_some_iff.1 hy).1 y hy).2 i x (by omega) hx
  | n+1,i,j,x,y,e,hx,hy=>by
    have hj:=(List.getElem?_eq_some_iff.1 hy).1
    have hz:l[i+1+n]?=some l[i+1+n]:=List.getElem?_eq_getElem (by omega)
    have h1:=good_lt h n i (i+1+n) x _ rfl hx hz
    have h2:=(h j hj y hy).2 (i+1+n) _ (by omega) hz
    omega
theorem Check_iff (m:Memory):∃ c,Yua m=some c∧(c=0 ↔ okM m):=by
  unfold Yua
  by_cases hl:m.Keys.length≤6
  · rw [if_neg (by simp;omega)]
    obtain ⟨c,h1,h2⟩:=check_loop m hl m.Keys.length 0 (by omega)
    refine ⟨c,h1,h2.trans ⟨fun ⟨h3,h4⟩=>⟨hl,fun x hx=>?_,fun i j x y hij hx hy=>?_,h4⟩,fun h=>⟨fun i _ hi x hx=>⟨h.n x (List.mem_of_getElem? hx),fun j y e hy=>h.lt j i y x (by omega) hy hx⟩,h.dep⟩⟩⟩
    · obtain ⟨i,hi⟩:=List.getElem?_of_mem hx
      exact (h3 i (Nat.zero_le _) (List.getElem?_eq_some_iff.1 hi).1 x hi).1
    · exact good_lt (fun i hi=>h3 i (Nat.zero_le _) hi) (j - i - 1) i j x y (by omega) hx hy
  · rw [if_pos (by simp;omega)]
    exact ⟨2,rfl,fun h=>by omega,fun h=>absurd h.len hl⟩
theorem search_at (l:List Keyed) (key:Int) (hl:l.length≤6) (hs:∀ (i j:Nat) x y,i<j→l[i]?=some x→l[j]?=some y→x.Key<y.Key) :
    ∃ (i:Nat) (b:Bool),J6a l key=some ((i:Int),b)∧i≤l.length∧(∀ t x,t<i→l[t]?=some x→x.Key<key)∧(∀ t x,i≤t→l[t]?=some x→key≤x.Key)∧(b=true ↔ ∃ x,l[i]?=some x∧x.Key=key):=by
  unfold J6a
  obtain ⟨r,h1,i,h2,h3,h4,h5,h6⟩:=iter_inv (body:=fun ss:Int × Int=>J4a l key ss.1 ss.2)
    (fun s=>(0≤s.1∧s.1≤s.2∧s.2≤(l.length:Int))∧(∀ (t:Nat) (x:Keyed),(t:Int)<s.1→l[t]?=some x→x.Key<key)∧(∀ (t:Nat) (x:Keyed),s.2≤(t:Int)→l[t]?=some x→key≤x.Key)) (fun s=>(s.2 - s.1).toNat)
    (fun r=>∃ i:Nat,r.1=(i:Int)∧i≤l.length∧(∀ t x,t<i→l[t]?=some x→x.Key<key)∧(∀ t x,i≤t→l[t]?=some x→key≤x.Key)∧(r.2=true ↔ ∃ x,l[i]?=some x∧x.Key=key)) (fun s hs0=>by
      obtain ⟨s1,s2⟩:=s
      simp only at hs0 ⊢
      obtain ⟨hb,ha,hc⟩:=hs0
      unfold J4a
      by_cases hlt:s1<s2
      · rw [if_pos (by simpa using hlt)]
        have e1:shr .u64 (IntKind.u64.wrap (IntKind.i64.wrap (s1+s2))) 1=some ((s1+s2) / 2):=by
          rw [Yqa (by omega) (by omega),IntWalk.u64_in _ ⟨by omega,by omega⟩]
          unfold shr
          rw [if_pos (by decide)]
          congr 1
          show (s1+s2).fdiv 2=_
          rw [Int.fdiv_eq_ediv_of_nonneg _ (by decide)]
        rw [e1,Option.bind_some]
        obtain ⟨h,hh⟩:∃ h:Nat,(s1+s2) / 2=(h:Int):=Int.eq_ofNat_of_zero_le (by omega)
        have hhl:h<l.length:=by omega
        have hx:l[h]?=some l[h]:=List.getElem?_eq_getElem hhl
        generalize hxv:l[h]=x at hx
        have e2:IntKind.i64.wrap (h:Int)=(h:Int):=Yqa (by omega) (by omega)
        have e4:IntKind.i64.wrap ((h:Int)+1)=(h:Int)+1:=Yqa (by omega) (by omega)
        rw [hh,e2,Voa hx,Option.bind_some,cmp_eq,Option.bind_some,e4]
        refine .inl ?_
        by_cases hk:x.Key<key
        · rw [if_pos hk]
          refine ⟨((h:Int)+1,s2),rfl,⟨⟨by show 0≤(h:Int)+1;omega,by show (h:Int)+1≤s2;omega,hb.2.2⟩,fun t y ht hy=>?_,hc⟩,by show (s2 - ((h:Int)+1)).toNat<(s2 - s1).toNat;omega⟩
          have ht:(t:Int)<(h:Int)+1:=ht
          by_cases e:t=h
          · subst e;rw [hx] at hy;cases hy;exact hk
          · have:=hs t h y x (by omega) hy hx;omega
        · have e5:(if decide ((if x.Key<key then (-1:Int) else if x.Key > key then 1 else 0)<0)=true then (some (.inl ((h:Int)+1,s2)):Option ((Int × Int) ⊕ (Int × Bool))) else some (.inl (s1,(h:Int))))=some (.inl (s1,(h:Int))):=by
            rw [if_neg hk]
            split<;>rfl
          refine ⟨(s1,(h:Int)),e5,⟨⟨hb.1,by show s1≤(h:Int);omega,by show (h:Int)≤_;omega⟩,ha,fun t y ht hy=>?_⟩,by show ((h:Int) - s1).toNat<(s2 - s1).toNat;omega⟩
          have ht:(h:Int)≤(t:Int):=ht
          by_cases e:t=h
          · subst e;rw [hx] at hy;cases hy;omega
          · have:=hs h t x y (by omega) hx hy;omega
      · rw [if_neg (by simpa using hlt)]
        refine .inr ?_
        obtain ⟨k,rfl⟩:=Int.eq_ofNat_of_zero_le hb.1
        have hk2:s2=(k:Int):=by omega
        subst hk2
        by_cases hk:k<l.length
        · have hx:l[k]?=some l[k]:=List.getElem?_eq_getElem hk
          generalize hxv:l[k]=x at hx
          rw [if_pos (by simp;omega),Voa hx,Option.bind_some,cmp_eq]
          refine ⟨_,rfl,k,rfl,by omega,fun t y ht hy=>ha t y (by omega) hy,fun t y ht hy=>hc t y (by omega) hy,?_⟩
          have:=hc k x (by omega) hx
          simp only [hx,Option.some.injEq,exists_eq_left']
          by_cases e:x.Key=key
          · simp [e]
          · have h1:¬ x.Key<key:=by omega
            have h2:x.Key > key:=by omega
            simp [h1,h2,e]
        · rw [if_neg (by simp;omega)]
          refine ⟨_,rfl,k,rfl,by omega,fun t y ht hy=>ha t y (by omega) hy,fun t y ht hy=>hc t y (by omega) hy,?_⟩
          rw [List.getElem?_eq_none (by omega)]
          simp) _ (0,(l.length:Int)) (Nat.le_refl _) ⟨by simp,fun t x ht=>by
            have ht:(t:Int)<0:=ht
            omega,fun t x ht hx=>by
            have ht:(l.length:Int)≤(t:Int):=ht
            have:=(List.getElem?_eq_some_iff.1 hx).1
            omega⟩
  obtain ⟨r1,r2⟩:=r
  simp only at h2
  subst h2
  exact ⟨i,r2,h1,h3,h4,h5,h6⟩
end Go.Proofs.Ytfbmoockopakjaa
namespace Go.Proofs.Ytfbmoockopakjaa
set_option linter.unusedVariables false
set_option linter.unusedSimpArgs false
inductive StepR (k f:Int) (m:Memory) (x:Item):Memory × Item × Int→Prop
  | err (e:Int) (h:e≠0):StepR k f m x (⟨0,[],0⟩,⟨0,0,0⟩,e)
  | same (s d:Int) (y:Item) (hd:0≤d):StepR k f m x (⟨s,m.Keys,d⟩,y,0)
  | inc (i:Nat) (v:Keyed) (d:Int) (y:Item) (hi:m.Keys[i]?=some v) (hd:0≤d):StepR k f m x (⟨m.Sum,m.Keys.set i ⟨v.Key,IntKind.i64.wrap (v.N+1)⟩,d⟩,y,0)
  | ins (i:Nat) (d:Int) (y:Item) (hd:0≤d) (hl:m.Keys.length<6) (hi:i≤m.Keys.length) (h1:∀ t z,t<i→m.Keys[t]?=some z→z.Key<x.Key) (h2:∀ t z,i≤t→m.Keys[t]?=some z→x.Key<z.Key):StepR k f m x (⟨m.Sum,m.Keys.take i++⟨x.Key,1⟩::m.Keys.drop i,d⟩,y,0)
end Go.Proofs.Ytfbmoockopakjaa
namespace Go.Proofs.Ytfbmoockopakjaa
set_option linter.unusedVariables false
set_option linter.unusedSimpArgs false
theorem lt_of_pw {l:List Keyed} (h:l.Pairwise (fun a b=>a.Key<b.Key)):∀ (i j:Nat) x y,i<j→l[i]?=some x→l[j]?=some y→x.Key<y.Key:=fun i j x y hij hx hy=>by
  obtain ⟨hi,rfl⟩:=List.getElem?_eq_some_iff.1 hx
  obtain ⟨hj,rfl⟩:=List.getElem?_eq_some_iff.1 hy
  exact List.pairwise_iff_getElem.1 h i j hi hj hij
theorem ins_pw {l:List Keyed} {i:Nat} {key:Int} (hlt:∀ (i j:Nat) x y,i<j→l[i]?=some x→l[j]?=some y→x.Key<y.Key) (h1:∀ t z,t<i→l[t]?=some z→z.Key<key) (h2:∀ t z,i≤t→l[t]?=some z→key<z.Key) :
    (l.take i++(⟨key,1⟩:Keyed)::l.drop i).Pairwise (fun a b=>a.Key<b.Key):=by
  rw [List.pairwise_append,List.pairwise_cons]
  have hpw:l.Pairwise (fun a b=>a.Key<b.Key):=by
    rw [List.pairwise_iff_getElem]
    exact fun a b ha hb hab=>hlt a b _ _ hab (List.getElem?_eq_getElem ha) (List.getElem?_eq_getElem hb)
  refine ⟨hpw.sublist (List.take_sublist _ _),⟨fun z hz=>?_,hpw.sublist (List.drop_sublist _ _)⟩,fun a ha b hb=>?_⟩
  · obtain ⟨t,ht⟩:=List.getElem?_of_mem hz
    rw [List.getElem?_drop] at ht
    exact h2 (i+t) z (by omega) ht
  · obtain ⟨t,ht⟩:=List.getElem?_of_mem ha
    rw [List.getElem?_take] at ht
    split at ht
    · rename_i hti
      have h7:=h1 t a hti ht
      rcases List.mem_cons.1 hb with rfl | hb
      · exact h7
      · obtain ⟨t2,ht2⟩:=List.getElem?_of_mem hb
        rw [List.getElem?_drop] at ht2
        have h8:=h2 (i+t2) b (by omega) ht2
        omega
    · cases ht
theorem stepR_ok {k f:Int} {m:Memory} {x:Item} {R:Memory × Item × Int} (h:StepR k f m x R) (ok:okM m) (B:Int) (h0:0≤B) (hB:∀ y,y∈m.Keys→y.N≤B) (hB2:B<4611686018427387904) (hR:R.2.2=0):okM R.1∧∀ y,y∈R.1.Keys→y.N≤B+1:=by
  cases h with
  | err e he=>exact absurd hR he
  | same s d y hd=>exact ⟨⟨ok.len,ok.n,ok.lt,hd⟩,fun y hy=>by have:=hB y hy;omega⟩
  | inc i v d y hi hd =>
    have hv:=List.mem_of_getElem? hi
    have hv1:=ok.n v hv
    have hv2:=hB v hv
    have hw:IntKind.i64.wrap (v.N+1)=v.N+1:=Yqa (by omega) (by omega)
    have hget:∀ (a:Nat) (z:Keyed),(m.Keys.set i ⟨v.Key,IntKind.i64.wrap (v.N+1)⟩)[a]?=some z→∃ z',m.Keys[a]?=some z'∧z'.Key=z.Key:=fun a z hz=>by
      rw [List.getElem?_set] at hz
      split at hz
      · rename_i e
        subst e
        split at hz
        · cases hz;exact ⟨v,hi,rfl⟩
        · cases hz
      · exact ⟨z,hz,rfl⟩
    refine ⟨⟨by simpa using ok.len,fun z hz=>?_,fun a b z1 z2 hab hz1 hz2=>?_,hd⟩,fun z hz=>?_⟩
    · rcases List.mem_or_eq_of_mem_set hz with h1 | h1
      · exact ok.n z h1
      · subst h1;rw [hw];show 1≤v.N+1;omega
    · obtain ⟨w1,e1,e2⟩:=hget a z1 hz1
      obtain ⟨w2,e3,e4⟩:=hget b z2 hz2
      have:=ok.lt a b w1 w2 hab e1 e3
      omega
    · rcases List.mem_or_eq_of_mem_set hz with h1 | h1
      · have:=hB z h1;omega
      · subst h1;rw [hw];show v.N+1≤B+1;omega
  | ins i d y hd hl hi h1 h2 =>
    have hm:∀ z,z∈m.Keys.take i++(⟨x.Key,1⟩:Keyed)::m.Keys.drop i→z∈m.Keys∨z.N=1:=fun z hz=>by
      rcases List.mem_append.1 hz with h3 | h3
      · exact .inl (List.mem_of_mem_take h3)
      · rcases List.mem_cons.1 h3 with h3 | h3
        · exact .inr (by rw [h3])
        · exact .inl (List.mem_of_mem_drop h3)
    refine ⟨⟨by simp;omega,fun z hz=>?_,lt_of_pw (ins_pw ok.lt h1 h2),hd⟩,fun z hz=>?_⟩
    · rcases hm z hz with h3 | h3
      · exact ok.n z h3
      · omega
    · rcases hm z hz with h3 | h3
      · have:=hB z h3;omega
      · omega
end Go.Proofs.Ytfbmoockopakjaa
namespace Go.Proofs.Ytfbmoockopakjaa
set_option linter.unusedVariables false
set_option linter.unusedSimpArgs false
def maxD (a b:Int):Int:=if b > a then b else a
def mapP (f:Int) (x:Item):Int:=if f=0 then IntKind.i64.wrap (x.Val+1) else if f=1 then IntKind.i64.wrap (2*x.Val) else if f=2 then IntKind.i64.wrap (0 - x.Val) else IntKind.i64.wrap (x.Val+x.Key)
def lowN (key:Int):List Keyed→Nat
  | []=>0
  | y::ys=>if y.Key<key then lowN key ys+1 else 0
def newK (key:Int) (l:List Keyed):List Keyed × Int:=if l.length=6 then (l,0) else (l.take (lowN key l)++⟨key,1⟩::l.drop (lowN key l),1)
def cntP (key:Int) (l:List Keyed):List Keyed × Int :=
  match l[lowN key l]? with
  | some y=>if y.Key=key then (l.set (lowN key l) ⟨y.Key,IntKind.i64.wrap (y.N+1)⟩,IntKind.i64.wrap (y.N+1)) else newK key l
  | none=>newK key l
def stepP (k f:Int) (m:Memory) (x:Item):Memory × Item :=
  if k=2 then (m,⟨x.Key,mapP f x,x.Dep⟩)
  else if k=3 then (⟨IntKind.i64.wrap (m.Sum+x.Val),m.Keys,maxD m.Dep x.Dep⟩,⟨x.Key,IntKind.i64.wrap (m.Sum+x.Val),maxD m.Dep x.Dep⟩)
  else if k=4 then (⟨m.Sum,(cntP x.Key m.Keys).1,maxD m.Dep x.Dep⟩,⟨x.Key,(cntP x.Key m.Keys).2,maxD m.Dep x.Dep⟩)
  else (m,x)
def kindOk (k f:Int):Prop:=1≤k∧k≤8∧(k=2→0≤f∧f≤3)
theorem lowN_is {key:Int}:∀ {l:List Keyed} {i:Nat},i≤l.length→(∀ t x,t<i→l[t]?=some x→x.Key<key)→(∀ t x,i≤t→l[t]?=some x→key≤x.Key)→lowN key l=i
  | [],i,hi,_,_=>by simp at hi;subst hi;rfl
  | y::ys,0,hi,h1,h2=>by
    have:=h2 0 y (Nat.le_refl _) rfl
    unfold lowN;rw [if_neg (by omega)]
  | y::ys,i+1,hi,h1,h2=>by
    have:=h1 0 y (by omega) rfl
    unfold lowN
    rw [if_pos this,lowN_is (i:=i) (by simpa using hi) (fun t x ht hx=>h1 (t+1) x (by omega) (by simpa using hx)) (fun t x ht hx=>h2 (t+1) x (by omega) (by simpa using hx))]
theorem step_PR (k f:Int) (m:Memory) (x:Item) (ok:okM m) (hx:0≤x.Dep) (hk:kindOk k f):Y2a k f m x=some ((stepP k f m x).1,(stepP k f m x).2,0)∧StepR k f m x ((stepP k f m x).1,(stepP k f m x).2,0):=by
  obtain ⟨c,hc,hc2⟩:=Check_iff m
  have hc0:=hc2.2 ok
  subst hc0
  have hap:app [] m.Keys=some m.Keys:=by rw [app_ok (by have:=ok.len;simp;omega)];rfl
  have hcl:Vta m.Keys=some m.Keys:=hap
  have hco:stage_Copy m=some m:=by unfold stage_Copy;rw [hcl];rfl
  have hnd:¬ decide (x.Dep<0)=true:=by simpa using hx
  have hdp:0≤maxD m.Dep x.Dep:=by have:=ok.dep;unfold maxD;split<;>omega
  unfold Y2a
  rw [hc,Option.bind_some,if_neg (by simp),if_neg hnd,hco,Option.bind_some]
  by_cases k2:k=2
  · subst k2
    rw [if_pos (show ((2:Int)==2)=true from rfl)]
    have hf:=hk.2.2 rfl
    rw [if_neg (by simp;omega)]
    have:f=0∨f=1∨f=2∨f=3:=by omega
    rcases this with rfl | rfl | rfl | rfl<;>exact ⟨rfl,.same _ _ _ ok.dep⟩
  · have n2 : ¬ (k==2)=true:=by simpa using k2
    rw [if_neg n2]
    by_cases k3:k=3
    · subst k3
      rw [if_pos (show ((3:Int)==3)=true from rfl)]
      exact ⟨rfl,.same _ _ _ hdp⟩
    · have n3 : ¬ (k==3)=true:=by simpa using k3
      rw [if_neg n3]
      by_cases k4:k=4
      · subst k4
        rw [if_pos (show ((4:Int)==4)=true from rfl)]
        obtain ⟨i,b,hs,hi,h1,h2,h3⟩:=search_at m.Keys x.Key ok.len ok.lt
        have hlow:=lowN_is hi h1 h2
        have hP:stepP 4 f m x=(⟨m.Sum,(cntP x.Key m.Keys).1,maxD m.Dep x.Dep⟩,⟨x.Key,(cntP x.Key m.Keys).2,maxD m.Dep x.Dep⟩):=rfl
        rw [hs,Option.bind_some,hP]
        cases b with
        | true =>
          obtain ⟨v,hv,hvk⟩:=h3.1 rfl
          have hil:=(List.getElem?_eq_some_iff.1 hv).1
          have hcp:cntP x.Key m.Keys=(m.Keys.set i ⟨v.Key,IntKind.i64.wrap (v.N+1)⟩,IntKind.i64.wrap (v.N+1)):=by
            unfold cntP
            rw [hlow,hv]
            simp only
            rw [if_pos hvk]
          rw [if_neg (by simp),if_neg (by simp),hcp]
          have hset:i<(m.Keys.set i (⟨v.Key,IntKind.i64.wrap (v.N+1)⟩:Keyed)).length:=by simpa using hil
          have hsg:(m.Keys.set i (⟨v.Key,IntKind.i64.wrap (v.N+1)⟩:Keyed))[i]?=some ⟨v.Key,IntKind.i64.wrap (v.N+1)⟩:=by simp [hil]
          refine ⟨?_,.inc i v _ _ hv hdp⟩
          unfold Yea
          simp only [ixN_at hil,Option.bind_some,hv,ixN_at hset,hsg]
          rfl
        | false =>
          have hcn:cntP x.Key m.Keys=newK x.Key m.Keys:=by
            unfold cntP
            rw [hlow]
            cases hv:m.Keys[i]? with
            | none=>rfl
            | some v =>
              simp only
              rw [if_neg (fun e=>absurd (h3.2 ⟨v,hv,e⟩) (by decide))]
          rw [hcn]
          by_cases h6:m.Keys.length=6
          · rw [if_pos (by simp;omega)]
            unfold newK
            rw [if_pos h6];exact ⟨rfl,.same _ _ _ hdp⟩
          · have hl6:m.Keys.length<6:=by have:=ok.len;omega
            rw [if_neg (by simp;omega),if_pos (by simp)]
            have hin:=ins_eq (m.Keys.take i) (m.Keys.drop i) (⟨x.Key,0⟩:Keyed) (by simp;omega)
            have hti:(m.Keys.take i).length=i:=by simp;omega
            rw [List.take_append_drop,hti] at hin
            have hset:∀ a b:Keyed,(m.Keys.take i++a::m.Keys.drop i).set i b=m.Keys.take i++b::m.Keys.drop i:=fun a b=>by
              rw [List.set_append_right _ _ (by omega),hti,Nat.sub_self];rfl
            have hget:∀ a:Keyed,(m.Keys.take i++a::m.Keys.drop i)[i]?=some a:=fun a=>by
              rw [List.getElem?_append_right (by omega),hti,Nat.sub_self];rfl
            have hlen:∀ a:Keyed,i<(m.Keys.take i++a::m.Keys.drop i).length:=fun a=>by simp;omega
            have hw:IntKind.i64.wrap ((0:Int)+1)=1:=rfl
            have hnf:∀ t z,i≤t→m.Keys[t]?=some z→x.Key<z.Key:=fun t z ht hz=>by
              have h4:=h2 t z ht hz
              rcases Int.lt_or_eq_of_le h4 with h5 | h5
              · exact h5
              · exfalso
                by_cases e:t=i
                · subst e;exact absurd (h3.2 ⟨z,hz,h5.symm⟩) (by decide)
                · have hil:i<m.Keys.length:=by have:=(List.getElem?_eq_some_iff.1 hz).1;omega
                  have hy:m.Keys[i]?=some m.Keys[i]:=List.getElem?_eq_getElem hil
                  have h6:=h2 i _ (Nat.le_refl _) hy
                  have h7:=ok.lt i t _ z (by omega) hy hz
                  omega
            have hnk:newK x.Key m.Keys=(m.Keys.take i++⟨x.Key,1⟩::m.Keys.drop i,1):=by unfold newK;rw [if_neg h6,hlow]
            rw [hnk]
            refine ⟨?_,.ins i _ _ hdp hl6 hi h1 hnf⟩
            simp only
            rw [hin,Option.bind_some]
            unfold Yea
            simp only [ixN_at (hlen _),Option.bind_some,hget,hset,hw]
            rfl
      · have n4:¬ (k==4)=true:=by simpa using k4
        rw [if_neg n4]
        have hP:stepP k f m x=(m,x):=by unfold stepP;rw [if_neg k2,if_neg k3,if_neg k4]
        rw [hP]
        have hk':k=1∨k=5∨k=6∨k=7∨k=8:=by have:=hk.1;have:=hk.2.1;omega
        rcases hk' with rfl | rfl | rfl | rfl | rfl<;>exact ⟨rfl,.same m.Sum m.Dep x ok.dep⟩
theorem step_P (k f:Int) (m:Memory) (x:Item) (ok:okM m) (hx:0≤x.Dep) (hk:kindOk k f):Y2a k f m x=some ((stepP k f m x).1,(stepP k f m x).2,0):=(step_PR k f m x ok hx hk).1
theorem stepP_R (k f:Int) (m:Memory) (x:Item) (ok:okM m) (hx:0≤x.Dep) (hk:kindOk k f):StepR k f m x ((stepP k f m x).1,(stepP k f m x).2,0):=(step_PR k f m x ok hx hk).2
theorem stepP_ok {k f:Int} {m:Memory} {x:Item} (ok:okM m) (hx:0≤x.Dep) (hk:kindOk k f) (B:Int) (h0:0≤B) (hB:∀ y,y∈m.Keys→y.N≤B) (hB2:B<4611686018427387904) :
    okM (stepP k f m x).1∧∀ y,y∈(stepP k f m x).1.Keys→y.N≤B+1:=stepR_ok (stepP_R k f m x ok hx hk) ok B h0 hB hB2 rfl
def deep (k:Int):Bool:=k==3 || k==4
theorem stepP_dep (k f:Int) (m:Memory) (x:Item):(stepP k f m x).2.Dep=(if deep k then maxD m.Dep x.Dep else x.Dep)∧(stepP k f m x).1.Dep=if deep k then maxD m.Dep x.Dep else m.Dep:=by
  unfold stepP deep
  by_cases h2:k=2
  · subst h2;exact ⟨rfl,rfl⟩
  · by_cases h3:k=3
    · subst h3;exact ⟨rfl,rfl⟩
    · by_cases h4:k=4
      · subst h4;exact ⟨rfl,rfl⟩
      · rw [if_neg h2,if_neg h3,if_neg h4]
        have:(k==3 || k==4)=false:=by simp [h3,h4]
        rw [this];exact ⟨rfl,rfl⟩
def stepC (k f:Int) (s:Int × List Keyed) (y:Int × Int):(Int × List Keyed) × (Int × Int) :=
  if k=2 then (s,(y.1,mapP f ⟨y.1,y.2,0⟩))
  else if k=3 then ((IntKind.i64.wrap (s.1+y.2),s.2),(y.1,IntKind.i64.wrap (s.1+y.2)))
  else if k=4 then ((s.1,(cntP y.1 s.2).1),(y.1,(cntP y.1 s.2).2))
  else (s,y)
def eraM (m:Memory):Int × List Keyed:=(m.Sum,m.Keys)
def eraI (x:Item):Int × Int:=(x.Key,x.Val)
theorem stepP_C (k f:Int) (m:Memory) (x:Item):(eraM (stepP k f m x).1,eraI (stepP k f m x).2)=stepC k f (eraM m) (eraI x):=by
  unfold stepP stepC eraM eraI
  by_cases h2:k=2
  · subst h2;rfl
  · by_cases h3:k=3
    · subst h3;rfl
    · by_cases h4:k=4
      · subst h4;rfl
      · rw [if_neg h2,if_neg h3,if_neg h4,if_neg h2,if_neg h3,if_neg h4]
end Go.Proofs.Ytfbmoockopakjaa
namespace Go.Proofs.Ytfbmoockopakjaa
set_option linter.unusedVariables false
set_option linter.unusedSimpArgs false
def nodeN (n:Net) (i:Nat):Node:=n.Nodes.getD i ⟨0,0,[],[]⟩
structure RightN (n:Net):Prop where
  n1:1≤n.Nodes.length
  n2:n.Nodes.length≤12
  r1:0≤n.Rings
  r2:n.Rings≤16
  m1:1≤n.Room
  m2:n.Room≤6
  kind:∀ i,i<n.Nodes.length→kindOk (nodeN n i).Kind (nodeN n i).A
  a0:∀ i,i<n.Nodes.length→0≤(nodeN n i).A
  in1:∀ i,i<n.Nodes.length→(nodeN n i).Kind=1→(nodeN n i).In=[]
  in6:∀ i,i<n.Nodes.length→(nodeN n i).Kind=6→1≤(nodeN n i).In.length
  inx:∀ i,i<n.Nodes.length→(nodeN n i).Kind≠1→(nodeN n i).Kind≠6→(nodeN n i).In.length=1
  out8:∀ i,i<n.Nodes.length→(nodeN n i).Kind=8→(nodeN n i).Out=[]
  out1:∀ i,i<n.Nodes.length→(nodeN n i).Kind≠8→1≤(nodeN n i).Out.length
  outx:∀ i,i<n.Nodes.length→(nodeN n i).Kind≠8→(nodeN n i).Kind≠5→(nodeN n i).Kind≠7→(nodeN n i).Out.length=1
  inR:∀ i,i<n.Nodes.length→∀ r,r∈(nodeN n i).In→0≤r∧r<n.Rings
  outR:∀ i,i<n.Nodes.length→∀ r,r∈(nodeN n i).Out→0≤r∧r<n.Rings
  ndI:∀ i,i<n.Nodes.length→(nodeN n i).In.Nodup
  ndO:∀ i,i<n.Nodes.length→(nodeN n i).Out.Nodup
  oneI:∀ i j r,i<n.Nodes.length→j<n.Nodes.length→r∈(nodeN n i).In→r∈(nodeN n j).In→i=j
  oneO:∀ i j r,i<n.Nodes.length→j<n.Nodes.length→r∈(nodeN n i).Out→r∈(nodeN n j).Out→i=j
  toI:∀ r:Nat,(r:Int)<n.Rings→∃ i,i<n.Nodes.length∧(r:Int)∈(nodeN n i).In
  toO:∀ r:Nat,(r:Int)<n.Rings→∃ i,i<n.Nodes.length∧(r:Int)∈(nodeN n i).Out
  sink:∃ s,s<n.Nodes.length∧(nodeN n s).Kind=8
  sink1:∀ i j,i<n.Nodes.length→j<n.Nodes.length→(nodeN n i).Kind=8→(nodeN n j).Kind=8→i=j
  ord:∃ pos:Nat→Nat,(∀ i,i<n.Nodes.length→pos i<n.Nodes.length)∧(∀ i j,i<n.Nodes.length→j<n.Nodes.length→pos i=pos j→i=j)∧∀ i j r,i<n.Nodes.length→j<n.Nodes.length→r∈(nodeN n i).Out→r∈(nodeN n j).In→pos i<pos j
structure RightS (n:Net) (items:List (List Item)):Prop extends RightN n where
  l4:items.length≤4
  l20:∀ (a:Nat) (l:List Item),items[a]?=some l→l.length≤20
  dep0:∀ (a:Nat) (l:List Item) (x:Item),items[a]?=some l→x∈l→x.Dep=0
  srcA:∀ i,i<n.Nodes.length→(nodeN n i).Kind=1→(nodeN n i).A<items.length
  src1:∀ i j,i<n.Nodes.length→j<n.Nodes.length→(nodeN n i).Kind=1→(nodeN n j).Kind=1→(nodeN n i).A=(nodeN n j).A→i=j
theorem nodeN_get {n:Net} {i:Nat} (h:i<n.Nodes.length):n.Nodes[i]?=some (nodeN n i):=by
  unfold nodeN;rw [List.getD_eq_getElem?_getD,List.getElem?_eq_getElem h];rfl
theorem nodeErr_0 {x:Node} (h:nodeErr x=0):kindOk x.Kind x.A∧0≤x.A∧(x.Kind=1→x.In=[])∧(x.Kind=6→1≤x.In.length)∧(x.Kind≠1→x.Kind≠6→x.In.length=1)∧(x.Kind=8→x.Out=[])∧(x.Kind≠8→1≤x.Out.length) ∧
    (x.Kind≠8→x.Kind≠5→x.Kind≠7→x.Out.length=1):=by
  unfold nodeErr at h
  split at h
  · exact absurd h (by decide)
  · rename_i i o har
    split at h
    · exact absurd h (by decide)
    · rename_i hf
      split at h
      · exact absurd h (by decide)
      · rename_i hb
        have hfi:fitsN x.In.length i=true∧fitsN x.Out.length o=true:=by
          cases h1:fitsN x.In.length i<;>cases h2:fitsN x.Out.length o<;>simp [h1,h2] at hf<;>exact ⟨rfl,rfl⟩
        have h1:=of_decide_eq_true hfi.1
        have h2:=of_decide_eq_true hfi.2
        have h3:¬ (x.A<0∨x.Kind=1∧4≤x.A∨x.Kind=2∧3<x.A∨x.Kind≠1∧x.Kind≠2∧x.A≠0):=fun e=>hb (by unfold badA;exact decide_eq_true e)
        unfold arityN at har
        have hz:∀ l:List Int,(l.length:Int)=0→l=[]:=fun l hl=>List.eq_nil_of_length_eq_zero (by omega)
        split at har
        · cases har;rename_i hk
          exact ⟨⟨by omega,by omega,by omega⟩,by omega,fun _=>hz _ (by omega),by omega,by omega,by omega,by omega,by omega⟩
        · split at har
          · cases har;rename_i hk1 hk
            exact ⟨⟨by omega,by omega,by omega⟩,by omega,by omega,by omega,by omega,by omega,by omega,by omega⟩
          · split at har
            · cases har;rename_i hk1 hk2 hk
              exact ⟨⟨by omega,by omega,by omega⟩,by omega,by omega,by omega,by omega,by omega,by omega,by omega⟩
            · split at har
              · cases har;rename_i hk1 hk2 hk3 hk
                exact ⟨⟨by omega,by omega,by omega⟩,by omega,by omega,by omega,by omega,by omega,by omega,by omega⟩
              · split at har
                · cases har;rename_i hk1 hk2 hk3 hk4 hk
                  exact ⟨⟨by omega,by omega,by omega⟩,by omega,by omega,by omega,by omega,fun _=>hz _ (by omega),by omega,by omega⟩
                · cases har
theorem filter_one {α:Type} {p:α→Bool}:∀ {l:List α},(l.filter p).length=1→∃ (i:Nat) (x:α),l[i]?=some x∧p x=true∧∀ (j:Nat) (y:α),l[j]?=some y→p y=true→j=i
  | [],h=>by simp at h
  | a :: l,h=>by
    by_cases ha:p a=true
    · rw [List.filter_cons_of_pos ha] at h
      have h0:l.filter p=[]:=List.eq_nil_of_length_eq_zero (by simpa using h)
      refine ⟨0,a,rfl,ha,fun j y hy hp=>?_⟩
      cases j with
      | zero=>rfl
      | succ j =>
        have hm:y∈l.filter p:=List.mem_filter.2 ⟨List.mem_of_getElem? (by simpa using hy),hp⟩
        rw [h0] at hm;cases hm
    · rw [List.filter_cons_of_neg ha] at h
      obtain ⟨i,x,h1,h2,h3⟩:=filter_one h
      refine ⟨i+1,x,by simpa using h1,h2,fun j y hy hp=>?_⟩
      cases j with
      | zero=>simp at hy;subst hy;exact absurd hp ha
      | succ j=>rw [h3 j y (by simpa using hy) hp]
theorem rightN_of {n:Net} (h:(netR n).2=0):RightN n:=by
  obtain ⟨l,o,hlk,hl,ho,_⟩:=netR_ok h
  have hord:=ordL_of ho
  have hg:∀ i,i<n.Nodes.length→n.Nodes[i]?=some (nodeN n i):=fun i hi=>nodeN_get hi
  have he:=fun i hi=>nodeErr_0 (hl.err i _ (hg i hi))
  obtain ⟨s,xs,hs,hs8,hsu⟩:=filter_one hl.sink
  have hsl:=(List.getElem?_eq_some_iff.1 hs).1
  have hsx:nodeN n s=xs:=by have:=hg s hsl;rw [hs] at this;exact (Option.some.inj this).symm
  refine ⟨hl.n1,hl.n2,hl.r1,hl.r2,hl.m1,hl.m2,fun i hi=>(he i hi).1,fun i hi=>(he i hi).2.1,fun i hi=>(he i hi).2.2.1,fun i hi=>(he i hi).2.2.2.1,fun i hi=>(he i hi).2.2.2.2.1,fun i hi=>(he i hi).2.2.2.2.2.1,fun i hi=>(he i hi).2.2.2.2.2.2.1,fun i hi=>(he i hi).2.2.2.2.2.2.2,
    fun i hi r hr=>⟨(hl.inn i _ (hg i hi) r hr).1,(hl.inn i _ (hg i hi) r hr).2.1⟩,fun i hi r hr=>⟨(hl.out i _ (hg i hi) r hr).1,(hl.out i _ (hg i hi) r hr).2.1⟩,fun i hi=>hl.ndI i _ (hg i hi),fun i hi=>hl.ndO i _ (hg i hi),
    fun i j r hi hj h1 h2=>?_,fun i j r hi hj h1 h2=>?_,fun r hr=>?_,fun r hr=>?_,⟨s,hsl,by rw [hsx];simpa using hs8⟩,fun i j hi hj h1 h2=>?_,?_⟩
  · obtain ⟨_,_,e,e1,e2⟩:=hl.inn i _ (hg i hi) r h1
    obtain ⟨_,_,e',e3,e4⟩:=hl.inn j _ (hg j hj) r h2
    rw [e1] at e3;cases e3;omega
  · obtain ⟨_,_,e,e1,e2⟩:=hl.out i _ (hg i hi) r h1
    obtain ⟨_,_,e',e3,e4⟩:=hl.out j _ (hg j hj) r h2
    rw [e1] at e3;cases e3;omega
  · have hlt:r<l.length:=by have:=hl.len;omega
    obtain ⟨i,x,h1,_,h3⟩:=hl.dst r _ (List.getElem?_eq_getElem hlt)
    have hi:=(List.getElem?_eq_some_iff.1 h1).1
    have:=hg i hi;rw [h1] at this;cases this
    exact ⟨i,hi,h3⟩
  · have hlt:r<l.length:=by have:=hl.len;omega
    obtain ⟨i,x,h1,_,h3⟩:=hl.src r _ (List.getElem?_eq_getElem hlt)
    have hi:=(List.getElem?_eq_some_iff.1 h1).1
    have:=hg i hi;rw [h1] at this;cases this
    exact ⟨i,hi,h3⟩
  · rw [hsu i _ (hg i hi) (by simpa using h1),hsu j _ (hg j hj) (by simpa using h2)]
  · have hmem:∀ i,i<n.Nodes.length→i∈o:=fun i hi=>full_mem hord.nd hord.lt hord.len hi
    have hidx:∀ i,i<n.Nodes.length→o[o.idxOf i]?=some i:=fun i hi=>by
      rw [List.getElem?_eq_getElem (List.idxOf_lt_length_iff.2 (hmem i hi)),List.getElem_idxOf]
    refine ⟨fun i=>o.idxOf i,fun i hi=>?_,fun i j hi hj e=>?_,fun i j r hi hj h1 h2=>?_⟩
    · show o.idxOf i<_
      rw [← hord.len];exact List.idxOf_lt_length_iff.2 (hmem i hi)
    · have h1:=hidx i hi
      have h2:=hidx j hj
      simp only at e
      rw [e,h2] at h1;exact (Option.some.inj h1).symm
    · obtain ⟨_,_,e,e1,e2⟩:=hl.out i _ (hg i hi) r h1
      have h3:=hord.fed _ j _ r e (hidx j hj) (hg j hj) h2 e1
      rw [e2,Int.toNat_natCast] at h3
      show o.idxOf i<o.idxOf j
      obtain ⟨q,hq⟩:=List.getElem?_of_mem h3
      rw [List.getElem?_take] at hq
      split at hq
      · rename_i hlt
        have hq2:=hidx i hi
        have:q=o.idxOf i:=by
          have hql:=(List.getElem?_eq_some_iff.1 hq).1
          refine (List.getElem?_inj hql hord.nd).1 ?_
          rw [hq,hq2]
        omega
      · cases hq
theorem itemsErr_0:∀ {l:List (List Item)},itemsErr l=0→∀ (a:Nat) (s:List Item),l[a]?=some s→s.length≤20∧∀ x:Item,x∈s→x.Dep=0
  | [],_,a,s,h=>by simp at h
  | t :: l,h,a,s,hs=>by
    unfold itemsErr at h
    split at h
    · exact absurd h (by decide)
    · split at h
      · exact absurd h (by decide)
      · rename_i h1 h2
        cases a with
        | zero =>
          simp at hs;subst hs
          refine ⟨by omega,fun x hx=>?_⟩
          refine Classical.byContradiction fun hd=>h2 ?_
          rw [List.any_eq_true];exact ⟨x,hx,decide_eq_true hd⟩
        | succ a=>exact itemsErr_0 h a s (by simpa using hs)
theorem seenErr_0 (len:Nat):∀ {ns:List Node} {seen:List Int},seenErr len ns seen=0→(∀ (i:Nat) x,ns[i]?=some x→x.Kind=1→x.A<len∧x.A ∉ seen)∧∀ (i j:Nat) x y,ns[i]?=some x→ns[j]?=some y→x.Kind=1→y.Kind=1→x.A=y.A→i=j
  | [],seen,_=>⟨fun i x h=>by simp at h,fun i j x y h=>by simp at h⟩
  | z :: ns,seen,h=>by
    unfold seenErr at h
    split at h
    · rename_i hk
      obtain ⟨h1,h2⟩:=seenErr_0 len h
      refine ⟨fun i x hx hx1=>?_,fun i j x y hx hy hx1 hy1 he=>?_⟩
      · cases i with
        | zero=>simp at hx;subst hx;exact absurd hx1 hk
        | succ i=>exact h1 i x (by simpa using hx) hx1
      · cases i with
        | zero=>simp at hx;subst hx;exact absurd hx1 hk
        | succ i =>
          cases j with
          | zero=>simp at hy;subst hy;exact absurd hy1 hk
          | succ j=>rw [h2 i j x y (by simpa using hx) (by simpa using hy) hx1 hy1 he]
    · split at h
      · exact absurd h (by decide)
      · split at h
        · exact absurd h (by decide)
        · rename_i hk hl hs
          obtain ⟨h1,h2⟩:=seenErr_0 len h
          have key:∀ (i:Nat) x,ns[i]?=some x→x.Kind=1→x.A≠z.A:=fun i x hx hx1 e=>(h1 i x hx hx1).2 (by rw [e];exact List.mem_cons_self)
          refine ⟨fun i x hx hx1=>?_,fun i j x y hx hy hx1 hy1 he=>?_⟩
          · cases i with
            | zero=>simp at hx;subst hx;exact ⟨by omega,hs⟩
            | succ i=>exact ⟨(h1 i x (by simpa using hx) hx1).1,fun hm=>(h1 i x (by simpa using hx) hx1).2 (List.mem_cons_of_mem _ hm)⟩
          · cases i with
            | zero =>
              simp at hx;subst hx
              cases j with
              | zero=>rfl
              | succ j=>exact absurd he.symm (key j y (by simpa using hy) hy1)
            | succ i =>
              cases j with
              | zero=>simp at hy;subst hy;exact absurd he (key i x (by simpa using hx) hx1)
              | succ j=>rw [h2 i j x y (by simpa using hx) (by simpa using hy) hx1 hy1 he]
theorem rightS_of {n:Net} {items:List (List Item)} (h:srcR n items=0):RightS n items:=by
  unfold srcR at h
  split at h
  · rename_i h1;exact absurd h h1
  · split at h
    · exact absurd h (by decide)
    · split at h
      · rename_i h1;exact absurd h h1
      · rename_i h1 h2 h3
        have hi:=fun a s hs=>itemsErr_0 (Decidable.not_not.1 h3) a s hs
        obtain ⟨s1,s2⟩:=seenErr_0 items.length h
        exact { rightN_of (Decidable.not_not.1 h1) with
          l4:=by omega
          l20:=fun a l hl=>(hi a l hl).1
          dep0:=fun a l x hl hx=>(hi a l hl).2 x hx
          srcA:=fun i hi hk=>(s1 i _ (nodeN_get hi) hk).1
          src1:=fun i j hi hj h1 h2 he=>s2 i j _ _ (nodeN_get hi) (nodeN_get hj) h1 h2 he }
end Go.Proofs.Ytfbmoockopakjaa
namespace Go.Proofs.Ytfbmoockopakjaa
set_option linter.unusedVariables false
set_option linter.unusedSimpArgs false
def idxI {α:Type} (p:α→Bool) (xs:List α):Int:=match xs.findIdx? p with | some i=>(i:Int) | none => -1
theorem index_loop {α:Type} (xs:List α) (hx:xs.length≤1099511627776) (p:α→Bool) {body:Int→Option (Int ⊕ Int)}
    (h1:∀ (k:Nat) (x:α),xs[k]?=some x→k<xs.length→idx xs (k:Int)=some x→decide ((k:Int)<(xs.length:Int))=true→IntKind.i64.wrap ((k:Int)+1)=((k+1:Nat):Int)→body k=if p x=true then some (.inr (k:Int)) else some (.inl ((k+1:Nat):Int)))
    (h2:decide ((xs.length:Int)<(xs.length:Int))=false→body xs.length=some (.inr (-1))):iter body 0=some (idxI p xs):=by
  have key:∀ (m k:Nat),k+m=xs.length→iter body k=some (match (xs.drop k).findIdx? p with | some i=>((k+i:Nat):Int) | none => -1):=by
    intro m
    induction m with
    | zero =>
      intro k hk
      have hk:k=xs.length:=by omega
      subst hk
      rw [J5a,h2 (by simp),List.drop_length];rfl
    | succ m ih =>
      intro k hk
      have hlt:k<xs.length:=by omega
      have hg:xs[k]?=some xs[k]:=List.getElem?_eq_getElem hlt
      rw [J5a,h1 k _ hg hlt (Voa hg) (by simp;omega) (Qkb (by omega)),List.drop_eq_getElem_cons hlt,List.findIdx?_cons]
      by_cases hp:p xs[k]=true
      · rw [if_pos hp,hp];rfl
      · rw [if_neg hp,Bool.eq_false_iff.2 hp]
        simp only
        rw [ih (k+1) (by omega)]
        cases (xs.drop (k+1)).findIdx? p with
        | none=>rfl
        | some i =>
          show some (((k+1+i:Nat):Int))=some (((k+(i+1):Nat):Int))
          congr 1;omega
  have:=key xs.length 0 (by omega)
  simp only [Int.natCast_zero,List.drop_zero,Nat.zero_add] at this
  exact this
theorem idxI_any {α:Type} (p:α→Bool) (xs:List α):decide (idxI p xs ≥ 0)=xs.any p:=by
  unfold idxI
  cases h:xs.findIdx? p with
  | none =>
    rw [List.findIdx?_eq_none_iff] at h
    have:xs.any p=false:=by rw [List.any_eq_false];exact fun x hx=>by simpa using h x hx
    rw [this];rfl
  | some i =>
    obtain ⟨hi,hp,_⟩:=List.findIdx?_eq_some_iff_getElem.1 h
    have:xs.any p=true:=List.any_eq_true.2 ⟨_,List.getElem_mem hi,hp⟩
    rw [this];simp
theorem lane_P (x:Item) (r:Int) (hr:1≤r∧r≤16):stage_Lane x r=some (x.Key % r,0):=by
  have h1:=Int.tmod_lt_of_pos x.Key (show 0<r by omega)
  have h2:=Int.lt_tmod_of_pos x.Key (show 0<r by omega)
  have hn:((r.natAbs:Nat):Int)=r:=by omega
  unfold stage_Lane
  rw [if_neg (by simp;omega)]
  unfold rem
  rw [if_neg (by omega),Option.bind_some,if_neg (by omega),Option.bind_some]
  rw [Yqa (by omega) (by omega)]
  have h3:(x.Key.tmod r+r).tmod r=x.Key % r:=by
    rw [Int.tmod_eq_emod_of_nonneg (by omega),Int.add_emod_right,Int.tmod_eq_emod]
    split<;>simp [hn,Int.sub_emod_right]
  rw [h3]
def ringN (x:Node) (k:Nat):Nat:=(x.In.getD k 0).toNat
def Zva (x:Node):Nat:=if x.Kind=6 then x.In.length else 1
def memN (s:State) (i:Nat):Memory:=s.Memory.getD i ⟨0,[],0⟩
def headI (n:Net) (items:List (List Item)) (s:State) (i k:Nat):Option Item :=
  if (nodeN n i).Kind=1 then (items.getD (nodeN n i).A.toNat [])[(s.At.getD (nodeN n i).A.toNat 0).toNat]? else (s.Rings.getD (ringN (nodeN n i) k) []).head?
def outsI (x:Node) (key:Int):List Int:=if x.Kind=7 then [x.Out.getD (key % x.Out.length).toNat 0] else x.Out
def roomy (n:Net) (s:State) (l:List Int):Bool:=l.all fun r=>decide (((s.Rings.getD r.toNat []).length:Int)<n.Room)
def canM (n:Net) (items:List (List Item)) (s:State) (i k:Nat):Bool :=
  match headI n items s i k with
  | none=>false
  | some it=>roomy n s (outsI (nodeN n i) it.Key) && !(decide ((nodeN n i).Kind=6∧s.Choices.length=500)) && !(decide ((nodeN n i).Kind=8∧s.Out.length=2000))
def putR (y:Item) (l:List Int) (R:List (List Item)):List (List Item):=l.foldl (fun R r=>R.set r.toNat (R.getD r.toNat []++[y])) R
def chD (x:Node) (s:State) (it:Item):Item:=if x.Kind=6 then ⟨it.Key,it.Val,(s.Choices.length:Int)+1⟩ else it
def stepM (n:Net) (s:State) (i:Nat) (it:Item):Memory × Item:=stepP (nodeN n i).Kind (nodeN n i).A (memN s i) (chD (nodeN n i) s it)
def doM (n:Net) (items:List (List Item)) (s:State) (i k:Nat):State :=
  match headI n items s i k with
  | none=>s
  | some it =>
    { At:=if (nodeN n i).Kind=1 then s.At.set (nodeN n i).A.toNat (s.At.getD (nodeN n i).A.toNat 0+1) else s.At
      Rings:=putR (stepM n s i it).2 (outsI (nodeN n i) it.Key) (if (nodeN n i).Kind=1 then s.Rings else s.Rings.set (ringN (nodeN n i) k) (s.Rings.getD (ringN (nodeN n i) k) []).tail)
      Memory:=s.Memory.set i (stepM n s i it).1
      Choices:=if (nodeN n i).Kind=6 then s.Choices++[⟨i,k⟩] else s.Choices
      Out:=if (nodeN n i).Kind=8 then s.Out++[(stepM n s i it).2] else s.Out }
def readyI (n:Net) (items:List (List Item)) (s:State) (i:Nat):List Move:=((List.range (Zva (nodeN n i))).filter fun k=>canM n items s i k).map fun k:Nat=>⟨i,k⟩
def Zca (n:Net) (items:List (List Item)) (s:State):List Move:=(List.range n.Nodes.length).flatMap fun i=>readyI n items s i
def choiceOk (n:Net) (c:Choice):Prop:=0≤c.Node∧c.Node<n.Nodes.length∧(nodeN n c.Node.toNat).Kind=6∧0≤c.Lane∧c.Lane<(nodeN n c.Node.toNat).In.length
structure OkS (n:Net) (items:List (List Item)) (B:Int) (s:State):Prop where
  at_:s.At.length=items.length
  rg:(s.Rings.length:Int)=n.Rings
  mm:s.Memory.length=n.Nodes.length
  ch:s.Choices.length≤500
  out:s.Out.length≤2000
  atP:∀ (a:Nat) (p:Int),s.At[a]?=some p→0≤p∧p≤(items.getD a []).length
  room:∀ (r:Nat) (l:List Item),s.Rings[r]?=some l→(l.length:Int)≤n.Room
  depR:∀ (r:Nat) (l:List Item) (x:Item),s.Rings[r]?=some l→x∈l→0≤x.Dep∧x.Dep≤s.Choices.length
  mem:∀ (i:Nat) (m:Memory),s.Memory[i]?=some m→okM m∧m.Dep≤s.Choices.length∧∀ y,y∈m.Keys→y.N≤B
  cho:∀ c,c∈s.Choices→choiceOk n c
  depO:∀ x,x∈s.Out→0≤x.Dep∧x.Dep≤s.Choices.length
section
variable {n:Net} {items:List (List Item)} {B:Int} {s:State}
theorem Zea {α:Type} {l:List α} {k:Nat} (z:α) (h:k<l.length):l[k]?=some (l.getD k z):=by
  rw [List.getD_eq_getElem?_getD,List.getElem?_eq_getElem h];rfl
theorem idx_D {α:Type} {l:List α} {i:Int} (z:α) (h0:0≤i) (h:i<l.length):idx l i=some (l.getD i.toNat z):=by
  unfold idx;rw [if_pos h0];exact Zea z (by omega)
theorem ixN_D {α:Type} {l:List α} {i:Int} (h0:0≤i) (h:i<l.length):ixN l i=some i.toNat:=by
  unfold ixN;rw [if_pos ⟨h0,h⟩]
theorem lane_lt (hR:RightN n) {i k:Nat} (hi:i<n.Nodes.length) (hk:k<Zva (nodeN n i)) (h1:(nodeN n i).Kind≠1):k<(nodeN n i).In.length:=by
  unfold Zva at hk
  split at hk
  · exact hk
  · rename_i h6
    have:=hR.inx i hi h1 h6;omega
theorem ring_in (hR:RightN n) {i k:Nat} (hi:i<n.Nodes.length) (hk:k<(nodeN n i).In.length):(nodeN n i).In.getD k 0∈(nodeN n i).In∧0≤(nodeN n i).In.getD k 0∧(nodeN n i).In.getD k 0<n.Rings:=by
  have:(nodeN n i).In.getD k 0∈(nodeN n i).In:=List.mem_of_getElem? (Zea 0 hk)
  exact ⟨this,hR.inR i hi _ this⟩
theorem at_ok (hS:RightS n items) (ok:OkS n items B s) {i:Nat} (hi:i<n.Nodes.length) (h1:(nodeN n i).Kind=1) :
    0≤(nodeN n i).A∧(nodeN n i).A<s.At.length∧(nodeN n i).A<items.length∧0≤s.At.getD (nodeN n i).A.toNat 0∧s.At.getD (nodeN n i).A.toNat 0≤(items.getD (nodeN n i).A.toNat []).length∧(items.getD (nodeN n i).A.toNat []).length≤20:=by
  have h0:=hS.a0 i hi
  have h2:=hS.srcA i hi h1
  have h3:=ok.at_
  have h4:=ok.atP (nodeN n i).A.toNat _ (Zea 0 (by omega))
  exact ⟨h0,by omega,h2,h4.1,h4.2,hS.l20 _ _ (Zea [] (by omega))⟩
theorem head_eq (hS:RightS n items) (ok:OkS n items B s) {i k:Nat} (hi:i<n.Nodes.length) (hk:k<Zva (nodeN n i)) :
    move_head n items s ⟨i,k⟩=some (match headI n items s i k with | some it=>(it,true) | none=>(⟨0,0,0⟩,false)):=by
  unfold move_head headI
  simp only
  rw [Voa (nodeN_get hi),Option.bind_some]
  by_cases h1:(nodeN n i).Kind=1
  · rw [if_pos (by simpa using h1),if_pos h1]
    obtain ⟨a0,a1,a2,a3,a4,a5⟩:=at_ok hS ok hi h1
    rw [idx_D 0 a0 a1,Option.bind_some,idx_D [] a0 a2,Option.bind_some]
    by_cases he:s.At.getD (nodeN n i).A.toNat 0=((items.getD (nodeN n i).A.toNat []).length:Int)
    · rw [if_pos (by simpa using he),List.getElem?_eq_none (by omega)]
    · rw [if_neg (by simpa using he),Option.bind_some,Option.bind_some,idx_D ⟨0,0,0⟩ a3 (by omega),Option.bind_some,Zea (⟨0,0,0⟩:Item) (show (s.At.getD (nodeN n i).A.toNat 0).toNat<_ by omega)]
  · rw [if_neg (by simpa using h1),if_neg h1]
    have hkl:=lane_lt hS.toRightN hi hk h1
    obtain ⟨_,b0,b1⟩:=ring_in hS.toRightN hi hkl
    have hrg:=ok.rg
    rw [idx_D (0:Int) (by omega) (by omega),Option.bind_some]
    simp only [Int.toNat_natCast]
    rw [idx_D [] b0 (by omega),Option.bind_some]
    show _=some (match (s.Rings.getD (ringN (nodeN n i) k) []).head? with | some it=>(it,true) | none=>(⟨0,0,0⟩,false))
    unfold ringN
    cases hl:s.Rings.getD ((nodeN n i).In.getD k 0).toNat [] with
    | nil=>rfl
    | cons y ys=>rw [if_neg (by simp;omega)];rfl
theorem outs_ok (hR:RightN n) {i:Nat} (hi:i<n.Nodes.length) (key:Int):∀ r,r∈outsI (nodeN n i) key→r∈(nodeN n i).Out:=by
  intro r hr
  unfold outsI at hr
  split at hr
  · rename_i h7
    have h1:=hR.out1 i hi (by omega)
    have hm:=Int.emod_nonneg key (show ((nodeN n i).Out.length:Int)≠0 by omega)
    have hm2:=Int.emod_lt_of_pos key (show (0:Int)<(nodeN n i).Out.length by omega)
    simp at hr
    subst hr
    have hlt:(key % ((nodeN n i).Out.length:Int)).toNat<(nodeN n i).Out.length:=by omega
    have:=List.mem_of_getElem? (Zea (0:Int) hlt)
    rwa [List.getD_eq_getElem?_getD] at this
  · exact hr
theorem nodup_len {l:List Int} {R:Int} (hd:l.Nodup) (h:∀ r,r∈l→0≤r∧r<R) (hR:0≤R):(l.length:Int)≤R:=by
  have h1:(l.map Int.toNat).Nodup:=List.pairwise_map.2 (List.Pairwise.imp_of_mem (fun {a b} ha hb hne e=>hne (by have:=h a ha;have:=h b hb;omega)) hd)
  have:=nodup_lt_len R.toNat (l.map Int.toNat) h1 (fun x hx=>by
    obtain ⟨a,ha,rfl⟩:=List.mem_map.1 hx
    have:=h a ha;omega)
  simp at this;omega
theorem outs_nd (hR:RightN n) {i:Nat} (hi:i<n.Nodes.length) (key:Int):(outsI (nodeN n i) key).Nodup:=by
  unfold outsI
  split
  · simp
  · exact hR.ndO i hi
theorem out_len (hR:RightN n) {i:Nat} (hi:i<n.Nodes.length):(nodeN n i).Out.length≤16:=by
  have:=nodup_len (hR.ndO i hi) (hR.outR i hi) hR.r1
  have:=hR.r2;omega
theorem move_outs_eq (hR:RightN n) {i:Nat} (hi:i<n.Nodes.length) (it:Item):move_outs (nodeN n i) it=some (outsI (nodeN n i) it.Key):=by
  unfold move_outs outsI
  by_cases h7:(nodeN n i).Kind=7
  · rw [if_neg (by simp [h7]),if_pos h7]
    have h1:=hR.out1 i hi (by omega)
    have h2:=out_len hR hi
    have hm:=Int.emod_nonneg it.Key (show ((nodeN n i).Out.length:Int)≠0 by omega)
    have hm2:=Int.emod_lt_of_pos it.Key (show (0:Int)<(nodeN n i).Out.length by omega)
    rw [lane_P it _ (by omega),Option.bind_some]
    simp only
    rw [Yqa (by omega) (by omega)]
    obtain ⟨q,hq⟩:=Int.eq_ofNat_of_zero_le hm
    rw [hq] at hm2 ⊢
    rw [show ((q:Nat):Int)+1=((q+1:Nat):Int) from rfl,sub_ok (by omega) (by omega),Option.bind_some]
    have hql:q<(nodeN n i).Out.length:=by omega
    congr 1
    rw [List.take_succ_eq_append_getElem hql,List.drop_append_of_le_length (by simp;omega),List.drop_of_length_le (by simp;omega)]
    simp [List.getD_eq_getElem?_getD,List.getElem?_eq_getElem hql]
  · rw [if_pos (by simpa using h7),if_neg h7]
theorem contains_eq (hR:RightN n) (ok:OkS n items B s) (l:List Int) (hl:∀ r,r∈l→0≤r∧r<n.Rings) (hll:l.length≤16):Zja l s.At s.Rings s.Memory s.Choices s.Out n.Nodes n.Rings n.Room=some (!roomy n s l):=by
  unfold Zja Z2a
  have hrg:=ok.rg
  rw [index_loop l (by omega) (fun r=>decide (n.Room≤((s.Rings.getD r.toNat []).length:Int))) (fun k x hx hk h1 h2 h3=>by
    have hm:=hl x (List.mem_of_getElem? hx)
    unfold Zka Qab
    rw [h2,h1,h3]
    simp only [if_true,Option.bind_some]
    rw [idx_D [] hm.1 (by omega),Option.bind_some,Option.bind_some]
    rfl) (fun h=>by
    unfold Zka
    rw [h];rfl)]
  rw [Option.bind_some,idxI_any]
  congr 1
  unfold roomy
  rw [Bool.eq_iff_iff]
  simp only [List.any_eq_true,decide_eq_true_eq,Bool.not_eq_true',List.all_eq_false]
  exact ⟨fun ⟨x,h1,h2⟩=>⟨x,h1,by omega⟩,fun ⟨x,h1,h2⟩=>⟨x,h1,by omega⟩⟩
theorem head_dep (hS:RightS n items) (ok:OkS n items B s) {i k:Nat} {it:Item} (h:headI n items s i k=some it):0≤it.Dep∧it.Dep≤s.Choices.length:=by
  unfold headI at h
  split at h
  · rename_i h1
    have hm:=List.mem_of_getElem? h
    rw [List.getD_eq_getElem?_getD] at hm
    cases hg:items[(nodeN n i).A.toNat]? with
    | none=>rw [hg] at hm;simp at hm
    | some l =>
      rw [hg] at hm
      rw [hS.dep0 _ l it hg hm]
      omega
  · have hm:=List.mem_of_head? h
    rw [List.getD_eq_getElem?_getD] at hm
    cases hg:s.Rings[ringN (nodeN n i) k]? with
    | none=>rw [hg] at hm;simp at hm
    | some l=>rw [hg] at hm;exact ok.depR _ l it hg hm
theorem can_eq (hS:RightS n items) (ok:OkS n items B s) {i k:Nat} (hi:i<n.Nodes.length) (hk:k<Zva (nodeN n i)) :
    move_can n items s ⟨i,k⟩=some (canM n items s i k):=by
  unfold move_can canM
  simp only
  rw [Voa (nodeN_get hi),Option.bind_some,head_eq hS ok hi hk,Option.bind_some]
  cases hh:headI n items s i k with
  | none=>rfl
  | some it =>
    simp only [Bool.not_true,Bool.false_eq_true,if_false]
    have hol:(outsI (nodeN n i) it.Key).length≤16:=by
      unfold outsI;split
      · simp
      · exact out_len hS.toRightN hi
    rw [move_outs_eq hS.toRightN hi,Option.bind_some,contains_eq hS.toRightN ok _ (fun r hr=>hS.outR i hi r (outs_ok hS.toRightN hi _ r hr)) hol,Option.bind_some,Option.bind_some]
    cases hr:roomy n s (outsI (nodeN n i) it.Key) with
    | false=>rfl
    | true =>
      simp only [Bool.not_true,Bool.false_eq_true,if_false,Bool.true_and]
      have hch:=ok.ch
      have hst:(Option.bind (idx s.Memory (i:Int)) fun x11=>Option.bind (Y2a (nodeN n i).Kind (nodeN n i).A x11 it) fun x12=>some (x12.2.2==0))=some true:=by
        have hm:=Zea (⟨0,[],0⟩:Memory) (show i<s.Memory.length by rw [ok.mm];exact hi)
        rw [Voa hm,Option.bind_some,step_P _ _ _ _ (ok.mem i _ hm).1 (head_dep hS ok hh).1 (hS.kind i hi)]
        rfl
      rw [hst]
      by_cases h6:(nodeN n i).Kind=6
      · have h8:¬ (nodeN n i).Kind=8:=by omega
        by_cases hc:s.Choices.length=500
        · rw [if_pos (by simp [h6,hc])];simp [h6,hc]
        · rw [if_neg (by simp [h6];omega)];simp [h6,hc]
      · by_cases h8:(nodeN n i).Kind=8
        · by_cases hc:s.Out.length=2000
          · rw [if_pos (by simp [h8,hc])];simp [h8,hc]
          · rw [if_neg (by simp [h8];omega)];simp [h8,hc]
        · rw [if_neg (by simp [h6,h8])];simp [h6,h8]
end
end Go.Proofs.Ytfbmoockopakjaa
