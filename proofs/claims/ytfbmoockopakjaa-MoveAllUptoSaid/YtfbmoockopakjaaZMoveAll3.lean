/-
  Part 3 of the proof of moveAllLaw.proved: the code computes these functions, and the law holds of them, with no condition beyond the statement's own; put together by a program of ours (wip/decl.py) out of texts of ours.
-/
import Derived.Test.YtfbmoockopakjaaZMoveAll2
namespace Go.Proofs.Ytfbmoockopakjaa
open Go.RowKit
set_option linter.unusedVariables false
set_option linter.unusedSimpArgs false
set_option maxRecDepth 100000
set_option maxHeartbeats 4000000
set_option synthInstance.maxSize 100000
set_option synthInstance.maxHeartbeats 4000000
theorem math_bits_Mul64_c (p0:Int) (p1:Int) (r:Int × Int) (h:math_bits_Mul64 p0 p1=some r):Fn Try.prog 145 [.int .u64 p0,.int .u64 p1] (.tup [.int .u64 r.1,.int .u64 r.2]):=by
  unfold math_bits_Mul64 at h
  refine fnT 0 Try.func145 Try.ntmps145 ?_
  refine T.seq (T.region (go 2 0 (RS.nil (T.seq (T.region (go 3 0 (RS.nil (T.seq ?_))))))))
  obtain ⟨x2,hx2,h⟩:=bind_some h
  refine T.region (go 1 0 (sQ (v_shr rfl rfl hx2 (go 1 0 (RS.nil (T.seq (T.region (go 3 0 (RS.nil (T.seq ?_))))))))))
  obtain ⟨x4,hx4,h⟩:=bind_some h
  refine T.region (go 1 0 (sQ (v_shr rfl rfl hx4 (go 1 0 (RS.nil (T.seq (T.region (go 4 0 (RS.nil (T.seq ?_))))))))))
  obtain ⟨x6,hx6,h⟩:=bind_some h
  refine T.region (go 4 0 (sQ (v_shr rfl rfl hx6 (go 2 0 (RS.nil (T.seq (T.region (go 3 0 (RS.nil (T.seq ?_))))))))))
  obtain ⟨x8,hx8,h⟩:=bind_some h
  refine T.region (go 1 0 (sQ (v_shr rfl rfl hx8 (go 1 0 (RS.nil (T.seq (T.region (go 6 0 (RS.nil (T.seq ?_))))))))))
  obtain ⟨x10,hx10,h⟩:=bind_some h
  refine T.region (go 6 0 (sQ (v_shr rfl rfl hx10 (go 2 0 (RS.nil (T.seq (T.region (go 4 0 (RS.nil ?_)))))))))
  cases h
  exact tD
theorem math_bits_Mul_c (p0:Int) (p1:Int) (r:Int × Int) (h:math_bits_Mul p0 p1=some r):Fn Try.prog 142 [.int .u64 p0,.int .u64 p1] (.tup [.int .u64 r.1,.int .u64 r.2]):=by
  unfold math_bits_Mul at h
  refine fnT 0 Try.func142 Try.ntmps142 ?_
  refine T.seq (T.region (go 2 0 (RS.nil (T.seq (T.cf rfl (T.skip (T.seq ?_)))))))
  obtain ⟨x2,hx2,h⟩:=bind_some h
  refine T.region (go 2 0 (sO (cF (math_bits_Mul64_c p0 p1 x2 hx2) ⟨rfl,(go 5 0 (RS.nil (T.seq (T.region (go 4 0 (RS.nil ?_))))))⟩)))
  cases h
  exact tD
theorem slices_Repeat_ends_c (p0:List Ends) (p1:Int) (r:List Ends) (h:slices_Repeat_ends p0 p1=some r):FnO Try.prog 137 [sL encEnds p0,iI p1] (.ref 0) [aR 172 2 encEnds r]:=by
  unfold slices_Repeat_ends at h
  refine fnT 0 Try.func137 Try.ntmps137 ?_
  refine T.seq (T.region (go 1 0 (RS.nil (T.seq (T.seq (T.region (go 2 0 (RS.nil (T.ci h rfl (fun hb_1 h=>?_) (fun hb_1 h=>?_))))))))))
  ·cases h
  refine T.skip (T.seq ?_)
  obtain ⟨x2,hx2,h⟩:=bind_some h
  refine T.region (go 1 0 (sQ (v_len_sl Ty.s168 rfl (go 3 0 (sO (cF (math_bits_Mul_c (IntKind.u64.wrap ((p0).length:Int)) (IntKind.u64.wrap p1) x2 hx2) ⟨rfl,(go 5 0 (RS.nil (T.seq (T.join (Z:=Unit) (fun _=>mkA 48 [(0,sL encEnds p0),(6,.int .u64 x2.2),(26,.bool ((decide (x2.1 > 0)) || decide (x2.2 > 9223372036854775807)))]) (fun _=>[]) (fun _=>True) (fun _ _=>?_) (fun hK=>?_)))))⟩))))))
  ·refine T.ci h rfl (fun hb_3 h=>?_) (fun hb_3 h=>?_)
   ·cases h
   refine T.skip (T.seq ?_)
   obtain ⟨x5,hx5,h⟩:=bind_some h
   refine T.region (go 2 0 (sO (o_mk (en:=encEnds) (zr:=(⟨0,0⟩:Ends)) Ty.s168 Ty.z172 rfl rfl hx5 rfl rfl (go 1 1 (RS.nil (T.seq (T.region (go 2 1 (sO (o_copy_rs (en:=encEnds) (xs:=x5) (ys:=p0) Ty.s168 (fun _=>rfl) rfl rfl rfl rfl (go 1 1 ?_)))))))))))
   refine RS.nil (T.seq (T.block (T.iter (fun ss_8:Int × (List Ends)=>mkA 48 [(7,.ref 0),(8,iI ss_8.1)]) (fun ss_8=>[aR 172 2 encEnds ss_8.2]) h (wk [] [0] 1 rfl) (fun ss_8 v_9 h hv_9=>?_))))
   obtain ⟨s6,s7⟩:=ss_8
   replace h:slices_Repeat_ends_l1 s6 s7=some v_9:=h
   try dsimp only
   unfold slices_Repeat_ends_l1 at h
   refine T.seq (T.seq (T.region (go 2 1 (sQ (v_len_ref (en:=encEnds) Ty.s168 rfl rfl (go 1 1 (RS.nil (T.ci h rfl (fun hb_10 h=>?_) (fun hb_10 h=>?_)))))))))
   ·refine T.skip (T.block ?_)
    obtain ⟨x8,hx8,h⟩:=bind_some h
    obtain ⟨x9,hx9,h⟩:=bind_some h
    obtain ⟨x10,hx10,h⟩:=bind_some h
    obtain ⟨x11,hx11,h⟩:=bind_some h
    refine T.drawn mixed (k:=10) rfl ?_
    apply RA.jn 3 #[true,true,true,true,true,true,true,false,false,false];intro hS11
    ·refine rq [0,1,2,4,5] 5 (ra2 3 6 ?_ ?_)
     ·refine oO rfl (o_slice_vw (en:=encEnds) (xs:=s7) Ty.s168 rfl rfl rfl rfl hx8 (ra1 6 (oO rfl (o_slice_vw (en:=encEnds) (xs:=s7) Ty.s168 rfl rfl rfl rfl hx9 ?_))))
      exact raE hS11
     ·refine oO rfl (o_slice_vw (en:=encEnds) (xs:=s7) Ty.s168 rfl rfl rfl rfl hx9 (ra1 3 (oO rfl (o_slice_vw (en:=encEnds) (xs:=s7) Ty.s168 rfl rfl rfl rfl hx8 ?_))))
      exact raT hS11
    refine ra1 7 (oO rfl (o_copy_vv (en:=encEnds) (xs:=s7) Ty.s168 (fun _=>rfl) rfl rfl rfl hx10 hx11 rfl (rq [8,9] 0 (RA.done (by decide +kernel) ?_))))
    exact ⟨(IntKind.i64.wrap (s6+((min ((((s7).length:Int)).toNat - (s6).toNat) ((s6).toNat - ((0:Int)).toNat):Nat):Int)),(cpy s7 ((s6).toNat) ((((s7).length:Int)).toNat - (s6).toNat) ((s7.drop (((0:Int)).toNat)).take ((s6).toNat - ((0:Int)).toNat)))),(Option.some.inj h).symm,wk [] [0] 1 rfl⟩
   refine T.exit ?_
   obtain ⟨w_12,h,hw_12⟩:=map_inr h
   replace h:=h.trans (congrArg some (hv_9 _ hw_12))
   refine T.seq (T.region (go 2 1 (RS.nil ?_)))
   cases h
   exact tO [] [0] 1
  refine T.region (go 3 0 ?_)
  rcases bool_cases (decide (x2.1 > 0)) with hb_2 | hb_2
  ·refine sN hb_2 (sN hb_2 (sQ (v_pickT (v:=.bool true) rfl hb_2 rfl (RS.nil ?_))))
   exact T.sub (hK () trivial) ⟨rfl,rfl,(congrArg AV.bool (by simp only [hb_2,bz,if_true,if_false,Bool.false_eq_true])).symm,trivial⟩
  refine yg 0 hb_2 (yg 0 hb_2 (sQ (v_pickF (v:=.bool (decide (x2.2 > 9223372036854775807))) rfl hb_2 rfl (RS.nil ?_))))
  exact T.sub (hK () trivial) ⟨rfl,rfl,(congrArg AV.bool (by simp only [hb_2,bz,if_true,if_false,Bool.false_eq_true])).symm,trivial⟩
theorem net_arity_c (p0:Int) (r:Int × Int × Bool) (h:net_arity p0=some r):Fn Try.prog 138 [iI p0] (.tup [iI r.1,iI r.2.1,.bool r.2.2]):=by
  unfold net_arity at h
  refine fnT 0 Try.func138 Try.ntmps138 ?_
  refine T.seq (T.region (go 3 0 (RS.nil (T.seq (T.seq (T.region (go 1 0 (RS.nil (T.block ?_)))))))))
  refine T.seq (T.region (go 2 0 (RS.nil (T.ci h rfl (fun hb_1 h=>?_) (fun hb_1 h=>?_)))))
  ·refine T.seq (T.region (go 3 0 (RS.nil ?_)))
   cases h
   exact tD
  refine T.join (Z:=Bool) (fun zz_4=>mkA 19 [(5,iI p0),(8,.bool zz_4)]) (fun zz_4=>[]) (fun zz_4=>net_arity_k2 p0 zz_4=some r) (fun zz_4 h=>?_) (fun hK2=>?_)
  ·revert h;revert zz_4;intro z1 h
   replace h:net_arity_k2 p0 z1=some r:=h
   try dsimp only
   unfold net_arity_k2 at h
   refine T.ci h rfl (fun hb_5 h=>?_) (fun hb_5 h=>?_)
   ·refine T.seq (T.region (go 3 0 (RS.nil ?_)))
    cases h
    exact tD
   refine T.join (Z:=Bool) (fun zz_7=>mkA 19 [(5,iI p0),(12,.bool zz_7)]) (fun zz_7=>[]) (fun zz_7=>net_arity_k1 p0 zz_7=some r) (fun zz_7 h=>?_) (fun hK1=>?_)
   ·revert h;revert zz_7;intro z2 h
    replace h:net_arity_k1 p0 z2=some r:=h
    try dsimp only
    unfold net_arity_k1 at h
    refine T.ci h rfl (fun hb_8 h=>?_) (fun hb_8 h=>?_)
    ·refine T.seq (T.region (go 3 0 (RS.nil ?_)))
     cases h
     exact tD
    refine T.seq (T.region (go 2 0 (RS.nil (T.ci h rfl (fun hb_9 h=>?_) (fun hb_9 h=>?_)))))
    ·refine T.seq (T.region (go 3 0 (RS.nil ?_)))
     cases h
     exact tD
    refine T.seq (T.region (go 2 0 (RS.nil (T.ci h rfl (fun hb_10 h=>?_) (fun hb_10 h=>?_)))))
    ·refine T.seq (T.region (go 3 0 (RS.nil ?_)))
     cases h
     exact tD
    refine T.skip (T.seq (T.region (go 3 0 (RS.nil ?_))))
    cases h
    exact tD
   refine T.seq (T.region (go 2 0 (RS.nil (T.ci h rfl (fun hb_11 h=>?_) (fun hb_11 h=>?_)))))
   ·refine T.skip ?_
    exact T.weakR (hK1 (p0==5) h) (wk [] [] 0 rfl)
   refine T.region (go 2 0 (RS.nil ?_))
   exact T.weakR (hK1 (p0==7) h) (wk [] [] 0 rfl)
  refine T.seq (T.region (go 2 0 (RS.nil (T.ci h rfl (fun hb_12 h=>?_) (fun hb_12 h=>?_)))))
  ·refine T.skip ?_
   exact T.weakR (hK2 (p0==2) h) (wk [] [] 0 rfl)
  refine T.seq (T.region (go 2 0 (RS.nil (T.ci h rfl (fun hb_13 h=>?_) (fun hb_13 h=>?_)))))
  ·refine T.skip ?_
   exact T.weakR (hK2 (p0==3) h) (wk [] [] 0 rfl)
  refine T.region (go 2 0 (RS.nil ?_))
  exact T.weakR (hK2 (p0==4) h) (wk [] [] 0 rfl)
theorem net_fits_c (p0:Int) (p1:Int) (r:Bool) (h:net_fits p0 p1=some r):Fn Try.prog 139 [iI p0,iI p1] (.bool r):=by
  unfold net_fits at h
  refine fnT 0 Try.func139 Try.ntmps139 ?_
  refine T.seq (T.region (go 1 0 (RS.nil (T.join (Z:=Unit) (fun _=>mkA 16 [(4,.bool ((p0==p1) || ((decide (p1<0)) && decide (p0 > 0))))]) (fun _=>[]) (fun _=>True) (fun _ _=>?_) (fun hK=>?_)))))
  ·cases h
   exact tD
  refine T.region (go 4 0 ?_)
  rcases bool_cases (p0==p1) with hb_1 | hb_1
  ·refine sN hb_1 (sN hb_1 (sN hb_1 (sU (sU (sN hb_1 (sQ (v_pickT (v:=.bool true) rfl hb_1 rfl (go 1 0 (RS.nil ?_)))))))))
   exact T.sub (hK () trivial) ⟨(congrArg AV.bool (by simp only [hb_1,bz,if_true,if_false,Bool.false_eq_true])).symm,trivial⟩
  refine yg 0 hb_1 (yg 0 hb_1 (yg 0 hb_1 ?_))
  rcases bool_cases (decide (p1<0)) with hb_2 | hb_2
  ·refine yg 0 hb_2 (yg 0 hb_2 (yQ hb_1 (v_pickT (v:=.bool (decide (p0 > 0))) rfl hb_2 rfl (sQ (v_pickF (v:=.bool (decide (p0 > 0))) rfl hb_1 rfl (go 1 0 (RS.nil ?_)))))))
   exact T.sub (hK () trivial) ⟨(congrArg AV.bool (by simp only [hb_1,hb_2,bz,if_true,if_false,Bool.false_eq_true])).symm,trivial⟩
  refine sN hb_2 (sN hb_2 (yQ hb_1 (v_pickF (v:=.bool false) rfl hb_2 rfl (sQ (v_pickF (v:=.bool false) rfl hb_1 rfl (go 1 0 (RS.nil ?_)))))))
  exact T.sub (hK () trivial) ⟨(congrArg AV.bool (by simp only [hb_1,hb_2,bz,if_true,if_false,Bool.false_eq_true])).symm,trivial⟩
theorem net_look_c (p0:Net) (r:(List Ends) × Int) (h:net_look p0=some r):FnO Try.prog 124 [.agg (encNet p0)] (.tup [.ref 0,iI r.2]) [aR 172 2 encEnds r.1]:=by
  unfold net_look at h
  refine fnT 0 Try.func124 Try.ntmps124 ?_
  refine T.seq (T.region (go 3 0 (RS.nil (T.seq (T.join (Z:=Unit) (fun _=>mkA 197 [(1,.ptr 0 0),(36,.bool ((decide (((p0.Nodes).length:Int)<1)) || ((decide (((p0.Nodes).length:Int) > 12)) || ((decide (p0.Rings<0)) || decide (p0.Rings > 16)))))]) (fun _=>[.box (encNet p0)]) (fun _=>True) (fun _ _=>?_) (fun hK=>?_))))))
  ·refine T.ci h rfl (fun hb_4 h=>?_) (fun hb_4 h=>?_)
   ·refine T.seq (T.region (go 2 1 (RS.nil ?_)))
    cases h
    exact tO [(0,172,2)] [1] 1
   refine T.skip (T.seq (T.join (Z:=Unit) (fun _=>mkA 197 [(1,.ptr 0 0),(44,.bool ((decide (p0.Room<1)) || decide (p0.Room > 6)))]) (fun _=>[.box (encNet p0)]) (fun _=>True) (fun _ _=>?_) (fun hK=>?_)))
   ·refine T.ci h rfl (fun hb_6 h=>?_) (fun hb_6 h=>?_)
    ·refine T.seq (T.region (go 2 1 (RS.nil ?_)))
     cases h
     exact tO [(0,172,2)] [1] 1
    refine T.skip (T.seq ?_)
    obtain ⟨x4,hx4,h⟩:=bind_some h
    refine T.region (go 1 1 (sO (o_buildSlice (rows:=List.map encEnds [(⟨(-1),(-1)⟩:Ends)]) (vs:=[.agg [iI (-1),iI (-1)]]) Ty.s168 Ty.z172 rfl rfl rfl rfl rfl rfl (go 2 2 (sO (cO 2 (slices_Repeat_ends_c ([(⟨(-1),(-1)⟩:Ends)]:List Ends) p0.Rings x4 hx4) ⟨rfl,(go 1 3 (RS.nil (T.seq (T.region (go 1 3 ?_)))))⟩))))))
    refine RS.nil (T.seq (T.seq (T.region (go 2 3 (sQ (v_len_sl Ty.s22 rfl (go 1 3 (RS.nil (T.block (T.iter (fun ss_123:Int × Int × (List Ends)=>mkA 197 [(1,.ptr 0 0),(4,.ref 1),(5,iI ss_123.1),(51,sL encNode p0.Nodes),(52,iI ((p0.Nodes).length:Int)),(53,iI ss_123.2.1)]) (fun ss_123=>[.box (encNet p0),aR 172 2 encEnds ss_123.2.2]) h (wk [] [0,2] 3 rfl) (fun ss_123 v_124 h hv_124=>?_)))))))))))
    obtain ⟨s5,s6,s7⟩:=ss_123
    replace h:net_look_l5 p0 s5 s6 s7=some v_124:=h
    try dsimp only
    unfold net_look_l5 at h
    refine T.seq (T.region (go 1 2 (RS.nil (T.seq (T.ci h rfl (fun hb_125 h=>?_) (fun hb_125 h=>?_))))))
    ·refine T.skip (T.seq (T.block (T.seq ?_)))
     obtain ⟨x9,hx9,h⟩:=bind_some h
     refine T.region (go 1 2 (sQ (v_index_sl Ty.s22 (fun _=>rfl) rfl rfl hx9 (go 4 2 (RS.nil (T.seq ?_))))))
     obtain ⟨x11,hx11,h⟩:=bind_some h
     refine T.region (go 2 3 (sO (cF (net_arity_c x9.Kind x11 hx11) ⟨rfl,(go 7 3 (RS.nil (T.seq (T.seq (T.region (go 2 3 (RS.nil ?_)))))))⟩)))
     refine T.ci h rfl (fun hb_126 h=>?_) (fun hb_126 h=>?_)
     ·refine T.seq (T.region (go 2 3 (RS.nil ?_)))
      obtain ⟨w_127,h,hw_127⟩:=map_inr h
      replace h:=h.trans (congrArg some (hv_124 _ hw_127))
      cases h
      exact tO [(0,172,2)] [3] 3
     refine T.skip (T.seq ?_)
     obtain ⟨x12,hx12,h⟩:=bind_some h
     obtain ⟨zt_129,hz,h⟩:=bind_some h
     revert hz h;revert zt_129;intro c14 hz h
     refine T.join (Z:=Unit) (fun _=>mkA 197 [(1,.ptr 0 0),(4,.ref 1),(5,iI s5),(6,iI s6),(7,.ptr 2 0),(51,sL encNode p0.Nodes),(52,iI ((p0.Nodes).length:Int)),(53,iI s6),(80,.bool c14)]) (fun _=>[.box (encNet p0),aR 172 2 encEnds s7,.box (encNode x9)]) (fun _=>True) (fun _ _=>?_) (fun hK=>?_)
     ·refine T.ci h rfl (fun hb_130 h=>?_) (fun hb_130 h=>?_)
      ·refine T.seq (T.region (go 2 3 (RS.nil ?_)))
       obtain ⟨w_131,h,hw_131⟩:=map_inr h
       replace h:=h.trans (congrArg some (hv_124 _ hw_131))
       cases h
       exact tO [(0,172,2)] [3] 3
      refine T.skip (T.seq (T.join (Z:=Unit) (fun _=>mkA 197 [(1,.ptr 0 0),(4,.ref 1),(5,iI s5),(6,iI s6),(7,.ptr 2 0),(51,sL encNode p0.Nodes),(52,iI ((p0.Nodes).length:Int)),(53,iI s6),(118,.bool ((decide (x9.A<0)) || (if (x9.Kind==1)=true then ((decide (x9.A ≥ 4)) || (if (x9.Kind==2)=true then ((decide (x9.A > 3)) || ((x9.Kind != 1) && ((x9.Kind != 2) && x9.A != 0))) else ((x9.Kind != 1) && ((x9.Kind != 2) && x9.A != 0)))) else (if (x9.Kind==2)=true then ((decide (x9.A > 3)) || ((x9.Kind != 1) && ((x9.Kind != 2) && x9.A != 0))) else ((x9.Kind != 1) && ((x9.Kind != 2) && x9.A != 0))))))]) (fun _=>[.box (encNet p0),aR 172 2 encEnds s7,.box (encNode x9)]) (fun _=>True) (fun _ _=>?_) (fun hK=>?_)))
      ·refine T.ci h rfl (fun hb_147 h=>?_) (fun hb_147 h=>?_)
       ·refine T.seq (T.region (go 2 3 (RS.nil ?_)))
        obtain ⟨w_148,h,hw_148⟩:=map_inr h
        replace h:=h.trans (congrArg some (hv_124 _ hw_148))
        cases h
        exact tO [(0,172,2)] [3] 3
       refine T.skip (T.join (Z:=Int) (fun zz_150=>mkA 197 [(1,.ptr 0 0),(4,.ref 1),(5,iI zz_150),(6,iI s6),(7,.ptr 2 0),(51,sL encNode p0.Nodes),(52,iI ((p0.Nodes).length:Int)),(53,iI s6)]) (fun zz_150=>[.box (encNet p0),aR 172 2 encEnds s7,.box (encNode x9)]) (fun zz_150=>net_look_k3 p0 s6 s7 x9 zz_150=some v_124) (fun zz_150 h=>?_) (fun hK3=>?_))
       ·revert h;revert zz_150;intro z15 h
        replace h:net_look_k3 p0 s6 s7 x9 z15=some v_124:=h
        try dsimp only
        unfold net_look_k3 at h
        refine T.seq (T.seq (T.region (go 2 3 (sQ (v_len_sl Ty.s26 rfl (go 1 3 (RS.nil (T.block (T.iter (fun ss_159:Int × (List Ends)=>mkA 197 [(1,.ptr 0 0),(4,.ref 1),(5,iI z15),(6,iI s6),(7,.ptr 2 0),(51,sL encNode p0.Nodes),(52,iI ((p0.Nodes).length:Int)),(53,iI s6),(125,sL encI x9.In),(126,iI ((x9.In).length:Int)),(127,iI ss_159.1)]) (fun ss_159=>[.box (encNet p0),aR 172 2 encEnds ss_159.2,.box (encNode x9)]) h (wk [] [0,1,2] 3 rfl) (fun ss_159 v_160 h hv_160=>?_))))))))))
        obtain ⟨s16,s17⟩:=ss_159
        replace h:net_look_l2 p0 s6 x9 z15 s16 s17=some v_160:=h
        try dsimp only
        unfold net_look_l2 at h
        refine T.seq (T.region (go 1 3 (RS.nil (T.seq (T.ci h rfl (fun hb_161 h=>?_) (fun hb_161 h=>?_))))))
        ·refine T.skip (T.seq (T.block (T.seq ?_)))
         obtain ⟨x19,hx19,h⟩:=bind_some h
         refine T.region (sQ (v_index_sl Ty.s26 (fun _=>rfl) rfl rfl hx19 (go 2 3 (RS.nil (T.seq (T.join (Z:=Unit) (fun _=>mkA 197 [(1,.ptr 0 0),(4,.ref 1),(5,iI z15),(6,iI s6),(7,.ptr 2 0),(12,iI x19),(51,sL encNode p0.Nodes),(52,iI ((p0.Nodes).length:Int)),(53,iI s6),(125,sL encI x9.In),(126,iI ((x9.In).length:Int)),(127,iI s16),(138,.bool ((decide (x19<0)) || decide (x19 ≥ p0.Rings)))]) (fun _=>[.box (encNet p0),aR 172 2 encEnds s17,.box (encNode x9)]) (fun _=>True) (fun _ _=>?_) (fun hK=>?_)))))))
         ·refine T.ci h rfl (fun hb_163 h=>?_) (fun hb_163 h=>?_)
          ·refine T.seq (T.region (go 2 3 (RS.nil ?_)))
           obtain ⟨w_164,h,hw_164⟩:=map_inr h
           replace h:=h.trans (congrArg some (hv_160 _ hw_164))
           obtain ⟨w_165,h,hw_165⟩:=map_inr h
           replace h:=h.trans (congrArg some (hv_124 _ hw_165))
           cases h
           exact tO [(0,172,2)] [3] 3
          refine T.skip (T.seq (T.seq ?_))
          obtain ⟨x23,hx23,h⟩:=bind_some h
          obtain ⟨x24,hx24,h⟩:=bind_some h
          refine T.region (go 2 3 (sQ (v_index_ref' (en:=encEnds) Ty.s168 rfl rfl rfl hx23 (go 1 3 (sO (o_load_aptr' (en:=encEnds) (a:=x24) rfl rfl hx24 (loadRow1 Ty.k3 (c:=iI x24.dst) rfl (go 1 3 (RS.nil (T.ci h rfl (fun hb_166 h=>?_) (fun hb_166 h=>?_)))))))))))
          ·refine T.seq (T.region (go 2 3 (RS.nil ?_)))
           obtain ⟨w_167,h,hw_167⟩:=map_inr h
           replace h:=h.trans (congrArg some (hv_160 _ hw_167))
           obtain ⟨w_168,h,hw_168⟩:=map_inr h
           replace h:=h.trans (congrArg some (hv_124 _ hw_168))
           cases h
           exact tO [(0,172,2)] [3] 3
          refine T.skip ?_
          obtain ⟨x25,hx25,h⟩:=bind_some h
          obtain ⟨x26,hx26,h⟩:=bind_some h
          refine T.region (go 3 3 (sQ (v_index_ref' (en:=encEnds) Ty.s168 rfl rfl rfl hx25 (go 1 3 (sO (o_store_aptr' (en:=encEnds) (a:=x26) (a':=(⟨x26.src,s6⟩:Ends)) Ty.c3 Ty.i3 rfl (vs:=[iI s6]) rfl rfl rfl hx26 rfl rfl rfl (RS.nil (T.region (go 2 3 (RS.nil ?_))))))))))
          exact ⟨(IntKind.i64.wrap (s16+1),(List.set s17 x25 (⟨x26.src,s6⟩:Ends))),(Option.some.inj h).symm,wk [] [0,1,2] 3 rfl⟩
         refine T.region (go 3 3 ?_)
         rcases bool_cases (decide (x19<0)) with hb_162 | hb_162
         ·refine sN hb_162 (sN hb_162 (sN hb_162 (sN hb_162 (sQ (v_pickT (v:=.bool true) rfl hb_162 rfl (RS.nil ?_))))))
          exact T.sub (hK () trivial) ⟨rfl,rfl,rfl,rfl,rfl,rfl,rfl,rfl,rfl,rfl,rfl,rfl,(congrArg AV.bool (by simp only [hb_162,bz,if_true,if_false,Bool.false_eq_true])).symm,trivial⟩
         refine yg 3 hb_162 (yg 3 hb_162 (yg 3 hb_162 (yg 3 hb_162 (sQ (v_pickF (v:=.bool (decide (x19 ≥ p0.Rings))) rfl hb_162 rfl (RS.nil ?_))))))
         exact T.sub (hK () trivial) ⟨rfl,rfl,rfl,rfl,rfl,rfl,rfl,rfl,rfl,rfl,rfl,rfl,(congrArg AV.bool (by simp only [hb_162,bz,if_true,if_false,Bool.false_eq_true])).symm,trivial⟩
        refine T.exit ?_
        obtain ⟨w_169,h,hw_169⟩:=map_inr h
        replace h:=h.trans (congrArg some (hv_160 _ hw_169))
        refine T.seq (T.region (go 2 3 (sQ (v_len_sl Ty.s26 rfl (go 1 3 (RS.nil (T.block (T.iter (fun ss_178:Int × (List Ends)=>mkA 197 [(1,.ptr 0 0),(4,.ref 1),(5,iI z15),(6,iI s6),(51,sL encNode p0.Nodes),(52,iI ((p0.Nodes).length:Int)),(53,iI s6),(152,sL encI x9.Out),(153,iI ((x9.Out).length:Int)),(154,iI ss_178.1)]) (fun ss_178=>[.box (encNet p0),aR 172 2 encEnds ss_178.2]) h (wk [] [0,1] 3 rfl) (fun ss_178 v_179 h hv_179=>?_)))))))))
        obtain ⟨s27,s28⟩:=ss_178
        replace h:net_look_l1 p0 s6 x9 z15 s27 s28=some v_179:=h
        try dsimp only
        unfold net_look_l1 at h
        refine T.seq (T.region (go 1 2 (RS.nil (T.seq (T.ci h rfl (fun hb_180 h=>?_) (fun hb_180 h=>?_))))))
        ·refine T.skip (T.seq (T.block (T.seq ?_)))
         obtain ⟨x30,hx30,h⟩:=bind_some h
         refine T.region (sQ (v_index_sl Ty.s26 (fun _=>rfl) rfl rfl hx30 (go 2 2 (RS.nil (T.seq (T.join (Z:=Unit) (fun _=>mkA 197 [(1,.ptr 0 0),(4,.ref 1),(5,iI z15),(6,iI s6),(14,iI x30),(51,sL encNode p0.Nodes),(52,iI ((p0.Nodes).length:Int)),(53,iI s6),(152,sL encI x9.Out),(153,iI ((x9.Out).length:Int)),(154,iI s27),(165,.bool ((decide (x30<0)) || decide (x30 ≥ p0.Rings)))]) (fun _=>[.box (encNet p0),aR 172 2 encEnds s28]) (fun _=>True) (fun _ _=>?_) (fun hK=>?_)))))))
         ·refine T.ci h rfl (fun hb_182 h=>?_) (fun hb_182 h=>?_)
          ·refine T.seq (T.region (go 2 2 (RS.nil ?_)))
           obtain ⟨w_183,h,hw_183⟩:=map_inr h
           replace h:=h.trans (congrArg some (hv_179 _ hw_183))
           obtain ⟨w_184,h,hw_184⟩:=map_inr h
           replace h:=h.trans (congrArg some (hv_124 _ hw_184))
           cases h
           exact tO [(0,172,2)] [2] 2
          refine T.skip (T.seq (T.seq ?_))
          obtain ⟨x34,hx34,h⟩:=bind_some h
          obtain ⟨x35,hx35,h⟩:=bind_some h
          refine T.region (go 2 2 (sQ (v_index_ref' (en:=encEnds) Ty.s168 rfl rfl rfl hx34 (go 1 2 (sO (o_load_aptr' (en:=encEnds) (a:=x35) rfl rfl hx35 (loadRow1 Ty.k3 (c:=iI x35.src) rfl (go 1 2 (RS.nil (T.ci h rfl (fun hb_185 h=>?_) (fun hb_185 h=>?_)))))))))))
          ·refine T.seq (T.region (go 2 2 (RS.nil ?_)))
           obtain ⟨w_186,h,hw_186⟩:=map_inr h
           replace h:=h.trans (congrArg some (hv_179 _ hw_186))
           obtain ⟨w_187,h,hw_187⟩:=map_inr h
           replace h:=h.trans (congrArg some (hv_124 _ hw_187))
           cases h
           exact tO [(0,172,2)] [2] 2
          refine T.skip ?_
          obtain ⟨x36,hx36,h⟩:=bind_some h
          obtain ⟨x37,hx37,h⟩:=bind_some h
          refine T.region (go 3 2 (sQ (v_index_ref' (en:=encEnds) Ty.s168 rfl rfl rfl hx36 (go 1 2 (sO (o_store_aptr' (en:=encEnds) (a:=x37) (a':=(⟨s6,x37.dst⟩:Ends)) Ty.c3 Ty.i3 rfl (vs:=[iI s6]) rfl rfl rfl hx37 rfl rfl rfl (RS.nil (T.region (go 2 2 (RS.nil ?_))))))))))
          exact ⟨(IntKind.i64.wrap (s27+1),(List.set s28 x36 (⟨s6,x37.dst⟩:Ends))),(Option.some.inj h).symm,wk [] [0,1] 2 rfl⟩
         refine T.region (go 3 2 ?_)
         rcases bool_cases (decide (x30<0)) with hb_181 | hb_181
         ·refine sN hb_181 (sN hb_181 (sN hb_181 (sN hb_181 (sQ (v_pickT (v:=.bool true) rfl hb_181 rfl (RS.nil ?_))))))
          exact T.sub (hK () trivial) ⟨rfl,rfl,rfl,rfl,rfl,rfl,rfl,rfl,rfl,rfl,rfl,(congrArg AV.bool (by simp only [hb_181,bz,if_true,if_false,Bool.false_eq_true])).symm,trivial⟩
         refine yg 2 hb_181 (yg 2 hb_181 (yg 2 hb_181 (yg 2 hb_181 (sQ (v_pickF (v:=.bool (decide (x30 ≥ p0.Rings))) rfl hb_181 rfl (RS.nil ?_))))))
         exact T.sub (hK () trivial) ⟨rfl,rfl,rfl,rfl,rfl,rfl,rfl,rfl,rfl,rfl,rfl,(congrArg AV.bool (by simp only [hb_181,bz,if_true,if_false,Bool.false_eq_true])).symm,trivial⟩
        refine T.exit ?_
        obtain ⟨w_188,h,hw_188⟩:=map_inr h
        replace h:=h.trans (congrArg some (hv_179 _ hw_188))
        refine T.region (go 2 2 (RS.nil ?_))
        exact ⟨(z15,IntKind.i64.wrap (s6+1),s28),(Option.some.inj h).symm,wk [] [0,1] 2 rfl⟩
       refine T.seq (T.region (go 3 3 (RS.nil (T.ci h rfl (fun hb_189 h=>?_) (fun hb_189 h=>?_)))))
       ·refine T.region (go 3 3 (RS.nil ?_))
        exact T.weakR (hK3 (IntKind.i64.wrap (s5+1)) h) (wk [] [0,1,2] 3 rfl)
       refine T.skip ?_
       exact T.su (hK3 s5 h)
      refine T.region (go 4 3 ?_)
      rcases bool_cases (decide (x9.A<0)) with hb_132 | hb_132
      ·refine sN hb_132 (sN hb_132 (sN hb_132 (sN hb_132 (sU (sU (sU (sN hb_132 (sQ (v_pickT (v:=.bool true) rfl hb_132 rfl (go 1 3 ?_))))))))))
       refine sN rfl (sN rfl (sN rfl (sN rfl (sU (sU (sU (sN rfl (sQ (v_pickT (v:=.bool true) rfl rfl rfl (go 1 3 ?_))))))))))
       refine sN rfl (sN rfl (sN rfl (sN rfl (sU (sU (sU (sN rfl (sN rfl (sU ?_)))))))))
       refine sU (sU (sN rfl (sQ (v_pickT (v:=.bool true) rfl rfl rfl (RS.nil ?_)))))
       exact T.sub (hK () trivial) ⟨rfl,rfl,rfl,rfl,rfl,rfl,rfl,rfl,(congrArg AV.bool (by simp only [hb_132,bz,if_true,if_false,Bool.false_eq_true])).symm,trivial⟩
      refine yg 3 hb_132 (yg 3 hb_132 (yg 3 hb_132 (yg 3 hb_132 ?_)))
      rcases bool_cases (x9.Kind==1) with hb_133 | hb_133
      ·refine yg 3 hb_133 (yg 3 hb_133 (yg 3 hb_133 (yQ hb_132 (v_pickT (v:=.bool (decide (x9.A ≥ 4))) rfl hb_133 rfl (sQ (v_pickF (v:=.bool (decide (x9.A ≥ 4))) rfl hb_132 rfl (go 1 3 ?_)))))))
       rcases bool_cases (decide (x9.A ≥ 4)) with hb_134 | hb_134
       ·refine sN hb_134 (sN hb_134 (sN hb_134 (sN hb_134 (sU (sU (sU (sN hb_134 (sQ (v_pickT (v:=.bool true) rfl hb_134 rfl (go 1 3 ?_))))))))))
        refine sN rfl (sN rfl (sN rfl (sN rfl (sU (sU (sU (sN rfl (sN rfl (sU ?_)))))))))
        refine sU (sU (sN rfl (sQ (v_pickT (v:=.bool true) rfl rfl rfl (RS.nil ?_)))))
        exact T.sub (hK () trivial) ⟨rfl,rfl,rfl,rfl,rfl,rfl,rfl,rfl,(congrArg AV.bool (by simp only [hb_132,hb_133,hb_134,bz,if_true,if_false,Bool.false_eq_true])).symm,trivial⟩
       refine yg 3 hb_134 (yg 3 hb_134 (yg 3 hb_134 (yg 3 hb_134 ?_)))
       rcases bool_cases (x9.Kind==2) with hb_135 | hb_135
       ·refine yg 3 hb_135 (yg 3 hb_135 (yg 3 hb_135 (yQ hb_134 (v_pickT (v:=.bool (decide (x9.A > 3))) rfl hb_135 rfl (sQ (v_pickF (v:=.bool (decide (x9.A > 3))) rfl hb_134 rfl (go 1 3 ?_)))))))
        rcases bool_cases (decide (x9.A > 3)) with hb_136 | hb_136
        ·refine sN hb_136 (sN hb_136 (sN hb_136 (sN hb_136 (sU (sU (sU (sN hb_136 (sN hb_136 (sU ?_)))))))))
         refine sU (sU (sN hb_136 (sQ (v_pickT (v:=.bool true) rfl hb_136 rfl (RS.nil ?_)))))
         exact T.sub (hK () trivial) ⟨rfl,rfl,rfl,rfl,rfl,rfl,rfl,rfl,(congrArg AV.bool (by simp only [hb_132,hb_133,hb_134,hb_135,hb_136,bz,if_true,if_false,Bool.false_eq_true])).symm,trivial⟩
        refine yg 3 hb_136 (yg 3 hb_136 (yg 3 hb_136 (yg 3 hb_136 ?_)))
        rcases bool_cases (x9.Kind != 1) with hb_137 | hb_137
        ·refine yg 3 hb_137 (yg 3 hb_137 (yg 3 hb_137 (yQ hb_136 (v_pickT (v:=.bool (x9.Kind != 2)) rfl hb_137 rfl (yg 3 hb_136 ?_)))))
         rcases bool_cases (x9.Kind != 2) with hb_138 | hb_138
         ·refine yg 3 hb_138 (yg 3 hb_138 (yg 3 hb_138 (yQ hb_136 (v_pickT (v:=.bool (x9.A != 0)) rfl hb_138 rfl (sQ (v_pickF (v:=.bool (x9.A != 0)) rfl hb_136 rfl (RS.nil ?_)))))))
          exact T.sub (hK () trivial) ⟨rfl,rfl,rfl,rfl,rfl,rfl,rfl,rfl,(congrArg AV.bool (by simp only [hb_132,hb_133,hb_134,hb_135,hb_136,hb_137,hb_138,bz,if_true,if_false,Bool.false_eq_true])).symm,trivial⟩
         refine sN hb_138 (sN hb_138 (sN hb_138 (yQ hb_136 (v_pickF (v:=.bool false) rfl hb_138 rfl (sQ (v_pickF (v:=.bool false) rfl hb_136 rfl (RS.nil ?_)))))))
         exact T.sub (hK () trivial) ⟨rfl,rfl,rfl,rfl,rfl,rfl,rfl,rfl,(congrArg AV.bool (by simp only [hb_132,hb_133,hb_134,hb_135,hb_136,hb_137,hb_138,bz,if_true,if_false,Bool.false_eq_true])).symm,trivial⟩
        refine sN hb_137 (sN hb_137 (sN hb_137 (yQ hb_136 (v_pickF (v:=.bool false) rfl hb_137 rfl (yg 3 hb_136 (sN rfl (sN rfl (sN rfl (yQ hb_136 (v_pickF (v:=.bool false) rfl rfl rfl (sQ (v_pickF (v:=.bool false) rfl hb_136 rfl ?_))))))))))))
        refine RS.nil ?_
        exact T.sub (hK () trivial) ⟨rfl,rfl,rfl,rfl,rfl,rfl,rfl,rfl,(congrArg AV.bool (by simp only [hb_132,hb_133,hb_134,hb_135,hb_136,hb_137,bz,if_true,if_false,Bool.false_eq_true])).symm,trivial⟩
       refine sN hb_135 (sN hb_135 (sN hb_135 (yQ hb_134 (v_pickF (v:=.bool false) rfl hb_135 rfl (sQ (v_pickF (v:=.bool false) rfl hb_134 rfl (go 1 3 (yg 3 rfl (yg 3 rfl (yg 3 rfl (yg 3 rfl ?_)))))))))))
       rcases bool_cases (x9.Kind != 1) with hb_139 | hb_139
       ·refine yg 3 hb_139 (yg 3 hb_139 (yg 3 hb_139 (yQ rfl (v_pickT (v:=.bool (x9.Kind != 2)) rfl hb_139 rfl (yg 3 rfl ?_)))))
        rcases bool_cases (x9.Kind != 2) with hb_140 | hb_140
        ·refine yg 3 hb_140 (yg 3 hb_140 (yg 3 hb_140 (yQ rfl (v_pickT (v:=.bool (x9.A != 0)) rfl hb_140 rfl (sQ (v_pickF (v:=.bool (x9.A != 0)) rfl rfl rfl (RS.nil ?_)))))))
         exact T.sub (hK () trivial) ⟨rfl,rfl,rfl,rfl,rfl,rfl,rfl,rfl,(congrArg AV.bool (by simp only [hb_132,hb_133,hb_134,hb_135,hb_139,hb_140,bz,if_true,if_false,Bool.false_eq_true])).symm,trivial⟩
        refine sN hb_140 (sN hb_140 (sN hb_140 (yQ rfl (v_pickF (v:=.bool false) rfl hb_140 rfl (sQ (v_pickF (v:=.bool false) rfl rfl rfl (RS.nil ?_)))))))
        exact T.sub (hK () trivial) ⟨rfl,rfl,rfl,rfl,rfl,rfl,rfl,rfl,(congrArg AV.bool (by simp only [hb_132,hb_133,hb_134,hb_135,hb_139,hb_140,bz,if_true,if_false,Bool.false_eq_true])).symm,trivial⟩
       refine sN hb_139 (sN hb_139 (sN hb_139 (yQ rfl (v_pickF (v:=.bool false) rfl hb_139 rfl (yg 3 rfl (sN rfl (sN rfl (sN rfl (yQ rfl (v_pickF (v:=.bool false) rfl rfl rfl (sQ (v_pickF (v:=.bool false) rfl rfl rfl ?_))))))))))))
       refine RS.nil ?_
       exact T.sub (hK () trivial) ⟨rfl,rfl,rfl,rfl,rfl,rfl,rfl,rfl,(congrArg AV.bool (by simp only [hb_132,hb_133,hb_134,hb_135,hb_139,bz,if_true,if_false,Bool.false_eq_true])).symm,trivial⟩
      refine sN hb_133 (sN hb_133 (sN hb_133 (yQ hb_132 (v_pickF (v:=.bool false) rfl hb_133 rfl (sQ (v_pickF (v:=.bool false) rfl hb_132 rfl (go 1 3 (yg 3 rfl (yg 3 rfl (yg 3 rfl (yg 3 rfl ?_)))))))))))
      rcases bool_cases (x9.Kind==2) with hb_141 | hb_141
      ·refine yg 3 hb_141 (yg 3 hb_141 (yg 3 hb_141 (yQ rfl (v_pickT (v:=.bool (decide (x9.A > 3))) rfl hb_141 rfl (sQ (v_pickF (v:=.bool (decide (x9.A > 3))) rfl rfl rfl (go 1 3 ?_)))))))
       rcases bool_cases (decide (x9.A > 3)) with hb_142 | hb_142
       ·refine sN hb_142 (sN hb_142 (sN hb_142 (sN hb_142 (sU (sU (sU (sN hb_142 (sN hb_142 (sU ?_)))))))))
        refine sU (sU (sN hb_142 (sQ (v_pickT (v:=.bool true) rfl hb_142 rfl (RS.nil ?_)))))
        exact T.sub (hK () trivial) ⟨rfl,rfl,rfl,rfl,rfl,rfl,rfl,rfl,(congrArg AV.bool (by simp only [hb_132,hb_133,hb_141,hb_142,bz,if_true,if_false,Bool.false_eq_true])).symm,trivial⟩
       refine yg 3 hb_142 (yg 3 hb_142 (yg 3 hb_142 (yg 3 hb_142 ?_)))
       rcases bool_cases (x9.Kind != 1) with hb_143 | hb_143
       ·refine yg 3 hb_143 (yg 3 hb_143 (yg 3 hb_143 (yQ hb_142 (v_pickT (v:=.bool (x9.Kind != 2)) rfl hb_143 rfl (yg 3 hb_142 ?_)))))
        rcases bool_cases (x9.Kind != 2) with hb_144 | hb_144
        ·refine yg 3 hb_144 (yg 3 hb_144 (yg 3 hb_144 (yQ hb_142 (v_pickT (v:=.bool (x9.A != 0)) rfl hb_144 rfl (sQ (v_pickF (v:=.bool (x9.A != 0)) rfl hb_142 rfl (RS.nil ?_)))))))
         exact T.sub (hK () trivial) ⟨rfl,rfl,rfl,rfl,rfl,rfl,rfl,rfl,(congrArg AV.bool (by simp only [hb_132,hb_133,hb_141,hb_142,hb_143,hb_144,bz,if_true,if_false,Bool.false_eq_true])).symm,trivial⟩
        refine sN hb_144 (sN hb_144 (sN hb_144 (yQ hb_142 (v_pickF (v:=.bool false) rfl hb_144 rfl (sQ (v_pickF (v:=.bool false) rfl hb_142 rfl (RS.nil ?_)))))))
        exact T.sub (hK () trivial) ⟨rfl,rfl,rfl,rfl,rfl,rfl,rfl,rfl,(congrArg AV.bool (by simp only [hb_132,hb_133,hb_141,hb_142,hb_143,hb_144,bz,if_true,if_false,Bool.false_eq_true])).symm,trivial⟩
       refine sN hb_143 (sN hb_143 (sN hb_143 (yQ hb_142 (v_pickF (v:=.bool false) rfl hb_143 rfl (yg 3 hb_142 (sN rfl (sN rfl (sN rfl (yQ hb_142 (v_pickF (v:=.bool false) rfl rfl rfl (sQ (v_pickF (v:=.bool false) rfl hb_142 rfl ?_))))))))))))
       refine RS.nil ?_
       exact T.sub (hK () trivial) ⟨rfl,rfl,rfl,rfl,rfl,rfl,rfl,rfl,(congrArg AV.bool (by simp only [hb_132,hb_133,hb_141,hb_142,hb_143,bz,if_true,if_false,Bool.false_eq_true])).symm,trivial⟩
      refine sN hb_141 (sN hb_141 (sN hb_141 (yQ rfl (v_pickF (v:=.bool false) rfl hb_141 rfl (sQ (v_pickF (v:=.bool false) rfl rfl rfl (go 1 3 (yg 3 rfl (yg 3 rfl (yg 3 rfl (yg 3 rfl ?_)))))))))))
      rcases bool_cases (x9.Kind != 1) with hb_145 | hb_145
      ·refine yg 3 hb_145 (yg 3 hb_145 (yg 3 hb_145 (yQ rfl (v_pickT (v:=.bool (x9.Kind != 2)) rfl hb_145 rfl (yg 3 rfl ?_)))))
       rcases bool_cases (x9.Kind != 2) with hb_146 | hb_146
       ·refine yg 3 hb_146 (yg 3 hb_146 (yg 3 hb_146 (yQ rfl (v_pickT (v:=.bool (x9.A != 0)) rfl hb_146 rfl (sQ (v_pickF (v:=.bool (x9.A != 0)) rfl rfl rfl (RS.nil ?_)))))))
        exact T.sub (hK () trivial) ⟨rfl,rfl,rfl,rfl,rfl,rfl,rfl,rfl,(congrArg AV.bool (by simp only [hb_132,hb_133,hb_141,hb_145,hb_146,bz,if_true,if_false,Bool.false_eq_true])).symm,trivial⟩
       refine sN hb_146 (sN hb_146 (sN hb_146 (yQ rfl (v_pickF (v:=.bool false) rfl hb_146 rfl (sQ (v_pickF (v:=.bool false) rfl rfl rfl (RS.nil ?_)))))))
       exact T.sub (hK () trivial) ⟨rfl,rfl,rfl,rfl,rfl,rfl,rfl,rfl,(congrArg AV.bool (by simp only [hb_132,hb_133,hb_141,hb_145,hb_146,bz,if_true,if_false,Bool.false_eq_true])).symm,trivial⟩
      refine sN hb_145 (sN hb_145 (sN hb_145 (yQ rfl (v_pickF (v:=.bool false) rfl hb_145 rfl (yg 3 rfl (sN rfl (sN rfl (sN rfl (yQ rfl (v_pickF (v:=.bool false) rfl rfl rfl (sQ (v_pickF (v:=.bool false) rfl rfl rfl ?_))))))))))))
      refine RS.nil ?_
      exact T.sub (hK () trivial) ⟨rfl,rfl,rfl,rfl,rfl,rfl,rfl,rfl,(congrArg AV.bool (by simp only [hb_132,hb_133,hb_141,hb_145,bz,if_true,if_false,Bool.false_eq_true])).symm,trivial⟩
     refine T.region (go 2 3 (sQ (v_len_sl Ty.s26 rfl (go 1 3 (sO (cF (net_fits_c ((x9.In).length:Int) x11.1 x12 hx12) ⟨rfl,(go 2 3 ?_)⟩))))))
     rcases bool_cases (!x12) with hb_128 | hb_128
     ·replace hz:=ite_T hz hb_128
      refine sN hb_128 (sN hb_128 (sN hb_128 (sN hb_128 (sN hb_128 (sN hb_128 (sQ (v_pickT (v:=.bool true) rfl hb_128 rfl (RS.nil ?_))))))))
      exact T.sub (hK () trivial) ⟨rfl,rfl,rfl,rfl,rfl,rfl,rfl,rfl,(congrArg AV.bool ((congrArg (fun p=>p) (Option.some.inj hz)).symm)).symm,trivial⟩
     replace hz:=ite_F hz hb_128
     obtain ⟨x13,hx13,hz⟩:=bind_some hz
     refine yg 3 hb_128 (yg 3 hb_128 (yQ hb_128 (v_len_sl Ty.s26 rfl (yg 3 hb_128 (yO hb_128 (cF (net_fits_c ((x9.Out).length:Int) x11.2.1 x13 hx13) ⟨rfl,(yg 3 hb_128 (sQ (v_pickF (v:=.bool (!x13)) rfl hb_128 rfl (RS.nil ?_))))⟩))))))
     exact T.sub (hK () trivial) ⟨rfl,rfl,rfl,rfl,rfl,rfl,rfl,rfl,(congrArg AV.bool ((congrArg (fun p=>p) (Option.some.inj hz)).symm)).symm,trivial⟩
    refine T.exit ?_
    obtain ⟨w_190,h,hw_190⟩:=map_inr h
    replace h:=h.trans (congrArg some (hv_124 _ hw_190))
    refine T.seq (T.seq (T.region (go 1 2 (sQ (v_len_ref (en:=encEnds) Ty.s168 rfl rfl (go 1 2 (RS.nil (T.block (T.iter (fun ss_197:Int=>mkA 197 [(4,.ref 0),(5,iI s5),(179,.ref 0),(180,iI ((s7).length:Int)),(181,iI ss_197)]) (fun ss_197=>[aR 172 2 encEnds s7]) h (wk [] [1] 2 rfl) (fun ss_197 v_198 h hv_198=>?_))))))))))
    revert hv_198 h;revert ss_197;intro s38 h hv_198
    replace h:net_look_l4 s5 s7 s38=some v_198:=h
    try dsimp only
    unfold net_look_l4 at h
    refine T.seq (T.region (go 1 1 (RS.nil (T.seq (T.ci h rfl (fun hb_199 h=>?_) (fun hb_199 h=>?_))))))
    ·refine T.skip (T.seq (T.block (T.seq ?_)))
     obtain ⟨x41,hx41,h⟩:=bind_some h
     obtain ⟨x42,hx42,h⟩:=bind_some h
     refine T.region (sQ (v_index_ref' (en:=encEnds) Ty.s168 rfl rfl rfl hx41 (sO (o_load_aptr' (en:=encEnds) (a:=x42) rfl rfl hx42 (loadRowA Ty.k172 Ty.c172 rfl (cs:=(encEnds x42)) rfl (go 2 1 (RS.nil (T.join (Z:=Unit) (fun _=>mkA 197 [(4,.ref 0),(5,iI s5),(179,.ref 0),(180,iI ((s7).length:Int)),(181,iI s38),(192,.bool ((decide (x42.src<0)) || decide (x42.dst<0)))]) (fun _=>[aR 172 2 encEnds s7]) (fun _=>True) (fun _ _=>?_) (fun hK=>?_)))))))))
     ·refine T.ci h rfl (fun hb_201 h=>?_) (fun hb_201 h=>?_)
      ·refine T.seq (T.region (go 2 1 (RS.nil ?_)))
       obtain ⟨w_202,h,hw_202⟩:=map_inr h
       replace h:=h.trans (congrArg some (hv_198 _ hw_202))
       cases h
       exact tO [(0,172,2)] [1] 1
      refine T.skip (T.region (go 2 1 (RS.nil ?_)))
      exact ⟨IntKind.i64.wrap (s38+1),(Option.some.inj h).symm,wk [] [0] 1 rfl⟩
     refine T.region (go 4 2 ?_)
     rcases bool_cases (decide (x42.src<0)) with hb_200 | hb_200
     ·refine sN hb_200 (sN hb_200 (sN hb_200 (sQ (v_pickT (v:=.bool true) rfl hb_200 rfl (RS.nil ?_)))))
      exact T.weakR (hK () trivial) (Weak.mkN [] [0] (by decide) (none_kept _) rfl ⟨rn_ref rfl,rn_int rfl,rn_ref rfl,rn_int rfl,rn_int rfl,rn_bool (by simp only [hb_200,bz,if_true,if_false,Bool.false_eq_true]),trivial⟩ (rw_ar rfl rfl (rw_nil)))
     refine yg 2 hb_200 (yg 2 hb_200 (yg 2 hb_200 (sQ (v_pickF (v:=.bool (decide (x42.dst<0))) rfl hb_200 rfl (RS.nil ?_)))))
     exact T.weakR (hK () trivial) (Weak.mkN [] [0] (by decide) (none_kept _) rfl ⟨rn_ref rfl,rn_int rfl,rn_ref rfl,rn_int rfl,rn_int rfl,rn_bool (by simp only [hb_200,bz,if_true,if_false,Bool.false_eq_true]),trivial⟩ (rw_ar rfl rfl (rw_nil)))
    refine T.exit ?_
    obtain ⟨w_203,h,hw_203⟩:=map_inr h
    replace h:=h.trans (congrArg some (hv_198 _ hw_203))
    refine T.seq (T.seq (T.region (go 2 1 (RS.nil (T.ci h rfl (fun hb_204 h=>?_) (fun hb_204 h=>?_))))))
    ·refine T.seq (T.region (go 2 1 (RS.nil ?_)))
     cases h
     exact tO [(0,172,2)] [1] 1
    refine T.skip (T.seq (T.region (go 3 1 (RS.nil ?_))))
    cases h
    exact tO [] [0] 1
   refine T.region (go 4 1 ?_)
   rcases bool_cases (decide (p0.Room<1)) with hb_5 | hb_5
   ·refine sN hb_5 (sN hb_5 (sN hb_5 (sQ (v_pickT (v:=.bool true) rfl hb_5 rfl (RS.nil ?_)))))
    exact T.sub (hK () trivial) ⟨rfl,(congrArg AV.bool (by simp only [hb_5,bz,if_true,if_false,Bool.false_eq_true])).symm,trivial⟩
   refine yg 1 hb_5 (yg 1 hb_5 (yg 1 hb_5 (sQ (v_pickF (v:=.bool (decide (p0.Room > 6))) rfl hb_5 rfl (RS.nil ?_)))))
   exact T.sub (hK () trivial) ⟨rfl,(congrArg AV.bool (by simp only [hb_5,bz,if_true,if_false,Bool.false_eq_true])).symm,trivial⟩
  refine T.region (go 2 1 (sQ (v_len_sl Ty.s22 rfl (go 2 1 ?_))))
  rcases bool_cases (decide (((p0.Nodes).length:Int)<1)) with hb_1 | hb_1
  ·refine sN hb_1 (sN hb_1 (sN hb_1 (sN hb_1 (sQ (v_pickT (v:=.bool true) rfl hb_1 rfl (go 1 1 (sN rfl (sN rfl (sN rfl (sQ (v_pickT (v:=.bool true) rfl rfl rfl ?_)))))))))))
   refine go 1 1 (sN rfl (sN rfl (sN rfl (sQ (v_pickT (v:=.bool true) rfl rfl rfl (RS.nil ?_))))))
   exact T.sub (hK () trivial) ⟨rfl,(congrArg AV.bool (by simp only [hb_1,bz,if_true,if_false,Bool.false_eq_true])).symm,trivial⟩
  refine yg 1 hb_1 (yg 1 hb_1 (yQ hb_1 (v_len_sl Ty.s22 rfl (yg 1 hb_1 (sQ (v_pickF (v:=.bool (decide (((p0.Nodes).length:Int) > 12))) rfl hb_1 rfl (go 1 1 ?_)))))))
  rcases bool_cases (decide (((p0.Nodes).length:Int) > 12)) with hb_2 | hb_2
  ·refine sN hb_2 (sN hb_2 (sN hb_2 (sQ (v_pickT (v:=.bool true) rfl hb_2 rfl (go 1 1 (sN rfl (sN rfl (sN rfl (sQ (v_pickT (v:=.bool true) rfl rfl rfl (RS.nil ?_)))))))))))
   exact T.sub (hK () trivial) ⟨rfl,(congrArg AV.bool (by simp only [hb_1,hb_2,bz,if_true,if_false,Bool.false_eq_true])).symm,trivial⟩
  refine yg 1 hb_2 (yg 1 hb_2 (yg 1 hb_2 (sQ (v_pickF (v:=.bool (decide (p0.Rings<0))) rfl hb_2 rfl (go 1 1 ?_)))))
  rcases bool_cases (decide (p0.Rings<0)) with hb_3 | hb_3
  ·refine sN hb_3 (sN hb_3 (sN hb_3 (sQ (v_pickT (v:=.bool true) rfl hb_3 rfl (RS.nil ?_)))))
   exact T.sub (hK () trivial) ⟨rfl,(congrArg AV.bool (by simp only [hb_1,hb_2,hb_3,bz,if_true,if_false,Bool.false_eq_true])).symm,trivial⟩
  refine yg 1 hb_3 (yg 1 hb_3 (yg 1 hb_3 (sQ (v_pickF (v:=.bool (decide (p0.Rings > 16))) rfl hb_3 rfl (RS.nil ?_)))))
  exact T.sub (hK () trivial) ⟨rfl,(congrArg AV.bool (by simp only [hb_1,hb_2,hb_3,bz,if_true,if_false,Bool.false_eq_true])).symm,trivial⟩
theorem net_Order_1_x523f_c (p0:Int) (p1:List Bool) (p2:List Ends) (r:Bool) (h:net_Order_1_x523f p0 p1 p2=some r):FnX Try.prog 125 [iI p0,.ptr 0 0,.ptr 1 0] [.box [.ref 2],.box [.ref 3],aR 4 1 encB p1,aR 172 2 encEnds p2] (.bool r) [.box [.ref 2],.box [.ref 3],aR 4 1 encB p1,aR 172 2 encEnds p2]:=by
  unfold net_Order_1_x523f at h
  refine fnT 4 Try.func125 Try.ntmps125 ?_
  refine T.seq (T.region (go 1 4 (RS.nil (T.seq ?_))))
  obtain ⟨x5,hx5,h⟩:=bind_some h
  obtain ⟨x6,hx6,h⟩:=bind_some h
  obtain ⟨x7,hx7,h⟩:=bind_some h
  obtain ⟨x8,hx8,h⟩:=bind_some h
  refine T.drawn mixed (k:=10) rfl (rq [2] 9 (rL [1,3,4,5,6,7,8,9] 1 rfl (r0 3 rfl (v_index_ref' (en:=encEnds) Ty.s168 rfl rfl rfl hx5 (rq [4] 6 (rL [0,6,7,8,9] 0 rfl (ra1 5 (oO rfl (o_load_aptr' (en:=encEnds) (a:=x6) rfl rfl hx6 (loadRow1 Ty.k3 (c:=iI x6.src) rfl (r0 6 rfl (v_index_ref' (en:=encB) Ty.s132 rfl rfl rfl hx7 (ra1 7 ?_)))))))))))))
  refine oO rfl (o_load_aptr' (en:=encB) (a:=x8) rfl rfl hx8 (loadRow1 Ty.k4 (c:=.bool x8) rfl (rq [8,9] 0 (RA.done (by decide +kernel) ?_))))
  cases h
  exact tN [0,1,2,3]
theorem slices_IndexFunc_int_x5d6b_c (p0:List Int) (p1:List Bool) (p2:List Ends) (r:Int) (h:slices_IndexFunc_int_x5d6b p0 p1 p2=some r):FnX Try.prog 122 [sL encI p0,.func 125 [.ptr 0 0,.ptr 1 0]] [.box [.ref 2],.box [.ref 3],aR 4 1 encB p1,aR 172 2 encEnds p2] (iI r) [.box [.ref 2],.box [.ref 3],aR 4 1 encB p1,aR 172 2 encEnds p2]:=by
  unfold slices_IndexFunc_int_x5d6b at h
  refine fnT 4 Try.func122 Try.ntmps122 ?_
  refine T.seq (T.region (go 1 4 (RS.nil (T.seq (T.seq (T.region (go 1 4 (sQ (v_len_sl Ty.s26 rfl (go 1 4 ?_))))))))))
  refine RS.nil (T.block (T.iter (fun ss_5:Int=>mkA 19 [(0,sL encI p0),(1,.func 125 [.ptr 0 0,.ptr 1 0]),(7,iI ((p0).length:Int)),(8,iI ss_5)]) (fun ss_5=>[.box [.ref 2],.box [.ref 3],aR 4 1 encB p1,aR 172 2 encEnds p2]) h (wk [] [0,1,2,3] 4 rfl) (fun ss_5 v_6 h hv_6=>?_)))
  revert hv_6 h;revert ss_5;intro s1 h hv_6
  replace h:slices_IndexFunc_int_x5d6b_l1 p0 p1 p2 s1=some v_6:=h
  try dsimp only
  unfold slices_IndexFunc_int_x5d6b_l1 at h
  refine T.seq (T.region (go 1 4 (RS.nil (T.seq (T.ci h rfl (fun hb_7 h=>?_) (fun hb_7 h=>?_))))))
  ·refine T.skip (T.seq (T.block (T.seq (T.region (go 2 4 (RS.nil (T.seq ?_)))))))
   obtain ⟨x4,hx4,h⟩:=bind_some h
   obtain ⟨x5,hx5,h⟩:=bind_some h
   refine T.region (go 3 4 (sQ (v_index_sl Ty.s26 (fun _=>rfl) rfl rfl hx4 (go 1 4 (sO (o_callF (ac:=[iI x4,.ptr 0 0,.ptr 1 0]) (as0:=[iI x4,.ptr 0 0,.ptr 1 0]) (aw0:=[.box [.ref 2],.box [.ref 3],aR 4 1 encB p1,aR 172 2 encEnds p2]) (aw1:=[.box [.ref 2],.box [.ref 3],aR 4 1 encB p1,aR 172 2 encEnds p2]) (aw2:=[.box [.ref 2],.box [.ref 3],aR 4 1 encB p1,aR 172 2 encEnds p2]) (v:=.bool x5) (v':=.bool x5) (n0:=4) (n1:=4) [0,1,2,3] rfl rfl rfl rfl (by decide) (rw_box (cs:=[.ref 2]) (ds:=[.ref 2]) rfl ⟨rn_ref rfl,trivial⟩ (rw_box (cs:=[.ref 3]) (ds:=[.ref 3]) rfl ⟨rn_ref rfl,trivial⟩ (rw_arr rfl encB_p rfl (rw_arr rfl encEnds_p rfl (rw_nil))))) ⟨rn_int rfl,rn_ptr rfl,rn_ptr rfl,trivial⟩ (net_Order_1_x523f_c x4 p1 p2 x5 hx5) rfl (rm_pure (pure_bool _)) ⟨.inl ⟨0,_,by decide,rfl,rom_box (cs:=[.ref 2]) (ds:=[.ref 2]) ⟨rm_ref (by decide),trivial⟩⟩,.inl ⟨1,_,by decide,rfl,rom_box (cs:=[.ref 3]) (ds:=[.ref 3]) ⟨rm_ref (by decide),trivial⟩⟩,.inl ⟨2,_,by decide,rfl,rom_arr encB_p⟩,.inl ⟨3,_,by decide,rfl,rom_arr encEnds_p⟩,trivial⟩ (RS.nil (T.ci h rfl (fun hb_8 h=>?_) (fun hb_8 h=>?_)))))))))
   ·refine T.seq (T.region (go 2 4 (RS.nil ?_)))
    obtain ⟨w_9,h,hw_9⟩:=map_inr h
    replace h:=h.trans (congrArg some (hv_6 _ hw_9))
    cases h
    exact tN [0,1,2,3]
   refine T.skip (T.region (go 2 4 (RS.nil ?_)))
   exact ⟨IntKind.i64.wrap (s1+1),(Option.some.inj h).symm,wk [] [0,1,2,3] 4 rfl⟩
  refine T.exit ?_
  obtain ⟨w_10,h,hw_10⟩:=map_inr h
  replace h:=h.trans (congrArg some (hv_6 _ hw_10))
  refine T.seq (T.region (go 1 4 (RS.nil ?_)))
  cases h
  exact tN [0,1,2,3]
theorem slices_ContainsFunc_int_x5d6b_c (p0:List Int) (p1:List Bool) (p2:List Ends) (r:Bool) (h:slices_ContainsFunc_int_x5d6b p0 p1 p2=some r):FnX Try.prog 95 [sL encI p0,.func 125 [.ptr 0 0,.ptr 1 0]] [.box [.ref 2],.box [.ref 3],aR 4 1 encB p1,aR 172 2 encEnds p2] (.bool r) [.box [.ref 2],.box [.ref 3],aR 4 1 encB p1,aR 172 2 encEnds p2]:=by
  unfold slices_ContainsFunc_int_x5d6b at h
  refine fnT 4 Try.func95 Try.ntmps95 ?_
  refine T.seq (T.region (go 1 4 (RS.nil (T.seq ?_))))
  obtain ⟨x2,hx2,h⟩:=bind_some h
  refine T.region (go 2 4 (sO (o_callF (ac:=[sL encI p0,.func 125 [.ptr 0 0,.ptr 1 0]]) (as0:=[sL encI p0,.func 125 [.ptr 0 0,.ptr 1 0]]) (aw0:=[.box [.ref 2],.box [.ref 3],aR 4 1 encB p1,aR 172 2 encEnds p2]) (aw1:=[.box [.ref 2],.box [.ref 3],aR 4 1 encB p1,aR 172 2 encEnds p2]) (aw2:=[.box [.ref 2],.box [.ref 3],aR 4 1 encB p1,aR 172 2 encEnds p2]) (v:=iI x2) (v':=iI x2) (n0:=4) (n1:=4) [0,1,2,3] rfl rfl rfl rfl (by decide) (rw_box (cs:=[.ref 2]) (ds:=[.ref 2]) rfl ⟨rn_ref rfl,trivial⟩ (rw_box (cs:=[.ref 3]) (ds:=[.ref 3]) rfl ⟨rn_ref rfl,trivial⟩ (rw_arr rfl encB_p rfl (rw_arr rfl encEnds_p rfl (rw_nil))))) ⟨rn_s rfl,rn_func ⟨rn_ptr rfl,rn_ptr rfl,trivial⟩,trivial⟩ (slices_IndexFunc_int_x5d6b_c p0 p1 p2 x2 hx2) rfl (rm_pure (pure_int _ _)) ⟨.inl ⟨0,_,by decide,rfl,rom_box (cs:=[.ref 2]) (ds:=[.ref 2]) ⟨rm_ref (by decide),trivial⟩⟩,.inl ⟨1,_,by decide,rfl,rom_box (cs:=[.ref 3]) (ds:=[.ref 3]) ⟨rm_ref (by decide),trivial⟩⟩,.inl ⟨2,_,by decide,rfl,rom_arr encB_p⟩,.inl ⟨3,_,by decide,rfl,rom_arr encEnds_p⟩,trivial⟩ (go 2 4 (RS.nil ?_)))))
  cases h
  exact tN [0,1,2,3]
theorem net_Order_c (p0:Net) (r:(List Int) × Int) (h:net_Order p0=some r):FnO Try.prog 105 [.agg (encNet p0)] (.tup [.ref 0,iI r.2]) [aR 3 1 encI r.1]:=by
  unfold net_Order at h
  refine fnT 0 Try.func105 Try.ntmps105 ?_
  refine T.seq (T.region (go 3 0 (RS.nil (T.seq ?_))))
  obtain ⟨x2,hx2,h⟩:=bind_some h
  refine T.region (go 1 1 (sO (cO 1 (net_look_c p0 x2 hx2) ⟨rfl,(go 6 2 (RS.nil (T.seq (T.seq (T.region (go 2 3 (RS.nil ?_)))))))⟩)))
  refine T.ci h rfl (fun hb_1 h=>?_) (fun hb_1 h=>?_)
  ·refine T.seq (T.region (go 3 3 (RS.nil ?_)))
   cases h
   exact tO [(0,3,1)] [3] 3
  refine T.skip (T.seq (T.region (go 1 3 (RS.nil (T.seq ?_)))))
  obtain ⟨x4,hx4,h⟩:=bind_some h
  refine T.region (go 2 3 (sQ (v_len_sl Ty.s22 rfl (sO (o_mk (en:=encB) (zr:=false) Ty.s132 Ty.z4 rfl rfl hx4 rfl rfl (go 2 4 (RS.nil (T.seq (T.block (T.iter (fun ss_72:(List Int) × (List Bool)=>mkA 61 [(1,.ptr 0 0),(4,.ptr 1 0),(6,.ref 2),(7,.ptr 3 0)]) (fun ss_72=>[.box (encNet p0),.box [.ref 4],aR 3 1 encI ss_72.1,.box [.ref 5],aR 172 2 encEnds x2.1,aR 4 1 encB ss_72.2]) h (wk [(6,3,1)] [0,2,5,4,1,3] 5 rfl) (fun ss_72 v_73 h hv_73=>?_)))))))))))
  obtain ⟨s5,s6⟩:=ss_72
  replace h:net_Order_l3 p0 x2 s5 s6=some v_73:=h
  try dsimp only
  unfold net_Order_l3 at h
  refine T.seq (T.seq (T.region (go 1 6 (sQ (v_len_ref (en:=encI) Ty.s26 rfl rfl (go 2 6 (sQ (v_len_sl Ty.s22 rfl (go 1 6 (RS.nil (T.ci h rfl (fun hb_74 h=>?_) (fun hb_74 h=>?_))))))))))))
  ·refine T.skip (T.block (T.seq (T.region (go 1 6 (RS.nil (T.join (Z:=Int) (fun zz_91=>mkA 61 [(1,.ptr 0 0),(4,.ptr 1 0),(6,.ref 2),(7,.ptr 3 0),(8,iI zz_91)]) (fun zz_91=>[.box (encNet p0),.box [.ref 4],aR 3 1 encI s5,.box [.ref 5],aR 172 2 encEnds x2.1,aR 4 1 encB s6]) (fun zz_91=>net_Order_k1 s5 s6 zz_91=some v_73) (fun zz_91 h=>?_) (fun hK1=>?_)))))))
   ·revert h;revert zz_91;intro z14 h
    replace h:net_Order_k1 s5 s6 z14=some v_73:=h
    try dsimp only
    unfold net_Order_k1 at h
    refine T.seq (T.seq (T.region (go 2 6 (RS.nil (T.ci h rfl (fun hb_92 h=>?_) (fun hb_92 h=>?_))))))
    ·refine T.seq (T.region (go 2 6 (RS.nil ?_)))
     obtain ⟨w_93,h,hw_93⟩:=map_inr h
     replace h:=h.trans (congrArg some (hv_73 _ hw_93))
     cases h
     exact tO [(0,3,1)] [6] 6
    refine T.skip (T.seq ?_)
    obtain ⟨x17,hx17,h⟩:=bind_some h
    obtain ⟨x18,hx18,h⟩:=bind_some h
    refine T.region (go 2 6 (sQ (v_index_ref' (en:=encB) Ty.s132 rfl rfl rfl hx17 (sO (o_store_aptr' (en:=encB) (a:=x18) (a':=true) Ty.c4 Ty.i4 rfl (vs:=[.bool true]) rfl rfl rfl hx18 rfl rfl rfl (RS.nil ?_))))))
    obtain ⟨x19,hx19,h⟩:=bind_some h
    refine T.region (go 2 6 (sO (o_buildSlice (rows:=List.map encI [z14]) (vs:=[iI z14]) Ty.s26 Ty.z3 rfl rfl rfl rfl rfl rfl (sO (o_app_ref (en:=encI) (xs:=s5) (ys:=([z14]:List Int)) Ty.s26 (fun _=>rfl) rfl rfl rfl hx19 rfl rfl (go 1 8 (RS.nil ?_)))))))
    exact ⟨(x19,(List.set s6 x17 true)),(Option.some.inj h).symm,wk [] [0,1,7,3,4,5] 8 rfl⟩
   refine T.seq (T.region (go 2 6 (sQ (v_len_sl Ty.s22 rfl (go 1 6 (RS.nil (T.block (T.iter (fun ss_102:Int=>mkA 61 [(1,.ptr 0 0),(4,.ptr 1 0),(6,.ref 2),(7,.ptr 3 0),(8,iI (-1)),(30,sL encNode p0.Nodes),(31,iI ((p0.Nodes).length:Int)),(32,iI ss_102)]) (fun ss_102=>[.box (encNet p0),.box [.ref 4],aR 3 1 encI s5,.box [.ref 5],aR 172 2 encEnds x2.1,aR 4 1 encB s6]) h (wk [] [0,1,2,3,4,5] 6 rfl) (fun ss_102 v_103 h hv_103=>?_)))))))))
   revert hv_103 h;revert ss_102;intro s7 h hv_103
   replace h:net_Order_l2 p0 x2 s5 s6 s7=some v_103:=h
   try dsimp only
   unfold net_Order_l2 at h
   refine T.seq (T.region (go 1 6 (RS.nil (T.seq (T.ci h rfl (fun hb_104 h=>?_) (fun hb_104 h=>?_))))))
   ·refine T.skip (T.seq (T.block (T.seq ?_)))
    obtain ⟨x9,hx9,h⟩:=bind_some h
    refine T.region (go 1 6 (sQ (v_index_sl Ty.s22 (fun _=>rfl) rfl rfl hx9 (go 4 6 (RS.nil ?_)))))
    obtain ⟨x10,hx10,h⟩:=bind_some h
    obtain ⟨x11,hx11,h⟩:=bind_some h
    obtain ⟨zt_106,hz,h⟩:=bind_some h
    revert hz h;revert zt_106;intro c13 hz h
    refine T.join (Z:=Unit) (fun _=>mkA 61 [(1,.ptr 0 0),(4,.ptr 1 0),(6,.ref 2),(7,.ptr 3 0),(8,iI (-1)),(9,iI s7),(30,sL encNode p0.Nodes),(31,iI ((p0.Nodes).length:Int)),(32,iI s7),(48,.bool c13)]) (fun _=>[.box (encNet p0),.box [.ref 4],aR 3 1 encI s5,.box [.ref 5],aR 172 2 encEnds x2.1,aR 4 1 encB s6]) (fun _=>True) (fun _ _=>?_) (fun hK=>?_)
    ·refine T.ci h rfl (fun hb_107 h=>?_) (fun hb_107 h=>?_)
     ·refine T.seq (T.region (go 2 6 (RS.nil (T.exit ?_))))
      obtain ⟨w_108,h,hw_108⟩:=map_inr h
      replace h:=h.trans (congrArg some (hv_103 _ hw_108))
      exact T.su (hK1 s7 h)
     refine T.skip (T.region (go 2 6 (RS.nil ?_)))
     exact ⟨IntKind.i64.wrap (s7+1),(Option.some.inj h).symm,wk [] [0,1,2,3,4,5] 6 rfl⟩
    refine T.region (go 2 7 (sQ (v_index_ref' (en:=encB) Ty.s132 rfl rfl rfl hx10 (sO (o_load_aptr' (en:=encB) (a:=x11) rfl rfl hx11 (loadRow1 Ty.k4 (c:=.bool x11) rfl (go 2 7 ?_)))))))
    rcases bool_cases (!x11) with hb_105 | hb_105
    ·replace hz:=ite_T hz hb_105
     obtain ⟨x12,hx12,hz⟩:=bind_some hz
     refine yg 7 hb_105 (yg 7 hb_105 (yg 7 hb_105 (yO hb_105 (o_callF (ac:=[sL encI x9.In,.func 125 [.ptr 3 0,.ptr 1 0]]) (as0:=[sL encI x9.In,.func 125 [.ptr 0 0,.ptr 1 0]]) (aw0:=[.box [.ref 2],.box [.ref 3],aR 4 1 encB s6,aR 172 2 encEnds x2.1]) (aw1:=[.box [.ref 2],.box [.ref 3],aR 4 1 encB s6,aR 172 2 encEnds x2.1]) (aw2:=[.box (encNet p0),.box [.ref 4],aR 3 1 encI s5,.box [.ref 5],aR 172 2 encEnds x2.1,aR 4 1 encB s6,.box (encNode x9)]) (v:=.bool x12) (v':=.bool x12) (n0:=7) (n1:=4) [3,1,5,4] rfl rfl rfl rfl (by decide) (rw_box (cs:=[.ref 2]) (ds:=[.ref 5]) rfl ⟨rn_ref rfl,trivial⟩ (rw_box (cs:=[.ref 3]) (ds:=[.ref 4]) rfl ⟨rn_ref rfl,trivial⟩ (rw_arr rfl encB_p rfl (rw_arr rfl encEnds_p rfl (rw_nil))))) ⟨rn_s rfl,rn_func ⟨rn_ptr rfl,rn_ptr rfl,trivial⟩,trivial⟩ (slices_ContainsFunc_int_x5d6b_c x9.In s6 x2.1 x12 hx12) rfl (rm_pure (pure_bool _)) ⟨.inr ⟨rfl,rfl⟩,.inl ⟨1,_,by decide,rfl,rom_box (cs:=[.ref 4]) (ds:=[.ref 3]) ⟨rm_ref (by decide),trivial⟩⟩,.inr ⟨rfl,rfl⟩,.inl ⟨0,_,by decide,rfl,rom_box (cs:=[.ref 5]) (ds:=[.ref 2]) ⟨rm_ref (by decide),trivial⟩⟩,.inl ⟨3,_,by decide,rfl,rom_arr encEnds_p⟩,.inl ⟨2,_,by decide,rfl,rom_arr encB_p⟩,.inr ⟨rfl,rfl⟩,trivial⟩ (yg 7 hb_105 (sQ (v_pickT (v:=.bool (!x12)) rfl hb_105 rfl (RS.nil ?_))))))))
     exact T.weakR (hK () trivial) (Weak.mkN [] [0,1,2,3,4,5] (by decide) (none_kept _) rfl ⟨rn_ptr rfl,rn_ptr rfl,rn_ref rfl,rn_ptr rfl,rn_int rfl,rn_int rfl,rn_s rfl,rn_int rfl,rn_int rfl,rn_bool ((congrArg (fun p=>p) (Option.some.inj hz)).symm),trivial⟩ (rw_bs (encNet p0) rfl (rw_box (cs:=[.ref 4]) (ds:=[.ref 4]) rfl ⟨rn_ref rfl,trivial⟩ (rw_ar rfl rfl (rw_box (cs:=[.ref 5]) (ds:=[.ref 5]) rfl ⟨rn_ref rfl,trivial⟩ (rw_ar rfl rfl (rw_ar rfl rfl (rw_nil))))))))
    replace hz:=ite_F hz hb_105
    refine sN hb_105 (sN hb_105 (sN hb_105 (sN hb_105 (sN hb_105 (sQ (v_pickF (v:=.bool false) rfl hb_105 rfl (RS.nil ?_)))))))
    exact T.weakR (hK () trivial) (Weak.mkN [] [0,1,2,3,4,5] (by decide) (none_kept _) rfl ⟨rn_ptr rfl,rn_ptr rfl,rn_ref rfl,rn_ptr rfl,rn_int rfl,rn_int rfl,rn_s rfl,rn_int rfl,rn_int rfl,rn_bool ((congrArg (fun p=>p) (Option.some.inj hz)).symm),trivial⟩ (rw_bs (encNet p0) rfl (rw_box (cs:=[.ref 4]) (ds:=[.ref 4]) rfl ⟨rn_ref rfl,trivial⟩ (rw_ar rfl rfl (rw_box (cs:=[.ref 5]) (ds:=[.ref 5]) rfl ⟨rn_ref rfl,trivial⟩ (rw_ar rfl rfl (rw_ar rfl rfl (rw_nil))))))))
   refine T.exit ?_
   obtain ⟨w_109,h,hw_109⟩:=map_inr h
   replace h:=h.trans (congrArg some (hv_103 _ hw_109))
   exact T.su (hK1 (-1) h)
  refine T.exit ?_
  obtain ⟨w_110,h,hw_110⟩:=map_inr h
  replace h:=h.trans (congrArg some (hv_73 _ hw_110))
  refine T.seq (T.region (go 3 6 (RS.nil ?_)))
  cases h
  exact tO [] [2] 6
theorem net_Check_c (p0:Net) (r:Int) (h:net_Check p0=some r):Fn Try.prog 75 [.agg (encNet p0)] (iI r):=by
  unfold net_Check at h
  refine fnT 0 Try.func75 Try.ntmps75 ?_
  refine T.seq (T.region (go 2 0 (RS.nil (T.seq ?_))))
  obtain ⟨x2,hx2,h⟩:=bind_some h
  refine T.region (go 1 1 (sO (cO 1 (net_Order_c p0 x2 hx2) ⟨rfl,(go 5 2 (RS.nil (T.seq (T.region (go 2 2 (RS.nil ?_))))))⟩)))
  cases h
  exact tD
theorem net_Sources_c (p0:Net) (p1:List (List Item)) (r:Int) (h:net_Sources p0 p1=some r):Fn Try.prog 57 [.agg (encNet p0),sL (encL encItem) p1] (iI r):=by
  unfold net_Sources at h
  refine fnT 0 Try.func57 Try.ntmps57 ?_
  refine T.seq (T.region (go 2 0 (RS.nil (T.seq (T.seq ?_)))))
  obtain ⟨x2,hx2,h⟩:=bind_some h
  refine T.region (go 1 1 (sO (cF (net_Check_c p0 x2 hx2) ⟨rfl,(go 1 1 (RS.nil (T.seq (T.region (go 2 1 (RS.nil (T.ci h rfl (fun hb_1 h=>?_) (fun hb_1 h=>?_))))))))⟩)))
  ·refine T.seq (T.region (go 2 1 (RS.nil ?_)))
   cases h
   exact tD
  refine T.skip (T.seq (T.seq (T.region (go 1 1 (sQ (v_len_sl Ty.s25 rfl (go 1 1 (RS.nil (T.ci h rfl (fun hb_2 h=>?_) (fun hb_2 h=>?_))))))))))
  ·refine T.seq (T.region (go 1 1 (RS.nil ?_)))
   cases h
   exact tD
  refine T.skip (T.seq (T.seq (T.region (go 1 1 (sQ (v_len_sl Ty.s25 rfl (go 1 1 (RS.nil (T.block (T.iter (fun ss_27:Int=>mkA 69 [(1,sL (encL encItem) p1),(2,.ptr 0 0),(21,sL (encL encItem) p1),(22,iI ((p1).length:Int)),(23,iI ss_27)]) (fun ss_27=>[.box (encNet p0)]) h (wk [] [0] 1 rfl) (fun ss_27 v_28 h hv_28=>?_)))))))))))
  revert hv_28 h;revert ss_27;intro s3 h hv_28
  replace h:net_Sources_l3 p0 p1 s3=some v_28:=h
  try dsimp only
  unfold net_Sources_l3 at h
  refine T.seq (T.region (go 1 1 (RS.nil (T.seq (T.ci h rfl (fun hb_29 h=>?_) (fun hb_29 h=>?_))))))
  ·refine T.skip (T.seq (T.block (T.seq ?_)))
   obtain ⟨x5,hx5,h⟩:=bind_some h
   refine T.region (sQ (v_index_sl Ty.s25 (fun _=>rfl) rfl rfl hx5 (go 2 1 (RS.nil (T.seq (T.seq (T.region (go 1 1 (sQ (v_len_sl Ty.s29 rfl (go 1 1 ?_)))))))))))
   refine RS.nil (T.ci h rfl (fun hb_30 h=>?_) (fun hb_30 h=>?_))
   ·refine T.seq (T.region (go 1 1 (RS.nil ?_)))
    obtain ⟨w_31,h,hw_31⟩:=map_inr h
    replace h:=h.trans (congrArg some (hv_28 _ hw_31))
    cases h
    exact tD
   refine T.skip (T.seq (T.region (go 1 1 (sQ (v_len_sl Ty.s29 rfl (go 1 1 (RS.nil (T.block (T.iter (fun ss_36:Int=>mkA 69 [(1,sL (encL encItem) p1),(2,.ptr 0 0),(21,sL (encL encItem) p1),(22,iI ((p1).length:Int)),(23,iI s3),(30,sL encItem x5),(31,iI ((x5).length:Int)),(32,iI ss_36)]) (fun ss_36=>[.box (encNet p0)]) h (wk [] [0] 1 rfl) (fun ss_36 v_37 h hv_37=>?_))))))))))
   revert hv_37 h;revert ss_36;intro s6 h hv_37
   replace h:net_Sources_l1 s3 x5 s6=some v_37:=h
   try dsimp only
   unfold net_Sources_l1 at h
   refine T.seq (T.region (go 1 1 (RS.nil (T.seq (T.ci h rfl (fun hb_38 h=>?_) (fun hb_38 h=>?_))))))
   ·refine T.skip (T.seq (T.block (T.seq ?_)))
    obtain ⟨x8,hx8,h⟩:=bind_some h
    refine T.region (sQ (v_index_sl Ty.s29 (fun _=>rfl) rfl rfl hx8 (go 3 1 (RS.nil (T.seq (T.region (go 3 2 (RS.nil (T.ci h rfl (fun hb_39 h=>?_) (fun hb_39 h=>?_))))))))))
    ·refine T.seq (T.region (go 1 2 (RS.nil ?_)))
     obtain ⟨w_40,h,hw_40⟩:=map_inr h
     replace h:=h.trans (congrArg some (hv_37 _ hw_40))
     obtain ⟨w_41,h,hw_41⟩:=map_inr h
     replace h:=h.trans (congrArg some (hv_28 _ hw_41))
     cases h
     exact tD
    refine T.skip (T.region (go 2 2 (RS.nil ?_)))
    exact ⟨IntKind.i64.wrap (s6+1),(Option.some.inj h).symm,wk [] [0] 2 rfl⟩
   refine T.exit ?_
   obtain ⟨w_42,h,hw_42⟩:=map_inr h
   replace h:=h.trans (congrArg some (hv_37 _ hw_42))
   refine T.region (go 2 1 (RS.nil ?_))
   exact ⟨IntKind.i64.wrap (s3+1),(Option.some.inj h).symm,wk [] [0] 1 rfl⟩
  refine T.exit ?_
  obtain ⟨w_43,h,hw_43⟩:=map_inr h
  replace h:=h.trans (congrArg some (hv_28 _ hw_43))
  refine T.seq ?_
  obtain ⟨x10,hx10,h⟩:=bind_some h
  refine T.region (go 1 1 (sQ (v_len_sl Ty.s25 rfl (sO (o_mk (en:=encB) (zr:=false) Ty.s132 Ty.z4 rfl rfl hx10 rfl rfl (go 1 2 (RS.nil (T.seq (T.seq (T.region (go 2 2 ?_)))))))))))
  refine sQ (v_len_sl Ty.s22 rfl (go 1 2 (RS.nil (T.block (T.iter (fun ss_52:Int × (List Bool)=>mkA 69 [(1,sL (encL encItem) p1),(10,.ref 0),(45,sL encNode p0.Nodes),(46,iI ((p0.Nodes).length:Int)),(47,iI ss_52.1)]) (fun ss_52=>[aR 4 1 encB ss_52.2]) h (wk [] [1] 2 rfl) (fun ss_52 v_53 h hv_53=>?_))))))
  obtain ⟨s11,s12⟩:=ss_52
  replace h:net_Sources_l2 p0 p1 s11 s12=some v_53:=h
  try dsimp only
  unfold net_Sources_l2 at h
  refine T.seq (T.region (go 1 1 (RS.nil (T.seq (T.ci h rfl (fun hb_54 h=>?_) (fun hb_54 h=>?_))))))
  ·refine T.skip (T.seq (T.block (T.seq ?_)))
   obtain ⟨x14,hx14,h⟩:=bind_some h
   refine T.region (sQ (v_index_sl Ty.s22 (fun _=>rfl) rfl rfl hx14 (go 3 1 (RS.nil (T.seq (T.seq (T.region (go 3 2 (RS.nil (T.ci h rfl (fun hb_55 h=>?_) (fun hb_55 h=>?_)))))))))))
   ·refine T.exit (T.region (go 2 2 (RS.nil ?_)))
    exact ⟨(IntKind.i64.wrap (s11+1),s12),(Option.some.inj h).symm,wk [] [0] 2 rfl⟩
   refine T.skip (T.seq (T.seq (T.region (go 3 2 (sQ (v_len_sl Ty.s25 rfl (go 1 2 (RS.nil (T.ci h rfl (fun hb_56 h=>?_) (fun hb_56 h=>?_))))))))))
   ·refine T.seq (T.region (go 1 2 (RS.nil ?_)))
    obtain ⟨w_57,h,hw_57⟩:=map_inr h
    replace h:=h.trans (congrArg some (hv_53 _ hw_57))
    cases h
    exact tD
   refine T.skip (T.seq (T.seq ?_))
   obtain ⟨x17,hx17,h⟩:=bind_some h
   obtain ⟨x18,hx18,h⟩:=bind_some h
   refine T.region (go 3 2 (sQ (v_index_ref' (en:=encB) Ty.s132 rfl rfl rfl hx17 (sO (o_load_aptr' (en:=encB) (a:=x18) rfl rfl hx18 (loadRow1 Ty.k4 (c:=.bool x18) rfl (RS.nil (T.ci h rfl (fun hb_58 h=>?_) (fun hb_58 h=>?_)))))))))
   ·refine T.seq (T.region (go 1 2 (RS.nil ?_)))
    obtain ⟨w_59,h,hw_59⟩:=map_inr h
    replace h:=h.trans (congrArg some (hv_53 _ hw_59))
    cases h
    exact tD
   refine T.skip ?_
   obtain ⟨x19,hx19,h⟩:=bind_some h
   obtain ⟨x20,hx20,h⟩:=bind_some h
   refine T.region (go 3 2 (sQ (v_index_ref' (en:=encB) Ty.s132 rfl rfl rfl hx19 (sO (o_store_aptr' (en:=encB) (a:=x20) (a':=true) Ty.c4 Ty.i4 rfl (vs:=[.bool true]) rfl rfl rfl hx20 rfl rfl rfl (RS.nil (T.region (go 2 2 (RS.nil ?_)))))))))
   exact ⟨(IntKind.i64.wrap (s11+1),(List.set s12 x19 true)),(Option.some.inj h).symm,wk [] [0] 2 rfl⟩
  refine T.exit ?_
  obtain ⟨w_60,h,hw_60⟩:=map_inr h
  replace h:=h.trans (congrArg some (hv_53 _ hw_60))
  refine T.seq (T.region (go 1 1 (RS.nil ?_)))
  cases h
  exact tD
theorem move_start_c (p0:Net) (p1:List (List Item)) (r:State) (h:move_start p0 p1=some r):FnO Try.prog 81 [.agg (encNet p0),sL (encL encItem) p1] (.agg [.ref 0,.ref 1,.ref 2,.ref 3,.ref 4]) [aR 3 1 encI r.At,aR 29 1 (encL encItem) r.Rings,aR 66 3 encMemory r.Memory,aR 94 2 encChoice r.Choices,aR 46 3 encItem r.Out]:=by
  unfold move_start at h
  refine fnT 0 Try.func81 Try.ntmps81 ?_
  refine T.seq (T.region (go 2 0 (RS.nil (T.seq ?_))))
  obtain ⟨x4,hx4,h⟩:=bind_some h
  obtain ⟨x5,hx5,h⟩:=bind_some h
  obtain ⟨x6,hx6,h⟩:=bind_some h
  refine T.drawn mixed (k:=12) rfl ?_
  apply RA.jn 1 #[true,true,true,true,true,true,true,true,true,true,true,false];intro hS1
  apply RA.jn 3 #[true,true,true,true,true,false,true,true,true,true,false,false];intro hS2
  apply RA.jn 3 #[true,true,false,true,true,true,true,true,true,true,false,false];intro hS3
  apply RA.jn 3 #[true,true,true,true,true,true,true,true,true,false,false,false];intro hS4
  apply RA.jn 4 #[true,true,true,true,false,false,true,true,true,true,false,false];intro hS5
  apply RA.jn 4 #[true,true,false,true,true,false,true,true,true,true,false,false];intro hS6
  apply RA.jn 4 #[true,true,true,true,true,false,true,true,true,false,false,false];intro hS7
  apply RA.jn 4 #[true,true,false,true,true,true,true,true,true,false,false,false];intro hS8
  apply RA.jn 5 #[true,true,true,true,false,false,true,true,true,false,false,false];intro hS9
  apply RA.jn 5 #[true,true,false,true,true,false,true,true,true,false,false,false];intro hS10
  apply RA.jn 5 #[true,true,true,true,true,true,true,false,false,false,false,false];intro hS11
  apply RA.jn 6 #[true,true,true,true,true,false,true,false,false,false,false,false];intro hS12
  ·refine rq [0] 11 (r0 1 rfl (v_len_sl Ty.s25 rfl (rq [3,6] 8 (ra3 2 4 7 ?_ ?_ ?_))))
   ·refine oO rfl (o_mk (en:=encI) (zr:=0) Ty.s26 Ty.z3 rfl rfl hx4 rfl rfl (ra2 4 7 ?_ ?_))
    ·refine og 3 ⟨rfl,?_⟩
     exact raE hS12
    ·refine og 3 ⟨rfl,(r0 8 rfl (v_len_sl Ty.s22 rfl ?_))⟩
     exact raE hS9
   ·refine og 2 ⟨rfl,(ra3 2 5 7 ?_ ?_ ?_)⟩
    ·refine oO rfl (o_mk (en:=encI) (zr:=0) Ty.s26 Ty.z3 rfl rfl hx4 rfl rfl ?_)
     exact raT hS12
    ·refine oO rfl (o_mkN (en:=(encL encItem)) (zr:=([]:List Item)) Ty.s25 Ty.z29 ⟨.inr ⟨rfl,rfl⟩,trivial⟩ rfl rfl hx5 rfl rfl (ra2 2 7 ?_ ?_))
     ·refine oO rfl (o_mk (en:=encI) (zr:=0) Ty.s26 Ty.z3 rfl rfl hx4 rfl rfl ?_)
      exact raE hS11
     ·refine og 3 ⟨rfl,(r0 8 rfl (v_len_sl Ty.s22 rfl ?_))⟩
      exact raE hS8
    ·refine og 2 ⟨rfl,(r0 8 rfl (v_len_sl Ty.s22 rfl ?_))⟩
     exact raE hS10
   ·refine og 2 ⟨rfl,(r0 8 rfl (v_len_sl Ty.s22 rfl (ra3 2 4 9 ?_ ?_ ?_)))⟩
    ·refine oO rfl (o_mk (en:=encI) (zr:=0) Ty.s26 Ty.z3 rfl rfl hx4 rfl rfl ?_)
     exact raT hS9
    ·refine og 2 ⟨rfl,?_⟩
     exact raT hS10
    ·refine oO rfl (o_mkN (en:=encMemory) (zr:=(⟨0,[],0⟩:Memory)) Ty.s27 Ty.z66 ⟨.inl rfl,.inr ⟨rfl,rfl⟩,.inl rfl,trivial⟩ rfl rfl hx6 rfl rfl (ra2 2 4 ?_ ?_))
     ·refine oO rfl (o_mk (en:=encI) (zr:=0) Ty.s26 Ty.z3 rfl rfl hx4 rfl rfl ?_)
      exact raE hS5
     ·refine og 3 ⟨rfl,?_⟩
      exact raE hS6
  ·refine ra2 5 7 ?_ ?_
   ·refine oO rfl (o_mkN (en:=(encL encItem)) (zr:=([]:List Item)) Ty.s25 Ty.z29 ⟨.inr ⟨rfl,rfl⟩,trivial⟩ rfl rfl hx5 rfl rfl ?_)
    exact raV hS11 [0,1,3,2] rfl
   ·refine og 3 ⟨rfl,(r0 8 rfl (v_len_sl Ty.s22 rfl ?_))⟩
    exact raE hS7
  ·refine ra1 7 (og 4 ⟨rfl,(r0 8 rfl (v_len_sl Ty.s22 rfl ?_))⟩)
   exact raE hS4
  ·refine ra3 2 5 9 ?_ ?_ ?_
   ·refine oO rfl (o_mk (en:=encI) (zr:=0) Ty.s26 Ty.z3 rfl rfl hx4 rfl rfl ?_)
    exact raT hS7
   ·refine oO rfl (o_mkN (en:=(encL encItem)) (zr:=([]:List Item)) Ty.s25 Ty.z29 ⟨.inr ⟨rfl,rfl⟩,trivial⟩ rfl rfl hx5 rfl rfl ?_)
    exact raT hS8
   ·refine oO rfl (o_mkN (en:=encMemory) (zr:=(⟨0,[],0⟩:Memory)) Ty.s27 Ty.z66 ⟨.inl rfl,.inr ⟨rfl,rfl⟩,.inl rfl,trivial⟩ rfl rfl hx6 rfl rfl ?_)
    exact raT hS6
  ·refine ra2 4 9 ?_ ?_
   ·refine og 3 ⟨rfl,?_⟩
    exact raT hS7
   ·refine oO rfl (o_mkN (en:=encMemory) (zr:=(⟨0,[],0⟩:Memory)) Ty.s27 Ty.z66 ⟨.inl rfl,.inr ⟨rfl,rfl⟩,.inl rfl,trivial⟩ rfl rfl hx6 rfl rfl ?_)
    exact raV hS5 [0,1,3,2] rfl
  ·refine ra2 2 9 ?_ ?_
   ·refine oO rfl (o_mk (en:=encI) (zr:=0) Ty.s26 Ty.z3 rfl rfl hx4 rfl rfl ?_)
    exact raT hS4
   ·refine oO rfl (o_mkN (en:=encMemory) (zr:=(⟨0,[],0⟩:Memory)) Ty.s27 Ty.z66 ⟨.inl rfl,.inr ⟨rfl,rfl⟩,.inl rfl,trivial⟩ rfl rfl hx6 rfl rfl ?_)
    exact raE hS3
  ·refine ra2 5 9 ?_ ?_
   ·refine oO rfl (o_mkN (en:=(encL encItem)) (zr:=([]:List Item)) Ty.s25 Ty.z29 ⟨.inr ⟨rfl,rfl⟩,trivial⟩ rfl rfl hx5 rfl rfl ?_)
    exact raV hS4 [0,1,3,2] rfl
   ·refine oO rfl (o_mkN (en:=encMemory) (zr:=(⟨0,[],0⟩:Memory)) Ty.s27 Ty.z66 ⟨.inl rfl,.inr ⟨rfl,rfl⟩,.inl rfl,trivial⟩ rfl rfl hx6 rfl rfl ?_)
    exact raE hS2
  ·refine ra2 2 5 ?_ ?_
   ·refine oO rfl (o_mk (en:=encI) (zr:=0) Ty.s26 Ty.z3 rfl rfl hx4 rfl rfl ?_)
    exact raV hS2 [0,1,3,2] rfl
   ·refine oO rfl (o_mkN (en:=(encL encItem)) (zr:=([]:List Item)) Ty.s25 Ty.z29 ⟨.inr ⟨rfl,rfl⟩,trivial⟩ rfl rfl hx5 rfl rfl ?_)
    exact raV hS3 [0,1,3,2] rfl
  ·refine ra1 4 (og 4 ⟨rfl,?_⟩)
   exact raV hS2 [0,1,3,2] rfl
  ·refine ra1 9 (oO rfl (o_mkN (en:=encMemory) (zr:=(⟨0,[],0⟩:Memory)) Ty.s27 Ty.z66 ⟨.inl rfl,.inr ⟨rfl,rfl⟩,.inl rfl,trivial⟩ rfl rfl hx6 rfl rfl (rq [10] 1 ?_)))
   exact raE hS1
  ·refine ra1 2 (oO rfl (o_mk (en:=encI) (zr:=0) Ty.s26 Ty.z3 rfl rfl hx4 rfl rfl (rq [10] 1 ?_)))
   exact raV hS1 [0,1,2,4,3] rfl
  ·refine ra1 5 (oO rfl (o_mkN (en:=(encL encItem)) (zr:=([]:List Item)) Ty.s25 Ty.z29 ⟨.inr ⟨rfl,rfl⟩,trivial⟩ rfl rfl hx5 rfl rfl (rq [10] 1 ?_)))
   exact raV hS1 [0,1,4,2,3] rfl
  refine ra1 11 (og 5 ⟨rfl,(RA.done (by decide +kernel) (T.nilB 1 3 94 2 (cs:=[.ref 3,.ref 2,.ref 4,.nils,.nils]) rfl rfl (cs':=[.ref 3,.ref 2,.ref 4,.ref 5,.nils]) rfl rfl (T.nilB 1 4 46 3 (cs:=[.ref 3,.ref 2,.ref 4,.ref 5,.nils]) rfl rfl (cs':=[.ref 3,.ref 2,.ref 4,.ref 5,.ref 6]) rfl rfl ?_)))⟩)
  cases h
  exact tO [] [3,2,4,5,6] 7
theorem move_Start_c (p0:Net) (p1:List (List Item)) (r:State × Int) (h:move_Start p0 p1=some r):FnO Try.prog 50 [.agg (encNet p0),sL (encL encItem) p1] (.tup [.agg [.ref 0,.ref 1,.ref 2,.ref 3,.ref 4],iI r.2]) [aR 3 1 encI r.1.At,aR 29 1 (encL encItem) r.1.Rings,aR 66 3 encMemory r.1.Memory,aR 94 2 encChoice r.1.Choices,aR 46 3 encItem r.1.Out]:=by
  unfold move_Start at h
  refine fnT 0 Try.func50 Try.ntmps50 ?_
  refine T.seq (T.region (go 3 0 (RS.nil (T.seq (T.seq ?_)))))
  obtain ⟨x2,hx2,h⟩:=bind_some h
  refine T.region (go 2 2 (sO (cF (net_Sources_c p0 p1 x2 hx2) ⟨rfl,(go 1 2 (RS.nil (T.seq (T.region (go 2 2 (RS.nil (T.ci h rfl (fun hb_1 h=>?_) (fun hb_1 h=>?_))))))))⟩)))
  ·refine T.seq (T.region (go 4 2 (RS.nil (T.nilB 1 0 3 1 (cs:=[.nils,.nils,.nils,.nils,.nils]) rfl rfl (cs':=[.ref 2,.nils,.nils,.nils,.nils]) rfl rfl (T.nilB 1 1 29 1 (cs:=[.ref 2,.nils,.nils,.nils,.nils]) rfl rfl (cs':=[.ref 2,.ref 3,.nils,.nils,.nils]) rfl rfl (T.nilB 1 2 66 3 (cs:=[.ref 2,.ref 3,.nils,.nils,.nils]) rfl rfl (cs':=[.ref 2,.ref 3,.ref 4,.nils,.nils]) rfl rfl (T.nilB 1 3 94 2 (cs:=[.ref 2,.ref 3,.ref 4,.nils,.nils]) rfl rfl (cs':=[.ref 2,.ref 3,.ref 4,.ref 5,.nils]) rfl rfl (T.nilB 1 4 46 3 (cs:=[.ref 2,.ref 3,.ref 4,.ref 5,.nils]) rfl rfl (cs':=[.ref 2,.ref 3,.ref 4,.ref 5,.ref 6]) rfl rfl ?_))))))))
   cases h
   exact tO [] [2,3,4,5,6] 7
  refine T.skip (T.seq ?_)
  obtain ⟨x4,hx4,h⟩:=bind_some h
  refine T.region (go 2 2 (sO (o_callF (ac:=[.agg (encNet p0),sL (encL encItem) p1]) (as0:=[.agg (encNet p0),sL (encL encItem) p1]) (aw0:=[]) (aw1:=[aR 3 1 encI x4.At,aR 29 1 (encL encItem) x4.Rings,aR 66 3 encMemory x4.Memory,aR 94 2 encChoice x4.Choices,aR 46 3 encItem x4.Out]) (aw2:=[.box (encNet p0),.box [.nils,.nils,.nils,.nils,.nils],aR 3 1 encI x4.At,aR 29 1 (encL encItem) x4.Rings,aR 66 3 encMemory x4.Memory,aR 94 2 encChoice x4.Choices,aR 46 3 encItem x4.Out]) (v:=.agg [.ref 0,.ref 1,.ref 2,.ref 3,.ref 4]) (v':=.agg [.ref 2,.ref 3,.ref 4,.ref 5,.ref 6]) (n0:=2) (n1:=5) [] rfl rfl rfl rfl (by decide) (rw_nil) ⟨rn_agg ⟨rn_s rfl,rn_int rfl,rn_int rfl,trivial⟩,rn_s rfl,trivial⟩ (FnX.of_fnO (move_start_c p0 p1 x4 hx4)) rfl (rm_agg (cs:=[.ref 2,.ref 3,.ref 4,.ref 5,.ref 6]) (ds:=[.ref 0,.ref 1,.ref 2,.ref 3,.ref 4]) ⟨rm_ref (by decide),rm_ref (by decide),rm_ref (by decide),rm_ref (by decide),rm_ref (by decide),trivial⟩) ⟨.inr ⟨rfl,rfl⟩,.inr ⟨rfl,rfl⟩,.inl ⟨0,_,by decide,rfl,rom_arr encI_p⟩,.inl ⟨1,_,by decide,rfl,rom_arr (encL_p encItem_p)⟩,.inl ⟨2,_,by decide,rfl,rom_arr encMemory_p⟩,.inl ⟨3,_,by decide,rfl,rom_arr encChoice_p⟩,.inl ⟨4,_,by decide,rfl,rom_arr encItem_p⟩,trivial⟩ (go 2 7 (RS.nil ?_)))))
  cases h
  exact tO [] [2,3,4,5,6] 7
theorem move_head_c (p0:Net) (p1:List (List Item)) (p2:State) (p3:Move) (r:Item × Bool) (h:move_head p0 p1 p2 p3=some r):Fn Try.prog 82 [.agg (encNet p0),sL (encL encItem) p1,.agg (encState p2),.agg (encMove p3)] (.tup [.agg (encItem r.1),.bool r.2]):=by
  unfold move_head at h
  refine fnT 0 Try.func82 Try.ntmps82 ?_
  refine T.seq (T.region (go 5 0 (RS.nil (T.seq ?_))))
  obtain ⟨x2,hx2,h⟩:=bind_some h
  refine T.region (go 4 4 (sQ (v_index_sl Ty.s22 (fun _=>rfl) rfl rfl hx2 (go 3 4 (RS.nil (T.seq (T.seq (T.region (go 3 5 (RS.nil ?_))))))))))
  refine T.ci h rfl (fun hb_1 h=>?_) (fun hb_1 h=>?_)
  ·refine T.seq (T.seq ?_)
   obtain ⟨x5,hx5,h⟩:=bind_some h
   obtain ⟨x6,hx6,h⟩:=bind_some h
   refine T.drawn mixed (k:=13) rfl (rq [0,2,6,7] 9 (rL [8,9,10,11,12] 8 rfl (r0 9 rfl (v_index_sl Ty.s25 (fun _=>rfl) rfl rfl hx6 (rL [10,11,12] 10 rfl (r0 11 rfl (v_len_sl Ty.s29 rfl (rL [1,4,5,12] 1 rfl (ra1 3 (og 5 ⟨rfl,(r0 4 rfl (v_index_sl Ty.s26 (fun _=>rfl) rfl rfl hx5 ?_))⟩))))))))))
   refine ra1 5 (og 5 ⟨rfl,(rq [12] 0 (RA.done (by decide +kernel) (T.ci h rfl (fun hb_2 h=>?_) (fun hb_2 h=>?_))))⟩)
   ·refine T.seq (T.region (go 3 5 (RS.nil ?_)))
    cases h
    exact tD
   refine T.skip (T.seq ?_)
   obtain ⟨x10,hx10,h⟩:=bind_some h
   obtain ⟨x11,hx11,h⟩:=bind_some h
   obtain ⟨x12,hx12,h⟩:=bind_some h
   refine T.drawn mixed (k:=15) rfl (rq [0,1,5,7] 11 (rL [2,3,4,11,12,13,14] 2 rfl (r0 3 rfl (v_index_sl Ty.s25 (fun _=>rfl) rfl rfl hx10 (rL [4,11,12,13,14] 4 rfl (rL [6,9,10,11,12,13,14] 6 rfl (ra1 8 (og 5 ⟨rfl,(r0 9 rfl (v_index_sl Ty.s26 (fun _=>rfl) rfl rfl hx11 (ra1 10 ?_)))⟩))))))))
   refine og 5 ⟨rfl,(r0 11 rfl (v_index_sl Ty.s29 (fun _=>rfl) rfl rfl hx12 (ra1 12 (og 5 ⟨rfl,(ra1 13 (og 5 ⟨rfl,(rq [14] 0 (RA.done (by decide +kernel) ?_))⟩))⟩))))⟩
   cases h
   exact tD
  refine T.skip (T.seq ?_)
  obtain ⟨x15,hx15,h⟩:=bind_some h
  obtain ⟨x16,hx16,h⟩:=bind_some h
  refine T.drawn mixed (k:=11) rfl (rq [0,2,4] 8 (rL [1,8,9,10] 1 rfl (rL [3,6,7,8,9,10] 3 rfl (ra1 5 (og 5 ⟨rfl,(r0 6 rfl (v_index_sl Ty.s26 (fun _=>rfl) rfl rfl hx15 (ra1 7 (og 5 ⟨rfl,(r0 8 rfl (v_index_sl Ty.s25 (fun _=>rfl) rfl rfl hx16 ?_))⟩))))⟩)))))
  refine ra1 9 (og 5 ⟨rfl,(rq [10] 0 (RA.done (by decide +kernel) (T.seq (T.seq (T.region (go 1 5 (sQ (v_len_sl Ty.s29 rfl (go 1 5 ?_)))))))))⟩)
  refine RS.nil (T.ci h rfl (fun hb_3 h=>?_) (fun hb_3 h=>?_))
  ·refine T.seq (T.region (go 3 5 (RS.nil ?_)))
   cases h
   exact tD
  refine T.skip (T.seq ?_)
  obtain ⟨x18,hx18,h⟩:=bind_some h
  refine T.region (go 1 5 (sQ (v_index_sl Ty.s29 (fun _=>rfl) rfl rfl hx18 (go 3 5 (RS.nil ?_)))))
  cases h
  exact tD
theorem stage_Lane_c (p0:Item) (p1:Int) (r:Int × Int) (h:stage_Lane p0 p1=some r):Fn Try.prog 116 [.agg (encItem p0),iI p1] (.tup [iI r.1,iI r.2]):=by
  unfold stage_Lane at h
  refine fnT 0 Try.func116 Try.ntmps116 ?_
  refine T.seq (T.region (go 3 0 (RS.nil (T.seq (T.join (Z:=Unit) (fun _=>mkA 20 [(1,iI p1),(2,.ptr 0 0),(11,.bool ((decide (p1<1)) || decide (p1 > 16)))]) (fun _=>[.box (encItem p0)]) (fun _=>True) (fun _ _=>?_) (fun hK=>?_))))))
  ·refine T.ci h rfl (fun hb_2 h=>?_) (fun hb_2 h=>?_)
   ·refine T.seq (T.region (go 2 1 (RS.nil ?_)))
    cases h
    exact tD
   refine T.skip (T.seq ?_)
   obtain ⟨x4,hx4,h⟩:=bind_some h
   obtain ⟨x5,hx5,h⟩:=bind_some h
   refine T.region (go 3 1 (sQ (v_rem rfl rfl hx4 (go 3 1 (sQ (v_rem rfl rfl hx5 (go 2 1 (RS.nil ?_))))))))
   cases h
   exact tD
  refine T.region (go 3 1 ?_)
  rcases bool_cases (decide (p1<1)) with hb_1 | hb_1
  ·refine sN hb_1 (sN hb_1 (sQ (v_pickT (v:=.bool true) rfl hb_1 rfl (RS.nil ?_))))
   exact T.sub (hK () trivial) ⟨rfl,rfl,(congrArg AV.bool (by simp only [hb_1,bz,if_true,if_false,Bool.false_eq_true])).symm,trivial⟩
  refine yg 1 hb_1 (yg 1 hb_1 (sQ (v_pickF (v:=.bool (decide (p1 > 16))) rfl hb_1 rfl (RS.nil ?_))))
  exact T.sub (hK () trivial) ⟨rfl,rfl,(congrArg AV.bool (by simp only [hb_1,bz,if_true,if_false,Bool.false_eq_true])).symm,trivial⟩
theorem move_outs_c (p0:Node) (p1:Item) (r:List Int) (h:move_outs p0 p1=some r):Fn Try.prog 84 [.agg (encNode p0),.agg (encItem p1)] (sL encI r):=by
  unfold move_outs at h
  refine fnT 0 Try.func84 Try.ntmps84 ?_
  refine T.seq (T.region (go 3 0 (RS.nil (T.seq (T.seq (T.region (go 3 2 (RS.nil (T.ci h rfl (fun hb_1 h=>?_) (fun hb_1 h=>?_))))))))))
  ·refine T.seq (T.region (go 3 2 (RS.nil ?_)))
   cases h
   exact tD
  refine T.skip (T.seq ?_)
  obtain ⟨x2,hx2,h⟩:=bind_some h
  refine T.region (go 3 2 (sQ (v_len_sl Ty.s26 rfl (sO (cF (stage_Lane_c p1 ((p0.Out).length:Int) x2 hx2) ⟨rfl,(go 5 2 (RS.nil (T.seq ?_)))⟩)))))
  obtain ⟨x4,hx4,h⟩:=bind_some h
  refine T.region (go 5 2 (sO (o_slice_sl Ty.s26 (fun _=>rfl) rfl rfl rfl hx4 (go 1 2 (RS.nil ?_)))))
  cases h
  exact tD
theorem move_can_1_xbf12_c (p0:Int) (p1:List Int) (p2:List (List Item)) (p3:List Memory) (p4:List Choice) (p5:List Item) (p6:List Node) (p7:Int) (p8:Int) (r:Bool) (h:move_can_1_xbf12 p0 p1 p2 p3 p4 p5 p6 p7 p8=some r):FnX Try.prog 96 [iI p0,.ptr 0 0,.ptr 1 0] [.box [sL encI p1,sL (encL encItem) p2,sL encMemory p3,sL encChoice p4,sL encItem p5],.box [sL encNode p6,iI p7,iI p8]] (.bool r) [.box [sL encI p1,sL (encL encItem) p2,sL encMemory p3,sL encChoice p4,sL encItem p5],.box [sL encNode p6,iI p7,iI p8]]:=by
  unfold move_can_1_xbf12 at h
  refine fnT 2 Try.func96 Try.ntmps96 ?_
  refine T.seq (T.region (go 1 2 (RS.nil (T.seq ?_))))
  obtain ⟨x2,hx2,h⟩:=bind_some h
  refine T.drawn mixed (k:=10) rfl (rq [0,2,6] 7 (rL [1,3,4,5,8,9] 1 rfl (r0 3 rfl (v_index_sl Ty.s25 (fun _=>rfl) rfl rfl hx2 (rL [4,5,8,9] 4 rfl (r0 5 rfl (v_len_sl Ty.s29 rfl (ra1 7 (og 2 ⟨rfl,(rq [8,9] 0 (RA.done (by decide +kernel) ?_))⟩)))))))))
  cases h
  exact tN [0,1]
theorem slices_IndexFunc_int_x9c8e_c (p0:List Int) (p1:List Int) (p2:List (List Item)) (p3:List Memory) (p4:List Choice) (p5:List Item) (p6:List Node) (p7:Int) (p8:Int) (r:Int) (h:slices_IndexFunc_int_x9c8e p0 p1 p2 p3 p4 p5 p6 p7 p8=some r):FnX Try.prog 122 [sL encI p0,.func 96 [.ptr 0 0,.ptr 1 0]] [.box [sL encI p1,sL (encL encItem) p2,sL encMemory p3,sL encChoice p4,sL encItem p5],.box [sL encNode p6,iI p7,iI p8]] (iI r) [.box [sL encI p1,sL (encL encItem) p2,sL encMemory p3,sL encChoice p4,sL encItem p5],.box [sL encNode p6,iI p7,iI p8]]:=by
  unfold slices_IndexFunc_int_x9c8e at h
  refine fnT 2 Try.func122 Try.ntmps122 ?_
  refine T.seq (T.region (go 1 2 (RS.nil (T.seq (T.seq (T.region (go 1 2 (sQ (v_len_sl Ty.s26 rfl (go 1 2 ?_))))))))))
  refine RS.nil (T.block (T.iter (fun ss_5:Int=>mkA 19 [(0,sL encI p0),(1,.func 96 [.ptr 0 0,.ptr 1 0]),(7,iI ((p0).length:Int)),(8,iI ss_5)]) (fun ss_5=>[.box [sL encI p1,sL (encL encItem) p2,sL encMemory p3,sL encChoice p4,sL encItem p5],.box [sL encNode p6,iI p7,iI p8]]) h (wk [] [0,1] 2 rfl) (fun ss_5 v_6 h hv_6=>?_)))
  revert hv_6 h;revert ss_5;intro s1 h hv_6
  replace h:slices_IndexFunc_int_x9c8e_l1 p0 p1 p2 p3 p4 p5 p6 p7 p8 s1=some v_6:=h
  try dsimp only
  unfold slices_IndexFunc_int_x9c8e_l1 at h
  refine T.seq (T.region (go 1 2 (RS.nil (T.seq (T.ci h rfl (fun hb_7 h=>?_) (fun hb_7 h=>?_))))))
  ·refine T.skip (T.seq (T.block (T.seq (T.region (go 2 2 (RS.nil (T.seq ?_)))))))
   obtain ⟨x4,hx4,h⟩:=bind_some h
   obtain ⟨x5,hx5,h⟩:=bind_some h
   refine T.region (go 3 2 (sQ (v_index_sl Ty.s26 (fun _=>rfl) rfl rfl hx4 (go 1 2 (sO (o_callF (ac:=[iI x4,.ptr 0 0,.ptr 1 0]) (as0:=[iI x4,.ptr 0 0,.ptr 1 0]) (aw0:=[.box [sL encI p1,sL (encL encItem) p2,sL encMemory p3,sL encChoice p4,sL encItem p5],.box [sL encNode p6,iI p7,iI p8]]) (aw1:=[.box [sL encI p1,sL (encL encItem) p2,sL encMemory p3,sL encChoice p4,sL encItem p5],.box [sL encNode p6,iI p7,iI p8]]) (aw2:=[.box [sL encI p1,sL (encL encItem) p2,sL encMemory p3,sL encChoice p4,sL encItem p5],.box [sL encNode p6,iI p7,iI p8]]) (v:=.bool x5) (v':=.bool x5) (n0:=2) (n1:=2) [0,1] rfl rfl rfl rfl (by decide) (rw_box (cs:=[sL encI p1,sL (encL encItem) p2,sL encMemory p3,sL encChoice p4,sL encItem p5]) (ds:=[sL encI p1,sL (encL encItem) p2,sL encMemory p3,sL encChoice p4,sL encItem p5]) rfl ⟨rn_s rfl,rn_s rfl,rn_s rfl,rn_s rfl,rn_s rfl,trivial⟩ (rw_box (cs:=[sL encNode p6,iI p7,iI p8]) (ds:=[sL encNode p6,iI p7,iI p8]) rfl ⟨rn_s rfl,rn_int rfl,rn_int rfl,trivial⟩ (rw_nil))) ⟨rn_int rfl,rn_ptr rfl,rn_ptr rfl,trivial⟩ (move_can_1_xbf12_c x4 p1 p2 p3 p4 p5 p6 p7 p8 x5 hx5) rfl (rm_pure (pure_bool _)) ⟨.inl ⟨0,_,by decide,rfl,rom_box (cs:=[sL encI p1,sL (encL encItem) p2,sL encMemory p3,sL encChoice p4,sL encItem p5]) (ds:=[sL encI p1,sL (encL encItem) p2,sL encMemory p3,sL encChoice p4,sL encItem p5]) ⟨rm_pure (pure_map encI_p _),rm_pure (pure_map (encL_p encItem_p) _),rm_pure (pure_map encMemory_p _),rm_pure (pure_map encChoice_p _),rm_pure (pure_map encItem_p _),trivial⟩⟩,.inl ⟨1,_,by decide,rfl,rom_box (cs:=[sL encNode p6,iI p7,iI p8]) (ds:=[sL encNode p6,iI p7,iI p8]) ⟨rm_pure (pure_map encNode_p _),rm_pure (pure_int _ _),rm_pure (pure_int _ _),trivial⟩⟩,trivial⟩ (RS.nil (T.ci h rfl (fun hb_8 h=>?_) (fun hb_8 h=>?_)))))))))
   ·refine T.seq (T.region (go 2 2 (RS.nil ?_)))
    obtain ⟨w_9,h,hw_9⟩:=map_inr h
    replace h:=h.trans (congrArg some (hv_6 _ hw_9))
    cases h
    exact tN [0,1]
   refine T.skip (T.region (go 2 2 (RS.nil ?_)))
   exact ⟨IntKind.i64.wrap (s1+1),(Option.some.inj h).symm,wk [] [0,1] 2 rfl⟩
  refine T.exit ?_
  obtain ⟨w_10,h,hw_10⟩:=map_inr h
  replace h:=h.trans (congrArg some (hv_6 _ hw_10))
  refine T.seq (T.region (go 1 2 (RS.nil ?_)))
  cases h
  exact tN [0,1]
theorem slices_ContainsFunc_int_x9c8e_c (p0:List Int) (p1:List Int) (p2:List (List Item)) (p3:List Memory) (p4:List Choice) (p5:List Item) (p6:List Node) (p7:Int) (p8:Int) (r:Bool) (h:slices_ContainsFunc_int_x9c8e p0 p1 p2 p3 p4 p5 p6 p7 p8=some r):FnX Try.prog 95 [sL encI p0,.func 96 [.ptr 0 0,.ptr 1 0]] [.box [sL encI p1,sL (encL encItem) p2,sL encMemory p3,sL encChoice p4,sL encItem p5],.box [sL encNode p6,iI p7,iI p8]] (.bool r) [.box [sL encI p1,sL (encL encItem) p2,sL encMemory p3,sL encChoice p4,sL encItem p5],.box [sL encNode p6,iI p7,iI p8]]:=by
  unfold slices_ContainsFunc_int_x9c8e at h
  refine fnT 2 Try.func95 Try.ntmps95 ?_
  refine T.seq (T.region (go 1 2 (RS.nil (T.seq ?_))))
  obtain ⟨x2,hx2,h⟩:=bind_some h
  refine T.region (go 2 2 (sO (o_callF (ac:=[sL encI p0,.func 96 [.ptr 0 0,.ptr 1 0]]) (as0:=[sL encI p0,.func 96 [.ptr 0 0,.ptr 1 0]]) (aw0:=[.box [sL encI p1,sL (encL encItem) p2,sL encMemory p3,sL encChoice p4,sL encItem p5],.box [sL encNode p6,iI p7,iI p8]]) (aw1:=[.box [sL encI p1,sL (encL encItem) p2,sL encMemory p3,sL encChoice p4,sL encItem p5],.box [sL encNode p6,iI p7,iI p8]]) (aw2:=[.box [sL encI p1,sL (encL encItem) p2,sL encMemory p3,sL encChoice p4,sL encItem p5],.box [sL encNode p6,iI p7,iI p8]]) (v:=iI x2) (v':=iI x2) (n0:=2) (n1:=2) [0,1] rfl rfl rfl rfl (by decide) (rw_box (cs:=[sL encI p1,sL (encL encItem) p2,sL encMemory p3,sL encChoice p4,sL encItem p5]) (ds:=[sL encI p1,sL (encL encItem) p2,sL encMemory p3,sL encChoice p4,sL encItem p5]) rfl ⟨rn_s rfl,rn_s rfl,rn_s rfl,rn_s rfl,rn_s rfl,trivial⟩ (rw_box (cs:=[sL encNode p6,iI p7,iI p8]) (ds:=[sL encNode p6,iI p7,iI p8]) rfl ⟨rn_s rfl,rn_int rfl,rn_int rfl,trivial⟩ (rw_nil))) ⟨rn_s rfl,rn_func ⟨rn_ptr rfl,rn_ptr rfl,trivial⟩,trivial⟩ (slices_IndexFunc_int_x9c8e_c p0 p1 p2 p3 p4 p5 p6 p7 p8 x2 hx2) rfl (rm_pure (pure_int _ _)) ⟨.inl ⟨0,_,by decide,rfl,rom_box (cs:=[sL encI p1,sL (encL encItem) p2,sL encMemory p3,sL encChoice p4,sL encItem p5]) (ds:=[sL encI p1,sL (encL encItem) p2,sL encMemory p3,sL encChoice p4,sL encItem p5]) ⟨rm_pure (pure_map encI_p _),rm_pure (pure_map (encL_p encItem_p) _),rm_pure (pure_map encMemory_p _),rm_pure (pure_map encChoice_p _),rm_pure (pure_map encItem_p _),trivial⟩⟩,.inl ⟨1,_,by decide,rfl,rom_box (cs:=[sL encNode p6,iI p7,iI p8]) (ds:=[sL encNode p6,iI p7,iI p8]) ⟨rm_pure (pure_map encNode_p _),rm_pure (pure_int _ _),rm_pure (pure_int _ _),trivial⟩⟩,trivial⟩ (go 2 2 (RS.nil ?_)))))
  cases h
  exact tN [0,1]
theorem stage_Check_c (p0:Memory) (r:Int) (h:stage_Check p0=some r):Fn Try.prog 60 [.agg (encMemory p0)] (iI r):=by
  unfold stage_Check at h
  refine fnT 0 Try.func60 Try.ntmps60 ?_
  refine T.seq (T.region (go 2 0 (RS.nil (T.seq (T.seq (T.region (go 2 1 (sQ (v_len_sl Ty.s64 rfl (go 1 1 ?_))))))))))
  refine RS.nil (T.ci h rfl (fun hb_1 h=>?_) (fun hb_1 h=>?_))
  ·refine T.seq (T.region (go 1 1 (RS.nil ?_)))
   cases h
   exact tD
  refine T.skip (T.seq (T.seq (T.region (go 2 1 (sQ (v_len_sl Ty.s64 rfl (go 1 1 (RS.nil (T.block (T.iter (fun ss_16:Int=>mkA 40 [(1,.ptr 0 0),(10,sL encKeyed p0.Keys),(11,iI ((p0.Keys).length:Int)),(12,iI ss_16)]) (fun ss_16=>[.box (encMemory p0)]) h (wk [] [0] 1 rfl) (fun ss_16 v_17 h hv_17=>?_)))))))))))
  revert hv_17 h;revert ss_16;intro s1 h hv_17
  replace h:stage_Check_l1 p0 s1=some v_17:=h
  try dsimp only
  unfold stage_Check_l1 at h
  refine T.seq (T.region (go 1 1 (RS.nil (T.seq (T.ci h rfl (fun hb_18 h=>?_) (fun hb_18 h=>?_))))))
  ·refine T.skip (T.seq (T.block (T.seq ?_)))
   obtain ⟨x3,hx3,h⟩:=bind_some h
   refine T.region (go 1 1 (sQ (v_index_sl Ty.s64 (fun _=>rfl) rfl rfl hx3 (go 4 1 (RS.nil ?_)))))
   obtain ⟨zt_21,hz,h⟩:=bind_some h
   revert hz h;revert zt_21;intro c5 hz h
   refine T.join (Z:=Unit) (fun _=>mkA 40 [(1,.ptr 0 0),(10,sL encKeyed p0.Keys),(11,iI ((p0.Keys).length:Int)),(12,iI s1),(35,.bool c5)]) (fun _=>[.box (encMemory p0)]) (fun _=>True) (fun _ _=>?_) (fun hK=>?_)
   ·refine T.ci h rfl (fun hb_22 h=>?_) (fun hb_22 h=>?_)
    ·refine T.seq (T.region (go 1 1 (RS.nil ?_)))
     obtain ⟨w_23,h,hw_23⟩:=map_inr h
     replace h:=h.trans (congrArg some (hv_17 _ hw_23))
     cases h
     exact tD
    refine T.skip (T.region (go 2 1 (RS.nil ?_)))
    exact ⟨IntKind.i64.wrap (s1+1),(Option.some.inj h).symm,wk [] [0] 1 rfl⟩
   rcases bool_cases (decide (x3.N<1)) with hb_19 | hb_19
   ·replace hz:=ite_T hz hb_19
    refine T.drawn mixed (k:=19) rfl (rq [0] 18 (ra1 1 (og 2 ⟨rfl,(rq [2,3] 15 (r2 4 rfl hb_19 (r2 5 rfl hb_19 (r2 6 rfl hb_19 (r3 7 rfl (r3 8 rfl ?_))))))⟩)))
    refine r3 9 rfl (r3 10 rfl (r3 11 rfl (r3 12 rfl (r3 13 rfl (r3 14 rfl (r3 15 rfl (r3 16 rfl (r2 17 rfl hb_19 (r0 18 rfl (v_pickT (v:=.bool true) rfl hb_19 rfl ?_))))))))))
    refine RA.done (by decide +kernel) ?_
    exact T.weakR (hK () trivial) (Weak.mkN [] [0] (by decide) (none_kept _) rfl ⟨rn_ptr rfl,rn_s rfl,rn_int rfl,rn_int rfl,rn_bool ((congrArg (fun p=>p) (Option.some.inj hz)).symm),trivial⟩ (rw_bs (encMemory p0) rfl (rw_nil)))
   replace hz:=ite_F hz hb_19
   rcases bool_cases (decide (s1 > 0)) with hb_20 | hb_20
   ·replace hz:=ite_T hz hb_20
    obtain ⟨x4,hx4,hz⟩:=bind_some hz
    refine T.drawn mixed (k:=19) rfl ?_
    apply RA.jn 0 #[true,true,true,true,true,true,true,true,true,true,true,true,true,true,true,true,true,true,true];intro hS24
    apply RA.jn 4 #[true,true,true,true,true,true,true,true,true,true,true,true,true,false,true,true,false,false,false];intro hS25
    ·refine rq [0] 18 (ra1 1 (og 2 ⟨rfl,(rq [2,3] 15 (ry 4 hb_19 rfl (ry 5 hb_19 rfl (ry 6 hb_19 rfl (ry 7 hb_20 rfl (ry 9 hb_20 rfl (ry 10 hb_20 rfl ?_)))))))⟩))
     refine ry 14 hb_20 rfl (ra2 8 15 ?_ ?_)
     ·refine oy 2 hb_20 rfl (r1 11 rfl hb_20 (v_index_sl Ty.s64 (fun _=>rfl) rfl rfl hx4 (ry 12 hb_20 rfl (ra2 13 15 ?_ ?_))))
      ·refine oy 2 hb_20 rfl (ra1 15 (oy 2 hb_20 rfl (ry 16 hb_20 rfl (r1 17 rfl hb_19 (v_pickT (v:=.bool (decide (x4.Key ≥ x3.Key))) rfl hb_20 rfl (r0 18 rfl (v_pickF (v:=.bool (decide (x4.Key ≥ x3.Key))) rfl hb_19 rfl ?_)))))))
       exact raE hS24
      ·refine oy 2 hb_20 rfl ?_
       exact raE hS25
     ·refine oy 2 hb_20 rfl (ra1 8 (oy 2 hb_20 rfl (r1 11 rfl hb_20 (v_index_sl Ty.s64 (fun _=>rfl) rfl rfl hx4 (ry 12 hb_20 rfl ?_)))))
      exact raT hS25
    ·refine ra1 13 (oy 2 hb_20 rfl (ry 16 hb_20 rfl (r1 17 rfl hb_19 (v_pickT (v:=.bool (decide (x4.Key ≥ x3.Key))) rfl hb_20 rfl (r0 18 rfl (v_pickF (v:=.bool (decide (x4.Key ≥ x3.Key))) rfl hb_19 rfl ?_))))))
     exact raT hS24
    refine RA.done (by decide +kernel) ?_
    exact T.weakR (hK () trivial) (Weak.mkN [] [0] (by decide) (none_kept _) rfl ⟨rn_ptr rfl,rn_s rfl,rn_int rfl,rn_int rfl,rn_bool ((congrArg (fun p=>p) (Option.some.inj hz)).symm),trivial⟩ (rw_bs (encMemory p0) rfl (rw_nil)))
   replace hz:=ite_F hz hb_20
   refine T.drawn mixed (k:=19) rfl (rq [0] 18 (ra1 1 (og 2 ⟨rfl,(rq [2,3] 15 (ry 4 hb_19 rfl (ry 5 hb_19 rfl (ry 6 hb_19 rfl (r2 7 rfl hb_20 (r2 8 rfl hb_20 ?_))))))⟩)))
   refine r2 9 rfl hb_20 (r2 10 rfl hb_20 (r2 11 rfl hb_20 (r2 12 rfl hb_20 (r2 13 rfl hb_20 (r2 14 rfl hb_20 (r2 15 rfl hb_20 (r2 16 rfl hb_20 (r1 17 rfl hb_19 (v_pickF (v:=.bool false) rfl hb_20 rfl (r0 18 rfl (v_pickF (v:=.bool false) rfl hb_19 rfl ?_)))))))))))
   refine RA.done (by decide +kernel) ?_
   exact T.weakR (hK () trivial) (Weak.mkN [] [0] (by decide) (none_kept _) rfl ⟨rn_ptr rfl,rn_s rfl,rn_int rfl,rn_int rfl,rn_bool ((congrArg (fun p=>p) (Option.some.inj hz)).symm),trivial⟩ (rw_bs (encMemory p0) rfl (rw_nil)))
  refine T.exit ?_
  obtain ⟨w_26,h,hw_26⟩:=map_inr h
  replace h:=h.trans (congrArg some (hv_17 _ hw_26))
  refine T.seq (T.seq (T.region (go 3 1 (RS.nil (T.ci h rfl (fun hb_27 h=>?_) (fun hb_27 h=>?_))))))
  ·refine T.seq (T.region (go 1 1 (RS.nil ?_)))
   cases h
   exact tD
  refine T.skip (T.seq (T.region (go 1 1 (RS.nil ?_))))
  cases h
  exact tD
end Go.Proofs.Ytfbmoockopakjaa
namespace Go.Proofs.Ytfbmoockopakjaa
open Go.RowKit
set_option linter.unusedVariables false
set_option linter.unusedSimpArgs false
set_option maxRecDepth 100000
set_option maxHeartbeats 4000000
set_option synthInstance.maxSize 100000
set_option synthInstance.maxHeartbeats 4000000
theorem slices_Clone_Keyed_c (p0 r:List Keyed) (h:slices_Clone_Keyed p0=some r):FnO Try.prog 121 [.sl (List.map encKeyed p0)] (.ref 0) [.arr 69 2 (List.map encKeyed r)]:=by
  have hr:p0=r:=by
    unfold slices_Clone_Keyed app at h
    split at h
    · simpa using h
    · cases h
  refine fn_of_T (N:=0) rfl Try.func121 rfl (by kernel_rfl) Try.ntmps121 rfl ?_
  show T _ _ _ _ (mkA 8 [(0,.sl (List.map encKeyed p0))]) []
  refine T.seq ?_
  refine T.region ?_
  refine RS.op rfl (OP.q rfl (v_assign (v:=.nils) rfl ?_))
  refine RS.nil ?_
  refine T.seq ?_
  refine T.seq ?_
  refine T.region ?_
  refine RS.op rfl (OP.q rfl (v_move (v:=.sl (List.map encKeyed p0)) rfl ?_))
  refine RS.op rfl (OP.q rfl (v_nileq Ty.s64 rfl rfl (fun z hz=>?_)))
  refine RS.nil ?_
  refine T.cond (b:=z) rfl (fun hb=>?_) (fun hb=>?_)
  · refine T.seq ?_
    refine T.region ?_
    refine RS.op rfl (OP.q rfl (v_assign (v:=.nils) rfl ?_))
    refine RS.nil ?_
    refine T.ret ?_
    refine res_tmpA (v:=.nils) rfl ?_
    refine res_done ?_
    have h0:p0=[]:=List.map_eq_nil_iff.1 (hz hb)
    exact ret_own (.ref 0) [(0,69,2)] [0] (by decide) (none_kept _) rfl (rn_ref rfl) (rw_arr (en:=encKeyed) (ys:=[]) rfl encKeyed_p (by rw [← hr,h0]) (rw_nil)) ⟨rfl,rfl⟩
  · refine T.skip ?_
    refine T.seq ?_
    refine T.region ?_
    refine RS.op rfl (o_buildSlice (rows:=List.map encKeyed []) (vs:=[]) Ty.s64 Ty.z69 rfl rfl rfl rfl rfl (aw':=[.arr 69 2 (List.map encKeyed [])]) rfl ?_)
    refine RS.op rfl (OP.q rfl (v_move (v:=.sl (List.map encKeyed p0)) rfl ?_))
    refine RS.op rfl (o_app_ref (en:=encKeyed) (xs:=([]:List Keyed)) (ys:=p0) (r:=r) Ty.s64 (fun _=>rfl) rfl rfl rfl h rfl (aw':=[.dead,.arr 69 2 (List.map encKeyed r)]) rfl ?_)
    refine RS.op rfl (OP.q rfl (v_assign (v:=.ref 1) rfl ?_))
    refine RS.nil ?_
    refine T.ret ?_
    refine res_tmpA (v:=.ref 1) rfl ?_
    refine res_done ?_
    exact ret_own (.ref 0) [] [1] (by decide) (none_kept _) rfl (rn_ref rfl) (rw_arr rfl encKeyed_p rfl (rw_nil)) ⟨rfl,rfl⟩
theorem stage_Copy_c (p0:Memory) (r:Memory) (h:stage_Copy p0=some r):FnO Try.prog 91 [.agg (encMemory p0)] (.agg [iI r.Sum,.ref 0,iI r.Dep]) [aR 69 2 encKeyed r.Keys]:=by
  unfold stage_Copy at h
  refine fnT 0 Try.func91 Try.ntmps91 ?_
  refine T.seq (T.region (go 2 0 (RS.nil (T.seq ?_))))
  obtain ⟨x2,hx2,h⟩:=bind_some h
  refine T.region (go 2 2 (sO (cO 2 (slices_Clone_Keyed_c p0.Keys x2 hx2) ⟨rfl,(go 2 3 (RS.nil (T.seq (T.region (go 2 3 (RS.nil ?_))))))⟩)))
  cases h
  exact tO [] [2] 3
theorem stage_mapped_1_c (p0:Item) (r:Int) (h:stage_mapped_1 p0=some r):Fn Try.prog 131 [.agg (encItem p0)] (iI r):=by
  unfold stage_mapped_1 at h
  refine fnT 0 Try.func131 Try.ntmps131 ?_
  refine T.seq (T.region (go 2 0 (RS.nil (T.seq (T.region (go 4 1 (RS.nil ?_)))))))
  cases h
  exact tD
theorem stage_mapped_2_c (p0:Item) (r:Int) (h:stage_mapped_2 p0=some r):Fn Try.prog 132 [.agg (encItem p0)] (iI r):=by
  unfold stage_mapped_2 at h
  refine fnT 0 Try.func132 Try.ntmps132 ?_
  refine T.seq (T.region (go 2 0 (RS.nil (T.seq (T.region (go 4 1 (RS.nil ?_)))))))
  cases h
  exact tD
theorem stage_mapped_3_c (p0:Item) (r:Int) (h:stage_mapped_3 p0=some r):Fn Try.prog 133 [.agg (encItem p0)] (iI r):=by
  unfold stage_mapped_3 at h
  refine fnT 0 Try.func133 Try.ntmps133 ?_
  refine T.seq (T.region (go 2 0 (RS.nil (T.seq (T.region (go 4 1 (RS.nil ?_)))))))
  cases h
  exact tD
theorem stage_mapped_4_c (p0:Item) (r:Int) (h:stage_mapped_4 p0=some r):Fn Try.prog 134 [.agg (encItem p0)] (iI r):=by
  unfold stage_mapped_4 at h
  refine fnT 0 Try.func134 Try.ntmps134 ?_
  refine T.seq (T.region (go 2 0 (RS.nil (T.seq (T.region (go 6 1 (RS.nil ?_)))))))
  cases h
  exact tD
theorem stage_mapped_c (p0:Int) (p1:Item) (r:Item) (h:stage_mapped p0 p1=some r):Fn Try.prog 117 [iI p0,.agg (encItem p1)] (.agg (encItem r)):=by
  unfold stage_mapped at h
  refine fnT 0 Try.func117 Try.ntmps117 ?_
  refine T.seq (T.region (go 2 0 (RS.nil (T.seq (T.region (sQ (v_build (cs:=[.func 131 [],.func 132 [],.func 133 [],.func 134 []]) Ty.z180 Ty.p180 rfl (go 2 2 (RS.nil ?_)))))))))
  obtain ⟨zt_4,hz,h⟩:=bind_some h
  revert hz h;revert zt_4;intro c6 hz h
  refine T.join (Z:=Unit) (fun _=>mkA 14 [(3,.ptr 0 0),(4,.ptr 1 0)]) (fun _=>[.box [iI p1.Key,iI c6,iI p1.Dep],.box [iI 0,iI 0,iI 0]]) (fun _=>True) (fun _ _=>?_) (fun hK=>?_)
  ·refine T.seq (T.region (go 2 2 (RS.nil ?_)))
   cases h
   exact tD
  rcases bool_cases (p0==0) with hb_1 | hb_1
  ·replace hz:=ite_T hz hb_1
   obtain ⟨x1,hx1,hz⟩:=bind_some hz
   refine T.drawn mixed (k:=7) rfl (rq [0] 6 (r0 1 rfl (v_index_arr (q:=0) Try.underlying180 Ty.c179 Ty.i179 rfl rfl (by simpa using hb_1) rfl rfl (off':=0) rfl (rL [2,4,5,6] 2 rfl (ra1 3 (og 3 ⟨rfl,(ra1 4 (oO rfl (cF (stage_mapped_1_c p1 x1 hx1) ⟨rfl,(rq [5] 1 (ra1 6 ?_))⟩)))⟩))))))
   refine og 3 ⟨rfl,(RA.done (by decide +kernel) ?_)⟩
   exact T.weakR (hK () trivial) (Weak.mkN [] [0,1] (by decide) (none_kept _) rfl ⟨rn_ptr rfl,rn_ptr rfl,trivial⟩ (rw_box (cs:=[iI p1.Key,iI c6,iI p1.Dep]) (ds:=[iI p1.Key,iI x1,iI p1.Dep]) rfl ⟨rn_int rfl,rn_int ((congrArg (fun p=>p) (Option.some.inj hz)).symm),rn_int rfl,trivial⟩ (rw_bs [iI 0,iI 0,iI 0] rfl (rw_nil))))
  replace hz:=ite_F hz hb_1
  rcases bool_cases (p0==1) with hb_2 | hb_2
  ·replace hz:=ite_T hz hb_2
   obtain ⟨x2,hx2,hz⟩:=bind_some hz
   refine T.drawn mixed (k:=7) rfl (rq [0] 6 (r0 1 rfl (v_index_arr (q:=1) Try.underlying180 Ty.c179 Ty.i179 rfl rfl (by simpa using hb_2) rfl rfl (off':=1) rfl (rL [2,4,5,6] 2 rfl (ra1 3 (og 3 ⟨rfl,(ra1 4 (oO rfl (cF (stage_mapped_2_c p1 x2 hx2) ⟨rfl,(rq [5] 1 (ra1 6 ?_))⟩)))⟩))))))
   refine og 3 ⟨rfl,(RA.done (by decide +kernel) ?_)⟩
   exact T.weakR (hK () trivial) (Weak.mkN [] [0,1] (by decide) (none_kept _) rfl ⟨rn_ptr rfl,rn_ptr rfl,trivial⟩ (rw_box (cs:=[iI p1.Key,iI c6,iI p1.Dep]) (ds:=[iI p1.Key,iI x2,iI p1.Dep]) rfl ⟨rn_int rfl,rn_int ((congrArg (fun p=>p) (Option.some.inj hz)).symm),rn_int rfl,trivial⟩ (rw_bs [iI 0,iI 0,iI 0] rfl (rw_nil))))
  replace hz:=ite_F hz hb_2
  rcases bool_cases (p0==2) with hb_3 | hb_3
  ·replace hz:=ite_T hz hb_3
   obtain ⟨x3,hx3,hz⟩:=bind_some hz
   refine T.drawn mixed (k:=7) rfl (rq [0] 6 (r0 1 rfl (v_index_arr (q:=2) Try.underlying180 Ty.c179 Ty.i179 rfl rfl (by simpa using hb_3) rfl rfl (off':=2) rfl (rL [2,4,5,6] 2 rfl (ra1 3 (og 3 ⟨rfl,(ra1 4 (oO rfl (cF (stage_mapped_3_c p1 x3 hx3) ⟨rfl,(rq [5] 1 (ra1 6 ?_))⟩)))⟩))))))
   refine og 3 ⟨rfl,(RA.done (by decide +kernel) ?_)⟩
   exact T.weakR (hK () trivial) (Weak.mkN [] [0,1] (by decide) (none_kept _) rfl ⟨rn_ptr rfl,rn_ptr rfl,trivial⟩ (rw_box (cs:=[iI p1.Key,iI c6,iI p1.Dep]) (ds:=[iI p1.Key,iI x3,iI p1.Dep]) rfl ⟨rn_int rfl,rn_int ((congrArg (fun p=>p) (Option.some.inj hz)).symm),rn_int rfl,trivial⟩ (rw_bs [iI 0,iI 0,iI 0] rfl (rw_nil))))
  replace hz:=ite_F hz hb_3
  obtain ⟨x4,hx4,hz⟩:=bind_some hz
  obtain ⟨x5,hx5,hz⟩:=bind_some hz
  refine T.drawn mixed (k:=7) rfl (rq [0] 6 (r0 1 rfl (v_index_arr (q:=3) Try.underlying180 Ty.c179 Ty.i179 rfl rfl (isAt_some hx4) rfl rfl (off':=3) rfl (rL [2,4,5,6] 2 rfl (ra1 3 (og 3 ⟨rfl,(ra1 4 (oO rfl (cF (stage_mapped_4_c p1 x5 hx5) ⟨rfl,(rq [5] 1 (ra1 6 ?_))⟩)))⟩))))))
  refine og 3 ⟨rfl,(RA.done (by decide +kernel) ?_)⟩
  exact T.weakR (hK () trivial) (Weak.mkN [] [0,1] (by decide) (none_kept _) rfl ⟨rn_ptr rfl,rn_ptr rfl,trivial⟩ (rw_box (cs:=[iI p1.Key,iI c6,iI p1.Dep]) (ds:=[iI p1.Key,iI x5,iI p1.Dep]) rfl ⟨rn_int rfl,rn_int ((congrArg (fun p=>p) (Option.some.inj hz)).symm),rn_int rfl,trivial⟩ (rw_bs [iI 0,iI 0,iI 0] rfl (rw_nil))))
theorem stage_Step_1_c (p0:Keyed) (p1:Int) (r:Int) (h:stage_Step_1 p0 p1=some r):Fn Try.prog 119 [.agg (encKeyed p0),iI p1] (iI r):=by
  unfold stage_Step_1 at h
  refine fnT 0 Try.func119 Try.ntmps119 ?_
  refine T.seq (T.region (go 2 0 (RS.nil (T.seq (T.block (T.seq (T.region (go 5 1 (RS.nil ?_)))))))))
  refine T.ci h rfl (fun hb_1 h=>?_) (fun hb_1 h=>?_)
  ·refine T.seq (T.region (go 1 1 (RS.nil ?_)))
   cases h
   exact tD
  refine T.seq (T.region (go 5 1 (RS.nil (T.ci h rfl (fun hb_2 h=>?_) (fun hb_2 h=>?_)))))
  ·refine T.seq (T.region (go 1 1 (RS.nil ?_)))
   cases h
   exact tD
  refine T.skip (T.seq (T.region (go 1 1 (RS.nil ?_))))
  cases h
  exact tD
theorem slices_BinarySearchFunc_Keyed_x37fe_c (p0:List Keyed) (p1:Int) (r:Int × Bool) (h:slices_BinarySearchFunc_Keyed_x37fe p0 p1=some r):Fn Try.prog 118 [sL encKeyed p0,iI p1,.func 119 []] (.tup [iI r.1,.bool r.2]):=by
  unfold slices_BinarySearchFunc_Keyed_x37fe at h
  refine fnT 0 Try.func118 Try.ntmps118 ?_
  refine T.seq (T.region (go 2 0 (RS.nil (T.seq (T.region (go 1 0 (sQ (v_len_sl Ty.s64 rfl (go 1 0 (RS.nil ?_))))))))))
  refine T.seq (T.region (go 3 0 (RS.nil (T.seq (T.block (T.iter (fun ss_5:Int × Int=>mkA 49 [(0,sL encKeyed p0),(1,iI p1),(2,.func 119 []),(8,iI ((p0).length:Int)),(9,iI ss_5.1),(10,iI ss_5.2)]) (fun ss_5=>[]) h (wk [] [] 0 rfl) (fun ss_5 v_6 h hv_6=>?_)))))))
  obtain ⟨s1,s2⟩:=ss_5
  replace h:slices_BinarySearchFunc_Keyed_x37fe_l1 p0 p1 s1 s2=some v_6:=h
  try dsimp only
  unfold slices_BinarySearchFunc_Keyed_x37fe_l1 at h
  refine T.seq (T.seq (T.region (go 3 0 (RS.nil (T.ci h rfl (fun hb_7 h=>?_) (fun hb_7 h=>?_))))))
  ·refine T.skip (T.block (T.seq ?_))
   obtain ⟨x4,hx4,h⟩:=bind_some h
   refine T.region (go 4 0 (sQ (v_shr rfl rfl hx4 (go 2 0 (RS.nil (T.seq ?_))))))
   obtain ⟨x7,hx7,h⟩:=bind_some h
   obtain ⟨x8,hx8,h⟩:=bind_some h
   refine T.region (go 3 0 (sQ (v_index_sl Ty.s64 (fun _=>rfl) rfl rfl hx7 (go 2 0 (sO (cF (stage_Step_1_c x7 p1 x8 hx8) ⟨rfl,(go 1 0 (RS.nil (T.ci h rfl (fun hb_8 h=>?_) (fun hb_8 h=>?_))))⟩))))))
   ·refine T.region (go 3 0 (RS.nil ?_))
    exact ⟨(IntKind.i64.wrap ((IntKind.i64.wrap x4)+1),s2),(Option.some.inj h).symm,wk [] [] 0 rfl⟩
   refine T.region (go 2 0 (RS.nil ?_))
   exact ⟨(s1,IntKind.i64.wrap x4),(Option.some.inj h).symm,wk [] [] 0 rfl⟩
  refine T.exit ?_
  obtain ⟨w_9,h,hw_9⟩:=map_inr h
  replace h:=h.trans (congrArg some (hv_6 _ hw_9))
  obtain ⟨zt_11,hz,h⟩:=bind_some h
  revert hz h;revert zt_11;intro c11 hz h
  refine T.join (Z:=Unit) (fun _=>mkA 49 [(6,iI s1),(7,.bool c11)]) (fun _=>[]) (fun _=>True) (fun _ _=>?_) (fun hK=>?_)
  ·cases h
   exact tD
  refine T.region (go 5 0 ?_)
  rcases bool_cases (decide (s1<((p0).length:Int))) with hb_10 | hb_10
  ·replace hz:=ite_T hz hb_10
   obtain ⟨x9,hx9,hz⟩:=bind_some hz
   obtain ⟨x10,hx10,hz⟩:=bind_some hz
   refine yg 0 hb_10 (yg 0 hb_10 (yg 0 hb_10 (yQ hb_10 (v_index_sl Ty.s64 (fun _=>rfl) rfl rfl hx9 (yg 0 hb_10 (yg 0 hb_10 (yO hb_10 (cF (stage_Step_1_c x9 p1 x10 hx10) ⟨rfl,(yg 0 hb_10 (sQ (v_pickT (v:=.bool (x10==0)) rfl hb_10 rfl (go 2 0 ?_))))⟩))))))))
   refine RS.nil ?_
   exact T.sub (hK () trivial) ⟨rfl,(congrArg AV.bool ((congrArg (fun p=>p) (Option.some.inj hz)).symm)).symm,trivial⟩
  replace hz:=ite_F hz hb_10
  refine sN hb_10 (sN hb_10 (sN hb_10 (sN hb_10 (sN hb_10 (sN hb_10 (sN hb_10 (sN hb_10 (sQ (v_pickF (v:=.bool false) rfl hb_10 rfl (go 2 0 ?_))))))))))
  refine RS.nil ?_
  exact T.sub (hK () trivial) ⟨rfl,(congrArg AV.bool ((congrArg (fun p=>p) (Option.some.inj hz)).symm)).symm,trivial⟩
theorem slices_Insert_Keyed_xe708_c (p0:Int) (p1:List Keyed) (p2:List Keyed) (r:List Keyed) (h:slices_Insert_Keyed_xe708 p0 p1 p2=some r):FnX Try.prog 120 [.ref 0,iI p0,.ref 1] [aR 69 2 encKeyed p1,aR 69 2 encKeyed p2] (.ref 2) [.dead,.dead,aR 69 2 encKeyed r]:=by
  unfold slices_Insert_Keyed_xe708 at h
  refine fnT 2 Try.func120 Try.ntmps120 ?_
  refine T.mvS 0 0 rfl rfl rfl rfl (T.exposeM 0 2 (xs:=p1) rfl rfl (fun C hC=>?_))
  have h:=allC_some h C hC
  unfold slices_Insert_Keyed_xe708_C at h
  refine T.seq (T.region (go 1 3 (RS.nil (T.seq ?_))))
  obtain ⟨x2,hx2,h⟩:=bind_some h
  refine T.region (go 2 3 (sO (o_slice_vc Ty.s64 rfl rfl rfl hx2 (RS.nil (T.seq (T.region (go 1 3 (sQ (v_len_ref (en:=encKeyed) Ty.s64 rfl rfl (go 1 3 (RS.nil ?_)))))))))))
  refine T.seq (T.seq (T.region (go 2 3 (RS.nil (T.ci h rfl (fun hb_1 h=>?_) (fun hb_1 h=>?_))))))
  ·cases h
  refine T.skip (T.seq (T.region (go 1 3 (sO (v_len_vw Ty.s64 rfl (go 1 3 (RS.nil (T.seq (T.seq (T.region ?_))))))))))
  refine go 3 3 (RS.nil (T.ci h rfl (fun hb_2 h=>?_) (fun hb_2 h=>?_)))
  ·refine T.seq ?_
   obtain ⟨x4,hx4,h⟩:=bind_some h
   refine T.region (go 2 3 (sO (o_app_vw (en:=encKeyed) (xs:=p1) (ys:=p2) Ty.s64 (fun _=>rfl) rfl rfl rfl rfl rfl rfl hx4 rfl rfl (go 1 4 (RS.nil ?_)))))
   cases h
   exact tO [] [0,1,3] 4
  refine T.skip (T.seq (T.seq (T.region (go 4 3 (sO (o_cap_vw Ty.s64 rfl (go 1 3 (RS.nil (T.ci h rfl (fun hb_3 h=>?_) (fun hb_3 h=>?_))))))))))
  ·refine T.seq ?_
   obtain ⟨x7,hx7,h⟩:=bind_some h
   obtain ⟨x8,hx8,h⟩:=bind_some h
   refine T.region (go 2 3 (sO (o_slice_vh Ty.s64 rfl rfl hx7 (go 5 3 (sO (o_app_vz (en:=encKeyed) (z0:=(⟨0,0⟩:Keyed)) (xs:=p1) Ty.s64 Try.underlying3 Ty.z69 (fun _=>rfl) rfl rfl rfl hx8 rfl rfl (go 1 4 (RS.nil (T.seq ?_)))))))))
   obtain ⟨x11,hx11,h⟩:=bind_some h
   obtain ⟨x12,hx12,h⟩:=bind_some h
   refine T.region (go 2 4 (sO (o_slice_vw (en:=encKeyed) (xs:=x8) Ty.s64 rfl rfl rfl rfl hx11 (go 1 4 (sO (o_copy_vr (en:=encKeyed) (xs:=x8) (ys:=p2) Ty.s64 (fun _=>rfl) rfl rfl rfl rfl hx12 rfl (RS.nil (T.seq ?_))))))))
   obtain ⟨x17,hx17,h⟩:=bind_some h
   obtain ⟨x18,hx18,h⟩:=bind_some h
   obtain ⟨x19,hx19,h⟩:=bind_some h
   obtain ⟨x20,hx20,h⟩:=bind_some h
   refine T.drawn mixed (k:=9) rfl ?_
   apply RA.jn 1 #[true,true,true,true,true,true,true,true,false];intro hS4
   ·refine rq [0,1,2,3,5,6] 3 (ra2 4 7 ?_ ?_)
    ·refine oO rfl (o_slice_vw (en:=encKeyed) (xs:=(cpy x8 ((p0).toNat) ((((x8).length:Int)).toNat - (p0).toNat) p2)) Ty.s64 rfl rfl rfl rfl hx17 (ra1 7 (oO rfl (o_slice_vc Ty.s64 rfl rfl rfl hx18 ?_))))
     exact raE hS4
    ·refine oO rfl (o_slice_vc Ty.s64 rfl rfl rfl hx18 (ra1 4 (oO rfl (o_slice_vw (en:=encKeyed) (xs:=(cpy x8 ((p0).toNat) ((((x8).length:Int)).toNat - (p0).toNat) p2)) Ty.s64 rfl rfl rfl rfl hx17 ?_))))
     exact raT hS4
   refine ra1 8 (oO rfl (o_copy_v2 (en:=encKeyed) (xs:=(cpy x8 ((p0).toNat) ((((x8).length:Int)).toNat - (p0).toNat) p2)) (ys:=p1) Ty.s64 (fun _=>rfl) rfl rfl rfl rfl hx19 hx20 rfl (RA.done (by decide +kernel) (T.seq (T.region (go 2 4 (RS.nil ?_)))))))
   cases h
   exact tO [] [0,1,3] 4
  refine T.skip (T.seq ?_)
  obtain ⟨x22,hx22,h⟩:=bind_some h
  refine T.region (go 4 3 (sO (o_room (en:=encKeyed) (xs:=p1) Ty.s64 rfl rfl rfl rfl hx22 rfl rfl (go 1 4 (RS.nil (T.seq (T.seq ?_)))))))
  obtain ⟨x25,hx25,h⟩:=bind_some h
  obtain ⟨x26,hx26,h⟩:=bind_some h
  refine T.region (go 5 4 (sO (o_slice_U (en:=encKeyed) (xs:=p1) Ty.s64 rfl rfl rfl rfl hx25 (sO (o_overlaps (fn:=Try.f135) (tS:=64) (tR:=4) (en:=encKeyed) (xs:=p1) (ys:=p2) Try.func135 (by kernel_rfl) (by kernel_rfl) (by kernel_rfl) (by kernel_rfl) Ty.s64 rfl rfl rfl rfl hx26 (go 1 4 (RS.nil (T.ct rfl (T.seq ?_)))))))))
  obtain ⟨x30,hx30,h⟩:=bind_some h
  obtain ⟨x31,hx31,h⟩:=bind_some h
  obtain ⟨x32,hx32,h⟩:=bind_some h
  refine T.drawn mixed (k:=9) rfl ?_
  apply RA.jn 1 #[true,true,true,true,true,true,true,true,false];intro hS5
  ·refine rq [0,1,2,3,5,6] 3 (ra2 4 7 ?_ ?_)
   ·refine oO rfl (o_slice_U (en:=encKeyed) (xs:=p1) Ty.s64 rfl rfl rfl rfl hx30 (ra1 7 (oO rfl (o_slice_U (en:=encKeyed) (xs:=p1) Ty.s64 rfl rfl rfl rfl hx31 ?_))))
    exact raE hS5
   ·refine oO rfl (o_slice_U (en:=encKeyed) (xs:=p1) Ty.s64 rfl rfl rfl rfl hx31 (ra1 4 (oO rfl (o_slice_U (en:=encKeyed) (xs:=p1) Ty.s64 rfl rfl rfl rfl hx30 ?_))))
    exact raT hS5
  refine ra1 8 (oO rfl (o_copy_U (en:=encKeyed) (xs:=p1) Ty.s64 (fun _=>rfl) rfl rfl rfl hx32 rfl (RA.done (by decide +kernel) (T.seq ?_))))
  obtain ⟨x35,hx35,h⟩:=bind_some h
  obtain ⟨x36,hx36,h⟩:=bind_some h
  refine T.region (go 2 4 (sO (o_slice_vw (en:=encKeyed) (xs:=x32) Ty.s64 rfl rfl rfl rfl hx35 (go 1 4 (sO (o_copy_vr (en:=encKeyed) (xs:=x32) (ys:=p2) Ty.s64 (fun _=>rfl) rfl rfl rfl rfl hx36 rfl (RS.nil (T.seq (T.region (go 2 4 (RS.nil ?_)))))))))))
  cases h
  exact tO [] [0,1,3] 4
theorem stage_Step_c (p0:Int) (p1:Int) (p2:Memory) (p3:Item) (r:Memory × Item × Int) (h:stage_Step p0 p1 p2 p3=some r):Fn Try.prog 85 [iI p0,iI p1,.agg (encMemory p2),.agg (encItem p3)] (.tup [.agg (encMemory r.1),.agg (encItem r.2.1),iI r.2.2]):=by
  unfold stage_Step at h
  refine fnT 0 Try.func85 Try.ntmps85 ?_
  refine T.seq (T.region (go 5 0 (RS.nil (T.seq (T.seq ?_)))))
  obtain ⟨x2,hx2,h⟩:=bind_some h
  refine T.region (go 1 4 (sO (cF (stage_Check_c p2 x2 hx2) ⟨rfl,(go 1 4 (RS.nil (T.seq (T.region (go 2 4 (RS.nil (T.ci h rfl (fun hb_1 h=>?_) (fun hb_1 h=>?_))))))))⟩)))
  ·refine T.seq (T.region (go 6 4 (RS.nil ?_)))
   cases h
   exact tD
  refine T.skip (T.seq (T.seq (T.region (go 3 4 (RS.nil (T.ci h rfl (fun hb_2 h=>?_) (fun hb_2 h=>?_)))))))
  ·refine T.seq (T.region (go 5 4 (RS.nil ?_)))
   cases h
   exact tD
  refine T.skip (T.seq ?_)
  obtain ⟨x4,hx4,h⟩:=bind_some h
  refine T.region (go 1 4 (sO (o_callF (ac:=[.agg (encMemory p2)]) (as0:=[.agg (encMemory p2)]) (aw0:=[]) (aw1:=[aR 69 2 encKeyed x4.Keys]) (aw2:=[.box (encMemory p2),.box (encItem p3),.box [iI 0,.nils,iI 0],.box [iI 0,iI 0,iI 0],aR 69 2 encKeyed x4.Keys]) (v:=.agg [iI x4.Sum,.ref 0,iI x4.Dep]) (v':=.agg [iI x4.Sum,.ref 4,iI x4.Dep]) (n0:=4) (n1:=1) [] rfl rfl rfl rfl (by decide) (rw_nil) ⟨rn_agg ⟨rn_int rfl,rn_s rfl,rn_int rfl,trivial⟩,trivial⟩ (FnX.of_fnO (stage_Copy_c p2 x4 hx4)) rfl (rm_agg (cs:=[iI x4.Sum,.ref 4,iI x4.Dep]) (ds:=[iI x4.Sum,.ref 0,iI x4.Dep]) ⟨rm_pure (pure_int _ _),rm_ref (by decide),rm_pure (pure_int _ _),trivial⟩) ⟨.inr ⟨rfl,rfl⟩,.inr ⟨rfl,rfl⟩,.inr ⟨rfl,rfl⟩,.inr ⟨rfl,rfl⟩,.inl ⟨0,_,by decide,rfl,rom_arr encKeyed_p⟩,trivial⟩ (go 1 5 (RS.nil (T.seq (T.seq (T.region (go 1 5 (RS.nil ?_))))))))))
  refine T.block (T.seq (T.region (go 2 5 (RS.nil (T.ci h rfl (fun hb_3 h=>?_) (fun hb_3 h=>?_))))))
  ·refine T.seq (T.join (Z:=Unit) (fun _=>mkA 137 [(1,iI p1),(6,.ptr 0 0),(7,.ptr 1 0),(8,.ptr 2 0),(9,.ptr 3 0),(36,.bool ((decide (p1<0)) || decide (p1 > 3)))]) (fun _=>[.box [iI x4.Sum,.ref 4,iI x4.Dep],.box (encItem p3),.box [iI 0,.nils,iI 0],.box [iI 0,iI 0,iI 0],aR 69 2 encKeyed x4.Keys]) (fun _=>True) (fun _ _=>?_) (fun hK=>?_))
   ·refine T.ci h rfl (fun hb_5 h=>?_) (fun hb_5 h=>?_)
    ·refine T.seq (T.region (go 5 5 (RS.nil ?_)))
     cases h
     exact tD
    refine T.skip (T.seq ?_)
    obtain ⟨x7,hx7,h⟩:=bind_some h
    refine T.drawn mixed (k:=7) rfl ?_
    apply RA.jn 3 #[true,true,true,true,false,false,false];intro hS6
    ·refine rq [1] 6 (rL [2,3,4,5,6] 2 rfl (ra2 0 3 ?_ ?_))
     ·refine og 5 ⟨rfl,(ra1 3 (oO rfl (cF (stage_mapped_c p1 p3 x7 hx7) ⟨rfl,?_⟩)))⟩
      exact raE hS6
     ·refine oO rfl (cF (stage_mapped_c p1 p3 x7 hx7) ⟨rfl,(ra1 0 (og 5 ⟨rfl,?_⟩))⟩)
      exact raT hS6
    refine ra1 4 (og 5 ⟨rfl,(ra1 5 (og 5 ⟨rfl,(rq [6] 0 (RA.done (by decide +kernel) ?_))⟩))⟩)
    cases h
    exact tD
   refine T.region (go 3 5 ?_)
   rcases bool_cases (decide (p1<0)) with hb_4 | hb_4
   ·refine sN hb_4 (sN hb_4 (sQ (v_pickT (v:=.bool true) rfl hb_4 rfl (RS.nil ?_))))
    exact T.sub (hK () trivial) ⟨rfl,rfl,rfl,rfl,rfl,(congrArg AV.bool (by simp only [hb_4,bz,if_true,if_false,Bool.false_eq_true])).symm,trivial⟩
   refine yg 5 hb_4 (yg 5 hb_4 (sQ (v_pickF (v:=.bool (decide (p1 > 3))) rfl hb_4 rfl (RS.nil ?_))))
   exact T.sub (hK () trivial) ⟨rfl,rfl,rfl,rfl,rfl,(congrArg AV.bool (by simp only [hb_4,bz,if_true,if_false,Bool.false_eq_true])).symm,trivial⟩
  refine T.seq (T.region (go 2 5 (RS.nil (T.ci h rfl (fun hb_7 h=>?_) (fun hb_7 h=>?_)))))
  ·refine T.seq (T.region (go 7 5 (RS.nil (T.seq (T.region (go 7 5 (RS.nil (T.seq (T.drawn mixed (k:=11) rfl ?_)))))))))
   apply RA.jn 2 #[true,true,true,true,true,true,true,true,true,false,false];intro hS8
   apply RA.jn 3 #[true,true,true,true,true,true,true,true,false,false,false];intro hS9
   apply RA.jn 4 #[true,true,true,true,true,true,false,false,true,false,false];intro hS10
   apply RA.jn 4 #[true,true,true,true,false,true,true,false,true,false,false];intro hS11
   apply RA.jn 5 #[true,true,true,true,false,true,true,false,false,false,false];intro hS12
   apply RA.jn 5 #[true,true,false,true,true,true,true,false,false,false,false];intro hS13
   apply RA.jn 5 #[true,true,true,true,true,true,false,false,false,false,false];intro hS14
   ·refine rq [1,3,5] 8 (rL [0,8,9,10] 0 rfl (ra4 2 4 6 8 ?_ ?_ ?_ ?_))
    ·refine og 5 ⟨rfl,(ra3 4 6 8 ?_ ?_ ?_)⟩
     ·refine og 5 ⟨rfl,?_⟩
      exact raE hS14
     ·refine og 5 ⟨rfl,?_⟩
      exact raE hS12
     ·refine og 5 ⟨rfl,(rL [4,7,9,10] 4 rfl ?_)⟩
      exact raE hS10
    ·refine og 5 ⟨rfl,(ra3 2 6 8 ?_ ?_ ?_)⟩
     ·refine og 5 ⟨rfl,?_⟩
      exact raT hS14
     ·refine og 5 ⟨rfl,?_⟩
      exact raE hS13
     ·refine og 5 ⟨rfl,(rL [2,7,9,10] 2 rfl ?_)⟩
      exact raT hS10
    ·refine og 5 ⟨rfl,(ra3 2 4 8 ?_ ?_ ?_)⟩
     ·refine og 5 ⟨rfl,?_⟩
      exact raT hS12
     ·refine og 5 ⟨rfl,?_⟩
      exact raT hS13
     ·refine og 5 ⟨rfl,(rL [2,7,9,10] 2 rfl ?_)⟩
      exact raE hS11
    ·refine og 5 ⟨rfl,(rL [2,7,9,10] 2 rfl (rL [4,7,9,10] 4 rfl ?_))⟩
     exact raT hS10
   ·refine ra2 6 8 ?_ ?_
    ·refine og 5 ⟨rfl,(rq [7] 3 ?_)⟩
     exact raE hS9
    ·refine og 5 ⟨rfl,?_⟩
     exact raT hS10
   ·refine ra2 2 8 ?_ ?_
    ·refine og 5 ⟨rfl,(rq [7] 3 ?_)⟩
     exact raT hS9
    ·refine og 5 ⟨rfl,(ra1 2 (og 5 ⟨rfl,(rq [7] 2 ?_)⟩))⟩
     exact raE hS8
   ·refine ra2 4 8 ?_ ?_
    ·refine og 5 ⟨rfl,(rq [7] 3 ?_)⟩
     exact raT hS9
    ·refine og 5 ⟨rfl,?_⟩
     exact raT hS11
   ·refine ra1 4 (og 5 ⟨rfl,(rq [7] 2 ?_)⟩)
    exact raT hS8
   ·refine ra1 6 (og 5 ⟨rfl,(rq [7] 2 ?_)⟩)
    exact raT hS8
   ·refine ra1 8 (og 5 ⟨rfl,?_⟩)
    exact raT hS8
   refine ra1 9 (og 5 ⟨rfl,(rq [10] 0 (RA.done (by decide +kernel) ?_))⟩)
   cases h
   exact tD
  refine T.seq (T.region (go 2 5 (RS.nil (T.ci h rfl (fun hb_15 h=>?_) (fun hb_15 h=>?_)))))
  ·refine T.seq ?_
   obtain ⟨x9,hx9,h⟩:=bind_some h
   refine T.region (go 4 5 (sO (cF (slices_BinarySearchFunc_Keyed_x37fe_c x4.Keys p3.Key x9 hx9) ⟨rfl,(go 5 5 (RS.nil (T.seq (T.region (go 7 5 (RS.nil (T.seq ?_)))))))⟩)))
   refine T.join (Z:=Unit) (fun _=>mkA 137 [(6,.ptr 0 0),(7,.ptr 1 0),(8,.ptr 2 0),(9,.ptr 3 0),(12,iI x9.1),(13,.bool x9.2),(88,.bool ((!x9.2) && ((x4.Keys).length:Int)==6))]) (fun _=>[.box [iI x4.Sum,.ref 4,iI (if p3.Dep > x4.Dep then p3.Dep else x4.Dep)],.box (encItem p3),.box [iI 0,.nils,iI 0],.box [iI 0,iI 0,iI 0],aR 69 2 encKeyed x4.Keys]) (fun _=>True) (fun _ _=>?_) (fun hK=>?_)
   ·refine T.ci h rfl (fun hb_17 h=>?_) (fun hb_17 h=>?_)
    ·refine T.seq (T.drawn mixed (k:=9) rfl ?_)
     apply RA.jn 2 #[true,true,true,true,true,true,true,false,false];intro hS18
     apply RA.jn 3 #[true,true,true,true,true,true,false,false,false];intro hS19
     apply RA.jn 4 #[true,true,true,true,false,false,true,false,false];intro hS20
     ·refine rq [1,3] 7 (rL [0,6,7,8] 0 rfl (ra3 2 4 6 ?_ ?_ ?_))
      ·refine og 5 ⟨rfl,(ra2 4 6 ?_ ?_)⟩
       ·refine og 5 ⟨rfl,(rq [5] 3 ?_)⟩
        exact raE hS19
       ·refine og 5 ⟨rfl,?_⟩
        exact raE hS20
      ·refine og 5 ⟨rfl,(ra2 2 6 ?_ ?_)⟩
       ·refine og 5 ⟨rfl,(rq [5] 3 ?_)⟩
        exact raT hS19
       ·refine og 5 ⟨rfl,(ra1 2 (og 5 ⟨rfl,(rq [5] 2 ?_)⟩))⟩
        exact raE hS18
      ·refine og 5 ⟨rfl,(rL [2,5,7,8] 2 rfl ?_)⟩
       exact raT hS20
     ·refine ra1 4 (og 5 ⟨rfl,(rq [5] 2 ?_)⟩)
      exact raT hS18
     ·refine ra1 6 (og 5 ⟨rfl,?_⟩)
      exact raT hS18
     refine ra1 7 (og 5 ⟨rfl,(rq [8] 0 (RA.done (by decide +kernel) ?_))⟩)
     cases h
     exact tD
    refine T.skip (T.join (Z:=List Keyed) (fun zz_22=>mkA 137 [(6,.ptr 0 0),(7,.ptr 1 0),(8,.ptr 2 0),(9,.ptr 3 0),(12,iI x9.1)]) (fun zz_22=>[.box [iI x4.Sum,.ref 4,iI (if p3.Dep > x4.Dep then p3.Dep else x4.Dep)],.box (encItem p3),.box [iI 0,.nils,iI 0],.box [iI 0,iI 0,iI 0],aR 69 2 encKeyed zz_22]) (fun zz_22=>stage_Step_k1 p3 x4 x9 zz_22=some r) (fun zz_22 h=>?_) (fun hK1=>?_))
    ·revert h;revert zz_22;intro z12 h
     replace h:stage_Step_k1 p3 x4 x9 z12=some r:=h
     try dsimp only
     unfold stage_Step_k1 at h
     refine T.seq ?_
     obtain ⟨x17,hx17,h⟩:=bind_some h
     obtain ⟨x18,hx18,h⟩:=bind_some h
     obtain ⟨x19,hx19,h⟩:=bind_some h
     obtain ⟨x20,hx20,h⟩:=bind_some h
     refine T.region (go 3 5 (sQ (v_index_ref' (en:=encKeyed) Ty.s64 rfl rfl rfl hx17 (go 1 5 (sO (o_load_aptr' (en:=encKeyed) (a:=x18) rfl rfl hx18 (loadRow1 Ty.k3 (c:=iI x18.N) rfl (go 1 5 (sQ (v_index_ref' (en:=encKeyed) Ty.s64 rfl rfl rfl hx19 (go 1 5 (sO (o_store_aptr' (en:=encKeyed) (a:=x20) (a':=(⟨x20.Key,IntKind.i64.wrap (x18.N+1)⟩:Keyed)) Ty.c3 Ty.i3 rfl (vs:=[iI (IntKind.i64.wrap (x18.N+1))]) rfl rfl rfl hx20 rfl rfl rfl (RS.nil ?_))))))))))))))
     refine T.seq ?_
     obtain ⟨x23,hx23,h⟩:=bind_some h
     obtain ⟨x24,hx24,h⟩:=bind_some h
     refine T.drawn mixed (k:=15) rfl ?_
     apply RA.jn 2 #[true,true,true,true,true,true,true,true,true,true,true,true,true,false,false];intro hS23
     apply RA.jn 3 #[true,true,true,true,true,true,true,true,true,true,true,true,false,false,false];intro hS24
     apply RA.jn 4 #[true,true,true,true,true,true,true,true,false,true,true,false,true,false,false];intro hS25
     apply RA.jn 4 #[true,true,true,true,true,true,true,true,true,true,false,false,true,false,false];intro hS26
     apply RA.jn 5 #[true,true,true,true,true,true,true,true,false,true,true,false,false,false,false];intro hS27
     apply RA.jn 5 #[true,true,false,true,true,true,true,true,true,true,true,false,false,false,false];intro hS28
     apply RA.jn 5 #[true,true,true,true,true,true,true,true,true,true,false,false,false,false,false];intro hS29
     apply RA.jn 6 #[true,true,false,true,true,true,true,true,false,true,true,false,false,false,false];intro hS30
     apply RA.jn 6 #[true,true,true,true,true,true,true,true,false,true,false,false,false,false,false];intro hS31
     apply RA.jn 7 #[true,true,false,true,true,true,true,true,false,true,false,false,false,false,false];intro hS32
     apply RA.jn 8 #[true,true,true,true,false,true,false,false,false,true,true,false,false,false,false];intro hS33
     apply RA.jn 9 #[true,true,false,true,false,true,false,false,false,true,true,false,false,false,false];intro hS34
     apply RA.jn 9 #[false,true,true,true,false,true,false,false,false,true,true,false,false,false,false];intro hS35
     apply RA.jn 9 #[true,true,true,true,false,true,false,false,false,true,false,false,false,false,false];intro hS36
     ·refine rq [1,3,5,9] 11 (ra4 0 2 4 10 ?_ ?_ ?_ ?_)
      ·refine og 5 ⟨rfl,(ra4 2 4 10 12 ?_ ?_ ?_ ?_)⟩
       ·refine og 5 ⟨rfl,?_⟩
        exact raE hS36
       ·refine og 5 ⟨rfl,(r0 6 rfl (v_index_ref' (en:=encKeyed) Ty.s64 rfl rfl rfl hx23 (rq [7] 7 ?_)))⟩
        exact raE hS32
       ·refine og 5 ⟨rfl,?_⟩
        exact raE hS34
       ·refine og 5 ⟨rfl,(rL [4,6,7,8,11,13,14] 4 rfl (r0 6 rfl (v_index_ref' (en:=encKeyed) Ty.s64 rfl rfl rfl hx23 (rq [7] 6 (rL [2,11,13,14] 2 rfl (rL [10,11,13,14] 10 rfl ?_))))))⟩
        exact raE hS25
      ·refine og 5 ⟨rfl,(ra3 0 4 10 ?_ ?_ ?_)⟩
       ·refine og 5 ⟨rfl,?_⟩
        exact raT hS36
       ·refine og 5 ⟨rfl,(r0 6 rfl (v_index_ref' (en:=encKeyed) Ty.s64 rfl rfl rfl hx23 (rq [7] 7 (rL [0,12,13,14] 0 rfl ?_))))⟩
        exact raE hS31
       ·refine og 5 ⟨rfl,?_⟩
        exact raE hS35
      ·refine og 5 ⟨rfl,(r0 6 rfl (v_index_ref' (en:=encKeyed) Ty.s64 rfl rfl rfl hx23 (rq [7] 8 (rL [0,12,13,14] 0 rfl ?_))))⟩
       exact raT hS32
      ·refine og 5 ⟨rfl,(ra3 0 2 4 ?_ ?_ ?_)⟩
       ·refine og 5 ⟨rfl,?_⟩
        exact raT hS34
       ·refine og 5 ⟨rfl,?_⟩
        exact raT hS35
       ·refine og 5 ⟨rfl,(r0 6 rfl (v_index_ref' (en:=encKeyed) Ty.s64 rfl rfl rfl hx23 (rq [7] 7 (rL [0,12,13,14] 0 rfl ?_))))⟩
        exact raE hS30
     ·refine ra3 4 10 12 ?_ ?_ ?_
      ·refine og 5 ⟨rfl,(r0 6 rfl (v_index_ref' (en:=encKeyed) Ty.s64 rfl rfl rfl hx23 (rq [7] 6 ?_)))⟩
       exact raT hS31
      ·refine og 5 ⟨rfl,?_⟩
       exact raE hS33
      ·refine og 5 ⟨rfl,(rL [4,6,7,8,11,13,14] 4 rfl (r0 6 rfl (v_index_ref' (en:=encKeyed) Ty.s64 rfl rfl rfl hx23 (rq [7] 5 (rL [10,11,13,14] 10 rfl ?_)))))⟩
       exact raT hS25
     ·refine ra2 0 4 ?_ ?_
      ·refine og 5 ⟨rfl,?_⟩
       exact raT hS33
      ·refine og 5 ⟨rfl,(r0 6 rfl (v_index_ref' (en:=encKeyed) Ty.s64 rfl rfl rfl hx23 (rq [7] 6 (rL [0,12,13,14] 0 rfl ?_))))⟩
       exact raE hS27
     ·refine ra3 2 4 12 ?_ ?_ ?_
      ·refine og 5 ⟨rfl,?_⟩
       exact raT hS33
      ·refine og 5 ⟨rfl,(r0 6 rfl (v_index_ref' (en:=encKeyed) Ty.s64 rfl rfl rfl hx23 (rq [7] 6 ?_)))⟩
       exact raT hS30
      ·refine og 5 ⟨rfl,(rL [4,6,7,8,11,13,14] 4 rfl (r0 6 rfl (v_index_ref' (en:=encKeyed) Ty.s64 rfl rfl rfl hx23 (rq [7] 5 (rL [2,11,13,14] 2 rfl ?_)))))⟩
       exact raT hS25
     ·refine ra2 4 12 ?_ ?_
      ·refine og 5 ⟨rfl,(r0 6 rfl (v_index_ref' (en:=encKeyed) Ty.s64 rfl rfl rfl hx23 (rq [7] 5 ?_)))⟩
       exact raT hS27
      ·refine og 5 ⟨rfl,(ra1 4 (og 5 ⟨rfl,(r0 6 rfl (v_index_ref' (en:=encKeyed) Ty.s64 rfl rfl rfl hx23 (rq [7] 4 ?_)))⟩))⟩
       exact raT hS25
     ·refine ra4 2 8 10 12 ?_ ?_ ?_ ?_
      ·refine og 5 ⟨rfl,?_⟩
       exact raT hS31
      ·refine oO rfl (o_load_aptr' (en:=encKeyed) (a:=x24) rfl rfl hx24 (loadRow1 Ty.k3 (c:=iI x24.N) rfl (ra3 2 10 12 ?_ ?_ ?_)))
       ·refine og 5 ⟨rfl,?_⟩
        exact raE hS29
       ·refine og 5 ⟨rfl,?_⟩
        exact raE hS28
       ·refine og 5 ⟨rfl,(rL [2,11,13,14] 2 rfl ?_)⟩
        exact raE hS26
      ·refine og 5 ⟨rfl,?_⟩
       exact raT hS30
      ·refine og 5 ⟨rfl,(rL [2,11,13,14] 2 rfl (rL [10,11,13,14] 10 rfl ?_))⟩
       exact raT hS25
     ·refine ra3 8 10 12 ?_ ?_ ?_
      ·refine oO rfl (o_load_aptr' (en:=encKeyed) (a:=x24) rfl rfl hx24 (loadRow1 Ty.k3 (c:=iI x24.N) rfl ?_))
       exact raT hS29
      ·refine og 5 ⟨rfl,?_⟩
       exact raT hS27
      ·refine og 5 ⟨rfl,(rL [10,11,13,14] 10 rfl ?_)⟩
       exact raT hS25
     ·refine ra3 2 8 12 ?_ ?_ ?_
      ·refine og 5 ⟨rfl,?_⟩
       exact raT hS27
      ·refine oO rfl (o_load_aptr' (en:=encKeyed) (a:=x24) rfl rfl hx24 (loadRow1 Ty.k3 (c:=iI x24.N) rfl ?_))
       exact raT hS28
      ·refine og 5 ⟨rfl,(rL [2,11,13,14] 2 rfl ?_)⟩
       exact raT hS25
     ·refine ra2 10 12 ?_ ?_
      ·refine og 5 ⟨rfl,(rq [11] 3 ?_)⟩
       exact raE hS24
      ·refine og 5 ⟨rfl,?_⟩
       exact raT hS26
     ·refine ra2 2 12 ?_ ?_
      ·refine og 5 ⟨rfl,(rq [11] 3 ?_)⟩
       exact raT hS24
      ·refine og 5 ⟨rfl,(ra1 2 (og 5 ⟨rfl,(rq [11] 2 ?_)⟩))⟩
       exact raE hS23
     ·refine ra2 8 12 ?_ ?_
      ·refine oO rfl (o_load_aptr' (en:=encKeyed) (a:=x24) rfl rfl hx24 (loadRow1 Ty.k3 (c:=iI x24.N) rfl (rq [11] 3 ?_)))
       exact raT hS24
      ·refine og 5 ⟨rfl,?_⟩
       exact raT hS25
     ·refine ra1 10 (og 5 ⟨rfl,(rq [11] 2 ?_)⟩)
      exact raT hS23
     ·refine ra1 8 (oO rfl (o_load_aptr' (en:=encKeyed) (a:=x24) rfl rfl hx24 (loadRow1 Ty.k3 (c:=iI x24.N) rfl (rq [11] 2 ?_))))
      exact raT hS23
     ·refine ra1 12 (og 5 ⟨rfl,?_⟩)
      exact raT hS23
     refine ra1 13 (og 5 ⟨rfl,(rq [14] 0 (RA.done (by decide +kernel) ?_))⟩)
     cases h
     exact tD
    refine T.seq (T.region (go 2 5 (RS.nil (T.ci h rfl (fun hb_37 h=>?_) (fun hb_37 h=>?_)))))
    ·obtain ⟨x11,hx11,h⟩:=bind_some h
     refine T.region (go 6 5 (sO (o_buildSlice (rows:=List.map encKeyed [(⟨p3.Key,0⟩:Keyed)]) (vs:=[.agg [iI p3.Key,iI 0]]) Ty.s64 Ty.z69 rfl rfl rfl rfl rfl rfl (sO (o_callF (ac:=[.ref 4,iI x9.1,.ref 5]) (as0:=[.ref 0,iI x9.1,.ref 1]) (aw0:=[aR 69 2 encKeyed x4.Keys,aR 69 2 encKeyed ([(⟨p3.Key,0⟩:Keyed)]:List Keyed)]) (aw1:=[.dead,.dead,aR 69 2 encKeyed x11]) (aw2:=[.box [iI x4.Sum,.ref 4,iI (if p3.Dep > x4.Dep then p3.Dep else x4.Dep)],.box (encItem p3),.box [iI 0,.nils,iI 0],.box [iI 0,iI 0,iI 0],.dead,.dead,aR 69 2 encKeyed x11]) (v:=.ref 2) (v':=.ref 6) (n0:=6) (n1:=3) [4,5] rfl rfl rfl rfl (by decide) (rw_arr rfl encKeyed_p rfl (rw_arr rfl encKeyed_p rfl (rw_nil))) ⟨rn_ref rfl,rn_int rfl,rn_ref rfl,trivial⟩ (slices_Insert_Keyed_xe708_c x9.1 x4.Keys ([(⟨p3.Key,0⟩:Keyed)]:List Keyed) x11 hx11) rfl (rm_ref (by decide)) ⟨.inr ⟨rfl,rfl⟩,.inr ⟨rfl,rfl⟩,.inr ⟨rfl,rfl⟩,.inr ⟨rfl,rfl⟩,.inl ⟨0,_,by decide,rfl,trivial⟩,.inl ⟨1,_,by decide,rfl,trivial⟩,.inl ⟨2,_,by decide,rfl,rom_arr encKeyed_p⟩,trivial⟩ (go 2 7 (RS.nil ?_)))))))
     exact T.weakR (hK1 x11 h) (wk [] [0,1,2,3,6] 7 rfl)
    refine T.skip ?_
    exact T.su (hK1 x4.Keys h)
   refine T.region (go 3 5 ?_)
   rcases bool_cases (!x9.2) with hb_16 | hb_16
   ·refine yg 5 hb_16 (yg 5 hb_16 (yQ hb_16 (v_len_ref (en:=encKeyed) Ty.s64 rfl rfl (yg 5 hb_16 (sQ (v_pickT (v:=.bool (((x4.Keys).length:Int)==6)) rfl hb_16 rfl (RS.nil ?_)))))))
    exact T.sub (hK () trivial) ⟨rfl,rfl,rfl,rfl,rfl,rfl,(congrArg AV.bool (by simp only [hb_16,bz,if_true,if_false,Bool.false_eq_true])).symm,trivial⟩
   refine sN hb_16 (sN hb_16 (sN hb_16 (sN hb_16 (sQ (v_pickF (v:=.bool false) rfl hb_16 rfl (RS.nil ?_))))))
   exact T.sub (hK () trivial) ⟨rfl,rfl,rfl,rfl,rfl,rfl,(congrArg AV.bool (by simp only [hb_16,bz,if_true,if_false,Bool.false_eq_true])).symm,trivial⟩
  refine T.seq (T.seq (T.region (go 2 5 (RS.nil (T.ci h rfl (fun hb_38 h=>?_) (fun hb_38 h=>?_))))))
  ·refine T.skip (T.ci h rfl (fun hb_39 h=>?_) (fun hb_39 h=>?_))
   ·refine T.seq (T.drawn mixed (k:=5) rfl ?_)
    apply RA.jn 2 #[true,true,true,false,false];intro hS40
    ·refine rL [0,2,3,4] 0 rfl (ra2 1 2 ?_ ?_)
     ·refine og 5 ⟨rfl,(ra1 2 (og 5 ⟨rfl,?_⟩))⟩
      exact raE hS40
     ·refine og 5 ⟨rfl,(ra1 1 (og 5 ⟨rfl,?_⟩))⟩
      exact raT hS40
    refine ra1 3 (og 5 ⟨rfl,(rq [4] 0 (RA.done (by decide +kernel) ?_))⟩)
    cases h
    exact tD
   refine T.skip (T.seq (T.region (go 5 5 (RS.nil ?_))))
   cases h
   exact tD
  refine T.seq (T.region (go 2 5 (RS.nil (T.ci h rfl (fun hb_41 h=>?_) (fun hb_41 h=>?_)))))
  ·refine T.skip (T.ci h rfl (fun hb_42 h=>?_) (fun hb_42 h=>?_))
   ·refine T.seq (T.drawn mixed (k:=5) rfl ?_)
    apply RA.jn 2 #[true,true,true,false,false];intro hS43
    ·refine rL [0,2,3,4] 0 rfl (ra2 1 2 ?_ ?_)
     ·refine og 5 ⟨rfl,(ra1 2 (og 5 ⟨rfl,?_⟩))⟩
      exact raE hS43
     ·refine og 5 ⟨rfl,(ra1 1 (og 5 ⟨rfl,?_⟩))⟩
      exact raT hS43
    refine ra1 3 (og 5 ⟨rfl,(rq [4] 0 (RA.done (by decide +kernel) ?_))⟩)
    cases h
    exact tD
   refine T.skip (T.seq (T.region (go 5 5 (RS.nil ?_))))
   cases h
   exact tD
  refine T.seq (T.region (go 2 5 (RS.nil (T.ci h rfl (fun hb_44 h=>?_) (fun hb_44 h=>?_)))))
  ·refine T.skip (T.ci h rfl (fun hb_45 h=>?_) (fun hb_45 h=>?_))
   ·refine T.seq (T.drawn mixed (k:=5) rfl ?_)
    apply RA.jn 2 #[true,true,true,false,false];intro hS46
    ·refine rL [0,2,3,4] 0 rfl (ra2 1 2 ?_ ?_)
     ·refine og 5 ⟨rfl,(ra1 2 (og 5 ⟨rfl,?_⟩))⟩
      exact raE hS46
     ·refine og 5 ⟨rfl,(ra1 1 (og 5 ⟨rfl,?_⟩))⟩
      exact raT hS46
    refine ra1 3 (og 5 ⟨rfl,(rq [4] 0 (RA.done (by decide +kernel) ?_))⟩)
    cases h
    exact tD
   refine T.skip (T.seq (T.region (go 5 5 (RS.nil ?_))))
   cases h
   exact tD
  refine T.seq (T.region (go 2 5 (RS.nil (T.ci h rfl (fun hb_47 h=>?_) (fun hb_47 h=>?_)))))
  ·refine T.skip (T.ci h rfl (fun hb_48 h=>?_) (fun hb_48 h=>?_))
   ·refine T.seq (T.drawn mixed (k:=5) rfl ?_)
    apply RA.jn 2 #[true,true,true,false,false];intro hS49
    ·refine rL [0,2,3,4] 0 rfl (ra2 1 2 ?_ ?_)
     ·refine og 5 ⟨rfl,(ra1 2 (og 5 ⟨rfl,?_⟩))⟩
      exact raE hS49
     ·refine og 5 ⟨rfl,(ra1 1 (og 5 ⟨rfl,?_⟩))⟩
      exact raT hS49
    refine ra1 3 (og 5 ⟨rfl,(rq [4] 0 (RA.done (by decide +kernel) ?_))⟩)
    cases h
    exact tD
   refine T.skip (T.seq (T.region (go 5 5 (RS.nil ?_))))
   cases h
   exact tD
  refine T.region (go 2 5 (RS.nil (T.ci h rfl (fun hb_50 h=>?_) (fun hb_50 h=>?_))))
  ·refine T.seq (T.drawn mixed (k:=5) rfl ?_)
   apply RA.jn 2 #[true,true,true,false,false];intro hS51
   ·refine rL [0,2,3,4] 0 rfl (ra2 1 2 ?_ ?_)
    ·refine og 5 ⟨rfl,(ra1 2 (og 5 ⟨rfl,?_⟩))⟩
     exact raE hS51
    ·refine og 5 ⟨rfl,(ra1 1 (og 5 ⟨rfl,?_⟩))⟩
     exact raT hS51
   refine ra1 3 (og 5 ⟨rfl,(rq [4] 0 (RA.done (by decide +kernel) ?_))⟩)
   cases h
   exact tD
  refine T.skip (T.seq (T.region (go 5 5 (RS.nil ?_))))
  cases h
  exact tD
theorem move_can_c (p0:Net) (p1:List (List Item)) (p2:State) (p3:Move) (r:Bool) (h:move_can p0 p1 p2 p3=some r):Fn Try.prog 69 [.agg (encNet p0),sL (encL encItem) p1,.agg (encState p2),.agg (encMove p3)] (.bool r):=by
  unfold move_can at h
  refine fnT 0 Try.func69 Try.ntmps69 ?_
  refine T.seq (T.region (go 4 0 (RS.nil (T.seq ?_))))
  obtain ⟨x2,hx2,h⟩:=bind_some h
  refine T.region (go 4 3 (sQ (v_index_sl Ty.s22 (fun _=>rfl) rfl rfl hx2 (go 3 3 (RS.nil (T.seq ?_))))))
  obtain ⟨x4,hx4,h⟩:=bind_some h
  refine T.region (go 4 4 (sO (cF (move_head_c p0 p1 p2 p3 x4 hx4) ⟨rfl,(go 6 4 (RS.nil (T.seq ?_)))⟩)))
  obtain ⟨zt_2,hz,h⟩:=bind_some h
  revert hz h;revert zt_2;intro c7 hz h
  refine T.join (Z:=Unit) (fun _=>mkA 76 [(6,.ptr 0 0),(7,.ptr 1 0),(9,.ptr 2 0),(10,.ptr 3 0),(37,.bool c7)]) (fun _=>[.box (encState p2),.box (encMove p3),.box (encNode x2),.box (encItem x4.1)]) (fun _=>True) (fun _ _=>?_) (fun hK=>?_)
  ·refine T.ci h rfl (fun hb_3 h=>?_) (fun hb_3 h=>?_)
   ·refine T.seq (T.region (go 1 4 (RS.nil ?_)))
    cases h
    exact tD
   refine T.skip (T.seq (T.join (Z:=Unit) (fun _=>mkA 76 [(6,.ptr 0 0),(7,.ptr 1 0),(9,.ptr 2 0),(10,.ptr 3 0),(57,.bool (if (x2.Kind==6)=true then ((((p2.Choices).length:Int)==500) || ((x2.Kind==8) && ((p2.Out).length:Int)==2000)) else ((x2.Kind==8) && ((p2.Out).length:Int)==2000)))]) (fun _=>[.box (encState p2),.box (encMove p3),.box (encNode x2),.box (encItem x4.1)]) (fun _=>True) (fun _ _=>?_) (fun hK=>?_)))
   ·refine T.ci h rfl (fun hb_8 h=>?_) (fun hb_8 h=>?_)
    ·refine T.seq (T.region (go 1 4 (RS.nil ?_)))
     cases h
     exact tD
    refine T.skip (T.seq ?_)
    obtain ⟨x11,hx11,h⟩:=bind_some h
    obtain ⟨x12,hx12,h⟩:=bind_some h
    refine T.drawn mixed (k:=21) rfl ?_
    apply RA.jn 3 #[true,true,true,true,true,true,true,true,true,true,true,true,true,true,true,true,true,true,false,false,false];intro hS9
    apply RA.jn 4 #[true,true,true,true,true,true,true,true,true,true,true,true,true,true,true,true,false,true,false,false,false];intro hS10
    apply RA.jn 4 #[true,true,true,true,true,true,true,true,true,true,true,true,true,true,true,true,true,false,false,false,false];intro hS11
    apply RA.jn 8 #[true,true,true,true,true,true,true,true,true,true,true,false,false,false,false,false,true,true,false,false,false];intro hS12
    ·refine rq [0,2,4,6] 17 (rL [1,11,12,13,14,15,18,19,20] 1 rfl (rL [3,11,12,13,14,15,18,19,20] 3 rfl (rL [5,8,9,11,12,13,14,15,18,19,20] 5 rfl (rL [7,8,9,11,12,13,14,15,18,19,20] 7 rfl (r0 8 rfl (v_index_sl Ty.s27 (fun _=>rfl) rfl rfl hx11 (rL [9,11,12,13,14,15,18,19,20] 9 rfl (rL [10,11,12,13,14,15,18,19,20] 10 rfl (ra3 11 16 17 ?_ ?_ ?_)))))))))
     ·refine oO rfl (cD (stage_Step_c x2.Kind x2.A x11 x4.1 x12 hx12) ⟨rfl,(rq [12,13,14,15] 5 (ra2 16 17 ?_ ?_))⟩)
      ·refine og 4 ⟨rfl,?_⟩
       exact raE hS11
      ·refine og 4 ⟨rfl,?_⟩
       exact raE hS10
     ·refine og 4 ⟨rfl,(ra2 11 17 ?_ ?_)⟩
      ·refine oO rfl (cD (stage_Step_c x2.Kind x2.A x11 x4.1 x12 hx12) ⟨rfl,(rq [12,13,14,15] 4 ?_)⟩)
       exact raT hS11
      ·refine og 5 ⟨rfl,?_⟩
       exact raE hS12
     ·refine og 4 ⟨rfl,(ra2 11 16 ?_ ?_)⟩
      ·refine oO rfl (cD (stage_Step_c x2.Kind x2.A x11 x4.1 x12 hx12) ⟨rfl,(rq [12,13,14,15] 4 ?_)⟩)
       exact raT hS10
      ·refine og 5 ⟨rfl,?_⟩
       exact raV hS12 [0,1,2,3,5,4] rfl
    ·refine ra1 11 (oO rfl (cD (stage_Step_c x2.Kind x2.A x11 x4.1 x12 hx12) ⟨rfl,(rq [12,13,14,15] 3 ?_)⟩))
     exact raE hS9
    ·refine ra1 17 (og 5 ⟨rfl,?_⟩)
     exact raT hS9
    ·refine ra1 16 (og 5 ⟨rfl,?_⟩)
     exact raV hS9 [0,1,2,3,5,4] rfl
    refine ra1 18 (og 6 ⟨rfl,(ra1 19 (og 6 ⟨rfl,(rq [20] 0 (RA.done (by decide +kernel) (T.seq (T.region (go 3 6 (RS.nil ?_))))))⟩))⟩)
    cases h
    exact tD
   refine T.region (go 4 4 ?_)
   rcases bool_cases (x2.Kind==6) with hb_4 | hb_4
   ·refine yg 4 hb_4 (yg 4 hb_4 (yQ hb_4 (v_len_sl Ty.s28 rfl (yg 4 hb_4 (sQ (v_pickT (v:=.bool (((p2.Choices).length:Int)==500)) rfl hb_4 rfl (go 1 4 ?_)))))))
    rcases bool_cases (((p2.Choices).length:Int)==500) with hb_5 | hb_5
    ·refine sN hb_5 (sN hb_5 (sN hb_5 (sN hb_5 (sU (sU (sU (sU (sN hb_5 (sQ (v_pickT (v:=.bool true) rfl hb_5 rfl ?_))))))))))
     refine RS.nil ?_
     exact T.sub (hK () trivial) ⟨rfl,rfl,rfl,rfl,(congrArg AV.bool (by simp only [hb_4,hb_5,bz,if_true,if_false,Bool.false_eq_true])).symm,trivial⟩
    refine yg 4 hb_5 (yg 4 hb_5 (yg 4 hb_5 (yg 4 hb_5 ?_)))
    rcases bool_cases (x2.Kind==8) with hb_6 | hb_6
    ·refine yg 4 hb_6 (yg 4 hb_6 (yQ hb_6 (v_len_sl Ty.s29 rfl (yg 4 hb_6 (yQ hb_5 (v_pickT (v:=.bool (((p2.Out).length:Int)==2000)) rfl hb_6 rfl (sQ (v_pickF (v:=.bool (((p2.Out).length:Int)==2000)) rfl hb_5 rfl (RS.nil ?_)))))))))
     exact T.sub (hK () trivial) ⟨rfl,rfl,rfl,rfl,(congrArg AV.bool (by simp only [hb_4,hb_5,hb_6,bz,if_true,if_false,Bool.false_eq_true])).symm,trivial⟩
    refine sN hb_6 (sN hb_6 (sN hb_6 (sN hb_6 (yQ hb_5 (v_pickF (v:=.bool false) rfl hb_6 rfl (sQ (v_pickF (v:=.bool false) rfl hb_5 rfl (RS.nil ?_))))))))
    exact T.sub (hK () trivial) ⟨rfl,rfl,rfl,rfl,(congrArg AV.bool (by simp only [hb_4,hb_5,hb_6,bz,if_true,if_false,Bool.false_eq_true])).symm,trivial⟩
   refine sN hb_4 (sN hb_4 (sN hb_4 (sN hb_4 (sQ (v_pickF (v:=.bool false) rfl hb_4 rfl (go 1 4 (yg 4 rfl (yg 4 rfl (yg 4 rfl (yg 4 rfl ?_))))))))))
   rcases bool_cases (x2.Kind==8) with hb_7 | hb_7
   ·refine yg 4 hb_7 (yg 4 hb_7 (yQ hb_7 (v_len_sl Ty.s29 rfl (yg 4 hb_7 (yQ rfl (v_pickT (v:=.bool (((p2.Out).length:Int)==2000)) rfl hb_7 rfl (sQ (v_pickF (v:=.bool (((p2.Out).length:Int)==2000)) rfl rfl rfl (RS.nil ?_)))))))))
    exact T.sub (hK () trivial) ⟨rfl,rfl,rfl,rfl,(congrArg AV.bool (by simp only [hb_4,hb_7,bz,if_true,if_false,Bool.false_eq_true])).symm,trivial⟩
   refine sN hb_7 (sN hb_7 (sN hb_7 (sN hb_7 (yQ rfl (v_pickF (v:=.bool false) rfl hb_7 rfl (sQ (v_pickF (v:=.bool false) rfl rfl rfl (RS.nil ?_))))))))
   exact T.sub (hK () trivial) ⟨rfl,rfl,rfl,rfl,(congrArg AV.bool (by simp only [hb_4,hb_7,bz,if_true,if_false,Bool.false_eq_true])).symm,trivial⟩
  refine T.region (go 3 5 ?_)
  rcases bool_cases (!x4.2) with hb_1 | hb_1
  ·replace hz:=ite_T hz hb_1
   refine sN hb_1 (sN hb_1 (sN hb_1 (sN hb_1 (sN hb_1 (sQ (v_pickT (v:=.bool true) rfl hb_1 rfl (RS.nil ?_)))))))
   exact T.weakR (hK () trivial) (Weak.mkN [] [1,2,3,4] (by decide) (none_kept _) rfl ⟨rn_ptr rfl,rn_ptr rfl,rn_ptr rfl,rn_ptr rfl,rn_bool ((congrArg (fun p=>p) (Option.some.inj hz)).symm),trivial⟩ (rw_bs (encState p2) rfl (rw_bs (encMove p3) rfl (rw_bs (encNode x2) rfl (rw_bs (encItem x4.1) rfl (rw_nil))))))
  replace hz:=ite_F hz hb_1
  obtain ⟨x5,hx5,hz⟩:=bind_some hz
  obtain ⟨x6,hx6,hz⟩:=bind_some hz
  refine yg 5 hb_1 (yg 5 hb_1 (yO hb_1 (cD (move_outs_c x2 x4.1 x5 hx5) ⟨rfl,(yg 5 hb_1 (yO hb_1 (o_callF (ac:=[sL encI x5,.func 96 [.ptr 1 0,.ptr 0 0]]) (as0:=[sL encI x5,.func 96 [.ptr 0 0,.ptr 1 0]]) (aw0:=[.box (encState p2),.box (encNet p0)]) (aw1:=[.box (encState p2),.box (encNet p0)]) (aw2:=[.box (encNet p0),.box (encState p2),.box (encMove p3),.box (encNode x2),.box (encItem x4.1)]) (v:=.bool x6) (v':=.bool x6) (n0:=5) (n1:=2) [1,0] rfl rfl rfl rfl (by decide) (rw_box (cs:=(encState p2)) (ds:=(encState p2)) rfl ⟨rn_s rfl,rn_s rfl,rn_s rfl,rn_s rfl,rn_s rfl,trivial⟩ (rw_box (cs:=(encNet p0)) (ds:=(encNet p0)) rfl ⟨rn_s rfl,rn_int rfl,rn_int rfl,trivial⟩ (rw_nil))) ⟨rn_s rfl,rn_func ⟨rn_ptr rfl,rn_ptr rfl,trivial⟩,trivial⟩ (slices_ContainsFunc_int_x9c8e_c x5 p2.At p2.Rings p2.Memory p2.Choices p2.Out p0.Nodes p0.Rings p0.Room x6 hx6) rfl (rm_pure (pure_bool _)) ⟨.inl ⟨1,_,by decide,rfl,rom_box (cs:=(encNet p0)) (ds:=(encNet p0)) ⟨rm_pure (pure_map encNode_p _),rm_pure (pure_int _ _),rm_pure (pure_int _ _),trivial⟩⟩,.inl ⟨0,_,by decide,rfl,rom_box (cs:=(encState p2)) (ds:=(encState p2)) ⟨rm_pure (pure_map encI_p _),rm_pure (pure_map (encL_p encItem_p) _),rm_pure (pure_map encMemory_p _),rm_pure (pure_map encChoice_p _),rm_pure (pure_map encItem_p _),trivial⟩⟩,.inr ⟨rfl,rfl⟩,.inr ⟨rfl,rfl⟩,.inr ⟨rfl,rfl⟩,trivial⟩ (sQ (v_pickF (v:=.bool x6) rfl hb_1 rfl (RS.nil ?_))))))⟩)))
  exact T.weakR (hK () trivial) (Weak.mkN [] [1,2,3,4] (by decide) (none_kept _) rfl ⟨rn_ptr rfl,rn_ptr rfl,rn_ptr rfl,rn_ptr rfl,rn_bool ((congrArg (fun p=>p) (Option.some.inj hz)).symm),trivial⟩ (rw_bs (encState p2) rfl (rw_bs (encMove p3) rfl (rw_bs (encNode x2) rfl (rw_bs (encItem x4.1) rfl (rw_nil))))))
theorem move_ready_c (p0:Net) (p1:List (List Item)) (p2:State) (r:List Move) (h:move_ready p0 p1 p2=some r):FnO Try.prog 51 [.agg (encNet p0),sL (encL encItem) p1,.agg (encState p2)] (.ref 0) [aR 57 2 encMove r]:=by
  unfold move_ready at h
  refine fnT 0 Try.func51 Try.ntmps51 ?_
  refine T.seq (T.region (go 3 0 (RS.nil (T.seq (T.region (go 1 2 (RS.nil (T.seq (T.seq ?_)))))))))
  refine T.region (go 2 2 (sQ (v_len_sl Ty.s22 rfl (go 1 2 (RS.nil (T.block (T.iter (fun ss_27:Int × (List Move)=>mkA 46 [(1,sL (encL encItem) p1),(3,.ptr 0 0),(5,.ptr 1 0),(7,.ref 2),(14,sL encNode p0.Nodes),(15,iI ((p0.Nodes).length:Int)),(16,iI ss_27.1)]) (fun ss_27=>[.box (encNet p0),.box (encState p2),aR 57 2 encMove ss_27.2]) h (wk [(7,57,2)] [0,1,2] 2 rfl) (fun ss_27 v_28 h hv_28=>?_))))))))
  obtain ⟨s1,s2⟩:=ss_27
  replace h:move_ready_l3 p0 p1 p2 s1 s2=some v_28:=h
  try dsimp only
  unfold move_ready_l3 at h
  refine T.seq (T.region (go 1 3 (RS.nil (T.seq (T.ci h rfl (fun hb_29 h=>?_) (fun hb_29 h=>?_))))))
  ·refine T.skip (T.seq (T.block (T.seq ?_)))
   obtain ⟨x4,hx4,h⟩:=bind_some h
   refine T.region (go 1 3 (sQ (v_index_sl Ty.s22 (fun _=>rfl) rfl rfl hx4 (go 4 3 (RS.nil (T.seq (T.region (go 1 4 (RS.nil (T.join (Z:=Int) (fun zz_31=>mkA 46 [(1,sL (encL encItem) p1),(3,.ptr 0 0),(5,.ptr 1 0),(7,.ref 2),(8,iI s1),(10,iI zz_31),(14,sL encNode p0.Nodes),(15,iI ((p0.Nodes).length:Int)),(16,iI s1)]) (fun zz_31=>[.box (encNet p0),.box (encState p2),aR 57 2 encMove s2]) (fun zz_31=>move_ready_k2 p0 p1 s1 p2 s2 zz_31=some v_28) (fun zz_31 h=>?_) (fun hK2=>?_)))))))))))
   ·revert h;revert zz_31;intro z5 h
    replace h:move_ready_k2 p0 p1 s1 p2 s2 z5=some v_28:=h
    try dsimp only
    unfold move_ready_k2 at h
    refine T.seq (T.region (go 2 3 (RS.nil (T.block (T.iter (fun ss_36:Int × (List Move)=>mkA 46 [(1,sL (encL encItem) p1),(3,.ptr 0 0),(5,.ptr 1 0),(7,.ref 2),(8,iI s1),(14,sL encNode p0.Nodes),(15,iI ((p0.Nodes).length:Int)),(16,iI s1),(27,iI z5),(28,iI ss_36.1)]) (fun ss_36=>[.box (encNet p0),.box (encState p2),aR 57 2 encMove ss_36.2]) h (wk [] [0,1,2] 3 rfl) (fun ss_36 v_37 h hv_37=>?_))))))
    obtain ⟨s6,s7⟩:=ss_36
    replace h:move_ready_l1 p0 p1 s1 p2 z5 s6 s7=some v_37:=h
    try dsimp only
    unfold move_ready_l1 at h
    refine T.seq (T.region (go 1 3 (RS.nil (T.seq (T.ci h rfl (fun hb_38 h=>?_) (fun hb_38 h=>?_))))))
    ·refine T.skip (T.seq (T.block (T.seq (T.region (go 2 3 (RS.nil (T.seq (T.region (go 5 3 ?_)))))))))
     refine RS.nil (T.seq ?_)
     obtain ⟨x9,hx9,h⟩:=bind_some h
     refine T.region (go 4 4 (sO (cF (move_can_c p0 p1 p2 (⟨s1,s6⟩:Move) x9 hx9) ⟨rfl,(RS.nil (T.ci h rfl (fun hb_39 h=>?_) (fun hb_39 h=>?_)))⟩)))
     ·obtain ⟨x10,hx10,h⟩:=bind_some h
      refine T.region (go 2 4 (sO (o_buildSlice (rows:=List.map encMove [(⟨s1,s6⟩:Move)]) (vs:=[.agg [iI s1,iI s6]]) Ty.s53 Ty.z57 rfl rfl rfl rfl rfl rfl (sO (o_app_ref (en:=encMove) (xs:=s7) (ys:=([(⟨s1,s6⟩:Move)]:List Move)) Ty.s53 (fun _=>rfl) rfl rfl rfl hx10 rfl rfl (go 1 6 (RS.nil (T.region (go 2 6 (RS.nil ?_))))))))))
      exact ⟨(IntKind.i64.wrap (s6+1),x10),(Option.some.inj h).symm,wk [] [0,1,5] 6 rfl⟩
     refine T.skip (T.region (go 2 4 (RS.nil ?_)))
     exact ⟨(IntKind.i64.wrap (s6+1),s7),(Option.some.inj h).symm,wk [] [0,1,2] 4 rfl⟩
    refine T.exit ?_
    obtain ⟨w_40,h,hw_40⟩:=map_inr h
    replace h:=h.trans (congrArg some (hv_37 _ hw_40))
    refine T.region (go 2 3 (RS.nil ?_))
    exact ⟨(IntKind.i64.wrap (s1+1),s7),(Option.some.inj h).symm,wk [] [0,1,2] 3 rfl⟩
   refine T.seq (T.region (go 3 4 (RS.nil (T.ci h rfl (fun hb_41 h=>?_) (fun hb_41 h=>?_)))))
   ·refine T.region (go 2 4 (sQ (v_len_sl Ty.s26 rfl (go 1 4 (RS.nil ?_)))))
    exact T.weakR (hK2 ((x4.In).length:Int) h) (wk [] [0,1,2] 4 rfl)
   refine T.skip ?_
   exact T.weakR (hK2 1 h) (wk [] [0,1,2] 4 rfl)
  refine T.exit ?_
  obtain ⟨w_42,h,hw_42⟩:=map_inr h
  replace h:=h.trans (congrArg some (hv_28 _ hw_42))
  refine T.seq (T.region (go 2 3 (RS.nil ?_)))
  cases h
  exact tO [] [2] 3
theorem slices_Clone_Item_c (p0 r:List Item) (h:slices_Clone_Item p0=some r):FnO Try.prog 76 [.sl (List.map encItem p0)] (.ref 0) [.arr 46 3 (List.map encItem r)]:=by
  have hr:p0=r:=by
    unfold slices_Clone_Item app at h
    split at h
    · simpa using h
    · cases h
  refine fn_of_T (N:=0) rfl Try.func76 rfl (by kernel_rfl) Try.ntmps76 rfl ?_
  show T _ _ _ _ (mkA 8 [(0,.sl (List.map encItem p0))]) []
  refine T.seq ?_
  refine T.region ?_
  refine RS.op rfl (OP.q rfl (v_assign (v:=.nils) rfl ?_))
  refine RS.nil ?_
  refine T.seq ?_
  refine T.seq ?_
  refine T.region ?_
  refine RS.op rfl (OP.q rfl (v_move (v:=.sl (List.map encItem p0)) rfl ?_))
  refine RS.op rfl (OP.q rfl (v_nileq Ty.s29 rfl rfl (fun z hz=>?_)))
  refine RS.nil ?_
  refine T.cond (b:=z) rfl (fun hb=>?_) (fun hb=>?_)
  · refine T.seq ?_
    refine T.region ?_
    refine RS.op rfl (OP.q rfl (v_assign (v:=.nils) rfl ?_))
    refine RS.nil ?_
    refine T.ret ?_
    refine res_tmpA (v:=.nils) rfl ?_
    refine res_done ?_
    have h0:p0=[]:=List.map_eq_nil_iff.1 (hz hb)
    exact ret_own (.ref 0) [(0,46,3)] [0] (by decide) (none_kept _) rfl (rn_ref rfl) (rw_arr (en:=encItem) (ys:=[]) rfl encItem_p (by rw [← hr,h0]) (rw_nil)) ⟨rfl,rfl⟩
  · refine T.skip ?_
    refine T.seq ?_
    refine T.region ?_
    refine RS.op rfl (o_buildSlice (rows:=List.map encItem []) (vs:=[]) Ty.s29 Ty.z46 rfl rfl rfl rfl rfl (aw':=[.arr 46 3 (List.map encItem [])]) rfl ?_)
    refine RS.op rfl (OP.q rfl (v_move (v:=.sl (List.map encItem p0)) rfl ?_))
    refine RS.op rfl (o_app_ref (en:=encItem) (xs:=([]:List Item)) (ys:=p0) (r:=r) Ty.s29 (fun _=>rfl) rfl rfl rfl h rfl (aw':=[.dead,.arr 46 3 (List.map encItem r)]) rfl ?_)
    refine RS.op rfl (OP.q rfl (v_assign (v:=.ref 1) rfl ?_))
    refine RS.nil ?_
    refine T.ret ?_
    refine res_tmpA (v:=.ref 1) rfl ?_
    refine res_done ?_
    exact ret_own (.ref 0) [] [1] (by decide) (none_kept _) rfl (rn_ref rfl) (rw_arr rfl encItem_p rfl (rw_nil)) ⟨rfl,rfl⟩
theorem ring_Take_c (p0:List Item) (r:Item × (List Item) × Int) (h:ring_Take p0=some r):FnO Try.prog 83 [sL encItem p0] (.tup [.agg (encItem r.1),.ref 0,iI r.2.2]) [aR 46 3 encItem r.2.1]:=by
  unfold ring_Take at h
  refine fnT 0 Try.func83 Try.ntmps83 ?_
  refine T.seq (T.region (go 3 0 (RS.nil (T.seq (T.seq (T.region (go 1 1 (sQ (v_len_sl Ty.s29 rfl (go 1 1 ?_))))))))))
  refine RS.nil (T.ci h rfl (fun hb_1 h=>?_) (fun hb_1 h=>?_))
  ·refine T.seq (T.region (go 4 1 (RS.nil ?_)))
   cases h
   exact tO [(1,46,3)] [1] 1
  refine T.skip (T.seq (T.seq (T.region (go 1 1 (sQ (v_len_sl Ty.s29 rfl (go 1 1 (RS.nil (T.ci h rfl (fun hb_2 h=>?_) (fun hb_2 h=>?_))))))))))
  ·refine T.seq (T.region (go 4 1 (RS.nil ?_)))
   cases h
   exact tO [(1,46,3)] [1] 1
  refine T.skip (T.seq ?_)
  obtain ⟨x4,hx4,h⟩:=bind_some h
  obtain ⟨x5,hx5,h⟩:=bind_some h
  obtain ⟨x6,hx6,h⟩:=bind_some h
  refine T.drawn mixed (k:=9) rfl ?_
  apply RA.jn 3 #[true,true,true,true,true,true,false,false,false];intro hS3
  ·refine rq [0] 8 (r0 1 rfl (v_index_sl Ty.s29 (fun _=>rfl) rfl rfl hx4 (rq [3] 6 (r0 4 rfl (v_slice_sl Ty.s29 (fun _=>rfl) rfl rfl rfl hx5 (ra2 2 5 ?_ ?_))))))
   ·refine og 1 ⟨rfl,(ra1 5 (oO rfl (cO 1 (slices_Clone_Item_c x5 x6 hx6) ⟨rfl,?_⟩)))⟩
    exact raE hS3
   ·refine oO rfl (cO 1 (slices_Clone_Item_c x5 x6 hx6) ⟨rfl,(ra1 2 (og 2 ⟨rfl,?_⟩))⟩)
    exact raT hS3
  refine ra1 6 (og 2 ⟨rfl,(rq [7,8] 0 (RA.done (by decide +kernel) ?_))⟩)
  cases h
  exact tO [] [1] 2
theorem ring_Put_c (p0:List Item) (p1:Int) (p2:Item) (r:(List Item) × Int) (h:ring_Put p0 p1 p2=some r):FnO Try.prog 86 [sL encItem p0,iI p1,.agg (encItem p2)] (.tup [.ref 0,iI r.2]) [aR 46 3 encItem r.1]:=by
  unfold ring_Put at h
  refine fnT 0 Try.func86 Try.ntmps86 ?_
  refine T.seq (T.region (go 3 0 (RS.nil (T.seq (T.join (Z:=Unit) (fun _=>mkA 27 [(0,sL encItem p0),(1,iI p1),(5,.ptr 0 0),(13,.bool ((decide (p1<1)) || decide (p1 > 6)))]) (fun _=>[.box (encItem p2)]) (fun _=>True) (fun _ _=>?_) (fun hK=>?_))))))
  ·refine T.ci h rfl (fun hb_2 h=>?_) (fun hb_2 h=>?_)
   ·refine T.seq (T.region (go 2 1 (RS.nil ?_)))
    cases h
    exact tO [(0,46,3)] [1] 1
   refine T.skip (T.seq (T.seq (T.region (go 1 1 (sQ (v_len_sl Ty.s29 rfl (go 2 1 (RS.nil (T.ci h rfl (fun hb_3 h=>?_) (fun hb_3 h=>?_))))))))))
   ·refine T.seq (T.region (go 2 1 (RS.nil ?_)))
    cases h
    exact tO [(0,46,3)] [1] 1
   refine T.skip (T.seq (T.seq (T.region (go 1 1 (sQ (v_len_sl Ty.s29 rfl (go 2 1 (RS.nil (T.ci h rfl (fun hb_4 h=>?_) (fun hb_4 h=>?_))))))))))
   ·refine T.seq (T.region (go 2 1 (RS.nil ?_)))
    cases h
    exact tO [(0,46,3)] [1] 1
   refine T.skip (T.seq ?_)
   obtain ⟨x4,hx4,h⟩:=bind_some h
   obtain ⟨x5,hx5,h⟩:=bind_some h
   refine T.drawn mixed (k:=7) rfl ?_
   apply RA.jn 3 #[true,true,true,true,false,false,false];intro hS5
   apply RA.jn 4 #[true,true,true,false,false,false,false];intro hS6
   ·refine rq [0] 6 (ra2 1 2 ?_ ?_)
    ·refine oO rfl (cO 1 (slices_Clone_Item_c p0 x4 hx4) ⟨rfl,(ra1 2 (og 2 ⟨rfl,?_⟩))⟩)
     exact raE hS6
    ·refine og 1 ⟨rfl,(ra2 1 3 ?_ ?_)⟩
     ·refine oO rfl (cO 1 (slices_Clone_Item_c p0 x4 hx4) ⟨rfl,?_⟩)
      exact raT hS6
     ·refine oO rfl (o_buildSlice (rows:=List.map encItem [p2]) (vs:=[.agg (encItem p2)]) Ty.s29 Ty.z46 rfl rfl rfl rfl rfl rfl (ra1 1 (oO rfl (cO 2 (slices_Clone_Item_c p0 x4 hx4) ⟨rfl,?_⟩))))
      exact raE hS5
   ·refine ra1 3 (oO rfl (o_buildSlice (rows:=List.map encItem [p2]) (vs:=[.agg (encItem p2)]) Ty.s29 Ty.z46 rfl rfl rfl rfl rfl rfl ?_))
    exact raV hS5 [0,2,1] rfl
   refine ra1 4 (oO rfl (o_app_ref (en:=encItem) (xs:=x4) (ys:=([p2]:List Item)) Ty.s29 (fun _=>rfl) rfl rfl rfl hx5 rfl rfl (rq [5,6] 0 (RA.done (by decide +kernel) ?_))))
   cases h
   exact tO [] [3] 4
  refine T.region (go 3 1 ?_)
  rcases bool_cases (decide (p1<1)) with hb_1 | hb_1
  ·refine sN hb_1 (sN hb_1 (sQ (v_pickT (v:=.bool true) rfl hb_1 rfl (RS.nil ?_))))
   exact T.sub (hK () trivial) ⟨rfl,rfl,rfl,(congrArg AV.bool (by simp only [hb_1,bz,if_true,if_false,Bool.false_eq_true])).symm,trivial⟩
  refine yg 1 hb_1 (yg 1 hb_1 (sQ (v_pickF (v:=.bool (decide (p1 > 6))) rfl hb_1 rfl (RS.nil ?_))))
  exact T.sub (hK () trivial) ⟨rfl,rfl,rfl,(congrArg AV.bool (by simp only [hb_1,bz,if_true,if_false,Bool.false_eq_true])).symm,trivial⟩
theorem move_do_x5aa6_c (p0:Net) (p1:List (List Item)) (p2:Move) (p3:List Int) (p4:List (List Item)) (p5:List Memory) (p6:List Choice) (p7:List Item) (r:(List Int) × (List (List Item)) × (List Memory) × (List Choice) × (List Item)) (h:move_do_x5aa6 p0 p1 p2 p3 p4 p5 p6 p7=some r):FnX Try.prog 52 [.agg (encNet p0),sL (encL encItem) p1,.ptr 0 0,.agg (encMove p2)] [.box [.ref 1,.ref 2,.ref 3,.ref 4,.ref 5],aR 3 1 encI p3,aR 29 1 (encL encItem) p4,aR 66 3 encMemory p5,aR 94 2 encChoice p6,aR 46 3 encItem p7] (.tup []) [.box [.ref 1,.ref 2,.ref 3,.ref 6,.ref 7],aR 3 1 encI r.1,aR 29 1 (encL encItem) r.2.1,aR 66 3 encMemory r.2.2.1,.dead,.dead,aR 94 2 encChoice r.2.2.2.1,aR 46 3 encItem r.2.2.2.2]:=by
  unfold move_do_x5aa6 at h
  refine fnT 6 Try.func52 Try.ntmps52 ?_
  refine T.mvB 0 4 5 (cs:=[.ref 1,.ref 2,.ref 3,.ref 4,.ref 5]) rfl rfl rfl rfl (cs':=[.ref 1,.ref 2,.ref 3,.ref 4,.ref 6]) rfl rfl (T.mvB 0 3 4 (cs:=[.ref 1,.ref 2,.ref 3,.ref 4,.ref 6]) rfl rfl rfl rfl (cs':=[.ref 1,.ref 2,.ref 3,.ref 7,.ref 6]) rfl rfl (T.seq (T.region (go 2 8 (RS.nil (T.seq ?_))))))
  obtain ⟨x2,hx2,h⟩:=bind_some h
  refine T.region (go 4 10 (sQ (v_index_sl Ty.s22 (fun _=>rfl) rfl rfl hx2 (go 3 10 (RS.nil (T.seq ?_))))))
  obtain ⟨x4,hx4,h⟩:=bind_some h
  refine T.drawn mixed (k:=13) rfl ?_
  apply RA.jn 2 #[true,true,true,true,true,true,true,true,true,true,true,false,false];intro hS1
  ·refine rq [1,2,3] 10 (rL [0,6,7,8,9,11,12] 0 rfl (rL [4,6,7,8,9,11,12] 4 rfl (rL [5,6,7,8,9,11,12] 5 rfl (ra2 6 10 ?_ ?_))))
   ·refine oO rfl (cF (move_head_c p0 p1 (⟨p3,p4,p5,p6,p7⟩:State) p2 x4 hx4) ⟨rfl,(rq [7,8,9] 3 (ra1 10 (og 11 ⟨rfl,?_⟩)))⟩)
    exact raE hS1
   ·refine og 11 ⟨rfl,(ra1 6 (oO rfl (cF (move_head_c p0 p1 (⟨p3,p4,p5,p6,p7⟩:State) p2 x4 hx4) ⟨rfl,(rq [7,8,9] 2 ?_)⟩)))⟩
    exact raT hS1
  refine ra1 11 (og 12 ⟨rfl,(rq [12] 0 (RA.done (by decide +kernel) (T.join (Z:=(List Int) × (List (List Item))) (fun zz_21=>mkA 162 [(2,.ptr 0 0),(4,.ptr 6 0),(7,.ptr 7 0),(8,.ptr 8 0),(9,.ptr 9 0)]) (fun zz_21=>[.box [.ref 1,.ref 2,.ref 3,.ref 10,.ref 11],aR 3 1 encI zz_21.1,aR 29 1 (encL encItem) zz_21.2,aR 66 3 encMemory p5,.dead,.dead,.box (encNet p0),.box (encMove p2),.box (encNode x2),.box (encItem x4.1),aR 94 2 encChoice p6,aR 46 3 encItem p7]) (fun zz_21=>move_do_x5aa6_k4 p0 p2 x2 x4 p5 p6 p7 zz_21.1 zz_21.2=some r) (fun zz_21 h=>?_) (fun hK4=>?_))))⟩)
  ·obtain ⟨z16,z17⟩:=zz_21
   replace h:move_do_x5aa6_k4 p0 p2 x2 x4 p5 p6 p7 z16 z17=some r:=h
   try dsimp only
   unfold move_do_x5aa6_k4 at h
   refine T.seq ?_
   obtain ⟨x19,hx19,h⟩:=bind_some h
   refine T.region (go 2 12 (sO (cD (move_outs_c x2 x4.1 x19 hx19) ⟨rfl,(go 1 12 (RS.nil (T.join (Z:=Int × (List Choice)) (fun zz_23=>mkA 162 [(2,.ptr 0 0),(4,.ptr 6 0),(7,.ptr 7 0),(8,.ptr 8 0),(9,.ptr 9 0),(11,sL encI x19)]) (fun zz_23=>[.box [.ref 1,.ref 2,.ref 3,.ref 10,.ref 11],aR 3 1 encI z16,aR 29 1 (encL encItem) z17,aR 66 3 encMemory p5,.dead,.dead,.box (encNet p0),.box (encMove p2),.box (encNode x2),.box [iI x4.1.Key,iI x4.1.Val,iI zz_23.1],aR 94 2 encChoice zz_23.2,aR 46 3 encItem p7]) (fun zz_23=>move_do_x5aa6_k3 p0 p2 x2 x4 p5 p7 z16 z17 x19 zz_23.1 zz_23.2=some r) (fun zz_23 h=>?_) (fun hK3=>?_))))⟩)))
   ·obtain ⟨z22,z23⟩:=zz_23
    replace h:move_do_x5aa6_k3 p0 p2 x2 x4 p5 p7 z16 z17 x19 z22 z23=some r:=h
    try dsimp only
    unfold move_do_x5aa6_k3 at h
    refine T.seq ?_
    obtain ⟨x29,hx29,h⟩:=bind_some h
    obtain ⟨x30,hx30,h⟩:=bind_some h
    obtain ⟨x31,hx31,h⟩:=bind_some h
    obtain ⟨x32,hx32,h⟩:=bind_some h
    obtain ⟨x33,hx33,h⟩:=bind_some h
    refine T.drawn mixed (k:=27) rfl ?_
    apply RA.jn 2 #[true,true,true,true,true,true,true,true,true,true,true,true,true,true,true,true,true,true,true,true,true,true,true,true,true,false,false];intro hS24
    apply RA.jn 4 #[true,true,true,true,true,false,true,true,true,true,true,true,true,true,true,true,true,true,true,true,true,true,true,true,false,false,false];intro hS25
    apply RA.jn 8 #[true,true,true,true,true,true,true,true,true,true,true,true,true,true,true,true,true,true,true,false,false,false,false,false,false,false,false];intro hS26
    apply RA.jn 9 #[true,true,true,true,true,false,true,true,true,true,true,true,true,true,true,true,true,true,true,false,false,false,false,false,false,false,false];intro hS27
    apply RA.jn 9 #[true,true,true,false,true,true,true,true,true,true,true,true,true,true,true,true,true,true,true,false,false,false,false,false,false,false,false];intro hS28
    apply RA.jn 9 #[true,true,true,true,true,true,true,true,true,true,true,true,true,true,true,true,true,false,true,false,false,false,false,false,false,false,false];intro hS29
    ·refine rq [0,1,2,4,6,8,10,11,12,14] 17 (rL [7,19,20,21,22,23,24,25,26] 7 rfl (rL [9,19,20,21,22,23,24,25,26] 9 rfl (rL [13,16,17,19,20,21,22,23,24,25,26] 13 rfl (rL [15,16,17,19,20,21,22,23,24,25,26] 15 rfl (r0 16 rfl (v_index_ref' (en:=encMemory) Ty.s27 rfl rfl rfl hx29 (rL [18,19,20,21,22,23,24,25,26] 18 rfl (ra3 3 5 17 ?_ ?_ ?_))))))))
     ·refine og 12 ⟨rfl,(ra2 5 17 ?_ ?_)⟩
      ·refine og 12 ⟨rfl,?_⟩
       exact raE hS29
      ·refine oO rfl (o_load_aptr' (en:=encMemory) (a:=x30) rfl rfl hx30 (loadRowA Ty.k66 Ty.c66 rfl (cs:=(encMemory x30)) rfl ?_))
       exact raE hS27
     ·refine og 12 ⟨rfl,(ra2 3 17 ?_ ?_)⟩
      ·refine og 12 ⟨rfl,?_⟩
       exact raT hS29
      ·refine oO rfl (o_load_aptr' (en:=encMemory) (a:=x30) rfl rfl hx30 (loadRowA Ty.k66 Ty.c66 rfl (cs:=(encMemory x30)) rfl ?_))
       exact raE hS28
     ·refine oO rfl (o_load_aptr' (en:=encMemory) (a:=x30) rfl rfl hx30 (loadRowA Ty.k66 Ty.c66 rfl (cs:=(encMemory x30)) rfl (ra3 3 5 19 ?_ ?_ ?_)))
      ·refine og 12 ⟨rfl,?_⟩
       exact raT hS27
      ·refine og 12 ⟨rfl,?_⟩
       exact raT hS28
      ·refine oO rfl (cD (stage_Step_c x2.Kind x2.A x30 (⟨x4.1.Key,x4.1.Val,z22⟩:Item) x31 hx31) ⟨rfl,(rq [20,21,22,23] 5 (rL [3,24,25,26] 3 rfl ?_))⟩)
       exact raE hS25
    ·refine ra1 17 (oO rfl (o_load_aptr' (en:=encMemory) (a:=x30) rfl rfl hx30 (loadRowA Ty.k66 Ty.c66 rfl (cs:=(encMemory x30)) rfl ?_)))
     exact raE hS26
    ·refine ra2 3 19 ?_ ?_
     ·refine og 12 ⟨rfl,?_⟩
      exact raT hS26
     ·refine oO rfl (cD (stage_Step_c x2.Kind x2.A x30 (⟨x4.1.Key,x4.1.Val,z22⟩:Item) x31 hx31) ⟨rfl,(rq [20,21,22,23] 4 (ra1 3 (og 12 ⟨rfl,(r0 24 rfl (v_index_ref' (en:=encMemory) Ty.s27 rfl rfl rfl hx32 ?_))⟩)))⟩)
      exact raE hS24
    ·refine ra2 5 19 ?_ ?_
     ·refine og 12 ⟨rfl,?_⟩
      exact raT hS26
     ·refine oO rfl (cD (stage_Step_c x2.Kind x2.A x30 (⟨x4.1.Key,x4.1.Val,z22⟩:Item) x31 hx31) ⟨rfl,(rq [20,21,22,23] 4 ?_)⟩)
      exact raT hS25
    ·refine ra1 19 (oO rfl (cD (stage_Step_c x2.Kind x2.A x30 (⟨x4.1.Key,x4.1.Val,z22⟩:Item) x31 hx31) ⟨rfl,(rq [20,21,22,23] 3 (r0 24 rfl (v_index_ref' (en:=encMemory) Ty.s27 rfl rfl rfl hx32 ?_)))⟩))
     exact raT hS24
    ·refine ra1 5 (og 12 ⟨rfl,(r0 24 rfl (v_index_ref' (en:=encMemory) Ty.s27 rfl rfl rfl hx32 ?_))⟩)
     exact raT hS24
    refine ra1 25 (oO rfl (o_store_aptr' (en:=encMemory) (a:=x33) (a':=x31.1) Ty.c66 Ty.i66 rfl (vs:=[iI x31.1.Sum,sL encKeyed x31.1.Keys,iI x31.1.Dep]) rfl rfl rfl hx33 rfl rfl rfl (ra1 26 (og 12 ⟨rfl,(RA.done (by decide +kernel) (T.join (Z:=List Item) (fun zz_31=>mkA 162 [(2,.ptr 0 0),(4,.ptr 6 0),(9,.ptr 7 0),(11,sL encI x19)]) (fun zz_31=>[.box [.ref 1,.ref 2,.ref 3,.ref 8,.ref 9],aR 3 1 encI z16,aR 29 1 (encL encItem) z17,aR 66 3 encMemory (List.set p5 x32 x31.1),.dead,.dead,.box (encNet p0),.box (encItem x31.2.1),aR 94 2 encChoice z23,aR 46 3 encItem zz_31]) (fun zz_31=>move_do_x5aa6_k2 p0 p5 z16 z17 x19 z23 x31 x32 zz_31=some r) (fun zz_31 h=>?_) (fun hK2=>?_)))⟩))))
    ·revert h;revert zz_31;intro z35 h
     replace h:move_do_x5aa6_k2 p0 p5 z16 z17 x19 z23 x31 x32 z35=some r:=h
     try dsimp only
     unfold move_do_x5aa6_k2 at h
     refine T.seq (T.region (go 1 10 (sQ (v_len_sl Ty.s26 rfl (go 1 10 (RS.nil (T.block (T.iter (fun ss_38:Int × (List (List Item))=>mkA 162 [(2,.ptr 0 0),(4,.ptr 6 0),(9,.ptr 7 0),(135,sL encI x19),(136,iI ((x19).length:Int)),(137,iI ss_38.1)]) (fun ss_38=>[.box [.ref 1,.ref 2,.ref 3,.ref 8,.ref 9],aR 3 1 encI z16,aR 29 1 (encL encItem) ss_38.2,aR 66 3 encMemory (List.set p5 x32 x31.1),.dead,.dead,.box (encNet p0),.box (encItem x31.2.1),aR 94 2 encChoice z23,aR 46 3 encItem z35]) h (wk [] [0,1,2,3,4,5,6,7,8,9] 10 rfl) (fun ss_38 v_39 h hv_39=>?_)))))))))
     obtain ⟨s36,s37⟩:=ss_38
     replace h:move_do_x5aa6_l1 p0 p5 z16 x19 z23 x31 x32 z35 s36 s37=some v_39:=h
     try dsimp only
     unfold move_do_x5aa6_l1 at h
     refine T.seq (T.region (go 1 10 (RS.nil (T.seq (T.ci h rfl (fun hb_40 h=>?_) (fun hb_40 h=>?_))))))
     ·refine T.skip (T.seq (T.block (T.seq ?_)))
      obtain ⟨x39,hx39,h⟩:=bind_some h
      refine T.region (sQ (v_index_sl Ty.s26 (fun _=>rfl) rfl rfl hx39 (go 2 10 (RS.nil ?_))))
      obtain ⟨x40,hx40,h⟩:=bind_some h
      obtain ⟨x41,hx41,h⟩:=bind_some h
      obtain ⟨x42,hx42,h⟩:=bind_some h
      obtain ⟨x43,hx43,h⟩:=bind_some h
      obtain ⟨x44,hx44,h⟩:=bind_some h
      refine T.drawn mixed (k:=21) rfl ?_
      apply RA.jn 1 #[true,true,true,true,true,true,true,true,true,true,true,true,true,true,true,true,true,true,true,true,false];intro hS41
      apply RA.jn 6 #[true,true,true,true,true,true,true,true,true,true,true,true,true,true,true,false,false,false,false,false,false];intro hS42
      ·refine rq [0,1,2,4,5,6,7,9,12] 12 (rL [8,10,11,15,16,17,18,19,20] 8 rfl (r0 10 rfl (v_index_ref' (en:=(encL encItem)) Ty.s25 rfl rfl rfl hx40 (rL [13,15,16,17,18,19,20] 13 rfl (rL [14,15,16,17,18,19,20] 14 rfl (ra2 3 11 ?_ ?_))))))
       ·refine og 10 ⟨rfl,(ra1 11 (oO rfl (o_load_aptr' (en:=(encL encItem)) (a:=x41) rfl rfl hx41 (loadRow1 Ty.k29 (c:=sL encItem x41) rfl ?_))))⟩
        exact raE hS42
       ·refine oO rfl (o_load_aptr' (en:=(encL encItem)) (a:=x41) rfl rfl hx41 (loadRow1 Ty.k29 (c:=sL encItem x41) rfl (ra2 3 15 ?_ ?_)))
        ·refine og 10 ⟨rfl,?_⟩
         exact raT hS42
        ·refine oO rfl (cO 10 (ring_Put_c x41 p0.Room x31.2.1 x42 hx42) ⟨rfl,(rq [16,17,18] 3 (ra1 3 (og 11 ⟨rfl,(r0 19 rfl (v_index_ref' (en:=(encL encItem)) Ty.s25 rfl rfl rfl hx43 ?_))⟩)))⟩)
         exact raE hS41
      ·refine ra1 15 (oO rfl (cO 10 (ring_Put_c x41 p0.Room x31.2.1 x42 hx42) ⟨rfl,(rq [16,17,18] 2 (r0 19 rfl (v_index_ref' (en:=(encL encItem)) Ty.s25 rfl rfl rfl hx43 ?_)))⟩))
       exact raT hS41
      refine ra1 20 (RO.fC 10 (oO rfl (o_store_aptr' (en:=(encL encItem)) (a:=x44) (a':=x42.1) Ty.c29 Ty.i29 rfl (vs:=[sL encItem x42.1]) rfl rfl rfl hx44 rfl rfl rfl (RA.done (by decide +kernel) (T.region (go 2 11 (RS.nil ?_)))))))
      exact ⟨(IntKind.i64.wrap (s36+1),(List.set s37 x43 x42.1)),(Option.some.inj h).symm,wk [] [0,1,2,3,4,5,6,7,8,9] 11 rfl⟩
     refine T.exit ?_
     obtain ⟨w_43,h,hw_43⟩:=map_inr h
     replace h:=h.trans (congrArg some (hv_39 _ hw_43))
     refine exN (res_done ?_)
     exact ret_norm (v:=.tup []) (aw1:=[.box [.ref 1,.ref 2,.ref 3,.ref 8,.ref 9],aR 3 1 encI z16,aR 29 1 (encL encItem) s37,aR 66 3 encMemory (List.set p5 x32 x31.1),.dead,.dead,.box (encNet p0),.box (encItem x31.2.1),aR 94 2 encChoice z23,aR 46 3 encItem z35]) (.tup []) [0,1,2,3,4,5,8,9] rfl (by decide) (by decide) (rn_tup trivial) (rw_box (cs:=[.ref 1,.ref 2,.ref 3,.ref 6,.ref 7]) (ds:=[.ref 1,.ref 2,.ref 3,.ref 8,.ref 9]) rfl ⟨rn_ref rfl,rn_ref rfl,rn_ref rfl,rn_ref rfl,rn_ref rfl,trivial⟩ (rw_arr rfl encI_p (congrArg (fun r:(List Int) × (List (List Item)) × (List Memory) × (List Choice) × (List Item)=>r.1) (Option.some.inj h)).symm (rw_arr rfl (encL_p encItem_p) (congrArg (fun r:(List Int) × (List (List Item)) × (List Memory) × (List Choice) × (List Item)=>r.2.1) (Option.some.inj h)).symm (rw_arr rfl encMemory_p (congrArg (fun r:(List Int) × (List (List Item)) × (List Memory) × (List Choice) × (List Item)=>r.2.2.1) (Option.some.inj h)).symm (rw_dead rfl (rw_dead rfl (rw_arr rfl encChoice_p (congrArg (fun r:(List Int) × (List (List Item)) × (List Memory) × (List Choice) × (List Item)=>r.2.2.2.1) (Option.some.inj h)).symm (rw_arr rfl encItem_p (congrArg (fun r:(List Int) × (List (List Item)) × (List Memory) × (List Choice) × (List Item)=>r.2.2.2.2) (Option.some.inj h)).symm (rw_nil))))))))) ⟨rfl,rfl⟩
    refine T.seq (T.region (go 3 12 (RS.nil (T.ci h rfl (fun hb_44 h=>?_) (fun hb_44 h=>?_)))))
    ·obtain ⟨x34,hx34,h⟩:=bind_some h
     refine T.drawn mixed (k:=11) rfl (rq [0,1,2,3] 7 (rL [4,7,8,9,10] 4 rfl (ra1 5 (og 12 ⟨rfl,(ra1 6 (oO rfl (o_buildSlice (rows:=List.map encItem [x31.2.1]) (vs:=[.agg (encItem x31.2.1)]) Ty.s29 Ty.z46 rfl rfl rfl rfl rfl rfl (ra1 7 (oO rfl (o_app_ref (en:=encItem) (xs:=p7) (ys:=([x31.2.1]:List Item)) Ty.s29 (fun _=>rfl) rfl rfl rfl hx34 rfl rfl (rq [8,9] 1 ?_)))))))⟩))))
     refine ra1 10 (og 14 ⟨rfl,(RA.done (by decide +kernel) ?_)⟩)
     exact T.weakR (hK2 x34 h) (wk [] [0,1,2,3,4,5,6,9,10,13] 14 rfl)
    refine T.skip ?_
    exact T.weakR (hK2 p7 h) (wk [] [0,1,2,3,4,5,6,9,10,11] 12 rfl)
   refine T.seq (T.region (go 3 12 (RS.nil (T.ci h rfl (fun hb_45 h=>?_) (fun hb_45 h=>?_)))))
   ·refine T.seq ?_
    obtain ⟨x21,hx21,h⟩:=bind_some h
    refine T.drawn mixed (k:=15) rfl (rq [0,1,2,3,5,7] 9 (rL [4,11,12,13,14] 4 rfl (rL [6,9,10,11,12,13,14] 6 rfl (ra1 8 (og 12 ⟨rfl,(rq [9] 5 (ra1 10 (oO rfl (o_buildSlice (rows:=List.map encChoice [(⟨p2.Node,p2.Lane⟩:Choice)]) (vs:=[.agg (encMove p2)]) Ty.s28 Ty.z94 rfl rfl rfl rfl rfl rfl (ra1 11 ?_)))))⟩)))))
    refine oO rfl (o_app_ref (en:=encChoice) (xs:=p6) (ys:=([(⟨p2.Node,p2.Lane⟩:Choice)]:List Choice)) Ty.s28 (fun _=>rfl) rfl rfl rfl hx21 rfl rfl (rq [12,13] 1 (ra1 14 (og 14 ⟨rfl,(RA.done (by decide +kernel) (T.region (go 4 14 (sQ (v_len_ref (en:=encChoice) Ty.s28 rfl rfl (go 2 14 (RS.nil ?_)))))))⟩))))
    exact T.weakR (hK3 (((x21).length:Int),x21) h) (wk [] [0,1,2,3,4,5,6,7,8,9,13,11] 14 rfl)
   refine T.skip ?_
   exact T.su (hK3 (x4.1.Dep,p6) h)
  refine T.seq (T.region (go 3 12 (RS.nil (T.ci h rfl (fun hb_46 h=>?_) (fun hb_46 h=>?_)))))
  ·obtain ⟨x5,hx5,h⟩:=bind_some h
   obtain ⟨x6,hx6,h⟩:=bind_some h
   obtain ⟨x7,hx7,h⟩:=bind_some h
   obtain ⟨x8,hx8,h⟩:=bind_some h
   refine T.drawn mixed (k:=11) rfl (rq [0,1,2,4] 7 (rL [3,6,7,8,9,10] 3 rfl (ra1 5 (og 12 ⟨rfl,(r0 6 rfl (v_index_ref' (en:=encI) Ty.s26 rfl rfl rfl hx5 (ra1 7 (oO rfl (o_load_aptr' (en:=encI) (a:=x6) rfl rfl hx6 (loadRow1 Ty.k3 (c:=iI x6) rfl (rq [8] 2 (r0 9 rfl (v_index_ref' (en:=encI) Ty.s26 rfl rfl rfl hx7 ?_)))))))))⟩))))
   refine ra1 10 (oO rfl (o_store_aptr' (en:=encI) (a:=x8) (a':=IntKind.i64.wrap (x6+1)) Ty.c3 Ty.i3 rfl (vs:=[iI (IntKind.i64.wrap (x6+1))]) rfl rfl rfl hx8 rfl rfl rfl (RA.done (by decide +kernel) ?_)))
   exact T.weakR (hK4 ((List.set p3 x7 (IntKind.i64.wrap (x6+1))),p4) h) (wk [] [0,1,2,3,4,5,8,9,10,11,7,6] 12 rfl)
  obtain ⟨x9,hx9,h⟩:=bind_some h
  obtain ⟨x10,hx10,h⟩:=bind_some h
  obtain ⟨x11,hx11,h⟩:=bind_some h
  obtain ⟨x12,hx12,h⟩:=bind_some h
  obtain ⟨x13,hx13,h⟩:=bind_some h
  obtain ⟨x14,hx14,h⟩:=bind_some h
  obtain ⟨x15,hx15,h⟩:=bind_some h
  refine T.drawn mixed (k:=29) rfl ?_
  apply RA.jn 1 #[true,true,true,true,true,true,true,true,true,true,true,true,true,true,true,true,true,true,true,true,true,true,true,true,true,true,true,true,false];intro hS47
  apply RA.jn 3 #[true,true,true,true,true,true,true,true,true,false,true,true,true,true,true,true,true,true,true,true,true,true,true,true,true,true,true,false,false];intro hS48
  apply RA.jn 5 #[true,true,true,true,true,true,true,false,false,false,true,true,true,true,true,true,true,true,true,true,true,true,true,true,true,true,true,false,false];intro hS49
  apply RA.jn 5 #[true,true,true,true,true,false,true,true,false,false,true,true,true,true,true,true,true,true,true,true,true,true,true,true,true,true,true,false,false];intro hS50
  apply RA.jn 7 #[true,true,true,true,true,true,true,true,true,true,true,true,true,true,true,true,true,true,true,true,true,true,false,false,false,false,false,false,false];intro hS51
  apply RA.jn 8 #[true,true,true,true,true,true,true,true,true,false,true,true,true,true,true,true,true,true,true,true,true,true,false,false,false,false,false,false,false];intro hS52
  apply RA.jn 8 #[true,true,true,false,true,true,true,true,true,true,true,true,true,true,true,true,true,true,true,true,true,true,false,false,false,false,false,false,false];intro hS53
  apply RA.jn 8 #[true,true,true,true,true,true,true,true,true,true,true,true,true,true,true,true,true,true,true,true,true,false,false,false,false,false,false,false,false];intro hS54
  apply RA.jn 9 #[true,true,true,false,true,true,true,true,true,false,true,true,true,true,true,true,true,true,true,true,true,true,false,false,false,false,false,false,false];intro hS55
  apply RA.jn 9 #[true,true,true,true,true,true,true,true,true,false,true,true,true,true,true,true,true,true,true,true,true,false,false,false,false,false,false,false,false];intro hS56
  apply RA.jn 10 #[true,true,true,true,true,false,true,true,false,false,true,true,true,true,true,true,true,true,true,true,true,true,false,false,false,false,false,false,false];intro hS57
  apply RA.jn 10 #[true,true,true,true,true,true,true,false,false,false,true,true,true,true,true,true,true,true,true,true,true,true,false,false,false,false,false,false,false];intro hS58
  apply RA.jn 10 #[true,true,true,false,true,true,true,true,true,false,true,true,true,true,true,true,true,true,true,true,true,false,false,false,false,false,false,false,false];intro hS59
  apply RA.jn 11 #[true,true,true,true,true,false,true,false,false,false,true,true,true,true,true,true,true,true,true,true,true,true,false,false,false,false,false,false,false];intro hS60
  apply RA.jn 11 #[true,true,true,false,true,true,true,false,false,false,true,true,true,true,true,true,true,true,true,true,true,true,false,false,false,false,false,false,false];intro hS61
  apply RA.jn 11 #[true,true,true,false,true,false,true,true,false,false,true,true,true,true,true,true,true,true,true,true,true,true,false,false,false,false,false,false,false];intro hS62
  apply RA.jn 11 #[true,true,true,true,true,false,true,true,false,false,true,true,true,true,true,true,true,true,true,true,true,false,false,false,false,false,false,false,false];intro hS63
  apply RA.jn 11 #[true,true,true,true,true,true,true,false,false,false,true,true,true,true,true,true,true,true,true,true,true,false,false,false,false,false,false,false,false];intro hS64
  ·refine rq [0,1,2,4,6,10,11,12,14,16] 19 (rL [13,20,21,22,23,24,25,26,27,28] 13 rfl (rL [15,18,19,20,21,22,23,24,25,26,27,28] 15 rfl (rL [17,18,19,20,21,22,23,24,25,26,27,28] 17 rfl (r0 18 rfl (v_index_sl Ty.s26 (fun _=>rfl) rfl rfl hx10 (rL [19,20,21,22,23,24,25,26,27,28] 19 rfl (r0 20 rfl (v_index_ref' (en:=(encL encItem)) Ty.s25 rfl rfl rfl hx11 (ra4 3 5 7 21 ?_ ?_ ?_ ?_)))))))))
   ·refine og 12 ⟨rfl,(ra3 5 7 21 ?_ ?_ ?_)⟩
    ·refine og 12 ⟨rfl,?_⟩
     exact raE hS64
    ·refine og 12 ⟨rfl,?_⟩
     exact raE hS63
    ·refine oO rfl (o_load_aptr' (en:=(encL encItem)) (a:=x12) rfl rfl hx12 (loadRow1 Ty.k29 (c:=sL encItem x12) rfl ?_))
     exact raE hS60
   ·refine og 12 ⟨rfl,(ra3 3 7 21 ?_ ?_ ?_)⟩
    ·refine og 12 ⟨rfl,?_⟩
     exact raT hS64
    ·refine og 12 ⟨rfl,(r0 8 rfl (v_index_sl Ty.s26 (fun _=>rfl) rfl rfl hx9 ?_))⟩
     exact raE hS59
    ·refine oO rfl (o_load_aptr' (en:=(encL encItem)) (a:=x12) rfl rfl hx12 (loadRow1 Ty.k29 (c:=sL encItem x12) rfl ?_))
     exact raE hS61
   ·refine og 12 ⟨rfl,(ra3 3 5 21 ?_ ?_ ?_)⟩
    ·refine og 12 ⟨rfl,?_⟩
     exact raT hS63
    ·refine og 12 ⟨rfl,(r0 8 rfl (v_index_sl Ty.s26 (fun _=>rfl) rfl rfl hx9 ?_))⟩
     exact raT hS59
    ·refine oO rfl (o_load_aptr' (en:=(encL encItem)) (a:=x12) rfl rfl hx12 (loadRow1 Ty.k29 (c:=sL encItem x12) rfl ?_))
     exact raE hS62
   ·refine oO rfl (o_load_aptr' (en:=(encL encItem)) (a:=x12) rfl rfl hx12 (loadRow1 Ty.k29 (c:=sL encItem x12) rfl (ra4 3 5 7 22 ?_ ?_ ?_ ?_)))
    ·refine og 12 ⟨rfl,?_⟩
     exact raT hS60
    ·refine og 12 ⟨rfl,?_⟩
     exact raT hS61
    ·refine og 12 ⟨rfl,?_⟩
     exact raT hS62
    ·refine oO rfl (cO 12 (ring_Take_c x12 x13 hx13) ⟨rfl,(rq [23,24,25,26] 7 (rL [3,27,28] 3 rfl (rL [5,8,9,27,28] 5 rfl ?_)))⟩)
     exact raE hS49
  ·refine ra2 7 21 ?_ ?_
   ·refine og 12 ⟨rfl,(r0 8 rfl (v_index_sl Ty.s26 (fun _=>rfl) rfl rfl hx9 ?_))⟩
    exact raE hS56
   ·refine oO rfl (o_load_aptr' (en:=(encL encItem)) (a:=x12) rfl rfl hx12 (loadRow1 Ty.k29 (c:=sL encItem x12) rfl ?_))
    exact raE hS58
  ·refine ra2 5 21 ?_ ?_
   ·refine og 12 ⟨rfl,(r0 8 rfl (v_index_sl Ty.s26 (fun _=>rfl) rfl rfl hx9 ?_))⟩
    exact raT hS56
   ·refine oO rfl (o_load_aptr' (en:=(encL encItem)) (a:=x12) rfl rfl hx12 (loadRow1 Ty.k29 (c:=sL encItem x12) rfl ?_))
    exact raE hS57
  ·refine ra3 3 5 22 ?_ ?_ ?_
   ·refine og 12 ⟨rfl,?_⟩
    exact raT hS57
   ·refine og 12 ⟨rfl,(r0 8 rfl (v_index_sl Ty.s26 (fun _=>rfl) rfl rfl hx9 ?_))⟩
    exact raE hS55
   ·refine oO rfl (cO 12 (ring_Take_c x12 x13 hx13) ⟨rfl,(rq [23,24,25,26] 6 (rL [3,27,28] 3 rfl ?_))⟩)
    exact raE hS50
  ·refine ra3 3 7 22 ?_ ?_ ?_
   ·refine og 12 ⟨rfl,?_⟩
    exact raT hS58
   ·refine og 12 ⟨rfl,(r0 8 rfl (v_index_sl Ty.s26 (fun _=>rfl) rfl rfl hx9 ?_))⟩
    exact raT hS55
   ·refine oO rfl (cO 12 (ring_Take_c x12 x13 hx13) ⟨rfl,(rq [23,24,25,26] 6 (rL [3,27,28] 3 rfl ?_))⟩)
    exact raT hS49
  ·refine ra3 5 7 22 ?_ ?_ ?_
   ·refine og 12 ⟨rfl,?_⟩
    exact raT hS58
   ·refine og 12 ⟨rfl,?_⟩
    exact raT hS57
   ·refine oO rfl (cO 12 (ring_Take_c x12 x13 hx13) ⟨rfl,(rq [23,24,25,26] 6 (rL [5,8,9,27,28] 5 rfl ?_))⟩)
    exact raT hS49
  ·refine ra3 3 9 21 ?_ ?_ ?_
   ·refine og 12 ⟨rfl,?_⟩
    exact raT hS56
   ·refine og 12 ⟨rfl,(ra2 3 21 ?_ ?_)⟩
    ·refine og 12 ⟨rfl,?_⟩
     exact raE hS54
    ·refine oO rfl (o_load_aptr' (en:=(encL encItem)) (a:=x12) rfl rfl hx12 (loadRow1 Ty.k29 (c:=sL encItem x12) rfl ?_))
     exact raE hS53
   ·refine oO rfl (o_load_aptr' (en:=(encL encItem)) (a:=x12) rfl rfl hx12 (loadRow1 Ty.k29 (c:=sL encItem x12) rfl ?_))
    exact raT hS55
  ·refine ra2 7 22 ?_ ?_
   ·refine og 12 ⟨rfl,(r0 8 rfl (v_index_sl Ty.s26 (fun _=>rfl) rfl rfl hx9 ?_))⟩
    exact raE hS52
   ·refine oO rfl (cO 12 (ring_Take_c x12 x13 hx13) ⟨rfl,(rq [23,24,25,26] 5 ?_)⟩)
    exact raT hS49
  ·refine ra2 5 22 ?_ ?_
   ·refine og 12 ⟨rfl,(r0 8 rfl (v_index_sl Ty.s26 (fun _=>rfl) rfl rfl hx9 ?_))⟩
    exact raT hS52
   ·refine oO rfl (cO 12 (ring_Take_c x12 x13 hx13) ⟨rfl,(rq [23,24,25,26] 5 ?_)⟩)
    exact raT hS50
  ·refine ra2 9 21 ?_ ?_
   ·refine og 12 ⟨rfl,?_⟩
    exact raT hS54
   ·refine oO rfl (o_load_aptr' (en:=(encL encItem)) (a:=x12) rfl rfl hx12 (loadRow1 Ty.k29 (c:=sL encItem x12) rfl ?_))
    exact raT hS52
  ·refine ra3 3 9 22 ?_ ?_ ?_
   ·refine og 12 ⟨rfl,?_⟩
    exact raT hS52
   ·refine og 12 ⟨rfl,?_⟩
    exact raT hS53
   ·refine oO rfl (cO 12 (ring_Take_c x12 x13 hx13) ⟨rfl,(rq [23,24,25,26] 4 (rL [3,27,28] 3 rfl ?_))⟩)
    exact raE hS48
  ·refine ra1 21 (oO rfl (o_load_aptr' (en:=(encL encItem)) (a:=x12) rfl rfl hx12 (loadRow1 Ty.k29 (c:=sL encItem x12) rfl ?_)))
   exact raE hS51
  ·refine ra2 3 22 ?_ ?_
   ·refine og 12 ⟨rfl,?_⟩
    exact raT hS51
   ·refine oO rfl (cO 12 (ring_Take_c x12 x13 hx13) ⟨rfl,(rq [23,24,25,26] 3 (ra1 3 (og 13 ⟨rfl,(r0 27 rfl (v_index_ref' (en:=(encL encItem)) Ty.s25 rfl rfl rfl hx14 ?_))⟩)))⟩)
    exact raE hS47
  ·refine ra2 9 22 ?_ ?_
   ·refine og 12 ⟨rfl,?_⟩
    exact raT hS51
   ·refine oO rfl (cO 12 (ring_Take_c x12 x13 hx13) ⟨rfl,(rq [23,24,25,26] 3 ?_)⟩)
    exact raT hS48
  ·refine ra1 22 (oO rfl (cO 12 (ring_Take_c x12 x13 hx13) ⟨rfl,(rq [23,24,25,26] 2 (r0 27 rfl (v_index_ref' (en:=(encL encItem)) Ty.s25 rfl rfl rfl hx14 ?_)))⟩))
   exact raT hS47
  ·refine ra1 5 (og 13 ⟨rfl,(r0 8 rfl (v_index_sl Ty.s26 (fun _=>rfl) rfl rfl hx9 ?_))⟩)
   exact raT hS48
  ·refine ra1 7 (og 13 ⟨rfl,(r0 8 rfl (v_index_sl Ty.s26 (fun _=>rfl) rfl rfl hx9 ?_))⟩)
   exact raT hS48
  ·refine ra1 9 (og 13 ⟨rfl,(r0 27 rfl (v_index_ref' (en:=(encL encItem)) Ty.s25 rfl rfl rfl hx14 ?_))⟩)
   exact raT hS47
  refine ra1 28 (RO.fC 12 (oO rfl (o_store_aptr' (en:=(encL encItem)) (a:=x15) (a':=x13.2.1) Ty.c29 Ty.i29 rfl (vs:=[sL encItem x13.2.1]) rfl rfl rfl hx15 rfl rfl rfl (RA.done (by decide +kernel) ?_))))
  exact T.weakR (hK4 (p3,(List.set p4 x14 x13.2.1)) h) (wk [] [0,1,2,3,4,5,8,9,10,11,7,6] 13 rfl)
end Go.Proofs.Ytfbmoockopakjaa
namespace Go.Proofs.Ytfbmoockopakjaa
open Go.RowKit
set_option linter.unusedVariables false
set_option linter.unusedSimpArgs false
set_option maxRecDepth 100000
set_option maxHeartbeats 4000000
set_option synthInstance.maxSize 100000
set_option synthInstance.maxHeartbeats 4000000
theorem move_Play_c (p0:Net) (p1:List (List Item)) (p2:List Int) (r:State × Int) (h:move_Play p0 p1 p2=some r):Fn Try.prog 12 [.agg (encNet p0),sL (encL encItem) p1,sL encI p2] (.tup [.agg (encState r.1),iI r.2]):=by
  unfold move_Play at h
  refine fnT 0 Try.func12 Try.ntmps12 ?_
  refine T.seq (T.region (go 3 0 (RS.nil (T.seq ?_))))
  obtain ⟨x2,hx2,h⟩:=bind_some h
  refine T.region (go 2 2 (sO (o_callF (ac:=[.agg (encNet p0),sL (encL encItem) p1]) (as0:=[.agg (encNet p0),sL (encL encItem) p1]) (aw0:=[]) (aw1:=[aR 3 1 encI x2.1.At,aR 29 1 (encL encItem) x2.1.Rings,aR 66 3 encMemory x2.1.Memory,aR 94 2 encChoice x2.1.Choices,aR 46 3 encItem x2.1.Out]) (aw2:=[.box (encNet p0),.box [.nils,.nils,.nils,.nils,.nils],aR 3 1 encI x2.1.At,aR 29 1 (encL encItem) x2.1.Rings,aR 66 3 encMemory x2.1.Memory,aR 94 2 encChoice x2.1.Choices,aR 46 3 encItem x2.1.Out]) (v:=.tup [.agg [.ref 0,.ref 1,.ref 2,.ref 3,.ref 4],iI x2.2]) (v':=.tup [.agg [.ref 2,.ref 3,.ref 4,.ref 5,.ref 6],iI x2.2]) (n0:=2) (n1:=5) [] rfl rfl rfl rfl (by decide) (rw_nil) ⟨rn_agg ⟨rn_s rfl,rn_int rfl,rn_int rfl,trivial⟩,rn_s rfl,trivial⟩ (FnX.of_fnO (move_Start_c p0 p1 x2 hx2)) rfl (rm_tup (cs:=[.agg [.ref 2,.ref 3,.ref 4,.ref 5,.ref 6],iI x2.2]) (ds:=[.agg [.ref 0,.ref 1,.ref 2,.ref 3,.ref 4],iI x2.2]) ⟨rm_agg (cs:=[.ref 2,.ref 3,.ref 4,.ref 5,.ref 6]) (ds:=[.ref 0,.ref 1,.ref 2,.ref 3,.ref 4]) ⟨rm_ref (by decide),rm_ref (by decide),rm_ref (by decide),rm_ref (by decide),rm_ref (by decide),trivial⟩,rm_pure (pure_int _ _),trivial⟩) ⟨.inr ⟨rfl,rfl⟩,.inr ⟨rfl,rfl⟩,.inl ⟨0,_,by decide,rfl,rom_arr encI_p⟩,.inl ⟨1,_,by decide,rfl,rom_arr (encL_p encItem_p)⟩,.inl ⟨2,_,by decide,rfl,rom_arr encMemory_p⟩,.inl ⟨3,_,by decide,rfl,rom_arr encChoice_p⟩,.inl ⟨4,_,by decide,rfl,rom_arr encItem_p⟩,trivial⟩ (go 6 7 (RS.nil (T.seq (T.seq (T.region (go 2 8 (RS.nil ?_))))))))))
  refine T.ci h rfl (fun hb_1 h=>?_) (fun hb_1 h=>?_)
  ·refine T.seq (T.region (go 4 8 (RS.nil ?_)))
   cases h
   exact tD
  refine T.skip (T.seq (T.seq (T.region (go 1 8 (sQ (v_len_sl Ty.s26 rfl (go 1 8 (RS.nil (T.ci h rfl (fun hb_2 h=>?_) (fun hb_2 h=>?_))))))))))
  ·refine T.seq (T.region (go 3 8 (RS.nil ?_)))
   cases h
   exact tD
  refine T.skip (T.seq (T.seq (T.region (go 1 8 (sQ (v_len_sl Ty.s26 rfl (go 1 8 (RS.nil (T.block (T.iter (fun ss_7:Int × (List Int) × (List (List Item)) × (List Memory) × (List Choice) × (List Item)=>mkA 58 [(1,sL (encL encItem) p1),(3,.ptr 0 0),(6,.ptr 1 0),(8,.ptr 2 0),(27,sL encI p2),(28,iI ((p2).length:Int)),(29,iI ss_7.1)]) (fun ss_7=>[.box (encNet p0),.box [.nils,.nils,.nils,.nils,.nils],.box [.ref 3,.ref 4,.ref 5,.ref 6,.ref 7],aR 3 1 encI ss_7.2.1,aR 29 1 (encL encItem) ss_7.2.2.1,aR 66 3 encMemory ss_7.2.2.2.1,aR 94 2 encChoice ss_7.2.2.2.2.1,aR 46 3 encItem ss_7.2.2.2.2.2]) h (wk [] [0,1,7,2,3,4,5,6] 8 rfl) (fun ss_7 v_8 h hv_8=>?_)))))))))))
  obtain ⟨s3,s4,s5,s6,s7,s8⟩:=ss_7
  replace h:move_Play_l1 p0 p1 p2 s3 s4 s5 s6 s7 s8=some v_8:=h
  try dsimp only
  unfold move_Play_l1 at h
  refine T.seq (T.region (go 1 8 (RS.nil (T.seq (T.ci h rfl (fun hb_9 h=>?_) (fun hb_9 h=>?_))))))
  ·refine T.skip (T.seq (T.block (T.seq ?_)))
   obtain ⟨x10,hx10,h⟩:=bind_some h
   refine T.region (sQ (v_index_sl Ty.s26 (fun _=>rfl) rfl rfl hx10 (go 2 8 (RS.nil (T.seq ?_)))))
   obtain ⟨x12,hx12,h⟩:=bind_some h
   refine T.region (go 3 8 (sO (cO 8 (move_ready_c p0 p1 (⟨s4,s5,s6,s7,s8⟩:State) x12 hx12) ⟨rfl,(go 1 9 (RS.nil (T.seq (T.seq (T.region (go 1 9 (sQ (v_len_ref (en:=encMove) Ty.s53 rfl rfl ?_))))))))⟩)))
   refine go 1 9 (RS.nil (T.ci h rfl (fun hb_10 h=>?_) (fun hb_10 h=>?_)))
   ·refine T.exit ?_
    obtain ⟨w_11,h,hw_11⟩:=map_inr h
    replace h:=h.trans (congrArg some (hv_8 _ hw_11))
    refine T.seq (T.region (go 3 9 (RS.nil ?_)))
    cases h
    exact tD
   refine T.skip ?_
   obtain ⟨x13,hx13,h⟩:=bind_some h
   obtain ⟨x14,hx14,h⟩:=bind_some h
   obtain ⟨x15,hx15,h⟩:=bind_some h
   obtain ⟨x16,hx16,h⟩:=bind_some h
   obtain ⟨x17,hx17,h⟩:=bind_some h
   refine T.drawn mixed (k:=16) rfl (rq [1,2,3,4] 12 (r0 5 rfl (v_len_ref (en:=encMove) Ty.s53 rfl rfl (r0 6 rfl (v_rem rfl rfl hx13 (rq [7] 9 (r0 8 rfl (v_len_ref (en:=encMove) Ty.s53 rfl rfl (rq [9,10] 6 (r0 11 rfl (v_len_ref (en:=encMove) Ty.s53 rfl rfl (r0 12 rfl (v_rem rfl rfl hx14 (r0 13 rfl (v_index_ref' (en:=encMove) Ty.s53 rfl rfl rfl hx15 ?_)))))))))))))))
   refine rL [0,15] 0 rfl (ra1 14 (oO rfl (o_load_aptr' (en:=encMove) (a:=x16) rfl rfl hx16 (loadRowA Ty.k57 Ty.c57 rfl (cs:=(encMove x16)) rfl (ra1 15 (oO rfl (o_callF (ac:=[.agg (encNet p0),sL (encL encItem) p1,.ptr 2 0,.agg (encMove x16)]) (as0:=[.agg (encNet p0),sL (encL encItem) p1,.ptr 0 0,.agg (encMove x16)]) (aw0:=[.box [.ref 1,.ref 2,.ref 3,.ref 4,.ref 5],aR 3 1 encI s4,aR 29 1 (encL encItem) s5,aR 66 3 encMemory s6,aR 94 2 encChoice s7,aR 46 3 encItem s8]) (aw1:=[.box [.ref 1,.ref 2,.ref 3,.ref 6,.ref 7],aR 3 1 encI x17.1,aR 29 1 (encL encItem) x17.2.1,aR 66 3 encMemory x17.2.2.1,.dead,.dead,aR 94 2 encChoice x17.2.2.2.1,aR 46 3 encItem x17.2.2.2.2]) (aw2:=[.box (encNet p0),.box [.nils,.nils,.nils,.nils,.nils],.box [.ref 3,.ref 4,.ref 5,.ref 9,.ref 10],aR 3 1 encI x17.1,aR 29 1 (encL encItem) x17.2.1,aR 66 3 encMemory x17.2.2.1,.dead,.dead,aR 57 2 encMove x12,aR 94 2 encChoice x17.2.2.2.1,aR 46 3 encItem x17.2.2.2.2]) (v:=.tup []) (v':=.tup []) (n0:=9) (n1:=8) [2,3,4,5,6,7] rfl rfl rfl rfl (by decide) (rw_box (cs:=[.ref 1,.ref 2,.ref 3,.ref 4,.ref 5]) (ds:=[.ref 3,.ref 4,.ref 5,.ref 6,.ref 7]) rfl ⟨rn_ref rfl,rn_ref rfl,rn_ref rfl,rn_ref rfl,rn_ref rfl,trivial⟩ (rw_arr rfl encI_p rfl (rw_arr rfl (encL_p encItem_p) rfl (rw_arr rfl encMemory_p rfl (rw_arr rfl encChoice_p rfl (rw_arr rfl encItem_p rfl (rw_nil))))))) ⟨rn_agg ⟨rn_s rfl,rn_int rfl,rn_int rfl,trivial⟩,rn_s rfl,rn_ptr rfl,rn_agg ⟨rn_int rfl,rn_int rfl,trivial⟩,trivial⟩ (move_do_x5aa6_c p0 p1 x16 s4 s5 s6 s7 s8 x17 hx17) rfl (rm_tup (cs:=[]) (ds:=[]) trivial) ⟨.inr ⟨rfl,rfl⟩,.inr ⟨rfl,rfl⟩,.inl ⟨0,_,by decide,rfl,rom_box (cs:=[.ref 3,.ref 4,.ref 5,.ref 9,.ref 10]) (ds:=[.ref 1,.ref 2,.ref 3,.ref 6,.ref 7]) ⟨rm_ref (by decide),rm_ref (by decide),rm_ref (by decide),rm_ref (by decide),rm_ref (by decide),trivial⟩⟩,.inl ⟨1,_,by decide,rfl,rom_arr encI_p⟩,.inl ⟨2,_,by decide,rfl,rom_arr (encL_p encItem_p)⟩,.inl ⟨3,_,by decide,rfl,rom_arr encMemory_p⟩,.inl ⟨4,_,by decide,rfl,trivial⟩,.inl ⟨5,_,by decide,rfl,trivial⟩,.inr ⟨rfl,rfl⟩,.inl ⟨6,_,by decide,rfl,rom_arr encChoice_p⟩,.inl ⟨7,_,by decide,rfl,rom_arr encItem_p⟩,trivial⟩ (RA.done (by decide +kernel) (T.region (go 2 11 (RS.nil ?_)))))))))))
   exact ⟨(IntKind.i64.wrap (s3+1),x17.1,x17.2.1,x17.2.2.1,x17.2.2.2.1,x17.2.2.2.2),(Option.some.inj h).symm,wk [] [0,1,2,3,4,5,9,10] 11 rfl⟩
  refine T.exit ?_
  obtain ⟨w_12,h,hw_12⟩:=map_inr h
  replace h:=h.trans (congrArg some (hv_8 _ hw_12))
  refine T.seq (T.region (go 3 8 (RS.nil ?_)))
  cases h
  exact tD
theorem crosslaw_meeting_c (r:Net) (h:crosslaw_meeting=some r):Fn Try.prog 53 [] (.agg (encNet r)):=by
  unfold crosslaw_meeting at h
  refine fnT 0 Try.func53 Try.ntmps53 ?_
  refine T.seq (T.region (go 1 0 (RS.nil (T.seq (T.region (sO (o_buildSlice (rows:=List.map encI [0]) (vs:=[iI 0]) Ty.s26 Ty.z3 rfl rfl rfl rfl rfl rfl (go 1 2 (sO (o_buildSlice (rows:=List.map encI [1]) (vs:=[iI 1]) Ty.s26 Ty.z3 rfl rfl rfl rfl rfl rfl (go 1 3 ?_)))))))))))
  refine sO (o_buildSlice (rows:=List.map encI [0,1]) (vs:=[iI 0,iI 1]) Ty.s26 Ty.z3 rfl rfl rfl rfl rfl rfl (sO (o_buildSlice (rows:=List.map encI [2]) (vs:=[iI 2]) Ty.s26 Ty.z3 rfl rfl rfl rfl rfl rfl (go 1 5 (sO (o_buildSlice (rows:=List.map encI [2]) (vs:=[iI 2]) Ty.s26 Ty.z3 rfl rfl rfl rfl rfl rfl (go 1 6 (RS.fC 1 (RS.fC 2 (RS.fC 3 (RS.fC 4 (RS.fC 5 ?_))))))))))))
  refine sO (o_buildSliceN (rows:=List.map encNode [(⟨1,0,[],[0]⟩:Node),(⟨1,1,[],[1]⟩:Node),(⟨6,0,[0,1],[2]⟩:Node),(⟨8,0,[2],[]⟩:Node)]) (vs:=[.agg [iI 1,iI 0,.nils,sL encI [0]],.agg [iI 1,iI 1,.nils,sL encI [1]],.agg [iI 6,iI 0,sL encI [0,1],sL encI [2]],.agg [iI 8,iI 0,sL encI [2],.nils]]) (vs2:=[.agg [iI 1,iI 0,sL encI [],sL encI [0]],.agg [iI 1,iI 1,sL encI [],sL encI [1]],.agg [iI 6,iI 0,sL encI [0,1],sL encI [2]],.agg [iI 8,iI 0,sL encI [2],sL encI []]]) Ty.s22 Ty.z40 rfl rfl rfl rfl rfl rfl (go 2 7 (RS.nil ?_)))
  cases h
  exact tD
theorem crosslaw_item_c (p0:Int) (p1:Int) (r:Item) (h:crosslaw_item p0 p1=some r):Fn Try.prog 87 [iI p0,iI p1] (.agg (encItem r)):=by
  unfold crosslaw_item at h
  refine fnT 0 Try.func87 Try.ntmps87 ?_
  refine T.seq (T.region (go 1 0 (RS.nil (T.seq (T.region (go 4 1 (RS.nil ?_)))))))
  cases h
  exact tD
theorem crosslaw_two_c (r:List (List Item)) (h:crosslaw_two=some r):FnO Try.prog 54 [] (.ref 0) [aR 29 1 (encL encItem) r]:=by
  unfold crosslaw_two at h
  refine fnT 0 Try.func54 Try.ntmps54 ?_
  refine T.seq (T.region (go 1 0 (RS.nil (T.seq ?_))))
  obtain ⟨x3,hx3,h⟩:=bind_some h
  obtain ⟨x4,hx4,h⟩:=bind_some h
  refine T.region (sO (cF (crosslaw_item_c (1:Int) (1:Int) x3 hx3) ⟨rfl,(sO (o_buildSlice (rows:=List.map encItem [x3]) (vs:=[.agg (encItem x3)]) Ty.s29 Ty.z46 rfl rfl rfl rfl rfl rfl (sO (cF (crosslaw_item_c (2:Int) (2:Int) x4 hx4) ⟨rfl,(sO (o_buildSlice (rows:=List.map encItem [x4]) (vs:=[.agg (encItem x4)]) Ty.s29 Ty.z46 rfl rfl rfl rfl rfl rfl (RS.fC 0 (RS.fC 1 (sO (o_buildSlice (rows:=List.map (encL encItem) [[x3],[x4]]) (vs:=[sL encItem [x3],sL encItem [x4]]) Ty.s25 Ty.z29 rfl rfl rfl rfl rfl rfl (go 1 3 (RS.nil ?_))))))))⟩))))⟩))
  cases h
  exact tO [] [2] 3
theorem move_Check_1_1_xa01a_c (p0:Item) (p1:List Int) (p2:List (List Item)) (p3:List Memory) (p4:List Choice) (p5:List Item) (r:Bool) (h:move_Check_1_1_xa01a p0 p1 p2 p3 p4 p5=some r):FnX Try.prog 59 [.agg (encItem p0),.ptr 0 0] [.box [sL encI p1,sL (encL encItem) p2,sL encMemory p3,sL encChoice p4,sL encItem p5]] (.bool r) [.box [sL encI p1,sL (encL encItem) p2,sL encMemory p3,sL encChoice p4,sL encItem p5]]:=by
  unfold move_Check_1_1_xa01a at h
  refine fnT 1 Try.func59 Try.ntmps59 ?_
  refine T.seq (T.region (go 2 1 (RS.nil (T.join (Z:=Unit) (fun _=>mkA 15 [(3,.bool ((decide (p0.Dep<0)) || decide (p0.Dep > ((p4).length:Int))))]) (fun _=>[.box [sL encI p1,sL (encL encItem) p2,sL encMemory p3,sL encChoice p4,sL encItem p5]]) (fun _=>True) (fun _ _=>?_) (fun hK=>?_)))))
  ·cases h
   exact tN [0]
  refine T.region (go 4 2 ?_)
  rcases bool_cases (decide (p0.Dep<0)) with hb_1 | hb_1
  ·refine sN hb_1 (sN hb_1 (sN hb_1 (sN hb_1 (sN hb_1 (sN hb_1 (sQ (v_pickT (v:=.bool true) rfl hb_1 rfl (go 1 2 (RS.nil ?_)))))))))
   exact T.weakR (hK () trivial) (Weak.mkN [] [0] (by decide) (by decide) rfl ⟨rn_bool (by simp only [hb_1,bz,if_true,if_false,Bool.false_eq_true]),trivial⟩ (rw_bs [sL encI p1,sL (encL encItem) p2,sL encMemory p3,sL encChoice p4,sL encItem p5] rfl (rw_nil)))
  refine yg 2 hb_1 (yg 2 hb_1 (yg 2 hb_1 (yg 2 hb_1 (yQ hb_1 (v_len_sl Ty.s28 rfl (yg 2 hb_1 (sQ (v_pickF (v:=.bool (decide (p0.Dep > ((p4).length:Int)))) rfl hb_1 rfl (go 1 2 (RS.nil ?_))))))))))
  exact T.weakR (hK () trivial) (Weak.mkN [] [0] (by decide) (by decide) rfl ⟨rn_bool (by simp only [hb_1,bz,if_true,if_false,Bool.false_eq_true]),trivial⟩ (rw_bs [sL encI p1,sL (encL encItem) p2,sL encMemory p3,sL encChoice p4,sL encItem p5] rfl (rw_nil)))
theorem slices_IndexFunc_Item_xd8db_c (p0:List Item) (p1:List Int) (p2:List (List Item)) (p3:List Memory) (p4:List Choice) (p5:List Item) (r:Int) (h:slices_IndexFunc_Item_xd8db p0 p1 p2 p3 p4 p5=some r):FnX Try.prog 68 [sL encItem p0,.func 59 [.ptr 0 0]] [.box [sL encI p1,sL (encL encItem) p2,sL encMemory p3,sL encChoice p4,sL encItem p5]] (iI r) [.box [sL encI p1,sL (encL encItem) p2,sL encMemory p3,sL encChoice p4,sL encItem p5]]:=by
  unfold slices_IndexFunc_Item_xd8db at h
  refine fnT 1 Try.func68 Try.ntmps68 ?_
  refine T.seq (T.region (go 1 1 (RS.nil (T.seq (T.seq (T.region (go 1 1 (sQ (v_len_sl Ty.s29 rfl (go 1 1 ?_))))))))))
  refine RS.nil (T.block (T.iter (fun ss_5:Int=>mkA 19 [(0,sL encItem p0),(1,.func 59 [.ptr 0 0]),(7,iI ((p0).length:Int)),(8,iI ss_5)]) (fun ss_5=>[.box [sL encI p1,sL (encL encItem) p2,sL encMemory p3,sL encChoice p4,sL encItem p5]]) h (wk [] [0] 1 rfl) (fun ss_5 v_6 h hv_6=>?_)))
  revert hv_6 h;revert ss_5;intro s1 h hv_6
  replace h:slices_IndexFunc_Item_xd8db_l1 p0 p1 p2 p3 p4 p5 s1=some v_6:=h
  try dsimp only
  unfold slices_IndexFunc_Item_xd8db_l1 at h
  refine T.seq (T.region (go 1 1 (RS.nil (T.seq (T.ci h rfl (fun hb_7 h=>?_) (fun hb_7 h=>?_))))))
  ·refine T.skip (T.seq (T.block (T.seq (T.region (go 2 1 (RS.nil (T.seq ?_)))))))
   obtain ⟨x4,hx4,h⟩:=bind_some h
   obtain ⟨x5,hx5,h⟩:=bind_some h
   refine T.region (go 3 1 (sQ (v_index_sl Ty.s29 (fun _=>rfl) rfl rfl hx4 (go 1 1 (sO (o_callF (ac:=[.agg (encItem x4),.ptr 0 0]) (as0:=[.agg (encItem x4),.ptr 0 0]) (aw0:=[.box [sL encI p1,sL (encL encItem) p2,sL encMemory p3,sL encChoice p4,sL encItem p5]]) (aw1:=[.box [sL encI p1,sL (encL encItem) p2,sL encMemory p3,sL encChoice p4,sL encItem p5]]) (aw2:=[.box [sL encI p1,sL (encL encItem) p2,sL encMemory p3,sL encChoice p4,sL encItem p5]]) (v:=.bool x5) (v':=.bool x5) (n0:=1) (n1:=1) [0] rfl rfl rfl rfl (by decide) (rw_box (cs:=[sL encI p1,sL (encL encItem) p2,sL encMemory p3,sL encChoice p4,sL encItem p5]) (ds:=[sL encI p1,sL (encL encItem) p2,sL encMemory p3,sL encChoice p4,sL encItem p5]) rfl ⟨rn_s rfl,rn_s rfl,rn_s rfl,rn_s rfl,rn_s rfl,trivial⟩ (rw_nil)) ⟨rn_agg ⟨rn_int rfl,rn_int rfl,rn_int rfl,trivial⟩,rn_ptr rfl,trivial⟩ (move_Check_1_1_xa01a_c x4 p1 p2 p3 p4 p5 x5 hx5) rfl (rm_pure (pure_bool _)) ⟨.inl ⟨0,_,by decide,rfl,rom_box (cs:=[sL encI p1,sL (encL encItem) p2,sL encMemory p3,sL encChoice p4,sL encItem p5]) (ds:=[sL encI p1,sL (encL encItem) p2,sL encMemory p3,sL encChoice p4,sL encItem p5]) ⟨rm_pure (pure_map encI_p _),rm_pure (pure_map (encL_p encItem_p) _),rm_pure (pure_map encMemory_p _),rm_pure (pure_map encChoice_p _),rm_pure (pure_map encItem_p _),trivial⟩⟩,trivial⟩ (RS.nil (T.ci h rfl (fun hb_8 h=>?_) (fun hb_8 h=>?_)))))))))
   ·refine T.seq (T.region (go 2 1 (RS.nil ?_)))
    obtain ⟨w_9,h,hw_9⟩:=map_inr h
    replace h:=h.trans (congrArg some (hv_6 _ hw_9))
    cases h
    exact tN [0]
   refine T.skip (T.region (go 2 1 (RS.nil ?_)))
   exact ⟨IntKind.i64.wrap (s1+1),(Option.some.inj h).symm,wk [] [0] 1 rfl⟩
  refine T.exit ?_
  obtain ⟨w_10,h,hw_10⟩:=map_inr h
  replace h:=h.trans (congrArg some (hv_6 _ hw_10))
  refine T.seq (T.region (go 1 1 (RS.nil ?_)))
  cases h
  exact tN [0]
theorem slices_ContainsFunc_Item_xd8db_c (p0:List Item) (p1:List Int) (p2:List (List Item)) (p3:List Memory) (p4:List Choice) (p5:List Item) (r:Bool) (h:slices_ContainsFunc_Item_xd8db p0 p1 p2 p3 p4 p5=some r):FnX Try.prog 24 [sL encItem p0,.func 59 [.ptr 0 0]] [.box [sL encI p1,sL (encL encItem) p2,sL encMemory p3,sL encChoice p4,sL encItem p5]] (.bool r) [.box [sL encI p1,sL (encL encItem) p2,sL encMemory p3,sL encChoice p4,sL encItem p5]]:=by
  unfold slices_ContainsFunc_Item_xd8db at h
  refine fnT 1 Try.func24 Try.ntmps24 ?_
  refine T.seq (T.region (go 1 1 (RS.nil (T.seq ?_))))
  obtain ⟨x2,hx2,h⟩:=bind_some h
  refine T.region (go 2 1 (sO (o_callF (ac:=[sL encItem p0,.func 59 [.ptr 0 0]]) (as0:=[sL encItem p0,.func 59 [.ptr 0 0]]) (aw0:=[.box [sL encI p1,sL (encL encItem) p2,sL encMemory p3,sL encChoice p4,sL encItem p5]]) (aw1:=[.box [sL encI p1,sL (encL encItem) p2,sL encMemory p3,sL encChoice p4,sL encItem p5]]) (aw2:=[.box [sL encI p1,sL (encL encItem) p2,sL encMemory p3,sL encChoice p4,sL encItem p5]]) (v:=iI x2) (v':=iI x2) (n0:=1) (n1:=1) [0] rfl rfl rfl rfl (by decide) (rw_box (cs:=[sL encI p1,sL (encL encItem) p2,sL encMemory p3,sL encChoice p4,sL encItem p5]) (ds:=[sL encI p1,sL (encL encItem) p2,sL encMemory p3,sL encChoice p4,sL encItem p5]) rfl ⟨rn_s rfl,rn_s rfl,rn_s rfl,rn_s rfl,rn_s rfl,trivial⟩ (rw_nil)) ⟨rn_s rfl,rn_func ⟨rn_ptr rfl,trivial⟩,trivial⟩ (slices_IndexFunc_Item_xd8db_c p0 p1 p2 p3 p4 p5 x2 hx2) rfl (rm_pure (pure_int _ _)) ⟨.inl ⟨0,_,by decide,rfl,rom_box (cs:=[sL encI p1,sL (encL encItem) p2,sL encMemory p3,sL encChoice p4,sL encItem p5]) (ds:=[sL encI p1,sL (encL encItem) p2,sL encMemory p3,sL encChoice p4,sL encItem p5]) ⟨rm_pure (pure_map encI_p _),rm_pure (pure_map (encL_p encItem_p) _),rm_pure (pure_map encMemory_p _),rm_pure (pure_map encChoice_p _),rm_pure (pure_map encItem_p _),trivial⟩⟩,trivial⟩ (go 2 1 (RS.nil ?_)))))
  cases h
  exact tN [0]
theorem move_Check_1_xa01a_c (p0:List Item) (p1:List Int) (p2:List (List Item)) (p3:List Memory) (p4:List Choice) (p5:List Item) (r:Bool) (h:move_Check_1_xa01a p0 p1 p2 p3 p4 p5=some r):FnX Try.prog 58 [sL encItem p0,.ptr 0 0] [.box [sL encI p1,sL (encL encItem) p2,sL encMemory p3,sL encChoice p4,sL encItem p5]] (.bool r) [.box [sL encI p1,sL (encL encItem) p2,sL encMemory p3,sL encChoice p4,sL encItem p5]]:=by
  unfold move_Check_1_xa01a at h
  refine fnT 1 Try.func58 Try.ntmps58 ?_
  refine T.seq (T.region (go 1 1 (RS.nil (T.seq ?_))))
  obtain ⟨x2,hx2,h⟩:=bind_some h
  refine T.region (go 2 1 (sO (o_callF (ac:=[sL encItem p0,.func 59 [.ptr 0 0]]) (as0:=[sL encItem p0,.func 59 [.ptr 0 0]]) (aw0:=[.box [sL encI p1,sL (encL encItem) p2,sL encMemory p3,sL encChoice p4,sL encItem p5]]) (aw1:=[.box [sL encI p1,sL (encL encItem) p2,sL encMemory p3,sL encChoice p4,sL encItem p5]]) (aw2:=[.box [sL encI p1,sL (encL encItem) p2,sL encMemory p3,sL encChoice p4,sL encItem p5]]) (v:=.bool x2) (v':=.bool x2) (n0:=1) (n1:=1) [0] rfl rfl rfl rfl (by decide) (rw_box (cs:=[sL encI p1,sL (encL encItem) p2,sL encMemory p3,sL encChoice p4,sL encItem p5]) (ds:=[sL encI p1,sL (encL encItem) p2,sL encMemory p3,sL encChoice p4,sL encItem p5]) rfl ⟨rn_s rfl,rn_s rfl,rn_s rfl,rn_s rfl,rn_s rfl,trivial⟩ (rw_nil)) ⟨rn_s rfl,rn_func ⟨rn_ptr rfl,trivial⟩,trivial⟩ (slices_ContainsFunc_Item_xd8db_c p0 p1 p2 p3 p4 p5 x2 hx2) rfl (rm_pure (pure_bool _)) ⟨.inl ⟨0,_,by decide,rfl,rom_box (cs:=[sL encI p1,sL (encL encItem) p2,sL encMemory p3,sL encChoice p4,sL encItem p5]) (ds:=[sL encI p1,sL (encL encItem) p2,sL encMemory p3,sL encChoice p4,sL encItem p5]) ⟨rm_pure (pure_map encI_p _),rm_pure (pure_map (encL_p encItem_p) _),rm_pure (pure_map encMemory_p _),rm_pure (pure_map encChoice_p _),rm_pure (pure_map encItem_p _),trivial⟩⟩,trivial⟩ (go 2 1 (RS.nil ?_)))))
  cases h
  exact tN [0]
theorem move_choice_c (p0:Net) (p1:Choice) (r:Bool) (h:move_choice p0 p1=some r):Fn Try.prog 61 [.agg (encNet p0),.agg (encChoice p1)] (.bool r):=by
  unfold move_choice at h
  refine fnT 0 Try.func61 Try.ntmps61 ?_
  refine T.seq (T.region (go 3 0 (RS.nil ?_)))
  obtain ⟨zt_5,hz,h⟩:=bind_some h
  revert hz h;revert zt_5;intro c3 hz h
  refine T.join (Z:=Unit) (fun _=>mkA 44 [(4,.bool c3)]) (fun _=>[]) (fun _=>True) (fun _ _=>?_) (fun hK=>?_)
  ·cases h
   exact tD
  rcases bool_cases (decide (p1.Node ≥ 0)) with hb_1 | hb_1
  ·replace hz:=ite_T hz hb_1
   rcases bool_cases (decide (p1.Node<((p0.Nodes).length:Int))) with hb_2 | hb_2
   ·replace hz:=ite_T hz hb_2
    obtain ⟨x1,hx1,hz⟩:=bind_some hz
    rcases bool_cases (x1.Kind==6) with hb_3 | hb_3
    ·replace hz:=ite_T hz hb_3
     rcases bool_cases (decide (p1.Lane ≥ 0)) with hb_4 | hb_4
     ·replace hz:=ite_T hz hb_4
      obtain ⟨x2,hx2,hz⟩:=bind_some hz
      refine T.drawn mixed (k:=40) rfl ?_
      apply RA.jn 0 #[true,true,true,true,true,true,true,true,true,true,true,true,true,true,true,true,true,true,true,true,true,true,true,true,true,true,true,true,true,true,true,true,true,true,true,true,true,true,true,true];intro hS6
      apply RA.jn 5 #[true,true,true,true,true,true,true,true,true,true,true,true,true,true,true,true,true,true,true,true,true,true,true,true,true,true,true,true,true,true,true,true,true,true,true,false,false,false,false,false];intro hS7
      apply RA.jn 6 #[true,true,true,true,true,true,true,true,true,true,true,true,true,true,true,true,true,true,true,true,true,true,true,true,true,true,true,true,false,true,true,true,true,true,true,false,false,false,false,false];intro hS8
      apply RA.jn 8 #[true,true,true,true,true,true,true,true,true,true,true,true,true,true,true,true,true,true,true,true,true,true,true,true,true,true,true,true,true,true,false,true,true,false,false,false,false,false,false,false];intro hS9
      apply RA.jn 8 #[true,true,true,true,true,true,true,true,true,true,true,true,true,true,true,true,true,true,true,true,true,true,true,true,true,true,true,true,true,true,true,true,false,false,false,false,false,false,false,false];intro hS10
      apply RA.jn 22 #[true,true,true,true,true,true,true,true,true,true,true,true,true,true,true,true,true,true,false,false,false,false,false,false,false,false,false,false,false,false,false,false,false,false,false,false,false,false,false,false];intro hS11
      apply RA.jn 26 #[true,true,true,true,true,true,true,true,true,true,true,true,true,false,true,false,false,false,false,false,false,false,false,false,false,false,false,false,false,false,false,false,false,false,false,false,false,false,false,false];intro hS12
      ·refine rq [0] 39 (ra1 1 (og 2 ⟨rfl,(rq [2,3] 36 (ry 4 hb_1 rfl (ry 6 hb_1 rfl (ra2 5 7 ?_ ?_))))⟩))
       ·refine oy 2 hb_1 rfl (ra1 7 (oy 2 hb_1 rfl (r1 8 rfl hb_1 (v_len_sl Ty.s22 rfl (ry 9 hb_1 rfl (r0 10 rfl (v_pickT (v:=.bool (decide (p1.Node<((p0.Nodes).length:Int)))) rfl hb_1 rfl (rq [11] 28 (ry 12 hb_2 rfl (ry 14 hb_2 rfl ?_))))))))))
        exact raE hS12
       ·refine oy 2 hb_1 rfl (r1 8 rfl hb_1 (v_len_sl Ty.s22 rfl (ra1 5 (oy 2 hb_1 rfl (ry 9 hb_1 rfl (r0 10 rfl (v_pickT (v:=.bool (decide (p1.Node<((p0.Nodes).length:Int)))) rfl hb_1 rfl (rq [11] 28 (ry 12 hb_2 rfl (ry 14 hb_2 rfl ?_))))))))))
        exact raT hS12
      ·refine ra2 13 15 ?_ ?_
       ·refine oy 2 hb_2 rfl (ra1 15 (oy 2 hb_2 rfl (r1 16 rfl hb_2 (v_index_sl Ty.s22 (fun _=>rfl) rfl rfl hx1 (ry 17 hb_2 rfl ?_)))))
        exact raE hS11
       ·refine oy 2 hb_2 rfl (ra1 13 (oy 2 hb_2 rfl (r1 16 rfl hb_2 (v_index_sl Ty.s22 (fun _=>rfl) rfl rfl hx1 (ry 17 hb_2 rfl ?_)))))
        exact raT hS11
      ·refine ra1 18 (oy 2 hb_2 rfl (ry 19 hb_2 rfl (r0 20 rfl (v_pickT (v:=.bool (x1.Kind==6)) rfl hb_2 rfl (rq [21] 18 (ry 22 hb_3 rfl (ra1 23 (oy 2 hb_3 rfl (ry 24 hb_3 rfl (r0 25 rfl (v_pickT (v:=.bool (decide (p1.Lane ≥ 0))) rfl hb_3 rfl ?_)))))))))))
       refine rq [26] 13 (ry 27 hb_4 rfl (ry 29 hb_4 rfl (ry 31 hb_4 rfl (ra3 28 30 32 ?_ ?_ ?_))))
       ·refine oy 2 hb_4 rfl (ra2 30 32 ?_ ?_)
        ·refine oy 2 hb_4 rfl ?_
         exact raE hS10
        ·refine oy 2 hb_4 rfl ?_
         exact raE hS9
       ·refine oy 2 hb_4 rfl (ra2 28 32 ?_ ?_)
        ·refine oy 2 hb_4 rfl ?_
         exact raT hS10
        ·refine oy 2 hb_4 rfl (r1 33 rfl hb_4 (v_index_sl Ty.s22 (fun _=>rfl) rfl rfl hx2 (ry 34 hb_4 rfl ?_)))
         exact raE hS8
       ·refine oy 2 hb_4 rfl (ra2 28 30 ?_ ?_)
        ·refine oy 2 hb_4 rfl ?_
         exact raT hS9
        ·refine oy 2 hb_4 rfl (r1 33 rfl hb_4 (v_index_sl Ty.s22 (fun _=>rfl) rfl rfl hx2 (ry 34 hb_4 rfl ?_)))
         exact raT hS8
      ·refine ra1 32 (oy 2 hb_4 rfl (r1 33 rfl hb_4 (v_index_sl Ty.s22 (fun _=>rfl) rfl rfl hx2 (ry 34 hb_4 rfl ?_))))
       exact raE hS7
      ·refine ra1 30 (oy 2 hb_4 rfl (r1 33 rfl hb_4 (v_index_sl Ty.s22 (fun _=>rfl) rfl rfl hx2 (ry 34 hb_4 rfl ?_))))
       exact raT hS7
      ·refine ra2 28 35 ?_ ?_
       ·refine oy 2 hb_4 rfl ?_
        exact raT hS7
       ·refine oy 2 hb_4 rfl (r1 36 rfl hb_4 (v_len_sl Ty.s26 rfl (ra1 28 (oy 2 hb_4 rfl (ry 37 hb_4 rfl (r0 38 rfl (v_pickT (v:=.bool (decide (p1.Lane<((x2.In).length:Int)))) rfl hb_4 rfl (rq [39] 0 ?_))))))))
        exact raE hS6
      ·refine ra1 35 (oy 2 hb_4 rfl (r1 36 rfl hb_4 (v_len_sl Ty.s26 rfl (ry 37 hb_4 rfl (r0 38 rfl (v_pickT (v:=.bool (decide (p1.Lane<((x2.In).length:Int)))) rfl hb_4 rfl (rq [39] 0 ?_)))))))
       exact raT hS6
      refine RA.done (by decide +kernel) ?_
      exact T.weakR (hK () trivial) (Weak.mkN [] [] (by decide) (none_kept _) rfl ⟨rn_bool ((congrArg (fun p=>p) (Option.some.inj hz)).symm),trivial⟩ (rw_nil))
     replace hz:=ite_F hz hb_4
     refine T.drawn mixed (k:=40) rfl ?_
     apply RA.jn 22 #[true,true,true,true,true,true,true,true,true,true,true,true,true,true,true,true,true,true,false,false,false,false,false,false,false,false,false,false,false,false,false,false,false,false,false,false,false,false,false,false];intro hS13
     apply RA.jn 26 #[true,true,true,true,true,true,true,true,true,true,true,true,true,false,true,false,false,false,false,false,false,false,false,false,false,false,false,false,false,false,false,false,false,false,false,false,false,false,false,false];intro hS14
     ·refine rq [0] 39 (ra1 1 (og 2 ⟨rfl,(rq [2,3] 36 (ry 4 hb_1 rfl (ry 6 hb_1 rfl (ra2 5 7 ?_ ?_))))⟩))
      ·refine oy 2 hb_1 rfl (ra1 7 (oy 2 hb_1 rfl (r1 8 rfl hb_1 (v_len_sl Ty.s22 rfl (ry 9 hb_1 rfl (r0 10 rfl (v_pickT (v:=.bool (decide (p1.Node<((p0.Nodes).length:Int)))) rfl hb_1 rfl (rq [11] 28 (ry 12 hb_2 rfl (ry 14 hb_2 rfl ?_))))))))))
       exact raE hS14
      ·refine oy 2 hb_1 rfl (r1 8 rfl hb_1 (v_len_sl Ty.s22 rfl (ra1 5 (oy 2 hb_1 rfl (ry 9 hb_1 rfl (r0 10 rfl (v_pickT (v:=.bool (decide (p1.Node<((p0.Nodes).length:Int)))) rfl hb_1 rfl (rq [11] 28 (ry 12 hb_2 rfl (ry 14 hb_2 rfl ?_))))))))))
       exact raT hS14
     ·refine ra2 13 15 ?_ ?_
      ·refine oy 2 hb_2 rfl (ra1 15 (oy 2 hb_2 rfl (r1 16 rfl hb_2 (v_index_sl Ty.s22 (fun _=>rfl) rfl rfl hx1 (ry 17 hb_2 rfl ?_)))))
       exact raE hS13
      ·refine oy 2 hb_2 rfl (ra1 13 (oy 2 hb_2 rfl (r1 16 rfl hb_2 (v_index_sl Ty.s22 (fun _=>rfl) rfl rfl hx1 (ry 17 hb_2 rfl ?_)))))
       exact raT hS13
     refine ra1 18 (oy 2 hb_2 rfl (ry 19 hb_2 rfl (r0 20 rfl (v_pickT (v:=.bool (x1.Kind==6)) rfl hb_2 rfl (rq [21] 18 (ry 22 hb_3 rfl (ra1 23 (oy 2 hb_3 rfl (ry 24 hb_3 rfl (r0 25 rfl (v_pickT (v:=.bool (decide (p1.Lane ≥ 0))) rfl hb_3 rfl ?_)))))))))))
     refine rq [26] 13 (r2 27 rfl hb_4 (r2 28 rfl hb_4 (r2 29 rfl hb_4 (r2 30 rfl hb_4 (r2 31 rfl hb_4 (r2 32 rfl hb_4 (r2 33 rfl hb_4 (r2 34 rfl hb_4 (r2 35 rfl hb_4 ?_)))))))))
     refine r2 36 rfl hb_4 (r2 37 rfl hb_4 (r0 38 rfl (v_pickF (v:=.bool false) rfl hb_4 rfl (rq [39] 0 (RA.done (by decide +kernel) ?_)))))
     exact T.weakR (hK () trivial) (Weak.mkN [] [] (by decide) (none_kept _) rfl ⟨rn_bool ((congrArg (fun p=>p) (Option.some.inj hz)).symm),trivial⟩ (rw_nil))
    replace hz:=ite_F hz hb_3
    refine T.drawn mixed (k:=40) rfl ?_
    apply RA.jn 22 #[true,true,true,true,true,true,true,true,true,true,true,true,true,true,true,true,true,true,false,false,false,false,false,false,false,false,false,false,false,false,false,false,false,false,false,false,false,false,false,false];intro hS15
    apply RA.jn 26 #[true,true,true,true,true,true,true,true,true,true,true,true,true,false,true,false,false,false,false,false,false,false,false,false,false,false,false,false,false,false,false,false,false,false,false,false,false,false,false,false];intro hS16
    ·refine rq [0] 39 (ra1 1 (og 2 ⟨rfl,(rq [2,3] 36 (ry 4 hb_1 rfl (ry 6 hb_1 rfl (ra2 5 7 ?_ ?_))))⟩))
     ·refine oy 2 hb_1 rfl (ra1 7 (oy 2 hb_1 rfl (r1 8 rfl hb_1 (v_len_sl Ty.s22 rfl (ry 9 hb_1 rfl (r0 10 rfl (v_pickT (v:=.bool (decide (p1.Node<((p0.Nodes).length:Int)))) rfl hb_1 rfl (rq [11] 28 (ry 12 hb_2 rfl (ry 14 hb_2 rfl ?_))))))))))
      exact raE hS16
     ·refine oy 2 hb_1 rfl (r1 8 rfl hb_1 (v_len_sl Ty.s22 rfl (ra1 5 (oy 2 hb_1 rfl (ry 9 hb_1 rfl (r0 10 rfl (v_pickT (v:=.bool (decide (p1.Node<((p0.Nodes).length:Int)))) rfl hb_1 rfl (rq [11] 28 (ry 12 hb_2 rfl (ry 14 hb_2 rfl ?_))))))))))
      exact raT hS16
    ·refine ra2 13 15 ?_ ?_
     ·refine oy 2 hb_2 rfl (ra1 15 (oy 2 hb_2 rfl (r1 16 rfl hb_2 (v_index_sl Ty.s22 (fun _=>rfl) rfl rfl hx1 (ry 17 hb_2 rfl ?_)))))
      exact raE hS15
     ·refine oy 2 hb_2 rfl (ra1 13 (oy 2 hb_2 rfl (r1 16 rfl hb_2 (v_index_sl Ty.s22 (fun _=>rfl) rfl rfl hx1 (ry 17 hb_2 rfl ?_)))))
      exact raT hS15
    refine ra1 18 (oy 2 hb_2 rfl (ry 19 hb_2 rfl (r0 20 rfl (v_pickT (v:=.bool (x1.Kind==6)) rfl hb_2 rfl (rq [21] 18 (r2 22 rfl hb_3 (r2 23 rfl hb_3 (r2 24 rfl hb_3 (r0 25 rfl (v_pickF (v:=.bool false) rfl hb_3 rfl (rq [26] 13 ?_)))))))))))
    refine r2 27 rfl rfl (r2 28 rfl rfl (r2 29 rfl rfl (r2 30 rfl rfl (r2 31 rfl rfl (r2 32 rfl rfl (r2 33 rfl rfl (r2 34 rfl rfl (r2 35 rfl rfl (r2 36 rfl rfl ?_)))))))))
    refine r2 37 rfl rfl (r0 38 rfl (v_pickF (v:=.bool false) rfl rfl rfl (rq [39] 0 (RA.done (by decide +kernel) ?_))))
    exact T.weakR (hK () trivial) (Weak.mkN [] [] (by decide) (none_kept _) rfl ⟨rn_bool ((congrArg (fun p=>p) (Option.some.inj hz)).symm),trivial⟩ (rw_nil))
   replace hz:=ite_F hz hb_2
   refine T.drawn mixed (k:=40) rfl ?_
   apply RA.jn 0 #[true,true,true,true,true,true,true,true,true,true,true,true,true,true,true,true,true,true,true,true,true,true,true,true,true,true,true,true,true,true,true,true,true,true,true,true,true,true,true,true];intro hS17
   ·refine rq [0] 39 (ra1 1 (og 2 ⟨rfl,(rq [2,3] 36 (ry 4 hb_1 rfl (ry 6 hb_1 rfl (ra2 5 7 ?_ ?_))))⟩))
    ·refine oy 2 hb_1 rfl (ra1 7 (oy 2 hb_1 rfl (r1 8 rfl hb_1 (v_len_sl Ty.s22 rfl (ry 9 hb_1 rfl (r0 10 rfl (v_pickT (v:=.bool (decide (p1.Node<((p0.Nodes).length:Int)))) rfl hb_1 rfl (rq [11] 28 (r2 12 rfl hb_2 (r2 13 rfl hb_2 (r2 14 rfl hb_2 ?_)))))))))))
     refine r2 15 rfl hb_2 (r2 16 rfl hb_2 (r2 17 rfl hb_2 (r2 18 rfl hb_2 (r2 19 rfl hb_2 (r0 20 rfl (v_pickF (v:=.bool false) rfl hb_2 rfl (rq [21] 18 (r2 22 rfl rfl (r2 23 rfl rfl (r2 24 rfl rfl ?_))))))))))
     refine r0 25 rfl (v_pickF (v:=.bool false) rfl rfl rfl (rq [26] 13 (r2 27 rfl rfl (r2 28 rfl rfl (r2 29 rfl rfl (r2 30 rfl rfl (r2 31 rfl rfl (r2 32 rfl rfl (r2 33 rfl rfl (r2 34 rfl rfl ?_))))))))))
     refine r2 35 rfl rfl (r2 36 rfl rfl (r2 37 rfl rfl (r0 38 rfl (v_pickF (v:=.bool false) rfl rfl rfl (rq [39] 0 ?_)))))
     exact raE hS17
    ·refine oy 2 hb_1 rfl (r1 8 rfl hb_1 (v_len_sl Ty.s22 rfl (ra1 5 (oy 2 hb_1 rfl (ry 9 hb_1 rfl (r0 10 rfl (v_pickT (v:=.bool (decide (p1.Node<((p0.Nodes).length:Int)))) rfl hb_1 rfl (rq [11] 28 (r2 12 rfl hb_2 (r2 13 rfl hb_2 (r2 14 rfl hb_2 ?_)))))))))))
     refine r2 15 rfl hb_2 (r2 16 rfl hb_2 (r2 17 rfl hb_2 (r2 18 rfl hb_2 (r2 19 rfl hb_2 (r0 20 rfl (v_pickF (v:=.bool false) rfl hb_2 rfl (rq [21] 18 (r2 22 rfl rfl (r2 23 rfl rfl (r2 24 rfl rfl ?_))))))))))
     refine r0 25 rfl (v_pickF (v:=.bool false) rfl rfl rfl (rq [26] 13 (r2 27 rfl rfl (r2 28 rfl rfl (r2 29 rfl rfl (r2 30 rfl rfl (r2 31 rfl rfl (r2 32 rfl rfl (r2 33 rfl rfl (r2 34 rfl rfl ?_))))))))))
     refine r2 35 rfl rfl (r2 36 rfl rfl (r2 37 rfl rfl (r0 38 rfl (v_pickF (v:=.bool false) rfl rfl rfl (rq [39] 0 ?_)))))
     exact raT hS17
   refine RA.done (by decide +kernel) ?_
   exact T.weakR (hK () trivial) (Weak.mkN [] [] (by decide) (none_kept _) rfl ⟨rn_bool ((congrArg (fun p=>p) (Option.some.inj hz)).symm),trivial⟩ (rw_nil))
  replace hz:=ite_F hz hb_1
  refine T.drawn mixed (k:=40) rfl (rq [0] 39 (ra1 1 (og 2 ⟨rfl,(rq [2,3] 36 (r2 4 rfl hb_1 (r2 5 rfl hb_1 (r2 6 rfl hb_1 (r2 7 rfl hb_1 (r2 8 rfl hb_1 ?_))))))⟩)))
  refine r2 9 rfl hb_1 (r0 10 rfl (v_pickF (v:=.bool false) rfl hb_1 rfl (rq [11] 28 (r2 12 rfl rfl (r2 13 rfl rfl (r2 14 rfl rfl (r2 15 rfl rfl (r2 16 rfl rfl (r2 17 rfl rfl (r2 18 rfl rfl ?_))))))))))
  refine r2 19 rfl rfl (r0 20 rfl (v_pickF (v:=.bool false) rfl rfl rfl (rq [21] 18 (r2 22 rfl rfl (r2 23 rfl rfl (r2 24 rfl rfl (r0 25 rfl (v_pickF (v:=.bool false) rfl rfl rfl (rq [26] 13 (r2 27 rfl rfl (r2 28 rfl rfl ?_)))))))))))
  refine r2 29 rfl rfl (r2 30 rfl rfl (r2 31 rfl rfl (r2 32 rfl rfl (r2 33 rfl rfl (r2 34 rfl rfl (r2 35 rfl rfl (r2 36 rfl rfl (r2 37 rfl rfl (r0 38 rfl (v_pickF (v:=.bool false) rfl rfl rfl ?_))))))))))
  refine rq [39] 0 (RA.done (by decide +kernel) ?_)
  exact T.weakR (hK () trivial) (Weak.mkN [] [] (by decide) (none_kept _) rfl ⟨rn_bool ((congrArg (fun p=>p) (Option.some.inj hz)).symm),trivial⟩ (rw_nil))
theorem move_Check_c (p0:Net) (p1:List (List Item)) (p2:State) (r:Int) (h:move_Check p0 p1 p2=some r):Fn Try.prog 15 [.agg (encNet p0),sL (encL encItem) p1,.agg (encState p2)] (iI r):=by
  unfold move_Check at h
  refine fnT 0 Try.func15 Try.ntmps15 ?_
  refine T.seq (T.region (go 3 0 (RS.nil (T.seq (T.seq ?_)))))
  obtain ⟨x2,hx2,h⟩:=bind_some h
  refine T.region (go 2 2 (sO (cF (net_Sources_c p0 p1 x2 hx2) ⟨rfl,(go 1 2 (RS.nil (T.seq (T.region (go 2 2 (RS.nil (T.ci h rfl (fun hb_1 h=>?_) (fun hb_1 h=>?_))))))))⟩)))
  ·refine T.seq (T.region (go 2 2 (RS.nil ?_)))
   cases h
   exact tD
  refine T.skip (T.seq (T.join (Z:=Unit) (fun _=>mkA 131 [(1,sL (encL encItem) p1),(3,.ptr 0 0),(5,.ptr 1 0),(46,.bool ((((p2.At).length:Int) != ((p1).length:Int)) || ((((p2.Rings).length:Int) != p0.Rings) || ((p2.Memory).length:Int) != ((p0.Nodes).length:Int))))]) (fun _=>[.box (encNet p0),.box (encState p2)]) (fun _=>True) (fun _ _=>?_) (fun hK=>?_)))
  ·refine T.ci h rfl (fun hb_4 h=>?_) (fun hb_4 h=>?_)
   ·refine T.seq (T.region (go 1 2 (RS.nil ?_)))
    cases h
    exact tD
   refine T.skip (T.seq (T.join (Z:=Unit) (fun _=>mkA 131 [(1,sL (encL encItem) p1),(3,.ptr 0 0),(5,.ptr 1 0),(56,.bool ((decide (((p2.Choices).length:Int) > 500)) || decide (((p2.Out).length:Int) > 2000)))]) (fun _=>[.box (encNet p0),.box (encState p2)]) (fun _=>True) (fun _ _=>?_) (fun hK=>?_)))
   ·refine T.ci h rfl (fun hb_6 h=>?_) (fun hb_6 h=>?_)
    ·refine T.seq (T.region (go 1 2 (RS.nil ?_)))
     cases h
     exact tD
    refine T.skip (T.seq (T.seq (T.region (go 2 2 (sQ (v_len_sl Ty.s26 rfl (go 1 2 (RS.nil (T.block (T.iter (fun ss_15:Int=>mkA 131 [(1,sL (encL encItem) p1),(3,.ptr 0 0),(5,.ptr 1 0),(58,sL encI p2.At),(59,iI ((p2.At).length:Int)),(60,iI ss_15)]) (fun ss_15=>[.box (encNet p0),.box (encState p2)]) h (wk [] [0,1] 2 rfl) (fun ss_15 v_16 h hv_16=>?_)))))))))))
    revert hv_16 h;revert ss_15;intro s5 h hv_16
    replace h:move_Check_l4 p0 p1 p2 s5=some v_16:=h
    try dsimp only
    unfold move_Check_l4 at h
    refine T.seq (T.region (go 1 2 (RS.nil (T.seq (T.ci h rfl (fun hb_17 h=>?_) (fun hb_17 h=>?_))))))
    ·refine T.skip (T.seq (T.block (T.seq ?_)))
     obtain ⟨x7,hx7,h⟩:=bind_some h
     refine T.region (go 1 2 (sQ (v_index_sl Ty.s26 (fun _=>rfl) rfl rfl hx7 (go 3 2 (RS.nil ?_)))))
     obtain ⟨zt_19,hz,h⟩:=bind_some h
     revert hz h;revert zt_19;intro c9 hz h
     refine T.join (Z:=Unit) (fun _=>mkA 131 [(1,sL (encL encItem) p1),(3,.ptr 0 0),(5,.ptr 1 0),(58,sL encI p2.At),(59,iI ((p2.At).length:Int)),(60,iI s5),(75,.bool c9)]) (fun _=>[.box (encNet p0),.box (encState p2)]) (fun _=>True) (fun _ _=>?_) (fun hK=>?_)
     ·refine T.ci h rfl (fun hb_20 h=>?_) (fun hb_20 h=>?_)
      ·refine T.seq (T.region (go 1 2 (RS.nil ?_)))
       obtain ⟨w_21,h,hw_21⟩:=map_inr h
       replace h:=h.trans (congrArg some (hv_16 _ hw_21))
       cases h
       exact tD
      refine T.skip (T.region (go 2 2 (RS.nil ?_)))
      exact ⟨IntKind.i64.wrap (s5+1),(Option.some.inj h).symm,wk [] [0,1] 2 rfl⟩
     refine T.region (go 3 2 ?_)
     rcases bool_cases (decide (x7<0)) with hb_18 | hb_18
     ·replace hz:=ite_T hz hb_18
      refine sN hb_18 (sN hb_18 (sN hb_18 (sN hb_18 (sN hb_18 (sN hb_18 (sN hb_18 (sQ (v_pickT (v:=.bool true) rfl hb_18 rfl (RS.nil ?_)))))))))
      exact T.sub (hK () trivial) ⟨rfl,rfl,rfl,rfl,rfl,rfl,(congrArg AV.bool ((congrArg (fun p=>p) (Option.some.inj hz)).symm)).symm,trivial⟩
     replace hz:=ite_F hz hb_18
     obtain ⟨x8,hx8,hz⟩:=bind_some hz
     refine yg 2 hb_18 (yg 2 hb_18 (yg 2 hb_18 (yQ hb_18 (v_index_sl Ty.s25 (fun _=>rfl) rfl rfl hx8 (yg 2 hb_18 (yQ hb_18 (v_len_sl Ty.s29 rfl (yg 2 hb_18 (sQ (v_pickF (v:=.bool (decide (x7 > ((x8).length:Int)))) rfl hb_18 rfl (RS.nil ?_)))))))))))
     exact T.sub (hK () trivial) ⟨rfl,rfl,rfl,rfl,rfl,rfl,(congrArg AV.bool ((congrArg (fun p=>p) (Option.some.inj hz)).symm)).symm,trivial⟩
    refine T.exit ?_
    obtain ⟨w_22,h,hw_22⟩:=map_inr h
    replace h:=h.trans (congrArg some (hv_16 _ hw_22))
    refine T.seq (T.region (go 2 2 (RS.nil (T.seq (T.seq (T.region (go 2 2 (sQ (v_len_sl Ty.s25 rfl (go 1 2 ?_))))))))))
    refine RS.nil (T.block (T.iter (fun ss_29:Int=>mkA 131 [(3,.ptr 0 0),(5,.ptr 1 0),(10,.func 58 [.ptr 1 0]),(79,sL (encL encItem) p2.Rings),(80,iI ((p2.Rings).length:Int)),(81,iI ss_29)]) (fun ss_29=>[.box (encNet p0),.box (encState p2)]) h (wk [] [0,1] 2 rfl) (fun ss_29 v_30 h hv_30=>?_)))
    revert hv_30 h;revert ss_29;intro s10 h hv_30
    replace h:move_Check_l3 p0 p2 s10=some v_30:=h
    try dsimp only
    unfold move_Check_l3 at h
    refine T.seq (T.region (go 1 2 (RS.nil (T.seq (T.ci h rfl (fun hb_31 h=>?_) (fun hb_31 h=>?_))))))
    ·refine T.skip (T.seq (T.block (T.seq ?_)))
     obtain ⟨x12,hx12,h⟩:=bind_some h
     refine T.region (sQ (v_index_sl Ty.s25 (fun _=>rfl) rfl rfl hx12 (go 2 2 (RS.nil (T.seq (T.seq (T.region (go 1 2 (sQ (v_len_sl Ty.s29 rfl (go 3 2 ?_)))))))))))
     refine RS.nil (T.ci h rfl (fun hb_32 h=>?_) (fun hb_32 h=>?_))
     ·refine T.seq (T.region (go 1 2 (RS.nil ?_)))
      obtain ⟨w_33,h,hw_33⟩:=map_inr h
      replace h:=h.trans (congrArg some (hv_30 _ hw_33))
      cases h
      exact tD
     refine T.skip (T.seq ?_)
     obtain ⟨x14,hx14,h⟩:=bind_some h
     refine T.region (go 2 2 (sO (o_callF (ac:=[sL encItem x12,.ptr 1 0]) (as0:=[sL encItem x12,.ptr 0 0]) (aw0:=[.box (encState p2)]) (aw1:=[.box (encState p2)]) (aw2:=[.box (encNet p0),.box (encState p2)]) (v:=.bool x14) (v':=.bool x14) (n0:=2) (n1:=1) [1] rfl rfl rfl rfl (by decide) (rw_box (cs:=(encState p2)) (ds:=(encState p2)) rfl ⟨rn_s rfl,rn_s rfl,rn_s rfl,rn_s rfl,rn_s rfl,trivial⟩ (rw_nil)) ⟨rn_s rfl,rn_ptr rfl,trivial⟩ (move_Check_1_xa01a_c x12 p2.At p2.Rings p2.Memory p2.Choices p2.Out x14 hx14) rfl (rm_pure (pure_bool _)) ⟨.inr ⟨rfl,rfl⟩,.inl ⟨0,_,by decide,rfl,rom_box (cs:=(encState p2)) (ds:=(encState p2)) ⟨rm_pure (pure_map encI_p _),rm_pure (pure_map (encL_p encItem_p) _),rm_pure (pure_map encMemory_p _),rm_pure (pure_map encChoice_p _),rm_pure (pure_map encItem_p _),trivial⟩⟩,trivial⟩ (go 1 2 (RS.nil (T.ci h rfl (fun hb_34 h=>?_) (fun hb_34 h=>?_)))))))
     ·refine T.seq (T.region (go 1 2 (RS.nil ?_)))
      obtain ⟨w_35,h,hw_35⟩:=map_inr h
      replace h:=h.trans (congrArg some (hv_30 _ hw_35))
      cases h
      exact tD
     refine T.skip (T.region (go 2 2 (RS.nil ?_)))
     exact ⟨IntKind.i64.wrap (s10+1),(Option.some.inj h).symm,wk [] [0,1] 2 rfl⟩
    refine T.exit ?_
    obtain ⟨w_36,h,hw_36⟩:=map_inr h
    replace h:=h.trans (congrArg some (hv_30 _ hw_36))
    refine T.seq (T.seq (T.region (go 2 2 (sQ (v_len_sl Ty.s27 rfl (go 1 2 (RS.nil (T.block (T.iter (fun ss_43:Int=>mkA 131 [(3,.ptr 0 0),(5,.ptr 1 0),(10,.func 58 [.ptr 1 0]),(96,sL encMemory p2.Memory),(97,iI ((p2.Memory).length:Int)),(98,iI ss_43)]) (fun ss_43=>[.box (encNet p0),.box (encState p2)]) h (wk [] [0,1] 2 rfl) (fun ss_43 v_44 h hv_44=>?_))))))))))
    revert hv_44 h;revert ss_43;intro s15 h hv_44
    replace h:move_Check_l2 p0 p2 s15=some v_44:=h
    try dsimp only
    unfold move_Check_l2 at h
    refine T.seq (T.region (go 1 2 (RS.nil (T.seq (T.ci h rfl (fun hb_45 h=>?_) (fun hb_45 h=>?_))))))
    ·refine T.skip (T.seq (T.block (T.seq ?_)))
     obtain ⟨x17,hx17,h⟩:=bind_some h
     refine T.region (sQ (v_index_sl Ty.s27 (fun _=>rfl) rfl rfl hx17 (go 3 2 (RS.nil (T.seq (T.seq ?_))))))
     obtain ⟨x19,hx19,h⟩:=bind_some h
     refine T.region (go 1 3 (sO (cF (stage_Check_c x17 x19 hx19) ⟨rfl,(go 1 3 (RS.nil (T.seq (T.region (go 2 3 (RS.nil (T.ci h rfl (fun hb_46 h=>?_) (fun hb_46 h=>?_))))))))⟩)))
     ·refine T.seq (T.region (go 2 3 (RS.nil ?_)))
      obtain ⟨w_47,h,hw_47⟩:=map_inr h
      replace h:=h.trans (congrArg some (hv_44 _ hw_47))
      cases h
      exact tD
     refine T.skip (T.seq (T.region (go 4 3 (sQ (v_len_sl Ty.s28 rfl (go 1 3 (RS.nil (T.ci h rfl (fun hb_48 h=>?_) (fun hb_48 h=>?_)))))))))
     ·refine T.seq (T.region (go 1 3 (RS.nil ?_)))
      obtain ⟨w_49,h,hw_49⟩:=map_inr h
      replace h:=h.trans (congrArg some (hv_44 _ hw_49))
      cases h
      exact tD
     refine T.skip (T.region (go 2 3 (RS.nil ?_)))
     exact ⟨IntKind.i64.wrap (s15+1),(Option.some.inj h).symm,wk [] [0,1] 3 rfl⟩
    refine T.exit ?_
    obtain ⟨w_50,h,hw_50⟩:=map_inr h
    replace h:=h.trans (congrArg some (hv_44 _ hw_50))
    refine T.seq (T.seq (T.region (go 2 2 (sQ (v_len_sl Ty.s28 rfl (go 1 2 (RS.nil (T.block (T.iter (fun ss_55:Int=>mkA 131 [(3,.ptr 0 0),(5,.ptr 1 0),(10,.func 58 [.ptr 1 0]),(115,sL encChoice p2.Choices),(116,iI ((p2.Choices).length:Int)),(117,iI ss_55)]) (fun ss_55=>[.box (encNet p0),.box (encState p2)]) h (wk [] [0,1] 2 rfl) (fun ss_55 v_56 h hv_56=>?_))))))))))
    revert hv_56 h;revert ss_55;intro s20 h hv_56
    replace h:move_Check_l1 p0 p2 s20=some v_56:=h
    try dsimp only
    unfold move_Check_l1 at h
    refine T.seq (T.region (go 1 2 (RS.nil (T.seq (T.ci h rfl (fun hb_57 h=>?_) (fun hb_57 h=>?_))))))
    ·refine T.skip (T.seq (T.block (T.seq ?_)))
     obtain ⟨x22,hx22,h⟩:=bind_some h
     refine T.region (sQ (v_index_sl Ty.s28 (fun _=>rfl) rfl rfl hx22 (go 3 2 (RS.nil (T.seq ?_)))))
     obtain ⟨x24,hx24,h⟩:=bind_some h
     refine T.region (go 2 3 (sO (cF (move_choice_c p0 x22 x24 hx24) ⟨rfl,(go 1 3 (RS.nil (T.ci h rfl (fun hb_58 h=>?_) (fun hb_58 h=>?_))))⟩)))
     ·refine T.seq (T.region (go 1 3 (RS.nil ?_)))
      obtain ⟨w_59,h,hw_59⟩:=map_inr h
      replace h:=h.trans (congrArg some (hv_56 _ hw_59))
      cases h
      exact tD
     refine T.skip (T.region (go 2 3 (RS.nil ?_)))
     exact ⟨IntKind.i64.wrap (s20+1),(Option.some.inj h).symm,wk [] [0,1] 3 rfl⟩
    refine T.exit ?_
    obtain ⟨w_60,h,hw_60⟩:=map_inr h
    replace h:=h.trans (congrArg some (hv_56 _ hw_60))
    refine T.seq (T.seq ?_)
    obtain ⟨x26,hx26,h⟩:=bind_some h
    refine T.region (go 3 2 (sO (o_callF (ac:=[sL encItem p2.Out,.ptr 1 0]) (as0:=[sL encItem p2.Out,.ptr 0 0]) (aw0:=[.box (encState p2)]) (aw1:=[.box (encState p2)]) (aw2:=[.box (encNet p0),.box (encState p2)]) (v:=.bool x26) (v':=.bool x26) (n0:=2) (n1:=1) [1] rfl rfl rfl rfl (by decide) (rw_box (cs:=(encState p2)) (ds:=(encState p2)) rfl ⟨rn_s rfl,rn_s rfl,rn_s rfl,rn_s rfl,rn_s rfl,trivial⟩ (rw_nil)) ⟨rn_s rfl,rn_ptr rfl,trivial⟩ (move_Check_1_xa01a_c p2.Out p2.At p2.Rings p2.Memory p2.Choices p2.Out x26 hx26) rfl (rm_pure (pure_bool _)) ⟨.inr ⟨rfl,rfl⟩,.inl ⟨0,_,by decide,rfl,rom_box (cs:=(encState p2)) (ds:=(encState p2)) ⟨rm_pure (pure_map encI_p _),rm_pure (pure_map (encL_p encItem_p) _),rm_pure (pure_map encMemory_p _),rm_pure (pure_map encChoice_p _),rm_pure (pure_map encItem_p _),trivial⟩⟩,trivial⟩ (go 1 2 (RS.nil (T.ci h rfl (fun hb_61 h=>?_) (fun hb_61 h=>?_)))))))
    ·refine T.seq (T.region (go 1 2 (RS.nil ?_)))
     cases h
     exact tD
    refine T.skip (T.seq (T.region (go 1 2 (RS.nil ?_))))
    cases h
    exact tD
   refine T.region (go 2 2 (sQ (v_len_sl Ty.s28 rfl (go 2 2 ?_))))
   rcases bool_cases (decide (((p2.Choices).length:Int) > 500)) with hb_5 | hb_5
   ·refine sN hb_5 (sN hb_5 (sN hb_5 (sN hb_5 (sQ (v_pickT (v:=.bool true) rfl hb_5 rfl (RS.nil ?_))))))
    exact T.sub (hK () trivial) ⟨rfl,rfl,rfl,(congrArg AV.bool (by simp only [hb_5,bz,if_true,if_false,Bool.false_eq_true])).symm,trivial⟩
   refine yg 2 hb_5 (yg 2 hb_5 (yQ hb_5 (v_len_sl Ty.s29 rfl (yg 2 hb_5 (sQ (v_pickF (v:=.bool (decide (((p2.Out).length:Int) > 2000))) rfl hb_5 rfl (RS.nil ?_)))))))
   exact T.sub (hK () trivial) ⟨rfl,rfl,rfl,(congrArg AV.bool (by simp only [hb_5,bz,if_true,if_false,Bool.false_eq_true])).symm,trivial⟩
  refine T.region (go 2 2 (sQ (v_len_sl Ty.s26 rfl (go 1 2 (sQ (v_len_sl Ty.s25 rfl (go 2 2 ?_)))))))
  rcases bool_cases (((p2.At).length:Int) != ((p1).length:Int)) with hb_2 | hb_2
  ·refine sN hb_2 (sN hb_2 (sN hb_2 (sN hb_2 (sN hb_2 (sN hb_2 (sQ (v_pickT (v:=.bool true) rfl hb_2 rfl (go 1 2 (sN rfl (sN rfl ?_))))))))))
   refine sN rfl (sN rfl (sN rfl (sN rfl (sN rfl (sQ (v_pickT (v:=.bool true) rfl rfl rfl (RS.nil ?_)))))))
   exact T.sub (hK () trivial) ⟨rfl,rfl,rfl,(congrArg AV.bool (by simp only [hb_2,bz,if_true,if_false,Bool.false_eq_true])).symm,trivial⟩
  refine yg 2 hb_2 (yg 2 hb_2 (yQ hb_2 (v_len_sl Ty.s25 rfl (yg 2 hb_2 (yg 2 hb_2 (yg 2 hb_2 (sQ (v_pickF (v:=.bool (((p2.Rings).length:Int) != p0.Rings)) rfl hb_2 rfl (go 1 2 ?_)))))))))
  rcases bool_cases (((p2.Rings).length:Int) != p0.Rings) with hb_3 | hb_3
  ·refine sN hb_3 (sN hb_3 (sN hb_3 (sN hb_3 (sN hb_3 (sN hb_3 (sN hb_3 (sQ (v_pickT (v:=.bool true) rfl hb_3 rfl (RS.nil ?_)))))))))
   exact T.sub (hK () trivial) ⟨rfl,rfl,rfl,(congrArg AV.bool (by simp only [hb_2,hb_3,bz,if_true,if_false,Bool.false_eq_true])).symm,trivial⟩
  refine yg 2 hb_3 (yg 2 hb_3 (yQ hb_3 (v_len_sl Ty.s27 rfl (yg 2 hb_3 (yg 2 hb_3 (yQ hb_3 (v_len_sl Ty.s22 rfl (yg 2 hb_3 (sQ (v_pickF (v:=.bool (((p2.Memory).length:Int) != ((p0.Nodes).length:Int))) rfl hb_3 rfl (RS.nil ?_)))))))))))
  exact T.sub (hK () trivial) ⟨rfl,rfl,rfl,(congrArg AV.bool (by simp only [hb_2,hb_3,bz,if_true,if_false,Bool.false_eq_true])).symm,trivial⟩
theorem slices_Clone_int_c (p0 r:List Int) (h:slices_Clone_int p0=some r):FnO Try.prog 88 [.sl (List.map encI p0)] (.ref 0) [.arr 3 1 (List.map encI r)]:=by
  have hr:p0=r:=by
    unfold slices_Clone_int app at h
    split at h
    · simpa using h
    · cases h
  refine fn_of_T (N:=0) rfl Try.func88 rfl (by kernel_rfl) Try.ntmps88 rfl ?_
  show T _ _ _ _ (mkA 8 [(0,.sl (List.map encI p0))]) []
  refine T.seq ?_
  refine T.region ?_
  refine RS.op rfl (OP.q rfl (v_assign (v:=.nils) rfl ?_))
  refine RS.nil ?_
  refine T.seq ?_
  refine T.seq ?_
  refine T.region ?_
  refine RS.op rfl (OP.q rfl (v_move (v:=.sl (List.map encI p0)) rfl ?_))
  refine RS.op rfl (OP.q rfl (v_nileq Ty.s26 rfl rfl (fun z hz=>?_)))
  refine RS.nil ?_
  refine T.cond (b:=z) rfl (fun hb=>?_) (fun hb=>?_)
  · refine T.seq ?_
    refine T.region ?_
    refine RS.op rfl (OP.q rfl (v_assign (v:=.nils) rfl ?_))
    refine RS.nil ?_
    refine T.ret ?_
    refine res_tmpA (v:=.nils) rfl ?_
    refine res_done ?_
    have h0:p0=[]:=List.map_eq_nil_iff.1 (hz hb)
    exact ret_own (.ref 0) [(0,3,1)] [0] (by decide) (none_kept _) rfl (rn_ref rfl) (rw_arr (en:=encI) (ys:=[]) rfl encI_p (by rw [← hr,h0]) (rw_nil)) ⟨rfl,rfl⟩
  · refine T.skip ?_
    refine T.seq ?_
    refine T.region ?_
    refine RS.op rfl (o_buildSlice (rows:=List.map encI []) (vs:=[]) Ty.s26 Ty.z3 rfl rfl rfl rfl rfl (aw':=[.arr 3 1 (List.map encI [])]) rfl ?_)
    refine RS.op rfl (OP.q rfl (v_move (v:=.sl (List.map encI p0)) rfl ?_))
    refine RS.op rfl (o_app_ref (en:=encI) (xs:=([]:List Int)) (ys:=p0) (r:=r) Ty.s26 (fun _=>rfl) rfl rfl rfl h rfl (aw':=[.dead,.arr 3 1 (List.map encI r)]) rfl ?_)
    refine RS.op rfl (OP.q rfl (v_assign (v:=.ref 1) rfl ?_))
    refine RS.nil ?_
    refine T.ret ?_
    refine res_tmpA (v:=.ref 1) rfl ?_
    refine res_done ?_
    exact ret_own (.ref 0) [] [1] (by decide) (none_kept _) rfl (rn_ref rfl) (rw_arr rfl encI_p rfl (rw_nil)) ⟨rfl,rfl⟩
theorem slices_Clone_api_Item_api_Item_c (p0 r:List (List Item)) (h:slices_Clone_api_Item_api_Item p0=some r):FnO Try.prog 89 [.sl (List.map (encL encItem) p0)] (.ref 0) [.arr 29 1 (List.map (encL encItem) r)]:=by
  have hr:p0=r:=by
    unfold slices_Clone_api_Item_api_Item app at h
    split at h
    · simpa using h
    · cases h
  refine fn_of_T (N:=0) rfl Try.func89 rfl (by kernel_rfl) Try.ntmps89 rfl ?_
  show T _ _ _ _ (mkA 8 [(0,.sl (List.map (encL encItem) p0))]) []
  refine T.seq ?_
  refine T.region ?_
  refine RS.op rfl (OP.q rfl (v_assign (v:=.nils) rfl ?_))
  refine RS.nil ?_
  refine T.seq ?_
  refine T.seq ?_
  refine T.region ?_
  refine RS.op rfl (OP.q rfl (v_move (v:=.sl (List.map (encL encItem) p0)) rfl ?_))
  refine RS.op rfl (OP.q rfl (v_nileq Ty.s25 rfl rfl (fun z hz=>?_)))
  refine RS.nil ?_
  refine T.cond (b:=z) rfl (fun hb=>?_) (fun hb=>?_)
  · refine T.seq ?_
    refine T.region ?_
    refine RS.op rfl (OP.q rfl (v_assign (v:=.nils) rfl ?_))
    refine RS.nil ?_
    refine T.ret ?_
    refine res_tmpA (v:=.nils) rfl ?_
    refine res_done ?_
    have h0:p0=[]:=List.map_eq_nil_iff.1 (hz hb)
    exact ret_own (.ref 0) [(0,29,1)] [0] (by decide) (none_kept _) rfl (rn_ref rfl) (rw_arr (en:=(encL encItem)) (ys:=[]) rfl (encL_p encItem_p) (by rw [← hr,h0]) (rw_nil)) ⟨rfl,rfl⟩
  · refine T.skip ?_
    refine T.seq ?_
    refine T.region ?_
    refine RS.op rfl (o_buildSlice (rows:=List.map (encL encItem) []) (vs:=[]) Ty.s25 Ty.z29 rfl rfl rfl rfl rfl (aw':=[.arr 29 1 (List.map (encL encItem) [])]) rfl ?_)
    refine RS.op rfl (OP.q rfl (v_move (v:=.sl (List.map (encL encItem) p0)) rfl ?_))
    refine RS.op rfl (o_app_ref (en:=(encL encItem)) (xs:=([]:List (List Item))) (ys:=p0) (r:=r) Ty.s25 (fun _=>rfl) rfl rfl rfl h rfl (aw':=[.dead,.arr 29 1 (List.map (encL encItem) r)]) rfl ?_)
    refine RS.op rfl (OP.q rfl (v_assign (v:=.ref 1) rfl ?_))
    refine RS.nil ?_
    refine T.ret ?_
    refine res_tmpA (v:=.ref 1) rfl ?_
    refine res_done ?_
    exact ret_own (.ref 0) [] [1] (by decide) (none_kept _) rfl (rn_ref rfl) (rw_arr rfl (encL_p encItem_p) rfl (rw_nil)) ⟨rfl,rfl⟩
theorem slices_Clone_Memory_c (p0 r:List Memory) (h:slices_Clone_Memory p0=some r):FnO Try.prog 90 [.sl (List.map encMemory p0)] (.ref 0) [.arr 66 3 (List.map encMemory r)]:=by
  have hr:p0=r:=by
    unfold slices_Clone_Memory app at h
    split at h
    · simpa using h
    · cases h
  refine fn_of_T (N:=0) rfl Try.func90 rfl (by kernel_rfl) Try.ntmps90 rfl ?_
  show T _ _ _ _ (mkA 8 [(0,.sl (List.map encMemory p0))]) []
  refine T.seq ?_
  refine T.region ?_
  refine RS.op rfl (OP.q rfl (v_assign (v:=.nils) rfl ?_))
  refine RS.nil ?_
  refine T.seq ?_
  refine T.seq ?_
  refine T.region ?_
  refine RS.op rfl (OP.q rfl (v_move (v:=.sl (List.map encMemory p0)) rfl ?_))
  refine RS.op rfl (OP.q rfl (v_nileq Ty.s27 rfl rfl (fun z hz=>?_)))
  refine RS.nil ?_
  refine T.cond (b:=z) rfl (fun hb=>?_) (fun hb=>?_)
  · refine T.seq ?_
    refine T.region ?_
    refine RS.op rfl (OP.q rfl (v_assign (v:=.nils) rfl ?_))
    refine RS.nil ?_
    refine T.ret ?_
    refine res_tmpA (v:=.nils) rfl ?_
    refine res_done ?_
    have h0:p0=[]:=List.map_eq_nil_iff.1 (hz hb)
    exact ret_own (.ref 0) [(0,66,3)] [0] (by decide) (none_kept _) rfl (rn_ref rfl) (rw_arr (en:=encMemory) (ys:=[]) rfl encMemory_p (by rw [← hr,h0]) (rw_nil)) ⟨rfl,rfl⟩
  · refine T.skip ?_
    refine T.seq ?_
    refine T.region ?_
    refine RS.op rfl (o_buildSlice (rows:=List.map encMemory []) (vs:=[]) Ty.s27 Ty.z66 rfl rfl rfl rfl rfl (aw':=[.arr 66 3 (List.map encMemory [])]) rfl ?_)
    refine RS.op rfl (OP.q rfl (v_move (v:=.sl (List.map encMemory p0)) rfl ?_))
    refine RS.op rfl (o_app_ref (en:=encMemory) (xs:=([]:List Memory)) (ys:=p0) (r:=r) Ty.s27 (fun _=>rfl) rfl rfl rfl h rfl (aw':=[.dead,.arr 66 3 (List.map encMemory r)]) rfl ?_)
    refine RS.op rfl (OP.q rfl (v_assign (v:=.ref 1) rfl ?_))
    refine RS.nil ?_
    refine T.ret ?_
    refine res_tmpA (v:=.ref 1) rfl ?_
    refine res_done ?_
    exact ret_own (.ref 0) [] [1] (by decide) (none_kept _) rfl (rn_ref rfl) (rw_arr rfl encMemory_p rfl (rw_nil)) ⟨rfl,rfl⟩
theorem slices_Clone_Choice_c (p0 r:List Choice) (h:slices_Clone_Choice p0=some r):FnO Try.prog 92 [.sl (List.map encChoice p0)] (.ref 0) [.arr 94 2 (List.map encChoice r)]:=by
  have hr:p0=r:=by
    unfold slices_Clone_Choice app at h
    split at h
    · simpa using h
    · cases h
  refine fn_of_T (N:=0) rfl Try.func92 rfl (by kernel_rfl) Try.ntmps92 rfl ?_
  show T _ _ _ _ (mkA 8 [(0,.sl (List.map encChoice p0))]) []
  refine T.seq ?_
  refine T.region ?_
  refine RS.op rfl (OP.q rfl (v_assign (v:=.nils) rfl ?_))
  refine RS.nil ?_
  refine T.seq ?_
  refine T.seq ?_
  refine T.region ?_
  refine RS.op rfl (OP.q rfl (v_move (v:=.sl (List.map encChoice p0)) rfl ?_))
  refine RS.op rfl (OP.q rfl (v_nileq Ty.s28 rfl rfl (fun z hz=>?_)))
  refine RS.nil ?_
  refine T.cond (b:=z) rfl (fun hb=>?_) (fun hb=>?_)
  · refine T.seq ?_
    refine T.region ?_
    refine RS.op rfl (OP.q rfl (v_assign (v:=.nils) rfl ?_))
    refine RS.nil ?_
    refine T.ret ?_
    refine res_tmpA (v:=.nils) rfl ?_
    refine res_done ?_
    have h0:p0=[]:=List.map_eq_nil_iff.1 (hz hb)
    exact ret_own (.ref 0) [(0,94,2)] [0] (by decide) (none_kept _) rfl (rn_ref rfl) (rw_arr (en:=encChoice) (ys:=[]) rfl encChoice_p (by rw [← hr,h0]) (rw_nil)) ⟨rfl,rfl⟩
  · refine T.skip ?_
    refine T.seq ?_
    refine T.region ?_
    refine RS.op rfl (o_buildSlice (rows:=List.map encChoice []) (vs:=[]) Ty.s28 Ty.z94 rfl rfl rfl rfl rfl (aw':=[.arr 94 2 (List.map encChoice [])]) rfl ?_)
    refine RS.op rfl (OP.q rfl (v_move (v:=.sl (List.map encChoice p0)) rfl ?_))
    refine RS.op rfl (o_app_ref (en:=encChoice) (xs:=([]:List Choice)) (ys:=p0) (r:=r) Ty.s28 (fun _=>rfl) rfl rfl rfl h rfl (aw':=[.dead,.arr 94 2 (List.map encChoice r)]) rfl ?_)
    refine RS.op rfl (OP.q rfl (v_assign (v:=.ref 1) rfl ?_))
    refine RS.nil ?_
    refine T.ret ?_
    refine res_tmpA (v:=.ref 1) rfl ?_
    refine res_done ?_
    exact ret_own (.ref 0) [] [1] (by decide) (none_kept _) rfl (rn_ref rfl) (rw_arr rfl encChoice_p rfl (rw_nil)) ⟨rfl,rfl⟩
theorem move_Copy_c (p0:State) (r:State) (h:move_Copy p0=some r):FnO Try.prog 56 [.agg (encState p0)] (.agg [.ref 0,.ref 1,.ref 2,.ref 3,.ref 4]) [aR 3 1 encI r.At,aR 29 1 (encL encItem) r.Rings,aR 66 3 encMemory r.Memory,aR 94 2 encChoice r.Choices,aR 46 3 encItem r.Out]:=by
  unfold move_Copy at h
  refine fnT 0 Try.func56 Try.ntmps56 ?_
  refine T.seq (T.region (go 2 0 (RS.nil (T.seq ?_))))
  obtain ⟨x2,hx2,h⟩:=bind_some h
  refine T.region (go 2 2 (sO (cO 2 (slices_Clone_int_c p0.At x2 hx2) ⟨rfl,(go 2 3 (RS.nil (T.seq ?_)))⟩)))
  obtain ⟨x4,hx4,h⟩:=bind_some h
  refine T.region (go 2 3 (sO (cQ 3 (slices_Clone_api_Item_api_Item_c p0.Rings x4 hx4) ⟨rfl,(go 2 4 (RS.nil (T.seq (T.seq (T.region (go 2 4 (sQ (v_len_ref (en:=(encL encItem)) Ty.s25 rfl rfl ?_))))))))⟩)))
  refine go 1 4 (RS.nil (T.block (T.iter (fun ss_7:Int × (List (List Item))=>mkA 60 [(1,.ptr 0 0),(2,.ptr 1 0),(15,iI ((x4).length:Int)),(16,iI ss_7.1)]) (fun ss_7=>[.box [.ref 2,.ref 3,sL encMemory p0.Memory,sL encChoice p0.Choices,sL encItem p0.Out],.box [.nils,.nils,.nils,.nils,.nils],aR 3 1 encI x2,aR 29 1 (encL encItem) ss_7.2]) h (wk [] [0,1,2,3] 4 rfl) (fun ss_7 v_8 h hv_8=>?_))))
  obtain ⟨s5,s6⟩:=ss_7
  replace h:move_Copy_l2 p0 x2 x4 s5 s6=some v_8:=h
  try dsimp only
  unfold move_Copy_l2 at h
  refine T.seq (T.region (go 1 4 (RS.nil (T.seq (T.ci h rfl (fun hb_9 h=>?_) (fun hb_9 h=>?_))))))
  ·refine T.skip (T.seq (T.block (T.seq (T.region (go 2 4 (RS.nil ?_))))))
   obtain ⟨x7,hx7,h⟩:=bind_some h
   obtain ⟨x8,hx8,h⟩:=bind_some h
   obtain ⟨x9,hx9,h⟩:=bind_some h
   obtain ⟨x10,hx10,h⟩:=bind_some h
   obtain ⟨x11,hx11,h⟩:=bind_some h
   refine T.drawn mixed (k:=11) rfl ?_
   apply RA.jn 1 #[true,true,true,true,true,true,true,true,true,true,false];intro hS10
   apply RA.jn 3 #[true,true,true,true,true,true,true,true,false,false,false];intro hS11
   ·refine rq [0,2,3,5] 7 (rL [4,6,7,8,9,10] 4 rfl (r0 6 rfl (v_index_ref' (en:=(encL encItem)) Ty.s25 rfl rfl rfl hx7 (ra2 1 7 ?_ ?_))))
    ·refine og 4 ⟨rfl,(ra1 7 (oO rfl (o_load_aptr' (en:=(encL encItem)) (a:=x8) rfl rfl hx8 (loadRow1 Ty.k29 (c:=sL encItem x8) rfl ?_))))⟩
     exact raE hS11
    ·refine oO rfl (o_load_aptr' (en:=(encL encItem)) (a:=x8) rfl rfl hx8 (loadRow1 Ty.k29 (c:=sL encItem x8) rfl (ra2 1 8 ?_ ?_)))
     ·refine og 4 ⟨rfl,?_⟩
      exact raT hS11
     ·refine oO rfl (cO 4 (slices_Clone_Item_c x8 x9 hx9) ⟨rfl,(ra1 1 (og 5 ⟨rfl,(r0 9 rfl (v_index_ref' (en:=(encL encItem)) Ty.s25 rfl rfl rfl hx10 ?_))⟩))⟩)
      exact raE hS10
   ·refine ra1 8 (oO rfl (cO 4 (slices_Clone_Item_c x8 x9 hx9) ⟨rfl,(r0 9 rfl (v_index_ref' (en:=(encL encItem)) Ty.s25 rfl rfl rfl hx10 ?_))⟩))
    exact raT hS10
   refine ra1 10 (RO.fC 4 (oO rfl (o_store_aptr' (en:=(encL encItem)) (a:=x11) (a':=x9) Ty.c29 Ty.i29 rfl (vs:=[sL encItem x9]) rfl rfl rfl hx11 rfl rfl rfl (RA.done (by decide +kernel) (T.region (go 2 5 (RS.nil ?_)))))))
   exact ⟨(IntKind.i64.wrap (s5+1),(List.set s6 x10 x9)),(Option.some.inj h).symm,wk [] [0,1,2,3] 5 rfl⟩
  refine T.exit ?_
  obtain ⟨w_12,h,hw_12⟩:=map_inr h
  replace h:=h.trans (congrArg some (hv_8 _ hw_12))
  refine T.seq ?_
  obtain ⟨x13,hx13,h⟩:=bind_some h
  refine T.region (go 2 4 (sO (cQ 4 (slices_Clone_Memory_c p0.Memory x13 hx13) ⟨rfl,(go 2 5 (RS.nil (T.seq (T.seq (T.region (go 2 5 (sQ (v_len_ref (en:=encMemory) Ty.s27 rfl rfl ?_))))))))⟩)))
  refine go 1 5 (RS.nil (T.block (T.iter (fun ss_19:Int × (List Memory)=>mkA 60 [(1,.ptr 0 0),(2,.ptr 1 0),(36,iI ((x13).length:Int)),(37,iI ss_19.1)]) (fun ss_19=>[.box [.ref 2,.ref 3,.ref 4,sL encChoice p0.Choices,sL encItem p0.Out],.box [.nils,.nils,.nils,.nils,.nils],aR 3 1 encI x2,aR 29 1 (encL encItem) s6,aR 66 3 encMemory ss_19.2]) h (wk [] [0,1,2,3,4] 5 rfl) (fun ss_19 v_20 h hv_20=>?_))))
  obtain ⟨s14,s15⟩:=ss_19
  replace h:move_Copy_l1 p0 x2 s6 x13 s14 s15=some v_20:=h
  try dsimp only
  unfold move_Copy_l1 at h
  refine T.seq (T.region (go 1 5 (RS.nil (T.seq (T.ci h rfl (fun hb_21 h=>?_) (fun hb_21 h=>?_))))))
  ·refine T.skip (T.seq (T.block (T.seq (T.region (go 2 5 (RS.nil ?_))))))
   obtain ⟨x16,hx16,h⟩:=bind_some h
   obtain ⟨x17,hx17,h⟩:=bind_some h
   obtain ⟨x18,hx18,h⟩:=bind_some h
   obtain ⟨x19,hx19,h⟩:=bind_some h
   obtain ⟨x20,hx20,h⟩:=bind_some h
   refine T.drawn mixed (k:=11) rfl ?_
   apply RA.jn 1 #[true,true,true,true,true,true,true,true,true,true,false];intro hS22
   apply RA.jn 3 #[true,true,true,true,true,true,true,true,false,false,false];intro hS23
   ·refine rq [0,2,3,5] 7 (rL [4,6,7,8,9,10] 4 rfl (r0 6 rfl (v_index_ref' (en:=encMemory) Ty.s27 rfl rfl rfl hx16 (ra2 1 7 ?_ ?_))))
    ·refine og 5 ⟨rfl,(ra1 7 (oO rfl (o_load_aptr' (en:=encMemory) (a:=x17) rfl rfl hx17 (loadRowA Ty.k66 Ty.c66 rfl (cs:=(encMemory x17)) rfl ?_))))⟩
     exact raE hS23
    ·refine oO rfl (o_load_aptr' (en:=encMemory) (a:=x17) rfl rfl hx17 (loadRowA Ty.k66 Ty.c66 rfl (cs:=(encMemory x17)) rfl (ra2 1 8 ?_ ?_)))
     ·refine og 5 ⟨rfl,?_⟩
      exact raT hS23
     ·refine oO rfl (o_callF (ac:=[.agg (encMemory x17)]) (as0:=[.agg (encMemory x17)]) (aw0:=[]) (aw1:=[aR 69 2 encKeyed x18.Keys]) (aw2:=[.box [.ref 2,.ref 3,.ref 4,sL encChoice p0.Choices,sL encItem p0.Out],.box [.nils,.nils,.nils,.nils,.nils],aR 3 1 encI x2,aR 29 1 (encL encItem) s6,aR 66 3 encMemory s15,aR 69 2 encKeyed x18.Keys]) (v:=.agg [iI x18.Sum,.ref 0,iI x18.Dep]) (v':=.agg [iI x18.Sum,.ref 5,iI x18.Dep]) (n0:=5) (n1:=1) [] rfl rfl rfl rfl (by decide) (rw_nil) ⟨rn_agg ⟨rn_int rfl,rn_s rfl,rn_int rfl,trivial⟩,trivial⟩ (FnX.of_fnO (stage_Copy_c x17 x18 hx18)) rfl (rm_agg (cs:=[iI x18.Sum,.ref 5,iI x18.Dep]) (ds:=[iI x18.Sum,.ref 0,iI x18.Dep]) ⟨rm_pure (pure_int _ _),rm_ref (by decide),rm_pure (pure_int _ _),trivial⟩) ⟨.inr ⟨rfl,rfl⟩,.inr ⟨rfl,rfl⟩,.inr ⟨rfl,rfl⟩,.inr ⟨rfl,rfl⟩,.inr ⟨rfl,rfl⟩,.inl ⟨0,_,by decide,rfl,rom_arr encKeyed_p⟩,trivial⟩ (ra1 1 (og 6 ⟨rfl,(r0 9 rfl (v_index_ref' (en:=encMemory) Ty.s27 rfl rfl rfl hx19 ?_))⟩)))
      exact raE hS22
   ·refine ra1 8 (oO rfl (o_callF (ac:=[.agg (encMemory x17)]) (as0:=[.agg (encMemory x17)]) (aw0:=[]) (aw1:=[aR 69 2 encKeyed x18.Keys]) (aw2:=[.box [.ref 2,.ref 3,.ref 4,sL encChoice p0.Choices,sL encItem p0.Out],.box [.nils,.nils,.nils,.nils,.nils],aR 3 1 encI x2,aR 29 1 (encL encItem) s6,aR 66 3 encMemory s15,aR 69 2 encKeyed x18.Keys]) (v:=.agg [iI x18.Sum,.ref 0,iI x18.Dep]) (v':=.agg [iI x18.Sum,.ref 5,iI x18.Dep]) (n0:=5) (n1:=1) [] rfl rfl rfl rfl (by decide) (rw_nil) ⟨rn_agg ⟨rn_int rfl,rn_s rfl,rn_int rfl,trivial⟩,trivial⟩ (FnX.of_fnO (stage_Copy_c x17 x18 hx18)) rfl (rm_agg (cs:=[iI x18.Sum,.ref 5,iI x18.Dep]) (ds:=[iI x18.Sum,.ref 0,iI x18.Dep]) ⟨rm_pure (pure_int _ _),rm_ref (by decide),rm_pure (pure_int _ _),trivial⟩) ⟨.inr ⟨rfl,rfl⟩,.inr ⟨rfl,rfl⟩,.inr ⟨rfl,rfl⟩,.inr ⟨rfl,rfl⟩,.inr ⟨rfl,rfl⟩,.inl ⟨0,_,by decide,rfl,rom_arr encKeyed_p⟩,trivial⟩ (r0 9 rfl (v_index_ref' (en:=encMemory) Ty.s27 rfl rfl rfl hx19 ?_))))
    exact raT hS22
   refine ra1 10 (RO.fC 5 (oO rfl (o_store_aptr' (en:=encMemory) (a:=x20) (a':=x18) Ty.c66 Ty.i66 rfl (vs:=[iI x18.Sum,sL encKeyed x18.Keys,iI x18.Dep]) rfl rfl rfl hx20 rfl rfl rfl (RA.done (by decide +kernel) (T.region (go 2 6 (RS.nil ?_)))))))
   exact ⟨(IntKind.i64.wrap (s14+1),(List.set s15 x19 x18)),(Option.some.inj h).symm,wk [] [0,1,2,3,4] 6 rfl⟩
  refine T.exit ?_
  obtain ⟨w_24,h,hw_24⟩:=map_inr h
  replace h:=h.trans (congrArg some (hv_20 _ hw_24))
  refine T.seq ?_
  obtain ⟨x22,hx22,h⟩:=bind_some h
  refine T.region (go 2 5 (sO (cO 5 (slices_Clone_Choice_c p0.Choices x22 hx22) ⟨rfl,(go 2 6 (RS.nil (T.seq ?_)))⟩)))
  obtain ⟨x24,hx24,h⟩:=bind_some h
  refine T.region (go 2 6 (sO (cO 6 (slices_Clone_Item_c p0.Out x24 hx24) ⟨rfl,(go 2 7 (RS.nil (T.seq (T.region (go 2 7 (RS.nil ?_))))))⟩)))
  cases h
  exact tO [] [2,3,4,5,6] 7
theorem move_Finish_c (p0:Net) (p1:List (List Item)) (p2:State) (r:State × Int) (h:move_Finish p0 p1 p2=some r):Fn Try.prog 14 [.agg (encNet p0),sL (encL encItem) p1,.agg (encState p2)] (.tup [.agg (encState r.1),iI r.2]):=by
  unfold move_Finish at h
  refine fnT 0 Try.func14 Try.ntmps14 ?_
  refine T.seq (T.region (go 4 0 (RS.nil (T.seq (T.seq ?_)))))
  obtain ⟨x2,hx2,h⟩:=bind_some h
  refine T.region (go 3 3 (sO (cF (move_Check_c p0 p1 p2 x2 hx2) ⟨rfl,(go 1 3 (RS.nil (T.seq (T.region (go 2 3 (RS.nil (T.ci h rfl (fun hb_1 h=>?_) (fun hb_1 h=>?_))))))))⟩)))
  ·refine T.seq (T.region (go 4 3 (RS.nil ?_)))
   cases h
   exact tD
  refine T.skip (T.seq ?_)
  obtain ⟨x4,hx4,h⟩:=bind_some h
  refine T.region (go 1 3 (sO (o_callF (ac:=[.agg (encState p2)]) (as0:=[.agg (encState p2)]) (aw0:=[]) (aw1:=[aR 3 1 encI x4.At,aR 29 1 (encL encItem) x4.Rings,aR 66 3 encMemory x4.Memory,aR 94 2 encChoice x4.Choices,aR 46 3 encItem x4.Out]) (aw2:=[.box (encNet p0),.box (encState p2),.box [.nils,.nils,.nils,.nils,.nils],aR 3 1 encI x4.At,aR 29 1 (encL encItem) x4.Rings,aR 66 3 encMemory x4.Memory,aR 94 2 encChoice x4.Choices,aR 46 3 encItem x4.Out]) (v:=.agg [.ref 0,.ref 1,.ref 2,.ref 3,.ref 4]) (v':=.agg [.ref 3,.ref 4,.ref 5,.ref 6,.ref 7]) (n0:=3) (n1:=5) [] rfl rfl rfl rfl (by decide) (rw_nil) ⟨rn_agg ⟨rn_s rfl,rn_s rfl,rn_s rfl,rn_s rfl,rn_s rfl,trivial⟩,trivial⟩ (FnX.of_fnO (move_Copy_c p2 x4 hx4)) rfl (rm_agg (cs:=[.ref 3,.ref 4,.ref 5,.ref 6,.ref 7]) (ds:=[.ref 0,.ref 1,.ref 2,.ref 3,.ref 4]) ⟨rm_ref (by decide),rm_ref (by decide),rm_ref (by decide),rm_ref (by decide),rm_ref (by decide),trivial⟩) ⟨.inr ⟨rfl,rfl⟩,.inr ⟨rfl,rfl⟩,.inr ⟨rfl,rfl⟩,.inl ⟨0,_,by decide,rfl,rom_arr encI_p⟩,.inl ⟨1,_,by decide,rfl,rom_arr (encL_p encItem_p)⟩,.inl ⟨2,_,by decide,rfl,rom_arr encMemory_p⟩,.inl ⟨3,_,by decide,rfl,rom_arr encChoice_p⟩,.inl ⟨4,_,by decide,rfl,rom_arr encItem_p⟩,trivial⟩ (go 1 8 (RS.nil (T.seq (T.seq ?_)))))))
  obtain ⟨x6,hx6,h⟩:=bind_some h
  refine T.region (go 3 8 (sO (cO 8 (move_ready_c p0 p1 x4 x6 hx6) ⟨rfl,(go 1 9 (RS.nil (T.block (T.iter (fun ss_4:(List Move) × (List Int) × (List (List Item)) × (List Memory) × (List Choice) × (List Item)=>mkA 38 [(1,sL (encL encItem) p1),(3,.ptr 0 0),(5,.ptr 1 0),(6,.ptr 2 0),(9,.ref 3)]) (fun ss_4=>[.box (encNet p0),.box [.ref 4,.ref 5,.ref 6,.ref 7,.ref 8],.box [.nils,.nils,.nils,.nils,.nils],aR 57 2 encMove ss_4.1,aR 3 1 encI ss_4.2.1,aR 29 1 (encL encItem) ss_4.2.2.1,aR 66 3 encMemory ss_4.2.2.2.1,aR 94 2 encChoice ss_4.2.2.2.2.1,aR 46 3 encItem ss_4.2.2.2.2.2]) h (wk [] [0,1,2,8,3,4,5,6,7] 9 rfl) (fun ss_4 v_5 h hv_5=>?_)))))⟩)))
  obtain ⟨s7,s8,s9,s10,s11,s12⟩:=ss_4
  replace h:move_Finish_l1 p0 p1 s7 s8 s9 s10 s11 s12=some v_5:=h
  try dsimp only
  unfold move_Finish_l1 at h
  refine T.seq (T.seq (T.region (go 1 9 (sQ (v_len_ref (en:=encMove) Ty.s53 rfl rfl (go 1 9 (RS.nil (T.ci h rfl (fun hb_6 h=>?_) (fun hb_6 h=>?_)))))))))
  ·refine T.skip (T.seq (T.block ?_))
   obtain ⟨x13,hx13,h⟩:=bind_some h
   obtain ⟨x14,hx14,h⟩:=bind_some h
   obtain ⟨x15,hx15,h⟩:=bind_some h
   refine T.drawn mixed (k:=6) rfl (rq [1,2] 4 (r0 3 rfl (v_index_ref' (en:=encMove) Ty.s53 rfl rfl rfl hx13 (rL [0,5] 0 rfl (ra1 4 (oO rfl (o_load_aptr' (en:=encMove) (a:=x14) rfl rfl hx14 (loadRowA Ty.k57 Ty.c57 rfl (cs:=(encMove x14)) rfl (ra1 5 (oO rfl (o_callF (ac:=[.agg (encNet p0),sL (encL encItem) p1,.ptr 1 0,.agg (encMove x14)]) (as0:=[.agg (encNet p0),sL (encL encItem) p1,.ptr 0 0,.agg (encMove x14)]) (aw0:=[.box [.ref 1,.ref 2,.ref 3,.ref 4,.ref 5],aR 3 1 encI s8,aR 29 1 (encL encItem) s9,aR 66 3 encMemory s10,aR 94 2 encChoice s11,aR 46 3 encItem s12]) (aw1:=[.box [.ref 1,.ref 2,.ref 3,.ref 6,.ref 7],aR 3 1 encI x15.1,aR 29 1 (encL encItem) x15.2.1,aR 66 3 encMemory x15.2.2.1,.dead,.dead,aR 94 2 encChoice x15.2.2.2.1,aR 46 3 encItem x15.2.2.2.2]) (aw2:=[.box (encNet p0),.box [.ref 4,.ref 5,.ref 6,.ref 9,.ref 10],.box [.nils,.nils,.nils,.nils,.nils],aR 57 2 encMove s7,aR 3 1 encI x15.1,aR 29 1 (encL encItem) x15.2.1,aR 66 3 encMemory x15.2.2.1,.dead,.dead,aR 94 2 encChoice x15.2.2.2.1,aR 46 3 encItem x15.2.2.2.2]) (v:=.tup []) (v':=.tup []) (n0:=9) (n1:=8) [1,4,5,6,7,8] rfl rfl rfl rfl (by decide) (rw_box (cs:=[.ref 1,.ref 2,.ref 3,.ref 4,.ref 5]) (ds:=[.ref 4,.ref 5,.ref 6,.ref 7,.ref 8]) rfl ⟨rn_ref rfl,rn_ref rfl,rn_ref rfl,rn_ref rfl,rn_ref rfl,trivial⟩ (rw_arr rfl encI_p rfl (rw_arr rfl (encL_p encItem_p) rfl (rw_arr rfl encMemory_p rfl (rw_arr rfl encChoice_p rfl (rw_arr rfl encItem_p rfl (rw_nil))))))) ⟨rn_agg ⟨rn_s rfl,rn_int rfl,rn_int rfl,trivial⟩,rn_s rfl,rn_ptr rfl,rn_agg ⟨rn_int rfl,rn_int rfl,trivial⟩,trivial⟩ (move_do_x5aa6_c p0 p1 x14 s8 s9 s10 s11 s12 x15 hx15) rfl (rm_tup (cs:=[]) (ds:=[]) trivial) ⟨.inr ⟨rfl,rfl⟩,.inl ⟨0,_,by decide,rfl,rom_box (cs:=[.ref 4,.ref 5,.ref 6,.ref 9,.ref 10]) (ds:=[.ref 1,.ref 2,.ref 3,.ref 6,.ref 7]) ⟨rm_ref (by decide),rm_ref (by decide),rm_ref (by decide),rm_ref (by decide),rm_ref (by decide),trivial⟩⟩,.inr ⟨rfl,rfl⟩,.inr ⟨rfl,rfl⟩,.inl ⟨1,_,by decide,rfl,rom_arr encI_p⟩,.inl ⟨2,_,by decide,rfl,rom_arr (encL_p encItem_p)⟩,.inl ⟨3,_,by decide,rfl,rom_arr encMemory_p⟩,.inl ⟨4,_,by decide,rfl,trivial⟩,.inl ⟨5,_,by decide,rfl,trivial⟩,.inl ⟨6,_,by decide,rfl,rom_arr encChoice_p⟩,.inl ⟨7,_,by decide,rfl,rom_arr encItem_p⟩,trivial⟩ (RA.done (by decide +kernel) ?_))))))))))))
   obtain ⟨x16,hx16,h⟩:=bind_some h
   refine T.region (go 3 11 (sO (cO 11 (move_ready_c p0 p1 (⟨x15.1,x15.2.1,x15.2.2.1,x15.2.2.2.1,x15.2.2.2.2⟩:State) x16 hx16) ⟨rfl,(go 1 12 (RS.nil ?_))⟩)))
   exact ⟨(x16,x15.1,x15.2.1,x15.2.2.1,x15.2.2.2.1,x15.2.2.2.2),(Option.some.inj h).symm,wk [] [0,1,2,11,4,5,6,9,10] 12 rfl⟩
  refine T.exit ?_
  obtain ⟨w_7,h,hw_7⟩:=map_inr h
  replace h:=h.trans (congrArg some (hv_5 _ hw_7))
  refine T.seq (T.region (go 3 9 (RS.nil ?_)))
  cases h
  exact tD
theorem slices_Equal_Choice_c (p0:List Choice) (p1:List Choice) (r:Bool) (h:slices_Equal_Choice p0 p1=some r):Fn Try.prog 55 [sL encChoice p0,sL encChoice p1] (.bool r):=by
  unfold slices_Equal_Choice at h
  refine fnT 0 Try.func55 Try.ntmps55 ?_
  refine T.seq (T.region (go 1 0 (RS.nil (T.seq (T.seq (T.region (go 1 0 (sQ (v_len_sl Ty.s28 rfl (go 1 0 ?_))))))))))
  refine sQ (v_len_sl Ty.s28 rfl (go 1 0 (RS.nil (T.ci h rfl (fun hb_1 h=>?_) (fun hb_1 h=>?_)))))
  ·refine T.seq (T.region (go 1 0 (RS.nil ?_)))
   cases h
   exact tD
  refine T.skip (T.seq (T.seq (T.region (go 1 0 (sQ (v_len_sl Ty.s28 rfl (go 1 0 (RS.nil (T.block (T.iter (fun ss_6:Int=>mkA 26 [(0,sL encChoice p0),(1,sL encChoice p1),(12,iI ((p0).length:Int)),(13,iI ss_6)]) (fun ss_6=>[]) h (wk [] [] 0 rfl) (fun ss_6 v_7 h hv_7=>?_)))))))))))
  revert hv_7 h;revert ss_6;intro s1 h hv_7
  replace h:slices_Equal_Choice_l1 p0 p1 s1=some v_7:=h
  try dsimp only
  unfold slices_Equal_Choice_l1 at h
  refine T.seq (T.region (go 1 0 (RS.nil (T.seq (T.ci h rfl (fun hb_8 h=>?_) (fun hb_8 h=>?_))))))
  ·refine T.skip (T.seq (T.block (T.seq (T.region (go 2 0 (RS.nil (T.seq ?_)))))))
   obtain ⟨x4,hx4,h⟩:=bind_some h
   obtain ⟨x5,hx5,h⟩:=bind_some h
   refine T.drawn mixed (k:=9) rfl (rq [0,1] 7 (r0 2 rfl (v_index_sl Ty.s28 (fun _=>rfl) rfl rfl hx4 (rq [4,5] 4 (r0 6 rfl (v_index_sl Ty.s28 (fun _=>rfl) rfl rfl hx5 (rL [3,8] 3 rfl (ra1 7 (og 0 ⟨rfl,(r0 8 rfl (v_gneq (cs:=[iI x4.Node,iI x4.Lane]) (ds:=[iI x5.Node,iI x5.Lane]) (r:=x4==x5) Ty.q94 rfl rfl rfl rfl (encChoice_eq x4 x5) (RA.done (by decide +kernel) ?_)))⟩)))))))))
   refine T.ci h rfl (fun hb_9 h=>?_) (fun hb_9 h=>?_)
   ·refine T.seq (T.region (go 1 0 (RS.nil ?_)))
    obtain ⟨w_10,h,hw_10⟩:=map_inr h
    replace h:=h.trans (congrArg some (hv_7 _ hw_10))
    cases h
    exact tD
   refine T.skip (T.region (go 2 0 (RS.nil ?_)))
   exact ⟨IntKind.i64.wrap (s1+1),(Option.some.inj h).symm,wk [] [] 0 rfl⟩
  refine T.exit ?_
  obtain ⟨w_11,h,hw_11⟩:=map_inr h
  replace h:=h.trans (congrArg some (hv_7 _ hw_11))
  refine T.seq (T.region (go 1 0 (RS.nil ?_)))
  cases h
  exact tD
theorem slices_Equal_Item_c (p0:List Item) (p1:List Item) (r:Bool) (h:slices_Equal_Item p0 p1=some r):Fn Try.prog 49 [sL encItem p0,sL encItem p1] (.bool r):=by
  unfold slices_Equal_Item at h
  refine fnT 0 Try.func49 Try.ntmps49 ?_
  refine T.seq (T.region (go 1 0 (RS.nil (T.seq (T.seq (T.region (go 1 0 (sQ (v_len_sl Ty.s29 rfl (go 1 0 ?_))))))))))
  refine sQ (v_len_sl Ty.s29 rfl (go 1 0 (RS.nil (T.ci h rfl (fun hb_1 h=>?_) (fun hb_1 h=>?_)))))
  ·refine T.seq (T.region (go 1 0 (RS.nil ?_)))
   cases h
   exact tD
  refine T.skip (T.seq (T.seq (T.region (go 1 0 (sQ (v_len_sl Ty.s29 rfl (go 1 0 (RS.nil (T.block (T.iter (fun ss_6:Int=>mkA 26 [(0,sL encItem p0),(1,sL encItem p1),(12,iI ((p0).length:Int)),(13,iI ss_6)]) (fun ss_6=>[]) h (wk [] [] 0 rfl) (fun ss_6 v_7 h hv_7=>?_)))))))))))
  revert hv_7 h;revert ss_6;intro s1 h hv_7
  replace h:slices_Equal_Item_l1 p0 p1 s1=some v_7:=h
  try dsimp only
  unfold slices_Equal_Item_l1 at h
  refine T.seq (T.region (go 1 0 (RS.nil (T.seq (T.ci h rfl (fun hb_8 h=>?_) (fun hb_8 h=>?_))))))
  ·refine T.skip (T.seq (T.block (T.seq (T.region (go 2 0 (RS.nil (T.seq ?_)))))))
   obtain ⟨x4,hx4,h⟩:=bind_some h
   obtain ⟨x5,hx5,h⟩:=bind_some h
   refine T.drawn mixed (k:=9) rfl (rq [0,1] 7 (r0 2 rfl (v_index_sl Ty.s29 (fun _=>rfl) rfl rfl hx4 (rq [4,5] 4 (r0 6 rfl (v_index_sl Ty.s29 (fun _=>rfl) rfl rfl hx5 (rL [3,8] 3 rfl (ra1 7 (og 0 ⟨rfl,(r0 8 rfl (v_gneq (cs:=[iI x4.Key,iI x4.Val,iI x4.Dep]) (ds:=[iI x5.Key,iI x5.Val,iI x5.Dep]) (r:=x4==x5) Ty.q46 rfl rfl rfl rfl (encItem_eq x4 x5) (RA.done (by decide +kernel) ?_)))⟩)))))))))
   refine T.ci h rfl (fun hb_9 h=>?_) (fun hb_9 h=>?_)
   ·refine T.seq (T.region (go 1 0 (RS.nil ?_)))
    obtain ⟨w_10,h,hw_10⟩:=map_inr h
    replace h:=h.trans (congrArg some (hv_7 _ hw_10))
    cases h
    exact tD
   refine T.skip (T.region (go 2 0 (RS.nil ?_)))
   exact ⟨IntKind.i64.wrap (s1+1),(Option.some.inj h).symm,wk [] [] 0 rfl⟩
  refine T.exit ?_
  obtain ⟨w_11,h,hw_11⟩:=map_inr h
  replace h:=h.trans (congrArg some (hv_7 _ hw_11))
  refine T.seq (T.region (go 1 0 (RS.nil ?_)))
  cases h
  exact tD
theorem crosslaw_moved_c (r:Bool) (h:crosslaw_moved=some r):Fn Try.prog 13 [] (.bool r):=by
  unfold crosslaw_moved at h
  refine fnT 0 Try.func13 Try.ntmps13 ?_
  refine T.seq (T.region (go 1 0 (RS.nil (T.seq ?_))))
  obtain ⟨x6,hx6,h⟩:=bind_some h
  obtain ⟨x7,hx7,h⟩:=bind_some h
  obtain ⟨x10,hx10,h⟩:=bind_some h
  refine T.region (sO (cD (crosslaw_meeting_c x6 hx6) ⟨rfl,(sO (cQ 0 (crosslaw_two_c x7 hx7) ⟨rfl,(sO (o_buildSlice (rows:=List.map encI [1,1]) (vs:=[iI 1,iI 1]) Ty.s26 Ty.z3 rfl rfl rfl rfl rfl rfl (RS.fC 0 (RS.fC 1 (sO (cD (move_Play_c x6 x7 ([1,1]:List Int) x10 hx10) ⟨rfl,(go 6 2 (RS.nil (T.seq ?_)))⟩))))))⟩))⟩))
  obtain ⟨x15,hx15,h⟩:=bind_some h
  obtain ⟨x16,hx16,h⟩:=bind_some h
  obtain ⟨x18,hx18,h⟩:=bind_some h
  refine T.drawn mixed (k:=10) rfl ?_
  apply RA.jn 2 #[true,true,true,true,true,true,true,true,false,false];intro hS1
  apply RA.jn 6 #[true,true,true,false,false,false,false,true,false,false];intro hS2
  apply RA.jn 7 #[true,false,true,false,false,false,false,true,false,false];intro hS3
  apply RA.jn 7 #[true,true,true,false,false,false,false,false,false,false];intro hS4
  apply RA.jn 8 #[true,false,false,false,false,false,false,true,false,false];intro hS5
  apply RA.jn 8 #[false,false,true,false,false,false,false,true,false,false];intro hS6
  apply RA.jn 8 #[true,false,true,false,false,false,false,false,false,false];intro hS7
  ·refine ra3 0 2 7 ?_ ?_ ?_
   ·refine oO rfl (cD (crosslaw_meeting_c x15 hx15) ⟨rfl,(ra3 1 2 7 ?_ ?_ ?_)⟩)
    ·refine oO rfl (cQ 3 (crosslaw_two_c x16 hx16) ⟨rfl,(rL [2,3,4,5,6,8,9] 2 rfl ?_)⟩)
     exact raE hS4
    ·refine og 3 ⟨rfl,?_⟩
     exact raE hS7
    ·refine og 3 ⟨rfl,?_⟩
     exact raE hS5
   ·refine og 3 ⟨rfl,(ra2 0 7 ?_ ?_)⟩
    ·refine oO rfl (cD (crosslaw_meeting_c x15 hx15) ⟨rfl,?_⟩)
     exact raT hS7
    ·refine og 3 ⟨rfl,?_⟩
     exact raE hS6
   ·refine og 3 ⟨rfl,(ra2 0 2 ?_ ?_)⟩
    ·refine oO rfl (cD (crosslaw_meeting_c x15 hx15) ⟨rfl,?_⟩)
     exact raT hS5
    ·refine og 4 ⟨rfl,?_⟩
     exact raT hS6
  ·refine ra2 1 7 ?_ ?_
   ·refine oO rfl (cQ 3 (crosslaw_two_c x16 hx16) ⟨rfl,?_⟩)
    exact raT hS4
   ·refine og 3 ⟨rfl,?_⟩
    exact raE hS3
  ·refine ra1 0 (oO rfl (cD (crosslaw_meeting_c x15 hx15) ⟨rfl,?_⟩))
   exact raT hS3
  ·refine ra2 1 2 ?_ ?_
   ·refine oO rfl (cQ 4 (crosslaw_two_c x16 hx16) ⟨rfl,(ra1 2 (og 5 ⟨rfl,?_⟩))⟩)
    exact raE hS2
   ·refine og 4 ⟨rfl,?_⟩
    exact raT hS3
  ·refine ra2 3 7 ?_ ?_
   ·refine RO.fC 3 (oO rfl (cD (move_Finish_c x15 x16 x10.1 x18 hx18) ⟨rfl,(rq [4,5,6] 3 (ra1 7 (og 4 ⟨rfl,?_⟩)))⟩))
    exact raE hS1
   ·refine og 4 ⟨rfl,?_⟩
    exact raV hS2 [0,1,2,4,3] rfl
  ·refine ra1 1 (oO rfl (cQ 4 (crosslaw_two_c x16 hx16) ⟨rfl,?_⟩))
   exact raT hS2
  ·refine ra1 3 (RO.fC 4 (oO rfl (cD (move_Finish_c x15 x16 x10.1 x18 hx18) ⟨rfl,(rq [4,5,6] 2 ?_)⟩)))
   exact raV hS1 [0,1,2,4,3] rfl
  refine ra1 8 (og 5 ⟨rfl,(rq [9] 0 (RA.done (by decide +kernel) ?_))⟩)
  obtain ⟨zt_11,hz,h⟩:=bind_some h
  revert hz h;revert zt_11;intro c21 hz h
  refine T.join (Z:=Unit) (fun _=>mkA 41 [(0,.bool c21)]) (fun _=>[]) (fun _=>True) (fun _ _=>?_) (fun hK=>?_)
  ·cases h
   exact tD
  refine T.region (go 3 5 ?_)
  rcases bool_cases (x10.2==0) with hb_8 | hb_8
  ·replace hz:=ite_T hz hb_8
   refine yg 5 hb_8 (yg 5 hb_8 (sQ (v_pickT (v:=.bool (x18.2==0)) rfl hb_8 rfl (go 1 5 ?_))))
   rcases bool_cases (x18.2==0) with hb_9 | hb_9
   ·replace hz:=ite_T hz hb_9
    obtain ⟨x19,hx19,hz⟩:=bind_some hz
    refine yg 5 hb_9 (yg 5 hb_9 (yg 5 hb_9 (yg 5 hb_9 (yO hb_9 (o_buildSlice (rows:=List.map encChoice [(⟨2,1⟩:Choice),(⟨2,0⟩:Choice)]) (vs:=[.agg [iI 2,iI 1],.agg [iI 2,iI 0]]) Ty.s28 Ty.z94 rfl rfl rfl rfl rfl rfl (yO hb_9 (cF (slices_Equal_Choice_c x18.1.Choices ([(⟨2,1⟩:Choice),(⟨2,0⟩:Choice)]:List Choice) x19 hx19) ⟨rfl,(sQ (v_pickT (v:=.bool x19) rfl hb_9 rfl (go 1 6 ?_)))⟩)))))))
    rcases bool_cases x19 with hb_10 | hb_10
    ·replace hz:=ite_T hz hb_10
     obtain ⟨x20,hx20,hz⟩:=bind_some hz
     refine yg 6 hb_10 (yg 6 hb_10 (yg 6 hb_10 (yg 6 hb_10 (yO hb_10 (o_buildSlice (rows:=List.map encItem [(⟨2,2,1⟩:Item),(⟨1,1,2⟩:Item)]) (vs:=[.agg [iI 2,iI 2,iI 1],.agg [iI 1,iI 1,iI 2]]) Ty.s29 Ty.z46 rfl rfl rfl rfl rfl rfl (yO hb_10 (cF (slices_Equal_Item_c x18.1.Out ([(⟨2,2,1⟩:Item),(⟨1,1,2⟩:Item)]:List Item) x20 hx20) ⟨rfl,(sQ (v_pickT (v:=.bool x20) rfl hb_10 rfl (go 1 7 (RS.nil ?_))))⟩)))))))
     exact T.weakR (hK () trivial) (Weak.mkN [] [] (by decide) (none_kept _) rfl ⟨rn_bool ((congrArg (fun p=>p) (Option.some.inj hz)).symm),trivial⟩ (rw_nil))
    replace hz:=ite_F hz hb_10
    refine sN hb_10 (sN hb_10 (sN hb_10 (sN hb_10 (sN hb_10 (sN hb_10 (sQ (v_pickF (v:=.bool false) rfl hb_10 rfl (go 1 6 (RS.nil ?_)))))))))
    exact T.weakR (hK () trivial) (Weak.mkN [] [] (by decide) (none_kept _) rfl ⟨rn_bool ((congrArg (fun p=>p) (Option.some.inj hz)).symm),trivial⟩ (rw_nil))
   replace hz:=ite_F hz hb_9
   refine sN hb_9 (sN hb_9 (sN hb_9 (sN hb_9 (sN hb_9 (sN hb_9 (sQ (v_pickF (v:=.bool false) rfl hb_9 rfl (go 1 5 (sN rfl (sN rfl ?_))))))))))
   refine sN rfl (sN rfl (sN rfl (sN rfl (sQ (v_pickF (v:=.bool false) rfl rfl rfl (go 1 5 (RS.nil ?_)))))))
   exact T.weakR (hK () trivial) (Weak.mkN [] [] (by decide) (none_kept _) rfl ⟨rn_bool ((congrArg (fun p=>p) (Option.some.inj hz)).symm),trivial⟩ (rw_nil))
  replace hz:=ite_F hz hb_8
  refine sN hb_8 (sN hb_8 (sQ (v_pickF (v:=.bool false) rfl hb_8 rfl (go 1 5 (sN rfl (sN rfl (sN rfl (sN rfl (sN rfl (sN rfl ?_))))))))))
  refine sQ (v_pickF (v:=.bool false) rfl rfl rfl (go 1 5 (sN rfl (sN rfl (sN rfl (sN rfl (sN rfl (sN rfl (sQ (v_pickF (v:=.bool false) rfl rfl rfl (go 1 5 ?_)))))))))))
  refine RS.nil ?_
  exact T.weakR (hK () trivial) (Weak.mkN [] [] (by decide) (none_kept _) rfl ⟨rn_bool ((congrArg (fun p=>p) (Option.some.inj hz)).symm),trivial⟩ (rw_nil))
theorem crosslaw_far_c (p0:State) (r:Bool) (h:crosslaw_far p0=some r):Fn Try.prog 16 [.agg (encState p0)] (.bool r):=by
  unfold crosslaw_far at h
  refine fnT 0 Try.func16 Try.ntmps16 ?_
  refine T.seq (T.region (go 2 0 (RS.nil (T.join (Z:=Unit) (fun _=>mkA 13 [(2,.bool ((decide (((p0.Choices).length:Int)<500)) && decide (((p0.Out).length:Int)<2000)))]) (fun _=>[]) (fun _=>True) (fun _ _=>?_) (fun hK=>?_)))))
  ·cases h
   exact tD
  refine T.region (go 2 1 (sQ (v_len_sl Ty.s28 rfl (go 2 1 ?_))))
  rcases bool_cases (decide (((p0.Choices).length:Int)<500)) with hb_1 | hb_1
  ·refine yg 1 hb_1 (yg 1 hb_1 (yQ hb_1 (v_len_sl Ty.s29 rfl (yg 1 hb_1 (sQ (v_pickT (v:=.bool (decide (((p0.Out).length:Int)<2000))) rfl hb_1 rfl (go 1 1 (RS.nil ?_))))))))
   exact T.weakR (hK () trivial) (Weak.mkN [] [] (by decide) (none_kept _) rfl ⟨rn_bool (by simp only [hb_1,bz,if_true,if_false,Bool.false_eq_true]),trivial⟩ (rw_nil))
  refine sN hb_1 (sN hb_1 (sN hb_1 (sN hb_1 (sQ (v_pickF (v:=.bool false) rfl hb_1 rfl (go 1 1 (RS.nil ?_)))))))
  exact T.weakR (hK () trivial) (Weak.mkN [] [] (by decide) (none_kept _) rfl ⟨rn_bool (by simp only [hb_1,bz,if_true,if_false,Bool.false_eq_true]),trivial⟩ (rw_nil))
end Go.Proofs.Ytfbmoockopakjaa
namespace Go.Proofs.Ytfbmoockopakjaa
open Go.RowKit
set_option linter.unusedVariables false
set_option linter.unusedSimpArgs false
set_option maxRecDepth 100000
set_option maxHeartbeats 4000000
set_option synthInstance.maxSize 100000
set_option synthInstance.maxHeartbeats 4000000
theorem slices_Index_int_c (p0:List Int) (p1:Int) (r:Int) (h:slices_Index_int p0 p1=some r):Fn Try.prog 94 [sL encI p0,iI p1] (iI r):=by
  unfold slices_Index_int at h
  refine fnT 0 Try.func94 Try.ntmps94 ?_
  refine T.seq (T.region (go 1 0 (RS.nil (T.seq (T.seq (T.region (go 1 0 (sQ (v_len_sl Ty.s26 rfl (go 1 0 ?_))))))))))
  refine RS.nil (T.block (T.iter (fun ss_5:Int=>mkA 19 [(0,sL encI p0),(1,iI p1),(7,iI ((p0).length:Int)),(8,iI ss_5)]) (fun ss_5=>[]) h (wk [] [] 0 rfl) (fun ss_5 v_6 h hv_6=>?_)))
  revert hv_6 h;revert ss_5;intro s1 h hv_6
  replace h:slices_Index_int_l1 p0 p1 s1=some v_6:=h
  try dsimp only
  unfold slices_Index_int_l1 at h
  refine T.seq (T.region (go 1 0 (RS.nil (T.seq (T.ci h rfl (fun hb_7 h=>?_) (fun hb_7 h=>?_))))))
  ·refine T.skip (T.seq (T.block (T.seq (T.region (go 2 0 (RS.nil (T.seq ?_)))))))
   obtain ⟨x3,hx3,h⟩:=bind_some h
   refine T.region (go 3 0 (sQ (v_index_sl Ty.s26 (fun _=>rfl) rfl rfl hx3 (go 2 0 (RS.nil (T.ci h rfl (fun hb_8 h=>?_) (fun hb_8 h=>?_)))))))
   ·refine T.seq (T.region (go 2 0 (RS.nil ?_)))
    obtain ⟨w_9,h,hw_9⟩:=map_inr h
    replace h:=h.trans (congrArg some (hv_6 _ hw_9))
    cases h
    exact tD
   refine T.skip (T.region (go 2 0 (RS.nil ?_)))
   exact ⟨IntKind.i64.wrap (s1+1),(Option.some.inj h).symm,wk [] [] 0 rfl⟩
  refine T.exit ?_
  obtain ⟨w_10,h,hw_10⟩:=map_inr h
  replace h:=h.trans (congrArg some (hv_6 _ hw_10))
  refine T.seq (T.region (go 1 0 (RS.nil ?_)))
  cases h
  exact tD
theorem slices_Contains_int_c (p0:List Int) (p1:Int) (r:Bool) (h:slices_Contains_int p0 p1=some r):Fn Try.prog 65 [sL encI p0,iI p1] (.bool r):=by
  unfold slices_Contains_int at h
  refine fnT 0 Try.func65 Try.ntmps65 ?_
  refine T.seq (T.region (go 1 0 (RS.nil (T.seq ?_))))
  obtain ⟨x2,hx2,h⟩:=bind_some h
  refine T.region (go 2 0 (sO (cF (slices_Index_int_c p0 p1 x2 hx2) ⟨rfl,(go 2 0 (RS.nil ?_))⟩)))
  cases h
  exact tD
theorem crosslaw_without_1_x041e_c (p0:Node) (p1:List Int) (r:Bool) (h:crosslaw_without_1_x041e p0 p1=some r):FnX Try.prog 64 [.agg (encNode p0),.ptr 0 0] [.box [sL encI p1]] (.bool r) [.box [sL encI p1]]:=by
  unfold crosslaw_without_1_x041e at h
  refine fnT 1 Try.func64 Try.ntmps64 ?_
  refine T.seq (T.region (go 2 1 (RS.nil (T.seq ?_))))
  obtain ⟨x2,hx2,h⟩:=bind_some h
  refine T.region (go 3 2 (sO (cF (slices_Contains_int_c p1 p0.Kind x2 hx2) ⟨rfl,(go 1 2 (RS.nil ?_))⟩)))
  cases h
  exact tN [0]
theorem slices_IndexFunc_Node_x71e3_c (p0:List Node) (p1:List Int) (r:Int) (h:slices_IndexFunc_Node_x71e3 p0 p1=some r):FnX Try.prog 93 [sL encNode p0,.func 64 [.ptr 0 0]] [.box [sL encI p1]] (iI r) [.box [sL encI p1]]:=by
  unfold slices_IndexFunc_Node_x71e3 at h
  refine fnT 1 Try.func93 Try.ntmps93 ?_
  refine T.seq (T.region (go 1 1 (RS.nil (T.seq (T.seq (T.region (go 1 1 (sQ (v_len_sl Ty.s22 rfl (go 1 1 ?_))))))))))
  refine RS.nil (T.block (T.iter (fun ss_5:Int=>mkA 19 [(0,sL encNode p0),(1,.func 64 [.ptr 0 0]),(7,iI ((p0).length:Int)),(8,iI ss_5)]) (fun ss_5=>[.box [sL encI p1]]) h (wk [] [0] 1 rfl) (fun ss_5 v_6 h hv_6=>?_)))
  revert hv_6 h;revert ss_5;intro s1 h hv_6
  replace h:slices_IndexFunc_Node_x71e3_l1 p0 p1 s1=some v_6:=h
  try dsimp only
  unfold slices_IndexFunc_Node_x71e3_l1 at h
  refine T.seq (T.region (go 1 1 (RS.nil (T.seq (T.ci h rfl (fun hb_7 h=>?_) (fun hb_7 h=>?_))))))
  ·refine T.skip (T.seq (T.block (T.seq (T.region (go 2 1 (RS.nil (T.seq ?_)))))))
   obtain ⟨x4,hx4,h⟩:=bind_some h
   obtain ⟨x5,hx5,h⟩:=bind_some h
   refine T.region (go 3 1 (sQ (v_index_sl Ty.s22 (fun _=>rfl) rfl rfl hx4 (go 1 1 (sO (o_callF (ac:=[.agg (encNode x4),.ptr 0 0]) (as0:=[.agg (encNode x4),.ptr 0 0]) (aw0:=[.box [sL encI p1]]) (aw1:=[.box [sL encI p1]]) (aw2:=[.box [sL encI p1]]) (v:=.bool x5) (v':=.bool x5) (n0:=1) (n1:=1) [0] rfl rfl rfl rfl (by decide) (rw_box (cs:=[sL encI p1]) (ds:=[sL encI p1]) rfl ⟨rn_s rfl,trivial⟩ (rw_nil)) ⟨rn_agg ⟨rn_int rfl,rn_int rfl,rn_s rfl,rn_s rfl,trivial⟩,rn_ptr rfl,trivial⟩ (crosslaw_without_1_x041e_c x4 p1 x5 hx5) rfl (rm_pure (pure_bool _)) ⟨.inl ⟨0,_,by decide,rfl,rom_box (cs:=[sL encI p1]) (ds:=[sL encI p1]) ⟨rm_pure (pure_map encI_p _),trivial⟩⟩,trivial⟩ (RS.nil (T.ci h rfl (fun hb_8 h=>?_) (fun hb_8 h=>?_)))))))))
   ·refine T.seq (T.region (go 2 1 (RS.nil ?_)))
    obtain ⟨w_9,h,hw_9⟩:=map_inr h
    replace h:=h.trans (congrArg some (hv_6 _ hw_9))
    cases h
    exact tN [0]
   refine T.skip (T.region (go 2 1 (RS.nil ?_)))
   exact ⟨IntKind.i64.wrap (s1+1),(Option.some.inj h).symm,wk [] [0] 1 rfl⟩
  refine T.exit ?_
  obtain ⟨w_10,h,hw_10⟩:=map_inr h
  replace h:=h.trans (congrArg some (hv_6 _ hw_10))
  refine T.seq (T.region (go 1 1 (RS.nil ?_)))
  cases h
  exact tN [0]
theorem slices_ContainsFunc_Node_x71e3_c (p0:List Node) (p1:List Int) (r:Bool) (h:slices_ContainsFunc_Node_x71e3 p0 p1=some r):FnX Try.prog 63 [sL encNode p0,.func 64 [.ptr 0 0]] [.box [sL encI p1]] (.bool r) [.box [sL encI p1]]:=by
  unfold slices_ContainsFunc_Node_x71e3 at h
  refine fnT 1 Try.func63 Try.ntmps63 ?_
  refine T.seq (T.region (go 1 1 (RS.nil (T.seq ?_))))
  obtain ⟨x2,hx2,h⟩:=bind_some h
  refine T.region (go 2 1 (sO (o_callF (ac:=[sL encNode p0,.func 64 [.ptr 0 0]]) (as0:=[sL encNode p0,.func 64 [.ptr 0 0]]) (aw0:=[.box [sL encI p1]]) (aw1:=[.box [sL encI p1]]) (aw2:=[.box [sL encI p1]]) (v:=iI x2) (v':=iI x2) (n0:=1) (n1:=1) [0] rfl rfl rfl rfl (by decide) (rw_box (cs:=[sL encI p1]) (ds:=[sL encI p1]) rfl ⟨rn_s rfl,trivial⟩ (rw_nil)) ⟨rn_s rfl,rn_func ⟨rn_ptr rfl,trivial⟩,trivial⟩ (slices_IndexFunc_Node_x71e3_c p0 p1 x2 hx2) rfl (rm_pure (pure_int _ _)) ⟨.inl ⟨0,_,by decide,rfl,rom_box (cs:=[sL encI p1]) (ds:=[sL encI p1]) ⟨rm_pure (pure_map encI_p _),trivial⟩⟩,trivial⟩ (go 2 1 (RS.nil ?_)))))
  cases h
  exact tN [0]
theorem crosslaw_without_c (p0:Net) (p1:List Int) (r:Bool) (h:crosslaw_without p0 p1=some r):Fn Try.prog 22 [.agg (encNet p0),sL encI p1] (.bool r):=by
  unfold crosslaw_without at h
  refine fnT 0 Try.func22 Try.ntmps22 ?_
  refine T.seq (T.region (go 3 0 (RS.nil (T.seq ?_))))
  obtain ⟨x2,hx2,h⟩:=bind_some h
  refine T.region (go 3 2 (sO (o_callF (ac:=[sL encNode p0.Nodes,.func 64 [.ptr 1 0]]) (as0:=[sL encNode p0.Nodes,.func 64 [.ptr 0 0]]) (aw0:=[.box [sL encI p1]]) (aw1:=[.box [sL encI p1]]) (aw2:=[.box (encNet p0),.box [sL encI p1]]) (v:=.bool x2) (v':=.bool x2) (n0:=2) (n1:=1) [1] rfl rfl rfl rfl (by decide) (rw_box (cs:=[sL encI p1]) (ds:=[sL encI p1]) rfl ⟨rn_s rfl,trivial⟩ (rw_nil)) ⟨rn_s rfl,rn_func ⟨rn_ptr rfl,trivial⟩,trivial⟩ (slices_ContainsFunc_Node_x71e3_c p0.Nodes p1 x2 hx2) rfl (rm_pure (pure_bool _)) ⟨.inr ⟨rfl,rfl⟩,.inl ⟨0,_,by decide,rfl,rom_box (cs:=[sL encI p1]) (ds:=[sL encI p1]) ⟨rm_pure (pure_map encI_p _),trivial⟩⟩,trivial⟩ (go 2 2 (RS.nil ?_)))))
  cases h
  exact tD
end Go.Proofs.Ytfbmoockopakjaa
namespace Go.Proofs.Ytfbmoockopakjaa
open Go.RowKit Go.Shelf
set_option linter.unusedVariables false
set_option maxRecDepth 100000
set_option maxHeartbeats 4000000
def qRen:Go.Shelf.Ren:=⟨fun n=>match n with | 6=>48 | 14=>79 | 15=>80 | 20=>106 | 21=>107 | 22=>108 | 23=>109 | 24=>110 | 25=>111 | 26=>112 | 27=>113 | 28=>114 | 29=>115 | 46=>126 | 47=>127 | 48=>128 | 49=>129 | 50=>130 | 57=>140 | 60=>146 | 61=>147 | 62=>148 | 63=>149 | 64=>150 | 65=>151 | 66=>152 | 67=>153 | 68=>154 | 69=>155 | 70=>156 | 71=>157 | 72=>158 | 73=>159 | 74=>160 | _=>0,fun n=>match n with | 0=>0 | 1=>1 | 2=>2 | 3=>3 | 4=>4 | 5=>5 | 6=>6 | 7=>7 | 8=>8 | 9=>9 | 10=>10 | 11=>11 | 12=>12 | 13=>13 | 14=>14 | 15=>15 | 16=>16 | 17=>17 | 18=>18 | 19=>19 | 20=>20 | 21=>21 | 22=>29 | 23=>86 | 24=>46 | 25=>47 | 27=>26 | 29=>58 | 37=>114 | 38=>115 | 39=>116 | 40=>51 | 42=>136 | 44=>148 | 45=>149 | 46=>150 | 47=>151 | 48=>152 | 49=>153 | 50=>147 | 51=>154 | 52=>155 | 53=>156 | 54=>157 | 55=>158 | 66=>173 | 67=>174 | 68=>175 | 69=>176 | 70=>177 | 71=>178 | 76=>186 | 77=>187 | 78=>188 | 81=>196 | 82=>197 | 83=>198 | 84=>199 | 85=>200 | 86=>201 | 87=>202 | 88=>203 | 89=>204 | 90=>205 | 91=>206 | 92=>207 | 93=>208 | 94=>209 | 95=>210 | 96=>211 | _=>0,fun n=>n⟩
theorem qLay:SlLaysF0.n6 Try.prog qRen where
  mixed:=by kernel_rfl
  f6:=⟨ "slices.SortFunc[[]crossroads/api.Item,crossroads/api.Item]", by kernel_rfl,by kernel_rfl⟩
  f14:=⟨ "slices.pdqsortCmpFunc[crossroads/api.Item]", by kernel_rfl,by kernel_rfl⟩
  f15:=by kernel_rfl
  f20:=⟨ "slices.insertionSortCmpFunc[crossroads/api.Item]", by kernel_rfl,by kernel_rfl⟩
  f21:=⟨ "slices.heapSortCmpFunc[crossroads/api.Item]", by kernel_rfl,by kernel_rfl⟩
  f22:=⟨ "slices.breakPatternsCmpFunc[crossroads/api.Item]", by kernel_rfl,by kernel_rfl⟩
  f23:=⟨ "slices.choosePivotCmpFunc[crossroads/api.Item]", by kernel_rfl,by kernel_rfl⟩
  f24:=⟨ "slices.reverseRangeCmpFunc[crossroads/api.Item]", by kernel_rfl,by kernel_rfl⟩
  f25:=⟨ "slices.partialInsertionSortCmpFunc[crossroads/api.Item]", by kernel_rfl,by kernel_rfl⟩
  f26:=⟨ "slices.partitionEqualCmpFunc[crossroads/api.Item]", by kernel_rfl,by kernel_rfl⟩
  f27:=⟨ "slices.partitionCmpFunc[crossroads/api.Item]", by kernel_rfl,by kernel_rfl⟩
  f28:=by kernel_rfl
  f29:=by kernel_rfl
  f46:=⟨ "slices.siftDownCmpFunc[crossroads/api.Item]", by kernel_rfl,by kernel_rfl⟩
  f47:=by kernel_rfl
  f48:=by kernel_rfl
  f49:=⟨ "slices.medianAdjacentCmpFunc[crossroads/api.Item]", by kernel_rfl,by kernel_rfl⟩
  f50:=⟨ "slices.medianCmpFunc[crossroads/api.Item]", by kernel_rfl,by kernel_rfl⟩
  f57:=⟨ "slices.order2CmpFunc[crossroads/api.Item]", by kernel_rfl,by kernel_rfl⟩
  t0:=by kernel_rfl
  a0:=fun w=>by kernel_rfl
  z0:=fun w=>by kernel_rfl
  v0:=fun w=>by kernel_rfl
  t3:=by kernel_rfl
  a3:=fun w=>by kernel_rfl
  z3:=fun w=>by kernel_rfl
  v3:=fun w=>by kernel_rfl
  t4:=by kernel_rfl
  a4:=fun w=>by kernel_rfl
  z4:=fun w=>by kernel_rfl
  v4:=fun w=>by kernel_rfl
  t5:=by kernel_rfl
  a5:=fun w=>by kernel_rfl
  z5:=fun w=>by kernel_rfl
  v5:=fun w=>by kernel_rfl
  t9:=by kernel_rfl
  a9:=fun w=>by kernel_rfl
  z9:=fun w=>by kernel_rfl
  v9:=fun w=>by kernel_rfl
  t22:=by kernel_rfl
  a22:=fun w=>by kernel_rfl
  z22:=fun w=>by kernel_rfl
  v22:=fun w=>by kernel_rfl
  t25:=by kernel_rfl
  a25:=fun w=>by kernel_rfl
  z25:=fun w=>by kernel_rfl
  v25:=fun w=>by kernel_rfl
  t39:=by kernel_rfl
  a39:=fun w=>by kernel_rfl
  z39:=fun w=>by kernel_rfl
  v39:=fun w=>by kernel_rfl
  t45:=by kernel_rfl
  a45:=fun w=>by kernel_rfl
  z45:=fun w=>by kernel_rfl
  v45:=fun w=>by kernel_rfl
  t46:=by kernel_rfl
  a46:=fun w=>by kernel_rfl
  z46:=fun w=>by kernel_rfl
  v46:=fun w=>by kernel_rfl
  t50:=by kernel_rfl
  a50:=fun w=>by kernel_rfl
  z50:=fun w=>by kernel_rfl
  v50:=fun w=>by kernel_rfl
  t53:=by kernel_rfl
  a53:=fun w=>by kernel_rfl
  z53:=fun w=>by kernel_rfl
  v53:=fun w=>by kernel_rfl
  t55:=by kernel_rfl
  a55:=fun w=>by kernel_rfl
  z55:=fun w=>by kernel_rfl
  v55:=fun w=>by kernel_rfl
  t66:=by kernel_rfl
  a66:=fun w=>by kernel_rfl
  z66:=fun w=>by kernel_rfl
  v66:=fun w=>by kernel_rfl
  t70:=by kernel_rfl
  a70:=fun w=>by kernel_rfl
  z70:=fun w=>by kernel_rfl
  v70:=fun w=>by kernel_rfl
  t76:=by kernel_rfl
  a76:=fun w=>by kernel_rfl
  z76:=fun w=>by kernel_rfl
  v76:=fun w=>by kernel_rfl
  t77:=by kernel_rfl
  a77:=fun w=>by kernel_rfl
  z77:=fun w=>by kernel_rfl
  v77:=fun w=>by kernel_rfl
open Go.Sort Go.Lib
def encIt (x:Item):List Value:=[.int .i64 x.Key,.int .i64 x.Val,.int .i64 x.Dep]
theorem dg (w:World) (os:Array Obj) (q:Nat):(grow w os).drewN q=grow (w.drewN q) os:=rfl
theorem ord1_c (x y:Item) (W:World):Calls Try.prog 78 #[.agg (encIt x).toArray,.agg (encIt y).toArray] W fun e w'=>e=.returned (.int .i64 (cfI x y))∧∃ q os',w'=grow (W.drewN q) os':=by
  obtain ⟨a,b,c⟩:=x
  obtain ⟨a',b',c'⟩:=y
  show Calls Try.prog 78 #[.agg #[.int .i64 a,.int .i64 b,.int .i64 c],.agg #[.int .i64 a',.int .i64 b',.int .i64 c']] W _
  go_enter Try.func78,Try.ntmps78
  go_wp2
  all_goals
    go_ret
    refine ⟨?_,0,_,by rw [alloc_eq_grow,alloc_eq_grow,grow_grow];rfl⟩
    congr 2
    simp only [cfI,Item.mk.injEq]
    (repeat' split)<;>first | rfl | (exfalso;omega)
theorem cmpF_c (x y:Item) (W:World) (a b:Nat) (hx0:W.cell? ⟨a,0,none⟩=some (.int .i64 x.Key)) (hx1:W.cell? ⟨a,1,none⟩=some (.int .i64 x.Val)) (hx2:W.cell? ⟨a,2,none⟩=some (.int .i64 x.Dep))
    (hy0:∀ o,(W.alloc o).cell? ⟨b,0,none⟩=some (.int .i64 y.Key)) (hy1:∀ o,(W.alloc o).cell? ⟨b,1,none⟩=some (.int .i64 y.Val)) (hy2:∀ o,(W.alloc o).cell? ⟨b,2,none⟩=some (.int .i64 y.Dep)) :
    Calls Try.prog 77 #[.slice (some ⟨a,0,none⟩) 1 1,.slice (some ⟨b,0,none⟩) 1 1,.func (.func 78) #[] #[]] W fun e w'=>e=.returned (.int .i64 (cfI x y))∧∃ q os',w'=grow (W.drewN q) os':=by
  obtain ⟨x0,x1,x2⟩:=x
  obtain ⟨y0,y1,y2⟩:=y
  go_enter Try.func77,Try.ntmps77
  go_wp2
  refine wp_loop_rounds 2 ?_
  rw [rounds_succ]
  go_wp2_with fail
  refine (ord1_c ⟨x0,x1,x2⟩ ⟨y0,y1,y2⟩ _).mono ?_
  rintro e w' ⟨rfl,hw⟩
  obtain ⟨r,hr⟩:∃ r,cfI ⟨x0,x1,x2⟩ ⟨y0,y1,y2⟩=r:=⟨_,rfl⟩
  rw [hr]
  have hw2:∃ q os',w'=grow (W.drewN q) os':=by
    obtain ⟨q,os,rfl⟩:=hw
    exact ⟨q,_,by rw [alloc_eq_grow,alloc_eq_grow,dg,dg,grow_grow,grow_grow]⟩
  clear hw hx0 hx1 hx2 hy0 hy1 hy2
  go_wp2_with fail
  · go_ret
    exact ⟨by rw [hr];rfl,hw2⟩
  · rename_i h0
    have h0:r=0:=by simpa using h0
    rw [rounds_succ]
    go_wp2_with fail
    go_ret
    exact ⟨by rw [hr,h0];rfl,hw2⟩
theorem order_c (x y:Item) (W:World) (a b:Nat) (hx0:W.cell? ⟨a,0,none⟩=some (.int .i64 x.Key)) (hx1:W.cell? ⟨a,1,none⟩=some (.int .i64 x.Val)) (hx2:W.cell? ⟨a,2,none⟩=some (.int .i64 x.Dep))
    (hy0:∀ o,(W.alloc o).cell? ⟨b,0,none⟩=some (.int .i64 y.Key)) (hy1:∀ o,(W.alloc o).cell? ⟨b,1,none⟩=some (.int .i64 y.Val)) (hy2:∀ o,(W.alloc o).cell? ⟨b,2,none⟩=some (.int .i64 y.Dep)) :
    Calls Try.prog 47 #[.slice (some ⟨a,0,none⟩) 1 1,.slice (some ⟨b,0,none⟩) 1 1] W fun e w'=>e=.returned (.int .i64 (cfI x y))∧∃ q os',w'=grow (W.drewN q) os':=by
  have h77:=cmpF_c x y W a b hx0 hx1 hx2 hy0 hy1 hy2
  clear hx0 hx1 hx2 hy0 hy1 hy2
  obtain ⟨r,hr⟩:∃ r,cfI x y=r:=⟨_,rfl⟩
  rw [hr] at h77 ⊢
  clear hr
  go_enter Try.func47,Try.ntmps47
  go_wp2_with fail
  refine h77.mono ?_
  rintro e w' ⟨rfl,hw⟩
  clear h77
  go_wp2_with fail
  go_ret
  exact ⟨rfl,hw⟩
theorem by_c (x y:Item) (W:World):Calls Try.prog 46 #[.agg (encIt x).toArray,.agg (encIt y).toArray] W fun e w'=>e=.returned (.int .i64 (cfI x y))∧∃ q os',w'=grow (W.drewN q) os':=by
  obtain ⟨x0,x1,x2⟩:=x
  obtain ⟨y0,y1,y2⟩:=y
  show Calls Try.prog 46 #[.agg #[.int .i64 x0,.int .i64 x1,.int .i64 x2],.agg #[.int .i64 y0,.int .i64 y1,.int .i64 y2]] W _
  go_enter Try.func46,Try.ntmps46
  go_wp2_with fail
  refine (order_c ⟨x0,x1,x2⟩ ⟨y0,y1,y2⟩ _ _ _ ?_ ?_ ?_ ?_ ?_ ?_).mono ?_
  case refine_7 =>
    rintro e w' ⟨rfl,hw⟩
    have hw2:∃ q os',w'=grow (W.drewN q) os':=by
      obtain ⟨q,os,rfl⟩:=hw
      exact ⟨q,_,by rw [alloc_eq_grow,alloc_eq_grow,alloc_eq_grow,alloc_eq_grow,dg,dg,dg,dg,grow_grow,grow_grow,grow_grow,grow_grow]⟩
    clear hw
    obtain ⟨r,hr⟩:∃ r,cfI ⟨x0,x1,x2⟩ ⟨y0,y1,y2⟩=r:=⟨_,rfl⟩
    rw [hr]
    go_wp2_with fail
    go_ret
    exact ⟨by rw [hr];rfl,hw2⟩
  all_goals
    (try intro o)
    rw [World.cell?_alloc_lt _ _ _ (by simp)]
    exact World.cell?_alloc_at _ _ _ _ (by simp)
theorem q_flat {σ:List Value} {w:World} {F:Nat→Prop}:∀ (xs:List Item) (flat:List Value),RelL σ w F (xs.map encItem).flatten flat→flat=(xs.map encIt).flatten
  | [],flat,h=>List.eq_nil_of_length_eq_zero h.1
  | x :: xs,flat,h=>by
    match flat,h with
    | [],h=>exact absurd h.1 (by simp [encItem])
    | [a],h=>exact absurd h.1 (by simp [encItem])
    | [a,b],h=>exact absurd h.1 (by simp [encItem])
    | a::b::c::r,h =>
      have h1:Rel σ w F (.int .i64 x.Key) a:=h.2 0 _ a rfl rfl
      have h2:Rel σ w F (.int .i64 x.Val) b:=h.2 1 _ b rfl rfl
      have h4:Rel σ w F (.int .i64 x.Dep) c:=h.2 2 _ c rfl rfl
      have h3:=q_flat xs r ⟨by have:=h.1;simp [encItem] at this ⊢;omega,fun j y v hy hv=>h.2 (j+3) y v (by simpa [encItem] using hy) (by simpa using hv)⟩
      cases h1;cases h2;cases h4
      rw [h3];rfl
theorem q_rel {σ:List Value} {w:World} {F:Nat→Prop}:∀ (xs:List Item),RelL σ w F (xs.map encItem).flatten (xs.map encIt).flatten
  | []=>.nil
  | x::xs=>.cons (.int _ _) (.cons (.int _ _) (.cons (.int _ _) (q_rel xs)))
theorem q_get:∀ (xs:List Item) (t:Nat),t<xs.length*3→((xs.map encIt).flatten)[t]?=some (encIt xs[t / 3]!)[t % 3]!
  | [],t,h=>by simp at h
  | x::xs,0,h=>rfl
  | x::xs,1,h=>rfl
  | x::xs,2,h=>rfl
  | x::xs,t+3,h=>by
    have h1:=q_get xs t (by simp at h;omega)
    have e1:(t+3) / 3=t / 3+1:=by omega
    have e2:(t+3) % 3=t % 3:=by omega
    rw [e1,e2]
    show ((xs.map encIt).flatten)[t]?=_
    rw [h1];simp
theorem q_list (xs:List Item):(flatK encIt 3 xs.toArray).toList=(xs.map encIt).flatten:=by
  have hl:((xs.map encIt).flatten).length=xs.length*3:=by
    induction xs with
    | nil=>rfl
    | cons x xs ih=>simp [encIt] at ih ⊢;omega
  apply List.ext_getElem?
  intro t
  by_cases ht:t<xs.length*3
  · rw [q_get xs t ht]
    have h2:t<(flatK encIt 3 xs.toArray).size:=by simpa using ht
    have h3:=get_flatK encIt 3 xs.toArray t (by simpa using ht)
    rw [getElem!_pos _ t h2] at h3
    rw [Array.getElem?_toList,Array.getElem?_eq_getElem h2,h3]
    simp
  · rw [List.getElem?_eq_none (by simp;omega),List.getElem?_eq_none (by rw [hl];omega)]
theorem sortf_fn (p0 r:List Item) (h:sortF p0=some r):FnX Try.prog 48 [.ref 0,.func 46 []] [.arr 46 3 (List.map encItem p0)] (.tup []) [.arr 46 3 (List.map encItem r)]:=by
  unfold sortF at h
  split at h
  rotate_left
  · cases h
  rename_i hlt
  cases h
  refine ⟨callable Try.func48 rfl (by kernel_rfl),fun w F σ vs hs hr=>?_⟩
  match vs,hr with
  | [v0, v1], hr =>
    have r0:Rel σ w F (.ref 0) v0:=hr.2 0 _ v0 rfl rfl
    have r1:Rel σ w F (.func 46 []) v1:=hr.2 1 _ v1 rfl rfl
    cases r0 with
    | ref _ A q cp hσ0 =>
    cases r1 with
    | func _ _ lb hl hc =>
    match lb,hl,hc with
    | [], hl, hc =>
      obtain ⟨hq,flat,hown,hfl,hcase⟩:=arr_form hs (id:=0) rfl hσ0
      rw [List.length_map] at hq
      subst hq
      have grown:∀ (W:World) (os:Array Obj) (b:Nat),b<W.heap.size→(Sort.grow W os).heap[b]?=W.heap[b]?:=fun W os b hb=>by
        show (W.heap++os)[b]?=_
        rw [Array.getElem?_append_left hb]
      by_cases h0:p0=[]
      · subst h0
        have hN:=AnyF.slices_SortFunc_none qLay A cp (.func (.func 46) #[] #[]) w
        change Calls Try.prog 48 _ _ _ at hN
        have e0:sortI []=[]:=by
          have:=(sortI_perm []).length_eq
          exact List.eq_nil_of_length_eq_zero this
        rw [e0]
        refine hN.mono ?_
        rintro e w' ⟨rfl,rfl⟩
        exact ⟨_,_,_,σ,F,rfl,⟨rfl,rfl⟩,hs,rel_undef,.refl _ _ _ _⟩
      · rcases hcase with hcase | ⟨ga,cur,rfl,hFa,hga,hnc,hcm,hsz,htk⟩
        · exact absurd (List.map_eq_nil_iff.1 hcase) h0
        · have hflat:=q_flat p0 flat hfl.2.2
          have hds:p0.toArray.size=p0.length:=by simp
          have hga':ga<w.heap.size:=(Array.getElem?_eq_some_iff.1 hga).1
          have hcurn:p0.length*3≤cur.size:=by rw [hsz];exact Nat.mul_le_mul_right _ hnc
          have hH:HoldsK encIt 3 w ga 0 p0.toArray:=by
            intro j hj
            have hj2:j<p0.length*3:=by simpa using hj
            refine ⟨?_,by simp [World.frozen?,hga]⟩
            have hc1:cur.toList[j]?=((p0.map encIt).flatten)[j]?:=by rw [← hflat,← htk,List.getElem?_take,if_pos hj2]
            rw [Nat.zero_add,cell_of_row w ga j cur 46 (0,0) hga,← Array.getElem?_toList,hc1,← q_list,Array.getElem?_toList,Array.getElem?_eq_getElem hj,getElem!_pos _ j hj]
            rfl
          have hS:=AnyQ.slices_SortFunc_eq qLay 3 (fun _=>by kernel_rfl) (fun _=>by kernel_rfl) encIt (fun _=>rfl)
            (fun x v hv=>by simp [encIt] at hv;rcases hv with rfl | rfl | rfl<;>rfl) cfI (by rw [ltOf_cfI];exact swoI) 46 #[] ga 0 cp p0.toArray w
            (enters_of Try.func46 (by kernel_rfl) rfl) (fun _ _ _ _ x y=>by_c x y _) hH hga' (by rw [hds];exact hlt)
          change Calls Try.prog 48 _ _ _ at hS
          rw [ltOf_cfI] at hS
          have hDs:(pdq ltI p0.toArray 0 p0.toArray.size (Lib.bitLen p0.toArray.size) true true).size=p0.length:=by
            have:=(sortI_perm p0).length_eq
            simpa [sortI] using this
          have hDe:(pdq ltI p0.toArray 0 p0.toArray.size (Lib.bitLen p0.toArray.size) true true).toList=sortI p0:=rfl
          rw [← hDe]
          generalize hD:pdq ltI p0.toArray 0 p0.toArray.size (Lib.bitLen p0.toArray.size) true true=D at hS hDs
          rw [hds] at hS
          refine hS.mono ?_
          rintro e w' ⟨rfl,n,os,rfl⟩
          have hDl:(List.map encItem D.toList).length=p0.length:=by rw [List.length_map,Array.length_toList (xs:=D),hDs]
          have hFs:(flatK encIt 3 D).size=p0.length*3:=by simp [hDs]
          have hFl:(flatK encIt 3 D).toList=(D.toList.map encIt).flatten:=by
            have:=q_list D.toList
            rwa [Array.toArray_toList] at this
          have hW1:(putRowK encIt 3 (Sort.ahead w n) ga 0 D).heap[ga]?=some (.cells (putCells id 0 (flatK encIt 3 D) cur) 46 (0,0)):=by
            simp [putRowK,putRow,mapBlock,Array.getElem?_modify,Sort.ahead,hga,onCells]
          have hW1o:∀ b,b≠ga→(putRowK encIt 3 (Sort.ahead w n) ga 0 D).heap[b]?=w.heap[b]?:=fun b hb=>by
            have:¬ ga=b:=fun e=>hb e.symm
            simp [putRowK,putRow,mapBlock,Array.getElem?_modify,Sort.ahead,this]
          have hW1s:(putRowK encIt 3 (Sort.ahead w n) ga 0 D).heap.size=w.heap.size:=by simp [putRowK,Sort.ahead]
          have hORel:ORel σ (putRowK encIt 3 (Sort.ahead w n) ga 0 D) F (.arr 46 3 (List.map encItem D.toList)) (.slice (some ⟨ga,0,none⟩) p0.length cp):=by
            refine ⟨(D.toList.map encIt).flatten,⟨?_,.inr ⟨ga,cp,_,by rw [hDl],Nat.zero_le _,hW1,by rw [hDl];exact hnc,hcm,by simp [putCells,hsz],?_⟩⟩,⟨fun row hr=>?_,fun u hu=>?_,q_rel _⟩,fun g2 hg2=>?_,_,_,_,rfl⟩
            · rw [← hFl,Array.length_toList (xs:=flatK encIt 3 D),hFs,hDl]
            · rw [← hFl,hDl]
              apply List.ext_getElem?
              intro k
              rw [List.getElem?_take]
              by_cases hk:k<p0.length*3
              · rw [if_pos hk,Array.getElem?_toList,Array.getElem?_toList]
                simp only [putCells,Array.getElem?_mapIdx]
                rw [Array.getElem?_eq_getElem (show k<cur.size by omega),Option.map_some,if_pos ⟨Nat.zero_le _,by omega⟩,Array.getElem?_eq_getElem (show k<(flatK encIt 3 D).size by omega),Nat.sub_zero,getElem!_pos _ k (by omega)]
                rfl
              · rw [if_neg hk,List.getElem?_eq_none (by rw [Array.length_toList,hFs];omega)]
            · obtain ⟨a,_,rfl⟩:=List.mem_map.1 hr;rfl
            · obtain ⟨row,hrow,hu⟩:=List.mem_flatten.1 hu
              obtain ⟨a,_,rfl⟩:=List.mem_map.1 hrow
              simp [encIt] at hu;rcases hu with rfl | rfl | rfl<;>rfl
            · simp [Value.ownBlock] at hg2;subst hg2;exact hFa
          have s1:=hs.write (b0:=ga) 0 rfl rfl hσ0 rfl hW1o hW1s (.arr 46 3 (List.map encItem D.toList)) hORel (fun _ h=>h)
          have m1:Mv [.arr 46 3 (List.map encItem p0)] σ w F ([Ob.arr 46 3 (List.map encItem p0)].set 0 (.arr 46 3 (List.map encItem D.toList))) σ (putRowK encIt 3 (Sort.ahead w n) ga 0 D) F:=Mv.write (aw:=[.arr 46 3 (List.map encItem p0)]) (w:=w) (w':=putRowK encIt 3 (Sort.ahead w n) ga 0 D) (F:=F) (b0:=ga) (o:=.arr 46 3 (List.map encItem p0)) 0 rfl rfl hσ0 rfl rfl rfl rfl hW1o hW1s (.arr 46 3 (List.map encItem D.toList)) (fun _ h=>h)
          have eW:sortWorldK encIt 3 w ga 0 n D os=Sort.grow (putRowK encIt 3 (Sort.ahead w n) ga 0 D) os:=rfl
          rw [eW]
          exact ⟨_,_,_,σ,F,rfl,⟨rfl,rfl⟩,s1.grow (fun _ h=>h) (fun _ h=>.inl h) (fun b hb=>by have:=s1.lt b hb;rw [size_grow];omega) (grown _ os),rel_undef,m1.trans (.grow (fun _ h=>h) (fun _ h=>.inl h) rfl rfl rfl (by rw [size_grow];omega) (grown _ os))⟩
end Go.Proofs.Ytfbmoockopakjaa
namespace Go.Proofs.Ytfbmoockopakjaa
open Go.RowKit
set_option linter.unusedVariables false
set_option linter.unusedSimpArgs false
set_option maxRecDepth 100000
set_option maxHeartbeats 4000000
set_option synthInstance.maxSize 100000
set_option synthInstance.maxHeartbeats 4000000
theorem gate_Plain_c (p0:List Item) (r:(List Item) × Int) (h:gate_Plain p0=some r):FnO Try.prog 45 [sL encItem p0] (.tup [.ref 0,iI r.2]) [aR 46 3 encItem r.1]:=by
  unfold gate_Plain at h
  refine fnT 0 Try.func45 Try.ntmps45 ?_
  refine T.seq (T.region (go 2 0 (RS.nil (T.seq (T.seq (T.region (go 1 0 (sQ (v_len_sl Ty.s29 rfl (go 1 0 ?_))))))))))
  refine RS.nil (T.ci h rfl (fun hb_1 h=>?_) (fun hb_1 h=>?_))
  ·refine T.seq (T.region (go 2 0 (RS.nil ?_)))
   cases h
   exact tO [(0,46,3)] [0] 0
  refine T.skip (T.seq ?_)
  obtain ⟨x2,hx2,h⟩:=bind_some h
  refine T.region (go 1 0 (sO (cO 0 (slices_Clone_Item_c p0 x2 hx2) ⟨rfl,(go 1 1 (RS.nil (T.seq (T.seq (T.region (go 1 1 (sQ (v_len_ref (en:=encItem) Ty.s29 rfl rfl ?_))))))))⟩)))
  refine go 1 1 (RS.nil (T.block (T.iter (fun ss_4:Int × (List Item)=>mkA 22 [(4,.ref 0),(12,iI ((x2).length:Int)),(13,iI ss_4.1)]) (fun ss_4=>[aR 46 3 encItem ss_4.2]) h (wk [] [0] 1 rfl) (fun ss_4 v_5 h hv_5=>?_))))
  obtain ⟨s3,s4⟩:=ss_4
  replace h:gate_Plain_l1 x2 s3 s4=some v_5:=h
  try dsimp only
  unfold gate_Plain_l1 at h
  refine T.seq (T.region (go 1 1 (RS.nil (T.seq (T.ci h rfl (fun hb_6 h=>?_) (fun hb_6 h=>?_))))))
  ·refine T.skip (T.seq (T.block (T.seq (T.region (go 2 1 (RS.nil ?_))))))
   obtain ⟨x5,hx5,h⟩:=bind_some h
   obtain ⟨x6,hx6,h⟩:=bind_some h
   refine T.region (go 2 1 (sQ (v_index_ref' (en:=encItem) Ty.s29 rfl rfl rfl hx5 (go 1 1 (sO (o_store_aptr' (en:=encItem) (a:=x6) (a':=(⟨x6.Key,x6.Val,0⟩:Item)) Ty.c3 Ty.i3 rfl (vs:=[iI 0]) rfl rfl rfl hx6 rfl rfl rfl (RS.nil (T.region (go 2 1 (RS.nil ?_))))))))))
   exact ⟨(IntKind.i64.wrap (s3+1),(List.set s4 x5 (⟨x6.Key,x6.Val,0⟩:Item))),(Option.some.inj h).symm,wk [] [0] 1 rfl⟩
  refine T.exit ?_
  obtain ⟨w_7,h,hw_7⟩:=map_inr h
  replace h:=h.trans (congrArg some (hv_5 _ hw_7))
  refine T.seq (T.region (go 3 1 (RS.nil ?_)))
  cases h
  exact tO [] [0] 1
theorem slices_SortFunc_I_c (p0 r:List Item) (h:slices_SortFunc_I p0=some r):FnX Try.prog 48 [.ref 0,.func 46 []] [aR 46 3 encItem p0] (.tup []) [aR 46 3 encItem r]:=sortf_fn p0 r h
theorem crosslaw_MoveAll_c (p0:Net) (p1:List (List Item)) (p2:List Int) (r:Bool) (h:crosslaw_MoveAll p0 p1 p2=some r):Fn Try.prog 11 [.agg (encNet p0),sL (encL encItem) p1,sL encI p2] (.bool r):=by
  unfold crosslaw_MoveAll at h
  refine fnT 0 Try.func11 Try.ntmps11 ?_
  refine T.seq (T.region (go 2 0 (RS.nil (T.seq ?_))))
  obtain ⟨x2,hx2,h⟩:=bind_some h
  refine T.region (go 3 1 (sO (cD (move_Play_c p0 p1 p2 x2 hx2) ⟨rfl,(go 6 1 (RS.nil (T.seq ?_)))⟩)))
  obtain ⟨x3,hx3,h⟩:=bind_some h
  obtain ⟨zt_3,hz,h⟩:=bind_some h
  revert hz h;revert zt_3;intro c5 hz h
  refine T.join (Z:=Unit) (fun _=>mkA 92 [(1,sL (encL encItem) p1),(3,.ptr 0 0),(7,.ptr 1 0),(32,.bool c5)]) (fun _=>[.box (encNet p0),.box (encState x2.1)]) (fun _=>True) (fun _ _=>?_) (fun hK=>?_)
  ·refine T.ci h rfl (fun hb_4 h=>?_) (fun hb_4 h=>?_)
   ·refine T.seq ?_
    obtain ⟨x7,hx7,h⟩:=bind_some h
    refine T.region (sO (cF (crosslaw_moved_c x7 hx7) ⟨rfl,(go 1 2 (RS.nil ?_))⟩))
    cases h
    exact tD
   refine T.skip (T.seq ?_)
   obtain ⟨x9,hx9,h⟩:=bind_some h
   refine T.region (go 3 2 (sO (cD (move_Finish_c p0 p1 x2.1 x9 hx9) ⟨rfl,(go 5 2 (RS.nil (T.seq (T.seq (T.region (go 2 2 (RS.nil ?_)))))))⟩)))
   refine T.ci h rfl (fun hb_5 h=>?_) (fun hb_5 h=>?_)
   ·refine T.seq (T.region (go 1 2 (RS.nil ?_)))
    cases h
    exact tD
   refine T.skip (T.seq (T.seq ?_))
   obtain ⟨x11,hx11,h⟩:=bind_some h
   refine T.region (go 1 2 (sO (cF (crosslaw_far_c x9.1 x11 hx11) ⟨rfl,(go 1 2 (RS.nil (T.ci h rfl (fun hb_6 h=>?_) (fun hb_6 h=>?_))))⟩)))
   ·refine T.seq (T.region (go 1 2 (RS.nil ?_)))
    cases h
    exact tD
   refine T.skip (T.seq (T.region (go 1 2 (RS.nil (T.seq (T.seq (T.region (go 2 2 (sQ (v_len_sl Ty.s22 rfl ?_))))))))))
   refine go 1 2 (RS.nil (T.block (T.iter (fun ss_11:Int × (List Item)=>mkA 92 [(1,sL (encL encItem) p1),(3,.ptr 0 0),(7,.ptr 1 0),(9,.ref 2),(47,sL encNode p0.Nodes),(48,iI ((p0.Nodes).length:Int)),(49,iI ss_11.1)]) (fun ss_11=>[.box (encNet p0),.box (encState x9.1),aR 46 3 encItem ss_11.2]) h (wk [(9,46,3)] [0,1,2] 2 rfl) (fun ss_11 v_12 h hv_12=>?_))))
   obtain ⟨s12,s13⟩:=ss_11
   replace h:crosslaw_MoveAll_l1 p0 p1 x9 s12 s13=some v_12:=h
   try dsimp only
   unfold crosslaw_MoveAll_l1 at h
   refine T.seq (T.region (go 1 3 (RS.nil (T.seq (T.ci h rfl (fun hb_13 h=>?_) (fun hb_13 h=>?_))))))
   ·refine T.skip (T.seq (T.block (T.seq ?_)))
    obtain ⟨x15,hx15,h⟩:=bind_some h
    refine T.region (sQ (v_index_sl Ty.s22 (fun _=>rfl) rfl rfl hx15 (go 3 3 (RS.nil (T.seq (T.region (go 3 4 (RS.nil (T.ci h rfl (fun hb_14 h=>?_) (fun hb_14 h=>?_))))))))))
    ·obtain ⟨x16,hx16,h⟩:=bind_some h
     obtain ⟨x17,hx17,h⟩:=bind_some h
     refine T.region (go 4 4 (sQ (v_index_sl Ty.s25 (fun _=>rfl) rfl rfl hx16 (go 1 4 (sO (o_app_ref (en:=encItem) (xs:=s13) (ys:=x16) Ty.s29 (fun _=>rfl) rfl rfl rfl hx17 rfl rfl (go 1 5 (RS.nil (T.region (go 2 5 (RS.nil ?_)))))))))))
     exact ⟨(IntKind.i64.wrap (s12+1),x17),(Option.some.inj h).symm,wk [] [0,1,4] 5 rfl⟩
    refine T.skip (T.region (go 2 4 (RS.nil ?_)))
    exact ⟨(IntKind.i64.wrap (s12+1),s13),(Option.some.inj h).symm,wk [] [0,1,2] 4 rfl⟩
   refine T.exit ?_
   obtain ⟨w_15,h,hw_15⟩:=map_inr h
   replace h:=h.trans (congrArg some (hv_12 _ hw_15))
   refine T.seq ?_
   obtain ⟨x19,hx19,h⟩:=bind_some h
   refine T.region (go 2 3 (sO (cO 3 (gate_Plain_c x9.1.Out x19 hx19) ⟨rfl,(go 5 4 (RS.nil (T.seq (T.join (Z:=Unit) (fun _=>mkA 92 [(3,.ptr 0 0),(9,.ref 1),(12,.ref 2),(78,.bool ((x19.2 != 0) || ((s13).length:Int) != ((x19.1).length:Int)))]) (fun _=>[.box (encNet p0),aR 46 3 encItem s13,aR 46 3 encItem x19.1]) (fun _=>True) (fun _ _=>?_) (fun hK=>?_)))))⟩)))
   ·refine T.ci h rfl (fun hb_17 h=>?_) (fun hb_17 h=>?_)
    ·refine T.seq (T.region (go 1 3 (RS.nil ?_)))
     cases h
     exact tD
    refine T.skip (T.seq (T.seq ?_))
    obtain ⟨x22,hx22,h⟩:=bind_some h
    refine T.region (go 1 3 (sO (o_buildSlice (rows:=List.map encI [2,3,4]) (vs:=[iI 2,iI 3,iI 4]) Ty.s26 Ty.z3 rfl rfl rfl rfl rfl rfl (sO (cF (crosslaw_without_c p0 ([2,3,4]:List Int) x22 hx22) ⟨rfl,(go 1 4 (RS.nil (T.ci h rfl (fun hb_18 h=>?_) (fun hb_18 h=>?_))))⟩)))))
    ·refine T.seq (T.region (go 1 4 (RS.nil ?_)))
     cases h
     exact tD
    refine T.skip (T.seq (T.region (go 1 4 (RS.nil (T.seq ?_)))))
    obtain ⟨x24,hx24,h⟩:=bind_some h
    refine T.region (go 2 4 (sO (o_callF (ac:=[.ref 1,.func 46 []]) (as0:=[.ref 0,.func 46 []]) (aw0:=[aR 46 3 encItem s13]) (aw1:=[aR 46 3 encItem x24]) (aw2:=[.box (encNet p0),aR 46 3 encItem x24,aR 46 3 encItem x19.1,aR 3 1 encI [2,3,4]]) (v:=.tup []) (v':=.tup []) (n0:=4) (n1:=1) [1] rfl rfl rfl rfl (by decide) (rw_arr rfl encItem_p rfl (rw_nil)) ⟨rn_ref rfl,rn_func trivial,trivial⟩ (slices_SortFunc_I_c s13 x24 hx24) rfl (rm_tup (cs:=[]) (ds:=[]) trivial) ⟨.inr ⟨rfl,rfl⟩,.inl ⟨0,_,by decide,rfl,rom_arr encItem_p⟩,.inr ⟨rfl,rfl⟩,.inr ⟨rfl,rfl⟩,trivial⟩ (RS.nil (T.seq ?_)))))
    obtain ⟨x26,hx26,h⟩:=bind_some h
    refine T.region (go 2 4 (sO (o_callF (ac:=[.ref 2,.func 46 []]) (as0:=[.ref 0,.func 46 []]) (aw0:=[aR 46 3 encItem x19.1]) (aw1:=[aR 46 3 encItem x26]) (aw2:=[.box (encNet p0),aR 46 3 encItem x24,aR 46 3 encItem x26,aR 3 1 encI [2,3,4]]) (v:=.tup []) (v':=.tup []) (n0:=4) (n1:=1) [2] rfl rfl rfl rfl (by decide) (rw_arr rfl encItem_p rfl (rw_nil)) ⟨rn_ref rfl,rn_func trivial,trivial⟩ (slices_SortFunc_I_c x19.1 x26 hx26) rfl (rm_tup (cs:=[]) (ds:=[]) trivial) ⟨.inr ⟨rfl,rfl⟩,.inr ⟨rfl,rfl⟩,.inl ⟨0,_,by decide,rfl,rom_arr encItem_p⟩,.inr ⟨rfl,rfl⟩,trivial⟩ (RS.nil (T.seq ?_)))))
    obtain ⟨x28,hx28,h⟩:=bind_some h
    refine T.region (go 2 4 (sO (cF (slices_Equal_Item_c x24 x26 x28 hx28) ⟨rfl,(go 1 4 (RS.nil ?_))⟩)))
    cases h
    exact tD
   refine T.region (go 3 4 ?_)
   rcases bool_cases (x19.2 != 0) with hb_16 | hb_16
   ·refine sN hb_16 (sN hb_16 (sN hb_16 (sN hb_16 (sN hb_16 (sQ (v_pickT (v:=.bool true) rfl hb_16 rfl (RS.nil ?_)))))))
    exact T.weakR (hK () trivial) (Weak.mkN [] [0,2,3] (by decide) (none_kept _) rfl ⟨rn_ptr rfl,rn_ref rfl,rn_ref rfl,rn_bool (by simp only [hb_16,bz,if_true,if_false,Bool.false_eq_true]),trivial⟩ (rw_bs (encNet p0) rfl (rw_ar rfl rfl (rw_ar rfl rfl (rw_nil)))))
   refine yg 4 hb_16 (yQ hb_16 (v_len_ref (en:=encItem) Ty.s29 rfl rfl (yg 4 hb_16 (yQ hb_16 (v_len_ref (en:=encItem) Ty.s29 rfl rfl (yg 4 hb_16 (sQ (v_pickF (v:=.bool (((s13).length:Int) != ((x19.1).length:Int))) rfl hb_16 rfl (RS.nil ?_)))))))))
   exact T.weakR (hK () trivial) (Weak.mkN [] [0,2,3] (by decide) (none_kept _) rfl ⟨rn_ptr rfl,rn_ref rfl,rn_ref rfl,rn_bool (by simp only [hb_16,bz,if_true,if_false,Bool.false_eq_true]),trivial⟩ (rw_bs (encNet p0) rfl (rw_ar rfl rfl (rw_ar rfl rfl (rw_nil)))))
  refine T.region (sO (cF (crosslaw_moved_c x3 hx3) ⟨rfl,(go 2 2 ?_)⟩))
  rcases bool_cases (!x3) with hb_1 | hb_1
  ·replace hz:=ite_T hz hb_1
   refine sN hb_1 (sN hb_1 (sQ (v_pickT (v:=.bool true) rfl hb_1 rfl (go 1 2 (sN rfl (sN rfl (sN rfl (sN rfl (sQ (v_pickT (v:=.bool true) rfl rfl rfl (RS.nil ?_)))))))))))
   exact T.sub (hK () trivial) ⟨rfl,rfl,rfl,(congrArg AV.bool ((congrArg (fun p=>p) (Option.some.inj hz)).symm)).symm,trivial⟩
  replace hz:=ite_F hz hb_1
  refine yg 2 hb_1 (yg 2 hb_1 (sQ (v_pickF (v:=.bool (x2.2 != 0)) rfl hb_1 rfl (go 1 2 ?_))))
  rcases bool_cases (x2.2 != 0) with hb_2 | hb_2
  ·replace hz:=ite_T hz hb_2
   refine sN hb_2 (sN hb_2 (sN hb_2 (sN hb_2 (sQ (v_pickT (v:=.bool true) rfl hb_2 rfl (RS.nil ?_))))))
   exact T.sub (hK () trivial) ⟨rfl,rfl,rfl,(congrArg AV.bool ((congrArg (fun p=>p) (Option.some.inj hz)).symm)).symm,trivial⟩
  replace hz:=ite_F hz hb_2
  obtain ⟨x4,hx4,hz⟩:=bind_some hz
  refine yg 2 hb_2 (yO hb_2 (o_buildSlice (rows:=List.map encI [5]) (vs:=[iI 5]) Ty.s26 Ty.z3 rfl rfl rfl rfl rfl rfl (yO hb_2 (cF (crosslaw_without_c p0 ([5]:List Int) x4 hx4) ⟨rfl,(yg 3 hb_2 (sQ (v_pickF (v:=.bool (!x4)) rfl hb_2 rfl (RS.nil ?_))))⟩))))
  exact T.weakR (hK () trivial) (Weak.mkN [] [0,1] (by decide) (none_kept _) rfl ⟨rn_s rfl,rn_ptr rfl,rn_ptr rfl,rn_bool ((congrArg (fun p=>p) (Option.some.inj hz)).symm),trivial⟩ (rw_bs (encNet p0) rfl (rw_bs (encState x2.1) rfl (rw_nil))))
end Go.Proofs.Ytfbmoockopakjaa
