/-
  Part 3 of the proof of trailAllowedLaw.proved: the code computes these functions, and the law holds of them, with no condition beyond the statement's own; put together by a program of ours (wip/decl.py) out of texts of ours.
-/
import Derived.Test.YtfbmoockopakjaaGreatZTrailAllowed2
namespace Go.Proofs.YtfbmoockopakjaaGreat
set_option linter.unusedVariables false
set_option maxRecDepth 100000
noncomputable def math_bits_Mul64 (p0:Int) (p1:Int):Option (Int × Int) :=
  (Option.bind (shr .u64 p0 32) fun x2=>(Option.bind (shr .u64 p1 32) fun x4=>(Option.bind (shr .u64 (IntKind.u64.wrap ((ibits .and .u64 p0 4294967295)*(ibits .and .u64 p1 4294967295))) 32) fun x6=>(Option.bind (shr .u64 (IntKind.u64.wrap ((IntKind.u64.wrap (x2*(ibits .and .u64 p1 4294967295)))+x6)) 32) fun x8=>(Option.bind (shr .u64 (IntKind.u64.wrap ((ibits .and .u64 (IntKind.u64.wrap ((IntKind.u64.wrap (x2*(ibits .and .u64 p1 4294967295)))+x6)) 4294967295)+(IntKind.u64.wrap ((ibits .and .u64 p0 4294967295)*x4)))) 32) fun x10=>(some (IntKind.u64.wrap ((IntKind.u64.wrap ((IntKind.u64.wrap (x2*x4))+x8))+x10),IntKind.u64.wrap (p0*p1))))))))
noncomputable def math_bits_Mul (p0:Int) (p1:Int):Option (Int × Int) :=
  (Option.bind (math_bits_Mul64 p0 p1) fun x2=>(some (x2.1,x2.2)))
noncomputable def Jwa  (s6:Int) (s7:List Ends):Option ((Int × (List Ends)) ⊕ (List Ends)) :=
  (if (decide (s6<((s7).length:Int)))=true then (Option.bind (vwok (s7).length s6 ((s7).length:Int)) fun x8=>(Option.bind (vwok (s7).length 0 s6) fun x9=>(Option.bind (vwok (s7).length ((s6).toNat:Nat) (((s6).toNat:Nat)+(((((s7).length:Int)).toNat - (s6).toNat):Nat))) fun x10=>(Option.bind (vwok (s7).length (((0:Int)).toNat:Nat) ((((0:Int)).toNat:Nat)+(((s6).toNat - ((0:Int)).toNat):Nat))) fun x11=>(some (.inl (IntKind.i64.wrap (s6+((min ((((s7).length:Int)).toNat - (s6).toNat) ((s6).toNat - ((0:Int)).toNat):Nat):Int)),(cpy s7 ((s6).toNat) ((((s7).length:Int)).toNat - (s6).toNat) ((s7.drop (((0:Int)).toNat)).take ((s6).toNat - ((0:Int)).toNat)))))))))) else (Option.map Sum.inr (some s7)))
noncomputable def Yma (p0:List Ends) (p1:Int):Option (List Ends) :=
  (if (decide (p1<0))=true then (none) else (Option.bind (math_bits_Mul (IntKind.u64.wrap ((p0).length:Int)) (IntKind.u64.wrap p1)) fun x2=>(if ((decide (x2.1 > 0)) || decide (x2.2 > 9223372036854775807))=true then (none) else (Option.bind (mk (IntKind.i64.wrap x2.2) (⟨0,0⟩:Ends)) fun x5=>(iter (fun ss_8:Int × (List Ends)=>Jwa ss_8.1 ss_8.2) (((min (x5).length (p0).length:Nat):Int),(cpy x5 0 (x5).length p0)))))))
noncomputable def Jmb (p0:Int) (z2:Bool):Option (Int × Int × Bool) :=
  (if z2=true then (some (1,(-1),true)) else (if (p0==6)=true then (some ((-1),1,true)) else (if (p0==8)=true then (some (1,0,true)) else (some (0,0,false)))))
noncomputable def Qwb (p0:Int) (z1:Bool):Option (Int × Int × Bool) :=
  (if z1=true then (some (1,1,true)) else (if (p0==5)=true then (Jmb p0 (p0==5)) else (Jmb p0 (p0==7))))
noncomputable def net_arity (p0:Int):Option (Int × Int × Bool) :=
  (if (p0==1)=true then (some (0,1,true)) else (if (p0==2)=true then (Qwb p0 (p0==2)) else (if (p0==3)=true then (Qwb p0 (p0==3)) else (Qwb p0 (p0==4)))))
noncomputable def net_fits (p0:Int) (p1:Int):Option Bool :=
  (some ((p0==p1) || ((decide (p1<0)) && decide (p0 > 0))))
noncomputable def Qrb (p0:Net) (s6:Int) (x9:Node) (z15:Int) (s27:Int) (s28:List Ends):Option ((Int × (List Ends)) ⊕ ((Int × Int × (List Ends)) ⊕ ((List Ends) × Int))) :=
  (if (decide (s27<((x9.Out).length:Int)))=true then (Option.bind (idx x9.Out s27) fun x30=>(if ((decide (x30<0)) || decide (x30 ≥ p0.Rings))=true then (Option.map Sum.inr (Option.map Sum.inr (some ([],3)))) else (Option.bind (ixN s28 x30) fun x34=>(Option.bind ((s28)[x34]?) fun x35=>(if (decide (x35.src ≥ 0))=true then (Option.map Sum.inr (Option.map Sum.inr (some ([],6)))) else (Option.bind (ixN s28 x30) fun x36=>(Option.bind ((s28)[x36]?) fun x37=>(some (.inl (IntKind.i64.wrap (s27+1),(List.set s28 x36 (⟨s6,x37.dst⟩:Ends)))))))))))) else (Option.map Sum.inr (some (.inl (z15,IntKind.i64.wrap (s6+1),s28)))))
noncomputable def Qpb (p0:Net) (s6:Int) (x9:Node) (z15:Int) (s16:Int) (s17:List Ends):Option ((Int × (List Ends)) ⊕ ((Int × Int × (List Ends)) ⊕ ((List Ends) × Int))) :=
  (if (decide (s16<((x9.In).length:Int)))=true then (Option.bind (idx x9.In s16) fun x19=>(if ((decide (x19<0)) || decide (x19 ≥ p0.Rings))=true then (Option.map Sum.inr (Option.map Sum.inr (some ([],3)))) else (Option.bind (ixN s17 x19) fun x23=>(Option.bind ((s17)[x23]?) fun x24=>(if (decide (x24.dst ≥ 0))=true then (Option.map Sum.inr (Option.map Sum.inr (some ([],6)))) else (Option.bind (ixN s17 x19) fun x25=>(Option.bind ((s17)[x25]?) fun x26=>(some (.inl (IntKind.i64.wrap (s16+1),(List.set s17 x25 (⟨x26.src,s6⟩:Ends)))))))))))) else (Option.map Sum.inr (iter (fun ss_178:Int × (List Ends)=>Qrb p0 s6 x9 z15 ss_178.1 ss_178.2) (0,s17))))
noncomputable def Jhb (p0:Net) (s6:Int) (s7:List Ends) (x9:Node) (z15:Int):Option ((Int × Int × (List Ends)) ⊕ ((List Ends) × Int)) :=
  (iter (fun ss_159:Int × (List Ends)=>Qpb p0 s6 x9 z15 ss_159.1 ss_159.2) (0,s7))
noncomputable def Jib (s5:Int) (s7:List Ends) (s38:Int):Option (Int ⊕ ((List Ends) × Int)) :=
  (if (decide (s38<((s7).length:Int)))=true then (Option.bind (ixN s7 s38) fun x41=>(Option.bind ((s7)[x41]?) fun x42=>(if ((decide (x42.src<0)) || decide (x42.dst<0))=true then (Option.map Sum.inr (some ([],9))) else (some (.inl (IntKind.i64.wrap (s38+1))))))) else (Option.map Sum.inr (if (s5 != 1)=true then (some ([],4)) else (some (s7,0)))))
noncomputable def Qtb (p0:Net) (s5:Int) (s6:Int) (s7:List Ends):Option ((Int × Int × (List Ends)) ⊕ ((List Ends) × Int)) :=
  (if (decide (s6<((p0.Nodes).length:Int)))=true then (Option.bind (idx p0.Nodes s6) fun x9=>(Option.bind (net_arity x9.Kind) fun x11=>(if (!x11.2.2)=true then (Option.map Sum.inr (some ([],5))) else (Option.bind (net_fits ((x9.In).length:Int) x11.1) fun x12=>(Option.bind (if (!x12)=true then (some true) else (Option.bind (net_fits ((x9.Out).length:Int) x11.2.1) fun x13=>(some (!x13)))) fun c14=>(if c14=true then (Option.map Sum.inr (some ([],4))) else (if ((decide (x9.A<0)) || (if (x9.Kind==1)=true then ((decide (x9.A ≥ 4)) || (if (x9.Kind==2)=true then ((decide (x9.A > 3)) || ((x9.Kind != 1) && ((x9.Kind != 2) && x9.A != 0))) else ((x9.Kind != 1) && ((x9.Kind != 2) && x9.A != 0)))) else (if (x9.Kind==2)=true then ((decide (x9.A > 3)) || ((x9.Kind != 1) && ((x9.Kind != 2) && x9.A != 0))) else ((x9.Kind != 1) && ((x9.Kind != 2) && x9.A != 0)))))=true then (Option.map Sum.inr (some ([],3))) else (if (x9.Kind==8)=true then (Jhb p0 s6 s7 x9 (IntKind.i64.wrap (s5+1))) else (Jhb p0 s6 s7 x9 s5))))))))) else (Option.map Sum.inr (iter (fun ss_197:Int=>Jib s5 s7 ss_197) 0)))
noncomputable def net_look (p0:Net):Option ((List Ends) × Int) :=
  (if ((decide (((p0.Nodes).length:Int)<1)) || ((decide (((p0.Nodes).length:Int) > 12)) || ((decide (p0.Rings<0)) || decide (p0.Rings > 16))))=true then (some ([],2)) else (if ((decide (p0.Room<1)) || decide (p0.Room > 6))=true then (some ([],3)) else (Option.bind (Yma ([(⟨(-1),(-1)⟩:Ends)]:List Ends) p0.Rings) fun x4=>(iter (fun ss_123:Int × Int × (List Ends)=>Qtb p0 ss_123.1 ss_123.2.1 ss_123.2.2) (0,0,x4)))))
noncomputable def Y2a (p0:Int) (p1:List Bool) (p2:List Ends):Option Bool :=
  (Option.bind (ixN p2 p0) fun x5=>(Option.bind ((p2)[x5]?) fun x6=>(Option.bind (ixN p1 x6.src) fun x7=>(Option.bind ((p1)[x7]?) fun x8=>(some (!x8))))))
noncomputable def Joa (p0:List Int) (p1:List Bool) (p2:List Ends) (s1:Int):Option (Int ⊕ Int) :=
  (if (decide (s1<((p0).length:Int)))=true then (Option.bind (idx p0 s1) fun x4=>(Option.bind (Y2a x4 p1 p2) fun x5=>(if x5=true then (Option.map Sum.inr (some s1)) else (some (.inl (IntKind.i64.wrap (s1+1))))))) else (Option.map Sum.inr (some (-1))))
noncomputable def Vda (p0:List Int) (p1:List Bool) (p2:List Ends):Option Int :=
  (iter (fun ss_5:Int=>Joa p0 p1 p2 ss_5) 0)
noncomputable def Jpa (p0:List Int) (p1:List Bool) (p2:List Ends):Option Bool :=
  (Option.bind (Vda p0 p1 p2) fun x2=>(some (decide (x2 ≥ 0))))
noncomputable def Qub (s5:List Int) (s6:List Bool) (z14:Int):Option (((List Int) × (List Bool)) ⊕ ((List Int) × Int)) :=
  (if (decide (z14<0))=true then (Option.map Sum.inr (some ([],7))) else (Option.bind (ixN s6 z14) fun x17=>(Option.bind ((s6)[x17]?) fun x18=>(Option.bind (app s5 [z14]) fun x19=>(some (.inl (x19,(List.set s6 x17 true))))))))
noncomputable def Qab (p0:Net) (x2:(List Ends) × Int) (s5:List Int) (s6:List Bool) (s7:Int):Option (Int ⊕ (((List Int) × (List Bool)) ⊕ ((List Int) × Int))) :=
  (if (decide (s7<((p0.Nodes).length:Int)))=true then (Option.bind (idx p0.Nodes s7) fun x9=>(Option.bind (ixN s6 s7) fun x10=>(Option.bind ((s6)[x10]?) fun x11=>(Option.bind (if (!x11)=true then (Option.bind (Jpa x9.In s6 x2.1) fun x12=>(some (!x12))) else (some false)) fun c13=>(if c13=true then (Option.map Sum.inr (Qub s5 s6 s7)) else (some (.inl (IntKind.i64.wrap (s7+1))))))))) else (Option.map Sum.inr (Qub s5 s6 (-1))))
noncomputable def Y5a (p0:Net) (x2:(List Ends) × Int) (s5:List Int) (s6:List Bool):Option (((List Int) × (List Bool)) ⊕ ((List Int) × Int)) :=
  (if (decide (((s5).length:Int)<((p0.Nodes).length:Int)))=true then (iter (fun ss_102:Int=>Qab p0 x2 s5 s6 ss_102) 0) else (Option.map Sum.inr (some (s5,0))))
noncomputable def net_Order (p0:Net):Option ((List Int) × Int) :=
  (Option.bind (net_look p0) fun x2=>(if (x2.2 != 0)=true then (some ([],x2.2)) else (Option.bind (mk ((p0.Nodes).length:Int) false) fun x4=>(iter (fun ss_72:(List Int) × (List Bool)=>Y5a p0 x2 ss_72.1 ss_72.2) ([],x4)))))
noncomputable def net_Check (p0:Net):Option Int :=
  (Option.bind (net_Order p0) fun x2=>(some x2.2))
noncomputable def Qlb (s3:Int) (x5:List Item) (s6:Int):Option (Int ⊕ (Int ⊕ Int)) :=
  (if (decide (s6<((x5).length:Int)))=true then (Option.bind (idx x5 s6) fun x8=>(if (x8.Dep != 0)=true then (Option.map Sum.inr (Option.map Sum.inr (some 4))) else (some (.inl (IntKind.i64.wrap (s6+1)))))) else (Option.map Sum.inr (some (.inl (IntKind.i64.wrap (s3+1))))))
noncomputable def V7a (p0:Net) (p1:List (List Item)) (s11:Int) (s12:List Bool):Option ((Int × (List Bool)) ⊕ Int) :=
  (if (decide (s11<((p0.Nodes).length:Int)))=true then (Option.bind (idx p0.Nodes s11) fun x14=>(if (x14.Kind != 1)=true then (some (.inl (IntKind.i64.wrap (s11+1),s12))) else (if (decide (x14.A ≥ ((p1).length:Int)))=true then (Option.map Sum.inr (some 5)) else (Option.bind (ixN s12 x14.A) fun x17=>(Option.bind ((s12)[x17]?) fun x18=>(if x18=true then (Option.map Sum.inr (some 6)) else (Option.bind (ixN s12 x14.A) fun x19=>(Option.bind ((s12)[x19]?) fun x20=>(some (.inl (IntKind.i64.wrap (s11+1),(List.set s12 x19 true)))))))))))) else (Option.map Sum.inr (some 0)))
noncomputable def Qkb (p0:Net) (p1:List (List Item)) (s3:Int):Option (Int ⊕ Int) :=
  (if (decide (s3<((p1).length:Int)))=true then (Option.bind (idx p1 s3) fun x5=>(if (decide (((x5).length:Int) > 20))=true then (Option.map Sum.inr (some 2)) else (iter (fun ss_36:Int=>Qlb s3 x5 ss_36) 0))) else (Option.map Sum.inr (Option.bind (mk ((p1).length:Int) false) fun x10=>(iter (fun ss_52:Int × (List Bool)=>V7a p0 p1 ss_52.1 ss_52.2) (0,x10)))))
noncomputable def net_Sources (p0:Net) (p1:List (List Item)):Option Int :=
  (Option.bind (net_Check p0) fun x2=>(if (x2 != 0)=true then (some x2) else (if (decide (((p1).length:Int) > 4))=true then (some 2) else (iter (fun ss_27:Int=>Qkb p0 p1 ss_27) 0))))
noncomputable def move_start (p0:Net) (p1:List (List Item)):Option State :=
  (Option.bind (mk ((p1).length:Int) 0) fun x4=>(Option.bind (mk p0.Rings ([]:List Item)) fun x5=>(Option.bind (mk ((p0.Nodes).length:Int) (⟨0,[],0⟩:Memory)) fun x6=>(some (⟨x4,x5,x6,[],[]⟩:State)))))
noncomputable def move_Start (p0:Net) (p1:List (List Item)):Option (State × Int) :=
  (Option.bind (net_Sources p0 p1) fun x2=>(if (x2 != 0)=true then (some ((⟨[],[],[],[],[]⟩:State),x2)) else (Option.bind (move_start p0 p1) fun x4=>(some (x4,0)))))
noncomputable def move_head (p0:Net) (p1:List (List Item)) (p2:State) (p3:Move):Option (Item × Bool) :=
  (Option.bind (idx p0.Nodes p3.Node) fun x2=>(if (x2.Kind==1)=true then (Option.bind (idx p2.At x2.A) fun x5=>(Option.bind (idx p1 x2.A) fun x6=>(if (x5==((x6).length:Int))=true then (some ((⟨0,0,0⟩:Item),false)) else (Option.bind (idx p1 x2.A) fun x10=>(Option.bind (idx p2.At x2.A) fun x11=>(Option.bind (idx x10 x11) fun x12=>(some (x12,true)))))))) else (Option.bind (idx x2.In p3.Lane) fun x15=>(Option.bind (idx p2.Rings x15) fun x16=>(if (((x16).length:Int)==0)=true then (some ((⟨0,0,0⟩:Item),false)) else (Option.bind (idx x16 0) fun x18=>(some (x18,true))))))))
noncomputable def stage_Lane (p0:Item) (p1:Int):Option (Int × Int) :=
  (if ((decide (p1<1)) || decide (p1 > 16))=true then (some (0,3)) else (Option.bind (rem p0.Key p1) fun x4=>(Option.bind (rem (IntKind.i64.wrap (x4+p1)) p1) fun x5=>(some (x5,0)))))
noncomputable def move_outs (p0:Node) (p1:Item):Option (List Int) :=
  (if (p0.Kind != 7)=true then (some p0.Out) else (Option.bind (stage_Lane p1 ((p0.Out).length:Int)) fun x2=>(Option.bind (sub p0.Out x2.1 (IntKind.i64.wrap (x2.1+1))) fun x4=>(some x4))))
noncomputable def Jgb (p0:Int) (p1:List Int) (p2:List (List Item)) (p3:List Memory) (p4:List Choice) (p5:List Item) (p6:List Node) (p7:Int) (p8:Int):Option Bool :=
  (Option.bind (idx p2 p0) fun x2=>(some (decide (((x2).length:Int) ≥ p8))))
noncomputable def J3a (p0:List Int) (p1:List Int) (p2:List (List Item)) (p3:List Memory) (p4:List Choice) (p5:List Item) (p6:List Node) (p7:Int) (p8:Int) (s1:Int):Option (Int ⊕ Int) :=
  (if (decide (s1<((p0).length:Int)))=true then (Option.bind (idx p0 s1) fun x4=>(Option.bind (Jgb x4 p1 p2 p3 p4 p5 p6 p7 p8) fun x5=>(if x5=true then (Option.map Sum.inr (some s1)) else (some (.inl (IntKind.i64.wrap (s1+1))))))) else (Option.map Sum.inr (some (-1))))
noncomputable def Vca (p0:List Int) (p1:List Int) (p2:List (List Item)) (p3:List Memory) (p4:List Choice) (p5:List Item) (p6:List Node) (p7:Int) (p8:Int):Option Int :=
  (iter (fun ss_5:Int=>J3a p0 p1 p2 p3 p4 p5 p6 p7 p8 ss_5) 0)
noncomputable def J4a (p0:List Int) (p1:List Int) (p2:List (List Item)) (p3:List Memory) (p4:List Choice) (p5:List Item) (p6:List Node) (p7:Int) (p8:Int):Option Bool :=
  (Option.bind (Vca p0 p1 p2 p3 p4 p5 p6 p7 p8) fun x2=>(some (decide (x2 ≥ 0))))
noncomputable def Zka (p0:Memory) (s1:Int):Option (Int ⊕ Int) :=
  (if (decide (s1<((p0.Keys).length:Int)))=true then (Option.bind (idx p0.Keys s1) fun x3=>(Option.bind (if (decide (x3.N<1))=true then (some true) else (if (decide (s1 > 0))=true then (Option.bind (idx p0.Keys (IntKind.i64.wrap (s1 - 1))) fun x4=>(some (decide (x4.Key ≥ x3.Key)))) else (some false))) fun c5=>(if c5=true then (Option.map Sum.inr (some 4)) else (some (.inl (IntKind.i64.wrap (s1+1))))))) else (Option.map Sum.inr (if (decide (p0.Dep<0))=true then (some 3) else (some 0))))
noncomputable def Yta (p0:Memory):Option Int :=
  (if (decide (((p0.Keys).length:Int) > 6))=true then (some 2) else (iter (fun ss_16:Int=>Zka p0 ss_16) 0))
def Zra (p0:List Keyed):Option (List Keyed):=app [] p0
noncomputable def Q0b (p0:Memory):Option Memory :=
  (Option.bind (Zra p0.Keys) fun x2=>(some (⟨p0.Sum,x2,p0.Dep⟩:Memory)))
noncomputable def stage_mapped_1 (p0:Item):Option Int :=
  (some (IntKind.i64.wrap (p0.Val+1)))
noncomputable def stage_mapped_2 (p0:Item):Option Int :=
  (some (IntKind.i64.wrap (2*p0.Val)))
noncomputable def stage_mapped_3 (p0:Item):Option Int :=
  (some (IntKind.i64.wrap (0 - p0.Val)))
noncomputable def stage_mapped_4 (p0:Item):Option Int :=
  (some (IntKind.i64.wrap (p0.Val+p0.Key)))
noncomputable def stage_mapped (p0:Int) (p1:Item):Option Item :=
  (Option.bind (if (p0==0)=true then (Option.bind (stage_mapped_1 p1) fun x1=>(some x1)) else (if (p0==1)=true then (Option.bind (stage_mapped_2 p1) fun x2=>(some x2)) else (if (p0==2)=true then (Option.bind (stage_mapped_3 p1) fun x3=>(some x3)) else (Option.bind (isAt p0 3) fun x4=>(Option.bind (stage_mapped_4 p1) fun x5=>(some x5)))))) fun c6=>(some (⟨p1.Key,c6,p1.Dep⟩:Item)))
noncomputable def Jlb (p0:Keyed) (p1:Int):Option Int :=
  (if (decide (p0.Key<p1))=true then (some (-1)) else (if (decide (p0.Key > p1))=true then (some 1) else (some 0)))
noncomputable def Jea (p0:List Keyed) (p1:Int) (s1:Int) (s2:Int):Option ((Int × Int) ⊕ (Int × Bool)) :=
  (if (decide (s1<s2))=true then (Option.bind (shr .u64 (IntKind.u64.wrap (IntKind.i64.wrap (s1+s2))) 1) fun x4=>(Option.bind (idx p0 (IntKind.i64.wrap x4)) fun x7=>(Option.bind (Jlb x7 p1) fun x8=>(if (decide (x8<0))=true then (some (.inl (IntKind.i64.wrap ((IntKind.i64.wrap x4)+1),s2))) else (some (.inl (s1,IntKind.i64.wrap x4))))))) else (Option.map Sum.inr (Option.bind (if (decide (s1<((p0).length:Int)))=true then (Option.bind (idx p0 s1) fun x9=>(Option.bind (Jlb x9 p1) fun x10=>(some (x10==0)))) else (some false)) fun c11=>(some (s1,c11)))))
noncomputable def Jka (p0:List Keyed) (p1:Int):Option (Int × Bool) :=
  (iter (fun ss_5:Int × Int=>Jea p0 p1 ss_5.1 ss_5.2) (0,((p0).length:Int)))
noncomputable def Yea (p0:Int) (p1:List Keyed) (p2:List Keyed) (C:Nat):Option (List Keyed) :=
  (Option.bind (vwok ((p1).length) p0 (((p1).length:Nat):Int)) fun x2=>(if (((p2).length:Int)==0)=true then (none) else (if (p0==(((p1).length:Nat):Int))=true then (Option.bind (app p1 p2) fun x4=>(some x4)) else (if (decide ((IntKind.i64.wrap ((((p1).length:Nat):Int)+((p2).length:Int))) > ((C:Nat):Int)))=true then (Option.bind (vwok ((p1).length) 0 p0) fun x7=>(Option.bind (growz p1 ((p0).toNat) C (IntKind.i64.wrap ((IntKind.i64.wrap ((((p1).length:Nat):Int)+((p2).length:Int))) - p0)) (⟨0,0⟩:Keyed)) fun x8=>(Option.bind (vwok (x8).length p0 ((x8).length:Int)) fun x11=>(Option.bind (vwok (x8).length ((p0).toNat:Nat) (((p0).toNat:Nat)+(((((x8).length:Int)).toNat - (p0).toNat):Nat))) fun x12=>(Option.bind (vwok ((cpy x8 ((p0).toNat) ((((x8).length:Int)).toNat - (p0).toNat) p2)).length (IntKind.i64.wrap (p0+((p2).length:Int))) (((cpy x8 ((p0).toNat) ((((x8).length:Int)).toNat - (p0).toNat) p2)).length:Int)) fun x17=>(Option.bind (vwok ((p1).length) p0 (((p1).length:Nat):Int)) fun x18=>(Option.bind (vwok ((cpy x8 ((p0).toNat) ((((x8).length:Int)).toNat - (p0).toNat) p2)).length ((IntKind.i64.wrap (p0+((p2).length:Int))).toNat:Nat) (((IntKind.i64.wrap (p0+((p2).length:Int))).toNat:Nat)+((((((cpy x8 ((p0).toNat) ((((x8).length:Int)).toNat - (p0).toNat) p2)).length:Int)).toNat - (IntKind.i64.wrap (p0+((p2).length:Int))).toNat):Nat))) fun x19=>(Option.bind (vwok (p1).length ((0+(p0).toNat):Nat) (((0+(p0).toNat):Nat)+((((((p1).length:Nat):Int)).toNat - (p0).toNat):Nat))) fun x20=>(some (cpy (cpy x8 ((p0).toNat) ((((x8).length:Int)).toNat - (p0).toNat) p2) ((IntKind.i64.wrap (p0+((p2).length:Int))).toNat) (((((cpy x8 ((p0).toNat) ((((x8).length:Int)).toNat - (p0).toNat) p2)).length:Int)).toNat - (IntKind.i64.wrap (p0+((p2).length:Int))).toNat) ((p1.drop (0+(p0).toNat)).take (((((p1).length:Nat):Int)).toNat - (p0).toNat)))))))))))) else (Option.bind (roomx (p1).length C (IntKind.i64.wrap ((((p1).length:Nat):Int)+((p2).length:Int)))) fun x22=>(Option.bind (vwok ((p1).length+x22) (IntKind.i64.wrap (p0+((p2).length:Int))) ((((p1).length+x22):Nat):Int)) fun x25=>(Option.bind (ovok p2 ((((((p1).length+x22):Nat):Int)).toNat - (IntKind.i64.wrap (p0+((p2).length:Int))).toNat)) fun x26=>(Option.bind (vwok ((p1).length+x22) (IntKind.i64.wrap (p0+((p2).length:Int))) ((((p1).length+x22):Nat):Int)) fun x30=>(Option.bind (vwok ((p1).length+x22) p0 ((((p1).length+x22):Nat):Int)) fun x31=>(Option.bind (cpyU p1 x22 ((IntKind.i64.wrap (p0+((p2).length:Int))).toNat) ((((((p1).length+x22):Nat):Int)).toNat - (IntKind.i64.wrap (p0+((p2).length:Int))).toNat) ((p0).toNat) ((((((p1).length+x22):Nat):Int)).toNat - (p0).toNat)) fun x32=>(Option.bind (vwok (x32).length p0 ((x32).length:Int)) fun x35=>(Option.bind (vwok (x32).length ((p0).toNat:Nat) (((p0).toNat:Nat)+(((((x32).length:Int)).toNat - (p0).toNat):Nat))) fun x36=>(some (cpy x32 ((p0).toNat) ((((x32).length:Int)).toNat - (p0).toNat) p2))))))))))))))
noncomputable def Zva (p0:Int) (p1:List Keyed) (p2:List Keyed):Option (List Keyed):=allC (p1).length (fun C=>Yea p0 p1 p2 C)
noncomputable def V2a (p3:Item) (x4:Memory) (x9:Int × Bool) (z12:List Keyed):Option (Memory × Item × Int) :=
  (Option.bind (ixN z12 x9.1) fun x17=>(Option.bind ((z12)[x17]?) fun x18=>(Option.bind (ixN z12 x9.1) fun x19=>(Option.bind ((z12)[x19]?) fun x20=>(Option.bind (ixN (List.set z12 x19 (⟨x20.Key,IntKind.i64.wrap (x18.N+1)⟩:Keyed)) x9.1) fun x23=>(Option.bind (((List.set z12 x19 (⟨x20.Key,IntKind.i64.wrap (x18.N+1)⟩:Keyed)))[x23]?) fun x24=>(some ((⟨x4.Sum,(List.set z12 x19 (⟨x20.Key,IntKind.i64.wrap (x18.N+1)⟩:Keyed)),(if p3.Dep > x4.Dep then p3.Dep else x4.Dep)⟩:Memory),(⟨p3.Key,x24.N,(if p3.Dep > x4.Dep then p3.Dep else x4.Dep)⟩:Item),0))))))))
noncomputable def Yza (p0:Int) (p1:Int) (p2:Memory) (p3:Item):Option (Memory × Item × Int) :=
  (Option.bind (Yta p2) fun x2=>(if (x2 != 0)=true then (some ((⟨0,[],0⟩:Memory),(⟨0,0,0⟩:Item),x2)) else (if (decide (p3.Dep<0))=true then (some ((⟨0,[],0⟩:Memory),(⟨0,0,0⟩:Item),3)) else (Option.bind (Q0b p2) fun x4=>(if (p0==2)=true then (if ((decide (p1<0)) || decide (p1 > 3))=true then (some ((⟨0,[],0⟩:Memory),(⟨0,0,0⟩:Item),3)) else (Option.bind (stage_mapped p1 p3) fun x7=>(some (x4,x7,0)))) else (if (p0==3)=true then (some ((⟨IntKind.i64.wrap (x4.Sum+p3.Val),x4.Keys,(if p3.Dep > x4.Dep then p3.Dep else x4.Dep)⟩:Memory),(⟨p3.Key,IntKind.i64.wrap (x4.Sum+p3.Val),(if p3.Dep > x4.Dep then p3.Dep else x4.Dep)⟩:Item),0)) else (if (p0==4)=true then (Option.bind (Jka x4.Keys p3.Key) fun x9=>(if ((!x9.2) && ((x4.Keys).length:Int)==6)=true then (some ((⟨x4.Sum,x4.Keys,(if p3.Dep > x4.Dep then p3.Dep else x4.Dep)⟩:Memory),(⟨p3.Key,0,(if p3.Dep > x4.Dep then p3.Dep else x4.Dep)⟩:Item),0)) else (if (!x9.2)=true then (Option.bind (Zva x9.1 x4.Keys ([(⟨p3.Key,0⟩:Keyed)]:List Keyed)) fun x11=>(V2a p3 x4 x9 x11)) else (V2a p3 x4 x9 x4.Keys)))) else (if (p0==1)=true then (if (p0==1)=true then (some (x4,p3,0)) else (some ((⟨0,[],0⟩:Memory),(⟨0,0,0⟩:Item),5))) else (if (p0==5)=true then (if (p0==5)=true then (some (x4,p3,0)) else (some ((⟨0,[],0⟩:Memory),(⟨0,0,0⟩:Item),5))) else (if (p0==6)=true then (if (p0==6)=true then (some (x4,p3,0)) else (some ((⟨0,[],0⟩:Memory),(⟨0,0,0⟩:Item),5))) else (if (p0==7)=true then (if (p0==7)=true then (some (x4,p3,0)) else (some ((⟨0,[],0⟩:Memory),(⟨0,0,0⟩:Item),5))) else (if (p0==8)=true then (some (x4,p3,0)) else (some ((⟨0,[],0⟩:Memory),(⟨0,0,0⟩:Item),5))))))))))))))
noncomputable def move_can (p0:Net) (p1:List (List Item)) (p2:State) (p3:Move):Option Bool :=
  (Option.bind (idx p0.Nodes p3.Node) fun x2=>(Option.bind (move_head p0 p1 p2 p3) fun x4=>(Option.bind (if (!x4.2)=true then (some true) else (Option.bind (move_outs x2 x4.1) fun x5=>(Option.bind (J4a x5 p2.At p2.Rings p2.Memory p2.Choices p2.Out p0.Nodes p0.Rings p0.Room) fun x6=>(some x6)))) fun c7=>(if c7=true then (some false) else (if (if (x2.Kind==6)=true then ((((p2.Choices).length:Int)==500) || ((x2.Kind==8) && ((p2.Out).length:Int)==2000)) else ((x2.Kind==8) && ((p2.Out).length:Int)==2000))=true then (some false) else (Option.bind (idx p2.Memory p3.Node) fun x11=>(Option.bind (Yza x2.Kind x2.A x11 x4.1) fun x12=>(some (x12.2.2==0)))))))))
noncomputable def Z6a (p0:Net) (p1:List (List Item)) (s1:Int) (p2:State) (z5:Int) (s6:Int) (s7:List Move):Option ((Int × (List Move)) ⊕ ((Int × (List Move)) ⊕ (List Move))) :=
  (if (decide (s6<z5))=true then (Option.bind (move_can p0 p1 p2 (⟨s1,s6⟩:Move)) fun x9=>(if x9=true then (Option.bind (app s7 [(⟨s1,s6⟩:Move)]) fun x10=>(some (.inl (IntKind.i64.wrap (s6+1),x10)))) else (some (.inl (IntKind.i64.wrap (s6+1),s7))))) else (Option.map Sum.inr (some (.inl (IntKind.i64.wrap (s1+1),s7)))))
noncomputable def Q3b (p0:Net) (p1:List (List Item)) (s1:Int) (p2:State) (s2:List Move) (z5:Int):Option ((Int × (List Move)) ⊕ (List Move)) :=
  (iter (fun ss_36:Int × (List Move)=>Z6a p0 p1 s1 p2 z5 ss_36.1 ss_36.2) (0,s2))
noncomputable def Yoa (p0:Net) (p1:List (List Item)) (p2:State) (s1:Int) (s2:List Move):Option ((Int × (List Move)) ⊕ (List Move)) :=
  (if (decide (s1<((p0.Nodes).length:Int)))=true then (Option.bind (idx p0.Nodes s1) fun x4=>(if (x4.Kind==6)=true then (Q3b p0 p1 s1 p2 s2 ((x4.In).length:Int)) else (Q3b p0 p1 s1 p2 s2 1))) else (Option.map Sum.inr (some s2)))
noncomputable def move_ready (p0:Net) (p1:List (List Item)) (p2:State):Option (List Move) :=
  (iter (fun ss_27:Int × (List Move)=>Yoa p0 p1 p2 ss_27.1 ss_27.2) (0,[]))
def Jfa (p0:List Item):Option (List Item):=app [] p0
noncomputable def ring_Take (p0:List Item):Option (Item × (List Item) × Int) :=
  (if (decide (((p0).length:Int) > 6))=true then (some ((⟨0,0,0⟩:Item),[],2)) else (if (((p0).length:Int)==0)=true then (some ((⟨0,0,0⟩:Item),[],9)) else (Option.bind (idx p0 0) fun x4=>(Option.bind (sub p0 1 ((p0).length:Int)) fun x5=>(Option.bind (Jfa x5) fun x6=>(some (x4,x6,0)))))))
noncomputable def ring_Put (p0:List Item) (p1:Int) (p2:Item):Option ((List Item) × Int) :=
  (if ((decide (p1<1)) || decide (p1 > 6))=true then (some ([],3)) else (if (decide (((p0).length:Int) > p1))=true then (some ([],2)) else (if (((p0).length:Int)==p1)=true then (some ([],8)) else (Option.bind (Jfa p0) fun x4=>(Option.bind (app x4 [p2]) fun x5=>(some (x5,0)))))))
noncomputable def Vaa (p0:Net) (p5:List Memory) (z16:List Int) (x19:List Int) (z23:List Choice) (x31:Memory × Item × Int) (x32:Nat) (z35:List Item) (s36:Int) (s37:List (List Item)):Option ((Int × (List (List Item))) ⊕ ((List Int) × (List (List Item)) × (List Memory) × (List Choice) × (List Item))) :=
  (if (decide (s36<((x19).length:Int)))=true then (Option.bind (idx x19 s36) fun x39=>(Option.bind (ixN s37 x39) fun x40=>(Option.bind ((s37)[x40]?) fun x41=>(Option.bind (ring_Put x41 p0.Room x31.2.1) fun x42=>(Option.bind (ixN s37 x39) fun x43=>(Option.bind ((s37)[x43]?) fun x44=>(some (.inl (IntKind.i64.wrap (s36+1),(List.set s37 x43 x42.1)))))))))) else (Option.map Sum.inr (some (z16,s37,(List.set p5 x32 x31.1),z23,z35))))
noncomputable def Yka (p0:Net) (p5:List Memory) (z16:List Int) (z17:List (List Item)) (x19:List Int) (z23:List Choice) (x31:Memory × Item × Int) (x32:Nat) (z35:List Item):Option ((List Int) × (List (List Item)) × (List Memory) × (List Choice) × (List Item)) :=
  (iter (fun ss_38:Int × (List (List Item))=>Vaa p0 p5 z16 x19 z23 x31 x32 z35 ss_38.1 ss_38.2) (0,z17))
noncomputable def Vya (p0:Net) (p2:Move) (x2:Node) (x4:Item × Bool) (p5:List Memory) (p7:List Item) (z16:List Int) (z17:List (List Item)) (x19:List Int) (z22:Int) (z23:List Choice):Option ((List Int) × (List (List Item)) × (List Memory) × (List Choice) × (List Item)) :=
  (Option.bind (ixN p5 p2.Node) fun x29=>(Option.bind ((p5)[x29]?) fun x30=>(Option.bind (Yza x2.Kind x2.A x30 (⟨x4.1.Key,x4.1.Val,z22⟩:Item)) fun x31=>(Option.bind (ixN p5 p2.Node) fun x32=>(Option.bind ((p5)[x32]?) fun x33=>(if (x2.Kind==8)=true then (Option.bind (app p7 [x31.2.1]) fun x34=>(Yka p0 p5 z16 z17 x19 z23 x31 x32 x34)) else (Yka p0 p5 z16 z17 x19 z23 x31 x32 p7)))))))
noncomputable def Vza (p0:Net) (p2:Move) (x2:Node) (x4:Item × Bool) (p5:List Memory) (p6:List Choice) (p7:List Item) (z16:List Int) (z17:List (List Item)):Option ((List Int) × (List (List Item)) × (List Memory) × (List Choice) × (List Item)) :=
  (Option.bind (move_outs x2 x4.1) fun x19=>(if (x2.Kind==6)=true then (Option.bind (app p6 [(⟨p2.Node,p2.Lane⟩:Choice)]) fun x21=>(Vya p0 p2 x2 x4 p5 p7 z16 z17 x19 ((x21).length:Int) x21)) else (Vya p0 p2 x2 x4 p5 p7 z16 z17 x19 x4.1.Dep p6)))
noncomputable def Qzb (p0:Net) (p1:List (List Item)) (p2:Move) (p3:List Int) (p4:List (List Item)) (p5:List Memory) (p6:List Choice) (p7:List Item):Option ((List Int) × (List (List Item)) × (List Memory) × (List Choice) × (List Item)) :=
  (Option.bind (idx p0.Nodes p2.Node) fun x2=>(Option.bind (move_head p0 p1 (⟨p3,p4,p5,p6,p7⟩:State) p2) fun x4=>(if (x2.Kind==1)=true then (Option.bind (ixN p3 x2.A) fun x5=>(Option.bind ((p3)[x5]?) fun x6=>(Option.bind (ixN p3 x2.A) fun x7=>(Option.bind ((p3)[x7]?) fun x8=>(Vza p0 p2 x2 x4 p5 p6 p7 (List.set p3 x7 (IntKind.i64.wrap (x6+1))) p4))))) else (Option.bind (idx x2.In p2.Lane) fun x9=>(Option.bind (idx x2.In p2.Lane) fun x10=>(Option.bind (ixN p4 x10) fun x11=>(Option.bind ((p4)[x11]?) fun x12=>(Option.bind (ring_Take x12) fun x13=>(Option.bind (ixN p4 x9) fun x14=>(Option.bind ((p4)[x14]?) fun x15=>(Vza p0 p2 x2 x4 p5 p6 p7 p3 (List.set p4 x14 x13.2.1))))))))))))
noncomputable def Yva (p0:Item) (p1:List Int) (p2:List (List Item)) (p3:List Memory) (p4:List Choice) (p5:List Item):Option Bool :=
  (some ((decide (p0.Dep<0)) || decide (p0.Dep > ((p4).length:Int))))
noncomputable def J0a (p0:List Item) (p1:List Int) (p2:List (List Item)) (p3:List Memory) (p4:List Choice) (p5:List Item) (s1:Int):Option (Int ⊕ Int) :=
  (if (decide (s1<((p0).length:Int)))=true then (Option.bind (idx p0 s1) fun x4=>(Option.bind (Yva x4 p1 p2 p3 p4 p5) fun x5=>(if x5=true then (Option.map Sum.inr (some s1)) else (some (.inl (IntKind.i64.wrap (s1+1))))))) else (Option.map Sum.inr (some (-1))))
noncomputable def Z8a (p0:List Item) (p1:List Int) (p2:List (List Item)) (p3:List Memory) (p4:List Choice) (p5:List Item):Option Int :=
  (iter (fun ss_5:Int=>J0a p0 p1 p2 p3 p4 p5 ss_5) 0)
noncomputable def Zqa (p0:List Item) (p1:List Int) (p2:List (List Item)) (p3:List Memory) (p4:List Choice) (p5:List Item):Option Bool :=
  (Option.bind (Z8a p0 p1 p2 p3 p4 p5) fun x2=>(some (decide (x2 ≥ 0))))
noncomputable def Vwa (p0:List Item) (p1:List Int) (p2:List (List Item)) (p3:List Memory) (p4:List Choice) (p5:List Item):Option Bool :=
  (Option.bind (Zqa p0 p1 p2 p3 p4 p5) fun x2=>(some (!x2)))
noncomputable def move_choice (p0:Net) (p1:Choice):Option Bool :=
  (Option.bind (if (decide (p1.Node ≥ 0))=true then (if (decide (p1.Node<((p0.Nodes).length:Int)))=true then (Option.bind (idx p0.Nodes p1.Node) fun x1=>(if (x1.Kind==6)=true then (if (decide (p1.Lane ≥ 0))=true then (Option.bind (idx p0.Nodes p1.Node) fun x2=>(some (decide (p1.Lane<((x2.In).length:Int))))) else (some false)) else (some false))) else (some false)) else (some false)) fun c3=>(some c3))
noncomputable def Q1b (p0:Net) (p2:State) (s20:Int):Option (Int ⊕ Int) :=
  (if (decide (s20<((p2.Choices).length:Int)))=true then (Option.bind (idx p2.Choices s20) fun x22=>(Option.bind (move_choice p0 x22) fun x24=>(if (!x24)=true then (Option.map Sum.inr (some 5)) else (some (.inl (IntKind.i64.wrap (s20+1))))))) else (Option.map Sum.inr (Option.bind (Vwa p2.Out p2.At p2.Rings p2.Memory p2.Choices p2.Out) fun x26=>(if (!x26)=true then (some 3) else (some 0)))))
noncomputable def Q2b (p0:Net) (p2:State) (s15:Int):Option (Int ⊕ Int) :=
  (if (decide (s15<((p2.Memory).length:Int)))=true then (Option.bind (idx p2.Memory s15) fun x17=>(Option.bind (Yta x17) fun x19=>(if (x19 != 0)=true then (Option.map Sum.inr (some x19)) else (if (decide (x17.Dep > ((p2.Choices).length:Int)))=true then (Option.map Sum.inr (some 3)) else (some (.inl (IntKind.i64.wrap (s15+1)))))))) else (Option.map Sum.inr (iter (fun ss_55:Int=>Q1b p0 p2 ss_55) 0)))
noncomputable def Qxb (p0:Net) (p2:State) (s10:Int):Option (Int ⊕ Int) :=
  (if (decide (s10<((p2.Rings).length:Int)))=true then (Option.bind (idx p2.Rings s10) fun x12=>(if (decide (((x12).length:Int) > p0.Room))=true then (Option.map Sum.inr (some 2)) else (Option.bind (Vwa x12 p2.At p2.Rings p2.Memory p2.Choices p2.Out) fun x14=>(if (!x14)=true then (Option.map Sum.inr (some 3)) else (some (.inl (IntKind.i64.wrap (s10+1)))))))) else (Option.map Sum.inr (iter (fun ss_43:Int=>Q2b p0 p2 ss_43) 0)))
noncomputable def move_Check_l4 (p0:Net) (p1:List (List Item)) (p2:State) (s5:Int):Option (Int ⊕ Int) :=
  (if (decide (s5<((p2.At).length:Int)))=true then (Option.bind (idx p2.At s5) fun x7=>(Option.bind (if (decide (x7<0))=true then (some true) else (Option.bind (idx p1 s5) fun x8=>(some (decide (x7 > ((x8).length:Int)))))) fun c9=>(if c9=true then (Option.map Sum.inr (some 3)) else (some (.inl (IntKind.i64.wrap (s5+1))))))) else (Option.map Sum.inr (iter (fun ss_29:Int=>Qxb p0 p2 ss_29) 0)))
noncomputable def move_Check (p0:Net) (p1:List (List Item)) (p2:State):Option Int :=
  (Option.bind (net_Sources p0 p1) fun x2=>(if (x2 != 0)=true then (some x2) else (if ((((p2.At).length:Int) != ((p1).length:Int)) || ((((p2.Rings).length:Int) != p0.Rings) || ((p2.Memory).length:Int) != ((p0.Nodes).length:Int)))=true then (some 4) else (if ((decide (((p2.Choices).length:Int) > 500)) || decide (((p2.Out).length:Int) > 2000))=true then (some 2) else (iter (fun ss_15:Int=>move_Check_l4 p0 p1 p2 ss_15) 0)))))
def Yia (p0:List Int):Option (List Int):=app [] p0
def Zpa (p0:List (List Item)):Option (List (List Item)):=app [] p0
def Qdb (p0:List Memory):Option (List Memory):=app [] p0
def Vha (p0:List Choice):Option (List Choice):=app [] p0
noncomputable def Y9a (p0:State) (x2:List Int) (s6:List (List Item)) (x13:List Memory) (s14:Int) (s15:List Memory):Option ((Int × (List Memory)) ⊕ State) :=
  (if (decide (s14<((x13).length:Int)))=true then (Option.bind (ixN s15 s14) fun x16=>(Option.bind ((s15)[x16]?) fun x17=>(Option.bind (Q0b x17) fun x18=>(Option.bind (ixN s15 s14) fun x19=>(Option.bind ((s15)[x19]?) fun x20=>(some (.inl (IntKind.i64.wrap (s14+1),(List.set s15 x19 x18))))))))) else (Option.map Sum.inr (Option.bind (Vha p0.Choices) fun x22=>(Option.bind (Jfa p0.Out) fun x24=>(some (⟨x2,s6,s15,x22,x24⟩:State))))))
noncomputable def Y7a (p0:State) (x2:List Int) (x4:List (List Item)) (s5:Int) (s6:List (List Item)):Option ((Int × (List (List Item))) ⊕ State) :=
  (if (decide (s5<((x4).length:Int)))=true then (Option.bind (ixN s6 s5) fun x7=>(Option.bind ((s6)[x7]?) fun x8=>(Option.bind (Jfa x8) fun x9=>(Option.bind (ixN s6 s5) fun x10=>(Option.bind ((s6)[x10]?) fun x11=>(some (.inl (IntKind.i64.wrap (s5+1),(List.set s6 x10 x9))))))))) else (Option.map Sum.inr (Option.bind (Qdb p0.Memory) fun x13=>(iter (fun ss_19:Int × (List Memory)=>Y9a p0 x2 s6 x13 ss_19.1 ss_19.2) (0,x13)))))
noncomputable def move_Copy (p0:State):Option State :=
  (Option.bind (Yia p0.At) fun x2=>(Option.bind (Zpa p0.Rings) fun x4=>(iter (fun ss_7:Int × (List (List Item))=>Y7a p0 x2 x4 ss_7.1 ss_7.2) (0,x4))))
noncomputable def Vka (p0:Int):Option Bool :=
  (some (p0==0))
noncomputable def Q7a (p0:Int):Option Bool :=
  (some (p0==1))
noncomputable def Zwa (p0:Int):Option Bool :=
  (some (decide (p0 ≥ 1)))
noncomputable def Via (p0:List Int) (p1:Int) (s1:Int):Option (Int ⊕ Int) :=
  (if (decide (s1<((p0).length:Int)))=true then (Option.bind (idx p0 s1) fun x3=>(if (p1==x3)=true then (Option.map Sum.inr (some s1)) else (some (.inl (IntKind.i64.wrap (s1+1)))))) else (Option.map Sum.inr (some (-1))))
noncomputable def Jeb (p0:List Int) (p1:Int):Option Int :=
  (iter (fun ss_5:Int=>Via p0 p1 ss_5) 0)
noncomputable def Vla (p0:List Int) (p1:Int):Option Bool :=
  (Option.bind (Jeb p0 p1) fun x2=>(some (decide (x2 ≥ 0))))
noncomputable def Jma (p0:Net) (s3:Int) (s4:Int) (x8:Node) (s35:List (Int × Int)) (s39:Int) (s40:List (Int × Int)):Option ((Int × (List (Int × Int))) ⊕ ((Int × Int × (List (Int × Int)) × (List (Int × Int))) ⊕ ((List Int) × Int))) :=
  (if (decide (s39<((x8.Out).length:Int)))=true then (Option.bind (idx x8.Out s39) fun x42=>(if ((decide (x42<0)) || decide (x42 ≥ p0.Rings))=true then (Option.map Sum.inr (Option.map Sum.inr (some ([],3)))) else (if ((mget x42 s40).isSome)=true then (Option.map Sum.inr (Option.map Sum.inr (some ([],6)))) else (some (.inl (IntKind.i64.wrap (s39+1),(mset x42 s4 s40))))))) else (Option.map Sum.inr (if (x8.Kind==8)=true then (some (.inl (IntKind.i64.wrap (s3+1),IntKind.i64.wrap (s4+1),s40,s35))) else (some (.inl (s3,IntKind.i64.wrap (s4+1),s40,s35))))))
noncomputable def Jaa (p0:Net) (s3:Int) (s4:Int) (s5:List (Int × Int)) (x8:Node) (s34:Int) (s35:List (Int × Int)):Option ((Int × (List (Int × Int))) ⊕ ((Int × Int × (List (Int × Int)) × (List (Int × Int))) ⊕ ((List Int) × Int))) :=
  (if (decide (s34<((x8.In).length:Int)))=true then (Option.bind (idx x8.In s34) fun x37=>(if ((decide (x37<0)) || decide (x37 ≥ p0.Rings))=true then (Option.map Sum.inr (Option.map Sum.inr (some ([],3)))) else (if ((mget x37 s35).isSome)=true then (Option.map Sum.inr (Option.map Sum.inr (some ([],6)))) else (some (.inl (IntKind.i64.wrap (s34+1),(mset x37 s4 s35))))))) else (Option.map Sum.inr (iter (fun ss_391:Int × (List (Int × Int))=>Jma p0 s3 s4 x8 s35 ss_391.1 ss_391.2) (0,s5))))
noncomputable def Q8a (p0:Net) (s3:Int) (s4:Int) (s5:List (Int × Int)) (s6:List (Int × Int)) (x8:Node):Option ((Int × Int × (List (Int × Int)) × (List (Int × Int))) ⊕ ((List Int) × Int)) :=
  (if ((decide (x8.A<0)) || decide (x8.A > ((mget x8.Kind (mset 2 3 (mset 1 3 ([]:List (Int × Int))))).getD 0)))=true then (Option.map Sum.inr (some ([],3))) else (iter (fun ss_372:Int × (List (Int × Int))=>Jaa p0 s3 s4 s5 x8 ss_372.1 ss_372.2) (0,s6)))
noncomputable def J9a (s5:List (Int × Int)) (s46:List Int) (s47:Int) (s48:Int) (x52:Node) (s53:Bool) (s54:Int):Option ((Bool × Int) ⊕ ((Int × Int) ⊕ ((Int × (List Int)) ⊕ ((List Int) × Int)))) :=
  (if (decide (s54<((x52.In).length:Int)))=true then (Option.bind (idx x52.In s54) fun x56=>(if s53=true then (Option.bind (Vla s46 ((mget x56 s5).getD 0)) fun x57=>(some (.inl (x57,IntKind.i64.wrap (s54+1))))) else (some (.inl (false,IntKind.i64.wrap (s54+1)))))) else (Option.map Sum.inr (if s53=true then (some (.inl (s48,IntKind.i64.wrap (s48 - 1)))) else (some (.inl (s47,IntKind.i64.wrap (s48 - 1)))))))
noncomputable def J7a (p0:Net) (s5:List (Int × Int)) (s45:Int) (s46:List Int) (s47:Int) (s48:Int):Option ((Int × Int) ⊕ ((Int × (List Int)) ⊕ ((List Int) × Int))) :=
  (if (decide (s48 ≥ 0))=true then (Option.bind (Vla s46 s48) fun x50=>(if x50=true then (some (.inl (s47,IntKind.i64.wrap (s48 - 1)))) else (Option.bind (idx p0.Nodes s48) fun x52=>(iter (fun ss_564:Bool × Int=>J9a s5 s46 s47 s48 x52 ss_564.1 ss_564.2) (true,0))))) else (Option.map Sum.inr (if (decide (s47<0))=true then (Option.map Sum.inr (some ([],7))) else (Option.bind (app s46 [s47]) fun x58=>(some (.inl (IntKind.i64.wrap (s45+1),x58)))))))
noncomputable def Jta (p0:Net) (s5:List (Int × Int)) (s45:Int) (s46:List Int):Option ((Int × (List Int)) ⊕ ((List Int) × Int)) :=
  (if (decide (s45<((p0.Nodes).length:Int)))=true then (iter (fun ss_557:Int × Int=>J7a p0 s5 s45 s46 ss_557.1 ss_557.2) ((-1),IntKind.i64.wrap (((p0.Nodes).length:Int) - 1))) else (Option.map Sum.inr (some (s46,0))))
noncomputable def Jna (p0:Net) (s3:Int) (s4:Int) (s5:List (Int × Int)) (s6:List (Int × Int)):Option ((Int × Int × (List (Int × Int)) × (List (Int × Int))) ⊕ ((List Int) × Int)) :=
  (if (decide (s4<((p0.Nodes).length:Int)))=true then (Option.bind (idx p0.Nodes s4) fun x8=>(if (x8.Kind==1)=true then (Option.bind (Vka ((x8.In).length:Int)) fun x9=>(Option.bind (if (!x9)=true then (some true) else (Option.bind (Q7a ((x8.Out).length:Int)) fun x10=>(some (!x10)))) fun c11=>(if c11=true then (Option.map Sum.inr (some ([],4))) else (Q8a p0 s3 s4 s5 s6 x8)))) else (if (x8.Kind==2)=true then (Option.bind (Q7a ((x8.In).length:Int)) fun x12=>(Option.bind (if (!x12)=true then (some true) else (Option.bind (Q7a ((x8.Out).length:Int)) fun x13=>(some (!x13)))) fun c14=>(if c14=true then (Option.map Sum.inr (some ([],4))) else (Q8a p0 s3 s4 s5 s6 x8)))) else (if (x8.Kind==3)=true then (Option.bind (Q7a ((x8.In).length:Int)) fun x15=>(Option.bind (if (!x15)=true then (some true) else (Option.bind (Q7a ((x8.Out).length:Int)) fun x16=>(some (!x16)))) fun c17=>(if c17=true then (Option.map Sum.inr (some ([],4))) else (Q8a p0 s3 s4 s5 s6 x8)))) else (if (x8.Kind==4)=true then (Option.bind (Q7a ((x8.In).length:Int)) fun x18=>(Option.bind (if (!x18)=true then (some true) else (Option.bind (Q7a ((x8.Out).length:Int)) fun x19=>(some (!x19)))) fun c20=>(if c20=true then (Option.map Sum.inr (some ([],4))) else (Q8a p0 s3 s4 s5 s6 x8)))) else (if (x8.Kind==5)=true then (Option.bind (Q7a ((x8.In).length:Int)) fun x21=>(Option.bind (if (!x21)=true then (some true) else (Option.bind (Zwa ((x8.Out).length:Int)) fun x22=>(some (!x22)))) fun c23=>(if c23=true then (Option.map Sum.inr (some ([],4))) else (Q8a p0 s3 s4 s5 s6 x8)))) else (if (x8.Kind==7)=true then (Option.bind (Q7a ((x8.In).length:Int)) fun x24=>(Option.bind (if (!x24)=true then (some true) else (Option.bind (Zwa ((x8.Out).length:Int)) fun x25=>(some (!x25)))) fun c26=>(if c26=true then (Option.map Sum.inr (some ([],4))) else (Q8a p0 s3 s4 s5 s6 x8)))) else (if (x8.Kind==6)=true then (Option.bind (Zwa ((x8.In).length:Int)) fun x27=>(Option.bind (if (!x27)=true then (some true) else (Option.bind (Q7a ((x8.Out).length:Int)) fun x28=>(some (!x28)))) fun c29=>(if c29=true then (Option.map Sum.inr (some ([],4))) else (Q8a p0 s3 s4 s5 s6 x8)))) else (if (x8.Kind==8)=true then (Option.bind (Q7a ((x8.In).length:Int)) fun x30=>(Option.bind (if (!x30)=true then (some true) else (Option.bind (Vka ((x8.Out).length:Int)) fun x31=>(some (!x31)))) fun c32=>(if c32=true then (Option.map Sum.inr (some ([],4))) else (Q8a p0 s3 s4 s5 s6 x8)))) else (Option.map Sum.inr (some ([],5)))))))))))) else (Option.map Sum.inr (if ((((s5).length:Int) != p0.Rings) || ((s6).length:Int) != p0.Rings)=true then (some ([],9)) else (if (s3 != 1)=true then (some ([],4)) else (iter (fun ss_532:Int × (List Int)=>Jta p0 s5 ss_532.1 ss_532.2) (0,[]))))))
noncomputable def Yba (p0:Net):Option ((List Int) × Int) :=
  (if ((((p0.Nodes).length:Int)==0) || ((decide (((p0.Nodes).length:Int) > 12)) || ((decide (p0.Rings<0)) || decide (p0.Rings > 16))))=true then (some ([],2)) else (if ((decide (p0.Room<1)) || decide (p0.Room > 6))=true then (some ([],3)) else (iter (fun ss_293:Int × Int × (List (Int × Int)) × (List (Int × Int))=>Jna p0 ss_293.1 ss_293.2.1 ss_293.2.2.1 ss_293.2.2.2) (0,0,([]:List (Int × Int)),([]:List (Int × Int))))))
noncomputable def Zha (s3:Int) (x5:List Item) (s6:Int):Option (Int ⊕ (Int ⊕ Int)) :=
  (if (decide (s6<((x5).length:Int)))=true then (Option.bind (idx x5 s6) fun x8=>(if (x8.Dep != 0)=true then (Option.map Sum.inr (Option.map Sum.inr (some 4))) else (some (.inl (IntKind.i64.wrap (s6+1)))))) else (Option.map Sum.inr (some (.inl (IntKind.i64.wrap (s3+1))))))
noncomputable def Jla (p0:Net) (p1:List (List Item)) (s9:Int) (s10:List (Int × Int)):Option ((Int × (List (Int × Int))) ⊕ Int) :=
  (if (decide (s9<((p0.Nodes).length:Int)))=true then (Option.bind (idx p0.Nodes s9) fun x12=>(if (x12.Kind==1)=true then (if (decide (x12.A ≥ ((p1).length:Int)))=true then (Option.map Sum.inr (some 5)) else (if (decide (((mget x12.A (mset x12.A (IntKind.i64.wrap (((mget x12.A s10).getD 0)+1)) s10)).getD 0) > 1))=true then (Option.map Sum.inr (some 6)) else (some (.inl (IntKind.i64.wrap (s9+1),(mset x12.A (IntKind.i64.wrap (((mget x12.A s10).getD 0)+1)) s10)))))) else (some (.inl (IntKind.i64.wrap (s9+1),s10))))) else (Option.map Sum.inr (some 0)))
noncomputable def Zia (p0:Net) (p1:List (List Item)) (s3:Int):Option (Int ⊕ Int) :=
  (if (decide (s3<((p1).length:Int)))=true then (Option.bind (idx p1 s3) fun x5=>(if (decide (((x5).length:Int) > 20))=true then (Option.map Sum.inr (some 2)) else (iter (fun ss_36:Int=>Zha s3 x5 ss_36) 0))) else (Option.map Sum.inr (iter (fun ss_52:Int × (List (Int × Int))=>Jla p0 p1 ss_52.1 ss_52.2) (0,([]:List (Int × Int))))))
noncomputable def Vta (p0:Net) (p1:List (List Item)):Option Int :=
  (Option.bind (Yba p0) fun x2=>(if (x2.2 != 0)=true then (some x2.2) else (if (decide (((p1).length:Int) > 4))=true then (some 2) else (iter (fun ss_27:Int=>Zia p0 p1 ss_27) 0))))
noncomputable def Qhb:Option Net :=
  (some (⟨[(⟨1,0,[],[0]⟩:Node),(⟨1,1,[],[1]⟩:Node),(⟨6,0,[0,1],[2]⟩:Node),(⟨8,0,[2],[]⟩:Node)],3,1⟩:Net))
noncomputable def crosslaw_item (p0:Int) (p1:Int):Option Item :=
  (some (⟨p0,p1,0⟩:Item))
noncomputable def crosslaw_two:Option (List (List Item)) :=
  (Option.bind (crosslaw_item (1:Int) (1:Int)) fun x3=>(Option.bind (crosslaw_item (2:Int) (2:Int)) fun x4=>(some [[x3],[x4]])))
noncomputable def Yda (p0:List Int) (p1:List Int) (s1:Int):Option (Int ⊕ Bool) :=
  (if (decide (s1<((p0).length:Int)))=true then (Option.bind (idx p0 s1) fun x4=>(Option.bind (idx p1 s1) fun x5=>(if (x4 != x5)=true then (Option.map Sum.inr (some false)) else (some (.inl (IntKind.i64.wrap (s1+1))))))) else (Option.map Sum.inr (some true)))
noncomputable def Qgb (p0:List Int) (p1:List Int):Option Bool :=
  (if (((p0).length:Int) != ((p1).length:Int))=true then (some false) else (iter (fun ss_6:Int=>Yda p0 p1 ss_6) 0))
noncomputable def Zba (p0:State) (x4:List Int) (x5:List Choice) (x6:List Item) (s8:List (Bool × List Item)) (s13:Int) (s14:List Memory):Option ((Int × (List Memory)) ⊕ (State × (List (Bool × List Item)))) :=
  (if (decide (s13<((p0.Memory).length:Int)))=true then (Option.bind (idx p0.Memory s13) fun x16=>(Option.bind (Zra x16.Keys) fun x18=>(Option.bind (app s14 [(⟨x16.Sum,x18,x16.Dep⟩:Memory)]) fun x19=>(some (.inl (IntKind.i64.wrap (s13+1),x19)))))) else (Option.map Sum.inr (some ((⟨x4,(List.map Prod.snd s8),s14,x5,x6⟩:State),s8))))
noncomputable def Zaa (p0:State) (x4:List Int) (x5:List Choice) (x6:List Item) (s7:Int) (s8:List (Bool × List Item)):Option ((Int × (List (Bool × List Item))) ⊕ (State × (List (Bool × List Item)))) :=
  (if (decide (s7<((p0.Rings).length:Int)))=true then (Option.bind (idx p0.Rings s7) fun x10=>(Option.bind (Jfa x10) fun x11=>(Option.bind (app s8 [(false,x11)]) fun x12=>(some (.inl (IntKind.i64.wrap (s7+1),x12)))))) else (Option.map Sum.inr (iter (fun ss_26:Int × (List Memory)=>Zba p0 x4 x5 x6 s8 ss_26.1 ss_26.2) (0,[]))))
noncomputable def Yxa (p0:State):Option (State × (List (Bool × List Item))) :=
  (Option.bind (Yia p0.At) fun x4=>(Option.bind (Vha p0.Choices) fun x5=>(Option.bind (Jfa p0.Out) fun x6=>(iter (fun ss_18:Int × (List (Bool × List Item))=>Zaa p0 x4 x5 x6 ss_18.1 ss_18.2) (0,([]:List (Bool × List Item)))))))
noncomputable def crossref_Lane (p0:Item) (p1:Int):Option Int :=
  (Option.bind (rem p0.Key p1) fun x2=>(if (decide (x2<0))=true then (some (IntKind.i64.wrap (x2+p1))) else (some x2)))
noncomputable def sort_Slice_K (p0:List Keyed) (p1 p2:Int):Option (List Keyed):=sortK p0
noncomputable def Jqa (p2:Memory) (x2:List Keyed) (p3:Item) (s3:Int) (s4:Int):Option ((Int × Int) ⊕ (Memory × Item × Int)) :=
  (if (decide (s4<((x2).length:Int)))=true then (Option.bind (ixN x2 s4) fun x7=>(Option.bind ((x2)[x7]?) fun x8=>(if (x8.Key==p3.Key)=true then (some (.inl (s4,IntKind.i64.wrap (s4+1)))) else (some (.inl (s3,IntKind.i64.wrap (s4+1))))))) else (Option.map Sum.inr (if (decide (s3 ≥ 0))=true then (Option.bind (ixN x2 s3) fun x13=>(Option.bind ((x2)[x13]?) fun x14=>(Option.bind (ixN x2 s3) fun x15=>(Option.bind ((x2)[x15]?) fun x16=>(Option.bind (ixN (List.set x2 x15 (⟨x16.Key,IntKind.i64.wrap (x14.N+1)⟩:Keyed)) s3) fun x17=>(Option.bind (((List.set x2 x15 (⟨x16.Key,IntKind.i64.wrap (x14.N+1)⟩:Keyed)))[x17]?) fun x18=>(some ((⟨p2.Sum,(List.set x2 x15 (⟨x16.Key,IntKind.i64.wrap (x14.N+1)⟩:Keyed)),(if p3.Dep > p2.Dep then p3.Dep else p2.Dep)⟩:Memory),(⟨p3.Key,x18.N,(if p3.Dep > p2.Dep then p3.Dep else p2.Dep)⟩:Item),0)))))))) else (if (decide (((x2).length:Int)<6))=true then (Option.bind (app x2 [(⟨p3.Key,1⟩:Keyed)]) fun x20=>(Option.bind (sort_Slice_K x20 p2.Sum (if p3.Dep > p2.Dep then p3.Dep else p2.Dep)) fun x22=>(some ((⟨p2.Sum,x22,(if p3.Dep > p2.Dep then p3.Dep else p2.Dep)⟩:Memory),(⟨p3.Key,1,(if p3.Dep > p2.Dep then p3.Dep else p2.Dep)⟩:Item),0)))) else (some ((⟨p2.Sum,x2,(if p3.Dep > p2.Dep then p3.Dep else p2.Dep)⟩:Memory),(⟨p3.Key,0,(if p3.Dep > p2.Dep then p3.Dep else p2.Dep)⟩:Item),0))))))
noncomputable def Qcb (p0:Int) (p1:Int) (p2:Memory) (p3:Item):Option (Memory × Item × Int) :=
  (Option.bind (app [] p2.Keys) fun x2=>(if (p0==2)=true then (if (p1==0)=true then (some ((⟨p2.Sum,x2,p2.Dep⟩:Memory),(⟨p3.Key,IntKind.i64.wrap (p3.Val+1),p3.Dep⟩:Item),0)) else (if (p1==1)=true then (some ((⟨p2.Sum,x2,p2.Dep⟩:Memory),(⟨p3.Key,IntKind.i64.wrap (p3.Val+p3.Val),p3.Dep⟩:Item),0)) else (if (p1==2)=true then (some ((⟨p2.Sum,x2,p2.Dep⟩:Memory),(⟨p3.Key,IntKind.i64.wrap (0 - p3.Val),p3.Dep⟩:Item),0)) else (if (p1==3)=true then (some ((⟨p2.Sum,x2,p2.Dep⟩:Memory),(⟨p3.Key,IntKind.i64.wrap (p3.Val+p3.Key),p3.Dep⟩:Item),0)) else (some ((⟨0,[],0⟩:Memory),(⟨0,0,0⟩:Item),3)))))) else (if (p0==3)=true then (some ((⟨IntKind.i64.wrap (p2.Sum+p3.Val),x2,(if p3.Dep > p2.Dep then p3.Dep else p2.Dep)⟩:Memory),(⟨p3.Key,IntKind.i64.wrap (p2.Sum+p3.Val),(if p3.Dep > p2.Dep then p3.Dep else p2.Dep)⟩:Item),0)) else (if (p0==4)=true then (iter (fun ss_17:Int × Int=>Jqa p2 x2 p3 ss_17.1 ss_17.2) ((-1),0)) else (if (p0==1)=true then (if (p0==1)=true then (some ((⟨p2.Sum,x2,p2.Dep⟩:Memory),p3,0)) else (some ((⟨0,[],0⟩:Memory),(⟨0,0,0⟩:Item),5))) else (if (p0==5)=true then (if (p0==5)=true then (some ((⟨p2.Sum,x2,p2.Dep⟩:Memory),p3,0)) else (some ((⟨0,[],0⟩:Memory),(⟨0,0,0⟩:Item),5))) else (if (p0==6)=true then (if (p0==6)=true then (some ((⟨p2.Sum,x2,p2.Dep⟩:Memory),p3,0)) else (some ((⟨0,[],0⟩:Memory),(⟨0,0,0⟩:Item),5))) else (if (p0==7)=true then (if (p0==7)=true then (some ((⟨p2.Sum,x2,p2.Dep⟩:Memory),p3,0)) else (some ((⟨0,[],0⟩:Memory),(⟨0,0,0⟩:Item),5))) else (if (p0==8)=true then (some ((⟨p2.Sum,x2,p2.Dep⟩:Memory),p3,0)) else (some ((⟨0,[],0⟩:Memory),(⟨0,0,0⟩:Item),5)))))))))))
noncomputable def Jda (p0:Net) (x2:State × (List (Bool × List Item))) (x4:Node) (z30:List Int) (z34:List Int) (z38:List Choice) (x46:Memory × Item × Int) (x47:Nat) (s49:Int) (s50:List (Bool × List Item)):Option ((Int × (List (Bool × List Item))) ⊕ (State × Bool)) :=
  (if (decide (s49<((z34).length:Int)))=true then (Option.bind (idx z34 s49) fun x52=>(Option.bind (ixN s50 x52) fun x55=>(Option.bind (atc s50 x55) fun x56=>(if (decide (((x56).length:Int) ≥ p0.Room))=true then (Option.map Sum.inr (some ((⟨z30,(List.map Prod.snd s50),(List.set x2.1.Memory x47 x46.1),z38,x2.1.Out⟩:State),false))) else (Option.bind (owc s50 x55) fun x57=>(Option.bind (app x57 [x46.2.1]) fun x58=>(some (.inl (IntKind.i64.wrap (s49+1),(own s50 x55 x58)))))))))) else (Option.map Sum.inr (if (x4.Kind==8)=true then (if (decide (((x2.1.Out).length:Int) ≥ 2000))=true then (some ((⟨z30,(List.map Prod.snd s50),(List.set x2.1.Memory x47 x46.1),z38,x2.1.Out⟩:State),false)) else (Option.bind (app x2.1.Out [x46.2.1]) fun x59=>(some ((⟨z30,(List.map Prod.snd s50),(List.set x2.1.Memory x47 x46.1),z38,x59⟩:State),true)))) else (some ((⟨z30,(List.map Prod.snd s50),(List.set x2.1.Memory x47 x46.1),z38,x2.1.Out⟩:State),true)))))
noncomputable def Voa (p0:Net) (x2:State × (List (Bool × List Item))) (p3:Move) (x4:Node) (z27:Int) (z28:Int) (z30:List Int) (z31:List (Bool × List Item)) (z34:List Int) (z37:Int) (z38:List Choice):Option (State × Bool) :=
  (Option.bind (ixN x2.1.Memory p3.Node) fun x44=>(Option.bind ((x2.1.Memory)[x44]?) fun x45=>(Option.bind (Qcb x4.Kind x4.A x45 (⟨z27,z28,z37⟩:Item)) fun x46=>(Option.bind (ixN x2.1.Memory p3.Node) fun x47=>(Option.bind ((x2.1.Memory)[x47]?) fun x48=>(iter (fun ss_78:Int × (List (Bool × List Item))=>Jda p0 x2 x4 z30 z34 z38 x46 x47 ss_78.1 ss_78.2) (0,z31)))))))
noncomputable def Zma (p0:Net) (x2:State × (List (Bool × List Item))) (p3:Move) (x4:Node) (z27:Int) (z28:Int) (z29:Int) (z30:List Int) (z31:List (Bool × List Item)) (z34:List Int):Option (State × Bool) :=
  (if (x4.Kind==6)=true then (if (decide (((x2.1.Choices).length:Int) ≥ 500))=true then (some ((⟨z30,(List.map Prod.snd z31),x2.1.Memory,x2.1.Choices,x2.1.Out⟩:State),false)) else (Option.bind (app x2.1.Choices [(⟨p3.Node,p3.Lane⟩:Choice)]) fun x36=>(Voa p0 x2 p3 x4 z27 z28 z30 z31 z34 ((x36).length:Int) x36))) else (Voa p0 x2 p3 x4 z27 z28 z30 z31 z34 z29 x2.1.Choices))
noncomputable def Z4a (p0:Net) (x2:State × (List (Bool × List Item))) (p3:Move) (x4:Node) (z27:Int) (z28:Int) (z29:Int) (z30:List Int) (z31:List (Bool × List Item)):Option (State × Bool) :=
  (if (x4.Kind==7)=true then (Option.bind (crossref_Lane (⟨z27,z28,z29⟩:Item) ((x4.Out).length:Int)) fun x32=>(Option.bind (idx x4.Out x32) fun x33=>(Zma p0 x2 p3 x4 z27 z28 z29 z30 z31 [x33]))) else (Zma p0 x2 p3 x4 z27 z28 z29 z30 z31 x4.Out))
noncomputable def Q8b (p0:Net) (p1:List (List Item)) (p2:State) (p3:Move):Option (State × Bool) :=
  (Option.bind (Yxa p2) fun x2=>(Option.bind (idx p0.Nodes p3.Node) fun x4=>(if (x4.Kind==1)=true then (Option.bind (idx p1 x4.A) fun x9=>(Option.bind (ixN x2.1.At x4.A) fun x10=>(Option.bind ((x2.1.At)[x10]?) fun x11=>(Option.bind (sub x9 x11 ((x9).length:Int)) fun x12=>(if (((x12).length:Int)==0)=true then (some ((⟨x2.1.At,(List.map Prod.snd x2.2),x2.1.Memory,x2.1.Choices,x2.1.Out⟩:State),false)) else (Option.bind (idx x12 0) fun x14=>(Option.bind (ixN x2.1.At x4.A) fun x15=>(Option.bind ((x2.1.At)[x15]?) fun x16=>(Option.bind (ixN x2.1.At x4.A) fun x17=>(Option.bind ((x2.1.At)[x17]?) fun x18=>(Z4a p0 x2 p3 x4 x14.Key x14.Val x14.Dep (List.set x2.1.At x17 (IntKind.i64.wrap (x16+1))) x2.2))))))))))) else (Option.bind (idx x4.In p3.Lane) fun x20=>(Option.bind (ixN x2.2 x20) fun x23=>(Option.bind (atc x2.2 x23) fun x24=>(if (((x24).length:Int)==0)=true then (some ((⟨x2.1.At,(List.map Prod.snd x2.2),x2.1.Memory,x2.1.Choices,x2.1.Out⟩:State),false)) else (Option.bind (idx x24 0) fun x25=>(Option.bind (sub x24 1 ((x24).length:Int)) fun x26=>(Z4a p0 x2 p3 x4 x25.Key x25.Val x25.Dep x2.1.At (fzd (fzd (fzd x2.2 x23 x24) x23 x24) x23 x26)))))))))))
noncomputable def Z1a (p0:Net) (p1:List (List Item)) (s1:Int) (p2:State) (z5:Int) (s6:Int) (s7:List Move):Option ((Int × (List Move)) ⊕ ((Int × (List Move)) ⊕ (List Move))) :=
  (if (decide (s6<z5))=true then (Option.bind (Q8b p0 p1 p2 (⟨s1,s6⟩:Move)) fun x9=>(if x9.2=true then (Option.bind (app s7 [(⟨s1,s6⟩:Move)]) fun x10=>(some (.inl (IntKind.i64.wrap (s6+1),x10)))) else (some (.inl (IntKind.i64.wrap (s6+1),s7))))) else (Option.map Sum.inr (some (.inl (IntKind.i64.wrap (s1+1),s7)))))
noncomputable def V8a (p0:Net) (p1:List (List Item)) (s1:Int) (p2:State) (s2:List Move) (z5:Int):Option ((Int × (List Move)) ⊕ (List Move)) :=
  (iter (fun ss_36:Int × (List Move)=>Z1a p0 p1 s1 p2 z5 ss_36.1 ss_36.2) (0,s2))
noncomputable def Z0a (p0:Net) (p1:List (List Item)) (p2:State) (s1:Int) (s2:List Move):Option ((Int × (List Move)) ⊕ (List Move)) :=
  (if (decide (s1<((p0.Nodes).length:Int)))=true then (Option.bind (idx p0.Nodes s1) fun x4=>(if (x4.Kind==6)=true then (V8a p0 p1 s1 p2 s2 ((x4.In).length:Int)) else (V8a p0 p1 s1 p2 s2 1))) else (Option.map Sum.inr (some s2)))
noncomputable def Q9b (p0:Net) (p1:List (List Item)) (p2:State):Option (List Move) :=
  (iter (fun ss_27:Int × (List Move)=>Z0a p0 p1 p2 ss_27.1 ss_27.2) (0,[]))
noncomputable def Zja (p0:List Choice) (p1:Int) (s1:Int) (s2:List Int):Option ((Int × (List Int)) ⊕ (List Int)) :=
  (if (decide (s1<((p0).length:Int)))=true then (Option.bind (idx p0 s1) fun x4=>(if (x4.Node==p1)=true then (Option.bind (app s2 [x4.Lane]) fun x5=>(some (.inl (IntKind.i64.wrap (s1+1),x5)))) else (some (.inl (IntKind.i64.wrap (s1+1),s2))))) else (Option.map Sum.inr (some s2)))
noncomputable def Vxa (p0:List Choice) (p1:Int):Option (List Int) :=
  (iter (fun ss_5:Int × (List Int)=>Zja p0 p1 ss_5.1 ss_5.2) (0,[]))
noncomputable def Jxa (p0:Net) (p1:State) (p2:List Choice) (p3:List Move) (s1:Int) (s2:List Move):Option ((Int × (List Move)) ⊕ (List Move)) :=
  (if (decide (s1<((p3).length:Int)))=true then (Option.bind (idx p3 s1) fun x4=>(Option.bind (idx p0.Nodes x4.Node) fun x6=>(if (x6.Kind==6)=true then (Option.bind (Vxa p1.Choices x4.Node) fun x9=>(Option.bind (Vxa p2 x4.Node) fun x10=>(Option.bind (if (decide (((x9).length:Int)<((x10).length:Int)))=true then (Option.bind (ixN x10 ((x9).length:Int)) fun x11=>(Option.bind ((x10)[x11]?) fun x12=>(some (x12 != x4.Lane)))) else (some false)) fun c13=>(if c13=true then (some (.inl (IntKind.i64.wrap (s1+1),s2))) else (Option.bind (app s2 [x4]) fun x14=>(some (.inl (IntKind.i64.wrap (s1+1),x14)))))))) else (Option.bind (app s2 [x4]) fun x15=>(some (.inl (IntKind.i64.wrap (s1+1),x15))))))) else (Option.map Sum.inr (some s2)))
noncomputable def Yna (p0:Net) (p1:State) (p2:List Choice) (p3:List Move):Option (List Move) :=
  (iter (fun ss_15:Int × (List Move)=>Jxa p0 p1 p2 p3 ss_15.1 ss_15.2) (0,[]))
noncomputable def Jza (p0:List Item) (p4:List Choice) (s1:Int):Option (Int ⊕ Bool) :=
  (if (decide (s1<((p0).length:Int)))=true then (Option.bind (idx p0 s1) fun x3=>(if ((decide (x3.Dep<0)) || decide (x3.Dep > ((p4).length:Int)))=true then (Option.map Sum.inr (some false)) else (some (.inl (IntKind.i64.wrap (s1+1)))))) else (Option.map Sum.inr (some true)))
noncomputable def Jua (p0:List Item) (p1:List Int) (p2:List (List Item)) (p3:List Memory) (p4:List Choice) (p5:List Item):Option Bool :=
  (iter (fun ss_7:Int=>Jza p0 p4 ss_7) 0)
noncomputable def Z7a (p0:Memory) (s1:Int):Option (Int ⊕ Int) :=
  (if (decide (s1<((p0.Keys).length:Int)))=true then (Option.bind (idx p0.Keys s1) fun x3=>(if (decide (x3.N≤0))=true then (Option.map Sum.inr (some 4)) else (Option.bind (if (decide (s1 > 0))=true then (Option.bind (idx p0.Keys (IntKind.i64.wrap (s1 - 1))) fun x4=>(some (decide (x3.Key≤x4.Key)))) else (some false)) fun c5=>(if c5=true then (Option.map Sum.inr (some 4)) else (some (.inl (IntKind.i64.wrap (s1+1)))))))) else (Option.map Sum.inr (if (decide (p0.Dep<0))=true then (some 3) else (some 0))))
noncomputable def V1a (p0:Memory):Option Int :=
  (if (decide (((p0.Keys).length:Int) > 6))=true then (some 2) else (iter (fun ss_16:Int=>Z7a p0 ss_16) 0))
noncomputable def Yya (p0:Net) (p1:Choice):Option Bool :=
  (Option.bind (if (decide (p1.Node ≥ 0))=true then (if (decide (p1.Node<((p0.Nodes).length:Int)))=true then (Option.bind (idx p0.Nodes p1.Node) fun x1=>(if (x1.Kind==6)=true then (if (decide (p1.Lane ≥ 0))=true then (Option.bind (idx p0.Nodes p1.Node) fun x2=>(some (decide (p1.Lane<((x2.In).length:Int))))) else (some false)) else (some false))) else (some false)) else (some false)) fun c3=>(some c3))
noncomputable def Zsa (p0:Net) (p2:State) (s20:Int):Option (Int ⊕ Int) :=
  (if (decide (s20<((p2.Choices).length:Int)))=true then (Option.bind (idx p2.Choices s20) fun x22=>(Option.bind (Yya p0 x22) fun x24=>(if (!x24)=true then (Option.map Sum.inr (some 5)) else (some (.inl (IntKind.i64.wrap (s20+1))))))) else (Option.map Sum.inr (Option.bind (Jua p2.Out p2.At p2.Rings p2.Memory p2.Choices p2.Out) fun x26=>(if (!x26)=true then (some 3) else (some 0)))))
noncomputable def Zua (p0:Net) (p2:State) (s15:Int):Option (Int ⊕ Int) :=
  (if (decide (s15<((p2.Memory).length:Int)))=true then (Option.bind (idx p2.Memory s15) fun x17=>(Option.bind (V1a x17) fun x19=>(if (x19 != 0)=true then (Option.map Sum.inr (some x19)) else (if (decide (x17.Dep > ((p2.Choices).length:Int)))=true then (Option.map Sum.inr (some 3)) else (some (.inl (IntKind.i64.wrap (s15+1)))))))) else (Option.map Sum.inr (iter (fun ss_55:Int=>Zsa p0 p2 ss_55) 0)))
noncomputable def Zta (p0:Net) (p2:State) (s10:Int):Option (Int ⊕ Int) :=
  (if (decide (s10<((p2.Rings).length:Int)))=true then (Option.bind (idx p2.Rings s10) fun x12=>(if (decide (((x12).length:Int) > p0.Room))=true then (Option.map Sum.inr (some 2)) else (Option.bind (Jua x12 p2.At p2.Rings p2.Memory p2.Choices p2.Out) fun x14=>(if (!x14)=true then (Option.map Sum.inr (some 3)) else (some (.inl (IntKind.i64.wrap (s10+1)))))))) else (Option.map Sum.inr (iter (fun ss_43:Int=>Zua p0 p2 ss_43) 0)))
noncomputable def Vea (p0:Net) (p1:List (List Item)) (p2:State) (s5:Int):Option (Int ⊕ Int) :=
  (if (decide (s5<((p2.At).length:Int)))=true then (Option.bind (idx p2.At s5) fun x7=>(Option.bind (if (decide (x7<0))=true then (some true) else (Option.bind (idx p1 s5) fun x8=>(some (decide (x7 > ((x8).length:Int)))))) fun c9=>(if c9=true then (Option.map Sum.inr (some 3)) else (some (.inl (IntKind.i64.wrap (s5+1))))))) else (Option.map Sum.inr (iter (fun ss_29:Int=>Zta p0 p2 ss_29) 0)))
noncomputable def Yca (p0:Net) (p1:List (List Item)) (p2:State):Option Int :=
  (Option.bind (Vta p0 p1) fun x2=>(if (x2 != 0)=true then (some x2) else (if ((((p2.At).length:Int) != ((p1).length:Int)) || ((((p2.Rings).length:Int) != p0.Rings) || ((p2.Memory).length:Int) != ((p0.Nodes).length:Int)))=true then (some 4) else (if ((decide (((p2.Choices).length:Int) > 500)) || decide (((p2.Out).length:Int) > 2000))=true then (some 2) else (iter (fun ss_15:Int=>Vea p0 p1 p2 ss_15) 0)))))
noncomputable def move_Ready (p0:Net) (p1:List (List Item)) (p2:State):Option ((List Move) × Int) :=
  (Option.bind (move_Check p0 p1 p2) fun x2=>(if (x2 != 0)=true then (some ([],x2)) else (Option.bind (move_ready p0 p1 p2) fun x4=>(some (x4,0)))))
noncomputable def V0a (p0:List Move) (p1:List Move) (s1:Int):Option (Int ⊕ Bool) :=
  (if (decide (s1<((p0).length:Int)))=true then (Option.bind (idx p0 s1) fun x4=>(Option.bind (idx p1 s1) fun x5=>(if (!(x4==x5))=true then (Option.map Sum.inr (some false)) else (some (.inl (IntKind.i64.wrap (s1+1))))))) else (Option.map Sum.inr (some true)))
noncomputable def Yaa (p0:List Move) (p1:List Move):Option Bool :=
  (if (((p0).length:Int) != ((p1).length:Int))=true then (some false) else (iter (fun ss_6:Int=>V0a p0 p1 ss_6) 0))
noncomputable def move_Do (p0:Net) (p1:List (List Item)) (p2:State) (p3:Move):Option (State × Int) :=
  (Option.bind (move_Check p0 p1 p2) fun x2=>(if (x2 != 0)=true then (some ((⟨[],[],[],[],[]⟩:State),x2)) else (Option.bind (if (decide (p3.Node<0))=true then (some true) else (if (decide (p3.Node ≥ ((p0.Nodes).length:Int)))=true then (some true) else (if (decide (p3.Lane<0))=true then (some true) else (if (decide (p3.Lane > 0))=true then (Option.bind (idx p0.Nodes p3.Node) fun x3=>(if (x3.Kind != 6)=true then (some true) else (Option.bind (idx p0.Nodes p3.Node) fun x4=>(some (decide (p3.Lane ≥ ((x4.In).length:Int))))))) else (some false))))) fun c5=>(if c5=true then (some ((⟨[],[],[],[],[]⟩:State),5)) else (Option.bind (move_can p0 p1 p2 p3) fun x7=>(if (!x7)=true then (some ((⟨[],[],[],[],[]⟩:State),10)) else (Option.bind (move_Copy p2) fun x9=>(Option.bind (Qzb p0 p1 p3 x9.At x9.Rings x9.Memory x9.Choices x9.Out) fun x11=>(some ((⟨x11.1,x11.2.1,x11.2.2.1,x11.2.2.2.1,x11.2.2.2.2⟩:State),0))))))))))
noncomputable def Zza (p0:Net) (p1:List Choice) (s3:Int):Option (Int ⊕ Int) :=
  (if (decide (s3<((p1).length:Int)))=true then (Option.bind (idx p1 s3) fun x5=>(Option.bind (if (decide (x5.Node<0))=true then (some true) else (if (decide (x5.Node ≥ ((p0.Nodes).length:Int)))=true then (some true) else (Option.bind (idx p0.Nodes x5.Node) fun x6=>(some (x6.Kind != 6))))) fun c7=>(if c7=true then (Option.map Sum.inr (some 5)) else (Option.bind (if (decide (x5.Lane<0))=true then (some true) else (Option.bind (idx p0.Nodes x5.Node) fun x8=>(some (decide (x5.Lane ≥ ((x8.In).length:Int)))))) fun c9=>(if c9=true then (Option.map Sum.inr (some 3)) else (some (.inl (IntKind.i64.wrap (s3+1))))))))) else (Option.map Sum.inr (some 0)))
noncomputable def Vua (p0:Net) (p1:List Choice):Option Int :=
  (Option.bind (Yba p0) fun x2=>(if (x2.2 != 0)=true then (some x2.2) else (if (decide (((p1).length:Int) > 500))=true then (some 2) else (iter (fun ss_29:Int=>Zza p0 p1 ss_29) 0))))
def Y0a (p0:List Move):Option (List Move):=app [] p0
noncomputable def V6a (p0:List Choice) (p1:Int) (s1:Int) (s2:Int):Option ((Int × Int) ⊕ Int) :=
  (if (decide (s2<((p0).length:Int)))=true then (Option.bind (idx p0 s2) fun x4=>(if (x4.Node==p1)=true then (some (.inl (IntKind.i64.wrap (s1+1),IntKind.i64.wrap (s2+1)))) else (some (.inl (s1,IntKind.i64.wrap (s2+1)))))) else (Option.map Sum.inr (some s1)))
noncomputable def trail_count (p0:List Choice) (p1:Int):Option Int :=
  (iter (fun ss_5:Int × Int=>V6a p0 p1 ss_5.1 ss_5.2) (0,0))
noncomputable def Vqa (p0:List Choice) (p1:Int) (s1:Int) (s2:Int):Option ((Int × Int) ⊕ Int) :=
  (if (decide (s2<((p0).length:Int)))=true then (Option.bind (idx p0 s2) fun x4=>(if (x4.Node != p1)=true then (some (.inl (s1,IntKind.i64.wrap (s2+1)))) else (if (s1==0)=true then (Option.map Sum.inr (some x4.Lane)) else (some (.inl (IntKind.i64.wrap (s1 - 1),IntKind.i64.wrap (s2+1))))))) else (Option.map Sum.inr (some (-1))))
noncomputable def trail_next (p0:List Choice) (p1:Int) (p2:Int):Option Int :=
  (iter (fun ss_7:Int × Int=>Vqa p0 p1 ss_7.1 ss_7.2) (p2,0))
noncomputable def Z3a (p0:Move) (p1:List Node) (p2:Int) (p3:Int) (p4:List Choice) (p5:List Int) (p6:List (List Item)) (p7:List Memory) (p8:List Choice) (p9:List Item):Option Bool :=
  (Option.bind (if (decide (p0.Node<0))=true then (some true) else (if (decide (p0.Node ≥ ((p1).length:Int)))=true then (some true) else (Option.bind (idx p1 p0.Node) fun x1=>(some (x1.Kind != 6))))) fun c2=>(if c2=true then (some false) else (Option.bind (trail_count p8 p0.Node) fun x5=>(Option.bind (trail_next p4 p0.Node x5) fun x6=>(some ((decide (x6 ≥ 0)) && x6 != p0.Lane))))))
noncomputable def Jba (p0:List Move) (p1:List Node) (p2:Int) (p3:Int) (p4:List Choice) (p5:List Int) (p6:List (List Item)) (p7:List Memory) (p8:List Choice) (p9:List Item) (s1:Int):Option (Int ⊕ Int) :=
  (if (decide (s1<((p0).length:Int)))=true then (Option.bind (ixN p0 s1) fun x5=>(Option.bind ((p0)[x5]?) fun x6=>(Option.bind (Z3a x6 p1 p2 p3 p4 p5 p6 p7 p8 p9) fun x7=>(if x7=true then (Option.map Sum.inr (some s1)) else (some (.inl (IntKind.i64.wrap (s1+1)))))))) else (Option.map Sum.inr (some (-1))))
noncomputable def Jva (p0:List Move) (p1:List Node) (p2:Int) (p3:Int) (p4:List Choice) (p5:List Int) (p6:List (List Item)) (p7:List Memory) (p8:List Choice) (p9:List Item):Option Int :=
  (iter (fun ss_5:Int=>Jba p0 p1 p2 p3 p4 p5 p6 p7 p8 p9 ss_5) 0)
noncomputable def Q2a (p1:List Node) (p2:Int) (p3:Int) (p4:List Choice) (p5:List Int) (p6:List (List Item)) (p7:List Memory) (p8:List Choice) (p9:List Item) (s3:Int) (s4:Int) (s5:List Move):Option ((Int × Int × (List Move)) ⊕ (List Move)) :=
  (if (decide (s4<((s5).length:Int)))=true then (Option.bind (ixN s5 s4) fun x8=>(Option.bind ((s5)[x8]?) fun x9=>(Option.bind (Z3a x9 p1 p2 p3 p4 p5 p6 p7 p8 p9) fun x11=>(if (!x11)=true then (Option.bind (ixN s5 s3) fun x14=>(Option.bind ((s5)[x14]?) fun x15=>(some (.inl (IntKind.i64.wrap (s3+1),IntKind.i64.wrap (s4+1),(List.set s5 x14 x9)))))) else (some (.inl (s3,IntKind.i64.wrap (s4+1),s5))))))) else (Option.map Sum.inr (Option.bind (vwok (s5).length s3 ((s5).length:Int)) fun x18=>(Option.bind (vwok (s5).length ((s3).toNat:Nat) (((s3).toNat:Nat)+(((((s5).length:Int)).toNat - (s3).toNat):Nat))) fun x19=>(Option.bind (sub (clr s5 ((s3).toNat) ((((s5).length:Int)).toNat - (s3).toNat) (⟨0,0⟩:Move)) 0 s3) fun x21=>(some x21))))))
noncomputable def Zda (p0:List Move) (p1:List Node) (p2:Int) (p3:Int) (p4:List Choice) (p5:List Int) (p6:List (List Item)) (p7:List Memory) (p8:List Choice) (p9:List Item):Option (List Move) :=
  (Option.bind (Jva p0 p1 p2 p3 p4 p5 p6 p7 p8 p9) fun x2=>(if (x2==(-1))=true then (some p0) else (iter (fun ss_6:Int × Int × (List Move)=>Q2a p1 p2 p3 p4 p5 p6 p7 p8 p9 ss_6.1 ss_6.2.1 ss_6.2.2) (x2,IntKind.i64.wrap (x2+1),p0))))
noncomputable def Z5a (p0:Net) (p1:State) (p2:List Choice) (p3:List Move):Option (List Move) :=
  (Option.bind (Y0a p3) fun x3=>(Option.bind (Zda x3 p0.Nodes p0.Rings p0.Room p2 p1.At p1.Rings p1.Memory p1.Choices p1.Out) fun x4=>(some x4)))
noncomputable def Jdb (p0:Net) (p1:List Choice) (s3:Int):Option (Int ⊕ Int) :=
  (if (decide (s3<((p1).length:Int)))=true then (Option.bind (idx p1 s3) fun x5=>(Option.bind (if (decide (x5.Node<0))=true then (some true) else (if (decide (x5.Node ≥ ((p0.Nodes).length:Int)))=true then (some true) else (Option.bind (idx p0.Nodes x5.Node) fun x6=>(some (x6.Kind != 6))))) fun c7=>(if c7=true then (Option.map Sum.inr (some 5)) else (Option.bind (if (decide (x5.Lane<0))=true then (some true) else (Option.bind (idx p0.Nodes x5.Node) fun x8=>(some (decide (x5.Lane ≥ ((x8.In).length:Int)))))) fun c9=>(if c9=true then (Option.map Sum.inr (some 3)) else (some (.inl (IntKind.i64.wrap (s3+1))))))))) else (Option.map Sum.inr (some 0)))
noncomputable def trail_Check (p0:Net) (p1:List Choice):Option Int :=
  (Option.bind (net_Check p0) fun x2=>(if (x2 != 0)=true then (some x2) else (if (decide (((p1).length:Int) > 500))=true then (some 2) else (iter (fun ss_29:Int=>Jdb p0 p1 ss_29) 0))))
noncomputable def Vsa (p0:Net) (p1:List (List Item)) (p2:List Choice) (p3:List Int) (s5:Int) (s6:List Int) (s7:List (List Item)) (s8:List Memory) (s9:List Choice) (s10:List Item):Option ((Int × (List Int) × (List (List Item)) × (List Memory) × (List Choice) × (List Item)) ⊕ (State × Int)) :=
  (if (decide (s5<((p3).length:Int)))=true then (Option.bind (idx p3 s5) fun x12=>(Option.bind (move_Ready p0 p1 (⟨s6,s7,s8,s9,s10⟩:State)) fun x14=>(Option.bind (Z5a p0 (⟨s6,s7,s8,s9,s10⟩:State) p2 x14.1) fun x16=>(if (((x16).length:Int)==0)=true then (Option.map Sum.inr (some ((⟨s6,s7,s8,s9,s10⟩:State),0))) else (Option.bind (rem x12 ((x16).length:Int)) fun x17=>(Option.bind (rem (IntKind.i64.wrap (x17+((x16).length:Int))) ((x16).length:Int)) fun x18=>(Option.bind (ixN x16 x18) fun x19=>(Option.bind ((x16)[x19]?) fun x20=>(Option.bind (move_Do p0 p1 (⟨s6,s7,s8,s9,s10⟩:State) x20) fun x21=>(some (.inl (IntKind.i64.wrap (s5+1),x21.1.At,x21.1.Rings,x21.1.Memory,x21.1.Choices,x21.1.Out)))))))))))) else (Option.map Sum.inr (some ((⟨s6,s7,s8,s9,s10⟩:State),0))))
noncomputable def trail_Play (p0:Net) (p1:List (List Item)) (p2:List Choice) (p3:List Int):Option (State × Int) :=
  (Option.bind (move_Start p0 p1) fun x2=>(if (x2.2 != 0)=true then (some ((⟨[],[],[],[],[]⟩:State),x2.2)) else (Option.bind (trail_Check p0 p2) fun x4=>(if (x4 != 0)=true then (some ((⟨[],[],[],[],[]⟩:State),x4)) else (if (decide (((p3).length:Int) > 2000))=true then (some ((⟨[],[],[],[],[]⟩:State),2)) else (iter (fun ss_18:Int × (List Int) × (List (List Item)) × (List Memory) × (List Choice) × (List Item)=>Vsa p0 p1 p2 p3 ss_18.1 ss_18.2.1 ss_18.2.2.1 ss_18.2.2.2.1 ss_18.2.2.2.2.1 ss_18.2.2.2.2.2) (0,x2.1.At,x2.1.Rings,x2.1.Memory,x2.1.Choices,x2.1.Out)))))))
noncomputable def V5a (p1:List Choice) (s5:Int) (s6:List (Bool × List Int)):Option ((Int × (List (Bool × List Int))) ⊕ ((List (List Int)) × Int)) :=
  (if (decide (s5<((p1).length:Int)))=true then (Option.bind (idx p1 s5) fun x8=>(Option.bind (ixN s6 x8.Node) fun x9=>(Option.bind (atc s6 x9) fun x10=>(Option.bind (owc s6 x9) fun x11=>(Option.bind (app x11 [x8.Lane]) fun x12=>(some (.inl (IntKind.i64.wrap (s5+1),(own s6 x9 x12))))))))) else (Option.map Sum.inr (some ((List.map Prod.snd s6),0))))
noncomputable def trail_Lanes (p0:Net) (p1:List Choice):Option ((List (List Int)) × Int) :=
  (Option.bind (trail_Check p0 p1) fun x2=>(if (x2 != 0)=true then (some ([],x2)) else (Option.bind (mk ((p0.Nodes).length:Int) (false,([]:List Int))) fun x4=>(iter (fun ss_20:Int × (List (Bool × List Int))=>V5a p1 ss_20.1 ss_20.2) (0,x4)))))
noncomputable def Yja:Option Bool :=
  (Option.bind Qhb fun x7=>(Option.bind crosslaw_two fun x8=>(Option.bind (trail_Play x7 x8 ([(⟨2,1⟩:Choice)]:List Choice) ([0,0,0,0,0,0]:List Int)) fun x12=>(Option.bind Qhb fun x15=>(Option.bind (trail_Lanes x15 x12.1.Choices) fun x16=>(Option.bind (if (x12.2==0)=true then (if (x16.2==0)=true then (if (((x16.1).length:Int)==4)=true then (Option.bind (idx x16.1 2) fun x17=>(Option.bind (Qgb x17 ([1,0]:List Int)) fun x18=>(if x18=true then (some (((x12.1.Out).length:Int)==2)) else (some false)))) else (some false)) else (some false)) else (some false)) fun c19=>(some c19)))))))
noncomputable def Ypa (p0:Net) (p1:List (List Item)) (p2:State) (p3:List Choice):Option Bool :=
  (Option.bind (Yca p0 p1 p2) fun x1=>(Option.bind (if (x1 != 0)=true then (some true) else (Option.bind (Vua p0 p3) fun x2=>(some (x2 != 0)))) fun c3=>(if c3=true then (Option.bind (Z5a p0 p2 p3 ([]:List Move)) fun x5=>(Option.bind Yja fun x7=>(some x7))) else (Option.bind (Q9b p0 p1 p2) fun x9=>(Option.bind Yja fun x10=>(Option.bind (if x10=true then (Option.bind (Z5a p0 p2 p3 x9) fun x11=>(Option.bind (Yna p0 p2 p3 x9) fun x12=>(Option.bind (Yaa x11 x12) fun x13=>(some x13)))) else (some false)) fun c14=>(some c14)))))))
end Go.Proofs.YtfbmoockopakjaaGreat
namespace Go.Proofs.YtfbmoockopakjaaGreat
open Go.RowKit
set_option linter.unusedVariables false
set_option linter.unusedSimpArgs false
inductive TI where
  | no
  | s0
  | sc (z:AV)
  | it (k:IntKind)
  | bo
  | str
  | sl (e c:Nat)
  | ag (z:List AV) (m:Nat) (fs:List (Nat × Nat × Nat))
  | ar (z:List AV) (m:Nat)
inductive TT where
  | l (t:Nat) (i:TI)
  | n (k:Nat) (a b:TT)
def TT.get:TT→Nat→TI
  | .l t i,u=>match Nat.beq t u with
    | true=>i
    | false=>.no
  | .n k a b,u=>match Nat.blt u k with
    | true=>a.get u
    | false=>b.get u
def TI.zero:TI→Option (List AV)
  | .sc z=>some [z]
  | .it k=>some [.int k 0]
  | .bo=>some [.bool false]
  | .str=>some [.str []]
  | .sl _ _=>some [.nils]
  | .ag z _ _=>some z
  | .ar z _=>some z
  | _=>none
def TI.size:TI→Option Nat
  | .no=>none
  | .ag _ m _=>some m
  | .ar _ m=>some m
  | _=>some 1
def TOne (P:Program) (t:Nat):Prop:=kindT P t=some false∧P.cellsOf t=1∧(P.underlying t).isSome=true
def FsOk (P:Program) (t:Nat):Nat→List (Nat × Nat × Nat)→Prop
  | _,[]=>True
  | k,(o,_,ft)::r=>FieldAt P t k ft o∧FsOk P t (k+1) r
def TAgg (P:Program) (t:Nat) (z:List AV) (m:Nat):Prop:=kindT P t=some true∧P.cellsOf t=m∧(P.underlying t).isSome=true∧Q3a P t=some z∧z.length=m
def TOk (P:Program) (t:Nat):TI→Prop
  | .no=>True
  | .s0=>TOne P t
  | .sc z=>TOne P t∧Q3a P t=some [z]
  | .it k=>TOne P t∧Q3a P t=some [.int k 0]∧P.underlying t=some (.int k)
  | .bo=>TOne P t∧Q3a P t=some [.bool false]∧P.underlying t=some .bool
  | .str=>TOne P t∧Q3a P t=some [.str []]∧P.underlying t=some .string
  | .sl e c=>TOne P t∧Q3a P t=some [.nils]∧SliceOf P t e c
  | .ag z m fs=>TAgg P t z m∧Yfa P t=some (fs.map fun q=>(q.1,q.2.1))∧FsOk P t 0 fs
  | .ar z m=>TAgg P t z m
def TT.Ok (P:Program):TT→Prop
  | .l t i=>TOk P t i
  | .n _ a b=>a.Ok P∧b.Ok P
section
variable {P:Program} {N n:Nat} {aw aw':List Ob} {l:List (Nat × AV)} {tt:TT}
theorem TT.get_ok:∀ {tt:TT},tt.Ok P→∀ u,TOk P u (tt.get u)
  | .l t i,h,u=>by
    show TOk P u (match Nat.beq t u with | true=>i | false=>.no)
    cases hb:Nat.beq t u
    · trivial
    · have:=Nat.eq_of_beq_eq_true hb;subst this;exact h
  | .n k a b,h,u=>by
    show TOk P u (match Nat.blt u k with | true=>a.get u | false=>b.get u)
    cases Nat.blt u k
    · exact TT.get_ok h.2 u
    · exact TT.get_ok h.1 u
theorem TI.zero_ok {t:Nat} {i:TI} {z:List AV} (h:TOk P t i) (hz:i.zero=some z):Q3a P t=some z:=by
  cases i<;>simp only [TI.zero] at hz<;>first | (cases hz;done) | (cases hz;first | exact h.2 | exact h.2.1 | exact h.1.2.2.2.1 | exact h.2.2.2.1)
theorem TI.size_ok {t m:Nat} {i:TI} (h:TOk P t i) (hm:i.size=some m):P.cellsOf t=m∧(P.underlying t).isSome=true:=by
  cases i<;>simp only [TI.size] at hm<;>first | (cases hm;done) | (cases hm;first | exact ⟨h.2.1,h.2.2⟩ | exact ⟨h.1.2.1,h.1.2.2.1⟩ | exact ⟨h.1.2.1,h.1.2.2⟩ | exact ⟨h.2.1,h.2.2.1⟩)
theorem fs_get {t:Nat}:∀ {fs:List (Nat × Nat × Nat)} {k i:Nat} {q:Nat × Nat × Nat},FsOk P t k fs→fs[i]?=some q→FieldAt P t (k+i) q.2.2 q.1
  | q'::r,k,0,q,h,e=>by simp at e;subst e;exact h.1
  | q'::r,k,i+1,q,h,e=>by
    have:=fs_get (k:=k+1) (i:=i) h.2 (by simpa using e)
    rwa [show k+1+i=k+(i+1) by omega] at this
  | [],k,i,q,h,e=>by simp at e
section
variable {α:Type}
def getC:List α→Nat→(α→Prop)→Prop
  | [],_,_=>False
  | a::l,k,K=>match k with
    | 0=>K a
    | k+1=>getC l k K
def setC:List α→Nat→α→(List α→Prop)→Prop
  | [],_,_,_=>False
  | a::l,k,b,K=>match k with
    | 0=>K (b::l)
    | k+1=>setC l k b fun l=>K (a::l)
def pushC:List α→α→(List α→Prop)→Prop
  | [],b,K=>K [b]
  | a::l,b,K=>pushC l b fun l=>K (a::l)
def lenC:List α→Nat→Prop→Prop
  | [],k,K=>match k with
    | 0=>K
    | _+1=>False
  | _::l,k,K=>match k with
    | 0=>False
    | k+1=>lenC l k K
def dropC:List α→Nat→(List α→Prop)→Prop
  | l,0,K=>K l
  | [],_+1,_=>False
  | _::l,k+1,K=>dropC l k K
def takeC:List α→Nat→(List α→Prop)→Prop
  | _,0,K=>K []
  | [],_+1,_=>False
  | a::l,k+1,K=>takeC l k fun l=>K (a::l)
def overC:List α→List α→(List α→Prop)→Prop
  | l,[],K=>K l
  | [],_::_,_=>False
  | _::l,b::bs,K=>overC l bs fun l=>K (b::l)
def splC:List α→Nat→List α→(List α→Prop)→Prop
  | l,0,bs,K=>overC l bs K
  | [],_+1,_,_=>False
  | a::l,k+1,bs,K=>splC l k bs fun l=>K (a::l)
def lenB:List α→Nat→Bool
  | [],k=>(match k with
    | 0=>true
    | _+1=>false)
  | _::l,k=>(match k with
    | 0=>false
    | k+1=>lenB l k)
def sameB:List α→List α→Bool
  | [],[]=>true
  | _::l,_::m=>sameB l m
  | _,_=>false
def aggC (row:List α) (off m:Nat) (K:List α→Prop):Prop :=
  match off with
  | 0=>(match lenB row m with
    | true=>K row
    | false=>takeC row m K)
  | off=>dropC row off fun r=>takeC r m K
def putC (l:List α) (off:Nat) (bs:List α) (K:List α→Prop):Prop :=
  match off with
  | 0=>(match sameB l bs with
    | true=>K bs
    | false=>splC l 0 bs K)
  | off=>splC l off bs K
theorem lenB_ok:∀ {l:List α} {k:Nat},lenB l k=true→l.length=k
  | [],0,_=>rfl
  | [],_+1,h=>by cases h
  | _::_,0,h=>by cases h
  | _::l,k+1,h=>by have:=lenB_ok (l:=l) (k:=k) h;simp [this]
theorem sameB_ok:∀ {l m:List α},sameB l m=true→l.length=m.length
  | [],[],_=>rfl
  | [],_::_,h=>by cases h
  | _::_,[],h=>by cases h
  | _::l,_::m,h=>by have:=sameB_ok (l:=l) (m:=m) h;simp [this]
theorem Vna:∀ {l:List α} {k:Nat} {K:α→Prop},getC l k K→∃ a,l[k]?=some a∧K a
  | [],_,_,h=>h.elim
  | a::l,0,K,h=>⟨a,rfl,h⟩
  | a::l,k+1,K,h=>by obtain ⟨b,h1,h2⟩:=Vna (l:=l) (k:=k) (K:=K) h;exact ⟨b,by simpa using h1,h2⟩
theorem setC_ok:∀ {l:List α} {k:Nat} {b:α} {K:List α→Prop},setC l k b K→K (l.set k b)
  | [],_,_,_,h=>h.elim
  | a::l,0,b,K,h=>h
  | a::l,k+1,b,K,h=>setC_ok (l:=l) (k:=k) (K:=fun l=>K (a::l)) h
theorem pushC_ok:∀ {l:List α} {b:α} {K:List α→Prop},pushC l b K→K (l++[b])
  | [],_,_,h=>h
  | a::l,b,K,h=>pushC_ok (l:=l) (K:=fun l=>K (a::l)) h
theorem lenC_ok:∀ {l:List α} {k:Nat} {K:Prop},lenC l k K→l.length=k∧K
  | [],0,K,h=>⟨rfl,h⟩
  | [],_+1,_,h=>h.elim
  | _::_,0,_,h=>h.elim
  | _::l,k+1,K,h=>by have:=lenC_ok (l:=l) (k:=k) (K:=K) h;exact ⟨by simp [this.1],this.2⟩
theorem dropC_ok:∀ {l:List α} {k:Nat} {K:List α→Prop},dropC l k K→k≤l.length∧K (l.drop k)
  | l,0,K,h=>⟨Nat.zero_le _,by cases l<;>exact h⟩
  | [],_+1,_,h=>h.elim
  | _::l,k+1,K,h=>by have:=dropC_ok (l:=l) (k:=k) (K:=K) h;exact ⟨by simp [this.1],by simpa using this.2⟩
theorem takeC_ok:∀ {l:List α} {k:Nat} {K:List α→Prop},takeC l k K→k≤l.length∧K (l.take k)
  | l,0,K,h=>⟨Nat.zero_le _,by cases l<;>exact h⟩
  | [],_+1,_,h=>h.elim
  | a::l,k+1,K,h=>by have:=takeC_ok (l:=l) (k:=k) (K:=fun l=>K (a::l)) h;exact ⟨by simp [this.1],by simpa using this.2⟩
theorem overC_ok:∀ {l bs:List α} {K:List α→Prop},overC l bs K→bs.length≤l.length∧K (bs++l.drop bs.length)
  | l,[],K,h=>⟨Nat.zero_le _,by cases l<;>exact h⟩
  | [],_::_,_,h=>h.elim
  | _::l,b::bs,K,h=>by have:=overC_ok (l:=l) (bs:=bs) (K:=fun l=>K (b::l)) h;exact ⟨by simp [this.1],by simpa using this.2⟩
theorem splC_ok:∀ {l:List α} {k:Nat} {bs:List α} {K:List α→Prop},splC l k bs K→k+bs.length≤l.length∧K (l.take k++bs++l.drop (k+bs.length))
  | l,0,bs,K,h=>by have:=overC_ok (l:=l) (bs:=bs) (K:=K) (by cases l<;>exact h);exact ⟨by omega,by simpa using this.2⟩
  | [],_+1,_,_,h=>h.elim
  | a::l,k+1,bs,K,h=>by
    have:=splC_ok (l:=l) (k:=k) (bs:=bs) (K:=fun l=>K (a::l)) h
    refine ⟨by simp;omega,?_⟩
    rw [show k+1+bs.length=(k+bs.length)+1 by omega]
    simpa using this.2
theorem aggC_ok {row:List α} {off m:Nat} {K:List α→Prop} (h:aggC row off m K):off+m≤row.length∧K ((row.drop off).take m):=by
  have key:∀ {o:Nat},(dropC row o fun r=>takeC r m K)→o+m≤row.length∧K ((row.drop o).take m):=fun {o} h=>by
    obtain ⟨h1,h2⟩:=dropC_ok h
    obtain ⟨h3,h4⟩:=takeC_ok h2
    exact ⟨by rw [List.length_drop] at h3;omega,h4⟩
  unfold aggC at h
  split at h
  · split at h
    · rename_i hb
      have:=lenB_ok hb
      subst this
      exact ⟨by omega,by simpa using h⟩
    · obtain ⟨h3,h4⟩:=takeC_ok h
      exact ⟨by omega,by simpa using h4⟩
  · exact key h
theorem putC_ok {l:List α} {k:Nat} {bs:List α} {K:List α→Prop} (h:putC l k bs K):k+bs.length≤l.length∧K (l.take k++bs++l.drop (k+bs.length)):=by
  unfold putC at h
  split at h
  · split at h
    · rename_i hb
      have:=sameB_ok hb
      exact ⟨by omega,by rw [Nat.zero_add,← this];simpa using h⟩
    · exact splC_ok h
  · exact splC_ok h
end
def fA (a:AV) (K:AV→Prop):Prop :=
  match a with
  | .any=>K .any
  | .int k n=>K (.int k n)
  | .bool b=>K (.bool b)
  | .str s=>K (.str s)
  | .agg cs=>K (.agg cs)
  | .tup vs=>K (.tup vs)
  | .nils=>K .nils
  | .sl rows=>K (.sl rows)
  | .ref id=>K (.ref id)
  | .ptr id off=>K (.ptr id off)
  | .elt row off=>K (.elt row off)
  | .aptr id size i off=>K (.aptr id size i off)
  | .func f caps=>K (.func f caps)
  | .nilf=>K .nilf
  | .nilp=>K .nilp
  | .nili=>K .nili
  | .mpr id=>K (.mpr id)
  | .ifc t a=>K (.ifc t a)
  | .cst v=>K (.cst v)
  | .vw id size lo n cap=>K (.vw id size lo n cap)
  | .ref2 id=>K (.ref2 id)
  | .aptr2 id i=>K (.aptr2 id i)
  | .iref id i=>K (.iref id i)
theorem fA_ok {a:AV} {K:AV→Prop} (h:fA a K):K a:=by cases a<;>exact h
def cellsC (a:AV) (K:List AV→Prop):Prop :=
  match a with
  | .any | .tup _ | .cst _=>False
  | .agg cs=>K cs
  | a=>fA a fun a=>K [a]
theorem cellsC_ok {a:AV} {K:List AV→Prop} (h:cellsC a K):∃ cs,a.cells=some cs∧K cs:=by
  cases a<;>first | exact h.elim | exact ⟨_,rfl,h⟩
def evsC (n:Nat) (l:List (Nat × AV)):List Operand→(List AV→Prop)→Prop
  | [],K=>K []
  | x::xs,K=>fA (evA n l x) fun a=>evsC n l xs fun as₀=>K (a::as₀)
theorem evsC_ok:∀ {xs:List Operand} {K:List AV→Prop},evsC n l xs K→K (xs.map (evA n l))
  | [],K,h=>h
  | x::xs,K,h=>evsC_ok (xs:=xs) (K:=fun as₀=>K (evA n l x::as₀)) (fA_ok (a:=evA n l x) (K:=fun a=>evsC n l xs fun as₀=>K (a::as₀)) h)
def ikN:IntKind→Nat
  | .i8=>0
  | .i16=>1
  | .i32=>2
  | .i64=>3
  | .u8=>4
  | .u16=>5
  | .u32=>6
  | .u64=>7
theorem ikN_eq {a b:IntKind} (h:Nat.beq (ikN a) (ikN b)=true):a=b:=by cases a<;>cases b<;>first | rfl | cases h
def wLd (i:TI) (row:List AV) (off:Nat) (K:AV→Prop):Prop :=
  match i with
  | .no=>False
  | .ag _ m _=>aggC row off m fun cs=>K (.agg cs)
  | .ar _ m=>aggC row off m fun cs=>K (.agg cs)
  | _=>getC row off fun c=>fA c K
theorem ldA {t m:Nat} {row:List AV} {off:Nat} {K:AV→Prop} (hk:kindT P t=some true) (hm:P.cellsOf t=m) (h:aggC row off m fun cs=>K (.agg cs)):Zxa P t row off K:=by
  obtain ⟨h1,h2⟩:=aggC_ok h
  simp only [Zxa,hk,hm]
  exact ⟨h1,h2⟩
theorem ld1 {t:Nat} {row:List AV} {off:Nat} {K:AV→Prop} (hk:kindT P t=some false) (h:getC row off fun c=>fA c K):Zxa P t row off K:=by
  obtain ⟨c,h1,h2⟩:=Vna h
  exact Jra hk h1 (fA_ok h2)
theorem wLd_ok {t:Nat} {i:TI} {row:List AV} {off:Nat} {K:AV→Prop} (ht:TOk P t i) (h:wLd i row off K):Zxa P t row off K:=by
  cases i with
  | no=>exact h.elim
  | ag z m fs=>exact ldA ht.1.1 ht.1.2.1 h
  | ar z m=>exact ldA ht.1 ht.2.1 h
  | s0=>exact ld1 ht.1 h
  | _=>exact ld1 ht.1.1 h
def wBin (tt:TT) (op:BinOp) (t:Nat) (a b:AV) (K:AV→Prop):Prop :=
  match a,b with
  | .int k x,.int k' y=>(match Nat.beq (ikN k) (ikN k') with
    | true=>(match op with
      | .add=>K (.int k (k.wrap (x+y)))
      | .sub=>K (.int k (k.wrap (x - y)))
      | .mul=>K (.int k (k.wrap (x*y)))
      | .and=>K (.int k (intBits .and k x y))
      | .or=>K (.int k (intBits .or k x y))
      | .xor=>K (.int k (intBits .xor k x y))
      | .eql=>K (.bool (x==y))
      | .neq=>K (.bool (x != y))
      | .lss=>K (.bool (decide (x<y)))
      | .leq=>K (.bool (decide (x≤y)))
      | .gtr=>K (.bool (decide (x > y)))
      | .geq=>K (.bool (decide (x ≥ y)))
      | _=>False)
    | false=>False)
  | .str x,.str y=>(match op with
    | .eql=>K (.bool (x==y))
    | .neq=>K (.bool (!(x==y)))
    | _=>False)
  | .bool x,.bool y=>(match tt.get t with
    | .bo=>(match op with
      | .eql=>K (.bool (x==y))
      | .neq=>K (.bool (!(x==y)))
      | _=>False)
    | _=>False)
  | _,_=>False
theorem wBin_ok {op:BinOp} {t:Nat} {a b:AV} {K:AV→Prop} (ht:tt.Ok P) (h:wBin tt op t a b K):vcBin P op t a b K:=by
  unfold wBin at h
  split at h
  · split at h
    · rename_i hk
      have:=ikN_eq hk
      subst this
      split at h<;>first | exact ⟨trivial,h⟩ | exact ⟨rfl,h⟩ | exact h.elim
    · exact h.elim
  · split at h<;>first | exact h.elim | exact h
  · split at h
    · rename_i hb
      have hu:=TT.get_ok ht t
      rw [hb] at hu
      have hu:=hu.2.2
      split at h<;>first | exact h.elim | (simp only [vcBin,hu];exact h)
    · exact h.elim
  · exact h.elim
def fillC (n:Nat) (l:List (Nat × AV)) (fs:List (Nat × Nat × Nat)):List AV→List (Nat × Operand)→(List AV→Prop)→Prop
  | cells,[],K=>K cells
  | cells,(i,x)::ps,K=>getC fs i fun (o,sz,_)=>cellsC (evA n l x) fun vs=>lenC vs sz (splC cells o vs fun cs=>fillC n l fs cs ps K)
theorem fillC_ok {fs:List (Nat × Nat × Nat)}:∀ {ps:List (Nat × Operand)} {cells:List AV} {K:List AV→Prop},fillC n l fs cells ps K →
    ∃ cs,fillAV (fun i=>(fs.map fun q=>(q.1,q.2.1))[i]?) cells (ps.map fun p=>(p.1,evA n l p.2))=some cs∧K cs
  | [],cells,K,h=>⟨cells,rfl,by cases cells<;>exact h⟩
  | (i,x)::ps,cells,K,h=>by
    have h:getC fs i fun q=>cellsC (evA n l x) fun vs=>lenC vs q.2.1 (splC cells q.1 vs fun cs=>fillC n l fs cs ps K):=by cases cells<;>exact h
    obtain ⟨q,h1,h⟩:=Vna h
    obtain ⟨vs,h2,h⟩:=cellsC_ok h
    obtain ⟨h3,h⟩:=lenC_ok h
    obtain ⟨h4,h⟩:=splC_ok h
    obtain ⟨cs,h5,h6⟩:=fillC_ok h
    refine ⟨cs,?_,h6⟩
    show fillAV _ cells ((i,evA n l x)::ps.map fun p=>(p.1,evA n l p.2))=_
    have e1:(fs.map fun q=>(q.1,q.2.1))[i]?=some (q.1,q.2.1):=by rw [List.getElem?_map,h1];rfl
    unfold fillAV
    simp only [e1,h2]
    rw [if_pos ⟨h3,by omega⟩]
    exact h5
def wB (tt:TT) (n:Nat) (l:List (Nat × AV)) (b:Builtin) (args:List Operand) (ats:List TypeId) (K:AV→Prop):Prop :=
  match b,args,ats with
  | .len,[x],[t]=>(match tt.get t,evA n l x with
    | .str,.str s=>K (.int .i64 s.length)
    | .sl _ _,.nils=>K (.int .i64 0)
    | _,_=>False)
  | .min,[x,y],_=>(match evA n l x,evA n l y with
    | .int k a,.int _ b=>K (.int k (if b<a then b else a))
    | _,_=>False)
  | .max,[x,y],_=>(match evA n l x,evA n l y with
    | .int k a,.int _ b=>K (.int k (if b > a then b else a))
    | _,_=>False)
  | _,_,_=>False
theorem wB_ok {b:Builtin} {args:List Operand} {ats:List TypeId} {K:AV→Prop} (ht:tt.Ok P) (h:wB tt n l b args ats K):vcB P (mkA n l) aw b args ats K:=by
  unfold wB at h
  split at h
  · rename_i x t
    have hu:=TT.get_ok ht t
    split at h
    · rename_i s h1 h2
      rw [h1] at hu
      simp only [vcB,Q1a,hu.2.2,h2];exact h
    · rename_i e c h1 h2
      rw [h1] at hu
      simp only [vcB,Q1a,hu.2.2.u,h2];exact h
    · exact h.elim
  · split at h
    · rename_i h1 h2
      simp only [vcB,Q1a,h1,h2];exact h
    · exact h.elim
  · split at h
    · rename_i h1 h2
      simp only [vcB,Q1a,h1,h2];exact h
    · exact h.elim
  · exact h.elim
def wV (tt:TT) (n:Nat) (l:List (Nat × AV)) (aw:List Ob) (op:Op) (K:AV→Prop):Prop :=
  match op with
  | .move x=>fA (evA n l x) K
  | .assign x=>fA (evA n l x) K
  | .pick c a b=>(match evA n l c,evA n l a,evA n l b with
    | .bool t,.bool x,.bool y=>K (.bool (if t then x else y))
    | .bool t,.int k x,.int k' y=>(match Nat.beq (ikN k) (ikN k') with
      | true=>K (.int k (if t then x else y))
      | false=>False)
    | _,_,_=>False)
  | .load t x=>(match evA n l x with
    | .ptr id off=>getC aw id fun o=>(match o with
      | .box cs=>wLd (tt.get t) cs off K
      | _=>False)
    | .elt row off=>wLd (tt.get t) row off K
    | _=>False)
  | .fieldAddr t x k=>(match tt.get t with
    | .ag _ _ fs=>getC fs k fun (o,_,_)=>(match evA n l x with
      | .ptr id off=>K (.ptr id (off+o))
      | .elt row off=>K (.elt row (off+o))
      | .aptr id s i off=>K (.aptr id s i (off+o))
      | _=>False)
    | _=>False)
  | .field t x k=>(match tt.get t,evA n l x with
    | .ag _ _ fs,.agg cs=>getC fs k fun (o,_,ft)=>wLd (tt.get ft) cs o K
    | _,_=>False)
  | .binOp op t x y _=>wBin tt op t (evA n l x) (evA n l y) K
  | .unOp op _ x=>(match op,evA n l x with
    | .not,.bool b=>K (.bool (!b))
    | .neg,.int k a=>K (.int k (k.wrap (0 - a)))
    | _,_=>False)
  | .convert s t x=>(match evA n l x with
    | .int _ a=>(match tt.get s,tt.get t with
      | .it _,.it k=>K (.int k (k.wrap a))
      | _,_=>False)
    | _=>False)
  | .makeFunc (.func f) first caps=>(match first.toList with
    | []=>evsC n l caps.toList fun cs=>K (.func f cs)
    | _=>False)
  | .build t parts=>(match tt.get t with
    | .ag z _ fs=>fillC n l fs z parts.toList fun cs=>K (.agg cs)
    | _=>False)
  | .extract x k=>(match evA n l x with
    | .tup vs=>getC vs k fun v=>fA v K
    | _=>False)
  | .nilCheck x=>(match evA n l x with
    | .ptr id off=>K (.ptr id off)
    | .elt row off=>K (.elt row off)
    | .aptr id s i off=>K (.aptr id s i off)
    | .func f cs=>K (.func f cs)
    | _=>False)
  | .call c=>(match c.callee with
    | .builtin b=>wB tt n l b c.args.toList c.argTypes.toList K
    | _=>False)
  | _=>False
theorem wV_ok {op:Op} {K:AV→Prop} (ht:tt.Ok P) (h:wV tt n l aw op K):vcQ P (mkA n l) aw op K:=by
  cases op with
  | move x=>exact v_move rfl (fA_ok h)
  | assign x=>exact Vba rfl (fA_ok h)
  | pick c a b =>
    simp only [wV] at h
    split at h
    · rename_i h1 h2 h3
      exact v_pick h1 (by rw [h2,h3];rfl) h
    · rename_i h1 h2 h3
      split at h
      · rename_i hk
        have:=ikN_eq hk
        subst this
        exact v_pick h1 (by rw [h2,h3];simp only [pickV,if_true]) h
      · exact h.elim
    · exact h.elim
  | load t x =>
    simp only [wV] at h
    split at h
    · rename_i h1
      obtain ⟨o,h2,h⟩:=Vna h
      split at h
      · exact v_load_ptr h1 h2 (wLd_ok (TT.get_ok ht t) h)
      · exact h.elim
    · rename_i h1
      exact v_load_elt h1 (wLd_ok (TT.get_ok ht t) h)
    · exact h.elim
  | fieldAddr t x k =>
    simp only [wV] at h
    have hu:=TT.get_ok ht t
    split at h
    · rename_i z m fs h0
      rw [h0] at hu
      obtain ⟨q,h1,h⟩:=Vna h
      have hF:=fs_get hu.2.2 h1
      rw [Nat.zero_add] at hF
      split at h
      · rename_i h2;exact v_fieldAddr_ptr hF h2 rfl h
      · rename_i h2;exact v_fieldAddr_elt hF h2 rfl h
      · rename_i h2;exact v_fieldAddr_aptr hF h2 rfl h
      · exact h.elim
    · exact h.elim
  | field t x k =>
    simp only [wV] at h
    have hu:=TT.get_ok ht t
    split at h
    · rename_i z m fs cs h0 h2
      rw [h0] at hu
      obtain ⟨q,h1,h⟩:=Vna h
      have hF:=fs_get hu.2.2 h1
      rw [Nat.zero_add] at hF
      exact v_field hF h2 (wLd_ok (TT.get_ok ht _) h)
    · exact h.elim
  | binOp op t x y yt =>
    have:=wBin_ok ht h
    simp only [vcQ,Q1a];exact this
  | unOp op t x =>
    simp only [wV] at h
    split at h
    · rename_i h1;exact v_not h1 h
    · rename_i h1;exact v_neg h1 h
    · exact h.elim
  | convert s t x =>
    simp only [wV] at h
    split at h
    · rename_i h1
      have hu:=TT.get_ok ht t
      have hs:=TT.get_ok ht s
      split at h
      · rename_i h2 h3
        rw [h2] at hs
        rw [h3] at hu
        exact v_conv hs.2.2 hu.2.2 h1 h
      · exact h.elim
    · exact h.elim
  | makeFunc f first caps =>
    cases f with
    | func f =>
      simp only [wV] at h
      split at h
      · rename_i h1
        have:first=#[]:=by cases first;simp at h1;subst h1;rfl
        subst this
        exact v_makeFunc rfl (evsC_ok h)
      · exact h.elim
    | _=>exact h.elim
  | build t parts =>
    simp only [wV] at h
    have hu:=TT.get_ok ht t
    split at h
    · rename_i z m fs h0
      rw [h0] at hu
      obtain ⟨cs,h1,h2⟩:=fillC_ok h
      exact v_build hu.1.2.2.2.1 hu.2.1 h1 h2
    · exact h.elim
  | extract x k =>
    simp only [wV] at h
    split at h
    · rename_i h1
      obtain ⟨v,h2,h⟩:=Vna h
      exact v_extract h1 h2 (fA_ok h)
    · exact h.elim
  | nilCheck x =>
    simp only [wV] at h
    split at h
    · rename_i h1;exact v_nil_ptr h1 h
    · rename_i h1;exact v_nil_elt h1 h
    · rename_i h1;exact v_nil_aptr h1 h
    · rename_i h1;exact v_nil_func h1 h
    · exact h.elim
  | call c =>
    obtain ⟨cal,as₀,ts⟩:=c
    cases cal with
    | builtin b=>exact wB_ok ht h
    | _=>exact h.elim
  | _=>exact h.elim
theorem wV_isQ {op:Op} {K:AV→Prop} (h:wV tt n l aw op K):isQ (mkA n l) op=true:=by
  cases op with
  | load t x =>
    simp only [wV] at h
    simp only [isQ,Q1a]
    split at h
    · rename_i h1;rw [h1]
    · rename_i h1;rw [h1]
    · exact h.elim
  | convert s t x =>
    simp only [wV] at h
    simp only [isQ,Q1a]
    split at h
    · rename_i h1;rw [h1]
    · exact h.elim
  | call c =>
    obtain ⟨cal,as₀,ts⟩:=c
    cases cal with
    | builtin b =>
      simp only [wV,wB] at h
      split at h<;>first | rfl | exact h.elim
    | _=>exact h.elim
  | _=>first | rfl | exact h.elim
theorem OP.wV {o:Oper} {K:AV→List Ob→Prop} (ht:tt.Ok P) (h:wV tt n l aw o.op fun r=>K r aw):OP P N o (mkA n l) aw K:=by
  refine OP.of_vc ?_
  have h1:=wV_isQ h
  have h2:=wV_ok ht h
  obtain ⟨d,op,ty,ps,af,g⟩:=o
  have key:vcVal P (mkA n l) aw op K:=by unfold vcVal;rw [if_pos h1];exact h2
  cases op with
  | call c =>
    obtain ⟨cal,as₀,ts⟩:=c
    cases cal with
    | builtin b=>exact key
    | _=>exact (show False from h).elim
  | _=>exact key
def wE (tt:TT) (n:Nat) (l:List (Nat × AV)) (aw:List Ob) (c:Nat) (op:Op) (K:AV→List Ob→Nat→Prop):Prop :=
  match op with
  | .alloc e=>(match (tt.get e).zero with
    | some z=>pushC aw (.box z) fun aw=>K (.ptr c 0) aw (c+1)
    | none=>False)
  | .box _ x=>cellsC (evA n l x) fun cs=>pushC aw (.box cs) fun aw=>K (.ptr c 0) aw (c+1)
  | .store t x y=>(match evA n l x with
    | .ptr id off=>(match (tt.get t).size with
      | some m=>cellsC (evA n l y) fun vs=>lenC vs m (getC aw id fun o=>(match o with
        | .box cs=>putC cs off vs fun cs=>setC aw id (.box cs) fun aw=>K .any aw c
        | _=>False))
      | none=>False)
    | _=>False)
  | op=>wV tt n l aw op fun r=>K r aw c
theorem OP.mono {o:Oper} {fr:List AV} {K K':AV→List Ob→Prop} (h:OP P N o fr aw K) (hm:∀ r aw',K r aw'→K' r aw'):OP P N o fr aw K' :=
  ⟨fun st h1 h2 σ w F a hc Kc Q hk=>h.out st h1 h2 σ w F a hc Kc Q fun r aw' σ' w' F' v hK=>hk r aw' σ' w' F' v (hm r aw' hK)⟩
theorem wE_ok {o:Oper} {c:Nat} {K:AV→List Ob→Nat→Prop} (ht:tt.Ok P) (hc:aw.length=c) (h:wE tt n l aw c o.op K):OP P N o (mkA n l) aw fun r aw'=>K r aw' aw'.length:=by
  obtain ⟨d,op,ty,ps,af,g⟩:=o
  subst hc
  have q:wV tt n l aw op (fun r=>K r aw aw.length)→OP P N ⟨d,op,ty,ps,af,g⟩ (mkA n l) aw fun r aw'=>K r aw' aw'.length:=fun h=>OP.wV ht h
  cases op with
  | alloc e =>
    simp only [wE] at h
    split at h
    · rename_i z hz
      have:=pushC_ok h
      exact o_alloc (TI.zero_ok (TT.get_ok ht e) hz) rfl rfl (by simpa using this)
    · exact h.elim
  | box e x =>
    obtain ⟨cs,h1,h2⟩:=cellsC_ok h
    have:=pushC_ok h2
    exact o_box h1 rfl rfl (by simpa using this)
  | store t x y =>
    simp only [wE] at h
    split at h
    · rename_i h1
      split at h
      · rename_i m hm
        obtain ⟨vs,h2,h⟩:=cellsC_ok h
        obtain ⟨h3,h⟩:=lenC_ok h
        obtain ⟨o,h4,h⟩:=Vna h
        split at h
        · obtain ⟨h5,h⟩:=putC_ok h
          have h:=setC_ok h
          have hs:=TI.size_ok (TT.get_ok ht t) hm
          exact o_store_ptr hs.1 hs.2 h1 h2 h3 h4 (Nat.ble_eq_true_of_le (by omega)) rfl rfl (by simpa [splice] using h)
        · exact h.elim
      · exact h.elim
    · exact h.elim
  | _=>exact q h
def wR (tt:TT) (n:Nat):Nat→List Oper→List (Nat × AV)→List Ob→Nat→(List Oper→List (Nat × AV)→List Ob→Prop)→Prop
  | 0,os,l,aw,_,K=>K os l aw
  | _+1,[],_,_,_,_=>False
  | m + 1,o::os,l,aw,c,K=>(match o.guard with
    | none=>wE tt n l aw c o.op fun r aw c=>(match o.dst with
      | some t=>wR tt n m os ((t,r)::l) aw c K
      | none=>wR tt n m os l aw c K)
    | some _=>False)
theorem RS.go (ht:tt.Ok P) {ops:Array Oper} {K:List AV→List Ob→Prop}:∀ {m:Nat} {os:List Oper} {l:List (Nat × AV)} {aw:List Ob} {c:Nat},aw.length=c→wR tt n m os l aw c (fun os l aw=>RS P N ops os K (mkA n l) aw)→RS P N ops os K (mkA n l) aw
  | 0,os,l,aw,c,hc,h=>by cases os<;>exact h
  | _+1,[],_,_,_,_,h=>h.elim
  | m + 1,o::os,l,aw,c,hc,h=>by
    simp only [wR] at h
    split at h
    · rename_i hg
      refine RS.op hg ((wE_ok ht hc h).mono fun r aw' h=>?_)
      split at h
      · rename_i t hd
        rw [hd]
        exact RS.go ht rfl h
      · rename_i hd
        rw [hd]
        exact RS.go ht rfl h
    · exact h.elim
def okQ (ops:Array Oper):Array Bool→List Nat→Bool
  | _,[]=>true
  | li,i::is=>Region.free .any ops li i && (Region.ready .any ops li).contains i && (match ops.toList[i]? with
    | some o=>quietOp o.op && o.guard.isNone
    | none=>false) && okQ ops (li.setIfInBounds i true) is
def lisQ:Array Bool→List Nat→Array Bool
  | li,[]=>li
  | li,i::is=>lisQ (li.setIfInBounds i true) is
def wQ (tt:TT) (n:Nat) (ops:List Oper):List Nat→List (Nat × AV)→List Ob→(List (Nat × AV)→Prop)→Prop
  | [],l,aw,K=>K l
  | i::is,l,aw,K=>getC ops i fun o=>wV tt n l aw o.op fun r=>(match o.dst with
    | some t=>wQ tt n ops is ((t,r)::l) aw K
    | none=>wQ tt n ops is l aw K)
theorem RA.qs (ht:tt.Ok P) {ops:Array Oper} {K:List AV→List Ob→Prop} (hs:Region.noSelect ops=true) {k':Nat}:∀ {is:List Nat} {k:Nat} {li:Array Bool} {l:List (Nat × AV)},k=k' + is.length→okQ ops li is=true →
    wQ tt n ops.toList is l aw (fun l=>RA P N ops k' (lisQ li is) K (mkA n l) aw)→RA P N ops k li K (mkA n l) aw
  | [],k,li,l,hk,_,h=>by have:k=k':=hk;subst this;exact h
  | i :: is,k,li,l,hk,ho,h=>by
    obtain ⟨o,h1,h⟩:=Vna h
    have h1':ops[i]?=some o:=by simpa using h1
    unfold okQ at ho
    rw [h1] at ho
    simp only [Bool.and_eq_true] at ho
    obtain ⟨⟨⟨ho1,ho2⟩,ho3,ho4⟩,ho5⟩:=ho
    have hg:o.guard=none:=by cases hg:o.guard<;>simp_all
    have hk:k=(k' + is.length)+1:=by rw [hk,List.length_cons];omega
    subst hk
    refine ⟨fun st e1 e2 σ w F a hc R hR=>?_⟩
    obtain ⟨v,r,hrun,hrel,hk⟩:=oper_all hc ho3 (wV_ok ht h)
    refine wpAny_take h1' hs ho1 ho2 (fun c a w hp=>hp) (.inl ⟨by simp [Region.wanted,hg],hrun⟩) ?_
    have hput:=V4a hc hrel o.dst
    rw [V3a] at hput
    refine RA.out ?_ st e1 e2 σ w F _ hput R hR
    split at hk
    · rename_i t hd
      rw [hd]
      exact RA.qs ht hs rfl ho5 hk
    · rename_i hd
      rw [hd]
      exact RA.qs ht hs rfl ho5 hk
theorem RO.g (ht:tt.Ok P) {ops:Array Oper} {i c:Nat} {K:List AV→List Ob→Prop} (hc:aw.length=c)
    (h:getC ops.toList i fun o=>o.guard=none∧wE tt n l aw c o.op fun r aw c=>(match o.dst with
      | some t=>K (mkA n ((t,r)::l)) aw
      | none=>K (mkA n l) aw)):RO P N ops i K (mkA n l) aw:=by
  obtain ⟨o,h1,hg,h⟩:=Vna h
  refine RO.op (by simpa using h1) hg ((wE_ok ht hc h).mono fun r aw' h=>?_)
  split at h
  · rename_i t hd
    rw [hd];exact h
  · rename_i hd
    rw [hd];exact h
end
end Go.Proofs.YtfbmoockopakjaaGreat
namespace Go.Proofs.YtfbmoockopakjaaGreat
open Go.RowKit
set_option linter.unusedVariables false
set_option linter.unusedSimpArgs false
instance (a:Item):PureCs (Qaa a):=⟨Q0a a⟩
instance (a:Node):PureCs (Qja a):=⟨Qsb a⟩
instance (a:Net):PureCs (Qma a):=⟨encNet_p a⟩
instance (a:Keyed):PureCs (Qka a):=⟨V9a a⟩
instance (a:Memory):PureCs (Qca a):=⟨Q9a a⟩
instance (a:Choice):PureCs (Qba a):=⟨Q5a a⟩
instance (a:State):PureCs (Qra a):=⟨encState_p a⟩
instance (a:Move):PureCs (Qta a):=⟨encMove_p a⟩
instance (a:Write):PureCs (encWrite a):=⟨encWrite_p a⟩
instance (a:Disk):PureCs (encDisk a):=⟨encDisk_p a⟩
instance (a:Shop):PureCs (encShop a):=⟨encShop_p a⟩
instance (a:Happening):PureCs (Qvb a):=⟨encHappening_p a⟩
instance (a:Ends):PureCs (Q4a a):=⟨encEnds_p a⟩
instance {f:FuncId} {cs:List AV} [h:PureCs cs]:PureC (.func f cs):=⟨pure_func _ _ h.out⟩
instance {α:Type} {en:α→List AV} {a:α} {off:Nat} [h:EnP en]:PureC (.elt (en a) off):=⟨pure_elt _ _ (h.out a)⟩
class EnF {α:Type} (en:α→List AV):Prop where
  out:∀ a,(en a).all flat0=true
instance:EnF encI:=⟨fun _=>rfl⟩
instance:EnF enc8:=⟨fun _=>rfl⟩
instance:EnF encU:=⟨fun _=>rfl⟩
instance:EnF encB:=⟨fun _=>rfl⟩
instance:EnF encS:=⟨fun _=>rfl⟩
instance:EnF Qaa:=⟨fun _=>rfl⟩
instance:EnF Qka:=⟨fun _=>rfl⟩
instance:EnF Qba:=⟨fun _=>rfl⟩
instance:EnF Qta:=⟨fun _=>rfl⟩
instance:EnF encWrite:=⟨fun _=>rfl⟩
instance:EnF Qvb:=⟨fun _=>rfl⟩
instance:EnF Q4a:=⟨fun _=>rfl⟩
class FlatObs (os:List Ob):Prop where
  out:os.all flatOb=true
instance:FlatObs []:=⟨rfl⟩
instance {α:Type} {en:α→List AV} {xs:List α} {e s:Nat} {os:List Ob} [h:EnF en] [t:FlatObs os]:FlatObs (.arr e s (xs.map en)::os):=⟨obs_cons (flatOb_map h.out) t.out⟩
class OwnV (v:AV):Prop where
  out:(∃ k,v=.ref k)∨∃ vs,v=.tup vs∧∀ x,x∈vs→Pure x∨∃ k,x=.ref k
class OwnVs (vs:List AV):Prop where
  out:∀ x,x∈vs→Pure x∨∃ k,x=.ref k
instance:OwnVs []:=⟨fun x h=>by cases h⟩
instance {k:Nat} {vs:List AV} [t:OwnVs vs]:OwnVs (.ref k::vs):=⟨fun x h=>by
  cases h with
  | head=>exact .inr ⟨_,rfl⟩
  | tail _ h=>exact t.out x h⟩
instance (priority:=low) {v:AV} {vs:List AV} [h:PureC v] [t:OwnVs vs]:OwnVs (v::vs):=⟨fun x hx=>by
  cases hx with
  | head=>exact .inl h.out
  | tail _ hx=>exact t.out x hx⟩
instance {k:Nat}:OwnV (.ref k):=⟨.inl ⟨_,rfl⟩⟩
instance {vs:List AV} [h:OwnVs vs]:OwnV (.tup vs):=⟨.inr ⟨_,rfl,h.out⟩⟩
theorem pures_of:∀ {es:List AV},(∀ a,a∈es→Pure a)→Pures es
  | [],_=>trivial
  | a::es,h=>⟨h a (.head _),pures_of fun b hb=>h b (.tail _ hb)⟩
section
variable {P:Program} {N n:Nat} {aw aw':List Ob} {l:List (Nat × AV)} {tt:TT}
def appC {α:Type}:List α→List α→(List α→Prop)→Prop
  | [],bs,K=>K bs
  | a::l,bs,K=>appC l bs fun l=>K (a::l)
theorem appC_ok {α:Type}:∀ {l bs:List α} {K:List α→Prop},appC l bs K→K (l++bs)
  | [],_,_,h=>h
  | a::l,bs,K,h=>appC_ok (l:=l) (K:=fun l=>K (a::l)) h
def nrm0C (aw:List Ob) (a:AV) (K:AV→List Ob→Prop):Prop :=
  match a with
  | .nils=>K (.sl []) aw
  | .ref id=>getC aw id fun o=>(match o with
    | .arr _ _ rows=>setC aw id .dead fun aw=>K (.sl rows) aw
    | _=>False)
  | a=>fA a fun a=>K a aw
theorem nrm0C_ok {a:AV} {K:AV→List Ob→Prop} (h:nrm0C aw a K):K (norm0 aw a).1 (norm0 aw a).2:=by
  cases a with
  | nils=>exact h
  | ref id =>
    obtain ⟨o,h1,h⟩:=Vna h
    split at h
    · have:=setC_ok h
      simpa only [norm0,h1] using this
    · exact h.elim
  | _=>exact h
def nrm0LC:List AV→List Ob→(List AV→List Ob→Prop)→Prop
  | [],aw,K=>K [] aw
  | a::es,aw,K=>nrm0C aw a fun a aw=>nrm0LC es aw fun es aw=>K (a::es) aw
theorem nrm0LC_ok:∀ {es:List AV} {aw:List Ob} {K:List AV→List Ob→Prop},nrm0LC es aw K→K (norm0L aw es).1 (norm0L aw es).2
  | [],aw,K,h=>h
  | a::es,aw,K,h=>nrm0LC_ok (es:=es) (K:=fun es aw=>K (_::es) aw) (nrm0C_ok h)
def nrmC (aw:List Ob) (a:AV) (K:AV→List Ob→Prop):Prop :=
  match a with
  | .agg cs=>nrm0LC cs aw fun cs aw=>K (.agg cs) aw
  | a=>nrm0C aw a K
theorem nrmC_ok {a:AV} {K:AV→List Ob→Prop} (h:nrmC aw a K):K (norm aw a).1 (norm aw a).2:=by
  cases a with
  | agg cs=>exact nrm0LC_ok (K:=fun cs aw=>K (.agg cs) aw) h
  | _=>exact nrm0C_ok h
def nrmLC:List AV→List Ob→(List AV→List Ob→Prop)→Prop
  | [],aw,K=>K [] aw
  | a::es,aw,K=>nrmC aw a fun a aw=>nrmLC es aw fun es aw=>K (a::es) aw
theorem nrmLC_ok:∀ {es:List AV} {aw:List Ob} {K:List AV→List Ob→Prop},nrmLC es aw K→K (normL aw es).1 (normL aw es).2
  | [],aw,K,h=>h
  | a::es,aw,K,h=>nrmLC_ok (es:=es) (K:=fun es aw=>K (_::es) aw) (nrmC_ok h)
def nrmRC (aw:List Ob) (a:AV) (K:AV→List Ob→Prop):Prop :=
  match a with
  | .tup vs=>nrmLC vs aw fun vs aw=>K (.tup vs) aw
  | a=>nrmC aw a K
theorem nrmRC_ok {a:AV} {K:AV→List Ob→Prop} (h:nrmRC aw a K):K (normR aw a).1 (normR aw a).2:=by
  cases a with
  | tup vs=>exact nrmLC_ok (K:=fun vs aw=>K (.tup vs) aw) h
  | _=>exact nrmC_ok h
def argC (n:Nat) (l:List (Nat × AV)):List Operand→List Ob→(List AV→List Ob→Prop)→Prop
  | [],aw,K=>K [] aw
  | x::xs,aw,K=>nrmC aw (evA n l x) fun a aw=>argC n l xs aw fun es aw=>K (a::es) aw
theorem argC_ok:∀ {xs:List Operand} {aw:List Ob} {K:List AV→List Ob→Prop},argC n l xs aw K→K (normL aw (xs.map (evA n l))).1 (normL aw (xs.map (evA n l))).2
  | [],aw,K,h=>h
  | x::xs,aw,K,h=>argC_ok (xs:=xs) (K:=fun es aw=>K (_::es) aw) (nrmC_ok h)
def calC (n:Nat) (l:List (Nat × AV)) (aw:List Ob) (f:Operand) (args:List Operand) (g:Nat) (es:List AV) (K:List Ob→Prop):Prop :=
  match evA n l f with
  | .func g' caps=>(match Nat.beq g' g with
    | true=>argC n l args aw fun es' aw'=>es'++caps=es∧K aw'
    | false=>False)
  | _=>False
section
variable {d:Option Tmp} {ty:TypeId} {ps:String} {af:Array Edge} {gd:Option (Nat × Bool)} {K2:AV→List Ob→Prop} {f:Operand} {args:Array Operand} {ts:Array TypeId} {g:FuncId} {es:List AV} {v:AV} {obs:List Ob}
theorem calC_call {K:List Ob→Prop} (h:calC n l aw f args.toList g es K) (hk:∀ aw1,K aw1→CallK P g es aw aw1 K2):OP P N ⟨d,.call ⟨.value f,args,ts⟩,ty,ps,af,gd⟩ (mkA n l) aw K2:=by
  unfold calC at h
  split at h
  · rename_i g' caps hf
    split at h
    · rename_i hb
      have:=Nat.eq_of_beq_eq_true hb
      subst this
      obtain ⟨h1,h2⟩:=argC_ok h
      exact o_call hf rfl rfl (by rw [h1];exact hk _ h2)
    · exact h.elim
  · exact h.elim
theorem cD (hc:Fn P g es v) (h:calC n l aw f args.toList g es fun aw1=>K2 v aw1) [hp:PureCs es] [hv:PureC v]:OP P N ⟨d,.call ⟨.value f,args,ts⟩,ty,ps,af,gd⟩ (mkA n l) aw K2 :=
  calC_call h fun aw1 hK=>k_fn hc (pures_of hp.out) hv.out hK
theorem cF (hc:Fn P g es v) (h:calC n l aw f args.toList g es fun _=>K2 v aw) [hp:PureCs es] (hv:flat v=true:=by rfl):OP P N ⟨d,.call ⟨.value f,args,ts⟩,ty,ps,af,gd⟩ (mkA n l) aw K2 :=
  calC_call h fun aw1 hK=>k_flat hc (pures_of hp.out) hv hK
theorem cO (c:Nat) (hc:FnO P g es v obs) (h:calC n l aw f args.toList g es fun _=>fA (v.shift c) fun v=>appC aw obs fun aw=>K2 v aw) [hp:PureCs es] [ho:FlatObs obs] (hv:flatR v=true:=by rfl) (hl:aw.length=c:=by rfl) :
    OP P N ⟨d,.call ⟨.value f,args,ts⟩,ty,ps,af,gd⟩ (mkA n l) aw K2 :=
  calC_call h fun aw1 hK=>by subst hl;exact k_own hc (pures_of hp.out) hv ho.out (appC_ok (fA_ok (K:=fun v=>appC aw obs fun aw=>K2 v aw) hK))
theorem cQ {α:Type} {en:α→List AV} {xs:List α} {e s:Nat} (c:Nat) (hc:FnO P g es v [.arr e s (xs.map en)]) (h:calC n l aw f args.toList g es fun aw=>fA (v.shift c) fun v=>lenC aw c (appC aw [.arr e s (xs.map en)] fun aw=>K2 v aw)) [hp:PureCs es] [he:EnP en] [ho:OwnV v] :
    OP P N ⟨d,.call ⟨.value f,args,ts⟩,ty,ps,af,gd⟩ (mkA n l) aw K2 :=
  calC_call h fun aw1 hK=>by
    have h1:=fA_ok (K:=fun v=>lenC aw1 c (appC aw1 [.arr e s (xs.map en)] fun aw=>K2 v aw)) hK
    obtain ⟨h2,h3⟩:=lenC_ok h1
    subst h2
    exact k_own1' hc (pures_of hp.out) he.out ho.out rfl rfl (appC_ok h3)
end
theorem ld_ex {t:Nat} {i:TI} {row:List AV} {off:Nat} {K:AV→Prop} (ht:TOk P t i) (h:wLd i row off K):∃ v,K v∧∀ K':AV→Prop,K' v→Zxa P t row off K':=by
  have kA:∀ {m:Nat},kindT P t=some true→P.cellsOf t=m→(aggC row off m fun cs=>K (.agg cs))→∃ v,K v∧∀ K':AV→Prop,K' v→Zxa P t row off K':=fun {m} hk hm h=>by
    obtain ⟨h1,h2⟩:=aggC_ok h
    refine ⟨_,h2,fun K' hK'=>?_⟩
    simp only [Zxa,hk,hm]
    exact ⟨h1,hK'⟩
  have k1:kindT P t=some false→(getC row off fun c=>fA c K)→∃ v,K v∧∀ K':AV→Prop,K' v→Zxa P t row off K':=fun hk h=>by
    obtain ⟨c,h1,h2⟩:=Vna h
    exact ⟨c,fA_ok h2,fun K' hK'=>Jra hk h1 hK'⟩
  cases i with
  | no=>exact h.elim
  | ag z m fs=>exact kA ht.1.1 ht.1.2.1 h
  | ar z m=>exact kA ht.1 ht.2.1 h
  | s0=>exact k1 ht.1 h
  | _=>exact k1 ht.1.1 h
def resC (tt:TT) (n:Nat) (l:List (Nat × AV)) (aw:List Ob):List ResultVar→(List AV→Prop)→Prop
  | [],K=>K []
  | .tmp t::rs,K=>fA (evA n l (.tmp t)) fun v=>resC tt n l aw rs fun vs=>K (v::vs)
  | .cell a t::rs,K=>(match evA n l (.tmp a) with
    | .ptr id off=>getC aw id fun o=>(match o with
      | .box cs=>wLd (tt.get t) cs off fun v=>resC tt n l aw rs fun vs=>K (v::vs)
      | _=>False)
    | _=>False)
theorem resC_ok (ht:tt.Ok P):∀ {rs:List ResultVar} {K K':List AV→Prop},(∀ vs,K vs→K' vs)→resC tt n l aw rs K→vcRes P (mkA n l) aw rs K'
  | [],K,K',hm,h=>Yla (hm _ h)
  | .tmp t::rs,K,K',hm,h=>Qfb rfl (resC_ok ht (K:=fun vs=>K (_::vs)) (fun vs hv=>hm _ hv) (fA_ok h))
  | .cell a t::rs,K,K',hm,h=>by
    unfold resC at h
    split at h
    · rename_i h1
      obtain ⟨o,h2,h⟩:=Vna h
      split at h
      · obtain ⟨v,h3,h4⟩:=ld_ex (TT.get_ok ht t) h
        exact res_cellA h1 h2 h4 (resC_ok ht (K:=fun vs=>K (v::vs)) (fun vs hv=>hm _ hv) h3)
      · exact h.elim
    · exact h.elim
theorem T.rD (ht:tt.Ok P) {Q:Exit→List AV→List Ob→Prop} {rs:List ResultVar} {V:AV} (h:resC tt n l aw rs fun vs=>nrmRC aw (retAV vs) fun v _=>v=V)
    [hq:RetI Q (fun fr aw=>vcRes P fr aw rs (Ret 0 (fun r aw'=>r=V∧aw'=[]) aw))] [hV:PureC V]:T P N .ret Q (mkA n l) aw:=by
  refine T.rt (R:=fun fr aw=>vcRes P fr aw rs (Ret 0 (fun r aw'=>r=V∧aw'=[]) aw)) (resC_ok ht (fun vs hv=>?_) h)
  have h1:=nrmRC_ok hv
  exact ret_data (v:=V) (aw1:=(normR aw (retAV vs)).2) (by rw [← h1]) hV.out ⟨rfl,rfl⟩
def gA:Nat→AV→Prop
  | k,a=>match a with
    | .sl rows=>Pure (.sl rows)
    | .elt row off=>Pure (.elt row off)
    | .cst _ | .vw _ _ _ _ _ | .ref2 _ | .aptr2 _ _ | .ifc _ _=>False
    | .agg cs=>(match k with
      | 0=>False
      | k+1=>∀ c,c∈cs→gA k c)
    | .tup cs=>(match k with
      | 0=>False
      | k+1=>∀ c,c∈cs→gA k c)
    | .func _ cs=>(match k with
      | 0=>False
      | k+1=>∀ c,c∈cs→gA k c)
    | _=>True
class GoodA (k:Nat) (a:AV):Prop where
  out:gA k a
class GoodAs (k:Nat) (es:List AV):Prop where
  out:∀ a,a∈es→gA k a
section
variable {k:Nat}
instance:GoodA k .any:=⟨by unfold gA;trivial⟩
instance {q:IntKind} {x:Int}:GoodA k (.int q x):=⟨by unfold gA;trivial⟩
instance {b:Bool}:GoodA k (.bool b):=⟨by unfold gA;trivial⟩
instance {s:List UInt8}:GoodA k (.str s):=⟨by unfold gA;trivial⟩
instance:GoodA k .nils:=⟨by unfold gA;trivial⟩
instance:GoodA k .nilf:=⟨by unfold gA;trivial⟩
instance:GoodA k .nilp:=⟨by unfold gA;trivial⟩
instance:GoodA k .nili:=⟨by unfold gA;trivial⟩
instance {i:Nat}:GoodA k (.ref i):=⟨by unfold gA;trivial⟩
instance {i o:Nat}:GoodA k (.ptr i o):=⟨by unfold gA;trivial⟩
instance {i s j o:Nat}:GoodA k (.aptr i s j o):=⟨by unfold gA;trivial⟩
instance {i:Nat}:GoodA k (.mpr i):=⟨by unfold gA;trivial⟩
instance {i j:Nat}:GoodA k (.iref i j):=⟨by unfold gA;trivial⟩
instance {α:Type} {en:α→List AV} {xs:List α} [h:EnP en]:GoodA k (.sl (xs.map en)):=⟨by unfold gA;exact Qpa h.out _⟩
instance {α:Type} {en:α→List AV} {a:α} {off:Nat} [h:EnP en]:GoodA k (.elt (en a) off):=⟨by unfold gA;exact pure_elt _ _ (h.out a)⟩
instance:GoodAs k []:=⟨fun a h=>by cases h⟩
instance {a:AV} {es:List AV} [h:GoodA k a] [t:GoodAs k es]:GoodAs k (a::es):=⟨fun b hb=>by
  cases hb with
  | head=>exact h.out
  | tail _ hb=>exact t.out b hb⟩
instance {es:List AV} [h:GoodAs k es]:GoodA (k+1) (.agg es):=⟨by unfold gA;exact h.out⟩
instance {es:List AV} [h:GoodAs k es]:GoodA (k+1) (.tup es):=⟨by unfold gA;exact h.out⟩
instance {f:FuncId} {es:List AV} [h:GoodAs k es]:GoodA (k+1) (.func f es):=⟨by unfold gA;exact h.out⟩
instance (a:Item):GoodAs k (Qaa a):=by unfold Qaa;infer_instance
instance (a:Node):GoodAs k (Qja a):=by unfold Qja;infer_instance
instance (a:Net):GoodAs k (Qma a):=by unfold Qma;infer_instance
instance (a:Keyed):GoodAs k (Qka a):=by unfold Qka;infer_instance
instance (a:Memory):GoodAs k (Qca a):=by unfold Qca;infer_instance
instance (a:Choice):GoodAs k (Qba a):=by unfold Qba;infer_instance
instance (a:State):GoodAs k (Qra a):=by unfold Qra;infer_instance
instance (a:Move):GoodAs k (Qta a):=by unfold Qta;infer_instance
instance (a:Write):GoodAs k (encWrite a):=by unfold encWrite;infer_instance
instance (a:Disk):GoodAs k (encDisk a):=by unfold encDisk;infer_instance
instance (a:Shop):GoodAs k (encShop a):=by unfold encShop;infer_instance
instance (a:Happening):GoodAs k (Qvb a):=by unfold Qvb;infer_instance
instance (a:Ends):GoodAs k (Q4a a):=by unfold Q4a;infer_instance
end
theorem rnq_iref {ρ:List Nat} {k id i:Nat} (h:ρ[k]?=some id):Ren ρ (.iref k i) (.iref id i):=fun σ w F v hr σ' hσ=>by
  cases hr with
  | iref _ _ a n c vs hg h0=>exact .iref k i a n c vs (by rw [hσ k id h];exact hg) h0
theorem pureq_nilp:Pure .nilp:=fun σ w F v hr σ'=>by cases hr;exact .nilp
theorem pureq_nili:Pure .nili:=fun σ w F v hr σ'=>by cases hr;exact .nili
def mpC (f:AV→AV→(AV→Prop)→Prop):List AV→List AV→(List AV→Prop)→Prop
  | [],_,K=>K []
  | a'::es',es,K=>(match es with
    | []=>False
    | a::es=>f a' a fun b=>mpC f es' es fun bs=>K (b::bs))
def mpA (ρ:List Nat):Nat→AV→AV→(AV→Prop)→Prop
  | k,a',a,K=>match a' with
    | .any=>K a
    | .ref i=>getC ρ i fun i=>K (.ref i)
    | .ptr i o=>getC ρ i fun i=>K (.ptr i o)
    | .aptr i s j o=>getC ρ i fun i=>K (.aptr i s j o)
    | .mpr i=>getC ρ i fun i=>K (.mpr i)
    | .iref i j=>getC ρ i fun i=>K (.iref i j)
    | .agg cs=>(match k with
      | 0=>False
      | k+1=>(match a with
        | .agg ds=>mpC (mpA ρ k) cs ds fun cs=>K (.agg cs)
        | _=>False))
    | .tup cs=>(match k with
      | 0=>False
      | k+1=>(match a with
        | .tup ds=>mpC (mpA ρ k) cs ds fun cs=>K (.tup cs)
        | _=>False))
    | .func f cs=>(match k with
      | 0=>False
      | k+1=>(match a with
        | .func _ ds=>mpC (mpA ρ k) cs ds fun cs=>K (.func f cs)
        | _=>False))
    | a'=>fA a' K
theorem mpC_ok {ρ:List Nat} {k:Nat} (ih:∀ {a' a:AV} {K:AV→Prop},mpA ρ k a' a K→∃ b,K b∧(gA k a'→b=a→Ren ρ a' a)):∀ {es' es:List AV} {K:List AV→Prop},mpC (mpA ρ k) es' es K →
    ∃ bs,K bs∧((∀ a,a∈es'→gA k a)→bs=es→RenL ρ es' es)
  | [],es,K,h=>⟨[],h,fun _ e=>by subst e;trivial⟩
  | a'::es',[],K,h=>h.elim
  | a'::es',a::es,K,h=>by
    obtain ⟨b,h1,h2⟩:=ih h
    obtain ⟨bs,h3,h4⟩:=mpC_ok ih h1
    refine ⟨b::bs,h3,fun hg e=>?_⟩
    injection e with e1 e2
    exact ⟨h2 (hg _ (.head _)) e1,h4 (fun x hx=>hg x (.tail _ hx)) e2⟩
theorem mpA_ok {ρ:List Nat}:∀ {k:Nat} {a' a:AV} {K:AV→Prop},mpA ρ k a' a K→∃ b,K b∧(gA k a'→b=a→Ren ρ a' a):=by
  intro k
  induction k with
  | zero =>
    intro a' a K h
    cases a' with
    | any=>exact ⟨a,h,fun _ _=>rn_any⟩
    | ref i=>obtain ⟨j,h1,h2⟩:=Vna h;exact ⟨_,h2,fun _ e=>by subst e;exact Qza h1⟩
    | ptr i o=>obtain ⟨j,h1,h2⟩:=Vna h;exact ⟨_,h2,fun _ e=>by subst e;exact Qqa h1⟩
    | aptr i s j o=>obtain ⟨j,h1,h2⟩:=Vna h;exact ⟨_,h2,fun _ e=>by subst e;exact rn_aptr h1 rfl⟩
    | mpr i=>obtain ⟨j,h1,h2⟩:=Vna h;exact ⟨_,h2,fun _ e=>by subst e;exact Jja h1⟩
    | iref i j=>obtain ⟨j,h1,h2⟩:=Vna h;exact ⟨_,h2,fun _ e=>by subst e;exact rnq_iref h1⟩
    | agg cs=>exact h.elim
    | tup cs=>exact h.elim
    | func f cs=>exact h.elim
    | int q x=>exact ⟨_,h,fun _ e=>by subst e;exact Y1a (Qea _ _)⟩
    | bool b=>exact ⟨_,h,fun _ e=>by subst e;exact Y1a (Vfa _)⟩
    | str s=>exact ⟨_,h,fun _ e=>by subst e;exact Y1a (pure_str _)⟩
    | nils=>exact ⟨_,h,fun _ e=>by subst e;exact Y1a pure_nils⟩
    | nilf=>exact ⟨_,h,fun _ e=>by subst e;exact Y1a pure_nilf⟩
    | nilp=>exact ⟨_,h,fun _ e=>by subst e;exact Y1a pureq_nilp⟩
    | nili=>exact ⟨_,h,fun _ e=>by subst e;exact Y1a pureq_nili⟩
    | sl rows=>exact ⟨_,h,fun g e=>by subst e;exact Y1a (by unfold gA at g;exact g)⟩
    | elt row off=>exact ⟨_,h,fun g e=>by subst e;exact Y1a (by unfold gA at g;exact g)⟩
    | cst v=>exact ⟨_,h,fun g e=>by unfold gA at g;exact g.elim⟩
    | vw a1 a2 a3 a4 a5=>exact ⟨_,h,fun g e=>by unfold gA at g;exact g.elim⟩
    | ref2 i=>exact ⟨_,h,fun g e=>by unfold gA at g;exact g.elim⟩
    | aptr2 i j=>exact ⟨_,h,fun g e=>by unfold gA at g;exact g.elim⟩
    | ifc t a1=>exact ⟨_,h,fun g e=>by unfold gA at g;exact g.elim⟩
  | succ k ih =>
    intro a' a K h
    cases a' with
    | any=>exact ⟨a,h,fun _ _=>rn_any⟩
    | ref i=>obtain ⟨j,h1,h2⟩:=Vna h;exact ⟨_,h2,fun _ e=>by subst e;exact Qza h1⟩
    | ptr i o=>obtain ⟨j,h1,h2⟩:=Vna h;exact ⟨_,h2,fun _ e=>by subst e;exact Qqa h1⟩
    | aptr i s j o=>obtain ⟨j,h1,h2⟩:=Vna h;exact ⟨_,h2,fun _ e=>by subst e;exact rn_aptr h1 rfl⟩
    | mpr i=>obtain ⟨j,h1,h2⟩:=Vna h;exact ⟨_,h2,fun _ e=>by subst e;exact Jja h1⟩
    | iref i j=>obtain ⟨j,h1,h2⟩:=Vna h;exact ⟨_,h2,fun _ e=>by subst e;exact rnq_iref h1⟩
    | agg cs =>
      cases a with
      | agg ds =>
        obtain ⟨bs,h1,h2⟩:=mpC_ok (ρ:=ρ) ih h
        exact ⟨_,h1,fun g e=>by injection e with e;exact rn_agg (h2 (by unfold gA at g;exact g) e)⟩
      | _=>exact h.elim
    | tup cs =>
      cases a with
      | tup ds =>
        obtain ⟨bs,h1,h2⟩:=mpC_ok (ρ:=ρ) ih h
        exact ⟨_,h1,fun g e=>by injection e with e;exact rn_tup (h2 (by unfold gA at g;exact g) e)⟩
      | _=>exact h.elim
    | func f cs =>
      cases a with
      | func f' ds =>
        obtain ⟨bs,h1,h2⟩:=mpC_ok (ρ:=ρ) ih h
        exact ⟨_,h1,fun g e=>by injection e with e0 e;subst e0;exact rn_func (h2 (by unfold gA at g;exact g) e)⟩
      | _=>exact h.elim
    | int q x=>exact ⟨_,h,fun _ e=>by subst e;exact Y1a (Qea _ _)⟩
    | bool b=>exact ⟨_,h,fun _ e=>by subst e;exact Y1a (Vfa _)⟩
    | str s=>exact ⟨_,h,fun _ e=>by subst e;exact Y1a (pure_str _)⟩
    | nils=>exact ⟨_,h,fun _ e=>by subst e;exact Y1a pure_nils⟩
    | nilf=>exact ⟨_,h,fun _ e=>by subst e;exact Y1a pure_nilf⟩
    | nilp=>exact ⟨_,h,fun _ e=>by subst e;exact Y1a pureq_nilp⟩
    | nili=>exact ⟨_,h,fun _ e=>by subst e;exact Y1a pureq_nili⟩
    | sl rows=>exact ⟨_,h,fun g e=>by subst e;exact Y1a (by unfold gA at g;exact g)⟩
    | elt row off=>exact ⟨_,h,fun g e=>by subst e;exact Y1a (by unfold gA at g;exact g)⟩
    | cst v=>exact ⟨_,h,fun g e=>by unfold gA at g;exact g.elim⟩
    | vw a1 a2 a3 a4 a5=>exact ⟨_,h,fun g e=>by unfold gA at g;exact g.elim⟩
    | ref2 i=>exact ⟨_,h,fun g e=>by unfold gA at g;exact g.elim⟩
    | aptr2 i j=>exact ⟨_,h,fun g e=>by unfold gA at g;exact g.elim⟩
    | ifc t a1=>exact ⟨_,h,fun g e=>by unfold gA at g;exact g.elim⟩
def gO:Ob→Prop
  | .dead=>True
  | .box cs=>∀ c,c∈cs→gA 3 c
  | .arr _ _ rows=>∀ row,row∈rows→∀ x,x∈row→Pure x
  | .mp ks vs=>∀ c,c∈ks++vs→Pure c
  | .hd _ _=>True
  | .cl _ _ cells=>∀ rows,(Cell.own rows∈cells∨Cell.fz rows∈cells)→∀ row,row∈rows→∀ x,x∈row→Pure x
  | _=>False
class GoodO (o:Ob):Prop where
  out:gO o
class GoodOs (os:List Ob):Prop where
  out:∀ o,o∈os→gO o
instance:GoodO .dead:=⟨trivial⟩
instance {cs:List AV} [h:GoodAs 3 cs]:GoodO (.box cs):=⟨h.out⟩
instance {α:Type} {en:α→List AV} {xs:List α} {e s:Nat} [h:EnP en]:GoodO (.arr e s (xs.map en)):=⟨fun row hr x hx=>by obtain ⟨a,_,rfl⟩:=List.mem_map.1 hr;exact h.out a x hx⟩
instance {e s:Nat}:GoodO (.arr e s []):=⟨fun row hr=>by cases hr⟩
instance {e k:Nat}:GoodO (.hd e k):=⟨trivial⟩
instance:GoodOs []:=⟨fun o h=>by cases h⟩
instance {o:Ob} {os:List Ob} [h:GoodO o] [t:GoodOs os]:GoodOs (o::os):=⟨fun b hb=>by
  cases hb with
  | head=>exact h.out
  | tail _ hb=>exact t.out b hb⟩
instance {zs bs:List Ob} [h:GoodOs zs] [t:GoodOs bs]:GoodOs (zs++bs):=⟨fun o ho=>(List.mem_append.1 ho).elim (h.out o) (t.out o)⟩
instance {zs:List Ob} {i:Nat} {o:Ob} [h:GoodOs zs] [t:GoodO o]:GoodOs (zs.set i o):=⟨fun b hb=>(List.mem_or_eq_of_mem_set hb).elim (h.out b) (fun e=>by rw [e];exact t.out)⟩
def mpO (ρ:List Nat) (o' o:Ob) (K:Ob→Prop):Prop :=
  match o' with
  | .dead=>K o
  | .box cs=>(match o with
    | .box ds=>mpC (mpA ρ 3) cs ds fun cs=>K (.box cs)
    | _=>False)
  | .hd e k=>getC ρ k fun k=>K (.hd e k)
  | .arr e s rows=>K (.arr e s rows)
  | .mp ks vs=>K (.mp ks vs)
  | .cl e s cells=>K (.cl e s cells)
  | _=>False
def mpOs (ρ:List Nat) (aw:List Ob):List Nat→List Ob→(List Ob→List Ob→Prop)→Prop
  | [],[],K=>K [] []
  | id::ids,o'::os',K=>getC aw id fun o=>mpO ρ o' o fun b=>mpOs ρ aw ids os' fun bs os=>K (b::bs) (o::os)
  | _,_,_=>False
theorem mpO_ok {ρ:List Nat} {o' o:Ob} {K:Ob→Prop} (h:mpO ρ o' o K):∃ b,K b∧(gO o'→b=o→RenO ρ o' o):=by
  cases o' with
  | dead=>exact ⟨o,h,fun _ _=>trivial⟩
  | box cs =>
    cases o with
    | box ds =>
      obtain ⟨bs,h1,h2⟩:=mpC_ok (ρ:=ρ) mpA_ok h
      exact ⟨_,h1,fun g e=>by injection e with e;exact h2 g e⟩
    | _=>exact h.elim
  | hd e k =>
    obtain ⟨j,h1,h2⟩:=Vna h
    exact ⟨_,h2,fun _ e=>by subst e;exact ⟨rfl,h1⟩⟩
  | arr e s rows=>exact ⟨_,h,fun g e=>by subst e;exact ⟨rfl,rfl,rfl,fun row hr x hx=>ren_pure (g row hr x hx)⟩⟩
  | mp ks vs=>exact ⟨_,h,fun g e=>by subst e;exact ⟨renL_same fun c hc=>g c (List.mem_append_left _ hc),renL_same fun c hc=>g c (List.mem_append_right _ hc)⟩⟩
  | cl e s cells=>exact ⟨_,h,fun g e=>by subst e;exact ⟨rfl,rfl,rfl,g⟩⟩
  | arrU e s rows x=>exact h.elim
theorem mpOs_ok {ρ:List Nat}:∀ {ids:List Nat} {os':List Ob} {K:List Ob→List Ob→Prop},mpOs ρ aw ids os' K→∃ bs os,K bs os∧((∀ o,o∈os'→gO o)→bs=os→RenW ρ aw ids os')
  | [],[],K,h=>⟨[],[],h,fun _ _=>trivial⟩
  | id::ids,o'::os',K,h=>by
    obtain ⟨o,h1,h⟩:=Vna h
    obtain ⟨b,h2,h3⟩:=mpO_ok h
    obtain ⟨bs,os,h4,h5⟩:=mpOs_ok h2
    refine ⟨b::bs,o::os,h4,fun hg e=>?_⟩
    injection e with e1 e2
    exact ⟨⟨o,h1,h3 (hg _ (.head _)) e1⟩,h5 (fun x hx=>hg x (.tail _ hx)) e2⟩
  | [],_::_,K,h=>h.elim
  | _::_,[],K,h=>h.elim
def mpF (ρ:List Nat):List (Nat × AV)→List (Nat × AV)→(List AV→List AV→Prop)→Prop
  | [],_,K=>K [] []
  | (s,v)::r,l,K=>fA (lkA l s) fun a=>mpA ρ 3 v a fun b=>mpF ρ r l fun bs es=>K (b::bs) (a::es)
class GoodF (l:List (Nat × AV)):Prop where
  out:∀ s v,(s,v)∈l→gA 3 v
instance:GoodF []:=⟨fun s v h=>by cases h⟩
instance {s:Nat} {v:AV} {r:List (Nat × AV)} [h:GoodA 3 v] [t:GoodF r]:GoodF ((s,v)::r):=⟨fun s' v' hb=>by
  cases hb with
  | head=>exact h.out
  | tail _ hb=>exact t.out s' v' hb⟩
theorem mpF_ok {ρ:List Nat}:∀ {l' l:List (Nat × AV)} {K:List AV→List AV→Prop},mpF ρ l' l K→∃ bs es,K bs es∧((∀ s v,(s,v)∈l'→gA 3 v)→bs=es→RenA ρ l' l)
  | [],l,K,h=>⟨[],[],h,fun _ _=>trivial⟩
  | (s,v)::r,l,K,h=>by
    have h:=fA_ok (a:=lkA l s) (K:=fun a=>mpA ρ 3 v a fun b=>mpF ρ r l fun bs es=>K (b::bs) (a::es)) h
    obtain ⟨b,h1,h2⟩:=mpA_ok h
    obtain ⟨bs,es,h3,h4⟩:=mpF_ok h1
    refine ⟨b::bs,lkA l s::es,h3,fun hg e=>?_⟩
    injection e with e1 e2
    exact ⟨h2 (hg _ _ (.head _)) e1,h4 (fun s v hv=>hg s v (.tail _ hv)) e2⟩
def nilC:List (Nat × TypeId × Nat)→List (Nat × AV)→List Ob→Nat→(List (Nat × AV)→List Ob→Prop)→Prop
  | [],l,aw,_,K=>K l aw
  | (s,e,z)::r,l,aw,c,K=>(match lkA l s with
    | .nils=>pushC aw (.arr e z []) fun aw=>nilC r ((s,.ref c)::l) aw (c+1) K
    | _=>False)
theorem nilC_ok:∀ {nl:List (Nat × TypeId × Nat)} {l:List (Nat × AV)} {aw:List Ob} {c:Nat} {K:List (Nat × AV)→List Ob→Prop},aw.length=c→(nl.all fun p=>Nat.blt p.1 n)=true→nilC nl l aw c K→K (nilA n nl l aw).1 (nilA n nl l aw).2
  | [],l,aw,c,K,_,_,h=>h
  | (s,e,z)::r,l,aw,c,K,hc,hn,h=>by
    subst hc
    unfold nilC at h
    rw [List.all_cons,Bool.and_eq_true] at hn
    split at h
    · rename_i hv
      have h:=nilC_ok (nl:=r) (by simp) hn.2 (pushC_ok h)
      unfold nilA
      simp only [hn.1,hv]
      exact h
    · exact h.elim
theorem wk (nl:List (Nat × TypeId × Nat)) (ρ:List Nat) (c:Nat) {l':List (Nat × AV)} (h:nilC nl l aw c fun l aw=>mpF ρ l' l fun bs es=>mpOs ρ aw ρ aw' fun bs' es'=>(bs,bs')=(es,es')) [g:GoodF l'] [g':GoodOs aw'] (hc:aw.length=c:=by rfl) (hn:(nl.all fun p=>Nat.blt p.1 n)=true:=by rfl)
    (h1:ρ.Nodup:=by decide) (h2:∀ k,k<N→ρ[k]?=some k:=by decide):Weak N (mkA n l) aw (mkA n l') aw':=by
  have h:=nilC_ok hc hn h
  obtain ⟨bs,es,h,h3⟩:=mpF_ok h
  obtain ⟨bs',es',h,h4⟩:=mpOs_ok h
  injection h with e1 e2
  exact Weak.mkN nl ρ h1 h2 rfl (h3 g.out e1) (h4 g'.out e2)
def nilVC:List (Nat × TypeId × Nat)→List AV→List Ob→Nat→(List AV→List Ob→Prop)→Prop
  | [],vs,aw,_,K=>K vs aw
  | (s,e,z)::r,vs,aw,c,K=>getC vs s fun v=>(match v with
    | .nils=>setC vs s (.ref c) fun vs=>pushC aw (.arr e z []) fun aw=>nilVC r vs aw (c+1) K
    | _=>False)
theorem nilVC_ok:∀ {nl:List (Nat × TypeId × Nat)} {vs:List AV} {aw:List Ob} {c:Nat} {K:List AV→List Ob→Prop},aw.length=c→nilVC nl vs aw c K→K (nilify nl vs aw).1 (nilify nl vs aw).2
  | [],vs,aw,c,K,_,h=>h
  | (s,e,z)::r,vs,aw,c,K,hc,h=>by
    subst hc
    obtain ⟨v,h1,h⟩:=Vna h
    split at h
    · have h:=nilVC_ok (nl:=r) (by simp) (pushC_ok (setC_ok h))
      unfold nilify
      simp only [h1]
      exact h
    · exact h.elim
section
variable {Q:Exit→List AV→List Ob→Prop} {rs:List ResultVar} {V:AV} {obs:List Ob} {M:Nat}
theorem T.rO (ht:tt.Ok P) (nl:List (Nat × TypeId × Nat)) (ρ:List Nat) (c:Nat)
    (h:resC tt n l aw rs fun vs=>nilVC nl vs aw c fun vs aw=>fA (retAV vs) fun a=>mpA ρ 3 V a fun b=>mpOs ρ aw ρ obs fun bs es=>(b,bs)=(a,es))
    [hq:RetI Q (fun fr aw=>vcRes P fr aw rs (Ret M (fun r aw'=>r=V∧aw'=obs) aw))] [g:GoodA 3 V] [g':GoodOs obs] (hc:aw.length=c:=by rfl) (h1:ρ.Nodup:=by decide) (h2:∀ k,k<M→ρ[k]?=some k:=by decide):T P N .ret Q (mkA n l) aw:=by
  refine T.rt (R:=fun fr aw=>vcRes P fr aw rs (Ret M (fun r aw'=>r=V∧aw'=obs) aw)) (resC_ok ht (fun vs hv=>?_) h)
  have h:=nilVC_ok hc hv
  have h:=fA_ok (K:=fun a=>mpA ρ 3 V a fun b=>mpOs ρ (nilify nl vs aw).2 ρ obs fun bs es=>(b,bs)=(a,es)) h
  obtain ⟨b,h,h3⟩:=mpA_ok h
  obtain ⟨bs,es,h,h4⟩:=mpOs_ok h
  injection h with e1 e2
  exact Q5b V nl ρ h1 h2 rfl (h3 g.out e1) (h4 g'.out e2) ⟨rfl,rfl⟩
theorem T.rN (ht:tt.Ok P) (ρ:List Nat) (h:resC tt n l aw rs fun vs=>nrmRC aw (retAV vs) fun a aw=>mpA ρ 3 V a fun b=>mpOs ρ aw ρ obs fun bs es=>(b,bs)=(a,es))
    [hq:RetI Q (fun fr aw=>vcRes P fr aw rs (Ret M (fun r aw'=>r=V∧aw'=obs) aw))] [g:GoodA 3 V] [g':GoodOs obs] (h1:ρ.Nodup:=by decide) (h2:∀ k,k<M→ρ[k]?=some k:=by decide):T P N .ret Q (mkA n l) aw:=by
  refine T.rt (R:=fun fr aw=>vcRes P fr aw rs (Ret M (fun r aw'=>r=V∧aw'=obs) aw)) (resC_ok ht (fun vs hv=>?_) h)
  have h:=nrmRC_ok hv
  obtain ⟨b,h,h3⟩:=mpA_ok h
  obtain ⟨bs,es,h,h4⟩:=mpOs_ok h
  injection h with e1 e2
  exact ret_norm V ρ rfl h1 h2 (h3 g.out e1) (h4 g'.out e2) ⟨rfl,rfl⟩
end
def stD (l:List (Nat × AV)) (d:Option Tmp) (r:AV) (K:List (Nat × AV)→Prop):Prop :=
  match d with
  | some t=>K ((t,r)::l)
  | none=>K l
theorem stD_ok {d:Option Tmp} {r:AV} {K:List (Nat × AV)→Prop} (h:stD l d r K):K (putA l d r):=by cases d<;>exact h
section
variable {ops:Array Oper} {os:List Oper} {K:List AV→List Ob→Prop} {k:Nat} {li li':Array Bool} {o:Oper} {fr fr':List AV}
theorem yg' (ht:tt.Ok P) (c:Nat) {j t:Nat} {want b:Bool} (hbw:b=want) (h:wE tt n l aw c o.op fun r aw _=>stD l o.dst r fun l=>RS P N ops os K (mkA n l) aw)
    (hg:o.guard=some (j,want)) (hj:(ops[j]?).bind (·.dst)=some t) (hb:evA n l (.tmp t)=.bool b) (hc:aw.length=c):RS P N ops (o::os) K (mkA n l) aw :=
  RS.yes hg hj hb hbw ((wE_ok ht hc h).mono fun r aw' h=>stD_ok (K:=fun l=>RS P N ops os K (mkA n l) aw') h)
theorem oy' (ht:tt.Ok P) {i:Nat} (c:Nat) {j t:Nat} {want b:Bool} (hbw:b=want) (hi:ops[i]?=some o) (h:wE tt n l aw c o.op fun r aw _=>stD l o.dst r fun l=>K (mkA n l) aw)
    (hg:o.guard=some (j,want)) (hj:(ops[j]?).bind (·.dst)=some t) (hb:evA n l (.tmp t)=.bool b) (hc:aw.length=c):RO P N ops i K (mkA n l) aw :=
  RO.yes hi hg hj hb hbw ((wE_ok ht hc h).mono fun r aw' h=>stD_ok (K:=fun l=>K (mkA n l) aw') h)
theorem ry' (ht:tt.Ok P) (i:Nat) {j t:Nat} {want b:Bool} (hbw:b=want) (hi:ops[i]?=some o) (h:wV tt n l aw o.op fun r=>stD l o.dst r fun l=>RA P N ops k (li.setIfInBounds i true) K (mkA n l) aw)
    (hs:Region.noSelect ops=true) (hf:Region.free .any ops li i=true) (hr:(Region.ready .any ops li).contains i=true)
    (hg:o.guard=some (j,want)) (hj:(ops[j]?).bind (·.dst)=some t) (hb:evA n l (.tmp t)=.bool b) (hn:quietOp o.op=true):RA P N ops (k+1) li K (mkA n l) aw :=
  ⟨fun st e1 e2 σ w F a hc R hR=>by
    obtain ⟨v,r,hrun,hrel,hk⟩:=oper_all hc hn (wV_ok ht h)
    refine wpAny_take hi hs hf hr (fun c a w hp=>hp) (.inl ⟨by simp [Region.wanted,hg,Jjb hc hj hb,hbw],hrun⟩) (RA.out (stD_ok (K:=fun l=>RA P N ops k (li.setIfInBounds i true) K (mkA n l) aw) hk) st e1 e2 σ w F _ ?_ R hR)
    have:=V4a hc hrel o.dst
    rwa [V3a] at this⟩
open RK in
theorem rL' (ht:tt.Ok P) (D:List Nat) (i:Nat) (hi:ops[i]?=some o) (h:wV tt n l aw o.op fun r=>stD l o.dst r fun l=>RA P N ops k (li.setIfInBounds i true) K (mkA n l) aw)
    (hs:Region.noSelect ops=true) (hf:loadFree ops li D i=true) (hr:(Region.ready .any ops li).contains i=true) (hg:o.guard=none):RA P N ops (k+1) li K (mkA n l) aw :=
  ⟨fun st e1 e2 σ w F a hc R hR=>by
    obtain ⟨v,r,hrun,hrel,hk⟩:=oper_over hc (wV_ok ht h)
    refine wpAny_takeLoad D hi hs hf hr (fun c a w hp=>hp) (.inl ⟨by simp [Region.wanted,hg],hrun⟩) (RA.out (stD_ok (K:=fun l=>RA P N ops k (li.setIfInBounds i true) K (mkA n l) aw) hk) st e1 e2 σ w F _ ?_ R hR)
    have:=V4a hc hrel o.dst
    rwa [V3a] at this⟩
theorem sO (h:OP P N o (mkA n l) aw fun r aw=>stD l o.dst r fun l=>RS P N ops os K (mkA n l) aw) (hg:o.guard=none:=by rfl):RS P N ops (o::os) K (mkA n l) aw :=
  RS.op hg (h.mono fun r aw' h=>stD_ok (K:=fun l=>RS P N ops os K (mkA n l) aw') h)
theorem sQ (h:vcQ P (mkA n l) aw o.op fun r=>stD l o.dst r fun l=>RS P N ops os K (mkA n l) aw) (hg:o.guard=none:=by rfl) (hq:alwaysQ o.op=true:=by rfl):RS P N ops (o::os) K (mkA n l) aw :=
  sO (OP.q (K2:=fun r aw=>stD l o.dst r fun l=>RS P N ops os K (mkA n l) aw) hq h) hg
theorem yO {j t:Nat} {want b:Bool} (hbw:b=want) (h:OP P N o (mkA n l) aw fun r aw=>stD l o.dst r fun l=>RS P N ops os K (mkA n l) aw) (hg:o.guard=some (j,want):=by rfl) (hj:(ops[j]?).bind (·.dst)=some t:=by rfl) (hb:evA n l (.tmp t)=.bool b:=by rfl) :
    RS P N ops (o::os) K (mkA n l) aw:=RS.yes hg hj hb hbw (h.mono fun r aw' h=>stD_ok (K:=fun l=>RS P N ops os K (mkA n l) aw') h)
theorem yQ {j t:Nat} {want b:Bool} (hbw:b=want) (h:vcQ P (mkA n l) aw o.op fun r=>stD l o.dst r fun l=>RS P N ops os K (mkA n l) aw) (hg:o.guard=some (j,want):=by rfl) (hj:(ops[j]?).bind (·.dst)=some t:=by rfl) (hb:evA n l (.tmp t)=.bool b:=by rfl) (hq:alwaysQ o.op=true:=by rfl) :
    RS P N ops (o::os) K (mkA n l) aw:=yO hbw (OP.q (K2:=fun r aw=>stD l o.dst r fun l=>RS P N ops os K (mkA n l) aw) hq h) hg hj hb
theorem sN {j t:Nat} {want b:Bool} (hbw:b=!want) (h:stD l o.dst (.tup []) fun l=>RS P N ops os K (mkA n l) aw) (hg:o.guard=some (j,want):=by rfl) (hj:(ops[j]?).bind (·.dst)=some t:=by rfl) (hb:evA n l (.tmp t)=.bool b:=by rfl) :
    RS P N ops (o::os) K (mkA n l) aw:=RS.no hg hj hb hbw (stD_ok (K:=fun l=>RS P N ops os K (mkA n l) aw) h)
theorem sU {j t:Nat} {want:Bool} (h:stD l o.dst (.tup []) fun l=>RS P N ops os K (mkA n l) aw) (hg:o.guard=some (j,want):=by rfl) (hj:(ops[j]?).bind (·.dst)=some t:=by rfl) (hb:evA n l (.tmp t)=.tup []:=by rfl) :
    RS P N ops (o::os) K (mkA n l) aw:=RS.nou hg hj hb (stD_ok (K:=fun l=>RS P N ops os K (mkA n l) aw) h)
theorem oO {i:Nat} (hi:ops[i]?=some o) (h:OP P N o (mkA n l) aw fun r aw=>stD l o.dst r fun l=>K (mkA n l) aw) (hg:o.guard=none:=by rfl):RO P N ops i K (mkA n l) aw :=
  RO.op hi hg (h.mono fun r aw' h=>stD_ok (K:=fun l=>K (mkA n l) aw') h)
theorem oP {i:Nat} (hi:ops[i]?=some o) {j t:Nat} {want b:Bool} (hbw:b=want) (h:OP P N o (mkA n l) aw fun r aw=>stD l o.dst r fun l=>K (mkA n l) aw) (hg:o.guard=some (j,want):=by rfl) (hj:(ops[j]?).bind (·.dst)=some t:=by rfl) (hb:evA n l (.tmp t)=.bool b:=by rfl):RO P N ops i K (mkA n l) aw :=
  RO.yes hi hg hj hb hbw (h.mono fun r aw' h=>stD_ok (K:=fun l=>K (mkA n l) aw') h)
theorem r0 (i:Nat) (hi:ops[i]?=some o) (h:vcQ P (mkA n l) aw o.op fun r=>stD l o.dst r fun l=>RA P N ops k (li.setIfInBounds i true) K (mkA n l) aw) (hs:Region.noSelect ops=true:=by decide +kernel) (hf:Region.free .any ops li i=true:=by decide +kernel)
    (hr:(Region.ready .any ops li).contains i=true:=by decide +kernel) (hg:o.guard=none:=by rfl) (hn:quietOp o.op=true:=by rfl):RA P N ops (k+1) li K (mkA n l) aw :=
  ⟨fun st e1 e2 σ w F a hc R hR=>by
    obtain ⟨v,r,hrun,hrel,hk⟩:=oper_all hc hn h
    refine wpAny_take hi hs hf hr (fun c a w hp=>hp) (.inl ⟨by simp [Region.wanted,hg],hrun⟩) (RA.out (stD_ok (K:=fun l=>RA P N ops k (li.setIfInBounds i true) K (mkA n l) aw) hk) st e1 e2 σ w F _ ?_ R hR)
    have:=V4a hc hrel o.dst
    rwa [V3a] at this⟩
theorem r1 (i:Nat) (hi:ops[i]?=some o) {j t:Nat} {want b:Bool} (hbw:b=want) (h:vcQ P (mkA n l) aw o.op fun r=>stD l o.dst r fun l=>RA P N ops k (li.setIfInBounds i true) K (mkA n l) aw) (hs:Region.noSelect ops=true:=by decide +kernel) (hf:Region.free .any ops li i=true:=by decide +kernel)
    (hr:(Region.ready .any ops li).contains i=true:=by decide +kernel) (hg:o.guard=some (j,want):=by rfl) (hj:(ops[j]?).bind (·.dst)=some t:=by rfl) (hb:evA n l (.tmp t)=.bool b:=by rfl) (hn:quietOp o.op=true:=by rfl):RA P N ops (k+1) li K (mkA n l) aw :=
  ⟨fun st e1 e2 σ w F a hc R hR=>by
    obtain ⟨v,r,hrun,hrel,hk⟩:=oper_all hc hn h
    refine wpAny_take hi hs hf hr (fun c a w hp=>hp) (.inl ⟨by simp [Region.wanted,hg,Jjb hc hj hb,hbw],hrun⟩) (RA.out (stD_ok (K:=fun l=>RA P N ops k (li.setIfInBounds i true) K (mkA n l) aw) hk) st e1 e2 σ w F _ ?_ R hR)
    have:=V4a hc hrel o.dst
    rwa [V3a] at this⟩
theorem r2 (i:Nat) (hi:ops[i]?=some o) {j t:Nat} {want b:Bool} (hbw:b=!want) (h:stD l o.dst (.tup []) fun l=>RA P N ops k (li.setIfInBounds i true) K (mkA n l) aw) (hs:Region.noSelect ops=true:=by decide +kernel) (hf:Region.free .any ops li i=true:=by decide +kernel)
    (hr:(Region.ready .any ops li).contains i=true:=by decide +kernel) (hg:o.guard=some (j,want):=by rfl) (hj:(ops[j]?).bind (·.dst)=some t:=by rfl) (hb:evA n l (.tmp t)=.bool b:=by rfl):RA P N ops (k+1) li K (mkA n l) aw :=
  RA.t2 hi hs hf hr rfl hg hj hb hbw (stD_ok (K:=fun l=>RA P N ops k (li.setIfInBounds i true) K (mkA n l) aw) h)
theorem r3 (i:Nat) (hi:ops[i]?=some o) {j t:Nat} {want:Bool} (h:stD l o.dst (.tup []) fun l=>RA P N ops k (li.setIfInBounds i true) K (mkA n l) aw) (hs:Region.noSelect ops=true:=by decide +kernel) (hf:Region.free .any ops li i=true:=by decide +kernel)
    (hr:(Region.ready .any ops li).contains i=true:=by decide +kernel) (hg:o.guard=some (j,want):=by rfl) (hj:(ops[j]?).bind (·.dst)=some t:=by rfl) (hb:evA n l (.tmp t)=.tup []:=by rfl):RA P N ops (k+1) li K (mkA n l) aw :=
  RA.t3 hi hs hf hr rfl hg hj hb (stD_ok (K:=fun l=>RA P N ops k (li.setIfInBounds i true) K (mkA n l) aw) h)
def nfL (f:AV→(AV→Prop)→Prop):List AV→(List AV→Prop)→Prop
  | [],K=>K []
  | a::es,K=>f a fun a=>nfL f es fun es=>K (a::es)
def nfA:Nat→AV→(AV→Prop)→Prop
  | 0,a,K=>fA a K
  | k+1,a,K=>(match a with
    | .agg cs=>nfL (nfA k) cs fun cs=>K (.agg cs)
    | .tup cs=>nfL (nfA k) cs fun cs=>K (.tup cs)
    | .func f cs=>nfL (nfA k) cs fun cs=>K (.func f cs)
    | a=>fA a K)
theorem nfL_ok {f:AV→(AV→Prop)→Prop} (hf:∀ {a:AV} {K:AV→Prop},f a K→K a):∀ {es:List AV} {K:List AV→Prop},nfL f es K→K es
  | [],K,h=>h
  | a::es,K,h=>nfL_ok hf (es:=es) (K:=fun es=>K (a::es)) (hf h)
theorem nfA_ok:∀ {k:Nat} {a:AV} {K:AV→Prop},nfA k a K→K a:=by
  intro k
  induction k with
  | zero=>exact fun h=>fA_ok h
  | succ k ih =>
    intro a K h
    cases a<;>first | exact fA_ok h | exact nfL_ok ih (K:=fun cs=>K (.agg cs)) h | exact nfL_ok ih (K:=fun cs=>K (.tup cs)) h | exact nfL_ok ih (K:=fun cs=>K (.func _ cs)) h
def nfF (g:AV→AV):List (Nat × AV)→(List (Nat × AV)→Prop)→Prop
  | [],K=>K []
  | (s,v)::r,K=>nfA 2 (g v) fun v=>nfF g r fun r=>K ((s,v)::r)
theorem nfF_ok {g:AV→AV}:∀ {l:List (Nat × AV)} {K:List (Nat × AV)→Prop},nfF g l K→K (l.map fun p=>(p.1,g p.2))
  | [],K,h=>h
  | (s,v)::r,K,h=>nfF_ok (l:=r) (K:=fun r=>K ((s,g v)::r)) (nfA_ok (K:=fun v=>nfF g r fun r=>K ((s,v)::r)) h)
def nfO (g:AV→AV):List Ob→(List Ob→Prop)→Prop
  | [],K=>K []
  | o::os,K=>(match o with
    | .box cs=>nfL (nfA 1) (cs.map g) fun cs=>nfO g os fun os=>K (.box cs::os)
    | o=>nfO g os fun os=>K (o::os))
theorem nfO_ok {id:Nat} {rows:List (List AV)}:∀ {os:List Ob} {K:List Ob→Prop},nfO (fz2 id rows) os K→K (os.map (fzOb id rows))
  | [],K,h=>h
  | o::os,K,h=>by
    cases o with
    | box cs=>exact nfO_ok (os:=os) (K:=fun os=>K (.box (cs.map (fz2 id rows))::os)) (nfL_ok nfA_ok (K:=fun cs=>nfO (fz2 id rows) os fun os=>K (.box cs::os)) h)
    | _=>exact nfO_ok (os:=os) (K:=fun os=>K (_::os)) h
def fzC (aw:List Ob) (l:List (Nat × AV)) (id:Nat) (K:List (Nat × AV)→List Ob→Prop):Prop :=
  getC aw id fun o=>(match o with
    | .arr _ _ rows=>nfF (fzV id rows) l fun l=>setC aw id .dead fun aw=>nfO (fz2 id rows) aw fun aw=>K l aw
    | _=>False)
theorem fzC_ok {id:Nat} {K:List (Nat × AV)→List Ob→Prop} (h:fzC aw l id K):∃ e s rows,aw[id]?=some (.arr e s rows)∧K (fzA id rows l) ((aw.set id .dead).map (fzOb id rows)):=by
  obtain ⟨o,h1,h⟩:=Vna h
  split at h
  · exact ⟨_,_,_,h1,nfO_ok (setC_ok (nfF_ok h))⟩
  · exact h.elim
theorem T.fC (id:Nat) {c:Code} {Q:Exit→List AV→List Ob→Prop} (h:fzC aw l id fun l aw=>T P N c Q (mkA n l) aw):T P N c Q (mkA n l) aw:=by
  obtain ⟨e,s,rows,h1,h2⟩:=fzC_ok h
  exact T.fz id h1 rfl rfl h2
theorem RS.fC (id:Nat) (h:fzC aw l id fun l aw=>RS P N ops os K (mkA n l) aw):RS P N ops os K (mkA n l) aw:=by
  obtain ⟨e,s,rows,h1,h2⟩:=fzC_ok h
  exact RS.fz id h1 rfl rfl h2
theorem RA.fC (id:Nat) (h:fzC aw l id fun l aw=>RA P N ops k li K (mkA n l) aw):RA P N ops k li K (mkA n l) aw:=by
  obtain ⟨e,s,rows,h1,h2⟩:=fzC_ok h
  exact RA.fz id h1 rfl rfl h2
theorem RO.fC {i:Nat} (id:Nat) (h:fzC aw l id fun l aw=>RO P N ops i K (mkA n l) aw):RO P N ops i K (mkA n l) aw:=by
  obtain ⟨e,s,rows,h1,h2⟩:=fzC_ok h
  exact RO.fz id h1 rfl rfl h2
theorem RA.jn (k':Nat) (li':Array Bool) {fr':List AV} {aw':List Ob} (h2:RA P N ops k' li' K fr' aw'→RA P N ops k li K fr aw) (h:RA P N ops k' li' K fr' aw'):RA P N ops k li K fr aw:=h2 h
theorem raE (h:RA P N ops k li' K fr aw) (hl:li=li':=by decide +kernel):RA P N ops k li K fr aw:=by subst hl;exact h
theorem subF_ok {l':List (Nat × AV)} (h:l'.map (fun p=>lkA l p.1)=l'.map (fun p=>lkA l' p.1)) (t:Nat):lkA l' t=.any∨lkA l' t=lkA l t:=by
  have key:∀ (q:List (Nat × AV)),q.map (fun p=>lkA l p.1)=q.map (fun p=>lkA l' p.1)→lkA q t=.any∨lkA l' t=lkA l t:=by
    intro q
    induction q with
    | nil=>intro _;exact .inl rfl
    | cons p q ih =>
      intro h
      simp only [List.map_cons,List.cons.injEq] at h
      obtain ⟨s,v⟩:=p
      rw [lkA_cons]
      by_cases e:s=t
      · subst e;exact .inr h.1.symm
      · rw [if_neg e];exact ih h.2
  exact key l' h
theorem cur_subF {l':List (Nat × AV)} {st:St} {σ:List Value} {w:World} {F:Nat→Prop} {a:Act} (h:l'.map (fun p=>lkA l p.1)=l'.map (fun p=>lkA l' p.1)) (hc:Cur st (mkA n l) aw σ w F a):Cur st (mkA n l') aw σ w F a:=by
  refine ⟨hc.sim,⟨⟨?_,fun j x v hx hv=>?_⟩,hc.fr.2⟩,hc.mv⟩
  · have:=hc.fr.1.1
    rw [len_mkA] at this ⊢
    exact this
  · rw [get_mkA] at hx
    split at hx
    · rename_i hj
      cases hx
      rcases subF_ok h j with e | e
      · rw [e];exact .any _
      · rw [e];exact hc.fr.1.2 j _ v (by rw [get_mkA,if_pos hj]) hv
    · cases hx
theorem raT {l':List (Nat × AV)} (h:RA P N ops k li' K (mkA n l') aw) (hs:l'.map (fun p=>lkA l p.1)=l'.map (fun p=>lkA l' p.1):=by rfl) (hl:li=li':=by decide +kernel):RA P N ops k li K (mkA n l) aw:=by
  subst hl
  exact ⟨fun st h1 h2 σ w F a hc=>h.out st h1 h2 σ w F a (cur_subF hs hc)⟩
theorem raV {l':List (Nat × AV)} {aw1:List Ob} (h:RA P N ops k li' K (mkA n l') aw1) (ρ:List Nat) (hw:mpF ρ l' l fun bs es=>mpOs ρ aw ρ aw1 fun bs' es'=>(bs,bs')=(es,es')) [g:GoodF l'] [g':GoodOs aw1]
    (h1:ρ.Nodup:=by decide) (h2:∀ k,k<N→ρ[k]?=some k:=by decide) (hl:li=li':=by decide +kernel):RA P N ops k li K (mkA n l) aw:=by
  subst hl
  obtain ⟨bs,es,hw,h3⟩:=mpF_ok hw
  obtain ⟨bs',es',hw,h4⟩:=mpOs_ok hw
  injection hw with e1 e2
  exact RA.weakR h (Weak.mk ρ h1 h2 (h3 g.out e1) (h4 g'.out e2))
theorem T.su {l':List (Nat × AV)} {c:Code} {Q:Exit→List AV→List Ob→Prop} (h:T P N c Q (mkA n l') aw) (hs:l'.map (fun p=>lkA l p.1)=l'.map (fun p=>lkA l' p.1):=by rfl):T P N c Q (mkA n l) aw:=⟨fun st h1 h2 σ w F a hc=>h.out st h1 h2 σ w F a (cur_subF hs hc)⟩
end
section
variable {Q:Exit→List AV→List Ob→Prop} {c1 c2:Code} {x:Operand}
theorem T.ci {α:Type} {b:Bool} {u v:Option α} {r:α} (h:(if b=true then u else v)=some r) (hx:evA n l x=.bool b) (ht:b=true→u=some r→T P N c1 Q (mkA n l) aw) (he:b=false→v=some r→T P N c2 Q (mkA n l) aw):T P N (.cond x c1 c2) Q (mkA n l) aw :=
  T.cond hx (fun hb=>ht hb (ite_T h hb)) (fun hb=>he hb (ite_F h hb))
theorem T.ct (hx:evA n l x=.bool true) (h:T P N c1 Q (mkA n l) aw):T P N (.cond x c1 c2) Q (mkA n l) aw:=T.cond hx (fun _=>h) (fun hb=>by cases hb)
theorem T.cf (hx:evA n l x=.bool false) (h:T P N c2 Q (mkA n l) aw):T P N (.cond x c1 c2) Q (mkA n l) aw:=T.cond hx (fun hb=>by cases hb) (fun _=>h)
def iniC:Nat→List AV→(List (Nat × AV)→Prop)→Prop
  | _,[],K=>K []
  | k,a::es,K=>iniC (k+1) es fun l=>K ((k,a)::l)
theorem iniC_ok:∀ {es:List AV} {k:Nat} {K:List (Nat × AV)→Prop},iniC k es K→K (initA k es)
  | [],k,K,h=>h
  | a::es,k,K,h=>iniC_ok (es:=es) (K:=fun l=>K ((k,a)::l)) h
theorem fnT {f:FuncId} {fn:Func} {c:Code} {args:List AV} {Q:AV→List Ob→Prop} {m:Nat} (N:Nat) (hf:P.funcs[f]?=some fn) (hm:fn.ntmps=m) (h:iniC 0 args fun l=>T P N c (retQ P fn N Q) (mkA m l) aw)
    (hb:fn.body=some c:=by rfl) (hN:aw.length=N:=by rfl) (hname:(fn.name == "runtime.NumGoroutine")=false:=by kernel_rfl) (hl:Nat.ble args.length m=true:=by rfl):ACalls P f args aw Q :=
  fn_of_T hN hf hb hname hm hl (iniC_ok (K:=fun l=>T P N c (retQ P fn N Q) (mkA m l) aw) h)
end
end
end Go.Proofs.YtfbmoockopakjaaGreat
namespace Go.Proofs.YtfbmoockopakjaaGreat
open Go.RowKit
set_option maxRecDepth 100000
set_option linter.unusedVariables false
def tyT:TT:=.n 72 (.n 29 (.n 25 (.n 23 (.n 22 (.l 3 (.it .i64)) (.l 22 (.sl 57 4))) (.n 24 (.l 23 (.ag [.nils,.int .i64 0,.int .i64 0] 3 [(0,1,22),(1,1,3),(2,1,3)])) (.l 24 (.ag [.nils,.int .i64 0,.int .i64 0] 3 [(0,1,22),(1,1,3),(2,1,3)])))) (.n 27 (.n 26 (.l 25 (.sl 29 1)) (.l 26 (.sl 3 1))) (.n 28 (.l 27 (.sl 84 3)) (.l 28 (.sl 77 2))))) (.n 52 (.n 32 (.n 31 (.l 29 (.sl 72 3)) (.l 31 (.ag [.nils,.nils,.nils,.nils,.nils] 5 [(0,1,26),(1,1,25),(2,1,27),(3,1,28),(4,1,29)]))) (.n 51 (.l 32 (.it .i64)) (.l 51 (.ag [.int .i64 0,.int .i64 0] 2 [(0,1,3),(1,1,3)])))) (.n 57 (.n 54 (.l 52 (.sc (.nilf))) (.l 54 (.sc (.nilf)))) (.n 66 (.l 57 (.ag [.int .i64 0,.int .i64 0,.nils,.nils] 4 [(0,1,3),(1,1,3),(2,1,26),(3,1,26)])) (.n 68 (.l 66 (.sc (.nilf))) (.l 68 (.sc (.nilp)))))))) (.n 120 (.n 79 (.n 77 (.n 76 (.l 72 (.ag [.int .i64 0,.int .i64 0,.int .i64 0] 3 [(0,1,3),(1,1,3),(2,1,3)])) (.l 76 (.sc (.nilf)))) (.n 78 (.l 77 (.ag [.int .i64 0,.int .i64 0] 2 [(0,1,3),(1,1,3)])) (.l 78 (.sc (.nilf))))) (.n 84 (.n 82 (.l 79 (.sc (.nilf))) (.l 82 (.sl 97 2))) (.n 97 (.l 84 (.ag [.int .i64 0,.nils,.int .i64 0] 3 [(0,1,3),(1,1,82),(2,1,3)])) (.l 97 (.ag [.int .i64 0,.int .i64 0] 2 [(0,1,3),(1,1,3)]))))) (.n 157 (.n 130 (.n 122 (.l 120 (.sc (.nilf))) (.l 122 (.ag [.nilf,.nilf] 2 [(0,1,120),(1,1,120)]))) (.n 153 (.l 130 (.sl 4 1)) (.l 153 (.it .u64)))) (.n 160 (.n 158 (.l 157 (.sc (.nilf))) (.l 158 (.ar [.nilf,.nilf,.nilf,.nilf] 4))) (.n 164 (.l 160 (.sl 164 2)) (.n 171 (.l 164 (.ag [.int .i64 0,.int .i64 0] 2 [(0,1,3),(1,1,3)])) (.l 171 (.it .u64)))))))
theorem tyT_ok:tyT.Ok Tryz.prog:=⟨⟨⟨⟨⟨⟨⟨Ty.k3,Ty.c3,Ty.i3⟩,Ty.z3,Tryz.underlying3⟩,⟨⟨Ty.k22,Ty.c22,Ty.i22⟩,Ty.z22,Ty.s22⟩⟩,⟨⟨⟨Ty.k23,Ty.c23,Ty.i23,Ty.z23,rfl⟩,Ty.p23,⟨Ty.f23_0,Ty.f23_1,Ty.f23_2,trivial⟩⟩,⟨⟨Ty.k24,Ty.c24,Ty.i24,Ty.z24,rfl⟩,Ty.p24,⟨Ty.f24_0,Ty.f24_1,Ty.f24_2,trivial⟩⟩⟩⟩,⟨⟨⟨⟨Ty.k25,Ty.c25,Ty.i25⟩,Ty.z25,Ty.s25⟩,⟨⟨Ty.k26,Ty.c26,Ty.i26⟩,Ty.z26,Ty.s26⟩⟩,⟨⟨⟨Ty.k27,Ty.c27,Ty.i27⟩,Ty.z27,Ty.s27⟩,⟨⟨Ty.k28,Ty.c28,Ty.i28⟩,Ty.z28,Ty.s28⟩⟩⟩⟩,⟨⟨⟨⟨⟨Ty.k29,Ty.c29,Ty.i29⟩,Ty.z29,Ty.s29⟩,⟨⟨Ty.k31,Ty.c31,Ty.i31,Ty.z31,rfl⟩,Ty.p31,⟨Ty.f31_0,Ty.f31_1,Ty.f31_2,Ty.f31_3,Ty.f31_4,trivial⟩⟩⟩,⟨⟨⟨Ty.k32,Ty.c32,Ty.i32⟩,Ty.z32,Tryz.underlying32⟩,⟨⟨Ty.k51,Ty.c51,Ty.i51,Ty.z51,rfl⟩,Ty.p51,⟨Ty.f51_0,Ty.f51_1,trivial⟩⟩⟩⟩,⟨⟨⟨⟨Ty.k52,Ty.c52,Ty.i52⟩,Ty.z52⟩,⟨⟨Ty.k54,Ty.c54,Ty.i54⟩,Ty.z54⟩⟩,⟨⟨⟨Ty.k57,Ty.c57,Ty.i57,Ty.z57,rfl⟩,Ty.p57,⟨Ty.f57_0,Ty.f57_1,Ty.f57_2,Ty.f57_3,trivial⟩⟩,⟨⟨⟨Ty.k66,Ty.c66,Ty.i66⟩,Ty.z66⟩,⟨⟨Ty.k68,Ty.c68,Ty.i68⟩,Ty.z68⟩⟩⟩⟩⟩⟩,⟨⟨⟨⟨⟨⟨Ty.k72,Ty.c72,Ty.i72,Ty.z72,rfl⟩,Ty.p72,⟨Ty.f72_0,Ty.f72_1,Ty.f72_2,trivial⟩⟩,⟨⟨Ty.k76,Ty.c76,Ty.i76⟩,Ty.z76⟩⟩,⟨⟨⟨Ty.k77,Ty.c77,Ty.i77,Ty.z77,rfl⟩,Ty.p77,⟨Ty.f77_0,Ty.f77_1,trivial⟩⟩,⟨⟨Ty.k78,Ty.c78,Ty.i78⟩,Ty.z78⟩⟩⟩,⟨⟨⟨⟨Ty.k79,Ty.c79,Ty.i79⟩,Ty.z79⟩,⟨⟨Ty.k82,Ty.c82,Ty.i82⟩,Ty.z82,Ty.s82⟩⟩,⟨⟨⟨Ty.k84,Ty.c84,Ty.i84,Ty.z84,rfl⟩,Ty.p84,⟨Ty.f84_0,Ty.f84_1,Ty.f84_2,trivial⟩⟩,⟨⟨Ty.k97,Ty.c97,Ty.i97,Ty.z97,rfl⟩,Ty.p97,⟨Ty.f97_0,Ty.f97_1,trivial⟩⟩⟩⟩⟩,⟨⟨⟨⟨⟨Ty.k120,Ty.c120,Ty.i120⟩,Ty.z120⟩,⟨⟨Ty.k122,Ty.c122,Ty.i122,Ty.z122,rfl⟩,Ty.p122,⟨Ty.f122_0,Ty.f122_1,trivial⟩⟩⟩,⟨⟨⟨Ty.k130,Ty.c130,Ty.i130⟩,Ty.z130,Ty.s130⟩,⟨⟨Ty.k153,Ty.c153,Ty.i153⟩,Ty.z153,Tryz.underlying153⟩⟩⟩,⟨⟨⟨⟨Ty.k157,Ty.c157,Ty.i157⟩,Ty.z157⟩,⟨Ty.k158,Ty.c158,Ty.i158,Ty.z158,rfl⟩⟩,⟨⟨⟨Ty.k160,Ty.c160,Ty.i160⟩,Ty.z160,Ty.s160⟩,⟨⟨⟨Ty.k164,Ty.c164,Ty.i164,Ty.z164,rfl⟩,Ty.p164,⟨Ty.f164_0,Ty.f164_1,trivial⟩⟩,⟨⟨Ty.k171,Ty.c171,Ty.i171⟩,Ty.z171,Tryz.underlying171⟩⟩⟩⟩⟩⟩⟩
section
variable {N n:Nat} {aw aw':List Ob} {l:List (Nat × AV)} {ops:Array Oper} {os:List Oper} {K:List AV→List Ob→Prop} {k:Nat} {li:Array Bool}
theorem go (m c:Nat) (h:wR tyT n m os l aw c fun os l aw=>RS Tryz.prog N ops os K (mkA n l) aw) (hc:aw.length=c:=by rfl):RS Tryz.prog N ops os K (mkA n l) aw:=RS.go tyT_ok hc h
theorem rq (is:List Nat) (k':Nat) (h:wQ tyT n ops.toList is l aw fun l=>RA Tryz.prog N ops k' (lisQ li is) K (mkA n l) aw) (hk:k=k' + is.length:=by rfl) (hs:Region.noSelect ops=true:=by decide +kernel) (ho:okQ ops li is=true:=by decide +kernel):RA Tryz.prog N ops k li K (mkA n l) aw:=RA.qs tyT_ok hs hk ho h
theorem og {i:Nat} (c:Nat) (h:getC ops.toList i fun o=>o.guard=none∧wE tyT n l aw c o.op fun r aw c=>(match o.dst with
  | some t=>K (mkA n ((t,r)::l)) aw
  | none=>K (mkA n l) aw)) (hc:aw.length=c:=by rfl):RO Tryz.prog N ops i K (mkA n l) aw:=RO.g tyT_ok hc h
variable {o:Oper} {Q:Exit→List AV→List Ob→Prop} {rs:List ResultVar} {V:AV} {obs:List Ob} {M:Nat}
theorem yg (c:Nat) {j t:Nat} {want b:Bool} (hbw:b=want) (h:wE tyT n l aw c o.op fun r aw _=>stD l o.dst r fun l=>RS Tryz.prog N ops os K (mkA n l) aw) (hg:o.guard=some (j,want):=by rfl) (hj:(ops[j]?).bind (·.dst)=some t:=by rfl) (hb:evA n l (.tmp t)=.bool b:=by rfl) (hc:aw.length=c:=by rfl):RS Tryz.prog N ops (o::os) K (mkA n l) aw:=yg' tyT_ok c hbw h hg hj hb hc
theorem oy {i:Nat} (c:Nat) {j t:Nat} {want b:Bool} (hbw:b=want) (hi:ops[i]?=some o) (h:wE tyT n l aw c o.op fun r aw _=>stD l o.dst r fun l=>K (mkA n l) aw) (hg:o.guard=some (j,want):=by rfl) (hj:(ops[j]?).bind (·.dst)=some t:=by rfl) (hb:evA n l (.tmp t)=.bool b:=by rfl) (hc:aw.length=c:=by rfl):RO Tryz.prog N ops i K (mkA n l) aw:=oy' tyT_ok c hbw hi h hg hj hb hc
theorem ry (i:Nat) {j t:Nat} {want b:Bool} (hbw:b=want) (hi:ops[i]?=some o) (h:wV tyT n l aw o.op fun r=>stD l o.dst r fun l=>RA Tryz.prog N ops k (li.setIfInBounds i true) K (mkA n l) aw) (hs:Region.noSelect ops=true:=by decide +kernel) (hf:Region.free .any ops li i=true:=by decide +kernel) (hr:(Region.ready .any ops li).contains i=true:=by decide +kernel) (hg:o.guard=some (j,want):=by rfl) (hj:(ops[j]?).bind (·.dst)=some t:=by rfl) (hb:evA n l (.tmp t)=.bool b:=by rfl) (hn:quietOp o.op=true:=by rfl):RA Tryz.prog N ops (k+1) li K (mkA n l) aw:=ry' tyT_ok i hbw hi h hs hf hr hg hj hb hn
theorem rL (D:List Nat) (i:Nat) (hi:ops[i]?=some o) (h:wV tyT n l aw o.op fun r=>stD l o.dst r fun l=>RA Tryz.prog N ops k (li.setIfInBounds i true) K (mkA n l) aw) (hs:Region.noSelect ops=true:=by decide +kernel) (hf:RK.loadFree ops li D i=true:=by decide +kernel) (hr:(Region.ready .any ops li).contains i=true:=by decide +kernel) (hg:o.guard=none:=by rfl):RA Tryz.prog N ops (k+1) li K (mkA n l) aw:=rL' tyT_ok D i hi h hs hf hr hg
theorem tD [hq:RetI Q (fun fr aw=>vcRes Tryz.prog fr aw rs (Ret 0 (fun r aw'=>r=V∧aw'=[]) aw))] [hV:PureC V] (h:resC tyT n l aw rs fun vs=>nrmRC aw (retAV vs) fun v _=>v=V:=by rfl):T Tryz.prog N .ret Q (mkA n l) aw:=T.rD tyT_ok h
theorem tO (nl:List (Nat × TypeId × Nat)) (ρ:List Nat) (c:Nat) [hq:RetI Q (fun fr aw=>vcRes Tryz.prog fr aw rs (Ret M (fun r aw'=>r=V∧aw'=obs) aw))] [g:GoodA 3 V] [g':GoodOs obs] (h:resC tyT n l aw rs fun vs=>nilVC nl vs aw c fun vs aw=>fA (retAV vs) fun a=>mpA ρ 3 V a fun b=>mpOs ρ aw ρ obs fun bs es=>(b,bs)=(a,es):=by rfl) (hc:aw.length=c:=by rfl) (h1:ρ.Nodup:=by decide) (h2:∀ k,k<M→ρ[k]?=some k:=by decide):T Tryz.prog N .ret Q (mkA n l) aw:=T.rO tyT_ok nl ρ c h hc h1 h2
theorem tN (ρ:List Nat) [hq:RetI Q (fun fr aw=>vcRes Tryz.prog fr aw rs (Ret M (fun r aw'=>r=V∧aw'=obs) aw))] [g:GoodA 3 V] [g':GoodOs obs] (h:resC tyT n l aw rs fun vs=>nrmRC aw (retAV vs) fun a aw=>mpA ρ 3 V a fun b=>mpOs ρ aw ρ obs fun bs es=>(b,bs)=(a,es):=by rfl) (h1:ρ.Nodup:=by decide) (h2:∀ k,k<M→ρ[k]?=some k:=by decide):T Tryz.prog N .ret Q (mkA n l) aw:=T.rN tyT_ok ρ h h1 h2
end
end Go.Proofs.YtfbmoockopakjaaGreat
namespace Go.Proofs.YtfbmoockopakjaaGreat
open Go.RowKit
set_option linter.unusedVariables false
set_option linter.unusedSimpArgs false
set_option maxRecDepth 100000
set_option maxHeartbeats 4000000
set_option synthInstance.maxSize 100000
set_option synthInstance.maxHeartbeats 4000000
theorem math_bits_Mul64_c (p0:Int) (p1:Int) (r:Int × Int) (h:math_bits_Mul64 p0 p1=some r):Fn Tryz.prog 145 [.int .u64 p0,.int .u64 p1] (.tup [.int .u64 r.1,.int .u64 r.2]):=by
  unfold math_bits_Mul64 at h
  refine fnT 0 Tryz.func145 Tryz.ntmps145 ?_
  refine T.seq (T.region (go 2 0 (RS.nil (T.seq (T.region (go 3 0 (RS.nil (T.seq ?_))))))))
  obtain ⟨x2,hx2,h⟩:=bind_some h
  refine T.region (go 1 0 (sQ (v_shr rfl rfl hx2 (go 1 0 (RS.nil (T.seq (T.region (go 3 0 (RS.nil (T.seq ?_))))))))))
  obtain ⟨x4,hx4,h⟩:=bind_some h
  refine T.region (go 1 0 (sQ (v_shr rfl rfl hx4 (go 1 0 (RS.nil (T.seq (T.region (go 4 0 (RS.nil (T.seq ?_))))))))))
  obtain ⟨x6,hx6,h⟩:=bind_some h
  refine T.region (go 4 0 (sQ (v_shr rfl rfl hx6 (go 2 0 (RS.nil (T.seq (T.region (go 3 0 (RS.nil (T.seq ?_))))))))))
  obtain ⟨x8,hx8,h⟩:=bind_some h
  refine T.region (go 1 0 (sQ (v_shr rfl rfl hx8 (go 1 0 (RS.nil (T.seq (T.region (go 6 0 (RS.nil (T.seq ?_))))))))))
  obtain ⟨x10,hx10,h⟩:=bind_some h
  refine T.region (go 6 0 (sQ (v_shr rfl rfl hx10 (go 2 0 (RS.nil (T.seq (T.region (go 4 0 (RS.nil ?_)))))))))
  cases h
  exact tD
theorem math_bits_Mul_c (p0:Int) (p1:Int) (r:Int × Int) (h:math_bits_Mul p0 p1=some r):Fn Tryz.prog 142 [.int .u64 p0,.int .u64 p1] (.tup [.int .u64 r.1,.int .u64 r.2]):=by
  unfold math_bits_Mul at h
  refine fnT 0 Tryz.func142 Tryz.ntmps142 ?_
  refine T.seq (T.region (go 2 0 (RS.nil (T.seq (T.cf rfl (T.skip (T.seq ?_)))))))
  obtain ⟨x2,hx2,h⟩:=bind_some h
  refine T.region (go 2 0 (sO (cF (math_bits_Mul64_c p0 p1 x2 hx2) ⟨rfl,(go 5 0 (RS.nil (T.seq (T.region (go 4 0 (RS.nil ?_))))))⟩)))
  cases h
  exact tD
theorem slices_Repeat_ends_c (p0:List Ends) (p1:Int) (r:List Ends) (h:Yma p0 p1=some r):FnO Tryz.prog 133 [sL Q4a p0,iI p1] (.ref 0) [aR 164 2 Q4a r]:=by
  unfold Yma at h
  refine fnT 0 Tryz.func133 Tryz.ntmps133 ?_
  refine T.seq (T.region (go 1 0 (RS.nil (T.seq (T.seq (T.region (go 2 0 (RS.nil (T.ci h rfl (fun hb_1 h=>?_) (fun hb_1 h=>?_))))))))))
  ·cases h
  refine T.skip (T.seq ?_)
  obtain ⟨x2,hx2,h⟩:=bind_some h
  refine T.region (go 1 0 (sQ (Qfa Ty.s160 rfl (go 3 0 (sO (cF (math_bits_Mul_c (IntKind.u64.wrap ((p0).length:Int)) (IntKind.u64.wrap p1) x2 hx2) ⟨rfl,(go 5 0 (RS.nil (T.seq (T.join (Z:=Unit) (fun _=>mkA 48 [(0,sL Q4a p0),(6,.int .u64 x2.2),(26,.bool ((decide (x2.1 > 0)) || decide (x2.2 > 9223372036854775807)))]) (fun _=>[]) (fun _=>True) (fun _ _=>?_) (fun hK=>?_)))))⟩))))))
  ·refine T.ci h rfl (fun hb_3 h=>?_) (fun hb_3 h=>?_)
   ·cases h
   refine T.skip (T.seq ?_)
   obtain ⟨x5,hx5,h⟩:=bind_some h
   refine T.region (go 2 0 (sO (o_mk (en:=Q4a) (zr:=(⟨0,0⟩:Ends)) Ty.s160 Ty.z164 rfl rfl hx5 rfl rfl (go 1 1 (RS.nil (T.seq (T.region (go 2 1 (sO (o_copy_rs (en:=Q4a) (xs:=x5) (ys:=p0) Ty.s160 (fun _=>rfl) rfl rfl rfl rfl (go 1 1 ?_)))))))))))
   refine RS.nil (T.seq (T.block (T.iter (fun ss_8:Int × (List Ends)=>mkA 48 [(7,.ref 0),(8,iI ss_8.1)]) (fun ss_8=>[aR 164 2 Q4a ss_8.2]) h (wk [] [0] 1 rfl) (fun ss_8 v_9 h hv_9=>?_))))
   obtain ⟨s6,s7⟩:=ss_8
   replace h:Jwa s6 s7=some v_9:=h
   try dsimp only
   unfold Jwa at h
   refine T.seq (T.seq (T.region (go 2 1 (sQ (Zfa (en:=Q4a) Ty.s160 rfl rfl (go 1 1 (RS.nil (T.ci h rfl (fun hb_10 h=>?_) (fun hb_10 h=>?_)))))))))
   ·refine T.skip (T.block ?_)
    obtain ⟨x8,hx8,h⟩:=bind_some h
    obtain ⟨x9,hx9,h⟩:=bind_some h
    obtain ⟨x10,hx10,h⟩:=bind_some h
    obtain ⟨x11,hx11,h⟩:=bind_some h
    refine T.drawn mixed (k:=10) rfl ?_
    apply RA.jn 3 #[true,true,true,true,true,true,true,false,false,false];intro hS11
    ·refine rq [0,1,2,4,5] 5 (ra2 3 6 ?_ ?_)
     ·refine oO rfl (Qyb (en:=Q4a) (xs:=s7) Ty.s160 rfl rfl rfl rfl hx8 (ra1 6 (oO rfl (Qyb (en:=Q4a) (xs:=s7) Ty.s160 rfl rfl rfl rfl hx9 ?_))))
      exact raE hS11
     ·refine oO rfl (Qyb (en:=Q4a) (xs:=s7) Ty.s160 rfl rfl rfl rfl hx9 (ra1 3 (oO rfl (Qyb (en:=Q4a) (xs:=s7) Ty.s160 rfl rfl rfl rfl hx8 ?_))))
      exact raT hS11
    refine ra1 7 (oO rfl (o_copy_vv (en:=Q4a) (xs:=s7) Ty.s160 (fun _=>rfl) rfl rfl rfl hx10 hx11 rfl (rq [8,9] 0 (RA.done (by decide +kernel) ?_))))
    exact ⟨(IntKind.i64.wrap (s6+((min ((((s7).length:Int)).toNat - (s6).toNat) ((s6).toNat - ((0:Int)).toNat):Nat):Int)),(cpy s7 ((s6).toNat) ((((s7).length:Int)).toNat - (s6).toNat) ((s7.drop (((0:Int)).toNat)).take ((s6).toNat - ((0:Int)).toNat)))),(Option.some.inj h).symm,wk [] [0] 1 rfl⟩
   refine T.exit ?_
   obtain ⟨w_12,h,hw_12⟩:=Qsa h
   replace h:=h.trans (congrArg some (hv_9 _ hw_12))
   refine T.seq (T.region (go 2 1 (RS.nil ?_)))
   cases h
   exact tO [] [0] 1
  refine T.region (go 3 0 ?_)
  rcases Qha (decide (x2.1 > 0)) with hb_2 | hb_2
  ·refine sN hb_2 (sN hb_2 (sQ (Qna (v:=.bool true) rfl hb_2 rfl (RS.nil ?_))))
   exact T.sub (hK () trivial) ⟨rfl,rfl,(congrArg AV.bool (by simp only [hb_2,bz,if_true,if_false,Bool.false_eq_true])).symm,trivial⟩
  refine yg 0 hb_2 (yg 0 hb_2 (sQ (Qia (v:=.bool (decide (x2.2 > 9223372036854775807))) rfl hb_2 rfl (RS.nil ?_))))
  exact T.sub (hK () trivial) ⟨rfl,rfl,(congrArg AV.bool (by simp only [hb_2,bz,if_true,if_false,Bool.false_eq_true])).symm,trivial⟩
theorem net_arity_c (p0:Int) (r:Int × Int × Bool) (h:net_arity p0=some r):Fn Tryz.prog 134 [iI p0] (.tup [iI r.1,iI r.2.1,.bool r.2.2]):=by
  unfold net_arity at h
  refine fnT 0 Tryz.func134 Tryz.ntmps134 ?_
  refine T.seq (T.region (go 3 0 (RS.nil (T.seq (T.seq (T.region (go 1 0 (RS.nil (T.block ?_)))))))))
  refine T.seq (T.region (go 2 0 (RS.nil (T.ci h rfl (fun hb_1 h=>?_) (fun hb_1 h=>?_)))))
  ·refine T.seq (T.region (go 3 0 (RS.nil ?_)))
   cases h
   exact tD
  refine T.join (Z:=Bool) (fun zz_4=>mkA 19 [(5,iI p0),(8,.bool zz_4)]) (fun zz_4=>[]) (fun zz_4=>Qwb p0 zz_4=some r) (fun zz_4 h=>?_) (fun hK2=>?_)
  ·revert h;revert zz_4;intro z1 h
   replace h:Qwb p0 z1=some r:=h
   try dsimp only
   unfold Qwb at h
   refine T.ci h rfl (fun hb_5 h=>?_) (fun hb_5 h=>?_)
   ·refine T.seq (T.region (go 3 0 (RS.nil ?_)))
    cases h
    exact tD
   refine T.join (Z:=Bool) (fun zz_7=>mkA 19 [(5,iI p0),(12,.bool zz_7)]) (fun zz_7=>[]) (fun zz_7=>Jmb p0 zz_7=some r) (fun zz_7 h=>?_) (fun hK1=>?_)
   ·revert h;revert zz_7;intro z2 h
    replace h:Jmb p0 z2=some r:=h
    try dsimp only
    unfold Jmb at h
    refine T.ci h rfl (fun hb_8 h=>?_) (fun hb_8 h=>?_)
    ·refine T.seq (T.region (go 3 0 (RS.nil ?_)))
     cases h
     exact tD
    refine T.seq (T.region (go 2 0 (RS.nil (T.ci h rfl (fun hb_9 h=>?_) (fun hb_9 h=>?_)))))
    ·refine T.seq (T.region (go 3 0 (RS.nil ?_)))
     cases h
     exact tD
    refine T.seq (T.region (go 2 0 (RS.nil (T.ci h rfl (fun hb_10 h=>?_) (fun hb_10 h=>?_)))))
    ·refine T.seq (T.region (go 3 0 (RS.nil ?_)))
     cases h
     exact tD
    refine T.skip (T.seq (T.region (go 3 0 (RS.nil ?_))))
    cases h
    exact tD
   refine T.seq (T.region (go 2 0 (RS.nil (T.ci h rfl (fun hb_11 h=>?_) (fun hb_11 h=>?_)))))
   ·refine T.skip ?_
    exact T.weakR (hK1 (p0==5) h) (wk [] [] 0 rfl)
   refine T.region (go 2 0 (RS.nil ?_))
   exact T.weakR (hK1 (p0==7) h) (wk [] [] 0 rfl)
  refine T.seq (T.region (go 2 0 (RS.nil (T.ci h rfl (fun hb_12 h=>?_) (fun hb_12 h=>?_)))))
  ·refine T.skip ?_
   exact T.weakR (hK2 (p0==2) h) (wk [] [] 0 rfl)
  refine T.seq (T.region (go 2 0 (RS.nil (T.ci h rfl (fun hb_13 h=>?_) (fun hb_13 h=>?_)))))
  ·refine T.skip ?_
   exact T.weakR (hK2 (p0==3) h) (wk [] [] 0 rfl)
  refine T.region (go 2 0 (RS.nil ?_))
  exact T.weakR (hK2 (p0==4) h) (wk [] [] 0 rfl)
theorem net_fits_c (p0:Int) (p1:Int) (r:Bool) (h:net_fits p0 p1=some r):Fn Tryz.prog 135 [iI p0,iI p1] (.bool r):=by
  unfold net_fits at h
  refine fnT 0 Tryz.func135 Tryz.ntmps135 ?_
  refine T.seq (T.region (go 1 0 (RS.nil (T.join (Z:=Unit) (fun _=>mkA 16 [(4,.bool ((p0==p1) || ((decide (p1<0)) && decide (p0 > 0))))]) (fun _=>[]) (fun _=>True) (fun _ _=>?_) (fun hK=>?_)))))
  ·cases h
   exact tD
  refine T.region (go 4 0 ?_)
  rcases Qha (p0==p1) with hb_1 | hb_1
  ·refine sN hb_1 (sN hb_1 (sN hb_1 (sU (sU (sN hb_1 (sQ (Qna (v:=.bool true) rfl hb_1 rfl (go 1 0 (RS.nil ?_)))))))))
   exact T.sub (hK () trivial) ⟨(congrArg AV.bool (by simp only [hb_1,bz,if_true,if_false,Bool.false_eq_true])).symm,trivial⟩
  refine yg 0 hb_1 (yg 0 hb_1 (yg 0 hb_1 ?_))
  rcases Qha (decide (p1<0)) with hb_2 | hb_2
  ·refine yg 0 hb_2 (yg 0 hb_2 (yQ hb_1 (Qna (v:=.bool (decide (p0 > 0))) rfl hb_2 rfl (sQ (Qia (v:=.bool (decide (p0 > 0))) rfl hb_1 rfl (go 1 0 (RS.nil ?_)))))))
   exact T.sub (hK () trivial) ⟨(congrArg AV.bool (by simp only [hb_1,hb_2,bz,if_true,if_false,Bool.false_eq_true])).symm,trivial⟩
  refine sN hb_2 (sN hb_2 (yQ hb_1 (Qia (v:=.bool false) rfl hb_2 rfl (sQ (Qia (v:=.bool false) rfl hb_1 rfl (go 1 0 (RS.nil ?_)))))))
  exact T.sub (hK () trivial) ⟨(congrArg AV.bool (by simp only [hb_1,hb_2,bz,if_true,if_false,Bool.false_eq_true])).symm,trivial⟩
theorem net_look_c (p0:Net) (r:(List Ends) × Int) (h:net_look p0=some r):FnO Tryz.prog 111 [.agg (Qma p0)] (.tup [.ref 0,iI r.2]) [aR 164 2 Q4a r.1]:=by
  unfold net_look at h
  refine fnT 0 Tryz.func111 Tryz.ntmps111 ?_
  refine T.seq (T.region (go 3 0 (RS.nil (T.seq (T.join (Z:=Unit) (fun _=>mkA 197 [(1,.ptr 0 0),(36,.bool ((decide (((p0.Nodes).length:Int)<1)) || ((decide (((p0.Nodes).length:Int) > 12)) || ((decide (p0.Rings<0)) || decide (p0.Rings > 16)))))]) (fun _=>[.box (Qma p0)]) (fun _=>True) (fun _ _=>?_) (fun hK=>?_))))))
  ·refine T.ci h rfl (fun hb_4 h=>?_) (fun hb_4 h=>?_)
   ·refine T.seq (T.region (go 2 1 (RS.nil ?_)))
    cases h
    exact tO [(0,164,2)] [1] 1
   refine T.skip (T.seq (T.join (Z:=Unit) (fun _=>mkA 197 [(1,.ptr 0 0),(44,.bool ((decide (p0.Room<1)) || decide (p0.Room > 6)))]) (fun _=>[.box (Qma p0)]) (fun _=>True) (fun _ _=>?_) (fun hK=>?_)))
   ·refine T.ci h rfl (fun hb_6 h=>?_) (fun hb_6 h=>?_)
    ·refine T.seq (T.region (go 2 1 (RS.nil ?_)))
     cases h
     exact tO [(0,164,2)] [1] 1
    refine T.skip (T.seq ?_)
    obtain ⟨x4,hx4,h⟩:=bind_some h
    refine T.region (go 1 1 (sO (Qva (rows:=List.map Q4a [(⟨(-1),(-1)⟩:Ends)]) (vs:=[.agg [iI (-1),iI (-1)]]) Ty.s160 Ty.z164 rfl rfl rfl rfl rfl rfl (go 2 2 (sO (cO 2 (slices_Repeat_ends_c ([(⟨(-1),(-1)⟩:Ends)]:List Ends) p0.Rings x4 hx4) ⟨rfl,(go 1 3 (RS.nil (T.seq (T.region (go 1 3 ?_)))))⟩))))))
    refine RS.nil (T.seq (T.seq (T.region (go 2 3 (sQ (Qfa Ty.s22 rfl (go 1 3 (RS.nil (T.block (T.iter (fun ss_123:Int × Int × (List Ends)=>mkA 197 [(1,.ptr 0 0),(4,.ref 1),(5,iI ss_123.1),(51,sL Qja p0.Nodes),(52,iI ((p0.Nodes).length:Int)),(53,iI ss_123.2.1)]) (fun ss_123=>[.box (Qma p0),aR 164 2 Q4a ss_123.2.2]) h (wk [] [0,2] 3 rfl) (fun ss_123 v_124 h hv_124=>?_)))))))))))
    obtain ⟨s5,s6,s7⟩:=ss_123
    replace h:Qtb p0 s5 s6 s7=some v_124:=h
    try dsimp only
    unfold Qtb at h
    refine T.seq (T.region (go 1 2 (RS.nil (T.seq (T.ci h rfl (fun hb_125 h=>?_) (fun hb_125 h=>?_))))))
    ·refine T.skip (T.seq (T.block (T.seq ?_)))
     obtain ⟨x9,hx9,h⟩:=bind_some h
     refine T.region (go 1 2 (sQ (Qda Ty.s22 (fun _=>rfl) rfl rfl hx9 (go 4 2 (RS.nil (T.seq ?_))))))
     obtain ⟨x11,hx11,h⟩:=bind_some h
     refine T.region (go 2 3 (sO (cF (net_arity_c x9.Kind x11 hx11) ⟨rfl,(go 7 3 (RS.nil (T.seq (T.seq (T.region (go 2 3 (RS.nil ?_)))))))⟩)))
     refine T.ci h rfl (fun hb_126 h=>?_) (fun hb_126 h=>?_)
     ·refine T.seq (T.region (go 2 3 (RS.nil ?_)))
      obtain ⟨w_127,h,hw_127⟩:=Qsa h
      replace h:=h.trans (congrArg some (hv_124 _ hw_127))
      cases h
      exact tO [(0,164,2)] [3] 3
     refine T.skip (T.seq ?_)
     obtain ⟨x12,hx12,h⟩:=bind_some h
     obtain ⟨zt_129,hz,h⟩:=bind_some h
     revert hz h;revert zt_129;intro c14 hz h
     refine T.join (Z:=Unit) (fun _=>mkA 197 [(1,.ptr 0 0),(4,.ref 1),(5,iI s5),(6,iI s6),(7,.ptr 2 0),(51,sL Qja p0.Nodes),(52,iI ((p0.Nodes).length:Int)),(53,iI s6),(80,.bool c14)]) (fun _=>[.box (Qma p0),aR 164 2 Q4a s7,.box (Qja x9)]) (fun _=>True) (fun _ _=>?_) (fun hK=>?_)
     ·refine T.ci h rfl (fun hb_130 h=>?_) (fun hb_130 h=>?_)
      ·refine T.seq (T.region (go 2 3 (RS.nil ?_)))
       obtain ⟨w_131,h,hw_131⟩:=Qsa h
       replace h:=h.trans (congrArg some (hv_124 _ hw_131))
       cases h
       exact tO [(0,164,2)] [3] 3
      refine T.skip (T.seq (T.join (Z:=Unit) (fun _=>mkA 197 [(1,.ptr 0 0),(4,.ref 1),(5,iI s5),(6,iI s6),(7,.ptr 2 0),(51,sL Qja p0.Nodes),(52,iI ((p0.Nodes).length:Int)),(53,iI s6),(118,.bool ((decide (x9.A<0)) || (if (x9.Kind==1)=true then ((decide (x9.A ≥ 4)) || (if (x9.Kind==2)=true then ((decide (x9.A > 3)) || ((x9.Kind != 1) && ((x9.Kind != 2) && x9.A != 0))) else ((x9.Kind != 1) && ((x9.Kind != 2) && x9.A != 0)))) else (if (x9.Kind==2)=true then ((decide (x9.A > 3)) || ((x9.Kind != 1) && ((x9.Kind != 2) && x9.A != 0))) else ((x9.Kind != 1) && ((x9.Kind != 2) && x9.A != 0))))))]) (fun _=>[.box (Qma p0),aR 164 2 Q4a s7,.box (Qja x9)]) (fun _=>True) (fun _ _=>?_) (fun hK=>?_)))
      ·refine T.ci h rfl (fun hb_147 h=>?_) (fun hb_147 h=>?_)
       ·refine T.seq (T.region (go 2 3 (RS.nil ?_)))
        obtain ⟨w_148,h,hw_148⟩:=Qsa h
        replace h:=h.trans (congrArg some (hv_124 _ hw_148))
        cases h
        exact tO [(0,164,2)] [3] 3
       refine T.skip (T.join (Z:=Int) (fun zz_150=>mkA 197 [(1,.ptr 0 0),(4,.ref 1),(5,iI zz_150),(6,iI s6),(7,.ptr 2 0),(51,sL Qja p0.Nodes),(52,iI ((p0.Nodes).length:Int)),(53,iI s6)]) (fun zz_150=>[.box (Qma p0),aR 164 2 Q4a s7,.box (Qja x9)]) (fun zz_150=>Jhb p0 s6 s7 x9 zz_150=some v_124) (fun zz_150 h=>?_) (fun hK3=>?_))
       ·revert h;revert zz_150;intro z15 h
        replace h:Jhb p0 s6 s7 x9 z15=some v_124:=h
        try dsimp only
        unfold Jhb at h
        refine T.seq (T.seq (T.region (go 2 3 (sQ (Qfa Ty.s26 rfl (go 1 3 (RS.nil (T.block (T.iter (fun ss_159:Int × (List Ends)=>mkA 197 [(1,.ptr 0 0),(4,.ref 1),(5,iI z15),(6,iI s6),(7,.ptr 2 0),(51,sL Qja p0.Nodes),(52,iI ((p0.Nodes).length:Int)),(53,iI s6),(125,sL encI x9.In),(126,iI ((x9.In).length:Int)),(127,iI ss_159.1)]) (fun ss_159=>[.box (Qma p0),aR 164 2 Q4a ss_159.2,.box (Qja x9)]) h (wk [] [0,1,2] 3 rfl) (fun ss_159 v_160 h hv_160=>?_))))))))))
        obtain ⟨s16,s17⟩:=ss_159
        replace h:Qpb p0 s6 x9 z15 s16 s17=some v_160:=h
        try dsimp only
        unfold Qpb at h
        refine T.seq (T.region (go 1 3 (RS.nil (T.seq (T.ci h rfl (fun hb_161 h=>?_) (fun hb_161 h=>?_))))))
        ·refine T.skip (T.seq (T.block (T.seq ?_)))
         obtain ⟨x19,hx19,h⟩:=bind_some h
         refine T.region (sQ (Qda Ty.s26 (fun _=>rfl) rfl rfl hx19 (go 2 3 (RS.nil (T.seq (T.join (Z:=Unit) (fun _=>mkA 197 [(1,.ptr 0 0),(4,.ref 1),(5,iI z15),(6,iI s6),(7,.ptr 2 0),(12,iI x19),(51,sL Qja p0.Nodes),(52,iI ((p0.Nodes).length:Int)),(53,iI s6),(125,sL encI x9.In),(126,iI ((x9.In).length:Int)),(127,iI s16),(138,.bool ((decide (x19<0)) || decide (x19 ≥ p0.Rings)))]) (fun _=>[.box (Qma p0),aR 164 2 Q4a s17,.box (Qja x9)]) (fun _=>True) (fun _ _=>?_) (fun hK=>?_)))))))
         ·refine T.ci h rfl (fun hb_163 h=>?_) (fun hb_163 h=>?_)
          ·refine T.seq (T.region (go 2 3 (RS.nil ?_)))
           obtain ⟨w_164,h,hw_164⟩:=Qsa h
           replace h:=h.trans (congrArg some (hv_160 _ hw_164))
           obtain ⟨w_165,h,hw_165⟩:=Qsa h
           replace h:=h.trans (congrArg some (hv_124 _ hw_165))
           cases h
           exact tO [(0,164,2)] [3] 3
          refine T.skip (T.seq (T.seq ?_))
          obtain ⟨x23,hx23,h⟩:=bind_some h
          obtain ⟨x24,hx24,h⟩:=bind_some h
          refine T.region (go 2 3 (sQ (Qoa (en:=Q4a) Ty.s160 rfl rfl rfl hx23 (go 1 3 (sO (Qwa (en:=Q4a) (a:=x24) rfl rfl hx24 (Jra Ty.k3 (c:=iI x24.dst) rfl (go 1 3 (RS.nil (T.ci h rfl (fun hb_166 h=>?_) (fun hb_166 h=>?_)))))))))))
          ·refine T.seq (T.region (go 2 3 (RS.nil ?_)))
           obtain ⟨w_167,h,hw_167⟩:=Qsa h
           replace h:=h.trans (congrArg some (hv_160 _ hw_167))
           obtain ⟨w_168,h,hw_168⟩:=Qsa h
           replace h:=h.trans (congrArg some (hv_124 _ hw_168))
           cases h
           exact tO [(0,164,2)] [3] 3
          refine T.skip ?_
          obtain ⟨x25,hx25,h⟩:=bind_some h
          obtain ⟨x26,hx26,h⟩:=bind_some h
          refine T.region (go 3 3 (sQ (Qoa (en:=Q4a) Ty.s160 rfl rfl rfl hx25 (go 1 3 (sO (J2a (en:=Q4a) (a:=x26) (a':=(⟨x26.src,s6⟩:Ends)) Ty.c3 Ty.i3 rfl (vs:=[iI s6]) rfl rfl rfl hx26 rfl rfl rfl (RS.nil (T.region (go 2 3 (RS.nil ?_))))))))))
          exact ⟨(IntKind.i64.wrap (s16+1),(List.set s17 x25 (⟨x26.src,s6⟩:Ends))),(Option.some.inj h).symm,wk [] [0,1,2] 3 rfl⟩
         refine T.region (go 3 3 ?_)
         rcases Qha (decide (x19<0)) with hb_162 | hb_162
         ·refine sN hb_162 (sN hb_162 (sN hb_162 (sN hb_162 (sQ (Qna (v:=.bool true) rfl hb_162 rfl (RS.nil ?_))))))
          exact T.sub (hK () trivial) ⟨rfl,rfl,rfl,rfl,rfl,rfl,rfl,rfl,rfl,rfl,rfl,rfl,(congrArg AV.bool (by simp only [hb_162,bz,if_true,if_false,Bool.false_eq_true])).symm,trivial⟩
         refine yg 3 hb_162 (yg 3 hb_162 (yg 3 hb_162 (yg 3 hb_162 (sQ (Qia (v:=.bool (decide (x19 ≥ p0.Rings))) rfl hb_162 rfl (RS.nil ?_))))))
         exact T.sub (hK () trivial) ⟨rfl,rfl,rfl,rfl,rfl,rfl,rfl,rfl,rfl,rfl,rfl,rfl,(congrArg AV.bool (by simp only [hb_162,bz,if_true,if_false,Bool.false_eq_true])).symm,trivial⟩
        refine T.exit ?_
        obtain ⟨w_169,h,hw_169⟩:=Qsa h
        replace h:=h.trans (congrArg some (hv_160 _ hw_169))
        refine T.seq (T.region (go 2 3 (sQ (Qfa Ty.s26 rfl (go 1 3 (RS.nil (T.block (T.iter (fun ss_178:Int × (List Ends)=>mkA 197 [(1,.ptr 0 0),(4,.ref 1),(5,iI z15),(6,iI s6),(51,sL Qja p0.Nodes),(52,iI ((p0.Nodes).length:Int)),(53,iI s6),(152,sL encI x9.Out),(153,iI ((x9.Out).length:Int)),(154,iI ss_178.1)]) (fun ss_178=>[.box (Qma p0),aR 164 2 Q4a ss_178.2]) h (wk [] [0,1] 3 rfl) (fun ss_178 v_179 h hv_179=>?_)))))))))
        obtain ⟨s27,s28⟩:=ss_178
        replace h:Qrb p0 s6 x9 z15 s27 s28=some v_179:=h
        try dsimp only
        unfold Qrb at h
        refine T.seq (T.region (go 1 2 (RS.nil (T.seq (T.ci h rfl (fun hb_180 h=>?_) (fun hb_180 h=>?_))))))
        ·refine T.skip (T.seq (T.block (T.seq ?_)))
         obtain ⟨x30,hx30,h⟩:=bind_some h
         refine T.region (sQ (Qda Ty.s26 (fun _=>rfl) rfl rfl hx30 (go 2 2 (RS.nil (T.seq (T.join (Z:=Unit) (fun _=>mkA 197 [(1,.ptr 0 0),(4,.ref 1),(5,iI z15),(6,iI s6),(14,iI x30),(51,sL Qja p0.Nodes),(52,iI ((p0.Nodes).length:Int)),(53,iI s6),(152,sL encI x9.Out),(153,iI ((x9.Out).length:Int)),(154,iI s27),(165,.bool ((decide (x30<0)) || decide (x30 ≥ p0.Rings)))]) (fun _=>[.box (Qma p0),aR 164 2 Q4a s28]) (fun _=>True) (fun _ _=>?_) (fun hK=>?_)))))))
         ·refine T.ci h rfl (fun hb_182 h=>?_) (fun hb_182 h=>?_)
          ·refine T.seq (T.region (go 2 2 (RS.nil ?_)))
           obtain ⟨w_183,h,hw_183⟩:=Qsa h
           replace h:=h.trans (congrArg some (hv_179 _ hw_183))
           obtain ⟨w_184,h,hw_184⟩:=Qsa h
           replace h:=h.trans (congrArg some (hv_124 _ hw_184))
           cases h
           exact tO [(0,164,2)] [2] 2
          refine T.skip (T.seq (T.seq ?_))
          obtain ⟨x34,hx34,h⟩:=bind_some h
          obtain ⟨x35,hx35,h⟩:=bind_some h
          refine T.region (go 2 2 (sQ (Qoa (en:=Q4a) Ty.s160 rfl rfl rfl hx34 (go 1 2 (sO (Qwa (en:=Q4a) (a:=x35) rfl rfl hx35 (Jra Ty.k3 (c:=iI x35.src) rfl (go 1 2 (RS.nil (T.ci h rfl (fun hb_185 h=>?_) (fun hb_185 h=>?_)))))))))))
          ·refine T.seq (T.region (go 2 2 (RS.nil ?_)))
           obtain ⟨w_186,h,hw_186⟩:=Qsa h
           replace h:=h.trans (congrArg some (hv_179 _ hw_186))
           obtain ⟨w_187,h,hw_187⟩:=Qsa h
           replace h:=h.trans (congrArg some (hv_124 _ hw_187))
           cases h
           exact tO [(0,164,2)] [2] 2
          refine T.skip ?_
          obtain ⟨x36,hx36,h⟩:=bind_some h
          obtain ⟨x37,hx37,h⟩:=bind_some h
          refine T.region (go 3 2 (sQ (Qoa (en:=Q4a) Ty.s160 rfl rfl rfl hx36 (go 1 2 (sO (J2a (en:=Q4a) (a:=x37) (a':=(⟨s6,x37.dst⟩:Ends)) Ty.c3 Ty.i3 rfl (vs:=[iI s6]) rfl rfl rfl hx37 rfl rfl rfl (RS.nil (T.region (go 2 2 (RS.nil ?_))))))))))
          exact ⟨(IntKind.i64.wrap (s27+1),(List.set s28 x36 (⟨s6,x37.dst⟩:Ends))),(Option.some.inj h).symm,wk [] [0,1] 2 rfl⟩
         refine T.region (go 3 2 ?_)
         rcases Qha (decide (x30<0)) with hb_181 | hb_181
         ·refine sN hb_181 (sN hb_181 (sN hb_181 (sN hb_181 (sQ (Qna (v:=.bool true) rfl hb_181 rfl (RS.nil ?_))))))
          exact T.sub (hK () trivial) ⟨rfl,rfl,rfl,rfl,rfl,rfl,rfl,rfl,rfl,rfl,rfl,(congrArg AV.bool (by simp only [hb_181,bz,if_true,if_false,Bool.false_eq_true])).symm,trivial⟩
         refine yg 2 hb_181 (yg 2 hb_181 (yg 2 hb_181 (yg 2 hb_181 (sQ (Qia (v:=.bool (decide (x30 ≥ p0.Rings))) rfl hb_181 rfl (RS.nil ?_))))))
         exact T.sub (hK () trivial) ⟨rfl,rfl,rfl,rfl,rfl,rfl,rfl,rfl,rfl,rfl,rfl,(congrArg AV.bool (by simp only [hb_181,bz,if_true,if_false,Bool.false_eq_true])).symm,trivial⟩
        refine T.exit ?_
        obtain ⟨w_188,h,hw_188⟩:=Qsa h
        replace h:=h.trans (congrArg some (hv_179 _ hw_188))
        refine T.region (go 2 2 (RS.nil ?_))
        exact ⟨(z15,IntKind.i64.wrap (s6+1),s28),(Option.some.inj h).symm,wk [] [0,1] 2 rfl⟩
       refine T.seq (T.region (go 3 3 (RS.nil (T.ci h rfl (fun hb_189 h=>?_) (fun hb_189 h=>?_)))))
       ·refine T.region (go 3 3 (RS.nil ?_))
        exact T.weakR (hK3 (IntKind.i64.wrap (s5+1)) h) (wk [] [0,1,2] 3 rfl)
       refine T.skip ?_
       exact T.su (hK3 s5 h)
      refine T.region (go 4 3 ?_)
      rcases Qha (decide (x9.A<0)) with hb_132 | hb_132
      ·refine sN hb_132 (sN hb_132 (sN hb_132 (sN hb_132 (sU (sU (sU (sN hb_132 (sQ (Qna (v:=.bool true) rfl hb_132 rfl (go 1 3 ?_))))))))))
       refine sN rfl (sN rfl (sN rfl (sN rfl (sU (sU (sU (sN rfl (sQ (Qna (v:=.bool true) rfl rfl rfl (go 1 3 ?_))))))))))
       refine sN rfl (sN rfl (sN rfl (sN rfl (sU (sU (sU (sN rfl (sN rfl (sU ?_)))))))))
       refine sU (sU (sN rfl (sQ (Qna (v:=.bool true) rfl rfl rfl (RS.nil ?_)))))
       exact T.sub (hK () trivial) ⟨rfl,rfl,rfl,rfl,rfl,rfl,rfl,rfl,(congrArg AV.bool (by simp only [hb_132,bz,if_true,if_false,Bool.false_eq_true])).symm,trivial⟩
      refine yg 3 hb_132 (yg 3 hb_132 (yg 3 hb_132 (yg 3 hb_132 ?_)))
      rcases Qha (x9.Kind==1) with hb_133 | hb_133
      ·refine yg 3 hb_133 (yg 3 hb_133 (yg 3 hb_133 (yQ hb_132 (Qna (v:=.bool (decide (x9.A ≥ 4))) rfl hb_133 rfl (sQ (Qia (v:=.bool (decide (x9.A ≥ 4))) rfl hb_132 rfl (go 1 3 ?_)))))))
       rcases Qha (decide (x9.A ≥ 4)) with hb_134 | hb_134
       ·refine sN hb_134 (sN hb_134 (sN hb_134 (sN hb_134 (sU (sU (sU (sN hb_134 (sQ (Qna (v:=.bool true) rfl hb_134 rfl (go 1 3 ?_))))))))))
        refine sN rfl (sN rfl (sN rfl (sN rfl (sU (sU (sU (sN rfl (sN rfl (sU ?_)))))))))
        refine sU (sU (sN rfl (sQ (Qna (v:=.bool true) rfl rfl rfl (RS.nil ?_)))))
        exact T.sub (hK () trivial) ⟨rfl,rfl,rfl,rfl,rfl,rfl,rfl,rfl,(congrArg AV.bool (by simp only [hb_132,hb_133,hb_134,bz,if_true,if_false,Bool.false_eq_true])).symm,trivial⟩
       refine yg 3 hb_134 (yg 3 hb_134 (yg 3 hb_134 (yg 3 hb_134 ?_)))
       rcases Qha (x9.Kind==2) with hb_135 | hb_135
       ·refine yg 3 hb_135 (yg 3 hb_135 (yg 3 hb_135 (yQ hb_134 (Qna (v:=.bool (decide (x9.A > 3))) rfl hb_135 rfl (sQ (Qia (v:=.bool (decide (x9.A > 3))) rfl hb_134 rfl (go 1 3 ?_)))))))
        rcases Qha (decide (x9.A > 3)) with hb_136 | hb_136
        ·refine sN hb_136 (sN hb_136 (sN hb_136 (sN hb_136 (sU (sU (sU (sN hb_136 (sN hb_136 (sU ?_)))))))))
         refine sU (sU (sN hb_136 (sQ (Qna (v:=.bool true) rfl hb_136 rfl (RS.nil ?_)))))
         exact T.sub (hK () trivial) ⟨rfl,rfl,rfl,rfl,rfl,rfl,rfl,rfl,(congrArg AV.bool (by simp only [hb_132,hb_133,hb_134,hb_135,hb_136,bz,if_true,if_false,Bool.false_eq_true])).symm,trivial⟩
        refine yg 3 hb_136 (yg 3 hb_136 (yg 3 hb_136 (yg 3 hb_136 ?_)))
        rcases Qha (x9.Kind != 1) with hb_137 | hb_137
        ·refine yg 3 hb_137 (yg 3 hb_137 (yg 3 hb_137 (yQ hb_136 (Qna (v:=.bool (x9.Kind != 2)) rfl hb_137 rfl (yg 3 hb_136 ?_)))))
         rcases Qha (x9.Kind != 2) with hb_138 | hb_138
         ·refine yg 3 hb_138 (yg 3 hb_138 (yg 3 hb_138 (yQ hb_136 (Qna (v:=.bool (x9.A != 0)) rfl hb_138 rfl (sQ (Qia (v:=.bool (x9.A != 0)) rfl hb_136 rfl (RS.nil ?_)))))))
          exact T.sub (hK () trivial) ⟨rfl,rfl,rfl,rfl,rfl,rfl,rfl,rfl,(congrArg AV.bool (by simp only [hb_132,hb_133,hb_134,hb_135,hb_136,hb_137,hb_138,bz,if_true,if_false,Bool.false_eq_true])).symm,trivial⟩
         refine sN hb_138 (sN hb_138 (sN hb_138 (yQ hb_136 (Qia (v:=.bool false) rfl hb_138 rfl (sQ (Qia (v:=.bool false) rfl hb_136 rfl (RS.nil ?_)))))))
         exact T.sub (hK () trivial) ⟨rfl,rfl,rfl,rfl,rfl,rfl,rfl,rfl,(congrArg AV.bool (by simp only [hb_132,hb_133,hb_134,hb_135,hb_136,hb_137,hb_138,bz,if_true,if_false,Bool.false_eq_true])).symm,trivial⟩
        refine sN hb_137 (sN hb_137 (sN hb_137 (yQ hb_136 (Qia (v:=.bool false) rfl hb_137 rfl (yg 3 hb_136 (sN rfl (sN rfl (sN rfl (yQ hb_136 (Qia (v:=.bool false) rfl rfl rfl (sQ (Qia (v:=.bool false) rfl hb_136 rfl ?_))))))))))))
        refine RS.nil ?_
        exact T.sub (hK () trivial) ⟨rfl,rfl,rfl,rfl,rfl,rfl,rfl,rfl,(congrArg AV.bool (by simp only [hb_132,hb_133,hb_134,hb_135,hb_136,hb_137,bz,if_true,if_false,Bool.false_eq_true])).symm,trivial⟩
       refine sN hb_135 (sN hb_135 (sN hb_135 (yQ hb_134 (Qia (v:=.bool false) rfl hb_135 rfl (sQ (Qia (v:=.bool false) rfl hb_134 rfl (go 1 3 (yg 3 rfl (yg 3 rfl (yg 3 rfl (yg 3 rfl ?_)))))))))))
       rcases Qha (x9.Kind != 1) with hb_139 | hb_139
       ·refine yg 3 hb_139 (yg 3 hb_139 (yg 3 hb_139 (yQ rfl (Qna (v:=.bool (x9.Kind != 2)) rfl hb_139 rfl (yg 3 rfl ?_)))))
        rcases Qha (x9.Kind != 2) with hb_140 | hb_140
        ·refine yg 3 hb_140 (yg 3 hb_140 (yg 3 hb_140 (yQ rfl (Qna (v:=.bool (x9.A != 0)) rfl hb_140 rfl (sQ (Qia (v:=.bool (x9.A != 0)) rfl rfl rfl (RS.nil ?_)))))))
         exact T.sub (hK () trivial) ⟨rfl,rfl,rfl,rfl,rfl,rfl,rfl,rfl,(congrArg AV.bool (by simp only [hb_132,hb_133,hb_134,hb_135,hb_139,hb_140,bz,if_true,if_false,Bool.false_eq_true])).symm,trivial⟩
        refine sN hb_140 (sN hb_140 (sN hb_140 (yQ rfl (Qia (v:=.bool false) rfl hb_140 rfl (sQ (Qia (v:=.bool false) rfl rfl rfl (RS.nil ?_)))))))
        exact T.sub (hK () trivial) ⟨rfl,rfl,rfl,rfl,rfl,rfl,rfl,rfl,(congrArg AV.bool (by simp only [hb_132,hb_133,hb_134,hb_135,hb_139,hb_140,bz,if_true,if_false,Bool.false_eq_true])).symm,trivial⟩
       refine sN hb_139 (sN hb_139 (sN hb_139 (yQ rfl (Qia (v:=.bool false) rfl hb_139 rfl (yg 3 rfl (sN rfl (sN rfl (sN rfl (yQ rfl (Qia (v:=.bool false) rfl rfl rfl (sQ (Qia (v:=.bool false) rfl rfl rfl ?_))))))))))))
       refine RS.nil ?_
       exact T.sub (hK () trivial) ⟨rfl,rfl,rfl,rfl,rfl,rfl,rfl,rfl,(congrArg AV.bool (by simp only [hb_132,hb_133,hb_134,hb_135,hb_139,bz,if_true,if_false,Bool.false_eq_true])).symm,trivial⟩
      refine sN hb_133 (sN hb_133 (sN hb_133 (yQ hb_132 (Qia (v:=.bool false) rfl hb_133 rfl (sQ (Qia (v:=.bool false) rfl hb_132 rfl (go 1 3 (yg 3 rfl (yg 3 rfl (yg 3 rfl (yg 3 rfl ?_)))))))))))
      rcases Qha (x9.Kind==2) with hb_141 | hb_141
      ·refine yg 3 hb_141 (yg 3 hb_141 (yg 3 hb_141 (yQ rfl (Qna (v:=.bool (decide (x9.A > 3))) rfl hb_141 rfl (sQ (Qia (v:=.bool (decide (x9.A > 3))) rfl rfl rfl (go 1 3 ?_)))))))
       rcases Qha (decide (x9.A > 3)) with hb_142 | hb_142
       ·refine sN hb_142 (sN hb_142 (sN hb_142 (sN hb_142 (sU (sU (sU (sN hb_142 (sN hb_142 (sU ?_)))))))))
        refine sU (sU (sN hb_142 (sQ (Qna (v:=.bool true) rfl hb_142 rfl (RS.nil ?_)))))
        exact T.sub (hK () trivial) ⟨rfl,rfl,rfl,rfl,rfl,rfl,rfl,rfl,(congrArg AV.bool (by simp only [hb_132,hb_133,hb_141,hb_142,bz,if_true,if_false,Bool.false_eq_true])).symm,trivial⟩
       refine yg 3 hb_142 (yg 3 hb_142 (yg 3 hb_142 (yg 3 hb_142 ?_)))
       rcases Qha (x9.Kind != 1) with hb_143 | hb_143
       ·refine yg 3 hb_143 (yg 3 hb_143 (yg 3 hb_143 (yQ hb_142 (Qna (v:=.bool (x9.Kind != 2)) rfl hb_143 rfl (yg 3 hb_142 ?_)))))
        rcases Qha (x9.Kind != 2) with hb_144 | hb_144
        ·refine yg 3 hb_144 (yg 3 hb_144 (yg 3 hb_144 (yQ hb_142 (Qna (v:=.bool (x9.A != 0)) rfl hb_144 rfl (sQ (Qia (v:=.bool (x9.A != 0)) rfl hb_142 rfl (RS.nil ?_)))))))
         exact T.sub (hK () trivial) ⟨rfl,rfl,rfl,rfl,rfl,rfl,rfl,rfl,(congrArg AV.bool (by simp only [hb_132,hb_133,hb_141,hb_142,hb_143,hb_144,bz,if_true,if_false,Bool.false_eq_true])).symm,trivial⟩
        refine sN hb_144 (sN hb_144 (sN hb_144 (yQ hb_142 (Qia (v:=.bool false) rfl hb_144 rfl (sQ (Qia (v:=.bool false) rfl hb_142 rfl (RS.nil ?_)))))))
        exact T.sub (hK () trivial) ⟨rfl,rfl,rfl,rfl,rfl,rfl,rfl,rfl,(congrArg AV.bool (by simp only [hb_132,hb_133,hb_141,hb_142,hb_143,hb_144,bz,if_true,if_false,Bool.false_eq_true])).symm,trivial⟩
       refine sN hb_143 (sN hb_143 (sN hb_143 (yQ hb_142 (Qia (v:=.bool false) rfl hb_143 rfl (yg 3 hb_142 (sN rfl (sN rfl (sN rfl (yQ hb_142 (Qia (v:=.bool false) rfl rfl rfl (sQ (Qia (v:=.bool false) rfl hb_142 rfl ?_))))))))))))
       refine RS.nil ?_
       exact T.sub (hK () trivial) ⟨rfl,rfl,rfl,rfl,rfl,rfl,rfl,rfl,(congrArg AV.bool (by simp only [hb_132,hb_133,hb_141,hb_142,hb_143,bz,if_true,if_false,Bool.false_eq_true])).symm,trivial⟩
      refine sN hb_141 (sN hb_141 (sN hb_141 (yQ rfl (Qia (v:=.bool false) rfl hb_141 rfl (sQ (Qia (v:=.bool false) rfl rfl rfl (go 1 3 (yg 3 rfl (yg 3 rfl (yg 3 rfl (yg 3 rfl ?_)))))))))))
      rcases Qha (x9.Kind != 1) with hb_145 | hb_145
      ·refine yg 3 hb_145 (yg 3 hb_145 (yg 3 hb_145 (yQ rfl (Qna (v:=.bool (x9.Kind != 2)) rfl hb_145 rfl (yg 3 rfl ?_)))))
       rcases Qha (x9.Kind != 2) with hb_146 | hb_146
       ·refine yg 3 hb_146 (yg 3 hb_146 (yg 3 hb_146 (yQ rfl (Qna (v:=.bool (x9.A != 0)) rfl hb_146 rfl (sQ (Qia (v:=.bool (x9.A != 0)) rfl rfl rfl (RS.nil ?_)))))))
        exact T.sub (hK () trivial) ⟨rfl,rfl,rfl,rfl,rfl,rfl,rfl,rfl,(congrArg AV.bool (by simp only [hb_132,hb_133,hb_141,hb_145,hb_146,bz,if_true,if_false,Bool.false_eq_true])).symm,trivial⟩
       refine sN hb_146 (sN hb_146 (sN hb_146 (yQ rfl (Qia (v:=.bool false) rfl hb_146 rfl (sQ (Qia (v:=.bool false) rfl rfl rfl (RS.nil ?_)))))))
       exact T.sub (hK () trivial) ⟨rfl,rfl,rfl,rfl,rfl,rfl,rfl,rfl,(congrArg AV.bool (by simp only [hb_132,hb_133,hb_141,hb_145,hb_146,bz,if_true,if_false,Bool.false_eq_true])).symm,trivial⟩
      refine sN hb_145 (sN hb_145 (sN hb_145 (yQ rfl (Qia (v:=.bool false) rfl hb_145 rfl (yg 3 rfl (sN rfl (sN rfl (sN rfl (yQ rfl (Qia (v:=.bool false) rfl rfl rfl (sQ (Qia (v:=.bool false) rfl rfl rfl ?_))))))))))))
      refine RS.nil ?_
      exact T.sub (hK () trivial) ⟨rfl,rfl,rfl,rfl,rfl,rfl,rfl,rfl,(congrArg AV.bool (by simp only [hb_132,hb_133,hb_141,hb_145,bz,if_true,if_false,Bool.false_eq_true])).symm,trivial⟩
     refine T.region (go 2 3 (sQ (Qfa Ty.s26 rfl (go 1 3 (sO (cF (net_fits_c ((x9.In).length:Int) x11.1 x12 hx12) ⟨rfl,(go 2 3 ?_)⟩))))))
     rcases Qha (!x12) with hb_128 | hb_128
     ·replace hz:=ite_T hz hb_128
      refine sN hb_128 (sN hb_128 (sN hb_128 (sN hb_128 (sN hb_128 (sN hb_128 (sQ (Qna (v:=.bool true) rfl hb_128 rfl (RS.nil ?_))))))))
      exact T.sub (hK () trivial) ⟨rfl,rfl,rfl,rfl,rfl,rfl,rfl,rfl,(congrArg AV.bool ((congrArg (fun p=>p) (Option.some.inj hz)).symm)).symm,trivial⟩
     replace hz:=ite_F hz hb_128
     obtain ⟨x13,hx13,hz⟩:=bind_some hz
     refine yg 3 hb_128 (yg 3 hb_128 (yQ hb_128 (Qfa Ty.s26 rfl (yg 3 hb_128 (yO hb_128 (cF (net_fits_c ((x9.Out).length:Int) x11.2.1 x13 hx13) ⟨rfl,(yg 3 hb_128 (sQ (Qia (v:=.bool (!x13)) rfl hb_128 rfl (RS.nil ?_))))⟩))))))
     exact T.sub (hK () trivial) ⟨rfl,rfl,rfl,rfl,rfl,rfl,rfl,rfl,(congrArg AV.bool ((congrArg (fun p=>p) (Option.some.inj hz)).symm)).symm,trivial⟩
    refine T.exit ?_
    obtain ⟨w_190,h,hw_190⟩:=Qsa h
    replace h:=h.trans (congrArg some (hv_124 _ hw_190))
    refine T.seq (T.seq (T.region (go 1 2 (sQ (Zfa (en:=Q4a) Ty.s160 rfl rfl (go 1 2 (RS.nil (T.block (T.iter (fun ss_197:Int=>mkA 197 [(4,.ref 0),(5,iI s5),(179,.ref 0),(180,iI ((s7).length:Int)),(181,iI ss_197)]) (fun ss_197=>[aR 164 2 Q4a s7]) h (wk [] [1] 2 rfl) (fun ss_197 v_198 h hv_198=>?_))))))))))
    revert hv_198 h;revert ss_197;intro s38 h hv_198
    replace h:Jib s5 s7 s38=some v_198:=h
    try dsimp only
    unfold Jib at h
    refine T.seq (T.region (go 1 1 (RS.nil (T.seq (T.ci h rfl (fun hb_199 h=>?_) (fun hb_199 h=>?_))))))
    ·refine T.skip (T.seq (T.block (T.seq ?_)))
     obtain ⟨x41,hx41,h⟩:=bind_some h
     obtain ⟨x42,hx42,h⟩:=bind_some h
     refine T.region (sQ (Qoa (en:=Q4a) Ty.s160 rfl rfl rfl hx41 (sO (Qwa (en:=Q4a) (a:=x42) rfl rfl hx42 (Ywa Ty.k164 Ty.c164 rfl (cs:=(Q4a x42)) rfl (go 2 1 (RS.nil (T.join (Z:=Unit) (fun _=>mkA 197 [(4,.ref 0),(5,iI s5),(179,.ref 0),(180,iI ((s7).length:Int)),(181,iI s38),(192,.bool ((decide (x42.src<0)) || decide (x42.dst<0)))]) (fun _=>[aR 164 2 Q4a s7]) (fun _=>True) (fun _ _=>?_) (fun hK=>?_)))))))))
     ·refine T.ci h rfl (fun hb_201 h=>?_) (fun hb_201 h=>?_)
      ·refine T.seq (T.region (go 2 1 (RS.nil ?_)))
       obtain ⟨w_202,h,hw_202⟩:=Qsa h
       replace h:=h.trans (congrArg some (hv_198 _ hw_202))
       cases h
       exact tO [(0,164,2)] [1] 1
      refine T.skip (T.region (go 2 1 (RS.nil ?_)))
      exact ⟨IntKind.i64.wrap (s38+1),(Option.some.inj h).symm,wk [] [0] 1 rfl⟩
     refine T.region (go 4 2 ?_)
     rcases Qha (decide (x42.src<0)) with hb_200 | hb_200
     ·refine sN hb_200 (sN hb_200 (sN hb_200 (sQ (Qna (v:=.bool true) rfl hb_200 rfl (RS.nil ?_)))))
      exact T.weakR (hK () trivial) (Weak.mkN [] [0] (by decide) (Qla _) rfl ⟨Qza rfl,Qga rfl,Qza rfl,Qga rfl,Qga rfl,Q6a (by simp only [hb_200,bz,if_true,if_false,Bool.false_eq_true]),trivial⟩ (rw_ar rfl rfl (Qxa)))
     refine yg 2 hb_200 (yg 2 hb_200 (yg 2 hb_200 (sQ (Qia (v:=.bool (decide (x42.dst<0))) rfl hb_200 rfl (RS.nil ?_)))))
     exact T.weakR (hK () trivial) (Weak.mkN [] [0] (by decide) (Qla _) rfl ⟨Qza rfl,Qga rfl,Qza rfl,Qga rfl,Qga rfl,Q6a (by simp only [hb_200,bz,if_true,if_false,Bool.false_eq_true]),trivial⟩ (rw_ar rfl rfl (Qxa)))
    refine T.exit ?_
    obtain ⟨w_203,h,hw_203⟩:=Qsa h
    replace h:=h.trans (congrArg some (hv_198 _ hw_203))
    refine T.seq (T.seq (T.region (go 2 1 (RS.nil (T.ci h rfl (fun hb_204 h=>?_) (fun hb_204 h=>?_))))))
    ·refine T.seq (T.region (go 2 1 (RS.nil ?_)))
     cases h
     exact tO [(0,164,2)] [1] 1
    refine T.skip (T.seq (T.region (go 3 1 (RS.nil ?_))))
    cases h
    exact tO [] [0] 1
   refine T.region (go 4 1 ?_)
   rcases Qha (decide (p0.Room<1)) with hb_5 | hb_5
   ·refine sN hb_5 (sN hb_5 (sN hb_5 (sQ (Qna (v:=.bool true) rfl hb_5 rfl (RS.nil ?_)))))
    exact T.sub (hK () trivial) ⟨rfl,(congrArg AV.bool (by simp only [hb_5,bz,if_true,if_false,Bool.false_eq_true])).symm,trivial⟩
   refine yg 1 hb_5 (yg 1 hb_5 (yg 1 hb_5 (sQ (Qia (v:=.bool (decide (p0.Room > 6))) rfl hb_5 rfl (RS.nil ?_)))))
   exact T.sub (hK () trivial) ⟨rfl,(congrArg AV.bool (by simp only [hb_5,bz,if_true,if_false,Bool.false_eq_true])).symm,trivial⟩
  refine T.region (go 2 1 (sQ (Qfa Ty.s22 rfl (go 2 1 ?_))))
  rcases Qha (decide (((p0.Nodes).length:Int)<1)) with hb_1 | hb_1
  ·refine sN hb_1 (sN hb_1 (sN hb_1 (sN hb_1 (sQ (Qna (v:=.bool true) rfl hb_1 rfl (go 1 1 (sN rfl (sN rfl (sN rfl (sQ (Qna (v:=.bool true) rfl rfl rfl ?_)))))))))))
   refine go 1 1 (sN rfl (sN rfl (sN rfl (sQ (Qna (v:=.bool true) rfl rfl rfl (RS.nil ?_))))))
   exact T.sub (hK () trivial) ⟨rfl,(congrArg AV.bool (by simp only [hb_1,bz,if_true,if_false,Bool.false_eq_true])).symm,trivial⟩
  refine yg 1 hb_1 (yg 1 hb_1 (yQ hb_1 (Qfa Ty.s22 rfl (yg 1 hb_1 (sQ (Qia (v:=.bool (decide (((p0.Nodes).length:Int) > 12))) rfl hb_1 rfl (go 1 1 ?_)))))))
  rcases Qha (decide (((p0.Nodes).length:Int) > 12)) with hb_2 | hb_2
  ·refine sN hb_2 (sN hb_2 (sN hb_2 (sQ (Qna (v:=.bool true) rfl hb_2 rfl (go 1 1 (sN rfl (sN rfl (sN rfl (sQ (Qna (v:=.bool true) rfl rfl rfl (RS.nil ?_)))))))))))
   exact T.sub (hK () trivial) ⟨rfl,(congrArg AV.bool (by simp only [hb_1,hb_2,bz,if_true,if_false,Bool.false_eq_true])).symm,trivial⟩
  refine yg 1 hb_2 (yg 1 hb_2 (yg 1 hb_2 (sQ (Qia (v:=.bool (decide (p0.Rings<0))) rfl hb_2 rfl (go 1 1 ?_)))))
  rcases Qha (decide (p0.Rings<0)) with hb_3 | hb_3
  ·refine sN hb_3 (sN hb_3 (sN hb_3 (sQ (Qna (v:=.bool true) rfl hb_3 rfl (RS.nil ?_)))))
   exact T.sub (hK () trivial) ⟨rfl,(congrArg AV.bool (by simp only [hb_1,hb_2,hb_3,bz,if_true,if_false,Bool.false_eq_true])).symm,trivial⟩
  refine yg 1 hb_3 (yg 1 hb_3 (yg 1 hb_3 (sQ (Qia (v:=.bool (decide (p0.Rings > 16))) rfl hb_3 rfl (RS.nil ?_)))))
  exact T.sub (hK () trivial) ⟨rfl,(congrArg AV.bool (by simp only [hb_1,hb_2,hb_3,bz,if_true,if_false,Bool.false_eq_true])).symm,trivial⟩
theorem net_Order_1_x523f_c (p0:Int) (p1:List Bool) (p2:List Ends) (r:Bool) (h:Y2a p0 p1 p2=some r):FnX Tryz.prog 112 [iI p0,.ptr 0 0,.ptr 1 0] [.box [.ref 2],.box [.ref 3],aR 4 1 encB p1,aR 164 2 Q4a p2] (.bool r) [.box [.ref 2],.box [.ref 3],aR 4 1 encB p1,aR 164 2 Q4a p2]:=by
  unfold Y2a at h
  refine fnT 4 Tryz.func112 Tryz.ntmps112 ?_
  refine T.seq (T.region (go 1 4 (RS.nil (T.seq ?_))))
  obtain ⟨x5,hx5,h⟩:=bind_some h
  obtain ⟨x6,hx6,h⟩:=bind_some h
  obtain ⟨x7,hx7,h⟩:=bind_some h
  obtain ⟨x8,hx8,h⟩:=bind_some h
  refine T.drawn mixed (k:=10) rfl (rq [2] 9 (rL [1,3,4,5,6,7,8,9] 1 rfl (r0 3 rfl (Qoa (en:=Q4a) Ty.s160 rfl rfl rfl hx5 (rq [4] 6 (rL [0,6,7,8,9] 0 rfl (ra1 5 (oO rfl (Qwa (en:=Q4a) (a:=x6) rfl rfl hx6 (Jra Ty.k3 (c:=iI x6.src) rfl (r0 6 rfl (Qoa (en:=encB) Ty.s130 rfl rfl rfl hx7 (ra1 7 ?_)))))))))))))
  refine oO rfl (Qwa (en:=encB) (a:=x8) rfl rfl hx8 (Jra Ty.k4 (c:=.bool x8) rfl (rq [8,9] 0 (RA.done (by decide +kernel) ?_))))
  cases h
  exact tN [0,1,2,3]
theorem slices_IndexFunc_int_x5d6b_c (p0:List Int) (p1:List Bool) (p2:List Ends) (r:Int) (h:Vda p0 p1 p2=some r):FnX Tryz.prog 99 [sL encI p0,.func 112 [.ptr 0 0,.ptr 1 0]] [.box [.ref 2],.box [.ref 3],aR 4 1 encB p1,aR 164 2 Q4a p2] (iI r) [.box [.ref 2],.box [.ref 3],aR 4 1 encB p1,aR 164 2 Q4a p2]:=by
  unfold Vda at h
  refine fnT 4 Tryz.func99 Tryz.ntmps99 ?_
  refine T.seq (T.region (go 1 4 (RS.nil (T.seq (T.seq (T.region (go 1 4 (sQ (Qfa Ty.s26 rfl (go 1 4 ?_))))))))))
  refine RS.nil (T.block (T.iter (fun ss_5:Int=>mkA 19 [(0,sL encI p0),(1,.func 112 [.ptr 0 0,.ptr 1 0]),(7,iI ((p0).length:Int)),(8,iI ss_5)]) (fun ss_5=>[.box [.ref 2],.box [.ref 3],aR 4 1 encB p1,aR 164 2 Q4a p2]) h (wk [] [0,1,2,3] 4 rfl) (fun ss_5 v_6 h hv_6=>?_)))
  revert hv_6 h;revert ss_5;intro s1 h hv_6
  replace h:Joa p0 p1 p2 s1=some v_6:=h
  try dsimp only
  unfold Joa at h
  refine T.seq (T.region (go 1 4 (RS.nil (T.seq (T.ci h rfl (fun hb_7 h=>?_) (fun hb_7 h=>?_))))))
  ·refine T.skip (T.seq (T.block (T.seq (T.region (go 2 4 (RS.nil (T.seq ?_)))))))
   obtain ⟨x4,hx4,h⟩:=bind_some h
   obtain ⟨x5,hx5,h⟩:=bind_some h
   refine T.region (go 3 4 (sQ (Qda Ty.s26 (fun _=>rfl) rfl rfl hx4 (go 1 4 (sO (Vja (ac:=[iI x4,.ptr 0 0,.ptr 1 0]) (as0:=[iI x4,.ptr 0 0,.ptr 1 0]) (aw0:=[.box [.ref 2],.box [.ref 3],aR 4 1 encB p1,aR 164 2 Q4a p2]) (aw1:=[.box [.ref 2],.box [.ref 3],aR 4 1 encB p1,aR 164 2 Q4a p2]) (aw2:=[.box [.ref 2],.box [.ref 3],aR 4 1 encB p1,aR 164 2 Q4a p2]) (v:=.bool x5) (v':=.bool x5) (n0:=4) (n1:=4) [0,1,2,3] rfl rfl rfl rfl (by decide) (Jsa (cs:=[.ref 2]) (ds:=[.ref 2]) rfl ⟨Qza rfl,trivial⟩ (Jsa (cs:=[.ref 3]) (ds:=[.ref 3]) rfl ⟨Qza rfl,trivial⟩ (Z2a rfl encB_p rfl (Z2a rfl encEnds_p rfl (Qxa))))) ⟨Qga rfl,Qqa rfl,Qqa rfl,trivial⟩ (net_Order_1_x523f_c x4 p1 p2 x5 hx5) rfl (Qua (Vfa _)) ⟨.inl ⟨0,_,by decide,rfl,Zoa (cs:=[.ref 2]) (ds:=[.ref 2]) ⟨Vga (by decide),trivial⟩⟩,.inl ⟨1,_,by decide,rfl,Zoa (cs:=[.ref 3]) (ds:=[.ref 3]) ⟨Vga (by decide),trivial⟩⟩,.inl ⟨2,_,by decide,rfl,Zca encB_p⟩,.inl ⟨3,_,by decide,rfl,Zca encEnds_p⟩,trivial⟩ (RS.nil (T.ci h rfl (fun hb_8 h=>?_) (fun hb_8 h=>?_)))))))))
   ·refine T.seq (T.region (go 2 4 (RS.nil ?_)))
    obtain ⟨w_9,h,hw_9⟩:=Qsa h
    replace h:=h.trans (congrArg some (hv_6 _ hw_9))
    cases h
    exact tN [0,1,2,3]
   refine T.skip (T.region (go 2 4 (RS.nil ?_)))
   exact ⟨IntKind.i64.wrap (s1+1),(Option.some.inj h).symm,wk [] [0,1,2,3] 4 rfl⟩
  refine T.exit ?_
  obtain ⟨w_10,h,hw_10⟩:=Qsa h
  replace h:=h.trans (congrArg some (hv_6 _ hw_10))
  refine T.seq (T.region (go 1 4 (RS.nil ?_)))
  cases h
  exact tN [0,1,2,3]
theorem slices_ContainsFunc_int_x5d6b_c (p0:List Int) (p1:List Bool) (p2:List Ends) (r:Bool) (h:Jpa p0 p1 p2=some r):FnX Tryz.prog 87 [sL encI p0,.func 112 [.ptr 0 0,.ptr 1 0]] [.box [.ref 2],.box [.ref 3],aR 4 1 encB p1,aR 164 2 Q4a p2] (.bool r) [.box [.ref 2],.box [.ref 3],aR 4 1 encB p1,aR 164 2 Q4a p2]:=by
  unfold Jpa at h
  refine fnT 4 Tryz.func87 Tryz.ntmps87 ?_
  refine T.seq (T.region (go 1 4 (RS.nil (T.seq ?_))))
  obtain ⟨x2,hx2,h⟩:=bind_some h
  refine T.region (go 2 4 (sO (Vja (ac:=[sL encI p0,.func 112 [.ptr 0 0,.ptr 1 0]]) (as0:=[sL encI p0,.func 112 [.ptr 0 0,.ptr 1 0]]) (aw0:=[.box [.ref 2],.box [.ref 3],aR 4 1 encB p1,aR 164 2 Q4a p2]) (aw1:=[.box [.ref 2],.box [.ref 3],aR 4 1 encB p1,aR 164 2 Q4a p2]) (aw2:=[.box [.ref 2],.box [.ref 3],aR 4 1 encB p1,aR 164 2 Q4a p2]) (v:=iI x2) (v':=iI x2) (n0:=4) (n1:=4) [0,1,2,3] rfl rfl rfl rfl (by decide) (Jsa (cs:=[.ref 2]) (ds:=[.ref 2]) rfl ⟨Qza rfl,trivial⟩ (Jsa (cs:=[.ref 3]) (ds:=[.ref 3]) rfl ⟨Qza rfl,trivial⟩ (Z2a rfl encB_p rfl (Z2a rfl encEnds_p rfl (Qxa))))) ⟨rn_s rfl,rn_func ⟨Qqa rfl,Qqa rfl,trivial⟩,trivial⟩ (slices_IndexFunc_int_x5d6b_c p0 p1 p2 x2 hx2) rfl (Qua (Qea _ _)) ⟨.inl ⟨0,_,by decide,rfl,Zoa (cs:=[.ref 2]) (ds:=[.ref 2]) ⟨Vga (by decide),trivial⟩⟩,.inl ⟨1,_,by decide,rfl,Zoa (cs:=[.ref 3]) (ds:=[.ref 3]) ⟨Vga (by decide),trivial⟩⟩,.inl ⟨2,_,by decide,rfl,Zca encB_p⟩,.inl ⟨3,_,by decide,rfl,Zca encEnds_p⟩,trivial⟩ (go 2 4 (RS.nil ?_)))))
  cases h
  exact tN [0,1,2,3]
theorem net_Order_c (p0:Net) (r:(List Int) × Int) (h:net_Order p0=some r):FnO Tryz.prog 98 [.agg (Qma p0)] (.tup [.ref 0,iI r.2]) [aR 3 1 encI r.1]:=by
  unfold net_Order at h
  refine fnT 0 Tryz.func98 Tryz.ntmps98 ?_
  refine T.seq (T.region (go 3 0 (RS.nil (T.seq ?_))))
  obtain ⟨x2,hx2,h⟩:=bind_some h
  refine T.region (go 1 1 (sO (cO 1 (net_look_c p0 x2 hx2) ⟨rfl,(go 6 2 (RS.nil (T.seq (T.seq (T.region (go 2 3 (RS.nil ?_)))))))⟩)))
  refine T.ci h rfl (fun hb_1 h=>?_) (fun hb_1 h=>?_)
  ·refine T.seq (T.region (go 3 3 (RS.nil ?_)))
   cases h
   exact tO [(0,3,1)] [3] 3
  refine T.skip (T.seq (T.region (go 1 3 (RS.nil (T.seq ?_)))))
  obtain ⟨x4,hx4,h⟩:=bind_some h
  refine T.region (go 2 3 (sQ (Qfa Ty.s22 rfl (sO (o_mk (en:=encB) (zr:=false) Ty.s130 Ty.z4 rfl rfl hx4 rfl rfl (go 2 4 (RS.nil (T.seq (T.block (T.iter (fun ss_72:(List Int) × (List Bool)=>mkA 61 [(1,.ptr 0 0),(4,.ptr 1 0),(6,.ref 2),(7,.ptr 3 0)]) (fun ss_72=>[.box (Qma p0),.box [.ref 4],aR 3 1 encI ss_72.1,.box [.ref 5],aR 164 2 Q4a x2.1,aR 4 1 encB ss_72.2]) h (wk [(6,3,1)] [0,2,5,4,1,3] 5 rfl) (fun ss_72 v_73 h hv_73=>?_)))))))))))
  obtain ⟨s5,s6⟩:=ss_72
  replace h:Y5a p0 x2 s5 s6=some v_73:=h
  try dsimp only
  unfold Y5a at h
  refine T.seq (T.seq (T.region (go 1 6 (sQ (Zfa (en:=encI) Ty.s26 rfl rfl (go 2 6 (sQ (Qfa Ty.s22 rfl (go 1 6 (RS.nil (T.ci h rfl (fun hb_74 h=>?_) (fun hb_74 h=>?_))))))))))))
  ·refine T.skip (T.block (T.seq (T.region (go 1 6 (RS.nil (T.join (Z:=Int) (fun zz_91=>mkA 61 [(1,.ptr 0 0),(4,.ptr 1 0),(6,.ref 2),(7,.ptr 3 0),(8,iI zz_91)]) (fun zz_91=>[.box (Qma p0),.box [.ref 4],aR 3 1 encI s5,.box [.ref 5],aR 164 2 Q4a x2.1,aR 4 1 encB s6]) (fun zz_91=>Qub s5 s6 zz_91=some v_73) (fun zz_91 h=>?_) (fun hK1=>?_)))))))
   ·revert h;revert zz_91;intro z14 h
    replace h:Qub s5 s6 z14=some v_73:=h
    try dsimp only
    unfold Qub at h
    refine T.seq (T.seq (T.region (go 2 6 (RS.nil (T.ci h rfl (fun hb_92 h=>?_) (fun hb_92 h=>?_))))))
    ·refine T.seq (T.region (go 2 6 (RS.nil ?_)))
     obtain ⟨w_93,h,hw_93⟩:=Qsa h
     replace h:=h.trans (congrArg some (hv_73 _ hw_93))
     cases h
     exact tO [(0,3,1)] [6] 6
    refine T.skip (T.seq ?_)
    obtain ⟨x17,hx17,h⟩:=bind_some h
    obtain ⟨x18,hx18,h⟩:=bind_some h
    refine T.region (go 2 6 (sQ (Qoa (en:=encB) Ty.s130 rfl rfl rfl hx17 (sO (J2a (en:=encB) (a:=x18) (a':=true) Ty.c4 Ty.i4 rfl (vs:=[.bool true]) rfl rfl rfl hx18 rfl rfl rfl (RS.nil ?_))))))
    obtain ⟨x19,hx19,h⟩:=bind_some h
    refine T.region (go 2 6 (sO (Qva (rows:=List.map encI [z14]) (vs:=[iI z14]) Ty.s26 Ty.z3 rfl rfl rfl rfl rfl rfl (sO (J5a (en:=encI) (xs:=s5) (ys:=([z14]:List Int)) Ty.s26 (fun _=>rfl) rfl rfl rfl hx19 rfl rfl (go 1 8 (RS.nil ?_)))))))
    exact ⟨(x19,(List.set s6 x17 true)),(Option.some.inj h).symm,wk [] [0,1,7,3,4,5] 8 rfl⟩
   refine T.seq (T.region (go 2 6 (sQ (Qfa Ty.s22 rfl (go 1 6 (RS.nil (T.block (T.iter (fun ss_102:Int=>mkA 61 [(1,.ptr 0 0),(4,.ptr 1 0),(6,.ref 2),(7,.ptr 3 0),(8,iI (-1)),(30,sL Qja p0.Nodes),(31,iI ((p0.Nodes).length:Int)),(32,iI ss_102)]) (fun ss_102=>[.box (Qma p0),.box [.ref 4],aR 3 1 encI s5,.box [.ref 5],aR 164 2 Q4a x2.1,aR 4 1 encB s6]) h (wk [] [0,1,2,3,4,5] 6 rfl) (fun ss_102 v_103 h hv_103=>?_)))))))))
   revert hv_103 h;revert ss_102;intro s7 h hv_103
   replace h:Qab p0 x2 s5 s6 s7=some v_103:=h
   try dsimp only
   unfold Qab at h
   refine T.seq (T.region (go 1 6 (RS.nil (T.seq (T.ci h rfl (fun hb_104 h=>?_) (fun hb_104 h=>?_))))))
   ·refine T.skip (T.seq (T.block (T.seq ?_)))
    obtain ⟨x9,hx9,h⟩:=bind_some h
    refine T.region (go 1 6 (sQ (Qda Ty.s22 (fun _=>rfl) rfl rfl hx9 (go 4 6 (RS.nil ?_)))))
    obtain ⟨x10,hx10,h⟩:=bind_some h
    obtain ⟨x11,hx11,h⟩:=bind_some h
    obtain ⟨zt_106,hz,h⟩:=bind_some h
    revert hz h;revert zt_106;intro c13 hz h
    refine T.join (Z:=Unit) (fun _=>mkA 61 [(1,.ptr 0 0),(4,.ptr 1 0),(6,.ref 2),(7,.ptr 3 0),(8,iI (-1)),(9,iI s7),(30,sL Qja p0.Nodes),(31,iI ((p0.Nodes).length:Int)),(32,iI s7),(48,.bool c13)]) (fun _=>[.box (Qma p0),.box [.ref 4],aR 3 1 encI s5,.box [.ref 5],aR 164 2 Q4a x2.1,aR 4 1 encB s6]) (fun _=>True) (fun _ _=>?_) (fun hK=>?_)
    ·refine T.ci h rfl (fun hb_107 h=>?_) (fun hb_107 h=>?_)
     ·refine T.seq (T.region (go 2 6 (RS.nil (T.exit ?_))))
      obtain ⟨w_108,h,hw_108⟩:=Qsa h
      replace h:=h.trans (congrArg some (hv_103 _ hw_108))
      exact T.su (hK1 s7 h)
     refine T.skip (T.region (go 2 6 (RS.nil ?_)))
     exact ⟨IntKind.i64.wrap (s7+1),(Option.some.inj h).symm,wk [] [0,1,2,3,4,5] 6 rfl⟩
    refine T.region (go 2 7 (sQ (Qoa (en:=encB) Ty.s130 rfl rfl rfl hx10 (sO (Qwa (en:=encB) (a:=x11) rfl rfl hx11 (Jra Ty.k4 (c:=.bool x11) rfl (go 2 7 ?_)))))))
    rcases Qha (!x11) with hb_105 | hb_105
    ·replace hz:=ite_T hz hb_105
     obtain ⟨x12,hx12,hz⟩:=bind_some hz
     refine yg 7 hb_105 (yg 7 hb_105 (yg 7 hb_105 (yO hb_105 (Vja (ac:=[sL encI x9.In,.func 112 [.ptr 3 0,.ptr 1 0]]) (as0:=[sL encI x9.In,.func 112 [.ptr 0 0,.ptr 1 0]]) (aw0:=[.box [.ref 2],.box [.ref 3],aR 4 1 encB s6,aR 164 2 Q4a x2.1]) (aw1:=[.box [.ref 2],.box [.ref 3],aR 4 1 encB s6,aR 164 2 Q4a x2.1]) (aw2:=[.box (Qma p0),.box [.ref 4],aR 3 1 encI s5,.box [.ref 5],aR 164 2 Q4a x2.1,aR 4 1 encB s6,.box (Qja x9)]) (v:=.bool x12) (v':=.bool x12) (n0:=7) (n1:=4) [3,1,5,4] rfl rfl rfl rfl (by decide) (Jsa (cs:=[.ref 2]) (ds:=[.ref 5]) rfl ⟨Qza rfl,trivial⟩ (Jsa (cs:=[.ref 3]) (ds:=[.ref 4]) rfl ⟨Qza rfl,trivial⟩ (Z2a rfl encB_p rfl (Z2a rfl encEnds_p rfl (Qxa))))) ⟨rn_s rfl,rn_func ⟨Qqa rfl,Qqa rfl,trivial⟩,trivial⟩ (slices_ContainsFunc_int_x5d6b_c x9.In s6 x2.1 x12 hx12) rfl (Qua (Vfa _)) ⟨.inr ⟨rfl,rfl⟩,.inl ⟨1,_,by decide,rfl,Zoa (cs:=[.ref 4]) (ds:=[.ref 3]) ⟨Vga (by decide),trivial⟩⟩,.inr ⟨rfl,rfl⟩,.inl ⟨0,_,by decide,rfl,Zoa (cs:=[.ref 5]) (ds:=[.ref 2]) ⟨Vga (by decide),trivial⟩⟩,.inl ⟨3,_,by decide,rfl,Zca encEnds_p⟩,.inl ⟨2,_,by decide,rfl,Zca encB_p⟩,.inr ⟨rfl,rfl⟩,trivial⟩ (yg 7 hb_105 (sQ (Qna (v:=.bool (!x12)) rfl hb_105 rfl (RS.nil ?_))))))))
     exact T.weakR (hK () trivial) (Weak.mkN [] [0,1,2,3,4,5] (by decide) (Qla _) rfl ⟨Qqa rfl,Qqa rfl,Qza rfl,Qqa rfl,Qga rfl,Qga rfl,rn_s rfl,Qga rfl,Qga rfl,Q6a ((congrArg (fun p=>p) (Option.some.inj hz)).symm),trivial⟩ (rw_bs (Qma p0) rfl (Jsa (cs:=[.ref 4]) (ds:=[.ref 4]) rfl ⟨Qza rfl,trivial⟩ (rw_ar rfl rfl (Jsa (cs:=[.ref 5]) (ds:=[.ref 5]) rfl ⟨Qza rfl,trivial⟩ (rw_ar rfl rfl (rw_ar rfl rfl (Qxa))))))))
    replace hz:=ite_F hz hb_105
    refine sN hb_105 (sN hb_105 (sN hb_105 (sN hb_105 (sN hb_105 (sQ (Qia (v:=.bool false) rfl hb_105 rfl (RS.nil ?_)))))))
    exact T.weakR (hK () trivial) (Weak.mkN [] [0,1,2,3,4,5] (by decide) (Qla _) rfl ⟨Qqa rfl,Qqa rfl,Qza rfl,Qqa rfl,Qga rfl,Qga rfl,rn_s rfl,Qga rfl,Qga rfl,Q6a ((congrArg (fun p=>p) (Option.some.inj hz)).symm),trivial⟩ (rw_bs (Qma p0) rfl (Jsa (cs:=[.ref 4]) (ds:=[.ref 4]) rfl ⟨Qza rfl,trivial⟩ (rw_ar rfl rfl (Jsa (cs:=[.ref 5]) (ds:=[.ref 5]) rfl ⟨Qza rfl,trivial⟩ (rw_ar rfl rfl (rw_ar rfl rfl (Qxa))))))))
   refine T.exit ?_
   obtain ⟨w_109,h,hw_109⟩:=Qsa h
   replace h:=h.trans (congrArg some (hv_103 _ hw_109))
   exact T.su (hK1 (-1) h)
  refine T.exit ?_
  obtain ⟨w_110,h,hw_110⟩:=Qsa h
  replace h:=h.trans (congrArg some (hv_73 _ hw_110))
  refine T.seq (T.region (go 3 6 (RS.nil ?_)))
  cases h
  exact tO [] [2] 6
theorem net_Check_c (p0:Net) (r:Int) (h:net_Check p0=some r):Fn Tryz.prog 85 [.agg (Qma p0)] (iI r):=by
  unfold net_Check at h
  refine fnT 0 Tryz.func85 Tryz.ntmps85 ?_
  refine T.seq (T.region (go 2 0 (RS.nil (T.seq ?_))))
  obtain ⟨x2,hx2,h⟩:=bind_some h
  refine T.region (go 1 1 (sO (cO 1 (net_Order_c p0 x2 hx2) ⟨rfl,(go 5 2 (RS.nil (T.seq (T.region (go 2 2 (RS.nil ?_))))))⟩)))
  cases h
  exact tD
theorem net_Sources_c (p0:Net) (p1:List (List Item)) (r:Int) (h:net_Sources p0 p1=some r):Fn Tryz.prog 49 [.agg (Qma p0),sL (encL Qaa) p1] (iI r):=by
  unfold net_Sources at h
  refine fnT 0 Tryz.func49 Tryz.ntmps49 ?_
  refine T.seq (T.region (go 2 0 (RS.nil (T.seq (T.seq ?_)))))
  obtain ⟨x2,hx2,h⟩:=bind_some h
  refine T.region (go 1 1 (sO (cF (net_Check_c p0 x2 hx2) ⟨rfl,(go 1 1 (RS.nil (T.seq (T.region (go 2 1 (RS.nil (T.ci h rfl (fun hb_1 h=>?_) (fun hb_1 h=>?_))))))))⟩)))
  ·refine T.seq (T.region (go 2 1 (RS.nil ?_)))
   cases h
   exact tD
  refine T.skip (T.seq (T.seq (T.region (go 1 1 (sQ (Qfa Ty.s25 rfl (go 1 1 (RS.nil (T.ci h rfl (fun hb_2 h=>?_) (fun hb_2 h=>?_))))))))))
  ·refine T.seq (T.region (go 1 1 (RS.nil ?_)))
   cases h
   exact tD
  refine T.skip (T.seq (T.seq (T.region (go 1 1 (sQ (Qfa Ty.s25 rfl (go 1 1 (RS.nil (T.block (T.iter (fun ss_27:Int=>mkA 69 [(1,sL (encL Qaa) p1),(2,.ptr 0 0),(21,sL (encL Qaa) p1),(22,iI ((p1).length:Int)),(23,iI ss_27)]) (fun ss_27=>[.box (Qma p0)]) h (wk [] [0] 1 rfl) (fun ss_27 v_28 h hv_28=>?_)))))))))))
  revert hv_28 h;revert ss_27;intro s3 h hv_28
  replace h:Qkb p0 p1 s3=some v_28:=h
  try dsimp only
  unfold Qkb at h
  refine T.seq (T.region (go 1 1 (RS.nil (T.seq (T.ci h rfl (fun hb_29 h=>?_) (fun hb_29 h=>?_))))))
  ·refine T.skip (T.seq (T.block (T.seq ?_)))
   obtain ⟨x5,hx5,h⟩:=bind_some h
   refine T.region (sQ (Qda Ty.s25 (fun _=>rfl) rfl rfl hx5 (go 2 1 (RS.nil (T.seq (T.seq (T.region (go 1 1 (sQ (Qfa Ty.s29 rfl (go 1 1 ?_)))))))))))
   refine RS.nil (T.ci h rfl (fun hb_30 h=>?_) (fun hb_30 h=>?_))
   ·refine T.seq (T.region (go 1 1 (RS.nil ?_)))
    obtain ⟨w_31,h,hw_31⟩:=Qsa h
    replace h:=h.trans (congrArg some (hv_28 _ hw_31))
    cases h
    exact tD
   refine T.skip (T.seq (T.region (go 1 1 (sQ (Qfa Ty.s29 rfl (go 1 1 (RS.nil (T.block (T.iter (fun ss_36:Int=>mkA 69 [(1,sL (encL Qaa) p1),(2,.ptr 0 0),(21,sL (encL Qaa) p1),(22,iI ((p1).length:Int)),(23,iI s3),(30,sL Qaa x5),(31,iI ((x5).length:Int)),(32,iI ss_36)]) (fun ss_36=>[.box (Qma p0)]) h (wk [] [0] 1 rfl) (fun ss_36 v_37 h hv_37=>?_))))))))))
   revert hv_37 h;revert ss_36;intro s6 h hv_37
   replace h:Qlb s3 x5 s6=some v_37:=h
   try dsimp only
   unfold Qlb at h
   refine T.seq (T.region (go 1 1 (RS.nil (T.seq (T.ci h rfl (fun hb_38 h=>?_) (fun hb_38 h=>?_))))))
   ·refine T.skip (T.seq (T.block (T.seq ?_)))
    obtain ⟨x8,hx8,h⟩:=bind_some h
    refine T.region (sQ (Qda Ty.s29 (fun _=>rfl) rfl rfl hx8 (go 3 1 (RS.nil (T.seq (T.region (go 3 2 (RS.nil (T.ci h rfl (fun hb_39 h=>?_) (fun hb_39 h=>?_))))))))))
    ·refine T.seq (T.region (go 1 2 (RS.nil ?_)))
     obtain ⟨w_40,h,hw_40⟩:=Qsa h
     replace h:=h.trans (congrArg some (hv_37 _ hw_40))
     obtain ⟨w_41,h,hw_41⟩:=Qsa h
     replace h:=h.trans (congrArg some (hv_28 _ hw_41))
     cases h
     exact tD
    refine T.skip (T.region (go 2 2 (RS.nil ?_)))
    exact ⟨IntKind.i64.wrap (s6+1),(Option.some.inj h).symm,wk [] [0] 2 rfl⟩
   refine T.exit ?_
   obtain ⟨w_42,h,hw_42⟩:=Qsa h
   replace h:=h.trans (congrArg some (hv_37 _ hw_42))
   refine T.region (go 2 1 (RS.nil ?_))
   exact ⟨IntKind.i64.wrap (s3+1),(Option.some.inj h).symm,wk [] [0] 1 rfl⟩
  refine T.exit ?_
  obtain ⟨w_43,h,hw_43⟩:=Qsa h
  replace h:=h.trans (congrArg some (hv_28 _ hw_43))
  refine T.seq ?_
  obtain ⟨x10,hx10,h⟩:=bind_some h
  refine T.region (go 1 1 (sQ (Qfa Ty.s25 rfl (sO (o_mk (en:=encB) (zr:=false) Ty.s130 Ty.z4 rfl rfl hx10 rfl rfl (go 1 2 (RS.nil (T.seq (T.seq (T.region (go 2 2 ?_)))))))))))
  refine sQ (Qfa Ty.s22 rfl (go 1 2 (RS.nil (T.block (T.iter (fun ss_52:Int × (List Bool)=>mkA 69 [(1,sL (encL Qaa) p1),(10,.ref 0),(45,sL Qja p0.Nodes),(46,iI ((p0.Nodes).length:Int)),(47,iI ss_52.1)]) (fun ss_52=>[aR 4 1 encB ss_52.2]) h (wk [] [1] 2 rfl) (fun ss_52 v_53 h hv_53=>?_))))))
  obtain ⟨s11,s12⟩:=ss_52
  replace h:V7a p0 p1 s11 s12=some v_53:=h
  try dsimp only
  unfold V7a at h
  refine T.seq (T.region (go 1 1 (RS.nil (T.seq (T.ci h rfl (fun hb_54 h=>?_) (fun hb_54 h=>?_))))))
  ·refine T.skip (T.seq (T.block (T.seq ?_)))
   obtain ⟨x14,hx14,h⟩:=bind_some h
   refine T.region (sQ (Qda Ty.s22 (fun _=>rfl) rfl rfl hx14 (go 3 1 (RS.nil (T.seq (T.seq (T.region (go 3 2 (RS.nil (T.ci h rfl (fun hb_55 h=>?_) (fun hb_55 h=>?_)))))))))))
   ·refine T.exit (T.region (go 2 2 (RS.nil ?_)))
    exact ⟨(IntKind.i64.wrap (s11+1),s12),(Option.some.inj h).symm,wk [] [0] 2 rfl⟩
   refine T.skip (T.seq (T.seq (T.region (go 3 2 (sQ (Qfa Ty.s25 rfl (go 1 2 (RS.nil (T.ci h rfl (fun hb_56 h=>?_) (fun hb_56 h=>?_))))))))))
   ·refine T.seq (T.region (go 1 2 (RS.nil ?_)))
    obtain ⟨w_57,h,hw_57⟩:=Qsa h
    replace h:=h.trans (congrArg some (hv_53 _ hw_57))
    cases h
    exact tD
   refine T.skip (T.seq (T.seq ?_))
   obtain ⟨x17,hx17,h⟩:=bind_some h
   obtain ⟨x18,hx18,h⟩:=bind_some h
   refine T.region (go 3 2 (sQ (Qoa (en:=encB) Ty.s130 rfl rfl rfl hx17 (sO (Qwa (en:=encB) (a:=x18) rfl rfl hx18 (Jra Ty.k4 (c:=.bool x18) rfl (RS.nil (T.ci h rfl (fun hb_58 h=>?_) (fun hb_58 h=>?_)))))))))
   ·refine T.seq (T.region (go 1 2 (RS.nil ?_)))
    obtain ⟨w_59,h,hw_59⟩:=Qsa h
    replace h:=h.trans (congrArg some (hv_53 _ hw_59))
    cases h
    exact tD
   refine T.skip ?_
   obtain ⟨x19,hx19,h⟩:=bind_some h
   obtain ⟨x20,hx20,h⟩:=bind_some h
   refine T.region (go 3 2 (sQ (Qoa (en:=encB) Ty.s130 rfl rfl rfl hx19 (sO (J2a (en:=encB) (a:=x20) (a':=true) Ty.c4 Ty.i4 rfl (vs:=[.bool true]) rfl rfl rfl hx20 rfl rfl rfl (RS.nil (T.region (go 2 2 (RS.nil ?_)))))))))
   exact ⟨(IntKind.i64.wrap (s11+1),(List.set s12 x19 true)),(Option.some.inj h).symm,wk [] [0] 2 rfl⟩
  refine T.exit ?_
  obtain ⟨w_60,h,hw_60⟩:=Qsa h
  replace h:=h.trans (congrArg some (hv_53 _ hw_60))
  refine T.seq (T.region (go 1 1 (RS.nil ?_)))
  cases h
  exact tD
theorem move_start_c (p0:Net) (p1:List (List Item)) (r:State) (h:move_start p0 p1=some r):FnO Tryz.prog 50 [.agg (Qma p0),sL (encL Qaa) p1] (.agg [.ref 0,.ref 1,.ref 2,.ref 3,.ref 4]) [aR 3 1 encI r.At,aR 29 1 (encL Qaa) r.Rings,aR 84 3 Qca r.Memory,aR 77 2 Qba r.Choices,aR 72 3 Qaa r.Out]:=by
  unfold move_start at h
  refine fnT 0 Tryz.func50 Tryz.ntmps50 ?_
  refine T.seq (T.region (go 2 0 (RS.nil (T.seq ?_))))
  obtain ⟨x4,hx4,h⟩:=bind_some h
  obtain ⟨x5,hx5,h⟩:=bind_some h
  obtain ⟨x6,hx6,h⟩:=bind_some h
  refine T.drawn mixed (k:=12) rfl ?_
  apply RA.jn 1 #[true,true,true,true,true,true,true,true,true,true,true,false];intro hS1
  apply RA.jn 3 #[true,true,true,true,true,false,true,true,true,true,false,false];intro hS2
  apply RA.jn 3 #[true,true,false,true,true,true,true,true,true,true,false,false];intro hS3
  apply RA.jn 3 #[true,true,true,true,true,true,true,true,true,false,false,false];intro hS4
  apply RA.jn 4 #[true,true,true,true,false,false,true,true,true,true,false,false];intro hS5
  apply RA.jn 4 #[true,true,false,true,true,false,true,true,true,true,false,false];intro hS6
  apply RA.jn 4 #[true,true,true,true,true,false,true,true,true,false,false,false];intro hS7
  apply RA.jn 4 #[true,true,false,true,true,true,true,true,true,false,false,false];intro hS8
  apply RA.jn 5 #[true,true,true,true,false,false,true,true,true,false,false,false];intro hS9
  apply RA.jn 5 #[true,true,false,true,true,false,true,true,true,false,false,false];intro hS10
  apply RA.jn 5 #[true,true,true,true,true,true,true,false,false,false,false,false];intro hS11
  apply RA.jn 6 #[true,true,true,true,true,false,true,false,false,false,false,false];intro hS12
  ·refine rq [0] 11 (r0 1 rfl (Qfa Ty.s25 rfl (rq [3,6] 8 (ra3 2 4 7 ?_ ?_ ?_))))
   ·refine oO rfl (o_mk (en:=encI) (zr:=0) Ty.s26 Ty.z3 rfl rfl hx4 rfl rfl (ra2 4 7 ?_ ?_))
    ·refine og 3 ⟨rfl,?_⟩
     exact raE hS12
    ·refine og 3 ⟨rfl,(r0 8 rfl (Qfa Ty.s22 rfl ?_))⟩
     exact raE hS9
   ·refine og 2 ⟨rfl,(ra3 2 5 7 ?_ ?_ ?_)⟩
    ·refine oO rfl (o_mk (en:=encI) (zr:=0) Ty.s26 Ty.z3 rfl rfl hx4 rfl rfl ?_)
     exact raT hS12
    ·refine oO rfl (o_mkN (en:=(encL Qaa)) (zr:=([]:List Item)) Ty.s25 Ty.z29 ⟨.inr ⟨rfl,rfl⟩,trivial⟩ rfl rfl hx5 rfl rfl (ra2 2 7 ?_ ?_))
     ·refine oO rfl (o_mk (en:=encI) (zr:=0) Ty.s26 Ty.z3 rfl rfl hx4 rfl rfl ?_)
      exact raE hS11
     ·refine og 3 ⟨rfl,(r0 8 rfl (Qfa Ty.s22 rfl ?_))⟩
      exact raE hS8
    ·refine og 2 ⟨rfl,(r0 8 rfl (Qfa Ty.s22 rfl ?_))⟩
     exact raE hS10
   ·refine og 2 ⟨rfl,(r0 8 rfl (Qfa Ty.s22 rfl (ra3 2 4 9 ?_ ?_ ?_)))⟩
    ·refine oO rfl (o_mk (en:=encI) (zr:=0) Ty.s26 Ty.z3 rfl rfl hx4 rfl rfl ?_)
     exact raT hS9
    ·refine og 2 ⟨rfl,?_⟩
     exact raT hS10
    ·refine oO rfl (o_mkN (en:=Qca) (zr:=(⟨0,[],0⟩:Memory)) Ty.s27 Ty.z84 ⟨.inl rfl,.inr ⟨rfl,rfl⟩,.inl rfl,trivial⟩ rfl rfl hx6 rfl rfl (ra2 2 4 ?_ ?_))
     ·refine oO rfl (o_mk (en:=encI) (zr:=0) Ty.s26 Ty.z3 rfl rfl hx4 rfl rfl ?_)
      exact raE hS5
     ·refine og 3 ⟨rfl,?_⟩
      exact raE hS6
  ·refine ra2 5 7 ?_ ?_
   ·refine oO rfl (o_mkN (en:=(encL Qaa)) (zr:=([]:List Item)) Ty.s25 Ty.z29 ⟨.inr ⟨rfl,rfl⟩,trivial⟩ rfl rfl hx5 rfl rfl ?_)
    exact raV hS11 [0,1,3,2] rfl
   ·refine og 3 ⟨rfl,(r0 8 rfl (Qfa Ty.s22 rfl ?_))⟩
    exact raE hS7
  ·refine ra1 7 (og 4 ⟨rfl,(r0 8 rfl (Qfa Ty.s22 rfl ?_))⟩)
   exact raE hS4
  ·refine ra3 2 5 9 ?_ ?_ ?_
   ·refine oO rfl (o_mk (en:=encI) (zr:=0) Ty.s26 Ty.z3 rfl rfl hx4 rfl rfl ?_)
    exact raT hS7
   ·refine oO rfl (o_mkN (en:=(encL Qaa)) (zr:=([]:List Item)) Ty.s25 Ty.z29 ⟨.inr ⟨rfl,rfl⟩,trivial⟩ rfl rfl hx5 rfl rfl ?_)
    exact raT hS8
   ·refine oO rfl (o_mkN (en:=Qca) (zr:=(⟨0,[],0⟩:Memory)) Ty.s27 Ty.z84 ⟨.inl rfl,.inr ⟨rfl,rfl⟩,.inl rfl,trivial⟩ rfl rfl hx6 rfl rfl ?_)
    exact raT hS6
  ·refine ra2 4 9 ?_ ?_
   ·refine og 3 ⟨rfl,?_⟩
    exact raT hS7
   ·refine oO rfl (o_mkN (en:=Qca) (zr:=(⟨0,[],0⟩:Memory)) Ty.s27 Ty.z84 ⟨.inl rfl,.inr ⟨rfl,rfl⟩,.inl rfl,trivial⟩ rfl rfl hx6 rfl rfl ?_)
    exact raV hS5 [0,1,3,2] rfl
  ·refine ra2 2 9 ?_ ?_
   ·refine oO rfl (o_mk (en:=encI) (zr:=0) Ty.s26 Ty.z3 rfl rfl hx4 rfl rfl ?_)
    exact raT hS4
   ·refine oO rfl (o_mkN (en:=Qca) (zr:=(⟨0,[],0⟩:Memory)) Ty.s27 Ty.z84 ⟨.inl rfl,.inr ⟨rfl,rfl⟩,.inl rfl,trivial⟩ rfl rfl hx6 rfl rfl ?_)
    exact raE hS3
  ·refine ra2 5 9 ?_ ?_
   ·refine oO rfl (o_mkN (en:=(encL Qaa)) (zr:=([]:List Item)) Ty.s25 Ty.z29 ⟨.inr ⟨rfl,rfl⟩,trivial⟩ rfl rfl hx5 rfl rfl ?_)
    exact raV hS4 [0,1,3,2] rfl
   ·refine oO rfl (o_mkN (en:=Qca) (zr:=(⟨0,[],0⟩:Memory)) Ty.s27 Ty.z84 ⟨.inl rfl,.inr ⟨rfl,rfl⟩,.inl rfl,trivial⟩ rfl rfl hx6 rfl rfl ?_)
    exact raE hS2
  ·refine ra2 2 5 ?_ ?_
   ·refine oO rfl (o_mk (en:=encI) (zr:=0) Ty.s26 Ty.z3 rfl rfl hx4 rfl rfl ?_)
    exact raV hS2 [0,1,3,2] rfl
   ·refine oO rfl (o_mkN (en:=(encL Qaa)) (zr:=([]:List Item)) Ty.s25 Ty.z29 ⟨.inr ⟨rfl,rfl⟩,trivial⟩ rfl rfl hx5 rfl rfl ?_)
    exact raV hS3 [0,1,3,2] rfl
  ·refine ra1 4 (og 4 ⟨rfl,?_⟩)
   exact raV hS2 [0,1,3,2] rfl
  ·refine ra1 9 (oO rfl (o_mkN (en:=Qca) (zr:=(⟨0,[],0⟩:Memory)) Ty.s27 Ty.z84 ⟨.inl rfl,.inr ⟨rfl,rfl⟩,.inl rfl,trivial⟩ rfl rfl hx6 rfl rfl (rq [10] 1 ?_)))
   exact raE hS1
  ·refine ra1 2 (oO rfl (o_mk (en:=encI) (zr:=0) Ty.s26 Ty.z3 rfl rfl hx4 rfl rfl (rq [10] 1 ?_)))
   exact raV hS1 [0,1,2,4,3] rfl
  ·refine ra1 5 (oO rfl (o_mkN (en:=(encL Qaa)) (zr:=([]:List Item)) Ty.s25 Ty.z29 ⟨.inr ⟨rfl,rfl⟩,trivial⟩ rfl rfl hx5 rfl rfl (rq [10] 1 ?_)))
   exact raV hS1 [0,1,4,2,3] rfl
  refine ra1 11 (og 5 ⟨rfl,(RA.done (by decide +kernel) (T.nilB 1 3 77 2 (cs:=[.ref 3,.ref 2,.ref 4,.nils,.nils]) rfl rfl (cs':=[.ref 3,.ref 2,.ref 4,.ref 5,.nils]) rfl rfl (T.nilB 1 4 72 3 (cs:=[.ref 3,.ref 2,.ref 4,.ref 5,.nils]) rfl rfl (cs':=[.ref 3,.ref 2,.ref 4,.ref 5,.ref 6]) rfl rfl ?_)))⟩)
  cases h
  exact tO [] [3,2,4,5,6] 7
theorem move_Start_c (p0:Net) (p1:List (List Item)) (r:State × Int) (h:move_Start p0 p1=some r):FnO Tryz.prog 17 [.agg (Qma p0),sL (encL Qaa) p1] (.tup [.agg [.ref 0,.ref 1,.ref 2,.ref 3,.ref 4],iI r.2]) [aR 3 1 encI r.1.At,aR 29 1 (encL Qaa) r.1.Rings,aR 84 3 Qca r.1.Memory,aR 77 2 Qba r.1.Choices,aR 72 3 Qaa r.1.Out]:=by
  unfold move_Start at h
  refine fnT 0 Tryz.func17 Tryz.ntmps17 ?_
  refine T.seq (T.region (go 3 0 (RS.nil (T.seq (T.seq ?_)))))
  obtain ⟨x2,hx2,h⟩:=bind_some h
  refine T.region (go 2 2 (sO (cF (net_Sources_c p0 p1 x2 hx2) ⟨rfl,(go 1 2 (RS.nil (T.seq (T.region (go 2 2 (RS.nil (T.ci h rfl (fun hb_1 h=>?_) (fun hb_1 h=>?_))))))))⟩)))
  ·refine T.seq (T.region (go 4 2 (RS.nil (T.nilB 1 0 3 1 (cs:=[.nils,.nils,.nils,.nils,.nils]) rfl rfl (cs':=[.ref 2,.nils,.nils,.nils,.nils]) rfl rfl (T.nilB 1 1 29 1 (cs:=[.ref 2,.nils,.nils,.nils,.nils]) rfl rfl (cs':=[.ref 2,.ref 3,.nils,.nils,.nils]) rfl rfl (T.nilB 1 2 84 3 (cs:=[.ref 2,.ref 3,.nils,.nils,.nils]) rfl rfl (cs':=[.ref 2,.ref 3,.ref 4,.nils,.nils]) rfl rfl (T.nilB 1 3 77 2 (cs:=[.ref 2,.ref 3,.ref 4,.nils,.nils]) rfl rfl (cs':=[.ref 2,.ref 3,.ref 4,.ref 5,.nils]) rfl rfl (T.nilB 1 4 72 3 (cs:=[.ref 2,.ref 3,.ref 4,.ref 5,.nils]) rfl rfl (cs':=[.ref 2,.ref 3,.ref 4,.ref 5,.ref 6]) rfl rfl ?_))))))))
   cases h
   exact tO [] [2,3,4,5,6] 7
  refine T.skip (T.seq ?_)
  obtain ⟨x4,hx4,h⟩:=bind_some h
  refine T.region (go 2 2 (sO (Vja (ac:=[.agg (Qma p0),sL (encL Qaa) p1]) (as0:=[.agg (Qma p0),sL (encL Qaa) p1]) (aw0:=[]) (aw1:=[aR 3 1 encI x4.At,aR 29 1 (encL Qaa) x4.Rings,aR 84 3 Qca x4.Memory,aR 77 2 Qba x4.Choices,aR 72 3 Qaa x4.Out]) (aw2:=[.box (Qma p0),.box [.nils,.nils,.nils,.nils,.nils],aR 3 1 encI x4.At,aR 29 1 (encL Qaa) x4.Rings,aR 84 3 Qca x4.Memory,aR 77 2 Qba x4.Choices,aR 72 3 Qaa x4.Out]) (v:=.agg [.ref 0,.ref 1,.ref 2,.ref 3,.ref 4]) (v':=.agg [.ref 2,.ref 3,.ref 4,.ref 5,.ref 6]) (n0:=2) (n1:=5) [] rfl rfl rfl rfl (by decide) (Qxa) ⟨rn_agg ⟨rn_s rfl,Qga rfl,Qga rfl,trivial⟩,rn_s rfl,trivial⟩ (FnX.of_fnO (move_start_c p0 p1 x4 hx4)) rfl (rm_agg (cs:=[.ref 2,.ref 3,.ref 4,.ref 5,.ref 6]) (ds:=[.ref 0,.ref 1,.ref 2,.ref 3,.ref 4]) ⟨Vga (by decide),Vga (by decide),Vga (by decide),Vga (by decide),Vga (by decide),trivial⟩) ⟨.inr ⟨rfl,rfl⟩,.inr ⟨rfl,rfl⟩,.inl ⟨0,_,by decide,rfl,Zca Yga⟩,.inl ⟨1,_,by decide,rfl,Zca (Y8a Q0a)⟩,.inl ⟨2,_,by decide,rfl,Zca Q9a⟩,.inl ⟨3,_,by decide,rfl,Zca Q5a⟩,.inl ⟨4,_,by decide,rfl,Zca Q0a⟩,trivial⟩ (go 2 7 (RS.nil ?_)))))
  cases h
  exact tO [] [2,3,4,5,6] 7
theorem move_head_c (p0:Net) (p1:List (List Item)) (p2:State) (p3:Move) (r:Item × Bool) (h:move_head p0 p1 p2 p3=some r):Fn Tryz.prog 71 [.agg (Qma p0),sL (encL Qaa) p1,.agg (Qra p2),.agg (Qta p3)] (.tup [.agg (Qaa r.1),.bool r.2]):=by
  unfold move_head at h
  refine fnT 0 Tryz.func71 Tryz.ntmps71 ?_
  refine T.seq (T.region (go 5 0 (RS.nil (T.seq ?_))))
  obtain ⟨x2,hx2,h⟩:=bind_some h
  refine T.region (go 4 4 (sQ (Qda Ty.s22 (fun _=>rfl) rfl rfl hx2 (go 3 4 (RS.nil (T.seq (T.seq (T.region (go 3 5 (RS.nil ?_))))))))))
  refine T.ci h rfl (fun hb_1 h=>?_) (fun hb_1 h=>?_)
  ·refine T.seq (T.seq ?_)
   obtain ⟨x5,hx5,h⟩:=bind_some h
   obtain ⟨x6,hx6,h⟩:=bind_some h
   refine T.drawn mixed (k:=13) rfl (rq [0,2,6,7] 9 (rL [8,9,10,11,12] 8 rfl (r0 9 rfl (Qda Ty.s25 (fun _=>rfl) rfl rfl hx6 (rL [10,11,12] 10 rfl (r0 11 rfl (Qfa Ty.s29 rfl (rL [1,4,5,12] 1 rfl (ra1 3 (og 5 ⟨rfl,(r0 4 rfl (Qda Ty.s26 (fun _=>rfl) rfl rfl hx5 ?_))⟩))))))))))
   refine ra1 5 (og 5 ⟨rfl,(rq [12] 0 (RA.done (by decide +kernel) (T.ci h rfl (fun hb_2 h=>?_) (fun hb_2 h=>?_))))⟩)
   ·refine T.seq (T.region (go 3 5 (RS.nil ?_)))
    cases h
    exact tD
   refine T.skip (T.seq ?_)
   obtain ⟨x10,hx10,h⟩:=bind_some h
   obtain ⟨x11,hx11,h⟩:=bind_some h
   obtain ⟨x12,hx12,h⟩:=bind_some h
   refine T.drawn mixed (k:=15) rfl (rq [0,1,5,7] 11 (rL [2,3,4,11,12,13,14] 2 rfl (r0 3 rfl (Qda Ty.s25 (fun _=>rfl) rfl rfl hx10 (rL [4,11,12,13,14] 4 rfl (rL [6,9,10,11,12,13,14] 6 rfl (ra1 8 (og 5 ⟨rfl,(r0 9 rfl (Qda Ty.s26 (fun _=>rfl) rfl rfl hx11 (ra1 10 ?_)))⟩))))))))
   refine og 5 ⟨rfl,(r0 11 rfl (Qda Ty.s29 (fun _=>rfl) rfl rfl hx12 (ra1 12 (og 5 ⟨rfl,(ra1 13 (og 5 ⟨rfl,(rq [14] 0 (RA.done (by decide +kernel) ?_))⟩))⟩))))⟩
   cases h
   exact tD
  refine T.skip (T.seq ?_)
  obtain ⟨x15,hx15,h⟩:=bind_some h
  obtain ⟨x16,hx16,h⟩:=bind_some h
  refine T.drawn mixed (k:=11) rfl (rq [0,2,4] 8 (rL [1,8,9,10] 1 rfl (rL [3,6,7,8,9,10] 3 rfl (ra1 5 (og 5 ⟨rfl,(r0 6 rfl (Qda Ty.s26 (fun _=>rfl) rfl rfl hx15 (ra1 7 (og 5 ⟨rfl,(r0 8 rfl (Qda Ty.s25 (fun _=>rfl) rfl rfl hx16 ?_))⟩))))⟩)))))
  refine ra1 9 (og 5 ⟨rfl,(rq [10] 0 (RA.done (by decide +kernel) (T.seq (T.seq (T.region (go 1 5 (sQ (Qfa Ty.s29 rfl (go 1 5 ?_)))))))))⟩)
  refine RS.nil (T.ci h rfl (fun hb_3 h=>?_) (fun hb_3 h=>?_))
  ·refine T.seq (T.region (go 3 5 (RS.nil ?_)))
   cases h
   exact tD
  refine T.skip (T.seq ?_)
  obtain ⟨x18,hx18,h⟩:=bind_some h
  refine T.region (go 1 5 (sQ (Qda Ty.s29 (fun _=>rfl) rfl rfl hx18 (go 3 5 (RS.nil ?_)))))
  cases h
  exact tD
theorem stage_Lane_c (p0:Item) (p1:Int) (r:Int × Int) (h:stage_Lane p0 p1=some r):Fn Tryz.prog 92 [.agg (Qaa p0),iI p1] (.tup [iI r.1,iI r.2]):=by
  unfold stage_Lane at h
  refine fnT 0 Tryz.func92 Tryz.ntmps92 ?_
  refine T.seq (T.region (go 3 0 (RS.nil (T.seq (T.join (Z:=Unit) (fun _=>mkA 20 [(1,iI p1),(2,.ptr 0 0),(11,.bool ((decide (p1<1)) || decide (p1 > 16)))]) (fun _=>[.box (Qaa p0)]) (fun _=>True) (fun _ _=>?_) (fun hK=>?_))))))
  ·refine T.ci h rfl (fun hb_2 h=>?_) (fun hb_2 h=>?_)
   ·refine T.seq (T.region (go 2 1 (RS.nil ?_)))
    cases h
    exact tD
   refine T.skip (T.seq ?_)
   obtain ⟨x4,hx4,h⟩:=bind_some h
   obtain ⟨x5,hx5,h⟩:=bind_some h
   refine T.region (go 3 1 (sQ (v_rem rfl rfl hx4 (go 3 1 (sQ (v_rem rfl rfl hx5 (go 2 1 (RS.nil ?_))))))))
   cases h
   exact tD
  refine T.region (go 3 1 ?_)
  rcases Qha (decide (p1<1)) with hb_1 | hb_1
  ·refine sN hb_1 (sN hb_1 (sQ (Qna (v:=.bool true) rfl hb_1 rfl (RS.nil ?_))))
   exact T.sub (hK () trivial) ⟨rfl,rfl,(congrArg AV.bool (by simp only [hb_1,bz,if_true,if_false,Bool.false_eq_true])).symm,trivial⟩
  refine yg 1 hb_1 (yg 1 hb_1 (sQ (Qia (v:=.bool (decide (p1 > 16))) rfl hb_1 rfl (RS.nil ?_))))
  exact T.sub (hK () trivial) ⟨rfl,rfl,(congrArg AV.bool (by simp only [hb_1,bz,if_true,if_false,Bool.false_eq_true])).symm,trivial⟩
theorem move_outs_c (p0:Node) (p1:Item) (r:List Int) (h:move_outs p0 p1=some r):Fn Tryz.prog 73 [.agg (Qja p0),.agg (Qaa p1)] (sL encI r):=by
  unfold move_outs at h
  refine fnT 0 Tryz.func73 Tryz.ntmps73 ?_
  refine T.seq (T.region (go 3 0 (RS.nil (T.seq (T.seq (T.region (go 3 2 (RS.nil (T.ci h rfl (fun hb_1 h=>?_) (fun hb_1 h=>?_))))))))))
  ·refine T.seq (T.region (go 3 2 (RS.nil ?_)))
   cases h
   exact tD
  refine T.skip (T.seq ?_)
  obtain ⟨x2,hx2,h⟩:=bind_some h
  refine T.region (go 3 2 (sQ (Qfa Ty.s26 rfl (sO (cF (stage_Lane_c p1 ((p0.Out).length:Int) x2 hx2) ⟨rfl,(go 5 2 (RS.nil (T.seq ?_)))⟩)))))
  obtain ⟨x4,hx4,h⟩:=bind_some h
  refine T.region (go 5 2 (sO (o_slice_sl Ty.s26 (fun _=>rfl) rfl rfl rfl hx4 (go 1 2 (RS.nil ?_)))))
  cases h
  exact tD
theorem move_can_1_xbf12_c (p0:Int) (p1:List Int) (p2:List (List Item)) (p3:List Memory) (p4:List Choice) (p5:List Item) (p6:List Node) (p7:Int) (p8:Int) (r:Bool) (h:Jgb p0 p1 p2 p3 p4 p5 p6 p7 p8=some r):FnX Tryz.prog 88 [iI p0,.ptr 0 0,.ptr 1 0] [.box [sL encI p1,sL (encL Qaa) p2,sL Qca p3,sL Qba p4,sL Qaa p5],.box [sL Qja p6,iI p7,iI p8]] (.bool r) [.box [sL encI p1,sL (encL Qaa) p2,sL Qca p3,sL Qba p4,sL Qaa p5],.box [sL Qja p6,iI p7,iI p8]]:=by
  unfold Jgb at h
  refine fnT 2 Tryz.func88 Tryz.ntmps88 ?_
  refine T.seq (T.region (go 1 2 (RS.nil (T.seq ?_))))
  obtain ⟨x2,hx2,h⟩:=bind_some h
  refine T.drawn mixed (k:=10) rfl (rq [0,2,6] 7 (rL [1,3,4,5,8,9] 1 rfl (r0 3 rfl (Qda Ty.s25 (fun _=>rfl) rfl rfl hx2 (rL [4,5,8,9] 4 rfl (r0 5 rfl (Qfa Ty.s29 rfl (ra1 7 (og 2 ⟨rfl,(rq [8,9] 0 (RA.done (by decide +kernel) ?_))⟩)))))))))
  cases h
  exact tN [0,1]
theorem slices_IndexFunc_int_x9c8e_c (p0:List Int) (p1:List Int) (p2:List (List Item)) (p3:List Memory) (p4:List Choice) (p5:List Item) (p6:List Node) (p7:Int) (p8:Int) (r:Int) (h:Vca p0 p1 p2 p3 p4 p5 p6 p7 p8=some r):FnX Tryz.prog 99 [sL encI p0,.func 88 [.ptr 0 0,.ptr 1 0]] [.box [sL encI p1,sL (encL Qaa) p2,sL Qca p3,sL Qba p4,sL Qaa p5],.box [sL Qja p6,iI p7,iI p8]] (iI r) [.box [sL encI p1,sL (encL Qaa) p2,sL Qca p3,sL Qba p4,sL Qaa p5],.box [sL Qja p6,iI p7,iI p8]]:=by
  unfold Vca at h
  refine fnT 2 Tryz.func99 Tryz.ntmps99 ?_
  refine T.seq (T.region (go 1 2 (RS.nil (T.seq (T.seq (T.region (go 1 2 (sQ (Qfa Ty.s26 rfl (go 1 2 ?_))))))))))
  refine RS.nil (T.block (T.iter (fun ss_5:Int=>mkA 19 [(0,sL encI p0),(1,.func 88 [.ptr 0 0,.ptr 1 0]),(7,iI ((p0).length:Int)),(8,iI ss_5)]) (fun ss_5=>[.box [sL encI p1,sL (encL Qaa) p2,sL Qca p3,sL Qba p4,sL Qaa p5],.box [sL Qja p6,iI p7,iI p8]]) h (wk [] [0,1] 2 rfl) (fun ss_5 v_6 h hv_6=>?_)))
  revert hv_6 h;revert ss_5;intro s1 h hv_6
  replace h:J3a p0 p1 p2 p3 p4 p5 p6 p7 p8 s1=some v_6:=h
  try dsimp only
  unfold J3a at h
  refine T.seq (T.region (go 1 2 (RS.nil (T.seq (T.ci h rfl (fun hb_7 h=>?_) (fun hb_7 h=>?_))))))
  ·refine T.skip (T.seq (T.block (T.seq (T.region (go 2 2 (RS.nil (T.seq ?_)))))))
   obtain ⟨x4,hx4,h⟩:=bind_some h
   obtain ⟨x5,hx5,h⟩:=bind_some h
   refine T.region (go 3 2 (sQ (Qda Ty.s26 (fun _=>rfl) rfl rfl hx4 (go 1 2 (sO (Vja (ac:=[iI x4,.ptr 0 0,.ptr 1 0]) (as0:=[iI x4,.ptr 0 0,.ptr 1 0]) (aw0:=[.box [sL encI p1,sL (encL Qaa) p2,sL Qca p3,sL Qba p4,sL Qaa p5],.box [sL Qja p6,iI p7,iI p8]]) (aw1:=[.box [sL encI p1,sL (encL Qaa) p2,sL Qca p3,sL Qba p4,sL Qaa p5],.box [sL Qja p6,iI p7,iI p8]]) (aw2:=[.box [sL encI p1,sL (encL Qaa) p2,sL Qca p3,sL Qba p4,sL Qaa p5],.box [sL Qja p6,iI p7,iI p8]]) (v:=.bool x5) (v':=.bool x5) (n0:=2) (n1:=2) [0,1] rfl rfl rfl rfl (by decide) (Jsa (cs:=[sL encI p1,sL (encL Qaa) p2,sL Qca p3,sL Qba p4,sL Qaa p5]) (ds:=[sL encI p1,sL (encL Qaa) p2,sL Qca p3,sL Qba p4,sL Qaa p5]) rfl ⟨rn_s rfl,rn_s rfl,rn_s rfl,rn_s rfl,rn_s rfl,trivial⟩ (Jsa (cs:=[sL Qja p6,iI p7,iI p8]) (ds:=[sL Qja p6,iI p7,iI p8]) rfl ⟨rn_s rfl,Qga rfl,Qga rfl,trivial⟩ (Qxa))) ⟨Qga rfl,Qqa rfl,Qqa rfl,trivial⟩ (move_can_1_xbf12_c x4 p1 p2 p3 p4 p5 p6 p7 p8 x5 hx5) rfl (Qua (Vfa _)) ⟨.inl ⟨0,_,by decide,rfl,Zoa (cs:=[sL encI p1,sL (encL Qaa) p2,sL Qca p3,sL Qba p4,sL Qaa p5]) (ds:=[sL encI p1,sL (encL Qaa) p2,sL Qca p3,sL Qba p4,sL Qaa p5]) ⟨Qua (Qpa Yga _),Qua (Qpa (Y8a Q0a) _),Qua (Qpa Q9a _),Qua (Qpa Q5a _),Qua (Qpa Q0a _),trivial⟩⟩,.inl ⟨1,_,by decide,rfl,Zoa (cs:=[sL Qja p6,iI p7,iI p8]) (ds:=[sL Qja p6,iI p7,iI p8]) ⟨Qua (Qpa Qsb _),Qua (Qea _ _),Qua (Qea _ _),trivial⟩⟩,trivial⟩ (RS.nil (T.ci h rfl (fun hb_8 h=>?_) (fun hb_8 h=>?_)))))))))
   ·refine T.seq (T.region (go 2 2 (RS.nil ?_)))
    obtain ⟨w_9,h,hw_9⟩:=Qsa h
    replace h:=h.trans (congrArg some (hv_6 _ hw_9))
    cases h
    exact tN [0,1]
   refine T.skip (T.region (go 2 2 (RS.nil ?_)))
   exact ⟨IntKind.i64.wrap (s1+1),(Option.some.inj h).symm,wk [] [0,1] 2 rfl⟩
  refine T.exit ?_
  obtain ⟨w_10,h,hw_10⟩:=Qsa h
  replace h:=h.trans (congrArg some (hv_6 _ hw_10))
  refine T.seq (T.region (go 1 2 (RS.nil ?_)))
  cases h
  exact tN [0,1]
theorem slices_ContainsFunc_int_x9c8e_c (p0:List Int) (p1:List Int) (p2:List (List Item)) (p3:List Memory) (p4:List Choice) (p5:List Item) (p6:List Node) (p7:Int) (p8:Int) (r:Bool) (h:J4a p0 p1 p2 p3 p4 p5 p6 p7 p8=some r):FnX Tryz.prog 87 [sL encI p0,.func 88 [.ptr 0 0,.ptr 1 0]] [.box [sL encI p1,sL (encL Qaa) p2,sL Qca p3,sL Qba p4,sL Qaa p5],.box [sL Qja p6,iI p7,iI p8]] (.bool r) [.box [sL encI p1,sL (encL Qaa) p2,sL Qca p3,sL Qba p4,sL Qaa p5],.box [sL Qja p6,iI p7,iI p8]]:=by
  unfold J4a at h
  refine fnT 2 Tryz.func87 Tryz.ntmps87 ?_
  refine T.seq (T.region (go 1 2 (RS.nil (T.seq ?_))))
  obtain ⟨x2,hx2,h⟩:=bind_some h
  refine T.region (go 2 2 (sO (Vja (ac:=[sL encI p0,.func 88 [.ptr 0 0,.ptr 1 0]]) (as0:=[sL encI p0,.func 88 [.ptr 0 0,.ptr 1 0]]) (aw0:=[.box [sL encI p1,sL (encL Qaa) p2,sL Qca p3,sL Qba p4,sL Qaa p5],.box [sL Qja p6,iI p7,iI p8]]) (aw1:=[.box [sL encI p1,sL (encL Qaa) p2,sL Qca p3,sL Qba p4,sL Qaa p5],.box [sL Qja p6,iI p7,iI p8]]) (aw2:=[.box [sL encI p1,sL (encL Qaa) p2,sL Qca p3,sL Qba p4,sL Qaa p5],.box [sL Qja p6,iI p7,iI p8]]) (v:=iI x2) (v':=iI x2) (n0:=2) (n1:=2) [0,1] rfl rfl rfl rfl (by decide) (Jsa (cs:=[sL encI p1,sL (encL Qaa) p2,sL Qca p3,sL Qba p4,sL Qaa p5]) (ds:=[sL encI p1,sL (encL Qaa) p2,sL Qca p3,sL Qba p4,sL Qaa p5]) rfl ⟨rn_s rfl,rn_s rfl,rn_s rfl,rn_s rfl,rn_s rfl,trivial⟩ (Jsa (cs:=[sL Qja p6,iI p7,iI p8]) (ds:=[sL Qja p6,iI p7,iI p8]) rfl ⟨rn_s rfl,Qga rfl,Qga rfl,trivial⟩ (Qxa))) ⟨rn_s rfl,rn_func ⟨Qqa rfl,Qqa rfl,trivial⟩,trivial⟩ (slices_IndexFunc_int_x9c8e_c p0 p1 p2 p3 p4 p5 p6 p7 p8 x2 hx2) rfl (Qua (Qea _ _)) ⟨.inl ⟨0,_,by decide,rfl,Zoa (cs:=[sL encI p1,sL (encL Qaa) p2,sL Qca p3,sL Qba p4,sL Qaa p5]) (ds:=[sL encI p1,sL (encL Qaa) p2,sL Qca p3,sL Qba p4,sL Qaa p5]) ⟨Qua (Qpa Yga _),Qua (Qpa (Y8a Q0a) _),Qua (Qpa Q9a _),Qua (Qpa Q5a _),Qua (Qpa Q0a _),trivial⟩⟩,.inl ⟨1,_,by decide,rfl,Zoa (cs:=[sL Qja p6,iI p7,iI p8]) (ds:=[sL Qja p6,iI p7,iI p8]) ⟨Qua (Qpa Qsb _),Qua (Qea _ _),Qua (Qea _ _),trivial⟩⟩,trivial⟩ (go 2 2 (RS.nil ?_)))))
  cases h
  exact tN [0,1]
theorem stage_Check_c (p0:Memory) (r:Int) (h:Yta p0=some r):Fn Tryz.prog 54 [.agg (Qca p0)] (iI r):=by
  unfold Yta at h
  refine fnT 0 Tryz.func54 Tryz.ntmps54 ?_
  refine T.seq (T.region (go 2 0 (RS.nil (T.seq (T.seq (T.region (go 2 1 (sQ (Qfa Ty.s82 rfl (go 1 1 ?_))))))))))
  refine RS.nil (T.ci h rfl (fun hb_1 h=>?_) (fun hb_1 h=>?_))
  ·refine T.seq (T.region (go 1 1 (RS.nil ?_)))
   cases h
   exact tD
  refine T.skip (T.seq (T.seq (T.region (go 2 1 (sQ (Qfa Ty.s82 rfl (go 1 1 (RS.nil (T.block (T.iter (fun ss_16:Int=>mkA 40 [(1,.ptr 0 0),(10,sL Qka p0.Keys),(11,iI ((p0.Keys).length:Int)),(12,iI ss_16)]) (fun ss_16=>[.box (Qca p0)]) h (wk [] [0] 1 rfl) (fun ss_16 v_17 h hv_17=>?_)))))))))))
  revert hv_17 h;revert ss_16;intro s1 h hv_17
  replace h:Zka p0 s1=some v_17:=h
  try dsimp only
  unfold Zka at h
  refine T.seq (T.region (go 1 1 (RS.nil (T.seq (T.ci h rfl (fun hb_18 h=>?_) (fun hb_18 h=>?_))))))
  ·refine T.skip (T.seq (T.block (T.seq ?_)))
   obtain ⟨x3,hx3,h⟩:=bind_some h
   refine T.region (go 1 1 (sQ (Qda Ty.s82 (fun _=>rfl) rfl rfl hx3 (go 4 1 (RS.nil ?_)))))
   obtain ⟨zt_21,hz,h⟩:=bind_some h
   revert hz h;revert zt_21;intro c5 hz h
   refine T.join (Z:=Unit) (fun _=>mkA 40 [(1,.ptr 0 0),(10,sL Qka p0.Keys),(11,iI ((p0.Keys).length:Int)),(12,iI s1),(35,.bool c5)]) (fun _=>[.box (Qca p0)]) (fun _=>True) (fun _ _=>?_) (fun hK=>?_)
   ·refine T.ci h rfl (fun hb_22 h=>?_) (fun hb_22 h=>?_)
    ·refine T.seq (T.region (go 1 1 (RS.nil ?_)))
     obtain ⟨w_23,h,hw_23⟩:=Qsa h
     replace h:=h.trans (congrArg some (hv_17 _ hw_23))
     cases h
     exact tD
    refine T.skip (T.region (go 2 1 (RS.nil ?_)))
    exact ⟨IntKind.i64.wrap (s1+1),(Option.some.inj h).symm,wk [] [0] 1 rfl⟩
   rcases Qha (decide (x3.N<1)) with hb_19 | hb_19
   ·replace hz:=ite_T hz hb_19
    refine T.drawn mixed (k:=19) rfl (rq [0] 18 (ra1 1 (og 2 ⟨rfl,(rq [2,3] 15 (r2 4 rfl hb_19 (r2 5 rfl hb_19 (r2 6 rfl hb_19 (r3 7 rfl (r3 8 rfl ?_))))))⟩)))
    refine r3 9 rfl (r3 10 rfl (r3 11 rfl (r3 12 rfl (r3 13 rfl (r3 14 rfl (r3 15 rfl (r3 16 rfl (r2 17 rfl hb_19 (r0 18 rfl (Qna (v:=.bool true) rfl hb_19 rfl ?_))))))))))
    refine RA.done (by decide +kernel) ?_
    exact T.weakR (hK () trivial) (Weak.mkN [] [0] (by decide) (Qla _) rfl ⟨Qqa rfl,rn_s rfl,Qga rfl,Qga rfl,Q6a ((congrArg (fun p=>p) (Option.some.inj hz)).symm),trivial⟩ (rw_bs (Qca p0) rfl (Qxa)))
   replace hz:=ite_F hz hb_19
   rcases Qha (decide (s1 > 0)) with hb_20 | hb_20
   ·replace hz:=ite_T hz hb_20
    obtain ⟨x4,hx4,hz⟩:=bind_some hz
    refine T.drawn mixed (k:=19) rfl ?_
    apply RA.jn 0 #[true,true,true,true,true,true,true,true,true,true,true,true,true,true,true,true,true,true,true];intro hS24
    apply RA.jn 4 #[true,true,true,true,true,true,true,true,true,true,true,true,true,false,true,true,false,false,false];intro hS25
    ·refine rq [0] 18 (ra1 1 (og 2 ⟨rfl,(rq [2,3] 15 (ry 4 hb_19 rfl (ry 5 hb_19 rfl (ry 6 hb_19 rfl (ry 7 hb_20 rfl (ry 9 hb_20 rfl (ry 10 hb_20 rfl ?_)))))))⟩))
     refine ry 14 hb_20 rfl (ra2 8 15 ?_ ?_)
     ·refine oy 2 hb_20 rfl (r1 11 rfl hb_20 (Qda Ty.s82 (fun _=>rfl) rfl rfl hx4 (ry 12 hb_20 rfl (ra2 13 15 ?_ ?_))))
      ·refine oy 2 hb_20 rfl (ra1 15 (oy 2 hb_20 rfl (ry 16 hb_20 rfl (r1 17 rfl hb_19 (Qna (v:=.bool (decide (x4.Key ≥ x3.Key))) rfl hb_20 rfl (r0 18 rfl (Qia (v:=.bool (decide (x4.Key ≥ x3.Key))) rfl hb_19 rfl ?_)))))))
       exact raE hS24
      ·refine oy 2 hb_20 rfl ?_
       exact raE hS25
     ·refine oy 2 hb_20 rfl (ra1 8 (oy 2 hb_20 rfl (r1 11 rfl hb_20 (Qda Ty.s82 (fun _=>rfl) rfl rfl hx4 (ry 12 hb_20 rfl ?_)))))
      exact raT hS25
    ·refine ra1 13 (oy 2 hb_20 rfl (ry 16 hb_20 rfl (r1 17 rfl hb_19 (Qna (v:=.bool (decide (x4.Key ≥ x3.Key))) rfl hb_20 rfl (r0 18 rfl (Qia (v:=.bool (decide (x4.Key ≥ x3.Key))) rfl hb_19 rfl ?_))))))
     exact raT hS24
    refine RA.done (by decide +kernel) ?_
    exact T.weakR (hK () trivial) (Weak.mkN [] [0] (by decide) (Qla _) rfl ⟨Qqa rfl,rn_s rfl,Qga rfl,Qga rfl,Q6a ((congrArg (fun p=>p) (Option.some.inj hz)).symm),trivial⟩ (rw_bs (Qca p0) rfl (Qxa)))
   replace hz:=ite_F hz hb_20
   refine T.drawn mixed (k:=19) rfl (rq [0] 18 (ra1 1 (og 2 ⟨rfl,(rq [2,3] 15 (ry 4 hb_19 rfl (ry 5 hb_19 rfl (ry 6 hb_19 rfl (r2 7 rfl hb_20 (r2 8 rfl hb_20 ?_))))))⟩)))
   refine r2 9 rfl hb_20 (r2 10 rfl hb_20 (r2 11 rfl hb_20 (r2 12 rfl hb_20 (r2 13 rfl hb_20 (r2 14 rfl hb_20 (r2 15 rfl hb_20 (r2 16 rfl hb_20 (r1 17 rfl hb_19 (Qia (v:=.bool false) rfl hb_20 rfl (r0 18 rfl (Qia (v:=.bool false) rfl hb_19 rfl ?_)))))))))))
   refine RA.done (by decide +kernel) ?_
   exact T.weakR (hK () trivial) (Weak.mkN [] [0] (by decide) (Qla _) rfl ⟨Qqa rfl,rn_s rfl,Qga rfl,Qga rfl,Q6a ((congrArg (fun p=>p) (Option.some.inj hz)).symm),trivial⟩ (rw_bs (Qca p0) rfl (Qxa)))
  refine T.exit ?_
  obtain ⟨w_26,h,hw_26⟩:=Qsa h
  replace h:=h.trans (congrArg some (hv_17 _ hw_26))
  refine T.seq (T.seq (T.region (go 3 1 (RS.nil (T.ci h rfl (fun hb_27 h=>?_) (fun hb_27 h=>?_))))))
  ·refine T.seq (T.region (go 1 1 (RS.nil ?_)))
   cases h
   exact tD
  refine T.skip (T.seq (T.region (go 1 1 (RS.nil ?_))))
  cases h
  exact tD
end Go.Proofs.YtfbmoockopakjaaGreat
