/-
  Part 3 of the proof of shopAgainLaw.proved: the code computes these functions, and the law holds of them, with no condition beyond the statement's own; put together by a program of ours (wip/decl.py) out of texts of ours.
-/
import Derived.Test.YtnlmagdmmjkklaaGreatZShopAgain2
set_option linter.unusedVariables false
set_option linter.unusedSimpArgs false
namespace Go.Proofs.YtnlmagdmmjkklaaGreat
noncomputable section
set_option maxRecDepth 100000
def t9 (p0 p1:Int):Option (Int × Int) :=
 ((shr .u64 p0 32).bind fun x2=>((shr .u64 p1 32).bind fun x4=>((shr .u64 (IntKind.u64.wrap ((ibits .and .u64 p0 4294967295)*(ibits .and .u64 p1 4294967295))) 32).bind fun x6=>((shr .u64 (IntKind.u64.wrap ((IntKind.u64.wrap (x2*(ibits .and .u64 p1 4294967295)))+x6)) 32).bind fun x8=>((shr .u64 (IntKind.u64.wrap ((ibits .and .u64 (IntKind.u64.wrap ((IntKind.u64.wrap (x2*(ibits .and .u64 p1 4294967295)))+x6)) 4294967295)+(IntKind.u64.wrap ((ibits .and .u64 p0 4294967295)*x4)))) 32).bind fun x10=>(some (IntKind.u64.wrap ((IntKind.u64.wrap ((IntKind.u64.wrap (x2*x4))+x8))+x10),IntKind.u64.wrap (p0*p1))))))))
def rV (p0 p1:Int):Option (Int × Int) :=
 ((t9 p0 p1).bind fun x2=>(some (x2.1,x2.2)))
def jK  (s6:Int) (s7:List Ends):Option ((Int × (List Ends)) ⊕ (List Ends)) :=
 (if (decide (s6<((s7).length:Int)))=true then ((vwok (s7).length s6 ((s7).length:Int)).bind fun x8=>((vwok (s7).length 0 s6).bind fun x9=>((vwok (s7).length ((s6).toNat:Nat) (((s6).toNat:Nat)+(((((s7).length:Int)).toNat - (s6).toNat):Nat))).bind fun x10=>((vwok (s7).length (((0:Int)).toNat:Nat) ((((0:Int)).toNat:Nat)+(((s6).toNat - ((0:Int)).toNat):Nat))).bind fun x11=>(some (.inl (IntKind.i64.wrap (s6+((min ((((s7).length:Int)).toNat - (s6).toNat) ((s6).toNat - ((0:Int)).toNat):Nat):Int)),(cpy s7 ((s6).toNat) ((((s7).length:Int)).toNat - (s6).toNat) ((s7.drop (((0:Int)).toNat)).take ((s6).toNat - ((0:Int)).toNat)))))))))) else (Option.map Sum.inr (some s7)))
def pu (p0:List Ends) (p1:Int):Option (List Ends) :=
 (if (decide (p1<0))=true then (none) else ((rV (IntKind.u64.wrap ((p0).length:Int)) (IntKind.u64.wrap p1)).bind fun x2=>(if ((decide (x2.1 > 0)) || decide (x2.2 > 9223372036854775807))=true then (none) else ((mk (IntKind.i64.wrap x2.2) (⟨0,0⟩:Ends)).bind fun x5=>(iter (fun gr:Int × (List Ends)=>jK gr.1 gr.2) (((min (x5).length (p0).length:Nat):Int),(cpy x5 0 (x5).length p0)))))))
def nD (p0:Int) (z2:Bool):Option (Int × Int × Bool) :=
 (if z2=true then (some (1,(-1),true)) else (if (p0==6)=true then (some ((-1),1,true)) else (if (p0==8)=true then (some (1,0,true)) else (some (0,0,false)))))
def lA (p0:Int) (z1:Bool):Option (Int × Int × Bool) :=
 (if z1=true then (some (1,1,true)) else (if (p0==5)=true then (nD p0 (p0==5)) else (nD p0 (p0==7))))
def qn (p0:Int):Option (Int × Int × Bool) :=
 (if (p0==1)=true then (some (0,1,true)) else (if (p0==2)=true then (lA p0 (p0==2)) else (if (p0==3)=true then (lA p0 (p0==3)) else (lA p0 (p0==4)))))
def oh (p0 p1:Int):Option Bool :=
 (some ((p0==p1) || ((decide (p1<0)) && decide (p0 > 0))))
def ka (p0:Net) (s6:Int) (x9:Node) (z15 s27:Int) (s28:List Ends):Option ((Int × (List Ends)) ⊕ ((Int × Int × (List Ends)) ⊕ ((List Ends) × Int))) :=
 (if (decide (s27<((x9.Out).length:Int)))=true then ((idx x9.Out s27).bind fun x30=>(if ((decide (x30<0)) || decide (x30 >= p0.Rings))=true then (Option.map Sum.inr (Option.map Sum.inr (some ([],3)))) else ((ixN s28 x30).bind fun x34=>(((s28)[x34]?).bind fun x35=>(if (decide (x35.src >= 0))=true then (Option.map Sum.inr (Option.map Sum.inr (some ([],6)))) else ((ixN s28 x30).bind fun x36=>(((s28)[x36]?).bind fun x37=>(some (.inl (IntKind.i64.wrap (s27+1),(List.set s28 x36 (⟨s6,x37.dst⟩:Ends)))))))))))) else (Option.map Sum.inr (some (.inl (z15,IntKind.i64.wrap (s6+1),s28)))))
def j6 (p0:Net) (s6:Int) (x9:Node) (z15 s16:Int) (s17:List Ends):Option ((Int × (List Ends)) ⊕ ((Int × Int × (List Ends)) ⊕ ((List Ends) × Int))) :=
 (if (decide (s16<((x9.In).length:Int)))=true then ((idx x9.In s16).bind fun x19=>(if ((decide (x19<0)) || decide (x19 >= p0.Rings))=true then (Option.map Sum.inr (Option.map Sum.inr (some ([],3)))) else ((ixN s17 x19).bind fun x23=>(((s17)[x23]?).bind fun x24=>(if (decide (x24.dst >= 0))=true then (Option.map Sum.inr (Option.map Sum.inr (some ([],6)))) else ((ixN s17 x19).bind fun x25=>(((s17)[x25]?).bind fun x26=>(some (.inl (IntKind.i64.wrap (s16+1),(List.set s17 x25 (⟨x26.src,s6⟩:Ends)))))))))))) else (Option.map Sum.inr (iter (fun kG:Int × (List Ends)=>ka p0 s6 x9 z15 kG.1 kG.2) (0,s17))))
def lG (p0:Net) (s6:Int) (s7:List Ends) (x9:Node) (z15:Int):Option ((Int × Int × (List Ends)) ⊕ ((List Ends) × Int)) :=
 (iter (fun kH:Int × (List Ends)=>j6 p0 s6 x9 z15 kH.1 kH.2) (0,s7))
def lI (s5:Int) (s7:List Ends) (s38:Int):Option (Int ⊕ ((List Ends) × Int)) :=
 (if (decide (s38<((s7).length:Int)))=true then ((ixN s7 s38).bind fun x41=>(((s7)[x41]?).bind fun x42=>(if ((decide (x42.src<0)) || decide (x42.dst<0))=true then (Option.map Sum.inr (some ([],9))) else (some (.inl (IntKind.i64.wrap (s38+1))))))) else (Option.map Sum.inr (if (s5 != 1)=true then (some ([],4)) else (some (s7,0)))))
def j5 (p0:Net) (s5 s6:Int) (s7:List Ends):Option ((Int × Int × (List Ends)) ⊕ ((List Ends) × Int)) :=
 (if (decide (s6<((p0.Nodes).length:Int)))=true then ((idx p0.Nodes s6).bind fun x9=>((qn x9.Kind).bind fun x11=>(if (!x11.2.2)=true then (Option.map Sum.inr (some ([],5))) else ((oh ((x9.In).length:Int) x11.1).bind fun x12=>(Option.bind (if (!x12)=true then (some true) else ((oh ((x9.Out).length:Int) x11.2.1).bind fun x13=>(some (!x13)))) fun c14=>(if c14=true then (Option.map Sum.inr (some ([],4))) else (if ((decide (x9.A<0)) || (if (x9.Kind==1)=true then ((decide (x9.A >= 4)) || (if (x9.Kind==2)=true then ((decide (x9.A > 3)) || ((x9.Kind != 1) && ((x9.Kind != 2) && x9.A != 0))) else ((x9.Kind != 1) && ((x9.Kind != 2) && x9.A != 0)))) else (if (x9.Kind==2)=true then ((decide (x9.A > 3)) || ((x9.Kind != 1) && ((x9.Kind != 2) && x9.A != 0))) else ((x9.Kind != 1) && ((x9.Kind != 2) && x9.A != 0)))))=true then (Option.map Sum.inr (some ([],3))) else (if (x9.Kind==8)=true then (lG p0 s6 s7 x9 (IntKind.i64.wrap (s5+1))) else (lG p0 s6 s7 x9 s5))))))))) else (Option.map Sum.inr (iter (fun oD:Int=>lI s5 s7 oD) 0)))
def qv (p0:Net):Option ((List Ends) × Int) :=
 (if ((decide (((p0.Nodes).length:Int)<1)) || ((decide (((p0.Nodes).length:Int) > 12)) || ((decide (p0.Rings<0)) || decide (p0.Rings > 16))))=true then (some ([],2)) else (if ((decide (p0.Room<1)) || decide (p0.Room > 6))=true then (some ([],3)) else ((pu ([(⟨(-1),(-1)⟩:Ends)]:List Ends) p0.Rings).bind fun x4=>(iter (fun iz:Int × Int × (List Ends)=>j5 p0 iz.1 iz.2.1 iz.2.2) (0,0,x4)))))
def pA (p0:Int) (p1:List Bool) (p2:List Ends):Option Bool :=
 ((ixN p2 p0).bind fun x5=>(((p2)[x5]?).bind fun x6=>((ixN p1 x6.src).bind fun x7=>(((p1)[x7]?).bind fun x8=>(some (!x8))))))
def m8 (p0:List Int) (p1:List Bool) (p2:List Ends) (s1:Int):Option (Int ⊕ Int) :=
 (if (decide (s1<((p0).length:Int)))=true then ((idx p0 s1).bind fun x4=>((pA x4 p1 p2).bind fun x5=>(if x5=true then (Option.map Sum.inr (some s1)) else (some (.inl (IntKind.i64.wrap (s1+1))))))) else (Option.map Sum.inr (some (-1))))
def rB (p0:List Int) (p1:List Bool) (p2:List Ends):Option Int :=
 (iter (fun al:Int=>m8 p0 p1 p2 al) 0)
def m9 (p0:List Int) (p1:List Bool) (p2:List Ends):Option Bool :=
 ((rB p0 p1 p2).bind fun x2=>(some (decide (x2 >= 0))))
def ly (s5:List Int) (s6:List Bool) (z14:Int):Option (((List Int) × (List Bool)) ⊕ ((List Int) × Int)) :=
 (if (decide (z14<0))=true then (Option.map Sum.inr (some ([],7))) else ((ixN s6 z14).bind fun x17=>(((s6)[x17]?).bind fun x18=>((app s5 [z14]).bind fun x19=>(some (.inl (x19,(List.set s6 x17 true))))))))
def jY (p0:Net) (x2:(List Ends) × Int) (s5:List Int) (s6:List Bool) (s7:Int):Option (Int ⊕ (((List Int) × (List Bool)) ⊕ ((List Int) × Int))) :=
 (if (decide (s7<((p0.Nodes).length:Int)))=true then ((idx p0.Nodes s7).bind fun x9=>((ixN s6 s7).bind fun x10=>(((s6)[x10]?).bind fun x11=>(Option.bind (if (!x11)=true then ((m9 x9.In s6 x2.1).bind fun x12=>(some (!x12))) else (some false)) fun c13=>(if c13=true then (Option.map Sum.inr (ly s5 s6 s7)) else (some (.inl (IntKind.i64.wrap (s7+1))))))))) else (Option.map Sum.inr (ly s5 s6 (-1))))
def jW (p0:Net) (x2:(List Ends) × Int) (s5:List Int) (s6:List Bool):Option (((List Int) × (List Bool)) ⊕ ((List Int) × Int)) :=
 (if (decide (((s5).length:Int)<((p0.Nodes).length:Int)))=true then (iter (fun oE:Int=>jY p0 x2 s5 s6 oE) 0) else (Option.map Sum.inr (some (s5,0))))
def qi (p0:Net):Option ((List Int) × Int) :=
 ((qv p0).bind fun x2=>(if (x2.2 != 0)=true then (some ([],x2.2)) else ((mk ((p0.Nodes).length:Int) false).bind fun x4=>(iter (fun kK:(List Int) × (List Bool)=>jW p0 x2 kK.1 kK.2) ([],x4)))))
def nT (p0:Net):Option Int :=
 ((qi p0).bind fun x2=>(some x2.2))
def nn (s3:Int) (x5:List Item) (s6:Int):Option (Int ⊕ (Int ⊕ Int)) :=
 (if (decide (s6<((x5).length:Int)))=true then ((idx x5 s6).bind fun x8=>(if (x8.Dep != 0)=true then (Option.map Sum.inr (Option.map Sum.inr (some 4))) else (some (.inl (IntKind.i64.wrap (s6+1)))))) else (Option.map Sum.inr (some (.inl (IntKind.i64.wrap (s3+1))))))
def jQ (p0:Net) (p1:List (List Item)) (s11:Int) (s12:List Bool):Option ((Int × (List Bool)) ⊕ Int) :=
 (if (decide (s11<((p0.Nodes).length:Int)))=true then ((idx p0.Nodes s11).bind fun x14=>(if (x14.Kind != 1)=true then (some (.inl (IntKind.i64.wrap (s11+1),s12))) else (if (decide (x14.A >= ((p1).length:Int)))=true then (Option.map Sum.inr (some 5)) else ((ixN s12 x14.A).bind fun x17=>(((s12)[x17]?).bind fun x18=>(if x18=true then (Option.map Sum.inr (some 6)) else ((ixN s12 x14.A).bind fun x19=>(((s12)[x19]?).bind fun x20=>(some (.inl (IntKind.i64.wrap (s11+1),(List.set s12 x19 true)))))))))))) else (Option.map Sum.inr (some 0)))
def nq (p0:Net) (p1:List (List Item)) (s3:Int):Option (Int ⊕ Int) :=
 (if (decide (s3<((p1).length:Int)))=true then ((idx p1 s3).bind fun x5=>(if (decide (((x5).length:Int) > 20))=true then (Option.map Sum.inr (some 2)) else (iter (fun dG:Int=>nn s3 x5 dG) 0))) else (Option.map Sum.inr ((mk ((p1).length:Int) false).bind fun x10=>(iter (fun kL:Int × (List Bool)=>jQ p0 p1 kL.1 kL.2) (0,x10)))))
def j9 (p0:Net) (p1:List (List Item)):Option Int :=
 ((nT p0).bind fun x2=>(if (x2 != 0)=true then (some x2) else (if (decide (((p1).length:Int) > 4))=true then (some 2) else (iter (fun fk:Int=>nq p0 p1 fk) 0))))
def qe (p0:Net) (p1:List (List Item)):Option State :=
 ((mk ((p1).length:Int) 0).bind fun x4=>((mk p0.Rings ([]:List Item)).bind fun x5=>((mk ((p0.Nodes).length:Int) (⟨0,[],0⟩:Memory)).bind fun x6=>(some (⟨x4,x5,x6,[],[]⟩:State)))))
def iV (p0:Net) (p1:List (List Item)):Option (State × Int) :=
 ((j9 p0 p1).bind fun x2=>(if (x2 != 0)=true then (some ((⟨[],[],[],[],[]⟩:State),x2)) else ((qe p0 p1).bind fun x4=>(some (x4,0)))))
def rM (p0:List Node):Option (List Node):=app [] p0
def jN (p0:List Int):Option (List Int):=app [] p0
def j8 (p0:Net) (x2:List Node) (s3:Int) (s4:List Node):Option ((Int × (List Node)) ⊕ Net) :=
 (if (decide (s3<((x2).length:Int)))=true then ((ixN s4 s3).bind fun x5=>(((s4)[x5]?).bind fun x6=>((jN x6.In).bind fun x7=>((ixN s4 s3).bind fun x8=>(((s4)[x8]?).bind fun x9=>((jN x9.Out).bind fun x10=>((ixN s4 s3).bind fun x11=>(((s4)[x11]?).bind fun x12=>((ixN (List.set s4 x11 (⟨x12.Kind,x12.A,x7,x12.Out⟩:Node)) s3).bind fun x13=>((((List.set s4 x11 (⟨x12.Kind,x12.A,x7,x12.Out⟩:Node)))[x13]?).bind fun x14=>(some (.inl (IntKind.i64.wrap (s3+1),(List.set (List.set s4 x11 (⟨x12.Kind,x12.A,x7,x12.Out⟩:Node)) x13 (⟨x14.Kind,x14.A,x14.In,x10⟩:Node))))))))))))))) else (Option.map Sum.inr (some (⟨s4,p0.Rings,p0.Room⟩:Net))))
def oa (p0:Net):Option Net :=
 ((rM p0.Nodes).bind fun x2=>(iter (fun kM:Int × (List Node)=>j8 p0 x2 kM.1 kM.2) (0,x2)))
def eQ (p0:List Item):Option (List Item):=app [] p0
def jM (p0:List (List Item)) (s1:Int) (s2:List (List Item)):Option ((Int × (List (List Item))) ⊕ (List (List Item))) :=
 (if (decide (s1<((p0).length:Int)))=true then ((idx p0 s1).bind fun x4=>((eQ x4).bind fun x5=>((app s2 [x5]).bind fun x6=>(some (.inl (IntKind.i64.wrap (s1+1),x6)))))) else (Option.map Sum.inr (some s2)))
def pL (p0:List (List Item)):Option (List (List Item)) :=
 (iter (fun cv:Int × (List (List Item))=>jM p0 cv.1 cv.2) (0,[]))
def l6 (p0:Net) (p1:List (List Item)):Option (Shop × Int) :=
 ((iV p0 p1).bind fun x2=>(if (x2.2 != 0)=true then (some ((⟨(⟨[],0,0⟩:Net),[],(⟨[],[],[],[],[]⟩:State),(⟨[],[]⟩:Disk),0,0,0,0,0,[],false⟩:Shop),x2.2)) else ((oa p0).bind fun x5=>((pL p1).bind fun x6=>(some ((⟨x5,x6,x2.1,(⟨[],[]⟩:Disk),0,0,0,(-1),0,[],false⟩:Shop),0))))))
def rF (p0:Item) (p1:List Int) (p2:List (List Item)) (p3:List Memory) (p4:List Choice) (p5:List Item):Option Bool :=
 (some ((decide (p0.Dep<0)) || decide (p0.Dep > ((p4).length:Int))))
def o6 (p0:List Item) (p1:List Int) (p2:List (List Item)) (p3:List Memory) (p4:List Choice) (p5:List Item) (s1:Int):Option (Int ⊕ Int) :=
 (if (decide (s1<((p0).length:Int)))=true then ((idx p0 s1).bind fun x4=>((rF x4 p1 p2 p3 p4 p5).bind fun x5=>(if x5=true then (Option.map Sum.inr (some s1)) else (some (.inl (IntKind.i64.wrap (s1+1))))))) else (Option.map Sum.inr (some (-1))))
def rA (p0:List Item) (p1:List Int) (p2:List (List Item)) (p3:List Memory) (p4:List Choice) (p5:List Item):Option Int :=
 (iter (fun al:Int=>o6 p0 p1 p2 p3 p4 p5 al) 0)
def rx (p0:List Item) (p1:List Int) (p2:List (List Item)) (p3:List Memory) (p4:List Choice) (p5:List Item):Option Bool :=
 ((rA p0 p1 p2 p3 p4 p5).bind fun x2=>(some (decide (x2 >= 0))))
def ng (p0:List Item) (p1:List Int) (p2:List (List Item)) (p3:List Memory) (p4:List Choice) (p5:List Item):Option Bool :=
 ((rx p0 p1 p2 p3 p4 p5).bind fun x2=>(some (!x2)))
def hJ (p0:Memory) (s1:Int):Option (Int ⊕ Int) :=
 (if (decide (s1<((p0.Keys).length:Int)))=true then ((idx p0.Keys s1).bind fun x3=>(Option.bind (if (decide (x3.N<1))=true then (some true) else (if (decide (s1 > 0))=true then ((idx p0.Keys (IntKind.i64.wrap (s1 - 1))).bind fun x4=>(some (decide (x4.Key >= x3.Key)))) else (some false))) fun c5=>(if c5=true then (Option.map Sum.inr (some 4)) else (some (.inl (IntKind.i64.wrap (s1+1))))))) else (Option.map Sum.inr (if (decide (p0.Dep<0))=true then (some 3) else (some 0))))
def kb (p0:Memory):Option Int :=
 (if (decide (((p0.Keys).length:Int) > 6))=true then (some 2) else (iter (fun oH:Int=>hJ p0 oH) 0))
def pW (p0:Net) (p1:Choice):Option Bool :=
 (Option.bind (if (decide (p1.Node >= 0))=true then (if (decide (p1.Node<((p0.Nodes).length:Int)))=true then ((idx p0.Nodes p1.Node).bind fun x1=>(if (x1.Kind==6)=true then (if (decide (p1.Lane >= 0))=true then ((idx p0.Nodes p1.Node).bind fun x2=>(some (decide (p1.Lane<((x2.In).length:Int))))) else (some false)) else (some false))) else (some false)) else (some false)) fun c3=>(some c3))
def nr (p0:Net) (p2:State) (s20:Int):Option (Int ⊕ Int) :=
 (if (decide (s20<((p2.Choices).length:Int)))=true then ((idx p2.Choices s20).bind fun x22=>((pW p0 x22).bind fun x24=>(if (!x24)=true then (Option.map Sum.inr (some 5)) else (some (.inl (IntKind.i64.wrap (s20+1))))))) else (Option.map Sum.inr ((ng p2.Out p2.At p2.Rings p2.Memory p2.Choices p2.Out).bind fun x26=>(if (!x26)=true then (some 3) else (some 0)))))
def nC (p0:Net) (p2:State) (s15:Int):Option (Int ⊕ Int) :=
 (if (decide (s15<((p2.Memory).length:Int)))=true then ((idx p2.Memory s15).bind fun x17=>((kb x17).bind fun x19=>(if (x19 != 0)=true then (Option.map Sum.inr (some x19)) else (if (decide (x17.Dep > ((p2.Choices).length:Int)))=true then (Option.map Sum.inr (some 3)) else (some (.inl (IntKind.i64.wrap (s15+1)))))))) else (Option.map Sum.inr (iter (fun iH:Int=>nr p0 p2 iH) 0)))
def nw (p0:Net) (p2:State) (s10:Int):Option (Int ⊕ Int) :=
 (if (decide (s10<((p2.Rings).length:Int)))=true then ((idx p2.Rings s10).bind fun x12=>(if (decide (((x12).length:Int) > p0.Room))=true then (Option.map Sum.inr (some 2)) else ((ng x12 p2.At p2.Rings p2.Memory p2.Choices p2.Out).bind fun x14=>(if (!x14)=true then (Option.map Sum.inr (some 3)) else (some (.inl (IntKind.i64.wrap (s10+1)))))))) else (Option.map Sum.inr (iter (fun kN:Int=>nC p0 p2 kN) 0)))
def pO (p0:Net) (p1:List (List Item)) (p2:State) (s5:Int):Option (Int ⊕ Int) :=
 (if (decide (s5<((p2.At).length:Int)))=true then ((idx p2.At s5).bind fun x7=>(Option.bind (if (decide (x7<0))=true then (some true) else ((idx p1 s5).bind fun x8=>(some (decide (x7 > ((x8).length:Int)))))) fun c9=>(if c9=true then (Option.map Sum.inr (some 3)) else (some (.inl (IntKind.i64.wrap (s5+1))))))) else (Option.map Sum.inr (iter (fun db:Int=>nw p0 p2 db) 0)))
def gC (p0:Net) (p1:List (List Item)) (p2:State):Option Int :=
 ((j9 p0 p1).bind fun x2=>(if (x2 != 0)=true then (some x2) else (if ((((p2.At).length:Int) != ((p1).length:Int)) || ((((p2.Rings).length:Int) != p0.Rings) || ((p2.Memory).length:Int) != ((p0.Nodes).length:Int)))=true then (some 4) else (if ((decide (((p2.Choices).length:Int) > 500)) || decide (((p2.Out).length:Int) > 2000))=true then (some 2) else (iter (fun eu:Int=>pO p0 p1 p2 eu) 0)))))
def jS (p0:Disk) (s5:Int):Option (Int ⊕ Int) :=
 (if (decide (s5<((p0.Wait).length:Int)))=true then ((idx p0.Wait s5).bind fun x7=>(if ((decide (x7.At<0)) || decide (x7.At >= 200))=true then (Option.map Sum.inr (some 3)) else (if (decide (((x7.Bytes).length:Int) > 64))=true then (Option.map Sum.inr (some 2)) else (some (.inl (IntKind.i64.wrap (s5+1))))))) else (Option.map Sum.inr (some 0)))
def iU (p0:Disk) (s2:Int):Option (Int ⊕ Int) :=
 (if (decide (s2<((p0.Sectors).length:Int)))=true then ((idx p0.Sectors s2).bind fun x4=>(if (decide (((x4).length:Int) > 64))=true then (Option.map Sum.inr (some 2)) else (some (.inl (IntKind.i64.wrap (s2+1)))))) else (Option.map Sum.inr (iter (fun fo:Int=>jS p0 fo) 0)))
def fD (p0:Disk):Option Int :=
 (if ((decide (((p0.Sectors).length:Int) > 200)) || decide (((p0.Wait).length:Int) > 300))=true then (some 2) else (iter (fun be:Int=>iU p0 be) 0))
def qd (p0:Shop):Option Int :=
 ((gC p0.N p0.Items p0.S).bind fun x2=>(if (x2 != 0)=true then (some x2) else ((fD p0.D).bind fun x4=>(if (x4 != 0)=true then (some x4) else (if ((decide (p0.Safe<0)) || ((decide (p0.Safe > p0.Logged)) || ((decide (p0.Logged > ((p0.S.Choices).length:Int))) || ((decide (p0.Epoch<0)) || ((decide (p0.Epoch > 200)) || ((decide (p0.Laid<(-1))) || ((decide (p0.Laid > ((p0.S.Choices).length:Int))) || ((decide (p0.Next<0)) || decide (p0.Next > 80)))))))))=true then (some 3) else (if (decide (((p0.Told).length:Int) > 2000))=true then (some 2) else (some 0)))))))
def rz (p0:List (List Item)):Option (List (List Item)):=app [] p0
def rG (p0:List Memory):Option (List Memory):=app [] p0
def py (p0:List Keyed):Option (List Keyed):=app [] p0
def lM (p0:Memory):Option Memory :=
 ((py p0.Keys).bind fun x2=>(some (⟨p0.Sum,x2,p0.Dep⟩:Memory)))
def rH (p0:List Choice):Option (List Choice):=app [] p0
def jZ (p0:State) (x2:List Int) (s6:List (List Item)) (x13:List Memory) (s14:Int) (s15:List Memory):Option ((Int × (List Memory)) ⊕ State) :=
 (if (decide (s14<((x13).length:Int)))=true then ((ixN s15 s14).bind fun x16=>(((s15)[x16]?).bind fun x17=>((lM x17).bind fun x18=>((ixN s15 s14).bind fun x19=>(((s15)[x19]?).bind fun x20=>(some (.inl (IntKind.i64.wrap (s14+1),(List.set s15 x19 x18))))))))) else (Option.map Sum.inr ((rH p0.Choices).bind fun x22=>((eQ p0.Out).bind fun x24=>(some (⟨x2,s6,s15,x22,x24⟩:State))))))
def j4 (p0:State) (x2:List Int) (x4:List (List Item)) (s5:Int) (s6:List (List Item)):Option ((Int × (List (List Item))) ⊕ State) :=
 (if (decide (s5<((x4).length:Int)))=true then ((ixN s6 s5).bind fun x7=>(((s6)[x7]?).bind fun x8=>((eQ x8).bind fun x9=>((ixN s6 s5).bind fun x10=>(((s6)[x10]?).bind fun x11=>(some (.inl (IntKind.i64.wrap (s5+1),(List.set s6 x10 x9))))))))) else (Option.map Sum.inr ((rG p0.Memory).bind fun x13=>(iter (fun kO:Int × (List Memory)=>jZ p0 x2 s6 x13 kO.1 kO.2) (0,x13)))))
def kj (p0:State):Option State :=
 ((jN p0.At).bind fun x2=>((rz p0.Rings).bind fun x4=>(iter (fun be:Int × (List (List Item))=>j4 p0 x2 x4 be.1 be.2) (0,x4))))
def lf (p0:List (List UInt8)):Option (List (List UInt8)):=app [] p0
def nh (p0:List Write):Option (List Write):=app [] p0
def gB (p0:Shop):Option Shop :=
 ((oa p0.N).bind fun x4=>((pL p0.Items).bind fun x5=>((kj p0.S).bind fun x6=>((lf p0.D.Sectors).bind fun x9=>((nh p0.D.Wait).bind fun x10=>((eQ p0.Told).bind fun x12=>(some (⟨x4,x5,x6,(⟨x9,x10⟩:Disk),p0.Logged,p0.Safe,p0.Epoch,p0.Laid,p0.Next,x12,p0.Down⟩:Shop))))))))
def n9 (p0:Net) (p1:List (List Item)) (p2:State) (p3:Move):Option (Item × Bool) :=
 ((idx p0.Nodes p3.Node).bind fun x2=>(if (x2.Kind==1)=true then ((idx p2.At x2.A).bind fun x5=>((idx p1 x2.A).bind fun x6=>(if (x5==((x6).length:Int))=true then (some ((⟨0,0,0⟩:Item),false)) else ((idx p1 x2.A).bind fun x10=>((idx p2.At x2.A).bind fun x11=>((idx x10 x11).bind fun x12=>(some (x12,true)))))))) else ((idx x2.In p3.Lane).bind fun x15=>((idx p2.Rings x15).bind fun x16=>(if (((x16).length:Int)==0)=true then (some ((⟨0,0,0⟩:Item),false)) else ((idx x16 0).bind fun x18=>(some (x18,true))))))))
def pX (p0:Item) (p1:Int):Option (Int × Int) :=
 (if ((decide (p1<1)) || decide (p1 > 16))=true then (some (0,3)) else ((rem p0.Key p1).bind fun x4=>((rem (IntKind.i64.wrap (x4+p1)) p1).bind fun x5=>(some (x5,0)))))
def n7 (p0:Node) (p1:Item):Option (List Int) :=
 (if (p0.Kind != 7)=true then (some p0.Out) else ((pX p1 ((p0.Out).length:Int)).bind fun x2=>((sub p0.Out x2.1 (IntKind.i64.wrap (x2.1+1))).bind fun x4=>(some x4))))
def rT (p0:Int) (p1:List Int) (p2:List (List Item)) (p3:List Memory) (p4:List Choice) (p5:List Item) (p6:List Node) (p7 p8:Int):Option Bool :=
 ((idx p2 p0).bind fun x2=>(some (decide (((x2).length:Int) >= p8))))
def o9 (p0 p1:List Int) (p2:List (List Item)) (p3:List Memory) (p4:List Choice) (p5:List Item) (p6:List Node) (p7 p8 s1:Int):Option (Int ⊕ Int) :=
 (if (decide (s1<((p0).length:Int)))=true then ((idx p0 s1).bind fun x4=>((rT x4 p1 p2 p3 p4 p5 p6 p7 p8).bind fun x5=>(if x5=true then (Option.map Sum.inr (some s1)) else (some (.inl (IntKind.i64.wrap (s1+1))))))) else (Option.map Sum.inr (some (-1))))
def rC (p0 p1:List Int) (p2:List (List Item)) (p3:List Memory) (p4:List Choice) (p5:List Item) (p6:List Node) (p7 p8:Int):Option Int :=
 (iter (fun al:Int=>o9 p0 p1 p2 p3 p4 p5 p6 p7 p8 al) 0)
def o8 (p0 p1:List Int) (p2:List (List Item)) (p3:List Memory) (p4:List Choice) (p5:List Item) (p6:List Node) (p7 p8:Int):Option Bool :=
 ((rC p0 p1 p2 p3 p4 p5 p6 p7 p8).bind fun x2=>(some (decide (x2 >= 0))))
def uc (p0:Item):Option Int :=
 (some (IntKind.i64.wrap (p0.Val+1)))
def ub (p0:Item):Option Int :=
 (some (IntKind.i64.wrap (2*p0.Val)))
def ug (p0:Item):Option Int :=
 (some (IntKind.i64.wrap (0 - p0.Val)))
def ue (p0:Item):Option Int :=
 (some (IntKind.i64.wrap (p0.Val+p0.Key)))
def ul (p0:Int) (p1:Item):Option Item :=
 (Option.bind (if (p0==0)=true then ((uc p1).bind fun x1=>(some x1)) else (if (p0==1)=true then ((ub p1).bind fun x2=>(some x2)) else (if (p0==2)=true then ((ug p1).bind fun x3=>(some x3)) else ((isAt p0 3).bind fun x4=>((ue p1).bind fun x5=>(some x5)))))) fun c6=>(some (⟨p1.Key,c6,p1.Dep⟩:Item)))
def nE (p0:Keyed) (p1:Int):Option Int :=
 (if (decide (p0.Key<p1))=true then (some (-1)) else (if (decide (p0.Key > p1))=true then (some 1) else (some 0)))
def o4 (p0:List Keyed) (p1 s1 s2:Int):Option ((Int × Int) ⊕ (Int × Bool)) :=
 (if (decide (s1<s2))=true then ((shr .u64 (IntKind.u64.wrap (IntKind.i64.wrap (s1+s2))) 1).bind fun x4=>((idx p0 (IntKind.i64.wrap x4)).bind fun x7=>((nE x7 p1).bind fun x8=>(if (decide (x8<0))=true then (some (.inl (IntKind.i64.wrap ((IntKind.i64.wrap x4)+1),s2))) else (some (.inl (s1,IntKind.i64.wrap x4))))))) else (Option.map Sum.inr (Option.bind (if (decide (s1<((p0).length:Int)))=true then ((idx p0 s1).bind fun x9=>((nE x9 p1).bind fun x10=>(some (x10==0)))) else (some false)) fun c11=>(some (s1,c11)))))
def o5 (p0:List Keyed) (p1:Int):Option (Int × Bool) :=
 (iter (fun al:Int × Int=>o4 p0 p1 al.1 al.2) (0,((p0).length:Int)))
def t4 (p0:Int) (p1 p2:List Keyed) (C:Nat):Option (List Keyed) :=
 ((vwok ((p1).length) p0 (((p1).length:Nat):Int)).bind fun x2=>(if (((p2).length:Int)==0)=true then (none) else (if (p0==(((p1).length:Nat):Int))=true then ((app p1 p2).bind fun x4=>(some x4)) else (if (decide ((IntKind.i64.wrap ((((p1).length:Nat):Int)+((p2).length:Int))) > ((C:Nat):Int)))=true then ((vwok ((p1).length) 0 p0).bind fun x7=>((growz p1 ((p0).toNat) C (IntKind.i64.wrap ((IntKind.i64.wrap ((((p1).length:Nat):Int)+((p2).length:Int))) - p0)) (⟨0,0⟩:Keyed)).bind fun x8=>((vwok (x8).length p0 ((x8).length:Int)).bind fun x11=>((vwok (x8).length ((p0).toNat:Nat) (((p0).toNat:Nat)+(((((x8).length:Int)).toNat - (p0).toNat):Nat))).bind fun x12=>((vwok ((cpy x8 ((p0).toNat) ((((x8).length:Int)).toNat - (p0).toNat) p2)).length (IntKind.i64.wrap (p0+((p2).length:Int))) (((cpy x8 ((p0).toNat) ((((x8).length:Int)).toNat - (p0).toNat) p2)).length:Int)).bind fun x17=>((vwok ((p1).length) p0 (((p1).length:Nat):Int)).bind fun x18=>((vwok ((cpy x8 ((p0).toNat) ((((x8).length:Int)).toNat - (p0).toNat) p2)).length ((IntKind.i64.wrap (p0+((p2).length:Int))).toNat:Nat) (((IntKind.i64.wrap (p0+((p2).length:Int))).toNat:Nat)+((((((cpy x8 ((p0).toNat) ((((x8).length:Int)).toNat - (p0).toNat) p2)).length:Int)).toNat - (IntKind.i64.wrap (p0+((p2).length:Int))).toNat):Nat))).bind fun x19=>((vwok (p1).length ((0+(p0).toNat):Nat) (((0+(p0).toNat):Nat)+((((((p1).length:Nat):Int)).toNat - (p0).toNat):Nat))).bind fun x20=>(some (cpy (cpy x8 ((p0).toNat) ((((x8).length:Int)).toNat - (p0).toNat) p2) ((IntKind.i64.wrap (p0+((p2).length:Int))).toNat) (((((cpy x8 ((p0).toNat) ((((x8).length:Int)).toNat - (p0).toNat) p2)).length:Int)).toNat - (IntKind.i64.wrap (p0+((p2).length:Int))).toNat) ((p1.drop (0+(p0).toNat)).take (((((p1).length:Nat):Int)).toNat - (p0).toNat)))))))))))) else ((roomx (p1).length C (IntKind.i64.wrap ((((p1).length:Nat):Int)+((p2).length:Int)))).bind fun x22=>((vwok ((p1).length+x22) (IntKind.i64.wrap (p0+((p2).length:Int))) ((((p1).length+x22):Nat):Int)).bind fun x25=>((ovok p2 ((((((p1).length+x22):Nat):Int)).toNat - (IntKind.i64.wrap (p0+((p2).length:Int))).toNat)).bind fun x26=>((vwok ((p1).length+x22) (IntKind.i64.wrap (p0+((p2).length:Int))) ((((p1).length+x22):Nat):Int)).bind fun x30=>((vwok ((p1).length+x22) p0 ((((p1).length+x22):Nat):Int)).bind fun x31=>((cpyU p1 x22 ((IntKind.i64.wrap (p0+((p2).length:Int))).toNat) ((((((p1).length+x22):Nat):Int)).toNat - (IntKind.i64.wrap (p0+((p2).length:Int))).toNat) ((p0).toNat) ((((((p1).length+x22):Nat):Int)).toNat - (p0).toNat)).bind fun x32=>((vwok (x32).length p0 ((x32).length:Int)).bind fun x35=>((vwok (x32).length ((p0).toNat:Nat) (((p0).toNat:Nat)+(((((x32).length:Int)).toNat - (p0).toNat):Nat))).bind fun x36=>(some (cpy x32 ((p0).toNat) ((((x32).length:Int)).toNat - (p0).toNat) p2))))))))))))))
def pe (p0:Int) (p1 p2:List Keyed):Option (List Keyed):=allC (p1).length (fun C=>t4 p0 p1 p2 C)
def lw (p3:Item) (x4:Memory) (x9:Int × Bool) (z12:List Keyed):Option (Memory × Item × Int) :=
 ((ixN z12 x9.1).bind fun x17=>(((z12)[x17]?).bind fun x18=>((ixN z12 x9.1).bind fun x19=>(((z12)[x19]?).bind fun x20=>((ixN (List.set z12 x19 (⟨x20.Key,IntKind.i64.wrap (x18.N+1)⟩:Keyed)) x9.1).bind fun x23=>((((List.set z12 x19 (⟨x20.Key,IntKind.i64.wrap (x18.N+1)⟩:Keyed)))[x23]?).bind fun x24=>(some ((⟨x4.Sum,(List.set z12 x19 (⟨x20.Key,IntKind.i64.wrap (x18.N+1)⟩:Keyed)),(if p3.Dep > x4.Dep then p3.Dep else x4.Dep)⟩:Memory),(⟨p3.Key,x24.N,(if p3.Dep > x4.Dep then p3.Dep else x4.Dep)⟩:Item),0))))))))
def iY (p0 p1:Int) (p2:Memory) (p3:Item):Option (Memory × Item × Int) :=
 ((kb p2).bind fun x2=>(if (x2 != 0)=true then (some ((⟨0,[],0⟩:Memory),(⟨0,0,0⟩:Item),x2)) else (if (decide (p3.Dep<0))=true then (some ((⟨0,[],0⟩:Memory),(⟨0,0,0⟩:Item),3)) else ((lM p2).bind fun x4=>(if (p0==2)=true then (if ((decide (p1<0)) || decide (p1 > 3))=true then (some ((⟨0,[],0⟩:Memory),(⟨0,0,0⟩:Item),3)) else ((ul p1 p3).bind fun x7=>(some (x4,x7,0)))) else (if (p0==3)=true then (some ((⟨IntKind.i64.wrap (x4.Sum+p3.Val),x4.Keys,(if p3.Dep > x4.Dep then p3.Dep else x4.Dep)⟩:Memory),(⟨p3.Key,IntKind.i64.wrap (x4.Sum+p3.Val),(if p3.Dep > x4.Dep then p3.Dep else x4.Dep)⟩:Item),0)) else (if (p0==4)=true then ((o5 x4.Keys p3.Key).bind fun x9=>(if ((!x9.2) && ((x4.Keys).length:Int)==6)=true then (some ((⟨x4.Sum,x4.Keys,(if p3.Dep > x4.Dep then p3.Dep else x4.Dep)⟩:Memory),(⟨p3.Key,0,(if p3.Dep > x4.Dep then p3.Dep else x4.Dep)⟩:Item),0)) else (if (!x9.2)=true then ((pe x9.1 x4.Keys ([(⟨p3.Key,0⟩:Keyed)]:List Keyed)).bind fun x11=>(lw p3 x4 x9 x11)) else (lw p3 x4 x9 x4.Keys)))) else (if (p0==1)=true then (if (p0==1)=true then (some (x4,p3,0)) else (some ((⟨0,[],0⟩:Memory),(⟨0,0,0⟩:Item),5))) else (if (p0==5)=true then (if (p0==5)=true then (some (x4,p3,0)) else (some ((⟨0,[],0⟩:Memory),(⟨0,0,0⟩:Item),5))) else (if (p0==6)=true then (if (p0==6)=true then (some (x4,p3,0)) else (some ((⟨0,[],0⟩:Memory),(⟨0,0,0⟩:Item),5))) else (if (p0==7)=true then (if (p0==7)=true then (some (x4,p3,0)) else (some ((⟨0,[],0⟩:Memory),(⟨0,0,0⟩:Item),5))) else (if (p0==8)=true then (some (x4,p3,0)) else (some ((⟨0,[],0⟩:Memory),(⟨0,0,0⟩:Item),5))))))))))))))
def lY (p0:Net) (p1:List (List Item)) (p2:State) (p3:Move):Option Bool :=
 ((idx p0.Nodes p3.Node).bind fun x2=>((n9 p0 p1 p2 p3).bind fun x4=>(Option.bind (if (!x4.2)=true then (some true) else ((n7 x2 x4.1).bind fun x5=>((o8 x5 p2.At p2.Rings p2.Memory p2.Choices p2.Out p0.Nodes p0.Rings p0.Room).bind fun x6=>(some x6)))) fun c7=>(if c7=true then (some false) else (if (if (x2.Kind==6)=true then ((((p2.Choices).length:Int)==500) || ((x2.Kind==8) && ((p2.Out).length:Int)==2000)) else ((x2.Kind==8) && ((p2.Out).length:Int)==2000))=true then (some false) else ((idx p2.Memory p3.Node).bind fun x11=>((iY x2.Kind x2.A x11 x4.1).bind fun x12=>(some (x12.2.2==0)))))))))
def gw (p0:Net) (p1:List (List Item)) (s1:Int) (p2:State) (z5 s6:Int) (s7:List Move):Option ((Int × (List Move)) ⊕ ((Int × (List Move)) ⊕ (List Move))) :=
 (if (decide (s6<z5))=true then ((lY p0 p1 p2 (⟨s1,s6⟩:Move)).bind fun x9=>(if x9=true then ((app s7 [(⟨s1,s6⟩:Move)]).bind fun x10=>(some (.inl (IntKind.i64.wrap (s6+1),x10)))) else (some (.inl (IntKind.i64.wrap (s6+1),s7))))) else (Option.map Sum.inr (some (.inl (IntKind.i64.wrap (s1+1),s7)))))
def nt (p0:Net) (p1:List (List Item)) (s1:Int) (p2:State) (s2:List Move) (z5:Int):Option ((Int × (List Move)) ⊕ (List Move)) :=
 (iter (fun dG:Int × (List Move)=>gw p0 p1 s1 p2 z5 dG.1 dG.2) (0,s2))
def jT (p0:Net) (p1:List (List Item)) (p2:State) (s1:Int) (s2:List Move):Option ((Int × (List Move)) ⊕ (List Move)) :=
 (if (decide (s1<((p0.Nodes).length:Int)))=true then ((idx p0.Nodes s1).bind fun x4=>(if (x4.Kind==6)=true then (nt p0 p1 s1 p2 s2 ((x4.In).length:Int)) else (nt p0 p1 s1 p2 s2 1))) else (Option.map Sum.inr (some s2)))
def pZ (p0:Net) (p1:List (List Item)) (p2:State):Option (List Move) :=
 (iter (fun fk:Int × (List Move)=>jT p0 p1 p2 fk.1 fk.2) (0,[]))
def iW (p0:Net) (p1:List (List Item)) (p2:State):Option ((List Move) × Int) :=
 ((gC p0 p1 p2).bind fun x2=>(if (x2 != 0)=true then (some ([],x2)) else ((pZ p0 p1 p2).bind fun x4=>(some (x4,0)))))
def qm (p0:List Item):Option (Item × (List Item) × Int) :=
 (if (decide (((p0).length:Int) > 6))=true then (some ((⟨0,0,0⟩:Item),[],2)) else (if (((p0).length:Int)==0)=true then (some ((⟨0,0,0⟩:Item),[],9)) else ((idx p0 0).bind fun x4=>((sub p0 1 ((p0).length:Int)).bind fun x5=>((eQ x5).bind fun x6=>(some (x4,x6,0)))))))
def qy (p0:List Item) (p1:Int) (p2:Item):Option ((List Item) × Int) :=
 (if ((decide (p1<1)) || decide (p1 > 6))=true then (some ([],3)) else (if (decide (((p0).length:Int) > p1))=true then (some ([],2)) else (if (((p0).length:Int)==p1)=true then (some ([],8)) else ((eQ p0).bind fun x4=>((app x4 [p2]).bind fun x5=>(some (x5,0)))))))
def jP (p0:Net) (p5:List Memory) (z16 x19:List Int) (z23:List Choice) (x31:Memory × Item × Int) (x32:Nat) (z35:List Item) (s36:Int) (s37:List (List Item)):Option ((Int × (List (List Item))) ⊕ ((List Int) × (List (List Item)) × (List Memory) × (List Choice) × (List Item))) :=
 (if (decide (s36<((x19).length:Int)))=true then ((idx x19 s36).bind fun x39=>((ixN s37 x39).bind fun x40=>(((s37)[x40]?).bind fun x41=>((qy x41 p0.Room x31.2.1).bind fun x42=>((ixN s37 x39).bind fun x43=>(((s37)[x43]?).bind fun x44=>(some (.inl (IntKind.i64.wrap (s36+1),(List.set s37 x43 x42.1)))))))))) else (Option.map Sum.inr (some (z16,s37,(List.set p5 x32 x31.1),z23,z35))))
def nk (p0:Net) (p5:List Memory) (z16:List Int) (z17:List (List Item)) (x19:List Int) (z23:List Choice) (x31:Memory × Item × Int) (x32:Nat) (z35:List Item):Option ((List Int) × (List (List Item)) × (List Memory) × (List Choice) × (List Item)) :=
 (iter (fun kP:Int × (List (List Item))=>jP p0 p5 z16 x19 z23 x31 x32 z35 kP.1 kP.2) (0,z17))
def ll (p0:Net) (p2:Move) (x2:Node) (x4:Item × Bool) (p5:List Memory) (p7:List Item) (z16:List Int) (z17:List (List Item)) (x19:List Int) (z22:Int) (z23:List Choice):Option ((List Int) × (List (List Item)) × (List Memory) × (List Choice) × (List Item)) :=
 ((ixN p5 p2.Node).bind fun x29=>(((p5)[x29]?).bind fun x30=>((iY x2.Kind x2.A x30 (⟨x4.1.Key,x4.1.Val,z22⟩:Item)).bind fun x31=>((ixN p5 p2.Node).bind fun x32=>(((p5)[x32]?).bind fun x33=>(if (x2.Kind==8)=true then ((app p7 [x31.2.1]).bind fun x34=>(nk p0 p5 z16 z17 x19 z23 x31 x32 x34)) else (nk p0 p5 z16 z17 x19 z23 x31 x32 p7)))))))
def lp (p0:Net) (p2:Move) (x2:Node) (x4:Item × Bool) (p5:List Memory) (p6:List Choice) (p7:List Item) (z16:List Int) (z17:List (List Item)):Option ((List Int) × (List (List Item)) × (List Memory) × (List Choice) × (List Item)) :=
 ((n7 x2 x4.1).bind fun x19=>(if (x2.Kind==6)=true then ((app p6 [(⟨p2.Node,p2.Lane⟩:Choice)]).bind fun x21=>(ll p0 p2 x2 x4 p5 p7 z16 z17 x19 ((x21).length:Int) x21)) else (ll p0 p2 x2 x4 p5 p7 z16 z17 x19 x4.1.Dep p6)))
def nz (p0:Net) (p1:List (List Item)) (p2:Move) (p3:List Int) (p4:List (List Item)) (p5:List Memory) (p6:List Choice) (p7:List Item):Option ((List Int) × (List (List Item)) × (List Memory) × (List Choice) × (List Item)) :=
 ((idx p0.Nodes p2.Node).bind fun x2=>((n9 p0 p1 (⟨p3,p4,p5,p6,p7⟩:State) p2).bind fun x4=>(if (x2.Kind==1)=true then ((ixN p3 x2.A).bind fun x5=>(((p3)[x5]?).bind fun x6=>((ixN p3 x2.A).bind fun x7=>(((p3)[x7]?).bind fun x8=>(lp p0 p2 x2 x4 p5 p6 p7 (List.set p3 x7 (IntKind.i64.wrap (x6+1))) p4))))) else ((idx x2.In p2.Lane).bind fun x9=>((idx x2.In p2.Lane).bind fun x10=>((ixN p4 x10).bind fun x11=>(((p4)[x11]?).bind fun x12=>((qm x12).bind fun x13=>((ixN p4 x9).bind fun x14=>(((p4)[x14]?).bind fun x15=>(lp p0 p2 x2 x4 p5 p6 p7 p3 (List.set p4 x14 x13.2.1))))))))))))
def jm (p0:Net) (p1:List (List Item)) (p2:State) (p3:Move):Option (State × Int) :=
 ((gC p0 p1 p2).bind fun x2=>(if (x2 != 0)=true then (some ((⟨[],[],[],[],[]⟩:State),x2)) else (Option.bind (if (decide (p3.Node<0))=true then (some true) else (if (decide (p3.Node >= ((p0.Nodes).length:Int)))=true then (some true) else (if (decide (p3.Lane<0))=true then (some true) else (if (decide (p3.Lane > 0))=true then ((idx p0.Nodes p3.Node).bind fun x3=>(if (x3.Kind != 6)=true then (some true) else ((idx p0.Nodes p3.Node).bind fun x4=>(some (decide (p3.Lane >= ((x4.In).length:Int))))))) else (some false))))) fun c5=>(if c5=true then (some ((⟨[],[],[],[],[]⟩:State),5)) else ((lY p0 p1 p2 p3).bind fun x7=>(if (!x7)=true then (some ((⟨[],[],[],[],[]⟩:State),10)) else ((kj p2).bind fun x9=>((nz p0 p1 p3 x9.At x9.Rings x9.Memory x9.Choices x9.Out).bind fun x11=>(some ((⟨x11.1,x11.2.1,x11.2.2.1,x11.2.2.2.1,x11.2.2.2.2⟩:State),0))))))))))
def pI (p0:Int) (p1:List Node) (p2 p3:Int) (p4:List (List Item)) (p5:List Int) (p6:List (List Item)) (p7:List Memory) (p8:List Choice) (p9:List Item) (p10:List (List UInt8)) (p11:List Write) (p12 p13 p14 p15 p16:Int) (p17:Bool) (p18:List Item):Option (Int × (List Int) × (List (List Item)) × (List Memory) × (List Choice) × (List Item)) :=
 ((iW (⟨p1,p2,p3⟩:Net) p4 (⟨p5,p6,p7,p8,p9⟩:State)).bind fun x2=>(if (((x2.1).length:Int)==0)=true then (some (10,p5,p6,p7,p8,p9)) else ((rem p0 ((x2.1).length:Int)).bind fun x8=>((rem (IntKind.i64.wrap (x8+((x2.1).length:Int))) ((x2.1).length:Int)).bind fun x9=>((ixN x2.1 x9).bind fun x10=>(((x2.1)[x10]?).bind fun x11=>((jm (⟨p1,p2,p3⟩:Net) p4 (⟨p5,p6,p7,p8,p9⟩:State) x11).bind fun x12=>(some (0,x12.1.At,x12.1.Rings,x12.1.Memory,x12.1.Choices,x12.1.Out)))))))))
def jO (p0:List Choice) (s1:Int) (s2:List Int):Option ((Int × (List Int)) ⊕ ((List UInt8) × Int)) :=
 (if (decide (s1<((p0).length:Int)))=true then ((idx p0 s1).bind fun x4=>(if ((decide (x4.Node<0)) || ((decide (x4.Node >= 12)) || ((decide (x4.Lane<0)) || decide (x4.Lane >= 16))))=true then (Option.map Sum.inr (some ([],3))) else ((app s2 [IntKind.u8.wrap x4.Node,IntKind.u8.wrap x4.Lane]).bind fun x6=>(some (.inl (IntKind.i64.wrap (s1+1),x6)))))) else (Option.map Sum.inr (some (bW s2,0))))
def pP (p0:List Choice):Option ((List UInt8) × Int) :=
 (if (decide (((p0).length:Int) > 30))=true then (some ([],2)) else (iter (fun bY:Int × (List Int)=>jO p0 bY.1 bY.2) (0,[])))
def jV (s2 s7 s8:Int):Option ((Int × Int) ⊕ ((Int × Int) ⊕ Int)) :=
 (if (decide (s8<8))=true then ((shl .i64 s7 1).bind fun x10=>(if ((ibits .and .i64 x10 65536) != 0)=true then (some (.inl (ibits .xor .i64 x10 69665,IntKind.i64.wrap (s8+1)))) else (some (.inl (x10,IntKind.i64.wrap (s8+1)))))) else (Option.map Sum.inr (some (.inl (s7,IntKind.i64.wrap (s2+1))))))
def jX (p0:List UInt8) (s1 s2:Int):Option ((Int × Int) ⊕ Int) :=
 (if (decide (s2<((p0).length:Int)))=true then ((idx p0 s2).bind fun x5=>((shl .i64 (IntKind.i64.wrap (x5.toNat:Int)) 8).bind fun x6=>(iter (fun dP:Int × Int=>jV s2 dP.1 dP.2) (ibits .xor .i64 s1 x6,0)))) else (Option.map Sum.inr (some s1)))
def nS (p0:List UInt8):Option Int :=
 (iter (fun fo:Int × Int=>jX p0 fo.1 fo.2) (65535,0))
def n8 (p0:List UInt8):Option ((List UInt8) × Int) :=
 (if (p0==[])=true then (some ([],4)) else (if (decide (((p0).length:Int) > 60))=true then (some ([],2)) else ((cat (bW [IntKind.u8.wrap ((p0).length:Int)]) p0).bind fun x3=>((nS x3).bind fun x4=>((cat (bW [IntKind.u8.wrap ((p0).length:Int)]) p0).bind fun x8=>((shr .i64 x4 8).bind fun x9=>((cat x8 (bW [IntKind.u8.wrap x9,IntKind.u8.wrap x4])).bind fun x10=>(some (x10,0)))))))))
def hZ (p0:Disk) (p1:Int) (p2:List UInt8):Option (Disk × Int) :=
 ((fD p0).bind fun x2=>(if (x2 != 0)=true then (some ((⟨[],[]⟩:Disk),x2)) else (if ((decide (p1<0)) || decide (p1 >= 200))=true then (some ((⟨[],[]⟩:Disk),3)) else (if (decide (((p2).length:Int) > 64))=true then (some ((⟨[],[]⟩:Disk),2)) else (if (((p0.Wait).length:Int)==300)=true then (some ((⟨[],[]⟩:Disk),8)) else ((lf p0.Sectors).bind fun x7=>((nh p0.Wait).bind fun x8=>((app x8 [(⟨p1,p2⟩:Write)]).bind fun x9=>(some ((⟨x7,x9⟩:Disk),0))))))))))
def eS (p1 s4:Int) (s5:List Choice) (s6:List (List UInt8)) (s7:List Write):Option ((Int × (List Choice) × (List (List UInt8)) × (List Write)) ⊕ (Disk × Int × Int)) :=
 (if (decide (((s5).length:Int) > 0))=true then ((sub s5 0 (if ((s5).length:Int)<29 then ((s5).length:Int) else 29)).bind fun x10=>((pP x10).bind fun x11=>(if (x11.2 != 0)=true then (Option.map Sum.inr (some ((⟨[],[]⟩:Disk),0,x11.2))) else ((cat (bW [IntKind.u8.wrap p1]) x11.1).bind fun x14=>((n8 x14).bind fun x15=>(if ((IntKind.i64.wrap (120+s4))==200)=true then (Option.map Sum.inr (some ((⟨[],[]⟩:Disk),0,8))) else ((hZ (⟨s6,s7⟩:Disk) (IntKind.i64.wrap (120+s4)) x15.1).bind fun x17=>(if (x17.2 != 0)=true then (Option.map Sum.inr (some ((⟨[],[]⟩:Disk),0,x17.2))) else ((sub s5 (if ((s5).length:Int)<29 then ((s5).length:Int) else 29) ((s5).length:Int)).bind fun x18=>(some (.inl (IntKind.i64.wrap (s4+1),x18,x17.1.Sectors,x17.1.Wait)))))))))))) else (Option.map Sum.inr (some ((⟨s6,s7⟩:Disk),s4,0))))
def nQ (p0:Disk) (p1 p2:Int) (p3:List Choice):Option (Disk × Int × Int) :=
 ((fD p0).bind fun x2=>(if (x2 != 0)=true then (some ((⟨[],[]⟩:Disk),0,x2)) else (if ((decide (p1<0)) || ((decide (p1 > 200)) || ((decide (p2<0)) || decide (p2 > 80))))=true then (some ((⟨[],[]⟩:Disk),0,3)) else (iter (fun gm:Int × (List Choice) × (List (List UInt8)) × (List Write)=>eS p1 gm.1 gm.2.1 gm.2.2.1 gm.2.2.2) (p2,p3,p0.Sectors,p0.Wait)))))
def pD (p0:Int) (p1:List Node) (p2 p3:Int) (p4:List (List Item)) (p5:List Int) (p6:List (List Item)) (p7:List Memory) (p8:List Choice) (p9:List Item) (p10:List (List UInt8)) (p11:List Write) (p12 p13 p14 p15 p16:Int) (p17:Bool) (p18:List Item):Option (Int × (List (List UInt8)) × (List Write) × Int × Int) :=
 (if (decide (p15 >= 0))=true then (some (10,p10,p11,p12,p16)) else ((sub p8 p12 ((p8).length:Int)).bind fun x3=>((nQ (⟨p10,p11⟩:Disk) p14 p16 x3).bind fun x4=>(if (x4.2.2 != 0)=true then (some (x4.2.2,p10,p11,p12,p16)) else (some (0,x4.1.Sectors,x4.1.Wait,((p8).length:Int),x4.2.1))))))
def rK (s1:Int) (x4:Write) (s5:List (List UInt8)):Option ((List (List UInt8)) ⊕ ((Int × (List (List UInt8))) ⊕ (List (List UInt8)))) :=
 (if (decide (((s5).length:Int)<=x4.At))=true then ((app s5 [[]]).bind fun x6=>(some (.inl x6))) else (Option.map Sum.inr ((ixN s5 x4.At).bind fun x7=>(((s5)[x7]?).bind fun x8=>(some (.inl (IntKind.i64.wrap (s1+1),(List.set s5 x7 x4.Bytes))))))))
def jL (p0:List Write) (s1:Int) (s2:List (List UInt8)):Option ((Int × (List (List UInt8))) ⊕ (List (List UInt8))) :=
 (if (decide (s1<((p0).length:Int)))=true then ((idx p0 s1).bind fun x4=>(iter (fun kQ:List (List UInt8)=>rK s1 x4 kQ) s2)) else (Option.map Sum.inr (some s2)))
def pK (p0:List Write) (p1:List (List UInt8)):Option (List (List UInt8)) :=
 (iter (fun eu:Int × (List (List UInt8))=>jL p0 eu.1 eu.2) (0,p1))
def jh (p0:Disk) (p1:Int):Option (Disk × Int) :=
 ((fD p0).bind fun x2=>(if (x2 != 0)=true then (some ((⟨[],[]⟩:Disk),x2)) else (if ((decide (p1<0)) || decide (p1 > ((p0.Wait).length:Int)))=true then (some ((⟨[],[]⟩:Disk),3)) else ((lf p0.Sectors).bind fun x7=>((sub p0.Wait 0 p1).bind fun x8=>((pK x8 x7).bind fun x9=>(some ((⟨x9,[]⟩:Disk),0))))))))
def nK (p0:Disk):Option (Disk × Int) :=
 ((jh p0 ((p0.Wait).length:Int)).bind fun x2=>(some (x2.1,x2.2)))
def pF (p0:Int) (p1:List Node) (p2 p3:Int) (p4:List (List Item)) (p5:List Int) (p6:List (List Item)) (p7:List Memory) (p8:List Choice) (p9:List Item) (p10:List (List UInt8)) (p11:List Write) (p12 p13 p14 p15 p16:Int) (p17:Bool) (p18:List Item):Option (Int × (List (List UInt8)) × (List Write) × Int × Int × Int × Int × Int) :=
 ((nK (⟨p10,p11⟩:Disk)).bind fun x2=>(if (decide (p15 >= 0))=true then (some (0,x2.1.Sectors,x2.1.Wait,p15,p15,IntKind.i64.wrap (p14+1),(-1),0)) else (some (0,x2.1.Sectors,x2.1.Wait,p12,p12,p14,p15,p16))))
def rJ (p0:Item) (p1:Int):Option Bool :=
 (some (decide (p0.Dep > p1)))
def m7 (p0:List Item) (p1 s1:Int):Option (Int ⊕ Int) :=
 (if (decide (s1<((p0).length:Int)))=true then ((idx p0 s1).bind fun x4=>((rJ x4 p1).bind fun x5=>(if x5=true then (Option.map Sum.inr (some s1)) else (some (.inl (IntKind.i64.wrap (s1+1))))))) else (Option.map Sum.inr (some (-1))))
def pc (p0:List Item) (p1:Int):Option Int :=
 (iter (fun al:Int=>m7 p0 p1 al) 0)
def ql (p0:List Item) (p1:Int):Option (Int × Int) :=
 (if (decide (((p0).length:Int) > 2000))=true then (some (0,2)) else (if ((decide (p1<0)) || decide (p1 > 500))=true then (some (0,3)) else ((pc p0 p1).bind fun x3=>(if (decide (x3<0))=true then (some (((p0).length:Int),0)) else (some (x3,0))))))
def rX (p0 p1:Item):Option Bool :=
 (some ((p0.Key==p1.Key) && p0.Val==p1.Val))
def oY (p0 p1:List Item) (s1:Int):Option (Int ⊕ Bool) :=
 (if (decide (s1<((p0).length:Int)))=true then ((idx p0 s1).bind fun x3=>((idx p1 s1).bind fun x5=>((rX x3 x5).bind fun x7=>(if (!x7)=true then (Option.map Sum.inr (some false)) else (some (.inl (IntKind.i64.wrap (s1+1)))))))) else (Option.map Sum.inr (some true)))
def oZ (p0 p1:List Item):Option Bool :=
 (if (((p0).length:Int) != ((p1).length:Int))=true then (some false) else (iter (fun aQ:Int=>oY p0 p1 aQ) 0))
def lB (p0 p1:List Item):Option Bool :=
 (Option.bind (if (decide (((p0).length:Int)<=((p1).length:Int)))=true then ((sub p1 0 ((p0).length:Int)).bind fun x1=>((oZ p0 x1).bind fun x2=>(some x2))) else (some false)) fun c3=>(some c3))
def lx (x2:List Item) (s3:Int) (s4:List Item):Option ((Int × (List Item)) ⊕ ((List Item) × Int)) :=
 (if (decide (s3<((x2).length:Int)))=true then ((ixN s4 s3).bind fun x5=>(((s4)[x5]?).bind fun x6=>(some (.inl (IntKind.i64.wrap (s3+1),(List.set s4 x5 (⟨x6.Key,x6.Val,0⟩:Item))))))) else (Option.map Sum.inr (some (s4,0))))
def pY (p0:List Item):Option ((List Item) × Int) :=
 (if (decide (((p0).length:Int) > 2000))=true then (some ([],2)) else ((eQ p0).bind fun x2=>(iter (fun dS:Int × (List Item)=>lx x2 dS.1 dS.2) (0,x2))))
def pV (p0 p1:List Item) (p2:Int):Option ((List Item) × Int) :=
 (if (decide (((p0).length:Int) > 2000))=true then (some ([],2)) else ((ql p1 p2).bind fun x2=>(if (x2.2 != 0)=true then (some ([],x2.2)) else ((lB p0 p1).bind fun x3=>(Option.bind (if (!x3)=true then ((lB p1 p0).bind fun x4=>(some (!x4))) else (some false)) fun c5=>(if c5=true then (some ([],4)) else (if (decide (x2.1<=((p0).length:Int)))=true then (some ([],0)) else ((sub p1 ((p0).length:Int) x2.1).bind fun x8=>((pY x8).bind fun x9=>(some (x9.1,x9.2)))))))))))
def pG (p0:Int) (p1:List Node) (p2 p3:Int) (p4:List (List Item)) (p5:List Int) (p6:List (List Item)) (p7:List Memory) (p8:List Choice) (p9:List Item) (p10:List (List UInt8)) (p11:List Write) (p12 p13 p14 p15 p16:Int) (p17:Bool) (p18:List Item):Option (Int × (List Item)) :=
 ((pV p18 p9 p13).bind fun x2=>(if (x2.2 != 0)=true then (some (x2.2,p18)) else ((app p18 x2.1).bind fun x4=>(some (0,x4)))))
def pM (p0:Int) (p1:List Node) (p2 p3:Int) (p4:List (List Item)) (p5:List Int) (p6:List (List Item)) (p7:List Memory) (p8:List Choice) (p9:List Item) (p10:List (List UInt8)) (p11:List Write) (p12 p13 p14 p15 p16:Int) (p17:Bool) (p18:List Item):Option (Int × (List Int) × (List (List Item)) × (List Memory) × (List Choice) × (List Item) × (List (List UInt8)) × (List Write) × Int × Int × Int × Int × Int × Bool) :=
 ((jh (⟨p10,p11⟩:Disk) p0).bind fun x2=>(if (x2.2 != 0)=true then (some (x2.2,p5,p6,p7,p8,p9,p10,p11,p12,p13,p14,p15,p16,p17)) else ((iV (⟨p1,p2,p3⟩:Net) p4).bind fun x4=>(some (0,x4.1.At,x4.1.Rings,x4.1.Memory,x4.1.Choices,x4.1.Out,x2.1.Sectors,x2.1.Wait,0,0,0,(-1),0,true)))))
def fO (p0:List UInt8) (s1:Int) (s2:List (List UInt8)):Option ((Int × (List (List UInt8))) ⊕ ((List (List UInt8)) × Int × Int)) :=
 (if (decide (s1<((p0).length:Int)))=true then ((sub p0 s1 ((p0).length:Int)).bind fun x4=>((idx x4 0).bind fun x6=>(if ((decide ((IntKind.i64.wrap (x6.toNat:Int))<1)) || ((decide ((IntKind.i64.wrap (x6.toNat:Int)) > 60)) || decide (((x4).length:Int)<(IntKind.i64.wrap ((IntKind.i64.wrap (x6.toNat:Int))+3)))))=true then (Option.map Sum.inr (some (s2,s1,0))) else ((sub x4 0 (IntKind.i64.wrap ((IntKind.i64.wrap (x6.toNat:Int))+1))).bind fun x10=>((nS x10).bind fun x11=>((idx x4 (IntKind.i64.wrap ((IntKind.i64.wrap (x6.toNat:Int))+1))).bind fun x15=>((shl .i64 (IntKind.i64.wrap (x15.toNat:Int)) 8).bind fun x16=>((idx x4 (IntKind.i64.wrap ((IntKind.i64.wrap (x6.toNat:Int))+2))).bind fun x17=>(if ((ibits .or .i64 x16 (IntKind.i64.wrap (x17.toNat:Int))) != x11)=true then (Option.map Sum.inr (some (s2,s1,0))) else ((sub x4 1 (IntKind.i64.wrap ((IntKind.i64.wrap (x6.toNat:Int))+1))).bind fun x20=>((app s2 [x20]).bind fun x21=>(some (.inl (IntKind.i64.wrap (s1+(IntKind.i64.wrap ((IntKind.i64.wrap (x6.toNat:Int))+3))),x21)))))))))))))) else (Option.map Sum.inr (some (s2,s1,0))))
def nM (p0:List UInt8):Option ((List (List UInt8)) × Int × Int) :=
 (if (decide (((p0).length:Int) > 12800))=true then (some ([],0,2)) else (iter (fun bY:Int × (List (List UInt8))=>fO p0 bY.1 bY.2) (0,[])))
def nj (p0 p1:Int) (p2:List (List UInt8)) (p3:List Write):Option ((List UInt8) × Bool) :=
 (if (decide ((IntKind.i64.wrap ((IntKind.i64.wrap (p1*60))+p0)) >= ((p2).length:Int)))=true then (some ([],false)) else ((idx p2 (IntKind.i64.wrap ((IntKind.i64.wrap (p1*60))+p0))).bind fun x3=>((nM x3).bind fun x4=>(Option.bind (if (((x4.1).length:Int) != 1)=true then (some true) else ((idx p2 (IntKind.i64.wrap ((IntKind.i64.wrap (p1*60))+p0))).bind fun x5=>(if (x4.2.1 != ((x5).length:Int))=true then (some true) else ((ixN x4.1 0).bind fun x6=>(((x4.1)[x6]?).bind fun x7=>(if (decide (((x7).length:Int)<3))=true then (some true) else ((ixN x4.1 0).bind fun x8=>(((x4.1)[x8]?).bind fun x9=>((idx x9 1).bind fun x10=>(some ((IntKind.i64.wrap (x10.toNat:Int)) != p0))))))))))) fun c11=>(if c11=true then (some ([],false)) else ((ixN x4.1 0).bind fun x14=>(((x4.1)[x14]?).bind fun x15=>(some (x15,true)))))))))
def lL (p0:Disk) (p1:Int) (x5:(List UInt8) × Bool) (s9:List UInt8) (s10:Int):Option (((List UInt8) × Int) ⊕ ((List UInt8) × Int × Int)) :=
 ((idx x5.1 2).bind fun x12=>(if (decide (s10<=(IntKind.i64.wrap (x12.toNat:Int))))=true then ((nj s10 p1 p0.Sectors p0.Wait).bind fun x14=>(Option.bind (if (((x14.1).length:Int)==53)=true then (some true) else ((idx x5.1 2).bind fun x15=>(if (s10==(IntKind.i64.wrap (x15.toNat:Int)))=true then (if (decide (((x14.1).length:Int) > 3))=true then (some (decide (((x14.1).length:Int)<53))) else (some false)) else (some false)))) fun c16=>(Option.bind (if (!x14.2)=true then (some true) else ((idx x14.1 0).bind fun x17=>((idx x5.1 0).bind fun x18=>(if ((x17.toNat:Int) != (x18.toNat:Int))=true then (some true) else ((idx x14.1 2).bind fun x19=>((idx x5.1 2).bind fun x20=>(if ((x19.toNat:Int) != (x20.toNat:Int))=true then (some true) else (some (!c16))))))))) fun c21=>(if c21=true then (Option.map Sum.inr (some ([],0,12))) else ((sub x14.1 3 ((x14.1).length:Int)).bind fun x22=>((cat s9 x22).bind fun x23=>(some (.inl (x23,IntKind.i64.wrap (s10+1)))))))))) else (Option.map Sum.inr ((idx x5.1 0).bind fun x25=>(some (s9,IntKind.i64.wrap (x25.toNat:Int),0))))))
def od (p0:Disk) (p1:Int):Option ((List UInt8) × Int × Int) :=
 ((fD p0).bind fun x2=>(if (x2 != 0)=true then (some ([],0,x2)) else (if ((decide (p1<0)) || decide (p1 > 1))=true then (some ([],0,3)) else ((nj (0:Int) p1 p0.Sectors p0.Wait).bind fun x5=>(Option.bind (if (!x5.2)=true then (some true) else (if (((x5.1).length:Int) != 3)=true then (some true) else ((idx x5.1 0).bind fun x6=>(if (decide ((IntKind.i64.wrap (x6.toNat:Int)) > 200))=true then (some true) else ((idx x5.1 2).bind fun x7=>(some (decide ((IntKind.i64.wrap (x7.toNat:Int)) >= 60)))))))) fun c8=>(if c8=true then (some ([],0,12)) else (iter (fun db:(List UInt8) × Int=>lL p0 p1 x5 db.1 db.2) ([],1))))))))
def d9 (p0:List UInt8) (s1 s2:Int):Option ((Int × Int) ⊕ ((Int × (List UInt8)) ⊕ Unit)) :=
 (if (decide (s2<(if ((p0).length:Int)<10 then ((p0).length:Int) else 10)))=true then ((idx p0 s2).bind fun x5=>((shl .u64 (IntKind.u64.wrap (ibits .and .u8 (x5.toNat:Int) 127)) (IntKind.i64.wrap (7*s2))).bind fun x6=>((idx p0 s2).bind fun x8=>(if (decide ((x8.toNat:Int)<128))=true then ((sub p0 (IntKind.i64.wrap (s2+1)) ((p0).length:Int)).bind fun x10=>((shr .u64 (ibits .or .u64 s1 x6) 1).bind fun x12=>(Option.map Sum.inr (some (.inl (ibits .xor .i64 (IntKind.i64.wrap x12) (IntKind.i64.wrap (0 - (IntKind.i64.wrap (ibits .and .u64 (ibits .or .u64 s1 x6) 1)))),x10)))))) else (some (.inl (ibits .or .u64 s1 x6,IntKind.i64.wrap (s2+1)))))))) else (Option.map Sum.inr (some (.inr ()))))
def dl (p0:List UInt8):Option ((Int × (List UInt8)) ⊕ Unit) :=
 (iter (fun al:Int × Int=>d9 p0 al.1 al.2) (0,0))
def iS (x2:Int × (List UInt8)) (s4:Int) (s5:List UInt8) (s6:List Int):Option ((Int × (List UInt8) × (List Int)) ⊕ (((List Int) × (List UInt8)) ⊕ Unit)) :=
 (if (decide (s4<x2.1))=true then (bP (dl s5) (Option.map Sum.inr (some (.inr ()))) fun x7=>((app s6 [x7.1]).bind fun x8=>(some (.inl (IntKind.i64.wrap (s4+1),x7.2,x8))))) else (Option.map Sum.inr (some (.inl (s6,s5)))))
def nf (p0:List UInt8):Option (((List Int) × (List UInt8)) ⊕ Unit) :=
 (bP (dl p0) (some (.inr ())) fun x2=>(if ((decide (x2.1<0)) || decide (x2.1 > ((x2.2).length:Int)))=true then (some (.inr ())) else (iter (fun al:Int × (List UInt8) × (List Int)=>iS x2 al.1 al.2.1 al.2.2) (0,x2.2,[]))))
def lb (p0:List UInt8):Option ((Item × (List UInt8)) ⊕ Unit) :=
 (bP (dl p0) (some (.inr ())) fun x4=>(bP (dl x4.2) (some (.inr ())) fun x5=>(bP (dl x5.2) (some (.inr ())) fun x6=>(some (.inl ((⟨x4.1,x5.1,x6.1⟩:Item),x6.2))))))
def iQ (x2:Int × (List UInt8)) (s4:Int) (s5:List UInt8) (s6:List Item):Option ((Int × (List UInt8) × (List Item)) ⊕ (((List Item) × (List UInt8)) ⊕ Unit)) :=
 (if (decide (s4<x2.1))=true then (bP (lb s5) (Option.map Sum.inr (some (.inr ()))) fun x7=>((app s6 [x7.1]).bind fun x8=>(some (.inl (IntKind.i64.wrap (s4+1),x7.2,x8))))) else (Option.map Sum.inr (some (.inl (s6,s5)))))
def pf (p0:List UInt8):Option (((List Item) × (List UInt8)) ⊕ Unit) :=
 (bP (dl p0) (some (.inr ())) fun x2=>(if ((decide (x2.1<0)) || decide (x2.1 > ((x2.2).length:Int)))=true then (some (.inr ())) else (iter (fun al:Int × (List UInt8) × (List Item)=>iQ x2 al.1 al.2.1 al.2.2) (0,x2.2,[]))))
def jI (p0:List UInt8):Option (((List Item) × (List UInt8)) ⊕ Unit) :=
 (bP (pf p0) (some (.inr ())) fun x2=>(some (.inl (x2.1,x2.2))))
def iR (x2:Int × (List UInt8)) (s4:Int) (s5:List UInt8) (s6:List (List Item)):Option ((Int × (List UInt8) × (List (List Item))) ⊕ (((List (List Item)) × (List UInt8)) ⊕ Unit)) :=
 (if (decide (s4<x2.1))=true then (bP (jI s5) (Option.map Sum.inr (some (.inr ()))) fun x7=>((app s6 [x7.1]).bind fun x8=>(some (.inl (IntKind.i64.wrap (s4+1),x7.2,x8))))) else (Option.map Sum.inr (some (.inl (s6,s5)))))
def ne (p0:List UInt8):Option (((List (List Item)) × (List UInt8)) ⊕ Unit) :=
 (bP (dl p0) (some (.inr ())) fun x2=>(if ((decide (x2.1<0)) || decide (x2.1 > ((x2.2).length:Int)))=true then (some (.inr ())) else (iter (fun al:Int × (List UInt8) × (List (List Item))=>iR x2 al.1 al.2.1 al.2.2) (0,x2.2,[]))))
def lj (p0:List UInt8):Option ((Keyed × (List UInt8)) ⊕ Unit) :=
 (bP (dl p0) (some (.inr ())) fun x3=>(bP (dl x3.2) (some (.inr ())) fun x4=>(some (.inl ((⟨x3.1,x4.1⟩:Keyed),x4.2)))))
def iP (x2:Int × (List UInt8)) (s4:Int) (s5:List UInt8) (s6:List Keyed):Option ((Int × (List UInt8) × (List Keyed)) ⊕ (((List Keyed) × (List UInt8)) ⊕ Unit)) :=
 (if (decide (s4<x2.1))=true then (bP (lj s5) (Option.map Sum.inr (some (.inr ()))) fun x7=>((app s6 [x7.1]).bind fun x8=>(some (.inl (IntKind.i64.wrap (s4+1),x7.2,x8))))) else (Option.map Sum.inr (some (.inl (s6,s5)))))
def nc (p0:List UInt8):Option (((List Keyed) × (List UInt8)) ⊕ Unit) :=
 (bP (dl p0) (some (.inr ())) fun x2=>(if ((decide (x2.1<0)) || decide (x2.1 > ((x2.2).length:Int)))=true then (some (.inr ())) else (iter (fun al:Int × (List UInt8) × (List Keyed)=>iP x2 al.1 al.2.1 al.2.2) (0,x2.2,[]))))
def lq (p0:List UInt8):Option ((Memory × (List UInt8)) ⊕ Unit) :=
 (bP (dl p0) (some (.inr ())) fun x4=>(bP (dl x4.2) (some (.inr ())) fun x5=>(bP (nc x5.2) (some (.inr ())) fun x6=>(some (.inl ((⟨x4.1,x6.1,x5.1⟩:Memory),x6.2))))))
def iN (x2:Int × (List UInt8)) (s4:Int) (s5:List UInt8) (s6:List Memory):Option ((Int × (List UInt8) × (List Memory)) ⊕ (((List Memory) × (List UInt8)) ⊕ Unit)) :=
 (if (decide (s4<x2.1))=true then (bP (lq s5) (Option.map Sum.inr (some (.inr ()))) fun x7=>((app s6 [x7.1]).bind fun x8=>(some (.inl (IntKind.i64.wrap (s4+1),x7.2,x8))))) else (Option.map Sum.inr (some (.inl (s6,s5)))))
def na (p0:List UInt8):Option (((List Memory) × (List UInt8)) ⊕ Unit) :=
 (bP (dl p0) (some (.inr ())) fun x2=>(if ((decide (x2.1<0)) || decide (x2.1 > ((x2.2).length:Int)))=true then (some (.inr ())) else (iter (fun al:Int × (List UInt8) × (List Memory)=>iN x2 al.1 al.2.1 al.2.2) (0,x2.2,[]))))
def lr (p0:List UInt8):Option ((Choice × (List UInt8)) ⊕ Unit) :=
 (bP (dl p0) (some (.inr ())) fun x3=>(bP (dl x3.2) (some (.inr ())) fun x4=>(some (.inl ((⟨x3.1,x4.1⟩:Choice),x4.2)))))
def iO (x2:Int × (List UInt8)) (s4:Int) (s5:List UInt8) (s6:List Choice):Option ((Int × (List UInt8) × (List Choice)) ⊕ (((List Choice) × (List UInt8)) ⊕ Unit)) :=
 (if (decide (s4<x2.1))=true then (bP (lr s5) (Option.map Sum.inr (some (.inr ()))) fun x7=>((app s6 [x7.1]).bind fun x8=>(some (.inl (IntKind.i64.wrap (s4+1),x7.2,x8))))) else (Option.map Sum.inr (some (.inl (s6,s5)))))
def nb (p0:List UInt8):Option (((List Choice) × (List UInt8)) ⊕ Unit) :=
 (bP (dl p0) (some (.inr ())) fun x2=>(if ((decide (x2.1<0)) || decide (x2.1 > ((x2.2).length:Int)))=true then (some (.inr ())) else (iter (fun al:Int × (List UInt8) × (List Choice)=>iO x2 al.1 al.2.1 al.2.2) (0,x2.2,[]))))
def uh (p0:List Int):Option (List Int):=some p0
def m6 (p0:Int) (p1:List Int):Option (Unit × (List Int)) :=
 ((uh p1).bind fun x2=>((app x2 [p0]).bind fun x4=>(some ((),x4))))
def jH  (s5:Int) (s6:List Int):Option ((Int × (List Int)) ⊕ (List Int)) :=
 (if (decide (s5 >= 128))=true then ((m6 (ibits .or .u8 (IntKind.u8.wrap s5) 128) s6).bind fun x7=>((shr .u64 s5 7).bind fun x8=>(some (.inl (x8,x7.2))))) else (Option.map Sum.inr ((m6 (IntKind.u8.wrap s5) s6).bind fun x9=>(some x9.2))))
def df (p0:Int) (p1:List Int):Option (List Int) :=
 ((shl .u64 (IntKind.u64.wrap p0) 1).bind fun x3=>((shr .i64 p0 63).bind fun x4=>(iter (fun cv:Int × (List Int)=>jH cv.1 cv.2) (ibits .xor .u64 x3 (IntKind.u64.wrap x4),p1))))
def pd (p0:List Item) (s3:Int) (s4:List Int):Option ((Int × (List Int)) ⊕ (List Int)) :=
 (if (decide (s3<((p0).length:Int)))=true then ((idx p0 s3).bind fun x6=>((df x6.Key s4).bind fun x8=>((df x6.Val x8).bind fun x10=>((df x6.Dep x10).bind fun x11=>(some (.inl (IntKind.i64.wrap (s3+1),x11))))))) else (Option.map Sum.inr (some s4)))
def k6 (p0:List Item) (p1:List Int):Option (List Int) :=
 ((df ((p0).length:Int) p1).bind fun x2=>(iter (fun cv:Int × (List Int)=>pd p0 cv.1 cv.2) (0,x2)))
def qa (p0:List Int):Option (List UInt8):=bldS p0
def pR (s19:Int) (x22:Memory) (s29:Int) (s30:List Int):Option ((Int × (List Int)) ⊕ ((Int × (List Int)) ⊕ ((List UInt8) × Int))) :=
 (if (decide (s29<((x22.Keys).length:Int)))=true then ((idx x22.Keys s29).bind fun x32=>((df x32.Key s30).bind fun x34=>((df x32.N x34).bind fun x35=>(some (.inl (IntKind.i64.wrap (s29+1),x35)))))) else (Option.map Sum.inr (some (.inl (IntKind.i64.wrap (s19+1),s30)))))
def ny (p2:State) (s38:Int) (s39:List Int):Option ((Int × (List Int)) ⊕ ((List UInt8) × Int)) :=
 (if (decide (s38<((p2.Choices).length:Int)))=true then ((idx p2.Choices s38).bind fun x41=>((df x41.Node s39).bind fun x43=>((df x41.Lane x43).bind fun x44=>(some (.inl (IntKind.i64.wrap (s38+1),x44)))))) else (Option.map Sum.inr ((k6 p2.Out s39).bind fun x46=>((qa x46).bind fun x48=>(some (x48,0))))))
def nv (p2:State) (s19:Int) (s20:List Int):Option ((Int × (List Int)) ⊕ ((List UInt8) × Int)) :=
 (if (decide (s19<((p2.Memory).length:Int)))=true then ((idx p2.Memory s19).bind fun x22=>((df x22.Sum s20).bind fun x24=>((df x22.Dep x24).bind fun x26=>((df ((x22.Keys).length:Int) x26).bind fun x28=>(iter (fun kR:Int × (List Int)=>pR s19 x22 kR.1 kR.2) (0,x28)))))) else (Option.map Sum.inr ((df ((p2.Choices).length:Int) s20).bind fun x37=>(iter (fun gZ:Int × (List Int)=>ny p2 gZ.1 gZ.2) (0,x37)))))
def nA (p2:State) (s12:Int) (s13:List Int):Option ((Int × (List Int)) ⊕ ((List UInt8) × Int)) :=
 (if (decide (s12<((p2.Rings).length:Int)))=true then ((idx p2.Rings s12).bind fun x15=>((k6 x15 s13).bind fun x16=>(some (.inl (IntKind.i64.wrap (s12+1),x16))))) else (Option.map Sum.inr ((df ((p2.Memory).length:Int) s13).bind fun x18=>(iter (fun dP:Int × (List Int)=>nv p2 dP.1 dP.2) (0,x18)))))
def nu (p2:State) (s5:Int) (s6:List Int):Option ((Int × (List Int)) ⊕ ((List UInt8) × Int)) :=
 (if (decide (s5<((p2.At).length:Int)))=true then ((idx p2.At s5).bind fun x8=>((df x8 s6).bind fun x9=>(some (.inl (IntKind.i64.wrap (s5+1),x9))))) else (Option.map Sum.inr ((df ((p2.Rings).length:Int) s6).bind fun x11=>(iter (fun fU:Int × (List Int)=>nA p2 fU.1 fU.2) (0,x11)))))
def iX (p0:Net) (p1:List (List Item)) (p2:State):Option ((List UInt8) × Int) :=
 ((gC p0 p1 p2).bind fun x2=>(if (x2 != 0)=true then (some ([],x2)) else ((df ((p2.At).length:Int) ([]:List Int)).bind fun x4=>(iter (fun dS:Int × (List Int)=>nu p2 dS.1 dS.2) (0,x4)))))
def f6 (p0:Net) (p1:List (List Item)) (p2:List UInt8):Option (State × Int) :=
 ((j9 p0 p1).bind fun x2=>(if (x2 != 0)=true then (some ((⟨[],[],[],[],[]⟩:State),x2)) else (bP (nf p2) (some ((⟨[],[],[],[],[]⟩:State),12)) fun x4=>(bP (ne x4.2) (some ((⟨[],[],[],[],[]⟩:State),12)) fun x6=>(bP (na x6.2) (some ((⟨[],[],[],[],[]⟩:State),12)) fun x8=>(bP (nb x8.2) (some ((⟨[],[],[],[],[]⟩:State),12)) fun x10=>(bP (jI x10.2) (some ((⟨[],[],[],[],[]⟩:State),12)) fun x12=>((iX p0 p1 (⟨x4.1,x6.1,x8.1,x10.1,x12.1⟩:State)).bind fun x14=>(if ((x14.2 != 0) || !(x14.1==p2))=true then (some ((⟨[],[],[],[],[]⟩:State),12)) else (some ((⟨x4.1,x6.1,x8.1,x10.1,x12.1⟩:State),0)))))))))))
def ld (p0:List Node) (p1 p2:Int) (p3:List (List Item)) (p9:List (List UInt8)) (p10:List Write) (s3 s4:Int) (s5:List Int) (s6:List (List Item)) (s7:List Memory) (s8:List Choice) (s9:List Item):Option ((Int × Int × (List Int) × (List (List Item)) × (List Memory) × (List Choice) × (List Item)) ⊕ (State × Int)) :=
 (if (decide (s4<2))=true then ((od (⟨p9,p10⟩:Disk) s4).bind fun x11=>(if ((x11.2.2 != 0) || decide (x11.2.1<=s3))=true then (some (.inl (s3,IntKind.i64.wrap (s4+1),s5,s6,s7,s8,s9))) else ((f6 (⟨p0,p1,p2⟩:Net) p3 x11.1).bind fun x14=>(if (x14.2==0)=true then (some (.inl (x11.2.1,IntKind.i64.wrap (s4+1),x14.1.At,x14.1.Rings,x14.1.Memory,x14.1.Choices,x14.1.Out))) else (some (.inl (s3,IntKind.i64.wrap (s4+1),s5,s6,s7,s8,s9))))))) else (Option.map Sum.inr (some ((⟨s5,s6,s7,s8,s9⟩:State),s3))))
def pB (p0:List Node) (p1 p2:Int) (p3:List (List Item)) (p4:List Int) (p5:List (List Item)) (p6:List Memory) (p7:List Choice) (p8:List Item) (p9:List (List UInt8)) (p10:List Write) (p11 p12 p13 p14 p15:Int) (p16:Bool) (p17:List Item):Option (State × Int) :=
 ((iV (⟨p0,p1,p2⟩:Net) p3).bind fun x2=>(iter (fun ew:Int × Int × (List Int) × (List (List Item)) × (List Memory) × (List Choice) × (List Item)=>ld p0 p1 p2 p3 p9 p10 ew.1 ew.2.1 ew.2.2.1 ew.2.2.2.1 ew.2.2.2.2.1 ew.2.2.2.2.2.1 ew.2.2.2.2.2.2) (0,0,x2.1.At,x2.1.Rings,x2.1.Memory,x2.1.Choices,x2.1.Out)))
def hH (p0:List UInt8) (s3:Int) (s4:List Choice):Option ((Int × (List Choice)) ⊕ ((List Choice) × Int)) :=
 (if (decide (s3<((p0).length:Int)))=true then ((idx p0 s3).bind fun x7=>((idx p0 (IntKind.i64.wrap (s3+1))).bind fun x8=>(if ((decide ((IntKind.i64.wrap (x7.toNat:Int)) >= 12)) || decide ((IntKind.i64.wrap (x8.toNat:Int)) >= 16))=true then (Option.map Sum.inr (some ([],12))) else ((app s4 [(⟨IntKind.i64.wrap (x7.toNat:Int),IntKind.i64.wrap (x8.toNat:Int)⟩:Choice)]).bind fun x10=>(some (.inl (IntKind.i64.wrap (s3+2),x10))))))) else (Option.map Sum.inr (some (s4,0))))
def pH (p0:List UInt8):Option ((List Choice) × Int) :=
 (if (decide (((p0).length:Int) > 60))=true then (some ([],2)) else ((rem ((p0).length:Int) 2).bind fun x2=>(if (x2 != 0)=true then (some ([],12)) else (iter (fun g8:Int × (List Choice)=>hH p0 g8.1 g8.2) (0,[])))))
def nm (p0:Int) (p1:List (List UInt8)) (p2:List Write) (p3:Int):Option (List Choice) :=
 (if (decide (p0 >= ((p1).length:Int)))=true then (some []) else ((idx p1 p0).bind fun x3=>((nM x3).bind fun x4=>(Option.bind (if (((x4.1).length:Int) != 1)=true then (some true) else ((idx p1 p0).bind fun x5=>(if (x4.2.1 != ((x5).length:Int))=true then (some true) else ((ixN x4.1 0).bind fun x6=>(((x4.1)[x6]?).bind fun x7=>((idx x7 0).bind fun x8=>(some ((IntKind.i64.wrap (x8.toNat:Int)) != p3)))))))) fun c9=>(if c9=true then (some []) else ((ixN x4.1 0).bind fun x14=>(((x4.1)[x14]?).bind fun x15=>((sub x15 1 ((x15).length:Int)).bind fun x16=>((pH x16).bind fun x17=>(some x17.1))))))))))
def hU (p0:Disk) (p1 s6:Int) (s7 s8:List Choice):Option ((Int × (List Choice) × (List Choice)) ⊕ ((List Choice) × Int × Int)) :=
 (if (decide (((s8).length:Int) > 0))=true then ((app s7 s8).bind fun x10=>((nm (IntKind.i64.wrap (120+(IntKind.i64.wrap (s6+1)))) p0.Sectors p0.Wait p1).bind fun x11=>(some (.inl (IntKind.i64.wrap (s6+1),x10,x11))))) else (Option.map Sum.inr (some (s7,s6,0))))
def ob (p0:Disk) (p1:Int):Option ((List Choice) × Int × Int) :=
 ((fD p0).bind fun x2=>(if (x2 != 0)=true then (some ([],0,x2)) else (if ((decide (p1<0)) || decide (p1 > 200))=true then (some ([],0,3)) else ((nm (120:Int) p0.Sectors p0.Wait p1).bind fun x5=>(iter (fun aQ:Int × (List Choice) × (List Choice)=>hU p0 p1 aQ.1 aQ.2.1 aQ.2.2) (0,[],x5))))))
def pN (p0:Net) (p1:List Choice) (s3:Int):Option (Int ⊕ Int) :=
 (if (decide (s3<((p1).length:Int)))=true then ((idx p1 s3).bind fun x5=>(Option.bind (if (decide (x5.Node<0))=true then (some true) else (if (decide (x5.Node >= ((p0.Nodes).length:Int)))=true then (some true) else ((idx p0.Nodes x5.Node).bind fun x6=>(some (x6.Kind != 6))))) fun c7=>(if c7=true then (Option.map Sum.inr (some 5)) else (Option.bind (if (decide (x5.Lane<0))=true then (some true) else ((idx p0.Nodes x5.Node).bind fun x8=>(some (decide (x5.Lane >= ((x8.In).length:Int)))))) fun c9=>(if c9=true then (Option.map Sum.inr (some 3)) else (some (.inl (IntKind.i64.wrap (s3+1))))))))) else (Option.map Sum.inr (some 0)))
def nJ (p0:Net) (p1:List Choice):Option Int :=
 ((nT p0).bind fun x2=>(if (x2 != 0)=true then (some x2) else (if (decide (((p1).length:Int) > 500))=true then (some 2) else (iter (fun db:Int=>pN p0 p1 db) 0))))
def pm (p0:Move) (p1:List Node) (p2 p3:Int) (p4:List Choice):Option Bool :=
 ((idx p1 p0.Node).bind fun x1=>(Option.bind (if (x1.Kind != 6)=true then (some true) else ((idx p4 0).bind fun x2=>(if (p0.Node==x2.Node)=true then ((idx p4 0).bind fun x3=>(some (p0.Lane==x3.Lane))) else (some false)))) fun c4=>(some c4)))
def o7 (p0:List Move) (p1:List Node) (p2 p3:Int) (p4:List Choice) (s1:Int):Option (Int ⊕ Int) :=
 (if (decide (s1<((p0).length:Int)))=true then ((ixN p0 s1).bind fun x5=>(((p0)[x5]?).bind fun x6=>((pm x6 p1 p2 p3 p4).bind fun x7=>(if x7=true then (Option.map Sum.inr (some s1)) else (some (.inl (IntKind.i64.wrap (s1+1)))))))) else (Option.map Sum.inr (some (-1))))
def pb (p0:List Move) (p1:List Node) (p2 p3:Int) (p4:List Choice):Option Int :=
 (iter (fun al:Int=>o7 p0 p1 p2 p3 p4 al) 0)
def lu (p0:Net) (p1:List (List Item)) (s1:List Int) (s2:List (List Item)) (s3:List Memory) (s4:List Choice) (s5:List Item) (x8:(List Move) × Int) (x10:Int) (z18:List Choice):Option (((List Int) × (List (List Item)) × (List Memory) × (List Choice) × (List Item) × (List Choice)) ⊕ (State × Int)) :=
 ((ixN x8.1 x10).bind fun x19=>(((x8.1)[x19]?).bind fun x20=>((jm p0 p1 (⟨s1,s2,s3,s4,s5⟩:State) x20).bind fun x21=>(some (.inl (x21.1.At,x21.1.Rings,x21.1.Memory,x21.1.Choices,x21.1.Out,z18))))))
def jR (p0:Net) (p1:List (List Item)) (s1:List Int) (s2:List (List Item)) (s3:List Memory) (s4:List Choice) (s5:List Item) (s6:List Choice):Option (((List Int) × (List (List Item)) × (List Memory) × (List Choice) × (List Item) × (List Choice)) ⊕ (State × Int)) :=
 (if (decide (((s6).length:Int) > 0))=true then ((iW p0 p1 (⟨s1,s2,s3,s4,s5⟩:State)).bind fun x8=>((pb x8.1 p0.Nodes p0.Rings p0.Room s6).bind fun x10=>(if (decide (x10<0))=true then (Option.map Sum.inr (some ((⟨[],[],[],[],[]⟩:State),11))) else ((ixN x8.1 x10).bind fun x14=>(((x8.1)[x14]?).bind fun x15=>((idx p0.Nodes x15.Node).bind fun x16=>(if (x16.Kind==6)=true then ((sub s6 1 ((s6).length:Int)).bind fun x17=>(lu p0 p1 s1 s2 s3 s4 s5 x8 x10 x17)) else (lu p0 p1 s1 s2 s3 s4 s5 x8 x10 s6)))))))) else (Option.map Sum.inr (some ((⟨s1,s2,s3,s4,s5⟩:State),0))))
def nI (p0:Net) (p1:List (List Item)) (p2:State) (p3:List Choice):Option (State × Int) :=
 (if (decide ((IntKind.i64.wrap (((p2.Choices).length:Int)+((p3).length:Int))) > 500))=true then (some ((⟨[],[],[],[],[]⟩:State),2)) else (iter (fun bY:(List Int) × (List (List Item)) × (List Memory) × (List Choice) × (List Item) × (List Choice)=>jR p0 p1 bY.1 bY.2.1 bY.2.2.1 bY.2.2.2.1 bY.2.2.2.2.1 bY.2.2.2.2.2) (p2.At,p2.Rings,p2.Memory,p2.Choices,p2.Out,p3)))
def pQ (p0:Int) (p1:List Node) (p2 p3:Int) (p4:List (List Item)) (p5:List Int) (p6:List (List Item)) (p7:List Memory) (p8:List Choice) (p9:List Item) (p10:List (List UInt8)) (p11:List Write) (p12 p13 p14 p15 p16:Int) (p17:Bool) (p18:List Item):Option (Int × (List Int) × (List (List Item)) × (List Memory) × (List Choice) × (List Item) × Int × Int × Int × Int × Bool) :=
 ((pB p1 p2 p3 p4 p5 p6 p7 p8 p9 p10 p11 p12 p13 p14 p15 p16 p17 p18).bind fun x2=>((ob (⟨p10,p11⟩:Disk) x2.2).bind fun x4=>(if (x4.2.2 != 0)=true then (some (x4.2.2,p5,p6,p7,p8,p9,p12,p13,p14,p16,p17)) else ((nJ (⟨p1,p2,p3⟩:Net) x4.1).bind fun x6=>(if (x6 != 0)=true then (some (x6,p5,p6,p7,p8,p9,p12,p13,p14,p16,p17)) else ((nI (⟨p1,p2,p3⟩:Net) p4 x2.1 x4.1).bind fun x10=>(if (x10.2 != 0)=true then (some (x10.2,p5,p6,p7,p8,p9,p12,p13,p14,p16,p17)) else (some (0,x10.1.At,x10.1.Rings,x10.1.Memory,x10.1.Choices,x10.1.Out,((x10.1.Choices).length:Int),((x10.1.Choices).length:Int),x2.2,x4.2.1,false)))))))))
def lJ (p1 s6:Int) (s7:List (List UInt8)) (s8:List Write) (z11:List UInt8):Option ((Int × (List (List UInt8)) × (List Write)) ⊕ (Disk × Int)) :=
 ((n8 z11).bind fun x13=>((hZ (⟨s7,s8⟩:Disk) (IntKind.i64.wrap ((IntKind.i64.wrap (p1*60))+s6)) x13.1).bind fun x15=>(if (x15.2 != 0)=true then (Option.map Sum.inr (some ((⟨[],[]⟩:Disk),x15.2))) else (some (.inl (IntKind.i64.wrap (s6 - 1),x15.1.Sectors,x15.1.Wait))))))
def lK (p1 p2:Int) (p3:List UInt8) (x5 s6:Int) (s7:List (List UInt8)) (s8:List Write):Option ((Int × (List (List UInt8)) × (List Write)) ⊕ (Disk × Int)) :=
 (if (decide (s6 >= 0))=true then (if (decide (s6 > 0))=true then ((sub p3 (IntKind.i64.wrap ((IntKind.i64.wrap (s6 - 1))*50)) (if ((p3).length:Int)<(IntKind.i64.wrap (s6*50)) then ((p3).length:Int) else (IntKind.i64.wrap (s6*50)))).bind fun x9=>((cat (bW [IntKind.u8.wrap p2,IntKind.u8.wrap s6,IntKind.u8.wrap x5]) x9).bind fun x10=>(lJ p1 s6 s7 s8 x10))) else (lJ p1 s6 s7 s8 (bW [IntKind.u8.wrap p2,IntKind.u8.wrap s6,IntKind.u8.wrap x5]))) else (Option.map Sum.inr (some ((⟨s7,s8⟩:Disk),0))))
def oe (p0:Disk) (p1 p2:Int) (p3:List UInt8):Option (Disk × Int) :=
 ((fD p0).bind fun x2=>(if (x2 != 0)=true then (some ((⟨[],[]⟩:Disk),x2)) else (if ((decide (p1<0)) || ((decide (p1 > 1)) || ((decide (p2<0)) || decide (p2 > 200))))=true then (some ((⟨[],[]⟩:Disk),3)) else ((quo .i64 (IntKind.i64.wrap ((IntKind.i64.wrap (((p3).length:Int)+50)) - 1)) 50).bind fun x5=>(if (decide (x5 >= 60))=true then (some ((⟨[],[]⟩:Disk),8)) else (iter (fun fJ:Int × (List (List UInt8)) × (List Write)=>lK p1 p2 p3 x5 fJ.1 fJ.2.1 fJ.2.2) (x5,p0.Sectors,p0.Wait)))))))
def pJ (p0:Int) (p1:List Node) (p2 p3:Int) (p4:List (List Item)) (p5:List Int) (p6:List (List Item)) (p7:List Memory) (p8:List Choice) (p9:List Item) (p10:List (List UInt8)) (p11:List Write) (p12 p13 p14 p15 p16:Int) (p17:Bool) (p18:List Item):Option (Int × (List (List UInt8)) × (List Write) × Int) :=
 (if (decide (p15 >= 0))=true then (some (10,p10,p11,p15)) else (if (p14==200)=true then (some (8,p10,p11,p15)) else ((iX (⟨p1,p2,p3⟩:Net) p4 (⟨p5,p6,p7,p8,p9⟩:State)).bind fun x2=>(if (x2.2 != 0)=true then (some (x2.2,p10,p11,p15)) else ((rem (IntKind.i64.wrap (p14+1)) 2).bind fun x5=>((oe (⟨p10,p11⟩:Disk) x5 (IntKind.i64.wrap (p14+1)) x2.1).bind fun x6=>(if (x6.2 != 0)=true then (some (x6.2,x6.1.Sectors,x6.1.Wait,p15)) else (some (0,x6.1.Sectors,x6.1.Wait,((p8).length:Int))))))))))
def ia  (z31:List Node) (z32 z33:Int) (z34:List (List Item)) (z35:List Int) (z36:List (List Item)) (z37:List Memory) (z38:List Choice) (z39:List Item) (z40:List (List UInt8)) (z41:List Write) (z42 z43 z44 z45 z46:Int) (z47:Bool) (z48:List Item):Option (Shop × Int) :=
 (some ((⟨(⟨z31,z32,z33⟩:Net),z34,(⟨z35,z36,z37,z38,z39⟩:State),(⟨z40,z41⟩:Disk),z42,z43,z44,z45,z46,z48,z47⟩:Shop),0))
def eG (p0:Shop) (p1:Happening):Option (Shop × Int) :=
 ((qd p0).bind fun x2=>(if (x2 != 0)=true then (some ((⟨(⟨[],0,0⟩:Net),[],(⟨[],[],[],[],[]⟩:State),(⟨[],[]⟩:Disk),0,0,0,0,0,[],false⟩:Shop),x2)) else (if (p1.Kind==1)=true then (if (!(p0.Down==(p1.Kind==6)))=true then (some ((⟨(⟨[],0,0⟩:Net),[],(⟨[],[],[],[],[]⟩:State),(⟨[],[]⟩:Disk),0,0,0,0,0,[],false⟩:Shop),13)) else ((gB p0).bind fun x4=>((pI p1.N x4.N.Nodes x4.N.Rings x4.N.Room x4.Items x4.S.At x4.S.Rings x4.S.Memory x4.S.Choices x4.S.Out x4.D.Sectors x4.D.Wait x4.Logged x4.Safe x4.Epoch x4.Laid x4.Next x4.Down x4.Told).bind fun x6=>(if (x6.1 != 0)=true then (some ((⟨(⟨[],0,0⟩:Net),[],(⟨[],[],[],[],[]⟩:State),(⟨[],[]⟩:Disk),0,0,0,0,0,[],false⟩:Shop),x6.1)) else (ia x4.N.Nodes x4.N.Rings x4.N.Room x4.Items x6.2.1 x6.2.2.1 x6.2.2.2.1 x6.2.2.2.2.1 x6.2.2.2.2.2 x4.D.Sectors x4.D.Wait x4.Logged x4.Safe x4.Epoch x4.Laid x4.Next x4.Down x4.Told))))) else (if (p1.Kind==2)=true then (if (!(p0.Down==(p1.Kind==6)))=true then (some ((⟨(⟨[],0,0⟩:Net),[],(⟨[],[],[],[],[]⟩:State),(⟨[],[]⟩:Disk),0,0,0,0,0,[],false⟩:Shop),13)) else ((gB p0).bind fun x8=>((pD p1.N x8.N.Nodes x8.N.Rings x8.N.Room x8.Items x8.S.At x8.S.Rings x8.S.Memory x8.S.Choices x8.S.Out x8.D.Sectors x8.D.Wait x8.Logged x8.Safe x8.Epoch x8.Laid x8.Next x8.Down x8.Told).bind fun x10=>(if (x10.1 != 0)=true then (some ((⟨(⟨[],0,0⟩:Net),[],(⟨[],[],[],[],[]⟩:State),(⟨[],[]⟩:Disk),0,0,0,0,0,[],false⟩:Shop),x10.1)) else (ia x8.N.Nodes x8.N.Rings x8.N.Room x8.Items x8.S.At x8.S.Rings x8.S.Memory x8.S.Choices x8.S.Out x10.2.1 x10.2.2.1 x10.2.2.2.1 x8.Safe x8.Epoch x8.Laid x10.2.2.2.2 x8.Down x8.Told))))) else (if (p1.Kind==3)=true then (if (!(p0.Down==(p1.Kind==6)))=true then (some ((⟨(⟨[],0,0⟩:Net),[],(⟨[],[],[],[],[]⟩:State),(⟨[],[]⟩:Disk),0,0,0,0,0,[],false⟩:Shop),13)) else ((gB p0).bind fun x12=>((pF p1.N x12.N.Nodes x12.N.Rings x12.N.Room x12.Items x12.S.At x12.S.Rings x12.S.Memory x12.S.Choices x12.S.Out x12.D.Sectors x12.D.Wait x12.Logged x12.Safe x12.Epoch x12.Laid x12.Next x12.Down x12.Told).bind fun x14=>(if (x14.1 != 0)=true then (some ((⟨(⟨[],0,0⟩:Net),[],(⟨[],[],[],[],[]⟩:State),(⟨[],[]⟩:Disk),0,0,0,0,0,[],false⟩:Shop),x14.1)) else (ia x12.N.Nodes x12.N.Rings x12.N.Room x12.Items x12.S.At x12.S.Rings x12.S.Memory x12.S.Choices x12.S.Out x14.2.1 x14.2.2.1 x14.2.2.2.1 x14.2.2.2.2.1 x14.2.2.2.2.2.1 x14.2.2.2.2.2.2.1 x14.2.2.2.2.2.2.2 x12.Down x12.Told))))) else (if (p1.Kind==4)=true then (if (!(p0.Down==(p1.Kind==6)))=true then (some ((⟨(⟨[],0,0⟩:Net),[],(⟨[],[],[],[],[]⟩:State),(⟨[],[]⟩:Disk),0,0,0,0,0,[],false⟩:Shop),13)) else ((gB p0).bind fun x16=>((pG p1.N x16.N.Nodes x16.N.Rings x16.N.Room x16.Items x16.S.At x16.S.Rings x16.S.Memory x16.S.Choices x16.S.Out x16.D.Sectors x16.D.Wait x16.Logged x16.Safe x16.Epoch x16.Laid x16.Next x16.Down x16.Told).bind fun x18=>(if (x18.1 != 0)=true then (some ((⟨(⟨[],0,0⟩:Net),[],(⟨[],[],[],[],[]⟩:State),(⟨[],[]⟩:Disk),0,0,0,0,0,[],false⟩:Shop),x18.1)) else (ia x16.N.Nodes x16.N.Rings x16.N.Room x16.Items x16.S.At x16.S.Rings x16.S.Memory x16.S.Choices x16.S.Out x16.D.Sectors x16.D.Wait x16.Logged x16.Safe x16.Epoch x16.Laid x16.Next x16.Down x18.2))))) else (if (p1.Kind==5)=true then (if (!(p0.Down==(p1.Kind==6)))=true then (some ((⟨(⟨[],0,0⟩:Net),[],(⟨[],[],[],[],[]⟩:State),(⟨[],[]⟩:Disk),0,0,0,0,0,[],false⟩:Shop),13)) else ((gB p0).bind fun x20=>((pM p1.N x20.N.Nodes x20.N.Rings x20.N.Room x20.Items x20.S.At x20.S.Rings x20.S.Memory x20.S.Choices x20.S.Out x20.D.Sectors x20.D.Wait x20.Logged x20.Safe x20.Epoch x20.Laid x20.Next x20.Down x20.Told).bind fun x22=>(if (x22.1 != 0)=true then (some ((⟨(⟨[],0,0⟩:Net),[],(⟨[],[],[],[],[]⟩:State),(⟨[],[]⟩:Disk),0,0,0,0,0,[],false⟩:Shop),x22.1)) else (ia x20.N.Nodes x20.N.Rings x20.N.Room x20.Items x22.2.1 x22.2.2.1 x22.2.2.2.1 x22.2.2.2.2.1 x22.2.2.2.2.2.1 x22.2.2.2.2.2.2.1 x22.2.2.2.2.2.2.2.1 x22.2.2.2.2.2.2.2.2.1 x22.2.2.2.2.2.2.2.2.2.1 x22.2.2.2.2.2.2.2.2.2.2.1 x22.2.2.2.2.2.2.2.2.2.2.2.1 x22.2.2.2.2.2.2.2.2.2.2.2.2.1 x22.2.2.2.2.2.2.2.2.2.2.2.2.2 x20.Told))))) else (if (p1.Kind==6)=true then (if (!(p0.Down==(p1.Kind==6)))=true then (some ((⟨(⟨[],0,0⟩:Net),[],(⟨[],[],[],[],[]⟩:State),(⟨[],[]⟩:Disk),0,0,0,0,0,[],false⟩:Shop),13)) else ((gB p0).bind fun x24=>((pQ p1.N x24.N.Nodes x24.N.Rings x24.N.Room x24.Items x24.S.At x24.S.Rings x24.S.Memory x24.S.Choices x24.S.Out x24.D.Sectors x24.D.Wait x24.Logged x24.Safe x24.Epoch x24.Laid x24.Next x24.Down x24.Told).bind fun x26=>(if (x26.1 != 0)=true then (some ((⟨(⟨[],0,0⟩:Net),[],(⟨[],[],[],[],[]⟩:State),(⟨[],[]⟩:Disk),0,0,0,0,0,[],false⟩:Shop),x26.1)) else (ia x24.N.Nodes x24.N.Rings x24.N.Room x24.Items x26.2.1 x26.2.2.1 x26.2.2.2.1 x26.2.2.2.2.1 x26.2.2.2.2.2.1 x24.D.Sectors x24.D.Wait x26.2.2.2.2.2.2.1 x26.2.2.2.2.2.2.2.1 x26.2.2.2.2.2.2.2.2.1 x24.Laid x26.2.2.2.2.2.2.2.2.2.1 x26.2.2.2.2.2.2.2.2.2.2 x24.Told))))) else (if (p1.Kind==7)=true then (if (!(p0.Down==(p1.Kind==6)))=true then (some ((⟨(⟨[],0,0⟩:Net),[],(⟨[],[],[],[],[]⟩:State),(⟨[],[]⟩:Disk),0,0,0,0,0,[],false⟩:Shop),13)) else ((gB p0).bind fun x28=>((pJ p1.N x28.N.Nodes x28.N.Rings x28.N.Room x28.Items x28.S.At x28.S.Rings x28.S.Memory x28.S.Choices x28.S.Out x28.D.Sectors x28.D.Wait x28.Logged x28.Safe x28.Epoch x28.Laid x28.Next x28.Down x28.Told).bind fun x30=>(if (x30.1 != 0)=true then (some ((⟨(⟨[],0,0⟩:Net),[],(⟨[],[],[],[],[]⟩:State),(⟨[],[]⟩:Disk),0,0,0,0,0,[],false⟩:Shop),x30.1)) else (ia x28.N.Nodes x28.N.Rings x28.N.Room x28.Items x28.S.At x28.S.Rings x28.S.Memory x28.S.Choices x28.S.Out x30.2.1 x30.2.2.1 x28.Logged x28.Safe x28.Epoch x30.2.2.2 x28.Next x28.Down x28.Told))))) else (some ((⟨(⟨[],0,0⟩:Net),[],(⟨[],[],[],[],[]⟩:State),(⟨[],[]⟩:Disk),0,0,0,0,0,[],false⟩:Shop),5)))))))))))
def j7 (p2:List Happening) (s3:Int) (s4:List Node) (s5 s6:Int) (s7:List (List Item)) (s8:List Int) (s9:List (List Item)) (s10:List Memory) (s11:List Choice) (s12:List Item) (s13:List (List UInt8)) (s14:List Write) (s15 s16 s17 s18 s19:Int) (s20:List Item) (s21:Bool) (s22:List Int):Option ((Int × (List Node) × Int × Int × (List (List Item)) × (List Int) × (List (List Item)) × (List Memory) × (List Choice) × (List Item) × (List (List UInt8)) × (List Write) × Int × Int × Int × Int × Int × (List Item) × Bool × (List Int)) ⊕ (Shop × (List Int) × Int)) :=
 (if (decide (s3<((p2).length:Int)))=true then ((idx p2 s3).bind fun x24=>((eG (⟨(⟨s4,s5,s6⟩:Net),s7,(⟨s8,s9,s10,s11,s12⟩:State),(⟨s13,s14⟩:Disk),s15,s16,s17,s18,s19,s20,s21⟩:Shop) x24).bind fun x26=>(if (x26.2==0)=true then ((app s22 [x26.2]).bind fun x27=>(some (.inl (IntKind.i64.wrap (s3+1),x26.1.N.Nodes,x26.1.N.Rings,x26.1.N.Room,x26.1.Items,x26.1.S.At,x26.1.S.Rings,x26.1.S.Memory,x26.1.S.Choices,x26.1.S.Out,x26.1.D.Sectors,x26.1.D.Wait,x26.1.Logged,x26.1.Safe,x26.1.Epoch,x26.1.Laid,x26.1.Next,x26.1.Told,x26.1.Down,x27)))) else ((app s22 [x26.2]).bind fun x28=>(some (.inl (IntKind.i64.wrap (s3+1),s4,s5,s6,s7,s8,s9,s10,s11,s12,s13,s14,s15,s16,s17,s18,s19,s20,s21,x28))))))) else (Option.map Sum.inr (some ((⟨(⟨s4,s5,s6⟩:Net),s7,(⟨s8,s9,s10,s11,s12⟩:State),(⟨s13,s14⟩:Disk),s15,s16,s17,s18,s19,s20,s21⟩:Shop),s22,0))))
def kp (p0:Net) (p1:List (List Item)) (p2:List Happening):Option (Shop × (List Int) × Int) :=
 ((l6 p0 p1).bind fun x2=>(if (x2.2 != 0)=true then (some ((⟨(⟨[],0,0⟩:Net),[],(⟨[],[],[],[],[]⟩:State),(⟨[],[]⟩:Disk),0,0,0,0,0,[],false⟩:Shop),[],x2.2)) else (if (decide (((p2).length:Int) > 1200))=true then (some ((⟨(⟨[],0,0⟩:Net),[],(⟨[],[],[],[],[]⟩:State),(⟨[],[]⟩:Disk),0,0,0,0,0,[],false⟩:Shop),[],2)) else (iter (fun be:Int × (List Node) × Int × Int × (List (List Item)) × (List Int) × (List (List Item)) × (List Memory) × (List Choice) × (List Item) × (List (List UInt8)) × (List Write) × Int × Int × Int × Int × Int × (List Item) × Bool × (List Int)=>j7 p2 be.1 be.2.1 be.2.2.1 be.2.2.2.1 be.2.2.2.2.1 be.2.2.2.2.2.1 be.2.2.2.2.2.2.1 be.2.2.2.2.2.2.2.1 be.2.2.2.2.2.2.2.2.1 be.2.2.2.2.2.2.2.2.2.1 be.2.2.2.2.2.2.2.2.2.2.1 be.2.2.2.2.2.2.2.2.2.2.2.1 be.2.2.2.2.2.2.2.2.2.2.2.2.1 be.2.2.2.2.2.2.2.2.2.2.2.2.2.1 be.2.2.2.2.2.2.2.2.2.2.2.2.2.2.1 be.2.2.2.2.2.2.2.2.2.2.2.2.2.2.2.1 be.2.2.2.2.2.2.2.2.2.2.2.2.2.2.2.2.1 be.2.2.2.2.2.2.2.2.2.2.2.2.2.2.2.2.2.1 be.2.2.2.2.2.2.2.2.2.2.2.2.2.2.2.2.2.2.1 be.2.2.2.2.2.2.2.2.2.2.2.2.2.2.2.2.2.2.2) (0,x2.1.N.Nodes,x2.1.N.Rings,x2.1.N.Room,x2.1.Items,x2.1.S.At,x2.1.S.Rings,x2.1.S.Memory,x2.1.S.Choices,x2.1.S.Out,x2.1.D.Sectors,x2.1.D.Wait,x2.1.Logged,x2.1.Safe,x2.1.Epoch,x2.1.Laid,x2.1.Next,x2.1.Told,x2.1.Down,[])))))
def rS:Option Net :=
 (some (⟨[(⟨1,0,[],[0]⟩:Node),(⟨1,1,[],[1]⟩:Node),(⟨6,0,[0,1],[2]⟩:Node),(⟨8,0,[2],[]⟩:Node)],3,1⟩:Net))
def rY (p0 p1:Int):Option Item :=
 (some (⟨p0,p1,0⟩:Item))
def r6:Option (List (List Item)) :=
 ((rY (1:Int) (1:Int)).bind fun x3=>((rY (2:Int) (2:Int)).bind fun x4=>(some [[x3],[x4]])))
def dK (p0 p1:Int):Option Happening :=
 (some (⟨p0,p1⟩:Happening))
def lm:Option Bool :=
 (rS.bind fun x16=>(r6.bind fun x17=>((dK (1:Int) (1:Int)).bind fun x18=>((dK (1:Int) (1:Int)).bind fun x19=>((dK (1:Int) (1:Int)).bind fun x20=>((dK (4:Int) (0:Int)).bind fun x21=>((dK (2:Int) (0:Int)).bind fun x22=>((dK (3:Int) (0:Int)).bind fun x23=>((dK (4:Int) (0:Int)).bind fun x24=>((dK (5:Int) (0:Int)).bind fun x25=>((dK (6:Int) (0:Int)).bind fun x26=>((dK (4:Int) (0:Int)).bind fun x27=>((kp x16 x17 ([x18,x19,x20,x21,x22,x23,x24,x25,x26,x27]:List Happening)).bind fun x30=>(some ((x30.2.2==0) && ((((x30.2.1).length:Int)==10) && ((((x30.1.S.Choices).length:Int)==1) && ((x30.1.Safe==1) && ((decide (((x30.1.Told).length:Int)<=1)) && !x30.1.Down)))))))))))))))))))
def pp (p0 p1:List Int) (s1:Int):Option (Int ⊕ Bool) :=
 (if (decide (s1<((p0).length:Int)))=true then ((idx p0 s1).bind fun x4=>((idx p1 s1).bind fun x5=>(if (x4 != x5)=true then (Option.map Sum.inr (some false)) else (some (.inl (IntKind.i64.wrap (s1+1))))))) else (Option.map Sum.inr (some true)))
def ln (p0 p1:List Int):Option Bool :=
 (if (((p0).length:Int) != ((p1).length:Int))=true then (some false) else (iter (fun aQ:Int=>pp p0 p1 aQ) 0))
def pk (p0 p1:List Item) (s1:Int):Option (Int ⊕ Bool) :=
 (if (decide (s1<((p0).length:Int)))=true then ((idx p0 s1).bind fun x4=>((idx p1 s1).bind fun x5=>(if (!(x4==x5))=true then (Option.map Sum.inr (some false)) else (some (.inl (IntKind.i64.wrap (s1+1))))))) else (Option.map Sum.inr (some true)))
def pz (p0 p1:List Item):Option Bool :=
 (if (((p0).length:Int) != ((p1).length:Int))=true then (some false) else (iter (fun aQ:Int=>pk p0 p1 aQ) 0))
def lh (p0 p1:List Item):Option Bool :=
 ((pz p0 p1).bind fun x2=>(some x2))
def oW (p0 p1:List (List Item)) (s1:Int):Option (Int ⊕ Bool) :=
 (if (decide (s1<((p0).length:Int)))=true then ((idx p0 s1).bind fun x3=>((idx p1 s1).bind fun x5=>((lh x3 x5).bind fun x7=>(if (!x7)=true then (Option.map Sum.inr (some false)) else (some (.inl (IntKind.i64.wrap (s1+1)))))))) else (Option.map Sum.inr (some true)))
def mZ (p0 p1:List (List Item)):Option Bool :=
 (if (((p0).length:Int) != ((p1).length:Int))=true then (some false) else (iter (fun aQ:Int=>oW p0 p1 aQ) 0))
def pj (p0 p1:List Keyed) (s1:Int):Option (Int ⊕ Bool) :=
 (if (decide (s1<((p0).length:Int)))=true then ((idx p0 s1).bind fun x4=>((idx p1 s1).bind fun x5=>(if (!(x4==x5))=true then (Option.map Sum.inr (some false)) else (some (.inl (IntKind.i64.wrap (s1+1))))))) else (Option.map Sum.inr (some true)))
def px (p0 p1:List Keyed):Option Bool :=
 (if (((p0).length:Int) != ((p1).length:Int))=true then (some false) else (iter (fun aQ:Int=>pj p0 p1 aQ) 0))
def po (p0 p1:Memory):Option Bool :=
 (Option.bind (if (p0.Sum==p1.Sum)=true then (if (p0.Dep==p1.Dep)=true then ((px p0.Keys p1.Keys).bind fun x1=>(some x1)) else (some false)) else (some false)) fun c2=>(some c2))
def oV (p0 p1:List Memory) (s1:Int):Option (Int ⊕ Bool) :=
 (if (decide (s1<((p0).length:Int)))=true then ((idx p0 s1).bind fun x3=>((idx p1 s1).bind fun x5=>((po x3 x5).bind fun x7=>(if (!x7)=true then (Option.map Sum.inr (some false)) else (some (.inl (IntKind.i64.wrap (s1+1)))))))) else (Option.map Sum.inr (some true)))
def oX (p0 p1:List Memory):Option Bool :=
 (if (((p0).length:Int) != ((p1).length:Int))=true then (some false) else (iter (fun aQ:Int=>oV p0 p1 aQ) 0))
def pg (p0 p1:List Choice) (s1:Int):Option (Int ⊕ Bool) :=
 (if (decide (s1<((p0).length:Int)))=true then ((idx p0 s1).bind fun x4=>((idx p1 s1).bind fun x5=>(if (!(x4==x5))=true then (Option.map Sum.inr (some false)) else (some (.inl (IntKind.i64.wrap (s1+1))))))) else (Option.map Sum.inr (some true)))
def pn (p0 p1:List Choice):Option Bool :=
 (if (((p0).length:Int) != ((p1).length:Int))=true then (some false) else (iter (fun aQ:Int=>pg p0 p1 aQ) 0))
def pr (p0 p1:State):Option Bool :=
 ((ln p0.At p1.At).bind fun x1=>(Option.bind (if x1=true then ((mZ p0.Rings p1.Rings).bind fun x2=>(if x2=true then ((oX p0.Memory p1.Memory).bind fun x3=>(if x3=true then ((pn p0.Choices p1.Choices).bind fun x4=>(if x4=true then ((lh p0.Out p1.Out).bind fun x5=>(some x5)) else (some false))) else (some false))) else (some false))) else (some false)) fun c6=>(some c6)))
def pt (p0 p1:Node):Option Bool :=
 (Option.bind (if (p0.Kind==p1.Kind)=true then (if (p0.A==p1.A)=true then ((ln p0.In p1.In).bind fun x1=>(if x1=true then ((ln p0.Out p1.Out).bind fun x2=>(some x2)) else (some false))) else (some false)) else (some false)) fun c3=>(some c3))
def jF (p0 p1:List Node) (s1:Int):Option (Int ⊕ Bool) :=
 (if (decide (s1<((p0).length:Int)))=true then ((idx p0 s1).bind fun x3=>((idx p1 s1).bind fun x5=>((pt x3 x5).bind fun x7=>(if (!x7)=true then (Option.map Sum.inr (some false)) else (some (.inl (IntKind.i64.wrap (s1+1)))))))) else (Option.map Sum.inr (some true)))
def rv (p0 p1:List Node):Option Bool :=
 (if (((p0).length:Int) != ((p1).length:Int))=true then (some false) else (iter (fun aQ:Int=>jF p0 p1 aQ) 0))
def pE (p0 p1:Net):Option Bool :=
 (Option.bind (if (p0.Rings==p1.Rings)=true then (if (p0.Room==p1.Room)=true then ((rv p0.Nodes p1.Nodes).bind fun x1=>(some x1)) else (some false)) else (some false)) fun c2=>(some c2))
def ph (p0 p1:List (List UInt8)) (s1:Int):Option (Int ⊕ Bool) :=
 (if (decide (s1<((p0).length:Int)))=true then ((idx p0 s1).bind fun x4=>((idx p1 s1).bind fun x5=>(if (!(x4==x5))=true then (Option.map Sum.inr (some false)) else (some (.inl (IntKind.i64.wrap (s1+1))))))) else (Option.map Sum.inr (some true)))
def pq (p0 p1:List (List UInt8)):Option Bool :=
 (if (((p0).length:Int) != ((p1).length:Int))=true then (some false) else (iter (fun aQ:Int=>ph p0 p1 aQ) 0))
def pi (p0 p1:List Write) (s1:Int):Option (Int ⊕ Bool) :=
 (if (decide (s1<((p0).length:Int)))=true then ((idx p0 s1).bind fun x4=>((idx p1 s1).bind fun x5=>(if (!(x4==x5))=true then (Option.map Sum.inr (some false)) else (some (.inl (IntKind.i64.wrap (s1+1))))))) else (Option.map Sum.inr (some true)))
def pw (p0 p1:List Write):Option Bool :=
 (if (((p0).length:Int) != ((p1).length:Int))=true then (some false) else (iter (fun aQ:Int=>pi p0 p1 aQ) 0))
def pC (p0 p1:Disk):Option Bool :=
 ((pq p0.Sectors p1.Sectors).bind fun x1=>(Option.bind (if x1=true then ((pw p0.Wait p1.Wait).bind fun x2=>(some x2)) else (some false)) fun c3=>(some c3)))
def ni (p0 p1:Shop):Option Bool :=
 ((pE p0.N p1.N).bind fun x1=>(Option.bind (if x1=true then ((mZ p0.Items p1.Items).bind fun x2=>(if x2=true then ((pr p0.S p1.S).bind fun x3=>(if x3=true then ((pC p0.D p1.D).bind fun x4=>(if x4=true then (if (p0.Logged==p1.Logged)=true then (if (p0.Safe==p1.Safe)=true then (if (p0.Epoch==p1.Epoch)=true then (if (p0.Laid==p1.Laid)=true then (if (p0.Next==p1.Next)=true then ((lh p0.Told p1.Told).bind fun x5=>(if x5=true then (some (p0.Down==p1.Down)) else (some false))) else (some false)) else (some false)) else (some false)) else (some false)) else (some false)) else (some false))) else (some false))) else (some false))) else (some false)) fun c6=>(some c6)))
def lc  (z14:List Node) (z15 z16:Int) (z17:List (List Item)) (z18:List Int) (z19:List (List Item)) (z20:List Memory) (z21:List Choice) (z22:List Item) (z23:List (List UInt8)) (z24:List Write) (z25 z26 z27 z28 z29:Int) (z30:List Item) (z31:Bool):Option Bool :=
 ((dK (6:Int) (0:Int)).bind fun x34=>((eG (⟨(⟨z14,z15,z16⟩:Net),z17,(⟨z18,z19,z20,z21,z22⟩:State),(⟨z23,z24⟩:Disk),z25,z26,z27,z28,z29,z30,z31⟩:Shop) x34).bind fun x35=>(if (x35.2 != 0)=true then (some false) else ((dK (5:Int) (0:Int)).bind fun x38=>((eG x35.1 x38).bind fun x39=>(if (x39.2 != 0)=true then (some false) else ((dK (6:Int) (0:Int)).bind fun x42=>((eG x39.1 x42).bind fun x43=>(Option.bind (if (x43.2==0)=true then ((ni x35.1 x43.1).bind fun x44=>(some x44)) else (some false)) fun c45=>(some c45))))))))))
def iT (p0:Net) (p1:List (List Item)) (z3:List Happening):Option Bool :=
 ((kp p0 p1 z3).bind fun x5=>(lm.bind fun x6=>(if ((!x6) || x5.2.2 != 0)=true then (lm.bind fun x9=>(some x9)) else (if (!x5.1.Down)=true then ((dK (5:Int) (0:Int)).bind fun x12=>((eG x5.1 x12).bind fun x13=>(if (x13.2 != 0)=true then (some false) else (lc x13.1.N.Nodes x13.1.N.Rings x13.1.N.Room x13.1.Items x13.1.S.At x13.1.S.Rings x13.1.S.Memory x13.1.S.Choices x13.1.S.Out x13.1.D.Sectors x13.1.D.Wait x13.1.Logged x13.1.Safe x13.1.Epoch x13.1.Laid x13.1.Next x13.1.Told x13.1.Down)))) else (lc x5.1.N.Nodes x5.1.N.Rings x5.1.N.Room x5.1.Items x5.1.S.At x5.1.S.Rings x5.1.S.Memory x5.1.S.Choices x5.1.S.Out x5.1.D.Sectors x5.1.D.Wait x5.1.Logged x5.1.Safe x5.1.Epoch x5.1.Laid x5.1.Next x5.1.Told x5.1.Down)))))
def rI (p0:Net) (p1:List (List Item)) (p2:List Happening):Option Bool :=
 (if (decide (((p2).length:Int) > 60))=true then ((sub p2 0 60).bind fun x1=>(iT p0 p1 x1)) else (iT p0 p1 p2))
end
section
open Go.RowKit
set_option maxRecDepth 100000
def tyT:TT:=.n 50 (.n 25 (.n 12 (.n 7 (.n 4 (.l 3 (.it .i64)) (.n 5 (.l 4 (.bo)) (.l 5 (.it .u8)))) (.n 9 (.n 8 (.l 7 (.ag [.int .i64 0,.int .i64 0,.bool false,.int .u8 0] 4 [(0,1,2),(1,1,3),(2,1,4),(3,1,6)])) (.l 8 (.ag [.int .i64 0,.int .i64 0,.bool false,.int .u8 0] 4 [(0,1,2),(1,1,3),(2,1,4),(3,1,6)]))) (.n 10 (.l 9 (.str)) (.l 10 (.str))))) (.n 18 (.n 15 (.l 12 (.it .u64)) (.n 16 (.l 15 (.sc (.nilp))) (.l 16 (.sc (.nilp))))) (.n 23 (.n 22 (.l 18 (.ag [.nilp] 1 [(0,1,17)])) (.l 22 (.sl 90 4))) (.n 24 (.l 23 (.ag [.nils,.int .i64 0,.int .i64 0] 3 [(0,1,22),(1,1,3),(2,1,3)])) (.l 24 (.ag [.nils,.int .i64 0,.int .i64 0] 3 [(0,1,22),(1,1,3),(2,1,3)])))))) (.n 34 (.n 29 (.n 27 (.l 25 (.sl 30 1)) (.n 28 (.l 27 (.sl 3 1)) (.l 28 (.sl 84 3)))) (.n 32 (.n 30 (.l 29 (.sl 50 2)) (.l 30 (.sl 75 3))) (.n 33 (.l 32 (.ag [.nils,.nils,.nils,.nils,.nils] 5 [(0,1,27),(1,1,25),(2,1,28),(3,1,29),(4,1,30)])) (.l 33 (.sl 9 1))))) (.n 39 (.n 36 (.n 35 (.l 34 (.sl 132 2)) (.l 35 (.ag [.nils,.nils] 2 [(0,1,33),(1,1,34)]))) (.n 38 (.l 36 (.ag [.nils,.nils] 2 [(0,1,33),(1,1,34)])) (.l 38 (.ag [.nils,.int .i64 0,.int .i64 0,.nils,.nils,.nils,.nils,.nils,.nils,.nils,.nils,.int .i64 0,.int .i64 0,.int .i64 0,.int .i64 0,.int .i64 0,.nils,.bool false] 18 [(0,3,24),(3,1,25),(4,5,32),(9,2,36),(11,1,3),(12,1,3),(13,1,3),(14,1,3),(15,1,3),(16,1,30),(17,1,4)])))) (.n 44 (.n 42 (.l 39 (.it .i64)) (.l 42 (.sc (.nilf)))) (.n 45 (.l 44 (.ag [.int .i64 0,.int .i64 0] 2 [(0,1,3),(1,1,3)])) (.l 45 (.sc (.nilf)))))))) (.n 97 (.n 74 (.n 64 (.n 52 (.l 50 (.ag [.int .i64 0,.int .i64 0] 2 [(0,1,3),(1,1,3)])) (.n 54 (.l 52 (.sl 39 1)) (.l 54 (.sc (.nilf))))) (.n 68 (.n 67 (.l 64 (.sc (.nilf))) (.l 67 (.sc (.nilf)))) (.n 69 (.l 68 (.sc (.nilf))) (.l 69 (.sc (.any)))))) (.n 79 (.n 76 (.n 75 (.l 74 (.ag [.int .i64 0,.int .i64 0,.int .i64 0] 3 [(0,1,3),(1,1,3),(2,1,3)])) (.l 75 (.ag [.int .i64 0,.int .i64 0,.int .i64 0] 3 [(0,1,3),(1,1,3),(2,1,3)]))) (.n 78 (.l 76 (.sc (.nilf))) (.l 78 (.sc (.nilf))))) (.n 84 (.n 82 (.l 79 (.sc (.nilf))) (.l 82 (.sl 139 2))) (.n 90 (.l 84 (.ag [.int .i64 0,.nils,.int .i64 0] 3 [(0,1,3),(1,1,82),(2,1,3)])) (.l 90 (.ag [.int .i64 0,.int .i64 0,.nils,.nils] 4 [(0,1,3),(1,1,3),(2,1,27),(3,1,27)])))))) (.n 177 (.n 157 (.n 132 (.l 97 (.ag [.int .i64 0,.int .i64 0] 2 [(0,1,3),(1,1,3)])) (.n 139 (.l 132 (.ag [.int .i64 0,.str []] 2 [(0,1,3),(1,1,9)])) (.l 139 (.ag [.int .i64 0,.int .i64 0] 2 [(0,1,3),(1,1,3)])))) (.n 173 (.n 159 (.l 157 (.ag [.nilp,.nils] 2 [(0,1,155),(1,1,152)])) (.l 159 (.ag [.nilp,.nils] 2 [(0,2,157)]))) (.n 175 (.l 173 (.ag [] 0 [])) (.l 175 (.sc (.nilp)))))) (.n 241 (.n 212 (.n 198 (.l 177 (.ag [.str []] 1 [(0,1,9)])) (.l 198 (.sl 4 1))) (.n 213 (.l 212 (.it .u64)) (.l 213 (.it .u64)))) (.n 269 (.n 245 (.l 241 (.sl 245 2)) (.l 245 (.ag [.int .i64 0,.int .i64 0] 2 [(0,1,3),(1,1,3)]))) (.n 270 (.l 269 (.sc (.nilf))) (.l 270 (.ar [.nilf,.nilf,.nilf,.nilf] 4)))))))
theorem eJ:tyT.Ok Tryz.prog:=⟨⟨⟨⟨⟨⟨⟨Ty.k3,Ty.c3,Ty.i3⟩,Ty.z3,Tryz.underlying3⟩,⟨⟨⟨Ty.k4,Ty.c4,Ty.i4⟩,Ty.z4,Tryz.underlying4⟩,⟨⟨Ty.k5,Ty.c5,Ty.i5⟩,Ty.z5,Tryz.underlying5⟩⟩⟩,⟨⟨⟨⟨Ty.k7,Ty.c7,Ty.i7,Ty.z7,rfl⟩,Ty.p7,⟨Ty.f7_0,Ty.f7_1,Ty.f7_2,Ty.f7_3,tqz⟩⟩,⟨⟨Ty.k8,Ty.c8,Ty.i8,Ty.z8,rfl⟩,Ty.p8,⟨Ty.f8_0,Ty.f8_1,Ty.f8_2,Ty.f8_3,tqz⟩⟩⟩,⟨⟨⟨Ty.k9,Ty.c9,Ty.i9⟩,Ty.z9,Tryz.underlying9⟩,⟨⟨Ty.k10,Ty.c10,Ty.i10⟩,Ty.z10,Tryz.underlying10⟩⟩⟩⟩,⟨⟨⟨⟨Ty.k12,Ty.c12,Ty.i12⟩,Ty.z12,Tryz.underlying12⟩,⟨⟨⟨Ty.k15,Ty.c15,Ty.i15⟩,Ty.z15⟩,⟨⟨Ty.k16,Ty.c16,Ty.i16⟩,Ty.z16⟩⟩⟩,⟨⟨⟨⟨Ty.k18,Ty.c18,Ty.i18,Ty.z18,rfl⟩,Ty.p18,⟨Ty.f18_0,tqz⟩⟩,⟨⟨Ty.k22,Ty.c22,Ty.i22⟩,Ty.z22,Ty.s22⟩⟩,⟨⟨⟨Ty.k23,Ty.c23,Ty.i23,Ty.z23,rfl⟩,Ty.p23,⟨Ty.f23_0,Ty.f23_1,Ty.f23_2,tqz⟩⟩,⟨⟨Ty.k24,Ty.c24,Ty.i24,Ty.z24,rfl⟩,Ty.p24,⟨Ty.f24_0,Ty.f24_1,Ty.f24_2,tqz⟩⟩⟩⟩⟩⟩,⟨⟨⟨⟨⟨Ty.k25,Ty.c25,Ty.i25⟩,Ty.z25,Ty.s25⟩,⟨⟨⟨Ty.k27,Ty.c27,Ty.i27⟩,Ty.z27,Ty.s27⟩,⟨⟨Ty.k28,Ty.c28,Ty.i28⟩,Ty.z28,Ty.s28⟩⟩⟩,⟨⟨⟨⟨Ty.k29,Ty.c29,Ty.i29⟩,Ty.z29,Ty.s29⟩,⟨⟨Ty.k30,Ty.c30,Ty.i30⟩,Ty.z30,Ty.s30⟩⟩,⟨⟨⟨Ty.k32,Ty.c32,Ty.i32,Ty.z32,rfl⟩,Ty.p32,⟨Ty.f32_0,Ty.f32_1,Ty.f32_2,Ty.f32_3,Ty.f32_4,tqz⟩⟩,⟨⟨Ty.k33,Ty.c33,Ty.i33⟩,Ty.z33,Ty.s33⟩⟩⟩⟩,⟨⟨⟨⟨⟨Ty.k34,Ty.c34,Ty.i34⟩,Ty.z34,Ty.s34⟩,⟨⟨Ty.k35,Ty.c35,Ty.i35,Ty.z35,rfl⟩,Ty.p35,⟨Ty.f35_0,Ty.f35_1,tqz⟩⟩⟩,⟨⟨⟨Ty.k36,Ty.c36,Ty.i36,Ty.z36,rfl⟩,Ty.p36,⟨Ty.f36_0,Ty.f36_1,tqz⟩⟩,⟨⟨Ty.k38,Ty.c38,Ty.i38,Ty.z38,rfl⟩,Ty.p38,⟨Ty.f38_0,Ty.f38_1,Ty.f38_2,Ty.f38_3,Ty.f38_4,Ty.f38_5,Ty.f38_6,Ty.f38_7,Ty.f38_8,Ty.f38_9,Ty.f38_10,tqz⟩⟩⟩⟩,⟨⟨⟨⟨Ty.k39,Ty.c39,Ty.i39⟩,Ty.z39,Tryz.underlying39⟩,⟨⟨Ty.k42,Ty.c42,Ty.i42⟩,Ty.z42⟩⟩,⟨⟨⟨Ty.k44,Ty.c44,Ty.i44,Ty.z44,rfl⟩,Ty.p44,⟨Ty.f44_0,Ty.f44_1,tqz⟩⟩,⟨⟨Ty.k45,Ty.c45,Ty.i45⟩,Ty.z45⟩⟩⟩⟩⟩⟩,⟨⟨⟨⟨⟨⟨Ty.k50,Ty.c50,Ty.i50,Ty.z50,rfl⟩,Ty.p50,⟨Ty.f50_0,Ty.f50_1,tqz⟩⟩,⟨⟨⟨Ty.k52,Ty.c52,Ty.i52⟩,Ty.z52,Ty.s52⟩,⟨⟨Ty.k54,Ty.c54,Ty.i54⟩,Ty.z54⟩⟩⟩,⟨⟨⟨⟨Ty.k64,Ty.c64,Ty.i64⟩,Ty.z64⟩,⟨⟨Ty.k67,Ty.c67,Ty.i67⟩,Ty.z67⟩⟩,⟨⟨⟨Ty.k68,Ty.c68,Ty.i68⟩,Ty.z68⟩,⟨⟨Ty.k69,Ty.c69,Ty.i69⟩,Ty.z69⟩⟩⟩⟩,⟨⟨⟨⟨⟨Ty.k74,Ty.c74,Ty.i74,Ty.z74,rfl⟩,Ty.p74,⟨Ty.f74_0,Ty.f74_1,Ty.f74_2,tqz⟩⟩,⟨⟨Ty.k75,Ty.c75,Ty.i75,Ty.z75,rfl⟩,Ty.p75,⟨Ty.f75_0,Ty.f75_1,Ty.f75_2,tqz⟩⟩⟩,⟨⟨⟨Ty.k76,Ty.c76,Ty.i76⟩,Ty.z76⟩,⟨⟨Ty.k78,Ty.c78,Ty.i78⟩,Ty.z78⟩⟩⟩,⟨⟨⟨⟨Ty.k79,Ty.c79,Ty.i79⟩,Ty.z79⟩,⟨⟨Ty.k82,Ty.c82,Ty.i82⟩,Ty.z82,Ty.s82⟩⟩,⟨⟨⟨Ty.k84,Ty.c84,Ty.i84,Ty.z84,rfl⟩,Ty.p84,⟨Ty.f84_0,Ty.f84_1,Ty.f84_2,tqz⟩⟩,⟨⟨Ty.k90,Ty.c90,Ty.i90,Ty.z90,rfl⟩,Ty.p90,⟨Ty.f90_0,Ty.f90_1,Ty.f90_2,Ty.f90_3,tqz⟩⟩⟩⟩⟩⟩,⟨⟨⟨⟨⟨Ty.k97,Ty.c97,Ty.i97,Ty.z97,rfl⟩,Ty.p97,⟨Ty.f97_0,Ty.f97_1,tqz⟩⟩,⟨⟨⟨Ty.k132,Ty.c132,Ty.i132,Ty.z132,rfl⟩,Ty.p132,⟨Ty.f132_0,Ty.f132_1,tqz⟩⟩,⟨⟨Ty.k139,Ty.c139,Ty.i139,Ty.z139,rfl⟩,Ty.p139,⟨Ty.f139_0,Ty.f139_1,tqz⟩⟩⟩⟩,⟨⟨⟨⟨Ty.k157,Ty.c157,Ty.i157,Ty.z157,rfl⟩,Ty.p157,⟨Ty.f157_0,Ty.f157_1,tqz⟩⟩,⟨⟨Ty.k159,Ty.c159,Ty.i159,Ty.z159,rfl⟩,Ty.p159,⟨Ty.f159_0,tqz⟩⟩⟩,⟨⟨⟨Ty.k173,Ty.c173,Ty.i173,Ty.z173,rfl⟩,Ty.p173,tqz⟩,⟨⟨Ty.k175,Ty.c175,Ty.i175⟩,Ty.z175⟩⟩⟩⟩,⟨⟨⟨⟨⟨Ty.k177,Ty.c177,Ty.i177,Ty.z177,rfl⟩,Ty.p177,⟨Ty.f177_0,tqz⟩⟩,⟨⟨Ty.k198,Ty.c198,Ty.i198⟩,Ty.z198,Ty.s198⟩⟩,⟨⟨⟨Ty.k212,Ty.c212,Ty.i212⟩,Ty.z212,Tryz.underlying212⟩,⟨⟨Ty.k213,Ty.c213,Ty.i213⟩,Ty.z213,Tryz.underlying213⟩⟩⟩,⟨⟨⟨⟨Ty.k241,Ty.c241,Ty.i241⟩,Ty.z241,Ty.s241⟩,⟨⟨Ty.k245,Ty.c245,Ty.i245,Ty.z245,rfl⟩,Ty.p245,⟨Ty.f245_0,Ty.f245_1,tqz⟩⟩⟩,⟨⟨⟨Ty.k269,Ty.c269,Ty.i269⟩,Ty.z269⟩,⟨Ty.k270,Ty.c270,Ty.i270,Ty.z270,rfl⟩⟩⟩⟩⟩⟩⟩
section
variable {N n:Nat} {aw aw':List Ob} {l:List (Nat × AV)} {ops:Array Oper} {os:List Oper} {K:List AV→List Ob→Prop} {k:Nat} {li:Array Bool}
theorem go (m c:Nat) (h:wR tyT n m os l aw c fun os l aw=>RS Tryz.prog N ops os K (mkA n l) aw) (hc:aw.length=c:=by rfl):RS Tryz.prog N ops os K (mkA n l) aw:=RS.go eJ hc h
theorem rq (is:List Nat) (k':Nat) (h:wQ tyT n ops.toList is l aw fun l=>RA Tryz.prog N ops k' (lisQ li is) K (mkA n l) aw) (hk:k=k' + is.length:=by rfl) (hs:Region.noSelect ops=true:=by decide +kernel) (ho:okQ ops li is=true:=by decide +kernel):RA Tryz.prog N ops k li K (mkA n l) aw:=RA.qs eJ hs hk ho h
theorem og {i:Nat} (c:Nat) (h:b6 ops.toList i fun o=>o.guard=none/\wE tyT n l aw c o.op fun r aw c=>(match o.dst with
 | some t=>K (mkA n ((t,r)::l)) aw
 | none=>K (mkA n l) aw)) (hc:aw.length=c:=by rfl):RO Tryz.prog N ops i K (mkA n l) aw:=RO.g eJ hc h
variable {o:Oper} {Q:Exit→List AV→List Ob→Prop} {rs:List ResultVar} {V:AV} {obs:List Ob} {M:Nat}
theorem yg (c:Nat) {j t:Nat} {want b:Bool} (hbw:b=want) (h:wE tyT n l aw c o.op fun r aw _=>stD l o.dst r fun l=>RS Tryz.prog N ops os K (mkA n l) aw) (hg:o.guard=some (j,want):=by rfl) (hj:(ops[j]?).bind (·.dst)=some t:=by rfl) (hb:evA n l (.tmp t)=.bool b:=by rfl) (hc:aw.length=c:=by rfl):RS Tryz.prog N ops (o::os) K (mkA n l) aw:=yg' eJ c hbw h hg hj hb hc
theorem oy {i:Nat} (c:Nat) {j t:Nat} {want b:Bool} (hbw:b=want) (hi:ops[i]?=some o) (h:wE tyT n l aw c o.op fun r aw _=>stD l o.dst r fun l=>K (mkA n l) aw) (hg:o.guard=some (j,want):=by rfl) (hj:(ops[j]?).bind (·.dst)=some t:=by rfl) (hb:evA n l (.tmp t)=.bool b:=by rfl) (hc:aw.length=c:=by rfl):RO Tryz.prog N ops i K (mkA n l) aw:=oy' eJ c hbw hi h hg hj hb hc
theorem ry (i:Nat) {j t:Nat} {want b:Bool} (hbw:b=want) (hi:ops[i]?=some o) (h:wV tyT n l aw o.op fun r=>stD l o.dst r fun l=>RA Tryz.prog N ops k (li.setIfInBounds i true) K (mkA n l) aw) (hs:Region.noSelect ops=true:=by decide +kernel) (hf:Region.free .any ops li i=true:=by decide +kernel) (hr:(Region.ready .any ops li).contains i=true:=by decide +kernel) (hg:o.guard=some (j,want):=by rfl) (hj:(ops[j]?).bind (·.dst)=some t:=by rfl) (hb:evA n l (.tmp t)=.bool b:=by rfl) (hn:gN o.op=true:=by rfl):RA Tryz.prog N ops (k+1) li K (mkA n l) aw:=ry' eJ i hbw hi h hs hf hr hg hj hb hn
theorem rL (D:List Nat) (i:Nat) (hi:ops[i]?=some o) (h:wV tyT n l aw o.op fun r=>stD l o.dst r fun l=>RA Tryz.prog N ops k (li.setIfInBounds i true) K (mkA n l) aw) (hs:Region.noSelect ops=true:=by decide +kernel) (hf:RK.loadFree ops li D i=true:=by decide +kernel) (hr:(Region.ready .any ops li).contains i=true:=by decide +kernel) (hg:o.guard=none:=by rfl):RA Tryz.prog N ops (k+1) li K (mkA n l) aw:=rL' eJ D i hi h hs hf hr hg
theorem tD [hq:RetI Q (fun fr aw=>bQ Tryz.prog fr aw rs (Ret 0 (fun r aw'=>r=V/\aw'=[]) aw))] [hV:PureC V] (h:resC tyT n l aw rs fun vs=>iF aw (cJ vs) fun v _=>v=V:=by rfl):T Tryz.prog N .ret Q (mkA n l) aw:=T.rD eJ h
theorem tO (nl:List (Nat × TypeId × Nat)) (ρ:List Nat) (c:Nat) [hq:RetI Q (fun fr aw=>bQ Tryz.prog fr aw rs (Ret M (fun r aw'=>r=V/\aw'=obs) aw))] [g:GoodA 3 V] [g':GoodOs obs] (h:resC tyT n l aw rs fun vs=>nilVC nl vs aw c fun vs aw=>fA (cJ vs) fun a=>mpA ρ 3 V a fun b=>mpOs ρ aw ρ obs fun bs es=>(b,bs)=(a,es):=by rfl) (hc:aw.length=c:=by rfl) (h1:ρ.Nodup:=by decide) (h2:∀ k,k<M->ρ[k]?=some k:=by decide):T Tryz.prog N .ret Q (mkA n l) aw:=T.rO eJ nl ρ c h hc h1 h2
theorem tN (ρ:List Nat) [hq:RetI Q (fun fr aw=>bQ Tryz.prog fr aw rs (Ret M (fun r aw'=>r=V/\aw'=obs) aw))] [g:GoodA 3 V] [g':GoodOs obs] (h:resC tyT n l aw rs fun vs=>iF aw (cJ vs) fun a aw=>mpA ρ 3 V a fun b=>mpOs ρ aw ρ obs fun bs es=>(b,bs)=(a,es):=by rfl) (h1:ρ.Nodup:=by decide) (h2:∀ k,k<M->ρ[k]?=some k:=by decide):T Tryz.prog N .ret Q (mkA n l) aw:=T.rN eJ ρ h h1 h2
variable {fn:Func}
theorem eD (hr:fn.results.toList=rs:=by rfl) [hV:PureC V] (h:resC tyT n l aw rs fun vs=>iF aw (cJ vs) fun v _=>v=V:=by rfl):retQ Tryz.prog fn 0 (fun r aw'=>r=V/\aw'=[]) .normal (mkA n l) aw:=by subst hr;exact rD_c eJ h
theorem eN (ρ:List Nat) (hr:fn.results.toList=rs:=by rfl) [g:GoodA 3 V] [g':GoodOs obs] (h:resC tyT n l aw rs fun vs=>iF aw (cJ vs) fun a aw=>mpA ρ 3 V a fun b=>mpOs ρ aw ρ obs fun bs es=>(b,bs)=(a,es):=by rfl) (h1:ρ.Nodup:=by decide) (h2:∀ k,k<M->ρ[k]?=some k:=by decide):retQ Tryz.prog fn M (fun r aw'=>r=V/\aw'=obs) .normal (mkA n l) aw:=by subst hr;exact rN_c eJ ρ h h1 h2
variable {c:Code} {st:List Fr}
theorem X (f k:Nat) (h:gx false tyT Tryz.prog N n Q f (.cd c) st l aw k) (hk:aw.length=k:=by rfl):T Tryz.prog N c (qs Tryz.prog N st Q) (mkA n l) aw:=gj eJ hk h
theorem Y (f k:Nat) (h:gx false tyT Tryz.prog N n Q f (.op ops os) st l aw k) (hk:aw.length=k:=by rfl):RS Tryz.prog N ops os (qs Tryz.prog N st Q .normal) (mkA n l) aw:=gj eJ hk h
theorem Yp (f k:Nat) (h:gx true tyT Tryz.prog N n Q f (.op ops os) st l aw k) (hk:aw.length=k:=by rfl):RS Tryz.prog N ops os (qs Tryz.prog N st Q .normal) (mkA n l) aw:=gj eJ hk h
theorem fT {f:FuncId} {fn:Func} {args:List AV} {QF:AV->List Ob->Prop} {m:Nat} (N q:Nat) (hf:Tryz.prog.funcs[f]?=some fn) (hm:fn.ntmps=m) (hb:fn.body=some c) (h:iniC 0 args fun l=>gx false tyT Tryz.prog N m (retQ Tryz.prog fn N QF) q (.cd c) [] l aw N) (hN:aw.length=N:=by rfl) (hname:(fn.name == "runtime.NumGoroutine")=false:=by kernel_rfl) (hl:Nat.ble args.length m=true:=by rfl):ACalls Tryz.prog f args aw QF:=fX eJ N q hf hm h hb hN hname hl
end
end
section
open Go.RowKit
set_option maxRecDepth 100000
set_option maxHeartbeats 4000000
set_option synthInstance.maxSize 100000
set_option synthInstance.maxHeartbeats 4000000
theorem DY {p0 p1:Int} {r:Int × Int} (h:t9 p0 p1=some r):Fn Tryz.prog 203 [.int .u64 p0,.int .u64 p1] (.tup [.int .u64 r.1,.int .u64 r.2]):=by
 unfold t9 at h;refine fT 0 0 Tryz.func203 Tryz.ntmps203 rfl ?_;refine B h fun x2 hx2 h=>(X 14 0 (sQ (iE rfl rfl hx2 (B h fun x4 hx4 h=>(Y 11 0 (sQ (iE rfl rfl hx4 (B h fun x6 hx6 h=>(Y 15 0 (sQ (iE rfl rfl hx6 (B h fun x8 hx8 h=>?_))))))))))))
 refine Y 12 0 (sQ (iE rfl rfl hx8 (B h fun x10 bf h=>(Y 19 0 (sQ (iE rfl rfl bf (Y 10 0 ?_)))))));cases h;exact tD
theorem Eb {p0 p1:Int} {r:Int × Int} (h:rV p0 p1=some r):Fn Tryz.prog 199 [.int .u64 p0,.int .u64 p1] (.tup [.int .u64 r.1,.int .u64 r.2]):=by
 unfold rV at h;refine fT 0 0 Tryz.func199 Tryz.ntmps199 rfl ?_;refine B h fun x2 hx2 h=>(X 12 0 (sO (cF (DY hx2) ⟨rfl,(Y 13 0 ?_)⟩)))
 cases h;exact tD
theorem DC {p0:List Ends} {p1:Int} {r:List Ends} (h:pu p0 p1=some r):FnO Tryz.prog 185 [sL bg p0,iI p1] (.ref 0) [aR 245 2 bg r]:=by
 unfold pu at h;refine fT 0 10 Tryz.func185 Tryz.ntmps185 rfl (T.ci h rfl (fun ah h=>?_) (fun ah h=>?_))
 ·cases h
 refine B h fun x2 hx2 h=>(X 4 0 (sQ (ak Ty.s241 rfl (Y 3 0 (sO (cF (Eb hx2) ⟨rfl,(Y 7 0 (j1 [(0,sL bg p0),(6,.int .u64 x2.2),(26,.bool ((decide (x2.1 > 0)) || decide (x2.2 > 9223372036854775807)))] [] ?_ (fun hK=>?_)))⟩))))))
 ·refine T.ci h rfl (fun ao h=>?_) (fun ao h=>?_)
  ·cases h
  refine B h fun x5 hx5 h=>(X 5 0 (sO (o_mk (en:=bg) (zr:=(⟨0,0⟩:Ends)) Ty.s241 Ty.z245 rfl rfl hx5 rfl rfl (Y 6 1 (sO (F5 (en:=bg) (xs:=x5) (ys:=p0) Ty.s241 (fun _=>rfl) rfl rfl rfl rfl (Y 4 1 (itr (fun gr:Int × (List Ends)=>mkA 48 [(7,.ref 0),(8,iI gr.1)]) (fun gr=>[aR 245 2 bg gr.2]) h (wk [] [0] 1 rfl) (fun gr v_9 h LI=>?_)))))))))
  obtain ⟨s6,s7⟩:=gr;replace h:jK s6 s7=some v_9:=h;try dsimp only
  unfold jK at h;refine X 5 1 (sQ (dD (en:=bg) Ty.s241 rfl rfl (Y 2 1 (T.ci h rfl (fun fq h=>?_) (fun fq h=>?_)))))
  ·refine B h fun x8 hx8 h=>(B h fun x9 hx9 h=>(B h fun x10 bf h=>(B h fun x11 bI h=>(X 2 1 (T.drawn mixed (k:=10) rfl ?_)))))
   apply RA.jn 3 (bm 10 127);intro cX
   ·refine rq [0,1,2,4,5] 5 (ra2 3 6 ?_ ?_)
    ·exact oO rfl (ki (en:=bg) (xs:=s7) Ty.s241 rfl rfl rfl rfl hx8 (ra1 6 (oO rfl (ki (en:=bg) (xs:=s7) Ty.s241 rfl rfl rfl rfl hx9 (raE cX)))))
    ·exact oO rfl (ki (en:=bg) (xs:=s7) Ty.s241 rfl rfl rfl rfl hx9 (ra1 3 (oO rfl (ki (en:=bg) (xs:=s7) Ty.s241 rfl rfl rfl rfl hx8 (raT cX)))))
   exact ra1 7 (oO rfl (Hd (en:=bg) (xs:=s7) Ty.s241 (fun _=>rfl) rfl rfl rfl bf bI rfl (rq [8,9] 0 (RA.done (by decide +kernel) (lk h (wk [] [0] 1 rfl))))))
  refine X 1 1 ?_;replace h:=mi h LI;refine X 5 1 ?_;cases h;exact tO [] [0] 1
 refine X 5 0 (gp 23 (fun ae=>?_) (fun ae=>?_))
 ·refine Yp 4 0 ?_;rw [ae] at hK;exact sx hK
 refine Yp 4 0 ?_;rw [ae] at hK;exact sx hK
theorem E6 {p0:Int} {r:Int × Int × Bool} (h:qn p0=some r):Fn Tryz.prog 186 [iI p0] (.tup [iI r.1,iI r.2.1,.bool r.2.2]):=by
 unfold qn at h;refine fT 0 17 Tryz.func186 Tryz.ntmps186 rfl (T.ci h rfl (fun ah h=>?_) (fun ah h=>?_))
 ·refine X 6 0 ?_;cases h;exact tD
 refine jn (Z:=Bool) (fun oN=>mkA 19 [(5,iI p0),(8,.bool oN)]) (fun oN=>[]) (fun oN=>lA p0 oN=some r) (fun oN h=>?_) (fun hK2=>?_)
 ·revert h;revert oN;intro z1 h;replace h:lA p0 z1=some r:=h;try dsimp only
  unfold lA at h;refine T.ci h rfl (fun aK h=>?_) (fun aK h=>?_)
  ·refine X 6 0 ?_;cases h;exact tD
  refine jn (Z:=Bool) (fun oQ=>mkA 19 [(5,iI p0),(12,.bool oQ)]) (fun oQ=>[]) (fun oQ=>nD p0 oQ=some r) (fun oQ h=>?_) (fun hK1=>?_)
  ·revert h;revert oQ;intro z2 h;replace h:nD p0 z2=some r:=h;try dsimp only
   unfold nD at h;refine T.ci h rfl (fun bj h=>?_) (fun bj h=>?_)
   ·refine X 6 0 ?_;cases h;exact tD
   refine X 5 0 (T.ci h rfl (fun bM h=>?_) (fun bM h=>?_))
   ·refine X 6 0 ?_;cases h;exact tD
   refine X 5 0 (T.ci h rfl (fun fq h=>?_) (fun fq h=>?_))
   ·refine X 6 0 ?_;cases h;exact tD
   refine X 7 0 ?_;cases h;exact tD
  refine X 6 0 (T.ci h rfl (fun qZ h=>?_) (fun qZ h=>?_))
  ·exact X 1 0 (wu (hK1 (p0==5) h) [] [] 0 rfl)
  exact X 4 0 (wu (hK1 (p0==7) h) [] [] 0 rfl)
 refine X 6 0 (T.ci h rfl (fun jy h=>?_) (fun jy h=>?_))
 ·exact X 1 0 (wu (hK2 (p0==2) h) [] [] 0 rfl)
 refine X 5 0 (T.ci h rfl (fun q4 h=>?_) (fun q4 h=>?_))
 ·exact X 1 0 (wu (hK2 (p0==3) h) [] [] 0 rfl)
 exact X 4 0 (wu (hK2 (p0==4) h) [] [] 0 rfl)
theorem yp {p0 p1:Int} {r:Bool} (h:oh p0 p1=some r):Fn Tryz.prog 187 [iI p0,iI p1] (.bool r):=by
 unfold oh at h;refine fT 0 4 Tryz.func187 Tryz.ntmps187 rfl (j1 [(4,.bool ((p0==p1) || ((decide (p1<0)) && decide (p0 > 0))))] [] ?_ (fun hK=>?_))
 ·cases h;exact tD
 refine X 6 0 (gp 8 (fun ah=>?_) (fun ah=>?_))
 ·refine Yp 9 0 ?_;rw [ah] at hK;exact sx hK
 refine Y 3 0 (gp 11 (fun ae=>?_) (fun ae=>?_))
 ·refine Yp 6 0 ?_;rw [ah] at hK;rw [ae] at hK;exact sx hK
 refine Yp 6 0 ?_;rw [ah] at hK;rw [ae] at hK;exact sx hK
theorem Fs {p0:Net} {r:(List Ends) × Int} (h:qv p0=some r):FnO Tryz.prog 157 [.agg (aN p0)] (.tup [.ref 0,iI r.2]) [aR 245 2 bg r.1]:=by
 unfold qv at h;refine fT 0 7 Tryz.func157 Tryz.ntmps157 rfl (j1 [(1,.ptr 0 0),(36,.bool ((decide (((p0.Nodes).length:Int)<1)) || ((decide (((p0.Nodes).length:Int) > 12)) || ((decide (p0.Rings<0)) || decide (p0.Rings > 16)))))] [.box (aN p0)] ?_ (fun hK=>?_))
 ·refine T.ci h rfl (fun aC h=>?_) (fun aC h=>?_)
  ·refine X 5 1 ?_;cases h;exact tO [(0,245,2)] [1] 1
  refine X 2 1 (j1 [(1,.ptr 0 0),(44,.bool ((decide (p0.Room<1)) || decide (p0.Room > 6)))] [.box (aN p0)] ?_ (fun hK=>?_))
  ·refine T.ci h rfl (fun aS h=>?_) (fun aS h=>?_)
   ·refine X 5 1 ?_;cases h;exact tO [(0,245,2)] [1] 1
   refine B h fun x4 hx4 h=>(X 4 1 (sO (bn (rows:=List.map bg [(⟨(-1),(-1)⟩:Ends)]) (vs:=[.agg [iI (-1),iI (-1)]]) Ty.s241 Ty.z245 rfl rfl rfl rfl rfl rfl (Y 2 2 (sO (cO 2 (DC hx4) ⟨rfl,(Y 11 3 (sQ (ak Ty.s22 rfl (Y 3 3 (itr (fun iz:Int × Int × (List Ends)=>mkA 197 [(1,.ptr 0 0),(4,.ref 1),(5,iI iz.1),(51,sL aq p0.Nodes),(52,iI ((p0.Nodes).length:Int)),(53,iI iz.2.1)]) (fun iz=>[.box (aN p0),aR 245 2 bg iz.2.2]) h (wk [] [0,2] 3 rfl) (fun iz v_124 h kJ=>?_))))))⟩))))))
   obtain ⟨s5,s6,s7⟩:=iz;replace h:j5 p0 s5 s6 s7=some v_124:=h;try dsimp only
   unfold j5 at h;refine X 5 2 (T.ci h rfl (fun KL h=>?_) (fun KL h=>?_))
   ·refine B h fun x9 hx9 h=>(X 6 2 (sQ (aD Ty.s22 (fun _=>rfl) rfl rfl hx9 (B h fun x11 bI h=>(Y 9 2 (sO (cF (E6 bI) ⟨rfl,(Y 14 3 (T.ci h rfl (fun KM h=>?_) (fun KM h=>?_)))⟩)))))))
    ·refine X 5 3 ?_;replace h:=mi h kJ;cases h;exact tO [(0,245,2)] [3] 3
    refine B h fun x12 bv h=>(X 2 3 ?_)
    obtain ⟨KN,hz,h⟩:=bind_some h;revert hz h;revert KN;intro c14 hz h;refine j1 [(1,.ptr 0 0),(4,.ref 1),(5,iI s5),(6,iI s6),(7,.ptr 2 0),(51,sL aq p0.Nodes),(52,iI ((p0.Nodes).length:Int)),(53,iI s6),(80,.bool c14)] [.box (aN p0),aR 245 2 bg s7,.box (aq x9)] ?_ (fun hK=>?_)
    ·refine T.ci h rfl (fun KO h=>?_) (fun KO h=>?_)
     ·refine X 5 3 ?_;replace h:=mi h kJ;cases h;exact tO [(0,245,2)] [3] 3
     refine X 2 3 (j1 [(1,.ptr 0 0),(4,.ref 1),(5,iI s5),(6,iI s6),(7,.ptr 2 0),(51,sL aq p0.Nodes),(52,iI ((p0.Nodes).length:Int)),(53,iI s6),(118,.bool ((decide (x9.A<0)) || (if (x9.Kind==1)=true then ((decide (x9.A >= 4)) || (if (x9.Kind==2)=true then ((decide (x9.A > 3)) || ((x9.Kind != 1) && ((x9.Kind != 2) && x9.A != 0))) else ((x9.Kind != 1) && ((x9.Kind != 2) && x9.A != 0)))) else (if (x9.Kind==2)=true then ((decide (x9.A > 3)) || ((x9.Kind != 1) && ((x9.Kind != 2) && x9.A != 0))) else ((x9.Kind != 1) && ((x9.Kind != 2) && x9.A != 0))))))] [.box (aN p0),aR 245 2 bg s7,.box (aq x9)] ?_ (fun hK=>?_))
     ·refine T.ci h rfl (fun KP h=>?_) (fun KP h=>?_)
      ·refine X 5 3 ?_;replace h:=mi h kJ;cases h;exact tO [(0,245,2)] [3] 3
      refine X 1 3 (jn (Z:=Int) (fun oF=>mkA 197 [(1,.ptr 0 0),(4,.ref 1),(5,iI oF),(6,iI s6),(7,.ptr 2 0),(51,sL aq p0.Nodes),(52,iI ((p0.Nodes).length:Int)),(53,iI s6)]) (fun oF=>[.box (aN p0),aR 245 2 bg s7,.box (aq x9)]) (fun oF=>lG p0 s6 s7 x9 oF=some v_124) (fun oF h=>?_) (fun hK3=>?_))
      ·revert h;revert oF;intro z15 h;replace h:lG p0 s6 s7 x9 z15=some v_124:=h;try dsimp only
       unfold lG at h;refine X 5 3 (sQ (ak Ty.s27 rfl (Y 3 3 (itr (fun kH:Int × (List Ends)=>mkA 197 [(1,.ptr 0 0),(4,.ref 1),(5,iI z15),(6,iI s6),(7,.ptr 2 0),(51,sL aq p0.Nodes),(52,iI ((p0.Nodes).length:Int)),(53,iI s6),(125,sL aj x9.In),(126,iI ((x9.In).length:Int)),(127,iI kH.1)]) (fun kH=>[.box (aN p0),aR 245 2 bg kH.2,.box (aq x9)]) h (wk [] [0,1,2] 3 rfl) (fun kH v_160 h vU=>?_)))));obtain ⟨s16,s17⟩:=kH;replace h:j6 p0 s6 x9 z15 s16 s17=some v_160:=h;try dsimp only
       unfold j6 at h;refine X 5 3 (T.ci h rfl (fun KQ h=>?_) (fun KQ h=>?_))
       ·refine B h fun x19 dz h=>(X 5 3 (sQ (aD Ty.s27 (fun _=>rfl) rfl rfl dz (Y 4 3 (j1 [(1,.ptr 0 0),(4,.ref 1),(5,iI z15),(6,iI s6),(7,.ptr 2 0),(12,iI x19),(51,sL aq p0.Nodes),(52,iI ((p0.Nodes).length:Int)),(53,iI s6),(125,sL aj x9.In),(126,iI ((x9.In).length:Int)),(127,iI s16),(138,.bool ((decide (x19<0)) || decide (x19 >= p0.Rings)))] [.box (aN p0),aR 245 2 bg s17,.box (aq x9)] ?_ (fun hK=>?_))))))
        ·refine T.ci h rfl (fun KR h=>?_) (fun KR h=>?_)
         ·refine X 5 3 ?_;replace h:=mi h vU;replace h:=mi h kJ;cases h;exact tO [(0,245,2)] [3] 3
         refine B h fun x23 eA h=>(B h fun x24 d7 h=>(X 6 3 (sQ (aO (en:=bg) Ty.s241 rfl rfl rfl eA (Y 1 3 (sO (aZ (en:=bg) (a:=x24) rfl rfl d7 (aJ Ty.k3 (c:=iI x24.dst) rfl (Y 2 3 (T.ci h rfl (fun KS h=>?_) (fun KS h=>?_)))))))))))
         ·refine X 5 3 ?_;replace h:=mi h vU;replace h:=mi h kJ;cases h;exact tO [(0,245,2)] [3] 3
         exact B h fun x25 mP h=>(B h fun x26 fY h=>(X 5 3 (sQ (aO (en:=bg) Ty.s241 rfl rfl rfl mP (Y 1 3 (sO (eR (en:=bg) (a:=x26) (a':=(⟨x26.src,s6⟩:Ends)) Ty.c3 Ty.i3 rfl (vs:=[iI s6]) rfl rfl rfl fY rfl rfl rfl (Y 5 3 (lk h (wk [] [0,1,2] 3 rfl))))))))))
        refine X 5 3 (gp 133 (fun vV=>?_) (fun vV=>?_))
        ·refine Yp 6 3 ?_;rw [vV] at hK;exact sx hK
        refine Yp 6 3 ?_;rw [vV] at hK;exact sx hK
       refine X 1 3 ?_;replace h:=mi h vU;refine X 4 3 (sQ (ak Ty.s27 rfl (Y 3 3 (itr (fun kG:Int × (List Ends)=>mkA 197 [(1,.ptr 0 0),(4,.ref 1),(5,iI z15),(6,iI s6),(51,sL aq p0.Nodes),(52,iI ((p0.Nodes).length:Int)),(53,iI s6),(152,sL aj x9.Out),(153,iI ((x9.Out).length:Int)),(154,iI kG.1)]) (fun kG=>[.box (aN p0),aR 245 2 bg kG.2]) h (wk [] [0,1] 3 rfl) (fun kG v_179 h vW=>?_)))));obtain ⟨s27,s28⟩:=kG;replace h:ka p0 s6 x9 z15 s27 s28=some v_179:=h;try dsimp only
       unfold ka at h;refine X 5 2 (T.ci h rfl (fun KT h=>?_) (fun KT h=>?_))
       ·refine B h fun x30 fZ h=>(X 5 2 (sQ (aD Ty.s27 (fun _=>rfl) rfl rfl fZ (Y 4 2 (j1 [(1,.ptr 0 0),(4,.ref 1),(5,iI z15),(6,iI s6),(14,iI x30),(51,sL aq p0.Nodes),(52,iI ((p0.Nodes).length:Int)),(53,iI s6),(152,sL aj x9.Out),(153,iI ((x9.Out).length:Int)),(154,iI s27),(165,.bool ((decide (x30<0)) || decide (x30 >= p0.Rings)))] [.box (aN p0),aR 245 2 bg s28] ?_ (fun hK=>?_))))))
        ·refine T.ci h rfl (fun KU h=>?_) (fun KU h=>?_)
         ·refine X 5 2 ?_;replace h:=mi h vW;replace h:=mi h kJ;cases h;exact tO [(0,245,2)] [2] 2
         refine B h fun x34 iK h=>(B h fun x35 kV h=>(X 6 2 (sQ (aO (en:=bg) Ty.s241 rfl rfl rfl iK (Y 1 2 (sO (aZ (en:=bg) (a:=x35) rfl rfl kV (aJ Ty.k3 (c:=iI x35.src) rfl (Y 2 2 (T.ci h rfl (fun KW h=>?_) (fun KW h=>?_)))))))))))
         ·refine X 5 2 ?_;replace h:=mi h vW;replace h:=mi h kJ;cases h;exact tO [(0,245,2)] [2] 2
         exact B h fun x36 wj h=>(B h fun x37 wl h=>(X 5 2 (sQ (aO (en:=bg) Ty.s241 rfl rfl rfl wj (Y 1 2 (sO (eR (en:=bg) (a:=x37) (a':=(⟨s6,x37.dst⟩:Ends)) Ty.c3 Ty.i3 rfl (vs:=[iI s6]) rfl rfl rfl wl rfl rfl rfl (Y 5 2 (lk h (wk [] [0,1] 2 rfl))))))))))
        refine X 5 2 (gp 160 (fun vX=>?_) (fun vX=>?_))
        ·refine Yp 6 2 ?_;rw [vX] at hK;exact sx hK
        refine Yp 6 2 ?_;rw [vX] at hK;exact sx hK
       refine X 1 2 ?_;replace h:=mi h vW;exact X 4 2 (lk h (wk [] [0,1] 2 rfl))
      refine X 7 3 (T.ci h rfl (fun KX h=>?_) (fun KX h=>?_))
      ·exact X 5 3 (wu (hK3 (IntKind.i64.wrap (s5+1)) h) [] [0,1,2] 3 rfl)
      exact X 1 3 (sx (hK3 s5 h))
     refine X 6 3 ?_;rcases bp (decide (x9.A<0)) with cV | cV
     ·exact gT 84 cV (Yp 35 3 (T.sub hK ⟨rfl,rfl,rfl,rfl,rfl,rfl,rfl,rfl,(congrArg AV.bool (by simp only [cV,bz,if_true,if_false,L2])).symm,tqz⟩))
     refine yg 3 cV (yg 3 cV (yg 3 cV (yg 3 cV ?_)));rcases bp (x9.Kind==1) with dh | dh
     ·refine yg 3 dh (yg 3 dh (yg 3 dh (yQ cV (bi (v:=.bool (decide (x9.A >= 4))) rfl dh rfl (sQ (ba (v:=.bool (decide (x9.A >= 4))) rfl cV rfl (Y 1 3 ?_)))))));rcases bp (decide (x9.A >= 4)) with eo | eo
      ·exact gT 94 eo (Yp 25 3 (T.sub hK ⟨rfl,rfl,rfl,rfl,rfl,rfl,rfl,rfl,(congrArg AV.bool (by simp only [cV,dh,eo,bz,if_true,if_false,L2])).symm,tqz⟩))
      refine yg 3 eo (yg 3 eo (yg 3 eo (yg 3 eo ?_)));rcases bp (x9.Kind==2) with eZ | eZ
      ·refine yg 3 eZ (yg 3 eZ (yg 3 eZ (yQ eo (bi (v:=.bool (decide (x9.A > 3))) rfl eZ rfl (sQ (ba (v:=.bool (decide (x9.A > 3))) rfl eo rfl (Y 1 3 ?_)))))));rcases bp (decide (x9.A > 3)) with fe | fe
       ·exact gT 104 fe (Yp 15 3 (T.sub hK ⟨rfl,rfl,rfl,rfl,rfl,rfl,rfl,rfl,(congrArg AV.bool (by simp only [cV,dh,eo,eZ,fe,bz,if_true,if_false,L2])).symm,tqz⟩))
       refine yg 3 fe (yg 3 fe (yg 3 fe (yg 3 fe ?_)));rcases bp (x9.Kind != 1) with jq | jq
       ·refine yg 3 jq (yg 3 jq (yg 3 jq (yQ fe (bi (v:=.bool (x9.Kind != 2)) rfl jq rfl (yg 3 fe ?_)))));rcases bp (x9.Kind != 2) with qV | qV
        ·exact gT 113 qV (Y 3 3 (gF 104 fe (Yp 3 3 (T.sub hK ⟨rfl,rfl,rfl,rfl,rfl,rfl,rfl,rfl,(congrArg AV.bool (by simp only [cV,dh,eo,eZ,fe,jq,qV,bz,if_true,if_false,L2])).symm,tqz⟩))))
        exact gF 113 qV (Y 3 3 (gF 104 fe (Yp 3 3 (T.sub hK ⟨rfl,rfl,rfl,rfl,rfl,rfl,rfl,rfl,(congrArg AV.bool (by simp only [cV,dh,eo,eZ,fe,jq,qV,bz,if_true,if_false,L2])).symm,tqz⟩))))
       exact gF 108 jq (Y 3 3 (gF 104 fe (Yp 8 3 (T.sub hK ⟨rfl,rfl,rfl,rfl,rfl,rfl,rfl,rfl,(congrArg AV.bool (by simp only [cV,dh,eo,eZ,fe,jq,bz,if_true,if_false,L2])).symm,tqz⟩))))
      refine sN eZ (sN eZ (sN eZ (yQ eo (ba (v:=.bool false) rfl eZ rfl (sQ (ba (v:=.bool false) rfl eo rfl (Y 1 3 (yg 3 rfl (yg 3 rfl (yg 3 rfl (yg 3 rfl ?_)))))))))));rcases bp (x9.Kind != 1) with jr | jr
      ·refine yg 3 jr (yg 3 jr (yg 3 jr (yQ rfl (bi (v:=.bool (x9.Kind != 2)) rfl jr rfl (yg 3 rfl ?_)))));rcases bp (x9.Kind != 2) with qW | qW
       ·exact gT 113 qW (Yp 6 3 (T.sub hK ⟨rfl,rfl,rfl,rfl,rfl,rfl,rfl,rfl,(congrArg AV.bool (by simp only [cV,dh,eo,eZ,jr,qW,bz,if_true,if_false,L2])).symm,tqz⟩))
       exact gF 113 qW (Yp 6 3 (T.sub hK ⟨rfl,rfl,rfl,rfl,rfl,rfl,rfl,rfl,(congrArg AV.bool (by simp only [cV,dh,eo,eZ,jr,qW,bz,if_true,if_false,L2])).symm,tqz⟩))
      exact gF 108 jr (Yp 11 3 (T.sub hK ⟨rfl,rfl,rfl,rfl,rfl,rfl,rfl,rfl,(congrArg AV.bool (by simp only [cV,dh,eo,eZ,jr,bz,if_true,if_false,L2])).symm,tqz⟩))
     refine sN dh (sN dh (sN dh (yQ cV (ba (v:=.bool false) rfl dh rfl (sQ (ba (v:=.bool false) rfl cV rfl (Y 1 3 (yg 3 rfl (yg 3 rfl (yg 3 rfl (yg 3 rfl ?_)))))))))));rcases bp (x9.Kind==2) with e6 | e6
     ·refine yg 3 e6 (yg 3 e6 (yg 3 e6 (yQ rfl (bi (v:=.bool (decide (x9.A > 3))) rfl e6 rfl (sQ (ba (v:=.bool (decide (x9.A > 3))) rfl rfl rfl (Y 1 3 ?_)))))));rcases bp (decide (x9.A > 3)) with ff | ff
      ·exact gT 104 ff (Yp 15 3 (T.sub hK ⟨rfl,rfl,rfl,rfl,rfl,rfl,rfl,rfl,(congrArg AV.bool (by simp only [cV,dh,e6,ff,bz,if_true,if_false,L2])).symm,tqz⟩))
      refine yg 3 ff (yg 3 ff (yg 3 ff (yg 3 ff ?_)));rcases bp (x9.Kind != 1) with jt | jt
      ·refine yg 3 jt (yg 3 jt (yg 3 jt (yQ ff (bi (v:=.bool (x9.Kind != 2)) rfl jt rfl (yg 3 ff ?_)))));rcases bp (x9.Kind != 2) with qX | qX
       ·exact gT 113 qX (Y 3 3 (gF 104 ff (Yp 3 3 (T.sub hK ⟨rfl,rfl,rfl,rfl,rfl,rfl,rfl,rfl,(congrArg AV.bool (by simp only [cV,dh,e6,ff,jt,qX,bz,if_true,if_false,L2])).symm,tqz⟩))))
       exact gF 113 qX (Y 3 3 (gF 104 ff (Yp 3 3 (T.sub hK ⟨rfl,rfl,rfl,rfl,rfl,rfl,rfl,rfl,(congrArg AV.bool (by simp only [cV,dh,e6,ff,jt,qX,bz,if_true,if_false,L2])).symm,tqz⟩))))
      exact gF 108 jt (Y 3 3 (gF 104 ff (Yp 8 3 (T.sub hK ⟨rfl,rfl,rfl,rfl,rfl,rfl,rfl,rfl,(congrArg AV.bool (by simp only [cV,dh,e6,ff,jt,bz,if_true,if_false,L2])).symm,tqz⟩))))
     refine sN e6 (sN e6 (sN e6 (yQ rfl (ba (v:=.bool false) rfl e6 rfl (sQ (ba (v:=.bool false) rfl rfl rfl (Y 1 3 (yg 3 rfl (yg 3 rfl (yg 3 rfl (yg 3 rfl ?_)))))))))));rcases bp (x9.Kind != 1) with ju | ju
     ·refine yg 3 ju (yg 3 ju (yg 3 ju (yQ rfl (bi (v:=.bool (x9.Kind != 2)) rfl ju rfl (yg 3 rfl ?_)))));rcases bp (x9.Kind != 2) with qY | qY
      ·exact gT 113 qY (Yp 6 3 (T.sub hK ⟨rfl,rfl,rfl,rfl,rfl,rfl,rfl,rfl,(congrArg AV.bool (by simp only [cV,dh,e6,ju,qY,bz,if_true,if_false,L2])).symm,tqz⟩))
      exact gF 113 qY (Yp 6 3 (T.sub hK ⟨rfl,rfl,rfl,rfl,rfl,rfl,rfl,rfl,(congrArg AV.bool (by simp only [cV,dh,e6,ju,qY,bz,if_true,if_false,L2])).symm,tqz⟩))
     exact gF 108 ju (Yp 11 3 (T.sub hK ⟨rfl,rfl,rfl,rfl,rfl,rfl,rfl,rfl,(congrArg AV.bool (by simp only [cV,dh,e6,ju,bz,if_true,if_false,L2])).symm,tqz⟩))
    refine X 4 3 (sQ (ak Ty.s27 rfl (Y 1 3 (sO (cF (yp bv) ⟨rfl,(Y 2 3 (gi 73 hz (fun KY hz=>?_) (fun KY hz=>?_)))⟩)))))
    ·refine Yp 8 3 ?_;cases hz;exact sx hK
    refine B hz fun x13 dJ hz=>(Y 2 3 (yQ rfl (ak Ty.s27 rfl (Y 1 3 (yO rfl (cF (yp dJ) ⟨rfl,(Yp 3 3 ?_)⟩))))))
    cases hz;exact sx hK
   refine X 1 2 ?_;replace h:=mi h kJ;refine X 4 2 (sQ (dD (en:=bg) Ty.s241 rfl rfl (Y 3 2 (itr (fun oD:Int=>mkA 197 [(4,.ref 0),(5,iI s5),(179,.ref 0),(180,iI ((s7).length:Int)),(181,iI oD)]) (fun oD=>[aR 245 2 bg s7]) h (wk [] [1] 2 rfl) (fun oD v_198 h tH=>?_)))));revert tH h;revert oD;intro s38 h tH;replace h:lI s5 s7 s38=some v_198:=h;try dsimp only
   unfold lI at h;refine X 5 1 (T.ci h rfl (fun KZ h=>?_) (fun KZ h=>?_))
   ·refine B h fun x41 oR h=>(B h fun x42 jB h=>(X 5 1 (sQ (aO (en:=bg) Ty.s241 rfl rfl rfl oR (sO (aZ (en:=bg) (a:=x42) rfl rfl jB (ic Ty.k245 Ty.c245 rfl (cs:=(bg x42)) rfl (Y 3 1 (j1 [(4,.ref 0),(5,iI s5),(179,.ref 0),(180,iI ((s7).length:Int)),(181,iI s38),(192,.bool ((decide (x42.src<0)) || decide (x42.dst<0)))] [aR 245 2 bg s7] ?_ (fun hK=>?_))))))))))
    ·refine T.ci h rfl (fun K0 h=>?_) (fun K0 h=>?_)
     ·refine X 5 1 ?_;replace h:=mi h tH;cases h;exact tO [(0,245,2)] [1] 1
     exact X 5 1 (lk h (wk [] [0] 1 rfl))
    refine X 6 2 (gp 188 (fun vY=>?_) (fun vY=>?_))
    ·refine Yp 5 2 ?_;rw [vY] at hK;exact wu hK [] [0] 2 rfl
    refine Yp 5 2 ?_;rw [vY] at hK;exact wu hK [] [0] 2 rfl
   refine X 1 1 ?_;replace h:=mi h tH;refine X 6 1 (T.ci h rfl (fun K1 h=>?_) (fun K1 h=>?_))
   ·refine X 5 1 ?_;cases h;exact tO [(0,245,2)] [1] 1
   refine X 7 1 ?_;cases h;exact tO [] [0] 1
  refine X 6 1 (gp 40 (fun aK=>?_) (fun aK=>?_))
  ·refine Yp 5 1 ?_;rw [aK] at hK;exact sx hK
  refine Yp 5 1 ?_;rw [aK] at hK;exact sx hK
 refine X 4 1 (sQ (ak Ty.s22 rfl (Y 2 1 (gp 21 (fun ah=>?_) (fun ah=>?_)))))
 ·refine Yp 16 1 ?_;rw [ah] at hK;exact sx hK
 refine Y 2 1 (yQ rfl (ak Ty.s22 rfl (Yp 3 1 (gp 27 (fun ae=>?_) (fun ae=>?_)))))
 ·refine Yp 10 1 ?_;rw [ah] at hK;rw [ae] at hK;exact sx hK
 refine Yp 5 1 (gp 32 (fun ao=>?_) (fun ao=>?_))
 ·refine Yp 5 1 ?_;rw [ah] at hK;rw [ae] at hK;rw [ao] at hK;exact sx hK
 refine Yp 5 1 ?_;rw [ah] at hK;rw [ae] at hK;rw [ao] at hK;exact sx hK
theorem DM {p0:Int} {p1:List Bool} {p2:List Ends} {r:Bool} (h:pA p0 p1 p2=some r):FnX Tryz.prog 158 [iI p0,.ptr 0 0,.ptr 1 0] [.box [.ref 2],.box [.ref 3],aR 4 1 cC p1,aR 245 2 bg p2] (.bool r) [.box [.ref 2],.box [.ref 3],aR 4 1 cC p1,aR 245 2 bg p2]:=by
 unfold pA at h;refine fT 4 0 Tryz.func158 Tryz.ntmps158 rfl ?_;refine B h fun x5 hx5 h=>(B h fun x6 hx6 h=>(B h fun x7 hx7 h=>(B h fun x8 hx8 h=>(X 5 4 (T.drawn mixed (k:=10) rfl (rq [2] 9 (rL [1,3,4,5,6,7,8,9] 1 rfl (r0 3 rfl (aO (en:=bg) Ty.s241 rfl rfl rfl hx5 (rq [4] 6 ?_))))))))))
 refine rL [0,6,7,8,9] 0 rfl (ra1 5 (oO rfl (aZ (en:=bg) (a:=x6) rfl rfl hx6 (aJ Ty.k3 (c:=iI x6.src) rfl (r0 6 rfl (aO (en:=cC) Ty.s198 rfl rfl rfl hx7 (ra1 7 (oO rfl (aZ (en:=cC) (a:=x8) rfl rfl hx8 (aJ Ty.k4 (c:=.bool x8) rfl (rq [8,9] 0 (RA.done (by decide +kernel) ?_))))))))))));cases h;exact tN [0,1,2,3]
theorem Do {p0:List Int} {p1:List Bool} {p2:List Ends} {r:Int} (h:rB p0 p1 p2=some r):FnX Tryz.prog 159 [sL aj p0,.func 158 [.ptr 0 0,.ptr 1 0]] [.box [.ref 2],.box [.ref 3],aR 4 1 cC p1,aR 245 2 bg p2] (iI r) [.box [.ref 2],.box [.ref 3],aR 4 1 cC p1,aR 245 2 bg p2]:=by
 unfold rB at h;refine fT 4 8 Tryz.func159 Tryz.ntmps159 rfl (sQ (ak Ty.s27 rfl (Y 3 4 (itr (fun al:Int=>mkA 19 [(0,sL aj p0),(1,.func 158 [.ptr 0 0,.ptr 1 0]),(7,iI ((p0).length:Int)),(8,iI al)]) (fun al=>[.box [.ref 2],.box [.ref 3],aR 4 1 cC p1,aR 245 2 bg p2]) h (wk [] [0,1,2,3] 4 rfl) (fun al v_6 h bq=>?_)))));revert bq h;revert al;intro s1 h bq;replace h:m8 p0 p1 p2 s1=some v_6:=h;try dsimp only
 unfold m8 at h;refine X 5 4 (T.ci h rfl (fun bE h=>?_) (fun bE h=>?_))
 ·refine B h fun x4 hx4 h=>(B h fun x5 hx5 h=>(X 13 4 (sQ (aD Ty.s27 (fun _=>rfl) rfl rfl hx4 (Y 1 4 (sO (cG [0,1,2,3] 4 4 (DM hx5) ⟨rfl,(Y 1 4 (T.ci h rfl (fun bj h=>?_) (fun bj h=>?_)))⟩)))))))
  ·refine X 5 4 ?_;replace h:=mi h bq;cases h;exact tN [0,1,2,3]
  exact X 5 4 (lk h (wk [] [0,1,2,3] 4 rfl))
 refine X 1 4 ?_;replace h:=mi h bq;refine X 4 4 ?_;cases h;exact tN [0,1,2,3]
theorem Dj {p0:List Int} {p1:List Bool} {p2:List Ends} {r:Bool} (h:m9 p0 p1 p2=some r):FnX Tryz.prog 145 [sL aj p0,.func 158 [.ptr 0 0,.ptr 1 0]] [.box [.ref 2],.box [.ref 3],aR 4 1 cC p1,aR 245 2 bg p2] (.bool r) [.box [.ref 2],.box [.ref 3],aR 4 1 cC p1,aR 245 2 bg p2]:=by
 unfold m9 at h;refine fT 4 0 Tryz.func145 Tryz.ntmps145 rfl ?_;refine B h fun x2 hx2 h=>(X 8 4 (sO (cG [0,1,2,3] 4 4 (Do hx2) ⟨rfl,(Y 3 4 ?_)⟩)))
 cases h;exact tN [0,1,2,3]
theorem E4 {p0:Net} {r:(List Int) × Int} (h:qi p0=some r):FnO Tryz.prog 143 [.agg (aN p0)] (.tup [.ref 0,iI r.2]) [aR 3 1 aj r.1]:=by
 unfold qi at h;refine fT 0 0 Tryz.func143 Tryz.ntmps143 rfl ?_;refine B h fun x2 hx2 h=>(X 9 0 (sO (cO 1 (Fs hx2) ⟨rfl,(Y 13 2 (T.ci h rfl (fun ah h=>?_) (fun ah h=>?_)))⟩)))
 ·refine X 6 3 ?_;cases h;exact tO [(0,3,1)] [3] 3
 refine B h fun x4 hx4 h=>(X 9 3 (sQ (ak Ty.s22 rfl (sO (o_mk (en:=cC) (zr:=false) Ty.s198 Ty.z4 rfl rfl hx4 rfl rfl (Y 5 4 (itr (fun kK:(List Int) × (List Bool)=>mkA 61 [(1,.ptr 0 0),(4,.ptr 1 0),(6,.ref 2),(7,.ptr 3 0)]) (fun kK=>[.box (aN p0),.box [.ref 4],aR 3 1 aj kK.1,.box [.ref 5],aR 245 2 bg x2.1,aR 4 1 cC kK.2]) h (wk [(6,3,1)] [0,2,5,4,1,3] 5 rfl) (fun kK v_73 h CA=>?_))))))))
 obtain ⟨s5,s6⟩:=kK;replace h:jW p0 x2 s5 s6=some v_73:=h;try dsimp only
 unfold jW at h;refine X 4 6 (sQ (dD (en:=aj) Ty.s27 rfl rfl (Y 2 6 (sQ (ak Ty.s22 rfl (Y 2 6 (T.ci h rfl (fun Li h=>?_) (fun Li h=>?_))))))))
 ·refine X 6 6 (jn (Z:=Int) (fun oI=>mkA 61 [(1,.ptr 0 0),(4,.ptr 1 0),(6,.ref 2),(7,.ptr 3 0),(8,iI oI)]) (fun oI=>[.box (aN p0),.box [.ref 4],aR 3 1 aj s5,.box [.ref 5],aR 245 2 bg x2.1,aR 4 1 cC s6]) (fun oI=>ly s5 s6 oI=some v_73) (fun oI h=>?_) (fun hK1=>?_))
  ·revert h;revert oI;intro z14 h;replace h:ly s5 s6 z14=some v_73:=h;try dsimp only
   unfold ly at h;refine X 6 6 (T.ci h rfl (fun Lj h=>?_) (fun Lj h=>?_))
   ·refine X 5 6 ?_;replace h:=mi h CA;cases h;exact tO [(0,3,1)] [6] 6
   refine B h fun x17 cN h=>(B h fun x18 de h=>(X 5 6 (sQ (aO (en:=cC) Ty.s198 rfl rfl rfl cN (sO (eR (en:=cC) (a:=x18) (a':=true) Ty.c4 Ty.i4 rfl (vs:=[.bool true]) rfl rfl rfl de rfl rfl rfl (B h fun x19 dz h=>(Y 4 6 (sO (bn (rows:=List.map aj [z14]) (vs:=[iI z14]) Ty.s27 Ty.z3 rfl rfl rfl rfl rfl rfl (sO (cc (en:=aj) (xs:=s5) (ys:=([z14]:List Int)) Ty.s27 (fun _=>rfl) rfl rfl rfl dz rfl rfl (Y 2 8 ?_)))))))))))))
   exact lk h (wk [] [0,1,7,3,4,5] 8 rfl)
  refine X 5 6 (sQ (ak Ty.s22 rfl (Y 3 6 (itr (fun oE:Int=>mkA 61 [(1,.ptr 0 0),(4,.ptr 1 0),(6,.ref 2),(7,.ptr 3 0),(8,iI (-1)),(30,sL aq p0.Nodes),(31,iI ((p0.Nodes).length:Int)),(32,iI oE)]) (fun oE=>[.box (aN p0),.box [.ref 4],aR 3 1 aj s5,.box [.ref 5],aR 245 2 bg x2.1,aR 4 1 cC s6]) h (wk [] [0,1,2,3,4,5] 6 rfl) (fun oE v_103 h tI=>?_)))));revert tI h;revert oE;intro s7 h tI;replace h:jY p0 x2 s5 s6 s7=some v_103:=h;try dsimp only
  unfold jY at h;refine X 5 6 (T.ci h rfl (fun iA h=>?_) (fun iA h=>?_))
  ·refine B h fun x9 hx9 h=>(X 6 6 (sQ (aD Ty.s22 (fun _=>rfl) rfl rfl hx9 (B h fun x10 bf h=>(B h fun x11 bI h=>(Y 5 6 ?_))))))
   obtain ⟨K3,hz,h⟩:=bind_some h;revert hz h;revert K3;intro c13 hz h;refine j1 [(1,.ptr 0 0),(4,.ptr 1 0),(6,.ref 2),(7,.ptr 3 0),(8,iI (-1)),(9,iI s7),(30,sL aq p0.Nodes),(31,iI ((p0.Nodes).length:Int)),(32,iI s7),(48,.bool c13)] [.box (aN p0),.box [.ref 4],aR 3 1 aj s5,.box [.ref 5],aR 245 2 bg x2.1,aR 4 1 cC s6] ?_ (fun hK=>?_)
   ·refine T.ci h rfl (fun mF h=>?_) (fun mF h=>?_)
    ·refine X 6 6 ?_;replace h:=mi h tI;exact sx (hK1 s7 h)
    exact X 5 6 (lk h (wk [] [0,1,2,3,4,5] 6 rfl))
   refine X 4 7 (sQ (aO (en:=cC) Ty.s198 rfl rfl rfl bf (sO (aZ (en:=cC) (a:=x11) rfl rfl bI (aJ Ty.k4 (c:=.bool x11) rfl (Y 2 7 (gi 42 hz (fun jv hz=>?_) (fun jv hz=>?_))))))))
   ·refine B hz fun x12 bv hz=>(Y 3 7 (yO rfl (cG [3,1,5,4] 7 4 (Dj bv) ⟨rfl,(Yp 3 7 ?_)⟩)))
    cases hz;exact wu hK [] [0,1,2,3,4,5] 7 rfl
   refine Yp 7 7 ?_;cases hz;exact wu hK [] [0,1,2,3,4,5] 7 rfl
  refine X 1 6 ?_;replace h:=mi h tI;exact sx (hK1 (-1) h)
 refine X 1 6 ?_;replace h:=mi h CA;refine X 6 6 ?_;cases h;exact tO [] [2] 6
theorem xP {p0:Net} {r:Int} (h:nT p0=some r):Fn Tryz.prog 122 [.agg (aN p0)] (iI r):=by
 unfold nT at h;refine fT 0 0 Tryz.func122 Tryz.ntmps122 rfl ?_;refine B h fun x2 hx2 h=>(X 8 0 (sO (cO 1 (E4 hx2) ⟨rfl,(Y 11 2 ?_)⟩)))
 cases h;exact tD
theorem ui {p0:Net} {p1:List (List Item)} {r:Int} (h:j9 p0 p1=some r):Fn Tryz.prog 64 [.agg (aN p0),sL (ai aa) p1] (iI r):=by
 unfold j9 at h;refine fT 0 0 Tryz.func64 Tryz.ntmps64 rfl ?_;refine B h fun x2 hx2 h=>(X 9 0 (sO (cF (xP hx2) ⟨rfl,(Y 7 1 (T.ci h rfl (fun ah h=>?_) (fun ah h=>?_)))⟩)))
 ·refine X 5 1 ?_;cases h;exact tD
 refine X 5 1 (sQ (ak Ty.s25 rfl (Y 2 1 (T.ci h rfl (fun ae h=>?_) (fun ae h=>?_)))))
 ·refine X 4 1 ?_;cases h;exact tD
 refine X 5 1 (sQ (ak Ty.s25 rfl (Y 3 1 (itr (fun fk:Int=>mkA 69 [(1,sL (ai aa) p1),(2,.ptr 0 0),(21,sL (ai aa) p1),(22,iI ((p1).length:Int)),(23,iI fk)]) (fun fk=>[.box (aN p0)]) h (wk [] [0] 1 rfl) (fun fk v_28 h mG=>?_)))));revert mG h;revert fk;intro s3 h mG;replace h:nq p0 p1 s3=some v_28:=h;try dsimp only
 unfold nq at h;refine X 5 1 (T.ci h rfl (fun vZ h=>?_) (fun vZ h=>?_))
 ·refine B h fun x5 hx5 h=>(X 5 1 (sQ (aD Ty.s25 (fun _=>rfl) rfl rfl hx5 (Y 7 1 (sQ (ak Ty.s30 rfl (Y 2 1 (T.ci h rfl (fun q5 h=>?_) (fun q5 h=>?_)))))))))
  ·refine X 4 1 ?_;replace h:=mi h mG;cases h;exact tD
  refine X 4 1 (sQ (ak Ty.s30 rfl (Y 3 1 (itr (fun dG:Int=>mkA 69 [(1,sL (ai aa) p1),(2,.ptr 0 0),(21,sL (ai aa) p1),(22,iI ((p1).length:Int)),(23,iI s3),(30,sL aa x5),(31,iI ((x5).length:Int)),(32,iI dG)]) (fun dG=>[.box (aN p0)]) h (wk [] [0] 1 rfl) (fun dG v_37 h oJ=>?_)))));revert oJ h;revert dG;intro s6 h oJ;replace h:nn s3 x5 s6=some v_37:=h;try dsimp only
  unfold nn at h;refine X 5 1 (T.ci h rfl (fun fu h=>?_) (fun fu h=>?_))
  ·refine B h fun x8 hx8 h=>(X 5 1 (sQ (aD Ty.s30 (fun _=>rfl) rfl rfl hx8 (Y 10 1 (T.ci h rfl (fun jz h=>?_) (fun jz h=>?_))))))
   ·refine X 4 2 ?_;replace h:=mi h oJ;replace h:=mi h mG;cases h;exact tD
   exact X 5 2 (lk h (wk [] [0] 2 rfl))
  refine X 1 1 ?_;replace h:=mi h oJ;exact X 4 1 (lk h (wk [] [0] 1 rfl))
 refine X 1 1 ?_;replace h:=mi h mG;refine B h fun x10 bf h=>(X 3 1 (sQ (ak Ty.s25 rfl (sO (o_mk (en:=cC) (zr:=false) Ty.s198 Ty.z4 rfl rfl bf rfl rfl (Y 7 2 (sQ (ak Ty.s22 rfl (Y 3 2 (itr (fun kL:Int × (List Bool)=>mkA 69 [(1,sL (ai aa) p1),(10,.ref 0),(45,sL aq p0.Nodes),(46,iI ((p0.Nodes).length:Int)),(47,iI kL.1)]) (fun kL=>[aR 4 1 cC kL.2]) h (wk [] [1] 2 rfl) (fun kL v_53 h v5=>?_)))))))))))
 obtain ⟨s11,s12⟩:=kL;replace h:jQ p0 p1 s11 s12=some v_53:=h;try dsimp only
 unfold jQ at h;refine X 5 1 (T.ci h rfl (fun Lk h=>?_) (fun Lk h=>?_))
 ·refine B h fun x14 cY h=>(X 5 1 (sQ (aD Ty.s22 (fun _=>rfl) rfl rfl cY (Y 11 1 (T.ci h rfl (fun Ll h=>?_) (fun Ll h=>?_))))))
  ·exact X 5 2 (lk h (wk [] [0] 2 rfl))
  refine X 7 2 (sQ (ak Ty.s25 rfl (Y 2 2 (T.ci h rfl (fun Lm h=>?_) (fun Lm h=>?_)))))
  ·refine X 4 2 ?_;replace h:=mi h v5;cases h;exact tD
  refine B h fun x17 cN h=>(B h fun x18 de h=>(X 7 2 (sQ (aO (en:=cC) Ty.s198 rfl rfl rfl cN (sO (aZ (en:=cC) (a:=x18) rfl rfl de (aJ Ty.k4 (c:=.bool x18) rfl (Y 1 2 (T.ci h rfl (fun v6 h=>?_) (fun v6 h=>?_))))))))))
  ·refine X 4 2 ?_;replace h:=mi h v5;cases h;exact tD
  exact B h fun x19 dz h=>(B h fun x20 eB h=>(X 5 2 (sQ (aO (en:=cC) Ty.s198 rfl rfl rfl dz (sO (eR (en:=cC) (a:=x20) (a':=true) Ty.c4 Ty.i4 rfl (vs:=[.bool true]) rfl rfl rfl eB rfl rfl rfl (Y 5 2 (lk h (wk [] [0] 2 rfl)))))))))
 refine X 1 1 ?_;replace h:=mi h v5;refine X 4 1 ?_;cases h;exact tD
theorem EK {p0:Net} {p1:List (List Item)} {r:State} (h:qe p0 p1=some r):FnO Tryz.prog 65 [.agg (aN p0),sL (ai aa) p1] (.agg [.ref 0,.ref 1,.ref 2,.ref 3,.ref 4]) [aR 3 1 aj r.At,aR 30 1 (ai aa) r.Rings,aR 84 3 aB r.Memory,aR 50 2 aA r.Choices,aR 75 3 aa r.Out]:=by
 unfold qe at h;refine fT 0 0 Tryz.func65 Tryz.ntmps65 rfl ?_;refine B h fun x4 hx4 h=>(B h fun x5 hx5 h=>(B h fun x6 hx6 h=>(X 6 0 (T.drawn mixed (k:=12) rfl ?_))))
 apply RA.jn 1 (bm 12 2047);intro hS1;apply RA.jn 3 (bm 12 991);intro hS2;apply RA.jn 3 (bm 12 1019);intro hS3;apply RA.jn 3 (bm 12 511);intro hS4;apply RA.jn 4 (bm 12 975);intro hS5;apply RA.jn 4 (bm 12 987);intro hS6;apply RA.jn 4 (bm 12 479);intro hS7;apply RA.jn 4 (bm 12 507);intro hS8;apply RA.jn 5 (bm 12 463);intro hS9;apply RA.jn 5 (bm 12 475);intro cZ;apply RA.jn 5 (bm 12 127);intro cX;apply RA.jn 6 (bm 12 95);intro eO
 ·refine rq [0] 11 (r0 1 rfl (ak Ty.s25 rfl (rq [3,6] 8 (ra3 2 4 7 ?_ ?_ ?_))))
  ·refine oO rfl (o_mk (en:=aj) (zr:=0) Ty.s27 Ty.z3 rfl rfl hx4 rfl rfl (ra2 4 7 ?_ ?_))
   ·exact og 3 ⟨rfl,(raE eO)⟩
   ·exact og 3 ⟨rfl,(r0 8 rfl (ak Ty.s22 rfl (raE hS9)))⟩
  ·refine og 2 ⟨rfl,(ra3 2 5 7 ?_ ?_ ?_)⟩
   ·exact oO rfl (o_mk (en:=aj) (zr:=0) Ty.s27 Ty.z3 rfl rfl hx4 rfl rfl (raT eO))
   ·refine oO rfl (gk (en:=(ai aa)) (zr:=([]:List Item)) Ty.s25 Ty.z30 ⟨.inr ⟨rfl,rfl⟩,tqz⟩ rfl rfl hx5 rfl rfl (ra2 2 7 ?_ ?_))
    ·exact oO rfl (o_mk (en:=aj) (zr:=0) Ty.s27 Ty.z3 rfl rfl hx4 rfl rfl (raE cX))
    ·exact og 3 ⟨rfl,(r0 8 rfl (ak Ty.s22 rfl (raE hS8)))⟩
   ·exact og 2 ⟨rfl,(r0 8 rfl (ak Ty.s22 rfl (raE cZ)))⟩
  ·refine og 2 ⟨rfl,(r0 8 rfl (ak Ty.s22 rfl (ra3 2 4 9 ?_ ?_ ?_)))⟩
   ·exact oO rfl (o_mk (en:=aj) (zr:=0) Ty.s27 Ty.z3 rfl rfl hx4 rfl rfl (raT hS9))
   ·exact og 2 ⟨rfl,(raT cZ)⟩
   ·refine oO rfl (gk (en:=aB) (zr:=(⟨0,[],0⟩:Memory)) Ty.s28 Ty.z84 ⟨.inl rfl,.inr ⟨rfl,rfl⟩,.inl rfl,tqz⟩ rfl rfl hx6 rfl rfl (ra2 2 4 ?_ ?_))
    ·exact oO rfl (o_mk (en:=aj) (zr:=0) Ty.s27 Ty.z3 rfl rfl hx4 rfl rfl (raE hS5))
    ·exact og 3 ⟨rfl,(raE hS6)⟩
 ·refine ra2 5 7 ?_ ?_
  ·exact oO rfl (gk (en:=(ai aa)) (zr:=([]:List Item)) Ty.s25 Ty.z30 ⟨.inr ⟨rfl,rfl⟩,tqz⟩ rfl rfl hx5 rfl rfl (raV cX [0,1,3,2] rfl))
  ·exact og 3 ⟨rfl,(r0 8 rfl (ak Ty.s22 rfl (raE hS7)))⟩
 ·exact ra1 7 (og 4 ⟨rfl,(r0 8 rfl (ak Ty.s22 rfl (raE hS4)))⟩)
 ·refine ra3 2 5 9 ?_ ?_ ?_
  ·exact oO rfl (o_mk (en:=aj) (zr:=0) Ty.s27 Ty.z3 rfl rfl hx4 rfl rfl (raT hS7))
  ·exact oO rfl (gk (en:=(ai aa)) (zr:=([]:List Item)) Ty.s25 Ty.z30 ⟨.inr ⟨rfl,rfl⟩,tqz⟩ rfl rfl hx5 rfl rfl (raT hS8))
  ·exact oO rfl (gk (en:=aB) (zr:=(⟨0,[],0⟩:Memory)) Ty.s28 Ty.z84 ⟨.inl rfl,.inr ⟨rfl,rfl⟩,.inl rfl,tqz⟩ rfl rfl hx6 rfl rfl (raT hS6))
 ·refine ra2 4 9 ?_ ?_
  ·exact og 3 ⟨rfl,(raT hS7)⟩
  ·exact oO rfl (gk (en:=aB) (zr:=(⟨0,[],0⟩:Memory)) Ty.s28 Ty.z84 ⟨.inl rfl,.inr ⟨rfl,rfl⟩,.inl rfl,tqz⟩ rfl rfl hx6 rfl rfl (raV hS5 [0,1,3,2] rfl))
 ·refine ra2 2 9 ?_ ?_
  ·exact oO rfl (o_mk (en:=aj) (zr:=0) Ty.s27 Ty.z3 rfl rfl hx4 rfl rfl (raT hS4))
  ·exact oO rfl (gk (en:=aB) (zr:=(⟨0,[],0⟩:Memory)) Ty.s28 Ty.z84 ⟨.inl rfl,.inr ⟨rfl,rfl⟩,.inl rfl,tqz⟩ rfl rfl hx6 rfl rfl (raE hS3))
 ·refine ra2 5 9 ?_ ?_
  ·exact oO rfl (gk (en:=(ai aa)) (zr:=([]:List Item)) Ty.s25 Ty.z30 ⟨.inr ⟨rfl,rfl⟩,tqz⟩ rfl rfl hx5 rfl rfl (raV hS4 [0,1,3,2] rfl))
  ·exact oO rfl (gk (en:=aB) (zr:=(⟨0,[],0⟩:Memory)) Ty.s28 Ty.z84 ⟨.inl rfl,.inr ⟨rfl,rfl⟩,.inl rfl,tqz⟩ rfl rfl hx6 rfl rfl (raE hS2))
 ·refine ra2 2 5 ?_ ?_
  ·exact oO rfl (o_mk (en:=aj) (zr:=0) Ty.s27 Ty.z3 rfl rfl hx4 rfl rfl (raV hS2 [0,1,3,2] rfl))
  ·exact oO rfl (gk (en:=(ai aa)) (zr:=([]:List Item)) Ty.s25 Ty.z30 ⟨.inr ⟨rfl,rfl⟩,tqz⟩ rfl rfl hx5 rfl rfl (raV hS3 [0,1,3,2] rfl))
 ·exact ra1 4 (og 4 ⟨rfl,(raV hS2 [0,1,3,2] rfl)⟩)
 ·exact ra1 9 (oO rfl (gk (en:=aB) (zr:=(⟨0,[],0⟩:Memory)) Ty.s28 Ty.z84 ⟨.inl rfl,.inr ⟨rfl,rfl⟩,.inl rfl,tqz⟩ rfl rfl hx6 rfl rfl (rq [10] 1 (raE hS1))))
 ·exact ra1 2 (oO rfl (o_mk (en:=aj) (zr:=0) Ty.s27 Ty.z3 rfl rfl hx4 rfl rfl (rq [10] 1 (raV hS1 [0,1,2,4,3] rfl))))
 ·exact ra1 5 (oO rfl (gk (en:=(ai aa)) (zr:=([]:List Item)) Ty.s25 Ty.z30 ⟨.inr ⟨rfl,rfl⟩,tqz⟩ rfl rfl hx5 rfl rfl (rq [10] 1 (raV hS1 [0,1,4,2,3] rfl))))
 refine ra1 11 (og 5 ⟨rfl,(RA.done (by decide +kernel) (nB 1 3 50 2 5 (nB 1 4 75 3 6 ?_)))⟩);cases h;exact tO [] [3,2,4,5,6] 7
theorem pS {p0:Net} {p1:List (List Item)} {r:State × Int} (h:iV p0 p1=some r):FnO Tryz.prog 22 [.agg (aN p0),sL (ai aa) p1] (.tup [.agg [.ref 0,.ref 1,.ref 2,.ref 3,.ref 4],iI r.2]) [aR 3 1 aj r.1.At,aR 30 1 (ai aa) r.1.Rings,aR 84 3 aB r.1.Memory,aR 50 2 aA r.1.Choices,aR 75 3 aa r.1.Out]:=by
 unfold iV at h;refine fT 0 0 Tryz.func22 Tryz.ntmps22 rfl ?_;refine B h fun x2 hx2 h=>(X 11 0 (sO (cF (ui hx2) ⟨rfl,(Y 7 2 (T.ci h rfl (fun ah h=>?_) (fun ah h=>?_)))⟩)))
 ·refine X 7 2 (nB 1 0 3 1 2 (nB 1 1 30 1 3 (nB 1 2 84 3 4 (nB 1 3 50 2 5 (nB 1 4 75 3 6 ?_)))));cases h;exact tO [] [2,3,4,5,6] 7
 refine B h fun x4 hx4 h=>(X 5 2 (sO (cG [] 2 5 (FnX.of_fnO (EK hx4)) ⟨rfl,(Y 3 7 ?_)⟩)))
 cases h;exact tO [] [2,3,4,5,6] 7
theorem DN {p0 r:List Node} (h:rM p0=some r):FnO Tryz.prog 66 [.sl (List.map aq p0)] (.ref 0) [.arr 90 4 (List.map aq r)]:=by
 have hr:p0=r:=by
  unfold rM app at h;split at h
  ·simpa using h
  ·cases h
 refine gK (N:=0) rfl Tryz.func66 rfl (by kernel_rfl) Tryz.ntmps66 rfl ?_;show T _ _ _ _ (mkA 8 [(0,.sl (List.map aq p0))]) [];refine T.seq ?_;refine T.region ?_;refine RS.op rfl (OP.q rfl (cx (v:=.nils) rfl ?_));refine RS.nil ?_;refine T.seq ?_;refine T.seq ?_;refine T.region ?_;refine RS.op rfl (OP.q rfl (dX (v:=.sl (List.map aq p0)) rfl ?_));refine RS.op rfl (OP.q rfl (jk Ty.s22 rfl rfl (fun z hz=>?_)));refine RS.nil ?_;refine T.cond (b:=z) rfl (fun hb=>?_) (fun hb=>?_)
 ·refine T.seq ?_;refine T.region ?_;refine RS.op rfl (OP.q rfl (cx (v:=.nils) rfl ?_));refine RS.nil ?_;refine T.ret ?_;refine dT (v:=.nils) rfl ?_;refine dU ?_;have h0:p0=[]:=MF.1 (hz hb);exact dW (.ref 0) [(0,90,4)] [0] (by decide) (b7 _) rfl (cm rfl) (dZ (en:=aq) (ys:=[]) rfl n5 (by rw [<- hr,h0]) (ap)) ⟨rfl,rfl⟩
 ·refine T.skip ?_;refine T.seq ?_;refine T.region ?_;refine RS.op rfl (bn (rows:=List.map aq []) (vs:=[]) Ty.s22 Ty.z90 rfl rfl rfl rfl rfl (aw':=[.arr 90 4 (List.map aq [])]) rfl ?_);refine RS.op rfl (OP.q rfl (dX (v:=.sl (List.map aq p0)) rfl ?_));refine RS.op rfl (cc (en:=aq) (xs:=([]:List Node)) (ys:=p0) (r:=r) Ty.s22 (fun _=>rfl) rfl rfl rfl h rfl (aw':=[.dead,.arr 90 4 (List.map aq r)]) rfl ?_);refine RS.op rfl (OP.q rfl (cx (v:=.ref 1) rfl ?_));refine RS.nil ?_;refine T.ret ?_;refine dT (v:=.ref 1) rfl ?_;refine dU ?_;exact dW (.ref 0) [] [1] (by decide) (b7 _) rfl (cm rfl) (dZ rfl n5 rfl (ap)) ⟨rfl,rfl⟩
theorem eC {p0 r:List Int} (h:jN p0=some r):FnO Tryz.prog 67 [.sl (List.map aj p0)] (.ref 0) [.arr 3 1 (List.map aj r)]:=by
 have hr:p0=r:=by
  unfold jN app at h;split at h
  ·simpa using h
  ·cases h
 refine gK (N:=0) rfl Tryz.func67 rfl (by kernel_rfl) Tryz.ntmps67 rfl ?_;show T _ _ _ _ (mkA 8 [(0,.sl (List.map aj p0))]) [];refine T.seq ?_;refine T.region ?_;refine RS.op rfl (OP.q rfl (cx (v:=.nils) rfl ?_));refine RS.nil ?_;refine T.seq ?_;refine T.seq ?_;refine T.region ?_;refine RS.op rfl (OP.q rfl (dX (v:=.sl (List.map aj p0)) rfl ?_));refine RS.op rfl (OP.q rfl (jk Ty.s27 rfl rfl (fun z hz=>?_)));refine RS.nil ?_;refine T.cond (b:=z) rfl (fun hb=>?_) (fun hb=>?_)
 ·refine T.seq ?_;refine T.region ?_;refine RS.op rfl (OP.q rfl (cx (v:=.nils) rfl ?_));refine RS.nil ?_;refine T.ret ?_;refine dT (v:=.nils) rfl ?_;refine dU ?_;have h0:p0=[]:=MF.1 (hz hb);exact dW (.ref 0) [(0,3,1)] [0] (by decide) (b7 _) rfl (cm rfl) (dZ (en:=aj) (ys:=[]) rfl kE (by rw [<- hr,h0]) (ap)) ⟨rfl,rfl⟩
 ·refine T.skip ?_;refine T.seq ?_;refine T.region ?_;refine RS.op rfl (bn (rows:=List.map aj []) (vs:=[]) Ty.s27 Ty.z3 rfl rfl rfl rfl rfl (aw':=[.arr 3 1 (List.map aj [])]) rfl ?_);refine RS.op rfl (OP.q rfl (dX (v:=.sl (List.map aj p0)) rfl ?_));refine RS.op rfl (cc (en:=aj) (xs:=([]:List Int)) (ys:=p0) (r:=r) Ty.s27 (fun _=>rfl) rfl rfl rfl h rfl (aw':=[.dead,.arr 3 1 (List.map aj r)]) rfl ?_);refine RS.op rfl (OP.q rfl (cx (v:=.ref 1) rfl ?_));refine RS.nil ?_;refine T.ret ?_;refine dT (v:=.ref 1) rfl ?_;refine dU ?_;exact dW (.ref 0) [] [1] (by decide) (b7 _) rfl (cm rfl) (dZ rfl kE rfl (ap)) ⟨rfl,rfl⟩
theorem nN {p0 r:Net} (h:oa p0=some r):Fn Tryz.prog 23 [.agg (aN p0)] (.agg (aN r)):=by
 unfold oa at h;refine fT 0 0 Tryz.func23 Tryz.ntmps23 rfl ?_;refine B h fun x2 hx2 h=>(X 9 0 (sO (cQ 2 (DN hx2) ⟨rfl,(Y 8 3 (sQ (dD (en:=aq) Ty.s22 rfl rfl (Y 3 3 (itr (fun kM:Int × (List Node)=>mkA 40 [(1,.ptr 0 0),(2,.ptr 1 0),(10,iI ((x2).length:Int)),(11,iI kM.1)]) (fun kM=>[.box [.ref 2,iI p0.Rings,iI p0.Room],.box [.nils,iI 0,iI 0],aR 90 4 aq kM.2]) h (wk [] [0,1,2] 3 rfl) (fun kM v_70 h Ln=>?_))))))⟩)))
 obtain ⟨s3,s4⟩:=kM;replace h:j8 p0 x2 s3 s4=some v_70:=h;try dsimp only
 unfold j8 at h;refine X 5 3 (T.ci h rfl (fun Lo h=>?_) (fun Lo h=>?_))
 ·refine B h fun x5 hx5 h=>(B h fun x6 hx6 h=>(B h fun x7 hx7 h=>(B h fun x8 hx8 h=>(B h fun x9 hx9 h=>(B h fun x10 bf h=>(B h fun x11 bI h=>(B h fun x12 bv h=>(B h fun x13 dJ h=>(B h fun x14 cY h=>?_)))))))))
  refine X 8 3 (T.drawn mixed (k:=26) rfl ?_);apply RA.jn 1 (bm 26 33554431);intro CI;apply RA.jn 4 (bm 26 4194303);intro wm;apply RA.jn 5 (bm 26 4194287);intro CJ;apply RA.jn 7 (bm 26 524287);intro tP;apply RA.jn 8 (bm 26 524271);intro wn;apply RA.jn 8 (bm 26 524285);intro wo;apply RA.jn 8 (bm 26 520191);intro tQ;apply RA.jn 8 (bm 26 262143);intro tT;apply RA.jn 9 (bm 26 520175);intro wq;apply RA.jn 9 (bm 26 520189);intro wt;apply RA.jn 9 (bm 26 524269);intro CK;apply RA.jn 9 (bm 26 518143);intro wv;apply RA.jn 9 (bm 26 262127);intro ww;apply RA.jn 9 (bm 26 262141);intro wy;apply RA.jn 9 (bm 26 258047);intro tU;apply RA.jn 10 (bm 26 518127);intro CL;apply RA.jn 10 (bm 26 518141);intro CM;apply RA.jn 10 (bm 26 520173);intro CN;apply RA.jn 10 (bm 26 258031);intro wz;apply RA.jn 10 (bm 26 258045);intro wA;apply RA.jn 10 (bm 26 262125);intro CO;apply RA.jn 10 (bm 26 255999);intro tV;apply RA.jn 11 (bm 26 255983);intro wC;apply RA.jn 11 (bm 26 255997);intro wD;apply RA.jn 11 (bm 26 258029);intro CP;apply RA.jn 12 (bm 26 255981);intro CR;apply RA.jn 12 (bm 26 45055);intro wF;apply RA.jn 13 (bm 26 45039);intro CS;apply RA.jn 13 (bm 26 45053);intro CB;apply RA.jn 13 (bm 26 43007);intro v7;apply RA.jn 14 (bm 26 42991);intro CC;apply RA.jn 14 (bm 26 43005);intro CD;apply RA.jn 16 (bm 26 41343);intro CE
  ·refine rq [0,2,3,5,6,8,13,15] 18 (ra4 1 4 7 14 ?_ ?_ ?_ ?_)
   ·refine og 3 ⟨rfl,(ra3 4 7 14 ?_ ?_ ?_)⟩
    ·exact og 3 ⟨rfl,(raE CE)⟩
    ·exact og 3 ⟨rfl,(r0 9 rfl (aO (en:=aq) Ty.s22 rfl rfl rfl hx5 (rq [10] 14 (raE CC))))⟩
    ·exact og 3 ⟨rfl,(r0 16 rfl (aO (en:=aq) Ty.s22 rfl rfl rfl hx8 (rq [17] 14 (rL [7,9,10,11,12,19,20,21,22,23,24,25] 7 rfl (r0 9 rfl (aO (en:=aq) Ty.s22 rfl rfl rfl hx5 (rq [10] 11 (raE wC))))))))⟩
   ·refine og 3 ⟨rfl,(ra3 1 7 14 ?_ ?_ ?_)⟩
    ·exact og 3 ⟨rfl,(raT CE)⟩
    ·exact og 3 ⟨rfl,(r0 9 rfl (aO (en:=aq) Ty.s22 rfl rfl rfl hx5 (rq [10] 14 (raE CD))))⟩
    ·exact og 3 ⟨rfl,(r0 16 rfl (aO (en:=aq) Ty.s22 rfl rfl rfl hx8 (rq [17] 14 (rL [7,9,10,11,12,19,20,21,22,23,24,25] 7 rfl (r0 9 rfl (aO (en:=aq) Ty.s22 rfl rfl rfl hx5 (rq [10] 11 (raE wD))))))))⟩
   ·refine og 3 ⟨rfl,(r0 9 rfl (aO (en:=aq) Ty.s22 rfl rfl rfl hx5 (rq [10] 15 (ra4 1 4 11 14 ?_ ?_ ?_ ?_))))⟩
    ·exact og 3 ⟨rfl,(raT CC)⟩
    ·exact og 3 ⟨rfl,(raT CD)⟩
    ·refine oO rfl (aZ (en:=aq) (a:=x6) rfl rfl hx6 (aJ Ty.k27 (c:=sL aj x6.In) rfl (ra4 1 4 12 14 ?_ ?_ ?_ ?_)))
     ·exact og 3 ⟨rfl,(raE CS)⟩
     ·exact og 3 ⟨rfl,(raE CB)⟩
     ·exact oO rfl (cO 3 (eC hx7) ⟨rfl,(rL [14,16,17,18,19,20,21,22,23,24,25] 14 rfl (r0 16 rfl (aO (en:=aq) Ty.s22 rfl rfl rfl hx8 (rq [17] 10 (raE CO)))))⟩)
     ·exact og 3 ⟨rfl,(r0 16 rfl (aO (en:=aq) Ty.s22 rfl rfl rfl hx8 (rq [17] 11 (raE CP))))⟩
    ·exact og 3 ⟨rfl,(r0 16 rfl (aO (en:=aq) Ty.s22 rfl rfl rfl hx8 (rq [17] 12 (raE CR))))⟩
   ·exact og 3 ⟨rfl,(r0 16 rfl (aO (en:=aq) Ty.s22 rfl rfl rfl hx8 (rq [17] 15 (rL [7,9,10,11,12,19,20,21,22,23,24,25] 7 rfl (r0 9 rfl (aO (en:=aq) Ty.s22 rfl rfl rfl hx5 (rq [10] 12 (raT CR))))))))⟩
  ·refine ra2 7 14 ?_ ?_
   ·exact og 3 ⟨rfl,(r0 9 rfl (aO (en:=aq) Ty.s22 rfl rfl rfl hx5 (rq [10] 13 (raE v7))))⟩
   ·exact og 3 ⟨rfl,(r0 16 rfl (aO (en:=aq) Ty.s22 rfl rfl rfl hx8 (rq [17] 13 (rL [7,9,10,11,12,19,20,21,22,23,24,25] 7 rfl (r0 9 rfl (aO (en:=aq) Ty.s22 rfl rfl rfl hx5 (rq [10] 10 (raE tV))))))))⟩
  ·refine ra3 1 11 14 ?_ ?_ ?_
   ·exact og 3 ⟨rfl,(raT v7)⟩
   ·exact oO rfl (aZ (en:=aq) (a:=x6) rfl rfl hx6 (aJ Ty.k27 (c:=sL aj x6.In) rfl (raT CB)))
   ·exact og 3 ⟨rfl,(r0 16 rfl (aO (en:=aq) Ty.s22 rfl rfl rfl hx8 (rq [17] 11 (raT wD))))⟩
  ·refine ra3 4 11 14 ?_ ?_ ?_
   ·exact og 3 ⟨rfl,(raT v7)⟩
   ·exact oO rfl (aZ (en:=aq) (a:=x6) rfl rfl hx6 (aJ Ty.k27 (c:=sL aj x6.In) rfl (raT CS)))
   ·exact og 3 ⟨rfl,(r0 16 rfl (aO (en:=aq) Ty.s22 rfl rfl rfl hx8 (rq [17] 11 (raT wC))))⟩
  ·refine ra2 11 14 ?_ ?_
   ·exact oO rfl (aZ (en:=aq) (a:=x6) rfl rfl hx6 (aJ Ty.k27 (c:=sL aj x6.In) rfl (raE wF)))
   ·exact og 3 ⟨rfl,(r0 16 rfl (aO (en:=aq) Ty.s22 rfl rfl rfl hx8 (rq [17] 10 (raT tV))))⟩
  ·refine ra3 1 12 14 ?_ ?_ ?_
   ·exact og 3 ⟨rfl,(raT wF)⟩
   ·exact oO rfl (cO 3 (eC hx7) ⟨rfl,(rL [14,16,17,18,19,20,21,22,23,24,25] 14 rfl (r0 16 rfl (aO (en:=aq) Ty.s22 rfl rfl rfl hx8 (rq [17] 9 (raE wy)))))⟩)
   ·exact og 3 ⟨rfl,(r0 16 rfl (aO (en:=aq) Ty.s22 rfl rfl rfl hx8 (rq [17] 10 (raE wA))))⟩
  ·refine ra3 4 12 14 ?_ ?_ ?_
   ·exact og 3 ⟨rfl,(raT wF)⟩
   ·exact oO rfl (cO 3 (eC hx7) ⟨rfl,(rL [14,16,17,18,19,20,21,22,23,24,25] 14 rfl (r0 16 rfl (aO (en:=aq) Ty.s22 rfl rfl rfl hx8 (rq [17] 9 (raE ww)))))⟩)
   ·exact og 3 ⟨rfl,(r0 16 rfl (aO (en:=aq) Ty.s22 rfl rfl rfl hx8 (rq [17] 10 (raE wz))))⟩
  ·refine ra2 12 14 ?_ ?_
   ·exact oO rfl (cO 3 (eC hx7) ⟨rfl,(ra1 14 (og 4 ⟨rfl,(r0 16 rfl (aO (en:=aq) Ty.s22 rfl rfl rfl hx8 (rq [17] 8 (raE tT))))⟩))⟩)
   ·exact og 3 ⟨rfl,(r0 16 rfl (aO (en:=aq) Ty.s22 rfl rfl rfl hx8 (rq [17] 9 (raE tU))))⟩
  ·refine ra4 1 4 11 18 ?_ ?_ ?_ ?_
   ·exact og 3 ⟨rfl,(raT wC)⟩
   ·exact og 3 ⟨rfl,(raT wD)⟩
   ·exact oO rfl (aZ (en:=aq) (a:=x6) rfl rfl hx6 (aJ Ty.k27 (c:=sL aj x6.In) rfl (raT CP)))
   ·refine oO rfl (aZ (en:=aq) (a:=x9) rfl rfl hx9 (aJ Ty.k27 (c:=sL aj x9.Out) rfl (ra3 1 4 11 ?_ ?_ ?_)))
    ·exact og 3 ⟨rfl,(raE CL)⟩
    ·exact og 3 ⟨rfl,(raE CM)⟩
    ·exact oO rfl (aZ (en:=aq) (a:=x6) rfl rfl hx6 (aJ Ty.k27 (c:=sL aj x6.In) rfl (raE CN)))
  ·refine ra4 1 4 12 18 ?_ ?_ ?_ ?_
   ·exact og 3 ⟨rfl,(raT wz)⟩
   ·exact og 3 ⟨rfl,(raT wA)⟩
   ·exact oO rfl (cO 3 (eC hx7) ⟨rfl,(raT CO)⟩)
   ·exact oO rfl (aZ (en:=aq) (a:=x9) rfl rfl hx9 (aJ Ty.k27 (c:=sL aj x9.Out) rfl (raT CN)))
  ·refine ra3 1 11 18 ?_ ?_ ?_
   ·exact og 3 ⟨rfl,(raT tV)⟩
   ·exact oO rfl (aZ (en:=aq) (a:=x6) rfl rfl hx6 (aJ Ty.k27 (c:=sL aj x6.In) rfl (raT wA)))
   ·exact oO rfl (aZ (en:=aq) (a:=x9) rfl rfl hx9 (aJ Ty.k27 (c:=sL aj x9.Out) rfl (raT CM)))
  ·refine ra3 4 11 18 ?_ ?_ ?_
   ·exact og 3 ⟨rfl,(raT tV)⟩
   ·exact oO rfl (aZ (en:=aq) (a:=x6) rfl rfl hx6 (aJ Ty.k27 (c:=sL aj x6.In) rfl (raT wz)))
   ·exact oO rfl (aZ (en:=aq) (a:=x9) rfl rfl hx9 (aJ Ty.k27 (c:=sL aj x9.Out) rfl (raT CL)))
  ·refine ra2 11 18 ?_ ?_
   ·exact oO rfl (aZ (en:=aq) (a:=x6) rfl rfl hx6 (aJ Ty.k27 (c:=sL aj x6.In) rfl (raT tU)))
   ·exact oO rfl (aZ (en:=aq) (a:=x9) rfl rfl hx9 (aJ Ty.k27 (c:=sL aj x9.Out) rfl (raE wv)))
  ·refine ra3 1 4 18 ?_ ?_ ?_
   ·exact og 4 ⟨rfl,(raT ww)⟩
   ·exact og 4 ⟨rfl,(raT wy)⟩
   ·exact oO rfl (aZ (en:=aq) (a:=x9) rfl rfl hx9 (aJ Ty.k27 (c:=sL aj x9.Out) rfl (raE CK)))
  ·refine ra3 1 12 18 ?_ ?_ ?_
   ·exact og 3 ⟨rfl,(raT tU)⟩
   ·exact oO rfl (cO 3 (eC hx7) ⟨rfl,(raT wy)⟩)
   ·exact oO rfl (aZ (en:=aq) (a:=x9) rfl rfl hx9 (aJ Ty.k27 (c:=sL aj x9.Out) rfl (raE wt)))
  ·refine ra3 4 12 18 ?_ ?_ ?_
   ·exact og 3 ⟨rfl,(raT tU)⟩
   ·exact oO rfl (cO 3 (eC hx7) ⟨rfl,(raT ww)⟩)
   ·exact oO rfl (aZ (en:=aq) (a:=x9) rfl rfl hx9 (aJ Ty.k27 (c:=sL aj x9.Out) rfl (raE wq)))
  ·refine ra3 1 4 12 ?_ ?_ ?_
   ·exact og 3 ⟨rfl,(raT wq)⟩
   ·exact og 3 ⟨rfl,(raT wt)⟩
   ·exact oO rfl (cO 3 (eC hx7) ⟨rfl,(raT CK)⟩)
  ·refine ra2 1 11 ?_ ?_
   ·exact og 3 ⟨rfl,(raT wv)⟩
   ·exact oO rfl (aZ (en:=aq) (a:=x6) rfl rfl hx6 (aJ Ty.k27 (c:=sL aj x6.In) rfl (raT wt)))
  ·refine ra2 4 11 ?_ ?_
   ·exact og 3 ⟨rfl,(raT wv)⟩
   ·exact oO rfl (aZ (en:=aq) (a:=x6) rfl rfl hx6 (aJ Ty.k27 (c:=sL aj x6.In) rfl (raT wq)))
  ·refine ra2 12 18 ?_ ?_
   ·exact oO rfl (cO 3 (eC hx7) ⟨rfl,(raT tT)⟩)
   ·exact oO rfl (aZ (en:=aq) (a:=x9) rfl rfl hx9 (aJ Ty.k27 (c:=sL aj x9.Out) rfl (raE tQ)))
  ·refine ra2 1 18 ?_ ?_
   ·exact og 4 ⟨rfl,(raT tT)⟩
   ·exact oO rfl (aZ (en:=aq) (a:=x9) rfl rfl hx9 (aJ Ty.k27 (c:=sL aj x9.Out) rfl (raE wo)))
  ·refine ra2 4 18 ?_ ?_
   ·exact og 4 ⟨rfl,(raT tT)⟩
   ·exact oO rfl (aZ (en:=aq) (a:=x9) rfl rfl hx9 (aJ Ty.k27 (c:=sL aj x9.Out) rfl (raE wn)))
  ·exact ra1 11 (oO rfl (aZ (en:=aq) (a:=x6) rfl rfl hx6 (aJ Ty.k27 (c:=sL aj x6.In) rfl (raT tQ))))
  ·refine ra3 1 4 19 ?_ ?_ ?_
   ·exact og 4 ⟨rfl,(raT wn)⟩
   ·exact og 4 ⟨rfl,(raT wo)⟩
   ·exact oO rfl (cO 4 (eC bf) ⟨rfl,(rL [1,20,21,22,23,24,25] 1 rfl (r0 20 rfl (aO (en:=aq) Ty.s22 rfl rfl rfl bI (rq [21] 5 (raE CJ)))))⟩)
  ·refine ra2 1 12 ?_ ?_
   ·exact og 3 ⟨rfl,(raT tQ)⟩
   ·exact oO rfl (cO 3 (eC hx7) ⟨rfl,(raT wo)⟩)
  ·refine ra2 4 12 ?_ ?_
   ·exact og 3 ⟨rfl,(raT tQ)⟩
   ·exact oO rfl (cO 3 (eC hx7) ⟨rfl,(raT wn)⟩)
  ·exact ra1 18 (oO rfl (aZ (en:=aq) (a:=x9) rfl rfl hx9 (aJ Ty.k27 (c:=sL aj x9.Out) rfl (raE tP))))
  ·exact ra1 12 (oO rfl (cO 3 (eC hx7) ⟨rfl,(raT tP)⟩))
  ·refine ra2 1 19 ?_ ?_
   ·exact og 4 ⟨rfl,(raT tP)⟩
   ·exact oO rfl (cO 4 (eC bf) ⟨rfl,(ra1 1 (og 5 ⟨rfl,(r0 20 rfl (aO (en:=aq) Ty.s22 rfl rfl rfl bI (rq [21] 4 (raE wm))))⟩))⟩)
  ·refine ra2 4 19 ?_ ?_
   ·exact og 4 ⟨rfl,(raT tP)⟩
   ·exact oO rfl (cO 4 (eC bf) ⟨rfl,(r0 20 rfl (aO (en:=aq) Ty.s22 rfl rfl rfl bI (rq [21] 5 (raT CJ))))⟩)
  ·exact ra1 19 (oO rfl (cO 4 (eC bf) ⟨rfl,(r0 20 rfl (aO (en:=aq) Ty.s22 rfl rfl rfl bI (rq [21] 4 (raT wm))))⟩))
  ·refine ra2 4 22 ?_ ?_
   ·exact og 5 ⟨rfl,(raT wm)⟩
   ·exact RO.fC 3 (oO rfl (eR (en:=aq) (a:=x12) (a':=(⟨x12.Kind,x12.A,x7,x12.Out⟩:Node)) Ty.c27 Ty.i27 rfl (vs:=[sL aj x7]) rfl rfl rfl bv rfl rfl rfl (ra1 4 (og 5 ⟨rfl,(r0 23 rfl (aO (en:=aq) Ty.s22 rfl rfl rfl dJ (rq [24] 1 (raE CI))))⟩))))
  ·exact ra1 22 (RO.fC 3 (oO rfl (eR (en:=aq) (a:=x12) (a':=(⟨x12.Kind,x12.A,x7,x12.Out⟩:Node)) Ty.c27 Ty.i27 rfl (vs:=[sL aj x7]) rfl rfl rfl bv rfl rfl rfl (r0 23 rfl (aO (en:=aq) Ty.s22 rfl rfl rfl dJ (rq [24] 1 (raT CI)))))))
  exact ra1 25 (RO.fC 4 (oO rfl (eR (en:=aq) (a:=x14) (a':=(⟨x14.Kind,x14.A,x14.In,x10⟩:Node)) Ty.c27 Ty.i27 rfl (vs:=[sL aj x10]) rfl rfl rfl cY rfl rfl rfl (RA.done (by decide +kernel) (X 4 5 (lk h (wk [] [0,1,2] 5 rfl)))))))
 refine X 1 3 ?_;replace h:=mi h Ln;refine X 5 3 ?_;cases h;exact tD
theorem gu {p0 r:List Item} (h:eQ p0=some r):FnO Tryz.prog 68 [.sl (List.map aa p0)] (.ref 0) [.arr 75 3 (List.map aa r)]:=by
 have hr:p0=r:=by
  unfold eQ app at h;split at h
  ·simpa using h
  ·cases h
 refine gK (N:=0) rfl Tryz.func68 rfl (by kernel_rfl) Tryz.ntmps68 rfl ?_;show T _ _ _ _ (mkA 8 [(0,.sl (List.map aa p0))]) [];refine T.seq ?_;refine T.region ?_;refine RS.op rfl (OP.q rfl (cx (v:=.nils) rfl ?_));refine RS.nil ?_;refine T.seq ?_;refine T.seq ?_;refine T.region ?_;refine RS.op rfl (OP.q rfl (dX (v:=.sl (List.map aa p0)) rfl ?_));refine RS.op rfl (OP.q rfl (jk Ty.s30 rfl rfl (fun z hz=>?_)));refine RS.nil ?_;refine T.cond (b:=z) rfl (fun hb=>?_) (fun hb=>?_)
 ·refine T.seq ?_;refine T.region ?_;refine RS.op rfl (OP.q rfl (cx (v:=.nils) rfl ?_));refine RS.nil ?_;refine T.ret ?_;refine dT (v:=.nils) rfl ?_;refine dU ?_;have h0:p0=[]:=MF.1 (hz hb);exact dW (.ref 0) [(0,75,3)] [0] (by decide) (b7 _) rfl (cm rfl) (dZ (en:=aa) (ys:=[]) rfl eU (by rw [<- hr,h0]) (ap)) ⟨rfl,rfl⟩
 ·refine T.skip ?_;refine T.seq ?_;refine T.region ?_;refine RS.op rfl (bn (rows:=List.map aa []) (vs:=[]) Ty.s30 Ty.z75 rfl rfl rfl rfl rfl (aw':=[.arr 75 3 (List.map aa [])]) rfl ?_);refine RS.op rfl (OP.q rfl (dX (v:=.sl (List.map aa p0)) rfl ?_));refine RS.op rfl (cc (en:=aa) (xs:=([]:List Item)) (ys:=p0) (r:=r) Ty.s30 (fun _=>rfl) rfl rfl rfl h rfl (aw':=[.dead,.arr 75 3 (List.map aa r)]) rfl ?_);refine RS.op rfl (OP.q rfl (cx (v:=.ref 1) rfl ?_));refine RS.nil ?_;refine T.ret ?_;refine dT (v:=.ref 1) rfl ?_;refine dU ?_;exact dW (.ref 0) [] [1] (by decide) (b7 _) rfl (cm rfl) (dZ rfl eU rfl (ap)) ⟨rfl,rfl⟩
theorem rQ {p0 r:List (List Item)} (h:pL p0=some r):FnO Tryz.prog 24 [sL (ai aa) p0] (.ref 0) [aR 30 1 (ai aa) r]:=by
 unfold pL at h;refine fT 0 12 Tryz.func24 Tryz.ntmps24 rfl (sQ (ak Ty.s25 rfl (Y 3 0 (itr (fun cv:Int × (List (List Item))=>mkA 19 [(3,.ref 0),(6,sL (ai aa) p0),(7,iI ((p0).length:Int)),(8,iI cv.1)]) (fun cv=>[aR 30 1 (ai aa) cv.2]) h (wk [(3,30,1)] [0] 0 rfl) (fun cv v_4 h rf=>?_)))));obtain ⟨s1,s2⟩:=cv;replace h:jM p0 s1 s2=some v_4:=h;try dsimp only
 unfold jM at h;refine X 5 1 (T.ci h rfl (fun aK h=>?_) (fun aK h=>?_))
 ·refine B h fun x4 hx4 h=>(X 5 1 (sQ (aD Ty.s25 (fun _=>rfl) rfl rfl hx4 (B h fun x5 hx5 h=>(B h fun x6 hx6 h=>(Y 6 1 (sO (cO 1 (gu hx5) ⟨rfl,(RS.fC 1 (sO (bn (rows:=List.map (ai aa) [x5]) (vs:=[sL aa x5]) Ty.s25 Ty.z30 rfl rfl rfl rfl rfl rfl (sO (cc (en:=(ai aa)) (xs:=s2) (ys:=([x5]:List (List Item))) Ty.s25 (fun _=>rfl) rfl rfl rfl hx6 rfl rfl ?_)))))⟩))))))))
  exact Y 6 4 (lk h (wk [] [3] 4 rfl))
 refine X 1 1 ?_;replace h:=mi h rf;refine X 5 1 ?_;cases h;exact tO [] [0] 1
theorem FK {p0:Net} {p1:List (List Item)} {r:Shop × Int} (h:l6 p0 p1=some r):Fn Tryz.prog 7 [.agg (aN p0),sL (ai aa) p1] (.tup [.agg (eV r.1),iI r.2]):=by
 unfold l6 at h;refine fT 0 0 Tryz.func7 Tryz.ntmps7 rfl ?_;refine B h fun x2 hx2 h=>(X 10 0 (sO (cG [] 2 5 (FnX.of_fnO (pS hx2)) ⟨rfl,(Y 13 7 (T.ci h rfl (fun ah h=>?_) (fun ah h=>?_)))⟩)))
 ·refine X 7 8 ?_;cases h;exact tD
 refine B h fun x5 hx5 h=>(B h fun x6 hx6 h=>(X 2 8 (T.drawn mixed (k:=8) rfl ?_)))
 apply RA.jn 2 (bm 8 63);intro hS2;apply RA.jn 4 (bm 8 23);intro hS3
 ·refine rq [2] 7 (rL [0,1,3,5,6,7] 0 rfl (ra2 1 4 ?_ ?_))
  ·refine oO rfl (cD (nN hx5) ⟨rfl,(ra2 3 4 ?_ ?_)⟩)
   ·exact oO rfl (cQ 8 (rQ hx6) ⟨rfl,(ra1 4 (og 9 ⟨rfl,(rq [5] 2 (raE hS2))⟩))⟩)
   ·exact og 8 ⟨rfl,(raE hS3)⟩
  ·exact og 8 ⟨rfl,(ra1 1 (oO rfl (cD (nN hx5) ⟨rfl,(raT hS3)⟩)))⟩
 ·exact ra1 3 (oO rfl (cQ 8 (rQ hx6) ⟨rfl,(rq [5] 2 (raT hS2))⟩))
 refine ra1 6 (og 9 ⟨rfl,(rq [7] 0 (RA.done (by decide +kernel) ?_))⟩);cases h;exact tD
theorem Dr {p0:Item} {p1:List Int} {p2:List (List Item)} {p3:List Memory} {p4:List Choice} {p5:List Item} {r:Bool} (h:rF p0 p1 p2 p3 p4 p5=some r):FnX Tryz.prog 119 [.agg (aa p0),.ptr 0 0] [.box [sL aj p1,sL (ai aa) p2,sL aB p3,sL aA p4,sL aa p5]] (.bool r) [.box [sL aj p1,sL (ai aa) p2,sL aB p3,sL aA p4,sL aa p5]]:=by
 unfold rF at h;refine fT 1 5 Tryz.func119 Tryz.ntmps119 rfl (j1 [(3,.bool ((decide (p0.Dep<0)) || decide (p0.Dep > ((p4).length:Int))))] [.box [sL aj p1,sL (ai aa) p2,sL aB p3,sL aA p4,sL aa p5]] ?_ (fun hK=>?_))
 ·cases h;exact tN [0]
 refine X 6 2 (gp 7 (fun ah=>?_) (fun ah=>?_))
 ·refine Yp 9 2 ?_;rw [ah] at hK;exact wu hK [] [0] 2 rfl
 refine Y 4 2 (yQ rfl (ak Ty.s29 rfl (Yp 4 2 ?_)));rw [ah] at hK;exact wu hK [] [0] 2 rfl
theorem Dl {p0:List Item} {p1:List Int} {p2:List (List Item)} {p3:List Memory} {p4:List Choice} {p5:List Item} {r:Int} (h:rA p0 p1 p2 p3 p4 p5=some r):FnX Tryz.prog 138 [sL aa p0,.func 119 [.ptr 0 0]] [.box [sL aj p1,sL (ai aa) p2,sL aB p3,sL aA p4,sL aa p5]] (iI r) [.box [sL aj p1,sL (ai aa) p2,sL aB p3,sL aA p4,sL aa p5]]:=by
 unfold rA at h;refine fT 1 8 Tryz.func138 Tryz.ntmps138 rfl (sQ (ak Ty.s30 rfl (Y 3 1 (itr (fun al:Int=>mkA 19 [(0,sL aa p0),(1,.func 119 [.ptr 0 0]),(7,iI ((p0).length:Int)),(8,iI al)]) (fun al=>[.box [sL aj p1,sL (ai aa) p2,sL aB p3,sL aA p4,sL aa p5]]) h (wk [] [0] 1 rfl) (fun al v_6 h bq=>?_)))));revert bq h;revert al;intro s1 h bq;replace h:o6 p0 p1 p2 p3 p4 p5 s1=some v_6:=h;try dsimp only
 unfold o6 at h;refine X 5 1 (T.ci h rfl (fun bE h=>?_) (fun bE h=>?_))
 ·refine B h fun x4 hx4 h=>(B h fun x5 hx5 h=>(X 13 1 (sQ (aD Ty.s30 (fun _=>rfl) rfl rfl hx4 (Y 1 1 (sO (cG [0] 1 1 (Dr hx5) ⟨rfl,(Y 1 1 (T.ci h rfl (fun bj h=>?_) (fun bj h=>?_)))⟩)))))))
  ·refine X 5 1 ?_;replace h:=mi h bq;cases h;exact tN [0]
  exact X 5 1 (lk h (wk [] [0] 1 rfl))
 refine X 1 1 ?_;replace h:=mi h bq;refine X 4 1 ?_;cases h;exact tN [0]
theorem Dh {p0:List Item} {p1:List Int} {p2:List (List Item)} {p3:List Memory} {p4:List Choice} {p5:List Item} {r:Bool} (h:rx p0 p1 p2 p3 p4 p5=some r):FnX Tryz.prog 118 [sL aa p0,.func 119 [.ptr 0 0]] [.box [sL aj p1,sL (ai aa) p2,sL aB p3,sL aA p4,sL aa p5]] (.bool r) [.box [sL aj p1,sL (ai aa) p2,sL aB p3,sL aA p4,sL aa p5]]:=by
 unfold rx at h;refine fT 1 0 Tryz.func118 Tryz.ntmps118 rfl ?_;refine B h fun x2 hx2 h=>(X 8 1 (sO (cG [0] 1 1 (Dl hx2) ⟨rfl,(Y 3 1 ?_)⟩)))
 cases h;exact tN [0]
theorem xa {p0:List Item} {p1:List Int} {p2:List (List Item)} {p3:List Memory} {p4:List Choice} {p5:List Item} {r:Bool} (h:ng p0 p1 p2 p3 p4 p5=some r):FnX Tryz.prog 117 [sL aa p0,.ptr 0 0] [.box [sL aj p1,sL (ai aa) p2,sL aB p3,sL aA p4,sL aa p5]] (.bool r) [.box [sL aj p1,sL (ai aa) p2,sL aB p3,sL aA p4,sL aa p5]]:=by
 unfold ng at h;refine fT 1 0 Tryz.func117 Tryz.ntmps117 rfl ?_;refine B h fun x2 hx2 h=>(X 8 1 (sO (cG [0] 1 1 (Dh hx2) ⟨rfl,(Y 3 1 ?_)⟩)))
 cases h;exact tN [0]
theorem xt {p0:Memory} {r:Int} (h:kb p0=some r):Fn Tryz.prog 120 [.agg (aB p0)] (iI r):=by
 unfold kb at h;refine fT 0 10 Tryz.func120 Tryz.ntmps120 rfl (sQ (ak Ty.s82 rfl (Y 2 1 (T.ci h rfl (fun ah h=>?_) (fun ah h=>?_)))))
 ·refine X 4 1 ?_;cases h;exact tD
 refine X 6 1 (sQ (ak Ty.s82 rfl (Y 3 1 (itr (fun oH:Int=>mkA 40 [(1,.ptr 0 0),(10,sL aM p0.Keys),(11,iI ((p0.Keys).length:Int)),(12,iI oH)]) (fun oH=>[.box (aB p0)]) h (wk [] [0] 1 rfl) (fun oH v_17 h tJ=>?_)))));revert tJ h;revert oH;intro s1 h tJ;replace h:hJ p0 s1=some v_17:=h;try dsimp only
 unfold hJ at h;refine X 5 1 (T.ci h rfl (fun mH h=>?_) (fun mH h=>?_))
 ·refine B h fun x3 hx3 h=>(X 6 1 (sQ (aD Ty.s82 (fun _=>rfl) rfl rfl hx3 (Y 5 1 ?_))))
  obtain ⟨Lp,hz,h⟩:=bind_some h;revert hz h;revert Lp;intro c5 hz h;refine j1 [(1,.ptr 0 0),(10,sL aM p0.Keys),(11,iI ((p0.Keys).length:Int)),(12,iI s1),(35,.bool c5)] [.box (aB p0)] ?_ (fun hK=>?_)
  ·refine T.ci h rfl (fun q6 h=>?_) (fun q6 h=>?_)
   ·refine X 4 1 ?_;replace h:=mi h tJ;cases h;exact tD
   exact X 5 1 (lk h (wk [] [0] 1 rfl))
  refine X 1 2 ?_;rcases bp (decide (x3.N<1)) with cB | cB
  ·replace hz:=bX hz cB;refine T.drawn mixed (k:=19) rfl (rq [0] 18 (ra1 1 (og 2 ⟨rfl,(rq [2,3] 15 (r2 4 rfl cB (r2 5 rfl cB (r2 6 rfl cB (r3 7 rfl (r3 8 rfl ?_))))))⟩)));refine r3 9 rfl (r3 10 rfl (r3 11 rfl (r3 12 rfl (r3 13 rfl (r3 14 rfl (r3 15 rfl (r3 16 rfl (r2 17 rfl cB (r0 18 rfl (bi (v:=.bool true) rfl cB rfl ?_))))))))));exact RA.done (by decide +kernel) (T.weakR hK (Weak.mkN [] [0] (by decide) (b7 _) rfl ⟨am rfl,rn_s rfl,dt rfl,dt rfl,e8 ((congrArg (fun p=>p) (LY hz)).symm),tqz⟩ (d5 (aB p0) rfl (ap))))
  replace hz:=bV hz cB;rcases bp (decide (s1 > 0)) with bS | bS
  ·replace hz:=bX hz bS;refine B hz fun x4 hx4 hz=>(T.drawn mixed (k:=19) rfl ?_)
   apply RA.jn 0 (bm 19 524287);intro iL;apply RA.jn 4 (bm 19 57343);intro fN
   ·refine rq [0] 18 (ra1 1 (og 2 ⟨rfl,(rq [2,3] 15 (ry 4 cB rfl (ry 5 cB rfl (ry 6 cB rfl (ry 7 bS rfl (ry 9 bS rfl (ry 10 bS rfl ?_)))))))⟩));refine ry 14 bS rfl (ra2 8 15 ?_ ?_)
    ·refine oy 2 bS rfl (r1 11 rfl bS (aD Ty.s82 (fun _=>rfl) rfl rfl hx4 (ry 12 bS rfl (ra2 13 15 ?_ ?_))))
     ·exact oy 2 bS rfl (ra1 15 (oy 2 bS rfl (ry 16 bS rfl (r1 17 rfl cB (bi (v:=.bool (decide (x4.Key >= x3.Key))) rfl bS rfl (r0 18 rfl (ba (v:=.bool (decide (x4.Key >= x3.Key))) rfl cB rfl (raE iL))))))))
     ·exact oy 2 bS rfl (raE fN)
    ·exact oy 2 bS rfl (ra1 8 (oy 2 bS rfl (r1 11 rfl bS (aD Ty.s82 (fun _=>rfl) rfl rfl hx4 (ry 12 bS rfl (raT fN))))))
   ·exact ra1 13 (oy 2 bS rfl (ry 16 bS rfl (r1 17 rfl cB (bi (v:=.bool (decide (x4.Key >= x3.Key))) rfl bS rfl (r0 18 rfl (ba (v:=.bool (decide (x4.Key >= x3.Key))) rfl cB rfl (raT iL)))))))
   exact RA.done (by decide +kernel) (T.weakR hK (Weak.mkN [] [0] (by decide) (b7 _) rfl ⟨am rfl,rn_s rfl,dt rfl,dt rfl,e8 ((congrArg (fun p=>p) (LY hz)).symm),tqz⟩ (d5 (aB p0) rfl (ap))))
  replace hz:=bV hz bS;refine T.drawn mixed (k:=19) rfl (rq [0] 18 (ra1 1 (og 2 ⟨rfl,(rq [2,3] 15 (ry 4 cB rfl (ry 5 cB rfl (ry 6 cB rfl (r2 7 rfl bS (r2 8 rfl bS ?_))))))⟩)));refine r2 9 rfl bS (r2 10 rfl bS (r2 11 rfl bS (r2 12 rfl bS (r2 13 rfl bS (r2 14 rfl bS (r2 15 rfl bS (r2 16 rfl bS (r1 17 rfl cB (ba (v:=.bool false) rfl bS rfl (r0 18 rfl (ba (v:=.bool false) rfl cB rfl ?_)))))))))));exact RA.done (by decide +kernel) (T.weakR hK (Weak.mkN [] [0] (by decide) (b7 _) rfl ⟨am rfl,rn_s rfl,dt rfl,dt rfl,e8 ((congrArg (fun p=>p) (LY hz)).symm),tqz⟩ (d5 (aB p0) rfl (ap))))
 refine X 1 1 ?_;replace h:=mi h tJ;refine X 7 1 (T.ci h rfl (fun q7 h=>?_) (fun q7 h=>?_))
 ·refine X 4 1 ?_;cases h;exact tD
 refine X 5 1 ?_;cases h;exact tD
theorem Ev {p0:Net} {p1:Choice} {r:Bool} (h:pW p0 p1=some r):Fn Tryz.prog 121 [.agg (aN p0),.agg (aA p1)] (.bool r):=by
 unfold pW at h;refine fT 0 6 Tryz.func121 Tryz.ntmps121 rfl ?_;obtain ⟨rh,hz,h⟩:=bind_some h;revert hz h;revert rh;intro c3 hz h;refine j1 [(4,.bool c3)] [] ?_ (fun hK=>?_)
 ·cases h;exact tD
 refine X 1 2 ?_;rcases bp (decide (p1.Node >= 0)) with ah | ah
 ·replace hz:=bX hz ah;rcases bp (decide (p1.Node<((p0.Nodes).length:Int))) with ae | ae
  ·replace hz:=bX hz ae;refine B hz fun x1 hx1 hz=>?_
   rcases bp (x1.Kind==6) with ao | ao
   ·replace hz:=bX hz ao;rcases bp (decide (p1.Lane >= 0)) with aC | aC
    ·replace hz:=bX hz aC;refine B hz fun x2 hx2 hz=>(T.drawn mixed (k:=40) rfl ?_)
     apply RA.jn 0 (bm 40 1099511627775);intro hS6;apply RA.jn 5 (bm 40 34359738367);intro hS7;apply RA.jn 6 (bm 40 34091302911);intro hS8;apply RA.jn 8 (bm 40 7516192767);intro hS9;apply RA.jn 8 (bm 40 4294967295);intro cZ;apply RA.jn 22 (bm 40 262143);intro cX;apply RA.jn 26 (bm 40 24575);intro eO
     ·refine rq [0] 39 (ra1 1 (og 2 ⟨rfl,(rq [2,3] 36 (ry 4 ah rfl (ry 6 ah rfl (ra2 5 7 ?_ ?_))))⟩))
      ·exact oy 2 ah rfl (ra1 7 (oy 2 ah rfl (r1 8 rfl ah (ak Ty.s22 rfl (ry 9 ah rfl (r0 10 rfl (bi (v:=.bool (decide (p1.Node<((p0.Nodes).length:Int)))) rfl ah rfl (rq [11] 28 (ry 12 ae rfl (ry 14 ae rfl (raE eO)))))))))))
      ·exact oy 2 ah rfl (r1 8 rfl ah (ak Ty.s22 rfl (ra1 5 (oy 2 ah rfl (ry 9 ah rfl (r0 10 rfl (bi (v:=.bool (decide (p1.Node<((p0.Nodes).length:Int)))) rfl ah rfl (rq [11] 28 (ry 12 ae rfl (ry 14 ae rfl (raT eO)))))))))))
     ·refine ra2 13 15 ?_ ?_
      ·exact oy 2 ae rfl (ra1 15 (oy 2 ae rfl (r1 16 rfl ae (aD Ty.s22 (fun _=>rfl) rfl rfl hx1 (ry 17 ae rfl (raE cX))))))
      ·exact oy 2 ae rfl (ra1 13 (oy 2 ae rfl (r1 16 rfl ae (aD Ty.s22 (fun _=>rfl) rfl rfl hx1 (ry 17 ae rfl (raT cX))))))
     ·refine ra1 18 (oy 2 ae rfl (ry 19 ae rfl (r0 20 rfl (bi (v:=.bool (x1.Kind==6)) rfl ae rfl (rq [21] 18 (ry 22 ao rfl (ra1 23 (oy 2 ao rfl (ry 24 ao rfl (r0 25 rfl (bi (v:=.bool (decide (p1.Lane >= 0))) rfl ao rfl ?_)))))))))));refine rq [26] 13 (ry 27 aC rfl (ry 29 aC rfl (ry 31 aC rfl (ra3 28 30 32 ?_ ?_ ?_))))
      ·refine oy 2 aC rfl (ra2 30 32 ?_ ?_)
       ·exact oy 2 aC rfl (raE cZ)
       ·exact oy 2 aC rfl (raE hS9)
      ·refine oy 2 aC rfl (ra2 28 32 ?_ ?_)
       ·exact oy 2 aC rfl (raT cZ)
       ·exact oy 2 aC rfl (r1 33 rfl aC (aD Ty.s22 (fun _=>rfl) rfl rfl hx2 (ry 34 aC rfl (raE hS8))))
      ·refine oy 2 aC rfl (ra2 28 30 ?_ ?_)
       ·exact oy 2 aC rfl (raT hS9)
       ·exact oy 2 aC rfl (r1 33 rfl aC (aD Ty.s22 (fun _=>rfl) rfl rfl hx2 (ry 34 aC rfl (raT hS8))))
     ·exact ra1 32 (oy 2 aC rfl (r1 33 rfl aC (aD Ty.s22 (fun _=>rfl) rfl rfl hx2 (ry 34 aC rfl (raE hS7)))))
     ·exact ra1 30 (oy 2 aC rfl (r1 33 rfl aC (aD Ty.s22 (fun _=>rfl) rfl rfl hx2 (ry 34 aC rfl (raT hS7)))))
     ·refine ra2 28 35 ?_ ?_
      ·exact oy 2 aC rfl (raT hS7)
      ·exact oy 2 aC rfl (r1 36 rfl aC (ak Ty.s27 rfl (ra1 28 (oy 2 aC rfl (ry 37 aC rfl (r0 38 rfl (bi (v:=.bool (decide (p1.Lane<((x2.In).length:Int)))) rfl aC rfl (rq [39] 0 (raE hS6)))))))))
     ·exact ra1 35 (oy 2 aC rfl (r1 36 rfl aC (ak Ty.s27 rfl (ry 37 aC rfl (r0 38 rfl (bi (v:=.bool (decide (p1.Lane<((x2.In).length:Int)))) rfl aC rfl (rq [39] 0 (raT hS6))))))))
     exact RA.done (by decide +kernel) (T.weakR hK (Weak.mkN [] [] (by decide) (b7 _) rfl ⟨e8 ((congrArg (fun p=>p) (LY hz)).symm),tqz⟩ (ap)))
    replace hz:=bV hz aC;refine T.drawn mixed (k:=40) rfl ?_;apply RA.jn 22 (bm 40 262143);intro kW;apply RA.jn 26 (bm 40 24575);intro g9
    ·refine rq [0] 39 (ra1 1 (og 2 ⟨rfl,(rq [2,3] 36 (ry 4 ah rfl (ry 6 ah rfl (ra2 5 7 ?_ ?_))))⟩))
     ·exact oy 2 ah rfl (ra1 7 (oy 2 ah rfl (r1 8 rfl ah (ak Ty.s22 rfl (ry 9 ah rfl (r0 10 rfl (bi (v:=.bool (decide (p1.Node<((p0.Nodes).length:Int)))) rfl ah rfl (rq [11] 28 (ry 12 ae rfl (ry 14 ae rfl (raE g9)))))))))))
     ·exact oy 2 ah rfl (r1 8 rfl ah (ak Ty.s22 rfl (ra1 5 (oy 2 ah rfl (ry 9 ah rfl (r0 10 rfl (bi (v:=.bool (decide (p1.Node<((p0.Nodes).length:Int)))) rfl ah rfl (rq [11] 28 (ry 12 ae rfl (ry 14 ae rfl (raT g9)))))))))))
    ·refine ra2 13 15 ?_ ?_
     ·exact oy 2 ae rfl (ra1 15 (oy 2 ae rfl (r1 16 rfl ae (aD Ty.s22 (fun _=>rfl) rfl rfl hx1 (ry 17 ae rfl (raE kW))))))
     ·exact oy 2 ae rfl (ra1 13 (oy 2 ae rfl (r1 16 rfl ae (aD Ty.s22 (fun _=>rfl) rfl rfl hx1 (ry 17 ae rfl (raT kW))))))
    refine ra1 18 (oy 2 ae rfl (ry 19 ae rfl (r0 20 rfl (bi (v:=.bool (x1.Kind==6)) rfl ae rfl (rq [21] 18 (ry 22 ao rfl (ra1 23 (oy 2 ao rfl (ry 24 ao rfl (r0 25 rfl (bi (v:=.bool (decide (p1.Lane >= 0))) rfl ao rfl ?_)))))))))));refine rq [26] 13 (r2 27 rfl aC (r2 28 rfl aC (r2 29 rfl aC (r2 30 rfl aC (r2 31 rfl aC (r2 32 rfl aC (r2 33 rfl aC (r2 34 rfl aC (r2 35 rfl aC ?_)))))))));exact r2 36 rfl aC (r2 37 rfl aC (r0 38 rfl (ba (v:=.bool false) rfl aC rfl (rq [39] 0 (RA.done (by decide +kernel) (T.weakR hK (Weak.mkN [] [] (by decide) (b7 _) rfl ⟨e8 ((congrArg (fun p=>p) (LY hz)).symm),tqz⟩ (ap))))))))
   replace hz:=bV hz ao;refine T.drawn mixed (k:=40) rfl ?_;apply RA.jn 22 (bm 40 262143);intro iM;apply RA.jn 26 (bm 40 24575);intro kX
   ·refine rq [0] 39 (ra1 1 (og 2 ⟨rfl,(rq [2,3] 36 (ry 4 ah rfl (ry 6 ah rfl (ra2 5 7 ?_ ?_))))⟩))
    ·exact oy 2 ah rfl (ra1 7 (oy 2 ah rfl (r1 8 rfl ah (ak Ty.s22 rfl (ry 9 ah rfl (r0 10 rfl (bi (v:=.bool (decide (p1.Node<((p0.Nodes).length:Int)))) rfl ah rfl (rq [11] 28 (ry 12 ae rfl (ry 14 ae rfl (raE kX)))))))))))
    ·exact oy 2 ah rfl (r1 8 rfl ah (ak Ty.s22 rfl (ra1 5 (oy 2 ah rfl (ry 9 ah rfl (r0 10 rfl (bi (v:=.bool (decide (p1.Node<((p0.Nodes).length:Int)))) rfl ah rfl (rq [11] 28 (ry 12 ae rfl (ry 14 ae rfl (raT kX)))))))))))
   ·refine ra2 13 15 ?_ ?_
    ·exact oy 2 ae rfl (ra1 15 (oy 2 ae rfl (r1 16 rfl ae (aD Ty.s22 (fun _=>rfl) rfl rfl hx1 (ry 17 ae rfl (raE iM))))))
    ·exact oy 2 ae rfl (ra1 13 (oy 2 ae rfl (r1 16 rfl ae (aD Ty.s22 (fun _=>rfl) rfl rfl hx1 (ry 17 ae rfl (raT iM))))))
   refine ra1 18 (oy 2 ae rfl (ry 19 ae rfl (r0 20 rfl (bi (v:=.bool (x1.Kind==6)) rfl ae rfl (rq [21] 18 (r2 22 rfl ao (r2 23 rfl ao (r2 24 rfl ao (r0 25 rfl (ba (v:=.bool false) rfl ao rfl (rq [26] 13 ?_)))))))))));refine r2 27 rfl rfl (r2 28 rfl rfl (r2 29 rfl rfl (r2 30 rfl rfl (r2 31 rfl rfl (r2 32 rfl rfl (r2 33 rfl rfl (r2 34 rfl rfl (r2 35 rfl rfl (r2 36 rfl rfl ?_)))))))));exact r2 37 rfl rfl (r0 38 rfl (ba (v:=.bool false) rfl rfl rfl (rq [39] 0 (RA.done (by decide +kernel) (T.weakR hK (Weak.mkN [] [] (by decide) (b7 _) rfl ⟨e8 ((congrArg (fun p=>p) (LY hz)).symm),tqz⟩ (ap)))))))
  replace hz:=bV hz ae;refine T.drawn mixed (k:=40) rfl ?_;apply RA.jn 0 (bm 40 1099511627775);intro kY
  ·refine rq [0] 39 (ra1 1 (og 2 ⟨rfl,(rq [2,3] 36 (ry 4 ah rfl (ry 6 ah rfl (ra2 5 7 ?_ ?_))))⟩))
   ·refine oy 2 ah rfl (ra1 7 (oy 2 ah rfl (r1 8 rfl ah (ak Ty.s22 rfl (ry 9 ah rfl (r0 10 rfl (bi (v:=.bool (decide (p1.Node<((p0.Nodes).length:Int)))) rfl ah rfl (rq [11] 28 (r2 12 rfl ae (r2 13 rfl ae (r2 14 rfl ae ?_)))))))))));refine r2 15 rfl ae (r2 16 rfl ae (r2 17 rfl ae (r2 18 rfl ae (r2 19 rfl ae (r0 20 rfl (ba (v:=.bool false) rfl ae rfl (rq [21] 18 (r2 22 rfl rfl (r2 23 rfl rfl (r2 24 rfl rfl ?_))))))))));refine r0 25 rfl (ba (v:=.bool false) rfl rfl rfl (rq [26] 13 (r2 27 rfl rfl (r2 28 rfl rfl (r2 29 rfl rfl (r2 30 rfl rfl (r2 31 rfl rfl (r2 32 rfl rfl (r2 33 rfl rfl (r2 34 rfl rfl ?_))))))))));exact r2 35 rfl rfl (r2 36 rfl rfl (r2 37 rfl rfl (r0 38 rfl (ba (v:=.bool false) rfl rfl rfl (rq [39] 0 (raE kY))))))
   ·refine oy 2 ah rfl (r1 8 rfl ah (ak Ty.s22 rfl (ra1 5 (oy 2 ah rfl (ry 9 ah rfl (r0 10 rfl (bi (v:=.bool (decide (p1.Node<((p0.Nodes).length:Int)))) rfl ah rfl (rq [11] 28 (r2 12 rfl ae (r2 13 rfl ae (r2 14 rfl ae ?_)))))))))));refine r2 15 rfl ae (r2 16 rfl ae (r2 17 rfl ae (r2 18 rfl ae (r2 19 rfl ae (r0 20 rfl (ba (v:=.bool false) rfl ae rfl (rq [21] 18 (r2 22 rfl rfl (r2 23 rfl rfl (r2 24 rfl rfl ?_))))))))));refine r0 25 rfl (ba (v:=.bool false) rfl rfl rfl (rq [26] 13 (r2 27 rfl rfl (r2 28 rfl rfl (r2 29 rfl rfl (r2 30 rfl rfl (r2 31 rfl rfl (r2 32 rfl rfl (r2 33 rfl rfl (r2 34 rfl rfl ?_))))))))));exact r2 35 rfl rfl (r2 36 rfl rfl (r2 37 rfl rfl (r0 38 rfl (ba (v:=.bool false) rfl rfl rfl (rq [39] 0 (raT kY))))))
  exact RA.done (by decide +kernel) (T.weakR hK (Weak.mkN [] [] (by decide) (b7 _) rfl ⟨e8 ((congrArg (fun p=>p) (LY hz)).symm),tqz⟩ (ap)))
 replace hz:=bV hz ah;refine T.drawn mixed (k:=40) rfl (rq [0] 39 (ra1 1 (og 2 ⟨rfl,(rq [2,3] 36 (r2 4 rfl ah (r2 5 rfl ah (r2 6 rfl ah (r2 7 rfl ah (r2 8 rfl ah ?_))))))⟩)));refine r2 9 rfl ah (r0 10 rfl (ba (v:=.bool false) rfl ah rfl (rq [11] 28 (r2 12 rfl rfl (r2 13 rfl rfl (r2 14 rfl rfl (r2 15 rfl rfl (r2 16 rfl rfl (r2 17 rfl rfl (r2 18 rfl rfl ?_))))))))));refine r2 19 rfl rfl (r0 20 rfl (ba (v:=.bool false) rfl rfl rfl (rq [21] 18 (r2 22 rfl rfl (r2 23 rfl rfl (r2 24 rfl rfl (r0 25 rfl (ba (v:=.bool false) rfl rfl rfl (rq [26] 13 (r2 27 rfl rfl (r2 28 rfl rfl ?_)))))))))));refine r2 29 rfl rfl (r2 30 rfl rfl (r2 31 rfl rfl (r2 32 rfl rfl (r2 33 rfl rfl (r2 34 rfl rfl (r2 35 rfl rfl (r2 36 rfl rfl (r2 37 rfl rfl (r0 38 rfl (ba (v:=.bool false) rfl rfl rfl ?_))))))))));exact rq [39] 0 (RA.done (by decide +kernel) (T.weakR hK (Weak.mkN [] [] (by decide) (b7 _) rfl ⟨e8 ((congrArg (fun p=>p) (LY hz)).symm),tqz⟩ (ap))))
end
section
open Go.RowKit
set_option maxRecDepth 100000
set_option maxHeartbeats 4000000
set_option synthInstance.maxSize 100000
set_option synthInstance.maxHeartbeats 4000000
theorem rZ {p0:Net} {p1:List (List Item)} {p2:State} {r:Int} (h:gC p0 p1 p2=some r):Fn Tryz.prog 62 [.agg (aN p0),sL (ai aa) p1,.agg (bG p2)] (iI r):=by
 unfold gC at h;refine fT 0 0 Tryz.func62 Tryz.ntmps62 rfl ?_;refine B h fun x2 hx2 h=>(X 11 0 (sO (cF (ui hx2) ⟨rfl,(Y 7 2 (T.ci h rfl (fun ah h=>?_) (fun ah h=>?_)))⟩)))
 ·refine X 5 2 ?_;cases h;exact tD
 refine X 2 2 (j1 [(1,sL (ai aa) p1),(3,.ptr 0 0),(5,.ptr 1 0),(46,.bool ((((p2.At).length:Int) != ((p1).length:Int)) || ((((p2.Rings).length:Int) != p0.Rings) || ((p2.Memory).length:Int) != ((p0.Nodes).length:Int))))] [.box (aN p0),.box (bG p2)] ?_ (fun hK=>?_))
 ·refine T.ci h rfl (fun aC h=>?_) (fun aC h=>?_)
  ·refine X 4 2 ?_;cases h;exact tD
  refine X 2 2 (j1 [(1,sL (ai aa) p1),(3,.ptr 0 0),(5,.ptr 1 0),(56,.bool ((decide (((p2.Choices).length:Int) > 500)) || decide (((p2.Out).length:Int) > 2000)))] [.box (aN p0),.box (bG p2)] ?_ (fun hK=>?_))
  ·refine T.ci h rfl (fun aS h=>?_) (fun aS h=>?_)
   ·refine X 4 2 ?_;cases h;exact tD
   refine X 6 2 (sQ (ak Ty.s27 rfl (Y 3 2 (itr (fun eu:Int=>mkA 131 [(1,sL (ai aa) p1),(3,.ptr 0 0),(5,.ptr 1 0),(58,sL aj p2.At),(59,iI ((p2.At).length:Int)),(60,iI eu)]) (fun eu=>[.box (aN p0),.box (bG p2)]) h (wk [] [0,1] 2 rfl) (fun eu v_16 h oK=>?_)))));revert oK h;revert eu;intro s5 h oK;replace h:pO p0 p1 p2 s5=some v_16:=h;try dsimp only
   unfold pO at h;refine X 5 2 (T.ci h rfl (fun fV h=>?_) (fun fV h=>?_))
   ·refine B h fun x7 hx7 h=>(X 6 2 (sQ (aD Ty.s27 (fun _=>rfl) rfl rfl hx7 (Y 4 2 ?_))))
    obtain ⟨Lq,hz,h⟩:=bind_some h;revert hz h;revert Lq;intro c9 hz h;refine j1 [(1,sL (ai aa) p1),(3,.ptr 0 0),(5,.ptr 1 0),(58,sL aj p2.At),(59,iI ((p2.At).length:Int)),(60,iI s5),(75,.bool c9)] [.box (aN p0),.box (bG p2)] ?_ (fun hK=>?_)
    ·refine T.ci h rfl (fun bS h=>?_) (fun bS h=>?_)
     ·refine X 4 2 ?_;replace h:=mi h oK;cases h;exact tD
     exact X 5 2 (lk h (wk [] [0,1] 2 rfl))
    refine X 5 2 (gi 67 hz (fun mH hz=>?_) (fun mH hz=>?_))
    ·refine Yp 9 2 ?_;cases hz;exact sx hK
    refine B hz fun x8 hx8 hz=>(Y 3 2 (yQ rfl (aD Ty.s25 (fun _=>rfl) rfl rfl hx8 (Y 1 2 (yQ rfl (ak Ty.s30 rfl (Yp 3 2 ?_)))))))
    cases hz;exact sx hK
   refine X 1 2 ?_;replace h:=mi h oK;refine X 10 2 (sQ (ak Ty.s25 rfl (Y 3 2 (itr (fun db:Int=>mkA 131 [(3,.ptr 0 0),(5,.ptr 1 0),(10,.func 117 [.ptr 1 0]),(79,sL (ai aa) p2.Rings),(80,iI ((p2.Rings).length:Int)),(81,iI db)]) (fun db=>[.box (aN p0),.box (bG p2)]) h (wk [] [0,1] 2 rfl) (fun db v_30 h fK=>?_)))));revert fK h;revert db;intro s10 h fK;replace h:nw p0 p2 s10=some v_30:=h;try dsimp only
   unfold nw at h;refine X 5 2 (T.ci h rfl (fun mJ h=>?_) (fun mJ h=>?_))
   ·refine B h fun x12 bv h=>(X 5 2 (sQ (aD Ty.s25 (fun _=>rfl) rfl rfl bv (Y 7 2 (sQ (ak Ty.s30 rfl (Y 4 2 (T.ci h rfl (fun d6 h=>?_) (fun d6 h=>?_)))))))))
    ·refine X 4 2 ?_;replace h:=mi h fK;cases h;exact tD
    refine B h fun x14 cY h=>(X 5 2 (sO (cG [1] 2 1 (xa cY) ⟨rfl,(Y 2 2 (T.ci h rfl (fun mK h=>?_) (fun mK h=>?_)))⟩)))
    ·refine X 4 2 ?_;replace h:=mi h fK;cases h;exact tD
    exact X 5 2 (lk h (wk [] [0,1] 2 rfl))
   refine X 1 2 ?_;replace h:=mi h fK;refine X 5 2 (sQ (ak Ty.s28 rfl (Y 3 2 (itr (fun kN:Int=>mkA 131 [(3,.ptr 0 0),(5,.ptr 1 0),(10,.func 117 [.ptr 1 0]),(96,sL aB p2.Memory),(97,iI ((p2.Memory).length:Int)),(98,iI kN)]) (fun kN=>[.box (aN p0),.box (bG p2)]) h (wk [] [0,1] 2 rfl) (fun kN v_44 h q8=>?_)))));revert q8 h;revert kN;intro s15 h q8;replace h:nC p0 p2 s15=some v_44:=h;try dsimp only
   unfold nC at h;refine X 5 2 (T.ci h rfl (fun q9 h=>?_) (fun q9 h=>?_))
   ·refine B h fun x17 cN h=>(X 5 2 (sQ (aD Ty.s28 (fun _=>rfl) rfl rfl cN (B h fun x19 dz h=>(Y 8 2 (sO (cF (xt dz) ⟨rfl,(Y 7 3 (T.ci h rfl (fun v8 h=>?_) (fun v8 h=>?_)))⟩)))))))
    ·refine X 5 3 ?_;replace h:=mi h q8;cases h;exact tD
    refine X 7 3 (sQ (ak Ty.s29 rfl (Y 2 3 (T.ci h rfl (fun v9 h=>?_) (fun v9 h=>?_)))))
    ·refine X 4 3 ?_;replace h:=mi h q8;cases h;exact tD
    exact X 5 3 (lk h (wk [] [0,1] 3 rfl))
   refine X 1 2 ?_;replace h:=mi h q8;refine X 5 2 (sQ (ak Ty.s29 rfl (Y 3 2 (itr (fun iH:Int=>mkA 131 [(3,.ptr 0 0),(5,.ptr 1 0),(10,.func 117 [.ptr 1 0]),(115,sL aA p2.Choices),(116,iI ((p2.Choices).length:Int)),(117,iI iH)]) (fun iH=>[.box (aN p0),.box (bG p2)]) h (wk [] [0,1] 2 rfl) (fun iH v_56 h tK=>?_)))));revert tK h;revert iH;intro s20 h tK;replace h:nr p0 p2 s20=some v_56:=h;try dsimp only
   unfold nr at h;refine X 5 2 (T.ci h rfl (fun Lr h=>?_) (fun Lr h=>?_))
   ·refine B h fun x22 f0 h=>(X 5 2 (sQ (aD Ty.s29 (fun _=>rfl) rfl rfl f0 (B h fun x24 d7 h=>(Y 8 2 (sO (cF (Ev d7) ⟨rfl,(Y 2 3 (T.ci h rfl (fun v6 h=>?_) (fun v6 h=>?_)))⟩)))))))
    ·refine X 4 3 ?_;replace h:=mi h tK;cases h;exact tD
    exact X 5 3 (lk h (wk [] [0,1] 3 rfl))
   refine X 1 2 ?_;replace h:=mi h tK;refine B h fun x26 fY h=>(X 6 2 (sO (cG [1] 2 1 (xa fY) ⟨rfl,(Y 2 2 (T.ci h rfl (fun Ls h=>?_) (fun Ls h=>?_)))⟩)))
   ·refine X 4 2 ?_;cases h;exact tD
   refine X 5 2 ?_;cases h;exact tD
  refine X 4 2 (sQ (ak Ty.s29 rfl (Y 2 2 (gp 51 (fun aK=>?_) (fun aK=>?_)))))
  ·refine Yp 6 2 ?_;rw [aK] at hK;exact sx hK
  refine Y 2 2 (yQ rfl (ak Ty.s30 rfl (Yp 3 2 ?_)));rw [aK] at hK;exact sx hK
 refine X 4 2 (sQ (ak Ty.s27 rfl (Y 1 2 (sQ (ak Ty.s25 rfl (Y 2 2 (gp 30 (fun ae=>?_) (fun ae=>?_))))))))
 ·refine Yp 17 2 ?_;rw [ae] at hK;exact sx hK
 refine Y 2 2 (yQ rfl (ak Ty.s25 rfl (Yp 5 2 (gp 38 (fun ao=>?_) (fun ao=>?_)))))
 ·refine Yp 9 2 ?_;rw [ae] at hK;rw [ao] at hK;exact sx hK
 refine Y 2 2 (yQ rfl (ak Ty.s28 rfl (Y 2 2 (yQ rfl (ak Ty.s22 rfl (Yp 3 2 ?_))))));rw [ae] at hK;rw [ao] at hK;exact sx hK
theorem lz {p0:Disk} {r:Int} (h:fD p0=some r):Fn Tryz.prog 63 [.agg (bU p0)] (iI r):=by
 unfold fD at h;refine fT 0 6 Tryz.func63 Tryz.ntmps63 rfl (j1 [(1,.ptr 0 0),(16,.bool ((decide (((p0.Sectors).length:Int) > 200)) || decide (((p0.Wait).length:Int) > 300)))] [.box (bU p0)] ?_ (fun hK=>?_))
 ·refine T.ci h rfl (fun ae h=>?_) (fun ae h=>?_)
  ·refine X 4 1 ?_;cases h;exact tD
  refine X 6 1 (sQ (ak Ty.s33 rfl (Y 3 1 (itr (fun be:Int=>mkA 48 [(1,.ptr 0 0),(18,sL aP p0.Sectors),(19,iI ((p0.Sectors).length:Int)),(20,iI be)]) (fun be=>[.box (bU p0)]) h (wk [] [0] 1 rfl) (fun be v_8 h kZ=>?_)))));revert kZ h;revert be;intro s2 h kZ;replace h:iU p0 s2=some v_8:=h;try dsimp only
  unfold iU at h;refine X 5 1 (T.ci h rfl (fun bM h=>?_) (fun bM h=>?_))
  ·refine B h fun x4 hx4 h=>(X 5 1 (sQ (aD Ty.s33 (fun _=>rfl) rfl rfl hx4 (Y 9 1 (T.ci h rfl (fun fq h=>?_) (fun fq h=>?_))))))
   ·refine X 4 1 ?_;replace h:=mi h kZ;cases h;exact tD
   exact X 5 1 (lk h (wk [] [0] 1 rfl))
  refine X 1 1 ?_;replace h:=mi h kZ;refine X 5 1 (sQ (ak Ty.s34 rfl (Y 3 1 (itr (fun fo:Int=>mkA 48 [(29,sL aX p0.Wait),(30,iI ((p0.Wait).length:Int)),(31,iI fo)]) (fun fo=>[]) h (wk [] [] 1 rfl) (fun fo v_22 h mM=>?_)))));revert mM h;revert fo;intro s5 h mM;replace h:jS p0 s5=some v_22:=h;try dsimp only
  unfold jS at h;refine X 5 0 (T.ci h rfl (fun ra h=>?_) (fun ra h=>?_))
  ·refine B h fun x7 hx7 h=>(X 5 0 (sQ (aD Ty.s34 (fun _=>rfl) rfl rfl hx7 (Y 5 0 (j1 [(6,.ptr 0 0),(29,sL aX p0.Wait),(30,iI ((p0.Wait).length:Int)),(31,iI s5),(42,.bool ((decide (x7.At<0)) || decide (x7.At >= 200)))] [.box (aX x7)] ?_ (fun hK=>?_))))))
   ·refine T.ci h rfl (fun wa h=>?_) (fun wa h=>?_)
    ·refine X 4 1 ?_;replace h:=mi h mM;cases h;exact tD
    refine X 8 1 (T.ci h rfl (fun q7 h=>?_) (fun q7 h=>?_))
    ·refine X 4 1 ?_;replace h:=mi h mM;cases h;exact tD
    exact X 5 1 (lk h (wk [] [] 1 rfl))
   refine X 6 1 (gp 38 (fun rb=>?_) (fun rb=>?_))
   ·refine Yp 5 1 ?_;rw [rb] at hK;exact sx hK
   refine Yp 5 1 ?_;rw [rb] at hK;exact sx hK
  refine X 1 0 ?_;replace h:=mi h mM;refine X 4 0 ?_;cases h;exact tD
 refine X 4 1 (sQ (ak Ty.s33 rfl (Y 2 1 (gp 11 (fun ah=>?_) (fun ah=>?_)))))
 ·refine Yp 6 1 ?_;rw [ah] at hK;exact sx hK
 refine Y 2 1 (yQ rfl (ak Ty.s34 rfl (Yp 3 1 ?_)));rw [ah] at hK;exact sx hK
theorem EP {p0:Shop} {r:Int} (h:qd p0=some r):Fn Tryz.prog 21 [.agg (eV p0)] (iI r):=by
 unfold qd at h;refine fT 0 0 Tryz.func21 Tryz.ntmps21 rfl ?_;refine B h fun x2 hx2 h=>(X 14 0 (sO (cF (rZ hx2) ⟨rfl,(Y 7 1 (T.ci h rfl (fun ah h=>?_) (fun ah h=>?_)))⟩)))
 ·refine X 5 1 ?_;cases h;exact tD
 refine B h fun x4 hx4 h=>(X 6 1 (sO (cF (lz hx4) ⟨rfl,(Y 7 1 (T.ci h rfl (fun ae h=>?_) (fun ae h=>?_)))⟩)))
 ·refine X 5 1 ?_;cases h;exact tD
 refine X 2 1 (j1 [(1,.ptr 0 0),(73,.bool ((decide (p0.Safe<0)) || ((decide (p0.Safe > p0.Logged)) || ((decide (p0.Logged > ((p0.S.Choices).length:Int))) || ((decide (p0.Epoch<0)) || ((decide (p0.Epoch > 200)) || ((decide (p0.Laid<(-1))) || ((decide (p0.Laid > ((p0.S.Choices).length:Int))) || ((decide (p0.Next<0)) || decide (p0.Next > 80))))))))))] [.box (eV p0)] ?_ (fun hK=>?_))
 ·refine T.ci h rfl (fun qZ h=>?_) (fun qZ h=>?_)
  ·refine X 4 1 ?_;cases h;exact tD
  refine X 6 1 (sQ (ak Ty.s30 rfl (Y 2 1 (T.ci h rfl (fun jy h=>?_) (fun jy h=>?_)))))
  ·refine X 4 1 ?_;cases h;exact tD
  refine X 5 1 ?_;cases h;exact tD
 refine X 6 1 (gp 24 (fun ao=>?_) (fun ao=>?_))
 ·refine Yp 50 1 ?_;rw [ao] at hK;exact sx hK
 refine Yp 7 1 (gp 31 (fun aC=>?_) (fun aC=>?_))
 ·refine Yp 43 1 ?_;rw [ao] at hK;rw [aC] at hK;exact sx hK
 refine Y 5 1 (yQ rfl (ak Ty.s29 rfl (Yp 3 1 (gp 40 (fun aK=>?_) (fun aK=>?_)))))
 ·refine Yp 34 1 ?_;rw [ao] at hK;rw [aC] at hK;rw [aK] at hK;exact sx hK
 refine Yp 5 1 (gp 45 (fun aS=>?_) (fun aS=>?_))
 ·refine Yp 29 1 ?_;rw [ao] at hK;rw [aC] at hK;rw [aK] at hK;rw [aS] at hK;exact sx hK
 refine Yp 5 1 (gp 50 (fun bE=>?_) (fun bE=>?_))
 ·refine Yp 24 1 ?_;rw [ao] at hK;rw [aC] at hK;rw [aK] at hK;rw [aS] at hK;rw [bE] at hK;exact sx hK
 refine Yp 5 1 (gp 55 (fun bj=>?_) (fun bj=>?_))
 ·refine Yp 19 1 ?_;rw [ao] at hK;rw [aC] at hK;rw [aK] at hK;rw [aS] at hK;rw [bE] at hK;rw [bj] at hK;exact sx hK
 refine Y 5 1 (yQ rfl (ak Ty.s29 rfl (Yp 3 1 (gp 64 (fun bM=>?_) (fun bM=>?_)))))
 ·refine Yp 10 1 ?_;rw [ao] at hK;rw [aC] at hK;rw [aK] at hK;rw [aS] at hK;rw [bE] at hK;rw [bj] at hK;rw [bM] at hK;exact sx hK
 refine Yp 5 1 (gp 69 (fun fq=>?_) (fun fq=>?_))
 ·refine Yp 5 1 ?_;rw [ao] at hK;rw [aC] at hK;rw [aK] at hK;rw [aS] at hK;rw [bE] at hK;rw [bj] at hK;rw [bM] at hK;rw [fq] at hK;exact sx hK
 refine Yp 5 1 ?_;rw [ao] at hK;rw [aC] at hK;rw [aK] at hK;rw [aS] at hK;rw [bE] at hK;rw [bj] at hK;rw [bM] at hK;rw [fq] at hK;exact sx hK
theorem Dg {p0 r:List (List Item)} (h:rz p0=some r):FnO Tryz.prog 128 [.sl (List.map (ai aa) p0)] (.ref 0) [.arr 30 1 (List.map (ai aa) r)]:=by
 have hr:p0=r:=by
  unfold rz app at h;split at h
  ·simpa using h
  ·cases h
 refine gK (N:=0) rfl Tryz.func128 rfl (by kernel_rfl) Tryz.ntmps128 rfl ?_;show T _ _ _ _ (mkA 8 [(0,.sl (List.map (ai aa) p0))]) [];refine T.seq ?_;refine T.region ?_;refine RS.op rfl (OP.q rfl (cx (v:=.nils) rfl ?_));refine RS.nil ?_;refine T.seq ?_;refine T.seq ?_;refine T.region ?_;refine RS.op rfl (OP.q rfl (dX (v:=.sl (List.map (ai aa) p0)) rfl ?_));refine RS.op rfl (OP.q rfl (jk Ty.s25 rfl rfl (fun z hz=>?_)));refine RS.nil ?_;refine T.cond (b:=z) rfl (fun hb=>?_) (fun hb=>?_)
 ·refine T.seq ?_;refine T.region ?_;refine RS.op rfl (OP.q rfl (cx (v:=.nils) rfl ?_));refine RS.nil ?_;refine T.ret ?_;refine dT (v:=.nils) rfl ?_;refine dU ?_;have h0:p0=[]:=MF.1 (hz hb);exact dW (.ref 0) [(0,30,1)] [0] (by decide) (b7 _) rfl (cm rfl) (dZ (en:=(ai aa)) (ys:=[]) rfl (mo eU) (by rw [<- hr,h0]) (ap)) ⟨rfl,rfl⟩
 ·refine T.skip ?_;refine T.seq ?_;refine T.region ?_;refine RS.op rfl (bn (rows:=List.map (ai aa) []) (vs:=[]) Ty.s25 Ty.z30 rfl rfl rfl rfl rfl (aw':=[.arr 30 1 (List.map (ai aa) [])]) rfl ?_);refine RS.op rfl (OP.q rfl (dX (v:=.sl (List.map (ai aa) p0)) rfl ?_));refine RS.op rfl (cc (en:=(ai aa)) (xs:=([]:List (List Item))) (ys:=p0) (r:=r) Ty.s25 (fun _=>rfl) rfl rfl rfl h rfl (aw':=[.dead,.arr 30 1 (List.map (ai aa) r)]) rfl ?_);refine RS.op rfl (OP.q rfl (cx (v:=.ref 1) rfl ?_));refine RS.nil ?_;refine T.ret ?_;refine dT (v:=.ref 1) rfl ?_;refine dU ?_;exact dW (.ref 0) [] [1] (by decide) (b7 _) rfl (cm rfl) (dZ rfl (mo eU) rfl (ap)) ⟨rfl,rfl⟩
theorem Dw {p0 r:List Memory} (h:rG p0=some r):FnO Tryz.prog 129 [.sl (List.map aB p0)] (.ref 0) [.arr 84 3 (List.map aB r)]:=by
 have hr:p0=r:=by
  unfold rG app at h;split at h
  ·simpa using h
  ·cases h
 refine gK (N:=0) rfl Tryz.func129 rfl (by kernel_rfl) Tryz.ntmps129 rfl ?_;show T _ _ _ _ (mkA 8 [(0,.sl (List.map aB p0))]) [];refine T.seq ?_;refine T.region ?_;refine RS.op rfl (OP.q rfl (cx (v:=.nils) rfl ?_));refine RS.nil ?_;refine T.seq ?_;refine T.seq ?_;refine T.region ?_;refine RS.op rfl (OP.q rfl (dX (v:=.sl (List.map aB p0)) rfl ?_));refine RS.op rfl (OP.q rfl (jk Ty.s28 rfl rfl (fun z hz=>?_)));refine RS.nil ?_;refine T.cond (b:=z) rfl (fun hb=>?_) (fun hb=>?_)
 ·refine T.seq ?_;refine T.region ?_;refine RS.op rfl (OP.q rfl (cx (v:=.nils) rfl ?_));refine RS.nil ?_;refine T.ret ?_;refine dT (v:=.nils) rfl ?_;refine dU ?_;have h0:p0=[]:=MF.1 (hz hb);exact dW (.ref 0) [(0,84,3)] [0] (by decide) (b7 _) rfl (cm rfl) (dZ (en:=aB) (ys:=[]) rfl lD (by rw [<- hr,h0]) (ap)) ⟨rfl,rfl⟩
 ·refine T.skip ?_;refine T.seq ?_;refine T.region ?_;refine RS.op rfl (bn (rows:=List.map aB []) (vs:=[]) Ty.s28 Ty.z84 rfl rfl rfl rfl rfl (aw':=[.arr 84 3 (List.map aB [])]) rfl ?_);refine RS.op rfl (OP.q rfl (dX (v:=.sl (List.map aB p0)) rfl ?_));refine RS.op rfl (cc (en:=aB) (xs:=([]:List Memory)) (ys:=p0) (r:=r) Ty.s28 (fun _=>rfl) rfl rfl rfl h rfl (aw':=[.dead,.arr 84 3 (List.map aB r)]) rfl ?_);refine RS.op rfl (OP.q rfl (cx (v:=.ref 1) rfl ?_));refine RS.nil ?_;refine T.ret ?_;refine dT (v:=.ref 1) rfl ?_;refine dU ?_;exact dW (.ref 0) [] [1] (by decide) (b7 _) rfl (cm rfl) (dZ rfl lD rfl (ap)) ⟨rfl,rfl⟩
theorem DE {p0 r:List Keyed} (h:py p0=some r):FnO Tryz.prog 133 [.sl (List.map aM p0)] (.ref 0) [.arr 139 2 (List.map aM r)]:=by
 have hr:p0=r:=by
  unfold py app at h;split at h
  ·simpa using h
  ·cases h
 refine gK (N:=0) rfl Tryz.func133 rfl (by kernel_rfl) Tryz.ntmps133 rfl ?_;show T _ _ _ _ (mkA 8 [(0,.sl (List.map aM p0))]) [];refine T.seq ?_;refine T.region ?_;refine RS.op rfl (OP.q rfl (cx (v:=.nils) rfl ?_));refine RS.nil ?_;refine T.seq ?_;refine T.seq ?_;refine T.region ?_;refine RS.op rfl (OP.q rfl (dX (v:=.sl (List.map aM p0)) rfl ?_));refine RS.op rfl (OP.q rfl (jk Ty.s82 rfl rfl (fun z hz=>?_)));refine RS.nil ?_;refine T.cond (b:=z) rfl (fun hb=>?_) (fun hb=>?_)
 ·refine T.seq ?_;refine T.region ?_;refine RS.op rfl (OP.q rfl (cx (v:=.nils) rfl ?_));refine RS.nil ?_;refine T.ret ?_;refine dT (v:=.nils) rfl ?_;refine dU ?_;have h0:p0=[]:=MF.1 (hz hb);exact dW (.ref 0) [(0,139,2)] [0] (by decide) (b7 _) rfl (cm rfl) (dZ (en:=aM) (ys:=[]) rfl lN (by rw [<- hr,h0]) (ap)) ⟨rfl,rfl⟩
 ·refine T.skip ?_;refine T.seq ?_;refine T.region ?_;refine RS.op rfl (bn (rows:=List.map aM []) (vs:=[]) Ty.s82 Ty.z139 rfl rfl rfl rfl rfl (aw':=[.arr 139 2 (List.map aM [])]) rfl ?_);refine RS.op rfl (OP.q rfl (dX (v:=.sl (List.map aM p0)) rfl ?_));refine RS.op rfl (cc (en:=aM) (xs:=([]:List Keyed)) (ys:=p0) (r:=r) Ty.s82 (fun _=>rfl) rfl rfl rfl h rfl (aw':=[.dead,.arr 139 2 (List.map aM r)]) rfl ?_);refine RS.op rfl (OP.q rfl (cx (v:=.ref 1) rfl ?_));refine RS.nil ?_;refine T.ret ?_;refine dT (v:=.ref 1) rfl ?_;refine dU ?_;exact dW (.ref 0) [] [1] (by decide) (b7 _) rfl (cm rfl) (dZ rfl lN rfl (ap)) ⟨rfl,rfl⟩
theorem uj {p0 r:Memory} (h:lM p0=some r):FnO Tryz.prog 130 [.agg (aB p0)] (.agg [iI r.Sum,.ref 0,iI r.Dep]) [aR 139 2 aM r.Keys]:=by
 unfold lM at h;refine fT 0 0 Tryz.func130 Tryz.ntmps130 rfl ?_;refine B h fun x2 hx2 h=>(X 9 0 (sO (cO 2 (DE hx2) ⟨rfl,(Y 8 3 ?_)⟩)))
 cases h;exact tO [] [2] 3
theorem Dy {p0 r:List Choice} (h:rH p0=some r):FnO Tryz.prog 131 [.sl (List.map aA p0)] (.ref 0) [.arr 50 2 (List.map aA r)]:=by
 have hr:p0=r:=by
  unfold rH app at h;split at h
  ·simpa using h
  ·cases h
 refine gK (N:=0) rfl Tryz.func131 rfl (by kernel_rfl) Tryz.ntmps131 rfl ?_;show T _ _ _ _ (mkA 8 [(0,.sl (List.map aA p0))]) [];refine T.seq ?_;refine T.region ?_;refine RS.op rfl (OP.q rfl (cx (v:=.nils) rfl ?_));refine RS.nil ?_;refine T.seq ?_;refine T.seq ?_;refine T.region ?_;refine RS.op rfl (OP.q rfl (dX (v:=.sl (List.map aA p0)) rfl ?_));refine RS.op rfl (OP.q rfl (jk Ty.s29 rfl rfl (fun z hz=>?_)));refine RS.nil ?_;refine T.cond (b:=z) rfl (fun hb=>?_) (fun hb=>?_)
 ·refine T.seq ?_;refine T.region ?_;refine RS.op rfl (OP.q rfl (cx (v:=.nils) rfl ?_));refine RS.nil ?_;refine T.ret ?_;refine dT (v:=.nils) rfl ?_;refine dU ?_;have h0:p0=[]:=MF.1 (hz hb);exact dW (.ref 0) [(0,50,2)] [0] (by decide) (b7 _) rfl (cm rfl) (dZ (en:=aA) (ys:=[]) rfl lC (by rw [<- hr,h0]) (ap)) ⟨rfl,rfl⟩
 ·refine T.skip ?_;refine T.seq ?_;refine T.region ?_;refine RS.op rfl (bn (rows:=List.map aA []) (vs:=[]) Ty.s29 Ty.z50 rfl rfl rfl rfl rfl (aw':=[.arr 50 2 (List.map aA [])]) rfl ?_);refine RS.op rfl (OP.q rfl (dX (v:=.sl (List.map aA p0)) rfl ?_));refine RS.op rfl (cc (en:=aA) (xs:=([]:List Choice)) (ys:=p0) (r:=r) Ty.s29 (fun _=>rfl) rfl rfl rfl h rfl (aw':=[.dead,.arr 50 2 (List.map aA r)]) rfl ?_);refine RS.op rfl (OP.q rfl (cx (v:=.ref 1) rfl ?_));refine RS.nil ?_;refine T.ret ?_;refine dT (v:=.ref 1) rfl ?_;refine dU ?_;exact dW (.ref 0) [] [1] (by decide) (b7 _) rfl (cm rfl) (dZ rfl lC rfl (ap)) ⟨rfl,rfl⟩
theorem xT {p0 r:State} (h:kj p0=some r):FnO Tryz.prog 75 [.agg (bG p0)] (.agg [.ref 0,.ref 1,.ref 2,.ref 3,.ref 4]) [aR 3 1 aj r.At,aR 30 1 (ai aa) r.Rings,aR 84 3 aB r.Memory,aR 50 2 aA r.Choices,aR 75 3 aa r.Out]:=by
 unfold kj at h;refine fT 0 0 Tryz.func75 Tryz.ntmps75 rfl ?_;refine B h fun x2 hx2 h=>(X 9 0 (sO (cO 2 (eC hx2) ⟨rfl,(B h fun x4 hx4 h=>(Y 7 3 (sO (cQ 3 (Dg hx4) ⟨rfl,(Y 8 4 (sQ (dD (en:=(ai aa)) Ty.s25 rfl rfl (Y 3 4 (itr (fun be:Int × (List (List Item))=>mkA 60 [(1,.ptr 0 0),(2,.ptr 1 0),(15,iI ((x4).length:Int)),(16,iI be.1)]) (fun be=>[.box [.ref 2,.ref 3,sL aB p0.Memory,sL aA p0.Choices,sL aa p0.Out],.box [.nils,.nils,.nils,.nils,.nils],aR 3 1 aj x2,aR 30 1 (ai aa) be.2]) h (wk [] [0,1,2,3] 4 rfl) (fun be v_8 h kZ=>?_))))))⟩))))⟩)))
 obtain ⟨s5,s6⟩:=be;replace h:j4 p0 x2 x4 s5 s6=some v_8:=h;try dsimp only
 unfold j4 at h;refine X 5 4 (T.ci h rfl (fun bM h=>?_) (fun bM h=>?_))
 ·refine B h fun x7 hx7 h=>(B h fun x8 hx8 h=>(B h fun x9 hx9 h=>(B h fun x10 bf h=>(B h fun x11 bI h=>(X 8 4 (T.drawn mixed (k:=11) rfl ?_))))))
  apply RA.jn 1 (bm 11 1023);intro cZ;apply RA.jn 3 (bm 11 255);intro cX
  ·refine rq [0,2,3,5] 7 (rL [4,6,7,8,9,10] 4 rfl (r0 6 rfl (aO (en:=(ai aa)) Ty.s25 rfl rfl rfl hx7 (ra2 1 7 ?_ ?_))))
   ·exact og 4 ⟨rfl,(ra1 7 (oO rfl (aZ (en:=(ai aa)) (a:=x8) rfl rfl hx8 (aJ Ty.k30 (c:=sL aa x8) rfl (raE cX)))))⟩
   ·refine oO rfl (aZ (en:=(ai aa)) (a:=x8) rfl rfl hx8 (aJ Ty.k30 (c:=sL aa x8) rfl (ra2 1 8 ?_ ?_)))
    ·exact og 4 ⟨rfl,(raT cX)⟩
    ·exact oO rfl (cO 4 (gu hx9) ⟨rfl,(ra1 1 (og 5 ⟨rfl,(r0 9 rfl (aO (en:=(ai aa)) Ty.s25 rfl rfl rfl bf (raE cZ)))⟩))⟩)
  ·exact ra1 8 (oO rfl (cO 4 (gu hx9) ⟨rfl,(r0 9 rfl (aO (en:=(ai aa)) Ty.s25 rfl rfl rfl bf (raT cZ)))⟩))
  exact ra1 10 (RO.fC 4 (oO rfl (eR (en:=(ai aa)) (a:=x11) (a':=x9) Ty.c30 Ty.i30 rfl (vs:=[sL aa x9]) rfl rfl rfl bI rfl rfl rfl (RA.done (by decide +kernel) (X 4 5 (lk h (wk [] [0,1,2,3] 5 rfl)))))))
 refine X 1 4 ?_;replace h:=mi h kZ;refine B h fun x13 dJ h=>(X 4 4 (sO (cQ 4 (Dw dJ) ⟨rfl,(Y 8 5 (sQ (dD (en:=aB) Ty.s28 rfl rfl (Y 3 5 (itr (fun kO:Int × (List Memory)=>mkA 60 [(1,.ptr 0 0),(2,.ptr 1 0),(36,iI ((x13).length:Int)),(37,iI kO.1)]) (fun kO=>[.box [.ref 2,.ref 3,.ref 4,sL aA p0.Choices,sL aa p0.Out],.box [.nils,.nils,.nils,.nils,.nils],aR 3 1 aj x2,aR 30 1 (ai aa) s6,aR 84 3 aB kO.2]) h (wk [] [0,1,2,3,4] 5 rfl) (fun kO v_20 h Lt=>?_))))))⟩)))
 obtain ⟨s14,s15⟩:=kO;replace h:jZ p0 x2 s6 x13 s14 s15=some v_20:=h;try dsimp only
 unfold jZ at h;refine X 5 5 (T.ci h rfl (fun wb h=>?_) (fun wb h=>?_))
 ·refine B h fun x16 fB h=>(B h fun x17 cN h=>(B h fun x18 de h=>(B h fun x19 dz h=>(B h fun x20 eB h=>(X 8 5 (T.drawn mixed (k:=11) rfl ?_))))))
  apply RA.jn 1 (bm 11 1023);intro ri;apply RA.jn 3 (bm 11 255);intro mQ
  ·refine rq [0,2,3,5] 7 (rL [4,6,7,8,9,10] 4 rfl (r0 6 rfl (aO (en:=aB) Ty.s28 rfl rfl rfl fB (ra2 1 7 ?_ ?_))))
   ·exact og 5 ⟨rfl,(ra1 7 (oO rfl (aZ (en:=aB) (a:=x17) rfl rfl cN (ic Ty.k84 Ty.c84 rfl (cs:=(aB x17)) rfl (raE mQ)))))⟩
   ·refine oO rfl (aZ (en:=aB) (a:=x17) rfl rfl cN (ic Ty.k84 Ty.c84 rfl (cs:=(aB x17)) rfl (ra2 1 8 ?_ ?_)))
    ·exact og 5 ⟨rfl,(raT mQ)⟩
    ·exact oO rfl (cG [] 5 1 (FnX.of_fnO (uj de)) ⟨rfl,(ra1 1 (og 6 ⟨rfl,(r0 9 rfl (aO (en:=aB) Ty.s28 rfl rfl rfl dz (raE ri)))⟩))⟩)
  ·exact ra1 8 (oO rfl (cG [] 5 1 (FnX.of_fnO (uj de)) ⟨rfl,(r0 9 rfl (aO (en:=aB) Ty.s28 rfl rfl rfl dz (raT ri)))⟩))
  exact ra1 10 (RO.fC 5 (oO rfl (eR (en:=aB) (a:=x20) (a':=x18) Ty.c84 Ty.i84 rfl (vs:=[iI x18.Sum,sL aM x18.Keys,iI x18.Dep]) rfl rfl rfl eB rfl rfl rfl (RA.done (by decide +kernel) (X 4 6 (lk h (wk [] [0,1,2,3,4] 6 rfl)))))))
 refine X 1 5 ?_;replace h:=mi h Lt;refine B h fun x22 f0 h=>(X 4 5 (sO (cO 5 (Dy f0) ⟨rfl,(B h fun x24 d7 h=>(Y 7 6 (sO (cO 6 (gu d7) ⟨rfl,(Y 8 7 ?_)⟩))))⟩)))
 cases h;exact tO [] [2,3,4,5,6] 7
theorem jJ {p0 r:List (List UInt8)} (h:lf p0=some r):FnO Tryz.prog 76 [.sl (List.map aP p0)] (.ref 0) [.arr 9 1 (List.map aP r)]:=by
 have hr:p0=r:=by
  unfold lf app at h;split at h
  ·simpa using h
  ·cases h
 refine gK (N:=0) rfl Tryz.func76 rfl (by kernel_rfl) Tryz.ntmps76 rfl ?_;show T _ _ _ _ (mkA 8 [(0,.sl (List.map aP p0))]) [];refine T.seq ?_;refine T.region ?_;refine RS.op rfl (OP.q rfl (cx (v:=.nils) rfl ?_));refine RS.nil ?_;refine T.seq ?_;refine T.seq ?_;refine T.region ?_;refine RS.op rfl (OP.q rfl (dX (v:=.sl (List.map aP p0)) rfl ?_));refine RS.op rfl (OP.q rfl (jk Ty.s33 rfl rfl (fun z hz=>?_)));refine RS.nil ?_;refine T.cond (b:=z) rfl (fun hb=>?_) (fun hb=>?_)
 ·refine T.seq ?_;refine T.region ?_;refine RS.op rfl (OP.q rfl (cx (v:=.nils) rfl ?_));refine RS.nil ?_;refine T.ret ?_;refine dT (v:=.nils) rfl ?_;refine dU ?_;have h0:p0=[]:=MF.1 (hz hb);exact dW (.ref 0) [(0,9,1)] [0] (by decide) (b7 _) rfl (cm rfl) (dZ (en:=aP) (ys:=[]) rfl qP (by rw [<- hr,h0]) (ap)) ⟨rfl,rfl⟩
 ·refine T.skip ?_;refine T.seq ?_;refine T.region ?_;refine RS.op rfl (bn (rows:=List.map aP []) (vs:=[]) Ty.s33 Ty.z9 rfl rfl rfl rfl rfl (aw':=[.arr 9 1 (List.map aP [])]) rfl ?_);refine RS.op rfl (OP.q rfl (dX (v:=.sl (List.map aP p0)) rfl ?_));refine RS.op rfl (cc (en:=aP) (xs:=([]:List (List UInt8))) (ys:=p0) (r:=r) Ty.s33 (fun _=>rfl) rfl rfl rfl h rfl (aw':=[.dead,.arr 9 1 (List.map aP r)]) rfl ?_);refine RS.op rfl (OP.q rfl (cx (v:=.ref 1) rfl ?_));refine RS.nil ?_;refine T.ret ?_;refine dT (v:=.ref 1) rfl ?_;refine dU ?_;exact dW (.ref 0) [] [1] (by decide) (b7 _) rfl (cm rfl) (dZ rfl qP rfl (ap)) ⟨rfl,rfl⟩
theorem t6 {p0 r:List Write} (h:nh p0=some r):FnO Tryz.prog 77 [.sl (List.map aX p0)] (.ref 0) [.arr 132 2 (List.map aX r)]:=by
 have hr:p0=r:=by
  unfold nh app at h;split at h
  ·simpa using h
  ·cases h
 refine gK (N:=0) rfl Tryz.func77 rfl (by kernel_rfl) Tryz.ntmps77 rfl ?_;show T _ _ _ _ (mkA 8 [(0,.sl (List.map aX p0))]) [];refine T.seq ?_;refine T.region ?_;refine RS.op rfl (OP.q rfl (cx (v:=.nils) rfl ?_));refine RS.nil ?_;refine T.seq ?_;refine T.seq ?_;refine T.region ?_;refine RS.op rfl (OP.q rfl (dX (v:=.sl (List.map aX p0)) rfl ?_));refine RS.op rfl (OP.q rfl (jk Ty.s34 rfl rfl (fun z hz=>?_)));refine RS.nil ?_;refine T.cond (b:=z) rfl (fun hb=>?_) (fun hb=>?_)
 ·refine T.seq ?_;refine T.region ?_;refine RS.op rfl (OP.q rfl (cx (v:=.nils) rfl ?_));refine RS.nil ?_;refine T.ret ?_;refine dT (v:=.nils) rfl ?_;refine dU ?_;have h0:p0=[]:=MF.1 (hz hb);exact dW (.ref 0) [(0,132,2)] [0] (by decide) (b7 _) rfl (cm rfl) (dZ (en:=aX) (ys:=[]) rfl nL (by rw [<- hr,h0]) (ap)) ⟨rfl,rfl⟩
 ·refine T.skip ?_;refine T.seq ?_;refine T.region ?_;refine RS.op rfl (bn (rows:=List.map aX []) (vs:=[]) Ty.s34 Ty.z132 rfl rfl rfl rfl rfl (aw':=[.arr 132 2 (List.map aX [])]) rfl ?_);refine RS.op rfl (OP.q rfl (dX (v:=.sl (List.map aX p0)) rfl ?_));refine RS.op rfl (cc (en:=aX) (xs:=([]:List Write)) (ys:=p0) (r:=r) Ty.s34 (fun _=>rfl) rfl rfl rfl h rfl (aw':=[.dead,.arr 132 2 (List.map aX r)]) rfl ?_);refine RS.op rfl (OP.q rfl (cx (v:=.ref 1) rfl ?_));refine RS.nil ?_;refine T.ret ?_;refine dT (v:=.ref 1) rfl ?_;refine dU ?_;exact dW (.ref 0) [] [1] (by decide) (b7 _) rfl (cm rfl) (dZ rfl nL rfl (ap)) ⟨rfl,rfl⟩
theorem lv {p0 r:Shop} (h:gB p0=some r):FnO Tryz.prog 34 [.agg (eV p0)] (.agg [sL aq r.N.Nodes,iI r.N.Rings,iI r.N.Room,sL (ai aa) r.Items,sL aj r.S.At,sL (ai aa) r.S.Rings,sL aB r.S.Memory,sL aA r.S.Choices,sL aa r.S.Out,sL aP r.D.Sectors,sL aX r.D.Wait,iI r.Logged,iI r.Safe,iI r.Epoch,iI r.Laid,iI r.Next,.ref 0,.bool r.Down]) [aR 75 3 aa r.Told]:=by
 unfold gB at h;refine fT 0 0 Tryz.func34 Tryz.ntmps34 rfl ?_;refine B h fun x4 hx4 h=>(B h fun x5 hx5 h=>(B h fun x6 hx6 h=>(X 6 0 (T.drawn mixed (k:=15) rfl ?_))))
 apply RA.jn 6 (bm 15 767);intro hS1;apply RA.jn 7 (bm 15 735);intro hS2;apply RA.jn 9 (bm 15 95);intro hS3;apply RA.jn 9 (bm 15 219);intro hS4
 ·refine rq [0,3,6] 12 (rL [1,2,5,8,9,10,11,12,13,14] 1 rfl (ra3 2 4 7 ?_ ?_ ?_))
  ·exact oO rfl (cD (nN hx4) ⟨rfl,(rL [4,5,8,9,10,11,12,13,14] 4 rfl (raE hS3))⟩)
  ·refine og 2 ⟨rfl,(ra2 2 7 ?_ ?_)⟩
   ·exact oO rfl (cD (nN hx4) ⟨rfl,(raT hS3)⟩)
   ·exact og 2 ⟨rfl,(raE hS4)⟩
  ·refine og 2 ⟨rfl,(ra2 2 4 ?_ ?_)⟩
   ·exact oO rfl (cD (nN hx4) ⟨rfl,(ra1 4 (og 2 ⟨rfl,(rq [9] 7 (raE hS2))⟩))⟩)
   ·exact og 2 ⟨rfl,(raT hS4)⟩
 ·exact ra1 2 (oO rfl (cD (nN hx4) ⟨rfl,(rq [9] 7 (raT hS2))⟩))
 ·refine ra2 5 7 ?_ ?_
  ·exact oO rfl (cQ 2 (rQ hx5) ⟨rfl,(ra1 7 (og 3 ⟨rfl,(rq [9] 6 (raE hS1))⟩))⟩)
  ·exact og 2 ⟨rfl,(rq [9] 7 (raT hS2))⟩
 ·exact ra1 5 (oO rfl (cQ 2 (rQ hx5) ⟨rfl,(raT hS1)⟩))
 refine ra1 8 (oO rfl (cG [] 3 5 (FnX.of_fnO (xT hx6)) ⟨rfl,(ra1 10 (og 8 ⟨rfl,(rq [11] 3 (ra1 12 (og 8 ⟨rfl,(rq [13] 1 (ra1 14 (og 8 ⟨rfl,?_⟩)))⟩)))⟩))⟩));refine RA.done (by decide +kernel) (B h fun x9 hx9 h=>(B h fun x10 bf h=>(X 1 8 (T.drawn mixed (k:=11) rfl ?_))));apply RA.jn 4 (bm 11 127);intro hS5
 ·refine rq [0,1,4,5] 7 (rL [2,3,7,8,9,10] 2 rfl (ra2 3 6 ?_ ?_))
  ·exact oO rfl (cO 8 (jJ hx9) ⟨rfl,(ra1 6 (og 9 ⟨rfl,(raE hS5)⟩))⟩)
  ·exact og 8 ⟨rfl,(ra1 3 (oO rfl (cO 8 (jJ hx9) ⟨rfl,(raT hS5)⟩)))⟩
 refine ra1 7 (oO rfl (cO 9 (t6 bf) ⟨rfl,(rq [8,9] 1 (ra1 10 (og 10 ⟨rfl,(RA.done (by decide +kernel) (B h fun x12 bv h=>(X 4 10 (sO (cO 10 (gu bv) ⟨rfl,(Y 8 11 ?_)⟩)))))⟩)))⟩));refine T.fC 2 (T.fC 3 (T.fC 4 (T.fC 5 (T.fC 6 (T.fC 7 (T.fC 8 (T.fC 9 ?_)))))));cases h;exact tO [] [10] 11
theorem ur {p0:Net} {p1:List (List Item)} {p2:State} {p3:Move} {r:Item × Bool} (h:n9 p0 p1 p2 p3=some r):Fn Tryz.prog 144 [.agg (aN p0),sL (ai aa) p1,.agg (bG p2),.agg (br p3)] (.tup [.agg (aa r.1),.bool r.2]):=by
 unfold n9 at h;refine fT 0 0 Tryz.func144 Tryz.ntmps144 rfl ?_;refine B h fun x2 hx2 h=>(X 14 0 (sQ (aD Ty.s22 (fun _=>rfl) rfl rfl hx2 (Y 11 4 (T.ci h rfl (fun ah h=>?_) (fun ah h=>?_))))))
 ·refine B h fun x5 hx5 h=>(B h fun x6 hx6 h=>(X 2 5 (T.drawn mixed (k:=13) rfl (rq [0,2,6,7] 9 (rL [8,9,10,11,12] 8 rfl (r0 9 rfl (aD Ty.s25 (fun _=>rfl) rfl rfl hx6 (rL [10,11,12] 10 rfl (r0 11 rfl (ak Ty.s30 rfl (rL [1,4,5,12] 1 rfl ?_)))))))))))
  refine ra1 3 (og 5 ⟨rfl,(r0 4 rfl (aD Ty.s27 (fun _=>rfl) rfl rfl hx5 (ra1 5 (og 5 ⟨rfl,(rq [12] 0 (RA.done (by decide +kernel) (T.ci h rfl (fun ae h=>?_) (fun ae h=>?_))))⟩))))⟩)
  ·refine X 6 5 ?_;cases h;exact tD
  refine B h fun x10 bf h=>(B h fun x11 bI h=>(B h fun x12 bv h=>(X 2 5 (T.drawn mixed (k:=15) rfl (rq [0,1,5,7] 11 (rL [2,3,4,11,12,13,14] 2 rfl (r0 3 rfl (aD Ty.s25 (fun _=>rfl) rfl rfl bf (rL [4,11,12,13,14] 4 rfl (rL [6,9,10,11,12,13,14] 6 rfl ?_))))))))))
  refine ra1 8 (og 5 ⟨rfl,(r0 9 rfl (aD Ty.s27 (fun _=>rfl) rfl rfl bI (ra1 10 (og 5 ⟨rfl,(r0 11 rfl (aD Ty.s30 (fun _=>rfl) rfl rfl bv (ra1 12 (og 5 ⟨rfl,(ra1 13 (og 5 ⟨rfl,?_⟩))⟩))))⟩))))⟩);refine rq [14] 0 (RA.done (by decide +kernel) ?_);cases h;exact tD
 refine B h fun x15 d8 h=>(B h fun x16 fB h=>(X 2 5 (T.drawn mixed (k:=11) rfl (rq [0,2,4] 8 (rL [1,8,9,10] 1 rfl (rL [3,6,7,8,9,10] 3 rfl (ra1 5 (og 5 ⟨rfl,(r0 6 rfl (aD Ty.s27 (fun _=>rfl) rfl rfl d8 ?_))⟩))))))))
 refine ra1 7 (og 5 ⟨rfl,(r0 8 rfl (aD Ty.s25 (fun _=>rfl) rfl rfl fB (ra1 9 (og 5 ⟨rfl,(rq [10] 0 (RA.done (by decide +kernel) (X 4 5 (sQ (ak Ty.s30 rfl (Y 2 5 ?_))))))⟩))))⟩);refine T.ci h rfl (fun ao h=>?_) (fun ao h=>?_)
 ·refine X 6 5 ?_;cases h;exact tD
 refine B h fun x18 de h=>(X 4 5 (sQ (aD Ty.s30 (fun _=>rfl) rfl rfl de (Y 4 5 ?_))))
 cases h;exact tD
theorem ES {p0:Item} {p1:Int} {r:Int × Int} (h:pX p0 p1=some r):Fn Tryz.prog 160 [.agg (aa p0),iI p1] (.tup [iI r.1,iI r.2]):=by
 unfold pX at h;refine fT 0 7 Tryz.func160 Tryz.ntmps160 rfl (j1 [(1,iI p1),(2,.ptr 0 0),(11,.bool ((decide (p1<1)) || decide (p1 > 16)))] [.box (aa p0)] ?_ (fun hK=>?_))
 ·refine T.ci h rfl (fun ae h=>?_) (fun ae h=>?_)
  ·refine X 5 1 ?_;cases h;exact tD
  refine B h fun x4 hx4 h=>(B h fun x5 hx5 h=>(X 6 1 (sQ (v_rem rfl rfl hx4 (Y 3 1 (sQ (v_rem rfl rfl hx5 (Y 3 1 ?_))))))))
  cases h;exact tD
 refine X 5 1 (gp 8 (fun ah=>?_) (fun ah=>?_))
 ·refine Yp 4 1 ?_;rw [ah] at hK;exact sx hK
 refine Yp 4 1 ?_;rw [ah] at hK;exact sx hK
theorem xV {p0:Node} {p1:Item} {r:List Int} (h:n7 p0 p1=some r):Fn Tryz.prog 146 [.agg (aq p0),.agg (aa p1)] (sL aj r):=by
 unfold n7 at h;refine fT 0 13 Tryz.func146 Tryz.ntmps146 rfl (T.ci h rfl (fun ah h=>?_) (fun ah h=>?_))
 ·refine X 6 2 ?_;cases h;exact tD
 refine B h fun x2 hx2 h=>(X 6 2 (sQ (ak Ty.s27 rfl (sO (cF (ES hx2) ⟨rfl,(B h fun x4 hx4 h=>(Y 13 2 (sO (lP Ty.s27 (fun _=>rfl) rfl rfl rfl hx4 (Y 2 2 ?_)))))⟩)))))
 cases h;exact tD
theorem DW {p0:Int} {p1:List Int} {p2:List (List Item)} {p3:List Memory} {p4:List Choice} {p5:List Item} {p6:List Node} {p7 p8:Int} {r:Bool} (h:rT p0 p1 p2 p3 p4 p5 p6 p7 p8=some r):FnX Tryz.prog 147 [iI p0,.ptr 0 0,.ptr 1 0] [.box [sL aj p1,sL (ai aa) p2,sL aB p3,sL aA p4,sL aa p5],.box [sL aq p6,iI p7,iI p8]] (.bool r) [.box [sL aj p1,sL (ai aa) p2,sL aB p3,sL aA p4,sL aa p5],.box [sL aq p6,iI p7,iI p8]]:=by
 unfold rT at h;refine fT 2 0 Tryz.func147 Tryz.ntmps147 rfl ?_;refine B h fun x2 hx2 h=>(X 5 2 (T.drawn mixed (k:=10) rfl (rq [0,2,6] 7 (rL [1,3,4,5,8,9] 1 rfl (r0 3 rfl (aD Ty.s25 (fun _=>rfl) rfl rfl hx2 (rL [4,5,8,9] 4 rfl (r0 5 rfl (ak Ty.s30 rfl (ra1 7 (og 2 ⟨rfl,?_⟩)))))))))))
 refine rq [8,9] 0 (RA.done (by decide +kernel) ?_);cases h;exact tN [0,1]
theorem Dn {p0 p1:List Int} {p2:List (List Item)} {p3:List Memory} {p4:List Choice} {p5:List Item} {p6:List Node} {p7 p8 r:Int} (h:rC p0 p1 p2 p3 p4 p5 p6 p7 p8=some r):FnX Tryz.prog 159 [sL aj p0,.func 147 [.ptr 0 0,.ptr 1 0]] [.box [sL aj p1,sL (ai aa) p2,sL aB p3,sL aA p4,sL aa p5],.box [sL aq p6,iI p7,iI p8]] (iI r) [.box [sL aj p1,sL (ai aa) p2,sL aB p3,sL aA p4,sL aa p5],.box [sL aq p6,iI p7,iI p8]]:=by
 unfold rC at h;refine fT 2 8 Tryz.func159 Tryz.ntmps159 rfl (sQ (ak Ty.s27 rfl (Y 3 2 (itr (fun al:Int=>mkA 19 [(0,sL aj p0),(1,.func 147 [.ptr 0 0,.ptr 1 0]),(7,iI ((p0).length:Int)),(8,iI al)]) (fun al=>[.box [sL aj p1,sL (ai aa) p2,sL aB p3,sL aA p4,sL aa p5],.box [sL aq p6,iI p7,iI p8]]) h (wk [] [0,1] 2 rfl) (fun al v_6 h bq=>?_)))));revert bq h;revert al;intro s1 h bq;replace h:o9 p0 p1 p2 p3 p4 p5 p6 p7 p8 s1=some v_6:=h;try dsimp only
 unfold o9 at h;refine X 5 2 (T.ci h rfl (fun bE h=>?_) (fun bE h=>?_))
 ·refine B h fun x4 hx4 h=>(B h fun x5 hx5 h=>(X 13 2 (sQ (aD Ty.s27 (fun _=>rfl) rfl rfl hx4 (Y 1 2 (sO (cG [0,1] 2 2 (DW hx5) ⟨rfl,(Y 1 2 (T.ci h rfl (fun bj h=>?_) (fun bj h=>?_)))⟩)))))))
  ·refine X 5 2 ?_;replace h:=mi h bq;cases h;exact tN [0,1]
  exact X 5 2 (lk h (wk [] [0,1] 2 rfl))
 refine X 1 2 ?_;replace h:=mi h bq;refine X 4 2 ?_;cases h;exact tN [0,1]
theorem Di {p0 p1:List Int} {p2:List (List Item)} {p3:List Memory} {p4:List Choice} {p5:List Item} {p6:List Node} {p7 p8:Int} {r:Bool} (h:o8 p0 p1 p2 p3 p4 p5 p6 p7 p8=some r):FnX Tryz.prog 145 [sL aj p0,.func 147 [.ptr 0 0,.ptr 1 0]] [.box [sL aj p1,sL (ai aa) p2,sL aB p3,sL aA p4,sL aa p5],.box [sL aq p6,iI p7,iI p8]] (.bool r) [.box [sL aj p1,sL (ai aa) p2,sL aB p3,sL aA p4,sL aa p5],.box [sL aq p6,iI p7,iI p8]]:=by
 unfold o8 at h;refine fT 2 0 Tryz.func145 Tryz.ntmps145 rfl ?_;refine B h fun x2 hx2 h=>(X 8 2 (sO (cG [0,1] 2 2 (Dn hx2) ⟨rfl,(Y 3 2 ?_)⟩)))
 cases h;exact tN [0,1]
theorem D9 {p0:Item} {r:Int} (h:uc p0=some r):Fn Tryz.prog 188 [.agg (aa p0)] (iI r):=by unfold uc at h;refine fT 0 12 Tryz.func188 Tryz.ntmps188 rfl ?_;cases h;exact tD
theorem D5 {p0:Item} {r:Int} (h:ub p0=some r):Fn Tryz.prog 189 [.agg (aa p0)] (iI r):=by unfold ub at h;refine fT 0 12 Tryz.func189 Tryz.ntmps189 rfl ?_;cases h;exact tD
theorem D8 {p0:Item} {r:Int} (h:ug p0=some r):Fn Tryz.prog 190 [.agg (aa p0)] (iI r):=by unfold ug at h;refine fT 0 12 Tryz.func190 Tryz.ntmps190 rfl ?_;cases h;exact tD
theorem Ea {p0:Item} {r:Int} (h:ue p0=some r):Fn Tryz.prog 191 [.agg (aa p0)] (iI r):=by unfold ue at h;refine fT 0 14 Tryz.func191 Tryz.ntmps191 rfl ?_;cases h;exact tD
theorem xm {p0:Int} {p1 r:Item} (h:ul p0 p1=some r):Fn Tryz.prog 161 [iI p0,.agg (aa p1)] (.agg (aa r)):=by
 unfold ul at h;refine fT 0 7 Tryz.func161 Tryz.ntmps161 rfl (sQ (Bo (cs:=[.func 188 [],.func 189 [],.func 190 [],.func 191 []]) Ty.z270 Ty.p270 rfl (Y 3 2 ?_)));obtain ⟨mR,hz,h⟩:=bind_some h;revert hz h;revert mR;intro c6 hz h;refine j1 [(3,.ptr 0 0),(4,.ptr 1 0)] [.box [iI p1.Key,iI c6,iI p1.Dep],.box [iI 0,iI 0,iI 0]] ?_ (fun hK=>?_)
 ·refine X 5 2 ?_;cases h;exact tD
 refine X 1 3 ?_;rcases bp (p0==0) with ah | ah
 ·replace hz:=bX hz ah;refine B hz fun x1 hx1 hz=>(T.drawn mixed (k:=7) rfl (rq [0] 6 (r0 1 rfl (sd (q:=0) Tryz.underlying270 Ty.c269 Ty.i269 rfl rfl (by simpa using ah) rfl rfl (off':=0) rfl (rL [2,4,5,6] 2 rfl (ra1 3 (og 3 ⟨rfl,(ra1 4 (oO rfl (cF (D9 hx1) ⟨rfl,(rq [5] 1 ?_)⟩)))⟩)))))))
  exact ra1 6 (og 3 ⟨rfl,(RA.done (by decide +kernel) (T.weakR hK (Weak.mkN [] [0,1] (by decide) (b7 _) rfl ⟨am rfl,am rfl,tqz⟩ (au (cs:=[iI p1.Key,iI c6,iI p1.Dep]) (ds:=[iI p1.Key,iI x1,iI p1.Dep]) rfl ⟨dt rfl,dt ((congrArg (fun p=>p) (LY hz)).symm),dt rfl,tqz⟩ (d5 [iI 0,iI 0,iI 0] rfl (ap))))))⟩)
 replace hz:=bV hz ah;rcases bp (p0==1) with ae | ae
 ·replace hz:=bX hz ae;refine B hz fun x2 hx2 hz=>(T.drawn mixed (k:=7) rfl (rq [0] 6 (r0 1 rfl (sd (q:=1) Tryz.underlying270 Ty.c269 Ty.i269 rfl rfl (by simpa using ae) rfl rfl (off':=1) rfl (rL [2,4,5,6] 2 rfl (ra1 3 (og 3 ⟨rfl,(ra1 4 (oO rfl (cF (D5 hx2) ⟨rfl,(rq [5] 1 ?_)⟩)))⟩)))))))
  exact ra1 6 (og 3 ⟨rfl,(RA.done (by decide +kernel) (T.weakR hK (Weak.mkN [] [0,1] (by decide) (b7 _) rfl ⟨am rfl,am rfl,tqz⟩ (au (cs:=[iI p1.Key,iI c6,iI p1.Dep]) (ds:=[iI p1.Key,iI x2,iI p1.Dep]) rfl ⟨dt rfl,dt ((congrArg (fun p=>p) (LY hz)).symm),dt rfl,tqz⟩ (d5 [iI 0,iI 0,iI 0] rfl (ap))))))⟩)
 replace hz:=bV hz ae;rcases bp (p0==2) with ao | ao
 ·replace hz:=bX hz ao;refine B hz fun x3 hx3 hz=>(T.drawn mixed (k:=7) rfl (rq [0] 6 (r0 1 rfl (sd (q:=2) Tryz.underlying270 Ty.c269 Ty.i269 rfl rfl (by simpa using ao) rfl rfl (off':=2) rfl (rL [2,4,5,6] 2 rfl (ra1 3 (og 3 ⟨rfl,(ra1 4 (oO rfl (cF (D8 hx3) ⟨rfl,(rq [5] 1 ?_)⟩)))⟩)))))))
  exact ra1 6 (og 3 ⟨rfl,(RA.done (by decide +kernel) (T.weakR hK (Weak.mkN [] [0,1] (by decide) (b7 _) rfl ⟨am rfl,am rfl,tqz⟩ (au (cs:=[iI p1.Key,iI c6,iI p1.Dep]) (ds:=[iI p1.Key,iI x3,iI p1.Dep]) rfl ⟨dt rfl,dt ((congrArg (fun p=>p) (LY hz)).symm),dt rfl,tqz⟩ (d5 [iI 0,iI 0,iI 0] rfl (ap))))))⟩)
 replace hz:=bV hz ao;refine B hz fun x4 hx4 hz=>(B hz fun x5 hx5 hz=>(T.drawn mixed (k:=7) rfl (rq [0] 6 (r0 1 rfl (sd (q:=3) Tryz.underlying270 Ty.c269 Ty.i269 rfl rfl (GJ hx4) rfl rfl (off':=3) rfl (rL [2,4,5,6] 2 rfl (ra1 3 (og 3 ⟨rfl,(ra1 4 (oO rfl (cF (Ea hx5) ⟨rfl,?_⟩)))⟩))))))))
 exact rq [5] 1 (ra1 6 (og 3 ⟨rfl,(RA.done (by decide +kernel) (T.weakR hK (Weak.mkN [] [0,1] (by decide) (b7 _) rfl ⟨am rfl,am rfl,tqz⟩ (au (cs:=[iI p1.Key,iI c6,iI p1.Dep]) (ds:=[iI p1.Key,iI x5,iI p1.Dep]) rfl ⟨dt rfl,dt ((congrArg (fun p=>p) (LY hz)).symm),dt rfl,tqz⟩ (d5 [iI 0,iI 0,iI 0] rfl (ap))))))⟩))
theorem xk {p0:Keyed} {p1 r:Int} (h:nE p0 p1=some r):Fn Tryz.prog 163 [.agg (aM p0),iI p1] (iI r):=by
 unfold nE at h;refine fT 0 15 Tryz.func163 Tryz.ntmps163 rfl (T.ci h rfl (fun ah h=>?_) (fun ah h=>?_))
 ·refine X 4 1 ?_;cases h;exact tD
 refine X 8 1 (T.ci h rfl (fun ae h=>?_) (fun ae h=>?_))
 ·refine X 4 1 ?_;cases h;exact tD
 refine X 5 1 ?_;cases h;exact tD
theorem Df {p0:List Keyed} {p1:Int} {r:Int × Bool} (h:o5 p0 p1=some r):Fn Tryz.prog 162 [sL aM p0,iI p1,.func 163 []] (.tup [iI r.1,.bool r.2]):=by
 unfold o5 at h;refine fT 0 8 Tryz.func162 Tryz.ntmps162 rfl (sQ (ak Ty.s82 rfl (Y 10 0 (itr (fun al:Int × Int=>mkA 49 [(0,sL aM p0),(1,iI p1),(2,.func 163 []),(8,iI ((p0).length:Int)),(9,iI al.1),(10,iI al.2)]) (fun al=>[]) h (wk [] [] 0 rfl) (fun al v_6 h bq=>?_)))));obtain ⟨s1,s2⟩:=al;replace h:o4 p0 p1 s1 s2=some v_6:=h;try dsimp only
 unfold o4 at h;refine X 7 0 (T.ci h rfl (fun bE h=>?_) (fun bE h=>?_))
 ·refine B h fun x4 hx4 h=>(X 8 0 (sQ (iE rfl rfl hx4 (B h fun x7 hx7 h=>(B h fun x8 hx8 h=>(Y 8 0 (sQ (aD Ty.s82 (fun _=>rfl) rfl rfl hx7 (Y 2 0 (sO (cF (xk hx8) ⟨rfl,(Y 2 0 ?_)⟩)))))))))))
  refine T.ci h rfl (fun bj h=>?_) (fun bj h=>?_)
  ·exact X 5 0 (lk h (wk [] [] 0 rfl))
  exact X 4 0 (lk h (wk [] [] 0 rfl))
 refine X 1 0 ?_;replace h:=mi h bq;obtain ⟨wc,hz,h⟩:=bind_some h;revert hz h;revert wc;intro c11 hz h;refine j1 [(6,iI s1),(7,.bool c11)] [] ?_ (fun hK=>?_)
 ·cases h;exact tD
 refine X 7 0 (gi 39 hz (fun fq hz=>?_) (fun fq hz=>?_))
 ·refine B hz fun x9 hx9 hz=>(B hz fun x10 bf hz=>(Y 3 0 (yQ rfl (aD Ty.s82 (fun _=>rfl) rfl rfl hx9 (Y 2 0 (yO rfl (cF (xk bf) ⟨rfl,(Yp 5 0 ?_)⟩)))))))
  cases hz;exact sx hK
 refine Yp 12 0 ?_;cases hz;exact sx hK
theorem Dp {p0:Int} {p1 p2 r:List Keyed} (h:pe p0 p1 p2=some r):FnX Tryz.prog 164 [.ref 0,iI p0,.ref 1] [aR 139 2 aM p1,aR 139 2 aM p2] (.ref 2) [.dead,.dead,aR 139 2 aM r]:=by
 unfold pe at h;refine fT 2 0 Tryz.func164 Tryz.ntmps164 rfl ?_;refine T.mvS 0 0 rfl rfl rfl rfl (T.exposeM 0 2 (xs:=p1) rfl rfl (fun C hC=>?_));have h:=Gy h C hC;unfold t4 at h;refine B h fun x2 hx2 h=>(X 8 3 (sO (sr Ty.s82 rfl rfl rfl hx2 (Y 4 3 (sQ (dD (en:=aM) Ty.s82 rfl rfl (Y 8 3 (T.ci h rfl (fun ah h=>?_) (fun ah h=>?_)))))))))
 ·cases h
 refine X 4 3 (sO (Ib Ty.s82 rfl (Y 9 3 (T.ci h rfl (fun ae h=>?_) (fun ae h=>?_)))))
 ·refine B h fun x4 hx4 h=>(X 4 3 (sO (HZ (en:=aM) (xs:=p1) (ys:=p2) Ty.s82 (fun _=>rfl) rfl rfl rfl rfl rfl rfl hx4 rfl rfl (Y 2 4 ?_))))
  cases h;exact tO [] [0,1,3] 4
 refine X 8 3 (sO (He Ty.s82 rfl (Y 2 3 (T.ci h rfl (fun ao h=>?_) (fun ao h=>?_)))))
 ·refine B h fun x7 hx7 h=>(B h fun x8 hx8 h=>(X 4 3 (sO (FA Ty.s82 rfl rfl hx7 (Y 5 3 (sO (HD (en:=aM) (z0:=(⟨0,0⟩:Keyed)) (xs:=p1) Ty.s82 Tryz.underlying3 Ty.z139 (fun _=>rfl) rfl rfl rfl hx8 rfl rfl (B h fun x11 bI h=>(B h fun x12 bv h=>(Y 6 4 (sO (ki (en:=aM) (xs:=x8) Ty.s82 rfl rfl rfl rfl bI ?_))))))))))))
  refine Y 1 4 (sO (y0 (en:=aM) (xs:=x8) (ys:=p2) Ty.s82 (fun _=>rfl) rfl rfl rfl rfl bv rfl (B h fun x17 cN h=>(B h fun x18 de h=>(B h fun x19 dz h=>(B h fun x20 eB h=>(Y 2 4 (T.drawn mixed (k:=9) rfl ?_))))))));apply RA.jn 1 (bm 9 255);intro hS4
  ·refine rq [0,1,2,3,5,6] 3 (ra2 4 7 ?_ ?_)
   ·exact oO rfl (ki (en:=aM) (xs:=(cpy x8 ((p0).toNat) ((((x8).length:Int)).toNat - (p0).toNat) p2)) Ty.s82 rfl rfl rfl rfl cN (ra1 7 (oO rfl (sr Ty.s82 rfl rfl rfl de (raE hS4)))))
   ·exact oO rfl (sr Ty.s82 rfl rfl rfl de (ra1 4 (oO rfl (ki (en:=aM) (xs:=(cpy x8 ((p0).toNat) ((((x8).length:Int)).toNat - (p0).toNat) p2)) Ty.s82 rfl rfl rfl rfl cN (raT hS4)))))
  refine ra1 8 (oO rfl (GB (en:=aM) (xs:=(cpy x8 ((p0).toNat) ((((x8).length:Int)).toNat - (p0).toNat) p2)) (ys:=p1) Ty.s82 (fun _=>rfl) rfl rfl rfl rfl dz eB rfl (RA.done (by decide +kernel) (X 5 4 ?_))));cases h;exact tO [] [0,1,3] 4
 refine B h fun x22 f0 h=>(X 7 3 (sO (Kk (en:=aM) (xs:=p1) Ty.s82 rfl rfl rfl rfl f0 rfl rfl (B h fun x25 mP h=>(B h fun x26 fY h=>(Y 10 4 (sO (qk (en:=aM) (xs:=p1) Ty.s82 rfl rfl rfl rfl mP (sO (FX (fn:=Tryz.f192) (tS:=82) (tR:=4) (en:=aM) (xs:=p1) (ys:=p2) Tryz.func192 (by kernel_rfl) (by kernel_rfl) (by kernel_rfl) (by kernel_rfl) Ty.s82 rfl rfl rfl rfl fY (B h fun x30 fZ h=>(B h fun x31 mS h=>?_))))))))))))
 refine B h fun x32 mU h=>(Y 4 4 (T.drawn mixed (k:=9) rfl ?_))
 apply RA.jn 1 (bm 9 255);intro hS5
 ·refine rq [0,1,2,3,5,6] 3 (ra2 4 7 ?_ ?_)
  ·exact oO rfl (qk (en:=aM) (xs:=p1) Ty.s82 rfl rfl rfl rfl fZ (ra1 7 (oO rfl (qk (en:=aM) (xs:=p1) Ty.s82 rfl rfl rfl rfl mS (raE hS5)))))
  ·exact oO rfl (qk (en:=aM) (xs:=p1) Ty.s82 rfl rfl rfl rfl mS (ra1 4 (oO rfl (qk (en:=aM) (xs:=p1) Ty.s82 rfl rfl rfl rfl fZ (raT hS5)))))
 refine ra1 8 (oO rfl (HO (en:=aM) (xs:=p1) Ty.s82 (fun _=>rfl) rfl rfl rfl mU rfl (RA.done (by decide +kernel) (B h fun x35 kV h=>(B h fun x36 wj h=>(X 4 4 (sO (ki (en:=aM) (xs:=x32) Ty.s82 rfl rfl rfl rfl kV (Y 1 4 (sO (y0 (en:=aM) (xs:=x32) (ys:=p2) Ty.s82 (fun _=>rfl) rfl rfl rfl rfl wj rfl (Y 6 4 ?_))))))))))));cases h;exact tO [] [0,1,3] 4
theorem j3 {p0 p1:Int} {p2:Memory} {p3:Item} {r:Memory × Item × Int} (h:iY p0 p1 p2 p3=some r):Fn Tryz.prog 148 [iI p0,iI p1,.agg (aB p2),.agg (aa p3)] (.tup [.agg (aB r.1),.agg (aa r.2.1),iI r.2.2]):=by
 unfold iY at h;refine fT 0 0 Tryz.func148 Tryz.ntmps148 rfl ?_;refine B h fun x2 hx2 h=>(X 12 0 (sO (cF (xt hx2) ⟨rfl,(Y 7 4 (T.ci h rfl (fun ah h=>?_) (fun ah h=>?_)))⟩)))
 ·refine X 9 4 ?_;cases h;exact tD
 refine X 8 4 (T.ci h rfl (fun ae h=>?_) (fun ae h=>?_))
 ·refine X 8 4 ?_;cases h;exact tD
 refine B h fun x4 hx4 h=>(X 4 4 (sO (cG [] 4 1 (FnX.of_fnO (uj hx4)) ⟨rfl,(Y 13 5 (T.ci h rfl (fun ao h=>?_) (fun ao h=>?_)))⟩)))
 ·refine X 1 5 (j1 [(1,iI p1),(6,.ptr 0 0),(7,.ptr 1 0),(8,.ptr 2 0),(9,.ptr 3 0),(36,.bool ((decide (p1<0)) || decide (p1 > 3)))] [.box [iI x4.Sum,.ref 4,iI x4.Dep],.box (aa p3),.box [iI 0,.nils,iI 0],.box [iI 0,iI 0,iI 0],aR 139 2 aM x4.Keys] ?_ (fun hK=>?_))
  ·refine T.ci h rfl (fun aK h=>?_) (fun aK h=>?_)
   ·refine X 8 5 ?_;cases h;exact tD
   refine B h fun x7 hx7 h=>(X 2 5 (T.drawn mixed (k:=7) rfl ?_))
   apply RA.jn 3 (bm 7 15);intro hS6
   ·refine rq [1] 6 (rL [2,3,4,5,6] 2 rfl (ra2 0 3 ?_ ?_))
    ·exact og 5 ⟨rfl,(ra1 3 (oO rfl (cF (xm hx7) ⟨rfl,(raE hS6)⟩)))⟩
    ·exact oO rfl (cF (xm hx7) ⟨rfl,(ra1 0 (og 5 ⟨rfl,(raT hS6)⟩))⟩)
   refine ra1 4 (og 5 ⟨rfl,(ra1 5 (og 5 ⟨rfl,(rq [6] 0 (RA.done (by decide +kernel) ?_))⟩))⟩);cases h;exact tD
  refine X 5 5 (gp 33 (fun aC=>?_) (fun aC=>?_))
  ·refine Yp 4 5 ?_;rw [aC] at hK;exact sx hK
  refine Yp 4 5 ?_;rw [aC] at hK;exact sx hK
 refine X 5 5 (T.ci h rfl (fun bE h=>?_) (fun bE h=>?_))
 ·refine X 21 5 (T.drawn mixed (k:=11) rfl ?_);apply RA.jn 2 (bm 11 511);intro hS8;apply RA.jn 3 (bm 11 255);intro hS9;apply RA.jn 4 (bm 11 319);intro cZ;apply RA.jn 4 (bm 11 367);intro cX;apply RA.jn 5 (bm 11 111);intro eO;apply RA.jn 5 (bm 11 123);intro kW;apply RA.jn 5 (bm 11 63);intro g9
  ·refine rq [1,3,5] 8 (rL [0,8,9,10] 0 rfl (ra4 2 4 6 8 ?_ ?_ ?_ ?_))
   ·refine og 5 ⟨rfl,(ra3 4 6 8 ?_ ?_ ?_)⟩
    ·exact og 5 ⟨rfl,(raE g9)⟩
    ·exact og 5 ⟨rfl,(raE eO)⟩
    ·exact og 5 ⟨rfl,(rL [4,7,9,10] 4 rfl (raE cZ))⟩
   ·refine og 5 ⟨rfl,(ra3 2 6 8 ?_ ?_ ?_)⟩
    ·exact og 5 ⟨rfl,(raT g9)⟩
    ·exact og 5 ⟨rfl,(raE kW)⟩
    ·exact og 5 ⟨rfl,(rL [2,7,9,10] 2 rfl (raT cZ))⟩
   ·refine og 5 ⟨rfl,(ra3 2 4 8 ?_ ?_ ?_)⟩
    ·exact og 5 ⟨rfl,(raT eO)⟩
    ·exact og 5 ⟨rfl,(raT kW)⟩
    ·exact og 5 ⟨rfl,(rL [2,7,9,10] 2 rfl (raE cX))⟩
   ·exact og 5 ⟨rfl,(rL [2,7,9,10] 2 rfl (rL [4,7,9,10] 4 rfl (raT cZ)))⟩
  ·refine ra2 6 8 ?_ ?_
   ·exact og 5 ⟨rfl,(rq [7] 3 (raE hS9))⟩
   ·exact og 5 ⟨rfl,(raT cZ)⟩
  ·refine ra2 2 8 ?_ ?_
   ·exact og 5 ⟨rfl,(rq [7] 3 (raT hS9))⟩
   ·exact og 5 ⟨rfl,(ra1 2 (og 5 ⟨rfl,(rq [7] 2 (raE hS8))⟩))⟩
  ·refine ra2 4 8 ?_ ?_
   ·exact og 5 ⟨rfl,(rq [7] 3 (raT hS9))⟩
   ·exact og 5 ⟨rfl,(raT cX)⟩
  ·exact ra1 4 (og 5 ⟨rfl,(rq [7] 2 (raT hS8))⟩)
  ·exact ra1 6 (og 5 ⟨rfl,(rq [7] 2 (raT hS8))⟩)
  ·exact ra1 8 (og 5 ⟨rfl,(raT hS8)⟩)
  refine ra1 9 (og 5 ⟨rfl,(rq [10] 0 (RA.done (by decide +kernel) ?_))⟩);cases h;exact tD
 refine X 5 5 (T.ci h rfl (fun fL h=>?_) (fun fL h=>?_))
 ·refine B h fun x9 hx9 h=>(X 6 5 (sO (cF (Df hx9) ⟨rfl,(Y 17 5 (j1 [(6,.ptr 0 0),(7,.ptr 1 0),(8,.ptr 2 0),(9,.ptr 3 0),(12,iI x9.1),(13,.bool x9.2),(88,.bool ((!x9.2) && ((x4.Keys).length:Int)==6))] [.box [iI x4.Sum,.ref 4,iI (if p3.Dep > x4.Dep then p3.Dep else x4.Dep)],.box (aa p3),.box [iI 0,.nils,iI 0],.box [iI 0,iI 0,iI 0],aR 139 2 aM x4.Keys] ?_ (fun hK=>?_)))⟩)))
  ·refine T.ci h rfl (fun fV h=>?_) (fun fV h=>?_)
   ·refine X 1 5 (T.drawn mixed (k:=9) rfl ?_);apply RA.jn 2 (bm 9 127);intro oS;apply RA.jn 3 (bm 9 63);intro k0;apply RA.jn 4 (bm 9 79);intro jC
    ·refine rq [1,3] 7 (rL [0,6,7,8] 0 rfl (ra3 2 4 6 ?_ ?_ ?_))
     ·refine og 5 ⟨rfl,(ra2 4 6 ?_ ?_)⟩
      ·exact og 5 ⟨rfl,(rq [5] 3 (raE k0))⟩
      ·exact og 5 ⟨rfl,(raE jC)⟩
     ·refine og 5 ⟨rfl,(ra2 2 6 ?_ ?_)⟩
      ·exact og 5 ⟨rfl,(rq [5] 3 (raT k0))⟩
      ·exact og 5 ⟨rfl,(ra1 2 (og 5 ⟨rfl,(rq [5] 2 (raE oS))⟩))⟩
     ·exact og 5 ⟨rfl,(rL [2,5,7,8] 2 rfl (raT jC))⟩
    ·exact ra1 4 (og 5 ⟨rfl,(rq [5] 2 (raT oS))⟩)
    ·exact ra1 6 (og 5 ⟨rfl,(raT oS)⟩)
    refine ra1 7 (og 5 ⟨rfl,(rq [8] 0 (RA.done (by decide +kernel) ?_))⟩);cases h;exact tD
   refine X 1 5 (jn (Z:=List Keyed) (fun oL=>mkA 137 [(6,.ptr 0 0),(7,.ptr 1 0),(8,.ptr 2 0),(9,.ptr 3 0),(12,iI x9.1)]) (fun oL=>[.box [iI x4.Sum,.ref 4,iI (if p3.Dep > x4.Dep then p3.Dep else x4.Dep)],.box (aa p3),.box [iI 0,.nils,iI 0],.box [iI 0,iI 0,iI 0],aR 139 2 aM oL]) (fun oL=>lw p3 x4 x9 oL=some r) (fun oL h=>?_) (fun hK1=>?_))
   ·revert h;revert oL;intro z12 h;replace h:lw p3 x4 x9 z12=some r:=h;try dsimp only
    unfold lw at h;refine B h fun x17 cN h=>(B h fun x18 de h=>(B h fun x19 dz h=>(B h fun x20 eB h=>(X 5 5 (sQ (aO (en:=aM) Ty.s82 rfl rfl rfl cN (Y 1 5 (sO (aZ (en:=aM) (a:=x18) rfl rfl de (aJ Ty.k3 (c:=iI x18.N) rfl (Y 1 5 (sQ (aO (en:=aM) Ty.s82 rfl rfl rfl dz ?_)))))))))))))
    refine Y 1 5 (sO (eR (en:=aM) (a:=x20) (a':=(⟨x20.Key,IntKind.i64.wrap (x18.N+1)⟩:Keyed)) Ty.c3 Ty.i3 rfl (vs:=[iI (IntKind.i64.wrap (x18.N+1))]) rfl rfl rfl eB rfl rfl rfl (B h fun x23 eA h=>(B h fun x24 d7 h=>(Y 2 5 (T.drawn mixed (k:=15) rfl ?_))))));apply RA.jn 2 (bm 15 8191);intro mQ;apply RA.jn 3 (bm 15 4095);intro iL;apply RA.jn 4 (bm 15 5887);intro fN;apply RA.jn 4 (bm 15 5119);intro jD;apply RA.jn 5 (bm 15 1791);intro mV;apply RA.jn 5 (bm 15 2043);intro rj;apply RA.jn 5 (bm 15 1023);intro rk;apply RA.jn 6 (bm 15 1787);intro wG;apply RA.jn 6 (bm 15 767);intro wH;apply RA.jn 7 (bm 15 763);intro CT;apply RA.jn 8 (bm 15 1583);intro wI;apply RA.jn 9 (bm 15 1579);intro CU;apply RA.jn 9 (bm 15 1582);intro CV;apply RA.jn 9 (bm 15 559);intro CW
    ·refine rq [1,3,5,9] 11 (ra4 0 2 4 10 ?_ ?_ ?_ ?_)
     ·refine og 5 ⟨rfl,(ra4 2 4 10 12 ?_ ?_ ?_ ?_)⟩
      ·exact og 5 ⟨rfl,(raE CW)⟩
      ·exact og 5 ⟨rfl,(r0 6 rfl (aO (en:=aM) Ty.s82 rfl rfl rfl eA (rq [7] 7 (raE CT))))⟩
      ·exact og 5 ⟨rfl,(raE CU)⟩
      ·exact og 5 ⟨rfl,(rL [4,6,7,8,11,13,14] 4 rfl (r0 6 rfl (aO (en:=aM) Ty.s82 rfl rfl rfl eA (rq [7] 6 (rL [2,11,13,14] 2 rfl (rL [10,11,13,14] 10 rfl (raE fN)))))))⟩
     ·refine og 5 ⟨rfl,(ra3 0 4 10 ?_ ?_ ?_)⟩
      ·exact og 5 ⟨rfl,(raT CW)⟩
      ·exact og 5 ⟨rfl,(r0 6 rfl (aO (en:=aM) Ty.s82 rfl rfl rfl eA (rq [7] 7 (rL [0,12,13,14] 0 rfl (raE wH)))))⟩
      ·exact og 5 ⟨rfl,(raE CV)⟩
     ·exact og 5 ⟨rfl,(r0 6 rfl (aO (en:=aM) Ty.s82 rfl rfl rfl eA (rq [7] 8 (rL [0,12,13,14] 0 rfl (raT CT)))))⟩
     ·refine og 5 ⟨rfl,(ra3 0 2 4 ?_ ?_ ?_)⟩
      ·exact og 5 ⟨rfl,(raT CU)⟩
      ·exact og 5 ⟨rfl,(raT CV)⟩
      ·exact og 5 ⟨rfl,(r0 6 rfl (aO (en:=aM) Ty.s82 rfl rfl rfl eA (rq [7] 7 (rL [0,12,13,14] 0 rfl (raE wG)))))⟩
    ·refine ra3 4 10 12 ?_ ?_ ?_
     ·exact og 5 ⟨rfl,(r0 6 rfl (aO (en:=aM) Ty.s82 rfl rfl rfl eA (rq [7] 6 (raT wH))))⟩
     ·exact og 5 ⟨rfl,(raE wI)⟩
     ·exact og 5 ⟨rfl,(rL [4,6,7,8,11,13,14] 4 rfl (r0 6 rfl (aO (en:=aM) Ty.s82 rfl rfl rfl eA (rq [7] 5 (rL [10,11,13,14] 10 rfl (raT fN))))))⟩
    ·refine ra2 0 4 ?_ ?_
     ·exact og 5 ⟨rfl,(raT wI)⟩
     ·exact og 5 ⟨rfl,(r0 6 rfl (aO (en:=aM) Ty.s82 rfl rfl rfl eA (rq [7] 6 (rL [0,12,13,14] 0 rfl (raE mV)))))⟩
    ·refine ra3 2 4 12 ?_ ?_ ?_
     ·exact og 5 ⟨rfl,(raT wI)⟩
     ·exact og 5 ⟨rfl,(r0 6 rfl (aO (en:=aM) Ty.s82 rfl rfl rfl eA (rq [7] 6 (raT wG))))⟩
     ·exact og 5 ⟨rfl,(rL [4,6,7,8,11,13,14] 4 rfl (r0 6 rfl (aO (en:=aM) Ty.s82 rfl rfl rfl eA (rq [7] 5 (rL [2,11,13,14] 2 rfl (raT fN))))))⟩
    ·refine ra2 4 12 ?_ ?_
     ·exact og 5 ⟨rfl,(r0 6 rfl (aO (en:=aM) Ty.s82 rfl rfl rfl eA (rq [7] 5 (raT mV))))⟩
     ·exact og 5 ⟨rfl,(ra1 4 (og 5 ⟨rfl,(r0 6 rfl (aO (en:=aM) Ty.s82 rfl rfl rfl eA (rq [7] 4 (raT fN))))⟩))⟩
    ·refine ra4 2 8 10 12 ?_ ?_ ?_ ?_
     ·exact og 5 ⟨rfl,(raT wH)⟩
     ·refine oO rfl (aZ (en:=aM) (a:=x24) rfl rfl d7 (aJ Ty.k3 (c:=iI x24.N) rfl (ra3 2 10 12 ?_ ?_ ?_)))
      ·exact og 5 ⟨rfl,(raE rk)⟩
      ·exact og 5 ⟨rfl,(raE rj)⟩
      ·exact og 5 ⟨rfl,(rL [2,11,13,14] 2 rfl (raE jD))⟩
     ·exact og 5 ⟨rfl,(raT wG)⟩
     ·exact og 5 ⟨rfl,(rL [2,11,13,14] 2 rfl (rL [10,11,13,14] 10 rfl (raT fN)))⟩
    ·refine ra3 8 10 12 ?_ ?_ ?_
     ·exact oO rfl (aZ (en:=aM) (a:=x24) rfl rfl d7 (aJ Ty.k3 (c:=iI x24.N) rfl (raT rk)))
     ·exact og 5 ⟨rfl,(raT mV)⟩
     ·exact og 5 ⟨rfl,(rL [10,11,13,14] 10 rfl (raT fN))⟩
    ·refine ra3 2 8 12 ?_ ?_ ?_
     ·exact og 5 ⟨rfl,(raT mV)⟩
     ·exact oO rfl (aZ (en:=aM) (a:=x24) rfl rfl d7 (aJ Ty.k3 (c:=iI x24.N) rfl (raT rj)))
     ·exact og 5 ⟨rfl,(rL [2,11,13,14] 2 rfl (raT fN))⟩
    ·refine ra2 10 12 ?_ ?_
     ·exact og 5 ⟨rfl,(rq [11] 3 (raE iL))⟩
     ·exact og 5 ⟨rfl,(raT jD)⟩
    ·refine ra2 2 12 ?_ ?_
     ·exact og 5 ⟨rfl,(rq [11] 3 (raT iL))⟩
     ·exact og 5 ⟨rfl,(ra1 2 (og 5 ⟨rfl,(rq [11] 2 (raE mQ))⟩))⟩
    ·refine ra2 8 12 ?_ ?_
     ·exact oO rfl (aZ (en:=aM) (a:=x24) rfl rfl d7 (aJ Ty.k3 (c:=iI x24.N) rfl (rq [11] 3 (raT iL))))
     ·exact og 5 ⟨rfl,(raT fN)⟩
    ·exact ra1 10 (og 5 ⟨rfl,(rq [11] 2 (raT mQ))⟩)
    ·exact ra1 8 (oO rfl (aZ (en:=aM) (a:=x24) rfl rfl d7 (aJ Ty.k3 (c:=iI x24.N) rfl (rq [11] 2 (raT mQ)))))
    ·exact ra1 12 (og 5 ⟨rfl,(raT mQ)⟩)
    refine ra1 13 (og 5 ⟨rfl,(rq [14] 0 (RA.done (by decide +kernel) ?_))⟩);cases h;exact tD
   refine X 6 5 (T.ci h rfl (fun aW h=>?_) (fun aW h=>?_))
   ·exact B h fun x11 bI h=>(X 7 5 (sO (bn (rows:=List.map aM [(⟨p3.Key,0⟩:Keyed)]) (vs:=[.agg [iI p3.Key,iI 0]]) Ty.s82 Ty.z139 rfl rfl rfl rfl rfl rfl (sO (cG [4,5] 6 3 (Dp bI) ⟨rfl,(Y 3 7 (wu (hK1 x11 h) [] [0,1,2,3,6] 7 rfl))⟩)))))
   exact X 1 5 (sx (hK1 x4.Keys h))
  refine X 5 5 (gp 83 (fun fM=>?_) (fun fM=>?_))
  ·refine Y 2 5 (yQ rfl (dD (en:=aM) Ty.s82 rfl rfl (Yp 3 5 ?_)));rw [fM] at hK;exact sx hK
  refine Yp 6 5 ?_;rw [fM] at hK;exact sx hK
 refine X 6 5 (T.ci h rfl (fun fu h=>?_) (fun fu h=>?_))
 ·refine X 1 5 (T.ci h rfl (fun jz h=>?_) (fun jz h=>?_))
  ·refine X 1 5 (T.drawn mixed (k:=5) rfl ?_);apply RA.jn 2 (bm 5 7);intro CX
   ·refine rL [0,2,3,4] 0 rfl (ra2 1 2 ?_ ?_)
    ·exact og 5 ⟨rfl,(ra1 2 (og 5 ⟨rfl,(raE CX)⟩))⟩
    ·exact og 5 ⟨rfl,(ra1 1 (og 5 ⟨rfl,(raT CX)⟩))⟩
   refine ra1 3 (og 5 ⟨rfl,(rq [4] 0 (RA.done (by decide +kernel) ?_))⟩);cases h;exact tD
  refine X 9 5 ?_;cases h;exact tD
 refine X 5 5 (T.ci h rfl (fun rc h=>?_) (fun rc h=>?_))
 ·refine X 1 5 (T.ci h rfl (fun wd h=>?_) (fun wd h=>?_))
  ·refine X 1 5 (T.drawn mixed (k:=5) rfl ?_);apply RA.jn 2 (bm 5 7);intro rl
   ·refine rL [0,2,3,4] 0 rfl (ra2 1 2 ?_ ?_)
    ·exact og 5 ⟨rfl,(ra1 2 (og 5 ⟨rfl,(raE rl)⟩))⟩
    ·exact og 5 ⟨rfl,(ra1 1 (og 5 ⟨rfl,(raT rl)⟩))⟩
   refine ra1 3 (og 5 ⟨rfl,(rq [4] 0 (RA.done (by decide +kernel) ?_))⟩);cases h;exact tD
  refine X 9 5 ?_;cases h;exact tD
 refine X 5 5 (T.ci h rfl (fun we h=>?_) (fun we h=>?_))
 ·refine X 1 5 (T.ci h rfl (fun q9 h=>?_) (fun q9 h=>?_))
  ·refine X 1 5 (T.drawn mixed (k:=5) rfl ?_);apply RA.jn 2 (bm 5 7);intro CY
   ·refine rL [0,2,3,4] 0 rfl (ra2 1 2 ?_ ?_)
    ·exact og 5 ⟨rfl,(ra1 2 (og 5 ⟨rfl,(raE CY)⟩))⟩
    ·exact og 5 ⟨rfl,(ra1 1 (og 5 ⟨rfl,(raT CY)⟩))⟩
   refine ra1 3 (og 5 ⟨rfl,(rq [4] 0 (RA.done (by decide +kernel) ?_))⟩);cases h;exact tD
  refine X 9 5 ?_;cases h;exact tD
 refine X 5 5 (T.ci h rfl (fun Lu h=>?_) (fun Lu h=>?_))
 ·refine X 1 5 (T.ci h rfl (fun v9 h=>?_) (fun v9 h=>?_))
  ·refine X 1 5 (T.drawn mixed (k:=5) rfl ?_);apply RA.jn 2 (bm 5 7);intro mW
   ·refine rL [0,2,3,4] 0 rfl (ra2 1 2 ?_ ?_)
    ·exact og 5 ⟨rfl,(ra1 2 (og 5 ⟨rfl,(raE mW)⟩))⟩
    ·exact og 5 ⟨rfl,(ra1 1 (og 5 ⟨rfl,(raT mW)⟩))⟩
   refine ra1 3 (og 5 ⟨rfl,(rq [4] 0 (RA.done (by decide +kernel) ?_))⟩);cases h;exact tD
  refine X 9 5 ?_;cases h;exact tD
 refine X 4 5 (T.ci h rfl (fun Lv h=>?_) (fun Lv h=>?_))
 ·refine X 1 5 (T.drawn mixed (k:=5) rfl ?_);apply RA.jn 2 (bm 5 7);intro oT
  ·refine rL [0,2,3,4] 0 rfl (ra2 1 2 ?_ ?_)
   ·exact og 5 ⟨rfl,(ra1 2 (og 5 ⟨rfl,(raE oT)⟩))⟩
   ·exact og 5 ⟨rfl,(ra1 1 (og 5 ⟨rfl,(raT oT)⟩))⟩
  refine ra1 3 (og 5 ⟨rfl,(rq [4] 0 (RA.done (by decide +kernel) ?_))⟩);cases h;exact tD
 refine X 9 5 ?_;cases h;exact tD
theorem ym {p0:Net} {p1:List (List Item)} {p2:State} {p3:Move} {r:Bool} (h:lY p0 p1 p2 p3=some r):Fn Tryz.prog 124 [.agg (aN p0),sL (ai aa) p1,.agg (bG p2),.agg (br p3)] (.bool r):=by
 unfold lY at h;refine fT 0 0 Tryz.func124 Tryz.ntmps124 rfl ?_;refine B h fun x2 hx2 h=>(X 13 0 (sQ (aD Ty.s22 (fun _=>rfl) rfl rfl hx2 (B h fun x4 hx4 h=>(Y 10 3 (sO (cF (ur hx4) ⟨rfl,(Y 8 4 ?_)⟩)))))))
 obtain ⟨rm,hz,h⟩:=bind_some h;revert hz h;revert rm;intro c7 hz h;refine j1 [(6,.ptr 0 0),(7,.ptr 1 0),(9,.ptr 2 0),(10,.ptr 3 0),(37,.bool c7)] [.box (bG p2),.box (br p3),.box (aq x2),.box (aa x4.1)] ?_ (fun hK=>?_)
 ·refine T.ci h rfl (fun ao h=>?_) (fun ao h=>?_)
  ·refine X 4 4 ?_;cases h;exact tD
  refine X 2 4 (j1 [(6,.ptr 0 0),(7,.ptr 1 0),(9,.ptr 2 0),(10,.ptr 3 0),(57,.bool (if (x2.Kind==6)=true then ((((p2.Choices).length:Int)==500) || ((x2.Kind==8) && ((p2.Out).length:Int)==2000)) else ((x2.Kind==8) && ((p2.Out).length:Int)==2000)))] [.box (bG p2),.box (br p3),.box (aq x2),.box (aa x4.1)] ?_ (fun hK=>?_))
  ·refine T.ci h rfl (fun bj h=>?_) (fun bj h=>?_)
   ·refine X 4 4 ?_;cases h;exact tD
   refine B h fun x11 bI h=>(B h fun x12 bv h=>(X 2 4 (T.drawn mixed (k:=21) rfl ?_)))
   apply RA.jn 3 (bm 21 262143);intro hS9;apply RA.jn 4 (bm 21 196607);intro cZ;apply RA.jn 4 (bm 21 131071);intro cX;apply RA.jn 8 (bm 21 198655);intro eO
   ·refine rq [0,2,4,6] 17 (rL [1,11,12,13,14,15,18,19,20] 1 rfl (rL [3,11,12,13,14,15,18,19,20] 3 rfl (rL [5,8,9,11,12,13,14,15,18,19,20] 5 rfl (rL [7,8,9,11,12,13,14,15,18,19,20] 7 rfl (r0 8 rfl (aD Ty.s28 (fun _=>rfl) rfl rfl bI (rL [9,11,12,13,14,15,18,19,20] 9 rfl (rL [10,11,12,13,14,15,18,19,20] 10 rfl (ra3 11 16 17 ?_ ?_ ?_)))))))))
    ·refine oO rfl (cD (j3 bv) ⟨rfl,(rq [12,13,14,15] 5 (ra2 16 17 ?_ ?_))⟩)
     ·exact og 4 ⟨rfl,(raE cX)⟩
     ·exact og 4 ⟨rfl,(raE cZ)⟩
    ·refine og 4 ⟨rfl,(ra2 11 17 ?_ ?_)⟩
     ·exact oO rfl (cD (j3 bv) ⟨rfl,(rq [12,13,14,15] 4 (raT cX))⟩)
     ·exact og 5 ⟨rfl,(raE eO)⟩
    ·refine og 4 ⟨rfl,(ra2 11 16 ?_ ?_)⟩
     ·exact oO rfl (cD (j3 bv) ⟨rfl,(rq [12,13,14,15] 4 (raT cZ))⟩)
     ·exact og 5 ⟨rfl,(raV eO [0,1,2,3,5,4] rfl)⟩
   ·exact ra1 11 (oO rfl (cD (j3 bv) ⟨rfl,(rq [12,13,14,15] 3 (raE hS9))⟩))
   ·exact ra1 17 (og 5 ⟨rfl,(raT hS9)⟩)
   ·exact ra1 16 (og 5 ⟨rfl,(raV hS9 [0,1,2,3,5,4] rfl)⟩)
   refine ra1 18 (og 6 ⟨rfl,(ra1 19 (og 6 ⟨rfl,(rq [20] 0 (RA.done (by decide +kernel) (X 6 6 ?_)))⟩))⟩);cases h;exact tD
  refine X 6 4 (gp 41 (fun aC=>?_) (fun aC=>?_))
  ·refine Y 2 4 (yQ rfl (ak Ty.s29 rfl (Yp 3 4 (gp 47 (fun aK=>?_) (fun aK=>?_)))))
   ·refine Yp 11 4 ?_;rw [aC] at hK;rw [aK] at hK;exact sx hK
   refine Y 4 4 (gp 51 (fun aS=>?_) (fun aS=>?_))
   ·refine Y 2 4 (yQ rfl (ak Ty.s30 rfl (Yp 4 4 ?_)));rw [aC] at hK;rw [aK] at hK;rw [aS] at hK;exact sx hK
   refine Yp 7 4 ?_;rw [aC] at hK;rw [aK] at hK;rw [aS] at hK;exact sx hK
  refine Yp 10 4 (gp 51 (fun bE=>?_) (fun bE=>?_))
  ·refine Y 2 4 (yQ rfl (ak Ty.s30 rfl (Yp 4 4 ?_)));rw [aC] at hK;rw [bE] at hK;exact sx hK
  refine Yp 7 4 ?_;rw [aC] at hK;rw [bE] at hK;exact sx hK
 refine X 5 5 (gi 31 hz (fun ah hz=>?_) (fun ah hz=>?_))
 ·refine Yp 7 5 ?_;cases hz;exact wu hK [] [1,2,3,4] 5 rfl
 refine B hz fun x5 hx5 hz=>(B hz fun x6 hx6 hz=>(Y 2 5 (yO rfl (cD (xV hx5) ⟨rfl,(Y 1 5 (yO rfl (cG [1,0] 5 2 (Di hx6) ⟨rfl,(Yp 2 5 ?_)⟩)))⟩))))
 cases hz;exact wu hK [] [1,2,3,4] 5 rfl
theorem ET {p0:Net} {p1:List (List Item)} {p2:State} {r:List Move} (h:pZ p0 p1 p2=some r):FnO Tryz.prog 123 [.agg (aN p0),sL (ai aa) p1,.agg (bG p2)] (.ref 0) [aR 97 2 br r]:=by
 unfold pZ at h;refine fT 0 15 Tryz.func123 Tryz.ntmps123 rfl (sQ (ak Ty.s22 rfl (Y 3 2 (itr (fun fk:Int × (List Move)=>mkA 46 [(1,sL (ai aa) p1),(3,.ptr 0 0),(5,.ptr 1 0),(7,.ref 2),(14,sL aq p0.Nodes),(15,iI ((p0.Nodes).length:Int)),(16,iI fk.1)]) (fun fk=>[.box (aN p0),.box (bG p2),aR 97 2 br fk.2]) h (wk [(7,97,2)] [0,1,2] 2 rfl) (fun fk v_28 h mG=>?_)))));obtain ⟨s1,s2⟩:=fk;replace h:jT p0 p1 p2 s1 s2=some v_28:=h;try dsimp only
 unfold jT at h;refine X 5 3 (T.ci h rfl (fun vZ h=>?_) (fun vZ h=>?_))
 ·refine B h fun x4 hx4 h=>(X 6 3 (sQ (aD Ty.s22 (fun _=>rfl) rfl rfl hx4 (Y 9 3 (jn (Z:=Int) (fun fW=>mkA 46 [(1,sL (ai aa) p1),(3,.ptr 0 0),(5,.ptr 1 0),(7,.ref 2),(8,iI s1),(10,iI fW),(14,sL aq p0.Nodes),(15,iI ((p0.Nodes).length:Int)),(16,iI s1)]) (fun fW=>[.box (aN p0),.box (bG p2),aR 97 2 br s2]) (fun fW=>nt p0 p1 s1 p2 s2 fW=some v_28) (fun fW h=>?_) (fun hK2=>?_))))))
  ·revert h;revert fW;intro z5 h;replace h:nt p0 p1 s1 p2 s2 z5=some v_28:=h;try dsimp only
   unfold nt at h;refine X 6 3 (itr (fun dG:Int × (List Move)=>mkA 46 [(1,sL (ai aa) p1),(3,.ptr 0 0),(5,.ptr 1 0),(7,.ref 2),(8,iI s1),(14,sL aq p0.Nodes),(15,iI ((p0.Nodes).length:Int)),(16,iI s1),(27,iI z5),(28,iI dG.1)]) (fun dG=>[.box (aN p0),.box (bG p2),aR 97 2 br dG.2]) h (wk [] [0,1,2] 3 rfl) (fun dG v_37 h oJ=>?_));obtain ⟨s6,s7⟩:=dG;replace h:gw p0 p1 s1 p2 z5 s6 s7=some v_37:=h;try dsimp only
   unfold gw at h;refine X 5 3 (T.ci h rfl (fun fu h=>?_) (fun fu h=>?_))
   ·refine B h fun x9 hx9 h=>(X 22 3 (sO (cF (ym hx9) ⟨rfl,(Y 1 4 (T.ci h rfl (fun jz h=>?_) (fun jz h=>?_)))⟩)))
    ·exact B h fun x10 bf h=>(X 3 4 (sO (bn (rows:=List.map br [(⟨s1,s6⟩:Move)]) (vs:=[.agg [iI s1,iI s6]]) Ty.s93 Ty.z97 rfl rfl rfl rfl rfl rfl (sO (cc (en:=br) (xs:=s7) (ys:=([(⟨s1,s6⟩:Move)]:List Move)) Ty.s93 (fun _=>rfl) rfl rfl rfl bf rfl rfl (Y 6 6 (lk h (wk [] [0,1,5] 6 rfl))))))))
    exact X 5 4 (lk h (wk [] [0,1,2] 4 rfl))
   refine X 1 3 ?_;replace h:=mi h oJ;exact X 4 3 (lk h (wk [] [0,1,2] 3 rfl))
  refine X 7 4 (T.ci h rfl (fun rc h=>?_) (fun rc h=>?_))
  ·exact X 3 4 (sQ (ak Ty.s27 rfl (Y 2 4 (wu (hK2 ((x4.In).length:Int) h) [] [0,1,2] 4 rfl))))
  exact X 1 4 (wu (hK2 1 h) [] [0,1,2] 4 rfl)
 refine X 1 3 ?_;replace h:=mi h mG;refine X 5 3 ?_;cases h;exact tO [] [2] 3
theorem xM {p0:Net} {p1:List (List Item)} {p2:State} {r:(List Move) × Int} (h:iW p0 p1 p2=some r):FnO Tryz.prog 70 [.agg (aN p0),sL (ai aa) p1,.agg (bG p2)] (.tup [.ref 0,iI r.2]) [aR 97 2 br r.1]:=by
 unfold iW at h;refine fT 0 0 Tryz.func70 Tryz.ntmps70 rfl ?_;refine B h fun x2 hx2 h=>(X 13 0 (sO (cF (rZ hx2) ⟨rfl,(Y 7 2 (T.ci h rfl (fun ah h=>?_) (fun ah h=>?_)))⟩)))
 ·refine X 6 2 ?_;cases h;exact tO [(0,97,2)] [2] 2
 refine B h fun x4 hx4 h=>(X 6 2 (sO (cO 2 (ET hx4) ⟨rfl,(Y 3 3 ?_)⟩)))
 cases h;exact tO [] [2] 3
theorem hM {p0:List Item} {r:Item × (List Item) × Int} (h:qm p0=some r):FnO Tryz.prog 149 [sL aa p0] (.tup [.agg (aa r.1),.ref 0,iI r.2.2]) [aR 75 3 aa r.2.1]:=by
 unfold qm at h;refine fT 0 10 Tryz.func149 Tryz.ntmps149 rfl (sQ (ak Ty.s30 rfl (Y 2 1 (T.ci h rfl (fun ah h=>?_) (fun ah h=>?_)))))
 ·refine X 7 1 ?_;cases h;exact tO [(1,75,3)] [1] 1
 refine X 5 1 (sQ (ak Ty.s30 rfl (Y 2 1 (T.ci h rfl (fun ae h=>?_) (fun ae h=>?_)))))
 ·refine X 7 1 ?_;cases h;exact tO [(1,75,3)] [1] 1
 refine B h fun x4 hx4 h=>(B h fun x5 hx5 h=>(B h fun x6 hx6 h=>(X 2 1 (T.drawn mixed (k:=9) rfl ?_))))
 apply RA.jn 3 (bm 9 63);intro hS3
 ·refine rq [0] 8 (r0 1 rfl (aD Ty.s30 (fun _=>rfl) rfl rfl hx4 (rq [3] 6 (r0 4 rfl (nP Ty.s30 (fun _=>rfl) rfl rfl rfl hx5 (ra2 2 5 ?_ ?_))))))
  ·exact og 1 ⟨rfl,(ra1 5 (oO rfl (cO 1 (gu hx6) ⟨rfl,(raE hS3)⟩)))⟩
  ·exact oO rfl (cO 1 (gu hx6) ⟨rfl,(ra1 2 (og 2 ⟨rfl,(raT hS3)⟩))⟩)
 refine ra1 6 (og 2 ⟨rfl,(rq [7,8] 0 (RA.done (by decide +kernel) ?_))⟩);cases h;exact tO [] [1] 2
theorem yo {p0:List Item} {p1:Int} {p2:Item} {r:(List Item) × Int} (h:qy p0 p1 p2=some r):FnO Tryz.prog 150 [sL aa p0,iI p1,.agg (aa p2)] (.tup [.ref 0,iI r.2]) [aR 75 3 aa r.1]:=by
 unfold qy at h;refine fT 0 7 Tryz.func150 Tryz.ntmps150 rfl (j1 [(0,sL aa p0),(1,iI p1),(5,.ptr 0 0),(13,.bool ((decide (p1<1)) || decide (p1 > 6)))] [.box (aa p2)] ?_ (fun hK=>?_))
 ·refine T.ci h rfl (fun ae h=>?_) (fun ae h=>?_)
  ·refine X 5 1 ?_;cases h;exact tO [(0,75,3)] [1] 1
  refine X 5 1 (sQ (ak Ty.s30 rfl (Y 3 1 (T.ci h rfl (fun ao h=>?_) (fun ao h=>?_)))))
  ·refine X 5 1 ?_;cases h;exact tO [(0,75,3)] [1] 1
  refine X 5 1 (sQ (ak Ty.s30 rfl (Y 3 1 (T.ci h rfl (fun aC h=>?_) (fun aC h=>?_)))))
  ·refine X 5 1 ?_;cases h;exact tO [(0,75,3)] [1] 1
  refine B h fun x4 hx4 h=>(B h fun x5 hx5 h=>(X 2 1 (T.drawn mixed (k:=7) rfl ?_)))
  apply RA.jn 3 (bm 7 15);intro hS5;apply RA.jn 4 (bm 7 7);intro hS6
  ·refine rq [0] 6 (ra2 1 2 ?_ ?_)
   ·exact oO rfl (cO 1 (gu hx4) ⟨rfl,(ra1 2 (og 2 ⟨rfl,(raE hS6)⟩))⟩)
   ·refine og 1 ⟨rfl,(ra2 1 3 ?_ ?_)⟩
    ·exact oO rfl (cO 1 (gu hx4) ⟨rfl,(raT hS6)⟩)
    ·exact oO rfl (bn (rows:=List.map aa [p2]) (vs:=[.agg (aa p2)]) Ty.s30 Ty.z75 rfl rfl rfl rfl rfl rfl (ra1 1 (oO rfl (cO 2 (gu hx4) ⟨rfl,(raE hS5)⟩))))
  ·exact ra1 3 (oO rfl (bn (rows:=List.map aa [p2]) (vs:=[.agg (aa p2)]) Ty.s30 Ty.z75 rfl rfl rfl rfl rfl rfl (raV hS5 [0,2,1] rfl)))
  refine ra1 4 (oO rfl (cc (en:=aa) (xs:=x4) (ys:=([p2]:List Item)) Ty.s30 (fun _=>rfl) rfl rfl rfl hx5 rfl rfl (rq [5,6] 0 (RA.done (by decide +kernel) ?_))));cases h;exact tO [] [3] 4
 refine X 5 1 (gp 10 (fun ah=>?_) (fun ah=>?_))
 ·refine Yp 4 1 ?_;rw [ah] at hK;exact sx hK
 refine Yp 4 1 ?_;rw [ah] at hK;exact sx hK
end
section
open Go.RowKit
def PanX (P:Program) (V:Value) (f:FuncId) (args:List AV) (aw:List Ob):Prop :=
 (∀ vs w,(callFunc f vs).run P w=.ok (.enter f vs) w) /\
 ∀ w F σ vs,Sim aw σ w F->RelL σ w F args vs->Calls P f vs.toArray w fun e w'=>∃ σ' F',e=.panicked [{ v:=V,recovered:=false }]/\Sim (aw.map fun _=>Ob.dead) σ' w' F'/\Mv aw σ w F (aw.map fun _=>Ob.dead) σ' w' F'
section
variable {P:Program} {V:Value} {N n:Nat} {fr:List AV} {aw aw':List Ob} {l:List (Nat × AV)}
structure PP (P:Program) (V:Value) (N:Nat) (o:Oper) (fr:List AV) (aw:List Ob) (Kp:List AV->List Ob->Prop):Prop where
 out:∀ st:St,st.aw.length=N->st.σ.length=st.aw.length->∀ σ w F a,Cur st fr aw σ w F a->∀ (Kc:Act->World->Prop) (Q:Exit->Act->World->Prop),
  (∀ aw' σ' w' F',Kp fr aw'->Cur st fr aw' σ' w' F' a->Q (.panic [{ v:=V,recovered:=false }]) a w')->o.wp P a w Kc Q
theorem GZ {o:Oper} {a:Act} {next next':Act->World->Prop} {Q Q':Exit->Act->World->Prop} (hn:∀ a w,next a w->next' a w) (hp:∀ ch a w,Q (.panic ch) a w->Q' (.panic ch) a w) (hl:LetsOut Q->LetsOut Q') :
  ∀ r,o.upon P a next Q r->o.upon P a next' Q' r:=by
 intro r h
 unfold Oper.upon at h ⊢
 split at h
 ·exact hn _ _ h
 ·exact hn _ _ h
 ·exact hn _ _ h
 ·refine Calls.mono h ?_
  intro e w he
  cases e with
  | returned v=>exact hn _ _ he
  | panicked ch=>exact hp _ _ _ he
  | outgrown=>exact hl he
 ·exact Rows.mono h fun v w hv=>hn _ _ hv
 ·exact hp _ _ _ h
 ·exact h.elim
def thenL (P:Program) (ops:Array Oper) (rest:List Oper) (Q:Exit->Act->World->Prop):Exit->Act->World->Prop
 | .normal,a,w=>wpList P ops Q rest a w
 | e,a,w=>Q e a w
theorem qf {ops:Array Oper} {Q:Exit->Act->World->Prop} {rest:List Oper}:∀ (pre:List Oper) (a:Act) (w:World),wpList P ops (thenL P ops rest Q) pre a w->wpList P ops Q (pre++rest) a w
 | [],a,w,h=>h
 | o::pre,a,w,h=>by
  rw [NJ];unfold wpList at h ⊢;split at h
  ·rename_i hw;rw [if_pos hw];rcases h with h | ⟨h1,h2⟩
   ·exact .inl (GZ (fun a w h=>qf pre a w h) (fun _ _ _ h=>h) (fun h=>h) _ h)
   ·exact .inr ⟨h1,h2⟩
  ·rename_i hw;rw [if_neg hw];exact qf pre _ w h
theorem T.regionP {id:Nat} {ops:Array Oper} {Q:Exit->List AV->List Ob->Prop} {pre rest:List Oper} {o:Oper} (ho:ops.toList=pre++o::rest) (hg:o.guard=none)
  (h:RS P N ops pre (fun fr aw=>PP P V N o fr aw (Q (.panic [{ v:=V,recovered:=false }]))) fr aw):T P N (.region id ops false) Q fr aw :=
 ⟨fun st h1 h2 σ w F a hc=>by refine wp_region_list ?_;rw [ho];refine qf _ _ _ (h.out st h1 h2 σ w F a hc _ fun fr aw σ w F a hc hK=>?_);show wpList P ops _ (o::rest) a w;unfold wpList;rw [if_pos (by simp [Region.wanted,hg])];exact .inl (hK.out st h1 h2 σ w F a hc _ _ fun aw' σ' w' F' hKp hcur=>⟨fr,aw',σ',F',hKp,hcur⟩)⟩
theorem PP.call {d:Option Tmp} {ty:TypeId} {ps:String} {af:Array Edge} {g:Option (Nat × Bool)} {Kp:List AV->List Ob->Prop} {f:Operand} {args:Array Operand} {ts:Array TypeId} {h:FuncId} {caps ac as0:List AV} {aw0 aw2:List Ob} {n0:Nat} (ρ:List Nat) (hn0:aw.length=n0)
  (hf:evA n l f=.func h caps) (ha:args.toList.map (evA n l)++caps=ac) (hnd:ρ.Nodup) (hW:bT ρ aw ρ aw0) (hA:cj ρ as0 ac) (hC:PanX P V h as0 aw0) (hlen:aw2.length+ρ.length=n0+aw0.length)
  (hB:eK (bR ρ n0 aw0.length) ρ aw (aw0.map fun _=>Ob.dead) 0 aw2) (hK:Kp (mkA n l) aw2):PP P V N ⟨d,.call ⟨.value f,args,ts⟩,ty,ps,af,g⟩ (mkA n l) aw Kp :=
 ⟨fun st h1 h2 σ w F a hc Kc Q hk=>by
  subst hn0;have hfv:=hc.fr.ev f;rw [aE,hf] at hfv;generalize hvf:a.eval f=vf at hfv;cases hfv with
  | func _ _ cvs hl hcs =>
   have hargs:RelL σ w F ac (args.toList.map a.eval++cvs):=by rw [<- ha];have:=je hc.fr args.toList;rw [show args.toList.map (ev (mkA n l))=args.toList.map (evA n l) from ME fun x _=>aE n l x] at this;exact this.append ⟨hl,hcs⟩
   obtain ⟨hlW,hgW⟩:=jg hW;obtain ⟨σ0',hσ',hs0',hd0'⟩:=gQ hc.sim hnd hW;have hl0:σ0'.length=ρ.length:=by rw [hs0'.len,hlW]
   have hr0:RelL σ0' w F as0 (args.toList.map a.eval++cvs):=e7 hA hargs hσ';have hrun:(execOp a.eval ⟨d,.call ⟨.value f,args,ts⟩,ty,ps,af,g⟩).run P w=.ok (.enter h (args.toList.map a.eval++cvs).toArray) w:=by
    have e:args.map a.eval++cvs.toArray=(args.toList.map a.eval++cvs).toArray:=by obtain ⟨l⟩:=args;simp
    simp only [execOp,resolve,Deferred.ofValue,hvf,Sem.run_bind,Sem.run_pure,Result.andThen_ok,invoke,NA,e,hC.1]
   unfold Oper.wp;rw [hrun];refine (hC.2 w F σ0' _ hs0' hr0).mono ?_;rintro e w' ⟨σ1,F',rfl,hs1,hm⟩;obtain ⟨σ2,s2,m2,hσ2⟩:=qg (aw2:=aw2) hc.sim hnd hW hσ' hl0 hs0' hd0' hs1 hm (by rw [L6];exact hlen) (by rw [L6];exact hB);exact hk aw2 σ2 w' F' hK (hc.step s2 m2)⟩
theorem PP.callb {d:Option Tmp} {ty:TypeId} {ps:String} {af:Array Edge} {g:Option (Nat × Bool)} {Kp:List AV->List Ob->Prop} {f:Operand} {args:Array Operand} {ts:Array TypeId} {h:FuncId} {caps ac as0:List AV} {aw0 aw2:List Ob} {n0:Nat} (ρ:List Nat) (hn0:aw.length=n0)
  (hf:evA n l f=.bnd h caps) (ha:caps++args.toList.map (evA n l)=ac) (hnd:ρ.Nodup) (hW:bT ρ aw ρ aw0) (hA:cj ρ as0 ac) (hC:PanX P V h as0 aw0) (hlen:aw2.length+ρ.length=n0+aw0.length)
  (hB:eK (bR ρ n0 aw0.length) ρ aw (aw0.map fun _=>Ob.dead) 0 aw2) (hK:Kp (mkA n l) aw2):PP P V N ⟨d,.call ⟨.value f,args,ts⟩,ty,ps,af,g⟩ (mkA n l) aw Kp :=
 ⟨fun st h1 h2 σ w F a hc Kc Q hk=>by
  subst hn0;have hfv:=hc.fr.ev f;rw [aE,hf] at hfv;generalize hvf:a.eval f=vf at hfv;cases hfv with
  | bnd _ _ cvs hl hcs =>
   have hargs:RelL σ w F ac (cvs++args.toList.map a.eval):=by rw [<- ha];have:=je hc.fr args.toList;rw [show args.toList.map (ev (mkA n l))=args.toList.map (evA n l) from ME fun x _=>aE n l x] at this;exact RelL.append ⟨hl,hcs⟩ this
   obtain ⟨hlW,hgW⟩:=jg hW;obtain ⟨σ0',hσ',hs0',hd0'⟩:=gQ hc.sim hnd hW;have hl0:σ0'.length=ρ.length:=by rw [hs0'.len,hlW]
   have hr0:RelL σ0' w F as0 (cvs++args.toList.map a.eval):=e7 hA hargs hσ';have hrun:(execOp a.eval ⟨d,.call ⟨.value f,args,ts⟩,ty,ps,af,g⟩).run P w=.ok (.enter h (cvs++args.toList.map a.eval).toArray) w:=by
    have e:cvs.toArray++args.map a.eval++#[]=(cvs++args.toList.map a.eval).toArray:=by obtain ⟨l⟩:=args;simp
    simp only [execOp,resolve,Deferred.ofValue,hvf,Sem.run_bind,Sem.run_pure,Result.andThen_ok,invoke,e,hC.1]
   unfold Oper.wp;rw [hrun];refine (hC.2 w F σ0' _ hs0' hr0).mono ?_;rintro e w' ⟨σ1,F',rfl,hs1,hm⟩;obtain ⟨σ2,s2,m2,hσ2⟩:=qg (aw2:=aw2) hc.sim hnd hW hσ' hl0 hs0' hd0' hs1 hm (by rw [L6];exact hlen) (by rw [L6];exact hB);exact hk aw2 σ2 w' F' hK (hc.step s2 m2)⟩
def panQ (V:Value):Exit->List AV->List Ob->Prop
 | .panic ch,_,_=>ch=[{ v:=V,recovered:=false }]
 | _,_,_=>False
theorem yH {ρ:List Nat} {aw0:List Ob}:∀ (ids:List Nat) (aw:List Ob),ids.length=aw.length->(∀ id,id∈ids->id<aw0.length)->bT ρ aw0 ids (aw.map fun _=>Ob.dead)
 | [],[],_,_=>trivial
 | [],_::_,h,_=>by simp at h
 | _::_,[],h,_=>by simp at h
 | id::ids,o::aw,h,hi=>⟨⟨_,LR (hi id Mf),tqz⟩,yH ids aw (by simpa using h) fun j hj=>hi j (Me _ hj)⟩
theorem F8 {f:FuncId} {fn:Func} {c:Code} {args:List AV} {aw:List Ob} {m N:Nat} (hN:aw.length=N) (hf:P.funcs[f]?=some fn) (hb:fn.body=some c) (hname:(fn.name == "runtime.NumGoroutine")=false) (hm:fn.ntmps=m) (hl:Nat.ble args.length m=true)
  (h:T P N c (panQ V) (mkA m (initA 0 args)) aw):PanX P V f args aw:=by
 subst hm hN
 refine ⟨callable hf (by rw [hb];rfl) hname,fun w F σ vs hs hr=>?_⟩
 have hc:Cur ⟨aw,σ,w,F,[]⟩ (args++List.replicate (fn.ntmps - args.length) .any) aw σ w F { tmps:=vs.toArray++Array.replicate (fn.ntmps - vs.toArray.size) undef,defers:=[] }:=by
  refine ⟨hs,⟨?_,tqz⟩,.refl ..,rfl⟩;have h2:RelL σ w F (List.replicate (fn.ntmps - args.length) .any) (List.replicate (fn.ntmps - vs.length) undef) :=
   ⟨by simp [hr.1],fun j x v hx hv=>by rw [Mz (LT hx)];exact .any v⟩
  simpa using hr.append h2
 rw [uQ _ _ (M2 hl)] at hc
 refine calls_of_wp hf hb (wp_mono (h.out ⟨aw,σ,w,F,[]⟩ rfl hs.len σ w F _ hc) ?_)
 rintro e a' w' ⟨fr',aw',σ',F',hq,hcur⟩
 cases e with
 | panic ch =>
  have hq:ch=_:=hq
  subst hq
  have hlen:aw.length<=aw'.length:=by
   have h1:=hcur.sim.len;have h2:=hcur.mv.pre;have h3:=hs.len;by_cases h0:aw.length=0
   ·omega
   ·have:=(LS.1 (h2 (aw.length - 1) _ (LR (by show _<σ.length;omega)))).1;omega
  obtain ⟨σ2,hσ,s2,hd⟩:=gQ (aw':=aw.map fun _=>Ob.dead) (ρ:=List.range aw.length) hcur.sim List.nodup_range (yH _ _ (by simp) fun id hid=>by have:=NT.1 hid;omega)
  exact ⟨hcur.ds,σ2,F',rfl,s2,Mv.ren (st:=⟨aw,σ,w,F,[]⟩) hs.len hcur.mv (fun k hk=>by rw [Nn hk]) hσ hd⟩
 | normal=>exact hq.elim
 | ret=>exact hq.elim
 | exit id=>exact hq.elim
 | goto l=>exact hq.elim
 | outgrown=>exact hq.elim
end
end
section
open Go.RowKit
def FnP (P:Program) (V:Value) (f:FuncId) (args:List AV) (aw:List Ob) {R:Type} (val:R->AV) (obs:R->List Ob):R ⊕ Unit->Prop
 | .inl x=>FnX P f args aw (val x) (obs x)
 | .inr _=>PanX P V f args aw
def retP (P:Program) (V:Value) (fn:Func) (N:Nat) {R:Type} (Q:R->AV->List Ob->Prop):R ⊕ Unit->Exit->List AV->List Ob->Prop
 | .inl x=>retQ P fn N (Q x)
 | .inr _=>panQ V
section
variable {P:Program} {V:Value} {N n:Nat} {fr:List AV} {aw aw':List Ob} {l:List (Nat × AV)}
instance {fn:Func} {M:Nat} {R:Type} {Q:R->AV->List Ob->Prop} {x:R}:RetI (retP P V fn M Q (.inl x)) (fun fr aw=>bQ P fr aw fn.results.toList (Ret M (Q x) aw)):=⟨fun _ _ h=>h⟩
theorem fnPT {f:FuncId} {fn:Func} {c:Code} {args:List AV} {R:Type} {val:R->AV} {obs:R->List Ob} {r:R ⊕ Unit} {m:Nat} (N:Nat) (hf:P.funcs[f]?=some fn) (hm:fn.ntmps=m)
  (h:iniC 0 args fun l=>T P N c (retP P V fn N (fun x v aw'=>v=val x/\aw'=obs x) r) (mkA m l) aw)
  (hb:fn.body=some c:=by rfl) (hN:aw.length=N:=by rfl) (hname:(fn.name == "runtime.NumGoroutine")=false:=by kernel_rfl) (hl:Nat.ble args.length m=true:=by rfl):FnP P V f args aw val obs r:=by
 have h':=sT (K:=fun l=>T P N c (retP P V fn N (fun x v aw'=>v=val x/\aw'=obs x) r) (mkA m l) aw) h
 cases r with
 | inl x=>exact gK hN hf hb hname hm hl h'
 | inr u=>exact F8 hN hf hb hname hm hl h'
variable {ops:Array Oper} {o:Oper} {d:Option Tmp} {ty:TypeId} {ps:String} {af:Array Edge} {gd:Option (Nat × Bool)}
theorem PP.panic {x:Operand} {t:TypeId} {Kp:List AV->List Ob->Prop} (hx:evA n l x=.ifc t (.agg [])) (hK:Kp (mkA n l) aw):PP P (.iface t (.agg #[])) N ⟨d,.panic x,ty,ps,af,gd⟩ (mkA n l) aw Kp :=
 ⟨fun st h1 h2 σ w F a hc Kc Q hk=>by
  have hfv:=hc.fr.ev x;rw [aE,hx] at hfv;generalize hvf:a.eval x=vf at hfv;cases hfv with
  | ifc _ _ u hu =>
   cases hu with
   | agg _ vs hl hone hcs =>
    have:vs=[]:=L1 (by simpa using hl);subst this;unfold Oper.wp;have hrun:(execOp a.eval ⟨d,.panic x,ty,ps,af,gd⟩).run P w=.halt (.panic (.iface t (.agg #[]))) w:=by simp only [execOp,hvf];rfl
    rw [hrun];exact hk aw σ w F hK hc⟩
theorem PP.cal {Kp:List AV->List Ob->Prop} {f:Operand} {args:Array Operand} {ts:Array TypeId} {h:FuncId} {caps ac as0:List AV} {aw0 aw2:List Ob} {n0 n1:Nat} (ρ:List Nat) (hn0:aw.length=n0) (hn1:aw0.length=n1)
 (hf:evA n l f=.func h caps) (ha:args.toList.map (evA n l)++caps=ac) (hnd:ρ.Nodup) (hW:bT ρ aw ρ aw0) (hA:cj ρ as0 ac) (hC:PanX P V h as0 aw0) (hlen:aw2.length+ρ.length=n0+n1)
 (hB:eK (bR ρ n0 n1) ρ aw (aw0.map fun _=>Ob.dead) 0 aw2) (hK:Kp (mkA n l) aw2):PP P V N ⟨d,.call ⟨.value f,args,ts⟩,ty,ps,af,gd⟩ (mkA n l) aw Kp:=by subst hn1;exact PP.call ρ hn0 hf ha hnd hW hA hC hlen hB hK
theorem PP.calb {Kp:List AV->List Ob->Prop} {f:Operand} {args:Array Operand} {ts:Array TypeId} {h:FuncId} {caps ac as0:List AV} {aw0 aw2:List Ob} {n0 n1:Nat} (ρ:List Nat) (hn0:aw.length=n0) (hn1:aw0.length=n1)
 (hf:evA n l f=.bnd h caps) (ha:caps++args.toList.map (evA n l)=ac) (hnd:ρ.Nodup) (hW:bT ρ aw ρ aw0) (hA:cj ρ as0 ac) (hC:PanX P V h as0 aw0) (hlen:aw2.length+ρ.length=n0+n1)
 (hB:eK (bR ρ n0 n1) ρ aw (aw0.map fun _=>Ob.dead) 0 aw2) (hK:Kp (mkA n l) aw2):PP P V N ⟨d,.call ⟨.value f,args,ts⟩,ty,ps,af,gd⟩ (mkA n l) aw Kp:=by subst hn1;exact PP.callb ρ hn0 hf ha hnd hW hA hC hlen hB hK
theorem qc {Kp:List AV->List Ob->Prop} {f:Operand} {args:Array Operand} {ts:Array TypeId} {h:FuncId} {caps ac as0:List AV} {aw0 aw2:List Ob} {n0 n1:Nat} (ρ:List Nat)
 (hf:evA n l f=.func h caps) (ha:args.toList.map (evA n l)++caps=ac) (hC:PanX P V h as0 aw0) (hW:bT ρ aw ρ aw0) (hA:cj ρ as0 ac)
 (hB:eK (bR ρ n0 n1) ρ aw (aw0.map fun _=>Ob.dead) 0 aw2) (hK:Kp (mkA n l) aw2) (hn0:aw.length=n0:=by rfl) (hn1:aw0.length=n1:=by rfl) (hnd:ρ.Nodup:=by decide) (hlen:aw2.length+ρ.length=n0+n1:=by rfl):PP P V N ⟨d,.call ⟨.value f,args,ts⟩,ty,ps,af,gd⟩ (mkA n l) aw Kp:=PP.cal ρ hn0 hn1 hf ha hnd hW hA hC hlen hB hK
theorem qcb {Kp:List AV->List Ob->Prop} {f:Operand} {args:Array Operand} {ts:Array TypeId} {h:FuncId} {caps ac as0:List AV} {aw0 aw2:List Ob} {n0 n1:Nat} (ρ:List Nat)
 (hf:evA n l f=.bnd h caps) (ha:caps++args.toList.map (evA n l)=ac) (hC:PanX P V h as0 aw0) (hW:bT ρ aw ρ aw0) (hA:cj ρ as0 ac)
 (hB:eK (bR ρ n0 n1) ρ aw (aw0.map fun _=>Ob.dead) 0 aw2) (hK:Kp (mkA n l) aw2) (hn0:aw.length=n0:=by rfl) (hn1:aw0.length=n1:=by rfl) (hnd:ρ.Nodup:=by decide) (hlen:aw2.length+ρ.length=n0+n1:=by rfl):PP P V N ⟨d,.call ⟨.value f,args,ts⟩,ty,ps,af,gd⟩ (mkA n l) aw Kp:=PP.calb ρ hn0 hn1 hf ha hnd hW hA hC hlen hB hK
theorem T.rP {id:Nat} {Q:Exit->List AV->List Ob->Prop} (i:Nat) (hi:ops.toList[i]?=some o) (h:RS P N ops (ops.toList.take i) (fun fr aw=>PP P V N o fr aw fun fr aw=>Q (.panic [{ v:=V,recovered:=false }]) fr aw) fr aw) (hg:o.guard=none:=by rfl):T P N (.region id ops false) Q fr aw:=by refine T.regionP (pre:=ops.toList.take i) (rest:=ops.toList.drop (i+1)) (o:=o) ?_ hg h;obtain ⟨hlt,he⟩:=LS.1 hi;rw [<- he,List.getElem_cons_drop,MK]
def panE (V:Value) (st:St) (Kp:List Ob->Prop) (e:Exit) (a:Act) (w:World):Prop:=e=.panic [{ v:=V,recovered:=false }]/\∃ fr aw σ F,Cur st fr aw σ w F a/\Kp aw
theorem F6 {st:St} {σ:List Value} {w:World} {F:Nat->Prop} {a:Act} {d:Option Tmp} {v:Value} (h:Cur st fr aw σ w F (a.put d v)):∃ fr',Cur st fr' aw σ w F a:=by
 refine ⟨List.replicate a.tmps.size .any,h.sim,⟨⟨by simp,fun j x v hx hv=>?_⟩,tqz⟩,h.mv,?_⟩
 ·rw [Mz (LT hx)];exact .any v
 ·have:=h.ds;cases d<;>exact this
theorem Au {st:St} {Kp:List Ob->Prop} {d:Option Tmp} {v:Value} {c:List PanicEntry} {a:Act} {w:World} (h:panE V st Kp (.panic c) (a.put d v) w):panE V st Kp (.panic c) a w:=by obtain ⟨h1,fr,aw,σ,F,h2,h3⟩:=h;obtain ⟨fr',h4⟩:=F6 h2;exact ⟨h1,fr',aw,σ,F,h4,h3⟩
structure RAP (P:Program) (V:Value) (N:Nat) (ops:Array Oper) (k:Nat) (li:Array Bool) (Kp:List Ob->Prop) (fr:List AV) (aw:List Ob):Prop where
 out:∀ st:St,st.aw.length=N->st.σ.length=st.aw.length->∀ σ w F a,Cur st fr aw σ w F a->wpAny P .any ops (panE V st Kp) k li a w
variable {k:Nat} {li:Array Bool} {Kp:List Ob→Prop}
theorem T.drawnP {id:Nat} {Q:Exit->List AV->List Ob->Prop} (Kp:List Ob->Prop) (hm:P.follows .mixedOrders=true) (hk:ops.size=k) (h:RAP P V N ops k (Array.replicate k false) Kp fr aw) (hq:∀ fr aw,Kp aw->Q (.panic [{ v:=V,recovered:=false }]) fr aw):T P N (.region id ops true) Q fr aw :=
 ⟨fun st h1 h2 σ w F a hc=>by subst hk;have hc':Cur st fr aw σ w.drew F a:=hc.step hc.sim.drew .drew;refine wp_mono (wp_region_any hm (h.out st h1 h2 σ w.drew F a hc')) (fun e a w hq'=>?_);obtain ⟨rfl,fr',aw',σ',F',h3,h4⟩:=hq';exact ⟨fr',aw',σ',F',hq _ _ h4,h3⟩⟩
theorem qp0 (i:Nat) (hi:ops[i]?=some o) (h:vcQ P (mkA n l) aw o.op fun r=>stD l o.dst r fun l=>RAP P V N ops k (li.setIfInBounds i true) Kp (mkA n l) aw) (hs:Region.noSelect ops=true:=by decide +kernel) (hf:Region.free .any ops li i=true:=by decide +kernel)
  (hr:(Region.ready .any ops li).contains i=true:=by decide +kernel) (hg:o.guard=none:=by rfl) (hn:gN o.op=true:=by rfl):RAP P V N ops (k+1) li Kp (mkA n l) aw :=
 ⟨fun st e1 e2 σ w F a hc=>by obtain ⟨v,r,hrun,hrel,hk⟩:=lX hc hn h;refine wpAny_take hi hs hf hr (fun c a w hp=>Au hp) (.inl ⟨by simp [Region.wanted,hg],hrun⟩) (RAP.out (eX (K:=fun l=>RAP P V N ops k (li.setIfInBounds i true) Kp (mkA n l) aw) hk) st e1 e2 σ w F _ ?_);have:=dq hc hrel o.dst;rwa [dm] at this⟩
open RK in
theorem qpl (D:List Nat) (i:Nat) (hi:ops[i]?=some o) (h:vcQ P (mkA n l) aw o.op fun r=>stD l o.dst r fun l=>RAP P V N ops k (li.setIfInBounds i true) Kp (mkA n l) aw) (hs:Region.noSelect ops=true:=by decide +kernel) (hf:loadFree ops li D i=true:=by decide +kernel)
  (hr:(Region.ready .any ops li).contains i=true:=by decide +kernel) (hg:o.guard=none:=by rfl):RAP P V N ops (k+1) li Kp (mkA n l) aw :=
 ⟨fun st e1 e2 σ w F a hc=>by obtain ⟨v,r,hrun,hrel,hk⟩:=yP hc h;refine xj D hi hs hf hr (fun c a w hp=>Au hp) (.inl ⟨by simp [Region.wanted,hg],hrun⟩) (RAP.out (eX (K:=fun l=>RAP P V N ops k (li.setIfInBounds i true) Kp (mkA n l) aw) hk) st e1 e2 σ w F _ ?_);have:=dq hc hrel o.dst;rwa [dm] at this⟩
structure RAO (P:Program) (V:Value) (N:Nat) (ops:Array Oper) (i:Nat) (K:List AV->List Ob->Prop) (Kp:List Ob->Prop) (fr:List AV) (aw:List Ob):Prop where
 out:∀ st:St,st.aw.length=N->st.σ.length=st.aw.length->∀ σ w F a,Cur st fr aw σ w F a->∀ (Kc:Act->World->Prop),
  (∀ fr aw σ w F a,Cur st fr aw σ w F a->K fr aw->Kc a w)->wpOp P ops (panE V st Kp) i Kc a w
theorem RAP.all {rs:List Nat} (hr:Region.ready .any ops li=rs) (hne:rs≠[]) (h:∀ i,i∈rs->RAO P V N ops i (RAP P V N ops k (li.setIfInBounds i true) Kp) Kp fr aw):RAP P V N ops (k+1) li Kp fr aw :=
 ⟨fun st h1 h2 σ w F a hc=>wpAny_all hr hne fun i hi=>(h i hi).out st h1 h2 σ w F a hc _ fun fr aw σ w F a hc hK=>RAP.out hK st h1 h2 σ w F a hc⟩
theorem qA1 (i:Nat) (h:RAO P V N ops i (RAP P V N ops k (li.setIfInBounds i true) Kp) Kp fr aw) (hr:Region.ready .any ops li=[i]:=by decide +kernel):RAP P V N ops (k+1) li Kp fr aw :=
 RAP.all hr (by simp) fun x hx=>by rw [M3] at hx;subst hx;exact h
theorem qA2 (i j:Nat) (h:RAO P V N ops i (RAP P V N ops k (li.setIfInBounds i true) Kp) Kp fr aw) (h':RAO P V N ops j (RAP P V N ops k (li.setIfInBounds j true) Kp) Kp fr aw) (hr:Region.ready .any ops li=[i,j]:=by decide +kernel):RAP P V N ops (k+1) li Kp fr aw :=
 RAP.all hr (by simp) fun x hx=>by
  rcases Mp.1 hx with rfl | hx
  ·exact h
  ·rw [M3] at hx;subst hx;exact h'
theorem qA3 (i j m:Nat) (h:RAO P V N ops i (RAP P V N ops k (li.setIfInBounds i true) Kp) Kp fr aw) (h':RAO P V N ops j (RAP P V N ops k (li.setIfInBounds j true) Kp) Kp fr aw) (h'':RAO P V N ops m (RAP P V N ops k (li.setIfInBounds m true) Kp) Kp fr aw) (hr:Region.ready .any ops li=[i,j,m]:=by decide +kernel):RAP P V N ops (k+1) li Kp fr aw :=
 RAP.all hr (by simp) fun x hx=>by
  rcases Mp.1 hx with rfl | hx
  ·exact h
  ·rcases Mp.1 hx with rfl | hx
   ·exact h'
   ·rw [M3] at hx;subst hx;exact h''
theorem qpO {i:Nat} {K:List AV->List Ob->Prop} (hi:ops[i]?=some o) (h:OP P N o (mkA n l) aw fun r aw'=>stD l o.dst r fun l=>K (mkA n l) aw') (hg:o.guard=none:=by rfl):RAO P V N ops i K Kp (mkA n l) aw :=
 ⟨fun st e1 e2 σ w F a hc Kc hK=>by unfold wpOp;simp only [hi];rw [if_pos (by simp [Region.wanted,hg])];refine .inl (h.out st e1 e2 σ w F a hc _ _ fun r aw' σ' w' F' v hk hcur hrel=>hK _ _ σ' w' F' _ ?_ (eX (K:=fun l=>K (mkA n l) aw') hk));have:=dq hcur hrel o.dst;rwa [dm] at this⟩
theorem qpP {i:Nat} {K:List AV->List Ob->Prop} (hi:ops[i]?=some o) (h:PP P V N o (mkA n l) aw fun _ aw=>Kp aw) (hg:o.guard=none:=by rfl):RAO P V N ops i K Kp (mkA n l) aw :=
 ⟨fun st e1 e2 σ w F a hc Kc hK=>by unfold wpOp;simp only [hi];rw [if_pos (by simp [Region.wanted,hg])];exact .inl (h.out st e1 e2 σ w F a hc _ _ fun aw' σ' w' F' hk hcur=>⟨rfl,_,aw',σ',F',hcur,hk⟩)⟩
end
end
end Go.Proofs.YtnlmagdmmjkklaaGreat
