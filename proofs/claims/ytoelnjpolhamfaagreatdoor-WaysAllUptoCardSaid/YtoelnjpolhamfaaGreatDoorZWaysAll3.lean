/-
  Part 3 of the proof of waysAllLaw.proved: the code computes these functions, and the law holds of them, with no condition beyond the statement's own; put together by a program of ours (wip/decl.py) out of texts of ours.
-/
import Derived.Test.YtoelnjpolhamfaaGreatDoorZWaysAll2
set_option linter.unusedVariables false
set_option linter.unusedSimpArgs false
namespace Go.Proofs.YtoelnjpolhamfaaGreatDoor
noncomputable section
set_option maxRecDepth 100000
def mh:Option Net :=
 (some (⟨[(⟨1,0,[],[0]⟩:Node),(⟨1,1,[],[1]⟩:Node),(⟨6,0,[0,1],[2]⟩:Node),(⟨8,0,[2],[]⟩:Node)],3,1⟩:Net))
def d6 (p0 p1:Int):Option Item :=
 (some (⟨p0,p1,0⟩:Item))
def nZ (p0 p1:Int):Option (Int × Int) :=
 (Option.bind (shr .u64 p0 32) fun x2=>(Option.bind (shr .u64 p1 32) fun x4=>(Option.bind (shr .u64 (IntKind.u64.wrap ((ibits .and .u64 p0 4294967295)*(ibits .and .u64 p1 4294967295))) 32) fun x6=>(Option.bind (shr .u64 (IntKind.u64.wrap ((IntKind.u64.wrap (x2*(ibits .and .u64 p1 4294967295)))+x6)) 32) fun x8=>(Option.bind (shr .u64 (IntKind.u64.wrap ((ibits .and .u64 (IntKind.u64.wrap ((IntKind.u64.wrap (x2*(ibits .and .u64 p1 4294967295)))+x6)) 4294967295)+(IntKind.u64.wrap ((ibits .and .u64 p0 4294967295)*x4)))) 32) fun x10=>(some (IntKind.u64.wrap ((IntKind.u64.wrap ((IntKind.u64.wrap (x2*x4))+x8))+x10),IntKind.u64.wrap (p0*p1))))))))
def mw (p0 p1:Int):Option (Int × Int) :=
 (Option.bind (nZ p0 p1) fun x2=>(some (x2.1,x2.2)))
def fS  (s6:Int) (s7:List Ends):Option ((Int × (List Ends)) ⊕ (List Ends)) :=
 (if (decide (s6<((s7).length:Int)))=true then (Option.bind (vwok (s7).length s6 ((s7).length:Int)) fun x8=>(Option.bind (vwok (s7).length 0 s6) fun x9=>(Option.bind (vwok (s7).length ((s6).toNat:Nat) (((s6).toNat:Nat)+(((((s7).length:Int)).toNat - (s6).toNat):Nat))) fun x10=>(Option.bind (vwok (s7).length (((0:Int)).toNat:Nat) ((((0:Int)).toNat:Nat)+(((s6).toNat - ((0:Int)).toNat):Nat))) fun x11=>(some (.inl (IntKind.i64.wrap (s6+((min ((((s7).length:Int)).toNat - (s6).toNat) ((s6).toNat - ((0:Int)).toNat):Nat):Int)),(cpy s7 ((s6).toNat) ((((s7).length:Int)).toNat - (s6).toNat) ((s7.drop (((0:Int)).toNat)).take ((s6).toNat - ((0:Int)).toNat)))))))))) else (Option.map Sum.inr (some s7)))
def kD (p0:List Ends) (p1:Int):Option (List Ends) :=
 (if (decide (p1<0))=true then (none) else (Option.bind (mw (IntKind.u64.wrap ((p0).length:Int)) (IntKind.u64.wrap p1)) fun x2=>(if ((decide (x2.1 > 0)) || decide (x2.2 > 9223372036854775807))=true then (none) else (Option.bind (mk (IntKind.i64.wrap x2.2) (⟨0,0⟩:Ends)) fun x5=>(iter (fun ss_8:Int × (List Ends)=>fS ss_8.1 ss_8.2) (((min (x5).length (p0).length:Nat):Int),(cpy x5 0 (x5).length p0)))))))
def jv (p0:Int) (z2:Bool):Option (Int × Int × Bool) :=
 (if z2=true then (some (1,(-1),true)) else (if (p0==6)=true then (some ((-1),1,true)) else (if (p0==8)=true then (some (1,0,true)) else (some (0,0,false)))))
def hY (p0:Int) (z1:Bool):Option (Int × Int × Bool) :=
 (if z1=true then (some (1,1,true)) else (if (p0==5)=true then (jv p0 (p0==5)) else (jv p0 (p0==7))))
def k9 (p0:Int):Option (Int × Int × Bool) :=
 (if (p0==1)=true then (some (0,1,true)) else (if (p0==2)=true then (hY p0 (p0==2)) else (if (p0==3)=true then (hY p0 (p0==3)) else (hY p0 (p0==4)))))
def jU (p0 p1:Int):Option Bool :=
 (some ((p0==p1) || ((decide (p1<0)) && decide (p0 > 0))))
def gB (p0:Net) (s6:Int) (x9:Node) (z15 s27:Int) (s28:List Ends):Option ((Int × (List Ends)) ⊕ ((Int × Int × (List Ends)) ⊕ ((List Ends) × Int))) :=
 (if (decide (s27<((x9.Out).length:Int)))=true then (Option.bind (idx x9.Out s27) fun x30=>(if ((decide (x30<0)) || decide (x30 >= p0.Rings))=true then (Option.map Sum.inr (Option.map Sum.inr (some ([],3)))) else (Option.bind (ixN s28 x30) fun x34=>(Option.bind ((s28)[x34]?) fun x35=>(if (decide (x35.src >= 0))=true then (Option.map Sum.inr (Option.map Sum.inr (some ([],6)))) else (Option.bind (ixN s28 x30) fun x36=>(Option.bind ((s28)[x36]?) fun x37=>(some (.inl (IntKind.i64.wrap (s27+1),(List.set s28 x36 (⟨s6,x37.dst⟩:Ends)))))))))))) else (Option.map Sum.inr (some (.inl (z15,IntKind.i64.wrap (s6+1),s28)))))
def gG (p0:Net) (s6:Int) (x9:Node) (z15 s16:Int) (s17:List Ends):Option ((Int × (List Ends)) ⊕ ((Int × Int × (List Ends)) ⊕ ((List Ends) × Int))) :=
 (if (decide (s16<((x9.In).length:Int)))=true then (Option.bind (idx x9.In s16) fun x19=>(if ((decide (x19<0)) || decide (x19 >= p0.Rings))=true then (Option.map Sum.inr (Option.map Sum.inr (some ([],3)))) else (Option.bind (ixN s17 x19) fun x23=>(Option.bind ((s17)[x23]?) fun x24=>(if (decide (x24.dst >= 0))=true then (Option.map Sum.inr (Option.map Sum.inr (some ([],6)))) else (Option.bind (ixN s17 x19) fun x25=>(Option.bind ((s17)[x25]?) fun x26=>(some (.inl (IntKind.i64.wrap (s16+1),(List.set s17 x25 (⟨x26.src,s6⟩:Ends)))))))))))) else (Option.map Sum.inr (iter (fun ss_178:Int × (List Ends)=>gB p0 s6 x9 z15 ss_178.1 ss_178.2) (0,s17))))
def ib (p0:Net) (s6:Int) (s7:List Ends) (x9:Node) (z15:Int):Option ((Int × Int × (List Ends)) ⊕ ((List Ends) × Int)) :=
 (iter (fun ss_159:Int × (List Ends)=>gG p0 s6 x9 z15 ss_159.1 ss_159.2) (0,s7))
def ic (s5:Int) (s7:List Ends) (s38:Int):Option (Int ⊕ ((List Ends) × Int)) :=
 (if (decide (s38<((s7).length:Int)))=true then (Option.bind (ixN s7 s38) fun x41=>(Option.bind ((s7)[x41]?) fun x42=>(if ((decide (x42.src<0)) || decide (x42.dst<0))=true then (Option.map Sum.inr (some ([],9))) else (some (.inl (IntKind.i64.wrap (s38+1))))))) else (Option.map Sum.inr (if (s5 != 1)=true then (some ([],4)) else (some (s7,0)))))
def gH (p0:Net) (s5 s6:Int) (s7:List Ends):Option ((Int × Int × (List Ends)) ⊕ ((List Ends) × Int)) :=
 (if (decide (s6<((p0.Nodes).length:Int)))=true then (Option.bind (idx p0.Nodes s6) fun x9=>(Option.bind (k9 x9.Kind) fun x11=>(if (!x11.2.2)=true then (Option.map Sum.inr (some ([],5))) else (Option.bind (jU ((x9.In).length:Int) x11.1) fun x12=>(Option.bind (if (!x12)=true then (some true) else (Option.bind (jU ((x9.Out).length:Int) x11.2.1) fun x13=>(some (!x13)))) fun c14=>(if c14=true then (Option.map Sum.inr (some ([],4))) else (if ((decide (x9.A<0)) || (if (x9.Kind==1)=true then ((decide (x9.A >= 4)) || (if (x9.Kind==2)=true then ((decide (x9.A > 3)) || ((x9.Kind != 1) && ((x9.Kind != 2) && x9.A != 0))) else ((x9.Kind != 1) && ((x9.Kind != 2) && x9.A != 0)))) else (if (x9.Kind==2)=true then ((decide (x9.A > 3)) || ((x9.Kind != 1) && ((x9.Kind != 2) && x9.A != 0))) else ((x9.Kind != 1) && ((x9.Kind != 2) && x9.A != 0)))))=true then (Option.map Sum.inr (some ([],3))) else (if (x9.Kind==8)=true then (ib p0 s6 s7 x9 (IntKind.i64.wrap (s5+1))) else (ib p0 s6 s7 x9 s5))))))))) else (Option.map Sum.inr (iter (fun ss_197:Int=>ic s5 s7 ss_197) 0)))
def lv (p0:Net):Option ((List Ends) × Int) :=
 (if ((decide (((p0.Nodes).length:Int)<1)) || ((decide (((p0.Nodes).length:Int) > 12)) || ((decide (p0.Rings<0)) || decide (p0.Rings > 16))))=true then (some ([],2)) else (if ((decide (p0.Room<1)) || decide (p0.Room > 6))=true then (some ([],3)) else (Option.bind (kD ([(⟨(-1),(-1)⟩:Ends)]:List Ends) p0.Rings) fun x4=>(iter (fun ss_123:Int × Int × (List Ends)=>gH p0 ss_123.1 ss_123.2.1 ss_123.2.2) (0,0,x4)))))
def kE (p0:Int) (p1:List Bool) (p2:List Ends):Option Bool :=
 (Option.bind (ixN p2 p0) fun x5=>(Option.bind ((p2)[x5]?) fun x6=>(Option.bind (ixN p1 x6.src) fun x7=>(Option.bind ((p1)[x7]?) fun x8=>(some (!x8))))))
def iW (p0:List Int) (p1:List Bool) (p2:List Ends) (s1:Int):Option (Int ⊕ Int) :=
 (if (decide (s1<((p0).length:Int)))=true then (Option.bind (idx p0 s1) fun x4=>(Option.bind (kE x4 p1 p2) fun x5=>(if x5=true then (Option.map Sum.inr (some s1)) else (some (.inl (IntKind.i64.wrap (s1+1))))))) else (Option.map Sum.inr (some (-1))))
def l8 (p0:List Int) (p1:List Bool) (p2:List Ends):Option Int :=
 (iter (fun ss_5:Int=>iW p0 p1 p2 ss_5) 0)
def iX (p0:List Int) (p1:List Bool) (p2:List Ends):Option Bool :=
 (Option.bind (l8 p0 p1 p2) fun x2=>(some (decide (x2 >= 0))))
def hZ (s5:List Int) (s6:List Bool) (z14:Int):Option (((List Int) × (List Bool)) ⊕ ((List Int) × Int)) :=
 (if (decide (z14<0))=true then (Option.map Sum.inr (some ([],7))) else (Option.bind (ixN s6 z14) fun x17=>(Option.bind ((s6)[x17]?) fun x18=>(Option.bind (app s5 [z14]) fun x19=>(some (.inl (x19,(List.set s6 x17 true))))))))
def gu (p0:Net) (x2:(List Ends) × Int) (s5:List Int) (s6:List Bool) (s7:Int):Option (Int ⊕ (((List Int) × (List Bool)) ⊕ ((List Int) × Int))) :=
 (if (decide (s7<((p0.Nodes).length:Int)))=true then (Option.bind (idx p0.Nodes s7) fun x9=>(Option.bind (ixN s6 s7) fun x10=>(Option.bind ((s6)[x10]?) fun x11=>(Option.bind (if (!x11)=true then (Option.bind (iX x9.In s6 x2.1) fun x12=>(some (!x12))) else (some false)) fun c13=>(if c13=true then (Option.map Sum.inr (hZ s5 s6 s7)) else (some (.inl (IntKind.i64.wrap (s7+1))))))))) else (Option.map Sum.inr (hZ s5 s6 (-1))))
def gr (p0:Net) (x2:(List Ends) × Int) (s5:List Int) (s6:List Bool):Option (((List Int) × (List Bool)) ⊕ ((List Int) × Int)) :=
 (if (decide (((s5).length:Int)<((p0.Nodes).length:Int)))=true then (iter (fun ss_102:Int=>gu p0 x2 s5 s6 ss_102) 0) else (Option.map Sum.inr (some (s5,0))))
def lp (p0:Net):Option ((List Int) × Int) :=
 (Option.bind (lv p0) fun x2=>(if (x2.2 != 0)=true then (some ([],x2.2)) else (Option.bind (mk ((p0.Nodes).length:Int) false) fun x4=>(iter (fun ss_72:(List Int) × (List Bool)=>gr p0 x2 ss_72.1 ss_72.2) ([],x4)))))
def jL (p0:Net):Option Int :=
 (Option.bind (lp p0) fun x2=>(some x2.2))
def jk (s3:Int) (x5:List Item) (s6:Int):Option (Int ⊕ (Int ⊕ Int)) :=
 (if (decide (s6<((x5).length:Int)))=true then (Option.bind (idx x5 s6) fun x8=>(if (x8.Dep != 0)=true then (Option.map Sum.inr (Option.map Sum.inr (some 4))) else (some (.inl (IntKind.i64.wrap (s6+1)))))) else (Option.map Sum.inr (some (.inl (IntKind.i64.wrap (s3+1))))))
def gl (p0:Net) (p1:List (List Item)) (s11:Int) (s12:List Bool):Option ((Int × (List Bool)) ⊕ Int) :=
 (if (decide (s11<((p0.Nodes).length:Int)))=true then (Option.bind (idx p0.Nodes s11) fun x14=>(if (x14.Kind != 1)=true then (some (.inl (IntKind.i64.wrap (s11+1),s12))) else (if (decide (x14.A >= ((p1).length:Int)))=true then (Option.map Sum.inr (some 5)) else (Option.bind (ixN s12 x14.A) fun x17=>(Option.bind ((s12)[x17]?) fun x18=>(if x18=true then (Option.map Sum.inr (some 6)) else (Option.bind (ixN s12 x14.A) fun x19=>(Option.bind ((s12)[x19]?) fun x20=>(some (.inl (IntKind.i64.wrap (s11+1),(List.set s12 x19 true)))))))))))) else (Option.map Sum.inr (some 0)))
def jl (p0:Net) (p1:List (List Item)) (s3:Int):Option (Int ⊕ Int) :=
 (if (decide (s3<((p1).length:Int)))=true then (Option.bind (idx p1 s3) fun x5=>(if (decide (((x5).length:Int) > 20))=true then (Option.map Sum.inr (some 2)) else (iter (fun ss_36:Int=>jk s3 x5 ss_36) 0))) else (Option.map Sum.inr (Option.bind (mk ((p1).length:Int) false) fun x10=>(iter (fun ss_52:Int × (List Bool)=>gl p0 p1 ss_52.1 ss_52.2) (0,x10)))))
def jx (p0:Net) (p1:List (List Item)):Option Int :=
 (Option.bind (jL p0) fun x2=>(if (x2 != 0)=true then (some x2) else (if (decide (((p1).length:Int) > 4))=true then (some 2) else (iter (fun ss_27:Int=>jl p0 p1 ss_27) 0))))
def k7 (p0:Net) (p1:List (List Item)):Option State :=
 (Option.bind (mk ((p1).length:Int) 0) fun x4=>(Option.bind (mk p0.Rings ([]:List Item)) fun x5=>(Option.bind (mk ((p0.Nodes).length:Int) (⟨0,[],0⟩:Memory)) fun x6=>(some (⟨x4,x5,x6,[],[]⟩:State)))))
def k6 (p0:Net) (p1:List (List Item)):Option (State × Int) :=
 (Option.bind (jx p0 p1) fun x2=>(if (x2 != 0)=true then (some ((⟨[],[],[],[],[]⟩:State),x2)) else (Option.bind (k7 p0 p1) fun x4=>(some (x4,0)))))
def mf (p0:List Node):Option (List Node):=app [] p0
def fj (p0:List Int):Option (List Int):=app [] p0
def gJ (p0:Net) (x2:List Node) (s3:Int) (s4:List Node):Option ((Int × (List Node)) ⊕ Net) :=
 (if (decide (s3<((x2).length:Int)))=true then (Option.bind (ixN s4 s3) fun x5=>(Option.bind ((s4)[x5]?) fun x6=>(Option.bind (fj x6.In) fun x7=>(Option.bind (ixN s4 s3) fun x8=>(Option.bind ((s4)[x8]?) fun x9=>(Option.bind (fj x9.Out) fun x10=>(Option.bind (ixN s4 s3) fun x11=>(Option.bind ((s4)[x11]?) fun x12=>(Option.bind (ixN (List.set s4 x11 (⟨x12.Kind,x12.A,x7,x12.Out⟩:Node)) s3) fun x13=>(Option.bind (((List.set s4 x11 (⟨x12.Kind,x12.A,x7,x12.Out⟩:Node)))[x13]?) fun x14=>(some (.inl (IntKind.i64.wrap (s3+1),(List.set (List.set s4 x11 (⟨x12.Kind,x12.A,x7,x12.Out⟩:Node)) x13 (⟨x14.Kind,x14.A,x14.In,x10⟩:Node))))))))))))))) else (Option.map Sum.inr (some (⟨s4,p0.Rings,p0.Room⟩:Net))))
def lF (p0:Net):Option Net :=
 (Option.bind (mf p0.Nodes) fun x2=>(iter (fun ss_69:Int × (List Node)=>gJ p0 x2 ss_69.1 ss_69.2) (0,x2)))
def mc (p0:Item) (p1:List Int) (p2:List (List Item)) (p3:List Memory) (p4:List Choice) (p5:List Item):Option Bool :=
 (some ((decide (p0.Dep<0)) || decide (p0.Dep > ((p4).length:Int))))
def km (p0:List Item) (p1:List Int) (p2:List (List Item)) (p3:List Memory) (p4:List Choice) (p5:List Item) (s1:Int):Option (Int ⊕ Int) :=
 (if (decide (s1<((p0).length:Int)))=true then (Option.bind (idx p0 s1) fun x4=>(Option.bind (mc x4 p1 p2 p3 p4 p5) fun x5=>(if x5=true then (Option.map Sum.inr (some s1)) else (some (.inl (IntKind.i64.wrap (s1+1))))))) else (Option.map Sum.inr (some (-1))))
def l6 (p0:List Item) (p1:List Int) (p2:List (List Item)) (p3:List Memory) (p4:List Choice) (p5:List Item):Option Int :=
 (iter (fun ss_5:Int=>km p0 p1 p2 p3 p4 p5 ss_5) 0)
def lZ (p0:List Item) (p1:List Int) (p2:List (List Item)) (p3:List Memory) (p4:List Choice) (p5:List Item):Option Bool :=
 (Option.bind (l6 p0 p1 p2 p3 p4 p5) fun x2=>(some (decide (x2 >= 0))))
def jd (p0:List Item) (p1:List Int) (p2:List (List Item)) (p3:List Memory) (p4:List Choice) (p5:List Item):Option Bool :=
 (Option.bind (lZ p0 p1 p2 p3 p4 p5) fun x2=>(some (!x2)))
def eE (p0:Memory) (s1:Int):Option (Int ⊕ Int) :=
 (if (decide (s1<((p0.Keys).length:Int)))=true then (Option.bind (idx p0.Keys s1) fun x3=>(Option.bind (if (decide (x3.N<1))=true then (some true) else (if (decide (s1 > 0))=true then (Option.bind (idx p0.Keys (IntKind.i64.wrap (s1 - 1))) fun x4=>(some (decide (x4.Key >= x3.Key)))) else (some false))) fun c5=>(if c5=true then (Option.map Sum.inr (some 4)) else (some (.inl (IntKind.i64.wrap (s1+1))))))) else (Option.map Sum.inr (if (decide (p0.Dep<0))=true then (some 3) else (some 0))))
def gD (p0:Memory):Option Int :=
 (if (decide (((p0.Keys).length:Int) > 6))=true then (some 2) else (iter (fun ss_16:Int=>eE p0 ss_16) 0))
def kY (p0:Net) (p1:Choice):Option Bool :=
 (Option.bind (if (decide (p1.Node >= 0))=true then (if (decide (p1.Node<((p0.Nodes).length:Int)))=true then (Option.bind (idx p0.Nodes p1.Node) fun x1=>(if (x1.Kind==6)=true then (if (decide (p1.Lane >= 0))=true then (Option.bind (idx p0.Nodes p1.Node) fun x2=>(some (decide (p1.Lane<((x2.In).length:Int))))) else (some false)) else (some false))) else (some false)) else (some false)) fun c3=>(some c3))
def jr (p0:Net) (p2:State) (s20:Int):Option (Int ⊕ Int) :=
 (if (decide (s20<((p2.Choices).length:Int)))=true then (Option.bind (idx p2.Choices s20) fun x22=>(Option.bind (kY p0 x22) fun x24=>(if (!x24)=true then (Option.map Sum.inr (some 5)) else (some (.inl (IntKind.i64.wrap (s20+1))))))) else (Option.map Sum.inr (Option.bind (jd p2.Out p2.At p2.Rings p2.Memory p2.Choices p2.Out) fun x26=>(if (!x26)=true then (some 3) else (some 0)))))
def jm (p0:Net) (p2:State) (s15:Int):Option (Int ⊕ Int) :=
 (if (decide (s15<((p2.Memory).length:Int)))=true then (Option.bind (idx p2.Memory s15) fun x17=>(Option.bind (gD x17) fun x19=>(if (x19 != 0)=true then (Option.map Sum.inr (some x19)) else (if (decide (x17.Dep > ((p2.Choices).length:Int)))=true then (Option.map Sum.inr (some 3)) else (some (.inl (IntKind.i64.wrap (s15+1)))))))) else (Option.map Sum.inr (iter (fun ss_55:Int=>jr p0 p2 ss_55) 0)))
def jq (p0:Net) (p2:State) (s10:Int):Option (Int ⊕ Int) :=
 (if (decide (s10<((p2.Rings).length:Int)))=true then (Option.bind (idx p2.Rings s10) fun x12=>(if (decide (((x12).length:Int) > p0.Room))=true then (Option.map Sum.inr (some 2)) else (Option.bind (jd x12 p2.At p2.Rings p2.Memory p2.Choices p2.Out) fun x14=>(if (!x14)=true then (Option.map Sum.inr (some 3)) else (some (.inl (IntKind.i64.wrap (s10+1)))))))) else (Option.map Sum.inr (iter (fun ss_43:Int=>jm p0 p2 ss_43) 0)))
def kP (p0:Net) (p1:List (List Item)) (p2:State) (s5:Int):Option (Int ⊕ Int) :=
 (if (decide (s5<((p2.At).length:Int)))=true then (Option.bind (idx p2.At s5) fun x7=>(Option.bind (if (decide (x7<0))=true then (some true) else (Option.bind (idx p1 s5) fun x8=>(some (decide (x7 > ((x8).length:Int)))))) fun c9=>(if c9=true then (Option.map Sum.inr (some 3)) else (some (.inl (IntKind.i64.wrap (s5+1))))))) else (Option.map Sum.inr (iter (fun ss_29:Int=>jq p0 p2 ss_29) 0)))
def jC (p0:Net) (p1:List (List Item)) (p2:State):Option Int :=
 (Option.bind (jx p0 p1) fun x2=>(if (x2 != 0)=true then (some x2) else (if ((((p2.At).length:Int) != ((p1).length:Int)) || ((((p2.Rings).length:Int) != p0.Rings) || ((p2.Memory).length:Int) != ((p0.Nodes).length:Int)))=true then (some 4) else (if ((decide (((p2.Choices).length:Int) > 500)) || decide (((p2.Out).length:Int) > 2000))=true then (some 2) else (iter (fun ss_15:Int=>kP p0 p1 p2 ss_15) 0)))))
def jK (p0:Net) (p1:List (List Item)) (p2:State) (p3:Move):Option (Item × Bool) :=
 (Option.bind (idx p0.Nodes p3.Node) fun x2=>(if (x2.Kind==1)=true then (Option.bind (idx p2.At x2.A) fun x5=>(Option.bind (idx p1 x2.A) fun x6=>(if (x5==((x6).length:Int))=true then (some ((⟨0,0,0⟩:Item),false)) else (Option.bind (idx p1 x2.A) fun x10=>(Option.bind (idx p2.At x2.A) fun x11=>(Option.bind (idx x10 x11) fun x12=>(some (x12,true)))))))) else (Option.bind (idx x2.In p3.Lane) fun x15=>(Option.bind (idx p2.Rings x15) fun x16=>(if (((x16).length:Int)==0)=true then (some ((⟨0,0,0⟩:Item),false)) else (Option.bind (idx x16 0) fun x18=>(some (x18,true))))))))
def kZ (p0:Item) (p1:Int):Option (Int × Int) :=
 (if ((decide (p1<1)) || decide (p1 > 16))=true then (some (0,3)) else (Option.bind (rem p0.Key p1) fun x4=>(Option.bind (rem (IntKind.i64.wrap (x4+p1)) p1) fun x5=>(some (x5,0)))))
def jF (p0:Node) (p1:Item):Option (List Int) :=
 (if (p0.Kind != 7)=true then (some p0.Out) else (Option.bind (kZ p1 ((p0.Out).length:Int)) fun x2=>(Option.bind (sub p0.Out x2.1 (IntKind.i64.wrap (x2.1+1))) fun x4=>(some x4))))
def mj (p0:Int) (p1:List Int) (p2:List (List Item)) (p3:List Memory) (p4:List Choice) (p5:List Item) (p6:List Node) (p7 p8:Int):Option Bool :=
 (Option.bind (idx p2 p0) fun x2=>(some (decide (((x2).length:Int) >= p8))))
def ko (p0 p1:List Int) (p2:List (List Item)) (p3:List Memory) (p4:List Choice) (p5:List Item) (p6:List Node) (p7 p8 s1:Int):Option (Int ⊕ Int) :=
 (if (decide (s1<((p0).length:Int)))=true then (Option.bind (idx p0 s1) fun x4=>(Option.bind (mj x4 p1 p2 p3 p4 p5 p6 p7 p8) fun x5=>(if x5=true then (Option.map Sum.inr (some s1)) else (some (.inl (IntKind.i64.wrap (s1+1))))))) else (Option.map Sum.inr (some (-1))))
def l7 (p0 p1:List Int) (p2:List (List Item)) (p3:List Memory) (p4:List Choice) (p5:List Item) (p6:List Node) (p7 p8:Int):Option Int :=
 (iter (fun ss_5:Int=>ko p0 p1 p2 p3 p4 p5 p6 p7 p8 ss_5) 0)
def kp (p0 p1:List Int) (p2:List (List Item)) (p3:List Memory) (p4:List Choice) (p5:List Item) (p6:List Node) (p7 p8:Int):Option Bool :=
 (Option.bind (l7 p0 p1 p2 p3 p4 p5 p6 p7 p8) fun x2=>(some (decide (x2 >= 0))))
def f0 (p0:List Keyed):Option (List Keyed):=app [] p0
def fv (p0:Memory):Option Memory :=
 (Option.bind (f0 p0.Keys) fun x2=>(some (⟨p0.Sum,x2,p0.Dep⟩:Memory)))
def od (p0:Item):Option Int :=
 (some (IntKind.i64.wrap (p0.Val+1)))
def ob (p0:Item):Option Int :=
 (some (IntKind.i64.wrap (2*p0.Val)))
def oe (p0:Item):Option Int :=
 (some (IntKind.i64.wrap (0 - p0.Val)))
def oa (p0:Item):Option Int :=
 (some (IntKind.i64.wrap (p0.Val+p0.Key)))
def ol (p0:Int) (p1:Item):Option Item :=
 (Option.bind (if (p0==0)=true then (Option.bind (od p1) fun x1=>(some x1)) else (if (p0==1)=true then (Option.bind (ob p1) fun x2=>(some x2)) else (if (p0==2)=true then (Option.bind (oe p1) fun x3=>(some x3)) else (Option.bind (isAt p0 3) fun x4=>(Option.bind (oa p1) fun x5=>(some x5)))))) fun c6=>(some (⟨p1.Key,c6,p1.Dep⟩:Item)))
def js (p0:Keyed) (p1:Int):Option Int :=
 (if (decide (p0.Key<p1))=true then (some (-1)) else (if (decide (p0.Key > p1))=true then (some 1) else (some 0)))
def ki (p0:List Keyed) (p1 s1 s2:Int):Option ((Int × Int) ⊕ (Int × Bool)) :=
 (if (decide (s1<s2))=true then (Option.bind (shr .u64 (IntKind.u64.wrap (IntKind.i64.wrap (s1+s2))) 1) fun x4=>(Option.bind (idx p0 (IntKind.i64.wrap x4)) fun x7=>(Option.bind (js x7 p1) fun x8=>(if (decide (x8<0))=true then (some (.inl (IntKind.i64.wrap ((IntKind.i64.wrap x4)+1),s2))) else (some (.inl (s1,IntKind.i64.wrap x4))))))) else (Option.map Sum.inr (Option.bind (if (decide (s1<((p0).length:Int)))=true then (Option.bind (idx p0 s1) fun x9=>(Option.bind (js x9 p1) fun x10=>(some (x10==0)))) else (some false)) fun c11=>(some (s1,c11)))))
def kj (p0:List Keyed) (p1:Int):Option (Int × Bool) :=
 (iter (fun ss_5:Int × Int=>ki p0 p1 ss_5.1 ss_5.2) (0,((p0).length:Int)))
def nT (p0:Int) (p1 p2:List Keyed) (C:Nat):Option (List Keyed) :=
 (Option.bind (vwok ((p1).length) p0 (((p1).length:Nat):Int)) fun x2=>(if (((p2).length:Int)==0)=true then (none) else (if (p0==(((p1).length:Nat):Int))=true then (Option.bind (app p1 p2) fun x4=>(some x4)) else (if (decide ((IntKind.i64.wrap ((((p1).length:Nat):Int)+((p2).length:Int))) > ((C:Nat):Int)))=true then (Option.bind (vwok ((p1).length) 0 p0) fun x7=>(Option.bind (growz p1 ((p0).toNat) C (IntKind.i64.wrap ((IntKind.i64.wrap ((((p1).length:Nat):Int)+((p2).length:Int))) - p0)) (⟨0,0⟩:Keyed)) fun x8=>(Option.bind (vwok (x8).length p0 ((x8).length:Int)) fun x11=>(Option.bind (vwok (x8).length ((p0).toNat:Nat) (((p0).toNat:Nat)+(((((x8).length:Int)).toNat - (p0).toNat):Nat))) fun x12=>(Option.bind (vwok ((cpy x8 ((p0).toNat) ((((x8).length:Int)).toNat - (p0).toNat) p2)).length (IntKind.i64.wrap (p0+((p2).length:Int))) (((cpy x8 ((p0).toNat) ((((x8).length:Int)).toNat - (p0).toNat) p2)).length:Int)) fun x17=>(Option.bind (vwok ((p1).length) p0 (((p1).length:Nat):Int)) fun x18=>(Option.bind (vwok ((cpy x8 ((p0).toNat) ((((x8).length:Int)).toNat - (p0).toNat) p2)).length ((IntKind.i64.wrap (p0+((p2).length:Int))).toNat:Nat) (((IntKind.i64.wrap (p0+((p2).length:Int))).toNat:Nat)+((((((cpy x8 ((p0).toNat) ((((x8).length:Int)).toNat - (p0).toNat) p2)).length:Int)).toNat - (IntKind.i64.wrap (p0+((p2).length:Int))).toNat):Nat))) fun x19=>(Option.bind (vwok (p1).length ((0+(p0).toNat):Nat) (((0+(p0).toNat):Nat)+((((((p1).length:Nat):Int)).toNat - (p0).toNat):Nat))) fun x20=>(some (cpy (cpy x8 ((p0).toNat) ((((x8).length:Int)).toNat - (p0).toNat) p2) ((IntKind.i64.wrap (p0+((p2).length:Int))).toNat) (((((cpy x8 ((p0).toNat) ((((x8).length:Int)).toNat - (p0).toNat) p2)).length:Int)).toNat - (IntKind.i64.wrap (p0+((p2).length:Int))).toNat) ((p1.drop (0+(p0).toNat)).take (((((p1).length:Nat):Int)).toNat - (p0).toNat)))))))))))) else (Option.bind (roomx (p1).length C (IntKind.i64.wrap ((((p1).length:Nat):Int)+((p2).length:Int)))) fun x22=>(Option.bind (vwok ((p1).length+x22) (IntKind.i64.wrap (p0+((p2).length:Int))) ((((p1).length+x22):Nat):Int)) fun x25=>(Option.bind (ovok p2 ((((((p1).length+x22):Nat):Int)).toNat - (IntKind.i64.wrap (p0+((p2).length:Int))).toNat)) fun x26=>(Option.bind (vwok ((p1).length+x22) (IntKind.i64.wrap (p0+((p2).length:Int))) ((((p1).length+x22):Nat):Int)) fun x30=>(Option.bind (vwok ((p1).length+x22) p0 ((((p1).length+x22):Nat):Int)) fun x31=>(Option.bind (cpyU p1 x22 ((IntKind.i64.wrap (p0+((p2).length:Int))).toNat) ((((((p1).length+x22):Nat):Int)).toNat - (IntKind.i64.wrap (p0+((p2).length:Int))).toNat) ((p0).toNat) ((((((p1).length+x22):Nat):Int)).toNat - (p0).toNat)) fun x32=>(Option.bind (vwok (x32).length p0 ((x32).length:Int)) fun x35=>(Option.bind (vwok (x32).length ((p0).toNat:Nat) (((p0).toNat:Nat)+(((((x32).length:Int)).toNat - (p0).toNat):Nat))) fun x36=>(some (cpy x32 ((p0).toNat) ((((x32).length:Int)).toNat - (p0).toNat) p2))))))))))))))
def kr (p0:Int) (p1 p2:List Keyed):Option (List Keyed):=allC (p1).length (fun C=>nT p0 p1 p2 C)
def fq (p3:Item) (x4:Memory) (x9:Int × Bool) (z12:List Keyed):Option (Memory × Item × Int) :=
 (Option.bind (ixN z12 x9.1) fun x17=>(Option.bind ((z12)[x17]?) fun x18=>(Option.bind (ixN z12 x9.1) fun x19=>(Option.bind ((z12)[x19]?) fun x20=>(Option.bind (ixN (List.set z12 x19 (⟨x20.Key,IntKind.i64.wrap (x18.N+1)⟩:Keyed)) x9.1) fun x23=>(Option.bind (((List.set z12 x19 (⟨x20.Key,IntKind.i64.wrap (x18.N+1)⟩:Keyed)))[x23]?) fun x24=>(some ((⟨x4.Sum,(List.set z12 x19 (⟨x20.Key,IntKind.i64.wrap (x18.N+1)⟩:Keyed)),(if p3.Dep > x4.Dep then p3.Dep else x4.Dep)⟩:Memory),(⟨p3.Key,x24.N,(if p3.Dep > x4.Dep then p3.Dep else x4.Dep)⟩:Item),0))))))))
def d7 (p0 p1:Int) (p2:Memory) (p3:Item):Option (Memory × Item × Int) :=
 (Option.bind (gD p2) fun x2=>(if (x2 != 0)=true then (some ((⟨0,[],0⟩:Memory),(⟨0,0,0⟩:Item),x2)) else (if (decide (p3.Dep<0))=true then (some ((⟨0,[],0⟩:Memory),(⟨0,0,0⟩:Item),3)) else (Option.bind (fv p2) fun x4=>(if (p0==2)=true then (if ((decide (p1<0)) || decide (p1 > 3))=true then (some ((⟨0,[],0⟩:Memory),(⟨0,0,0⟩:Item),3)) else (Option.bind (ol p1 p3) fun x7=>(some (x4,x7,0)))) else (if (p0==3)=true then (some ((⟨IntKind.i64.wrap (x4.Sum+p3.Val),x4.Keys,(if p3.Dep > x4.Dep then p3.Dep else x4.Dep)⟩:Memory),(⟨p3.Key,IntKind.i64.wrap (x4.Sum+p3.Val),(if p3.Dep > x4.Dep then p3.Dep else x4.Dep)⟩:Item),0)) else (if (p0==4)=true then (Option.bind (kj x4.Keys p3.Key) fun x9=>(if ((!x9.2) && ((x4.Keys).length:Int)==6)=true then (some ((⟨x4.Sum,x4.Keys,(if p3.Dep > x4.Dep then p3.Dep else x4.Dep)⟩:Memory),(⟨p3.Key,0,(if p3.Dep > x4.Dep then p3.Dep else x4.Dep)⟩:Item),0)) else (if (!x9.2)=true then (Option.bind (kr x9.1 x4.Keys ([(⟨p3.Key,0⟩:Keyed)]:List Keyed)) fun x11=>(fq p3 x4 x9 x11)) else (fq p3 x4 x9 x4.Keys)))) else (if (p0==1)=true then (if (p0==1)=true then (some (x4,p3,0)) else (some ((⟨0,[],0⟩:Memory),(⟨0,0,0⟩:Item),5))) else (if (p0==5)=true then (if (p0==5)=true then (some (x4,p3,0)) else (some ((⟨0,[],0⟩:Memory),(⟨0,0,0⟩:Item),5))) else (if (p0==6)=true then (if (p0==6)=true then (some (x4,p3,0)) else (some ((⟨0,[],0⟩:Memory),(⟨0,0,0⟩:Item),5))) else (if (p0==7)=true then (if (p0==7)=true then (some (x4,p3,0)) else (some ((⟨0,[],0⟩:Memory),(⟨0,0,0⟩:Item),5))) else (if (p0==8)=true then (some (x4,p3,0)) else (some ((⟨0,[],0⟩:Memory),(⟨0,0,0⟩:Item),5))))))))))))))
def iy (p0:Net) (p1:List (List Item)) (p2:State) (p3:Move):Option Bool :=
 (Option.bind (idx p0.Nodes p3.Node) fun x2=>(Option.bind (jK p0 p1 p2 p3) fun x4=>(Option.bind (if (!x4.2)=true then (some true) else (Option.bind (jF x2 x4.1) fun x5=>(Option.bind (kp x5 p2.At p2.Rings p2.Memory p2.Choices p2.Out p0.Nodes p0.Rings p0.Room) fun x6=>(some x6)))) fun c7=>(if c7=true then (some false) else (if (if (x2.Kind==6)=true then ((((p2.Choices).length:Int)==500) || ((x2.Kind==8) && ((p2.Out).length:Int)==2000)) else ((x2.Kind==8) && ((p2.Out).length:Int)==2000))=true then (some false) else (Option.bind (idx p2.Memory p3.Node) fun x11=>(Option.bind (d7 x2.Kind x2.A x11 x4.1) fun x12=>(some (x12.2.2==0)))))))))
def dZ (p0:Net) (p1:List (List Item)) (s1:Int) (p2:State) (z5 s6:Int) (s7:List Move):Option ((Int × (List Move)) ⊕ ((Int × (List Move)) ⊕ (List Move))) :=
 (if (decide (s6<z5))=true then (Option.bind (iy p0 p1 p2 (⟨s1,s6⟩:Move)) fun x9=>(if x9=true then (Option.bind (app s7 [(⟨s1,s6⟩:Move)]) fun x10=>(some (.inl (IntKind.i64.wrap (s6+1),x10)))) else (some (.inl (IntKind.i64.wrap (s6+1),s7))))) else (Option.map Sum.inr (some (.inl (IntKind.i64.wrap (s1+1),s7)))))
def jp (p0:Net) (p1:List (List Item)) (s1:Int) (p2:State) (s2:List Move) (z5:Int):Option ((Int × (List Move)) ⊕ (List Move)) :=
 (iter (fun ss_36:Int × (List Move)=>dZ p0 p1 s1 p2 z5 ss_36.1 ss_36.2) (0,s2))
def gn (p0:Net) (p1:List (List Item)) (p2:State) (s1:Int) (s2:List Move):Option ((Int × (List Move)) ⊕ (List Move)) :=
 (if (decide (s1<((p0.Nodes).length:Int)))=true then (Option.bind (idx p0.Nodes s1) fun x4=>(if (x4.Kind==6)=true then (jp p0 p1 s1 p2 s2 ((x4.In).length:Int)) else (jp p0 p1 s1 p2 s2 1))) else (Option.map Sum.inr (some s2)))
def k0 (p0:Net) (p1:List (List Item)) (p2:State):Option (List Move) :=
 (iter (fun ss_27:Int × (List Move)=>gn p0 p1 p2 ss_27.1 ss_27.2) (0,[]))
def il (p0:Net) (p1:List (List Item)) (p2:State):Option ((List Move) × Int) :=
 (Option.bind (jC p0 p1 p2) fun x2=>(if (x2 != 0)=true then (some ([],x2)) else (Option.bind (k0 p0 p1 p2) fun x4=>(some (x4,0)))))
def ku (p0:Move) (p1:List Node) (p2 p3:Int) (p4:List (List Item)) (p5:Int) (p6:List ((List UInt8) × Unit)) (p7:List (List Item)):Option Bool :=
 (Option.bind (idx p1 p0.Node) fun x2=>(some (x2.Kind != 6)))
def e6 (p0:List Move) (p1:List Node) (p2 p3:Int) (p4:List (List Item)) (p5:Int) (p6:List ((List UInt8) × Unit)) (p7:List (List Item)) (s1:Int):Option (Int ⊕ Int) :=
 (if (decide (s1<((p0).length:Int)))=true then (Option.bind (ixN p0 s1) fun x5=>(Option.bind ((p0)[x5]?) fun x6=>(Option.bind (ku x6 p1 p2 p3 p4 p5 p6 p7) fun x7=>(if x7=true then (Option.map Sum.inr (some s1)) else (some (.inl (IntKind.i64.wrap (s1+1)))))))) else (Option.map Sum.inr (some (-1))))
def iY (p0:List Move) (p1:List Node) (p2 p3:Int) (p4:List (List Item)) (p5:Int) (p6:List ((List UInt8) × Unit)) (p7:List (List Item)):Option Int :=
 (iter (fun ss_5:Int=>e6 p0 p1 p2 p3 p4 p5 p6 p7 ss_5) 0)
def l5 (p0:List (List Item)):Option (List (List Item)):=app [] p0
def cX (p0:List Item):Option (List Item):=app [] p0
def me (p0:List Memory):Option (List Memory):=app [] p0
def jc (p0:List Choice):Option (List Choice):=app [] p0
def gw (p0:State) (x2:List Int) (s6:List (List Item)) (x13:List Memory) (s14:Int) (s15:List Memory):Option ((Int × (List Memory)) ⊕ State) :=
 (if (decide (s14<((x13).length:Int)))=true then (Option.bind (ixN s15 s14) fun x16=>(Option.bind ((s15)[x16]?) fun x17=>(Option.bind (fv x17) fun x18=>(Option.bind (ixN s15 s14) fun x19=>(Option.bind ((s15)[x19]?) fun x20=>(some (.inl (IntKind.i64.wrap (s14+1),(List.set s15 x19 x18))))))))) else (Option.map Sum.inr (Option.bind (jc p0.Choices) fun x22=>(Option.bind (cX p0.Out) fun x24=>(some (⟨x2,s6,s15,x22,x24⟩:State))))))
def gy (p0:State) (x2:List Int) (x4:List (List Item)) (s5:Int) (s6:List (List Item)):Option ((Int × (List (List Item))) ⊕ State) :=
 (if (decide (s5<((x4).length:Int)))=true then (Option.bind (ixN s6 s5) fun x7=>(Option.bind ((s6)[x7]?) fun x8=>(Option.bind (cX x8) fun x9=>(Option.bind (ixN s6 s5) fun x10=>(Option.bind ((s6)[x10]?) fun x11=>(some (.inl (IntKind.i64.wrap (s5+1),(List.set s6 x10 x9))))))))) else (Option.map Sum.inr (Option.bind (me p0.Memory) fun x13=>(iter (fun ss_19:Int × (List Memory)=>gw p0 x2 s6 x13 ss_19.1 ss_19.2) (0,x13)))))
def jJ (p0:State):Option State :=
 (Option.bind (fj p0.At) fun x2=>(Option.bind (l5 p0.Rings) fun x4=>(iter (fun ss_7:Int × (List (List Item))=>gy p0 x2 x4 ss_7.1 ss_7.2) (0,x4))))
def lm (p0:List Item):Option (Item × (List Item) × Int) :=
 (if (decide (((p0).length:Int) > 6))=true then (some ((⟨0,0,0⟩:Item),[],2)) else (if (((p0).length:Int)==0)=true then (some ((⟨0,0,0⟩:Item),[],9)) else (Option.bind (idx p0 0) fun x4=>(Option.bind (sub p0 1 ((p0).length:Int)) fun x5=>(Option.bind (cX x5) fun x6=>(some (x4,x6,0)))))))
def lA (p0:List Item) (p1:Int) (p2:Item):Option ((List Item) × Int) :=
 (if ((decide (p1<1)) || decide (p1 > 6))=true then (some ([],3)) else (if (decide (((p0).length:Int) > p1))=true then (some ([],2)) else (if (((p0).length:Int)==p1)=true then (some ([],8)) else (Option.bind (cX p0) fun x4=>(Option.bind (app x4 [p2]) fun x5=>(some (x5,0)))))))
def gj (p0:Net) (p5:List Memory) (z16 x19:List Int) (z23:List Choice) (x31:Memory × Item × Int) (x32:Nat) (z35:List Item) (s36:Int) (s37:List (List Item)):Option ((Int × (List (List Item))) ⊕ ((List Int) × (List (List Item)) × (List Memory) × (List Choice) × (List Item))) :=
 (if (decide (s36<((x19).length:Int)))=true then (Option.bind (idx x19 s36) fun x39=>(Option.bind (ixN s37 x39) fun x40=>(Option.bind ((s37)[x40]?) fun x41=>(Option.bind (lA x41 p0.Room x31.2.1) fun x42=>(Option.bind (ixN s37 x39) fun x43=>(Option.bind ((s37)[x43]?) fun x44=>(some (.inl (IntKind.i64.wrap (s36+1),(List.set s37 x43 x42.1)))))))))) else (Option.map Sum.inr (some (z16,s37,(List.set p5 x32 x31.1),z23,z35))))
def jf (p0:Net) (p5:List Memory) (z16:List Int) (z17:List (List Item)) (x19:List Int) (z23:List Choice) (x31:Memory × Item × Int) (x32:Nat) (z35:List Item):Option ((List Int) × (List (List Item)) × (List Memory) × (List Choice) × (List Item)) :=
 (iter (fun ss_38:Int × (List (List Item))=>gj p0 p5 z16 x19 z23 x31 x32 z35 ss_38.1 ss_38.2) (0,z17))
def g9 (p0:Net) (p2:Move) (x2:Node) (x4:Item × Bool) (p5:List Memory) (p7:List Item) (z16:List Int) (z17:List (List Item)) (x19:List Int) (z22:Int) (z23:List Choice):Option ((List Int) × (List (List Item)) × (List Memory) × (List Choice) × (List Item)) :=
 (Option.bind (ixN p5 p2.Node) fun x29=>(Option.bind ((p5)[x29]?) fun x30=>(Option.bind (d7 x2.Kind x2.A x30 (⟨x4.1.Key,x4.1.Val,z22⟩:Item)) fun x31=>(Option.bind (ixN p5 p2.Node) fun x32=>(Option.bind ((p5)[x32]?) fun x33=>(if (x2.Kind==8)=true then (Option.bind (app p7 [x31.2.1]) fun x34=>(jf p0 p5 z16 z17 x19 z23 x31 x32 x34)) else (jf p0 p5 z16 z17 x19 z23 x31 x32 p7)))))))
def g8 (p0:Net) (p2:Move) (x2:Node) (x4:Item × Bool) (p5:List Memory) (p6:List Choice) (p7:List Item) (z16:List Int) (z17:List (List Item)):Option ((List Int) × (List (List Item)) × (List Memory) × (List Choice) × (List Item)) :=
 (Option.bind (jF x2 x4.1) fun x19=>(if (x2.Kind==6)=true then (Option.bind (app p6 [(⟨p2.Node,p2.Lane⟩:Choice)]) fun x21=>(g9 p0 p2 x2 x4 p5 p7 z16 z17 x19 ((x21).length:Int) x21)) else (g9 p0 p2 x2 x4 p5 p7 z16 z17 x19 x4.1.Dep p6)))
def jo (p0:Net) (p1:List (List Item)) (p2:Move) (p3:List Int) (p4:List (List Item)) (p5:List Memory) (p6:List Choice) (p7:List Item):Option ((List Int) × (List (List Item)) × (List Memory) × (List Choice) × (List Item)) :=
 (Option.bind (idx p0.Nodes p2.Node) fun x2=>(Option.bind (jK p0 p1 (⟨p3,p4,p5,p6,p7⟩:State) p2) fun x4=>(if (x2.Kind==1)=true then (Option.bind (ixN p3 x2.A) fun x5=>(Option.bind ((p3)[x5]?) fun x6=>(Option.bind (ixN p3 x2.A) fun x7=>(Option.bind ((p3)[x7]?) fun x8=>(g8 p0 p2 x2 x4 p5 p6 p7 (List.set p3 x7 (IntKind.i64.wrap (x6+1))) p4))))) else (Option.bind (idx x2.In p2.Lane) fun x9=>(Option.bind (idx x2.In p2.Lane) fun x10=>(Option.bind (ixN p4 x10) fun x11=>(Option.bind ((p4)[x11]?) fun x12=>(Option.bind (lm x12) fun x13=>(Option.bind (ixN p4 x9) fun x14=>(Option.bind ((p4)[x14]?) fun x15=>(g8 p0 p2 x2 x4 p5 p6 p7 p3 (List.set p4 x14 x13.2.1))))))))))))
def gP (p0:Net) (p1:List (List Item)) (p2:State) (p3:Move):Option (State × Int) :=
 (Option.bind (jC p0 p1 p2) fun x2=>(if (x2 != 0)=true then (some ((⟨[],[],[],[],[]⟩:State),x2)) else (Option.bind (if (decide (p3.Node<0))=true then (some true) else (if (decide (p3.Node >= ((p0.Nodes).length:Int)))=true then (some true) else (if (decide (p3.Lane<0))=true then (some true) else (if (decide (p3.Lane > 0))=true then (Option.bind (idx p0.Nodes p3.Node) fun x3=>(if (x3.Kind != 6)=true then (some true) else (Option.bind (idx p0.Nodes p3.Node) fun x4=>(some (decide (p3.Lane >= ((x4.In).length:Int))))))) else (some false))))) fun c5=>(if c5=true then (some ((⟨[],[],[],[],[]⟩:State),5)) else (Option.bind (iy p0 p1 p2 p3) fun x7=>(if (!x7)=true then (some ((⟨[],[],[],[],[]⟩:State),10)) else (Option.bind (jJ p2) fun x9=>(Option.bind (jo p0 p1 p3 x9.At x9.Rings x9.Memory x9.Choices x9.Out) fun x11=>(some ((⟨x11.1,x11.2.1,x11.2.2.1,x11.2.2.2.1,x11.2.2.2.2⟩:State),0))))))))))
def eB (p1:List Node) (p2 p3:Int) (p4:List (List Item)) (p5:Int) (p6:List ((List UInt8) × Unit)) (p7:List (List Item)) (s1:List Int) (s2:List (List Item)) (s3:List Memory) (s4:List Choice) (s5:List Item):Option (((List Int) × (List (List Item)) × (List Memory) × (List Choice) × (List Item)) ⊕ (State × (List Move))) :=
 (Option.bind (il (⟨p1,p2,p3⟩:Net) p4 (⟨s1,s2,s3,s4,s5⟩:State)) fun x7=>(Option.bind (iY x7.1 p1 p2 p3 p4 p5 p6 p7) fun x9=>(if (decide (x9<0))=true then (Option.map Sum.inr (some ((⟨s1,s2,s3,s4,s5⟩:State),x7.1))) else (Option.bind (ixN x7.1 x9) fun x10=>(Option.bind ((x7.1)[x10]?) fun x11=>(Option.bind (gP (⟨p1,p2,p3⟩:Net) p4 (⟨s1,s2,s3,s4,s5⟩:State) x11) fun x12=>(some (.inl (x12.1.At,x12.1.Rings,x12.1.Memory,x12.1.Choices,x12.1.Out)))))))))
def kx (p0:State) (p1:List Node) (p2 p3:Int) (p4:List (List Item)) (p5:Int) (p6:List ((List UInt8) × Unit)) (p7:List (List Item)):Option (State × (List Move)) :=
 (iter (fun ss_19:(List Int) × (List (List Item)) × (List Memory) × (List Choice) × (List Item)=>eB p1 p2 p3 p4 p5 p6 p7 ss_19.1 ss_19.2.1 ss_19.2.2.1 ss_19.2.2.2.1 ss_19.2.2.2.2) (p0.At,p0.Rings,p0.Memory,p0.Choices,p0.Out))
def kO (p0:Net) (p1:List Choice) (s3:Int):Option (Int ⊕ Int) :=
 (if (decide (s3<((p1).length:Int)))=true then (Option.bind (idx p1 s3) fun x5=>(Option.bind (if (decide (x5.Node<0))=true then (some true) else (if (decide (x5.Node >= ((p0.Nodes).length:Int)))=true then (some true) else (Option.bind (idx p0.Nodes x5.Node) fun x6=>(some (x6.Kind != 6))))) fun c7=>(if c7=true then (Option.map Sum.inr (some 5)) else (Option.bind (if (decide (x5.Lane<0))=true then (some true) else (Option.bind (idx p0.Nodes x5.Node) fun x8=>(some (decide (x5.Lane >= ((x8.In).length:Int)))))) fun c9=>(if c9=true then (Option.map Sum.inr (some 3)) else (some (.inl (IntKind.i64.wrap (s3+1))))))))) else (Option.map Sum.inr (some 0)))
def kX (p0:Net) (p1:List Choice):Option Int :=
 (Option.bind (jL p0) fun x2=>(if (x2 != 0)=true then (some x2) else (if (decide (((p1).length:Int) > 500))=true then (some 2) else (iter (fun ss_29:Int=>kO p0 p1 ss_29) 0))))
def gm (p1:List Choice) (s5:Int) (s6:List (Bool × List Int)):Option ((Int × (List (Bool × List Int))) ⊕ ((List (List Int)) × Int)) :=
 (if (decide (s5<((p1).length:Int)))=true then (Option.bind (idx p1 s5) fun x8=>(Option.bind (ixN s6 x8.Node) fun x9=>(Option.bind (atc s6 x9) fun x10=>(Option.bind (owc s6 x9) fun x11=>(Option.bind (app x11 [x8.Lane]) fun x12=>(some (.inl (IntKind.i64.wrap (s5+1),(own s6 x9 x12))))))))) else (Option.map Sum.inr (some ((List.map Prod.snd s6),0))))
def jA (p0:Net) (p1:List Choice):Option ((List (List Int)) × Int) :=
 (Option.bind (kX p0 p1) fun x2=>(if (x2 != 0)=true then (some ([],x2)) else (Option.bind (mk ((p0.Nodes).length:Int) (false,([]:List Int))) fun x4=>(iter (fun ss_20:Int × (List (Bool × List Int))=>gm p1 ss_20.1 ss_20.2) (0,x4)))))
def itoaW (p0:Int):Option (List UInt8):=itoaS p0
def fP (s4:Int) (x6:List Int) (s7:List UInt8) (s8:Int):Option (((List UInt8) × Int) ⊕ (((List UInt8) × Int) ⊕ (List UInt8))) :=
 (if (decide (s8<((x6).length:Int)))=true then (Option.bind (idx x6 s8) fun x10=>(Option.bind (itoaW x10) fun x11=>(Option.bind (cat x11 [44]) fun x12=>(Option.bind (cat s7 x12) fun x13=>(some (.inl (x13,IntKind.i64.wrap (s8+1)))))))) else (Option.map Sum.inr (Option.bind (cat s7 [59]) fun x14=>(some (.inl (x14,IntKind.i64.wrap (s4+1)))))))
def fQ (x2:(List (List Int)) × Int) (s3:List UInt8) (s4:Int):Option (((List UInt8) × Int) ⊕ (List UInt8)) :=
 (if (decide (s4<((x2.1).length:Int)))=true then (Option.bind (idx x2.1 s4) fun x6=>(iter (fun ss_20:(List UInt8) × Int=>fP s4 x6 ss_20.1 ss_20.2) (s3,0))) else (Option.map Sum.inr (some s3)))
def kw (p0:State) (p1:List Node) (p2 p3:Int) (p4:List (List Item)) (p5:Int) (p6:List ((List UInt8) × Unit)) (p7:List (List Item)):Option (List UInt8) :=
 (Option.bind (jA (⟨p1,p2,p3⟩:Net) p0.Choices) fun x2=>(iter (fun ss_15:(List UInt8) × Int=>fQ x2 ss_15.1 ss_15.2) ([],0)))
def hU (x2:List Item) (s3:Int) (s4:List Item):Option ((Int × (List Item)) ⊕ ((List Item) × Int)) :=
 (if (decide (s3<((x2).length:Int)))=true then (Option.bind (ixN s4 s3) fun x5=>(Option.bind ((s4)[x5]?) fun x6=>(some (.inl (IntKind.i64.wrap (s3+1),(List.set s4 x5 (⟨x6.Key,x6.Val,0⟩:Item))))))) else (Option.map Sum.inr (some (s4,0))))
def jE (p0:List Item):Option ((List Item) × Int) :=
 (if (decide (((p0).length:Int) > 2000))=true then (some ([],2)) else (Option.bind (cX p0) fun x2=>(iter (fun ss_4:Int × (List Item)=>hU x2 ss_4.1 ss_4.2) (0,x2))))
def dX (rcr:(State × (List Node) × Int × Int × (List (List Item)) × Int × (List ((List UInt8) × Unit)) × (List (List Item)))->Option (Bool × (List Node) × Int × Int × (List (List Item)) × Int × (List ((List UInt8) × Unit)) × (List (List Item)))) (x2:State × (List Move)) (s9:Int) (s10:List Node) (s11 s12:Int) (s13:List (List Item)) (s14:Int) (s15:List ((List UInt8) × Unit)) (s16:List (List Item)):Option ((Int × (List Node) × Int × Int × (List (List Item)) × Int × (List ((List UInt8) × Unit)) × (List (List Item))) ⊕ (Bool × (List Node) × Int × Int × (List (List Item)) × Int × (List ((List UInt8) × Unit)) × (List (List Item)))) :=
 (if (decide (s9<((x2.2).length:Int)))=true then (Option.bind (ixN x2.2 s9) fun x19=>(Option.bind ((x2.2)[x19]?) fun x20=>(Option.bind (gP (⟨s10,s11,s12⟩:Net) s13 x2.1 x20) fun x22=>(Option.bind (rcr (x22.1,s10,s11,s12,s13,s14,s15,s16)) fun x24=>(if (!x24.1)=true then (Option.map Sum.inr (some (false,x24.2.1,x24.2.2.1,x24.2.2.2.1,x24.2.2.2.2.1,x24.2.2.2.2.2.1,x24.2.2.2.2.2.2.1,x24.2.2.2.2.2.2.2))) else (some (.inl (IntKind.i64.wrap (s9+1),x24.2.1,x24.2.2.1,x24.2.2.2.1,x24.2.2.2.2.1,x24.2.2.2.2.2.1,x24.2.2.2.2.2.2.1,x24.2.2.2.2.2.2.2)))))))) else (Option.map Sum.inr (some (true,s10,s11,s12,s13,s14,s15,s16))))
def fa (rcr:(State × (List Node) × Int × Int × (List (List Item)) × Int × (List ((List UInt8) × Unit)) × (List (List Item)))->Option (Bool × (List Node) × Int × Int × (List (List Item)) × Int × (List ((List UInt8) × Unit)) × (List (List Item)))) (p0:State) (p1:List Node) (p2 p3:Int) (p4:List (List Item)) (p5:Int) (p6:List ((List UInt8) × Unit)) (p7:List (List Item)):Option (Bool × (List Node) × Int × Int × (List (List Item)) × Int × (List ((List UInt8) × Unit)) × (List (List Item))) :=
 (Option.bind (kx p0 p1 p2 p3 p4 p5 p6 p7) fun x2=>(Option.bind (kw x2.1 p1 p2 p3 p4 p5 p6 p7) fun x4=>(if ((mget x4 p6).isSome)=true then (some (true,p1,p2,p3,p4,p5,p6,p7)) else (if (decide ((IntKind.i64.wrap (p5+1)) > 600))=true then (some (false,p1,p2,p3,p4,IntKind.i64.wrap (p5+1),(mset x4 () p6),p7)) else (if (((x2.2).length:Int)==0)=true then (Option.bind (jE x2.1.Out) fun x6=>(Option.bind (app p7 [x6.1]) fun x8=>(some (true,p1,p2,p3,p4,IntKind.i64.wrap (p5+1),(mset x4 () p6),x8)))) else (iter (fun ss_10:Int × (List Node) × Int × Int × (List (List Item)) × Int × (List ((List UInt8) × Unit)) × (List (List Item))=>dX rcr x2 ss_10.1 ss_10.2.1 ss_10.2.2.1 ss_10.2.2.2.1 ss_10.2.2.2.2.1 ss_10.2.2.2.2.2.1 ss_10.2.2.2.2.2.2.1 ss_10.2.2.2.2.2.2.2) (0,p1,p2,p3,p4,IntKind.i64.wrap (p5+1),(mset x4 () p6),p7)))))))
def ma (p0:State) (p1:List Node) (p2 p3:Int) (p4:List (List Item)) (p5:Int) (p6:List ((List UInt8) × Unit)) (p7:List (List Item)):Option (Bool × (List Node) × Int × Int × (List (List Item)) × Int × (List ((List UInt8) × Unit)) × (List (List Item))):=fixR (fun (rcr:(State × (List Node) × Int × Int × (List (List Item)) × Int × (List ((List UInt8) × Unit)) × (List (List Item)))->Option (Bool × (List Node) × Int × Int × (List (List Item)) × Int × (List ((List UInt8) × Unit)) × (List (List Item)))) (a:State × (List Node) × Int × Int × (List (List Item)) × Int × (List ((List UInt8) × Unit)) × (List (List Item)))=>fa rcr a.1 a.2.1 a.2.2.1 a.2.2.2.1 a.2.2.2.2.1 a.2.2.2.2.2.1 a.2.2.2.2.2.2.1 a.2.2.2.2.2.2.2) (p0,p1,p2,p3,p4,p5,p6,p7)
def kT (p0 p1:Item):Option Int :=
 (if (p0.Key != p1.Key)=true then (if (decide (p0.Key<p1.Key))=true then (some (-1)) else (some 1)) else (if (p0.Val != p1.Val)=true then (if (decide (p0.Val<p1.Val))=true then (some (-1)) else (some 1)) else (some 0)))
def iU (p0 p1:List Item) (s1:Int):Option (Int ⊕ Int) :=
 (if (decide (s1<((p0).length:Int)))=true then (Option.bind (idx p0 s1) fun x3=>(if (decide (s1 >= ((p1).length:Int)))=true then (Option.map Sum.inr (some 1)) else (Option.bind (idx p1 s1) fun x5=>(Option.bind (kT x3 x5) fun x7=>(if (x7 != 0)=true then (Option.map Sum.inr (some x7)) else (some (.inl (IntKind.i64.wrap (s1+1))))))))) else (Option.map Sum.inr (if (decide (((p0).length:Int)<((p1).length:Int)))=true then (some (-1)) else (some 0))))
def iV (p0 p1:List Item):Option Int :=
 (iter (fun ss_7:Int=>iU p0 p1 ss_7) 0)
def ik (p0 p1:List Item):Option Int :=
 (Option.bind (iV p0 p1) fun x2=>(some x2))
def nV (p0:List (List Item)):Option (List (List Item)):=sortR p0
def jg (p0 p1:List Item):Option Bool :=
 (Option.bind (ik p0 p1) fun x2=>(some (x2==0)))
def fN (p0:List (List Item)) (s1 s14 s15:Int) (s16:List (List Item)):Option ((Int × Int × (List (List Item))) ⊕ (Int ⊕ (List (List Item)))) :=
 (if (decide (s15<((((((p0).length:Int)).toNat - (s1).toNat):Nat):Int)))=true then (Option.bind (ixV ((((p0).length:Int)).toNat - (s1).toNat) s15) fun x22=>(Option.bind ((s16)[((s1).toNat+x22)]?) fun x23=>(Option.bind (ixV ((((p0).length:Int)).toNat - (s1).toNat) (IntKind.i64.wrap (s15 - 1))) fun x24=>(Option.bind ((s16)[((s1).toNat+x24)]?) fun x25=>(Option.bind (jg x23 x25) fun x26=>(if (!x26)=true then (Option.bind (ixV ((((p0).length:Int)).toNat - (s1).toNat) s15) fun x31=>(Option.bind ((s16)[((s1).toNat+x31)]?) fun x32=>(Option.bind (ixN s16 s14) fun x33=>(Option.bind ((s16)[x33]?) fun x34=>(some (.inl (IntKind.i64.wrap (s14+1),IntKind.i64.wrap (s15+1),(List.set s16 x33 x32)))))))) else (some (.inl (s14,IntKind.i64.wrap (s15+1),s16))))))))) else (Option.map Sum.inr (Option.bind (vwok (s16).length s14 ((s16).length:Int)) fun x37=>(Option.bind (vwok (s16).length ((s14).toNat:Nat) (((s14).toNat:Nat)+(((((s16).length:Int)).toNat - (s14).toNat):Nat))) fun x38=>(Option.bind (sub (clr s16 ((s14).toNat) ((((s16).length:Int)).toNat - (s14).toNat) []) 0 s14) fun x40=>(Option.map Sum.inr (some x40)))))))
def eA (p0:List (List Item)) (s1:Int):Option (Int ⊕ (List (List Item))) :=
 (if (decide (s1<((p0).length:Int)))=true then (Option.bind (ixN p0 s1) fun x7=>(Option.bind ((p0)[x7]?) fun x8=>(Option.bind (ixN p0 (IntKind.i64.wrap (s1 - 1))) fun x9=>(Option.bind ((p0)[x9]?) fun x10=>(Option.bind (jg x8 x10) fun x11=>(if x11=true then (Option.bind (vwok (p0).length s1 ((p0).length:Int)) fun x13=>(iter (fun ss_67:Int × Int × (List (List Item))=>fN p0 s1 ss_67.1 ss_67.2.1 ss_67.2.2) (s1,1,p0))) else (some (.inl (IntKind.i64.wrap (s1+1)))))))))) else (Option.map Sum.inr (some p0)))
def kg (p0:List (List Item)):Option (List (List Item)) :=
 (if (decide (((p0).length:Int)<2))=true then (some p0) else (iter (fun ss_50:Int=>eA p0 ss_50) 1))
def iw (p0:Net) (p1:List (List Item)):Option ((List (List Item)) × Int) :=
 (Option.bind (k6 p0 p1) fun x2=>(if (x2.2 != 0)=true then (some ([],x2.2)) else (Option.bind (lF p0) fun x4=>(Option.bind (ma x2.1 x4.Nodes x4.Rings x4.Room p1 (0:Int) ([]:List ((List UInt8) × Unit)) ([]:List (List Item))) fun x6=>(if (!x6.1)=true then (some ([],2)) else (Option.bind (nV x6.2.2.2.2.2.2.2) fun x8=>(Option.bind (kg x8) fun x10=>(some (x10,0)))))))))
def mA:Option (List (List Item)) :=
 (Option.bind (d6 (1:Int) (1:Int)) fun x3=>(Option.bind (d6 (2:Int) (2:Int)) fun x4=>(some [[x3],[x4]])))
def gZ (p0 p1:List Item) (s1:Int):Option (Int ⊕ Bool) :=
 (if (decide (s1<((p0).length:Int)))=true then (Option.bind (idx p0 s1) fun x4=>(Option.bind (idx p1 s1) fun x5=>(if (!(x4==x5))=true then (Option.map Sum.inr (some false)) else (some (.inl (IntKind.i64.wrap (s1+1))))))) else (Option.map Sum.inr (some true)))
def fg (p0 p1:List Item):Option Bool :=
 (if (((p0).length:Int) != ((p1).length:Int))=true then (some false) else (iter (fun ss_6:Int=>gZ p0 p1 ss_6) 0))
def j9 (p0 p1:List (List Item)) (s1:Int):Option (Int ⊕ Bool) :=
 (if (decide (s1<((p0).length:Int)))=true then (Option.bind (idx p0 s1) fun x3=>(Option.bind (idx p1 s1) fun x5=>(Option.bind (fg x3 x5) fun x7=>(if (!x7)=true then (Option.map Sum.inr (some false)) else (some (.inl (IntKind.i64.wrap (s1+1)))))))) else (Option.map Sum.inr (some true)))
def gV (p0 p1:List (List Item)):Option Bool :=
 (if (((p0).length:Int) != ((p1).length:Int))=true then (some false) else (iter (fun ss_6:Int=>j9 p0 p1 ss_6) 0))
def kM:Option Bool :=
 (Option.bind mh fun x5=>(Option.bind mA fun x6=>(Option.bind (iw x5 x6) fun x8=>(Option.bind (if (x8.2==0)=true then (Option.bind (d6 (1:Int) (1:Int)) fun x9=>(Option.bind (d6 (2:Int) (2:Int)) fun x10=>(Option.bind (d6 (2:Int) (2:Int)) fun x11=>(Option.bind (d6 (1:Int) (1:Int)) fun x12=>(Option.bind (gV x8.1 ([[x9,x10],[x11,x12]]:List (List Item))) fun x13=>(some x13)))))) else (some false)) fun c14=>(some c14)))))
def jD (p0 p1:List Item):Option Int :=
 (Option.bind (iV p0 p1) fun x2=>(some x2))
def gU (p0:List (List Item)) (p1:List Item) (s1 s2:Int):Option ((Int × Int) ⊕ (Int × Bool)) :=
 (if (decide (s1<s2))=true then (Option.bind (shr .u64 (IntKind.u64.wrap (IntKind.i64.wrap (s1+s2))) 1) fun x4=>(Option.bind (idx p0 (IntKind.i64.wrap x4)) fun x7=>(Option.bind (jD x7 p1) fun x8=>(if (decide (x8<0))=true then (some (.inl (IntKind.i64.wrap ((IntKind.i64.wrap x4)+1),s2))) else (some (.inl (s1,IntKind.i64.wrap x4))))))) else (Option.map Sum.inr (Option.bind (if (decide (s1<((p0).length:Int)))=true then (Option.bind (idx p0 s1) fun x9=>(Option.bind (jD x9 p1) fun x10=>(some (x10==0)))) else (some false)) fun c11=>(some (s1,c11)))))
def gW (p0:List (List Item)) (p1:List Item):Option (Int × Bool) :=
 (iter (fun ss_5:Int × Int=>gU p0 p1 ss_5.1 ss_5.2) (0,((p0).length:Int)))
def eJ (p0:Net) (p1:List (List Item)) (p2:List Item):Option (Bool × Int) :=
 (if (decide (((p2).length:Int) > 2000))=true then (some (false,2)) else (Option.bind (iw p0 p1) fun x2=>(if (x2.2 != 0)=true then (some (false,x2.2)) else (Option.bind (jE p2) fun x4=>(Option.bind (gW x2.1 x4.1) fun x6=>(some (x6.2,0)))))))
def jb (p0:Int):Option Bool :=
 (some (p0==0))
def de (p0:Int):Option Bool :=
 (some (p0==1))
def g6 (p0:Int):Option Bool :=
 (some (decide (p0 >= 1)))
def ja (p0:List Int) (p1 s1:Int):Option (Int ⊕ Int) :=
 (if (decide (s1<((p0).length:Int)))=true then (Option.bind (idx p0 s1) fun x3=>(if (p1==x3)=true then (Option.map Sum.inr (some s1)) else (some (.inl (IntKind.i64.wrap (s1+1)))))) else (Option.map Sum.inr (some (-1))))
def ml (p0:List Int) (p1:Int):Option Int :=
 (iter (fun ss_5:Int=>ja p0 p1 ss_5) 0)
def i7 (p0:List Int) (p1:Int):Option Bool :=
 (Option.bind (ml p0 p1) fun x2=>(some (decide (x2 >= 0))))
def eD (p0:Net) (s3 s4:Int) (x8:Node) (s35:List (Int × Int)) (s39:Int) (s40:List (Int × Int)):Option ((Int × (List (Int × Int))) ⊕ ((Int × Int × (List (Int × Int)) × (List (Int × Int))) ⊕ ((List Int) × Int))) :=
 (if (decide (s39<((x8.Out).length:Int)))=true then (Option.bind (idx x8.Out s39) fun x42=>(if ((decide (x42<0)) || decide (x42 >= p0.Rings))=true then (Option.map Sum.inr (Option.map Sum.inr (some ([],3)))) else (if ((mget x42 s40).isSome)=true then (Option.map Sum.inr (Option.map Sum.inr (some ([],6)))) else (some (.inl (IntKind.i64.wrap (s39+1),(mset x42 s4 s40))))))) else (Option.map Sum.inr (if (x8.Kind==8)=true then (some (.inl (IntKind.i64.wrap (s3+1),IntKind.i64.wrap (s4+1),s40,s35))) else (some (.inl (s3,IntKind.i64.wrap (s4+1),s40,s35))))))
def dJ (p0:Net) (s3 s4:Int) (s5:List (Int × Int)) (x8:Node) (s34:Int) (s35:List (Int × Int)):Option ((Int × (List (Int × Int))) ⊕ ((Int × Int × (List (Int × Int)) × (List (Int × Int))) ⊕ ((List Int) × Int))) :=
 (if (decide (s34<((x8.In).length:Int)))=true then (Option.bind (idx x8.In s34) fun x37=>(if ((decide (x37<0)) || decide (x37 >= p0.Rings))=true then (Option.map Sum.inr (Option.map Sum.inr (some ([],3)))) else (if ((mget x37 s35).isSome)=true then (Option.map Sum.inr (Option.map Sum.inr (some ([],6)))) else (some (.inl (IntKind.i64.wrap (s34+1),(mset x37 s4 s35))))))) else (Option.map Sum.inr (iter (fun ss_391:Int × (List (Int × Int))=>eD p0 s3 s4 x8 s35 ss_391.1 ss_391.2) (0,s5))))
def dq (p0:Net) (s3 s4:Int) (s5 s6:List (Int × Int)) (x8:Node):Option ((Int × Int × (List (Int × Int)) × (List (Int × Int))) ⊕ ((List Int) × Int)) :=
 (if ((decide (x8.A<0)) || decide (x8.A > ((mget x8.Kind (mset 2 3 (mset 1 3 ([]:List (Int × Int))))).getD 0)))=true then (Option.map Sum.inr (some ([],3))) else (iter (fun ss_372:Int × (List (Int × Int))=>dJ p0 s3 s4 s5 x8 ss_372.1 ss_372.2) (0,s6)))
def fY (s5:List (Int × Int)) (s46:List Int) (s47 s48:Int) (x52:Node) (s53:Bool) (s54:Int):Option ((Bool × Int) ⊕ ((Int × Int) ⊕ ((Int × (List Int)) ⊕ ((List Int) × Int)))) :=
 (if (decide (s54<((x52.In).length:Int)))=true then (Option.bind (idx x52.In s54) fun x56=>(if s53=true then (Option.bind (i7 s46 ((mget x56 s5).getD 0)) fun x57=>(some (.inl (x57,IntKind.i64.wrap (s54+1))))) else (some (.inl (false,IntKind.i64.wrap (s54+1)))))) else (Option.map Sum.inr (if s53=true then (some (.inl (s48,IntKind.i64.wrap (s48 - 1)))) else (some (.inl (s47,IntKind.i64.wrap (s48 - 1)))))))
def fV (p0:Net) (s5:List (Int × Int)) (s45:Int) (s46:List Int) (s47 s48:Int):Option ((Int × Int) ⊕ ((Int × (List Int)) ⊕ ((List Int) × Int))) :=
 (if (decide (s48 >= 0))=true then (Option.bind (i7 s46 s48) fun x50=>(if x50=true then (some (.inl (s47,IntKind.i64.wrap (s48 - 1)))) else (Option.bind (idx p0.Nodes s48) fun x52=>(iter (fun ss_564:Bool × Int=>fY s5 s46 s47 s48 x52 ss_564.1 ss_564.2) (true,0))))) else (Option.map Sum.inr (if (decide (s47<0))=true then (Option.map Sum.inr (some ([],7))) else (Option.bind (app s46 [s47]) fun x58=>(some (.inl (IntKind.i64.wrap (s45+1),x58)))))))
def fb (p0:Net) (s5:List (Int × Int)) (s45:Int) (s46:List Int):Option ((Int × (List Int)) ⊕ ((List Int) × Int)) :=
 (if (decide (s45<((p0.Nodes).length:Int)))=true then (iter (fun ss_557:Int × Int=>fV p0 s5 s45 s46 ss_557.1 ss_557.2) ((-1),IntKind.i64.wrap (((p0.Nodes).length:Int) - 1))) else (Option.map Sum.inr (some (s46,0))))
def eC (p0:Net) (s3 s4:Int) (s5 s6:List (Int × Int)):Option ((Int × Int × (List (Int × Int)) × (List (Int × Int))) ⊕ ((List Int) × Int)) :=
 (if (decide (s4<((p0.Nodes).length:Int)))=true then (Option.bind (idx p0.Nodes s4) fun x8=>(if (x8.Kind==1)=true then (Option.bind (jb ((x8.In).length:Int)) fun x9=>(Option.bind (if (!x9)=true then (some true) else (Option.bind (de ((x8.Out).length:Int)) fun x10=>(some (!x10)))) fun c11=>(if c11=true then (Option.map Sum.inr (some ([],4))) else (dq p0 s3 s4 s5 s6 x8)))) else (if (x8.Kind==2)=true then (Option.bind (de ((x8.In).length:Int)) fun x12=>(Option.bind (if (!x12)=true then (some true) else (Option.bind (de ((x8.Out).length:Int)) fun x13=>(some (!x13)))) fun c14=>(if c14=true then (Option.map Sum.inr (some ([],4))) else (dq p0 s3 s4 s5 s6 x8)))) else (if (x8.Kind==3)=true then (Option.bind (de ((x8.In).length:Int)) fun x15=>(Option.bind (if (!x15)=true then (some true) else (Option.bind (de ((x8.Out).length:Int)) fun x16=>(some (!x16)))) fun c17=>(if c17=true then (Option.map Sum.inr (some ([],4))) else (dq p0 s3 s4 s5 s6 x8)))) else (if (x8.Kind==4)=true then (Option.bind (de ((x8.In).length:Int)) fun x18=>(Option.bind (if (!x18)=true then (some true) else (Option.bind (de ((x8.Out).length:Int)) fun x19=>(some (!x19)))) fun c20=>(if c20=true then (Option.map Sum.inr (some ([],4))) else (dq p0 s3 s4 s5 s6 x8)))) else (if (x8.Kind==5)=true then (Option.bind (de ((x8.In).length:Int)) fun x21=>(Option.bind (if (!x21)=true then (some true) else (Option.bind (g6 ((x8.Out).length:Int)) fun x22=>(some (!x22)))) fun c23=>(if c23=true then (Option.map Sum.inr (some ([],4))) else (dq p0 s3 s4 s5 s6 x8)))) else (if (x8.Kind==7)=true then (Option.bind (de ((x8.In).length:Int)) fun x24=>(Option.bind (if (!x24)=true then (some true) else (Option.bind (g6 ((x8.Out).length:Int)) fun x25=>(some (!x25)))) fun c26=>(if c26=true then (Option.map Sum.inr (some ([],4))) else (dq p0 s3 s4 s5 s6 x8)))) else (if (x8.Kind==6)=true then (Option.bind (g6 ((x8.In).length:Int)) fun x27=>(Option.bind (if (!x27)=true then (some true) else (Option.bind (de ((x8.Out).length:Int)) fun x28=>(some (!x28)))) fun c29=>(if c29=true then (Option.map Sum.inr (some ([],4))) else (dq p0 s3 s4 s5 s6 x8)))) else (if (x8.Kind==8)=true then (Option.bind (de ((x8.In).length:Int)) fun x30=>(Option.bind (if (!x30)=true then (some true) else (Option.bind (jb ((x8.Out).length:Int)) fun x31=>(some (!x31)))) fun c32=>(if c32=true then (Option.map Sum.inr (some ([],4))) else (dq p0 s3 s4 s5 s6 x8)))) else (Option.map Sum.inr (some ([],5)))))))))))) else (Option.map Sum.inr (if ((((s5).length:Int) != p0.Rings) || ((s6).length:Int) != p0.Rings)=true then (some ([],9)) else (if (s3 != 1)=true then (some ([],4)) else (iter (fun ss_532:Int × (List Int)=>fb p0 s5 ss_532.1 ss_532.2) (0,[]))))))
def kF (p0:Net):Option ((List Int) × Int) :=
 (if ((((p0.Nodes).length:Int)==0) || ((decide (((p0.Nodes).length:Int) > 12)) || ((decide (p0.Rings<0)) || decide (p0.Rings > 16))))=true then (some ([],2)) else (if ((decide (p0.Room<1)) || decide (p0.Room > 6))=true then (some ([],3)) else (iter (fun ss_293:Int × Int × (List (Int × Int)) × (List (Int × Int))=>eC p0 ss_293.1 ss_293.2.1 ss_293.2.2.1 ss_293.2.2.2) (0,0,([]:List (Int × Int)),([]:List (Int × Int))))))
def i6 (s3:Int) (x5:List Item) (s6:Int):Option (Int ⊕ (Int ⊕ Int)) :=
 (if (decide (s6<((x5).length:Int)))=true then (Option.bind (idx x5 s6) fun x8=>(if (x8.Dep != 0)=true then (Option.map Sum.inr (Option.map Sum.inr (some 4))) else (some (.inl (IntKind.i64.wrap (s6+1)))))) else (Option.map Sum.inr (some (.inl (IntKind.i64.wrap (s3+1))))))
def fR (p0:Net) (p1:List (List Item)) (s9:Int) (s10:List (Int × Int)):Option ((Int × (List (Int × Int))) ⊕ Int) :=
 (if (decide (s9<((p0.Nodes).length:Int)))=true then (Option.bind (idx p0.Nodes s9) fun x12=>(if (x12.Kind==1)=true then (if (decide (x12.A >= ((p1).length:Int)))=true then (Option.map Sum.inr (some 5)) else (if (decide (((mget x12.A (mset x12.A (IntKind.i64.wrap (((mget x12.A s10).getD 0)+1)) s10)).getD 0) > 1))=true then (Option.map Sum.inr (some 6)) else (some (.inl (IntKind.i64.wrap (s9+1),(mset x12.A (IntKind.i64.wrap (((mget x12.A s10).getD 0)+1)) s10)))))) else (some (.inl (IntKind.i64.wrap (s9+1),s10))))) else (Option.map Sum.inr (some 0)))
def iZ (p0:Net) (p1:List (List Item)) (s3:Int):Option (Int ⊕ Int) :=
 (if (decide (s3<((p1).length:Int)))=true then (Option.bind (idx p1 s3) fun x5=>(if (decide (((x5).length:Int) > 20))=true then (Option.map Sum.inr (some 2)) else (iter (fun ss_36:Int=>i6 s3 x5 ss_36) 0))) else (Option.map Sum.inr (iter (fun ss_52:Int × (List (Int × Int))=>fR p0 p1 ss_52.1 ss_52.2) (0,([]:List (Int × Int))))))
def kz (p0:Net) (p1:List (List Item)):Option Int :=
 (Option.bind (kF p0) fun x2=>(if (x2.2 != 0)=true then (some x2.2) else (if (decide (((p1).length:Int) > 4))=true then (some 2) else (iter (fun ss_27:Int=>iZ p0 p1 ss_27) 0))))
def kL (p0:Net) (p1:List (List Item)):Option State :=
 (Option.bind (mk ((p1).length:Int) 0) fun x4=>(Option.bind (mk p0.Rings ([]:List Item)) fun x5=>(Option.bind (mk ((p0.Nodes).length:Int) (⟨0,[],0⟩:Memory)) fun x6=>(some (⟨x4,x5,x6,[],[]⟩:State)))))
def fW (p0:State) (x4:List Int) (x5:List Choice) (x6:List Item) (s8:List (Bool × List Item)) (s13:Int) (s14:List Memory):Option ((Int × (List Memory)) ⊕ (State × (List (Bool × List Item)))) :=
 (if (decide (s13<((p0.Memory).length:Int)))=true then (Option.bind (idx p0.Memory s13) fun x16=>(Option.bind (f0 x16.Keys) fun x18=>(Option.bind (app s14 [(⟨x16.Sum,x18,x16.Dep⟩:Memory)]) fun x19=>(some (.inl (IntKind.i64.wrap (s13+1),x19)))))) else (Option.map Sum.inr (some ((⟨x4,(List.map Prod.snd s8),s14,x5,x6⟩:State),s8))))
def fU (p0:State) (x4:List Int) (x5:List Choice) (x6:List Item) (s7:Int) (s8:List (Bool × List Item)):Option ((Int × (List (Bool × List Item))) ⊕ (State × (List (Bool × List Item)))) :=
 (if (decide (s7<((p0.Rings).length:Int)))=true then (Option.bind (idx p0.Rings s7) fun x10=>(Option.bind (cX x10) fun x11=>(Option.bind (app s8 [(false,x11)]) fun x12=>(some (.inl (IntKind.i64.wrap (s7+1),x12)))))) else (Option.map Sum.inr (iter (fun ss_26:Int × (List Memory)=>fW p0 x4 x5 x6 s8 ss_26.1 ss_26.2) (0,[]))))
def kG (p0:State):Option (State × (List (Bool × List Item))) :=
 (Option.bind (fj p0.At) fun x4=>(Option.bind (jc p0.Choices) fun x5=>(Option.bind (cX p0.Out) fun x6=>(iter (fun ss_18:Int × (List (Bool × List Item))=>fU p0 x4 x5 x6 ss_18.1 ss_18.2) (0,([]:List (Bool × List Item)))))))
def kQ (p0:Item) (p1:Int):Option Int :=
 (Option.bind (rem p0.Key p1) fun x2=>(if (decide (x2<0))=true then (some (IntKind.i64.wrap (x2+p1))) else (some x2)))
def om (p0:List Keyed) (p1 p2:Int):Option (List Keyed):=sortK p0
def dA (p2:Memory) (x2:List Keyed) (p3:Item) (s3 s4:Int):Option ((Int × Int) ⊕ (Memory × Item × Int)) :=
 (if (decide (s4<((x2).length:Int)))=true then (Option.bind (ixN x2 s4) fun x7=>(Option.bind ((x2)[x7]?) fun x8=>(if (x8.Key==p3.Key)=true then (some (.inl (s4,IntKind.i64.wrap (s4+1)))) else (some (.inl (s3,IntKind.i64.wrap (s4+1))))))) else (Option.map Sum.inr (if (decide (s3 >= 0))=true then (Option.bind (ixN x2 s3) fun x13=>(Option.bind ((x2)[x13]?) fun x14=>(Option.bind (ixN x2 s3) fun x15=>(Option.bind ((x2)[x15]?) fun x16=>(Option.bind (ixN (List.set x2 x15 (⟨x16.Key,IntKind.i64.wrap (x14.N+1)⟩:Keyed)) s3) fun x17=>(Option.bind (((List.set x2 x15 (⟨x16.Key,IntKind.i64.wrap (x14.N+1)⟩:Keyed)))[x17]?) fun x18=>(some ((⟨p2.Sum,(List.set x2 x15 (⟨x16.Key,IntKind.i64.wrap (x14.N+1)⟩:Keyed)),(if p3.Dep > p2.Dep then p3.Dep else p2.Dep)⟩:Memory),(⟨p3.Key,x18.N,(if p3.Dep > p2.Dep then p3.Dep else p2.Dep)⟩:Item),0)))))))) else (if (decide (((x2).length:Int)<6))=true then (Option.bind (app x2 [(⟨p3.Key,1⟩:Keyed)]) fun x20=>(Option.bind (om x20 p2.Sum (if p3.Dep > p2.Dep then p3.Dep else p2.Dep)) fun x22=>(some ((⟨p2.Sum,x22,(if p3.Dep > p2.Dep then p3.Dep else p2.Dep)⟩:Memory),(⟨p3.Key,1,(if p3.Dep > p2.Dep then p3.Dep else p2.Dep)⟩:Item),0)))) else (some ((⟨p2.Sum,x2,(if p3.Dep > p2.Dep then p3.Dep else p2.Dep)⟩:Memory),(⟨p3.Key,0,(if p3.Dep > p2.Dep then p3.Dep else p2.Dep)⟩:Item),0))))))
def hT (p0 p1:Int) (p2:Memory) (p3:Item):Option (Memory × Item × Int) :=
 (Option.bind (app [] p2.Keys) fun x2=>(if (p0==2)=true then (if (p1==0)=true then (some ((⟨p2.Sum,x2,p2.Dep⟩:Memory),(⟨p3.Key,IntKind.i64.wrap (p3.Val+1),p3.Dep⟩:Item),0)) else (if (p1==1)=true then (some ((⟨p2.Sum,x2,p2.Dep⟩:Memory),(⟨p3.Key,IntKind.i64.wrap (p3.Val+p3.Val),p3.Dep⟩:Item),0)) else (if (p1==2)=true then (some ((⟨p2.Sum,x2,p2.Dep⟩:Memory),(⟨p3.Key,IntKind.i64.wrap (0 - p3.Val),p3.Dep⟩:Item),0)) else (if (p1==3)=true then (some ((⟨p2.Sum,x2,p2.Dep⟩:Memory),(⟨p3.Key,IntKind.i64.wrap (p3.Val+p3.Key),p3.Dep⟩:Item),0)) else (some ((⟨0,[],0⟩:Memory),(⟨0,0,0⟩:Item),3)))))) else (if (p0==3)=true then (some ((⟨IntKind.i64.wrap (p2.Sum+p3.Val),x2,(if p3.Dep > p2.Dep then p3.Dep else p2.Dep)⟩:Memory),(⟨p3.Key,IntKind.i64.wrap (p2.Sum+p3.Val),(if p3.Dep > p2.Dep then p3.Dep else p2.Dep)⟩:Item),0)) else (if (p0==4)=true then (iter (fun ss_17:Int × Int=>dA p2 x2 p3 ss_17.1 ss_17.2) ((-1),0)) else (if (p0==1)=true then (if (p0==1)=true then (some ((⟨p2.Sum,x2,p2.Dep⟩:Memory),p3,0)) else (some ((⟨0,[],0⟩:Memory),(⟨0,0,0⟩:Item),5))) else (if (p0==5)=true then (if (p0==5)=true then (some ((⟨p2.Sum,x2,p2.Dep⟩:Memory),p3,0)) else (some ((⟨0,[],0⟩:Memory),(⟨0,0,0⟩:Item),5))) else (if (p0==6)=true then (if (p0==6)=true then (some ((⟨p2.Sum,x2,p2.Dep⟩:Memory),p3,0)) else (some ((⟨0,[],0⟩:Memory),(⟨0,0,0⟩:Item),5))) else (if (p0==7)=true then (if (p0==7)=true then (some ((⟨p2.Sum,x2,p2.Dep⟩:Memory),p3,0)) else (some ((⟨0,[],0⟩:Memory),(⟨0,0,0⟩:Item),5))) else (if (p0==8)=true then (some ((⟨p2.Sum,x2,p2.Dep⟩:Memory),p3,0)) else (some ((⟨0,[],0⟩:Memory),(⟨0,0,0⟩:Item),5)))))))))))
def dt (p0:Net) (x2:State × (List (Bool × List Item))) (x4:Node) (z30 z34:List Int) (z38:List Choice) (x46:Memory × Item × Int) (x47:Nat) (s49:Int) (s50:List (Bool × List Item)):Option ((Int × (List (Bool × List Item))) ⊕ (State × Bool)) :=
 (if (decide (s49<((z34).length:Int)))=true then (Option.bind (idx z34 s49) fun x52=>(Option.bind (ixN s50 x52) fun x55=>(Option.bind (atc s50 x55) fun x56=>(if (decide (((x56).length:Int) >= p0.Room))=true then (Option.map Sum.inr (some ((⟨z30,(List.map Prod.snd s50),(List.set x2.1.Memory x47 x46.1),z38,x2.1.Out⟩:State),false))) else (Option.bind (owc s50 x55) fun x57=>(Option.bind (app x57 [x46.2.1]) fun x58=>(some (.inl (IntKind.i64.wrap (s49+1),(own s50 x55 x58)))))))))) else (Option.map Sum.inr (if (x4.Kind==8)=true then (if (decide (((x2.1.Out).length:Int) >= 2000))=true then (some ((⟨z30,(List.map Prod.snd s50),(List.set x2.1.Memory x47 x46.1),z38,x2.1.Out⟩:State),false)) else (Option.bind (app x2.1.Out [x46.2.1]) fun x59=>(some ((⟨z30,(List.map Prod.snd s50),(List.set x2.1.Memory x47 x46.1),z38,x59⟩:State),true)))) else (some ((⟨z30,(List.map Prod.snd s50),(List.set x2.1.Memory x47 x46.1),z38,x2.1.Out⟩:State),true)))))
def g7 (p0:Net) (x2:State × (List (Bool × List Item))) (p3:Move) (x4:Node) (z27 z28:Int) (z30:List Int) (z31:List (Bool × List Item)) (z34:List Int) (z37:Int) (z38:List Choice):Option (State × Bool) :=
 (Option.bind (ixN x2.1.Memory p3.Node) fun x44=>(Option.bind ((x2.1.Memory)[x44]?) fun x45=>(Option.bind (hT x4.Kind x4.A x45 (⟨z27,z28,z37⟩:Item)) fun x46=>(Option.bind (ixN x2.1.Memory p3.Node) fun x47=>(Option.bind ((x2.1.Memory)[x47]?) fun x48=>(iter (fun ss_78:Int × (List (Bool × List Item))=>dt p0 x2 x4 z30 z34 z38 x46 x47 ss_78.1 ss_78.2) (0,z31)))))))
def fe (p0:Net) (x2:State × (List (Bool × List Item))) (p3:Move) (x4:Node) (z27 z28 z29:Int) (z30:List Int) (z31:List (Bool × List Item)) (z34:List Int):Option (State × Bool) :=
 (if (x4.Kind==6)=true then (if (decide (((x2.1.Choices).length:Int) >= 500))=true then (some ((⟨z30,(List.map Prod.snd z31),x2.1.Memory,x2.1.Choices,x2.1.Out⟩:State),false)) else (Option.bind (app x2.1.Choices [(⟨p3.Node,p3.Lane⟩:Choice)]) fun x36=>(g7 p0 x2 p3 x4 z27 z28 z30 z31 z34 ((x36).length:Int) x36))) else (g7 p0 x2 p3 x4 z27 z28 z30 z31 z34 z29 x2.1.Choices))
def f9 (p0:Net) (x2:State × (List (Bool × List Item))) (p3:Move) (x4:Node) (z27 z28 z29:Int) (z30:List Int) (z31:List (Bool × List Item)):Option (State × Bool) :=
 (if (x4.Kind==7)=true then (Option.bind (kQ (⟨z27,z28,z29⟩:Item) ((x4.Out).length:Int)) fun x32=>(Option.bind (idx x4.Out x32) fun x33=>(fe p0 x2 p3 x4 z27 z28 z29 z30 z31 [x33]))) else (fe p0 x2 p3 x4 z27 z28 z29 z30 z31 x4.Out))
def fo (p0:Net) (p1:List (List Item)) (p2:State) (p3:Move):Option (State × Bool) :=
 (Option.bind (kG p2) fun x2=>(Option.bind (idx p0.Nodes p3.Node) fun x4=>(if (x4.Kind==1)=true then (Option.bind (idx p1 x4.A) fun x9=>(Option.bind (ixN x2.1.At x4.A) fun x10=>(Option.bind ((x2.1.At)[x10]?) fun x11=>(Option.bind (sub x9 x11 ((x9).length:Int)) fun x12=>(if (((x12).length:Int)==0)=true then (some ((⟨x2.1.At,(List.map Prod.snd x2.2),x2.1.Memory,x2.1.Choices,x2.1.Out⟩:State),false)) else (Option.bind (idx x12 0) fun x14=>(Option.bind (ixN x2.1.At x4.A) fun x15=>(Option.bind ((x2.1.At)[x15]?) fun x16=>(Option.bind (ixN x2.1.At x4.A) fun x17=>(Option.bind ((x2.1.At)[x17]?) fun x18=>(f9 p0 x2 p3 x4 x14.Key x14.Val x14.Dep (List.set x2.1.At x17 (IntKind.i64.wrap (x16+1))) x2.2))))))))))) else (Option.bind (idx x4.In p3.Lane) fun x20=>(Option.bind (ixN x2.2 x20) fun x23=>(Option.bind (atc x2.2 x23) fun x24=>(if (((x24).length:Int)==0)=true then (some ((⟨x2.1.At,(List.map Prod.snd x2.2),x2.1.Memory,x2.1.Choices,x2.1.Out⟩:State),false)) else (Option.bind (idx x24 0) fun x25=>(Option.bind (sub x24 1 ((x24).length:Int)) fun x26=>(f9 p0 x2 p3 x4 x25.Key x25.Val x25.Dep x2.1.At (fzd (fzd (fzd x2.2 x23 x24) x23 x24) x23 x26)))))))))))
def f8 (p0:Net) (p1:List (List Item)) (s1:Int) (p2:State) (z5 s6:Int) (s7:List Move):Option ((Int × (List Move)) ⊕ ((Int × (List Move)) ⊕ (List Move))) :=
 (if (decide (s6<z5))=true then (Option.bind (fo p0 p1 p2 (⟨s1,s6⟩:Move)) fun x9=>(if x9.2=true then (Option.bind (app s7 [(⟨s1,s6⟩:Move)]) fun x10=>(some (.inl (IntKind.i64.wrap (s6+1),x10)))) else (some (.inl (IntKind.i64.wrap (s6+1),s7))))) else (Option.map Sum.inr (some (.inl (IntKind.i64.wrap (s1+1),s7)))))
def je (p0:Net) (p1:List (List Item)) (s1:Int) (p2:State) (s2:List Move) (z5:Int):Option ((Int × (List Move)) ⊕ (List Move)) :=
 (iter (fun ss_36:Int × (List Move)=>f8 p0 p1 s1 p2 z5 ss_36.1 ss_36.2) (0,s2))
def gc (p0:Net) (p1:List (List Item)) (p2:State) (s1:Int) (s2:List Move):Option ((Int × (List Move)) ⊕ (List Move)) :=
 (if (decide (s1<((p0.Nodes).length:Int)))=true then (Option.bind (idx p0.Nodes s1) fun x4=>(if (x4.Kind==6)=true then (je p0 p1 s1 p2 s2 ((x4.In).length:Int)) else (je p0 p1 s1 p2 s2 1))) else (Option.map Sum.inr (some s2)))
def jj (p0:Net) (p1:List (List Item)) (p2:State):Option (List Move) :=
 (iter (fun ss_27:Int × (List Move)=>gc p0 p1 p2 ss_27.1 ss_27.2) (0,[]))
def kv (p0:Move) (p1:List Node) (p2 p3:Int):Option Bool :=
 (Option.bind (idx p1 p0.Node) fun x2=>(some (x2.Kind != 6)))
def e8 (p0:List Move) (p1:List Node) (p2 p3 s1:Int):Option (Int ⊕ Int) :=
 (if (decide (s1<((p0).length:Int)))=true then (Option.bind (ixN p0 s1) fun x5=>(Option.bind ((p0)[x5]?) fun x6=>(Option.bind (kv x6 p1 p2 p3) fun x7=>(if x7=true then (Option.map Sum.inr (some s1)) else (some (.inl (IntKind.i64.wrap (s1+1)))))))) else (Option.map Sum.inr (some (-1))))
def gX (p0:List Move) (p1:List Node) (p2 p3:Int):Option Int :=
 (iter (fun ss_5:Int=>e8 p0 p1 p2 p3 ss_5) 0)
def ky (p0:Move) (p1:List Node) (p2 p3:Int):Option Bool :=
 (Option.bind (idx p1 p0.Node) fun x2=>(some (x2.Kind != 6)))
def e7 (p0:List Move) (p1:List Node) (p2 p3 s1:Int):Option (Int ⊕ Int) :=
 (if (decide (s1<((p0).length:Int)))=true then (Option.bind (ixN p0 s1) fun x5=>(Option.bind ((p0)[x5]?) fun x6=>(Option.bind (ky x6 p1 p2 p3) fun x7=>(if x7=true then (Option.map Sum.inr (some s1)) else (some (.inl (IntKind.i64.wrap (s1+1)))))))) else (Option.map Sum.inr (some (-1))))
def gY (p0:List Move) (p1:List Node) (p2 p3:Int):Option Int :=
 (iter (fun ss_5:Int=>e7 p0 p1 p2 p3 ss_5) 0)
def fZ (p0:List Choice) (p1 s1:Int) (s2:List Int):Option ((Int × (List Int)) ⊕ (List Int)) :=
 (if (decide (s1<((p0).length:Int)))=true then (Option.bind (idx p0 s1) fun x4=>(if (x4.Node==p1)=true then (Option.bind (app s2 [x4.Lane]) fun x5=>(some (.inl (IntKind.i64.wrap (s1+1),x5)))) else (some (.inl (IntKind.i64.wrap (s1+1),s2))))) else (Option.map Sum.inr (some s2)))
def kH (p0:List Choice) (p1:Int):Option (List Int) :=
 (iter (fun ss_5:Int × (List Int)=>fZ p0 p1 ss_5.1 ss_5.2) (0,[]))
def kJ (p0 p1:Item):Option Int :=
 (if ((decide (p0.Key<p1.Key)) || ((p0.Key==p1.Key) && decide (p0.Val<p1.Val)))=true then (some (-1)) else (if (p0==p1)=true then (some 0) else (some 1)))
def iT (p0 p1:List Item) (s1:Int):Option (Int ⊕ Int) :=
 (if (decide (s1<((p0).length:Int)))=true then (Option.bind (idx p0 s1) fun x3=>(if (decide (s1 >= ((p1).length:Int)))=true then (Option.map Sum.inr (some 1)) else (Option.bind (idx p1 s1) fun x5=>(Option.bind (kJ x3 x5) fun x7=>(if (x7 != 0)=true then (Option.map Sum.inr (some x7)) else (some (.inl (IntKind.i64.wrap (s1+1))))))))) else (Option.map Sum.inr (if (decide (((p0).length:Int)<((p1).length:Int)))=true then (some (-1)) else (some 0))))
def lW (p0 p1:List Item):Option Int :=
 (iter (fun ss_7:Int=>iT p0 p1 ss_7) 0)
def kK (p0 p1:List Item):Option Int :=
 (Option.bind (lW p0 p1) fun x2=>(some x2))
def nW (p0:List (List Item)):Option (List (List Item)):=sortR p0
def fM (p0:List (List Item)) (s1 s14 s15:Int) (s16:List (List Item)):Option ((Int × Int × (List (List Item))) ⊕ (Int ⊕ (List (List Item)))) :=
 (if (decide (s15<((((((p0).length:Int)).toNat - (s1).toNat):Nat):Int)))=true then (Option.bind (ixV ((((p0).length:Int)).toNat - (s1).toNat) s15) fun x22=>(Option.bind ((s16)[((s1).toNat+x22)]?) fun x23=>(Option.bind (ixV ((((p0).length:Int)).toNat - (s1).toNat) (IntKind.i64.wrap (s15 - 1))) fun x24=>(Option.bind ((s16)[((s1).toNat+x24)]?) fun x25=>(Option.bind (fg x23 x25) fun x26=>(if (!x26)=true then (Option.bind (ixV ((((p0).length:Int)).toNat - (s1).toNat) s15) fun x31=>(Option.bind ((s16)[((s1).toNat+x31)]?) fun x32=>(Option.bind (ixN s16 s14) fun x33=>(Option.bind ((s16)[x33]?) fun x34=>(some (.inl (IntKind.i64.wrap (s14+1),IntKind.i64.wrap (s15+1),(List.set s16 x33 x32)))))))) else (some (.inl (s14,IntKind.i64.wrap (s15+1),s16))))))))) else (Option.map Sum.inr (Option.bind (vwok (s16).length s14 ((s16).length:Int)) fun x37=>(Option.bind (vwok (s16).length ((s14).toNat:Nat) (((s14).toNat:Nat)+(((((s16).length:Int)).toNat - (s14).toNat):Nat))) fun x38=>(Option.bind (sub (clr s16 ((s14).toNat) ((((s16).length:Int)).toNat - (s14).toNat) []) 0 s14) fun x40=>(Option.map Sum.inr (some x40)))))))
def eu (p0:List (List Item)) (s1:Int):Option (Int ⊕ (List (List Item))) :=
 (if (decide (s1<((p0).length:Int)))=true then (Option.bind (ixN p0 s1) fun x7=>(Option.bind ((p0)[x7]?) fun x8=>(Option.bind (ixN p0 (IntKind.i64.wrap (s1 - 1))) fun x9=>(Option.bind ((p0)[x9]?) fun x10=>(Option.bind (fg x8 x10) fun x11=>(if x11=true then (Option.bind (vwok (p0).length s1 ((p0).length:Int)) fun x13=>(iter (fun ss_67:Int × Int × (List (List Item))=>fM p0 s1 ss_67.1 ss_67.2.1 ss_67.2.2) (s1,1,p0))) else (some (.inl (IntKind.i64.wrap (s1+1)))))))))) else (Option.map Sum.inr (some p0)))
def kf (p0:List (List Item)):Option (List (List Item)) :=
 (if (decide (((p0).length:Int)<2))=true then (some p0) else (iter (fun ss_50:Int=>eu p0 ss_50) 1))
def gh (s33:Int) (x35:List Int) (s36:List UInt8) (s37:Int):Option (((List UInt8) × Int) ⊕ (((List UInt8) × Int) ⊕ ((Int × (List ((List UInt8) × Int)) × (List (List Item)) × (List State)) ⊕ ((List (List Item)) × Int × Bool)))) :=
 (if (decide (s37<((x35).length:Int)))=true then (Option.bind (ixN x35 s37) fun x40=>(Option.bind ((x35)[x40]?) fun x41=>(Option.bind (cat s36 (toStr [IntKind.u8.wrap (IntKind.i64.wrap (97+x41))])) fun x42=>(some (.inl (x42,IntKind.i64.wrap (s37+1))))))) else (Option.map Sum.inr (Option.bind (cat s36 [32]) fun x43=>(some (.inl (x43,IntKind.i64.wrap (s33+1)))))))
def f7 (p0:Net) (p1:List (List Item)) (s3:Int) (s4:List ((List UInt8) × Int)) (s18:List Int) (s19:List (List Item)) (s20:List Memory) (s21:List Choice) (s22:List Item) (s23:List Move) (s32:List UInt8) (z51:List (List Item)) (s52:Int) (s53:List State):Option ((Int × (List State)) ⊕ ((Int × (List ((List UInt8) × Int)) × (List (List Item)) × (List State)) ⊕ ((List (List Item)) × Int × Bool))) :=
 (if (decide (s52<((s23).length:Int)))=true then (Option.bind (ixN s23 s52) fun x56=>(Option.bind ((s23)[x56]?) fun x57=>(Option.bind (fo p0 p1 (⟨s18,s19,s20,s21,s22⟩:State) x57) fun x59=>(Option.bind (app s53 [x59.1]) fun x60=>(some (.inl (IntKind.i64.wrap (s52+1),x60))))))) else (Option.map Sum.inr (some (.inl (IntKind.i64.wrap (s3+1),(mset s32 (IntKind.i64.wrap (((mget s32 s4).getD 0)+1)) s4),z51,s53)))))
def ff (p0:Net) (p1:List (List Item)) (s3:Int) (s4:List ((List UInt8) × Int)) (x12:List State) (s18:List Int) (s19:List (List Item)) (s20:List Memory) (s21:List Choice) (s22:List Item) (s23:List Move) (s32:List UInt8) (z51:List (List Item)):Option ((Int × (List ((List UInt8) × Int)) × (List (List Item)) × (List State)) ⊕ ((List (List Item)) × Int × Bool)) :=
 (iter (fun ss_155:Int × (List State)=>f7 p0 p1 s3 s4 s18 s19 s20 s21 s22 s23 s32 z51 ss_155.1 ss_155.2) (0,x12))
def f5 (p0:Net) (p1:List (List Item)) (s3:Int) (s4:List ((List UInt8) × Int)) (s5:List (List Item)) (x12:List State) (s18:List Int) (s19:List (List Item)) (s20:List Memory) (s21:List Choice) (s22:List Item) (s23:List Move) (s32:List UInt8) (s44:Int) (s45:List Item):Option ((Int × (List Item)) ⊕ ((Int × (List ((List UInt8) × Int)) × (List (List Item)) × (List State)) ⊕ ((List (List Item)) × Int × Bool))) :=
 (if (decide (s44<((s22).length:Int)))=true then (Option.bind (idx s22 s44) fun x47=>(Option.bind (d6 x47.Key x47.Val) fun x48=>(Option.bind (app s45 [x48]) fun x49=>(some (.inl (IntKind.i64.wrap (s44+1),x49)))))) else (Option.map Sum.inr (Option.bind (app s5 [s45]) fun x50=>(ff p0 p1 s3 s4 x12 s18 s19 s20 s21 s22 s23 s32 x50))))
def dz (p0:Net) (p1:List (List Item)) (p2 s3:Int) (s4:List ((List UInt8) × Int)) (s5:List (List Item)) (x12:List State) (s18:List Int) (s19:List (List Item)) (s20:List Memory) (s21:List Choice) (s22:List Item) (s23:List Move) (s32:List UInt8) (s33:Int):Option (((List UInt8) × Int) ⊕ ((Int × (List ((List UInt8) × Int)) × (List (List Item)) × (List State)) ⊕ ((List (List Item)) × Int × Bool))) :=
 (if (decide (s33<((p0.Nodes).length:Int)))=true then (Option.bind (kH s21 s33) fun x35=>(iter (fun ss_137:(List UInt8) × Int=>gh s33 x35 ss_137.1 ss_137.2) (s32,0))) else (Option.map Sum.inr (if (decide (((mget s32 (mset s32 (IntKind.i64.wrap (((mget s32 s4).getD 0)+1)) s4)).getD 0) > 1))=true then (some (.inl (s3,(mset s32 (IntKind.i64.wrap (((mget s32 s4).getD 0)+1)) s4),s5,x12))) else (if (decide ((IntKind.i64.wrap (s3+1)) > p2))=true then (Option.map Sum.inr (some ([],IntKind.i64.wrap (s3+1),false))) else (if (((s23).length:Int)==0)=true then (iter (fun ss_162:Int × (List Item)=>f5 p0 p1 s3 s4 s5 x12 s18 s19 s20 s21 s22 s23 s32 ss_162.1 ss_162.2) (0,[])) else (ff p0 p1 s3 s4 x12 s18 s19 s20 s21 s22 s23 s32 s5))))))
def fh (p0:Net) (p1:List (List Item)) (p2 s3:Int) (s4:List ((List UInt8) × Int)) (s5:List (List Item)) (x12:List State) (s17:Int) (s18:List Int) (s19:List (List Item)) (s20:List Memory) (s21:List Choice) (s22:List Item) (s23:List Move):Option ((Int × (List Int) × (List (List Item)) × (List Memory) × (List Choice) × (List Item) × (List Move)) ⊕ ((Int × (List ((List UInt8) × Int)) × (List (List Item)) × (List State)) ⊕ ((List (List Item)) × Int × Bool))) :=
 (if (decide (s17 >= 0))=true then (Option.bind (ixN s23 s17) fun x27=>(Option.bind ((s23)[x27]?) fun x28=>(Option.bind (fo p0 p1 (⟨s18,s19,s20,s21,s22⟩:State) x28) fun x29=>(Option.bind (jj p0 p1 x29.1) fun x30=>(Option.bind (gY x30 p0.Nodes p0.Rings p0.Room) fun x31=>(some (.inl (x31,x29.1.At,x29.1.Rings,x29.1.Memory,x29.1.Choices,x29.1.Out,x30)))))))) else (Option.map Sum.inr (iter (fun ss_132:(List UInt8) × Int=>dz p0 p1 p2 s3 s4 s5 x12 s18 s19 s20 s21 s22 s23 ss_132.1 ss_132.2) ([],0))))
def gf (p0:Net) (p1:List (List Item)) (p2 s3:Int) (s4:List ((List UInt8) × Int)) (s5:List (List Item)) (s6:List State):Option ((Int × (List ((List UInt8) × Int)) × (List (List Item)) × (List State)) ⊕ ((List (List Item)) × Int × Bool)) :=
 (if (decide (((s6).length:Int) > 0))=true then (Option.bind (ixN s6 (IntKind.i64.wrap (((s6).length:Int) - 1))) fun x9=>(Option.bind ((s6)[x9]?) fun x10=>(Option.bind (sub s6 0 (IntKind.i64.wrap (((s6).length:Int) - 1))) fun x12=>(Option.bind (jj p0 p1 x10) fun x14=>(Option.bind (gX x14 p0.Nodes p0.Rings p0.Room) fun x16=>(iter (fun ss_114:Int × (List Int) × (List (List Item)) × (List Memory) × (List Choice) × (List Item) × (List Move)=>fh p0 p1 p2 s3 s4 s5 x12 ss_114.1 ss_114.2.1 ss_114.2.2.1 ss_114.2.2.2.1 ss_114.2.2.2.2.1 ss_114.2.2.2.2.2.1 ss_114.2.2.2.2.2.2) (x16,x10.At,x10.Rings,x10.Memory,x10.Choices,x10.Out,x14))))))) else (Option.map Sum.inr (Option.bind (nW s5) fun x62=>(Option.bind (kf x62) fun x64=>(some (x64,s3,true))))))
def jh (p0:Net) (p1:List (List Item)) (p2:Int):Option ((List (List Item)) × Int × Bool) :=
 (Option.bind (kL p0 p1) fun x2=>(iter (fun ss_109:Int × (List ((List UInt8) × Int)) × (List (List Item)) × (List State)=>gf p0 p1 p2 ss_109.1 ss_109.2.1 ss_109.2.2.1 ss_109.2.2.2) (0,([]:List ((List UInt8) × Int)),[],[x2])))
def mo (p0 p1:Item):Option Bool :=
 (some ((p0.Key==p1.Key) && p0.Val==p1.Val))
def ka (p0 p1:List Item) (s1:Int):Option (Int ⊕ Bool) :=
 (if (decide (s1<((p0).length:Int)))=true then (Option.bind (idx p0 s1) fun x3=>(Option.bind (idx p1 s1) fun x5=>(Option.bind (mo x3 x5) fun x7=>(if (!x7)=true then (Option.map Sum.inr (some false)) else (some (.inl (IntKind.i64.wrap (s1+1)))))))) else (Option.map Sum.inr (some true)))
def lX (p0 p1:List Item):Option Bool :=
 (if (((p0).length:Int) != ((p1).length:Int))=true then (some false) else (iter (fun ss_6:Int=>ka p0 p1 ss_6) 0))
def kN (p0 p1:List Item):Option Bool :=
 (Option.bind (lX p0 p1) fun x2=>(some x2))
def l9 (p0 p1:List Item):Option Bool :=
 (Option.bind (kN p1 p0) fun x2=>(some x2))
def fO (p0:List (List Item)) (p1:List Item) (s1:Int):Option (Int ⊕ Int) :=
 (if (decide (s1<((p0).length:Int)))=true then (Option.bind (ixN p0 s1) fun x5=>(Option.bind ((p0)[x5]?) fun x6=>(Option.bind (l9 x6 p1) fun x7=>(if x7=true then (Option.map Sum.inr (some s1)) else (some (.inl (IntKind.i64.wrap (s1+1)))))))) else (Option.map Sum.inr (some (-1))))
def lY (p0:List (List Item)) (p1:List Item):Option Int :=
 (iter (fun ss_5:Int=>fO p0 p1 ss_5) 0)
def kb (p0:List (List Item)) (p1:List Item):Option Bool :=
 (Option.bind (lY p0 p1) fun x2=>(some (decide (x2 >= 0))))
def fc (p2:List Item) (x2:(List (List Item)) × Int) (x4:Bool × Int) (z11:Int) (z12:List (List Item)):Option Bool :=
 (Option.bind (if (x2.2 != z11)=true then (some true) else (if (z11 != 0)=true then (if (((x2.1).length:Int) != 0)=true then (some true) else (if (z11==0)=true then (Option.bind (gV x2.1 z12) fun x13=>(some (!x13))) else (some false))) else (if (z11==0)=true then (Option.bind (gV x2.1 z12) fun x14=>(some (!x14))) else (some false)))) fun c15=>(if c15=true then (some false) else (if (decide (((p2).length:Int) > 2000))=true then (some ((x4.2==2) && !x4.1)) else (if (z11 != 0)=true then (some ((x4.2==z11) && !x4.1)) else (Option.bind (if (x4.2==0)=true then (Option.bind (kb z12 p2) fun x18=>(some (x4.1==x18))) else (some false)) fun c19=>(some c19))))))
def mq (p0:Net) (p1:List (List Item)) (p2:List Item):Option Bool :=
 (Option.bind (iw p0 p1) fun x2=>(Option.bind (eJ p0 p1 p2) fun x4=>(Option.bind (kz p0 p1) fun x6=>(Option.bind kM fun x8=>(if (!x8)=true then (some false) else (if (x6==0)=true then (Option.bind (jh p0 p1 (600:Int)) fun x10=>(if (!x10.2.2)=true then (fc p2 x2 x4 2 x10.1) else (fc p2 x2 x4 x6 x10.1))) else (fc p2 x2 x4 x6 [])))))))
end
section
open Go.RowKit
inductive TI where
 | no
 | s0
 | sc (z:AV)
 | it (k:IntKind)
 | bo
 | str
 | sl (e c:Nat)
 | ag (z:List AV) (m:Nat) (fs:List (Nat × Nat × Nat))
 | ar (z:List AV) (m:Nat)
inductive TT where
 | l (t:Nat) (i:TI)
 | n (k:Nat) (a b:TT)
def TT.get:TT->Nat->TI
 | .l t i,u=>match Nat.beq t u with
  | true=>i
  | false=>.no
 | .n k a b,u=>match Nat.blt u k with
  | true=>a.get u
  | false=>b.get u
def TI.zero:TI->Option (List AV)
 | .sc z=>some [z]
 | .it k=>some [.int k 0]
 | .bo=>some [.bool false]
 | .str=>some [.str []]
 | .sl _ _=>some [.nils]
 | .ag z _ _=>some z
 | .ar z _=>some z
 | _=>none
def TI.size:TI->Option Nat
 | .no=>none
 | .ag _ m _=>some m
 | .ar _ m=>some m
 | _=>some 1
def TOne (P:Program) (t:Nat):Prop:=aK P t=some false/\P.cellsOf t=1/\(P.underlying t).isSome=true
def FsOk (P:Program) (t:Nat):Nat->List (Nat × Nat × Nat)->Prop
 | _,[]=>True
 | k,(o,_,ft)::r=>FieldAt P t k ft o/\FsOk P t (k+1) r
def TAgg (P:Program) (t:Nat) (z:List AV) (m:Nat):Prop:=aK P t=some true/\P.cellsOf t=m/\(P.underlying t).isSome=true/\aC P t=some z/\z.length=m
def TOk (P:Program) (t:Nat):TI->Prop
 | .no=>True
 | .s0=>TOne P t
 | .sc z=>TOne P t/\aC P t=some [z]
 | .it k=>TOne P t/\aC P t=some [.int k 0]/\P.underlying t=some (.int k)
 | .bo=>TOne P t/\aC P t=some [.bool false]/\P.underlying t=some .bool
 | .str=>TOne P t/\aC P t=some [.str []]/\P.underlying t=some .string
 | .sl e c=>TOne P t/\aC P t=some [.nils]/\SliceOf P t e c
 | .ag z m fs=>TAgg P t z m/\ck P t=some (fs.map fun q=>(q.1,q.2.1))/\FsOk P t 0 fs
 | .ar z m=>TAgg P t z m
def TT.Ok (P:Program):TT->Prop
 | .l t i=>TOk P t i
 | .n _ a b=>a.Ok P/\b.Ok P
section
variable {P:Program} {N n:Nat} {aw aw':List Ob} {l:List (Nat × AV)} {tt:TT}
theorem TT.get_ok:∀ {tt:TT},tt.Ok P->∀ u,TOk P u (tt.get u)
 | .l t i,h,u=>by
  show TOk P u (match Nat.beq t u with | true=>i | false=>.no);cases hb:Nat.beq t u
  ·trivial
  ·have:=Nat.eq_of_beq_eq_true hb;subst this;exact h
 | .n k a b,h,u=>by
  show TOk P u (match Nat.blt u k with | true=>a.get u | false=>b.get u);cases Nat.blt u k
  ·exact TT.get_ok h.2 u
  ·exact TT.get_ok h.1 u
theorem TI.zero_ok {t:Nat} {i:TI} {z:List AV} (h:TOk P t i) (hz:i.zero=some z):aC P t=some z:=by
 cases i<;>simp only [TI.zero] at hz<;>first | (cases hz;done) | (cases hz;first | exact h.2 | exact h.2.1 | exact h.1.2.2.2.1 | exact h.2.2.2.1)
theorem TI.size_ok {t m:Nat} {i:TI} (h:TOk P t i) (hm:i.size=some m):P.cellsOf t=m/\(P.underlying t).isSome=true:=by
 cases i<;>simp only [TI.size] at hm<;>first | (cases hm;done) | (cases hm;first | exact ⟨h.2.1,h.2.2⟩ | exact ⟨h.1.2.1,h.1.2.2.1⟩ | exact ⟨h.1.2.1,h.1.2.2⟩ | exact ⟨h.2.1,h.2.2.1⟩)
theorem pX {t:Nat}:∀ {fs:List (Nat × Nat × Nat)} {k i:Nat} {q:Nat × Nat × Nat},FsOk P t k fs->fs[i]?=some q->FieldAt P t (k+i) q.2.2 q.1
 | q'::r,k,0,q,h,e=>by simp at e;subst e;exact h.1
 | q'::r,k,i+1,q,h,e=>by
  have:=pX (k:=k+1) (i:=i) h.2 (by simpa using e);rwa [show k+1+i=k+(i+1) by omega] at this
 | [],k,i,q,h,e=>by simp at e
section
variable {α:Type}
def bp:List α->Nat->(α->Prop)->Prop
 | [],_,_=>False
 | a::l,k,K=>match k with
  | 0=>K a
  | k+1=>bp l k K
def setC:List α->Nat->α->(List α->Prop)->Prop
 | [],_,_,_=>False
 | a::l,k,b,K=>match k with
  | 0=>K (b::l)
  | k+1=>setC l k b fun l=>K (a::l)
def pushC:List α->α->(List α->Prop)->Prop
 | [],b,K=>K [b]
 | a::l,b,K=>pushC l b fun l=>K (a::l)
def lenC:List α->Nat->Prop->Prop
 | [],k,K=>match k with
  | 0=>K
  | _+1=>False
 | _::l,k,K=>match k with
  | 0=>False
  | k+1=>lenC l k K
def dropC:List α->Nat->(List α->Prop)->Prop
 | l,0,K=>K l
 | [],_+1,_=>False
 | _::l,k+1,K=>dropC l k K
def takeC:List α->Nat->(List α->Prop)->Prop
 | _,0,K=>K []
 | [],_+1,_=>False
 | a::l,k+1,K=>takeC l k fun l=>K (a::l)
def overC:List α->List α->(List α->Prop)->Prop
 | l,[],K=>K l
 | [],_::_,_=>False
 | _::l,b::bs,K=>overC l bs fun l=>K (b::l)
def splC:List α->Nat->List α->(List α->Prop)->Prop
 | l,0,bs,K=>overC l bs K
 | [],_+1,_,_=>False
 | a::l,k+1,bs,K=>splC l k bs fun l=>K (a::l)
def lenB:List α->Nat->Bool
 | [],k=>(match k with
  | 0=>true
  | _+1=>false)
 | _::l,k=>(match k with
  | 0=>false
  | k+1=>lenB l k)
def sameB:List α->List α->Bool
 | [],[]=>true
 | _::l,_::m=>sameB l m
 | _,_=>false
def aggC (row:List α) (off m:Nat) (K:List α->Prop):Prop :=
 match off with
 | 0=>(match lenB row m with
  | true=>K row
  | false=>takeC row m K)
 | off=>dropC row off fun r=>takeC r m K
def putC (l:List α) (off:Nat) (bs:List α) (K:List α->Prop):Prop :=
 match off with
 | 0=>(match sameB l bs with
  | true=>K bs
  | false=>splC l 0 bs K)
 | off=>splC l off bs K
theorem uJ:∀ {l:List α} {k:Nat},lenB l k=true->l.length=k
 | [],0,_=>rfl
 | [],_+1,h=>by cases h
 | _::_,0,h=>by cases h
 | _::l,k+1,h=>by have:=uJ (l:=l) (k:=k) h;simp [this]
theorem sY:∀ {l m:List α},sameB l m=true->l.length=m.length
 | [],[],_=>rfl
 | [],_::_,h=>by cases h
 | _::_,[],h=>by cases h
 | _::l,_::m,h=>by have:=sY (l:=l) (m:=m) h;simp [this]
theorem bg:∀ {l:List α} {k:Nat} {K:α->Prop},bp l k K->∃ a,l[k]?=some a/\K a
 | [],_,_,h=>h.elim
 | a::l,0,K,h=>⟨a,rfl,h⟩
 | a::l,k+1,K,h=>by obtain ⟨b,h1,h2⟩:=bg (l:=l) (k:=k) (K:=K) h;exact ⟨b,by simpa using h1,h2⟩
theorem eM:∀ {l:List α} {k:Nat} {b:α} {K:List α->Prop},setC l k b K->K (l.set k b)
 | [],_,_,_,h=>h.elim
 | a::l,0,b,K,h=>h
 | a::l,k+1,b,K,h=>eM (l:=l) (k:=k) (K:=fun l=>K (a::l)) h
theorem iA:∀ {l:List α} {b:α} {K:List α->Prop},pushC l b K->K (l++[b])
 | [],_,_,h=>h
 | a::l,b,K,h=>iA (l:=l) (K:=fun l=>K (a::l)) h
theorem nh:∀ {l:List α} {k:Nat} {K:Prop},lenC l k K->l.length=k/\K
 | [],0,K,h=>⟨rfl,h⟩
 | [],_+1,_,h=>h.elim
 | _::_,0,_,h=>h.elim
 | _::l,k+1,K,h=>by have:=nh (l:=l) (k:=k) (K:=K) h;exact ⟨by simp [this.1],this.2⟩
theorem pc:∀ {l:List α} {k:Nat} {K:List α->Prop},dropC l k K->k<=l.length/\K (l.drop k)
 | l,0,K,h=>⟨Nat.zero_le _,by cases l<;>exact h⟩
 | [],_+1,_,h=>h.elim
 | _::l,k+1,K,h=>by have:=pc (l:=l) (k:=k) (K:=K) h;exact ⟨by simp [this.1],by simpa using this.2⟩
theorem py:∀ {l:List α} {k:Nat} {K:List α->Prop},takeC l k K->k<=l.length/\K (l.take k)
 | l,0,K,h=>⟨Nat.zero_le _,by cases l<;>exact h⟩
 | [],_+1,_,h=>h.elim
 | a::l,k+1,K,h=>by have:=py (l:=l) (k:=k) (K:=fun l=>K (a::l)) h;exact ⟨by simp [this.1],by simpa using this.2⟩
theorem uk:∀ {l bs:List α} {K:List α->Prop},overC l bs K->bs.length<=l.length/\K (bs++l.drop bs.length)
 | l,[],K,h=>⟨Nat.zero_le _,by cases l<;>exact h⟩
 | [],_::_,_,h=>h.elim
 | _::l,b::bs,K,h=>by have:=uk (l:=l) (bs:=bs) (K:=fun l=>K (b::l)) h;exact ⟨by simp [this.1],by simpa using this.2⟩
theorem ni:∀ {l:List α} {k:Nat} {bs:List α} {K:List α->Prop},splC l k bs K->k+bs.length<=l.length/\K (l.take k++bs++l.drop (k+bs.length))
 | l,0,bs,K,h=>by have:=uk (l:=l) (bs:=bs) (K:=K) (by cases l<;>exact h);exact ⟨by omega,by simpa using this.2⟩
 | [],_+1,_,_,h=>h.elim
 | a::l,k+1,bs,K,h=>by
  have:=ni (l:=l) (k:=k) (bs:=bs) (K:=fun l=>K (a::l)) h;refine ⟨by simp;omega,?_⟩;rw [show k+1+bs.length=(k+bs.length)+1 by omega];simpa using this.2
theorem u3 {row:List α} {off m:Nat} {K:List α->Prop} (h:aggC row off m K):off+m<=row.length/\K ((row.drop off).take m):=by
 have key:∀ {o:Nat},(dropC row o fun r=>takeC r m K)->o+m<=row.length/\K ((row.drop o).take m):=fun {o} h=>by
  obtain ⟨h1,h2⟩:=pc h;obtain ⟨h3,h4⟩:=py h2;exact ⟨by rw [List.length_drop] at h3;omega,h4⟩
 unfold aggC at h;split at h
 ·split at h
  ·rename_i hb;have:=uJ hb;subst this;exact ⟨by omega,by simpa using h⟩
  ·obtain ⟨h3,h4⟩:=py h;exact ⟨by omega,by simpa using h4⟩
 ·exact key h
theorem Ci {l:List α} {k:Nat} {bs:List α} {K:List α->Prop} (h:putC l k bs K):k+bs.length<=l.length/\K (l.take k++bs++l.drop (k+bs.length)):=by
 unfold putC at h;split at h
 ·split at h
  ·rename_i hb;have:=sY hb;exact ⟨by omega,by rw [Nat.zero_add,<- this];simpa using h⟩
  ·exact ni h
 ·exact ni h
end
def fA (a:AV) (K:AV->Prop):Prop :=
 match a with
 | .any=>K .any
 | .int k n=>K (.int k n)
 | .bool b=>K (.bool b)
 | .str s=>K (.str s)
 | .agg cs=>K (.agg cs)
 | .tup vs=>K (.tup vs)
 | .nils=>K .nils
 | .sl rows=>K (.sl rows)
 | .ref id=>K (.ref id)
 | .ptr id off=>K (.ptr id off)
 | .elt row off=>K (.elt row off)
 | .aptr id size i off=>K (.aptr id size i off)
 | .func f caps=>K (.func f caps)
 | .nilf=>K .nilf
 | .nilp=>K .nilp
 | .nili=>K .nili
 | .mpr id=>K (.mpr id)
 | .np id=>K (.np id)
 | .ifc t a=>K (.ifc t a)
 | .cst v=>K (.cst v)
 | .vw id size lo n cap=>K (.vw id size lo n cap)
 | .ref2 id=>K (.ref2 id)
 | .aptr2 id i=>K (.aptr2 id i)
 | .iref id i=>K (.iref id i)
 | .bnd f cs=>K (.bnd f cs)
theorem dp {a:AV} {K:AV->Prop} (h:fA a K):K a:=by cases a<;>exact h
def lS (a:AV) (K:List AV->Prop):Prop :=
 match a with
 | .any | .tup _ | .cst _=>False
 | .agg cs=>K cs
 | a=>fA a fun a=>K [a]
theorem oU {a:AV} {K:List AV->Prop} (h:lS a K):∃ cs,a.cells=some cs/\K cs:=by
 cases a<;>first | exact h.elim | exact ⟨_,rfl,h⟩
def evsC (n:Nat) (l:List (Nat × AV)):List Operand->(List AV->Prop)->Prop
 | [],K=>K []
 | x::xs,K=>fA (evA n l x) fun a=>evsC n l xs fun as₀=>K (a::as₀)
theorem lH:∀ {xs:List Operand} {K:List AV->Prop},evsC n l xs K->K (xs.map (evA n l))
 | [],K,h=>h
 | x::xs,K,h=>lH (xs:=xs) (K:=fun as₀=>K (evA n l x::as₀)) (dp (a:=evA n l x) (K:=fun a=>evsC n l xs fun as₀=>K (a::as₀)) h)
def ikN:IntKind->Nat
 | .i8=>0
 | .i16=>1
 | .i32=>2
 | .i64=>3
 | .u8=>4
 | .u16=>5
 | .u32=>6
 | .u64=>7
theorem wa {a b:IntKind} (h:Nat.beq (ikN a) (ikN b)=true):a=b:=by cases a<;>cases b<;>first | rfl | cases h
def wLd (i:TI) (row:List AV) (off:Nat) (K:AV->Prop):Prop :=
 match i with
 | .no=>False
 | .ag _ m _=>aggC row off m fun cs=>K (.agg cs)
 | .ar _ m=>aggC row off m fun cs=>K (.agg cs)
 | _=>bp row off fun c=>fA c K
theorem ldA {t m:Nat} {row:List AV} {off:Nat} {K:AV->Prop} (hk:aK P t=some true) (hm:P.cellsOf t=m) (h:aggC row off m fun cs=>K (.agg cs)):bv P t row off K:=by
 obtain ⟨h1,h2⟩:=u3 h;simp only [bv,hk,hm];exact ⟨h1,h2⟩
theorem ld1 {t:Nat} {row:List AV} {off:Nat} {K:AV->Prop} (hk:aK P t=some false) (h:bp row off fun c=>fA c K):bv P t row off K:=by
 obtain ⟨c,h1,h2⟩:=bg h;exact aE hk h1 (dp h2)
theorem p9 {t:Nat} {i:TI} {row:List AV} {off:Nat} {K:AV->Prop} (ht:TOk P t i) (h:wLd i row off K):bv P t row off K:=by
 cases i with
 | no=>exact h.elim
 | ag z m fs=>exact ldA ht.1.1 ht.1.2.1 h
 | ar z m=>exact ldA ht.1 ht.2.1 h
 | s0=>exact ld1 ht.1 h
 | _=>exact ld1 ht.1.1 h
def wBin (tt:TT) (op:BinOp) (t:Nat) (a b:AV) (K:AV->Prop):Prop :=
 match a,b with
 | .int k x,.int k' y=>(match Nat.beq (ikN k) (ikN k') with
  | true=>(match op with
   | .add=>K (.int k (k.wrap (x+y)))
   | .sub=>K (.int k (k.wrap (x - y)))
   | .mul=>K (.int k (k.wrap (x*y)))
   | .and=>K (.int k (intBits .and k x y))
   | .or=>K (.int k (intBits .or k x y))
   | .xor=>K (.int k (intBits .xor k x y))
   | .eql=>K (.bool (x==y))
   | .neq=>K (.bool (x != y))
   | .lss=>K (.bool (decide (x<y)))
   | .leq=>K (.bool (decide (x<=y)))
   | .gtr=>K (.bool (decide (x > y)))
   | .geq=>K (.bool (decide (x >= y)))
   | _=>False)
  | false=>False)
 | .str x,.str y=>(match op with
  | .eql=>K (.bool (x==y))
  | .neq=>K (.bool (!(x==y)))
  | _=>False)
 | .bool x,.bool y=>(match tt.get t with
  | .bo=>(match op with
   | .eql=>K (.bool (x==y))
   | .neq=>K (.bool (!(x==y)))
   | _=>False)
  | _=>False)
 | _,_=>False
theorem Cw {op:BinOp} {t:Nat} {a b:AV} {K:AV->Prop} (ht:tt.Ok P) (h:wBin tt op t a b K):ep P op t a b K:=by
 unfold wBin at h;split at h
 ·split at h
  ·rename_i hk;have:=wa hk;subst this;split at h<;>first | exact ⟨trivial,h⟩ | exact ⟨rfl,h⟩ | exact h.elim
  ·exact h.elim
 ·split at h<;>first | exact h.elim | exact h
 ·split at h
  ·rename_i hb;have hu:=TT.get_ok ht t;rw [hb] at hu;have hu:=hu.2.2;split at h<;>first | exact h.elim | (simp only [ep,hu];exact h)
  ·exact h.elim
 ·exact h.elim
def fillC (n:Nat) (l:List (Nat × AV)) (fs:List (Nat × Nat × Nat)):List AV->List (Nat × Operand)->(List AV->Prop)->Prop
 | cells,[],K=>K cells
 | cells,(i,x)::ps,K=>bp fs i fun (o,sz,_)=>lS (evA n l x) fun vs=>lenC vs sz (splC cells o vs fun cs=>fillC n l fs cs ps K)
theorem tf {fs:List (Nat × Nat × Nat)}:∀ {ps:List (Nat × Operand)} {cells:List AV} {K:List AV->Prop},fillC n l fs cells ps K ->
  ∃ cs,eo (fun i=>(fs.map fun q=>(q.1,q.2.1))[i]?) cells (ps.map fun p=>(p.1,evA n l p.2))=some cs/\K cs
 | [],cells,K,h=>⟨cells,rfl,by cases cells<;>exact h⟩
 | (i,x)::ps,cells,K,h=>by
  have h:bp fs i fun q=>lS (evA n l x) fun vs=>lenC vs q.2.1 (splC cells q.1 vs fun cs=>fillC n l fs cs ps K):=by cases cells<;>exact h
  obtain ⟨q,h1,h⟩:=bg h;obtain ⟨vs,h2,h⟩:=oU h;obtain ⟨h3,h⟩:=nh h;obtain ⟨h4,h⟩:=ni h;obtain ⟨cs,h5,h6⟩:=tf h;refine ⟨cs,?_,h6⟩;show eo _ cells ((i,evA n l x)::ps.map fun p=>(p.1,evA n l p.2))=_;have e1:(fs.map fun q=>(q.1,q.2.1))[i]?=some (q.1,q.2.1):=by rw [List.getElem?_map,h1];rfl
  unfold eo;simp only [e1,h2];rw [if_pos ⟨h3,by omega⟩];exact h5
def wB (tt:TT) (n:Nat) (l:List (Nat × AV)) (b:Builtin) (args:List Operand) (ats:List TypeId) (K:AV->Prop):Prop :=
 match b,args,ats with
 | .len,[x],[t]=>(match tt.get t,evA n l x with
  | .str,.str s=>K (.int .i64 s.length)
  | .sl _ _,.nils=>K (.int .i64 0)
  | _,_=>False)
 | .min,[x,y],_=>(match evA n l x,evA n l y with
  | .int k a,.int _ b=>K (.int k (if b<a then b else a))
  | _,_=>False)
 | .max,[x,y],_=>(match evA n l x,evA n l y with
  | .int k a,.int _ b=>K (.int k (if b > a then b else a))
  | _,_=>False)
 | _,_,_=>False
theorem wB_ok {b:Builtin} {args:List Operand} {ats:List TypeId} {K:AV->Prop} (ht:tt.Ok P) (h:wB tt n l b args ats K):vcB P (mkA n l) aw b args ats K:=by
 unfold wB at h;split at h
 ·rename_i x t;have hu:=TT.get_ok ht t;split at h
  ·rename_i s h1 h2;rw [h1] at hu;simp only [vcB,ap,hu.2.2,h2];exact h
  ·rename_i e c h1 h2;rw [h1] at hu;simp only [vcB,ap,hu.2.2.u,h2];exact h
  ·exact h.elim
 ·split at h
  ·rename_i h1 h2;simp only [vcB,ap,h1,h2];exact h
  ·exact h.elim
 ·split at h
  ·rename_i h1 h2;simp only [vcB,ap,h1,h2];exact h
  ·exact h.elim
 ·exact h.elim
def wV (tt:TT) (n:Nat) (l:List (Nat × AV)) (aw:List Ob) (op:Op) (K:AV->Prop):Prop :=
 match op with
 | .move x=>fA (evA n l x) K
 | .assign x=>fA (evA n l x) K
 | .pick c a b=>(match evA n l c,evA n l a,evA n l b with
  | .bool t,.bool x,.bool y=>K (.bool (if t then x else y))
  | .bool t,.int k x,.int k' y=>(match Nat.beq (ikN k) (ikN k') with
   | true=>K (.int k (if t then x else y))
   | false=>False)
  | _,_,_=>False)
 | .load t x=>(match evA n l x with
  | .ptr id off=>bp aw id fun o=>(match o with
   | .box cs=>wLd (tt.get t) cs off K
   | _=>False)
  | .elt row off=>wLd (tt.get t) row off K
  | _=>False)
 | .fieldAddr t x k=>(match tt.get t with
  | .ag _ _ fs=>bp fs k fun (o,_,_)=>(match evA n l x with
   | .ptr id off=>K (.ptr id (off+o))
   | .elt row off=>K (.elt row (off+o))
   | .aptr id s i off=>K (.aptr id s i (off+o))
   | _=>False)
  | _=>False)
 | .field t x k=>(match tt.get t,evA n l x with
  | .ag _ _ fs,.agg cs=>bp fs k fun (o,_,ft)=>wLd (tt.get ft) cs o K
  | _,_=>False)
 | .binOp op t x y _=>wBin tt op t (evA n l x) (evA n l y) K
 | .unOp op _ x=>(match op,evA n l x with
  | .not,.bool b=>K (.bool (!b))
  | .neg,.int k a=>K (.int k (k.wrap (0 - a)))
  | _,_=>False)
 | .convert s t x=>(match evA n l x with
  | .int _ a=>(match tt.get s,tt.get t with
   | .it _,.it k=>K (.int k (k.wrap a))
   | _,_=>False)
  | _=>False)
 | .makeFunc (.func f) first caps=>(match first.toList with
  | []=>evsC n l caps.toList fun cs=>K (.func f cs)
  | x::xs=>(match caps.toList with
   | []=>evsC n l (x::xs) fun cs=>K (.bnd f cs)
   | _=>False))
 | .build t parts=>(match tt.get t with
  | .ag z _ fs=>fillC n l fs z parts.toList fun cs=>K (.agg cs)
  | _=>False)
 | .extract x k=>(match evA n l x with
  | .tup vs=>bp vs k fun v=>fA v K
  | _=>False)
 | .nilCheck x=>(match evA n l x with
  | .ptr id off=>K (.ptr id off)
  | .elt row off=>K (.elt row off)
  | .aptr id s i off=>K (.aptr id s i off)
  | .func f cs=>K (.func f cs)
  | .bnd f cs=>K (.bnd f cs)
  | _=>False)
 | .call c=>(match c.callee with
  | .builtin b=>wB tt n l b c.args.toList c.argTypes.toList K
  | _=>False)
 | _=>False
theorem wV_ok {op:Op} {K:AV->Prop} (ht:tt.Ok P) (h:wV tt n l aw op K):vcQ P (mkA n l) aw op K:=by
 cases op with
 | move x=>exact c0 rfl (dp h)
 | assign x=>exact cg rfl (dp h)
 | pick c a b =>
  simp only [wV] at h;split at h
  ·rename_i h1 h2 h3;exact nL h1 (by rw [h2,h3];rfl) h
  ·rename_i h1 h2 h3;split at h
   ·rename_i hk;have:=wa hk;subst this;exact nL h1 (by rw [h2,h3];simp only [pickV,if_true]) h
   ·exact h.elim
  ·exact h.elim
 | load t x =>
  simp only [wV] at h;split at h
  ·rename_i h1;obtain ⟨o,h2,h⟩:=bg h;split at h
   ·exact qY h1 h2 (p9 (TT.get_ok ht t) h)
   ·exact h.elim
  ·rename_i h1;exact y9 h1 (p9 (TT.get_ok ht t) h)
  ·exact h.elim
 | fieldAddr t x k =>
  simp only [wV] at h;have hu:=TT.get_ok ht t;split at h
  ·rename_i z m fs h0;rw [h0] at hu;obtain ⟨q,h1,h⟩:=bg h;have hF:=pX hu.2.2 h1;rw [Nat.zero_add] at hF;split at h
   ·rename_i h2;exact xD hF h2 rfl h
   ·rename_i h2;exact xB hF h2 rfl h
   ·rename_i h2;exact xq hF h2 rfl h
   ·exact h.elim
  ·exact h.elim
 | field t x k =>
  simp only [wV] at h;have hu:=TT.get_ok ht t;split at h
  ·rename_i z m fs cs h0 h2;rw [h0] at hu;obtain ⟨q,h1,h⟩:=bg h;have hF:=pX hu.2.2 h1;rw [Nat.zero_add] at hF;exact Co hF h2 (p9 (TT.get_ok ht _) h)
  ·exact h.elim
 | binOp op t x y yt =>
  have:=Cw ht h;simp only [vcQ,ap];exact this
 | unOp op t x =>
  simp only [wV] at h;split at h
  ·rename_i h1;exact v_not h1 h
  ·rename_i h1;exact v_neg h1 h
  ·exact h.elim
 | convert s t x =>
  simp only [wV] at h;split at h
  ·rename_i h1;have hu:=TT.get_ok ht t;have hs:=TT.get_ok ht s;split at h
   ·rename_i h2 h3;rw [h2] at hs;rw [h3] at hu;exact C5 hs.2.2 hu.2.2 h1 h
   ·exact h.elim
  ·exact h.elim
 | makeFunc f first caps =>
  cases f with
  | func f =>
   simp only [wV] at h;split at h
   ·rename_i h1;have:first=#[]:=by cases first;simp at h1;subst h1;rfl
    subst this;exact y4 rfl (lH h)
   ·rename_i x xs h1;split at h
    ·rename_i h2;have h3:first=(x::xs).toArray:=by cases first;simp at h1;subst h1;rfl
     have h4:caps=#[]:=by cases caps;simp at h2;subst h2;rfl
     subst h3 h4;exact v_bnd rfl (lH h)
    ·exact h.elim
  | _=>exact h.elim
 | build t parts =>
  simp only [wV] at h;have hu:=TT.get_ok ht t;split at h
  ·rename_i z m fs h0;rw [h0] at hu;obtain ⟨cs,h1,h2⟩:=tf h;exact uC hu.1.2.2.2.1 hu.2.1 h1 h2
  ·exact h.elim
 | extract x k =>
  simp only [wV] at h;split at h
  ·rename_i h1;obtain ⟨v,h2,h⟩:=bg h;exact zX h1 h2 (dp h)
  ·exact h.elim
 | nilCheck x =>
  simp only [wV] at h;split at h
  ·rename_i h1;exact zn h1 h
  ·rename_i h1;exact Ag h1 h
  ·rename_i h1;exact yF h1 h
  ·rename_i h1;exact y6 h1 h
  ·rename_i h1;exact zp h1 h
  ·exact h.elim
 | call c =>
  obtain ⟨cal,as₀,ts⟩:=c;cases cal with
  | builtin b=>exact wB_ok ht h
  | _=>exact h.elim
 | _=>exact h.elim
theorem C2 {op:Op} {K:AV->Prop} (h:wV tt n l aw op K):isQ (mkA n l) op=true:=by
 cases op with
 | load t x =>
  simp only [wV] at h;simp only [isQ,ap];split at h
  ·rename_i h1;rw [h1]
  ·rename_i h1;rw [h1]
  ·exact h.elim
 | convert s t x =>
  simp only [wV] at h;simp only [isQ,ap];split at h
  ·rename_i h1;rw [h1]
  ·exact h.elim
 | call c =>
  obtain ⟨cal,as₀,ts⟩:=c;cases cal with
  | builtin b =>
   simp only [wV,wB] at h;split at h<;>first | rfl | exact h.elim
  | _=>exact h.elim
 | _=>first | rfl | exact h.elim
theorem OP.wV {o:Oper} {K:AV->List Ob->Prop} (ht:tt.Ok P) (h:wV tt n l aw o.op fun r=>K r aw):OP P N o (mkA n l) aw K:=by
 refine OP.of_vc ?_;have h1:=C2 h;have h2:=wV_ok ht h;obtain ⟨d,op,ty,ps,af,g⟩:=o;have key:eZ P (mkA n l) aw op K:=by unfold eZ;rw [if_pos h1];exact h2
 cases op with
 | call c =>
  obtain ⟨cal,as₀,ts⟩:=c;cases cal with
  | builtin b=>exact key
  | _=>exact (show False from h).elim
 | _=>exact key
def wE (tt:TT) (n:Nat) (l:List (Nat × AV)) (aw:List Ob) (c:Nat) (op:Op) (K:AV->List Ob->Nat->Prop):Prop :=
  match op with
  | .alloc e=>(match (tt.get e).zero with
    | some z=>pushC aw (.box z) fun aw=>K (.ptr c 0) aw (c+1)
    | none=>False)
  | .box _ x=>lS (evA n l x) fun cs=>pushC aw (.box cs) fun aw=>K (.ptr c 0) aw (c+1)
  | .store t x y=>(match evA n l x with
    | .ptr id off=>(match (tt.get t).size with
      | some m=>lS (evA n l y) fun vs=>lenC vs m (bp aw id fun o=>(match o with
        | .box cs=>putC cs off vs fun cs=>setC aw id (.box cs) fun aw=>K .any aw c
        | _=>False))
      | none=>False)
    | _=>False)
  | op=>wV tt n l aw op fun r=>K r aw c
theorem OP.mono {o:Oper} {fr:List AV} {K K':AV->List Ob->Prop} (h:OP P N o fr aw K) (hm:∀ r aw',K r aw'->K' r aw'):OP P N o fr aw K' :=
 ⟨fun st h1 h2 σ w F a hc Kc Q hk=>h.out st h1 h2 σ w F a hc Kc Q fun r aw' σ' w' F' v hK=>hk r aw' σ' w' F' v (hm r aw' hK)⟩
theorem wE_ok {o:Oper} {c:Nat} {K:AV->List Ob->Nat->Prop} (ht:tt.Ok P) (hc:aw.length=c) (h:wE tt n l aw c o.op K):OP P N o (mkA n l) aw fun r aw'=>K r aw' aw'.length:=by
 obtain ⟨d,op,ty,ps,af,g⟩:=o;subst hc;have q:wV tt n l aw op (fun r=>K r aw aw.length)->OP P N ⟨d,op,ty,ps,af,g⟩ (mkA n l) aw fun r aw'=>K r aw' aw'.length:=fun h=>OP.wV ht h
 cases op with
 | alloc e =>
  simp only [wE] at h;split at h
  ·rename_i z hz;have:=iA h;exact CO (TI.zero_ok (TT.get_ok ht e) hz) rfl rfl (by simpa using this)
  ·exact h.elim
 | box e x =>
  obtain ⟨cs,h1,h2⟩:=oU h;have:=iA h2;exact o_box h1 rfl rfl (by simpa using this)
 | store t x y =>
  simp only [wE] at h;split at h
  ·rename_i h1;split at h
   ·rename_i m hm;obtain ⟨vs,h2,h⟩:=oU h;obtain ⟨h3,h⟩:=nh h;obtain ⟨o,h4,h⟩:=bg h;split at h
    ·obtain ⟨h5,h⟩:=Ci h;have h:=eM h;have hs:=TI.size_ok (TT.get_ok ht t) hm;exact yh hs.1 hs.2 h1 h2 h3 h4 (Nat.ble_eq_true_of_le (by omega)) rfl rfl (by simpa [splice] using h)
    ·exact h.elim
   ·exact h.elim
  ·exact h.elim
 | _=>exact q h
def wR (tt:TT) (n:Nat):Nat->List Oper->List (Nat × AV)->List Ob->Nat->(List Oper->List (Nat × AV)->List Ob->Prop)->Prop
 | 0,os,l,aw,_,K=>K os l aw
 | _+1,[],_,_,_,_=>False
 | m+1,o::os,l,aw,c,K=>(match o.guard with
  | none=>wE tt n l aw c o.op fun r aw c=>(match o.dst with
   | some t=>wR tt n m os ((t,r)::l) aw c K
   | none=>wR tt n m os l aw c K)
  | some _=>False)
theorem RS.go (ht:tt.Ok P) {ops:Array Oper} {K:List AV->List Ob->Prop}:∀ {m:Nat} {os:List Oper} {l:List (Nat × AV)} {aw:List Ob} {c:Nat},aw.length=c->wR tt n m os l aw c (fun os l aw=>RS P N ops os K (mkA n l) aw)->RS P N ops os K (mkA n l) aw
 | 0,os,l,aw,c,hc,h=>by cases os<;>exact h
 | _+1,[],_,_,_,_,h=>h.elim
 | m+1,o::os,l,aw,c,hc,h=>by
  simp only [wR] at h;split at h
  ·rename_i hg;refine RS.op hg ((wE_ok ht hc h).mono fun r aw' h=>?_);split at h
   ·rename_i t hd;rw [hd];exact RS.go ht rfl h
   ·rename_i hd;rw [hd];exact RS.go ht rfl h
  ·exact h.elim
def okQ (ops:Array Oper):Array Bool->List Nat->Bool
 | _,[]=>true
 | li,i::is=>Region.free .any ops li i && (Region.ready .any ops li).contains i && (match ops.toList[i]? with
  | some o=>eL o.op && o.guard.isNone
  | none=>false) && okQ ops (li.setIfInBounds i true) is
def lisQ:Array Bool->List Nat->Array Bool
 | li,[]=>li
 | li,i::is=>lisQ (li.setIfInBounds i true) is
def wQ (tt:TT) (n:Nat) (ops:List Oper):List Nat->List (Nat × AV)->List Ob->(List (Nat × AV)->Prop)->Prop
 | [],l,aw,K=>K l
 | i::is,l,aw,K=>bp ops i fun o=>wV tt n l aw o.op fun r=>(match o.dst with
  | some t=>wQ tt n ops is ((t,r)::l) aw K
  | none=>wQ tt n ops is l aw K)
theorem RA.qs (ht:tt.Ok P) {ops:Array Oper} {K:List AV->List Ob->Prop} (hs:Region.noSelect ops=true) {k':Nat}:∀ {is:List Nat} {k:Nat} {li:Array Bool} {l:List (Nat × AV)},k=k' + is.length->okQ ops li is=true ->
  wQ tt n ops.toList is l aw (fun l=>RA P N ops k' (lisQ li is) K (mkA n l) aw)->RA P N ops k li K (mkA n l) aw
 | [],k,li,l,hk,_,h=>by have:k=k':=hk;subst this;exact h
 | i::is,k,li,l,hk,ho,h=>by
  obtain ⟨o,h1,h⟩:=bg h;have h1':ops[i]?=some o:=by simpa using h1
  unfold okQ at ho;rw [h1] at ho;simp only [Bool.and_eq_true] at ho;obtain ⟨⟨⟨ho1,ho2⟩,ho3,ho4⟩,ho5⟩:=ho;have hg:o.guard=none:=by cases hg:o.guard<;>simp_all
  have hk:k=(k' + is.length)+1:=by rw [hk,List.length_cons];omega
  subst hk;refine ⟨fun st e1 e2 σ w F a hc R hR=>?_⟩;obtain ⟨v,r,hrun,hrel,hk⟩:=jR hc ho3 (wV_ok ht h);refine wpAny_take h1' hs ho1 ho2 (fun c a w hp=>hp) (.inl ⟨by simp [Region.wanted,hg],hrun⟩) ?_;have hput:=cI hc hrel o.dst;rw [cE] at hput;refine RA.out ?_ st e1 e2 σ w F _ hput R hR;split at hk
  ·rename_i t hd;rw [hd];exact RA.qs ht hs rfl ho5 hk
  ·rename_i hd;rw [hd];exact RA.qs ht hs rfl ho5 hk
theorem RO.g (ht:tt.Ok P) {ops:Array Oper} {i c:Nat} {K:List AV->List Ob->Prop} (hc:aw.length=c)
  (h:bp ops.toList i fun o=>o.guard=none/\wE tt n l aw c o.op fun r aw c=>(match o.dst with
   | some t=>K (mkA n ((t,r)::l)) aw
   | none=>K (mkA n l) aw)):RO P N ops i K (mkA n l) aw:=by
 obtain ⟨o,h1,hg,h⟩:=bg h
 refine RO.op (by simpa using h1) hg ((wE_ok ht hc h).mono fun r aw' h=>?_)
 split at h
 ·rename_i t hd
  rw [hd];exact h
 ·rename_i hd
  rw [hd];exact h
end
end
section
open Go.RowKit
instance (a:Item):PureCs (aa a):=⟨dB a⟩
instance (a:Node):PureCs (ai a):=⟨jI a⟩
instance (a:Net):PureCs (au a):=⟨tg a⟩
instance (a:Keyed):PureCs (aq a):=⟨ig a⟩
instance (a:Memory):PureCs (am a):=⟨jy a⟩
instance (a:Choice):PureCs (aF a):=⟨jz a⟩
instance (a:State):PureCs (aH a):=⟨q5 a⟩
instance (a:Move):PureCs (aD a):=⟨rJ a⟩
instance (a:Write):PureCs (fE a):=⟨mH a⟩
instance (a:Disk):PureCs (j2 a):=⟨sC a⟩
instance (a:Shop):PureCs (jW a):=⟨sj a⟩
instance (a:Happening):PureCs (ia a):=⟨qp a⟩
instance (a:Ends):PureCs (aL a):=⟨rC a⟩
instance {f:FuncId} {cs:List AV} [h:PureCs cs]:PureC (.func f cs):=⟨zQ _ _ h.out⟩
instance {α:Type} {en:α->List AV} {a:α} {off:Nat} [h:EnP en]:PureC (.elt (en a) off):=⟨ud _ _ (h.out a)⟩
class EnF {α:Type} (en:α->List AV):Prop where
 out:∀ a,(en a).all flat0=true
instance:EnF ah:=⟨fun _=>rfl⟩
instance:EnF enc8:=⟨fun _=>rfl⟩
instance:EnF encU:=⟨fun _=>rfl⟩
instance:EnF bF:=⟨fun _=>rfl⟩
instance:EnF encS:=⟨fun _=>rfl⟩
instance:EnF aa:=⟨fun _=>rfl⟩
instance:EnF aq:=⟨fun _=>rfl⟩
instance:EnF aF:=⟨fun _=>rfl⟩
instance:EnF aD:=⟨fun _=>rfl⟩
instance:EnF fE:=⟨fun _=>rfl⟩
instance:EnF ia:=⟨fun _=>rfl⟩
instance:EnF aL:=⟨fun _=>rfl⟩
class FlatObs (os:List Ob):Prop where
 out:os.all cV=true
instance:FlatObs []:=⟨rfl⟩
instance {α:Type} {en:α->List AV} {xs:List α} {e s:Nat} {os:List Ob} [h:EnF en] [t:FlatObs os]:FlatObs (.arr e s (xs.map en)::os):=⟨A0 (yD h.out) t.out⟩
class OwnV (v:AV):Prop where
 out:(∃ k,v=.ref k)∨∃ vs,v=.tup vs/\∀ x,x∈vs->Pure x∨∃ k,x=.ref k
class OwnVs (vs:List AV):Prop where
 out:∀ x,x∈vs->Pure x∨∃ k,x=.ref k
instance:OwnVs []:=⟨fun x h=>by cases h⟩
instance {k:Nat} {vs:List AV} [t:OwnVs vs]:OwnVs (.ref k::vs):=⟨fun x h=>by
 cases h with
 | head=>exact .inr ⟨_,rfl⟩
 | tail _ h=>exact t.out x h⟩
instance (priority:=low) {v:AV} {vs:List AV} [h:PureC v] [t:OwnVs vs]:OwnVs (v::vs):=⟨fun x hx=>by
 cases hx with
 | head=>exact .inl h.out
 | tail _ hx=>exact t.out x hx⟩
instance {k:Nat}:OwnV (.ref k):=⟨.inl ⟨_,rfl⟩⟩
instance {vs:List AV} [h:OwnVs vs]:OwnV (.tup vs):=⟨.inr ⟨_,rfl,h.out⟩⟩
theorem lB:∀ {es:List AV},(∀ a,a∈es->Pure a)->Pures es
 | [],_=>trivial
 | a::es,h=>⟨h a (.head _),lB fun b hb=>h b (.tail _ hb)⟩
section
variable {P:Program} {N n:Nat} {aw aw':List Ob} {l:List (Nat × AV)} {tt:TT}
def appC {α:Type}:List α->List α->(List α->Prop)->Prop
 | [],bs,K=>K bs
 | a::l,bs,K=>appC l bs fun l=>K (a::l)
theorem lG {α:Type}:∀ {l bs:List α} {K:List α->Prop},appC l bs K->K (l++bs)
 | [],_,_,h=>h
 | a::l,bs,K,h=>lG (l:=l) (K:=fun l=>K (a::l)) h
def nrm0C (aw:List Ob) (a:AV) (K:AV->List Ob->Prop):Prop :=
 match a with
 | .nils=>K (.sl []) aw
 | .ref id=>bp aw id fun o=>(match o with
  | .arr _ _ rows=>setC aw id .dead fun aw=>K (.sl rows) aw
  | _=>False)
 | a=>fA a fun a=>K a aw
theorem sF {a:AV} {K:AV->List Ob->Prop} (h:nrm0C aw a K):K (bY aw a).1 (bY aw a).2:=by
 cases a with
 | nils=>exact h
 | ref id =>
  obtain ⟨o,h1,h⟩:=bg h;split at h
  ·have:=eM h;simpa only [bY,h1] using this
  ·exact h.elim
 | _=>exact h
def nrm0LC:List AV->List Ob->(List AV->List Ob->Prop)->Prop
 | [],aw,K=>K [] aw
 | a::es,aw,K=>nrm0C aw a fun a aw=>nrm0LC es aw fun es aw=>K (a::es) aw
theorem rQ:∀ {es:List AV} {aw:List Ob} {K:List AV->List Ob->Prop},nrm0LC es aw K->K (norm0L aw es).1 (norm0L aw es).2
 | [],aw,K,h=>h
 | a::es,aw,K,h=>rQ (es:=es) (K:=fun es aw=>K (_::es) aw) (sF h)
def nrmC (aw:List Ob) (a:AV) (K:AV->List Ob->Prop):Prop :=
 match a with
 | .agg cs=>nrm0LC cs aw fun cs aw=>K (.agg cs) aw
 | a=>nrm0C aw a K
theorem pB {a:AV} {K:AV->List Ob->Prop} (h:nrmC aw a K):K (norm aw a).1 (norm aw a).2:=by
 cases a with
 | agg cs=>exact rQ (K:=fun cs aw=>K (.agg cs) aw) h
 | _=>exact sF h
def nrmLC:List AV->List Ob->(List AV->List Ob->Prop)->Prop
 | [],aw,K=>K [] aw
 | a::es,aw,K=>nrmC aw a fun a aw=>nrmLC es aw fun es aw=>K (a::es) aw
theorem tP:∀ {es:List AV} {aw:List Ob} {K:List AV->List Ob->Prop},nrmLC es aw K->K (bZ aw es).1 (bZ aw es).2
 | [],aw,K,h=>h
 | a::es,aw,K,h=>tP (es:=es) (K:=fun es aw=>K (_::es) aw) (pB h)
def nrmRC (aw:List Ob) (a:AV) (K:AV->List Ob->Prop):Prop :=
 match a with
 | .tup vs=>nrmLC vs aw fun vs aw=>K (.tup vs) aw
 | a=>nrmC aw a K
theorem tL {a:AV} {K:AV->List Ob->Prop} (h:nrmRC aw a K):K (dT aw a).1 (dT aw a).2:=by
 cases a with
 | tup vs=>exact tP (K:=fun vs aw=>K (.tup vs) aw) h
 | _=>exact pB h
def argC (n:Nat) (l:List (Nat × AV)):List Operand->List Ob->(List AV->List Ob->Prop)->Prop
 | [],aw,K=>K [] aw
 | x::xs,aw,K=>nrmC aw (evA n l x) fun a aw=>argC n l xs aw fun es aw=>K (a::es) aw
theorem vr:∀ {xs:List Operand} {aw:List Ob} {K:List AV->List Ob->Prop},argC n l xs aw K->K (bZ aw (xs.map (evA n l))).1 (bZ aw (xs.map (evA n l))).2
 | [],aw,K,h=>h
 | x::xs,aw,K,h=>vr (xs:=xs) (K:=fun es aw=>K (_::es) aw) (pB h)
def calC (n:Nat) (l:List (Nat × AV)) (aw:List Ob) (f:Operand) (args:List Operand) (g:Nat) (es:List AV) (K:List Ob->Prop):Prop :=
 match evA n l f with
 | .func g' caps=>(match Nat.beq g' g with
  | true=>argC n l args aw fun es' aw'=>es'++caps=es/\K aw'
  | false=>False)
 | _=>False
section
variable {d:Option Tmp} {ty:TypeId} {ps:String} {af:Array Edge} {gd:Option (Nat × Bool)} {K2:AV→List Ob→Prop} {f:Operand} {args:Array Operand} {ts:Array TypeId} {g:FuncId} {es:List AV} {v:AV} {obs:List Ob}
theorem mV {K:List Ob->Prop} (h:calC n l aw f args.toList g es K) (hk:∀ aw1,K aw1->CallK P g es aw aw1 K2):OP P N ⟨d,.call ⟨.value f,args,ts⟩,ty,ps,af,gd⟩ (mkA n l) aw K2:=by
 unfold calC at h;split at h
 ·rename_i g' caps hf;split at h
  ·rename_i hb;have:=Nat.eq_of_beq_eq_true hb;subst this;obtain ⟨h1,h2⟩:=vr h;exact Dg hf rfl rfl (by rw [h1];exact hk _ h2)
  ·exact h.elim
 ·exact h.elim
theorem cD (hc:Fn P g es v) (h:calC n l aw f args.toList g es fun aw1=>K2 v aw1) [hp:PureCs es] [hv:PureC v]:OP P N ⟨d,.call ⟨.value f,args,ts⟩,ty,ps,af,gd⟩ (mkA n l) aw K2 :=
 mV h fun aw1 hK=>k_fn hc (lB hp.out) hv.out hK
theorem cF (hc:Fn P g es v) (h:calC n l aw f args.toList g es fun _=>K2 v aw) [hp:PureCs es] (hv:flat v=true:=by rfl):OP P N ⟨d,.call ⟨.value f,args,ts⟩,ty,ps,af,gd⟩ (mkA n l) aw K2 :=
 mV h fun aw1 hK=>DI hc (lB hp.out) hv hK
theorem cO (c:Nat) (hc:FnO P g es v obs) (h:calC n l aw f args.toList g es fun _=>fA (v.shift c) fun v=>appC aw obs fun aw=>K2 v aw) [hp:PureCs es] [ho:FlatObs obs] (hv:flatR v=true:=by rfl) (hl:aw.length=c:=by rfl) :
  OP P N ⟨d,.call ⟨.value f,args,ts⟩,ty,ps,af,gd⟩ (mkA n l) aw K2 :=
 mV h fun aw1 hK=>by subst hl;exact k_own hc (lB hp.out) hv ho.out (lG (dp (K:=fun v=>appC aw obs fun aw=>K2 v aw) hK))
theorem cQ {α:Type} {en:α->List AV} {xs:List α} {e s:Nat} (c:Nat) (hc:FnO P g es v [.arr e s (xs.map en)]) (h:calC n l aw f args.toList g es fun aw=>fA (v.shift c) fun v=>lenC aw c (appC aw [.arr e s (xs.map en)] fun aw=>K2 v aw)) [hp:PureCs es] [he:EnP en] [ho:OwnV v] :
  OP P N ⟨d,.call ⟨.value f,args,ts⟩,ty,ps,af,gd⟩ (mkA n l) aw K2 :=
 mV h fun aw1 hK=>by
  have h1:=dp (K:=fun v=>lenC aw1 c (appC aw1 [.arr e s (xs.map en)] fun aw=>K2 v aw)) hK;obtain ⟨h2,h3⟩:=nh h1;subst h2;exact Br hc (lB hp.out) he.out ho.out rfl rfl (lG h3)
end
theorem ld_ex {t:Nat} {i:TI} {row:List AV} {off:Nat} {K:AV->Prop} (ht:TOk P t i) (h:wLd i row off K):∃ v,K v/\∀ K':AV->Prop,K' v->bv P t row off K':=by
 have kA:∀ {m:Nat},aK P t=some true->P.cellsOf t=m->(aggC row off m fun cs=>K (.agg cs))->∃ v,K v/\∀ K':AV->Prop,K' v->bv P t row off K':=fun {m} hk hm h=>by
  obtain ⟨h1,h2⟩:=u3 h;refine ⟨_,h2,fun K' hK'=>?_⟩;simp only [bv,hk,hm];exact ⟨h1,hK'⟩
 have k1:aK P t=some false->(bp row off fun c=>fA c K)->∃ v,K v/\∀ K':AV->Prop,K' v->bv P t row off K':=fun hk h=>by
  obtain ⟨c,h1,h2⟩:=bg h;exact ⟨c,dp h2,fun K' hK'=>aE hk h1 hK'⟩
 cases i with
 | no=>exact h.elim
 | ag z m fs=>exact kA ht.1.1 ht.1.2.1 h
 | ar z m=>exact kA ht.1 ht.2.1 h
 | s0=>exact k1 ht.1 h
 | _=>exact k1 ht.1.1 h
def resC (tt:TT) (n:Nat) (l:List (Nat × AV)) (aw:List Ob):List ResultVar->(List AV->Prop)->Prop
 | [],K=>K []
 | .tmp t::rs,K=>fA (evA n l (.tmp t)) fun v=>resC tt n l aw rs fun vs=>K (v::vs)
 | .cell a t::rs,K=>(match evA n l (.tmp a) with
  | .ptr id off=>bp aw id fun o=>(match o with
   | .box cs=>wLd (tt.get t) cs off fun v=>resC tt n l aw rs fun vs=>K (v::vs)
   | _=>False)
  | _=>False)
theorem lL (ht:tt.Ok P):∀ {rs:List ResultVar} {K K':List AV->Prop},(∀ vs,K vs->K' vs)->resC tt n l aw rs K->bE P (mkA n l) aw rs K'
 | [],K,K',hm,h=>dh (hm _ h)
 | .tmp t::rs,K,K',hm,h=>dg rfl (lL ht (K:=fun vs=>K (_::vs)) (fun vs hv=>hm _ hv) (dp h))
 | .cell a t::rs,K,K',hm,h=>by
  unfold resC at h;split at h
  ·rename_i h1;obtain ⟨o,h2,h⟩:=bg h;split at h
   ·obtain ⟨v,h3,h4⟩:=ld_ex (TT.get_ok ht t) h;exact zq h1 h2 h4 (lL ht (K:=fun vs=>K (v::vs)) (fun vs hv=>hm _ hv) h3)
   ·exact h.elim
  ·exact h.elim
theorem rD_c (ht:tt.Ok P) {rs:List ResultVar} {V:AV} (h:resC tt n l aw rs fun vs=>nrmRC aw (b6 vs) fun v _=>v=V) [hV:PureC V]:bE P (mkA n l) aw rs (Ret 0 (fun r aw'=>r=V/\aw'=[]) aw):=by
 refine lL ht (fun vs hv=>?_) h;have h1:=tL hv;exact AF (v:=V) (aw1:=(dT aw (b6 vs)).2) (by rw [<- h1]) hV.out ⟨rfl,rfl⟩
theorem T.rD (ht:tt.Ok P) {Q:Exit->List AV->List Ob->Prop} {rs:List ResultVar} {V:AV} (h:resC tt n l aw rs fun vs=>nrmRC aw (b6 vs) fun v _=>v=V)
  [hq:RetI Q (fun fr aw=>bE P fr aw rs (Ret 0 (fun r aw'=>r=V/\aw'=[]) aw))] [hV:PureC V]:T P N .ret Q (mkA n l) aw :=
 T.rt (R:=fun fr aw=>bE P fr aw rs (Ret 0 (fun r aw'=>r=V/\aw'=[]) aw)) (rD_c ht h)
def gA:Nat->AV->Prop
 | k,a=>match a with
  | .sl rows=>Pure (.sl rows)
  | .elt row off=>Pure (.elt row off)
  | .cst _ | .vw _ _ _ _ _ | .ref2 _ | .aptr2 _ _ | .ifc _ _=>False
  | .agg cs=>(match k with
   | 0=>False
   | k+1=>∀ c,c∈cs->gA k c)
  | .tup cs=>(match k with
   | 0=>False
   | k+1=>∀ c,c∈cs->gA k c)
  | .func _ cs=>(match k with
   | 0=>False
   | k+1=>∀ c,c∈cs->gA k c)
  | .bnd _ cs=>(match k with
   | 0=>False
   | k+1=>∀ c,c∈cs->gA k c)
  | _=>True
class GoodA (k:Nat) (a:AV):Prop where
 out:gA k a
class GoodAs (k:Nat) (es:List AV):Prop where
 out:∀ a,a∈es->gA k a
section
variable {k:Nat}
instance:GoodA k .any:=⟨by unfold gA;trivial⟩
instance {q:IntKind} {x:Int}:GoodA k (.int q x):=⟨by unfold gA;trivial⟩
instance {b:Bool}:GoodA k (.bool b):=⟨by unfold gA;trivial⟩
instance {s:List UInt8}:GoodA k (.str s):=⟨by unfold gA;trivial⟩
instance:GoodA k .nils:=⟨by unfold gA;trivial⟩
instance:GoodA k .nilf:=⟨by unfold gA;trivial⟩
instance:GoodA k .nilp:=⟨by unfold gA;trivial⟩
instance:GoodA k .nili:=⟨by unfold gA;trivial⟩
instance {i:Nat}:GoodA k (.ref i):=⟨by unfold gA;trivial⟩
instance {i o:Nat}:GoodA k (.ptr i o):=⟨by unfold gA;trivial⟩
instance {i s j o:Nat}:GoodA k (.aptr i s j o):=⟨by unfold gA;trivial⟩
instance {i:Nat}:GoodA k (.mpr i):=⟨by unfold gA;trivial⟩
instance {i:Nat}:GoodA k (.np i):=⟨by unfold gA;trivial⟩
instance {i j:Nat}:GoodA k (.iref i j):=⟨by unfold gA;trivial⟩
instance {α:Type} {en:α->List AV} {xs:List α} [h:EnP en]:GoodA k (.sl (xs.map en)):=⟨by unfold gA;exact bL h.out _⟩
instance {α:Type} {en:α->List AV} {a:α} {off:Nat} [h:EnP en]:GoodA k (.elt (en a) off):=⟨by unfold gA;exact ud _ _ (h.out a)⟩
instance:GoodAs k []:=⟨fun a h=>by cases h⟩
instance {a:AV} {es:List AV} [h:GoodA k a] [t:GoodAs k es]:GoodAs k (a::es):=⟨fun b hb=>by
 cases hb with
 | head=>exact h.out
 | tail _ hb=>exact t.out b hb⟩
instance {es:List AV} [h:GoodAs k es]:GoodA (k+1) (.agg es):=⟨by unfold gA;exact h.out⟩
instance {es:List AV} [h:GoodAs k es]:GoodA (k+1) (.tup es):=⟨by unfold gA;exact h.out⟩
instance {f:FuncId} {es:List AV} [h:GoodAs k es]:GoodA (k+1) (.func f es):=⟨by unfold gA;exact h.out⟩
instance {f:FuncId} {es:List AV} [h:GoodAs k es]:GoodA (k+1) (.bnd f es):=⟨by unfold gA;exact h.out⟩
instance (a:Item):GoodAs k (aa a):=by unfold aa;infer_instance
instance (a:Node):GoodAs k (ai a):=by unfold ai;infer_instance
instance (a:Net):GoodAs k (au a):=by unfold au;infer_instance
instance (a:Keyed):GoodAs k (aq a):=by unfold aq;infer_instance
instance (a:Memory):GoodAs k (am a):=by unfold am;infer_instance
instance (a:Choice):GoodAs k (aF a):=by unfold aF;infer_instance
instance (a:State):GoodAs k (aH a):=by unfold aH;infer_instance
instance (a:Move):GoodAs k (aD a):=by unfold aD;infer_instance
instance (a:Write):GoodAs k (fE a):=by unfold fE;infer_instance
instance (a:Disk):GoodAs k (j2 a):=by unfold j2;infer_instance
instance (a:Shop):GoodAs k (jW a):=by unfold jW;infer_instance
instance (a:Happening):GoodAs k (ia a):=by unfold ia;infer_instance
instance (a:Ends):GoodAs k (aL a):=by unfold aL;infer_instance
end
theorem td {ρ:List Nat} {k id i:Nat} (h:ρ[k]?=some id):Ren ρ (.iref k i) (.iref id i):=fun σ w F v hr σ' hσ=>by
 cases hr with
 | iref _ _ a n c vs hg h0=>exact .iref k i a n c vs (by rw [hσ k id h];exact hg) h0
theorem mE:Pure .nilp:=fun σ w F v hr σ'=>by cases hr;exact .nilp
theorem mN:Pure .nili:=fun σ w F v hr σ'=>by cases hr;exact .nili
def mpC (f:AV->AV->(AV->Prop)->Prop):List AV->List AV->(List AV->Prop)->Prop
 | [],_,K=>K []
 | a'::es',es,K=>(match es with
  | []=>False
  | a::es=>f a' a fun b=>mpC f es' es fun bs=>K (b::bs))
def mpA (ρ:List Nat):Nat->AV->AV->(AV->Prop)->Prop
 | k,a',a,K=>match a' with
  | .any=>K a
  | .ref i=>bp ρ i fun i=>K (.ref i)
  | .ptr i o=>bp ρ i fun i=>K (.ptr i o)
  | .aptr i s j o=>bp ρ i fun i=>K (.aptr i s j o)
  | .mpr i=>bp ρ i fun i=>K (.mpr i)
  | .np i=>bp ρ i fun i=>K (.np i)
  | .iref i j=>bp ρ i fun i=>K (.iref i j)
  | .agg cs=>(match k with
   | 0=>False
   | k+1=>(match a with
    | .agg ds=>mpC (mpA ρ k) cs ds fun cs=>K (.agg cs)
    | _=>False))
  | .tup cs=>(match k with
   | 0=>False
   | k+1=>(match a with
    | .tup ds=>mpC (mpA ρ k) cs ds fun cs=>K (.tup cs)
    | _=>False))
  | .func f cs=>(match k with
   | 0=>False
   | k+1=>(match a with
    | .func _ ds=>mpC (mpA ρ k) cs ds fun cs=>K (.func f cs)
    | _=>False))
  | .bnd f cs=>(match k with
   | 0=>False
   | k+1=>(match a with
    | .bnd _ ds=>mpC (mpA ρ k) cs ds fun cs=>K (.bnd f cs)
    | _=>False))
  | a'=>fA a' K
theorem fK {ρ:List Nat} {k:Nat} (ih:∀ {a' a:AV} {K:AV->Prop},mpA ρ k a' a K->∃ b,K b/\(gA k a'->b=a->Ren ρ a' a)):∀ {es' es:List AV} {K:List AV->Prop},mpC (mpA ρ k) es' es K ->
  ∃ bs,K bs/\((∀ a,a∈es'->gA k a)->bs=es->cr ρ es' es)
 | [],es,K,h=>⟨[],h,fun _ e=>by subst e;trivial⟩
 | a'::es',[],K,h=>h.elim
 | a'::es',a::es,K,h=>by
  obtain ⟨b,h1,h2⟩:=ih h;obtain ⟨bs,h3,h4⟩:=fK ih h1;refine ⟨b::bs,h3,fun hg e=>?_⟩;injection e with e1 e2
  exact ⟨h2 (hg _ (.head _)) e1,h4 (fun x hx=>hg x (.tail _ hx)) e2⟩
theorem iP {ρ:List Nat}:∀ {k:Nat} {a' a:AV} {K:AV->Prop},mpA ρ k a' a K->∃ b,K b/\(gA k a'->b=a->Ren ρ a' a):=by
 intro k;induction k with
 | zero =>
  intro a' a K h;cases a' with
  | any=>exact ⟨a,h,fun _ _=>vN⟩
  | ref i=>obtain ⟨j,h1,h2⟩:=bg h;exact ⟨_,h2,fun _ e=>by subst e;exact bW h1⟩
  | ptr i o=>obtain ⟨j,h1,h2⟩:=bg h;exact ⟨_,h2,fun _ e=>by subst e;exact cP h1⟩
  | aptr i s j o=>obtain ⟨j,h1,h2⟩:=bg h;exact ⟨_,h2,fun _ e=>by subst e;exact uw h1 rfl⟩
  | mpr i=>obtain ⟨j,h1,h2⟩:=bg h;exact ⟨_,h2,fun _ e=>by subst e;exact vQ h1⟩
  | np i=>obtain ⟨j,h1,h2⟩:=bg h;exact ⟨_,h2,fun _ e=>by subst e;exact rn_np h1⟩
  | iref i j=>obtain ⟨j,h1,h2⟩:=bg h;exact ⟨_,h2,fun _ e=>by subst e;exact td h1⟩
  | agg cs=>exact h.elim
  | tup cs=>exact h.elim
  | func f cs=>exact h.elim
  | bnd f cs=>exact h.elim
  | int q x=>exact ⟨_,h,fun _ e=>by subst e;exact cS (aX _ _)⟩
  | bool b=>exact ⟨_,h,fun _ e=>by subst e;exact cS (fw _)⟩
  | str s=>exact ⟨_,h,fun _ e=>by subst e;exact cS (gM _)⟩
  | nils=>exact ⟨_,h,fun _ e=>by subst e;exact cS lr⟩
  | nilf=>exact ⟨_,h,fun _ e=>by subst e;exact cS lc⟩
  | nilp=>exact ⟨_,h,fun _ e=>by subst e;exact cS mE⟩
  | nili=>exact ⟨_,h,fun _ e=>by subst e;exact cS mN⟩
  | sl rows=>exact ⟨_,h,fun g e=>by subst e;exact cS (by unfold gA at g;exact g)⟩
  | elt row off=>exact ⟨_,h,fun g e=>by subst e;exact cS (by unfold gA at g;exact g)⟩
  | cst v=>exact ⟨_,h,fun g e=>by unfold gA at g;exact g.elim⟩
  | vw a1 a2 a3 a4 a5=>exact ⟨_,h,fun g e=>by unfold gA at g;exact g.elim⟩
  | ref2 i=>exact ⟨_,h,fun g e=>by unfold gA at g;exact g.elim⟩
  | aptr2 i j=>exact ⟨_,h,fun g e=>by unfold gA at g;exact g.elim⟩
  | ifc t a1=>exact ⟨_,h,fun g e=>by unfold gA at g;exact g.elim⟩
 | succ k ih =>
  intro a' a K h;cases a' with
  | any=>exact ⟨a,h,fun _ _=>vN⟩
  | ref i=>obtain ⟨j,h1,h2⟩:=bg h;exact ⟨_,h2,fun _ e=>by subst e;exact bW h1⟩
  | ptr i o=>obtain ⟨j,h1,h2⟩:=bg h;exact ⟨_,h2,fun _ e=>by subst e;exact cP h1⟩
  | aptr i s j o=>obtain ⟨j,h1,h2⟩:=bg h;exact ⟨_,h2,fun _ e=>by subst e;exact uw h1 rfl⟩
  | mpr i=>obtain ⟨j,h1,h2⟩:=bg h;exact ⟨_,h2,fun _ e=>by subst e;exact vQ h1⟩
  | np i=>obtain ⟨j,h1,h2⟩:=bg h;exact ⟨_,h2,fun _ e=>by subst e;exact rn_np h1⟩
  | iref i j=>obtain ⟨j,h1,h2⟩:=bg h;exact ⟨_,h2,fun _ e=>by subst e;exact td h1⟩
  | agg cs =>
   cases a with
   | agg ds =>
    obtain ⟨bs,h1,h2⟩:=fK (ρ:=ρ) ih h;exact ⟨_,h1,fun g e=>by injection e with e;exact Dq (h2 (by unfold gA at g;exact g) e)⟩
   | _=>exact h.elim
  | tup cs =>
   cases a with
   | tup ds =>
    obtain ⟨bs,h1,h2⟩:=fK (ρ:=ρ) ih h;exact ⟨_,h1,fun g e=>by injection e with e;exact Dz (h2 (by unfold gA at g;exact g) e)⟩
   | _=>exact h.elim
  | func f cs =>
   cases a with
   | func f' ds =>
    obtain ⟨bs,h1,h2⟩:=fK (ρ:=ρ) ih h;exact ⟨_,h1,fun g e=>by injection e with e0 e;subst e0;exact em (h2 (by unfold gA at g;exact g) e)⟩
   | _=>exact h.elim
  | bnd f cs =>
   cases a with
   | bnd f' ds =>
    obtain ⟨bs,h1,h2⟩:=fK (ρ:=ρ) ih h;exact ⟨_,h1,fun g e=>by injection e with e0 e;subst e0;exact Du (h2 (by unfold gA at g;exact g) e)⟩
   | _=>exact h.elim
  | int q x=>exact ⟨_,h,fun _ e=>by subst e;exact cS (aX _ _)⟩
  | bool b=>exact ⟨_,h,fun _ e=>by subst e;exact cS (fw _)⟩
  | str s=>exact ⟨_,h,fun _ e=>by subst e;exact cS (gM _)⟩
  | nils=>exact ⟨_,h,fun _ e=>by subst e;exact cS lr⟩
  | nilf=>exact ⟨_,h,fun _ e=>by subst e;exact cS lc⟩
  | nilp=>exact ⟨_,h,fun _ e=>by subst e;exact cS mE⟩
  | nili=>exact ⟨_,h,fun _ e=>by subst e;exact cS mN⟩
  | sl rows=>exact ⟨_,h,fun g e=>by subst e;exact cS (by unfold gA at g;exact g)⟩
  | elt row off=>exact ⟨_,h,fun g e=>by subst e;exact cS (by unfold gA at g;exact g)⟩
  | cst v=>exact ⟨_,h,fun g e=>by unfold gA at g;exact g.elim⟩
  | vw a1 a2 a3 a4 a5=>exact ⟨_,h,fun g e=>by unfold gA at g;exact g.elim⟩
  | ref2 i=>exact ⟨_,h,fun g e=>by unfold gA at g;exact g.elim⟩
  | aptr2 i j=>exact ⟨_,h,fun g e=>by unfold gA at g;exact g.elim⟩
  | ifc t a1=>exact ⟨_,h,fun g e=>by unfold gA at g;exact g.elim⟩
def gO:Ob->Prop
 | .dead=>True
 | .box cs=>∀ c,c∈cs->gA 3 c
 | .arr _ _ rows=>∀ row,row∈rows->∀ x,x∈row->Pure x
 | .mp ks vs=>∀ c,c∈ks++vs->Pure c
 | .hd _ _=>True
 | .cl _ _ cells=>∀ rows,(Cell.own rows∈cells∨Cell.fz rows∈cells)->∀ row,row∈rows->∀ x,x∈row->Pure x
 | .boxB _ cs=>∀ c,c∈cs->gA 3 c
 | _=>False
class PureK {α:Type} (k:α->AV):Prop where
 out:∀ a,Pure (k a)
instance:PureK kI:=⟨fun _=>aX _ _⟩
instance:PureK kS:=⟨fun _=>gM _⟩
instance:PureK kB:=⟨fun _=>fw _⟩
instance:PureK kU:=⟨fun _=>tH _ (bQ (ls:=[]) trivial)⟩
class GoodO (o:Ob):Prop where
 out:gO o
class GoodOs (os:List Ob):Prop where
 out:∀ o,o∈os->gO o
instance:GoodO .dead:=⟨trivial⟩
instance {cs:List AV} [h:GoodAs 3 cs]:GoodO (.box cs):=⟨h.out⟩
instance {α:Type} {en:α->List AV} {xs:List α} {e s:Nat} [h:EnP en]:GoodO (.arr e s (xs.map en)):=⟨fun row hr x hx=>by obtain ⟨a,_,rfl⟩:=List.mem_map.1 hr;exact h.out a x hx⟩
instance {e s:Nat}:GoodO (.arr e s []):=⟨fun row hr=>by cases hr⟩
instance {e k:Nat}:GoodO (.hd e k):=⟨trivial⟩
instance {t:TypeId} {cs:List AV} [h:GoodAs 3 cs]:GoodO (.boxB t cs):=⟨h.out⟩
instance {α β:Type} {k:α->AV} {k':β->AV} {xs:List α} {ys:List β} [h:PureK k] [h':PureK k']:GoodO (.mp (xs.map k) (ys.map k')):=⟨fun c hc=>by
 rcases List.mem_append.1 hc with hc | hc<;>obtain ⟨a,_,rfl⟩:=List.mem_map.1 hc
 ·exact h.out a
 ·exact h'.out a⟩
instance:GoodOs []:=⟨fun o h=>by cases h⟩
instance {o:Ob} {os:List Ob} [h:GoodO o] [t:GoodOs os]:GoodOs (o::os):=⟨fun b hb=>by
 cases hb with
 | head=>exact h.out
 | tail _ hb=>exact t.out b hb⟩
instance {zs bs:List Ob} [h:GoodOs zs] [t:GoodOs bs]:GoodOs (zs++bs):=⟨fun o ho=>(List.mem_append.1 ho).elim (h.out o) (t.out o)⟩
instance {zs:List Ob} {i:Nat} {o:Ob} [h:GoodOs zs] [t:GoodO o]:GoodOs (zs.set i o):=⟨fun b hb=>(List.mem_or_eq_of_mem_set hb).elim (h.out b) (fun e=>by rw [e];exact t.out)⟩
def mpO (ρ:List Nat) (o' o:Ob) (K:Ob->Prop):Prop :=
 match o' with
 | .dead=>K o
 | .box cs=>(match o with
  | .box ds=>mpC (mpA ρ 3) cs ds fun cs=>K (.box cs)
  | _=>False)
 | .hd e k=>bp ρ k fun k=>K (.hd e k)
 | .arr e s rows=>K (.arr e s rows)
 | .mp ks vs=>K (.mp ks vs)
 | .cl e s cells=>K (.cl e s cells)
 | .boxB t cs=>(match o with
  | .boxB _ ds=>mpC (mpA ρ 3) cs ds fun cs=>K (.boxB t cs)
  | _=>False)
 | _=>False
def mpOs (ρ:List Nat) (aw:List Ob):List Nat->List Ob->(List Ob->List Ob->Prop)->Prop
 | [],[],K=>K [] []
 | id::ids,o'::os',K=>bp aw id fun o=>mpO ρ o' o fun b=>mpOs ρ aw ids os' fun bs os=>K (b::bs) (o::os)
 | _,_,_=>False
theorem DF {ρ:List Nat} {o' o:Ob} {K:Ob->Prop} (h:mpO ρ o' o K):∃ b,K b/\(gO o'->b=o->RenO ρ o' o):=by
 cases o' with
 | dead=>exact ⟨o,h,fun _ _=>trivial⟩
 | box cs =>
  cases o with
  | box ds =>
   obtain ⟨bs,h1,h2⟩:=fK (ρ:=ρ) iP h;exact ⟨_,h1,fun g e=>by injection e with e;exact h2 g e⟩
  | _=>exact h.elim
 | hd e k =>
  obtain ⟨j,h1,h2⟩:=bg h;exact ⟨_,h2,fun _ e=>by subst e;exact ⟨rfl,h1⟩⟩
 | arr e s rows=>exact ⟨_,h,fun g e=>by subst e;exact ⟨rfl,rfl,rfl,fun row hr x hx=>eI (g row hr x hx)⟩⟩
 | mp ks vs=>exact ⟨_,h,fun g e=>by subst e;exact ⟨mP fun c hc=>g c (List.mem_append_left _ hc),mP fun c hc=>g c (List.mem_append_right _ hc)⟩⟩
 | cl e s cells=>exact ⟨_,h,fun g e=>by subst e;exact ⟨rfl,rfl,rfl,g⟩⟩
 | arrU e s rows x=>exact h.elim
 | boxB t cs =>
  cases o with
  | boxB t' ds =>
   obtain ⟨bs,h1,h2⟩:=fK (ρ:=ρ) iP h;exact ⟨_,h1,fun g e=>by injection e with e0 e;exact ⟨e0,h2 g e⟩⟩
  | _=>exact h.elim
theorem iM {ρ:List Nat}:∀ {ids:List Nat} {os':List Ob} {K:List Ob->List Ob->Prop},mpOs ρ aw ids os' K->∃ bs os,K bs os/\((∀ o,o∈os'->gO o)->bs=os->bK ρ aw ids os')
 | [],[],K,h=>⟨[],[],h,fun _ _=>trivial⟩
 | id::ids,o'::os',K,h=>by
  obtain ⟨o,h1,h⟩:=bg h;obtain ⟨b,h2,h3⟩:=DF h;obtain ⟨bs,os,h4,h5⟩:=iM h2;refine ⟨b::bs,o::os,h4,fun hg e=>?_⟩;injection e with e1 e2
  exact ⟨⟨o,h1,h3 (hg _ (.head _)) e1⟩,h5 (fun x hx=>hg x (.tail _ hx)) e2⟩
 | [],_::_,K,h=>h.elim
 | _::_,[],K,h=>h.elim
def mpF (ρ:List Nat):List (Nat × AV)->List (Nat × AV)->(List AV->List AV->Prop)->Prop
 | [],_,K=>K [] []
 | (s,v)::r,l,K=>fA (lkA l s) fun a=>mpA ρ 3 v a fun b=>mpF ρ r l fun bs es=>K (b::bs) (a::es)
class GoodF (l:List (Nat × AV)):Prop where
 out:∀ s v,(s,v)∈l->gA 3 v
instance:GoodF []:=⟨fun s v h=>by cases h⟩
instance {s:Nat} {v:AV} {r:List (Nat × AV)} [h:GoodA 3 v] [t:GoodF r]:GoodF ((s,v)::r):=⟨fun s' v' hb=>by
 cases hb with
 | head=>exact h.out
 | tail _ hb=>exact t.out s' v' hb⟩
theorem pZ {ρ:List Nat}:∀ {l' l:List (Nat × AV)} {K:List AV->List AV->Prop},mpF ρ l' l K->∃ bs es,K bs es/\((∀ s v,(s,v)∈l'->gA 3 v)->bs=es->RenA ρ l' l)
 | [],l,K,h=>⟨[],[],h,fun _ _=>trivial⟩
 | (s,v)::r,l,K,h=>by
  have h:=dp (a:=lkA l s) (K:=fun a=>mpA ρ 3 v a fun b=>mpF ρ r l fun bs es=>K (b::bs) (a::es)) h;obtain ⟨b,h1,h2⟩:=iP h;obtain ⟨bs,es,h3,h4⟩:=pZ h1;refine ⟨b::bs,lkA l s::es,h3,fun hg e=>?_⟩;injection e with e1 e2
  exact ⟨h2 (hg _ _ (.head _)) e1,h4 (fun s v hv=>hg s v (.tail _ hv)) e2⟩
def nilC:List (Nat × TypeId × Nat)->List (Nat × AV)->List Ob->Nat->(List (Nat × AV)->List Ob->Prop)->Prop
 | [],l,aw,_,K=>K l aw
 | (s,e,z)::r,l,aw,c,K=>(match lkA l s with
  | .nils=>pushC aw (.arr e z []) fun aw=>nilC r ((s,.ref c)::l) aw (c+1) K
  | _=>False)
theorem ur:∀ {nl:List (Nat × TypeId × Nat)} {l:List (Nat × AV)} {aw:List Ob} {c:Nat} {K:List (Nat × AV)->List Ob->Prop},aw.length=c->(nl.all fun p=>Nat.blt p.1 n)=true->nilC nl l aw c K->K (nilA n nl l aw).1 (nilA n nl l aw).2
 | [],l,aw,c,K,_,_,h=>h
 | (s,e,z)::r,l,aw,c,K,hc,hn,h=>by
  subst hc;unfold nilC at h;rw [List.all_cons,Bool.and_eq_true] at hn;split at h
  ·rename_i hv;have h:=ur (nl:=r) (by simp) hn.2 (iA h);unfold nilA;simp only [hn.1,hv];exact h
  ·exact h.elim
theorem wk (nl:List (Nat × TypeId × Nat)) (ρ:List Nat) (c:Nat) {l':List (Nat × AV)} (h:nilC nl l aw c fun l aw=>mpF ρ l' l fun bs es=>mpOs ρ aw ρ aw' fun bs' es'=>(bs,bs')=(es,es')) [g:GoodF l'] [g':GoodOs aw'] (hc:aw.length=c:=by rfl) (hn:(nl.all fun p=>Nat.blt p.1 n)=true:=by rfl)
  (h1:ρ.Nodup:=by decide) (h2:∀ k,k<N->ρ[k]?=some k:=by decide):Weak N (mkA n l) aw (mkA n l') aw':=by
 have h:=ur hc hn h
 obtain ⟨bs,es,h,h3⟩:=pZ h
 obtain ⟨bs',es',h,h4⟩:=iM h
 injection h with e1 e2
 exact Weak.mkN nl ρ h1 h2 rfl (h3 g.out e1) (h4 g'.out e2)
def nilVC:List (Nat × TypeId × Nat)->List AV->List Ob->Nat->(List AV->List Ob->Prop)->Prop
 | [],vs,aw,_,K=>K vs aw
 | (s,e,z)::r,vs,aw,c,K=>bp vs s fun v=>(match v with
  | .nils=>setC vs s (.ref c) fun vs=>pushC aw (.arr e z []) fun aw=>nilVC r vs aw (c+1) K
  | _=>False)
theorem tK:∀ {nl:List (Nat × TypeId × Nat)} {vs:List AV} {aw:List Ob} {c:Nat} {K:List AV->List Ob->Prop},aw.length=c->nilVC nl vs aw c K->K (nilify nl vs aw).1 (nilify nl vs aw).2
 | [],vs,aw,c,K,_,h=>h
 | (s,e,z)::r,vs,aw,c,K,hc,h=>by
  subst hc;obtain ⟨v,h1,h⟩:=bg h;split at h
  ·have h:=tK (nl:=r) (by simp) (iA (eM h));unfold nilify;simp only [h1];exact h
  ·exact h.elim
section
variable {Q:Exit→List AV→List Ob→Prop} {rs:List ResultVar} {V:AV} {obs:List Ob} {M:Nat}
theorem rO_c (ht:tt.Ok P) (nl:List (Nat × TypeId × Nat)) (ρ:List Nat) (c:Nat)
  (h:resC tt n l aw rs fun vs=>nilVC nl vs aw c fun vs aw=>fA (b6 vs) fun a=>mpA ρ 3 V a fun b=>mpOs ρ aw ρ obs fun bs es=>(b,bs)=(a,es))
  [g:GoodA 3 V] [g':GoodOs obs] (hc:aw.length=c) (h1:ρ.Nodup) (h2:∀ k,k<M->ρ[k]?=some k):bE P (mkA n l) aw rs (Ret M (fun r aw'=>r=V/\aw'=obs) aw):=by
 refine lL ht (fun vs hv=>?_) h
 have h:=tK hc hv
 have h:=dp (K:=fun a=>mpA ρ 3 V a fun b=>mpOs ρ (nilify nl vs aw).2 ρ obs fun bs es=>(b,bs)=(a,es)) h
 obtain ⟨b,h,h3⟩:=iP h
 obtain ⟨bs,es,h,h4⟩:=iM h
 injection h with e1 e2
 exact di V nl ρ h1 h2 rfl (h3 g.out e1) (h4 g'.out e2) ⟨rfl,rfl⟩
theorem T.rO (ht:tt.Ok P) (nl:List (Nat × TypeId × Nat)) (ρ:List Nat) (c:Nat)
  (h:resC tt n l aw rs fun vs=>nilVC nl vs aw c fun vs aw=>fA (b6 vs) fun a=>mpA ρ 3 V a fun b=>mpOs ρ aw ρ obs fun bs es=>(b,bs)=(a,es))
  [hq:RetI Q (fun fr aw=>bE P fr aw rs (Ret M (fun r aw'=>r=V/\aw'=obs) aw))] [g:GoodA 3 V] [g':GoodOs obs] (hc:aw.length=c:=by rfl) (h1:ρ.Nodup:=by decide) (h2:∀ k,k<M->ρ[k]?=some k:=by decide):T P N .ret Q (mkA n l) aw :=
 T.rt (R:=fun fr aw=>bE P fr aw rs (Ret M (fun r aw'=>r=V/\aw'=obs) aw)) (rO_c ht nl ρ c h hc h1 h2)
theorem rN_c (ht:tt.Ok P) (ρ:List Nat) (h:resC tt n l aw rs fun vs=>nrmRC aw (b6 vs) fun a aw=>mpA ρ 3 V a fun b=>mpOs ρ aw ρ obs fun bs es=>(b,bs)=(a,es))
  [g:GoodA 3 V] [g':GoodOs obs] (h1:ρ.Nodup) (h2:∀ k,k<M->ρ[k]?=some k):bE P (mkA n l) aw rs (Ret M (fun r aw'=>r=V/\aw'=obs) aw):=by
 refine lL ht (fun vs hv=>?_) h
 have h:=tL hv
 obtain ⟨b,h,h3⟩:=iP h
 obtain ⟨bs,es,h,h4⟩:=iM h
 injection h with e1 e2
 exact Ba V ρ rfl h1 h2 (h3 g.out e1) (h4 g'.out e2) ⟨rfl,rfl⟩
theorem T.rN (ht:tt.Ok P) (ρ:List Nat) (h:resC tt n l aw rs fun vs=>nrmRC aw (b6 vs) fun a aw=>mpA ρ 3 V a fun b=>mpOs ρ aw ρ obs fun bs es=>(b,bs)=(a,es))
  [hq:RetI Q (fun fr aw=>bE P fr aw rs (Ret M (fun r aw'=>r=V/\aw'=obs) aw))] [g:GoodA 3 V] [g':GoodOs obs] (h1:ρ.Nodup:=by decide) (h2:∀ k,k<M->ρ[k]?=some k:=by decide):T P N .ret Q (mkA n l) aw :=
 T.rt (R:=fun fr aw=>bE P fr aw rs (Ret M (fun r aw'=>r=V/\aw'=obs) aw)) (rN_c ht ρ h h1 h2)
end
def stD (l:List (Nat × AV)) (d:Option Tmp) (r:AV) (K:List (Nat × AV)->Prop):Prop :=
 match d with
 | some t=>K ((t,r)::l)
 | none=>K l
theorem dR {d:Option Tmp} {r:AV} {K:List (Nat × AV)->Prop} (h:stD l d r K):K (b9 l d r):=by cases d<;>exact h
section
variable {ops:Array Oper} {os:List Oper} {K:List AV→List Ob→Prop} {k:Nat} {li li':Array Bool} {o:Oper} {fr fr':List AV}
theorem yg' (ht:tt.Ok P) (c:Nat) {j t:Nat} {want b:Bool} (hbw:b=want) (h:wE tt n l aw c o.op fun r aw _=>stD l o.dst r fun l=>RS P N ops os K (mkA n l) aw)
  (hg:o.guard=some (j,want)) (hj:(ops[j]?).bind (·.dst)=some t) (hb:evA n l (.tmp t)=.bool b) (hc:aw.length=c):RS P N ops (o::os) K (mkA n l) aw :=
 RS.yes hg hj hb hbw ((wE_ok ht hc h).mono fun r aw' h=>dR (K:=fun l=>RS P N ops os K (mkA n l) aw') h)
theorem oy' (ht:tt.Ok P) {i:Nat} (c:Nat) {j t:Nat} {want b:Bool} (hbw:b=want) (hi:ops[i]?=some o) (h:wE tt n l aw c o.op fun r aw _=>stD l o.dst r fun l=>K (mkA n l) aw)
  (hg:o.guard=some (j,want)) (hj:(ops[j]?).bind (·.dst)=some t) (hb:evA n l (.tmp t)=.bool b) (hc:aw.length=c):RO P N ops i K (mkA n l) aw :=
 RO.yes hi hg hj hb hbw ((wE_ok ht hc h).mono fun r aw' h=>dR (K:=fun l=>K (mkA n l) aw') h)
theorem ry' (ht:tt.Ok P) (i:Nat) {j t:Nat} {want b:Bool} (hbw:b=want) (hi:ops[i]?=some o) (h:wV tt n l aw o.op fun r=>stD l o.dst r fun l=>RA P N ops k (li.setIfInBounds i true) K (mkA n l) aw)
  (hs:Region.noSelect ops=true) (hf:Region.free .any ops li i=true) (hr:(Region.ready .any ops li).contains i=true)
  (hg:o.guard=some (j,want)) (hj:(ops[j]?).bind (·.dst)=some t) (hb:evA n l (.tmp t)=.bool b) (hn:eL o.op=true):RA P N ops (k+1) li K (mkA n l) aw :=
 ⟨fun st e1 e2 σ w F a hc R hR=>by
  obtain ⟨v,r,hrun,hrel,hk⟩:=jR hc hn (wV_ok ht h);refine wpAny_take hi hs hf hr (fun c a w hp=>hp) (.inl ⟨by simp [Region.wanted,hg,gC hc hj hb,hbw],hrun⟩) (RA.out (dR (K:=fun l=>RA P N ops k (li.setIfInBounds i true) K (mkA n l) aw) hk) st e1 e2 σ w F _ ?_ R hR);have:=cI hc hrel o.dst;rwa [cE] at this⟩
open RK in
theorem rL' (ht:tt.Ok P) (D:List Nat) (i:Nat) (hi:ops[i]?=some o) (h:wV tt n l aw o.op fun r=>stD l o.dst r fun l=>RA P N ops k (li.setIfInBounds i true) K (mkA n l) aw)
  (hs:Region.noSelect ops=true) (hf:loadFree ops li D i=true) (hr:(Region.ready .any ops li).contains i=true) (hg:o.guard=none):RA P N ops (k+1) li K (mkA n l) aw :=
 ⟨fun st e1 e2 σ w F a hc R hR=>by
  obtain ⟨v,r,hrun,hrel,hk⟩:=zN hc (wV_ok ht h);refine xK D hi hs hf hr (fun c a w hp=>hp) (.inl ⟨by simp [Region.wanted,hg],hrun⟩) (RA.out (dR (K:=fun l=>RA P N ops k (li.setIfInBounds i true) K (mkA n l) aw) hk) st e1 e2 σ w F _ ?_ R hR);have:=cI hc hrel o.dst;rwa [cE] at this⟩
theorem sO (h:OP P N o (mkA n l) aw fun r aw=>stD l o.dst r fun l=>RS P N ops os K (mkA n l) aw) (hg:o.guard=none:=by rfl):RS P N ops (o::os) K (mkA n l) aw :=
 RS.op hg (h.mono fun r aw' h=>dR (K:=fun l=>RS P N ops os K (mkA n l) aw') h)
theorem sQ (h:vcQ P (mkA n l) aw o.op fun r=>stD l o.dst r fun l=>RS P N ops os K (mkA n l) aw) (hg:o.guard=none:=by rfl) (hq:iJ o.op=true:=by rfl):RS P N ops (o::os) K (mkA n l) aw :=
 sO (OP.q (K2:=fun r aw=>stD l o.dst r fun l=>RS P N ops os K (mkA n l) aw) hq h) hg
theorem yO {j t:Nat} {want b:Bool} (hbw:b=want) (h:OP P N o (mkA n l) aw fun r aw=>stD l o.dst r fun l=>RS P N ops os K (mkA n l) aw) (hg:o.guard=some (j,want):=by rfl) (hj:(ops[j]?).bind (·.dst)=some t:=by rfl) (hb:evA n l (.tmp t)=.bool b:=by rfl) :
 RS P N ops (o::os) K (mkA n l) aw:=RS.yes hg hj hb hbw (h.mono fun r aw' h=>dR (K:=fun l=>RS P N ops os K (mkA n l) aw') h)
theorem yQ {j t:Nat} {want b:Bool} (hbw:b=want) (h:vcQ P (mkA n l) aw o.op fun r=>stD l o.dst r fun l=>RS P N ops os K (mkA n l) aw) (hg:o.guard=some (j,want):=by rfl) (hj:(ops[j]?).bind (·.dst)=some t:=by rfl) (hb:evA n l (.tmp t)=.bool b:=by rfl) (hq:iJ o.op=true:=by rfl) :
 RS P N ops (o::os) K (mkA n l) aw:=yO hbw (OP.q (K2:=fun r aw=>stD l o.dst r fun l=>RS P N ops os K (mkA n l) aw) hq h) hg hj hb
theorem sN {j t:Nat} {want b:Bool} (hbw:b=!want) (h:stD l o.dst (.tup []) fun l=>RS P N ops os K (mkA n l) aw) (hg:o.guard=some (j,want):=by rfl) (hj:(ops[j]?).bind (·.dst)=some t:=by rfl) (hb:evA n l (.tmp t)=.bool b:=by rfl) :
 RS P N ops (o::os) K (mkA n l) aw:=RS.no hg hj hb hbw (dR (K:=fun l=>RS P N ops os K (mkA n l) aw) h)
theorem oO {i:Nat} (hi:ops[i]?=some o) (h:OP P N o (mkA n l) aw fun r aw=>stD l o.dst r fun l=>K (mkA n l) aw) (hg:o.guard=none:=by rfl):RO P N ops i K (mkA n l) aw :=
 RO.op hi hg (h.mono fun r aw' h=>dR (K:=fun l=>K (mkA n l) aw') h)
theorem r0 (i:Nat) (hi:ops[i]?=some o) (h:vcQ P (mkA n l) aw o.op fun r=>stD l o.dst r fun l=>RA P N ops k (li.setIfInBounds i true) K (mkA n l) aw) (hs:Region.noSelect ops=true:=by decide +kernel) (hf:Region.free .any ops li i=true:=by decide +kernel)
  (hr:(Region.ready .any ops li).contains i=true:=by decide +kernel) (hg:o.guard=none:=by rfl) (hn:eL o.op=true:=by rfl):RA P N ops (k+1) li K (mkA n l) aw :=
 ⟨fun st e1 e2 σ w F a hc R hR=>by
  obtain ⟨v,r,hrun,hrel,hk⟩:=jR hc hn h;refine wpAny_take hi hs hf hr (fun c a w hp=>hp) (.inl ⟨by simp [Region.wanted,hg],hrun⟩) (RA.out (dR (K:=fun l=>RA P N ops k (li.setIfInBounds i true) K (mkA n l) aw) hk) st e1 e2 σ w F _ ?_ R hR);have:=cI hc hrel o.dst;rwa [cE] at this⟩
theorem r1 (i:Nat) (hi:ops[i]?=some o) {j t:Nat} {want b:Bool} (hbw:b=want) (h:vcQ P (mkA n l) aw o.op fun r=>stD l o.dst r fun l=>RA P N ops k (li.setIfInBounds i true) K (mkA n l) aw) (hs:Region.noSelect ops=true:=by decide +kernel) (hf:Region.free .any ops li i=true:=by decide +kernel)
  (hr:(Region.ready .any ops li).contains i=true:=by decide +kernel) (hg:o.guard=some (j,want):=by rfl) (hj:(ops[j]?).bind (·.dst)=some t:=by rfl) (hb:evA n l (.tmp t)=.bool b:=by rfl) (hn:eL o.op=true:=by rfl):RA P N ops (k+1) li K (mkA n l) aw :=
 ⟨fun st e1 e2 σ w F a hc R hR=>by
  obtain ⟨v,r,hrun,hrel,hk⟩:=jR hc hn h;refine wpAny_take hi hs hf hr (fun c a w hp=>hp) (.inl ⟨by simp [Region.wanted,hg,gC hc hj hb,hbw],hrun⟩) (RA.out (dR (K:=fun l=>RA P N ops k (li.setIfInBounds i true) K (mkA n l) aw) hk) st e1 e2 σ w F _ ?_ R hR);have:=cI hc hrel o.dst;rwa [cE] at this⟩
theorem r2 (i:Nat) (hi:ops[i]?=some o) {j t:Nat} {want b:Bool} (hbw:b=!want) (h:stD l o.dst (.tup []) fun l=>RA P N ops k (li.setIfInBounds i true) K (mkA n l) aw) (hs:Region.noSelect ops=true:=by decide +kernel) (hf:Region.free .any ops li i=true:=by decide +kernel)
  (hr:(Region.ready .any ops li).contains i=true:=by decide +kernel) (hg:o.guard=some (j,want):=by rfl) (hj:(ops[j]?).bind (·.dst)=some t:=by rfl) (hb:evA n l (.tmp t)=.bool b:=by rfl):RA P N ops (k+1) li K (mkA n l) aw :=
 RA.t2 hi hs hf hr rfl hg hj hb hbw (dR (K:=fun l=>RA P N ops k (li.setIfInBounds i true) K (mkA n l) aw) h)
theorem r3 (i:Nat) (hi:ops[i]?=some o) {j t:Nat} {want:Bool} (h:stD l o.dst (.tup []) fun l=>RA P N ops k (li.setIfInBounds i true) K (mkA n l) aw) (hs:Region.noSelect ops=true:=by decide +kernel) (hf:Region.free .any ops li i=true:=by decide +kernel)
  (hr:(Region.ready .any ops li).contains i=true:=by decide +kernel) (hg:o.guard=some (j,want):=by rfl) (hj:(ops[j]?).bind (·.dst)=some t:=by rfl) (hb:evA n l (.tmp t)=.tup []:=by rfl):RA P N ops (k+1) li K (mkA n l) aw :=
 RA.t3 hi hs hf hr rfl hg hj hb (dR (K:=fun l=>RA P N ops k (li.setIfInBounds i true) K (mkA n l) aw) h)
def nfL (f:AV->(AV->Prop)->Prop):List AV->(List AV->Prop)->Prop
 | [],K=>K []
 | a::es,K=>f a fun a=>nfL f es fun es=>K (a::es)
def nfA:Nat->AV->(AV->Prop)->Prop
 | 0,a,K=>fA a K
 | k+1,a,K=>(match a with
  | .agg cs=>nfL (nfA k) cs fun cs=>K (.agg cs)
  | .tup cs=>nfL (nfA k) cs fun cs=>K (.tup cs)
  | .func f cs=>nfL (nfA k) cs fun cs=>K (.func f cs)
  | .bnd f cs=>nfL (nfA k) cs fun cs=>K (.bnd f cs)
  | a=>fA a K)
theorem j3 {f:AV->(AV->Prop)->Prop} (hf:∀ {a:AV} {K:AV->Prop},f a K->K a):∀ {es:List AV} {K:List AV->Prop},nfL f es K->K es
 | [],K,h=>h
 | a::es,K,h=>j3 hf (es:=es) (K:=fun es=>K (a::es)) (hf h)
theorem wg:∀ {k:Nat} {a:AV} {K:AV->Prop},nfA k a K->K a:=by
 intro k;induction k with
 | zero=>exact fun h=>dp h
 | succ k ih =>
  intro a K h;cases a<;>first | exact dp h | exact j3 ih (K:=fun cs=>K (.agg cs)) h | exact j3 ih (K:=fun cs=>K (.tup cs)) h | exact j3 ih (K:=fun cs=>K (.func _ cs)) h | exact j3 ih (K:=fun cs=>K (.bnd _ cs)) h
def nfF (g:AV->AV):List (Nat × AV)->(List (Nat × AV)->Prop)->Prop
 | [],K=>K []
 | (s,v)::r,K=>nfA 2 (g v) fun v=>nfF g r fun r=>K ((s,v)::r)
theorem wj {g:AV->AV}:∀ {l:List (Nat × AV)} {K:List (Nat × AV)->Prop},nfF g l K->K (l.map fun p=>(p.1,g p.2))
 | [],K,h=>h
 | (s,v)::r,K,h=>wj (l:=r) (K:=fun r=>K ((s,g v)::r)) (wg (K:=fun v=>nfF g r fun r=>K ((s,v)::r)) h)
def nfO (g:AV->AV):List Ob->(List Ob->Prop)->Prop
 | [],K=>K []
 | o::os,K=>(match o with
  | .box cs=>nfL (nfA 1) (cs.map g) fun cs=>nfO g os fun os=>K (.box cs::os)
  | o=>nfO g os fun os=>K (o::os))
theorem qd {id:Nat} {rows:List (List AV)}:∀ {os:List Ob} {K:List Ob->Prop},nfO (fz2 id rows) os K->K (os.map (fzOb id rows))
 | [],K,h=>h
 | o::os,K,h=>by
  cases o with
  | box cs=>exact qd (os:=os) (K:=fun os=>K (.box (cs.map (fz2 id rows))::os)) (j3 wg (K:=fun cs=>nfO (fz2 id rows) os fun os=>K (.box cs::os)) h)
  | _=>exact qd (os:=os) (K:=fun os=>K (_::os)) h
def fzC (aw:List Ob) (l:List (Nat × AV)) (id:Nat) (K:List (Nat × AV)->List Ob->Prop):Prop :=
 bp aw id fun o=>(match o with
  | .arr _ _ rows=>nfF (fzV id rows) l fun l=>setC aw id .dead fun aw=>nfO (fz2 id rows) aw fun aw=>K l aw
  | _=>False)
theorem nI {id:Nat} {K:List (Nat × AV)->List Ob->Prop} (h:fzC aw l id K):∃ e s rows,aw[id]?=some (.arr e s rows)/\K (fzA id rows l) ((aw.set id .dead).map (fzOb id rows)):=by
 obtain ⟨o,h1,h⟩:=bg h;split at h
 ·exact ⟨_,_,_,h1,qd (eM (wj h))⟩
 ·exact h.elim
theorem T.fC (id:Nat) {c:Code} {Q:Exit->List AV->List Ob->Prop} (h:fzC aw l id fun l aw=>T P N c Q (mkA n l) aw):T P N c Q (mkA n l) aw:=by
 obtain ⟨e,s,rows,h1,h2⟩:=nI h;exact T.fz id h1 rfl rfl h2
theorem RS.fC (id:Nat) (h:fzC aw l id fun l aw=>RS P N ops os K (mkA n l) aw):RS P N ops os K (mkA n l) aw:=by
 obtain ⟨e,s,rows,h1,h2⟩:=nI h;exact RS.fz id h1 rfl rfl h2
theorem RA.fC (id:Nat) (h:fzC aw l id fun l aw=>RA P N ops k li K (mkA n l) aw):RA P N ops k li K (mkA n l) aw:=by
 obtain ⟨e,s,rows,h1,h2⟩:=nI h;exact RA.fz id h1 rfl rfl h2
theorem RO.fC {i:Nat} (id:Nat) (h:fzC aw l id fun l aw=>RO P N ops i K (mkA n l) aw):RO P N ops i K (mkA n l) aw:=by
 obtain ⟨e,s,rows,h1,h2⟩:=nI h;exact RO.fz id h1 rfl rfl h2
theorem RA.jn (k':Nat) (li':Array Bool) {fr':List AV} {aw':List Ob} (h2:RA P N ops k' li' K fr' aw'->RA P N ops k li K fr aw) (h:RA P N ops k' li' K fr' aw'):RA P N ops k li K fr aw:=h2 h
theorem raE (h:RA P N ops k li' K fr aw) (hl:li=li':=by decide +kernel):RA P N ops k li K fr aw:=by subst hl;exact h
theorem BX {l':List (Nat × AV)} (h:l'.map (fun p=>lkA l p.1)=l'.map (fun p=>lkA l' p.1)) (t:Nat):lkA l' t=.any∨lkA l' t=lkA l t:=by
 have key:∀ (q:List (Nat × AV)),q.map (fun p=>lkA l p.1)=q.map (fun p=>lkA l' p.1)->lkA q t=.any∨lkA l' t=lkA l t:=by
  intro q;induction q with
  | nil=>intro _;exact .inl rfl
  | cons p q ih =>
   intro h;simp only [List.map_cons,List.cons.injEq] at h;obtain ⟨s,v⟩:=p;rw [fD];by_cases e:s=t
   ·subst e;exact .inr h.1.symm
   ·rw [if_neg e];exact ih h.2
 exact key l' h
theorem tF {l':List (Nat × AV)} {st:St} {σ:List Value} {w:World} {F:Nat->Prop} {a:Act} (h:l'.map (fun p=>lkA l p.1)=l'.map (fun p=>lkA l' p.1)) (hc:Cur st (mkA n l) aw σ w F a):Cur st (mkA n l') aw σ w F a:=by
 refine ⟨hc.sim,⟨⟨?_,fun j x v hx hv=>?_⟩,hc.fr.2⟩,hc.mv,hc.ds⟩
 ·have:=hc.fr.1.1;rw [iG] at this ⊢;exact this
 ·rw [dP] at hx;split at hx
  ·rename_i hj;cases hx;rcases BX h j with e | e
   ·rw [e];exact .any _
   ·rw [e];exact hc.fr.1.2 j _ v (by rw [dP,if_pos hj]) hv
  ·cases hx
def inN:List Nat->Nat->Bool
 | [],_=>false
 | a::l,s=>match Nat.beq a s with
  | true=>true
  | false=>inN l s
def ddA:List Nat->List (Nat × AV)->List (Nat × AV)
 | _,[]=>[]
 | q,(s,v)::r=>match inN q s with
  | true=>ddA q r
  | false=>(s,v)::ddA (s::q) r
theorem dd_lk:∀ (l:List (Nat × AV)) (q:List Nat) (t:Nat),inN q t=false->lkA (ddA q l) t=lkA l t
 | [],_,_,_=>rfl
 | (s,v)::r,q,t,h=>by
  unfold ddA;cases hs:inN q s with
  | true =>
   simp only;rw [dd_lk r q t h];cases hb:Nat.beq s t with
   | true=>rw [Nat.eq_of_beq_eq_true hb,h] at hs;cases hs
   | false=>rw [lkA,hb]
  | false =>
   simp only;rw [lkA,lkA];cases hb:Nat.beq s t with
   | true=>rfl
   | false=>exact dd_lk r (s::q) t (by unfold inN;rw [hb];exact h)
theorem pO {x:Nat × AV}:∀ {l:List (Nat × AV)} {q:List Nat},x∈ddA q l->x∈l
 | [],_,h=>h
 | (s,v)::r,q,h=>by
  unfold ddA at h;split at h
  ·exact .tail _ (pO h)
  ·rcases List.mem_cons.1 h with rfl | h
   ·exact .head _
   ·exact .tail _ (pO h)
theorem dd_mk (n:Nat) (l:List (Nat × AV)):mkA n (ddA [] l)=mkA n l:=List.map_congr_left fun t _=>dd_lk l [] t rfl
theorem raT {l':List (Nat × AV)} (h:RA P N ops k li' K (mkA n l') aw) (hs:l'.map (fun p=>lkA l p.1)=l'.map (fun p=>lkA l' p.1):=by rfl) (hl:li=li':=by decide +kernel):RA P N ops k li K (mkA n l) aw:=by
 subst hl;exact ⟨fun st h1 h2 σ w F a hc=>h.out st h1 h2 σ w F a (tF hs hc)⟩
theorem raV {l':List (Nat × AV)} {aw1:List Ob} (h:RA P N ops k li' K (mkA n l') aw1) (ρ:List Nat) (hw:mpF ρ (ddA [] l') l fun bs es=>mpOs ρ aw ρ aw1 fun bs' es'=>(bs,bs')=(es,es')) [g:GoodF l'] [g':GoodOs aw1]
  (h1:ρ.Nodup:=by decide) (h2:∀ k,k<N->ρ[k]?=some k:=by decide) (hl:li=li':=by decide +kernel):RA P N ops k li K (mkA n l) aw:=by
 subst hl
 obtain ⟨bs,es,hw,h3⟩:=pZ hw
 obtain ⟨bs',es',hw,h4⟩:=iM hw
 injection hw with e1 e2
 rw [<- dd_mk] at h
 exact RA.weakR h (Weak.mk ρ h1 h2 (h3 (fun s v hv=>g.out s v (pO hv)) e1) (h4 g'.out e2))
theorem T.su {l':List (Nat × AV)} {c:Code} {Q:Exit->List AV->List Ob->Prop} (h:T P N c Q (mkA n l') aw) (hs:l'.map (fun p=>lkA l p.1)=l'.map (fun p=>lkA l' p.1):=by rfl):T P N c Q (mkA n l) aw:=⟨fun st h1 h2 σ w F a hc=>h.out st h1 h2 σ w F a (tF hs hc)⟩
end
section
variable {Q:Exit→List AV→List Ob→Prop} {c1 c2:Code} {x:Operand}
theorem T.ci {α:Type} {b:Bool} {u v:Option α} {r:α} (h:(if b=true then u else v)=some r) (hx:evA n l x=.bool b) (ht:b=true->u=some r->T P N c1 Q (mkA n l) aw) (he:b=false->v=some r->T P N c2 Q (mkA n l) aw):T P N (.cond x c1 c2) Q (mkA n l) aw :=
 T.cond hx (fun hb=>ht hb (bT h hb)) (fun hb=>he hb (bR h hb))
def iniC:Nat->List AV->(List (Nat × AV)->Prop)->Prop
 | _,[],K=>K []
 | k,a::es,K=>iniC (k+1) es fun l=>K ((k,a)::l)
theorem uu:∀ {es:List AV} {k:Nat} {K:List (Nat × AV)->Prop},iniC k es K->K (initA k es)
 | [],k,K,h=>h
 | a::es,k,K,h=>uu (es:=es) (K:=fun l=>K ((k,a)::l)) h
end
end
theorem By {P:Program} {N n:Nat} {aw:List Ob} {l:List (Nat × AV)} {d:Option Tmp} {ty:TypeId} {ps:String} {af:Array Edge} {g:Option (Nat × Bool)} {K2:AV->List Ob->Prop} {f:Operand} {args:Array Operand} {ts:Array TypeId} {h:FuncId} {caps ac as0:List AV} {aw0 aw1 aw2:List Ob} {v v':AV} {n0 n1:Nat} (ρ:List Nat)
  (hf:evA n l f=.func h caps) (ha:args.toList.map (evA n l)++caps=ac) (hC:FnX P h as0 aw0 v aw1) (hW:bK ρ aw ρ aw0) (hA:cr ρ as0 ac)
  (hv:RenM (bS ρ n0 n1) v' v) (hB:BackW (bS ρ n0 n1) ρ aw aw1 0 aw2) (hK:K2 v' aw2) (hn0:aw.length=n0:=by rfl) (hn1:aw1.length=n1:=by rfl) (hnd:ρ.Nodup:=by decide) (hlen:aw2.length+ρ.length=n0+n1:=by rfl):OP P N ⟨d,.call ⟨.value f,args,ts⟩,ty,ps,af,g⟩ (mkA n l) aw K2 :=
 vh ρ hn0 hn1 hf ha hnd hW hA hC hlen hv hB hK
end
section
open Go.RowKit
inductive Fr where
 | sq (y:Code)
 | bk (id:Nat)
 | kt (K:List AV->List Ob->Prop)
section
variable {P:Program} {N n:Nat} {aw:List Ob} {l:List (Nat × AV)} {tt:TT} {Q:Exit→List AV→List Ob→Prop}
def qs (P:Program) (N:Nat):List Fr->(Exit->List AV->List Ob->Prop)->Exit->List AV->List Ob->Prop
 | [],Q=>Q
 | .sq y::st,Q=>thenA (T P N y (qs P N st Q)) (qs P N st Q)
 | .bk id::st,Q=>iC id (qs P N st Q)
 | .kt K::st,Q=>thenA K (qs P N st Q)
theorem nF:∀ {st:List Fr} {fr:List AV} {aw:List Ob},Q .ret fr aw->qs P N st Q .ret fr aw
 | [],_,_,h=>h
 | .sq y::st,_,_,h=>nF (st:=st) h
 | .bk id::st,_,_,h=>nF (st:=st) h
 | .kt K::st,_,_,h=>nF (st:=st) h
instance {st:List Fr} {R:List AV->List Ob->Prop} [h:RetI Q R]:RetI (qs P N st Q) R:=⟨fun fr aw hr=>nF (h.out fr aw hr)⟩
def popN (Q:Exit->List AV->List Ob->Prop) (fr:List AV) (aw:List Ob) (K:Code->List Fr->Prop):List Fr->Prop
 | []=>Q .normal fr aw
 | .sq y::st=>K y st
 | .bk _::st=>popN Q fr aw K st
 | .kt K'::_=>K' fr aw
def popE (Q:Exit->List AV->List Ob->Prop) (fr:List AV) (aw:List Ob) (K:Code->List Fr->Prop) (id:Nat):List Fr->Prop
 | []=>Q (.exit id) fr aw
 | .sq _::st=>popE Q fr aw K id st
 | .bk i::st=>(match Nat.beq id i with
  | true=>popN Q fr aw K st
  | false=>popE Q fr aw K id st)
 | .kt _::st=>popE Q fr aw K id st
theorem nk {fr:List AV} {K:Code->List Fr->Prop} (hK:∀ y st,K y st->T P N y (qs P N st Q) fr aw):∀ {st:List Fr},popN Q fr aw K st->qs P N st Q .normal fr aw
 | [],h=>h
 | .sq y::st,h=>hK y st h
 | .bk _::st,h=>nk hK (st:=st) h
 | .kt _::_,h=>h
theorem nC {fr:List AV} {K:Code->List Fr->Prop} (hK:∀ y st,K y st->T P N y (qs P N st Q) fr aw) {id:Nat}:∀ {st:List Fr},popE Q fr aw K id st->qs P N st Q (.exit id) fr aw
 | [],h=>h
 | .sq y::st,h=>nC hK (st:=st) h
 | .bk i::st,h=>by
  show if id=i then qs P N st Q .normal fr aw else qs P N st Q (.exit id) fr aw
  simp only [popE] at h;cases hb:Nat.beq id i
  ·rw [hb] at h;rw [if_neg (fun e=>by subst e;rw [Nat.beq_refl] at hb;cases hb)];exact nC hK (st:=st) h
  ·rw [hb] at h;rw [if_pos (Nat.eq_of_beq_eq_true hb)];exact nk hK h
 | .kt _::st,h=>nC hK (st:=st) h
inductive MS where
 | cd (c:Code)
 | op (ops:Array Oper) (os:List Oper)
def dsC (l:List (Nat × AV)) (d:Option Tmp) (r:AV) (K:List (Nat × AV)->Prop):Prop :=
 match d with
 | some t=>K ((t,r)::l)
 | none=>K l
def wP (pl:Bool) (tt:TT) (n:Nat) (l:List (Nat × AV)) (aw:List Ob) (k:Nat) (op:Op) (K:AV->List Ob->Nat->Prop):Prop :=
  match pl with
  | false=>wE tt n l aw k op K
  | true=>(match op with
    | .pick c a b=>(match evA n l c with
      | .bool t=>(match t with
        | true=>fA (evA n l a) fun r=>K r aw k
        | false=>fA (evA n l b) fun r=>K r aw k)
      | _=>False)
    | op=>wE tt n l aw k op K)
theorem wP_ok {pl:Bool} {o:Oper} {k:Nat} {K:AV->List Ob->Nat->Prop} (ht:tt.Ok P) (hk:aw.length=k) (h:wP pl tt n l aw k o.op K):OP P N o (mkA n l) aw fun r aw'=>K r aw' aw'.length:=by
 cases pl with
 | false=>exact wE_ok ht hk h
 | true =>
  have q:wE tt n l aw k o.op K->OP P N o (mkA n l) aw fun r aw'=>K r aw' aw'.length:=fun h=>wE_ok ht hk h
  obtain ⟨d,op,ty,ps,af,g⟩:=o;cases op with
  | pick c a b =>
   simp only [wP] at h;subst hk;split at h
   ·rename_i t hc;split at h
    ·exact OP.q rfl (aY hc rfl rfl (dp (K:=fun r=>K r aw aw.length) h))
    ·exact OP.q rfl (aP hc rfl rfl (dp (K:=fun r=>K r aw aw.length) h))
   ·exact h.elim
  | _=>exact q h
def gx (pl:Bool) (tt:TT) (P:Program) (N n:Nat) (Q:Exit->List AV->List Ob->Prop):Nat->MS->List Fr->List (Nat × AV)->List Ob->Nat->Prop
  | 0,.cd c,st,l,aw,_=>T P N c (qs P N st Q) (mkA n l) aw
  | 0,.op ops os,st,l,aw,_=>RS P N ops os (qs P N st Q .normal) (mkA n l) aw
  | f + 1,.cd c,st,l,aw,k=>(match c with
    | .seq x y=>gx pl tt P N n Q f (.cd x) (.sq y::st) l aw k
    | .skip=>popN Q (mkA n l) aw (fun y st=>gx pl tt P N n Q f (.cd y) st l aw k) st
    | .block id x=>gx pl tt P N n Q f (.cd x) (.bk id::st) l aw k
    | .exit id=>popE Q (mkA n l) aw (fun y st=>gx pl tt P N n Q f (.cd y) st l aw k) id st
    | .cond x a b=>(match evA n l x with
      | .bool v=>(match v with
        | true=>gx pl tt P N n Q f (.cd a) st l aw k
        | false=>gx pl tt P N n Q f (.cd b) st l aw k)
      | _=>False)
    | .region _ ops d=>(match d with
      | false=>gx pl tt P N n Q f (.op ops ops.toList) st l aw k
      | true=>False)
    | _=>False)
  | f + 1,.op ops os,st,l,aw,k=>(match os with
    | []=>popN Q (mkA n l) aw (fun y st=>gx pl tt P N n Q f (.cd y) st l aw k) st
    | o :: os => (match o.guard with
      | none=>wP pl tt n l aw k o.op fun r aw k=>dsC l o.dst r fun l=>gx pl tt P N n Q f (.op ops os) st l aw k
      | some (j,want)=>bp ops.toList j fun q=>(match q.dst with
        | none=>False
        | some t=>(match evA n l (.tmp t) with
          | .bool b=>(match b with
            | true=>(match want with
              | true=>wP pl tt n l aw k o.op fun r aw k=>dsC l o.dst r fun l=>gx pl tt P N n Q f (.op ops os) st l aw k
              | false=>dsC l o.dst (.tup []) fun l=>gx pl tt P N n Q f (.op ops os) st l aw k)
            | false=>(match want with
              | false=>wP pl tt n l aw k o.op fun r aw k=>dsC l o.dst r fun l=>gx pl tt P N n Q f (.op ops os) st l aw k
              | true=>dsC l o.dst (.tup []) fun l=>gx pl tt P N n Q f (.op ops os) st l aw k))
          | .tup vs=>(match vs with
            | []=>dsC l o.dst (.tup []) fun l=>gx pl tt P N n Q f (.op ops os) st l aw k
            | _::_=>False)
          | _=>False))))
theorem Dn {d:Option Tmp} {r:AV} {K:List (Nat × AV)->Prop} (h:dsC l d r K):K (b9 l d r):=by cases d<;>exact h
theorem dV {pl:Bool} (ht:tt.Ok P):∀ {f:Nat} {ms:MS} {st:List Fr} {l:List (Nat × AV)} {aw:List Ob} {k:Nat},aw.length=k->gx pl tt P N n Q f ms st l aw k->gx pl tt P N n Q 0 ms st l aw k
 | 0,.cd c,st,l,aw,k,hk,h=>h
 | 0,.op ops os,st,l,aw,k,hk,h=>h
 | f+1,.cd c,st,l,aw,k,hk,h=>by
  show T P N c (qs P N st Q) (mkA n l) aw;have pop:∀ y st,gx pl tt P N n Q f (.cd y) st l aw k->T P N y (qs P N st Q) (mkA n l) aw:=fun y st h=>dV ht (f:=f) hk h
  cases c with
  | seq x y=>exact T.seq (dV ht (f:=f) (ms:=.cd x) hk h)
  | skip=>exact T.skip (nk pop h)
  | block id x=>exact T.block (dV ht (f:=f) (ms:=.cd x) hk h)
  | exit id=>exact T.exit (nC pop h)
  | cond x a b =>
   simp only [gx] at h;split at h
   ·rename_i v hv;split at h
    ·exact T.cond hv (fun _=>dV ht (f:=f) (ms:=.cd a) hk h) (fun hb=>by cases hb)
    ·exact T.cond hv (fun hb=>by cases hb) (fun _=>dV ht (f:=f) (ms:=.cd b) hk h)
   ·exact h.elim
  | region id ops d =>
   cases d with
   | false=>exact T.region (dV ht (f:=f) (ms:=.op ops ops.toList) hk h)
   | true=>exact h.elim
  | _=>exact h.elim
 | f + 1,.op ops os,st,l,aw,k,hk,h=>by
  show RS P N ops os (qs P N st Q .normal) (mkA n l) aw;cases os with
  | nil =>
   have pop:∀ y st,gx pl tt P N n Q f (.cd y) st l aw k->T P N y (qs P N st Q) (mkA n l) aw:=fun y st h=>dV ht (f:=f) hk h
   exact RS.nil (nk pop h)
  | cons o os =>
   have put:∀ {aw:List Ob} {k:Nat} {r:AV},aw.length=k->dsC l o.dst r (fun l=>gx pl tt P N n Q f (.op ops os) st l aw k)->RS P N ops os (qs P N st Q .normal) (mkA n (b9 l o.dst r)) aw :=
    fun {aw k r} hk h=>dV ht (f:=f) (ms:=.op ops os) hk (Dn (K:=fun l=>gx pl tt P N n Q f (.op ops os) st l aw k) h)
   simp only [gx] at h;split at h
   ·rename_i hg;exact RS.op hg ((wP_ok ht hk h).mono fun r aw' h=>put rfl h)
   ·rename_i j want hg;obtain ⟨q,h1,h⟩:=bg h;have h1:ops[j]?=some q:=by simpa using h1
    split at h
    ·exact h.elim
    ·rename_i t hd;have hj:(ops[j]?).bind (·.dst)=some t:=by rw [h1];exact hd
     split at h
     ·rename_i b hb;split at h
      ·split at h
       ·exact RS.yes hg hj hb rfl ((wP_ok ht hk h).mono fun r aw' h=>put rfl h)
       ·exact RS.no hg hj hb rfl (put hk h)
      ·split at h
       ·exact RS.yes hg hj hb rfl ((wP_ok ht hk h).mono fun r aw' h=>put rfl h)
       ·exact RS.no hg hj hb rfl (put hk h)
     ·rename_i vs hb;split at h
      ·exact RS.nou hg hj hb (put hk h)
      ·exact h.elim
     ·exact h.elim
theorem vM {s:Nat} {a:AV} (hl:lkA l s=a):mkA n ((s,a)::l)=mkA n l:=by
 unfold mkA;congr 1;funext t;rw [fD];by_cases h:s=t
 ·subst h;rw [if_pos rfl,hl]
 ·rw [if_neg h]
variable {ops:Array Oper} {os:List Oper} {K:List AV→List Ob→Prop} {st:List Fr}
theorem gT (s:Nat) {b:Bool} (hb:b=true) (h:RS P N ops os K (mkA n ((s,.bool true)::l)) aw) (hl:lkA l s=.bool b:=by rfl):RS P N ops os K (mkA n l) aw:=by
 subst hb;rw [vM hl] at h;exact h
theorem gF (s:Nat) {b:Bool} (hb:b=false) (h:RS P N ops os K (mkA n ((s,.bool false)::l)) aw) (hl:lkA l s=.bool b:=by rfl):RS P N ops os K (mkA n l) aw:=by
 subst hb;rw [vM hl] at h;exact h
theorem gi (s:Nat) {α:Type} {b:Bool} {u v:Option α} {r:α} (h:(if b=true then u else v)=some r) (ht:b=true->u=some r->RS P N ops os K (mkA n ((s,.bool true)::l)) aw) (he:b=false->v=some r->RS P N ops os K (mkA n ((s,.bool false)::l)) aw) (hl:lkA l s=.bool b:=by rfl):RS P N ops os K (mkA n l) aw:=by
 cases b with
 | true=>exact gT s rfl (ht rfl (bT h rfl)) hl
 | false=>exact gF s rfl (he rfl (bR h rfl)) hl
theorem gp (s:Nat) {b:Bool} (ht:b=true->RS P N ops os K (mkA n ((s,.bool true)::l)) aw) (he:b=false->RS P N ops os K (mkA n ((s,.bool false)::l)) aw) (hl:lkA l s=.bool b:=by rfl):RS P N ops os K (mkA n l) aw:=by
 cases b with
 | true=>exact gT s rfl (ht rfl) hl
 | false=>exact gF s rfl (he rfl) hl
theorem fX {pl:Bool} {f:FuncId} {fn:Func} {c:Code} {args:List AV} {Q:AV->List Ob->Prop} {m:Nat} (ht:tt.Ok P) (N q:Nat) (hf:P.funcs[f]?=some fn) (hm:fn.ntmps=m) (h:iniC 0 args fun l=>gx pl tt P N m (retQ P fn N Q) q (.cd c) [] l aw N)
  (hb:fn.body=some c) (hN:aw.length=N) (hname:(fn.name == "runtime.NumGoroutine")=false) (hl:Nat.ble args.length m=true):ACalls P f args aw Q :=
 gR hN hf hb hname hm hl (dV ht hN (uu (K:=fun l=>gx pl tt P N m (retQ P fn N Q) q (.cd c) [] l aw N) h))
theorem q0 {c:Code} {fr:List AV} (h:T P N c (qs P N [] Q) fr aw):T P N c Q fr aw:=h
theorem jn {x y:Code} {fr:List AV} {Z:Type} (F:Z->List AV) (A:Z->List Ob) (S:Z->Prop) (h:∀ z,S z->T P N y (qs P N st Q) (F z) (A z))
 (h2:(∀ z,S z->T P N y (qs P N st Q) (F z) (A z))->T P N (.seq x y) (qs P N st Q) fr aw):T P N (.seq x y) (qs P N st Q) fr aw:=h2 h
theorem j1 {x y:Code} (l':List (Nat × AV)) (aw':List Ob) (h:T P N y (qs P N st Q) (mkA n l') aw') (h2:T P N y (qs P N st Q) (mkA n l') aw'->T P N (.seq x y) (qs P N st Q) (mkA n l) aw):T P N (.seq x y) (qs P N st Q) (mkA n l) aw:=h2 h
def LK {α β:Type} (N:Nat) (v:α ⊕ β) (F:α->List AV) (A:α->List Ob) (fr:List AV) (aw:List Ob):Prop:=∃ s',v=.inl s'/\Weak N fr aw (F s') (A s')
theorem itr {α β:Type} {body:α->Option (α ⊕ β)} {s:α} {r:β} {c:Code} {fr:List AV} (F:α->List AV) (A:α->List Ob) (h:iter body s=some r) (hw:Weak N fr aw (F s) (A s))
  (hb:∀ s v,body s=some v->(∀ w,v=.inr w->w=r)->T P N c (qs P N (.kt (LK N v F A)::st) Q) (F s) (A s)):T P N (.loop c) (qs P N st Q) fr aw :=
 T.iter F A h hw fun s v h1 h2=>(hb s v h1 h2).mono fun e fr aw h=>by
  cases e<;>exact h
theorem lk {α β:Type} {v:α ⊕ β} {F:α->List AV} {A:α->List Ob} {fr:List AV} {s':α} (h:some (.inl s')=some v) (hw:Weak N fr aw (F s') (A s')):LK N v F A fr aw:=⟨s',(Option.some.inj h).symm,hw⟩
theorem mi {α β:Type} {o:Option β} {v:α ⊕ β} {r:β} (h:o.map Sum.inr=some v) (hv:∀ w,v=.inr w->w=r):o=some r:=by
 obtain ⟨w,h1,h2⟩:=Bu h;rw [h1,hv w h2]
theorem B {α β:Type} {o:Option α} {k:α->Option β} {r:β} {C:Prop} (h:o.bind k=some r) (hC:∀ x,o=some x->k x=some r->C):C:=by
 obtain ⟨x,h1,h2⟩:=bind_some h;exact hC x h1 h2
theorem sx {c:Code} {l':List (Nat × AV)} (h:T P N c Q (mkA n l') aw) (hs:l'.map (fun p=>lkA l p.1)=l'.map (fun p=>lkA l' p.1):=by rfl):T P N c Q (mkA n l) aw:=T.su h hs
theorem wu {c:Code} {l':List (Nat × AV)} {aw':List Ob} (h:T P N c Q (mkA n l') aw') (nl:List (Nat × TypeId × Nat)) (ρ:List Nat) (k:Nat) (hw:nilC nl l aw k fun l aw=>mpF ρ l' l fun bs es=>mpOs ρ aw ρ aw' fun bs' es'=>(bs,bs')=(es,es')) [g:GoodF l'] [g':GoodOs aw'] (hc:aw.length=k:=by rfl) (hn:(nl.all fun p=>Nat.blt p.1 n)=true:=by rfl)
 (h1:ρ.Nodup:=by decide) (h2:∀ k,k<N->ρ[k]?=some k:=by decide):T P N c Q (mkA n l) aw:=T.weakR h (wk nl ρ k hw hc hn h1 h2)
section
variable {ρ:List Nat} {n0 n1:Nat}
def bkC (n0:Nat):List Nat->Nat->(Nat->Prop)->Prop
 | [],i,K=>K (n0+i)
 | j::ρ,i,K=>(match i with
  | 0=>K j
  | i+1=>bkC n0 ρ i K)
def bkK (ρ:List Nat) (n0 n1 i:Nat) (K:Nat->Prop):Prop :=
 match Nat.blt i n1 with
 | true=>bkC n0 ρ i K
 | false=>False
theorem vU:∀ {ρ:List Nat} {i:Nat} {K:Nat->Prop},bkC n0 ρ i K->K (if i<ρ.length then ρ.getD i 0 else n0+(i - ρ.length))
 | [],i,K,h=>by simpa [bkC] using h
 | j::ρ,0,K,h=>h
 | j::ρ,i+1,K,h=>by
  have:=vU (ρ:=ρ) (i:=i) (K:=K) h;simpa [Nat.add_lt_add_iff_right] using this
theorem fH {i:Nat} {K:Nat->Prop} (h:bkK ρ n0 n1 i K):∃ j,(j,i)∈bS ρ n0 n1/\K j:=by
 unfold bkK at h;split at h
 ·rename_i hb;refine ⟨_,?_,vU h⟩;unfold bS;exact List.mem_map.2 ⟨i,List.mem_range.2 (by simpa using hb),rfl⟩
 ·exact h.elim
def bkL (f:AV->(AV->Prop)->Prop):List AV->(List AV->Prop)->Prop
 | [],K=>K []
 | a::es,K=>f a fun b=>bkL f es fun bs=>K (b::bs)
def bkA (ρ:List Nat) (n0 n1:Nat):Nat->AV->(AV->Prop)->Prop
 | k,a,K=>match a with
  | .ref i=>bkK ρ n0 n1 i fun i=>K (.ref i)
  | .ptr i o=>bkK ρ n0 n1 i fun i=>K (.ptr i o)
  | .mpr i=>bkK ρ n0 n1 i fun i=>K (.mpr i)
  | .np i=>bkK ρ n0 n1 i fun i=>K (.np i)
  | .agg cs=>(match k with
   | 0=>False
   | k+1=>bkL (bkA ρ n0 n1 k) cs fun cs=>K (.agg cs))
  | .tup cs=>(match k with
   | 0=>False
   | k+1=>bkL (bkA ρ n0 n1 k) cs fun cs=>K (.tup cs))
  | .func f cs=>(match k with
   | 0=>False
   | k+1=>bkL (bkA ρ n0 n1 k) cs fun cs=>K (.func f cs))
  | .bnd f cs=>(match k with
   | 0=>False
   | k+1=>bkL (bkA ρ n0 n1 k) cs fun cs=>K (.bnd f cs))
  | .iref _ _ | .aptr _ _ _ _=>False
  | a=>fA a K
theorem iN {k:Nat} (ih:∀ {a:AV} {K:AV->Prop},bkA ρ n0 n1 k a K->∃ b,K b/\(gA k a->RenM (bS ρ n0 n1) b a)):∀ {es:List AV} {K:List AV->Prop},bkL (bkA ρ n0 n1 k) es K->∃ bs,K bs/\((∀ a,a∈es->gA k a)->dI (bS ρ n0 n1) bs es)
 | [],K,h=>⟨[],h,fun _=>trivial⟩
 | a::es,K,h=>by
  obtain ⟨b,h1,h2⟩:=ih h;obtain ⟨bs,h3,h4⟩:=iN ih h1;exact ⟨b::bs,h3,fun hg=>⟨h2 (hg _ (.head _)),h4 fun x hx=>hg x (.tail _ hx)⟩⟩
theorem nG:∀ {k:Nat} {a:AV} {K:AV->Prop},bkA ρ n0 n1 k a K->∃ b,K b/\(gA k a->RenM (bS ρ n0 n1) b a):=by
 intro k;induction k with
 | zero =>
  intro a K h;cases a with
  | ref i=>obtain ⟨j,h1,h2⟩:=fH h;exact ⟨_,h2,fun _=>pS h1⟩
  | ptr i o=>obtain ⟨j,h1,h2⟩:=fH h;exact ⟨_,h2,fun _=>vG h1⟩
  | aptr i s x o=>exact h.elim
  | mpr i=>obtain ⟨j,h1,h2⟩:=fH h;exact ⟨_,h2,fun _=>vL h1⟩
  | np i=>obtain ⟨j,h1,h2⟩:=fH h;exact ⟨_,h2,fun _=>rm_np h1⟩
  | agg cs=>exact h.elim
  | tup cs=>exact h.elim
  | func f cs=>exact h.elim
  | bnd f cs=>exact h.elim
  | iref i j=>exact h.elim
  | any=>exact ⟨_,h,fun _=>vE⟩
  | int q x=>exact ⟨_,h,fun _=>ct (aX _ _)⟩
  | bool b=>exact ⟨_,h,fun _=>ct (fw _)⟩
  | str s=>exact ⟨_,h,fun _=>ct (gM _)⟩
  | nils=>exact ⟨_,h,fun _=>ct lr⟩
  | nilf=>exact ⟨_,h,fun _=>ct lc⟩
  | nilp=>exact ⟨_,h,fun _=>ct mE⟩
  | nili=>exact ⟨_,h,fun _=>ct mN⟩
  | sl rows=>exact ⟨_,h,fun g=>ct (by unfold gA at g;exact g)⟩
  | elt row off=>exact ⟨_,h,fun g=>ct (by unfold gA at g;exact g)⟩
  | cst v=>exact ⟨_,h,fun g=>by unfold gA at g;exact g.elim⟩
  | vw a1 a2 a3 a4 a5=>exact ⟨_,h,fun g=>by unfold gA at g;exact g.elim⟩
  | ref2 i=>exact ⟨_,h,fun g=>by unfold gA at g;exact g.elim⟩
  | aptr2 i j=>exact ⟨_,h,fun g=>by unfold gA at g;exact g.elim⟩
  | ifc t a1=>exact ⟨_,h,fun g=>by unfold gA at g;exact g.elim⟩
 | succ k ih =>
  intro a K h;cases a with
  | ref i=>obtain ⟨j,h1,h2⟩:=fH h;exact ⟨_,h2,fun _=>pS h1⟩
  | ptr i o=>obtain ⟨j,h1,h2⟩:=fH h;exact ⟨_,h2,fun _=>vG h1⟩
  | aptr i s x o=>exact h.elim
  | mpr i=>obtain ⟨j,h1,h2⟩:=fH h;exact ⟨_,h2,fun _=>vL h1⟩
  | np i=>obtain ⟨j,h1,h2⟩:=fH h;exact ⟨_,h2,fun _=>rm_np h1⟩
  | agg cs=>obtain ⟨bs,h1,h2⟩:=iN ih h;exact ⟨_,h1,fun g=>C6 (h2 (by unfold gA at g;exact g))⟩
  | tup cs=>obtain ⟨bs,h1,h2⟩:=iN ih h;exact ⟨_,h1,fun g=>vI (h2 (by unfold gA at g;exact g))⟩
  | func f cs=>obtain ⟨bs,h1,h2⟩:=iN ih h;exact ⟨_,h1,fun g=>CP (h2 (by unfold gA at g;exact g))⟩
  | bnd f cs=>obtain ⟨bs,h1,h2⟩:=iN ih h;exact ⟨_,h1,fun g=>CX (h2 (by unfold gA at g;exact g))⟩
  | iref i j=>exact h.elim
  | any=>exact ⟨_,h,fun _=>vE⟩
  | int q x=>exact ⟨_,h,fun _=>ct (aX _ _)⟩
  | bool b=>exact ⟨_,h,fun _=>ct (fw _)⟩
  | str s=>exact ⟨_,h,fun _=>ct (gM _)⟩
  | nils=>exact ⟨_,h,fun _=>ct lr⟩
  | nilf=>exact ⟨_,h,fun _=>ct lc⟩
  | nilp=>exact ⟨_,h,fun _=>ct mE⟩
  | nili=>exact ⟨_,h,fun _=>ct mN⟩
  | sl rows=>exact ⟨_,h,fun g=>ct (by unfold gA at g;exact g)⟩
  | elt row off=>exact ⟨_,h,fun g=>ct (by unfold gA at g;exact g)⟩
  | cst v=>exact ⟨_,h,fun g=>by unfold gA at g;exact g.elim⟩
  | vw a1 a2 a3 a4 a5=>exact ⟨_,h,fun g=>by unfold gA at g;exact g.elim⟩
  | ref2 i=>exact ⟨_,h,fun g=>by unfold gA at g;exact g.elim⟩
  | aptr2 i j=>exact ⟨_,h,fun g=>by unfold gA at g;exact g.elim⟩
  | ifc t a1=>exact ⟨_,h,fun g=>by unfold gA at g;exact g.elim⟩
def bkO (ρ:List Nat) (n0 n1:Nat) (o:Ob) (K:Ob->Prop):Prop :=
 match o with
 | .dead=>K .dead
 | .box cs=>bkL (bkA ρ n0 n1 3) cs fun cs=>K (.box cs)
 | .boxB t cs=>bkL (bkA ρ n0 n1 3) cs fun cs=>K (.boxB t cs)
 | .hd e k=>bkK ρ n0 n1 k fun k=>K (.hd e k)
 | .arr e s rows=>K (.arr e s rows)
 | .mp ks vs=>K (.mp ks vs)
 | .cl e s cells=>K (.cl e s cells)
 | _=>False
theorem wo {o:Ob} {K:Ob->Prop} (h:bkO ρ n0 n1 o K):∃ b,K b/\(gO o->eX (bS ρ n0 n1) b o):=by
 cases o with
 | dead=>exact ⟨_,h,fun _=>trivial⟩
 | box cs=>obtain ⟨bs,h1,h2⟩:=iN nG h;exact ⟨_,h1,fun g=>h2 g⟩
 | boxB t cs=>obtain ⟨bs,h1,h2⟩:=iN nG h;exact ⟨_,h1,fun g=>⟨rfl,h2 g⟩⟩
 | hd e k=>obtain ⟨j,h1,h2⟩:=fH h;exact ⟨_,h2,fun _=>⟨rfl,h1⟩⟩
 | arr e s rows=>exact ⟨_,h,fun g=>⟨rfl,rfl,rfl,g⟩⟩
 | mp ks vs=>exact ⟨_,h,fun g=>⟨oK fun c hc=>g c (List.mem_append_left _ hc),oK fun c hc=>g c (List.mem_append_right _ hc)⟩⟩
 | cl e s cells=>exact ⟨_,h,fun g=>⟨rfl,rfl,rfl,g⟩⟩
 | arrU e s rows x=>exact h.elim
def pkC (n0 n1:Nat) (ρ0:List Nat) (j:Nat) (o:Ob) (K:Ob->Prop):List Nat->List Ob->Prop
 | [],_=>K o
 | i::ρ,os=>(match os with
  | []=>False
  | o1::os=>(match Nat.beq i j with
   | true=>bkO ρ0 n0 n1 o1 K
   | false=>pkC n0 n1 ρ0 j o K ρ os))
def exC (ρ:List Nat) (n0 n1:Nat):List Ob->(List Ob->Prop)->Prop
 | [],K=>K []
 | o::os,K=>bkO ρ n0 n1 o fun o=>exC ρ n0 n1 os fun os=>K (o::os)
def bwC (ρ:List Nat) (n0 n1:Nat) (aw1:List Ob):Nat->List Ob->(List Ob->Prop)->Prop
 | _,[],K=>dropC aw1 ρ.length fun os=>exC ρ n0 n1 os K
 | j,o::r,K=>pkC n0 n1 ρ j o (fun o=>bwC ρ n0 n1 aw1 (j+1) r fun l=>K (o::l)) ρ aw1
theorem vS {aw1:List Ob} (hg:∀ o,o∈aw1->gO o) (hl:aw1.length=n1) {j:Nat} {o:Ob} {K:Ob->Prop}:∀ {ρ1:List Nat} {os:List Ob} {k:Nat},ρ.drop k=ρ1->aw1.drop k=os->pkC n0 n1 ρ j o K ρ1 os ->
  ∃ b,K b/\((∃ k o1,(j,k)∈bS ρ n0 n1/\aw1[k]?=some o1/\eX (bS ρ n0 n1) b o1)∨(ρ1.contains j=false/\b=o))
 | [],os,k,_,_,h=>⟨o,h,.inr ⟨rfl,rfl⟩⟩
 | i::ρ1,[],k,_,_,h=>h.elim
 | i::ρ1,o1::os,k,h1,h2,h=>by
  have e1:ρ[k]?=some i:=by have:=congrArg List.head? h1;simpa using this
  have e2:aw1[k]?=some o1:=by have:=congrArg List.head? h2;simpa using this
  simp only [pkC] at h;split at h
  ·rename_i hb;have:=Nat.eq_of_beq_eq_true hb;subst this;obtain ⟨b,h3,h4⟩:=wo h;have hk:k<ρ.length:=(List.getElem?_eq_some_iff.1 e1).1;have hk1:k<n1:=by rw [<- hl];exact (List.getElem?_eq_some_iff.1 e2).1
   refine ⟨b,h3,.inl ⟨k,o1,?_,e2,h4 (hg _ (List.mem_of_getElem? e2))⟩⟩;unfold bS;refine List.mem_map.2 ⟨k,List.mem_range.2 hk1,?_⟩;rw [if_pos hk,List.getD_eq_getElem?_getD,e1];rfl
  ·rename_i hb;obtain ⟨b,h3,h4⟩:=vS hg hl (k:=k+1) (by rw [<- List.tail_drop,h1];rfl) (by rw [<- List.tail_drop,h2];rfl) h;refine ⟨b,h3,h4.imp id fun ⟨h5,h6⟩=>⟨?_,h6⟩⟩;rw [List.contains_cons,h5,Bool.or_false];cases he:j==i
   ·rfl
   ·have:=eq_of_beq he;subst this;rw [Nat.beq_refl] at hb;cases hb
theorem vP {aw aw1:List Ob} (hg:∀ o,o∈aw1->gO o) (hl:aw1.length=n1) (hr:ρ.length<=n1):∀ {os:List Ob} {j:Nat} {K:List Ob->Prop},aw1.drop (ρ.length+j)=os->exC ρ n0 n1 os K->∃ bs,K bs/\BackW (bS ρ n0 n1) ρ aw aw1 (n0+j) bs/\bs.length=os.length
 | [],j,K,_,h=>⟨[],h,trivial,rfl⟩
 | o::os,j,K,h1,h=>by
  have e1:aw1[ρ.length+j]?=some o:=by have:=congrArg List.head? h1;simpa using this
  obtain ⟨b,h2,h3⟩:=wo h;obtain ⟨bs,h4,h5,h6⟩:=vP (aw:=aw) hg hl hr (j:=j+1) (by rw [<- Nat.add_assoc,<- List.tail_drop,h1];rfl) h2;refine ⟨b::bs,h4,⟨.inl ⟨ρ.length+j,o,?_,e1,h3 (hg _ (List.mem_of_getElem? e1))⟩,by rwa [<- Nat.add_assoc] at h5⟩,by simp [h6]⟩;unfold bS;refine List.mem_map.2 ⟨ρ.length+j,List.mem_range.2 (by rw [<- hl];exact (List.getElem?_eq_some_iff.1 e1).1),?_⟩;rw [if_neg (by omega)];simp
theorem pT {aw aw1:List Ob} (hg:∀ o,o∈aw1->gO o) (hl:aw1.length=n1) (hn:aw.length=n0):∀ {l:List Ob} {j:Nat} {K:List Ob->Prop},aw.drop j=l->j<=n0->bwC ρ n0 n1 aw1 j l K->∃ bs,K bs/\BackW (bS ρ n0 n1) ρ aw aw1 j bs/\bs.length+ρ.length=l.length+n1
 | [],j,K,h0,hj,h=>by
  obtain ⟨h1,h⟩:=pc h;have hj':j=n0:=by
   have:=congrArg List.length h0;rw [List.length_drop] at this;simp at this;omega
  subst hj';obtain ⟨bs,h2,h3,h4⟩:=vP (aw:=aw) hg hl (by omega) (j:=0) rfl h;refine ⟨bs,h2,h3,?_⟩;rw [h4,List.length_drop];simp;omega
 | o::r,j,K,h0,hj,h=>by
  have e1:aw[j]?=some o:=by have:=congrArg List.head? h0;simpa using this
  have hjl:j<aw.length:=(List.getElem?_eq_some_iff.1 e1).1;obtain ⟨b,h1,h2⟩:=vS (k:=0) hg hl rfl rfl h;obtain ⟨bs,h3,h4,h5⟩:=pT hg hl hn (j:=j+1) (by rw [<- List.tail_drop,h0];rfl) (by omega) h1;refine ⟨b::bs,h3,⟨h2.imp id fun ⟨h6,h7⟩=>⟨h6,by rw [h7];exact e1⟩,h4⟩,?_⟩;simp only [List.length_cons];omega
def cgC (n:Nat) (l:List (Nat × AV)) (aw:List Ob) (ρ:List Nat) (n0 n1:Nat) (f:Operand) (args:List Operand) (h:Nat) (as0:List AV) (aw0:List Ob) (v:AV) (aw1:List Ob) (K:AV->List Ob->Prop):Prop :=
 match evA n l f with
 | .func g caps=>(match Nat.beq g h with
  | true=>evsC n l args fun es=>appC es caps fun ac=>mpC (mpA ρ 3) as0 ac fun bs=>mpOs ρ aw ρ aw0 fun bs' es'=>(bs,bs')=(ac,es')/\bkA ρ n0 n1 3 v fun v=>bwC ρ n0 n1 aw1 0 aw fun aw2=>K v aw2
  | false=>False)
 | .bnd g fs=>(match Nat.beq g h with
  | true=>evsC n l args fun es=>appC fs es fun ac=>mpC (mpA ρ 3) as0 ac fun bs=>mpOs ρ aw ρ aw0 fun bs' es'=>(bs,bs')=(ac,es')/\bkA ρ n0 n1 3 v fun v=>bwC ρ n0 n1 aw1 0 aw fun aw2=>K v aw2
  | false=>False)
 | _=>False
theorem cG {d:Option Tmp} {ty:TypeId} {ps:String} {af:Array Edge} {gd:Option (Nat × Bool)} {K2:AV->List Ob->Prop} {f:Operand} {args:Array Operand} {ts:Array TypeId} {h:FuncId} {as0:List AV} {aw0 aw1:List Ob} {v:AV} (ρ:List Nat) (n0 n1:Nat) (hC:FnX P h as0 aw0 v aw1)
  (hx:cgC n l aw ρ n0 n1 f args.toList h as0 aw0 v aw1 K2) [ga:GoodAs 3 as0] [go:GoodOs aw0] [gv:GoodA 3 v] [g1:GoodOs aw1] (hn0:aw.length=n0:=by rfl) (hn1:aw1.length=n1:=by rfl) (hnd:ρ.Nodup:=by decide):OP P N ⟨d,.call ⟨.value f,args,ts⟩,ty,ps,af,gd⟩ (mkA n l) aw K2:=by
 unfold cgC at hx
 split at hx
 ·rename_i g caps hf
  split at hx
  ·rename_i hb
   have:=Nat.eq_of_beq_eq_true hb
   subst this
   have hx:=lG (lH hx)
   obtain ⟨bs,hx,h2⟩:=fK (ρ:=ρ) iP hx
   obtain ⟨bs',es',hx,h3⟩:=iM hx
   obtain ⟨he,hx⟩:=hx
   injection he with e1 e2
   obtain ⟨v',hx,h4⟩:=nG hx
   obtain ⟨aw2,hx,h5,h6⟩:=pT g1.out hn1 hn0 (j:=0) rfl (Nat.zero_le _) hx
   exact vh ρ hn0 hn1 hf rfl hnd (h3 go.out e2) (h2 ga.out e1) hC (by rw [h6,List.drop_zero,hn0]) (h4 gv.out) h5 hx
  ·exact hx.elim
 ·rename_i g caps hf
  split at hx
  ·rename_i hb
   have:=Nat.eq_of_beq_eq_true hb
   subst this
   have hx:=lG (lH hx)
   obtain ⟨bs,hx,h2⟩:=fK (ρ:=ρ) iP hx
   obtain ⟨bs',es',hx,h3⟩:=iM hx
   obtain ⟨he,hx⟩:=hx
   injection he with e1 e2
   obtain ⟨v',hx,h4⟩:=nG hx
   obtain ⟨aw2,hx,h5,h6⟩:=pT g1.out hn1 hn0 (j:=0) rfl (Nat.zero_le _) hx
   exact Bi ρ hn0 hn1 hf rfl hnd (h3 go.out e2) (h2 ga.out e1) hC (by rw [h6,List.drop_zero,hn0]) (h4 gv.out) h5 hx
  ·exact hx.elim
 ·exact hx.elim
end
theorem nB {c:Code} (b j e z k:Nat) (h:bp aw b fun o=>(match o with
  | .box cs=>bp cs j fun v=>(match v with
   | .nils=>setC cs j (.ref k) fun cs=>setC aw b (.box cs) fun aw=>pushC aw (.arr e z []) fun aw=>T P N c Q (mkA n l) aw
   | _=>False)
  | _=>False)) (hk:aw.length=k:=by rfl):T P N c Q (mkA n l) aw:=by
 subst hk
 obtain ⟨o,h1,h⟩:=bg h
 split at h
 ·obtain ⟨v,h2,h⟩:=bg h
  split at h
  ·exact T.nilB b j e z h1 h2 rfl rfl (iA (eM (eM h)))
  ·exact h.elim
 ·exact h.elim
theorem mO {c:Code} (b j id k:Nat) (h:bp aw b fun o=>(match o with
  | .box cs=>bp cs j fun v=>(match v with
   | .ref i=>(match Nat.beq i id with
    | true=>bp aw id fun q=>(match q with
     | .arr e s rows=>setC cs j (.ref k) fun cs=>setC aw id .dead fun aw=>setC aw b (.box cs) fun aw=>pushC aw (.arr e s rows) fun aw=>T P N c Q (mkA n l) aw
     | _=>False)
    | false=>False)
   | _=>False)
  | _=>False)) (hk:aw.length=k:=by rfl):T P N c Q (mkA n l) aw:=by
 subst hk
 obtain ⟨o,h1,h⟩:=bg h
 split at h
 ·obtain ⟨v,h2,h⟩:=bg h
  split at h
  ·rename_i i
   split at h
   ·rename_i hb
    have:=Nat.eq_of_beq_eq_true hb
    subst this
    obtain ⟨q,h3,h⟩:=bg h
    split at h
    ·exact T.mvB b j _ h1 h2 h3 rfl rfl rfl (iA (eM (eM (eM h))))
    ·exact h.elim
   ·exact h.elim
  ·exact h.elim
 ·exact h.elim
def bm (n k:Nat):Array Bool:=((List.range n).map k.testBit).toArray
end
end
section
open Go.RowKit
set_option maxRecDepth 100000
def tyT:TT:=.n 68 (.n 49 (.n 24 (.n 5 (.n 4 (.l 3 (.it .i64)) (.l 4 (.bo))) (.n 22 (.l 5 (.it .u8)) (.n 23 (.l 22 (.sl 61 4)) (.l 23 (.ag [.nils,.int .i64 0,.int .i64 0] 3 [(0,1,22),(1,1,3),(2,1,3)]))))) (.n 26 (.n 25 (.l 24 (.ag [.nils,.int .i64 0,.int .i64 0] 3 [(0,1,22),(1,1,3),(2,1,3)])) (.l 25 (.sl 26 1))) (.n 27 (.l 26 (.sl 39 3)) (.n 39 (.l 27 (.it .i64)) (.l 39 (.ag [.int .i64 0,.int .i64 0,.int .i64 0] 3 [(0,1,3),(1,1,3),(2,1,3)])))))) (.n 61 (.n 51 (.n 50 (.l 49 (.sl 3 1)) (.l 50 (.sl 122 3))) (.n 52 (.l 51 (.sl 119 2)) (.n 53 (.l 52 (.ag [.nils,.nils,.nils,.nils,.nils] 5 [(0,1,49),(1,1,25),(2,1,50),(3,1,51),(4,1,26)])) (.l 53 (.ag [.nils,.nils,.nils,.nils,.nils] 5 [(0,1,49),(1,1,25),(2,1,50),(3,1,51),(4,1,26)]))))) (.n 65 (.n 63 (.l 61 (.ag [.int .i64 0,.int .i64 0,.nils,.nils] 4 [(0,1,3),(1,1,3),(2,1,49),(3,1,49)])) (.l 63 (.sc (.nilp)))) (.n 66 (.l 65 (.sc (.any))) (.n 67 (.l 66 (.ag [.nils,.int .i64 0,.int .i64 0,.nils,.int .i64 0,.any,.nils] 7 [(0,3,24),(3,1,25),(4,1,3),(5,1,65),(6,1,25)])) (.l 67 (.ag [.nils,.int .i64 0,.int .i64 0,.nils,.int .i64 0,.any,.nils] 7 [(0,3,24),(3,1,25),(4,1,3),(5,1,65),(6,1,25)]))))))) (.n 119 (.n 88 (.n 76 (.n 70 (.l 68 (.sc (.nilf))) (.l 70 (.sc (.nilf)))) (.n 78 (.l 76 (.sc (.nilf))) (.n 79 (.l 78 (.sc (.nilf))) (.l 79 (.sc (.any)))))) (.n 111 (.n 106 (.l 88 (.ag [.int .i64 0,.int .i64 0] 2 [(0,1,3),(1,1,3)])) (.l 106 (.ag [] 0 []))) (.n 112 (.l 111 (.it .u64)) (.n 114 (.l 112 (.sc (.nilf))) (.l 114 (.ag [.nilf,.nilf] 2 [(0,1,112),(1,1,112)])))))) (.n 161 (.n 122 (.n 120 (.l 119 (.ag [.int .i64 0,.int .i64 0] 2 [(0,1,3),(1,1,3)])) (.l 120 (.sl 161 2))) (.n 126 (.l 122 (.ag [.int .i64 0,.nils,.int .i64 0] 3 [(0,1,3),(1,1,120),(2,1,3)])) (.n 157 (.l 126 (.sl 4 1)) (.l 157 (.it .u64))))) (.n 194 (.n 190 (.l 161 (.ag [.int .i64 0,.int .i64 0] 2 [(0,1,3),(1,1,3)])) (.l 190 (.sl 194 2))) (.n 196 (.l 194 (.ag [.int .i64 0,.int .i64 0] 2 [(0,1,3),(1,1,3)])) (.n 197 (.l 196 (.sc (.nilf))) (.l 197 (.ar [.nilf,.nilf,.nilf,.nilf] 4)))))))
theorem dl:tyT.Ok Tryz.prog:=⟨⟨⟨⟨⟨⟨⟨Ty.k3,Ty.c3,Ty.i3⟩,Ty.z3,Tryz.underlying3⟩,⟨⟨Ty.k4,Ty.c4,Ty.i4⟩,Ty.z4,Tryz.underlying4⟩⟩,⟨⟨⟨Ty.k5,Ty.c5,Ty.i5⟩,Ty.z5,Tryz.underlying5⟩,⟨⟨⟨Ty.k22,Ty.c22,Ty.i22⟩,Ty.z22,Ty.s22⟩,⟨⟨Ty.k23,Ty.c23,Ty.i23,Ty.z23,rfl⟩,Ty.p23,⟨Ty.f23_0,Ty.f23_1,Ty.f23_2,trivial⟩⟩⟩⟩⟩,⟨⟨⟨⟨Ty.k24,Ty.c24,Ty.i24,Ty.z24,rfl⟩,Ty.p24,⟨Ty.f24_0,Ty.f24_1,Ty.f24_2,trivial⟩⟩,⟨⟨Ty.k25,Ty.c25,Ty.i25⟩,Ty.z25,Ty.s25⟩⟩,⟨⟨⟨Ty.k26,Ty.c26,Ty.i26⟩,Ty.z26,Ty.s26⟩,⟨⟨⟨Ty.k27,Ty.c27,Ty.i27⟩,Ty.z27,Tryz.underlying27⟩,⟨⟨Ty.k39,Ty.c39,Ty.i39,Ty.z39,rfl⟩,Ty.p39,⟨Ty.f39_0,Ty.f39_1,Ty.f39_2,trivial⟩⟩⟩⟩⟩⟩,⟨⟨⟨⟨⟨Ty.k49,Ty.c49,Ty.i49⟩,Ty.z49,Ty.s49⟩,⟨⟨Ty.k50,Ty.c50,Ty.i50⟩,Ty.z50,Ty.s50⟩⟩,⟨⟨⟨Ty.k51,Ty.c51,Ty.i51⟩,Ty.z51,Ty.s51⟩,⟨⟨⟨Ty.k52,Ty.c52,Ty.i52,Ty.z52,rfl⟩,Ty.p52,⟨Ty.f52_0,Ty.f52_1,Ty.f52_2,Ty.f52_3,Ty.f52_4,trivial⟩⟩,⟨⟨Ty.k53,Ty.c53,Ty.i53,Ty.z53,rfl⟩,Ty.p53,⟨Ty.f53_0,Ty.f53_1,Ty.f53_2,Ty.f53_3,Ty.f53_4,trivial⟩⟩⟩⟩⟩,⟨⟨⟨⟨Ty.k61,Ty.c61,Ty.i61,Ty.z61,rfl⟩,Ty.p61,⟨Ty.f61_0,Ty.f61_1,Ty.f61_2,Ty.f61_3,trivial⟩⟩,⟨⟨Ty.k63,Ty.c63,Ty.i63⟩,Ty.z63⟩⟩,⟨⟨⟨Ty.k65,Ty.c65,Ty.i65⟩,Ty.z65⟩,⟨⟨⟨Ty.k66,Ty.c66,Ty.i66,Ty.z66,rfl⟩,Ty.p66,⟨Ty.f66_0,Ty.f66_1,Ty.f66_2,Ty.f66_3,Ty.f66_4,trivial⟩⟩,⟨⟨Ty.k67,Ty.c67,Ty.i67,Ty.z67,rfl⟩,Ty.p67,⟨Ty.f67_0,Ty.f67_1,Ty.f67_2,Ty.f67_3,Ty.f67_4,trivial⟩⟩⟩⟩⟩⟩⟩,⟨⟨⟨⟨⟨⟨Ty.k68,Ty.c68,Ty.i68⟩,Ty.z68⟩,⟨⟨Ty.k70,Ty.c70,Ty.i70⟩,Ty.z70⟩⟩,⟨⟨⟨Ty.k76,Ty.c76,Ty.i76⟩,Ty.z76⟩,⟨⟨⟨Ty.k78,Ty.c78,Ty.i78⟩,Ty.z78⟩,⟨⟨Ty.k79,Ty.c79,Ty.i79⟩,Ty.z79⟩⟩⟩⟩,⟨⟨⟨⟨Ty.k88,Ty.c88,Ty.i88,Ty.z88,rfl⟩,Ty.p88,⟨Ty.f88_0,Ty.f88_1,trivial⟩⟩,⟨⟨Ty.k106,Ty.c106,Ty.i106,Ty.z106,rfl⟩,Ty.p106,trivial⟩⟩,⟨⟨⟨Ty.k111,Ty.c111,Ty.i111⟩,Ty.z111,Tryz.underlying111⟩,⟨⟨⟨Ty.k112,Ty.c112,Ty.i112⟩,Ty.z112⟩,⟨⟨Ty.k114,Ty.c114,Ty.i114,Ty.z114,rfl⟩,Ty.p114,⟨Ty.f114_0,Ty.f114_1,trivial⟩⟩⟩⟩⟩⟩,⟨⟨⟨⟨⟨Ty.k119,Ty.c119,Ty.i119,Ty.z119,rfl⟩,Ty.p119,⟨Ty.f119_0,Ty.f119_1,trivial⟩⟩,⟨⟨Ty.k120,Ty.c120,Ty.i120⟩,Ty.z120,Ty.s120⟩⟩,⟨⟨⟨Ty.k122,Ty.c122,Ty.i122,Ty.z122,rfl⟩,Ty.p122,⟨Ty.f122_0,Ty.f122_1,Ty.f122_2,trivial⟩⟩,⟨⟨⟨Ty.k126,Ty.c126,Ty.i126⟩,Ty.z126,Ty.s126⟩,⟨⟨Ty.k157,Ty.c157,Ty.i157⟩,Ty.z157,Tryz.underlying157⟩⟩⟩⟩,⟨⟨⟨⟨Ty.k161,Ty.c161,Ty.i161,Ty.z161,rfl⟩,Ty.p161,⟨Ty.f161_0,Ty.f161_1,trivial⟩⟩,⟨⟨Ty.k190,Ty.c190,Ty.i190⟩,Ty.z190,Ty.s190⟩⟩,⟨⟨⟨Ty.k194,Ty.c194,Ty.i194,Ty.z194,rfl⟩,Ty.p194,⟨Ty.f194_0,Ty.f194_1,trivial⟩⟩,⟨⟨⟨Ty.k196,Ty.c196,Ty.i196⟩,Ty.z196⟩,⟨Ty.k197,Ty.c197,Ty.i197,Ty.z197,rfl⟩⟩⟩⟩⟩⟩⟩
section
variable {N n:Nat} {aw aw':List Ob} {l:List (Nat × AV)} {ops:Array Oper} {os:List Oper} {K:List AV→List Ob→Prop} {k:Nat} {li:Array Bool}
theorem go (m c:Nat) (h:wR tyT n m os l aw c fun os l aw=>RS Tryz.prog N ops os K (mkA n l) aw) (hc:aw.length=c:=by rfl):RS Tryz.prog N ops os K (mkA n l) aw:=RS.go dl hc h
theorem rq (is:List Nat) (k':Nat) (h:wQ tyT n ops.toList is l aw fun l=>RA Tryz.prog N ops k' (lisQ li is) K (mkA n l) aw) (hk:k=k' + is.length:=by rfl) (hs:Region.noSelect ops=true:=by decide +kernel) (ho:okQ ops li is=true:=by decide +kernel):RA Tryz.prog N ops k li K (mkA n l) aw:=RA.qs dl hs hk ho h
theorem og {i:Nat} (c:Nat) (h:bp ops.toList i fun o=>o.guard=none/\wE tyT n l aw c o.op fun r aw c=>(match o.dst with
 | some t=>K (mkA n ((t,r)::l)) aw
 | none=>K (mkA n l) aw)) (hc:aw.length=c:=by rfl):RO Tryz.prog N ops i K (mkA n l) aw:=RO.g dl hc h
variable {o:Oper} {Q:Exit→List AV→List Ob→Prop} {rs:List ResultVar} {V:AV} {obs:List Ob} {M:Nat}
theorem yg (c:Nat) {j t:Nat} {want b:Bool} (hbw:b=want) (h:wE tyT n l aw c o.op fun r aw _=>stD l o.dst r fun l=>RS Tryz.prog N ops os K (mkA n l) aw) (hg:o.guard=some (j,want):=by rfl) (hj:(ops[j]?).bind (·.dst)=some t:=by rfl) (hb:evA n l (.tmp t)=.bool b:=by rfl) (hc:aw.length=c:=by rfl):RS Tryz.prog N ops (o::os) K (mkA n l) aw:=yg' dl c hbw h hg hj hb hc
theorem oy {i:Nat} (c:Nat) {j t:Nat} {want b:Bool} (hbw:b=want) (hi:ops[i]?=some o) (h:wE tyT n l aw c o.op fun r aw _=>stD l o.dst r fun l=>K (mkA n l) aw) (hg:o.guard=some (j,want):=by rfl) (hj:(ops[j]?).bind (·.dst)=some t:=by rfl) (hb:evA n l (.tmp t)=.bool b:=by rfl) (hc:aw.length=c:=by rfl):RO Tryz.prog N ops i K (mkA n l) aw:=oy' dl c hbw hi h hg hj hb hc
theorem ry (i:Nat) {j t:Nat} {want b:Bool} (hbw:b=want) (hi:ops[i]?=some o) (h:wV tyT n l aw o.op fun r=>stD l o.dst r fun l=>RA Tryz.prog N ops k (li.setIfInBounds i true) K (mkA n l) aw) (hs:Region.noSelect ops=true:=by decide +kernel) (hf:Region.free .any ops li i=true:=by decide +kernel) (hr:(Region.ready .any ops li).contains i=true:=by decide +kernel) (hg:o.guard=some (j,want):=by rfl) (hj:(ops[j]?).bind (·.dst)=some t:=by rfl) (hb:evA n l (.tmp t)=.bool b:=by rfl) (hn:eL o.op=true:=by rfl):RA Tryz.prog N ops (k+1) li K (mkA n l) aw:=ry' dl i hbw hi h hs hf hr hg hj hb hn
theorem rL (D:List Nat) (i:Nat) (hi:ops[i]?=some o) (h:wV tyT n l aw o.op fun r=>stD l o.dst r fun l=>RA Tryz.prog N ops k (li.setIfInBounds i true) K (mkA n l) aw) (hs:Region.noSelect ops=true:=by decide +kernel) (hf:RK.loadFree ops li D i=true:=by decide +kernel) (hr:(Region.ready .any ops li).contains i=true:=by decide +kernel) (hg:o.guard=none:=by rfl):RA Tryz.prog N ops (k+1) li K (mkA n l) aw:=rL' dl D i hi h hs hf hr hg
theorem tD [hq:RetI Q (fun fr aw=>bE Tryz.prog fr aw rs (Ret 0 (fun r aw'=>r=V/\aw'=[]) aw))] [hV:PureC V] (h:resC tyT n l aw rs fun vs=>nrmRC aw (b6 vs) fun v _=>v=V:=by rfl):T Tryz.prog N .ret Q (mkA n l) aw:=T.rD dl h
theorem tO (nl:List (Nat × TypeId × Nat)) (ρ:List Nat) (c:Nat) [hq:RetI Q (fun fr aw=>bE Tryz.prog fr aw rs (Ret M (fun r aw'=>r=V/\aw'=obs) aw))] [g:GoodA 3 V] [g':GoodOs obs] (h:resC tyT n l aw rs fun vs=>nilVC nl vs aw c fun vs aw=>fA (b6 vs) fun a=>mpA ρ 3 V a fun b=>mpOs ρ aw ρ obs fun bs es=>(b,bs)=(a,es):=by rfl) (hc:aw.length=c:=by rfl) (h1:ρ.Nodup:=by decide) (h2:∀ k,k<M->ρ[k]?=some k:=by decide):T Tryz.prog N .ret Q (mkA n l) aw:=T.rO dl nl ρ c h hc h1 h2
theorem tN (ρ:List Nat) [hq:RetI Q (fun fr aw=>bE Tryz.prog fr aw rs (Ret M (fun r aw'=>r=V/\aw'=obs) aw))] [g:GoodA 3 V] [g':GoodOs obs] (h:resC tyT n l aw rs fun vs=>nrmRC aw (b6 vs) fun a aw=>mpA ρ 3 V a fun b=>mpOs ρ aw ρ obs fun bs es=>(b,bs)=(a,es):=by rfl) (h1:ρ.Nodup:=by decide) (h2:∀ k,k<M->ρ[k]?=some k:=by decide):T Tryz.prog N .ret Q (mkA n l) aw:=T.rN dl ρ h h1 h2
variable {fn:Func}
theorem eN (ρ:List Nat) (hr:fn.results.toList=rs:=by rfl) [g:GoodA 3 V] [g':GoodOs obs] (h:resC tyT n l aw rs fun vs=>nrmRC aw (b6 vs) fun a aw=>mpA ρ 3 V a fun b=>mpOs ρ aw ρ obs fun bs es=>(b,bs)=(a,es):=by rfl) (h1:ρ.Nodup:=by decide) (h2:∀ k,k<M->ρ[k]?=some k:=by decide):retQ Tryz.prog fn M (fun r aw'=>r=V/\aw'=obs) .normal (mkA n l) aw:=by subst hr;exact rN_c dl ρ h h1 h2
variable {c:Code} {st:List Fr}
theorem X (f k:Nat) (h:gx false tyT Tryz.prog N n Q f (.cd c) st l aw k) (hk:aw.length=k:=by rfl):T Tryz.prog N c (qs Tryz.prog N st Q) (mkA n l) aw:=dV dl hk h
theorem Y (f k:Nat) (h:gx false tyT Tryz.prog N n Q f (.op ops os) st l aw k) (hk:aw.length=k:=by rfl):RS Tryz.prog N ops os (qs Tryz.prog N st Q .normal) (mkA n l) aw:=dV dl hk h
theorem Yp (f k:Nat) (h:gx true tyT Tryz.prog N n Q f (.op ops os) st l aw k) (hk:aw.length=k:=by rfl):RS Tryz.prog N ops os (qs Tryz.prog N st Q .normal) (mkA n l) aw:=dV dl hk h
theorem fT {f:FuncId} {fn:Func} {args:List AV} {QF:AV->List Ob->Prop} {m:Nat} (N q:Nat) (hf:Tryz.prog.funcs[f]?=some fn) (hm:fn.ntmps=m) (hb:fn.body=some c) (h:iniC 0 args fun l=>gx false tyT Tryz.prog N m (retQ Tryz.prog fn N QF) q (.cd c) [] l aw N) (hN:aw.length=N:=by rfl) (hname:(fn.name == "runtime.NumGoroutine")=false:=by kernel_rfl) (hl:Nat.ble args.length m=true:=by rfl):ACalls Tryz.prog f args aw QF:=fX dl N q hf hm h hb hN hname hl
end
end
instance {α:Type} {en:α->List AV} {xs:List (Bool × List α)} {e s:Nat} [h:EnP en]:GoodO (.cl e s (cL en xs)):=⟨fun _ hr=>Bp hr⟩
section
open Go.RowKit
set_option maxRecDepth 100000
set_option maxHeartbeats 4000000
set_option synthInstance.maxSize 100000
set_option synthInstance.maxHeartbeats 4000000
theorem xl {r:Net} (h:mh=some r):Fn Tryz.prog 18 [] (.agg (au r)):=by
 unfold mh at h;refine fT 0 6 Tryz.func18 Tryz.ntmps18 rfl (sO (aM (rows:=List.map ah [0]) (vs:=[iI 0]) Ty.s49 Ty.z3 rfl rfl rfl rfl rfl rfl (Y 1 2 (sO (aM (rows:=List.map ah [1]) (vs:=[iI 1]) Ty.s49 Ty.z3 rfl rfl rfl rfl rfl rfl (Y 1 3 (sO (aM (rows:=List.map ah [0,1]) (vs:=[iI 0,iI 1]) Ty.s49 Ty.z3 rfl rfl rfl rfl rfl rfl (sO (aM (rows:=List.map ah [2]) (vs:=[iI 2]) Ty.s49 Ty.z3 rfl rfl rfl rfl rfl rfl (Y 1 5 (sO (aM (rows:=List.map ah [2]) (vs:=[iI 2]) Ty.s49 Ty.z3 rfl rfl rfl rfl rfl rfl (Y 1 6 ?_))))))))))))));refine RS.fC 1 (RS.fC 2 (RS.fC 3 (RS.fC 4 (RS.fC 5 (sO (xP (rows:=List.map ai [(⟨1,0,[],[0]⟩:Node),(⟨1,1,[],[1]⟩:Node),(⟨6,0,[0,1],[2]⟩:Node),(⟨8,0,[2],[]⟩:Node)]) (vs:=[.agg [iI 1,iI 0,.nils,sL ah [0]],.agg [iI 1,iI 1,.nils,sL ah [1]],.agg [iI 6,iI 0,sL ah [0,1],sL ah [2]],.agg [iI 8,iI 0,sL ah [2],.nils]]) (vs2:=[.agg [iI 1,iI 0,sL ah [],sL ah [0]],.agg [iI 1,iI 1,sL ah [],sL ah [1]],.agg [iI 6,iI 0,sL ah [0,1],sL ah [2]],.agg [iI 8,iI 0,sL ah [2],sL ah []]]) Ty.s22 Ty.z61 rfl rfl rfl rfl rfl rfl (Y 3 7 ?_)))))));cases h;exact tD
theorem hJ {p0 p1:Int} {r:Item} (h:d6 p0 p1=some r):Fn Tryz.prog 19 [iI p0,iI p1] (.agg (aa r)):=by
 unfold d6 at h;refine fT 0 11 Tryz.func19 Tryz.ntmps19 rfl ?_;cases h;exact tD
theorem xn {p0 p1:Int} {r:Int × Int} (h:nZ p0 p1=some r):Fn Tryz.prog 176 [.int .u64 p0,.int .u64 p1] (.tup [.int .u64 r.1,.int .u64 r.2]):=by
 unfold nZ at h;refine fT 0 0 Tryz.func176 Tryz.ntmps176 rfl ?_;refine B h fun x2 hx2 h=>(X 14 0 (sQ (v_shr rfl rfl hx2 (B h fun x4 hx4 h=>(Y 11 0 (sQ (v_shr rfl rfl hx4 (B h fun x6 hx6 h=>(Y 15 0 (sQ (v_shr rfl rfl hx6 (B h fun x8 hx8 h=>?_))))))))))))
 refine Y 12 0 (sQ (v_shr rfl rfl hx8 (B h fun x10 hx10 h=>(Y 19 0 (sQ (v_shr rfl rfl hx10 (Y 10 0 ?_)))))));cases h;exact tD
theorem xA {p0 p1:Int} {r:Int × Int} (h:mw p0 p1=some r):Fn Tryz.prog 168 [.int .u64 p0,.int .u64 p1] (.tup [.int .u64 r.1,.int .u64 r.2]):=by
 unfold mw at h;refine fT 0 0 Tryz.func168 Tryz.ntmps168 rfl ?_;refine B h fun x2 hx2 h=>(X 12 0 (sO (cF (xn hx2) ⟨rfl,(Y 13 0 ?_)⟩)))
 cases h;exact tD
theorem w8 {p0:List Ends} {p1:Int} {r:List Ends} (h:kD p0 p1=some r):FnO Tryz.prog 155 [sL aL p0,iI p1] (.ref 0) [aR 194 2 aL r]:=by
 unfold kD at h;refine fT 0 10 Tryz.func155 Tryz.ntmps155 rfl (T.ci h rfl (fun hb_1 h=>?_) (fun hb_1 h=>?_))
 ·cases h
 refine B h fun x2 hx2 h=>(X 4 0 (sQ (aj Ty.s190 rfl (Y 3 0 (sO (cF (xA hx2) ⟨rfl,(Y 7 0 (j1 [(0,sL aL p0),(6,.int .u64 x2.2),(26,.bool ((decide (x2.1 > 0)) || decide (x2.2 > 9223372036854775807)))] [] ?_ (fun hK=>?_)))⟩))))))
 ·refine T.ci h rfl (fun hb_3 h=>?_) (fun hb_3 h=>?_)
  ·cases h
  refine B h fun x5 hx5 h=>(X 5 0 (sO (cz (en:=aL) (zr:=(⟨0,0⟩:Ends)) Ty.s190 Ty.z194 rfl rfl hx5 rfl rfl (Y 6 1 (sO (zC (en:=aL) (xs:=x5) (ys:=p0) Ty.s190 (fun _=>rfl) rfl rfl rfl rfl (Y 4 1 (itr (fun ss_8:Int × (List Ends)=>mkA 48 [(7,.ref 0),(8,iI ss_8.1)]) (fun ss_8=>[aR 194 2 aL ss_8.2]) h (wk [] [0] 1 rfl) (fun ss_8 v_9 h hv_9=>?_)))))))))
  obtain ⟨s6,s7⟩:=ss_8;replace h:fS s6 s7=some v_9:=h;try dsimp only
  unfold fS at h;refine X 5 1 (sQ (bt (en:=aL) Ty.s190 rfl rfl (Y 2 1 (T.ci h rfl (fun hb_10 h=>?_) (fun hb_10 h=>?_)))))
  ·refine B h fun x8 hx8 h=>(B h fun x9 hx9 h=>(B h fun x10 hx10 h=>(B h fun x11 hx11 h=>(X 2 1 (T.drawn mixed (k:=10) rfl ?_)))))
   apply RA.jn 3 (bm 10 127);intro hS11
   ·refine rq [0,1,2,4,5] 5 (ra2 3 6 ?_ ?_)
    ·exact oO rfl (dK (en:=aL) (xs:=s7) Ty.s190 rfl rfl rfl rfl hx8 (ra1 6 (oO rfl (dK (en:=aL) (xs:=s7) Ty.s190 rfl rfl rfl rfl hx9 (raE hS11)))))
    ·exact oO rfl (dK (en:=aL) (xs:=s7) Ty.s190 rfl rfl rfl rfl hx9 (ra1 3 (oO rfl (dK (en:=aL) (xs:=s7) Ty.s190 rfl rfl rfl rfl hx8 (raT hS11)))))
   exact ra1 7 (oO rfl (z7 (en:=aL) (xs:=s7) Ty.s190 (fun _=>rfl) rfl rfl rfl hx10 hx11 rfl (rq [8,9] 0 (RA.done (by decide +kernel) (lk h (wk [] [0] 1 rfl))))))
  refine X 1 1 ?_;replace h:=mi h hv_9;refine X 5 1 ?_;cases h;exact tO [] [0] 1
 refine X 5 0 (gp 23 (fun hb_2=>?_) (fun hb_2=>?_))
 ·refine Yp 4 0 ?_;rw [hb_2] at hK;exact sx hK
 refine Yp 4 0 ?_;rw [hb_2] at hK;exact sx hK
theorem yu {p0:Int} {r:Int × Int × Bool} (h:k9 p0=some r):Fn Tryz.prog 156 [iI p0] (.tup [iI r.1,iI r.2.1,.bool r.2.2]):=by
 unfold k9 at h;refine fT 0 17 Tryz.func156 Tryz.ntmps156 rfl (T.ci h rfl (fun hb_1 h=>?_) (fun hb_1 h=>?_))
 ·refine X 6 0 ?_;cases h;exact tD
 refine jn (Z:=Bool) (fun zz_4=>mkA 19 [(5,iI p0),(8,.bool zz_4)]) (fun zz_4=>[]) (fun zz_4=>hY p0 zz_4=some r) (fun zz_4 h=>?_) (fun hK2=>?_)
 ·revert h;revert zz_4;intro z1 h;replace h:hY p0 z1=some r:=h;try dsimp only
  unfold hY at h;refine T.ci h rfl (fun hb_5 h=>?_) (fun hb_5 h=>?_)
  ·refine X 6 0 ?_;cases h;exact tD
  refine jn (Z:=Bool) (fun zz_7=>mkA 19 [(5,iI p0),(12,.bool zz_7)]) (fun zz_7=>[]) (fun zz_7=>jv p0 zz_7=some r) (fun zz_7 h=>?_) (fun hK1=>?_)
  ·revert h;revert zz_7;intro z2 h;replace h:jv p0 z2=some r:=h;try dsimp only
   unfold jv at h;refine T.ci h rfl (fun hb_8 h=>?_) (fun hb_8 h=>?_)
   ·refine X 6 0 ?_;cases h;exact tD
   refine X 5 0 (T.ci h rfl (fun hb_9 h=>?_) (fun hb_9 h=>?_))
   ·refine X 6 0 ?_;cases h;exact tD
   refine X 5 0 (T.ci h rfl (fun hb_10 h=>?_) (fun hb_10 h=>?_))
   ·refine X 6 0 ?_;cases h;exact tD
   refine X 7 0 ?_;cases h;exact tD
  refine X 6 0 (T.ci h rfl (fun hb_11 h=>?_) (fun hb_11 h=>?_))
  ·exact X 1 0 (wu (hK1 (p0==5) h) [] [] 0 rfl)
  exact X 4 0 (wu (hK1 (p0==7) h) [] [] 0 rfl)
 refine X 6 0 (T.ci h rfl (fun hb_12 h=>?_) (fun hb_12 h=>?_))
 ·exact X 1 0 (wu (hK2 (p0==2) h) [] [] 0 rfl)
 refine X 5 0 (T.ci h rfl (fun hb_13 h=>?_) (fun hb_13 h=>?_))
 ·exact X 1 0 (wu (hK2 (p0==3) h) [] [] 0 rfl)
 exact X 4 0 (wu (hK2 (p0==4) h) [] [] 0 rfl)
theorem qX {p0 p1:Int} {r:Bool} (h:jU p0 p1=some r):Fn Tryz.prog 157 [iI p0,iI p1] (.bool r):=by
 unfold jU at h;refine fT 0 4 Tryz.func157 Tryz.ntmps157 rfl (j1 [(4,.bool ((p0==p1) || ((decide (p1<0)) && decide (p0 > 0))))] [] ?_ (fun hK=>?_))
 ·cases h;exact tD
 refine X 6 0 (gp 8 (fun hb_1=>?_) (fun hb_1=>?_))
 ·refine Yp 9 0 ?_;rw [hb_1] at hK;exact sx hK
 refine Y 3 0 (gp 11 (fun hb_2=>?_) (fun hb_2=>?_))
 ·refine Yp 6 0 ?_;rw [hb_1] at hK;rw [hb_2] at hK;exact sx hK
 refine Yp 6 0 ?_;rw [hb_1] at hK;rw [hb_2] at hK;exact sx hK
theorem y3 {p0:Net} {r:(List Ends) × Int} (h:lv p0=some r):FnO Tryz.prog 127 [.agg (au p0)] (.tup [.ref 0,iI r.2]) [aR 194 2 aL r.1]:=by
 unfold lv at h;refine fT 0 7 Tryz.func127 Tryz.ntmps127 rfl (j1 [(1,.ptr 0 0),(36,.bool ((decide (((p0.Nodes).length:Int)<1)) || ((decide (((p0.Nodes).length:Int) > 12)) || ((decide (p0.Rings<0)) || decide (p0.Rings > 16)))))] [.box (au p0)] ?_ (fun hK=>?_))
 ·refine T.ci h rfl (fun hb_4 h=>?_) (fun hb_4 h=>?_)
  ·refine X 5 1 ?_;cases h;exact tO [(0,194,2)] [1] 1
  refine X 2 1 (j1 [(1,.ptr 0 0),(44,.bool ((decide (p0.Room<1)) || decide (p0.Room > 6)))] [.box (au p0)] ?_ (fun hK=>?_))
  ·refine T.ci h rfl (fun hb_6 h=>?_) (fun hb_6 h=>?_)
   ·refine X 5 1 ?_;cases h;exact tO [(0,194,2)] [1] 1
   refine B h fun x4 hx4 h=>(X 4 1 (sO (aM (rows:=List.map aL [(⟨(-1),(-1)⟩:Ends)]) (vs:=[.agg [iI (-1),iI (-1)]]) Ty.s190 Ty.z194 rfl rfl rfl rfl rfl rfl (Y 2 2 (sO (cO 2 (w8 hx4) ⟨rfl,(Y 11 3 (sQ (aj Ty.s22 rfl (Y 3 3 (itr (fun ss_123:Int × Int × (List Ends)=>mkA 197 [(1,.ptr 0 0),(4,.ref 1),(5,iI ss_123.1),(51,sL ai p0.Nodes),(52,iI ((p0.Nodes).length:Int)),(53,iI ss_123.2.1)]) (fun ss_123=>[.box (au p0),aR 194 2 aL ss_123.2.2]) h (wk [] [0,2] 3 rfl) (fun ss_123 v_124 h hv_124=>?_))))))⟩))))))
   obtain ⟨s5,s6,s7⟩:=ss_123;replace h:gH p0 s5 s6 s7=some v_124:=h;try dsimp only
   unfold gH at h;refine X 5 2 (T.ci h rfl (fun hb_125 h=>?_) (fun hb_125 h=>?_))
   ·refine B h fun x9 hx9 h=>(X 6 2 (sQ (ao Ty.s22 (fun _=>rfl) rfl rfl hx9 (B h fun x11 hx11 h=>(Y 9 2 (sO (cF (yu hx11) ⟨rfl,(Y 14 3 (T.ci h rfl (fun hb_126 h=>?_) (fun hb_126 h=>?_)))⟩)))))))
    ·refine X 5 3 ?_;replace h:=mi h hv_124;cases h;exact tO [(0,194,2)] [3] 3
    refine B h fun x12 hx12 h=>(X 2 3 ?_)
    obtain ⟨zt_129,hz,h⟩:=bind_some h;revert hz h;revert zt_129;intro c14 hz h;refine j1 [(1,.ptr 0 0),(4,.ref 1),(5,iI s5),(6,iI s6),(7,.ptr 2 0),(51,sL ai p0.Nodes),(52,iI ((p0.Nodes).length:Int)),(53,iI s6),(80,.bool c14)] [.box (au p0),aR 194 2 aL s7,.box (ai x9)] ?_ (fun hK=>?_)
    ·refine T.ci h rfl (fun hb_130 h=>?_) (fun hb_130 h=>?_)
     ·refine X 5 3 ?_;replace h:=mi h hv_124;cases h;exact tO [(0,194,2)] [3] 3
     refine X 2 3 (j1 [(1,.ptr 0 0),(4,.ref 1),(5,iI s5),(6,iI s6),(7,.ptr 2 0),(51,sL ai p0.Nodes),(52,iI ((p0.Nodes).length:Int)),(53,iI s6),(118,.bool ((decide (x9.A<0)) || (if (x9.Kind==1)=true then ((decide (x9.A >= 4)) || (if (x9.Kind==2)=true then ((decide (x9.A > 3)) || ((x9.Kind != 1) && ((x9.Kind != 2) && x9.A != 0))) else ((x9.Kind != 1) && ((x9.Kind != 2) && x9.A != 0)))) else (if (x9.Kind==2)=true then ((decide (x9.A > 3)) || ((x9.Kind != 1) && ((x9.Kind != 2) && x9.A != 0))) else ((x9.Kind != 1) && ((x9.Kind != 2) && x9.A != 0))))))] [.box (au p0),aR 194 2 aL s7,.box (ai x9)] ?_ (fun hK=>?_))
     ·refine T.ci h rfl (fun hb_147 h=>?_) (fun hb_147 h=>?_)
      ·refine X 5 3 ?_;replace h:=mi h hv_124;cases h;exact tO [(0,194,2)] [3] 3
      refine X 1 3 (jn (Z:=Int) (fun zz_150=>mkA 197 [(1,.ptr 0 0),(4,.ref 1),(5,iI zz_150),(6,iI s6),(7,.ptr 2 0),(51,sL ai p0.Nodes),(52,iI ((p0.Nodes).length:Int)),(53,iI s6)]) (fun zz_150=>[.box (au p0),aR 194 2 aL s7,.box (ai x9)]) (fun zz_150=>ib p0 s6 s7 x9 zz_150=some v_124) (fun zz_150 h=>?_) (fun hK3=>?_))
      ·revert h;revert zz_150;intro z15 h;replace h:ib p0 s6 s7 x9 z15=some v_124:=h;try dsimp only
       unfold ib at h;refine X 5 3 (sQ (aj Ty.s49 rfl (Y 3 3 (itr (fun ss_159:Int × (List Ends)=>mkA 197 [(1,.ptr 0 0),(4,.ref 1),(5,iI z15),(6,iI s6),(7,.ptr 2 0),(51,sL ai p0.Nodes),(52,iI ((p0.Nodes).length:Int)),(53,iI s6),(125,sL ah x9.In),(126,iI ((x9.In).length:Int)),(127,iI ss_159.1)]) (fun ss_159=>[.box (au p0),aR 194 2 aL ss_159.2,.box (ai x9)]) h (wk [] [0,1,2] 3 rfl) (fun ss_159 v_160 h hv_160=>?_)))));obtain ⟨s16,s17⟩:=ss_159;replace h:gG p0 s6 x9 z15 s16 s17=some v_160:=h;try dsimp only
       unfold gG at h;refine X 5 3 (T.ci h rfl (fun hb_161 h=>?_) (fun hb_161 h=>?_))
       ·refine B h fun x19 hx19 h=>(X 5 3 (sQ (ao Ty.s49 (fun _=>rfl) rfl rfl hx19 (Y 4 3 (j1 [(1,.ptr 0 0),(4,.ref 1),(5,iI z15),(6,iI s6),(7,.ptr 2 0),(12,iI x19),(51,sL ai p0.Nodes),(52,iI ((p0.Nodes).length:Int)),(53,iI s6),(125,sL ah x9.In),(126,iI ((x9.In).length:Int)),(127,iI s16),(138,.bool ((decide (x19<0)) || decide (x19 >= p0.Rings)))] [.box (au p0),aR 194 2 aL s17,.box (ai x9)] ?_ (fun hK=>?_))))))
        ·refine T.ci h rfl (fun hb_163 h=>?_) (fun hb_163 h=>?_)
         ·refine X 5 3 ?_;replace h:=mi h hv_160;replace h:=mi h hv_124;cases h;exact tO [(0,194,2)] [3] 3
         refine B h fun x23 hx23 h=>(B h fun x24 hx24 h=>(X 6 3 (sQ (aA (en:=aL) Ty.s190 rfl rfl rfl hx23 (Y 1 3 (sO (aB (en:=aL) (a:=x24) rfl rfl hx24 (aE Ty.k3 (c:=iI x24.dst) rfl (Y 2 3 (T.ci h rfl (fun hb_166 h=>?_) (fun hb_166 h=>?_)))))))))))
         ·refine X 5 3 ?_;replace h:=mi h hv_160;replace h:=mi h hv_124;cases h;exact tO [(0,194,2)] [3] 3
         exact B h fun x25 hx25 h=>(B h fun x26 hx26 h=>(X 5 3 (sQ (aA (en:=aL) Ty.s190 rfl rfl rfl hx25 (Y 1 3 (sO (cB (en:=aL) (a:=x26) (a':=(⟨x26.src,s6⟩:Ends)) Ty.c3 Ty.i3 rfl (vs:=[iI s6]) rfl rfl rfl hx26 rfl rfl rfl (Y 5 3 (lk h (wk [] [0,1,2] 3 rfl))))))))))
        refine X 5 3 (gp 133 (fun hb_162=>?_) (fun hb_162=>?_))
        ·refine Yp 6 3 ?_;rw [hb_162] at hK;exact sx hK
        refine Yp 6 3 ?_;rw [hb_162] at hK;exact sx hK
       refine X 1 3 ?_;replace h:=mi h hv_160;refine X 4 3 (sQ (aj Ty.s49 rfl (Y 3 3 (itr (fun ss_178:Int × (List Ends)=>mkA 197 [(1,.ptr 0 0),(4,.ref 1),(5,iI z15),(6,iI s6),(51,sL ai p0.Nodes),(52,iI ((p0.Nodes).length:Int)),(53,iI s6),(152,sL ah x9.Out),(153,iI ((x9.Out).length:Int)),(154,iI ss_178.1)]) (fun ss_178=>[.box (au p0),aR 194 2 aL ss_178.2]) h (wk [] [0,1] 3 rfl) (fun ss_178 v_179 h hv_179=>?_)))));obtain ⟨s27,s28⟩:=ss_178;replace h:gB p0 s6 x9 z15 s27 s28=some v_179:=h;try dsimp only
       unfold gB at h;refine X 5 2 (T.ci h rfl (fun hb_180 h=>?_) (fun hb_180 h=>?_))
       ·refine B h fun x30 hx30 h=>(X 5 2 (sQ (ao Ty.s49 (fun _=>rfl) rfl rfl hx30 (Y 4 2 (j1 [(1,.ptr 0 0),(4,.ref 1),(5,iI z15),(6,iI s6),(14,iI x30),(51,sL ai p0.Nodes),(52,iI ((p0.Nodes).length:Int)),(53,iI s6),(152,sL ah x9.Out),(153,iI ((x9.Out).length:Int)),(154,iI s27),(165,.bool ((decide (x30<0)) || decide (x30 >= p0.Rings)))] [.box (au p0),aR 194 2 aL s28] ?_ (fun hK=>?_))))))
        ·refine T.ci h rfl (fun hb_182 h=>?_) (fun hb_182 h=>?_)
         ·refine X 5 2 ?_;replace h:=mi h hv_179;replace h:=mi h hv_124;cases h;exact tO [(0,194,2)] [2] 2
         refine B h fun x34 hx34 h=>(B h fun x35 hx35 h=>(X 6 2 (sQ (aA (en:=aL) Ty.s190 rfl rfl rfl hx34 (Y 1 2 (sO (aB (en:=aL) (a:=x35) rfl rfl hx35 (aE Ty.k3 (c:=iI x35.src) rfl (Y 2 2 (T.ci h rfl (fun hb_185 h=>?_) (fun hb_185 h=>?_)))))))))))
         ·refine X 5 2 ?_;replace h:=mi h hv_179;replace h:=mi h hv_124;cases h;exact tO [(0,194,2)] [2] 2
         exact B h fun x36 hx36 h=>(B h fun x37 hx37 h=>(X 5 2 (sQ (aA (en:=aL) Ty.s190 rfl rfl rfl hx36 (Y 1 2 (sO (cB (en:=aL) (a:=x37) (a':=(⟨s6,x37.dst⟩:Ends)) Ty.c3 Ty.i3 rfl (vs:=[iI s6]) rfl rfl rfl hx37 rfl rfl rfl (Y 5 2 (lk h (wk [] [0,1] 2 rfl))))))))))
        refine X 5 2 (gp 160 (fun hb_181=>?_) (fun hb_181=>?_))
        ·refine Yp 6 2 ?_;rw [hb_181] at hK;exact sx hK
        refine Yp 6 2 ?_;rw [hb_181] at hK;exact sx hK
       refine X 1 2 ?_;replace h:=mi h hv_179;exact X 4 2 (lk h (wk [] [0,1] 2 rfl))
      refine X 7 3 (T.ci h rfl (fun hb_189 h=>?_) (fun hb_189 h=>?_))
      ·exact X 5 3 (wu (hK3 (IntKind.i64.wrap (s5+1)) h) [] [0,1,2] 3 rfl)
      exact X 1 3 (sx (hK3 s5 h))
     refine X 6 3 ?_;rcases ba (decide (x9.A<0)) with hb_132 | hb_132
     ·exact gT 84 hb_132 (Yp 35 3 (T.sub hK ⟨rfl,rfl,rfl,rfl,rfl,rfl,rfl,rfl,(congrArg AV.bool (by simp only [hb_132,bz,if_true,if_false,Bool.false_eq_true])).symm,trivial⟩))
     refine yg 3 hb_132 (yg 3 hb_132 (yg 3 hb_132 (yg 3 hb_132 ?_)));rcases ba (x9.Kind==1) with hb_133 | hb_133
     ·refine yg 3 hb_133 (yg 3 hb_133 (yg 3 hb_133 (yQ hb_132 (aY (v:=.bool (decide (x9.A >= 4))) rfl hb_133 rfl (sQ (aP (v:=.bool (decide (x9.A >= 4))) rfl hb_132 rfl (Y 1 3 ?_)))))));rcases ba (decide (x9.A >= 4)) with hb_134 | hb_134
      ·exact gT 94 hb_134 (Yp 25 3 (T.sub hK ⟨rfl,rfl,rfl,rfl,rfl,rfl,rfl,rfl,(congrArg AV.bool (by simp only [hb_132,hb_133,hb_134,bz,if_true,if_false,Bool.false_eq_true])).symm,trivial⟩))
      refine yg 3 hb_134 (yg 3 hb_134 (yg 3 hb_134 (yg 3 hb_134 ?_)));rcases ba (x9.Kind==2) with hb_135 | hb_135
      ·refine yg 3 hb_135 (yg 3 hb_135 (yg 3 hb_135 (yQ hb_134 (aY (v:=.bool (decide (x9.A > 3))) rfl hb_135 rfl (sQ (aP (v:=.bool (decide (x9.A > 3))) rfl hb_134 rfl (Y 1 3 ?_)))))));rcases ba (decide (x9.A > 3)) with hb_136 | hb_136
       ·exact gT 104 hb_136 (Yp 15 3 (T.sub hK ⟨rfl,rfl,rfl,rfl,rfl,rfl,rfl,rfl,(congrArg AV.bool (by simp only [hb_132,hb_133,hb_134,hb_135,hb_136,bz,if_true,if_false,Bool.false_eq_true])).symm,trivial⟩))
       refine yg 3 hb_136 (yg 3 hb_136 (yg 3 hb_136 (yg 3 hb_136 ?_)));rcases ba (x9.Kind != 1) with hb_137 | hb_137
       ·refine yg 3 hb_137 (yg 3 hb_137 (yg 3 hb_137 (yQ hb_136 (aY (v:=.bool (x9.Kind != 2)) rfl hb_137 rfl (yg 3 hb_136 ?_)))));rcases ba (x9.Kind != 2) with hb_138 | hb_138
        ·exact gT 113 hb_138 (Y 3 3 (gF 104 hb_136 (Yp 3 3 (T.sub hK ⟨rfl,rfl,rfl,rfl,rfl,rfl,rfl,rfl,(congrArg AV.bool (by simp only [hb_132,hb_133,hb_134,hb_135,hb_136,hb_137,hb_138,bz,if_true,if_false,Bool.false_eq_true])).symm,trivial⟩))))
        exact gF 113 hb_138 (Y 3 3 (gF 104 hb_136 (Yp 3 3 (T.sub hK ⟨rfl,rfl,rfl,rfl,rfl,rfl,rfl,rfl,(congrArg AV.bool (by simp only [hb_132,hb_133,hb_134,hb_135,hb_136,hb_137,hb_138,bz,if_true,if_false,Bool.false_eq_true])).symm,trivial⟩))))
       exact gF 108 hb_137 (Y 3 3 (gF 104 hb_136 (Yp 8 3 (T.sub hK ⟨rfl,rfl,rfl,rfl,rfl,rfl,rfl,rfl,(congrArg AV.bool (by simp only [hb_132,hb_133,hb_134,hb_135,hb_136,hb_137,bz,if_true,if_false,Bool.false_eq_true])).symm,trivial⟩))))
      refine sN hb_135 (sN hb_135 (sN hb_135 (yQ hb_134 (aP (v:=.bool false) rfl hb_135 rfl (sQ (aP (v:=.bool false) rfl hb_134 rfl (Y 1 3 (yg 3 rfl (yg 3 rfl (yg 3 rfl (yg 3 rfl ?_)))))))))));rcases ba (x9.Kind != 1) with hb_139 | hb_139
      ·refine yg 3 hb_139 (yg 3 hb_139 (yg 3 hb_139 (yQ rfl (aY (v:=.bool (x9.Kind != 2)) rfl hb_139 rfl (yg 3 rfl ?_)))));rcases ba (x9.Kind != 2) with hb_140 | hb_140
       ·exact gT 113 hb_140 (Yp 6 3 (T.sub hK ⟨rfl,rfl,rfl,rfl,rfl,rfl,rfl,rfl,(congrArg AV.bool (by simp only [hb_132,hb_133,hb_134,hb_135,hb_139,hb_140,bz,if_true,if_false,Bool.false_eq_true])).symm,trivial⟩))
       exact gF 113 hb_140 (Yp 6 3 (T.sub hK ⟨rfl,rfl,rfl,rfl,rfl,rfl,rfl,rfl,(congrArg AV.bool (by simp only [hb_132,hb_133,hb_134,hb_135,hb_139,hb_140,bz,if_true,if_false,Bool.false_eq_true])).symm,trivial⟩))
      exact gF 108 hb_139 (Yp 11 3 (T.sub hK ⟨rfl,rfl,rfl,rfl,rfl,rfl,rfl,rfl,(congrArg AV.bool (by simp only [hb_132,hb_133,hb_134,hb_135,hb_139,bz,if_true,if_false,Bool.false_eq_true])).symm,trivial⟩))
     refine sN hb_133 (sN hb_133 (sN hb_133 (yQ hb_132 (aP (v:=.bool false) rfl hb_133 rfl (sQ (aP (v:=.bool false) rfl hb_132 rfl (Y 1 3 (yg 3 rfl (yg 3 rfl (yg 3 rfl (yg 3 rfl ?_)))))))))));rcases ba (x9.Kind==2) with hb_141 | hb_141
     ·refine yg 3 hb_141 (yg 3 hb_141 (yg 3 hb_141 (yQ rfl (aY (v:=.bool (decide (x9.A > 3))) rfl hb_141 rfl (sQ (aP (v:=.bool (decide (x9.A > 3))) rfl rfl rfl (Y 1 3 ?_)))))));rcases ba (decide (x9.A > 3)) with hb_142 | hb_142
      ·exact gT 104 hb_142 (Yp 15 3 (T.sub hK ⟨rfl,rfl,rfl,rfl,rfl,rfl,rfl,rfl,(congrArg AV.bool (by simp only [hb_132,hb_133,hb_141,hb_142,bz,if_true,if_false,Bool.false_eq_true])).symm,trivial⟩))
      refine yg 3 hb_142 (yg 3 hb_142 (yg 3 hb_142 (yg 3 hb_142 ?_)));rcases ba (x9.Kind != 1) with hb_143 | hb_143
      ·refine yg 3 hb_143 (yg 3 hb_143 (yg 3 hb_143 (yQ hb_142 (aY (v:=.bool (x9.Kind != 2)) rfl hb_143 rfl (yg 3 hb_142 ?_)))));rcases ba (x9.Kind != 2) with hb_144 | hb_144
       ·exact gT 113 hb_144 (Y 3 3 (gF 104 hb_142 (Yp 3 3 (T.sub hK ⟨rfl,rfl,rfl,rfl,rfl,rfl,rfl,rfl,(congrArg AV.bool (by simp only [hb_132,hb_133,hb_141,hb_142,hb_143,hb_144,bz,if_true,if_false,Bool.false_eq_true])).symm,trivial⟩))))
       exact gF 113 hb_144 (Y 3 3 (gF 104 hb_142 (Yp 3 3 (T.sub hK ⟨rfl,rfl,rfl,rfl,rfl,rfl,rfl,rfl,(congrArg AV.bool (by simp only [hb_132,hb_133,hb_141,hb_142,hb_143,hb_144,bz,if_true,if_false,Bool.false_eq_true])).symm,trivial⟩))))
      exact gF 108 hb_143 (Y 3 3 (gF 104 hb_142 (Yp 8 3 (T.sub hK ⟨rfl,rfl,rfl,rfl,rfl,rfl,rfl,rfl,(congrArg AV.bool (by simp only [hb_132,hb_133,hb_141,hb_142,hb_143,bz,if_true,if_false,Bool.false_eq_true])).symm,trivial⟩))))
     refine sN hb_141 (sN hb_141 (sN hb_141 (yQ rfl (aP (v:=.bool false) rfl hb_141 rfl (sQ (aP (v:=.bool false) rfl rfl rfl (Y 1 3 (yg 3 rfl (yg 3 rfl (yg 3 rfl (yg 3 rfl ?_)))))))))));rcases ba (x9.Kind != 1) with hb_145 | hb_145
     ·refine yg 3 hb_145 (yg 3 hb_145 (yg 3 hb_145 (yQ rfl (aY (v:=.bool (x9.Kind != 2)) rfl hb_145 rfl (yg 3 rfl ?_)))));rcases ba (x9.Kind != 2) with hb_146 | hb_146
      ·exact gT 113 hb_146 (Yp 6 3 (T.sub hK ⟨rfl,rfl,rfl,rfl,rfl,rfl,rfl,rfl,(congrArg AV.bool (by simp only [hb_132,hb_133,hb_141,hb_145,hb_146,bz,if_true,if_false,Bool.false_eq_true])).symm,trivial⟩))
      exact gF 113 hb_146 (Yp 6 3 (T.sub hK ⟨rfl,rfl,rfl,rfl,rfl,rfl,rfl,rfl,(congrArg AV.bool (by simp only [hb_132,hb_133,hb_141,hb_145,hb_146,bz,if_true,if_false,Bool.false_eq_true])).symm,trivial⟩))
     exact gF 108 hb_145 (Yp 11 3 (T.sub hK ⟨rfl,rfl,rfl,rfl,rfl,rfl,rfl,rfl,(congrArg AV.bool (by simp only [hb_132,hb_133,hb_141,hb_145,bz,if_true,if_false,Bool.false_eq_true])).symm,trivial⟩))
    refine X 4 3 (sQ (aj Ty.s49 rfl (Y 1 3 (sO (cF (qX hx12) ⟨rfl,(Y 2 3 (gi 73 hz (fun hb_128 hz=>?_) (fun hb_128 hz=>?_)))⟩)))))
    ·refine Yp 8 3 ?_;cases hz;exact sx hK
    refine B hz fun x13 hx13 hz=>(Y 2 3 (yQ rfl (aj Ty.s49 rfl (Y 1 3 (yO rfl (cF (qX hx13) ⟨rfl,(Yp 3 3 ?_)⟩))))))
    cases hz;exact sx hK
   refine X 1 2 ?_;replace h:=mi h hv_124;refine X 4 2 (sQ (bt (en:=aL) Ty.s190 rfl rfl (Y 3 2 (itr (fun ss_197:Int=>mkA 197 [(4,.ref 0),(5,iI s5),(179,.ref 0),(180,iI ((s7).length:Int)),(181,iI ss_197)]) (fun ss_197=>[aR 194 2 aL s7]) h (wk [] [1] 2 rfl) (fun ss_197 v_198 h hv_198=>?_)))));revert hv_198 h;revert ss_197;intro s38 h hv_198;replace h:ic s5 s7 s38=some v_198:=h;try dsimp only
   unfold ic at h;refine X 5 1 (T.ci h rfl (fun hb_199 h=>?_) (fun hb_199 h=>?_))
   ·refine B h fun x41 hx41 h=>(B h fun x42 hx42 h=>(X 5 1 (sQ (aA (en:=aL) Ty.s190 rfl rfl rfl hx41 (sO (aB (en:=aL) (a:=x42) rfl rfl hx42 (cm Ty.k194 Ty.c194 rfl (cs:=(aL x42)) rfl (Y 3 1 (j1 [(4,.ref 0),(5,iI s5),(179,.ref 0),(180,iI ((s7).length:Int)),(181,iI s38),(192,.bool ((decide (x42.src<0)) || decide (x42.dst<0)))] [aR 194 2 aL s7] ?_ (fun hK=>?_))))))))))
    ·refine T.ci h rfl (fun hb_201 h=>?_) (fun hb_201 h=>?_)
     ·refine X 5 1 ?_;replace h:=mi h hv_198;cases h;exact tO [(0,194,2)] [1] 1
     exact X 5 1 (lk h (wk [] [0] 1 rfl))
    refine X 6 2 (gp 188 (fun hb_200=>?_) (fun hb_200=>?_))
    ·refine Yp 5 2 ?_;rw [hb_200] at hK;exact wu hK [] [0] 2 rfl
    refine Yp 5 2 ?_;rw [hb_200] at hK;exact wu hK [] [0] 2 rfl
   refine X 1 1 ?_;replace h:=mi h hv_198;refine X 6 1 (T.ci h rfl (fun hb_204 h=>?_) (fun hb_204 h=>?_))
   ·refine X 5 1 ?_;cases h;exact tO [(0,194,2)] [1] 1
   refine X 7 1 ?_;cases h;exact tO [] [0] 1
  refine X 6 1 (gp 40 (fun hb_5=>?_) (fun hb_5=>?_))
  ·refine Yp 5 1 ?_;rw [hb_5] at hK;exact sx hK
  refine Yp 5 1 ?_;rw [hb_5] at hK;exact sx hK
 refine X 4 1 (sQ (aj Ty.s22 rfl (Y 2 1 (gp 21 (fun hb_1=>?_) (fun hb_1=>?_)))))
 ·refine Yp 16 1 ?_;rw [hb_1] at hK;exact sx hK
 refine Y 2 1 (yQ rfl (aj Ty.s22 rfl (Yp 3 1 (gp 27 (fun hb_2=>?_) (fun hb_2=>?_)))))
 ·refine Yp 10 1 ?_;rw [hb_1] at hK;rw [hb_2] at hK;exact sx hK
 refine Yp 5 1 (gp 32 (fun hb_3=>?_) (fun hb_3=>?_))
 ·refine Yp 5 1 ?_;rw [hb_1] at hK;rw [hb_2] at hK;rw [hb_3] at hK;exact sx hK
 refine Yp 5 1 ?_;rw [hb_1] at hK;rw [hb_2] at hK;rw [hb_3] at hK;exact sx hK
theorem xa {p0:Int} {p1:List Bool} {p2:List Ends} {r:Bool} (h:kE p0 p1 p2=some r):FnX Tryz.prog 128 [iI p0,.ptr 0 0,.ptr 1 0] [.box [.ref 2],.box [.ref 3],aR 4 1 bF p1,aR 194 2 aL p2] (.bool r) [.box [.ref 2],.box [.ref 3],aR 4 1 bF p1,aR 194 2 aL p2]:=by
 unfold kE at h;refine fT 4 0 Tryz.func128 Tryz.ntmps128 rfl ?_;refine B h fun x5 hx5 h=>(B h fun x6 hx6 h=>(B h fun x7 hx7 h=>(B h fun x8 hx8 h=>(X 5 4 (T.drawn mixed (k:=10) rfl (rq [2] 9 (rL [1,3,4,5,6,7,8,9] 1 rfl (r0 3 rfl (aA (en:=aL) Ty.s190 rfl rfl rfl hx5 (rq [4] 6 ?_))))))))))
 refine rL [0,6,7,8,9] 0 rfl (ra1 5 (oO rfl (aB (en:=aL) (a:=x6) rfl rfl hx6 (aE Ty.k3 (c:=iI x6.src) rfl (r0 6 rfl (aA (en:=bF) Ty.s126 rfl rfl rfl hx7 (ra1 7 (oO rfl (aB (en:=bF) (a:=x8) rfl rfl hx8 (aE Ty.k4 (c:=.bool x8) rfl (rq [8,9] 0 (RA.done (by decide +kernel) ?_))))))))))));cases h;exact tN [0,1,2,3]
theorem wK {p0:List Int} {p1:List Bool} {p2:List Ends} {r:Int} (h:l8 p0 p1 p2=some r):FnX Tryz.prog 129 [sL ah p0,.func 128 [.ptr 0 0,.ptr 1 0]] [.box [.ref 2],.box [.ref 3],aR 4 1 bF p1,aR 194 2 aL p2] (iI r) [.box [.ref 2],.box [.ref 3],aR 4 1 bF p1,aR 194 2 aL p2]:=by
 unfold l8 at h;refine fT 4 8 Tryz.func129 Tryz.ntmps129 rfl (sQ (aj Ty.s49 rfl (Y 3 4 (itr (fun ss_5:Int=>mkA 19 [(0,sL ah p0),(1,.func 128 [.ptr 0 0,.ptr 1 0]),(7,iI ((p0).length:Int)),(8,iI ss_5)]) (fun ss_5=>[.box [.ref 2],.box [.ref 3],aR 4 1 bF p1,aR 194 2 aL p2]) h (wk [] [0,1,2,3] 4 rfl) (fun ss_5 v_6 h hv_6=>?_)))));revert hv_6 h;revert ss_5;intro s1 h hv_6;replace h:iW p0 p1 p2 s1=some v_6:=h;try dsimp only
 unfold iW at h;refine X 5 4 (T.ci h rfl (fun hb_7 h=>?_) (fun hb_7 h=>?_))
 ·refine B h fun x4 hx4 h=>(B h fun x5 hx5 h=>(X 13 4 (sQ (ao Ty.s49 (fun _=>rfl) rfl rfl hx4 (Y 1 4 (sO (cG [0,1,2,3] 4 4 (xa hx5) ⟨rfl,(Y 1 4 (T.ci h rfl (fun hb_8 h=>?_) (fun hb_8 h=>?_)))⟩)))))))
  ·refine X 5 4 ?_;replace h:=mi h hv_6;cases h;exact tN [0,1,2,3]
  exact X 5 4 (lk h (wk [] [0,1,2,3] 4 rfl))
 refine X 1 4 ?_;replace h:=mi h hv_6;refine X 4 4 ?_;cases h;exact tN [0,1,2,3]
theorem wC {p0:List Int} {p1:List Bool} {p2:List Ends} {r:Bool} (h:iX p0 p1 p2=some r):FnX Tryz.prog 109 [sL ah p0,.func 128 [.ptr 0 0,.ptr 1 0]] [.box [.ref 2],.box [.ref 3],aR 4 1 bF p1,aR 194 2 aL p2] (.bool r) [.box [.ref 2],.box [.ref 3],aR 4 1 bF p1,aR 194 2 aL p2]:=by
 unfold iX at h;refine fT 4 0 Tryz.func109 Tryz.ntmps109 rfl ?_;refine B h fun x2 hx2 h=>(X 8 4 (sO (cG [0,1,2,3] 4 4 (wK hx2) ⟨rfl,(Y 3 4 ?_)⟩)))
 cases h;exact tN [0,1,2,3]
theorem yv {p0:Net} {r:(List Int) × Int} (h:lp p0=some r):FnO Tryz.prog 107 [.agg (au p0)] (.tup [.ref 0,iI r.2]) [aR 3 1 ah r.1]:=by
 unfold lp at h;refine fT 0 0 Tryz.func107 Tryz.ntmps107 rfl ?_;refine B h fun x2 hx2 h=>(X 9 0 (sO (cO 1 (y3 hx2) ⟨rfl,(Y 13 2 (T.ci h rfl (fun hb_1 h=>?_) (fun hb_1 h=>?_)))⟩)))
 ·refine X 6 3 ?_;cases h;exact tO [(0,3,1)] [3] 3
 refine B h fun x4 hx4 h=>(X 9 3 (sQ (aj Ty.s22 rfl (sO (cz (en:=bF) (zr:=false) Ty.s126 Ty.z4 rfl rfl hx4 rfl rfl (Y 5 4 (itr (fun ss_72:(List Int) × (List Bool)=>mkA 61 [(1,.ptr 0 0),(4,.ptr 1 0),(6,.ref 2),(7,.ptr 3 0)]) (fun ss_72=>[.box (au p0),.box [.ref 4],aR 3 1 ah ss_72.1,.box [.ref 5],aR 194 2 aL x2.1,aR 4 1 bF ss_72.2]) h (wk [(6,3,1)] [0,2,5,4,1,3] 5 rfl) (fun ss_72 v_73 h hv_73=>?_))))))))
 obtain ⟨s5,s6⟩:=ss_72;replace h:gr p0 x2 s5 s6=some v_73:=h;try dsimp only
 unfold gr at h;refine X 4 6 (sQ (bt (en:=ah) Ty.s49 rfl rfl (Y 2 6 (sQ (aj Ty.s22 rfl (Y 2 6 (T.ci h rfl (fun hb_74 h=>?_) (fun hb_74 h=>?_))))))))
 ·refine X 6 6 (jn (Z:=Int) (fun zz_91=>mkA 61 [(1,.ptr 0 0),(4,.ptr 1 0),(6,.ref 2),(7,.ptr 3 0),(8,iI zz_91)]) (fun zz_91=>[.box (au p0),.box [.ref 4],aR 3 1 ah s5,.box [.ref 5],aR 194 2 aL x2.1,aR 4 1 bF s6]) (fun zz_91=>hZ s5 s6 zz_91=some v_73) (fun zz_91 h=>?_) (fun hK1=>?_))
  ·revert h;revert zz_91;intro z14 h;replace h:hZ s5 s6 z14=some v_73:=h;try dsimp only
   unfold hZ at h;refine X 6 6 (T.ci h rfl (fun hb_92 h=>?_) (fun hb_92 h=>?_))
   ·refine X 5 6 ?_;replace h:=mi h hv_73;cases h;exact tO [(0,3,1)] [6] 6
   refine B h fun x17 hx17 h=>(B h fun x18 hx18 h=>(X 5 6 (sQ (aA (en:=bF) Ty.s126 rfl rfl rfl hx17 (sO (cB (en:=bF) (a:=x18) (a':=true) Ty.c4 Ty.i4 rfl (vs:=[.bool true]) rfl rfl rfl hx18 rfl rfl rfl (B h fun x19 hx19 h=>(Y 4 6 (sO (aM (rows:=List.map ah [z14]) (vs:=[iI z14]) Ty.s49 Ty.z3 rfl rfl rfl rfl rfl rfl (sO (bG (en:=ah) (xs:=s5) (ys:=([z14]:List Int)) Ty.s49 (fun _=>rfl) rfl rfl rfl hx19 rfl rfl (Y 2 8 ?_)))))))))))))
   exact lk h (wk [] [0,1,7,3,4,5] 8 rfl)
  refine X 5 6 (sQ (aj Ty.s22 rfl (Y 3 6 (itr (fun ss_102:Int=>mkA 61 [(1,.ptr 0 0),(4,.ptr 1 0),(6,.ref 2),(7,.ptr 3 0),(8,iI (-1)),(30,sL ai p0.Nodes),(31,iI ((p0.Nodes).length:Int)),(32,iI ss_102)]) (fun ss_102=>[.box (au p0),.box [.ref 4],aR 3 1 ah s5,.box [.ref 5],aR 194 2 aL x2.1,aR 4 1 bF s6]) h (wk [] [0,1,2,3,4,5] 6 rfl) (fun ss_102 v_103 h hv_103=>?_)))));revert hv_103 h;revert ss_102;intro s7 h hv_103;replace h:gu p0 x2 s5 s6 s7=some v_103:=h;try dsimp only
  unfold gu at h;refine X 5 6 (T.ci h rfl (fun hb_104 h=>?_) (fun hb_104 h=>?_))
  ·refine B h fun x9 hx9 h=>(X 6 6 (sQ (ao Ty.s22 (fun _=>rfl) rfl rfl hx9 (B h fun x10 hx10 h=>(B h fun x11 hx11 h=>(Y 5 6 ?_))))))
   obtain ⟨zt_106,hz,h⟩:=bind_some h;revert hz h;revert zt_106;intro c13 hz h;refine j1 [(1,.ptr 0 0),(4,.ptr 1 0),(6,.ref 2),(7,.ptr 3 0),(8,iI (-1)),(9,iI s7),(30,sL ai p0.Nodes),(31,iI ((p0.Nodes).length:Int)),(32,iI s7),(48,.bool c13)] [.box (au p0),.box [.ref 4],aR 3 1 ah s5,.box [.ref 5],aR 194 2 aL x2.1,aR 4 1 bF s6] ?_ (fun hK=>?_)
   ·refine T.ci h rfl (fun hb_107 h=>?_) (fun hb_107 h=>?_)
    ·refine X 6 6 ?_;replace h:=mi h hv_103;exact sx (hK1 s7 h)
    exact X 5 6 (lk h (wk [] [0,1,2,3,4,5] 6 rfl))
   refine X 4 7 (sQ (aA (en:=bF) Ty.s126 rfl rfl rfl hx10 (sO (aB (en:=bF) (a:=x11) rfl rfl hx11 (aE Ty.k4 (c:=.bool x11) rfl (Y 2 7 (gi 42 hz (fun hb_105 hz=>?_) (fun hb_105 hz=>?_))))))))
   ·refine B hz fun x12 hx12 hz=>(Y 3 7 (yO rfl (cG [3,1,5,4] 7 4 (wC hx12) ⟨rfl,(Yp 3 7 ?_)⟩)))
    cases hz;exact wu hK [] [0,1,2,3,4,5] 7 rfl
   refine Yp 7 7 ?_;cases hz;exact wu hK [] [0,1,2,3,4,5] 7 rfl
  refine X 1 6 ?_;replace h:=mi h hv_103;exact sx (hK1 (-1) h)
 refine X 1 6 ?_;replace h:=mi h hv_73;refine X 6 6 ?_;cases h;exact tO [] [2] 6
theorem qN {p0:Net} {r:Int} (h:jL p0=some r):Fn Tryz.prog 74 [.agg (au p0)] (iI r):=by
 unfold jL at h;refine fT 0 0 Tryz.func74 Tryz.ntmps74 rfl ?_;refine B h fun x2 hx2 h=>(X 8 0 (sO (cO 1 (yv hx2) ⟨rfl,(Y 11 2 ?_)⟩)))
 cases h;exact tD
theorem qx {p0:Net} {p1:List (List Item)} {r:Int} (h:jx p0 p1=some r):Fn Tryz.prog 52 [.agg (au p0),sL (ae aa) p1] (iI r):=by
 unfold jx at h;refine fT 0 0 Tryz.func52 Tryz.ntmps52 rfl ?_;refine B h fun x2 hx2 h=>(X 9 0 (sO (cF (qN hx2) ⟨rfl,(Y 7 1 (T.ci h rfl (fun hb_1 h=>?_) (fun hb_1 h=>?_)))⟩)))
 ·refine X 5 1 ?_;cases h;exact tD
 refine X 5 1 (sQ (aj Ty.s25 rfl (Y 2 1 (T.ci h rfl (fun hb_2 h=>?_) (fun hb_2 h=>?_)))))
 ·refine X 4 1 ?_;cases h;exact tD
 refine X 5 1 (sQ (aj Ty.s25 rfl (Y 3 1 (itr (fun ss_27:Int=>mkA 69 [(1,sL (ae aa) p1),(2,.ptr 0 0),(21,sL (ae aa) p1),(22,iI ((p1).length:Int)),(23,iI ss_27)]) (fun ss_27=>[.box (au p0)]) h (wk [] [0] 1 rfl) (fun ss_27 v_28 h hv_28=>?_)))));revert hv_28 h;revert ss_27;intro s3 h hv_28;replace h:jl p0 p1 s3=some v_28:=h;try dsimp only
 unfold jl at h;refine X 5 1 (T.ci h rfl (fun hb_29 h=>?_) (fun hb_29 h=>?_))
 ·refine B h fun x5 hx5 h=>(X 5 1 (sQ (ao Ty.s25 (fun _=>rfl) rfl rfl hx5 (Y 7 1 (sQ (aj Ty.s26 rfl (Y 2 1 (T.ci h rfl (fun hb_30 h=>?_) (fun hb_30 h=>?_)))))))))
  ·refine X 4 1 ?_;replace h:=mi h hv_28;cases h;exact tD
  refine X 4 1 (sQ (aj Ty.s26 rfl (Y 3 1 (itr (fun ss_36:Int=>mkA 69 [(1,sL (ae aa) p1),(2,.ptr 0 0),(21,sL (ae aa) p1),(22,iI ((p1).length:Int)),(23,iI s3),(30,sL aa x5),(31,iI ((x5).length:Int)),(32,iI ss_36)]) (fun ss_36=>[.box (au p0)]) h (wk [] [0] 1 rfl) (fun ss_36 v_37 h hv_37=>?_)))));revert hv_37 h;revert ss_36;intro s6 h hv_37;replace h:jk s3 x5 s6=some v_37:=h;try dsimp only
  unfold jk at h;refine X 5 1 (T.ci h rfl (fun hb_38 h=>?_) (fun hb_38 h=>?_))
  ·refine B h fun x8 hx8 h=>(X 5 1 (sQ (ao Ty.s26 (fun _=>rfl) rfl rfl hx8 (Y 10 1 (T.ci h rfl (fun hb_39 h=>?_) (fun hb_39 h=>?_))))))
   ·refine X 4 2 ?_;replace h:=mi h hv_37;replace h:=mi h hv_28;cases h;exact tD
   exact X 5 2 (lk h (wk [] [0] 2 rfl))
  refine X 1 1 ?_;replace h:=mi h hv_37;exact X 4 1 (lk h (wk [] [0] 1 rfl))
 refine X 1 1 ?_;replace h:=mi h hv_28;refine B h fun x10 hx10 h=>(X 3 1 (sQ (aj Ty.s25 rfl (sO (cz (en:=bF) (zr:=false) Ty.s126 Ty.z4 rfl rfl hx10 rfl rfl (Y 7 2 (sQ (aj Ty.s22 rfl (Y 3 2 (itr (fun ss_52:Int × (List Bool)=>mkA 69 [(1,sL (ae aa) p1),(10,.ref 0),(45,sL ai p0.Nodes),(46,iI ((p0.Nodes).length:Int)),(47,iI ss_52.1)]) (fun ss_52=>[aR 4 1 bF ss_52.2]) h (wk [] [1] 2 rfl) (fun ss_52 v_53 h hv_53=>?_)))))))))))
 obtain ⟨s11,s12⟩:=ss_52;replace h:gl p0 p1 s11 s12=some v_53:=h;try dsimp only
 unfold gl at h;refine X 5 1 (T.ci h rfl (fun hb_54 h=>?_) (fun hb_54 h=>?_))
 ·refine B h fun x14 hx14 h=>(X 5 1 (sQ (ao Ty.s22 (fun _=>rfl) rfl rfl hx14 (Y 11 1 (T.ci h rfl (fun hb_55 h=>?_) (fun hb_55 h=>?_))))))
  ·exact X 5 2 (lk h (wk [] [0] 2 rfl))
  refine X 7 2 (sQ (aj Ty.s25 rfl (Y 2 2 (T.ci h rfl (fun hb_56 h=>?_) (fun hb_56 h=>?_)))))
  ·refine X 4 2 ?_;replace h:=mi h hv_53;cases h;exact tD
  refine B h fun x17 hx17 h=>(B h fun x18 hx18 h=>(X 7 2 (sQ (aA (en:=bF) Ty.s126 rfl rfl rfl hx17 (sO (aB (en:=bF) (a:=x18) rfl rfl hx18 (aE Ty.k4 (c:=.bool x18) rfl (Y 1 2 (T.ci h rfl (fun hb_58 h=>?_) (fun hb_58 h=>?_))))))))))
  ·refine X 4 2 ?_;replace h:=mi h hv_53;cases h;exact tD
  exact B h fun x19 hx19 h=>(B h fun x20 hx20 h=>(X 5 2 (sQ (aA (en:=bF) Ty.s126 rfl rfl rfl hx19 (sO (cB (en:=bF) (a:=x20) (a':=true) Ty.c4 Ty.i4 rfl (vs:=[.bool true]) rfl rfl rfl hx20 rfl rfl rfl (Y 5 2 (lk h (wk [] [0] 2 rfl)))))))))
 refine X 1 1 ?_;replace h:=mi h hv_53;refine X 4 1 ?_;cases h;exact tD
theorem yb {p0:Net} {p1:List (List Item)} {r:State} (h:k7 p0 p1=some r):FnO Tryz.prog 53 [.agg (au p0),sL (ae aa) p1] (.agg [.ref 0,.ref 1,.ref 2,.ref 3,.ref 4]) [aR 3 1 ah r.At,aR 26 1 (ae aa) r.Rings,aR 122 3 am r.Memory,aR 119 2 aF r.Choices,aR 39 3 aa r.Out]:=by
 unfold k7 at h;refine fT 0 0 Tryz.func53 Tryz.ntmps53 rfl ?_;refine B h fun x4 hx4 h=>(B h fun x5 hx5 h=>(B h fun x6 hx6 h=>(X 6 0 (T.drawn mixed (k:=12) rfl ?_))))
 apply RA.jn 1 (bm 12 2047);intro hS1;apply RA.jn 3 (bm 12 991);intro hS2;apply RA.jn 3 (bm 12 1019);intro hS3;apply RA.jn 3 (bm 12 511);intro hS4;apply RA.jn 4 (bm 12 975);intro hS5;apply RA.jn 4 (bm 12 987);intro hS6;apply RA.jn 4 (bm 12 479);intro hS7;apply RA.jn 4 (bm 12 507);intro hS8;apply RA.jn 5 (bm 12 463);intro hS9;apply RA.jn 5 (bm 12 475);intro hS10;apply RA.jn 5 (bm 12 127);intro hS11;apply RA.jn 6 (bm 12 95);intro hS12
 ·refine rq [0] 11 (r0 1 rfl (aj Ty.s25 rfl (rq [3,6] 8 (ra3 2 4 7 ?_ ?_ ?_))))
  ·refine oO rfl (cz (en:=ah) (zr:=0) Ty.s49 Ty.z3 rfl rfl hx4 rfl rfl (ra2 4 7 ?_ ?_))
   ·exact og 3 ⟨rfl,(raE hS12)⟩
   ·exact og 3 ⟨rfl,(r0 8 rfl (aj Ty.s22 rfl (raE hS9)))⟩
  ·refine og 2 ⟨rfl,(ra3 2 5 7 ?_ ?_ ?_)⟩
   ·exact oO rfl (cz (en:=ah) (zr:=0) Ty.s49 Ty.z3 rfl rfl hx4 rfl rfl (raT hS12))
   ·refine oO rfl (b7 (en:=(ae aa)) (zr:=([]:List Item)) Ty.s25 Ty.z26 ⟨.inr ⟨rfl,rfl⟩,trivial⟩ rfl rfl hx5 rfl rfl (ra2 2 7 ?_ ?_))
    ·exact oO rfl (cz (en:=ah) (zr:=0) Ty.s49 Ty.z3 rfl rfl hx4 rfl rfl (raE hS11))
    ·exact og 3 ⟨rfl,(r0 8 rfl (aj Ty.s22 rfl (raE hS8)))⟩
   ·exact og 2 ⟨rfl,(r0 8 rfl (aj Ty.s22 rfl (raE hS10)))⟩
  ·refine og 2 ⟨rfl,(r0 8 rfl (aj Ty.s22 rfl (ra3 2 4 9 ?_ ?_ ?_)))⟩
   ·exact oO rfl (cz (en:=ah) (zr:=0) Ty.s49 Ty.z3 rfl rfl hx4 rfl rfl (raT hS9))
   ·exact og 2 ⟨rfl,(raT hS10)⟩
   ·refine oO rfl (b7 (en:=am) (zr:=(⟨0,[],0⟩:Memory)) Ty.s50 Ty.z122 ⟨.inl rfl,.inr ⟨rfl,rfl⟩,.inl rfl,trivial⟩ rfl rfl hx6 rfl rfl (ra2 2 4 ?_ ?_))
    ·exact oO rfl (cz (en:=ah) (zr:=0) Ty.s49 Ty.z3 rfl rfl hx4 rfl rfl (raE hS5))
    ·exact og 3 ⟨rfl,(raE hS6)⟩
 ·refine ra2 5 7 ?_ ?_
  ·exact oO rfl (b7 (en:=(ae aa)) (zr:=([]:List Item)) Ty.s25 Ty.z26 ⟨.inr ⟨rfl,rfl⟩,trivial⟩ rfl rfl hx5 rfl rfl (raV hS11 [0,1,3,2] rfl))
  ·exact og 3 ⟨rfl,(r0 8 rfl (aj Ty.s22 rfl (raE hS7)))⟩
 ·exact ra1 7 (og 4 ⟨rfl,(r0 8 rfl (aj Ty.s22 rfl (raE hS4)))⟩)
 ·refine ra3 2 5 9 ?_ ?_ ?_
  ·exact oO rfl (cz (en:=ah) (zr:=0) Ty.s49 Ty.z3 rfl rfl hx4 rfl rfl (raT hS7))
  ·exact oO rfl (b7 (en:=(ae aa)) (zr:=([]:List Item)) Ty.s25 Ty.z26 ⟨.inr ⟨rfl,rfl⟩,trivial⟩ rfl rfl hx5 rfl rfl (raT hS8))
  ·exact oO rfl (b7 (en:=am) (zr:=(⟨0,[],0⟩:Memory)) Ty.s50 Ty.z122 ⟨.inl rfl,.inr ⟨rfl,rfl⟩,.inl rfl,trivial⟩ rfl rfl hx6 rfl rfl (raT hS6))
 ·refine ra2 4 9 ?_ ?_
  ·exact og 3 ⟨rfl,(raT hS7)⟩
  ·exact oO rfl (b7 (en:=am) (zr:=(⟨0,[],0⟩:Memory)) Ty.s50 Ty.z122 ⟨.inl rfl,.inr ⟨rfl,rfl⟩,.inl rfl,trivial⟩ rfl rfl hx6 rfl rfl (raV hS5 [0,1,3,2] rfl))
 ·refine ra2 2 9 ?_ ?_
  ·exact oO rfl (cz (en:=ah) (zr:=0) Ty.s49 Ty.z3 rfl rfl hx4 rfl rfl (raT hS4))
  ·exact oO rfl (b7 (en:=am) (zr:=(⟨0,[],0⟩:Memory)) Ty.s50 Ty.z122 ⟨.inl rfl,.inr ⟨rfl,rfl⟩,.inl rfl,trivial⟩ rfl rfl hx6 rfl rfl (raE hS3))
 ·refine ra2 5 9 ?_ ?_
  ·exact oO rfl (b7 (en:=(ae aa)) (zr:=([]:List Item)) Ty.s25 Ty.z26 ⟨.inr ⟨rfl,rfl⟩,trivial⟩ rfl rfl hx5 rfl rfl (raV hS4 [0,1,3,2] rfl))
  ·exact oO rfl (b7 (en:=am) (zr:=(⟨0,[],0⟩:Memory)) Ty.s50 Ty.z122 ⟨.inl rfl,.inr ⟨rfl,rfl⟩,.inl rfl,trivial⟩ rfl rfl hx6 rfl rfl (raE hS2))
 ·refine ra2 2 5 ?_ ?_
  ·exact oO rfl (cz (en:=ah) (zr:=0) Ty.s49 Ty.z3 rfl rfl hx4 rfl rfl (raV hS2 [0,1,3,2] rfl))
  ·exact oO rfl (b7 (en:=(ae aa)) (zr:=([]:List Item)) Ty.s25 Ty.z26 ⟨.inr ⟨rfl,rfl⟩,trivial⟩ rfl rfl hx5 rfl rfl (raV hS3 [0,1,3,2] rfl))
 ·exact ra1 4 (og 4 ⟨rfl,(raV hS2 [0,1,3,2] rfl)⟩)
 ·exact ra1 9 (oO rfl (b7 (en:=am) (zr:=(⟨0,[],0⟩:Memory)) Ty.s50 Ty.z122 ⟨.inl rfl,.inr ⟨rfl,rfl⟩,.inl rfl,trivial⟩ rfl rfl hx6 rfl rfl (rq [10] 1 (raE hS1))))
 ·exact ra1 2 (oO rfl (cz (en:=ah) (zr:=0) Ty.s49 Ty.z3 rfl rfl hx4 rfl rfl (rq [10] 1 (raV hS1 [0,1,2,4,3] rfl))))
 ·exact ra1 5 (oO rfl (b7 (en:=(ae aa)) (zr:=([]:List Item)) Ty.s25 Ty.z26 ⟨.inr ⟨rfl,rfl⟩,trivial⟩ rfl rfl hx5 rfl rfl (rq [10] 1 (raV hS1 [0,1,4,2,3] rfl))))
 refine ra1 11 (og 5 ⟨rfl,(RA.done (by decide +kernel) (nB 1 3 119 2 5 (nB 1 4 39 3 6 ?_)))⟩);cases h;exact tO [] [3,2,4,5,6] 7
theorem xX {p0:Net} {p1:List (List Item)} {r:State × Int} (h:k6 p0 p1=some r):FnO Tryz.prog 22 [.agg (au p0),sL (ae aa) p1] (.tup [.agg [.ref 0,.ref 1,.ref 2,.ref 3,.ref 4],iI r.2]) [aR 3 1 ah r.1.At,aR 26 1 (ae aa) r.1.Rings,aR 122 3 am r.1.Memory,aR 119 2 aF r.1.Choices,aR 39 3 aa r.1.Out]:=by
 unfold k6 at h;refine fT 0 0 Tryz.func22 Tryz.ntmps22 rfl ?_;refine B h fun x2 hx2 h=>(X 11 0 (sO (cF (qx hx2) ⟨rfl,(Y 7 2 (T.ci h rfl (fun hb_1 h=>?_) (fun hb_1 h=>?_)))⟩)))
 ·refine X 7 2 (nB 1 0 3 1 2 (nB 1 1 26 1 3 (nB 1 2 122 3 4 (nB 1 3 119 2 5 (nB 1 4 39 3 6 ?_)))));cases h;exact tO [] [2,3,4,5,6] 7
 refine B h fun x4 hx4 h=>(X 5 2 (sO (cG [] 2 5 (FnX.of_fnO (yb hx4)) ⟨rfl,(Y 3 7 ?_)⟩)))
 cases h;exact tO [] [2,3,4,5,6] 7
theorem xd {p0 r:List Node} (h:mf p0=some r):FnO Tryz.prog 59 [.sl (List.map ai p0)] (.ref 0) [.arr 61 4 (List.map ai r)]:=by
 have hr:p0=r:=by
  unfold mf app at h;split at h
  ·simpa using h
  ·cases h
 refine gR (N:=0) rfl Tryz.func59 rfl (by kernel_rfl) Tryz.ntmps59 rfl ?_;show T _ _ _ _ (mkA 8 [(0,.sl (List.map ai p0))]) [];refine T.seq ?_;refine T.region ?_;refine RS.op rfl (OP.q rfl (cg (v:=.nils) rfl ?_));refine RS.nil ?_;refine T.seq ?_;refine T.seq ?_;refine T.region ?_;refine RS.op rfl (OP.q rfl (c0 (v:=.sl (List.map ai p0)) rfl ?_));refine RS.op rfl (OP.q rfl (iF Ty.s22 rfl rfl (fun z hz=>?_)));refine RS.nil ?_;refine T.cond (b:=z) rfl (fun hb=>?_) (fun hb=>?_)
 ·refine T.seq ?_;refine T.region ?_;refine RS.op rfl (OP.q rfl (cg (v:=.nils) rfl ?_));refine RS.nil ?_;refine T.ret ?_;refine dg (v:=.nils) rfl ?_;refine dh ?_;have h0:p0=[]:=List.map_eq_nil_iff.1 (hz hb);exact di (.ref 0) [(0,61,4)] [0] (by decide) (bx _) rfl (bW rfl) (dc (en:=ai) (ys:=[]) rfl jI (by rw [<- hr,h0]) (bh)) ⟨rfl,rfl⟩
 ·refine T.skip ?_;refine T.seq ?_;refine T.region ?_;refine RS.op rfl (aM (rows:=List.map ai []) (vs:=[]) Ty.s22 Ty.z61 rfl rfl rfl rfl rfl (aw':=[.arr 61 4 (List.map ai [])]) rfl ?_);refine RS.op rfl (OP.q rfl (c0 (v:=.sl (List.map ai p0)) rfl ?_));refine RS.op rfl (bG (en:=ai) (xs:=([]:List Node)) (ys:=p0) (r:=r) Ty.s22 (fun _=>rfl) rfl rfl rfl h rfl (aw':=[.dead,.arr 61 4 (List.map ai r)]) rfl ?_);refine RS.op rfl (OP.q rfl (cg (v:=.ref 1) rfl ?_));refine RS.nil ?_;refine T.ret ?_;refine dg (v:=.ref 1) rfl ?_;refine dh ?_;exact di (.ref 0) [] [1] (by decide) (bx _) rfl (bW rfl) (dc rfl jI rfl (bh)) ⟨rfl,rfl⟩
theorem bP {p0 r:List Int} (h:fj p0=some r):FnO Tryz.prog 60 [.sl (List.map ah p0)] (.ref 0) [.arr 3 1 (List.map ah r)]:=by
 have hr:p0=r:=by
  unfold fj app at h;split at h
  ·simpa using h
  ·cases h
 refine gR (N:=0) rfl Tryz.func60 rfl (by kernel_rfl) Tryz.ntmps60 rfl ?_;show T _ _ _ _ (mkA 8 [(0,.sl (List.map ah p0))]) [];refine T.seq ?_;refine T.region ?_;refine RS.op rfl (OP.q rfl (cg (v:=.nils) rfl ?_));refine RS.nil ?_;refine T.seq ?_;refine T.seq ?_;refine T.region ?_;refine RS.op rfl (OP.q rfl (c0 (v:=.sl (List.map ah p0)) rfl ?_));refine RS.op rfl (OP.q rfl (iF Ty.s49 rfl rfl (fun z hz=>?_)));refine RS.nil ?_;refine T.cond (b:=z) rfl (fun hb=>?_) (fun hb=>?_)
 ·refine T.seq ?_;refine T.region ?_;refine RS.op rfl (OP.q rfl (cg (v:=.nils) rfl ?_));refine RS.nil ?_;refine T.ret ?_;refine dg (v:=.nils) rfl ?_;refine dh ?_;have h0:p0=[]:=List.map_eq_nil_iff.1 (hz hb);exact di (.ref 0) [(0,3,1)] [0] (by decide) (bx _) rfl (bW rfl) (dc (en:=ah) (ys:=[]) rfl iS (by rw [<- hr,h0]) (bh)) ⟨rfl,rfl⟩
 ·refine T.skip ?_;refine T.seq ?_;refine T.region ?_;refine RS.op rfl (aM (rows:=List.map ah []) (vs:=[]) Ty.s49 Ty.z3 rfl rfl rfl rfl rfl (aw':=[.arr 3 1 (List.map ah [])]) rfl ?_);refine RS.op rfl (OP.q rfl (c0 (v:=.sl (List.map ah p0)) rfl ?_));refine RS.op rfl (bG (en:=ah) (xs:=([]:List Int)) (ys:=p0) (r:=r) Ty.s49 (fun _=>rfl) rfl rfl rfl h rfl (aw':=[.dead,.arr 3 1 (List.map ah r)]) rfl ?_);refine RS.op rfl (OP.q rfl (cg (v:=.ref 1) rfl ?_));refine RS.nil ?_;refine T.ret ?_;refine dg (v:=.ref 1) rfl ?_;refine dh ?_;exact di (.ref 0) [] [1] (by decide) (bx _) rfl (bW rfl) (dc rfl iS rfl (bh)) ⟨rfl,rfl⟩
theorem yK {p0 r:Net} (h:lF p0=some r):Fn Tryz.prog 28 [.agg (au p0)] (.agg (au r)):=by
 unfold lF at h;refine fT 0 0 Tryz.func28 Tryz.ntmps28 rfl ?_;refine B h fun x2 hx2 h=>(X 9 0 (sO (cQ 2 (xd hx2) ⟨rfl,(Y 8 3 (sQ (bt (en:=ai) Ty.s22 rfl rfl (Y 3 3 (itr (fun ss_69:Int × (List Node)=>mkA 40 [(1,.ptr 0 0),(2,.ptr 1 0),(10,iI ((x2).length:Int)),(11,iI ss_69.1)]) (fun ss_69=>[.box [.ref 2,iI p0.Rings,iI p0.Room],.box [.nils,iI 0,iI 0],aR 61 4 ai ss_69.2]) h (wk [] [0,1,2] 3 rfl) (fun ss_69 v_70 h hv_70=>?_))))))⟩)))
 obtain ⟨s3,s4⟩:=ss_69;replace h:gJ p0 x2 s3 s4=some v_70:=h;try dsimp only
 unfold gJ at h;refine X 5 3 (T.ci h rfl (fun hb_71 h=>?_) (fun hb_71 h=>?_))
 ·refine B h fun x5 hx5 h=>(B h fun x6 hx6 h=>(B h fun x7 hx7 h=>(B h fun x8 hx8 h=>(B h fun x9 hx9 h=>(B h fun x10 hx10 h=>(B h fun x11 hx11 h=>(B h fun x12 hx12 h=>(B h fun x13 hx13 h=>(B h fun x14 hx14 h=>?_)))))))))
  refine X 8 3 (T.drawn mixed (k:=26) rfl ?_);apply RA.jn 1 (bm 26 33554431);intro hS72;apply RA.jn 4 (bm 26 4194303);intro hS73;apply RA.jn 5 (bm 26 4194287);intro hS74;apply RA.jn 7 (bm 26 524287);intro hS75;apply RA.jn 8 (bm 26 524271);intro hS76;apply RA.jn 8 (bm 26 524285);intro hS77;apply RA.jn 8 (bm 26 520191);intro hS78;apply RA.jn 8 (bm 26 262143);intro hS79;apply RA.jn 9 (bm 26 520175);intro hS80;apply RA.jn 9 (bm 26 520189);intro hS81;apply RA.jn 9 (bm 26 524269);intro hS82;apply RA.jn 9 (bm 26 518143);intro hS83;apply RA.jn 9 (bm 26 262127);intro hS84;apply RA.jn 9 (bm 26 262141);intro hS85;apply RA.jn 9 (bm 26 258047);intro hS86;apply RA.jn 10 (bm 26 518127);intro hS87;apply RA.jn 10 (bm 26 518141);intro hS88;apply RA.jn 10 (bm 26 520173);intro hS89;apply RA.jn 10 (bm 26 258031);intro hS90;apply RA.jn 10 (bm 26 258045);intro hS91;apply RA.jn 10 (bm 26 262125);intro hS92;apply RA.jn 10 (bm 26 255999);intro hS93;apply RA.jn 11 (bm 26 255983);intro hS94;apply RA.jn 11 (bm 26 255997);intro hS95;apply RA.jn 11 (bm 26 258029);intro hS96;apply RA.jn 12 (bm 26 255981);intro hS97;apply RA.jn 12 (bm 26 45055);intro hS98;apply RA.jn 13 (bm 26 45039);intro hS99;apply RA.jn 13 (bm 26 45053);intro hS100;apply RA.jn 13 (bm 26 43007);intro hS101;apply RA.jn 14 (bm 26 42991);intro hS102;apply RA.jn 14 (bm 26 43005);intro hS103;apply RA.jn 16 (bm 26 41343);intro hS104
  ·refine rq [0,2,3,5,6,8,13,15] 18 (ra4 1 4 7 14 ?_ ?_ ?_ ?_)
   ·refine og 3 ⟨rfl,(ra3 4 7 14 ?_ ?_ ?_)⟩
    ·exact og 3 ⟨rfl,(raE hS104)⟩
    ·exact og 3 ⟨rfl,(r0 9 rfl (aA (en:=ai) Ty.s22 rfl rfl rfl hx5 (rq [10] 14 (raE hS102))))⟩
    ·exact og 3 ⟨rfl,(r0 16 rfl (aA (en:=ai) Ty.s22 rfl rfl rfl hx8 (rq [17] 14 (rL [7,9,10,11,12,19,20,21,22,23,24,25] 7 rfl (r0 9 rfl (aA (en:=ai) Ty.s22 rfl rfl rfl hx5 (rq [10] 11 (raE hS94))))))))⟩
   ·refine og 3 ⟨rfl,(ra3 1 7 14 ?_ ?_ ?_)⟩
    ·exact og 3 ⟨rfl,(raT hS104)⟩
    ·exact og 3 ⟨rfl,(r0 9 rfl (aA (en:=ai) Ty.s22 rfl rfl rfl hx5 (rq [10] 14 (raE hS103))))⟩
    ·exact og 3 ⟨rfl,(r0 16 rfl (aA (en:=ai) Ty.s22 rfl rfl rfl hx8 (rq [17] 14 (rL [7,9,10,11,12,19,20,21,22,23,24,25] 7 rfl (r0 9 rfl (aA (en:=ai) Ty.s22 rfl rfl rfl hx5 (rq [10] 11 (raE hS95))))))))⟩
   ·refine og 3 ⟨rfl,(r0 9 rfl (aA (en:=ai) Ty.s22 rfl rfl rfl hx5 (rq [10] 15 (ra4 1 4 11 14 ?_ ?_ ?_ ?_))))⟩
    ·exact og 3 ⟨rfl,(raT hS102)⟩
    ·exact og 3 ⟨rfl,(raT hS103)⟩
    ·refine oO rfl (aB (en:=ai) (a:=x6) rfl rfl hx6 (aE Ty.k49 (c:=sL ah x6.In) rfl (ra4 1 4 12 14 ?_ ?_ ?_ ?_)))
     ·exact og 3 ⟨rfl,(raE hS99)⟩
     ·exact og 3 ⟨rfl,(raE hS100)⟩
     ·exact oO rfl (cO 3 (bP hx7) ⟨rfl,(rL [14,16,17,18,19,20,21,22,23,24,25] 14 rfl (r0 16 rfl (aA (en:=ai) Ty.s22 rfl rfl rfl hx8 (rq [17] 10 (raE hS92)))))⟩)
     ·exact og 3 ⟨rfl,(r0 16 rfl (aA (en:=ai) Ty.s22 rfl rfl rfl hx8 (rq [17] 11 (raE hS96))))⟩
    ·exact og 3 ⟨rfl,(r0 16 rfl (aA (en:=ai) Ty.s22 rfl rfl rfl hx8 (rq [17] 12 (raE hS97))))⟩
   ·exact og 3 ⟨rfl,(r0 16 rfl (aA (en:=ai) Ty.s22 rfl rfl rfl hx8 (rq [17] 15 (rL [7,9,10,11,12,19,20,21,22,23,24,25] 7 rfl (r0 9 rfl (aA (en:=ai) Ty.s22 rfl rfl rfl hx5 (rq [10] 12 (raT hS97))))))))⟩
  ·refine ra2 7 14 ?_ ?_
   ·exact og 3 ⟨rfl,(r0 9 rfl (aA (en:=ai) Ty.s22 rfl rfl rfl hx5 (rq [10] 13 (raE hS101))))⟩
   ·exact og 3 ⟨rfl,(r0 16 rfl (aA (en:=ai) Ty.s22 rfl rfl rfl hx8 (rq [17] 13 (rL [7,9,10,11,12,19,20,21,22,23,24,25] 7 rfl (r0 9 rfl (aA (en:=ai) Ty.s22 rfl rfl rfl hx5 (rq [10] 10 (raE hS93))))))))⟩
  ·refine ra3 1 11 14 ?_ ?_ ?_
   ·exact og 3 ⟨rfl,(raT hS101)⟩
   ·exact oO rfl (aB (en:=ai) (a:=x6) rfl rfl hx6 (aE Ty.k49 (c:=sL ah x6.In) rfl (raT hS100)))
   ·exact og 3 ⟨rfl,(r0 16 rfl (aA (en:=ai) Ty.s22 rfl rfl rfl hx8 (rq [17] 11 (raT hS95))))⟩
  ·refine ra3 4 11 14 ?_ ?_ ?_
   ·exact og 3 ⟨rfl,(raT hS101)⟩
   ·exact oO rfl (aB (en:=ai) (a:=x6) rfl rfl hx6 (aE Ty.k49 (c:=sL ah x6.In) rfl (raT hS99)))
   ·exact og 3 ⟨rfl,(r0 16 rfl (aA (en:=ai) Ty.s22 rfl rfl rfl hx8 (rq [17] 11 (raT hS94))))⟩
  ·refine ra2 11 14 ?_ ?_
   ·exact oO rfl (aB (en:=ai) (a:=x6) rfl rfl hx6 (aE Ty.k49 (c:=sL ah x6.In) rfl (raE hS98)))
   ·exact og 3 ⟨rfl,(r0 16 rfl (aA (en:=ai) Ty.s22 rfl rfl rfl hx8 (rq [17] 10 (raT hS93))))⟩
  ·refine ra3 1 12 14 ?_ ?_ ?_
   ·exact og 3 ⟨rfl,(raT hS98)⟩
   ·exact oO rfl (cO 3 (bP hx7) ⟨rfl,(rL [14,16,17,18,19,20,21,22,23,24,25] 14 rfl (r0 16 rfl (aA (en:=ai) Ty.s22 rfl rfl rfl hx8 (rq [17] 9 (raE hS85)))))⟩)
   ·exact og 3 ⟨rfl,(r0 16 rfl (aA (en:=ai) Ty.s22 rfl rfl rfl hx8 (rq [17] 10 (raE hS91))))⟩
  ·refine ra3 4 12 14 ?_ ?_ ?_
   ·exact og 3 ⟨rfl,(raT hS98)⟩
   ·exact oO rfl (cO 3 (bP hx7) ⟨rfl,(rL [14,16,17,18,19,20,21,22,23,24,25] 14 rfl (r0 16 rfl (aA (en:=ai) Ty.s22 rfl rfl rfl hx8 (rq [17] 9 (raE hS84)))))⟩)
   ·exact og 3 ⟨rfl,(r0 16 rfl (aA (en:=ai) Ty.s22 rfl rfl rfl hx8 (rq [17] 10 (raE hS90))))⟩
  ·refine ra2 12 14 ?_ ?_
   ·exact oO rfl (cO 3 (bP hx7) ⟨rfl,(ra1 14 (og 4 ⟨rfl,(r0 16 rfl (aA (en:=ai) Ty.s22 rfl rfl rfl hx8 (rq [17] 8 (raE hS79))))⟩))⟩)
   ·exact og 3 ⟨rfl,(r0 16 rfl (aA (en:=ai) Ty.s22 rfl rfl rfl hx8 (rq [17] 9 (raE hS86))))⟩
  ·refine ra4 1 4 11 18 ?_ ?_ ?_ ?_
   ·exact og 3 ⟨rfl,(raT hS94)⟩
   ·exact og 3 ⟨rfl,(raT hS95)⟩
   ·exact oO rfl (aB (en:=ai) (a:=x6) rfl rfl hx6 (aE Ty.k49 (c:=sL ah x6.In) rfl (raT hS96)))
   ·refine oO rfl (aB (en:=ai) (a:=x9) rfl rfl hx9 (aE Ty.k49 (c:=sL ah x9.Out) rfl (ra3 1 4 11 ?_ ?_ ?_)))
    ·exact og 3 ⟨rfl,(raE hS87)⟩
    ·exact og 3 ⟨rfl,(raE hS88)⟩
    ·exact oO rfl (aB (en:=ai) (a:=x6) rfl rfl hx6 (aE Ty.k49 (c:=sL ah x6.In) rfl (raE hS89)))
  ·refine ra4 1 4 12 18 ?_ ?_ ?_ ?_
   ·exact og 3 ⟨rfl,(raT hS90)⟩
   ·exact og 3 ⟨rfl,(raT hS91)⟩
   ·exact oO rfl (cO 3 (bP hx7) ⟨rfl,(raT hS92)⟩)
   ·exact oO rfl (aB (en:=ai) (a:=x9) rfl rfl hx9 (aE Ty.k49 (c:=sL ah x9.Out) rfl (raT hS89)))
  ·refine ra3 1 11 18 ?_ ?_ ?_
   ·exact og 3 ⟨rfl,(raT hS93)⟩
   ·exact oO rfl (aB (en:=ai) (a:=x6) rfl rfl hx6 (aE Ty.k49 (c:=sL ah x6.In) rfl (raT hS91)))
   ·exact oO rfl (aB (en:=ai) (a:=x9) rfl rfl hx9 (aE Ty.k49 (c:=sL ah x9.Out) rfl (raT hS88)))
  ·refine ra3 4 11 18 ?_ ?_ ?_
   ·exact og 3 ⟨rfl,(raT hS93)⟩
   ·exact oO rfl (aB (en:=ai) (a:=x6) rfl rfl hx6 (aE Ty.k49 (c:=sL ah x6.In) rfl (raT hS90)))
   ·exact oO rfl (aB (en:=ai) (a:=x9) rfl rfl hx9 (aE Ty.k49 (c:=sL ah x9.Out) rfl (raT hS87)))
  ·refine ra2 11 18 ?_ ?_
   ·exact oO rfl (aB (en:=ai) (a:=x6) rfl rfl hx6 (aE Ty.k49 (c:=sL ah x6.In) rfl (raT hS86)))
   ·exact oO rfl (aB (en:=ai) (a:=x9) rfl rfl hx9 (aE Ty.k49 (c:=sL ah x9.Out) rfl (raE hS83)))
  ·refine ra3 1 4 18 ?_ ?_ ?_
   ·exact og 4 ⟨rfl,(raT hS84)⟩
   ·exact og 4 ⟨rfl,(raT hS85)⟩
   ·exact oO rfl (aB (en:=ai) (a:=x9) rfl rfl hx9 (aE Ty.k49 (c:=sL ah x9.Out) rfl (raE hS82)))
  ·refine ra3 1 12 18 ?_ ?_ ?_
   ·exact og 3 ⟨rfl,(raT hS86)⟩
   ·exact oO rfl (cO 3 (bP hx7) ⟨rfl,(raT hS85)⟩)
   ·exact oO rfl (aB (en:=ai) (a:=x9) rfl rfl hx9 (aE Ty.k49 (c:=sL ah x9.Out) rfl (raE hS81)))
  ·refine ra3 4 12 18 ?_ ?_ ?_
   ·exact og 3 ⟨rfl,(raT hS86)⟩
   ·exact oO rfl (cO 3 (bP hx7) ⟨rfl,(raT hS84)⟩)
   ·exact oO rfl (aB (en:=ai) (a:=x9) rfl rfl hx9 (aE Ty.k49 (c:=sL ah x9.Out) rfl (raE hS80)))
  ·refine ra3 1 4 12 ?_ ?_ ?_
   ·exact og 3 ⟨rfl,(raT hS80)⟩
   ·exact og 3 ⟨rfl,(raT hS81)⟩
   ·exact oO rfl (cO 3 (bP hx7) ⟨rfl,(raT hS82)⟩)
  ·refine ra2 1 11 ?_ ?_
   ·exact og 3 ⟨rfl,(raT hS83)⟩
   ·exact oO rfl (aB (en:=ai) (a:=x6) rfl rfl hx6 (aE Ty.k49 (c:=sL ah x6.In) rfl (raT hS81)))
  ·refine ra2 4 11 ?_ ?_
   ·exact og 3 ⟨rfl,(raT hS83)⟩
   ·exact oO rfl (aB (en:=ai) (a:=x6) rfl rfl hx6 (aE Ty.k49 (c:=sL ah x6.In) rfl (raT hS80)))
  ·refine ra2 12 18 ?_ ?_
   ·exact oO rfl (cO 3 (bP hx7) ⟨rfl,(raT hS79)⟩)
   ·exact oO rfl (aB (en:=ai) (a:=x9) rfl rfl hx9 (aE Ty.k49 (c:=sL ah x9.Out) rfl (raE hS78)))
  ·refine ra2 1 18 ?_ ?_
   ·exact og 4 ⟨rfl,(raT hS79)⟩
   ·exact oO rfl (aB (en:=ai) (a:=x9) rfl rfl hx9 (aE Ty.k49 (c:=sL ah x9.Out) rfl (raE hS77)))
  ·refine ra2 4 18 ?_ ?_
   ·exact og 4 ⟨rfl,(raT hS79)⟩
   ·exact oO rfl (aB (en:=ai) (a:=x9) rfl rfl hx9 (aE Ty.k49 (c:=sL ah x9.Out) rfl (raE hS76)))
  ·exact ra1 11 (oO rfl (aB (en:=ai) (a:=x6) rfl rfl hx6 (aE Ty.k49 (c:=sL ah x6.In) rfl (raT hS78))))
  ·refine ra3 1 4 19 ?_ ?_ ?_
   ·exact og 4 ⟨rfl,(raT hS76)⟩
   ·exact og 4 ⟨rfl,(raT hS77)⟩
   ·exact oO rfl (cO 4 (bP hx10) ⟨rfl,(rL [1,20,21,22,23,24,25] 1 rfl (r0 20 rfl (aA (en:=ai) Ty.s22 rfl rfl rfl hx11 (rq [21] 5 (raE hS74)))))⟩)
  ·refine ra2 1 12 ?_ ?_
   ·exact og 3 ⟨rfl,(raT hS78)⟩
   ·exact oO rfl (cO 3 (bP hx7) ⟨rfl,(raT hS77)⟩)
  ·refine ra2 4 12 ?_ ?_
   ·exact og 3 ⟨rfl,(raT hS78)⟩
   ·exact oO rfl (cO 3 (bP hx7) ⟨rfl,(raT hS76)⟩)
  ·exact ra1 18 (oO rfl (aB (en:=ai) (a:=x9) rfl rfl hx9 (aE Ty.k49 (c:=sL ah x9.Out) rfl (raE hS75))))
  ·exact ra1 12 (oO rfl (cO 3 (bP hx7) ⟨rfl,(raT hS75)⟩))
  ·refine ra2 1 19 ?_ ?_
   ·exact og 4 ⟨rfl,(raT hS75)⟩
   ·exact oO rfl (cO 4 (bP hx10) ⟨rfl,(ra1 1 (og 5 ⟨rfl,(r0 20 rfl (aA (en:=ai) Ty.s22 rfl rfl rfl hx11 (rq [21] 4 (raE hS73))))⟩))⟩)
  ·refine ra2 4 19 ?_ ?_
   ·exact og 4 ⟨rfl,(raT hS75)⟩
   ·exact oO rfl (cO 4 (bP hx10) ⟨rfl,(r0 20 rfl (aA (en:=ai) Ty.s22 rfl rfl rfl hx11 (rq [21] 5 (raT hS74))))⟩)
  ·exact ra1 19 (oO rfl (cO 4 (bP hx10) ⟨rfl,(r0 20 rfl (aA (en:=ai) Ty.s22 rfl rfl rfl hx11 (rq [21] 4 (raT hS73))))⟩))
  ·refine ra2 4 22 ?_ ?_
   ·exact og 5 ⟨rfl,(raT hS73)⟩
   ·exact RO.fC 3 (oO rfl (cB (en:=ai) (a:=x12) (a':=(⟨x12.Kind,x12.A,x7,x12.Out⟩:Node)) Ty.c49 Ty.i49 rfl (vs:=[sL ah x7]) rfl rfl rfl hx12 rfl rfl rfl (ra1 4 (og 5 ⟨rfl,(r0 23 rfl (aA (en:=ai) Ty.s22 rfl rfl rfl hx13 (rq [24] 1 (raE hS72))))⟩))))
  ·exact ra1 22 (RO.fC 3 (oO rfl (cB (en:=ai) (a:=x12) (a':=(⟨x12.Kind,x12.A,x7,x12.Out⟩:Node)) Ty.c49 Ty.i49 rfl (vs:=[sL ah x7]) rfl rfl rfl hx12 rfl rfl rfl (r0 23 rfl (aA (en:=ai) Ty.s22 rfl rfl rfl hx13 (rq [24] 1 (raT hS72)))))))
  exact ra1 25 (RO.fC 4 (oO rfl (cB (en:=ai) (a:=x14) (a':=(⟨x14.Kind,x14.A,x14.In,x10⟩:Node)) Ty.c49 Ty.i49 rfl (vs:=[sL ah x10]) rfl rfl rfl hx14 rfl rfl rfl (RA.done (by decide +kernel) (X 4 5 (lk h (wk [] [0,1,2] 5 rfl)))))))
 refine X 1 3 ?_;replace h:=mi h hv_70;refine X 5 3 ?_;cases h;exact tD
theorem w4 {p0:Item} {p1:List Int} {p2:List (List Item)} {p3:List Memory} {p4:List Choice} {p5:List Item} {r:Bool} (h:mc p0 p1 p2 p3 p4 p5=some r):FnX Tryz.prog 77 [.agg (aa p0),.ptr 0 0] [.box [sL ah p1,sL (ae aa) p2,sL am p3,sL aF p4,sL aa p5]] (.bool r) [.box [sL ah p1,sL (ae aa) p2,sL am p3,sL aF p4,sL aa p5]]:=by
 unfold mc at h;refine fT 1 5 Tryz.func77 Tryz.ntmps77 rfl (j1 [(3,.bool ((decide (p0.Dep<0)) || decide (p0.Dep > ((p4).length:Int))))] [.box [sL ah p1,sL (ae aa) p2,sL am p3,sL aF p4,sL aa p5]] ?_ (fun hK=>?_))
 ·cases h;exact tN [0]
 refine X 6 2 (gp 7 (fun hb_1=>?_) (fun hb_1=>?_))
 ·refine Yp 9 2 ?_;rw [hb_1] at hK;exact wu hK [] [0] 2 rfl
 refine Y 4 2 (yQ rfl (aj Ty.s51 rfl (Yp 4 2 ?_)));rw [hb_1] at hK;exact wu hK [] [0] 2 rfl
theorem wF {p0:List Item} {p1:List Int} {p2:List (List Item)} {p3:List Memory} {p4:List Choice} {p5:List Item} {r:Int} (h:l6 p0 p1 p2 p3 p4 p5=some r):FnX Tryz.prog 108 [sL aa p0,.func 77 [.ptr 0 0]] [.box [sL ah p1,sL (ae aa) p2,sL am p3,sL aF p4,sL aa p5]] (iI r) [.box [sL ah p1,sL (ae aa) p2,sL am p3,sL aF p4,sL aa p5]]:=by
 unfold l6 at h;refine fT 1 8 Tryz.func108 Tryz.ntmps108 rfl (sQ (aj Ty.s26 rfl (Y 3 1 (itr (fun ss_5:Int=>mkA 19 [(0,sL aa p0),(1,.func 77 [.ptr 0 0]),(7,iI ((p0).length:Int)),(8,iI ss_5)]) (fun ss_5=>[.box [sL ah p1,sL (ae aa) p2,sL am p3,sL aF p4,sL aa p5]]) h (wk [] [0] 1 rfl) (fun ss_5 v_6 h hv_6=>?_)))));revert hv_6 h;revert ss_5;intro s1 h hv_6;replace h:km p0 p1 p2 p3 p4 p5 s1=some v_6:=h;try dsimp only
 unfold km at h;refine X 5 1 (T.ci h rfl (fun hb_7 h=>?_) (fun hb_7 h=>?_))
 ·refine B h fun x4 hx4 h=>(B h fun x5 hx5 h=>(X 13 1 (sQ (ao Ty.s26 (fun _=>rfl) rfl rfl hx4 (Y 1 1 (sO (cG [0] 1 1 (w4 hx5) ⟨rfl,(Y 1 1 (T.ci h rfl (fun hb_8 h=>?_) (fun hb_8 h=>?_)))⟩)))))))
  ·refine X 5 1 ?_;replace h:=mi h hv_6;cases h;exact tN [0]
  exact X 5 1 (lk h (wk [] [0] 1 rfl))
 refine X 1 1 ?_;replace h:=mi h hv_6;refine X 4 1 ?_;cases h;exact tN [0]
theorem wz {p0:List Item} {p1:List Int} {p2:List (List Item)} {p3:List Memory} {p4:List Choice} {p5:List Item} {r:Bool} (h:lZ p0 p1 p2 p3 p4 p5=some r):FnX Tryz.prog 76 [sL aa p0,.func 77 [.ptr 0 0]] [.box [sL ah p1,sL (ae aa) p2,sL am p3,sL aF p4,sL aa p5]] (.bool r) [.box [sL ah p1,sL (ae aa) p2,sL am p3,sL aF p4,sL aa p5]]:=by
 unfold lZ at h;refine fT 1 0 Tryz.func76 Tryz.ntmps76 rfl ?_;refine B h fun x2 hx2 h=>(X 8 1 (sO (cG [0] 1 1 (wF hx2) ⟨rfl,(Y 3 1 ?_)⟩)))
 cases h;exact tN [0]
theorem qj {p0:List Item} {p1:List Int} {p2:List (List Item)} {p3:List Memory} {p4:List Choice} {p5:List Item} {r:Bool} (h:jd p0 p1 p2 p3 p4 p5=some r):FnX Tryz.prog 75 [sL aa p0,.ptr 0 0] [.box [sL ah p1,sL (ae aa) p2,sL am p3,sL aF p4,sL aa p5]] (.bool r) [.box [sL ah p1,sL (ae aa) p2,sL am p3,sL aF p4,sL aa p5]]:=by
 unfold jd at h;refine fT 1 0 Tryz.func75 Tryz.ntmps75 rfl ?_;refine B h fun x2 hx2 h=>(X 8 1 (sO (cG [0] 1 1 (wz hx2) ⟨rfl,(Y 3 1 ?_)⟩)))
 cases h;exact tN [0]
theorem qv {p0:Memory} {r:Int} (h:gD p0=some r):Fn Tryz.prog 78 [.agg (am p0)] (iI r):=by
 unfold gD at h;refine fT 0 10 Tryz.func78 Tryz.ntmps78 rfl (sQ (aj Ty.s120 rfl (Y 2 1 (T.ci h rfl (fun hb_1 h=>?_) (fun hb_1 h=>?_)))))
 ·refine X 4 1 ?_;cases h;exact tD
 refine X 6 1 (sQ (aj Ty.s120 rfl (Y 3 1 (itr (fun ss_16:Int=>mkA 40 [(1,.ptr 0 0),(10,sL aq p0.Keys),(11,iI ((p0.Keys).length:Int)),(12,iI ss_16)]) (fun ss_16=>[.box (am p0)]) h (wk [] [0] 1 rfl) (fun ss_16 v_17 h hv_17=>?_)))));revert hv_17 h;revert ss_16;intro s1 h hv_17;replace h:eE p0 s1=some v_17:=h;try dsimp only
 unfold eE at h;refine X 5 1 (T.ci h rfl (fun hb_18 h=>?_) (fun hb_18 h=>?_))
 ·refine B h fun x3 hx3 h=>(X 6 1 (sQ (ao Ty.s120 (fun _=>rfl) rfl rfl hx3 (Y 5 1 ?_))))
  obtain ⟨zt_21,hz,h⟩:=bind_some h;revert hz h;revert zt_21;intro c5 hz h;refine j1 [(1,.ptr 0 0),(10,sL aq p0.Keys),(11,iI ((p0.Keys).length:Int)),(12,iI s1),(35,.bool c5)] [.box (am p0)] ?_ (fun hK=>?_)
  ·refine T.ci h rfl (fun hb_22 h=>?_) (fun hb_22 h=>?_)
   ·refine X 4 1 ?_;replace h:=mi h hv_17;cases h;exact tD
   exact X 5 1 (lk h (wk [] [0] 1 rfl))
  refine X 1 2 ?_;rcases ba (decide (x3.N<1)) with hb_19 | hb_19
  ·replace hz:=bT hz hb_19;refine T.drawn mixed (k:=19) rfl (rq [0] 18 (ra1 1 (og 2 ⟨rfl,(rq [2,3] 15 (r2 4 rfl hb_19 (r2 5 rfl hb_19 (r2 6 rfl hb_19 (r3 7 rfl (r3 8 rfl ?_))))))⟩)));refine r3 9 rfl (r3 10 rfl (r3 11 rfl (r3 12 rfl (r3 13 rfl (r3 14 rfl (r3 15 rfl (r3 16 rfl (r2 17 rfl hb_19 (r0 18 rfl (aY (v:=.bool true) rfl hb_19 rfl ?_))))))))));exact RA.done (by decide +kernel) (T.weakR hK (Weak.mkN [] [0] (by decide) (bx _) rfl ⟨cP rfl,rn_s rfl,be rfl,be rfl,eP ((congrArg (fun p=>p) (Option.some.inj hz)).symm),trivial⟩ (rw_bs (am p0) rfl (bh))))
  replace hz:=bR hz hb_19;rcases ba (decide (s1 > 0)) with hb_20 | hb_20
  ·replace hz:=bT hz hb_20;refine B hz fun x4 hx4 hz=>(T.drawn mixed (k:=19) rfl ?_)
   apply RA.jn 0 (bm 19 524287);intro hS24;apply RA.jn 4 (bm 19 57343);intro hS25
   ·refine rq [0] 18 (ra1 1 (og 2 ⟨rfl,(rq [2,3] 15 (ry 4 hb_19 rfl (ry 5 hb_19 rfl (ry 6 hb_19 rfl (ry 7 hb_20 rfl (ry 9 hb_20 rfl (ry 10 hb_20 rfl ?_)))))))⟩));refine ry 14 hb_20 rfl (ra2 8 15 ?_ ?_)
    ·refine oy 2 hb_20 rfl (r1 11 rfl hb_20 (ao Ty.s120 (fun _=>rfl) rfl rfl hx4 (ry 12 hb_20 rfl (ra2 13 15 ?_ ?_))))
     ·exact oy 2 hb_20 rfl (ra1 15 (oy 2 hb_20 rfl (ry 16 hb_20 rfl (r1 17 rfl hb_19 (aY (v:=.bool (decide (x4.Key >= x3.Key))) rfl hb_20 rfl (r0 18 rfl (aP (v:=.bool (decide (x4.Key >= x3.Key))) rfl hb_19 rfl (raE hS24))))))))
     ·exact oy 2 hb_20 rfl (raE hS25)
    ·exact oy 2 hb_20 rfl (ra1 8 (oy 2 hb_20 rfl (r1 11 rfl hb_20 (ao Ty.s120 (fun _=>rfl) rfl rfl hx4 (ry 12 hb_20 rfl (raT hS25))))))
   ·exact ra1 13 (oy 2 hb_20 rfl (ry 16 hb_20 rfl (r1 17 rfl hb_19 (aY (v:=.bool (decide (x4.Key >= x3.Key))) rfl hb_20 rfl (r0 18 rfl (aP (v:=.bool (decide (x4.Key >= x3.Key))) rfl hb_19 rfl (raT hS24)))))))
   exact RA.done (by decide +kernel) (T.weakR hK (Weak.mkN [] [0] (by decide) (bx _) rfl ⟨cP rfl,rn_s rfl,be rfl,be rfl,eP ((congrArg (fun p=>p) (Option.some.inj hz)).symm),trivial⟩ (rw_bs (am p0) rfl (bh))))
  replace hz:=bR hz hb_20;refine T.drawn mixed (k:=19) rfl (rq [0] 18 (ra1 1 (og 2 ⟨rfl,(rq [2,3] 15 (ry 4 hb_19 rfl (ry 5 hb_19 rfl (ry 6 hb_19 rfl (r2 7 rfl hb_20 (r2 8 rfl hb_20 ?_))))))⟩)));refine r2 9 rfl hb_20 (r2 10 rfl hb_20 (r2 11 rfl hb_20 (r2 12 rfl hb_20 (r2 13 rfl hb_20 (r2 14 rfl hb_20 (r2 15 rfl hb_20 (r2 16 rfl hb_20 (r1 17 rfl hb_19 (aP (v:=.bool false) rfl hb_20 rfl (r0 18 rfl (aP (v:=.bool false) rfl hb_19 rfl ?_)))))))))));exact RA.done (by decide +kernel) (T.weakR hK (Weak.mkN [] [0] (by decide) (bx _) rfl ⟨cP rfl,rn_s rfl,be rfl,be rfl,eP ((congrArg (fun p=>p) (Option.some.inj hz)).symm),trivial⟩ (rw_bs (am p0) rfl (bh))))
 refine X 1 1 ?_;replace h:=mi h hv_17;refine X 7 1 (T.ci h rfl (fun hb_27 h=>?_) (fun hb_27 h=>?_))
 ·refine X 4 1 ?_;cases h;exact tD
 refine X 5 1 ?_;cases h;exact tD
theorem xM {p0:Net} {p1:Choice} {r:Bool} (h:kY p0 p1=some r):Fn Tryz.prog 79 [.agg (au p0),.agg (aF p1)] (.bool r):=by
 unfold kY at h;refine fT 0 6 Tryz.func79 Tryz.ntmps79 rfl ?_;obtain ⟨zt_5,hz,h⟩:=bind_some h;revert hz h;revert zt_5;intro c3 hz h;refine j1 [(4,.bool c3)] [] ?_ (fun hK=>?_)
 ·cases h;exact tD
 refine X 1 2 ?_;rcases ba (decide (p1.Node >= 0)) with hb_1 | hb_1
 ·replace hz:=bT hz hb_1;rcases ba (decide (p1.Node<((p0.Nodes).length:Int))) with hb_2 | hb_2
  ·replace hz:=bT hz hb_2;refine B hz fun x1 hx1 hz=>?_
   rcases ba (x1.Kind==6) with hb_3 | hb_3
   ·replace hz:=bT hz hb_3;rcases ba (decide (p1.Lane >= 0)) with hb_4 | hb_4
    ·replace hz:=bT hz hb_4;refine B hz fun x2 hx2 hz=>(T.drawn mixed (k:=40) rfl ?_)
     apply RA.jn 0 (bm 40 1099511627775);intro hS6;apply RA.jn 5 (bm 40 34359738367);intro hS7;apply RA.jn 6 (bm 40 34091302911);intro hS8;apply RA.jn 8 (bm 40 7516192767);intro hS9;apply RA.jn 8 (bm 40 4294967295);intro hS10;apply RA.jn 22 (bm 40 262143);intro hS11;apply RA.jn 26 (bm 40 24575);intro hS12
     ·refine rq [0] 39 (ra1 1 (og 2 ⟨rfl,(rq [2,3] 36 (ry 4 hb_1 rfl (ry 6 hb_1 rfl (ra2 5 7 ?_ ?_))))⟩))
      ·exact oy 2 hb_1 rfl (ra1 7 (oy 2 hb_1 rfl (r1 8 rfl hb_1 (aj Ty.s22 rfl (ry 9 hb_1 rfl (r0 10 rfl (aY (v:=.bool (decide (p1.Node<((p0.Nodes).length:Int)))) rfl hb_1 rfl (rq [11] 28 (ry 12 hb_2 rfl (ry 14 hb_2 rfl (raE hS12)))))))))))
      ·exact oy 2 hb_1 rfl (r1 8 rfl hb_1 (aj Ty.s22 rfl (ra1 5 (oy 2 hb_1 rfl (ry 9 hb_1 rfl (r0 10 rfl (aY (v:=.bool (decide (p1.Node<((p0.Nodes).length:Int)))) rfl hb_1 rfl (rq [11] 28 (ry 12 hb_2 rfl (ry 14 hb_2 rfl (raT hS12)))))))))))
     ·refine ra2 13 15 ?_ ?_
      ·exact oy 2 hb_2 rfl (ra1 15 (oy 2 hb_2 rfl (r1 16 rfl hb_2 (ao Ty.s22 (fun _=>rfl) rfl rfl hx1 (ry 17 hb_2 rfl (raE hS11))))))
      ·exact oy 2 hb_2 rfl (ra1 13 (oy 2 hb_2 rfl (r1 16 rfl hb_2 (ao Ty.s22 (fun _=>rfl) rfl rfl hx1 (ry 17 hb_2 rfl (raT hS11))))))
     ·refine ra1 18 (oy 2 hb_2 rfl (ry 19 hb_2 rfl (r0 20 rfl (aY (v:=.bool (x1.Kind==6)) rfl hb_2 rfl (rq [21] 18 (ry 22 hb_3 rfl (ra1 23 (oy 2 hb_3 rfl (ry 24 hb_3 rfl (r0 25 rfl (aY (v:=.bool (decide (p1.Lane >= 0))) rfl hb_3 rfl ?_)))))))))));refine rq [26] 13 (ry 27 hb_4 rfl (ry 29 hb_4 rfl (ry 31 hb_4 rfl (ra3 28 30 32 ?_ ?_ ?_))))
      ·refine oy 2 hb_4 rfl (ra2 30 32 ?_ ?_)
       ·exact oy 2 hb_4 rfl (raE hS10)
       ·exact oy 2 hb_4 rfl (raE hS9)
      ·refine oy 2 hb_4 rfl (ra2 28 32 ?_ ?_)
       ·exact oy 2 hb_4 rfl (raT hS10)
       ·exact oy 2 hb_4 rfl (r1 33 rfl hb_4 (ao Ty.s22 (fun _=>rfl) rfl rfl hx2 (ry 34 hb_4 rfl (raE hS8))))
      ·refine oy 2 hb_4 rfl (ra2 28 30 ?_ ?_)
       ·exact oy 2 hb_4 rfl (raT hS9)
       ·exact oy 2 hb_4 rfl (r1 33 rfl hb_4 (ao Ty.s22 (fun _=>rfl) rfl rfl hx2 (ry 34 hb_4 rfl (raT hS8))))
     ·exact ra1 32 (oy 2 hb_4 rfl (r1 33 rfl hb_4 (ao Ty.s22 (fun _=>rfl) rfl rfl hx2 (ry 34 hb_4 rfl (raE hS7)))))
     ·exact ra1 30 (oy 2 hb_4 rfl (r1 33 rfl hb_4 (ao Ty.s22 (fun _=>rfl) rfl rfl hx2 (ry 34 hb_4 rfl (raT hS7)))))
     ·refine ra2 28 35 ?_ ?_
      ·exact oy 2 hb_4 rfl (raT hS7)
      ·exact oy 2 hb_4 rfl (r1 36 rfl hb_4 (aj Ty.s49 rfl (ra1 28 (oy 2 hb_4 rfl (ry 37 hb_4 rfl (r0 38 rfl (aY (v:=.bool (decide (p1.Lane<((x2.In).length:Int)))) rfl hb_4 rfl (rq [39] 0 (raE hS6)))))))))
     ·exact ra1 35 (oy 2 hb_4 rfl (r1 36 rfl hb_4 (aj Ty.s49 rfl (ry 37 hb_4 rfl (r0 38 rfl (aY (v:=.bool (decide (p1.Lane<((x2.In).length:Int)))) rfl hb_4 rfl (rq [39] 0 (raT hS6))))))))
     exact RA.done (by decide +kernel) (T.weakR hK (Weak.mkN [] [] (by decide) (bx _) rfl ⟨eP ((congrArg (fun p=>p) (Option.some.inj hz)).symm),trivial⟩ (bh)))
    replace hz:=bR hz hb_4;refine T.drawn mixed (k:=40) rfl ?_;apply RA.jn 22 (bm 40 262143);intro hS13;apply RA.jn 26 (bm 40 24575);intro hS14
    ·refine rq [0] 39 (ra1 1 (og 2 ⟨rfl,(rq [2,3] 36 (ry 4 hb_1 rfl (ry 6 hb_1 rfl (ra2 5 7 ?_ ?_))))⟩))
     ·exact oy 2 hb_1 rfl (ra1 7 (oy 2 hb_1 rfl (r1 8 rfl hb_1 (aj Ty.s22 rfl (ry 9 hb_1 rfl (r0 10 rfl (aY (v:=.bool (decide (p1.Node<((p0.Nodes).length:Int)))) rfl hb_1 rfl (rq [11] 28 (ry 12 hb_2 rfl (ry 14 hb_2 rfl (raE hS14)))))))))))
     ·exact oy 2 hb_1 rfl (r1 8 rfl hb_1 (aj Ty.s22 rfl (ra1 5 (oy 2 hb_1 rfl (ry 9 hb_1 rfl (r0 10 rfl (aY (v:=.bool (decide (p1.Node<((p0.Nodes).length:Int)))) rfl hb_1 rfl (rq [11] 28 (ry 12 hb_2 rfl (ry 14 hb_2 rfl (raT hS14)))))))))))
    ·refine ra2 13 15 ?_ ?_
     ·exact oy 2 hb_2 rfl (ra1 15 (oy 2 hb_2 rfl (r1 16 rfl hb_2 (ao Ty.s22 (fun _=>rfl) rfl rfl hx1 (ry 17 hb_2 rfl (raE hS13))))))
     ·exact oy 2 hb_2 rfl (ra1 13 (oy 2 hb_2 rfl (r1 16 rfl hb_2 (ao Ty.s22 (fun _=>rfl) rfl rfl hx1 (ry 17 hb_2 rfl (raT hS13))))))
    refine ra1 18 (oy 2 hb_2 rfl (ry 19 hb_2 rfl (r0 20 rfl (aY (v:=.bool (x1.Kind==6)) rfl hb_2 rfl (rq [21] 18 (ry 22 hb_3 rfl (ra1 23 (oy 2 hb_3 rfl (ry 24 hb_3 rfl (r0 25 rfl (aY (v:=.bool (decide (p1.Lane >= 0))) rfl hb_3 rfl ?_)))))))))));refine rq [26] 13 (r2 27 rfl hb_4 (r2 28 rfl hb_4 (r2 29 rfl hb_4 (r2 30 rfl hb_4 (r2 31 rfl hb_4 (r2 32 rfl hb_4 (r2 33 rfl hb_4 (r2 34 rfl hb_4 (r2 35 rfl hb_4 ?_)))))))));exact r2 36 rfl hb_4 (r2 37 rfl hb_4 (r0 38 rfl (aP (v:=.bool false) rfl hb_4 rfl (rq [39] 0 (RA.done (by decide +kernel) (T.weakR hK (Weak.mkN [] [] (by decide) (bx _) rfl ⟨eP ((congrArg (fun p=>p) (Option.some.inj hz)).symm),trivial⟩ (bh))))))))
   replace hz:=bR hz hb_3;refine T.drawn mixed (k:=40) rfl ?_;apply RA.jn 22 (bm 40 262143);intro hS15;apply RA.jn 26 (bm 40 24575);intro hS16
   ·refine rq [0] 39 (ra1 1 (og 2 ⟨rfl,(rq [2,3] 36 (ry 4 hb_1 rfl (ry 6 hb_1 rfl (ra2 5 7 ?_ ?_))))⟩))
    ·exact oy 2 hb_1 rfl (ra1 7 (oy 2 hb_1 rfl (r1 8 rfl hb_1 (aj Ty.s22 rfl (ry 9 hb_1 rfl (r0 10 rfl (aY (v:=.bool (decide (p1.Node<((p0.Nodes).length:Int)))) rfl hb_1 rfl (rq [11] 28 (ry 12 hb_2 rfl (ry 14 hb_2 rfl (raE hS16)))))))))))
    ·exact oy 2 hb_1 rfl (r1 8 rfl hb_1 (aj Ty.s22 rfl (ra1 5 (oy 2 hb_1 rfl (ry 9 hb_1 rfl (r0 10 rfl (aY (v:=.bool (decide (p1.Node<((p0.Nodes).length:Int)))) rfl hb_1 rfl (rq [11] 28 (ry 12 hb_2 rfl (ry 14 hb_2 rfl (raT hS16)))))))))))
   ·refine ra2 13 15 ?_ ?_
    ·exact oy 2 hb_2 rfl (ra1 15 (oy 2 hb_2 rfl (r1 16 rfl hb_2 (ao Ty.s22 (fun _=>rfl) rfl rfl hx1 (ry 17 hb_2 rfl (raE hS15))))))
    ·exact oy 2 hb_2 rfl (ra1 13 (oy 2 hb_2 rfl (r1 16 rfl hb_2 (ao Ty.s22 (fun _=>rfl) rfl rfl hx1 (ry 17 hb_2 rfl (raT hS15))))))
   refine ra1 18 (oy 2 hb_2 rfl (ry 19 hb_2 rfl (r0 20 rfl (aY (v:=.bool (x1.Kind==6)) rfl hb_2 rfl (rq [21] 18 (r2 22 rfl hb_3 (r2 23 rfl hb_3 (r2 24 rfl hb_3 (r0 25 rfl (aP (v:=.bool false) rfl hb_3 rfl (rq [26] 13 ?_)))))))))));refine r2 27 rfl rfl (r2 28 rfl rfl (r2 29 rfl rfl (r2 30 rfl rfl (r2 31 rfl rfl (r2 32 rfl rfl (r2 33 rfl rfl (r2 34 rfl rfl (r2 35 rfl rfl (r2 36 rfl rfl ?_)))))))));exact r2 37 rfl rfl (r0 38 rfl (aP (v:=.bool false) rfl rfl rfl (rq [39] 0 (RA.done (by decide +kernel) (T.weakR hK (Weak.mkN [] [] (by decide) (bx _) rfl ⟨eP ((congrArg (fun p=>p) (Option.some.inj hz)).symm),trivial⟩ (bh)))))))
  replace hz:=bR hz hb_2;refine T.drawn mixed (k:=40) rfl ?_;apply RA.jn 0 (bm 40 1099511627775);intro hS17
  ·refine rq [0] 39 (ra1 1 (og 2 ⟨rfl,(rq [2,3] 36 (ry 4 hb_1 rfl (ry 6 hb_1 rfl (ra2 5 7 ?_ ?_))))⟩))
   ·refine oy 2 hb_1 rfl (ra1 7 (oy 2 hb_1 rfl (r1 8 rfl hb_1 (aj Ty.s22 rfl (ry 9 hb_1 rfl (r0 10 rfl (aY (v:=.bool (decide (p1.Node<((p0.Nodes).length:Int)))) rfl hb_1 rfl (rq [11] 28 (r2 12 rfl hb_2 (r2 13 rfl hb_2 (r2 14 rfl hb_2 ?_)))))))))));refine r2 15 rfl hb_2 (r2 16 rfl hb_2 (r2 17 rfl hb_2 (r2 18 rfl hb_2 (r2 19 rfl hb_2 (r0 20 rfl (aP (v:=.bool false) rfl hb_2 rfl (rq [21] 18 (r2 22 rfl rfl (r2 23 rfl rfl (r2 24 rfl rfl ?_))))))))));refine r0 25 rfl (aP (v:=.bool false) rfl rfl rfl (rq [26] 13 (r2 27 rfl rfl (r2 28 rfl rfl (r2 29 rfl rfl (r2 30 rfl rfl (r2 31 rfl rfl (r2 32 rfl rfl (r2 33 rfl rfl (r2 34 rfl rfl ?_))))))))));exact r2 35 rfl rfl (r2 36 rfl rfl (r2 37 rfl rfl (r0 38 rfl (aP (v:=.bool false) rfl rfl rfl (rq [39] 0 (raE hS17))))))
   ·refine oy 2 hb_1 rfl (r1 8 rfl hb_1 (aj Ty.s22 rfl (ra1 5 (oy 2 hb_1 rfl (ry 9 hb_1 rfl (r0 10 rfl (aY (v:=.bool (decide (p1.Node<((p0.Nodes).length:Int)))) rfl hb_1 rfl (rq [11] 28 (r2 12 rfl hb_2 (r2 13 rfl hb_2 (r2 14 rfl hb_2 ?_)))))))))));refine r2 15 rfl hb_2 (r2 16 rfl hb_2 (r2 17 rfl hb_2 (r2 18 rfl hb_2 (r2 19 rfl hb_2 (r0 20 rfl (aP (v:=.bool false) rfl hb_2 rfl (rq [21] 18 (r2 22 rfl rfl (r2 23 rfl rfl (r2 24 rfl rfl ?_))))))))));refine r0 25 rfl (aP (v:=.bool false) rfl rfl rfl (rq [26] 13 (r2 27 rfl rfl (r2 28 rfl rfl (r2 29 rfl rfl (r2 30 rfl rfl (r2 31 rfl rfl (r2 32 rfl rfl (r2 33 rfl rfl (r2 34 rfl rfl ?_))))))))));exact r2 35 rfl rfl (r2 36 rfl rfl (r2 37 rfl rfl (r0 38 rfl (aP (v:=.bool false) rfl rfl rfl (rq [39] 0 (raT hS17))))))
  exact RA.done (by decide +kernel) (T.weakR hK (Weak.mkN [] [] (by decide) (bx _) rfl ⟨eP ((congrArg (fun p=>p) (Option.some.inj hz)).symm),trivial⟩ (bh)))
 replace hz:=bR hz hb_1;refine T.drawn mixed (k:=40) rfl (rq [0] 39 (ra1 1 (og 2 ⟨rfl,(rq [2,3] 36 (r2 4 rfl hb_1 (r2 5 rfl hb_1 (r2 6 rfl hb_1 (r2 7 rfl hb_1 (r2 8 rfl hb_1 ?_))))))⟩)));refine r2 9 rfl hb_1 (r0 10 rfl (aP (v:=.bool false) rfl hb_1 rfl (rq [11] 28 (r2 12 rfl rfl (r2 13 rfl rfl (r2 14 rfl rfl (r2 15 rfl rfl (r2 16 rfl rfl (r2 17 rfl rfl (r2 18 rfl rfl ?_))))))))));refine r2 19 rfl rfl (r0 20 rfl (aP (v:=.bool false) rfl rfl rfl (rq [21] 18 (r2 22 rfl rfl (r2 23 rfl rfl (r2 24 rfl rfl (r0 25 rfl (aP (v:=.bool false) rfl rfl rfl (rq [26] 13 (r2 27 rfl rfl (r2 28 rfl rfl ?_)))))))))));refine r2 29 rfl rfl (r2 30 rfl rfl (r2 31 rfl rfl (r2 32 rfl rfl (r2 33 rfl rfl (r2 34 rfl rfl (r2 35 rfl rfl (r2 36 rfl rfl (r2 37 rfl rfl (r0 38 rfl (aP (v:=.bool false) rfl rfl rfl ?_))))))))));exact rq [39] 0 (RA.done (by decide +kernel) (T.weakR hK (Weak.mkN [] [] (by decide) (bx _) rfl ⟨eP ((congrArg (fun p=>p) (Option.some.inj hz)).symm),trivial⟩ (bh))))
theorem qF {p0:Net} {p1:List (List Item)} {p2:State} {r:Int} (h:jC p0 p1 p2=some r):Fn Tryz.prog 54 [.agg (au p0),sL (ae aa) p1,.agg (aH p2)] (iI r):=by
 unfold jC at h;refine fT 0 0 Tryz.func54 Tryz.ntmps54 rfl ?_;refine B h fun x2 hx2 h=>(X 11 0 (sO (cF (qx hx2) ⟨rfl,(Y 7 2 (T.ci h rfl (fun hb_1 h=>?_) (fun hb_1 h=>?_)))⟩)))
 ·refine X 5 2 ?_;cases h;exact tD
 refine X 2 2 (j1 [(1,sL (ae aa) p1),(3,.ptr 0 0),(5,.ptr 1 0),(46,.bool ((((p2.At).length:Int) != ((p1).length:Int)) || ((((p2.Rings).length:Int) != p0.Rings) || ((p2.Memory).length:Int) != ((p0.Nodes).length:Int))))] [.box (au p0),.box (aH p2)] ?_ (fun hK=>?_))
 ·refine T.ci h rfl (fun hb_4 h=>?_) (fun hb_4 h=>?_)
  ·refine X 4 2 ?_;cases h;exact tD
  refine X 2 2 (j1 [(1,sL (ae aa) p1),(3,.ptr 0 0),(5,.ptr 1 0),(56,.bool ((decide (((p2.Choices).length:Int) > 500)) || decide (((p2.Out).length:Int) > 2000)))] [.box (au p0),.box (aH p2)] ?_ (fun hK=>?_))
  ·refine T.ci h rfl (fun hb_6 h=>?_) (fun hb_6 h=>?_)
   ·refine X 4 2 ?_;cases h;exact tD
   refine X 6 2 (sQ (aj Ty.s49 rfl (Y 3 2 (itr (fun ss_15:Int=>mkA 131 [(1,sL (ae aa) p1),(3,.ptr 0 0),(5,.ptr 1 0),(58,sL ah p2.At),(59,iI ((p2.At).length:Int)),(60,iI ss_15)]) (fun ss_15=>[.box (au p0),.box (aH p2)]) h (wk [] [0,1] 2 rfl) (fun ss_15 v_16 h hv_16=>?_)))));revert hv_16 h;revert ss_15;intro s5 h hv_16;replace h:kP p0 p1 p2 s5=some v_16:=h;try dsimp only
   unfold kP at h;refine X 5 2 (T.ci h rfl (fun hb_17 h=>?_) (fun hb_17 h=>?_))
   ·refine B h fun x7 hx7 h=>(X 6 2 (sQ (ao Ty.s49 (fun _=>rfl) rfl rfl hx7 (Y 4 2 ?_))))
    obtain ⟨zt_19,hz,h⟩:=bind_some h;revert hz h;revert zt_19;intro c9 hz h;refine j1 [(1,sL (ae aa) p1),(3,.ptr 0 0),(5,.ptr 1 0),(58,sL ah p2.At),(59,iI ((p2.At).length:Int)),(60,iI s5),(75,.bool c9)] [.box (au p0),.box (aH p2)] ?_ (fun hK=>?_)
    ·refine T.ci h rfl (fun hb_20 h=>?_) (fun hb_20 h=>?_)
     ·refine X 4 2 ?_;replace h:=mi h hv_16;cases h;exact tD
     exact X 5 2 (lk h (wk [] [0,1] 2 rfl))
    refine X 5 2 (gi 67 hz (fun hb_18 hz=>?_) (fun hb_18 hz=>?_))
    ·refine Yp 9 2 ?_;cases hz;exact sx hK
    refine B hz fun x8 hx8 hz=>(Y 3 2 (yQ rfl (ao Ty.s25 (fun _=>rfl) rfl rfl hx8 (Y 1 2 (yQ rfl (aj Ty.s26 rfl (Yp 3 2 ?_)))))))
    cases hz;exact sx hK
   refine X 1 2 ?_;replace h:=mi h hv_16;refine X 10 2 (sQ (aj Ty.s25 rfl (Y 3 2 (itr (fun ss_29:Int=>mkA 131 [(3,.ptr 0 0),(5,.ptr 1 0),(10,.func 75 [.ptr 1 0]),(79,sL (ae aa) p2.Rings),(80,iI ((p2.Rings).length:Int)),(81,iI ss_29)]) (fun ss_29=>[.box (au p0),.box (aH p2)]) h (wk [] [0,1] 2 rfl) (fun ss_29 v_30 h hv_30=>?_)))));revert hv_30 h;revert ss_29;intro s10 h hv_30;replace h:jq p0 p2 s10=some v_30:=h;try dsimp only
   unfold jq at h;refine X 5 2 (T.ci h rfl (fun hb_31 h=>?_) (fun hb_31 h=>?_))
   ·refine B h fun x12 hx12 h=>(X 5 2 (sQ (ao Ty.s25 (fun _=>rfl) rfl rfl hx12 (Y 7 2 (sQ (aj Ty.s26 rfl (Y 4 2 (T.ci h rfl (fun hb_32 h=>?_) (fun hb_32 h=>?_)))))))))
    ·refine X 4 2 ?_;replace h:=mi h hv_30;cases h;exact tD
    refine B h fun x14 hx14 h=>(X 5 2 (sO (cG [1] 2 1 (qj hx14) ⟨rfl,(Y 2 2 (T.ci h rfl (fun hb_34 h=>?_) (fun hb_34 h=>?_)))⟩)))
    ·refine X 4 2 ?_;replace h:=mi h hv_30;cases h;exact tD
    exact X 5 2 (lk h (wk [] [0,1] 2 rfl))
   refine X 1 2 ?_;replace h:=mi h hv_30;refine X 5 2 (sQ (aj Ty.s50 rfl (Y 3 2 (itr (fun ss_43:Int=>mkA 131 [(3,.ptr 0 0),(5,.ptr 1 0),(10,.func 75 [.ptr 1 0]),(96,sL am p2.Memory),(97,iI ((p2.Memory).length:Int)),(98,iI ss_43)]) (fun ss_43=>[.box (au p0),.box (aH p2)]) h (wk [] [0,1] 2 rfl) (fun ss_43 v_44 h hv_44=>?_)))));revert hv_44 h;revert ss_43;intro s15 h hv_44;replace h:jm p0 p2 s15=some v_44:=h;try dsimp only
   unfold jm at h;refine X 5 2 (T.ci h rfl (fun hb_45 h=>?_) (fun hb_45 h=>?_))
   ·refine B h fun x17 hx17 h=>(X 5 2 (sQ (ao Ty.s50 (fun _=>rfl) rfl rfl hx17 (B h fun x19 hx19 h=>(Y 8 2 (sO (cF (qv hx19) ⟨rfl,(Y 7 3 (T.ci h rfl (fun hb_46 h=>?_) (fun hb_46 h=>?_)))⟩)))))))
    ·refine X 5 3 ?_;replace h:=mi h hv_44;cases h;exact tD
    refine X 7 3 (sQ (aj Ty.s51 rfl (Y 2 3 (T.ci h rfl (fun hb_48 h=>?_) (fun hb_48 h=>?_)))))
    ·refine X 4 3 ?_;replace h:=mi h hv_44;cases h;exact tD
    exact X 5 3 (lk h (wk [] [0,1] 3 rfl))
   refine X 1 2 ?_;replace h:=mi h hv_44;refine X 5 2 (sQ (aj Ty.s51 rfl (Y 3 2 (itr (fun ss_55:Int=>mkA 131 [(3,.ptr 0 0),(5,.ptr 1 0),(10,.func 75 [.ptr 1 0]),(115,sL aF p2.Choices),(116,iI ((p2.Choices).length:Int)),(117,iI ss_55)]) (fun ss_55=>[.box (au p0),.box (aH p2)]) h (wk [] [0,1] 2 rfl) (fun ss_55 v_56 h hv_56=>?_)))));revert hv_56 h;revert ss_55;intro s20 h hv_56;replace h:jr p0 p2 s20=some v_56:=h;try dsimp only
   unfold jr at h;refine X 5 2 (T.ci h rfl (fun hb_57 h=>?_) (fun hb_57 h=>?_))
   ·refine B h fun x22 hx22 h=>(X 5 2 (sQ (ao Ty.s51 (fun _=>rfl) rfl rfl hx22 (B h fun x24 hx24 h=>(Y 8 2 (sO (cF (xM hx24) ⟨rfl,(Y 2 3 (T.ci h rfl (fun hb_58 h=>?_) (fun hb_58 h=>?_)))⟩)))))))
    ·refine X 4 3 ?_;replace h:=mi h hv_56;cases h;exact tD
    exact X 5 3 (lk h (wk [] [0,1] 3 rfl))
   refine X 1 2 ?_;replace h:=mi h hv_56;refine B h fun x26 hx26 h=>(X 6 2 (sO (cG [1] 2 1 (qj hx26) ⟨rfl,(Y 2 2 (T.ci h rfl (fun hb_61 h=>?_) (fun hb_61 h=>?_)))⟩)))
   ·refine X 4 2 ?_;cases h;exact tD
   refine X 5 2 ?_;cases h;exact tD
  refine X 4 2 (sQ (aj Ty.s51 rfl (Y 2 2 (gp 51 (fun hb_5=>?_) (fun hb_5=>?_)))))
  ·refine Yp 6 2 ?_;rw [hb_5] at hK;exact sx hK
  refine Y 2 2 (yQ rfl (aj Ty.s26 rfl (Yp 3 2 ?_)));rw [hb_5] at hK;exact sx hK
 refine X 4 2 (sQ (aj Ty.s49 rfl (Y 1 2 (sQ (aj Ty.s25 rfl (Y 2 2 (gp 30 (fun hb_2=>?_) (fun hb_2=>?_))))))))
 ·refine Yp 17 2 ?_;rw [hb_2] at hK;exact sx hK
 refine Y 2 2 (yQ rfl (aj Ty.s25 rfl (Yp 5 2 (gp 38 (fun hb_3=>?_) (fun hb_3=>?_)))))
 ·refine Yp 9 2 ?_;rw [hb_2] at hK;rw [hb_3] at hK;exact sx hK
 refine Y 2 2 (yQ rfl (aj Ty.s50 rfl (Y 2 2 (yQ rfl (aj Ty.s22 rfl (Yp 3 2 ?_))))));rw [hb_2] at hK;rw [hb_3] at hK;exact sx hK
end
end Go.Proofs.YtoelnjpolhamfaaGreatDoor
