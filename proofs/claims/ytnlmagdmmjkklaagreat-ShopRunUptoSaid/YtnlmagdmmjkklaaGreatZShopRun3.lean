/-
  Part 3 of the proof of shopRunLaw.proved: the code computes these functions, and the law holds of them, with no condition beyond the statement's own; put together by a program of ours (wip/decl.py) out of texts of ours.
-/
import Derived.Test.YtnlmagdmmjkklaaGreatZShopRun2
set_option linter.unusedVariables false
set_option linter.unusedSimpArgs false
namespace Go.Proofs.YtnlmagdmmjkklaaGreat
noncomputable section
set_option maxRecDepth 100000
def xi(p0 p1:Int):Qbm (Int×Int):=
 ((shr .u64 p0 32).bind λx2=>((shr .u64 p1 32).bind λx4=>((shr .u64 (IntKind.u64.wrap ((ibits .and .u64 p0 4294967295)*(ibits .and .u64 p1 4294967295))) 32).bind λx6=>((shr .u64 (IntKind.u64.wrap ((IntKind.u64.wrap (x2*(ibits .and .u64 p1 4294967295)))+x6)) 32).bind λx8=>((shr .u64 (IntKind.u64.wrap ((ibits .and .u64 (IntKind.u64.wrap ((IntKind.u64.wrap (x2*(ibits .and .u64 p1 4294967295)))+x6)) 4294967295)+(IntKind.u64.wrap ((ibits .and .u64 p0 4294967295)*x4)))) 32).bind λx10=>(some (IntKind.u64.wrap ((IntKind.u64.wrap ((IntKind.u64.wrap (x2*x4))+x8))+x10),IntKind.u64.wrap (p0*p1))))))))
def vk(p0 p1:Int):Qbm (Int×Int):=
 ((xi p0 p1).bind λx2=>(some (x2.1,x2.2)))
def lf  (s6:Int)(s7:U Ends):Qbm ((Int×(U Ends))⊕(U Ends)):=
 (if(decide (s6<((s7).length:Int)))=true then((vwok (s7).length s6 ((s7).length:Int)).bind λx8=>((vwok (s7).length 0 s6).bind λx9=>((vwok (s7).length ((s6).toNat:Nat) (((s6).toNat:Nat)+(((((s7).length:Int)).toNat- (s6).toNat):Nat))).bind λx10=>((vwok (s7).length (((0:Int)).toNat:Nat) ((((0:Int)).toNat:Nat)+(((s6).toNat- ((0:Int)).toNat):Nat))).bind λx11=>(some (.inl (IntKind.i64.wrap (s6+((min ((((s7).length:Int)).toNat- (s6).toNat) ((s6).toNat- ((0:Int)).toNat):Nat):Int)),(cpy s7 ((s6).toNat) ((((s7).length:Int)).toNat- (s6).toNat) ((s7.drop (((0:Int)).toNat)).take ((s6).toNat- ((0:Int)).toNat))))))))))else(Option.map Sum.inr (some s7)))
def rR(p0:U Ends)(p1:Int):Qbm (U Ends):=
 (if(decide (p1<0))=true then(none)else((vk (IntKind.u64.wrap ((p0).length:Int)) (IntKind.u64.wrap p1)).bind λx2=>(if((decide (x2.1> 0))||decide (x2.2> 9223372036854775807))=true then(none)else((mk (IntKind.i64.wrap x2.2) (⟨0,0⟩:Ends)).bind λx5=>(iter (λip:Int×(U Ends)=>lf ip.1 ip.2) (((min (x5).length (p0).length:Nat):Int),(cpy x5 0 (x5).length p0)))))))
def pz(p0:Int)(z2:Bool):Qbm (Int×Int×Bool):=
 (if z2=true then(some (1,(-1),true))else(if(p0==6)=true then(some ((-1),1,true))else(if(p0==8)=true then(some (1,0,true))else(some (0,0,false)))))
def nm(p0:Int)(z1:Bool):Qbm (Int×Int×Bool):=
 (if z1=true then(some (1,1,true))else(if(p0==5)=true then(pz p0 (p0==5))else(pz p0 (p0==7))))
def sY(p0:Int):Qbm (Int×Int×Bool):=
 (if(p0==1)=true then(some (0,1,true))else(if(p0==2)=true then(nm p0 (p0==2))else(if(p0==3)=true then(nm p0 (p0==3))else(nm p0 (p0==4)))))
def pZ(p0 p1:Int):Qbm Bool:=
 (some ((p0==p1)||((decide (p1<0))&&decide (p0> 0))))
def lH(p0:Net)(s6:Int)(x9:Node)(z15 s27:Int)(s28:U Ends):Qbm ((Int×(U Ends))⊕((Int×Int×(U Ends))⊕((U Ends)×Int))):=
 (if(decide (s27<((x9.Out).length:Int)))=true then((idx x9.Out s27).bind λx30=>(if((decide (x30<0))||decide (x30>=p0.Rings))=true then(Option.map Sum.inr (Option.map Sum.inr (some ([],3))))else((ixN s28 x30).bind λx34=>(((s28)[x34]?).bind λx35=>(if(decide (x35.src>=0))=true then(Option.map Sum.inr (Option.map Sum.inr (some ([],6))))else((ixN s28 x30).bind λx36=>(((s28)[x36]?).bind λx37=>(some (.inl (IntKind.i64.wrap (s27+1),(List.set s28 x36 (⟨s6,x37.dst⟩:Ends))))))))))))else(Option.map Sum.inr (some (.inl (z15,IntKind.i64.wrap (s6+1),s28)))))
def lF(p0:Net)(s6:Int)(x9:Node)(z15 s16:Int)(s17:U Ends):Qbm ((Int×(U Ends))⊕((Int×Int×(U Ends))⊕((U Ends)×Int))):=
 (if(decide (s16<((x9.In).length:Int)))=true then((idx x9.In s16).bind λx19=>(if((decide (x19<0))||decide (x19>=p0.Rings))=true then(Option.map Sum.inr (Option.map Sum.inr (some ([],3))))else((ixN s17 x19).bind λx23=>(((s17)[x23]?).bind λx24=>(if(decide (x24.dst>=0))=true then(Option.map Sum.inr (Option.map Sum.inr (some ([],6))))else((ixN s17 x19).bind λx25=>(((s17)[x25]?).bind λx26=>(some (.inl (IntKind.i64.wrap (s16+1),(List.set s17 x25 (⟨x26.src,s6⟩:Ends))))))))))))else(Option.map Sum.inr (iter (λl7:Int×(U Ends)=>lH p0 s6 x9 z15 l7.1 l7.2) (0,s17))))
def nz(p0:Net)(s6:Int)(s7:U Ends)(x9:Node)(z15:Int):Qbm ((Int×Int×(U Ends))⊕((U Ends)×Int)):=
 (iter (λl8:Int×(U Ends)=>lF p0 s6 x9 z15 l8.1 l8.2) (0,s7))
def nw(s5:Int)(s7:U Ends)(s38:Int):Qbm (Int⊕((U Ends)×Int)):=
 (if(decide (s38<((s7).length:Int)))=true then((ixN s7 s38).bind λx41=>(((s7)[x41]?).bind λx42=>(if((decide (x42.src<0))||decide (x42.dst<0))=true then(Option.map Sum.inr (some ([],9)))else(some (.inl (IntKind.i64.wrap (s38+1)))))))else(Option.map Sum.inr (if(s5 !=1)=true then(some ([],4))else(some (s7,0)))))
def lI(p0:Net)(s5 s6:Int)(s7:U Ends):Qbm ((Int×Int×(U Ends))⊕((U Ends)×Int)):=
 (if(decide (s6<((p0.Nodes).length:Int)))=true then((idx p0.Nodes s6).bind λx9=>((sY x9.Kind).bind λx11=>(if(!x11.2.2)=true then(Option.map Sum.inr (some ([],5)))else((pZ ((x9.In).length:Int) x11.1).bind λx12=>(Option.bind (if(!x12)=true then(some true)else((pZ ((x9.Out).length:Int) x11.2.1).bind λx13=>(some (!x13)))) λc14=>(if c14=true then(Option.map Sum.inr (some ([],4)))else(if((decide (x9.A<0))||(if(x9.Kind==1)=true then((decide (x9.A>=4))||(if(x9.Kind==2)=true then((decide (x9.A> 3))||((x9.Kind !=1)&&((x9.Kind !=2)&&x9.A !=0)))else((x9.Kind !=1)&&((x9.Kind !=2)&&x9.A !=0))))else(if(x9.Kind==2)=true then((decide (x9.A> 3))||((x9.Kind !=1)&&((x9.Kind !=2)&&x9.A !=0)))else((x9.Kind !=1)&&((x9.Kind !=2)&&x9.A !=0)))))=true then(Option.map Sum.inr (some ([],3)))else(if(x9.Kind==8)=true then(nz p0 s6 s7 x9 (IntKind.i64.wrap (s5+1)))else(nz p0 s6 s7 x9 s5)))))))))else(Option.map Sum.inr (iter (λqw:Int=>nw s5 s7 qw) 0)))
def tm(p0:Net):Qbm ((U Ends)×Int):=
 (if((decide (((p0.Nodes).length:Int)<1))||((decide (((p0.Nodes).length:Int)> 12))||((decide (p0.Rings<0))||decide (p0.Rings> 16))))=true then(some ([],2))else(if((decide (p0.Room<1))||decide (p0.Room> 6))=true then(some ([],3))else((rR ([(⟨(-1),(-1)⟩:Ends)]:U Ends) p0.Rings).bind λx4=>(iter (λjE:Int×Int×(U Ends)=>lI p0 jE.1 jE.2.1 jE.2.2) (0,0,x4)))))
def rU(p0:Int)(p1:U Bool)(p2:U Ends):Qbm Bool:=
 ((ixN p2 p0).bind λx5=>(((p2)[x5]?).bind λx6=>((ixN p1 x6.src).bind λx7=>(((p1)[x7]?).bind λx8=>(some (!x8))))))
def oM(p0:U Int)(p1:U Bool)(p2:U Ends)(s1:Int):Qbm (Int⊕Int):=
 (if(decide (s1<((p0).length:Int)))=true then((idx p0 s1).bind λx4=>((rU x4 p1 p2).bind λx5=>(if x5=true then(Option.map Sum.inr (some s1))else(some (.inl (IntKind.i64.wrap (s1+1)))))))else(Option.map Sum.inr (some (-1))))
def uM(p0:U Int)(p1:U Bool)(p2:U Ends):Qbm Int:=
 (iter (λam:Int=>oM p0 p1 p2 am) 0)
def oL(p0:U Int)(p1:U Bool)(p2:U Ends):Qbm Bool:=
 ((uM p0 p1 p2).bind λx2=>(some (decide (x2>=0))))
def nt(s5:U Int)(s6:U Bool)(z14:Int):Qbm (((U Int)×(U Bool))⊕((U Int)×Int)):=
 (if(decide (z14<0))=true then(Option.map Sum.inr (some ([],7)))else((ixN s6 z14).bind λx17=>(((s6)[x17]?).bind λx18=>((app s5 [z14]).bind λx19=>(some (.inl (x19,(List.set s6 x17 true))))))))
def lC(p0:Net)(x2:(U Ends)×Int)(s5:U Int)(s6:U Bool)(s7:Int):Qbm (Int⊕(((U Int)×(U Bool))⊕((U Int)×Int))):=
 (if(decide (s7<((p0.Nodes).length:Int)))=true then((idx p0.Nodes s7).bind λx9=>((ixN s6 s7).bind λx10=>(((s6)[x10]?).bind λx11=>(Option.bind (if(!x11)=true then((oL x9.In s6 x2.1).bind λx12=>(some (!x12)))else(some false)) λc13=>(if c13=true then(Option.map Sum.inr (nt s5 s6 s7))else(some (.inl (IntKind.i64.wrap (s7+1)))))))))else(Option.map Sum.inr (nt s5 s6 (-1))))
def lD(p0:Net)(x2:(U Ends)×Int)(s5:U Int)(s6:U Bool):Qbm (((U Int)×(U Bool))⊕((U Int)×Int)):=
 (if(decide (((s5).length:Int)<((p0.Nodes).length:Int)))=true then(iter (λqx:Int=>lC p0 x2 s5 s6 qx) 0)else(Option.map Sum.inr (some (s5,0))))
def sW(p0:Net):Qbm ((U Int)×Int):=
 ((tm p0).bind λx2=>(if(x2.2 !=0)=true then(some ([],x2.2))else((mk ((p0.Nodes).length:Int) false).bind λx4=>(iter (λmh:(U Int)×(U Bool)=>lD p0 x2 mh.1 mh.2) ([],x4)))))
def pU(p0:Net):Qbm Int:=
 ((sW p0).bind λx2=>(some x2.2))
def pi(s3:Int)(x5:U Item)(s6:Int):Qbm (Int⊕(Int⊕Int)):=
 (if(decide (s6<((x5).length:Int)))=true then((idx x5 s6).bind λx8=>(if(x8.Dep !=0)=true then(Option.map Sum.inr (Option.map Sum.inr (some 4)))else(some (.inl (IntKind.i64.wrap (s6+1))))))else(Option.map Sum.inr (some (.inl (IntKind.i64.wrap (s3+1))))))
def lw(p0:Net)(p1:U (U Item))(s11:Int)(s12:U Bool):Qbm ((Int×(U Bool))⊕Int):=
 (if(decide (s11<((p0.Nodes).length:Int)))=true then((idx p0.Nodes s11).bind λx14=>(if(x14.Kind !=1)=true then(some (.inl (IntKind.i64.wrap (s11+1),s12)))else(if(decide (x14.A>=((p1).length:Int)))=true then(Option.map Sum.inr (some 5))else((ixN s12 x14.A).bind λx17=>(((s12)[x17]?).bind λx18=>(if x18=true then(Option.map Sum.inr (some 6))else((ixN s12 x14.A).bind λx19=>(((s12)[x19]?).bind λx20=>(some (.inl (IntKind.i64.wrap (s11+1),(List.set s12 x19 true))))))))))))else(Option.map Sum.inr (some 0)))
def ph(p0:Net)(p1:U (U Item))(s3:Int):Qbm (Int⊕Int):=
 (if(decide (s3<((p1).length:Int)))=true then((idx p1 s3).bind λx5=>(if(decide (((x5).length:Int)> 20))=true then(Option.map Sum.inr (some 2))else(iter (λbl:Int=>pi s3 x5 bl) 0)))else(Option.map Sum.inr ((mk ((p1).length:Int) false).bind λx10=>(iter (λeX:Int×(U Bool)=>lw p0 p1 eX.1 eX.2) (0,x10)))))
def lJ(p0:Net)(p1:U (U Item)):Qbm Int:=
 ((pU p0).bind λx2=>(if(x2 !=0)=true then(some x2)else(if(decide (((p1).length:Int)> 4))=true then(some 2)else(iter (λcr:Int=>ph p0 p1 cr) 0))))
def sH(p0:Net)(p1:U (U Item)):Qbm State:=
 ((mk ((p1).length:Int) 0).bind λx4=>((mk p0.Rings ([]:U Item)).bind λx5=>((mk ((p0.Nodes).length:Int) (⟨0,[],0⟩:Memory)).bind λx6=>(some (⟨x4,x5,x6,[],[]⟩:State)))))
def kj(p0:Net)(p1:U (U Item)):Qbm (State×Int):=
 ((lJ p0 p1).bind λx2=>(if(x2 !=0)=true then(some ((⟨[],[],[],[],[]⟩:State),x2))else((sH p0 p1).bind λx4=>(some (x4,0)))))
def u1(p0:U Node):Qbm (U Node):=app [] p0
def jj(p0:U Int):Qbm (U Int):=app [] p0
def nv(p0:Net)(x2:U Node)(s3:Int)(s4:U Node):Qbm ((Int×(U Node))⊕Net):=
 (if(decide (s3<((x2).length:Int)))=true then((ixN s4 s3).bind λx5=>(((s4)[x5]?).bind λx6=>((jj x6.In).bind λx7=>((ixN s4 s3).bind λx8=>(((s4)[x8]?).bind λx9=>((jj x9.Out).bind λx10=>((ixN s4 s3).bind λx11=>(((s4)[x11]?).bind λx12=>((ixN (List.set s4 x11 (⟨x12.Kind,x12.A,x7,x12.Out⟩:Node)) s3).bind λx13=>((((List.set s4 x11 (⟨x12.Kind,x12.A,x7,x12.Out⟩:Node)))[x13]?).bind λx14=>(some (.inl (IntKind.i64.wrap (s3+1),(List.set (List.set s4 x11 (⟨x12.Kind,x12.A,x7,x12.Out⟩:Node)) x13 (⟨x14.Kind,x14.A,x14.In,x10⟩:Node)))))))))))))))else(Option.map Sum.inr (some (⟨s4,p0.Rings,p0.Room⟩:Net))))
def qd(p0:Net):Qbm Net:=
 ((u1 p0.Nodes).bind λx2=>(iter (λmj:Int×(U Node)=>nv p0 x2 mj.1 mj.2) (0,x2)))
def em(p0:U Item):Qbm (U Item):=app [] p0
def mS(p0:U (U Item))(s1:Int)(s2:U (U Item)):Qbm ((Int×(U (U Item)))⊕(U (U Item))):=
 (if(decide (s1<((p0).length:Int)))=true then((idx p0 s1).bind λx4=>((em x4).bind λx5=>((app s2 [x5]).bind λx6=>(some (.inl (IntKind.i64.wrap (s1+1),x6))))))else(Option.map Sum.inr (some s2)))
def sd(p0:U (U Item)):Qbm (U (U Item)):=
 (iter (λcZ:Int×(U (U Item))=>mS p0 cZ.1 cZ.2) (0,[]))
def lU(p0:Net)(p1:U (U Item)):Qbm (Shop×Int):=
 ((kj p0 p1).bind λx2=>(if(x2.2 !=0)=true then(some ((⟨(⟨[],0,0⟩:Net),[],(⟨[],[],[],[],[]⟩:State),(⟨[],[]⟩:Disk),0,0,0,0,0,[],false⟩:Shop),x2.2))else((qd p0).bind λx5=>((sd p1).bind λx6=>(some ((⟨x5,x6,x2.1,(⟨[],[]⟩:Disk),0,0,0,(-1),0,[],false⟩:Shop),0))))))
def uU(p0:Item)(p1:U Int)(p2:U (U Item))(p3:U Memory)(p4:U Choice)(p5:U Item):Qbm Bool:=
 (some ((decide (p0.Dep<0))||decide (p0.Dep> ((p4).length:Int))))
def ri(p0:U Item)(p1:U Int)(p2:U (U Item))(p3:U Memory)(p4:U Choice)(p5:U Item)(s1:Int):Qbm (Int⊕Int):=
 (if(decide (s1<((p0).length:Int)))=true then((idx p0 s1).bind λx4=>((uU x4 p1 p2 p3 p4 p5).bind λx5=>(if x5=true then(Option.map Sum.inr (some s1))else(some (.inl (IntKind.i64.wrap (s1+1)))))))else(Option.map Sum.inr (some (-1))))
def uK(p0:U Item)(p1:U Int)(p2:U (U Item))(p3:U Memory)(p4:U Choice)(p5:U Item):Qbm Int:=
 (iter (λam:Int=>ri p0 p1 p2 p3 p4 p5 am) 0)
def uJ(p0:U Item)(p1:U Int)(p2:U (U Item))(p3:U Memory)(p4:U Choice)(p5:U Item):Qbm Bool:=
 ((uK p0 p1 p2 p3 p4 p5).bind λx2=>(some (decide (x2>=0))))
def o6(p0:U Item)(p1:U Int)(p2:U (U Item))(p3:U Memory)(p4:U Choice)(p5:U Item):Qbm Bool:=
 ((uJ p0 p1 p2 p3 p4 p5).bind λx2=>(some (!x2)))
def jm(p0:Memory)(s1:Int):Qbm (Int⊕Int):=
 (if(decide (s1<((p0.Keys).length:Int)))=true then((idx p0.Keys s1).bind λx3=>(Option.bind (if(decide (x3.N<1))=true then(some true)else(if(decide (s1> 0))=true then((idx p0.Keys (IntKind.i64.wrap (s1- 1))).bind λx4=>(some (decide (x4.Key>=x3.Key))))else(some false))) λc5=>(if c5=true then(Option.map Sum.inr (some 4))else(some (.inl (IntKind.i64.wrap (s1+1)))))))else(Option.map Sum.inr (if(decide (p0.Dep<0))=true then(some 3)else(some 0))))
def lG(p0:Memory):Qbm Int:=
 (if(decide (((p0.Keys).length:Int)> 6))=true then(some 2)else(iter (λqC:Int=>jm p0 qC) 0))
def sC(p0:Net)(p1:Choice):Qbm Bool:=
 (Option.bind (if(decide (p1.Node>=0))=true then(if(decide (p1.Node<((p0.Nodes).length:Int)))=true then((idx p0.Nodes p1.Node).bind λx1=>(if(x1.Kind==6)=true then(if(decide (p1.Lane>=0))=true then((idx p0.Nodes p1.Node).bind λx2=>(some (decide (p1.Lane<((x2.In).length:Int)))))else(some false))else(some false)))else(some false))else(some false)) λc3=>(some c3))
def pu(p0:Net)(p2:State)(s20:Int):Qbm (Int⊕Int):=
 (if(decide (s20<((p2.Choices).length:Int)))=true then((idx p2.Choices s20).bind λx22=>((sC p0 x22).bind λx24=>(if(!x24)=true then(Option.map Sum.inr (some 5))else(some (.inl (IntKind.i64.wrap (s20+1)))))))else(Option.map Sum.inr ((o6 p2.Out p2.At p2.Rings p2.Memory p2.Choices p2.Out).bind λx26=>(if(!x26)=true then(some 3)else(some 0)))))
def px(p0:Net)(p2:State)(s15:Int):Qbm (Int⊕Int):=
 (if(decide (s15<((p2.Memory).length:Int)))=true then((idx p2.Memory s15).bind λx17=>((lG x17).bind λx19=>(if(x19 !=0)=true then(Option.map Sum.inr (some x19))else(if(decide (x17.Dep> ((p2.Choices).length:Int)))=true then(Option.map Sum.inr (some 3))else(some (.inl (IntKind.i64.wrap (s15+1))))))))else(Option.map Sum.inr (iter (λjN:Int=>pu p0 p2 jN) 0)))
def pw(p0:Net)(p2:State)(s10:Int):Qbm (Int⊕Int):=
 (if(decide (s10<((p2.Rings).length:Int)))=true then((idx p2.Rings s10).bind λx12=>(if(decide (((x12).length:Int)> p0.Room))=true then(Option.map Sum.inr (some 2))else((o6 x12 p2.At p2.Rings p2.Memory p2.Choices p2.Out).bind λx14=>(if(!x14)=true then(Option.map Sum.inr (some 3))else(some (.inl (IntKind.i64.wrap (s10+1))))))))else(Option.map Sum.inr (iter (λml:Int=>px p0 p2 ml) 0)))
def so(p0:Net)(p1:U (U Item))(p2:State)(s5:Int):Qbm (Int⊕Int):=
 (if(decide (s5<((p2.At).length:Int)))=true then((idx p2.At s5).bind λx7=>(Option.bind (if(decide (x7<0))=true then(some true)else((idx p1 s5).bind λx8=>(some (decide (x7> ((x8).length:Int)))))) λc9=>(if c9=true then(Option.map Sum.inr (some 3))else(some (.inl (IntKind.i64.wrap (s5+1)))))))else(Option.map Sum.inr (iter (λcB:Int=>pw p0 p2 cB) 0)))
def iC(p0:Net)(p1:U (U Item))(p2:State):Qbm Int:=
 ((lJ p0 p1).bind λx2=>(if(x2 !=0)=true then(some x2)else(if((((p2.At).length:Int)!=((p1).length:Int))||((((p2.Rings).length:Int)!=p0.Rings)||((p2.Memory).length:Int)!=((p0.Nodes).length:Int)))=true then(some 4)else(if((decide (((p2.Choices).length:Int)> 500))||decide (((p2.Out).length:Int)> 2000))=true then(some 2)else(iter (λeY:Int=>so p0 p1 p2 eY) 0)))))
def ly(p0:Disk)(s5:Int):Qbm (Int⊕Int):=
 (if(decide (s5<((p0.Wait).length:Int)))=true then((idx p0.Wait s5).bind λx7=>(if((decide (x7.At<0))||decide (x7.At>=200))=true then(Option.map Sum.inr (some 3))else(if(decide (((x7.Bytes).length:Int)> 64))=true then(Option.map Sum.inr (some 2))else(some (.inl (IntKind.i64.wrap (s5+1)))))))else(Option.map Sum.inr (some 0)))
def kb(p0:Disk)(s2:Int):Qbm (Int⊕Int):=
 (if(decide (s2<((p0.Sectors).length:Int)))=true then((idx p0.Sectors s2).bind λx4=>(if(decide (((x4).length:Int)> 64))=true then(Option.map Sum.inr (some 2))else(some (.inl (IntKind.i64.wrap (s2+1))))))else(Option.map Sum.inr (iter (λfW:Int=>ly p0 fW) 0)))
def gf(p0:Disk):Qbm Int:=
 (if((decide (((p0.Sectors).length:Int)> 200))||decide (((p0.Wait).length:Int)> 300))=true then(some 2)else(iter (λbn:Int=>kb p0 bn) 0))
def pI(p0:Shop):Qbm Int:=
 ((iC p0.N p0.Items p0.S).bind λx2=>(if(x2 !=0)=true then(some x2)else((gf p0.D).bind λx4=>(if(x4 !=0)=true then(some x4)else(if((decide (p0.Safe<0))||((decide (p0.Safe> p0.Logged))||((decide (p0.Logged> ((p0.S.Choices).length:Int)))||((decide (p0.Epoch<0))||((decide (p0.Epoch> 200))||((decide (p0.Laid<(-1)))||((decide (p0.Laid> ((p0.S.Choices).length:Int)))||((decide (p0.Next<0))||decide (p0.Next> 80)))))))))=true then(some 3)else(if(decide (((p0.Told).length:Int)> 2000))=true then(some 2)else(some 0)))))))
def uI(p0:U (U Item)):Qbm (U (U Item)):=app [] p0
def uX(p0:U Memory):Qbm (U Memory):=app [] p0
def lq(p0:U Keyed):Qbm (U Keyed):=app [] p0
def ki(p0:Memory):Qbm Memory:=
 ((lq p0.Keys).bind λx2=>(some (⟨p0.Sum,x2,p0.Dep⟩:Memory)))
def oY(p0:U Choice):Qbm (U Choice):=app [] p0
def nr(p0:State)(x2:U Int)(s6:U (U Item))(x13:U Memory)(s14:Int)(s15:U Memory):Qbm ((Int×(U Memory))⊕State):=
 (if(decide (s14<((x13).length:Int)))=true then((ixN s15 s14).bind λx16=>(((s15)[x16]?).bind λx17=>((ki x17).bind λx18=>((ixN s15 s14).bind λx19=>(((s15)[x19]?).bind λx20=>(some (.inl (IntKind.i64.wrap (s14+1),(List.set s15 x19 x18)))))))))else(Option.map Sum.inr ((oY p0.Choices).bind λx22=>((em p0.Out).bind λx24=>(some (⟨x2,s6,s15,x22,x24⟩:State))))))
def lz(p0:State)(x2:U Int)(x4:U (U Item))(s5:Int)(s6:U (U Item)):Qbm ((Int×(U (U Item)))⊕State):=
 (if(decide (s5<((x4).length:Int)))=true then((ixN s6 s5).bind λx7=>(((s6)[x7]?).bind λx8=>((em x8).bind λx9=>((ixN s6 s5).bind λx10=>(((s6)[x10]?).bind λx11=>(some (.inl (IntKind.i64.wrap (s5+1),(List.set s6 x10 x9)))))))))else(Option.map Sum.inr ((uX p0.Memory).bind λx13=>(iter (λmo:Int×(U Memory)=>nr p0 x2 s6 x13 mo.1 mo.2) (0,x13)))))
def lS(p0:State):Qbm State:=
 ((jj p0.At).bind λx2=>((uI p0.Rings).bind λx4=>(iter (λbn:Int×(U (U Item))=>lz p0 x2 x4 bn.1 bn.2) (0,x4))))
def mN(p0:U (U UInt8)):Qbm (U (U UInt8)):=app [] p0
def o5(p0:U Write):Qbm (U Write):=app [] p0
def iw(p0:Shop):Qbm Shop:=
 ((qd p0.N).bind λx4=>((sd p0.Items).bind λx5=>((lS p0.S).bind λx6=>((mN p0.D.Sectors).bind λx9=>((o5 p0.D.Wait).bind λx10=>((em p0.Told).bind λx12=>(some (⟨x4,x5,x6,(⟨x9,x10⟩:Disk),p0.Logged,p0.Safe,p0.Epoch,p0.Laid,p0.Next,x12,p0.Down⟩:Shop))))))))
def pW(p0:Net)(p1:U (U Item))(p2:State)(p3:Move):Qbm (Item×Bool):=
 ((idx p0.Nodes p3.Node).bind λx2=>(if(x2.Kind==1)=true then((idx p2.At x2.A).bind λx5=>((idx p1 x2.A).bind λx6=>(if(x5==((x6).length:Int))=true then(some ((⟨0,0,0⟩:Item),false))else((idx p1 x2.A).bind λx10=>((idx p2.At x2.A).bind λx11=>((idx x10 x11).bind λx12=>(some (x12,true))))))))else((idx x2.In p3.Lane).bind λx15=>((idx p2.Rings x15).bind λx16=>(if(((x16).length:Int)==0)=true then(some ((⟨0,0,0⟩:Item),false))else((idx x16 0).bind λx18=>(some (x18,true))))))))
def sD(p0:Item)(p1:Int):Qbm (Int×Int):=
 (if((decide (p1<1))||decide (p1> 16))=true then(some (0,3))else((rem p0.Key p1).bind λx4=>((rem (IntKind.i64.wrap (x4+p1)) p1).bind λx5=>(some (x5,0)))))
def pM(p0:Node)(p1:Item):Qbm (U Int):=
 (if(p0.Kind !=7)=true then(some p0.Out)else((sD p1 ((p0.Out).length:Int)).bind λx2=>((sub p0.Out x2.1 (IntKind.i64.wrap (x2.1+1))).bind λx4=>(some x4))))
def u3(p0:Int)(p1:U Int)(p2:U (U Item))(p3:U Memory)(p4:U Choice)(p5:U Item)(p6:U Node)(p7 p8:Int):Qbm Bool:=
 ((idx p2 p0).bind λx2=>(some (decide (((x2).length:Int)>=p8))))
def rj(p0 p1:U Int)(p2:U (U Item))(p3:U Memory)(p4:U Choice)(p5:U Item)(p6:U Node)(p7 p8 s1:Int):Qbm (Int⊕Int):=
 (if(decide (s1<((p0).length:Int)))=true then((idx p0 s1).bind λx4=>((u3 x4 p1 p2 p3 p4 p5 p6 p7 p8).bind λx5=>(if x5=true then(Option.map Sum.inr (some s1))else(some (.inl (IntKind.i64.wrap (s1+1)))))))else(Option.map Sum.inr (some (-1))))
def uL(p0 p1:U Int)(p2:U (U Item))(p3:U Memory)(p4:U Choice)(p5:U Item)(p6:U Node)(p7 p8:Int):Qbm Int:=
 (iter (λam:Int=>rj p0 p1 p2 p3 p4 p5 p6 p7 p8 am) 0)
def rk(p0 p1:U Int)(p2:U (U Item))(p3:U Memory)(p4:U Choice)(p5:U Item)(p6:U Node)(p7 p8:Int):Qbm Bool:=
 ((uL p0 p1 p2 p3 p4 p5 p6 p7 p8).bind λx2=>(some (decide (x2>=0))))
def xk(p0:Item):Qbm Int:=
 (some (IntKind.i64.wrap (p0.Val+1)))
def xl(p0:Item):Qbm Int:=
 (some (IntKind.i64.wrap (2*p0.Val)))
def xm(p0:Item):Qbm Int:=
 (some (IntKind.i64.wrap (0- p0.Val)))
def xo(p0:Item):Qbm Int:=
 (some (IntKind.i64.wrap (p0.Val+p0.Key)))
def xt(p0:Int)(p1:Item):Qbm Item:=
 (Option.bind (if(p0==0)=true then((xk p1).bind λx1=>(some x1))else(if(p0==1)=true then((xl p1).bind λx2=>(some x2))else(if(p0==2)=true then((xm p1).bind λx3=>(some x3))else((isAt p0 3).bind λx4=>((xo p1).bind λx5=>(some x5)))))) λc6=>(some (⟨p1.Key,c6,p1.Dep⟩:Item)))
def pA(p0:Keyed)(p1:Int):Qbm Int:=
 (if(decide (p0.Key<p1))=true then(some (-1))else(if(decide (p0.Key> p1))=true then(some 1)else(some 0)))
def re(p0:U Keyed)(p1 s1 s2:Int):Qbm ((Int×Int)⊕(Int×Bool)):=
 (if(decide (s1<s2))=true then((shr .u64 (IntKind.u64.wrap (IntKind.i64.wrap (s1+s2))) 1).bind λx4=>((idx p0 (IntKind.i64.wrap x4)).bind λx7=>((pA x7 p1).bind λx8=>(if(decide (x8<0))=true then(some (.inl (IntKind.i64.wrap ((IntKind.i64.wrap x4)+1),s2)))else(some (.inl (s1,IntKind.i64.wrap x4)))))))else(Option.map Sum.inr (Option.bind (if(decide (s1<((p0).length:Int)))=true then((idx p0 s1).bind λx9=>((pA x9 p1).bind λx10=>(some (x10==0))))else(some false)) λc11=>(some (s1,c11)))))
def rf(p0:U Keyed)(p1:Int):Qbm (Int×Bool):=
 (iter (λam:Int×Int=>re p0 p1 am.1 am.2) (0,((p0).length:Int)))
def xb(p0:Int)(p1 p2:U Keyed)(C:Nat):Qbm (U Keyed):=
 ((vwok ((p1).length) p0 (((p1).length:Nat):Int)).bind λx2=>(if(((p2).length:Int)==0)=true then(none)else(if(p0==(((p1).length:Nat):Int))=true then((app p1 p2).bind λx4=>(some x4))else(if(decide ((IntKind.i64.wrap ((((p1).length:Nat):Int)+((p2).length:Int)))> ((C:Nat):Int)))=true then((vwok ((p1).length) 0 p0).bind λx7=>((growz p1 ((p0).toNat) C (IntKind.i64.wrap ((IntKind.i64.wrap ((((p1).length:Nat):Int)+((p2).length:Int)))- p0)) (⟨0,0⟩:Keyed)).bind λx8=>((vwok (x8).length p0 ((x8).length:Int)).bind λx11=>((vwok (x8).length ((p0).toNat:Nat) (((p0).toNat:Nat)+(((((x8).length:Int)).toNat- (p0).toNat):Nat))).bind λx12=>((vwok ((cpy x8 ((p0).toNat) ((((x8).length:Int)).toNat- (p0).toNat) p2)).length (IntKind.i64.wrap (p0+((p2).length:Int))) (((cpy x8 ((p0).toNat) ((((x8).length:Int)).toNat- (p0).toNat) p2)).length:Int)).bind λx17=>((vwok ((p1).length) p0 (((p1).length:Nat):Int)).bind λx18=>((vwok ((cpy x8 ((p0).toNat) ((((x8).length:Int)).toNat- (p0).toNat) p2)).length ((IntKind.i64.wrap (p0+((p2).length:Int))).toNat:Nat) (((IntKind.i64.wrap (p0+((p2).length:Int))).toNat:Nat)+((((((cpy x8 ((p0).toNat) ((((x8).length:Int)).toNat- (p0).toNat) p2)).length:Int)).toNat- (IntKind.i64.wrap (p0+((p2).length:Int))).toNat):Nat))).bind λx19=>((vwok (p1).length ((0+(p0).toNat):Nat) (((0+(p0).toNat):Nat)+((((((p1).length:Nat):Int)).toNat- (p0).toNat):Nat))).bind λx20=>(some (cpy (cpy x8 ((p0).toNat) ((((x8).length:Int)).toNat- (p0).toNat) p2) ((IntKind.i64.wrap (p0+((p2).length:Int))).toNat) (((((cpy x8 ((p0).toNat) ((((x8).length:Int)).toNat- (p0).toNat) p2)).length:Int)).toNat- (IntKind.i64.wrap (p0+((p2).length:Int))).toNat) ((p1.drop (0+(p0).toNat)).take (((((p1).length:Nat):Int)).toNat- (p0).toNat))))))))))))else((roomx (p1).length C (IntKind.i64.wrap ((((p1).length:Nat):Int)+((p2).length:Int)))).bind λx22=>((vwok ((p1).length+x22) (IntKind.i64.wrap (p0+((p2).length:Int))) ((((p1).length+x22):Nat):Int)).bind λx25=>((ovok p2 ((((((p1).length+x22):Nat):Int)).toNat- (IntKind.i64.wrap (p0+((p2).length:Int))).toNat)).bind λx26=>((vwok ((p1).length+x22) (IntKind.i64.wrap (p0+((p2).length:Int))) ((((p1).length+x22):Nat):Int)).bind λx30=>((vwok ((p1).length+x22) p0 ((((p1).length+x22):Nat):Int)).bind λx31=>((cpyU p1 x22 ((IntKind.i64.wrap (p0+((p2).length:Int))).toNat) ((((((p1).length+x22):Nat):Int)).toNat- (IntKind.i64.wrap (p0+((p2).length:Int))).toNat) ((p0).toNat) ((((((p1).length+x22):Nat):Int)).toNat- (p0).toNat)).bind λx32=>((vwok (x32).length p0 ((x32).length:Int)).bind λx35=>((vwok (x32).length ((p0).toNat:Nat) (((p0).toNat:Nat)+(((((x32).length:Int)).toNat- (p0).toNat):Nat))).bind λx36=>(some (cpy x32 ((p0).toNat) ((((x32).length:Int)).toNat- (p0).toNat) p2))))))))))))))
def ro(p0:Int)(p1 p2:U Keyed):Qbm (U Keyed):=allC (p1).length (λC=>xb p0 p1 p2 C)
def ke(p3:Item)(x4:Memory)(x9:Int×Bool)(z12:U Keyed):Qbm (Memory×Item×Int):=
 ((ixN z12 x9.1).bind λx17=>(((z12)[x17]?).bind λx18=>((ixN z12 x9.1).bind λx19=>(((z12)[x19]?).bind λx20=>((ixN (List.set z12 x19 (⟨x20.Key,IntKind.i64.wrap (x18.N+1)⟩:Keyed)) x9.1).bind λx23=>((((List.set z12 x19 (⟨x20.Key,IntKind.i64.wrap (x18.N+1)⟩:Keyed)))[x23]?).bind λx24=>(some ((⟨x4.Sum,(List.set z12 x19 (⟨x20.Key,IntKind.i64.wrap (x18.N+1)⟩:Keyed)),(if p3.Dep> x4.Dep then p3.Dep else x4.Dep)⟩:Memory),(⟨p3.Key,x24.N,(if p3.Dep> x4.Dep then p3.Dep else x4.Dep)⟩:Item),0))))))))
def iB(p0 p1:Int)(p2:Memory)(p3:Item):Qbm (Memory×Item×Int):=
 ((lG p2).bind λx2=>(if(x2 !=0)=true then(some ((⟨0,[],0⟩:Memory),(⟨0,0,0⟩:Item),x2))else(if(decide (p3.Dep<0))=true then(some ((⟨0,[],0⟩:Memory),(⟨0,0,0⟩:Item),3))else((ki p2).bind λx4=>(if(p0==2)=true then(if((decide (p1<0))||decide (p1> 3))=true then(some ((⟨0,[],0⟩:Memory),(⟨0,0,0⟩:Item),3))else((xt p1 p3).bind λx7=>(some (x4,x7,0))))else(if(p0==3)=true then(some ((⟨IntKind.i64.wrap (x4.Sum+p3.Val),x4.Keys,(if p3.Dep> x4.Dep then p3.Dep else x4.Dep)⟩:Memory),(⟨p3.Key,IntKind.i64.wrap (x4.Sum+p3.Val),(if p3.Dep> x4.Dep then p3.Dep else x4.Dep)⟩:Item),0))else(if(p0==4)=true then((rf x4.Keys p3.Key).bind λx9=>(if((!x9.2)&&((x4.Keys).length:Int)==6)=true then(some ((⟨x4.Sum,x4.Keys,(if p3.Dep> x4.Dep then p3.Dep else x4.Dep)⟩:Memory),(⟨p3.Key,0,(if p3.Dep> x4.Dep then p3.Dep else x4.Dep)⟩:Item),0))else(if(!x9.2)=true then((ro x9.1 x4.Keys ([(⟨p3.Key,0⟩:Keyed)]:U Keyed)).bind λx11=>(ke p3 x4 x9 x11))else(ke p3 x4 x9 x4.Keys))))else(if(p0==1)=true then(if(p0==1)=true then(some (x4,p3,0))else(some ((⟨0,[],0⟩:Memory),(⟨0,0,0⟩:Item),5)))else(if(p0==5)=true then(if(p0==5)=true then(some (x4,p3,0))else(some ((⟨0,[],0⟩:Memory),(⟨0,0,0⟩:Item),5)))else(if(p0==6)=true then(if(p0==6)=true then(some (x4,p3,0))else(some ((⟨0,[],0⟩:Memory),(⟨0,0,0⟩:Item),5)))else(if(p0==7)=true then(if(p0==7)=true then(some (x4,p3,0))else(some ((⟨0,[],0⟩:Memory),(⟨0,0,0⟩:Item),5)))else(if(p0==8)=true then(some (x4,p3,0))else(some ((⟨0,[],0⟩:Memory),(⟨0,0,0⟩:Item),5))))))))))))))
def nO(p0:Net)(p1:U (U Item))(p2:State)(p3:Move):Qbm Bool:=
 ((idx p0.Nodes p3.Node).bind λx2=>((pW p0 p1 p2 p3).bind λx4=>(Option.bind (if(!x4.2)=true then(some true)else((pM x2 x4.1).bind λx5=>((rk x5 p2.At p2.Rings p2.Memory p2.Choices p2.Out p0.Nodes p0.Rings p0.Room).bind λx6=>(some x6)))) λc7=>(if c7=true then(some false)else(if(if(x2.Kind==6)=true then((((p2.Choices).length:Int)==500)||((x2.Kind==8)&&((p2.Out).length:Int)==2000))else((x2.Kind==8)&&((p2.Out).length:Int)==2000))=true then(some false)else((idx p2.Memory p3.Node).bind λx11=>((iB x2.Kind x2.A x11 x4.1).bind λx12=>(some (x12.2.2==0)))))))))
def iv(p0:Net)(p1:U (U Item))(s1:Int)(p2:State)(z5 s6:Int)(s7:U Move):Qbm ((Int×(U Move))⊕((Int×(U Move))⊕(U Move))):=
 (if(decide (s6<z5))=true then((nO p0 p1 p2 (⟨s1,s6⟩:Move)).bind λx9=>(if x9=true then((app s7 [(⟨s1,s6⟩:Move)]).bind λx10=>(some (.inl (IntKind.i64.wrap (s6+1),x10))))else(some (.inl (IntKind.i64.wrap (s6+1),s7)))))else(Option.map Sum.inr (some (.inl (IntKind.i64.wrap (s1+1),s7)))))
def pp(p0:Net)(p1:U (U Item))(s1:Int)(p2:State)(s2:U Move)(z5:Int):Qbm ((Int×(U Move))⊕(U Move)):=
 (iter (λbl:Int×(U Move)=>iv p0 p1 s1 p2 z5 bl.1 bl.2) (0,s2))
def nf(p0:Net)(p1:U (U Item))(p2:State)(s1:Int)(s2:U Move):Qbm ((Int×(U Move))⊕(U Move)):=
 (if(decide (s1<((p0.Nodes).length:Int)))=true then((idx p0.Nodes s1).bind λx4=>(if(x4.Kind==6)=true then(pp p0 p1 s1 p2 s2 ((x4.In).length:Int))else(pp p0 p1 s1 p2 s2 1)))else(Option.map Sum.inr (some s2)))
def sJ(p0:Net)(p1:U (U Item))(p2:State):Qbm (U Move):=
 (iter (λcr:Int×(U Move)=>nf p0 p1 p2 cr.1 cr.2) (0,[]))
def kg(p0:Net)(p1:U (U Item))(p2:State):Qbm ((U Move)×Int):=
 ((iC p0 p1 p2).bind λx2=>(if(x2 !=0)=true then(some ([],x2))else((sJ p0 p1 p2).bind λx4=>(some (x4,0)))))
def sM(p0:U Item):Qbm (Item×(U Item)×Int):=
 (if(decide (((p0).length:Int)> 6))=true then(some ((⟨0,0,0⟩:Item),[],2))else(if(((p0).length:Int)==0)=true then(some ((⟨0,0,0⟩:Item),[],9))else((idx p0 0).bind λx4=>((sub p0 1 ((p0).length:Int)).bind λx5=>((em x5).bind λx6=>(some (x4,x6,0)))))))
def tg(p0:U Item)(p1:Int)(p2:Item):Qbm ((U Item)×Int):=
 (if((decide (p1<1))||decide (p1> 6))=true then(some ([],3))else(if(decide (((p0).length:Int)> p1))=true then(some ([],2))else(if(((p0).length:Int)==p1)=true then(some ([],8))else((em p0).bind λx4=>((app x4 [p2]).bind λx5=>(some (x5,0)))))))
def m8(p0:Net)(p5:U Memory)(z16 x19:U Int)(z23:U Choice)(x31:Memory×Item×Int)(x32:Nat)(z35:U Item)(s36:Int)(s37:U (U Item)):Qbm ((Int×(U (U Item)))⊕((U Int)×(U (U Item))×(U Memory)×(U Choice)×(U Item))):=
 (if(decide (s36<((x19).length:Int)))=true then((idx x19 s36).bind λx39=>((ixN s37 x39).bind λx40=>(((s37)[x40]?).bind λx41=>((tg x41 p0.Room x31.2.1).bind λx42=>((ixN s37 x39).bind λx43=>(((s37)[x43]?).bind λx44=>(some (.inl (IntKind.i64.wrap (s36+1),(List.set s37 x43 x42.1))))))))))else(Option.map Sum.inr (some (z16,s37,(List.set p5 x32 x31.1),z23,z35))))
def pb(p0:Net)(p5:U Memory)(z16:U Int)(z17:U (U Item))(x19:U Int)(z23:U Choice)(x31:Memory×Item×Int)(x32:Nat)(z35:U Item):Qbm ((U Int)×(U (U Item))×(U Memory)×(U Choice)×(U Item)):=
 (iter (λmq:Int×(U (U Item))=>m8 p0 p5 z16 x19 z23 x31 x32 z35 mq.1 mq.2) (0,z17))
def mZ(p0:Net)(p2:Move)(x2:Node)(x4:Item×Bool)(p5:U Memory)(p7:U Item)(z16:U Int)(z17:U (U Item))(x19:U Int)(z22:Int)(z23:U Choice):Qbm ((U Int)×(U (U Item))×(U Memory)×(U Choice)×(U Item)):=
 ((ixN p5 p2.Node).bind λx29=>(((p5)[x29]?).bind λx30=>((iB x2.Kind x2.A x30 (⟨x4.1.Key,x4.1.Val,z22⟩:Item)).bind λx31=>((ixN p5 p2.Node).bind λx32=>(((p5)[x32]?).bind λx33=>(if(x2.Kind==8)=true then((app p7 [x31.2.1]).bind λx34=>(pb p0 p5 z16 z17 x19 z23 x31 x32 x34))else(pb p0 p5 z16 z17 x19 z23 x31 x32 p7)))))))
def m6(p0:Net)(p2:Move)(x2:Node)(x4:Item×Bool)(p5:U Memory)(p6:U Choice)(p7:U Item)(z16:U Int)(z17:U (U Item)):Qbm ((U Int)×(U (U Item))×(U Memory)×(U Choice)×(U Item)):=
 ((pM x2 x4.1).bind λx19=>(if(x2.Kind==6)=true then((app p6 [(⟨p2.Node,p2.Lane⟩:Choice)]).bind λx21=>(mZ p0 p2 x2 x4 p5 p7 z16 z17 x19 ((x21).length:Int) x21))else(mZ p0 p2 x2 x4 p5 p7 z16 z17 x19 x4.1.Dep p6)))
def pn(p0:Net)(p1:U (U Item))(p2:Move)(p3:U Int)(p4:U (U Item))(p5:U Memory)(p6:U Choice)(p7:U Item):Qbm ((U Int)×(U (U Item))×(U Memory)×(U Choice)×(U Item)):=
 ((idx p0.Nodes p2.Node).bind λx2=>((pW p0 p1 (⟨p3,p4,p5,p6,p7⟩:State) p2).bind λx4=>(if(x2.Kind==1)=true then((ixN p3 x2.A).bind λx5=>(((p3)[x5]?).bind λx6=>((ixN p3 x2.A).bind λx7=>(((p3)[x7]?).bind λx8=>(m6 p0 p2 x2 x4 p5 p6 p7 (List.set p3 x7 (IntKind.i64.wrap (x6+1))) p4)))))else((idx x2.In p2.Lane).bind λx9=>((idx x2.In p2.Lane).bind λx10=>((ixN p4 x10).bind λx11=>(((p4)[x11]?).bind λx12=>((sM x12).bind λx13=>((ixN p4 x9).bind λx14=>(((p4)[x14]?).bind λx15=>(m6 p0 p2 x2 x4 p5 p6 p7 p3 (List.set p4 x14 x13.2.1))))))))))))
def kz(p0:Net)(p1:U (U Item))(p2:State)(p3:Move):Qbm (State×Int):=
 ((iC p0 p1 p2).bind λx2=>(if(x2 !=0)=true then(some ((⟨[],[],[],[],[]⟩:State),x2))else(Option.bind (if(decide (p3.Node<0))=true then(some true)else(if(decide (p3.Node>=((p0.Nodes).length:Int)))=true then(some true)else(if(decide (p3.Lane<0))=true then(some true)else(if(decide (p3.Lane> 0))=true then((idx p0.Nodes p3.Node).bind λx3=>(if(x3.Kind !=6)=true then(some true)else((idx p0.Nodes p3.Node).bind λx4=>(some (decide (p3.Lane>=((x4.In).length:Int)))))))else(some false))))) λc5=>(if c5=true then(some ((⟨[],[],[],[],[]⟩:State),5))else((nO p0 p1 p2 p3).bind λx7=>(if(!x7)=true then(some ((⟨[],[],[],[],[]⟩:State),10))else((lS p2).bind λx9=>((pn p0 p1 p3 x9.At x9.Rings x9.Memory x9.Choices x9.Out).bind λx11=>(some ((⟨x11.1,x11.2.1,x11.2.2.1,x11.2.2.2.1,x11.2.2.2.2⟩:State),0))))))))))
def r8(p0:Int)(p1:U Node)(p2 p3:Int)(p4:U (U Item))(p5:U Int)(p6:U (U Item))(p7:U Memory)(p8:U Choice)(p9:U Item)(p10:U (U UInt8))(p11:U Write)(p12 p13 p14 p15 p16:Int)(p17:Bool)(p18:U Item):Qbm (Int×(U Int)×(U (U Item))×(U Memory)×(U Choice)×(U Item)):=
 ((kg (⟨p1,p2,p3⟩:Net) p4 (⟨p5,p6,p7,p8,p9⟩:State)).bind λx2=>(if(((x2.1).length:Int)==0)=true then(some (10,p5,p6,p7,p8,p9))else((rem p0 ((x2.1).length:Int)).bind λx8=>((rem (IntKind.i64.wrap (x8+((x2.1).length:Int))) ((x2.1).length:Int)).bind λx9=>((ixN x2.1 x9).bind λx10=>(((x2.1)[x10]?).bind λx11=>((kz (⟨p1,p2,p3⟩:Net) p4 (⟨p5,p6,p7,p8,p9⟩:State) x11).bind λx12=>(some (0,x12.1.At,x12.1.Rings,x12.1.Memory,x12.1.Choices,x12.1.Out)))))))))
def m7(p0:U Choice)(s1:Int)(s2:U Int):Qbm ((Int×(U Int))⊕((U UInt8)×Int)):=
 (if(decide (s1<((p0).length:Int)))=true then((idx p0 s1).bind λx4=>(if((decide (x4.Node<0))||((decide (x4.Node>=12))||((decide (x4.Lane<0))||decide (x4.Lane>=16))))=true then(Option.map Sum.inr (some ([],3)))else((app s2 [IntKind.u8.wrap x4.Node,IntKind.u8.wrap x4.Lane]).bind λx6=>(some (.inl (IntKind.i64.wrap (s1+1),x6))))))else(Option.map Sum.inr (some (cq s2,0))))
def sv(p0:U Choice):Qbm ((U UInt8)×Int):=
 (if(decide (((p0).length:Int)> 30))=true then(some ([],2))else(iter (λbp:Int×(U Int)=>m7 p0 bp.1 bp.2) (0,[])))
def lE(s2 s7 s8:Int):Qbm ((Int×Int)⊕((Int×Int)⊕Int)):=
 (if(decide (s8<8))=true then((shl .i64 s7 1).bind λx10=>(if((ibits .and .i64 x10 65536)!=0)=true then(some (.inl (ibits .xor .i64 x10 69665,IntKind.i64.wrap (s8+1))))else(some (.inl (x10,IntKind.i64.wrap (s8+1))))))else(Option.map Sum.inr (some (.inl (s7,IntKind.i64.wrap (s2+1))))))
def nk(p0:U UInt8)(s1 s2:Int):Qbm ((Int×Int)⊕Int):=
 (if(decide (s2<((p0).length:Int)))=true then((idx p0 s2).bind λx5=>((shl .i64 (IntKind.i64.wrap (x5.toNat:Int)) 8).bind λx6=>(iter (λeE:Int×Int=>lE s2 eE.1 eE.2) (ibits .xor .i64 s1 x6,0))))else(Option.map Sum.inr (some s1)))
def pP(p0:U UInt8):Qbm Int:=
 (iter (λfW:Int×Int=>nk p0 fW.1 fW.2) (65535,0))
def pV(p0:U UInt8):Qbm ((U UInt8)×Int):=
 (if(p0==[])=true then(some ([],4))else(if(decide (((p0).length:Int)> 60))=true then(some ([],2))else((cat (cq [IntKind.u8.wrap ((p0).length:Int)]) p0).bind λx3=>((pP x3).bind λx4=>((cat (cq [IntKind.u8.wrap ((p0).length:Int)]) p0).bind λx8=>((shr .i64 x4 8).bind λx9=>((cat x8 (cq [IntKind.u8.wrap x9,IntKind.u8.wrap x4])).bind λx10=>(some (x10,0)))))))))
def jt(p0:Disk)(p1:Int)(p2:U UInt8):Qbm (Disk×Int):=
 ((gf p0).bind λx2=>(if(x2 !=0)=true then(some ((⟨[],[]⟩:Disk),x2))else(if((decide (p1<0))||decide (p1>=200))=true then(some ((⟨[],[]⟩:Disk),3))else(if(decide (((p2).length:Int)> 64))=true then(some ((⟨[],[]⟩:Disk),2))else(if(((p0.Wait).length:Int)==300)=true then(some ((⟨[],[]⟩:Disk),8))else((mN p0.Sectors).bind λx7=>((o5 p0.Wait).bind λx8=>((app x8 [(⟨p1,p2⟩:Write)]).bind λx9=>(some ((⟨x7,x9⟩:Disk),0))))))))))
def gc(p1 s4:Int)(s5:U Choice)(s6:U (U UInt8))(s7:U Write):Qbm ((Int×(U Choice)×(U (U UInt8))×(U Write))⊕(Disk×Int×Int)):=
 (if(decide (((s5).length:Int)> 0))=true then((sub s5 0 (if((s5).length:Int)<29 then((s5).length:Int)else 29)).bind λx10=>((sv x10).bind λx11=>(if(x11.2 !=0)=true then(Option.map Sum.inr (some ((⟨[],[]⟩:Disk),0,x11.2)))else((cat (cq [IntKind.u8.wrap p1]) x11.1).bind λx14=>((pV x14).bind λx15=>(if((IntKind.i64.wrap (120+s4))==200)=true then(Option.map Sum.inr (some ((⟨[],[]⟩:Disk),0,8)))else((jt (⟨s6,s7⟩:Disk) (IntKind.i64.wrap (120+s4)) x15.1).bind λx17=>(if(x17.2 !=0)=true then(Option.map Sum.inr (some ((⟨[],[]⟩:Disk),0,x17.2)))else((sub s5 (if((s5).length:Int)<29 then((s5).length:Int)else 29) ((s5).length:Int)).bind λx18=>(some (.inl (IntKind.i64.wrap (s4+1),x18,x17.1.Sectors,x17.1.Wait))))))))))))else(Option.map Sum.inr (some ((⟨s6,s7⟩:Disk),s4,0))))
def nI(p0:Disk)(p1 p2:Int)(p3:U Choice):Qbm (Disk×Int×Int):=
 ((gf p0).bind λx2=>(if(x2 !=0)=true then(some ((⟨[],[]⟩:Disk),0,x2))else(if((decide (p1<0))||((decide (p1> 200))||((decide (p2<0))||decide (p2> 80))))=true then(some ((⟨[],[]⟩:Disk),0,3))else(iter (λil:Int×(U Choice)×(U (U UInt8))×(U Write)=>gc p1 il.1 il.2.1 il.2.2.1 il.2.2.2) (p2,p3,p0.Sectors,p0.Wait)))))
def rZ(p0:Int)(p1:U Node)(p2 p3:Int)(p4:U (U Item))(p5:U Int)(p6:U (U Item))(p7:U Memory)(p8:U Choice)(p9:U Item)(p10:U (U UInt8))(p11:U Write)(p12 p13 p14 p15 p16:Int)(p17:Bool)(p18:U Item):Qbm (Int×(U (U UInt8))×(U Write)×Int×Int):=
 (if(decide (p15>=0))=true then(some (10,p10,p11,p12,p16))else((sub p8 p12 ((p8).length:Int)).bind λx3=>((nI (⟨p10,p11⟩:Disk) p14 p16 x3).bind λx4=>(if(x4.2.2 !=0)=true then(some (x4.2.2,p10,p11,p12,p16))else(some (0,x4.1.Sectors,x4.1.Wait,((p8).length:Int),x4.2.1))))))
def uZ(s1:Int)(x4:Write)(s5:U (U UInt8)):Qbm ((U (U UInt8))⊕((Int×(U (U UInt8)))⊕(U (U UInt8)))):=
 (if(decide (((s5).length:Int)<=x4.At))=true then((app s5 [[]]).bind λx6=>(some (.inl x6)))else(Option.map Sum.inr ((ixN s5 x4.At).bind λx7=>(((s5)[x7]?).bind λx8=>(some (.inl (IntKind.i64.wrap (s1+1),(List.set s5 x7 x4.Bytes))))))))
def mW(p0:U Write)(s1:Int)(s2:U (U UInt8)):Qbm ((Int×(U (U UInt8)))⊕(U (U UInt8))):=
 (if(decide (s1<((p0).length:Int)))=true then((idx p0 s1).bind λx4=>(iter (λaZ:U (U UInt8)=>uZ s1 x4 aZ) s2))else(Option.map Sum.inr (some s2)))
def sh(p0:U Write)(p1:U (U UInt8)):Qbm (U (U UInt8)):=
 (iter (λeY:Int×(U (U UInt8))=>mW p0 eY.1 eY.2) (0,p1))
def gK(p0:Disk)(p1:Int):Qbm (Disk×Int):=
 ((gf p0).bind λx2=>(if(x2 !=0)=true then(some ((⟨[],[]⟩:Disk),x2))else(if((decide (p1<0))||decide (p1> ((p0.Wait).length:Int)))=true then(some ((⟨[],[]⟩:Disk),3))else((mN p0.Sectors).bind λx7=>((sub p0.Wait 0 p1).bind λx8=>((sh x8 x7).bind λx9=>(some ((⟨x9,[]⟩:Disk),0))))))))
def nH(p0:Disk):Qbm (Disk×Int):=
 ((gK p0 ((p0.Wait).length:Int)).bind λx2=>(some (x2.1,x2.2)))
def rX(p0:Int)(p1:U Node)(p2 p3:Int)(p4:U (U Item))(p5:U Int)(p6:U (U Item))(p7:U Memory)(p8:U Choice)(p9:U Item)(p10:U (U UInt8))(p11:U Write)(p12 p13 p14 p15 p16:Int)(p17:Bool)(p18:U Item):Qbm (Int×(U (U UInt8))×(U Write)×Int×Int×Int×Int×Int):=
 ((nH (⟨p10,p11⟩:Disk)).bind λx2=>(if(decide (p15>=0))=true then(some (0,x2.1.Sectors,x2.1.Wait,p15,p15,IntKind.i64.wrap (p14+1),(-1),0))else(some (0,x2.1.Sectors,x2.1.Wait,p12,p12,p14,p15,p16))))
def uY(p0:Item)(p1:Int):Qbm Bool:=
 (some (decide (p0.Dep> p1)))
def oK(p0:U Item)(p1 s1:Int):Qbm (Int⊕Int):=
 (if(decide (s1<((p0).length:Int)))=true then((idx p0 s1).bind λx4=>((uY x4 p1).bind λx5=>(if x5=true then(Option.map Sum.inr (some s1))else(some (.inl (IntKind.i64.wrap (s1+1)))))))else(Option.map Sum.inr (some (-1))))
def rm(p0:U Item)(p1:Int):Qbm Int:=
 (iter (λam:Int=>oK p0 p1 am) 0)
def sP(p0:U Item)(p1:Int):Qbm (Int×Int):=
 (if(decide (((p0).length:Int)> 2000))=true then(some (0,2))else(if((decide (p1<0))||decide (p1> 500))=true then(some (0,3))else((rm p0 p1).bind λx3=>(if(decide (x3<0))=true then(some (((p0).length:Int),0))else(some (x3,0))))))
def vj(p0 p1:Item):Qbm Bool:=
 (some ((p0.Key==p1.Key)&&p0.Val==p1.Val))
def ra(p0 p1:U Item)(s1:Int):Qbm (Int⊕Bool):=
 (if(decide (s1<((p0).length:Int)))=true then((idx p0 s1).bind λx3=>((idx p1 s1).bind λx5=>((vj x3 x5).bind λx7=>(if(!x7)=true then(Option.map Sum.inr (some false))else(some (.inl (IntKind.i64.wrap (s1+1))))))))else(Option.map Sum.inr (some true)))
def rc(p0 p1:U Item):Qbm Bool:=
 (if(((p0).length:Int)!=((p1).length:Int))=true then(some false)else(iter (λaQ:Int=>ra p0 p1 aQ) 0))
def nA(p0 p1:U Item):Qbm Bool:=
 (Option.bind (if(decide (((p0).length:Int)<=((p1).length:Int)))=true then((sub p1 0 ((p0).length:Int)).bind λx1=>((rc p0 x1).bind λx2=>(some x2)))else(some false)) λc3=>(some c3))
def ne(x2:U Item)(s3:Int)(s4:U Item):Qbm ((Int×(U Item))⊕((U Item)×Int)):=
 (if(decide (s3<((x2).length:Int)))=true then((ixN s4 s3).bind λx5=>(((s4)[x5]?).bind λx6=>(some (.inl (IntKind.i64.wrap (s3+1),(List.set s4 x5 (⟨x6.Key,x6.Val,0⟩:Item)))))))else(Option.map Sum.inr (some (s4,0))))
def sF(p0:U Item):Qbm ((U Item)×Int):=
 (if(decide (((p0).length:Int)> 2000))=true then(some ([],2))else((em p0).bind λx2=>(iter (λeH:Int×(U Item)=>ne x2 eH.1 eH.2) (0,x2))))
def pE(p0 p1:U Item)(p2:Int):Qbm ((U Item)×Int):=
 (if(decide (((p0).length:Int)> 2000))=true then(some ([],2))else((sP p1 p2).bind λx2=>(if(x2.2 !=0)=true then(some ([],x2.2))else((nA p0 p1).bind λx3=>(Option.bind (if(!x3)=true then((nA p1 p0).bind λx4=>(some (!x4)))else(some false)) λc5=>(if c5=true then(some ([],4))else(if(decide (x2.1<=((p0).length:Int)))=true then(some ([],0))else((sub p1 ((p0).length:Int) x2.1).bind λx8=>((sF x8).bind λx9=>(some (x9.1,x9.2)))))))))))
def r7(p0:Int)(p1:U Node)(p2 p3:Int)(p4:U (U Item))(p5:U Int)(p6:U (U Item))(p7:U Memory)(p8:U Choice)(p9:U Item)(p10:U (U UInt8))(p11:U Write)(p12 p13 p14 p15 p16:Int)(p17:Bool)(p18:U Item):Qbm (Int×(U Item)):=
 ((pE p18 p9 p13).bind λx2=>(if(x2.2 !=0)=true then(some (x2.2,p18))else((app p18 x2.1).bind λx4=>(some (0,x4)))))
def sa(p0:Int)(p1:U Node)(p2 p3:Int)(p4:U (U Item))(p5:U Int)(p6:U (U Item))(p7:U Memory)(p8:U Choice)(p9:U Item)(p10:U (U UInt8))(p11:U Write)(p12 p13 p14 p15 p16:Int)(p17:Bool)(p18:U Item):Qbm (Int×(U Int)×(U (U Item))×(U Memory)×(U Choice)×(U Item)×(U (U UInt8))×(U Write)×Int×Int×Int×Int×Int×Bool):=
 ((gK (⟨p10,p11⟩:Disk) p0).bind λx2=>(if(x2.2 !=0)=true then(some (x2.2,p5,p6,p7,p8,p9,p10,p11,p12,p13,p14,p15,p16,p17))else((kj (⟨p1,p2,p3⟩:Net) p4).bind λx4=>(some (0,x4.1.At,x4.1.Rings,x4.1.Memory,x4.1.Choices,x4.1.Out,x2.1.Sectors,x2.1.Wait,0,0,0,(-1),0,true)))))
def hM(p0:U UInt8)(s1:Int)(s2:U (U UInt8)):Qbm ((Int×(U (U UInt8)))⊕((U (U UInt8))×Int×Int)):=
 (if(decide (s1<((p0).length:Int)))=true then((sub p0 s1 ((p0).length:Int)).bind λx4=>((idx x4 0).bind λx6=>(if((decide ((IntKind.i64.wrap (x6.toNat:Int))<1))||((decide ((IntKind.i64.wrap (x6.toNat:Int))> 60))||decide (((x4).length:Int)<(IntKind.i64.wrap ((IntKind.i64.wrap (x6.toNat:Int))+3)))))=true then(Option.map Sum.inr (some (s2,s1,0)))else((sub x4 0 (IntKind.i64.wrap ((IntKind.i64.wrap (x6.toNat:Int))+1))).bind λx10=>((pP x10).bind λx11=>((idx x4 (IntKind.i64.wrap ((IntKind.i64.wrap (x6.toNat:Int))+1))).bind λx15=>((shl .i64 (IntKind.i64.wrap (x15.toNat:Int)) 8).bind λx16=>((idx x4 (IntKind.i64.wrap ((IntKind.i64.wrap (x6.toNat:Int))+2))).bind λx17=>(if((ibits .or .i64 x16 (IntKind.i64.wrap (x17.toNat:Int)))!=x11)=true then(Option.map Sum.inr (some (s2,s1,0)))else((sub x4 1 (IntKind.i64.wrap ((IntKind.i64.wrap (x6.toNat:Int))+1))).bind λx20=>((app s2 [x20]).bind λx21=>(some (.inl (IntKind.i64.wrap (s1+(IntKind.i64.wrap ((IntKind.i64.wrap (x6.toNat:Int))+3))),x21))))))))))))))else(Option.map Sum.inr (some (s2,s1,0))))
def pH(p0:U UInt8):Qbm ((U (U UInt8))×Int×Int):=
 (if(decide (((p0).length:Int)> 12800))=true then(some ([],0,2))else(iter (λbp:Int×(U (U UInt8))=>hM p0 bp.1 bp.2) (0,[])))
def pf(p0 p1:Int)(p2:U (U UInt8))(p3:U Write):Qbm ((U UInt8)×Bool):=
 (if(decide ((IntKind.i64.wrap ((IntKind.i64.wrap (p1*60))+p0))>=((p2).length:Int)))=true then(some ([],false))else((idx p2 (IntKind.i64.wrap ((IntKind.i64.wrap (p1*60))+p0))).bind λx3=>((pH x3).bind λx4=>(Option.bind (if(((x4.1).length:Int)!=1)=true then(some true)else((idx p2 (IntKind.i64.wrap ((IntKind.i64.wrap (p1*60))+p0))).bind λx5=>(if(x4.2.1 !=((x5).length:Int))=true then(some true)else((ixN x4.1 0).bind λx6=>(((x4.1)[x6]?).bind λx7=>(if(decide (((x7).length:Int)<3))=true then(some true)else((ixN x4.1 0).bind λx8=>(((x4.1)[x8]?).bind λx9=>((idx x9 1).bind λx10=>(some ((IntKind.i64.wrap (x10.toNat:Int))!=p0))))))))))) λc11=>(if c11=true then(some ([],false))else((ixN x4.1 0).bind λx14=>(((x4.1)[x14]?).bind λx15=>(some (x15,true)))))))))
def nD(p0:Disk)(p1:Int)(x5:(U UInt8)×Bool)(s9:U UInt8)(s10:Int):Qbm (((U UInt8)×Int)⊕((U UInt8)×Int×Int)):=
 ((idx x5.1 2).bind λx12=>(if(decide (s10<=(IntKind.i64.wrap (x12.toNat:Int))))=true then((pf s10 p1 p0.Sectors p0.Wait).bind λx14=>(Option.bind (if(((x14.1).length:Int)==53)=true then(some true)else((idx x5.1 2).bind λx15=>(if(s10==(IntKind.i64.wrap (x15.toNat:Int)))=true then(if(decide (((x14.1).length:Int)> 3))=true then(some (decide (((x14.1).length:Int)<53)))else(some false))else(some false)))) λc16=>(Option.bind (if(!x14.2)=true then(some true)else((idx x14.1 0).bind λx17=>((idx x5.1 0).bind λx18=>(if((x17.toNat:Int)!=(x18.toNat:Int))=true then(some true)else((idx x14.1 2).bind λx19=>((idx x5.1 2).bind λx20=>(if((x19.toNat:Int)!=(x20.toNat:Int))=true then(some true)else(some (!c16))))))))) λc21=>(if c21=true then(Option.map Sum.inr (some ([],0,12)))else((sub x14.1 3 ((x14.1).length:Int)).bind λx22=>((cat s9 x22).bind λx23=>(some (.inl (x23,IntKind.i64.wrap (s10+1))))))))))else(Option.map Sum.inr ((idx x5.1 0).bind λx25=>(some (s9,IntKind.i64.wrap (x25.toNat:Int),0))))))
def nQ(p0:Disk)(p1:Int):Qbm ((U UInt8)×Int×Int):=
 ((gf p0).bind λx2=>(if(x2 !=0)=true then(some ([],0,x2))else(if((decide (p1<0))||decide (p1> 1))=true then(some ([],0,3))else((pf (0:Int) p1 p0.Sectors p0.Wait).bind λx5=>(Option.bind (if(!x5.2)=true then(some true)else(if(((x5.1).length:Int)!=3)=true then(some true)else((idx x5.1 0).bind λx6=>(if(decide ((IntKind.i64.wrap (x6.toNat:Int))> 200))=true then(some true)else((idx x5.1 2).bind λx7=>(some (decide ((IntKind.i64.wrap (x7.toNat:Int))>=60)))))))) λc8=>(if c8=true then(some ([],0,12))else(iter (λcB:(U UInt8)×Int=>nD p0 p1 x5 cB.1 cB.2) ([],1))))))))
def eT(p0:U UInt8)(s1 s2:Int):Qbm ((Int×Int)⊕((Int×(U UInt8))⊕Unit)):=
 (if(decide (s2<(if((p0).length:Int)<10 then((p0).length:Int)else 10)))=true then((idx p0 s2).bind λx5=>((shl .u64 (IntKind.u64.wrap (ibits .and .u8 (x5.toNat:Int) 127)) (IntKind.i64.wrap (7*s2))).bind λx6=>((idx p0 s2).bind λx8=>(if(decide ((x8.toNat:Int)<128))=true then((sub p0 (IntKind.i64.wrap (s2+1)) ((p0).length:Int)).bind λx10=>((shr .u64 (ibits .or .u64 s1 x6) 1).bind λx12=>(Option.map Sum.inr (some (.inl (ibits .xor .i64 (IntKind.i64.wrap x12) (IntKind.i64.wrap (0- (IntKind.i64.wrap (ibits .and .u64 (ibits .or .u64 s1 x6) 1)))),x10))))))else(some (.inl (ibits .or .u64 s1 x6,IntKind.i64.wrap (s2+1))))))))else(Option.map Sum.inr (some (.inr ()))))
def dT(p0:U UInt8):Qbm ((Int×(U UInt8))⊕Unit):=
 (iter (λam:Int×Int=>eT p0 am.1 am.2) (0,0))
def j3(x2:Int×(U UInt8))(s4:Int)(s5:U UInt8)(s6:U Int):Qbm ((Int×(U UInt8)×(U Int))⊕(((U Int)×(U UInt8))⊕Unit)):=
 (if(decide (s4<x2.1))=true then(cg (dT s5) (Option.map Sum.inr (some (.inr ()))) λx7=>((app s6 [x7.1]).bind λx8=>(some (.inl (IntKind.i64.wrap (s4+1),x7.2,x8)))))else(Option.map Sum.inr (some (.inl (s6,s5)))))
def oW(p0:U UInt8):Qbm (((U Int)×(U UInt8))⊕Unit):=
 (cg (dT p0) (some (.inr ())) λx2=>(if((decide (x2.1<0))||decide (x2.1> ((x2.2).length:Int)))=true then(some (.inr ()))else(iter (λam:Int×(U UInt8)×(U Int)=>j3 x2 am.1 am.2.1 am.2.2) (0,x2.2,[]))))
def mH(p0:U UInt8):Qbm ((Item×(U UInt8))⊕Unit):=
 (cg (dT p0) (some (.inr ())) λx4=>(cg (dT x4.2) (some (.inr ())) λx5=>(cg (dT x5.2) (some (.inr ())) λx6=>(some (.inl ((⟨x4.1,x5.1,x6.1⟩:Item),x6.2))))))
def jW(x2:Int×(U UInt8))(s4:Int)(s5:U UInt8)(s6:U Item):Qbm ((Int×(U UInt8)×(U Item))⊕(((U Item)×(U UInt8))⊕Unit)):=
 (if(decide (s4<x2.1))=true then(cg (mH s5) (Option.map Sum.inr (some (.inr ()))) λx7=>((app s6 [x7.1]).bind λx8=>(some (.inl (IntKind.i64.wrap (s4+1),x7.2,x8)))))else(Option.map Sum.inr (some (.inl (s6,s5)))))
def rr(p0:U UInt8):Qbm (((U Item)×(U UInt8))⊕Unit):=
 (cg (dT p0) (some (.inr ())) λx2=>(if((decide (x2.1<0))||decide (x2.1> ((x2.2).length:Int)))=true then(some (.inr ()))else(iter (λam:Int×(U UInt8)×(U Item)=>jW x2 am.1 am.2.1 am.2.2) (0,x2.2,[]))))
def lc(p0:U UInt8):Qbm (((U Item)×(U UInt8))⊕Unit):=
 (cg (rr p0) (some (.inr ())) λx2=>(some (.inl (x2.1,x2.2))))
def jY(x2:Int×(U UInt8))(s4:Int)(s5:U UInt8)(s6:U (U Item)):Qbm ((Int×(U UInt8)×(U (U Item)))⊕(((U (U Item))×(U UInt8))⊕Unit)):=
 (if(decide (s4<x2.1))=true then(cg (lc s5) (Option.map Sum.inr (some (.inr ()))) λx7=>((app s6 [x7.1]).bind λx8=>(some (.inl (IntKind.i64.wrap (s4+1),x7.2,x8)))))else(Option.map Sum.inr (some (.inl (s6,s5)))))
def oV(p0:U UInt8):Qbm (((U (U Item))×(U UInt8))⊕Unit):=
 (cg (dT p0) (some (.inr ())) λx2=>(if((decide (x2.1<0))||decide (x2.1> ((x2.2).length:Int)))=true then(some (.inr ()))else(iter (λam:Int×(U UInt8)×(U (U Item))=>jY x2 am.1 am.2.1 am.2.2) (0,x2.2,[]))))
def mR(p0:U UInt8):Qbm ((Keyed×(U UInt8))⊕Unit):=
 (cg (dT p0) (some (.inr ())) λx3=>(cg (dT x3.2) (some (.inr ())) λx4=>(some (.inl ((⟨x3.1,x4.1⟩:Keyed),x4.2)))))
def jV(x2:Int×(U UInt8))(s4:Int)(s5:U UInt8)(s6:U Keyed):Qbm ((Int×(U UInt8)×(U Keyed))⊕(((U Keyed)×(U UInt8))⊕Unit)):=
 (if(decide (s4<x2.1))=true then(cg (mR s5) (Option.map Sum.inr (some (.inr ()))) λx7=>((app s6 [x7.1]).bind λx8=>(some (.inl (IntKind.i64.wrap (s4+1),x7.2,x8)))))else(Option.map Sum.inr (some (.inl (s6,s5)))))
def oR(p0:U UInt8):Qbm (((U Keyed)×(U UInt8))⊕Unit):=
 (cg (dT p0) (some (.inr ())) λx2=>(if((decide (x2.1<0))||decide (x2.1> ((x2.2).length:Int)))=true then(some (.inr ()))else(iter (λam:Int×(U UInt8)×(U Keyed)=>jV x2 am.1 am.2.1 am.2.2) (0,x2.2,[]))))
def m9(p0:U UInt8):Qbm ((Memory×(U UInt8))⊕Unit):=
 (cg (dT p0) (some (.inr ())) λx4=>(cg (dT x4.2) (some (.inr ())) λx5=>(cg (oR x5.2) (some (.inr ())) λx6=>(some (.inl ((⟨x4.1,x6.1,x5.1⟩:Memory),x6.2))))))
def jT(x2:Int×(U UInt8))(s4:Int)(s5:U UInt8)(s6:U Memory):Qbm ((Int×(U UInt8)×(U Memory))⊕(((U Memory)×(U UInt8))⊕Unit)):=
 (if(decide (s4<x2.1))=true then(cg (m9 s5) (Option.map Sum.inr (some (.inr ()))) λx7=>((app s6 [x7.1]).bind λx8=>(some (.inl (IntKind.i64.wrap (s4+1),x7.2,x8)))))else(Option.map Sum.inr (some (.inl (s6,s5)))))
def oQ(p0:U UInt8):Qbm (((U Memory)×(U UInt8))⊕Unit):=
 (cg (dT p0) (some (.inr ())) λx2=>(if((decide (x2.1<0))||decide (x2.1> ((x2.2).length:Int)))=true then(some (.inr ()))else(iter (λam:Int×(U UInt8)×(U Memory)=>jT x2 am.1 am.2.1 am.2.2) (0,x2.2,[]))))
def na(p0:U UInt8):Qbm ((Choice×(U UInt8))⊕Unit):=
 (cg (dT p0) (some (.inr ())) λx3=>(cg (dT x3.2) (some (.inr ())) λx4=>(some (.inl ((⟨x3.1,x4.1⟩:Choice),x4.2)))))
def jU(x2:Int×(U UInt8))(s4:Int)(s5:U UInt8)(s6:U Choice):Qbm ((Int×(U UInt8)×(U Choice))⊕(((U Choice)×(U UInt8))⊕Unit)):=
 (if(decide (s4<x2.1))=true then(cg (na s5) (Option.map Sum.inr (some (.inr ()))) λx7=>((app s6 [x7.1]).bind λx8=>(some (.inl (IntKind.i64.wrap (s4+1),x7.2,x8)))))else(Option.map Sum.inr (some (.inl (s6,s5)))))
def oN(p0:U UInt8):Qbm (((U Choice)×(U UInt8))⊕Unit):=
 (cg (dT p0) (some (.inr ())) λx2=>(if((decide (x2.1<0))||decide (x2.1> ((x2.2).length:Int)))=true then(some (.inr ()))else(iter (λam:Int×(U UInt8)×(U Choice)=>jU x2 am.1 am.2.1 am.2.2) (0,x2.2,[]))))
def xr(p0:U Int):Qbm (U Int):=some p0
def oJ(p0:Int)(p1:U Int):Qbm (Unit×(U Int)):=
 ((xr p1).bind λx2=>((app x2 [p0]).bind λx4=>(some ((),x4))))
def k7  (s5:Int)(s6:U Int):Qbm ((Int×(U Int))⊕(U Int)):=
 (if(decide (s5>=128))=true then((oJ (ibits .or .u8 (IntKind.u8.wrap s5) 128) s6).bind λx7=>((shr .u64 s5 7).bind λx8=>(some (.inl (x8,x7.2)))))else(Option.map Sum.inr ((oJ (IntKind.u8.wrap s5) s6).bind λx9=>(some x9.2))))
def dK(p0:Int)(p1:U Int):Qbm (U Int):=
 ((shl .u64 (IntKind.u64.wrap p0) 1).bind λx3=>((shr .i64 p0 63).bind λx4=>(iter (λcZ:Int×(U Int)=>k7 cZ.1 cZ.2) (ibits .xor .u64 x3 (IntKind.u64.wrap x4),p1))))
def rn(p0:U Item)(s3:Int)(s4:U Int):Qbm ((Int×(U Int))⊕(U Int)):=
 (if(decide (s3<((p0).length:Int)))=true then((idx p0 s3).bind λx6=>((dK x6.Key s4).bind λx8=>((dK x6.Val x8).bind λx10=>((dK x6.Dep x10).bind λx11=>(some (.inl (IntKind.i64.wrap (s3+1),x11)))))))else(Option.map Sum.inr (some s4)))
def mG(p0:U Item)(p1:U Int):Qbm (U Int):=
 ((dK ((p0).length:Int) p1).bind λx2=>(iter (λcZ:Int×(U Int)=>rn p0 cZ.1 cZ.2) (0,x2)))
def sI(p0:U Int):Qbm (U UInt8):=bldS p0
def sj(s19:Int)(x22:Memory)(s29:Int)(s30:U Int):Qbm ((Int×(U Int))⊕((Int×(U Int))⊕((U UInt8)×Int))):=
 (if(decide (s29<((x22.Keys).length:Int)))=true then((idx x22.Keys s29).bind λx32=>((dK x32.Key s30).bind λx34=>((dK x32.N x34).bind λx35=>(some (.inl (IntKind.i64.wrap (s29+1),x35))))))else(Option.map Sum.inr (some (.inl (IntKind.i64.wrap (s19+1),s30)))))
def pr(p2:State)(s38:Int)(s39:U Int):Qbm ((Int×(U Int))⊕((U UInt8)×Int)):=
 (if(decide (s38<((p2.Choices).length:Int)))=true then((idx p2.Choices s38).bind λx41=>((dK x41.Node s39).bind λx43=>((dK x41.Lane x43).bind λx44=>(some (.inl (IntKind.i64.wrap (s38+1),x44))))))else(Option.map Sum.inr ((mG p2.Out s39).bind λx46=>((sI x46).bind λx48=>(some (x48,0))))))
def po(p2:State)(s19:Int)(s20:U Int):Qbm ((Int×(U Int))⊕((U UInt8)×Int)):=
 (if(decide (s19<((p2.Memory).length:Int)))=true then((idx p2.Memory s19).bind λx22=>((dK x22.Sum s20).bind λx24=>((dK x22.Dep x24).bind λx26=>((dK ((x22.Keys).length:Int) x26).bind λx28=>(iter (λmr:Int×(U Int)=>sj s19 x22 mr.1 mr.2) (0,x28))))))else(Option.map Sum.inr ((dK ((p2.Choices).length:Int) s20).bind λx37=>(iter (λiU:Int×(U Int)=>pr p2 iU.1 iU.2) (0,x37)))))
def pq(p2:State)(s12:Int)(s13:U Int):Qbm ((Int×(U Int))⊕((U UInt8)×Int)):=
 (if(decide (s12<((p2.Rings).length:Int)))=true then((idx p2.Rings s12).bind λx15=>((mG x15 s13).bind λx16=>(some (.inl (IntKind.i64.wrap (s12+1),x16)))))else(Option.map Sum.inr ((dK ((p2.Memory).length:Int) s13).bind λx18=>(iter (λeE:Int×(U Int)=>po p2 eE.1 eE.2) (0,x18)))))
def pm(p2:State)(s5:Int)(s6:U Int):Qbm ((Int×(U Int))⊕((U UInt8)×Int)):=
 (if(decide (s5<((p2.At).length:Int)))=true then((idx p2.At s5).bind λx8=>((dK x8 s6).bind λx9=>(some (.inl (IntKind.i64.wrap (s5+1),x9)))))else(Option.map Sum.inr ((dK ((p2.Rings).length:Int) s6).bind λx11=>(iter (λgY:Int×(U Int)=>pq p2 gY.1 gY.2) (0,x11)))))
def iA(p0:Net)(p1:U (U Item))(p2:State):Qbm ((U UInt8)×Int):=
 ((iC p0 p1 p2).bind λx2=>(if(x2 !=0)=true then(some ([],x2))else((dK ((p2.At).length:Int) ([]:U Int)).bind λx4=>(iter (λeH:Int×(U Int)=>pm p2 eH.1 eH.2) (0,x4)))))
def gR(p0:Net)(p1:U (U Item))(p2:U UInt8):Qbm (State×Int):=
 ((lJ p0 p1).bind λx2=>(if(x2 !=0)=true then(some ((⟨[],[],[],[],[]⟩:State),x2))else(cg (oW p2) (some ((⟨[],[],[],[],[]⟩:State),12)) λx4=>(cg (oV x4.2) (some ((⟨[],[],[],[],[]⟩:State),12)) λx6=>(cg (oQ x6.2) (some ((⟨[],[],[],[],[]⟩:State),12)) λx8=>(cg (oN x8.2) (some ((⟨[],[],[],[],[]⟩:State),12)) λx10=>(cg (lc x10.2) (some ((⟨[],[],[],[],[]⟩:State),12)) λx12=>((iA p0 p1 (⟨x4.1,x6.1,x8.1,x10.1,x12.1⟩:State)).bind λx14=>(if((x14.2 !=0)|| !(x14.1==p2))=true then(some ((⟨[],[],[],[],[]⟩:State),12))else(some ((⟨x4.1,x6.1,x8.1,x10.1,x12.1⟩:State),0)))))))))))
def oU(p0:U Node)(p1 p2:Int)(p3:U (U Item))(p9:U (U UInt8))(p10:U Write)(s3 s4:Int)(s5:U Int)(s6:U (U Item))(s7:U Memory)(s8:U Choice)(s9:U Item):Qbm ((Int×Int×(U Int)×(U (U Item))×(U Memory)×(U Choice)×(U Item))⊕(State×Int)):=
 (if(decide (s4<2))=true then((nQ (⟨p9,p10⟩:Disk) s4).bind λx11=>(if((x11.2.2 !=0)||decide (x11.2.1<=s3))=true then(some (.inl (s3,IntKind.i64.wrap (s4+1),s5,s6,s7,s8,s9)))else((gR (⟨p0,p1,p2⟩:Net) p3 x11.1).bind λx14=>(if(x14.2==0)=true then(some (.inl (x11.2.1,IntKind.i64.wrap (s4+1),x14.1.At,x14.1.Rings,x14.1.Memory,x14.1.Choices,x14.1.Out)))else(some (.inl (s3,IntKind.i64.wrap (s4+1),s5,s6,s7,s8,s9)))))))else(Option.map Sum.inr (some ((⟨s5,s6,s7,s8,s9⟩:State),s3))))
def rV(p0:U Node)(p1 p2:Int)(p3:U (U Item))(p4:U Int)(p5:U (U Item))(p6:U Memory)(p7:U Choice)(p8:U Item)(p9:U (U UInt8))(p10:U Write)(p11 p12 p13 p14 p15:Int)(p16:Bool)(p17:U Item):Qbm (State×Int):=
 ((kj (⟨p0,p1,p2⟩:Net) p3).bind λx2=>(iter (λeZ:Int×Int×(U Int)×(U (U Item))×(U Memory)×(U Choice)×(U Item)=>oU p0 p1 p2 p3 p9 p10 eZ.1 eZ.2.1 eZ.2.2.1 eZ.2.2.2.1 eZ.2.2.2.2.1 eZ.2.2.2.2.2.1 eZ.2.2.2.2.2.2) (0,0,x2.1.At,x2.1.Rings,x2.1.Memory,x2.1.Choices,x2.1.Out)))
def j7(p0:U UInt8)(s3:Int)(s4:U Choice):Qbm ((Int×(U Choice))⊕((U Choice)×Int)):=
 (if(decide (s3<((p0).length:Int)))=true then((idx p0 s3).bind λx7=>((idx p0 (IntKind.i64.wrap (s3+1))).bind λx8=>(if((decide ((IntKind.i64.wrap (x7.toNat:Int))>=12))||decide ((IntKind.i64.wrap (x8.toNat:Int))>=16))=true then(Option.map Sum.inr (some ([],12)))else((app s4 [(⟨IntKind.i64.wrap (x7.toNat:Int),IntKind.i64.wrap (x8.toNat:Int)⟩:Choice)]).bind λx10=>(some (.inl (IntKind.i64.wrap (s3+2),x10)))))))else(Option.map Sum.inr (some (s4,0))))
def r9(p0:U UInt8):Qbm ((U Choice)×Int):=
 (if(decide (((p0).length:Int)> 60))=true then(some ([],2))else((rem ((p0).length:Int) 2).bind λx2=>(if(x2 !=0)=true then(some ([],12))else(iter (λjb:Int×(U Choice)=>j7 p0 jb.1 jb.2) (0,[])))))
def pe(p0:Int)(p1:U (U UInt8))(p2:U Write)(p3:Int):Qbm (U Choice):=
 (if(decide (p0>=((p1).length:Int)))=true then(some [])else((idx p1 p0).bind λx3=>((pH x3).bind λx4=>(Option.bind (if(((x4.1).length:Int)!=1)=true then(some true)else((idx p1 p0).bind λx5=>(if(x4.2.1 !=((x5).length:Int))=true then(some true)else((ixN x4.1 0).bind λx6=>(((x4.1)[x6]?).bind λx7=>((idx x7 0).bind λx8=>(some ((IntKind.i64.wrap (x8.toNat:Int))!=p3)))))))) λc9=>(if c9=true then(some [])else((ixN x4.1 0).bind λx14=>(((x4.1)[x14]?).bind λx15=>((sub x15 1 ((x15).length:Int)).bind λx16=>((r9 x16).bind λx17=>(some x17.1))))))))))
def kf(p0:Disk)(p1 s6:Int)(s7 s8:U Choice):Qbm ((Int×(U Choice)×(U Choice))⊕((U Choice)×Int×Int)):=
 (if(decide (((s8).length:Int)> 0))=true then((app s7 s8).bind λx10=>((pe (IntKind.i64.wrap (120+(IntKind.i64.wrap (s6+1)))) p0.Sectors p0.Wait p1).bind λx11=>(some (.inl (IntKind.i64.wrap (s6+1),x10,x11)))))else(Option.map Sum.inr (some (s7,s6,0))))
def nP(p0:Disk)(p1:Int):Qbm ((U Choice)×Int×Int):=
 ((gf p0).bind λx2=>(if(x2 !=0)=true then(some ([],0,x2))else(if((decide (p1<0))||decide (p1> 200))=true then(some ([],0,3))else((pe (120:Int) p0.Sectors p0.Wait p1).bind λx5=>(iter (λaQ:Int×(U Choice)×(U Choice)=>kf p0 p1 aQ.1 aQ.2.1 aQ.2.2) (0,[],x5))))))
def si(p0:Net)(p1:U Choice)(s3:Int):Qbm (Int⊕Int):=
 (if(decide (s3<((p1).length:Int)))=true then((idx p1 s3).bind λx5=>(Option.bind (if(decide (x5.Node<0))=true then(some true)else(if(decide (x5.Node>=((p0.Nodes).length:Int)))=true then(some true)else((idx p0.Nodes x5.Node).bind λx6=>(some (x6.Kind !=6))))) λc7=>(if c7=true then(Option.map Sum.inr (some 5))else(Option.bind (if(decide (x5.Lane<0))=true then(some true)else((idx p0.Nodes x5.Node).bind λx8=>(some (decide (x5.Lane>=((x8.In).length:Int)))))) λc9=>(if c9=true then(Option.map Sum.inr (some 3))else(some (.inl (IntKind.i64.wrap (s3+1)))))))))else(Option.map Sum.inr (some 0)))
def pD(p0:Net)(p1:U Choice):Qbm Int:=
 ((pU p0).bind λx2=>(if(x2 !=0)=true then(some x2)else(if(decide (((p1).length:Int)> 500))=true then(some 2)else(iter (λcB:Int=>si p0 p1 cB) 0))))
def rE(p0:Move)(p1:U Node)(p2 p3:Int)(p4:U Choice):Qbm Bool:=
 ((idx p1 p0.Node).bind λx1=>(Option.bind (if(x1.Kind !=6)=true then(some true)else((idx p4 0).bind λx2=>(if(p0.Node==x2.Node)=true then((idx p4 0).bind λx3=>(some (p0.Lane==x3.Lane)))else(some false)))) λc4=>(some c4)))
def rh(p0:U Move)(p1:U Node)(p2 p3:Int)(p4:U Choice)(s1:Int):Qbm (Int⊕Int):=
 (if(decide (s1<((p0).length:Int)))=true then((ixN p0 s1).bind λx5=>(((p0)[x5]?).bind λx6=>((rE x6 p1 p2 p3 p4).bind λx7=>(if x7=true then(Option.map Sum.inr (some s1))else(some (.inl (IntKind.i64.wrap (s1+1))))))))else(Option.map Sum.inr (some (-1))))
def rl(p0:U Move)(p1:U Node)(p2 p3:Int)(p4:U Choice):Qbm Int:=
 (iter (λam:Int=>rh p0 p1 p2 p3 p4 am) 0)
def nb(p0:Net)(p1:U (U Item))(s1:U Int)(s2:U (U Item))(s3:U Memory)(s4:U Choice)(s5:U Item)(x8:(U Move)×Int)(x10:Int)(z18:U Choice):Qbm (((U Int)×(U (U Item))×(U Memory)×(U Choice)×(U Item)×(U Choice))⊕(State×Int)):=
 ((ixN x8.1 x10).bind λx19=>(((x8.1)[x19]?).bind λx20=>((kz p0 p1 (⟨s1,s2,s3,s4,s5⟩:State) x20).bind λx21=>(some (.inl (x21.1.At,x21.1.Rings,x21.1.Memory,x21.1.Choices,x21.1.Out,z18))))))
def nc(p0:Net)(p1:U (U Item))(s1:U Int)(s2:U (U Item))(s3:U Memory)(s4:U Choice)(s5:U Item)(s6:U Choice):Qbm (((U Int)×(U (U Item))×(U Memory)×(U Choice)×(U Item)×(U Choice))⊕(State×Int)):=
 (if(decide (((s6).length:Int)> 0))=true then((kg p0 p1 (⟨s1,s2,s3,s4,s5⟩:State)).bind λx8=>((rl x8.1 p0.Nodes p0.Rings p0.Room s6).bind λx10=>(if(decide (x10<0))=true then(Option.map Sum.inr (some ((⟨[],[],[],[],[]⟩:State),11)))else((ixN x8.1 x10).bind λx14=>(((x8.1)[x14]?).bind λx15=>((idx p0.Nodes x15.Node).bind λx16=>(if(x16.Kind==6)=true then((sub s6 1 ((s6).length:Int)).bind λx17=>(nb p0 p1 s1 s2 s3 s4 s5 x8 x10 x17))else(nb p0 p1 s1 s2 s3 s4 s5 x8 x10 s6))))))))else(Option.map Sum.inr (some ((⟨s1,s2,s3,s4,s5⟩:State),0))))
def pF(p0:Net)(p1:U (U Item))(p2:State)(p3:U Choice):Qbm (State×Int):=
 (if(decide ((IntKind.i64.wrap (((p2.Choices).length:Int)+((p3).length:Int)))> 500))=true then(some ((⟨[],[],[],[],[]⟩:State),2))else(iter (λbp:(U Int)×(U (U Item))×(U Memory)×(U Choice)×(U Item)×(U Choice)=>nc p0 p1 bp.1 bp.2.1 bp.2.2.1 bp.2.2.2.1 bp.2.2.2.2.1 bp.2.2.2.2.2) (p2.At,p2.Rings,p2.Memory,p2.Choices,p2.Out,p3)))
def sr(p0:Int)(p1:U Node)(p2 p3:Int)(p4:U (U Item))(p5:U Int)(p6:U (U Item))(p7:U Memory)(p8:U Choice)(p9:U Item)(p10:U (U UInt8))(p11:U Write)(p12 p13 p14 p15 p16:Int)(p17:Bool)(p18:U Item):Qbm (Int×(U Int)×(U (U Item))×(U Memory)×(U Choice)×(U Item)×Int×Int×Int×Int×Bool):=
 ((rV p1 p2 p3 p4 p5 p6 p7 p8 p9 p10 p11 p12 p13 p14 p15 p16 p17 p18).bind λx2=>((nP (⟨p10,p11⟩:Disk) x2.2).bind λx4=>(if(x4.2.2 !=0)=true then(some (x4.2.2,p5,p6,p7,p8,p9,p12,p13,p14,p16,p17))else((pD (⟨p1,p2,p3⟩:Net) x4.1).bind λx6=>(if(x6 !=0)=true then(some (x6,p5,p6,p7,p8,p9,p12,p13,p14,p16,p17))else((pF (⟨p1,p2,p3⟩:Net) p4 x2.1 x4.1).bind λx10=>(if(x10.2 !=0)=true then(some (x10.2,p5,p6,p7,p8,p9,p12,p13,p14,p16,p17))else(some (0,x10.1.At,x10.1.Rings,x10.1.Memory,x10.1.Choices,x10.1.Out,((x10.1.Choices).length:Int),((x10.1.Choices).length:Int),x2.2,x4.2.1,false)))))))))
def nG(p1 s6:Int)(s7:U (U UInt8))(s8:U Write)(z11:U UInt8):Qbm ((Int×(U (U UInt8))×(U Write))⊕(Disk×Int)):=
 ((pV z11).bind λx13=>((jt (⟨s7,s8⟩:Disk) (IntKind.i64.wrap ((IntKind.i64.wrap (p1*60))+s6)) x13.1).bind λx15=>(if(x15.2 !=0)=true then(Option.map Sum.inr (some ((⟨[],[]⟩:Disk),x15.2)))else(some (.inl (IntKind.i64.wrap (s6- 1),x15.1.Sectors,x15.1.Wait))))))
def pG(p1 p2:Int)(p3:U UInt8)(x5 s6:Int)(s7:U (U UInt8))(s8:U Write):Qbm ((Int×(U (U UInt8))×(U Write))⊕(Disk×Int)):=
 (if(decide (s6>=0))=true then(if(decide (s6> 0))=true then((sub p3 (IntKind.i64.wrap ((IntKind.i64.wrap (s6- 1))*50)) (if((p3).length:Int)<(IntKind.i64.wrap (s6*50))then((p3).length:Int)else(IntKind.i64.wrap (s6*50)))).bind λx9=>((cat (cq [IntKind.u8.wrap p2,IntKind.u8.wrap s6,IntKind.u8.wrap x5]) x9).bind λx10=>(nG p1 s6 s7 s8 x10)))else(nG p1 s6 s7 s8 (cq [IntKind.u8.wrap p2,IntKind.u8.wrap s6,IntKind.u8.wrap x5])))else(Option.map Sum.inr (some ((⟨s7,s8⟩:Disk),0))))
def nN(p0:Disk)(p1 p2:Int)(p3:U UInt8):Qbm (Disk×Int):=
 ((gf p0).bind λx2=>(if(x2 !=0)=true then(some ((⟨[],[]⟩:Disk),x2))else(if((decide (p1<0))||((decide (p1> 1))||((decide (p2<0))||decide (p2> 200))))=true then(some ((⟨[],[]⟩:Disk),3))else((quo .i64 (IntKind.i64.wrap ((IntKind.i64.wrap (((p3).length:Int)+50))- 1)) 50).bind λx5=>(if(decide (x5>=60))=true then(some ((⟨[],[]⟩:Disk),8))else(iter (λdX:Int×(U (U UInt8))×(U Write)=>pG p1 p2 p3 x5 dX.1 dX.2.1 dX.2.2) (x5,p0.Sectors,p0.Wait)))))))
def se(p0:Int)(p1:U Node)(p2 p3:Int)(p4:U (U Item))(p5:U Int)(p6:U (U Item))(p7:U Memory)(p8:U Choice)(p9:U Item)(p10:U (U UInt8))(p11:U Write)(p12 p13 p14 p15 p16:Int)(p17:Bool)(p18:U Item):Qbm (Int×(U (U UInt8))×(U Write)×Int):=
 (if(decide (p15>=0))=true then(some (10,p10,p11,p15))else(if(p14==200)=true then(some (8,p10,p11,p15))else((iA (⟨p1,p2,p3⟩:Net) p4 (⟨p5,p6,p7,p8,p9⟩:State)).bind λx2=>(if(x2.2 !=0)=true then(some (x2.2,p10,p11,p15))else((rem (IntKind.i64.wrap (p14+1)) 2).bind λx5=>((nN (⟨p10,p11⟩:Disk) x5 (IntKind.i64.wrap (p14+1)) x2.1).bind λx6=>(if(x6.2 !=0)=true then(some (x6.2,x6.1.Sectors,x6.1.Wait,p15))else(some (0,x6.1.Sectors,x6.1.Wait,((p8).length:Int))))))))))
def jq  (z31:U Node)(z32 z33:Int)(z34:U (U Item))(z35:U Int)(z36:U (U Item))(z37:U Memory)(z38:U Choice)(z39:U Item)(z40:U (U UInt8))(z41:U Write)(z42 z43 z44 z45 z46:Int)(z47:Bool)(z48:U Item):Qbm (Shop×Int):=
 (some ((⟨(⟨z31,z32,z33⟩:Net),z34,(⟨z35,z36,z37,z38,z39⟩:State),(⟨z40,z41⟩:Disk),z42,z43,z44,z45,z46,z48,z47⟩:Shop),0))
def qe(p0:Shop)(p1:Happening):Qbm (Shop×Int):=
 ((pI p0).bind λx2=>(if(x2 !=0)=true then(some ((⟨(⟨[],0,0⟩:Net),[],(⟨[],[],[],[],[]⟩:State),(⟨[],[]⟩:Disk),0,0,0,0,0,[],false⟩:Shop),x2))else(if(p1.Kind==1)=true then(if(!(p0.Down==(p1.Kind==6)))=true then(some ((⟨(⟨[],0,0⟩:Net),[],(⟨[],[],[],[],[]⟩:State),(⟨[],[]⟩:Disk),0,0,0,0,0,[],false⟩:Shop),13))else((iw p0).bind λx4=>((r8 p1.N x4.N.Nodes x4.N.Rings x4.N.Room x4.Items x4.S.At x4.S.Rings x4.S.Memory x4.S.Choices x4.S.Out x4.D.Sectors x4.D.Wait x4.Logged x4.Safe x4.Epoch x4.Laid x4.Next x4.Down x4.Told).bind λx6=>(if(x6.1 !=0)=true then(some ((⟨(⟨[],0,0⟩:Net),[],(⟨[],[],[],[],[]⟩:State),(⟨[],[]⟩:Disk),0,0,0,0,0,[],false⟩:Shop),x6.1))else(jq x4.N.Nodes x4.N.Rings x4.N.Room x4.Items x6.2.1 x6.2.2.1 x6.2.2.2.1 x6.2.2.2.2.1 x6.2.2.2.2.2 x4.D.Sectors x4.D.Wait x4.Logged x4.Safe x4.Epoch x4.Laid x4.Next x4.Down x4.Told)))))else(if(p1.Kind==2)=true then(if(!(p0.Down==(p1.Kind==6)))=true then(some ((⟨(⟨[],0,0⟩:Net),[],(⟨[],[],[],[],[]⟩:State),(⟨[],[]⟩:Disk),0,0,0,0,0,[],false⟩:Shop),13))else((iw p0).bind λx8=>((rZ p1.N x8.N.Nodes x8.N.Rings x8.N.Room x8.Items x8.S.At x8.S.Rings x8.S.Memory x8.S.Choices x8.S.Out x8.D.Sectors x8.D.Wait x8.Logged x8.Safe x8.Epoch x8.Laid x8.Next x8.Down x8.Told).bind λx10=>(if(x10.1 !=0)=true then(some ((⟨(⟨[],0,0⟩:Net),[],(⟨[],[],[],[],[]⟩:State),(⟨[],[]⟩:Disk),0,0,0,0,0,[],false⟩:Shop),x10.1))else(jq x8.N.Nodes x8.N.Rings x8.N.Room x8.Items x8.S.At x8.S.Rings x8.S.Memory x8.S.Choices x8.S.Out x10.2.1 x10.2.2.1 x10.2.2.2.1 x8.Safe x8.Epoch x8.Laid x10.2.2.2.2 x8.Down x8.Told)))))else(if(p1.Kind==3)=true then(if(!(p0.Down==(p1.Kind==6)))=true then(some ((⟨(⟨[],0,0⟩:Net),[],(⟨[],[],[],[],[]⟩:State),(⟨[],[]⟩:Disk),0,0,0,0,0,[],false⟩:Shop),13))else((iw p0).bind λx12=>((rX p1.N x12.N.Nodes x12.N.Rings x12.N.Room x12.Items x12.S.At x12.S.Rings x12.S.Memory x12.S.Choices x12.S.Out x12.D.Sectors x12.D.Wait x12.Logged x12.Safe x12.Epoch x12.Laid x12.Next x12.Down x12.Told).bind λx14=>(if(x14.1 !=0)=true then(some ((⟨(⟨[],0,0⟩:Net),[],(⟨[],[],[],[],[]⟩:State),(⟨[],[]⟩:Disk),0,0,0,0,0,[],false⟩:Shop),x14.1))else(jq x12.N.Nodes x12.N.Rings x12.N.Room x12.Items x12.S.At x12.S.Rings x12.S.Memory x12.S.Choices x12.S.Out x14.2.1 x14.2.2.1 x14.2.2.2.1 x14.2.2.2.2.1 x14.2.2.2.2.2.1 x14.2.2.2.2.2.2.1 x14.2.2.2.2.2.2.2 x12.Down x12.Told)))))else(if(p1.Kind==4)=true then(if(!(p0.Down==(p1.Kind==6)))=true then(some ((⟨(⟨[],0,0⟩:Net),[],(⟨[],[],[],[],[]⟩:State),(⟨[],[]⟩:Disk),0,0,0,0,0,[],false⟩:Shop),13))else((iw p0).bind λx16=>((r7 p1.N x16.N.Nodes x16.N.Rings x16.N.Room x16.Items x16.S.At x16.S.Rings x16.S.Memory x16.S.Choices x16.S.Out x16.D.Sectors x16.D.Wait x16.Logged x16.Safe x16.Epoch x16.Laid x16.Next x16.Down x16.Told).bind λx18=>(if(x18.1 !=0)=true then(some ((⟨(⟨[],0,0⟩:Net),[],(⟨[],[],[],[],[]⟩:State),(⟨[],[]⟩:Disk),0,0,0,0,0,[],false⟩:Shop),x18.1))else(jq x16.N.Nodes x16.N.Rings x16.N.Room x16.Items x16.S.At x16.S.Rings x16.S.Memory x16.S.Choices x16.S.Out x16.D.Sectors x16.D.Wait x16.Logged x16.Safe x16.Epoch x16.Laid x16.Next x16.Down x18.2)))))else(if(p1.Kind==5)=true then(if(!(p0.Down==(p1.Kind==6)))=true then(some ((⟨(⟨[],0,0⟩:Net),[],(⟨[],[],[],[],[]⟩:State),(⟨[],[]⟩:Disk),0,0,0,0,0,[],false⟩:Shop),13))else((iw p0).bind λx20=>((sa p1.N x20.N.Nodes x20.N.Rings x20.N.Room x20.Items x20.S.At x20.S.Rings x20.S.Memory x20.S.Choices x20.S.Out x20.D.Sectors x20.D.Wait x20.Logged x20.Safe x20.Epoch x20.Laid x20.Next x20.Down x20.Told).bind λx22=>(if(x22.1 !=0)=true then(some ((⟨(⟨[],0,0⟩:Net),[],(⟨[],[],[],[],[]⟩:State),(⟨[],[]⟩:Disk),0,0,0,0,0,[],false⟩:Shop),x22.1))else(jq x20.N.Nodes x20.N.Rings x20.N.Room x20.Items x22.2.1 x22.2.2.1 x22.2.2.2.1 x22.2.2.2.2.1 x22.2.2.2.2.2.1 x22.2.2.2.2.2.2.1 x22.2.2.2.2.2.2.2.1 x22.2.2.2.2.2.2.2.2.1 x22.2.2.2.2.2.2.2.2.2.1 x22.2.2.2.2.2.2.2.2.2.2.1 x22.2.2.2.2.2.2.2.2.2.2.2.1 x22.2.2.2.2.2.2.2.2.2.2.2.2.1 x22.2.2.2.2.2.2.2.2.2.2.2.2.2 x20.Told)))))else(if(p1.Kind==6)=true then(if(!(p0.Down==(p1.Kind==6)))=true then(some ((⟨(⟨[],0,0⟩:Net),[],(⟨[],[],[],[],[]⟩:State),(⟨[],[]⟩:Disk),0,0,0,0,0,[],false⟩:Shop),13))else((iw p0).bind λx24=>((sr p1.N x24.N.Nodes x24.N.Rings x24.N.Room x24.Items x24.S.At x24.S.Rings x24.S.Memory x24.S.Choices x24.S.Out x24.D.Sectors x24.D.Wait x24.Logged x24.Safe x24.Epoch x24.Laid x24.Next x24.Down x24.Told).bind λx26=>(if(x26.1 !=0)=true then(some ((⟨(⟨[],0,0⟩:Net),[],(⟨[],[],[],[],[]⟩:State),(⟨[],[]⟩:Disk),0,0,0,0,0,[],false⟩:Shop),x26.1))else(jq x24.N.Nodes x24.N.Rings x24.N.Room x24.Items x26.2.1 x26.2.2.1 x26.2.2.2.1 x26.2.2.2.2.1 x26.2.2.2.2.2.1 x24.D.Sectors x24.D.Wait x26.2.2.2.2.2.2.1 x26.2.2.2.2.2.2.2.1 x26.2.2.2.2.2.2.2.2.1 x24.Laid x26.2.2.2.2.2.2.2.2.2.1 x26.2.2.2.2.2.2.2.2.2.2 x24.Told)))))else(if(p1.Kind==7)=true then(if(!(p0.Down==(p1.Kind==6)))=true then(some ((⟨(⟨[],0,0⟩:Net),[],(⟨[],[],[],[],[]⟩:State),(⟨[],[]⟩:Disk),0,0,0,0,0,[],false⟩:Shop),13))else((iw p0).bind λx28=>((se p1.N x28.N.Nodes x28.N.Rings x28.N.Room x28.Items x28.S.At x28.S.Rings x28.S.Memory x28.S.Choices x28.S.Out x28.D.Sectors x28.D.Wait x28.Logged x28.Safe x28.Epoch x28.Laid x28.Next x28.Down x28.Told).bind λx30=>(if(x30.1 !=0)=true then(some ((⟨(⟨[],0,0⟩:Net),[],(⟨[],[],[],[],[]⟩:State),(⟨[],[]⟩:Disk),0,0,0,0,0,[],false⟩:Shop),x30.1))else(jq x28.N.Nodes x28.N.Rings x28.N.Room x28.Items x28.S.At x28.S.Rings x28.S.Memory x28.S.Choices x28.S.Out x30.2.1 x30.2.2.1 x28.Logged x28.Safe x28.Epoch x30.2.2.2 x28.Next x28.Down x28.Told)))))else(some ((⟨(⟨[],0,0⟩:Net),[],(⟨[],[],[],[],[]⟩:State),(⟨[],[]⟩:Disk),0,0,0,0,0,[],false⟩:Shop),5)))))))))))
def nC(p2:U Happening)(s3:Int)(s4:U Node)(s5 s6:Int)(s7:U (U Item))(s8:U Int)(s9:U (U Item))(s10:U Memory)(s11:U Choice)(s12:U Item)(s13:U (U UInt8))(s14:U Write)(s15 s16 s17 s18 s19:Int)(s20:U Item)(s21:Bool)(s22:U Int):Qbm ((Int×(U Node)×Int×Int×(U (U Item))×(U Int)×(U (U Item))×(U Memory)×(U Choice)×(U Item)×(U (U UInt8))×(U Write)×Int×Int×Int×Int×Int×(U Item)×Bool×(U Int))⊕(Shop×(U Int)×Int)):=
 (if(decide (s3<((p2).length:Int)))=true then((idx p2 s3).bind λx24=>((qe (⟨(⟨s4,s5,s6⟩:Net),s7,(⟨s8,s9,s10,s11,s12⟩:State),(⟨s13,s14⟩:Disk),s15,s16,s17,s18,s19,s20,s21⟩:Shop) x24).bind λx26=>(if(x26.2==0)=true then((app s22 [x26.2]).bind λx27=>(some (.inl (IntKind.i64.wrap (s3+1),x26.1.N.Nodes,x26.1.N.Rings,x26.1.N.Room,x26.1.Items,x26.1.S.At,x26.1.S.Rings,x26.1.S.Memory,x26.1.S.Choices,x26.1.S.Out,x26.1.D.Sectors,x26.1.D.Wait,x26.1.Logged,x26.1.Safe,x26.1.Epoch,x26.1.Laid,x26.1.Next,x26.1.Told,x26.1.Down,x27))))else((app s22 [x26.2]).bind λx28=>(some (.inl (IntKind.i64.wrap (s3+1),s4,s5,s6,s7,s8,s9,s10,s11,s12,s13,s14,s15,s16,s17,s18,s19,s20,s21,x28)))))))else(Option.map Sum.inr (some ((⟨(⟨s4,s5,s6⟩:Net),s7,(⟨s8,s9,s10,s11,s12⟩:State),(⟨s13,s14⟩:Disk),s15,s16,s17,s18,s19,s20,s21⟩:Shop),s22,0))))
def jw(p0:Net)(p1:U (U Item))(p2:U Happening):Qbm (Shop×(U Int)×Int):=
 ((lU p0 p1).bind λx2=>(if(x2.2 !=0)=true then(some ((⟨(⟨[],0,0⟩:Net),[],(⟨[],[],[],[],[]⟩:State),(⟨[],[]⟩:Disk),0,0,0,0,0,[],false⟩:Shop),[],x2.2))else(if(decide (((p2).length:Int)> 1200))=true then(some ((⟨(⟨[],0,0⟩:Net),[],(⟨[],[],[],[],[]⟩:State),(⟨[],[]⟩:Disk),0,0,0,0,0,[],false⟩:Shop),[],2))else(iter (λbn:Int×(U Node)×Int×Int×(U (U Item))×(U Int)×(U (U Item))×(U Memory)×(U Choice)×(U Item)×(U (U UInt8))×(U Write)×Int×Int×Int×Int×Int×(U Item)×Bool×(U Int)=>nC p2 bn.1 bn.2.1 bn.2.2.1 bn.2.2.2.1 bn.2.2.2.2.1 bn.2.2.2.2.2.1 bn.2.2.2.2.2.2.1 bn.2.2.2.2.2.2.2.1 bn.2.2.2.2.2.2.2.2.1 bn.2.2.2.2.2.2.2.2.2.1 bn.2.2.2.2.2.2.2.2.2.2.1 bn.2.2.2.2.2.2.2.2.2.2.2.1 bn.2.2.2.2.2.2.2.2.2.2.2.2.1 bn.2.2.2.2.2.2.2.2.2.2.2.2.2.1 bn.2.2.2.2.2.2.2.2.2.2.2.2.2.2.1 bn.2.2.2.2.2.2.2.2.2.2.2.2.2.2.2.1 bn.2.2.2.2.2.2.2.2.2.2.2.2.2.2.2.2.1 bn.2.2.2.2.2.2.2.2.2.2.2.2.2.2.2.2.2.1 bn.2.2.2.2.2.2.2.2.2.2.2.2.2.2.2.2.2.2.1 bn.2.2.2.2.2.2.2.2.2.2.2.2.2.2.2.2.2.2.2) (0,x2.1.N.Nodes,x2.1.N.Rings,x2.1.N.Room,x2.1.Items,x2.1.S.At,x2.1.S.Rings,x2.1.S.Memory,x2.1.S.Choices,x2.1.S.Out,x2.1.D.Sectors,x2.1.D.Wait,x2.1.Logged,x2.1.Safe,x2.1.Epoch,x2.1.Laid,x2.1.Next,x2.1.Told,x2.1.Down,[])))))
def u4:Qbm Net:=
 (some (⟨[(⟨1,0,[],[0]⟩:Node),(⟨1,1,[],[1]⟩:Node),(⟨6,0,[0,1],[2]⟩:Node),(⟨8,0,[2],[]⟩:Node)],3,1⟩:Net))
def vm(p0 p1:Int):Qbm Item:=
 (some (⟨p0,p1,0⟩:Item))
def vn:Qbm (U (U Item)):=
 ((vm (1:Int) (1:Int)).bind λx3=>((vm (2:Int) (2:Int)).bind λx4=>(some [[x3],[x4]])))
def gH(p0 p1:Int):Qbm Happening:=
 (some (⟨p0,p1⟩:Happening))
def rY:Qbm Bool:=
 (u4.bind λx16=>(vn.bind λx17=>((gH (1:Int) (1:Int)).bind λx18=>((gH (1:Int) (1:Int)).bind λx19=>((gH (1:Int) (1:Int)).bind λx20=>((gH (4:Int) (0:Int)).bind λx21=>((gH (2:Int) (0:Int)).bind λx22=>((gH (3:Int) (0:Int)).bind λx23=>((gH (4:Int) (0:Int)).bind λx24=>((gH (5:Int) (0:Int)).bind λx25=>((gH (6:Int) (0:Int)).bind λx26=>((gH (4:Int) (0:Int)).bind λx27=>((jw x16 x17 ([x18,x19,x20,x21,x22,x23,x24,x25,x26,x27]:U Happening)).bind λx30=>(some ((x30.2.2==0)&&((((x30.2.1).length:Int)==10)&&((((x30.1.S.Choices).length:Int)==1)&&((x30.1.Safe==1)&&((decide (((x30.1.Told).length:Int)<=1))&& !x30.1.Down)))))))))))))))))))
def uW(p0 p1:U Int)(s1:Int):Qbm (Int⊕Bool):=
 (if(decide (s1<((p0).length:Int)))=true then((idx p0 s1).bind λx4=>((idx p1 s1).bind λx5=>(if(x4 !=x5)=true then(Option.map Sum.inr (some false))else(some (.inl (IntKind.i64.wrap (s1+1)))))))else(Option.map Sum.inr (some true)))
def mX(p0 p1:U Int):Qbm Bool:=
 (if(((p0).length:Int)!=((p1).length:Int))=true then(some false)else(iter (λaQ:Int=>uW p0 p1 aQ) 0))
def uT(p0 p1:U Item)(s1:Int):Qbm (Int⊕Bool):=
 (if(decide (s1<((p0).length:Int)))=true then((idx p0 s1).bind λx4=>((idx p1 s1).bind λx5=>(if(!(x4==x5))=true then(Option.map Sum.inr (some false))else(some (.inl (IntKind.i64.wrap (s1+1)))))))else(Option.map Sum.inr (some true)))
def rS(p0 p1:U Item):Qbm Bool:=
 (if(((p0).length:Int)!=((p1).length:Int))=true then(some false)else(iter (λaQ:Int=>uT p0 p1 aQ) 0))
def mQ(p0 p1:U Item):Qbm Bool:=
 ((rS p0 p1).bind λx2=>(some x2))
def q8(p0 p1:U (U Item))(s1:Int):Qbm (Int⊕Bool):=
 (if(decide (s1<((p0).length:Int)))=true then((idx p0 s1).bind λx3=>((idx p1 s1).bind λx5=>((mQ x3 x5).bind λx7=>(if(!x7)=true then(Option.map Sum.inr (some false))else(some (.inl (IntKind.i64.wrap (s1+1))))))))else(Option.map Sum.inr (some true)))
def oI(p0 p1:U (U Item)):Qbm Bool:=
 (if(((p0).length:Int)!=((p1).length:Int))=true then(some false)else(iter (λaQ:Int=>q8 p0 p1 aQ) 0))
def uQ(p0 p1:U Keyed)(s1:Int):Qbm (Int⊕Bool):=
 (if(decide (s1<((p0).length:Int)))=true then((idx p0 s1).bind λx4=>((idx p1 s1).bind λx5=>(if(!(x4==x5))=true then(Option.map Sum.inr (some false))else(some (.inl (IntKind.i64.wrap (s1+1)))))))else(Option.map Sum.inr (some true)))
def rH(p0 p1:U Keyed):Qbm Bool:=
 (if(((p0).length:Int)!=((p1).length:Int))=true then(some false)else(iter (λaQ:Int=>uQ p0 p1 aQ) 0))
def rC(p0 p1:Memory):Qbm Bool:=
 (Option.bind (if(p0.Sum==p1.Sum)=true then(if(p0.Dep==p1.Dep)=true then((rH p0.Keys p1.Keys).bind λx1=>(some x1))else(some false))else(some false)) λc2=>(some c2))
def q7(p0 p1:U Memory)(s1:Int):Qbm (Int⊕Bool):=
 (if(decide (s1<((p0).length:Int)))=true then((idx p0 s1).bind λx3=>((idx p1 s1).bind λx5=>((rC x3 x5).bind λx7=>(if(!x7)=true then(Option.map Sum.inr (some false))else(some (.inl (IntKind.i64.wrap (s1+1))))))))else(Option.map Sum.inr (some true)))
def q9(p0 p1:U Memory):Qbm Bool:=
 (if(((p0).length:Int)!=((p1).length:Int))=true then(some false)else(iter (λaQ:Int=>q7 p0 p1 aQ) 0))
def uP(p0 p1:U Choice)(s1:Int):Qbm (Int⊕Bool):=
 (if(decide (s1<((p0).length:Int)))=true then((idx p0 s1).bind λx4=>((idx p1 s1).bind λx5=>(if(!(x4==x5))=true then(Option.map Sum.inr (some false))else(some (.inl (IntKind.i64.wrap (s1+1)))))))else(Option.map Sum.inr (some true)))
def rG(p0 p1:U Choice):Qbm Bool:=
 (if(((p0).length:Int)!=((p1).length:Int))=true then(some false)else(iter (λaQ:Int=>uP p0 p1 aQ) 0))
def rQ(p0 p1:State):Qbm Bool:=
 ((mX p0.At p1.At).bind λx1=>(Option.bind (if x1=true then((oI p0.Rings p1.Rings).bind λx2=>(if x2=true then((q9 p0.Memory p1.Memory).bind λx3=>(if x3=true then((rG p0.Choices p1.Choices).bind λx4=>(if x4=true then((mQ p0.Out p1.Out).bind λx5=>(some x5))else(some false)))else(some false)))else(some false)))else(some false)) λc6=>(some c6)))
def rK(p0 p1:Node):Qbm Bool:=
 (Option.bind (if(p0.Kind==p1.Kind)=true then(if(p0.A==p1.A)=true then((mX p0.In p1.In).bind λx1=>(if x1=true then((mX p0.Out p1.Out).bind λx2=>(some x2))else(some false)))else(some false))else(some false)) λc3=>(some c3))
def mF(p0 p1:U Node)(s1:Int):Qbm (Int⊕Bool):=
 (if(decide (s1<((p0).length:Int)))=true then((idx p0 s1).bind λx3=>((idx p1 s1).bind λx5=>((rK x3 x5).bind λx7=>(if(!x7)=true then(Option.map Sum.inr (some false))else(some (.inl (IntKind.i64.wrap (s1+1))))))))else(Option.map Sum.inr (some true)))
def uH(p0 p1:U Node):Qbm Bool:=
 (if(((p0).length:Int)!=((p1).length:Int))=true then(some false)else(iter (λaQ:Int=>mF p0 p1 aQ) 0))
def r6(p0 p1:Net):Qbm Bool:=
 (Option.bind (if(p0.Rings==p1.Rings)=true then(if(p0.Room==p1.Room)=true then((uH p0.Nodes p1.Nodes).bind λx1=>(some x1))else(some false))else(some false)) λc2=>(some c2))
def uO(p0 p1:U (U UInt8))(s1:Int):Qbm (Int⊕Bool):=
 (if(decide (s1<((p0).length:Int)))=true then((idx p0 s1).bind λx4=>((idx p1 s1).bind λx5=>(if(!(x4==x5))=true then(Option.map Sum.inr (some false))else(some (.inl (IntKind.i64.wrap (s1+1)))))))else(Option.map Sum.inr (some true)))
def rF(p0 p1:U (U UInt8)):Qbm Bool:=
 (if(((p0).length:Int)!=((p1).length:Int))=true then(some false)else(iter (λaQ:Int=>uO p0 p1 aQ) 0))
def uS(p0 p1:U Write)(s1:Int):Qbm (Int⊕Bool):=
 (if(decide (s1<((p0).length:Int)))=true then((idx p0 s1).bind λx4=>((idx p1 s1).bind λx5=>(if(!(x4==x5))=true then(Option.map Sum.inr (some false))else(some (.inl (IntKind.i64.wrap (s1+1)))))))else(Option.map Sum.inr (some true)))
def rI(p0 p1:U Write):Qbm Bool:=
 (if(((p0).length:Int)!=((p1).length:Int))=true then(some false)else(iter (λaQ:Int=>uS p0 p1 aQ) 0))
def rW(p0 p1:Disk):Qbm Bool:=
 ((rF p0.Sectors p1.Sectors).bind λx1=>(Option.bind (if x1=true then((rI p0.Wait p1.Wait).bind λx2=>(some x2))else(some false)) λc3=>(some c3)))
def g9(p0 p1:Shop):Qbm Bool:=
 ((r6 p0.N p1.N).bind λx1=>(Option.bind (if x1=true then((oI p0.Items p1.Items).bind λx2=>(if x2=true then((rQ p0.S p1.S).bind λx3=>(if x3=true then((rW p0.D p1.D).bind λx4=>(if x4=true then(if(p0.Logged==p1.Logged)=true then(if(p0.Safe==p1.Safe)=true then(if(p0.Epoch==p1.Epoch)=true then(if(p0.Laid==p1.Laid)=true then(if(p0.Next==p1.Next)=true then((mQ p0.Told p1.Told).bind λx5=>(if x5=true then(some (p0.Down==p1.Down))else(some false)))else(some false))else(some false))else(some false))else(some false))else(some false))else(some false)))else(some false)))else(some false)))else(some false)) λc6=>(some c6)))
def oZ(p0:Int):Qbm Bool:=
 (some (p0==0))
def fI(p0:Int):Qbm Bool:=
 (some (p0==1))
def mM(p0:Int):Qbm Bool:=
 (some (decide (p0>=1)))
def oX(p0:U Int)(p1 s1:Int):Qbm (Int⊕Int):=
 (if(decide (s1<((p0).length:Int)))=true then((idx p0 s1).bind λx3=>(if(p1==x3)=true then(Option.map Sum.inr (some s1))else(some (.inl (IntKind.i64.wrap (s1+1))))))else(Option.map Sum.inr (some (-1))))
def u9(p0:U Int)(p1:Int):Qbm Int:=
 (iter (λam:Int=>oX p0 p1 am) 0)
def o4(p0:U Int)(p1:Int):Qbm Bool:=
 ((u9 p0 p1).bind λx2=>(some (decide (x2>=0))))
def jh(p0:Net)(s3 s4:Int)(x8:Node)(s35:U (Int×Int))(s39:Int)(s40:U (Int×Int)):Qbm ((Int×(U (Int×Int)))⊕((Int×Int×(U (Int×Int))×(U (Int×Int)))⊕((U Int)×Int))):=
 (if(decide (s39<((x8.Out).length:Int)))=true then((idx x8.Out s39).bind λx42=>(if((decide (x42<0))||decide (x42>=p0.Rings))=true then(Option.map Sum.inr (Option.map Sum.inr (some ([],3))))else(if((mget x42 s40).isSome)=true then(Option.map Sum.inr (Option.map Sum.inr (some ([],6))))else(some (.inl (IntKind.i64.wrap (s39+1),(mset x42 s4 s40)))))))else(Option.map Sum.inr (if(x8.Kind==8)=true then(some (.inl (IntKind.i64.wrap (s3+1),IntKind.i64.wrap (s4+1),s40,s35)))else(some (.inl (s3,IntKind.i64.wrap (s4+1),s40,s35))))))
def g8(p0:Net)(s3 s4:Int)(s5:U (Int×Int))(x8:Node)(s34:Int)(s35:U (Int×Int)):Qbm ((Int×(U (Int×Int)))⊕((Int×Int×(U (Int×Int))×(U (Int×Int)))⊕((U Int)×Int))):=
 (if(decide (s34<((x8.In).length:Int)))=true then((idx x8.In s34).bind λx37=>(if((decide (x37<0))||decide (x37>=p0.Rings))=true then(Option.map Sum.inr (Option.map Sum.inr (some ([],3))))else(if((mget x37 s35).isSome)=true then(Option.map Sum.inr (Option.map Sum.inr (some ([],6))))else(some (.inl (IntKind.i64.wrap (s34+1),(mset x37 s4 s35)))))))else(Option.map Sum.inr (iter (λkK:Int×(U (Int×Int))=>jh p0 s3 s4 x8 s35 kK.1 kK.2) (0,s5))))
def f9(p0:Net)(s3 s4:Int)(s5 s6:U (Int×Int))(x8:Node):Qbm ((Int×Int×(U (Int×Int))×(U (Int×Int)))⊕((U Int)×Int)):=
 (if((decide (x8.A<0))||decide (x8.A> ((mget x8.Kind (mset 2 3 (mset 1 3 ([]:U (Int×Int))))).getD 0)))=true then(Option.map Sum.inr (some ([],3)))else(iter (λkL:Int×(U (Int×Int))=>g8 p0 s3 s4 s5 x8 kL.1 kL.2) (0,s6)))
def lm(s5:U (Int×Int))(s46:U Int)(s47 s48:Int)(x52:Node)(s53:Bool)(s54:Int):Qbm ((Bool×Int)⊕((Int×Int)⊕((Int×(U Int))⊕((U Int)×Int)))):=
 (if(decide (s54<((x52.In).length:Int)))=true then((idx x52.In s54).bind λx56=>(if s53=true then((o4 s46 ((mget x56 s5).getD 0)).bind λx57=>(some (.inl (x57,IntKind.i64.wrap (s54+1)))))else(some (.inl (false,IntKind.i64.wrap (s54+1))))))else(Option.map Sum.inr (if s53=true then(some (.inl (s48,IntKind.i64.wrap (s48- 1))))else(some (.inl (s47,IntKind.i64.wrap (s48- 1)))))))
def lh(p0:Net)(s5:U (Int×Int))(s45:Int)(s46:U Int)(s47 s48:Int):Qbm ((Int×Int)⊕((Int×(U Int))⊕((U Int)×Int))):=
 (if(decide (s48>=0))=true then((o4 s46 s48).bind λx50=>(if x50=true then(some (.inl (s47,IntKind.i64.wrap (s48- 1))))else((idx p0.Nodes s48).bind λx52=>(iter (λl9:Bool×Int=>lm s5 s46 s47 s48 x52 l9.1 l9.2) (true,0)))))else(Option.map Sum.inr (if(decide (s47<0))=true then(Option.map Sum.inr (some ([],7)))else((app s46 [s47]).bind λx58=>(some (.inl (IntKind.i64.wrap (s45+1),x58)))))))
def j6(p0:Net)(s5:U (Int×Int))(s45:Int)(s46:U Int):Qbm ((Int×(U Int))⊕((U Int)×Int)):=
 (if(decide (s45<((p0.Nodes).length:Int)))=true then(iter (λma:Int×Int=>lh p0 s5 s45 s46 ma.1 ma.2) ((-1),IntKind.i64.wrap (((p0.Nodes).length:Int)- 1)))else(Option.map Sum.inr (some (s46,0))))
def jg(p0:Net)(s3 s4:Int)(s5 s6:U (Int×Int)):Qbm ((Int×Int×(U (Int×Int))×(U (Int×Int)))⊕((U Int)×Int)):=
 (if(decide (s4<((p0.Nodes).length:Int)))=true then((idx p0.Nodes s4).bind λx8=>(if(x8.Kind==1)=true then((oZ ((x8.In).length:Int)).bind λx9=>(Option.bind (if(!x9)=true then(some true)else((fI ((x8.Out).length:Int)).bind λx10=>(some (!x10)))) λc11=>(if c11=true then(Option.map Sum.inr (some ([],4)))else(f9 p0 s3 s4 s5 s6 x8))))else(if(x8.Kind==2)=true then((fI ((x8.In).length:Int)).bind λx12=>(Option.bind (if(!x12)=true then(some true)else((fI ((x8.Out).length:Int)).bind λx13=>(some (!x13)))) λc14=>(if c14=true then(Option.map Sum.inr (some ([],4)))else(f9 p0 s3 s4 s5 s6 x8))))else(if(x8.Kind==3)=true then((fI ((x8.In).length:Int)).bind λx15=>(Option.bind (if(!x15)=true then(some true)else((fI ((x8.Out).length:Int)).bind λx16=>(some (!x16)))) λc17=>(if c17=true then(Option.map Sum.inr (some ([],4)))else(f9 p0 s3 s4 s5 s6 x8))))else(if(x8.Kind==4)=true then((fI ((x8.In).length:Int)).bind λx18=>(Option.bind (if(!x18)=true then(some true)else((fI ((x8.Out).length:Int)).bind λx19=>(some (!x19)))) λc20=>(if c20=true then(Option.map Sum.inr (some ([],4)))else(f9 p0 s3 s4 s5 s6 x8))))else(if(x8.Kind==5)=true then((fI ((x8.In).length:Int)).bind λx21=>(Option.bind (if(!x21)=true then(some true)else((mM ((x8.Out).length:Int)).bind λx22=>(some (!x22)))) λc23=>(if c23=true then(Option.map Sum.inr (some ([],4)))else(f9 p0 s3 s4 s5 s6 x8))))else(if(x8.Kind==7)=true then((fI ((x8.In).length:Int)).bind λx24=>(Option.bind (if(!x24)=true then(some true)else((mM ((x8.Out).length:Int)).bind λx25=>(some (!x25)))) λc26=>(if c26=true then(Option.map Sum.inr (some ([],4)))else(f9 p0 s3 s4 s5 s6 x8))))else(if(x8.Kind==6)=true then((mM ((x8.In).length:Int)).bind λx27=>(Option.bind (if(!x27)=true then(some true)else((fI ((x8.Out).length:Int)).bind λx28=>(some (!x28)))) λc29=>(if c29=true then(Option.map Sum.inr (some ([],4)))else(f9 p0 s3 s4 s5 s6 x8))))else(if(x8.Kind==8)=true then((fI ((x8.In).length:Int)).bind λx30=>(Option.bind (if(!x30)=true then(some true)else((oZ ((x8.Out).length:Int)).bind λx31=>(some (!x31)))) λc32=>(if c32=true then(Option.map Sum.inr (some ([],4)))else(f9 p0 s3 s4 s5 s6 x8))))else(Option.map Sum.inr (some ([],5))))))))))))else(Option.map Sum.inr (if((((s5).length:Int)!=p0.Rings)||((s6).length:Int)!=p0.Rings)=true then(some ([],9))else(if(s3 !=1)=true then(some ([],4))else(iter (λmc:Int×(U Int)=>j6 p0 s5 mc.1 mc.2) (0,[]))))))
def o9(p0:Net):Qbm ((U Int)×Int):=
 (if((((p0.Nodes).length:Int)==0)||((decide (((p0.Nodes).length:Int)> 12))||((decide (p0.Rings<0))||decide (p0.Rings> 16))))=true then(some ([],2))else(if((decide (p0.Room<1))||decide (p0.Room> 6))=true then(some ([],3))else(iter (λgu:Int×Int×(U (Int×Int))×(U (Int×Int))=>jg p0 gu.1 gu.2.1 gu.2.2.1 gu.2.2.2) (0,0,([]:U (Int×Int)),([]:U (Int×Int))))))
def oT(s3:Int)(x5:U Item)(s6:Int):Qbm (Int⊕(Int⊕Int)):=
 (if(decide (s6<((x5).length:Int)))=true then((idx x5 s6).bind λx8=>(if(x8.Dep !=0)=true then(Option.map Sum.inr (Option.map Sum.inr (some 4)))else(some (.inl (IntKind.i64.wrap (s6+1))))))else(Option.map Sum.inr (some (.inl (IntKind.i64.wrap (s3+1))))))
def k8(p0:Net)(p1:U (U Item))(s9:Int)(s10:U (Int×Int)):Qbm ((Int×(U (Int×Int)))⊕Int):=
 (if(decide (s9<((p0.Nodes).length:Int)))=true then((idx p0.Nodes s9).bind λx12=>(if(x12.Kind==1)=true then(if(decide (x12.A>=((p1).length:Int)))=true then(Option.map Sum.inr (some 5))else(if(decide (((mget x12.A (mset x12.A (IntKind.i64.wrap (((mget x12.A s10).getD 0)+1)) s10)).getD 0)> 1))=true then(Option.map Sum.inr (some 6))else(some (.inl (IntKind.i64.wrap (s9+1),(mset x12.A (IntKind.i64.wrap (((mget x12.A s10).getD 0)+1)) s10))))))else(some (.inl (IntKind.i64.wrap (s9+1),s10)))))else(Option.map Sum.inr (some 0)))
def oS(p0:Net)(p1:U (U Item))(s3:Int):Qbm (Int⊕Int):=
 (if(decide (s3<((p1).length:Int)))=true then((idx p1 s3).bind λx5=>(if(decide (((x5).length:Int)> 20))=true then(Option.map Sum.inr (some 2))else(iter (λbl:Int=>oT s3 x5 bl) 0)))else(Option.map Sum.inr (iter (λeX:Int×(U (Int×Int))=>k8 p0 p1 eX.1 eX.2) (0,([]:U (Int×Int))))))
def rx(p0:Net)(p1:U (U Item)):Qbm Int:=
 ((o9 p0).bind λx2=>(if(x2.2 !=0)=true then(some x2.2)else(if(decide (((p1).length:Int)> 4))=true then(some 2)else(iter (λcr:Int=>oS p0 p1 cr) 0))))
def pg(p0:Shop):Qbm Bool:=
 ((g9 p0 (⟨(⟨[],0,0⟩:Net),[],(⟨[],[],[],[],[]⟩:State),(⟨[],[]⟩:Disk),0,0,0,0,0,[],false⟩:Shop)).bind λx2=>(some x2))
def pk(p0:Net)(p1:U (U Item)):Qbm State:=
 ((mk ((p1).length:Int) 0).bind λx4=>((mk p0.Rings ([]:U Item)).bind λx5=>((mk ((p0.Nodes).length:Int) (⟨0,[],0⟩:Memory)).bind λx6=>(some (⟨x4,x5,x6,[],[]⟩:State)))))
def jk(p0:Net)(p1:U (U Item)):Qbm Shop:=
 ((pk p0 p1).bind λx2=>(some (⟨p0,p1,x2,(⟨[],[]⟩:Disk),0,0,0,(-1),0,[],false⟩:Shop)))
def mJ(p0:State)(x4:U Int)(x5:U Choice)(x6:U Item)(s8:U (Bool×U Item))(s13:Int)(s14:U Memory):Qbm ((Int×(U Memory))⊕(State×(U (Bool×U Item)))):=
 (if(decide (s13<((p0.Memory).length:Int)))=true then((idx p0.Memory s13).bind λx16=>((lq x16.Keys).bind λx18=>((app s14 [(⟨x16.Sum,x18,x16.Dep⟩:Memory)]).bind λx19=>(some (.inl (IntKind.i64.wrap (s13+1),x19))))))else(Option.map Sum.inr (some ((⟨x4,(List.map Prod.snd s8),s14,x5,x6⟩:State),s8))))
def lj(p0:State)(x4:U Int)(x5:U Choice)(x6:U Item)(s7:Int)(s8:U (Bool×U Item)):Qbm ((Int×(U (Bool×U Item)))⊕(State×(U (Bool×U Item)))):=
 (if(decide (s7<((p0.Rings).length:Int)))=true then((idx p0.Rings s7).bind λx10=>((em x10).bind λx11=>((app s8 [(false,x11)]).bind λx12=>(some (.inl (IntKind.i64.wrap (s7+1),x12))))))else(Option.map Sum.inr (iter (λiV:Int×(U Memory)=>mJ p0 x4 x5 x6 s8 iV.1 iV.2) (0,[]))))
def rT(p0:State):Qbm (State×(U (Bool×U Item))):=
 ((jj p0.At).bind λx4=>((oY p0.Choices).bind λx5=>((em p0.Out).bind λx6=>(iter (λiW:Int×(U (Bool×U Item))=>lj p0 x4 x5 x6 iW.1 iW.2) (0,([]:U (Bool×U Item)))))))
def sk(p0:Item)(p1:Int):Qbm Int:=
 ((rem p0.Key p1).bind λx2=>(if(decide (x2<0))=true then(some (IntKind.i64.wrap (x2+p1)))else(some x2)))
def xw(p0:U Keyed)(p1 p2:Int):Qbm (U Keyed):=sortK p0
def gG(p2:Memory)(x2:U Keyed)(p3:Item)(s3 s4:Int):Qbm ((Int×Int)⊕(Memory×Item×Int)):=
 (if(decide (s4<((x2).length:Int)))=true then((ixN x2 s4).bind λx7=>(((x2)[x7]?).bind λx8=>(if(x8.Key==p3.Key)=true then(some (.inl (s4,IntKind.i64.wrap (s4+1))))else(some (.inl (s3,IntKind.i64.wrap (s4+1)))))))else(Option.map Sum.inr (if(decide (s3>=0))=true then((ixN x2 s3).bind λx13=>(((x2)[x13]?).bind λx14=>((ixN x2 s3).bind λx15=>(((x2)[x15]?).bind λx16=>((ixN (List.set x2 x15 (⟨x16.Key,IntKind.i64.wrap (x14.N+1)⟩:Keyed)) s3).bind λx17=>((((List.set x2 x15 (⟨x16.Key,IntKind.i64.wrap (x14.N+1)⟩:Keyed)))[x17]?).bind λx18=>(some ((⟨p2.Sum,(List.set x2 x15 (⟨x16.Key,IntKind.i64.wrap (x14.N+1)⟩:Keyed)),(if p3.Dep> p2.Dep then p3.Dep else p2.Dep)⟩:Memory),(⟨p3.Key,x18.N,(if p3.Dep> p2.Dep then p3.Dep else p2.Dep)⟩:Item),0))))))))else(if(decide (((x2).length:Int)<6))=true then((app x2 [(⟨p3.Key,1⟩:Keyed)]).bind λx20=>((xw x20 p2.Sum (if p3.Dep> p2.Dep then p3.Dep else p2.Dep)).bind λx22=>(some ((⟨p2.Sum,x22,(if p3.Dep> p2.Dep then p3.Dep else p2.Dep)⟩:Memory),(⟨p3.Key,1,(if p3.Dep> p2.Dep then p3.Dep else p2.Dep)⟩:Item),0))))else(some ((⟨p2.Sum,x2,(if p3.Dep> p2.Dep then p3.Dep else p2.Dep)⟩:Memory),(⟨p3.Key,0,(if p3.Dep> p2.Dep then p3.Dep else p2.Dep)⟩:Item),0))))))
def nh(p0 p1:Int)(p2:Memory)(p3:Item):Qbm (Memory×Item×Int):=
 ((app [] p2.Keys).bind λx2=>(if(p0==2)=true then(if(p1==0)=true then(some ((⟨p2.Sum,x2,p2.Dep⟩:Memory),(⟨p3.Key,IntKind.i64.wrap (p3.Val+1),p3.Dep⟩:Item),0))else(if(p1==1)=true then(some ((⟨p2.Sum,x2,p2.Dep⟩:Memory),(⟨p3.Key,IntKind.i64.wrap (p3.Val+p3.Val),p3.Dep⟩:Item),0))else(if(p1==2)=true then(some ((⟨p2.Sum,x2,p2.Dep⟩:Memory),(⟨p3.Key,IntKind.i64.wrap (0- p3.Val),p3.Dep⟩:Item),0))else(if(p1==3)=true then(some ((⟨p2.Sum,x2,p2.Dep⟩:Memory),(⟨p3.Key,IntKind.i64.wrap (p3.Val+p3.Key),p3.Dep⟩:Item),0))else(some ((⟨0,[],0⟩:Memory),(⟨0,0,0⟩:Item),3))))))else(if(p0==3)=true then(some ((⟨IntKind.i64.wrap (p2.Sum+p3.Val),x2,(if p3.Dep> p2.Dep then p3.Dep else p2.Dep)⟩:Memory),(⟨p3.Key,IntKind.i64.wrap (p2.Sum+p3.Val),(if p3.Dep> p2.Dep then p3.Dep else p2.Dep)⟩:Item),0))else(if(p0==4)=true then(iter (λdX:Int×Int=>gG p2 x2 p3 dX.1 dX.2) ((-1),0))else(if(p0==1)=true then(if(p0==1)=true then(some ((⟨p2.Sum,x2,p2.Dep⟩:Memory),p3,0))else(some ((⟨0,[],0⟩:Memory),(⟨0,0,0⟩:Item),5)))else(if(p0==5)=true then(if(p0==5)=true then(some ((⟨p2.Sum,x2,p2.Dep⟩:Memory),p3,0))else(some ((⟨0,[],0⟩:Memory),(⟨0,0,0⟩:Item),5)))else(if(p0==6)=true then(if(p0==6)=true then(some ((⟨p2.Sum,x2,p2.Dep⟩:Memory),p3,0))else(some ((⟨0,[],0⟩:Memory),(⟨0,0,0⟩:Item),5)))else(if(p0==7)=true then(if(p0==7)=true then(some ((⟨p2.Sum,x2,p2.Dep⟩:Memory),p3,0))else(some ((⟨0,[],0⟩:Memory),(⟨0,0,0⟩:Item),5)))else(if(p0==8)=true then(some ((⟨p2.Sum,x2,p2.Dep⟩:Memory),p3,0))else(some ((⟨0,[],0⟩:Memory),(⟨0,0,0⟩:Item),5)))))))))))
def gE(p0:Net)(x2:State×(U (Bool×U Item)))(x4:Node)(z30 z34:U Int)(z38:U Choice)(x46:Memory×Item×Int)(x47:Nat)(s49:Int)(s50:U (Bool×U Item)):Qbm ((Int×(U (Bool×U Item)))⊕(State×Bool)):=
 (if(decide (s49<((z34).length:Int)))=true then((idx z34 s49).bind λx52=>((ixN s50 x52).bind λx55=>((atc s50 x55).bind λx56=>(if(decide (((x56).length:Int)>=p0.Room))=true then(Option.map Sum.inr (some ((⟨z30,(List.map Prod.snd s50),(List.set x2.1.Memory x47 x46.1),z38,x2.1.Out⟩:State),false)))else((owc s50 x55).bind λx57=>((app x57 [x46.2.1]).bind λx58=>(some (.inl (IntKind.i64.wrap (s49+1),(own s50 x55 x58))))))))))else(Option.map Sum.inr (if(x4.Kind==8)=true then(if(decide (((x2.1.Out).length:Int)>=2000))=true then(some ((⟨z30,(List.map Prod.snd s50),(List.set x2.1.Memory x47 x46.1),z38,x2.1.Out⟩:State),false))else((app x2.1.Out [x46.2.1]).bind λx59=>(some ((⟨z30,(List.map Prod.snd s50),(List.set x2.1.Memory x47 x46.1),z38,x59⟩:State),true))))else(some ((⟨z30,(List.map Prod.snd s50),(List.set x2.1.Memory x47 x46.1),z38,x2.1.Out⟩:State),true)))))
def mU(p0:Net)(x2:State×(U (Bool×U Item)))(p3:Move)(x4:Node)(z27 z28:Int)(z30:U Int)(z31:U (Bool×U Item))(z34:U Int)(z37:Int)(z38:U Choice):Qbm (State×Bool):=
 ((ixN x2.1.Memory p3.Node).bind λx44=>(((x2.1.Memory)[x44]?).bind λx45=>((nh x4.Kind x4.A x45 (⟨z27,z28,z37⟩:Item)).bind λx46=>((ixN x2.1.Memory p3.Node).bind λx47=>(((x2.1.Memory)[x47]?).bind λx48=>(iter (λiX:Int×(U (Bool×U Item))=>gE p0 x2 x4 z30 z34 z38 x46 x47 iX.1 iX.2) (0,z31)))))))
def j8(p0:Net)(x2:State×(U (Bool×U Item)))(p3:Move)(x4:Node)(z27 z28 z29:Int)(z30:U Int)(z31:U (Bool×U Item))(z34:U Int):Qbm (State×Bool):=
 (if(x4.Kind==6)=true then(if(decide (((x2.1.Choices).length:Int)>=500))=true then(some ((⟨z30,(List.map Prod.snd z31),x2.1.Memory,x2.1.Choices,x2.1.Out⟩:State),false))else((app x2.1.Choices [(⟨p3.Node,p3.Lane⟩:Choice)]).bind λx36=>(mU p0 x2 p3 x4 z27 z28 z30 z31 z34 ((x36).length:Int) x36)))else(mU p0 x2 p3 x4 z27 z28 z30 z31 z34 z29 x2.1.Choices))
def lr(p0:Net)(x2:State×(U (Bool×U Item)))(p3:Move)(x4:Node)(z27 z28 z29:Int)(z30:U Int)(z31:U (Bool×U Item)):Qbm (State×Bool):=
 (if(x4.Kind==7)=true then((sk (⟨z27,z28,z29⟩:Item) ((x4.Out).length:Int)).bind λx32=>((idx x4.Out x32).bind λx33=>(j8 p0 x2 p3 x4 z27 z28 z29 z30 z31 [x33])))else(j8 p0 x2 p3 x4 z27 z28 z29 z30 z31 x4.Out))
def ka(p0:Net)(p1:U (U Item))(p2:State)(p3:Move):Qbm (State×Bool):=
 ((rT p2).bind λx2=>((idx p0.Nodes p3.Node).bind λx4=>(if(x4.Kind==1)=true then((idx p1 x4.A).bind λx9=>((ixN x2.1.At x4.A).bind λx10=>(((x2.1.At)[x10]?).bind λx11=>((sub x9 x11 ((x9).length:Int)).bind λx12=>(if(((x12).length:Int)==0)=true then(some ((⟨x2.1.At,(List.map Prod.snd x2.2),x2.1.Memory,x2.1.Choices,x2.1.Out⟩:State),false))else((idx x12 0).bind λx14=>((ixN x2.1.At x4.A).bind λx15=>(((x2.1.At)[x15]?).bind λx16=>((ixN x2.1.At x4.A).bind λx17=>(((x2.1.At)[x17]?).bind λx18=>(lr p0 x2 p3 x4 x14.Key x14.Val x14.Dep (List.set x2.1.At x17 (IntKind.i64.wrap (x16+1))) x2.2)))))))))))else((idx x4.In p3.Lane).bind λx20=>((ixN x2.2 x20).bind λx23=>((atc x2.2 x23).bind λx24=>(if(((x24).length:Int)==0)=true then(some ((⟨x2.1.At,(List.map Prod.snd x2.2),x2.1.Memory,x2.1.Choices,x2.1.Out⟩:State),false))else((idx x24 0).bind λx25=>((sub x24 1 ((x24).length:Int)).bind λx26=>(lr p0 x2 p3 x4 x25.Key x25.Val x25.Dep x2.1.At (fzd (fzd (fzd x2.2 x23 x24) x23 x24) x23 x26)))))))))))
def lu(p0:Net)(p1:U (U Item))(s1:Int)(p2:State)(z5 s6:Int)(s7:U Move):Qbm ((Int×(U Move))⊕((Int×(U Move))⊕(U Move))):=
 (if(decide (s6<z5))=true then((ka p0 p1 p2 (⟨s1,s6⟩:Move)).bind λx9=>(if x9.2=true then((app s7 [(⟨s1,s6⟩:Move)]).bind λx10=>(some (.inl (IntKind.i64.wrap (s6+1),x10))))else(some (.inl (IntKind.i64.wrap (s6+1),s7)))))else(Option.map Sum.inr (some (.inl (IntKind.i64.wrap (s1+1),s7)))))
def o7(p0:Net)(p1:U (U Item))(s1:Int)(p2:State)(s2:U Move)(z5:Int):Qbm ((Int×(U Move))⊕(U Move)):=
 (iter (λbl:Int×(U Move)=>lu p0 p1 s1 p2 z5 bl.1 bl.2) (0,s2))
def mV(p0:Net)(p1:U (U Item))(p2:State)(s1:Int)(s2:U Move):Qbm ((Int×(U Move))⊕(U Move)):=
 (if(decide (s1<((p0.Nodes).length:Int)))=true then((idx p0.Nodes s1).bind λx4=>(if(x4.Kind==6)=true then(o7 p0 p1 s1 p2 s2 ((x4.In).length:Int))else(o7 p0 p1 s1 p2 s2 1)))else(Option.map Sum.inr (some s2)))
def pj(p0:Net)(p1:U (U Item))(p2:State):Qbm (U Move):=
 (iter (λcr:Int×(U Move)=>mV p0 p1 p2 cr.1 cr.2) (0,[]))
def hJ(p0:Int):Qbm (Shop×Int):=
 (some ((⟨(⟨[],0,0⟩:Net),[],(⟨[],[],[],[],[]⟩:State),(⟨[],[]⟩:Disk),0,0,0,0,0,[],false⟩:Shop),p0))
def sB(p0 p1:Int):Qbm Int:=
 ((rem p0 p1).bind λx2=>(if(decide (x2<0))=true then(some (IntKind.i64.wrap (x2+p1)))else(some x2)))
def rv(p0:Int):Qbm (U Item):=
 (if(decide (p0<0))=true then(none)else(if(decide ((IntKind.i64.wrap (p0- (IntKind.i64.wrap (0- 0))))> 0))=true then((appz ([]:U Item) (IntKind.i64.wrap (p0- (IntKind.i64.wrap (0- 0)))) (⟨0,0,0⟩:Item)).bind λx1=>((sub x1 0 0).bind λx2=>(some x2)))else(some [])))
def j5(p0:U (U Item))(s7:Int)(s8:U Item):Qbm ((Int×(U Item))⊕(U Item)):=
 (if(decide (s7<((p0).length:Int)))=true then((idx p0 s7).bind λx10=>((app s8 x10).bind λx11=>(some (.inl (IntKind.i64.wrap (s7+1),x11)))))else(Option.map Sum.inr (some s8)))
def j4(p0:U (U Item))(s1 s2:Int):Qbm ((Int×Int)⊕(U Item)):=
 (if(decide (s2<((p0).length:Int)))=true then((idx p0 s2).bind λx4=>(if(decide ((IntKind.i64.wrap (s1+((x4).length:Int)))<0))=true then(none)else(some (.inl (IntKind.i64.wrap (s1+((x4).length:Int)),IntKind.i64.wrap (s2+1))))))else(Option.map Sum.inr ((rv s1).bind λx6=>(iter (λbp:Int×(U Item)=>j5 p0 bp.1 bp.2) (0,x6)))))
def rM(p0:U (U Item)):Qbm (U Item):=
 (iter (λam:Int×Int=>j4 p0 am.1 am.2) (0,0))
def rp(p0:Net)(p1:U Choice)(s3:Int):Qbm (Int⊕Int):=
 (if(decide (s3<((p1).length:Int)))=true then((idx p1 s3).bind λx5=>(Option.bind (if(decide (x5.Node<0))=true then(some true)else(if(decide (x5.Node>=((p0.Nodes).length:Int)))=true then(some true)else((idx p0.Nodes x5.Node).bind λx6=>(some (x6.Kind !=6))))) λc7=>(if c7=true then(Option.map Sum.inr (some 5))else(Option.bind (if(decide (x5.Lane<0))=true then(some true)else((idx p0.Nodes x5.Node).bind λx8=>(some (decide (x5.Lane>=((x8.In).length:Int)))))) λc9=>(if c9=true then(Option.map Sum.inr (some 3))else(some (.inl (IntKind.i64.wrap (s3+1)))))))))else(Option.map Sum.inr (some 0)))
def rA(p0:Net)(p1:U Choice):Qbm Int:=
 ((o9 p0).bind λx2=>(if(x2.2 !=0)=true then(some x2.2)else(if(decide (((p1).length:Int)> 500))=true then(some 2)else(iter (λcB:Int=>rp p0 p1 cB) 0))))
def ru(p0:Int):Qbm (U Choice):=
 (if(decide (p0<0))=true then(none)else(if(decide ((IntKind.i64.wrap (p0- (IntKind.i64.wrap (0- 0))))> 0))=true then((appz ([]:U Choice) (IntKind.i64.wrap (p0- (IntKind.i64.wrap (0- 0)))) (⟨0,0⟩:Choice)).bind λx1=>((sub x1 0 0).bind λx2=>(some x2)))else(some [])))
def jX(p0:U (U Choice))(s7:Int)(s8:U Choice):Qbm ((Int×(U Choice))⊕(U Choice)):=
 (if(decide (s7<((p0).length:Int)))=true then((idx p0 s7).bind λx10=>((app s8 x10).bind λx11=>(some (.inl (IntKind.i64.wrap (s7+1),x11)))))else(Option.map Sum.inr (some s8)))
def jZ(p0:U (U Choice))(s1 s2:Int):Qbm ((Int×Int)⊕(U Choice)):=
 (if(decide (s2<((p0).length:Int)))=true then((idx p0 s2).bind λx4=>(if(decide ((IntKind.i64.wrap (s1+((x4).length:Int)))<0))=true then(none)else(some (.inl (IntKind.i64.wrap (s1+((x4).length:Int)),IntKind.i64.wrap (s2+1))))))else(Option.map Sum.inr ((ru s1).bind λx6=>(iter (λbp:Int×(U Choice)=>jX p0 bp.1 bp.2) (0,x6)))))
def rB(p0:U (U Choice)):Qbm (U Choice):=
 (iter (λam:Int×Int=>jZ p0 am.1 am.2) (0,0))
def mK(p0:Net)(p1:U (U Item))(s3:U Int)(s4:U (U Item))(s5:U Memory)(s6:U Choice)(s7:U Item)(x11:Choice)(x13:U Move)(s14 s15:Int):Qbm ((Int×Int)⊕(((U Int)×(U (U Item))×(U Memory)×(U Choice)×(U Item))⊕(State×Int))):=
 (if(decide (s15>=0))=true then((ixN x13 s15).bind λx18=>(((x13)[x18]?).bind λx19=>((idx p0.Nodes x19.Node).bind λx20=>(if((x20.Kind !=6)||((x19.Node==x11.Node)&&x19.Lane==x11.Lane))=true then(some (.inl (s15,IntKind.i64.wrap (s15- 1))))else(some (.inl (s14,IntKind.i64.wrap (s15- 1))))))))else(Option.map Sum.inr (if(decide (s14<0))=true then(Option.map Sum.inr (some ((⟨[],[],[],[],[]⟩:State),11)))else((ixN x13 s14).bind λx22=>(((x13)[x22]?).bind λx23=>((ka p0 p1 (⟨s3,s4,s5,s6,s7⟩:State) x23).bind λx24=>(some (.inl (x24.1.At,x24.1.Rings,x24.1.Memory,x24.1.Choices,x24.1.Out)))))))))
def ll(p0:Net)(p1:U (U Item))(x2:U Choice)(s3:U Int)(s4:U (U Item))(s5:U Memory)(s6:U Choice)(s7:U Item):Qbm (((U Int)×(U (U Item))×(U Memory)×(U Choice)×(U Item))⊕(State×Int)):=
 (if(decide (((s6).length:Int)<((x2).length:Int)))=true then((ixN x2 ((s6).length:Int)).bind λx10=>(((x2)[x10]?).bind λx11=>((pj p0 p1 (⟨s3,s4,s5,s6,s7⟩:State)).bind λx13=>(iter (λiY:Int×Int=>mK p0 p1 s3 s4 s5 s6 s7 x11 x13 iY.1 iY.2) ((-1),IntKind.i64.wrap (((x13).length:Int)- 1))))))else(Option.map Sum.inr (some ((⟨s3,s4,s5,s6,s7⟩:State),0))))
def o8(p0:Net)(p1:U (U Item))(p2:State)(p3:U Choice):Qbm (State×Int):=
 (if(decide ((IntKind.i64.wrap (((p2.Choices).length:Int)+((p3).length:Int)))> 500))=true then(some ((⟨[],[],[],[],[]⟩:State),2))else((rB ([p2.Choices,p3]:U (U Choice))).bind λx2=>(iter (λbl:(U Int)×(U (U Item))×(U Memory)×(U Choice)×(U Item)=>ll p0 p1 x2 bl.1 bl.2.1 bl.2.2.1 bl.2.2.2.1 bl.2.2.2.2) (p2.At,p2.Rings,p2.Memory,p2.Choices,p2.Out))))
def mY(p0:Shop)(s47:Int)(x60:(U Choice)×Int×Int)(z65:Int)(z66:U Int)(z67:U (U Item))(z68:U Memory)(z69:U Choice)(z70:U Item):Qbm (Shop×Int):=
 (if(z65 !=0)=true then((hJ z65).bind λx72=>(some (x72.1,x72.2)))else(some ((⟨p0.N,p0.Items,(⟨z66,z67,z68,z69,z70⟩:State),p0.D,((z69).length:Int),((z69).length:Int),s47,p0.Laid,x60.2.1,p0.Told,false⟩:Shop),0)))
def pc(p0:Shop)(s47:Int)(s49:U Int)(s50:U (U Item))(s51:U Memory)(s52:U Choice)(s53:U Item)(x60:(U Choice)×Int×Int)(z62:Int):Qbm (Shop×Int):=
 (if(z62==0)=true then((o8 p0.N p0.Items (⟨s49,s50,s51,s52,s53⟩:State) x60.1).bind λx64=>(mY p0 s47 x60 x64.2 x64.1.At x64.1.Rings x64.1.Memory x64.1.Choices x64.1.Out))else(mY p0 s47 x60 z62 s49 s50 s51 s52 s53))
def lv(p0:Shop)(s47 s48:Int)(s49:U Int)(s50:U (U Item))(s51:U Memory)(s52:U Choice)(s53:U Item):Qbm ((Int×Int×(U Int)×(U (U Item))×(U Memory)×(U Choice)×(U Item))⊕(Shop×Int)):=
 (if(decide (s48<2))=true then((nQ p0.D s48).bind λx55=>(if((x55.2.2 !=0)||decide (x55.2.1<=s47))=true then(some (.inl (s47,IntKind.i64.wrap (s48+1),s49,s50,s51,s52,s53)))else((gR p0.N p0.Items x55.1).bind λx58=>(if(x58.2==0)=true then(some (.inl (x55.2.1,IntKind.i64.wrap (s48+1),x58.1.At,x58.1.Rings,x58.1.Memory,x58.1.Choices,x58.1.Out)))else(some (.inl (s47,IntKind.i64.wrap (s48+1),s49,s50,s51,s52,s53)))))))else(Option.map Sum.inr ((nP p0.D s47).bind λx60=>(if(x60.2.2==0)=true then((rA p0.N x60.1).bind λx61=>(pc p0 s47 s49 s50 s51 s52 s53 x60 x61))else(pc p0 s47 s49 s50 s51 s52 s53 x60 x60.2.2)))))
def pt(p0:Shop)(p1:Happening):Qbm (Shop×Int):=
 (if((decide (p1.Kind<1))||decide (p1.Kind> 7))=true then(some ((⟨(⟨[],0,0⟩:Net),[],(⟨[],[],[],[],[]⟩:State),(⟨[],[]⟩:Disk),0,0,0,0,0,[],false⟩:Shop),5))else(if(!(p0.Down==(p1.Kind==6)))=true then(some ((⟨(⟨[],0,0⟩:Net),[],(⟨[],[],[],[],[]⟩:State),(⟨[],[]⟩:Disk),0,0,0,0,0,[],false⟩:Shop),13))else(if(p1.Kind==1)=true then((pj p0.N p0.Items p0.S).bind λx3=>(if(((x3).length:Int)==0)=true then((hJ (10:Int)).bind λx5=>(some (x5.1,x5.2)))else((sB p1.N ((x3).length:Int)).bind λx6=>((ixN x3 x6).bind λx7=>(((x3)[x7]?).bind λx8=>((ka p0.N p0.Items p0.S x8).bind λx9=>(some ((⟨p0.N,p0.Items,x9.1,p0.D,p0.Logged,p0.Safe,p0.Epoch,p0.Laid,p0.Next,p0.Told,p0.Down⟩:Shop),0))))))))else(if(p1.Kind==2)=true then(if(p0.Laid !=(-1))=true then((hJ (10:Int)).bind λx11=>(some (x11.1,x11.2)))else((sub p0.S.Choices p0.Logged ((p0.S.Choices).length:Int)).bind λx14=>((nI p0.D p0.Epoch p0.Next x14).bind λx15=>(if(x15.2.2 !=0)=true then((hJ x15.2.2).bind λx17=>(some (x17.1,x17.2)))else(some ((⟨p0.N,p0.Items,p0.S,x15.1,((p0.S.Choices).length:Int),p0.Safe,p0.Epoch,p0.Laid,x15.2.1,p0.Told,p0.Down⟩:Shop),0))))))else(if(p1.Kind==7)=true then(if(p0.Laid !=(-1))=true then((hJ (10:Int)).bind λx19=>(some (x19.1,x19.2)))else(if(p0.Epoch==200)=true then((hJ (8:Int)).bind λx21=>(some (x21.1,x21.2)))else((iA p0.N p0.Items p0.S).bind λx23=>(if(x23.2 !=0)=true then((hJ x23.2).bind λx25=>(some (x25.1,x25.2)))else((rem (IntKind.i64.wrap (p0.Epoch+1)) 2).bind λx28=>((nN p0.D x28 (IntKind.i64.wrap (p0.Epoch+1)) x23.1).bind λx29=>(if(x29.2 !=0)=true then((hJ x29.2).bind λx31=>(some (x31.1,x31.2)))else(some ((⟨p0.N,p0.Items,p0.S,x29.1,p0.Logged,p0.Safe,p0.Epoch,((p0.S.Choices).length:Int),p0.Next,p0.Told,p0.Down⟩:Shop),0)))))))))else(if(p1.Kind==3)=true then((nH p0.D).bind λx33=>(if(p0.Laid !=(-1))=true then(some ((⟨p0.N,p0.Items,p0.S,x33.1,p0.Laid,p0.Laid,IntKind.i64.wrap (p0.Epoch+1),(-1),0,p0.Told,p0.Down⟩:Shop),0))else(some ((⟨p0.N,p0.Items,p0.S,x33.1,p0.Logged,p0.Logged,p0.Epoch,p0.Laid,p0.Next,p0.Told,p0.Down⟩:Shop),0))))else(if(p1.Kind==4)=true then((pE p0.Told p0.S.Out p0.Safe).bind λx35=>(if(x35.2 !=0)=true then((hJ x35.2).bind λx37=>(some (x37.1,x37.2)))else((rM ([p0.Told,x35.1]:U (U Item))).bind λx38=>(some ((⟨p0.N,p0.Items,p0.S,p0.D,p0.Logged,p0.Safe,p0.Epoch,p0.Laid,p0.Next,x38,p0.Down⟩:Shop),0)))))else(if(p1.Kind==5)=true then((gK p0.D p1.N).bind λx40=>(if(x40.2 !=0)=true then((hJ x40.2).bind λx42=>(some (x42.1,x42.2)))else((jk p0.N p0.Items).bind λx44=>(some ((⟨x44.N,x44.Items,x44.S,x40.1,x44.Logged,x44.Safe,x44.Epoch,x44.Laid,x44.Next,p0.Told,true⟩:Shop),0)))))else(if(p1.Kind==6)=true then((pk p0.N p0.Items).bind λx46=>(iter (λdz:Int×Int×(U Int)×(U (U Item))×(U Memory)×(U Choice)×(U Item)=>lv p0 dz.1 dz.2.1 dz.2.2.1 dz.2.2.2.1 dz.2.2.2.2.1 dz.2.2.2.2.2.1 dz.2.2.2.2.2.2) (0,0,x46.At,x46.Rings,x46.Memory,x46.Choices,x46.Out)))else(some (p0,0)))))))))))
def uR(p0 p1:U Int)(s1:Int):Qbm (Int⊕Bool):=
 (if(decide (s1<((p0).length:Int)))=true then((idx p0 s1).bind λx4=>((idx p1 s1).bind λx5=>(if(x4 !=x5)=true then(Option.map Sum.inr (some false))else(some (.inl (IntKind.i64.wrap (s1+1)))))))else(Option.map Sum.inr (some true)))
def rJ(p0 p1:U Int):Qbm Bool:=
 (if(((p0).length:Int)!=((p1).length:Int))=true then(some false)else(iter (λaQ:Int=>uR p0 p1 aQ) 0))
def ln(p2:U Happening)(x4:Shop×(U Int)×Int)(s19:Int)(s20:U Node)(s21 s22:Int)(s23:U (U Item))(s24:U Int)(s25:U (U Item))(s26:U Memory)(s27:U Choice)(s28:U Item)(s29:U (U UInt8))(s30:U Write)(s31 s32 s33 s34 s35:Int)(s36:U Item)(s37:Bool)(s38:U Int):Qbm ((Int×(U Node)×Int×Int×(U (U Item))×(U Int)×(U (U Item))×(U Memory)×(U Choice)×(U Item)×(U (U UInt8))×(U Write)×Int×Int×Int×Int×Int×(U Item)×Bool×(U Int))⊕Bool):=
 (if(decide (s19<((p2).length:Int)))=true then((idx p2 s19).bind λx40=>((pt (⟨(⟨s20,s21,s22⟩:Net),s23,(⟨s24,s25,s26,s27,s28⟩:State),(⟨s29,s30⟩:Disk),s31,s32,s33,s34,s35,s36,s37⟩:Shop) x40).bind λx42=>(if(x42.2==0)=true then((app s38 [x42.2]).bind λx43=>(some (.inl (IntKind.i64.wrap (s19+1),x42.1.N.Nodes,x42.1.N.Rings,x42.1.N.Room,x42.1.Items,x42.1.S.At,x42.1.S.Rings,x42.1.S.Memory,x42.1.S.Choices,x42.1.S.Out,x42.1.D.Sectors,x42.1.D.Wait,x42.1.Logged,x42.1.Safe,x42.1.Epoch,x42.1.Laid,x42.1.Next,x42.1.Told,x42.1.Down,x43))))else((app s38 [x42.2]).bind λx44=>(some (.inl (IntKind.i64.wrap (s19+1),s20,s21,s22,s23,s24,s25,s26,s27,s28,s29,s30,s31,s32,s33,s34,s35,s36,s37,x44)))))))else(Option.map Sum.inr (Option.bind (if(x4.2.2==0)=true then((rJ x4.2.1 s38).bind λx45=>(if x45=true then((g9 x4.1 (⟨(⟨s20,s21,s22⟩:Net),s23,(⟨s24,s25,s26,s27,s28⟩:State),(⟨s29,s30⟩:Disk),s31,s32,s33,s34,s35,s36,s37⟩:Shop)).bind λx46=>(if x46=true then((pI x4.1).bind λx47=>(some (x47==0)))else(some false)))else(some false)))else(some false)) λc48=>(some c48))))
def lp(p0:Net)(p1:U (U Item))(p2:U Happening)(x4:Shop×(U Int)×Int)(z14:Int):Qbm Bool:=
 (if(z14 !=0)=true then(Option.bind (if(x4.2.2==z14)=true then((pg x4.1).bind λx15=>(if x15=true then(some (((x4.2.1).length:Int)==0))else(some false)))else(some false)) λc16=>(some c16))else((jk p0 p1).bind λx18=>(iter (λaZ:Int×(U Node)×Int×Int×(U (U Item))×(U Int)×(U (U Item))×(U Memory)×(U Choice)×(U Item)×(U (U UInt8))×(U Write)×Int×Int×Int×Int×Int×(U Item)×Bool×(U Int)=>ln p2 x4 aZ.1 aZ.2.1 aZ.2.2.1 aZ.2.2.2.1 aZ.2.2.2.2.1 aZ.2.2.2.2.2.1 aZ.2.2.2.2.2.2.1 aZ.2.2.2.2.2.2.2.1 aZ.2.2.2.2.2.2.2.2.1 aZ.2.2.2.2.2.2.2.2.2.1 aZ.2.2.2.2.2.2.2.2.2.2.1 aZ.2.2.2.2.2.2.2.2.2.2.2.1 aZ.2.2.2.2.2.2.2.2.2.2.2.2.1 aZ.2.2.2.2.2.2.2.2.2.2.2.2.2.1 aZ.2.2.2.2.2.2.2.2.2.2.2.2.2.2.1 aZ.2.2.2.2.2.2.2.2.2.2.2.2.2.2.2.1 aZ.2.2.2.2.2.2.2.2.2.2.2.2.2.2.2.2.1 aZ.2.2.2.2.2.2.2.2.2.2.2.2.2.2.2.2.2.1 aZ.2.2.2.2.2.2.2.2.2.2.2.2.2.2.2.2.2.2.1 aZ.2.2.2.2.2.2.2.2.2.2.2.2.2.2.2.2.2.2.2) (0,x18.N.Nodes,x18.N.Rings,x18.N.Room,x18.Items,x18.S.At,x18.S.Rings,x18.S.Memory,x18.S.Choices,x18.S.Out,x18.D.Sectors,x18.D.Wait,x18.Logged,x18.Safe,x18.Epoch,x18.Laid,x18.Next,x18.Told,x18.Down,[]))))
def u6(p0:Net)(p1:U (U Item))(p2:U Happening):Qbm Bool:=
 ((lU p0 p1).bind λx2=>((jw p0 p1 p2).bind λx4=>((rx p0 p1).bind λx6=>(rY.bind λx7=>(Option.bind (if(!x7)=true then(some true)else(if(x2.2 !=x6)=true then(some true)else(if(x6 !=0)=true then((pg x2.1).bind λx8=>(if(!x8)=true then(some true)else(if(x6==0)=true then((jk p0 p1).bind λx9=>((g9 x2.1 x9).bind λx10=>(some (!x10))))else(some false))))else(if(x6==0)=true then((jk p0 p1).bind λx11=>((g9 x2.1 x11).bind λx12=>(some (!x12))))else(some false))))) λc13=>(if c13=true then(some false)else(if((x6==0)&&decide (((p2).length:Int)> 1200))=true then(lp p0 p1 p2 x4 2)else(lp p0 p1 p2 x4 x6))))))))
end
section
open Go.RowKit
set_option maxRecDepth 100000
def tyT:TT:=.n 54 (.n 27 (.n 12 (.n 8 (.n 5 (.n 4 (.l 3 (.it .i64)) (.l 4 (.bo))) (.n 7 (.l 5 (.it .u8)) (.l 7 (.ag [.int .i64 0,.int .i64 0,.bool false,.int .u8 0] 4 [(0,1,2),(1,1,3),(2,1,4),(3,1,6)])))) (.n 10 (.n 9 (.l 8 (.ag [.int .i64 0,.int .i64 0,.bool false,.int .u8 0] 4 [(0,1,2),(1,1,3),(2,1,4),(3,1,6)])) (.l 9 (.str))) (.n 11 (.l 10 (.str)) (.l 11 (.str))))) (.n 22 (.n 16 (.n 15 (.l 12 (.it .u64)) (.l 15 (.sc (.nilp)))) (.n 18 (.l 16 (.sc (.nilp))) (.l 18 (.ag [.nilp] 1 [(0,1,17)])))) (.n 24 (.n 23 (.l 22 (.sl 90 4)) (.l 23 (.ag [.nils,.int .i64 0,.int .i64 0] 3 [(0,1,22),(1,1,3),(2,1,3)]))) (.n 25 (.l 24 (.ag [.nils,.int .i64 0,.int .i64 0] 3 [(0,1,22),(1,1,3),(2,1,3)])) (.l 25 (.sl 30 1)))))) (.n 36 (.n 32 (.n 29 (.n 28 (.l 27 (.sl 3 1)) (.l 28 (.sl 84 3))) (.n 30 (.l 29 (.sl 50 2)) (.l 30 (.sl 75 3)))) (.n 34 (.n 33 (.l 32 (.ag [.nils,.nils,.nils,.nils,.nils] 5 [(0,1,27),(1,1,25),(2,1,28),(3,1,29),(4,1,30)])) (.l 33 (.sl 9 1))) (.n 35 (.l 34 (.sl 132 2)) (.l 35 (.ag [.nils,.nils] 2 [(0,1,33),(1,1,34)]))))) (.n 44 (.n 39 (.n 38 (.l 36 (.ag [.nils,.nils] 2 [(0,1,33),(1,1,34)])) (.l 38 (.ag [.nils,.int .i64 0,.int .i64 0,.nils,.nils,.nils,.nils,.nils,.nils,.nils,.nils,.int .i64 0,.int .i64 0,.int .i64 0,.int .i64 0,.int .i64 0,.nils,.bool false] 18 [(0,3,24),(3,1,25),(4,5,32),(9,2,36),(11,1,3),(12,1,3),(13,1,3),(14,1,3),(15,1,3),(16,1,30),(17,1,4)]))) (.n 42 (.l 39 (.it .i64)) (.l 42 (.sc (.nilf))))) (.n 50 (.n 45 (.l 44 (.ag [.int .i64 0,.int .i64 0] 2 [(0,1,3),(1,1,3)])) (.l 45 (.sc (.nilf)))) (.n 52 (.l 50 (.ag [.int .i64 0,.int .i64 0] 2 [(0,1,3),(1,1,3)])) (.l 52 (.sl 39 1))))))) (.n 132 (.n 76 (.n 68 (.n 66 (.n 64 (.l 54 (.sc (.nilf))) (.l 64 (.sc (.nilf)))) (.n 67 (.l 66 (.sc (.nilf))) (.l 67 (.sc (.nilf))))) (.n 74 (.n 69 (.l 68 (.sc (.nilf))) (.l 69 (.sc (.any)))) (.n 75 (.l 74 (.ag [.int .i64 0,.int .i64 0,.int .i64 0] 3 [(0,1,3),(1,1,3),(2,1,3)])) (.l 75 (.ag [.int .i64 0,.int .i64 0,.int .i64 0] 3 [(0,1,3),(1,1,3),(2,1,3)]))))) (.n 82 (.n 78 (.n 77 (.l 76 (.sc (.nilf))) (.l 77 (.sc (.nilf)))) (.n 79 (.l 78 (.sc (.nilf))) (.l 79 (.sc (.nilf))))) (.n 90 (.n 84 (.l 82 (.sl 139 2)) (.l 84 (.ag [.int .i64 0,.nils,.int .i64 0] 3 [(0,1,3),(1,1,82),(2,1,3)]))) (.n 97 (.l 90 (.ag [.int .i64 0,.int .i64 0,.nils,.nils] 4 [(0,1,3),(1,1,3),(2,1,27),(3,1,27)])) (.l 97 (.ag [.int .i64 0,.int .i64 0] 2 [(0,1,3),(1,1,3)])))))) (.n 177 (.n 157 (.n 140 (.n 139 (.l 132 (.ag [.int .i64 0,.str []] 2 [(0,1,3),(1,1,9)])) (.l 139 (.ag [.int .i64 0,.int .i64 0] 2 [(0,1,3),(1,1,3)]))) (.n 142 (.l 140 (.sc (.nilf))) (.l 142 (.ag [.nilf,.nilf] 2 [(0,1,140),(1,1,140)])))) (.n 173 (.n 159 (.l 157 (.ag [.nilp,.nils] 2 [(0,1,155),(1,1,152)])) (.l 159 (.ag [.nilp,.nils] 2 [(0,2,157)]))) (.n 175 (.l 173 (.ag [] 0 [])) (.l 175 (.sc (.nilp)))))) (.n 241 (.n 212 (.n 198 (.l 177 (.ag [.str []] 1 [(0,1,9)])) (.l 198 (.sl 4 1))) (.n 213 (.l 212 (.it .u64)) (.l 213 (.it .u64)))) (.n 269 (.n 245 (.l 241 (.sl 245 2)) (.l 245 (.ag [.int .i64 0,.int .i64 0] 2 [(0,1,3),(1,1,3)]))) (.n 270 (.l 269 (.sc (.nilf))) (.l 270 (.ar [.nilf,.nilf,.nilf,.nilf] 4)))))))
theorem e7:tyT.Ok Qbl:=TY (by kernel_rfl)
section
variable {N n:Nat} {aw aw':List Ob} {l:List (Nat×AV)} {ops:Array Oper} {os:List Oper} {K:List AV→List Ob→Prop} {k:Nat} {li:Array Bool}
theorem go(m c:Nat)(h:wR tyT n m os l aw c λos l aw=>RS Qbl N ops os K (mkA n l) aw)(hc:aw.length=c:=by rfl):RS Qbl N ops os K (mkA n l) aw:=RS.go e7 hc h
theorem rq(is:U Nat)(k':Nat)(h:wQ tyT n ops.toList is l aw λl=>RA Qbl N ops k' (lisQ li is) K (mkA n l) aw)(hk:k=k'+ is.length:=by rfl)(hs:Region.noSelect ops=true:=by decide+kernel)(ho:okQ ops li is=true:=by decide+kernel):RA Qbl N ops k li K (mkA n l) aw:=T5 e7 hs hk ho h
theorem og{i:Nat}(c:Nat)(h:cw ops.toList i λo=>o.guard=none/\wE tyT n l aw c o.op λr aw c=>(match o.dst with
 |some t=>K (mkA n ((t,r)::l)) aw
 |none=>K (mkA n l) aw))(hc:aw.length=c:=by rfl):RO Qbl N ops i K (mkA n l) aw:=RO.g e7 hc h
variable {o:Oper} {Q:Exit→List AV→List Ob→Prop} {rs:List ResultVar} {V:AV} {obs:List Ob} {M:Nat}
variable {j t:Nat}{want b:Bool}
theorem yg (c:Nat)(hbw:b=want)(h:wE tyT n l aw c o.op λr aw _=>stD l o.dst r λl=>RS Qbl N ops os K (mkA n l) aw)(hg:o.guard=some (j,want):=by rfl)(hj:(ops[j]?).bind (·.dst)=some t:=by rfl)(hb:evA n l (.tmp t)=.bool b:=by rfl)(hc:aw.length=c:=by rfl):RS Qbl N ops (o::os) K (mkA n l) aw:=yg' e7 c hbw h hg hj hb hc
theorem oy {i:Nat}(c:Nat)(hbw:b=want)(hi:ops[i]?=some o)(h:wE tyT n l aw c o.op λr aw _=>stD l o.dst r λl=>K (mkA n l) aw)(hg:o.guard=some (j,want):=by rfl)(hj:(ops[j]?).bind (·.dst)=some t:=by rfl)(hb:evA n l (.tmp t)=.bool b:=by rfl)(hc:aw.length=c:=by rfl):RO Qbl N ops i K (mkA n l) aw:=oy' e7 c hbw hi h hg hj hb hc
theorem ry (i:Nat)(hbw:b=want)(hi:ops[i]?=some o)(h:wV tyT n l aw o.op λr=>stD l o.dst r λl=>RA Qbl N ops k (li.setIfInBounds i true) K (mkA n l) aw)(hs:Region.noSelect ops=true:=by decide+kernel)(hf:Region.free .any ops li i=true:=by decide+kernel)(hr:(Region.ready .any ops li).contains i=true:=by decide+kernel)(hg:o.guard=some (j,want):=by rfl)(hj:(ops[j]?).bind (·.dst)=some t:=by rfl)(hb:evA n l (.tmp t)=.bool b:=by rfl)(hn:nV o.op=true:=by rfl):RA Qbl N ops (k+1) li K (mkA n l) aw:=ry' e7 i hbw hi h hs hf hr hg hj hb hn
theorem rL (D:U Nat)(i:Nat)(hi:ops[i]?=some o)(h:wV tyT n l aw o.op λr=>stD l o.dst r λl=>RA Qbl N ops k (li.setIfInBounds i true) K (mkA n l) aw)(hs:Region.noSelect ops=true:=by decide+kernel)(hf:RK.loadFree ops li D i=true:=by decide+kernel)(hr:(Region.ready .any ops li).contains i=true:=by decide+kernel)(hg:o.guard=none:=by rfl):RA Qbl N ops (k+1) li K (mkA n l) aw:=rL' e7 D i hi h hs hf hr hg
theorem tD [hq:RetI Q (λfr aw=>cv Qbl fr aw rs (Ret 0 (λr aw'=>r=V/\aw'=[]) aw))][hV:PureC V](h:resC tyT n l aw rs λvs=>jJ aw (dO vs) λv _=>v=V:=by rfl):T Qbl N .ret Q (mkA n l) aw:=U9 e7 h
theorem tO (nl:U (Nat×TypeId×Nat))(ρ:U Nat)(c:Nat)[hq:RetI Q (λfr aw=>cv Qbl fr aw rs (Ret M (λr aw'=>r=V/\aw'=obs) aw))][g:GoodA 3 V][g':GoodOs obs](h:resC tyT n l aw rs λvs=>nilVC nl vs aw c λvs aw=>fA (dO vs) λa=>mpA ρ 3 V a λb=>mpOs ρ aw ρ obs λbs es=>(b,bs)=(a,es):=by rfl)(hc:aw.length=c:=by rfl)(h1:ρ.Nodup:=by decide)(h2:∀k,k<M->ρ[k]?=some k:=by decide):T Qbl N .ret Q (mkA n l) aw:=U7 e7 nl ρ c h hc h1 h2
theorem tN (ρ:U Nat)[hq:RetI Q (λfr aw=>cv Qbl fr aw rs (Ret M (λr aw'=>r=V/\aw'=obs) aw))][g:GoodA 3 V][g':GoodOs obs](h:resC tyT n l aw rs λvs=>jJ aw (dO vs) λa aw=>mpA ρ 3 V a λb=>mpOs ρ aw ρ obs λbs es=>(b,bs)=(a,es):=by rfl)(h1:ρ.Nodup:=by decide)(h2:∀k,k<M->ρ[k]?=some k:=by decide):T Qbl N .ret Q (mkA n l) aw:=U8 e7 ρ h h1 h2
variable {fn:Func}
theorem eD(hr:fn.results.toList=rs:=by rfl)[hV:PureC V](h:resC tyT n l aw rs λvs=>jJ aw (dO vs) λv _=>v=V:=by rfl):retQ Qbl fn 0 (λr aw'=>r=V/\aw'=[]) .normal (mkA n l) aw:=by subst hr;exact rD_c e7 h
theorem eN(ρ:U Nat)(hr:fn.results.toList=rs:=by rfl)[g:GoodA 3 V][g':GoodOs obs](h:resC tyT n l aw rs λvs=>jJ aw (dO vs) λa aw=>mpA ρ 3 V a λb=>mpOs ρ aw ρ obs λbs es=>(b,bs)=(a,es):=by rfl)(h1:ρ.Nodup:=by decide)(h2:∀k,k<M->ρ[k]?=some k:=by decide):retQ Qbl fn M (λr aw'=>r=V/\aw'=obs) .normal (mkA n l) aw:=by subst hr;exact rN_c e7 ρ h h1 h2
variable {c:Code} {st:List Fr}
theorem X (f k:Nat)(h:gx false tyT Qbl N n Q f (.cd c) st l aw k)(hk:aw.length=k:=by rfl):T Qbl N c (qs Qbl N st Q) (mkA n l) aw:=jM e7 hk h
theorem Y (f k:Nat)(h:gx false tyT Qbl N n Q f (.op ops os) st l aw k)(hk:aw.length=k:=by rfl):RS Qbl N ops os (qs Qbl N st Q .normal) (mkA n l) aw:=jM e7 hk h
theorem Yp (f k:Nat)(h:gx true tyT Qbl N n Q f (.op ops os) st l aw k)(hk:aw.length=k:=by rfl):RS Qbl N ops os (qs Qbl N st Q .normal) (mkA n l) aw:=jM e7 hk h
theorem fT {f:FuncId}{args:U AV}{QF:AV->U Ob->Prop}{m:Nat}(N q:Nat)(hf:Qbl.funcs[f]?=some fn)(hm:fn.ntmps=m)(hb:fn.body=some c)(h:iniC 0 args λl=>gx false tyT Qbl N m (retQ Qbl fn N QF) q (.cd c) [] l aw N)(hN:aw.length=N:=by rfl)(hname:(fn.name== "runtime.NumGoroutine")=false:=by kernel_rfl)(hl:Nat.ble args.length m=true:=by rfl):ACalls Qbl f args aw QF:=fX e7 N q hf hm h hb hN hname hl
end
end
section
open Go.RowKit
set_option maxRecDepth 100000
set_option maxHeartbeats 4000000
set_option synthInstance.maxSize 100000
set_option synthInstance.maxHeartbeats 4000000
section
variable {p0:Net}{p1:Int}{r:Bool}{p2:U (U Item)}{p3:U Memory}{p4:U Choice}{p5:U Item}
theorem HL {p0:Int}{r:Int×Int}(h:xi p0 p1=some r):Fn Qbl 203 [.int .u64 p0,.int .u64 p1] (.tup [.int .u64 r.1,.int .u64 r.2]):=by
 unfold xi at h;refine fT 0 0 Tryz.func203 Tryz.ntmps203 J ?_;refine B h λx2 hx2 h=>(X 14 0 (sQ (jI J J hx2 (B h λx4 hx4 h=>(Y 11 0 (sQ (jI J J hx4 (B h λx6 hx6 h=>(Y 15 0 (sQ (jI J J hx6 (B h λx8 hx8 h=>?_))))))))))))
 refine Y 12 0 (sQ (jI J J hx8 (B h λx10 ba h=>(Y 19 0 (sQ (jI J J ba (Y 10 0 ?_)))))));cases h;exact tD
theorem H4 {p0:Int}{r:Int×Int}(h:vk p0 p1=some r):Fn Qbl 199 [.int .u64 p0,.int .u64 p1] (.tup [.int .u64 r.1,.int .u64 r.2]):=by
 unfold vk at h;refine fT 0 0 Tryz.func199 Tryz.ntmps199 J ?_;refine B h λx2 hx2 h=>(X 12 0 (sO (cF (HL hx2) ⟨J,(Y 13 0 ?_)⟩)))
 cases h;exact tD
theorem Hr {p0:U Ends}{r:U Ends}(h:rR p0 p1=some r):FnO Qbl 185 [sL br p0,iI p1] (.ref 0) [aR 245 2 br r]:=by
 unfold rR at h;refine fT 0 10 Tryz.func185 Tryz.ntmps185 J (Sv h J (λae h=>?_) (λae h=>?_))
 .cases h
 refine B h λx2 hx2 h=>(X 4 0 (sQ (ai SQ J (Y 3 0 (sO (cF (H4 hx2) ⟨J,(Y 7 0 (j1 [(0,sL br p0),(6,.int .u64 x2.2),(26,.bool ((decide (x2.1> 0))||decide (x2.2> 9223372036854775807)))] [] ?_ (λhK=>?_)))⟩))))))
 .refine Sv h J (λap h=>?_) (λap h=>?_)
  .cases h
  refine B h λx5 hx5 h=>(X 5 0 (sO (ee (en:=br) (zr:=(⟨0,0⟩:Ends)) SQ Tu J J hx5 J J (Y 6 1 (sO (Ku (en:=br) (xs:=x5) (ys:=p0) SQ (λ_=>J) J J J J (Y 4 1 (itr (λip:Int×(U Ends)=>mkA 48 [(7,.ref 0),(8,iI ip.1)]) (λip=>[aR 245 2 br ip.2]) h (wk [] [0] 1 J) (λip v_9 h Qs=>?_)))))))))
  obtain⟨s6,s7⟩:=ip;replace h:lf s6 s7=some v_9:=h;try dsimp only
  unfold lf at h;refine X 5 1 (sQ (cP (en:=br) SQ J J (Y 2 1 (Sv h J (λfb h=>?_) (λfb h=>?_)))))
  .refine B h λx8 hx8 h=>(B h λx9 hx9 h=>(B h λx10 ba h=>(B h λx11 bA h=>(X 2 1 (T.drawn mixed (k:=10) J ?_)))))
   apply Su 3 (bm 10 127);intro cE
   .refine rq [0,1,2,4,5] 5 (ra2 3 6 ?_ ?_)
    .exact oO J (lN (en:=br) (xs:=s7) SQ J J J J hx8 (ra1 6 (oO J (lN (en:=br) (xs:=s7) SQ J J J J hx9 (raE cE)))))
    .exact oO J (lN (en:=br) (xs:=s7) SQ J J J J hx9 (ra1 3 (oO J (lN (en:=br) (xs:=s7) SQ J J J J hx8 (raT cE)))))
   exact ra1 7 (oO J (Ks (en:=br) (xs:=s7) SQ (λ_=>J) J J J ba bA J (rq [8,9] 0 (RA.done (by decide+kernel) (lk h (wk [] [0] 1 J))))))
  refine X 1 1 ?_;replace h:=mi h Qs;refine X 5 1 ?_;cases h;exact tO [] [0] 1
 refine X 5 0 (gp 23 (λab=>?_) (λab=>?_))
 .refine Yp 4 0 ?_;rw[ab]at hK;exact sx hK
 refine Yp 4 0 ?_;rw[ab]at hK;exact sx hK
theorem IE {p0:Int}{r:Int×Int×Bool}(h:sY p0=some r):Fn Qbl 186 [iI p0] (.tup [iI r.1,iI r.2.1,.bool r.2.2]):=by
 unfold sY at h;refine fT 0 17 Tryz.func186 Tryz.ntmps186 J (Sv h J (λae h=>?_) (λae h=>?_))
 .refine X 6 0 ?_;cases h;exact tD
 refine jn (Z:=Bool) (λqL=>mkA 19 [(5,iI p0),(8,.bool qL)]) (λqL=>[]) (λqL=>nm p0 qL=some r) (λqL h=>?_) (λhK2=>?_)
 .revert h;revert qL;intro z1 h;replace h:nm p0 z1=some r:=h;try dsimp only
  unfold nm at h;refine Sv h J (λaI h=>?_) (λaI h=>?_)
  .refine X 6 0 ?_;cases h;exact tD
  refine jn (Z:=Bool) (λqM=>mkA 19 [(5,iI p0),(12,.bool qM)]) (λqM=>[]) (λqM=>pz p0 qM=some r) (λqM h=>?_) (λhK1=>?_)
  .revert h;revert qM;intro z2 h;replace h:pz p0 z2=some r:=h;try dsimp only
   unfold pz at h;refine Sv h J (λbi h=>?_) (λbi h=>?_)
   .refine X 6 0 ?_;cases h;exact tD
   refine X 5 0 (Sv h J (λbY h=>?_) (λbY h=>?_))
   .refine X 6 0 ?_;cases h;exact tD
   refine X 5 0 (Sv h J (λfb h=>?_) (λfb h=>?_))
   .refine X 6 0 ?_;cases h;exact tD
   refine X 7 0 ?_;cases h;exact tD
  refine X 6 0 (Sv h J (λot h=>?_) (λot h=>?_))
  .exact X 1 0 (wu (hK1 (p0==5) h) [] [] 0 J)
  exact X 4 0 (wu (hK1 (p0==7) h) [] [] 0 J)
 refine X 6 0 (Sv h J (λfY h=>?_) (λfY h=>?_))
 .exact X 1 0 (wu (hK2 (p0==2) h) [] [] 0 J)
 refine X 5 0 (Sv h J (λtU h=>?_) (λtU h=>?_))
 .exact X 1 0 (wu (hK2 (p0==3) h) [] [] 0 J)
 exact X 4 0 (wu (hK2 (p0==4) h) [] [] 0 J)
theorem BV {p0:Int}(h:pZ p0 p1=some r):Fn Qbl 187 [iI p0,iI p1] (.bool r):=by
 unfold pZ at h;refine fT 0 4 Tryz.func187 Tryz.ntmps187 J (j1 [(4,.bool ((p0==p1)||((decide (p1<0))&&decide (p0> 0))))] [] ?_ (λhK=>?_))
 .cases h;exact tD
 refine X 6 0 (gp 8 (λae=>?_) (λae=>?_))
 .refine Yp 9 0 ?_;rw[ae]at hK;exact sx hK
 refine Y 3 0 (gp 11 (λab=>?_) (λab=>?_))
 .refine Yp 6 0 ?_;rw[ae]at hK;rw[ab]at hK;exact sx hK
 refine Yp 6 0 ?_;rw[ae]at hK;rw[ab]at hK;exact sx hK
theorem Jw {r:(U Ends)×Int}(h:tm p0=some r):FnO Qbl 157 [.agg (aD p0)] (.tup [.ref 0,iI r.2]) [aR 245 2 br r.1]:=by
 unfold tm at h;refine fT 0 7 Tryz.func157 Tryz.ntmps157 J (j1 [(1,.ptr 0 0),(36,.bool ((decide (((p0.Nodes).length:Int)<1))||((decide (((p0.Nodes).length:Int)> 12))||((decide (p0.Rings<0))||decide (p0.Rings> 16)))))] [.box (aD p0)] ?_ (λhK=>?_))
 .refine Sv h J (λaC h=>?_) (λaC h=>?_)
  .refine X 5 1 ?_;cases h;exact tO [(0,245,2)] [1] 1
  refine X 2 1 (j1 [(1,.ptr 0 0),(44,.bool ((decide (p0.Room<1))||decide (p0.Room> 6)))] [.box (aD p0)] ?_ (λhK=>?_))
  .refine Sv h J (λaM h=>?_) (λaM h=>?_)
   .refine X 5 1 ?_;cases h;exact tO [(0,245,2)] [1] 1
   refine B h λx4 hx4 h=>(X 4 1 (sO (be (rows:=List.map br [(⟨(-1),(-1)⟩:Ends)]) (vs:=[.agg [iI (-1),iI (-1)]]) SQ Tu J J J J J J (Y 2 2 (sO (cO 2 (Hr hx4) ⟨J,(Y 11 3 (sQ (ai Sw J (Y 3 3 (itr (λjE:Int×Int×(U Ends)=>mkA 197 [(1,.ptr 0 0),(4,.ref 1),(5,iI jE.1),(51,sL ao p0.Nodes),(52,iI ((p0.Nodes).length:Int)),(53,iI jE.2.1)]) (λjE=>[.box (aD p0),aR 245 2 br jE.2.2]) h (wk [] [0,2] 3 J) (λjE v_124 h me=>?_))))))⟩))))))
   obtain⟨s5,s6,s7⟩:=jE;replace h:lI p0 s5 s6 s7=some v_124:=h;try dsimp only
   unfold lI at h;refine X 5 2 (Sv h J (λOF h=>?_) (λOF h=>?_))
   .refine B h λx9 hx9 h=>(X 6 2 (sQ (aB Sw (λ_=>J) J J hx9 (B h λx11 bA h=>(Y 9 2 (sO (cF (IE bA) ⟨J,(Y 14 3 (Sv h J (λOG h=>?_) (λOG h=>?_)))⟩)))))))
    .refine X 5 3 ?_;replace h:=mi h me;cases h;exact tO [(0,245,2)] [3] 3
    refine B h λx12 bB h=>(X 2 3 ?_)
    obtain⟨OH,hz,h⟩:=bind_some h;revert hz h;revert OH;intro c14 hz h;refine j1 [(1,.ptr 0 0),(4,.ref 1),(5,iI s5),(6,iI s6),(7,.ptr 2 0),(51,sL ao p0.Nodes),(52,iI ((p0.Nodes).length:Int)),(53,iI s6),(80,.bool c14)] [.box (aD p0),aR 245 2 br s7,.box (ao x9)] ?_ (λhK=>?_)
    .refine Sv h J (λOI h=>?_) (λOI h=>?_)
     .refine X 5 3 ?_;replace h:=mi h me;cases h;exact tO [(0,245,2)] [3] 3
     refine X 2 3 (j1 [(1,.ptr 0 0),(4,.ref 1),(5,iI s5),(6,iI s6),(7,.ptr 2 0),(51,sL ao p0.Nodes),(52,iI ((p0.Nodes).length:Int)),(53,iI s6),(118,.bool ((decide (x9.A<0))||(if(x9.Kind==1)=true then((decide (x9.A>=4))||(if(x9.Kind==2)=true then((decide (x9.A> 3))||((x9.Kind !=1)&&((x9.Kind !=2)&&x9.A !=0)))else((x9.Kind !=1)&&((x9.Kind !=2)&&x9.A !=0))))else(if(x9.Kind==2)=true then((decide (x9.A> 3))||((x9.Kind !=1)&&((x9.Kind !=2)&&x9.A !=0)))else((x9.Kind !=1)&&((x9.Kind !=2)&&x9.A !=0))))))] [.box (aD p0),aR 245 2 br s7,.box (ao x9)] ?_ (λhK=>?_))
     .refine Sv h J (λOJ h=>?_) (λOJ h=>?_)
      .refine X 5 3 ?_;replace h:=mi h me;cases h;exact tO [(0,245,2)] [3] 3
      refine X 1 3 (jn (Z:=Int) (λqy=>mkA 197 [(1,.ptr 0 0),(4,.ref 1),(5,iI qy),(6,iI s6),(7,.ptr 2 0),(51,sL ao p0.Nodes),(52,iI ((p0.Nodes).length:Int)),(53,iI s6)]) (λqy=>[.box (aD p0),aR 245 2 br s7,.box (ao x9)]) (λqy=>nz p0 s6 s7 x9 qy=some v_124) (λqy h=>?_) (λhK3=>?_))
      .revert h;revert qy;intro z15 h;replace h:nz p0 s6 s7 x9 z15=some v_124:=h;try dsimp only
       unfold nz at h;refine X 5 3 (sQ (ai Sx J (Y 3 3 (itr (λl8:Int×(U Ends)=>mkA 197 [(1,.ptr 0 0),(4,.ref 1),(5,iI z15),(6,iI s6),(7,.ptr 2 0),(51,sL ao p0.Nodes),(52,iI ((p0.Nodes).length:Int)),(53,iI s6),(125,sL aj x9.In),(126,iI ((x9.In).length:Int)),(127,iI l8.1)]) (λl8=>[.box (aD p0),aR 245 2 br l8.2,.box (ao x9)]) h (wk [] [0,1,2] 3 J) (λl8 v_160 h zm=>?_)))));obtain⟨s16,s17⟩:=l8;replace h:lF p0 s6 x9 z15 s16 s17=some v_160:=h;try dsimp only
       unfold lF at h;refine X 5 3 (Sv h J (λOK h=>?_) (λOK h=>?_))
       .refine B h λx19 cM h=>(X 5 3 (sQ (aB Sx (λ_=>J) J J cM (Y 4 3 (j1 [(1,.ptr 0 0),(4,.ref 1),(5,iI z15),(6,iI s6),(7,.ptr 2 0),(12,iI x19),(51,sL ao p0.Nodes),(52,iI ((p0.Nodes).length:Int)),(53,iI s6),(125,sL aj x9.In),(126,iI ((x9.In).length:Int)),(127,iI s16),(138,.bool ((decide (x19<0))||decide (x19>=p0.Rings)))] [.box (aD p0),aR 245 2 br s17,.box (ao x9)] ?_ (λhK=>?_))))))
        .refine Sv h J (λOL h=>?_) (λOL h=>?_)
         .refine X 5 3 ?_;replace h:=mi h zm;replace h:=mi h me;cases h;exact tO [(0,245,2)] [3] 3
         refine B h λx23 bO h=>(B h λx24 aS h=>(X 6 3 (sQ (aK (en:=br) SQ J J J bO (Y 1 3 (sO (aU (en:=br) (a:=x24) J J aS (aN S4 (c:=iI x24.dst) J (Y 2 3 (Sv h J (λOM h=>?_) (λOM h=>?_)))))))))))
         .refine X 5 3 ?_;replace h:=mi h zm;replace h:=mi h me;cases h;exact tO [(0,245,2)] [3] 3
         exact B h λx25 eJ h=>(B h λx26 dB h=>(X 5 3 (sQ (aK (en:=br) SQ J J J eJ (Y 1 3 (sO (eK (en:=br) (a:=x26) (a':=(⟨x26.src,s6⟩:Ends)) S0 Tl J (vs:=[iI s6]) J J J dB J J J (Y 5 3 (lk h (wk [] [0,1,2] 3 J))))))))))
        refine X 5 3 (gp 133 (λzn=>?_) (λzn=>?_))
        .refine Yp 6 3 ?_;rw[zn]at hK;exact sx hK
        refine Yp 6 3 ?_;rw[zn]at hK;exact sx hK
       refine X 1 3 ?_;replace h:=mi h zm;refine X 4 3 (sQ (ai Sx J (Y 3 3 (itr (λl7:Int×(U Ends)=>mkA 197 [(1,.ptr 0 0),(4,.ref 1),(5,iI z15),(6,iI s6),(51,sL ao p0.Nodes),(52,iI ((p0.Nodes).length:Int)),(53,iI s6),(152,sL aj x9.Out),(153,iI ((x9.Out).length:Int)),(154,iI l7.1)]) (λl7=>[.box (aD p0),aR 245 2 br l7.2]) h (wk [] [0,1] 3 J) (λl7 v_179 h zo=>?_)))));obtain⟨s27,s28⟩:=l7;replace h:lH p0 s6 x9 z15 s27 s28=some v_179:=h;try dsimp only
       unfold lH at h;refine X 5 2 (Sv h J (λON h=>?_) (λON h=>?_))
       .refine B h λx30 f8 h=>(X 5 2 (sQ (aB Sx (λ_=>J) J J f8 (Y 4 2 (j1 [(1,.ptr 0 0),(4,.ref 1),(5,iI z15),(6,iI s6),(14,iI x30),(51,sL ao p0.Nodes),(52,iI ((p0.Nodes).length:Int)),(53,iI s6),(152,sL aj x9.Out),(153,iI ((x9.Out).length:Int)),(154,iI s27),(165,.bool ((decide (x30<0))||decide (x30>=p0.Rings)))] [.box (aD p0),aR 245 2 br s28] ?_ (λhK=>?_))))))
        .refine Sv h J (λOO h=>?_) (λOO h=>?_)
         .refine X 5 2 ?_;replace h:=mi h zo;replace h:=mi h me;cases h;exact tO [(0,245,2)] [2] 2
         refine B h λx34 ue h=>(B h λx35 oB h=>(X 6 2 (sQ (aK (en:=br) SQ J J J ue (Y 1 2 (sO (aU (en:=br) (a:=x35) J J oB (aN S4 (c:=iI x35.src) J (Y 2 2 (Sv h J (λOQ h=>?_) (λOQ h=>?_)))))))))))
         .refine X 5 2 ?_;replace h:=mi h zo;replace h:=mi h me;cases h;exact tO [(0,245,2)] [2] 2
         exact B h λx36 uf h=>(B h λx37 oC h=>(X 5 2 (sQ (aK (en:=br) SQ J J J uf (Y 1 2 (sO (eK (en:=br) (a:=x37) (a':=(⟨s6,x37.dst⟩:Ends)) S0 Tl J (vs:=[iI s6]) J J J oC J J J (Y 5 2 (lk h (wk [] [0,1] 2 J))))))))))
        refine X 5 2 (gp 160 (λzp=>?_) (λzp=>?_))
        .refine Yp 6 2 ?_;rw[zp]at hK;exact sx hK
        refine Yp 6 2 ?_;rw[zp]at hK;exact sx hK
       refine X 1 2 ?_;replace h:=mi h zo;exact X 4 2 (lk h (wk [] [0,1] 2 J))
      refine X 7 3 (Sv h J (λOR h=>?_) (λOR h=>?_))
      .exact X 5 3 (wu (hK3 (IntKind.i64.wrap (s5+1)) h) [] [0,1,2] 3 J)
      exact X 1 3 (sx (hK3 s5 h))
     refine X 6 3 ?_;rcases bf (decide (x9.A<0))with dx|dx
     .exact gT 84 dx (Yp 35 3 (T.sub hK ⟨J,J,J,J,J,J,J,J,(congrArg AV.bool (by simp only[dx,bz,if_true,if_false,QI])).symm,tqz⟩))
     refine yg 3 dx (yg 3 dx (yg 3 dx (yg 3 dx ?_)));rcases bf (x9.Kind==1)with dM|dM
     .refine yg 3 dM (yg 3 dM (yg 3 dM (yQ dx (bg (v:=.bool (decide (x9.A>=4))) J dM J (sQ (aP (v:=.bool (decide (x9.A>=4))) J dx J (Y 1 3 ?_)))))));rcases bf (decide (x9.A>=4))with eV|eV
      .exact gT 94 eV (Yp 25 3 (T.sub hK ⟨J,J,J,J,J,J,J,J,(congrArg AV.bool (by simp only[dx,dM,eV,bz,if_true,if_false,QI])).symm,tqz⟩))
      refine yg 3 eV (yg 3 eV (yg 3 eV (yg 3 eV ?_)));rcases bf (x9.Kind==2)with fx|fx
      .refine yg 3 fx (yg 3 fx (yg 3 fx (yQ eV (bg (v:=.bool (decide (x9.A> 3))) J fx J (sQ (aP (v:=.bool (decide (x9.A> 3))) J eV J (Y 1 3 ?_)))))));rcases bf (decide (x9.A> 3))with fP|fP
       .exact gT 104 fP (Yp 15 3 (T.sub hK ⟨J,J,J,J,J,J,J,J,(congrArg AV.bool (by simp only[dx,dM,eV,fx,fP,bz,if_true,if_false,QI])).symm,tqz⟩))
       refine yg 3 fP (yg 3 fP (yg 3 fP (yg 3 fP ?_)));rcases bf (x9.Kind !=1)with kM|kM
       .refine yg 3 kM (yg 3 kM (yg 3 kM (yQ fP (bg (v:=.bool (x9.Kind !=2)) J kM J (yg 3 fP ?_)))));rcases bf (x9.Kind !=2)with tL|tL
        .exact gT 113 tL (Y 3 3 (gF 104 fP (Yp 3 3 (T.sub hK ⟨J,J,J,J,J,J,J,J,(congrArg AV.bool (by simp only[dx,dM,eV,fx,fP,kM,tL,bz,if_true,if_false,QI])).symm,tqz⟩))))
        exact gF 113 tL (Y 3 3 (gF 104 fP (Yp 3 3 (T.sub hK ⟨J,J,J,J,J,J,J,J,(congrArg AV.bool (by simp only[dx,dM,eV,fx,fP,kM,tL,bz,if_true,if_false,QI])).symm,tqz⟩))))
       exact gF 108 kM (Y 3 3 (gF 104 fP (Yp 8 3 (T.sub hK ⟨J,J,J,J,J,J,J,J,(congrArg AV.bool (by simp only[dx,dM,eV,fx,fP,kM,bz,if_true,if_false,QI])).symm,tqz⟩))))
      refine sN fx (sN fx (sN fx (yQ eV (aP (v:=.bool false) J fx J (sQ (aP (v:=.bool false) J eV J (Y 1 3 (yg 3 J (yg 3 J (yg 3 J (yg 3 J ?_)))))))))));rcases bf (x9.Kind !=1)with kN|kN
      .refine yg 3 kN (yg 3 kN (yg 3 kN (yQ J (bg (v:=.bool (x9.Kind !=2)) J kN J (yg 3 J ?_)))));rcases bf (x9.Kind !=2)with tM|tM
       .exact gT 113 tM (Yp 6 3 (T.sub hK ⟨J,J,J,J,J,J,J,J,(congrArg AV.bool (by simp only[dx,dM,eV,fx,kN,tM,bz,if_true,if_false,QI])).symm,tqz⟩))
       exact gF 113 tM (Yp 6 3 (T.sub hK ⟨J,J,J,J,J,J,J,J,(congrArg AV.bool (by simp only[dx,dM,eV,fx,kN,tM,bz,if_true,if_false,QI])).symm,tqz⟩))
      exact gF 108 kN (Yp 11 3 (T.sub hK ⟨J,J,J,J,J,J,J,J,(congrArg AV.bool (by simp only[dx,dM,eV,fx,kN,bz,if_true,if_false,QI])).symm,tqz⟩))
     refine sN dM (sN dM (sN dM (yQ dx (aP (v:=.bool false) J dM J (sQ (aP (v:=.bool false) J dx J (Y 1 3 (yg 3 J (yg 3 J (yg 3 J (yg 3 J ?_)))))))))));rcases bf (x9.Kind==2)with fy|fy
     .refine yg 3 fy (yg 3 fy (yg 3 fy (yQ J (bg (v:=.bool (decide (x9.A> 3))) J fy J (sQ (aP (v:=.bool (decide (x9.A> 3))) J J J (Y 1 3 ?_)))))));rcases bf (decide (x9.A> 3))with fQ|fQ
      .exact gT 104 fQ (Yp 15 3 (T.sub hK ⟨J,J,J,J,J,J,J,J,(congrArg AV.bool (by simp only[dx,dM,fy,fQ,bz,if_true,if_false,QI])).symm,tqz⟩))
      refine yg 3 fQ (yg 3 fQ (yg 3 fQ (yg 3 fQ ?_)));rcases bf (x9.Kind !=1)with kO|kO
      .refine yg 3 kO (yg 3 kO (yg 3 kO (yQ fQ (bg (v:=.bool (x9.Kind !=2)) J kO J (yg 3 fQ ?_)))));rcases bf (x9.Kind !=2)with tP|tP
       .exact gT 113 tP (Y 3 3 (gF 104 fQ (Yp 3 3 (T.sub hK ⟨J,J,J,J,J,J,J,J,(congrArg AV.bool (by simp only[dx,dM,fy,fQ,kO,tP,bz,if_true,if_false,QI])).symm,tqz⟩))))
       exact gF 113 tP (Y 3 3 (gF 104 fQ (Yp 3 3 (T.sub hK ⟨J,J,J,J,J,J,J,J,(congrArg AV.bool (by simp only[dx,dM,fy,fQ,kO,tP,bz,if_true,if_false,QI])).symm,tqz⟩))))
      exact gF 108 kO (Y 3 3 (gF 104 fQ (Yp 8 3 (T.sub hK ⟨J,J,J,J,J,J,J,J,(congrArg AV.bool (by simp only[dx,dM,fy,fQ,kO,bz,if_true,if_false,QI])).symm,tqz⟩))))
     refine sN fy (sN fy (sN fy (yQ J (aP (v:=.bool false) J fy J (sQ (aP (v:=.bool false) J J J (Y 1 3 (yg 3 J (yg 3 J (yg 3 J (yg 3 J ?_)))))))))));rcases bf (x9.Kind !=1)with kP|kP
     .refine yg 3 kP (yg 3 kP (yg 3 kP (yQ J (bg (v:=.bool (x9.Kind !=2)) J kP J (yg 3 J ?_)))));rcases bf (x9.Kind !=2)with tQ|tQ
      .exact gT 113 tQ (Yp 6 3 (T.sub hK ⟨J,J,J,J,J,J,J,J,(congrArg AV.bool (by simp only[dx,dM,fy,kP,tQ,bz,if_true,if_false,QI])).symm,tqz⟩))
      exact gF 113 tQ (Yp 6 3 (T.sub hK ⟨J,J,J,J,J,J,J,J,(congrArg AV.bool (by simp only[dx,dM,fy,kP,tQ,bz,if_true,if_false,QI])).symm,tqz⟩))
     exact gF 108 kP (Yp 11 3 (T.sub hK ⟨J,J,J,J,J,J,J,J,(congrArg AV.bool (by simp only[dx,dM,fy,kP,bz,if_true,if_false,QI])).symm,tqz⟩))
    refine X 4 3 (sQ (ai Sx J (Y 1 3 (sO (cF (BV bB) ⟨J,(Y 2 3 (gi 73 hz (λOS hz=>?_) (λOS hz=>?_)))⟩)))))
    .refine Yp 8 3 ?_;cases hz;exact sx hK
    refine B hz λx13 dJ hz=>(Y 2 3 (yQ J (ai Sx J (Y 1 3 (yO J (cF (BV dJ) ⟨J,(Yp 3 3 ?_)⟩))))))
    cases hz;exact sx hK
   refine X 1 2 ?_;replace h:=mi h me;refine X 4 2 (sQ (cP (en:=br) SQ J J (Y 3 2 (itr (λqw:Int=>mkA 197 [(4,.ref 0),(5,iI s5),(179,.ref 0),(180,iI ((s7).length:Int)),(181,iI qw)]) (λqw=>[aR 245 2 br s7]) h (wk [] [1] 2 J) (λqw v_198 h wW=>?_)))));revert wW h;revert qw;intro s38 h wW;replace h:nw s5 s7 s38=some v_198:=h;try dsimp only
   unfold nw at h;refine X 5 1 (Sv h J (λOT h=>?_) (λOT h=>?_))
   .refine B h λx41 qN h=>(B h λx42 jO h=>(X 5 1 (sQ (aK (en:=br) SQ J J J qN (sO (aU (en:=br) (a:=x42) J J jO (eM Ub TJ J (cs:=(br x42)) J (Y 3 1 (j1 [(4,.ref 0),(5,iI s5),(179,.ref 0),(180,iI ((s7).length:Int)),(181,iI s38),(192,.bool ((decide (x42.src<0))||decide (x42.dst<0)))] [aR 245 2 br s7] ?_ (λhK=>?_))))))))))
    .refine Sv h J (λOU h=>?_) (λOU h=>?_)
     .refine X 5 1 ?_;replace h:=mi h wW;cases h;exact tO [(0,245,2)] [1] 1
     exact X 5 1 (lk h (wk [] [0] 1 J))
    refine X 6 2 (gp 188 (λzq=>?_) (λzq=>?_))
    .refine Yp 5 2 ?_;rw[zq]at hK;exact wu hK [] [0] 2 J
    refine Yp 5 2 ?_;rw[zq]at hK;exact wu hK [] [0] 2 J
   refine X 1 1 ?_;replace h:=mi h wW;refine X 6 1 (Sv h J (λOV h=>?_) (λOV h=>?_))
   .refine X 5 1 ?_;cases h;exact tO [(0,245,2)] [1] 1
   refine X 7 1 ?_;cases h;exact tO [] [0] 1
  refine X 6 1 (gp 40 (λaI=>?_) (λaI=>?_))
  .refine Yp 5 1 ?_;rw[aI]at hK;exact sx hK
  refine Yp 5 1 ?_;rw[aI]at hK;exact sx hK
 refine X 4 1 (sQ (ai Sw J (Y 2 1 (gp 21 (λae=>?_) (λae=>?_)))))
 .refine Yp 16 1 ?_;rw[ae]at hK;exact sx hK
 refine Y 2 1 (yQ J (ai Sw J (Yp 3 1 (gp 27 (λab=>?_) (λab=>?_)))))
 .refine Yp 10 1 ?_;rw[ae]at hK;rw[ab]at hK;exact sx hK
 refine Yp 5 1 (gp 32 (λap=>?_) (λap=>?_))
 .refine Yp 5 1 ?_;rw[ae]at hK;rw[ab]at hK;rw[ap]at hK;exact sx hK
 refine Yp 5 1 ?_;rw[ae]at hK;rw[ab]at hK;rw[ap]at hK;exact sx hK
theorem Hw {p0:Int}{p1:U Bool}{p2:U Ends}(h:rU p0 p1 p2=some r):FnX Qbl 158 [iI p0,.ptr 0 0,.ptr 1 0] [.box [.ref 2],.box [.ref 3],aR 4 1 df p1,aR 245 2 br p2] (.bool r) [.box [.ref 2],.box [.ref 3],aR 4 1 df p1,aR 245 2 br p2]:=by
 unfold rU at h;refine fT 4 0 Tryz.func158 Tryz.ntmps158 J ?_;refine B h λx5 hx5 h=>(B h λx6 hx6 h=>(B h λx7 hx7 h=>(B h λx8 hx8 h=>(X 5 4 (T.drawn mixed (k:=10) J (rq [2] 9 (rL [1,3,4,5,6,7,8,9] 1 J (r0 3 J (aK (en:=br) SQ J J J hx5 (rq [4] 6 ?_))))))))))
 refine rL [0,6,7,8,9] 0 J (ra1 5 (oO J (aU (en:=br) (a:=x6) J J hx6 (aN S4 (c:=iI x6.src) J (r0 6 J (aK (en:=df) S8 J J J hx7 (ra1 7 (oO J (aU (en:=df) (a:=x8) J J hx8 (aN TU (c:=.bool x8) J (rq [8,9] 0 (RA.done (by decide+kernel) ?_))))))))))));cases h;exact tN [0,1,2,3]
theorem G4 {p0:U Int}{p1:U Bool}{p2:U Ends}{r:Int}(h:uM p0 p1 p2=some r):FnX Qbl 159 [sL aj p0,.func 158 [.ptr 0 0,.ptr 1 0]] [.box [.ref 2],.box [.ref 3],aR 4 1 df p1,aR 245 2 br p2] (iI r) [.box [.ref 2],.box [.ref 3],aR 4 1 df p1,aR 245 2 br p2]:=by
 unfold uM at h;refine fT 4 8 Tryz.func159 Tryz.ntmps159 J (sQ (ai Sx J (Y 3 4 (itr (λam:Int=>mkA 19 [(0,sL aj p0),(1,.func 158 [.ptr 0 0,.ptr 1 0]),(7,iI ((p0).length:Int)),(8,iI am)]) (λam=>[.box [.ref 2],.box [.ref 3],aR 4 1 df p1,aR 245 2 br p2]) h (wk [] [0,1,2,3] 4 J) (λam v_6 h bu=>?_)))));revert bu h;revert am;intro s1 h bu;replace h:oM p0 p1 p2 s1=some v_6:=h;try dsimp only
 unfold oM at h;refine X 5 4 (Sv h J (λbN h=>?_) (λbN h=>?_))
 .refine B h λx4 hx4 h=>(B h λx5 hx5 h=>(X 13 4 (sQ (aB Sx (λ_=>J) J J hx4 (Y 1 4 (sO (cG [0,1,2,3] 4 4 (Hw hx5) ⟨J,(Y 1 4 (Sv h J (λbi h=>?_) (λbi h=>?_)))⟩)))))))
  .refine X 5 4 ?_;replace h:=mi h bu;cases h;exact tN [0,1,2,3]
  exact X 5 4 (lk h (wk [] [0,1,2,3] 4 J))
 refine X 1 4 ?_;replace h:=mi h bu;refine X 4 4 ?_;cases h;exact tN [0,1,2,3]
theorem GY {p0:U Int}{p1:U Bool}{p2:U Ends}(h:oL p0 p1 p2=some r):FnX Qbl 145 [sL aj p0,.func 158 [.ptr 0 0,.ptr 1 0]] [.box [.ref 2],.box [.ref 3],aR 4 1 df p1,aR 245 2 br p2] (.bool r) [.box [.ref 2],.box [.ref 3],aR 4 1 df p1,aR 245 2 br p2]:=by
 unfold oL at h;refine fT 4 0 Tryz.func145 Tryz.ntmps145 J ?_;refine B h λx2 hx2 h=>(X 8 4 (sO (cG [0,1,2,3] 4 4 (G4 hx2) ⟨J,(Y 3 4 ?_)⟩)))
 cases h;exact tN [0,1,2,3]
theorem IM {r:(U Int)×Int}(h:sW p0=some r):FnO Qbl 143 [.agg (aD p0)] (.tup [.ref 0,iI r.2]) [aR 3 1 aj r.1]:=by
 unfold sW at h;refine fT 0 0 Tryz.func143 Tryz.ntmps143 J ?_;refine B h λx2 hx2 h=>(X 9 0 (sO (cO 1 (Jw hx2) ⟨J,(Y 13 2 (Sv h J (λae h=>?_) (λae h=>?_)))⟩)))
 .refine X 6 3 ?_;cases h;exact tO [(0,3,1)] [3] 3
 refine B h λx4 hx4 h=>(X 9 3 (sQ (ai Sw J (sO (ee (en:=df) (zr:=false) S8 TR J J hx4 J J (Y 5 4 (itr (λmh:(U Int)×(U Bool)=>mkA 61 [(1,.ptr 0 0),(4,.ptr 1 0),(6,.ref 2),(7,.ptr 3 0)]) (λmh=>[.box (aD p0),.box [.ref 4],aR 3 1 aj mh.1,.box [.ref 5],aR 245 2 br x2.1,aR 4 1 df mh.2]) h (wk [(6,3,1)] [0,2,5,4,1,3] 5 J) (λmh v_73 h Gd=>?_))))))))
 obtain⟨s5,s6⟩:=mh;replace h:lD p0 x2 s5 s6=some v_73:=h;try dsimp only
 unfold lD at h;refine X 4 6 (sQ (cP (en:=aj) Sx J J (Y 2 6 (sQ (ai Sw J (Y 2 6 (Sv h J (λPV h=>?_) (λPV h=>?_))))))))
 .refine X 6 6 (jn (Z:=Int) (λqD=>mkA 61 [(1,.ptr 0 0),(4,.ptr 1 0),(6,.ref 2),(7,.ptr 3 0),(8,iI qD)]) (λqD=>[.box (aD p0),.box [.ref 4],aR 3 1 aj s5,.box [.ref 5],aR 245 2 br x2.1,aR 4 1 df s6]) (λqD=>nt s5 s6 qD=some v_73) (λqD h=>?_) (λhK1=>?_))
  .revert h;revert qD;intro z14 h;replace h:nt s5 s6 z14=some v_73:=h;try dsimp only
   unfold nt at h;refine X 6 6 (Sv h J (λPW h=>?_) (λPW h=>?_))
   .refine X 5 6 ?_;replace h:=mi h Gd;cases h;exact tO [(0,3,1)] [6] 6
   refine B h λx17 cz h=>(B h λx18 b7 h=>(X 5 6 (sQ (aK (en:=df) S8 J J J cz (sO (eK (en:=df) (a:=x18) (a':=true) TX TV J (vs:=[.bool true]) J J J b7 J J J (B h λx19 cM h=>(Y 4 6 (sO (be (rows:=List.map aj [z14]) (vs:=[iI z14]) Sx SP J J J J J J (sO (bQ (en:=aj) (xs:=s5) (ys:=([z14]:U Int)) Sx (λ_=>J) J J J cM J J (Y 2 8 ?_)))))))))))))
   exact lk h (wk [] [0,1,7,3,4,5] 8 J)
  refine X 5 6 (sQ (ai Sw J (Y 3 6 (itr (λqx:Int=>mkA 61 [(1,.ptr 0 0),(4,.ptr 1 0),(6,.ref 2),(7,.ptr 3 0),(8,iI (-1)),(30,sL ao p0.Nodes),(31,iI ((p0.Nodes).length:Int)),(32,iI qx)]) (λqx=>[.box (aD p0),.box [.ref 4],aR 3 1 aj s5,.box [.ref 5],aR 245 2 br x2.1,aR 4 1 df s6]) h (wk [] [0,1,2,3,4,5] 6 J) (λqx v_103 h wX=>?_)))));revert wX h;revert qx;intro s7 h wX;replace h:lC p0 x2 s5 s6 s7=some v_103:=h;try dsimp only
  unfold lC at h;refine X 5 6 (Sv h J (λjF h=>?_) (λjF h=>?_))
  .refine B h λx9 hx9 h=>(X 6 6 (sQ (aB Sw (λ_=>J) J J hx9 (B h λx10 ba h=>(B h λx11 bA h=>(Y 5 6 ?_))))))
   obtain⟨OW,hz,h⟩:=bind_some h;revert hz h;revert OW;intro c13 hz h;refine j1 [(1,.ptr 0 0),(4,.ptr 1 0),(6,.ref 2),(7,.ptr 3 0),(8,iI (-1)),(9,iI s7),(30,sL ao p0.Nodes),(31,iI ((p0.Nodes).length:Int)),(32,iI s7),(48,.bool c13)] [.box (aD p0),.box [.ref 4],aR 3 1 aj s5,.box [.ref 5],aR 245 2 br x2.1,aR 4 1 df s6] ?_ (λhK=>?_)
   .refine Sv h J (λoo h=>?_) (λoo h=>?_)
    .refine X 6 6 ?_;replace h:=mi h wX;exact sx (hK1 s7 h)
    exact X 5 6 (lk h (wk [] [0,1,2,3,4,5] 6 J))
   refine X 4 7 (sQ (aK (en:=df) S8 J J J ba (sO (aU (en:=df) (a:=x11) J J bA (aN TU (c:=.bool x11) J (Y 2 7 (gi 42 hz (λkQ hz=>?_) (λkQ hz=>?_))))))))
   .refine B hz λx12 bB hz=>(Y 3 7 (yO J (cG [3,1,5,4] 7 4 (GY bB) ⟨J,(Yp 3 7 ?_)⟩)))
    cases hz;exact wu hK [] [0,1,2,3,4,5] 7 J
   refine Yp 7 7 ?_;cases hz;exact wu hK [] [0,1,2,3,4,5] 7 J
  refine X 1 6 ?_;replace h:=mi h wX;exact sx (hK1 (-1) h)
 refine X 1 6 ?_;replace h:=mi h Gd;refine X 6 6 ?_;cases h;exact tO [] [2] 6
theorem BJ {r:Int}(h:pU p0=some r):Fn Qbl 122 [.agg (aD p0)] (iI r):=by
 unfold pU at h;refine fT 0 0 Tryz.func122 Tryz.ntmps122 J ?_;refine B h λx2 hx2 h=>(X 8 0 (sO (cO 1 (IM hx2) ⟨J,(Y 11 2 ?_)⟩)))
 cases h;exact tD
theorem xq {p1:U (U Item)}{r:Int}(h:lJ p0 p1=some r):Fn Qbl 64 [.agg (aD p0),sL (ak aa) p1] (iI r):=by
 unfold lJ at h;refine fT 0 0 Tryz.func64 Tryz.ntmps64 J ?_;refine B h λx2 hx2 h=>(X 9 0 (sO (cF (BJ hx2) ⟨J,(Y 7 1 (Sv h J (λae h=>?_) (λae h=>?_)))⟩)))
 .refine X 5 1 ?_;cases h;exact tD
 refine X 5 1 (sQ (ai SA J (Y 2 1 (Sv h J (λab h=>?_) (λab h=>?_)))))
 .refine X 4 1 ?_;cases h;exact tD
 refine X 5 1 (sQ (ai SA J (Y 3 1 (itr (λcr:Int=>mkA 69 [(1,sL (ak aa) p1),(2,.ptr 0 0),(21,sL (ak aa) p1),(22,iI ((p1).length:Int)),(23,iI cr)]) (λcr=>[.box (aD p0)]) h (wk [] [0] 1 J) (λcr v_28 h fZ=>?_)))));revert fZ h;revert cr;intro s3 h fZ;replace h:ph p0 p1 s3=some v_28:=h;try dsimp only
 unfold ph at h;refine X 5 1 (Sv h J (λiZ h=>?_) (λiZ h=>?_))
 .refine B h λx5 hx5 h=>(X 5 1 (sQ (aB SA (λ_=>J) J J hx5 (Y 7 1 (sQ (ai Sy J (Y 2 1 (Sv h J (λi6 h=>?_) (λi6 h=>?_)))))))))
  .refine X 4 1 ?_;replace h:=mi h fZ;cases h;exact tD
  refine X 4 1 (sQ (ai Sy J (Y 3 1 (itr (λbl:Int=>mkA 69 [(1,sL (ak aa) p1),(2,.ptr 0 0),(21,sL (ak aa) p1),(22,iI ((p1).length:Int)),(23,iI s3),(30,sL aa x5),(31,iI ((x5).length:Int)),(32,iI bl)]) (λbl=>[.box (aD p0)]) h (wk [] [0] 1 J) (λbl v_37 h fE=>?_)))));revert fE h;revert bl;intro s6 h fE;replace h:pi s3 x5 s6=some v_37:=h;try dsimp only
  unfold pi at h;refine X 5 1 (Sv h J (λdF h=>?_) (λdF h=>?_))
  .refine B h λx8 hx8 h=>(X 5 1 (sQ (aB Sy (λ_=>J) J J hx8 (Y 10 1 (Sv h J (λeR h=>?_) (λeR h=>?_))))))
   .refine X 4 2 ?_;replace h:=mi h fE;replace h:=mi h fZ;cases h;exact tD
   exact X 5 2 (lk h (wk [] [0] 2 J))
  refine X 1 1 ?_;replace h:=mi h fE;exact X 4 1 (lk h (wk [] [0] 1 J))
 refine X 1 1 ?_;replace h:=mi h fZ;refine B h λx10 ba h=>(X 3 1 (sQ (ai SA J (sO (ee (en:=df) (zr:=false) S8 TR J J ba J J (Y 7 2 (sQ (ai Sw J (Y 3 2 (itr (λeX:Int×(U Bool)=>mkA 69 [(1,sL (ak aa) p1),(10,.ref 0),(45,sL ao p0.Nodes),(46,iI ((p0.Nodes).length:Int)),(47,iI eX.1)]) (λeX=>[aR 4 1 df eX.2]) h (wk [] [1] 2 J) (λeX v_53 h ou=>?_)))))))))))
 obtain⟨s11,s12⟩:=eX;replace h:lw p0 p1 s11 s12=some v_53:=h;try dsimp only
 unfold lw at h;refine X 5 1 (Sv h J (λtV h=>?_) (λtV h=>?_))
 .refine B h λx14 cI h=>(X 5 1 (sQ (aB Sw (λ_=>J) J J cI (Y 11 1 (Sv h J (λtW h=>?_) (λtW h=>?_))))))
  .exact X 5 2 (lk h (wk [] [0] 2 J))
  refine X 7 2 (sQ (ai SA J (Y 2 2 (Sv h J (λtX h=>?_) (λtX h=>?_)))))
  .refine X 4 2 ?_;replace h:=mi h ou;cases h;exact tD
  refine B h λx17 cz h=>(B h λx18 b7 h=>(X 7 2 (sQ (aK (en:=df) S8 J J J cz (sO (aU (en:=df) (a:=x18) J J b7 (aN TU (c:=.bool x18) J (Y 1 2 (Sv h J (λtY h=>?_) (λtY h=>?_))))))))))
  .refine X 4 2 ?_;replace h:=mi h ou;cases h;exact tD
  exact B h λx19 cM h=>(B h λx20 dS h=>(X 5 2 (sQ (aK (en:=df) S8 J J J cM (sO (eK (en:=df) (a:=x20) (a':=true) TX TV J (vs:=[.bool true]) J J J dS J J J (Y 5 2 (lk h (wk [] [0] 2 J)))))))))
 refine X 1 1 ?_;replace h:=mi h ou;refine X 4 1 ?_;cases h;exact tD
theorem Im {p1:U (U Item)}{r:State}(h:sH p0 p1=some r):FnO Qbl 65 [.agg (aD p0),sL (ak aa) p1] (.agg [.ref 0,.ref 1,.ref 2,.ref 3,.ref 4]) [aR 3 1 aj r.At,aR 30 1 (ak aa) r.Rings,aR 84 3 aq r.Memory,aR 50 2 an r.Choices,aR 75 3 aa r.Out]:=by
 unfold sH at h;refine fT 0 0 Tryz.func65 Tryz.ntmps65 J ?_;refine B h λx4 hx4 h=>(B h λx5 hx5 h=>(B h λx6 hx6 h=>(X 6 0 (T.drawn mixed (k:=12) J ?_))))
 apply Su 1 (bm 12 2047);intro hS1;apply Su 3 (bm 12 991);intro hS2;apply Su 3 (bm 12 1019);intro hS3;apply Su 3 (bm 12 511);intro hS4;apply Su 4 (bm 12 975);intro hS5;apply Su 4 (bm 12 987);intro hS6;apply Su 4 (bm 12 479);intro hS7;apply Su 4 (bm 12 507);intro hS8;apply Su 5 (bm 12 463);intro hS9;apply Su 5 (bm 12 475);intro cN;apply Su 5 (bm 12 127);intro cE;apply Su 6 (bm 12 95);intro fc
 .refine rq [0] 11 (r0 1 J (ai SA J (rq [3,6] 8 (ra3 2 4 7 ?_ ?_ ?_))))
  .refine oO J (ee (en:=aj) (zr:=0) Sx SP J J hx4 J J (ra2 4 7 ?_ ?_))
   .exact og 3 ⟨J,(raE fc)⟩
   .exact og 3 ⟨J,(r0 8 J (ai Sw J (raE hS9)))⟩
  .refine og 2 ⟨J,(ra3 2 5 7 ?_ ?_ ?_)⟩
   .exact oO J (ee (en:=aj) (zr:=0) Sx SP J J hx4 J J (raT fc))
   .refine oO J (dR (en:=(ak aa)) (zr:=([]:U Item)) SA SU ⟨.inr ⟨J,J⟩,tqz⟩ J J hx5 J J (ra2 2 7 ?_ ?_))
    .exact oO J (ee (en:=aj) (zr:=0) Sx SP J J hx4 J J (raE cE))
    .exact og 3 ⟨J,(r0 8 J (ai Sw J (raE hS8)))⟩
   .exact og 2 ⟨J,(r0 8 J (ai Sw J (raE cN)))⟩
  .refine og 2 ⟨J,(r0 8 J (ai Sw J (ra3 2 4 9 ?_ ?_ ?_)))⟩
   .exact oO J (ee (en:=aj) (zr:=0) Sx SP J J hx4 J J (raT hS9))
   .exact og 2 ⟨J,(raT cN)⟩
   .refine oO J (dR (en:=aq) (zr:=(⟨0,[],0⟩:Memory)) SE SV ⟨.inl J,.inr ⟨J,J⟩,.inl J,tqz⟩ J J hx6 J J (ra2 2 4 ?_ ?_))
    .exact oO J (ee (en:=aj) (zr:=0) Sx SP J J hx4 J J (raE hS5))
    .exact og 3 ⟨J,(raE hS6)⟩
 .refine ra2 5 7 ?_ ?_
  .exact oO J (dR (en:=(ak aa)) (zr:=([]:U Item)) SA SU ⟨.inr ⟨J,J⟩,tqz⟩ J J hx5 J J (raV cE [0,1,3,2] J))
  .exact og 3 ⟨J,(r0 8 J (ai Sw J (raE hS7)))⟩
 .exact ra1 7 (og 4 ⟨J,(r0 8 J (ai Sw J (raE hS4)))⟩)
 .refine ra3 2 5 9 ?_ ?_ ?_
  .exact oO J (ee (en:=aj) (zr:=0) Sx SP J J hx4 J J (raT hS7))
  .exact oO J (dR (en:=(ak aa)) (zr:=([]:U Item)) SA SU ⟨.inr ⟨J,J⟩,tqz⟩ J J hx5 J J (raT hS8))
  .exact oO J (dR (en:=aq) (zr:=(⟨0,[],0⟩:Memory)) SE SV ⟨.inl J,.inr ⟨J,J⟩,.inl J,tqz⟩ J J hx6 J J (raT hS6))
 .refine ra2 4 9 ?_ ?_
  .exact og 3 ⟨J,(raT hS7)⟩
  .exact oO J (dR (en:=aq) (zr:=(⟨0,[],0⟩:Memory)) SE SV ⟨.inl J,.inr ⟨J,J⟩,.inl J,tqz⟩ J J hx6 J J (raV hS5 [0,1,3,2] J))
 .refine ra2 2 9 ?_ ?_
  .exact oO J (ee (en:=aj) (zr:=0) Sx SP J J hx4 J J (raT hS4))
  .exact oO J (dR (en:=aq) (zr:=(⟨0,[],0⟩:Memory)) SE SV ⟨.inl J,.inr ⟨J,J⟩,.inl J,tqz⟩ J J hx6 J J (raE hS3))
 .refine ra2 5 9 ?_ ?_
  .exact oO J (dR (en:=(ak aa)) (zr:=([]:U Item)) SA SU ⟨.inr ⟨J,J⟩,tqz⟩ J J hx5 J J (raV hS4 [0,1,3,2] J))
  .exact oO J (dR (en:=aq) (zr:=(⟨0,[],0⟩:Memory)) SE SV ⟨.inl J,.inr ⟨J,J⟩,.inl J,tqz⟩ J J hx6 J J (raE hS2))
 .refine ra2 2 5 ?_ ?_
  .exact oO J (ee (en:=aj) (zr:=0) Sx SP J J hx4 J J (raV hS2 [0,1,3,2] J))
  .exact oO J (dR (en:=(ak aa)) (zr:=([]:U Item)) SA SU ⟨.inr ⟨J,J⟩,tqz⟩ J J hx5 J J (raV hS3 [0,1,3,2] J))
 .exact ra1 4 (og 4 ⟨J,(raV hS2 [0,1,3,2] J)⟩)
 .exact ra1 9 (oO J (dR (en:=aq) (zr:=(⟨0,[],0⟩:Memory)) SE SV ⟨.inl J,.inr ⟨J,J⟩,.inl J,tqz⟩ J J hx6 J J (rq [10] 1 (raE hS1))))
 .exact ra1 2 (oO J (ee (en:=aj) (zr:=0) Sx SP J J hx4 J J (rq [10] 1 (raV hS1 [0,1,2,4,3] J))))
 .exact ra1 5 (oO J (dR (en:=(ak aa)) (zr:=([]:U Item)) SA SU ⟨.inr ⟨J,J⟩,tqz⟩ J J hx5 J J (rq [10] 1 (raV hS1 [0,1,4,2,3] J))))
 refine ra1 11 (og 5 ⟨J,(RA.done (by decide+kernel) (nB 1 3 50 2 5 (nB 1 4 75 3 6 ?_)))⟩);cases h;exact tO [] [3,2,4,5,6] 7
theorem sw {p1:U (U Item)}{r:State×Int}(h:kj p0 p1=some r):FnO Qbl 22 [.agg (aD p0),sL (ak aa) p1] (.tup [.agg [.ref 0,.ref 1,.ref 2,.ref 3,.ref 4],iI r.2]) [aR 3 1 aj r.1.At,aR 30 1 (ak aa) r.1.Rings,aR 84 3 aq r.1.Memory,aR 50 2 an r.1.Choices,aR 75 3 aa r.1.Out]:=by
 unfold kj at h;refine fT 0 0 Tryz.func22 Tryz.ntmps22 J ?_;refine B h λx2 hx2 h=>(X 11 0 (sO (cF (xq hx2) ⟨J,(Y 7 2 (Sv h J (λae h=>?_) (λae h=>?_)))⟩)))
 .refine X 7 2 (nB 1 0 3 1 2 (nB 1 1 30 1 3 (nB 1 2 84 3 4 (nB 1 3 50 2 5 (nB 1 4 75 3 6 ?_)))));cases h;exact tO [] [2,3,4,5,6] 7
 refine B h λx4 hx4 h=>(X 5 2 (sO (cG [] 2 5 (SG (Im hx4)) ⟨J,(Y 3 7 ?_)⟩)))
 cases h;exact tO [] [2,3,4,5,6] 7
theorem Hu {p0 r:U Node}(h:u1 p0=some r):FnO Qbl 66 [.sl (List.map ao p0)] (.ref 0) [.arr 90 4 (List.map ao r)]:=by
 have hr:p0=r:=by
  unfold u1 app at h;split at h
  .simpa using h
  .cases h
 refine iJ (N:=0) J Tryz.func66 J (by kernel_rfl) Tryz.ntmps66 J ?_;show T _ _ _ _ (mkA 8 [(0,.sl (List.map ao p0))]) [];refine T.seq ?_;refine T.region ?_;refine RS.op J (SJ J (db (v:=.nils) J ?_));refine RS.nil ?_;refine T.seq ?_;refine T.seq ?_;refine T.region ?_;refine RS.op J (SJ J (eu (v:=.sl (List.map ao p0)) J ?_));refine RS.op J (SJ J (kD Sw J J (λz hz=>?_)));refine RS.nil ?_;refine T.cond (b:=z) J (λhb=>?_) (λhb=>?_)
 .refine T.seq ?_;refine T.region ?_;refine RS.op J (SJ J (db (v:=.nils) J ?_));refine RS.nil ?_;refine T.ret ?_;refine eP (v:=.nils) J ?_;refine eO ?_;have h0:p0=[]:=Q6.1 (hz hb);exact eQ (.ref 0) [(0,90,4)] [0] (by decide) (bP _) J (bX J) (eB (en:=ao) (ys:=[]) J pQ (by rw[<- hr,h0]) (aA)) ⟨J,J⟩
 .refine T.skip ?_;refine T.seq ?_;refine T.region ?_;refine RS.op J (be (rows:=List.map ao []) (vs:=[]) Sw Tx J J J J J (aw':=[.arr 90 4 (List.map ao [])]) J ?_);refine RS.op J (SJ J (eu (v:=.sl (List.map ao p0)) J ?_));refine RS.op J (bQ (en:=ao) (xs:=([]:U Node)) (ys:=p0) (r:=r) Sw (λ_=>J) J J J h J (aw':=[.dead,.arr 90 4 (List.map ao r)]) J ?_);refine RS.op J (SJ J (db (v:=.ref 1) J ?_));refine RS.nil ?_;refine T.ret ?_;refine eP (v:=.ref 1) J ?_;refine eO ?_;exact eQ (.ref 0) [] [1] (by decide) (bP _) J (bX J) (eB J pQ J (aA)) ⟨J,J⟩
theorem dC {p0 r:U Int}(h:jj p0=some r):FnO Qbl 67 [.sl (List.map aj p0)] (.ref 0) [.arr 3 1 (List.map aj r)]:=by
 have hr:p0=r:=by
  unfold jj app at h;split at h
  .simpa using h
  .cases h
 refine iJ (N:=0) J Tryz.func67 J (by kernel_rfl) Tryz.ntmps67 J ?_;show T _ _ _ _ (mkA 8 [(0,.sl (List.map aj p0))]) [];refine T.seq ?_;refine T.region ?_;refine RS.op J (SJ J (db (v:=.nils) J ?_));refine RS.nil ?_;refine T.seq ?_;refine T.seq ?_;refine T.region ?_;refine RS.op J (SJ J (eu (v:=.sl (List.map aj p0)) J ?_));refine RS.op J (SJ J (kD Sx J J (λz hz=>?_)));refine RS.nil ?_;refine T.cond (b:=z) J (λhb=>?_) (λhb=>?_)
 .refine T.seq ?_;refine T.region ?_;refine RS.op J (SJ J (db (v:=.nils) J ?_));refine RS.nil ?_;refine T.ret ?_;refine eP (v:=.nils) J ?_;refine eO ?_;have h0:p0=[]:=Q6.1 (hz hb);exact eQ (.ref 0) [(0,3,1)] [0] (by decide) (bP _) J (bX J) (eB (en:=aj) (ys:=[]) J l6 (by rw[<- hr,h0]) (aA)) ⟨J,J⟩
 .refine T.skip ?_;refine T.seq ?_;refine T.region ?_;refine RS.op J (be (rows:=List.map aj []) (vs:=[]) Sx SP J J J J J (aw':=[.arr 3 1 (List.map aj [])]) J ?_);refine RS.op J (SJ J (eu (v:=.sl (List.map aj p0)) J ?_));refine RS.op J (bQ (en:=aj) (xs:=([]:U Int)) (ys:=p0) (r:=r) Sx (λ_=>J) J J J h J (aw':=[.dead,.arr 3 1 (List.map aj r)]) J ?_);refine RS.op J (SJ J (db (v:=.ref 1) J ?_));refine RS.nil ?_;refine T.ret ?_;refine eP (v:=.ref 1) J ?_;refine eO ?_;exact eQ (.ref 0) [] [1] (by decide) (bP _) J (bX J) (eB J l6 J (aA)) ⟨J,J⟩
theorem pJ {r:Net}(h:qd p0=some r):Fn Qbl 23 [.agg (aD p0)] (.agg (aD r)):=by
 unfold qd at h;refine fT 0 0 Tryz.func23 Tryz.ntmps23 J ?_;refine B h λx2 hx2 h=>(X 9 0 (sO (cQ 2 (Hu hx2) ⟨J,(Y 8 3 (sQ (cP (en:=ao) Sw J J (Y 3 3 (itr (λmj:Int×(U Node)=>mkA 40 [(1,.ptr 0 0),(2,.ptr 1 0),(10,iI ((x2).length:Int)),(11,iI mj.1)]) (λmj=>[.box [.ref 2,iI p0.Rings,iI p0.Room],.box [.nils,iI 0,iI 0],aR 90 4 ao mj.2]) h (wk [] [0,1,2] 3 J) (λmj v_70 h PX=>?_))))))⟩)))
 obtain⟨s3,s4⟩:=mj;replace h:nv p0 x2 s3 s4=some v_70:=h;try dsimp only
 unfold nv at h;refine X 5 3 (Sv h J (λPY h=>?_) (λPY h=>?_))
 .refine B h λx5 hx5 h=>(B h λx6 hx6 h=>(B h λx7 hx7 h=>(B h λx8 hx8 h=>(B h λx9 hx9 h=>(B h λx10 ba h=>(B h λx11 bA h=>(B h λx12 bB h=>(B h λx13 dJ h=>(B h λx14 cI h=>?_)))))))))
  refine X 8 3 (T.drawn mixed (k:=26) J ?_);apply Su 1 (bm 26 33554431);intro GE;apply Su 4 (bm 26 4194303);intro z6;apply Su 5 (bm 26 4194287);intro GF;apply Su 7 (bm 26 524287);intro w7;apply Su 8 (bm 26 524271);intro z7;apply Su 8 (bm 26 524285);intro z8;apply Su 8 (bm 26 520191);intro w8;apply Su 8 (bm 26 262143);intro w9;apply Su 9 (bm 26 520175);intro Aa;apply Su 9 (bm 26 520189);intro qO;apply Su 9 (bm 26 524269);intro ug;apply Su 9 (bm 26 518143);intro qP;apply Su 9 (bm 26 262127);intro Ab;apply Su 9 (bm 26 262141);intro Ac;apply Su 9 (bm 26 258047);intro oD;apply Su 10 (bm 26 518127);intro qQ;apply Su 10 (bm 26 518141);intro qR;apply Su 10 (bm 26 520173);intro uh;apply Su 10 (bm 26 258031);intro qS;apply Su 10 (bm 26 258045);intro qT;apply Su 10 (bm 26 262125);intro ui;apply Su 10 (bm 26 255999);intro oE;apply Su 11 (bm 26 255983);intro Ad;apply Su 11 (bm 26 255997);intro Ae;apply Su 11 (bm 26 258029);intro GG;apply Su 12 (bm 26 255981);intro GH;apply Su 12 (bm 26 45055);intro Af;apply Su 13 (bm 26 45039);intro GI;apply Su 13 (bm 26 45053);intro tZ;apply Su 13 (bm 26 43007);intro zC;apply Su 14 (bm 26 42991);intro Ge;apply Su 14 (bm 26 43005);intro Gf;apply Su 16 (bm 26 41343);intro qE
  .refine rq [0,2,3,5,6,8,13,15] 18 (ra4 1 4 7 14 ?_ ?_ ?_ ?_)
   .refine og 3 ⟨J,(ra3 4 7 14 ?_ ?_ ?_)⟩
    .exact og 3 ⟨J,(raE qE)⟩
    .exact og 3 ⟨J,(r0 9 J (aK (en:=ao) Sw J J J hx5 (rq [10] 14 (raE Ge))))⟩
    .exact og 3 ⟨J,(r0 16 J (aK (en:=ao) Sw J J J hx8 (rq [17] 14 (rL [7,9,10,11,12,19,20,21,22,23,24,25] 7 J (r0 9 J (aK (en:=ao) Sw J J J hx5 (rq [10] 11 (raE Ad))))))))⟩
   .refine og 3 ⟨J,(ra3 1 7 14 ?_ ?_ ?_)⟩
    .exact og 3 ⟨J,(raT qE)⟩
    .exact og 3 ⟨J,(r0 9 J (aK (en:=ao) Sw J J J hx5 (rq [10] 14 (raE Gf))))⟩
    .exact og 3 ⟨J,(r0 16 J (aK (en:=ao) Sw J J J hx8 (rq [17] 14 (rL [7,9,10,11,12,19,20,21,22,23,24,25] 7 J (r0 9 J (aK (en:=ao) Sw J J J hx5 (rq [10] 11 (raE Ae))))))))⟩
   .refine og 3 ⟨J,(r0 9 J (aK (en:=ao) Sw J J J hx5 (rq [10] 15 (ra4 1 4 11 14 ?_ ?_ ?_ ?_))))⟩
    .exact og 3 ⟨J,(raT Ge)⟩
    .exact og 3 ⟨J,(raT Gf)⟩
    .refine oO J (aU (en:=ao) (a:=x6) J J hx6 (aN SO (c:=sL aj x6.In) J (ra4 1 4 12 14 ?_ ?_ ?_ ?_)))
     .exact og 3 ⟨J,(raE GI)⟩
     .exact og 3 ⟨J,(raE tZ)⟩
     .exact oO J (cO 3 (dC hx7) ⟨J,(rL [14,16,17,18,19,20,21,22,23,24,25] 14 J (r0 16 J (aK (en:=ao) Sw J J J hx8 (rq [17] 10 (raE ui)))))⟩)
     .exact og 3 ⟨J,(r0 16 J (aK (en:=ao) Sw J J J hx8 (rq [17] 11 (raE GG))))⟩
    .exact og 3 ⟨J,(r0 16 J (aK (en:=ao) Sw J J J hx8 (rq [17] 12 (raE GH))))⟩
   .exact og 3 ⟨J,(r0 16 J (aK (en:=ao) Sw J J J hx8 (rq [17] 15 (rL [7,9,10,11,12,19,20,21,22,23,24,25] 7 J (r0 9 J (aK (en:=ao) Sw J J J hx5 (rq [10] 12 (raT GH))))))))⟩
  .refine ra2 7 14 ?_ ?_
   .exact og 3 ⟨J,(r0 9 J (aK (en:=ao) Sw J J J hx5 (rq [10] 13 (raE zC))))⟩
   .exact og 3 ⟨J,(r0 16 J (aK (en:=ao) Sw J J J hx8 (rq [17] 13 (rL [7,9,10,11,12,19,20,21,22,23,24,25] 7 J (r0 9 J (aK (en:=ao) Sw J J J hx5 (rq [10] 10 (raE oE))))))))⟩
  .refine ra3 1 11 14 ?_ ?_ ?_
   .exact og 3 ⟨J,(raT zC)⟩
   .exact oO J (aU (en:=ao) (a:=x6) J J hx6 (aN SO (c:=sL aj x6.In) J (raT tZ)))
   .exact og 3 ⟨J,(r0 16 J (aK (en:=ao) Sw J J J hx8 (rq [17] 11 (raT Ae))))⟩
  .refine ra3 4 11 14 ?_ ?_ ?_
   .exact og 3 ⟨J,(raT zC)⟩
   .exact oO J (aU (en:=ao) (a:=x6) J J hx6 (aN SO (c:=sL aj x6.In) J (raT GI)))
   .exact og 3 ⟨J,(r0 16 J (aK (en:=ao) Sw J J J hx8 (rq [17] 11 (raT Ad))))⟩
  .refine ra2 11 14 ?_ ?_
   .exact oO J (aU (en:=ao) (a:=x6) J J hx6 (aN SO (c:=sL aj x6.In) J (raE Af)))
   .exact og 3 ⟨J,(r0 16 J (aK (en:=ao) Sw J J J hx8 (rq [17] 10 (raT oE))))⟩
  .refine ra3 1 12 14 ?_ ?_ ?_
   .exact og 3 ⟨J,(raT Af)⟩
   .exact oO J (cO 3 (dC hx7) ⟨J,(rL [14,16,17,18,19,20,21,22,23,24,25] 14 J (r0 16 J (aK (en:=ao) Sw J J J hx8 (rq [17] 9 (raE Ac)))))⟩)
   .exact og 3 ⟨J,(r0 16 J (aK (en:=ao) Sw J J J hx8 (rq [17] 10 (raE qT))))⟩
  .refine ra3 4 12 14 ?_ ?_ ?_
   .exact og 3 ⟨J,(raT Af)⟩
   .exact oO J (cO 3 (dC hx7) ⟨J,(rL [14,16,17,18,19,20,21,22,23,24,25] 14 J (r0 16 J (aK (en:=ao) Sw J J J hx8 (rq [17] 9 (raE Ab)))))⟩)
   .exact og 3 ⟨J,(r0 16 J (aK (en:=ao) Sw J J J hx8 (rq [17] 10 (raE qS))))⟩
  .refine ra2 12 14 ?_ ?_
   .exact oO J (cO 3 (dC hx7) ⟨J,(ra1 14 (og 4 ⟨J,(r0 16 J (aK (en:=ao) Sw J J J hx8 (rq [17] 8 (raE w9))))⟩))⟩)
   .exact og 3 ⟨J,(r0 16 J (aK (en:=ao) Sw J J J hx8 (rq [17] 9 (raE oD))))⟩
  .refine ra4 1 4 11 18 ?_ ?_ ?_ ?_
   .exact og 3 ⟨J,(raT Ad)⟩
   .exact og 3 ⟨J,(raT Ae)⟩
   .exact oO J (aU (en:=ao) (a:=x6) J J hx6 (aN SO (c:=sL aj x6.In) J (raT GG)))
   .refine oO J (aU (en:=ao) (a:=x9) J J hx9 (aN SO (c:=sL aj x9.Out) J (ra3 1 4 11 ?_ ?_ ?_)))
    .exact og 3 ⟨J,(raE qQ)⟩
    .exact og 3 ⟨J,(raE qR)⟩
    .exact oO J (aU (en:=ao) (a:=x6) J J hx6 (aN SO (c:=sL aj x6.In) J (raE uh)))
  .refine ra4 1 4 12 18 ?_ ?_ ?_ ?_
   .exact og 3 ⟨J,(raT qS)⟩
   .exact og 3 ⟨J,(raT qT)⟩
   .exact oO J (cO 3 (dC hx7) ⟨J,(raT ui)⟩)
   .exact oO J (aU (en:=ao) (a:=x9) J J hx9 (aN SO (c:=sL aj x9.Out) J (raT uh)))
  .refine ra3 1 11 18 ?_ ?_ ?_
   .exact og 3 ⟨J,(raT oE)⟩
   .exact oO J (aU (en:=ao) (a:=x6) J J hx6 (aN SO (c:=sL aj x6.In) J (raT qT)))
   .exact oO J (aU (en:=ao) (a:=x9) J J hx9 (aN SO (c:=sL aj x9.Out) J (raT qR)))
  .refine ra3 4 11 18 ?_ ?_ ?_
   .exact og 3 ⟨J,(raT oE)⟩
   .exact oO J (aU (en:=ao) (a:=x6) J J hx6 (aN SO (c:=sL aj x6.In) J (raT qS)))
   .exact oO J (aU (en:=ao) (a:=x9) J J hx9 (aN SO (c:=sL aj x9.Out) J (raT qQ)))
  .refine ra2 11 18 ?_ ?_
   .exact oO J (aU (en:=ao) (a:=x6) J J hx6 (aN SO (c:=sL aj x6.In) J (raT oD)))
   .exact oO J (aU (en:=ao) (a:=x9) J J hx9 (aN SO (c:=sL aj x9.Out) J (raE qP)))
  .refine ra3 1 4 18 ?_ ?_ ?_
   .exact og 4 ⟨J,(raT Ab)⟩
   .exact og 4 ⟨J,(raT Ac)⟩
   .exact oO J (aU (en:=ao) (a:=x9) J J hx9 (aN SO (c:=sL aj x9.Out) J (raE ug)))
  .refine ra3 1 12 18 ?_ ?_ ?_
   .exact og 3 ⟨J,(raT oD)⟩
   .exact oO J (cO 3 (dC hx7) ⟨J,(raT Ac)⟩)
   .exact oO J (aU (en:=ao) (a:=x9) J J hx9 (aN SO (c:=sL aj x9.Out) J (raE qO)))
  .refine ra3 4 12 18 ?_ ?_ ?_
   .exact og 3 ⟨J,(raT oD)⟩
   .exact oO J (cO 3 (dC hx7) ⟨J,(raT Ab)⟩)
   .exact oO J (aU (en:=ao) (a:=x9) J J hx9 (aN SO (c:=sL aj x9.Out) J (raE Aa)))
  .refine ra3 1 4 12 ?_ ?_ ?_
   .exact og 3 ⟨J,(raT Aa)⟩
   .exact og 3 ⟨J,(raT qO)⟩
   .exact oO J (cO 3 (dC hx7) ⟨J,(raT ug)⟩)
  .refine ra2 1 11 ?_ ?_
   .exact og 3 ⟨J,(raT qP)⟩
   .exact oO J (aU (en:=ao) (a:=x6) J J hx6 (aN SO (c:=sL aj x6.In) J (raT qO)))
  .refine ra2 4 11 ?_ ?_
   .exact og 3 ⟨J,(raT qP)⟩
   .exact oO J (aU (en:=ao) (a:=x6) J J hx6 (aN SO (c:=sL aj x6.In) J (raT Aa)))
  .refine ra2 12 18 ?_ ?_
   .exact oO J (cO 3 (dC hx7) ⟨J,(raT w9)⟩)
   .exact oO J (aU (en:=ao) (a:=x9) J J hx9 (aN SO (c:=sL aj x9.Out) J (raE w8)))
  .refine ra2 1 18 ?_ ?_
   .exact og 4 ⟨J,(raT w9)⟩
   .exact oO J (aU (en:=ao) (a:=x9) J J hx9 (aN SO (c:=sL aj x9.Out) J (raE z8)))
  .refine ra2 4 18 ?_ ?_
   .exact og 4 ⟨J,(raT w9)⟩
   .exact oO J (aU (en:=ao) (a:=x9) J J hx9 (aN SO (c:=sL aj x9.Out) J (raE z7)))
  .exact ra1 11 (oO J (aU (en:=ao) (a:=x6) J J hx6 (aN SO (c:=sL aj x6.In) J (raT w8))))
  .refine ra3 1 4 19 ?_ ?_ ?_
   .exact og 4 ⟨J,(raT z7)⟩
   .exact og 4 ⟨J,(raT z8)⟩
   .exact oO J (cO 4 (dC ba) ⟨J,(rL [1,20,21,22,23,24,25] 1 J (r0 20 J (aK (en:=ao) Sw J J J bA (rq [21] 5 (raE GF)))))⟩)
  .refine ra2 1 12 ?_ ?_
   .exact og 3 ⟨J,(raT w8)⟩
   .exact oO J (cO 3 (dC hx7) ⟨J,(raT z8)⟩)
  .refine ra2 4 12 ?_ ?_
   .exact og 3 ⟨J,(raT w8)⟩
   .exact oO J (cO 3 (dC hx7) ⟨J,(raT z7)⟩)
  .exact ra1 18 (oO J (aU (en:=ao) (a:=x9) J J hx9 (aN SO (c:=sL aj x9.Out) J (raE w7))))
  .exact ra1 12 (oO J (cO 3 (dC hx7) ⟨J,(raT w7)⟩))
  .refine ra2 1 19 ?_ ?_
   .exact og 4 ⟨J,(raT w7)⟩
   .exact oO J (cO 4 (dC ba) ⟨J,(ra1 1 (og 5 ⟨J,(r0 20 J (aK (en:=ao) Sw J J J bA (rq [21] 4 (raE z6))))⟩))⟩)
  .refine ra2 4 19 ?_ ?_
   .exact og 4 ⟨J,(raT w7)⟩
   .exact oO J (cO 4 (dC ba) ⟨J,(r0 20 J (aK (en:=ao) Sw J J J bA (rq [21] 5 (raT GF))))⟩)
  .exact ra1 19 (oO J (cO 4 (dC ba) ⟨J,(r0 20 J (aK (en:=ao) Sw J J J bA (rq [21] 4 (raT z6))))⟩))
  .refine ra2 4 22 ?_ ?_
   .exact og 5 ⟨J,(raT z6)⟩
   .exact RO.fC 3 (oO J (eK (en:=ao) (a:=x12) (a':=(⟨x12.Kind,x12.A,x7,x12.Out⟩:Node)) Tq Tz J (vs:=[sL aj x7]) J J J bB J J J (ra1 4 (og 5 ⟨J,(r0 23 J (aK (en:=ao) Sw J J J dJ (rq [24] 1 (raE GE))))⟩))))
  .exact ra1 22 (RO.fC 3 (oO J (eK (en:=ao) (a:=x12) (a':=(⟨x12.Kind,x12.A,x7,x12.Out⟩:Node)) Tq Tz J (vs:=[sL aj x7]) J J J bB J J J (r0 23 J (aK (en:=ao) Sw J J J dJ (rq [24] 1 (raT GE)))))))
  exact ra1 25 (RO.fC 4 (oO J (eK (en:=ao) (a:=x14) (a':=(⟨x14.Kind,x14.A,x14.In,x10⟩:Node)) Tq Tz J (vs:=[sL aj x10]) J J J cI J J J (RA.done (by decide+kernel) (X 4 5 (lk h (wk [] [0,1,2] 5 J)))))))
 refine X 1 3 ?_;replace h:=mi h PX;refine X 5 3 ?_;cases h;exact tD
theorem fH {p0 r:U Item}(h:em p0=some r):FnO Qbl 68 [.sl (List.map aa p0)] (.ref 0) [.arr 75 3 (List.map aa r)]:=by
 have hr:p0=r:=by
  unfold em app at h;split at h
  .simpa using h
  .cases h
 refine iJ (N:=0) J Tryz.func68 J (by kernel_rfl) Tryz.ntmps68 J ?_;show T _ _ _ _ (mkA 8 [(0,.sl (List.map aa p0))]) [];refine T.seq ?_;refine T.region ?_;refine RS.op J (SJ J (db (v:=.nils) J ?_));refine RS.nil ?_;refine T.seq ?_;refine T.seq ?_;refine T.region ?_;refine RS.op J (SJ J (eu (v:=.sl (List.map aa p0)) J ?_));refine RS.op J (SJ J (kD Sy J J (λz hz=>?_)));refine RS.nil ?_;refine T.cond (b:=z) J (λhb=>?_) (λhb=>?_)
 .refine T.seq ?_;refine T.region ?_;refine RS.op J (SJ J (db (v:=.nils) J ?_));refine RS.nil ?_;refine T.ret ?_;refine eP (v:=.nils) J ?_;refine eO ?_;have h0:p0=[]:=Q6.1 (hz hb);exact eQ (.ref 0) [(0,75,3)] [0] (by decide) (bP _) J (bX J) (eB (en:=aa) (ys:=[]) J fj (by rw[<- hr,h0]) (aA)) ⟨J,J⟩
 .refine T.skip ?_;refine T.seq ?_;refine T.region ?_;refine RS.op J (be (rows:=List.map aa []) (vs:=[]) Sy SW J J J J J (aw':=[.arr 75 3 (List.map aa [])]) J ?_);refine RS.op J (SJ J (eu (v:=.sl (List.map aa p0)) J ?_));refine RS.op J (bQ (en:=aa) (xs:=([]:U Item)) (ys:=p0) (r:=r) Sy (λ_=>J) J J J h J (aw':=[.dead,.arr 75 3 (List.map aa r)]) J ?_);refine RS.op J (SJ J (db (v:=.ref 1) J ?_));refine RS.nil ?_;refine T.ret ?_;refine eP (v:=.ref 1) J ?_;refine eO ?_;exact eQ (.ref 0) [] [1] (by decide) (bP _) J (bX J) (eB J fj J (aA)) ⟨J,J⟩
theorem u5 {p0 r:U (U Item)}(h:sd p0=some r):FnO Qbl 24 [sL (ak aa) p0] (.ref 0) [aR 30 1 (ak aa) r]:=by
 unfold sd at h;refine fT 0 12 Tryz.func24 Tryz.ntmps24 J (sQ (ai SA J (Y 3 0 (itr (λcZ:Int×(U (U Item))=>mkA 19 [(3,.ref 0),(6,sL (ak aa) p0),(7,iI ((p0).length:Int)),(8,iI cZ.1)]) (λcZ=>[aR 30 1 (ak aa) cZ.2]) h (wk [(3,30,1)] [0] 0 J) (λcZ v_4 h uj=>?_)))));obtain⟨s1,s2⟩:=cZ;replace h:mS p0 s1 s2=some v_4:=h;try dsimp only
 unfold mS at h;refine X 5 1 (Sv h J (λaI h=>?_) (λaI h=>?_))
 .refine B h λx4 hx4 h=>(X 5 1 (sQ (aB SA (λ_=>J) J J hx4 (B h λx5 hx5 h=>(B h λx6 hx6 h=>(Y 6 1 (sO (cO 1 (fH hx5) ⟨J,(RS.fC 1 (sO (be (rows:=List.map (ak aa) [x5]) (vs:=[sL aa x5]) SA SU J J J J J J (sO (bQ (en:=(ak aa)) (xs:=s2) (ys:=([x5]:U (U Item))) SA (λ_=>J) J J J hx6 J J ?_)))))⟩))))))))
  exact Y 6 4 (lk h (wk [] [3] 4 J))
 refine X 1 1 ?_;replace h:=mi h uj;refine X 5 1 ?_;cases h;exact tO [] [0] 1
theorem B4 {p1:U (U Item)}{r:Shop×Int}(h:lU p0 p1=some r):Fn Qbl 7 [.agg (aD p0),sL (ak aa) p1] (.tup [.agg (ca r.1),iI r.2]):=by
 unfold lU at h;refine fT 0 0 Tryz.func7 Tryz.ntmps7 J ?_;refine B h λx2 hx2 h=>(X 10 0 (sO (cG [] 2 5 (SG (sw hx2)) ⟨J,(Y 13 7 (Sv h J (λae h=>?_) (λae h=>?_)))⟩)))
 .refine X 7 8 ?_;cases h;exact tD
 refine B h λx5 hx5 h=>(B h λx6 hx6 h=>(X 2 8 (T.drawn mixed (k:=8) J ?_)))
 apply Su 2 (bm 8 63);intro hS2;apply Su 4 (bm 8 23);intro hS3
 .refine rq [2] 7 (rL [0,1,3,5,6,7] 0 J (ra2 1 4 ?_ ?_))
  .refine oO J (cD (pJ hx5) ⟨J,(ra2 3 4 ?_ ?_)⟩)
   .exact oO J (cQ 8 (u5 hx6) ⟨J,(ra1 4 (og 9 ⟨J,(rq [5] 2 (raE hS2))⟩))⟩)
   .exact og 8 ⟨J,(raE hS3)⟩
  .exact og 8 ⟨J,(ra1 1 (oO J (cD (pJ hx5) ⟨J,(raT hS3)⟩)))⟩
 .exact ra1 3 (oO J (cQ 8 (u5 hx6) ⟨J,(rq [5] 2 (raT hS2))⟩))
 refine ra1 6 (og 9 ⟨J,(rq [7] 0 (RA.done (by decide+kernel) ?_))⟩);cases h;exact tD
theorem Hc {p0:Item}{p1:U Int}(h:uU p0 p1 p2 p3 p4 p5=some r):FnX Qbl 119 [.agg (aa p0),.ptr 0 0] [.box [sL aj p1,sL (ak aa) p2,sL aq p3,sL an p4,sL aa p5]] (.bool r) [.box [sL aj p1,sL (ak aa) p2,sL aq p3,sL an p4,sL aa p5]]:=by
 unfold uU at h;refine fT 1 5 Tryz.func119 Tryz.ntmps119 J (j1 [(3,.bool ((decide (p0.Dep<0))||decide (p0.Dep> ((p4).length:Int))))] [.box [sL aj p1,sL (ak aa) p2,sL aq p3,sL an p4,sL aa p5]] ?_ (λhK=>?_))
 .cases h;exact tN [0]
 refine X 6 2 (gp 7 (λae=>?_) (λae=>?_))
 .refine Yp 9 2 ?_;rw[ae]at hK;exact wu hK [] [0] 2 J
 refine Y 4 2 (yQ J (ai Sz J (Yp 4 2 ?_)));rw[ae]at hK;exact wu hK [] [0] 2 J
theorem G2 {p0:U Item}{p1:U Int}{r:Int}(h:uK p0 p1 p2 p3 p4 p5=some r):FnX Qbl 138 [sL aa p0,.func 119 [.ptr 0 0]] [.box [sL aj p1,sL (ak aa) p2,sL aq p3,sL an p4,sL aa p5]] (iI r) [.box [sL aj p1,sL (ak aa) p2,sL aq p3,sL an p4,sL aa p5]]:=by
 unfold uK at h;refine fT 1 8 Tryz.func138 Tryz.ntmps138 J (sQ (ai Sy J (Y 3 1 (itr (λam:Int=>mkA 19 [(0,sL aa p0),(1,.func 119 [.ptr 0 0]),(7,iI ((p0).length:Int)),(8,iI am)]) (λam=>[.box [sL aj p1,sL (ak aa) p2,sL aq p3,sL an p4,sL aa p5]]) h (wk [] [0] 1 J) (λam v_6 h bu=>?_)))));revert bu h;revert am;intro s1 h bu;replace h:ri p0 p1 p2 p3 p4 p5 s1=some v_6:=h;try dsimp only
 unfold ri at h;refine X 5 1 (Sv h J (λbN h=>?_) (λbN h=>?_))
 .refine B h λx4 hx4 h=>(B h λx5 hx5 h=>(X 13 1 (sQ (aB Sy (λ_=>J) J J hx4 (Y 1 1 (sO (cG [0] 1 1 (Hc hx5) ⟨J,(Y 1 1 (Sv h J (λbi h=>?_) (λbi h=>?_)))⟩)))))))
  .refine X 5 1 ?_;replace h:=mi h bu;cases h;exact tN [0]
  exact X 5 1 (lk h (wk [] [0] 1 J))
 refine X 1 1 ?_;replace h:=mi h bu;refine X 4 1 ?_;cases h;exact tN [0]
theorem GX {p0:U Item}{p1:U Int}(h:uJ p0 p1 p2 p3 p4 p5=some r):FnX Qbl 118 [sL aa p0,.func 119 [.ptr 0 0]] [.box [sL aj p1,sL (ak aa) p2,sL aq p3,sL an p4,sL aa p5]] (.bool r) [.box [sL aj p1,sL (ak aa) p2,sL aq p3,sL an p4,sL aa p5]]:=by
 unfold uJ at h;refine fT 1 0 Tryz.func118 Tryz.ntmps118 J ?_;refine B h λx2 hx2 h=>(X 8 1 (sO (cG [0] 1 1 (G2 hx2) ⟨J,(Y 3 1 ?_)⟩)))
 cases h;exact tN [0]
theorem AB {p0:U Item}{p1:U Int}(h:o6 p0 p1 p2 p3 p4 p5=some r):FnX Qbl 117 [sL aa p0,.ptr 0 0] [.box [sL aj p1,sL (ak aa) p2,sL aq p3,sL an p4,sL aa p5]] (.bool r) [.box [sL aj p1,sL (ak aa) p2,sL aq p3,sL an p4,sL aa p5]]:=by
 unfold o6 at h;refine fT 1 0 Tryz.func117 Tryz.ntmps117 J ?_;refine B h λx2 hx2 h=>(X 8 1 (sO (cG [0] 1 1 (GX hx2) ⟨J,(Y 3 1 ?_)⟩)))
 cases h;exact tN [0]
theorem AY {p0:Memory}{r:Int}(h:lG p0=some r):Fn Qbl 120 [.agg (aq p0)] (iI r):=by
 unfold lG at h;refine fT 0 10 Tryz.func120 Tryz.ntmps120 J (sQ (ai SB J (Y 2 1 (Sv h J (λae h=>?_) (λae h=>?_)))))
 .refine X 4 1 ?_;cases h;exact tD
 refine X 6 1 (sQ (ai SB J (Y 3 1 (itr (λqC:Int=>mkA 40 [(1,.ptr 0 0),(10,sL aH p0.Keys),(11,iI ((p0.Keys).length:Int)),(12,iI qC)]) (λqC=>[.box (aq p0)]) h (wk [] [0] 1 J) (λqC v_17 h wY=>?_)))));revert wY h;revert qC;intro s1 h wY;replace h:jm p0 s1=some v_17:=h;try dsimp only
 unfold jm at h;refine X 5 1 (Sv h J (λov h=>?_) (λov h=>?_))
 .refine B h λx3 hx3 h=>(X 6 1 (sQ (aB SB (λ_=>J) J J hx3 (Y 5 1 ?_))))
  obtain⟨PZ,hz,h⟩:=bind_some h;revert hz h;revert PZ;intro c5 hz h;refine j1 [(1,.ptr 0 0),(10,sL aH p0.Keys),(11,iI ((p0.Keys).length:Int)),(12,iI s1),(35,.bool c5)] [.box (aq p0)] ?_ (λhK=>?_)
  .refine Sv h J (λi7 h=>?_) (λi7 h=>?_)
   .refine X 4 1 ?_;replace h:=mi h wY;cases h;exact tD
   exact X 5 1 (lk h (wk [] [0] 1 J))
  refine X 1 2 ?_;rcases bf (decide (x3.N<1))with cC|cC
  .replace hz:=bH hz cC;refine T.drawn mixed (k:=19) J (rq [0] 18 (ra1 1 (og 2 ⟨J,(rq [2,3] 15 (r2 4 J cC (r2 5 J cC (r2 6 J cC (r3 7 J (r3 8 J ?_))))))⟩)));refine r3 9 J (r3 10 J (r3 11 J (r3 12 J (r3 13 J (r3 14 J (r3 15 J (r3 16 J (r2 17 J cC (r0 18 J (bg (v:=.bool true) J cC J ?_))))))))));exact RA.done (by decide+kernel) (T.weakR hK (SD [] [0] (by decide) (bP _) J ⟨al J,cK J,bE J,bE J,dl ((congrArg (λp=>p) (QH hz)).symm),tqz⟩ (bL (aq p0) J (aA))))
  replace hz:=bG hz cC;rcases bf (decide (s1> 0))with bU|bU
  .replace hz:=bH hz bU;refine B hz λx4 hx4 hz=>(T.drawn mixed (k:=19) J ?_)
   apply Su 0 (bm 19 524287);intro jP;apply Su 4 (bm 19 57343);intro fe
   .refine rq [0] 18 (ra1 1 (og 2 ⟨J,(rq [2,3] 15 (ry 4 cC J (ry 5 cC J (ry 6 cC J (ry 7 bU J (ry 9 bU J (ry 10 bU J ?_)))))))⟩));refine ry 14 bU J (ra2 8 15 ?_ ?_)
    .refine oy 2 bU J (r1 11 J bU (aB SB (λ_=>J) J J hx4 (ry 12 bU J (ra2 13 15 ?_ ?_))))
     .exact oy 2 bU J (ra1 15 (oy 2 bU J (ry 16 bU J (r1 17 J cC (bg (v:=.bool (decide (x4.Key>=x3.Key))) J bU J (r0 18 J (aP (v:=.bool (decide (x4.Key>=x3.Key))) J cC J (raE jP))))))))
     .exact oy 2 bU J (raE fe)
    .exact oy 2 bU J (ra1 8 (oy 2 bU J (r1 11 J bU (aB SB (λ_=>J) J J hx4 (ry 12 bU J (raT fe))))))
   .exact ra1 13 (oy 2 bU J (ry 16 bU J (r1 17 J cC (bg (v:=.bool (decide (x4.Key>=x3.Key))) J bU J (r0 18 J (aP (v:=.bool (decide (x4.Key>=x3.Key))) J cC J (raT jP)))))))
   exact RA.done (by decide+kernel) (T.weakR hK (SD [] [0] (by decide) (bP _) J ⟨al J,cK J,bE J,bE J,dl ((congrArg (λp=>p) (QH hz)).symm),tqz⟩ (bL (aq p0) J (aA))))
  replace hz:=bG hz bU;refine T.drawn mixed (k:=19) J (rq [0] 18 (ra1 1 (og 2 ⟨J,(rq [2,3] 15 (ry 4 cC J (ry 5 cC J (ry 6 cC J (r2 7 J bU (r2 8 J bU ?_))))))⟩)));refine r2 9 J bU (r2 10 J bU (r2 11 J bU (r2 12 J bU (r2 13 J bU (r2 14 J bU (r2 15 J bU (r2 16 J bU (r1 17 J cC (aP (v:=.bool false) J bU J (r0 18 J (aP (v:=.bool false) J cC J ?_)))))))))));exact RA.done (by decide+kernel) (T.weakR hK (SD [] [0] (by decide) (bP _) J ⟨al J,cK J,bE J,bE J,dl ((congrArg (λp=>p) (QH hz)).symm),tqz⟩ (bL (aq p0) J (aA))))
 refine X 1 1 ?_;replace h:=mi h wY;refine X 7 1 (Sv h J (λow h=>?_) (λow h=>?_))
 .refine X 4 1 ?_;cases h;exact tD
 refine X 5 1 ?_;cases h;exact tD
theorem Ij {p1:Choice}(h:sC p0 p1=some r):Fn Qbl 121 [.agg (aD p0),.agg (an p1)] (.bool r):=by
 unfold sC at h;refine fT 0 6 Tryz.func121 Tryz.ntmps121 J ?_;obtain⟨uk,hz,h⟩:=bind_some h;revert hz h;revert uk;intro c3 hz h;refine j1 [(4,.bool c3)] [] ?_ (λhK=>?_)
 .cases h;exact tD
 refine X 1 2 ?_;rcases bf (decide (p1.Node>=0))with ae|ae
 .replace hz:=bH hz ae;rcases bf (decide (p1.Node<((p0.Nodes).length:Int)))with ab|ab
  .replace hz:=bH hz ab;refine B hz λx1 hx1 hz=>?_
   rcases bf (x1.Kind==6)with ap|ap
   .replace hz:=bH hz ap;rcases bf (decide (p1.Lane>=0))with aC|aC
    .replace hz:=bH hz aC;refine B hz λx2 hx2 hz=>(T.drawn mixed (k:=40) J ?_)
     apply Su 0 (bm 40 1099511627775);intro hS6;apply Su 5 (bm 40 34359738367);intro hS7;apply Su 6 (bm 40 34091302911);intro hS8;apply Su 8 (bm 40 7516192767);intro hS9;apply Su 8 (bm 40 4294967295);intro cN;apply Su 22 (bm 40 262143);intro cE;apply Su 26 (bm 40 24575);intro fc
     .refine rq [0] 39 (ra1 1 (og 2 ⟨J,(rq [2,3] 36 (ry 4 ae J (ry 6 ae J (ra2 5 7 ?_ ?_))))⟩))
      .exact oy 2 ae J (ra1 7 (oy 2 ae J (r1 8 J ae (ai Sw J (ry 9 ae J (r0 10 J (bg (v:=.bool (decide (p1.Node<((p0.Nodes).length:Int)))) J ae J (rq [11] 28 (ry 12 ab J (ry 14 ab J (raE fc)))))))))))
      .exact oy 2 ae J (r1 8 J ae (ai Sw J (ra1 5 (oy 2 ae J (ry 9 ae J (r0 10 J (bg (v:=.bool (decide (p1.Node<((p0.Nodes).length:Int)))) J ae J (rq [11] 28 (ry 12 ab J (ry 14 ab J (raT fc)))))))))))
     .refine ra2 13 15 ?_ ?_
      .exact oy 2 ab J (ra1 15 (oy 2 ab J (r1 16 J ab (aB Sw (λ_=>J) J J hx1 (ry 17 ab J (raE cE))))))
      .exact oy 2 ab J (ra1 13 (oy 2 ab J (r1 16 J ab (aB Sw (λ_=>J) J J hx1 (ry 17 ab J (raT cE))))))
     .refine ra1 18 (oy 2 ab J (ry 19 ab J (r0 20 J (bg (v:=.bool (x1.Kind==6)) J ab J (rq [21] 18 (ry 22 ap J (ra1 23 (oy 2 ap J (ry 24 ap J (r0 25 J (bg (v:=.bool (decide (p1.Lane>=0))) J ap J ?_)))))))))));refine rq [26] 13 (ry 27 aC J (ry 29 aC J (ry 31 aC J (ra3 28 30 32 ?_ ?_ ?_))))
      .refine oy 2 aC J (ra2 30 32 ?_ ?_)
       .exact oy 2 aC J (raE cN)
       .exact oy 2 aC J (raE hS9)
      .refine oy 2 aC J (ra2 28 32 ?_ ?_)
       .exact oy 2 aC J (raT cN)
       .exact oy 2 aC J (r1 33 J aC (aB Sw (λ_=>J) J J hx2 (ry 34 aC J (raE hS8))))
      .refine oy 2 aC J (ra2 28 30 ?_ ?_)
       .exact oy 2 aC J (raT hS9)
       .exact oy 2 aC J (r1 33 J aC (aB Sw (λ_=>J) J J hx2 (ry 34 aC J (raT hS8))))
     .exact ra1 32 (oy 2 aC J (r1 33 J aC (aB Sw (λ_=>J) J J hx2 (ry 34 aC J (raE hS7)))))
     .exact ra1 30 (oy 2 aC J (r1 33 J aC (aB Sw (λ_=>J) J J hx2 (ry 34 aC J (raT hS7)))))
     .refine ra2 28 35 ?_ ?_
      .exact oy 2 aC J (raT hS7)
      .exact oy 2 aC J (r1 36 J aC (ai Sx J (ra1 28 (oy 2 aC J (ry 37 aC J (r0 38 J (bg (v:=.bool (decide (p1.Lane<((x2.In).length:Int)))) J aC J (rq [39] 0 (raE hS6)))))))))
     .exact ra1 35 (oy 2 aC J (r1 36 J aC (ai Sx J (ry 37 aC J (r0 38 J (bg (v:=.bool (decide (p1.Lane<((x2.In).length:Int)))) J aC J (rq [39] 0 (raT hS6))))))))
     exact RA.done (by decide+kernel) (T.weakR hK (SD [] [] (by decide) (bP _) J ⟨dl ((congrArg (λp=>p) (QH hz)).symm),tqz⟩ (aA)))
    replace hz:=bG hz aC;refine T.drawn mixed (k:=40) J ?_;apply Su 22 (bm 40 262143);intro jc;apply Su 26 (bm 40 24575);intro mw
    .refine rq [0] 39 (ra1 1 (og 2 ⟨J,(rq [2,3] 36 (ry 4 ae J (ry 6 ae J (ra2 5 7 ?_ ?_))))⟩))
     .exact oy 2 ae J (ra1 7 (oy 2 ae J (r1 8 J ae (ai Sw J (ry 9 ae J (r0 10 J (bg (v:=.bool (decide (p1.Node<((p0.Nodes).length:Int)))) J ae J (rq [11] 28 (ry 12 ab J (ry 14 ab J (raE mw)))))))))))
     .exact oy 2 ae J (r1 8 J ae (ai Sw J (ra1 5 (oy 2 ae J (ry 9 ae J (r0 10 J (bg (v:=.bool (decide (p1.Node<((p0.Nodes).length:Int)))) J ae J (rq [11] 28 (ry 12 ab J (ry 14 ab J (raT mw)))))))))))
    .refine ra2 13 15 ?_ ?_
     .exact oy 2 ab J (ra1 15 (oy 2 ab J (r1 16 J ab (aB Sw (λ_=>J) J J hx1 (ry 17 ab J (raE jc))))))
     .exact oy 2 ab J (ra1 13 (oy 2 ab J (r1 16 J ab (aB Sw (λ_=>J) J J hx1 (ry 17 ab J (raT jc))))))
    refine ra1 18 (oy 2 ab J (ry 19 ab J (r0 20 J (bg (v:=.bool (x1.Kind==6)) J ab J (rq [21] 18 (ry 22 ap J (ra1 23 (oy 2 ap J (ry 24 ap J (r0 25 J (bg (v:=.bool (decide (p1.Lane>=0))) J ap J ?_)))))))))));refine rq [26] 13 (r2 27 J aC (r2 28 J aC (r2 29 J aC (r2 30 J aC (r2 31 J aC (r2 32 J aC (r2 33 J aC (r2 34 J aC (r2 35 J aC ?_)))))))));exact r2 36 J aC (r2 37 J aC (r0 38 J (aP (v:=.bool false) J aC J (rq [39] 0 (RA.done (by decide+kernel) (T.weakR hK (SD [] [] (by decide) (bP _) J ⟨dl ((congrArg (λp=>p) (QH hz)).symm),tqz⟩ (aA))))))))
   replace hz:=bG hz ap;refine T.drawn mixed (k:=40) J ?_;apply Su 22 (bm 40 262143);intro qU;apply Su 26 (bm 40 24575);intro ul
   .refine rq [0] 39 (ra1 1 (og 2 ⟨J,(rq [2,3] 36 (ry 4 ae J (ry 6 ae J (ra2 5 7 ?_ ?_))))⟩))
    .exact oy 2 ae J (ra1 7 (oy 2 ae J (r1 8 J ae (ai Sw J (ry 9 ae J (r0 10 J (bg (v:=.bool (decide (p1.Node<((p0.Nodes).length:Int)))) J ae J (rq [11] 28 (ry 12 ab J (ry 14 ab J (raE ul)))))))))))
    .exact oy 2 ae J (r1 8 J ae (ai Sw J (ra1 5 (oy 2 ae J (ry 9 ae J (r0 10 J (bg (v:=.bool (decide (p1.Node<((p0.Nodes).length:Int)))) J ae J (rq [11] 28 (ry 12 ab J (ry 14 ab J (raT ul)))))))))))
   .refine ra2 13 15 ?_ ?_
    .exact oy 2 ab J (ra1 15 (oy 2 ab J (r1 16 J ab (aB Sw (λ_=>J) J J hx1 (ry 17 ab J (raE qU))))))
    .exact oy 2 ab J (ra1 13 (oy 2 ab J (r1 16 J ab (aB Sw (λ_=>J) J J hx1 (ry 17 ab J (raT qU))))))
   refine ra1 18 (oy 2 ab J (ry 19 ab J (r0 20 J (bg (v:=.bool (x1.Kind==6)) J ab J (rq [21] 18 (r2 22 J ap (r2 23 J ap (r2 24 J ap (r0 25 J (aP (v:=.bool false) J ap J (rq [26] 13 ?_)))))))))));refine r2 27 J J (r2 28 J J (r2 29 J J (r2 30 J J (r2 31 J J (r2 32 J J (r2 33 J J (r2 34 J J (r2 35 J J (r2 36 J J ?_)))))))));exact r2 37 J J (r0 38 J (aP (v:=.bool false) J J J (rq [39] 0 (RA.done (by decide+kernel) (T.weakR hK (SD [] [] (by decide) (bP _) J ⟨dl ((congrArg (λp=>p) (QH hz)).symm),tqz⟩ (aA)))))))
  replace hz:=bG hz ab;refine T.drawn mixed (k:=40) J ?_;apply Su 0 (bm 40 1099511627775);intro um
  .refine rq [0] 39 (ra1 1 (og 2 ⟨J,(rq [2,3] 36 (ry 4 ae J (ry 6 ae J (ra2 5 7 ?_ ?_))))⟩))
   .refine oy 2 ae J (ra1 7 (oy 2 ae J (r1 8 J ae (ai Sw J (ry 9 ae J (r0 10 J (bg (v:=.bool (decide (p1.Node<((p0.Nodes).length:Int)))) J ae J (rq [11] 28 (r2 12 J ab (r2 13 J ab (r2 14 J ab ?_)))))))))));refine r2 15 J ab (r2 16 J ab (r2 17 J ab (r2 18 J ab (r2 19 J ab (r0 20 J (aP (v:=.bool false) J ab J (rq [21] 18 (r2 22 J J (r2 23 J J (r2 24 J J ?_))))))))));refine r0 25 J (aP (v:=.bool false) J J J (rq [26] 13 (r2 27 J J (r2 28 J J (r2 29 J J (r2 30 J J (r2 31 J J (r2 32 J J (r2 33 J J (r2 34 J J ?_))))))))));exact r2 35 J J (r2 36 J J (r2 37 J J (r0 38 J (aP (v:=.bool false) J J J (rq [39] 0 (raE um))))))
   .refine oy 2 ae J (r1 8 J ae (ai Sw J (ra1 5 (oy 2 ae J (ry 9 ae J (r0 10 J (bg (v:=.bool (decide (p1.Node<((p0.Nodes).length:Int)))) J ae J (rq [11] 28 (r2 12 J ab (r2 13 J ab (r2 14 J ab ?_)))))))))));refine r2 15 J ab (r2 16 J ab (r2 17 J ab (r2 18 J ab (r2 19 J ab (r0 20 J (aP (v:=.bool false) J ab J (rq [21] 18 (r2 22 J J (r2 23 J J (r2 24 J J ?_))))))))));refine r0 25 J (aP (v:=.bool false) J J J (rq [26] 13 (r2 27 J J (r2 28 J J (r2 29 J J (r2 30 J J (r2 31 J J (r2 32 J J (r2 33 J J (r2 34 J J ?_))))))))));exact r2 35 J J (r2 36 J J (r2 37 J J (r0 38 J (aP (v:=.bool false) J J J (rq [39] 0 (raT um))))))
  exact RA.done (by decide+kernel) (T.weakR hK (SD [] [] (by decide) (bP _) J ⟨dl ((congrArg (λp=>p) (QH hz)).symm),tqz⟩ (aA)))
 replace hz:=bG hz ae;refine T.drawn mixed (k:=40) J (rq [0] 39 (ra1 1 (og 2 ⟨J,(rq [2,3] 36 (r2 4 J ae (r2 5 J ae (r2 6 J ae (r2 7 J ae (r2 8 J ae ?_))))))⟩)));refine r2 9 J ae (r0 10 J (aP (v:=.bool false) J ae J (rq [11] 28 (r2 12 J J (r2 13 J J (r2 14 J J (r2 15 J J (r2 16 J J (r2 17 J J (r2 18 J J ?_))))))))));refine r2 19 J J (r0 20 J (aP (v:=.bool false) J J J (rq [21] 18 (r2 22 J J (r2 23 J J (r2 24 J J (r0 25 J (aP (v:=.bool false) J J J (rq [26] 13 (r2 27 J J (r2 28 J J ?_)))))))))));refine r2 29 J J (r2 30 J J (r2 31 J J (r2 32 J J (r2 33 J J (r2 34 J J (r2 35 J J (r2 36 J J (r2 37 J J (r0 38 J (aP (v:=.bool false) J J J ?_))))))))));exact rq [39] 0 (RA.done (by decide+kernel) (T.weakR hK (SD [] [] (by decide) (bP _) J ⟨dl ((congrArg (λp=>p) (QH hz)).symm),tqz⟩ (aA))))
end
end
section
open Go.RowKit
set_option maxRecDepth 100000
set_option maxHeartbeats 4000000
set_option synthInstance.maxSize 100000
set_option synthInstance.maxHeartbeats 4000000
section
variable {p0:Net}{p1:U (U Item)}{p2:State}{r p7 p8:Int}{p3:U Memory}{p4:U Choice}{p5:U Item}{p6:U Node}
theorem vq (h:iC p0 p1 p2=some r):Fn Qbl 62 [.agg (aD p0),sL (ak aa) p1,.agg (bD p2)] (iI r):=by
 unfold iC at h;refine fT 0 0 Tryz.func62 Tryz.ntmps62 J ?_;refine B h λx2 hx2 h=>(X 11 0 (sO (cF (xq hx2) ⟨J,(Y 7 2 (Sv h J (λae h=>?_) (λae h=>?_)))⟩)))
 .refine X 5 2 ?_;cases h;exact tD
 refine X 2 2 (j1 [(1,sL (ak aa) p1),(3,.ptr 0 0),(5,.ptr 1 0),(46,.bool ((((p2.At).length:Int)!=((p1).length:Int))||((((p2.Rings).length:Int)!=p0.Rings)||((p2.Memory).length:Int)!=((p0.Nodes).length:Int))))] [.box (aD p0),.box (bD p2)] ?_ (λhK=>?_))
 .refine Sv h J (λaC h=>?_) (λaC h=>?_)
  .refine X 4 2 ?_;cases h;exact tD
  refine X 2 2 (j1 [(1,sL (ak aa) p1),(3,.ptr 0 0),(5,.ptr 1 0),(56,.bool ((decide (((p2.Choices).length:Int)> 500))||decide (((p2.Out).length:Int)> 2000)))] [.box (aD p0),.box (bD p2)] ?_ (λhK=>?_))
  .refine Sv h J (λaM h=>?_) (λaM h=>?_)
   .refine X 4 2 ?_;cases h;exact tD
   refine X 6 2 (sQ (ai Sx J (Y 3 2 (itr (λeY:Int=>mkA 131 [(1,sL (ak aa) p1),(3,.ptr 0 0),(5,.ptr 1 0),(58,sL aj p2.At),(59,iI ((p2.At).length:Int)),(60,iI eY)]) (λeY=>[.box (aD p0),.box (bD p2)]) h (wk [] [0,1] 2 J) (λeY v_16 h qF=>?_)))));revert qF h;revert eY;intro s5 h qF;replace h:so p0 p1 p2 s5=some v_16:=h;try dsimp only
   unfold so at h;refine X 5 2 (Sv h J (λf0 h=>?_) (λf0 h=>?_))
   .refine B h λx7 hx7 h=>(X 6 2 (sQ (aB Sx (λ_=>J) J J hx7 (Y 4 2 ?_))))
    obtain⟨P0,hz,h⟩:=bind_some h;revert hz h;revert P0;intro c9 hz h;refine j1 [(1,sL (ak aa) p1),(3,.ptr 0 0),(5,.ptr 1 0),(58,sL aj p2.At),(59,iI ((p2.At).length:Int)),(60,iI s5),(75,.bool c9)] [.box (aD p0),.box (bD p2)] ?_ (λhK=>?_)
    .refine Sv h J (λbU h=>?_) (λbU h=>?_)
     .refine X 4 2 ?_;replace h:=mi h qF;cases h;exact tD
     exact X 5 2 (lk h (wk [] [0,1] 2 J))
    refine X 5 2 (gi 67 hz (λov hz=>?_) (λov hz=>?_))
    .refine Yp 9 2 ?_;cases hz;exact sx hK
    refine B hz λx8 hx8 hz=>(Y 3 2 (yQ J (aB SA (λ_=>J) J J hx8 (Y 1 2 (yQ J (ai Sy J (Yp 3 2 ?_)))))))
    cases hz;exact sx hK
   refine X 1 2 ?_;replace h:=mi h qF;refine X 10 2 (sQ (ai SA J (Y 3 2 (itr (λcB:Int=>mkA 131 [(3,.ptr 0 0),(5,.ptr 1 0),(10,.func 117 [.ptr 1 0]),(79,sL (ak aa) p2.Rings),(80,iI ((p2.Rings).length:Int)),(81,iI cB)]) (λcB=>[.box (aD p0),.box (bD p2)]) h (wk [] [0,1] 2 J) (λcB v_30 h eF=>?_)))));revert eF h;revert cB;intro s10 h eF;replace h:pw p0 p2 s10=some v_30:=h;try dsimp only
   unfold pw at h;refine X 5 2 (Sv h J (λja h=>?_) (λja h=>?_))
   .refine B h λx12 bB h=>(X 5 2 (sQ (aB SA (λ_=>J) J J bB (Y 7 2 (sQ (ai Sy J (Y 4 2 (Sv h J (λed h=>?_) (λed h=>?_)))))))))
    .refine X 4 2 ?_;replace h:=mi h eF;cases h;exact tD
    refine B h λx14 cI h=>(X 5 2 (sO (cG [1] 2 1 (AB cI) ⟨J,(Y 2 2 (Sv h J (λkT h=>?_) (λkT h=>?_)))⟩)))
    .refine X 4 2 ?_;replace h:=mi h eF;cases h;exact tD
    exact X 5 2 (lk h (wk [] [0,1] 2 J))
   refine X 1 2 ?_;replace h:=mi h eF;refine X 5 2 (sQ (ai SE J (Y 3 2 (itr (λml:Int=>mkA 131 [(3,.ptr 0 0),(5,.ptr 1 0),(10,.func 117 [.ptr 1 0]),(96,sL aq p2.Memory),(97,iI ((p2.Memory).length:Int)),(98,iI ml)]) (λml=>[.box (aD p0),.box (bD p2)]) h (wk [] [0,1] 2 J) (λml v_44 h t1=>?_)))));revert t1 h;revert ml;intro s15 h t1;replace h:px p0 p2 s15=some v_44:=h;try dsimp only
   unfold px at h;refine X 5 2 (Sv h J (λt6 h=>?_) (λt6 h=>?_))
   .refine B h λx17 cz h=>(X 5 2 (sQ (aB SE (λ_=>J) J J cz (B h λx19 cM h=>(Y 8 2 (sO (cF (AY cM) ⟨J,(Y 7 3 (Sv h J (λt7 h=>?_) (λt7 h=>?_)))⟩)))))))
    .refine X 5 3 ?_;replace h:=mi h t1;cases h;exact tD
    refine X 7 3 (sQ (ai Sz J (Y 2 3 (Sv h J (λzD h=>?_) (λzD h=>?_)))))
    .refine X 4 3 ?_;replace h:=mi h t1;cases h;exact tD
    exact X 5 3 (lk h (wk [] [0,1] 3 J))
   refine X 1 2 ?_;replace h:=mi h t1;refine X 5 2 (sQ (ai Sz J (Y 3 2 (itr (λjN:Int=>mkA 131 [(3,.ptr 0 0),(5,.ptr 1 0),(10,.func 117 [.ptr 1 0]),(115,sL an p2.Choices),(116,iI ((p2.Choices).length:Int)),(117,iI jN)]) (λjN=>[.box (aD p0),.box (bD p2)]) h (wk [] [0,1] 2 J) (λjN v_56 h wZ=>?_)))));revert wZ h;revert jN;intro s20 h wZ;replace h:pu p0 p2 s20=some v_56:=h;try dsimp only
   unfold pu at h;refine X 5 2 (Sv h J (λP1 h=>?_) (λP1 h=>?_))
   .refine B h λx22 eS h=>(X 5 2 (sQ (aB Sz (λ_=>J) J J eS (B h λx24 aS h=>(Y 8 2 (sO (cF (Ij aS) ⟨J,(Y 2 3 (Sv h J (λtY h=>?_) (λtY h=>?_)))⟩)))))))
    .refine X 4 3 ?_;replace h:=mi h wZ;cases h;exact tD
    exact X 5 3 (lk h (wk [] [0,1] 3 J))
   refine X 1 2 ?_;replace h:=mi h wZ;refine B h λx26 dB h=>(X 6 2 (sO (cG [1] 2 1 (AB dB) ⟨J,(Y 2 2 (Sv h J (λP2 h=>?_) (λP2 h=>?_)))⟩)))
   .refine X 4 2 ?_;cases h;exact tD
   refine X 5 2 ?_;cases h;exact tD
  refine X 4 2 (sQ (ai Sz J (Y 2 2 (gp 51 (λaI=>?_) (λaI=>?_)))))
  .refine Yp 6 2 ?_;rw[aI]at hK;exact sx hK
  refine Y 2 2 (yQ J (ai Sy J (Yp 3 2 ?_)));rw[aI]at hK;exact sx hK
 refine X 4 2 (sQ (ai Sx J (Y 1 2 (sQ (ai SA J (Y 2 2 (gp 30 (λab=>?_) (λab=>?_))))))))
 .refine Yp 17 2 ?_;rw[ab]at hK;exact sx hK
 refine Y 2 2 (yQ J (ai SA J (Yp 5 2 (gp 38 (λap=>?_) (λap=>?_)))))
 .refine Yp 9 2 ?_;rw[ab]at hK;rw[ap]at hK;exact sx hK
 refine Y 2 2 (yQ J (ai SE J (Y 2 2 (yQ J (ai Sw J (Yp 3 2 ?_))))));rw[ab]at hK;rw[ap]at hK;exact sx hK
theorem ni {p0:Disk}(h:gf p0=some r):Fn Qbl 63 [.agg (co p0)] (iI r):=by
 unfold gf at h;refine fT 0 6 Tryz.func63 Tryz.ntmps63 J (j1 [(1,.ptr 0 0),(16,.bool ((decide (((p0.Sectors).length:Int)> 200))||decide (((p0.Wait).length:Int)> 300)))] [.box (co p0)] ?_ (λhK=>?_))
 .refine Sv h J (λab h=>?_) (λab h=>?_)
  .refine X 4 1 ?_;cases h;exact tD
  refine X 6 1 (sQ (ai SI J (Y 3 1 (itr (λbn:Int=>mkA 48 [(1,.ptr 0 0),(18,sL aT p0.Sectors),(19,iI ((p0.Sectors).length:Int)),(20,iI bn)]) (λbn=>[.box (co p0)]) h (wk [] [0] 1 J) (λbn v_8 h my=>?_)))));revert my h;revert bn;intro s2 h my;replace h:kb p0 s2=some v_8:=h;try dsimp only
  unfold kb at h;refine X 5 1 (Sv h J (λbY h=>?_) (λbY h=>?_))
  .refine B h λx4 hx4 h=>(X 5 1 (sQ (aB SI (λ_=>J) J J hx4 (Y 9 1 (Sv h J (λfb h=>?_) (λfb h=>?_))))))
   .refine X 4 1 ?_;replace h:=mi h my;cases h;exact tD
   exact X 5 1 (lk h (wk [] [0] 1 J))
  refine X 1 1 ?_;replace h:=mi h my;refine X 5 1 (sQ (ai SN J (Y 3 1 (itr (λfW:Int=>mkA 48 [(29,sL bb p0.Wait),(30,iI ((p0.Wait).length:Int)),(31,iI fW)]) (λfW=>[]) h (wk [] [] 1 J) (λfW v_22 h ox=>?_)))));revert ox h;revert fW;intro s5 h ox;replace h:ly p0 s5=some v_22:=h;try dsimp only
  unfold ly at h;refine X 5 0 (Sv h J (λoz h=>?_) (λoz h=>?_))
  .refine B h λx7 hx7 h=>(X 5 0 (sQ (aB SN (λ_=>J) J J hx7 (Y 5 0 (j1 [(6,.ptr 0 0),(29,sL bb p0.Wait),(30,iI ((p0.Wait).length:Int)),(31,iI s5),(42,.bool ((decide (x7.At<0))||decide (x7.At>=200)))] [.box (bb x7)] ?_ (λhK=>?_))))))
   .refine Sv h J (λt8 h=>?_) (λt8 h=>?_)
    .refine X 4 1 ?_;replace h:=mi h ox;cases h;exact tD
    refine X 8 1 (Sv h J (λow h=>?_) (λow h=>?_))
    .refine X 4 1 ?_;replace h:=mi h ox;cases h;exact tD
    exact X 5 1 (lk h (wk [] [] 1 J))
   refine X 6 1 (gp 38 (λkV=>?_) (λkV=>?_))
   .refine Yp 5 1 ?_;rw[kV]at hK;exact sx hK
   refine Yp 5 1 ?_;rw[kV]at hK;exact sx hK
  refine X 1 0 ?_;replace h:=mi h ox;refine X 4 0 ?_;cases h;exact tD
 refine X 4 1 (sQ (ai SI J (Y 2 1 (gp 11 (λae=>?_) (λae=>?_)))))
 .refine Yp 6 1 ?_;rw[ae]at hK;exact sx hK
 refine Y 2 1 (yQ J (ai SN J (Yp 3 1 ?_)));rw[ae]at hK;exact sx hK
theorem A8 {p0:Shop}(h:pI p0=some r):Fn Qbl 21 [.agg (ca p0)] (iI r):=by
 unfold pI at h;refine fT 0 0 Tryz.func21 Tryz.ntmps21 J ?_;refine B h λx2 hx2 h=>(X 14 0 (sO (cF (vq hx2) ⟨J,(Y 7 1 (Sv h J (λae h=>?_) (λae h=>?_)))⟩)))
 .refine X 5 1 ?_;cases h;exact tD
 refine B h λx4 hx4 h=>(X 6 1 (sO (cF (ni hx4) ⟨J,(Y 7 1 (Sv h J (λab h=>?_) (λab h=>?_)))⟩)))
 .refine X 5 1 ?_;cases h;exact tD
 refine X 2 1 (j1 [(1,.ptr 0 0),(73,.bool ((decide (p0.Safe<0))||((decide (p0.Safe> p0.Logged))||((decide (p0.Logged> ((p0.S.Choices).length:Int)))||((decide (p0.Epoch<0))||((decide (p0.Epoch> 200))||((decide (p0.Laid<(-1)))||((decide (p0.Laid> ((p0.S.Choices).length:Int)))||((decide (p0.Next<0))||decide (p0.Next> 80))))))))))] [.box (ca p0)] ?_ (λhK=>?_))
 .refine Sv h J (λot h=>?_) (λot h=>?_)
  .refine X 4 1 ?_;cases h;exact tD
  refine X 6 1 (sQ (ai Sy J (Y 2 1 (Sv h J (λfY h=>?_) (λfY h=>?_)))))
  .refine X 4 1 ?_;cases h;exact tD
  refine X 5 1 ?_;cases h;exact tD
 refine X 6 1 (gp 24 (λap=>?_) (λap=>?_))
 .refine Yp 50 1 ?_;rw[ap]at hK;exact sx hK
 refine Yp 7 1 (gp 31 (λaC=>?_) (λaC=>?_))
 .refine Yp 43 1 ?_;rw[ap]at hK;rw[aC]at hK;exact sx hK
 refine Y 5 1 (yQ J (ai Sz J (Yp 3 1 (gp 40 (λaI=>?_) (λaI=>?_)))))
 .refine Yp 34 1 ?_;rw[ap]at hK;rw[aC]at hK;rw[aI]at hK;exact sx hK
 refine Yp 5 1 (gp 45 (λaM=>?_) (λaM=>?_))
 .refine Yp 29 1 ?_;rw[ap]at hK;rw[aC]at hK;rw[aI]at hK;rw[aM]at hK;exact sx hK
 refine Yp 5 1 (gp 50 (λbN=>?_) (λbN=>?_))
 .refine Yp 24 1 ?_;rw[ap]at hK;rw[aC]at hK;rw[aI]at hK;rw[aM]at hK;rw[bN]at hK;exact sx hK
 refine Yp 5 1 (gp 55 (λbi=>?_) (λbi=>?_))
 .refine Yp 19 1 ?_;rw[ap]at hK;rw[aC]at hK;rw[aI]at hK;rw[aM]at hK;rw[bN]at hK;rw[bi]at hK;exact sx hK
 refine Y 5 1 (yQ J (ai Sz J (Yp 3 1 (gp 64 (λbY=>?_) (λbY=>?_)))))
 .refine Yp 10 1 ?_;rw[ap]at hK;rw[aC]at hK;rw[aI]at hK;rw[aM]at hK;rw[bN]at hK;rw[bi]at hK;rw[bY]at hK;exact sx hK
 refine Yp 5 1 (gp 69 (λfb=>?_) (λfb=>?_))
 .refine Yp 5 1 ?_;rw[ap]at hK;rw[aC]at hK;rw[aI]at hK;rw[aM]at hK;rw[bN]at hK;rw[bi]at hK;rw[bY]at hK;rw[fb]at hK;exact sx hK
 refine Yp 5 1 ?_;rw[ap]at hK;rw[aC]at hK;rw[aI]at hK;rw[aM]at hK;rw[bN]at hK;rw[bi]at hK;rw[bY]at hK;rw[fb]at hK;exact sx hK
theorem GW {p0 r:U (U Item)}(h:uI p0=some r):FnO Qbl 128 [.sl (List.map (ak aa) p0)] (.ref 0) [.arr 30 1 (List.map (ak aa) r)]:=by
 have hr:p0=r:=by
  unfold uI app at h;split at h
  .simpa using h
  .cases h
 refine iJ (N:=0) J Tryz.func128 J (by kernel_rfl) Tryz.ntmps128 J ?_;show T _ _ _ _ (mkA 8 [(0,.sl (List.map (ak aa) p0))]) [];refine T.seq ?_;refine T.region ?_;refine RS.op J (SJ J (db (v:=.nils) J ?_));refine RS.nil ?_;refine T.seq ?_;refine T.seq ?_;refine T.region ?_;refine RS.op J (SJ J (eu (v:=.sl (List.map (ak aa) p0)) J ?_));refine RS.op J (SJ J (kD SA J J (λz hz=>?_)));refine RS.nil ?_;refine T.cond (b:=z) J (λhb=>?_) (λhb=>?_)
 .refine T.seq ?_;refine T.region ?_;refine RS.op J (SJ J (db (v:=.nils) J ?_));refine RS.nil ?_;refine T.ret ?_;refine eP (v:=.nils) J ?_;refine eO ?_;have h0:p0=[]:=Q6.1 (hz hb);exact eQ (.ref 0) [(0,30,1)] [0] (by decide) (bP _) J (bX J) (eB (en:=(ak aa)) (ys:=[]) J (om fj) (by rw[<- hr,h0]) (aA)) ⟨J,J⟩
 .refine T.skip ?_;refine T.seq ?_;refine T.region ?_;refine RS.op J (be (rows:=List.map (ak aa) []) (vs:=[]) SA SU J J J J J (aw':=[.arr 30 1 (List.map (ak aa) [])]) J ?_);refine RS.op J (SJ J (eu (v:=.sl (List.map (ak aa) p0)) J ?_));refine RS.op J (bQ (en:=(ak aa)) (xs:=([]:U (U Item))) (ys:=p0) (r:=r) SA (λ_=>J) J J J h J (aw':=[.dead,.arr 30 1 (List.map (ak aa) r)]) J ?_);refine RS.op J (SJ J (db (v:=.ref 1) J ?_));refine RS.nil ?_;refine T.ret ?_;refine eP (v:=.ref 1) J ?_;refine eO ?_;exact eQ (.ref 0) [] [1] (by decide) (bP _) J (bX J) (eB J (om fj) J (aA)) ⟨J,J⟩
theorem Hg {p0 r:U Memory}(h:uX p0=some r):FnO Qbl 129 [.sl (List.map aq p0)] (.ref 0) [.arr 84 3 (List.map aq r)]:=by
 have hr:p0=r:=by
  unfold uX app at h;split at h
  .simpa using h
  .cases h
 refine iJ (N:=0) J Tryz.func129 J (by kernel_rfl) Tryz.ntmps129 J ?_;show T _ _ _ _ (mkA 8 [(0,.sl (List.map aq p0))]) [];refine T.seq ?_;refine T.region ?_;refine RS.op J (SJ J (db (v:=.nils) J ?_));refine RS.nil ?_;refine T.seq ?_;refine T.seq ?_;refine T.region ?_;refine RS.op J (SJ J (eu (v:=.sl (List.map aq p0)) J ?_));refine RS.op J (SJ J (kD SE J J (λz hz=>?_)));refine RS.nil ?_;refine T.cond (b:=z) J (λhb=>?_) (λhb=>?_)
 .refine T.seq ?_;refine T.region ?_;refine RS.op J (SJ J (db (v:=.nils) J ?_));refine RS.nil ?_;refine T.ret ?_;refine eP (v:=.nils) J ?_;refine eO ?_;have h0:p0=[]:=Q6.1 (hz hb);exact eQ (.ref 0) [(0,84,3)] [0] (by decide) (bP _) J (bX J) (eB (en:=aq) (ys:=[]) J nE (by rw[<- hr,h0]) (aA)) ⟨J,J⟩
 .refine T.skip ?_;refine T.seq ?_;refine T.region ?_;refine RS.op J (be (rows:=List.map aq []) (vs:=[]) SE SV J J J J J (aw':=[.arr 84 3 (List.map aq [])]) J ?_);refine RS.op J (SJ J (eu (v:=.sl (List.map aq p0)) J ?_));refine RS.op J (bQ (en:=aq) (xs:=([]:U Memory)) (ys:=p0) (r:=r) SE (λ_=>J) J J J h J (aw':=[.dead,.arr 84 3 (List.map aq r)]) J ?_);refine RS.op J (SJ J (db (v:=.ref 1) J ?_));refine RS.nil ?_;refine T.ret ?_;refine eP (v:=.ref 1) J ?_;refine eO ?_;exact eQ (.ref 0) [] [1] (by decide) (bP _) J (bX J) (eB J nE J (aA)) ⟨J,J⟩
theorem AD {p0 r:U Keyed}(h:lq p0=some r):FnO Qbl 133 [.sl (List.map aH p0)] (.ref 0) [.arr 139 2 (List.map aH r)]:=by
 have hr:p0=r:=by
  unfold lq app at h;split at h
  .simpa using h
  .cases h
 refine iJ (N:=0) J Tryz.func133 J (by kernel_rfl) Tryz.ntmps133 J ?_;show T _ _ _ _ (mkA 8 [(0,.sl (List.map aH p0))]) [];refine T.seq ?_;refine T.region ?_;refine RS.op J (SJ J (db (v:=.nils) J ?_));refine RS.nil ?_;refine T.seq ?_;refine T.seq ?_;refine T.region ?_;refine RS.op J (SJ J (eu (v:=.sl (List.map aH p0)) J ?_));refine RS.op J (SJ J (kD SB J J (λz hz=>?_)));refine RS.nil ?_;refine T.cond (b:=z) J (λhb=>?_) (λhb=>?_)
 .refine T.seq ?_;refine T.region ?_;refine RS.op J (SJ J (db (v:=.nils) J ?_));refine RS.nil ?_;refine T.ret ?_;refine eP (v:=.nils) J ?_;refine eO ?_;have h0:p0=[]:=Q6.1 (hz hb);exact eQ (.ref 0) [(0,139,2)] [0] (by decide) (bP _) J (bX J) (eB (en:=aH) (ys:=[]) J km (by rw[<- hr,h0]) (aA)) ⟨J,J⟩
 .refine T.skip ?_;refine T.seq ?_;refine T.region ?_;refine RS.op J (be (rows:=List.map aH []) (vs:=[]) SB Ta J J J J J (aw':=[.arr 139 2 (List.map aH [])]) J ?_);refine RS.op J (SJ J (eu (v:=.sl (List.map aH p0)) J ?_));refine RS.op J (bQ (en:=aH) (xs:=([]:U Keyed)) (ys:=p0) (r:=r) SB (λ_=>J) J J J h J (aw':=[.dead,.arr 139 2 (List.map aH r)]) J ?_);refine RS.op J (SJ J (db (v:=.ref 1) J ?_));refine RS.nil ?_;refine T.ret ?_;refine eP (v:=.ref 1) J ?_;refine eO ?_;exact eQ (.ref 0) [] [1] (by decide) (bP _) J (bX J) (eB J km J (aA)) ⟨J,J⟩
theorem xv {p0 r:Memory}(h:ki p0=some r):FnO Qbl 130 [.agg (aq p0)] (.agg [iI r.Sum,.ref 0,iI r.Dep]) [aR 139 2 aH r.Keys]:=by
 unfold ki at h;refine fT 0 0 Tryz.func130 Tryz.ntmps130 J ?_;refine B h λx2 hx2 h=>(X 9 0 (sO (cO 2 (AD hx2) ⟨J,(Y 8 3 ?_)⟩)))
 cases h;exact tO [] [2] 3
theorem rz {p0 r:U Choice}(h:oY p0=some r):FnO Qbl 131 [.sl (List.map an p0)] (.ref 0) [.arr 50 2 (List.map an r)]:=by
 have hr:p0=r:=by
  unfold oY app at h;split at h
  .simpa using h
  .cases h
 refine iJ (N:=0) J Tryz.func131 J (by kernel_rfl) Tryz.ntmps131 J ?_;show T _ _ _ _ (mkA 8 [(0,.sl (List.map an p0))]) [];refine T.seq ?_;refine T.region ?_;refine RS.op J (SJ J (db (v:=.nils) J ?_));refine RS.nil ?_;refine T.seq ?_;refine T.seq ?_;refine T.region ?_;refine RS.op J (SJ J (eu (v:=.sl (List.map an p0)) J ?_));refine RS.op J (SJ J (kD Sz J J (λz hz=>?_)));refine RS.nil ?_;refine T.cond (b:=z) J (λhb=>?_) (λhb=>?_)
 .refine T.seq ?_;refine T.region ?_;refine RS.op J (SJ J (db (v:=.nils) J ?_));refine RS.nil ?_;refine T.ret ?_;refine eP (v:=.nils) J ?_;refine eO ?_;have h0:p0=[]:=Q6.1 (hz hb);exact eQ (.ref 0) [(0,50,2)] [0] (by decide) (bP _) J (bX J) (eB (en:=an) (ys:=[]) J ny (by rw[<- hr,h0]) (aA)) ⟨J,J⟩
 .refine T.skip ?_;refine T.seq ?_;refine T.region ?_;refine RS.op J (be (rows:=List.map an []) (vs:=[]) Sz Tc J J J J J (aw':=[.arr 50 2 (List.map an [])]) J ?_);refine RS.op J (SJ J (eu (v:=.sl (List.map an p0)) J ?_));refine RS.op J (bQ (en:=an) (xs:=([]:U Choice)) (ys:=p0) (r:=r) Sz (λ_=>J) J J J h J (aw':=[.dead,.arr 50 2 (List.map an r)]) J ?_);refine RS.op J (SJ J (db (v:=.ref 1) J ?_));refine RS.nil ?_;refine T.ret ?_;refine eP (v:=.ref 1) J ?_;refine eO ?_;exact eQ (.ref 0) [] [1] (by decide) (bP _) J (bX J) (eB J ny J (aA)) ⟨J,J⟩
theorem Br {p0 r:State}(h:lS p0=some r):FnO Qbl 75 [.agg (bD p0)] (.agg [.ref 0,.ref 1,.ref 2,.ref 3,.ref 4]) [aR 3 1 aj r.At,aR 30 1 (ak aa) r.Rings,aR 84 3 aq r.Memory,aR 50 2 an r.Choices,aR 75 3 aa r.Out]:=by
 unfold lS at h;refine fT 0 0 Tryz.func75 Tryz.ntmps75 J ?_;refine B h λx2 hx2 h=>(X 9 0 (sO (cO 2 (dC hx2) ⟨J,(B h λx4 hx4 h=>(Y 7 3 (sO (cQ 3 (GW hx4) ⟨J,(Y 8 4 (sQ (cP (en:=(ak aa)) SA J J (Y 3 4 (itr (λbn:Int×(U (U Item))=>mkA 60 [(1,.ptr 0 0),(2,.ptr 1 0),(15,iI ((x4).length:Int)),(16,iI bn.1)]) (λbn=>[.box [.ref 2,.ref 3,sL aq p0.Memory,sL an p0.Choices,sL aa p0.Out],.box [.nils,.nils,.nils,.nils,.nils],aR 3 1 aj x2,aR 30 1 (ak aa) bn.2]) h (wk [] [0,1,2,3] 4 J) (λbn v_8 h my=>?_))))))⟩))))⟩)))
 obtain⟨s5,s6⟩:=bn;replace h:lz p0 x2 x4 s5 s6=some v_8:=h;try dsimp only
 unfold lz at h;refine X 5 4 (Sv h J (λbY h=>?_) (λbY h=>?_))
 .refine B h λx7 hx7 h=>(B h λx8 hx8 h=>(B h λx9 hx9 h=>(B h λx10 ba h=>(B h λx11 bA h=>(X 8 4 (T.drawn mixed (k:=11) J ?_))))))
  apply Su 1 (bm 11 1023);intro cN;apply Su 3 (bm 11 255);intro cE
  .refine rq [0,2,3,5] 7 (rL [4,6,7,8,9,10] 4 J (r0 6 J (aK (en:=(ak aa)) SA J J J hx7 (ra2 1 7 ?_ ?_))))
   .exact og 4 ⟨J,(ra1 7 (oO J (aU (en:=(ak aa)) (a:=x8) J J hx8 (aN SH (c:=sL aa x8) J (raE cE)))))⟩
   .refine oO J (aU (en:=(ak aa)) (a:=x8) J J hx8 (aN SH (c:=sL aa x8) J (ra2 1 8 ?_ ?_)))
    .exact og 4 ⟨J,(raT cE)⟩
    .exact oO J (cO 4 (fH hx9) ⟨J,(ra1 1 (og 5 ⟨J,(r0 9 J (aK (en:=(ak aa)) SA J J J ba (raE cN)))⟩))⟩)
  .exact ra1 8 (oO J (cO 4 (fH hx9) ⟨J,(r0 9 J (aK (en:=(ak aa)) SA J J J ba (raT cN)))⟩))
  exact ra1 10 (RO.fC 4 (oO J (eK (en:=(ak aa)) (a:=x11) (a':=x9) Tf Tj J (vs:=[sL aa x9]) J J J bA J J J (RA.done (by decide+kernel) (X 4 5 (lk h (wk [] [0,1,2,3] 5 J)))))))
 refine X 1 4 ?_;replace h:=mi h my;refine B h λx13 dJ h=>(X 4 4 (sO (cQ 4 (Hg dJ) ⟨J,(Y 8 5 (sQ (cP (en:=aq) SE J J (Y 3 5 (itr (λmo:Int×(U Memory)=>mkA 60 [(1,.ptr 0 0),(2,.ptr 1 0),(36,iI ((x13).length:Int)),(37,iI mo.1)]) (λmo=>[.box [.ref 2,.ref 3,.ref 4,sL an p0.Choices,sL aa p0.Out],.box [.nils,.nils,.nils,.nils,.nils],aR 3 1 aj x2,aR 30 1 (ak aa) s6,aR 84 3 aq mo.2]) h (wk [] [0,1,2,3,4] 5 J) (λmo v_20 h P3=>?_))))))⟩)))
 obtain⟨s14,s15⟩:=mo;replace h:nr p0 x2 s6 x13 s14 s15=some v_20:=h;try dsimp only
 unfold nr at h;refine X 5 5 (Sv h J (λua h=>?_) (λua h=>?_))
 .refine B h λx16 d7 h=>(B h λx17 cz h=>(B h λx18 b7 h=>(B h λx19 cM h=>(B h λx20 dS h=>(X 8 5 (T.drawn mixed (k:=11) J ?_))))))
  apply Su 1 (bm 11 1023);intro GJ;apply Su 3 (bm 11 255);intro jQ
  .refine rq [0,2,3,5] 7 (rL [4,6,7,8,9,10] 4 J (r0 6 J (aK (en:=aq) SE J J J d7 (ra2 1 7 ?_ ?_))))
   .exact og 5 ⟨J,(ra1 7 (oO J (aU (en:=aq) (a:=x17) J J cz (eM S6 SY J (cs:=(aq x17)) J (raE jQ)))))⟩
   .refine oO J (aU (en:=aq) (a:=x17) J J cz (eM S6 SY J (cs:=(aq x17)) J (ra2 1 8 ?_ ?_)))
    .exact og 5 ⟨J,(raT jQ)⟩
    .exact oO J (cG [] 5 1 (SG (xv b7)) ⟨J,(ra1 1 (og 6 ⟨J,(r0 9 J (aK (en:=aq) SE J J J cM (raE GJ)))⟩))⟩)
  .exact ra1 8 (oO J (cG [] 5 1 (SG (xv b7)) ⟨J,(r0 9 J (aK (en:=aq) SE J J J cM (raT GJ)))⟩))
  exact ra1 10 (RO.fC 5 (oO J (eK (en:=aq) (a:=x20) (a':=x18) SY Tv J (vs:=[iI x18.Sum,sL aH x18.Keys,iI x18.Dep]) J J J dS J J J (RA.done (by decide+kernel) (X 4 6 (lk h (wk [] [0,1,2,3,4] 6 J)))))))
 refine X 1 5 ?_;replace h:=mi h P3;refine B h λx22 eS h=>(X 4 5 (sO (cO 5 (rz eS) ⟨J,(B h λx24 aS h=>(Y 7 6 (sO (cO 6 (fH aS) ⟨J,(Y 8 7 ?_)⟩))))⟩)))
 cases h;exact tO [] [2,3,4,5,6] 7
theorem ld {p0 r:U (U UInt8)}(h:mN p0=some r):FnO Qbl 76 [.sl (List.map aT p0)] (.ref 0) [.arr 9 1 (List.map aT r)]:=by
 have hr:p0=r:=by
  unfold mN app at h;split at h
  .simpa using h
  .cases h
 refine iJ (N:=0) J Tryz.func76 J (by kernel_rfl) Tryz.ntmps76 J ?_;show T _ _ _ _ (mkA 8 [(0,.sl (List.map aT p0))]) [];refine T.seq ?_;refine T.region ?_;refine RS.op J (SJ J (db (v:=.nils) J ?_));refine RS.nil ?_;refine T.seq ?_;refine T.seq ?_;refine T.region ?_;refine RS.op J (SJ J (eu (v:=.sl (List.map aT p0)) J ?_));refine RS.op J (SJ J (kD SI J J (λz hz=>?_)));refine RS.nil ?_;refine T.cond (b:=z) J (λhb=>?_) (λhb=>?_)
 .refine T.seq ?_;refine T.region ?_;refine RS.op J (SJ J (db (v:=.nils) J ?_));refine RS.nil ?_;refine T.ret ?_;refine eP (v:=.nils) J ?_;refine eO ?_;have h0:p0=[]:=Q6.1 (hz hb);exact eQ (.ref 0) [(0,9,1)] [0] (by decide) (bP _) J (bX J) (eB (en:=aT) (ys:=[]) J tI (by rw[<- hr,h0]) (aA)) ⟨J,J⟩
 .refine T.skip ?_;refine T.seq ?_;refine T.region ?_;refine RS.op J (be (rows:=List.map aT []) (vs:=[]) SI TH J J J J J (aw':=[.arr 9 1 (List.map aT [])]) J ?_);refine RS.op J (SJ J (eu (v:=.sl (List.map aT p0)) J ?_));refine RS.op J (bQ (en:=aT) (xs:=([]:U (U UInt8))) (ys:=p0) (r:=r) SI (λ_=>J) J J J h J (aw':=[.dead,.arr 9 1 (List.map aT r)]) J ?_);refine RS.op J (SJ J (db (v:=.ref 1) J ?_));refine RS.nil ?_;refine T.ret ?_;refine eP (v:=.ref 1) J ?_;refine eO ?_;exact eQ (.ref 0) [] [1] (by decide) (bP _) J (bX J) (eB J tI J (aA)) ⟨J,J⟩
theorem xe {p0 r:U Write}(h:o5 p0=some r):FnO Qbl 77 [.sl (List.map bb p0)] (.ref 0) [.arr 132 2 (List.map bb r)]:=by
 have hr:p0=r:=by
  unfold o5 app at h;split at h
  .simpa using h
  .cases h
 refine iJ (N:=0) J Tryz.func77 J (by kernel_rfl) Tryz.ntmps77 J ?_;show T _ _ _ _ (mkA 8 [(0,.sl (List.map bb p0))]) [];refine T.seq ?_;refine T.region ?_;refine RS.op J (SJ J (db (v:=.nils) J ?_));refine RS.nil ?_;refine T.seq ?_;refine T.seq ?_;refine T.region ?_;refine RS.op J (SJ J (eu (v:=.sl (List.map bb p0)) J ?_));refine RS.op J (SJ J (kD SN J J (λz hz=>?_)));refine RS.nil ?_;refine T.cond (b:=z) J (λhb=>?_) (λhb=>?_)
 .refine T.seq ?_;refine T.region ?_;refine RS.op J (SJ J (db (v:=.nils) J ?_));refine RS.nil ?_;refine T.ret ?_;refine eP (v:=.nils) J ?_;refine eO ?_;have h0:p0=[]:=Q6.1 (hz hb);exact eQ (.ref 0) [(0,132,2)] [0] (by decide) (bP _) J (bX J) (eB (en:=bb) (ys:=[]) J pL (by rw[<- hr,h0]) (aA)) ⟨J,J⟩
 .refine T.skip ?_;refine T.seq ?_;refine T.region ?_;refine RS.op J (be (rows:=List.map bb []) (vs:=[]) SN Tb J J J J J (aw':=[.arr 132 2 (List.map bb [])]) J ?_);refine RS.op J (SJ J (eu (v:=.sl (List.map bb p0)) J ?_));refine RS.op J (bQ (en:=bb) (xs:=([]:U Write)) (ys:=p0) (r:=r) SN (λ_=>J) J J J h J (aw':=[.dead,.arr 132 2 (List.map bb r)]) J ?_);refine RS.op J (SJ J (db (v:=.ref 1) J ?_));refine RS.nil ?_;refine T.ret ?_;refine eP (v:=.ref 1) J ?_;refine eO ?_;exact eQ (.ref 0) [] [1] (by decide) (bP _) J (bX J) (eB J pL J (aA)) ⟨J,J⟩
theorem ng {p0 r:Shop}(h:iw p0=some r):FnO Qbl 34 [.agg (ca p0)] (.agg [sL ao r.N.Nodes,iI r.N.Rings,iI r.N.Room,sL (ak aa) r.Items,sL aj r.S.At,sL (ak aa) r.S.Rings,sL aq r.S.Memory,sL an r.S.Choices,sL aa r.S.Out,sL aT r.D.Sectors,sL bb r.D.Wait,iI r.Logged,iI r.Safe,iI r.Epoch,iI r.Laid,iI r.Next,.ref 0,.bool r.Down]) [aR 75 3 aa r.Told]:=by
 unfold iw at h;refine fT 0 0 Tryz.func34 Tryz.ntmps34 J ?_;refine B h λx4 hx4 h=>(B h λx5 hx5 h=>(B h λx6 hx6 h=>(X 6 0 (T.drawn mixed (k:=15) J ?_))))
 apply Su 6 (bm 15 767);intro hS1;apply Su 7 (bm 15 735);intro hS2;apply Su 9 (bm 15 95);intro hS3;apply Su 9 (bm 15 219);intro hS4
 .refine rq [0,3,6] 12 (rL [1,2,5,8,9,10,11,12,13,14] 1 J (ra3 2 4 7 ?_ ?_ ?_))
  .exact oO J (cD (pJ hx4) ⟨J,(rL [4,5,8,9,10,11,12,13,14] 4 J (raE hS3))⟩)
  .refine og 2 ⟨J,(ra2 2 7 ?_ ?_)⟩
   .exact oO J (cD (pJ hx4) ⟨J,(raT hS3)⟩)
   .exact og 2 ⟨J,(raE hS4)⟩
  .refine og 2 ⟨J,(ra2 2 4 ?_ ?_)⟩
   .exact oO J (cD (pJ hx4) ⟨J,(ra1 4 (og 2 ⟨J,(rq [9] 7 (raE hS2))⟩))⟩)
   .exact og 2 ⟨J,(raT hS4)⟩
 .exact ra1 2 (oO J (cD (pJ hx4) ⟨J,(rq [9] 7 (raT hS2))⟩))
 .refine ra2 5 7 ?_ ?_
  .exact oO J (cQ 2 (u5 hx5) ⟨J,(ra1 7 (og 3 ⟨J,(rq [9] 6 (raE hS1))⟩))⟩)
  .exact og 2 ⟨J,(rq [9] 7 (raT hS2))⟩
 .exact ra1 5 (oO J (cQ 2 (u5 hx5) ⟨J,(raT hS1)⟩))
 refine ra1 8 (oO J (cG [] 3 5 (SG (Br hx6)) ⟨J,(ra1 10 (og 8 ⟨J,(rq [11] 3 (ra1 12 (og 8 ⟨J,(rq [13] 1 (ra1 14 (og 8 ⟨J,?_⟩)))⟩)))⟩))⟩));refine RA.done (by decide+kernel) (B h λx9 hx9 h=>(B h λx10 ba h=>(X 1 8 (T.drawn mixed (k:=11) J ?_))));apply Su 4 (bm 11 127);intro hS5
 .refine rq [0,1,4,5] 7 (rL [2,3,7,8,9,10] 2 J (ra2 3 6 ?_ ?_))
  .exact oO J (cO 8 (ld hx9) ⟨J,(ra1 6 (og 9 ⟨J,(raE hS5)⟩))⟩)
  .exact og 8 ⟨J,(ra1 3 (oO J (cO 8 (ld hx9) ⟨J,(raT hS5)⟩)))⟩
 refine ra1 7 (oO J (cO 9 (xe ba) ⟨J,(rq [8,9] 1 (ra1 10 (og 10 ⟨J,(RA.done (by decide+kernel) (B h λx12 bB h=>(X 4 10 (sO (cO 10 (fH bB) ⟨J,(Y 8 11 ?_)⟩)))))⟩)))⟩));refine T.fC 2 (T.fC 3 (T.fC 4 (T.fC 5 (T.fC 6 (T.fC 7 (T.fC 8 (T.fC 9 ?_)))))));cases h;exact tO [] [10] 11
theorem xB {p3:Move}{r:Item×Bool}(h:pW p0 p1 p2 p3=some r):Fn Qbl 144 [.agg (aD p0),sL (ak aa) p1,.agg (bD p2),.agg (aV p3)] (.tup [.agg (aa r.1),.bool r.2]):=by
 unfold pW at h;refine fT 0 0 Tryz.func144 Tryz.ntmps144 J ?_;refine B h λx2 hx2 h=>(X 14 0 (sQ (aB Sw (λ_=>J) J J hx2 (Y 11 4 (Sv h J (λae h=>?_) (λae h=>?_))))))
 .refine B h λx5 hx5 h=>(B h λx6 hx6 h=>(X 2 5 (T.drawn mixed (k:=13) J (rq [0,2,6,7] 9 (rL [8,9,10,11,12] 8 J (r0 9 J (aB SA (λ_=>J) J J hx6 (rL [10,11,12] 10 J (r0 11 J (ai Sy J (rL [1,4,5,12] 1 J ?_)))))))))))
  refine ra1 3 (og 5 ⟨J,(r0 4 J (aB Sx (λ_=>J) J J hx5 (ra1 5 (og 5 ⟨J,(rq [12] 0 (RA.done (by decide+kernel) (Sv h J (λab h=>?_) (λab h=>?_))))⟩))))⟩)
  .refine X 6 5 ?_;cases h;exact tD
  refine B h λx10 ba h=>(B h λx11 bA h=>(B h λx12 bB h=>(X 2 5 (T.drawn mixed (k:=15) J (rq [0,1,5,7] 11 (rL [2,3,4,11,12,13,14] 2 J (r0 3 J (aB SA (λ_=>J) J J ba (rL [4,11,12,13,14] 4 J (rL [6,9,10,11,12,13,14] 6 J ?_))))))))))
  refine ra1 8 (og 5 ⟨J,(r0 9 J (aB Sx (λ_=>J) J J bA (ra1 10 (og 5 ⟨J,(r0 11 J (aB Sy (λ_=>J) J J bB (ra1 12 (og 5 ⟨J,(ra1 13 (og 5 ⟨J,?_⟩))⟩))))⟩))))⟩);refine rq [14] 0 (RA.done (by decide+kernel) ?_);cases h;exact tD
 refine B h λx15 cU h=>(B h λx16 d7 h=>(X 2 5 (T.drawn mixed (k:=11) J (rq [0,2,4] 8 (rL [1,8,9,10] 1 J (rL [3,6,7,8,9,10] 3 J (ra1 5 (og 5 ⟨J,(r0 6 J (aB Sx (λ_=>J) J J cU ?_))⟩))))))))
 refine ra1 7 (og 5 ⟨J,(r0 8 J (aB SA (λ_=>J) J J d7 (ra1 9 (og 5 ⟨J,(rq [10] 0 (RA.done (by decide+kernel) (X 4 5 (sQ (ai Sy J (Y 2 5 ?_))))))⟩))))⟩);refine Sv h J (λap h=>?_) (λap h=>?_)
 .refine X 6 5 ?_;cases h;exact tD
 refine B h λx18 b7 h=>(X 4 5 (sQ (aB Sy (λ_=>J) J J b7 (Y 4 5 ?_))))
 cases h;exact tD
theorem Iz {p0:Item}{p1:Int}{r:Int×Int}(h:sD p0 p1=some r):Fn Qbl 160 [.agg (aa p0),iI p1] (.tup [iI r.1,iI r.2]):=by
 unfold sD at h;refine fT 0 7 Tryz.func160 Tryz.ntmps160 J (j1 [(1,iI p1),(2,.ptr 0 0),(11,.bool ((decide (p1<1))||decide (p1> 16)))] [.box (aa p0)] ?_ (λhK=>?_))
 .refine Sv h J (λab h=>?_) (λab h=>?_)
  .refine X 5 1 ?_;cases h;exact tD
  refine B h λx4 hx4 h=>(B h λx5 hx5 h=>(X 6 1 (sQ (ii J J hx4 (Y 3 1 (sQ (ii J J hx5 (Y 3 1 ?_))))))))
  cases h;exact tD
 refine X 5 1 (gp 8 (λae=>?_) (λae=>?_))
 .refine Yp 4 1 ?_;rw[ae]at hK;exact sx hK
 refine Yp 4 1 ?_;rw[ae]at hK;exact sx hK
theorem By {p0:Node}{p1:Item}{r:U Int}(h:pM p0 p1=some r):Fn Qbl 146 [.agg (ao p0),.agg (aa p1)] (sL aj r):=by
 unfold pM at h;refine fT 0 13 Tryz.func146 Tryz.ntmps146 J (Sv h J (λae h=>?_) (λae h=>?_))
 .refine X 6 2 ?_;cases h;exact tD
 refine B h λx2 hx2 h=>(X 6 2 (sQ (ai Sx J (sO (cF (Iz hx2) ⟨J,(B h λx4 hx4 h=>(Y 13 2 (sO (pK Sx (λ_=>J) J J J hx4 (Y 2 2 ?_)))))⟩)))))
 cases h;exact tD
theorem HJ {p0:Int}{p1:U Int}{p2:U (U Item)}{r:Bool}(h:u3 p0 p1 p2 p3 p4 p5 p6 p7 p8=some r):FnX Qbl 147 [iI p0,.ptr 0 0,.ptr 1 0] [.box [sL aj p1,sL (ak aa) p2,sL aq p3,sL an p4,sL aa p5],.box [sL ao p6,iI p7,iI p8]] (.bool r) [.box [sL aj p1,sL (ak aa) p2,sL aq p3,sL an p4,sL aa p5],.box [sL ao p6,iI p7,iI p8]]:=by
 unfold u3 at h;refine fT 2 0 Tryz.func147 Tryz.ntmps147 J ?_;refine B h λx2 hx2 h=>(X 5 2 (T.drawn mixed (k:=10) J (rq [0,2,6] 7 (rL [1,3,4,5,8,9] 1 J (r0 3 J (aB SA (λ_=>J) J J hx2 (rL [4,5,8,9] 4 J (r0 5 J (ai Sy J (ra1 7 (og 2 ⟨J,?_⟩)))))))))))
 refine rq [8,9] 0 (RA.done (by decide+kernel) ?_);cases h;exact tN [0,1]
theorem G3 {p0 p1:U Int}{p2:U (U Item)}(h:uL p0 p1 p2 p3 p4 p5 p6 p7 p8=some r):FnX Qbl 159 [sL aj p0,.func 147 [.ptr 0 0,.ptr 1 0]] [.box [sL aj p1,sL (ak aa) p2,sL aq p3,sL an p4,sL aa p5],.box [sL ao p6,iI p7,iI p8]] (iI r) [.box [sL aj p1,sL (ak aa) p2,sL aq p3,sL an p4,sL aa p5],.box [sL ao p6,iI p7,iI p8]]:=by
 unfold uL at h;refine fT 2 8 Tryz.func159 Tryz.ntmps159 J (sQ (ai Sx J (Y 3 2 (itr (λam:Int=>mkA 19 [(0,sL aj p0),(1,.func 147 [.ptr 0 0,.ptr 1 0]),(7,iI ((p0).length:Int)),(8,iI am)]) (λam=>[.box [sL aj p1,sL (ak aa) p2,sL aq p3,sL an p4,sL aa p5],.box [sL ao p6,iI p7,iI p8]]) h (wk [] [0,1] 2 J) (λam v_6 h bu=>?_)))));revert bu h;revert am;intro s1 h bu;replace h:rj p0 p1 p2 p3 p4 p5 p6 p7 p8 s1=some v_6:=h;try dsimp only
 unfold rj at h;refine X 5 2 (Sv h J (λbN h=>?_) (λbN h=>?_))
 .refine B h λx4 hx4 h=>(B h λx5 hx5 h=>(X 13 2 (sQ (aB Sx (λ_=>J) J J hx4 (Y 1 2 (sO (cG [0,1] 2 2 (HJ hx5) ⟨J,(Y 1 2 (Sv h J (λbi h=>?_) (λbi h=>?_)))⟩)))))))
  .refine X 5 2 ?_;replace h:=mi h bu;cases h;exact tN [0,1]
  exact X 5 2 (lk h (wk [] [0,1] 2 J))
 refine X 1 2 ?_;replace h:=mi h bu;refine X 4 2 ?_;cases h;exact tN [0,1]
theorem GZ {p0 p1:U Int}{p2:U (U Item)}{r:Bool}(h:rk p0 p1 p2 p3 p4 p5 p6 p7 p8=some r):FnX Qbl 145 [sL aj p0,.func 147 [.ptr 0 0,.ptr 1 0]] [.box [sL aj p1,sL (ak aa) p2,sL aq p3,sL an p4,sL aa p5],.box [sL ao p6,iI p7,iI p8]] (.bool r) [.box [sL aj p1,sL (ak aa) p2,sL aq p3,sL an p4,sL aa p5],.box [sL ao p6,iI p7,iI p8]]:=by
 unfold rk at h;refine fT 2 0 Tryz.func145 Tryz.ntmps145 J ?_;refine B h λx2 hx2 h=>(X 8 2 (sO (cG [0,1] 2 2 (G3 hx2) ⟨J,(Y 3 2 ?_)⟩)))
 cases h;exact tN [0,1]
theorem HS {p0:Item}(h:xk p0=some r):Fn Qbl 188 [.agg (aa p0)] (iI r):=by unfold xk at h;refine fT 0 12 Tryz.func188 Tryz.ntmps188 J ?_;cases h;exact tD
theorem HQ {p0:Item}(h:xl p0=some r):Fn Qbl 189 [.agg (aa p0)] (iI r):=by unfold xl at h;refine fT 0 12 Tryz.func189 Tryz.ntmps189 J ?_;cases h;exact tD
theorem HR {p0:Item}(h:xm p0=some r):Fn Qbl 190 [.agg (aa p0)] (iI r):=by unfold xm at h;refine fT 0 12 Tryz.func190 Tryz.ntmps190 J ?_;cases h;exact tD
theorem HW {p0:Item}(h:xo p0=some r):Fn Qbl 191 [.agg (aa p0)] (iI r):=by unfold xo at h;refine fT 0 14 Tryz.func191 Tryz.ntmps191 J ?_;cases h;exact tD
theorem AQ {p0:Int}{p1 r:Item}(h:xt p0 p1=some r):Fn Qbl 161 [iI p0,.agg (aa p1)] (.agg (aa r)):=by
 unfold xt at h;refine fT 0 7 Tryz.func161 Tryz.ntmps161 J (sQ (EF (cs:=[.func 188 [],.func 189 [],.func 190 [],.func 191 []]) T7 Ua J (Y 3 2 ?_)));obtain⟨oF,hz,h⟩:=bind_some h;revert hz h;revert oF;intro c6 hz h;refine j1 [(3,.ptr 0 0),(4,.ptr 1 0)] [.box [iI p1.Key,iI c6,iI p1.Dep],.box [iI 0,iI 0,iI 0]] ?_ (λhK=>?_)
 .refine X 5 2 ?_;cases h;exact tD
 refine X 1 3 ?_;rcases bf (p0==0)with ae|ae
 .replace hz:=bH hz ae;refine B hz λx1 hx1 hz=>(T.drawn mixed (k:=7) J (rq [0] 6 (r0 1 J (vu (q:=0) Vl Tn Tm J J (by simpa using ae) J J (off':=0) J (rL [2,4,5,6] 2 J (ra1 3 (og 3 ⟨J,(ra1 4 (oO J (cF (HS hx1) ⟨J,(rq [5] 1 ?_)⟩)))⟩)))))))
  exact ra1 6 (og 3 ⟨J,(RA.done (by decide+kernel) (T.weakR hK (SD [] [0,1] (by decide) (bP _) J ⟨al J,al J,tqz⟩ (aE (cs:=[iI p1.Key,iI c6,iI p1.Dep]) (ds:=[iI p1.Key,iI x1,iI p1.Dep]) J ⟨bE J,bE ((congrArg (λp=>p) (QH hz)).symm),bE J,tqz⟩ (bL [iI 0,iI 0,iI 0] J (aA))))))⟩)
 replace hz:=bG hz ae;rcases bf (p0==1)with ab|ab
 .replace hz:=bH hz ab;refine B hz λx2 hx2 hz=>(T.drawn mixed (k:=7) J (rq [0] 6 (r0 1 J (vu (q:=1) Vl Tn Tm J J (by simpa using ab) J J (off':=1) J (rL [2,4,5,6] 2 J (ra1 3 (og 3 ⟨J,(ra1 4 (oO J (cF (HQ hx2) ⟨J,(rq [5] 1 ?_)⟩)))⟩)))))))
  exact ra1 6 (og 3 ⟨J,(RA.done (by decide+kernel) (T.weakR hK (SD [] [0,1] (by decide) (bP _) J ⟨al J,al J,tqz⟩ (aE (cs:=[iI p1.Key,iI c6,iI p1.Dep]) (ds:=[iI p1.Key,iI x2,iI p1.Dep]) J ⟨bE J,bE ((congrArg (λp=>p) (QH hz)).symm),bE J,tqz⟩ (bL [iI 0,iI 0,iI 0] J (aA))))))⟩)
 replace hz:=bG hz ab;rcases bf (p0==2)with ap|ap
 .replace hz:=bH hz ap;refine B hz λx3 hx3 hz=>(T.drawn mixed (k:=7) J (rq [0] 6 (r0 1 J (vu (q:=2) Vl Tn Tm J J (by simpa using ap) J J (off':=2) J (rL [2,4,5,6] 2 J (ra1 3 (og 3 ⟨J,(ra1 4 (oO J (cF (HR hx3) ⟨J,(rq [5] 1 ?_)⟩)))⟩)))))))
  exact ra1 6 (og 3 ⟨J,(RA.done (by decide+kernel) (T.weakR hK (SD [] [0,1] (by decide) (bP _) J ⟨al J,al J,tqz⟩ (aE (cs:=[iI p1.Key,iI c6,iI p1.Dep]) (ds:=[iI p1.Key,iI x3,iI p1.Dep]) J ⟨bE J,bE ((congrArg (λp=>p) (QH hz)).symm),bE J,tqz⟩ (bL [iI 0,iI 0,iI 0] J (aA))))))⟩)
 replace hz:=bG hz ap;refine B hz λx4 hx4 hz=>(B hz λx5 hx5 hz=>(T.drawn mixed (k:=7) J (rq [0] 6 (r0 1 J (vu (q:=3) Vl Tn Tm J J (Kn hx4) J J (off':=3) J (rL [2,4,5,6] 2 J (ra1 3 (og 3 ⟨J,(ra1 4 (oO J (cF (HW hx5) ⟨J,?_⟩)))⟩))))))))
 exact rq [5] 1 (ra1 6 (og 3 ⟨J,(RA.done (by decide+kernel) (T.weakR hK (SD [] [0,1] (by decide) (bP _) J ⟨al J,al J,tqz⟩ (aE (cs:=[iI p1.Key,iI c6,iI p1.Dep]) (ds:=[iI p1.Key,iI x5,iI p1.Dep]) J ⟨bE J,bE ((congrArg (λp=>p) (QH hz)).symm),bE J,tqz⟩ (bL [iI 0,iI 0,iI 0] J (aA))))))⟩))
theorem AU {p0:Keyed}{p1:Int}(h:pA p0 p1=some r):Fn Qbl 163 [.agg (aH p0),iI p1] (iI r):=by
 unfold pA at h;refine fT 0 15 Tryz.func163 Tryz.ntmps163 J (Sv h J (λae h=>?_) (λae h=>?_))
 .refine X 4 1 ?_;cases h;exact tD
 refine X 8 1 (Sv h J (λab h=>?_) (λab h=>?_))
 .refine X 4 1 ?_;cases h;exact tD
 refine X 5 1 ?_;cases h;exact tD
theorem GV {p0:U Keyed}{p1:Int}{r:Int×Bool}(h:rf p0 p1=some r):Fn Qbl 162 [sL aH p0,iI p1,.func 163 []] (.tup [iI r.1,.bool r.2]):=by
 unfold rf at h;refine fT 0 8 Tryz.func162 Tryz.ntmps162 J (sQ (ai SB J (Y 10 0 (itr (λam:Int×Int=>mkA 49 [(0,sL aH p0),(1,iI p1),(2,.func 163 []),(8,iI ((p0).length:Int)),(9,iI am.1),(10,iI am.2)]) (λam=>[]) h (wk [] [] 0 J) (λam v_6 h bu=>?_)))));obtain⟨s1,s2⟩:=am;replace h:re p0 p1 s1 s2=some v_6:=h;try dsimp only
 unfold re at h;refine X 7 0 (Sv h J (λbN h=>?_) (λbN h=>?_))
 .refine B h λx4 hx4 h=>(X 8 0 (sQ (jI J J hx4 (B h λx7 hx7 h=>(B h λx8 hx8 h=>(Y 8 0 (sQ (aB SB (λ_=>J) J J hx7 (Y 2 0 (sO (cF (AU hx8) ⟨J,(Y 2 0 ?_)⟩)))))))))))
  refine Sv h J (λbi h=>?_) (λbi h=>?_)
  .exact X 5 0 (lk h (wk [] [] 0 J))
  exact X 4 0 (lk h (wk [] [] 0 J))
 refine X 1 0 ?_;replace h:=mi h bu;obtain⟨zE,hz,h⟩:=bind_some h;revert hz h;revert zE;intro c11 hz h;refine j1 [(6,iI s1),(7,.bool c11)] [] ?_ (λhK=>?_)
 .cases h;exact tD
 refine X 7 0 (gi 39 hz (λfb hz=>?_) (λfb hz=>?_))
 .refine B hz λx9 hx9 hz=>(B hz λx10 ba hz=>(Y 3 0 (yQ J (aB SB (λ_=>J) J J hx9 (Y 2 0 (yO J (cF (AU ba) ⟨J,(Yp 5 0 ?_)⟩)))))))
  cases hz;exact sx hK
 refine Yp 12 0 ?_;cases hz;exact sx hK
theorem G5 {p0:Int}{p1 p2 r:U Keyed}(h:ro p0 p1 p2=some r):FnX Qbl 164 [.ref 0,iI p0,.ref 1] [aR 139 2 aH p1,aR 139 2 aH p2] (.ref 2) [.dead,.dead,aR 139 2 aH r]:=by
 unfold ro at h;refine fT 2 0 Tryz.func164 Tryz.ntmps164 J ?_;refine Uq 0 0 J J J J (TO 0 2 (xs:=p1) J J (λC hC=>?_));have h:=KO h C hC;unfold xb at h;refine B h λx2 hx2 h=>(X 8 3 (sO (vH SB J J J hx2 (Y 4 3 (sQ (cP (en:=aH) SB J J (Y 8 3 (Sv h J (λae h=>?_) (λae h=>?_)))))))))
 .cases h
 refine X 4 3 (sO (La SB J (Y 9 3 (Sv h J (λab h=>?_) (λab h=>?_)))))
 .refine B h λx4 hx4 h=>(X 4 3 (sO (K1 (en:=aH) (xs:=p1) (ys:=p2) SB (λ_=>J) J J J J J J hx4 J J (Y 2 4 ?_))))
  cases h;exact tO [] [0,1,3] 4
 refine X 8 3 (sO (Ly SB J (Y 2 3 (Sv h J (λap h=>?_) (λap h=>?_)))))
 .refine B h λx7 hx7 h=>(B h λx8 hx8 h=>(X 4 3 (sO (JB SB J J hx7 (Y 5 3 (sO (LP (en:=aH) (z0:=(⟨0,0⟩:Keyed)) (xs:=p1) SB Vc Ta (λ_=>J) J J J hx8 J J (B h λx11 bA h=>(B h λx12 bB h=>(Y 6 4 (sO (lN (en:=aH) (xs:=x8) SB J J J J bA ?_))))))))))))
  refine Y 1 4 (sO (CH (en:=aH) (xs:=x8) (ys:=p2) SB (λ_=>J) J J J J bB J (B h λx17 cz h=>(B h λx18 b7 h=>(B h λx19 cM h=>(B h λx20 dS h=>(Y 2 4 (T.drawn mixed (k:=9) J ?_))))))));apply Su 1 (bm 9 255);intro hS4
  .refine rq [0,1,2,3,5,6] 3 (ra2 4 7 ?_ ?_)
   .exact oO J (lN (en:=aH) (xs:=(cpy x8 ((p0).toNat) ((((x8).length:Int)).toNat- (p0).toNat) p2)) SB J J J J cz (ra1 7 (oO J (vH SB J J J b7 (raE hS4)))))
   .exact oO J (vH SB J J J b7 (ra1 4 (oO J (lN (en:=aH) (xs:=(cpy x8 ((p0).toNat) ((((x8).length:Int)).toNat- (p0).toNat) p2)) SB J J J J cz (raT hS4)))))
  refine ra1 8 (oO J (J9 (en:=aH) (xs:=(cpy x8 ((p0).toNat) ((((x8).length:Int)).toNat- (p0).toNat) p2)) (ys:=p1) SB (λ_=>J) J J J J cM dS J (RA.done (by decide+kernel) (X 5 4 ?_))));cases h;exact tO [] [0,1,3] 4
 refine B h λx22 eS h=>(X 7 3 (sO (NK (en:=aH) (xs:=p1) SB J J J J eS J J (B h λx25 eJ h=>(B h λx26 dB h=>(Y 10 4 (sO (sU (en:=aH) (xs:=p1) SB J J J J eJ (sO (Jd (fn:=Tryz.f192) (tS:=82) (tR:=4) (en:=aH) (xs:=p1) (ys:=p2) Tryz.func192 (by kernel_rfl) (by kernel_rfl) (by kernel_rfl) (by kernel_rfl) SB J J J J dB (B h λx30 f8 h=>(B h λx31 jd h=>?_))))))))))))
 refine B h λx32 jR h=>(Y 4 4 (T.drawn mixed (k:=9) J ?_))
 apply Su 1 (bm 9 255);intro hS5
 .refine rq [0,1,2,3,5,6] 3 (ra2 4 7 ?_ ?_)
  .exact oO J (sU (en:=aH) (xs:=p1) SB J J J J f8 (ra1 7 (oO J (sU (en:=aH) (xs:=p1) SB J J J J jd (raE hS5)))))
  .exact oO J (sU (en:=aH) (xs:=p1) SB J J J J jd (ra1 4 (oO J (sU (en:=aH) (xs:=p1) SB J J J J f8 (raT hS5)))))
 refine ra1 8 (oO J (KW (en:=aH) (xs:=p1) SB (λ_=>J) J J J jR J (RA.done (by decide+kernel) (B h λx35 oB h=>(B h λx36 uf h=>(X 4 4 (sO (lN (en:=aH) (xs:=x32) SB J J J J oB (Y 1 4 (sO (CH (en:=aH) (xs:=x32) (ys:=p2) SB (λ_=>J) J J J J uf J (Y 6 4 ?_))))))))))));cases h;exact tO [] [0,1,3] 4
theorem lA {p0 p1:Int}{p2:Memory}{p3:Item}{r:Memory×Item×Int}(h:iB p0 p1 p2 p3=some r):Fn Qbl 148 [iI p0,iI p1,.agg (aq p2),.agg (aa p3)] (.tup [.agg (aq r.1),.agg (aa r.2.1),iI r.2.2]):=by
 unfold iB at h;refine fT 0 0 Tryz.func148 Tryz.ntmps148 J ?_;refine B h λx2 hx2 h=>(X 12 0 (sO (cF (AY hx2) ⟨J,(Y 7 4 (Sv h J (λae h=>?_) (λae h=>?_)))⟩)))
 .refine X 9 4 ?_;cases h;exact tD
 refine X 8 4 (Sv h J (λab h=>?_) (λab h=>?_))
 .refine X 8 4 ?_;cases h;exact tD
 refine B h λx4 hx4 h=>(X 4 4 (sO (cG [] 4 1 (SG (xv hx4)) ⟨J,(Y 13 5 (Sv h J (λap h=>?_) (λap h=>?_)))⟩)))
 .refine X 1 5 (j1 [(1,iI p1),(6,.ptr 0 0),(7,.ptr 1 0),(8,.ptr 2 0),(9,.ptr 3 0),(36,.bool ((decide (p1<0))||decide (p1> 3)))] [.box [iI x4.Sum,.ref 4,iI x4.Dep],.box (aa p3),.box [iI 0,.nils,iI 0],.box [iI 0,iI 0,iI 0],aR 139 2 aH x4.Keys] ?_ (λhK=>?_))
  .refine Sv h J (λaI h=>?_) (λaI h=>?_)
   .refine X 8 5 ?_;cases h;exact tD
   refine B h λx7 hx7 h=>(X 2 5 (T.drawn mixed (k:=7) J ?_))
   apply Su 3 (bm 7 15);intro hS6
   .refine rq [1] 6 (rL [2,3,4,5,6] 2 J (ra2 0 3 ?_ ?_))
    .exact og 5 ⟨J,(ra1 3 (oO J (cF (AQ hx7) ⟨J,(raE hS6)⟩)))⟩
    .exact oO J (cF (AQ hx7) ⟨J,(ra1 0 (og 5 ⟨J,(raT hS6)⟩))⟩)
   refine ra1 4 (og 5 ⟨J,(ra1 5 (og 5 ⟨J,(rq [6] 0 (RA.done (by decide+kernel) ?_))⟩))⟩);cases h;exact tD
  refine X 5 5 (gp 33 (λaC=>?_) (λaC=>?_))
  .refine Yp 4 5 ?_;rw[aC]at hK;exact sx hK
  refine Yp 4 5 ?_;rw[aC]at hK;exact sx hK
 refine X 5 5 (Sv h J (λbN h=>?_) (λbN h=>?_))
 .refine X 21 5 (T.drawn mixed (k:=11) J ?_);apply Su 2 (bm 11 511);intro hS8;apply Su 3 (bm 11 255);intro hS9;apply Su 4 (bm 11 319);intro cN;apply Su 4 (bm 11 367);intro cE;apply Su 5 (bm 11 111);intro fc;apply Su 5 (bm 11 123);intro jc;apply Su 5 (bm 11 63);intro mw
  .refine rq [1,3,5] 8 (rL [0,8,9,10] 0 J (ra4 2 4 6 8 ?_ ?_ ?_ ?_))
   .refine og 5 ⟨J,(ra3 4 6 8 ?_ ?_ ?_)⟩
    .exact og 5 ⟨J,(raE mw)⟩
    .exact og 5 ⟨J,(raE fc)⟩
    .exact og 5 ⟨J,(rL [4,7,9,10] 4 J (raE cN))⟩
   .refine og 5 ⟨J,(ra3 2 6 8 ?_ ?_ ?_)⟩
    .exact og 5 ⟨J,(raT mw)⟩
    .exact og 5 ⟨J,(raE jc)⟩
    .exact og 5 ⟨J,(rL [2,7,9,10] 2 J (raT cN))⟩
   .refine og 5 ⟨J,(ra3 2 4 8 ?_ ?_ ?_)⟩
    .exact og 5 ⟨J,(raT fc)⟩
    .exact og 5 ⟨J,(raT jc)⟩
    .exact og 5 ⟨J,(rL [2,7,9,10] 2 J (raE cE))⟩
   .exact og 5 ⟨J,(rL [2,7,9,10] 2 J (rL [4,7,9,10] 4 J (raT cN)))⟩
  .refine ra2 6 8 ?_ ?_
   .exact og 5 ⟨J,(rq [7] 3 (raE hS9))⟩
   .exact og 5 ⟨J,(raT cN)⟩
  .refine ra2 2 8 ?_ ?_
   .exact og 5 ⟨J,(rq [7] 3 (raT hS9))⟩
   .exact og 5 ⟨J,(ra1 2 (og 5 ⟨J,(rq [7] 2 (raE hS8))⟩))⟩
  .refine ra2 4 8 ?_ ?_
   .exact og 5 ⟨J,(rq [7] 3 (raT hS9))⟩
   .exact og 5 ⟨J,(raT cE)⟩
  .exact ra1 4 (og 5 ⟨J,(rq [7] 2 (raT hS8))⟩)
  .exact ra1 6 (og 5 ⟨J,(rq [7] 2 (raT hS8))⟩)
  .exact ra1 8 (og 5 ⟨J,(raT hS8)⟩)
  refine ra1 9 (og 5 ⟨J,(rq [10] 0 (RA.done (by decide+kernel) ?_))⟩);cases h;exact tD
 refine X 5 5 (Sv h J (λfF h=>?_) (λfF h=>?_))
 .refine B h λx9 hx9 h=>(X 6 5 (sO (cF (GV hx9) ⟨J,(Y 17 5 (j1 [(6,.ptr 0 0),(7,.ptr 1 0),(8,.ptr 2 0),(9,.ptr 3 0),(12,iI x9.1),(13,.bool x9.2),(88,.bool ((!x9.2)&&((x4.Keys).length:Int)==6))] [.box [iI x4.Sum,.ref 4,iI (if p3.Dep> x4.Dep then p3.Dep else x4.Dep)],.box (aa p3),.box [iI 0,.nils,iI 0],.box [iI 0,iI 0,iI 0],aR 139 2 aH x4.Keys] ?_ (λhK=>?_)))⟩)))
  .refine Sv h J (λf0 h=>?_) (λf0 h=>?_)
   .refine X 1 5 (T.drawn mixed (k:=9) J ?_);apply Su 2 (bm 9 127);intro qV;apply Su 3 (bm 9 63);intro uo;apply Su 4 (bm 9 79);intro uq
    .refine rq [1,3] 7 (rL [0,6,7,8] 0 J (ra3 2 4 6 ?_ ?_ ?_))
     .refine og 5 ⟨J,(ra2 4 6 ?_ ?_)⟩
      .exact og 5 ⟨J,(rq [5] 3 (raE uo))⟩
      .exact og 5 ⟨J,(raE uq)⟩
     .refine og 5 ⟨J,(ra2 2 6 ?_ ?_)⟩
      .exact og 5 ⟨J,(rq [5] 3 (raT uo))⟩
      .exact og 5 ⟨J,(ra1 2 (og 5 ⟨J,(rq [5] 2 (raE qV))⟩))⟩
     .exact og 5 ⟨J,(rL [2,5,7,8] 2 J (raT uq))⟩
    .exact ra1 4 (og 5 ⟨J,(rq [5] 2 (raT qV))⟩)
    .exact ra1 6 (og 5 ⟨J,(raT qV)⟩)
    refine ra1 7 (og 5 ⟨J,(rq [8] 0 (RA.done (by decide+kernel) ?_))⟩);cases h;exact tD
   refine X 1 5 (jn (Z:=U Keyed) (λqG=>mkA 137 [(6,.ptr 0 0),(7,.ptr 1 0),(8,.ptr 2 0),(9,.ptr 3 0),(12,iI x9.1)]) (λqG=>[.box [iI x4.Sum,.ref 4,iI (if p3.Dep> x4.Dep then p3.Dep else x4.Dep)],.box (aa p3),.box [iI 0,.nils,iI 0],.box [iI 0,iI 0,iI 0],aR 139 2 aH qG]) (λqG=>ke p3 x4 x9 qG=some r) (λqG h=>?_) (λhK1=>?_))
   .revert h;revert qG;intro z12 h;replace h:ke p3 x4 x9 z12=some r:=h;try dsimp only
    unfold ke at h;refine B h λx17 cz h=>(B h λx18 b7 h=>(B h λx19 cM h=>(B h λx20 dS h=>(X 5 5 (sQ (aK (en:=aH) SB J J J cz (Y 1 5 (sO (aU (en:=aH) (a:=x18) J J b7 (aN S4 (c:=iI x18.N) J (Y 1 5 (sQ (aK (en:=aH) SB J J J cM ?_)))))))))))))
    refine Y 1 5 (sO (eK (en:=aH) (a:=x20) (a':=(⟨x20.Key,IntKind.i64.wrap (x18.N+1)⟩:Keyed)) S0 Tl J (vs:=[iI (IntKind.i64.wrap (x18.N+1))]) J J J dS J J J (B h λx23 bO h=>(B h λx24 aS h=>(Y 2 5 (T.drawn mixed (k:=15) J ?_))))));apply Su 2 (bm 15 8191);intro jQ;apply Su 3 (bm 15 4095);intro jP;apply Su 4 (bm 15 5887);intro fe;apply Su 4 (bm 15 5119);intro kX;apply Su 5 (bm 15 1791);intro oG;apply Su 5 (bm 15 2043);intro ur;apply Su 5 (bm 15 1023);intro mz;apply Su 6 (bm 15 1787);intro Ag;apply Su 6 (bm 15 767);intro qW;apply Su 7 (bm 15 763);intro mA;apply Su 8 (bm 15 1583);intro qX;apply Su 9 (bm 15 1579);intro ut;apply Su 9 (bm 15 1582);intro uu;apply Su 9 (bm 15 559);intro GK
    .refine rq [1,3,5,9] 11 (ra4 0 2 4 10 ?_ ?_ ?_ ?_)
     .refine og 5 ⟨J,(ra4 2 4 10 12 ?_ ?_ ?_ ?_)⟩
      .exact og 5 ⟨J,(raE GK)⟩
      .exact og 5 ⟨J,(r0 6 J (aK (en:=aH) SB J J J bO (rq [7] 7 (raE mA))))⟩
      .exact og 5 ⟨J,(raE ut)⟩
      .exact og 5 ⟨J,(rL [4,6,7,8,11,13,14] 4 J (r0 6 J (aK (en:=aH) SB J J J bO (rq [7] 6 (rL [2,11,13,14] 2 J (rL [10,11,13,14] 10 J (raE fe)))))))⟩
     .refine og 5 ⟨J,(ra3 0 4 10 ?_ ?_ ?_)⟩
      .exact og 5 ⟨J,(raT GK)⟩
      .exact og 5 ⟨J,(r0 6 J (aK (en:=aH) SB J J J bO (rq [7] 7 (rL [0,12,13,14] 0 J (raE qW)))))⟩
      .exact og 5 ⟨J,(raE uu)⟩
     .exact og 5 ⟨J,(r0 6 J (aK (en:=aH) SB J J J bO (rq [7] 8 (rL [0,12,13,14] 0 J (raT mA)))))⟩
     .refine og 5 ⟨J,(ra3 0 2 4 ?_ ?_ ?_)⟩
      .exact og 5 ⟨J,(raT ut)⟩
      .exact og 5 ⟨J,(raT uu)⟩
      .exact og 5 ⟨J,(r0 6 J (aK (en:=aH) SB J J J bO (rq [7] 7 (rL [0,12,13,14] 0 J (raE Ag)))))⟩
    .refine ra3 4 10 12 ?_ ?_ ?_
     .exact og 5 ⟨J,(r0 6 J (aK (en:=aH) SB J J J bO (rq [7] 6 (raT qW))))⟩
     .exact og 5 ⟨J,(raE qX)⟩
     .exact og 5 ⟨J,(rL [4,6,7,8,11,13,14] 4 J (r0 6 J (aK (en:=aH) SB J J J bO (rq [7] 5 (rL [10,11,13,14] 10 J (raT fe))))))⟩
    .refine ra2 0 4 ?_ ?_
     .exact og 5 ⟨J,(raT qX)⟩
     .exact og 5 ⟨J,(r0 6 J (aK (en:=aH) SB J J J bO (rq [7] 6 (rL [0,12,13,14] 0 J (raE oG)))))⟩
    .refine ra3 2 4 12 ?_ ?_ ?_
     .exact og 5 ⟨J,(raT qX)⟩
     .exact og 5 ⟨J,(r0 6 J (aK (en:=aH) SB J J J bO (rq [7] 6 (raT Ag))))⟩
     .exact og 5 ⟨J,(rL [4,6,7,8,11,13,14] 4 J (r0 6 J (aK (en:=aH) SB J J J bO (rq [7] 5 (rL [2,11,13,14] 2 J (raT fe))))))⟩
    .refine ra2 4 12 ?_ ?_
     .exact og 5 ⟨J,(r0 6 J (aK (en:=aH) SB J J J bO (rq [7] 5 (raT oG))))⟩
     .exact og 5 ⟨J,(ra1 4 (og 5 ⟨J,(r0 6 J (aK (en:=aH) SB J J J bO (rq [7] 4 (raT fe))))⟩))⟩
    .refine ra4 2 8 10 12 ?_ ?_ ?_ ?_
     .exact og 5 ⟨J,(raT qW)⟩
     .refine oO J (aU (en:=aH) (a:=x24) J J aS (aN S4 (c:=iI x24.N) J (ra3 2 10 12 ?_ ?_ ?_)))
      .exact og 5 ⟨J,(raE mz)⟩
      .exact og 5 ⟨J,(raE ur)⟩
      .exact og 5 ⟨J,(rL [2,11,13,14] 2 J (raE kX))⟩
     .exact og 5 ⟨J,(raT Ag)⟩
     .exact og 5 ⟨J,(rL [2,11,13,14] 2 J (rL [10,11,13,14] 10 J (raT fe)))⟩
    .refine ra3 8 10 12 ?_ ?_ ?_
     .exact oO J (aU (en:=aH) (a:=x24) J J aS (aN S4 (c:=iI x24.N) J (raT mz)))
     .exact og 5 ⟨J,(raT oG)⟩
     .exact og 5 ⟨J,(rL [10,11,13,14] 10 J (raT fe))⟩
    .refine ra3 2 8 12 ?_ ?_ ?_
     .exact og 5 ⟨J,(raT oG)⟩
     .exact oO J (aU (en:=aH) (a:=x24) J J aS (aN S4 (c:=iI x24.N) J (raT ur)))
     .exact og 5 ⟨J,(rL [2,11,13,14] 2 J (raT fe))⟩
    .refine ra2 10 12 ?_ ?_
     .exact og 5 ⟨J,(rq [11] 3 (raE jP))⟩
     .exact og 5 ⟨J,(raT kX)⟩
    .refine ra2 2 12 ?_ ?_
     .exact og 5 ⟨J,(rq [11] 3 (raT jP))⟩
     .exact og 5 ⟨J,(ra1 2 (og 5 ⟨J,(rq [11] 2 (raE jQ))⟩))⟩
    .refine ra2 8 12 ?_ ?_
     .exact oO J (aU (en:=aH) (a:=x24) J J aS (aN S4 (c:=iI x24.N) J (rq [11] 3 (raT jP))))
     .exact og 5 ⟨J,(raT fe)⟩
    .exact ra1 10 (og 5 ⟨J,(rq [11] 2 (raT jQ))⟩)
    .exact ra1 8 (oO J (aU (en:=aH) (a:=x24) J J aS (aN S4 (c:=iI x24.N) J (rq [11] 2 (raT jQ)))))
    .exact ra1 12 (og 5 ⟨J,(raT jQ)⟩)
    refine ra1 13 (og 5 ⟨J,(rq [14] 0 (RA.done (by decide+kernel) ?_))⟩);cases h;exact tD
   refine X 6 5 (Sv h J (λaJ h=>?_) (λaJ h=>?_))
   .exact B h λx11 bA h=>(X 7 5 (sO (be (rows:=List.map aH [(⟨p3.Key,0⟩:Keyed)]) (vs:=[.agg [iI p3.Key,iI 0]]) SB Ta J J J J J J (sO (cG [4,5] 6 3 (G5 bA) ⟨J,(Y 3 7 (wu (hK1 x11 h) [] [0,1,2,3,6] 7 J))⟩)))))
   exact X 1 5 (sx (hK1 x4.Keys h))
  refine X 5 5 (gp 83 (λfG=>?_) (λfG=>?_))
  .refine Y 2 5 (yQ J (cP (en:=aH) SB J J (Yp 3 5 ?_)));rw[fG]at hK;exact sx hK
  refine Yp 6 5 ?_;rw[fG]at hK;exact sx hK
 refine X 6 5 (Sv h J (λdF h=>?_) (λdF h=>?_))
 .refine X 1 5 (Sv h J (λeR h=>?_) (λeR h=>?_))
  .refine X 1 5 (T.drawn mixed (k:=5) J ?_);apply Su 2 (bm 5 7);intro uv
   .refine rL [0,2,3,4] 0 J (ra2 1 2 ?_ ?_)
    .exact og 5 ⟨J,(ra1 2 (og 5 ⟨J,(raE uv)⟩))⟩
    .exact og 5 ⟨J,(ra1 1 (og 5 ⟨J,(raT uv)⟩))⟩
   refine ra1 3 (og 5 ⟨J,(rq [4] 0 (RA.done (by decide+kernel) ?_))⟩);cases h;exact tD
  refine X 9 5 ?_;cases h;exact tD
 refine X 5 5 (Sv h J (λoA h=>?_) (λoA h=>?_))
 .refine X 1 5 (Sv h J (λzF h=>?_) (λzF h=>?_))
  .refine X 1 5 (T.drawn mixed (k:=5) J ?_);apply Su 2 (bm 5 7);intro mC
   .refine rL [0,2,3,4] 0 J (ra2 1 2 ?_ ?_)
    .exact og 5 ⟨J,(ra1 2 (og 5 ⟨J,(raE mC)⟩))⟩
    .exact og 5 ⟨J,(ra1 1 (og 5 ⟨J,(raT mC)⟩))⟩
   refine ra1 3 (og 5 ⟨J,(rq [4] 0 (RA.done (by decide+kernel) ?_))⟩);cases h;exact tD
  refine X 9 5 ?_;cases h;exact tD
 refine X 5 5 (Sv h J (λzG h=>?_) (λzG h=>?_))
 .refine X 1 5 (Sv h J (λt6 h=>?_) (λt6 h=>?_))
  .refine X 1 5 (T.drawn mixed (k:=5) J ?_);apply Su 2 (bm 5 7);intro qY
   .refine rL [0,2,3,4] 0 J (ra2 1 2 ?_ ?_)
    .exact og 5 ⟨J,(ra1 2 (og 5 ⟨J,(raE qY)⟩))⟩
    .exact og 5 ⟨J,(ra1 1 (og 5 ⟨J,(raT qY)⟩))⟩
   refine ra1 3 (og 5 ⟨J,(rq [4] 0 (RA.done (by decide+kernel) ?_))⟩);cases h;exact tD
  refine X 9 5 ?_;cases h;exact tD
 refine X 5 5 (Sv h J (λP4 h=>?_) (λP4 h=>?_))
 .refine X 1 5 (Sv h J (λzD h=>?_) (λzD h=>?_))
  .refine X 1 5 (T.drawn mixed (k:=5) J ?_);apply Su 2 (bm 5 7);intro gD
   .refine rL [0,2,3,4] 0 J (ra2 1 2 ?_ ?_)
    .exact og 5 ⟨J,(ra1 2 (og 5 ⟨J,(raE gD)⟩))⟩
    .exact og 5 ⟨J,(ra1 1 (og 5 ⟨J,(raT gD)⟩))⟩
   refine ra1 3 (og 5 ⟨J,(rq [4] 0 (RA.done (by decide+kernel) ?_))⟩);cases h;exact tD
  refine X 9 5 ?_;cases h;exact tD
 refine X 4 5 (Sv h J (λf5 h=>?_) (λf5 h=>?_))
 .refine X 1 5 (T.drawn mixed (k:=5) J ?_);apply Su 2 (bm 5 7);intro iq
  .refine rL [0,2,3,4] 0 J (ra2 1 2 ?_ ?_)
   .exact og 5 ⟨J,(ra1 2 (og 5 ⟨J,(raE iq)⟩))⟩
   .exact og 5 ⟨J,(ra1 1 (og 5 ⟨J,(raT iq)⟩))⟩
  refine ra1 3 (og 5 ⟨J,(rq [4] 0 (RA.done (by decide+kernel) ?_))⟩);cases h;exact tD
 refine X 9 5 ?_;cases h;exact tD
theorem BM {p3:Move}{r:Bool}(h:nO p0 p1 p2 p3=some r):Fn Qbl 124 [.agg (aD p0),sL (ak aa) p1,.agg (bD p2),.agg (aV p3)] (.bool r):=by
 unfold nO at h;refine fT 0 0 Tryz.func124 Tryz.ntmps124 J ?_;refine B h λx2 hx2 h=>(X 13 0 (sQ (aB Sw (λ_=>J) J J hx2 (B h λx4 hx4 h=>(Y 10 3 (sO (cF (xB hx4) ⟨J,(Y 8 4 ?_)⟩)))))))
 obtain⟨uw,hz,h⟩:=bind_some h;revert hz h;revert uw;intro c7 hz h;refine j1 [(6,.ptr 0 0),(7,.ptr 1 0),(9,.ptr 2 0),(10,.ptr 3 0),(37,.bool c7)] [.box (bD p2),.box (aV p3),.box (ao x2),.box (aa x4.1)] ?_ (λhK=>?_)
 .refine Sv h J (λap h=>?_) (λap h=>?_)
  .refine X 4 4 ?_;cases h;exact tD
  refine X 2 4 (j1 [(6,.ptr 0 0),(7,.ptr 1 0),(9,.ptr 2 0),(10,.ptr 3 0),(57,.bool (if(x2.Kind==6)=true then((((p2.Choices).length:Int)==500)||((x2.Kind==8)&&((p2.Out).length:Int)==2000))else((x2.Kind==8)&&((p2.Out).length:Int)==2000)))] [.box (bD p2),.box (aV p3),.box (ao x2),.box (aa x4.1)] ?_ (λhK=>?_))
  .refine Sv h J (λbi h=>?_) (λbi h=>?_)
   .refine X 4 4 ?_;cases h;exact tD
   refine B h λx11 bA h=>(B h λx12 bB h=>(X 2 4 (T.drawn mixed (k:=21) J ?_)))
   apply Su 3 (bm 21 262143);intro hS9;apply Su 4 (bm 21 196607);intro cN;apply Su 4 (bm 21 131071);intro cE;apply Su 8 (bm 21 198655);intro fc
   .refine rq [0,2,4,6] 17 (rL [1,11,12,13,14,15,18,19,20] 1 J (rL [3,11,12,13,14,15,18,19,20] 3 J (rL [5,8,9,11,12,13,14,15,18,19,20] 5 J (rL [7,8,9,11,12,13,14,15,18,19,20] 7 J (r0 8 J (aB SE (λ_=>J) J J bA (rL [9,11,12,13,14,15,18,19,20] 9 J (rL [10,11,12,13,14,15,18,19,20] 10 J (ra3 11 16 17 ?_ ?_ ?_)))))))))
    .refine oO J (cD (lA bB) ⟨J,(rq [12,13,14,15] 5 (ra2 16 17 ?_ ?_))⟩)
     .exact og 4 ⟨J,(raE cE)⟩
     .exact og 4 ⟨J,(raE cN)⟩
    .refine og 4 ⟨J,(ra2 11 17 ?_ ?_)⟩
     .exact oO J (cD (lA bB) ⟨J,(rq [12,13,14,15] 4 (raT cE))⟩)
     .exact og 5 ⟨J,(raE fc)⟩
    .refine og 4 ⟨J,(ra2 11 16 ?_ ?_)⟩
     .exact oO J (cD (lA bB) ⟨J,(rq [12,13,14,15] 4 (raT cN))⟩)
     .exact og 5 ⟨J,(raV fc [0,1,2,3,5,4] J)⟩
   .exact ra1 11 (oO J (cD (lA bB) ⟨J,(rq [12,13,14,15] 3 (raE hS9))⟩))
   .exact ra1 17 (og 5 ⟨J,(raT hS9)⟩)
   .exact ra1 16 (og 5 ⟨J,(raV hS9 [0,1,2,3,5,4] J)⟩)
   refine ra1 18 (og 6 ⟨J,(ra1 19 (og 6 ⟨J,(rq [20] 0 (RA.done (by decide+kernel) (X 6 6 ?_)))⟩))⟩);cases h;exact tD
  refine X 6 4 (gp 41 (λaC=>?_) (λaC=>?_))
  .refine Y 2 4 (yQ J (ai Sz J (Yp 3 4 (gp 47 (λaI=>?_) (λaI=>?_)))))
   .refine Yp 11 4 ?_;rw[aC]at hK;rw[aI]at hK;exact sx hK
   refine Y 4 4 (gp 51 (λaM=>?_) (λaM=>?_))
   .refine Y 2 4 (yQ J (ai Sy J (Yp 4 4 ?_)));rw[aC]at hK;rw[aI]at hK;rw[aM]at hK;exact sx hK
   refine Yp 7 4 ?_;rw[aC]at hK;rw[aI]at hK;rw[aM]at hK;exact sx hK
  refine Yp 10 4 (gp 51 (λbN=>?_) (λbN=>?_))
  .refine Y 2 4 (yQ J (ai Sy J (Yp 4 4 ?_)));rw[aC]at hK;rw[bN]at hK;exact sx hK
  refine Yp 7 4 ?_;rw[aC]at hK;rw[bN]at hK;exact sx hK
 refine X 5 5 (gi 31 hz (λae hz=>?_) (λae hz=>?_))
 .refine Yp 7 5 ?_;cases hz;exact wu hK [] [1,2,3,4] 5 J
 refine B hz λx5 hx5 hz=>(B hz λx6 hx6 hz=>(Y 2 5 (yO J (cD (By hx5) ⟨J,(Y 1 5 (yO J (cG [1,0] 5 2 (GZ hx6) ⟨J,(Yp 2 5 ?_)⟩)))⟩))))
 cases hz;exact wu hK [] [1,2,3,4] 5 J
theorem IB {r:U Move}(h:sJ p0 p1 p2=some r):FnO Qbl 123 [.agg (aD p0),sL (ak aa) p1,.agg (bD p2)] (.ref 0) [aR 97 2 aV r]:=by
 unfold sJ at h;refine fT 0 15 Tryz.func123 Tryz.ntmps123 J (sQ (ai Sw J (Y 3 2 (itr (λcr:Int×(U Move)=>mkA 46 [(1,sL (ak aa) p1),(3,.ptr 0 0),(5,.ptr 1 0),(7,.ref 2),(14,sL ao p0.Nodes),(15,iI ((p0.Nodes).length:Int)),(16,iI cr.1)]) (λcr=>[.box (aD p0),.box (bD p2),aR 97 2 aV cr.2]) h (wk [(7,97,2)] [0,1,2] 2 J) (λcr v_28 h fZ=>?_)))));obtain⟨s1,s2⟩:=cr;replace h:nf p0 p1 p2 s1 s2=some v_28:=h;try dsimp only
 unfold nf at h;refine X 5 3 (Sv h J (λiZ h=>?_) (λiZ h=>?_))
 .refine B h λx4 hx4 h=>(X 6 3 (sQ (aB Sw (λ_=>J) J J hx4 (Y 9 3 (jn (Z:=Int) (λeG=>mkA 46 [(1,sL (ak aa) p1),(3,.ptr 0 0),(5,.ptr 1 0),(7,.ref 2),(8,iI s1),(10,iI eG),(14,sL ao p0.Nodes),(15,iI ((p0.Nodes).length:Int)),(16,iI s1)]) (λeG=>[.box (aD p0),.box (bD p2),aR 97 2 aV s2]) (λeG=>pp p0 p1 s1 p2 s2 eG=some v_28) (λeG h=>?_) (λhK2=>?_))))))
  .revert h;revert eG;intro z5 h;replace h:pp p0 p1 s1 p2 s2 z5=some v_28:=h;try dsimp only
   unfold pp at h;refine X 6 3 (itr (λbl:Int×(U Move)=>mkA 46 [(1,sL (ak aa) p1),(3,.ptr 0 0),(5,.ptr 1 0),(7,.ref 2),(8,iI s1),(14,sL ao p0.Nodes),(15,iI ((p0.Nodes).length:Int)),(16,iI s1),(27,iI z5),(28,iI bl.1)]) (λbl=>[.box (aD p0),.box (bD p2),aR 97 2 aV bl.2]) h (wk [] [0,1,2] 3 J) (λbl v_37 h fE=>?_));obtain⟨s6,s7⟩:=bl;replace h:iv p0 p1 s1 p2 z5 s6 s7=some v_37:=h;try dsimp only
   unfold iv at h;refine X 5 3 (Sv h J (λdF h=>?_) (λdF h=>?_))
   .refine B h λx9 hx9 h=>(X 22 3 (sO (cF (BM hx9) ⟨J,(Y 1 4 (Sv h J (λeR h=>?_) (λeR h=>?_)))⟩)))
    .exact B h λx10 ba h=>(X 3 4 (sO (be (rows:=List.map aV [(⟨s1,s6⟩:Move)]) (vs:=[.agg [iI s1,iI s6]]) SM Tw J J J J J J (sO (bQ (en:=aV) (xs:=s7) (ys:=([(⟨s1,s6⟩:Move)]:U Move)) SM (λ_=>J) J J J ba J J (Y 6 6 (lk h (wk [] [0,1,5] 6 J))))))))
    exact X 5 4 (lk h (wk [] [0,1,2] 4 J))
   refine X 1 3 ?_;replace h:=mi h fE;exact X 4 3 (lk h (wk [] [0,1,2] 3 J))
  refine X 7 4 (Sv h J (λoA h=>?_) (λoA h=>?_))
  .exact X 3 4 (sQ (ai Sx J (Y 2 4 (wu (hK2 ((x4.In).length:Int) h) [] [0,1,2] 4 J))))
  exact X 1 4 (wu (hK2 1 h) [] [0,1,2] 4 J)
 refine X 1 3 ?_;replace h:=mi h fZ;refine X 5 3 ?_;cases h;exact tO [] [2] 3
theorem Bc {r:(U Move)×Int}(h:kg p0 p1 p2=some r):FnO Qbl 70 [.agg (aD p0),sL (ak aa) p1,.agg (bD p2)] (.tup [.ref 0,iI r.2]) [aR 97 2 aV r.1]:=by
 unfold kg at h;refine fT 0 0 Tryz.func70 Tryz.ntmps70 J ?_;refine B h λx2 hx2 h=>(X 13 0 (sO (cF (vq hx2) ⟨J,(Y 7 2 (Sv h J (λae h=>?_) (λae h=>?_)))⟩)))
 .refine X 6 2 ?_;cases h;exact tO [(0,97,2)] [2] 2
 refine B h λx4 hx4 h=>(X 6 2 (sO (cO 2 (IB hx4) ⟨J,(Y 3 3 ?_)⟩)))
 cases h;exact tO [] [2] 3
theorem jp {p0:U Item}{r:Item×(U Item)×Int}(h:sM p0=some r):FnO Qbl 149 [sL aa p0] (.tup [.agg (aa r.1),.ref 0,iI r.2.2]) [aR 75 3 aa r.2.1]:=by
 unfold sM at h;refine fT 0 10 Tryz.func149 Tryz.ntmps149 J (sQ (ai Sy J (Y 2 1 (Sv h J (λae h=>?_) (λae h=>?_)))))
 .refine X 7 1 ?_;cases h;exact tO [(1,75,3)] [1] 1
 refine X 5 1 (sQ (ai Sy J (Y 2 1 (Sv h J (λab h=>?_) (λab h=>?_)))))
 .refine X 7 1 ?_;cases h;exact tO [(1,75,3)] [1] 1
 refine B h λx4 hx4 h=>(B h λx5 hx5 h=>(B h λx6 hx6 h=>(X 2 1 (T.drawn mixed (k:=9) J ?_))))
 apply Su 3 (bm 9 63);intro hS3
 .refine rq [0] 8 (r0 1 J (aB Sy (λ_=>J) J J hx4 (rq [3] 6 (r0 4 J (eo Sy (λ_=>J) J J J hx5 (ra2 2 5 ?_ ?_))))))
  .exact og 1 ⟨J,(ra1 5 (oO J (cO 1 (fH hx6) ⟨J,(raE hS3)⟩)))⟩
  .exact oO J (cO 1 (fH hx6) ⟨J,(ra1 2 (og 2 ⟨J,(raT hS3)⟩))⟩)
 refine ra1 6 (og 2 ⟨J,(rq [7,8] 0 (RA.done (by decide+kernel) ?_))⟩);cases h;exact tO [] [1] 2
theorem BP {p0:U Item}{p1:Int}{p2:Item}{r:(U Item)×Int}(h:tg p0 p1 p2=some r):FnO Qbl 150 [sL aa p0,iI p1,.agg (aa p2)] (.tup [.ref 0,iI r.2]) [aR 75 3 aa r.1]:=by
 unfold tg at h;refine fT 0 7 Tryz.func150 Tryz.ntmps150 J (j1 [(0,sL aa p0),(1,iI p1),(5,.ptr 0 0),(13,.bool ((decide (p1<1))||decide (p1> 6)))] [.box (aa p2)] ?_ (λhK=>?_))
 .refine Sv h J (λab h=>?_) (λab h=>?_)
  .refine X 5 1 ?_;cases h;exact tO [(0,75,3)] [1] 1
  refine X 5 1 (sQ (ai Sy J (Y 3 1 (Sv h J (λap h=>?_) (λap h=>?_)))))
  .refine X 5 1 ?_;cases h;exact tO [(0,75,3)] [1] 1
  refine X 5 1 (sQ (ai Sy J (Y 3 1 (Sv h J (λaC h=>?_) (λaC h=>?_)))))
  .refine X 5 1 ?_;cases h;exact tO [(0,75,3)] [1] 1
  refine B h λx4 hx4 h=>(B h λx5 hx5 h=>(X 2 1 (T.drawn mixed (k:=7) J ?_)))
  apply Su 3 (bm 7 15);intro hS5;apply Su 4 (bm 7 7);intro hS6
  .refine rq [0] 6 (ra2 1 2 ?_ ?_)
   .exact oO J (cO 1 (fH hx4) ⟨J,(ra1 2 (og 2 ⟨J,(raE hS6)⟩))⟩)
   .refine og 1 ⟨J,(ra2 1 3 ?_ ?_)⟩
    .exact oO J (cO 1 (fH hx4) ⟨J,(raT hS6)⟩)
    .exact oO J (be (rows:=List.map aa [p2]) (vs:=[.agg (aa p2)]) Sy SW J J J J J J (ra1 1 (oO J (cO 2 (fH hx4) ⟨J,(raE hS5)⟩))))
  .exact ra1 3 (oO J (be (rows:=List.map aa [p2]) (vs:=[.agg (aa p2)]) Sy SW J J J J J J (raV hS5 [0,2,1] J)))
  refine ra1 4 (oO J (bQ (en:=aa) (xs:=x4) (ys:=([p2]:U Item)) Sy (λ_=>J) J J J hx5 J J (rq [5,6] 0 (RA.done (by decide+kernel) ?_))));cases h;exact tO [] [3] 4
 refine X 5 1 (gp 10 (λae=>?_) (λae=>?_))
 .refine Yp 4 1 ?_;rw[ae]at hK;exact sx hK
 refine Yp 4 1 ?_;rw[ae]at hK;exact sx hK
end
end
section
open Go.RowKit
def PanX(P:Program)(V:Value)(f:FuncId)(args:List AV)(aw:List Ob):Prop:=
 (∀vs w,(callFunc f vs).run P w=.ok (.enter f vs) w) /\
 ∀w F σ vs,Sim aw σ w F->RelL σ w F args vs->Calls P f vs.toArray w λe w'=>∃σ' F',e=.panicked [{ v:=V,recovered:=false }]/\Sim (aw.map λ_=>Ob.dead) σ' w' F'/\Mv aw σ w F (aw.map λ_=>Ob.dead) σ' w' F'
section
variable {P:Program} {V:Value} {N n:Nat} {fr:List AV} {aw aw':List Ob} {l:List (Nat×AV)}
structure PP (P:Program) (V:Value) (N:Nat) (o:Oper) (fr:List AV) (aw:List Ob) (Kp:List AV->List Ob->Prop):Prop where
 out:∀st:St,st.aw.length=N->st.σ.length=st.aw.length->∀σ w F a,Cur st fr aw σ w F a->∀(Kc:Act->World->Prop) (Q:Exit->Act->World->Prop),
  (∀aw' σ' w' F',Kp fr aw'->Cur st fr aw' σ' w' F' a->Q (.panic [{ v:=V,recovered:=false }]) a w')->o.wp P a w Kc Q
variable {o:Oper}{Q:Exit->Act->World->Prop}{ops:Array Oper}{rest:U Oper}{d:Qbm Tmp}{ty:TypeId}{ps:String}{af:Array Edge}{g:Qbm (Nat×Bool)}{Kp:U AV->U Ob->Prop}{f:Operand}{args:Array Operand}{ts:Array TypeId}{h:FuncId}{caps ac as0:U AV}{aw0 aw2:U Ob}{n0:Nat}
theorem KG {a:Act}{next next':Act->World->Prop}{Q':Exit->Act->World->Prop}(hn:∀a w,next a w->next' a w)(hp:∀ch a w,Q (.panic ch) a w->Q' (.panic ch) a w)(hl:LetsOut Q->LetsOut Q'):
  ∀r,o.upon P a next Q r->o.upon P a next' Q' r:=by
 intro r h
 unfold Oper.upon at h⊢
 grind[Calls.mono,Rows.mono]
def thenL(P:Program)(ops:Array Oper)(rest:List Oper)(Q:Exit->Act->World->Prop):Exit->Act->World->Prop
 | .normal,a,w=>wpList P ops Q rest a w
 |e,a,w=>Q e a w
theorem vB:∀(pre:U Oper) (a:Act) (w:World),wpList P ops (thenL P ops rest Q) pre a w->wpList P ops Q (pre++rest) a w
 |[],a,w,h=>h
 | o::pre,a,w,h=>by
  rw[List.cons_append];unfold wpList at h ⊢;split at h
  .rename_i hw;rw[if_pos hw];rcases h with h|⟨h1,h2⟩
   .exact .inl (KG (λa w h=>vB pre a w h) (λ_ _ _ h=>h) (λh=>h) _ h)
   .exact .inr ⟨h1,h2⟩
  .rename_i hw;rw[if_neg hw];exact vB pre _ w h
theorem TN {id:Nat}{Q:Exit->U AV->U Ob->Prop}{pre:U Oper}(ho:ops.toList=pre++o::rest)(hg:o.guard=none)(h:RS P N ops pre (λfr aw=>PP P V N o fr aw (Q (.panic [{ v:=V,recovered:=false }]))) fr aw):T P N (.region id ops false) Q fr aw:=
 ⟨λst h1 h2 σ w F a hc=>by refine wp_region_list ?_;rw[ho];refine vB _ _ _ (h.out st h1 h2 σ w F a hc _ λfr aw σ w F a hc hK=>?_);show wpList P ops _ (o::rest) a w;unfold wpList;rw[if_pos (by grind[Region.wanted])];exact .inl (hK.out st h1 h2 σ w F a hc _ _ λaw' σ' w' F' hKp hcur=>⟨fr,aw',σ',F',hKp,hcur⟩)⟩
theorem PP.call {aw2:U Ob}(ρ:U Nat)(hn0:aw.length=n0)(hf:evA n l f=.func h caps)(ha:args.toList.map (evA n l)++caps=ac)(hnd:ρ.Nodup)(hW:cy ρ aw ρ aw0)(hA:cS ρ as0 ac)(hC:PanX P V h as0 aw0)(hlen:aw2.length+ρ.length=n0+aw0.length)(hB:fa (ck ρ n0 aw0.length) ρ aw (aw0.map λ_=>Ob.dead) 0 aw2)(hK:Kp (mkA n l) aw2):PP P V N ⟨d,.call ⟨.value f,args,ts⟩,ty,ps,af,g⟩ (mkA n l) aw Kp:=
 ⟨λst h1 h2 σ w F a hc Kc Q hk=>by
  subst hn0;have hfv:=hc.fr.ev f;rw[aG,hf]at hfv;generalize hvf:a.eval f=vf at hfv;cases hfv with
  | func _ _ cvs hl hcs=>
   have hargs:RelL σ w F ac (args.toList.map a.eval++cvs):=by rw[<- ha];have:=kw hc.fr args.toList;rw[show args.toList.map (ev (mkA n l))=args.toList.map (evA n l)from Rb λx _=>aG n l x]at this;exact this.append ⟨hl,hcs⟩
   obtain⟨hlW,hgW⟩:=kx hW;obtain⟨σ0',hσ',hs0',hd0'⟩:=jz hc.sim hnd hW;have hl0:σ0'.length=ρ.length:=by rw[hs0'.len,hlW]
   have hr0:RelL σ0' w F as0 (args.toList.map a.eval++cvs):=fJ hA hargs hσ';have hrun:(execOp a.eval ⟨d,.call ⟨.value f,args,ts⟩,ty,ps,af,g⟩).run P w=.ok (.enter h (args.toList.map a.eval++cvs).toArray) w:=by
    have e:args.map a.eval++cvs.toArray=(args.toList.map a.eval++cvs).toArray:=by simp
    simp only[execOp,resolve,Deferred.ofValue,hvf,Sem.run_bind,Sem.run_pure,Result.andThen_ok,invoke,Sm,e,hC.1]
   unfold Oper.wp;rw[hrun];refine(hC.2 w F σ0' _ hs0' hr0).mono ?_;rintro e w' ⟨σ1,F',rfl,hs1,hm⟩;obtain⟨σ2,s2,m2,hσ2⟩:=sG (aw2:=aw2) hc.sim hnd hW hσ' hl0 hs0' hd0' hs1 hm (by grind) (by grind);exact hk aw2 σ2 w' F' hK (hc.step s2 m2)⟩
theorem T6 (ρ:U Nat)(hn0:aw.length=n0)(hf:evA n l f=.bnd h caps)(ha:caps++args.toList.map (evA n l)=ac)(hnd:ρ.Nodup)(hW:cy ρ aw ρ aw0)(hA:cS ρ as0 ac)(hC:PanX P V h as0 aw0)(hlen:aw2.length+ρ.length=n0+aw0.length)(hB:fa (ck ρ n0 aw0.length) ρ aw (aw0.map λ_=>Ob.dead) 0 aw2)(hK:Kp (mkA n l) aw2):PP P V N ⟨d,.call ⟨.value f,args,ts⟩,ty,ps,af,g⟩ (mkA n l) aw Kp:=
 ⟨λst h1 h2 σ w F a hc Kc Q hk=>by
  subst hn0;have hfv:=hc.fr.ev f;rw[aG,hf]at hfv;generalize hvf:a.eval f=vf at hfv;cases hfv with
  | bnd _ _ cvs hl hcs=>
   have hargs:RelL σ w F ac (cvs++args.toList.map a.eval):=by rw[<- ha];have:=kw hc.fr args.toList;rw[show args.toList.map (ev (mkA n l))=args.toList.map (evA n l)from Rb λx _=>aG n l x]at this;exact RelL.append ⟨hl,hcs⟩ this
   obtain⟨hlW,hgW⟩:=kx hW;obtain⟨σ0',hσ',hs0',hd0'⟩:=jz hc.sim hnd hW;have hl0:σ0'.length=ρ.length:=by rw[hs0'.len,hlW]
   have hr0:RelL σ0' w F as0 (cvs++args.toList.map a.eval):=fJ hA hargs hσ';have hrun:(execOp a.eval ⟨d,.call ⟨.value f,args,ts⟩,ty,ps,af,g⟩).run P w=.ok (.enter h (cvs++args.toList.map a.eval).toArray) w:=by
    have e:cvs.toArray++args.map a.eval++#[]=(cvs++args.toList.map a.eval).toArray:=by simp
    simp only[execOp,resolve,Deferred.ofValue,hvf,Sem.run_bind,Sem.run_pure,Result.andThen_ok,invoke,e,hC.1]
   unfold Oper.wp;rw[hrun];refine(hC.2 w F σ0' _ hs0' hr0).mono ?_;rintro e w' ⟨σ1,F',rfl,hs1,hm⟩;obtain⟨σ2,s2,m2,hσ2⟩:=sG (aw2:=aw2) hc.sim hnd hW hσ' hl0 hs0' hd0' hs1 hm (by grind) (by grind);exact hk aw2 σ2 w' F' hK (hc.step s2 m2)⟩
def panQ(V:Value):Exit->List AV->List Ob->Prop
 | .panic ch,_,_=>ch=[{ v:=V,recovered:=false }]
 |_,_,_=>False
theorem CZ {ρ:U Nat}:∀(ids:U Nat) (aw:U Ob),ids.length=aw.length->(∀id,id∈ids->id<aw0.length)->cy ρ aw0 ids (aw.map λ_=>Ob.dead)
 |[],[],_,_=>trivial
 |[],_::_,h,_=>by simp at h
 |_::_,[],h,_=>by simp at h
 |id::ids,o::aw,h,hi=>⟨⟨_,QC (hi id Q8),tqz⟩,CZ ids aw (by simpa using h) λj hj=>hi j (Rf _ hj)⟩
theorem Kx {f:FuncId}{fn:Func}{c:Code}{args:U AV}{aw:U Ob}{m:Nat}(hN:aw.length=N)(hf:P.funcs[f]?=some fn)(hb:fn.body=some c)(hname:(fn.name== "runtime.NumGoroutine")=false)(hm:fn.ntmps=m)(hl:Nat.ble args.length m=true)(h:T P N c (panQ V) (mkA m (initA 0 args)) aw):PanX P V f args aw:=by
 subst hm hN
 refine⟨callable hf (by rw[hb];rfl) hname,λw F σ vs hs hr=>?_⟩
 have hc:Cur ⟨aw,σ,w,F,[]⟩ (args++List.replicate (fn.ntmps- args.length) .any) aw σ w F { tmps:=vs.toArray++Array.replicate (fn.ntmps- vs.toArray.size) undef,defers:=[] }:=by
  refine⟨hs,⟨?_,tqz⟩,.refl ..,J⟩;have h2:RelL σ w F (List.replicate (fn.ntmps- args.length) .any) (List.replicate (fn.ntmps- vs.length) undef):=
   ⟨by simp[hr.1],λj x v hx hv=>by rw[RM (QE hx)];exact .any v⟩
  simpa using hr.append h2
 rw[ye _ _ (Ry hl)]at hc
 refine calls_of_wp hf hb (wp_mono (h.out ⟨aw,σ,w,F,[]⟩ J hs.len σ w F _ hc) ?_)
 rintro e a' w' ⟨fr',aw',σ',F',hq,hcur⟩
 cases e with
 | panic ch=>
  have hq:ch=_:=hq
  subst hq
  have hlen:aw.length<=aw'.length:=by
   have h1:=hcur.sim.len;have h2:=hcur.mv.pre;have h3:=hs.len;by_cases h0:aw.length=0
   .omega
   .have:=(QD.1 (h2 (aw.length- 1) _ (QC (by grind)))).1;omega
  obtain⟨σ2,hσ,s2,hd⟩:=jz (aw':=aw.map λ_=>Ob.dead) (ρ:=List.range aw.length) hcur.sim List.nodup_range (CZ _ _ (by simp) λid hid=>by grind)
  exact⟨hcur.ds,σ2,F',J,s2,Tr (st:=⟨aw,σ,w,F,[]⟩) hs.len hcur.mv (λk hk=>by grind) hσ hd⟩
 |normal=>exact hq.elim
 |ret=>exact hq.elim
 |exit id=>exact hq.elim
 |goto l=>exact hq.elim
 |outgrown=>exact hq.elim
end
end
section
open Go.RowKit
def FnP(P:Program)(V:Value)(f:FuncId)(args:List AV)(aw:List Ob){R:Type}(val:R->AV)(obs:R->List Ob):R⊕Unit->Prop
 | .inl x=>FnX P f args aw (val x) (obs x)
 | .inr _=>PanX P V f args aw
def retP(P:Program)(V:Value)(fn:Func)(N:Nat){R:Type}(Q:R->AV->List Ob->Prop):R⊕Unit->Exit->List AV->List Ob->Prop
 | .inl x=>retQ P fn N (Q x)
 | .inr _=>panQ V
section
variable {P:Program} {V:Value} {N n:Nat} {fr:List AV} {aw aw':List Ob} {l:List (Nat×AV)}
instance {fn:Func} {M:Nat} {R:Type} {Q:R->AV->List Ob->Prop} {x:R}:RetI (retP P V fn M Q (.inl x)) (λfr aw=>cv P fr aw fn.results.toList (Ret M (Q x) aw)):=⟨λ_ _ h=>h⟩
theorem fnPT{f:FuncId}{fn:Func}{c:Code}{args:U AV}{R:Type}{val:R->AV}{obs:R->U Ob}{r:R⊕Unit}{m:Nat}(N:Nat)(hf:P.funcs[f]?=some fn)(hm:fn.ntmps=m)
  (h:iniC 0 args λl=>T P N c (retP P V fn N (λx v aw'=>v=val x/\aw'=obs x) r) (mkA m l) aw)
  (hb:fn.body=some c:=by rfl) (hN:aw.length=N:=by rfl) (hname:(fn.name== "runtime.NumGoroutine")=false:=by kernel_rfl) (hl:Nat.ble args.length m=true:=by rfl):FnP P V f args aw val obs r:=by
 have h':=wj (K:=λl=>T P N c (retP P V fn N (λx v aw'=>v=val x/\aw'=obs x) r) (mkA m l) aw) h
 cases r with
 |inl x=>exact iJ hN hf hb hname hm hl h'
 |inr u=>exact Kx hN hf hb hname hm hl h'
variable {ops:Array Oper} {o:Oper} {d:Option Tmp} {ty:TypeId} {ps:String} {af:Array Edge} {gd:Option (Nat×Bool)}
variable {Kp:U AV->U Ob->Prop}{f:Operand}{args:Array Operand}{ts:Array TypeId}{h:FuncId}{caps ac as0:U AV}{aw0 aw2:U Ob}{n0 n1:Nat}{st:St}{w:World}{a:Act}{v:Value}
theorem PP.panic {x:Operand}{t:TypeId}(hx:evA n l x=.ifc t (.agg []))(hK:Kp (mkA n l) aw):PP P (.iface t (.agg #[])) N ⟨d,.panic x,ty,ps,af,gd⟩ (mkA n l) aw Kp:=
 ⟨λst h1 h2 σ w F a hc Kc Q hk=>by
  have hfv:=hc.fr.ev x;rw[aG,hx]at hfv;generalize hvf:a.eval x=vf at hfv;cases hfv with
  | ifc _ _ u hu=>
   cases hu with
   |agg _ vs hl hone hcs=>
    have:vs=[]:=QK (by omega);subst this;unfold Oper.wp;have hrun:(execOp a.eval ⟨d,.panic x,ty,ps,af,gd⟩).run P w=.halt (.panic (.iface t (.agg #[]))) w:=by simp only[execOp,hvf];rfl
    rw[hrun];exact hk aw σ w F hK hc⟩
theorem UT (ρ:U Nat)(hn0:aw.length=n0)(hn1:aw0.length=n1)(hf:evA n l f=.func h caps)(ha:args.toList.map (evA n l)++caps=ac)(hnd:ρ.Nodup)(hW:cy ρ aw ρ aw0)(hA:cS ρ as0 ac)(hC:PanX P V h as0 aw0)(hlen:aw2.length+ρ.length=n0+n1)(hB:fa (ck ρ n0 n1) ρ aw (aw0.map λ_=>Ob.dead) 0 aw2)(hK:Kp (mkA n l) aw2):PP P V N ⟨d,.call ⟨.value f,args,ts⟩,ty,ps,af,gd⟩ (mkA n l) aw Kp:=by grind[PP.call]
theorem Un (ρ:U Nat)(hn0:aw.length=n0)(hn1:aw0.length=n1)(hf:evA n l f=.bnd h caps)(ha:caps++args.toList.map (evA n l)=ac)(hnd:ρ.Nodup)(hW:cy ρ aw ρ aw0)(hA:cS ρ as0 ac)(hC:PanX P V h as0 aw0)(hlen:aw2.length+ρ.length=n0+n1)(hB:fa (ck ρ n0 n1) ρ aw (aw0.map λ_=>Ob.dead) 0 aw2)(hK:Kp (mkA n l) aw2):PP P V N ⟨d,.call ⟨.value f,args,ts⟩,ty,ps,af,gd⟩ (mkA n l) aw Kp:=by grind[T6]
theorem qc (ρ:U Nat)(hf:evA n l f=.func h caps)(ha:args.toList.map (evA n l)++caps=ac)(hC:PanX P V h as0 aw0)(hW:cy ρ aw ρ aw0)(hA:cS ρ as0 ac)(hB:fa (ck ρ n0 n1) ρ aw (aw0.map λ_=>Ob.dead) 0 aw2)(hK:Kp (mkA n l) aw2)(hn0:aw.length=n0:=by rfl)(hn1:aw0.length=n1:=by rfl)(hnd:ρ.Nodup:=by decide)(hlen:aw2.length+ρ.length=n0+n1:=by rfl):PP P V N ⟨d,.call ⟨.value f,args,ts⟩,ty,ps,af,gd⟩ (mkA n l) aw Kp:=UT ρ hn0 hn1 hf ha hnd hW hA hC hlen hB hK
theorem qcb (ρ:U Nat)(hf:evA n l f=.bnd h caps)(ha:caps++args.toList.map (evA n l)=ac)(hC:PanX P V h as0 aw0)(hW:cy ρ aw ρ aw0)(hA:cS ρ as0 ac)(hB:fa (ck ρ n0 n1) ρ aw (aw0.map λ_=>Ob.dead) 0 aw2)(hK:Kp (mkA n l) aw2)(hn0:aw.length=n0:=by rfl)(hn1:aw0.length=n1:=by rfl)(hnd:ρ.Nodup:=by decide)(hlen:aw2.length+ρ.length=n0+n1:=by rfl):PP P V N ⟨d,.call ⟨.value f,args,ts⟩,ty,ps,af,gd⟩ (mkA n l) aw Kp:=Un ρ hn0 hn1 hf ha hnd hW hA hC hlen hB hK
theorem SZ {id:Nat}{Q:Exit->U AV->U Ob->Prop}(i:Nat)(hi:ops.toList[i]?=some o)(h:RS P N ops (ops.toList.take i) (λfr aw=>PP P V N o fr aw λfr aw=>Q (.panic [{ v:=V,recovered:=false }]) fr aw) fr aw)(hg:o.guard=none:=by rfl):T P N (.region id ops false) Q fr aw:=by refine TN (pre:=ops.toList.take i) (rest:=ops.toList.drop (i+1)) (o:=o) ?_ hg h;grind[List.getElem_cons_drop,List.take_append_drop]
def panE(V:Value)(st:St)(Kp:List Ob->Prop)(e:Exit)(a:Act)(w:World):Prop:=e=.panic [{ v:=V,recovered:=false }]/\∃fr aw σ F,Cur st fr aw σ w F a/\Kp aw
theorem Kk {σ:U Value}{F:Nat->Prop}{d:Qbm Tmp}(h:Cur st fr aw σ w F (a.put d v)):∃fr',Cur st fr' aw σ w F a:=by
 refine⟨List.replicate a.tmps.size .any,h.sim,⟨⟨by simp,λj x v hx hv=>?_⟩,tqz⟩,h.mv,?_⟩
 .rw[RM (QE hx)];exact .any v
 .have:=h.ds;cases d<;>exact this
theorem D1 {Kp:U Ob->Prop}{d:Qbm Tmp}{c:U PanicEntry}(h:panE V st Kp (.panic c) (a.put d v) w):panE V st Kp (.panic c) a w:=by obtain⟨h1,fr,aw,σ,F,h2,h3⟩:=h;obtain⟨fr',h4⟩:=Kk h2;exact⟨h1,fr',aw,σ,F,h4,h3⟩
structure RAP (P:Program) (V:Value) (N:Nat) (ops:Array Oper) (k:Nat) (li:Array Bool) (Kp:List Ob->Prop) (fr:List AV) (aw:List Ob):Prop where
 out:∀st:St,st.aw.length=N->st.σ.length=st.aw.length->∀σ w F a,Cur st fr aw σ w F a->wpAny P .any ops (panE V st Kp) k li a w
variable {k:Nat} {li:Array Bool} {Kp:List Ob→Prop}
theorem S5 {id:Nat}{Q:Exit->U AV->U Ob->Prop}(Kp:U Ob->Prop)(hm:P.follows .mixedOrders=true)(hk:ops.size=k)(h:RAP P V N ops k (Array.replicate k false) Kp fr aw)(hq:∀fr aw,Kp aw->Q (.panic [{ v:=V,recovered:=false }]) fr aw):T P N (.region id ops true) Q fr aw:=
 ⟨λst h1 h2 σ w F a hc=>by subst hk;have hc':Cur st fr aw σ w.drew F a:=hc.step hc.sim.drew .drew;refine wp_mono (wp_region_any hm (h.out st h1 h2 σ w.drew F a hc')) (λe a w hq'=>?_);obtain⟨rfl,fr',aw',σ',F',h3,h4⟩:=hq';exact⟨fr',aw',σ',F',hq _ _ h4,h3⟩⟩
theorem qp0 (i:Nat)(hi:ops[i]?=some o)(h:vcQ P (mkA n l) aw o.op λr=>stD l o.dst r λl=>RAP P V N ops k (li.setIfInBounds i true) Kp (mkA n l) aw)(hs:Region.noSelect ops=true:=by decide+kernel)(hf:Region.free .any ops li i=true:=by decide+kernel)(hr:(Region.ready .any ops li).contains i=true:=by decide+kernel)(hg:o.guard=none:=by rfl)(hn:nV o.op=true:=by rfl):RAP P V N ops (k+1) li Kp (mkA n l) aw:=
 ⟨λst e1 e2 σ w F a hc=>by obtain⟨v,r,hrun,hrel,hk⟩:=tc hc hn h;refine wpAny_take hi hs hf hr (λc a w hp=>D1 hp) (.inl ⟨by grind[Region.wanted],hrun⟩) (RAP.out (fw (K:=λl=>RAP P V N ops k (li.setIfInBounds i true) Kp (mkA n l) aw) hk) st e1 e2 σ w F _ ?_);have:=fk hc hrel o.dst;grind[eL]⟩
open RK in
theorem qpl (D:List Nat) (i:Nat) (hi:ops[i]?=some o) (h:vcQ P (mkA n l) aw o.op λr=>stD l o.dst r λl=>RAP P V N ops k (li.setIfInBounds i true) Kp (mkA n l) aw) (hs:Region.noSelect ops=true:=by decide+kernel) (hf:loadFree ops li D i=true:=by decide+kernel)
  (hr:(Region.ready .any ops li).contains i=true:=by decide+kernel) (hg:o.guard=none:=by rfl):RAP P V N ops (k+1) li Kp (mkA n l) aw:=
 ⟨λst e1 e2 σ w F a hc=>by obtain⟨v,r,hrun,hrel,hk⟩:=Cs hc h;refine AX D hi hs hf hr (λc a w hp=>D1 hp) (.inl ⟨by grind[Region.wanted],hrun⟩) (RAP.out (fw (K:=λl=>RAP P V N ops k (li.setIfInBounds i true) Kp (mkA n l) aw) hk) st e1 e2 σ w F _ ?_);have:=fk hc hrel o.dst;grind[eL]⟩
structure RAO (P:Program) (V:Value) (N:Nat) (ops:Array Oper) (i:Nat) (K:List AV->List Ob->Prop) (Kp:List Ob->Prop) (fr:List AV) (aw:List Ob):Prop where
 out:∀st:St,st.aw.length=N->st.σ.length=st.aw.length->∀σ w F a,Cur st fr aw σ w F a->∀(Kc:Act->World->Prop),
  (∀fr aw σ w F a,Cur st fr aw σ w F a->K fr aw->Kc a w)->wpOp P ops (panE V st Kp) i Kc a w
theorem RAP.all {rs:U Nat}(hr:Region.ready .any ops li=rs)(hne:rs≠[])(h:∀i,i∈rs->RAO P V N ops i (RAP P V N ops k (li.setIfInBounds i true) Kp) Kp fr aw):RAP P V N ops (k+1) li Kp fr aw:=
 ⟨λst h1 h2 σ w F a hc=>wpAny_all hr hne λi hi=>(h i hi).out st h1 h2 σ w F a hc _ λfr aw σ w F a hc hK=>RAP.out hK st h1 h2 σ w F a hc⟩
theorem qA1 (i:Nat)(h:RAO P V N ops i (RAP P V N ops k (li.setIfInBounds i true) Kp) Kp fr aw)(hr:Region.ready .any ops li=[i]:=by decide+kernel):RAP P V N ops (k+1) li Kp fr aw:=
 RAP.all hr (by simp) λx hx=>by grind
theorem qA2 (i j:Nat)(h:RAO P V N ops i (RAP P V N ops k (li.setIfInBounds i true) Kp) Kp fr aw)(h':RAO P V N ops j (RAP P V N ops k (li.setIfInBounds j true) Kp) Kp fr aw)(hr:Region.ready .any ops li=[i,j]:=by decide+kernel):RAP P V N ops (k+1) li Kp fr aw:=
 RAP.all hr (by simp) λx hx=>by grind
theorem qA3 (i j m:Nat)(h:RAO P V N ops i (RAP P V N ops k (li.setIfInBounds i true) Kp) Kp fr aw)(h':RAO P V N ops j (RAP P V N ops k (li.setIfInBounds j true) Kp) Kp fr aw)(h'':RAO P V N ops m (RAP P V N ops k (li.setIfInBounds m true) Kp) Kp fr aw)(hr:Region.ready .any ops li=[i,j,m]:=by decide+kernel):RAP P V N ops (k+1) li Kp fr aw:=
 RAP.all hr (by simp) λx hx=>by grind
variable {i:Nat}{K:U AV->U Ob->Prop}
theorem qpO (hi:ops[i]?=some o)(h:OP P N o (mkA n l) aw λr aw'=>stD l o.dst r λl=>K (mkA n l) aw')(hg:o.guard=none:=by rfl):RAO P V N ops i K Kp (mkA n l) aw:=
 ⟨λst e1 e2 σ w F a hc Kc hK=>by unfold wpOp;simp only[hi];rw[if_pos (by grind[Region.wanted])];refine .inl (h.out st e1 e2 σ w F a hc _ _ λr aw' σ' w' F' v hk hcur hrel=>hK _ _ σ' w' F' _ ?_ (fw (K:=λl=>K (mkA n l) aw') hk));have:=fk hcur hrel o.dst;grind[eL]⟩
theorem qpP (hi:ops[i]?=some o)(h:PP P V N o (mkA n l) aw λ_ aw=>Kp aw)(hg:o.guard=none:=by rfl):RAO P V N ops i K Kp (mkA n l) aw:=
 ⟨λst e1 e2 σ w F a hc Kc hK=>by unfold wpOp;simp only[hi];rw[if_pos (by grind[Region.wanted])];exact .inl (h.out st e1 e2 σ w F a hc _ _ λaw' σ' w' F' hk hcur=>⟨J,_,aw',σ',F',hcur,hk⟩)⟩
end
end
end Go.Proofs.YtnlmagdmmjkklaaGreat
