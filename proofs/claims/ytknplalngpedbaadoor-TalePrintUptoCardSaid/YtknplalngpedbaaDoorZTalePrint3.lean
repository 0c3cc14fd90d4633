/-
  Part 3 of the proof of talePrintLaw.proved: the code computes these functions, and the law holds of them, with no condition beyond the statement's own; put together by a program of ours (wip/decl.py) out of texts of ours.
-/
import Derived.RangeFuncNested
import Derived.RangeFuncBound
import Derived.RangeFuncCalls
import Derived.RangeFuncLeaves
import Derived.RangeFuncBox
import Derived.Shelf.Abstract
import Derived.Shelf.RegionOpen
import Derived.OwnWalkIn
import Derived.TacticsInMore
import Derived.LoopNIn
import Derived.LoopIn
import Derived.Shelf.Strings.Search3
import Derived.Tactics
import Derived.Tactics2
import Derived.ProofKit
import Derived.OpenShut
import Derived.JoinedCond
import Derived.Deep.Slices
import Derived.Carry
import Derived.IntWalk
import Derived.Test.YtknplalngpedbaaDoorCards
import Derived.Test.YtknplalngpedbaaDoorTie
import Derived.Deep.DeepHandedRow
import Derived.Test.YtknplalngpedbaaDoorZTalePrint2
set_option linter.unusedVariables false
set_option linter.unusedSimpArgs false
namespace Go.Proofs.YtknplalngpedbaaDoor
section
open Go.RowKit Go.Shelf
set_option maxRecDepth 100000
set_option maxHeartbeats 4000000
def tR:Go.Shelf.Ren:=⟨fun n=>match n with | 129=>59 | 138=>54 | 143=>55 | 146=>29 | 171=>8 | 172=>56 | 195=>64 | 197=>65 | 205=>90 | 217=>76 | 218=>66 | 219=>67 | 221=>40 | 224=>78 | 225=>77 | 243=>24 | 244=>68 | 245=>69 | 246=>34 | 247=>80 | 260=>75 | 266=>86 | 267=>79 | 268=>53 | 279=>81 | 280=>82 | 281=>83 | 282=>84 | 283=>44 | 284=>45 | 285=>46 | 286=>47 | 287=>88 | 314=>87 | 316=>89 | 317=>58 | 318=>60 | 319=>61 | 320=>62 | 321=>91 | 322=>92 | 337=>71 | 338=>72 | _=>0,fun n=>match n with | 0=>0 | 2=>2 | 3=>3 | 4=>4 | 5=>5 | 9=>9 | 20=>20 | 21=>21 | 31=>36 | 37=>41 | 46=>110 | 51=>108 | 53=>89 | 75=>45 | 76=>46 | 80=>50 | 85=>125 | 105=>114 | 119=>133 | 127=>64 | 138=>135 | 139=>136 | 143=>145 | 145=>147 | 146=>120 | 167=>124 | 168=>127 | 171=>88 | 173=>92 | 175=>138 | 210=>142 | 212=>107 | 213=>109 | 232=>131 | 233=>132 | _=>0,fun n=>match n with | 1=>1 | 3=>4 | 4=>5 | 15=>6 | 16=>7 | 17=>0 | 18=>2 | 19=>3 | _=>0⟩
theorem tS:Lays.n146 Tryd.prog tR where
 mixed:=by kernel_rfl
 f138:=by kernel_rfl
 f143:=by kernel_rfl
 f146:=by kernel_rfl
 f195:=by kernel_rfl
 f197:=by kernel_rfl
 f217:=by kernel_rfl
 f218:=by kernel_rfl
 f219:=by kernel_rfl
 f221:=by kernel_rfl
 f224:=by kernel_rfl
 f225:=by kernel_rfl
 f260:=by kernel_rfl
 f266:=by kernel_rfl
 f267:=by kernel_rfl
 f268:=by kernel_rfl
 f314:=by kernel_rfl
 t0:=by kernel_rfl
 a0:=fun w=>by kernel_rfl
 z0:=fun w=>by kernel_rfl
 v0:=fun w=>by kernel_rfl
 t3:=by kernel_rfl
 a3:=fun w=>by kernel_rfl
 z3:=fun w=>by kernel_rfl
 v3:=fun w=>by kernel_rfl
 t4:=by kernel_rfl
 a4:=fun w=>by kernel_rfl
 z4:=fun w=>by kernel_rfl
 v4:=fun w=>by kernel_rfl
 t5:=by kernel_rfl
 a5:=fun w=>by kernel_rfl
 z5:=fun w=>by kernel_rfl
 v5:=fun w=>by kernel_rfl
 t9:=by kernel_rfl
 a9:=fun w=>by kernel_rfl
 z9:=fun w=>by kernel_rfl
 v9:=fun w=>by kernel_rfl
 t21:=by kernel_rfl
 a21:=fun w=>by kernel_rfl
 z21:=fun w=>by kernel_rfl
 v21:=fun w=>by kernel_rfl
 t31:=by kernel_rfl
 a31:=fun w=>by kernel_rfl
 z31:=fun w=>by kernel_rfl
 v31:=fun w=>by kernel_rfl
 t46:=by kernel_rfl
 a46:=fun w=>by kernel_rfl
 z46:=fun w=>by kernel_rfl
 v46:=fun w=>by kernel_rfl
 t51:=by kernel_rfl
 a51:=fun w=>by kernel_rfl
 z51:=fun w=>by kernel_rfl
 v51:=fun w=>by kernel_rfl
 t105:=by kernel_rfl
 a105:=fun w=>by kernel_rfl
 z105:=fun w=>by kernel_rfl
 v105:=fun w=>by kernel_rfl
 t119:=by kernel_rfl
 a119:=fun w=>by kernel_rfl
 z119:=fun w=>by kernel_rfl
 t138:=by kernel_rfl
 a138:=fun w=>by kernel_rfl
 z138:=fun w=>by kernel_rfl
 v138:=fun w=>by kernel_rfl
 t139:=by kernel_rfl
 a139:=fun w=>by kernel_rfl
 z139:=fun w=>by kernel_rfl
 v139:=fun w=>by kernel_rfl
 t146:=by kernel_rfl
 a146:=fun w=>by kernel_rfl
 z146:=fun w=>by kernel_rfl
 v146:=fun w=>by kernel_rfl
 g1:=by kernel_rfl
 g3:=by kernel_rfl
 g4:=by kernel_rfl
theorem tA:Lays.n172 Tryd.prog tR where
 mixed:=by kernel_rfl
 f129:=by kernel_rfl
 f171:=by kernel_rfl
 f172:=by kernel_rfl
 f205:=by kernel_rfl
 f243:=by kernel_rfl
 f244:=by kernel_rfl
 f245:=by kernel_rfl
 f246:=by kernel_rfl
 f247:=by kernel_rfl
 f279:=by kernel_rfl
 f280:=by kernel_rfl
 f281:=by kernel_rfl
 f282:=by kernel_rfl
 f283:=by kernel_rfl
 f284:=by kernel_rfl
 f285:=by kernel_rfl
 f286:=by kernel_rfl
 f287:=by kernel_rfl
 f316:=by kernel_rfl
 f317:=by kernel_rfl
 f318:=by kernel_rfl
 f319:=by kernel_rfl
 f320:=by kernel_rfl
 f321:=by kernel_rfl
 f322:=by kernel_rfl
 f337:=by kernel_rfl
 f338:=by kernel_rfl
 t0:=by kernel_rfl
 a0:=fun w=>by kernel_rfl
 z0:=fun w=>by kernel_rfl
 v0:=fun w=>by kernel_rfl
 t2:=by kernel_rfl
 a2:=fun w=>by kernel_rfl
 z2:=fun w=>by kernel_rfl
 v2:=fun w=>by kernel_rfl
 t3:=by kernel_rfl
 a3:=fun w=>by kernel_rfl
 z3:=fun w=>by kernel_rfl
 v3:=fun w=>by kernel_rfl
 t4:=by kernel_rfl
 a4:=fun w=>by kernel_rfl
 z4:=fun w=>by kernel_rfl
 v4:=fun w=>by kernel_rfl
 t5:=by kernel_rfl
 a5:=fun w=>by kernel_rfl
 z5:=fun w=>by kernel_rfl
 v5:=fun w=>by kernel_rfl
 t9:=by kernel_rfl
 a9:=fun w=>by kernel_rfl
 z9:=fun w=>by kernel_rfl
 v9:=fun w=>by kernel_rfl
 t20:=by kernel_rfl
 a20:=fun w=>by kernel_rfl
 z20:=fun w=>by kernel_rfl
 v20:=fun w=>by kernel_rfl
 t21:=by kernel_rfl
 a21:=fun w=>by kernel_rfl
 z21:=fun w=>by kernel_rfl
 v21:=fun w=>by kernel_rfl
 t37:=by kernel_rfl
 a37:=fun w=>by kernel_rfl
 z37:=fun w=>by kernel_rfl
 v37:=fun w=>by kernel_rfl
 t46:=by kernel_rfl
 a46:=fun w=>by kernel_rfl
 z46:=fun w=>by kernel_rfl
 v46:=fun w=>by kernel_rfl
 t51:=by kernel_rfl
 a51:=fun w=>by kernel_rfl
 z51:=fun w=>by kernel_rfl
 v51:=fun w=>by kernel_rfl
 t53:=by kernel_rfl
 a53:=fun w=>by kernel_rfl
 z53:=fun w=>by kernel_rfl
 v53:=fun w=>by kernel_rfl
 t75:=by kernel_rfl
 a75:=fun w=>by kernel_rfl
 z75:=fun w=>by kernel_rfl
 v75:=fun w=>by kernel_rfl
 t76:=by kernel_rfl
 a76:=fun w=>by kernel_rfl
 z76:=fun w=>by kernel_rfl
 v76:=fun w=>by kernel_rfl
 t85:=by kernel_rfl
 a85:=fun w=>by kernel_rfl
 z85:=fun w=>by kernel_rfl
 v85:=fun w=>by kernel_rfl
 t127:=by kernel_rfl
 a127:=fun w=>by kernel_rfl
 z127:=fun w=>by kernel_rfl
 v127:=fun w=>by kernel_rfl
 t143:=by kernel_rfl
 a143:=fun w=>by kernel_rfl
 z143:=fun w=>by kernel_rfl
 v143:=fun w=>by kernel_rfl
 t145:=by kernel_rfl
 a145:=fun w=>by kernel_rfl
 z145:=fun w=>by kernel_rfl
 v145:=fun w=>by kernel_rfl
 t167:=by kernel_rfl
 a167:=fun w=>by kernel_rfl
 z167:=fun w=>by kernel_rfl
 v167:=fun w=>by kernel_rfl
 t168:=by kernel_rfl
 a168:=fun w=>by kernel_rfl
 z168:=fun w=>by kernel_rfl
 v168:=fun w=>by kernel_rfl
 t171:=by kernel_rfl
 a171:=fun w=>by kernel_rfl
 z171:=fun w=>by kernel_rfl
 v171:=fun w=>by kernel_rfl
 t173:=by kernel_rfl
 a173:=fun w=>by kernel_rfl
 z173:=fun w=>by kernel_rfl
 v173:=fun w=>by kernel_rfl
 t175:=by kernel_rfl
 a175:=fun w=>by kernel_rfl
 z175:=fun w=>by kernel_rfl
 v175:=fun w=>by kernel_rfl
 t210:=by kernel_rfl
 a210:=fun w=>by kernel_rfl
 z210:=fun w=>by kernel_rfl
 v210:=fun w=>by kernel_rfl
 t212:=by kernel_rfl
 a212:=fun w=>by kernel_rfl
 z212:=fun w=>by kernel_rfl
 v212:=fun w=>by kernel_rfl
 t213:=by kernel_rfl
 a213:=fun w=>by kernel_rfl
 z213:=fun w=>by kernel_rfl
 t232:=by kernel_rfl
 a232:=fun w=>by kernel_rfl
 z232:=fun w=>by kernel_rfl
 v232:=fun w=>by kernel_rfl
 t233:=by kernel_rfl
 a233:=fun w=>by kernel_rfl
 z233:=fun w=>by kernel_rfl
 v233:=fun w=>by kernel_rfl
 g15:=by kernel_rfl
 g16:=by kernel_rfl
 g17:=by kernel_rfl
 g18:=by kernel_rfl
 g19:=by kernel_rfl
theorem t8 (p0 p1:List UInt8) (r:List (List UInt8)) (h:jx p0 p1=some r):Fn Tryd.prog 29 [.str p0,.str p1] (.sl (List.map aa r)) :=
 rB (ρ:=tR) (callable Tryd.func29 rfl (by kernel_rfl)) tS (by kernel_rfl) p0 p1 r h
theorem uc (p0:List UInt8) (r:Int) (h:atoiS p0=some r):Fn Tryd.prog 56 [.str p0] (.tup [.int .i64 r,.nili]) :=
 tm (ρ:=tR) (callable Tryd.func56 rfl (by kernel_rfl)) tA p0 r h
attribute [local go_sem] Oper.semAt_some
theorem kQ {b:UInt8}:∀ {p:List UInt8},b ∉ p->bP b p=[p]
 | [],_=>rfl
 | x::p,h=>by
  have h1:¬ x=b:=fun e=>h (by rw [e];exact yk)
  have h2:b ∉ p:=fun m=>h (yn _ m)
  simp only [bP,if_neg h1,kQ h2]
theorem kZ {b:UInt8} (q:List UInt8):∀ {p:List UInt8},b ∉ p->bP b (p++b::q)=p::bP b q
 | [],_=>by simp [bP]
 | x::p,h=>by
  have h1:¬ x=b:=fun e=>h (by rw [e];exact yk)
  have h2:b ∉ p:=fun m=>h (yn _ m)
  simp only [yB,bP,if_neg h1,kZ q h2]
theorem tT (s:List UInt8) (b:UInt8):(Lib.indexByte s b<0/\b ∉ s)∨∃ p q,s=p++b::q/\b ∉ p/\Lib.indexByte s b=p.length:=by
 have hge:=Lib.indexByte_ge s b;by_cases h:Lib.indexByte s b<0
 ·have h1:Lib.indexByte s b = -1:=by omega
  exact .inl ⟨h,fun hm=>by obtain ⟨k,hk⟩:=List.mem_iff_getElem?.1 hm;exact Lib.indexByte_none h1 k hk⟩
 ·obtain ⟨o,ho⟩:∃ o:Nat,Lib.indexByte s b=o:=⟨_,(yZ (by omega)).symm⟩
  obtain ⟨h1,h2⟩:=Lib.indexByte_some ho;obtain ⟨hl,hx⟩:=xG.1 h1;refine .inr ⟨s.take o,s.drop (o+1),?_,fun hm=>?_,?_⟩
  ·have:=xZ hl;rw [hx] at this;rw [<- this,y6]
  ·obtain ⟨k,hk⟩:=List.mem_iff_getElem?.1 hm;rw [ye] at hk;split at hk
   ·exact h2 k (by assumption) hk
   ·cases hk
  ·rw [ho,yf,yV (by omega)]
def AbB {β:Type} (B:Nat) (J:β->World->Prop):Prop:=∀ s W W' row,J s W->W.grownBy W' row->(∀ r,row=some r->r=B)->J s W'
def boxK (B m:Nat) (W W':World):Prop:=∀ k,B<=k->k<B+m->W'.heap[k]?=W.heap[k]?
theorem uj (n:Nat) (hn:1<=n) (b:UInt8) (s0:List UInt8) (hs0:s0.length<4294967281) (l B:Nat) (J:List (List UInt8)->World->Prop) (hJ:AbB B J)
  (hY:∀ pre x post W,bP b s0=pre++x::post->J pre W->YieldAt Fence.wide (n - 1) Tryd.prog l #[.string ⟨x.toArray⟩] W fun e W'=>e=.returned (.bool true)/\J (pre++[x]) W'/\boxK B 3 W W')
  (W:World) (h0:Boxed W B 9 (.string ⟨s0.toArray⟩)) (h1:Boxed W (B+1) 9 (.string ⟨#[b]⟩)) (h2:Boxed W (B+2) 3 (.int .i64 0)) (hj:J [] W) :
  CallsIn Fence.wide n Tryd.prog 85 #[.func (.yield l) #[] #[],.pointer (some ⟨B+1,0,none⟩),.pointer (some ⟨B,0,none⟩),.pointer (some ⟨B+2,0,none⟩)] W fun e W'=>(∃ v,e=.returned v)/\J (bP b s0) W':=by
 refine callsIn_of_wp Tryd.func85 rfl trivial ?_ rfl
 simp only [Tryd.ntmps85,yX,xM,xT,Nat.reduceAdd,Nat.reduceSub,Array.replicate_succ,Array.replicate_zero,List.push_toArray,List.append_toArray,yW,yB]
 have hc1:=h1.cell
 have hc0:=h0.cell
 have hc2:=h2.cell
 gi_wp2
 gi_loopw [] (fun wr=>∃ pre s,bP b s0=pre++bP b s/\s.length<=s0.length/\Boxed wr B 9 (.string ⟨s.toArray⟩)/\Boxed wr (B+1) 9 (.string ⟨#[b]⟩)/\Boxed wr (B+2) 3 (.int .i64 0)/\J pre wr)
  (fun wr=>match wr.cell? ⟨B,0,none⟩ with | some (.string s)=>s.size | _=>0)
 case atStart=>exact ⟨[],s0,rfl,xR _,h0,h1,h2,hj⟩
 case round =>
  obtain ⟨pre,s,hcut,hle,hb0,hb1,hb2,hJs⟩:=hrel
  have hd0:=hb0.cell
  have hd1:=hb1.cell
  have hd2:=hb2.cell
  have hf0:=hb0.frozen
  rcases tT s b with ⟨hneg,hno⟩ | ⟨p,q,rfl,hno,hix⟩
  ·obtain ⟨fn,tmps,assign,body,hy,hR⟩:=hY pre s [] _ (by rw [hcut,kQ hno]) hJs
   gi_wp2_with (refine ⟨trivial,?_⟩;gi_at_call 55;refine (callsIn_wide.2 (Any.strings_Index_one (ρ:=tR) { tS with } ⟨s.toArray⟩ b _)).mono ?_;rintro e w' ⟨rfl,rfl⟩)
   refine hR.mono ?_
   rintro e W3 ⟨rfl,hJ3,_⟩
   gi_wp2
   go_end0
   exact ⟨⟨_,rfl⟩,by rw [hcut,kQ hno];exact hJ3⟩
  ·have hlt:p.length<4294967281:=by simp at hle;omega
   have hI:∀ w,Calls Tryd.prog 55 #[.string ⟨(p++b::q).toArray⟩,.string ⟨#[b]⟩] w fun e w'=>e=.returned (.int .i64 p.length)/\w'=w:=fun w=>(Any.strings_Index_one (ρ:=tR) { tS with } ⟨(p++b::q).toArray⟩ b _).mono fun e w' ⟨h1,h2⟩=>⟨by rw [h1];simp [hix],h2⟩
   have hw:wrap64 (p.length:Int)=p.length:=by unfold wrap64;omega
   have hsz:(⟨(p++b::q).toArray⟩:ByteArray).size=p.length+(q.length+1):=by simp [ByteArray.size]
   obtain ⟨fn,tmps,assign,body,hy,hR⟩:=hY pre p (bP b q) _ (by rw [hcut,kZ q hno]) hJs
   have hpx:(⟨p.toArray⟩:ByteArray)=(⟨(p++b::q).toArray⟩:ByteArray).extract 0 p.length:=by apply ByteArray.ext;simp [ByteArray.data_extract]
   have hqx:(⟨(p++b::q).toArray⟩:ByteArray).extract (p.length+1) (p.length+(q.length+1))=⟨q.toArray⟩:=by apply ByteArray.ext;simp [ByteArray.data_extract];exact yc (by omega)
   rw [hpx] at hy
   gi_wp2_with (refine ⟨trivial,?_⟩;gi_at_call 55;refine (callsIn_wide.2 (hI _)).mono ?_;rintro e w' ⟨rfl,rfl⟩)
   refine hR.mono ?_
   rintro e W3 ⟨rfl,hJ3,hk3⟩
   have k0:Boxed W3 B 9 (.string ⟨(p++b::q).toArray⟩):=(hk3 B (xR _) (by omega)).trans hb0
   have k1:Boxed W3 (B+1) 9 (.string ⟨#[b]⟩):=(hk3 (B+1) (by omega) (by omega)).trans hb1
   have k2:Boxed W3 (B+2) 3 (.int .i64 0):=(hk3 (B+2) (by omega) (by omega)).trans hb2
   have c0:=k0.cell
   have c1:=k1.cell
   have f0:=k0.frozen
   have hw1:wrap64 ((p.length:Int)+1)=p.length+1:=by unfold wrap64;omega
   gi_wp2
   go_roundw
   case rel =>
    exact ⟨pre++[p],q,by rw [hcut,kZ q hno];simp,by simp at hle;omega,k0.set _,k1.kept (grownBy_setCell' _ _ _) (by simp),k2.kept (grownBy_setCell' _ _ _) (by simp),hJ _ _ _ (some B) hJ3 (grownBy_setCell' _ _ _) (fun r e=>by cases e;rfl)⟩
   case measure =>
    rw [hd0,(k0.set (.string ⟨q.toArray⟩)).cell]
    simp [ByteArray.size]
    omega
theorem boxK.put {B m:Nat} {W W':World} (h:boxK B m W W') (l:Nat) (o:Obj) (hl:l<B∨B+m<=l):boxK B m W (W'.putObj l o):=fun k h1 h2=>(World.putObj_heap_other (by omega)).trans (h k h1 h2)
def bodyB (B D:Nat) (W:World) (K:World->Prop):Exit->Act->World->Prop:=fun e _ W'=>e=.normal/\boxK B 3 W W'/\boxK D 2 W W'/\K W'
theorem se {P:Program} {α:Type} {n:Nat} {g:Operand} {ps:Array Tmp} {assign body:Code} {Q:Exit->Act->World->Prop} {a:Act} {w:World} {gf:Nat} {lb:Array Value} (h1:1<=n)
  (hg:a.eval g=.func (.func gf) #[] lb) (eg:∀ args w,(callFunc gf args).run P w=.ok (.enter gf args) w) (encs:α->Array Value) (hps:∀ x,(encs x).size=ps.size) (xs:List α) (B:Nat) (hB:B+3<=w.heap.size)
  (hseq:∀ (l:Nat) (J:List α->World->Prop) (W:World),AbB B J->boxK B 3 w W->(∀ pre x post W1,xs=pre++x::post->J pre W1->YieldAt Fence.wide (n - 1 - 1) P l (encs x) W1 fun e W'=>e=.returned (.bool true)/\J (pre++[x]) W'/\boxK B 3 W1 W') ->
   J [] W->CallsIn Fence.wide (n - 1) P gf (#[.func (.yield l) #[] #[]]++lb) W fun e W'=>(∃ v,e=.returned v)/\J xs W')
  (I:List α->World->Prop) (hI:∀ s W W' row,I s W->W.grownBy W' row->(∀ r,row=some r->r=B∨r=w.heap.size∨r=w.heap.size+1)->I s W') (h0:I [] w) (a1:α->Act)
  (hassign:∀ (l:Nat) (x:α) (W:World) (K:Act->World->Prop),K (a1 x) W->assign.wpIn (Fence.wide.inRound l) (n - 1 - 1) P (Exit.then K (fun _ _ _=>False)) { tmps:=(ps.zip (encs x)).foldl (fun t (p,v)=>t.setIfInBounds p v) a.tmps,defers:=[] } W)
  (hbody:∀ (l:Nat) (pre:List α) (x:α) (post:List α) (W:World),xs=pre++x::post->I pre W->w.heap.size+2<=W.heap.size->body.wpIn (Fence.wide.inRound l) (n - 1 - 1) P (bodyB B w.heap.size W (I (pre++[x]))) (a1 x) W)
  (hdone:∀ (W:World),I xs W->W.heap[w.heap.size]?=some (.deferred (some []))->Q .normal { a with defers:={ target:=.collected w.heap.size,args:=#[] }::a.defers } W) :
  (Code.rangeFunc g ps assign body).wpIn Fence.wide n P Q a w:=by
 refine wpIn_rangeFunc fun fn _=>?_
 obtain ⟨R,hR⟩:∃ R:LoopState->Go.Loop,R=fun st=>{ state:=st,pending:=none,fn,tmps:=a.tmps,params:=ps,assign,body,defers:=w.heap.size }:=⟨_,rfl⟩
 have hlay:(Instr.enterLoop fn a.tmps ps assign body Fence.wide.round).run P w=.ok (w.heap.size+1,[{ target:=.collected w.heap.size,args:=#[] }]) ((w.alloc (.deferred (some []))).alloc (.loop (R .ready))):=by rw [hR];exact run_enterLoop_outer _ _ _ _ _
 have hl:((w.alloc (.deferred (some []))).alloc (.loop (R .ready))).heap[w.heap.size+1]?=some (.loop (R .ready)):=by have:=World.alloc_heap_new (w.alloc (.deferred (some []))) (.loop (R .ready));rwa [World.size_alloc] at this
 have hd:((w.alloc (.deferred (some []))).alloc (.loop (R .ready))).heap[w.heap.size]?=some (.deferred (some [])):=(Below.heap_alloc _ _ _ (by simp)).trans (World.alloc_heap_new w _)
 have hi:I [] ((w.alloc (.deferred (some []))).alloc (.loop (R .ready))):=hI _ _ _ none (hI _ _ _ none h0 (World.grownBy_alloc _ _ _) (fun r e=>by cases e)) (World.grownBy_alloc _ _ _) (fun r e=>by cases e)
 have hbx:boxK B 3 w ((w.alloc (.deferred (some []))).alloc (.loop (R .ready))):=fun k _ h2=>(Below.heap_alloc _ _ _ (by simp;omega)).trans (Below.heap_alloc _ _ _ (by omega))
 generalize (w.alloc (.deferred (some []))).alloc (.loop (R .ready))=W1 at hlay hl hd hi hbx
 refine ⟨w.heap.size+1,_,W1,{ target:=.fn (.func gf) lb,args:=#[.func (.yield (w.heap.size+1)) #[] #[]] },W1,gf,#[.func (.yield (w.heap.size+1)) #[] #[]]++lb,W1,hlay,?_,fun _ _=>trivial,?_,fun _=>h1,?_⟩
 ·simp only [resolve,hg]
  simp [go_sem]
 ·simp [invoke,go_sem,eg]
 have put:∀ {pre:List α} {W:World} {l:Nat} {o:Obj} (o':Obj),I pre W->l=w.heap.size∨l=w.heap.size+1->I pre (W.putObj l o'):=fun o' h hl=>hI _ _ _ (some _) h (grownBy_putObj' _ _ o') (fun r e=>by cases e;omega)
 refine (hseq (w.heap.size+1) (fun pre W=>I pre W/\W.heap[w.heap.size+1]?=some (.loop (R .ready))/\W.heap[w.heap.size]?=some (.deferred (some []))) W1
  (fun s W W' row ⟨j1,j2,j3⟩ hgr hrow=>⟨hI _ _ _ row j1 hgr (fun r e=>.inl (hrow r e)),(hgr.block _ (xX.1 j2).1 (fun e=>by have:=hrow _ e.symm;omega)).trans j2,(hgr.block _ (xX.1 j3).1 (fun e=>by have:=hrow _ e.symm;omega)).trans j3⟩) hbx ?_ ⟨hi,hl,hd⟩).mono ?_
 ·rintro pre x post W hx ⟨j1,j2,j3⟩
  have hy:=run_yield (P:=P) (args:=encs x) j2 (by rw [hR];exact hps x)
  have hlt:=(xX.1 j2).1
  rw [hR] at hy
  refine ⟨fn,_,assign,body,hy,roundIn_of_wpIn trivial (hassign _ x W _ ⟨_,run_beginRound j2 (by rw [hR]),?_⟩)⟩
  refine wpIn_mono (hbody _ pre x post _ hx (put (o:=.loop (R .ready)) _ j1 (.inr rfl)) (by simp;omega)) ?_
  rintro e a3 W3 ⟨rfl,b1,b2,b3⟩
  have h3:W3.heap[w.heap.size+1]?=some (.loop { R .ready with state:=.busy }):=(b2 _ (by omega) (by omega)).trans (World.putObj_heap_same hlt)
  have h4:W3.heap[w.heap.size]?=some (.deferred (some [])):=(b2 _ (by omega) (by omega)).trans ((World.putObj_heap_other (by omega)).trans j3)
  have hlt3:=(xX.1 h3).1
  refine ⟨_,_,run_endRound none h3,rfl,⟨put (o:=.loop (R .ready)) _ b3 (.inr rfl),?_,(World.putObj_heap_other (by omega)).trans h4⟩,?_⟩
  ·rw [World.putObj_heap_same hlt3,hR];rfl
  ·exact (fun k h5 h6=>(World.putObj_heap_other (by omega)).trans ((b1 k h5 h6).trans (World.putObj_heap_other (by omega))))
 ·rintro e W2 ⟨⟨v,rfl⟩,j1,j2,j3⟩
  exact ⟨none,_,by rw [run_endLoop (P:=P) j2 (by rw [hR];simp),hR],hdone _ (put (o:=.loop (R .ready)) _ j1 (.inr rfl)) ((World.putObj_heap_other (by omega)).trans j3)⟩
theorem tF (w:World) (e:TypeId) (u:ByteArray):w.grownBy (Lib.bytesWorld w e u) none:=by
 refine ⟨?_,?_,?_,?_,fun b hb _=>?_⟩
 ·unfold Lib.bytesWorld World.freeze;split<;>rfl
 ·unfold Lib.bytesWorld World.freeze;split<;>rfl
 ·unfold Lib.bytesWorld World.freeze;split<;>rfl
 ·unfold Lib.bytesWorld World.freeze;simp
 ·unfold Lib.bytesWorld World.freeze;rw [if_neg (by decide)];show ((w.drew.alloc _).heap.modify w.heap.size _)[b]?=_;rw [yE,if_neg (by omega)];exact Below.heap_alloc w.drew _ b hb
theorem kJ (n:Nat) (hn:1<=n) (t:List UInt8) (r:Int) (h:eQ t=some r) (w:World):CallsIn Fence.wide n Tryd.prog 42 #[.string ⟨t.toArray⟩] w fun e w'=>e=.returned (.int .i64 r)/\∃ u,w'=Lib.bytesWorld w (tR.t 5) u:=by
  have ⟨hl, ha,h0,h100,hd⟩:t.length<=18/\Lib.atoi t=some r/\0<=r/\r<100/\Lib.decDigits r.toNat=t:=by
    unfold eQ atoiS itoaS at h;split at h
    · rename_i hl;cases ha:Lib.atoi t with
      | none=>rw [ha] at h;cases h
      | some m =>
        rw [ha] at h;simp only [xI] at h;split at h
        · cases h
        · split at h
          · rename_i h1 h2;simp only [xI] at h;split at h
            · cases h;exact ⟨hl,rfl,by omega,by omega,by assumption⟩
            · cases h
          · cases h
    · cases h
  obtain ⟨m,rfl⟩:=zh h0;have hi:∀ w,Calls Tryd.prog 8 #[.int .i64 m] w fun e w'=>e=.returned (.string ⟨t.toArray⟩)/\w'=w:=fun w=>by have:=Any.strconv_Itoa_small iL m (by omega) w;rw [show Lib.decDigits m=t from hd] at this;exact this
  refine callsIn_of_wp Tryd.func42 rfl trivial ?_ rfl;simp only [Tryd.ntmps42,yX,xM,xT,Nat.reduceAdd,Nat.reduceSub,Array.replicate_succ,Array.replicate_zero,List.push_toArray,List.append_toArray,yW,yB];gi_wp2_with (first | (refine ⟨trivial,?_⟩;gi_at_call 56;refine (callsIn_wide.2 (Any.strconv_Atoi tA ⟨t.toArray⟩ m (by simpa [ByteArray.size] using hl) (by simpa using ha) _)).mono ?_;rintro e w' ⟨rfl,u,rfl⟩) | (refine ⟨trivial,?_⟩;gi_at_call 8;refine (callsIn_wide.2 (hi _)).mono ?_;rintro e w' ⟨rfl,rfl⟩));go_ret;exact ⟨rfl,u,rfl⟩
theorem n3 (b:UInt8):∀ s,(bP b s).length<=s.length+1
 | []=>xR _
 | x::l=>by
  have ih:=n3 b l;unfold bP;split
  ·simpa using ih
  ·split
   ·simp
   ·rename_i h;rw [h] at ih;simp at ih ⊢;omega
theorem pe:∀ {pre:List (List UInt8)} {x:List UInt8} {post:List (List UInt8)} {r:List Int},allT (pre++x::post)=some r->∃ y,eQ x=some y
 | [],x,post,r,h=>by
  cases hx:eQ x with
  | none=>simp [allT,hx] at h
  | some y=>exact ⟨y,rfl⟩
 | z::pre,x,post,r,h=>by
  simp only [yB,allT] at h;cases hz:eQ z with
  | none=>simp [hz] at h
  | some y =>
   rw [hz] at h;simp only [xI,xU] at h;obtain ⟨r',h',_⟩:=h;exact pe h'
theorem oc {x:List UInt8} {y:Int} (hx:eQ x=some y):∀ {pre:List (List UInt8)} {vs:List Int},allT pre=some vs->allT (pre++[x])=some (vs++[y])/\vs.length=pre.length
 | [],vs,h=>by cases h;exact ⟨by simp [allT,hx],rfl⟩
 | z::pre,vs,h=>by
  simp only [allT] at h;cases hz:eQ z with
  | none=>simp [hz] at h
  | some k =>
   rw [hz] at h;simp only [xI,xU] at h;obtain ⟨r',h',rfl⟩:=h;have ih:=oc hx h';exact ⟨by simp [allT,hz,ih.1],by simp [ih.2]⟩
theorem iTI:(Tryd.prog.info? 3).map (fun i=>(i.zero,i.size,i.bytes))=some (some (.int .i64 0),1,8):=by kernel_rfl
theorem vC (n:Nat) (hn:3<=n) (s:List UInt8) (b:UInt8) (w:World):CallsIn Fence.wide n Tryd.prog 57 #[.string ⟨s.toArray⟩,.string ⟨#[b]⟩] w fun e w' =>
  e=.returned (.func (.func 85) #[] #[.pointer (some ⟨w.heap.size+1,0,none⟩),.pointer (some ⟨w.heap.size,0,none⟩),.pointer (some ⟨w.heap.size+2,0,none⟩)])/\w'=((w.alloc (.cells #[.string ⟨s.toArray⟩] 9)).alloc (.cells #[.string ⟨#[b]⟩] 9)).alloc (.cells #[.int .i64 0] 3):=by
 have hsp:∀ n,CallsIn Fence.wide n Tryd.prog 70 #[.string ⟨s.toArray⟩,.string ⟨#[b]⟩,.int .i64 0] w fun e w' =>
  e=.returned (.func (.func 85) #[] #[.pointer (some ⟨w.heap.size+1,0,none⟩),.pointer (some ⟨w.heap.size,0,none⟩),.pointer (some ⟨w.heap.size+2,0,none⟩)])/\w'=((w.alloc (.cells #[.string ⟨s.toArray⟩] 9)).alloc (.cells #[.string ⟨#[b]⟩] 9)).alloc (.cells #[.int .i64 0] 3):=fun n=>by
  refine callsIn_of_wp Tryd.func70 rfl trivial ?_ rfl
  simp only [Tryd.ntmps70,yX,xM,xT,Nat.reduceAdd,Nat.reduceSub,Array.replicate_succ,Array.replicate_zero,List.push_toArray,List.append_toArray,yW,yB]
  gi_wp2
  go_ret
  exact ⟨by simp,rfl⟩
 have h1:1<=n:=by omega
 refine callsIn_of_wp Tryd.func57 rfl trivial ?_ rfl
 simp only [Tryd.ntmps57,yX,xM,xT,Nat.reduceAdd,Nat.reduceSub,Array.replicate_succ,Array.replicate_zero,List.push_toArray,List.append_toArray,yW,yB]
 gi_wp2_with (refine ⟨trivial,?_⟩;gi_at_call 70;refine (hsp _).mono ?_;rintro e w' ⟨rfl,rfl⟩)
 go_ret
 exact ⟨rfl,rfl⟩
theorem jj {F:Fence} {n:Nat} {P:Program} {w w1:World} {o:Oper} {a:Act} {K:Act->World->Prop} {Q:Exit->Act->World->Prop} {s x:Operand} {t:TypeId} {v u v':Value}
  (hop:o.op=Op.call { callee:=Callee.builtin Builtin.append,args:=#[s,x],argTypes:=#[t,t] }) (hs:a.eval s=v) (hx:a.eval x=u) (_:o.guard=none) (hrun:(Builtin.append_ #[t,t] o.type #[v,u]).run P w=.ok v' w1) (hK:K (a.put o.dst v') w1):Oper.wpIn F n P o a w K Q:=by
 refine ⟨?_,?_⟩
 ·simp [Oper.about,hop,resolve,Target.leads,Sem.run_pure]
 ·rw [Oper.semAt_plain F _ _ (by rw [hop];intro c hc';cases hc')]
  simp [execOp,hop,resolve,invoke,builtin,hs,hx,hrun,Result.andThen]
  exact hK
theorem tE {w:World} {b b':Nat} {e:TypeId} {size n:Nat} {v:Value} {xs:List Value} (hb:b'<=b) (h:w.ownsRow b e size v n xs):w.ownsRow b' e size v n xs :=
 ⟨h.1,h.2.imp id fun ⟨g,cap,cur,e1,e2,r⟩=>⟨g,cap,cur,e1,yT hb e2,r⟩⟩
theorem so (p0:List UInt8) (r:List Int) (h:jp p0=some r) (w:World) :
  Calls Tryd.prog 43 #[.string ⟨p0.toArray⟩] w fun e W'=>∃ v,e=.returned v/\W'.ownsRow w.heap.size 3 1 v r.length (r.map (Value.int .i64))/\Below w.heap.size w W':=by
 refine (callsIn_wide (n:=6)).1 ?_
 refine callsIn_of_wp_marks Tryd.func43 rfl trivial ?_ rfl
 simp only [Tryd.ntmps43,yX,xM,xT,Nat.reduceAdd,Nat.reduceSub,Array.replicate_succ,Array.replicate_zero,List.push_toArray,List.append_toArray,yW,yB]
 unfold jp at h
 have h6:1<=6:=by omega
 split at h
 ·rename_i h45
  subst h45
  cases h
  gi_wp2
  exact ⟨_,results_tmp rfl _ _ _,_,rfl,World.ownsRow_nil _ _ _ _,Below.refl _ _⟩
 rename_i h45
 have h45':(p0==[45])=false:=by simp [h45]
 split at h
 case isFalse=>cases h
 rename_i hlen
 gi_wp2_with (refine ⟨trivial,?_⟩;gi_at_call 57;refine (vC _ (by omega) p0 44 _).mono ?_;rintro e w' ⟨rfl,rfl⟩)
 obtain ⟨W0,hW0⟩:∃ W0,(((w.alloc (.cells #[.slice none 0 0] 28)).alloc (.cells #[.string ⟨p0.toArray⟩] 9)).alloc (.cells #[.string ⟨#[44]⟩] 9)).alloc (.cells #[.int .i64 0] 3)=W0:=⟨_,rfl⟩
 have hsz:W0.heap.size=w.heap.size+4:=by rw [<- hW0];simp
 have bO:Boxed W0 w.heap.size 28 (.slice none 0 0):=by rw [<- hW0];exact (((Boxed.new w 28 _).alloc _).alloc _).alloc _
 have b0:Boxed W0 (w.heap.size+1) 9 (.string ⟨p0.toArray⟩):=by have:=((Boxed.new (w.alloc (.cells #[.slice none 0 0] 28)) 9 (.string ⟨p0.toArray⟩)).alloc (.cells #[.string ⟨#[44]⟩] 9)).alloc (.cells #[.int .i64 0] 3);rw [World.size_alloc,hW0] at this;exact this
 have b1:Boxed W0 (w.heap.size+1+1) 9 (.string ⟨#[44]⟩):=by have:=(Boxed.new ((w.alloc (.cells #[.slice none 0 0] 28)).alloc (.cells #[.string ⟨p0.toArray⟩] 9)) 9 (.string ⟨#[44]⟩)).alloc (.cells #[.int .i64 0] 3);rw [World.size_alloc,World.size_alloc,hW0] at this;exact this
 have b2:Boxed W0 (w.heap.size+1+2) 3 (.int .i64 0):=by have:=Boxed.new (((w.alloc (.cells #[.slice none 0 0] 28)).alloc (.cells #[.string ⟨p0.toArray⟩] 9)).alloc (.cells #[.string ⟨#[44]⟩] 9)) 3 (.int .i64 0);rw [World.size_alloc,World.size_alloc,World.size_alloc,hW0] at this;exact this
 have hB0:Below w.heap.size w W0:=by rw [<- hW0];exact ((((Below.refl _ w).alloc (xR _) _).alloc (by simp) _).alloc (by simp;omega) _).alloc (by simp;omega) _
 rw [hW0]
 obtain ⟨i0,hi,hz0,hz1,hz2⟩:=info_parts iTI
 have hcl:=n3 44 p0
 refine se (gf:=85) (lb:=#[.pointer (some ⟨w.heap.size+1+1,0,none⟩),.pointer (some ⟨w.heap.size+1,0,none⟩),.pointer (some ⟨w.heap.size+1+2,0,none⟩)]) (by omega) rfl (enters_of Tryd.func85 (by kernel_rfl) rfl) (fun x:List UInt8=>#[.string ⟨x.toArray⟩]) (fun _=>rfl) (bP 44 p0) (w.heap.size+1) (by omega)
  (fun l J W hJ hk hY hj=>uj _ (by omega) 44 p0 hlen l (w.heap.size+1) J hJ hY W ((hk _ (by omega) (by omega)).trans b0) ((hk _ (by omega) (by omega)).trans b1) ((hk _ (by omega) (by omega)).trans b2) hj)
  (fun pre W=>∃ vs v,allT pre=some vs/\vs.length=pre.length/\Boxed W w.heap.size 28 v/\W.ownsRow (W0.heap.size+2) 3 1 v vs.length (vs.map (Value.int .i64))/\Below w.heap.size w W)
  (fun pre W W' row ⟨vs,v,j1,j2,j3,j4,j5⟩ hg hr=>⟨vs,v,j1,j2,j3.kept hg (fun e=>by have:=hr _ e.symm;omega),j4.kept hg (by
   cases hvb:v.ownBlock with
   | none=>exact .inl rfl
   | some k=>exact .inr (fun e=>by have:=hr _ e.symm;have:=(j4.lt _ hvb).1;omega)),j5.grown hg j5.size (fun k e=>by have:=hr _ e;omega)⟩)
  ⟨[],_,rfl,rfl,bO,World.ownsRow_nil _ _ _ _,hB0⟩
  (fun x=>{ tmps:=#[.string ⟨p0.toArray⟩,undef,.slice none 0 0,.pointer (some ⟨w.heap.size,0,none⟩),.string ⟨x.toArray⟩,.string ⟨p0.toArray⟩,.bool false,.string ⟨p0.toArray⟩,.func (.func 85) #[] #[.pointer (some ⟨w.heap.size+1+1,0,none⟩),.pointer (some ⟨w.heap.size+1,0,none⟩),.pointer (some ⟨w.heap.size+1+2,0,none⟩)],.string ⟨x.toArray⟩,undef,undef,undef,undef,undef,undef],defers:=[] }) ?assign ?body ?done
 case assign =>
  intro l x W K hK
  gi_wp2
  exact hK
 case body =>
  rintro l pre x post W hx ⟨vs,v,j1,j2,hv,hrow,hB⟩ hWs
  rw [hx] at h hcl
  obtain ⟨y,hy⟩:=pe h
  have hsn:=oc hy j1
  have hbig:vs.length+1<=4294967290:=by simp at hcl;omega
  have hmx:Tryd.prog.follows .mixedOrders=true:=by kernel_rfl
  have hvD:Boxed W.drew w.heap.size 28 v:=hv
  have hcD:=hvD.cell
  have key:∀ u,(Lib.bytesWorld W.drew (tR.t 5) u).cell? ⟨w.heap.size,0,none⟩=some v/\((Lib.bytesWorld W.drew (tR.t 5) u).alloc (.cells #[.int .i64 y] 3)).cell? ⟨w.heap.size,0,none⟩=some v /\
    ∃ g' cap' w1,(Builtin.append_ #[28,28] 28 #[v,.slice (some ⟨(Lib.bytesWorld W.drew (tR.t 5) u).heap.size,0,none⟩) 1 1]).run Tryd.prog ((Lib.bytesWorld W.drew (tR.t 5) u).alloc (.cells #[.int .i64 y] 3))=.ok (.slice (some ⟨g',0,none⟩) (vs.length+1) cap') w1 /\
     w1.cell? ⟨w.heap.size,0,none⟩=some v/\w1.frozen? ⟨w.heap.size,0,none⟩=false/\boxK (w.heap.size+1) 3 W (w1.setCell ⟨w.heap.size,0,none⟩ (.slice (some ⟨g',0,none⟩) (vs.length+1) cap'))/\boxK W0.heap.size 2 W (w1.setCell ⟨w.heap.size,0,none⟩ (.slice (some ⟨g',0,none⟩) (vs.length+1) cap')) /\
     ∃ vs' v',allT (pre++[x])=some vs'/\vs'.length=(pre++[x]).length/\Boxed (w1.setCell ⟨w.heap.size,0,none⟩ (.slice (some ⟨g',0,none⟩) (vs.length+1) cap')) w.heap.size 28 v' /\
      (w1.setCell ⟨w.heap.size,0,none⟩ (.slice (some ⟨g',0,none⟩) (vs.length+1) cap')).ownsRow (W0.heap.size+2) 3 1 v' vs'.length (vs'.map (Value.int .i64))/\Below w.heap.size w (w1.setCell ⟨w.heap.size,0,none⟩ (.slice (some ⟨g',0,none⟩) (vs.length+1) cap')):=fun u=>by
   have hgd:=tF W.drew (tR.t 5) u
   have hgr:W.grownBy (Lib.bytesWorld W.drew (tR.t 5) u) none:=⟨hgd.os,hgd.tape,hgd.output,hgd.size,hgd.block⟩
   have hgr2:=World.grownBy_alloc (Lib.bytesWorld W.drew (tR.t 5) u) (.cells #[.int .i64 y] 3) none
   have hvA:Boxed (Lib.bytesWorld W.drew (tR.t 5) u) w.heap.size 28 v:=hv.kept hgr (by simp)
   have hrowA:(Lib.bytesWorld W.drew (tR.t 5) u).ownsRow (W0.heap.size+2) 3 1 v vs.length (vs.map (Value.int .i64)):=hrow.kept hgr (by cases v.ownBlock<;>simp)
   have hs1:=hgr.size
   obtain ⟨v',w1,hrun,hown',hgrow,_⟩:=run_append_own (P:=Tryd.prog) ((Lib.bytesWorld W.drew (tR.t 5) u).alloc (.cells #[.int .i64 y] 3)) (W0.heap.size+2) 28 28 3 i0 (.int .i64 0) 1 8 Tryd.underlying28 hi hz0 hz1 hz2 rfl (by decide) v vs.length _ (hrowA.alloc _) ⟨(Lib.bytesWorld W.drew (tR.t 5) u).heap.size,0,none⟩ 1 1 [.int .i64 y] rfl (cell_one_new _ _ _) (by simp [Value.oneCell']) (by unfold maxLen;omega) (by omega) (by simp;omega)
   obtain ⟨g',cap',rfl⟩:=ownsRow_succ hown'
   have hv1:Boxed w1 w.heap.size 28 v:=(hvA.alloc _).kept hgrow (hvA.not_row (by decide) hrowA)
   have hown:∀ k,v.ownBlock=some k->W0.heap.size+2<=k:=fun k hk=>(hrow.lt k hk).1
   have hkeep:∀ k,k<W0.heap.size+2->k≠w.heap.size->(w1.setCell ⟨w.heap.size,0,none⟩ (.slice (some ⟨g',0,none⟩) (vs.length+1) cap')).heap[k]?=W.heap[k]?:=fun k h1 h2 =>
    (Below.heap_setCell _ _ _ k (fun e=>h2 e)).trans ((hgrow.block k (by simp;omega) (fun e=>by have:=hown k e.symm;omega)).trans ((hgr2.block k (by omega) (by simp)).trans (hgr.block k (by omega) (by simp))))
   refine ⟨hvA.cell,(hvA.alloc _).cell,g',cap',w1,hrun,hv1.cell,hv1.frozen,fun k h1 h2=>hkeep k (by omega) (by omega),fun k h1 h2=>hkeep k (by omega) (by omega),vs++[y],_,hsn.1,by simp [hsn.2],hv1.set _,?_,?_⟩
   ·have:=hown'.kept (grownBy_setCell' w1 w.heap.size (.slice (some ⟨g',0,none⟩) (vs.length+1) cap')) (.inr (hv1.not_row (by decide) hown').symm)
    simpa using this
   ·exact ((((hB.grown hgr hB.size (fun k e=>by cases e)).grown hgr2 (by have:=hB.size;omega) (fun k e=>by cases e)).grown hgrow (by have:=hB.size;simp;omega) (fun k e=>by have:=hown k e;omega)).setCell (p:=⟨w.heap.size,0,none⟩) (xR _) _)
  clear hsn j2
  gi_wp2
  refine wpIn_region_any (by assumption) ?_
  change wpAnyIn _ _ _ _ _ _ _ _ _ (World.drew _)
  refine wpAnyIn_ready (rs:=[0,1]) (by kernel_rfl) (by simp) ?_
  refine AllReadyIn.cons rfl (fun K hK=>?_) ?_
  ·go_simp
   refine hK _ _ ?_;clear hK K
   refine wpAnyIn_ready (rs:=[1]) (by kernel_rfl) (by simp) ?_
   refine AllReadyIn.cons rfl (fun K hK=>?_) AllReadyIn.nil
   go_simp
   refine hK _ _ ?_;clear hK K
   refine wpAnyIn_ready (rs:=[2]) (by kernel_rfl) (by simp) ?_
   refine AllReadyIn.cons rfl (fun K hK=>?_) AllReadyIn.nil
   go_simp
   gi_wp2_with (refine ⟨trivial,?_⟩;gi_at_call 42;refine (CallsIn.inRound l (kJ _ (by omega) x y hy _)).mono ?_;rintro e w' ⟨rfl,u,rfl⟩;obtain ⟨hcA,hcB,g',cap',w1,hrun,hc1,hf1,q3,q4,q5⟩:=key u)
   refine wpAnyIn_ready (rs:=[3]) (by kernel_rfl) (by simp) ?_
   refine AllReadyIn.cons rfl (fun K hK=>?_) AllReadyIn.nil
   go_simp
   refine hK _ _ ?_;clear hK K
   refine wpAnyIn_ready (rs:=[4]) (by kernel_rfl) (by simp) ?_
   refine AllReadyIn.cons rfl (fun K hK=>?_) AllReadyIn.nil
   refine Eq.mpr (if_pos rfl) ?_
   refine jj rfl rfl rfl rfl hrun ?_
   refine hK _ _ ?_;clear hK K
   refine wpAnyIn_ready (rs:=[5]) (by kernel_rfl) (by simp) ?_
   refine AllReadyIn.cons rfl (fun K hK=>?_) AllReadyIn.nil
   go_simp
   refine hK _ _ ?_;clear hK K
   refine wpAnyIn_done (by kernel_rfl) ?_ _
   exact ⟨rfl,q3,q4,q5⟩
  refine AllReadyIn.cons rfl (fun K hK=>?_) AllReadyIn.nil
  go_simp
  refine hK _ _ ?_;clear hK K
  refine wpAnyIn_ready (rs:=[0,2]) (by kernel_rfl) (by simp) ?_
  refine AllReadyIn.cons rfl (fun K hK=>?_) ?_
  ·go_simp
   refine hK _ _ ?_;clear hK K
   refine wpAnyIn_ready (rs:=[2]) (by kernel_rfl) (by simp) ?_
   refine AllReadyIn.cons rfl (fun K hK=>?_) AllReadyIn.nil
   go_simp
   gi_wp2_with (refine ⟨trivial,?_⟩;gi_at_call 42;refine (CallsIn.inRound l (kJ _ (by omega) x y hy _)).mono ?_;rintro e w' ⟨rfl,u,rfl⟩;obtain ⟨hcA,hcB,g',cap',w1,hrun,hc1,hf1,q3,q4,q5⟩:=key u)
   refine wpAnyIn_ready (rs:=[3]) (by kernel_rfl) (by simp) ?_
   refine AllReadyIn.cons rfl (fun K hK=>?_) AllReadyIn.nil
   go_simp
   refine hK _ _ ?_;clear hK K
   refine wpAnyIn_ready (rs:=[4]) (by kernel_rfl) (by simp) ?_
   refine AllReadyIn.cons rfl (fun K hK=>?_) AllReadyIn.nil
   refine Eq.mpr (if_pos rfl) ?_
   refine jj rfl rfl rfl rfl hrun ?_
   refine hK _ _ ?_;clear hK K
   refine wpAnyIn_ready (rs:=[5]) (by kernel_rfl) (by simp) ?_
   refine AllReadyIn.cons rfl (fun K hK=>?_) AllReadyIn.nil
   go_simp
   refine hK _ _ ?_;clear hK K
   refine wpAnyIn_done (by kernel_rfl) ?_ _
   exact ⟨rfl,q3,q4,q5⟩
  refine AllReadyIn.cons rfl (fun K hK=>?_) AllReadyIn.nil
  go_simp
  gi_wp2_with (refine ⟨trivial,?_⟩;gi_at_call 42;refine (CallsIn.inRound l (kJ _ (by omega) x y hy _)).mono ?_;rintro e w' ⟨rfl,u,rfl⟩;obtain ⟨hcA,hcB,g',cap',w1,hrun,hc1,hf1,q3,q4,q5⟩:=key u)
  refine wpAnyIn_ready (rs:=[0,3]) (by kernel_rfl) (by simp) ?_
  refine AllReadyIn.cons rfl (fun K hK=>?_) ?_
  ·go_simp
   refine hK _ _ ?_;clear hK K
   refine wpAnyIn_ready (rs:=[3]) (by kernel_rfl) (by simp) ?_
   refine AllReadyIn.cons rfl (fun K hK=>?_) AllReadyIn.nil
   go_simp
   refine hK _ _ ?_;clear hK K
   refine wpAnyIn_ready (rs:=[4]) (by kernel_rfl) (by simp) ?_
   refine AllReadyIn.cons rfl (fun K hK=>?_) AllReadyIn.nil
   refine Eq.mpr (if_pos rfl) ?_
   refine jj rfl rfl rfl rfl hrun ?_
   refine hK _ _ ?_;clear hK K
   refine wpAnyIn_ready (rs:=[5]) (by kernel_rfl) (by simp) ?_
   refine AllReadyIn.cons rfl (fun K hK=>?_) AllReadyIn.nil
   go_simp
   refine hK _ _ ?_;clear hK K
   refine wpAnyIn_done (by kernel_rfl) ?_ _
   exact ⟨rfl,q3,q4,q5⟩
  refine AllReadyIn.cons rfl (fun K hK=>?_) AllReadyIn.nil
  go_simp
  refine hK _ _ ?_;clear hK K
  refine wpAnyIn_ready (rs:=[0]) (by kernel_rfl) (by simp) ?_
  refine AllReadyIn.cons rfl (fun K hK=>?_) AllReadyIn.nil
  go_simp
  refine hK _ _ ?_;clear hK K
  refine wpAnyIn_ready (rs:=[4]) (by kernel_rfl) (by simp) ?_
  refine AllReadyIn.cons rfl (fun K hK=>?_) AllReadyIn.nil
  refine Eq.mpr (if_pos rfl) ?_
  refine jj rfl rfl rfl rfl hrun ?_
  refine hK _ _ ?_;clear hK K
  refine wpAnyIn_ready (rs:=[5]) (by kernel_rfl) (by simp) ?_
  refine AllReadyIn.cons rfl (fun K hK=>?_) AllReadyIn.nil
  go_simp
  refine hK _ _ ?_;clear hK K
  refine wpAnyIn_done (by kernel_rfl) ?_ _
  exact ⟨rfl,q3,q4,q5⟩
 case done =>
  rintro W ⟨vs,v,j1,j2,hv,hrow,hB⟩ hK
  have hc:=hv.cell
  obtain rfl:vs=r:=by rw [j1] at h;exact xL h
  gi_wp2
  refine ⟨by simp,.inl ⟨_,_,rfl,run_takeDeferred hK,?_⟩⟩
  exact ⟨_,results_tmp rfl _ _ _,v,rfl,tE (by omega) (ownsRow_putObj hrow _ hK rfl),hB.trans (belowK_b (w:=w) (xR _) W _ _ _ (by omega) hK rfl rfl)⟩
theorem r6 (p0:List UInt8) (r:List Int) (h:jp p0=some r):Fn Tryd.prog 43 [.str p0] (.sl (r.map ah)):=by
 refine ⟨callable Tryd.func43 rfl (by kernel_rfl),fun w F σ vs hs hr=>?_⟩;match vs,hr with
 | [v0],hr =>
  have r0:Rel σ w F (.str p0) v0:=hr.2 0 _ v0 rfl rfl
  cases r0
  refine (so p0 r h w).mono ?_
  rintro e w' ⟨v,rfl,hrow,hB⟩
  rcases hrow.2 with ⟨rfl,hn⟩ | ⟨g,cap,cur,rfl,hbg,hg,hnc,hcm,hcs,htake⟩
  ·obtain rfl:r=[]:=xQ hn
   exact ⟨_,_,[],σ,F,rfl,⟨rfl,rfl⟩,hs.grow (fun _ h=>h) (fun _ h=>.inl h) (fun b hb=>yv (hs.lt b hb) hB.size) hB.block,.slNil,.grow (fun _ h=>h) (fun _ h=>.inl h) hB.os hB.tape (drO hB.output) hB.size hB.block⟩
  ·have hgs:=(xX.1 hg).1
   have hc:=hrow.cells (g:=g) rfl
   refine ⟨_,_,[],σ,plus F g,rfl,⟨rfl,rfl⟩,hs.grow (fun _ h=>.inl h) (fun b hb=>hb.imp id (fun e=>by omega)) (fun b hb=>hb.elim (fun hb=>yv (hs.lt b hb) hB.size) (fun e=>by omega)) hB.block,?_,
    .grow (fun _ h=>.inl h) (fun b hb=>hb.imp id (fun e=>by omega)) hB.os hB.tape (drO hB.output) hB.size hB.block⟩
   have hl:(r.map ah).length=r.length:=by simp
   have:=Rel.sl (σ:=σ) (w:=w') (F:=plus F g) (r.map ah) 1 ⟨g,0,none⟩ cap (fun i _=>.int .i64 (r.getD i 0)) (fun _=>.inr rfl) (by rw [hl];exact hnc) hcm (fun row hm=>by obtain ⟨x,_,rfl⟩:=yb.1 hm;rfl) (fun _ _ _ _=>rfl)
    (fun i j hi hj=>by
     rw [hl] at hi;obtain rfl:j=0:=by omega
     refine hc _ _ ?_;rw [show i*1+0=i by omega,xJ,xH hi,xO,xH hi];rfl)
    (fun i row j x h1 h2=>by
     rw [xJ] at h1;cases hx:r[i]? with
     | none=>rw [hx] at h1;cases h1
     | some y =>
      rw [hx] at h1;cases h1;match j,h2 with
      | 0,h2=>cases h2;simp only [xO,hx];exact .int _ _)
   rw [hl] at this
   exact this
end
section
open Go.RowKit
set_option maxRecDepth 100000
set_option maxHeartbeats 4000000
set_option synthInstance.maxSize 100000
set_option synthInstance.maxHeartbeats 4000000
theorem qK {p0 p1:Int} {r:Int × Int} (h:j9 p0 p1=some r):Fn Tryd.prog 74 [.int .u64 p0,.int .u64 p1] (.tup [.int .u64 r.1,.int .u64 r.2]):=by
 unfold j9 at h;refine fT 0 0 Tryd.func74 Tryd.ntmps74 rfl ?_;refine B h fun x2 hx2 h=>(X 14 0 (sQ (v_shr rfl rfl hx2 (B h fun x4 hx4 h=>(Y 11 0 (sQ (v_shr rfl rfl hx4 (B h fun x6 hx6 h=>(Y 15 0 (sQ (v_shr rfl rfl hx6 (B h fun x8 hx8 h=>?_))))))))))))
 refine Y 12 0 (sQ (v_shr rfl rfl hx8 (B h fun x10 cW h=>(Y 19 0 (sQ (v_shr rfl rfl cW (Y 10 0 ?_)))))));cases h;exact tD
theorem qQ {p0 p1:Int} {r:Int × Int} (h:iH p0 p1=some r):Fn Tryd.prog 63 [.int .u64 p0,.int .u64 p1] (.tup [.int .u64 r.1,.int .u64 r.2]):=by
 unfold iH at h;refine fT 0 0 Tryd.func63 Tryd.ntmps63 rfl ?_;refine B h fun x2 hx2 h=>(X 12 0 (sO (cF (qK hx2) ⟨rfl,(Y 13 0 ?_)⟩)))
 cases h;exact tD
theorem qD {p0:List Ends} {p1:Int} {r:List Ends} (h:gJ p0 p1=some r):FnO Tryd.prog 48 [sL al p0,iI p1] (.ref 0) [aR 79 2 al r]:=by
 unfold gJ at h;refine fT 0 10 Tryd.func48 Tryd.ntmps48 rfl (T.ci h rfl (fun ak h=>?_) (fun ak h=>?_))
 ·cases h
 refine B h fun x2 hx2 h=>(X 4 0 (sQ (ao Ty.s73 rfl (Y 3 0 (sO (cF (qQ hx2) ⟨rfl,(Y 7 0 (j1 [(0,sL al p0),(6,.int .u64 x2.2),(26,.bool ((decide (x2.1 > 0)) || decide (x2.2 > 9223372036854775807)))] [] ?_ (fun hK=>?_)))⟩))))))
 ·refine T.ci h rfl (fun aJ h=>?_) (fun aJ h=>?_)
  ·cases h
  refine B h fun x5 hx5 h=>(X 5 0 (sO (o_mk (en:=al) (zr:=(⟨0,0⟩:Ends)) Ty.s73 Ty.z79 rfl rfl hx5 rfl rfl (Y 6 1 (sO (rZ (en:=al) (xs:=x5) (ys:=p0) Ty.s73 (fun _=>rfl) rfl rfl rfl rfl (Y 4 1 (itr (fun e7:Int × (List Ends)=>mkA 48 [(7,.ref 0),(8,iI e7.1)]) (fun e7=>[aR 79 2 al e7.2]) h (wk [] [0] 1 rfl) (fun e7 v_9 h xt=>?_)))))))))
  obtain ⟨s6,s7⟩:=e7;replace h:d9 s6 s7=some v_9:=h;try dsimp only
  unfold d9 at h;refine X 5 1 (sQ (gV (en:=al) Ty.s73 rfl rfl (Y 2 1 (T.ci h rfl (fun ip h=>?_) (fun ip h=>?_)))))
  ·refine B h fun x8 hx8 h=>(B h fun x9 hx9 h=>(B h fun x10 cW h=>(B h fun x11 fK h=>(X 2 1 (T.drawn mixed (k:=10) rfl ?_)))))
   apply RA.jn 3 (bm 10 127);intro qh
   ·refine rq [0,1,2,4,5] 5 (ra2 3 6 ?_ ?_)
    ·exact oO rfl (iP (en:=al) (xs:=s7) Ty.s73 rfl rfl rfl rfl hx8 (ra1 6 (oO rfl (iP (en:=al) (xs:=s7) Ty.s73 rfl rfl rfl rfl hx9 (raE qh)))))
    ·exact oO rfl (iP (en:=al) (xs:=s7) Ty.s73 rfl rfl rfl rfl hx9 (ra1 3 (oO rfl (iP (en:=al) (xs:=s7) Ty.s73 rfl rfl rfl rfl hx8 (raT qh)))))
   exact ra1 7 (oO rfl (sy (en:=al) (xs:=s7) Ty.s73 (fun _=>rfl) rfl rfl rfl cW fK rfl (rq [8,9] 0 (RA.done (by decide +kernel) (lk h (wk [] [0] 1 rfl))))))
  refine X 1 1 ?_;replace h:=mi h xt;refine X 5 1 ?_;cases h;exact tO [] [0] 1
 refine X 5 0 (gp 23 (fun an=>?_) (fun an=>?_))
 ·refine Yp 4 0 ?_;rw [an] at hK;exact sx hK
 refine Yp 4 0 ?_;rw [an] at hK;exact sx hK
theorem rh {p0:Int} {r:Int × Int × Bool} (h:g6 p0=some r):Fn Tryd.prog 49 [iI p0] (.tup [iI r.1,iI r.2.1,.bool r.2.2]):=by
 unfold g6 at h;refine fT 0 17 Tryd.func49 Tryd.ntmps49 rfl (T.ci h rfl (fun ak h=>?_) (fun ak h=>?_))
 ·refine X 6 0 ?_;cases h;exact tD
 refine jn (Z:=Bool) (fun gC=>mkA 19 [(5,iI p0),(8,.bool gC)]) (fun gC=>[]) (fun gC=>fc p0 gC=some r) (fun gC h=>?_) (fun hK2=>?_)
 ·revert h;revert gC;intro z1 h;replace h:fc p0 z1=some r:=h;try dsimp only
  unfold fc at h;refine T.ci h rfl (fun dg h=>?_) (fun dg h=>?_)
  ·refine X 6 0 ?_;cases h;exact tD
  refine jn (Z:=Bool) (fun gD=>mkA 19 [(5,iI p0),(12,.bool gD)]) (fun gD=>[]) (fun gD=>fY p0 gD=some r) (fun gD h=>?_) (fun hK1=>?_)
  ·revert h;revert gD;intro z2 h;replace h:fY p0 z2=some r:=h;try dsimp only
   unfold fY at h;refine T.ci h rfl (fun dh h=>?_) (fun dh h=>?_)
   ·refine X 6 0 ?_;cases h;exact tD
   refine X 5 0 (T.ci h rfl (fun iw h=>?_) (fun iw h=>?_))
   ·refine X 6 0 ?_;cases h;exact tD
   refine X 5 0 (T.ci h rfl (fun ip h=>?_) (fun ip h=>?_))
   ·refine X 6 0 ?_;cases h;exact tD
   refine X 7 0 ?_;cases h;exact tD
  refine X 6 0 (T.ci h rfl (fun xf h=>?_) (fun xf h=>?_))
  ·exact X 1 0 (wu (hK1 (p0==5) h) [] [] 0 rfl)
  exact X 4 0 (wu (hK1 (p0==7) h) [] [] 0 rfl)
 refine X 6 0 (T.ci h rfl (fun xg h=>?_) (fun xg h=>?_))
 ·exact X 1 0 (wu (hK2 (p0==2) h) [] [] 0 rfl)
 refine X 5 0 (T.ci h rfl (fun xh h=>?_) (fun xh h=>?_))
 ·exact X 1 0 (wu (hK2 (p0==3) h) [] [] 0 rfl)
 exact X 4 0 (wu (hK2 (p0==4) h) [] [] 0 rfl)
theorem mX {p0 p1:Int} {r:Bool} (h:gb p0 p1=some r):Fn Tryd.prog 50 [iI p0,iI p1] (.bool r):=by
 unfold gb at h;refine fT 0 4 Tryd.func50 Tryd.ntmps50 rfl (j1 [(4,.bool ((p0==p1) || ((decide (p1<0)) && decide (p0 > 0))))] [] ?_ (fun hK=>?_))
 ·cases h;exact tD
 refine X 6 0 (gp 8 (fun ak=>?_) (fun ak=>?_))
 ·refine Yp 9 0 ?_;rw [ak] at hK;exact sx hK
 refine Y 3 0 (gp 11 (fun an=>?_) (fun an=>?_))
 ·refine Yp 6 0 ?_;rw [ak] at hK;rw [an] at hK;exact sx hK
 refine Yp 6 0 ?_;rw [ak] at hK;rw [an] at hK;exact sx hK
theorem rR {p0:Net} {r:(List Ends) × Int} (h:hE p0=some r):FnO Tryd.prog 35 [.agg (am p0)] (.tup [.ref 0,iI r.2]) [aR 79 2 al r.1]:=by
 unfold hE at h;refine fT 0 7 Tryd.func35 Tryd.ntmps35 rfl (j1 [(1,.ptr 0 0),(36,.bool ((decide (((p0.Nodes).length:Int)<1)) || ((decide (((p0.Nodes).length:Int) > 12)) || ((decide (p0.Rings<0)) || decide (p0.Rings > 16)))))] [.box (am p0)] ?_ (fun hK=>?_))
 ·refine T.ci h rfl (fun bg h=>?_) (fun bg h=>?_)
  ·refine X 5 1 ?_;cases h;exact tO [(0,79,2)] [1] 1
  refine X 2 1 (j1 [(1,.ptr 0 0),(44,.bool ((decide (p0.Room<1)) || decide (p0.Room > 6)))] [.box (am p0)] ?_ (fun hK=>?_))
  ·refine T.ci h rfl (fun ix h=>?_) (fun ix h=>?_)
   ·refine X 5 1 ?_;cases h;exact tO [(0,79,2)] [1] 1
   refine B h fun x4 hx4 h=>(X 4 1 (sO (ck (rows:=List.map al [(⟨(-1),(-1)⟩:Ends)]) (vs:=[.agg [iI (-1),iI (-1)]]) Ty.s73 Ty.z79 rfl rfl rfl rfl rfl rfl (Y 2 2 (sO (cO 2 (qD hx4) ⟨rfl,(Y 11 3 (sQ (ao Ty.s22 rfl (Y 3 3 (itr (fun dz:Int × Int × (List Ends)=>mkA 197 [(1,.ptr 0 0),(4,.ref 1),(5,iI dz.1),(51,sL ae p0.Nodes),(52,iI ((p0.Nodes).length:Int)),(53,iI dz.2.1)]) (fun dz=>[.box (am p0),aR 79 2 al dz.2.2]) h (wk [] [0,2] 3 rfl) (fun dz v_124 h eX=>?_))))))⟩))))))
   obtain ⟨s5,s6,s7⟩:=dz;replace h:eA p0 s5 s6 s7=some v_124:=h;try dsimp only
   unfold eA at h;refine X 5 2 (T.ci h rfl (fun vR h=>?_) (fun vR h=>?_))
   ·refine B h fun x9 hx9 h=>(X 6 2 (sQ (aP Ty.s22 (fun _=>rfl) rfl rfl hx9 (B h fun x11 fK h=>(Y 9 2 (sO (cF (rh fK) ⟨rfl,(Y 14 3 (T.ci h rfl (fun vS h=>?_) (fun vS h=>?_)))⟩)))))))
    ·refine X 5 3 ?_;replace h:=mi h eX;cases h;exact tO [(0,79,2)] [3] 3
    refine B h fun x12 d5 h=>(X 2 3 ?_)
    obtain ⟨vT,hz,h⟩:=bind_some h;revert hz h;revert vT;intro c14 hz h;refine j1 [(1,.ptr 0 0),(4,.ref 1),(5,iI s5),(6,iI s6),(7,.ptr 2 0),(51,sL ae p0.Nodes),(52,iI ((p0.Nodes).length:Int)),(53,iI s6),(80,.bool c14)] [.box (am p0),aR 79 2 al s7,.box (ae x9)] ?_ (fun hK=>?_)
    ·refine T.ci h rfl (fun vU h=>?_) (fun vU h=>?_)
     ·refine X 5 3 ?_;replace h:=mi h eX;cases h;exact tO [(0,79,2)] [3] 3
     refine X 2 3 (j1 [(1,.ptr 0 0),(4,.ref 1),(5,iI s5),(6,iI s6),(7,.ptr 2 0),(51,sL ae p0.Nodes),(52,iI ((p0.Nodes).length:Int)),(53,iI s6),(118,.bool ((decide (x9.A<0)) || (if (x9.Kind==1)=true then ((decide (x9.A >= 4)) || (if (x9.Kind==2)=true then ((decide (x9.A > 3)) || ((x9.Kind != 1) && ((x9.Kind != 2) && x9.A != 0))) else ((x9.Kind != 1) && ((x9.Kind != 2) && x9.A != 0)))) else (if (x9.Kind==2)=true then ((decide (x9.A > 3)) || ((x9.Kind != 1) && ((x9.Kind != 2) && x9.A != 0))) else ((x9.Kind != 1) && ((x9.Kind != 2) && x9.A != 0))))))] [.box (am p0),aR 79 2 al s7,.box (ae x9)] ?_ (fun hK=>?_))
     ·refine T.ci h rfl (fun vV h=>?_) (fun vV h=>?_)
      ·refine X 5 3 ?_;replace h:=mi h eX;cases h;exact tO [(0,79,2)] [3] 3
      refine X 1 3 (jn (Z:=Int) (fun gu=>mkA 197 [(1,.ptr 0 0),(4,.ref 1),(5,iI gu),(6,iI s6),(7,.ptr 2 0),(51,sL ae p0.Nodes),(52,iI ((p0.Nodes).length:Int)),(53,iI s6)]) (fun gu=>[.box (am p0),aR 79 2 al s7,.box (ae x9)]) (fun gu=>fg p0 s6 s7 x9 gu=some v_124) (fun gu h=>?_) (fun hK3=>?_))
      ·revert h;revert gu;intro z15 h;replace h:fg p0 s6 s7 x9 z15=some v_124:=h;try dsimp only
       unfold fg at h;refine X 5 3 (sQ (ao Ty.s28 rfl (Y 3 3 (itr (fun eT:Int × (List Ends)=>mkA 197 [(1,.ptr 0 0),(4,.ref 1),(5,iI z15),(6,iI s6),(7,.ptr 2 0),(51,sL ae p0.Nodes),(52,iI ((p0.Nodes).length:Int)),(53,iI s6),(125,sL ah x9.In),(126,iI ((x9.In).length:Int)),(127,iI eT.1)]) (fun eT=>[.box (am p0),aR 79 2 al eT.2,.box (ae x9)]) h (wk [] [0,1,2] 3 rfl) (fun eT v_160 h lj=>?_)))));obtain ⟨s16,s17⟩:=eT;replace h:ew p0 s6 x9 z15 s16 s17=some v_160:=h;try dsimp only
       unfold ew at h;refine X 5 3 (T.ci h rfl (fun vW h=>?_) (fun vW h=>?_))
       ·refine B h fun x19 di h=>(X 5 3 (sQ (aP Ty.s28 (fun _=>rfl) rfl rfl di (Y 4 3 (j1 [(1,.ptr 0 0),(4,.ref 1),(5,iI z15),(6,iI s6),(7,.ptr 2 0),(12,iI x19),(51,sL ae p0.Nodes),(52,iI ((p0.Nodes).length:Int)),(53,iI s6),(125,sL ah x9.In),(126,iI ((x9.In).length:Int)),(127,iI s16),(138,.bool ((decide (x19<0)) || decide (x19 >= p0.Rings)))] [.box (am p0),aR 79 2 al s17,.box (ae x9)] ?_ (fun hK=>?_))))))
        ·refine T.ci h rfl (fun vX h=>?_) (fun vX h=>?_)
         ·refine X 5 3 ?_;replace h:=mi h lj;replace h:=mi h eX;cases h;exact tO [(0,79,2)] [3] 3
         refine B h fun x23 xu h=>(B h fun x24 iy h=>(X 6 3 (sQ (ap (en:=al) Ty.s73 rfl rfl rfl xu (Y 1 3 (sO (aK (en:=al) (a:=x24) rfl rfl iy (aH Ty.k3 (c:=iI x24.dst) rfl (Y 2 3 (T.ci h rfl (fun vY h=>?_) (fun vY h=>?_)))))))))))
         ·refine X 5 3 ?_;replace h:=mi h lj;replace h:=mi h eX;cases h;exact tO [(0,79,2)] [3] 3
         exact B h fun x25 bu h=>(B h fun x26 aZ h=>(X 5 3 (sQ (ap (en:=al) Ty.s73 rfl rfl rfl bu (Y 1 3 (sO (kf (en:=al) (a:=x26) (a':=(⟨x26.src,s6⟩:Ends)) Ty.c3 Ty.i3 rfl (vs:=[iI s6]) rfl rfl rfl aZ rfl rfl rfl (Y 5 3 (lk h (wk [] [0,1,2] 3 rfl))))))))))
        refine X 5 3 (gp 133 (fun ll=>?_) (fun ll=>?_))
        ·refine Yp 6 3 ?_;rw [ll] at hK;exact sx hK
        refine Yp 6 3 ?_;rw [ll] at hK;exact sx hK
       refine X 1 3 ?_;replace h:=mi h lj;refine X 4 3 (sQ (ao Ty.s28 rfl (Y 3 3 (itr (fun eS:Int × (List Ends)=>mkA 197 [(1,.ptr 0 0),(4,.ref 1),(5,iI z15),(6,iI s6),(51,sL ae p0.Nodes),(52,iI ((p0.Nodes).length:Int)),(53,iI s6),(152,sL ah x9.Out),(153,iI ((x9.Out).length:Int)),(154,iI eS.1)]) (fun eS=>[.box (am p0),aR 79 2 al eS.2]) h (wk [] [0,1] 3 rfl) (fun eS v_179 h lm=>?_)))));obtain ⟨s27,s28⟩:=eS;replace h:eB p0 s6 x9 z15 s27 s28=some v_179:=h;try dsimp only
       unfold eB at h;refine X 5 2 (T.ci h rfl (fun vZ h=>?_) (fun vZ h=>?_))
       ·refine B h fun x30 bf h=>(X 5 2 (sQ (aP Ty.s28 (fun _=>rfl) rfl rfl bf (Y 4 2 (j1 [(1,.ptr 0 0),(4,.ref 1),(5,iI z15),(6,iI s6),(14,iI x30),(51,sL ae p0.Nodes),(52,iI ((p0.Nodes).length:Int)),(53,iI s6),(152,sL ah x9.Out),(153,iI ((x9.Out).length:Int)),(154,iI s27),(165,.bool ((decide (x30<0)) || decide (x30 >= p0.Rings)))] [.box (am p0),aR 79 2 al s28] ?_ (fun hK=>?_))))))
        ·refine T.ci h rfl (fun v6 h=>?_) (fun v6 h=>?_)
         ·refine X 5 2 ?_;replace h:=mi h lm;replace h:=mi h eX;cases h;exact tO [(0,79,2)] [2] 2
         refine B h fun x34 dC h=>(B h fun x35 fL h=>(X 6 2 (sQ (ap (en:=al) Ty.s73 rfl rfl rfl dC (Y 1 2 (sO (aK (en:=al) (a:=x35) rfl rfl fL (aH Ty.k3 (c:=iI x35.src) rfl (Y 2 2 (T.ci h rfl (fun v7 h=>?_) (fun v7 h=>?_)))))))))))
         ·refine X 5 2 ?_;replace h:=mi h lm;replace h:=mi h eX;cases h;exact tO [(0,79,2)] [2] 2
         exact B h fun x36 jT h=>(B h fun x37 gE h=>(X 5 2 (sQ (ap (en:=al) Ty.s73 rfl rfl rfl jT (Y 1 2 (sO (kf (en:=al) (a:=x37) (a':=(⟨s6,x37.dst⟩:Ends)) Ty.c3 Ty.i3 rfl (vs:=[iI s6]) rfl rfl rfl gE rfl rfl rfl (Y 5 2 (lk h (wk [] [0,1] 2 rfl))))))))))
        refine X 5 2 (gp 160 (fun ln=>?_) (fun ln=>?_))
        ·refine Yp 6 2 ?_;rw [ln] at hK;exact sx hK
        refine Yp 6 2 ?_;rw [ln] at hK;exact sx hK
       refine X 1 2 ?_;replace h:=mi h lm;exact X 4 2 (lk h (wk [] [0,1] 2 rfl))
      refine X 7 3 (T.ci h rfl (fun v8 h=>?_) (fun v8 h=>?_))
      ·exact X 5 3 (wu (hK3 (IntKind.i64.wrap (s5+1)) h) [] [0,1,2] 3 rfl)
      exact X 1 3 (sx (hK3 s5 h))
     refine X 6 3 ?_;rcases aC (decide (x9.A<0)) with aT | aT
     ·exact gT 84 aT (Yp 35 3 (T.sub hK ⟨rfl,rfl,rfl,rfl,rfl,rfl,rfl,rfl,(congrArg AV.bool (by simp only [aT,bz,if_true,if_false,xS])).symm,tqz⟩))
     refine yg 3 aT (yg 3 aT (yg 3 aT (yg 3 aT ?_)));rcases aC (x9.Kind==1) with bc | bc
     ·refine yg 3 bc (yg 3 bc (yg 3 bc (yQ aT (bl (v:=.bool (decide (x9.A >= 4))) rfl bc rfl (sQ (bb (v:=.bool (decide (x9.A >= 4))) rfl aT rfl (Y 1 3 ?_)))))));rcases aC (decide (x9.A >= 4)) with bI | bI
      ·exact gT 94 bI (Yp 25 3 (T.sub hK ⟨rfl,rfl,rfl,rfl,rfl,rfl,rfl,rfl,(congrArg AV.bool (by simp only [aT,bc,bI,bz,if_true,if_false,xS])).symm,tqz⟩))
      refine yg 3 bI (yg 3 bI (yg 3 bI (yg 3 bI ?_)));rcases aC (x9.Kind==2) with bV | bV
      ·refine yg 3 bV (yg 3 bV (yg 3 bV (yQ bI (bl (v:=.bool (decide (x9.A > 3))) rfl bV rfl (sQ (bb (v:=.bool (decide (x9.A > 3))) rfl bI rfl (Y 1 3 ?_)))))));rcases aC (decide (x9.A > 3)) with b8 | b8
       ·exact gT 104 b8 (Yp 15 3 (T.sub hK ⟨rfl,rfl,rfl,rfl,rfl,rfl,rfl,rfl,(congrArg AV.bool (by simp only [aT,bc,bI,bV,b8,bz,if_true,if_false,xS])).symm,tqz⟩))
       refine yg 3 b8 (yg 3 b8 (yg 3 b8 (yg 3 b8 ?_)));rcases aC (x9.Kind != 1) with dU | dU
       ·refine yg 3 dU (yg 3 dU (yg 3 dU (yQ b8 (bl (v:=.bool (x9.Kind != 2)) rfl dU rfl (yg 3 b8 ?_)))));rcases aC (x9.Kind != 2) with ii | ii
        ·exact gT 113 ii (Y 3 3 (gF 104 b8 (Yp 3 3 (T.sub hK ⟨rfl,rfl,rfl,rfl,rfl,rfl,rfl,rfl,(congrArg AV.bool (by simp only [aT,bc,bI,bV,b8,dU,ii,bz,if_true,if_false,xS])).symm,tqz⟩))))
        exact gF 113 ii (Y 3 3 (gF 104 b8 (Yp 3 3 (T.sub hK ⟨rfl,rfl,rfl,rfl,rfl,rfl,rfl,rfl,(congrArg AV.bool (by simp only [aT,bc,bI,bV,b8,dU,ii,bz,if_true,if_false,xS])).symm,tqz⟩))))
       exact gF 108 dU (Y 3 3 (gF 104 b8 (Yp 8 3 (T.sub hK ⟨rfl,rfl,rfl,rfl,rfl,rfl,rfl,rfl,(congrArg AV.bool (by simp only [aT,bc,bI,bV,b8,dU,bz,if_true,if_false,xS])).symm,tqz⟩))))
      refine sN bV (sN bV (sN bV (yQ bI (bb (v:=.bool false) rfl bV rfl (sQ (bb (v:=.bool false) rfl bI rfl (Y 1 3 (yg 3 rfl (yg 3 rfl (yg 3 rfl (yg 3 rfl ?_)))))))))));rcases aC (x9.Kind != 1) with dV | dV
      ·refine yg 3 dV (yg 3 dV (yg 3 dV (yQ rfl (bl (v:=.bool (x9.Kind != 2)) rfl dV rfl (yg 3 rfl ?_)))));rcases aC (x9.Kind != 2) with ij | ij
       ·exact gT 113 ij (Yp 6 3 (T.sub hK ⟨rfl,rfl,rfl,rfl,rfl,rfl,rfl,rfl,(congrArg AV.bool (by simp only [aT,bc,bI,bV,dV,ij,bz,if_true,if_false,xS])).symm,tqz⟩))
       exact gF 113 ij (Yp 6 3 (T.sub hK ⟨rfl,rfl,rfl,rfl,rfl,rfl,rfl,rfl,(congrArg AV.bool (by simp only [aT,bc,bI,bV,dV,ij,bz,if_true,if_false,xS])).symm,tqz⟩))
      exact gF 108 dV (Yp 11 3 (T.sub hK ⟨rfl,rfl,rfl,rfl,rfl,rfl,rfl,rfl,(congrArg AV.bool (by simp only [aT,bc,bI,bV,dV,bz,if_true,if_false,xS])).symm,tqz⟩))
     refine sN bc (sN bc (sN bc (yQ aT (bb (v:=.bool false) rfl bc rfl (sQ (bb (v:=.bool false) rfl aT rfl (Y 1 3 (yg 3 rfl (yg 3 rfl (yg 3 rfl (yg 3 rfl ?_)))))))))));rcases aC (x9.Kind==2) with bW | bW
     ·refine yg 3 bW (yg 3 bW (yg 3 bW (yQ rfl (bl (v:=.bool (decide (x9.A > 3))) rfl bW rfl (sQ (bb (v:=.bool (decide (x9.A > 3))) rfl rfl rfl (Y 1 3 ?_)))))));rcases aC (decide (x9.A > 3)) with ca | ca
      ·exact gT 104 ca (Yp 15 3 (T.sub hK ⟨rfl,rfl,rfl,rfl,rfl,rfl,rfl,rfl,(congrArg AV.bool (by simp only [aT,bc,bW,ca,bz,if_true,if_false,xS])).symm,tqz⟩))
      refine yg 3 ca (yg 3 ca (yg 3 ca (yg 3 ca ?_)));rcases aC (x9.Kind != 1) with dW | dW
      ·refine yg 3 dW (yg 3 dW (yg 3 dW (yQ ca (bl (v:=.bool (x9.Kind != 2)) rfl dW rfl (yg 3 ca ?_)))));rcases aC (x9.Kind != 2) with ik | ik
       ·exact gT 113 ik (Y 3 3 (gF 104 ca (Yp 3 3 (T.sub hK ⟨rfl,rfl,rfl,rfl,rfl,rfl,rfl,rfl,(congrArg AV.bool (by simp only [aT,bc,bW,ca,dW,ik,bz,if_true,if_false,xS])).symm,tqz⟩))))
       exact gF 113 ik (Y 3 3 (gF 104 ca (Yp 3 3 (T.sub hK ⟨rfl,rfl,rfl,rfl,rfl,rfl,rfl,rfl,(congrArg AV.bool (by simp only [aT,bc,bW,ca,dW,ik,bz,if_true,if_false,xS])).symm,tqz⟩))))
      exact gF 108 dW (Y 3 3 (gF 104 ca (Yp 8 3 (T.sub hK ⟨rfl,rfl,rfl,rfl,rfl,rfl,rfl,rfl,(congrArg AV.bool (by simp only [aT,bc,bW,ca,dW,bz,if_true,if_false,xS])).symm,tqz⟩))))
     refine sN bW (sN bW (sN bW (yQ rfl (bb (v:=.bool false) rfl bW rfl (sQ (bb (v:=.bool false) rfl rfl rfl (Y 1 3 (yg 3 rfl (yg 3 rfl (yg 3 rfl (yg 3 rfl ?_)))))))))));rcases aC (x9.Kind != 1) with dX | dX
     ·refine yg 3 dX (yg 3 dX (yg 3 dX (yQ rfl (bl (v:=.bool (x9.Kind != 2)) rfl dX rfl (yg 3 rfl ?_)))));rcases aC (x9.Kind != 2) with il | il
      ·exact gT 113 il (Yp 6 3 (T.sub hK ⟨rfl,rfl,rfl,rfl,rfl,rfl,rfl,rfl,(congrArg AV.bool (by simp only [aT,bc,bW,dX,il,bz,if_true,if_false,xS])).symm,tqz⟩))
      exact gF 113 il (Yp 6 3 (T.sub hK ⟨rfl,rfl,rfl,rfl,rfl,rfl,rfl,rfl,(congrArg AV.bool (by simp only [aT,bc,bW,dX,il,bz,if_true,if_false,xS])).symm,tqz⟩))
     exact gF 108 dX (Yp 11 3 (T.sub hK ⟨rfl,rfl,rfl,rfl,rfl,rfl,rfl,rfl,(congrArg AV.bool (by simp only [aT,bc,bW,dX,bz,if_true,if_false,xS])).symm,tqz⟩))
    refine X 4 3 (sQ (ao Ty.s28 rfl (Y 1 3 (sO (cF (mX d5) ⟨rfl,(Y 2 3 (gi 73 hz (fun wa hz=>?_) (fun wa hz=>?_)))⟩)))))
    ·refine Yp 8 3 ?_;cases hz;exact sx hK
    refine B hz fun x13 bv hz=>(Y 2 3 (yQ rfl (ao Ty.s28 rfl (Y 1 3 (yO rfl (cF (mX bv) ⟨rfl,(Yp 3 3 ?_)⟩))))))
    cases hz;exact sx hK
   refine X 1 2 ?_;replace h:=mi h eX;refine X 4 2 (sQ (gV (en:=al) Ty.s73 rfl rfl (Y 3 2 (itr (fun gr:Int=>mkA 197 [(4,.ref 0),(5,iI s5),(179,.ref 0),(180,iI ((s7).length:Int)),(181,iI gr)]) (fun gr=>[aR 79 2 al s7]) h (wk [] [1] 2 rfl) (fun gr v_198 h jG=>?_)))));revert jG h;revert gr;intro s38 h jG;replace h:fe s5 s7 s38=some v_198:=h;try dsimp only
   unfold fe at h;refine X 5 1 (T.ci h rfl (fun wb h=>?_) (fun wb h=>?_))
   ·refine B h fun x41 xv h=>(B h fun x42 lS h=>(X 5 1 (sQ (ap (en:=al) Ty.s73 rfl rfl rfl xv (sO (aK (en:=al) (a:=x42) rfl rfl lS (tH Ty.k79 Ty.c79 rfl (cs:=(al x42)) rfl (Y 3 1 (j1 [(4,.ref 0),(5,iI s5),(179,.ref 0),(180,iI ((s7).length:Int)),(181,iI s38),(192,.bool ((decide (x42.src<0)) || decide (x42.dst<0)))] [aR 79 2 al s7] ?_ (fun hK=>?_))))))))))
    ·refine T.ci h rfl (fun wc h=>?_) (fun wc h=>?_)
     ·refine X 5 1 ?_;replace h:=mi h jG;cases h;exact tO [(0,79,2)] [1] 1
     exact X 5 1 (lk h (wk [] [0] 1 rfl))
    refine X 6 2 (gp 188 (fun lp=>?_) (fun lp=>?_))
    ·refine Yp 5 2 ?_;rw [lp] at hK;exact wu hK [] [0] 2 rfl
    refine Yp 5 2 ?_;rw [lp] at hK;exact wu hK [] [0] 2 rfl
   refine X 1 1 ?_;replace h:=mi h jG;refine X 6 1 (T.ci h rfl (fun wd h=>?_) (fun wd h=>?_))
   ·refine X 5 1 ?_;cases h;exact tO [(0,79,2)] [1] 1
   refine X 7 1 ?_;cases h;exact tO [] [0] 1
  refine X 6 1 (gp 40 (fun dg=>?_) (fun dg=>?_))
  ·refine Yp 5 1 ?_;rw [dg] at hK;exact sx hK
  refine Yp 5 1 ?_;rw [dg] at hK;exact sx hK
 refine X 4 1 (sQ (ao Ty.s22 rfl (Y 2 1 (gp 21 (fun ak=>?_) (fun ak=>?_)))))
 ·refine Yp 16 1 ?_;rw [ak] at hK;exact sx hK
 refine Y 2 1 (yQ rfl (ao Ty.s22 rfl (Yp 3 1 (gp 27 (fun an=>?_) (fun an=>?_)))))
 ·refine Yp 10 1 ?_;rw [ak] at hK;rw [an] at hK;exact sx hK
 refine Yp 5 1 (gp 32 (fun aJ=>?_) (fun aJ=>?_))
 ·refine Yp 5 1 ?_;rw [ak] at hK;rw [an] at hK;rw [aJ] at hK;exact sx hK
 refine Yp 5 1 ?_;rw [ak] at hK;rw [an] at hK;rw [aJ] at hK;exact sx hK
theorem qG {p0:Int} {p1:List Bool} {p2:List Ends} {r:Bool} (h:gN p0 p1 p2=some r):FnX Tryd.prog 37 [iI p0,.ptr 0 0,.ptr 1 0] [.box [.ref 2],.box [.ref 3],aR 4 1 bj p1,aR 79 2 al p2] (.bool r) [.box [.ref 2],.box [.ref 3],aR 4 1 bj p1,aR 79 2 al p2]:=by
 unfold gN at h;refine fT 4 0 Tryd.func37 Tryd.ntmps37 rfl ?_;refine B h fun x5 hx5 h=>(B h fun x6 hx6 h=>(B h fun x7 hx7 h=>(B h fun x8 hx8 h=>(X 5 4 (T.drawn mixed (k:=10) rfl (rq [2] 9 (rL [1,3,4,5,6,7,8,9] 1 rfl (r0 3 rfl (ap (en:=al) Ty.s73 rfl rfl rfl hx5 (rq [4] 6 ?_))))))))))
 refine rL [0,6,7,8,9] 0 rfl (ra1 5 (oO rfl (aK (en:=al) (a:=x6) rfl rfl hx6 (aH Ty.k3 (c:=iI x6.src) rfl (r0 6 rfl (ap (en:=bj) Ty.s76 rfl rfl rfl hx7 (ra1 7 (oO rfl (aK (en:=bj) (a:=x8) rfl rfl hx8 (aH Ty.k4 (c:=.bool x8) rfl (rq [8,9] 0 (RA.done (by decide +kernel) ?_))))))))))));cases h;exact tN [0,1,2,3]
theorem qz {p0:List Int} {p1:List Bool} {p2:List Ends} {r:Int} (h:iC p0 p1 p2=some r):FnX Tryd.prog 51 [sL ah p0,.func 37 [.ptr 0 0,.ptr 1 0]] [.box [.ref 2],.box [.ref 3],aR 4 1 bj p1,aR 79 2 al p2] (iI r) [.box [.ref 2],.box [.ref 3],aR 4 1 bj p1,aR 79 2 al p2]:=by
 unfold iC at h;refine fT 4 8 Tryd.func51 Tryd.ntmps51 rfl (sQ (ao Ty.s28 rfl (Y 3 4 (itr (fun aY:Int=>mkA 19 [(0,sL ah p0),(1,.func 37 [.ptr 0 0,.ptr 1 0]),(7,iI ((p0).length:Int)),(8,iI aY)]) (fun aY=>[.box [.ref 2],.box [.ref 3],aR 4 1 bj p1,aR 79 2 al p2]) h (wk [] [0,1,2,3] 4 rfl) (fun aY v_6 h dj=>?_)))));revert dj h;revert aY;intro s1 h dj;replace h:fO p0 p1 p2 s1=some v_6:=h;try dsimp only
 unfold fO at h;refine X 5 4 (T.ci h rfl (fun fM h=>?_) (fun fM h=>?_))
 ·refine B h fun x4 hx4 h=>(B h fun x5 hx5 h=>(X 13 4 (sQ (aP Ty.s28 (fun _=>rfl) rfl rfl hx4 (Y 1 4 (sO (cG [0,1,2,3] 4 4 (qG hx5) ⟨rfl,(Y 1 4 (T.ci h rfl (fun dh h=>?_) (fun dh h=>?_)))⟩)))))))
  ·refine X 5 4 ?_;replace h:=mi h dj;cases h;exact tN [0,1,2,3]
  exact X 5 4 (lk h (wk [] [0,1,2,3] 4 rfl))
 refine X 1 4 ?_;replace h:=mi h dj;refine X 4 4 ?_;cases h;exact tN [0,1,2,3]
theorem qy {p0:List Int} {p1:List Bool} {p2:List Ends} {r:Bool} (h:fP p0 p1 p2=some r):FnX Tryd.prog 36 [sL ah p0,.func 37 [.ptr 0 0,.ptr 1 0]] [.box [.ref 2],.box [.ref 3],aR 4 1 bj p1,aR 79 2 al p2] (.bool r) [.box [.ref 2],.box [.ref 3],aR 4 1 bj p1,aR 79 2 al p2]:=by
 unfold fP at h;refine fT 4 0 Tryd.func36 Tryd.ntmps36 rfl ?_;refine B h fun x2 hx2 h=>(X 8 4 (sO (cG [0,1,2,3] 4 4 (qz hx2) ⟨rfl,(Y 3 4 ?_)⟩)))
 cases h;exact tN [0,1,2,3]
theorem ri {p0:Net} {r:(List Int) × Int} (h:gZ p0=some r):FnO Tryd.prog 25 [.agg (am p0)] (.tup [.ref 0,iI r.2]) [aR 3 1 ah r.1]:=by
 unfold gZ at h;refine fT 0 0 Tryd.func25 Tryd.ntmps25 rfl ?_;refine B h fun x2 hx2 h=>(X 9 0 (sO (cO 1 (rR hx2) ⟨rfl,(Y 13 2 (T.ci h rfl (fun ak h=>?_) (fun ak h=>?_)))⟩)))
 ·refine X 6 3 ?_;cases h;exact tO [(0,3,1)] [3] 3
 refine B h fun x4 hx4 h=>(X 9 3 (sQ (ao Ty.s22 rfl (sO (o_mk (en:=bj) (zr:=false) Ty.s76 Ty.z4 rfl rfl hx4 rfl rfl (Y 5 4 (itr (fun eZ:(List Int) × (List Bool)=>mkA 61 [(1,.ptr 0 0),(4,.ptr 1 0),(6,.ref 2),(7,.ptr 3 0)]) (fun eZ=>[.box (am p0),.box [.ref 4],aR 3 1 ah eZ.1,.box [.ref 5],aR 79 2 al x2.1,aR 4 1 bj eZ.2]) h (wk [(6,3,1)] [0,2,5,4,1,3] 5 rfl) (fun eZ v_73 h pM=>?_))))))))
 obtain ⟨s5,s6⟩:=eZ;replace h:eu p0 x2 s5 s6=some v_73:=h;try dsimp only
 unfold eu at h;refine X 4 6 (sQ (gV (en:=ah) Ty.s28 rfl rfl (Y 2 6 (sQ (ao Ty.s22 rfl (Y 2 6 (T.ci h rfl (fun xi h=>?_) (fun xi h=>?_))))))))
 ·refine X 6 6 (jn (Z:=Int) (fun gz=>mkA 61 [(1,.ptr 0 0),(4,.ptr 1 0),(6,.ref 2),(7,.ptr 3 0),(8,iI gz)]) (fun gz=>[.box (am p0),.box [.ref 4],aR 3 1 ah s5,.box [.ref 5],aR 79 2 al x2.1,aR 4 1 bj s6]) (fun gz=>fb s5 s6 gz=some v_73) (fun gz h=>?_) (fun hK1=>?_))
  ·revert h;revert gz;intro z14 h;replace h:fb s5 s6 z14=some v_73:=h;try dsimp only
   unfold fb at h;refine X 6 6 (T.ci h rfl (fun xj h=>?_) (fun xj h=>?_))
   ·refine X 5 6 ?_;replace h:=mi h pM;cases h;exact tO [(0,3,1)] [6] 6
   refine B h fun x17 dk h=>(B h fun x18 dl h=>(X 5 6 (sQ (ap (en:=bj) Ty.s76 rfl rfl rfl dk (sO (kf (en:=bj) (a:=x18) (a':=true) Ty.c4 Ty.i4 rfl (vs:=[.bool true]) rfl rfl rfl dl rfl rfl rfl (B h fun x19 di h=>(Y 4 6 (sO (ck (rows:=List.map ah [z14]) (vs:=[iI z14]) Ty.s28 Ty.z3 rfl rfl rfl rfl rfl rfl (sO (i7 (en:=ah) (xs:=s5) (ys:=([z14]:List Int)) Ty.s28 (fun _=>rfl) rfl rfl rfl di rfl rfl (Y 2 8 ?_)))))))))))))
   exact lk h (wk [] [0,1,7,3,4,5] 8 rfl)
  refine X 5 6 (sQ (ao Ty.s22 rfl (Y 3 6 (itr (fun bH:Int=>mkA 61 [(1,.ptr 0 0),(4,.ptr 1 0),(6,.ref 2),(7,.ptr 3 0),(8,iI (-1)),(30,sL ae p0.Nodes),(31,iI ((p0.Nodes).length:Int)),(32,iI bH)]) (fun bH=>[.box (am p0),.box [.ref 4],aR 3 1 ah s5,.box [.ref 5],aR 79 2 al x2.1,aR 4 1 bj s6]) h (wk [] [0,1,2,3,4,5] 6 rfl) (fun bH v_103 h gw=>?_)))));revert gw h;revert bH;intro s7 h gw;replace h:er p0 x2 s5 s6 s7=some v_103:=h;try dsimp only
  unfold er at h;refine X 5 6 (T.ci h rfl (fun lq h=>?_) (fun lq h=>?_))
  ·refine B h fun x9 hx9 h=>(X 6 6 (sQ (aP Ty.s22 (fun _=>rfl) rfl rfl hx9 (B h fun x10 cW h=>(B h fun x11 fK h=>(Y 5 6 ?_))))))
   obtain ⟨we,hz,h⟩:=bind_some h;revert hz h;revert we;intro c13 hz h;refine j1 [(1,.ptr 0 0),(4,.ptr 1 0),(6,.ref 2),(7,.ptr 3 0),(8,iI (-1)),(9,iI s7),(30,sL ae p0.Nodes),(31,iI ((p0.Nodes).length:Int)),(32,iI s7),(48,.bool c13)] [.box (am p0),.box [.ref 4],aR 3 1 ah s5,.box [.ref 5],aR 79 2 al x2.1,aR 4 1 bj s6] ?_ (fun hK=>?_)
   ·refine T.ci h rfl (fun wg h=>?_) (fun wg h=>?_)
    ·refine X 6 6 ?_;replace h:=mi h gw;exact sx (hK1 s7 h)
    exact X 5 6 (lk h (wk [] [0,1,2,3,4,5] 6 rfl))
   refine X 4 7 (sQ (ap (en:=bj) Ty.s76 rfl rfl rfl cW (sO (aK (en:=bj) (a:=x11) rfl rfl fK (aH Ty.k4 (c:=.bool x11) rfl (Y 2 7 (gi 42 hz (fun wh hz=>?_) (fun wh hz=>?_))))))))
   ·refine B hz fun x12 d5 hz=>(Y 3 7 (yO rfl (cG [3,1,5,4] 7 4 (qy d5) ⟨rfl,(Yp 3 7 ?_)⟩)))
    cases hz;exact wu hK [] [0,1,2,3,4,5] 7 rfl
   refine Yp 7 7 ?_;cases hz;exact wu hK [] [0,1,2,3,4,5] 7 rfl
  refine X 1 6 ?_;replace h:=mi h gw;exact sx (hK1 (-1) h)
 refine X 1 6 ?_;replace h:=mi h pM;refine X 6 6 ?_;cases h;exact tO [] [2] 6
theorem mU {p0:Net} {r:Int} (h:c6 p0=some r):Fn Tryd.prog 10 [.agg (am p0)] (iI r):=by
 unfold c6 at h;refine fT 0 0 Tryd.func10 Tryd.ntmps10 rfl ?_;refine B h fun x2 hx2 h=>(X 8 0 (sO (cO 1 (ri hx2) ⟨rfl,(Y 11 2 ?_)⟩)))
 cases h;exact tD
theorem aD {p0:Int} {r:List UInt8} (h:cE p0=some r):Fn Tryd.prog 8 [.int .i64 p0] (.str r):=uk p0 r h
theorem mA {p0:List (List UInt8)} {p1 r:List UInt8} (h:strings_Join p0 p1=some r):Fn Tryd.prog 13 [.sl (List.map aa p0),.str p1] (.str r):=by
 unfold strings_Join joinB at h;split at h
 ·rename_i hc;cases h;exact uy p0 p1 hc.1 hc.2
 ·cases h
theorem qO {p0 r:List Int} (h:ke p0=some r):FnX Tryd.prog 26 [.ptr 0 0] [.boxB 43 [.np 0,.ref 1],aR 5 1 aN p0] (.tup []) [.boxB 43 [.np 0,.ref 1],aR 5 1 aN r]:=by cases h;exact q9 _
theorem qx {p0:List UInt8} {p1:List Int} {r:Int × Unit × (List Int)} (h:iB p0 p1=some r):FnX Tryd.prog 12 [.ptr 0 0,.str p0] [.boxB 43 [.np 0,.ref 1],aR 5 1 aN p1] (.tup [iI r.1,.nili]) [.boxB 43 [.np 0,.ref 2],.dead,aR 5 1 aN r.2.2]:=by unfold iB at h;refine fT 2 0 Tryd.func12 Tryd.ntmps12 rfl ?_;refine T.mvBB 0 1 1 (cs:=[.np 0,.ref 1]) rfl rfl rfl rfl (cs':=[.np 0,.ref 2]) rfl rfl (B h fun x2 hx2 h=>(X 8 3 (sO (cG [0,2] 3 2 (qO hx2) ⟨rfl,(B h fun x4 hx4 h=>(Y 7 3 (sO (rr rfl rfl (aH Ty.k41 (c:=.ref 2) rfl (Y 1 3 (sO (tK (xs:=x2) (s:=p0) Ty.s41 Tryd.underlying9 (by kernel_rfl) rfl rfl rfl hx4 rfl rfl (Y 2 4 ?_)))))))))⟩))));refine sO (tg rfl rfl (vs:=[.ref 3]) rfl Tryd.underlying41 rfl (by decide) rfl (Y 8 4 ?_));cases h;exact tN [0,1,3]
theorem mr {p0:List (List UInt8)} {p1 r:List Int} (h:fU p0 p1=some r):FnX Tryd.prog 11 [.ref 0,.ptr 1 0] [aR 9 1 aa p0,.boxB 43 [.np 1,.ref 2],aR 5 1 aN p1] (.tup []) [aR 9 1 aa p0,.boxB 43 [.np 1,.ref 3],.dead,aR 5 1 aN r]:=by unfold fU at h;refine fT 3 0 Tryd.func11 Tryd.ntmps11 rfl ?_;refine T.mvBB 1 1 2 (cs:=[.np 1,.ref 2]) rfl rfl rfl rfl (cs':=[.np 1,.ref 3]) rfl rfl (B h fun x1 hx1 h=>(B h fun x2 hx2 h=>(B h fun x3 hx3 h=>(X 2 4 (sO (cF (mA hx1) ⟨rfl,(sQ (aj rfl rfl hx2 (sO (cG [1,3] 4 3 (qx hx3) ⟨rfl,(Y 1 5 ?_)⟩))))⟩))))));cases h;exact eN [0,1,2,4]
theorem bK {r:List (List UInt8)} (h:eC=some r):FnO Tryd.prog 14 [] (.ref 0) [aR 9 1 aa r]:=by unfold eC at h;refine fT 0 6 Tryd.func14 Tryd.ntmps14 rfl (sO (ck (rows:=List.map aa [[],[115,111,117,114,99,101],[109,97,112],[115,99,97,110],[99,111,117,110,116],[116,101,101],[109,101,114,103,101],[115,112,108,105,116],[115,105,110,107]]) (vs:=[.str [],.str [115,111,117,114,99,101],.str [109,97,112],.str [115,99,97,110],.str [99,111,117,110,116],.str [116,101,101],.str [109,101,114,103,101],.str [115,112,108,105,116],.str [115,105,110,107]]) Ty.s36 Ty.z9 rfl rfl rfl rfl rfl rfl (Y 2 1 ?_)));cases h;exact tO [] [0] 1
theorem dG {p0:List Int} {r:List UInt8} (h:gQ p0=some r):Fn Tryd.prog 15 [sL ah p0] (.str r):=by
 unfold gQ at h;refine fT 0 12 Tryd.func15 Tryd.ntmps15 rfl (sQ (ao Ty.s28 rfl (Y 3 0 (itr (fun df:Int × (List (List UInt8))=>mkA 23 [(3,.ref 0),(6,sL ah p0),(7,iI ((p0).length:Int)),(8,iI df.1)]) (fun df=>[aR 9 1 aa df.2]) h (wk [(3,9,1)] [0] 0 rfl) (fun df v_4 h xw=>?_)))));obtain ⟨s1,s2⟩:=df;replace h:em p0 s1 s2=some v_4:=h;try dsimp only
 unfold em at h;refine X 5 1 (T.ci h rfl (fun dg h=>?_) (fun dg h=>?_))
 ·refine B h fun x4 hx4 h=>(X 5 1 (sQ (aP Ty.s28 (fun _=>rfl) rfl rfl hx4 (B h fun x5 hx5 h=>(B h fun x6 hx6 h=>(Y 6 1 (sO (cF (aD hx5) ⟨rfl,(sO (ck (rows:=List.map aa [x5]) (vs:=[.str x5]) Ty.s36 Ty.z9 rfl rfl rfl rfl rfl rfl (sO (i7 (en:=aa) (xs:=s2) (ys:=([x5]:List (List UInt8))) Ty.s36 (fun _=>rfl) rfl rfl rfl hx6 rfl rfl (Y 6 3 ?_)))))⟩))))))))
  exact lk h (wk [] [2] 3 rfl)
 refine X 1 1 ?_;replace h:=mi h xw;refine X 4 1 (sQ (gV (en:=aa) Ty.s36 rfl rfl (Y 2 1 (T.ci h rfl (fun fM h=>?_) (fun fM h=>?_)))))
 ·refine X 4 1 ?_;cases h;exact tD
 refine B h fun x8 hx8 h=>(X 4 1 (sO (cF (mA hx8) ⟨rfl,(Y 2 1 ?_)⟩)))
 cases h;exact tD
theorem qZ {p0:List Int} {r:List UInt8} (h:kn p0=some r):FnX Tryd.prog 16 [.ptr 0 0] [.boxB 43 [.np 0,.ref 1],aR 5 1 aN p0] (.str r) [.dead,.dead]:=r5 p0 r h
theorem mG {p0:Net} {r:(List UInt8) × Int} (h:eD p0=some r):Fn Tryd.prog 4 [.agg (am p0)] (.tup [.str r.1,iI r.2]):=by
 unfold eD at h;refine fT 0 0 Tryd.func4 Tryd.ntmps4 rfl ?_;refine B h fun x2 hx2 h=>(X 10 0 (sO (cF (mU hx2) ⟨rfl,(Y 7 1 (T.ci h rfl (fun ak h=>?_) (fun ak h=>?_)))⟩)))
 ·refine X 6 1 ?_;cases h;exact tD
 refine X 3 1 (sO (tw (e:=5) (z:=1) Ty.z43 rfl rfl (B h fun x6 hx6 h=>(B h fun x7 hx7 h=>(B h fun x8 hx8 h=>(Y 7 3 (T.drawn mixed (k:=9) rfl ?_)))))));apply RA.jn 3 (bm 9 63);intro hS2
 ·refine rq [0,1,4] 6 (rL [2,3,6,7,8] 2 rfl (ra2 3 5 ?_ ?_))
  ·exact oO rfl (cF (aD hx6) ⟨rfl,(ra1 5 (og 3 ⟨rfl,(raE hS2)⟩))⟩)
  ·exact og 3 ⟨rfl,(ra1 3 (oO rfl (cF (aD hx6) ⟨rfl,(raT hS2)⟩)))⟩
 refine ra1 6 (oO rfl (cF (aD hx7) ⟨rfl,(ra1 7 (oO rfl (ck (rows:=List.map aa [[114,105,110,103,115],x6,x7]) (vs:=[.str [114,105,110,103,115],.str x6,.str x7]) Ty.s36 Ty.z9 rfl rfl rfl rfl rfl rfl (ra1 8 (oO rfl (cG [3,1,2] 4 4 (mr hx8) ⟨rfl,(RA.done (by decide +kernel) (X 5 5 (sQ (ao Ty.s22 rfl (Y 3 5 ?_)))))⟩))))))⟩));refine itr (fun de:Int × (List Int)=>mkA 50 [(5,.ptr 0 0),(6,.func 11 [.ptr 0 0]),(25,sL ae p0.Nodes),(26,iI ((p0.Nodes).length:Int)),(27,iI de.1)]) (fun de=>[.boxB 43 [.np 0,.ref 1],aR 5 1 aN de.2]) h (wk [] [1,4] 5 rfl) (fun de v_72 h xk=>?_);obtain ⟨s9,s10⟩:=de;replace h:eo p0 s9 s10=some v_72:=h;try dsimp only
 unfold eo at h;refine X 5 2 (T.ci h rfl (fun xl h=>?_) (fun xl h=>?_))
 ·refine B h fun x12 d5 h=>(X 5 2 (sQ (aP Ty.s22 (fun _=>rfl) rfl rfl d5 (B h fun x13 bv h=>(B h fun x14 bJ h=>(B h fun x15 cI h=>(B h fun x16 bC h=>(B h fun x17 dk h=>(B h fun x18 dl h=>(B h fun x19 di h=>?_))))))))))
  refine Y 4 2 (T.drawn mixed (k:=17) rfl ?_);apply RA.jn 2 (bm 17 32767);intro qi;apply RA.jn 3 (bm 17 16383);intro lT;apply RA.jn 3 (bm 17 32735);intro qj;apply RA.jn 4 (bm 17 14335);intro jU;apply RA.jn 4 (bm 17 16351);intro lU;apply RA.jn 5 (bm 17 14079);intro lV;apply RA.jn 5 (bm 17 14303);intro jV;apply RA.jn 5 (bm 17 6143);intro lW;apply RA.jn 6 (bm 17 14047);intro iz;apply RA.jn 6 (bm 17 16327);intro qk;apply RA.jn 6 (bm 17 13055);intro ql;apply RA.jn 6 (bm 17 5887);intro qm;apply RA.jn 6 (bm 17 6111);intro lX;apply RA.jn 7 (bm 17 14279);intro lY;apply RA.jn 7 (bm 17 13023);intro jW;apply RA.jn 7 (bm 17 5855);intro jY;apply RA.jn 8 (bm 17 14023);intro jZ;apply RA.jn 8 (bm 17 14029);intro j0;apply RA.jn 8 (bm 17 6087);intro qn;apply RA.jn 8 (bm 17 4831);intro lZ;apply RA.jn 9 (bm 17 12999);intro l0;apply RA.jn 9 (bm 17 13901);intro l5;apply RA.jn 9 (bm 17 14021);intro l6;apply RA.jn 9 (bm 17 13005);intro l7;apply RA.jn 9 (bm 17 5831);intro l8;apply RA.jn 9 (bm 17 5837);intro l9;apply RA.jn 10 (bm 17 4807);intro pN;apply RA.jn 10 (bm 17 12877);intro pO;apply RA.jn 10 (bm 17 12997);intro pP;apply RA.jn 10 (bm 17 13893);intro pQ;apply RA.jn 10 (bm 17 5709);intro pR;apply RA.jn 10 (bm 17 5829);intro iq;apply RA.jn 10 (bm 17 4813);intro gB
  ·refine rq [0,2,6,9,12] 12 (ra5 1 3 7 10 13 ?_ ?_ ?_ ?_ ?_)
   ·exact oO rfl (cO 3 (bK bv) ⟨rfl,(rL [7,8,11,14,15,16] 7 rfl (raE pN))⟩)
   ·refine og 3 ⟨rfl,(ra4 1 7 10 13 ?_ ?_ ?_ ?_)⟩
    ·exact oO rfl (cO 3 (bK bv) ⟨rfl,(r0 4 rfl (ap (en:=aa) Ty.s36 rfl rfl rfl bJ (rL [7,8,11,14,15,16] 7 rfl (raE lZ))))⟩)
    ·exact og 3 ⟨rfl,(raE gB)⟩
    ·exact og 3 ⟨rfl,(raE pR)⟩
    ·exact og 3 ⟨rfl,(raE pO)⟩
   ·refine og 3 ⟨rfl,(ra4 1 3 10 13 ?_ ?_ ?_ ?_)⟩
    ·exact oO rfl (cO 3 (bK bv) ⟨rfl,(raT pN)⟩)
    ·exact og 3 ⟨rfl,(raT gB)⟩
    ·exact og 3 ⟨rfl,(raE iq)⟩
    ·exact og 3 ⟨rfl,(raE pP)⟩
   ·refine og 3 ⟨rfl,(ra4 1 3 7 13 ?_ ?_ ?_ ?_)⟩
    ·exact oO rfl (cO 3 (bK bv) ⟨rfl,(rL [7,8,11,14,15,16] 7 rfl (raE l8))⟩)
    ·exact og 3 ⟨rfl,(raT pR)⟩
    ·exact og 3 ⟨rfl,(raT iq)⟩
    ·exact og 3 ⟨rfl,(raE pQ)⟩
   ·refine og 3 ⟨rfl,(ra4 1 3 7 10 ?_ ?_ ?_ ?_)⟩
    ·exact oO rfl (cO 3 (bK bv) ⟨rfl,(rL [7,8,11,14,15,16] 7 rfl (raE l0))⟩)
    ·exact og 3 ⟨rfl,(raT pO)⟩
    ·exact og 3 ⟨rfl,(raT pP)⟩
    ·exact og 3 ⟨rfl,(raT pQ)⟩
  ·refine ra3 1 10 13 ?_ ?_ ?_
   ·exact oO rfl (cO 3 (bK bv) ⟨rfl,(r0 4 rfl (ap (en:=aa) Ty.s36 rfl rfl rfl bJ (raT lZ)))⟩)
   ·exact og 3 ⟨rfl,(raE l9)⟩
   ·exact og 3 ⟨rfl,(raE l7)⟩
  ·refine ra3 1 3 13 ?_ ?_ ?_
   ·exact oO rfl (cO 3 (bK bv) ⟨rfl,(raT l8)⟩)
   ·exact og 3 ⟨rfl,(raT l9)⟩
   ·exact og 3 ⟨rfl,(raE l6)⟩
  ·refine ra3 1 7 13 ?_ ?_ ?_
   ·exact oO rfl (cO 3 (bK bv) ⟨rfl,(r0 4 rfl (ap (en:=aa) Ty.s36 rfl rfl rfl bJ (rL [7,8,11,14,15,16] 7 rfl (raE jY))))⟩)
   ·exact og 3 ⟨rfl,(raT l9)⟩
   ·exact og 3 ⟨rfl,(raE l5)⟩
  ·refine ra3 1 3 7 ?_ ?_ ?_
   ·exact oO rfl (cO 3 (bK bv) ⟨rfl,(rL [7,8,11,14,15,16] 7 rfl (raE jZ))⟩)
   ·exact og 3 ⟨rfl,(raT l5)⟩
   ·exact og 3 ⟨rfl,(raT l6)⟩
  ·refine ra3 1 3 10 ?_ ?_ ?_
   ·exact oO rfl (cO 3 (bK bv) ⟨rfl,(raT l0)⟩)
   ·exact og 3 ⟨rfl,(raT l7)⟩
   ·exact og 3 ⟨rfl,(raT l6)⟩
  ·refine ra3 1 7 10 ?_ ?_ ?_
   ·exact oO rfl (cO 3 (bK bv) ⟨rfl,(r0 4 rfl (ap (en:=aa) Ty.s36 rfl rfl rfl bJ (rL [7,8,11,14,15,16] 7 rfl (raE jW))))⟩)
   ·exact og 3 ⟨rfl,(raT l7)⟩
   ·exact og 3 ⟨rfl,(raT l5)⟩
  ·refine ra4 3 8 10 13 ?_ ?_ ?_ ?_
   ·exact og 4 ⟨rfl,(r0 4 rfl (ap (en:=aa) Ty.s36 rfl rfl rfl bJ (raT lZ)))⟩
   ·exact oO rfl (cF (aD bC) ⟨rfl,(rL [10,11,14,15,16] 10 rfl (raE qn))⟩)
   ·exact og 4 ⟨rfl,(raT l8)⟩
   ·exact og 4 ⟨rfl,(raT l0)⟩
  ·refine ra2 1 13 ?_ ?_
   ·exact oO rfl (cO 3 (bK bv) ⟨rfl,(r0 4 rfl (ap (en:=aa) Ty.s36 rfl rfl rfl bJ (raT jY)))⟩)
   ·exact og 3 ⟨rfl,(raE j0)⟩
  ·refine ra3 3 8 13 ?_ ?_ ?_
   ·exact og 4 ⟨rfl,(r0 4 rfl (ap (en:=aa) Ty.s36 rfl rfl rfl bJ (raT jY)))⟩
   ·exact oO rfl (cF (aD bC) ⟨rfl,(raT qn)⟩)
   ·exact og 4 ⟨rfl,(raT jZ)⟩
  ·refine ra2 1 10 ?_ ?_
   ·exact oO rfl (cO 3 (bK bv) ⟨rfl,(r0 4 rfl (ap (en:=aa) Ty.s36 rfl rfl rfl bJ (raT jW)))⟩)
   ·exact og 3 ⟨rfl,(raT j0)⟩
  ·refine ra2 1 3 ?_ ?_
   ·exact oO rfl (cO 3 (bK bv) ⟨rfl,(raT jZ)⟩)
   ·exact og 3 ⟨rfl,(raT j0)⟩
  ·refine ra2 1 7 ?_ ?_
   ·exact oO rfl (cO 3 (bK bv) ⟨rfl,(r0 4 rfl (ap (en:=aa) Ty.s36 rfl rfl rfl bJ (rL [7,8,11,14,15,16] 7 rfl (raE iz))))⟩)
   ·exact og 3 ⟨rfl,(raT j0)⟩
  ·refine ra3 3 8 10 ?_ ?_ ?_
   ·exact og 4 ⟨rfl,(r0 4 rfl (ap (en:=aa) Ty.s36 rfl rfl rfl bJ (raT jW)))⟩
   ·exact oO rfl (cF (aD bC) ⟨rfl,(rL [10,11,14,15,16] 10 rfl (raE lY))⟩)
   ·exact og 4 ⟨rfl,(raT jZ)⟩
  ·refine ra4 5 8 10 13 ?_ ?_ ?_ ?_
   ·refine oO rfl (aK (en:=aa) (a:=x15) rfl rfl cI (aH Ty.k9 (c:=.str x15) rfl (ra3 8 10 13 ?_ ?_ ?_)))
    ·exact oO rfl (cF (aD bC) ⟨rfl,(rL [10,11,14,15,16] 10 rfl (raE lW))⟩)
    ·exact og 4 ⟨rfl,(raE qm)⟩
    ·exact og 4 ⟨rfl,(raE ql)⟩
   ·exact oO rfl (cF (aD bC) ⟨rfl,(rL [10,11,14,15,16] 10 rfl (raE lX))⟩)
   ·exact og 4 ⟨rfl,(raT jY)⟩
   ·exact og 4 ⟨rfl,(raT jW)⟩
  ·refine ra3 3 11 13 ?_ ?_ ?_
   ·exact og 4 ⟨rfl,(r0 4 rfl (ap (en:=aa) Ty.s36 rfl rfl rfl bJ (raT lX)))⟩
   ·exact oO rfl (cF (dG dk) ⟨rfl,(rL [13,14,15,16] 13 rfl (raE qk))⟩)
   ·exact og 4 ⟨rfl,(raT lY)⟩
  ·exact ra1 1 (oO rfl (cO 3 (bK bv) ⟨rfl,(r0 4 rfl (ap (en:=aa) Ty.s36 rfl rfl rfl bJ (raT iz)))⟩))
  ·refine ra2 3 8 ?_ ?_
   ·exact og 4 ⟨rfl,(r0 4 rfl (ap (en:=aa) Ty.s36 rfl rfl rfl bJ (raT iz)))⟩
   ·exact oO rfl (cF (aD bC) ⟨rfl,(raT lY)⟩)
  ·refine ra3 5 8 13 ?_ ?_ ?_
   ·exact oO rfl (aK (en:=aa) (a:=x15) rfl rfl cI (aH Ty.k9 (c:=.str x15) rfl (raT qm)))
   ·exact oO rfl (cF (aD bC) ⟨rfl,(raT lX)⟩)
   ·exact og 4 ⟨rfl,(raT iz)⟩
  ·refine ra3 5 8 10 ?_ ?_ ?_
   ·exact oO rfl (aK (en:=aa) (a:=x15) rfl rfl cI (aH Ty.k9 (c:=.str x15) rfl (raT ql)))
   ·exact oO rfl (cF (aD bC) ⟨rfl,(rL [10,11,14,15,16] 10 rfl (raE jV))⟩)
   ·exact og 4 ⟨rfl,(raT iz)⟩
  ·refine ra2 3 11 ?_ ?_
   ·exact og 4 ⟨rfl,(r0 4 rfl (ap (en:=aa) Ty.s36 rfl rfl rfl bJ (raT jV)))⟩
   ·exact oO rfl (cF (dG dk) ⟨rfl,(raT qk)⟩)
  ·refine ra3 5 11 13 ?_ ?_ ?_
   ·exact oO rfl (aK (en:=aa) (a:=x15) rfl rfl cI (aH Ty.k9 (c:=.str x15) rfl (raT lW)))
   ·exact oO rfl (cF (dG dk) ⟨rfl,(rL [13,14,15,16] 13 rfl (raE lU))⟩)
   ·exact og 4 ⟨rfl,(raT jV)⟩
  ·refine ra2 8 13 ?_ ?_
   ·exact oO rfl (cF (aD bC) ⟨rfl,(raT lW)⟩)
   ·exact og 4 ⟨rfl,(raE lV)⟩
  ·refine ra2 8 10 ?_ ?_
   ·exact oO rfl (cF (aD bC) ⟨rfl,(ra1 10 (og 4 ⟨rfl,(raE jU)⟩))⟩)
   ·exact og 4 ⟨rfl,(raT lV)⟩
  ·refine ra2 3 14 ?_ ?_
   ·exact og 4 ⟨rfl,(r0 4 rfl (ap (en:=aa) Ty.s36 rfl rfl rfl bJ (raT lU)))⟩
   ·exact oO rfl (cF (dG dl) ⟨rfl,(ra1 3 (og 4 ⟨rfl,(r0 4 rfl (ap (en:=aa) Ty.s36 rfl rfl rfl bJ (raE qj)))⟩))⟩)
  ·refine ra2 5 8 ?_ ?_
   ·exact oO rfl (aK (en:=aa) (a:=x15) rfl rfl cI (aH Ty.k9 (c:=.str x15) rfl (raT lV)))
   ·exact oO rfl (cF (aD bC) ⟨rfl,(raT jV)⟩)
  ·refine ra2 11 13 ?_ ?_
   ·exact oO rfl (cF (dG dk) ⟨rfl,(ra1 13 (og 4 ⟨rfl,(raE lT)⟩))⟩)
   ·exact og 4 ⟨rfl,(raT jU)⟩
  ·refine ra2 5 11 ?_ ?_
   ·exact oO rfl (aK (en:=aa) (a:=x15) rfl rfl cI (aH Ty.k9 (c:=.str x15) rfl (raT jU)))
   ·exact oO rfl (cF (dG dk) ⟨rfl,(raT lU)⟩)
  ·exact ra1 8 (oO rfl (cF (aD bC) ⟨rfl,(raT jU)⟩))
  ·refine ra2 5 14 ?_ ?_
   ·exact oO rfl (aK (en:=aa) (a:=x15) rfl rfl cI (aH Ty.k9 (c:=.str x15) rfl (raT lT)))
   ·exact oO rfl (cF (dG dl) ⟨rfl,(raT qj)⟩)
  ·exact ra1 11 (oO rfl (cF (dG dk) ⟨rfl,(raT lT)⟩))
  ·exact ra1 5 (oO rfl (aK (en:=aa) (a:=x15) rfl rfl cI (aH Ty.k9 (c:=.str x15) rfl (raE qi))))
  ·exact ra1 14 (oO rfl (cF (dG dl) ⟨rfl,(raT qi)⟩))
  exact ra1 15 (oO rfl (ck (rows:=List.map aa [x15,x16,x17,x18]) (vs:=[.str x15,.str x16,.str x17,.str x18]) Ty.s36 Ty.z9 rfl rfl rfl rfl rfl rfl (ra1 16 (oO rfl (cG [4,0,1] 5 4 (mr di) ⟨rfl,(RA.done (by decide +kernel) (X 4 6 (lk h (wk [] [0,5] 6 rfl))))⟩)))))
 refine X 1 2 ?_;replace h:=mi h xk;refine B h fun x21 ma h=>(X 2 2 (sO (cG [0,1] 2 2 (qZ ma) ⟨rfl,(Y 3 2 ?_)⟩)))
 cases h;exact tD
theorem mq {p0:Int} {r:Bool} (h:fS p0=some r):Fn Tryd.prog 19 [iI p0] (.bool r):=by unfold fS at h;refine fT 0 10 Tryd.func19 Tryd.ntmps19 rfl ?_;cases h;exact tD
theorem cX {p0:Int} {r:Bool} (h:bY p0=some r):Fn Tryd.prog 17 [iI p0] (.bool r):=by unfold bY at h;refine fT 0 10 Tryd.func17 Tryd.ntmps17 rfl ?_;cases h;exact tD
theorem j7 {p0:Int} {r:Bool} (h:e8 p0=some r):Fn Tryd.prog 18 [iI p0] (.bool r):=by unfold e8 at h;refine fT 0 10 Tryd.func18 Tryd.ntmps18 rfl ?_;cases h;exact tD
theorem qI {p0:List Int} {p1 r:Int} (h:iE p0 p1=some r):Fn Tryd.prog 28 [sL ah p0,iI p1] (iI r):=by
 unfold iE at h;refine fT 0 8 Tryd.func28 Tryd.ntmps28 rfl (sQ (ao Ty.s28 rfl (Y 3 0 (itr (fun aY:Int=>mkA 19 [(0,sL ah p0),(1,iI p1),(7,iI ((p0).length:Int)),(8,iI aY)]) (fun aY=>[]) h (wk [] [] 0 rfl) (fun aY v_6 h dj=>?_)))));revert dj h;revert aY;intro s1 h dj;replace h:fQ p0 p1 s1=some v_6:=h;try dsimp only
 unfold fQ at h;refine X 5 0 (T.ci h rfl (fun fM h=>?_) (fun fM h=>?_))
 ·refine B h fun x3 hx3 h=>(X 13 0 (sQ (aP Ty.s28 (fun _=>rfl) rfl rfl hx3 (Y 3 0 (T.ci h rfl (fun dh h=>?_) (fun dh h=>?_))))))
  ·refine X 5 0 ?_;replace h:=mi h dj;cases h;exact tD
  exact X 5 0 (lk h (wk [] [] 0 rfl))
 refine X 1 0 ?_;replace h:=mi h dj;refine X 4 0 ?_;cases h;exact tD
theorem mo {p0:List Int} {p1:Int} {r:Bool} (h:fR p0 p1=some r):Fn Tryd.prog 20 [sL ah p0,iI p1] (.bool r):=by
 unfold fR at h;refine fT 0 0 Tryd.func20 Tryd.ntmps20 rfl ?_;refine B h fun x2 hx2 h=>(X 8 0 (sO (cF (qI hx2) ⟨rfl,(Y 3 0 ?_)⟩)))
 cases h;exact tD
theorem qF {p0:Net} {r:(List Int) × Int} (h:fV p0=some r):FnO Tryd.prog 5 [.agg (am p0)] (.tup [.ref 0,iI r.2]) [aR 3 1 ah r.1]:=by
 unfold fV at h;refine fT 0 7 Tryd.func5 Tryd.ntmps5 rfl (j1 [(1,.ptr 0 0),(48,.bool ((((p0.Nodes).length:Int)==0) || ((decide (((p0.Nodes).length:Int) > 12)) || ((decide (p0.Rings<0)) || decide (p0.Rings > 16)))))] [.box (am p0)] ?_ (fun hK=>?_))
 ·refine T.ci h rfl (fun bg h=>?_) (fun bg h=>?_)
  ·refine X 5 1 ?_;cases h;exact tO [(0,3,1)] [1] 1
  refine X 2 1 (j1 [(1,.ptr 0 0),(56,.bool ((decide (p0.Room<1)) || decide (p0.Room > 6)))] [.box (am p0)] ?_ (fun hK=>?_))
  ·refine T.ci h rfl (fun ix h=>?_) (fun ix h=>?_)
   ·refine X 5 1 ?_;cases h;exact tO [(0,3,1)] [1] 1
   refine X 3 1 (sO (ja rfl rfl (sO (ja rfl rfl (Y 12 3 (sQ (ao Ty.s22 rfl (Y 3 3 (itr (fun ct:Int × Int × (List (Int × Int)) × (List (Int × Int))=>mkA 249 [(1,.ptr 0 0),(4,.mpr 1),(5,.mpr 2),(6,iI ct.1),(60,sL ae p0.Nodes),(61,iI ((p0.Nodes).length:Int)),(62,iI ct.2.1)]) (fun ct=>[.box (am p0),.mp (List.map kI (List.map Prod.fst ct.2.2.1)) (List.map kI (List.map Prod.snd ct.2.2.1)),.mp (List.map kI (List.map Prod.fst ct.2.2.2)) (List.map kI (List.map Prod.snd ct.2.2.2))]) h (wk [] [0,1,2] 3 rfl) (fun ct v_294 h cb=>?_))))))))));obtain ⟨s3,s4,s5,s6⟩:=ct;replace h:dp p0 s3 s4 s5 s6=some v_294:=h;try dsimp only
   unfold dp at h;refine X 5 3 (T.ci h rfl (fun wi h=>?_) (fun wi h=>?_))
   ·refine B h fun x8 hx8 h=>(X 6 3 (sQ (aP Ty.s22 (fun _=>rfl) rfl rfl hx8 (Y 17 3 (T.join2 (Z:=Unit) (fun lr=>mkA 249 [(1,.ptr 0 0),(4,.mpr 1),(5,.mpr 2),(6,iI s3),(7,iI s4),(8,.ptr 3 0),(60,sL ae p0.Nodes),(61,iI ((p0.Nodes).length:Int)),(62,iI s4)]) (fun lr=>[.box (am p0),.mp (List.map kI (List.map Prod.fst s5)) (List.map kI (List.map Prod.snd s5)),.mp (List.map kI (List.map Prod.fst s6)) (List.map kI (List.map Prod.snd s6)),.box (ae x8)]) (fun lr=>cj p0 s3 s4 s5 s6 x8=some v_294) (fun lr h=>?_) (fun hK3=>?_))))))
    ·replace h:cj p0 s3 s4 s5 s6 x8=some v_294:=h;unfold cj at h;refine X 2 4 (sO (ja rfl rfl (sO (je (ek:=kI) (ev:=kI) (xs:=([]:List (Int × Int))) (k:=1) (a:=3) (.inr rfl) Tryd.underlying51 (KeyT.int Tryd.underlying3) rfl rfl rfl rfl rfl (sO (je (ek:=kI) (ev:=kI) (xs:=(mset 1 3 ([]:List (Int × Int)))) (k:=2) (a:=3) (.inr rfl) Tryd.underlying51 (KeyT.int Tryd.underlying3) rfl rfl rfl rfl rfl (Y 3 5 (sO (oe (ek:=kI) (ev:=kI) (xs:=(mset 2 3 (mset 1 3 ([]:List (Int × Int))))) (k:=x8.Kind) (z0:=0) Tryd.underlying51 (KeyT.int Tryd.underlying3) Ty.w3 (fun _ _ _=>.int _ _) rfl rfl rfl (Y 3 5 (j1 [(1,.ptr 0 0),(4,.mpr 1),(5,.mpr 2),(6,iI s3),(7,iI s4),(8,.ptr 3 0),(60,sL ae p0.Nodes),(61,iI ((p0.Nodes).length:Int)),(62,iI s4),(130,.bool ((decide (x8.A<0)) || decide (x8.A > ((mget x8.Kind (mset 2 3 (mset 1 3 ([]:List (Int × Int))))).getD 0))))] [.box (am p0),.mp (List.map kI (List.map Prod.fst s5)) (List.map kI (List.map Prod.snd s5)),.mp (List.map kI (List.map Prod.fst s6)) (List.map kI (List.map Prod.snd s6)),.box (ae x8)] ?_ (fun hK=>?_))))))))))))
     ·refine T.ci h rfl (fun wj h=>?_) (fun wj h=>?_)
      ·refine X 5 4 ?_;replace h:=mi h cb;cases h;exact tO [(0,3,1)] [4] 4
      refine X 6 4 (sQ (ao Ty.s28 rfl (Y 3 4 (itr (fun dT:Int × (List (Int × Int))=>mkA 249 [(1,.ptr 0 0),(4,.mpr 1),(5,.mpr 2),(6,iI s3),(7,iI s4),(8,.ptr 3 0),(60,sL ae p0.Nodes),(61,iI ((p0.Nodes).length:Int)),(62,iI s4),(132,sL ah x8.In),(133,iI ((x8.In).length:Int)),(134,iI dT.1)]) (fun dT=>[.box (am p0),.mp (List.map kI (List.map Prod.fst s5)) (List.map kI (List.map Prod.snd s5)),.mp (List.map kI (List.map Prod.fst dT.2)) (List.map kI (List.map Prod.snd dT.2)),.box (ae x8)]) h (wk [] [0,1,2,3] 4 rfl) (fun dT v_373 h lu=>?_)))));obtain ⟨s34,s35⟩:=dT;replace h:cJ p0 s3 s4 s5 x8 s34 s35=some v_373:=h;try dsimp only
      unfold cJ at h;refine X 5 4 (T.ci h rfl (fun wl h=>?_) (fun wl h=>?_))
      ·refine B h fun x37 gE h=>(X 5 4 (sQ (aP Ty.s28 (fun _=>rfl) rfl rfl gE (Y 4 4 (j1 [(1,.ptr 0 0),(4,.mpr 1),(5,.mpr 2),(6,iI s3),(7,iI s4),(8,.ptr 3 0),(16,iI x37),(60,sL ae p0.Nodes),(61,iI ((p0.Nodes).length:Int)),(62,iI s4),(132,sL ah x8.In),(133,iI ((x8.In).length:Int)),(134,iI s34),(145,.bool ((decide (x37<0)) || decide (x37 >= p0.Rings)))] [.box (am p0),.mp (List.map kI (List.map Prod.fst s5)) (List.map kI (List.map Prod.snd s5)),.mp (List.map kI (List.map Prod.fst s35)) (List.map kI (List.map Prod.snd s35)),.box (ae x8)] ?_ (fun hK=>?_))))))
       ·refine T.ci h rfl (fun wm h=>?_) (fun wm h=>?_)
        ·refine X 5 4 ?_;replace h:=mi h lu;replace h:=mi h cb;cases h;exact tO [(0,3,1)] [4] 4
        refine X 6 4 (sO (mQ (ek:=kI) (ev:=kI) (xs:=s35) (k:=x37) (z0:=0) Tryd.underlying51 (KeyT.int Tryd.underlying3) Ty.w3 (fun _ _ _=>.int _ _) rfl rfl rfl (Y 10 4 (T.ci h rfl (fun wn h=>?_) (fun wn h=>?_)))))
        ·refine X 5 4 ?_;replace h:=mi h lu;replace h:=mi h cb;cases h;exact tO [(0,3,1)] [4] 4
        exact X 5 4 (sO (je (ek:=kI) (ev:=kI) (xs:=s35) (k:=x37) (a:=s4) (.inl rfl) Tryd.underlying51 (KeyT.int Tryd.underlying3) rfl rfl rfl rfl rfl (Y 5 4 (lk h (wk [] [0,1,2,3] 4 rfl)))))
       refine X 5 4 (gp 140 (fun lv=>?_) (fun lv=>?_))
       ·refine Yp 6 4 ?_;rw [lv] at hK;exact sx hK
       refine Yp 6 4 ?_;rw [lv] at hK;exact sx hK
      refine X 1 4 ?_;replace h:=mi h lu;refine X 5 4 (sQ (ao Ty.s28 rfl (Y 3 4 (itr (fun dS:Int × (List (Int × Int))=>mkA 249 [(1,.ptr 0 0),(4,.mpr 1),(5,.mpr 2),(6,iI s3),(7,iI s4),(8,.ptr 3 0),(60,sL ae p0.Nodes),(61,iI ((p0.Nodes).length:Int)),(62,iI s4),(158,sL ah x8.Out),(159,iI ((x8.Out).length:Int)),(160,iI dS.1)]) (fun dS=>[.box (am p0),.mp (List.map kI (List.map Prod.fst dS.2)) (List.map kI (List.map Prod.snd dS.2)),.mp (List.map kI (List.map Prod.fst s35)) (List.map kI (List.map Prod.snd s35)),.box (ae x8)]) h (wk [] [0,1,2,3] 4 rfl) (fun dS v_392 h lw=>?_)))));obtain ⟨s39,s40⟩:=dS;replace h:dq p0 s3 s4 x8 s35 s39 s40=some v_392:=h;try dsimp only
      unfold dq at h;refine X 5 4 (T.ci h rfl (fun wo h=>?_) (fun wo h=>?_))
      ·refine B h fun x42 lS h=>(X 5 4 (sQ (aP Ty.s28 (fun _=>rfl) rfl rfl lS (Y 4 4 (j1 [(1,.ptr 0 0),(4,.mpr 1),(5,.mpr 2),(6,iI s3),(7,iI s4),(8,.ptr 3 0),(20,iI x42),(60,sL ae p0.Nodes),(61,iI ((p0.Nodes).length:Int)),(62,iI s4),(158,sL ah x8.Out),(159,iI ((x8.Out).length:Int)),(160,iI s39),(171,.bool ((decide (x42<0)) || decide (x42 >= p0.Rings)))] [.box (am p0),.mp (List.map kI (List.map Prod.fst s40)) (List.map kI (List.map Prod.snd s40)),.mp (List.map kI (List.map Prod.fst s35)) (List.map kI (List.map Prod.snd s35)),.box (ae x8)] ?_ (fun hK=>?_))))))
       ·refine T.ci h rfl (fun wq h=>?_) (fun wq h=>?_)
        ·refine X 5 4 ?_;replace h:=mi h lw;replace h:=mi h cb;cases h;exact tO [(0,3,1)] [4] 4
        refine X 6 4 (sO (mQ (ek:=kI) (ev:=kI) (xs:=s40) (k:=x42) (z0:=0) Tryd.underlying51 (KeyT.int Tryd.underlying3) Ty.w3 (fun _ _ _=>.int _ _) rfl rfl rfl (Y 10 4 (T.ci h rfl (fun wt h=>?_) (fun wt h=>?_)))))
        ·refine X 5 4 ?_;replace h:=mi h lw;replace h:=mi h cb;cases h;exact tO [(0,3,1)] [4] 4
        exact X 5 4 (sO (je (ek:=kI) (ev:=kI) (xs:=s40) (k:=x42) (a:=s4) (.inl rfl) Tryd.underlying51 (KeyT.int Tryd.underlying3) rfl rfl rfl rfl rfl (Y 5 4 (lk h (wk [] [0,1,2,3] 4 rfl)))))
       refine X 5 4 (gp 166 (fun lx=>?_) (fun lx=>?_))
       ·refine Yp 6 4 ?_;rw [lx] at hK;exact sx hK
       refine Yp 6 4 ?_;rw [lx] at hK;exact sx hK
      refine X 1 4 ?_;replace h:=mi h lw;refine X 6 4 (T.ci h rfl (fun wv h=>?_) (fun wv h=>?_))
      ·exact X 9 4 (lk h (wk [] [0,1,2] 4 rfl))
      exact X 5 4 (lk h (wk [] [0,1,2] 4 rfl))
     refine X 6 5 (gp 125 (fun ly=>?_) (fun ly=>?_))
     ·refine Yp 6 5 ?_;rw [ly] at hK;exact wu hK [] [0,1,2,3] 5 rfl
     refine Yp 6 5 ?_;rw [ly] at hK;exact wu hK [] [0,1,2,3] 5 rfl
    refine X 2 4 (sO (ja rfl rfl (Y 3 5 (sO (dH (ek:=kI) (ks:=[]) (vs:=[]) (k:=1) (a:=.agg [.func 19 [],.func 17 []]) (o2:=.mp (List.map kI [1]) [.agg [.func 19 [],.func 17 []]]) (.inr rfl) Tryd.underlying56 (KeyT.int Tryd.underlying3) rfl rfl rfl rfl rfl rfl (Y 3 5 (sO (dH (ek:=kI) (ks:=[1]) (vs:=[.agg [.func 19 [],.func 17 []]]) (k:=2) (a:=.agg [.func 17 [],.func 17 []]) (o2:=.mp (List.map kI [1,2]) [.agg [.func 19 [],.func 17 []],.agg [.func 17 [],.func 17 []]]) (.inr rfl) Tryd.underlying56 (KeyT.int Tryd.underlying3) rfl rfl rfl rfl rfl rfl (Y 3 5 (sO (dH (ek:=kI) (ks:=[1,2]) (vs:=[.agg [.func 19 [],.func 17 []],.agg [.func 17 [],.func 17 []]]) (k:=3) (a:=.agg [.func 17 [],.func 17 []]) (o2:=.mp (List.map kI [1,2,3]) [.agg [.func 19 [],.func 17 []],.agg [.func 17 [],.func 17 []],.agg [.func 17 [],.func 17 []]]) (.inr rfl) Tryd.underlying56 (KeyT.int Tryd.underlying3) rfl rfl rfl rfl rfl rfl (Y 3 5 (sO (dH (ek:=kI) (ks:=[1,2,3]) (vs:=[.agg [.func 19 [],.func 17 []],.agg [.func 17 [],.func 17 []],.agg [.func 17 [],.func 17 []]]) (k:=4) (a:=.agg [.func 17 [],.func 17 []]) (o2:=.mp (List.map kI [1,2,3,4]) [.agg [.func 19 [],.func 17 []],.agg [.func 17 [],.func 17 []],.agg [.func 17 [],.func 17 []],.agg [.func 17 [],.func 17 []]]) (.inr rfl) Tryd.underlying56 (KeyT.int Tryd.underlying3) rfl rfl rfl rfl rfl rfl ?_))))))))))))));refine Y 3 5 (sO (dH (ek:=kI) (ks:=[1,2,3,4]) (vs:=[.agg [.func 19 [],.func 17 []],.agg [.func 17 [],.func 17 []],.agg [.func 17 [],.func 17 []],.agg [.func 17 [],.func 17 []]]) (k:=5) (a:=.agg [.func 17 [],.func 18 []]) (o2:=.mp (List.map kI [1,2,3,4,5]) [.agg [.func 19 [],.func 17 []],.agg [.func 17 [],.func 17 []],.agg [.func 17 [],.func 17 []],.agg [.func 17 [],.func 17 []],.agg [.func 17 [],.func 18 []]]) (.inr rfl) Tryd.underlying56 (KeyT.int Tryd.underlying3) rfl rfl rfl rfl rfl rfl (Y 3 5 (sO (dH (ek:=kI) (ks:=[1,2,3,4,5]) (vs:=[.agg [.func 19 [],.func 17 []],.agg [.func 17 [],.func 17 []],.agg [.func 17 [],.func 17 []],.agg [.func 17 [],.func 17 []],.agg [.func 17 [],.func 18 []]]) (k:=7) (a:=.agg [.func 17 [],.func 18 []]) (o2:=.mp (List.map kI [1,2,3,4,5,7]) [.agg [.func 19 [],.func 17 []],.agg [.func 17 [],.func 17 []],.agg [.func 17 [],.func 17 []],.agg [.func 17 [],.func 17 []],.agg [.func 17 [],.func 18 []],.agg [.func 17 [],.func 18 []]]) (.inr rfl) Tryd.underlying56 (KeyT.int Tryd.underlying3) rfl rfl rfl rfl rfl rfl (Y 3 5 (sO (dH (ek:=kI) (ks:=[1,2,3,4,5,7]) (vs:=[.agg [.func 19 [],.func 17 []],.agg [.func 17 [],.func 17 []],.agg [.func 17 [],.func 17 []],.agg [.func 17 [],.func 17 []],.agg [.func 17 [],.func 18 []],.agg [.func 17 [],.func 18 []]]) (k:=6) (a:=.agg [.func 18 [],.func 17 []]) (o2:=.mp (List.map kI [1,2,3,4,5,7,6]) [.agg [.func 19 [],.func 17 []],.agg [.func 17 [],.func 17 []],.agg [.func 17 [],.func 17 []],.agg [.func 17 [],.func 17 []],.agg [.func 17 [],.func 18 []],.agg [.func 17 [],.func 18 []],.agg [.func 18 [],.func 17 []]]) (.inr rfl) Tryd.underlying56 (KeyT.int Tryd.underlying3) rfl rfl rfl rfl rfl rfl (Y 3 5 (sO (dH (ek:=kI) (ks:=[1,2,3,4,5,7,6]) (vs:=[.agg [.func 19 [],.func 17 []],.agg [.func 17 [],.func 17 []],.agg [.func 17 [],.func 17 []],.agg [.func 17 [],.func 17 []],.agg [.func 17 [],.func 18 []],.agg [.func 17 [],.func 18 []],.agg [.func 18 [],.func 17 []]]) (k:=8) (a:=.agg [.func 17 [],.func 19 []]) (o2:=.mp (List.map kI [1,2,3,4,5,7,6,8]) [.agg [.func 19 [],.func 17 []],.agg [.func 17 [],.func 17 []],.agg [.func 17 [],.func 17 []],.agg [.func 17 [],.func 17 []],.agg [.func 17 [],.func 18 []],.agg [.func 17 [],.func 18 []],.agg [.func 18 [],.func 17 []],.agg [.func 17 [],.func 19 []]]) (.inr rfl) Tryd.underlying56 (KeyT.int Tryd.underlying3) rfl rfl rfl rfl rfl rfl (Y 3 5 ?_))))))))))));rcases aC (x8.Kind==1) with cN | cN
    ·replace h:=bq h cN;refine sO (dF (ek:=kI) (ks:=[1,2,3,4,5,7,6,8]) (vs:=[.agg [.func 19 [],.func 17 []],.agg [.func 17 [],.func 17 []],.agg [.func 17 [],.func 17 []],.agg [.func 17 [],.func 17 []],.agg [.func 17 [],.func 18 []],.agg [.func 17 [],.func 18 []],.agg [.func 18 [],.func 17 []],.agg [.func 17 [],.func 19 []]]) (k:=x8.Kind) (az:=.agg [.nilf,.nilf]) (a:=.agg [.func 19 [],.func 17 []]) (r:=(some 0)) Tryd.underlying56 (KeyT.int Tryd.underlying3) Ty.w54 (fun _ _ _=>dO (vs:=[.nilFunc,.nilFunc]) (.cons (.nilf) (.cons (.nilf) (.nil))) rfl) rfl rfl rfl (eR (eq_of_beq cN)) rfl (B h fun x9 hx9 h=>(Y 16 5 ?_)));obtain ⟨ww,hz,h⟩:=bind_some h;revert hz h;revert ww;intro c11 hz h;refine j1 [(1,.ptr 0 0),(4,.mpr 1),(5,.mpr 2),(6,iI s3),(7,iI s4),(8,.ptr 3 0),(60,sL ae p0.Nodes),(61,iI ((p0.Nodes).length:Int)),(62,iI s4),(116,.bool c11)] [.box (am p0),.mp (List.map kI (List.map Prod.fst s5)) (List.map kI (List.map Prod.snd s5)),.mp (List.map kI (List.map Prod.fst s6)) (List.map kI (List.map Prod.snd s6)),.box (ae x8)] ?_ (fun hK=>?_)
     ·refine T.ci h rfl (fun wx h=>?_) (fun wx h=>?_)
      ·refine X 5 4 ?_;replace h:=mi h cb;cases h;exact tO [(0,3,1)] [4] 4
      exact X 1 4 (sx (hK3 () h))
     refine X 6 6 (sQ (ao Ty.s28 rfl (sO (cF (mq hx9) ⟨rfl,(Y 2 6 (gi 108 hz (fun wy hz=>?_) (fun wy hz=>?_)))⟩))))
     ·refine Yp 9 6 ?_;cases hz;exact wu hK [] [0,1,2,3] 6 rfl
     refine B hz fun x10 cW hz=>(Y 4 6 (yQ rfl (ao Ty.s28 rfl (yO rfl (cF (cX cW) ⟨rfl,(Yp 3 6 ?_)⟩)))))
     cases hz;exact wu hK [] [0,1,2,3] 6 rfl
    replace h:=bn h cN;rcases aC (x8.Kind==2) with dc | dc
    ·replace h:=bq h dc;refine sO (dF (ek:=kI) (ks:=[1,2,3,4,5,7,6,8]) (vs:=[.agg [.func 19 [],.func 17 []],.agg [.func 17 [],.func 17 []],.agg [.func 17 [],.func 17 []],.agg [.func 17 [],.func 17 []],.agg [.func 17 [],.func 18 []],.agg [.func 17 [],.func 18 []],.agg [.func 18 [],.func 17 []],.agg [.func 17 [],.func 19 []]]) (k:=x8.Kind) (az:=.agg [.nilf,.nilf]) (a:=.agg [.func 17 [],.func 17 []]) (r:=(some 1)) Tryd.underlying56 (KeyT.int Tryd.underlying3) Ty.w54 (fun _ _ _=>dO (vs:=[.nilFunc,.nilFunc]) (.cons (.nilf) (.cons (.nilf) (.nil))) rfl) rfl rfl rfl (aB (ne_of_beq_false cN) (eR (eq_of_beq dc))) rfl (B h fun x12 d5 h=>(Y 16 5 ?_)));obtain ⟨wz,hz,h⟩:=bind_some h;revert hz h;revert wz;intro c14 hz h;refine j1 [(1,.ptr 0 0),(4,.mpr 1),(5,.mpr 2),(6,iI s3),(7,iI s4),(8,.ptr 3 0),(60,sL ae p0.Nodes),(61,iI ((p0.Nodes).length:Int)),(62,iI s4),(116,.bool c14)] [.box (am p0),.mp (List.map kI (List.map Prod.fst s5)) (List.map kI (List.map Prod.snd s5)),.mp (List.map kI (List.map Prod.fst s6)) (List.map kI (List.map Prod.snd s6)),.box (ae x8)] ?_ (fun hK=>?_)
     ·refine T.ci h rfl (fun wA h=>?_) (fun wA h=>?_)
      ·refine X 5 4 ?_;replace h:=mi h cb;cases h;exact tO [(0,3,1)] [4] 4
      exact X 1 4 (sx (hK3 () h))
     refine X 6 6 (sQ (ao Ty.s28 rfl (sO (cF (cX d5) ⟨rfl,(Y 2 6 (gi 108 hz (fun wC hz=>?_) (fun wC hz=>?_)))⟩))))
     ·refine Yp 9 6 ?_;cases hz;exact wu hK [] [0,1,2,3] 6 rfl
     refine B hz fun x13 bv hz=>(Y 4 6 (yQ rfl (ao Ty.s28 rfl (yO rfl (cF (cX bv) ⟨rfl,(Yp 3 6 ?_)⟩)))))
     cases hz;exact wu hK [] [0,1,2,3] 6 rfl
    replace h:=bn h dc;rcases aC (x8.Kind==3) with dA | dA
    ·replace h:=bq h dA;refine sO (dF (ek:=kI) (ks:=[1,2,3,4,5,7,6,8]) (vs:=[.agg [.func 19 [],.func 17 []],.agg [.func 17 [],.func 17 []],.agg [.func 17 [],.func 17 []],.agg [.func 17 [],.func 17 []],.agg [.func 17 [],.func 18 []],.agg [.func 17 [],.func 18 []],.agg [.func 18 [],.func 17 []],.agg [.func 17 [],.func 19 []]]) (k:=x8.Kind) (az:=.agg [.nilf,.nilf]) (a:=.agg [.func 17 [],.func 17 []]) (r:=(some 2)) Tryd.underlying56 (KeyT.int Tryd.underlying3) Ty.w54 (fun _ _ _=>dO (vs:=[.nilFunc,.nilFunc]) (.cons (.nilf) (.cons (.nilf) (.nil))) rfl) rfl rfl rfl (aB (ne_of_beq_false cN) (aB (ne_of_beq_false dc) (eR (eq_of_beq dA)))) rfl (B h fun x15 cI h=>(Y 16 5 ?_)));obtain ⟨wD,hz,h⟩:=bind_some h;revert hz h;revert wD;intro c17 hz h;refine j1 [(1,.ptr 0 0),(4,.mpr 1),(5,.mpr 2),(6,iI s3),(7,iI s4),(8,.ptr 3 0),(60,sL ae p0.Nodes),(61,iI ((p0.Nodes).length:Int)),(62,iI s4),(116,.bool c17)] [.box (am p0),.mp (List.map kI (List.map Prod.fst s5)) (List.map kI (List.map Prod.snd s5)),.mp (List.map kI (List.map Prod.fst s6)) (List.map kI (List.map Prod.snd s6)),.box (ae x8)] ?_ (fun hK=>?_)
     ·refine T.ci h rfl (fun wF h=>?_) (fun wF h=>?_)
      ·refine X 5 4 ?_;replace h:=mi h cb;cases h;exact tO [(0,3,1)] [4] 4
      exact X 1 4 (sx (hK3 () h))
     refine X 6 6 (sQ (ao Ty.s28 rfl (sO (cF (cX cI) ⟨rfl,(Y 2 6 (gi 108 hz (fun wG hz=>?_) (fun wG hz=>?_)))⟩))))
     ·refine Yp 9 6 ?_;cases hz;exact wu hK [] [0,1,2,3] 6 rfl
     refine B hz fun x16 bC hz=>(Y 4 6 (yQ rfl (ao Ty.s28 rfl (yO rfl (cF (cX bC) ⟨rfl,(Yp 3 6 ?_)⟩)))))
     cases hz;exact wu hK [] [0,1,2,3] 6 rfl
    replace h:=bn h dA;rcases aC (x8.Kind==4) with dY | dY
    ·replace h:=bq h dY;refine sO (dF (ek:=kI) (ks:=[1,2,3,4,5,7,6,8]) (vs:=[.agg [.func 19 [],.func 17 []],.agg [.func 17 [],.func 17 []],.agg [.func 17 [],.func 17 []],.agg [.func 17 [],.func 17 []],.agg [.func 17 [],.func 18 []],.agg [.func 17 [],.func 18 []],.agg [.func 18 [],.func 17 []],.agg [.func 17 [],.func 19 []]]) (k:=x8.Kind) (az:=.agg [.nilf,.nilf]) (a:=.agg [.func 17 [],.func 17 []]) (r:=(some 3)) Tryd.underlying56 (KeyT.int Tryd.underlying3) Ty.w54 (fun _ _ _=>dO (vs:=[.nilFunc,.nilFunc]) (.cons (.nilf) (.cons (.nilf) (.nil))) rfl) rfl rfl rfl (aB (ne_of_beq_false cN) (aB (ne_of_beq_false dc) (aB (ne_of_beq_false dA) (eR (eq_of_beq dY))))) rfl (B h fun x18 dl h=>(Y 16 5 ?_)));obtain ⟨wH,hz,h⟩:=bind_some h;revert hz h;revert wH;intro c20 hz h;refine j1 [(1,.ptr 0 0),(4,.mpr 1),(5,.mpr 2),(6,iI s3),(7,iI s4),(8,.ptr 3 0),(60,sL ae p0.Nodes),(61,iI ((p0.Nodes).length:Int)),(62,iI s4),(116,.bool c20)] [.box (am p0),.mp (List.map kI (List.map Prod.fst s5)) (List.map kI (List.map Prod.snd s5)),.mp (List.map kI (List.map Prod.fst s6)) (List.map kI (List.map Prod.snd s6)),.box (ae x8)] ?_ (fun hK=>?_)
     ·refine T.ci h rfl (fun wI h=>?_) (fun wI h=>?_)
      ·refine X 5 4 ?_;replace h:=mi h cb;cases h;exact tO [(0,3,1)] [4] 4
      exact X 1 4 (sx (hK3 () h))
     refine X 6 6 (sQ (ao Ty.s28 rfl (sO (cF (cX dl) ⟨rfl,(Y 2 6 (gi 108 hz (fun wJ hz=>?_) (fun wJ hz=>?_)))⟩))))
     ·refine Yp 9 6 ?_;cases hz;exact wu hK [] [0,1,2,3] 6 rfl
     refine B hz fun x19 di hz=>(Y 4 6 (yQ rfl (ao Ty.s28 rfl (yO rfl (cF (cX di) ⟨rfl,(Yp 3 6 ?_)⟩)))))
     cases hz;exact wu hK [] [0,1,2,3] 6 rfl
    replace h:=bn h dY;rcases aC (x8.Kind==5) with eY | eY
    ·replace h:=bq h eY;refine sO (dF (ek:=kI) (ks:=[1,2,3,4,5,7,6,8]) (vs:=[.agg [.func 19 [],.func 17 []],.agg [.func 17 [],.func 17 []],.agg [.func 17 [],.func 17 []],.agg [.func 17 [],.func 17 []],.agg [.func 17 [],.func 18 []],.agg [.func 17 [],.func 18 []],.agg [.func 18 [],.func 17 []],.agg [.func 17 [],.func 19 []]]) (k:=x8.Kind) (az:=.agg [.nilf,.nilf]) (a:=.agg [.func 17 [],.func 18 []]) (r:=(some 4)) Tryd.underlying56 (KeyT.int Tryd.underlying3) Ty.w54 (fun _ _ _=>dO (vs:=[.nilFunc,.nilFunc]) (.cons (.nilf) (.cons (.nilf) (.nil))) rfl) rfl rfl rfl (aB (ne_of_beq_false cN) (aB (ne_of_beq_false dc) (aB (ne_of_beq_false dA) (aB (ne_of_beq_false dY) (eR (eq_of_beq eY)))))) rfl (B h fun x21 ma h=>(Y 16 5 ?_)));obtain ⟨wK,hz,h⟩:=bind_some h;revert hz h;revert wK;intro c23 hz h;refine j1 [(1,.ptr 0 0),(4,.mpr 1),(5,.mpr 2),(6,iI s3),(7,iI s4),(8,.ptr 3 0),(60,sL ae p0.Nodes),(61,iI ((p0.Nodes).length:Int)),(62,iI s4),(116,.bool c23)] [.box (am p0),.mp (List.map kI (List.map Prod.fst s5)) (List.map kI (List.map Prod.snd s5)),.mp (List.map kI (List.map Prod.fst s6)) (List.map kI (List.map Prod.snd s6)),.box (ae x8)] ?_ (fun hK=>?_)
     ·refine T.ci h rfl (fun wL h=>?_) (fun wL h=>?_)
      ·refine X 5 4 ?_;replace h:=mi h cb;cases h;exact tO [(0,3,1)] [4] 4
      exact X 1 4 (sx (hK3 () h))
     refine X 6 6 (sQ (ao Ty.s28 rfl (sO (cF (cX ma) ⟨rfl,(Y 2 6 (gi 108 hz (fun wM hz=>?_) (fun wM hz=>?_)))⟩))))
     ·refine Yp 9 6 ?_;cases hz;exact wu hK [] [0,1,2,3] 6 rfl
     refine B hz fun x22 xx hz=>(Y 4 6 (yQ rfl (ao Ty.s28 rfl (yO rfl (cF (j7 xx) ⟨rfl,(Yp 3 6 ?_)⟩)))))
     cases hz;exact wu hK [] [0,1,2,3] 6 rfl
    replace h:=bn h eY;rcases aC (x8.Kind==7) with fI | fI
    ·replace h:=bq h fI;refine sO (dF (ek:=kI) (ks:=[1,2,3,4,5,7,6,8]) (vs:=[.agg [.func 19 [],.func 17 []],.agg [.func 17 [],.func 17 []],.agg [.func 17 [],.func 17 []],.agg [.func 17 [],.func 17 []],.agg [.func 17 [],.func 18 []],.agg [.func 17 [],.func 18 []],.agg [.func 18 [],.func 17 []],.agg [.func 17 [],.func 19 []]]) (k:=x8.Kind) (az:=.agg [.nilf,.nilf]) (a:=.agg [.func 17 [],.func 18 []]) (r:=(some 5)) Tryd.underlying56 (KeyT.int Tryd.underlying3) Ty.w54 (fun _ _ _=>dO (vs:=[.nilFunc,.nilFunc]) (.cons (.nilf) (.cons (.nilf) (.nil))) rfl) rfl rfl rfl (aB (ne_of_beq_false cN) (aB (ne_of_beq_false dc) (aB (ne_of_beq_false dA) (aB (ne_of_beq_false dY) (aB (ne_of_beq_false eY) (eR (eq_of_beq fI))))))) rfl (B h fun x24 iy h=>(Y 16 5 ?_)));obtain ⟨wN,hz,h⟩:=bind_some h;revert hz h;revert wN;intro c26 hz h;refine j1 [(1,.ptr 0 0),(4,.mpr 1),(5,.mpr 2),(6,iI s3),(7,iI s4),(8,.ptr 3 0),(60,sL ae p0.Nodes),(61,iI ((p0.Nodes).length:Int)),(62,iI s4),(116,.bool c26)] [.box (am p0),.mp (List.map kI (List.map Prod.fst s5)) (List.map kI (List.map Prod.snd s5)),.mp (List.map kI (List.map Prod.fst s6)) (List.map kI (List.map Prod.snd s6)),.box (ae x8)] ?_ (fun hK=>?_)
     ·refine T.ci h rfl (fun wO h=>?_) (fun wO h=>?_)
      ·refine X 5 4 ?_;replace h:=mi h cb;cases h;exact tO [(0,3,1)] [4] 4
      exact X 1 4 (sx (hK3 () h))
     refine X 6 6 (sQ (ao Ty.s28 rfl (sO (cF (cX iy) ⟨rfl,(Y 2 6 (gi 108 hz (fun wS hz=>?_) (fun wS hz=>?_)))⟩))))
     ·refine Yp 9 6 ?_;cases hz;exact wu hK [] [0,1,2,3] 6 rfl
     refine B hz fun x25 bu hz=>(Y 4 6 (yQ rfl (ao Ty.s28 rfl (yO rfl (cF (j7 bu) ⟨rfl,(Yp 3 6 ?_)⟩)))))
     cases hz;exact wu hK [] [0,1,2,3] 6 rfl
    replace h:=bn h fI;rcases aC (x8.Kind==6) with gy | gy
    ·replace h:=bq h gy;refine sO (dF (ek:=kI) (ks:=[1,2,3,4,5,7,6,8]) (vs:=[.agg [.func 19 [],.func 17 []],.agg [.func 17 [],.func 17 []],.agg [.func 17 [],.func 17 []],.agg [.func 17 [],.func 17 []],.agg [.func 17 [],.func 18 []],.agg [.func 17 [],.func 18 []],.agg [.func 18 [],.func 17 []],.agg [.func 17 [],.func 19 []]]) (k:=x8.Kind) (az:=.agg [.nilf,.nilf]) (a:=.agg [.func 18 [],.func 17 []]) (r:=(some 6)) Tryd.underlying56 (KeyT.int Tryd.underlying3) Ty.w54 (fun _ _ _=>dO (vs:=[.nilFunc,.nilFunc]) (.cons (.nilf) (.cons (.nilf) (.nil))) rfl) rfl rfl rfl (aB (ne_of_beq_false cN) (aB (ne_of_beq_false dc) (aB (ne_of_beq_false dA) (aB (ne_of_beq_false dY) (aB (ne_of_beq_false eY) (aB (ne_of_beq_false fI) (eR (eq_of_beq gy)))))))) rfl (B h fun x27 bQ h=>(Y 16 5 ?_)));obtain ⟨wT,hz,h⟩:=bind_some h;revert hz h;revert wT;intro c29 hz h;refine j1 [(1,.ptr 0 0),(4,.mpr 1),(5,.mpr 2),(6,iI s3),(7,iI s4),(8,.ptr 3 0),(60,sL ae p0.Nodes),(61,iI ((p0.Nodes).length:Int)),(62,iI s4),(116,.bool c29)] [.box (am p0),.mp (List.map kI (List.map Prod.fst s5)) (List.map kI (List.map Prod.snd s5)),.mp (List.map kI (List.map Prod.fst s6)) (List.map kI (List.map Prod.snd s6)),.box (ae x8)] ?_ (fun hK=>?_)
     ·refine T.ci h rfl (fun wU h=>?_) (fun wU h=>?_)
      ·refine X 5 4 ?_;replace h:=mi h cb;cases h;exact tO [(0,3,1)] [4] 4
      exact X 1 4 (sx (hK3 () h))
     refine X 6 6 (sQ (ao Ty.s28 rfl (sO (cF (j7 bQ) ⟨rfl,(Y 2 6 (gi 108 hz (fun wW hz=>?_) (fun wW hz=>?_)))⟩))))
     ·refine Yp 9 6 ?_;cases hz;exact wu hK [] [0,1,2,3] 6 rfl
     refine B hz fun x28 bR hz=>(Y 4 6 (yQ rfl (ao Ty.s28 rfl (yO rfl (cF (cX bR) ⟨rfl,(Yp 3 6 ?_)⟩)))))
     cases hz;exact wu hK [] [0,1,2,3] 6 rfl
    replace h:=bn h gy;rcases aC (x8.Kind==8) with im | im
    ·replace h:=bq h im;refine sO (dF (ek:=kI) (ks:=[1,2,3,4,5,7,6,8]) (vs:=[.agg [.func 19 [],.func 17 []],.agg [.func 17 [],.func 17 []],.agg [.func 17 [],.func 17 []],.agg [.func 17 [],.func 17 []],.agg [.func 17 [],.func 18 []],.agg [.func 17 [],.func 18 []],.agg [.func 18 [],.func 17 []],.agg [.func 17 [],.func 19 []]]) (k:=x8.Kind) (az:=.agg [.nilf,.nilf]) (a:=.agg [.func 17 [],.func 19 []]) (r:=(some 7)) Tryd.underlying56 (KeyT.int Tryd.underlying3) Ty.w54 (fun _ _ _=>dO (vs:=[.nilFunc,.nilFunc]) (.cons (.nilf) (.cons (.nilf) (.nil))) rfl) rfl rfl rfl (aB (ne_of_beq_false cN) (aB (ne_of_beq_false dc) (aB (ne_of_beq_false dA) (aB (ne_of_beq_false dY) (aB (ne_of_beq_false eY) (aB (ne_of_beq_false fI) (aB (ne_of_beq_false gy) (eR (eq_of_beq im))))))))) rfl (B h fun x30 bf h=>(Y 16 5 ?_)));obtain ⟨wX,hz,h⟩:=bind_some h;revert hz h;revert wX;intro c32 hz h;refine j1 [(1,.ptr 0 0),(4,.mpr 1),(5,.mpr 2),(6,iI s3),(7,iI s4),(8,.ptr 3 0),(60,sL ae p0.Nodes),(61,iI ((p0.Nodes).length:Int)),(62,iI s4),(116,.bool c32)] [.box (am p0),.mp (List.map kI (List.map Prod.fst s5)) (List.map kI (List.map Prod.snd s5)),.mp (List.map kI (List.map Prod.fst s6)) (List.map kI (List.map Prod.snd s6)),.box (ae x8)] ?_ (fun hK=>?_)
     ·refine T.ci h rfl (fun wY h=>?_) (fun wY h=>?_)
      ·refine X 5 4 ?_;replace h:=mi h cb;cases h;exact tO [(0,3,1)] [4] 4
      exact X 1 4 (sx (hK3 () h))
     refine X 6 6 (sQ (ao Ty.s28 rfl (sO (cF (cX bf) ⟨rfl,(Y 2 6 (gi 108 hz (fun wZ hz=>?_) (fun wZ hz=>?_)))⟩))))
     ·refine Yp 9 6 ?_;cases hz;exact wu hK [] [0,1,2,3] 6 rfl
     refine B hz fun x31 cg hz=>(Y 4 6 (yQ rfl (ao Ty.s28 rfl (yO rfl (cF (mq cg) ⟨rfl,(Yp 3 6 ?_)⟩)))))
     cases hz;exact wu hK [] [0,1,2,3] 6 rfl
    replace h:=bn h im;refine sO (dF (ek:=kI) (ks:=[1,2,3,4,5,7,6,8]) (vs:=[.agg [.func 19 [],.func 17 []],.agg [.func 17 [],.func 17 []],.agg [.func 17 [],.func 17 []],.agg [.func 17 [],.func 17 []],.agg [.func 17 [],.func 18 []],.agg [.func 17 [],.func 18 []],.agg [.func 18 [],.func 17 []],.agg [.func 17 [],.func 19 []]]) (k:=x8.Kind) (az:=.agg [.nilf,.nilf]) (a:=.agg [.nilf,.nilf]) (r:=none) Tryd.underlying56 (KeyT.int Tryd.underlying3) Ty.w54 (fun _ _ _=>dO (vs:=[.nilFunc,.nilFunc]) (.cons (.nilf) (.cons (.nilf) (.nil))) rfl) rfl rfl rfl (aB (ne_of_beq_false cN) (aB (ne_of_beq_false dc) (aB (ne_of_beq_false dA) (aB (ne_of_beq_false dY) (aB (ne_of_beq_false eY) (aB (ne_of_beq_false fI) (aB (ne_of_beq_false gy) (aB (ne_of_beq_false im) um)))))))) rfl (Y 19 5 ?_));replace h:=mi h cb;cases h;exact tO [(0,3,1)] [6] 6
   refine X 1 3 ?_;replace h:=mi h cb;refine X 1 3 (j1 [(1,.ptr 0 0),(4,.mpr 1),(6,iI s3),(200,.bool ((((s5).length:Int) != p0.Rings) || ((s6).length:Int) != p0.Rings))] [.box (am p0),.mp (List.map kI (List.map Prod.fst s5)) (List.map kI (List.map Prod.snd s5))] ?_ (fun hK=>?_))
   ·refine T.ci h rfl (fun w4 h=>?_) (fun w4 h=>?_)
    ·refine X 5 2 ?_;cases h;exact tO [(0,3,1)] [2] 2
    refine X 7 2 (T.ci h rfl (fun w5 h=>?_) (fun w5 h=>?_))
    ·refine X 5 2 ?_;cases h;exact tO [(0,3,1)] [2] 2
    refine X 10 2 (sQ (ao Ty.s22 rfl (Y 3 2 (itr (fun eW:Int × (List Int)=>mkA 249 [(1,.ptr 0 0),(4,.mpr 1),(23,.ref 2),(205,iI ((p0.Nodes).length:Int)),(206,iI eW.1)]) (fun eW=>[.box (am p0),.mp (List.map kI (List.map Prod.fst s5)) (List.map kI (List.map Prod.snd s5)),aR 3 1 ah eW.2]) h (wk [(23,3,1)] [0,1,2] 2 rfl) (fun eW v_533 h pL=>?_)))));obtain ⟨s45,s46⟩:=eW;replace h:dE p0 s5 s45 s46=some v_533:=h;try dsimp only
    unfold dE at h;refine X 5 3 (T.ci h rfl (fun w6 h=>?_) (fun w6 h=>?_))
    ·refine X 12 3 (sQ (ao Ty.s22 rfl (Y 4 3 (itr (fun eV:Int × Int=>mkA 249 [(1,.ptr 0 0),(4,.mpr 1),(23,.ref 2),(24,iI eV.1),(25,iI eV.2),(205,iI ((p0.Nodes).length:Int)),(206,iI s45)]) (fun eV=>[.box (am p0),.mp (List.map kI (List.map Prod.fst s5)) (List.map kI (List.map Prod.snd s5)),aR 3 1 ah s46]) h (wk [] [0,1,2] 3 rfl) (fun eV v_558 h w7=>?_)))));obtain ⟨s47,s48⟩:=eV;replace h:ee p0 s5 s45 s46 s47 s48=some v_558:=h;try dsimp only
     unfold ee at h;refine X 6 3 (T.ci h rfl (fun w8 h=>?_) (fun w8 h=>?_))
     ·refine B h fun x50 xy h=>(X 8 3 (sO (cF (mo xy) ⟨rfl,(Y 1 3 (T.ci h rfl (fun w9 h=>?_) (fun w9 h=>?_)))⟩)))
      ·exact X 6 3 (lk h (wk [] [0,1,2] 3 rfl))
      refine B h fun x52 xz h=>(X 11 3 (sQ (aP Ty.s22 (fun _=>rfl) rfl rfl xz (Y 2 3 (sQ (ao Ty.s28 rfl (Y 3 3 (itr (fun eU:Bool × Int=>mkA 249 [(1,.ptr 0 0),(4,.mpr 1),(23,.ref 2),(24,iI s47),(25,iI s48),(26,.bool eU.1),(205,iI ((p0.Nodes).length:Int)),(206,iI s45),(224,sL ah x52.In),(225,iI ((x52.In).length:Int)),(226,iI eU.2)]) (fun eU=>[.box (am p0),.mp (List.map kI (List.map Prod.fst s5)) (List.map kI (List.map Prod.snd s5)),aR 3 1 ah s46]) h (wk [] [0,1,2] 3 rfl) (fun eU v_565 h xa=>?_)))))))))
      obtain ⟨s53,s54⟩:=eU;replace h:ej s5 s46 s47 s48 x52 s53 s54=some v_565:=h;try dsimp only
      unfold ej at h;refine X 5 3 (T.ci h rfl (fun xb h=>?_) (fun xb h=>?_))
      ·refine B h fun x56 xA h=>(X 5 3 (sQ (aP Ty.s28 (fun _=>rfl) rfl rfl xA (Y 6 3 (gi 231 h (fun xc h=>?_) (fun xc h=>?_))))))
       ·exact B h fun x57 xB h=>(Y 3 3 (yO rfl (oe (ek:=kI) (ev:=kI) (xs:=s5) (k:=x56) (z0:=0) Tryd.underlying51 (KeyT.int Tryd.underlying3) Ty.w3 (fun _ _ _=>.int _ _) rfl rfl rfl (yO rfl (cF (mo xB) ⟨rfl,(Yp 7 3 (lk h (wk [] [0,1,2] 3 rfl)))⟩)))))
       exact Yp 12 3 (lk h (wk [] [0,1,2] 3 rfl))
      refine X 1 3 ?_;replace h:=mi h xa;refine X 4 3 (T.ci h rfl (fun xd h=>?_) (fun xd h=>?_))
      ·exact X 9 3 (lk h (wk [] [0,1,2] 3 rfl))
      exact X 6 3 (lk h (wk [] [0,1,2] 3 rfl))
     refine X 1 3 ?_;replace h:=mi h w7;refine X 6 3 (T.ci h rfl (fun xe h=>?_) (fun xe h=>?_))
     ·refine X 5 3 ?_;replace h:=mi h pL;cases h;exact tO [(0,3,1)] [3] 3
     exact B h fun x58 xC h=>(X 4 3 (sO (ck (rows:=List.map ah [s47]) (vs:=[iI s47]) Ty.s28 Ty.z3 rfl rfl rfl rfl rfl rfl (sO (i7 (en:=ah) (xs:=s46) (ys:=([s47]:List Int)) Ty.s28 (fun _=>rfl) rfl rfl rfl xC rfl rfl (Y 6 5 (lk h (wk [] [0,1,4] 5 rfl))))))))
    refine X 1 3 ?_;replace h:=mi h pL;refine X 6 3 ?_;cases h;exact tO [] [2] 3
   refine X 3 3 (sO (nI (ek:=kI) (ev:=kI) (xs:=s5) Tryd.underlying51 rfl rfl (Y 4 3 (gp 194 (fun lz=>?_) (fun lz=>?_)))))
   ·refine Yp 7 3 ?_;rw [lz] at hK;exact wu hK [] [0,1] 3 rfl
   refine Y 1 3 (yO rfl (nI (ek:=kI) (ev:=kI) (xs:=s6) Tryd.underlying51 rfl rfl (Yp 5 3 ?_)));rw [lz] at hK;exact wu hK [] [0,1] 3 rfl
  refine X 6 1 (gp 52 (fun dg=>?_) (fun dg=>?_))
  ·refine Yp 5 1 ?_;rw [dg] at hK;exact sx hK
  refine Yp 5 1 ?_;rw [dg] at hK;exact sx hK
 refine X 4 1 (sQ (ao Ty.s22 rfl (Y 2 1 (gp 33 (fun ak=>?_) (fun ak=>?_)))))
 ·refine Yp 16 1 ?_;rw [ak] at hK;exact sx hK
 refine Y 2 1 (yQ rfl (ao Ty.s22 rfl (Yp 3 1 (gp 39 (fun an=>?_) (fun an=>?_)))))
 ·refine Yp 10 1 ?_;rw [ak] at hK;rw [an] at hK;exact sx hK
 refine Yp 5 1 (gp 44 (fun aJ=>?_) (fun aJ=>?_))
 ·refine Yp 5 1 ?_;rw [ak] at hK;rw [an] at hK;rw [aJ] at hK;exact sx hK
 refine Yp 5 1 ?_;rw [ak] at hK;rw [an] at hK;rw [aJ] at hK;exact sx hK
theorem j8 {r:Net} (h:gP=some r):Fn Tryd.prog 21 [] (.agg (am r)):=by unfold gP at h;refine fT 0 6 Tryd.func21 Tryd.ntmps21 rfl (sO (ck (rows:=List.map ah [0]) (vs:=[iI 0]) Ty.s28 Ty.z3 rfl rfl rfl rfl rfl rfl (Y 1 2 (sO (ck (rows:=List.map ah [1]) (vs:=[iI 1]) Ty.s28 Ty.z3 rfl rfl rfl rfl rfl rfl (Y 1 3 (sO (ck (rows:=List.map ah [0,1]) (vs:=[iI 0,iI 1]) Ty.s28 Ty.z3 rfl rfl rfl rfl rfl rfl (sO (ck (rows:=List.map ah [2]) (vs:=[iI 2]) Ty.s28 Ty.z3 rfl rfl rfl rfl rfl rfl (Y 1 5 (sO (ck (rows:=List.map ah [2]) (vs:=[iI 2]) Ty.s28 Ty.z3 rfl rfl rfl rfl rfl rfl (Y 1 6 ?_))))))))))))));refine RS.fC 1 (RS.fC 2 (RS.fC 3 (RS.fC 4 (RS.fC 5 (sO (qT (rows:=List.map ae [(⟨1,0,[],[0]⟩:Node),(⟨1,1,[],[1]⟩:Node),(⟨6,0,[0,1],[2]⟩:Node),(⟨8,0,[2],[]⟩:Node)]) (vs:=[.agg [iI 1,iI 0,.nils,sL ah [0]],.agg [iI 1,iI 1,.nils,sL ah [1]],.agg [iI 6,iI 0,sL ah [0,1],sL ah [2]],.agg [iI 8,iI 0,sL ah [2],.nils]]) (vs2:=[.agg [iI 1,iI 0,sL ah [],sL ah [0]],.agg [iI 1,iI 1,sL ah [],sL ah [1]],.agg [iI 6,iI 0,sL ah [0,1],sL ah [2]],.agg [iI 8,iI 0,sL ah [2],sL ah []]]) Ty.s22 Ty.z35 rfl rfl rfl rfl rfl rfl (Y 3 7 ?_)))))));cases h;exact tD
theorem nL {p0 p1:List UInt8} {r:List (List UInt8)} (h:gl p0 p1=some r):Fn Tryd.prog 29 [.str p0,.str p1] (.sl (List.map aa r)):=t8 p0 p1 r h
theorem u4 {p0:List UInt8} {r:Int} (h:atoiW p0=some r):Fn Tryd.prog 56 [.str p0] (.tup [.int .i64 r,.nili]):=uc p0 r h
end
section
open Go.RowKit
set_option maxRecDepth 100000
set_option maxHeartbeats 4000000
theorem fnTD {P:Program} {aw:List Ob} {f:FuncId} {fn:Func} {c:Code} {args:List AV} {Q:AV->List Ob->Prop} {m:Nat} (N:Nat) (hf:P.funcs[f]?=some fn) (hm:fn.ntmps=m) (h:iniC 0 args fun l=>TD P N c (retQ P fn N Q) (mkA m l) aw)
  (hb:fn.body=some c:=by rfl) (hN:aw.length=N:=by rfl) (hname:(fn.name == "runtime.NumGoroutine")=false:=by kernel_rfl) (hl:Nat.ble args.length m=true:=by rfl):ACalls P f args aw Q :=
 tk hN hf hb hname hm hl (kY (K:=fun l=>TD P N c (retQ P fn N Q) (mkA m l) aw) h)
theorem rz (p:Value) (w:World) :
  CallsD Tryd.prog 41 #[p] .returning w fun e u' w'=>(∃ v,e=.returned v)/\u'=.returning/\w'=w:=by
 refine callsD_of_wpS Tryd.func41 rfl fun c₀ cs hu=>?_
 apply wpS_seq
 apply wpS_region
 simp [wpOpsS,go_sem,recoverD,hu,Tryd.ntmps41,Exit.thenS]
 apply wpS_seq
 apply wpS_region
 simp [wpOpsS,go_sem,Exit.thenS]
 refine wpS_cond (t:=false) (by simp [Act.eval,Array.replicate]) ?_
 simp only [xS,if_false]
 refine wpS_of_wp (wp_skip ?_)
 cases c₀
 simp_all [bodyPostS,results,Tryd.results41]
theorem idleF:IdleF Tryd.prog 41 1:=fun cvs h=>by
 match cvs,h with
 | [p],_ =>
  exact ⟨.func 41,#[p],41,#[p],rfl,fun w=>callable Tryd.func41 rfl (by kernel_rfl) _ w,fun w=>rz p w⟩
end
section
open Go.RowKit
set_option maxRecDepth 100000
set_option maxHeartbeats 4000000
set_option synthInstance.maxSize 100000
set_option synthInstance.maxHeartbeats 4000000
theorem cY {p0:List UInt8} {r:Int} (h:fh p0=some r):Fn Tryd.prog 42 [.str p0] (iI r):=by
 unfold fh at h;refine fT 0 0 Tryd.func42 Tryd.ntmps42 rfl ?_;refine B h fun x2 hx2 h=>(X 7 0 (sO (cD (u4 hx2) ⟨rfl,(Y 7 0 ?_)⟩)))
 obtain ⟨xD,hz,h⟩:=bind_some h;revert hz h;revert xD;intro c4 hz h;refine j1 [(3,iI x2),(21,.bool c4)] [] ?_ (fun hK=>?_)
 ·refine T.ci h rfl (fun aJ h=>?_) (fun aJ h=>?_)
  ·cases h
  refine X 6 0 ?_;cases h;exact tD
 refine X 3 0 (sO (ui Tryd.underlying45 rfl (Yp 5 0 (gi 16 hz (fun ak hz=>?_) (fun ak hz=>?_)))))
 ·refine Yp 6 0 ?_;cases hz;exact sx hK
 refine B hz fun x3 hx3 hz=>(Y 1 0 (yO rfl (cF (aD hx3) ⟨rfl,(Yp 4 0 ?_)⟩)))
 cases hz;exact sx hK
theorem f7 {p0:List UInt8} {r:List Int} (h:kP p0=some r):Fn Tryd.prog 43 [.str p0] (.sl (List.map ah r)):=r6 p0 r h
theorem mu {p0:Int} {p1:List UInt8} {p2 p3:Int} {p4:List Node} {r:Bool × Int × Int × (List Node)} (h:fa p0 p1 p2 p3 p4=some r):FnX Tryd.prog 30 [.ptr 0 0,iI p0,.str p1] [.box [.ref 1,iI p2,iI p3],aR 35 4 ae p4] (.bool r.1) [.box [.ref 2,iI r.2.1,iI r.2.2.1],.dead,aR 35 4 ae r.2.2.2]:=by
 unfold fa at h;refine fnTD 2 Tryd.func30 Tryd.ntmps30 ?_;refine TD.seq (T.mvB 0 0 1 (cs:=[.ref 1,iI p2,iI p3]) rfl rfl rfl rfl (cs':=[.ref 2,iI p2,iI p3]) rfl rfl (T.region (go 1 3 (RS.nil (TD.defer 1 rfl (go 1 4 (RS.nil ⟨_,_,_,rfl,rfl,idleF,(T.seq ?_)⟩)))))));obtain ⟨x2,hx2,h⟩:=bind_some h;refine T.region (go 1 4 (sO (cD (nL hx2) ⟨rfl,(go 1 4 (RS.nil (T.seq (T.seq (T.region (go 2 4 (RS.nil ?_)))))))⟩)));refine T.ci h rfl (fun ak h=>?_) (fun ak h=>?_)
 ·refine T.seq ?_;obtain ⟨mc,hz,h⟩:=bind_some h;revert hz h;revert mc;intro c4 hz h;refine T.join (Z:=Unit) (fun _=>mkA 81 [(0,.ptr 0 0),(6,.ptr 2 0),(7,sL aa x2),(23,.bool c4)]) (fun _=>[.box [.ref 3,iI p2,iI p3],.dead,.box [.bool false],aR 35 4 ae p4]) (fun _=>True) (fun _ _=>?_) (fun hK=>?_)
  ·refine T.ci h rfl (fun bg h=>?_) (fun bg h=>?_)
   ·refine T.seq (T.region (go 1 4 (RS.nil ?_)));cases h;exact tN [0,1,3]
   refine T.skip (T.seq ?_);obtain ⟨x9,hx9,h⟩:=bind_some h;obtain ⟨x10,cW,h⟩:=bind_some h;obtain ⟨x11,fK,h⟩:=bind_some h;obtain ⟨x12,d5,h⟩:=bind_some h;refine T.drawn mixed (k:=16) rfl ?_;apply RA.jn 7 (bm 16 511);intro hS5
   ·refine rq [0,1,2] 13 (r0 3 rfl (aP Ty.s36 (fun _=>rfl) rfl rfl hx9 (rq [6] 11 (r0 7 rfl (aP Ty.s36 (fun _=>rfl) rfl rfl fK (rL [4,5,9,10,11,12,13,14,15] 4 rfl (ra2 5 8 ?_ ?_)))))))
    ·exact oO rfl (cF (cY cW) ⟨rfl,(ra1 8 (og 4 ⟨rfl,(raE hS5)⟩))⟩)
    ·exact og 4 ⟨rfl,(ra1 5 (oO rfl (cF (cY cW) ⟨rfl,(raT hS5)⟩)))⟩
   refine ra1 9 (oO rfl (cF (cY d5) ⟨rfl,(rq [10,11] 4 (ra1 12 (og 4 ⟨rfl,(rq [13,14] 1 (ra1 15 (og 4 ⟨rfl,(RA.done (by decide +kernel) (T.seq ?_))⟩)))⟩)))⟩));refine T.region (go 1 4 (RS.nil ?_));cases h;exact tN [0,1,3]
  refine T.region (go 1 4 (sQ (ao Ty.s36 rfl (go 2 4 ?_))));rcases aC (((x2).length:Int) != 3) with an | an
  ·replace hz:=bq hz an;exact sN an (sN an (sN an (sN an (sQ (bl (v:=.bool true) rfl an rfl (RS.nil (T.weakR (hK () trivial) (Weak.mkN [] [0,1,3,2] (by decide) (by decide) rfl ⟨cL rfl,cL rfl,rn_s rfl,cz ((congrArg (fun p=>p) (xL hz)).symm),tqz⟩ (dQ (cs:=[.ref 3,iI p2,iI p3]) (ds:=[.ref 2,iI p2,iI p3]) rfl ⟨dy rfl,aE rfl,aE rfl,tqz⟩ (oQ rfl (rw_bs [.bool false] rfl (rw_ar rfl rfl (cC)))))))))))))
  replace hz:=bn hz an;obtain ⟨x3,hx3,hz⟩:=bind_some hz;exact yg 4 an (yQ an (aP Ty.s36 (fun _=>rfl) rfl rfl hx3 (yg 4 an (yg 4 an (sQ (bb (v:=.bool (!(x3==[114,105,110,103,115]))) rfl an rfl (RS.nil (T.weakR (hK () trivial) (Weak.mkN [] [0,1,3,2] (by decide) (by decide) rfl ⟨cL rfl,cL rfl,rn_s rfl,cz ((congrArg (fun p=>p) (xL hz)).symm),tqz⟩ (dQ (cs:=[.ref 3,iI p2,iI p3]) (ds:=[.ref 2,iI p2,iI p3]) rfl ⟨dy rfl,aE rfl,aE rfl,tqz⟩ (oQ rfl (rw_bs [.bool false] rfl (rw_ar rfl rfl (cC))))))))))))))
 refine T.skip (T.seq (T.seq (T.region (go 1 4 (sQ (ao Ty.s36 rfl (go 1 4 (RS.nil (T.ci h rfl (fun ix h=>?_) (fun ix h=>?_))))))))))
 ·refine T.seq (T.region (go 1 4 (RS.nil ?_)));cases h;exact tN [0,1,2]
 refine T.skip (T.seq (T.seq ?_));obtain ⟨x14,bJ,h⟩:=bind_some h;refine T.region (sO (cO 4 (bK bJ) ⟨rfl,(sQ (gV (en:=aa) Ty.s36 rfl rfl (go 1 5 (RS.nil (T.block (T.iter (fun e6:Int=>mkA 81 [(0,.ptr 0 0),(6,.ptr 2 0),(7,sL aa x2),(41,.ref 3),(42,iI ((x14).length:Int)),(43,iI e6)]) (fun e6=>[.box [.ref 4,iI p2,iI p3],.dead,.box [.bool false],aR 9 1 aa x14,aR 35 4 ae p4]) h (wk [] [0,1,3,4,2] 5 rfl) (fun e6 v_38 h jH=>?_)))))))⟩));revert jH h;revert e6;intro s15 h jH;replace h:iD p2 x2 p3 p4 x14 s15=some v_38:=h;try dsimp only
 unfold iD at h;refine T.seq (T.region (go 1 5 (RS.nil (T.seq (T.ci h rfl (fun xm h=>?_) (fun xm h=>?_))))))
 ·refine T.skip (T.seq (T.block (T.seq ?_)));obtain ⟨x18,dl,h⟩:=bind_some h;obtain ⟨x19,di,h⟩:=bind_some h;refine T.region (go 1 5 (sQ (ap (en:=aa) Ty.s36 rfl rfl rfl dl (sO (aK (en:=aa) (a:=x19) rfl rfl di (aH Ty.k9 (c:=.str x19) rfl (go 2 5 (RS.nil ?_))))))));obtain ⟨xn,hz,h⟩:=bind_some h;revert hz h;revert xn;intro c21 hz h;refine T.join (Z:=Unit) (fun _=>mkA 81 [(0,.ptr 0 0),(6,.ptr 2 0),(7,sL aa x2),(8,iI s15),(41,.ref 3),(42,iI ((x14).length:Int)),(43,iI s15),(56,.bool c21)]) (fun _=>[.box [.ref 4,iI p2,iI p3],.dead,.box [.bool false],aR 9 1 aa x14,aR 35 4 ae p4]) (fun _=>True) (fun _ _=>?_) (fun hK=>?_)
  ·refine T.ci h rfl (fun xo h=>?_) (fun xo h=>?_)
   ·refine T.seq ?_;obtain ⟨x29,cw,h⟩:=bind_some h;obtain ⟨x30,bf,h⟩:=bind_some h;obtain ⟨x31,cg,h⟩:=bind_some h;obtain ⟨x32,dm,h⟩:=bind_some h;obtain ⟨x33,fN,h⟩:=bind_some h;obtain ⟨x34,dC,h⟩:=bind_some h;obtain ⟨x35,fL,h⟩:=bind_some h;refine T.drawn mixed (k:=24) rfl ?_;apply RA.jn 5 (bm 24 524287);intro qo;apply RA.jn 7 (bm 24 131071);intro me;apply RA.jn 8 (bm 24 122879);intro j6;apply RA.jn 8 (bm 24 131055);intro qp;apply RA.jn 9 (bm 24 122863);intro mf;apply RA.jn 9 (bm 24 122367);intro mh;apply RA.jn 9 (bm 24 57343);intro mj;apply RA.jn 10 (bm 24 57327);intro qq;apply RA.jn 10 (bm 24 118271);intro qr;apply RA.jn 10 (bm 24 122351);intro qt;apply RA.jn 10 (bm 24 56831);intro qu
    ·refine rq [0,1,2,3,5,6] 18 (r0 7 rfl (aP Ty.s36 (fun _=>rfl) rfl rfl cw (rq [10] 16 (r0 11 rfl (aP Ty.s36 (fun _=>rfl) rfl rfl cg (rq [14] 14 (r0 15 rfl (aP Ty.s36 (fun _=>rfl) rfl rfl fN (rL [8,9,13,17,18,19,20,21,22,23] 8 rfl (ra4 4 9 12 16 ?_ ?_ ?_ ?_))))))))))
     ·refine og 5 ⟨rfl,(ra3 9 12 16 ?_ ?_ ?_)⟩
      ·exact oO rfl (cF (cY bf) ⟨rfl,(rL [12,13,17,18,19,20,21,22,23] 12 rfl (raE mj))⟩)
      ·exact og 5 ⟨rfl,(raE qu)⟩
      ·exact og 5 ⟨rfl,(raE qr)⟩
     ·exact oO rfl (cF (cY bf) ⟨rfl,(rL [12,13,17,18,19,20,21,22,23] 12 rfl (raE qq))⟩)
     ·refine og 5 ⟨rfl,(ra3 4 9 16 ?_ ?_ ?_)⟩
      ·exact og 5 ⟨rfl,(raT qu)⟩
      ·exact oO rfl (cF (cY bf) ⟨rfl,(raT qq)⟩)
      ·exact og 5 ⟨rfl,(raE qt)⟩
     ·refine og 5 ⟨rfl,(ra3 4 9 12 ?_ ?_ ?_)⟩
      ·exact og 5 ⟨rfl,(raT qr)⟩
      ·exact oO rfl (cF (cY bf) ⟨rfl,(rL [12,13,17,18,19,20,21,22,23] 12 rfl (raE mf))⟩)
      ·exact og 5 ⟨rfl,(raT qt)⟩
    ·refine ra2 9 16 ?_ ?_
     ·exact oO rfl (cF (cY bf) ⟨rfl,(raT mj)⟩)
     ·exact og 5 ⟨rfl,(raE mh)⟩
    ·refine ra2 4 9 ?_ ?_
     ·exact og 5 ⟨rfl,(raT mh)⟩
     ·exact oO rfl (cF (cY bf) ⟨rfl,(raT mf)⟩)
    ·refine ra2 9 12 ?_ ?_
     ·exact oO rfl (cF (cY bf) ⟨rfl,(ra1 12 (og 5 ⟨rfl,(raE j6)⟩))⟩)
     ·exact og 5 ⟨rfl,(raT mh)⟩
    ·refine ra3 4 13 16 ?_ ?_ ?_
     ·exact og 5 ⟨rfl,(raT mj)⟩
     ·exact oO rfl (cD (f7 dm) ⟨rfl,(rL [16,17,18,19,20,21,22,23] 16 rfl (raE qp))⟩)
     ·exact og 5 ⟨rfl,(raT mf)⟩
    ·refine ra2 13 16 ?_ ?_
     ·exact oO rfl (cD (f7 dm) ⟨rfl,(ra1 16 (og 5 ⟨rfl,(raE me)⟩))⟩)
     ·exact og 5 ⟨rfl,(raT j6)⟩
    ·exact ra1 9 (oO rfl (cF (cY bf) ⟨rfl,(raT j6)⟩))
    ·refine ra2 4 13 ?_ ?_
     ·exact og 5 ⟨rfl,(raT j6)⟩
     ·exact oO rfl (cD (f7 dm) ⟨rfl,(raT qp)⟩)
    ·refine ra2 4 17 ?_ ?_
     ·exact og 5 ⟨rfl,(raT me)⟩
     ·exact oO rfl (cD (f7 dC) ⟨rfl,(rq [18] 6 (rL [4,20,21,22,23] 4 rfl (raE qo)))⟩)
    ·exact ra1 13 (oO rfl (cD (f7 dm) ⟨rfl,(raT me)⟩))
    ·exact ra1 17 (oO rfl (cD (f7 dC) ⟨rfl,(rq [18] 5 (raT qo))⟩))
    refine ra1 19 (oO rfl (ck (rows:=List.map ae [(⟨s15,x30,x32,x34⟩:Node)]) (vs:=[.agg [iI s15,iI x30,sL ah x32,sL ah x34]]) Ty.s22 Ty.z35 rfl rfl rfl rfl rfl rfl (ra1 20 (oO rfl (i7 (en:=ae) (xs:=p4) (ys:=([(⟨s15,x30,x32,x34⟩:Node)]:List Node)) Ty.s22 (fun _=>rfl) rfl rfl rfl fL rfl rfl (rq [21,22] 1 (ra1 23 (og 7 ⟨rfl,(RA.done (by decide +kernel) (T.seq (T.region ?_)))⟩))))))));refine go 1 7 (RS.nil ?_);obtain ⟨w_54,h,hw_54⟩:=kN h;replace h:=h.trans (congrArg some (jH _ hw_54));cases h;exact tN [0,1,6]
   exact T.skip (T.region (go 2 5 (RS.nil (⟨IntKind.i64.wrap (s15+1),(xL h).symm,wk [] [0,1,2,3,4] 5 rfl⟩))))
  refine T.region (go 3 5 ?_);rcases aC (decide (s15 > 0)) with cf | cf
  ·replace hz:=bq hz cf;obtain ⟨x20,ml,hz⟩:=bind_some hz;exact yg 5 cf (yg 5 cf (yQ cf (aP Ty.s36 (fun _=>rfl) rfl rfl ml (yg 5 cf (yg 5 cf (sQ (bl (v:=.bool (x19==x20)) rfl cf rfl (RS.nil (T.sub (hK () trivial) ⟨rfl,rfl,rfl,rfl,rfl,rfl,rfl,(congrArg AV.bool ((congrArg (fun p=>p) (xL hz)).symm)).symm,tqz⟩)))))))))
  replace hz:=bn hz cf;exact sN cf (sN cf (sN cf (sN cf (sN cf (sQ (bb (v:=.bool false) rfl cf rfl (RS.nil (T.sub (hK () trivial) ⟨rfl,rfl,rfl,rfl,rfl,rfl,rfl,(congrArg AV.bool ((congrArg (fun p=>p) (xL hz)).symm)).symm,tqz⟩))))))))
 refine T.exit ?_;obtain ⟨w_55,h,hw_55⟩:=kN h;replace h:=h.trans (congrArg some (jH _ hw_55));refine T.seq (T.region (go 1 5 (RS.nil ?_)));cases h;exact tN [0,1,4]
theorem rb {p0:List UInt8} {r:Net × Int × Int} (h:gS p0=some r):Fn Tryd.prog 22 [.str p0] (.tup [.agg (am r.1),iI r.2.1,iI r.2.2]):=by
 unfold gS at h;refine fT 0 13 Tryd.func22 Tryd.ntmps22 rfl (T.ci h rfl (fun ak h=>?_) (fun ak h=>?_))
 ·refine X 7 1 ?_;cases h;exact tD
 refine B h fun x2 hx2 h=>(X 4 1 (sO (cD (nL hx2) ⟨rfl,(Y 6 1 (sQ (ao Ty.s36 rfl (Y 3 1 (nB 0 0 35 4 1 (itr (fun cV:Int × Int × Int × (List Node)=>mkA 57 [(2,.ptr 0 0),(5,sL aa x2),(16,sL aa x2),(17,iI ((x2).length:Int)),(18,iI cV.1)]) (fun cV=>[.box [.ref 1,iI cV.2.1,iI cV.2.2.1],aR 35 4 ae cV.2.2.2]) h (wk [] [0,1] 2 rfl) (fun cV v_27 h pS=>?_)))))))⟩)))
 obtain ⟨s3,s4,s5,s6⟩:=cV;replace h:cx x2 s3 s4 s5 s6=some v_27:=h;try dsimp only
 unfold cx at h;refine X 5 2 (T.ci h rfl (fun xp h=>?_) (fun xp h=>?_))
 ·refine B h fun x8 hx8 h=>(X 6 2 (sQ (aP Ty.s36 (fun _=>rfl) rfl rfl hx8 (Y 8 2 (sQ (ao Ty.s36 rfl (Y 4 2 ?_)))))))
  obtain ⟨lB,hz,h⟩:=bind_some h;obtain ⟨c11,c12,c13,c14⟩:=lB;refine j1 [(2,.ptr 0 0),(5,sL aa x2),(6,iI s3),(16,sL aa x2),(17,iI ((x2).length:Int)),(18,iI s3),(46,.bool c11)] [.box [.ref 1,iI c12,iI c13],aR 35 4 ae c14] ?_ (fun hK=>?_)
  ·refine T.ci h rfl (fun xq h=>?_) (fun xq h=>?_)
   ·refine X 8 2 ?_;replace h:=mi h pS;cases h;exact tD
   exact X 5 2 (lk h (wk [] [0,1] 2 rfl))
  refine X 4 2 ?_;rcases aC (s3==(IntKind.i64.wrap (((x2).length:Int) - 1))) with cv | cv
  ·replace hz:=bq hz cv;refine yg 2 cv (yg 2 cv (yg 2 cv ?_));rcases aC (!(x8==[])) with fJ | fJ
   ·replace hz:=bq hz fJ;exact gT 32 fJ (Y 2 2 (gT 29 cv (Yp 13 2 (T.weakR hK (Weak.mkN [] [0,1] (by decide) (cZ _) rfl ⟨cL rfl,rn_s rfl,aE rfl,rn_s rfl,aE rfl,aE rfl,cz ((congrArg (fun p=>p.1) (xL hz)).symm),tqz⟩ (dQ (cs:=[.ref 1,iI c12,iI c13]) (ds:=[.ref 1,iI s4,iI s5]) rfl ⟨dy rfl,aE ((congrArg (fun p=>p.2.1) (xL hz)).symm),aE ((congrArg (fun p=>p.2.2.1) (xL hz)).symm),tqz⟩ (rw_ar rfl ((congrArg (fun p=>p.2.2.2) (xL hz)).symm) (cC))))))))
   replace hz:=bn hz fJ;refine yg 2 fJ (yg 2 fJ (yQ cv (bb (v:=.bool (s3==0)) rfl fJ rfl (sQ (bl (v:=.bool (s3==0)) rfl cv rfl (Y 1 2 ?_))))));rcases aC (s3==0) with dZ | dZ
   ·replace hz:=bq hz dZ;exact gT 37 dZ (Yp 10 2 (T.weakR hK (Weak.mkN [] [0,1] (by decide) (cZ _) rfl ⟨cL rfl,rn_s rfl,aE rfl,rn_s rfl,aE rfl,aE rfl,cz ((congrArg (fun p=>p.1) (xL hz)).symm),tqz⟩ (dQ (cs:=[.ref 1,iI c12,iI c13]) (ds:=[.ref 1,iI s4,iI s5]) rfl ⟨dy rfl,aE ((congrArg (fun p=>p.2.1) (xL hz)).symm),aE ((congrArg (fun p=>p.2.2.1) (xL hz)).symm),tqz⟩ (rw_ar rfl ((congrArg (fun p=>p.2.2.2) (xL hz)).symm) (cC))))))
   replace hz:=bn hz dZ;refine yg 2 dZ (yg 2 dZ (yg 2 dZ ?_));rcases aC (!(s3==(IntKind.i64.wrap (((x2).length:Int) - 1)))) with ir | ir
   ·replace hz:=bq hz ir;exact B hz fun x9 hx9 hz=>(gT 40 ir (Y 2 2 (yO rfl (cG [0,1] 2 3 (mu hx9) ⟨rfl,(Y 1 3 (gF 37 dZ (Yp 3 3 (T.weakR hK (Weak.mkN [] [0,2] (by decide) (cZ _) rfl ⟨cL rfl,rn_s rfl,aE rfl,rn_s rfl,aE rfl,aE rfl,cz ((congrArg (fun p=>p.1) (xL hz)).symm),tqz⟩ (dQ (cs:=[.ref 1,iI c12,iI c13]) (ds:=[.ref 2,iI x9.2.1,iI x9.2.2.1]) rfl ⟨dy rfl,aE ((congrArg (fun p=>p.2.1) (xL hz)).symm),aE ((congrArg (fun p=>p.2.2.1) (xL hz)).symm),tqz⟩ (rw_ar rfl ((congrArg (fun p=>p.2.2.2) (xL hz)).symm) (cC))))))))⟩))))
   replace hz:=bn hz ir;exact gF 40 ir (Y 4 2 (gF 37 dZ (Yp 3 2 (T.weakR hK (Weak.mkN [] [0,1] (by decide) (cZ _) rfl ⟨cL rfl,rn_s rfl,aE rfl,rn_s rfl,aE rfl,aE rfl,cz ((congrArg (fun p=>p.1) (xL hz)).symm),tqz⟩ (dQ (cs:=[.ref 1,iI c12,iI c13]) (ds:=[.ref 1,iI s4,iI s5]) rfl ⟨dy rfl,aE ((congrArg (fun p=>p.2.1) (xL hz)).symm),aE ((congrArg (fun p=>p.2.2.1) (xL hz)).symm),tqz⟩ (rw_ar rfl ((congrArg (fun p=>p.2.2.2) (xL hz)).symm) (cC))))))))
  replace hz:=bn hz cv;refine sN cv (sN cv (sN cv (sU (sU (sN cv (sQ (bb (v:=.bool false) rfl cv rfl (Y 1 2 (yg 2 rfl (yg 2 rfl ?_))))))))));refine yg 2 rfl ?_;rcases aC (!(s3==(IntKind.i64.wrap (((x2).length:Int) - 1)))) with iu | iu
  ·replace hz:=bq hz iu;exact B hz fun x10 cW hz=>(gT 40 iu (Y 2 2 (yO rfl (cG [0,1] 2 3 (mu cW) ⟨rfl,(Yp 4 3 (T.weakR hK (Weak.mkN [] [0,2] (by decide) (cZ _) rfl ⟨cL rfl,rn_s rfl,aE rfl,rn_s rfl,aE rfl,aE rfl,cz ((congrArg (fun p=>p.1) (xL hz)).symm),tqz⟩ (dQ (cs:=[.ref 1,iI c12,iI c13]) (ds:=[.ref 2,iI x10.2.1,iI x10.2.2.1]) rfl ⟨dy rfl,aE ((congrArg (fun p=>p.2.1) (xL hz)).symm),aE ((congrArg (fun p=>p.2.2.1) (xL hz)).symm),tqz⟩ (rw_ar rfl ((congrArg (fun p=>p.2.2.2) (xL hz)).symm) (cC))))))⟩))))
  replace hz:=bn hz iu;exact gF 40 iu (Yp 7 2 (T.weakR hK (Weak.mkN [] [0,1] (by decide) (cZ _) rfl ⟨cL rfl,rn_s rfl,aE rfl,rn_s rfl,aE rfl,aE rfl,cz ((congrArg (fun p=>p.1) (xL hz)).symm),tqz⟩ (dQ (cs:=[.ref 1,iI c12,iI c13]) (ds:=[.ref 1,iI s4,iI s5]) rfl ⟨dy rfl,aE ((congrArg (fun p=>p.2.1) (xL hz)).symm),aE ((congrArg (fun p=>p.2.2.1) (xL hz)).symm),tqz⟩ (rw_ar rfl ((congrArg (fun p=>p.2.2.2) (xL hz)).symm) (cC))))))
 refine X 1 2 ?_;replace h:=mi h pS;refine B h fun x16 bC h=>(X 4 2 (sO (cF (mU bC) ⟨rfl,(Y 7 2 (T.ci h rfl (fun xr h=>?_) (fun xr h=>?_)))⟩)))
 ·refine X 8 2 ?_;cases h;exact tD
 refine X 8 2 ?_;cases h;exact tD
theorem mt {p0 p1:List Int} {r:Bool} (h:e9 p0 p1=some r):Fn Tryd.prog 33 [sL ah p0,sL ah p1] (.bool r):=by
 unfold e9 at h;refine fT 0 8 Tryd.func33 Tryd.ntmps33 rfl (sQ (ao Ty.s28 rfl (Y 1 0 (sQ (ao Ty.s28 rfl (Y 2 0 (T.ci h rfl (fun ak h=>?_) (fun ak h=>?_))))))))
 ·refine X 4 0 ?_;cases h;exact tD
 refine X 5 0 (sQ (ao Ty.s28 rfl (Y 3 0 (itr (fun cH:Int=>mkA 26 [(0,sL ah p0),(1,sL ah p1),(12,iI ((p0).length:Int)),(13,iI cH)]) (fun cH=>[]) h (wk [] [] 0 rfl) (fun cH v_7 h d6=>?_)))));revert d6 h;revert cH;intro s1 h d6;replace h:gH p0 p1 s1=some v_7:=h;try dsimp only
 unfold gH at h;refine X 5 0 (T.ci h rfl (fun dh h=>?_) (fun dh h=>?_))
 ·refine B h fun x4 hx4 h=>(B h fun x5 hx5 h=>(X 9 0 (T.drawn mixed (k:=9) rfl (rq [0,1] 7 (r0 2 rfl (aP Ty.s28 (fun _=>rfl) rfl rfl hx4 (rq [4,5] 4 (r0 6 rfl (aP Ty.s28 (fun _=>rfl) rfl rfl hx5 (rL [3,8] 3 rfl (ra1 7 ?_)))))))))))
  refine og 0 ⟨rfl,(rq [8] 0 (RA.done (by decide +kernel) (T.ci h rfl (fun iw h=>?_) (fun iw h=>?_))))⟩
  ·refine X 4 0 ?_;replace h:=mi h d6;cases h;exact tD
  exact X 5 0 (lk h (wk [] [] 0 rfl))
 refine X 1 0 ?_;replace h:=mi h d6;refine X 4 0 ?_;cases h;exact tD
theorem qA {p0 p1:Node} {r:Bool} (h:gM p0 p1=some r):Fn Tryd.prog 32 [.agg (ae p0),.agg (ae p1)] (.bool r):=by
 unfold gM at h;refine fT 0 6 Tryd.func32 Tryd.ntmps32 rfl ?_;obtain ⟨xE,hz,h⟩:=bind_some h;revert hz h;revert xE;intro c3 hz h;refine j1 [(4,.bool c3)] [] ?_ (fun hK=>?_)
 ·cases h;exact tD
 refine X 8 2 (gi 10 hz (fun ak hz=>?_) (fun ak hz=>?_))
 ·refine Yp 7 2 (gi 17 hz (fun an hz=>?_) (fun an hz=>?_))
  ·refine B hz fun x1 hx1 hz=>(Y 4 2 (yO rfl (cF (mt hx1) ⟨rfl,(Yp 2 2 (gi 24 hz (fun aJ hz=>?_) (fun aJ hz=>?_)))⟩)))
   ·refine B hz fun x2 hx2 hz=>(Y 4 2 (yO rfl (cF (mt hx2) ⟨rfl,(Yp 3 2 ?_)⟩)))
    cases hz;exact wu hK [] [] 2 rfl
   refine Yp 8 2 ?_;cases hz;exact wu hK [] [] 2 rfl
  refine Yp 15 2 ?_;cases hz;exact wu hK [] [] 2 rfl
 refine Yp 22 2 ?_;cases hz;exact wu hK [] [] 2 rfl
theorem qw {p0 p1:List Node} {r:Bool} (h:iA p0 p1=some r):Fn Tryd.prog 31 [sL ae p0,sL ae p1,.func 32 []] (.bool r):=by
 unfold iA at h;refine fT 0 8 Tryd.func31 Tryd.ntmps31 rfl (sQ (ao Ty.s22 rfl (Y 1 0 (sQ (ao Ty.s22 rfl (Y 2 0 (T.ci h rfl (fun ak h=>?_) (fun ak h=>?_))))))))
 ·refine X 4 0 ?_;cases h;exact tD
 refine X 5 0 (sQ (ao Ty.s22 rfl (Y 3 0 (itr (fun cH:Int=>mkA 32 [(1,sL ae p1),(2,.func 32 []),(15,sL ae p0),(16,iI ((p0).length:Int)),(17,iI cH)]) (fun cH=>[]) h (wk [] [] 0 rfl) (fun cH v_7 h d6=>?_)))));revert d6 h;revert cH;intro s1 h d6;replace h:d7 p0 p1 s1=some v_7:=h;try dsimp only
 unfold d7 at h;refine X 5 0 (T.ci h rfl (fun dh h=>?_) (fun dh h=>?_))
 ·refine B h fun x3 hx3 h=>(X 6 0 (sQ (aP Ty.s22 (fun _=>rfl) rfl rfl hx3 (B h fun x5 hx5 h=>(Y 9 0 (sQ (aP Ty.s22 (fun _=>rfl) rfl rfl hx5 (B h fun x7 hx7 h=>(Y 9 1 (sO (cF (qA hx7) ⟨rfl,(Y 2 2 ?_)⟩)))))))))))
  refine T.ci h rfl (fun iw h=>?_) (fun iw h=>?_)
  ·refine X 4 2 ?_;replace h:=mi h d6;cases h;exact tD
  exact X 5 2 (lk h (wk [] [] 2 rfl))
 refine X 1 0 ?_;replace h:=mi h d6;refine X 4 0 ?_;cases h;exact tD
theorem qJ {p0 p1:Net} {r:Bool} (h:fW p0 p1=some r):Fn Tryd.prog 23 [.agg (am p0),.agg (am p1)] (.bool r):=by
 unfold fW at h;refine fT 0 6 Tryd.func23 Tryd.ntmps23 rfl ?_;obtain ⟨mc,hz,h⟩:=bind_some h;revert hz h;revert mc;intro c2 hz h;refine j1 [(4,.bool c2)] [] ?_ (fun hK=>?_)
 ·cases h;exact tD
 refine X 8 2 (gi 10 hz (fun ak hz=>?_) (fun ak hz=>?_))
 ·refine Yp 7 2 (gi 17 hz (fun an hz=>?_) (fun an hz=>?_))
  ·refine B hz fun x1 hx1 hz=>(Y 4 2 (yO rfl (cF (qw hx1) ⟨rfl,(Yp 3 2 ?_)⟩)))
   cases hz;exact wu hK [] [] 2 rfl
  refine Yp 8 2 ?_;cases hz;exact wu hK [] [] 2 rfl
 refine Yp 15 2 ?_;cases hz;exact wu hK [] [] 2 rfl
theorem my {r:Bool} (h:ep=some r):Fn Tryd.prog 6 [] (.bool r):=by
 unfold ep at h;refine fT 0 0 Tryd.func6 Tryd.ntmps6 rfl ?_;refine B h fun x3 hx3 h=>(B h fun x4 hx4 h=>(X 6 0 (sO (cD (j8 hx3) ⟨rfl,(sO (cF (mG hx4) ⟨rfl,(B h fun x6 hx6 h=>(Y 9 0 (sO (cD (rb hx6) ⟨rfl,(Y 9 0 ?_)⟩))))⟩))⟩))))
 obtain ⟨xF,hz,h⟩:=bind_some h;revert hz h;revert xF;intro c9 hz h;refine j1 [(0,.bool c9)] [] ?_ (fun hK=>?_)
 ·cases h;exact tD
 refine X 1 1 ?_;rcases aC (x4.2==0) with ak | ak
 ·replace hz:=bq hz ak;rcases aC (x6.2.2==0) with an | an
  ·replace hz:=bq hz an;rcases aC (x6.2.1==0) with aJ | aJ
   ·replace hz:=bq hz aJ;rcases aC (x4.1==[114,105,110,103,115,32,51,32,49,10,115,111,117,114,99,101,32,48,32,45,32,48,10,115,111,117,114,99,101,32,49,32,45,32,49,10,109,101,114,103,101,32,48,32,48,44,49,32,50,10,115,105,110,107,32,48,32,50,32,45,10]) with bg | bg
    ·replace hz:=bq hz bg;refine B hz fun x7 hx7 hz=>(B hz fun x8 hx8 hz=>(T.drawn mixed (k:=20) rfl ?_))
     apply RA.jn 3 (bm 20 131071);intro hS6
     ·refine rq [0,1,2] 17 (ry 3 ak rfl (ry 4 ak rfl (r0 5 rfl (bl (v:=.bool (x6.2.2==0)) rfl ak rfl (rq [6] 13 (ry 7 an rfl (ry 8 an rfl (r0 9 rfl (bl (v:=.bool (x6.2.1==0)) rfl an rfl (rq [10] 9 (ry 11 aJ rfl ?_)))))))))));refine ry 12 aJ rfl (r0 13 rfl (bl (v:=.bool (x4.1==[114,105,110,103,115,32,51,32,49,10,115,111,117,114,99,101,32,48,32,45,32,48,10,115,111,117,114,99,101,32,49,32,45,32,49,10,109,101,114,103,101,32,48,32,48,44,49,32,50,10,115,105,110,107,32,48,32,50,32,45,10])) rfl aJ rfl (rq [14] 5 (ra2 15 16 ?_ ?_))))
      ·exact oy 1 bg rfl (ra1 16 (oP rfl bg (cD (j8 hx7) ⟨rfl,(raE hS6)⟩)))
      ·exact oP rfl bg (cD (j8 hx7) ⟨rfl,(ra1 15 (oy 1 bg rfl (raT hS6)))⟩)
     exact ra1 17 (oP rfl bg (cF (qJ hx8) ⟨rfl,(r0 18 rfl (bl (v:=.bool x8) rfl bg rfl (rq [19] 0 (RA.done (by decide +kernel) (T.weakR hK (Weak.mkN [] [] (by decide) (cZ _) rfl ⟨cz ((congrArg (fun p=>p) (xL hz)).symm),tqz⟩ (cC)))))))⟩))
    replace hz:=bn hz bg;refine T.drawn mixed (k:=20) rfl (rq [0,1,2] 17 (ry 3 ak rfl (ry 4 ak rfl (r0 5 rfl (bl (v:=.bool (x6.2.2==0)) rfl ak rfl (rq [6] 13 (ry 7 an rfl (ry 8 an rfl (r0 9 rfl (bl (v:=.bool (x6.2.1==0)) rfl an rfl (rq [10] 9 ?_)))))))))));refine ry 11 aJ rfl (ry 12 aJ rfl (r0 13 rfl (bl (v:=.bool (x4.1==[114,105,110,103,115,32,51,32,49,10,115,111,117,114,99,101,32,48,32,45,32,48,10,115,111,117,114,99,101,32,49,32,45,32,49,10,109,101,114,103,101,32,48,32,48,44,49,32,50,10,115,105,110,107,32,48,32,50,32,45,10])) rfl aJ rfl (rq [14] 5 (r2 15 rfl bg (r2 16 rfl bg (r2 17 rfl bg (r0 18 rfl (bb (v:=.bool false) rfl bg rfl (rq [19] 0 (RA.done (by decide +kernel) ?_)))))))))));exact T.weakR hK (Weak.mkN [] [] (by decide) (cZ _) rfl ⟨cz ((congrArg (fun p=>p) (xL hz)).symm),tqz⟩ (cC))
   replace hz:=bn hz aJ;refine T.drawn mixed (k:=20) rfl (rq [0,1,2] 17 (ry 3 ak rfl (ry 4 ak rfl (r0 5 rfl (bl (v:=.bool (x6.2.2==0)) rfl ak rfl (rq [6] 13 (ry 7 an rfl (ry 8 an rfl (r0 9 rfl (bl (v:=.bool (x6.2.1==0)) rfl an rfl (rq [10] 9 ?_)))))))))));exact r2 11 rfl aJ (r2 12 rfl aJ (r0 13 rfl (bb (v:=.bool false) rfl aJ rfl (rq [14] 5 (r2 15 rfl rfl (r2 16 rfl rfl (r2 17 rfl rfl (r0 18 rfl (bb (v:=.bool false) rfl rfl rfl (rq [19] 0 (RA.done (by decide +kernel) (T.weakR hK (Weak.mkN [] [] (by decide) (cZ _) rfl ⟨cz ((congrArg (fun p=>p) (xL hz)).symm),tqz⟩ (cC))))))))))))))
  replace hz:=bn hz an;refine T.drawn mixed (k:=20) rfl (rq [0,1,2] 17 (ry 3 ak rfl (ry 4 ak rfl (r0 5 rfl (bl (v:=.bool (x6.2.2==0)) rfl ak rfl (rq [6] 13 (r2 7 rfl an (r2 8 rfl an (r0 9 rfl (bb (v:=.bool false) rfl an rfl (rq [10] 9 ?_)))))))))));exact r2 11 rfl rfl (r2 12 rfl rfl (r0 13 rfl (bb (v:=.bool false) rfl rfl rfl (rq [14] 5 (r2 15 rfl rfl (r2 16 rfl rfl (r2 17 rfl rfl (r0 18 rfl (bb (v:=.bool false) rfl rfl rfl (rq [19] 0 (RA.done (by decide +kernel) (T.weakR hK (Weak.mkN [] [] (by decide) (cZ _) rfl ⟨cz ((congrArg (fun p=>p) (xL hz)).symm),tqz⟩ (cC))))))))))))))
 replace hz:=bn hz ak;refine T.drawn mixed (k:=20) rfl (rq [0,1,2] 17 (r2 3 rfl ak (r2 4 rfl ak (r0 5 rfl (bb (v:=.bool false) rfl ak rfl (rq [6] 13 (r2 7 rfl rfl (r2 8 rfl rfl (r0 9 rfl (bb (v:=.bool false) rfl rfl rfl (rq [10] 9 ?_)))))))))));exact r2 11 rfl rfl (r2 12 rfl rfl (r0 13 rfl (bb (v:=.bool false) rfl rfl rfl (rq [14] 5 (r2 15 rfl rfl (r2 16 rfl rfl (r2 17 rfl rfl (r0 18 rfl (bb (v:=.bool false) rfl rfl rfl (rq [19] 0 (RA.done (by decide +kernel) (T.weakR hK (Weak.mkN [] [] (by decide) (cZ _) rfl ⟨cz ((congrArg (fun p=>p) (xL hz)).symm),tqz⟩ (cC))))))))))))))
theorem bS {r:List (List UInt8)} (h:iG=some r):FnO Tryd.prog 9 [] (.ref 0) [aR 9 1 aa r]:=by unfold iG at h;refine fT 0 6 Tryd.func9 Tryd.ntmps9 rfl (sO (ck (rows:=List.map aa [[115,111,117,114,99,101],[109,97,112],[115,99,97,110],[99,111,117,110,116],[116,101,101],[109,101,114,103,101],[115,112,108,105,116],[115,105,110,107]]) (vs:=[.str [115,111,117,114,99,101],.str [109,97,112],.str [115,99,97,110],.str [99,111,117,110,116],.str [116,101,101],.str [109,101,114,103,101],.str [115,112,108,105,116],.str [115,105,110,107]]) Ty.s36 Ty.z9 rfl rfl rfl rfl rfl rfl (Y 2 1 ?_)));cases h;exact tO [] [0] 1
theorem dD {p0:List Int} {r:List UInt8} (h:gG p0=some r):Fn Tryd.prog 7 [sL ah p0] (.str r):=by
 unfold gG at h;refine fT 0 12 Tryd.func7 Tryd.ntmps7 rfl (sQ (ao Ty.s28 rfl (Y 3 0 (itr (fun aY:(List UInt8) × Int=>mkA 25 [(3,.str aY.1),(6,sL ah p0),(7,iI ((p0).length:Int)),(8,iI aY.2)]) (fun aY=>[]) h (wk [] [] 0 rfl) (fun aY v_6 h dj=>?_)))));obtain ⟨s1,s2⟩:=aY;replace h:d8 p0 s1 s2=some v_6:=h;try dsimp only
 unfold d8 at h;refine X 5 0 (T.ci h rfl (fun fM h=>?_) (fun fM h=>?_))
 ·refine B h fun x4 hx4 h=>(X 6 0 (sQ (aP Ty.s28 (fun _=>rfl) rfl rfl hx4 (Y 10 0 (T.ci h rfl (fun dh h=>?_) (fun dh h=>?_))))))
  ·exact B h fun x5 hx5 h=>(X 2 0 (sQ (aj rfl rfl hx5 (B h fun x6 hx6 h=>(B h fun x7 hx7 h=>(Y 5 0 (sO (cF (aD hx6) ⟨rfl,(sQ (aj rfl rfl hx7 (Y 6 0 (lk h (wk [] [] 0 rfl)))))⟩))))))))
  exact B h fun x8 hx8 h=>(B h fun x9 hx9 h=>(X 4 0 (sO (cF (aD hx8) ⟨rfl,(sQ (aj rfl rfl hx9 (Y 6 0 (lk h (wk [] [] 0 rfl)))))⟩))))
 refine X 1 0 ?_;replace h:=mi h dj;refine X 6 0 (T.ci h rfl (fun ip h=>?_) (fun ip h=>?_))
 ·refine X 4 0 ?_;cases h;exact tD
 refine X 6 0 ?_;cases h;exact tD
theorem qE {p0:Net} {r:Bool} (h:gK p0=some r):Fn Tryd.prog 3 [.agg (am p0)] (.bool r):=by
 unfold gK at h;refine fT 0 0 Tryd.func3 Tryd.ntmps3 rfl ?_;refine B h fun x2 hx2 h=>(X 8 0 (sO (cF (mG hx2) ⟨rfl,(B h fun x4 hx4 h=>(Y 10 1 (sO (cO 1 (qF hx4) ⟨rfl,(B h fun x5 hx5 h=>(Y 6 2 (j1 [(1,.ptr 0 0),(3,.str x2.1),(4,iI x2.2),(6,iI x4.2),(26,.bool ((!x5) || x4.2 != 0))] [.box (am p0)] ?_ (fun hK=>?_))))⟩))))⟩)))
 ·refine T.ci h rfl (fun an h=>?_) (fun an h=>?_)
  ·refine B h fun x7 hx7 h=>(j1 [(2,.bool (x7 && ((x2.2==x4.2) && x2.1==[])))] [] ?_ (fun hK=>?_))
   ·cases h;exact tD
   refine X 2 1 (sO (cF (my hx7) ⟨rfl,(Y 1 1 (gp 28 (fun aJ=>?_) (fun aJ=>?_)))⟩))
   ·refine Yp 5 1 (gp 33 (fun bg=>?_) (fun bg=>?_))
    ·refine Yp 5 1 ?_;rw [aJ] at hK;rw [bg] at hK;exact wu hK [] [] 1 rfl
    refine Yp 5 1 ?_;rw [aJ] at hK;rw [bg] at hK;exact wu hK [] [] 1 rfl
   refine Yp 10 1 ?_;rw [aJ] at hK;exact wu hK [] [] 1 rfl
  refine B h fun x15 cI h=>(B h fun x16 bC h=>(B h fun x17 dk h=>(B h fun x18 dl h=>(B h fun x19 di h=>(B h fun x20 ml h=>(X 6 1 (T.drawn mixed (k:=11) rfl ?_)))))))
  apply RA.jn 4 (bm 11 127);intro hS5
  ·refine rq [0,5] 9 (rL [1,2,3,4,7,8,9,10] 1 rfl (ra2 2 6 ?_ ?_))
   ·exact oO rfl (cF (aD cI) ⟨rfl,(r0 3 rfl (aj rfl rfl bC (r0 4 rfl (aj rfl rfl dk (ra1 6 (og 1 ⟨rfl,(raE hS5)⟩))))))⟩)
   ·exact og 1 ⟨rfl,(ra1 2 (oO rfl (cF (aD cI) ⟨rfl,(r0 3 rfl (aj rfl rfl bC (r0 4 rfl (aj rfl rfl dk (raT hS5)))))⟩)))⟩
  refine ra1 7 (oO rfl (cF (aD dl) ⟨rfl,(r0 8 rfl (aj rfl rfl di (r0 9 rfl (aj rfl rfl ml (rq [10] 0 (RA.done (by decide +kernel) (X 5 1 (sQ (ao Ty.s22 rfl (Y 3 1 (itr (fun bH:(List UInt8) × Int=>mkA 88 [(3,.str x2.1),(4,iI x2.2),(7,.func 7 []),(8,.str bH.1),(48,sL ae p0.Nodes),(49,iI ((p0.Nodes).length:Int)),(50,iI bH.2)]) (fun bH=>[]) h (wk [] [] 1 rfl) (fun bH v_103 h gw=>?_))))))))))))⟩));obtain ⟨s21,s22⟩:=bH;replace h:ed p0 x2 s21 s22=some v_103:=h;try dsimp only
  unfold ed at h;refine X 5 0 (T.ci h rfl (fun lq h=>?_) (fun lq h=>?_))
  ·refine B h fun x24 iy h=>(X 5 0 (sQ (aP Ty.s22 (fun _=>rfl) rfl rfl iy (B h fun x25 bu h=>(B h fun x26 aZ h=>(B h fun x27 bQ h=>(B h fun x28 bR h=>(B h fun x29 cw h=>(B h fun x30 bf h=>(B h fun x31 cg h=>?_))))))))))
   refine B h fun x32 dm h=>(B h fun x33 fN h=>(B h fun x34 dC h=>(B h fun x35 fL h=>(B h fun x36 jT h=>(B h fun x37 gE h=>(B h fun x38 qv h=>(Y 4 0 (T.drawn mixed (k:=27) rfl ?_))))))))
   apply RA.jn 0 (bm 27 134217727);intro iq;apply RA.jn 5 (bm 27 4194303);intro gB;apply RA.jn 6 (bm 27 2097151);intro pT;apply RA.jn 8 (bm 27 3735551);intro jI;apply RA.jn 9 (bm 27 3702783);intro pU;apply RA.jn 9 (bm 27 1638399);intro jJ;apply RA.jn 10 (bm 27 7989055);intro pV;apply RA.jn 11 (bm 27 3728383);intro jK;apply RA.jn 11 (bm 27 3794751);intro lC;apply RA.jn 12 (bm 27 3729215);intro jM;apply RA.jn 12 (bm 27 3695615);intro lD;apply RA.jn 12 (bm 27 1631231);intro lE;apply RA.jn 12 (bm 27 1697599);intro pW;apply RA.jn 13 (bm 27 3728191);intro iv;apply RA.jn 13 (bm 27 3696447);intro lF;apply RA.jn 13 (bm 27 1632063);intro lG;apply RA.jn 13 (bm 27 1598463);intro pX;apply RA.jn 14 (bm 27 3794695);intro pY;apply RA.jn 14 (bm 27 3727679);intro jN;apply RA.jn 14 (bm 27 3695423);intro jO;apply RA.jn 14 (bm 27 1631039);intro jP;apply RA.jn 14 (bm 27 1599295);intro pZ;apply RA.jn 15 (bm 27 3728157);intro jQ;apply RA.jn 15 (bm 27 3729159);intro lH;apply RA.jn 15 (bm 27 3694911);intro lI;apply RA.jn 15 (bm 27 1630527);intro lJ;apply RA.jn 15 (bm 27 1598271);intro lK;apply RA.jn 16 (bm 27 3727645);intro lL;apply RA.jn 16 (bm 27 3728135);intro jS;apply RA.jn 16 (bm 27 3695389);intro lM;apply RA.jn 16 (bm 27 3696391);intro p5;apply RA.jn 16 (bm 27 1631005);intro lN;apply RA.jn 16 (bm 27 1632007);intro p6;apply RA.jn 16 (bm 27 1597759);intro p7;apply RA.jn 17 (bm 27 3694877);intro p8;apply RA.jn 17 (bm 27 3727623);intro lO;apply RA.jn 17 (bm 27 3728133);intro lP;apply RA.jn 17 (bm 27 3695367);intro lQ;apply RA.jn 17 (bm 27 1630493);intro p9;apply RA.jn 17 (bm 27 1630983);intro lR;apply RA.jn 17 (bm 27 1598237);intro qa;apply RA.jn 18 (bm 27 3694855);intro qb;apply RA.jn 18 (bm 27 3695365);intro qc;apply RA.jn 18 (bm 27 3727621);intro qd;apply RA.jn 18 (bm 27 1630471);intro qe;apply RA.jn 18 (bm 27 1630981);intro qf;apply RA.jn 18 (bm 27 1598215);intro qg
   ·refine rq [0,2,8,13,14,19,20] 20 (ra5 1 3 9 15 21 ?_ ?_ ?_ ?_ ?_)
    ·refine oO rfl (cO 1 (bS bu) ⟨rfl,(ra4 3 9 15 21 ?_ ?_ ?_ ?_)⟩)
     ·exact og 2 ⟨rfl,(rq [4] 17 (r0 5 rfl (ap (en:=aa) Ty.s36 rfl rfl rfl aZ (raE p7))))⟩
     ·exact og 2 ⟨rfl,(raE qg)⟩
     ·exact og 2 ⟨rfl,(raE qe)⟩
     ·exact og 2 ⟨rfl,(raE qb)⟩
    ·refine og 1 ⟨rfl,(rq [4] 18 (ra4 1 9 15 21 ?_ ?_ ?_ ?_))⟩
     ·exact oO rfl (cO 1 (bS bu) ⟨rfl,(r0 5 rfl (ap (en:=aa) Ty.s36 rfl rfl rfl aZ (raT p7)))⟩)
     ·exact og 1 ⟨rfl,(raE qa)⟩
     ·exact og 1 ⟨rfl,(raE p9)⟩
     ·exact og 1 ⟨rfl,(raE p8)⟩
    ·refine og 1 ⟨rfl,(ra4 1 3 15 21 ?_ ?_ ?_ ?_)⟩
     ·exact oO rfl (cO 1 (bS bu) ⟨rfl,(raT qg)⟩)
     ·exact og 1 ⟨rfl,(rq [4] 17 (raT qa))⟩
     ·exact og 1 ⟨rfl,(raE qf)⟩
     ·exact og 1 ⟨rfl,(raE qc)⟩
    ·refine og 1 ⟨rfl,(ra4 1 3 9 21 ?_ ?_ ?_ ?_)⟩
     ·exact oO rfl (cO 1 (bS bu) ⟨rfl,(raT qe)⟩)
     ·exact og 1 ⟨rfl,(rq [4] 17 (raT p9))⟩
     ·exact og 1 ⟨rfl,(raT qf)⟩
     ·exact og 1 ⟨rfl,(raE qd)⟩
    ·refine og 1 ⟨rfl,(ra4 1 3 9 15 ?_ ?_ ?_ ?_)⟩
     ·exact oO rfl (cO 1 (bS bu) ⟨rfl,(raT qb)⟩)
     ·exact og 1 ⟨rfl,(rq [4] 17 (raT p8))⟩
     ·exact og 1 ⟨rfl,(raT qc)⟩
     ·exact og 1 ⟨rfl,(raT qd)⟩
   ·refine ra4 3 10 15 21 ?_ ?_ ?_ ?_
    ·exact og 2 ⟨rfl,(rq [4] 16 (r0 5 rfl (ap (en:=aa) Ty.s36 rfl rfl rfl aZ (raE lK))))⟩
    ·refine oO rfl (cF (aD cw) ⟨rfl,(ra3 3 15 21 ?_ ?_ ?_)⟩)
     ·exact og 2 ⟨rfl,(rq [4] 15 (r0 5 rfl (ap (en:=aa) Ty.s36 rfl rfl rfl aZ (raE pZ))))⟩
     ·exact og 2 ⟨rfl,(raE p6)⟩
     ·exact og 2 ⟨rfl,(raE p5)⟩
    ·exact og 2 ⟨rfl,(raE lR)⟩
    ·exact og 2 ⟨rfl,(raE lQ)⟩
   ·refine ra3 1 3 21 ?_ ?_ ?_
    ·exact oO rfl (cO 1 (bS bu) ⟨rfl,(raT lR)⟩)
    ·exact og 1 ⟨rfl,(rq [4] 16 (raE lN))⟩
    ·exact og 1 ⟨rfl,(raE lP)⟩
   ·refine ra3 3 9 21 ?_ ?_ ?_
    ·exact og 2 ⟨rfl,(rq [4] 16 (r0 5 rfl (ap (en:=aa) Ty.s36 rfl rfl rfl aZ (raE lJ))))⟩
    ·exact og 2 ⟨rfl,(raT lR)⟩
    ·exact og 2 ⟨rfl,(raE lO)⟩
   ·refine ra3 1 3 9 ?_ ?_ ?_
    ·exact oO rfl (cO 1 (bS bu) ⟨rfl,(raT lO)⟩)
    ·exact og 1 ⟨rfl,(rq [4] 16 (raE lL))⟩
    ·exact og 1 ⟨rfl,(raT lP)⟩
   ·refine ra3 1 3 15 ?_ ?_ ?_
    ·exact oO rfl (cO 1 (bS bu) ⟨rfl,(raT lQ)⟩)
    ·exact og 1 ⟨rfl,(rq [4] 16 (raE lM))⟩
    ·exact og 1 ⟨rfl,(raT lP)⟩
   ·refine ra3 3 9 15 ?_ ?_ ?_
    ·exact og 2 ⟨rfl,(rq [4] 16 (r0 5 rfl (ap (en:=aa) Ty.s36 rfl rfl rfl aZ (raE lI))))⟩
    ·exact og 2 ⟨rfl,(raT lQ)⟩
    ·exact og 2 ⟨rfl,(raT lO)⟩
   ·refine ra3 1 15 21 ?_ ?_ ?_
    ·exact oO rfl (cO 1 (bS bu) ⟨rfl,(r0 5 rfl (ap (en:=aa) Ty.s36 rfl rfl rfl aZ (raT lK)))⟩)
    ·exact og 1 ⟨rfl,(raT lN)⟩
    ·exact og 1 ⟨rfl,(raT lM)⟩
   ·refine ra3 3 10 21 ?_ ?_ ?_
    ·exact og 2 ⟨rfl,(rq [4] 15 (r0 5 rfl (ap (en:=aa) Ty.s36 rfl rfl rfl aZ (raE jP))))⟩
    ·exact oO rfl (cF (aD cw) ⟨rfl,(raT p6)⟩)
    ·exact og 2 ⟨rfl,(raE jS)⟩
   ·refine ra3 1 9 21 ?_ ?_ ?_
    ·exact oO rfl (cO 1 (bS bu) ⟨rfl,(r0 5 rfl (ap (en:=aa) Ty.s36 rfl rfl rfl aZ (raT lJ)))⟩)
    ·exact og 1 ⟨rfl,(raT lN)⟩
    ·exact og 1 ⟨rfl,(raT lL)⟩
   ·refine ra3 3 10 15 ?_ ?_ ?_
    ·exact og 2 ⟨rfl,(rq [4] 15 (r0 5 rfl (ap (en:=aa) Ty.s36 rfl rfl rfl aZ (raE jO))))⟩
    ·exact oO rfl (cF (aD cw) ⟨rfl,(raT p5)⟩)
    ·exact og 2 ⟨rfl,(raT jS)⟩
   ·refine ra2 1 3 ?_ ?_
    ·exact oO rfl (cO 1 (bS bu) ⟨rfl,(raT jS)⟩)
    ·exact og 1 ⟨rfl,(rq [4] 15 (raE jQ))⟩
   ·refine ra2 3 9 ?_ ?_
    ·exact og 2 ⟨rfl,(rq [4] 15 (r0 5 rfl (ap (en:=aa) Ty.s36 rfl rfl rfl aZ (raE jN))))⟩
    ·exact og 2 ⟨rfl,(raT jS)⟩
   ·refine ra3 1 9 15 ?_ ?_ ?_
    ·exact oO rfl (cO 1 (bS bu) ⟨rfl,(r0 5 rfl (ap (en:=aa) Ty.s36 rfl rfl rfl aZ (raT lI)))⟩)
    ·exact og 1 ⟨rfl,(raT lM)⟩
    ·exact og 1 ⟨rfl,(raT lL)⟩
   ·refine ra4 6 9 15 21 ?_ ?_ ?_ ?_
    ·exact oO rfl (aK (en:=aa) (a:=x27) rfl rfl bQ (aH Ty.k9 (c:=.str x27) rfl (r0 7 rfl (aj rfl rfl bR (rL [9,10,11,12,16,17,18,22,23,24,25,26] 9 rfl (raE pX))))))
    ·exact og 2 ⟨rfl,(raT lK)⟩
    ·exact og 2 ⟨rfl,(raT lJ)⟩
    ·exact og 2 ⟨rfl,(raT lI)⟩
   ·refine ra3 3 16 21 ?_ ?_ ?_
    ·exact og 2 ⟨rfl,(rq [4] 14 (r0 5 rfl (ap (en:=aa) Ty.s36 rfl rfl rfl aZ (raE lG))))⟩
    ·refine oO rfl (cF (dD dm) ⟨rfl,(ra2 3 21 ?_ ?_)⟩)
     ·exact og 2 ⟨rfl,(rq [4] 13 (r0 5 rfl (ap (en:=aa) Ty.s36 rfl rfl rfl aZ (raE pW))))⟩
     ·exact og 2 ⟨rfl,(raE pY)⟩
    ·exact og 2 ⟨rfl,(raE lH)⟩
   ·refine ra2 1 21 ?_ ?_
    ·exact oO rfl (cO 1 (bS bu) ⟨rfl,(r0 5 rfl (ap (en:=aa) Ty.s36 rfl rfl rfl aZ (raT jP)))⟩)
    ·exact og 1 ⟨rfl,(raT jQ)⟩
   ·refine ra2 3 15 ?_ ?_
    ·exact og 2 ⟨rfl,(rq [4] 14 (r0 5 rfl (ap (en:=aa) Ty.s36 rfl rfl rfl aZ (raE lF))))⟩
    ·exact og 2 ⟨rfl,(raT lH)⟩
   ·refine ra2 1 15 ?_ ?_
    ·exact oO rfl (cO 1 (bS bu) ⟨rfl,(r0 5 rfl (ap (en:=aa) Ty.s36 rfl rfl rfl aZ (raT jO)))⟩)
    ·exact og 1 ⟨rfl,(raT jQ)⟩
   ·refine ra2 3 10 ?_ ?_
    ·exact og 2 ⟨rfl,(rq [4] 14 (r0 5 rfl (ap (en:=aa) Ty.s36 rfl rfl rfl aZ (raE iv))))⟩
    ·exact oO rfl (cF (aD cw) ⟨rfl,(raT lH)⟩)
   ·refine ra2 1 9 ?_ ?_
    ·exact oO rfl (cO 1 (bS bu) ⟨rfl,(r0 5 rfl (ap (en:=aa) Ty.s36 rfl rfl rfl aZ (raT jN)))⟩)
    ·exact og 1 ⟨rfl,(raT jQ)⟩
   ·refine ra4 6 10 15 21 ?_ ?_ ?_ ?_
    ·exact oO rfl (aK (en:=aa) (a:=x27) rfl rfl bQ (aH Ty.k9 (c:=.str x27) rfl (r0 7 rfl (aj rfl rfl bR (raT pX)))))
    ·exact oO rfl (cF (aD cw) ⟨rfl,(raT pZ)⟩)
    ·exact og 2 ⟨rfl,(raT jP)⟩
    ·exact og 2 ⟨rfl,(raT jO)⟩
   ·refine ra3 6 9 21 ?_ ?_ ?_
    ·exact oO rfl (aK (en:=aa) (a:=x27) rfl rfl bQ (aH Ty.k9 (c:=.str x27) rfl (r0 7 rfl (aj rfl rfl bR (rL [9,10,11,12,16,17,18,22,23,24,25,26] 9 rfl (raE lE))))))
    ·exact og 2 ⟨rfl,(raT jP)⟩
    ·exact og 2 ⟨rfl,(raT jN)⟩
   ·refine ra3 6 9 15 ?_ ?_ ?_
    ·exact oO rfl (aK (en:=aa) (a:=x27) rfl rfl bQ (aH Ty.k9 (c:=.str x27) rfl (r0 7 rfl (aj rfl rfl bR (rL [9,10,11,12,16,17,18,22,23,24,25,26] 9 rfl (raE lD))))))
    ·exact og 2 ⟨rfl,(raT jO)⟩
    ·exact og 2 ⟨rfl,(raT jN)⟩
   ·refine ra2 3 16 ?_ ?_
    ·exact og 2 ⟨rfl,(rq [4] 13 (r0 5 rfl (ap (en:=aa) Ty.s36 rfl rfl rfl aZ (raE jM))))⟩
    ·exact oO rfl (cF (dD dm) ⟨rfl,(raT pY)⟩)
   ·exact ra1 1 (oO rfl (cO 1 (bS bu) ⟨rfl,(r0 5 rfl (ap (en:=aa) Ty.s36 rfl rfl rfl aZ (raT iv)))⟩))
   ·refine ra3 6 15 21 ?_ ?_ ?_
    ·exact oO rfl (aK (en:=aa) (a:=x27) rfl rfl bQ (aH Ty.k9 (c:=.str x27) rfl (r0 7 rfl (aj rfl rfl bR (r0 11 rfl (aj rfl rfl bf (r0 12 rfl (aj rfl rfl cg (rL [15,16,17,18,22,23,24,25,26] 15 rfl (raE jJ))))))))))
    ·exact og 2 ⟨rfl,(raT lG)⟩
    ·exact og 2 ⟨rfl,(raT lF)⟩
   ·refine ra3 6 10 21 ?_ ?_ ?_
    ·exact oO rfl (aK (en:=aa) (a:=x27) rfl rfl bQ (aH Ty.k9 (c:=.str x27) rfl (r0 7 rfl (aj rfl rfl bR (raT lE)))))
    ·exact oO rfl (cF (aD cw) ⟨rfl,(raT lG)⟩)
    ·exact og 2 ⟨rfl,(raT iv)⟩
   ·refine ra3 6 10 15 ?_ ?_ ?_
    ·exact oO rfl (aK (en:=aa) (a:=x27) rfl rfl bQ (aH Ty.k9 (c:=.str x27) rfl (r0 7 rfl (aj rfl rfl bR (raT lD)))))
    ·exact oO rfl (cF (aD cw) ⟨rfl,(raT lF)⟩)
    ·exact og 2 ⟨rfl,(raT iv)⟩
   ·refine ra2 6 9 ?_ ?_
    ·exact oO rfl (aK (en:=aa) (a:=x27) rfl rfl bQ (aH Ty.k9 (c:=.str x27) rfl (r0 7 rfl (aj rfl rfl bR (ra1 9 (og 2 ⟨rfl,(raE jK)⟩))))))
    ·exact og 2 ⟨rfl,(raT iv)⟩
   ·refine ra2 3 22 ?_ ?_
    ·exact og 2 ⟨rfl,(rq [4] 12 (r0 5 rfl (ap (en:=aa) Ty.s36 rfl rfl rfl aZ (raE lC))))⟩
    ·exact oO rfl (cF (dD fL) ⟨rfl,(ra1 3 (og 2 ⟨rfl,(rq [4] 11 (r0 5 rfl (ap (en:=aa) Ty.s36 rfl rfl rfl aZ (raE pV))))⟩))⟩)
   ·refine ra3 10 15 21 ?_ ?_ ?_
    ·exact oO rfl (cF (aD cw) ⟨rfl,(r0 11 rfl (aj rfl rfl bf (r0 12 rfl (aj rfl rfl cg (rL [15,16,17,18,22,23,24,25,26] 15 rfl (raT jJ))))))⟩)
    ·exact og 2 ⟨rfl,(raT lE)⟩
    ·exact og 2 ⟨rfl,(raT lD)⟩
   ·refine ra3 6 16 21 ?_ ?_ ?_
    ·exact oO rfl (aK (en:=aa) (a:=x27) rfl rfl bQ (aH Ty.k9 (c:=.str x27) rfl (r0 7 rfl (aj rfl rfl bR (r0 11 rfl (aj rfl rfl bf (r0 12 rfl (aj rfl rfl cg (raT jJ)))))))))
    ·exact oO rfl (cF (dD dm) ⟨rfl,(raT pW)⟩)
    ·exact og 2 ⟨rfl,(raT jM)⟩
   ·refine ra2 6 15 ?_ ?_
    ·exact oO rfl (aK (en:=aa) (a:=x27) rfl rfl bQ (aH Ty.k9 (c:=.str x27) rfl (r0 7 rfl (aj rfl rfl bR (r0 11 rfl (aj rfl rfl bf (r0 12 rfl (aj rfl rfl cg (raE pU)))))))))
    ·exact og 2 ⟨rfl,(raT jM)⟩
   ·refine ra2 6 10 ?_ ?_
    ·exact oO rfl (aK (en:=aa) (a:=x27) rfl rfl bQ (aH Ty.k9 (c:=.str x27) rfl (r0 7 rfl (aj rfl rfl bR (raT jK)))))
    ·exact oO rfl (cF (aD cw) ⟨rfl,(raT jM)⟩)
   ·refine ra2 6 21 ?_ ?_
    ·exact oO rfl (aK (en:=aa) (a:=x27) rfl rfl bQ (aH Ty.k9 (c:=.str x27) rfl (r0 7 rfl (aj rfl rfl bR (r0 11 rfl (aj rfl rfl bf (r0 12 rfl (aj rfl rfl cg (r0 17 rfl (aj rfl rfl fN (r0 18 rfl (aj rfl rfl dC (raE pT)))))))))))))
    ·exact og 2 ⟨rfl,(raT lC)⟩
   ·refine ra2 10 21 ?_ ?_
    ·exact oO rfl (cF (aD cw) ⟨rfl,(r0 11 rfl (aj rfl rfl bf (r0 12 rfl (aj rfl rfl cg (raT jJ)))))⟩)
    ·exact og 2 ⟨rfl,(raT jK)⟩
   ·refine ra2 10 15 ?_ ?_
    ·exact oO rfl (cF (aD cw) ⟨rfl,(r0 11 rfl (aj rfl rfl bf (r0 12 rfl (aj rfl rfl cg (raT pU)))))⟩)
    ·exact og 2 ⟨rfl,(raT jK)⟩
   ·refine ra2 6 16 ?_ ?_
    ·exact oO rfl (aK (en:=aa) (a:=x27) rfl rfl bQ (aH Ty.k9 (c:=.str x27) rfl (r0 7 rfl (aj rfl rfl bR (r0 11 rfl (aj rfl rfl bf (r0 12 rfl (aj rfl rfl cg (raE jI)))))))))
    ·exact oO rfl (cF (dD dm) ⟨rfl,(raT lC)⟩)
   ·refine ra2 6 22 ?_ ?_
    ·exact oO rfl (aK (en:=aa) (a:=x27) rfl rfl bQ (aH Ty.k9 (c:=.str x27) rfl (r0 7 rfl (aj rfl rfl bR (r0 11 rfl (aj rfl rfl bf (r0 12 rfl (aj rfl rfl cg (r0 17 rfl (aj rfl rfl fN (r0 18 rfl (aj rfl rfl dC (raE gB)))))))))))))
    ·exact oO rfl (cF (dD fL) ⟨rfl,(raT pV)⟩)
   ·exact ra1 10 (oO rfl (cF (aD cw) ⟨rfl,(r0 11 rfl (aj rfl rfl bf (r0 12 rfl (aj rfl rfl cg (raT jI)))))⟩))
   ·refine ra1 6 (oO rfl (aK (en:=aa) (a:=x27) rfl rfl bQ (aH Ty.k9 (c:=.str x27) rfl (r0 7 rfl (aj rfl rfl bR (r0 11 rfl (aj rfl rfl bf (r0 12 rfl (aj rfl rfl cg (r0 17 rfl (aj rfl rfl fN (r0 18 rfl (aj rfl rfl dC (r0 23 rfl (aj rfl rfl jT (r0 24 rfl (aj rfl rfl gE (r0 25 rfl (aj rfl rfl qv ?_)))))))))))))))))));exact rq [26] 0 (raE iq)
   ·refine ra2 16 21 ?_ ?_
    ·exact oO rfl (cF (dD dm) ⟨rfl,(r0 17 rfl (aj rfl rfl fN (r0 18 rfl (aj rfl rfl dC (raT pT)))))⟩)
    ·exact og 2 ⟨rfl,(raT jI)⟩
   ·exact ra1 15 (og 2 ⟨rfl,(raT jI)⟩)
   ·exact ra1 16 (oO rfl (cF (dD dm) ⟨rfl,(r0 17 rfl (aj rfl rfl fN (r0 18 rfl (aj rfl rfl dC (raT gB)))))⟩))
   ·exact ra1 21 (og 2 ⟨rfl,(raT gB)⟩)
   ·exact ra1 22 (oO rfl (cF (dD fL) ⟨rfl,(r0 23 rfl (aj rfl rfl jT (r0 24 rfl (aj rfl rfl gE (r0 25 rfl (aj rfl rfl qv (rq [26] 0 (raT iq))))))))⟩))
   exact RA.done (by decide +kernel) (X 4 2 (lk h (wk [] [] 2 rfl)))
  refine X 1 0 ?_;replace h:=mi h gw;refine j1 [(2,.bool ((x2.2==0) && x2.1==s21))] [] ?_ (fun hK=>?_)
  ·cases h;exact tD
  refine X 5 0 (gp 83 (fun lA=>?_) (fun lA=>?_))
  ·refine Yp 6 0 ?_;rw [lA] at hK;exact sx hK
  refine Yp 6 0 ?_;rw [lA] at hK;exact sx hK
 refine X 2 2 (sO (cF (my hx5) ⟨rfl,(Y 2 2 (gp 23 (fun ak=>?_) (fun ak=>?_)))⟩))
 ·refine Yp 4 2 ?_;rw [ak] at hK;exact wu hK [] [0] 2 rfl
 refine Yp 4 2 ?_;rw [ak] at hK;exact wu hK [] [0] 2 rfl
end
section
open Go.ChangeShapes Go.WideShapes Go.ChangeAt Go.RowKit
theorem mP {α:Type} {p:Nat->α->Prop}:∀ n:Nat,(∀ i,i<n->∃ x,p i x)->∃ l:List α,l.length=n/\∀ (i:Nat) x,l[i]?=some x->p i x
 | 0,_=>⟨[],rfl,fun i x h=>by simp at h⟩
 | n+1,h=>by
  obtain ⟨l,hl,hp⟩:=mP n (fun i hi=>h i (by omega));obtain ⟨y,hy⟩:=h n (by omega);refine ⟨l++[y],by simp [hl],fun i x hx=>?_⟩;rw [yd] at hx;split at hx
  ·exact hp i x hx
  ·have:i=n:=by
    have:=(xG.1 hx).1;simp at this;omega
   subst this;simp [hl] at hx;subst hx;exact hy
theorem oa {H:Type} (d:DataW H):1<=Rows.uptoBulk d:=by
 cases d with
 | lit l=>cases l<;>simp [Rows.uptoBulk]
 | _=>simp [Rows.uptoBulk]
theorem nP {H α:Type} (m:α->Nat):∀ (l:List α) (ds:List (DataW H)),l.length=ds.length->(∀ (i:Nat) x d,l[i]?=some x->ds[i]?=some d->m x<=Rows.uptoBulk d)->(l.map m).sum<=Rows.uptoBulkAll ds
 | [],[],_,_=>by simp
 | [],_::_,h,_=>by simp at h
 | _::_,[],h,_=>by simp at h
 | x::l,d::ds,h,hp=>by have h0:=hp 0 x d rfl rfl;have h1:=nP m l ds (by simpa using h) (fun i y e hy he=>hp (i+1) y e (by simpa using hy) (by simpa using he));simp only [yh,List.sum_cons,Rows.uptoBulkAll];omega
structure Opn (P:Program) (t:TypeId) {α:Type} (en:α->List AV) (good:α->Prop) (m:α->Nat):Prop where
 opn:∀ {H:Type} {enc:TypeId × Value->H} {W:World} {fuel:Nat} {cs:List Value} {x:DataW H × List MemPlace},DataW.trod enc P W 0 (fun _=>true) true fuel t cs=some x ->
  ∃ a,RelL [] W (fun b=>b<W.heap.size) (en a) cs/\(∀ u,u∈cs->u.oneCell'=true)/\good a/\m a<=Rows.uptoBulk x.1
theorem Opn.map {P:Program} {t:TypeId} {α β:Type} {en:α->List AV} {good:α->Prop} {m:α->Nat} (h:Opn P t en good m) (f:α->β) {en':β->List AV} {good':β->Prop} {m':β->Nat}
  (he:∀ a,en' (f a)=en a) (hg:∀ a,good a->good' (f a)) (hm:∀ a,m' (f a)<=m a):Opn P t en' good' m' :=
 ⟨fun hx=>by obtain ⟨a,h1,h2,h3,h4⟩:=h.opn hx;exact ⟨f a,by rw [he];exact h1,h2,hg a h3,yT (hm a) h4⟩⟩
theorem hH {σ:List Value} {w:World} {F:Nat->Prop} {a:AV} {v:Value} (h:Rel σ w F a v):RelL σ w F [a] [v]:=.cons h .nil
theorem Opn.bool {P:Program} {t:TypeId} (ht:P.underlying t=some .bool):Opn P t (fun b:Bool=>[.bool b]) (fun _=>True) (fun _=>1) :=
 ⟨fun hx=>by obtain ⟨b,rfl,rfl⟩:=DataW.trod_bool ht hx;exact ⟨b,hH (.bool b),by simp [Value.oneCell'],trivial,oa _⟩⟩
theorem Opn.int {P:Program} {t:TypeId} {k:IntKind} (ht:P.underlying t=some (.int k)):Opn P t (fun n:Int=>[.int k n]) (fun n=>k.min<=n/\n<=k.max) (fun _=>1) :=
 ⟨fun hx=>by obtain ⟨n,rfl,rfl,hw⟩:=DataW.trod_int ht hx;refine ⟨n,hH (.int k n),by simp [Value.oneCell'],?_,oa _⟩;simpa only [Lit.wf,yG,decide_eq_true_eq] using hw⟩
theorem Opn.str {P:Program} {t:TypeId} (ht:P.underlying t=some .string):Opn P t (fun s:List UInt8=>[.str s]) (fun s=>s.length<=maxLen) (fun s=>s.length+1) :=
 ⟨fun hx=>by
  obtain ⟨s,rfl,rfl,hw⟩:=DataW.trod_string ht hx;refine ⟨s.data.toList,hH (by simpa using Rel.str s.data.toList),by simp [Value.oneCell'],?_,by simp [Rows.uptoBulk]⟩;have e:s.data.toList.length=s.size:=by rw [zp];rfl
  omega⟩
theorem Opn.slice {P:Program} {t e:TypeId} {α:Type} {en:α->List AV} {good:α->Prop} {m:α->Nat} {size:Nat} (ht:P.underlying t=some (.slice e)) (hc:P.cellsOf e=size+1) (h:Opn P e en good m) :
  Opn P t (fun l:List α=>[.sl (l.map en)]) (fun l=>∀ a,a∈l->good a) (fun l=>(l.map m).sum+1):=by
 refine ⟨fun {H enc W fuel cs x} hx=>?_⟩
 rcases DataW.trod_slice ht hx with ⟨rfl,rfl⟩ | ⟨a,len,cap,elems,rest,n,_,rfl,rfl,hb,hl,hm,hlen,hel,hsp,hns⟩
 ·exact ⟨[],hH .slNil,by simp [Value.oneCell'],by simp,by simp [Rows.uptoBulk]⟩
 rw [hc] at hel
 have hone:∀ i,i<len->∃ y:α × List Value × (DataW H × List MemPlace),elems[i]?=some y.2.2/\W.cells? 0 (a.add (i*(size+1))) (size+1)=some y.2.1/\RelL [] W (fun b=>b<W.heap.size) (en y.1) y.2.1/\(∀ u,u∈y.2.1->u.oneCell'=true)/\good y.1/\m y.1<=Rows.uptoBulk y.2.2.1:=by intro i hi;have h1:=hel i hi;rw [xH (by omega:i<elems.length)] at h1;obtain ⟨cs',hcs,ht'⟩:=Option.bind_eq_some_iff.1 h1;obtain ⟨y,g1,g2,g3,g4⟩:=h.opn ht';exact ⟨(y,cs',elems[i]),xH (by omega),hcs,g1,g2,g3,g4⟩
 obtain ⟨ys,hys,hp⟩:=mP len hone
 refine ⟨ys.map (·.1),hH ?_,by simp [Value.oneCell'],?_,?_⟩
 ·have hrl:((ys.map (·.1)).map en).length=len:=by simp [hys]
  have key:Rel [] W (fun b=>b<W.heap.size) (.sl ((ys.map (·.1)).map en)) (.slice (some a) ((ys.map (·.1)).map en).length cap):=by
   refine .sl _ (size+1) a cap (fun i j=>((ys[i]?).bind (fun y=>y.2.1[j]?)).getD .nilIface) (fun hne=>?_) (by omega) hm (fun row hrow=>?_) (fun i j hi hj=>?_) (fun i j hi hj=>?_) (fun i row j x hi hj=>?_)
   ·have hpos:0<len:=by
     rcases Nat.eq_zero_or_pos len with h0 | h0
     ·exfalso;apply hne;apply xQ;omega
     ·exact h0
    obtain ⟨y,hy⟩:∃ y,ys[0]?=some y:=⟨ys[0],xH (by omega)⟩
    have:=World.cells?_block (hp 0 y hy).2.1 (by omega);rwa [fZ] at this
   ·simp only [yN,yb] at hrow;obtain ⟨y,hy,rfl⟩:=hrow;obtain ⟨i,hi,hi'⟩:=List.getElem_of_mem hy;have h1:=hp i y (by rw [xH hi,hi']);have h2:=(World.cells?_some h1.2.1).2.1;have h3:=h1.2.2.1.1;simp only [Function.comp];omega
   ·rw [hrl] at hi;obtain ⟨y,hy⟩:∃ y,ys[i]?=some y:=⟨ys[i],xH (by omega)⟩
    have h1:=hp i y hy;have h2:=(World.cells?_some h1.2.1).2.1;have h3:y.2.1[j]?=some y.2.1[j]:=xH (by omega);simp only [hy,xI,h3,y0];exact h1.2.2.2.1 _ (xY _)
   ·rw [hrl] at hi;obtain ⟨y,hy⟩:∃ y,ys[i]?=some y:=⟨ys[i],xH (by omega)⟩
    have h1:=hp i y hy;have h2:=World.cells?_some h1.2.1;have h3:y.2.1[j]?=some y.2.1[j]:=xH (by omega);simp only [hy,xI,h3,y0];rw [<- dr,h2.2.2 j hj,h3]
   ·simp only [yN,xJ,xU] at hi;obtain ⟨y,hy,rfl⟩:=hi;have h1:=hp i y hy;obtain ⟨v,hv,hr⟩:=h1.2.2.1.get hj;simp only [hy,xI,hv,y0];exact hr
  rwa [hrl] at key
 ·intro z hz
  simp only [yb] at hz
  obtain ⟨y,hy,rfl⟩:=hz
  obtain ⟨i,hi,hi'⟩:=List.getElem_of_mem hy
  exact (hp i y (by rw [xH hi,hi'])).2.2.2.2.1
 ·have:=nP m (ys.map (·.1)) (elems.map (·.1)) (by simp [hys,hlen]) (fun i z d hz hd=>by
   simp only [xJ,xU] at hz hd;obtain ⟨y,hy,rfl⟩:=hz;obtain ⟨el,he,rfl⟩:=hd;have h1:=hp i y hy;rw [h1.1] at he;obtain rfl:=xL he;exact h1.2.2.2.2.2)
  simp only [Rows.uptoBulk]
  omega
structure OpnF (P:Program) (fs:List Field) (off total:Nat) {α:Type} (en:α->List AV) (good:α->Prop) (m:α->Nat):Prop where
 opn:∀ {H:Type} {enc:TypeId × Value->H} {W:World} {fuel:Nat} {cs:List Value} {xs:List (DataW H × List MemPlace)},cs.length=total ->
  xs.length=fs.length->(∀ (i:Nat) (f:Field),fs[i]?=some f->DataW.trod enc P W 0 (fun _=>true) true fuel f.type ((cs.drop f.offset).take (P.cellsOf f.type))=xs[i]?) ->
  ∃ a,RelL [] W (fun b=>b<W.heap.size) (en a) (cs.drop off)/\(∀ u,u∈cs.drop off->u.oneCell'=true)/\good a/\m a<=Rows.uptoBulkAll (xs.map (·.1))
theorem OpnF.nil {P:Program} {total:Nat}:OpnF P [] total total (fun _:Unit=>[]) (fun _=>True) (fun _=>0) :=
 ⟨fun hl hx hp=>⟨(),by rw [zi (by omega)];exact .nil,by rw [zi (by omega)];simp,trivial,by simp⟩⟩
theorem OpnF.cons {P:Program} {f:Field} {fs:List Field} {off total:Nat} {α β:Type} {en1:α->List AV} {en2:β->List AV} {g1:α->Prop} {g2:β->Prop} {m1:α->Nat} {m2:β->Nat}
  (ho:f.offset=off) (c:Nat) (hc:P.cellsOf f.type=c) (h1:Opn P f.type en1 g1 m1) (h2:OpnF P fs (off+c) total en2 g2 m2) :
  OpnF P (f::fs) off total (fun p:α × β=>en1 p.1++en2 p.2) (fun p=>g1 p.1/\g2 p.2) (fun p=>m1 p.1+m2 p.2):=by
 refine ⟨fun {H enc W fuel cs xs} hl hx hp=>?_⟩
 match xs,hx with
 | x::xs,hx =>
  have h0:=hp 0 f rfl
  simp only [List.getElem?_cons_zero] at h0
  subst ho;subst hc
  obtain ⟨a,a1,a2,a3,a4⟩:=h1.opn h0
  obtain ⟨b,b1,b2,b3,b4⟩:=h2.opn (xs:=xs) hl (by simpa using hx) (fun i f' hf=>by simpa using hp (i+1) f' (by simpa using hf))
  have hs:cs.drop f.offset=(cs.drop f.offset).take (P.cellsOf f.type)++cs.drop (f.offset+P.cellsOf f.type):=by rw [<- zw];exact (y6 _ _).symm
  refine ⟨(a,b),?_,fun u hu=>?_,⟨a3,b3⟩,?_⟩
  ·rw [hs];exact a1.append b1
  ·rw [hs,yw] at hu
   exact hu.elim (a2 u) (b2 u)
  ·simp only [yh,Rows.uptoBulkAll];omega
theorem Opn.struct {P:Program} {t:TypeId} {fs:Array Field} {total:Nat} {α:Type} {en:α->List AV} {good:α->Prop} {m:α->Nat} (ht:P.underlying t=some (.struct fs)) (hc:P.cellsOf t=total)
  (h:OpnF P fs.toList 0 total en good m):Opn P t en good m:=by
 refine ⟨fun {H enc W fuel cs x} hx=>?_⟩
 obtain ⟨xs,n,rfl,rfl,hl,hxl,hp⟩:=DataW.trod_struct ht hx
 obtain ⟨a,h1,h2,h3,h4⟩:=h.opn (enc:=enc) (W:=W) (fuel:=n) (cs:=cs) (xs:=xs) (by omega) (by simp [hxl]) (fun i f hf=>hp i f (by simpa using hf))
 exact ⟨a,by simpa using h1,by simpa using h2,h3,by simp only [Rows.uptoBulk];omega⟩
theorem Opn.args {P:Program} {t:TypeId} {α:Type} {en:α->List AV} {good:α->Prop} {m:α->Nat} (h:Opn P t en good m)
  {fs:Array Field} (ht:P.underlying t=some (.struct fs))
  {H:Type} {enc:TypeId × Value->H} {W:World} {base:Nat} {v:Value} {d:DataW H} {ps:List MemPlace} (hval:Value.okWide P W .any base t v) (hd:DataW.Trod enc P W 0 (fun _=>true) true t v d ps) :
  ∃ a,Rel [] W (fun b=>b<W.heap.size) (.agg (en a)) v/\good a/\m a<=Rows.uptoBulk d:=by
 obtain ⟨fuel,hf⟩:=hd
 obtain ⟨a,h1,h2,h3,h4⟩:=h.opn hf
 unfold Value.okWide at hval
 rw [ht] at hval
 obtain ⟨cs,rfl,_,_⟩:=hval
 simp only [Value.cells] at h1 h2
 refine ⟨a,?_,h3,h4⟩
 have:=Rel.agg (σ:=[]) (w:=W) (F:=fun b=>b<W.heap.size) (en a) cs.toList h1.1 h2 h1.2
 simpa using this
theorem ne {H:Type} {enc:TypeId × Value->H} {P:Program} (hl:laidOutB P=true) {W W':World} (hb:Below W.heap.size W W') (sp:Nat->Bool) :
  ∀ {ts:List TypeId} {vs:List Value} {ds:List (DataW H)} {ps:List MemPlace},(ts.all fun t=>P.readableRec t && decide (t<P.types.size))=true->DataW.TrodAll enc P W 0 (fun _=>true) true ts vs ds ps ->
   (∀ x∈ps,x.block<W.heap.size)->(∀ x∈ps,sp x.block=true)->DataW.TrodAll enc P W' 0 sp true ts vs ds ps
 | [],[],[],_,_,h,_,_=>h
 | [],_::_,_,_,_,h,_,_=>h.elim
 | [],[],_::_,_,_,h,_,_=>h.elim
 | _::_,[],_,_,_,h,_,_=>h.elim
 | _::_,_::_,[],_,_,h,_,_=>h.elim
 | t::ts,v::vs,d::ds,ps,hr,h,hlt,hsp=>by
  obtain ⟨p,q,h1,h2,rfl⟩:=h;simp only [zk,yG,decide_eq_true_eq] at hr;exact ⟨p,q,WideElems.Trod_stays hl hr.1.1 hr.1.2 h1 (fun x hx=>hb.same (hlt x (by simp [hx]))) (fun x hx=>hsp x (by simp [hx])),
   ne hl hb sp hr.2 h2 (fun x hx=>hlt x (by simp [hx])) (fun x hx=>hsp x (by simp [hx])),rfl⟩
section
variable {H:Type} {enc:TypeId × Value→H} {P:Program}
theorem qU {f:Func} {s:ChangeSpec} {apart fresh handsOn again:Bool} {W W':World} {args:Array Value} {v:Value} {ds gs:List (DataW H)} {before pa pv:List MemPlace}
  (hW:DataW.Whole enc P f.params.toList s.vars apart W args.toList ds gs before)
  (hres:∀ (b:Nat) (sp:Nat->Bool) (hd:Bool),DataW.TrodAll enc P W' b sp hd f.resultTypes.toList (v.resultList f.resultTypes.size) (s.fn H (ds++gs)).results [])
  (hargs:∀ sp:Nat->Bool,(∀ p∈before,sp p.block=true)->DataW.TrodAll enc P W' 0 sp true f.params.toList args.toList (s.fn H (ds++gs)).args pa)
  (hvars:∀ sp:Nat->Bool,(∀ p∈before,sp p.block=true)->DataW.TrodVars enc P W' sp s.vars (s.fn H (ds++gs)).vars pv)
  (hps:before=pa++pv) (hb:Below W.heap.size W W')
  (hok:∀ (j:Nat) (t:TypeId) (r:Value),f.resultTypes[j]?=some t->(v.resultList f.resultTypes.size)[j]?=some r->Value.okWide P W' .any 0 t r) :
  s.post enc P f apart fresh handsOn again W args v W':=by
 have hlt:∀ p∈before,p.block<W.heap.size:=fun p hp=>hW.lt p hp
 have hold:∀ p∈before,(fun b=>decide (b<W.heap.size)) p.block=true:=fun p hp=>by simpa using hlt p hp
 refine ⟨ds,gs,before,[],pa,pv,hW,hres _ _ _,hargs _ hold,hvars _ hold,World.keptBut_mono (fun p hp=>⟨hp,?_⟩) (hb.frame (·∈before)),fun _=>?_⟩
 ·rw [hps,yw] at hp
  exact Or.inr hp
 ·obtain ⟨_,_,_,_,_,hz,hn⟩:=hW
  refine ⟨hok,_,_,([]++pa)++pv,⟨[]++pa,pv,trodAll_append (hargs _ (fun _ _=>rfl)) (hres _ _ _),hvars _ (fun _ _=>rfl),rfl,?_,?_⟩,?_⟩
  ·intro b off hp
   have hin:MemPlace.cell b off∈before:=by rw [hps];simpa using hp
   rw [hb.frozen (hlt _ hin)]
   exact hz b off hin
  ·intro ha
   have:=hn ha
   rw [hps] at this
   simpa using this
  ·intro p hp _
   rw [hps]
   simpa using hp
end
theorem tJ {H:Type} {enc:TypeId × Value->H} {P:Program} {id:FuncId} {f:Func} {s:ChangeSpec} {W:World} {args:Array Value} {ds gs:List (DataW H)} {before:List MemPlace} {av:List AV} {tb:TypeId}
  (hl:laidOutB P=true) (htb:P.underlying tb=some .bool) (hres:f.resultTypes=#[tb]) (hr:(f.params.toList.all fun t=>P.readableRec t && decide (t<P.types.size))=true) (hvars:s.vars=[])
  (hfn:(s.fn H (ds++gs)).results=[.lit (.bool true)]) (hfa:(s.fn H (ds++gs)).args=ds) (hfv:(s.fn H (ds++gs)).vars=[])
  (hW:DataW.Whole enc P f.params.toList s.vars false W args.toList ds gs before)
  (hrel:RelL [] W (fun b=>b<W.heap.size) av args.toList) (hc:ACalls P id av [] fun r aw'=>r=.bool true/\aw'=[]) :
  Calls P id args W fun e W'=>∃ v,e=.returned v/\s.post enc P f false true false false W args v W':=by
 have hs:Sim [] [] W (fun b=>b<W.heap.size):=⟨rfl,fun k o v h=>by simp at h,fun k k' o o' v v' g _ h=>by simp at h,fun b h=>h⟩
 refine (hc.2 W _ [] args.toList hs hrel).mono fun e W' hx=>?_
 obtain ⟨v,r,aw',σ',F',he,⟨hr1,hr2⟩,_,hv,hm⟩:=hx
 subst hr1;subst hr2
 cases hv
 have hb:Below W.heap.size W W':=⟨hm.os,hm.tape,hm.output.1,hm.size,fun k hk=>hm.keep k hk (fun ⟨k',o,v,ho,_⟩=>by simp at ho)⟩
 refine ⟨.bool true,he,?_⟩
 have hW':=hW
 obtain ⟨p,q,hA,hV,rfl,hfz,hnd⟩:=hW'
 rw [hvars] at hV
 obtain ⟨rfl,rfl⟩:=trodVars_none hV
 have hlt:∀ x∈p++[],x.block<W.heap.size:=fun x hx=>hW.lt x hx
 refine qU (pa:=p) (pv:=[]) hW (fun b sp hd=>?_) (fun sp hsp=>?_) (fun sp hsp=>?_) rfl hb (ok_one hres rfl (okWide_bool_mk htb _))
 ·rw [hfn,hres]
  exact trodAll_cons_mk (shut_bool htb _) trodAll_mk0
 ·rw [hfa]
  exact ne hl hb sp hr hA (fun x hx=>hlt x (by simpa using hx)) (fun x hx=>hsp x (by simpa using hx))
 ·rw [hfv,hvars]
  exact rfl
end
def gI (n:Int):Prop := -9223372036854775808<=n/\n<=9223372036854775807
def gL {α:Type} (g:α->Prop) (l:List α):Prop:=∀ a,a∈l->g a
def gNode (a:Node):Prop:=gI a.Kind/\gI a.A/\gL gI a.In/\gL gI a.Out
def gNet (a:Net):Prop:=gL gNode a.Nodes/\gI a.Rings/\gI a.Room
def mI (n:Int):Nat:=1
def mB (b:Bool):Nat:=1
def mL {α:Type} (m:α->Nat) (l:List α):Nat:=(l.map m).sum+1
def mNode (a:Node):Nat:=mL mI a.In+mL mI a.Out+2
def mNet (a:Net):Nat:=mL mNode a.Nodes+2
theorem k7 {α:Type} {m:α->Nat} (h:∀ a,1<=m a):∀ l:List α,l.length<=mL m l
 | []=>by simp [mL]
 | a::l=>by have:=k7 h l;have:=h a;simp [mL] at *;omega
theorem pd {α:Type} {m:α->Nat}:∀ {l:List α} {a:α},a∈l->m a<=mL m l
 | b::l,a,h=>by
  rcases zl.1 h with rfl | h
  ·simp [mL];omega
  ·have:=pd (m:=m) h;simp [mL] at *;omega
theorem fw {n:Int} (h0 : -9223372036854775808<=n) (h1:n<=9223372036854775807):IntKind.i64.wrap n=n:=IntWalk.i64_in n ⟨h0,h1⟩
theorem bB {k:Nat} (h:k<4611686018427387904):IntKind.i64.wrap ((k:Int)+1)=((k+1:Nat):Int):=by rw [fw (by omega) (by omega)];rfl
theorem bG {α:Type} {xs:List α} {k:Nat} {x:α} (h:xs[k]?=some x):idx xs (k:Int)=some x:=by unfold idx;rw [if_pos (by omega)];simpa using h
theorem lc {α:Type} {xs:List α} {k:Nat} (h:k<xs.length):ixN xs (k:Int)=some k:=by unfold ixN;rw [if_pos (by omega)];simp
theorem jD {α:Type} {xs ys:List α} (h:xs.length+ys.length<=1099511627776):app xs ys=some (xs++ys):=by unfold app;rw [if_pos h]
theorem bT {xs ys:List UInt8} (h:xs.length+ys.length<=4611686018427387904):cat xs ys=some (xs++ys):=by unfold cat;rw [if_pos h]
def cS {α σ ρ:Type} (f:Nat->α->σ->Option (σ ⊕ ρ)) (fin:σ->Option ρ):Nat->List α->σ->Option ρ
 | _,[],st=>fin st
 | k,x::xs,st=>match f k x st with
  | none=>none
  | some (.inl st')=>cS f fin (k+1) xs st'
  | some (.inr r)=>some r
theorem nk {α σ ρ τ:Type} (xs:List α) (hx:xs.length<=1099511627776) (e:Nat->σ->τ) {body:τ->Option (τ ⊕ ρ)} (f:Nat->α->σ->Option (σ ⊕ ρ)) (fin:σ->Option ρ)
  (h1:∀ (k:Nat) x st,xs[k]?=some x->k<xs.length->idx xs (k:Int)=some x->decide ((k:Int)<(xs.length:Int))=true->IntKind.i64.wrap ((k:Int)+1)=((k+1:Nat):Int) ->
   body (e k st)=match f k x st with
    | none=>none
    | some (.inl st')=>some (.inl (e (k+1) st'))
    | some (.inr r)=>some (.inr r))
  (h2:∀ st,decide ((xs.length:Int)<(xs.length:Int))=false->body (e xs.length st)=(fin st).map .inr) :
  ∀ (n k:Nat) st,k+n=xs.length->iter body (e k st)=cS f fin k (xs.drop k) st
 | 0,k,st,h=>by
  have hk:k=xs.length:=by omega
  subst hk;rw [aq,h2 st (by simp),yH];unfold cS;cases fin st<;>rfl
 | n+1,k,st,h=>by
  have hlt:k<xs.length:=by omega
  have hg:xs[k]?=some xs[k]:=xH hlt;rw [aq,h1 k xs[k] st hg hlt (bG hg) (by simp;omega) (bB (by omega)),xZ hlt];unfold cS;cases f k xs[k] st with
  | none=>rfl
  | some v =>
   cases v with
   | inl st'=>exact nk xs hx e f fin h1 h2 n (k+1) st' (by omega)
   | inr r=>rfl
theorem kp {α σ ρ τ:Type} (xs:List α) (hx:xs.length<=1099511627776) (e:Nat->σ->τ) {body:τ->Option (τ ⊕ ρ)} (f:Nat->α->σ->Option (σ ⊕ ρ)) (fin:σ->Option ρ) (st:σ)
  (h1:∀ (k:Nat) x st,xs[k]?=some x->k<xs.length->idx xs (k:Int)=some x->decide ((k:Int)<(xs.length:Int))=true->IntKind.i64.wrap ((k:Int)+1)=((k+1:Nat):Int) ->
   body (e k st)=match f k x st with
    | none=>none
    | some (.inl st')=>some (.inl (e (k+1) st'))
    | some (.inr r)=>some (.inr r))
  (h2:∀ st,decide ((xs.length:Int)<(xs.length:Int))=false->body (e xs.length st)=(fin st).map .inr):iter body (e 0 st)=cS f fin 0 xs st:=by
 have:=nk xs hx e f fin h1 h2 xs.length 0 st (by omega)
 simpa using this
theorem rx {α:Type} [DecidableEq α] (a b:List α) (ha:a.length<=1099511627776) (hl:a.length=b.length) {body:Int->Option (Int ⊕ Bool)}
  (h1:∀ (k:Nat) x y,decide ((k:Int)<(a.length:Int))=true->idx a (k:Int)=some x->idx b (k:Int)=some y->IntKind.i64.wrap ((k:Int)+1)=((k+1:Nat):Int)->body k=if x=y then some (.inl ((k+1:Nat):Int)) else some (.inr false))
  (h2:decide ((a.length:Int)<(a.length:Int))=false->body a.length=some (.inr true)):iter body 0=some (decide (a=b)):=by
 have key:∀ (n k:Nat),k+n=a.length->iter body k=some (decide (a.drop k=b.drop k)):=by
  intro n;induction n with
  | zero =>
   intro k hk;have hk:k=a.length:=by omega
   subst hk;rw [aq,h2 (by simp),yH,zi (by omega)];simp
  | succ n ih =>
   intro k hk;have hlt:k<a.length:=by omega
   have hlt2:k<b.length:=by omega
   have hd:(a.drop k=b.drop k) ↔ (a[k]=b[k]/\a.drop (k+1)=b.drop (k+1)):=by
    have ea:=xZ hlt;have eb:=xZ hlt2;constructor
    ·intro h;rw [ea,eb] at h;exact List.cons.inj h
    ·rintro ⟨h1,h2⟩;rw [ea,eb,h1,h2]
   rw [aq,h1 k a[k] b[k] (by simp;omega) (bG (xH hlt)) (bG (xH hlt2)) (bB (by omega))];by_cases hxy:a[k]=b[k]
   ·rw [if_pos hxy];simp only;rw [ih (k+1) (by omega)];simp [hd,hxy]
   ·rw [if_neg hxy];simp [hd,hxy]
 have:=key a.length 0 (by omega)
 simpa using this
section
open Go.RowKit
theorem on3:Opn Tryd.prog 3 (fun n:Int=>[.int .i64 n]) gI mI :=
 (Opn.int Tryd.underlying3).map id (fun _=>rfl) (fun a h=>⟨h.1,h.2⟩) (fun _=>xR _)
theorem on28:Opn Tryd.prog 28 (fun l=>[.sl (l.map ah)]) (gL gI) (mL mI) :=
 (Opn.slice (size:=0) Tryd.underlying28 Ty.c3 on3).map id (fun _=>rfl) (fun a h=>h) (fun _=>xR _)
theorem on35:Opn Tryd.prog 35 ae gNode mNode :=
 (Opn.struct Tryd.underlying35 Ty.c35 (OpnF.cons rfl 1 Ty.c3 on3 (OpnF.cons rfl 1 Ty.c3 on3 (OpnF.cons rfl 1 Ty.c28 on28 (OpnF.cons rfl 1 Ty.c28 on28 OpnF.nil))))).map (fun p=>(⟨p.1,p.2.1,p.2.2.1,p.2.2.2.1⟩:Node)) (fun p=>rfl) (fun p h=>⟨h.1,h.2.1,h.2.2.1,h.2.2.2.1⟩) (fun p=>by simp only [mNode,mI,mB];omega)
theorem on22:Opn Tryd.prog 22 (fun l=>[.sl (l.map ae)]) (gL gNode) (mL mNode) :=
 (Opn.slice (size:=3) Tryd.underlying22 Ty.c35 on35).map id (fun _=>rfl) (fun a h=>h) (fun _=>xR _)
theorem on24:Opn Tryd.prog 24 am gNet mNet :=
 (Opn.struct Tryd.underlying24 Ty.c24 (OpnF.cons rfl 1 Ty.c22 on22 (OpnF.cons rfl 1 Ty.c3 on3 (OpnF.cons rfl 1 Ty.c3 on3 OpnF.nil)))).map (fun p=>(⟨p.1,p.2.1,p.2.2.1⟩:Net)) (fun p=>rfl) (fun p h=>⟨h.1,h.2.1,h.2.2.1⟩) (fun p=>by simp only [mNet,mI,mB];omega)
end
section
open Go
def dig (n:Int):List UInt8:=Go.Lib.decDigits n.toNat
theorem dL {n:Int} (h:0<=n/\n<100):cE n=some (dig n):=by unfold cE itoaS;rw [if_pos h];rfl
theorem dN {n:Int} (h:n<100):(dig n).length<=2/\dig n≠[]:=by
 unfold dig;unfold Go.Lib.decDigits;split
 ·exact ⟨by simp,by simp⟩
 ·unfold Go.Lib.decDigits;rw [dif_pos (by omega)];exact ⟨by simp,by simp⟩
def numT (l:List Int):List UInt8:=if l=[] then [45] else Go.Lib.join (l.map dig) [44]
theorem takeS {α:Type} {l:List α} {k:Nat} {x:α} (h:l[k]?=some x):l.take (k+1)=l.take k++[x]:=by rw [List.take_add_one,h];rfl
theorem o6:∀ xs:List (List UInt8),(∀ x,x∈xs->x.length<=2)->Go.Lib.lens xs<=2*xs.length
 | [],_=>by simp [Go.Lib.lens]
 | x::r,h=>by
  have h1:=h x yk;have h2:=o6 r fun y hy=>h y (yn _ hy)
  simp only [Go.Lib.lens,yh,List.sum_cons,xM] at h2 ⊢;omega
theorem uS (xs:List (List UInt8)) (h:∀ x,x∈xs->x.length<=2):(Go.Lib.join xs [44]).length<=3*xs.length:=by
 cases xs with
 | nil=>rw [Go.Lib.join_nil];simp
 | cons x r =>
  have:=o6 (x::r) h;rw [Go.Lib.join_length];simp only [xM,xT] at this ⊢;omega
theorem sm (xs:List (List UInt8)) (y:List UInt8) (h:xs≠[]):Go.Lib.join (xs++[y]) [44]=Go.Lib.join xs [44]++[44]++y:=by
 cases xs with
 | nil=>exact absurd rfl h
 | cons x r =>
  rw [yB,Go.Lib.join_cons,Go.Lib.join_cons];simp [Go.Lib.joinTail]
section
variable {l:List Int} (hl:l.length≤1000) (h:∀ x,x∈l→0≤x∧x<100)
include hl h
theorem kL (k:Nat):(Go.Lib.join ((l.take k).map dig) [44]).length<=3000:=by
 have:=uS ((l.take k).map dig) fun x hx=>by obtain ⟨y,hy,rfl⟩:=yb.1 hx;exact (dN (h y (yj hy)).2).1
 rw [xW,yf] at this;omega
theorem mM:∀ (m k:Nat),k+m=l.length->iter (fun df:Int × (List (List UInt8))=>em l df.1 df.2) ((k:Int),(l.take k).map dig)=some (numT l)
 | 0,k,hk=>by
  have e:em l (k:Int) ((l.take k).map dig)=some (.inr (numT l)):=by
   have hj:=kL hl h l.length;unfold em;rw [yc (xR _)] at hj;rw [if_neg (by simp;omega),yc (by omega)];unfold numT;by_cases h0:l=[]
   ·subst h0;rfl
   ·rw [if_neg (by simpa using h0),if_neg h0];unfold strings_Join joinB;rw [if_pos ⟨by simp;omega,by omega⟩];rfl
  rw [aq];simp only [e]
 | m+1,k,hk=>by
  have hlt:k<l.length:=by omega
  have hx:l[k]?=some l[k]:=xH hlt;have hb:=h l[k] (xY hlt);generalize l[k]=x at hx hb;have e:em l (k:Int) ((l.take k).map dig)=some (.inl (((k+1:Nat):Int),(l.take (k+1)).map dig)):=by unfold em;rw [if_pos (by simp;omega),bG hx,xI,dL hb,xI,jD (by simp;omega),xI,bB (by omega),takeS hx,yM];rfl
  rw [aq];simp only [e];exact mM m (k+1) (by omega)
theorem na:gQ l=some (numT l):=mM hl h l.length 0 (by omega)
theorem ni:∀ (m k:Nat),k+m=l.length->iter (fun aY:(List UInt8) × Int=>d8 l aY.1 aY.2) (Go.Lib.join ((l.take k).map dig) [44],(k:Int))=some (numT l)
 | 0,k,hk=>by
  have e:d8 l (Go.Lib.join ((l.take k).map dig) [44]) (k:Int)=some (.inr (numT l)):=by
   unfold d8;rw [if_neg (by simp;omega),yc (by omega)];unfold numT;cases l with
   | nil=>rfl
   | cons x r =>
    have hd:=(dN (h x yk).2).2;rw [yh,Go.Lib.join_cons,if_neg (by simp [hd]),if_neg (by simp)];rfl
  rw [aq];simp only [e]
 | m + 1,k,hk=>by
  have hlt:k<l.length:=by omega
  have hx:l[k]?=some l[k]:=xH hlt;have hb:=h l[k] (xY hlt);generalize l[k]=x at hx hb;have hj:=kL hl h k;have hd:=(dN hb.2).1;have e:d8 l (Go.Lib.join ((l.take k).map dig) [44]) (k:Int)=some (.inl (Go.Lib.join ((l.take (k+1)).map dig) [44],((k+1:Nat):Int))):=by
   unfold d8;rw [if_pos (by simp;omega),bG hx,xI,bB (by omega),takeS hx,yM];by_cases h0:0<k
   ·have hne:(l.take k).map dig≠[]:=by
     intro e;have:=congrArg List.length e;rw [xW,yf,xT] at this;omega
    rw [if_pos (by simp;omega),bT (by simp only [xM,xT];omega),xI,dL hb,xI,bT (by simp only [xP,xM,xT];omega),xI];simp only [yh,y9,sm _ _ hne]
   ·have hk0:k=0:=by omega
    subst hk0;rw [if_neg (by simp),dL hb,xI];simp only [List.take_zero,y9,yW,yh,Go.Lib.join_nil,Go.Lib.join_one];rw [bT (by simp;omega),xI];rfl
  rw [aq];simp only [e];exact ni m (k+1) (by omega)
theorem oN:gG l=some (numT l):=ni hl h l.length 0 (by omega)
end
end
section
open Go
def kindsL:List (List UInt8):=[[115,111,117,114,99,101],[109,97,112],[115,99,97,110],[99,111,117,110,116],[116,101,101],[109,101,114,103,101],[115,112,108,105,116],[115,105,110,107]]
def nameT (k:Int):List UInt8:=kindsL.getD (k - 1).toNat []
def bX (x:Node):List UInt8:=nameT x.Kind++[32]++dig x.A++[32]++numT x.In++[32]++numT x.Out++[10]
def ce (n:Net):List UInt8:=[114,105,110,103,115,32]++dig n.Rings++[32]++dig n.Room++[10]
def textT (n:Net):List UInt8:=ce n++(n.Nodes.map bX).flatten
structure TNode (x:Node):Prop where
 k:1<=x.Kind/\x.Kind<=8
 a:0<=x.A/\x.A<100
 i:x.In.length<=1000/\∀ r,r∈x.In->0<=r/\r<100
 o:x.Out.length<=1000/\∀ r,r∈x.Out->0<=r/\r<100
structure TN (n:Net):Prop where
 l:n.Nodes.length<=12
 r:0<=n.Rings/\n.Rings<100
 m:0<=n.Room/\n.Room<100
 x:∀ x,x∈n.Nodes->TNode x
theorem jq {l:List Int} (hl:l.length<=1000) (h:∀ x,x∈l->0<=x/\x<100):(numT l).length<=3000:=by
 have:=kL hl h l.length;rw [yc (xR _)] at this;unfold numT;split
 ·simp
 ·exact this
theorem oV (k:Int):(nameT k).length<=6:=by
 unfold nameT;rw [xO];cases h:kindsL[(k - 1).toNat]? with
 | none=>simp
 | some x =>
  have hall:∀ y,y∈kindsL->y.length<=6:=by decide
  exact hall x (xK h)
theorem k5 {x:Node} (t:TNode x):(bX x).length<=7000:=by have h1:=oV x.Kind;have h2:=(dN t.a.2).1;have h3:=jq t.i.1 t.i.2;have h4:=jq t.o.1 t.o.2;unfold bX;simp only [xP,xM,xT];omega
theorem kH:∀ l:List Node,(∀ x,x∈l->TNode x)->((l.map bX).flatten).length<=7000*l.length
 | [],_=>by simp
 | x::l,h=>by
  have h1:=k5 (h x yk);have h2:=kH l fun y hy=>h y (yn _ hy)
  rw [yh,yi,xP,xM];omega
theorem jl {n:Net} (t:TN n):(ce n).length<=100:=by have h1:=(dN t.r.2).1;have h2:=(dN t.m.2).1;unfold ce;simp only [xP,xM,xT];omega
theorem rQ (a b:List UInt8):aX (a++b)=aX a++aX b:=by unfold aX;rw [yM]
theorem m3 (a:List UInt8):(aX a).length=a.length:=by unfold aX;rw [xW]
theorem qW (a:List UInt8):cP (aX a)=a:=by
 unfold cP aX;rw [yN];induction a with
 | nil=>rfl
 | cons b a ih=>rw [yh,ih];simp
theorem pw (ws:List (List UInt8)) (s:List UInt8) (hw:ws.length<=4) (hj:(Go.Lib.join ws [32]).length<=10000) (hp:s.length<=10000000):fU ws (aX s)=some (aX (s++Go.Lib.join ws [32]++[10])):=by unfold fU strings_Join joinB;rw [if_pos ⟨by omega,by omega⟩,xI,bT (by simp only [xM,xT];omega),xI];unfold iB ke;rw [xI,jD (by rw [m3,m3,xP];simp only [xM,xT];omega),xI,xI,<- rQ,y7]
theorem join4 (a b c d:List UInt8):Go.Lib.join [a,b,c,d] [32]=a++[32]++b++[32]++c++[32]++d:=by rw [Go.Lib.join_cons];simp [Go.Lib.joinTail]
theorem join3 (a b c:List UInt8):Go.Lib.join [a,b,c] [32]=a++[32]++b++[32]++c:=by rw [Go.Lib.join_cons];simp [Go.Lib.joinTail]
theorem ou {k:Int} (h:1<=k/\k<=8):∃ j:Nat,k=(j:Int)/\j<9/\([]::kindsL)[j]?=some (nameT k)/\j - 1<8/\kindsL[j - 1]?=some (nameT k):=by
 obtain ⟨j,rfl⟩:=zh (show 0<=k by omega);refine ⟨j,rfl,by omega,?_⟩;have:j=1∨j=2∨j=3∨j=4∨j=5∨j=6∨j=7∨j=8:=by omega
 rcases this with rfl | rfl | rfl | rfl | rfl | rfl | rfl | rfl<;>exact ⟨rfl,by decide,rfl⟩
section
variable {n:Net} (t:TN n)
include t
theorem m7:∀ (m k:Nat),k+m=n.Nodes.length->iter (fun de:Int × (List Int)=>eo n de.1 de.2) ((k:Int),aX (ce n++((n.Nodes.take k).map bX).flatten))=some (textT n,0)
 | 0,k,hk=>by
  have e:eo n (k:Int) (aX (ce n++((n.Nodes.take k).map bX).flatten))=some (.inr (textT n,0)):=by
   unfold eo;rw [if_neg (by simp;omega),yc (by omega)];unfold kn bldS;rw [if_pos ⟨by simp [aX,ce],fun x hx=>by obtain ⟨b,_,rfl⟩:=yb.1 hx;have:=b.toNat_lt;omega⟩,qW]
   rfl
  rw [aq];simp only [e]
 | m+1,k,hk=>by
  have hlt:k<n.Nodes.length:=by omega
  have hx:n.Nodes[k]?=some n.Nodes[k]:=xH hlt;have tx:=t.x n.Nodes[k] (xY hlt);generalize n.Nodes[k]=x at hx tx;obtain ⟨j,hj,hj9,hjn,_⟩:=ou tx.k;have hl1:=kH (n.Nodes.take k) fun y hy=>t.x y (yj hy)
  have hl2:=jl t;have hl3:=k5 tx;have htk:(n.Nodes.take k).length<=12:=by rw [yf];have:=t.l;omega
  have e:eo n (k:Int) (aX (ce n++((n.Nodes.take k).map bX).flatten))=some (.inl (((k+1:Nat):Int),aX (ce n++((n.Nodes.take (k+1)).map bX).flatten))):=by
   unfold eo;rw [if_pos (by simp;omega),bG hx,xI,show eC=some ([]::kindsL) from rfl,xI,hj,lc (show j<([]::kindsL).length from hj9),xI,hjn,xI,dL tx.a,xI,na tx.i.1 tx.i.2,xI,na tx.o.1 tx.o.2,xI,
    pw _ _ (by simp) (by rw [join4];unfold bX at hl3;simp only [xP,xM,xT] at hl3 ⊢;omega) (by rw [xP];omega),xI,bB (by have:=t.l;omega),takeS hx,yM,za,join4]
   unfold bX;simp only [yh,y9,yi,List.flatten_nil,zn,y7]
  rw [aq];simp only [e];exact m7 m (k+1) (by omega)
theorem n6 (hc:c6 n=some 0):eD n=some (textT n,0):=by
 have hl2:=jl t;unfold eD;rw [hc,xI,if_neg (by decide),dL t.r,xI,dL t.m,xI,show ([]:List Int)=aX [] from rfl,
  pw _ _ (by simp) (by rw [join3];unfold ce at hl2;simp only [xP,xM,xT] at hl2 ⊢;omega) (by simp),xI,join3]
 have:=m7 t n.Nodes.length 0 (by omega);simp only [List.take_zero,y9,List.flatten_nil,zn] at this;rw [<- this];unfold ce;simp only [yW,yB,y7];rfl
end
end
section
open Go
section
variable {n:Net} (t:TN n)
include t
theorem nA:∀ (m k:Nat),k+m=n.Nodes.length->iter (fun bH:(List UInt8) × Int=>ed n (textT n,0) bH.1 bH.2) (ce n++((n.Nodes.take k).map bX).flatten,(k:Int))=some true
 | 0,k,hk=>by
  have e:ed n (textT n,0) (ce n++((n.Nodes.take k).map bX).flatten) (k:Int)=some (.inr true):=by unfold ed;rw [if_neg (by simp;omega),yc (by omega)];have:(textT n==ce n++(n.Nodes.map bX).flatten)=true:=beq_self_eq_true _;simp only [this];rfl
  rw [aq];simp only [e]
 | m+1,k,hk=>by
  have hlt:k<n.Nodes.length:=by omega
  have hx:n.Nodes[k]?=some n.Nodes[k]:=xH hlt;have tx:=t.x n.Nodes[k] (xY hlt);generalize n.Nodes[k]=x at hx tx;obtain ⟨j,hj,hj9,_,hj8,hjk⟩:=ou tx.k;have hj1:(x.Kind - 1:Int)=((j - 1:Nat):Int):=by have:=tx.k;omega
  have hl1:=kH (n.Nodes.take k) fun y hy=>t.x y (yj hy)
  have hl2:=jl t;have hl3:=k5 tx;have htk:(n.Nodes.take k).length<=12:=by rw [yf];have:=t.l;omega
  have h1:=oV x.Kind;have h2:=(dN tx.a.2).1;have h3:=jq tx.i.1 tx.i.2;have h4:=jq tx.o.1 tx.o.2;have e:ed n (textT n,0) (ce n++((n.Nodes.take k).map bX).flatten) (k:Int)=some (.inl (ce n++((n.Nodes.take (k+1)).map bX).flatten,((k+1:Nat):Int))):=by
   unfold ed;rw [if_pos (by simp;omega),bG hx,xI,show iG=some kindsL from rfl,xI,fw (by omega) (by omega),hj1,lc (show j - 1<kindsL.length from hj8),xI,hjk,xI,
    bT (by simp only [xP,xM,xT];omega),xI,dL tx.a,xI,bT (by simp only [xP,xM,xT];omega),xI,bT (by simp only [xP,xM,xT];omega),xI,
    oN tx.i.1 tx.i.2,xI,bT (by simp only [xP,xM,xT];omega),xI,bT (by simp only [xP,xM,xT];omega),xI,oN tx.o.1 tx.o.2,xI,
    bT (by simp only [xP,xM,xT];omega),xI,bT (by simp only [xP,xM,xT];omega),xI,bT (by simp only [xP,xM,xT];omega),xI,bB (by have:=t.l;omega),takeS hx,yM,za]
   unfold bX;simp only [yh,y9,yi,List.flatten_nil,zn,y7]
  rw [aq];simp only [e];exact nA m (k+1) (by omega)
end
theorem qV {n:Net} {c:Int} {q:List Int} (ht:ep=some true) (hc:c6 n=some c) (hr:fV n=some (q,c)) (hN:c=0->TN n):gK n=some true:=by
 unfold gK;by_cases h0:c=0
 ·subst h0;have t:=hN rfl;have hl2:=jl t;have h1:=(dN t.r.2).1;have h2:=(dN t.m.2).1;rw [n6 t hc,xI,hr,xI,ht,xI,if_neg (by simp),dL t.r,xI,bT (by simp only [xP,xM,xT];omega),xI,bT (by simp only [xP,xM,xT];omega),xI,dL t.m,xI,
   bT (by simp only [xP,xM,xT];omega),xI,bT (by simp only [xP,xM,xT];omega),xI]
  have:=nA t n.Nodes.length 0 (by omega);simp only [List.take_zero,y9,List.flatten_nil,zn] at this;exact this
 ·have hp:eD n=some ([],c):=by
   unfold eD;rw [hc,xI,if_pos (by simpa using h0)]
  rw [hp,xI,hr,xI,ht,xI,if_pos (by simp [h0]),xI];simp
end
noncomputable section
open Go
def iterF {α β:Type} (body:α->Option (α ⊕ β)):Nat->α->Option β
 | 0,_=>none
 | k+1,s=>match body s with
  | none=>none
  | some (.inr r)=>some r
  | some (.inl s')=>iterF body k s'
theorem oD {α β:Type} {bF body:α->Option (α ⊕ β)} (hb:∀ s x,bF s=some x->body s=some x):∀ (k:Nat) (s:α) (r:β),iterF bF k s=some r->iter body s=some r
 | 0,s,r,h=>by cases h
 | k+1,s,r,h=>by
  unfold iterF at h;rw [aq];cases e:bF s with
  | none=>rw [e] at h;cases h
  | some x =>
   rw [e] at h;simp only [hb s x e];cases x with
   | inr y=>cases h;rfl
   | inl s'=>exact oD hb k s' r h
def lineF (p0:Int) (p1:List UInt8) (p2 p3:Int) (p4:List Node):Option (Bool × Int × Int × (List Node)) :=
 (Option.bind (gl p1 ([32]:List UInt8)) fun x2=>(if (p0==0)=true then (Option.bind (if (((x2).length:Int) != 3)=true then (some true) else (Option.bind (idx x2 0) fun x3=>(some (!(x3==[114,105,110,103,115]))))) fun c4=>(if c4=true then (some (false,p2,p3,p4)) else (Option.bind (idx x2 1) fun x9=>(Option.bind (fh x9) fun x10=>(Option.bind (idx x2 2) fun x11=>(Option.bind (fh x11) fun x12=>(some (true,x10,x12,p4)))))))) else (if (((x2).length:Int) != 4)=true then (some (false,p2,p3,p4)) else (Option.bind eC fun x14=>(iterF (fun e6:Int=>iD p2 x2 p3 p4 x14 e6) 20 0)))))
theorem hZ {p0:Int} {p1:List UInt8} {p2 p3:Int} {p4:List Node} {r:Bool × Int × Int × (List Node)} (h:lineF p0 p1 p2 p3 p4=some r):fa p0 p1 p2 p3 p4=some r:=by
 unfold lineF at h;unfold fa;cases hs:gl p1 [32] with
 | none=>rw [hs] at h;cases h
 | some x2 =>
  rw [hs,xI] at h;rw [xI];split at h
  ·rename_i h0;rw [if_pos h0];exact h
  ·rename_i h0;rw [if_neg h0];split at h
   ·rename_i h1;rw [if_pos h1];exact h
   ·rename_i h1;rw [if_neg h1,show eC=some ([]::kindsL) from rfl,xI];rw [show eC=some ([]::kindsL) from rfl,xI] at h;exact oD (fun _ _ h=>h) 20 0 r h
theorem hU {x2:List (List UInt8)} {k:Nat} {t:List UInt8} {a b:Int} {nd:List Node} {r:Int × Int × List Node} (h:x2[k]?=some t) (hk:k+1<x2.length) (hl:x2.length<=1000) (hr:fa (k:Int) t a b nd=some (true,r)) :
  cx x2 (k:Int) a b nd=some (.inl (((k+1:Nat):Int),r.1,r.2.1,r.2.2)):=by
 unfold cx
 have hw:IntKind.i64.wrap ((x2.length:Int) - 1)=(x2.length:Int) - 1:=fw (by omega) (by omega)
 have hne:((k:Int)==(x2.length:Int) - 1)=false:=by rw [beq_eq_false_iff_ne];omega
 rw [if_pos (by simp;omega),bG h,xI,hw,hne,if_neg (by decide),if_pos (by decide),hr,xI,xI]
 simp only [Bool.not_true]
 rw [if_neg (by decide),bB (by omega)]
def meetL:List (List UInt8):=[[114,105,110,103,115,32,51,32,49],[115,111,117,114,99,101,32,48,32,45,32,48],[115,111,117,114,99,101,32,49,32,45,32,49],[109,101,114,103,101,32,48,32,48,44,49,32,50],[115,105,110,107,32,48,32,50,32,45],[]]
def meetT:Net:=⟨[⟨1,0,[],[0]⟩,⟨1,1,[],[1]⟩,⟨6,0,[0,1],[2]⟩,⟨8,0,[2],[]⟩],3,1⟩
theorem uV:TN meetT:=⟨by decide,by decide,by decide,fun x hx=>by simp only [meetT,zl,List.not_mem_nil,or_false] at hx;rcases hx with rfl | rfl | rfl | rfl<;>exact ⟨by decide,by decide,⟨by decide,by decide⟩,⟨by decide,by decide⟩⟩⟩
theorem rE (hc:c6 meetT=some 0):gS (textT meetT)=some (meetT,0,0):=by
 have hs:gl (textT meetT) [10]=some meetL:=by decide +kernel
 have s0:cx meetL ((0:Nat):Int) 0 0 []=some (.inl (((0+1:Nat):Int),3,1,[])):=hU (r:=(3,1,[])) rfl (by decide) (by decide) (hZ (by decide +kernel));have s1:cx meetL ((0+1:Nat):Int) 3 1 []=some (.inl (((0+1+1:Nat):Int),3,1,meetT.Nodes.take 1)):=hU (r:=(3,1,meetT.Nodes.take 1)) rfl (by decide) (by decide) (hZ (by decide +kernel));have s2:cx meetL ((0+1+1:Nat):Int) 3 1 (meetT.Nodes.take 1)=some (.inl (((0+1+1+1:Nat):Int),3,1,meetT.Nodes.take 2)):=hU (r:=(3,1,meetT.Nodes.take 2)) rfl (by decide) (by decide) (hZ (by decide +kernel));have s3:cx meetL ((0+1+1+1:Nat):Int) 3 1 (meetT.Nodes.take 2)=some (.inl (((0+1+1+1+1:Nat):Int),3,1,meetT.Nodes.take 3)):=hU (r:=(3,1,meetT.Nodes.take 3)) rfl (by decide) (by decide) (hZ (by decide +kernel));have s4:cx meetL ((0+1+1+1+1:Nat):Int) 3 1 (meetT.Nodes.take 3)=some (.inl (((0+1+1+1+1+1:Nat):Int),3,1,meetT.Nodes)):=hU (r:=(3,1,meetT.Nodes)) rfl (by decide) (by decide) (hZ (by decide +kernel));have s5:cx meetL ((0+1+1+1+1+1:Nat):Int) 3 1 meetT.Nodes=some (.inl (6,3,1,meetT.Nodes)):=rfl;have s6:cx meetL 6 3 1 meetT.Nodes=some (.inr (meetT,0,0)):=by unfold cx;rw [if_neg (by decide),show c6 (⟨meetT.Nodes,3,1⟩:Net)=some 0 from hc,xI,if_neg (by decide)];rfl
 unfold gS;rw [if_neg (by decide +kernel),hs,xI];rw [aq];simp only [yy] at s0;simp only [s0];rw [aq];simp only [s1];rw [aq];simp only [s2];rw [aq];simp only [s3];rw [aq];simp only [s4];rw [aq];simp only [s5];rw [aq];simp only [s6]
theorem uK (hc:c6 meetT=some 0) (hs:fW meetT meetT=some true):ep=some true:=by unfold ep;rw [show gP=some meetT from rfl,xI,n6 uV hc,xI,rE hc,xI,if_pos (by decide),if_pos (by decide),if_pos (by decide),if_pos (by decide +kernel),xI,hs];rfl
end
def bU:Ends:=⟨-1, -1⟩
theorem oq (R:Nat) (hR:R<=16):∀ (n k:Nat) (xs:List Ends),R - k<=n->1<=k->k<=R->xs.length=R->xs.take k=List.replicate k bU ->
  iter (fun ss:Int × List Ends=>d9 ss.1 ss.2) ((k:Int),xs)=some (List.replicate R bU)
 | n,k,xs,hn,h1,h2,hl,ht=>by
  rw [aq];by_cases hk:k=R
  ·subst hk;unfold d9;rw [if_neg (by simp [hl])];have:xs=List.replicate k bU:=by rw [<- ht,yc (by omega)]
   simp [this]
  ·have hkR:k<R:=by omega
   have v1:vwok xs.length (k:Int) (xs.length:Int)=some ():=by unfold vwok;rw [if_pos (by omega)]
   have v2:vwok xs.length 0 (k:Int)=some ():=by unfold vwok;rw [if_pos (by omega)]
   have v3:vwok xs.length ((((k:Int)).toNat:Nat):Int) ((((k:Int).toNat:Nat):Int)+((((xs.length:Int)).toNat - (k:Int).toNat:Nat):Int))=some ():=by unfold vwok;rw [if_pos (by omega)]
   have v4:vwok xs.length ((((0:Int)).toNat:Nat):Int) ((((0:Int).toNat:Nat):Int)+(((k:Int).toNat - (0:Int).toNat:Nat):Int))=some ():=by unfold vwok;rw [if_pos (by simp;omega)]
   have hstep:d9 (k:Int) xs=some (.inl (((k+min (R - k) k:Nat):Int),xs.take k++(xs.take k).take (R - k)++xs.drop (k+min (R - k) k))):=by
    unfold d9;rw [if_pos (by simp;omega),v1,xI,v2,xI,v3,xI,v4,xI];have e1:IntKind.i64.wrap ((k:Int)+((min (((xs.length:Int)).toNat - (k:Int).toNat) ((k:Int).toNat - (0:Int).toNat):Nat):Int))=((k+min (R - k) k:Nat):Int):=by rw [fw (by omega) (by simp only [yY,Int.toNat_zero,hl];omega)];simp only [yY,Int.toNat_zero,hl];omega
    rw [e1];simp only [cpy,yY,Int.toNat_zero,hl,yJ,Nat.sub_zero,yf];congr 5;omega
   rw [hstep];simp only;have hm:1<=min (R - k) k:=by omega
   match n,hn with
   | 0,hn=>omega
   | n+1,hn =>
    refine oq R hR n (k+min (R - k) k) _ (by omega) (by omega) (by omega) (by simp;omega) ?_
    rw [ht,List.take_replicate]
    have e:(List.replicate k bU++List.replicate (min (R - k) k) bU).length=k+min (R - k) k:=by simp
    rw [<- e,List.take_left,e]
    simp
theorem uF (R:Nat) (hR:R<=16):iH (IntKind.u64.wrap (([(⟨(-1),(-1)⟩:Ends)]:List Ends).length:Int)) (IntKind.u64.wrap (R:Int))=some (0,(R:Int)):=by
 have:R=0∨R=1∨R=2∨R=3∨R=4∨R=5∨R=6∨R=7∨R=8∨R=9∨R=10∨R=11∨R=12∨R=13∨R=14∨R=15∨R=16:=by omega
 rcases this with rfl | rfl | rfl | rfl | rfl | rfl | rfl | rfl | rfl | rfl | rfl | rfl | rfl | rfl | rfl | rfl | rfl<;>rfl
theorem r8 (R:Nat) (hR:R<=16):gJ ([(⟨(-1),(-1)⟩:Ends)]:List Ends) (R:Int)=some (List.replicate R bU):=by
 unfold gJ;rw [if_neg (by simp),uF R hR,xI,if_neg (by simp;omega),fw (show -9223372036854775808<=(R:Int) by omega) (show (R:Int)<=9223372036854775807 by omega)];have hmk:mk (R:Int) (⟨0,0⟩:Ends)=some (List.replicate R ⟨0,0⟩):=by unfold mk;rw [if_pos (by omega)];rfl
 rw [hmk,xI];simp only [List.length_replicate,List.length_singleton];by_cases h0:R=0
 ·subst h0;rw [aq];unfold d9;simp [cpy]
 ·have e:min R 1=1:=by omega
  rw [e];have hc:cpy (List.replicate R (⟨0,0⟩:Ends)) 0 R [(⟨(-1),(-1)⟩:Ends)]=bU::(List.replicate R (⟨0,0⟩:Ends)).drop 1:=by unfold cpy;have:([(⟨(-1),(-1)⟩:Ends)]:List Ends).take R=[⟨-1, -1⟩]:=yc (by simp;omega);rw [this];simp [e,bU]
  rw [hc];exact oq R hR R 1 _ (by omega) (by omega) (by omega) (by simp;omega) (by simp)
def bM (k:Int):Option (Int × Int):=if k=1 then some (0,1) else if k=2∨k=3∨k=4 then some (1,1) else if k=5∨k=7 then some (1, -1) else if k=6 then some (-1,1) else if k=8 then some (1,0) else none
def aQ (n:Nat) (want:Int):Bool:=decide ((n:Int)=want∨want<0/\0<n)
def badA (x:Node):Bool:=decide (x.A<0∨x.Kind=1/\4<=x.A∨x.Kind=2/\3<x.A∨x.Kind≠1/\x.Kind≠2/\x.A≠0)
def bL (x:Node):Int:=match bM x.Kind with
 | none=>5
 | some (i,o)=>if (aQ x.In.length i && aQ x.Out.length o)=false then 4 else if badA x then 3 else 0
def cc (R i:Int):List Int->List Ends->Int ⊕ List Ends
 | [],l=>.inr l
 | r::rs,l=>if r<0∨R<=r then .inl 3 else match l[r.toNat]? with
  | none=>.inl 99
  | some e=>if 0<=e.dst then .inl 6 else cc R i rs (l.set r.toNat ⟨e.src,i⟩)
def bp (R i:Int):List Int->List Ends->Int ⊕ List Ends
 | [],l=>.inr l
 | r::rs,l=>if r<0∨R<=r then .inl 3 else match l[r.toNat]? with
  | none=>.inl 99
  | some e=>if 0<=e.src then .inl 6 else bp R i rs (l.set r.toNat ⟨i,e.dst⟩)
def oneN (R:Int) (i:Nat) (x:Node) (l:List Ends):Int ⊕ List Ends :=
 if bL x≠0 then .inl (bL x) else match cc R i x.In l with
  | .inl e=>.inl e
  | .inr l1=>bp R i x.Out l1
def b7 (R:Int):Nat->List Node->Nat->List Ends->Int ⊕ (Nat × List Ends)
 | _,[],s,l=>.inr (s,l)
 | i,x::xs,s,l=>match oneN R i x l with
  | .inl e=>.inl e
  | .inr l1=>b7 R (i+1) xs (if x.Kind=8 then s+1 else s) l1
def cT (n:Net):Int ⊕ List Ends :=
 if n.Nodes.length<1∨12<n.Nodes.length∨n.Rings<0∨16<n.Rings then .inl 2
 else if n.Room<1∨6<n.Room then .inl 3
 else match b7 n.Rings 0 n.Nodes 0 (List.replicate n.Rings.toNat bU) with
  | .inl e=>.inl e
  | .inr (s,l)=>if l.any (fun e=>decide (e.src<0∨e.dst<0)) then .inl 9 else if s≠1 then .inl 4 else .inr l
theorem iX (R i:Int):∀ (rs:List Int) (l l1:List Ends),cc R i rs l=.inr l1->l1.length=l.length
 | [],l,l1,h=>by cases h;rfl
 | r::rs,l,l1,h=>by
  unfold cc at h;split at h
  ·cases h
  ·split at h
   ·cases h
   ·split at h
    ·cases h
    ·have:=iX R i rs _ l1 h;simpa using this
theorem i6 (R i:Int):∀ (rs:List Int) (l l1:List Ends),bp R i rs l=.inr l1->l1.length=l.length
 | [],l,l1,h=>by cases h;rfl
 | r::rs,l,l1,h=>by
  unfold bp at h;split at h
  ·cases h
  ·split at h
   ·cases h
   ·split at h
    ·cases h
    ·have:=i6 R i rs _ l1 h;simpa using this
theorem nJ {R:Int} {i:Nat} {x:Node} {l l1:List Ends} (h:oneN R i x l=.inr l1):l1.length=l.length:=by
 unfold oneN at h;split at h
 ·cases h
 ·split at h
  ·cases h
  ·rename_i l2 h2;exact (i6 R i _ _ _ h).trans (iX R i _ _ _ h2)
theorem t6 (k:Int):g6 k=some (match bM k with | some (i,o)=>(i,o,true) | none=>(0,0,false)):=by
 unfold g6 fc fY bM;by_cases h1:k=1
 ·subst h1;rfl
 by_cases h2:k=2
 ·subst h2;rfl
 by_cases h3:k=3
 ·subst h3;rfl
 by_cases h4:k=4
 ·subst h4;rfl
 by_cases h5:k=5
 ·subst h5;rfl
 by_cases h6:k=6
 ·subst h6;rfl
 by_cases h7:k=7
 ·subst h7;rfl
 by_cases h8:k=8
 ·subst h8;rfl
 simp [h1,h2,h3,h4,h5,h6,h7,h8]
theorem uo (n:Nat) (w:Int):gb (n:Int) w=some (aQ n w):=by unfold gb aQ;congr 1;rw [yC];simp
theorem uN (n:Net) (s:Int) (i:Nat) (x:Node) (hR:n.Rings<=16) (k:Nat) (l:List Ends) (hlt:k<x.Out.length) (hx:x.Out.length<=1099511627776) (hl:(l.length:Int)=n.Rings) :
  eB n i x s k l=if x.Out[k]<0∨n.Rings<=x.Out[k] then some (.inr (.inr ([],3))) else match l[x.Out[k].toNat]? with
   | none=>none
   | some e=>if 0<=e.src then some (.inr (.inr ([],6))) else some (.inl (((k+1:Nat):Int),l.set x.Out[k].toNat ⟨i,e.dst⟩)):=by
 unfold eB
 rw [if_pos (by simp;omega),bG (xH hlt),xI]
 by_cases hr:x.Out[k]<0∨n.Rings<=x.Out[k]
 ·rw [if_pos (by simp;omega),if_pos hr];rfl
 ·rw [if_neg (by simp;omega),if_neg hr]
  have hrl:x.Out[k].toNat<l.length:=by omega
  have hix:ixN l x.Out[k]=some x.Out[k].toNat:=by unfold ixN;rw [if_pos (by omega)]
  have hg:=xH hrl
  simp only [hix,hg,xI,bB (show k<4611686018427387904 by omega)]
  by_cases he:0<=l[x.Out[k].toNat].src
  ·rw [if_pos (by simp;omega),if_pos he];rfl
  ·rw [if_neg (by simp;omega),if_neg he]
theorem u1 (n:Net) (s:Int) (i:Nat) (x:Node) (hR:n.Rings<=16) (k:Nat) (l:List Ends) (hlt:k<x.In.length) (hx:x.In.length<=1099511627776) (hl:(l.length:Int)=n.Rings) :
  ew n i x s k l=if x.In[k]<0∨n.Rings<=x.In[k] then some (.inr (.inr ([],3))) else match l[x.In[k].toNat]? with
   | none=>none
   | some e=>if 0<=e.dst then some (.inr (.inr ([],6))) else some (.inl (((k+1:Nat):Int),l.set x.In[k].toNat ⟨e.src,i⟩)):=by
 unfold ew
 rw [if_pos (by simp;omega),bG (xH hlt),xI]
 by_cases hr:x.In[k]<0∨n.Rings<=x.In[k]
 ·rw [if_pos (by simp;omega),if_pos hr];rfl
 ·rw [if_neg (by simp;omega),if_neg hr]
  have hrl:x.In[k].toNat<l.length:=by omega
  have hix:ixN l x.In[k]=some x.In[k].toNat:=by unfold ixN;rw [if_pos (by omega)]
  have hg:=xH hrl
  simp only [hix,hg,xI,bB (show k<4611686018427387904 by omega)]
  by_cases he:0<=l[x.In[k].toNat].dst
  ·rw [if_pos (by simp;omega),if_pos he];rfl
  ·rw [if_neg (by simp;omega),if_neg he]
theorem oX (n:Net) (s:Int) (i:Nat) (x:Node) (hx:x.Out.length<=1099511627776) (hi:i<=12) (hR:n.Rings<=16) :
  ∀ (m k:Nat) (l:List Ends),k+m=x.Out.length->(l.length:Int)=n.Rings ->
  iter (fun ss:Int × List Ends=>eB n i x s ss.1 ss.2) ((k:Int),l)=match bp n.Rings i (x.Out.drop k) l with
   | .inl e=>some (.inr ([],e))
   | .inr l1=>some (.inl (s,((i+1:Nat):Int),l1))
 | 0,k,l,h,hl=>by
  have hk:k=x.Out.length:=by omega
  subst hk;have:eB n i x s (x.Out.length:Int) l=some (.inr (.inl (s,((i+1:Nat):Int),l))):=by unfold eB;rw [if_neg (by simp),bB (by omega)];rfl
  rw [aq,yH];simp only [this,bp]
 | m+1,k,l,h,hl=>by
  have hlt:k<x.Out.length:=by omega
  rw [aq,xZ hlt];simp only [bp,uN n s i x hR k l hlt hx hl];by_cases hr:x.Out[k]<0∨n.Rings<=x.Out[k]
  ·simp only [if_pos hr]
  ·simp only [if_neg hr];have hrl:x.Out[k].toNat<l.length:=by omega
   simp only [xH hrl];by_cases he:0<=l[x.Out[k].toNat].src
   ·simp only [if_pos he]
   ·simp only [if_neg he];exact oX n s i x hx hi hR m (k+1) _ (by omega) (by simpa using hl)
theorem oC (n:Net) (s:Int) (i:Nat) (x:Node) (hx:x.Out.length<=1099511627776) (hx2:x.In.length<=1099511627776) (hi:i<=12) (hR:n.Rings<=16) :
  ∀ (m k:Nat) (l:List Ends),k+m=x.In.length->(l.length:Int)=n.Rings ->
  iter (fun ss:Int × List Ends=>ew n i x s ss.1 ss.2) ((k:Int),l)=match (match cc n.Rings i (x.In.drop k) l with | .inl e=>Sum.inl e | .inr l1=>bp n.Rings i x.Out l1) with
   | .inl e=>some (.inr ([],e))
   | .inr l1=>some (.inl (s,((i+1:Nat):Int),l1))
 | 0,k,l,h,hl=>by
  have hk:k=x.In.length:=by omega
  subst hk;have:=oX n s i x hx hi hR x.Out.length 0 l (by omega) hl;simp only [yJ,yy] at this;have h2:ew n i x s (x.In.length:Int) l=Option.map Sum.inr (match bp n.Rings i x.Out l with | .inl e=>some (.inr ([],e)) | .inr l1=>some (.inl (s,((i+1:Nat):Int),l1))):=by unfold ew;rw [if_neg (by simp)];rw [<- this]
  rw [aq,yH];simp only [h2,cc];cases bp n.Rings i x.Out l<;>rfl
 | m+1,k,l,h,hl=>by
  have hlt:k<x.In.length:=by omega
  rw [aq,xZ hlt];simp only [cc,u1 n s i x hR k l hlt hx2 hl];by_cases hr:x.In[k]<0∨n.Rings<=x.In[k]
  ·simp only [if_pos hr]
  ·simp only [if_neg hr];have hrl:x.In[k].toNat<l.length:=by omega
   simp only [xH hrl];by_cases he:0<=l[x.In[k].toNat].dst
   ·simp only [if_pos he]
   ·simp only [if_neg he];exact oC n s i x hx hx2 hi hR m (k+1) _ (by omega) (by simpa using hl)
theorem uO (x:Node):((decide (x.A<0)) || (if (x.Kind==1)=true then ((decide (x.A >= 4)) || (if (x.Kind==2)=true then ((decide (x.A > 3)) || ((x.Kind != 1) && ((x.Kind != 2) && x.A != 0))) else ((x.Kind != 1) && ((x.Kind != 2) && x.A != 0)))) else (if (x.Kind==2)=true then ((decide (x.A > 3)) || ((x.Kind != 1) && ((x.Kind != 2) && x.A != 0))) else ((x.Kind != 1) && ((x.Kind != 2) && x.A != 0)))))=badA x:=by
 unfold badA;by_cases h1:x.Kind=1
 ·rw [yC];simp [h1]
 ·by_cases h2:x.Kind=2
  ·rw [yC];simp [h1,h2]
  ·rw [yC];simp [h1,h2]
theorem uC (s:Int) (l:List Ends) (hl:l.length<=16):iter (fun ss:Int=>fe s l ss) 0=some (if l.any (fun e=>decide (e.src<0∨e.dst<0)) then ([],9) else if s≠1 then ([],4) else (l,0)):=by
 have:=kp (σ:=Unit) l (by omega) (fun k _=>(k:Int)) (body:=fun ss=>fe s l ss)
  (fun k e _=>if e.src<0∨e.dst<0 then some (.inr ([],9)) else some (.inl ())) (fun _=>if s≠1 then some ([],4) else some (l,0)) ()
  (fun k e _ hk hlt _ h2 h3=>by
   unfold fe;rw [h2,lc hlt,h3];simp only [if_true,xI,hk];by_cases h:e.src<0∨e.dst<0
   ·rw [if_pos (by simp;omega),if_pos h];rfl
   ·rw [if_neg (by simp;omega),if_neg h])
  (fun _ h=>by unfold fe;rw [h];by_cases hs:s=1<;>simp [hs])
 refine Eq.trans this ?_;have key:∀ (ys:List Ends) (k:Nat),cS (σ:=Unit) (ρ:=List Ends × Int) (fun k e _=>if e.src<0∨e.dst<0 then some (.inr ([],9)) else some (.inl ())) (fun _=>if s≠1 then some ([],4) else some (l,0)) k ys ()=some (if ys.any (fun e=>decide (e.src<0∨e.dst<0)) then ([],9) else if s≠1 then ([],4) else (l,0)):=by
  intro ys;induction ys with
  | nil=>intro k;simp only [cS,List.any_nil];by_cases hs:s=1<;>simp [hs]
  | cons y ys ih =>
   intro k;unfold cS;by_cases h:y.src<0∨y.dst<0
   ·rw [if_pos h];simp [h]
   ·rw [if_neg h];simp only;rw [ih];simp [h]
 exact key l 0
theorem oJ (n:Net) (hn:n.Nodes.length<=12) (hR0:0<=n.Rings) (hR:n.Rings<=16) (hio:∀ x∈n.Nodes,x.In.length<=1099511627776/\x.Out.length<=1099511627776) :
  ∀ (m k s:Nat) (l:List Ends),k+m=n.Nodes.length->s<=k->(l.length:Int)=n.Rings ->
  iter (fun ss:Int × Int × List Ends=>eA n ss.1 ss.2.1 ss.2.2) ((s:Int),(k:Int),l)=some (match b7 n.Rings k (n.Nodes.drop k) s l with
   | .inl e=>([],e)
   | .inr (s,l)=>if l.any (fun e=>decide (e.src<0∨e.dst<0)) then ([],9) else if s≠1 then ([],4) else (l,0))
 | 0,k,s,l,h,hs,hl=>by
  have hk:k=n.Nodes.length:=by omega
  subst hk;have h5:eA n s (n.Nodes.length:Int) l=some (.inr (if l.any (fun e=>decide (e.src<0∨e.dst<0)) then ([],9) else if (s:Int)≠1 then ([],4) else (l,0))):=by unfold eA;rw [if_neg (by simp),uC _ _ (by omega)];rfl
  have:((s:Int)≠1) ↔ (s≠1):=by omega
  rw [aq,yH];simp only [h5,b7,this]
 | m + 1,k,s,l,h,hs,hl=>by
  have hlt:k<n.Nodes.length:=by omega
  have hmem:n.Nodes[k]∈n.Nodes:=xY hlt;rw [aq,xZ hlt];simp only [b7];have step:eA n s k l=match oneN n.Rings k n.Nodes[k] l with
    | .inl e=>some (.inr ([],e))
    | .inr l1=>some (.inl (((if n.Nodes[k].Kind=8 then s+1 else s:Nat):Int),((k+1:Nat):Int),l1)):=by
   unfold eA
   rw [if_pos (by simp;omega),bG (xH hlt),xI,t6,xI]
   generalize n.Nodes[k]=x at hmem
   unfold oneN bL
   cases ha:bM x.Kind with
   | none=>simp
   | some io =>
    obtain ⟨i0,o0⟩:=io
    simp only [Bool.not_true,xS,if_false,uo,xI]
    have hfit:(if (!aQ x.In.length i0)=true then some true else some (!aQ x.Out.length o0))=some (!(aQ x.In.length i0 && aQ x.Out.length o0)):=by cases aQ x.In.length i0<;>simp
    rw [hfit,xI]
    by_cases hf:(aQ x.In.length i0 && aQ x.Out.length o0)=false
    ·rw [if_pos (by simp [hf])]
     simp [hf]
    ·have hf':(aQ x.In.length i0 && aQ x.Out.length o0)=true:=by simpa using hf
     rw [if_neg (by simp [hf']),uO]
     simp only [hf',Bool.true_eq_false,if_false]
     by_cases hb:badA x=true
     ·simp [hb]
     ·simp only [hb,if_false,xS,ne_eq,not_true_eq_false]
      obtain ⟨h1,h2⟩:=hio x hmem
      have k3:∀ s':Int,fg n k l x s'=match (match cc n.Rings k x.In l with | .inl e=>Sum.inl e | .inr l1=>bp n.Rings k x.Out l1) with
        | .inl e=>some (.inr ([],e))
        | .inr l1=>some (.inl (s',((k+1:Nat):Int),l1)):=fun s'=>by
       unfold fg
       have:=oC n s' k x h2 h1 (by omega) hR x.In.length 0 l (by omega) hl
       simpa using this
      by_cases h8:x.Kind=8
      ·rw [if_pos (by simp [h8]),k3,bB (by omega)]
       simp only [h8,if_true]
      ·rw [if_neg (by simp [h8]),k3]
       simp only [h8,if_false]
  simp only [step];cases ho:oneN n.Rings k n.Nodes[k] l with
  | inl e=>rfl
  | inr l1 =>
   simp only;exact oJ n hn hR0 hR hio m (k+1) _ l1 (by omega) (by split<;>omega) (by rw [nJ ho];exact hl)
theorem rk (n:Net) (hio:∀ x∈n.Nodes,x.In.length<=1099511627776/\x.Out.length<=1099511627776):hE n=some (match cT n with | .inl e=>([],e) | .inr l=>(l,0)):=by
 unfold hE cT;by_cases h1:n.Nodes.length<1∨12<n.Nodes.length∨n.Rings<0∨16<n.Rings
 ·rw [if_pos (by simp;omega),if_pos h1]
 rw [if_neg (by simp;omega),if_neg h1];by_cases h2:n.Room<1∨6<n.Room
 ·rw [if_pos (by simp;omega),if_pos h2]
 rw [if_neg (by simp;omega),if_neg h2];have hRn:n.Rings=((n.Rings.toNat:Nat):Int):=by omega
 rw [hRn,r8 _ (by omega),xI,<- hRn];have:=oJ n (by omega) (by omega) (by omega) hio n.Nodes.length 0 0 (List.replicate n.Rings.toNat bU) (by omega) (by omega) (by simp;omega);simp only [yy,yJ] at this;rw [this];cases b7 n.Rings 0 n.Nodes 0 (List.replicate n.Rings.toNat bU) with
 | inl e=>rfl
 | inr q =>
  obtain ⟨s,l⟩:=q;simp only;split
  ·rfl
  ·split<;>rfl
theorem mY (R i:Int) (hi:0<=i):∀ (rs:List Int) (l l1:List Ends),(l.length:Int)=R->cc R i rs l=.inr l1 ->
  (∀ r∈rs,0<=r/\r<R/\∀ e,l[r.toNat]?=some e->e.dst<0)/\rs.Nodup/\∀ j:Nat,l1[j]?=if (j:Int)∈rs then (l[j]?).map (fun e=>⟨e.src,i⟩) else l[j]?
 | [],l,l1,hl,h=>by cases h;exact ⟨fun r hr=>by simp at hr,zg,fun j=>by simp⟩
 | r :: rs,l,l1,hl,h=>by
  unfold cc at h;split at h
  ·cases h
  ·rename_i hr;split at h
   ·cases h
   ·rename_i e he;split at h
    ·cases h
    ·rename_i hd;have hlt:r.toNat<l.length:=(xG.1 he).1;obtain ⟨h1,h2,h3⟩:=mY R i hi rs _ l1 (by simpa using hl) h;have hnot:r ∉ rs:=fun hm=>by
      have:=(h1 r hm).2.2 ⟨e.src,i⟩ (by rw [xV,if_pos rfl,if_pos hlt]);simp at this;omega
     refine ⟨fun q hq=>?_,zD.2 ⟨hnot,h2⟩,fun j=>?_⟩
     ·rcases zl.1 hq with rfl | hq
      ·exact ⟨by omega,by omega,fun e' he'=>by rw [he] at he';cases he';omega⟩
      ·obtain ⟨a,b,c⟩:=h1 q hq;refine ⟨a,b,fun e' he'=>?_⟩;have hne:q≠r:=fun e=>hnot (e▸hq)
       exact c e' (by rw [xV,if_neg (by omega)];exact he')
     ·rw [h3 j,xV];by_cases hj:(j:Int)=r
      ·have hjr:r.toNat=j:=by omega
       rw [if_neg (by rw [hj];exact hnot),if_pos hjr,if_pos hlt,if_pos (by rw [hj];exact yk),<- hjr,he];rfl
      ·have hjr:¬ r.toNat=j:=by omega
       rw [if_neg hjr];by_cases hm:(j:Int)∈rs
       ·rw [if_pos hm,if_pos (yn _ hm)]
       ·rw [if_neg hm,if_neg (by simp [hj,hm])]
theorem mV (R i:Int) (hi:0<=i):∀ (rs:List Int) (l l1:List Ends),(l.length:Int)=R->bp R i rs l=.inr l1 ->
  (∀ r∈rs,0<=r/\r<R/\∀ e,l[r.toNat]?=some e->e.src<0)/\rs.Nodup/\∀ j:Nat,l1[j]?=if (j:Int)∈rs then (l[j]?).map (fun e=>⟨i,e.dst⟩) else l[j]?
 | [],l,l1,hl,h=>by cases h;exact ⟨fun r hr=>by simp at hr,zg,fun j=>by simp⟩
 | r :: rs,l,l1,hl,h=>by
  unfold bp at h;split at h
  ·cases h
  ·rename_i hr;split at h
   ·cases h
   ·rename_i e he;split at h
    ·cases h
    ·rename_i hd;have hlt:r.toNat<l.length:=(xG.1 he).1;obtain ⟨h1,h2,h3⟩:=mV R i hi rs _ l1 (by simpa using hl) h;have hnot:r ∉ rs:=fun hm=>by
      have:=(h1 r hm).2.2 ⟨i,e.dst⟩ (by rw [xV,if_pos rfl,if_pos hlt]);simp at this;omega
     refine ⟨fun q hq=>?_,zD.2 ⟨hnot,h2⟩,fun j=>?_⟩
     ·rcases zl.1 hq with rfl | hq
      ·exact ⟨by omega,by omega,fun e' he'=>by rw [he] at he';cases he';omega⟩
      ·obtain ⟨a,b,c⟩:=h1 q hq;refine ⟨a,b,fun e' he'=>?_⟩;have hne:q≠r:=fun e=>hnot (e▸hq)
       exact c e' (by rw [xV,if_neg (by omega)];exact he')
     ·rw [h3 j,xV];by_cases hj:(j:Int)=r
      ·have hjr:r.toNat=j:=by omega
       rw [if_neg (by rw [hj];exact hnot),if_pos hjr,if_pos hlt,if_pos (by rw [hj];exact yk),<- hjr,he];rfl
      ·have hjr:¬ r.toNat=j:=by omega
       rw [if_neg hjr];by_cases hm:(j:Int)∈rs
       ·rw [if_pos hm,if_pos (yn _ hm)]
       ·rw [if_neg hm,if_neg (by simp [hj,hm])]
structure Looked (ns:List Node) (R:Int) (k:Nat) (l:List Ends):Prop where
 len:(l.length:Int)=R
 src:∀ (j:Nat) e,l[j]?=some e->(e.src<0∨∃ (i:Nat) (x:Node),i<k/\ns[i]?=some x/\e.src=i/\(j:Int)∈x.Out)
 dst:∀ (j:Nat) e,l[j]?=some e->(e.dst<0∨∃ (i:Nat) (x:Node),i<k/\ns[i]?=some x/\e.dst=i/\(j:Int)∈x.In)
 node:∀ (i:Nat) x,i<k->ns[i]?=some x->bL x=0/\x.In.Nodup/\x.Out.Nodup /\
  (∀ r∈x.In,0<=r/\r<R/\∃ e,l[r.toNat]?=some e/\e.dst=i)/\(∀ r∈x.Out,0<=r/\r<R/\∃ e,l[r.toNat]?=some e/\e.src=i)
theorem Looked.one {ns:List Node} {R:Int} {k:Nat} {l l1:List Ends} {x:Node} (h:Looked ns R k l) (hx:ns[k]?=some x) (ho:oneN R k x l=.inr l1):Looked ns R (k+1) l1:=by
 unfold oneN at ho;split at ho
 ·cases ho
 ·rename_i hne;split at ho
  ·cases ho
  ·rename_i l2 h2;have hl2:(l2.length:Int)=R:=by rw [iX R k _ _ _ h2];exact h.len
   obtain ⟨a1,a2,a3⟩:=mY R k (by omega) _ _ _ h.len h2;obtain ⟨b1,b2,b3⟩:=mV R k (by omega) _ _ _ hl2 ho;have hent:∀ (j:Nat) e1,l1[j]?=some e1->∃ e,l[j]?=some e/\e1.src=(if (j:Int)∈x.Out then (k:Int) else e.src)/\e1.dst=(if (j:Int)∈x.In then (k:Int) else e.dst):=fun j e1 he1=>by
    rw [b3 j,a3 j] at he1;cases hj:l[j]? with
    | none=>rw [hj] at he1;split at he1<;>split at he1<;>cases he1
    | some e =>
     rw [hj] at he1;refine ⟨e,rfl,?_⟩;split at he1<;>split at he1<;>cases he1<;>simp_all
   have hent2:∀ (j:Nat) e,l[j]?=some e->∃ e1,l1[j]?=some e1/\e1.src=(if (j:Int)∈x.Out then (k:Int) else e.src)/\e1.dst=(if (j:Int)∈x.In then (k:Int) else e.dst):=fun j e he=>by
    have hlt:j<l1.length:=by have:=i6 R k _ _ _ ho;have:=iX R k _ _ _ h2;have:=(xG.1 he).1;omega
    obtain ⟨e',h1,h3⟩:=hent j _ (xH hlt);rw [he] at h1;cases h1;exact ⟨_,xH hlt,h3⟩
   refine ⟨by rw [i6 R k _ _ _ ho];exact hl2,fun j e1 he1=>?_,fun j e1 he1=>?_,fun i y hi hy=>?_⟩
   ·obtain ⟨e,he,hs,_⟩:=hent j e1 he1;by_cases hm:(j:Int)∈x.Out
    ·rw [if_pos hm] at hs;exact .inr ⟨k,x,by omega,hx,hs,hm⟩
    ·rw [if_neg hm] at hs;rw [hs];rcases h.src j e he with h1 | ⟨i,y,h1,h2,h3,h4⟩
     ·exact .inl h1
     ·exact .inr ⟨i,y,by omega,h2,h3,h4⟩
   ·obtain ⟨e,he,_,hs⟩:=hent j e1 he1;by_cases hm:(j:Int)∈x.In
    ·rw [if_pos hm] at hs;exact .inr ⟨k,x,by omega,hx,hs,hm⟩
    ·rw [if_neg hm] at hs;rw [hs];rcases h.dst j e he with h1 | ⟨i,y,h1,h2,h3,h4⟩
     ·exact .inl h1
     ·exact .inr ⟨i,y,by omega,h2,h3,h4⟩
   ·rcases Nat.lt_or_ge i k with hik | hik
    ·obtain ⟨c1,c2,c3,c4,c5⟩:=h.node i y hik hy;refine ⟨c1,c2,c3,fun r hr=>?_,fun r hr=>?_⟩
     ·obtain ⟨d1,d2,e,d3,d4⟩:=c4 r hr;refine ⟨d1,d2,?_⟩;obtain ⟨e1,f1,_,f2⟩:=hent2 _ e d3;have hnm:(r.toNat:Int) ∉ x.In:=fun hm=>by
       have:=(a1 _ hm).2.2 e (by rw [yY];exact d3);omega
      rw [if_neg hnm] at f2;exact ⟨e1,f1,f2.trans d4⟩
     ·obtain ⟨d1,d2,e,d3,d4⟩:=c5 r hr;refine ⟨d1,d2,?_⟩;obtain ⟨e1,f1,f2,_⟩:=hent2 _ e d3;have hnm:(r.toNat:Int) ∉ x.Out:=fun hm=>by
       have hl2e:∃ e2,l2[r.toNat]?=some e2/\e2.src=e.src:=by rw [a3];split<;>simp [d3]
       obtain ⟨e2,g1,g2⟩:=hl2e;have:=(b1 _ hm).2.2 e2 (by rw [yY];exact g1);omega
      rw [if_neg hnm] at f2;exact ⟨e1,f1,f2.trans d4⟩
    ·have hik:i=k:=by omega
     subst hik;rw [hx] at hy;cases hy;refine ⟨by simpa using hne,a2,b2,fun r hr=>?_,fun r hr=>?_⟩
     ·obtain ⟨d1,d2,_⟩:=a1 r hr;refine ⟨d1,d2,?_⟩;have hlt:r.toNat<l.length:=by have:=h.len;omega
      obtain ⟨e1,f1,_,f2⟩:=hent2 _ _ (xH hlt);rw [if_pos (by rw [yZ d1];exact hr)] at f2;exact ⟨e1,f1,f2⟩
     ·obtain ⟨d1,d2,_⟩:=b1 r hr;refine ⟨d1,d2,?_⟩;have hlt:r.toNat<l.length:=by have:=h.len;omega
      obtain ⟨e1,f1,f2,_⟩:=hent2 _ _ (xH hlt);rw [if_pos (by rw [yZ d1];exact hr)] at f2;exact ⟨e1,f1,f2⟩
theorem Looked.start (ns:List Node) (R:Nat):Looked ns R 0 (List.replicate R bU) :=
 ⟨by simp,fun j e he=>by rw [yK] at he;split at he<;>cases he;exact .inl (by decide),fun j e he=>by rw [yK] at he;split at he<;>cases he;exact .inl (by decide),fun i x hi=>by omega⟩
theorem nr (ns:List Node) (R:Int):∀ (xs:List Node) (k s:Nat) (l:List Ends) (s1:Nat) (l1:List Ends),ns.drop k=xs->Looked ns R k l->b7 R k xs s l=.inr (s1,l1) ->
  Looked ns R ns.length l1/\s1=s+(xs.filter (fun x=>decide (x.Kind=8))).length
 | [],k,s,l,s1,l1,hd,h,hn=>by
  cases hn;have hk:ns.length<=k:=List.drop_eq_nil_iff.1 hd;refine ⟨⟨h.len,fun j e he=>?_,fun j e he=>?_,fun i x hi hx=>h.node i x (by omega) hx⟩,by simp⟩
  ·rcases h.src j e he with h1 | ⟨i,y,h1,h2,h3⟩
   ·exact .inl h1
   ·exact .inr ⟨i,y,(xG.1 h2).1,h2,h3⟩
  ·rcases h.dst j e he with h1 | ⟨i,y,h1,h2,h3⟩
   ·exact .inl h1
   ·exact .inr ⟨i,y,(xG.1 h2).1,h2,h3⟩
 | x::xs,k,s,l,s1,l1,hd,h,hn=>by
  have hx:ns[k]?=some x:=by have:=congrArg (fun l=>l[0]?) hd;simpa [yu] using this
  have hd2:ns.drop (k+1)=xs:=by have:=congrArg (List.drop 1) hd;simpa [zw,zA] using this
  unfold b7 at hn;split at hn
  ·cases hn
  ·rename_i l2 h2;obtain ⟨a,b⟩:=nr ns R xs (k+1) _ l2 s1 l1 hd2 (h.one hx h2) hn;refine ⟨a,?_⟩;rw [b];by_cases h8:x.Kind=8
   ·simp [h8];omega
   ·simp [h8]
structure NetL (n:Net) (l:List Ends):Prop where
 n1:1<=n.Nodes.length
 n2:n.Nodes.length<=12
 r1:0<=n.Rings
 r2:n.Rings<=16
 m1:1<=n.Room
 m2:n.Room<=6
 len:(l.length:Int)=n.Rings
 src:∀ (j:Nat) e,l[j]?=some e->∃ (i:Nat) (x:Node),n.Nodes[i]?=some x/\e.src=i/\(j:Int)∈x.Out
 dst:∀ (j:Nat) e,l[j]?=some e->∃ (i:Nat) (x:Node),n.Nodes[i]?=some x/\e.dst=i/\(j:Int)∈x.In
 err:∀ (i:Nat) x,n.Nodes[i]?=some x->bL x=0
 ndI:∀ (i:Nat) x,n.Nodes[i]?=some x->x.In.Nodup
 ndO:∀ (i:Nat) x,n.Nodes[i]?=some x->x.Out.Nodup
 inn:∀ (i:Nat) x,n.Nodes[i]?=some x->∀ r∈x.In,0<=r/\r<n.Rings/\∃ e,l[r.toNat]?=some e/\e.dst=i
 out:∀ (i:Nat) x,n.Nodes[i]?=some x->∀ r∈x.Out,0<=r/\r<n.Rings/\∃ e,l[r.toNat]?=some e/\e.src=i
 sink:(n.Nodes.filter (fun x=>decide (x.Kind=8))).length=1
theorem kC {n:Net} {l:List Ends} (h:cT n=.inr l):NetL n l:=by
 unfold cT at h;split at h
 ·cases h
 ·rename_i h1;split at h
  ·cases h
  ·rename_i h2;split at h
   ·cases h
   ·rename_i s l' hn;split at h
    ·cases h
    ·rename_i hany;split at h
     ·cases h
     ·rename_i hs;cases h;have hst:=Looked.start n.Nodes n.Rings.toNat;rw [yZ (by omega)] at hst;obtain ⟨a,b⟩:=nr n.Nodes n.Rings n.Nodes 0 0 _ s l (by simp) hst hn;have hpos:∀ (j:Nat) e,l[j]?=some e->¬ e.src<0/\¬ e.dst<0:=fun j e he=>by
       have hm:=xK he;simp only [List.any_eq_true,not_exists,not_and] at hany;have:=hany e hm;simp at this;omega
      refine ⟨by omega,by omega,by omega,by omega,by omega,by omega,a.len,fun j e he=>?_,fun j e he=>?_,fun i x hx=>(a.node i x (xG.1 hx).1 hx).1,fun i x hx=>(a.node i x (xG.1 hx).1 hx).2.1,fun i x hx=>(a.node i x (xG.1 hx).1 hx).2.2.1,fun i x hx=>(a.node i x (xG.1 hx).1 hx).2.2.2.1,fun i x hx=>(a.node i x (xG.1 hx).1 hx).2.2.2.2,by omega⟩
      ·rcases a.src j e he with h3 | ⟨i,y,_,h4⟩
       ·exact absurd h3 (hpos j e he).1
       ·exact ⟨i,y,h4⟩
      ·rcases a.dst j e he with h3 | ⟨i,y,_,h4⟩
       ·exact absurd h3 (hpos j e he).2
       ·exact ⟨i,y,h4⟩
section
def bA (ok:Nat->Bool):Nat->Nat->Option Nat
 | 0,_=>none
 | m+1,k=>if ok k then some k else bA ok m (k+1)
theorem mS {ok:Nat->Bool}:∀ {m k i:Nat},bA ok m k=some i->k<=i/\i<k+m/\ok i=true
 | 0,k,i,h=>by cases h
 | m+1,k,i,h=>by
  unfold bA at h;split at h
  ·rename_i hk;cases h;exact ⟨by omega,by omega,hk⟩
  ·obtain ⟨a,b,c⟩:=mS h;exact ⟨by omega,by omega,c⟩
theorem mO {ok:Nat->Bool}:∀ (m k:Nat),bA ok (m+1) k=match bA ok m k with | some i=>some i | none=>if ok (k+m) then some (k+m) else none
 | 0,k=>by simp [bA]
 | m+1,k=>by
  rw [bA,mO m (k+1)];by_cases h:ok k=true
  ·simp [bA,h]
  ·rw [if_neg h,bA,if_neg h];rw [show k+1+m=k+(m+1) by omega]
def lastD (ok:Nat->Bool):Nat->Int->Int
 | 0,b=>b
 | k+1,b=>lastD ok k (if ok k then (k:Int) else b)
theorem oh {ok:Nat->Bool}:∀ (k:Nat) (b:Int),lastD ok k b=match bA ok k 0 with | some i=>(i:Int) | none=>b
 | 0,b=>rfl
 | k+1,b=>by
  rw [lastD,oh k,mO];cases bA ok k 0 with
  | some i=>rfl
  | none=>simp only [y5];split<;>rfl
def fedN (l:List Ends) (out:List Nat) (x:Node):Bool:=x.In.all fun r=>match l[r.toNat]? with | some e=>out.contains e.src.toNat | none=>false
def okN (l:List Ends) (out:List Nat) (ns:List Node) (i:Nat):Bool:=!(out.contains i) && (match ns[i]? with | some x=>fedN l out x | none=>false)
def ordN (l:List Ends) (ns:List Node):Nat->List Nat->Option (List Nat)
 | 0,out=>some out
 | m+1,out=>match bA (okN l out ns) ns.length 0 with
  | none=>none
  | some i=>ordN l ns m (out++[i])
def netR (n:Net):List Int × Int:=match cT n with
 | .inl e=>([],e)
 | .inr l=>match ordN l n.Nodes n.Nodes.length [] with
  | none=>([],7)
  | some out=>(out.map (fun i:Nat=>(i:Int)),0)
def aU (N:Nat) (out:List Nat):List Bool:=(List.range N).map fun i=>out.contains i
theorem fk {N:Nat} {out:List Nat} {i:Nat} (h:i<N):(aU N out)[i]?=some (out.contains i):=by unfold aU;rw [xJ,zo h];rfl
theorem fj {N:Nat} {out:List Nat}:(aU N out).length=N:=by simp [aU]
theorem sT {N:Nat} {out:List Nat} {i:Nat} (h:i<N):(aU N out).set i true=aU N (out++[i]):=by
 apply yL;intro j;rw [xV,fj];by_cases hj:j<N
 ·rw [fk hj];by_cases hij:i=j
  ·subst hij;rw [if_pos rfl,if_pos h,fk h];simp
  ·rw [if_neg hij,fk hj];have:¬ j=i:=fun e=>hij e.symm
   simp [this]
 ·rw [yR (by rw [fj];omega),yR (by rw [fj];omega),if_neg (by omega)]
theorem sk (N:Nat):List.replicate N false=aU N []:=by
 apply yL;intro j;rw [yK];by_cases hj:j<N
 ·rw [if_pos hj,fk hj];rfl
 ·rw [if_neg hj,yR (by rw [fj];omega)]
theorem tV {n:Net} (out:List Nat) (ho:out.length<=12) (z:Option Nat) (hz:∀ i,z=some i->i<n.Nodes.length):fb (out.map (fun i:Nat=>(i:Int))) (aU n.Nodes.length out) (match z with | some i=>(i:Int) | none => -1)=match z with
  | some i=>some (.inl ((out++[i]).map (fun i:Nat=>(i:Int)),aU n.Nodes.length (out++[i])))
  | none=>some (.inr ([],7)):=by
 unfold fb
 cases z with
 | none=>rfl
 | some i =>
  have hi:=hz i rfl
  simp only
  rw [if_neg (by rw [decide_eq_true_iff];omega)]
  have e1:ixN (aU n.Nodes.length out) (i:Int)=some i:=by unfold ixN;rw [if_pos (by rw [fj];omega)];rfl
  simp only [e1,xI,fk hi]
  rw [jD (by simp;omega),xI,sT hi]
  simp
section
variable {n:Net} {l:List Ends} (hn:NetL n l)
include hn
theorem po {j:Nat} {e:Ends} (h:l[j]?=some e):0<=e.src/\e.src.toNat<n.Nodes.length:=by obtain ⟨i,x,h1,h2,_⟩:=hn.src j e h;have:=(xG.1 h1).1;omega
theorem sr {i:Nat} {x:Node} (hx:n.Nodes[i]?=some x) (out:List Nat) {r:Int} (hr:r∈x.In) :
  gN r (aU n.Nodes.length out) l=some (!(match l[r.toNat]? with | some e=>out.contains e.src.toNat | none=>false)):=by
 obtain ⟨h1,h2,e,h3,_⟩:=hn.inn i x hx r hr
 have hlt:=(xG.1 h3).1
 obtain ⟨h4,h5⟩:=po hn h3
 have e1:ixN l r=some r.toNat:=by unfold ixN;rw [if_pos (by omega)]
 have e2:ixN (aU n.Nodes.length out) e.src=some e.src.toNat:=by unfold ixN;rw [if_pos (by rw [fj];omega)]
 unfold gN
 simp only [e1,xI,h3,e2,fk h5]
theorem rH {i:Nat} {x:Node} (hx:n.Nodes[i]?=some x) (out:List Nat) (hl:x.In.length<=1099511627776):fP x.In (aU n.Nodes.length out) l=some (!fedN l out x):=by
 unfold fP iC;have:=kp (σ:=Unit) x.In hl (fun k _=>(k:Int)) (body:=fun ss=>fO x.In (aU n.Nodes.length out) l ss)
  (fun k r _=>if (match l[r.toNat]? with | some e=>out.contains e.src.toNat | none=>false)=false then some (.inr (k:Int)) else some (.inl ())) (fun _=>some (-1)) ()
  (fun k r _ hk hlt h1 h2 h3=>by unfold fO;rw [h2,h1,h3];simp only [if_true,xI];rw [sr hn hx out (xK hk),xI];generalize (match l[r.toNat]? with | some e=>out.contains e.src.toNat | none=>false)=b;cases b<;>rfl)
  (fun _ h=>by unfold fO;rw [h];rfl)
 simp only [yy] at this;rw [this];have key:∀ (ys:List Int) (k:Nat),∃ v:Int,cS (σ:=Unit) (fun k r _=>if (match l[r.toNat]? with | some e=>out.contains e.src.toNat | none=>false)=false then some (.inr (k:Int)) else some (.inl ())) (fun _=>some (-1:Int)) k ys ()=some v /\
   decide (v >= 0)=!(ys.all fun r=>match l[r.toNat]? with | some e=>out.contains e.src.toNat | none=>false):=by
  intro ys
  induction ys with
  | nil=>intro k;exact ⟨-1,rfl,by simp⟩
  | cons y ys ih =>
   intro k
   unfold cS
   by_cases h:(match l[y.toNat]? with | some e=>out.contains e.src.toNat | none=>false)=false
   ·rw [if_pos h]
    exact ⟨k,rfl,by rw [zk,h];simp⟩
   ·rw [if_neg h]
    simp only
    obtain ⟨v,h1,h2⟩:=ih (k+1)
    refine ⟨v,h1,?_⟩
    rw [h2,zk]
    have h':(match l[y.toNat]? with | some e=>out.contains e.src.toNat | none=>false)=true:=by simpa using h
    rw [h'];simp
 obtain ⟨v,h1,h2⟩:=key x.In 0;rw [h1,xI,h2];rfl
theorem nQ (hio:∀ x∈n.Nodes,x.In.length<=1099511627776) (q:Int) (out:List Nat) (ho:out.length<=12):∀ (m k:Nat),k+m=n.Nodes.length ->
  iter (fun ss:Int=>er n (l,q) (out.map (fun i:Nat=>(i:Int))) (aU n.Nodes.length out) ss) (k:Int)=match bA (okN l out n.Nodes) m k with
   | some i=>some (.inl ((out++[i]).map (fun i:Nat=>(i:Int)),aU n.Nodes.length (out++[i])))
   | none=>some (.inr ([],7))
 | 0,k,h=>by
  have hk:k=n.Nodes.length:=by omega
  subst hk;have:er n (l,q) (out.map (fun i:Nat=>(i:Int))) (aU n.Nodes.length out) (n.Nodes.length:Int)=some (.inr (.inr ([],7))):=by unfold er;rw [if_neg (by simp)];rfl
  rw [aq,this];rfl
 | m+1,k,h=>by
  have hlt:k<n.Nodes.length:=by omega
  have hn2:=hn.n2;have hx:n.Nodes[k]?=some n.Nodes[k]:=xH hlt;have e1:ixN (aU n.Nodes.length out) (k:Int)=some k:=by unfold ixN;rw [if_pos (by rw [fj];omega)];rfl
  have hstep:er n (l,q) (out.map (fun i:Nat=>(i:Int))) (aU n.Nodes.length out) (k:Int)=if okN l out n.Nodes k then some (.inr (.inl ((out++[k]).map (fun i:Nat=>(i:Int)),aU n.Nodes.length (out++[k])))) else some (.inl ((k+1:Nat):Int)):=by
   unfold er;rw [if_pos (by simp;omega),bG hx,xI];simp only [e1,xI,fk hlt];have hok:okN l out n.Nodes k=(!(out.contains k) && fedN l out n.Nodes[k]):=by unfold okN;rw [hx]
   have hin:(if (!(out.contains k))=true then (fP n.Nodes[k].In (aU n.Nodes.length out) l).bind fun x12=>some (!x12) else some false)=some (okN l out n.Nodes k):=by rw [rH hn hx out (hio _ (xY hlt)),hok];cases out.contains k<;>simp
   rw [hin,xI,bB (by omega)];by_cases hb:okN l out n.Nodes k=true
   ·rw [if_pos hb,if_pos hb];have:=tV (n:=n) out ho (some k) (fun i e=>by cases e;exact hlt);simp only at this;rw [this];rfl
   ·rw [if_neg hb,if_neg hb]
  rw [aq,hstep,bA];by_cases hb:okN l out n.Nodes k=true
  ·simp only [if_pos hb]
  ·simp only [if_neg hb];exact nQ hio q out ho m (k+1) (by omega)
theorem oo (hio:∀ x∈n.Nodes,x.In.length<=1099511627776) (q:Int):∀ (m:Nat) (out:List Nat),out.length+m=n.Nodes.length ->
  iter (fun ss:List Int × List Bool=>eu n (l,q) ss.1 ss.2) (out.map (fun i:Nat=>(i:Int)),aU n.Nodes.length out)=some (match ordN l n.Nodes m out with
   | none=>([],7)
   | some out=>(out.map (fun i:Nat=>(i:Int)),0))
 | 0,out,h=>by
  have:eu n (l,q) (out.map (fun i:Nat=>(i:Int))) (aU n.Nodes.length out)=some (.inr (out.map (fun i:Nat=>(i:Int)),0)):=by unfold eu;rw [if_neg (by simp;omega)];rfl
  rw [aq];simp only [this,ordN]
 | m+1,out,h=>by
  have hstep:eu n (l,q) (out.map (fun i:Nat=>(i:Int))) (aU n.Nodes.length out)=match bA (okN l out n.Nodes) n.Nodes.length 0 with
   | some i=>some (.inl ((out++[i]).map (fun i:Nat=>(i:Int)),aU n.Nodes.length (out++[i])))
   | none=>some (.inr ([],7)):=by
   unfold eu
   rw [if_pos (by simp;omega)]
   have:=nQ hn hio q out (by have:=hn.n2;omega) n.Nodes.length 0 (by omega)
   simpa using this
  rw [aq];simp only [hstep,ordN];cases bA (okN l out n.Nodes) n.Nodes.length 0 with
  | none=>rfl
  | some i =>
   simp only;exact oo hio q m (out++[i]) (by simp;omega)
end
theorem nN (R i:Int):∀ (rs:List Int) (l:List Ends),cc R i rs l≠.inl 0
 | [],l,h=>by cases h
 | r::rs,l,h=>by
  unfold cc at h;split at h
  ·exact absurd (yS h) (by decide)
  ·split at h
   ·exact absurd (yS h) (by decide)
   ·split at h
    ·exact absurd (yS h) (by decide)
    ·exact nN R i rs _ h
theorem ol (R i:Int):∀ (rs:List Int) (l:List Ends),bp R i rs l≠.inl 0
 | [],l,h=>by cases h
 | r::rs,l,h=>by
  unfold bp at h;split at h
  ·exact absurd (yS h) (by decide)
  ·split at h
   ·exact absurd (yS h) (by decide)
   ·split at h
    ·exact absurd (yS h) (by decide)
    ·exact ol R i rs _ h
theorem uh (R:Int) (i:Nat) (x:Node) (l:List Ends):oneN R i x l≠.inl 0:=fun h=>by
 unfold oneN at h;split at h
 ·rename_i hne;exact hne (yS h)
 ·split at h
  ·rename_i h2;cases h;exact nN _ _ _ _ h2
  ·exact ol _ _ _ _ h
theorem nq (R:Int):∀ (xs:List Node) (k s:Nat) (l:List Ends),b7 R k xs s l≠.inl 0
 | [],k,s,l,h=>by cases h
 | x::xs,k,s,l,h=>by
  unfold b7 at h;split at h
  ·rename_i h2;cases h;exact uh _ _ _ _ h2
  ·exact nq R xs _ _ _ h
theorem nM (n:Net):cT n≠.inl 0:=fun h=>by
 unfold cT at h;split at h
 ·exact absurd (yS h) (by decide)
 ·split at h
  ·exact absurd (yS h) (by decide)
  ·split at h
   ·rename_i h2;cases h;exact nq _ _ _ _ _ h2
   ·split at h
    ·exact absurd (yS h) (by decide)
    ·split at h
     ·exact absurd (yS h) (by decide)
     ·cases h
theorem rc (n:Net) (hio:∀ x∈n.Nodes,x.In.length<=1099511627776/\x.Out.length<=1099511627776):gZ n=some (netR n):=by
 unfold gZ netR;rw [rk n hio,xI];cases h:cT n with
 | inl e =>
  simp only;have he:e≠0:=fun e0=>nM n (e0▸h)
  rw [if_pos (by simpa using he)]
 | inr l =>
  simp only;have hn:=kC h;rw [if_neg (by simp)];have hmk:mk (n.Nodes.length:Int) false=some (aU n.Nodes.length []):=by unfold mk;rw [if_pos (by have:=hn.n2;omega),<- sk];rfl
  rw [hmk,xI];have:=oo hn (fun x hx=>(hio x hx).1) 0 n.Nodes.length [] (by simp);simp only [y9] at this;rw [this]
theorem mF (n:Net) (hio:∀ x∈n.Nodes,x.In.length<=1099511627776/\x.Out.length<=1099511627776):c6 n=some (netR n).2:=by unfold c6;rw [rc n hio];rfl
end
section
theorem mz {κ ν:Type} [DecidableEq κ] (k:κ) (v:ν):∀ m:List (κ × ν),mget k (mset k v m)=some v
 | []=>by simp [mset,mget]
 | p::r=>by
  unfold mset;split
  ·simp [mget]
  ·rename_i h;simp only [mget,if_neg h];exact mz k v r
theorem mK {κ ν:Type} [DecidableEq κ] {k k':κ} (v:ν) (hk:k≠k'):∀ m:List (κ × ν),mget k (mset k' v m)=mget k m
 | []=>by simp [mset,mget,hk]
 | p::r=>by
  unfold mset;split
  ·rename_i h;simp only [mget,if_neg hk];rw [if_neg (fun e=>hk (e.trans h.symm))]
  ·simp only [mget];rw [mK v hk r]
theorem mJ {κ ν:Type} [DecidableEq κ] {k:κ} (v:ν):∀ {m:List (κ × ν)},mget k m=none->(mset k v m).length=m.length+1
 | [],_=>rfl
 | p::r,h=>by
  simp only [mget] at h;split at h
  ·cases h
  ·rename_i hk;simp only [mset,if_neg hk,xM];rw [mJ v h]
structure MRi (v:List Int) (m:List (Int × Int)):Prop where
 len:m.length=v.countP (fun x=>decide (0<=x))
 get:∀ (j:Nat) x,v[j]?=some x->mget (j:Int) m=if x<0 then none else some x
theorem MRi.set {v:List Int} {m:List (Int × Int)} (h:MRi v m) {j:Nat} {x y:Int} (hx:v[j]?=some x) (h0:x<0) (h1:0<=y):MRi (v.set j y) (mset (j:Int) y m):=by
 have hlt:=(xG.1 hx).1;have hv:v[j]=x:=(xG.1 hx).2;have hn:mget (j:Int) m=none:=by rw [h.get j x hx,if_pos h0]
 refine ⟨?_,fun k z hz=>?_⟩
 ·rw [mJ y hn,h.len,List.countP_set hlt,hv];have a:¬ 0<=x:=by omega
  simp [a,h1]
 ·rw [xV] at hz;by_cases hjk:j=k
  ·subst hjk;rw [if_pos rfl,if_pos hlt] at hz;cases hz;rw [mz,if_neg (by omega)]
  ·rw [if_neg hjk] at hz;rw [mK y (by omega)];exact h.get k z hz
theorem MRi.start (R:Nat):MRi (List.replicate R (-1)) []:=by
 refine ⟨?_,fun j x hx=>?_⟩
 ·simp [List.countP_replicate]
 ·rw [yK] at hx;split at hx<;>cases hx;rfl
theorem ro {l:List Ends} {j:Nat} {e:Ends} (i:Int) (h:l[j]?=some e):(l.set j ⟨i,e.dst⟩).map Ends.src=(l.map Ends.src).set j i/\(l.set j ⟨i,e.dst⟩).map Ends.dst=l.map Ends.dst:=by
 refine ⟨by rw [List.map_set],?_⟩;rw [List.map_set];have hlt:=(xG.1 h).1;have:(l.map Ends.dst)[j]'(by simpa using hlt)=e.dst:=by simp [(xG.1 h).2]
 show (l.map Ends.dst).set j e.dst=_;rw [<- this];exact yq _
theorem rn {l:List Ends} {j:Nat} {e:Ends} (i:Int) (h:l[j]?=some e):(l.set j ⟨e.src,i⟩).map Ends.dst=(l.map Ends.dst).set j i/\(l.set j ⟨e.src,i⟩).map Ends.src=l.map Ends.src:=by
 refine ⟨by rw [List.map_set],?_⟩;rw [List.map_set];have hlt:=(xG.1 h).1;have:(l.map Ends.src)[j]'(by simpa using hlt)=e.src:=by simp [(xG.1 h).2]
 show (l.map Ends.src).set j e.src=_;rw [<- this];exact yq _
theorem pA (n:Net) (s i:Nat) (x:Node) (to:List (Int × Int)) (hx:x.Out.length<=1099511627776) (hi:i<=12) (hs:s<=12) (hR:n.Rings<=16) :
  ∀ (m k:Nat) (l:List Ends) (fr:List (Int × Int)),k+m=x.Out.length->(l.length:Int)=n.Rings->MRi (l.map Ends.src) fr ->
  match bp n.Rings i (x.Out.drop k) l with
   | .inl e=>iter (fun ss:Int × List (Int × Int)=>dq n s i x to ss.1 ss.2) ((k:Int),fr)=some (.inr ([],e))
   | .inr l1=>∃ fr1,MRi (l1.map Ends.src) fr1/\l1.map Ends.dst=l.map Ends.dst/\iter (fun ss:Int × List (Int × Int)=>dq n s i x to ss.1 ss.2) ((k:Int),fr)=some (.inl (((if x.Kind=8 then s+1 else s:Nat):Int),((i+1:Nat):Int),fr1,to))
 | 0,k,l,fr,h,hl,hm=>by
  have hk:k=x.Out.length:=by omega
  subst hk;rw [yH];simp only [bp];refine ⟨fr,hm,trivial,?_⟩;have hstep:dq n s i x to (x.Out.length:Int) fr=some (.inr (.inl (((if x.Kind=8 then s+1 else s:Nat):Int),((i+1:Nat):Int),fr,to))):=by unfold dq;rw [if_neg (by simp),bB (by omega),bB (by omega)];by_cases h8:x.Kind=8<;>simp [h8]
  rw [aq];simp only [hstep]
 | m + 1,k,l,fr,h,hl,hm=>by
  have hlt:k<x.Out.length:=by omega
  rw [xZ hlt,aq];have hstep:dq n s i x to (k:Int) fr=if x.Out[k]<0∨n.Rings<=x.Out[k] then some (.inr (.inr ([],3))) else if (mget x.Out[k] fr).isSome then some (.inr (.inr ([],6))) else some (.inl (((k+1:Nat):Int),mset x.Out[k] i fr)):=by
   unfold dq;rw [if_pos (by simp;omega),bG (xH hlt),xI,bB (by omega)];by_cases hr:x.Out[k]<0∨n.Rings<=x.Out[k]
   ·rw [if_pos (by simp;omega),if_pos hr];rfl
   ·rw [if_neg (by simp;omega),if_neg hr];rfl
  simp only [bp,hstep];by_cases hr:x.Out[k]<0∨n.Rings<=x.Out[k]
  ·simp only [if_pos hr]
  ·simp only [if_neg hr];have hrl:x.Out[k].toNat<l.length:=by omega
   have hge:=xH hrl;have hge2:(l.map Ends.src)[x.Out[k].toNat]?=some l[x.Out[k].toNat].src:=by rw [xJ,hge];rfl
   have hget:=hm.get _ _ hge2;have hc:((x.Out[k].toNat:Nat):Int)=x.Out[k]:=by omega
   rw [hc] at hget;simp only [hge];by_cases he:0<=l[x.Out[k].toNat].src
   ·rw [if_neg (by omega)] at hget;simp only [if_pos he,hget,Option.isSome_some,if_true]
   ·rw [if_pos (by omega)] at hget;simp only [if_neg he,hget,Option.isSome_none,xS,if_false];obtain ⟨q1,q2⟩:=ro (i:Int) hge;have hm2:=hm.set (y:=(i:Int)) hge2 (by omega) (by omega);rw [hc,<- q1] at hm2;have:=pA n s i x to hx hi hs hR m (k+1) (l.set x.Out[k].toNat ⟨i,l[x.Out[k].toNat].dst⟩) (mset x.Out[k] i fr) (by omega) (by simpa using hl) hm2;cases hgv:bp n.Rings i (x.Out.drop (k+1)) (l.set x.Out[k].toNat ⟨i,l[x.Out[k].toNat].dst⟩) with
    | inl e=>rw [hgv] at this;exact this
    | inr l1 =>
     rw [hgv] at this;obtain ⟨fr1,a,b,c⟩:=this;exact ⟨fr1,a,b.trans q2,c⟩
theorem pI (n:Net) (s i:Nat) (x:Node) (fr:List (Int × Int)) (hx:x.Out.length<=1099511627776) (hx2:x.In.length<=1099511627776) (hi:i<=12) (hs:s<=12) (hR:n.Rings<=16) :
  ∀ (m k:Nat) (l:List Ends) (to:List (Int × Int)),k+m=x.In.length->(l.length:Int)=n.Rings->MRi (l.map Ends.src) fr->MRi (l.map Ends.dst) to ->
  match (match cc n.Rings i (x.In.drop k) l with | .inl e=>Sum.inl e | .inr l1=>bp n.Rings i x.Out l1) with
   | .inl e=>iter (fun ss:Int × List (Int × Int)=>cJ n s i fr x ss.1 ss.2) ((k:Int),to)=some (.inr ([],e))
   | .inr l1=>∃ fr1 to1,MRi (l1.map Ends.src) fr1/\MRi (l1.map Ends.dst) to1/\iter (fun ss:Int × List (Int × Int)=>cJ n s i fr x ss.1 ss.2) ((k:Int),to)=some (.inl (((if x.Kind=8 then s+1 else s:Nat):Int),((i+1:Nat):Int),fr1,to1))
 | 0,k,l,to,h,hl,hm,hm2=>by
  have hk:k=x.In.length:=by omega
  subst hk;rw [yH];simp only [cc];have h1:=pA n s i x to hx hi hs hR x.Out.length 0 l fr (by omega) hl hm;simp only [yJ,yy] at h1;have hstep:cJ n s i fr x (x.In.length:Int) to=Option.map Sum.inr (iter (fun ss:Int × List (Int × Int)=>dq n s i x to ss.1 ss.2) (0,fr)):=by unfold cJ;rw [if_neg (by simp)]
  rw [aq];simp only [hstep];cases hg:bp n.Rings i x.Out l with
  | inl e=>rw [hg] at h1;simp only at h1 ⊢;rw [h1];rfl
  | inr l1 =>
   rw [hg] at h1;obtain ⟨fr1,a,b,c⟩:=h1;refine ⟨fr1,to,a,by rw [b];exact hm2,?_⟩;rw [c];rfl
 | m+1,k,l,to,h,hl,hm,hm2=>by
  have hlt:k<x.In.length:=by omega
  rw [xZ hlt,aq];have hstep:cJ n s i fr x (k:Int) to=if x.In[k]<0∨n.Rings<=x.In[k] then some (.inr (.inr ([],3))) else if (mget x.In[k] to).isSome then some (.inr (.inr ([],6))) else some (.inl (((k+1:Nat):Int),mset x.In[k] i to)):=by
   unfold cJ;rw [if_pos (by simp;omega),bG (xH hlt),xI,bB (by omega)];by_cases hr:x.In[k]<0∨n.Rings<=x.In[k]
   ·rw [if_pos (by simp;omega),if_pos hr];rfl
   ·rw [if_neg (by simp;omega),if_neg hr];rfl
  simp only [cc,hstep];by_cases hr:x.In[k]<0∨n.Rings<=x.In[k]
  ·simp only [if_pos hr]
  ·simp only [if_neg hr];have hrl:x.In[k].toNat<l.length:=by omega
   have hge:=xH hrl;have hge2:(l.map Ends.dst)[x.In[k].toNat]?=some l[x.In[k].toNat].dst:=by rw [xJ,hge];rfl
   have hget:=hm2.get _ _ hge2;have hc:((x.In[k].toNat:Nat):Int)=x.In[k]:=by omega
   rw [hc] at hget;simp only [hge];by_cases he:0<=l[x.In[k].toNat].dst
   ·rw [if_neg (by omega)] at hget;simp only [if_pos he,hget,Option.isSome_some,if_true]
   ·rw [if_pos (by omega)] at hget;simp only [if_neg he,hget,Option.isSome_none,xS,if_false];obtain ⟨q1,q2⟩:=rn (i:Int) hge;have hm3:=hm2.set (y:=(i:Int)) hge2 (by omega) (by omega);rw [hc,<- q1] at hm3;exact pI n s i x fr hx hx2 hi hs hR m (k+1) (l.set x.In[k].toNat ⟨l[x.In[k].toNat].src,i⟩) (mset x.In[k] i to) (by omega) (by simpa using hl) (by rw [q2];exact hm) hm3
theorem chk_A (x:Node) (h:bM x.Kind≠none):((decide (x.A<0)) || decide (x.A > ((mget x.Kind (mset 2 3 (mset 1 3 ([]:List (Int × Int))))).getD 0)))=badA x:=by
 have e:mset 2 3 (mset 1 3 ([]:List (Int × Int)))=[(1,3),(2,3)]:=by decide
 rw [e];unfold badA;by_cases h1:x.Kind=1
 ·rw [yC];simp [h1,mget];omega
 ·by_cases h2:x.Kind=2
  ·rw [yC];simp [h1,h2,mget]
  ·rw [yC];simp [h1,h2,mget];omega
theorem tj (n:Net) (s i:Nat) (x:Node) (hx:n.Nodes[i]?=some x) (hx1:x.Out.length<=1099511627776) (hx2:x.In.length<=1099511627776) (hi:i<n.Nodes.length) (hn:n.Nodes.length<=12) (hs:s<=12) (hR:n.Rings<=16) (l:List Ends) (fr to:List (Int × Int))
  (hl:(l.length:Int)=n.Rings) (hm:MRi (l.map Ends.src) fr) (hm2:MRi (l.map Ends.dst) to) :
  match oneN n.Rings i x l with
   | .inl e=>dp n s i fr to=some (.inr ([],e))
   | .inr l1=>∃ fr1 to1,MRi (l1.map Ends.src) fr1/\MRi (l1.map Ends.dst) to1/\dp n s i fr to=some (.inl (((if x.Kind=8 then s+1 else s:Nat):Int),((i+1:Nat):Int),fr1,to1)):=by
 have h2:=pI n s i x fr hx1 hx2 (by omega) hs hR x.In.length 0 l to (by omega) hl hm hm2
 simp only [yJ,yy] at h2
 have k3:bM x.Kind≠none->cj n s i fr to x=if badA x=true then some (.inr ([],3)) else iter (fun ss:Int × List (Int × Int)=>cJ n s i fr x ss.1 ss.2) (0,to):=fun ha=>by unfold cj;rw [chk_A x ha];rfl
 have fit:∀ (a b:Int),bM x.Kind=some (a,b)->∀ (p q:Option Bool),p=some (aQ x.In.length a)->q=some (aQ x.Out.length b) ->
   (Option.bind p fun x9=>Option.bind (if (!x9)=true then some true else Option.bind q fun x10=>some (!x10)) fun c11=>if c11=true then (Option.map Sum.inr (some ([],4))) else cj n s i fr to x)
    = (if bL x≠0 then (some (.inr ([],bL x)):Option ((Int × Int × (List (Int × Int)) × (List (Int × Int))) ⊕ ((List Int) × Int))) else iter (fun ss:Int × List (Int × Int)=>cJ n s i fr x ss.1 ss.2) (0,to)):=fun a b hab p q hp hq=>by
  rw [hp,hq,k3 (by rw [hab];simp)]
  unfold bL
  rw [hab]
  simp only [xI]
  cases aQ x.In.length a
  ·simp
  ·cases aQ x.Out.length b
   ·simp
   ·cases hb:badA x<;>simp
 have c1:∀ m:Nat,bY (m:Int)=some (aQ m 1):=fun m=>by unfold bY aQ;congr 1;rw [yC];simp
 have c2:∀ m:Nat,e8 (m:Int)=some (aQ m (-1)):=fun m=>by unfold e8 aQ;congr 1;rw [yC];simp;omega
 have c3:∀ m:Nat,fS (m:Int)=some (aQ m 0):=fun m=>by unfold fS aQ;congr 1;rw [yC];simp
 have hl7:dp n s i fr to=if bL x≠0 then some (.inr ([],bL x)) else iter (fun ss:Int × List (Int × Int)=>cJ n s i fr x ss.1 ss.2) (0,to):=by
  unfold dp;rw [if_pos (by simp;omega),bG hx,xI];by_cases h1:x.Kind=1
  ·rw [if_pos (by simp [h1])];exact fit 0 1 (by simp [bM,h1]) _ _ (c3 _) (c1 _)
  rw [if_neg (by simp [h1])];by_cases h2:x.Kind=2
  ·rw [if_pos (by simp [h2])];exact fit 1 1 (by simp [bM,h2]) _ _ (c1 _) (c1 _)
  rw [if_neg (by simp [h2])];by_cases h3:x.Kind=3
  ·rw [if_pos (by simp [h3])];exact fit 1 1 (by simp [bM,h3]) _ _ (c1 _) (c1 _)
  rw [if_neg (by simp [h3])];by_cases h4:x.Kind=4
  ·rw [if_pos (by simp [h4])];exact fit 1 1 (by simp [bM,h4]) _ _ (c1 _) (c1 _)
  rw [if_neg (by simp [h4])];by_cases h5:x.Kind=5
  ·rw [if_pos (by simp [h5])];exact fit 1 (-1) (by simp [bM,h5]) _ _ (c1 _) (c2 _)
  rw [if_neg (by simp [h5])];by_cases h7:x.Kind=7
  ·rw [if_pos (by simp [h7])];exact fit 1 (-1) (by simp [bM,h7]) _ _ (c1 _) (c2 _)
  rw [if_neg (by simp [h7])];by_cases h6:x.Kind=6
  ·rw [if_pos (by simp [h6])];exact fit (-1) 1 (by simp [bM,h6]) _ _ (c2 _) (c1 _)
  rw [if_neg (by simp [h6])];by_cases h8:x.Kind=8
  ·rw [if_pos (by simp [h8])];exact fit 1 0 (by simp [bM,h8]) _ _ (c1 _) (c3 _)
  rw [if_neg (by simp [h8])];have:bL x=5:=by unfold bL;simp [bM,h1,h2,h3,h4,h5,h6,h7,h8]
  rw [this];rfl
 unfold oneN
 rw [hl7]
 by_cases he:bL x≠0
 ·simp only [if_pos he]
 ·simp only [if_neg he]
  exact h2
theorem mw (out:List Nat) (ho:out.length<=12) (z:Int) (hz:0<=z):fR (out.map (fun i:Nat=>(i:Int))) z=some (out.contains z.toNat):=by
 unfold fR iE;have:=kp (σ:=Unit) (out.map (fun i:Nat=>(i:Int))) (by simp;omega) (fun k _=>(k:Int)) (body:=fun ss=>fQ (out.map (fun i:Nat=>(i:Int))) z ss)
  (fun k r _=>if z=r then some (.inr (k:Int)) else some (.inl ())) (fun _=>some (-1)) ()
  (fun k r _ hk hlt h1 h2 h3=>by unfold fQ;rw [h2,h1,h3];by_cases h:z=r<;>simp [h])
  (fun _ h=>by unfold fQ;rw [h];rfl)
 simp only [yy] at this;rw [this];have key:∀ (ys:List Nat) (k:Nat),∃ v:Int,cS (σ:=Unit) (fun k r _=>if z=r then some (.inr (k:Int)) else some (.inl ())) (fun _=>some (-1:Int)) k (ys.map (fun i:Nat=>(i:Int))) ()=some v/\decide (v >= 0)=ys.contains z.toNat:=by
  intro ys;induction ys with
  | nil=>intro k;exact ⟨-1,rfl,by simp⟩
  | cons y ys ih =>
   intro k;simp only [yh,cS];by_cases h:z=(y:Int)
   ·rw [if_pos h];refine ⟨k,rfl,?_⟩;have:z.toNat=y:=by omega
    simp [this]
   ·rw [if_neg h];simp only;obtain ⟨v,h1,h2⟩:=ih (k+1);refine ⟨v,h1,?_⟩;rw [h2];have:¬ z.toNat=y:=by omega
    simp [this]
 obtain ⟨v,h1,h2⟩:=key out 0;rw [h1,xI,h2]
section
variable {n:Net} {l:List Ends} (hn:NetL n l) {fr:List (Int × Int)} (hm:MRi (l.map Ends.src) fr)
include hn hm
theorem pn (out:List Nat) (ho:out.length<=12) (best k:Int) {x:Node} {i:Nat} (hx:n.Nodes[i]?=some x) (hxl:x.In.length<=1099511627776):∀ (m j:Nat) (b:Bool),j+m=x.In.length ->
  iter (fun ss:Bool × Int=>ej fr (out.map (fun i:Nat=>(i:Int))) best k x ss.1 ss.2) (b,(j:Int))=some (.inl (if (b && (x.In.drop j).all fun r=>match l[r.toNat]? with | some e=>out.contains e.src.toNat | none=>false)=true then k else best,IntKind.i64.wrap (k - 1)))
 | 0,j,b,h=>by
  have hk:j=x.In.length:=by omega
  subst hk;have hstep:ej fr (out.map (fun i:Nat=>(i:Int))) best k x b (x.In.length:Int)=some (.inr (.inl (if b=true then k else best,IntKind.i64.wrap (k - 1)))):=by unfold ej;rw [if_neg (by simp)];cases b<;>rfl
  rw [aq];simp only [hstep,yH,List.all_nil,Bool.and_true]
 | m+1,j,b,h=>by
  have hlt:j<x.In.length:=by omega
  have hmem:x.In[j]∈x.In:=xY hlt;obtain ⟨r0,r1,e,he,_⟩:=hn.inn i x hx _ hmem;obtain ⟨s0,_⟩:=po hn he;have hge2:(l.map Ends.src)[x.In[j].toNat]?=some e.src:=by rw [xJ,he];rfl
  have hget:=hm.get _ _ hge2;rw [yZ r0,if_neg (by omega)] at hget;have hstep:ej fr (out.map (fun i:Nat=>(i:Int))) best k x b (j:Int)=some (.inl (b && out.contains e.src.toNat,((j+1:Nat):Int))):=by
   unfold ej;rw [if_pos (by simp;omega),bG (xH hlt),xI,bB (by omega),hget];cases b
   ·rfl
   ·simp only [if_true,y0,mw out ho _ s0,xI,Bool.true_and]
  rw [aq];simp only [hstep];rw [pn out ho best k hx hxl m (j+1) _ (by omega),xZ hlt,zk,he];simp only [Bool.and_assoc]
theorem pB (hio:∀ x∈n.Nodes,x.In.length<=1099511627776) (cnt:Nat) (hcnt:cnt<=12) (out:List Nat) (ho:out.length<=12):∀ (k:Nat) (best:Int),k<=n.Nodes.length ->
  iter (fun ss:Int × Int=>ee n fr (cnt:Int) (out.map (fun i:Nat=>(i:Int))) ss.1 ss.2) (best,(k:Int) - 1)=(if lastD (okN l out n.Nodes) k best<0 then some (.inr ([],7)) else some (.inl (((cnt+1:Nat):Int),out.map (fun i:Nat=>(i:Int))++[lastD (okN l out n.Nodes) k best])))
 | 0,best,_=>by
  have hstep:ee n fr (cnt:Int) (out.map (fun i:Nat=>(i:Int))) best (((0:Nat):Int) - 1)=some (.inr (if best<0 then .inr ([],7) else .inl (((cnt+1:Nat):Int),out.map (fun i:Nat=>(i:Int))++[best]))):=by unfold ee;rw [if_neg (by simp),bB (by omega),jD (by simp;omega)];by_cases hb:best<0<;>simp [hb]
  rw [aq];simp only [hstep,lastD];by_cases hb:best<0<;>simp [hb]
 | k+1,best,hk=>by
  have hlt:k<n.Nodes.length:=by omega
  have hx:n.Nodes[k]?=some n.Nodes[k]:=xH hlt;have hn2:=hn.n2;have hw:IntKind.i64.wrap ((k:Int) - 1)=(k:Int) - 1:=fw (by omega) (by omega);have hok:okN l out n.Nodes k=(!(out.contains k) && fedN l out n.Nodes[k]):=by unfold okN;rw [hx]
  have hstep:ee n fr (cnt:Int) (out.map (fun i:Nat=>(i:Int))) best (((k+1:Nat):Int) - 1)=some (.inl (if okN l out n.Nodes k=true then (k:Int) else best,(k:Int) - 1)):=by
   have e1:(((k+1:Nat):Int) - 1)=(k:Int):=by omega
   rw [e1];unfold ee;rw [if_pos (by simp),mw out ho _ (by omega),xI,yY];by_cases hc:out.contains k=true
   ·rw [if_pos hc,hw,hok,hc];simp
   ·rw [if_neg hc,bG hx,xI];have:=pn hn hm out ho best k hx (hio _ (xY hlt)) n.Nodes[k].In.length 0 true (by omega);simp only [yy,yJ,Bool.true_and] at this;rw [this,hw,hok];have hc':out.contains k=false:=by simpa using hc
    rw [hc'];simp only [Bool.not_false,Bool.true_and];rfl
  rw [aq];simp only [hstep,lastD];exact pB hio cnt hcnt out ho k _ (by omega)
theorem pk (hio:∀ x∈n.Nodes,x.In.length<=1099511627776):∀ (m:Nat) (out:List Nat),out.length+m=n.Nodes.length ->
  iter (fun ss:Int × List Int=>dE n fr ss.1 ss.2) ((out.length:Int),out.map (fun i:Nat=>(i:Int)))=some (match ordN l n.Nodes m out with
   | none=>([],7)
   | some out=>(out.map (fun i:Nat=>(i:Int)),0))
 | 0,out,h=>by
  have:dE n fr (out.length:Int) (out.map (fun i:Nat=>(i:Int)))=some (.inr (out.map (fun i:Nat=>(i:Int)),0)):=by unfold dE;rw [if_neg (by simp;omega)];rfl
  rw [aq];simp only [this,ordN]
 | m+1,out,h=>by
  have hn2:=hn.n2;have hstep:dE n fr (out.length:Int) (out.map (fun i:Nat=>(i:Int)))=match bA (okN l out n.Nodes) n.Nodes.length 0 with
   | some i=>some (.inl (((out++[i]).length:Int),(out++[i]).map (fun i:Nat=>(i:Int))))
   | none=>some (.inr ([],7)):=by
   unfold dE
   rw [if_pos (by simp;omega),fw (by omega) (by omega),pB hn hm hio out.length (by omega) out (by omega) n.Nodes.length (-1) (by omega),oh]
   cases bA (okN l out n.Nodes) n.Nodes.length 0 with
   | none=>rfl
   | some i=>simp
  rw [aq];simp only [hstep,ordN];cases bA (okN l out n.Nodes) n.Nodes.length 0 with
  | none=>rfl
  | some i =>
   simp only;exact pk hio m (out++[i]) (by simp;omega)
end
theorem ph (n:Net) (hn:n.Nodes.length<=12) (hn1:1<=n.Nodes.length) (hR0:0<=n.Rings) (hR:n.Rings<=16) (hm1:1<=n.Room) (hm2':n.Room<=6) (hio:∀ x∈n.Nodes,x.In.length<=1099511627776/\x.Out.length<=1099511627776) :
  ∀ (m k s:Nat) (l:List Ends) (fr to:List (Int × Int)),k+m=n.Nodes.length->s<=k->(l.length:Int)=n.Rings->MRi (l.map Ends.src) fr->MRi (l.map Ends.dst) to ->
  (∀ s1 l1,b7 n.Rings k (n.Nodes.drop k) s l=.inr (s1,l1)->¬ (l1.any (fun e=>decide (e.src<0∨e.dst<0))=true)->s1=1->NetL n l1) ->
  iter (fun ss:Int × Int × List (Int × Int) × List (Int × Int)=>dp n ss.1 ss.2.1 ss.2.2.1 ss.2.2.2) ((s:Int),(k:Int),fr,to)=some (match b7 n.Rings k (n.Nodes.drop k) s l with
   | .inl e=>([],e)
   | .inr (s,l)=>if l.any (fun e=>decide (e.src<0∨e.dst<0)) then ([],9) else if s≠1 then ([],4) else match ordN l n.Nodes n.Nodes.length [] with
    | none=>([],7)
    | some out=>(out.map (fun i:Nat=>(i:Int)),0))
 | 0,k,s,l,fr,to,h,hs,hl,hm,hm2,hL=>by
  have hk:k=n.Nodes.length:=by omega
  subst hk;rw [yH] at hL ⊢;have hlen:∀ (f:Ends->Int) (mm:List (Int × Int)),MRi (l.map f) mm->((mm.length:Int)=n.Rings ↔ ∀ e∈l,0<=f e):=fun f mm hmm=>by
   have e1:=hmm.len;have e2:(l.map f).countP (fun x=>decide (0<=x))=(l.map f).length ↔ ∀ x∈l.map f,decide (0<=x)=true:=List.countP_eq_length;rw [<- e1,xW] at e2;constructor
   ·intro h1 e he;have:=e2.1 (by omega) (f e) (List.mem_map_of_mem he);simpa using this
   ·intro h1;have:=e2.2 (fun x hx=>by obtain ⟨e,he,rfl⟩:=yb.1 hx;simpa using h1 e he);omega
  have a1:=hlen _ _ hm;have a2:=hlen _ _ hm2;simp only [b7] at hL ⊢;have hany:(l.any (fun e=>decide (e.src<0∨e.dst<0))=true) ↔ ¬ ((fr.length:Int)=n.Rings/\(to.length:Int)=n.Rings):=by
   rw [a1,a2];simp only [List.any_eq_true,decide_eq_true_eq];constructor
   ·rintro ⟨e,he,h1⟩ ⟨h2,h3⟩;have:=h2 e he;have:=h3 e he;omega
   ·intro h1;refine Classical.byContradiction fun h2=>h1 ⟨fun e he=>?_,fun e he=>?_⟩
    ·refine Classical.byContradiction fun h3=>h2 ⟨e,he,.inl (by omega)⟩
    ·refine Classical.byContradiction fun h3=>h2 ⟨e,he,.inr (by omega)⟩
  have hstep:dp n (s:Int) (n.Nodes.length:Int) fr to=Option.map Sum.inr (if (l.any (fun e=>decide (e.src<0∨e.dst<0)))=true then some ([],9) else if s≠1 then some ([],4) else iter (fun ss:Int × List Int=>dE n fr ss.1 ss.2) (0,[])):=by
   unfold dp;rw [if_neg (by simp)];congr 1;by_cases h1:l.any (fun e=>decide (e.src<0∨e.dst<0))=true
   ·have:=hany.1 h1;rw [if_pos (by simp;omega),if_pos h1]
   ·have:(fr.length:Int)=n.Rings/\(to.length:Int)=n.Rings:=by
     refine Classical.byContradiction fun h2=>h1 (hany.2 h2)
    rw [if_neg (by simp;omega),if_neg h1];by_cases h2:s=1
    ·subst h2;rfl
    ·rw [if_pos (by simp;omega),if_pos h2]
  rw [aq];simp only [hstep];by_cases h1:l.any (fun e=>decide (e.src<0∨e.dst<0))=true
  ·simp only [if_pos h1];rfl
  ·simp only [if_neg h1];by_cases h2:s=1
   ·subst h2;have hnl:=hL 1 l rfl h1 rfl;have:=pk hnl hm (fun x hx=>(hio x hx).1) n.Nodes.length [] (by simp);simp only [xT,yy,y9] at this;simp only [ne_eq,not_true_eq_false,if_false,this];rfl
   ·simp only [ne_eq,h2,not_false_eq_true,if_true];rfl
 | m+1,k,s,l,fr,to,h,hs,hl,hm,hm2,hL=>by
  have hlt:k<n.Nodes.length:=by omega
  have hx:n.Nodes[k]?=some n.Nodes[k]:=xH hlt;obtain ⟨q1,q2⟩:=hio _ (xY hlt);have hone:=tj n s k n.Nodes[k] hx q2 q1 hlt hn (by omega) hR l fr to hl hm hm2;rw [xZ hlt] at hL ⊢;simp only [b7] at hL ⊢;rw [aq];cases ho:oneN n.Rings k n.Nodes[k] l with
  | inl e =>
   rw [ho] at hone;simp only at hone;simp only [hone]
  | inr l1 =>
   rw [ho] at hone hL;obtain ⟨fr1,to1,r1,r2,r3⟩:=hone;simp only [r3];exact ph n hn hn1 hR0 hR hm1 hm2' hio m (k+1) _ l1 fr1 to1 (by omega) (by split<;>omega) (by rw [nJ ho];exact hl) r1 r2 (by simpa using hL)
theorem qC (n:Net) (hio:∀ x∈n.Nodes,x.In.length<=1099511627776/\x.Out.length<=1099511627776):fV n=some (netR n):=by
 unfold fV netR;have hL:∀ l,cT n=.inr l->NetL n l:=fun l h=>kC h
 unfold cT at hL ⊢;by_cases h1:n.Nodes.length<1∨12<n.Nodes.length∨n.Rings<0∨16<n.Rings
 ·rw [if_pos (by simp only [zC,beq_iff_eq,decide_eq_true_eq];omega),if_pos h1]
 rw [if_neg (by simp only [zC,beq_iff_eq,decide_eq_true_eq];omega),if_neg h1];rw [if_neg h1] at hL;by_cases h2:n.Room<1∨6<n.Room
 ·rw [if_pos (by simp;omega),if_pos h2]
 rw [if_neg (by simp;omega),if_neg h2];rw [if_neg h2] at hL;have:=ph n (by omega) (by omega) (by omega) (by omega) (by omega) (by omega) hio n.Nodes.length 0 0 (List.replicate n.Rings.toNat bU) [] [] (by omega) (by omega) (by simp;omega) (by simpa [bU] using MRi.start n.Rings.toNat) (by simpa [bU] using MRi.start n.Rings.toNat) (fun s1 l1 a b c=>by simp only [yJ] at a;have:=hL l1;rw [a] at this;simp only at this;rw [if_neg b,c] at this;exact this rfl)
 simp only [yy,yJ] at this;rw [this];cases b7 n.Rings 0 n.Nodes 0 (List.replicate n.Rings.toNat bU) with
 | inl e=>rfl
 | inr q =>
  obtain ⟨s,l⟩:=q;simp only;by_cases h3:l.any (fun e=>decide (e.src<0∨e.dst<0))=true
  ·rw [if_pos h3,if_pos h3]
  ·rw [if_neg h3,if_neg h3];by_cases h4:s≠1
   ·rw [if_pos h4,if_pos h4]
   ·(rw [if_neg h4,if_neg h4])<;>cases ho:ordN l n.Nodes n.Nodes.length []<;>simp only [ho]
end
theorem oB {n:Net} (h:(netR n).2=0):∃ l out,cT n=.inr l/\NetL n l/\ordN l n.Nodes n.Nodes.length []=some out/\netR n=(out.map (fun i:Nat=>(i:Int)),0):=by
 unfold netR at h ⊢;cases hl:cT n with
 | inl e=>rw [hl] at h;simp only at h;subst h;exact absurd hl (nM n)
 | inr l =>
  rw [hl] at h;simp only at h ⊢;cases ho:ordN l n.Nodes n.Nodes.length [] with
  | none=>rw [ho] at h;simp at h
  | some out=>exact ⟨l,out,rfl,kC hl,ho,rfl⟩
theorem vQ {n:Net} (h:mNet n<=1048576):∀ x∈n.Nodes,x.In.length<=1099511627776/\x.Out.length<=1099511627776:=fun x hx=>by have h1:mNode x<=mL mNode n.Nodes:=pd hx;have h0:mNode x=mL mI x.In+mL mI x.Out+2:=rfl;have h2:x.In.length<=mL mI x.In:=k7 (fun _=>xR 1) _;have h3:x.Out.length<=mL mI x.Out:=k7 (fun _=>xR 1) _;unfold mNet at h;omega
theorem nT (l:List Ends) (ns:List Node):∀ (m:Nat) (out o:List Nat),ordN l ns m out=some o->o.length=out.length+m
 | 0,out,o,h=>by cases h;rfl
 | m+1,out,o,h=>by
  unfold ordN at h;split at h
  ·cases h
  ·have:=nT l ns m _ o h;simp at this;omega
theorem nu {l:List Ends} {ns:List Node}:∀ {m:Nat} {out o:List Nat},ordN l ns m out=some o->out.Nodup->(∀ x∈out,x<ns.length) ->
  o.Nodup/\(∀ x∈o,x<ns.length)/\out <+: o/\∀ (p i:Nat),out.length<=p->o[p]?=some i->okN l (o.take p) ns i=true
 | 0,out,o,h,h1,h2=>by
  cases h;exact ⟨h1,h2,List.prefix_refl _,fun p i hp hi=>by rw [yR hp] at hi;cases hi⟩
 | m+1,out,o,h,h1,h2=>by
  unfold ordN at h;split at h
  ·cases h
  ·rename_i i hi;obtain ⟨_,hlt,hok⟩:=mS hi;have hni:i ∉ out:=by
    unfold okN at hok;rw [yG] at hok;simpa using hok.1
   obtain ⟨a,b,c,d⟩:=nu h (List.nodup_append.2 ⟨h1,by simp,by intro x hx y hy;simp at hy;subst hy;rintro rfl;exact hni hx⟩) (fun x hx=>by
    rcases yw.1 hx with hx | hx
    ·exact h2 x hx
    ·simp at hx;omega)
   refine ⟨a,b,(List.prefix_append out [i]).trans c,fun p j hp hj=>?_⟩;by_cases hpe:p=out.length
   ·subst hpe;obtain ⟨t,ht⟩:=c;rw [<- ht] at hj ⊢;simp only [y7,List.singleton_append,ym (xR _),Nat.sub_self] at hj;simp at hj;subst hj;rw [y7,List.take_left];exact hok
   ·exact d p j (by simp;omega) hj
theorem kg:∀ (N:Nat) (l:List Nat),l.Nodup->(∀ x∈l,x<N)->l.length<=N
 | 0,l,_,h=>by
  cases l with
  | nil=>exact xR _
  | cons x l=>exact absurd (h x yk) (by omega)
 | N+1,l,hd,h=>by
  have:=kg N (l.erase N) (hd.erase N) (fun x hx=>by have h1:=(List.Nodup.mem_erase_iff hd).1 hx;have:=h x h1.2;omega)
  by_cases hm:N∈l
  ·rw [List.length_erase_of_mem hm] at this;omega
  ·rw [List.erase_of_not_mem hm] at this;omega
theorem td {N:Nat} {l:List Nat} (hd:l.Nodup) (h:∀ x∈l,x<N) (hl:l.length=N) {i:Nat} (hi:i<N):i∈l:=by
 refine Classical.byContradiction fun hn=>?_
 have:=kg N (i::l) (zD.2 ⟨hn,hd⟩) (fun x hx=>by
  rcases zl.1 hx with rfl | hx
  ·exact hi
  ·exact h x hx)
 simp at this;omega
structure OrdL (n:Net) (l:List Ends) (o:List Nat):Prop where
 nd:o.Nodup
 lt:∀ x∈o,x<n.Nodes.length
 len:o.length=n.Nodes.length
 fed:∀ (p i:Nat) (x:Node) (r:Int) (e:Ends),o[p]?=some i->n.Nodes[i]?=some x->r∈x.In->l[r.toNat]?=some e->e.src.toNat∈o.take p
theorem u9 {n:Net} {l:List Ends} {o:List Nat} (h:ordN l n.Nodes n.Nodes.length []=some o):OrdL n l o:=by obtain ⟨a,b,_,d⟩:=nu h zg (fun x hx=>by simp at hx);have hl:=nT _ _ _ _ _ h;refine ⟨a,b,by simpa using hl,fun p i x r e hp hx hr he=>?_⟩;have:=d p i (yr _) hp;unfold okN at this;rw [yG,hx] at this;have h2:=this.2;simp only [fedN,yl] at h2;have h3:=h2 r hr;rw [he] at h3;simpa using h3
theorem bnd {α β:Type} {o:Option α} {k:α->Option β} {x:α} {r:Option β} (h:o=some x) (h2:k x=r):Option.bind o k=r:=by rw [h];exact h2
def good (l:List Keyed) (i:Nat):Prop:=∀ x,l[i]?=some x->1<=x.N/\∀ j y,i=j+1->l[j]?=some y->y.Key<x.Key
def pm (k f:Int):Prop:=1<=k/\k<=8/\(k=2->0<=f/\f<=3)
def aA (n:Net) (i:Nat):Node:=n.Nodes.getD i ⟨0,0,[],[]⟩
structure RightN (n:Net):Prop where
 n1:1<=n.Nodes.length
 n2:n.Nodes.length<=12
 r1:0<=n.Rings
 r2:n.Rings<=16
 m1:1<=n.Room
 m2:n.Room<=6
 kind:∀ i,i<n.Nodes.length->pm (aA n i).Kind (aA n i).A
 a0:∀ i,i<n.Nodes.length->0<=(aA n i).A
 in1:∀ i,i<n.Nodes.length->(aA n i).Kind=1->(aA n i).In=[]
 in6:∀ i,i<n.Nodes.length->(aA n i).Kind=6->1<=(aA n i).In.length
 inx:∀ i,i<n.Nodes.length->(aA n i).Kind≠1->(aA n i).Kind≠6->(aA n i).In.length=1
 out8:∀ i,i<n.Nodes.length->(aA n i).Kind=8->(aA n i).Out=[]
 out1:∀ i,i<n.Nodes.length->(aA n i).Kind≠8->1<=(aA n i).Out.length
 outx:∀ i,i<n.Nodes.length->(aA n i).Kind≠8->(aA n i).Kind≠5->(aA n i).Kind≠7->(aA n i).Out.length=1
 inR:∀ i,i<n.Nodes.length->∀ r,r∈(aA n i).In->0<=r/\r<n.Rings
 outR:∀ i,i<n.Nodes.length->∀ r,r∈(aA n i).Out->0<=r/\r<n.Rings
 ndI:∀ i,i<n.Nodes.length->(aA n i).In.Nodup
 ndO:∀ i,i<n.Nodes.length->(aA n i).Out.Nodup
 oneI:∀ i j r,i<n.Nodes.length->j<n.Nodes.length->r∈(aA n i).In->r∈(aA n j).In->i=j
 oneO:∀ i j r,i<n.Nodes.length->j<n.Nodes.length->r∈(aA n i).Out->r∈(aA n j).Out->i=j
 toI:∀ r:Nat,(r:Int)<n.Rings->∃ i,i<n.Nodes.length/\(r:Int)∈(aA n i).In
 toO:∀ r:Nat,(r:Int)<n.Rings->∃ i,i<n.Nodes.length/\(r:Int)∈(aA n i).Out
 sink:∃ s,s<n.Nodes.length/\(aA n s).Kind=8
 sink1:∀ i j,i<n.Nodes.length->j<n.Nodes.length->(aA n i).Kind=8->(aA n j).Kind=8->i=j
 ord:∃ pos:Nat->Nat,(∀ i,i<n.Nodes.length->pos i<n.Nodes.length)/\(∀ i j,i<n.Nodes.length->j<n.Nodes.length->pos i=pos j->i=j)/\∀ i j r,i<n.Nodes.length->j<n.Nodes.length->r∈(aA n i).Out->r∈(aA n j).In->pos i<pos j
theorem nx {n:Net} {i:Nat} (h:i<n.Nodes.length):n.Nodes[i]?=some (aA n i):=by unfold aA;rw [xO,xH h];rfl
theorem sW {x:Node} (h:bL x=0):pm x.Kind x.A/\0<=x.A/\(x.Kind=1->x.In=[])/\(x.Kind=6->1<=x.In.length)/\(x.Kind≠1->x.Kind≠6->x.In.length=1)/\(x.Kind=8->x.Out=[])/\(x.Kind≠8->1<=x.Out.length) /\
  (x.Kind≠8->x.Kind≠5->x.Kind≠7->x.Out.length=1):=by
 unfold bL at h
 split at h
 ·exact absurd h (by decide)
 ·rename_i i o har
  split at h
  ·exact absurd h (by decide)
  ·rename_i hf
   split at h
   ·exact absurd h (by decide)
   ·rename_i hb
    have hfi:aQ x.In.length i=true/\aQ x.Out.length o=true:=by cases h1:aQ x.In.length i<;>cases h2:aQ x.Out.length o<;>simp [h1,h2] at hf<;>exact ⟨rfl,rfl⟩
    have h1:=of_decide_eq_true hfi.1
    have h2:=of_decide_eq_true hfi.2
    have h3:¬ (x.A<0∨x.Kind=1/\4<=x.A∨x.Kind=2/\3<x.A∨x.Kind≠1/\x.Kind≠2/\x.A≠0):=fun e=>hb (by unfold badA;exact decide_eq_true e)
    unfold bM at har
    have hz:∀ l:List Int,(l.length:Int)=0->l=[]:=fun l hl=>xQ (by omega)
    split at har
    ·cases har;rename_i hk
     exact ⟨⟨by omega,by omega,by omega⟩,by omega,fun _=>hz _ (by omega),by omega,by omega,by omega,by omega,by omega⟩
    ·split at har
     ·cases har;rename_i hk1 hk
      exact ⟨⟨by omega,by omega,by omega⟩,by omega,by omega,by omega,by omega,by omega,by omega,by omega⟩
     ·split at har
      ·cases har;rename_i hk1 hk2 hk
       exact ⟨⟨by omega,by omega,by omega⟩,by omega,by omega,by omega,by omega,by omega,by omega,by omega⟩
      ·split at har
       ·cases har;rename_i hk1 hk2 hk3 hk
        exact ⟨⟨by omega,by omega,by omega⟩,by omega,by omega,by omega,by omega,by omega,by omega,by omega⟩
       ·split at har
        ·cases har;rename_i hk1 hk2 hk3 hk4 hk
         exact ⟨⟨by omega,by omega,by omega⟩,by omega,by omega,by omega,by omega,fun _=>hz _ (by omega),by omega,by omega⟩
        ·cases har
theorem m5 {α:Type} {p:α->Bool}:∀ {l:List α},(l.filter p).length=1->∃ (i:Nat) (x:α),l[i]?=some x/\p x=true/\∀ (j:Nat) (y:α),l[j]?=some y->p y=true->j=i
 | [],h=>by simp at h
 | a::l,h=>by
  by_cases ha:p a=true
  ·rw [List.filter_cons_of_pos ha] at h;have h0:l.filter p=[]:=xQ (by simpa using h);refine ⟨0,a,rfl,ha,fun j y hy hp=>?_⟩;cases j with
   | zero=>rfl
   | succ j =>
    have hm:y∈l.filter p:=List.mem_filter.2 ⟨xK (by simpa using hy),hp⟩;rw [h0] at hm;cases hm
  ·rw [List.filter_cons_of_neg ha] at h;obtain ⟨i,x,h1,h2,h3⟩:=m5 h;refine ⟨i+1,x,by simpa using h1,h2,fun j y hy hp=>?_⟩;cases j with
   | zero=>simp at hy;subst hy;exact absurd hp ha
   | succ j=>rw [h3 j y (by simpa using hy) hp]
theorem sI {n:Net} (h:(netR n).2=0):RightN n:=by
 obtain ⟨l,o,hlk,hl,ho,_⟩:=oB h;have hord:=u9 ho;have hg:∀ i,i<n.Nodes.length->n.Nodes[i]?=some (aA n i):=fun i hi=>nx hi
 have he:=fun i hi=>sW (hl.err i _ (hg i hi))
 obtain ⟨s,xs,hs,hs8,hsu⟩:=m5 hl.sink;have hsl:=(xG.1 hs).1;have hsx:aA n s=xs:=by have:=hg s hsl;rw [hs] at this;exact (xL this).symm
 refine ⟨hl.n1,hl.n2,hl.r1,hl.r2,hl.m1,hl.m2,fun i hi=>(he i hi).1,fun i hi=>(he i hi).2.1,fun i hi=>(he i hi).2.2.1,fun i hi=>(he i hi).2.2.2.1,fun i hi=>(he i hi).2.2.2.2.1,fun i hi=>(he i hi).2.2.2.2.2.1,fun i hi=>(he i hi).2.2.2.2.2.2.1,fun i hi=>(he i hi).2.2.2.2.2.2.2,
  fun i hi r hr=>⟨(hl.inn i _ (hg i hi) r hr).1,(hl.inn i _ (hg i hi) r hr).2.1⟩,fun i hi r hr=>⟨(hl.out i _ (hg i hi) r hr).1,(hl.out i _ (hg i hi) r hr).2.1⟩,fun i hi=>hl.ndI i _ (hg i hi),fun i hi=>hl.ndO i _ (hg i hi),
  fun i j r hi hj h1 h2=>?_,fun i j r hi hj h1 h2=>?_,fun r hr=>?_,fun r hr=>?_,⟨s,hsl,by rw [hsx];simpa using hs8⟩,fun i j hi hj h1 h2=>?_,?_⟩
 ·obtain ⟨_,_,e,e1,e2⟩:=hl.inn i _ (hg i hi) r h1;obtain ⟨_,_,e',e3,e4⟩:=hl.inn j _ (hg j hj) r h2;rw [e1] at e3;cases e3;omega
 ·obtain ⟨_,_,e,e1,e2⟩:=hl.out i _ (hg i hi) r h1;obtain ⟨_,_,e',e3,e4⟩:=hl.out j _ (hg j hj) r h2;rw [e1] at e3;cases e3;omega
 ·have hlt:r<l.length:=by have:=hl.len;omega
  obtain ⟨i,x,h1,_,h3⟩:=hl.dst r _ (xH hlt);have hi:=(xG.1 h1).1;have:=hg i hi;rw [h1] at this;cases this;exact ⟨i,hi,h3⟩
 ·have hlt:r<l.length:=by have:=hl.len;omega
  obtain ⟨i,x,h1,_,h3⟩:=hl.src r _ (xH hlt);have hi:=(xG.1 h1).1;have:=hg i hi;rw [h1] at this;cases this;exact ⟨i,hi,h3⟩
 ·rw [hsu i _ (hg i hi) (by simpa using h1),hsu j _ (hg j hj) (by simpa using h2)]
 ·have hmem:∀ i,i<n.Nodes.length->i∈o:=fun i hi=>td hord.nd hord.lt hord.len hi
  have hidx:∀ i,i<n.Nodes.length->o[o.idxOf i]?=some i:=fun i hi=>by rw [xH (List.idxOf_lt_length_iff.2 (hmem i hi)),List.getElem_idxOf]
  refine ⟨fun i=>o.idxOf i,fun i hi=>?_,fun i j hi hj e=>?_,fun i j r hi hj h1 h2=>?_⟩
  ·show o.idxOf i<_;rw [<- hord.len];exact List.idxOf_lt_length_iff.2 (hmem i hi)
  ·have h1:=hidx i hi;have h2:=hidx j hj;simp only at e;rw [e,h2] at h1;exact (xL h1).symm
  ·obtain ⟨_,_,e,e1,e2⟩:=hl.out i _ (hg i hi) r h1;have h3:=hord.fed _ j _ r e (hidx j hj) (hg j hj) h2 e1;rw [e2,yY] at h3;show o.idxOf i<o.idxOf j;obtain ⟨q,hq⟩:=y8 h3;rw [ye] at hq;split at hq
   ·rename_i hlt;have hq2:=hidx i hi;have:q=o.idxOf i:=by
     have hql:=(xG.1 hq).1;refine (List.getElem?_inj hql hord.nd).1 ?_;rw [hq,hq2]
    omega
   ·cases hq
section
open Go
theorem te (a b:List Int) (ha:a.length<=1099511627776) (hl:a.length=b.length):e9 a b=some (decide (a=b)):=by
 unfold e9;rw [if_neg (by simp;omega)];exact rx a b ha hl (fun k x y h1 h2 h3 h4=>by
  unfold gH;rw [h1,h2,h3,h4];by_cases h:x=y<;>simp [h]) (fun h=>by
  unfold gH;rw [h];simp)
theorem nc (a:List Int) (ha:a.length<=1099511627776):e9 a a=some true:=by rw [te a a ha rfl];simp
theorem si {x:Node} (h1:x.In.length<=1099511627776) (h2:x.Out.length<=1099511627776):gM x x=some true:=by unfold gM;rw [if_pos (by simp),if_pos (by simp),nc x.In h1,nc x.Out h2];simp
theorem mE {n:Net} (hl:n.Nodes.length<=1000) (hio:∀ x∈n.Nodes,x.In.length<=1099511627776/\x.Out.length<=1099511627776):∀ (m k:Nat),k+m=n.Nodes.length->iter (fun ss:Int=>d7 n.Nodes n.Nodes ss) (k:Int)=some true
 | 0,k,h=>by
  rw [aq];have e:d7 n.Nodes n.Nodes (k:Int)=some (.inr true):=by unfold d7;rw [if_neg (by simp;omega)];rfl
  simp only [e]
 | m+1,k,h=>by
  have hlt:k<n.Nodes.length:=by omega
  have hx:n.Nodes[k]?=some n.Nodes[k]:=xH hlt;have hio':=hio n.Nodes[k] (xY hlt);generalize n.Nodes[k]=x at hx hio';rw [aq];have e:d7 n.Nodes n.Nodes (k:Int)=some (.inl ((k+1:Nat):Int)):=by unfold d7;rw [if_pos (by simp;omega),bG hx,xI,xI,si hio'.1 hio'.2,xI,if_neg (by simp),bB (by omega)]
  simp only [e];exact mE hl hio m (k+1) (by omega)
theorem tX {n:Net} (hl:n.Nodes.length<=1000) (hio:∀ x∈n.Nodes,x.In.length<=1099511627776/\x.Out.length<=1099511627776):fW n n=some true:=by unfold fW;rw [if_pos (by simp),if_pos (by simp)];unfold iA;rw [if_neg (by simp)];have:=mE hl hio n.Nodes.length 0 (by omega);rw [yy] at this;rw [this];rfl
theorem a3_of {x:Node} (h:bL x=0):x.A<=3:=by
 unfold bL at h;split at h
 ·exact absurd h (by decide)
 ·split at h
  ·exact absurd h (by decide)
  ·split at h
   ·exact absurd h (by decide)
   ·rename_i hb;unfold badA at hb;simp only [decide_eq_true_eq,not_or,not_and] at hb;omega
theorem mW {l:List Int} {R:Int} (hd:l.Nodup) (h:∀ r,r∈l->0<=r/\r<R) (hR:0<=R):(l.length:Int)<=R:=by
 have h1:(l.map Int.toNat).Nodup:=List.pairwise_map.2 (List.Pairwise.imp_of_mem (fun {a b} ha hb hne e=>hne (by have:=h a ha;have:=h b hb;omega)) hd);have:=kg R.toNat (l.map Int.toNat) h1 (fun x hx=>by obtain ⟨a,ha,rfl⟩:=yb.1 hx;have:=h a ha;omega)
 simp at this;omega
theorem tn_of {n:Net} (h:(netR n).2=0):TN n:=by have R:=sI h;obtain ⟨l,o,hlk,hl,ho,_⟩:=oB h;have r1:=R.r1;have r2:=R.r2;have m1:=R.m1;have m2:=R.m2;refine ⟨R.n2,⟨r1,by omega⟩,⟨by omega,by omega⟩,fun x hx=>?_⟩;obtain ⟨i,hi⟩:=y8 hx;have hlt:=(xG.1 hi).1;have hg:=nx hlt;rw [hi] at hg;cases hg;have hk:=R.kind i hlt;have ha:=a3_of (hl.err i _ hi);have l1:=mW (R.ndI i hlt) (R.inR i hlt) r1;have l2:=mW (R.ndO i hlt) (R.outR i hlt) r1;exact ⟨⟨hk.1,hk.2.1⟩,⟨R.a0 i hlt,by omega⟩,⟨by omega,fun r hr=>by have:=R.inR i hlt r hr;omega⟩,⟨by omega,fun r hr=>by have:=R.outR i hlt r hr;omega⟩⟩
theorem nF:∀ x∈meetT.Nodes,x.In.length<=1099511627776/\x.Out.length<=1099511627776:=by decide
theorem sf:ep=some true:=uK (by rw [mF meetT nF];decide +kernel) (tX (by decide) nF)
theorem qS (n:Net) (hb:mNet n+0<=1048576):gK n=some true:=by have hio:=vQ (show mNet n<=1048576 by omega);have hr:=qC n hio;exact qV (c:=(netR n).2) (q:=(netR n).1) sf (mF n hio) hr tn_of
end
end Go.Proofs.YtknplalngpedbaaDoor
namespace Go.Proofs.YtknplalngpedbaaDoor.talePrintLaw
open Go.ChangeShapes Go.WideShapes Go.ChangeAt Go.RowKit
theorem own:ownKnob Tryd.prog.godebug=none:=by kernel_rfl
theorem laid:laidOutB Tryd.prog=true:=by kernel_rfl
theorem ok:(Tryd.f3.params.toList.all fun t=>Tryd.prog.readableRec t && decide (t<Tryd.prog.types.size))=true:=by kernel_rfl
set_option maxRecDepth 100000 in
theorem contract (H:Type) (enc:TypeId × Value->H) (W:World) (base:Nat) (args:Array Value) (ds gs:List (DataW H)) (before:List MemPlace)
  (hval:∀ (j:Nat) t v,Tryd.f3.params[j]?=some t->args[j]?=some v->Value.okWide Tryd.prog W .any base t v)
  (hW:DataW.Whole enc Tryd.prog Tryd.f3.params.toList Rows.talePrintSpec.vars false W args.toList ds gs before) (hk:Rows.uptoSmall H (ds++gs)=true) :
  Calls Tryd.prog 3 args W fun e W'=>∃ v,e=.returned v/\Rows.talePrintSpec.post enc Tryd.prog Tryd.f3 false true false false W args v W':=by
 have hW':=hW
 obtain ⟨p,q,hA0,hV,rfl,hfz,hnd⟩:=hW
 have hA:DataW.TrodAll enc Tryd.prog W 0 (fun _=>true) true Tryd.f3.params.toList args.toList ds p:=hA0
 rw [Tryd.params3] at hA hval
 obtain ⟨v0,vs0,d0,ds0,p0,q0,hargs,rfl,rfl,h0,r0⟩:=trodAll_cons hA
 obtain ⟨rfl,rfl,rfl⟩:=trodAll_nil r0
 obtain rfl:args=#[v0]:=by cases args;simp_all
 obtain ⟨rfl,rfl⟩:=trodVars_none hV
 obtain ⟨x0,a0,g0,m0⟩:=Opn.args on24 Tryd.underlying24 (hval 0 _ v0 rfl rfl) h0
 have hb:Rows.uptoBulkAll ([d0]:List (DataW H))<=1048576:=of_decide_eq_true hk
 simp only [Rows.uptoBulkAll] at hb
 refine tJ laid Tryd.underlying4 (by kernel_rfl) ok rfl rfl rfl rfl hW' (av:=[_]) (.cons a0 (.nil)) (qE (qS x0 (by omega)))
set_option maxRecDepth 100000 in
def flatV:Nat->DataW Unit->List Value
 | _,.lit (.int k x)=>[.int k x]
 | f+1,.agg l=>(l.map (flatV f)).flatten
 | _,_=>[]
def putC (d:DataW Unit):Go.Obj->Go.Obj
 | .cells c t frozen=>.cells (match d with | .agg l=>(flatV 4 (.agg l)).toArray | _=>c) t frozen
 | o=>o
def putI (ty:TypeId) (b:Nat):Go.Obj->Go.Obj
 | .cells _ t frozen=>.cells #[.iface ty (.pointer (some ⟨b,0,none⟩))] t frozen
 | o=>o
def strOf:DataW Unit->List UInt8
 | .iface _ (.ptr (.agg [.lit (.string b)]))=>b
 | _=>[]
def datum (x:String):DataW Unit:=((Rows.talePrintUptoRow.laid.find? fun p=>p.1==x).map (·.2)).getD .nil
noncomputable def laidWorld (os:Os):World :=
 { World.holding Tryd.prog os ⟨#[],#[],[]⟩ with heap:=(((((((((((World.holding Tryd.prog os ⟨#[],#[],[]⟩).heap.modify 0 (putC (datum "internal/strconv.uint64pow10"))).modify 1 (putC (datum "internal/bytealg.MaxLen"))).modify 2 (putC (datum "math/bits.deBruijn32tab"))).modify 3 (putC (datum "math/bits.deBruijn64tab"))).modify 4 (putC (datum "unicode/utf8.first"))).modify 5 (putC (datum "unicode/utf8.acceptRanges"))).modify 6 (putI 145 ((World.holding Tryd.prog os ⟨#[],#[],[]⟩).heap.size+0))).modify 7 (putI 145 ((World.holding Tryd.prog os ⟨#[],#[],[]⟩).heap.size+1))).push (.cells #[.string ⟨(strOf (datum "strconv.ErrSyntax")).toArray⟩] 147 (0,0))).push (.cells #[.string ⟨(strOf (datum "strconv.ErrRange")).toArray⟩] 147 (0,0))) }
theorem laid_met (os:Os):laidMet Tryd.prog Rows.talePrintUptoRow.laid ((laidWorld os).forCall (fun _ _=>0) ⟨#[],#[.agg #[.slice none 0 0,.int .i64 0,.int .i64 0]],[]⟩).memory :=
 laidMet_of_run' 8 (by kernel_rfl) (by kernel_rfl)
theorem reads (os:Os) {H:Type} (enc:TypeId × Value->H):∃ places,DataW.whole enc Tryd.prog ((laidWorld os).forCall (fun _ _=>0) ⟨#[],#[.agg #[.slice none 0 0,.int .i64 0,.int .i64 0]],[]⟩).memory Tryd.f3.params.toList Rows.talePrintSpec.vars false #[.agg #[.slice none 0 0,.int .i64 0,.int .i64 0]].toList 8=some ([.agg [.nil,.lit (.int .i64 0),.lit (.int .i64 0)]],[],places) :=
 ⟨[],by kernel_rfl⟩
set_option maxRecDepth 100000 in
theorem lifted (os:Os) (started:os.Started) (H:Type) (enc:TypeId × Value->H) (F:Stop.Interp) :
  ReturnsInHanded {} Tryd.checked os 3 .any ((Rows.OpenSpec.upto Rows.talePrintSpec).preRow enc Tryd.prog Tryd.f3 Rows.talePrintUptoRow.domain false Rows.talePrintUptoRow.laid) (((Rows.OpenSpec.upto Rows.talePrintSpec).at F).post enc Tryd.prog Tryd.f3 false true false false):=by
 obtain ⟨places,hx⟩:=reads os enc
 refine returnsInHanded_of_row (C:=Tryd.checked) (s:=Rows.OpenSpec.upto Rows.talePrintSpec) own started (by kernel_rfl) Tryd.func3
  (witness_row_at (enc:=enc) (C:=Tryd.checked) false (laidWorld os) #[.agg #[.slice none 0 0,.int .i64 0,.int .i64 0]] rfl (by kernel_rfl) (by kernel_rfl) (by kernel_rfl)
   (OpenSpec.preRow_of_cond 8 hx (by kernel_rfl) (fun k hk=>by cases hk;kernel_rfl) (by kernel_rfl) (laid_met os))) ?_
 intro W base args ds gs before hval hW _ hk _ hL _ _
 exact contract H enc W base args ds gs before hval hW (hk _ rfl)
theorem said:Rows.TalePrintUptoSaid :=
 OpenClaim.holds_of_cond 3 Tryd.f3 rfl rfl rfl rfl rfl rfl rfl ⟨rfl,rfl,rfl,rfl,rfl⟩ rfl rfl rfl rfl rfl (by kernel_rfl) Tryd.func3 (by kernel_rfl)
  (of_decide_eq_true (by kernel_rfl)) (by unfold Func.isWrapper;first | (rw [if_pos (by decide +kernel)];kernel_rfl) | (rw [if_neg (by decide +kernel)];exact ⟨rfl,rfl⟩))
  (fun os started H enc _ F=>by rw [OpenClaim.pre_eq_preRow];exact lifted os started H enc F)
theorem plain (f:FuncId) (fn:Func) (hf:Tryd.pinned.checked.prog.funcNamed "crossroads/crosslaw.TalePrint" = some f) (hfn:Tryd.pinned.checked.prog.funcs[f]?=some fn) :
  true=Tryd.pinned.checked.prog.looks []/\∀ (j:Nat) t,fn.params[j]?=some t->Tryd.pinned.checked.prog.wantsStandIn t=false:=by
 obtain rfl:f=3:=xL ((show Tryd.prog.funcNamed "crossroads/crosslaw.TalePrint" = some 3 by kernel_rfl).symm.trans hf) |>.symm
 obtain rfl:fn=Tryd.f3:=(xL (Tryd.func3.symm.trans hfn)).symm
 refine ⟨by kernel_rfl,fun j t ht=>?_⟩
 have h:(Tryd.f3.params.toList.all fun t=>!Tryd.prog.wantsStandIn t)=true:=by kernel_rfl
 have h:=yl.1 h t (by simpa using Array.mem_of_getElem? ht)
 exact (show Tryd.prog.wantsStandIn t=false by simpa using h)
theorem proved:Rows.TalePrintUptoCardSaid :=
 Claim7.holds_tied_plain_at .later [] _ _ _ _ said (fun _ h=>by cases h) (by kernel_rfl) (fun _ h=>by cases h) talePrintUpto_row_tie rfl ⟨rfl,rfl⟩ (by kernel_rfl) rfl plain (by kernel_rfl)
#print axioms proved
end Go.Proofs.YtknplalngpedbaaDoor.talePrintLaw
