/-
  Part 3 of the proof of taleParseLaw.proved: the code computes these functions, and the law holds of them, with no condition beyond the statement's own; put together by a program of ours (wip/decl.py) out of texts of ours.
-/
import Derived.Shelf.Abstract
import Derived.Shelf.RegionOpen
import Derived.OwnWalkIn
import Derived.TacticsInMore
import Derived.LoopNIn
import Derived.LoopIn
import Derived.Shelf.Strings.Search3
import Derived.Lib.ParseIntBTie
import Derived.Tactics
import Derived.Tactics2
import Derived.Shelf.Strings.OnBuilder
import Derived.Shelf.Strings.Builder1
import Derived.Lib.Builder
import Derived.Laws.Externs
import Derived.Deep.QuietTactic
import Derived.Sort.LotA
import Derived.Sort.Row
import Derived.ProofKit
import Derived.OpenShut
import Derived.JoinedCond
import Derived.Deep.Slices
import Derived.Carry
import Derived.IntWalk
import Derived.Test.YtbfncjgaklimlaaGreatDoorZTaleParse2
set_option linter.unusedVariables false
set_option linter.unusedSimpArgs false
namespace Go.Proofs.YtbfncjgaklimlaaGreatDoor
section
open Go.RowKit Go.Shelf
set_option maxRecDepth 100000
set_option maxHeartbeats 4000000
attribute [local go_sem] Oper.semAt_some
def AbB {β:Type} (B:Nat) (J:β->World->Prop):Prop:=∀ s W W' row,J s W->W.grownBy W' row->(∀ r,row=some r->r=B)->J s W'
def boxK (B m:Nat) (W W':World):Prop:=∀ k,B<=k->k<B+m->W'.heap[k]?=W.heap[k]?
theorem wJ (n:Nat) (hn:1<=n) (b:UInt8) (s0:List UInt8) (hs0:s0.length<4294967281) (l B:Nat) (J:List (List UInt8)->World->Prop) (hJ:AbB B J)
  (ok:List UInt8->Bool) (ch:List PanicEntry) (JP:World->Prop) (R:Ending->World->Prop) (hRg:∀ v W',(aB b s0).all ok=true->J (aB b s0) W'->R (.returned v) W') (hRb:∀ W',(aB b s0).all ok=false->JP W'->R (.panicked ch) W')
  (hY:∀ pre x post W,aB b s0=pre++x::post->ok x=true->J pre W->YieldAt Fence.wide (n - 1) Tryz.prog l #[.string ⟨x.toArray⟩] W fun e W'=>e=.returned (.bool true)/\J (pre++[x]) W'/\boxK B 3 W W')
  (hN:∀ pre x post W,aB b s0=pre++x::post->ok x=false->J pre W->YieldAt Fence.wide (n - 1) Tryz.prog l #[.string ⟨x.toArray⟩] W fun e W'=>e=.panicked ch/\JP W')
  (W:World) (h0:Boxed W B 9 (.string ⟨s0.toArray⟩)) (h1:Boxed W (B+1) 9 (.string ⟨#[b]⟩)) (h2:Boxed W (B+2) 3 (.int .i64 0)) (hj:J [] W) :
  CallsIn Fence.wide n Tryz.prog 112 #[.func (.yield l) #[] #[],.pointer (some ⟨B+1,0,none⟩),.pointer (some ⟨B,0,none⟩),.pointer (some ⟨B+2,0,none⟩)] W R:=by
 refine callsIn_of_wp Tryz.func112 rfl trivial ?_ rfl
 simp only [Tryz.ntmps112,AR,zR,An,Nat.reduceAdd,Nat.reduceSub,Array.replicate_succ,Array.replicate_zero,List.push_toArray,List.append_toArray,AJ,AA]
 have hc1:=h1.cell
 have hc0:=h0.cell
 have hc2:=h2.cell
 gi_wp2
 gi_loopw [] (fun wr=>∃ pre s,aB b s0=pre++aB b s/\s.length<=s0.length/\Boxed wr B 9 (.string ⟨s.toArray⟩)/\Boxed wr (B+1) 9 (.string ⟨#[b]⟩)/\Boxed wr (B+2) 3 (.int .i64 0)/\J pre wr/\Aside (pre.all ok=true))
  (fun wr=>match wr.cell? ⟨B,0,none⟩ with | some (.string s)=>s.size | _=>0)
 case atStart=>exact ⟨[],s0,rfl,zP _,h0,h1,h2,hj,rfl⟩
 case round =>
  obtain ⟨pre,s,hcut,hle,hb0,hb1,hb2,hJs,hall⟩:=hrel
  have hd0:=hb0.cell
  have hd1:=hb1.cell
  have hd2:=hb2.cell
  have hf0:=hb0.frozen
  rcases iM s b with ⟨hneg,hno⟩ | ⟨p,q,rfl,hno,hix⟩
  ·by_cases hok:ok s=true
   case neg =>
    have hok:ok s=false:=by simpa using hok
    have HB:Aside ((aB b s0).all ok=false):=by show _=_;rw [hcut,fb hno];simp [hok]
    obtain ⟨fn,tmps,assign,body,hy,hR⟩:=hN pre s [] _ (by rw [hcut,fb hno]) hok hJs
    clear hok
    gi_wp2_with (refine ⟨trivial,?_⟩;gi_at_call 58;refine (callsIn_wide.2 (Any.strings_Index_one (ρ:=tR) { tS with } ⟨s.toArray⟩ b _)).mono ?_;rintro e w' ⟨rfl,rfl⟩)
    refine hR.mono ?_
    rintro e W3 ⟨rfl,hJ3⟩
    dsimp only
    exact ⟨rfl,hRb _ HB.out hJ3⟩
   have HG:Aside ((aB b s0).all ok=true):=by show _=_;rw [hcut,fb hno];simp [hok];simpa using hall.out
   obtain ⟨fn,tmps,assign,body,hy,hR⟩:=hY pre s [] _ (by rw [hcut,fb hno]) hok hJs
   clear hok
   gi_wp2_with (refine ⟨trivial,?_⟩;gi_at_call 58;refine (callsIn_wide.2 (Any.strings_Index_one (ρ:=tR) { tS with } ⟨s.toArray⟩ b _)).mono ?_;rintro e w' ⟨rfl,rfl⟩)
   refine hR.mono ?_
   rintro e W3 ⟨rfl,hJ3,_⟩
   gi_wp2
   go_end0
   exact hRg _ _ HG.out (by rw [hcut,fb hno];exact hJ3)
  ·have hlt:p.length<4294967281:=by simp at hle;omega
   have hI:∀ w,Calls Tryz.prog 58 #[.string ⟨(p++b::q).toArray⟩,.string ⟨#[b]⟩] w fun e w'=>e=.returned (.int .i64 p.length)/\w'=w:=fun w=>(Any.strings_Index_one (ρ:=tR) { tS with } ⟨(p++b::q).toArray⟩ b _).mono fun e w' ⟨h1,h2⟩=>⟨by rw [h1];simp [hix],h2⟩
   have hw:wrap64 (p.length:Int)=p.length:=by unfold wrap64;omega
   have hsz:(⟨(p++b::q).toArray⟩:ByteArray).size=p.length+(q.length+1):=by simp [ByteArray.size]
   have hN':=fun W=>hN pre p (aB b q) W (by rw [hcut,ej q hno])
   have hY':=fun W=>hY pre p (aB b q) W (by rw [hcut,ej q hno])
   have hpx:(⟨p.toArray⟩:ByteArray)=(⟨(p++b::q).toArray⟩:ByteArray).extract 0 p.length:=by apply ByteArray.ext;simp [ByteArray.data_extract]
   have hqx:(⟨(p++b::q).toArray⟩:ByteArray).extract (p.length+1) (p.length+(q.length+1))=⟨q.toArray⟩:=by apply ByteArray.ext;simp [ByteArray.data_extract];exact Ab (by omega)
   by_cases hok:ok p=true
   case neg =>
    have hok:ok p=false:=by simpa using hok
    have HB:Aside ((aB b s0).all ok=false):=by show _=_;rw [hcut,ej q hno];simp [hok]
    obtain ⟨fn,tmps,assign,body,hy,hR⟩:=hN' _ hok hJs
    clear hN' hY' hok
    rw [hpx] at hy
    gi_wp2_with (refine ⟨trivial,?_⟩;gi_at_call 58;refine (callsIn_wide.2 (hI _)).mono ?_;rintro e w' ⟨rfl,rfl⟩)
    refine hR.mono ?_
    rintro e W3 ⟨rfl,hJ3⟩
    dsimp only
    exact ⟨rfl,hRb _ HB.out hJ3⟩
   have HG:Aside ((pre++[p]).all ok=true):=by show _=_;simp [hok];simpa using hall.out
   obtain ⟨fn,tmps,assign,body,hy,hR⟩:=hY' _ hok hJs
   clear hN' hY' hok
   rw [hpx] at hy
   gi_wp2_with (refine ⟨trivial,?_⟩;gi_at_call 58;refine (callsIn_wide.2 (hI _)).mono ?_;rintro e w' ⟨rfl,rfl⟩)
   refine hR.mono ?_
   rintro e W3 ⟨rfl,hJ3,hk3⟩
   have k0:Boxed W3 B 9 (.string ⟨(p++b::q).toArray⟩):=(hk3 B (zP _) (by omega)).trans hb0
   have k1:Boxed W3 (B+1) 9 (.string ⟨#[b]⟩):=(hk3 (B+1) (by omega) (by omega)).trans hb1
   have k2:Boxed W3 (B+2) 3 (.int .i64 0):=(hk3 (B+2) (by omega) (by omega)).trans hb2
   have c0:=k0.cell
   have c1:=k1.cell
   have f0:=k0.frozen
   have hw1:wrap64 ((p.length:Int)+1)=p.length+1:=by unfold wrap64;omega
   gi_wp2
   go_roundw
   case rel =>
    exact ⟨pre++[p],q,by rw [hcut,ej q hno];simp,by simp at hle;omega,k0.set _,k1.kept (grownBy_setCell' _ _ _) (by simp),k2.kept (grownBy_setCell' _ _ _) (by simp),hJ _ _ _ (some B) hJ3 (grownBy_setCell' _ _ _) (fun r e=>by cases e;rfl),HG⟩
   case measure =>
    rw [hd0,(k0.set (.string ⟨q.toArray⟩)).cell]
    simp [ByteArray.size]
    omega
theorem boxK.put {B m:Nat} {W W':World} (h:boxK B m W W') (l:Nat) (o:Obj) (hl:l<B∨B+m<=l):boxK B m W (W'.putObj l o):=fun k h1 h2=>(World.putObj_heap_other (by omega)).trans (h k h1 h2)
def bodyB (B D:Nat) (W:World) (K:World->Prop):Exit->Act->World->Prop:=fun e _ W'=>e=.normal/\boxK B 3 W W'/\boxK D 2 W W'/\K W'
theorem uj {P:Program} {α:Type} {n:Nat} {b:Frame} {fn0:Func} {g:Operand} {ps:Array Tmp} {assign body:Code} {Q:Exit->Act->World->Prop} {a:Act} {w:World} {gf:Nat} {lb:Array Value} (hro:b.roundOf=none) (hfn:P.funcs[b.fn]?=some fn0)
  (hg:a.eval g=.func (.func gf) #[] lb) (eg:∀ args w,(callFunc gf args).run P w=.ok (.enter gf args) w) (encs:α->Array Value) (hps:∀ x,(encs x).size=ps.size) (xs:List α) (B:Nat) (hB:B+3<=w.heap.size) (ok:α->Bool) (ch:List PanicEntry)
  (hseq:∀ (l:Nat) (J:List α->World->Prop) (JP:World->Prop) (R:Ending->World->Prop) (W:World),(∀ v W',xs.all ok=true->J xs W'->R (.returned v) W')->(∀ W',xs.all ok=false->JP W'->R (.panicked ch) W')->AbB B J->boxK B 3 w W ->
   (∀ pre x post W1,xs=pre++x::post->ok x=true->J pre W1->YieldAt Fence.wide (n - 1) P l (encs x) W1 fun e W'=>e=.returned (.bool true)/\J (pre++[x]) W'/\boxK B 3 W1 W') ->
   (∀ pre x post W1,xs=pre++x::post->ok x=false->J pre W1->YieldAt Fence.wide (n - 1) P l (encs x) W1 fun e W'=>e=.panicked ch/\JP W') ->
   J [] W->CallsIn Fence.wide n P gf (#[.func (.yield l) #[] #[]]++lb) W R)
  (I:List α->World->Prop) (hI:∀ s W W' row,I s W->W.grownBy W' row->(∀ r,row=some r->r=B∨r=w.heap.size∨r=w.heap.size+1)->I s W') (h0:I [] w) (a1:α->Act)
  (hassign:∀ (l:Nat) (x:α) (W:World) (K:Act->World->Prop),K (a1 x) W->assign.wpIn (Fence.wide.inRound l) (n - 1) P (Exit.then K (fun _ _ _=>False)) { tmps:=(ps.zip (encs x)).foldl (fun t (p,v)=>t.setIfInBounds p v) a.tmps,defers:=[] } W)
  (hbody:∀ (l:Nat) (pre:List α) (x:α) (post:List α) (W:World),xs=pre++x::post->ok x=true->I pre W->w.heap.size+2<=W.heap.size->body.wpIn (Fence.wide.inRound l) (n - 1) P (bodyB B w.heap.size W (I (pre++[x]))) (a1 x) W)
  (IP:World->Prop)
  (hbad:∀ (l:Nat) (pre:List α) (x:α) (post:List α) (W:World),xs=pre++x::post->ok x=false->I pre W->w.heap.size+2<=W.heap.size->body.wpIn (Fence.wide.inRound l) (n - 1) P (fun e a' W'=>e=.panic ch/\a'.defers=[]/\IP W'/\boxK w.heap.size 2 W W') (a1 x) W)
  (hdone:xs.all ok=true->∀ (W:World),I xs W->W.heap[w.heap.size]?=some (.deferred (some []))->Q .normal { a with defers:={ target:=.collected w.heap.size,args:=#[] }::a.defers } W)
  (hpan:xs.all ok=false->∀ (W:World),IP W->W.heap[w.heap.size]?=some (.deferred (some []))->Q (.panic ch) { a with defers:={ target:=.collected w.heap.size,args:=#[] }::a.defers } W) :
  WpB P b (Code.rangeFunc g ps assign body) Q a w:=by
 obtain ⟨R,hR⟩:∃ R:LoopState->Go.Loop,R=fun st=>{ state:=st,pending:=none,fn:=b.fn,tmps:=a.tmps,params:=ps,assign,body,defers:=w.heap.size }:=⟨_,rfl⟩
 have hlay:(Instr.enterLoop b.fn a.tmps ps assign body none).run P w=.ok (w.heap.size+1,[{ target:=.collected w.heap.size,args:=#[] }]) ((w.alloc (.deferred (some []))).alloc (.loop (R .ready))):=by rw [hR];exact run_enterLoop_outer _ _ _ _ _
 have hl:((w.alloc (.deferred (some []))).alloc (.loop (R .ready))).heap[w.heap.size+1]?=some (.loop (R .ready)):=by have:=World.alloc_heap_new (w.alloc (.deferred (some []))) (.loop (R .ready));rwa [World.size_alloc] at this
 have hd:((w.alloc (.deferred (some []))).alloc (.loop (R .ready))).heap[w.heap.size]?=some (.deferred (some [])):=(Below.heap_alloc _ _ _ (by simp)).trans (World.alloc_heap_new w _)
 have hi:I [] ((w.alloc (.deferred (some []))).alloc (.loop (R .ready))):=hI _ _ _ none (hI _ _ _ none h0 (World.grownBy_alloc _ _ _) (fun r e=>by cases e)) (World.grownBy_alloc _ _ _) (fun r e=>by cases e)
 have hbx:boxK B 3 w ((w.alloc (.deferred (some []))).alloc (.loop (R .ready))):=fun k _ h2=>(Below.heap_alloc _ _ _ (by simp;omega)).trans (Below.heap_alloc _ _ _ (by omega))
 generalize (w.alloc (.deferred (some []))).alloc (.loop (R .ready))=W1 at hlay hl hd hi hbx
 refine WpB.rangeFunc (n:=n) hro ⟨w.heap.size+1,_,W1,{ target:=.fn (.func gf) lb,args:=#[.func (.yield (w.heap.size+1)) #[] #[]] },W1,gf,#[.func (.yield (w.heap.size+1)) #[] #[]]++lb,W1,hlay,?_,?_,?_⟩
 ·simp only [resolve,hg]
  simp [go_sem]
 ·simp [invoke,go_sem,eg]
 have put:∀ {pre:List α} {W:World} {l:Nat} {o:Obj} (o':Obj),I pre W->l=w.heap.size∨l=w.heap.size+1->I pre (W.putObj l o'):=fun o' h hl=>hI _ _ _ (some _) h (grownBy_putObj' _ _ o') (fun r e=>by cases e;omega)
 refine hseq (w.heap.size+1) (fun pre W=>I pre W/\W.heap[w.heap.size+1]?=some (.loop (R .ready))/\W.heap[w.heap.size]?=some (.deferred (some []))) (fun W=>IP W/\W.heap[w.heap.size]?=some (.deferred (some []))) _ W1 ?_ ?_
  (fun s W W' row ⟨j1,j2,j3⟩ hgr hrow=>⟨hI _ _ _ row j1 hgr (fun r e=>.inl (hrow r e)),(hgr.block _ (zW.1 j2).1 (fun e=>by have:=hrow _ e.symm;omega)).trans j2,(hgr.block _ (zW.1 j3).1 (fun e=>by have:=hrow _ e.symm;omega)).trans j3⟩) hbx ?_ ?_ ⟨hi,hl,hd⟩
 ·rintro v W2 hall ⟨j1,j2,j3⟩
  exact ⟨_,by rw [run_endLoop (P:=P) j2 (by rw [hR];simp),hR],hdone hall _ (put (o:=.loop (R .ready)) _ j1 (.inr rfl)) ((World.putObj_heap_other (by omega)).trans j3)⟩
 ·rintro W2 hall ⟨j1,j2⟩
  exact hpan hall W2 j1 j2
 ·rintro pre x post W hx hok ⟨j1,j2,j3⟩
  have hy:=run_yield (P:=P) (args:=encs x) j2 (by rw [hR];exact hps x)
  have hlt:=(zW.1 j2).1
  rw [hR] at hy
  refine ⟨b.fn,_,assign,body,hy,roundIn_of_wpIn trivial (hassign _ x W _ ⟨_,run_beginRound j2 (by rw [hR]),?_⟩)⟩
  refine wpIn_mono (hbody _ pre x post _ hx hok (put (o:=.loop (R .ready)) _ j1 (.inr rfl)) (by simp;omega)) ?_
  rintro e a3 W3 ⟨rfl,b1,b2,b3⟩
  have h3:W3.heap[w.heap.size+1]?=some (.loop { R .ready with state:=.busy }):=(b2 _ (by omega) (by omega)).trans (World.putObj_heap_same hlt)
  have h4:W3.heap[w.heap.size]?=some (.deferred (some [])):=(b2 _ (by omega) (by omega)).trans ((World.putObj_heap_other (by omega)).trans j3)
  have hlt3:=(zW.1 h3).1
  refine ⟨_,_,run_endRound none h3,rfl,⟨put (o:=.loop (R .ready)) _ b3 (.inr rfl),?_,(World.putObj_heap_other (by omega)).trans h4⟩,?_⟩
  ·rw [World.putObj_heap_same hlt3,hR];rfl
  ·exact (fun k h5 h6=>(World.putObj_heap_other (by omega)).trans ((b1 k h5 h6).trans (World.putObj_heap_other (by omega))))
 ·rintro pre x post W hx hok ⟨j1,j2,j3⟩
  have hy:=run_yield (P:=P) (args:=encs x) j2 (by rw [hR];exact hps x)
  have hlt:=(zW.1 j2).1
  rw [hR] at hy
  refine ⟨b.fn,_,assign,body,hy,rW hfn (hassign _ x W _ ⟨_,run_beginRound j2 (by rw [hR]),?_⟩)⟩
  refine wpIn_mono (hbad _ pre x post _ hx hok (put (o:=.loop (R .ready)) _ j1 (.inr rfl)) (by simp;omega)) ?_
  rintro e a3 W3 ⟨rfl,hds,b1,b2⟩
  exact ⟨hds,rfl,b1,(b2 _ (by omega) (by omega)).trans ((World.putObj_heap_other (by omega)).trans j3)⟩
theorem iC (b:UInt8):∀ s,(aB b s).length<=s.length+1
 | []=>zP _
 | x::l=>by
  have ih:=iC b l;unfold aB;split
  ·simpa using ih
  ·split
   ·simp
   ·rename_i h;rw [h] at ih;simp at ih ⊢;omega
theorem iTI:(Tryz.prog.info? 3).map (fun i=>(i.zero,i.size,i.bytes))=some (some (.int .i64 0),1,8):=by kernel_rfl
theorem xq (n:Nat) (hn:3<=n) (s:List UInt8) (b:UInt8) (w:World):CallsIn Fence.wide n Tryz.prog 76 #[.string ⟨s.toArray⟩,.string ⟨#[b]⟩] w fun e w' =>
  e=.returned (.func (.func 112) #[] #[.pointer (some ⟨w.heap.size+1,0,none⟩),.pointer (some ⟨w.heap.size,0,none⟩),.pointer (some ⟨w.heap.size+2,0,none⟩)])/\w'=((w.alloc (.cells #[.string ⟨s.toArray⟩] 9)).alloc (.cells #[.string ⟨#[b]⟩] 9)).alloc (.cells #[.int .i64 0] 3):=by
 have hsp:∀ n,CallsIn Fence.wide n Tryz.prog 100 #[.string ⟨s.toArray⟩,.string ⟨#[b]⟩,.int .i64 0] w fun e w' =>
  e=.returned (.func (.func 112) #[] #[.pointer (some ⟨w.heap.size+1,0,none⟩),.pointer (some ⟨w.heap.size,0,none⟩),.pointer (some ⟨w.heap.size+2,0,none⟩)])/\w'=((w.alloc (.cells #[.string ⟨s.toArray⟩] 9)).alloc (.cells #[.string ⟨#[b]⟩] 9)).alloc (.cells #[.int .i64 0] 3):=fun n=>by
  refine callsIn_of_wp Tryz.func100 rfl trivial ?_ rfl
  simp only [Tryz.ntmps100,AR,zR,An,Nat.reduceAdd,Nat.reduceSub,Array.replicate_succ,Array.replicate_zero,List.push_toArray,List.append_toArray,AJ,AA]
  gi_wp2
  go_ret
  exact ⟨by simp,rfl⟩
 have h1:1<=n:=by omega
 refine callsIn_of_wp Tryz.func76 rfl trivial ?_ rfl
 simp only [Tryz.ntmps76,AR,zR,An,Nat.reduceAdd,Nat.reduceSub,Array.replicate_succ,Array.replicate_zero,List.push_toArray,List.append_toArray,AJ,AA]
 gi_wp2_with (refine ⟨trivial,?_⟩;gi_at_call 100;refine (hsp _).mono ?_;rintro e w' ⟨rfl,rfl⟩)
 go_ret
 exact ⟨rfl,rfl⟩
theorem jZ {F:Fence} {n:Nat} {P:Program} {w w1:World} {o:Oper} {a:Act} {K:Act->World->Prop} {Q:Exit->Act->World->Prop} {s x:Operand} {t:TypeId} {v u v':Value}
  (hop:o.op=Op.call { callee:=Callee.builtin Builtin.append,args:=#[s,x],argTypes:=#[t,t] }) (hs:a.eval s=v) (hx:a.eval x=u) (_:o.guard=none) (hrun:(Builtin.append_ #[t,t] o.type #[v,u]).run P w=.ok v' w1) (hK:K (a.put o.dst v') w1):Oper.wpIn F n P o a w K Q:=by
 refine ⟨?_,?_⟩
 ·simp [Oper.about,hop,resolve,Target.leads,Sem.run_pure]
 ·rw [Oper.semAt_plain F _ _ (by rw [hop];intro c hc';cases hc')]
  simp [execOp,hop,resolve,invoke,builtin,hs,hx,hrun,Result.andThen]
  exact hK
theorem vr {w:World} {b b':Nat} {e:TypeId} {size n:Nat} {v:Value} {xs:List Value} (hb:b'<=b) (h:w.ownsRow b e size v n xs):w.ownsRow b' e size v n xs :=
 ⟨h.1,h.2.imp id fun ⟨g,cap,cur,e1,e2,r⟩=>⟨g,cap,cur,e1,AF hb e2,r⟩⟩
theorem jD {t:List UInt8} (hl:t.length<=281474976710656):fN t=some (match aN t with
  | some n=>.inl n
  | none=>.inr ()):=by
 unfold fN aN
 cases he:Lib.atoiAll t with
 | ok m =>
  have hE:fc t=false:=by unfold fc;rw [he];rfl
  have hA:atoiW t=some m:=by unfold atoiW atoiA;rw [if_pos (by omega),he]
  have hb : -9223372036854775808<=m/\m<=9223372036854775807:=by rw [<- Lib.parseIntB_64] at he;have:=Lib.parseIntB_bounds he;exact ⟨by have:=this.1;omega,by have:=this.2;omega⟩
  have hI:dS m=some (Lib.itoa m):=by unfold dS itoaS;exact if_pos hb
  rw [if_neg (by rw [hE];decide),hA,zI]
  by_cases h0:m<0
  ·rw [if_pos (by simpa using h0),zI,if_pos rfl]
   simp only
   rw [if_neg (fun h=>by omega)]
  ·rw [if_neg (by simpa using h0),hI,zI,zI]
   simp only
   by_cases hc:Lib.itoa m=t
   ·rw [if_neg (by simp [hc]),if_pos ⟨by omega,hc⟩];rfl
   ·rw [if_pos (by simp [hc]),if_neg (fun h=>hc h.2)]
 | range =>
  have hE:fc t=true:=by unfold fc;rw [he];rfl
  have hX:atoiX t=some (Lib.atoiSat t):=by unfold atoiX atoiE;rw [if_pos hl,he]
  rw [if_pos hE,hX];rfl
 | _ =>
  have hE:fc t=true:=by unfold fc;rw [he];rfl
  have hX:atoiX t=some 0:=by unfold atoiX atoiE;rw [if_pos hl,he]
  rw [if_pos hE,hX];rfl
def pchS:List PanicEntry:=[{ v:=.iface 88 (.agg #[]),recovered:=false }]
theorem nt {w w':World} {F F':Nat->Prop} {aw':List Ob} {σ':List Value} (h:Mv [] [] w F aw' σ' w' F'):Below w.heap.size w w' :=
 ⟨h.os,h.tape,h.output.1,h.size,fun k hk=>h.keep k hk (fun ⟨i,o,v,ho,_⟩=>by cases ho)⟩
theorem pi {w w':World} (h:Gd w fun b=>b<w.heap.size) (hB:Below w.heap.size w w'):Gd w' fun b=>b<w'.heap.size :=
 h.mono (fun b hb=>zX hb hB.size) fun b hb=>hB.block b hb
theorem nu {t:List UInt8} (hl:t.length<=281474976710656) (w:World) (hg:Gd w fun b=>b<w.heap.size) :
  Calls Tryz.prog 47 #[.string ⟨t.toArray⟩] w fun e w'=>(match aN t with
   | some n=>e=.returned (.int .i64 n)
   | none=>e=.panicked pchS)/\Below w.heap.size w w':=by
 have hs:Sim [] [] w fun b=>b<w.heap.size:=⟨rfl,(fun k o v h=>by cases h),(fun k k' o o' v v' g _ h=>by cases h),(fun _ h=>h),hg⟩
 have hr:RelL [] w (fun b=>b<w.heap.size) [.str t] [.string ⟨t.toArray⟩]:=⟨rfl,fun j x v h1 h2=>by
  match j with
  | 0=>cases h1;cases h2;exact .str _
  | j+1=>cases h1⟩
 have hc:=aA (jD hl)
 cases hv:aN t with
 | some n =>
  rw [hv] at hc
  refine (hc.2 w _ [] _ hs hr).mono ?_
  rintro e w' ⟨v,r,aw',σ',F',rfl,⟨rfl,rfl⟩,hs',hrel,hm⟩
  cases hrel
  exact ⟨rfl,nt hm⟩
 | none =>
  rw [hv] at hc
  refine (hc.2 w _ [] _ hs hr).mono ?_
  rintro e w' ⟨σ',F',rfl,hs',hm⟩
  exact ⟨rfl,nt hm⟩
def aZ (p0:List UInt8):Option (List Int):=if p0=[45] then some [] else bD (aB 44 p0)
theorem e9 (b:UInt8):∀ s:List UInt8,∀ w,w∈aB b s->w.length<=s.length
 | [],w,h=>by simp [aB] at h;simp [h]
 | x::l,w,h=>by
  have ih:=e9 b l;unfold aB at h;split at h
  ·rcases AT.1 h with rfl | h
   ·simp
   ·have:=ih w h;simp only [zR];omega
  ·split at h
   ·simp at h;subst h;simp
   ·rename_i p r e;rw [e] at ih;rcases AT.1 h with rfl | h
    ·have:=ih p Aj;simp only [zR];omega
    ·have:=ih w (Ai _ h);simp only [zR];omega
theorem om {x:List UInt8} {y:Int} (hx:aN x=some y):∀ {pre:List (List UInt8)} {vs:List Int},bD pre=some vs->bD (pre++[x])=some (vs++[y])/\vs.length=pre.length
 | [],vs,h=>by cases h;exact ⟨by simp [bD,hx],rfl⟩
 | z::pre,vs,h=>by
  simp only [bD] at h;cases hz:aN z with
  | none=>simp [hz] at h
  | some k =>
   rw [hz] at h;simp only [zI,zQ] at h;obtain ⟨r',h',rfl⟩:=h;have ih:=om hx h';exact ⟨by simp [bD,hz,ih.1],by simp [ih.2]⟩
theorem o8:∀ {xs:List (List UInt8)},xs.all (fun x=>(aN x).isSome)=false->bD xs=none
 | [],h=>by simp at h
 | x::r,h=>by
  unfold bD;cases hx:aN x with
  | none=>rfl
  | some y =>
   have:r.all (fun x=>(aN x).isSome)=false:=by simpa [hx] using h
   rw [zI,o8 this];rfl
theorem lG {t:List UInt8} {y:Int} (hy:aN t=some y) (hl:t.length<=281474976710656) (w:World) (hg:Gd w fun b=>b<w.heap.size) :
  Calls Tryz.prog 47 #[.string ⟨t.toArray⟩] w fun e w'=>e=.returned (.int .i64 y)/\Below w.heap.size w w':=by
 have:=nu hl w hg
 rw [hy] at this
 exact this
theorem lw {t:List UInt8} (hy:aN t=none) (hl:t.length<=281474976710656) (w:World) (hg:Gd w fun b=>b<w.heap.size) :
  Calls Tryz.prog 47 #[.string ⟨t.toArray⟩] w fun e w'=>e=.panicked pchS/\Below w.heap.size w w':=by
 have:=nu hl w hg
 rw [hy] at this
 exact this
theorem nG (p0:List UInt8) (hlen:p0.length<4294967281) (w:World) (hg:Gd w fun b=>b<w.heap.size) (R:Ending->World->Prop)
  (hRg:∀ (r:List Int) v W',aZ p0=some r->W'.ownsRow w.heap.size 3 1 v r.length (r.map (Value.int .i64))->Below w.heap.size w W'->R (.returned v) W') (hRb:∀ W',aZ p0=none->Below w.heap.size w W'->R (.panicked pchS) W') :
  Calls Tryz.prog 49 #[.string ⟨p0.toArray⟩] w R:=by
 refine si (n:=6) Tryz.func49 rfl (fun b hbf hro=>?_)
 simp only [Tryz.ntmps49,AR,zR,An,Nat.reduceAdd,Nat.reduceSub,Array.replicate_succ,Array.replicate_zero,List.push_toArray,List.append_toArray,AJ,AA]
 have h6:1<=6:=by omega
 have HG:Aside (Gd w fun b=>b<w.heap.size):=hg
 clear hg
 by_cases h45:p0=[45]
 ·have hn:aZ p0=some []:=by unfold aZ;exact if_pos h45
  subst h45
  refine WpB.of (n:=6) hro ?_
  gi_wp2
  exact ⟨_,results_tmp rfl _ _ _,hRg [] _ _ hn (World.ownsRow_nil _ _ _ _) (Below.refl _ _)⟩
 have hn:Aside (aZ p0=bD (aB 44 p0)):=by show _=_;unfold aZ;exact if_neg h45
 have h45':(p0==[45])=false:=by simp [h45]
 refine WpB.seq (WpB.of (n:=6) hro ?_)
 gi_wp2
 refine WpB.seq (WpB.of (n:=6) hro ?_)
 gi_wp2
 refine WpB.seq (WpB.of (n:=6) hro ?_)
 gi_wp2
 refine WpB.seq (WpB.seq (WpB.of (n:=6) hro ?_))
 gi_wp2_with (refine ⟨trivial,?_⟩;gi_at_call 76;refine (xq _ (by omega) p0 44 _).mono ?_;rintro e w' ⟨rfl,rfl⟩)
 refine WpB.block ?_
 obtain ⟨W0,hW0⟩:∃ W0,(((w.alloc (.cells #[.slice none 0 0] 37)).alloc (.cells #[.string ⟨p0.toArray⟩] 9)).alloc (.cells #[.string ⟨#[44]⟩] 9)).alloc (.cells #[.int .i64 0] 3)=W0:=⟨_,rfl⟩
 have hsz:W0.heap.size=w.heap.size+4:=by rw [<- hW0];simp
 have bO:Boxed W0 w.heap.size 37 (.slice none 0 0):=by rw [<- hW0];exact (((Boxed.new w 37 _).alloc _).alloc _).alloc _
 have b0:Boxed W0 (w.heap.size+1) 9 (.string ⟨p0.toArray⟩):=by have:=((Boxed.new (w.alloc (.cells #[.slice none 0 0] 37)) 9 (.string ⟨p0.toArray⟩)).alloc (.cells #[.string ⟨#[44]⟩] 9)).alloc (.cells #[.int .i64 0] 3);rw [World.size_alloc,hW0] at this;exact this
 have b1:Boxed W0 (w.heap.size+1+1) 9 (.string ⟨#[44]⟩):=by have:=(Boxed.new ((w.alloc (.cells #[.slice none 0 0] 37)).alloc (.cells #[.string ⟨p0.toArray⟩] 9)) 9 (.string ⟨#[44]⟩)).alloc (.cells #[.int .i64 0] 3);rw [World.size_alloc,World.size_alloc,hW0] at this;exact this
 have b2:Boxed W0 (w.heap.size+1+2) 3 (.int .i64 0):=by have:=Boxed.new (((w.alloc (.cells #[.slice none 0 0] 37)).alloc (.cells #[.string ⟨p0.toArray⟩] 9)).alloc (.cells #[.string ⟨#[44]⟩] 9)) 3 (.int .i64 0);rw [World.size_alloc,World.size_alloc,World.size_alloc,hW0] at this;exact this
 have hB0:Below w.heap.size w W0:=by rw [<- hW0];exact ((((Below.refl _ w).alloc (zP _) _).alloc (by simp) _).alloc (by simp;omega) _).alloc (by simp;omega) _
 rw [hW0]
 obtain ⟨i0,hi,hz0,hz1,hz2⟩:=info_parts iTI
 have hcl:=iC 44 p0
 have hfn:Tryz.prog.funcs[b.fn]?=some Tryz.f49:=by rw [hbf];exact Tryz.func49
 refine uj (n:=5) hro hfn (gf:=112) (lb:=#[.pointer (some ⟨w.heap.size+1+1,0,none⟩),.pointer (some ⟨w.heap.size+1,0,none⟩),.pointer (some ⟨w.heap.size+1+2,0,none⟩)]) rfl (enters_of Tryz.func112 (by kernel_rfl) rfl) (fun x:List UInt8=>#[.string ⟨x.toArray⟩]) (fun _=>rfl) (aB 44 p0) (w.heap.size+1) (by omega) (fun x=>(aN x).isSome) pchS
  (fun l J JP R' W hRg' hRb' hJ hk hY hN hj=>wJ _ (by omega) 44 p0 hlen l (w.heap.size+1) J hJ (fun x=>(aN x).isSome) pchS JP R' hRg' hRb' hY hN W ((hk _ (by omega) (by omega)).trans b0) ((hk _ (by omega) (by omega)).trans b1) ((hk _ (by omega) (by omega)).trans b2) hj)
  (fun pre W=>∃ vs v,bD pre=some vs/\vs.length=pre.length/\Boxed W w.heap.size 37 v/\W.ownsRow (W0.heap.size+2) 3 1 v vs.length (vs.map (Value.int .i64))/\Below w.heap.size w W)
  (fun pre W W' row ⟨vs,v,j1,j2,j3,j4,j5⟩ hg hr=>⟨vs,v,j1,j2,j3.kept hg (fun e=>by have:=hr _ e.symm;omega),j4.kept hg (by
   cases hvb:v.ownBlock with
   | none=>exact .inl rfl
   | some k=>exact .inr (fun e=>by have:=hr _ e.symm;have:=(j4.lt _ hvb).1;omega)),j5.grown hg j5.size (fun k e=>by have:=hr _ e;omega)⟩)
  ⟨[],_,rfl,rfl,bO,World.ownsRow_nil _ _ _ _,hB0⟩
  (fun x=>{ tmps:=#[.string ⟨p0.toArray⟩,undef,.slice none 0 0,.pointer (some ⟨w.heap.size,0,none⟩),.string ⟨x.toArray⟩,.string ⟨p0.toArray⟩,.bool false,.string ⟨p0.toArray⟩,.func (.func 112) #[] #[.pointer (some ⟨w.heap.size+1+1,0,none⟩),.pointer (some ⟨w.heap.size+1,0,none⟩),.pointer (some ⟨w.heap.size+1+2,0,none⟩)],.string ⟨x.toArray⟩,undef,undef,undef,undef,undef,undef],defers:=[] }) ?assign ?body (Below w.heap.size w) ?bad ?done ?pan
 case assign =>
  intro l x W K hK
  gi_wp2
  exact hK
 case body =>
  rintro l pre x post W hx hok ⟨vs,v,j1,j2,hv,hrow,hB⟩ hWs
  have hxl:x.length<=281474976710656:=by have:=e9 44 p0 x (by rw [hx];simp);omega
  rw [hx] at hcl
  obtain ⟨y,hy⟩:=zU.1 hok
  have hsn:=om hy j1
  have HGW:Aside (Gd W.drew fun b=>b<W.drew.heap.size):=pi HG.out hB.drew
  clear hok
  have hbig:vs.length+1<=4294967290:=by simp at hcl;omega
  have hmx:Tryz.prog.follows .mixedOrders=true:=by kernel_rfl
  have hvD:Boxed W.drew w.heap.size 37 v:=hv
  have hcD:=hvD.cell
  have key:∀ W1,Below W.drew.heap.size W.drew W1->W1.cell? ⟨w.heap.size,0,none⟩=some v/\(W1.alloc (.cells #[.int .i64 y] 3)).cell? ⟨w.heap.size,0,none⟩=some v /\
    ∃ g' cap' w1,(Builtin.append_ #[37,37] 37 #[v,.slice (some ⟨W1.heap.size,0,none⟩) 1 1]).run Tryz.prog (W1.alloc (.cells #[.int .i64 y] 3))=.ok (.slice (some ⟨g',0,none⟩) (vs.length+1) cap') w1 /\
     w1.cell? ⟨w.heap.size,0,none⟩=some v/\w1.frozen? ⟨w.heap.size,0,none⟩=false/\boxK (w.heap.size+1) 3 W (w1.setCell ⟨w.heap.size,0,none⟩ (.slice (some ⟨g',0,none⟩) (vs.length+1) cap'))/\boxK W0.heap.size 2 W (w1.setCell ⟨w.heap.size,0,none⟩ (.slice (some ⟨g',0,none⟩) (vs.length+1) cap')) /\
     ∃ vs' v',bD (pre++[x])=some vs'/\vs'.length=(pre++[x]).length/\Boxed (w1.setCell ⟨w.heap.size,0,none⟩ (.slice (some ⟨g',0,none⟩) (vs.length+1) cap')) w.heap.size 37 v' /\
      (w1.setCell ⟨w.heap.size,0,none⟩ (.slice (some ⟨g',0,none⟩) (vs.length+1) cap')).ownsRow (W0.heap.size+2) 3 1 v' vs'.length (vs'.map (Value.int .i64))/\Below w.heap.size w (w1.setCell ⟨w.heap.size,0,none⟩ (.slice (some ⟨g',0,none⟩) (vs.length+1) cap')):=fun W1 hB1=>by
   have hgr:W.grownBy W1 none:=⟨hB1.os,hB1.tape,hB1.output,hB1.size,fun k hk _=>hB1.block k hk⟩
   have hgr2:=World.grownBy_alloc W1 (.cells #[.int .i64 y] 3) none
   have hvA:Boxed W1 w.heap.size 37 v:=hv.kept hgr (by simp)
   have hrowA:W1.ownsRow (W0.heap.size+2) 3 1 v vs.length (vs.map (Value.int .i64)):=hrow.kept hgr (by cases v.ownBlock<;>simp)
   have hs1:=hgr.size
   obtain ⟨v',w1,hrun,hown',hgrow,_⟩:=run_append_own (P:=Tryz.prog) (W1.alloc (.cells #[.int .i64 y] 3)) (W0.heap.size+2) 37 37 3 i0 (.int .i64 0) 1 8 Tryz.underlying37 hi hz0 hz1 hz2 rfl (by decide) v vs.length _ (hrowA.alloc _) ⟨W1.heap.size,0,none⟩ 1 1 [.int .i64 y] rfl (cell_one_new _ _ _) (by simp [Value.oneCell']) (by unfold maxLen;omega) (by omega) (by simp;omega)
   obtain ⟨g',cap',rfl⟩:=ownsRow_succ hown'
   have hv1:Boxed w1 w.heap.size 37 v:=(hvA.alloc _).kept hgrow (hvA.not_row (by decide) hrowA)
   have hown:∀ k,v.ownBlock=some k->W0.heap.size+2<=k:=fun k hk=>(hrow.lt k hk).1
   have hkeep:∀ k,k<W0.heap.size+2->k≠w.heap.size->(w1.setCell ⟨w.heap.size,0,none⟩ (.slice (some ⟨g',0,none⟩) (vs.length+1) cap')).heap[k]?=W.heap[k]?:=fun k h1 h2 =>
    (Below.heap_setCell _ _ _ k (fun e=>h2 e)).trans ((hgrow.block k (by simp;omega) (fun e=>by have:=hown k e.symm;omega)).trans ((hgr2.block k (by omega) (by simp)).trans (hgr.block k (by omega) (by simp))))
   refine ⟨hvA.cell,(hvA.alloc _).cell,g',cap',w1,hrun,hv1.cell,hv1.frozen,fun k h1 h2=>hkeep k (by omega) (by omega),fun k h1 h2=>hkeep k (by omega) (by omega),vs++[y],_,hsn.1,by simp [hsn.2],hv1.set _,?_,?_⟩
   ·have:=hown'.kept (grownBy_setCell' w1 w.heap.size (.slice (some ⟨g',0,none⟩) (vs.length+1) cap')) (.inr (hv1.not_row (by decide) hown').symm)
    simpa using this
   ·exact ((((hB.grown hgr hB.size (fun k e=>by cases e)).grown hgr2 (by have:=hB.size;omega) (fun k e=>by cases e)).grown hgrow (by have:=hB.size;simp;omega) (fun k e=>by have:=hown k e;omega)).setCell (p:=⟨w.heap.size,0,none⟩) (zP _) _)
  clear hsn j2
  gi_wp2
  refine wpIn_region_any (by assumption) ?_
  change wpAnyIn _ _ _ _ _ _ _ _ _ (World.drew _)
  refine wpAnyIn_ready (rs:=[0,1]) (by kernel_rfl) (by simp) ?_
  refine AllReadyIn.cons rfl (fun K hK=>?_) ?_
  ·go_simp
   refine hK _ _ ?_;clear hK K
   refine wpAnyIn_ready (rs:=[1]) (by kernel_rfl) (by simp) ?_
   refine AllReadyIn.cons rfl (fun K hK=>?_) AllReadyIn.nil
   go_simp
   refine hK _ _ ?_;clear hK K
   refine wpAnyIn_ready (rs:=[2]) (by kernel_rfl) (by simp) ?_
   refine AllReadyIn.cons rfl (fun K hK=>?_) AllReadyIn.nil
   go_simp
   gi_wp2_with (refine ⟨trivial,?_⟩;gi_at_call 47;refine (CallsIn.inRound l (callsIn_wide.2 (lG hy hxl _ HGW.out))).mono ?_;rintro e w' ⟨rfl,hB1⟩;obtain ⟨hcA,hcB,g',cap',w1,hrun,hc1,hf1,q3,q4,q5⟩:=key w' hB1;clear hB1)
   refine wpAnyIn_ready (rs:=[3]) (by kernel_rfl) (by simp) ?_
   refine AllReadyIn.cons rfl (fun K hK=>?_) AllReadyIn.nil
   go_simp
   refine hK _ _ ?_;clear hK K
   refine wpAnyIn_ready (rs:=[4]) (by kernel_rfl) (by simp) ?_
   refine AllReadyIn.cons rfl (fun K hK=>?_) AllReadyIn.nil
   refine Eq.mpr (if_pos rfl) ?_
   refine jZ rfl rfl rfl rfl hrun ?_
   refine hK _ _ ?_;clear hK K
   refine wpAnyIn_ready (rs:=[5]) (by kernel_rfl) (by simp) ?_
   refine AllReadyIn.cons rfl (fun K hK=>?_) AllReadyIn.nil
   go_simp
   refine hK _ _ ?_;clear hK K
   refine wpAnyIn_done (by kernel_rfl) ?_ _
   exact ⟨rfl,q3,q4,q5⟩
  refine AllReadyIn.cons rfl (fun K hK=>?_) AllReadyIn.nil
  go_simp
  refine hK _ _ ?_;clear hK K
  refine wpAnyIn_ready (rs:=[0,2]) (by kernel_rfl) (by simp) ?_
  refine AllReadyIn.cons rfl (fun K hK=>?_) ?_
  ·go_simp
   refine hK _ _ ?_;clear hK K
   refine wpAnyIn_ready (rs:=[2]) (by kernel_rfl) (by simp) ?_
   refine AllReadyIn.cons rfl (fun K hK=>?_) AllReadyIn.nil
   go_simp
   gi_wp2_with (refine ⟨trivial,?_⟩;gi_at_call 47;refine (CallsIn.inRound l (callsIn_wide.2 (lG hy hxl _ HGW.out))).mono ?_;rintro e w' ⟨rfl,hB1⟩;obtain ⟨hcA,hcB,g',cap',w1,hrun,hc1,hf1,q3,q4,q5⟩:=key w' hB1;clear hB1)
   refine wpAnyIn_ready (rs:=[3]) (by kernel_rfl) (by simp) ?_
   refine AllReadyIn.cons rfl (fun K hK=>?_) AllReadyIn.nil
   go_simp
   refine hK _ _ ?_;clear hK K
   refine wpAnyIn_ready (rs:=[4]) (by kernel_rfl) (by simp) ?_
   refine AllReadyIn.cons rfl (fun K hK=>?_) AllReadyIn.nil
   refine Eq.mpr (if_pos rfl) ?_
   refine jZ rfl rfl rfl rfl hrun ?_
   refine hK _ _ ?_;clear hK K
   refine wpAnyIn_ready (rs:=[5]) (by kernel_rfl) (by simp) ?_
   refine AllReadyIn.cons rfl (fun K hK=>?_) AllReadyIn.nil
   go_simp
   refine hK _ _ ?_;clear hK K
   refine wpAnyIn_done (by kernel_rfl) ?_ _
   exact ⟨rfl,q3,q4,q5⟩
  refine AllReadyIn.cons rfl (fun K hK=>?_) AllReadyIn.nil
  go_simp
  gi_wp2_with (refine ⟨trivial,?_⟩;gi_at_call 47;refine (CallsIn.inRound l (callsIn_wide.2 (lG hy hxl _ HGW.out))).mono ?_;rintro e w' ⟨rfl,hB1⟩;obtain ⟨hcA,hcB,g',cap',w1,hrun,hc1,hf1,q3,q4,q5⟩:=key w' hB1;clear hB1)
  refine wpAnyIn_ready (rs:=[0,3]) (by kernel_rfl) (by simp) ?_
  refine AllReadyIn.cons rfl (fun K hK=>?_) ?_
  ·go_simp
   refine hK _ _ ?_;clear hK K
   refine wpAnyIn_ready (rs:=[3]) (by kernel_rfl) (by simp) ?_
   refine AllReadyIn.cons rfl (fun K hK=>?_) AllReadyIn.nil
   go_simp
   refine hK _ _ ?_;clear hK K
   refine wpAnyIn_ready (rs:=[4]) (by kernel_rfl) (by simp) ?_
   refine AllReadyIn.cons rfl (fun K hK=>?_) AllReadyIn.nil
   refine Eq.mpr (if_pos rfl) ?_
   refine jZ rfl rfl rfl rfl hrun ?_
   refine hK _ _ ?_;clear hK K
   refine wpAnyIn_ready (rs:=[5]) (by kernel_rfl) (by simp) ?_
   refine AllReadyIn.cons rfl (fun K hK=>?_) AllReadyIn.nil
   go_simp
   refine hK _ _ ?_;clear hK K
   refine wpAnyIn_done (by kernel_rfl) ?_ _
   exact ⟨rfl,q3,q4,q5⟩
  refine AllReadyIn.cons rfl (fun K hK=>?_) AllReadyIn.nil
  go_simp
  refine hK _ _ ?_;clear hK K
  refine wpAnyIn_ready (rs:=[0]) (by kernel_rfl) (by simp) ?_
  refine AllReadyIn.cons rfl (fun K hK=>?_) AllReadyIn.nil
  go_simp
  refine hK _ _ ?_;clear hK K
  refine wpAnyIn_ready (rs:=[4]) (by kernel_rfl) (by simp) ?_
  refine AllReadyIn.cons rfl (fun K hK=>?_) AllReadyIn.nil
  refine Eq.mpr (if_pos rfl) ?_
  refine jZ rfl rfl rfl rfl hrun ?_
  refine hK _ _ ?_;clear hK K
  refine wpAnyIn_ready (rs:=[5]) (by kernel_rfl) (by simp) ?_
  refine AllReadyIn.cons rfl (fun K hK=>?_) AllReadyIn.nil
  go_simp
  refine hK _ _ ?_;clear hK K
  refine wpAnyIn_done (by kernel_rfl) ?_ _
  exact ⟨rfl,q3,q4,q5⟩
 case bad =>
  rintro l pre x post W hx hok ⟨vs,v,j1,j2,hv,hrow,hB⟩ hWs
  have hxl:x.length<=281474976710656:=by have:=e9 44 p0 x (by rw [hx];simp);omega
  have hy:aN x=none:=by simpa using hok
  have HGW:Aside (Gd W.drew fun b=>b<W.drew.heap.size):=pi HG.out hB.drew
  have hmx:Tryz.prog.follows .mixedOrders=true:=by kernel_rfl
  have hvD:Boxed W.drew w.heap.size 37 v:=hv
  have hcD:=hvD.cell
  have fin:∀ W1,Below W.drew.heap.size W.drew W1->Below w.heap.size w W1/\boxK W0.heap.size 2 W W1:=fun W1 hB1=>⟨hB.drew.trans (hB1.mono hB.size),fun k h1 h2=>hB1.block k (zX h2 hWs)⟩
  clear hok j2
  gi_wp2
  refine wpIn_region_any (by assumption) ?_
  change wpAnyIn _ _ _ _ _ _ _ _ _ (World.drew _)
  refine wpAnyIn_ready (rs:=[0,1]) (by kernel_rfl) (by simp) ?_
  refine AllReadyIn.cons rfl (fun K hK=>?_) ?_
  ·go_simp
   refine hK _ _ ?_;clear hK K
   refine wpAnyIn_ready (rs:=[1]) (by kernel_rfl) (by simp) ?_
   refine AllReadyIn.cons rfl (fun K hK=>?_) AllReadyIn.nil
   go_simp
   refine hK _ _ ?_;clear hK K
   refine wpAnyIn_ready (rs:=[2]) (by kernel_rfl) (by simp) ?_
   refine AllReadyIn.cons rfl (fun K hK=>?_) AllReadyIn.nil
   go_simp
   gi_wp2_with (refine ⟨trivial,?_⟩;gi_at_call 47;refine (CallsIn.inRound l (callsIn_wide.2 (lw hy hxl _ HGW.out))).mono ?_;rintro e w' ⟨rfl,hB1⟩)
   exact ⟨(fin _ hB1).1,by have:=(fin _ hB1).2;rw [hsz] at this;exact this⟩
  refine AllReadyIn.cons rfl (fun K hK=>?_) AllReadyIn.nil
  go_simp
  refine hK _ _ ?_;clear hK K
  refine wpAnyIn_ready (rs:=[0,2]) (by kernel_rfl) (by simp) ?_
  refine AllReadyIn.cons rfl (fun K hK=>?_) ?_
  ·go_simp
   refine hK _ _ ?_;clear hK K
   refine wpAnyIn_ready (rs:=[2]) (by kernel_rfl) (by simp) ?_
   refine AllReadyIn.cons rfl (fun K hK=>?_) AllReadyIn.nil
   go_simp
   gi_wp2_with (refine ⟨trivial,?_⟩;gi_at_call 47;refine (CallsIn.inRound l (callsIn_wide.2 (lw hy hxl _ HGW.out))).mono ?_;rintro e w' ⟨rfl,hB1⟩)
   exact ⟨(fin _ hB1).1,by have:=(fin _ hB1).2;rw [hsz] at this;exact this⟩
  refine AllReadyIn.cons rfl (fun K hK=>?_) AllReadyIn.nil
  go_simp
  gi_wp2_with (refine ⟨trivial,?_⟩;gi_at_call 47;refine (CallsIn.inRound l (callsIn_wide.2 (lw hy hxl _ HGW.out))).mono ?_;rintro e w' ⟨rfl,hB1⟩)
  exact ⟨(fin _ hB1).1,by have:=(fin _ hB1).2;rw [hsz] at this;exact this⟩
 case done =>
  rintro hall W ⟨vs,v,j1,j2,hv,hrow,hB⟩ hK
  have hc:=hv.cell
  rw [hsz] at hK
  refine WpB.of (n:=6) hro ?_
  gi_wp2
  refine ⟨by simp,.inl ⟨_,_,rfl,run_takeDeferred hK,?_⟩⟩
  refine ⟨_,results_tmp rfl _ _ _,?_⟩
  show R (.returned v) _
  exact hRg vs v _ (hn.out.trans j1) (vr (by omega) (ownsRow_putObj hrow _ hK rfl)) (hB.trans (belowK_b (w:=w) (zP _) W _ _ _ (by omega) hK rfl rfl))
 case pan =>
  intro hall W hB hK
  refine ⟨by simp,.inl ⟨_,_,rfl,run_takeDeferred hK,?_⟩⟩
  exact hRb _ (hn.out.trans (o8 hall)) (hB.trans (belowK_b (w:=w) (zP _) W _ _ _ (by omega) hK rfl rfl))
theorem tz (p0:List UInt8) (r:List Int ⊕ Unit) (h:ki p0=some r):FnP Tryz.prog (.iface 88 (.agg #[])) 49 [.str p0] [] (fun r:List Int=>.sl (r.map aj)) (fun r=>[]) r:=by
 unfold ki at h;split at h;case isFalse=>cases h
 rename_i hlen;have hn:r=match aZ p0 with
   | some l=>.inl l
   | none=>.inr ():=by
  unfold aZ
  split at h
  ·rename_i h45
   rw [if_pos h45];exact (zL h).symm
  ·rename_i h45
   rw [if_neg h45];exact (zL h).symm
 have hgd:∀ {aw:List Ob} {σ:List Value} {w:World} {F:Nat->Prop},Sim aw σ w F->Gd w fun b=>b<w.heap.size:=fun hs=>hs.gd.mono (fun b hb=>hs.lt b hb) fun _ _=>rfl
 cases hv:aZ p0 with
 | none =>
  rw [hv] at hn;subst hn;refine ⟨callable Tryz.func49 rfl (by kernel_rfl),fun w F σ vs hs hr=>?_⟩;match vs,hr with
  | [v0],hr =>
   have r0:Rel σ w F (.str p0) v0:=hr.2 0 _ v0 rfl rfl
   cases r0
   refine nG p0 hlen w (hgd hs) _ (fun r v W' h1=>by rw [hv] at h1;cases h1) fun W' _ hB=>?_
   exact ⟨σ,F,rfl,fO hs hB,.grow (fun _ h=>h) (fun _ h=>.inl h) hB.os hB.tape (drO hB.output) hB.size hB.block⟩
 | some r =>
  rw [hv] at hn;subst hn;refine ⟨callable Tryz.func49 rfl (by kernel_rfl),fun w F σ vs hs hr=>?_⟩;match vs,hr with
  | [v0],hr =>
   have r0:Rel σ w F (.str p0) v0:=hr.2 0 _ v0 rfl rfl
   cases r0
   refine nG p0 hlen w (hgd hs) _ (fun r' v w' h1 hrow hB=>?_) (fun W' h1=>by rw [hv] at h1;cases h1)
   have hrr:r=r':=by rw [hv] at h1;exact zL h1
   subst hrr
   rcases hrow.2 with ⟨rfl,hn⟩ | ⟨g,cap,cur,rfl,hbg,hg,hnc,hcm,hcs,htake⟩
   ·obtain rfl:r=[]:=zN hn
    exact ⟨_,_,[],σ,F,rfl,⟨rfl,rfl⟩,hs.grow (fun _ h=>h) (fun _ h=>.inl h) (fun b hb=>zX (hs.lt b hb) hB.size) hB.block,.slNil,.grow (fun _ h=>h) (fun _ h=>.inl h) hB.os hB.tape (drO hB.output) hB.size hB.block⟩
   ·have hgs:=(zW.1 hg).1
    have hc:=hrow.cells (g:=g) rfl
    refine ⟨_,_,[],σ,plus F g,rfl,⟨rfl,rfl⟩,hs.grow (fun _ h=>.inl h) (fun b hb=>hb.imp id (fun e=>by omega)) (fun b hb=>hb.elim (fun hb=>zX (hs.lt b hb) hB.size) (fun e=>by omega)) hB.block,?_,
     .grow (fun _ h=>.inl h) (fun b hb=>hb.imp id (fun e=>by omega)) hB.os hB.tape (drO hB.output) hB.size hB.block⟩
    have hl:(r.map aj).length=r.length:=by simp
    have:=Rel.sl (σ:=σ) (w:=w') (F:=plus F g) (r.map aj) 1 ⟨g,0,none⟩ cap (fun i _=>.int .i64 (r.getD i 0)) (fun _=>.inr rfl) (by rw [hl];exact hnc) hcm (fun row hm=>by obtain ⟨x,_,rfl⟩:=Am.1 hm;rfl) (fun _ _ _ _=>rfl)
     (fun i j hi hj=>by
      rw [hl] at hi;obtain rfl:j=0:=by omega
      refine hc _ _ ?_;rw [show i*1+0=i by omega,zT,zJ hi,z8,zJ hi];rfl)
     (fun i row j x h1 h2=>by
      rw [zT] at h1;cases hx:r[i]? with
      | none=>rw [hx] at h1;cases h1
      | some y =>
       rw [hx] at h1;cases h1;match j,h2 with
       | 0,h2=>cases h2;simp only [z8,hx];exact .int _ _)
    rw [hl] at this
    exact this
end
section
open Go.RowKit
set_option maxRecDepth 100000
set_option maxHeartbeats 4000000
theorem tu (p:Value) (w:World) :
  CallsD Tryz.prog 46 #[p] .returning w fun e u' w'=>(∃ v,e=.returned v)/\u'=.returning/\w'=w:=by
 refine callsD_of_wpS Tryz.func46 rfl fun c₀ cs hu=>?_
 apply wpS_seq
 apply wpS_region
 simp [wpOpsS,go_sem,recoverD,hu,Tryz.ntmps46,Exit.thenS]
 apply wpS_seq
 apply wpS_region
 simp [wpOpsS,go_sem,Exit.thenS]
 refine wpS_cond (t:=false) (by simp [Act.eval,Array.replicate]) ?_
 simp only [zO,if_false]
 refine wpS_of_wp (wp_skip ?_)
 cases c₀
 simp_all [bodyPostS,results,Tryz.results46]
theorem idleF:IdleF Tryz.prog 46 1:=fun cvs h=>by
 match cvs,h with
 | [p],_ =>
  exact ⟨.func 46,#[p],46,#[p],rfl,fun w=>callable Tryz.func46 rfl (by kernel_rfl) _ w,fun w=>tu p w⟩
end
section
open Go.RowKit
section
variable {P:Program} {V:Value} {N n:Nat} {fr fr0:List AV} {aw aw':List Ob} {l l0:List (Nat × AV)}
variable {ops:Array Oper} {o:Oper} {d:Option Tmp} {ty:TypeId} {ps:String} {af:Array Edge} {gd:Option (Nat × Bool)}
def panF (V:Value) (st:St) (fr0:List AV) (Kp:List Ob->Prop) (e:Exit) (a:Act) (w:World):Prop:=e=.panic [{ v:=V,recovered:=false }]/\∃ aw σ F,Cur st fr0 aw σ w F a/\Kp aw
def offB (l0:List (Nat × AV)):Option Tmp->Bool
 | none=>true
 | some t=>l0.all fun p=>!(Nat.beq p.1 t)
theorem uU {l0:List (Nat × AV)} {t:Nat} (h:offB l0 (some t)=true):lkA l0 t=.any:=by
 induction l0 with
 | nil=>rfl
 | cons p r ih =>
  obtain ⟨s,v⟩:=p;unfold offB at h ih;simp only [A5,Az,Bool.not_eq_true'] at h;rw [dJ,if_neg (fun e=>by subst e;have:=h.1;simp at this),ih h.2]
theorem tf {st:St} {σ:List Value} {w:World} {F:Nat->Prop} {a:Act} {d:Option Tmp} {v:Value} (hd:offB l0 d=true) (h:Cur st (mkA n l0) aw σ w F (a.put d v)):Cur st (mkA n l0) aw σ w F a:=by
 cases d with
 | none=>exact h
 | some t =>
  refine ⟨h.sim,⟨⟨?_,fun j x u hx hu=>?_⟩,tqz⟩,h.mv,h.ds⟩
  ·have:=h.fr.1.1;simpa [Act.put] using this
  ·by_cases hj:j=t
   ·subst hj;have:x=.any:=by
     unfold mkA at hx;rw [zT] at hx;cases hr:(List.range n)[j]? with
     | none=>rw [hr] at hx;cases hx
     | some k =>
      have hk:=List.getElem?_range (n:=n) (i:=j);rw [hr] at hx;have hkj:k=j:=by obtain ⟨_,e⟩:=zK.1 hr;simpa using e.symm
      rw [hkj] at hx;simp only [AZ,AQ] at hx;rw [<- hx];exact uU hd
    subst this;exact .any u
   ·refine h.fr.1.2 j x u hx ?_;show (a.tmps.setIfInBounds t v).toList[j]?=some u;rw [AY,Array.getElem?_setIfInBounds_ne (fun e=>hj e.symm),<- AY];exact hu
theorem o7 {st:St} {Kp:List Ob->Prop} {d:Option Tmp} {v:Value} {c:List PanicEntry} {a:Act} {w:World} (hd:offB l0 d=true) (h:panF V st (mkA n l0) Kp (.panic c) (a.put d v) w):panF V st (mkA n l0) Kp (.panic c) a w:=by obtain ⟨h1,aw,σ,F,h2,h3⟩:=h;exact ⟨h1,aw,σ,F,tf hd h2,h3⟩
structure RAF (P:Program) (V:Value) (N:Nat) (ops:Array Oper) (k:Nat) (li:Array Bool) (n:Nat) (l0:List (Nat × AV)) (Kp:List Ob->Prop) (fr:List AV) (aw:List Ob):Prop where
 out:∀ st:St,st.aw.length=N->st.σ.length=st.aw.length->∀ σ w F a,Cur st fr aw σ w F a->wpAny P .any ops (panF V st (mkA n l0) Kp) k li a w
variable {k:Nat} {li:Array Bool} {Kp:List Ob→Prop}
theorem T.drawnF {id:Nat} {Q:Exit->List AV->List Ob->Prop} (l0:List (Nat × AV)) (Kp:List Ob->Prop) (hm:P.follows .mixedOrders=true) (hk:ops.size=k) (h:RAF P V N ops k (Array.replicate k false) n l0 Kp (mkA n l) aw) (hq:∀ aw,Kp aw->Q (.panic [{ v:=V,recovered:=false }]) (mkA n l0) aw):T P N (.region id ops true) Q (mkA n l) aw :=
 ⟨fun st h1 h2 σ w F a hc=>by subst hk;have hc':Cur st (mkA n l) aw σ w.drew F a:=hc.step hc.sim.drew .drew;refine wp_mono (wp_region_any hm (h.out st h1 h2 σ w.drew F a hc')) (fun e a w hq'=>?_);obtain ⟨rfl,aw',σ',F',h3,h4⟩:=hq';exact ⟨mkA n l0,aw',σ',F',hq _ h4,h3⟩⟩
theorem zp0 (i:Nat) (hi:ops[i]?=some o) (h:vcQ P (mkA n l) aw o.op fun r=>stD l o.dst r fun l=>RAF P V N ops k (li.setIfInBounds i true) n l0 Kp (mkA n l) aw) (ho:offB l0 o.dst=true:=by rfl) (hs:Region.noSelect ops=true:=by decide +kernel) (hf:Region.free .any ops li i=true:=by decide +kernel)
  (hr:(Region.ready .any ops li).contains i=true:=by decide +kernel) (hg:o.guard=none:=by rfl) (hn:ed o.op=true:=by rfl):RAF P V N ops (k+1) li n l0 Kp (mkA n l) aw :=
 ⟨fun st e1 e2 σ w F a hc=>by obtain ⟨v,r,hrun,hrel,hk⟩:=gN hc hn h;refine wpAny_take hi hs hf hr (fun c a w hp=>o7 ho hp) (.inl ⟨by grind [Region.wanted],hrun⟩) (RAF.out (bX (K:=fun l=>RAF P V N ops k (li.setIfInBounds i true) n l0 Kp (mkA n l) aw) hk) st e1 e2 σ w F _ ?_);have:=bv hc hrel o.dst;grind [bG]⟩
open RK in
theorem zpl (D:List Nat) (i:Nat) (hi:ops[i]?=some o) (h:vcQ P (mkA n l) aw o.op fun r=>stD l o.dst r fun l=>RAF P V N ops k (li.setIfInBounds i true) n l0 Kp (mkA n l) aw) (ho:offB l0 o.dst=true:=by rfl) (hs:Region.noSelect ops=true:=by decide +kernel) (hf:loadFree ops li D i=true:=by decide +kernel)
  (hr:(Region.ready .any ops li).contains i=true:=by decide +kernel) (hg:o.guard=none:=by rfl):RAF P V N ops (k+1) li n l0 Kp (mkA n l) aw :=
 ⟨fun st e1 e2 σ w F a hc=>by obtain ⟨v,r,hrun,hrel,hk⟩:=ol hc h;refine na D hi hs hf hr (fun c a w hp=>o7 ho hp) (.inl ⟨by grind [Region.wanted],hrun⟩) (RAF.out (bX (K:=fun l=>RAF P V N ops k (li.setIfInBounds i true) n l0 Kp (mkA n l) aw) hk) st e1 e2 σ w F _ ?_);have:=bv hc hrel o.dst;grind [bG]⟩
structure ROF (P:Program) (V:Value) (N:Nat) (ops:Array Oper) (i:Nat) (K:List AV->List Ob->Prop) (n:Nat) (l0:List (Nat × AV)) (Kp:List Ob->Prop) (fr:List AV) (aw:List Ob):Prop where
 out:∀ st:St,st.aw.length=N->st.σ.length=st.aw.length->∀ σ w F a,Cur st fr aw σ w F a->∀ (Kc:Act->World->Prop),
  (∀ fr aw σ w F a,Cur st fr aw σ w F a->K fr aw->Kc a w)->wpOp P ops (panF V st (mkA n l0) Kp) i Kc a w
theorem RAF.all {rs:List Nat} (hr:Region.ready .any ops li=rs) (hne:rs≠[]) (h:∀ i,i∈rs->ROF P V N ops i (RAF P V N ops k (li.setIfInBounds i true) n l0 Kp) n l0 Kp fr aw):RAF P V N ops (k+1) li n l0 Kp fr aw :=
 ⟨fun st h1 h2 σ w F a hc=>wpAny_all hr hne fun i hi=>(h i hi).out st h1 h2 σ w F a hc _ fun fr aw σ w F a hc hK=>RAF.out hK st h1 h2 σ w F a hc⟩
theorem zA1 (i:Nat) (h:ROF P V N ops i (RAF P V N ops k (li.setIfInBounds i true) n l0 Kp) n l0 Kp fr aw) (hr:Region.ready .any ops li=[i]:=by decide +kernel):RAF P V N ops (k+1) li n l0 Kp fr aw :=
 RAF.all hr (by simp) fun x hx=>by grind
theorem zA2 (i j:Nat) (h:ROF P V N ops i (RAF P V N ops k (li.setIfInBounds i true) n l0 Kp) n l0 Kp fr aw) (h':ROF P V N ops j (RAF P V N ops k (li.setIfInBounds j true) n l0 Kp) n l0 Kp fr aw) (hr:Region.ready .any ops li=[i,j]:=by decide +kernel):RAF P V N ops (k+1) li n l0 Kp fr aw :=
 RAF.all hr (by simp) fun x hx=>by grind
theorem zA3 (i j m:Nat) (h:ROF P V N ops i (RAF P V N ops k (li.setIfInBounds i true) n l0 Kp) n l0 Kp fr aw) (h':ROF P V N ops j (RAF P V N ops k (li.setIfInBounds j true) n l0 Kp) n l0 Kp fr aw) (h'':ROF P V N ops m (RAF P V N ops k (li.setIfInBounds m true) n l0 Kp) n l0 Kp fr aw) (hr:Region.ready .any ops li=[i,j,m]:=by decide +kernel):RAF P V N ops (k+1) li n l0 Kp fr aw :=
 RAF.all hr (by simp) fun x hx=>by grind
theorem zA4 (i j m q:Nat) (h:ROF P V N ops i (RAF P V N ops k (li.setIfInBounds i true) n l0 Kp) n l0 Kp fr aw) (h':ROF P V N ops j (RAF P V N ops k (li.setIfInBounds j true) n l0 Kp) n l0 Kp fr aw) (h'':ROF P V N ops m (RAF P V N ops k (li.setIfInBounds m true) n l0 Kp) n l0 Kp fr aw) (h3:ROF P V N ops q (RAF P V N ops k (li.setIfInBounds q true) n l0 Kp) n l0 Kp fr aw) (hr:Region.ready .any ops li=[i,j,m,q]:=by decide +kernel):RAF P V N ops (k+1) li n l0 Kp fr aw :=
 RAF.all hr (by simp) fun x hx=>by grind
theorem zpO {i:Nat} {K:List AV->List Ob->Prop} (hi:ops[i]?=some o) (h:OP P N o (mkA n l) aw fun r aw'=>stD l o.dst r fun l=>K (mkA n l) aw') (hg:o.guard=none:=by rfl):ROF P V N ops i K n l0 Kp (mkA n l) aw :=
 ⟨fun st e1 e2 σ w F a hc Kc hK=>by unfold wpOp;simp only [hi];rw [if_pos (by grind [Region.wanted])];refine .inl (h.out st e1 e2 σ w F a hc _ _ fun r aw' σ' w' F' v hk hcur hrel=>hK _ _ σ' w' F' _ ?_ (bX (K:=fun l=>K (mkA n l) aw') hk));have:=bv hcur hrel o.dst;grind [bG]⟩
theorem vj {st:St} {σ:List Value} {w:World} {F:Nat->Prop} {a:Act} (h:Cur st (mkA n l) aw σ w F a) (hs:l0.map (fun p=>lkA l p.1)=l0.map (fun p=>lkA l0 p.1)):Cur st (mkA n l0) aw σ w F a:=by
 refine ⟨h.sim,⟨⟨by have:=h.fr.1.1;simpa [mkA] using this,fun j x u hx hu=>?_⟩,tqz⟩,h.mv,h.ds⟩;unfold mkA at hx;rw [zT] at hx;cases hr:(List.range n)[j]? with
 | none=>rw [hr] at hx;cases hx
 | some k =>
  have hkj:k=j:=by obtain ⟨_,e⟩:=zK.1 hr;simpa using e.symm
  subst hkj;rw [hr] at hx;simp only [AZ,AQ] at hx;subst hx;by_cases hm:lkA l0 k=.any
  ·rw [hm];exact .any u
  ·have hmem:∃ p,p∈l0/\p.1=k:=by
    clear hs hr;induction l0 with
    | nil=>exact absurd rfl hm
    | cons p r ih =>
     obtain ⟨s,v⟩:=p;by_cases e:s=k
     ·exact ⟨_,Aj,e⟩
     ·rw [dJ,if_neg e] at hm;obtain ⟨p,h1,h2⟩:=ih hm;exact ⟨p,Ai _ h1,h2⟩
   obtain ⟨p,h1,h2⟩:=hmem;have he:lkA l p.1=lkA l0 p.1:=by have:=List.map_inj_left.1 hs p h1;exact this
   rw [h2] at he;rw [<- he];refine h.fr.1.2 k _ u ?_ hu;unfold mkA;rw [zT,hr];rfl
theorem zpP {i:Nat} {K:List AV->List Ob->Prop} (hi:ops[i]?=some o) (h:PP P V N o (mkA n l) aw fun _ aw=>Kp aw) (hs:l0.map (fun p=>lkA l p.1)=l0.map (fun p=>lkA l0 p.1):=by rfl) (hg:o.guard=none:=by rfl):ROF P V N ops i K n l0 Kp (mkA n l) aw :=
 ⟨fun st e1 e2 σ w F a hc Kc hK=>by unfold wpOp;simp only [hi];rw [if_pos (by grind [Region.wanted])];exact .inl (h.out st e1 e2 σ w F a hc _ _ fun aw' σ' w' F' hk hcur=>⟨rfl,aw',σ',F',vj hcur hs,hk⟩)⟩
end
end
section
open Go.RowKit
set_option maxRecDepth 100000
set_option maxHeartbeats 4000000
theorem vN {n M:Nat} {l:List (Nat × AV)} {aw obs:List Ob} {rs:List ResultVar} {V:AV} (ρ:List Nat) [g:GoodA 3 V] [g':GoodOs obs] (h:resC tyT n l aw rs fun vs=>nrmRC aw (bl vs) fun a aw=>mpA ρ 3 V a fun b=>mpOs ρ aw ρ obs fun bs es=>(b,bs)=(a,es):=by rfl) (h1:ρ.Nodup:=by decide) (h2:∀ k,k<M->ρ[k]?=some k:=by decide):aT Tryz.prog (mkA n l) aw rs (Ret M (fun r aw'=>r=V/\aw'=obs) aw):=rN_c b8 ρ h h1 h2
theorem fnTDR {P:Program} {V:Value} {aw:List Ob} {f:FuncId} {fn:Func} {c:Code} {args:List AV} {Q:AV->List Ob->Prop} {m:Nat} (N:Nat) (hf:P.funcs[f]?=some fn) (hm:fn.ntmps=m) (h:iniC 0 args fun l=>TDR P N c fn N Q V (mkA m l) aw)
  (hb:fn.body=some c:=by rfl) (hN:aw.length=N:=by rfl) (hname:(fn.name == "runtime.NumGoroutine")=false:=by kernel_rfl) (hl:Nat.ble args.length m=true:=by rfl):ACalls P f args aw Q :=
 t7 hN hf hb hname hm hl (kn (K:=fun l=>TDR P N c fn N Q V (mkA m l) aw) h)
theorem catX:CatX Tryz.prog (.iface 88 (.agg #[])) 46 [.ptr 0 0] [.box [.any]] [.box [.bool false]]:=by
 intro w F σ vs hs hr;match vs,hr with
 | [p],hr =>
  refine callsD_of_wpS Tryz.func46 rfl fun c₀ cs hu=>?_
  apply wpS_seq
  apply wpS_region
  simp [wpOpsS,go_sem,recoverD,hu,Tryz.ntmps46,Exit.thenS]
  have hp:Rel σ w F (.ptr 0 0) p:=hr.2 0 _ p rfl rfl
  have hv:Rel σ w F (.ifc 88 (.agg [])) (.iface 88 (.agg #[])):=.ifc _ _ _ (.agg [] [] rfl (fun _ h=>(List.not_mem_nil h).elim) (fun j c u h=>by simp at h))
  have hc:Cur ⟨[.box [.any]],σ,w,F,[]⟩ [.ptr 0 0,.ifc 88 (.agg []),.any,.any,.any,.any,.any,.any,.any,.any,.any,.any,.any,.any,.any] [.box [.any]] σ w F { tmps:=#[p,(.iface 88 (.agg #[])),undef,undef,(.iface 88 (.agg #[])),undef,undef,undef,undef,undef,undef,undef,undef,undef,undef],defers:=[] } :=
   ⟨hs,⟨.cons hp (.cons hv (.cons (.any _) (.cons (.any _) (.cons (.any _) (.cons (.any _) (.cons (.any _) (.cons (.any _) (.cons (.any _) (.cons (.any _) (.cons (.any _) (.cons (.any _) (.cons (.any _) (.cons (.any _) (.cons (.any _) (.nil))))))))))))))),tqz⟩,.refl ..,rfl⟩
  refine wpS_of_wp (wp_mono (T.out (P:=Tryz.prog) (N:=1) (Q:=fun e fr aw=>e=.normal/\aw=[.box [.bool false],.box []]) (fr:=mkA 15 [(0,.ptr 0 0),(1,.ifc 88 (.agg []))]) (aw:=[.box [.any]]) ?_ ⟨[.box [.any]],σ,w,F,[]⟩ rfl hs.len σ w F _ hc) ?_)
  ·refine T.seq (T.region (go 1 1 (sO (nY Tryz.underlying20 rfl rfl (RS.nil (T.ct rfl (T.seq (T.seq (T.region (go 1 1 ?_))))))))))
   refine sO (vG Tryz.underlying88 rfl rfl (go 6 1 (RS.nil (T.seq (T.region (go 2 2 (RS.nil (T.cf rfl (T.skip (T.region ?_))))))))))
   exact go 1 2 (RS.nil (⟨rfl,rfl⟩))
  ·rintro e a' w' ⟨fr',aw',σ',F',⟨rfl,rfl⟩,hcur⟩
   obtain ⟨σ2,hσ,s2,hd⟩:=dM (aw':=[.box [.bool false]]) (ρ:=[0]) hcur.sim (by decide) (de (cs:=[.bool false]) (ds:=[.bool false]) rfl ⟨da rfl,tqz⟩ (ae))
   refine ⟨hcur.ds,_,rfl,.tuple #[],?_,⟨_,rfl⟩,rfl,σ2,F',s2,Mv.ren (st:=⟨[.box [.any]],σ,w,F,[]⟩) hs.len hcur.mv (fun k hk=>?_) hσ hd⟩
   ·simp [results,Tryz.results46]
   ·match k,hk with
    | 0,_=>rfl
end
section
open Go.RowKit
set_option maxRecDepth 100000
set_option maxHeartbeats 4000000
set_option synthInstance.maxSize 100000
set_option synthInstance.maxHeartbeats 4000000
theorem al {p0:List UInt8} {r:List Int ⊕ Unit} (h:iT p0=some r):FnP Tryz.prog (.iface 88 (.agg #[])) 49 [.str p0] [] (fun r:List Int=>.sl (List.map aj r)) (fun r=>[]) r:=tz p0 r h
set_option maxHeartbeats 40000000 in
theorem m4 {p0:Int} {p1:List UInt8} {p2:Int} {p3:Int} {p4:List Node} {r:Bool × Int × Int × (List Node)} (h:gC p0 p1 p2 p3 p4=some r):FnX Tryz.prog 24 [.ptr 0 0,iI p0,.str p1] [.box [.ref 1,iI p2,iI p3],aR 42 4 aa p4] (.bool r.1) [.box [.ref 2,iI r.2.1,iI r.2.2.1],.dead,aR 42 4 aa r.2.2.2]:=by
 unfold gC at h;refine fnTDR (V:=(.iface 88 (.agg #[]))) 2 Tryz.func24 Tryz.ntmps24 ?_;refine TDR.seq (T.mvB 0 0 1 (cs:=[.ref 1,iI p2,iI p3]) rfl rfl rfl rfl (cs':=[.ref 2,iI p2,iI p3]) rfl rfl (T.region (go 1 3 (RS.nil (TDR.defer 1 rfl (go 1 4 (RS.nil ⟨4,_,_,_,rfl,rfl,rfl,idleF,fun vs w=>callable Tryz.func46 rfl (by kernel_rfl) vs w,(T.seq ?_)⟩)))))));obtain ⟨x2,hx2,h⟩:=bind_some h;refine T.region (go 1 4 (sO (cD (j6 hx2) ⟨rfl,(go 1 4 (RS.nil (T.seq (T.seq (T.region (go 2 4 (RS.nil ?_)))))))⟩)));refine T.ci h rfl (fun au h=>?_) (fun au h=>?_)
 ·refine T.seq ?_;obtain ⟨my,hz,h⟩:=bind_some h;revert hz h;revert my;intro c4 hz h;refine T.join (Z:=Unit) (fun _=>mkA 81 [(0,.ptr 0 0),(6,.ptr 3 0),(7,sL ab x2),(23,.bool c4)]) (fun _=>[.box [.ref 2,iI p2,iI p3],.dead,aR 42 4 aa p4,.box [.bool false]]) (fun _=>True) (fun _ _=>?_) (fun hK=>?_)
  ·refine T.ci h rfl (fun bJ h=>?_) (fun bJ h=>?_)
   ·refine T.seq (T.region (go 1 4 (RS.nil ?_)));cases h;exact tN [0,1,2]
   refine T.skip (T.seq ?_);obtain ⟨x9,hx9,h⟩:=bind_some h;obtain ⟨x11,eD,h⟩:=bind_some h;refine iz h (fun bZ h=>?_) (fun x10 bZ h=>?_)
   ·cases h;refine T.drawnF (V:=(.iface 88 (.agg #[]))) [(6,.ptr 3 0)] (fun aw=>aw=[.box [.ref 2,iI p2,iI p3],.dead,aR 42 4 aa p4,.box [.bool false]]) mixed (k:=16) rfl ?_ (fun aw h9=>by subst h9;exact ⟨rfl,[.box [.ref 2,iI p2,iI p3],.dead,aR 42 4 aa p4,.box [.bool false]],Caught.of (as0:=[.ptr 0 0]) (aw0:=[.box [.any]]) (aw1:=[.box [.bool false]]) (n0:=4) (n1:=1) [3] rfl rfl (by decide) (de (cs:=[.any]) (ds:=[.bool false]) rfl ⟨fY,tqz⟩ (ae)) ⟨cQ rfl,tqz⟩ catX rfl ⟨.inr ⟨rfl,rfl⟩,.inr ⟨rfl,rfl⟩,.inr ⟨rfl,rfl⟩,.inl ⟨0,_,by decide,rfl,iW (cs:=[.bool false]) (ds:=[.bool false]) ⟨ak (cz _),tqz⟩⟩,tqz⟩,vN [0,1,2]⟩);refine zp0 0 rfl (bc (v:=.ptr 0 0) rfl (zp0 1 rfl (bc (v:=.ptr 0 0) rfl (zp0 2 rfl (bc (v:=sL ab x2) rfl (zp0 3 rfl (aJ Ty.s32 (fun _=>rfl) rfl rfl hx9 (zp0 6 rfl (bc (v:=sL ab x2) rfl (zp0 7 rfl (aJ Ty.s32 (fun _=>rfl) rfl rfl eD (zpl [4,5,9,10,11,12,13,14,15] 4 rfl (cy rfl (ai Ty.k9 (c:=.str x9) rfl (zA2 5 8 ?_ ?_)))))))))))))))
    ·exact zpP rfl (qc (aw2:=[.box [.ref 2,iI p2,iI p3],.dead,aR 42 4 aa p4,.box [.bool false]]) (n0:=4) (n1:=0) [] rfl rfl (aA bZ) (ae) ⟨ah rfl,tqz⟩ ⟨.inr ⟨rfl,rfl⟩,.inr ⟨rfl,rfl⟩,.inr ⟨rfl,rfl⟩,.inr ⟨rfl,rfl⟩,tqz⟩ rfl)
    exact zpO rfl (aE rfl (ai Ty.k9 (c:=.str x11) rfl (zA1 5 (zpP rfl (qc (aw2:=[.box [.ref 2,iI p2,iI p3],.dead,aR 42 4 aa p4,.box [.bool false]]) (n0:=4) (n1:=0) [] rfl rfl (aA bZ) (ae) ⟨ah rfl,tqz⟩ ⟨.inr ⟨rfl,rfl⟩,.inr ⟨rfl,rfl⟩,.inr ⟨rfl,rfl⟩,.inr ⟨rfl,rfl⟩,tqz⟩ rfl)))))
   refine iz h (fun dk h=>?_) (fun x12 dk h=>?_)
   ·cases h;refine T.drawnF (V:=(.iface 88 (.agg #[]))) [(6,.ptr 3 0)] (fun aw=>aw=[.box [.ref 2,iI p2,iI p3],.dead,aR 42 4 aa p4,.box [.bool false]]) mixed (k:=16) rfl ?_ (fun aw h9=>by subst h9;exact ⟨rfl,[.box [.ref 2,iI p2,iI p3],.dead,aR 42 4 aa p4,.box [.bool false]],Caught.of (as0:=[.ptr 0 0]) (aw0:=[.box [.any]]) (aw1:=[.box [.bool false]]) (n0:=4) (n1:=1) [3] rfl rfl (by decide) (de (cs:=[.any]) (ds:=[.bool false]) rfl ⟨fY,tqz⟩ (ae)) ⟨cQ rfl,tqz⟩ catX rfl ⟨.inr ⟨rfl,rfl⟩,.inr ⟨rfl,rfl⟩,.inr ⟨rfl,rfl⟩,.inl ⟨0,_,by decide,rfl,iW (cs:=[.bool false]) (ds:=[.bool false]) ⟨ak (cz _),tqz⟩⟩,tqz⟩,vN [0,1,2]⟩);refine zp0 0 rfl (bc (v:=.ptr 0 0) rfl (zp0 1 rfl (bc (v:=.ptr 0 0) rfl (zp0 2 rfl (bc (v:=sL ab x2) rfl (zp0 3 rfl (aJ Ty.s32 (fun _=>rfl) rfl rfl hx9 (zp0 6 rfl (bc (v:=sL ab x2) rfl (zp0 7 rfl (aJ Ty.s32 (fun _=>rfl) rfl rfl eD (zpl [4,5,9,10,11,12,13,14,15] 4 rfl (cy rfl (ai Ty.k9 (c:=.str x9) rfl (zA2 5 8 ?_ ?_)))))))))))))))
    ·exact zpO rfl (ao (aw2:=[.box [.ref 2,iI p2,iI p3],.dead,aR 42 4 aa p4,.box [.bool false]]) (v':=iI x10) (n0:=4) (n1:=0) [] rfl rfl (aA bZ) (ae) ⟨ah rfl,tqz⟩ (ak (an _ _)) ⟨.inr ⟨rfl,rfl⟩,.inr ⟨rfl,rfl⟩,.inr ⟨rfl,rfl⟩,.inr ⟨rfl,rfl⟩,tqz⟩ (zA1 8 (zpO rfl (aE rfl (ai Ty.k9 (c:=.str x11) rfl (zA1 9 (zpP rfl (qc (aw2:=[.box [.ref 2,iI p2,iI p3],.dead,aR 42 4 aa p4,.box [.bool false]]) (n0:=4) (n1:=0) [] rfl rfl (aA dk) (ae) ⟨ah rfl,tqz⟩ ⟨.inr ⟨rfl,rfl⟩,.inr ⟨rfl,rfl⟩,.inr ⟨rfl,rfl⟩,.inr ⟨rfl,rfl⟩,tqz⟩ rfl))))))))
    exact zpO rfl (aE rfl (ai Ty.k9 (c:=.str x11) rfl (zA1 5 (zpO rfl (ao (aw2:=[.box [.ref 2,iI p2,iI p3],.dead,aR 42 4 aa p4,.box [.bool false]]) (v':=iI x10) (n0:=4) (n1:=0) [] rfl rfl (aA bZ) (ae) ⟨ah rfl,tqz⟩ (ak (an _ _)) ⟨.inr ⟨rfl,rfl⟩,.inr ⟨rfl,rfl⟩,.inr ⟨rfl,rfl⟩,.inr ⟨rfl,rfl⟩,tqz⟩ (zA1 9 (zpP rfl (qc (aw2:=[.box [.ref 2,iI p2,iI p3],.dead,aR 42 4 aa p4,.box [.bool false]]) (n0:=4) (n1:=0) [] rfl rfl (aA dk) (ae) ⟨ah rfl,tqz⟩ ⟨.inr ⟨rfl,rfl⟩,.inr ⟨rfl,rfl⟩,.inr ⟨rfl,rfl⟩,.inr ⟨rfl,rfl⟩,tqz⟩ rfl))))))))
   refine T.drawn mixed (k:=16) rfl ?_;apply RA.jn 7 (bm 16 511);intro hS5
   ·refine rq [0,1,2] 13 (r0 3 rfl (aJ Ty.s32 (fun _=>rfl) rfl rfl hx9 (rq [6] 11 (r0 7 rfl (aJ Ty.s32 (fun _=>rfl) rfl rfl eD (rL [4,5,9,10,11,12,13,14,15] 4 rfl (ra2 5 8 ?_ ?_)))))))
    ·exact oO rfl (ao (aw2:=[.box [.ref 2,iI p2,iI p3],.dead,aR 42 4 aa p4,.box [.bool false]]) (v':=iI x10) (n0:=4) (n1:=0) [] rfl rfl (aA bZ) (ae) ⟨ah rfl,tqz⟩ (ak (an _ _)) ⟨.inr ⟨rfl,rfl⟩,.inr ⟨rfl,rfl⟩,.inr ⟨rfl,rfl⟩,.inr ⟨rfl,rfl⟩,tqz⟩ (ra1 8 (og 4 ⟨rfl,(raE hS5)⟩)))
    ·exact og 4 ⟨rfl,(ra1 5 (oO rfl (ao (aw2:=[.box [.ref 2,iI p2,iI p3],.dead,aR 42 4 aa p4,.box [.bool false]]) (v':=iI x10) (n0:=4) (n1:=0) [] rfl rfl (aA bZ) (ae) ⟨ah rfl,tqz⟩ (ak (an _ _)) ⟨.inr ⟨rfl,rfl⟩,.inr ⟨rfl,rfl⟩,.inr ⟨rfl,rfl⟩,.inr ⟨rfl,rfl⟩,tqz⟩ (raT hS5))))⟩
   refine ra1 9 (oO rfl (ao (aw2:=[.box [.ref 2,iI p2,iI p3],.dead,aR 42 4 aa p4,.box [.bool false]]) (v':=iI x12) (n0:=4) (n1:=0) [] rfl rfl (aA dk) (ae) ⟨ah rfl,tqz⟩ (ak (an _ _)) ⟨.inr ⟨rfl,rfl⟩,.inr ⟨rfl,rfl⟩,.inr ⟨rfl,rfl⟩,.inr ⟨rfl,rfl⟩,tqz⟩ (rq [10,11] 4 (ra1 12 (og 4 ⟨rfl,(rq [13,14] 1 (ra1 15 (og 4 ⟨rfl,(RA.done (by decide +kernel) (T.seq ?_))⟩)))⟩)))));refine T.region (go 1 4 (RS.nil ?_));cases h;exact tN [0,1,2]
  refine T.region (go 1 4 (sQ (aH Ty.s32 rfl (go 2 4 ?_))));rcases aP (((x2).length:Int) != 3) with aI | aI
  ·replace hz:=bu hz aI;exact sN aI (sN aI (sN aI (sN aI (sQ (bH (v:=.bool true) rfl aI rfl (RS.nil (T.sub (hK () trivial) ⟨rfl,rfl,rfl,(congrArg AV.bool ((congrArg (fun p=>p) (zL hz)).symm)).symm,tqz⟩)))))))
  replace hz:=bt hz aI;obtain ⟨x3,hx3,hz⟩:=bind_some hz;exact yg 4 aI (yQ aI (aJ Ty.s32 (fun _=>rfl) rfl rfl hx3 (yg 4 aI (yg 4 aI (sQ (bp (v:=.bool (!(x3==[114,105,110,103,115]))) rfl aI rfl (RS.nil (T.sub (hK () trivial) ⟨rfl,rfl,rfl,(congrArg AV.bool ((congrArg (fun p=>p) (zL hz)).symm)).symm,tqz⟩))))))))
 refine T.skip (T.seq (T.seq (T.region (go 1 4 (sQ (aH Ty.s32 rfl (go 1 4 (RS.nil (T.ci h rfl (fun gk h=>?_) (fun gk h=>?_))))))))))
 ·refine T.seq (T.region (go 1 4 (RS.nil ?_)));cases h;exact tN [0,1,2]
 refine T.skip (T.seq (T.seq ?_));obtain ⟨x14,bS,h⟩:=bind_some h;refine T.region (sO (cO 4 (bT bS) ⟨rfl,(sQ (iH (en:=ab) Ty.s32 rfl rfl (go 1 5 (RS.nil (T.block (T.iter (fun dU:Int=>mkA 81 [(0,.ptr 0 0),(6,.ptr 3 0),(7,sL ab x2),(41,.ref 4),(42,iI ((x14).length:Int)),(43,iI dU)]) (fun dU=>[.box [.ref 2,iI p2,iI p3],.dead,aR 42 4 aa p4,.box [.bool false],aR 9 1 ab x14]) h (wk [] [0,1,2,3,4] 5 rfl) (fun dU v_38 h gh=>?_)))))))⟩));revert gh h;revert dU;intro s15 h gh;replace h:cK p2 x2 p3 p4 x14 s15=some v_38:=h;try dsimp only
 unfold cK at h;refine T.seq (T.region (go 1 5 (RS.nil (T.seq (T.ci h rfl (fun zc h=>?_) (fun zc h=>?_))))))
 ·refine T.skip (T.seq (T.block (T.seq ?_)));obtain ⟨x18,dE,h⟩:=bind_some h;obtain ⟨x19,eE,h⟩:=bind_some h;refine T.region (go 1 5 (sQ (be (en:=ab) Ty.s32 rfl rfl rfl dE (sO (cg (en:=ab) (a:=x19) rfl rfl eE (ai Ty.k9 (c:=.str x19) rfl (go 2 5 (RS.nil ?_))))))));obtain ⟨zd,hz,h⟩:=bind_some h;revert hz h;revert zd;intro c21 hz h;refine T.join (Z:=Unit) (fun _=>mkA 81 [(0,.ptr 0 0),(6,.ptr 3 0),(7,sL ab x2),(8,iI s15),(41,.ref 4),(42,iI ((x14).length:Int)),(43,iI s15),(56,.bool c21)]) (fun _=>[.box [.ref 2,iI p2,iI p3],.dead,aR 42 4 aa p4,.box [.bool false],aR 9 1 ab x14]) (fun _=>True) (fun _ _=>?_) (fun hK=>?_)
  ·refine T.ci h rfl (fun ze h=>?_) (fun ze h=>?_)
   ·refine T.seq ?_;obtain ⟨x29,ib,h⟩:=bind_some h;obtain ⟨x31,fx,h⟩:=bind_some h;obtain ⟨x33,ic,h⟩:=bind_some h;refine iz h (fun aD h=>?_) (fun x30 aD h=>?_)
    ·obtain ⟨w_43,h,hw_43⟩:=gY h;replace h:=h.trans (congrArg some (gh _ hw_43));cases h;refine T.drawnF (V:=(.iface 88 (.agg #[]))) [(6,.ptr 3 0)] (fun aw=>aw=[.box [.ref 2,iI p2,iI p3],.dead,aR 42 4 aa p4,.box [.bool false],aR 9 1 ab x14]) mixed (k:=24) rfl ?_ (fun aw h9=>by subst h9;exact ⟨rfl,[.box [.ref 2,iI p2,iI p3],.dead,aR 42 4 aa p4,.box [.bool false],aR 9 1 ab x14],Caught.of (as0:=[.ptr 0 0]) (aw0:=[.box [.any]]) (aw1:=[.box [.bool false]]) (n0:=5) (n1:=1) [3] rfl rfl (by decide) (de (cs:=[.any]) (ds:=[.bool false]) rfl ⟨fY,tqz⟩ (ae)) ⟨cQ rfl,tqz⟩ catX rfl ⟨.inr ⟨rfl,rfl⟩,.inr ⟨rfl,rfl⟩,.inr ⟨rfl,rfl⟩,.inl ⟨0,_,by decide,rfl,iW (cs:=[.bool false]) (ds:=[.bool false]) ⟨ak (cz _),tqz⟩⟩,.inr ⟨rfl,rfl⟩,tqz⟩,vN [0,1,2]⟩);refine zp0 0 rfl (bc (v:=.ptr 0 0) rfl (zp0 1 rfl (bc (v:=.ptr 0 0) rfl (zp0 2 rfl (jW rfl (zp0 3 rfl (jv Ty.f24_0 rfl (off':=0) rfl (zp0 5 rfl (bc (v:=iI s15) rfl (zp0 6 rfl (bc (v:=sL ab x2) rfl (zp0 7 rfl (aJ Ty.s32 (fun _=>rfl) rfl rfl ib (zp0 10 rfl (bc (v:=sL ab x2) rfl (zp0 11 rfl (aJ Ty.s32 (fun _=>rfl) rfl rfl fx (zp0 14 rfl (bc (v:=sL ab x2) rfl ?_)))))))))))))))))));refine zp0 15 rfl (aJ Ty.s32 (fun _=>rfl) rfl rfl ic (zpl [8,9,13,17,18,19,20,21,22,23] 8 rfl (cy rfl (ai Ty.k9 (c:=.str x29) rfl (zA4 4 9 12 16 ?_ ?_ ?_ ?_)))))
     ·refine zpO rfl (aQ rfl rfl (ai Ty.k22 (c:=.ref 2) rfl (zA3 9 12 16 ?_ ?_ ?_)))
      ·exact zpP rfl (qc (aw2:=[.box [.ref 2,iI p2,iI p3],.dead,aR 42 4 aa p4,.box [.bool false],aR 9 1 ab x14]) (n0:=5) (n1:=0) [] rfl rfl (aA aD) (ae) ⟨ah rfl,tqz⟩ ⟨.inr ⟨rfl,rfl⟩,.inr ⟨rfl,rfl⟩,.inr ⟨rfl,rfl⟩,.inr ⟨rfl,rfl⟩,.inr ⟨rfl,rfl⟩,tqz⟩ rfl)
      ·refine zpO rfl (aE rfl (ai Ty.k9 (c:=.str x31) rfl (zA2 9 16 ?_ ?_)))
       ·exact zpP rfl (qc (aw2:=[.box [.ref 2,iI p2,iI p3],.dead,aR 42 4 aa p4,.box [.bool false],aR 9 1 ab x14]) (n0:=5) (n1:=0) [] rfl rfl (aA aD) (ae) ⟨ah rfl,tqz⟩ ⟨.inr ⟨rfl,rfl⟩,.inr ⟨rfl,rfl⟩,.inr ⟨rfl,rfl⟩,.inr ⟨rfl,rfl⟩,.inr ⟨rfl,rfl⟩,tqz⟩ rfl)
       exact zpO rfl (aE rfl (ai Ty.k9 (c:=.str x33) rfl (zA1 9 (zpP rfl (qc (aw2:=[.box [.ref 2,iI p2,iI p3],.dead,aR 42 4 aa p4,.box [.bool false],aR 9 1 ab x14]) (n0:=5) (n1:=0) [] rfl rfl (aA aD) (ae) ⟨ah rfl,tqz⟩ ⟨.inr ⟨rfl,rfl⟩,.inr ⟨rfl,rfl⟩,.inr ⟨rfl,rfl⟩,.inr ⟨rfl,rfl⟩,.inr ⟨rfl,rfl⟩,tqz⟩ rfl)))))
      refine zpO rfl (aE rfl (ai Ty.k9 (c:=.str x33) rfl (zA2 9 12 ?_ ?_)))
      ·exact zpP rfl (qc (aw2:=[.box [.ref 2,iI p2,iI p3],.dead,aR 42 4 aa p4,.box [.bool false],aR 9 1 ab x14]) (n0:=5) (n1:=0) [] rfl rfl (aA aD) (ae) ⟨ah rfl,tqz⟩ ⟨.inr ⟨rfl,rfl⟩,.inr ⟨rfl,rfl⟩,.inr ⟨rfl,rfl⟩,.inr ⟨rfl,rfl⟩,.inr ⟨rfl,rfl⟩,tqz⟩ rfl)
      exact zpO rfl (aE rfl (ai Ty.k9 (c:=.str x31) rfl (zA1 9 (zpP rfl (qc (aw2:=[.box [.ref 2,iI p2,iI p3],.dead,aR 42 4 aa p4,.box [.bool false],aR 9 1 ab x14]) (n0:=5) (n1:=0) [] rfl rfl (aA aD) (ae) ⟨ah rfl,tqz⟩ ⟨.inr ⟨rfl,rfl⟩,.inr ⟨rfl,rfl⟩,.inr ⟨rfl,rfl⟩,.inr ⟨rfl,rfl⟩,.inr ⟨rfl,rfl⟩,tqz⟩ rfl)))))
     ·exact zpP rfl (qc (aw2:=[.box [.ref 2,iI p2,iI p3],.dead,aR 42 4 aa p4,.box [.bool false],aR 9 1 ab x14]) (n0:=5) (n1:=0) [] rfl rfl (aA aD) (ae) ⟨ah rfl,tqz⟩ ⟨.inr ⟨rfl,rfl⟩,.inr ⟨rfl,rfl⟩,.inr ⟨rfl,rfl⟩,.inr ⟨rfl,rfl⟩,.inr ⟨rfl,rfl⟩,tqz⟩ rfl)
     ·refine zpO rfl (aE rfl (ai Ty.k9 (c:=.str x31) rfl (zA3 4 9 16 ?_ ?_ ?_)))
      ·refine zpO rfl (aQ rfl rfl (ai Ty.k22 (c:=.ref 2) rfl (zA2 9 16 ?_ ?_)))
       ·exact zpP rfl (qc (aw2:=[.box [.ref 2,iI p2,iI p3],.dead,aR 42 4 aa p4,.box [.bool false],aR 9 1 ab x14]) (n0:=5) (n1:=0) [] rfl rfl (aA aD) (ae) ⟨ah rfl,tqz⟩ ⟨.inr ⟨rfl,rfl⟩,.inr ⟨rfl,rfl⟩,.inr ⟨rfl,rfl⟩,.inr ⟨rfl,rfl⟩,.inr ⟨rfl,rfl⟩,tqz⟩ rfl)
       exact zpO rfl (aE rfl (ai Ty.k9 (c:=.str x33) rfl (zA1 9 (zpP rfl (qc (aw2:=[.box [.ref 2,iI p2,iI p3],.dead,aR 42 4 aa p4,.box [.bool false],aR 9 1 ab x14]) (n0:=5) (n1:=0) [] rfl rfl (aA aD) (ae) ⟨ah rfl,tqz⟩ ⟨.inr ⟨rfl,rfl⟩,.inr ⟨rfl,rfl⟩,.inr ⟨rfl,rfl⟩,.inr ⟨rfl,rfl⟩,.inr ⟨rfl,rfl⟩,tqz⟩ rfl)))))
      ·exact zpP rfl (qc (aw2:=[.box [.ref 2,iI p2,iI p3],.dead,aR 42 4 aa p4,.box [.bool false],aR 9 1 ab x14]) (n0:=5) (n1:=0) [] rfl rfl (aA aD) (ae) ⟨ah rfl,tqz⟩ ⟨.inr ⟨rfl,rfl⟩,.inr ⟨rfl,rfl⟩,.inr ⟨rfl,rfl⟩,.inr ⟨rfl,rfl⟩,.inr ⟨rfl,rfl⟩,tqz⟩ rfl)
      refine zpO rfl (aE rfl (ai Ty.k9 (c:=.str x33) rfl (zA2 4 9 ?_ ?_)))
      ·exact zpO rfl (aQ rfl rfl (ai Ty.k22 (c:=.ref 2) rfl (zA1 9 (zpP rfl (qc (aw2:=[.box [.ref 2,iI p2,iI p3],.dead,aR 42 4 aa p4,.box [.bool false],aR 9 1 ab x14]) (n0:=5) (n1:=0) [] rfl rfl (aA aD) (ae) ⟨ah rfl,tqz⟩ ⟨.inr ⟨rfl,rfl⟩,.inr ⟨rfl,rfl⟩,.inr ⟨rfl,rfl⟩,.inr ⟨rfl,rfl⟩,.inr ⟨rfl,rfl⟩,tqz⟩ rfl)))))
      exact zpP rfl (qc (aw2:=[.box [.ref 2,iI p2,iI p3],.dead,aR 42 4 aa p4,.box [.bool false],aR 9 1 ab x14]) (n0:=5) (n1:=0) [] rfl rfl (aA aD) (ae) ⟨ah rfl,tqz⟩ ⟨.inr ⟨rfl,rfl⟩,.inr ⟨rfl,rfl⟩,.inr ⟨rfl,rfl⟩,.inr ⟨rfl,rfl⟩,.inr ⟨rfl,rfl⟩,tqz⟩ rfl)
     refine zpO rfl (aE rfl (ai Ty.k9 (c:=.str x33) rfl (zA3 4 9 12 ?_ ?_ ?_)))
     ·refine zpO rfl (aQ rfl rfl (ai Ty.k22 (c:=.ref 2) rfl (zA2 9 12 ?_ ?_)))
      ·exact zpP rfl (qc (aw2:=[.box [.ref 2,iI p2,iI p3],.dead,aR 42 4 aa p4,.box [.bool false],aR 9 1 ab x14]) (n0:=5) (n1:=0) [] rfl rfl (aA aD) (ae) ⟨ah rfl,tqz⟩ ⟨.inr ⟨rfl,rfl⟩,.inr ⟨rfl,rfl⟩,.inr ⟨rfl,rfl⟩,.inr ⟨rfl,rfl⟩,.inr ⟨rfl,rfl⟩,tqz⟩ rfl)
      exact zpO rfl (aE rfl (ai Ty.k9 (c:=.str x31) rfl (zA1 9 (zpP rfl (qc (aw2:=[.box [.ref 2,iI p2,iI p3],.dead,aR 42 4 aa p4,.box [.bool false],aR 9 1 ab x14]) (n0:=5) (n1:=0) [] rfl rfl (aA aD) (ae) ⟨ah rfl,tqz⟩ ⟨.inr ⟨rfl,rfl⟩,.inr ⟨rfl,rfl⟩,.inr ⟨rfl,rfl⟩,.inr ⟨rfl,rfl⟩,.inr ⟨rfl,rfl⟩,tqz⟩ rfl)))))
     ·exact zpP rfl (qc (aw2:=[.box [.ref 2,iI p2,iI p3],.dead,aR 42 4 aa p4,.box [.bool false],aR 9 1 ab x14]) (n0:=5) (n1:=0) [] rfl rfl (aA aD) (ae) ⟨ah rfl,tqz⟩ ⟨.inr ⟨rfl,rfl⟩,.inr ⟨rfl,rfl⟩,.inr ⟨rfl,rfl⟩,.inr ⟨rfl,rfl⟩,.inr ⟨rfl,rfl⟩,tqz⟩ rfl)
     refine zpO rfl (aE rfl (ai Ty.k9 (c:=.str x31) rfl (zA2 4 9 ?_ ?_)))
     ·exact zpO rfl (aQ rfl rfl (ai Ty.k22 (c:=.ref 2) rfl (zA1 9 (zpP rfl (qc (aw2:=[.box [.ref 2,iI p2,iI p3],.dead,aR 42 4 aa p4,.box [.bool false],aR 9 1 ab x14]) (n0:=5) (n1:=0) [] rfl rfl (aA aD) (ae) ⟨ah rfl,tqz⟩ ⟨.inr ⟨rfl,rfl⟩,.inr ⟨rfl,rfl⟩,.inr ⟨rfl,rfl⟩,.inr ⟨rfl,rfl⟩,.inr ⟨rfl,rfl⟩,tqz⟩ rfl)))))
     exact zpP rfl (qc (aw2:=[.box [.ref 2,iI p2,iI p3],.dead,aR 42 4 aa p4,.box [.bool false],aR 9 1 ab x14]) (n0:=5) (n1:=0) [] rfl rfl (aA aD) (ae) ⟨ah rfl,tqz⟩ ⟨.inr ⟨rfl,rfl⟩,.inr ⟨rfl,rfl⟩,.inr ⟨rfl,rfl⟩,.inr ⟨rfl,rfl⟩,.inr ⟨rfl,rfl⟩,tqz⟩ rfl)
    refine iz h (fun ap h=>?_) (fun x32 ap h=>?_)
    ·obtain ⟨w_44,h,hw_44⟩:=gY h;replace h:=h.trans (congrArg some (gh _ hw_44));cases h;refine T.drawnF (V:=(.iface 88 (.agg #[]))) [(6,.ptr 3 0)] (fun aw=>aw=[.box [.ref 2,iI p2,iI p3],.dead,aR 42 4 aa p4,.box [.bool false],aR 9 1 ab x14]) mixed (k:=24) rfl ?_ (fun aw h9=>by subst h9;exact ⟨rfl,[.box [.ref 2,iI p2,iI p3],.dead,aR 42 4 aa p4,.box [.bool false],aR 9 1 ab x14],Caught.of (as0:=[.ptr 0 0]) (aw0:=[.box [.any]]) (aw1:=[.box [.bool false]]) (n0:=5) (n1:=1) [3] rfl rfl (by decide) (de (cs:=[.any]) (ds:=[.bool false]) rfl ⟨fY,tqz⟩ (ae)) ⟨cQ rfl,tqz⟩ catX rfl ⟨.inr ⟨rfl,rfl⟩,.inr ⟨rfl,rfl⟩,.inr ⟨rfl,rfl⟩,.inl ⟨0,_,by decide,rfl,iW (cs:=[.bool false]) (ds:=[.bool false]) ⟨ak (cz _),tqz⟩⟩,.inr ⟨rfl,rfl⟩,tqz⟩,vN [0,1,2]⟩);refine zp0 0 rfl (bc (v:=.ptr 0 0) rfl (zp0 1 rfl (bc (v:=.ptr 0 0) rfl (zp0 2 rfl (jW rfl (zp0 3 rfl (jv Ty.f24_0 rfl (off':=0) rfl (zp0 5 rfl (bc (v:=iI s15) rfl (zp0 6 rfl (bc (v:=sL ab x2) rfl (zp0 7 rfl (aJ Ty.s32 (fun _=>rfl) rfl rfl ib (zp0 10 rfl (bc (v:=sL ab x2) rfl (zp0 11 rfl (aJ Ty.s32 (fun _=>rfl) rfl rfl fx (zp0 14 rfl (bc (v:=sL ab x2) rfl ?_)))))))))))))))))));refine zp0 15 rfl (aJ Ty.s32 (fun _=>rfl) rfl rfl ic (zpl [8,9,13,17,18,19,20,21,22,23] 8 rfl (cy rfl (ai Ty.k9 (c:=.str x29) rfl (zA4 4 9 12 16 ?_ ?_ ?_ ?_)))))
     ·refine zpO rfl (aQ rfl rfl (ai Ty.k22 (c:=.ref 2) rfl (zA3 9 12 16 ?_ ?_ ?_)))
      ·refine zpO rfl (ao (aw2:=[.box [.ref 2,iI p2,iI p3],.dead,aR 42 4 aa p4,.box [.bool false],aR 9 1 ab x14]) (v':=iI x30) (n0:=5) (n1:=0) [] rfl rfl (aA aD) (ae) ⟨ah rfl,tqz⟩ (ak (an _ _)) ⟨.inr ⟨rfl,rfl⟩,.inr ⟨rfl,rfl⟩,.inr ⟨rfl,rfl⟩,.inr ⟨rfl,rfl⟩,.inr ⟨rfl,rfl⟩,tqz⟩ (zpl [12,13,17,18,19,20,21,22,23] 12 rfl (cy rfl (ai Ty.k9 (c:=.str x31) rfl (zA2 13 16 ?_ ?_)))))
       ·exact zpP rfl (qc (aw2:=[.box [.ref 2,iI p2,iI p3],.dead,aR 42 4 aa p4,.box [.bool false],aR 9 1 ab x14]) (n0:=5) (n1:=0) [] rfl rfl (al ap) (ae) ⟨ah rfl,tqz⟩ ⟨.inr ⟨rfl,rfl⟩,.inr ⟨rfl,rfl⟩,.inr ⟨rfl,rfl⟩,.inr ⟨rfl,rfl⟩,.inr ⟨rfl,rfl⟩,tqz⟩ rfl)
       exact zpO rfl (aE rfl (ai Ty.k9 (c:=.str x33) rfl (zA1 13 (zpP rfl (qc (aw2:=[.box [.ref 2,iI p2,iI p3],.dead,aR 42 4 aa p4,.box [.bool false],aR 9 1 ab x14]) (n0:=5) (n1:=0) [] rfl rfl (al ap) (ae) ⟨ah rfl,tqz⟩ ⟨.inr ⟨rfl,rfl⟩,.inr ⟨rfl,rfl⟩,.inr ⟨rfl,rfl⟩,.inr ⟨rfl,rfl⟩,.inr ⟨rfl,rfl⟩,tqz⟩ rfl)))))
      ·refine zpO rfl (aE rfl (ai Ty.k9 (c:=.str x31) rfl (zA2 9 16 ?_ ?_)))
       ·refine zpO rfl (ao (aw2:=[.box [.ref 2,iI p2,iI p3],.dead,aR 42 4 aa p4,.box [.bool false],aR 9 1 ab x14]) (v':=iI x30) (n0:=5) (n1:=0) [] rfl rfl (aA aD) (ae) ⟨ah rfl,tqz⟩ (ak (an _ _)) ⟨.inr ⟨rfl,rfl⟩,.inr ⟨rfl,rfl⟩,.inr ⟨rfl,rfl⟩,.inr ⟨rfl,rfl⟩,.inr ⟨rfl,rfl⟩,tqz⟩ (zA2 13 16 ?_ ?_))
        ·exact zpP rfl (qc (aw2:=[.box [.ref 2,iI p2,iI p3],.dead,aR 42 4 aa p4,.box [.bool false],aR 9 1 ab x14]) (n0:=5) (n1:=0) [] rfl rfl (al ap) (ae) ⟨ah rfl,tqz⟩ ⟨.inr ⟨rfl,rfl⟩,.inr ⟨rfl,rfl⟩,.inr ⟨rfl,rfl⟩,.inr ⟨rfl,rfl⟩,.inr ⟨rfl,rfl⟩,tqz⟩ rfl)
        exact zpO rfl (aE rfl (ai Ty.k9 (c:=.str x33) rfl (zA1 13 (zpP rfl (qc (aw2:=[.box [.ref 2,iI p2,iI p3],.dead,aR 42 4 aa p4,.box [.bool false],aR 9 1 ab x14]) (n0:=5) (n1:=0) [] rfl rfl (al ap) (ae) ⟨ah rfl,tqz⟩ ⟨.inr ⟨rfl,rfl⟩,.inr ⟨rfl,rfl⟩,.inr ⟨rfl,rfl⟩,.inr ⟨rfl,rfl⟩,.inr ⟨rfl,rfl⟩,tqz⟩ rfl)))))
       refine zpO rfl (aE rfl (ai Ty.k9 (c:=.str x33) rfl (zA1 9 (zpO rfl (ao (aw2:=[.box [.ref 2,iI p2,iI p3],.dead,aR 42 4 aa p4,.box [.bool false],aR 9 1 ab x14]) (v':=iI x30) (n0:=5) (n1:=0) [] rfl rfl (aA aD) (ae) ⟨ah rfl,tqz⟩ (ak (an _ _)) ⟨.inr ⟨rfl,rfl⟩,.inr ⟨rfl,rfl⟩,.inr ⟨rfl,rfl⟩,.inr ⟨rfl,rfl⟩,.inr ⟨rfl,rfl⟩,tqz⟩ (zA1 13 ?_))))));exact zpP rfl (qc (aw2:=[.box [.ref 2,iI p2,iI p3],.dead,aR 42 4 aa p4,.box [.bool false],aR 9 1 ab x14]) (n0:=5) (n1:=0) [] rfl rfl (al ap) (ae) ⟨ah rfl,tqz⟩ ⟨.inr ⟨rfl,rfl⟩,.inr ⟨rfl,rfl⟩,.inr ⟨rfl,rfl⟩,.inr ⟨rfl,rfl⟩,.inr ⟨rfl,rfl⟩,tqz⟩ rfl)
      refine zpO rfl (aE rfl (ai Ty.k9 (c:=.str x33) rfl (zA2 9 12 ?_ ?_)))
      ·refine zpO rfl (ao (aw2:=[.box [.ref 2,iI p2,iI p3],.dead,aR 42 4 aa p4,.box [.bool false],aR 9 1 ab x14]) (v':=iI x30) (n0:=5) (n1:=0) [] rfl rfl (aA aD) (ae) ⟨ah rfl,tqz⟩ (ak (an _ _)) ⟨.inr ⟨rfl,rfl⟩,.inr ⟨rfl,rfl⟩,.inr ⟨rfl,rfl⟩,.inr ⟨rfl,rfl⟩,.inr ⟨rfl,rfl⟩,tqz⟩ (zA1 12 (zpO rfl (aE rfl (ai Ty.k9 (c:=.str x31) rfl (zA1 13 ?_))))));exact zpP rfl (qc (aw2:=[.box [.ref 2,iI p2,iI p3],.dead,aR 42 4 aa p4,.box [.bool false],aR 9 1 ab x14]) (n0:=5) (n1:=0) [] rfl rfl (al ap) (ae) ⟨ah rfl,tqz⟩ ⟨.inr ⟨rfl,rfl⟩,.inr ⟨rfl,rfl⟩,.inr ⟨rfl,rfl⟩,.inr ⟨rfl,rfl⟩,.inr ⟨rfl,rfl⟩,tqz⟩ rfl)
      refine zpO rfl (aE rfl (ai Ty.k9 (c:=.str x31) rfl (zA1 9 (zpO rfl (ao (aw2:=[.box [.ref 2,iI p2,iI p3],.dead,aR 42 4 aa p4,.box [.bool false],aR 9 1 ab x14]) (v':=iI x30) (n0:=5) (n1:=0) [] rfl rfl (aA aD) (ae) ⟨ah rfl,tqz⟩ (ak (an _ _)) ⟨.inr ⟨rfl,rfl⟩,.inr ⟨rfl,rfl⟩,.inr ⟨rfl,rfl⟩,.inr ⟨rfl,rfl⟩,.inr ⟨rfl,rfl⟩,tqz⟩ (zA1 13 ?_))))));exact zpP rfl (qc (aw2:=[.box [.ref 2,iI p2,iI p3],.dead,aR 42 4 aa p4,.box [.bool false],aR 9 1 ab x14]) (n0:=5) (n1:=0) [] rfl rfl (al ap) (ae) ⟨ah rfl,tqz⟩ ⟨.inr ⟨rfl,rfl⟩,.inr ⟨rfl,rfl⟩,.inr ⟨rfl,rfl⟩,.inr ⟨rfl,rfl⟩,.inr ⟨rfl,rfl⟩,tqz⟩ rfl)
     ·refine zpO rfl (ao (aw2:=[.box [.ref 2,iI p2,iI p3],.dead,aR 42 4 aa p4,.box [.bool false],aR 9 1 ab x14]) (v':=iI x30) (n0:=5) (n1:=0) [] rfl rfl (aA aD) (ae) ⟨ah rfl,tqz⟩ (ak (an _ _)) ⟨.inr ⟨rfl,rfl⟩,.inr ⟨rfl,rfl⟩,.inr ⟨rfl,rfl⟩,.inr ⟨rfl,rfl⟩,.inr ⟨rfl,rfl⟩,tqz⟩ (zpl [12,13,17,18,19,20,21,22,23] 12 rfl (cy rfl (ai Ty.k9 (c:=.str x31) rfl (zA3 4 13 16 ?_ ?_ ?_)))))
      ·refine zpO rfl (aQ rfl rfl (ai Ty.k22 (c:=.ref 2) rfl (zA2 13 16 ?_ ?_)))
       ·exact zpP rfl (qc (aw2:=[.box [.ref 2,iI p2,iI p3],.dead,aR 42 4 aa p4,.box [.bool false],aR 9 1 ab x14]) (n0:=5) (n1:=0) [] rfl rfl (al ap) (ae) ⟨ah rfl,tqz⟩ ⟨.inr ⟨rfl,rfl⟩,.inr ⟨rfl,rfl⟩,.inr ⟨rfl,rfl⟩,.inr ⟨rfl,rfl⟩,.inr ⟨rfl,rfl⟩,tqz⟩ rfl)
       exact zpO rfl (aE rfl (ai Ty.k9 (c:=.str x33) rfl (zA1 13 (zpP rfl (qc (aw2:=[.box [.ref 2,iI p2,iI p3],.dead,aR 42 4 aa p4,.box [.bool false],aR 9 1 ab x14]) (n0:=5) (n1:=0) [] rfl rfl (al ap) (ae) ⟨ah rfl,tqz⟩ ⟨.inr ⟨rfl,rfl⟩,.inr ⟨rfl,rfl⟩,.inr ⟨rfl,rfl⟩,.inr ⟨rfl,rfl⟩,.inr ⟨rfl,rfl⟩,tqz⟩ rfl)))))
      ·exact zpP rfl (qc (aw2:=[.box [.ref 2,iI p2,iI p3],.dead,aR 42 4 aa p4,.box [.bool false],aR 9 1 ab x14]) (n0:=5) (n1:=0) [] rfl rfl (al ap) (ae) ⟨ah rfl,tqz⟩ ⟨.inr ⟨rfl,rfl⟩,.inr ⟨rfl,rfl⟩,.inr ⟨rfl,rfl⟩,.inr ⟨rfl,rfl⟩,.inr ⟨rfl,rfl⟩,tqz⟩ rfl)
      refine zpO rfl (aE rfl (ai Ty.k9 (c:=.str x33) rfl (zA2 4 13 ?_ ?_)))
      ·exact zpO rfl (aQ rfl rfl (ai Ty.k22 (c:=.ref 2) rfl (zA1 13 (zpP rfl (qc (aw2:=[.box [.ref 2,iI p2,iI p3],.dead,aR 42 4 aa p4,.box [.bool false],aR 9 1 ab x14]) (n0:=5) (n1:=0) [] rfl rfl (al ap) (ae) ⟨ah rfl,tqz⟩ ⟨.inr ⟨rfl,rfl⟩,.inr ⟨rfl,rfl⟩,.inr ⟨rfl,rfl⟩,.inr ⟨rfl,rfl⟩,.inr ⟨rfl,rfl⟩,tqz⟩ rfl)))))
      exact zpP rfl (qc (aw2:=[.box [.ref 2,iI p2,iI p3],.dead,aR 42 4 aa p4,.box [.bool false],aR 9 1 ab x14]) (n0:=5) (n1:=0) [] rfl rfl (al ap) (ae) ⟨ah rfl,tqz⟩ ⟨.inr ⟨rfl,rfl⟩,.inr ⟨rfl,rfl⟩,.inr ⟨rfl,rfl⟩,.inr ⟨rfl,rfl⟩,.inr ⟨rfl,rfl⟩,tqz⟩ rfl)
     ·refine zpO rfl (aE rfl (ai Ty.k9 (c:=.str x31) rfl (zA3 4 9 16 ?_ ?_ ?_)))
      ·refine zpO rfl (aQ rfl rfl (ai Ty.k22 (c:=.ref 2) rfl (zA2 9 16 ?_ ?_)))
       ·refine zpO rfl (ao (aw2:=[.box [.ref 2,iI p2,iI p3],.dead,aR 42 4 aa p4,.box [.bool false],aR 9 1 ab x14]) (v':=iI x30) (n0:=5) (n1:=0) [] rfl rfl (aA aD) (ae) ⟨ah rfl,tqz⟩ (ak (an _ _)) ⟨.inr ⟨rfl,rfl⟩,.inr ⟨rfl,rfl⟩,.inr ⟨rfl,rfl⟩,.inr ⟨rfl,rfl⟩,.inr ⟨rfl,rfl⟩,tqz⟩ (zA2 13 16 ?_ ?_))
        ·exact zpP rfl (qc (aw2:=[.box [.ref 2,iI p2,iI p3],.dead,aR 42 4 aa p4,.box [.bool false],aR 9 1 ab x14]) (n0:=5) (n1:=0) [] rfl rfl (al ap) (ae) ⟨ah rfl,tqz⟩ ⟨.inr ⟨rfl,rfl⟩,.inr ⟨rfl,rfl⟩,.inr ⟨rfl,rfl⟩,.inr ⟨rfl,rfl⟩,.inr ⟨rfl,rfl⟩,tqz⟩ rfl)
        exact zpO rfl (aE rfl (ai Ty.k9 (c:=.str x33) rfl (zA1 13 (zpP rfl (qc (aw2:=[.box [.ref 2,iI p2,iI p3],.dead,aR 42 4 aa p4,.box [.bool false],aR 9 1 ab x14]) (n0:=5) (n1:=0) [] rfl rfl (al ap) (ae) ⟨ah rfl,tqz⟩ ⟨.inr ⟨rfl,rfl⟩,.inr ⟨rfl,rfl⟩,.inr ⟨rfl,rfl⟩,.inr ⟨rfl,rfl⟩,.inr ⟨rfl,rfl⟩,tqz⟩ rfl)))))
       refine zpO rfl (aE rfl (ai Ty.k9 (c:=.str x33) rfl (zA1 9 (zpO rfl (ao (aw2:=[.box [.ref 2,iI p2,iI p3],.dead,aR 42 4 aa p4,.box [.bool false],aR 9 1 ab x14]) (v':=iI x30) (n0:=5) (n1:=0) [] rfl rfl (aA aD) (ae) ⟨ah rfl,tqz⟩ (ak (an _ _)) ⟨.inr ⟨rfl,rfl⟩,.inr ⟨rfl,rfl⟩,.inr ⟨rfl,rfl⟩,.inr ⟨rfl,rfl⟩,.inr ⟨rfl,rfl⟩,tqz⟩ (zA1 13 ?_))))));exact zpP rfl (qc (aw2:=[.box [.ref 2,iI p2,iI p3],.dead,aR 42 4 aa p4,.box [.bool false],aR 9 1 ab x14]) (n0:=5) (n1:=0) [] rfl rfl (al ap) (ae) ⟨ah rfl,tqz⟩ ⟨.inr ⟨rfl,rfl⟩,.inr ⟨rfl,rfl⟩,.inr ⟨rfl,rfl⟩,.inr ⟨rfl,rfl⟩,.inr ⟨rfl,rfl⟩,tqz⟩ rfl)
      ·refine zpO rfl (ao (aw2:=[.box [.ref 2,iI p2,iI p3],.dead,aR 42 4 aa p4,.box [.bool false],aR 9 1 ab x14]) (v':=iI x30) (n0:=5) (n1:=0) [] rfl rfl (aA aD) (ae) ⟨ah rfl,tqz⟩ (ak (an _ _)) ⟨.inr ⟨rfl,rfl⟩,.inr ⟨rfl,rfl⟩,.inr ⟨rfl,rfl⟩,.inr ⟨rfl,rfl⟩,.inr ⟨rfl,rfl⟩,tqz⟩ (zA3 4 13 16 ?_ ?_ ?_))
       ·refine zpO rfl (aQ rfl rfl (ai Ty.k22 (c:=.ref 2) rfl (zA2 13 16 ?_ ?_)))
        ·exact zpP rfl (qc (aw2:=[.box [.ref 2,iI p2,iI p3],.dead,aR 42 4 aa p4,.box [.bool false],aR 9 1 ab x14]) (n0:=5) (n1:=0) [] rfl rfl (al ap) (ae) ⟨ah rfl,tqz⟩ ⟨.inr ⟨rfl,rfl⟩,.inr ⟨rfl,rfl⟩,.inr ⟨rfl,rfl⟩,.inr ⟨rfl,rfl⟩,.inr ⟨rfl,rfl⟩,tqz⟩ rfl)
        exact zpO rfl (aE rfl (ai Ty.k9 (c:=.str x33) rfl (zA1 13 (zpP rfl (qc (aw2:=[.box [.ref 2,iI p2,iI p3],.dead,aR 42 4 aa p4,.box [.bool false],aR 9 1 ab x14]) (n0:=5) (n1:=0) [] rfl rfl (al ap) (ae) ⟨ah rfl,tqz⟩ ⟨.inr ⟨rfl,rfl⟩,.inr ⟨rfl,rfl⟩,.inr ⟨rfl,rfl⟩,.inr ⟨rfl,rfl⟩,.inr ⟨rfl,rfl⟩,tqz⟩ rfl)))))
       ·exact zpP rfl (qc (aw2:=[.box [.ref 2,iI p2,iI p3],.dead,aR 42 4 aa p4,.box [.bool false],aR 9 1 ab x14]) (n0:=5) (n1:=0) [] rfl rfl (al ap) (ae) ⟨ah rfl,tqz⟩ ⟨.inr ⟨rfl,rfl⟩,.inr ⟨rfl,rfl⟩,.inr ⟨rfl,rfl⟩,.inr ⟨rfl,rfl⟩,.inr ⟨rfl,rfl⟩,tqz⟩ rfl)
       refine zpO rfl (aE rfl (ai Ty.k9 (c:=.str x33) rfl (zA2 4 13 ?_ ?_)))
       ·exact zpO rfl (aQ rfl rfl (ai Ty.k22 (c:=.ref 2) rfl (zA1 13 (zpP rfl (qc (aw2:=[.box [.ref 2,iI p2,iI p3],.dead,aR 42 4 aa p4,.box [.bool false],aR 9 1 ab x14]) (n0:=5) (n1:=0) [] rfl rfl (al ap) (ae) ⟨ah rfl,tqz⟩ ⟨.inr ⟨rfl,rfl⟩,.inr ⟨rfl,rfl⟩,.inr ⟨rfl,rfl⟩,.inr ⟨rfl,rfl⟩,.inr ⟨rfl,rfl⟩,tqz⟩ rfl)))))
       exact zpP rfl (qc (aw2:=[.box [.ref 2,iI p2,iI p3],.dead,aR 42 4 aa p4,.box [.bool false],aR 9 1 ab x14]) (n0:=5) (n1:=0) [] rfl rfl (al ap) (ae) ⟨ah rfl,tqz⟩ ⟨.inr ⟨rfl,rfl⟩,.inr ⟨rfl,rfl⟩,.inr ⟨rfl,rfl⟩,.inr ⟨rfl,rfl⟩,.inr ⟨rfl,rfl⟩,tqz⟩ rfl)
      refine zpO rfl (aE rfl (ai Ty.k9 (c:=.str x33) rfl (zA2 4 9 ?_ ?_)))
      ·refine zpO rfl (aQ rfl rfl (ai Ty.k22 (c:=.ref 2) rfl (zA1 9 (zpO rfl (ao (aw2:=[.box [.ref 2,iI p2,iI p3],.dead,aR 42 4 aa p4,.box [.bool false],aR 9 1 ab x14]) (v':=iI x30) (n0:=5) (n1:=0) [] rfl rfl (aA aD) (ae) ⟨ah rfl,tqz⟩ (ak (an _ _)) ⟨.inr ⟨rfl,rfl⟩,.inr ⟨rfl,rfl⟩,.inr ⟨rfl,rfl⟩,.inr ⟨rfl,rfl⟩,.inr ⟨rfl,rfl⟩,tqz⟩ (zA1 13 ?_))))));exact zpP rfl (qc (aw2:=[.box [.ref 2,iI p2,iI p3],.dead,aR 42 4 aa p4,.box [.bool false],aR 9 1 ab x14]) (n0:=5) (n1:=0) [] rfl rfl (al ap) (ae) ⟨ah rfl,tqz⟩ ⟨.inr ⟨rfl,rfl⟩,.inr ⟨rfl,rfl⟩,.inr ⟨rfl,rfl⟩,.inr ⟨rfl,rfl⟩,.inr ⟨rfl,rfl⟩,tqz⟩ rfl)
      refine zpO rfl (ao (aw2:=[.box [.ref 2,iI p2,iI p3],.dead,aR 42 4 aa p4,.box [.bool false],aR 9 1 ab x14]) (v':=iI x30) (n0:=5) (n1:=0) [] rfl rfl (aA aD) (ae) ⟨ah rfl,tqz⟩ (ak (an _ _)) ⟨.inr ⟨rfl,rfl⟩,.inr ⟨rfl,rfl⟩,.inr ⟨rfl,rfl⟩,.inr ⟨rfl,rfl⟩,.inr ⟨rfl,rfl⟩,tqz⟩ (zA2 4 13 ?_ ?_))
      ·exact zpO rfl (aQ rfl rfl (ai Ty.k22 (c:=.ref 2) rfl (zA1 13 (zpP rfl (qc (aw2:=[.box [.ref 2,iI p2,iI p3],.dead,aR 42 4 aa p4,.box [.bool false],aR 9 1 ab x14]) (n0:=5) (n1:=0) [] rfl rfl (al ap) (ae) ⟨ah rfl,tqz⟩ ⟨.inr ⟨rfl,rfl⟩,.inr ⟨rfl,rfl⟩,.inr ⟨rfl,rfl⟩,.inr ⟨rfl,rfl⟩,.inr ⟨rfl,rfl⟩,tqz⟩ rfl)))))
      exact zpP rfl (qc (aw2:=[.box [.ref 2,iI p2,iI p3],.dead,aR 42 4 aa p4,.box [.bool false],aR 9 1 ab x14]) (n0:=5) (n1:=0) [] rfl rfl (al ap) (ae) ⟨ah rfl,tqz⟩ ⟨.inr ⟨rfl,rfl⟩,.inr ⟨rfl,rfl⟩,.inr ⟨rfl,rfl⟩,.inr ⟨rfl,rfl⟩,.inr ⟨rfl,rfl⟩,tqz⟩ rfl)
     refine zpO rfl (aE rfl (ai Ty.k9 (c:=.str x33) rfl (zA3 4 9 12 ?_ ?_ ?_)))
     ·refine zpO rfl (aQ rfl rfl (ai Ty.k22 (c:=.ref 2) rfl (zA2 9 12 ?_ ?_)))
      ·refine zpO rfl (ao (aw2:=[.box [.ref 2,iI p2,iI p3],.dead,aR 42 4 aa p4,.box [.bool false],aR 9 1 ab x14]) (v':=iI x30) (n0:=5) (n1:=0) [] rfl rfl (aA aD) (ae) ⟨ah rfl,tqz⟩ (ak (an _ _)) ⟨.inr ⟨rfl,rfl⟩,.inr ⟨rfl,rfl⟩,.inr ⟨rfl,rfl⟩,.inr ⟨rfl,rfl⟩,.inr ⟨rfl,rfl⟩,tqz⟩ (zA1 12 (zpO rfl (aE rfl (ai Ty.k9 (c:=.str x31) rfl (zA1 13 ?_))))));exact zpP rfl (qc (aw2:=[.box [.ref 2,iI p2,iI p3],.dead,aR 42 4 aa p4,.box [.bool false],aR 9 1 ab x14]) (n0:=5) (n1:=0) [] rfl rfl (al ap) (ae) ⟨ah rfl,tqz⟩ ⟨.inr ⟨rfl,rfl⟩,.inr ⟨rfl,rfl⟩,.inr ⟨rfl,rfl⟩,.inr ⟨rfl,rfl⟩,.inr ⟨rfl,rfl⟩,tqz⟩ rfl)
      refine zpO rfl (aE rfl (ai Ty.k9 (c:=.str x31) rfl (zA1 9 (zpO rfl (ao (aw2:=[.box [.ref 2,iI p2,iI p3],.dead,aR 42 4 aa p4,.box [.bool false],aR 9 1 ab x14]) (v':=iI x30) (n0:=5) (n1:=0) [] rfl rfl (aA aD) (ae) ⟨ah rfl,tqz⟩ (ak (an _ _)) ⟨.inr ⟨rfl,rfl⟩,.inr ⟨rfl,rfl⟩,.inr ⟨rfl,rfl⟩,.inr ⟨rfl,rfl⟩,.inr ⟨rfl,rfl⟩,tqz⟩ (zA1 13 ?_))))));exact zpP rfl (qc (aw2:=[.box [.ref 2,iI p2,iI p3],.dead,aR 42 4 aa p4,.box [.bool false],aR 9 1 ab x14]) (n0:=5) (n1:=0) [] rfl rfl (al ap) (ae) ⟨ah rfl,tqz⟩ ⟨.inr ⟨rfl,rfl⟩,.inr ⟨rfl,rfl⟩,.inr ⟨rfl,rfl⟩,.inr ⟨rfl,rfl⟩,.inr ⟨rfl,rfl⟩,tqz⟩ rfl)
     ·refine zpO rfl (ao (aw2:=[.box [.ref 2,iI p2,iI p3],.dead,aR 42 4 aa p4,.box [.bool false],aR 9 1 ab x14]) (v':=iI x30) (n0:=5) (n1:=0) [] rfl rfl (aA aD) (ae) ⟨ah rfl,tqz⟩ (ak (an _ _)) ⟨.inr ⟨rfl,rfl⟩,.inr ⟨rfl,rfl⟩,.inr ⟨rfl,rfl⟩,.inr ⟨rfl,rfl⟩,.inr ⟨rfl,rfl⟩,tqz⟩ (zpl [12,13,17,18,19,20,21,22,23] 12 rfl (cy rfl (ai Ty.k9 (c:=.str x31) rfl (zA2 4 13 ?_ ?_)))))
      ·exact zpO rfl (aQ rfl rfl (ai Ty.k22 (c:=.ref 2) rfl (zA1 13 (zpP rfl (qc (aw2:=[.box [.ref 2,iI p2,iI p3],.dead,aR 42 4 aa p4,.box [.bool false],aR 9 1 ab x14]) (n0:=5) (n1:=0) [] rfl rfl (al ap) (ae) ⟨ah rfl,tqz⟩ ⟨.inr ⟨rfl,rfl⟩,.inr ⟨rfl,rfl⟩,.inr ⟨rfl,rfl⟩,.inr ⟨rfl,rfl⟩,.inr ⟨rfl,rfl⟩,tqz⟩ rfl)))))
      exact zpP rfl (qc (aw2:=[.box [.ref 2,iI p2,iI p3],.dead,aR 42 4 aa p4,.box [.bool false],aR 9 1 ab x14]) (n0:=5) (n1:=0) [] rfl rfl (al ap) (ae) ⟨ah rfl,tqz⟩ ⟨.inr ⟨rfl,rfl⟩,.inr ⟨rfl,rfl⟩,.inr ⟨rfl,rfl⟩,.inr ⟨rfl,rfl⟩,.inr ⟨rfl,rfl⟩,tqz⟩ rfl)
     refine zpO rfl (aE rfl (ai Ty.k9 (c:=.str x31) rfl (zA2 4 9 ?_ ?_)))
     ·refine zpO rfl (aQ rfl rfl (ai Ty.k22 (c:=.ref 2) rfl (zA1 9 (zpO rfl (ao (aw2:=[.box [.ref 2,iI p2,iI p3],.dead,aR 42 4 aa p4,.box [.bool false],aR 9 1 ab x14]) (v':=iI x30) (n0:=5) (n1:=0) [] rfl rfl (aA aD) (ae) ⟨ah rfl,tqz⟩ (ak (an _ _)) ⟨.inr ⟨rfl,rfl⟩,.inr ⟨rfl,rfl⟩,.inr ⟨rfl,rfl⟩,.inr ⟨rfl,rfl⟩,.inr ⟨rfl,rfl⟩,tqz⟩ (zA1 13 ?_))))));exact zpP rfl (qc (aw2:=[.box [.ref 2,iI p2,iI p3],.dead,aR 42 4 aa p4,.box [.bool false],aR 9 1 ab x14]) (n0:=5) (n1:=0) [] rfl rfl (al ap) (ae) ⟨ah rfl,tqz⟩ ⟨.inr ⟨rfl,rfl⟩,.inr ⟨rfl,rfl⟩,.inr ⟨rfl,rfl⟩,.inr ⟨rfl,rfl⟩,.inr ⟨rfl,rfl⟩,tqz⟩ rfl)
     refine zpO rfl (ao (aw2:=[.box [.ref 2,iI p2,iI p3],.dead,aR 42 4 aa p4,.box [.bool false],aR 9 1 ab x14]) (v':=iI x30) (n0:=5) (n1:=0) [] rfl rfl (aA aD) (ae) ⟨ah rfl,tqz⟩ (ak (an _ _)) ⟨.inr ⟨rfl,rfl⟩,.inr ⟨rfl,rfl⟩,.inr ⟨rfl,rfl⟩,.inr ⟨rfl,rfl⟩,.inr ⟨rfl,rfl⟩,tqz⟩ (zA2 4 13 ?_ ?_))
     ·exact zpO rfl (aQ rfl rfl (ai Ty.k22 (c:=.ref 2) rfl (zA1 13 (zpP rfl (qc (aw2:=[.box [.ref 2,iI p2,iI p3],.dead,aR 42 4 aa p4,.box [.bool false],aR 9 1 ab x14]) (n0:=5) (n1:=0) [] rfl rfl (al ap) (ae) ⟨ah rfl,tqz⟩ ⟨.inr ⟨rfl,rfl⟩,.inr ⟨rfl,rfl⟩,.inr ⟨rfl,rfl⟩,.inr ⟨rfl,rfl⟩,.inr ⟨rfl,rfl⟩,tqz⟩ rfl)))))
     exact zpP rfl (qc (aw2:=[.box [.ref 2,iI p2,iI p3],.dead,aR 42 4 aa p4,.box [.bool false],aR 9 1 ab x14]) (n0:=5) (n1:=0) [] rfl rfl (al ap) (ae) ⟨ah rfl,tqz⟩ ⟨.inr ⟨rfl,rfl⟩,.inr ⟨rfl,rfl⟩,.inr ⟨rfl,rfl⟩,.inr ⟨rfl,rfl⟩,.inr ⟨rfl,rfl⟩,tqz⟩ rfl)
    refine iz h (fun aK h=>?_) (fun x34 aK h=>?_)
    ·obtain ⟨w_45,h,hw_45⟩:=gY h;replace h:=h.trans (congrArg some (gh _ hw_45));cases h;refine T.drawnF (V:=(.iface 88 (.agg #[]))) [(6,.ptr 3 0)] (fun aw=>aw=[.box [.ref 2,iI p2,iI p3],.dead,aR 42 4 aa p4,.box [.bool false],aR 9 1 ab x14]) mixed (k:=24) rfl ?_ (fun aw h9=>by subst h9;exact ⟨rfl,[.box [.ref 2,iI p2,iI p3],.dead,aR 42 4 aa p4,.box [.bool false],aR 9 1 ab x14],Caught.of (as0:=[.ptr 0 0]) (aw0:=[.box [.any]]) (aw1:=[.box [.bool false]]) (n0:=5) (n1:=1) [3] rfl rfl (by decide) (de (cs:=[.any]) (ds:=[.bool false]) rfl ⟨fY,tqz⟩ (ae)) ⟨cQ rfl,tqz⟩ catX rfl ⟨.inr ⟨rfl,rfl⟩,.inr ⟨rfl,rfl⟩,.inr ⟨rfl,rfl⟩,.inl ⟨0,_,by decide,rfl,iW (cs:=[.bool false]) (ds:=[.bool false]) ⟨ak (cz _),tqz⟩⟩,.inr ⟨rfl,rfl⟩,tqz⟩,vN [0,1,2]⟩);refine zp0 0 rfl (bc (v:=.ptr 0 0) rfl (zp0 1 rfl (bc (v:=.ptr 0 0) rfl (zp0 2 rfl (jW rfl (zp0 3 rfl (jv Ty.f24_0 rfl (off':=0) rfl (zp0 5 rfl (bc (v:=iI s15) rfl (zp0 6 rfl (bc (v:=sL ab x2) rfl (zp0 7 rfl (aJ Ty.s32 (fun _=>rfl) rfl rfl ib (zp0 10 rfl (bc (v:=sL ab x2) rfl (zp0 11 rfl (aJ Ty.s32 (fun _=>rfl) rfl rfl fx (zp0 14 rfl (bc (v:=sL ab x2) rfl ?_)))))))))))))))))));refine zp0 15 rfl (aJ Ty.s32 (fun _=>rfl) rfl rfl ic (zpl [8,9,13,17,18,19,20,21,22,23] 8 rfl (cy rfl (ai Ty.k9 (c:=.str x29) rfl (zA4 4 9 12 16 ?_ ?_ ?_ ?_)))))
     ·refine zpO rfl (aQ rfl rfl (ai Ty.k22 (c:=.ref 2) rfl (zA3 9 12 16 ?_ ?_ ?_)))
      ·refine zpO rfl (ao (aw2:=[.box [.ref 2,iI p2,iI p3],.dead,aR 42 4 aa p4,.box [.bool false],aR 9 1 ab x14]) (v':=iI x30) (n0:=5) (n1:=0) [] rfl rfl (aA aD) (ae) ⟨ah rfl,tqz⟩ (ak (an _ _)) ⟨.inr ⟨rfl,rfl⟩,.inr ⟨rfl,rfl⟩,.inr ⟨rfl,rfl⟩,.inr ⟨rfl,rfl⟩,.inr ⟨rfl,rfl⟩,tqz⟩ (zpl [12,13,17,18,19,20,21,22,23] 12 rfl (cy rfl (ai Ty.k9 (c:=.str x31) rfl (zA2 13 16 ?_ ?_)))))
       ·refine zpO rfl (ao (aw2:=[.box [.ref 2,iI p2,iI p3],.dead,aR 42 4 aa p4,.box [.bool false],aR 9 1 ab x14]) (v':=sL aj x32) (n0:=5) (n1:=0) [] rfl rfl (al ap) (ae) ⟨ah rfl,tqz⟩ (ak (aC aM _)) ⟨.inr ⟨rfl,rfl⟩,.inr ⟨rfl,rfl⟩,.inr ⟨rfl,rfl⟩,.inr ⟨rfl,rfl⟩,.inr ⟨rfl,rfl⟩,tqz⟩ (zA1 16 (zpO rfl (aE rfl (ai Ty.k9 (c:=.str x33) rfl (zA1 17 ?_))))));exact zpP rfl (qc (aw2:=[.box [.ref 2,iI p2,iI p3],.dead,aR 42 4 aa p4,.box [.bool false],aR 9 1 ab x14]) (n0:=5) (n1:=0) [] rfl rfl (al aK) (ae) ⟨ah rfl,tqz⟩ ⟨.inr ⟨rfl,rfl⟩,.inr ⟨rfl,rfl⟩,.inr ⟨rfl,rfl⟩,.inr ⟨rfl,rfl⟩,.inr ⟨rfl,rfl⟩,tqz⟩ rfl)
       refine zpO rfl (aE rfl (ai Ty.k9 (c:=.str x33) rfl (zA1 13 (zpO rfl (ao (aw2:=[.box [.ref 2,iI p2,iI p3],.dead,aR 42 4 aa p4,.box [.bool false],aR 9 1 ab x14]) (v':=sL aj x32) (n0:=5) (n1:=0) [] rfl rfl (al ap) (ae) ⟨ah rfl,tqz⟩ (ak (aC aM _)) ⟨.inr ⟨rfl,rfl⟩,.inr ⟨rfl,rfl⟩,.inr ⟨rfl,rfl⟩,.inr ⟨rfl,rfl⟩,.inr ⟨rfl,rfl⟩,tqz⟩ (zA1 17 ?_))))));exact zpP rfl (qc (aw2:=[.box [.ref 2,iI p2,iI p3],.dead,aR 42 4 aa p4,.box [.bool false],aR 9 1 ab x14]) (n0:=5) (n1:=0) [] rfl rfl (al aK) (ae) ⟨ah rfl,tqz⟩ ⟨.inr ⟨rfl,rfl⟩,.inr ⟨rfl,rfl⟩,.inr ⟨rfl,rfl⟩,.inr ⟨rfl,rfl⟩,.inr ⟨rfl,rfl⟩,tqz⟩ rfl)
      ·refine zpO rfl (aE rfl (ai Ty.k9 (c:=.str x31) rfl (zA2 9 16 ?_ ?_)))
       ·refine zpO rfl (ao (aw2:=[.box [.ref 2,iI p2,iI p3],.dead,aR 42 4 aa p4,.box [.bool false],aR 9 1 ab x14]) (v':=iI x30) (n0:=5) (n1:=0) [] rfl rfl (aA aD) (ae) ⟨ah rfl,tqz⟩ (ak (an _ _)) ⟨.inr ⟨rfl,rfl⟩,.inr ⟨rfl,rfl⟩,.inr ⟨rfl,rfl⟩,.inr ⟨rfl,rfl⟩,.inr ⟨rfl,rfl⟩,tqz⟩ (zA2 13 16 ?_ ?_))
        ·refine zpO rfl (ao (aw2:=[.box [.ref 2,iI p2,iI p3],.dead,aR 42 4 aa p4,.box [.bool false],aR 9 1 ab x14]) (v':=sL aj x32) (n0:=5) (n1:=0) [] rfl rfl (al ap) (ae) ⟨ah rfl,tqz⟩ (ak (aC aM _)) ⟨.inr ⟨rfl,rfl⟩,.inr ⟨rfl,rfl⟩,.inr ⟨rfl,rfl⟩,.inr ⟨rfl,rfl⟩,.inr ⟨rfl,rfl⟩,tqz⟩ (zA1 16 (zpO rfl (aE rfl (ai Ty.k9 (c:=.str x33) rfl (zA1 17 ?_))))));exact zpP rfl (qc (aw2:=[.box [.ref 2,iI p2,iI p3],.dead,aR 42 4 aa p4,.box [.bool false],aR 9 1 ab x14]) (n0:=5) (n1:=0) [] rfl rfl (al aK) (ae) ⟨ah rfl,tqz⟩ ⟨.inr ⟨rfl,rfl⟩,.inr ⟨rfl,rfl⟩,.inr ⟨rfl,rfl⟩,.inr ⟨rfl,rfl⟩,.inr ⟨rfl,rfl⟩,tqz⟩ rfl)
        refine zpO rfl (aE rfl (ai Ty.k9 (c:=.str x33) rfl (zA1 13 (zpO rfl (ao (aw2:=[.box [.ref 2,iI p2,iI p3],.dead,aR 42 4 aa p4,.box [.bool false],aR 9 1 ab x14]) (v':=sL aj x32) (n0:=5) (n1:=0) [] rfl rfl (al ap) (ae) ⟨ah rfl,tqz⟩ (ak (aC aM _)) ⟨.inr ⟨rfl,rfl⟩,.inr ⟨rfl,rfl⟩,.inr ⟨rfl,rfl⟩,.inr ⟨rfl,rfl⟩,.inr ⟨rfl,rfl⟩,tqz⟩ (zA1 17 ?_))))));exact zpP rfl (qc (aw2:=[.box [.ref 2,iI p2,iI p3],.dead,aR 42 4 aa p4,.box [.bool false],aR 9 1 ab x14]) (n0:=5) (n1:=0) [] rfl rfl (al aK) (ae) ⟨ah rfl,tqz⟩ ⟨.inr ⟨rfl,rfl⟩,.inr ⟨rfl,rfl⟩,.inr ⟨rfl,rfl⟩,.inr ⟨rfl,rfl⟩,.inr ⟨rfl,rfl⟩,tqz⟩ rfl)
       refine zpO rfl (aE rfl (ai Ty.k9 (c:=.str x33) rfl (zA1 9 (zpO rfl (ao (aw2:=[.box [.ref 2,iI p2,iI p3],.dead,aR 42 4 aa p4,.box [.bool false],aR 9 1 ab x14]) (v':=iI x30) (n0:=5) (n1:=0) [] rfl rfl (aA aD) (ae) ⟨ah rfl,tqz⟩ (ak (an _ _)) ⟨.inr ⟨rfl,rfl⟩,.inr ⟨rfl,rfl⟩,.inr ⟨rfl,rfl⟩,.inr ⟨rfl,rfl⟩,.inr ⟨rfl,rfl⟩,tqz⟩ (zA1 13 (zpO rfl (ao (aw2:=[.box [.ref 2,iI p2,iI p3],.dead,aR 42 4 aa p4,.box [.bool false],aR 9 1 ab x14]) (v':=sL aj x32) (n0:=5) (n1:=0) [] rfl rfl (al ap) (ae) ⟨ah rfl,tqz⟩ (ak (aC aM _)) ⟨.inr ⟨rfl,rfl⟩,.inr ⟨rfl,rfl⟩,.inr ⟨rfl,rfl⟩,.inr ⟨rfl,rfl⟩,.inr ⟨rfl,rfl⟩,tqz⟩ (zA1 17 ?_)))))))));exact zpP rfl (qc (aw2:=[.box [.ref 2,iI p2,iI p3],.dead,aR 42 4 aa p4,.box [.bool false],aR 9 1 ab x14]) (n0:=5) (n1:=0) [] rfl rfl (al aK) (ae) ⟨ah rfl,tqz⟩ ⟨.inr ⟨rfl,rfl⟩,.inr ⟨rfl,rfl⟩,.inr ⟨rfl,rfl⟩,.inr ⟨rfl,rfl⟩,.inr ⟨rfl,rfl⟩,tqz⟩ rfl)
      refine zpO rfl (aE rfl (ai Ty.k9 (c:=.str x33) rfl (zA2 9 12 ?_ ?_)))
      ·refine zpO rfl (ao (aw2:=[.box [.ref 2,iI p2,iI p3],.dead,aR 42 4 aa p4,.box [.bool false],aR 9 1 ab x14]) (v':=iI x30) (n0:=5) (n1:=0) [] rfl rfl (aA aD) (ae) ⟨ah rfl,tqz⟩ (ak (an _ _)) ⟨.inr ⟨rfl,rfl⟩,.inr ⟨rfl,rfl⟩,.inr ⟨rfl,rfl⟩,.inr ⟨rfl,rfl⟩,.inr ⟨rfl,rfl⟩,tqz⟩ (zA1 12 (zpO rfl (aE rfl (ai Ty.k9 (c:=.str x31) rfl (zA1 13 (zpO rfl (ao (aw2:=[.box [.ref 2,iI p2,iI p3],.dead,aR 42 4 aa p4,.box [.bool false],aR 9 1 ab x14]) (v':=sL aj x32) (n0:=5) (n1:=0) [] rfl rfl (al ap) (ae) ⟨ah rfl,tqz⟩ (ak (aC aM _)) ⟨.inr ⟨rfl,rfl⟩,.inr ⟨rfl,rfl⟩,.inr ⟨rfl,rfl⟩,.inr ⟨rfl,rfl⟩,.inr ⟨rfl,rfl⟩,tqz⟩ (zA1 17 ?_)))))))));exact zpP rfl (qc (aw2:=[.box [.ref 2,iI p2,iI p3],.dead,aR 42 4 aa p4,.box [.bool false],aR 9 1 ab x14]) (n0:=5) (n1:=0) [] rfl rfl (al aK) (ae) ⟨ah rfl,tqz⟩ ⟨.inr ⟨rfl,rfl⟩,.inr ⟨rfl,rfl⟩,.inr ⟨rfl,rfl⟩,.inr ⟨rfl,rfl⟩,.inr ⟨rfl,rfl⟩,tqz⟩ rfl)
      refine zpO rfl (aE rfl (ai Ty.k9 (c:=.str x31) rfl (zA1 9 (zpO rfl (ao (aw2:=[.box [.ref 2,iI p2,iI p3],.dead,aR 42 4 aa p4,.box [.bool false],aR 9 1 ab x14]) (v':=iI x30) (n0:=5) (n1:=0) [] rfl rfl (aA aD) (ae) ⟨ah rfl,tqz⟩ (ak (an _ _)) ⟨.inr ⟨rfl,rfl⟩,.inr ⟨rfl,rfl⟩,.inr ⟨rfl,rfl⟩,.inr ⟨rfl,rfl⟩,.inr ⟨rfl,rfl⟩,tqz⟩ (zA1 13 (zpO rfl (ao (aw2:=[.box [.ref 2,iI p2,iI p3],.dead,aR 42 4 aa p4,.box [.bool false],aR 9 1 ab x14]) (v':=sL aj x32) (n0:=5) (n1:=0) [] rfl rfl (al ap) (ae) ⟨ah rfl,tqz⟩ (ak (aC aM _)) ⟨.inr ⟨rfl,rfl⟩,.inr ⟨rfl,rfl⟩,.inr ⟨rfl,rfl⟩,.inr ⟨rfl,rfl⟩,.inr ⟨rfl,rfl⟩,tqz⟩ (zA1 17 ?_)))))))));exact zpP rfl (qc (aw2:=[.box [.ref 2,iI p2,iI p3],.dead,aR 42 4 aa p4,.box [.bool false],aR 9 1 ab x14]) (n0:=5) (n1:=0) [] rfl rfl (al aK) (ae) ⟨ah rfl,tqz⟩ ⟨.inr ⟨rfl,rfl⟩,.inr ⟨rfl,rfl⟩,.inr ⟨rfl,rfl⟩,.inr ⟨rfl,rfl⟩,.inr ⟨rfl,rfl⟩,tqz⟩ rfl)
     ·refine zpO rfl (ao (aw2:=[.box [.ref 2,iI p2,iI p3],.dead,aR 42 4 aa p4,.box [.bool false],aR 9 1 ab x14]) (v':=iI x30) (n0:=5) (n1:=0) [] rfl rfl (aA aD) (ae) ⟨ah rfl,tqz⟩ (ak (an _ _)) ⟨.inr ⟨rfl,rfl⟩,.inr ⟨rfl,rfl⟩,.inr ⟨rfl,rfl⟩,.inr ⟨rfl,rfl⟩,.inr ⟨rfl,rfl⟩,tqz⟩ (zpl [12,13,17,18,19,20,21,22,23] 12 rfl (cy rfl (ai Ty.k9 (c:=.str x31) rfl (zA3 4 13 16 ?_ ?_ ?_)))))
      ·refine zpO rfl (aQ rfl rfl (ai Ty.k22 (c:=.ref 2) rfl (zA2 13 16 ?_ ?_)))
       ·refine zpO rfl (ao (aw2:=[.box [.ref 2,iI p2,iI p3],.dead,aR 42 4 aa p4,.box [.bool false],aR 9 1 ab x14]) (v':=sL aj x32) (n0:=5) (n1:=0) [] rfl rfl (al ap) (ae) ⟨ah rfl,tqz⟩ (ak (aC aM _)) ⟨.inr ⟨rfl,rfl⟩,.inr ⟨rfl,rfl⟩,.inr ⟨rfl,rfl⟩,.inr ⟨rfl,rfl⟩,.inr ⟨rfl,rfl⟩,tqz⟩ (zA1 16 (zpO rfl (aE rfl (ai Ty.k9 (c:=.str x33) rfl (zA1 17 ?_))))));exact zpP rfl (qc (aw2:=[.box [.ref 2,iI p2,iI p3],.dead,aR 42 4 aa p4,.box [.bool false],aR 9 1 ab x14]) (n0:=5) (n1:=0) [] rfl rfl (al aK) (ae) ⟨ah rfl,tqz⟩ ⟨.inr ⟨rfl,rfl⟩,.inr ⟨rfl,rfl⟩,.inr ⟨rfl,rfl⟩,.inr ⟨rfl,rfl⟩,.inr ⟨rfl,rfl⟩,tqz⟩ rfl)
       refine zpO rfl (aE rfl (ai Ty.k9 (c:=.str x33) rfl (zA1 13 (zpO rfl (ao (aw2:=[.box [.ref 2,iI p2,iI p3],.dead,aR 42 4 aa p4,.box [.bool false],aR 9 1 ab x14]) (v':=sL aj x32) (n0:=5) (n1:=0) [] rfl rfl (al ap) (ae) ⟨ah rfl,tqz⟩ (ak (aC aM _)) ⟨.inr ⟨rfl,rfl⟩,.inr ⟨rfl,rfl⟩,.inr ⟨rfl,rfl⟩,.inr ⟨rfl,rfl⟩,.inr ⟨rfl,rfl⟩,tqz⟩ (zA1 17 ?_))))));exact zpP rfl (qc (aw2:=[.box [.ref 2,iI p2,iI p3],.dead,aR 42 4 aa p4,.box [.bool false],aR 9 1 ab x14]) (n0:=5) (n1:=0) [] rfl rfl (al aK) (ae) ⟨ah rfl,tqz⟩ ⟨.inr ⟨rfl,rfl⟩,.inr ⟨rfl,rfl⟩,.inr ⟨rfl,rfl⟩,.inr ⟨rfl,rfl⟩,.inr ⟨rfl,rfl⟩,tqz⟩ rfl)
      ·refine zpO rfl (ao (aw2:=[.box [.ref 2,iI p2,iI p3],.dead,aR 42 4 aa p4,.box [.bool false],aR 9 1 ab x14]) (v':=sL aj x32) (n0:=5) (n1:=0) [] rfl rfl (al ap) (ae) ⟨ah rfl,tqz⟩ (ak (aC aM _)) ⟨.inr ⟨rfl,rfl⟩,.inr ⟨rfl,rfl⟩,.inr ⟨rfl,rfl⟩,.inr ⟨rfl,rfl⟩,.inr ⟨rfl,rfl⟩,tqz⟩ (zpl [16,17,18,19,20,21,22,23] 16 rfl (cy rfl (ai Ty.k9 (c:=.str x33) rfl (zA2 4 17 ?_ ?_)))))
       ·exact zpO rfl (aQ rfl rfl (ai Ty.k22 (c:=.ref 2) rfl (zA1 17 (zpP rfl (qc (aw2:=[.box [.ref 2,iI p2,iI p3],.dead,aR 42 4 aa p4,.box [.bool false],aR 9 1 ab x14]) (n0:=5) (n1:=0) [] rfl rfl (al aK) (ae) ⟨ah rfl,tqz⟩ ⟨.inr ⟨rfl,rfl⟩,.inr ⟨rfl,rfl⟩,.inr ⟨rfl,rfl⟩,.inr ⟨rfl,rfl⟩,.inr ⟨rfl,rfl⟩,tqz⟩ rfl)))))
       exact zpP rfl (qc (aw2:=[.box [.ref 2,iI p2,iI p3],.dead,aR 42 4 aa p4,.box [.bool false],aR 9 1 ab x14]) (n0:=5) (n1:=0) [] rfl rfl (al aK) (ae) ⟨ah rfl,tqz⟩ ⟨.inr ⟨rfl,rfl⟩,.inr ⟨rfl,rfl⟩,.inr ⟨rfl,rfl⟩,.inr ⟨rfl,rfl⟩,.inr ⟨rfl,rfl⟩,tqz⟩ rfl)
      refine zpO rfl (aE rfl (ai Ty.k9 (c:=.str x33) rfl (zA2 4 13 ?_ ?_)))
      ·refine zpO rfl (aQ rfl rfl (ai Ty.k22 (c:=.ref 2) rfl (zA1 13 (zpO rfl (ao (aw2:=[.box [.ref 2,iI p2,iI p3],.dead,aR 42 4 aa p4,.box [.bool false],aR 9 1 ab x14]) (v':=sL aj x32) (n0:=5) (n1:=0) [] rfl rfl (al ap) (ae) ⟨ah rfl,tqz⟩ (ak (aC aM _)) ⟨.inr ⟨rfl,rfl⟩,.inr ⟨rfl,rfl⟩,.inr ⟨rfl,rfl⟩,.inr ⟨rfl,rfl⟩,.inr ⟨rfl,rfl⟩,tqz⟩ (zA1 17 ?_))))));exact zpP rfl (qc (aw2:=[.box [.ref 2,iI p2,iI p3],.dead,aR 42 4 aa p4,.box [.bool false],aR 9 1 ab x14]) (n0:=5) (n1:=0) [] rfl rfl (al aK) (ae) ⟨ah rfl,tqz⟩ ⟨.inr ⟨rfl,rfl⟩,.inr ⟨rfl,rfl⟩,.inr ⟨rfl,rfl⟩,.inr ⟨rfl,rfl⟩,.inr ⟨rfl,rfl⟩,tqz⟩ rfl)
      refine zpO rfl (ao (aw2:=[.box [.ref 2,iI p2,iI p3],.dead,aR 42 4 aa p4,.box [.bool false],aR 9 1 ab x14]) (v':=sL aj x32) (n0:=5) (n1:=0) [] rfl rfl (al ap) (ae) ⟨ah rfl,tqz⟩ (ak (aC aM _)) ⟨.inr ⟨rfl,rfl⟩,.inr ⟨rfl,rfl⟩,.inr ⟨rfl,rfl⟩,.inr ⟨rfl,rfl⟩,.inr ⟨rfl,rfl⟩,tqz⟩ (zA2 4 17 ?_ ?_))
      ·exact zpO rfl (aQ rfl rfl (ai Ty.k22 (c:=.ref 2) rfl (zA1 17 (zpP rfl (qc (aw2:=[.box [.ref 2,iI p2,iI p3],.dead,aR 42 4 aa p4,.box [.bool false],aR 9 1 ab x14]) (n0:=5) (n1:=0) [] rfl rfl (al aK) (ae) ⟨ah rfl,tqz⟩ ⟨.inr ⟨rfl,rfl⟩,.inr ⟨rfl,rfl⟩,.inr ⟨rfl,rfl⟩,.inr ⟨rfl,rfl⟩,.inr ⟨rfl,rfl⟩,tqz⟩ rfl)))))
      exact zpP rfl (qc (aw2:=[.box [.ref 2,iI p2,iI p3],.dead,aR 42 4 aa p4,.box [.bool false],aR 9 1 ab x14]) (n0:=5) (n1:=0) [] rfl rfl (al aK) (ae) ⟨ah rfl,tqz⟩ ⟨.inr ⟨rfl,rfl⟩,.inr ⟨rfl,rfl⟩,.inr ⟨rfl,rfl⟩,.inr ⟨rfl,rfl⟩,.inr ⟨rfl,rfl⟩,tqz⟩ rfl)
     ·refine zpO rfl (aE rfl (ai Ty.k9 (c:=.str x31) rfl (zA3 4 9 16 ?_ ?_ ?_)))
      ·refine zpO rfl (aQ rfl rfl (ai Ty.k22 (c:=.ref 2) rfl (zA2 9 16 ?_ ?_)))
       ·refine zpO rfl (ao (aw2:=[.box [.ref 2,iI p2,iI p3],.dead,aR 42 4 aa p4,.box [.bool false],aR 9 1 ab x14]) (v':=iI x30) (n0:=5) (n1:=0) [] rfl rfl (aA aD) (ae) ⟨ah rfl,tqz⟩ (ak (an _ _)) ⟨.inr ⟨rfl,rfl⟩,.inr ⟨rfl,rfl⟩,.inr ⟨rfl,rfl⟩,.inr ⟨rfl,rfl⟩,.inr ⟨rfl,rfl⟩,tqz⟩ (zA2 13 16 ?_ ?_))
        ·refine zpO rfl (ao (aw2:=[.box [.ref 2,iI p2,iI p3],.dead,aR 42 4 aa p4,.box [.bool false],aR 9 1 ab x14]) (v':=sL aj x32) (n0:=5) (n1:=0) [] rfl rfl (al ap) (ae) ⟨ah rfl,tqz⟩ (ak (aC aM _)) ⟨.inr ⟨rfl,rfl⟩,.inr ⟨rfl,rfl⟩,.inr ⟨rfl,rfl⟩,.inr ⟨rfl,rfl⟩,.inr ⟨rfl,rfl⟩,tqz⟩ (zA1 16 (zpO rfl (aE rfl (ai Ty.k9 (c:=.str x33) rfl (zA1 17 ?_))))));exact zpP rfl (qc (aw2:=[.box [.ref 2,iI p2,iI p3],.dead,aR 42 4 aa p4,.box [.bool false],aR 9 1 ab x14]) (n0:=5) (n1:=0) [] rfl rfl (al aK) (ae) ⟨ah rfl,tqz⟩ ⟨.inr ⟨rfl,rfl⟩,.inr ⟨rfl,rfl⟩,.inr ⟨rfl,rfl⟩,.inr ⟨rfl,rfl⟩,.inr ⟨rfl,rfl⟩,tqz⟩ rfl)
        refine zpO rfl (aE rfl (ai Ty.k9 (c:=.str x33) rfl (zA1 13 (zpO rfl (ao (aw2:=[.box [.ref 2,iI p2,iI p3],.dead,aR 42 4 aa p4,.box [.bool false],aR 9 1 ab x14]) (v':=sL aj x32) (n0:=5) (n1:=0) [] rfl rfl (al ap) (ae) ⟨ah rfl,tqz⟩ (ak (aC aM _)) ⟨.inr ⟨rfl,rfl⟩,.inr ⟨rfl,rfl⟩,.inr ⟨rfl,rfl⟩,.inr ⟨rfl,rfl⟩,.inr ⟨rfl,rfl⟩,tqz⟩ (zA1 17 ?_))))));exact zpP rfl (qc (aw2:=[.box [.ref 2,iI p2,iI p3],.dead,aR 42 4 aa p4,.box [.bool false],aR 9 1 ab x14]) (n0:=5) (n1:=0) [] rfl rfl (al aK) (ae) ⟨ah rfl,tqz⟩ ⟨.inr ⟨rfl,rfl⟩,.inr ⟨rfl,rfl⟩,.inr ⟨rfl,rfl⟩,.inr ⟨rfl,rfl⟩,.inr ⟨rfl,rfl⟩,tqz⟩ rfl)
       refine zpO rfl (aE rfl (ai Ty.k9 (c:=.str x33) rfl (zA1 9 (zpO rfl (ao (aw2:=[.box [.ref 2,iI p2,iI p3],.dead,aR 42 4 aa p4,.box [.bool false],aR 9 1 ab x14]) (v':=iI x30) (n0:=5) (n1:=0) [] rfl rfl (aA aD) (ae) ⟨ah rfl,tqz⟩ (ak (an _ _)) ⟨.inr ⟨rfl,rfl⟩,.inr ⟨rfl,rfl⟩,.inr ⟨rfl,rfl⟩,.inr ⟨rfl,rfl⟩,.inr ⟨rfl,rfl⟩,tqz⟩ (zA1 13 (zpO rfl (ao (aw2:=[.box [.ref 2,iI p2,iI p3],.dead,aR 42 4 aa p4,.box [.bool false],aR 9 1 ab x14]) (v':=sL aj x32) (n0:=5) (n1:=0) [] rfl rfl (al ap) (ae) ⟨ah rfl,tqz⟩ (ak (aC aM _)) ⟨.inr ⟨rfl,rfl⟩,.inr ⟨rfl,rfl⟩,.inr ⟨rfl,rfl⟩,.inr ⟨rfl,rfl⟩,.inr ⟨rfl,rfl⟩,tqz⟩ (zA1 17 ?_)))))))));exact zpP rfl (qc (aw2:=[.box [.ref 2,iI p2,iI p3],.dead,aR 42 4 aa p4,.box [.bool false],aR 9 1 ab x14]) (n0:=5) (n1:=0) [] rfl rfl (al aK) (ae) ⟨ah rfl,tqz⟩ ⟨.inr ⟨rfl,rfl⟩,.inr ⟨rfl,rfl⟩,.inr ⟨rfl,rfl⟩,.inr ⟨rfl,rfl⟩,.inr ⟨rfl,rfl⟩,tqz⟩ rfl)
      ·refine zpO rfl (ao (aw2:=[.box [.ref 2,iI p2,iI p3],.dead,aR 42 4 aa p4,.box [.bool false],aR 9 1 ab x14]) (v':=iI x30) (n0:=5) (n1:=0) [] rfl rfl (aA aD) (ae) ⟨ah rfl,tqz⟩ (ak (an _ _)) ⟨.inr ⟨rfl,rfl⟩,.inr ⟨rfl,rfl⟩,.inr ⟨rfl,rfl⟩,.inr ⟨rfl,rfl⟩,.inr ⟨rfl,rfl⟩,tqz⟩ (zA3 4 13 16 ?_ ?_ ?_))
       ·refine zpO rfl (aQ rfl rfl (ai Ty.k22 (c:=.ref 2) rfl (zA2 13 16 ?_ ?_)))
        ·refine zpO rfl (ao (aw2:=[.box [.ref 2,iI p2,iI p3],.dead,aR 42 4 aa p4,.box [.bool false],aR 9 1 ab x14]) (v':=sL aj x32) (n0:=5) (n1:=0) [] rfl rfl (al ap) (ae) ⟨ah rfl,tqz⟩ (ak (aC aM _)) ⟨.inr ⟨rfl,rfl⟩,.inr ⟨rfl,rfl⟩,.inr ⟨rfl,rfl⟩,.inr ⟨rfl,rfl⟩,.inr ⟨rfl,rfl⟩,tqz⟩ (zA1 16 (zpO rfl (aE rfl (ai Ty.k9 (c:=.str x33) rfl (zA1 17 ?_))))));exact zpP rfl (qc (aw2:=[.box [.ref 2,iI p2,iI p3],.dead,aR 42 4 aa p4,.box [.bool false],aR 9 1 ab x14]) (n0:=5) (n1:=0) [] rfl rfl (al aK) (ae) ⟨ah rfl,tqz⟩ ⟨.inr ⟨rfl,rfl⟩,.inr ⟨rfl,rfl⟩,.inr ⟨rfl,rfl⟩,.inr ⟨rfl,rfl⟩,.inr ⟨rfl,rfl⟩,tqz⟩ rfl)
        refine zpO rfl (aE rfl (ai Ty.k9 (c:=.str x33) rfl (zA1 13 (zpO rfl (ao (aw2:=[.box [.ref 2,iI p2,iI p3],.dead,aR 42 4 aa p4,.box [.bool false],aR 9 1 ab x14]) (v':=sL aj x32) (n0:=5) (n1:=0) [] rfl rfl (al ap) (ae) ⟨ah rfl,tqz⟩ (ak (aC aM _)) ⟨.inr ⟨rfl,rfl⟩,.inr ⟨rfl,rfl⟩,.inr ⟨rfl,rfl⟩,.inr ⟨rfl,rfl⟩,.inr ⟨rfl,rfl⟩,tqz⟩ (zA1 17 ?_))))));exact zpP rfl (qc (aw2:=[.box [.ref 2,iI p2,iI p3],.dead,aR 42 4 aa p4,.box [.bool false],aR 9 1 ab x14]) (n0:=5) (n1:=0) [] rfl rfl (al aK) (ae) ⟨ah rfl,tqz⟩ ⟨.inr ⟨rfl,rfl⟩,.inr ⟨rfl,rfl⟩,.inr ⟨rfl,rfl⟩,.inr ⟨rfl,rfl⟩,.inr ⟨rfl,rfl⟩,tqz⟩ rfl)
       ·refine zpO rfl (ao (aw2:=[.box [.ref 2,iI p2,iI p3],.dead,aR 42 4 aa p4,.box [.bool false],aR 9 1 ab x14]) (v':=sL aj x32) (n0:=5) (n1:=0) [] rfl rfl (al ap) (ae) ⟨ah rfl,tqz⟩ (ak (aC aM _)) ⟨.inr ⟨rfl,rfl⟩,.inr ⟨rfl,rfl⟩,.inr ⟨rfl,rfl⟩,.inr ⟨rfl,rfl⟩,.inr ⟨rfl,rfl⟩,tqz⟩ (zpl [16,17,18,19,20,21,22,23] 16 rfl (cy rfl (ai Ty.k9 (c:=.str x33) rfl (zA2 4 17 ?_ ?_)))))
        ·exact zpO rfl (aQ rfl rfl (ai Ty.k22 (c:=.ref 2) rfl (zA1 17 (zpP rfl (qc (aw2:=[.box [.ref 2,iI p2,iI p3],.dead,aR 42 4 aa p4,.box [.bool false],aR 9 1 ab x14]) (n0:=5) (n1:=0) [] rfl rfl (al aK) (ae) ⟨ah rfl,tqz⟩ ⟨.inr ⟨rfl,rfl⟩,.inr ⟨rfl,rfl⟩,.inr ⟨rfl,rfl⟩,.inr ⟨rfl,rfl⟩,.inr ⟨rfl,rfl⟩,tqz⟩ rfl)))))
        exact zpP rfl (qc (aw2:=[.box [.ref 2,iI p2,iI p3],.dead,aR 42 4 aa p4,.box [.bool false],aR 9 1 ab x14]) (n0:=5) (n1:=0) [] rfl rfl (al aK) (ae) ⟨ah rfl,tqz⟩ ⟨.inr ⟨rfl,rfl⟩,.inr ⟨rfl,rfl⟩,.inr ⟨rfl,rfl⟩,.inr ⟨rfl,rfl⟩,.inr ⟨rfl,rfl⟩,tqz⟩ rfl)
       refine zpO rfl (aE rfl (ai Ty.k9 (c:=.str x33) rfl (zA2 4 13 ?_ ?_)))
       ·refine zpO rfl (aQ rfl rfl (ai Ty.k22 (c:=.ref 2) rfl (zA1 13 (zpO rfl (ao (aw2:=[.box [.ref 2,iI p2,iI p3],.dead,aR 42 4 aa p4,.box [.bool false],aR 9 1 ab x14]) (v':=sL aj x32) (n0:=5) (n1:=0) [] rfl rfl (al ap) (ae) ⟨ah rfl,tqz⟩ (ak (aC aM _)) ⟨.inr ⟨rfl,rfl⟩,.inr ⟨rfl,rfl⟩,.inr ⟨rfl,rfl⟩,.inr ⟨rfl,rfl⟩,.inr ⟨rfl,rfl⟩,tqz⟩ (zA1 17 ?_))))));exact zpP rfl (qc (aw2:=[.box [.ref 2,iI p2,iI p3],.dead,aR 42 4 aa p4,.box [.bool false],aR 9 1 ab x14]) (n0:=5) (n1:=0) [] rfl rfl (al aK) (ae) ⟨ah rfl,tqz⟩ ⟨.inr ⟨rfl,rfl⟩,.inr ⟨rfl,rfl⟩,.inr ⟨rfl,rfl⟩,.inr ⟨rfl,rfl⟩,.inr ⟨rfl,rfl⟩,tqz⟩ rfl)
       refine zpO rfl (ao (aw2:=[.box [.ref 2,iI p2,iI p3],.dead,aR 42 4 aa p4,.box [.bool false],aR 9 1 ab x14]) (v':=sL aj x32) (n0:=5) (n1:=0) [] rfl rfl (al ap) (ae) ⟨ah rfl,tqz⟩ (ak (aC aM _)) ⟨.inr ⟨rfl,rfl⟩,.inr ⟨rfl,rfl⟩,.inr ⟨rfl,rfl⟩,.inr ⟨rfl,rfl⟩,.inr ⟨rfl,rfl⟩,tqz⟩ (zA2 4 17 ?_ ?_))
       ·exact zpO rfl (aQ rfl rfl (ai Ty.k22 (c:=.ref 2) rfl (zA1 17 (zpP rfl (qc (aw2:=[.box [.ref 2,iI p2,iI p3],.dead,aR 42 4 aa p4,.box [.bool false],aR 9 1 ab x14]) (n0:=5) (n1:=0) [] rfl rfl (al aK) (ae) ⟨ah rfl,tqz⟩ ⟨.inr ⟨rfl,rfl⟩,.inr ⟨rfl,rfl⟩,.inr ⟨rfl,rfl⟩,.inr ⟨rfl,rfl⟩,.inr ⟨rfl,rfl⟩,tqz⟩ rfl)))))
       exact zpP rfl (qc (aw2:=[.box [.ref 2,iI p2,iI p3],.dead,aR 42 4 aa p4,.box [.bool false],aR 9 1 ab x14]) (n0:=5) (n1:=0) [] rfl rfl (al aK) (ae) ⟨ah rfl,tqz⟩ ⟨.inr ⟨rfl,rfl⟩,.inr ⟨rfl,rfl⟩,.inr ⟨rfl,rfl⟩,.inr ⟨rfl,rfl⟩,.inr ⟨rfl,rfl⟩,tqz⟩ rfl)
      refine zpO rfl (aE rfl (ai Ty.k9 (c:=.str x33) rfl (zA2 4 9 ?_ ?_)))
      ·refine zpO rfl (aQ rfl rfl (ai Ty.k22 (c:=.ref 2) rfl (zA1 9 (zpO rfl (ao (aw2:=[.box [.ref 2,iI p2,iI p3],.dead,aR 42 4 aa p4,.box [.bool false],aR 9 1 ab x14]) (v':=iI x30) (n0:=5) (n1:=0) [] rfl rfl (aA aD) (ae) ⟨ah rfl,tqz⟩ (ak (an _ _)) ⟨.inr ⟨rfl,rfl⟩,.inr ⟨rfl,rfl⟩,.inr ⟨rfl,rfl⟩,.inr ⟨rfl,rfl⟩,.inr ⟨rfl,rfl⟩,tqz⟩ (zA1 13 (zpO rfl (ao (aw2:=[.box [.ref 2,iI p2,iI p3],.dead,aR 42 4 aa p4,.box [.bool false],aR 9 1 ab x14]) (v':=sL aj x32) (n0:=5) (n1:=0) [] rfl rfl (al ap) (ae) ⟨ah rfl,tqz⟩ (ak (aC aM _)) ⟨.inr ⟨rfl,rfl⟩,.inr ⟨rfl,rfl⟩,.inr ⟨rfl,rfl⟩,.inr ⟨rfl,rfl⟩,.inr ⟨rfl,rfl⟩,tqz⟩ (zA1 17 ?_)))))))));exact zpP rfl (qc (aw2:=[.box [.ref 2,iI p2,iI p3],.dead,aR 42 4 aa p4,.box [.bool false],aR 9 1 ab x14]) (n0:=5) (n1:=0) [] rfl rfl (al aK) (ae) ⟨ah rfl,tqz⟩ ⟨.inr ⟨rfl,rfl⟩,.inr ⟨rfl,rfl⟩,.inr ⟨rfl,rfl⟩,.inr ⟨rfl,rfl⟩,.inr ⟨rfl,rfl⟩,tqz⟩ rfl)
      refine zpO rfl (ao (aw2:=[.box [.ref 2,iI p2,iI p3],.dead,aR 42 4 aa p4,.box [.bool false],aR 9 1 ab x14]) (v':=iI x30) (n0:=5) (n1:=0) [] rfl rfl (aA aD) (ae) ⟨ah rfl,tqz⟩ (ak (an _ _)) ⟨.inr ⟨rfl,rfl⟩,.inr ⟨rfl,rfl⟩,.inr ⟨rfl,rfl⟩,.inr ⟨rfl,rfl⟩,.inr ⟨rfl,rfl⟩,tqz⟩ (zA2 4 13 ?_ ?_))
      ·refine zpO rfl (aQ rfl rfl (ai Ty.k22 (c:=.ref 2) rfl (zA1 13 (zpO rfl (ao (aw2:=[.box [.ref 2,iI p2,iI p3],.dead,aR 42 4 aa p4,.box [.bool false],aR 9 1 ab x14]) (v':=sL aj x32) (n0:=5) (n1:=0) [] rfl rfl (al ap) (ae) ⟨ah rfl,tqz⟩ (ak (aC aM _)) ⟨.inr ⟨rfl,rfl⟩,.inr ⟨rfl,rfl⟩,.inr ⟨rfl,rfl⟩,.inr ⟨rfl,rfl⟩,.inr ⟨rfl,rfl⟩,tqz⟩ (zA1 17 ?_))))));exact zpP rfl (qc (aw2:=[.box [.ref 2,iI p2,iI p3],.dead,aR 42 4 aa p4,.box [.bool false],aR 9 1 ab x14]) (n0:=5) (n1:=0) [] rfl rfl (al aK) (ae) ⟨ah rfl,tqz⟩ ⟨.inr ⟨rfl,rfl⟩,.inr ⟨rfl,rfl⟩,.inr ⟨rfl,rfl⟩,.inr ⟨rfl,rfl⟩,.inr ⟨rfl,rfl⟩,tqz⟩ rfl)
      refine zpO rfl (ao (aw2:=[.box [.ref 2,iI p2,iI p3],.dead,aR 42 4 aa p4,.box [.bool false],aR 9 1 ab x14]) (v':=sL aj x32) (n0:=5) (n1:=0) [] rfl rfl (al ap) (ae) ⟨ah rfl,tqz⟩ (ak (aC aM _)) ⟨.inr ⟨rfl,rfl⟩,.inr ⟨rfl,rfl⟩,.inr ⟨rfl,rfl⟩,.inr ⟨rfl,rfl⟩,.inr ⟨rfl,rfl⟩,tqz⟩ (zA2 4 17 ?_ ?_))
      ·exact zpO rfl (aQ rfl rfl (ai Ty.k22 (c:=.ref 2) rfl (zA1 17 (zpP rfl (qc (aw2:=[.box [.ref 2,iI p2,iI p3],.dead,aR 42 4 aa p4,.box [.bool false],aR 9 1 ab x14]) (n0:=5) (n1:=0) [] rfl rfl (al aK) (ae) ⟨ah rfl,tqz⟩ ⟨.inr ⟨rfl,rfl⟩,.inr ⟨rfl,rfl⟩,.inr ⟨rfl,rfl⟩,.inr ⟨rfl,rfl⟩,.inr ⟨rfl,rfl⟩,tqz⟩ rfl)))))
      exact zpP rfl (qc (aw2:=[.box [.ref 2,iI p2,iI p3],.dead,aR 42 4 aa p4,.box [.bool false],aR 9 1 ab x14]) (n0:=5) (n1:=0) [] rfl rfl (al aK) (ae) ⟨ah rfl,tqz⟩ ⟨.inr ⟨rfl,rfl⟩,.inr ⟨rfl,rfl⟩,.inr ⟨rfl,rfl⟩,.inr ⟨rfl,rfl⟩,.inr ⟨rfl,rfl⟩,tqz⟩ rfl)
     refine zpO rfl (aE rfl (ai Ty.k9 (c:=.str x33) rfl (zA3 4 9 12 ?_ ?_ ?_)))
     ·refine zpO rfl (aQ rfl rfl (ai Ty.k22 (c:=.ref 2) rfl (zA2 9 12 ?_ ?_)))
      ·refine zpO rfl (ao (aw2:=[.box [.ref 2,iI p2,iI p3],.dead,aR 42 4 aa p4,.box [.bool false],aR 9 1 ab x14]) (v':=iI x30) (n0:=5) (n1:=0) [] rfl rfl (aA aD) (ae) ⟨ah rfl,tqz⟩ (ak (an _ _)) ⟨.inr ⟨rfl,rfl⟩,.inr ⟨rfl,rfl⟩,.inr ⟨rfl,rfl⟩,.inr ⟨rfl,rfl⟩,.inr ⟨rfl,rfl⟩,tqz⟩ (zA1 12 (zpO rfl (aE rfl (ai Ty.k9 (c:=.str x31) rfl (zA1 13 (zpO rfl (ao (aw2:=[.box [.ref 2,iI p2,iI p3],.dead,aR 42 4 aa p4,.box [.bool false],aR 9 1 ab x14]) (v':=sL aj x32) (n0:=5) (n1:=0) [] rfl rfl (al ap) (ae) ⟨ah rfl,tqz⟩ (ak (aC aM _)) ⟨.inr ⟨rfl,rfl⟩,.inr ⟨rfl,rfl⟩,.inr ⟨rfl,rfl⟩,.inr ⟨rfl,rfl⟩,.inr ⟨rfl,rfl⟩,tqz⟩ (zA1 17 ?_)))))))));exact zpP rfl (qc (aw2:=[.box [.ref 2,iI p2,iI p3],.dead,aR 42 4 aa p4,.box [.bool false],aR 9 1 ab x14]) (n0:=5) (n1:=0) [] rfl rfl (al aK) (ae) ⟨ah rfl,tqz⟩ ⟨.inr ⟨rfl,rfl⟩,.inr ⟨rfl,rfl⟩,.inr ⟨rfl,rfl⟩,.inr ⟨rfl,rfl⟩,.inr ⟨rfl,rfl⟩,tqz⟩ rfl)
      refine zpO rfl (aE rfl (ai Ty.k9 (c:=.str x31) rfl (zA1 9 (zpO rfl (ao (aw2:=[.box [.ref 2,iI p2,iI p3],.dead,aR 42 4 aa p4,.box [.bool false],aR 9 1 ab x14]) (v':=iI x30) (n0:=5) (n1:=0) [] rfl rfl (aA aD) (ae) ⟨ah rfl,tqz⟩ (ak (an _ _)) ⟨.inr ⟨rfl,rfl⟩,.inr ⟨rfl,rfl⟩,.inr ⟨rfl,rfl⟩,.inr ⟨rfl,rfl⟩,.inr ⟨rfl,rfl⟩,tqz⟩ (zA1 13 (zpO rfl (ao (aw2:=[.box [.ref 2,iI p2,iI p3],.dead,aR 42 4 aa p4,.box [.bool false],aR 9 1 ab x14]) (v':=sL aj x32) (n0:=5) (n1:=0) [] rfl rfl (al ap) (ae) ⟨ah rfl,tqz⟩ (ak (aC aM _)) ⟨.inr ⟨rfl,rfl⟩,.inr ⟨rfl,rfl⟩,.inr ⟨rfl,rfl⟩,.inr ⟨rfl,rfl⟩,.inr ⟨rfl,rfl⟩,tqz⟩ (zA1 17 ?_)))))))));exact zpP rfl (qc (aw2:=[.box [.ref 2,iI p2,iI p3],.dead,aR 42 4 aa p4,.box [.bool false],aR 9 1 ab x14]) (n0:=5) (n1:=0) [] rfl rfl (al aK) (ae) ⟨ah rfl,tqz⟩ ⟨.inr ⟨rfl,rfl⟩,.inr ⟨rfl,rfl⟩,.inr ⟨rfl,rfl⟩,.inr ⟨rfl,rfl⟩,.inr ⟨rfl,rfl⟩,tqz⟩ rfl)
     ·refine zpO rfl (ao (aw2:=[.box [.ref 2,iI p2,iI p3],.dead,aR 42 4 aa p4,.box [.bool false],aR 9 1 ab x14]) (v':=iI x30) (n0:=5) (n1:=0) [] rfl rfl (aA aD) (ae) ⟨ah rfl,tqz⟩ (ak (an _ _)) ⟨.inr ⟨rfl,rfl⟩,.inr ⟨rfl,rfl⟩,.inr ⟨rfl,rfl⟩,.inr ⟨rfl,rfl⟩,.inr ⟨rfl,rfl⟩,tqz⟩ (zpl [12,13,17,18,19,20,21,22,23] 12 rfl (cy rfl (ai Ty.k9 (c:=.str x31) rfl (zA2 4 13 ?_ ?_)))))
      ·refine zpO rfl (aQ rfl rfl (ai Ty.k22 (c:=.ref 2) rfl (zA1 13 (zpO rfl (ao (aw2:=[.box [.ref 2,iI p2,iI p3],.dead,aR 42 4 aa p4,.box [.bool false],aR 9 1 ab x14]) (v':=sL aj x32) (n0:=5) (n1:=0) [] rfl rfl (al ap) (ae) ⟨ah rfl,tqz⟩ (ak (aC aM _)) ⟨.inr ⟨rfl,rfl⟩,.inr ⟨rfl,rfl⟩,.inr ⟨rfl,rfl⟩,.inr ⟨rfl,rfl⟩,.inr ⟨rfl,rfl⟩,tqz⟩ (zA1 17 ?_))))));exact zpP rfl (qc (aw2:=[.box [.ref 2,iI p2,iI p3],.dead,aR 42 4 aa p4,.box [.bool false],aR 9 1 ab x14]) (n0:=5) (n1:=0) [] rfl rfl (al aK) (ae) ⟨ah rfl,tqz⟩ ⟨.inr ⟨rfl,rfl⟩,.inr ⟨rfl,rfl⟩,.inr ⟨rfl,rfl⟩,.inr ⟨rfl,rfl⟩,.inr ⟨rfl,rfl⟩,tqz⟩ rfl)
      refine zpO rfl (ao (aw2:=[.box [.ref 2,iI p2,iI p3],.dead,aR 42 4 aa p4,.box [.bool false],aR 9 1 ab x14]) (v':=sL aj x32) (n0:=5) (n1:=0) [] rfl rfl (al ap) (ae) ⟨ah rfl,tqz⟩ (ak (aC aM _)) ⟨.inr ⟨rfl,rfl⟩,.inr ⟨rfl,rfl⟩,.inr ⟨rfl,rfl⟩,.inr ⟨rfl,rfl⟩,.inr ⟨rfl,rfl⟩,tqz⟩ (zA2 4 17 ?_ ?_))
      ·exact zpO rfl (aQ rfl rfl (ai Ty.k22 (c:=.ref 2) rfl (zA1 17 (zpP rfl (qc (aw2:=[.box [.ref 2,iI p2,iI p3],.dead,aR 42 4 aa p4,.box [.bool false],aR 9 1 ab x14]) (n0:=5) (n1:=0) [] rfl rfl (al aK) (ae) ⟨ah rfl,tqz⟩ ⟨.inr ⟨rfl,rfl⟩,.inr ⟨rfl,rfl⟩,.inr ⟨rfl,rfl⟩,.inr ⟨rfl,rfl⟩,.inr ⟨rfl,rfl⟩,tqz⟩ rfl)))))
      exact zpP rfl (qc (aw2:=[.box [.ref 2,iI p2,iI p3],.dead,aR 42 4 aa p4,.box [.bool false],aR 9 1 ab x14]) (n0:=5) (n1:=0) [] rfl rfl (al aK) (ae) ⟨ah rfl,tqz⟩ ⟨.inr ⟨rfl,rfl⟩,.inr ⟨rfl,rfl⟩,.inr ⟨rfl,rfl⟩,.inr ⟨rfl,rfl⟩,.inr ⟨rfl,rfl⟩,tqz⟩ rfl)
     refine zpO rfl (aE rfl (ai Ty.k9 (c:=.str x31) rfl (zA2 4 9 ?_ ?_)))
     ·refine zpO rfl (aQ rfl rfl (ai Ty.k22 (c:=.ref 2) rfl (zA1 9 (zpO rfl (ao (aw2:=[.box [.ref 2,iI p2,iI p3],.dead,aR 42 4 aa p4,.box [.bool false],aR 9 1 ab x14]) (v':=iI x30) (n0:=5) (n1:=0) [] rfl rfl (aA aD) (ae) ⟨ah rfl,tqz⟩ (ak (an _ _)) ⟨.inr ⟨rfl,rfl⟩,.inr ⟨rfl,rfl⟩,.inr ⟨rfl,rfl⟩,.inr ⟨rfl,rfl⟩,.inr ⟨rfl,rfl⟩,tqz⟩ (zA1 13 (zpO rfl (ao (aw2:=[.box [.ref 2,iI p2,iI p3],.dead,aR 42 4 aa p4,.box [.bool false],aR 9 1 ab x14]) (v':=sL aj x32) (n0:=5) (n1:=0) [] rfl rfl (al ap) (ae) ⟨ah rfl,tqz⟩ (ak (aC aM _)) ⟨.inr ⟨rfl,rfl⟩,.inr ⟨rfl,rfl⟩,.inr ⟨rfl,rfl⟩,.inr ⟨rfl,rfl⟩,.inr ⟨rfl,rfl⟩,tqz⟩ (zA1 17 ?_)))))))));exact zpP rfl (qc (aw2:=[.box [.ref 2,iI p2,iI p3],.dead,aR 42 4 aa p4,.box [.bool false],aR 9 1 ab x14]) (n0:=5) (n1:=0) [] rfl rfl (al aK) (ae) ⟨ah rfl,tqz⟩ ⟨.inr ⟨rfl,rfl⟩,.inr ⟨rfl,rfl⟩,.inr ⟨rfl,rfl⟩,.inr ⟨rfl,rfl⟩,.inr ⟨rfl,rfl⟩,tqz⟩ rfl)
     refine zpO rfl (ao (aw2:=[.box [.ref 2,iI p2,iI p3],.dead,aR 42 4 aa p4,.box [.bool false],aR 9 1 ab x14]) (v':=iI x30) (n0:=5) (n1:=0) [] rfl rfl (aA aD) (ae) ⟨ah rfl,tqz⟩ (ak (an _ _)) ⟨.inr ⟨rfl,rfl⟩,.inr ⟨rfl,rfl⟩,.inr ⟨rfl,rfl⟩,.inr ⟨rfl,rfl⟩,.inr ⟨rfl,rfl⟩,tqz⟩ (zA2 4 13 ?_ ?_))
     ·refine zpO rfl (aQ rfl rfl (ai Ty.k22 (c:=.ref 2) rfl (zA1 13 (zpO rfl (ao (aw2:=[.box [.ref 2,iI p2,iI p3],.dead,aR 42 4 aa p4,.box [.bool false],aR 9 1 ab x14]) (v':=sL aj x32) (n0:=5) (n1:=0) [] rfl rfl (al ap) (ae) ⟨ah rfl,tqz⟩ (ak (aC aM _)) ⟨.inr ⟨rfl,rfl⟩,.inr ⟨rfl,rfl⟩,.inr ⟨rfl,rfl⟩,.inr ⟨rfl,rfl⟩,.inr ⟨rfl,rfl⟩,tqz⟩ (zA1 17 ?_))))));exact zpP rfl (qc (aw2:=[.box [.ref 2,iI p2,iI p3],.dead,aR 42 4 aa p4,.box [.bool false],aR 9 1 ab x14]) (n0:=5) (n1:=0) [] rfl rfl (al aK) (ae) ⟨ah rfl,tqz⟩ ⟨.inr ⟨rfl,rfl⟩,.inr ⟨rfl,rfl⟩,.inr ⟨rfl,rfl⟩,.inr ⟨rfl,rfl⟩,.inr ⟨rfl,rfl⟩,tqz⟩ rfl)
     refine zpO rfl (ao (aw2:=[.box [.ref 2,iI p2,iI p3],.dead,aR 42 4 aa p4,.box [.bool false],aR 9 1 ab x14]) (v':=sL aj x32) (n0:=5) (n1:=0) [] rfl rfl (al ap) (ae) ⟨ah rfl,tqz⟩ (ak (aC aM _)) ⟨.inr ⟨rfl,rfl⟩,.inr ⟨rfl,rfl⟩,.inr ⟨rfl,rfl⟩,.inr ⟨rfl,rfl⟩,.inr ⟨rfl,rfl⟩,tqz⟩ (zA2 4 17 ?_ ?_))
     ·exact zpO rfl (aQ rfl rfl (ai Ty.k22 (c:=.ref 2) rfl (zA1 17 (zpP rfl (qc (aw2:=[.box [.ref 2,iI p2,iI p3],.dead,aR 42 4 aa p4,.box [.bool false],aR 9 1 ab x14]) (n0:=5) (n1:=0) [] rfl rfl (al aK) (ae) ⟨ah rfl,tqz⟩ ⟨.inr ⟨rfl,rfl⟩,.inr ⟨rfl,rfl⟩,.inr ⟨rfl,rfl⟩,.inr ⟨rfl,rfl⟩,.inr ⟨rfl,rfl⟩,tqz⟩ rfl)))))
     exact zpP rfl (qc (aw2:=[.box [.ref 2,iI p2,iI p3],.dead,aR 42 4 aa p4,.box [.bool false],aR 9 1 ab x14]) (n0:=5) (n1:=0) [] rfl rfl (al aK) (ae) ⟨ah rfl,tqz⟩ ⟨.inr ⟨rfl,rfl⟩,.inr ⟨rfl,rfl⟩,.inr ⟨rfl,rfl⟩,.inr ⟨rfl,rfl⟩,.inr ⟨rfl,rfl⟩,tqz⟩ rfl)
    obtain ⟨x35,jk,h⟩:=bind_some h;refine T.drawn mixed (k:=24) rfl ?_;apply RA.jn 5 (bm 24 524287);intro rd;apply RA.jn 7 (bm 24 131071);intro mz;apply RA.jn 8 (bm 24 122879);intro kK;apply RA.jn 8 (bm 24 131055);intro re;apply RA.jn 9 (bm 24 122863);intro mA;apply RA.jn 9 (bm 24 122367);intro mB;apply RA.jn 9 (bm 24 57343);intro mC;apply RA.jn 10 (bm 24 57327);intro rf;apply RA.jn 10 (bm 24 118271);intro rg;apply RA.jn 10 (bm 24 122351);intro rh;apply RA.jn 10 (bm 24 56831);intro ri
    ·refine rq [0,1,2,3,5,6] 18 (r0 7 rfl (aJ Ty.s32 (fun _=>rfl) rfl rfl ib (rq [10] 16 (r0 11 rfl (aJ Ty.s32 (fun _=>rfl) rfl rfl fx (rq [14] 14 (r0 15 rfl (aJ Ty.s32 (fun _=>rfl) rfl rfl ic (rL [8,9,13,17,18,19,20,21,22,23] 8 rfl (ra4 4 9 12 16 ?_ ?_ ?_ ?_))))))))))
     ·refine og 5 ⟨rfl,(ra3 9 12 16 ?_ ?_ ?_)⟩
      ·refine oO rfl (ao (aw2:=[.box [.ref 2,iI p2,iI p3],.dead,aR 42 4 aa p4,.box [.bool false],aR 9 1 ab x14]) (v':=iI x30) (n0:=5) (n1:=0) [] rfl rfl (aA aD) (ae) ⟨ah rfl,tqz⟩ (ak (an _ _)) ⟨.inr ⟨rfl,rfl⟩,.inr ⟨rfl,rfl⟩,.inr ⟨rfl,rfl⟩,.inr ⟨rfl,rfl⟩,.inr ⟨rfl,rfl⟩,tqz⟩ (rL [12,13,17,18,19,20,21,22,23] 12 rfl ?_));exact raE mC
      ·exact og 5 ⟨rfl,(raE ri)⟩
      ·exact og 5 ⟨rfl,(raE rg)⟩
     ·refine oO rfl (ao (aw2:=[.box [.ref 2,iI p2,iI p3],.dead,aR 42 4 aa p4,.box [.bool false],aR 9 1 ab x14]) (v':=iI x30) (n0:=5) (n1:=0) [] rfl rfl (aA aD) (ae) ⟨ah rfl,tqz⟩ (ak (an _ _)) ⟨.inr ⟨rfl,rfl⟩,.inr ⟨rfl,rfl⟩,.inr ⟨rfl,rfl⟩,.inr ⟨rfl,rfl⟩,.inr ⟨rfl,rfl⟩,tqz⟩ (rL [12,13,17,18,19,20,21,22,23] 12 rfl ?_));exact raE rf
     ·refine og 5 ⟨rfl,(ra3 4 9 16 ?_ ?_ ?_)⟩
      ·exact og 5 ⟨rfl,(raT ri)⟩
      ·exact oO rfl (ao (aw2:=[.box [.ref 2,iI p2,iI p3],.dead,aR 42 4 aa p4,.box [.bool false],aR 9 1 ab x14]) (v':=iI x30) (n0:=5) (n1:=0) [] rfl rfl (aA aD) (ae) ⟨ah rfl,tqz⟩ (ak (an _ _)) ⟨.inr ⟨rfl,rfl⟩,.inr ⟨rfl,rfl⟩,.inr ⟨rfl,rfl⟩,.inr ⟨rfl,rfl⟩,.inr ⟨rfl,rfl⟩,tqz⟩ (raT rf))
      ·exact og 5 ⟨rfl,(raE rh)⟩
     ·refine og 5 ⟨rfl,(ra3 4 9 12 ?_ ?_ ?_)⟩
      ·exact og 5 ⟨rfl,(raT rg)⟩
      ·refine oO rfl (ao (aw2:=[.box [.ref 2,iI p2,iI p3],.dead,aR 42 4 aa p4,.box [.bool false],aR 9 1 ab x14]) (v':=iI x30) (n0:=5) (n1:=0) [] rfl rfl (aA aD) (ae) ⟨ah rfl,tqz⟩ (ak (an _ _)) ⟨.inr ⟨rfl,rfl⟩,.inr ⟨rfl,rfl⟩,.inr ⟨rfl,rfl⟩,.inr ⟨rfl,rfl⟩,.inr ⟨rfl,rfl⟩,tqz⟩ (rL [12,13,17,18,19,20,21,22,23] 12 rfl ?_));exact raE mA
      ·exact og 5 ⟨rfl,(raT rh)⟩
    ·refine ra2 9 16 ?_ ?_
     ·exact oO rfl (ao (aw2:=[.box [.ref 2,iI p2,iI p3],.dead,aR 42 4 aa p4,.box [.bool false],aR 9 1 ab x14]) (v':=iI x30) (n0:=5) (n1:=0) [] rfl rfl (aA aD) (ae) ⟨ah rfl,tqz⟩ (ak (an _ _)) ⟨.inr ⟨rfl,rfl⟩,.inr ⟨rfl,rfl⟩,.inr ⟨rfl,rfl⟩,.inr ⟨rfl,rfl⟩,.inr ⟨rfl,rfl⟩,tqz⟩ (raT mC))
     ·exact og 5 ⟨rfl,(raE mB)⟩
    ·refine ra2 4 9 ?_ ?_
     ·exact og 5 ⟨rfl,(raT mB)⟩
     ·exact oO rfl (ao (aw2:=[.box [.ref 2,iI p2,iI p3],.dead,aR 42 4 aa p4,.box [.bool false],aR 9 1 ab x14]) (v':=iI x30) (n0:=5) (n1:=0) [] rfl rfl (aA aD) (ae) ⟨ah rfl,tqz⟩ (ak (an _ _)) ⟨.inr ⟨rfl,rfl⟩,.inr ⟨rfl,rfl⟩,.inr ⟨rfl,rfl⟩,.inr ⟨rfl,rfl⟩,.inr ⟨rfl,rfl⟩,tqz⟩ (raT mA))
    ·refine ra2 9 12 ?_ ?_
     ·exact oO rfl (ao (aw2:=[.box [.ref 2,iI p2,iI p3],.dead,aR 42 4 aa p4,.box [.bool false],aR 9 1 ab x14]) (v':=iI x30) (n0:=5) (n1:=0) [] rfl rfl (aA aD) (ae) ⟨ah rfl,tqz⟩ (ak (an _ _)) ⟨.inr ⟨rfl,rfl⟩,.inr ⟨rfl,rfl⟩,.inr ⟨rfl,rfl⟩,.inr ⟨rfl,rfl⟩,.inr ⟨rfl,rfl⟩,tqz⟩ (ra1 12 (og 5 ⟨rfl,(raE kK)⟩)))
     ·exact og 5 ⟨rfl,(raT mB)⟩
    ·refine ra3 4 13 16 ?_ ?_ ?_
     ·exact og 5 ⟨rfl,(raT mC)⟩
     ·refine oO rfl (ao (aw2:=[.box [.ref 2,iI p2,iI p3],.dead,aR 42 4 aa p4,.box [.bool false],aR 9 1 ab x14]) (v':=sL aj x32) (n0:=5) (n1:=0) [] rfl rfl (al ap) (ae) ⟨ah rfl,tqz⟩ (ak (aC aM _)) ⟨.inr ⟨rfl,rfl⟩,.inr ⟨rfl,rfl⟩,.inr ⟨rfl,rfl⟩,.inr ⟨rfl,rfl⟩,.inr ⟨rfl,rfl⟩,tqz⟩ (rL [16,17,18,19,20,21,22,23] 16 rfl ?_));exact raE re
     ·exact og 5 ⟨rfl,(raT mA)⟩
    ·refine ra2 13 16 ?_ ?_
     ·exact oO rfl (ao (aw2:=[.box [.ref 2,iI p2,iI p3],.dead,aR 42 4 aa p4,.box [.bool false],aR 9 1 ab x14]) (v':=sL aj x32) (n0:=5) (n1:=0) [] rfl rfl (al ap) (ae) ⟨ah rfl,tqz⟩ (ak (aC aM _)) ⟨.inr ⟨rfl,rfl⟩,.inr ⟨rfl,rfl⟩,.inr ⟨rfl,rfl⟩,.inr ⟨rfl,rfl⟩,.inr ⟨rfl,rfl⟩,tqz⟩ (ra1 16 (og 5 ⟨rfl,(raE mz)⟩)))
     ·exact og 5 ⟨rfl,(raT kK)⟩
    ·exact ra1 9 (oO rfl (ao (aw2:=[.box [.ref 2,iI p2,iI p3],.dead,aR 42 4 aa p4,.box [.bool false],aR 9 1 ab x14]) (v':=iI x30) (n0:=5) (n1:=0) [] rfl rfl (aA aD) (ae) ⟨ah rfl,tqz⟩ (ak (an _ _)) ⟨.inr ⟨rfl,rfl⟩,.inr ⟨rfl,rfl⟩,.inr ⟨rfl,rfl⟩,.inr ⟨rfl,rfl⟩,.inr ⟨rfl,rfl⟩,tqz⟩ (raT kK)))
    ·refine ra2 4 13 ?_ ?_
     ·exact og 5 ⟨rfl,(raT kK)⟩
     ·exact oO rfl (ao (aw2:=[.box [.ref 2,iI p2,iI p3],.dead,aR 42 4 aa p4,.box [.bool false],aR 9 1 ab x14]) (v':=sL aj x32) (n0:=5) (n1:=0) [] rfl rfl (al ap) (ae) ⟨ah rfl,tqz⟩ (ak (aC aM _)) ⟨.inr ⟨rfl,rfl⟩,.inr ⟨rfl,rfl⟩,.inr ⟨rfl,rfl⟩,.inr ⟨rfl,rfl⟩,.inr ⟨rfl,rfl⟩,tqz⟩ (raT re))
    ·refine ra2 4 17 ?_ ?_
     ·exact og 5 ⟨rfl,(raT mz)⟩
     ·refine oO rfl (ao (aw2:=[.box [.ref 2,iI p2,iI p3],.dead,aR 42 4 aa p4,.box [.bool false],aR 9 1 ab x14]) (v':=sL aj x34) (n0:=5) (n1:=0) [] rfl rfl (al aK) (ae) ⟨ah rfl,tqz⟩ (ak (aC aM _)) ⟨.inr ⟨rfl,rfl⟩,.inr ⟨rfl,rfl⟩,.inr ⟨rfl,rfl⟩,.inr ⟨rfl,rfl⟩,.inr ⟨rfl,rfl⟩,tqz⟩ (rq [18] 6 (rL [4,20,21,22,23] 4 rfl ?_)));exact raE rd
    ·exact ra1 13 (oO rfl (ao (aw2:=[.box [.ref 2,iI p2,iI p3],.dead,aR 42 4 aa p4,.box [.bool false],aR 9 1 ab x14]) (v':=sL aj x32) (n0:=5) (n1:=0) [] rfl rfl (al ap) (ae) ⟨ah rfl,tqz⟩ (ak (aC aM _)) ⟨.inr ⟨rfl,rfl⟩,.inr ⟨rfl,rfl⟩,.inr ⟨rfl,rfl⟩,.inr ⟨rfl,rfl⟩,.inr ⟨rfl,rfl⟩,tqz⟩ (raT mz)))
    ·exact ra1 17 (oO rfl (ao (aw2:=[.box [.ref 2,iI p2,iI p3],.dead,aR 42 4 aa p4,.box [.bool false],aR 9 1 ab x14]) (v':=sL aj x34) (n0:=5) (n1:=0) [] rfl rfl (al aK) (ae) ⟨ah rfl,tqz⟩ (ak (aC aM _)) ⟨.inr ⟨rfl,rfl⟩,.inr ⟨rfl,rfl⟩,.inr ⟨rfl,rfl⟩,.inr ⟨rfl,rfl⟩,.inr ⟨rfl,rfl⟩,tqz⟩ (rq [18] 5 (raT rd))))
    refine ra1 19 (oO rfl (b6 (rows:=List.map aa [(⟨s15,x30,x32,x34⟩:Node)]) (vs:=[.agg [iI s15,iI x30,sL aj x32,sL aj x34]]) Ty.s22 Ty.z42 rfl rfl rfl rfl rfl rfl (ra1 20 (oO rfl (gM (en:=aa) (xs:=p4) (ys:=([(⟨s15,x30,x32,x34⟩:Node)]:List Node)) Ty.s22 (fun _=>rfl) rfl rfl rfl jk rfl rfl (rq [21,22] 1 (ra1 23 (og 7 ⟨rfl,(RA.done (by decide +kernel) (T.seq (T.region ?_)))⟩))))))));refine go 1 7 (RS.nil ?_);obtain ⟨w_57,h,hw_57⟩:=gY h;replace h:=h.trans (congrArg some (gh _ hw_57));cases h;exact tN [0,1,6]
   exact T.skip (T.region (go 2 5 (RS.nil (⟨IntKind.i64.wrap (s15+1),(zL h).symm,wk [] [0,1,2,3,4] 5 rfl⟩))))
  refine T.region (go 3 5 ?_);rcases aP (decide (s15 > 0)) with cr | cr
  ·replace hz:=bu hz cr;obtain ⟨x20,mD,hz⟩:=bind_some hz;exact yg 5 cr (yg 5 cr (yQ cr (aJ Ty.s32 (fun _=>rfl) rfl rfl mD (yg 5 cr (yg 5 cr (sQ (bH (v:=.bool (x19==x20)) rfl cr rfl (RS.nil (T.sub (hK () trivial) ⟨rfl,rfl,rfl,rfl,rfl,rfl,rfl,(congrArg AV.bool ((congrArg (fun p=>p) (zL hz)).symm)).symm,tqz⟩)))))))))
  replace hz:=bt hz cr;exact sN cr (sN cr (sN cr (sN cr (sN cr (sQ (bp (v:=.bool false) rfl cr rfl (RS.nil (T.sub (hK () trivial) ⟨rfl,rfl,rfl,rfl,rfl,rfl,rfl,(congrArg AV.bool ((congrArg (fun p=>p) (zL hz)).symm)).symm,tqz⟩))))))))
 refine T.exit ?_;obtain ⟨w_58,h,hw_58⟩:=gY h;replace h:=h.trans (congrArg some (gh _ hw_58));refine T.seq (T.region (go 1 5 (RS.nil ?_)));cases h;exact tN [0,1,2]
theorem rM {p0 p1:Int} {r:Int × Int} (h:kX p0 p1=some r):Fn Tryz.prog 115 [.int .u64 p0,.int .u64 p1] (.tup [.int .u64 r.1,.int .u64 r.2]):=by
 unfold kX at h;refine fT 0 0 Tryz.func115 Tryz.ntmps115 rfl ?_;refine B h fun x2 hx2 h=>(X 14 0 (sQ (v_shr rfl rfl hx2 (B h fun x4 hx4 h=>(Y 11 0 (sQ (v_shr rfl rfl hx4 (B h fun x6 hx6 h=>(Y 15 0 (sQ (v_shr rfl rfl hx6 (B h fun x8 hx8 h=>?_))))))))))))
 refine Y 12 0 (sQ (v_shr rfl rfl hx8 (B h fun x10 bZ h=>(Y 19 0 (sQ (v_shr rfl rfl bZ (Y 10 0 ?_)))))));cases h;exact tD
theorem rT {p0 p1:Int} {r:Int × Int} (h:jz p0 p1=some r):Fn Tryz.prog 113 [.int .u64 p0,.int .u64 p1] (.tup [.int .u64 r.1,.int .u64 r.2]):=by
 unfold jz at h;refine fT 0 0 Tryz.func113 Tryz.ntmps113 rfl ?_;refine B h fun x2 hx2 h=>(X 12 0 (sO (cF (rM hx2) ⟨rfl,(Y 13 0 ?_)⟩)))
 cases h;exact tD
theorem rB {p0:List Ends} {p1:Int} {r:List Ends} (h:il p0 p1=some r):FnO Tryz.prog 101 [sL aF p0,iI p1] (.ref 0) [aR 129 2 aF r]:=by
 unfold il at h;refine fT 0 10 Tryz.func101 Tryz.ntmps101 rfl (T.ci h rfl (fun au h=>?_) (fun au h=>?_))
 ·cases h
 refine B h fun x2 hx2 h=>(X 4 0 (sQ (aH Ty.s123 rfl (Y 3 0 (sO (cF (rT hx2) ⟨rfl,(Y 7 0 (j1 [(0,sL aF p0),(6,.int .u64 x2.2),(26,.bool ((decide (x2.1 > 0)) || decide (x2.2 > 9223372036854775807)))] [] ?_ (fun hK=>?_)))⟩))))))
 ·refine T.ci h rfl (fun bi h=>?_) (fun bi h=>?_)
  ·cases h
  refine B h fun x5 hx5 h=>(X 5 0 (sO (o_mk (en:=aF) (zr:=(⟨0,0⟩:Ends)) Ty.s123 Ty.z129 rfl rfl hx5 rfl rfl (Y 6 1 (sO (uw (en:=aF) (xs:=x5) (ys:=p0) Ty.s123 (fun _=>rfl) rfl rfl rfl rfl (Y 4 1 (itr (fun fw:Int × (List Ends)=>mkA 48 [(7,.ref 0),(8,iI fw.1)]) (fun fw=>[aR 129 2 aF fw.2]) h (wk [] [0] 1 rfl) (fun fw v_9 h zp=>?_)))))))))
  obtain ⟨s6,s7⟩:=fw;replace h:eJ s6 s7=some v_9:=h;try dsimp only
  unfold eJ at h;refine X 5 1 (sQ (iH (en:=aF) Ty.s123 rfl rfl (Y 2 1 (T.ci h rfl (fun jh h=>?_) (fun jh h=>?_)))))
  ·refine B h fun x8 hx8 h=>(B h fun x9 hx9 h=>(B h fun x10 bZ h=>(B h fun x11 eD h=>(X 2 1 (T.drawn mixed (k:=10) rfl ?_)))))
   apply RA.jn 3 (bm 10 127);intro rj
   ·refine rq [0,1,2,4,5] 5 (ra2 3 6 ?_ ?_)
    ·exact oO rfl (jJ (en:=aF) (xs:=s7) Ty.s123 rfl rfl rfl rfl hx8 (ra1 6 (oO rfl (jJ (en:=aF) (xs:=s7) Ty.s123 rfl rfl rfl rfl hx9 (raE rj)))))
    ·exact oO rfl (jJ (en:=aF) (xs:=s7) Ty.s123 rfl rfl rfl rfl hx9 (ra1 3 (oO rfl (jJ (en:=aF) (xs:=s7) Ty.s123 rfl rfl rfl rfl hx8 (raT rj)))))
   exact ra1 7 (oO rfl (ua (en:=aF) (xs:=s7) Ty.s123 (fun _=>rfl) rfl rfl rfl bZ eD rfl (rq [8,9] 0 (RA.done (by decide +kernel) (lk h (wk [] [0] 1 rfl))))))
  refine X 1 1 ?_;replace h:=mi h zp;refine X 5 1 ?_;cases h;exact tO [] [0] 1
 refine X 5 0 (gp 23 (fun aI=>?_) (fun aI=>?_))
 ·refine Yp 4 0 ?_;rw [aI] at hK;exact sx hK
 refine Yp 4 0 ?_;rw [aI] at hK;exact sx hK
end
section
open Go.RowKit Go.Shelf
set_option maxRecDepth 100000
set_option maxHeartbeats 4000000
def jR:Go.Shelf.Ren:=⟨fun n=>match n with | 156=>38 | 165=>60 | 166=>52 | 169=>54 | 240=>80 | 241=>88 | 276=>105 | 277=>109 | _=>0,fun n=>match n with | 0=>0 | 3=>3 | 4=>4 | 5=>5 | 9=>9 | 20=>20 | 31=>32 | 37=>91 | 70=>90 | 72=>93 | 75=>57 | 76=>84 | 80=>96 | 127=>130 | 164=>153 | _=>0,fun n=>n⟩
theorem jL:Lays.n156 Tryz.prog jR where
 mixed:=mixed
 f156:=by kernel_rfl
 f165:=by kernel_rfl
 f166:=by kernel_rfl
 f169:=by kernel_rfl
 f240:=by kernel_rfl
 f241:=by kernel_rfl
 f276:=by kernel_rfl
 f277:=by kernel_rfl
 t0:=by kernel_rfl
 a0:=fun w=>by kernel_rfl
 z0:=fun w=>by kernel_rfl
 v0:=fun w=>by kernel_rfl
 t3:=by kernel_rfl
 a3:=fun w=>by kernel_rfl
 z3:=fun w=>by kernel_rfl
 v3:=fun w=>by kernel_rfl
 t4:=by kernel_rfl
 a4:=fun w=>by kernel_rfl
 z4:=fun w=>by kernel_rfl
 v4:=fun w=>by kernel_rfl
 t9:=by kernel_rfl
 a9:=fun w=>by kernel_rfl
 z9:=fun w=>by kernel_rfl
 v9:=fun w=>by kernel_rfl
 t20:=by kernel_rfl
 a20:=fun w=>by kernel_rfl
 z20:=fun w=>by kernel_rfl
 v20:=fun w=>by kernel_rfl
 t31:=by kernel_rfl
 a31:=fun w=>by kernel_rfl
 z31:=fun w=>by kernel_rfl
 v31:=fun w=>by kernel_rfl
 t37:=by kernel_rfl
 a37:=fun w=>by kernel_rfl
 z37:=fun w=>by kernel_rfl
 v37:=fun w=>by kernel_rfl
 t70:=by kernel_rfl
 a70:=fun w=>by kernel_rfl
 z70:=fun w=>by kernel_rfl
 v70:=fun w=>by kernel_rfl
 t72:=by kernel_rfl
 a72:=fun w=>by kernel_rfl
 z72:=fun w=>by kernel_rfl
 v72:=fun w=>by kernel_rfl
 t75:=by kernel_rfl
 a75:=fun w=>by kernel_rfl
 z75:=fun w=>by kernel_rfl
 v75:=fun w=>by kernel_rfl
 t76:=by kernel_rfl
 a76:=fun w=>by kernel_rfl
 z76:=fun w=>by kernel_rfl
 v76:=fun w=>by kernel_rfl
 t127:=by kernel_rfl
 a127:=fun w=>by kernel_rfl
 z127:=fun w=>by kernel_rfl
 v127:=fun w=>by kernel_rfl
 t164:=by kernel_rfl
 a164:=fun w=>by kernel_rfl
 z164:=fun w=>by kernel_rfl
 v164:=fun w=>by kernel_rfl
theorem jX:Builder.Extra Tryz.prog jR where
 sizeBuilder:=by kernel_rfl
 liesBuilder:=by kernel_rfl
 t5:=by kernel_rfl
 a5:=fun w=>by kernel_rfl
 z5:=fun w=>by kernel_rfl
 v5:=fun w=>by kernel_rfl
 infoByte:=by kernel_rfl
 cellsByte:=by kernel_rfl
 sizeByte:=by kernel_rfl
 neB5:=by decide
theorem wO (p0:List (List UInt8)) (p1:List UInt8) (h0:p0.length<=1099511627776) (hl:(Lib.join p0 p1).length<=140737488355328):Fn Tryz.prog 38 [.sl (List.map ab p0),.str p1] (.str (Lib.join p0 p1)):=by
 refine ⟨callable Tryz.func38 rfl (by kernel_rfl),fun w F σ vs hs hr=>?_⟩;have fin:∀ w',Below w.heap.size w w'->∃ v r aw' σ' F',Ending.returned (.string ⟨(Lib.join p0 p1).toArray⟩)=.returned v/\(r=.str (Lib.join p0 p1)/\aw'=[])/\Sim aw' σ' w' F'/\Rel σ' w' F' r v/\Mv [] σ w F aw' σ' w' F':=fun w' hb =>
  ⟨_,_,[],σ,F,rfl,⟨rfl,rfl⟩,hs.grow (fun _ h=>h) (fun _ h=>.inl h) (fun b hb'=>zX (hs.lt b hb') hb.size) hb.block,.str _,.grow (fun _ h=>h) (fun _ h=>.inl h) hb.os hb.tape ⟨hb.output,zP 0⟩ hb.size hb.block⟩
 match vs,hr with
 | [v0,v1],hr =>
  have hr0:Rel σ w F (.sl (List.map ab p0)) v0:=hr.2 0 _ v0 rfl rfl
  have hr1:Rel σ w F (.str p1) v1:=hr.2 1 _ v1 rfl rfl
  have e1:v1=.string ⟨p1.toArray⟩:=by cases hr1;rfl
  subst e1
  have none:∀ (a:Option Addr) (c:Nat),p0=[]->v0=.slice a 0 c->Calls Tryz.prog 38 [v0,.string ⟨p1.toArray⟩].toArray w fun e w'=>∃ v r aw' σ' F',e=.returned v/\(r=.str (Lib.join p0 p1)/\aw'=[])/\Sim aw' σ' w' F'/\Rel σ' w' F' r v/\Mv [] σ w F aw' σ' w' F':=by rintro a c hp rfl;refine (Any.strings_Join_none jL jX a c ⟨p1.toArray⟩ w).mono ?_;rintro e w' ⟨rfl,rfl⟩;have:=fin w' (.refl ..);rw [hp,Lib.join_nil] at this ⊢;exact this
  generalize hrows:List.map ab p0=rows at hr0
  cases hr0 with
  | slNil=>exact none _ _ (List.map_eq_nil_iff.1 hrows) rfl
  | sl _ size ad c u hF hn hm hrow hone hcell hrel =>
   subst hrows
   by_cases hp:p0=[]
   ·subst hp;exact none (some ad) c rfl rfl
   ·have hpl:0<p0.length:=List.length_pos_iff.2 hp
    have hsize:size=1:=by have h1:=hrow (ab p0[0]) (Am.2 ⟨_,Aa _,rfl⟩);exact h1.symm
    subst hsize
    have hsp:ad.spot=Option.none:=by
     have h1:=hcell 0 0 (by simpa using hpl) (by omega);rw [show 0*1+0=0 from rfl,show ad.add 0=ad from rfl] at h1;unfold World.cell? at h1;split at h1
     ·split at h1
      ·cases h1
      ·rename_i hx;cases hs:ad.spot with
       | none=>rfl
       | some q=>rw [hs] at hx;simp at hx
     ·cases h1
    have had:ad=⟨ad.block,ad.off,Option.none⟩:=by cases ad;simp at hsp;subst hsp;rfl
    have hx:(p0.map fun s=>(⟨s.toArray⟩:ByteArray)).map (·.data.toList)=p0:=by simp [AO,Function.comp_def]
    have hJ:=Any.strings_Join jL jX ad.block ad.off c (p0.map fun s=>(⟨s.toArray⟩:ByteArray)) ⟨p1.toArray⟩ w (fun j x hj=>by
      rw [zT,zQ] at hj;obtain ⟨s,hs1,rfl⟩:=hj;have hlt:=(zK.1 hs1).1;have h1:=hcell j 0 (by simpa using hlt) (by omega);have h2:=hrel j (ab s) 0 (.str s) (by rw [zT,hs1];rfl) rfl;have h3:u j 0=.string ⟨s.toArray⟩:=by generalize u j 0=q at h2;cases h2;rfl
      rw [h3,Nat.mul_one,AK] at h1;rw [<- h1];unfold Addr.add;split
      ·rename_i hz;rw [hz,AK,<- had]
      ·rfl) (hs.lt _ (hF (by simpa using hp))) (by simp;omega) (by simpa using hn) (by rw [hx];simpa using hl)
    rw [hx] at hJ
    simp only [zZ] at hJ ⊢
    rw [had]
    refine Calls.mono hJ ?_
    rintro e w' ⟨rfl,hb⟩
    simpa using fin w' hb
end
section
open Go.RowKit
set_option maxRecDepth 100000
set_option maxHeartbeats 4000000
theorem vV (b:Nat) (w:World) (h0:w.cell? ⟨b,0,none⟩=some (.pointer (some ⟨b,0,none⟩))) :
  Calls Tryz.prog 80 #[.pointer (some ⟨b,0,none⟩)] w fun e w'=>e=.returned (.tuple #[])/\w'=w:=by
 obtain ⟨j,hj,hjs⟩:=zQ.1 (show (Tryz.prog.info? 93).map (·.size)=some 2 by kernel_rfl)
 go_enter Tryz.func80,Tryz.ntmps80
 go_wp2
 rw [Lib.run_neq_ptr_same w _ Tryz.underlying90 hj]
 go_wp2
 go_end0
 exact ⟨rfl,rfl⟩
theorem vv (b:Nat) (w:World) (h0:w.cell? ⟨b,0,none⟩=some (.pointer none)) (hsh:w.shape? b=some (93,2)) (hfz:w.frozen? ⟨b,0,none⟩=false) :
  Calls Tryz.prog 80 #[.pointer (some ⟨b,0,none⟩)] w fun e w'=>e=.returned (.tuple #[])/\w'=w.setCell ⟨b,0,none⟩ (.pointer (some ⟨b,0,none⟩)):=by
 obtain ⟨j,hj,hjs⟩:=zQ.1 (show (Tryz.prog.info? 93).map (·.size)=some 2 by kernel_rfl)
 go_enter Tryz.func80,Tryz.ntmps80
 go_wp2
 rw [Lib.run_to_unsafe w ⟨b,0,none⟩ Tryz.underlying90 Tryz.underlying153 hj (by rw [hjs];decide) hsh (Nat.zero_lt_succ 1)]
 simp only [Result.andThen]
 rw [Oper.upon_value]
 go_wp2
 rw [run_callFunc_extern Tryz.func105 (by kernel_rfl) (by kernel_rfl) (by kernel_rfl) (e:=Extern.AbiNoEscape.same) (by kernel_rfl)]
 rw [Lib.run_noEscape]
 simp only [Result.andThen]
 rw [Oper.upon_value]
 go_wp2
 rw [Lib.run_from_unsafe w ⟨b,0,none⟩ Tryz.underlying153 Tryz.underlying90 hj hsh (by kernel_rfl)]
 simp only [Result.andThen]
 rw [Oper.upon_value]
 go_wp2
 go_end0
 exact ⟨rfl,rfl⟩
theorem r9 (rows:List (List AV)):FnX Tryz.prog 80 [.ptr 0 0] [.boxB 93 [.np 0,.ref 1],.arr 5 1 rows] (.tup []) [.boxB 93 [.np 0,.ref 1],.arr 5 1 rows]:=by
 refine ⟨callable Tryz.func80 rfl (by kernel_rfl),fun w F σ vs hs hr=>?_⟩;match vs,hr with
 | [v0],hr =>
  have r0:Rel σ w F (.ptr 0 0) v0:=hr.2 0 _ v0 rfl rfl
  cases r0 with
  | ptr _ _ g hσ =>
  obtain ⟨g',us,e1,hg,hcr,hc1,hF⟩:=hs.obj 0 _ _ rfl hσ
  injection e1 with e1
  injection e1 with e1
  injection e1 with e1
  subst e1
  have hlen:us.size=2:=by simpa using hcr.1
  obtain ⟨p,hp,hrp⟩:=hcr.get (j:=0) (a:=.np 0) rfl
  have hp':us[0]?=some p:=by simpa using hp
  have hcell:w.cell? ⟨g,0,none⟩=some p:=by rw [World.cell?];simp [hg,hp']
  cases hrp with
  | np0 _ =>
   have hsh:w.shape? g=some (93,2):=by simp [World.shape?,hg,hlen]
   have hfz:w.frozen? ⟨g,0,none⟩=false:=by simp [World.frozen?,hg]
   refine (vv g w hcell hsh hfz).mono ?_
   rintro e w' ⟨rfl,rfl⟩
   have hk:∀ b,b≠g->(w.setCell ⟨g,0,none⟩ (.pointer (some ⟨g,0,none⟩))).heap[b]?=w.heap[b]?:=fun b hb=>by
    have:¬ g=b:=fun e=>hb e.symm
    rw [Go.Sort.setCell_eq];simp [Go.Sort.mapBlock,AD,this]
   have hsz:(w.setCell ⟨g,0,none⟩ (.pointer (some ⟨g,0,none⟩))).heap.size=w.heap.size:=by rw [Go.Sort.setCell_eq];simp [Go.Sort.mapBlock]
   have hg':(w.setCell ⟨g,0,none⟩ (.pointer (some ⟨g,0,none⟩))).heap[g]?=some (.cells (us.setIfInBounds 0 (.pointer (some ⟨g,0,none⟩))) 93 (0,0)):=by rw [Go.Sort.setCell_eq];simp [Go.Sort.mapBlock,AD,hg,Go.Sort.onCells]
   have hnew:RelL σ (w.setCell ⟨g,0,none⟩ (.pointer (some ⟨g,0,none⟩))) F [.np 0,.ref 1] (us.setIfInBounds 0 (.pointer (some ⟨g,0,none⟩))).toList:=by
    refine ⟨by simp [hlen],fun j x u hx hu=>?_⟩;match j,hx with
    | 0,hx =>
     cases hx
     simp [hlen] at hu
     subst hu
     exact .npS 0 g hσ
    | 1,hx =>
     cases hx
     have hu2:us[1]?=some u:=by simpa using hu
     have:=hcr.2 1 _ u rfl (by simpa using hu2)
     cases this with
     | ref _ A q cp h9=>exact .ref 1 A q cp h9
   have hone:∀ u,u∈us.setIfInBounds 0 (.pointer (some ⟨g,0,none⟩))->u.oneCell'=true:=fun u hu=>by
    rcases Array.mem_or_eq_of_mem_setIfInBounds hu with h | h
    ·exact hc1 u h
    ·subst h;rfl
   have s1:=hs.write (b0:=g) 0 rfl rfl hσ rfl hk hsz (.boxB 93 [.np 0,.ref 1]) ⟨g,_,rfl,hg',hnew,hone,hF⟩ (fun _ h=>h)
   have m1:Mv [.boxB 93 [.np 0,.ref 1],.arr 5 1 rows] σ w F ([Ob.boxB 93 [.np 0,.ref 1],.arr 5 1 rows].set 0 (.boxB 93 [.np 0,.ref 1])) σ (w.setCell ⟨g,0,none⟩ (.pointer (some ⟨g,0,none⟩))) F :=
    Mv.write (aw:=[.boxB 93 [.np 0,.ref 1],.arr 5 1 rows]) (w:=w) (w':=w.setCell ⟨g,0,none⟩ (.pointer (some ⟨g,0,none⟩))) (F:=F) (o:=.boxB 93 [.np 0,.ref 1]) (b0:=g) 0 rfl rfl hσ rfl rfl rfl drO hk hsz (.boxB 93 [.np 0,.ref 1]) (fun _ h=>h)
   exact ⟨_,_,_,σ,F,rfl,⟨rfl,rfl⟩,s1,eY,m1⟩
  | npS _ g2 h2 =>
   rw [hσ] at h2
   cases h2
   refine (vV g w hcell).mono ?_
   rintro e w' ⟨rfl,rfl⟩
   exact ⟨_,_,_,σ,F,rfl,⟨rfl,rfl⟩,hs,eY,.refl _ _ _ _⟩
theorem xo (b g cap:Nat) (cur:Array Value) (l:List UInt8) (w:World) (c0:w.cell? ⟨b,1,none⟩=some (.slice (some ⟨g,0,none⟩) l.length cap)) (h0:l≠[]) (hg:w.heap[g]?=some (.cells cur 5 (0,0))) (hnc:l.length<=cap) (hcm:cap<=maxLen) (hcs:cur.size=cap)
  (hx:∀ (j:Nat) x,l[j]?=some x->w.cell? ⟨g,j,none⟩=some (.int .u8 x.toNat)) :
  Calls Tryz.prog 54 #[.pointer (some ⟨b,0,none⟩)] w fun e w'=>e=.returned (.string ⟨l.toArray⟩)/\w'=w.drew.freeze ⟨g,0,none⟩ l.length:=by
 have hl0:l.length≠0:=by simpa using h0
 have c1:w.drew.cell? ⟨b,1,none⟩=some (.slice (some ⟨g,0,none⟩) l.length cap):=c0
 have hSD:(Builtin.unsafeSliceData_ #[91] 130 #[.slice (some ⟨g,0,none⟩) l.length cap]).run Tryz.prog w.drew=.ok (.pointer (some ⟨g,0,none⟩)) w.drew :=
  Lib.run_unsafeSliceData_row _ _ _ _ _ _ (by omega)
 have hUS:(Builtin.unsafeString_ #[130,3] 9 #[.pointer (some ⟨g,0,none⟩),.int .i64 l.length]).run Tryz.prog w.drew=.ok (.string ⟨l.toArray⟩) (w.drew.freeze ⟨g,0,none⟩ l.length):=by
  refine Lib.run_unsafeString_row w.drew 130 3 9 5 Tryz.underlying130 (by kernel_rfl) g cur.size (by have hg':w.drew.heap[g]?=some (.cells cur 5 (0,0)):=hg;simp [World.shape?,hg']) l h0 (by omega) (by unfold maxLen at hcm;omega) ?_;intro j x hj;show w.cell? _=_;have e:(⟨g,0,none⟩:Addr).add j=⟨g,j,none⟩:=by unfold Addr.add;simp;intro h;exact h.symm
  rw [e];exact hx j x hj
 have mixed:=mixed
 clear c0 hx hg
 go_enter Tryz.func54,Tryz.ntmps54
 go_wp2
 go_region_o
 all_goals (go_wp2;go_ret;exact ⟨rfl,rfl⟩)
theorem qv {σ:List Value} {w:World} {F:Nat->Prop}:∀ (xs:List Int) (flat:List Value),RelL σ w F (xs.map bb).flatten flat->flat=xs.map fun n=>Value.int .u8 n
 | [],flat,h=>zN h.1
 | x::xs,flat,h=>by
  match flat,h with
  | [],h=>exact absurd h.1 (by simp [bb])
  | a::r,h =>
   have h1:Rel σ w F (.int .u8 x) a:=h.2 0 _ a rfl rfl
   have h3:=qv xs r ⟨by have:=h.1;simp [bb] at this ⊢;omega,fun j y v hy hv=>h.2 (j+1) y v (by simpa [bb] using hy) (by simpa using hv)⟩
   cases h1
   rw [h3];rfl
theorem uo (xs:List Int) (r:List UInt8) (h:bldS xs=some r):FnX Tryz.prog 54 [.ptr 0 0] [.boxB 93 [.np 0,.ref 1],.arr 5 1 (List.map bb xs)] (.str r) [.dead,.dead]:=by
 unfold bldS at h;split at h;rotate_left
 ·cases h
 rename_i hc;cases h;refine ⟨callable Tryz.func54 rfl (by kernel_rfl),fun w F σ vs hs hr=>?_⟩;match vs,hr with
 | [v0],hr =>
  have r0:Rel σ w F (.ptr 0 0) v0:=hr.2 0 _ v0 rfl rfl
  cases r0 with
  | ptr _ _ b hσ =>
  obtain ⟨b',us,e1,hb,hcr,hc1,hF⟩:=hs.obj 0 _ _ rfl hσ
  injection e1 with e1
  injection e1 with e1
  injection e1 with e1
  subst e1
  have hlen:us.size=2:=by simpa using hcr.1
  obtain ⟨p,hp,hrp⟩:=hcr.get (j:=1) (a:=.ref 1) rfl
  have hp':us[1]?=some p:=by simpa using hp
  have hcell:w.cell? ⟨b,1,none⟩=some p:=by rw [World.cell?];simp [hb,hp']
  cases hrp with
  | ref _ A q cp hσ1 =>
  obtain ⟨hq,flat,hown,hfl,hcase⟩:=e7 hs (id:=1) rfl hσ1
  rw [zZ] at hq
  subst hq
  rcases hcase with hcase | ⟨g,cur,rfl,hFa,hga,hnc,hcm,hsz,htk⟩
  ·exact absurd (List.map_eq_nil_iff.1 hcase) hc.1
  ·have hflat:=qv xs flat hfl.2.2
   have hlt:(dj xs).length=xs.length:=by simp [dj]
   have hx:∀ (j:Nat) x,(dj xs)[j]?=some x->w.cell? ⟨g,j,none⟩=some (.int .u8 x.toNat):=fun j x hj=>by
    have hj2:j<xs.length:=by rw [<- hlt];exact (zK.1 hj).1
    have h1:cur.toList[j]?=some (.int .u8 xs[j]):=by
     have:(cur.toList.take (xs.length*1))[j]?=flat[j]?:=by rw [htk]
     rw [As,if_pos (by omega),hflat] at this;rw [this];simp [hj2]
    have h2:x=UInt8.ofNat (xs[j]).toNat:=by unfold dj at hj;rw [zT,zJ hj2] at hj;exact (zL hj).symm
    have h3:=hc.2 xs[j] (Aa hj2);have h4:((UInt8.ofNat (xs[j]).toNat).toNat:Int)=xs[j]:=by rw [UInt8.toNat_ofNat',Nat.mod_eq_of_lt (by omega)];omega
    rw [World.cell?];rw [h2,h4];have h5:cur[j]?=some (.int .u8 xs[j]):=by simpa using h1
    simp [hga,h5]
   have hne:dj xs≠[]:=fun e=>hc.1 (zN (by rw [<- hlt,e];rfl))
   have hS:=xo b g cp cur (dj xs) w (by rw [hlt];exact hcell) hne hga (by rw [hlt];exact hnc) hcm (by omega) hx
   refine hS.mono ?_
   rintro e w' ⟨rfl,rfl⟩
   have hn0:(dj xs).length≠0:=by simpa using hne
   have hfz:∀ k,k≠g->(w.drew.freeze ⟨g,0,none⟩ (dj xs).length).heap[k]?=w.heap[k]?:=fun k hk=>by
    have:¬ g=k:=fun e=>hk e.symm
    unfold World.freeze;rw [if_neg hn0];show (w.heap.modify g _)[k]?=_;rw [AD,if_neg this]
   have hsize:(w.drew.freeze ⟨g,0,none⟩ (dj xs).length).heap.size=w.heap.size:=by unfold World.freeze;rw [if_neg hn0];show (w.heap.modify g _).size=_;simp
   have hD:Dof [Ob.boxB 93 [.np 0,.ref 1],.arr 5 1 (List.map bb xs)] σ g:=⟨1,_,_,rfl,rfl,hσ1,rfl⟩
   refine ⟨_,_,_,σ,F,rfl,⟨rfl,rfl⟩,⟨by have:=hs.len;simpa using this,fun k o v ho hv=>?_,fun k k' o o' v v' gg hne ho ho' hl=>?_,fun k hk=>by rw [hsize];exact hs.lt k hk,hs.gd.mono (fun _ hb=>hb) fun k hk=>hfz k (fun e=>hs.free hD (e▸hk))⟩,.str _,⟨by unfold World.freeze;rw [if_neg hn0];rfl,by unfold World.freeze;rw [if_neg hn0];rfl,⟨by unfold World.freeze;rw [if_neg hn0];rfl,by unfold World.freeze;rw [if_neg hn0];first | exact Nat.le_succ _ | exact zP _⟩,Nat.le_of_eq hsize.symm,fun k hk hd=>hfz k (fun e=>hd (e▸hD)),fun _ _ h=>h,fun _ h=>h,fun _ h=>.inl h,fun k hd=>?_⟩⟩
   ·match k,ho with
    | 0,ho=>cases ho;trivial
    | 1,ho=>cases ho;trivial
   ·match k,ho with
    | 0,ho=>cases ho;cases hl
    | 1,ho=>cases ho;cases hl
   ·obtain ⟨j,o,v,ho,hl,_⟩:=hd
    match j,ho with
    | 0,ho=>cases ho;cases hl
    | 1,ho=>cases ho;cases hl
end
section
open Go.RowKit
set_option maxRecDepth 100000
set_option maxHeartbeats 4000000
set_option synthInstance.maxSize 100000
set_option synthInstance.maxHeartbeats 4000000
theorem sF {p0:Int} {r:Int × Int × Bool} (h:iA p0=some r):Fn Tryz.prog 102 [iI p0] (.tup [iI r.1,iI r.2.1,.bool r.2.2]):=by
 unfold iA at h;refine fT 0 17 Tryz.func102 Tryz.ntmps102 rfl (T.ci h rfl (fun au h=>?_) (fun au h=>?_))
 ·refine X 6 0 ?_;cases h;exact tD
 refine jn (Z:=Bool) (fun ig=>mkA 19 [(5,iI p0),(8,.bool ig)]) (fun ig=>[]) (fun ig=>fI p0 ig=some r) (fun ig h=>?_) (fun hK2=>?_)
 ·revert h;revert ig;intro z1 h;replace h:fI p0 z1=some r:=h;try dsimp only
  unfold fI at h;refine T.ci h rfl (fun cX h=>?_) (fun cX h=>?_)
  ·refine X 6 0 ?_;cases h;exact tD
  refine jn (Z:=Bool) (fun cW=>mkA 19 [(5,iI p0),(12,.bool cW)]) (fun cW=>[]) (fun cW=>gE p0 cW=some r) (fun cW h=>?_) (fun hK1=>?_)
  ·revert h;revert cW;intro z2 h;replace h:gE p0 z2=some r:=h;try dsimp only
   unfold gE at h;refine T.ci h rfl (fun cu h=>?_) (fun cu h=>?_)
   ·refine X 6 0 ?_;cases h;exact tD
   refine X 5 0 (T.ci h rfl (fun dD h=>?_) (fun dD h=>?_))
   ·refine X 6 0 ?_;cases h;exact tD
   refine X 5 0 (T.ci h rfl (fun jh h=>?_) (fun jh h=>?_))
   ·refine X 6 0 ?_;cases h;exact tD
   refine X 7 0 ?_;cases h;exact tD
  refine X 6 0 (T.ci h rfl (fun zf h=>?_) (fun zf h=>?_))
  ·exact X 1 0 (wu (hK1 (p0==5) h) [] [] 0 rfl)
  exact X 4 0 (wu (hK1 (p0==7) h) [] [] 0 rfl)
 refine X 6 0 (T.ci h rfl (fun mo h=>?_) (fun mo h=>?_))
 ·exact X 1 0 (wu (hK2 (p0==2) h) [] [] 0 rfl)
 refine X 5 0 (T.ci h rfl (fun zg h=>?_) (fun zg h=>?_))
 ·exact X 1 0 (wu (hK2 (p0==3) h) [] [] 0 rfl)
 exact X 4 0 (wu (hK2 (p0==4) h) [] [] 0 rfl)
theorem nQ {p0 p1:Int} {r:Bool} (h:gR p0 p1=some r):Fn Tryz.prog 103 [iI p0,iI p1] (.bool r):=by
 unfold gR at h;refine fT 0 4 Tryz.func103 Tryz.ntmps103 rfl (j1 [(4,.bool ((p0==p1) || ((decide (p1<0)) && decide (p0 > 0))))] [] ?_ (fun hK=>?_))
 ·cases h;exact tD
 refine X 6 0 (gp 8 (fun au=>?_) (fun au=>?_))
 ·refine Yp 9 0 ?_;rw [au] at hK;exact sx hK
 refine Y 3 0 (gp 11 (fun aI=>?_) (fun aI=>?_))
 ·refine Yp 6 0 ?_;rw [au] at hK;rw [aI] at hK;exact sx hK
 refine Yp 6 0 ?_;rw [au] at hK;rw [aI] at hK;exact sx hK
theorem tk {p0:Net} {r:(List Ends) × Int} (h:iP p0=some r):FnO Tryz.prog 77 [.agg (aG p0)] (.tup [.ref 0,iI r.2]) [aR 129 2 aF r.1]:=by
 unfold iP at h;refine fT 0 7 Tryz.func77 Tryz.ntmps77 rfl (j1 [(1,.ptr 0 0),(36,.bool ((decide (((p0.Nodes).length:Int)<1)) || ((decide (((p0.Nodes).length:Int) > 12)) || ((decide (p0.Rings<0)) || decide (p0.Rings > 16)))))] [.box (aG p0)] ?_ (fun hK=>?_))
 ·refine T.ci h rfl (fun bJ h=>?_) (fun bJ h=>?_)
  ·refine X 5 1 ?_;cases h;exact tO [(0,129,2)] [1] 1
  refine X 2 1 (j1 [(1,.ptr 0 0),(44,.bool ((decide (p0.Room<1)) || decide (p0.Room > 6)))] [.box (aG p0)] ?_ (fun hK=>?_))
  ·refine T.ci h rfl (fun gk h=>?_) (fun gk h=>?_)
   ·refine X 5 1 ?_;cases h;exact tO [(0,129,2)] [1] 1
   refine B h fun x4 hx4 h=>(X 4 1 (sO (b6 (rows:=List.map aF [(⟨(-1),(-1)⟩:Ends)]) (vs:=[.agg [iI (-1),iI (-1)]]) Ty.s123 Ty.z129 rfl rfl rfl rfl rfl rfl (Y 2 2 (sO (cO 2 (rB hx4) ⟨rfl,(Y 11 3 (sQ (aH Ty.s22 rfl (Y 3 3 (itr (fun dN:Int × Int × (List Ends)=>mkA 197 [(1,.ptr 0 0),(4,.ref 1),(5,iI dN.1),(51,sL aa p0.Nodes),(52,iI ((p0.Nodes).length:Int)),(53,iI dN.2.1)]) (fun dN=>[.box (aG p0),aR 129 2 aF dN.2.2]) h (wk [] [0,2] 3 rfl) (fun dN v_124 h fo=>?_))))))⟩))))))
   obtain ⟨s5,s6,s7⟩:=dN;replace h:eU p0 s5 s6 s7=some v_124:=h;try dsimp only
   unfold eU at h;refine X 5 2 (T.ci h rfl (fun xD h=>?_) (fun xD h=>?_))
   ·refine B h fun x9 hx9 h=>(X 6 2 (sQ (aJ Ty.s22 (fun _=>rfl) rfl rfl hx9 (B h fun x11 eD h=>(Y 9 2 (sO (cF (sF eD) ⟨rfl,(Y 14 3 (T.ci h rfl (fun xE h=>?_) (fun xE h=>?_)))⟩)))))))
    ·refine X 5 3 ?_;replace h:=mi h fo;cases h;exact tO [(0,129,2)] [3] 3
    refine B h fun x12 dk h=>(X 2 3 ?_)
    obtain ⟨xF,hz,h⟩:=bind_some h;revert hz h;revert xF;intro c14 hz h;refine j1 [(1,.ptr 0 0),(4,.ref 1),(5,iI s5),(6,iI s6),(7,.ptr 2 0),(51,sL aa p0.Nodes),(52,iI ((p0.Nodes).length:Int)),(53,iI s6),(80,.bool c14)] [.box (aG p0),aR 129 2 aF s7,.box (aa x9)] ?_ (fun hK=>?_)
    ·refine T.ci h rfl (fun xG h=>?_) (fun xG h=>?_)
     ·refine X 5 3 ?_;replace h:=mi h fo;cases h;exact tO [(0,129,2)] [3] 3
     refine X 2 3 (j1 [(1,.ptr 0 0),(4,.ref 1),(5,iI s5),(6,iI s6),(7,.ptr 2 0),(51,sL aa p0.Nodes),(52,iI ((p0.Nodes).length:Int)),(53,iI s6),(118,.bool ((decide (x9.A<0)) || (if (x9.Kind==1)=true then ((decide (x9.A >= 4)) || (if (x9.Kind==2)=true then ((decide (x9.A > 3)) || ((x9.Kind != 1) && ((x9.Kind != 2) && x9.A != 0))) else ((x9.Kind != 1) && ((x9.Kind != 2) && x9.A != 0)))) else (if (x9.Kind==2)=true then ((decide (x9.A > 3)) || ((x9.Kind != 1) && ((x9.Kind != 2) && x9.A != 0))) else ((x9.Kind != 1) && ((x9.Kind != 2) && x9.A != 0))))))] [.box (aG p0),aR 129 2 aF s7,.box (aa x9)] ?_ (fun hK=>?_))
     ·refine T.ci h rfl (fun xH h=>?_) (fun xH h=>?_)
      ·refine X 5 3 ?_;replace h:=mi h fo;cases h;exact tO [(0,129,2)] [3] 3
      refine X 1 3 (jn (Z:=Int) (fun hU=>mkA 197 [(1,.ptr 0 0),(4,.ref 1),(5,iI hU),(6,iI s6),(7,.ptr 2 0),(51,sL aa p0.Nodes),(52,iI ((p0.Nodes).length:Int)),(53,iI s6)]) (fun hU=>[.box (aG p0),aR 129 2 aF s7,.box (aa x9)]) (fun hU=>fK p0 s6 s7 x9 hU=some v_124) (fun hU h=>?_) (fun hK3=>?_))
      ·revert h;revert hU;intro z15 h;replace h:fK p0 s6 s7 x9 z15=some v_124:=h;try dsimp only
       unfold fK at h;refine X 5 3 (sQ (aH Ty.s37 rfl (Y 3 3 (itr (fun fg:Int × (List Ends)=>mkA 197 [(1,.ptr 0 0),(4,.ref 1),(5,iI z15),(6,iI s6),(7,.ptr 2 0),(51,sL aa p0.Nodes),(52,iI ((p0.Nodes).length:Int)),(53,iI s6),(125,sL aj x9.In),(126,iI ((x9.In).length:Int)),(127,iI fg.1)]) (fun fg=>[.box (aG p0),aR 129 2 aF fg.2,.box (aa x9)]) h (wk [] [0,1,2] 3 rfl) (fun fg v_160 h lY=>?_)))));obtain ⟨s16,s17⟩:=fg;replace h:eS p0 s6 x9 z15 s16 s17=some v_160:=h;try dsimp only
       unfold eS at h;refine X 5 3 (T.ci h rfl (fun xI h=>?_) (fun xI h=>?_))
       ·refine B h fun x19 eE h=>(X 5 3 (sQ (aJ Ty.s37 (fun _=>rfl) rfl rfl eE (Y 4 3 (j1 [(1,.ptr 0 0),(4,.ref 1),(5,iI z15),(6,iI s6),(7,.ptr 2 0),(12,iI x19),(51,sL aa p0.Nodes),(52,iI ((p0.Nodes).length:Int)),(53,iI s6),(125,sL aj x9.In),(126,iI ((x9.In).length:Int)),(127,iI s16),(138,.bool ((decide (x19<0)) || decide (x19 >= p0.Rings)))] [.box (aG p0),aR 129 2 aF s17,.box (aa x9)] ?_ (fun hK=>?_))))))
        ·refine T.ci h rfl (fun lZ h=>?_) (fun lZ h=>?_)
         ·refine X 5 3 ?_;replace h:=mi h lY;replace h:=mi h fo;cases h;exact tO [(0,129,2)] [3] 3
         refine B h fun x23 mE h=>(B h fun x24 mF h=>(X 6 3 (sQ (be (en:=aF) Ty.s123 rfl rfl rfl mE (Y 1 3 (sO (cg (en:=aF) (a:=x24) rfl rfl mF (ai Ty.k3 (c:=iI x24.dst) rfl (Y 2 3 (T.ci h rfl (fun xJ h=>?_) (fun xJ h=>?_)))))))))))
         ·refine X 5 3 ?_;replace h:=mi h lY;replace h:=mi h fo;cases h;exact tO [(0,129,2)] [3] 3
         exact B h fun x25 mG h=>(B h fun x26 zq h=>(X 5 3 (sQ (be (en:=aF) Ty.s123 rfl rfl rfl mG (Y 1 3 (sO (k6 (en:=aF) (a:=x26) (a':=(⟨x26.src,s6⟩:Ends)) Ty.c3 Ty.i3 rfl (vs:=[iI s6]) rfl rfl rfl zq rfl rfl rfl (Y 5 3 (lk h (wk [] [0,1,2] 3 rfl))))))))))
        refine X 5 3 (gp 133 (fun gb=>?_) (fun gb=>?_))
        ·refine Yp 6 3 ?_;rw [gb] at hK;exact sx hK
        refine Yp 6 3 ?_;rw [gb] at hK;exact sx hK
       refine X 1 3 ?_;replace h:=mi h lY;refine X 4 3 (sQ (aH Ty.s37 rfl (Y 3 3 (itr (fun ff:Int × (List Ends)=>mkA 197 [(1,.ptr 0 0),(4,.ref 1),(5,iI z15),(6,iI s6),(51,sL aa p0.Nodes),(52,iI ((p0.Nodes).length:Int)),(53,iI s6),(152,sL aj x9.Out),(153,iI ((x9.Out).length:Int)),(154,iI ff.1)]) (fun ff=>[.box (aG p0),aR 129 2 aF ff.2]) h (wk [] [0,1] 3 rfl) (fun ff v_179 h l5=>?_)))));obtain ⟨s27,s28⟩:=ff;replace h:eV p0 s6 x9 z15 s27 s28=some v_179:=h;try dsimp only
       unfold eV at h;refine X 5 2 (T.ci h rfl (fun xK h=>?_) (fun xK h=>?_))
       ·refine B h fun x30 aD h=>(X 5 2 (sQ (aJ Ty.s37 (fun _=>rfl) rfl rfl aD (Y 4 2 (j1 [(1,.ptr 0 0),(4,.ref 1),(5,iI z15),(6,iI s6),(14,iI x30),(51,sL aa p0.Nodes),(52,iI ((p0.Nodes).length:Int)),(53,iI s6),(152,sL aj x9.Out),(153,iI ((x9.Out).length:Int)),(154,iI s27),(165,.bool ((decide (x30<0)) || decide (x30 >= p0.Rings)))] [.box (aG p0),aR 129 2 aF s28] ?_ (fun hK=>?_))))))
        ·refine T.ci h rfl (fun xL h=>?_) (fun xL h=>?_)
         ·refine X 5 2 ?_;replace h:=mi h l5;replace h:=mi h fo;cases h;exact tO [(0,129,2)] [2] 2
         refine B h fun x34 aK h=>(B h fun x35 jk h=>(X 6 2 (sQ (be (en:=aF) Ty.s123 rfl rfl rfl aK (Y 1 2 (sO (cg (en:=aF) (a:=x35) rfl rfl jk (ai Ty.k3 (c:=iI x35.src) rfl (Y 2 2 (T.ci h rfl (fun xM h=>?_) (fun xM h=>?_)))))))))))
         ·refine X 5 2 ?_;replace h:=mi h l5;replace h:=mi h fo;cases h;exact tO [(0,129,2)] [2] 2
         exact B h fun x36 kL h=>(B h fun x37 jl h=>(X 5 2 (sQ (be (en:=aF) Ty.s123 rfl rfl rfl kL (Y 1 2 (sO (k6 (en:=aF) (a:=x37) (a':=(⟨s6,x37.dst⟩:Ends)) Ty.c3 Ty.i3 rfl (vs:=[iI s6]) rfl rfl rfl jl rfl rfl rfl (Y 5 2 (lk h (wk [] [0,1] 2 rfl))))))))))
        refine X 5 2 (gp 160 (fun l6=>?_) (fun l6=>?_))
        ·refine Yp 6 2 ?_;rw [l6] at hK;exact sx hK
        refine Yp 6 2 ?_;rw [l6] at hK;exact sx hK
       refine X 1 2 ?_;replace h:=mi h l5;exact X 4 2 (lk h (wk [] [0,1] 2 rfl))
      refine X 7 3 (T.ci h rfl (fun l7 h=>?_) (fun l7 h=>?_))
      ·exact X 5 3 (wu (hK3 (IntKind.i64.wrap (s5+1)) h) [] [0,1,2] 3 rfl)
      exact X 1 3 (sx (hK3 s5 h))
     refine X 6 3 ?_;rcases aP (decide (x9.A<0)) with bg | bg
     ·exact gT 84 bg (Yp 35 3 (T.sub hK ⟨rfl,rfl,rfl,rfl,rfl,rfl,rfl,rfl,(congrArg AV.bool (by simp only [bg,bz,if_true,if_false,zO])).symm,tqz⟩))
     refine yg 3 bg (yg 3 bg (yg 3 bg (yg 3 bg ?_)));rcases aP (x9.Kind==1) with br | br
     ·refine yg 3 br (yg 3 br (yg 3 br (yQ bg (bH (v:=.bool (decide (x9.A >= 4))) rfl br rfl (sQ (bp (v:=.bool (decide (x9.A >= 4))) rfl bg rfl (Y 1 3 ?_)))))));rcases aP (decide (x9.A >= 4)) with bQ | bQ
      ·exact gT 94 bQ (Yp 25 3 (T.sub hK ⟨rfl,rfl,rfl,rfl,rfl,rfl,rfl,rfl,(congrArg AV.bool (by simp only [bg,br,bQ,bz,if_true,if_false,zO])).symm,tqz⟩))
      refine yg 3 bQ (yg 3 bQ (yg 3 bQ (yg 3 bQ ?_)));rcases aP (x9.Kind==2) with ca | ca
      ·refine yg 3 ca (yg 3 ca (yg 3 ca (yQ bQ (bH (v:=.bool (decide (x9.A > 3))) rfl ca rfl (sQ (bp (v:=.bool (decide (x9.A > 3))) rfl bQ rfl (Y 1 3 ?_)))))));rcases aP (decide (x9.A > 3)) with cm | cm
       ·exact gT 104 cm (Yp 15 3 (T.sub hK ⟨rfl,rfl,rfl,rfl,rfl,rfl,rfl,rfl,(congrArg AV.bool (by simp only [bg,br,bQ,ca,cm,bz,if_true,if_false,zO])).symm,tqz⟩))
       refine yg 3 cm (yg 3 cm (yg 3 cm (yg 3 cm ?_)));rcases aP (x9.Kind != 1) with er | er
       ·refine yg 3 er (yg 3 er (yg 3 er (yQ cm (bH (v:=.bool (x9.Kind != 2)) rfl er rfl (yg 3 cm ?_)))));rcases aP (x9.Kind != 2) with jb | jb
        ·exact gT 113 jb (Y 3 3 (gF 104 cm (Yp 3 3 (T.sub hK ⟨rfl,rfl,rfl,rfl,rfl,rfl,rfl,rfl,(congrArg AV.bool (by simp only [bg,br,bQ,ca,cm,er,jb,bz,if_true,if_false,zO])).symm,tqz⟩))))
        exact gF 113 jb (Y 3 3 (gF 104 cm (Yp 3 3 (T.sub hK ⟨rfl,rfl,rfl,rfl,rfl,rfl,rfl,rfl,(congrArg AV.bool (by simp only [bg,br,bQ,ca,cm,er,jb,bz,if_true,if_false,zO])).symm,tqz⟩))))
       exact gF 108 er (Y 3 3 (gF 104 cm (Yp 8 3 (T.sub hK ⟨rfl,rfl,rfl,rfl,rfl,rfl,rfl,rfl,(congrArg AV.bool (by simp only [bg,br,bQ,ca,cm,er,bz,if_true,if_false,zO])).symm,tqz⟩))))
      refine sN ca (sN ca (sN ca (yQ bQ (bp (v:=.bool false) rfl ca rfl (sQ (bp (v:=.bool false) rfl bQ rfl (Y 1 3 (yg 3 rfl (yg 3 rfl (yg 3 rfl (yg 3 rfl ?_)))))))))));rcases aP (x9.Kind != 1) with eu | eu
      ·refine yg 3 eu (yg 3 eu (yg 3 eu (yQ rfl (bH (v:=.bool (x9.Kind != 2)) rfl eu rfl (yg 3 rfl ?_)))));rcases aP (x9.Kind != 2) with jc | jc
       ·exact gT 113 jc (Yp 6 3 (T.sub hK ⟨rfl,rfl,rfl,rfl,rfl,rfl,rfl,rfl,(congrArg AV.bool (by simp only [bg,br,bQ,ca,eu,jc,bz,if_true,if_false,zO])).symm,tqz⟩))
       exact gF 113 jc (Yp 6 3 (T.sub hK ⟨rfl,rfl,rfl,rfl,rfl,rfl,rfl,rfl,(congrArg AV.bool (by simp only [bg,br,bQ,ca,eu,jc,bz,if_true,if_false,zO])).symm,tqz⟩))
      exact gF 108 eu (Yp 11 3 (T.sub hK ⟨rfl,rfl,rfl,rfl,rfl,rfl,rfl,rfl,(congrArg AV.bool (by simp only [bg,br,bQ,ca,eu,bz,if_true,if_false,zO])).symm,tqz⟩))
     refine sN br (sN br (sN br (yQ bg (bp (v:=.bool false) rfl br rfl (sQ (bp (v:=.bool false) rfl bg rfl (Y 1 3 (yg 3 rfl (yg 3 rfl (yg 3 rfl (yg 3 rfl ?_)))))))))));rcases aP (x9.Kind==2) with cb | cb
     ·refine yg 3 cb (yg 3 cb (yg 3 cb (yQ rfl (bH (v:=.bool (decide (x9.A > 3))) rfl cb rfl (sQ (bp (v:=.bool (decide (x9.A > 3))) rfl rfl rfl (Y 1 3 ?_)))))));rcases aP (decide (x9.A > 3)) with cn | cn
      ·exact gT 104 cn (Yp 15 3 (T.sub hK ⟨rfl,rfl,rfl,rfl,rfl,rfl,rfl,rfl,(congrArg AV.bool (by simp only [bg,br,cb,cn,bz,if_true,if_false,zO])).symm,tqz⟩))
      refine yg 3 cn (yg 3 cn (yg 3 cn (yg 3 cn ?_)));rcases aP (x9.Kind != 1) with ew | ew
      ·refine yg 3 ew (yg 3 ew (yg 3 ew (yQ cn (bH (v:=.bool (x9.Kind != 2)) rfl ew rfl (yg 3 cn ?_)))));rcases aP (x9.Kind != 2) with jd | jd
       ·exact gT 113 jd (Y 3 3 (gF 104 cn (Yp 3 3 (T.sub hK ⟨rfl,rfl,rfl,rfl,rfl,rfl,rfl,rfl,(congrArg AV.bool (by simp only [bg,br,cb,cn,ew,jd,bz,if_true,if_false,zO])).symm,tqz⟩))))
       exact gF 113 jd (Y 3 3 (gF 104 cn (Yp 3 3 (T.sub hK ⟨rfl,rfl,rfl,rfl,rfl,rfl,rfl,rfl,(congrArg AV.bool (by simp only [bg,br,cb,cn,ew,jd,bz,if_true,if_false,zO])).symm,tqz⟩))))
      exact gF 108 ew (Y 3 3 (gF 104 cn (Yp 8 3 (T.sub hK ⟨rfl,rfl,rfl,rfl,rfl,rfl,rfl,rfl,(congrArg AV.bool (by simp only [bg,br,cb,cn,ew,bz,if_true,if_false,zO])).symm,tqz⟩))))
     refine sN cb (sN cb (sN cb (yQ rfl (bp (v:=.bool false) rfl cb rfl (sQ (bp (v:=.bool false) rfl rfl rfl (Y 1 3 (yg 3 rfl (yg 3 rfl (yg 3 rfl (yg 3 rfl ?_)))))))))));rcases aP (x9.Kind != 1) with eA | eA
     ·refine yg 3 eA (yg 3 eA (yg 3 eA (yQ rfl (bH (v:=.bool (x9.Kind != 2)) rfl eA rfl (yg 3 rfl ?_)))));rcases aP (x9.Kind != 2) with je | je
      ·exact gT 113 je (Yp 6 3 (T.sub hK ⟨rfl,rfl,rfl,rfl,rfl,rfl,rfl,rfl,(congrArg AV.bool (by simp only [bg,br,cb,eA,je,bz,if_true,if_false,zO])).symm,tqz⟩))
      exact gF 113 je (Yp 6 3 (T.sub hK ⟨rfl,rfl,rfl,rfl,rfl,rfl,rfl,rfl,(congrArg AV.bool (by simp only [bg,br,cb,eA,je,bz,if_true,if_false,zO])).symm,tqz⟩))
     exact gF 108 eA (Yp 11 3 (T.sub hK ⟨rfl,rfl,rfl,rfl,rfl,rfl,rfl,rfl,(congrArg AV.bool (by simp only [bg,br,cb,eA,bz,if_true,if_false,zO])).symm,tqz⟩))
    refine X 4 3 (sQ (aH Ty.s37 rfl (Y 1 3 (sO (cF (nQ dk) ⟨rfl,(Y 2 3 (gi 73 hz (fun xN hz=>?_) (fun xN hz=>?_)))⟩)))))
    ·refine Yp 8 3 ?_;cases hz;exact sx hK
    refine B hz fun x13 bN hz=>(Y 2 3 (yQ rfl (aH Ty.s37 rfl (Y 1 3 (yO rfl (cF (nQ bN) ⟨rfl,(Yp 3 3 ?_)⟩))))))
    cases hz;exact sx hK
   refine X 1 2 ?_;replace h:=mi h fo;refine X 4 2 (sQ (iH (en:=aF) Ty.s123 rfl rfl (Y 3 2 (itr (fun hO:Int=>mkA 197 [(4,.ref 0),(5,iI s5),(179,.ref 0),(180,iI ((s7).length:Int)),(181,iI hO)]) (fun hO=>[aR 129 2 aF s7]) h (wk [] [1] 2 rfl) (fun hO v_198 h kG=>?_)))));revert kG h;revert hO;intro s38 h kG;replace h:fJ s5 s7 s38=some v_198:=h;try dsimp only
   unfold fJ at h;refine X 5 1 (T.ci h rfl (fun xO h=>?_) (fun xO h=>?_))
   ·refine B h fun x41 zt h=>(B h fun x42 jm h=>(X 5 1 (sQ (be (en:=aF) Ty.s123 rfl rfl rfl zt (sO (cg (en:=aF) (a:=x42) rfl rfl jm (uT Ty.k129 Ty.c129 rfl (cs:=(aF x42)) rfl (Y 3 1 (j1 [(4,.ref 0),(5,iI s5),(179,.ref 0),(180,iI ((s7).length:Int)),(181,iI s38),(192,.bool ((decide (x42.src<0)) || decide (x42.dst<0)))] [aR 129 2 aF s7] ?_ (fun hK=>?_))))))))))
    ·refine T.ci h rfl (fun jf h=>?_) (fun jf h=>?_)
     ·refine X 5 1 ?_;replace h:=mi h kG;cases h;exact tO [(0,129,2)] [1] 1
     exact X 5 1 (lk h (wk [] [0] 1 rfl))
    refine X 6 2 (gp 188 (fun l8=>?_) (fun l8=>?_))
    ·refine Yp 5 2 ?_;rw [l8] at hK;exact wu hK [] [0] 2 rfl
    refine Yp 5 2 ?_;rw [l8] at hK;exact wu hK [] [0] 2 rfl
   refine X 1 1 ?_;replace h:=mi h kG;refine X 6 1 (T.ci h rfl (fun xP h=>?_) (fun xP h=>?_))
   ·refine X 5 1 ?_;cases h;exact tO [(0,129,2)] [1] 1
   refine X 7 1 ?_;cases h;exact tO [] [0] 1
  refine X 6 1 (gp 40 (fun cX=>?_) (fun cX=>?_))
  ·refine Yp 5 1 ?_;rw [cX] at hK;exact sx hK
  refine Yp 5 1 ?_;rw [cX] at hK;exact sx hK
 refine X 4 1 (sQ (aH Ty.s22 rfl (Y 2 1 (gp 21 (fun au=>?_) (fun au=>?_)))))
 ·refine Yp 16 1 ?_;rw [au] at hK;exact sx hK
 refine Y 2 1 (yQ rfl (aH Ty.s22 rfl (Yp 3 1 (gp 27 (fun aI=>?_) (fun aI=>?_)))))
 ·refine Yp 10 1 ?_;rw [au] at hK;rw [aI] at hK;exact sx hK
 refine Yp 5 1 (gp 32 (fun bi=>?_) (fun bi=>?_))
 ·refine Yp 5 1 ?_;rw [au] at hK;rw [aI] at hK;rw [bi] at hK;exact sx hK
 refine Yp 5 1 ?_;rw [au] at hK;rw [aI] at hK;rw [bi] at hK;exact sx hK
theorem rG {p0:Int} {p1:List Bool} {p2:List Ends} {r:Bool} (h:ip p0 p1 p2=some r):FnX Tryz.prog 79 [iI p0,.ptr 0 0,.ptr 1 0] [.box [.ref 2],.box [.ref 3],aR 4 1 bE p1,aR 129 2 aF p2] (.bool r) [.box [.ref 2],.box [.ref 3],aR 4 1 bE p1,aR 129 2 aF p2]:=by
 unfold ip at h;refine fT 4 0 Tryz.func79 Tryz.ntmps79 rfl ?_;refine B h fun x5 hx5 h=>(B h fun x6 hx6 h=>(B h fun x7 hx7 h=>(B h fun x8 hx8 h=>(X 5 4 (T.drawn mixed (k:=10) rfl (rq [2] 9 (rL [1,3,4,5,6,7,8,9] 1 rfl (r0 3 rfl (be (en:=aF) Ty.s123 rfl rfl rfl hx5 (rq [4] 6 ?_))))))))))
 refine rL [0,6,7,8,9] 0 rfl (ra1 5 (oO rfl (cg (en:=aF) (a:=x6) rfl rfl hx6 (ai Ty.k3 (c:=iI x6.src) rfl (r0 6 rfl (be (en:=bE) Ty.s126 rfl rfl rfl hx7 (ra1 7 (oO rfl (cg (en:=bE) (a:=x8) rfl rfl hx8 (ai Ty.k4 (c:=.bool x8) rfl (rq [8,9] 0 (RA.done (by decide +kernel) ?_))))))))))));cases h;exact tN [0,1,2,3]
theorem rx {p0:List Int} {p1:List Bool} {p2:List Ends} {r:Int} (h:jr p0 p1 p2=some r):FnX Tryz.prog 104 [sL aj p0,.func 79 [.ptr 0 0,.ptr 1 0]] [.box [.ref 2],.box [.ref 3],aR 4 1 bE p1,aR 129 2 aF p2] (iI r) [.box [.ref 2],.box [.ref 3],aR 4 1 bE p1,aR 129 2 aF p2]:=by
 unfold jr at h;refine fT 4 8 Tryz.func104 Tryz.ntmps104 rfl (sQ (aH Ty.s37 rfl (Y 3 4 (itr (fun bF:Int=>mkA 19 [(0,sL aj p0),(1,.func 79 [.ptr 0 0,.ptr 1 0]),(7,iI ((p0).length:Int)),(8,iI bF)]) (fun bF=>[.box [.ref 2],.box [.ref 3],aR 4 1 bE p1,aR 129 2 aF p2]) h (wk [] [0,1,2,3] 4 rfl) (fun bF v_6 h cI=>?_)))));revert cI h;revert bF;intro s1 h cI;replace h:gm p0 p1 p2 s1=some v_6:=h;try dsimp only
 unfold gm at h;refine X 5 4 (T.ci h rfl (fun gl h=>?_) (fun gl h=>?_))
 ·refine B h fun x4 hx4 h=>(B h fun x5 hx5 h=>(X 13 4 (sQ (aJ Ty.s37 (fun _=>rfl) rfl rfl hx4 (Y 1 4 (sO (cG [0,1,2,3] 4 4 (rG hx5) ⟨rfl,(Y 1 4 (T.ci h rfl (fun cu h=>?_) (fun cu h=>?_)))⟩)))))))
  ·refine X 5 4 ?_;replace h:=mi h cI;cases h;exact tN [0,1,2,3]
  exact X 5 4 (lk h (wk [] [0,1,2,3] 4 rfl))
 refine X 1 4 ?_;replace h:=mi h cI;refine X 4 4 ?_;cases h;exact tN [0,1,2,3]
theorem rv {p0:List Int} {p1:List Bool} {p2:List Ends} {r:Bool} (h:gn p0 p1 p2=some r):FnX Tryz.prog 78 [sL aj p0,.func 79 [.ptr 0 0,.ptr 1 0]] [.box [.ref 2],.box [.ref 3],aR 4 1 bE p1,aR 129 2 aF p2] (.bool r) [.box [.ref 2],.box [.ref 3],aR 4 1 bE p1,aR 129 2 aF p2]:=by
 unfold gn at h;refine fT 4 0 Tryz.func78 Tryz.ntmps78 rfl ?_;refine B h fun x2 hx2 h=>(X 8 4 (sO (cG [0,1,2,3] 4 4 (rx hx2) ⟨rfl,(Y 3 4 ?_)⟩)))
 cases h;exact tN [0,1,2,3]
theorem sG {p0:Net} {r:(List Int) × Int} (h:iF p0=some r):FnO Tryz.prog 50 [.agg (aG p0)] (.tup [.ref 0,iI r.2]) [aR 3 1 aj r.1]:=by
 unfold iF at h;refine fT 0 0 Tryz.func50 Tryz.ntmps50 rfl ?_;refine B h fun x2 hx2 h=>(X 9 0 (sO (cO 1 (tk hx2) ⟨rfl,(Y 13 2 (T.ci h rfl (fun au h=>?_) (fun au h=>?_)))⟩)))
 ·refine X 6 3 ?_;cases h;exact tO [(0,3,1)] [3] 3
 refine B h fun x4 hx4 h=>(X 9 3 (sQ (aH Ty.s22 rfl (sO (o_mk (en:=bE) (zr:=false) Ty.s126 Ty.z4 rfl rfl hx4 rfl rfl (Y 5 4 (itr (fun fu:(List Int) × (List Bool)=>mkA 61 [(1,.ptr 0 0),(4,.ptr 1 0),(6,.ref 2),(7,.ptr 3 0)]) (fun fu=>[.box (aG p0),.box [.ref 4],aR 3 1 aj fu.1,.box [.ref 5],aR 129 2 aF x2.1,aR 4 1 bE fu.2]) h (wk [(6,3,1)] [0,2,5,4,1,3] 5 rfl) (fun fu v_73 h qP=>?_))))))))
 obtain ⟨s5,s6⟩:=fu;replace h:eQ p0 x2 s5 s6=some v_73:=h;try dsimp only
 unfold eQ at h;refine X 4 6 (sQ (iH (en:=aj) Ty.s37 rfl rfl (Y 2 6 (sQ (aH Ty.s22 rfl (Y 2 6 (T.ci h rfl (fun zh h=>?_) (fun zh h=>?_))))))))
 ·refine X 6 6 (jn (Z:=Int) (fun ia=>mkA 61 [(1,.ptr 0 0),(4,.ptr 1 0),(6,.ref 2),(7,.ptr 3 0),(8,iI ia)]) (fun ia=>[.box (aG p0),.box [.ref 4],aR 3 1 aj s5,.box [.ref 5],aR 129 2 aF x2.1,aR 4 1 bE s6]) (fun ia=>fG s5 s6 ia=some v_73) (fun ia h=>?_) (fun hK1=>?_))
  ·revert h;revert ia;intro z14 h;replace h:fG s5 s6 z14=some v_73:=h;try dsimp only
   unfold fG at h;refine X 6 6 (T.ci h rfl (fun zi h=>?_) (fun zi h=>?_))
   ·refine X 5 6 ?_;replace h:=mi h qP;cases h;exact tO [(0,3,1)] [6] 6
   refine B h fun x17 dV h=>(B h fun x18 dE h=>(X 5 6 (sQ (be (en:=bE) Ty.s126 rfl rfl rfl dV (sO (k6 (en:=bE) (a:=x18) (a':=true) Ty.c4 Ty.i4 rfl (vs:=[.bool true]) rfl rfl rfl dE rfl rfl rfl (B h fun x19 eE h=>(Y 4 6 (sO (b6 (rows:=List.map aj [z14]) (vs:=[iI z14]) Ty.s37 Ty.z3 rfl rfl rfl rfl rfl rfl (sO (gM (en:=aj) (xs:=s5) (ys:=([z14]:List Int)) Ty.s37 (fun _=>rfl) rfl rfl rfl eE rfl rfl (Y 2 8 ?_)))))))))))))
   exact lk h (wk [] [0,1,7,3,4,5] 8 rfl)
  refine X 5 6 (sQ (aH Ty.s22 rfl (Y 3 6 (itr (fun hP:Int=>mkA 61 [(1,.ptr 0 0),(4,.ptr 1 0),(6,.ref 2),(7,.ptr 3 0),(8,iI (-1)),(30,sL aa p0.Nodes),(31,iI ((p0.Nodes).length:Int)),(32,iI hP)]) (fun hP=>[.box (aG p0),.box [.ref 4],aR 3 1 aj s5,.box [.ref 5],aR 129 2 aF x2.1,aR 4 1 bE s6]) h (wk [] [0,1,2,3,4,5] 6 rfl) (fun hP v_103 h kH=>?_)))));revert kH h;revert hP;intro s7 h kH;replace h:eP p0 x2 s5 s6 s7=some v_103:=h;try dsimp only
  unfold eP at h;refine X 5 6 (T.ci h rfl (fun xQ h=>?_) (fun xQ h=>?_))
  ·refine B h fun x9 hx9 h=>(X 6 6 (sQ (aJ Ty.s22 (fun _=>rfl) rfl rfl hx9 (B h fun x10 bZ h=>(B h fun x11 eD h=>(Y 5 6 ?_))))))
   obtain ⟨xR,hz,h⟩:=bind_some h;revert hz h;revert xR;intro c13 hz h;refine j1 [(1,.ptr 0 0),(4,.ptr 1 0),(6,.ref 2),(7,.ptr 3 0),(8,iI (-1)),(9,iI s7),(30,sL aa p0.Nodes),(31,iI ((p0.Nodes).length:Int)),(32,iI s7),(48,.bool c13)] [.box (aG p0),.box [.ref 4],aR 3 1 aj s5,.box [.ref 5],aR 129 2 aF x2.1,aR 4 1 bE s6] ?_ (fun hK=>?_)
   ·refine T.ci h rfl (fun xS h=>?_) (fun xS h=>?_)
    ·refine X 6 6 ?_;replace h:=mi h kH;exact sx (hK1 s7 h)
    exact X 5 6 (lk h (wk [] [0,1,2,3,4,5] 6 rfl))
   refine X 4 7 (sQ (be (en:=bE) Ty.s126 rfl rfl rfl bZ (sO (cg (en:=bE) (a:=x11) rfl rfl eD (ai Ty.k4 (c:=.bool x11) rfl (Y 2 7 (gi 42 hz (fun xT hz=>?_) (fun xT hz=>?_))))))))
   ·refine B hz fun x12 dk hz=>(Y 3 7 (yO rfl (cG [3,1,5,4] 7 4 (rv dk) ⟨rfl,(Yp 3 7 ?_)⟩)))
    cases hz;exact wu hK [] [0,1,2,3,4,5] 7 rfl
   refine Yp 7 7 ?_;cases hz;exact wu hK [] [0,1,2,3,4,5] 7 rfl
  refine X 1 6 ?_;replace h:=mi h kH;exact sx (hK1 (-1) h)
 refine X 1 6 ?_;replace h:=mi h qP;refine X 6 6 ?_;cases h;exact tO [] [2] 6
theorem nq {p0:Net} {r:Int} (h:d6 p0=some r):Fn Tryz.prog 25 [.agg (aG p0)] (iI r):=by
 unfold d6 at h;refine fT 0 0 Tryz.func25 Tryz.ntmps25 rfl ?_;refine B h fun x2 hx2 h=>(X 8 0 (sO (cO 1 (sG hx2) ⟨rfl,(Y 11 2 ?_)⟩)))
 cases h;exact tD
theorem nj {p0:List UInt8} {r:Net × Int × Int} (h:d5 p0=some r):Fn Tryz.prog 5 [.str p0] (.tup [.agg (aG r.1),iI r.2.1,iI r.2.2]):=by
 unfold d5 at h;refine fT 0 13 Tryz.func5 Tryz.ntmps5 rfl (T.ci h rfl (fun au h=>?_) (fun au h=>?_))
 ·refine X 7 1 ?_;cases h;exact tD
 refine B h fun x2 hx2 h=>(X 4 1 (sO (cD (j6 hx2) ⟨rfl,(Y 6 1 (sQ (aH Ty.s32 rfl (Y 3 1 (nB 0 0 42 4 1 (itr (fun bY:Int × Int × Int × (List Node)=>mkA 57 [(2,.ptr 0 0),(5,sL ab x2),(16,sL ab x2),(17,iI ((x2).length:Int)),(18,iI bY.1)]) (fun bY=>[.box [.ref 1,iI bY.2.1,iI bY.2.2.1],aR 42 4 aa bY.2.2.2]) h (wk [] [0,1] 2 rfl) (fun bY v_27 h qQ=>?_)))))))⟩)))
 obtain ⟨s3,s4,s5,s6⟩:=bY;replace h:cx x2 s3 s4 s5 s6=some v_27:=h;try dsimp only
 unfold cx at h;refine X 5 2 (T.ci h rfl (fun zj h=>?_) (fun zj h=>?_))
 ·refine B h fun x8 hx8 h=>(X 6 2 (sQ (aJ Ty.s32 (fun _=>rfl) rfl rfl hx8 (Y 8 2 (sQ (aH Ty.s32 rfl (Y 4 2 ?_)))))))
  obtain ⟨ml,hz,h⟩:=bind_some h;obtain ⟨c11,c12,c13,c14⟩:=ml;refine j1 [(2,.ptr 0 0),(5,sL ab x2),(6,iI s3),(16,sL ab x2),(17,iI ((x2).length:Int)),(18,iI s3),(46,.bool c11)] [.box [.ref 1,iI c12,iI c13],aR 42 4 aa c14] ?_ (fun hK=>?_)
  ·refine T.ci h rfl (fun zk h=>?_) (fun zk h=>?_)
   ·refine X 8 2 ?_;replace h:=mi h qQ;cases h;exact tD
   exact X 5 2 (lk h (wk [] [0,1] 2 rfl))
  refine X 4 2 ?_;rcases aP (s3==(IntKind.i64.wrap (((x2).length:Int) - 1))) with cE | cE
  ·replace hz:=bu hz cE;refine yg 2 cE (yg 2 cE (yg 2 cE ?_));rcases aP (!(x8==[])) with gj | gj
   ·replace hz:=bu hz gj;exact gT 32 gj (Y 2 2 (gT 29 cE (Yp 13 2 (T.weakR hK (Weak.mkN [] [0,1] (by decide) (dq _) rfl ⟨cQ rfl,rn_s rfl,aW rfl,rn_s rfl,aW rfl,aW rfl,da ((congrArg (fun p=>p.1) (zL hz)).symm),tqz⟩ (de (cs:=[.ref 1,iI c12,iI c13]) (ds:=[.ref 1,iI s4,iI s5]) rfl ⟨fe rfl,aW ((congrArg (fun p=>p.2.1) (zL hz)).symm),aW ((congrArg (fun p=>p.2.2.1) (zL hz)).symm),tqz⟩ (rw_ar rfl ((congrArg (fun p=>p.2.2.2) (zL hz)).symm) (ae))))))))
   replace hz:=bt hz gj;refine yg 2 gj (yg 2 gj (yQ cE (bp (v:=.bool (s3==0)) rfl gj rfl (sQ (bH (v:=.bool (s3==0)) rfl cE rfl (Y 1 2 ?_))))));rcases aP (s3==0) with eC | eC
   ·replace hz:=bu hz eC;exact gT 37 eC (Yp 10 2 (T.weakR hK (Weak.mkN [] [0,1] (by decide) (dq _) rfl ⟨cQ rfl,rn_s rfl,aW rfl,rn_s rfl,aW rfl,aW rfl,da ((congrArg (fun p=>p.1) (zL hz)).symm),tqz⟩ (de (cs:=[.ref 1,iI c12,iI c13]) (ds:=[.ref 1,iI s4,iI s5]) rfl ⟨fe rfl,aW ((congrArg (fun p=>p.2.1) (zL hz)).symm),aW ((congrArg (fun p=>p.2.2.1) (zL hz)).symm),tqz⟩ (rw_ar rfl ((congrArg (fun p=>p.2.2.2) (zL hz)).symm) (ae))))))
   replace hz:=bt hz eC;refine yg 2 eC (yg 2 eC (yg 2 eC ?_));rcases aP (!(s3==(IntKind.i64.wrap (((x2).length:Int) - 1)))) with ji | ji
   ·replace hz:=bu hz ji;exact B hz fun x9 hx9 hz=>(gT 40 ji (Y 2 2 (yO rfl (cG [0,1] 2 3 (m4 hx9) ⟨rfl,(Y 1 3 (gF 37 eC (Yp 3 3 (T.weakR hK (Weak.mkN [] [0,2] (by decide) (dq _) rfl ⟨cQ rfl,rn_s rfl,aW rfl,rn_s rfl,aW rfl,aW rfl,da ((congrArg (fun p=>p.1) (zL hz)).symm),tqz⟩ (de (cs:=[.ref 1,iI c12,iI c13]) (ds:=[.ref 2,iI x9.2.1,iI x9.2.2.1]) rfl ⟨fe rfl,aW ((congrArg (fun p=>p.2.1) (zL hz)).symm),aW ((congrArg (fun p=>p.2.2.1) (zL hz)).symm),tqz⟩ (rw_ar rfl ((congrArg (fun p=>p.2.2.2) (zL hz)).symm) (ae))))))))⟩))))
   replace hz:=bt hz ji;exact gF 40 ji (Y 4 2 (gF 37 eC (Yp 3 2 (T.weakR hK (Weak.mkN [] [0,1] (by decide) (dq _) rfl ⟨cQ rfl,rn_s rfl,aW rfl,rn_s rfl,aW rfl,aW rfl,da ((congrArg (fun p=>p.1) (zL hz)).symm),tqz⟩ (de (cs:=[.ref 1,iI c12,iI c13]) (ds:=[.ref 1,iI s4,iI s5]) rfl ⟨fe rfl,aW ((congrArg (fun p=>p.2.1) (zL hz)).symm),aW ((congrArg (fun p=>p.2.2.1) (zL hz)).symm),tqz⟩ (rw_ar rfl ((congrArg (fun p=>p.2.2.2) (zL hz)).symm) (ae))))))))
  replace hz:=bt hz cE;refine sN cE (sN cE (sN cE (sU (sU (sN cE (sQ (bp (v:=.bool false) rfl cE rfl (Y 1 2 (yg 2 rfl (yg 2 rfl ?_))))))))));refine yg 2 rfl ?_;rcases aP (!(s3==(IntKind.i64.wrap (((x2).length:Int) - 1)))) with jj | jj
  ·replace hz:=bu hz jj;exact B hz fun x10 bZ hz=>(gT 40 jj (Y 2 2 (yO rfl (cG [0,1] 2 3 (m4 bZ) ⟨rfl,(Yp 4 3 (T.weakR hK (Weak.mkN [] [0,2] (by decide) (dq _) rfl ⟨cQ rfl,rn_s rfl,aW rfl,rn_s rfl,aW rfl,aW rfl,da ((congrArg (fun p=>p.1) (zL hz)).symm),tqz⟩ (de (cs:=[.ref 1,iI c12,iI c13]) (ds:=[.ref 2,iI x10.2.1,iI x10.2.2.1]) rfl ⟨fe rfl,aW ((congrArg (fun p=>p.2.1) (zL hz)).symm),aW ((congrArg (fun p=>p.2.2.1) (zL hz)).symm),tqz⟩ (rw_ar rfl ((congrArg (fun p=>p.2.2.2) (zL hz)).symm) (ae))))))⟩))))
  replace hz:=bt hz jj;exact gF 40 jj (Yp 7 2 (T.weakR hK (Weak.mkN [] [0,1] (by decide) (dq _) rfl ⟨cQ rfl,rn_s rfl,aW rfl,rn_s rfl,aW rfl,aW rfl,da ((congrArg (fun p=>p.1) (zL hz)).symm),tqz⟩ (de (cs:=[.ref 1,iI c12,iI c13]) (ds:=[.ref 1,iI s4,iI s5]) rfl ⟨fe rfl,aW ((congrArg (fun p=>p.2.1) (zL hz)).symm),aW ((congrArg (fun p=>p.2.2.1) (zL hz)).symm),tqz⟩ (rw_ar rfl ((congrArg (fun p=>p.2.2.2) (zL hz)).symm) (ae))))))
 refine X 1 2 ?_;replace h:=mi h qQ;refine B h fun x16 cc h=>(X 4 2 (sO (cF (nq cc) ⟨rfl,(Y 7 2 (T.ci h rfl (fun zl h=>?_) (fun zl h=>?_)))⟩)))
 ·refine X 8 2 ?_;cases h;exact tD
 refine X 8 2 ?_;cases h;exact tD
theorem kW {r:Net} (h:ir=some r):Fn Tryz.prog 27 [] (.agg (aG r)):=by unfold ir at h;refine fT 0 6 Tryz.func27 Tryz.ntmps27 rfl (sO (b6 (rows:=List.map aj [0]) (vs:=[iI 0]) Ty.s37 Ty.z3 rfl rfl rfl rfl rfl rfl (Y 1 2 (sO (b6 (rows:=List.map aj [1]) (vs:=[iI 1]) Ty.s37 Ty.z3 rfl rfl rfl rfl rfl rfl (Y 1 3 (sO (b6 (rows:=List.map aj [0,1]) (vs:=[iI 0,iI 1]) Ty.s37 Ty.z3 rfl rfl rfl rfl rfl rfl (sO (b6 (rows:=List.map aj [2]) (vs:=[iI 2]) Ty.s37 Ty.z3 rfl rfl rfl rfl rfl rfl (Y 1 5 (sO (b6 (rows:=List.map aj [2]) (vs:=[iI 2]) Ty.s37 Ty.z3 rfl rfl rfl rfl rfl rfl (Y 1 6 ?_))))))))))))));refine RS.fC 1 (RS.fC 2 (RS.fC 3 (RS.fC 4 (RS.fC 5 (sO (rY (rows:=List.map aa [(⟨1,0,[],[0]⟩:Node),(⟨1,1,[],[1]⟩:Node),(⟨6,0,[0,1],[2]⟩:Node),(⟨8,0,[2],[]⟩:Node)]) (vs:=[.agg [iI 1,iI 0,.nils,sL aj [0]],.agg [iI 1,iI 1,.nils,sL aj [1]],.agg [iI 6,iI 0,sL aj [0,1],sL aj [2]],.agg [iI 8,iI 0,sL aj [2],.nils]]) (vs2:=[.agg [iI 1,iI 0,sL aj [],sL aj [0]],.agg [iI 1,iI 1,sL aj [],sL aj [1]],.agg [iI 6,iI 0,sL aj [0,1],sL aj [2]],.agg [iI 8,iI 0,sL aj [2],sL aj []]]) Ty.s22 Ty.z42 rfl rfl rfl rfl rfl rfl (Y 3 7 ?_)))))));cases h;exact tD
theorem nb {p0:List (List UInt8)} {p1 r:List UInt8} (h:strings_Join p0 p1=some r):Fn Tryz.prog 38 [.sl (List.map ab p0),.str p1] (.str r):=by
 unfold strings_Join joinB at h;split at h
 ·rename_i hc;cases h;exact wO p0 p1 hc.1 hc.2
 ·cases h
theorem rS {p0 r:List Int} (h:k5 p0=some r):FnX Tryz.prog 80 [.ptr 0 0] [.boxB 93 [.np 0,.ref 1],aR 5 1 bb p0] (.tup []) [.boxB 93 [.np 0,.ref 1],aR 5 1 bb r]:=by cases h;exact r9 _
theorem ru {p0:List UInt8} {p1:List Int} {r:Int × Unit × (List Int)} (h:jq p0 p1=some r):FnX Tryz.prog 52 [.ptr 0 0,.str p0] [.boxB 93 [.np 0,.ref 1],aR 5 1 bb p1] (.tup [iI r.1,.nili]) [.boxB 93 [.np 0,.ref 2],.dead,aR 5 1 bb r.2.2]:=by unfold jq at h;refine fT 2 0 Tryz.func52 Tryz.ntmps52 rfl ?_;refine T.mvBB 0 1 1 (cs:=[.np 0,.ref 1]) rfl rfl rfl rfl (cs':=[.np 0,.ref 2]) rfl rfl (B h fun x2 hx2 h=>(X 8 3 (sO (cG [0,2] 3 2 (rS hx2) ⟨rfl,(B h fun x4 hx4 h=>(Y 7 3 (sO (sJ rfl rfl (ai Ty.k91 (c:=.ref 2) rfl (Y 1 3 (sO (uX (xs:=x2) (s:=p0) Ty.s91 Tryz.underlying9 (by kernel_rfl) rfl rfl rfl hx4 rfl rfl (Y 2 4 ?_)))))))))⟩))));refine sO (vp rfl rfl (vs:=[.ref 3]) rfl Tryz.underlying91 rfl (by decide) rfl (Y 8 4 ?_));cases h;exact tN [0,1,3]
theorem mZ {p0:List (List UInt8)} {p1 r:List Int} (h:gB p0 p1=some r):FnX Tryz.prog 51 [.ref 0,.ptr 1 0] [aR 9 1 ab p0,.boxB 93 [.np 1,.ref 2],aR 5 1 bb p1] (.tup []) [aR 9 1 ab p0,.boxB 93 [.np 1,.ref 3],.dead,aR 5 1 bb r]:=by unfold gB at h;refine fT 3 0 Tryz.func51 Tryz.ntmps51 rfl ?_;refine T.mvBB 1 1 2 (cs:=[.np 1,.ref 2]) rfl rfl rfl rfl (cs':=[.np 1,.ref 3]) rfl rfl (B h fun x1 hx1 h=>(B h fun x2 hx2 h=>(B h fun x3 hx3 h=>(X 2 4 (sO (cF (nb hx1) ⟨rfl,(sQ (xt rfl rfl hx2 (sO (cG [1,3] 4 3 (ru hx3) ⟨rfl,(Y 1 5 ?_)⟩))))⟩))))));cases h;exact eN [0,1,2,4]
theorem dY {p0:List Int} {r:List UInt8} (h:iv p0=some r):Fn Tryz.prog 53 [sL aj p0] (.str r):=by
 unfold iv at h;refine fT 0 12 Tryz.func53 Tryz.ntmps53 rfl (sQ (aH Ty.s37 rfl (Y 3 0 (itr (fun dC:Int × (List (List UInt8))=>mkA 23 [(3,.ref 0),(6,sL aj p0),(7,iI ((p0).length:Int)),(8,iI dC.1)]) (fun dC=>[aR 9 1 ab dC.2]) h (wk [(3,9,1)] [0] 0 rfl) (fun dC v_4 h zu=>?_)))));obtain ⟨s1,s2⟩:=dC;replace h:eM p0 s1 s2=some v_4:=h;try dsimp only
 unfold eM at h;refine X 5 1 (T.ci h rfl (fun cX h=>?_) (fun cX h=>?_))
 ·refine B h fun x4 hx4 h=>(X 5 1 (sQ (aJ Ty.s37 (fun _=>rfl) rfl rfl hx4 (B h fun x5 hx5 h=>(B h fun x6 hx6 h=>(Y 6 1 (sO (cF (bU hx5) ⟨rfl,(sO (b6 (rows:=List.map ab [x5]) (vs:=[.str x5]) Ty.s32 Ty.z9 rfl rfl rfl rfl rfl rfl (sO (gM (en:=ab) (xs:=s2) (ys:=([x5]:List (List UInt8))) Ty.s32 (fun _=>rfl) rfl rfl rfl hx6 rfl rfl (Y 6 3 ?_)))))⟩))))))))
  exact lk h (wk [] [2] 3 rfl)
 refine X 1 1 ?_;replace h:=mi h zu;refine X 4 1 (sQ (iH (en:=ab) Ty.s32 rfl rfl (Y 2 1 (T.ci h rfl (fun gl h=>?_) (fun gl h=>?_)))))
 ·refine X 4 1 ?_;cases h;exact tD
 refine B h fun x8 hx8 h=>(X 4 1 (sO (cF (nb hx8) ⟨rfl,(Y 2 1 ?_)⟩)))
 cases h;exact tD
theorem r8 {p0:List Int} {r:List UInt8} (h:ld p0=some r):FnX Tryz.prog 54 [.ptr 0 0] [.boxB 93 [.np 0,.ref 1],aR 5 1 bb p0] (.str r) [.dead,.dead]:=uo p0 r h
theorem r5 {p0:Net} {r:(List UInt8) × Int} (h:iy p0=some r):Fn Tryz.prog 26 [.agg (aG p0)] (.tup [.str r.1,iI r.2]):=by
 unfold iy at h;refine fT 0 0 Tryz.func26 Tryz.ntmps26 rfl ?_;refine B h fun x2 hx2 h=>(X 10 0 (sO (cF (nq hx2) ⟨rfl,(Y 7 1 (T.ci h rfl (fun au h=>?_) (fun au h=>?_)))⟩)))
 ·refine X 6 1 ?_;cases h;exact tD
 refine X 3 1 (sO (vt (e:=5) (z:=1) Ty.z93 rfl rfl (B h fun x6 hx6 h=>(B h fun x7 hx7 h=>(B h fun x8 hx8 h=>(Y 7 3 (T.drawn mixed (k:=9) rfl ?_)))))));apply RA.jn 3 (bm 9 63);intro hS2
 ·refine rq [0,1,4] 6 (rL [2,3,6,7,8] 2 rfl (ra2 3 5 ?_ ?_))
  ·exact oO rfl (cF (bU hx6) ⟨rfl,(ra1 5 (og 3 ⟨rfl,(raE hS2)⟩))⟩)
  ·exact og 3 ⟨rfl,(ra1 3 (oO rfl (cF (bU hx6) ⟨rfl,(raT hS2)⟩)))⟩
 refine ra1 6 (oO rfl (cF (bU hx7) ⟨rfl,(ra1 7 (oO rfl (b6 (rows:=List.map ab [[114,105,110,103,115],x6,x7]) (vs:=[.str [114,105,110,103,115],.str x6,.str x7]) Ty.s32 Ty.z9 rfl rfl rfl rfl rfl rfl (ra1 8 (oO rfl (cG [3,1,2] 4 4 (mZ hx8) ⟨rfl,(RA.done (by decide +kernel) (X 5 5 (sQ (aH Ty.s22 rfl (Y 3 5 ?_)))))⟩))))))⟩));refine itr (fun dB:Int × (List Int)=>mkA 50 [(5,.ptr 0 0),(6,.func 51 [.ptr 0 0]),(25,sL aa p0.Nodes),(26,iI ((p0.Nodes).length:Int)),(27,iI dB.1)]) (fun dB=>[.boxB 93 [.np 0,.ref 1],aR 5 1 bb dB.2]) h (wk [] [1,4] 5 rfl) (fun dB v_72 h zm=>?_);obtain ⟨s9,s10⟩:=dB;replace h:eO p0 s9 s10=some v_72:=h;try dsimp only
 unfold eO at h;refine X 5 2 (T.ci h rfl (fun zn h=>?_) (fun zn h=>?_))
 ·refine B h fun x12 dk h=>(X 5 2 (sQ (aJ Ty.s22 (fun _=>rfl) rfl rfl dk (B h fun x13 bN h=>(B h fun x14 bS h=>(B h fun x15 dl h=>(B h fun x16 cc h=>(B h fun x17 dV h=>(B h fun x18 dE h=>(B h fun x19 eE h=>?_))))))))))
  refine Y 4 2 (T.drawn mixed (k:=17) rfl ?_);apply RA.jn 2 (bm 17 32767);intro rk;apply RA.jn 3 (bm 17 16383);intro mH;apply RA.jn 3 (bm 17 32735);intro rl;apply RA.jn 4 (bm 17 14335);intro kM;apply RA.jn 4 (bm 17 16351);intro mI;apply RA.jn 5 (bm 17 14079);intro mJ;apply RA.jn 5 (bm 17 14303);intro kN;apply RA.jn 5 (bm 17 6143);intro mK;apply RA.jn 6 (bm 17 14047);intro jo;apply RA.jn 6 (bm 17 16327);intro rm;apply RA.jn 6 (bm 17 13055);intro rn;apply RA.jn 6 (bm 17 5887);intro ro;apply RA.jn 6 (bm 17 6111);intro mL;apply RA.jn 7 (bm 17 14279);intro mM;apply RA.jn 7 (bm 17 13023);intro kO;apply RA.jn 7 (bm 17 5855);intro kP;apply RA.jn 8 (bm 17 14023);intro kQ;apply RA.jn 8 (bm 17 14029);intro kR;apply RA.jn 8 (bm 17 6087);intro rp;apply RA.jn 8 (bm 17 4831);intro mN;apply RA.jn 9 (bm 17 12999);intro mO;apply RA.jn 9 (bm 17 13901);intro mP;apply RA.jn 9 (bm 17 14021);intro mQ;apply RA.jn 9 (bm 17 13005);intro mR;apply RA.jn 9 (bm 17 5831);intro mT;apply RA.jn 9 (bm 17 5837);intro mU;apply RA.jn 10 (bm 17 4807);intro qR;apply RA.jn 10 (bm 17 12877);intro qS;apply RA.jn 10 (bm 17 12997);intro qT;apply RA.jn 10 (bm 17 13893);intro qU;apply RA.jn 10 (bm 17 5709);intro qV;apply RA.jn 10 (bm 17 5829);intro qW;apply RA.jn 10 (bm 17 4813);intro qX
  ·refine rq [0,2,6,9,12] 12 (ra5 1 3 7 10 13 ?_ ?_ ?_ ?_ ?_)
   ·exact oO rfl (cO 3 (bT bN) ⟨rfl,(rL [7,8,11,14,15,16] 7 rfl (raE qR))⟩)
   ·refine og 3 ⟨rfl,(ra4 1 7 10 13 ?_ ?_ ?_ ?_)⟩
    ·exact oO rfl (cO 3 (bT bN) ⟨rfl,(r0 4 rfl (be (en:=ab) Ty.s32 rfl rfl rfl bS (rL [7,8,11,14,15,16] 7 rfl (raE mN))))⟩)
    ·exact og 3 ⟨rfl,(raE qX)⟩
    ·exact og 3 ⟨rfl,(raE qV)⟩
    ·exact og 3 ⟨rfl,(raE qS)⟩
   ·refine og 3 ⟨rfl,(ra4 1 3 10 13 ?_ ?_ ?_ ?_)⟩
    ·exact oO rfl (cO 3 (bT bN) ⟨rfl,(raT qR)⟩)
    ·exact og 3 ⟨rfl,(raT qX)⟩
    ·exact og 3 ⟨rfl,(raE qW)⟩
    ·exact og 3 ⟨rfl,(raE qT)⟩
   ·refine og 3 ⟨rfl,(ra4 1 3 7 13 ?_ ?_ ?_ ?_)⟩
    ·exact oO rfl (cO 3 (bT bN) ⟨rfl,(rL [7,8,11,14,15,16] 7 rfl (raE mT))⟩)
    ·exact og 3 ⟨rfl,(raT qV)⟩
    ·exact og 3 ⟨rfl,(raT qW)⟩
    ·exact og 3 ⟨rfl,(raE qU)⟩
   ·refine og 3 ⟨rfl,(ra4 1 3 7 10 ?_ ?_ ?_ ?_)⟩
    ·exact oO rfl (cO 3 (bT bN) ⟨rfl,(rL [7,8,11,14,15,16] 7 rfl (raE mO))⟩)
    ·exact og 3 ⟨rfl,(raT qS)⟩
    ·exact og 3 ⟨rfl,(raT qT)⟩
    ·exact og 3 ⟨rfl,(raT qU)⟩
  ·refine ra3 1 10 13 ?_ ?_ ?_
   ·exact oO rfl (cO 3 (bT bN) ⟨rfl,(r0 4 rfl (be (en:=ab) Ty.s32 rfl rfl rfl bS (raT mN)))⟩)
   ·exact og 3 ⟨rfl,(raE mU)⟩
   ·exact og 3 ⟨rfl,(raE mR)⟩
  ·refine ra3 1 3 13 ?_ ?_ ?_
   ·exact oO rfl (cO 3 (bT bN) ⟨rfl,(raT mT)⟩)
   ·exact og 3 ⟨rfl,(raT mU)⟩
   ·exact og 3 ⟨rfl,(raE mQ)⟩
  ·refine ra3 1 7 13 ?_ ?_ ?_
   ·exact oO rfl (cO 3 (bT bN) ⟨rfl,(r0 4 rfl (be (en:=ab) Ty.s32 rfl rfl rfl bS (rL [7,8,11,14,15,16] 7 rfl (raE kP))))⟩)
   ·exact og 3 ⟨rfl,(raT mU)⟩
   ·exact og 3 ⟨rfl,(raE mP)⟩
  ·refine ra3 1 3 7 ?_ ?_ ?_
   ·exact oO rfl (cO 3 (bT bN) ⟨rfl,(rL [7,8,11,14,15,16] 7 rfl (raE kQ))⟩)
   ·exact og 3 ⟨rfl,(raT mP)⟩
   ·exact og 3 ⟨rfl,(raT mQ)⟩
  ·refine ra3 1 3 10 ?_ ?_ ?_
   ·exact oO rfl (cO 3 (bT bN) ⟨rfl,(raT mO)⟩)
   ·exact og 3 ⟨rfl,(raT mR)⟩
   ·exact og 3 ⟨rfl,(raT mQ)⟩
  ·refine ra3 1 7 10 ?_ ?_ ?_
   ·exact oO rfl (cO 3 (bT bN) ⟨rfl,(r0 4 rfl (be (en:=ab) Ty.s32 rfl rfl rfl bS (rL [7,8,11,14,15,16] 7 rfl (raE kO))))⟩)
   ·exact og 3 ⟨rfl,(raT mR)⟩
   ·exact og 3 ⟨rfl,(raT mP)⟩
  ·refine ra4 3 8 10 13 ?_ ?_ ?_ ?_
   ·exact og 4 ⟨rfl,(r0 4 rfl (be (en:=ab) Ty.s32 rfl rfl rfl bS (raT mN)))⟩
   ·exact oO rfl (cF (bU cc) ⟨rfl,(rL [10,11,14,15,16] 10 rfl (raE rp))⟩)
   ·exact og 4 ⟨rfl,(raT mT)⟩
   ·exact og 4 ⟨rfl,(raT mO)⟩
  ·refine ra2 1 13 ?_ ?_
   ·exact oO rfl (cO 3 (bT bN) ⟨rfl,(r0 4 rfl (be (en:=ab) Ty.s32 rfl rfl rfl bS (raT kP)))⟩)
   ·exact og 3 ⟨rfl,(raE kR)⟩
  ·refine ra3 3 8 13 ?_ ?_ ?_
   ·exact og 4 ⟨rfl,(r0 4 rfl (be (en:=ab) Ty.s32 rfl rfl rfl bS (raT kP)))⟩
   ·exact oO rfl (cF (bU cc) ⟨rfl,(raT rp)⟩)
   ·exact og 4 ⟨rfl,(raT kQ)⟩
  ·refine ra2 1 10 ?_ ?_
   ·exact oO rfl (cO 3 (bT bN) ⟨rfl,(r0 4 rfl (be (en:=ab) Ty.s32 rfl rfl rfl bS (raT kO)))⟩)
   ·exact og 3 ⟨rfl,(raT kR)⟩
  ·refine ra2 1 3 ?_ ?_
   ·exact oO rfl (cO 3 (bT bN) ⟨rfl,(raT kQ)⟩)
   ·exact og 3 ⟨rfl,(raT kR)⟩
  ·refine ra2 1 7 ?_ ?_
   ·exact oO rfl (cO 3 (bT bN) ⟨rfl,(r0 4 rfl (be (en:=ab) Ty.s32 rfl rfl rfl bS (rL [7,8,11,14,15,16] 7 rfl (raE jo))))⟩)
   ·exact og 3 ⟨rfl,(raT kR)⟩
  ·refine ra3 3 8 10 ?_ ?_ ?_
   ·exact og 4 ⟨rfl,(r0 4 rfl (be (en:=ab) Ty.s32 rfl rfl rfl bS (raT kO)))⟩
   ·exact oO rfl (cF (bU cc) ⟨rfl,(rL [10,11,14,15,16] 10 rfl (raE mM))⟩)
   ·exact og 4 ⟨rfl,(raT kQ)⟩
  ·refine ra4 5 8 10 13 ?_ ?_ ?_ ?_
   ·refine oO rfl (cg (en:=ab) (a:=x15) rfl rfl dl (ai Ty.k9 (c:=.str x15) rfl (ra3 8 10 13 ?_ ?_ ?_)))
    ·exact oO rfl (cF (bU cc) ⟨rfl,(rL [10,11,14,15,16] 10 rfl (raE mK))⟩)
    ·exact og 4 ⟨rfl,(raE ro)⟩
    ·exact og 4 ⟨rfl,(raE rn)⟩
   ·exact oO rfl (cF (bU cc) ⟨rfl,(rL [10,11,14,15,16] 10 rfl (raE mL))⟩)
   ·exact og 4 ⟨rfl,(raT kP)⟩
   ·exact og 4 ⟨rfl,(raT kO)⟩
  ·refine ra3 3 11 13 ?_ ?_ ?_
   ·exact og 4 ⟨rfl,(r0 4 rfl (be (en:=ab) Ty.s32 rfl rfl rfl bS (raT mL)))⟩
   ·exact oO rfl (cF (dY dV) ⟨rfl,(rL [13,14,15,16] 13 rfl (raE rm))⟩)
   ·exact og 4 ⟨rfl,(raT mM)⟩
  ·exact ra1 1 (oO rfl (cO 3 (bT bN) ⟨rfl,(r0 4 rfl (be (en:=ab) Ty.s32 rfl rfl rfl bS (raT jo)))⟩))
  ·refine ra2 3 8 ?_ ?_
   ·exact og 4 ⟨rfl,(r0 4 rfl (be (en:=ab) Ty.s32 rfl rfl rfl bS (raT jo)))⟩
   ·exact oO rfl (cF (bU cc) ⟨rfl,(raT mM)⟩)
  ·refine ra3 5 8 13 ?_ ?_ ?_
   ·exact oO rfl (cg (en:=ab) (a:=x15) rfl rfl dl (ai Ty.k9 (c:=.str x15) rfl (raT ro)))
   ·exact oO rfl (cF (bU cc) ⟨rfl,(raT mL)⟩)
   ·exact og 4 ⟨rfl,(raT jo)⟩
  ·refine ra3 5 8 10 ?_ ?_ ?_
   ·exact oO rfl (cg (en:=ab) (a:=x15) rfl rfl dl (ai Ty.k9 (c:=.str x15) rfl (raT rn)))
   ·exact oO rfl (cF (bU cc) ⟨rfl,(rL [10,11,14,15,16] 10 rfl (raE kN))⟩)
   ·exact og 4 ⟨rfl,(raT jo)⟩
  ·refine ra2 3 11 ?_ ?_
   ·exact og 4 ⟨rfl,(r0 4 rfl (be (en:=ab) Ty.s32 rfl rfl rfl bS (raT kN)))⟩
   ·exact oO rfl (cF (dY dV) ⟨rfl,(raT rm)⟩)
  ·refine ra3 5 11 13 ?_ ?_ ?_
   ·exact oO rfl (cg (en:=ab) (a:=x15) rfl rfl dl (ai Ty.k9 (c:=.str x15) rfl (raT mK)))
   ·exact oO rfl (cF (dY dV) ⟨rfl,(rL [13,14,15,16] 13 rfl (raE mI))⟩)
   ·exact og 4 ⟨rfl,(raT kN)⟩
  ·refine ra2 8 13 ?_ ?_
   ·exact oO rfl (cF (bU cc) ⟨rfl,(raT mK)⟩)
   ·exact og 4 ⟨rfl,(raE mJ)⟩
  ·refine ra2 8 10 ?_ ?_
   ·exact oO rfl (cF (bU cc) ⟨rfl,(ra1 10 (og 4 ⟨rfl,(raE kM)⟩))⟩)
   ·exact og 4 ⟨rfl,(raT mJ)⟩
  ·refine ra2 3 14 ?_ ?_
   ·exact og 4 ⟨rfl,(r0 4 rfl (be (en:=ab) Ty.s32 rfl rfl rfl bS (raT mI)))⟩
   ·exact oO rfl (cF (dY dE) ⟨rfl,(ra1 3 (og 4 ⟨rfl,(r0 4 rfl (be (en:=ab) Ty.s32 rfl rfl rfl bS (raE rl)))⟩))⟩)
  ·refine ra2 5 8 ?_ ?_
   ·exact oO rfl (cg (en:=ab) (a:=x15) rfl rfl dl (ai Ty.k9 (c:=.str x15) rfl (raT mJ)))
   ·exact oO rfl (cF (bU cc) ⟨rfl,(raT kN)⟩)
  ·refine ra2 11 13 ?_ ?_
   ·exact oO rfl (cF (dY dV) ⟨rfl,(ra1 13 (og 4 ⟨rfl,(raE mH)⟩))⟩)
   ·exact og 4 ⟨rfl,(raT kM)⟩
  ·refine ra2 5 11 ?_ ?_
   ·exact oO rfl (cg (en:=ab) (a:=x15) rfl rfl dl (ai Ty.k9 (c:=.str x15) rfl (raT kM)))
   ·exact oO rfl (cF (dY dV) ⟨rfl,(raT mI)⟩)
  ·exact ra1 8 (oO rfl (cF (bU cc) ⟨rfl,(raT kM)⟩))
  ·refine ra2 5 14 ?_ ?_
   ·exact oO rfl (cg (en:=ab) (a:=x15) rfl rfl dl (ai Ty.k9 (c:=.str x15) rfl (raT mH)))
   ·exact oO rfl (cF (dY dE) ⟨rfl,(raT rl)⟩)
  ·exact ra1 11 (oO rfl (cF (dY dV) ⟨rfl,(raT mH)⟩))
  ·exact ra1 5 (oO rfl (cg (en:=ab) (a:=x15) rfl rfl dl (ai Ty.k9 (c:=.str x15) rfl (raE rk))))
  ·exact ra1 14 (oO rfl (cF (dY dE) ⟨rfl,(raT rk)⟩))
  exact ra1 15 (oO rfl (b6 (rows:=List.map ab [x15,x16,x17,x18]) (vs:=[.str x15,.str x16,.str x17,.str x18]) Ty.s32 Ty.z9 rfl rfl rfl rfl rfl rfl (ra1 16 (oO rfl (cG [4,0,1] 5 4 (mZ eE) ⟨rfl,(RA.done (by decide +kernel) (X 4 6 (lk h (wk [] [0,5] 6 rfl))))⟩)))))
 refine X 1 2 ?_;replace h:=mi h zm;refine B h fun x21 fy h=>(X 2 2 (sO (cG [0,1] 2 2 (r8 fy) ⟨rfl,(Y 3 2 ?_)⟩)))
 cases h;exact tD
theorem m3 {p0 p1:List Int} {r:Bool} (h:fF p0 p1=some r):Fn Tryz.prog 30 [sL aj p0,sL aj p1] (.bool r):=by
 unfold fF at h;refine fT 0 8 Tryz.func30 Tryz.ntmps30 rfl (sQ (aH Ty.s37 rfl (Y 1 0 (sQ (aH Ty.s37 rfl (Y 2 0 (T.ci h rfl (fun au h=>?_) (fun au h=>?_))))))))
 ·refine X 4 0 ?_;cases h;exact tD
 refine X 5 0 (sQ (aH Ty.s37 rfl (Y 3 0 (itr (fun cV:Int=>mkA 26 [(0,sL aj p0),(1,sL aj p1),(12,iI ((p0).length:Int)),(13,iI cV)]) (fun cV=>[]) h (wk [] [] 0 rfl) (fun cV v_7 h eF=>?_)))));revert eF h;revert cV;intro s1 h eF;replace h:ij p0 p1 s1=some v_7:=h;try dsimp only
 unfold ij at h;refine X 5 0 (T.ci h rfl (fun cu h=>?_) (fun cu h=>?_))
 ·refine B h fun x4 hx4 h=>(B h fun x5 hx5 h=>(X 9 0 (T.drawn mixed (k:=9) rfl (rq [0,1] 7 (r0 2 rfl (aJ Ty.s37 (fun _=>rfl) rfl rfl hx4 (rq [4,5] 4 (r0 6 rfl (aJ Ty.s37 (fun _=>rfl) rfl rfl hx5 (rL [3,8] 3 rfl (ra1 7 ?_)))))))))))
  refine og 0 ⟨rfl,(rq [8] 0 (RA.done (by decide +kernel) (T.ci h rfl (fun dD h=>?_) (fun dD h=>?_))))⟩
  ·refine X 4 0 ?_;replace h:=mi h eF;cases h;exact tD
  exact X 5 0 (lk h (wk [] [] 0 rfl))
 refine X 1 0 ?_;replace h:=mi h eF;refine X 4 0 ?_;cases h;exact tD
theorem rF {p0 p1:Node} {r:Bool} (h:im p0 p1=some r):Fn Tryz.prog 29 [.agg (aa p0),.agg (aa p1)] (.bool r):=by
 unfold im at h;refine fT 0 6 Tryz.func29 Tryz.ntmps29 rfl ?_;obtain ⟨zw,hz,h⟩:=bind_some h;revert hz h;revert zw;intro c3 hz h;refine j1 [(4,.bool c3)] [] ?_ (fun hK=>?_)
 ·cases h;exact tD
 refine X 8 2 (gi 10 hz (fun au hz=>?_) (fun au hz=>?_))
 ·refine Yp 7 2 (gi 17 hz (fun aI hz=>?_) (fun aI hz=>?_))
  ·refine B hz fun x1 hx1 hz=>(Y 4 2 (yO rfl (cF (m3 hx1) ⟨rfl,(Yp 2 2 (gi 24 hz (fun bi hz=>?_) (fun bi hz=>?_)))⟩)))
   ·refine B hz fun x2 hx2 hz=>(Y 4 2 (yO rfl (cF (m3 hx2) ⟨rfl,(Yp 3 2 ?_)⟩)))
    cases hz;exact wu hK [] [] 2 rfl
   refine Yp 8 2 ?_;cases hz;exact wu hK [] [] 2 rfl
  refine Yp 15 2 ?_;cases hz;exact wu hK [] [] 2 rfl
 refine Yp 22 2 ?_;cases hz;exact wu hK [] [] 2 rfl
theorem rr {p0 p1:List Node} {r:Bool} (h:jp p0 p1=some r):Fn Tryz.prog 28 [sL aa p0,sL aa p1,.func 29 []] (.bool r):=by
 unfold jp at h;refine fT 0 8 Tryz.func28 Tryz.ntmps28 rfl (sQ (aH Ty.s22 rfl (Y 1 0 (sQ (aH Ty.s22 rfl (Y 2 0 (T.ci h rfl (fun au h=>?_) (fun au h=>?_))))))))
 ·refine X 4 0 ?_;cases h;exact tD
 refine X 5 0 (sQ (aH Ty.s22 rfl (Y 3 0 (itr (fun cV:Int=>mkA 32 [(1,sL aa p1),(2,.func 29 []),(15,sL aa p0),(16,iI ((p0).length:Int)),(17,iI cV)]) (fun cV=>[]) h (wk [] [] 0 rfl) (fun cV v_7 h eF=>?_)))));revert eF h;revert cV;intro s1 h eF;replace h:eG p0 p1 s1=some v_7:=h;try dsimp only
 unfold eG at h;refine X 5 0 (T.ci h rfl (fun cu h=>?_) (fun cu h=>?_))
 ·refine B h fun x3 hx3 h=>(X 6 0 (sQ (aJ Ty.s22 (fun _=>rfl) rfl rfl hx3 (B h fun x5 hx5 h=>(Y 9 0 (sQ (aJ Ty.s22 (fun _=>rfl) rfl rfl hx5 (B h fun x7 hx7 h=>(Y 9 1 (sO (cF (rF hx7) ⟨rfl,(Y 2 2 ?_)⟩)))))))))))
  refine T.ci h rfl (fun dD h=>?_) (fun dD h=>?_)
  ·refine X 4 2 ?_;replace h:=mi h eF;cases h;exact tD
  exact X 5 2 (lk h (wk [] [] 2 rfl))
 refine X 1 0 ?_;replace h:=mi h eF;refine X 4 0 ?_;cases h;exact tD
theorem ik {p0 p1:Net} {r:Bool} (h:dp p0 p1=some r):Fn Tryz.prog 7 [.agg (aG p0),.agg (aG p1)] (.bool r):=by
 unfold dp at h;refine fT 0 6 Tryz.func7 Tryz.ntmps7 rfl ?_;obtain ⟨my,hz,h⟩:=bind_some h;revert hz h;revert my;intro c2 hz h;refine j1 [(4,.bool c2)] [] ?_ (fun hK=>?_)
 ·cases h;exact tD
 refine X 8 2 (gi 10 hz (fun au hz=>?_) (fun au hz=>?_))
 ·refine Yp 7 2 (gi 17 hz (fun aI hz=>?_) (fun aI hz=>?_))
  ·refine B hz fun x1 hx1 hz=>(Y 4 2 (yO rfl (cF (rr hx1) ⟨rfl,(Yp 3 2 ?_)⟩)))
   cases hz;exact wu hK [] [] 2 rfl
  refine Yp 8 2 ?_;cases hz;exact wu hK [] [] 2 rfl
 refine Yp 15 2 ?_;cases hz;exact wu hK [] [] 2 rfl
theorem m7 {r:Bool} (h:gD=some r):Fn Tryz.prog 6 [] (.bool r):=by
 unfold gD at h;refine fT 0 0 Tryz.func6 Tryz.ntmps6 rfl ?_;refine B h fun x3 hx3 h=>(B h fun x4 hx4 h=>(X 6 0 (sO (cD (kW hx3) ⟨rfl,(sO (cF (r5 hx4) ⟨rfl,(B h fun x6 hx6 h=>(Y 9 0 (sO (cD (nj hx6) ⟨rfl,(Y 9 0 ?_)⟩))))⟩))⟩))))
 obtain ⟨zx,hz,h⟩:=bind_some h;revert hz h;revert zx;intro c9 hz h;refine j1 [(0,.bool c9)] [] ?_ (fun hK=>?_)
 ·cases h;exact tD
 refine X 1 1 ?_;rcases aP (x4.2==0) with au | au
 ·replace hz:=bu hz au;rcases aP (x6.2.2==0) with aI | aI
  ·replace hz:=bu hz aI;rcases aP (x6.2.1==0) with bi | bi
   ·replace hz:=bu hz bi;rcases aP (x4.1==[114,105,110,103,115,32,51,32,49,10,115,111,117,114,99,101,32,48,32,45,32,48,10,115,111,117,114,99,101,32,49,32,45,32,49,10,109,101,114,103,101,32,48,32,48,44,49,32,50,10,115,105,110,107,32,48,32,50,32,45,10]) with bJ | bJ
    ·replace hz:=bu hz bJ;refine B hz fun x7 hx7 hz=>(B hz fun x8 hx8 hz=>(T.drawn mixed (k:=20) rfl ?_))
     apply RA.jn 3 (bm 20 131071);intro hS6
     ·refine rq [0,1,2] 17 (ry 3 au rfl (ry 4 au rfl (r0 5 rfl (bH (v:=.bool (x6.2.2==0)) rfl au rfl (rq [6] 13 (ry 7 aI rfl (ry 8 aI rfl (r0 9 rfl (bH (v:=.bool (x6.2.1==0)) rfl aI rfl (rq [10] 9 (ry 11 bi rfl ?_)))))))))));refine ry 12 bi rfl (r0 13 rfl (bH (v:=.bool (x4.1==[114,105,110,103,115,32,51,32,49,10,115,111,117,114,99,101,32,48,32,45,32,48,10,115,111,117,114,99,101,32,49,32,45,32,49,10,109,101,114,103,101,32,48,32,48,44,49,32,50,10,115,105,110,107,32,48,32,50,32,45,10])) rfl bi rfl (rq [14] 5 (ra2 15 16 ?_ ?_))))
      ·exact oy 1 bJ rfl (ra1 16 (oP rfl bJ (cD (kW hx7) ⟨rfl,(raE hS6)⟩)))
      ·exact oP rfl bJ (cD (kW hx7) ⟨rfl,(ra1 15 (oy 1 bJ rfl (raT hS6)))⟩)
     exact ra1 17 (oP rfl bJ (cF (ik hx8) ⟨rfl,(r0 18 rfl (bH (v:=.bool x8) rfl bJ rfl (rq [19] 0 (RA.done (by decide +kernel) (T.weakR hK (Weak.mkN [] [] (by decide) (dq _) rfl ⟨da ((congrArg (fun p=>p) (zL hz)).symm),tqz⟩ (ae)))))))⟩))
    replace hz:=bt hz bJ;refine T.drawn mixed (k:=20) rfl (rq [0,1,2] 17 (ry 3 au rfl (ry 4 au rfl (r0 5 rfl (bH (v:=.bool (x6.2.2==0)) rfl au rfl (rq [6] 13 (ry 7 aI rfl (ry 8 aI rfl (r0 9 rfl (bH (v:=.bool (x6.2.1==0)) rfl aI rfl (rq [10] 9 ?_)))))))))));refine ry 11 bi rfl (ry 12 bi rfl (r0 13 rfl (bH (v:=.bool (x4.1==[114,105,110,103,115,32,51,32,49,10,115,111,117,114,99,101,32,48,32,45,32,48,10,115,111,117,114,99,101,32,49,32,45,32,49,10,109,101,114,103,101,32,48,32,48,44,49,32,50,10,115,105,110,107,32,48,32,50,32,45,10])) rfl bi rfl (rq [14] 5 (r2 15 rfl bJ (r2 16 rfl bJ (r2 17 rfl bJ (r0 18 rfl (bp (v:=.bool false) rfl bJ rfl (rq [19] 0 (RA.done (by decide +kernel) ?_)))))))))));exact T.weakR hK (Weak.mkN [] [] (by decide) (dq _) rfl ⟨da ((congrArg (fun p=>p) (zL hz)).symm),tqz⟩ (ae))
   replace hz:=bt hz bi;refine T.drawn mixed (k:=20) rfl (rq [0,1,2] 17 (ry 3 au rfl (ry 4 au rfl (r0 5 rfl (bH (v:=.bool (x6.2.2==0)) rfl au rfl (rq [6] 13 (ry 7 aI rfl (ry 8 aI rfl (r0 9 rfl (bH (v:=.bool (x6.2.1==0)) rfl aI rfl (rq [10] 9 ?_)))))))))));exact r2 11 rfl bi (r2 12 rfl bi (r0 13 rfl (bp (v:=.bool false) rfl bi rfl (rq [14] 5 (r2 15 rfl rfl (r2 16 rfl rfl (r2 17 rfl rfl (r0 18 rfl (bp (v:=.bool false) rfl rfl rfl (rq [19] 0 (RA.done (by decide +kernel) (T.weakR hK (Weak.mkN [] [] (by decide) (dq _) rfl ⟨da ((congrArg (fun p=>p) (zL hz)).symm),tqz⟩ (ae))))))))))))))
  replace hz:=bt hz aI;refine T.drawn mixed (k:=20) rfl (rq [0,1,2] 17 (ry 3 au rfl (ry 4 au rfl (r0 5 rfl (bH (v:=.bool (x6.2.2==0)) rfl au rfl (rq [6] 13 (r2 7 rfl aI (r2 8 rfl aI (r0 9 rfl (bp (v:=.bool false) rfl aI rfl (rq [10] 9 ?_)))))))))));exact r2 11 rfl rfl (r2 12 rfl rfl (r0 13 rfl (bp (v:=.bool false) rfl rfl rfl (rq [14] 5 (r2 15 rfl rfl (r2 16 rfl rfl (r2 17 rfl rfl (r0 18 rfl (bp (v:=.bool false) rfl rfl rfl (rq [19] 0 (RA.done (by decide +kernel) (T.weakR hK (Weak.mkN [] [] (by decide) (dq _) rfl ⟨da ((congrArg (fun p=>p) (zL hz)).symm),tqz⟩ (ae))))))))))))))
 replace hz:=bt hz au;refine T.drawn mixed (k:=20) rfl (rq [0,1,2] 17 (r2 3 rfl au (r2 4 rfl au (r0 5 rfl (bp (v:=.bool false) rfl au rfl (rq [6] 13 (r2 7 rfl rfl (r2 8 rfl rfl (r0 9 rfl (bp (v:=.bool false) rfl rfl rfl (rq [10] 9 ?_)))))))))));exact r2 11 rfl rfl (r2 12 rfl rfl (r0 13 rfl (bp (v:=.bool false) rfl rfl rfl (rq [14] 5 (r2 15 rfl rfl (r2 16 rfl rfl (r2 17 rfl rfl (r0 18 rfl (bp (v:=.bool false) rfl rfl rfl (rq [19] 0 (RA.done (by decide +kernel) (T.weakR hK (Weak.mkN [] [] (by decide) (dq _) rfl ⟨da ((congrArg (fun p=>p) (zL hz)).symm),tqz⟩ (ae))))))))))))))
theorem uq {p0 p1:List UInt8} {r:Int} (h:index1W p0 p1=some r):Fn Tryz.prog 55 [.str p0,.str p1] (.int .i64 r):=ud p0 p1 r h
theorem rz {p0 p1:List UInt8} {r:(List UInt8) × (List UInt8) × Bool} (h:ii p0 p1=some r):Fn Tryz.prog 31 [.str p0,.str p1] (.tup [.str r.1,.str r.2.1,.bool r.2.2]):=by
 unfold ii at h;refine fT 0 0 Tryz.func31 Tryz.ntmps31 rfl ?_;refine B h fun x2 hx2 h=>(X 11 0 (sO (cF (uq hx2) ⟨rfl,(Y 7 0 (T.ci h rfl (fun au h=>?_) (fun au h=>?_)))⟩)))
 ·refine B h fun x5 hx5 h=>(B h fun x6 hx6 h=>(X 1 0 (T.drawn mixed (k:=12) rfl (rq [0,1] 10 (r0 2 rfl (nn Tryz.underlying9 rfl rfl rfl hx5 (rq [3,4,5,6,7] 4 (r0 8 rfl (nn Tryz.underlying9 rfl rfl rfl hx6 (rq [9,10,11] 0 (RA.done (by decide +kernel) ?_)))))))))))
  cases h;exact tD
 refine X 8 0 ?_;cases h;exact tD
theorem rX {p0 p1:List UInt8} {r:(List UInt8) × (List UInt8) × Bool} (h:eT p0 p1=some r):Fn Tryz.prog 8 [.str p0,.str p1] (.tup [.str r.1,.str r.2.1,.bool r.2.2]):=by
 unfold eT at h;refine fT 0 0 Tryz.func8 Tryz.ntmps8 rfl ?_;refine B h fun x2 hx2 h=>(X 10 0 (sO (cF (rz hx2) ⟨rfl,(Y 7 0 ?_)⟩)))
 cases h;exact tD
theorem uJ {p0:List UInt8} {p1 p2 r:Int} (h:f5 p0 p1 p2=some r):Fn Tryz.prog 21 [.str p0,.int .i64 p1,.int .i64 p2] (.tup [.int .i64 r,.ifc 112 .any]):=by
 unfold f5 at h;split at h
 ·rename_i h0;obtain ⟨rfl,rfl⟩:=h0;exact uE p0 r h
 ·cases h
theorem vD {p0:List UInt8} {p1 p2 r:Int} (h:iZ p0 p1 p2=some r):Fn Tryz.prog 21 [.str p0,.int .i64 p1,.int .i64 p2] (.tup [.int .i64 r,.nili]):=by
 unfold iZ at h;split at h
 ·rename_i h0;obtain ⟨rfl,rfl⟩:=h0;exact tW p0 r h
 ·cases h
theorem uk {p0 p1:Int} {r:List UInt8} (h:iQ p0 p1=some r):Fn Tryz.prog 22 [.int .i64 p0,.int .i64 p1] (.str r):=by
 unfold iQ at h;split at h
 ·rename_i h0;subst h0;exact tK p0 r h
 ·cases h
theorem rK {p0:List UInt8} {r:Int × Bool} (h:iu p0=some r):Fn Tryz.prog 11 [.str p0] (.tup [iI r.1,.bool r.2]):=by
 unfold iu at h;refine fT 0 5 Tryz.func11 Tryz.ntmps11 rfl (T.join1 (Z:=Int × Bool) (fun fB=>mkA 24 [(2,iI fB.1),(3,.bool fB.2)]) (fun fB=>[]) (fun fB=>fE fB.1 fB.2=some r) (fun fB h=>?_) (fun hK1=>?_))
 ·obtain ⟨z9,z10⟩:=fB;replace h:fE z9 z10=some r:=h;try dsimp only
  unfold fE at h;cases h;exact tD
 refine X 3 0 ?_;rcases aP (eZ p0) with cu | cu
 ·replace h:=bu h cu;exact B h fun x5 hx5 h=>(sO (cD (uJ hx5) ⟨rfl,(Y 10 0 (sO (ue Tryz.underlying57 rfl rfl (Yp 13 0 (sx (hK1 (x5,false) h))))))⟩))
 replace h:=bt h cu;refine B h fun x6 hx6 h=>(sO (cD (vD hx6) ⟨rfl,(Y 6 0 ?_)⟩))
 obtain ⟨zo,hz,h⟩:=bind_some h;revert hz h;revert zo;intro c8 hz h;refine j1 [(2,iI x6),(3,.bool c8)] [] ?_ (fun hK=>?_)
 ·exact sx (hK1 (x6,c8) h)
 refine X 4 0 (sO (wc Tryz.underlying57 rfl (Yp 5 0 (gi 18 hz (fun dD hz=>?_) (fun dD hz=>?_)))))
 ·refine B hz fun x7 hx7 hz=>(Y 1 0 (yO rfl (cF (uk hx7) ⟨rfl,(Yp 6 0 ?_)⟩)))
  cases hz;exact sx hK
 refine Yp 8 0 ?_;cases hz;exact sx hK
theorem cv {p0:List UInt8} {p1:Bool} {r:Int × Bool} (h:eI p0 p1=some r):FnX Tryz.prog 10 [.str p0,.ptr 0 0] [.box [.bool p1]] (iI r.1) [.box [.bool r.2]]:=by
 unfold eI at h;refine fT 1 0 Tryz.func10 Tryz.ntmps10 rfl ?_;refine B h fun x2 hx2 h=>(X 7 1 (sO (cF (rK hx2) ⟨rfl,(Y 6 1 (j1 [(4,iI x2.1)] [.box [.bool (p1 && x2.2)]] ?_ (fun hK=>?_)))⟩)))
 ·refine X 5 1 ?_;cases h;exact tN [0]
 refine X 4 1 (gp 12 (fun au=>?_) (fun au=>?_))
 ·refine Yp 4 1 ?_;rw [au] at hK;exact sx hK
 refine Yp 4 1 ?_;rw [au] at hK;exact sx hK
theorem m5 {r:List (List UInt8)} (h:jx=some r):FnO Tryz.prog 14 [] (.ref 0) [aR 9 1 ab r]:=by unfold jx at h;refine fT 0 6 Tryz.func14 Tryz.ntmps14 rfl (sO (b6 (rows:=List.map ab [[115,111,117,114,99,101],[109,97,112],[115,99,97,110],[99,111,117,110,116],[116,101,101],[109,101,114,103,101],[115,112,108,105,116],[115,105,110,107]]) (vs:=[.str [115,111,117,114,99,101],.str [109,97,112],.str [115,99,97,110],.str [99,111,117,110,116],.str [116,101,101],.str [109,101,114,103,101],.str [115,112,108,105,116],.str [115,105,110,107]]) Ty.s32 Ty.z9 rfl rfl rfl rfl rfl rfl (Y 2 1 ?_)));cases h;exact tO [] [0] 1
theorem rA {p0:List (List UInt8)} {p1:List UInt8} {r:Int} (h:js p0 p1=some r):Fn Tryz.prog 13 [sL ab p0,.str p1] (iI r):=by
 unfold js at h;refine fT 0 8 Tryz.func13 Tryz.ntmps13 rfl (sQ (aH Ty.s32 rfl (Y 3 0 (itr (fun bF:Int=>mkA 19 [(0,sL ab p0),(1,.str p1),(7,iI ((p0).length:Int)),(8,iI bF)]) (fun bF=>[]) h (wk [] [] 0 rfl) (fun bF v_6 h cI=>?_)))));revert cI h;revert bF;intro s1 h cI;replace h:dF p0 p1 s1=some v_6:=h;try dsimp only
 unfold dF at h;refine X 5 0 (T.ci h rfl (fun gl h=>?_) (fun gl h=>?_))
 ·refine B h fun x3 hx3 h=>(X 13 0 (sQ (aJ Ty.s32 (fun _=>rfl) rfl rfl hx3 (Y 3 0 (T.ci h rfl (fun cu h=>?_) (fun cu h=>?_))))))
  ·refine X 5 0 ?_;replace h:=mi h cI;cases h;exact tD
  exact X 5 0 (lk h (wk [] [] 0 rfl))
 refine X 1 0 ?_;replace h:=mi h cI;refine X 4 0 ?_;cases h;exact tD
theorem gr {p0:List UInt8} {p1:Bool} {r:(List Int) × Bool} (h:gu p0 p1=some r):FnX Tryz.prog 12 [.str p0,.ptr 0 0] [.box [.func 10 [.ptr 1 0]],.box [.bool p1]] (.ref 2) [.box [.func 10 [.ptr 1 0]],.box [.bool r.2],aR 3 1 aj r.1]:=by
 unfold gu at h;refine fT 2 14 Tryz.func12 Tryz.ntmps12 rfl (T.ci h rfl (fun au h=>?_) (fun au h=>?_))
 ·refine X 4 2 ?_;cases h;exact tO [(0,3,1)] [0,1,2] 2
 refine B h fun x2 hx2 h=>(X 5 2 (sO (cD (j6 hx2) ⟨rfl,(sQ (aH Ty.s32 rfl (Y 3 2 (itr (fun cH:Int × Bool × (List Int)=>mkA 24 [(1,.ptr 0 0),(4,.ref 2),(10,sL ab x2),(11,iI ((x2).length:Int)),(12,iI cH.1)]) (fun cH=>[.box [.func 10 [.ptr 1 0]],.box [.bool cH.2.1],aR 3 1 aj cH.2.2]) h (wk [(4,3,1)] [0,1,2] 2 rfl) (fun cH v_5 h zy=>?_)))))⟩)))
 obtain ⟨s3,s4,s5⟩:=cH;replace h:eH x2 s3 s4 s5=some v_5:=h;try dsimp only
 unfold eH at h;refine X 5 3 (T.ci h rfl (fun gk h=>?_) (fun gk h=>?_))
 ·refine B h fun x7 hx7 h=>(X 5 3 (sQ (aJ Ty.s32 (fun _=>rfl) rfl rfl hx7 (B h fun x8 hx8 h=>(B h fun x9 hx9 h=>(Y 7 3 (sO (cG [1] 3 1 (cv hx8) ⟨rfl,(sO (b6 (rows:=List.map aj [x8.1]) (vs:=[iI x8.1]) Ty.s37 Ty.z3 rfl rfl rfl rfl rfl rfl (sO (gM (en:=aj) (xs:=s5) (ys:=([x8.1]:List Int)) Ty.s37 (fun _=>rfl) rfl rfl rfl hx9 rfl rfl (Y 6 5 ?_)))))⟩))))))))
  exact lk h (wk [] [0,1,4] 5 rfl)
 refine X 1 3 ?_;replace h:=mi h zy;refine X 5 3 ?_;cases h;exact tO [] [0,1,2] 3
theorem mY {p0:Int} {r:Bool} (h:gz p0=some r):Fn Tryz.prog 35 [iI p0] (.bool r):=by unfold gz at h;refine fT 0 10 Tryz.func35 Tryz.ntmps35 rfl ?_;cases h;exact tD
theorem dm {p0:Int} {r:Bool} (h:ce p0=some r):Fn Tryz.prog 33 [iI p0] (.bool r):=by unfold ce at h;refine fT 0 10 Tryz.func33 Tryz.ntmps33 rfl ?_;cases h;exact tD
theorem kV {p0:Int} {r:Bool} (h:fD p0=some r):Fn Tryz.prog 34 [iI p0] (.bool r):=by unfold fD at h;refine fT 0 10 Tryz.func34 Tryz.ntmps34 rfl ?_;cases h;exact tD
theorem rJ {p0:List Int} {p1 r:Int} (h:ju p0 p1=some r):Fn Tryz.prog 59 [sL aj p0,iI p1] (iI r):=by
 unfold ju at h;refine fT 0 8 Tryz.func59 Tryz.ntmps59 rfl (sQ (aH Ty.s37 rfl (Y 3 0 (itr (fun bF:Int=>mkA 19 [(0,sL aj p0),(1,iI p1),(7,iI ((p0).length:Int)),(8,iI bF)]) (fun bF=>[]) h (wk [] [] 0 rfl) (fun bF v_6 h cI=>?_)))));revert cI h;revert bF;intro s1 h cI;replace h:gy p0 p1 s1=some v_6:=h;try dsimp only
 unfold gy at h;refine X 5 0 (T.ci h rfl (fun gl h=>?_) (fun gl h=>?_))
 ·refine B h fun x3 hx3 h=>(X 13 0 (sQ (aJ Ty.s37 (fun _=>rfl) rfl rfl hx3 (Y 3 0 (T.ci h rfl (fun cu h=>?_) (fun cu h=>?_))))))
  ·refine X 5 0 ?_;replace h:=mi h cI;cases h;exact tD
  exact X 5 0 (lk h (wk [] [] 0 rfl))
 refine X 1 0 ?_;replace h:=mi h cI;refine X 4 0 ?_;cases h;exact tD
theorem mX {p0:List Int} {p1:Int} {r:Bool} (h:gw p0 p1=some r):Fn Tryz.prog 36 [sL aj p0,iI p1] (.bool r):=by
 unfold gw at h;refine fT 0 0 Tryz.func36 Tryz.ntmps36 rfl ?_;refine B h fun x2 hx2 h=>(X 8 0 (sO (cF (rJ hx2) ⟨rfl,(Y 3 0 ?_)⟩)))
 cases h;exact tD
end
section
open Go.RowKit
set_option maxRecDepth 100000
set_option maxHeartbeats 4000000
set_option synthInstance.maxSize 100000
set_option synthInstance.maxHeartbeats 4000000
theorem rH {p0:Net} {r:(List Int) × Int} (h:iq p0=some r):FnO Tryz.prog 15 [.agg (aG p0)] (.tup [.ref 0,iI r.2]) [aR 3 1 aj r.1]:=by
 unfold iq at h;refine fT 0 7 Tryz.func15 Tryz.ntmps15 rfl (j1 [(1,.ptr 0 0),(48,.bool ((((p0.Nodes).length:Int)==0) || ((decide (((p0.Nodes).length:Int) > 12)) || ((decide (p0.Rings<0)) || decide (p0.Rings > 16)))))] [.box (aG p0)] ?_ (fun hK=>?_))
 ·refine T.ci h rfl (fun bJ h=>?_) (fun bJ h=>?_)
  ·refine X 5 1 ?_;cases h;exact tO [(0,3,1)] [1] 1
  refine X 2 1 (j1 [(1,.ptr 0 0),(56,.bool ((decide (p0.Room<1)) || decide (p0.Room > 6)))] [.box (aG p0)] ?_ (fun hK=>?_))
  ·refine T.ci h rfl (fun gk h=>?_) (fun gk h=>?_)
   ·refine X 5 1 ?_;cases h;exact tO [(0,3,1)] [1] 1
   refine X 3 1 (sO (jV rfl rfl (sO (jV rfl rfl (Y 12 3 (sQ (aH Ty.s22 rfl (Y 3 3 (itr (fun cB:Int × Int × (List (Int × Int)) × (List (Int × Int))=>mkA 249 [(1,.ptr 0 0),(4,.mpr 1),(5,.mpr 2),(6,iI cB.1),(60,sL aa p0.Nodes),(61,iI ((p0.Nodes).length:Int)),(62,iI cB.2.1)]) (fun cB=>[.box (aG p0),.mp (List.map kI (List.map Prod.fst cB.2.2.1)) (List.map kI (List.map Prod.snd cB.2.2.1)),.mp (List.map kI (List.map Prod.fst cB.2.2.2)) (List.map kI (List.map Prod.snd cB.2.2.2))]) h (wk [] [0,1,2] 3 rfl) (fun cB v_294 h co=>?_))))))))));obtain ⟨s3,s4,s5,s6⟩:=cB;replace h:dH p0 s3 s4 s5 s6=some v_294:=h;try dsimp only
   unfold dH at h;refine X 5 3 (T.ci h rfl (fun xU h=>?_) (fun xU h=>?_))
   ·refine B h fun x8 hx8 h=>(X 6 3 (sQ (aJ Ty.s22 (fun _=>rfl) rfl rfl hx8 (Y 17 3 (T.join2 (Z:=Unit) (fun l9=>mkA 249 [(1,.ptr 0 0),(4,.mpr 1),(5,.mpr 2),(6,iI s3),(7,iI s4),(8,.ptr 3 0),(60,sL aa p0.Nodes),(61,iI ((p0.Nodes).length:Int)),(62,iI s4)]) (fun l9=>[.box (aG p0),.mp (List.map kI (List.map Prod.fst s5)) (List.map kI (List.map Prod.snd s5)),.mp (List.map kI (List.map Prod.fst s6)) (List.map kI (List.map Prod.snd s6)),.box (aa x8)]) (fun l9=>cw p0 s3 s4 s5 s6 x8=some v_294) (fun l9 h=>?_) (fun hK3=>?_))))))
    ·replace h:cw p0 s3 s4 s5 s6 x8=some v_294:=h;unfold cw at h;refine X 2 4 (sO (jV rfl rfl (sO (jY (ek:=kI) (ev:=kI) (xs:=([]:List (Int × Int))) (k:=1) (a:=3) (.inr rfl) Tryz.underlying72 (KeyT.int Tryz.underlying3) rfl rfl rfl rfl rfl (sO (jY (ek:=kI) (ev:=kI) (xs:=(mset 1 3 ([]:List (Int × Int)))) (k:=2) (a:=3) (.inr rfl) Tryz.underlying72 (KeyT.int Tryz.underlying3) rfl rfl rfl rfl rfl (Y 3 5 (sO (ph (ek:=kI) (ev:=kI) (xs:=(mset 2 3 (mset 1 3 ([]:List (Int × Int))))) (k:=x8.Kind) (z0:=0) Tryz.underlying72 (KeyT.int Tryz.underlying3) Ty.w3 (fun _ _ _=>.int _ _) rfl rfl rfl (Y 3 5 (j1 [(1,.ptr 0 0),(4,.mpr 1),(5,.mpr 2),(6,iI s3),(7,iI s4),(8,.ptr 3 0),(60,sL aa p0.Nodes),(61,iI ((p0.Nodes).length:Int)),(62,iI s4),(130,.bool ((decide (x8.A<0)) || decide (x8.A > ((mget x8.Kind (mset 2 3 (mset 1 3 ([]:List (Int × Int))))).getD 0))))] [.box (aG p0),.mp (List.map kI (List.map Prod.fst s5)) (List.map kI (List.map Prod.snd s5)),.mp (List.map kI (List.map Prod.fst s6)) (List.map kI (List.map Prod.snd s6)),.box (aa x8)] ?_ (fun hK=>?_))))))))))))
     ·refine T.ci h rfl (fun xV h=>?_) (fun xV h=>?_)
      ·refine X 5 4 ?_;replace h:=mi h co;cases h;exact tO [(0,3,1)] [4] 4
      refine X 6 4 (sQ (aH Ty.s37 rfl (Y 3 4 (itr (fun eq:Int × (List (Int × Int))=>mkA 249 [(1,.ptr 0 0),(4,.mpr 1),(5,.mpr 2),(6,iI s3),(7,iI s4),(8,.ptr 3 0),(60,sL aa p0.Nodes),(61,iI ((p0.Nodes).length:Int)),(62,iI s4),(132,sL aj x8.In),(133,iI ((x8.In).length:Int)),(134,iI eq.1)]) (fun eq=>[.box (aG p0),.mp (List.map kI (List.map Prod.fst s5)) (List.map kI (List.map Prod.snd s5)),.mp (List.map kI (List.map Prod.fst eq.2)) (List.map kI (List.map Prod.snd eq.2)),.box (aa x8)]) h (wk [] [0,1,2,3] 4 rfl) (fun eq v_373 h ma=>?_)))));obtain ⟨s34,s35⟩:=eq;replace h:cZ p0 s3 s4 s5 x8 s34 s35=some v_373:=h;try dsimp only
      unfold cZ at h;refine X 5 4 (T.ci h rfl (fun xW h=>?_) (fun xW h=>?_))
      ·refine B h fun x37 jl h=>(X 5 4 (sQ (aJ Ty.s37 (fun _=>rfl) rfl rfl jl (Y 4 4 (j1 [(1,.ptr 0 0),(4,.mpr 1),(5,.mpr 2),(6,iI s3),(7,iI s4),(8,.ptr 3 0),(16,iI x37),(60,sL aa p0.Nodes),(61,iI ((p0.Nodes).length:Int)),(62,iI s4),(132,sL aj x8.In),(133,iI ((x8.In).length:Int)),(134,iI s34),(145,.bool ((decide (x37<0)) || decide (x37 >= p0.Rings)))] [.box (aG p0),.mp (List.map kI (List.map Prod.fst s5)) (List.map kI (List.map Prod.snd s5)),.mp (List.map kI (List.map Prod.fst s35)) (List.map kI (List.map Prod.snd s35)),.box (aa x8)] ?_ (fun hK=>?_))))))
       ·refine T.ci h rfl (fun xX h=>?_) (fun xX h=>?_)
        ·refine X 5 4 ?_;replace h:=mi h ma;replace h:=mi h co;cases h;exact tO [(0,3,1)] [4] 4
        refine X 6 4 (sO (nw (ek:=kI) (ev:=kI) (xs:=s35) (k:=x37) (z0:=0) Tryz.underlying72 (KeyT.int Tryz.underlying3) Ty.w3 (fun _ _ _=>.int _ _) rfl rfl rfl (Y 10 4 (T.ci h rfl (fun xY h=>?_) (fun xY h=>?_)))))
        ·refine X 5 4 ?_;replace h:=mi h ma;replace h:=mi h co;cases h;exact tO [(0,3,1)] [4] 4
        exact X 5 4 (sO (jY (ek:=kI) (ev:=kI) (xs:=s35) (k:=x37) (a:=s4) (.inl rfl) Tryz.underlying72 (KeyT.int Tryz.underlying3) rfl rfl rfl rfl rfl (Y 5 4 (lk h (wk [] [0,1,2,3] 4 rfl)))))
       refine X 5 4 (gp 140 (fun mc=>?_) (fun mc=>?_))
       ·refine Yp 6 4 ?_;rw [mc] at hK;exact sx hK
       refine Yp 6 4 ?_;rw [mc] at hK;exact sx hK
      refine X 1 4 ?_;replace h:=mi h ma;refine X 5 4 (sQ (aH Ty.s37 rfl (Y 3 4 (itr (fun ep:Int × (List (Int × Int))=>mkA 249 [(1,.ptr 0 0),(4,.mpr 1),(5,.mpr 2),(6,iI s3),(7,iI s4),(8,.ptr 3 0),(60,sL aa p0.Nodes),(61,iI ((p0.Nodes).length:Int)),(62,iI s4),(158,sL aj x8.Out),(159,iI ((x8.Out).length:Int)),(160,iI ep.1)]) (fun ep=>[.box (aG p0),.mp (List.map kI (List.map Prod.fst ep.2)) (List.map kI (List.map Prod.snd ep.2)),.mp (List.map kI (List.map Prod.fst s35)) (List.map kI (List.map Prod.snd s35)),.box (aa x8)]) h (wk [] [0,1,2,3] 4 rfl) (fun ep v_392 h me=>?_)))));obtain ⟨s39,s40⟩:=ep;replace h:dG p0 s3 s4 x8 s35 s39 s40=some v_392:=h;try dsimp only
      unfold dG at h;refine X 5 4 (T.ci h rfl (fun xZ h=>?_) (fun xZ h=>?_))
      ·refine B h fun x42 jm h=>(X 5 4 (sQ (aJ Ty.s37 (fun _=>rfl) rfl rfl jm (Y 4 4 (j1 [(1,.ptr 0 0),(4,.mpr 1),(5,.mpr 2),(6,iI s3),(7,iI s4),(8,.ptr 3 0),(20,iI x42),(60,sL aa p0.Nodes),(61,iI ((p0.Nodes).length:Int)),(62,iI s4),(158,sL aj x8.Out),(159,iI ((x8.Out).length:Int)),(160,iI s39),(171,.bool ((decide (x42<0)) || decide (x42 >= p0.Rings)))] [.box (aG p0),.mp (List.map kI (List.map Prod.fst s40)) (List.map kI (List.map Prod.snd s40)),.mp (List.map kI (List.map Prod.fst s35)) (List.map kI (List.map Prod.snd s35)),.box (aa x8)] ?_ (fun hK=>?_))))))
       ·refine T.ci h rfl (fun ya h=>?_) (fun ya h=>?_)
        ·refine X 5 4 ?_;replace h:=mi h me;replace h:=mi h co;cases h;exact tO [(0,3,1)] [4] 4
        refine X 6 4 (sO (nw (ek:=kI) (ev:=kI) (xs:=s40) (k:=x42) (z0:=0) Tryz.underlying72 (KeyT.int Tryz.underlying3) Ty.w3 (fun _ _ _=>.int _ _) rfl rfl rfl (Y 10 4 (T.ci h rfl (fun yb h=>?_) (fun yb h=>?_)))))
        ·refine X 5 4 ?_;replace h:=mi h me;replace h:=mi h co;cases h;exact tO [(0,3,1)] [4] 4
        exact X 5 4 (sO (jY (ek:=kI) (ev:=kI) (xs:=s40) (k:=x42) (a:=s4) (.inl rfl) Tryz.underlying72 (KeyT.int Tryz.underlying3) rfl rfl rfl rfl rfl (Y 5 4 (lk h (wk [] [0,1,2,3] 4 rfl)))))
       refine X 5 4 (gp 166 (fun mf=>?_) (fun mf=>?_))
       ·refine Yp 6 4 ?_;rw [mf] at hK;exact sx hK
       refine Yp 6 4 ?_;rw [mf] at hK;exact sx hK
      refine X 1 4 ?_;replace h:=mi h me;refine X 6 4 (T.ci h rfl (fun yc h=>?_) (fun yc h=>?_))
      ·exact X 9 4 (lk h (wk [] [0,1,2] 4 rfl))
      exact X 5 4 (lk h (wk [] [0,1,2] 4 rfl))
     refine X 6 5 (gp 125 (fun mh=>?_) (fun mh=>?_))
     ·refine Yp 6 5 ?_;rw [mh] at hK;exact wu hK [] [0,1,2,3] 5 rfl
     refine Yp 6 5 ?_;rw [mh] at hK;exact wu hK [] [0,1,2,3] 5 rfl
    refine X 2 4 (sO (jV rfl rfl (Y 3 5 (sO (dZ (ek:=kI) (ks:=[]) (vs:=[]) (k:=1) (a:=.agg [.func 35 [],.func 33 []]) (o2:=.mp (List.map kI [1]) [.agg [.func 35 [],.func 33 []]]) (.inr rfl) Tryz.underlying77 (KeyT.int Tryz.underlying3) rfl rfl rfl rfl rfl rfl (Y 3 5 (sO (dZ (ek:=kI) (ks:=[1]) (vs:=[.agg [.func 35 [],.func 33 []]]) (k:=2) (a:=.agg [.func 33 [],.func 33 []]) (o2:=.mp (List.map kI [1,2]) [.agg [.func 35 [],.func 33 []],.agg [.func 33 [],.func 33 []]]) (.inr rfl) Tryz.underlying77 (KeyT.int Tryz.underlying3) rfl rfl rfl rfl rfl rfl (Y 3 5 (sO (dZ (ek:=kI) (ks:=[1,2]) (vs:=[.agg [.func 35 [],.func 33 []],.agg [.func 33 [],.func 33 []]]) (k:=3) (a:=.agg [.func 33 [],.func 33 []]) (o2:=.mp (List.map kI [1,2,3]) [.agg [.func 35 [],.func 33 []],.agg [.func 33 [],.func 33 []],.agg [.func 33 [],.func 33 []]]) (.inr rfl) Tryz.underlying77 (KeyT.int Tryz.underlying3) rfl rfl rfl rfl rfl rfl (Y 3 5 (sO (dZ (ek:=kI) (ks:=[1,2,3]) (vs:=[.agg [.func 35 [],.func 33 []],.agg [.func 33 [],.func 33 []],.agg [.func 33 [],.func 33 []]]) (k:=4) (a:=.agg [.func 33 [],.func 33 []]) (o2:=.mp (List.map kI [1,2,3,4]) [.agg [.func 35 [],.func 33 []],.agg [.func 33 [],.func 33 []],.agg [.func 33 [],.func 33 []],.agg [.func 33 [],.func 33 []]]) (.inr rfl) Tryz.underlying77 (KeyT.int Tryz.underlying3) rfl rfl rfl rfl rfl rfl ?_))))))))))))));refine Y 3 5 (sO (dZ (ek:=kI) (ks:=[1,2,3,4]) (vs:=[.agg [.func 35 [],.func 33 []],.agg [.func 33 [],.func 33 []],.agg [.func 33 [],.func 33 []],.agg [.func 33 [],.func 33 []]]) (k:=5) (a:=.agg [.func 33 [],.func 34 []]) (o2:=.mp (List.map kI [1,2,3,4,5]) [.agg [.func 35 [],.func 33 []],.agg [.func 33 [],.func 33 []],.agg [.func 33 [],.func 33 []],.agg [.func 33 [],.func 33 []],.agg [.func 33 [],.func 34 []]]) (.inr rfl) Tryz.underlying77 (KeyT.int Tryz.underlying3) rfl rfl rfl rfl rfl rfl (Y 3 5 (sO (dZ (ek:=kI) (ks:=[1,2,3,4,5]) (vs:=[.agg [.func 35 [],.func 33 []],.agg [.func 33 [],.func 33 []],.agg [.func 33 [],.func 33 []],.agg [.func 33 [],.func 33 []],.agg [.func 33 [],.func 34 []]]) (k:=7) (a:=.agg [.func 33 [],.func 34 []]) (o2:=.mp (List.map kI [1,2,3,4,5,7]) [.agg [.func 35 [],.func 33 []],.agg [.func 33 [],.func 33 []],.agg [.func 33 [],.func 33 []],.agg [.func 33 [],.func 33 []],.agg [.func 33 [],.func 34 []],.agg [.func 33 [],.func 34 []]]) (.inr rfl) Tryz.underlying77 (KeyT.int Tryz.underlying3) rfl rfl rfl rfl rfl rfl (Y 3 5 (sO (dZ (ek:=kI) (ks:=[1,2,3,4,5,7]) (vs:=[.agg [.func 35 [],.func 33 []],.agg [.func 33 [],.func 33 []],.agg [.func 33 [],.func 33 []],.agg [.func 33 [],.func 33 []],.agg [.func 33 [],.func 34 []],.agg [.func 33 [],.func 34 []]]) (k:=6) (a:=.agg [.func 34 [],.func 33 []]) (o2:=.mp (List.map kI [1,2,3,4,5,7,6]) [.agg [.func 35 [],.func 33 []],.agg [.func 33 [],.func 33 []],.agg [.func 33 [],.func 33 []],.agg [.func 33 [],.func 33 []],.agg [.func 33 [],.func 34 []],.agg [.func 33 [],.func 34 []],.agg [.func 34 [],.func 33 []]]) (.inr rfl) Tryz.underlying77 (KeyT.int Tryz.underlying3) rfl rfl rfl rfl rfl rfl (Y 3 5 (sO (dZ (ek:=kI) (ks:=[1,2,3,4,5,7,6]) (vs:=[.agg [.func 35 [],.func 33 []],.agg [.func 33 [],.func 33 []],.agg [.func 33 [],.func 33 []],.agg [.func 33 [],.func 33 []],.agg [.func 33 [],.func 34 []],.agg [.func 33 [],.func 34 []],.agg [.func 34 [],.func 33 []]]) (k:=8) (a:=.agg [.func 33 [],.func 35 []]) (o2:=.mp (List.map kI [1,2,3,4,5,7,6,8]) [.agg [.func 35 [],.func 33 []],.agg [.func 33 [],.func 33 []],.agg [.func 33 [],.func 33 []],.agg [.func 33 [],.func 33 []],.agg [.func 33 [],.func 34 []],.agg [.func 33 [],.func 34 []],.agg [.func 34 [],.func 33 []],.agg [.func 33 [],.func 35 []]]) (.inr rfl) Tryz.underlying77 (KeyT.int Tryz.underlying3) rfl rfl rfl rfl rfl rfl (Y 3 5 ?_))))))))))));rcases aP (x8.Kind==1) with df | df
    ·replace h:=bu h df;refine sO (dX (ek:=kI) (ks:=[1,2,3,4,5,7,6,8]) (vs:=[.agg [.func 35 [],.func 33 []],.agg [.func 33 [],.func 33 []],.agg [.func 33 [],.func 33 []],.agg [.func 33 [],.func 33 []],.agg [.func 33 [],.func 34 []],.agg [.func 33 [],.func 34 []],.agg [.func 34 [],.func 33 []],.agg [.func 33 [],.func 35 []]]) (k:=x8.Kind) (az:=.agg [.nilf,.nilf]) (a:=.agg [.func 35 [],.func 33 []]) (r:=(some 0)) Tryz.underlying77 (KeyT.int Tryz.underlying3) Ty.w75 (fun _ _ _=>ee (vs:=[.nilFunc,.nilFunc]) (.cons (.nilf) (.cons (.nilf) (.nil))) rfl) rfl rfl rfl (fd (eq_of_beq df)) rfl (B h fun x9 hx9 h=>(Y 16 5 ?_)));obtain ⟨yd,hz,h⟩:=bind_some h;revert hz h;revert yd;intro c11 hz h;refine j1 [(1,.ptr 0 0),(4,.mpr 1),(5,.mpr 2),(6,iI s3),(7,iI s4),(8,.ptr 3 0),(60,sL aa p0.Nodes),(61,iI ((p0.Nodes).length:Int)),(62,iI s4),(116,.bool c11)] [.box (aG p0),.mp (List.map kI (List.map Prod.fst s5)) (List.map kI (List.map Prod.snd s5)),.mp (List.map kI (List.map Prod.fst s6)) (List.map kI (List.map Prod.snd s6)),.box (aa x8)] ?_ (fun hK=>?_)
     ·refine T.ci h rfl (fun ye h=>?_) (fun ye h=>?_)
      ·refine X 5 4 ?_;replace h:=mi h co;cases h;exact tO [(0,3,1)] [4] 4
      exact X 1 4 (sx (hK3 () h))
     refine X 6 6 (sQ (aH Ty.s37 rfl (sO (cF (mY hx9) ⟨rfl,(Y 2 6 (gi 108 hz (fun yf hz=>?_) (fun yf hz=>?_)))⟩))))
     ·refine Yp 9 6 ?_;cases hz;exact wu hK [] [0,1,2,3] 6 rfl
     refine B hz fun x10 bZ hz=>(Y 4 6 (yQ rfl (aH Ty.s37 rfl (yO rfl (cF (dm bZ) ⟨rfl,(Yp 3 6 ?_)⟩)))))
     cases hz;exact wu hK [] [0,1,2,3] 6 rfl
    replace h:=bt h df;rcases aP (x8.Kind==2) with dz | dz
    ·replace h:=bu h dz;refine sO (dX (ek:=kI) (ks:=[1,2,3,4,5,7,6,8]) (vs:=[.agg [.func 35 [],.func 33 []],.agg [.func 33 [],.func 33 []],.agg [.func 33 [],.func 33 []],.agg [.func 33 [],.func 33 []],.agg [.func 33 [],.func 34 []],.agg [.func 33 [],.func 34 []],.agg [.func 34 [],.func 33 []],.agg [.func 33 [],.func 35 []]]) (k:=x8.Kind) (az:=.agg [.nilf,.nilf]) (a:=.agg [.func 33 [],.func 33 []]) (r:=(some 1)) Tryz.underlying77 (KeyT.int Tryz.underlying3) Ty.w75 (fun _ _ _=>ee (vs:=[.nilFunc,.nilFunc]) (.cons (.nilf) (.cons (.nilf) (.nil))) rfl) rfl rfl rfl (aS (ne_of_beq_false df) (fd (eq_of_beq dz))) rfl (B h fun x12 dk h=>(Y 16 5 ?_)));obtain ⟨yh,hz,h⟩:=bind_some h;revert hz h;revert yh;intro c14 hz h;refine j1 [(1,.ptr 0 0),(4,.mpr 1),(5,.mpr 2),(6,iI s3),(7,iI s4),(8,.ptr 3 0),(60,sL aa p0.Nodes),(61,iI ((p0.Nodes).length:Int)),(62,iI s4),(116,.bool c14)] [.box (aG p0),.mp (List.map kI (List.map Prod.fst s5)) (List.map kI (List.map Prod.snd s5)),.mp (List.map kI (List.map Prod.fst s6)) (List.map kI (List.map Prod.snd s6)),.box (aa x8)] ?_ (fun hK=>?_)
     ·refine T.ci h rfl (fun yi h=>?_) (fun yi h=>?_)
      ·refine X 5 4 ?_;replace h:=mi h co;cases h;exact tO [(0,3,1)] [4] 4
      exact X 1 4 (sx (hK3 () h))
     refine X 6 6 (sQ (aH Ty.s37 rfl (sO (cF (dm dk) ⟨rfl,(Y 2 6 (gi 108 hz (fun yj hz=>?_) (fun yj hz=>?_)))⟩))))
     ·refine Yp 9 6 ?_;cases hz;exact wu hK [] [0,1,2,3] 6 rfl
     refine B hz fun x13 bN hz=>(Y 4 6 (yQ rfl (aH Ty.s37 rfl (yO rfl (cF (dm bN) ⟨rfl,(Yp 3 6 ?_)⟩)))))
     cases hz;exact wu hK [] [0,1,2,3] 6 rfl
    replace h:=bt h dz;rcases aP (x8.Kind==3) with dO | dO
    ·replace h:=bu h dO;refine sO (dX (ek:=kI) (ks:=[1,2,3,4,5,7,6,8]) (vs:=[.agg [.func 35 [],.func 33 []],.agg [.func 33 [],.func 33 []],.agg [.func 33 [],.func 33 []],.agg [.func 33 [],.func 33 []],.agg [.func 33 [],.func 34 []],.agg [.func 33 [],.func 34 []],.agg [.func 34 [],.func 33 []],.agg [.func 33 [],.func 35 []]]) (k:=x8.Kind) (az:=.agg [.nilf,.nilf]) (a:=.agg [.func 33 [],.func 33 []]) (r:=(some 2)) Tryz.underlying77 (KeyT.int Tryz.underlying3) Ty.w75 (fun _ _ _=>ee (vs:=[.nilFunc,.nilFunc]) (.cons (.nilf) (.cons (.nilf) (.nil))) rfl) rfl rfl rfl (aS (ne_of_beq_false df) (aS (ne_of_beq_false dz) (fd (eq_of_beq dO)))) rfl (B h fun x15 dl h=>(Y 16 5 ?_)));obtain ⟨yk,hz,h⟩:=bind_some h;revert hz h;revert yk;intro c17 hz h;refine j1 [(1,.ptr 0 0),(4,.mpr 1),(5,.mpr 2),(6,iI s3),(7,iI s4),(8,.ptr 3 0),(60,sL aa p0.Nodes),(61,iI ((p0.Nodes).length:Int)),(62,iI s4),(116,.bool c17)] [.box (aG p0),.mp (List.map kI (List.map Prod.fst s5)) (List.map kI (List.map Prod.snd s5)),.mp (List.map kI (List.map Prod.fst s6)) (List.map kI (List.map Prod.snd s6)),.box (aa x8)] ?_ (fun hK=>?_)
     ·refine T.ci h rfl (fun yl h=>?_) (fun yl h=>?_)
      ·refine X 5 4 ?_;replace h:=mi h co;cases h;exact tO [(0,3,1)] [4] 4
      exact X 1 4 (sx (hK3 () h))
     refine X 6 6 (sQ (aH Ty.s37 rfl (sO (cF (dm dl) ⟨rfl,(Y 2 6 (gi 108 hz (fun ym hz=>?_) (fun ym hz=>?_)))⟩))))
     ·refine Yp 9 6 ?_;cases hz;exact wu hK [] [0,1,2,3] 6 rfl
     refine B hz fun x16 cc hz=>(Y 4 6 (yQ rfl (aH Ty.s37 rfl (yO rfl (cF (dm cc) ⟨rfl,(Yp 3 6 ?_)⟩)))))
     cases hz;exact wu hK [] [0,1,2,3] 6 rfl
    replace h:=bt h dO;rcases aP (x8.Kind==4) with eB | eB
    ·replace h:=bu h eB;refine sO (dX (ek:=kI) (ks:=[1,2,3,4,5,7,6,8]) (vs:=[.agg [.func 35 [],.func 33 []],.agg [.func 33 [],.func 33 []],.agg [.func 33 [],.func 33 []],.agg [.func 33 [],.func 33 []],.agg [.func 33 [],.func 34 []],.agg [.func 33 [],.func 34 []],.agg [.func 34 [],.func 33 []],.agg [.func 33 [],.func 35 []]]) (k:=x8.Kind) (az:=.agg [.nilf,.nilf]) (a:=.agg [.func 33 [],.func 33 []]) (r:=(some 3)) Tryz.underlying77 (KeyT.int Tryz.underlying3) Ty.w75 (fun _ _ _=>ee (vs:=[.nilFunc,.nilFunc]) (.cons (.nilf) (.cons (.nilf) (.nil))) rfl) rfl rfl rfl (aS (ne_of_beq_false df) (aS (ne_of_beq_false dz) (aS (ne_of_beq_false dO) (fd (eq_of_beq eB))))) rfl (B h fun x18 dE h=>(Y 16 5 ?_)));obtain ⟨yn,hz,h⟩:=bind_some h;revert hz h;revert yn;intro c20 hz h;refine j1 [(1,.ptr 0 0),(4,.mpr 1),(5,.mpr 2),(6,iI s3),(7,iI s4),(8,.ptr 3 0),(60,sL aa p0.Nodes),(61,iI ((p0.Nodes).length:Int)),(62,iI s4),(116,.bool c20)] [.box (aG p0),.mp (List.map kI (List.map Prod.fst s5)) (List.map kI (List.map Prod.snd s5)),.mp (List.map kI (List.map Prod.fst s6)) (List.map kI (List.map Prod.snd s6)),.box (aa x8)] ?_ (fun hK=>?_)
     ·refine T.ci h rfl (fun yo h=>?_) (fun yo h=>?_)
      ·refine X 5 4 ?_;replace h:=mi h co;cases h;exact tO [(0,3,1)] [4] 4
      exact X 1 4 (sx (hK3 () h))
     refine X 6 6 (sQ (aH Ty.s37 rfl (sO (cF (dm dE) ⟨rfl,(Y 2 6 (gi 108 hz (fun yp hz=>?_) (fun yp hz=>?_)))⟩))))
     ·refine Yp 9 6 ?_;cases hz;exact wu hK [] [0,1,2,3] 6 rfl
     refine B hz fun x19 eE hz=>(Y 4 6 (yQ rfl (aH Ty.s37 rfl (yO rfl (cF (dm eE) ⟨rfl,(Yp 3 6 ?_)⟩)))))
     cases hz;exact wu hK [] [0,1,2,3] 6 rfl
    replace h:=bt h eB;rcases aP (x8.Kind==5) with fq | fq
    ·replace h:=bu h fq;refine sO (dX (ek:=kI) (ks:=[1,2,3,4,5,7,6,8]) (vs:=[.agg [.func 35 [],.func 33 []],.agg [.func 33 [],.func 33 []],.agg [.func 33 [],.func 33 []],.agg [.func 33 [],.func 33 []],.agg [.func 33 [],.func 34 []],.agg [.func 33 [],.func 34 []],.agg [.func 34 [],.func 33 []],.agg [.func 33 [],.func 35 []]]) (k:=x8.Kind) (az:=.agg [.nilf,.nilf]) (a:=.agg [.func 33 [],.func 34 []]) (r:=(some 4)) Tryz.underlying77 (KeyT.int Tryz.underlying3) Ty.w75 (fun _ _ _=>ee (vs:=[.nilFunc,.nilFunc]) (.cons (.nilf) (.cons (.nilf) (.nil))) rfl) rfl rfl rfl (aS (ne_of_beq_false df) (aS (ne_of_beq_false dz) (aS (ne_of_beq_false dO) (aS (ne_of_beq_false eB) (fd (eq_of_beq fq)))))) rfl (B h fun x21 fy h=>(Y 16 5 ?_)));obtain ⟨yq,hz,h⟩:=bind_some h;revert hz h;revert yq;intro c23 hz h;refine j1 [(1,.ptr 0 0),(4,.mpr 1),(5,.mpr 2),(6,iI s3),(7,iI s4),(8,.ptr 3 0),(60,sL aa p0.Nodes),(61,iI ((p0.Nodes).length:Int)),(62,iI s4),(116,.bool c23)] [.box (aG p0),.mp (List.map kI (List.map Prod.fst s5)) (List.map kI (List.map Prod.snd s5)),.mp (List.map kI (List.map Prod.fst s6)) (List.map kI (List.map Prod.snd s6)),.box (aa x8)] ?_ (fun hK=>?_)
     ·refine T.ci h rfl (fun yr h=>?_) (fun yr h=>?_)
      ·refine X 5 4 ?_;replace h:=mi h co;cases h;exact tO [(0,3,1)] [4] 4
      exact X 1 4 (sx (hK3 () h))
     refine X 6 6 (sQ (aH Ty.s37 rfl (sO (cF (dm fy) ⟨rfl,(Y 2 6 (gi 108 hz (fun yu hz=>?_) (fun yu hz=>?_)))⟩))))
     ·refine Yp 9 6 ?_;cases hz;exact wu hK [] [0,1,2,3] 6 rfl
     refine B hz fun x22 mV hz=>(Y 4 6 (yQ rfl (aH Ty.s37 rfl (yO rfl (cF (kV mV) ⟨rfl,(Yp 3 6 ?_)⟩)))))
     cases hz;exact wu hK [] [0,1,2,3] 6 rfl
    replace h:=bt h fq;rcases aP (x8.Kind==7) with gc | gc
    ·replace h:=bu h gc;refine sO (dX (ek:=kI) (ks:=[1,2,3,4,5,7,6,8]) (vs:=[.agg [.func 35 [],.func 33 []],.agg [.func 33 [],.func 33 []],.agg [.func 33 [],.func 33 []],.agg [.func 33 [],.func 33 []],.agg [.func 33 [],.func 34 []],.agg [.func 33 [],.func 34 []],.agg [.func 34 [],.func 33 []],.agg [.func 33 [],.func 35 []]]) (k:=x8.Kind) (az:=.agg [.nilf,.nilf]) (a:=.agg [.func 33 [],.func 34 []]) (r:=(some 5)) Tryz.underlying77 (KeyT.int Tryz.underlying3) Ty.w75 (fun _ _ _=>ee (vs:=[.nilFunc,.nilFunc]) (.cons (.nilf) (.cons (.nilf) (.nil))) rfl) rfl rfl rfl (aS (ne_of_beq_false df) (aS (ne_of_beq_false dz) (aS (ne_of_beq_false dO) (aS (ne_of_beq_false eB) (aS (ne_of_beq_false fq) (fd (eq_of_beq gc))))))) rfl (B h fun x24 mF h=>(Y 16 5 ?_)));obtain ⟨yv,hz,h⟩:=bind_some h;revert hz h;revert yv;intro c26 hz h;refine j1 [(1,.ptr 0 0),(4,.mpr 1),(5,.mpr 2),(6,iI s3),(7,iI s4),(8,.ptr 3 0),(60,sL aa p0.Nodes),(61,iI ((p0.Nodes).length:Int)),(62,iI s4),(116,.bool c26)] [.box (aG p0),.mp (List.map kI (List.map Prod.fst s5)) (List.map kI (List.map Prod.snd s5)),.mp (List.map kI (List.map Prod.fst s6)) (List.map kI (List.map Prod.snd s6)),.box (aa x8)] ?_ (fun hK=>?_)
     ·refine T.ci h rfl (fun yw h=>?_) (fun yw h=>?_)
      ·refine X 5 4 ?_;replace h:=mi h co;cases h;exact tO [(0,3,1)] [4] 4
      exact X 1 4 (sx (hK3 () h))
     refine X 6 6 (sQ (aH Ty.s37 rfl (sO (cF (dm mF) ⟨rfl,(Y 2 6 (gi 108 hz (fun yx hz=>?_) (fun yx hz=>?_)))⟩))))
     ·refine Yp 9 6 ?_;cases hz;exact wu hK [] [0,1,2,3] 6 rfl
     refine B hz fun x25 mG hz=>(Y 4 6 (yQ rfl (aH Ty.s37 rfl (yO rfl (cF (kV mG) ⟨rfl,(Yp 3 6 ?_)⟩)))))
     cases hz;exact wu hK [] [0,1,2,3] 6 rfl
    replace h:=bt h gc;rcases aP (x8.Kind==6) with hZ | hZ
    ·replace h:=bu h hZ;refine sO (dX (ek:=kI) (ks:=[1,2,3,4,5,7,6,8]) (vs:=[.agg [.func 35 [],.func 33 []],.agg [.func 33 [],.func 33 []],.agg [.func 33 [],.func 33 []],.agg [.func 33 [],.func 33 []],.agg [.func 33 [],.func 34 []],.agg [.func 33 [],.func 34 []],.agg [.func 34 [],.func 33 []],.agg [.func 33 [],.func 35 []]]) (k:=x8.Kind) (az:=.agg [.nilf,.nilf]) (a:=.agg [.func 34 [],.func 33 []]) (r:=(some 6)) Tryz.underlying77 (KeyT.int Tryz.underlying3) Ty.w75 (fun _ _ _=>ee (vs:=[.nilFunc,.nilFunc]) (.cons (.nilf) (.cons (.nilf) (.nil))) rfl) rfl rfl rfl (aS (ne_of_beq_false df) (aS (ne_of_beq_false dz) (aS (ne_of_beq_false dO) (aS (ne_of_beq_false eB) (aS (ne_of_beq_false fq) (aS (ne_of_beq_false gc) (fd (eq_of_beq hZ)))))))) rfl (B h fun x27 kT h=>(Y 16 5 ?_)));obtain ⟨yy,hz,h⟩:=bind_some h;revert hz h;revert yy;intro c29 hz h;refine j1 [(1,.ptr 0 0),(4,.mpr 1),(5,.mpr 2),(6,iI s3),(7,iI s4),(8,.ptr 3 0),(60,sL aa p0.Nodes),(61,iI ((p0.Nodes).length:Int)),(62,iI s4),(116,.bool c29)] [.box (aG p0),.mp (List.map kI (List.map Prod.fst s5)) (List.map kI (List.map Prod.snd s5)),.mp (List.map kI (List.map Prod.fst s6)) (List.map kI (List.map Prod.snd s6)),.box (aa x8)] ?_ (fun hK=>?_)
     ·refine T.ci h rfl (fun yz h=>?_) (fun yz h=>?_)
      ·refine X 5 4 ?_;replace h:=mi h co;cases h;exact tO [(0,3,1)] [4] 4
      exact X 1 4 (sx (hK3 () h))
     refine X 6 6 (sQ (aH Ty.s37 rfl (sO (cF (kV kT) ⟨rfl,(Y 2 6 (gi 108 hz (fun yA hz=>?_) (fun yA hz=>?_)))⟩))))
     ·refine Yp 9 6 ?_;cases hz;exact wu hK [] [0,1,2,3] 6 rfl
     refine B hz fun x28 mW hz=>(Y 4 6 (yQ rfl (aH Ty.s37 rfl (yO rfl (cF (dm mW) ⟨rfl,(Yp 3 6 ?_)⟩)))))
     cases hz;exact wu hK [] [0,1,2,3] 6 rfl
    replace h:=bt h hZ;rcases aP (x8.Kind==8) with jg | jg
    ·replace h:=bu h jg;refine sO (dX (ek:=kI) (ks:=[1,2,3,4,5,7,6,8]) (vs:=[.agg [.func 35 [],.func 33 []],.agg [.func 33 [],.func 33 []],.agg [.func 33 [],.func 33 []],.agg [.func 33 [],.func 33 []],.agg [.func 33 [],.func 34 []],.agg [.func 33 [],.func 34 []],.agg [.func 34 [],.func 33 []],.agg [.func 33 [],.func 35 []]]) (k:=x8.Kind) (az:=.agg [.nilf,.nilf]) (a:=.agg [.func 33 [],.func 35 []]) (r:=(some 7)) Tryz.underlying77 (KeyT.int Tryz.underlying3) Ty.w75 (fun _ _ _=>ee (vs:=[.nilFunc,.nilFunc]) (.cons (.nilf) (.cons (.nilf) (.nil))) rfl) rfl rfl rfl (aS (ne_of_beq_false df) (aS (ne_of_beq_false dz) (aS (ne_of_beq_false dO) (aS (ne_of_beq_false eB) (aS (ne_of_beq_false fq) (aS (ne_of_beq_false gc) (aS (ne_of_beq_false hZ) (fd (eq_of_beq jg))))))))) rfl (B h fun x30 aD h=>(Y 16 5 ?_)));obtain ⟨yB,hz,h⟩:=bind_some h;revert hz h;revert yB;intro c32 hz h;refine j1 [(1,.ptr 0 0),(4,.mpr 1),(5,.mpr 2),(6,iI s3),(7,iI s4),(8,.ptr 3 0),(60,sL aa p0.Nodes),(61,iI ((p0.Nodes).length:Int)),(62,iI s4),(116,.bool c32)] [.box (aG p0),.mp (List.map kI (List.map Prod.fst s5)) (List.map kI (List.map Prod.snd s5)),.mp (List.map kI (List.map Prod.fst s6)) (List.map kI (List.map Prod.snd s6)),.box (aa x8)] ?_ (fun hK=>?_)
     ·refine T.ci h rfl (fun yC h=>?_) (fun yC h=>?_)
      ·refine X 5 4 ?_;replace h:=mi h co;cases h;exact tO [(0,3,1)] [4] 4
      exact X 1 4 (sx (hK3 () h))
     refine X 6 6 (sQ (aH Ty.s37 rfl (sO (cF (dm aD) ⟨rfl,(Y 2 6 (gi 108 hz (fun yD hz=>?_) (fun yD hz=>?_)))⟩))))
     ·refine Yp 9 6 ?_;cases hz;exact wu hK [] [0,1,2,3] 6 rfl
     refine B hz fun x31 fx hz=>(Y 4 6 (yQ rfl (aH Ty.s37 rfl (yO rfl (cF (mY fx) ⟨rfl,(Yp 3 6 ?_)⟩)))))
     cases hz;exact wu hK [] [0,1,2,3] 6 rfl
    replace h:=bt h jg;refine sO (dX (ek:=kI) (ks:=[1,2,3,4,5,7,6,8]) (vs:=[.agg [.func 35 [],.func 33 []],.agg [.func 33 [],.func 33 []],.agg [.func 33 [],.func 33 []],.agg [.func 33 [],.func 33 []],.agg [.func 33 [],.func 34 []],.agg [.func 33 [],.func 34 []],.agg [.func 34 [],.func 33 []],.agg [.func 33 [],.func 35 []]]) (k:=x8.Kind) (az:=.agg [.nilf,.nilf]) (a:=.agg [.nilf,.nilf]) (r:=none) Tryz.underlying77 (KeyT.int Tryz.underlying3) Ty.w75 (fun _ _ _=>ee (vs:=[.nilFunc,.nilFunc]) (.cons (.nilf) (.cons (.nilf) (.nil))) rfl) rfl rfl rfl (aS (ne_of_beq_false df) (aS (ne_of_beq_false dz) (aS (ne_of_beq_false dO) (aS (ne_of_beq_false eB) (aS (ne_of_beq_false fq) (aS (ne_of_beq_false gc) (aS (ne_of_beq_false hZ) (aS (ne_of_beq_false jg) vS)))))))) rfl (Y 19 5 ?_));replace h:=mi h co;cases h;exact tO [(0,3,1)] [6] 6
   refine X 1 3 ?_;replace h:=mi h co;refine X 1 3 (j1 [(1,.ptr 0 0),(4,.mpr 1),(6,iI s3),(200,.bool ((((s5).length:Int) != p0.Rings) || ((s6).length:Int) != p0.Rings))] [.box (aG p0),.mp (List.map kI (List.map Prod.fst s5)) (List.map kI (List.map Prod.snd s5))] ?_ (fun hK=>?_))
   ·refine T.ci h rfl (fun yE h=>?_) (fun yE h=>?_)
    ·refine X 5 2 ?_;cases h;exact tO [(0,3,1)] [2] 2
    refine X 7 2 (T.ci h rfl (fun yF h=>?_) (fun yF h=>?_))
    ·refine X 5 2 ?_;cases h;exact tO [(0,3,1)] [2] 2
    refine X 10 2 (sQ (aH Ty.s22 rfl (Y 3 2 (itr (fun fk:Int × (List Int)=>mkA 249 [(1,.ptr 0 0),(4,.mpr 1),(23,.ref 2),(205,iI ((p0.Nodes).length:Int)),(206,iI fk.1)]) (fun fk=>[.box (aG p0),.mp (List.map kI (List.map Prod.fst s5)) (List.map kI (List.map Prod.snd s5)),aR 3 1 aj fk.2]) h (wk [(23,3,1)] [0,1,2] 2 rfl) (fun fk v_533 h qN=>?_)))));obtain ⟨s45,s46⟩:=fk;replace h:dW p0 s5 s45 s46=some v_533:=h;try dsimp only
    unfold dW at h;refine X 5 3 (T.ci h rfl (fun yG h=>?_) (fun yG h=>?_))
    ·refine X 12 3 (sQ (aH Ty.s22 rfl (Y 4 3 (itr (fun fj:Int × Int=>mkA 249 [(1,.ptr 0 0),(4,.mpr 1),(23,.ref 2),(24,iI fj.1),(25,iI fj.2),(205,iI ((p0.Nodes).length:Int)),(206,iI s45)]) (fun fj=>[.box (aG p0),.mp (List.map kI (List.map Prod.fst s5)) (List.map kI (List.map Prod.snd s5)),aR 3 1 aj s46]) h (wk [] [0,1,2] 3 rfl) (fun fj v_558 h yH=>?_)))));obtain ⟨s47,s48⟩:=fj;replace h:eL p0 s5 s45 s46 s47 s48=some v_558:=h;try dsimp only
     unfold eL at h;refine X 6 3 (T.ci h rfl (fun yI h=>?_) (fun yI h=>?_))
     ·refine B h fun x50 zz h=>(X 8 3 (sO (cF (mX zz) ⟨rfl,(Y 1 3 (T.ci h rfl (fun yJ h=>?_) (fun yJ h=>?_)))⟩)))
      ·exact X 6 3 (lk h (wk [] [0,1,2] 3 rfl))
      refine B h fun x52 zA h=>(X 11 3 (sQ (aJ Ty.s22 (fun _=>rfl) rfl rfl zA (Y 2 3 (sQ (aH Ty.s37 rfl (Y 3 3 (itr (fun fh:Bool × Int=>mkA 249 [(1,.ptr 0 0),(4,.mpr 1),(23,.ref 2),(24,iI s47),(25,iI s48),(26,.bool fh.1),(205,iI ((p0.Nodes).length:Int)),(206,iI s45),(224,sL aj x52.In),(225,iI ((x52.In).length:Int)),(226,iI fh.2)]) (fun fh=>[.box (aG p0),.mp (List.map kI (List.map Prod.fst s5)) (List.map kI (List.map Prod.snd s5)),aR 3 1 aj s46]) h (wk [] [0,1,2] 3 rfl) (fun fh v_565 h yK=>?_)))))))))
      obtain ⟨s53,s54⟩:=fh;replace h:eK s5 s46 s47 s48 x52 s53 s54=some v_565:=h;try dsimp only
      unfold eK at h;refine X 5 3 (T.ci h rfl (fun yL h=>?_) (fun yL h=>?_))
      ·refine B h fun x56 zB h=>(X 5 3 (sQ (aJ Ty.s37 (fun _=>rfl) rfl rfl zB (Y 6 3 (gi 231 h (fun yM h=>?_) (fun yM h=>?_))))))
       ·exact B h fun x57 zC h=>(Y 3 3 (yO rfl (ph (ek:=kI) (ev:=kI) (xs:=s5) (k:=x56) (z0:=0) Tryz.underlying72 (KeyT.int Tryz.underlying3) Ty.w3 (fun _ _ _=>.int _ _) rfl rfl rfl (yO rfl (cF (mX zC) ⟨rfl,(Yp 7 3 (lk h (wk [] [0,1,2] 3 rfl)))⟩)))))
       exact Yp 12 3 (lk h (wk [] [0,1,2] 3 rfl))
      refine X 1 3 ?_;replace h:=mi h yK;refine X 4 3 (T.ci h rfl (fun yN h=>?_) (fun yN h=>?_))
      ·exact X 9 3 (lk h (wk [] [0,1,2] 3 rfl))
      exact X 6 3 (lk h (wk [] [0,1,2] 3 rfl))
     refine X 1 3 ?_;replace h:=mi h yH;refine X 6 3 (T.ci h rfl (fun yP h=>?_) (fun yP h=>?_))
     ·refine X 5 3 ?_;replace h:=mi h qN;cases h;exact tO [(0,3,1)] [3] 3
     exact B h fun x58 zD h=>(X 4 3 (sO (b6 (rows:=List.map aj [s47]) (vs:=[iI s47]) Ty.s37 Ty.z3 rfl rfl rfl rfl rfl rfl (sO (gM (en:=aj) (xs:=s46) (ys:=([s47]:List Int)) Ty.s37 (fun _=>rfl) rfl rfl rfl zD rfl rfl (Y 6 5 (lk h (wk [] [0,1,4] 5 rfl))))))))
    refine X 1 3 ?_;replace h:=mi h qN;refine X 6 3 ?_;cases h;exact tO [] [2] 3
   refine X 3 3 (sO (oQ (ek:=kI) (ev:=kI) (xs:=s5) Tryz.underlying72 rfl rfl (Y 4 3 (gp 194 (fun mj=>?_) (fun mj=>?_)))))
   ·refine Yp 7 3 ?_;rw [mj] at hK;exact wu hK [] [0,1] 3 rfl
   refine Y 1 3 (yO rfl (oQ (ek:=kI) (ev:=kI) (xs:=s6) Tryz.underlying72 rfl rfl (Yp 5 3 ?_)));rw [mj] at hK;exact wu hK [] [0,1] 3 rfl
  refine X 6 1 (gp 52 (fun cX=>?_) (fun cX=>?_))
  ·refine Yp 5 1 ?_;rw [cX] at hK;exact sx hK
  refine Yp 5 1 ?_;rw [cX] at hK;exact sx hK
 refine X 4 1 (sQ (aH Ty.s22 rfl (Y 2 1 (gp 33 (fun au=>?_) (fun au=>?_)))))
 ·refine Yp 16 1 ?_;rw [au] at hK;exact sx hK
 refine Y 2 1 (yQ rfl (aH Ty.s22 rfl (Yp 3 1 (gp 39 (fun aI=>?_) (fun aI=>?_)))))
 ·refine Yp 10 1 ?_;rw [au] at hK;rw [aI] at hK;exact sx hK
 refine Yp 5 1 (gp 44 (fun bi=>?_) (fun bi=>?_))
 ·refine Yp 5 1 ?_;rw [au] at hK;rw [aI] at hK;rw [bi] at hK;exact sx hK
 refine Yp 5 1 ?_;rw [au] at hK;rw [aI] at hK;rw [bi] at hK;exact sx hK
theorem rC {p0:List UInt8} {r:Bool} (h:jt p0=some r):Fn Tryz.prog 3 [.str p0] (.bool r):=by
 unfold jt at h;refine fT 0 0 Tryz.func3 Tryz.ntmps3 rfl ?_;refine B h fun x2 hx2 h=>(X 7 0 (sO (cD (nj hx2) ⟨rfl,(B h fun x3 hx3 h=>(Y 10 0 (j1 [(0,.str p0),(3,.ptr 0 0),(4,iI x2.2.1),(5,iI x2.2.2),(29,.bool ((!x3) || decide (((p0).length:Int) > 4000)))] [.box (aG x2.1)] ?_ (fun hK=>?_))))⟩)))
 ·refine T.ci h rfl (fun aI h=>?_) (fun aI h=>?_)
  ·refine B h fun x5 hx5 h=>?_
   obtain ⟨zE,hz,h⟩:=bind_some h;revert hz h;revert zE;intro c7 hz h;refine j1 [(2,.bool c7)] [] ?_ (fun hK=>?_)
   ·cases h;exact tD
   refine X 2 1 (sO (cF (m7 hx5) ⟨rfl,(Y 1 1 (gi 31 hz (fun bi hz=>?_) (fun bi hz=>?_)))⟩))
   ·refine Yp 4 1 (gi 35 hz (fun bJ hz=>?_) (fun bJ hz=>?_))
    ·refine Yp 4 1 (gi 39 hz (fun cX hz=>?_) (fun cX hz=>?_))
     ·refine B hz fun x6 hx6 hz=>(Y 2 1 (yO rfl (cF (ik hx6) ⟨rfl,(Yp 3 1 ?_)⟩)))
      cases hz;exact wu hK [] [] 1 rfl
     refine Yp 6 1 ?_;cases hz;exact wu hK [] [] 1 rfl
    refine Yp 10 1 ?_;cases hz;exact wu hK [] [] 1 rfl
   refine Yp 14 1 ?_;cases hz;exact wu hK [] [] 1 rfl
  refine X 11 1 (nB 1 0 42 4 2 (itr (fun bL:(List UInt8) × Int × Int × Int × (List Node)=>mkA 169 [(0,.str bL.1),(3,.ptr 0 0),(4,iI x2.2.1),(5,iI x2.2.2),(6,.ptr 1 0),(7,iI bL.2.1)]) (fun bL=>[.box (aG x2.1),.box [.ref 2,iI bL.2.2.1,iI bL.2.2.2.1],aR 42 4 aa bL.2.2.2.2]) h (wk [] [0,1,2] 3 rfl) (fun bL v_161 h qO=>?_)));obtain ⟨s8,s9,s10,s11,s12⟩:=bL;replace h:cJ x2 s8 s9 s10 s11 s12=some v_161:=h;try dsimp only
  unfold cJ at h;refine X 1 3 (j1 [(0,.str s8),(3,.ptr 0 0),(4,iI x2.2.1),(5,iI x2.2.2),(6,.ptr 1 0),(7,iI s9),(49,.bool ((s9==0) || !(s8==[])))] [.box (aG x2.1),.box [.ref 2,iI s10,iI s11],aR 42 4 aa s12] ?_ (fun hK=>?_))
  ·refine T.ci h rfl (fun lZ h=>?_) (fun lZ h=>?_)
   ·refine B h fun x15 dl h=>(X 6 3 (sO (cF (rX dl) ⟨rfl,(B h fun x17 dV h=>(Y 17 3 (sO (cD (j6 dV) ⟨rfl,(Y 13 4 (jn (Z:=Int × Int × Bool × (List Node)) (fun dg=>mkA 169 [(0,.str x15.2.1),(3,.ptr 0 0),(4,iI x2.2.1),(5,iI x2.2.2),(6,.ptr 1 0),(7,iI s9),(10,.ptr 2 0)]) (fun dg=>[.box (aG x2.1),.box [.ref 3,iI dg.1,iI dg.2.1],.box [.bool dg.2.2.1],aR 42 4 aa dg.2.2.2]) (fun dg=>cY x2 s9 x15 dg.1 dg.2.1 dg.2.2.1 dg.2.2.2=some v_161) (fun dg h=>?_) (fun hK1=>?_)))⟩))))⟩)))
    ·obtain ⟨z38,z39,z40,z41⟩:=dg;replace h:cY x2 s9 x15 z38 z39 z40 z41=some v_161:=h;try dsimp only
     unfold cY at h;refine X 5 4 (T.ci h rfl (fun yR h=>?_) (fun yR h=>?_))
     ·obtain ⟨yS,hz,h⟩:=bind_some h;revert hz h;revert yS;intro c43 hz h;refine j1 [(2,.bool c43)] [] ?_ (fun hK=>?_)
      ·replace h:=mi h qO;cases h;exact tD
      refine X 5 4 (gi 129 hz (fun yT hz=>?_) (fun yT hz=>?_))
      ·refine Yp 5 4 (gi 134 hz (fun l7 hz=>?_) (fun l7 hz=>?_))
       ·refine B hz fun x42 jm hz=>(Y 2 4 (yO rfl (cF (ik jm) ⟨rfl,(Yp 3 4 ?_)⟩)))
        cases hz;exact wu hK [] [] 4 rfl
       refine Yp 6 4 ?_;cases hz;exact wu hK [] [] 4 rfl
      refine Yp 11 4 ?_;cases hz;exact wu hK [] [] 4 rfl
     exact X 6 4 (lk h (wk [] [0,1,3] 4 rfl))
    refine X 6 5 (T.ci h rfl (fun yU h=>?_) (fun yU h=>?_))
    ·obtain ⟨yV,hz,h⟩:=bind_some h;revert hz h;revert yV;intro c19 hz h;refine j1 [(0,.str x15.2.1),(3,.ptr 0 0),(4,iI x2.2.1),(5,iI x2.2.2),(6,.ptr 1 0),(7,iI s9),(10,.ptr 2 0),(11,sL ab x17),(12,.ptr 3 0)] [.box (aG x2.1),.box [.ref 4,iI s10,iI s11],.box [.bool c19],.box [.func 10 [.ptr 2 0]],aR 42 4 aa s12] ?_ (fun hK=>?_)
     ·refine X 4 5 (T.ci h rfl (fun yW h=>?_) (fun yW h=>?_))
      ·refine B h fun x20 mD h=>(B h fun x21 fy h=>(B h fun x22 mV h=>(B h fun x23 mE h=>(T.drawn mixed (k:=14) rfl ?_))))
       apply RA.jn 4 (bm 14 1535);intro mq;apply RA.jn 5 (bm 14 1279);intro qY;apply RA.jn 6 (bm 14 495);intro qZ
       ·refine rq [1] 13 (r0 2 rfl (aJ Ty.s32 (fun _=>rfl) rfl rfl mD (rq [6] 11 (r0 7 rfl (aJ Ty.s32 (fun _=>rfl) rfl rfl mV (rL [0,4,9,10,11,12,13] 0 rfl (rL [3,4,9,10,11,12,13] 3 rfl (ra3 4 5 8 ?_ ?_ ?_))))))))
        ·exact oO rfl (cG [2] 5 1 (cv fy) ⟨rfl,(rq [10] 6 (rL [5,9,11,12,13] 5 rfl (raE qY)))⟩)
        ·refine og 5 ⟨rfl,(ra2 4 8 ?_ ?_)⟩
         ·exact oO rfl (cG [2] 5 1 (cv fy) ⟨rfl,(rq [10] 5 (raT qY))⟩)
         ·exact og 5 ⟨rfl,(raE qZ)⟩
        ·refine og 5 ⟨rfl,(ra2 4 5 ?_ ?_)⟩
         ·exact oO rfl (cG [2] 5 1 (cv fy) ⟨rfl,(rq [10] 5 (ra1 5 (og 5 ⟨rfl,(raE mq)⟩)))⟩)
         ·exact og 5 ⟨rfl,(raT qZ)⟩
       ·exact ra1 4 (oO rfl (cG [2] 5 1 (cv fy) ⟨rfl,(rq [10] 4 (raT mq))⟩))
       ·exact ra1 8 (og 5 ⟨rfl,(raT mq)⟩)
       exact ra1 9 (oO rfl (cG [2] 5 1 (cv mE) ⟨rfl,(ra1 11 (og 5 ⟨rfl,(rq [12] 1 (ra1 13 (og 5 ⟨rfl,(RA.done (by decide +kernel) (wu (hK1 (x21.1,x23.1,x23.2,s12) h) [] [0,1,2,4] 5 rfl))⟩)))⟩))⟩))
      exact X 1 5 (wu (hK1 (s10,s11,c19,s12) h) [] [0,1,2,4] 5 rfl)
     refine X 4 5 (gi 66 hz (fun yX hz=>?_) (fun yX hz=>?_))
     ·refine Y 1 5 (yQ rfl (aH Ty.s32 rfl (Yp 3 5 (gi 71 hz (fun yY hz=>?_) (fun yY hz=>?_)))))
      ·refine B hz fun x18 dE hz=>(Y 1 5 (yQ rfl (aJ Ty.s32 (fun _=>rfl) rfl rfl dE (Yp 5 5 ?_))))
       cases hz;exact wu hK [] [0,1,3,4,2] 5 rfl
      refine Yp 7 5 ?_;cases hz;exact wu hK [] [0,1,3,4,2] 5 rfl
     refine Yp 12 5 ?_;cases hz;exact wu hK [] [0,1,3,4,2] 5 rfl
    refine B h fun x27 kT h=>(B h fun x28 mW h=>(B h fun x29 ib h=>(X 1 5 (T.drawn mixed (k:=6) rfl ?_))))
    apply RA.jn 2 (bm 6 15);intro q6
    ·refine rq [1] 5 (r0 2 rfl (aJ Ty.s32 (fun _=>rfl) rfl rfl mW (ra2 0 3 ?_ ?_)))
     ·exact oO rfl (cO 5 (m5 kT) ⟨rfl,(ra1 3 (og 6 ⟨rfl,(raE q6)⟩))⟩)
     ·exact og 5 ⟨rfl,(ra1 0 (oO rfl (cO 5 (m5 kT) ⟨rfl,(raT q6)⟩)))⟩
    refine ra1 4 (oO rfl (cF (rA ib) ⟨rfl,(rq [5] 0 (RA.done (by decide +kernel) (j1 [(0,.str x15.2.1),(3,.ptr 0 0),(4,iI x2.2.1),(5,iI x2.2.2),(6,.ptr 1 0),(7,iI s9),(10,.ptr 2 0),(11,sL ab x17),(12,.ptr 3 0),(13,.func 12 [.ptr 3 0]),(14,iI x29),(101,.bool ((decide (x29<0)) || ((x17).length:Int) != 4))] [.box (aG x2.1),.box [.ref 4,iI s10,iI s11],.box [.bool x15.2.2],.box [.func 10 [.ptr 2 0]],aR 42 4 aa s12] ?_ (fun hK=>?_))))⟩))
    ·refine T.ci h rfl (fun yZ h=>?_) (fun yZ h=>?_)
     ·exact X 3 5 (wu (hK1 (s10,s11,false,s12) h) [] [0,1,2,4] 5 rfl)
     refine B h fun x31 fx h=>(B h fun x32 ap h=>(B h fun x33 ic h=>(B h fun x34 aK h=>(B h fun x35 jk h=>(B h fun x36 kL h=>(B h fun x37 jl h=>(T.drawn mixed (k:=24) rfl ?_)))))))
     apply RA.jn 4 (bm 24 1048575);intro q7;apply RA.jn 6 (bm 24 262143);intro mr;apply RA.jn 7 (bm 24 253951);intro kJ;apply RA.jn 7 (bm 24 262141);intro q8;apply RA.jn 8 (bm 24 253949);intro mt;apply RA.jn 8 (bm 24 253695);intro mu;apply RA.jn 8 (bm 24 122879);intro mw;apply RA.jn 9 (bm 24 122877);intro q9;apply RA.jn 9 (bm 24 249599);intro ra;apply RA.jn 9 (bm 24 253693);intro rb;apply RA.jn 9 (bm 24 122623);intro rc
     ·refine rq [0,2,3,5] 20 (r0 6 rfl (aJ Ty.s32 (fun _=>rfl) rfl rfl fx (rq [9,10] 17 (r0 11 rfl (aJ Ty.s32 (fun _=>rfl) rfl rfl ic (rq [14,15] 14 (r0 16 rfl (aJ Ty.s32 (fun _=>rfl) rfl rfl jk (rL [4,8,13,18,19,20,21,22,23] 4 rfl (rL [7,8,13,18,19,20,21,22,23] 7 rfl (ra4 1 8 12 17 ?_ ?_ ?_ ?_)))))))))))
      ·refine og 5 ⟨rfl,(ra3 8 12 17 ?_ ?_ ?_)⟩
       ·exact oO rfl (cG [2] 5 1 (cv ap) ⟨rfl,(rL [12,13,18,19,20,21,22,23] 12 rfl (raE mw))⟩)
       ·exact og 5 ⟨rfl,(raE rc)⟩
       ·exact og 5 ⟨rfl,(raE ra)⟩
      ·exact oO rfl (cG [2] 5 1 (cv ap) ⟨rfl,(rL [12,13,18,19,20,21,22,23] 12 rfl (raE q9))⟩)
      ·refine og 5 ⟨rfl,(ra3 1 8 17 ?_ ?_ ?_)⟩
       ·exact og 5 ⟨rfl,(raT rc)⟩
       ·exact oO rfl (cG [2] 5 1 (cv ap) ⟨rfl,(raT q9)⟩)
       ·exact og 5 ⟨rfl,(raE rb)⟩
      ·refine og 5 ⟨rfl,(ra3 1 8 12 ?_ ?_ ?_)⟩
       ·exact og 5 ⟨rfl,(raT ra)⟩
       ·exact oO rfl (cG [2] 5 1 (cv ap) ⟨rfl,(rL [12,13,18,19,20,21,22,23] 12 rfl (raE mt))⟩)
       ·exact og 5 ⟨rfl,(raT rb)⟩
     ·refine ra2 8 17 ?_ ?_
      ·exact oO rfl (cG [2] 5 1 (cv ap) ⟨rfl,(raT mw)⟩)
      ·exact og 5 ⟨rfl,(raE mu)⟩
     ·refine ra2 1 8 ?_ ?_
      ·exact og 5 ⟨rfl,(raT mu)⟩
      ·exact oO rfl (cG [2] 5 1 (cv ap) ⟨rfl,(raT mt)⟩)
     ·refine ra2 8 12 ?_ ?_
      ·exact oO rfl (cG [2] 5 1 (cv ap) ⟨rfl,(ra1 12 (og 5 ⟨rfl,(raE kJ)⟩))⟩)
      ·exact og 5 ⟨rfl,(raT mu)⟩
     ·refine ra3 1 13 17 ?_ ?_ ?_
      ·exact og 5 ⟨rfl,(raT mw)⟩
      ·exact oO rfl (cG [3,2] 5 3 (gr aK) ⟨rfl,(rL [17,18,19,20,21,22,23] 17 rfl (raE q8))⟩)
      ·exact og 5 ⟨rfl,(raT mt)⟩
     ·refine ra2 13 17 ?_ ?_
      ·exact oO rfl (cG [3,2] 5 3 (gr aK) ⟨rfl,(ra1 17 (og 6 ⟨rfl,(raE mr)⟩))⟩)
      ·exact og 5 ⟨rfl,(raT kJ)⟩
     ·exact ra1 8 (oO rfl (cG [2] 5 1 (cv ap) ⟨rfl,(raT kJ)⟩))
     ·refine ra2 1 13 ?_ ?_
      ·exact og 5 ⟨rfl,(raT kJ)⟩
      ·exact oO rfl (cG [3,2] 5 3 (gr aK) ⟨rfl,(raT q8)⟩)
     ·refine ra2 1 18 ?_ ?_
      ·exact og 6 ⟨rfl,(raT mr)⟩
      ·exact oO rfl (cG [3,2] 6 3 (gr kL) ⟨rfl,(rq [19] 5 (rL [1,21,22,23] 1 rfl (raE q7)))⟩)
     ·exact ra1 13 (oO rfl (cG [3,2] 5 3 (gr aK) ⟨rfl,(raT mr)⟩))
     ·exact ra1 18 (oO rfl (cG [3,2] 6 3 (gr kL) ⟨rfl,(rq [19] 4 (raT q7))⟩))
     refine ra1 20 (RO.fC 5 (RO.fC 6 (oO rfl (b6 (rows:=List.map aa [(⟨IntKind.i64.wrap (x29+1),x32.1,x34.1,x36.1⟩:Node)]) (vs:=[.agg [iI (IntKind.i64.wrap (x29+1)),iI x32.1,sL aj x34.1,sL aj x36.1]]) Ty.s22 Ty.z42 rfl rfl rfl rfl rfl rfl (ra1 21 (oO rfl (gM (en:=aa) (xs:=s12) (ys:=([(⟨IntKind.i64.wrap (x29+1),x32.1,x34.1,x36.1⟩:Node)]:List Node)) Ty.s22 (fun _=>rfl) rfl rfl rfl jl rfl rfl (rq [22] 1 (ra1 23 (og 9 ⟨rfl,(RA.done (by decide +kernel) ?_)⟩))))))))));exact wu (hK1 (s10,s11,x36.2,x37) h) [] [0,1,2,8] 9 rfl
    refine X 5 6 (gp 97 (fun jf=>?_) (fun jf=>?_))
    ·refine Yp 5 6 ?_;rw [jf] at hK;exact wu hK [] [0,1,3,4,2] 6 rfl
    refine Y 1 6 (yQ rfl (aH Ty.s32 rfl (Yp 3 6 ?_)));rw [jf] at hK;exact wu hK [] [0,1,3,4,2] 6 rfl
   refine X 1 3 ?_;replace h:=mi h qO;refine B h fun x45 zF h=>(X 4 3 (sO (cO 3 (rH zF) ⟨rfl,(Y 11 4 (T.ci h rfl (fun y0 h=>?_) (fun y0 h=>?_)))⟩)))
   ·obtain ⟨y5,hz,h⟩:=bind_some h;revert hz h;revert y5;intro c47 hz h;refine j1 [(2,.bool c47)] [] ?_ (fun hK=>?_)
    ·cases h;exact tD
    refine X 6 4 (gi 149 hz (fun y6 hz=>?_) (fun y6 hz=>?_))
    ·refine Yp 4 4 (gi 153 hz (fun y7 hz=>?_) (fun y7 hz=>?_))
     ·refine B hz fun x46 zG hz=>(Y 2 4 (yO rfl (cF (ik zG) ⟨rfl,(Yp 3 4 ?_)⟩)))
      cases hz;exact wu hK [] [] 4 rfl
     refine Yp 6 4 ?_;cases hz;exact wu hK [] [] 4 rfl
    refine Yp 10 4 ?_;cases hz;exact wu hK [] [] 4 rfl
   refine X 1 4 ?_;obtain ⟨y8,hz,h⟩:=bind_some h;revert hz h;revert y8;intro c49 hz h;refine j1 [(2,.bool c49)] [] ?_ (fun hK=>?_)
   ·cases h;exact tD
   refine X 5 4 (gi 160 hz (fun y9 hz=>?_) (fun y9 hz=>?_))
   ·refine Yp 4 4 (gi 164 hz (fun za hz=>?_) (fun za hz=>?_))
    ·refine B hz fun x48 zH hz=>(Y 2 4 (yO rfl (cF (ik zH) ⟨rfl,(Yp 3 4 ?_)⟩)))
     cases hz;exact wu hK [] [] 4 rfl
    refine Yp 6 4 ?_;cases hz;exact wu hK [] [] 4 rfl
   refine Yp 10 4 ?_;cases hz;exact wu hK [] [] 4 rfl
  refine X 5 3 (gp 46 (fun gb=>?_) (fun gb=>?_))
  ·refine Yp 4 3 ?_;rw [gb] at hK;exact sx hK
  refine Yp 4 3 ?_;rw [gb] at hK;exact sx hK
 refine X 2 1 (sO (cF (m7 hx3) ⟨rfl,(Y 2 1 (gp 25 (fun au=>?_) (fun au=>?_)))⟩))
 ·refine Yp 5 1 ?_;rw [au] at hK;exact sx hK
 refine Yp 5 1 ?_;rw [au] at hK;exact sx hK
end
section
open Go.ChangeShapes Go.WideShapes Go.ChangeAt Go.RowKit
theorem ny {α:Type} {p:Nat->α->Prop}:∀ n:Nat,(∀ i,i<n->∃ x,p i x)->∃ l:List α,l.length=n/\∀ (i:Nat) x,l[i]?=some x->p i x
 | 0,_=>⟨[],rfl,fun i x h=>by simp at h⟩
 | n+1,h=>by
  obtain ⟨l,hl,hp⟩:=ny n (fun i hi=>h i (by omega));obtain ⟨y,hy⟩:=h n (by omega);refine ⟨l++[y],by simp [hl],fun i x hx=>?_⟩;rw [z6] at hx;split at hx
  ·exact hp i x hx
  ·have:i=n:=by
    have:=(zK.1 hx).1;simp at this;omega
   subst this;simp [hl] at hx;subst hx;exact hy
theorem oK {H:Type} (d:DataW H):1<=Rows.uptoBulk d:=by
 cases d with
 | lit l=>cases l<;>simp [Rows.uptoBulk]
 | _=>simp [Rows.uptoBulk]
theorem oZ {H α:Type} (m:α->Nat):∀ (l:List α) (ds:List (DataW H)),l.length=ds.length->(∀ (i:Nat) x d,l[i]?=some x->ds[i]?=some d->m x<=Rows.uptoBulk d)->(l.map m).sum<=Rows.uptoBulkAll ds
 | [],[],_,_=>by simp
 | [],_::_,h,_=>by simp at h
 | _::_,[],h,_=>by simp at h
 | x::l,d::ds,h,hp=>by have h0:=hp 0 x d rfl rfl;have h1:=oZ m l ds (by simpa using h) (fun i y e hy he=>hp (i+1) y e (by simpa using hy) (by simpa using he));simp only [Ac,List.sum_cons,Rows.uptoBulkAll];omega
structure Opn (P:Program) (t:TypeId) {α:Type} (en:α->List AV) (good:α->Prop) (m:α->Nat):Prop where
 opn:∀ {H:Type} {enc:TypeId × Value->H} {W:World} {fuel:Nat} {cs:List Value} {x:DataW H × List MemPlace},DataW.trod enc P W 0 (fun _=>true) true fuel t cs=some x ->
  ∃ a,RelL [] W (fun b=>b<W.heap.size) (en a) cs/\(∀ u,u∈cs->u.oneCell'=true)/\good a/\m a<=Rows.uptoBulk x.1
theorem Opn.map {P:Program} {t:TypeId} {α β:Type} {en:α->List AV} {good:α->Prop} {m:α->Nat} (h:Opn P t en good m) (f:α->β) {en':β->List AV} {good':β->Prop} {m':β->Nat}
  (he:∀ a,en' (f a)=en a) (hg:∀ a,good a->good' (f a)) (hm:∀ a,m' (f a)<=m a):Opn P t en' good' m' :=
 ⟨fun hx=>by obtain ⟨a,h1,h2,h3,h4⟩:=h.opn hx;exact ⟨f a,by rw [he];exact h1,h2,hg a h3,AF (hm a) h4⟩⟩
theorem iO {σ:List Value} {w:World} {F:Nat->Prop} {a:AV} {v:Value} (h:Rel σ w F a v):RelL σ w F [a] [v]:=.cons h .nil
theorem Opn.bool {P:Program} {t:TypeId} (ht:P.underlying t=some .bool):Opn P t (fun b:Bool=>[.bool b]) (fun _=>True) (fun _=>1) :=
 ⟨fun hx=>by obtain ⟨b,rfl,rfl⟩:=DataW.trod_bool ht hx;exact ⟨b,iO (.bool b),by simp [Value.oneCell'],trivial,oK _⟩⟩
theorem Opn.int {P:Program} {t:TypeId} {k:IntKind} (ht:P.underlying t=some (.int k)):Opn P t (fun n:Int=>[.int k n]) (fun n=>k.min<=n/\n<=k.max) (fun _=>1) :=
 ⟨fun hx=>by obtain ⟨n,rfl,rfl,hw⟩:=DataW.trod_int ht hx;refine ⟨n,iO (.int k n),by simp [Value.oneCell'],?_,oK _⟩;simpa only [Lit.wf,Az,decide_eq_true_eq] using hw⟩
theorem Opn.str {P:Program} {t:TypeId} (ht:P.underlying t=some .string):Opn P t (fun s:List UInt8=>[.str s]) (fun s=>s.length<=maxLen) (fun s=>s.length+1) :=
 ⟨fun hx=>by
  obtain ⟨s,rfl,rfl,hw⟩:=DataW.trod_string ht hx;refine ⟨s.data.toList,iO (by simpa using Rel.str s.data.toList),by simp [Value.oneCell'],?_,by simp [Rows.uptoBulk]⟩;have e:s.data.toList.length=s.size:=by rw [Array.length_toList];rfl
  omega⟩
theorem Opn.slice {P:Program} {t e:TypeId} {α:Type} {en:α->List AV} {good:α->Prop} {m:α->Nat} {size:Nat} (ht:P.underlying t=some (.slice e)) (hc:P.cellsOf e=size+1) (h:Opn P e en good m) :
  Opn P t (fun l:List α=>[.sl (l.map en)]) (fun l=>∀ a,a∈l->good a) (fun l=>(l.map m).sum+1):=by
 refine ⟨fun {H enc W fuel cs x} hx=>?_⟩
 rcases DataW.trod_slice ht hx with ⟨rfl,rfl⟩ | ⟨a,len,cap,elems,rest,n,_,rfl,rfl,hb,hl,hm,hlen,hel,hsp,hns⟩
 ·exact ⟨[],iO .slNil,by simp [Value.oneCell'],by simp,by simp [Rows.uptoBulk]⟩
 rw [hc] at hel
 have hone:∀ i,i<len->∃ y:α × List Value × (DataW H × List MemPlace),elems[i]?=some y.2.2/\W.cells? 0 (a.add (i*(size+1))) (size+1)=some y.2.1/\RelL [] W (fun b=>b<W.heap.size) (en y.1) y.2.1/\(∀ u,u∈y.2.1->u.oneCell'=true)/\good y.1/\m y.1<=Rows.uptoBulk y.2.2.1:=by intro i hi;have h1:=hel i hi;rw [zJ (by omega:i<elems.length)] at h1;obtain ⟨cs',hcs,ht'⟩:=Option.bind_eq_some_iff.1 h1;obtain ⟨y,g1,g2,g3,g4⟩:=h.opn ht';exact ⟨(y,cs',elems[i]),zJ (by omega),hcs,g1,g2,g3,g4⟩
 obtain ⟨ys,hys,hp⟩:=ny len hone
 refine ⟨ys.map (·.1),iO ?_,by simp [Value.oneCell'],?_,?_⟩
 ·have hrl:((ys.map (·.1)).map en).length=len:=by simp [hys]
  have key:Rel [] W (fun b=>b<W.heap.size) (.sl ((ys.map (·.1)).map en)) (.slice (some a) ((ys.map (·.1)).map en).length cap):=by
   refine .sl _ (size+1) a cap (fun i j=>((ys[i]?).bind (fun y=>y.2.1[j]?)).getD .nilIface) (fun hne=>?_) (by omega) hm (fun row hrow=>?_) (fun i j hi hj=>?_) (fun i j hi hj=>?_) (fun i row j x hi hj=>?_)
   ·have hpos:0<len:=by
     rcases Nat.eq_zero_or_pos len with h0 | h0
     ·exfalso;apply hne;apply zN;omega
     ·exact h0
    obtain ⟨y,hy⟩:∃ y,ys[0]?=some y:=⟨ys[0],zJ (by omega)⟩
    have:=World.cells?_block (hp 0 y hy).2.1 (by omega);rwa [gG] at this
   ·simp only [AO,Am] at hrow;obtain ⟨y,hy,rfl⟩:=hrow;obtain ⟨i,hi,hi'⟩:=List.getElem_of_mem hy;have h1:=hp i y (by rw [zJ hi,hi']);have h2:=(World.cells?_some h1.2.1).2.1;have h3:=h1.2.2.1.1;simp only [Function.comp];omega
   ·rw [hrl] at hi;obtain ⟨y,hy⟩:∃ y,ys[i]?=some y:=⟨ys[i],zJ (by omega)⟩
    have h1:=hp i y hy;have h2:=(World.cells?_some h1.2.1).2.1;have h3:y.2.1[j]?=some y.2.1[j]:=zJ (by omega);simp only [hy,zI,h3,AW];exact h1.2.2.2.1 _ (Aa _)
   ·rw [hrl] at hi;obtain ⟨y,hy⟩:∃ y,ys[i]?=some y:=⟨ys[i],zJ (by omega)⟩
    have h1:=hp i y hy;have h2:=World.cells?_some h1.2.1;have h3:y.2.1[j]?=some y.2.1[j]:=zJ (by omega);simp only [hy,zI,h3,AW];rw [<- dI,h2.2.2 j hj,h3]
   ·simp only [AO,zT,zQ] at hi;obtain ⟨y,hy,rfl⟩:=hi;have h1:=hp i y hy;obtain ⟨v,hv,hr⟩:=h1.2.2.1.get hj;simp only [hy,zI,hv,AW];exact hr
  rwa [hrl] at key
 ·intro z hz
  simp only [Am] at hz
  obtain ⟨y,hy,rfl⟩:=hz
  obtain ⟨i,hi,hi'⟩:=List.getElem_of_mem hy
  exact (hp i y (by rw [zJ hi,hi'])).2.2.2.2.1
 ·have:=oZ m (ys.map (·.1)) (elems.map (·.1)) (by simp [hys,hlen]) (fun i z d hz hd=>by
   simp only [zT,zQ] at hz hd;obtain ⟨y,hy,rfl⟩:=hz;obtain ⟨el,he,rfl⟩:=hd;have h1:=hp i y hy;rw [h1.1] at he;obtain rfl:=zL he;exact h1.2.2.2.2.2)
  simp only [Rows.uptoBulk]
  omega
structure OpnF (P:Program) (fs:List Field) (off total:Nat) {α:Type} (en:α->List AV) (good:α->Prop) (m:α->Nat):Prop where
 opn:∀ {H:Type} {enc:TypeId × Value->H} {W:World} {fuel:Nat} {cs:List Value} {xs:List (DataW H × List MemPlace)},cs.length=total ->
  xs.length=fs.length->(∀ (i:Nat) (f:Field),fs[i]?=some f->DataW.trod enc P W 0 (fun _=>true) true fuel f.type ((cs.drop f.offset).take (P.cellsOf f.type))=xs[i]?) ->
  ∃ a,RelL [] W (fun b=>b<W.heap.size) (en a) (cs.drop off)/\(∀ u,u∈cs.drop off->u.oneCell'=true)/\good a/\m a<=Rows.uptoBulkAll (xs.map (·.1))
theorem OpnF.nil {P:Program} {total:Nat}:OpnF P [] total total (fun _:Unit=>[]) (fun _=>True) (fun _=>0) :=
 ⟨fun hl hx hp=>⟨(),by rw [AC (by omega)];exact .nil,by rw [AC (by omega)];simp,trivial,by simp⟩⟩
theorem OpnF.cons {P:Program} {f:Field} {fs:List Field} {off total:Nat} {α β:Type} {en1:α->List AV} {en2:β->List AV} {g1:α->Prop} {g2:β->Prop} {m1:α->Nat} {m2:β->Nat}
  (ho:f.offset=off) (c:Nat) (hc:P.cellsOf f.type=c) (h1:Opn P f.type en1 g1 m1) (h2:OpnF P fs (off+c) total en2 g2 m2) :
  OpnF P (f::fs) off total (fun p:α × β=>en1 p.1++en2 p.2) (fun p=>g1 p.1/\g2 p.2) (fun p=>m1 p.1+m2 p.2):=by
 refine ⟨fun {H enc W fuel cs xs} hl hx hp=>?_⟩
 match xs,hx with
 | x::xs,hx =>
  have h0:=hp 0 f rfl
  simp only [List.getElem?_cons_zero] at h0
  subst ho;subst hc
  obtain ⟨a,a1,a2,a3,a4⟩:=h1.opn h0
  obtain ⟨b,b1,b2,b3,b4⟩:=h2.opn (xs:=xs) hl (by simpa using hx) (fun i f' hf=>by simpa using hp (i+1) f' (by simpa using hf))
  have hs:cs.drop f.offset=(cs.drop f.offset).take (P.cellsOf f.type)++cs.drop (f.offset+P.cellsOf f.type):=by rw [<- Ay];exact (Av _ _).symm
  refine ⟨(a,b),?_,fun u hu=>?_,⟨a3,b3⟩,?_⟩
  ·rw [hs];exact a1.append b1
  ·rw [hs,Ah] at hu
   exact hu.elim (a2 u) (b2 u)
  ·simp only [Ac,Rows.uptoBulkAll];omega
theorem Opn.struct {P:Program} {t:TypeId} {fs:Array Field} {total:Nat} {α:Type} {en:α->List AV} {good:α->Prop} {m:α->Nat} (ht:P.underlying t=some (.struct fs)) (hc:P.cellsOf t=total)
  (h:OpnF P fs.toList 0 total en good m):Opn P t en good m:=by
 refine ⟨fun {H enc W fuel cs x} hx=>?_⟩
 obtain ⟨xs,n,rfl,rfl,hl,hxl,hp⟩:=DataW.trod_struct ht hx
 obtain ⟨a,h1,h2,h3,h4⟩:=h.opn (enc:=enc) (W:=W) (fuel:=n) (cs:=cs) (xs:=xs) (by omega) (by simp [hxl]) (fun i f hf=>hp i f (by simpa using hf))
 exact ⟨a,by simpa using h1,by simpa using h2,h3,by simp only [Rows.uptoBulk];omega⟩
theorem Opn.arg {P:Program} {t:TypeId} {α:Type} {en:α->AV} {good:α->Prop} {m:α->Nat} (h:Opn P t (fun a=>[en a]) good m)
  (ht:(match P.underlying t with | some (.struct _) | some (.array _ _)=>false | _=>true)=true)
  {H:Type} {enc:TypeId × Value->H} {W:World} {base:Nat} {v:Value} {d:DataW H} {ps:List MemPlace} (hval:Value.okWide P W .any base t v) (hd:DataW.Trod enc P W 0 (fun _=>true) true t v d ps) :
  ∃ a,Rel [] W (fun b=>b<W.heap.size) (en a) v/\good a/\m a<=Rows.uptoBulk d:=by
 obtain ⟨fuel,hf⟩:=hd
 obtain ⟨a,h1,h2,h3,h4⟩:=h.opn hf
 have hv:v.cells=#[v]:=by
  cases v with
  | agg cs =>
   exfalso;unfold Value.okWide at hval;split at hval
   ·rename_i e;rw [e] at ht;simp at ht
   ·rename_i e;rw [e] at ht;simp at ht
   ·unfold Cell.okWide at hval;split at hval<;>simp_all [Cell.ok]
  | _=>rfl
 rw [hv] at h1
 exact ⟨a,h1.2 0 (en a) v rfl rfl,h3,h4⟩
theorem Opn.args {P:Program} {t:TypeId} {α:Type} {en:α->List AV} {good:α->Prop} {m:α->Nat} (h:Opn P t en good m)
  {fs:Array Field} (ht:P.underlying t=some (.struct fs))
  {H:Type} {enc:TypeId × Value->H} {W:World} {base:Nat} {v:Value} {d:DataW H} {ps:List MemPlace} (hval:Value.okWide P W .any base t v) (hd:DataW.Trod enc P W 0 (fun _=>true) true t v d ps) :
  ∃ a,Rel [] W (fun b=>b<W.heap.size) (.agg (en a)) v/\good a/\m a<=Rows.uptoBulk d:=by
 obtain ⟨fuel,hf⟩:=hd
 obtain ⟨a,h1,h2,h3,h4⟩:=h.opn hf
 unfold Value.okWide at hval
 rw [ht] at hval
 obtain ⟨cs,rfl,_,_⟩:=hval
 simp only [Value.cells] at h1 h2
 refine ⟨a,?_,h3,h4⟩
 have:=Rel.agg (σ:=[]) (w:=W) (F:=fun b=>b<W.heap.size) (en a) cs.toList h1.1 h2 h1.2
 simpa using this
theorem oc {H:Type} {enc:TypeId × Value->H} {P:Program} (hl:laidOutB P=true) {W W':World} (hb:Below W.heap.size W W') (sp:Nat->Bool) :
  ∀ {ts:List TypeId} {vs:List Value} {ds:List (DataW H)} {ps:List MemPlace},(ts.all fun t=>P.readableRec t && decide (t<P.types.size))=true->DataW.TrodAll enc P W 0 (fun _=>true) true ts vs ds ps ->
   (∀ x∈ps,x.block<W.heap.size)->(∀ x∈ps,sp x.block=true)->DataW.TrodAll enc P W' 0 sp true ts vs ds ps
 | [],[],[],_,_,h,_,_=>h
 | [],_::_,_,_,_,h,_,_=>h.elim
 | [],[],_::_,_,_,h,_,_=>h.elim
 | _::_,[],_,_,_,h,_,_=>h.elim
 | _::_,_::_,[],_,_,h,_,_=>h.elim
 | t::ts,v::vs,d::ds,ps,hr,h,hlt,hsp=>by
  obtain ⟨p,q,h1,h2,rfl⟩:=h;simp only [A5,Az,decide_eq_true_eq] at hr;exact ⟨p,q,WideElems.Trod_stays hl hr.1.1 hr.1.2 h1 (fun x hx=>hb.same (hlt x (by simp [hx]))) (fun x hx=>hsp x (by simp [hx])),
   oc hl hb sp hr.2 h2 (fun x hx=>hlt x (by simp [hx])) (fun x hx=>hsp x (by simp [hx])),rfl⟩
section
variable {H:Type} {enc:TypeId × Value→H} {P:Program}
theorem rZ {f:Func} {s:ChangeSpec} {apart fresh handsOn again:Bool} {W W':World} {args:Array Value} {v:Value} {ds gs:List (DataW H)} {before pa pv:List MemPlace}
  (hW:DataW.Whole enc P f.params.toList s.vars apart W args.toList ds gs before)
  (hres:∀ (b:Nat) (sp:Nat->Bool) (hd:Bool),DataW.TrodAll enc P W' b sp hd f.resultTypes.toList (v.resultList f.resultTypes.size) (s.fn H (ds++gs)).results [])
  (hargs:∀ sp:Nat->Bool,(∀ p∈before,sp p.block=true)->DataW.TrodAll enc P W' 0 sp true f.params.toList args.toList (s.fn H (ds++gs)).args pa)
  (hvars:∀ sp:Nat->Bool,(∀ p∈before,sp p.block=true)->DataW.TrodVars enc P W' sp s.vars (s.fn H (ds++gs)).vars pv)
  (hps:before=pa++pv) (hb:Below W.heap.size W W')
  (hok:∀ (j:Nat) (t:TypeId) (r:Value),f.resultTypes[j]?=some t->(v.resultList f.resultTypes.size)[j]?=some r->Value.okWide P W' .any 0 t r) :
  s.post enc P f apart fresh handsOn again W args v W':=by
 have hlt:∀ p∈before,p.block<W.heap.size:=fun p hp=>hW.lt p hp
 have hold:∀ p∈before,(fun b=>decide (b<W.heap.size)) p.block=true:=fun p hp=>by simpa using hlt p hp
 refine ⟨ds,gs,before,[],pa,pv,hW,hres _ _ _,hargs _ hold,hvars _ hold,World.keptBut_mono (fun p hp=>⟨hp,?_⟩) (hb.frame (·∈before)),fun _=>?_⟩
 ·rw [hps,Ah] at hp
  exact Or.inr hp
 ·obtain ⟨_,_,_,_,_,hz,hn⟩:=hW
  refine ⟨hok,_,_,([]++pa)++pv,⟨[]++pa,pv,trodAll_append (hargs _ (fun _ _=>rfl)) (hres _ _ _),hvars _ (fun _ _=>rfl),rfl,?_,?_⟩,?_⟩
  ·intro b off hp
   have hin:MemPlace.cell b off∈before:=by rw [hps];simpa using hp
   rw [hb.frozen (hlt _ hin)]
   exact hz b off hin
  ·intro ha
   have:=hn ha
   rw [hps] at this
   simpa using this
  ·intro p hp _
   rw [hps]
   simpa using hp
end
theorem u7 {H:Type} {enc:TypeId × Value->H} {P:Program} {id:FuncId} {f:Func} {s:ChangeSpec} {W:World} {args:Array Value} {ds gs:List (DataW H)} {before:List MemPlace} {av:List AV} {tb:TypeId}
  (hl:laidOutB P=true) (htb:P.underlying tb=some .bool) (hres:f.resultTypes=#[tb]) (hr:(f.params.toList.all fun t=>P.readableRec t && decide (t<P.types.size))=true) (hvars:s.vars=[])
  (hfn:(s.fn H (ds++gs)).results=[.lit (.bool true)]) (hfa:(s.fn H (ds++gs)).args=ds) (hfv:(s.fn H (ds++gs)).vars=[])
  (hW:DataW.Whole enc P f.params.toList s.vars false W args.toList ds gs before)
  (hrel:RelL [] W (fun b=>b<W.heap.size) av args.toList) (hc:ACalls P id av [] fun r aw'=>r=.bool true/\aw'=[]) (hG:Gd W (fun b=>b<W.heap.size):=by intro g h;simp [gvs] at h) :
  Calls P id args W fun e W'=>∃ v,e=.returned v/\s.post enc P f false true false false W args v W':=by
 have hs:Sim [] [] W (fun b=>b<W.heap.size):=⟨rfl,fun k o v h=>by simp at h,fun k k' o o' v v' g _ h=>by simp at h,fun b h=>h,hG⟩
 refine (hc.2 W _ [] args.toList hs hrel).mono fun e W' hx=>?_
 obtain ⟨v,r,aw',σ',F',he,⟨hr1,hr2⟩,_,hv,hm⟩:=hx
 subst hr1;subst hr2
 cases hv
 have hb:Below W.heap.size W W':=⟨hm.os,hm.tape,hm.output.1,hm.size,fun k hk=>hm.keep k hk (fun ⟨k',o,v,ho,_⟩=>by simp at ho)⟩
 refine ⟨.bool true,he,?_⟩
 have hW':=hW
 obtain ⟨p,q,hA,hV,rfl,hfz,hnd⟩:=hW'
 rw [hvars] at hV
 obtain ⟨rfl,rfl⟩:=trodVars_none hV
 have hlt:∀ x∈p++[],x.block<W.heap.size:=fun x hx=>hW.lt x hx
 refine rZ (pa:=p) (pv:=[]) hW (fun b sp hd=>?_) (fun sp hsp=>?_) (fun sp hsp=>?_) rfl hb (ok_one hres rfl (okWide_bool_mk htb _))
 ·rw [hfn,hres]
  exact trodAll_cons_mk (shut_bool htb _) trodAll_mk0
 ·rw [hfa]
  exact oc hl hb sp hr hA (fun x hx=>hlt x (by simpa using hx)) (fun x hx=>hsp x (by simpa using hx))
 ·rw [hfv,hvars]
  exact rfl
end
def gS (s:List UInt8):Prop:=True
def mS (s:List UInt8):Nat:=s.length+1
theorem fV {n:Int} (h0 : -9223372036854775808<=n) (h1:n<=9223372036854775807):IntKind.i64.wrap n=n:=IntWalk.i64_in n ⟨h0,h1⟩
theorem bq {k:Nat} (h:k<4611686018427387904):IntKind.i64.wrap ((k:Int)+1)=((k+1:Nat):Int):=by grind [fV]
theorem bw {α:Type} {xs:List α} {k:Nat} {x:α} (h:xs[k]?=some x):idx xs (k:Int)=some x:=by assumption
theorem kw {α:Type} {xs:List α} {k:Nat} (h:k<xs.length):ixN xs (k:Int)=some k:=by simp_all [ixN]
theorem f8 {α:Type} {xs ys:List α} (h:xs.length+ys.length<=1099511627776):app xs ys=some (xs++ys):=by unfold app;rw [if_pos h]
theorem xe {xs ys:List UInt8} (h:xs.length+ys.length<=4611686018427387904):cat xs ys=some (xs++ys):=by unfold cat;rw [if_pos h]
theorem qm {α:Type} {xs:List α} {i j:Nat} (h:i<=j) (h2:j<=xs.length):sub xs (i:Int) (j:Int)=some ((xs.take j).drop i):=by simp_all [sub]
theorem sub_0 {α:Type} {xs:List α} {j:Nat} (h2:j<=xs.length):sub xs 0 (j:Int)=some (xs.take j):=by have:=qm (xs:=xs) (i:=0) (j:=j) (by omega) h2;grind
theorem vT {α:Type} {xs:List α} {i:Nat} (h2:i<=xs.length):sub xs (i:Int) (xs.length:Int)=some (xs.drop i):=by simp_all [qm]
def di {α σ ρ:Type} (f:Nat->α->σ->Option (σ ⊕ ρ)) (fin:σ->Option ρ):Nat->List α->σ->Option ρ
 | _,[],st=>fin st
 | k,x::xs,st=>match f k x st with
  | none=>none
  | some (.inl st')=>di f fin (k+1) xs st'
  | some (.inr r)=>some r
theorem nU {α σ ρ τ:Type} (xs:List α) (hx:xs.length<=1099511627776) (e:Nat->σ->τ) {body:τ->Option (τ ⊕ ρ)} (f:Nat->α->σ->Option (σ ⊕ ρ)) (fin:σ->Option ρ)
  (h1:∀ (k:Nat) x st,xs[k]?=some x->k<xs.length->idx xs (k:Int)=some x->decide ((k:Int)<(xs.length:Int))=true->IntKind.i64.wrap ((k:Int)+1)=((k+1:Nat):Int) ->
   body (e k st)=match f k x st with
    | none=>none
    | some (.inl st')=>some (.inl (e (k+1) st'))
    | some (.inr r)=>some (.inr r))
  (h2:∀ st,decide ((xs.length:Int)<(xs.length:Int))=false->body (e xs.length st)=(fin st).map .inr) :
  ∀ (n k:Nat) st,k+n=xs.length->iter body (e k st)=di f fin k (xs.drop k) st
 | 0,k,st,h=>by
  have hk:k=xs.length:=by omega
  subst hk;rw [aL,h2 st (by simp),AX];unfold di;cases fin st<;>rfl
 | n+1,k,st,h=>by
  have hlt:k<xs.length:=by omega
  have hg:xs[k]?=some xs[k]:=zJ hlt;rw [aL,h1 k xs[k] st hg hlt (bw hg) (by simp;omega) (bq (by omega)),zY hlt];unfold di;cases f k xs[k] st with
  | none=>rfl
  | some v =>
   cases v with
   | inl st'=>exact nU xs hx e f fin h1 h2 n (k+1) st' (by omega)
   | inr r=>rfl
theorem lf {α σ ρ τ:Type} (xs:List α) (hx:xs.length<=1099511627776) (e:Nat->σ->τ) {body:τ->Option (τ ⊕ ρ)} (f:Nat->α->σ->Option (σ ⊕ ρ)) (fin:σ->Option ρ) (st:σ)
  (h1:∀ (k:Nat) x st,xs[k]?=some x->k<xs.length->idx xs (k:Int)=some x->decide ((k:Int)<(xs.length:Int))=true->IntKind.i64.wrap ((k:Int)+1)=((k+1:Nat):Int) ->
   body (e k st)=match f k x st with
    | none=>none
    | some (.inl st')=>some (.inl (e (k+1) st'))
    | some (.inr r)=>some (.inr r))
  (h2:∀ st,decide ((xs.length:Int)<(xs.length:Int))=false->body (e xs.length st)=(fin st).map .inr):iter body (e 0 st)=di f fin 0 xs st:=by
 have:=nU xs hx e f fin h1 h2 xs.length 0 st (by omega)
 grind
theorem tA {α:Type} [DecidableEq α] (a b:List α) (ha:a.length<=1099511627776) (hl:a.length=b.length) {body:Int->Option (Int ⊕ Bool)}
  (h1:∀ (k:Nat) x y,decide ((k:Int)<(a.length:Int))=true->idx a (k:Int)=some x->idx b (k:Int)=some y->IntKind.i64.wrap ((k:Int)+1)=((k+1:Nat):Int)->body k=if x=y then some (.inl ((k+1:Nat):Int)) else some (.inr false))
  (h2:decide ((a.length:Int)<(a.length:Int))=false->body a.length=some (.inr true)):iter body 0=some (decide (a=b)):=by
 have key:∀ (n k:Nat),k+n=a.length->iter body k=some (decide (a.drop k=b.drop k)):=by
  intro n;induction n with
  | zero =>
   grind [aL]
  | succ n ih =>
   intro k hk;have hlt:k<a.length:=by omega
   have hlt2:k<b.length:=by omega
   have hd:(a.drop k=b.drop k) ↔ (a[k]=b[k]/\a.drop (k+1)=b.drop (k+1)):=by grind [List.drop_eq_getElem_cons]
   rw [aL,h1 k a[k] b[k] (by simp;omega) (bw (zJ hlt)) (bw (zJ hlt2)) (bq (by omega))];grind
 have:=key a.length 0 (by omega)
 grind
section
open Go.RowKit
theorem on9:Opn Tryz.prog 9 (fun s:List UInt8=>[.str s]) gS mS :=
 (Opn.str Tryz.underlying9).map id (fun _=>rfl) (fun _ _=>trivial) (fun _=>zP _)
end
section
open Go
def dig (n:Int):List UInt8:=Go.Lib.decDigits n.toNat
theorem j9 {n:Int} (h:0<=n/\n<100):dS n=some (dig n):=by
 unfold dS itoaS;first
 | (rw [if_pos h];rfl)
 | (rw [if_pos (by omega)];unfold Go.Lib.itoa;rw [if_neg (by omega)];rfl)
theorem km {n:Int} (h:n<100):(dig n).length<=2/\dig n≠[]:=by
 unfold dig;unfold Go.Lib.decDigits;split
 ·exact ⟨by simp,by simp⟩
 ·unfold Go.Lib.decDigits;rw [dif_pos (by omega)];exact ⟨by simp,by simp⟩
def numT (l:List Int):List UInt8:=if l=[] then [45] else Go.Lib.join (l.map dig) [44]
theorem takeS {α:Type} {l:List α} {k:Nat} {x:α} (h:l[k]?=some x):l.take (k+1)=l.take k++[x]:=by rw [List.take_add_one,h];rfl
theorem py:∀ xs:List (List UInt8),(∀ x,x∈xs->x.length<=2)->Go.Lib.lens xs<=2*xs.length
 | [],_=>by simp [Go.Lib.lens]
 | x::r,h=>by
  have h1:=h x Aj;have h2:=py r fun y hy=>h y (Ai _ hy)
  simp only [Go.Lib.lens,Ac,List.sum_cons,zR] at h2 ⊢;omega
theorem wa (xs:List (List UInt8)) (h:∀ x,x∈xs->x.length<=2):(Go.Lib.join xs [44]).length<=3*xs.length:=by
 cases xs with
 | nil=>rw [Go.Lib.join_nil];simp
 | cons x r =>
  have:=py (x::r) h;rw [Go.Lib.join_length];simp only [zR,An] at this ⊢;omega
section
variable {l:List Int} (hl:l.length≤1000) (h:∀ x,x∈l→0≤x∧x<100)
include hl h
theorem pQ (k:Nat):(Go.Lib.join ((l.take k).map dig) [44]).length<=3000:=by
 have:=wa ((l.take k).map dig) fun x hx=>by obtain ⟨y,hy,rfl⟩:=Am.1 hx;exact (km (h y (Af hy)).2).1
 rw [zZ,AU] at this;omega
theorem ni:∀ (m k:Nat),k+m=l.length->iter (fun dC:Int × (List (List UInt8))=>eM l dC.1 dC.2) ((k:Int),(l.take k).map dig)=some (numT l)
 | 0,k,hk=>by
  have e:eM l (k:Int) ((l.take k).map dig)=some (.inr (numT l)):=by
   have hj:=pQ hl h l.length;unfold eM;rw [Ab (zP _)] at hj;rw [if_neg (by simp;omega),Ab (by omega)];unfold numT;by_cases h0:l=[]
   ·subst h0;rfl
   ·rw [if_neg (by simpa using h0),if_neg h0];unfold strings_Join joinB;rw [if_pos ⟨by simp;omega,by omega⟩];rfl
  rw [aL];simp only [e]
 | m+1,k,hk=>by
  have hlt:k<l.length:=by omega
  have hx:l[k]?=some l[k]:=zJ hlt;have hb:=h l[k] (Aa hlt);generalize l[k]=x at hx hb;have e:eM l (k:Int) ((l.take k).map dig)=some (.inl (((k+1:Nat):Int),(l.take (k+1)).map dig)):=by unfold eM;rw [if_pos (by simp;omega),bw hx,zI,j9 hb,zI,f8 (by simp;omega),zI,bq (by omega),takeS hx,AM];rfl
  rw [aL];simp only [e];exact ni m (k+1) (by omega)
theorem nI:iv l=some (numT l):=ni hl h l.length 0 (by omega)
end
end
section
open Go
def kindsL:List (List UInt8):=[[115,111,117,114,99,101],[109,97,112],[115,99,97,110],[99,111,117,110,116],[116,101,101],[109,101,114,103,101],[115,112,108,105,116],[115,105,110,107]]
def nameT (k:Int):List UInt8:=kindsL.getD (k - 1).toNat []
def dT (x:Node):List UInt8:=nameT x.Kind++[32]++dig x.A++[32]++numT x.In++[32]++numT x.Out++[10]
def dP (n:Net):List UInt8:=[114,105,110,103,115,32]++dig n.Rings++[32]++dig n.Room++[10]
def textT (n:Net):List UInt8:=dP n++(n.Nodes.map dT).flatten
structure TNode (x:Node):Prop where
 k:1<=x.Kind/\x.Kind<=8
 a:0<=x.A/\x.A<100
 i:x.In.length<=1000/\∀ r,r∈x.In->0<=r/\r<100
 o:x.Out.length<=1000/\∀ r,r∈x.Out->0<=r/\r<100
structure TN (n:Net):Prop where
 l:n.Nodes.length<=12
 r:0<=n.Rings/\n.Rings<100
 m:0<=n.Room/\n.Room<100
 x:∀ x,x∈n.Nodes->TNode x
theorem p9 {l:List Int} (hl:l.length<=1000) (h:∀ x,x∈l->0<=x/\x<100):(numT l).length<=3000:=by
 have:=pQ hl h l.length;rw [Ab (zP _)] at this;unfold numT;split
 ·simp
 ·exact this
theorem wX (k:Int):(nameT k).length<=6:=by
 unfold nameT;rw [z8];cases h:kindsL[(k - 1).toNat]? with
 | none=>simp
 | some x =>
  have hall:∀ y,y∈kindsL->y.length<=6:=by decide
  exact hall x (zM h)
theorem pN {x:Node} (t:TNode x):(dT x).length<=7000:=by have h1:=wX x.Kind;have h2:=(km t.a.2).1;have h3:=p9 t.i.1 t.i.2;have h4:=p9 t.o.1 t.o.2;unfold dT;simp only [Ag,zR,An];omega
theorem oN:∀ l:List Node,(∀ x,x∈l->TNode x)->((l.map dT).flatten).length<=7000*l.length
 | [],_=>by simp
 | x::l,h=>by
  have h1:=pN (h x Aj);have h2:=oN l fun y hy=>h y (Ai _ hy)
  rw [Ac,Aq,Ag,zR];omega
theorem p8 {n:Net} (t:TN n):(dP n).length<=100:=by have h1:=(km t.r.2).1;have h2:=(km t.m.2).1;unfold dP;simp only [Ag,zR,An];omega
theorem tp (a b:List UInt8):bj (a++b)=bj a++bj b:=by unfold bj;rw [AM]
theorem nC (a:List UInt8):(bj a).length=a.length:=by unfold bj;rw [zZ]
theorem sh (a:List UInt8):dj (bj a)=a:=by
 unfold dj bj;rw [AO];induction a with
 | nil=>rfl
 | cons b a ih=>rw [Ac,ih];simp
theorem qE (ws:List (List UInt8)) (s:List UInt8) (hw:ws.length<=4) (hj:(Go.Lib.join ws [32]).length<=10000) (hp:s.length<=10000000):gB ws (bj s)=some (bj (s++Go.Lib.join ws [32]++[10])):=by unfold gB strings_Join joinB;rw [if_pos ⟨by omega,by omega⟩,zI,xe (by simp only [zR,An];omega),zI];unfold jq k5;rw [zI,f8 (by rw [nC,nC,Ag];simp only [zR,An];omega),zI,zI,<- tp,A6]
theorem join4 (a b c d:List UInt8):Go.Lib.join [a,b,c,d] [32]=a++[32]++b++[32]++c++[32]++d:=by rw [Go.Lib.join_cons];simp [Go.Lib.joinTail]
theorem join3 (a b c:List UInt8):Go.Lib.join [a,b,c] [32]=a++[32]++b++[32]++c:=by rw [Go.Lib.join_cons];simp [Go.Lib.joinTail]
theorem u0 {k:Int} (h:1<=k/\k<=8):∃ j:Nat,k=(j:Int)/\j<9/\([]::kindsL)[j]?=some (nameT k)/\j - 1<8/\kindsL[j - 1]?=some (nameT k):=by
 obtain ⟨j,rfl⟩:=Int.eq_ofNat_of_zero_le (show 0<=k by omega);refine ⟨j,rfl,by omega,?_⟩;have:j=1∨j=2∨j=3∨j=4∨j=5∨j=6∨j=7∨j=8:=by omega
 rcases this with rfl | rfl | rfl | rfl | rfl | rfl | rfl | rfl<;>exact ⟨rfl,by decide,rfl⟩
section
variable {n:Net} (t:TN n)
include t
theorem nP:∀ (m k:Nat),k+m=n.Nodes.length->iter (fun dB:Int × (List Int)=>eO n dB.1 dB.2) ((k:Int),bj (dP n++((n.Nodes.take k).map dT).flatten))=some (textT n,0)
 | 0,k,hk=>by
  have e:eO n (k:Int) (bj (dP n++((n.Nodes.take k).map dT).flatten))=some (.inr (textT n,0)):=by
   unfold eO;rw [if_neg (by simp;omega),Ab (by omega)];unfold ld bldS;rw [if_pos ⟨by simp [bj,dP],fun x hx=>by obtain ⟨b,_,rfl⟩:=Am.1 hx;have:=b.toNat_lt;omega⟩,sh]
   rfl
  rw [aL];simp only [e]
 | m+1,k,hk=>by
  have hlt:k<n.Nodes.length:=by omega
  have hx:n.Nodes[k]?=some n.Nodes[k]:=zJ hlt;have tx:=t.x n.Nodes[k] (Aa hlt);generalize n.Nodes[k]=x at hx tx;obtain ⟨j,hj,hj9,hjn,_⟩:=u0 tx.k;have hl1:=oN (n.Nodes.take k) fun y hy=>t.x y (Af hy)
  have hl2:=p8 t;have hl3:=pN tx;have htk:(n.Nodes.take k).length<=12:=by rw [AU];have:=t.l;omega
  have e:eO n (k:Int) (bj (dP n++((n.Nodes.take k).map dT).flatten))=some (.inl (((k+1:Nat):Int),bj (dP n++((n.Nodes.take (k+1)).map dT).flatten))):=by
   unfold eO;rw [if_pos (by simp;omega),bw hx,zI,show gH=some ([]::kindsL) from rfl,zI,hj,kw (show j<([]::kindsL).length from hj9),zI,hjn,zI,j9 tx.a,zI,nI tx.i.1 tx.i.2,zI,nI tx.o.1 tx.o.2,zI,
    qE _ _ (by simp) (by rw [join4];unfold dT at hl3;simp only [Ag,zR,An] at hl3 ⊢;omega) (by rw [Ag];omega),zI,bq (by have:=t.l;omega),takeS hx,AM,AL,join4]
   unfold dT;simp only [Ac,List.map_nil,Aq,List.flatten_nil,List.append_nil,A6]
  rw [aL];simp only [e];exact nP m (k+1) (by omega)
theorem vC (hc:d6 n=some 0):iy n=some (textT n,0):=by
 have hl2:=p8 t;unfold iy;rw [hc,zI,if_neg (by decide),j9 t.r,zI,j9 t.m,zI,show ([]:List Int)=bj [] from rfl,
  qE _ _ (by simp) (by rw [join3];unfold dP at hl2;simp only [Ag,zR,An] at hl2 ⊢;omega) (by simp),zI,join3]
 have:=nP t n.Nodes.length 0 (by omega);simp only [List.take_zero,List.map_nil,List.flatten_nil,List.append_nil] at this;rw [<- this];unfold dP;simp only [AJ,AA,A6];rfl
end
end
def dy:Ends:=⟨-1, -1⟩
theorem o3 (R:Nat) (hR:R<=16):∀ (n k:Nat) (xs:List Ends),R - k<=n->1<=k->k<=R->xs.length=R->xs.take k=List.replicate k dy ->
  iter (fun ss:Int × List Ends=>eJ ss.1 ss.2) ((k:Int),xs)=some (List.replicate R dy)
 | n,k,xs,hn,h1,h2,hl,ht=>by
  rw [aL];by_cases hk:k=R
  ·simp_all [eJ,Ab]
  ·have hkR:k<R:=by omega
   have v1:vwok xs.length (k:Int) (xs.length:Int)=some ():=by simp_all [vwok]
   have v2:vwok xs.length 0 (k:Int)=some ():=by simp_all [vwok]
   have v3:vwok xs.length ((((k:Int)).toNat:Nat):Int) ((((k:Int).toNat:Nat):Int)+((((xs.length:Int)).toNat - (k:Int).toNat:Nat):Int))=some ():=by grind
   have v4:vwok xs.length ((((0:Int)).toNat:Nat):Int) ((((0:Int).toNat:Nat):Int)+(((k:Int).toNat - (0:Int).toNat:Nat):Int))=some ():=by grind
   have hstep:eJ (k:Int) xs=some (.inl (((k+min (R - k) k:Nat):Int),xs.take k++(xs.take k).take (R - k)++xs.drop (k+min (R - k) k))):=by
    unfold eJ;rw [if_pos (by simp;omega),v1,zI,v2,zI,v3,zI,v4,zI];have e1:IntKind.i64.wrap ((k:Int)+((min (((xs.length:Int)).toNat - (k:Int).toNat) ((k:Int).toNat - (0:Int).toNat):Nat):Int))=((k+min (R - k) k:Nat):Int):=by grind [fV]
    simp_all [cpy]
   rw [hstep];simp only;have hm:1<=min (R - k) k:=by omega
   match n,hn with
   | 0,hn=>omega
   | n+1,hn =>
    refine o3 R hR n (k+min (R - k) k) _ (by omega) (by omega) (by omega) (by simp;omega) ?_
    simp_all
theorem wF (R:Nat) (hR:R<=16):jz (IntKind.u64.wrap (([(⟨(-1),(-1)⟩:Ends)]:List Ends).length:Int)) (IntKind.u64.wrap (R:Int))=some (0,(R:Int)):=by
 have:R=0∨R=1∨R=2∨R=3∨R=4∨R=5∨R=6∨R=7∨R=8∨R=9∨R=10∨R=11∨R=12∨R=13∨R=14∨R=15∨R=16:=by omega
 rcases this with rfl | rfl | rfl | rfl | rfl | rfl | rfl | rfl | rfl | rfl | rfl | rfl | rfl | rfl | rfl | rfl | rfl<;>rfl
theorem ul (R:Nat) (hR:R<=16):il ([(⟨(-1),(-1)⟩:Ends)]:List Ends) (R:Int)=some (List.replicate R dy):=by
 unfold il;rw [if_neg (by simp),wF R hR,zI,if_neg (by simp;omega),fV (show -9223372036854775808<=(R:Int) by omega) (show (R:Int)<=9223372036854775807 by omega)];have hmk:mk (R:Int) (⟨0,0⟩:Ends)=some (List.replicate R ⟨0,0⟩):=by unfold mk;grind
 rw [hmk,zI];simp only [List.length_replicate,List.length_singleton];by_cases h0:R=0
 ·grind [aL,eJ,cpy]
 ·have e:min R 1=1:=by omega
  rw [e];have hc:cpy (List.replicate R (⟨0,0⟩:Ends)) 0 R [(⟨(-1),(-1)⟩:Ends)]=dy::(List.replicate R (⟨0,0⟩:Ends)).drop 1:=by grind [cpy,List.take_of_length_le,dy]
  rw [hc];exact o3 R hR R 1 _ (by omega) (by omega) (by omega) (by simp;omega) (by simp)
def bW (k:Int):Option (Int × Int):=if k=1 then some (0,1) else if k=2∨k=3∨k=4 then some (1,1) else if k=5∨k=7 then some (1, -1) else if k=6 then some (-1,1) else if k=8 then some (1,0) else none
def bx (n:Nat) (want:Int):Bool:=decide ((n:Int)=want∨want<0/\0<n)
def badA (x:Node):Bool:=decide (x.A<0∨x.Kind=1/\4<=x.A∨x.Kind=2/\3<x.A∨x.Kind≠1/\x.Kind≠2/\x.A≠0)
def ck (x:Node):Int:=match bW x.Kind with
 | none=>5
 | some (i,o)=>if (bx x.In.length i && bx x.Out.length o)=false then 4 else if badA x then 3 else 0
def cq (R i:Int):List Int->List Ends->Int ⊕ List Ends
 | [],l=>.inr l
 | r::rs,l=>if r<0∨R<=r then .inl 3 else match l[r.toNat]? with
  | none=>.inl 99
  | some e=>if 0<=e.dst then .inl 6 else cq R i rs (l.set r.toNat ⟨e.src,i⟩)
def bR (R i:Int):List Int->List Ends->Int ⊕ List Ends
 | [],l=>.inr l
 | r::rs,l=>if r<0∨R<=r then .inl 3 else match l[r.toNat]? with
  | none=>.inl 99
  | some e=>if 0<=e.src then .inl 6 else bR R i rs (l.set r.toNat ⟨i,e.dst⟩)
def oneN (R:Int) (i:Nat) (x:Node) (l:List Ends):Int ⊕ List Ends :=
 if ck x≠0 then .inl (ck x) else match cq R i x.In l with
  | .inl e=>.inl e
  | .inr l1=>bR R i x.Out l1
def cS (R:Int):Nat->List Node->Nat->List Ends->Int ⊕ (Nat × List Ends)
 | _,[],s,l=>.inr (s,l)
 | i,x::xs,s,l=>match oneN R i x l with
  | .inl e=>.inl e
  | .inr l1=>cS R (i+1) xs (if x.Kind=8 then s+1 else s) l1
def dA (n:Net):Int ⊕ List Ends :=
 if n.Nodes.length<1∨12<n.Nodes.length∨n.Rings<0∨16<n.Rings then .inl 2
 else if n.Room<1∨6<n.Room then .inl 3
 else match cS n.Rings 0 n.Nodes 0 (List.replicate n.Rings.toNat dy) with
  | .inl e=>.inl e
  | .inr (s,l)=>if l.any (fun e=>decide (e.src<0∨e.dst<0)) then .inl 9 else if s≠1 then .inl 4 else .inr l
theorem lr (R i:Int):∀ (rs:List Int) (l l1:List Ends),cq R i rs l=.inr l1->l1.length=l.length
 | [],l,l1,h=>by cases h;rfl
 | r::rs,l,l1,h=>by
  unfold cq at h;split at h
  ·cases h
  ·split at h
   ·cases h
   ·split at h
    ·cases h
    ·have:=lr R i rs _ l1 h;grind
theorem jT (R i:Int):∀ (rs:List Int) (l l1:List Ends),bR R i rs l=.inr l1->l1.length=l.length
 | [],l,l1,h=>by cases h;rfl
 | r::rs,l,l1,h=>by
  unfold bR at h;split at h
  ·cases h
  ·split at h
   ·cases h
   ·split at h
    ·cases h
    ·have:=jT R i rs _ l1 h;grind
theorem pm {R:Int} {i:Nat} {x:Node} {l l1:List Ends} (h:oneN R i x l=.inr l1):l1.length=l.length:=by
 unfold oneN at h;split at h
 ·cases h
 ·split at h
  ·cases h
  ·rename_i l2 h2;exact (jT R i _ _ _ h).trans (lr R i _ _ _ h2)
theorem uM (k:Int):iA k=some (match bW k with | some (i,o)=>(i,o,true) | none=>(0,0,false)):=by grind [iA,fI,gE,bW]
theorem wq (n:Nat) (w:Int):gR (n:Int) w=some (bx n w):=by unfold gR bx;congr 1;grind
theorem wt (n:Net) (s:Int) (i:Nat) (x:Node) (hR:n.Rings<=16) (k:Nat) (l:List Ends) (hlt:k<x.Out.length) (hx:x.Out.length<=1099511627776) (hl:(l.length:Int)=n.Rings) :
  eV n i x s k l=if x.Out[k]<0∨n.Rings<=x.Out[k] then some (.inr (.inr ([],3))) else match l[x.Out[k].toNat]? with
   | none=>none
   | some e=>if 0<=e.src then some (.inr (.inr ([],6))) else some (.inl (((k+1:Nat):Int),l.set x.Out[k].toNat ⟨i,e.dst⟩)):=by
 unfold eV
 rw [if_pos (by simp;omega),bw (zJ hlt),zI]
 by_cases hr:x.Out[k]<0∨n.Rings<=x.Out[k]
 ·grind
 ·rw [if_neg (by simp;omega),if_neg hr]
  have hrl:x.Out[k].toNat<l.length:=by omega
  have hix:ixN l x.Out[k]=some x.Out[k].toNat:=by simp_all [ixN]
  have hg:=zJ hrl
  simp only [hix,hg,zI,bq (show k<4611686018427387904 by omega)]
  simp
theorem vM (n:Net) (s:Int) (i:Nat) (x:Node) (hR:n.Rings<=16) (k:Nat) (l:List Ends) (hlt:k<x.In.length) (hx:x.In.length<=1099511627776) (hl:(l.length:Int)=n.Rings) :
  eS n i x s k l=if x.In[k]<0∨n.Rings<=x.In[k] then some (.inr (.inr ([],3))) else match l[x.In[k].toNat]? with
   | none=>none
   | some e=>if 0<=e.dst then some (.inr (.inr ([],6))) else some (.inl (((k+1:Nat):Int),l.set x.In[k].toNat ⟨e.src,i⟩)):=by
 unfold eS
 rw [if_pos (by simp;omega),bw (zJ hlt),zI]
 by_cases hr:x.In[k]<0∨n.Rings<=x.In[k]
 ·grind
 ·rw [if_neg (by simp;omega),if_neg hr]
  have hrl:x.In[k].toNat<l.length:=by omega
  have hix:ixN l x.In[k]=some x.In[k].toNat:=by simp_all [ixN]
  have hg:=zJ hrl
  simp only [hix,hg,zI,bq (show k<4611686018427387904 by omega)]
  simp
theorem pw (n:Net) (s:Int) (i:Nat) (x:Node) (hx:x.Out.length<=1099511627776) (hi:i<=12) (hR:n.Rings<=16) :
  ∀ (m k:Nat) (l:List Ends),k+m=x.Out.length->(l.length:Int)=n.Rings ->
  iter (fun ss:Int × List Ends=>eV n i x s ss.1 ss.2) ((k:Int),l)=match bR n.Rings i (x.Out.drop k) l with
   | .inl e=>some (.inr ([],e))
   | .inr l1=>some (.inl (s,((i+1:Nat):Int),l1))
 | 0,k,l,h,hl=>by
  have hk:k=x.Out.length:=by omega
  subst hk;have:eV n i x s (x.Out.length:Int) l=some (.inr (.inl (s,((i+1:Nat):Int),l))):=by unfold eV;rw [if_neg (by simp),bq (by omega)];rfl
  grind [aL,bR]
 | m+1,k,l,h,hl=>by
  have hlt:k<x.Out.length:=by omega
  rw [aL,zY hlt];simp only [bR,wt n s i x hR k l hlt hx hl];by_cases hr:x.Out[k]<0∨n.Rings<=x.Out[k]
  ·grind
  ·simp only [if_neg hr];have hrl:x.Out[k].toNat<l.length:=by omega
   simp only [zJ hrl];by_cases he:0<=l[x.Out[k].toNat].src
   ·grind
   ·simp only [if_neg he];exact pw n s i x hx hi hR m (k+1) _ (by omega) (by grind)
theorem pB (n:Net) (s:Int) (i:Nat) (x:Node) (hx:x.Out.length<=1099511627776) (hx2:x.In.length<=1099511627776) (hi:i<=12) (hR:n.Rings<=16) :
  ∀ (m k:Nat) (l:List Ends),k+m=x.In.length->(l.length:Int)=n.Rings ->
  iter (fun ss:Int × List Ends=>eS n i x s ss.1 ss.2) ((k:Int),l)=match (match cq n.Rings i (x.In.drop k) l with | .inl e=>Sum.inl e | .inr l1=>bR n.Rings i x.Out l1) with
   | .inl e=>some (.inr ([],e))
   | .inr l1=>some (.inl (s,((i+1:Nat):Int),l1))
 | 0,k,l,h,hl=>by
  have hk:k=x.In.length:=by omega
  subst hk;have:=pw n s i x hx hi hR x.Out.length 0 l (by omega) hl;simp only [A4,AB] at this;have h2:eS n i x s (x.In.length:Int) l=Option.map Sum.inr (match bR n.Rings i x.Out l with | .inl e=>some (.inr ([],e)) | .inr l1=>some (.inl (s,((i+1:Nat):Int),l1))):=by simp_all [eS]
  grind [aL,cq]
 | m+1,k,l,h,hl=>by
  have hlt:k<x.In.length:=by omega
  rw [aL,zY hlt];simp only [cq,vM n s i x hR k l hlt hx2 hl];by_cases hr:x.In[k]<0∨n.Rings<=x.In[k]
  ·grind
  ·simp only [if_neg hr];have hrl:x.In[k].toNat<l.length:=by omega
   simp only [zJ hrl];by_cases he:0<=l[x.In[k].toNat].dst
   ·grind
   ·simp only [if_neg he];exact pB n s i x hx hx2 hi hR m (k+1) _ (by omega) (by grind)
theorem wz (x:Node):((decide (x.A<0)) || (if (x.Kind==1)=true then ((decide (x.A >= 4)) || (if (x.Kind==2)=true then ((decide (x.A > 3)) || ((x.Kind != 1) && ((x.Kind != 2) && x.A != 0))) else ((x.Kind != 1) && ((x.Kind != 2) && x.A != 0)))) else (if (x.Kind==2)=true then ((decide (x.A > 3)) || ((x.Kind != 1) && ((x.Kind != 2) && x.A != 0))) else ((x.Kind != 1) && ((x.Kind != 2) && x.A != 0)))))=badA x:=by unfold badA;grind
theorem vK (s:Int) (l:List Ends) (hl:l.length<=16):iter (fun ss:Int=>fJ s l ss) 0=some (if l.any (fun e=>decide (e.src<0∨e.dst<0)) then ([],9) else if s≠1 then ([],4) else (l,0)):=by
 have:=lf (σ:=Unit) l (by omega) (fun k _=>(k:Int)) (body:=fun ss=>fJ s l ss)
  (fun k e _=>if e.src<0∨e.dst<0 then some (.inr ([],9)) else some (.inl ())) (fun _=>if s≠1 then some ([],4) else some (l,0)) ()
  (fun k e _ hk hlt _ h2 h3=>by unfold fJ;rw [h2,kw hlt,h3];grind)
  (fun _ h=>by simp [fJ])
 refine Eq.trans this ?_;have key:∀ (ys:List Ends) (k:Nat),di (σ:=Unit) (ρ:=List Ends × Int) (fun k e _=>if e.src<0∨e.dst<0 then some (.inr ([],9)) else some (.inl ())) (fun _=>if s≠1 then some ([],4) else some (l,0)) k ys ()=some (if ys.any (fun e=>decide (e.src<0∨e.dst<0)) then ([],9) else if s≠1 then ([],4) else (l,0)):=by
  intro ys;induction ys with
  | nil=>grind [di]
  | cons y ys ih =>
   intro k;unfold di;grind
 exact key l 0
theorem px (n:Net) (hn:n.Nodes.length<=12) (hR0:0<=n.Rings) (hR:n.Rings<=16) (hio:∀ x∈n.Nodes,x.In.length<=1099511627776/\x.Out.length<=1099511627776) :
  ∀ (m k s:Nat) (l:List Ends),k+m=n.Nodes.length->s<=k->(l.length:Int)=n.Rings ->
  iter (fun ss:Int × Int × List Ends=>eU n ss.1 ss.2.1 ss.2.2) ((s:Int),(k:Int),l)=some (match cS n.Rings k (n.Nodes.drop k) s l with
   | .inl e=>([],e)
   | .inr (s,l)=>if l.any (fun e=>decide (e.src<0∨e.dst<0)) then ([],9) else if s≠1 then ([],4) else (l,0))
 | 0,k,s,l,h,hs,hl=>by
  have hk:k=n.Nodes.length:=by omega
  subst hk;have h5:eU n s (n.Nodes.length:Int) l=some (.inr (if l.any (fun e=>decide (e.src<0∨e.dst<0)) then ([],9) else if (s:Int)≠1 then ([],4) else (l,0))):=by unfold eU;rw [if_neg (by simp),vK _ _ (by omega)];rfl
  grind [aL,cS]
 | m + 1,k,s,l,h,hs,hl=>by
  have hlt:k<n.Nodes.length:=by omega
  have hmem:n.Nodes[k]∈n.Nodes:=Aa hlt;rw [aL,zY hlt];simp only [cS];have step:eU n s k l=match oneN n.Rings k n.Nodes[k] l with
    | .inl e=>some (.inr ([],e))
    | .inr l1=>some (.inl (((if n.Nodes[k].Kind=8 then s+1 else s:Nat):Int),((k+1:Nat):Int),l1)):=by
   unfold eU
   rw [if_pos (by simp;omega),bw (zJ hlt),zI,uM,zI]
   generalize n.Nodes[k]=x at hmem
   unfold oneN ck
   cases ha:bW x.Kind with
   | none=>simp
   | some io =>
    obtain ⟨i0,o0⟩:=io
    simp only [Bool.not_true,zO,if_false,wq,zI]
    have hfit:(if (!bx x.In.length i0)=true then some true else some (!bx x.Out.length o0))=some (!(bx x.In.length i0 && bx x.Out.length o0)):=by grind
    rw [hfit,zI]
    by_cases hf:(bx x.In.length i0 && bx x.Out.length o0)=false
    ·grind
    ·have hf':(bx x.In.length i0 && bx x.Out.length o0)=true:=by grind
     rw [if_neg (by simp [hf']),wz]
     simp only [hf',Bool.true_eq_false,if_false]
     by_cases hb:badA x=true
     ·simp [hb]
     ·simp only [hb,if_false,zO,ne_eq,not_true_eq_false]
      obtain ⟨h1,h2⟩:=hio x hmem
      have k3:∀ s':Int,fK n k l x s'=match (match cq n.Rings k x.In l with | .inl e=>Sum.inl e | .inr l1=>bR n.Rings k x.Out l1) with
        | .inl e=>some (.inr ([],e))
        | .inr l1=>some (.inl (s',((k+1:Nat):Int),l1)):=fun s'=>by
       unfold fK
       have:=pB n s' k x h2 h1 (by omega) hR x.In.length 0 l (by omega) hl
       grind
      by_cases h8:x.Kind=8
      ·rw [if_pos (by simp [h8]),k3,bq (by omega)]
       grind
      grind
  simp only [step];cases ho:oneN n.Rings k n.Nodes[k] l with
  | inl e=>rfl
  | inr l1 =>
   simp only;exact px n hn hR0 hR hio m (k+1) _ l1 (by omega) (by grind) (by grind [pm])
theorem sB (n:Net) (hio:∀ x∈n.Nodes,x.In.length<=1099511627776/\x.Out.length<=1099511627776):iP n=some (match dA n with | .inl e=>([],e) | .inr l=>(l,0)):=by
 unfold iP dA;by_cases h1:n.Nodes.length<1∨12<n.Nodes.length∨n.Rings<0∨16<n.Rings
 ·grind
 rw [if_neg (by simp;omega),if_neg h1];by_cases h2:n.Room<1∨6<n.Room
 ·grind
 rw [if_neg (by simp;omega),if_neg h2];have hRn:n.Rings=((n.Rings.toNat:Nat):Int):=by omega
 rw [hRn,ul _ (by omega),zI,<- hRn];have:=px n (by omega) (by omega) (by omega) hio n.Nodes.length 0 0 (List.replicate n.Rings.toNat dy) (by omega) (by omega) (by simp;omega);grind
end Go.Proofs.YtbfncjgaklimlaaGreatDoor
