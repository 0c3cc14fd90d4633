/-
  Part 2 of the proof of shopLaysLaw.proved: the code computes these functions, and the law holds of them, with no condition beyond the statement's own; put together by a program of ours (wip/decl.py) out of texts of ours.
-/
import Derived.Laws.IdiomCopy
import Derived.Lib.Overlaps
import Derived.Test.YtnlmagdmmjkklaaGreatRows
import Derived.Sort.Defs
import Derived.Test.YtnlmagdmmjkklaaGreatZShopLays1
set_option linter.unusedVariables false
set_option linter.unusedSimpArgs false
namespace Go.Proofs.YtnlmagdmmjkklaaGreat
section
open Go.RowKit
theorem Ab {κ:Type} [DecidableEq κ] {k:κ}:∀ {ks:List κ} {i:Nat},kix k ks=some i->ks[i]?=some k
 | [],i,h=>by cases h
 | k'::r,i,h=>by
  unfold kix at h;split at h
  ·rename_i e;cases h;rw [e];rfl
  ·rw [KO] at h;obtain ⟨j,hj,rfl⟩:=h;simpa using Ab hj
structure KeyT (P:Program) (kt:TypeId) {κ:Type} [DecidableEq κ] (ek:κ->AV):Prop where
 out:∃ d,P.underlying kt=some d/\(∀ (b:Bool) (k:κ) σ w F v,Rel σ w F (ek k) v->∀ w',(Instr.checkKey b 10000 kt v).run P w'=.ok () w') /\
  (∀ (k k':κ) σ w F v v',Rel σ w F (ek k) v->Rel σ w F (ek k') v'->Instr.sameNow d v v'=some (decide (k=k'))/\(k=k'->Instr.sameBits 10000 v' v=true/\v'=v))
theorem HR {P:Program} {kt:TypeId} {q k:IntKind} (hu:P.underlying kt=some (.int q)) (b:Bool) (m:Nat) (x:Int) (w:World):(Instr.checkKey b (m+1) kt (.int k x)).run P w=.ok () w:=by simp [Instr.checkKey,run_underlying hu,Sem.run_bind]
theorem Hw {P:Program} {kt:TypeId} (hu:P.underlying kt=some .string) (b:Bool) (m:Nat) (x:ByteArray) (w:World):(Instr.checkKey b (m+1) kt (.string x)).run P w=.ok () w:=by simp [Instr.checkKey,run_underlying hu,Sem.run_bind]
theorem yf (x y:List UInt8):(ByteArray.mk x.toArray==ByteArray.mk y.toArray)=decide (x=y):=by
 show (x.toArray==y.toArray)=decide (x=y);by_cases e:x=y
 ·subst e;simp
 ·simp [e]
theorem FV (m:Nat) (k:IntKind) (a:Int):Instr.sameBits m (.int k a) (.int k a)=true:=by cases m<;>simp [Instr.sameBits]
theorem GI (m:Nat) (a:List UInt8):Instr.sameBits m (.string ⟨a.toArray⟩) (.string ⟨a.toArray⟩)=true:=by cases m<;>simp [Instr.sameBits,yf]
theorem KeyT.int {P:Program} {kt:TypeId} {q:IntKind} (hu:P.underlying kt=some (.int q)):KeyT P kt (fun n:Int=>.int .i64 n):=by
 refine ⟨_,hu,fun b k σ w F v h w'=>?_,fun k k' σ w F v v' h h'=>?_⟩
 ·cases h;exact HR hu b 9999 k w'
 ·cases h;cases h';refine ⟨by simp [Instr.sameNow];exact Bool.beq_eq_decide_eq k k',fun e=>?_⟩;subst e;exact ⟨FV _ _ _,rfl⟩
theorem KeyT.str {P:Program} {kt:TypeId} (hu:P.underlying kt=some .string):KeyT P kt (fun s:List UInt8=>.str s):=by
 refine ⟨_,hu,fun b k σ w F v h w'=>?_,fun k k' σ w F v v' h h'=>?_⟩
 ·cases h;exact Hw hu b 9999 _ w'
 ·cases h;cases h';refine ⟨by simp only [Instr.sameNow,yf],fun e=>?_⟩;subst e;exact ⟨GI _ _,rfl⟩
section
variable {P:Program} {N n:Nat} {aw aw':List Ob} {l:List (Nat × AV)} {σ:List Value} {w:World} {F:Nat→Prop}
def wput (w:World) (r:Nat) (o:Obj):World:={ w with heap:=w.heap.setIfInBounds r o }
theorem FB {w:World} {r:Nat} {o:Obj} (h:r<w.heap.size):(wput w r o).heap[r]?=some o:=by simp [wput,h]
theorem Ey {w:World} {r k:Nat} {o:Obj} (h:k≠r):(wput w r o).heap[k]?=w.heap[k]?:=by simp [wput,Array.getElem?_setIfInBounds_ne (Ne.symm h)]
theorem xY {w:World} {r:Nat} {o:Obj}:(wput w r o).heap.size=w.heap.size:=by simp [wput]
theorem rv {w:World} {r:Nat} {es:Array MapEntry} {clock:Nat} (hb:w.heap[r]?=some (.map es clock)):(getObj r).run P w=.ok (.map es clock) w:=by simp [getObj,Sem.run,hb]
theorem FA {w:World} {r:Nat} {es:Array MapEntry} {clock:Nat} (o:Obj) (hb:w.heap[r]?=some (.map es clock)):(setObj r o).run P w=.ok () (wput w r o):=by simp [setObj,Sem.run,hb,wput]
theorem xk {κ:Type} [DecidableEq κ] {d:TypeDesc} {k:κ} {v:Value}:∀ (es:List MapEntry) (ks:List κ) (i0:Nat),es.length=ks.length ->
  (∀ (j:Nat) k' e,ks[j]?=some k'->es[j]?=some e->Instr.sameNow d v e.key=some (decide (k=k'))) ->
  Instr.findNow d v es i0=some ((kix k ks).bind fun i=>(es[i]?).map fun e=>(i0+i,e.val))
 | [],[],i0,_,_=>rfl
 | e::es,k'::ks,i0,hl,h=>by
  have h0:=h 0 k' e rfl rfl;simp only [Instr.findNow,h0,kix];by_cases hk:k=k'
  ·simp [hk]
  ·simp only [hk,decide_false,if_false];rw [xk es ks (i0+1) (by simpa using hl) (fun j k2 e2 h1 h2=>h (j+1) k2 e2 (by simpa using h1) (by simpa using h2))];cases kix k ks with
   | none=>rfl
   | some i=>simp [Md,Nat.add_left_comm,L0]
 | [],_::_,_,hl,_=>by simp at hl
 | _::_,[],_,hl,_=>by simp at hl
theorem xq {κ:Type} [DecidableEq κ] {ek:κ->AV} {kt:TypeId} (hK:KeyT P kt ek) {k:κ} {ks:List κ} {es:Array MapEntry} {v:Value} (hr:RelL σ w F (ks.map ek) (es.toList.map (·.key))) (hv:Rel σ w F (ek k) v) (w':World) :
  (Instr.findKey kt v es.toList).run P w'=.ok ((kix k ks).bind fun i=>(es[i]?).map fun e=>(i,e.val)) w':=by
 obtain ⟨d,hu,hc,hs⟩:=hK.out
 have hl:es.toList.length=ks.length:=by simpa using hr.1
 have h:=xk (d:=d) (k:=k) (v:=v) es.toList ks 0 hl (fun j k' e h1 h2=>by refine (hs k k' σ w F v e.key hv (hr.2 j _ _ (by rw [KA,h1];rfl) (by rw [KA,h2];rfl))).1)
 simp only [Instr.findKey,Sem.run_bind,run_underlying hu,Result.andThen_ok,h,Sem.run_pure]
 congr 1
 cases kix k ks with
 | none=>rfl
 | some i=>simp
theorem Bh {vs:List AV} {es:Array MapEntry} (hv:RelL σ w F vs (es.toList.map (·.val))) {i:Nat} {a:AV} (h:vs[i]?=some a):∃ e,es[i]?=some e/\Rel σ w F a e.val:=by obtain ⟨u,hu,hr⟩:=hv.get h;rw [KA,KO] at hu;obtain ⟨e,he,rfl⟩:=hu;exact ⟨e,by simpa using he,hr⟩
theorem Ah {id:Nat} {ks vs:List AV} (hs:Sim aw σ w F) (ho:aw[id]?=some (.mp ks vs)) {r:Option Nat} (hσ:σ[id]?=some (.map r)) :
  ∃ g es clock,r=some g/\w.heap[g]?=some (.map es clock)/\RelL σ w F ks (es.toList.map (·.key))/\RelL σ w F vs (es.toList.map (·.val))/\¬ F g:=by
 obtain ⟨g,es,clock,e1,h1,h2,h3,h4⟩:=hs.obj id _ _ ho hσ
 injection e1 with e1
 exact ⟨g,es,clock,e1,h1,h2,h3,h4⟩
variable {d:Option Tmp} {ty:TypeId} {ps:String} {af:Array Edge} {g:Option (Nat × Bool)} {K2:AV→List Ob→Prop}
theorem Fz {t:TypeId} {k:Nat} (hk:aw.length=k) (ha:aw++[.mp [] []]=aw') (h:K2 (.mpr k) aw'):OP P N ⟨d,.makeMap t none,ty,ps,af,g⟩ (mkA n l) aw K2 :=
 OP.of_ok (fun σ w F a har hs=>by
  subst hk ha;have hk:∀ b,b<w.heap.size->(w.alloc (.map #[] 0)).heap[b]?=w.heap[b]?:=fun b hb=>Below.heap_alloc w _ b hb
  have hn:∀ b,Bk (.mp [] []) (.map (some w.heap.size)) b->w.heap.size<=b:=fun b hb=>by simp [Bk,blk] at hb;omega
  refine ⟨.map (some w.heap.size),_,w.alloc (.map #[] 0),_,σ++[.map (some w.heap.size)],F,_,?_,.inl rfl,hs.push (.mp [] []) _ hk (by simp) ⟨w.heap.size,#[],0,rfl,heap_alloc_new w _,.nil,.nil,fun hF=>?_⟩ hn,
   .push hs (.mp [] []) _ rfl rfl drO hk (by simp) hn,.mpr _ (some w.heap.size) (by rw [<- hs.len];simp),h⟩
  ·simp [execOp,Instr.makeMap,Sem.run_bind]
  ·have:=hs.lt _ hF;omega)
def pickA (vs:List AV) (az:AV):Option Nat->Option AV
 | some i=>vs[i]?
 | none=>some az
theorem D2 {κ:Type} [DecidableEq κ] {ek:κ->AV} {ks:List κ} {vs:List AV} {t kt et:TypeId} {x y:Operand} {id:Nat} {k:κ} {b:Bool} {z:Value} {az a:AV}
  (hm:P.underlying t=some (.map kt et)) (hK:KeyT P kt ek) (hz:(P.info? et).bind (·.zero)=some z) (hza:∀ σ w F,Rel σ w F az z) (hx:evA n l x=.mpr id) (hy:evA n l y=ek k) (ho:aw[id]?=some (.mp (ks.map ek) vs))
  (hr:pickA vs az (kix k ks)=some a)
  (h:K2 (if b=true then .tup [a,.bool (kix k ks).isSome] else a) aw):OP P N ⟨d,.lookup t x y b,ty,ps,af,g⟩ (mkA n l) aw K2 :=
 OP.of_ok (fun σ w F ac har hs=>by
  have ex:=har.ev x;have ey:=har.ev y;rw [aD,hx] at ex;rw [aD,hy] at ey;generalize hvx:ac.eval x=vx at ex;generalize hvy:ac.eval y=vy at ey;cases ex with
  | mpr _ r hσ =>
   obtain ⟨g0,es,clock,rfl,hg,hks,hvs,hF⟩:=Ah hs ho hσ;obtain ⟨dd,hu,hc,_⟩:=hK.out;have hf:=xq hK hks ey w;have hzr:(zeroValue et).run P w=.ok z w:=by rw [Option.bind_eq_some_iff] at hz;obtain ⟨i,hi,hzi⟩:=hz;exact sX hi hzi w
   have hchk:=hc es.isEmpty k σ w F vy ey w;cases hkx:kix k ks with
   | none =>
    rw [hkx] at hf hr h;change some az=some a at hr;cases hr;have hrun:(Instr.lookup t (.map (some g0)) vy b).run P w=.ok (if b=true then .tuple #[z,.bool false] else z) w:=by simp only [Instr.lookup,Sem.run_bind,run_underlying hm,Result.andThen_ok,rv hg,Sem.run_pure,hchk,hf,Option.bind_none,hzr]
    refine ⟨if b=true then .tuple #[z,.bool false] else z,_,w,aw,σ,F,_,?_,.inl rfl,hs,.refl ..,?_,h⟩
    ·simp only [execOp,hvx,hvy,Sem.run_bind,hrun,Result.andThen_ok,Sem.run_pure]
    ·cases b with
     | true=>exact .tup [az,.bool false] [z,.bool false] rfl (fun j c u hc hu=>by
      match j with
      | 0=>simp at hc hu;subst hc hu;exact hza σ w F
      | 1=>simp at hc hu;subst hc hu;exact .bool _
      | j+2=>simp at hc)
     | false=>exact hza σ w F
   | some i =>
    rw [hkx] at hf hr h;change vs[i]?=some a at hr;obtain ⟨e,he,hrel⟩:=Bh hvs hr;have hf':(Instr.findKey kt vy es.toList).run P w=.ok (some (i,e.val)) w:=by rw [hf];simp [he]
    have hrun:(Instr.lookup t (.map (some g0)) vy b).run P w=.ok (if b=true then .tuple #[e.val,.bool true] else e.val) w:=by simp only [Instr.lookup,Sem.run_bind,run_underlying hm,Result.andThen_ok,rv hg,Sem.run_pure,hchk,hf']
    refine ⟨if b=true then .tuple #[e.val,.bool true] else e.val,_,w,aw,σ,F,_,?_,.inl rfl,hs,.refl ..,?_,h⟩
    ·simp only [execOp,hvx,hvy,Sem.run_bind,hrun,Result.andThen_ok,Sem.run_pure]
    ·cases b with
     | true=>exact .tup [a,.bool true] [e.val,.bool true] rfl (fun j c u hc hu=>by
      match j with
      | 0=>simp at hc hu;subst hc hu;exact hrel
      | 1=>simp at hc hu;subst hc hu;exact .bool _
      | j+2=>simp at hc)
     | false=>exact hrel)
theorem F4 {es:Array MapEntry} {ks:List AV} {e:MapEntry} {a:AV} (h:RelL σ w F ks (es.toList.map (·.key))) (hr:Rel σ w F a e.key):RelL σ w F (ks++[a]) ((es.push e).toList.map (·.key)):=by
 have:(es.push e).toList.map (·.key)=es.toList.map (·.key)++[e.key]:=by simp
 rw [this];exact h.append (.cons hr .nil)
theorem GA {es:Array MapEntry} {ks:List AV} {e:MapEntry} {a:AV} (h:RelL σ w F ks (es.toList.map (·.val))) (hr:Rel σ w F a e.val):RelL σ w F (ks++[a]) ((es.push e).toList.map (·.val)):=by
 have:(es.push e).toList.map (·.val)=es.toList.map (·.val)++[e.val]:=by simp
 rw [this];exact h.append (.cons hr .nil)
theorem zq {id g0 clock c2:Nat} {es es':Array MapEntry} {ks vs ks' vs':List AV} (hs:Sim aw σ w F) (ho:aw[id]?=some (.mp ks vs)) (hσ:σ[id]?=some (.map (some g0))) (hg:w.heap[g0]?=some (.map es clock)) (hF:¬ F g0)
  (hk:RelL σ w F ks' (es'.toList.map (·.key))) (hv:RelL σ w F vs' (es'.toList.map (·.val))) :
  Sim (aw.set id (.mp ks' vs')) σ (wput w g0 (.map es' c2)) F/\Mv aw σ w F (aw.set id (.mp ks' vs')) σ (wput w g0 (.map es' c2)) F:=by
 have hlt:g0<w.heap.size:=(Lt.1 hg).1
 have hoth:∀ b,b≠g0->(wput w g0 (.map es' c2)).heap[b]?=w.heap[b]?:=fun b hb=>Ey hb
 have hFw:∀ b,F b->(wput w g0 (.map es' c2)).heap[b]?=w.heap[b]?:=fun b hb=>hoth b (fun e=>hF (e▸hb))
 refine ⟨hs.write (b0:=g0) id ho rfl hσ rfl hoth xY (.mp ks' vs') ⟨g0,es',c2,rfl,FB hlt,hk.mono (fun _ _ e=>e) (fun _ e=>e) hFw,hv.mono (fun _ _ e=>e) (fun _ e=>e) hFw,hF⟩ (fun _ h=>h),
  Mv.write (w:=w) (w':=wput w g0 (.map es' c2)) (F:=F) (b0:=g0) id ho rfl hσ rfl rfl rfl drO hoth xY (.mp ks' vs') (fun _ h=>h)⟩
theorem Ed {es:Array MapEntry} {i:Nat} {e:MapEntry} (he:es[i]?=some e) (k v:Value) (hk:e.key=k):(es.modify i fun e=>{ e with key:=k,val:=v }).toList.map (·.key)=es.toList.map (·.key):=by
 apply LE;intro j;rw [KA,KA,Me,Me,LX];by_cases h:i=j
 ·subst h;simp [he,hk]
 ·simp [h]
theorem Er {es:Array MapEntry} {i:Nat} {e:MapEntry} (he:es[i]?=some e) (k v:Value):(es.modify i fun e=>{ e with key:=k,val:=v }).toList.map (·.val)=(es.toList.map (·.val)).set i v:=by
 apply LE;intro j;rw [KA,Me,LX,KF];by_cases h:i=j
 ·subst h;have hlt:i<es.size:=(Lt.1 he).1;simp [he,hlt]
 ·simp [h]
theorem Dz {κ:Type} [DecidableEq κ] {ek:κ->AV} {ks:List κ} {vs:List AV} {t kt et:TypeId} {id:Nat} {k:κ} {a:AV} {r:Option Nat} {vy vz:Value}
  (hm:P.underlying t=some (.map kt et)) (hK:KeyT P kt ek) (hs:Sim aw σ w F) (ho:aw[id]?=some (.mp (ks.map ek) vs)) (hσ:σ[id]?=some (.map r)) (hy:Rel σ w F (ek k) vy) (hz:Rel σ w F a vz) :
  ∃ w',(Instr.mapUpdate t (.map r) vy vz).run P w=.ok () w' /\
   (match kix k ks with
    | some i=>Sim (aw.set id (.mp (ks.map ek) (vs.set i a))) σ w' F/\Mv aw σ w F (aw.set id (.mp (ks.map ek) (vs.set i a))) σ w' F
    | none=>Sim (aw.set id (.mp ((ks++[k]).map ek) (vs++[a]))) σ w' F/\Mv aw σ w F (aw.set id (.mp ((ks++[k]).map ek) (vs++[a]))) σ w' F):=by
 obtain ⟨g0,es,clock,rfl,hg,hks,hvs,hF⟩:=Ah hs ho hσ
 obtain ⟨dd,hu,hc,hsame⟩:=hK.out
 have hf:=xq hK hks hy w
 have hchk:=hc false k σ w F vy hy w
 have hput:∀ o:Obj,(setObj g0 o).run P w=.ok () (wput w g0 o):=fun o=>FA o hg
 cases hkx:kix k ks with
 | none =>
  rw [hkx] at hf
  obtain ⟨h1,h2⟩:=zq (c2:=clock+1) hs ho hσ hg hF (F4 (e:={ key:=vy,val:=vz,born:=clock }) hks hy) (GA (e:={ key:=vy,val:=vz,born:=clock }) hvs hz)
  refine ⟨wput w g0 (.map (es.push { key:=vy,val:=vz,born:=clock }) (clock+1)),?_,by simpa using h1,by simpa using h2⟩
  simp only [Instr.mapUpdate,Sem.run_bind,run_underlying hm,Result.andThen_ok,rv hg,hchk,hf,Option.bind_none,hput]
 | some i =>
  rw [hkx] at hf
  have hik:=Ab hkx
  have hiv:i<vs.length:=by have e1:=hks.1;have e2:=hvs.1;have:=(Kt.1 hik).1;simp at e1 e2;omega
  obtain ⟨e,he,_⟩:=Bh hvs (Ks hiv)
  have hrk:Rel σ w F (ek k) e.key:=hks.2 i _ _ (by rw [KA,hik];rfl) (by rw [KA,Me,he];rfl)
  obtain ⟨hb,hkeq⟩:=(hsame k k σ w F vy e.key hy hrk).2 rfl
  have hf':(Instr.findKey kt vy es.toList).run P w=.ok (some (i,e.val)) w:=by rw [hf];simp [he]
  have hstay:(Instr.keyThatStays e.key vy).run P w=.ok vy w:=by simp [Instr.keyThatStays,hb]
  obtain ⟨h1,h2⟩:=zq (es':=es.modify i fun e=>{ e with key:=vy,val:=vz }) (c2:=clock) (ks':=ks.map ek) (vs':=vs.set i a) hs ho hσ hg hF (by rw [Ed he vy vz hkeq];exact hks) (by rw [Er he vy vz];exact hvs.set i hz)
  refine ⟨wput w g0 (.map (es.modify i fun e=>{ e with key:=vy,val:=vz }) clock),?_,h1,h2⟩
  simp only [Instr.mapUpdate,Sem.run_bind,run_underlying hm,Result.andThen_ok,rv hg,hchk,hf',he,Lh,L5,hstay,hput]
theorem kN {κ:Type} [DecidableEq κ] {ek:κ->AV} {ks:List κ} {vs:List AV} {t kt et:TypeId} {op:Op} {x y z:Operand} {id:Nat} {k:κ} {a:AV} {o2:Ob}
  (hop:op=.mapUpdate t x y z∨op=.insert t x y z) (hm:P.underlying t=some (.map kt et)) (hK:KeyT P kt ek) (hx:evA n l x=.mpr id) (hy:evA n l y=ek k) (hz:evA n l z=a) (ho:aw[id]?=some (.mp (ks.map ek) vs))
  (hr:(match kix k ks with | some i=>Ob.mp (ks.map ek) (vs.set i a) | none=>.mp ((ks++[k]).map ek) (vs++[a]))=o2) (ha:aw.set id o2=aw') (h:K2 .any aw'):OP P N ⟨d,op,ty,ps,af,g⟩ (mkA n l) aw K2 :=
 OP.of_ok (fun σ w F ac har hs=>by
  subst ha;have ex:=har.ev x;have ey:=har.ev y;have ez:=har.ev z;rw [aD,hx] at ex;rw [aD,hy] at ey;rw [aD,hz] at ez;generalize hvx:ac.eval x=vx at ex;cases ex with
  | mpr _ r hσ =>
   obtain ⟨w',hrun,hm'⟩:=Dz hm hK hs ho hσ ey ez;have hexec:(execOp ac.eval ⟨d,op,ty,ps,af,g⟩).run P w=.ok .skip w':=by rcases hop with rfl | rfl<;>simp only [execOp,hvx,Sem.run_bind,hrun,Result.andThen_ok,Sem.run_pure]
   cases hkx:kix k ks with
   | none =>
    rw [hkx] at hr hm';subst hr;exact ⟨undef,_,w',_,σ,F,.any,hexec,.inr ⟨rfl,rfl⟩,hm'.1,hm'.2,.any _,h⟩
   | some i =>
    rw [hkx] at hr hm';subst hr;exact ⟨undef,_,w',_,σ,F,.any,hexec,.inr ⟨rfl,rfl⟩,hm'.1,hm'.2,.any _,h⟩)
variable {κ ν:Type} [DecidableEq κ] {ek:κ→AV} {ev:ν→AV} {xs:List (κ × ν)}
end
section
variable {P:Program} {aw aw':List Ob} {κ ν:Type} {ek:κ→AV} {ev:ν→AV} {xs:List (κ × ν)}
theorem rx {ρ:List Nat}:∀ {as₀:List AV},(∀ a,a∈as₀->Pure a)->b8 ρ as₀ as₀
 | [],_=>trivial
 | a::as₀,h=>⟨gk (h a (.head _)),rx fun b hb=>h b (.tail _ hb)⟩
theorem rn_np {ρ:List Nat} {k id:Nat} (h:ρ[k]?=some id):Ren ρ (.np k) (.np id):=fun σ w F v hr σ' hσ=>by
 cases hr with
 | np0 _=>exact .np0 k
 | npS _ g hg=>exact .npS k g (by rw [hσ k id h];exact hg)
theorem rm_np {m:List (Nat × Nat)} {k id:Nat} (h:(k,id)∈m):RenM m (.np k) (.np id):=fun σ w F v hr σ' hσ=>by
 cases hr with
 | np0 _=>exact .np0 k
 | npS _ g hg=>exact .npS k g (by have:=hσ _ h;simp only at this;rw [this];exact hg)
theorem AR {ρ:List Nat} {k id:Nat} (h:ρ[k]?=some id):Ren ρ (.mpr k) (.mpr id):=fun σ w F v hr σ' hσ=>by
 cases hr with
 | mpr _ r hg=>exact .mpr k r (by rw [hσ k id h];exact hg)
theorem Bi {m:List (Nat × Nat)} {k id:Nat} (h:(k,id)∈m):RenM m (.mpr k) (.mpr id):=fun σ w F v hr σ' hσ=>by
 cases hr with
 | mpr _ r hg=>exact .mpr k r (by have:=hσ _ h;simp only at this;rw [this];exact hg)
theorem tw {m:List (Nat × Nat)}:∀ {as₀:List AV},(∀ a,a∈as₀->Pure a)->fD m as₀ as₀
 | [],_=>trivial
 | a::as₀,h=>⟨an (h a (.head _)),tw fun b hb=>h b (.tail _ hb)⟩
end
abbrev kI (n:Int):AV:=.int .i64 n
abbrev kS (s:List UInt8):AV:=.str s
abbrev kB (b:Bool):AV:=.bool b
abbrev kU (_:Unit):AV:=.agg []
theorem Ie {κ:Type} [DecidableEq κ] {k:κ}:kix k ([]:List κ)=none:=rfl
theorem lE {κ:Type} [DecidableEq κ] {k k':κ} {r:List κ} (h:k=k'):kix k (k'::r)=some 0:=if_pos h
theorem co {κ:Type} [DecidableEq κ] {k k':κ} {r:List κ} {o:Option Nat} (h:k≠k') (h2:kix k r=o):kix k (k'::r)=o.map (· + 1):=by rw [<- h2];exact if_neg h
section
variable {P:Program} {N n:Nat} {aw aw':List Ob} {l:List (Nat × AV)} {d:Option Tmp} {ty:TypeId} {ps:String} {af:Array Edge} {g:Option (Nat × Bool)} {K2:AV→List Ob→Prop}
theorem jK {κ:Type} [DecidableEq κ] {ek:κ->AV} {ks:List κ} {vs:List AV} {t kt et:TypeId} {x y:Operand} {id:Nat} {k:κ} {z:Value} {az a:AV} {r:Option Nat}
  (hm:P.underlying t=some (.map kt et)) (hK:KeyT P kt ek) (hz:(P.info? et).bind (·.zero)=some z) (hza:∀ σ w F,Rel σ w F az z) (hx:evA n l x=.mpr id) (hy:evA n l y=ek k) (ho:aw[id]?=some (.mp (ks.map ek) vs))
  (hk:kix k ks=r) (hr:pickA vs az r=some a) (h:K2 a aw):OP P N ⟨d,.lookup t x y false,ty,ps,af,g⟩ (mkA n l) aw K2:=by
 subst hk;exact D2 hm hK hz hza hx hy ho hr h
theorem T.join4 {x y1 y2 y3 y4 y:Code} {Q:Exit->List AV->List Ob->Prop} {fr:List AV} {Z:Type} (F:Z->List AV) (A:Z->List Ob) (S:Z->Prop) (h:∀ z,S z->T P N y Q (F z) (A z))
 (h2:(∀ z,S z->T P N y Q (F z) (A z))->T P N (.seq x (.seq y1 (.seq y2 (.seq y3 (.seq y4 y))))) Q fr aw):T P N (.seq x (.seq y1 (.seq y2 (.seq y3 (.seq y4 y))))) Q fr aw:=h2 h
theorem ld {t:TypeId} {x:Operand} {dd:TypeDesc} {a:AV} (hu:P.underlying t=some dd) (hd:(match dd with | .interface _=>false | _=>true)=true) (hx:evA n l x=a) (h:K2 (.ifc t a) aw):OP P N ⟨d,.makeInterface t x,ty,ps,af,g⟩ (mkA n l) aw K2 :=
 OP.of_ok (fun σ w F ac har hs=>by have ex:=har.ev x;rw [aD,hx] at ex;refine ⟨.iface t (ac.eval x),_,w,aw,σ,F,_,?_,.inl rfl,hs,.refl ..,.ifc _ _ _ ex,h⟩;cases dd<;>simp_all [execOp,Instr.makeInterface,Sem.run_bind,run_underlying hu])
theorem Dm {t:TypeId} {len:Nat} {parts:Array (Nat × Operand)} {e c k:Nat} {z:List AV} {rows:List (List AV)} {vs vs2:List AV} (hS:SliceOf P t e c) (hz:aJ P e=some z) (hl:Nat.ble (len*c) 16777216=true) (hv:parts.toList.map (fun p=>evA n l p.2)=vs) (hn:dr aw vs=(vs2,aw)) (hr:lI P c (List.replicate len z) ((parts.toList.map (·.1)).zip vs2)=some rows) (hk:aw.length=k) (ha:aw++[.arr e c rows]=aw') (h:K2 (.ref k) aw'):OP P N ⟨d,.buildSlice t len parts,ty,ps,af,g⟩ (mkA n l) aw K2 :=
 OP.of_vc (by subst hk ha;obtain ⟨z',hz1,hz2⟩:=hS.z;rw [hz] at hz1;cases hz1;show vcE P (mkA n l) aw (.buildSlice t len parts) K2;simp only [vcE,hS.u,hz,hS.c];rw [show (parts.toList.map fun p=>ev (mkA n l) p.2)=vs from by rw [<- hv];exact Ld fun p _=>aD n l p.2,hn,hr];exact ⟨hz2,hS.p,LA hl,h⟩)
end
end
section
open Go.RowKit Go.Lib
section
variable {P:Program} {N n:Nat} {aw aw':List Ob} {l:List (Nat × AV)}
theorem mQ {size:Nat}:∀ (rows:List (List AV)) (j:Nat),(∀ row,row∈rows->row.length=size)->(rows.take j).flatten=rows.flatten.take (j*size)
 | [],j,_=>by simp
 | r::rows,0,_=>by simp
 | r::rows,j+1,h=>by
  have hr:=h r (by simp);have e:(j+1)*size=r.length+j*size:=by rw [KP];omega
  rw [List.take_succ_cons,Lb,Lb,mQ rows j (fun x hx=>h x (by simp [hx])),e,List.take_length_add_append]
end
end
section
open Go.RowKit
section
variable {P:Program} {N n:Nat} {aw aw':List Ob} {l:List (Nat × AV)} {σ:List Value} {w:World} {F:Nat→Prop}
structure IsV (σ:List Value) (id c lo n:Nat) (v:Value):Prop where
 out:∃ (N C K:Nat) (A B:Option Addr),σ[id]?=some (.slice B N C)/\v=.slice A n K/\lo+n<=C/\(0<n->∃ g,B=some ⟨g,0,none⟩/\A=some ⟨g,lo*c,none⟩)
structure Src (w:World) (c m:Nat) (flat:List Value) (v:Value):Prop where
 out:∃ (A:Option Addr) (K:Nat),v=.slice A m K/\flat.length=m*c/\(A=none->flat=[])/\∀ ad,A=some ad->∀ j u,flat[j]?=some u->w.cell? (ad.add j)=some u
theorem r6 {id e c:Nat} {rows:List (List AV)} (hs:Sim aw σ w F) (ho:aw[id]?=some (.arr e c rows)) {A:Option Addr} {q cp:Nat} (hσ:σ[id]?=some (.slice A q cp)):q=rows.length/\q<=cp:=by
 obtain ⟨flat,hown,_⟩:=hs.obj id _ _ ho hσ;rcases hown.2 with ⟨h1,h2⟩ | ⟨g,cap,cur,h1,_,_,h2,_⟩
 ·cases h1;exact ⟨by omega,by omega⟩
 ·cases h1;exact ⟨rfl,h2⟩
theorem pY {id c lo m:Nat} {cap:Option Nat} {v:Value} (h:Rel σ w F (.vw id c lo m cap) v):IsV σ id c lo m v:=by
 cases h with
 | vw _ _ _ _ N C _ A B h hn hA hc _=>exact ⟨N,C,_,A,B,h,rfl,hn,hA⟩
theorem zR {id e c:Nat} {rows:List (List AV)} {v:Value} (hs:Sim aw σ w F) (ho:aw[id]?=some (.arr e c rows)) (h:Rel σ w F (.ref id) v):IsV σ id c 0 rows.length v:=by
 cases h with
 | ref _ A q cp hσ =>
  obtain ⟨h1,h2⟩:=r6 hs ho hσ;subst h1;obtain ⟨_,flat,_,_,hc⟩:=fL hs ho hσ;refine ⟨_,cp,cp,A,A,hσ,rfl,by omega,fun h0=>?_⟩;rcases hc with hc | ⟨g,cur,e1,_⟩
  ·subst hc;simp at h0
  ·exact ⟨g,e1,by simpa using e1⟩
theorem ue {id e c lo m:Nat} {rows:List (List AV)} {v:Value} (hs:Sim aw σ w F) (ho:aw[id]?=some (.arr e c rows)) (hv:IsV σ id c lo m v) (hlo:lo+m<=rows.length) :
  ∃ flat,Src w c m flat v/\RelL σ w F ((rows.drop lo).take m).flatten flat/\(∀ u,u∈flat->u.oneCell'=true)/\∀ row,row∈rows->row.length=c:=by
 obtain ⟨N0,C,K,A,B,hσ,rfl,hn,hA⟩:=hv.out
 obtain ⟨h1,flat,hown,hfl,hc⟩:=fL hs ho hσ
 have hfr:(((rows.drop lo).take m).flatten)=((rows.flatten.drop (lo*c)).take (m*c)):=by
  rw [mQ _ _ (fun row hr=>hfl.1 row (Lo hr))];congr 1;have:∀ (k:Nat) (l:List (List AV)),(∀ row,row∈l->row.length=c)->(l.drop k).flatten=l.flatten.drop (k*c):=by
   intro k;induction k with
   | zero=>intro l _;simp
   | succ k ih =>
    intro l hl;cases l with
    | nil=>simp
    | cons x l =>
     rw [List.drop_succ_cons,ih l (fun row hr=>hl row (KS _ hr)),Lb,KP,Mj,<- hl x KQ,Md (k*x.length),<- L3,L4]
  exact this lo rows hfl.1
 refine ⟨(flat.drop (lo*c)).take (m*c),⟨A,K,rfl,?_,fun hA0=>?_,fun ad had j u hj=>?_⟩,?_,fun u hu=>hfl.2.1 u (Lo (KG hu)),hfl.1⟩
 ·have h2:=hown.1
  have:lo*c+m*c<=N0*c:=by rw [<- KP];exact KL _ (by omega)
  rw [KR,KX];omega
 ·by_cases hm:m=0
  ·subst hm;simp
  ·obtain ⟨g,_,e2⟩:=hA (by omega)
   rw [hA0] at e2;cases e2
 ·have hj':j<m*c:=by
   have:=(Kt.1 hj).1;rw [KR] at this;omega
  by_cases hm:m=0
  ·subst hm;simp at hj'
  ·obtain ⟨g,e1,e2⟩:=hA (by omega)
   rw [had] at e2;cases e2
   rcases hc with hc | ⟨g',cur,e3,_⟩
   ·subst hc;simp at hlo;omega
   ·rw [e1] at e3;cases e3
    rw [e1] at hown
    rw [K5,if_pos hj',K4] at hj
    have:=hown.cells (g:=g) rfl (lo*c+j) u hj
    rw [eP] at this
    rw [show (⟨g,lo*c,none⟩:Addr).add j=⟨g,lo*c+j,none⟩ from by unfold Addr.add;split<;>simp_all]
    exact this
 ·rw [hfr];exact hfl.2.2.sub _ _
theorem I1 {c:Nat} {rows:List (List AV)} {v:Value} (h:Rel σ w F (.sl rows) v) (hrow:∀ row,row∈rows->row.length=c) :
  ∃ flat,Src w c rows.length flat v/\RelL σ w F rows.flatten flat/\(∀ u,u∈flat->u.oneCell'=true):=by
 cases h with
 | slNil=>exact ⟨[],⟨none,0,rfl,by simp,fun _=>rfl,fun ad h=>by cases h⟩,.nil,fun u hu=>by simp at hu⟩
 | sl _ size ad cp u hF hn hm hr1 hone hcell hrel =>
  by_cases hne:rows=[]
  ·subst hne
   exact ⟨[],⟨some ad,cp,rfl,by simp,fun _=>rfl,fun _ _ j u hj=>by simp at hj⟩,.nil,fun u hu=>by simp at hu⟩
  ·have hsize:size=c:=by
    obtain ⟨r,rs,rfl⟩:=List.exists_cons_of_ne_nil hne;exact (hr1 r (by simp)).symm.trans (hrow r (by simp))
   subst hsize
   have hlen:rows.flatten.length=rows.length*size:=by
    have:∀ l:List (List AV),(∀ row,row∈l->row.length=size)->l.flatten.length=l.length*size:=by
     intro l;induction l with
     | nil=>simp
     | cons x l ih =>
      intro hx;rw [Lb,Kv,ih (fun row hr=>hx row (KS _ hr)),hx x KQ,KH,KP];omega
    exact this rows hr1
   by_cases h0:size=0
   ·subst h0
    refine ⟨[],⟨some ad,cp,rfl,by simp,(fun _=>rfl),(fun _ _ j u hj=>by simp at hj)⟩,?_,fun u hu=>by simp at hu⟩
    have:rows.flatten=[]:=KB (by simpa using hlen)
    rw [this];exact .nil
   ·have idx:∀ k,k<rows.length*size->k / size<rows.length/\k % size<size/\k / size*size+k % size=k:=fun k hk =>
     ⟨LS (by rw [LG];exact hk),Nat.mod_lt _ (by omega),by rw [LG];exact Nat.div_add_mod k _⟩
    have hget:∀ (k:Nat) x,((List.range (rows.length*size)).map fun k=>u (k / size) (k % size))[k]?=some x->k<rows.length*size/\x=u (k / size) (k % size):=fun k x hx=>by rw [KA,KO] at hx;obtain ⟨m,hm1,rfl⟩:=hx;obtain ⟨hlt,e1⟩:=Kt.1 hm1;simp at hlt e1;subst e1;exact ⟨hlt,rfl⟩
    refine ⟨(List.range (rows.length*size)).map fun k=>u (k / size) (k % size),⟨some ad,cp,rfl,by simp,fun h=>(by cases h),fun ad' e j x hj=>?_⟩,⟨by simp [hlen],fun j x y hx hy=>?_⟩,fun x hx=>?_⟩
    ·cases e
     obtain ⟨h1,rfl⟩:=hget j x hj
     obtain ⟨h2,h3,h4⟩:=idx j h1
     have:=hcell _ _ h2 h3
     rwa [h4] at this
    ·obtain ⟨h1,rfl⟩:=hget j y hy
     obtain ⟨h2,h3,h4⟩:=idx j h1
     have hf:=pd hr1 (j / size) (j % size) rows[j / size] (Ks h2) h3
     rw [h4,hx] at hf
     exact hrel _ _ _ _ (Ks h2) hf.symm
    ·obtain ⟨k,hk⟩:=KI hx
     obtain ⟨h1,rfl⟩:=hget k x hk
     obtain ⟨h2,h3,_⟩:=idx k h1
     exact hone _ _ h2 h3
theorem Ek {id e c lo k:Nat} {rows news:List (List AV)} {B:Option Addr} {N0 C g:Nat} {vs:List Value} (hs:Sim aw σ w F) (ho:aw[id]?=some (.arr e c rows)) (hσ:σ[id]?=some (.slice (some ⟨g,0,none⟩) N0 C))
  (hk:news.length=k) (hlo:lo+k<=rows.length) (hrow:∀ row,row∈news->row.length=c) (hvl:vs.length=k*c) (hr:RelL σ w F news.flatten vs) (h1:∀ u,u∈vs->u.oneCell'=true) :
  ∃ w',(storeCells ⟨g,lo*c,none⟩ vs).run P w=.ok () w'/\Sim (aw.set id (.arr e c (rows.take lo++news++rows.drop (lo+k)))) σ w' F/\Mv aw σ w F (aw.set id (.arr e c (rows.take lo++news++rows.drop (lo+k)))) σ w' F:=by
 obtain ⟨hn,flat,hown,hfl,hc⟩:=fL hs ho hσ
 have hdrop:∀ (k:Nat) (l:List (List AV)),(∀ row,row∈l->row.length=c)->(l.drop k).flatten=l.flatten.drop (k*c):=by
  intro k;induction k with
  | zero=>intro l _;simp
  | succ k ih =>
   intro l hl;cases l with
   | nil=>simp
   | cons x l =>
    rw [List.drop_succ_cons,ih l (fun row hr=>hl row (KS _ hr)),Lb,KP,Mj,<- hl x KQ,Md (k*x.length),<- L3,L4]
 rcases hc with hc | ⟨g',cur,e1,hF,hg,hnc,h2,h3,h4⟩
 ·subst hc
  have h0:k=0:=by simp at hlo;omega
  have hl0:lo=0:=by simp at hlo;omega
  subst h0 hl0
  have hv0:vs=[]:=KB (by simpa using hvl)
  have hn0:news=[]:=KB hk
  subst hv0 hn0
  have hset:aw.set id (.arr e c (([]:List (List AV)).take 0++[]++([]:List (List AV)).drop (0+0)))=aw:=by obtain ⟨hlt,hvs⟩:=Kt.1 ho;have:aw.set id aw[id]=aw:=Lr hlt;rw [hvs] at this;simpa using this
  rw [hset]
  exact ⟨w,by simp [storeCells],hs,.refl ..⟩
 ·cases e1
  have hin:lo*c+k*c<=N0*c:=by rw [<- KP];exact KL _ (by omega)
  have hcap:N0*c<=cur.size:=by rw [h3];exact KL _ hnc
  have hst:=run_storeCells_at P g (lo*c) e vs 0 cur w hg (by omega) h1
  simp only [Lq] at hst
  have hkk:∀ b,b≠g->(w.setRow g (cur.toList.take (lo*c)++vs++cur.toList.drop (lo*c+vs.length)).toArray).heap[b]?=w.heap[b]?:=fun b hb=>setRow_other w g b _ hb
  have hflat:flat.length=N0*c:=hown.1
  have hlen2:(rows.take lo++news++rows.drop (lo+k)).length=N0:=by simp;omega
  have hORel:ORel σ (w.setRow g (cur.toList.take (lo*c)++vs++cur.toList.drop (lo*c+vs.length)).toArray) F (.arr e c (rows.take lo++news++rows.drop (lo+k))) (.slice (some ⟨g,0,none⟩) N0 C):=by
   refine ⟨flat.take (lo*c)++vs++flat.drop (lo*c+vs.length),⟨?_,.inr ⟨g,C,_,by rw [hlen2],Lj _,setRow_heap w g cur _ e (0,0) hg,by rw [hlen2];exact hnc,h2,?_,?_⟩⟩,⟨fun row hr=>?_,fun u hu=>?_,?_⟩,fun g2 hg2=>?_,_,_,_,rfl⟩
   ·rw [hlen2];simp only [Kv,KR,KX];omega
   ·simp only [Mb,Kv,KR,KX,LJ];omega
   ·rw [hlen2];simp only [Mk];have h5:=wx cur.toList vs (lo*c) (N0*c) (by omega) (by simpa using hcap);simp only [cJ] at h5;rw [h5,h4]
   ·rcases KJ.1 hr with hr | hr
    ·rcases KJ.1 hr with hr | hr
     ·exact hfl.1 row (KG hr)
     ·exact hrow row hr
    ·exact hfl.1 row (Lo hr)
   ·rcases KJ.1 hu with hu | hu
    ·rcases KJ.1 hu with hu | hu
     ·exact hfl.2.1 u (KG hu)
     ·exact h1 u hu
    ·exact hfl.2.1 u (Lo hu)
   ·rw [Ml,Ml,mQ _ _ hfl.1,hdrop _ _ hfl.1];rw [show lo*c+vs.length=(lo+k)*c from by rw [hvl,KP]] at hkk ⊢;have hd2:RelL σ w F (rows.flatten.drop ((lo+k)*c)) (flat.drop ((lo+k)*c)):=by
     refine ⟨by simp [hfl.2.2.1],fun j a v ha hv=>?_⟩;rw [K4] at ha hv;exact hfl.2.2.2 _ a v ha hv
    exact (((hfl.2.2.take _).append hr).append hd2).mono (fun _ _ e=>e) (fun _ e=>e) (fun b hb=>hkk b (fun e=>hF (e▸hb)))
   ·simp [Value.ownBlock] at hg2;subst hg2;exact hF
  exact ⟨_,hst,hs.write (b0:=g) id ho rfl hσ rfl hkk (by simp) _ hORel (fun _ h=>h),Mv.write (w:=w) (w':=w.setRow g _) (F:=F) (b0:=g) id ho rfl hσ rfl rfl rfl drO hkk (by simp) _ (fun _ h=>h)⟩
theorem GO {t ts ty e c id lo m k:Nat} {rows news:List (List AV)} {vd vs:Value} {flat:List Value} (hu:P.underlying t=some (.slice e)) (hc:P.cellsOf e=c) (hsm:(P.underlying e).isSome=true) (hs:Sim aw σ w F) (ho:aw[id]?=some (.arr e c rows))
  (hd:IsV σ id c lo m vd) (hsrc:Src w c news.length flat vs) (hr:RelL σ w F news.flatten flat) (h1:∀ u,u∈flat->u.oneCell'=true) (hrow:∀ row,row∈news->row.length=c) (hk:min m news.length=k) (hlo:lo+k<=rows.length) :
  ∃ w',(Builtin.copy_ #[t,ts] ty #[vd,vs]).run P w=.ok (goInt k) w'/\Sim (aw.set id (.arr e c (rows.take lo++news.take k++rows.drop (lo+k)))) σ w' F/\Mv aw σ w F (aw.set id (.arr e c (rows.take lo++news.take k++rows.drop (lo+k)))) σ w' F:=by
 obtain ⟨N0,C,K,A,B,hσ,rfl,hn,hA⟩:=hd.out
 obtain ⟨A2,K2,rfl,hfl,hnone,hcell⟩:=hsrc.out
 obtain ⟨ds,hds⟩:=KN.1 hsm
 have hmin:Nat.min news.length m=k:=by rw [<- hk];exact Nat.min_comm _ _
 have htk:k*c<=flat.length:=by rw [hfl];exact KL _ (by omega)
 have hfirst:(Builtin.firstCells c k (.slice A2 news.length K2)).run P w=.ok (flat.take (k*c)).toArray w:=by
  cases A2 with
  | none=>rw [hnone rfl];simp [Builtin.firstCells]
  | some ad=>exact run_firstCells_some w c k ad news.length K2 (flat.take (k*c)) (by rw [KR];omega) (fun j u hj=>by
   rw [K5] at hj;split at hj
   ·exact hcell ad rfl j u hj
   ·cases hj)
 have hsz:=dX hds
 rw [hc] at hsz
 have hset:aw.set id (.arr e c (rows.take lo++([]:List (List AV))++rows.drop (lo+0)))=aw:=by obtain ⟨hlt,hvs⟩:=Kt.1 ho;have:aw.set id aw[id]=aw:=Lr hlt;rw [hvs] at this;simpa using this
 by_cases h0:k=0
 ·subst h0
  simp only [List.take_zero]
  rw [hset]
  refine ⟨w,?_,hs,.refl ..⟩
  have he:(flat.take (0*c)).toArray=#[]:=by simp
  rw [he] at hfirst
  cases A with
  | none=>simp [Builtin.copy_,Sem.run_bind,run_underlying hu,Builtin.lenOf,hmin,hsz,hfirst]
  | some a=>simp [Builtin.copy_,Sem.run_bind,run_underlying hu,Builtin.lenOf,hmin,hsz,hfirst,storeCells]
 ·obtain ⟨g,rfl,rfl⟩:=hA (by omega)
  have hrt:RelL σ w F (news.take k).flatten (flat.take (k*c)):=by rw [mQ _ _ hrow];exact hr.take _
  obtain ⟨w',hst,s2,m2⟩:=Ek (P:=P) (B:=none) (news:=news.take k) (vs:=flat.take (k*c)) (lo:=lo) (k:=k) hs ho hσ (by simp;omega) hlo (fun row hr=>hrow row (KG hr)) (by rw [KR];omega) hrt (fun u hu=>h1 u (KG hu))
  refine ⟨w',?_,s2,m2⟩
  simp [Builtin.copy_,Sem.run_bind,run_underlying hu,Builtin.lenOf,hmin,hsz,hfirst,hst]
variable {d:Option Tmp} {ty:TypeId} {ps:String} {af:Array Edge} {g:Option (Nat × Bool)} {K2:AV→List Ob→Prop} {α:Type} {en:α→List AV} {xs ys:List α}
theorem nD (lo:Option Operand):lo.map (ev (mkA n l))=lo.map (evA n l):=by cases lo<;>simp [aD]
theorem jO {t:TypeId} {x:Operand} {lo hi:Option Operand} {id e c:Nat} {i j:Int} {k k':IntKind} {u:Unit} (hS:SliceOf P t e c) (hx:evA n l x=.ref id) (ho:aw[id]?=some (.arr e c (xs.map en)))
    (hl:(lo.map (evA n l)).getD (.int .i64 0)=.int k i) (hh:(hi.map (evA n l)).getD (.int .i64 xs.length)=.int k' j) (hv:vwok xs.length i j=some u) (h:K2 (.vw id c i.toNat (j.toNat - i.toNat) none) aw) :
    OP P N ⟨d,.slice t x lo hi none,ty,ps,af,g⟩ (mkA n l) aw K2 :=
  OP.of_ok (fun σ w F a har hs=>by
    unfold vwok at hv;split at hv
    · rename_i hc;have ex:=har.ev x;rw [aD,hx] at ex;generalize hvx:a.eval x=vx at ex;cases ex with
      | ref _ A q cp hσ =>
        obtain ⟨h1,h2⟩:=r6 hs ho hσ;rw [KE] at h1;subst h1;obtain ⟨ds,hd⟩:=KN.1 hS.s;have hsz:=dX hd;rw [hS.c] at hsz;have b:=fun w'=>mX (P:=P) har (lo:=lo) (hi:=hi) (b:=true) (len:=xs.length) (cap:=cp) (by rw [nD];exact hl) (by rw [nD];exact hh) hc.1 hc.2.1 hc.2.2 h2 w'
        have hfm:∃ g,xs≠[]->A=some ⟨g,0,none⟩:=by
          obtain ⟨_,_,_,_,hc2⟩:=fL hs ho hσ;rcases hc2 with hc2 | ⟨g,cur,e1,_⟩
          · exact ⟨0,fun h=>absurd (Lf.1 hc2) h⟩
          · exact ⟨g,fun _=>e1⟩
        obtain ⟨g0,hg0⟩:=hfm;refine ⟨.slice (if cp=i.toNat then A else A.map (·.add (i.toNat*c))) (j.toNat - i.toNat) (cp - i.toNat),_,w,aw,σ,F,_,?_,.inl rfl,hs,.refl ..,?_,h⟩
        · simp [execOp,hvx,Instr.sliceAt,Instr.slice,Sem.run_bind,run_underlying hS.u,b,hsz]
        · refine .vw id c _ _ _ cp none _ A hσ (by omega) (fun hpos=>?_) (fun k hk=>by cases hk) ?_
          · have hne:xs≠[]:=by rintro rfl;simp at hc;omega
            refine ⟨g0,hg0 hne,?_⟩;have:¬ cp=i.toNat:=by omega
            rw [if_neg this,hg0 hne,Lh,eP]
          · intro h0;rw [h0];split
            · rfl
            · cases A with
              | none=>rfl
              | some A=>cases A;simp [Addr.add]
    · cases hv)
theorem rn {t ts e c id lo m k:Nat} {x y:Operand} {rows news:List (List AV)} {ax ay:AV} (hS:SliceOf P t e c) (hx:evA n l x=ax) (hy:evA n l y=ay) (ho:aw[id]?=some (.arr e c rows))
  (hd:∀ σ w F v,Sim aw σ w F->Rel σ w F ax v->IsV σ id c lo m v)
  (hsrc:∀ σ w F v,Sim aw σ w F->Rel σ w F ay v->∃ flat,Src w c news.length flat v/\RelL σ w F news.flatten flat/\(∀ u,u∈flat->u.oneCell'=true)) (hrow:∀ row,row∈news->row.length=c)
  (hk:min m news.length=k) (hlo:lo+k<=rows.length) (ha:aw.set id (.arr e c (rows.take lo++news.take k++rows.drop (lo+k)))=aw') (h:K2 (.int .i64 k) aw') :
  OP P N ⟨d,.call ⟨.builtin .copy,#[x,y],#[t,ts]⟩,ty,ps,af,g⟩ (mkA n l) aw K2 :=
 OP.of_ok (fun σ w F a har hs=>by subst ha;have ex:=har.ev x;have ey:=har.ev y;rw [aD,hx] at ex;rw [aD,hy] at ey;obtain ⟨flat,h1,h2,h3⟩:=hsrc σ w F _ hs ey;obtain ⟨w',hrun,s2,m2⟩:=GO (P:=P) (t:=t) (ts:=ts) (ty:=ty) hS.u hS.c hS.s hs ho (hd σ w F _ hs ex) h1 h2 h3 hrow hk hlo;refine ⟨goInt k,_,w',_,σ,F,_,?_,.inl rfl,s2,m2,.int _ _,h⟩;simp [execOp,resolve,invoke,builtin,Sem.run_bind,hrun])
theorem rX (lo m:Nat):(cpy xs lo m ys).map en=(xs.map en).take lo++(ys.map en).take (min m ys.length)++(xs.map en).drop (lo+min m ys.length):=by
 unfold cpy;have:ys.take m=ys.take (min m ys.length):=by
  by_cases h:m<=ys.length
  ·rw [Lp h]
  ·rw [Mf (by omega),K7 (by omega),Lx]
 rw [Ma,Ma,L8,Mt,this,L8]
theorem EH {t ts e c id:Nat} {x y:Operand} (hS:SliceOf P t e c) (hen:∀ a,(en a).length=c) (hx:evA n l x=.ref id) (hy:evA n l y=.sl (ys.map en)) (ho:aw[id]?=some (.arr e c (xs.map en)))
  (ha:aw.set id (.arr e c ((cpy xs 0 xs.length ys).map en))=aw') (h:K2 (.int .i64 (min xs.length ys.length:Nat)) aw'):OP P N ⟨d,.call ⟨.builtin .copy,#[x,y],#[t,ts]⟩,ty,ps,af,g⟩ (mkA n l) aw K2:=by
 have hrow:∀ row,row∈ys.map en->row.length=c:=fun row hr=>by obtain ⟨a,_,rfl⟩:=KT.1 hr;exact hen a
 rw [rX] at ha
 exact rn (lo:=0) (m:=xs.length) (news:=ys.map en) (k:=min xs.length ys.length) hS hx hy ho (fun σ w F v hs hr=>by have:=zR hs ho hr;rwa [KE] at this) (fun σ w F v _ hr=>I1 hr hrow) hrow (by simp) (by simp;omega) ha h
theorem FN {t ts e c id lo m lo2 m2:Nat} {x y:Operand} {cap cap2:Option Nat} {u u2:Unit} (hS:SliceOf P t e c) (hen:∀ a,(en a).length=c) (hx:evA n l x=.vw id c lo m cap) (hy:evA n l y=.vw id c lo2 m2 cap2) (ho:aw[id]?=some (.arr e c (xs.map en)))
  (hv:vwok xs.length lo ((lo:Int)+m)=some u) (hv2:vwok xs.length lo2 ((lo2:Int)+m2)=some u2) (ha:aw.set id (.arr e c ((cpy xs lo m ((xs.drop lo2).take m2)).map en))=aw') (h:K2 (.int .i64 (min m m2:Nat)) aw'):OP P N ⟨d,.call ⟨.builtin .copy,#[x,y],#[t,ts]⟩,ty,ps,af,g⟩ (mkA n l) aw K2:=by
 unfold vwok at hv hv2
 split at hv<;>split at hv2
 ·rename_i hc hc2
  have hl2:((xs.drop lo2).take m2).length=m2:=by rw [KR,KX];omega
  have hrow:∀ row,row∈((xs.drop lo2).take m2).map en->row.length=c:=fun row hr=>by obtain ⟨a,_,rfl⟩:=KT.1 hr;exact hen a
  rw [rX,hl2] at ha
  refine rn (news:=((xs.drop lo2).take m2).map en) (k:=min m m2) hS hx hy ho (fun σ w F v _ hr=>pY hr) (fun σ w F v hs hr=>?_) hrow (by rw [KE,hl2]) (by simp;omega) ha h
  obtain ⟨flat,h1,h2,h3,_⟩:=ue hs ho (pY hr) (by simp;omega)
  rw [KE,hl2]
  rw [<- Mt,<- L8] at h2
  exact ⟨flat,h1,h2,h3⟩
 ·cases hv2
 ·cases hv
 ·cases hv
theorem GY {t e c id lo m:Nat} {x:Operand} {cap:Option Nat} (hS:SliceOf P t e c) (hx:evA n l x=.vw id c lo m cap) (h:K2 (.int .i64 m) aw):OP P N ⟨d,.call ⟨.builtin .len,#[x],#[t]⟩,ty,ps,af,g⟩ (mkA n l) aw K2 :=
 OP.of_ok (fun σ w F a har hs=>by
  have ex:=har.ev x;rw [aD,hx] at ex;generalize hvx:a.eval x=vx at ex;cases ex with
  | vw _ _ _ _ N0 C _ A B hσ hn hA hc _ =>
   refine ⟨.int .i64 m,_,w,aw,σ,F,_,?_,.inl rfl,hs,.refl ..,.int _ _,h⟩;simp [execOp,resolve,invoke,builtin,Sem.run_bind,hvx,Builtin.len_,run_underlying hS.u,goInt])
end
end
section
open Go.RowKit Go.Lib
section
variable {P:Program} {N n:Nat} {aw aw':List Ob} {l:List (Nat × AV)} {σ:List Value} {w:World} {F:Nat→Prop}
theorem um {t:Nat} {r:AV} {v:Value} {a:Act} (h:ARel σ w F (mkA n l) a) (hv:a.eval (.tmp t)=v) (hr:Rel σ w F r v):ARel σ w F (mkA n ((t,r)::l)) a:=by
 have e1:a.tmps.getD t undef=v:=hv;have hset:mkA n ((t,r)::l)=(mkA n l).set t r:=(dl n l (some t) r).symm;rw [hset];refine ⟨?_,h.2⟩;by_cases ht:t<a.tmps.size
 ·have:=h.1.set t hr;have e2:a.tmps.toList.set t v=a.tmps.toList:=by
   have e3:a.tmps.toList[t]?=some v:=by
    have:a.tmps[t]?=some v:=by rw [L1 ht];rw [<- e1];simp [ht]
    simpa using this
   obtain ⟨hlt2,hvs⟩:=Kt.1 e3;rw [<- hvs];exact Lr hlt2
  rwa [e2] at this
 ·have hlen:=h.1.1;have:(mkA n l).set t r=mkA n l:=List.set_eq_of_length_le (by rw [<- hlen];simpa using Nat.le_of_not_lt ht);rw [this];exact h.1
theorem T.expose {code:Code} {Q:Exit->List AV->List Ob->Prop} (t id:Nat) {e c:Nat} {rows:List (List AV)} (hx:evA n l (.tmp t)=.ref id) (ho:aw[id]?=some (.arr e c rows))
  (h:∀ C:Nat,rows.length<=C->T P N code Q (mkA n ((t,.vw id c 0 rows.length (some C))::l)) aw):T P N code Q (mkA n l) aw :=
 ⟨fun st h1 h2 σ w F a hcur=>by
  have hr:=hcur.fr.ev (.tmp t);rw [aD,hx] at hr;generalize hv:a.eval (.tmp t)=v at hr;cases hr with
  | ref _ A m C hg =>
   obtain ⟨hm,hmc⟩:=r6 hcur.sim ho hg;subst hm;refine (h C hmc).out st h1 h2 σ w F a ⟨hcur.sim,um hcur.fr hv ?_,hcur.mv,hcur.ds⟩;refine Rel.vw (σ:=σ) (w:=w) (F:=F) id c 0 rows.length rows.length C (some C) A A hg (by omega) (fun hpos=>?_) (fun k hk=>by cases hk;rfl) (fun _=>rfl);obtain ⟨_,_,_,_,hc2⟩:=fL hcur.sim ho hg;rcases hc2 with hc2 | ⟨g,cur,e1,_⟩
   ·rw [hc2] at hpos;simp at hpos
   ·exact ⟨g,e1,by simpa using e1⟩⟩
theorem T.exposeM {α:Type} {en:α->List AV} {xs:List α} {code:Code} {Q:Exit->List AV->List Ob->Prop} (t id:Nat) {e c:Nat} (hx:evA n l (.tmp t)=.ref id) (ho:aw[id]?=some (.arr e c (xs.map en)))
  (h:∀ C:Nat,xs.length<=C->T P N code Q (mkA n ((t,.vw id c 0 xs.length (some C))::l)) aw):T P N code Q (mkA n l) aw :=
 T.expose t id hx ho (fun C hC=>by rw [KE] at hC ⊢;exact h C hC)
theorem unvw {id e c m:Nat} {rows:List (List AV)} {C:Nat} {v:Value} (hs:Sim aw σ w F) (ho:aw[id]?=some (.arr e c rows)) (hr:Rel σ w F (.vw id c 0 m (some C)) v) (hm:m=rows.length):Rel σ w F (.ref id) v:=by
 cases hr with
 | vw _ _ _ _ N0 C0 _ A B hσ hn hA hc hz =>
  obtain ⟨h1,_⟩:=r6 hs ho hσ;have h2:=hz rfl;subst h2;refine .ref id A m (C0 - 0) ?_;rw [hσ,h1,hm,Mx]
variable {d:Option Tmp} {ty:TypeId} {ps:String} {af:Array Edge} {g:Option (Nat × Bool)} {K2:AV→List Ob→Prop} {α:Type} {en:α→List AV} {xs ys:List α}
theorem GF {t e c id lo m K:Nat} {x:Operand} (hS:SliceOf P t e c) (hx:evA n l x=.vw id c lo m (some K)) (h:K2 (.int .i64 K) aw):OP P N ⟨d,.call ⟨.builtin .cap,#[x],#[t]⟩,ty,ps,af,g⟩ (mkA n l) aw K2 :=
 OP.of_ok (fun σ w F a har hs=>by
  have ex:=har.ev x;rw [aD,hx] at ex;generalize hvx:a.eval x=vx at ex;cases ex with
  | vw _ _ _ _ N0 C _ A B hσ hn hA hc hz =>
   have hk:=hc K rfl;have e1:C - lo=K:=by omega
   refine ⟨.int .i64 K,_,w,aw,σ,F,_,?_,.inl rfl,hs,.refl ..,.int _ _,h⟩;simp [execOp,resolve,invoke,builtin,Sem.run_bind,hvx,Builtin.cap_,run_underlying hS.u,goInt,e1])
theorem rm {t:TypeId} {x:Operand} {lo hi:Option Operand} {id e c l0 n0 K:Nat} {i j:Int} {k k':IntKind} {u:Unit} (hS:SliceOf P t e c) (hx:evA n l x=.vw id c l0 n0 (some K))
    (hl:(lo.map (evA n l)).getD (.int .i64 0)=.int k i) (hh:(hi.map (evA n l)).getD (.int .i64 n0)=.int k' j) (hv:vwok n0 i j=some u) (h:K2 (.vw id c (l0+i.toNat) (j.toNat - i.toNat) (some (K - i.toNat))) aw) :
    OP P N ⟨d,.slice t x lo hi none,ty,ps,af,g⟩ (mkA n l) aw K2 :=
  OP.of_ok (fun σ w F a har hs=>by
    unfold vwok at hv;split at hv
    · rename_i hc;have ex:=har.ev x;rw [aD,hx] at ex;generalize hvx:a.eval x=vx at ex;cases ex with
      | vw _ _ _ _ N0 C _ A B hσ hn hA hcK hz =>
        have hK:=hcK K rfl;obtain ⟨ds,hd⟩:=KN.1 hS.s;have hsz:=dX hd;rw [hS.c] at hsz;have b:=fun w'=>mX (P:=P) har (lo:=lo) (hi:=hi) (b:=true) (len:=n0) (cap:=C - l0) (by rw [nD];exact hl) (by rw [nD];exact hh) hc.1 hc.2.1 hc.2.2 (by omega) w'
        have e2:C - l0 - i.toNat=C - (l0+i.toNat):=by omega
        refine ⟨.slice (if C - l0=i.toNat then A else A.map (·.add (i.toNat*c))) (j.toNat - i.toNat) (C - (l0+i.toNat)),_,w,aw,σ,F,_,?_,.inl rfl,hs,.refl ..,?_,h⟩
        · simp [execOp,hvx,Instr.sliceAt,Instr.slice,Sem.run_bind,run_underlying hS.u,b,hsz,e2]
        · refine .vw id c _ _ N0 C (some (K - i.toNat)) _ B hσ (by omega) (fun hpos=>?_) (fun k hk=>by cases hk;omega) (fun h0=>?_)
          · obtain ⟨g0,e3,e4⟩:=hA (by omega);refine ⟨g0,e3,?_⟩;have:¬ C - l0=i.toNat:=by omega
            rw [if_neg this,e4,Lh];congr 1;have:(l0+i.toNat)*c=l0*c+i.toNat*c:=KP ..;unfold Addr.add;split<;>simp_all
          · have h1:i.toNat=0:=by omega
            rw [<- hz (by omega),h1];split
            · rfl
            · cases A with
              | none=>rfl
              | some A=>cases A;simp [Addr.add]
    · cases hv)
theorem ED {t:TypeId} {x hi:Operand} {id e c l0 n0 K:Nat} {j:Int} {k':IntKind} {u:Unit} (hS:SliceOf P t e c) (hx:evA n l x=.vw id c l0 n0 (some K)) (hh:evA n l hi=.int k' j) (hv:vwok n0 0 j=some u)
  (h:K2 (.vw id c l0 j.toNat (some K)) aw):OP P N ⟨d,.slice t x none (some hi) none,ty,ps,af,g⟩ (mkA n l) aw K2 :=
 rm (i:=0) (k:=.i64) hS hx rfl hh hv (by simpa using h)
theorem Fk {k:Nat} {o o':Ob} {v v':Value} (hs:Sim aw σ w F) (ho:aw[k]?=some o) (hl:o.live=true) (hv:σ[k]?=some v) (hO:ORel (σ++[v']) w F o' v') (hsub:∀ b,Bk o' v' b->Bk o v b) :
  Sim (aw.set k .dead++[o']) (σ++[v']) w F/\Mv aw σ w F (aw.set k .dead++[o']) (σ++[v']) w F:=by
 have s3:=hs.lose k
 refine ⟨s3.push2 o' v' (fun _ _=>rfl) (Kx _) hO (fun b hb hd=>?_),⟨rfl,rfl,drO,Kx _,fun _ _ _=>rfl,fun i v hv=>em hv,fun _ h=>h,fun _ h=>.inl h,fun b hb=>.inl ?_⟩⟩
 ·obtain ⟨j,o1,v1,ho1,hl1,hv1,hb1⟩:=hd
  rcases eo ho1 with ⟨rfl,rfl,_⟩ | ⟨hne,h2⟩
  ·simp [Ob.live] at hl1
  ·exact hs.sep j k o1 _ v1 _ b hne h2 ho hl1 hl hv1 hv hb1 (hsub b hb)
 ·obtain ⟨j,o1,v1,ho1,hl1,hv1,hb1⟩:=hb
  rcases fe ho1 with h2 | ⟨rfl,rfl⟩
  ·have hlt:=(Kt.1 h2).1
   rw [Kz (by rw [s3.len];exact hlt)] at hv1
   rcases eo h2 with ⟨rfl,rfl,_⟩ | ⟨hne,h3⟩
   ·simp [Ob.live] at hl1
   ·exact ⟨j,o1,v1,h3,hl1,hv1,hb1⟩
  ·rw [<- s3.len] at hv1
   simp at hv1
   subst hv1
   exact ⟨k,o,v,ho,hl,hv,hsub b hb1⟩
theorem DL {fr:List AV} {a:Act} (ha:ARel σ w F fr a) {y:Operand} {len cap:Nat} {kh:IntKind} {h:Int} (eh:ev fr y=.int kh h) (h0:0<=h) (h2:h<=cap) (w':World) :
  (Instr.sliceBounds true len cap none (some (a.eval y)) none).run P w'=.ok (0,h.toNat,cap) w':=by
 have e:a.eval y=.int kh h:=by have hz:=ha.ev y;rw [eh] at hz;generalize a.eval y=vz at hz ⊢;cases hz;rfl
 have b1:∀ code w',(Instr.sliceBound (.int kh h) cap code).run P w'=.ok h.toNat w':=fun code w'=>run_sliceBound (P:=P) w' kh h cap code (by omega) (by omega)
 simp [Instr.sliceBounds,Sem.run_bind,e,b1]
theorem I8 {t:TypeId} {x1 hi:Operand} {id e c k x C m0:Nat} {j:Int} {kq:IntKind} (hS:SliceOf P t e c) (hx:evA n l x1=.vw id c 0 m0 (some C)) (hm:m0=xs.length) (hy:evA n l hi=.int kq j) (ho:aw[id]?=some (.arr e c (xs.map en)))
  (hr:roomx xs.length C j=some x) (hk:aw.length=k) (ha:aw.set id .dead++[.arrU e c (xs.map en) x]=aw') (h:K2 (.ref k) aw'):OP P N ⟨d,.slice t x1 none (some hi) none,ty,ps,af,g⟩ (mkA n l) aw K2 :=
 OP.of_ok (fun σ w F a har hs=>by
  unfold roomx at hr;split at hr
  ·rename_i hc;cases hr;subst hk ha hm;have ex:=har.ev x1;rw [aD,hx] at ex;generalize hvx:a.eval x1=vx at ex;cases ex with
   | vw _ _ _ _ N0 C0 _ A B hσ hn hA hcK hz =>
    have hCC:C0=C:=by have:=hcK C rfl;omega
    have hAB:=hz rfl;subst hAB hCC;obtain ⟨hN,flat,hown,hfl,hcase⟩:=fL hs ho hσ;rw [KE] at hN;subst hN;obtain ⟨ds,hd⟩:=KN.1 hS.s;obtain ⟨g0,e3,_⟩:=hA hc.1;subst e3;have hF:¬ F g0:=by obtain ⟨_,_,_,hf,_⟩:=hs.obj id _ _ ho hσ;exact hf g0 rfl
    have b:=fun w'=>DL (P:=P) har (y:=hi) (len:=xs.length) (cap:=C0 - 0) (by rw [aD,hy]) (by omega) (by omega) w'
    have h0:(⟨g0,0,none⟩:Addr).add 0=⟨g0,0,none⟩:=by simp [Addr.add]
    have hrun:(execOp a.eval ⟨d,.slice t x1 none (some hi) none,ty,ps,af,g⟩).run P w=.ok (.value (.slice (some ⟨g0,0,none⟩) j.toNat C0)) w:=by simp only [Mx] at b hvx;simp [execOp,hvx,Instr.sliceAt,Instr.slice,Sem.run_bind,run_underlying hS.u,b,dX hd,h0]
    have hjj:(xs.map en).length+(j.toNat - xs.length)=j.toNat:=by rw [KE];omega
    obtain ⟨s2,m2⟩:=Fk (v':=.slice (some ⟨g0,0,none⟩) j.toNat C0) (o':=.arrU e c (xs.map en) (j.toNat - xs.length)) hs ho rfl hσ
     ⟨g0,C0,flat,by rw [hjj],by rw [hjj];omega,by rw [KE];exact hown,hfl.mono (fun _ _ e=>em e) (fun _ e=>e) (fun _ _=>rfl),hF⟩ (fun _ h=>h)
    refine ⟨_,_,w,_,_,F,_,hrun,.inl rfl,s2,m2,?_,h⟩;exact .ref _ _ _ _ (by rw [<- hs.len];simp)
  ·cases hr)
theorem uA {id e c x:Nat} {rows:List (List AV)} {A:Option Addr} {q cp:Nat} (hs:Sim aw σ w F) (ho:aw[id]?=some (.arrU e c rows x)) (hσ:σ[id]?=some (.slice A q cp)) :
  q=rows.length+x/\q<=cp/\∃ g flat cur,A=some ⟨g,0,none⟩/\¬ F g/\w.heap[g]?=some (.cells cur e (0,0))/\cp<=maxLen/\cur.size=cp*c/\cur.toList.take (rows.length*c)=flat/\flat.length=rows.length*c/\FlatRel σ w F c rows flat:=by
 obtain ⟨g,C,flat,e1,h1,hown,hfl,hF⟩:=hs.obj id _ _ ho hσ
 cases e1
 rcases hown.2 with ⟨h2,_⟩ | ⟨g',cap,cur,h2,_,hg,h3,h4,h5,h6⟩
 ·cases h2
 ·cases h2
  exact ⟨rfl,h1,g,flat,cur,rfl,hF,hg,h4,h5,h6,hown.1,hfl⟩
theorem pr {t:TypeId} {x1:Operand} {lo hi:Option Operand} {id e c x:Nat} {i j:Int} {k k':IntKind} {u:Unit} (hS:SliceOf P t e c) (hx:evA n l x1=.ref id) (ho:aw[id]?=some (.arrU e c (xs.map en) x))
    (hl:(lo.map (evA n l)).getD (.int .i64 0)=.int k i) (hh:(hi.map (evA n l)).getD (.int .i64 (xs.length+x:Nat))=.int k' j) (hv:vwok (xs.length+x) i j=some u) (h:K2 (.vw id c i.toNat (j.toNat - i.toNat) none) aw) :
    OP P N ⟨d,.slice t x1 lo hi none,ty,ps,af,g⟩ (mkA n l) aw K2 :=
  OP.of_ok (fun σ w F a har hs=>by
    unfold vwok at hv;split at hv
    · rename_i hc;have ex:=har.ev x1;rw [aD,hx] at ex;generalize hvx:a.eval x1=vx at ex;cases ex with
      | ref _ A q cp hσ =>
        obtain ⟨h1,h2,g0,flat,cur,rfl,_⟩:=uA hs ho hσ;rw [KE] at h1;subst h1;obtain ⟨ds,hd⟩:=KN.1 hS.s;have hsz:=dX hd;rw [hS.c] at hsz;have b:=fun w'=>mX (P:=P) har (lo:=lo) (hi:=hi) (b:=true) (len:=xs.length+x) (cap:=cp) (by rw [nD];exact hl) (by rw [nD];exact hh) hc.1 hc.2.1 hc.2.2 h2 w'
        refine ⟨.slice (if cp=i.toNat then some ⟨g0,0,none⟩ else (some ⟨g0,0,none⟩:Option Addr).map (·.add (i.toNat*c))) (j.toNat - i.toNat) (cp - i.toNat),_,w,aw,σ,F,_,?_,.inl rfl,hs,.refl ..,?_,h⟩
        · simp [execOp,hvx,Instr.sliceAt,Instr.slice,Sem.run_bind,run_underlying hS.u,b,hsz]
        · refine .vw id c _ _ _ cp none _ _ hσ (by omega) (fun hpos=>⟨g0,rfl,?_⟩) (fun k hk=>by cases hk) (fun h0=>?_)
          · have:¬ cp=i.toNat:=by omega
            rw [if_neg this,Lh,eP]
          · rw [h0];split<;>simp [Addr.add]
    · cases hv)
theorem Dt {c:Nat}:∀ (k:Nat) (l:List (List AV)),(∀ row,row∈l->row.length=c)->(l.drop k).flatten=l.flatten.drop (k*c):=by
 intro k;induction k with
 | zero=>intro l _;simp
 | succ k ih =>
  intro l hl;cases l with
  | nil=>simp
  | cons x l =>
   rw [List.drop_succ_cons,ih l (fun row hr=>hl row (KS _ hr)),Lb,KP,Mj,<- hl x KQ,Md (k*x.length),<- L3,L4]
theorem GM {t ts e c id x lo m lo2 m2:Nat} {x1 y:Operand} {cap cap2:Option Nat} {r:List α} (hS:SliceOf P t e c) (hen:∀ a,(en a).length=c) (hx:evA n l x1=.vw id c lo m cap) (hy:evA n l y=.vw id c lo2 m2 cap2) (ho:aw[id]?=some (.arrU e c (xs.map en) x))
    (hr:cpyU xs x lo m lo2 m2=some r) (ha:aw.set id (.arr e c (r.map en))=aw') (h:K2 (.int .i64 m) aw'):OP P N ⟨d,.call ⟨.builtin .copy,#[x1,y],#[t,ts]⟩,ty,ps,af,g⟩ (mkA n l) aw K2 :=
  OP.of_ok (fun σ w F a har hs=>by
    unfold cpyU at hr;split at hr
    · rename_i hc;obtain ⟨c1,c2,c3,c4,c5⟩:=hc;cases hr;subst ha;have ex:=har.ev x1;have ey:=har.ev y;rw [aD,hx] at ex;rw [aD,hy] at ey;generalize hvx:a.eval x1=vx at ex;generalize hvy:a.eval y=vy at ey;cases ex with
      | vw _ _ _ _ N0 C _ A B hσ hn hA _ _ =>
      cases ey with
      | vw _ _ _ _ N1 C1 _ A1 B1 hσ1 hn1 hA1 _ _ =>
      rw [hσ] at hσ1;cases hσ1;obtain ⟨hq,hqc,g0,flat,cur,e0,hF,hg,hcm,hsz,htk,hfll,hfl⟩:=uA hs ho hσ;subst e0;obtain ⟨g1,e1,rfl⟩:=hA c1;cases e1;obtain ⟨g1,e1,rfl⟩:=hA1 (by omega);cases e1;rw [KE] at hq htk hfll;obtain ⟨ds,hds⟩:=KN.1 hS.s;have hsize:=dX hds;rw [hS.c] at hsize;have hrow:∀ row,row∈xs.map en->row.length=c:=hfl.1;have hvl:(flat.drop (lo2*c)).length=m*c:=by rw [KX,hfll,<- c5,KP];omega
      have hfirst:(Builtin.firstCells c m (.slice (some ⟨g0,lo2*c,none⟩) m2 (C - lo2))).run P w=.ok (flat.drop (lo2*c)).toArray w :=
        run_firstCells_some w c m ⟨g0,lo2*c,none⟩ m2 (C - lo2) (flat.drop (lo2*c)) hvl (fun j u hj=>by
          rw [K4] at hj;have hlt:lo2*c+j<xs.length*c:=by rw [<- hfll];exact (Kt.1 hj).1
          rw [<- htk,K5,if_pos hlt] at hj;rw [show (⟨g0,lo2*c,none⟩:Addr).add j=⟨g0,lo2*c+j,none⟩ from by unfold Addr.add;split<;>simp_all,cell_of_row w g0 _ cur e (0,0) hg];simpa using hj)
      have hone:∀ u,u∈flat.drop (lo2*c)->u.oneCell'=true:=fun u hu=>hfl.2.1 u (Lo hu)
      have hcap:lo*c+m*c<=cur.size:=by rw [hsz,<- KP];exact KL _ (by omega)
      have hst:=run_storeCells_at P g0 (lo*c) e (flat.drop (lo2*c)) 0 cur w hg (by omega) hone;simp only [Lq] at hst;have hmin:Nat.min m2 m=m:=Mf c2;have hrun:(Builtin.copy_ #[t,ts] ty #[.slice (some ⟨g0,lo*c,none⟩) m (C - lo),.slice (some ⟨g0,lo2*c,none⟩) m2 (C - lo2)]).run P w=.ok (goInt m) (w.setRow g0 (cur.toList.take (lo*c)++flat.drop (lo2*c)++cur.toList.drop (lo*c+(flat.drop (lo2*c)).length)).toArray):=by simp [Builtin.copy_,Sem.run_bind,run_underlying hS.u,Builtin.lenOf,hmin,hsize,hfirst,hst]
      have hkk:∀ b,b≠g0->(w.setRow g0 (cur.toList.take (lo*c)++flat.drop (lo2*c)++cur.toList.drop (lo*c+(flat.drop (lo2*c)).length)).toArray).heap[b]?=w.heap[b]?:=fun b hb=>setRow_other w g0 b _ hb
      have hlen2:((xs.take lo++xs.drop lo2).map en).length=N0:=by simp;omega
      have e5:cur.toList.take (lo*c)=flat.take (lo*c):=by rw [<- htk,MB,Lp (KL _ c3)]
      have hll:(flat.take (lo*c)++flat.drop (lo2*c)).length=N0*c:=by have:lo*c<=xs.length*c:=KL _ c3;rw [Kv,hvl,KR,hfll,Lp this,<- KP];congr 1;omega
      have hORel:ORel σ (w.setRow g0 (cur.toList.take (lo*c)++flat.drop (lo2*c)++cur.toList.drop (lo*c+(flat.drop (lo2*c)).length)).toArray) F (.arr e c ((xs.take lo++xs.drop lo2).map en)) (.slice (some ⟨g0,0,none⟩) N0 C):=by
        refine ⟨flat.take (lo*c)++flat.drop (lo2*c),⟨by rw [hlen2];exact hll,.inr ⟨g0,C,_,by rw [hlen2],Lj _,setRow_heap w g0 cur _ e (0,0) hg,by rw [hlen2];exact hqc,hcm,?_,?_⟩⟩,⟨fun row hr=>?_,fun u hu=>?_,?_⟩,fun g2 hg2=>?_,_,_,_,rfl⟩
        · simp only [Mb,Kv,KR,KX,LJ] at hvl ⊢;omega
        · rw [hlen2];simp only [Mk];rw [e5];exact List.take_left' hll
        · obtain ⟨a,_,rfl⟩:=KT.1 hr;exact hen a
        · rcases KJ.1 hu with hu | hu
          · exact hfl.2.1 u (KG hu)
          · exact hone u hu
        · rw [Ma,L8,Mt,Ml,mQ _ _ hrow,Dt _ _ hrow];have hd2:RelL σ w F ((xs.map en).flatten.drop (lo2*c)) (flat.drop (lo2*c)):=by
            refine ⟨by simp [hfl.2.2.1],fun j a v ha hv=>?_⟩;rw [K4] at ha hv;exact hfl.2.2.2 _ a v ha hv
          exact ((hfl.2.2.take _).append hd2).mono (fun _ _ e=>e) (fun _ e=>e) (fun b hb=>hkk b (fun e=>hF (e▸hb)))
        · simp [Value.ownBlock] at hg2;subst hg2;exact hF
      refine ⟨goInt m,_,_,_,σ,F,_,?_,.inl rfl,hs.write (b0:=g0) id ho rfl hσ rfl hkk (by simp) _ hORel (fun _ h=>h),Mv.write (w:=w) (w':=w.setRow g0 _) (F:=F) (b0:=g0) id ho rfl hσ rfl rfl rfl drO hkk (by simp) _ (fun _ h=>h),.int _ _,h⟩;simp [execOp,resolve,invoke,builtin,Sem.run_bind,hvx,hvy,hrun]
    · cases hr)
theorem xP {t ts e c id lo m id2:Nat} {x y:Operand} {cap:Option Nat} {u:Unit} (hS:SliceOf P t e c) (hen:∀ a,(en a).length=c) (hx:evA n l x=.vw id c lo m cap) (hy:evA n l y=.ref id2) (ho:aw[id]?=some (.arr e c (xs.map en))) (ho2:aw[id2]?=some (.arr e c (ys.map en)))
  (hv:vwok xs.length lo ((lo:Int)+m)=some u) (ha:aw.set id (.arr e c ((cpy xs lo m ys).map en))=aw') (h:K2 (.int .i64 (min m ys.length:Nat)) aw'):OP P N ⟨d,.call ⟨.builtin .copy,#[x,y],#[t,ts]⟩,ty,ps,af,g⟩ (mkA n l) aw K2:=by
 unfold vwok at hv;split at hv
 ·rename_i hc
  have hrow:∀ row,row∈ys.map en->row.length=c:=fun row hr=>by obtain ⟨a,_,rfl⟩:=KT.1 hr;exact hen a
  rw [rX] at ha
  refine rn (news:=ys.map en) (k:=min m ys.length) hS hx hy ho (fun σ w F v _ hr=>pY hr) (fun σ w F v hs hr=>?_) hrow (by simp) (by simp;omega) ha h
  obtain ⟨flat,h1,h2,h3,_⟩:=ue hs ho2 (zR hs ho2 hr) (by omega)
  rw [Lc,Lx] at h2
  exact ⟨flat,h1,h2,h3⟩
 ·cases hv
theorem Fy {t ts e c id lo m id2 lo2 m2:Nat} {x y:Operand} {cap cap2:Option Nat} {u u2:Unit} (hS:SliceOf P t e c) (hen:∀ a,(en a).length=c) (hx:evA n l x=.vw id c lo m cap) (hy:evA n l y=.vw id2 c lo2 m2 cap2) (ho:aw[id]?=some (.arr e c (xs.map en))) (ho2:aw[id2]?=some (.arr e c (ys.map en)))
  (hv:vwok xs.length lo ((lo:Int)+m)=some u) (hv2:vwok ys.length lo2 ((lo2:Int)+m2)=some u2) (ha:aw.set id (.arr e c ((cpy xs lo m ((ys.drop lo2).take m2)).map en))=aw') (h:K2 (.int .i64 (min m m2:Nat)) aw'):OP P N ⟨d,.call ⟨.builtin .copy,#[x,y],#[t,ts]⟩,ty,ps,af,g⟩ (mkA n l) aw K2:=by
 unfold vwok at hv hv2
 split at hv<;>split at hv2
 ·rename_i hc hc2
  have hl2:((ys.drop lo2).take m2).length=m2:=by rw [KR,KX];omega
  have hrow:∀ row,row∈((ys.drop lo2).take m2).map en->row.length=c:=fun row hr=>by obtain ⟨a,_,rfl⟩:=KT.1 hr;exact hen a
  rw [rX,hl2] at ha
  refine rn (news:=((ys.drop lo2).take m2).map en) (k:=min m m2) hS hx hy ho (fun σ w F v _ hr=>pY hr) (fun σ w F v hs hr=>?_) hrow (by rw [KE,hl2]) (by simp;omega) ha h
  obtain ⟨flat,h1,h2,h3,_⟩:=ue hs ho2 (pY hr) (by simp;omega)
  rw [KE,hl2]
  rw [<- Mt,<- L8] at h2
  exact ⟨flat,h1,h2,h3⟩
 ·cases hv2
 ·cases hv
 ·cases hv
theorem Gy {z0:α} {r:List α} {t tn:TypeId} {x y:Operand} {id e c k m0 K:Nat} {m:Int} {kn kq:IntKind} (hS:SliceOf P t e c) (htn:P.underlying tn=some (.int kn)) (hz:aJ P e=some (en z0)) (hen:∀ a,(en a).length=c)
    (hx:evA n l x=.vw id c 0 m0 (some K)) (hy:evA n l y=.int kq m) (ho:aw[id]?=some (.arr e c (xs.map en))) (hr:growz xs m0 K m z0=some r) (hk:aw.length=k) (ha:aw++[.arr e c (r.map en)]=aw') (h:K2 (.ref k) aw') :
    OP P N ⟨d,.call ⟨.builtin .append,#[x,y],#[t,tn]⟩,ty,ps,af,g⟩ (mkA n l) aw K2 :=
  OP.of_ok (fun σ w F a har hs=>by
    unfold growz at hr;split at hr
    · rename_i hc;cases hr;subst hk ha;have ex:=har.ev x;have ey:=har.ev y;rw [aD,hx] at ex;rw [aD,hy] at ey;generalize hvx:a.eval x=vx at ex;generalize hvy:a.eval y=vy at ey;cases ey;cases ex with
      | vw _ _ _ _ N0 C _ A B hσ hn hA hcK hzz =>
        have hAB:=hzz rfl;subst hAB;have hKC:K=C:=by have:=hcK K rfl;omega
        subst hKC;obtain ⟨hN,flat,hown0,hfl,hcase⟩:=fL hs ho hσ;rw [KE] at hN;subst hN;have hcut:m0*c<=xs.length*c:=KL _ hc.1;have hcc:=hS.c;have hownp:w.ownsRow 0 e (P.cellsOf e) (.slice A m0 (K - 0)) m0 (flat.take (m0*c)):=by
          rw [hcc];refine ⟨by rw [KR,hown0.1,Lp hcut],?_⟩;rcases hown0.2 with ⟨h2,h3⟩ | ⟨g0,cap,cur,h2,h3,h4,h5,h6,h7,h8⟩
          · injection h2 with h5 h6 h7
            have hm0:m0=0:=by omega
            exact .inl ⟨by simp [h5,hm0,h7],hm0⟩
          · cases h2;refine .inr ⟨g0,K,cur,rfl,h3,h4,by omega,h6,h7,?_⟩;rw [<- h8,MB,Lp hcut]
        have hlen:m0+m.toNat<=1099511627776:=hc.2.2.2;obtain ⟨v',w',news,hrun,hown,hg,hat,hr,h1,hbig⟩:=FD (σ:=σ) (F:=F) (ty:=ty) (kq:=kq) hS.u htn hz (by rw [hen,hcc]) (by rw [hcc];exact hS.p) hS.b hownp (m:=m.toNat) (by omega) hlen;rw [Le (by omega)] at hrun;rw [hcc] at hown;obtain ⟨hnew,hg0⟩:=hbig A m0 (K - 0) rfl (by omega);have hrow:∀ row,row∈List.replicate m.toNat (en z0)->row.length=c:=fun row hm=>by rw [La hm,hen]
        have hfl2:FlatRel σ w F c ((xs.map en).take m0) (flat.take (m0*c)) :=
          ⟨fun row hr=>hfl.1 row (KG hr),fun u hu=>hfl.2.1 u (KG hu),by rw [mQ _ _ hfl.1];exact hfl.2.2.take _⟩
        have hl2:m0+m.toNat=((xs.map en).take m0++List.replicate m.toNat (en z0)).length:=by simp;omega
        rw [hl2] at hown;obtain ⟨s2,m2,r2⟩:=tX (aw0:=aw) (vx:=.slice none 0 0) hs (fun _ h=>h) hfl2 hrow hr h1 hown hg0 (tC _ hrun) (.inr hnew) (fun b hb=>by simp [Value.ownBlock] at hb);have e2:(xs.map en).take m0++List.replicate m.toNat (en z0)=(xs.take m0++List.replicate m.toNat z0).map en:=by simp
        rw [e2] at s2 m2;refine ⟨v',_,w',_,_,F,_,?_,.inl rfl,s2,m2,r2,h⟩;simp only [Mx] at hrun hvx;simp [execOp,resolve,invoke,builtin,Sem.run_bind,hvx,hvy,hrun]
    · cases hr)
theorem Gs {r:List α} {id e c k m0 C t tx:Nat} {y:Operand} {aw1:List Ob} (hS:SliceOf P t e c) (hen:∀ a,(en a).length=c) (hx:evA n l (.tmp tx)=.vw id c 0 m0 (some C)) (hm:m0=xs.length) (ho0:aw[id]?=some (.arr e c (xs.map en))) (hlt:Nat.blt tx n=true)
  (hy:norm aw (evA n ((tx,.ref id)::l) y)=(.sl (ys.map en),aw1)) (ho:aw1[id]?=some (.arr e c (xs.map en))) (hr:app xs ys=some r) (hk:aw1.length=k) (ha:aw1.set id .dead++[.arr e c (r.map en)]=aw') (h:K2 (.ref k) aw') :
  OP P N ⟨d,.call ⟨.builtin .append,#[.tmp tx,y],#[t,t]⟩,ty,ps,af,g⟩ (mkA n l) aw K2 :=
 OP.of_ok (fun σ w F a har hs=>by
  unfold app at hr;split at hr
  ·rename_i hc;cases hr;subst hk ha;have ex:=har.ev (.tmp tx);rw [aD,hx] at ex;have har2:=um har rfl (unvw hs ho0 ex (by rw [KE];exact hm));obtain ⟨z',hz1,hz2⟩:=hS.z;have hx2:evA n ((tx,.ref id)::l) (.tmp tx)=.ref id:=by
    show (match Nat.blt tx n with | true=>lkA ((tx,.ref id)::l) tx | false=>.any)=_;rw [hlt];show lkA ((tx,.ref id)::l) tx=_;rw [iN,if_pos rfl]
   refine zG har2 hs (args:=#[.tmp tx,y]) (ats:=#[t,t]) ?_ _ rfl;simp only [vcApp,hS.u,hz1,aD,hx2,hy,hS.c,KE,ho];exact ⟨trivial,trivial,trivial,hz2,hS.p,fun row hr=>by obtain ⟨a,_,rfl⟩:=KT.1 hr;exact hen a,hc,hS.b,by rw [<- Ma];exact h⟩
  ·cases hr)
theorem T.nilA {code:Code} {Q:Exit->List AV->List Ob->Prop} (t j e z:Nat) {cs cs':List AV} (hx:evA n l (.tmp t)=.agg cs) (hj:cs[j]?=some .nils) (hc:cs.set j (.ref aw.length)=cs') (ha:aw++[.arr e z []]=aw') (h:T P N code Q (mkA n ((t,.agg cs')::l)) aw'):T P N code Q (mkA n l) aw :=
 ⟨fun st h1 h2 σ w F a hcur=>by
  subst hc ha;obtain ⟨s1,m1,r1⟩:=rI e z hcur.sim;have hr:=hcur.fr.ev (.tmp t);rw [aD,hx] at hr;generalize hv:a.eval (.tmp t)=v at hr;have hr1:=m1.rel hcur.sim hr;have hr2:Rel (σ++[.slice none 0 0]) w F (.agg (cs.set j (.ref aw.length))) v:=by
   cases hr1 with
   | agg _ vs hl h1c hcc =>
    refine .agg _ vs (by simpa using hl) h1c (fun i x u hx hu=>?_);rw [KF] at hx;split at hx
    ·rename_i e1;subst e1;split at hx
     ·cases hx;have:=hcc j .nils u hj hu;cases this;exact r1
     ·cases hx
    ·exact hcc i x u hx hu
  exact h.out st h1 h2 _ w F a ⟨s1,um (m1.aRel hcur.sim hcur.fr) hv hr2,hcur.mv.trans m1,hcur.ds⟩⟩
theorem H4 {id:Nat} {o o':Ob} (hs:Sim aw σ w F) (ho:aw[id]?=some o) (hl:o.live=true) (hO:∀ v,σ[id]?=some v->ORel σ w F o v->ORel σ w F o' v) (hB:∀ v b,Bk o' v b->Bk o v b):Sim (aw.set id o') σ w F/\Mv aw σ w F (aw.set id o') σ w F:=by
 have un:∀ (k:Nat) o1,(aw.set id o')[k]?=some o1->o1.live=true->∃ o2,aw[k]?=some o2/\o2.live=true/\∀ v b,Bk o1 v b->Bk o2 v b:=fun k o1 h1 hl1=>by
  rcases eo h1 with ⟨rfl,rfl,_⟩ | ⟨_,h2⟩
  ·exact ⟨o,ho,hl,hB⟩
  ·exact ⟨o1,h2,hl1,fun _ _ h=>h⟩
 refine ⟨⟨by simp [hs.len],fun k o1 v1 ho1 hv1=>?_,fun k k' o1 o2 v1 v2 g hne ho1 ho2 hl1 hl2 hv1 hv2 hb1 hb2=>?_,hs.lt⟩,⟨rfl,rfl,drO,Kx _,fun _ _ _=>rfl,fun _ _ h=>h,fun _ h=>h,fun _ h=>.inl h,fun b hb=>.inl ?_⟩⟩
 ·rcases eo ho1 with ⟨rfl,rfl,_⟩ | ⟨_,h2⟩
  ·exact hO v1 hv1 (hs.obj _ _ v1 ho hv1)
  ·exact hs.obj k o1 v1 h2 hv1
 ·obtain ⟨p1,e1,l1,b1⟩:=un k o1 ho1 hl1;obtain ⟨p2,e2,l2,b2⟩:=un k' o2 ho2 hl2;exact hs.sep k k' p1 p2 v1 v2 g hne e1 e2 l1 l2 hv1 hv2 (b1 _ _ hb1) (b2 _ _ hb2)
 ·obtain ⟨k,o1,v1,ho1,hl1,hv1,hb1⟩:=hb;obtain ⟨p1,e1,l1,b1⟩:=un k o1 ho1 hl1;exact ⟨k,p1,v1,e1,l1,hv1,b1 _ _ hb1⟩
def nilW:List AV->List AV->Prop
 | [],[]=>True
 | a::as₀,b::bs=>(b=a∨a=.nils/\b=.sl [])/\nilW as₀ bs
 | _,_=>False
theorem rJ:∀ {as₀ bs:List AV},nilW as₀ bs->as₀.length=bs.length
 | [],[],_=>rfl
 | a::as₀,b::bs,h=>by simp [rJ h.2]
 | [],_::_,h=>h.elim
 | _::_,[],h=>h.elim
theorem zd:∀ {as₀ bs cs ds:List AV},nilW as₀ bs->nilW cs ds->nilW (as₀++cs) (bs++ds)
 | [],[],_,_,_,k=>k
 | a::as₀,b::bs,_,_,h,k=>⟨h.1,zd h.2 k⟩
 | [],_::_,_,_,h,_=>h.elim
 | _::_,[],_,_,h,_=>h.elim
theorem FQ {as₀ bs:List AV} {vs:List Value} (h:nilW as₀ bs) (hr:RelL σ w F as₀ vs):RelL σ w F bs vs:=by
 have key:∀ {as₀ bs:List AV},nilW as₀ bs->∀ (j:Nat) a b,as₀[j]?=some a->bs[j]?=some b->b=a∨a=.nils/\b=.sl []:=by
  intro as₀;induction as₀ with
  | nil=>intro bs _ j a b ha;simp at ha
  | cons x as₀ ih =>
   intro bs h j a b ha hb;cases bs with
   | nil=>exact h.elim
   | cons y bs =>
    cases j with
    | zero=>simp at ha hb;subst ha hb;exact h.1
    | succ j=>exact ih h.2 j a b (by simpa using ha) (by simpa using hb)
 refine ⟨by rw [hr.1,rJ h],fun j b v hb hv=>?_⟩;have hj:j<as₀.length:=by rw [rJ h];exact (Kt.1 hb).1
 have ha:as₀[j]?=some as₀[j]:=Ks hj;have hav:=hr.2 j _ v ha hv;rcases key h j _ b ha hb with e | ⟨e1,e2⟩
 ·rw [e];exact hav
 ·rw [e1] at hav;cases hav;rw [e2];exact .slNil
theorem yP {z z2:List AV} (h:nilW z z2):∀ m:Nat,nilW (List.replicate m z).flatten (List.replicate m z2).flatten
 | 0=>trivial
 | m+1=>by rw [L6,L6,Lb,Lb];exact zd h (yP h m)
theorem fW {t e c k:Nat} {x y:Operand} {k1 k2:IntKind} {i:Int} {z:List AV} {zr:α} (hS:SliceOf P t e c) (hz:aJ P e=some z) (hw:nilW z (en zr)) (hx:evA n l x=.int k1 i) (hy:evA n l y=.int k2 i) (hm:mk i zr=some xs) (hk:aw.length=k) (ha:aw++[.arr e c (xs.map en)]=aw') (h:K2 (.ref k) aw') :
  OP P N ⟨d,.makeSlice t x y,ty,ps,af,g⟩ (mkA n l) aw K2:=by
 unfold mk at hm;split at hm
 ·rename_i hc
  cases hm
  subst hk ha
  have base:OP P N ⟨d,.makeSlice t x y,ty,ps,af,g⟩ (mkA n l) aw fun r aw1=>r=.ref aw.length/\aw1=aw++[.arr e c (List.replicate i.toNat z)]:=OP.of_vc (by
   obtain ⟨z',hz1,hz2⟩:=hS.z;rw [hz] at hz1;cases hz1;rw [wC,hS.u];simp only [aD,hx,hy,hz];refine ⟨by rw [hS.c,hz2],by rw [hS.c];exact hS.p,hc.1,Lg _,.inr trivial,?_,by unfold maxLen;omega,by rw [hS.c];exact ⟨trivial,rfl⟩⟩;have h1:i.toNat<=1099511627776:=by omega
   exact LL (Mp hS.b h1) (by decide))
  refine ⟨fun st h1 h2 σ w F a hcur Kc Q hK=>base.out st h1 h2 σ w F a hcur Kc Q ?_⟩
  rintro r aw1 σ' w' F' v ⟨rfl,rfl⟩ hc2 hr
  have hget:(aw++[Ob.arr e c (List.replicate i.toNat z)])[aw.length]?=some (.arr e c (List.replicate i.toNat z)):=by simp
  obtain ⟨s3,m3⟩:=H4 (o':=.arr e c ((List.replicate i.toNat zr).map en)) hc2.sim hget rfl (fun v _ hO=>by
   obtain ⟨flat,hown,hfl,hf,hform⟩:=hO;have hlen:(List.replicate i.toNat z).length=((List.replicate i.toNat zr).map en).length:=by simp
   refine ⟨flat,by rw [<- hlen];exact hown,⟨fun row hrow=>?_,hfl.2.1,?_⟩,hf,hform⟩
   ·obtain ⟨a',ha',rfl⟩:=KT.1 hrow;have hi:0<i.toNat:=by
     rcases Nat.eq_zero_or_pos i.toNat with e0 | e0
     ·rw [e0] at ha';simp at ha'
     ·exact e0
    rw [La ha',<- rJ hw];exact hfl.1 z (by rw [LN];exact ⟨by omega,rfl⟩)
   ·rw [List.map_replicate];exact FQ (yP hw i.toNat) hfl.2.2) (fun _ _ h=>h)
  have hset:(aw++[Ob.arr e c (List.replicate i.toNat z)]).set aw.length (.arr e c ((List.replicate i.toNat zr).map en))=aw++[.arr e c ((List.replicate i.toNat zr).map en)]:=by rw [List.set_append_right _ _ (Kx _),Mn];rfl
  rw [hset] at s3 m3
  exact hK (.ref aw.length) _ σ' w' F' v h (hc2.step s3 m3) (m3.rel hc2.sim hr)
 ·cases hm
theorem D9 {f:FuncId} {fn:Func} {tS tR e c i1 i2 lo m x:Nat} {cap:Option Nat} {x1 y:Operand} {ts:Array TypeId} {u:Unit} (hf:P.funcs[f]?=some fn) (hname:(fn.name == "runtime.NumGoroutine")=false) (hb:fn.body.isNone=true) (hn:Extern.findNext fn=none)
    (he:Extern.find fn=some (Extern.SlicesOverlaps.overlaps #[tS,tS] #[tR])) (hS:SliceOf P tS e c) (hx:evA n l x1=.ref i1) (hy:evA n l y=.vw i2 c lo m cap) (h1:aw[i1]?=some (.arr e c (ys.map en))) (h2:aw[i2]?=some (.arrU e c (xs.map en) x)) (hr:ovok ys m=some u) (h:K2 (.bool false) aw) :
    OP P N ⟨d,.call ⟨.value (.func f),#[x1,y],ts⟩,ty,ps,af,g⟩ (mkA n l) aw K2 :=
  OP.of_ok (fun σ w F a har hs=>by
    unfold ovok at hr;split at hr
    · rename_i hc;have ex:=har.ev x1;have ey:=har.ev y;rw [aD,hx] at ex;rw [aD,hy] at ey;generalize hvx:a.eval x1=vx at ex;generalize hvy:a.eval y=vy at ey;cases ex with
      | ref _ A q cp hσ =>
      cases ey with
      | vw _ _ _ _ N0 C _ A' B hσ2 hn2 hA _ _ =>
        obtain ⟨g2,e3,e4⟩:=hA hc.2;subst e3 e4;obtain ⟨hq,_,_,_,hcase⟩:=fL hs h1 hσ;obtain ⟨hq2,hqc,g0,flat,cur,e0,hF,hg,hcm,hsz,_⟩:=uA hs h2 hσ2;cases e0;rcases hcase with hcase | ⟨g1,cur1,e1,hF1,hg1,_⟩
        · have:ys=[]:=Lf.1 hcase;subst this;simp at hc
        · subst e1;have hne:g1≠g2:=by
            rintro rfl;have hi:i1≠i2:=by rintro rfl;rw [h1] at h2;cases h2
            exact hs.sep i1 i2 _ _ _ _ g1 hi h1 h2 rfl rfl hσ hσ2 rfl rfl
          obtain ⟨ds,hd⟩:=KN.1 hS.s;have hsize:=fun w=>dX (P:=P) (w:=w) hd
          have hk0:cur.size≠0:=by rw [hsz];exact Nat.mul_ne_zero (by omega) (by have:=hS.p;omega)
          have hov:=Lib.run_overlaps_apart (P:=P) w tS tR e hS.u _ hsize ⟨g1,0,none⟩ ⟨g2,lo*c,none⟩ q cp m (C - lo) hne e e cur1.size cur.size (by simp [World.shape?,hg1]) (by simp [World.shape?,hg]) hk0 (by simp [World.frozen?,hg1]) (by simp [World.frozen?,hg1]);have hcall:=run_callFunc_extern hf hname hb hn he #[.slice (some ⟨g1,0,none⟩) q cp,.slice (some ⟨g2,lo*c,none⟩) m (C - lo)] w;rw [hov] at hcall;refine ⟨.bool false,_,w,aw,σ,F,_,?_,.inl rfl,hs,.refl ..,.bool _,h⟩;have hvf:a.eval (.func f)=.func (.func f) #[] #[]:=rfl;have e9:#[x1,y].map a.eval++#[]=#[.slice (some ⟨g1,0,none⟩) q cp,.slice (some ⟨g2,lo*c,none⟩) m (C - lo)]:=by simp [hvx,hvy]
          simp only [execOp,resolve,Deferred.ofValue,hvf,Sem.run_bind,Sem.run_pure,Result.andThen_ok,invoke,L9,e9,hcall]
    · cases hr)
end
end
section
open Go.RowKit
abbrev iI (n:Int):AV:=.int .i64 n
abbrev sL {α:Type} (en:α->List AV) (xs:List α):AV:=.sl (List.map en xs)
abbrev aR {α:Type} (e c:Nat) (en:α->List AV) (xs:List α):Ob:=.arr e c (List.map en xs)
section
variable {P:Program} {N n:Nat} {aw aw':List Ob} {l:List (Nat × AV)} {ops:Array Oper} {os:List Oper} {K:List AV→List Ob→Prop} {o:Oper} {d:Option Tmp} {x:Operand} {ty:TypeId} {ps:String} {af:Array Edge}
theorem sq (h:vcQ P (mkA n l) aw o.op fun r=>RS P N ops os K (mkA n (dB l o.dst r)) aw) (hg:o.guard=none:=by rfl) (hq:lu o.op=true:=by rfl):RS P N ops (o::os) K (mkA n l) aw:=RS.op hg (OP.q hq h)
theorem sn {j t:Nat} {want b:Bool} (hbw:b=!want) (h:RS P N ops os K (mkA n (dB l o.dst (.tup []))) aw) (hg:o.guard=some (j,want):=by rfl) (ht:(ops[j]?).bind (·.dst)=some t:=by rfl) (hb:evA n l (.tmp t)=.bool b:=by rfl) :
 RS P N ops (o::os) K (mkA n l) aw:=RS.no hg ht hb hbw h
theorem su {j t:Nat} {want:Bool} (h:RS P N ops os K (mkA n (dB l o.dst (.tup []))) aw) (hg:o.guard=some (j,want):=by rfl) (ht:(ops[j]?).bind (·.dst)=some t:=by rfl) (hb:evA n l (.tmp t)=.tup []:=by rfl) :
 RS P N ops (o::os) K (mkA n l) aw:=RS.nou hg ht hb h
def SubA:List (Nat × AV)->List (Nat × AV)->Prop
 | [],_=>True
 | (s,v)::r,l=>lkA l s=v/\SubA r l
theorem An:∀ {l' l:List (Nat × AV)},SubA l' l->∀ t,lkA l' t=.any∨lkA l' t=lkA l t
 | [],l,_,t=>.inl rfl
 | (s,v)::r,l,h,t=>by
  rw [iN];by_cases e:s=t
  ·subst e;rw [if_pos rfl];exact .inr h.1.symm
  ·rw [if_neg e];exact An h.2 t
theorem Ax {l':List (Nat × AV)} {st:St} {σ:List Value} {w:World} {F:Nat->Prop} {a:Act} (h:SubA l' l) (hc:Cur st (mkA n l) aw σ w F a):Cur st (mkA n l') aw σ w F a:=by
 refine ⟨hc.sim,⟨⟨?_,fun j x v hx hv=>?_⟩,hc.fr.2⟩,hc.mv,hc.ds⟩
 ·have:=hc.fr.1.1;rw [ly] at this ⊢;exact this
 ·rw [fN] at hx;split at hx
  ·rename_i hj;cases hx;rcases An h j with e | e
   ·rw [e];exact .any _
   ·rw [e];exact hc.fr.1.2 j _ v (by rw [fN,if_pos hj]) hv
  ·cases hx
theorem RA.sub {l':List (Nat × AV)} {k:Nat} {li:Array Bool} (h:RA P N ops k li K (mkA n l') aw) (hs:SubA l' l):RA P N ops k li K (mkA n l) aw:=⟨fun st h1 h2 σ w F a hc=>h.out st h1 h2 σ w F a (Ax hs hc)⟩
theorem T.sub {l':List (Nat × AV)} {c:Code} {Q:Exit->List AV->List Ob->Prop} (h:T P N c Q (mkA n l') aw) (hs:SubA l' l):T P N c Q (mkA n l) aw:=⟨fun st h1 h2 σ w F a hc=>h.out st h1 h2 σ w F a (Ax hs hc)⟩
section
variable {k:Nat} {li li':Array Bool} {fr fr':List AV}
theorem ra1 (i1:Nat) (h1:RO P N ops i1 (RA P N ops k (li.setIfInBounds i1 true) K) fr aw) (hr:Region.ready .any ops li=[i1]:=by decide +kernel):RA P N ops (k+1) li K fr aw:=RA.a1 hr rfl h1
theorem ra2 (i1 i2:Nat) (h1:RO P N ops i1 (RA P N ops k (li.setIfInBounds i1 true) K) fr aw) (h2:RO P N ops i2 (RA P N ops k (li.setIfInBounds i2 true) K) fr aw) (hr:Region.ready .any ops li=[i1,i2]:=by decide +kernel):RA P N ops (k+1) li K fr aw:=RA.a2 hr rfl rfl h1 h2
theorem ra3 (i1 i2 i3:Nat) (h1:RO P N ops i1 (RA P N ops k (li.setIfInBounds i1 true) K) fr aw) (h2:RO P N ops i2 (RA P N ops k (li.setIfInBounds i2 true) K) fr aw) (h3:RO P N ops i3 (RA P N ops k (li.setIfInBounds i3 true) K) fr aw)
 (hr:Region.ready .any ops li=[i1,i2,i3]:=by decide +kernel):RA P N ops (k+1) li K fr aw:=RA.a3 hr rfl rfl rfl h1 h2 h3
theorem ra4 (i1 i2 i3 i4:Nat) (h1:RO P N ops i1 (RA P N ops k (li.setIfInBounds i1 true) K) fr aw) (h2:RO P N ops i2 (RA P N ops k (li.setIfInBounds i2 true) K) fr aw) (h3:RO P N ops i3 (RA P N ops k (li.setIfInBounds i3 true) K) fr aw)
 (h4:RO P N ops i4 (RA P N ops k (li.setIfInBounds i4 true) K) fr aw) (hr:Region.ready .any ops li=[i1,i2,i3,i4]:=by decide +kernel):RA P N ops (k+1) li K fr aw:=RA.a4 hr rfl rfl rfl rfl h1 h2 h3 h4
end
theorem bz:(∀ b,(true || b)=true)/\(∀ b,(b || true)=true)/\(∀ b,(false || b)=b)/\(∀ b,(b || false)=b)/\(∀ b,(true && b)=b)/\(∀ b,(b && true)=b)/\(∀ b,(false && b)=false)/\(∀ b,(b && false)=false)/\(!true)=false/\(!false)=true:=by refine ⟨?_,?_,?_,?_,?_,?_,?_,?_,rfl,rfl⟩<;>intro b<;>cases b<;>rfl
theorem it {α:Type} (a b:α):(if true=true then a else b)=a:=rfl
class RetI (Q:Exit->List AV->List Ob->Prop) (R:outParam (List AV->List Ob->Prop)):Prop where
 out:∀ fr aw,R fr aw->Q .ret fr aw
instance {fn:Func} {M:Nat} {Q:AV->List Ob->Prop}:RetI (retQ P fn M Q) (fun fr aw=>bM P fr aw fn.results.toList (Ret M Q aw)):=⟨fun _ _ h=>h⟩
instance {K:List AV->List Ob->Prop} {Q:Exit->List AV->List Ob->Prop} {R:List AV->List Ob->Prop} [h:RetI Q R]:RetI (thenA K Q) R:=⟨h.out⟩
instance {id:Nat} {Q:Exit->List AV->List Ob->Prop} {R:List AV->List Ob->Prop} [h:RetI Q R]:RetI (ln id Q) R:=⟨h.out⟩
instance {α β:Type} {M:Nat} {v:α ⊕ β} {F:α->List AV} {A:α->List Ob} {Q:Exit->List AV->List Ob->Prop} {R:List AV->List Ob->Prop} [h:RetI Q R]:RetI (LQ M v F A Q) R:=⟨h.out⟩
theorem T.rt {Q:Exit->List AV->List Ob->Prop} {R:List AV->List Ob->Prop} {fr:List AV} [hq:RetI Q R] (h:R fr aw):T P N .ret Q fr aw:=T.ret (hq.out fr aw h)
class PureC (a:AV):Prop where
 out:Pure a
class EnP {α:Type} (en:α->List AV):Prop where
 out:∀ a x,x∈en a->Pure x
instance {k:IntKind} {i:Int}:PureC (.int k i):=⟨aI _ _⟩
instance {b:Bool}:PureC (.bool b):=⟨iG _⟩
instance {s:List UInt8}:PureC (.str s):=⟨aX _⟩
instance:PureC .nils:=⟨bJ⟩
instance:PureC .nilf:=⟨pq⟩
instance {α:Type} {en:α->List AV} {xs:List α} [h:EnP en]:PureC (.sl (xs.map en)):=⟨cI h.out _⟩
class PureCs (cs:List AV):Prop where
 out:∀ a,a∈cs->Pure a
instance:PureCs []:=⟨fun a h=>by cases h⟩
instance {a:AV} {cs:List AV} [h:PureC a] [t:PureCs cs]:PureCs (a::cs):=⟨fun b hb=>by cases hb with | head=>exact h.out | tail _ hb=>exact t.out b hb⟩
instance {cs:List AV} [h:PureCs cs]:PureC (.agg cs):=⟨zj _ h.out⟩
instance {cs:List AV} [h:PureCs cs]:PureC (.tup cs):=⟨GZ _ h.out⟩
theorem dR {ρ ids:List Nat} {id:Nat} (cs:List AV) [h:PureCs cs] (ho:aw[id]?=some (.box cs)) (t:bQ ρ aw ids aw'):bQ ρ aw (id::ids) (.box cs::aw'):=aq ho (rx h.out) t
theorem ig {α:Type} {en:α->List AV} {xs ys:List α} {ρ ids:List Nat} {id e s:Nat} [h:EnP en] (ho:aw[id]?=some (.arr e s (ys.map en))) (hx:xs=ys) (t:bQ ρ aw ids aw'):bQ ρ aw (id::ids) (.arr e s (xs.map en)::aw'):=dQ ho h.out hx t
theorem rn_s {α:Type} {en:α->List AV} {xs ys:List α} {ρ:List Nat} [hp:EnP en] (h:xs=ys):Ren ρ (.sl (xs.map en)) (.sl (ys.map en)):=rn_sl hp.out h
end
end
section
open Go.RowKit
namespace RK
def Over (w w':World):Prop:=∀ r,r<w.heap.size->w'.heap[r]?=w.heap[r]?
theorem Over.rfl' (w:World):Over w w:=fun _ _=>rfl
theorem Over.size {w w':World} (h:Over w w'):w.heap.size<=w'.heap.size:=by
 rcases Nat.eq_zero_or_pos w.heap.size with h0 | h0
 ·omega
 ·have:=h (w.heap.size - 1) (by omega);have hl:w.heap.size - 1<w.heap.size:=by omega
  rw [L1 hl] at this;have:=(Lt.1 this).1;omega
theorem Over.trans {a b c:World} (h:Over a b) (k:Over b c):Over a c:=fun r hr =>
 (k r (Lv hr h.size)).trans (h r hr)
inductive Keeps {α:Type}:Sem α->Prop
 | pure (a:α):Keeps (.pure a)
 | load (m:Go.Mode) (a:Addr) (k:Value->Sem α):(∀ v,Keeps (k v))->Keeps (.load m a k)
 | new (o:Obj) (k:Nat->Sem α):(∀ r,Keeps (k r))->Keeps (.new o k)
 | shape (r:Nat) (k:Option (TypeId × Nat)->Sem α):(∀ x,Keeps (k x))->Keeps (.shape r k)
 | frozen (a:Addr) (k:Bool->Sem α):(∀ x,Keeps (k x))->Keeps (.frozen a k)
 | getObj (r:Nat) (k:Obj->Sem α):(∀ x,Keeps (k x))->Keeps (.getObj r k)
 | choose (q:Question) (k:Nat->Sem α):(∀ x,Keeps (k x))->Keeps (.choose q k)
 | program (k:Program->Sem α):(∀ x,Keeps (k x))->Keeps (.program k)
 | mark (m:Mark) (k:Sem α):Keeps k->Keeps (.mark m k)
 | halt (h:Halt):Keeps (.halt h)
theorem Keeps.bind {α β:Type} {s:Sem α} (h:Keeps s) {f:α->Sem β} (hf:∀ a,Keeps (f a)):Keeps (s.bind f):=by
 induction h with
 | pure a=>exact hf a
 | load m a k _ ih=>exact .load m a _ fun v=>ih v
 | new o k _ ih=>exact .new o _ fun v=>ih v
 | shape r k _ ih=>exact .shape r _ fun v=>ih v
 | frozen a k _ ih=>exact .frozen a _ fun v=>ih v
 | getObj r k _ ih=>exact .getObj r _ fun v=>ih v
 | choose q k _ ih=>exact .choose q _ fun v=>ih v
 | program k _ ih=>exact .program _ fun v=>ih v
 | mark m k _ ih=>exact .mark m _ ih
 | halt h=>exact .halt h
theorem Keeps.run {α:Type} {s:Sem α} (h:Keeps s) (P:Program):∀ (w:World) (x:α) (w':World),s.run P w=.ok x w'->Over w w':=by
 induction h with
 | pure a=>intro w x w' e;simp only [Sem.run,Result.ok.injEq] at e;rw [<- e.2];exact .rfl' w
 | load m a k _ ih =>
  intro w x w' e;simp only [Sem.run] at e;split at e
  ·exact ih _ _ _ _ e
  ·split at e
   ·exact ih _ _ _ _ e
   ·cases e
 | new o k _ ih =>
  intro w x w' e;simp only [Sem.run] at e;refine Over.trans (fun r hr=>?_) (ih _ _ _ _ e);simp [Array.getElem?_push,Nat.ne_of_lt hr]
 | shape r k _ ih=>intro w x w' e;exact ih _ _ _ _ e
 | frozen a k _ ih=>intro w x w' e;exact ih _ _ _ _ e
 | getObj r k _ ih =>
  intro w x w' e;simp only [Sem.run] at e;split at e
  ·cases e
  ·exact ih _ _ _ _ e
  ·cases e
 | choose q k _ ih =>
  intro w x w' e;simp only [Sem.run] at e;split at e
  ·exact ih _ _ _ _ e
  ·exact fun r hr=>ih _ _ _ _ e r hr
 | program k _ ih=>intro w x w' e;exact ih _ _ _ _ e
 | mark m k _ ih=>intro w x w' e;exact ih _ _ _ e
 | halt h=>intro w x w' e;simp only [Sem.run] at e;cases e
theorem Keeps.mb {α β:Type} {s:Sem α} (h:Keeps s) {f:α->Sem β} (hf:∀ a,Keeps (f a)):Keeps (s >>= f):=h.bind hf
theorem Keeps.fm {α β:Type} {s:Sem α} (h:Keeps s) {f:α->β}:Keeps (Functor.map f s):=h.bind fun a=>.pure _
theorem dE {α:Type} (a:α):Keeps (Pure.pure a:Sem α):=.pure a
theorem gm {α:Type} (s:String):Keeps (stuck s:Sem α):=.halt _
theorem g9 {α:Type} (u:Unsupported):Keeps (unsupported u:Sem α):=.halt _
theorem fO (a:Addr) (m:Go.Mode):Keeps (Go.load a m):=.load _ _ _ fun _=>.pure _
theorem k_prog:Keeps Go.program:=.program _ fun _=>.pure _
theorem gh (o:Obj):Keeps (newObj o):=.new _ _ fun _=>.pure _
theorem gZ (r:Nat):Keeps (Go.shape r):=.shape _ _ fun _=>.pure _
theorem gf (q:Question):Keeps (Go.choose q):=.choose _ _ fun _=>.pure _
theorem xh (t:TypeId):Keeps (typeInfo t):=by unfold typeInfo;repeat (first | exact dE _ | exact gm _ | exact g9 _ | exact fO _ _ | exact k_prog | exact gh _ | exact gZ _ | exact gf _ | assumption | exact Keeps.pure _ | exact Keeps.halt _ | (refine Keeps.mb ?_ fun _=>?_) | (refine Keeps.fm ?_) | (refine Keeps.bind ?_ fun _=>?_) | split)
theorem jx (t:TypeId):Keeps (underlying t):=by unfold underlying;repeat (first | exact dE _ | exact gm _ | exact g9 _ | exact fO _ _ | exact k_prog | exact gh _ | exact gZ _ | exact gf _ | assumption | exact Keeps.pure _ | exact Keeps.halt _ | (refine Keeps.mb ?_ fun _=>?_) | (refine Keeps.fm ?_) | (refine Keeps.bind ?_ fun _=>?_) | split)
theorem lr (t:TypeId):Keeps (sizeOf t):=(xh t).mb fun _=>dE _
theorem lA (t:TypeId):Keeps (zeroValue t):=by unfold zeroValue;refine (xh t).mb fun _=>?_;repeat (first | exact dE _ | exact gm _ | exact g9 _ | exact fO _ _ | exact k_prog | exact gh _ | exact gZ _ | exact gf _ | assumption | exact Keeps.pure _ | exact Keeps.halt _ | (refine Keeps.mb ?_ fun _=>?_) | (refine Keeps.fm ?_) | (refine Keeps.bind ?_ fun _=>?_) | split)
theorem Hu (t:TypeId):Keeps (isAgg t):=by unfold isAgg;refine (jx t).mb fun _=>?_;repeat (first | exact dE _ | exact gm _ | exact g9 _ | exact fO _ _ | exact k_prog | exact gh _ | exact gZ _ | exact gf _ | assumption | exact Keeps.pure _ | exact Keeps.halt _ | (refine Keeps.mb ?_ fun _=>?_) | (refine Keeps.fm ?_) | (refine Keeps.bind ?_ fun _=>?_) | split)
theorem HN (a:Addr):∀ (n i:Nat) (acc:Array Value),Keeps (loadCellsFrom a i n acc):=by
 intro n;induction n with
 | zero=>intro i acc;exact dE _
 | succ n ih=>intro i acc;exact (fO _ _).mb fun _=>ih _ _
theorem Fe (t:TypeId) (a:Addr):Keeps (loadVar t a):=by
 unfold loadVar loadCells;refine (Hu t).mb fun _=>?_
 split
 ·exact (lr t).mb fun _=>(HN _ _ _ _).mb fun _=>dE _
 ·exact fO _ _
theorem nH (v:Value):Keeps (Instr.sureAddr v):=by unfold Instr.sureAddr;split<;>(first | exact dE _ | exact gm _ | exact g9 _ | exact fO _ _ | exact k_prog | exact gh _ | exact gZ _ | exact gf _ | assumption | exact Keeps.pure _ | exact Keeps.halt _ | (refine Keeps.mb ?_ fun _=>?_) | (refine Keeps.fm ?_) | (refine Keeps.bind ?_ fun _=>?_) | split)
theorem GK (t:TypeId) (v:Value):Keeps (Instr.loadAt t v):=(nH v).mb fun _=>Fe _ _
theorem lj (t:TypeId) (vs:Array Value):Keeps (newRow t vs):=(gh _).mb fun _=>dE _
theorem k_box (t:TypeId) (v:Value):Keeps (Instr.box t v):=(lj _ _).mb fun _=>dE _
theorem HC (t:TypeId):Keeps (Instr.alloc t true (.tuple #[])):=by unfold Instr.alloc;exact (lA t).mb fun _=>(lj _ _).mb fun _=>dE _
theorem EY (v:Value):Keeps (asIntOf v):=by unfold asIntOf;split<;>(first | exact dE _ | exact gm _ | exact g9 _ | exact fO _ _ | exact k_prog | exact gh _ | exact gZ _ | exact gf _ | exact jx _ | exact lr _ | exact lA _ | exact nH _ | exact lj _ _ | assumption | exact Keeps.pure _ | exact Keeps.halt _ | (refine Keeps.mb ?_ fun _=>?_) | (refine Keeps.fm ?_) | (refine Keeps.bind ?_ fun _=>?_) | dsimp only | split)
theorem Al {α:Type} (v:Value):Keeps (goPanic v:Sem α):=.halt _
theorem Gz {α:Type} (k:IntKind) (x y:Int) (c:BoundsCode):Keeps (boundsPanic k x y c:Sem α):=by
 unfold boundsPanic;dsimp only;split
 ·refine Keeps.mb (Keeps.fm (gf _)) fun _=>?_
  unfold runtimePanic;exact k_prog.mb fun _=>Al _
 ·refine Keeps.mb (dE _) fun _=>?_
  unfold runtimePanic;exact k_prog.mb fun _=>Al _
theorem Fa (t:TypeId) (x i:Value):Keeps (Instr.indexAt t x i):=by
 unfold Instr.indexAt;refine (EY i).mb fun _=>?_
 dsimp only;refine (jx t).mb fun _=>?_
 repeat (first | exact Gz _ _ _ _ | (first | exact dE _ | exact gm _ | exact g9 _ | exact fO _ _ | exact k_prog | exact gh _ | exact gZ _ | exact gf _ | exact jx _ | exact lr _ | exact lA _ | exact nH _ | exact lj _ _ | assumption | exact Keeps.pure _ | exact Keeps.halt _ | (refine Keeps.mb ?_ fun _=>?_) | (refine Keeps.fm ?_) | (refine Keeps.bind ?_ fun _=>?_) | dsimp only | split))
theorem DB (t:TypeId) (len:Nat) (ps:Array (Nat × Value)):Keeps (Instr.buildSlice t len ps):=by unfold Instr.buildSlice;repeat (first | exact dE _ | exact gm _ | exact g9 _ | exact fO _ _ | exact k_prog | exact gh _ | exact gZ _ | exact gf _ | exact jx _ | exact lr _ | exact lA _ | exact nH _ | exact lj _ _ | assumption | exact Keeps.pure _ | exact Keeps.halt _ | (refine Keeps.mb ?_ fun _=>?_) | (refine Keeps.fm ?_) | (refine Keeps.bind ?_ fun _=>?_) | dsimp only | split)
theorem I2 {α β:Type} (f:α->Sem β) (hf:∀ a,Keeps (f a)) (xs:Array α):Keeps (xs.mapM f):=by
 rw [Array.mapM_eq_mapM_toList];refine Keeps.fm ?_;generalize xs.toList=l;induction l with
 | nil=>exact dE _
 | cons a l ih=>rw [List.mapM_cons];exact (hf a).mb fun _=>ih.mb fun _=>dE _
theorem Hp (t:TypeId) (ps:Array (Nat × Value)):Keeps (Instr.build t ps):=by
 unfold Instr.build;refine (lA t).mb fun _=>(jx t).mb fun _=>?_
 split
 ·refine Keeps.mb (I2 _ (fun f=>(lr _).mb fun _=>dE _) _) fun _=>?_
  repeat (first | exact dE _ | exact gm _ | exact g9 _ | exact fO _ _ | exact k_prog | exact gh _ | exact gZ _ | exact gf _ | exact jx _ | exact lr _ | exact lA _ | exact nH _ | exact lj _ _ | assumption | exact Keeps.pure _ | exact Keeps.halt _ | (refine Keeps.mb ?_ fun _=>?_) | (refine Keeps.fm ?_) | (refine Keeps.bind ?_ fun _=>?_) | dsimp only | split)
 ·repeat (first | exact dE _ | exact gm _ | exact g9 _ | exact fO _ _ | exact k_prog | exact gh _ | exact gZ _ | exact gf _ | exact jx _ | exact lr _ | exact lA _ | exact nH _ | exact lj _ _ | assumption | exact Keeps.pure _ | exact Keeps.halt _ | (refine Keeps.mb ?_ fun _=>?_) | (refine Keeps.fm ?_) | (refine Keeps.bind ?_ fun _=>?_) | dsimp only | split)
 ·exact gm _
def Tame (o:Oper):Prop:=∀ ρ,∃ s:Sem Value,Keeps s/\execOp ρ o=s.bind fun x=>.pure (.value x)
theorem Keeps.val {s:Sem Value} (h:Keeps s) (P:Program):∀ (w:World) (n:Next) (w':World),
  (s.bind fun x=>.pure (.value x)).run P w=.ok n w'->∃ x,n=.value x:=by
 induction h with
 | pure a=>intro w n w' e;simp only [Sem.bind,Sem.run,Result.ok.injEq] at e;exact ⟨a,e.1.symm⟩
 | load m a k _ ih =>
  intro w n w' e
  simp only [Sem.bind,Sem.run] at e
  split at e
  ·exact ih _ _ _ _ e
  ·split at e
   ·exact ih _ _ _ _ e
   ·cases e
 | new o k _ ih=>intro w n w' e;exact ih _ _ _ _ e
 | shape r k _ ih=>intro w n w' e;exact ih _ _ _ _ e
 | frozen a k _ ih=>intro w n w' e;exact ih _ _ _ _ e
 | getObj r k _ ih =>
  intro w n w' e
  simp only [Sem.bind,Sem.run] at e
  split at e
  ·cases e
  ·exact ih _ _ _ _ e
  ·cases e
 | choose q k _ ih =>
  intro w n w' e
  simp only [Sem.bind,Sem.run] at e
  split at e
  ·exact ih _ _ _ _ e
  ·exact ih _ _ _ _ e
 | program k _ ih=>intro w n w' e;exact ih _ _ _ _ e
 | mark m k _ ih=>intro w n w' e;exact ih _ _ _ e
 | halt h=>intro w n w' e;simp only [Sem.bind,Sem.run] at e;cases e
theorem Tame.run {o:Oper} (h:Tame o) {P:Program} {ρ:Operand->Value} {w w':World} {n:Next} (e:(execOp ρ o).run P w=.ok n w') :
  (∃ x,n=.value x)/\Over w w':=by
 obtain ⟨s,hk,hs⟩:=h ρ
 rw [hs] at e
 exact ⟨hk.val P _ _ _ e,(hk.bind fun _=>.pure _).run P _ _ _ e⟩
theorem FG {o:Oper} {t:TypeId} {x:Operand} (h:o.op=.load t x):Tame o:=fun ρ=>⟨_,GK t (ρ x),by unfold execOp;rw [h];rfl⟩
theorem Ew {o:Oper} {t:TypeId} (h:o.op=.alloc t):Tame o:=fun ρ=>⟨_,HC t,by unfold execOp;rw [h];rfl⟩
theorem GU {o:Oper} {t:TypeId} {x:Operand} (h:o.op=.box t x):Tame o:=fun ρ=>⟨_,k_box t (ρ x),by unfold execOp;rw [h];rfl⟩
theorem Eg {o:Oper} {t:TypeId} {x y:Operand} (h:o.op=.indexAddr t x y):Tame o:=fun ρ=>⟨_,Fa t (ρ x) (ρ y),by unfold execOp;rw [h];rfl⟩
theorem Ec {o:Oper} {t:TypeId} {ps:Array (Nat × Operand)} (h:o.op=.build t ps):Tame o:=fun ρ=>⟨_,Hp t _,by unfold execOp;rw [h];rfl⟩
theorem C3 {o:Oper} {t:TypeId} {k:Nat} {ps:Array (Nat × Operand)} (h:o.op=.buildSlice t k ps):Tame o:=fun ρ=>⟨_,DB t k _,by unfold execOp;rw [h];rfl⟩
theorem EV {o:Oper} {x:Operand} (h:o.op=.move x):Tame o:=fun ρ=>⟨_,.pure (ρ x),by unfold execOp;rw [h];rfl⟩
section
variable {P:Program} {md:Region.Mode} {ops:Array Oper} {Q:Exit→Act→World→Prop}
def YieldsO (P:Program) (ops:Array Oper) (o:Oper) (v:Value) (a:Act) (w:World):Prop :=
 (Region.wanted o (yielded ops a.tmps)=true/\∀ w',Over w w'->(execOp a.eval o).run P w'=.ok (.value v) w') ∨
 (Region.wanted o (yielded ops a.tmps)=false/\v=undef)
theorem YieldsO.wpOp {i:Nat} {o:Oper} {v:Value} {a:Act} {w:World} (hi:ops[i]?=some o) (hy:YieldsO P ops o v a w)
  {K:Act->World->Prop} (h:K (a.put o.dst v) w):Go.wpOp P ops Q i K a w:=by
 unfold Go.wpOp
 simp only [hi]
 rcases hy with ⟨hw,hv⟩ | ⟨hw,rfl⟩
 ·simp only [hw,if_true,Oper.wp,hv w (.rfl' w),Oper.upon];exact .inl h
 ·simp only [hw,KD,if_false];exact h
theorem YieldsO.of_same {o:Oper} {v:Value} {a a':Act} {w w':World} (hy:YieldsO P ops o v a w) (hww:Over w w') (he:execOp a'.eval o=execOp a.eval o)
  (hw:Region.wanted o (yielded ops a'.tmps)=Region.wanted o (yielded ops a.tmps)):YieldsO P ops o v a' w':=by
 unfold YieldsO at *
 rw [he,hw]
 exact hy.imp (fun h=>⟨h.1,fun w2 h2=>h.2 w2 (hww.trans h2)⟩) id
theorem EJ {j:Nat} {oi oj:Oper} {v:Value} (hj:ops[j]?=some oj) (hap:oi.apart ops oj=true) (ht:Tame oj)
  (hsi:∀ cs b,oi.op≠.select cs b) (hsj:∀ cs b,oj.op≠.select cs b)
  (hQ:∀ c a w,Q (.panic c) (a.put oi.dst v) w->Q (.panic c) a w) {K:Act->World->Prop} {a:Act} {w:World}
  (hy:YieldsO P ops oi v a w) (h:wpOp P ops Q j K (a.put oi.dst v) w) :
  wpOp P ops Q j (fun a' w'=>YieldsO P ops oi v a' w'/\K (a'.put oi.dst v) w') a w:=by
 obtain ⟨h1,h2,h3⟩:=Oper.apart_spec hap
 have keep:∀ u w',Over w w'->YieldsO P ops oi v (a.put oj.dst u) w':=fun u w' hw =>
  hy.of_same hw (execOp_put oi hsi a oj.dst u h3) (wanted_put oi a oj.dst u h3)
 unfold wpOp at *
 simp only [hj] at *
 rw [wanted_put oj a oi.dst v h1] at h
 split
 ·rename_i hw
  simp only [hw,if_true] at h
  rcases h with h | ⟨hasks,hlets⟩
  case inr=>exact .inr ⟨by unfold Oper.asks at *;rw [execOp_put oj hsj a oi.dst v h1] at hasks;exact hasks,hlets⟩
  refine .inl ?_
  unfold Oper.wp at *
  rw [execOp_put oj hsj a oi.dst v h1] at h
  have hr:=fun n w'=>ht.run (P:=P) (ρ:=a.eval) (w:=w) (w':=w') (n:=n)
  generalize (execOp a.eval oj).run P w=r at *
  cases r with
  | ok n w' =>
   obtain ⟨⟨u,rfl⟩,hov⟩:=hr n w' rfl
   simp only [Oper.upon] at h ⊢
   exact ⟨keep u w' hov,by rw [<- Act.put_comm a v u h2];exact h⟩
  | halt x w' =>
   cases x<;>simp only [Oper.upon] at h ⊢
   case panic u=>exact hQ _ _ _ h
 ·rename_i hw
  simp only [hw] at h
  exact ⟨keep _ w (.rfl' w),by rw [<- Act.put_comm a v undef h2];exact h⟩
theorem Ez (D:Nat->Bool) {i:Nat} {oi:Oper} {v:Value} (hi:ops[i]?=some oi) (hsel:∀ (j:Nat) (o:Oper) cs b,ops[j]?=some o->o.op≠.select cs b)
  (hQ:∀ c a w,Q (.panic c) (a.put oi.dst v) w->Q (.panic c) a w) (hDi:D i=true)
  (hD:∀ j oj,ops[j]?=some oj->D j=true->j≠i->∃ e∈oj.after,Region.binds md e=true/\D e.on=true) :
  ∀ (fuel:Nat) (listed:Array Bool) (a:Act) (w:World),
   (∀ j oj,ops[j]?=some oj->D j=false->listed.getD j true=false->oi.apart ops oj=true/\Tame oj) ->
   (∀ j,D j=true->listed.getD j false=false) ->
   i∈Region.ready md ops listed->YieldsO P ops oi v a w ->
   wpAny P md ops Q fuel (listed.setIfInBounds i true) (a.put oi.dst v) w->wpAny P md ops Q (fuel+1) listed a w:=by
 intro fuel
 induction fuel with
 | zero =>
  intro listed a w _ _ hr hy H
  refine ⟨fun h=>(by rw [h] at hr;cases hr),fun j hj=>?_⟩
  by_cases hji:j=i
  ·subst hji;exact hy.wpOp hi H
  ·have:=ready_mono hj hji
   rw [H.1] at this
   cases this
 | succ fuel ih =>
  intro listed a w hfree hdl hr hy H
  refine ⟨fun h=>(by rw [h] at hr;cases hr),fun j hj=>?_⟩
  by_cases hji:j=i
  ·subst hji;exact hy.wpOp hi H
  ·have h1:=H.2 j (ready_mono hj hji)
   obtain ⟨hjun,oj,hoj,hall⟩:=mem_ready.1 hj
   have hDj:D j=false:=by
    cases hd:D j with
    | false=>rfl
    | true =>
     obtain ⟨e,he,hb,hde⟩:=hD j oj hoj hd hji;have:=hall e he hb;rw [hdl _ hde] at this;cases this
   obtain ⟨hap,ht⟩:=hfree j oj hoj hDj hjun
   have h2:=EJ hoj hap ht (fun cs b=>hsel i oi cs b hi) (fun cs b=>hsel j oj cs b hoj) hQ hy h1
   have hfree':∀ k ok,ops[k]?=some ok->D k=false->(listed.setIfInBounds j true).getD k true=false->oi.apart ops ok=true/\Tame ok:=fun k ok hk hdk hun=>by
    refine hfree k ok hk hdk ?_;by_cases hjk:j=k
    ·subst hjk;exact hjun
    ·rw [getD_set_ne true hjk] at hun;exact hun
   have hdl':∀ k,D k=true->(listed.setIfInBounds j true).getD k false=false:=fun k hk=>by
    by_cases hjk:j=k
    ·subst hjk;rw [hk] at hDj;cases hDj
    ·rw [getD_set_ne false hjk];exact hdl k hk
   refine wpOp_mono (fun a' w' h3=>ih (listed.setIfInBounds j true) a' w' hfree' hdl' (ready_mono hr (Ne.symm hji)) h3.1 ?_) h2
   rw [Array.setIfInBounds_comm _ _ hji]
   exact h3.2
end
theorem Gl {aw:List Ob} {σ:List Value} {w w':World} {F:Nat->Prop} (hs:Sim aw σ w F) (h:Over w w'):Agr aw σ w F w':=by
 rintro b (hb | ⟨k,cs,v,h1,h2,h3⟩)
 ·exact h b (hs.lt b hb)
 ·exact h b (hs.lt_own ⟨k,_,v,h1,rfl,h2,h3⟩)
section
variable {P:Program} {fr:List AV} {aw:List Ob}
theorem xE {st:St} {σ:List Value} {w:World} {F:Nat->Prop} {a:Act} {o:Oper} {K:AV->Prop} (hc:Cur st fr aw σ w F a) (h:vcQ P fr aw o.op K):∃ v r,(∀ w',Over w w'->(execOp a.eval o).run P w'=.ok (.value v) w')/\Rel σ w F r v/\K r:=by obtain ⟨v,r,h1,h2,h3⟩:=uF hc.fr hc.sim o h;exact ⟨v,r,fun w' hw=>h1 w' (Gl hc.sim hw),h2,h3⟩
def AZ:Op->Bool
 | .load .. | .alloc .. | .box .. | .move .. | .indexAddr .. | .build .. | .buildSlice ..=>true
 | _=>false
theorem He {o:Oper} (h:AZ o.op=true):Tame o:=by cases e:o.op<;>rw [e] at h<;>first | (cases h;done) | exact FG e | exact Ew e | exact GU e | exact EV e | exact Eg e | exact Ec e | exact C3 e
def loadFree (ops:Array Oper) (li:Array Bool) (D:List Nat) (i:Nat):Bool :=
 match ops[i]? with
 | none=>false
 | some oi =>
  D.contains i && D.all (fun j=>li.getD j false==false && (j==i || match ops[j]? with
   | some oj=>oj.after.any fun e=>Region.binds .any e && D.contains e.on
   | none=>true)) &&
  (List.range ops.size).all fun j=>D.contains j || li.getD j true || match ops[j]? with
   | some oj=>oi.apart ops oj && AZ oj.op
   | none=>true
theorem wa {ops:Array Oper} {Q:Exit->Act->World->Prop} (D:List Nat) {i:Nat} {oi:Oper} {v:Value} {fuel:Nat} {li:Array Bool} {a:Act} {w:World} (hi:ops[i]?=some oi)
  (hs:Region.noSelect ops=true) (hf:loadFree ops li D i=true) (hr:(Region.ready .any ops li).contains i=true)
  (hQ:∀ c a w,Q (.panic c) (a.put oi.dst v) w->Q (.panic c) a w) (hy:YieldsO P ops oi v a w)
  (h:wpAny P .any ops Q fuel (li.setIfInBounds i true) (a.put oi.dst v) w):wpAny P .any ops Q (fuel+1) li a w:=by
 simp only [loadFree,hi,Ly,Lk] at hf
 obtain ⟨⟨h1,h2⟩,h3⟩:=hf
 refine Ez (fun j=>D.contains j) hi (Region.noSelect_spec hs) hQ h1 ?_ fuel li a w ?_ ?_ (by simpa using hr) hy h
 ·intro j oj hj hd hji
  have:=(h2 j (by simpa using hd)).2
  simp only [hj,LY,beq_iff_eq] at this
  rcases this with this | this
  ·exact absurd this hji
  ·obtain ⟨k,hk,he⟩:=Array.any_eq_true.1 this
   simp only [Ly] at he
   exact ⟨_,Array.getElem_mem hk,he.1,he.2⟩
 ·intro j oj hj hd hl
  have:=h3 j (by simpa using (Lt.1 hj).1)
  simp only [hd,hl,hj,Bool.false_or,Ly] at this
  exact ⟨this.1,He this.2⟩
 ·intro j hd
  have:=(h2 j (by simpa using hd)).1
  simpa using this
end
end RK
section
variable {P:Program} {N n:Nat} {aw:List Ob} {l:List (Nat × AV)}
end
section
variable {P:Program}
end
end
section
open Go.RowKit
inductive TI where
 | no
 | s0
 | sc (z:AV)
 | it (k:IntKind)
 | bo
 | str
 | sl (e c:Nat)
 | ag (z:List AV) (m:Nat) (fs:List (Nat × Nat × Nat))
 | ar (z:List AV) (m:Nat)
inductive TT where
 | l (t:Nat) (i:TI)
 | n (k:Nat) (a b:TT)
def TT.get:TT->Nat->TI
 | .l t i,u=>match Nat.beq t u with
  | true=>i
  | false=>.no
 | .n k a b,u=>match Nat.blt u k with
  | true=>a.get u
  | false=>b.get u
def TI.zero:TI->Option (List AV)
 | .sc z=>some [z]
 | .it k=>some [.int k 0]
 | .bo=>some [.bool false]
 | .str=>some [.str []]
 | .sl _ _=>some [.nils]
 | .ag z _ _=>some z
 | .ar z _=>some z
 | _=>none
def TI.size:TI->Option Nat
 | .no=>none
 | .ag _ m _=>some m
 | .ar _ m=>some m
 | _=>some 1
def TOne (P:Program) (t:Nat):Prop:=aS P t=some false/\P.cellsOf t=1/\(P.underlying t).isSome=true
def FsOk (P:Program) (t:Nat):Nat->List (Nat × Nat × Nat)->Prop
 | _,[]=>True
 | k,(o,_,ft)::r=>FieldAt P t k ft o/\FsOk P t (k+1) r
def TAgg (P:Program) (t:Nat) (z:List AV) (m:Nat):Prop:=aS P t=some true/\P.cellsOf t=m/\(P.underlying t).isSome=true/\aJ P t=some z/\z.length=m
def TOk (P:Program) (t:Nat):TI->Prop
 | .no=>True
 | .s0=>TOne P t
 | .sc z=>TOne P t/\aJ P t=some [z]
 | .it k=>TOne P t/\aJ P t=some [.int k 0]/\P.underlying t=some (.int k)
 | .bo=>TOne P t/\aJ P t=some [.bool false]/\P.underlying t=some .bool
 | .str=>TOne P t/\aJ P t=some [.str []]/\P.underlying t=some .string
 | .sl e c=>TOne P t/\aJ P t=some [.nils]/\SliceOf P t e c
 | .ag z m fs=>TAgg P t z m/\ca P t=some (fs.map fun q=>(q.1,q.2.1))/\FsOk P t 0 fs
 | .ar z m=>TAgg P t z m
def TT.Ok (P:Program):TT->Prop
 | .l t i=>TOk P t i
 | .n _ a b=>a.Ok P/\b.Ok P
section
variable {P:Program} {N n:Nat} {aw aw':List Ob} {l:List (Nat × AV)} {tt:TT}
theorem TT.get_ok:∀ {tt:TT},tt.Ok P->∀ u,TOk P u (tt.get u)
 | .l t i,h,u=>by
  show TOk P u (match Nat.beq t u with | true=>i | false=>.no);cases hb:Nat.beq t u
  ·trivial
  ·have:=Li hb;subst this;exact h
 | .n k a b,h,u=>by
  show TOk P u (match Nat.blt u k with | true=>a.get u | false=>b.get u);cases Nat.blt u k
  ·exact TT.get_ok h.2 u
  ·exact TT.get_ok h.1 u
theorem TI.zero_ok {t:Nat} {i:TI} {z:List AV} (h:TOk P t i) (hz:i.zero=some z):aJ P t=some z:=by cases i<;>simp only [TI.zero] at hz<;>first | (cases hz;done) | (cases hz;first | exact h.2 | exact h.2.1 | exact h.1.2.2.2.1 | exact h.2.2.2.1)
theorem TI.size_ok {t m:Nat} {i:TI} (h:TOk P t i) (hm:i.size=some m):P.cellsOf t=m/\(P.underlying t).isSome=true:=by cases i<;>simp only [TI.size] at hm<;>first | (cases hm;done) | (cases hm;first | exact ⟨h.2.1,h.2.2⟩ | exact ⟨h.1.2.1,h.1.2.2.1⟩ | exact ⟨h.1.2.1,h.1.2.2⟩ | exact ⟨h.2.1,h.2.2.1⟩)
theorem uE {t:Nat}:∀ {fs:List (Nat × Nat × Nat)} {k i:Nat} {q:Nat × Nat × Nat},FsOk P t k fs->fs[i]?=some q->FieldAt P t (k+i) q.2.2 q.1
 | q'::r,k,0,q,h,e=>by simp at e;subst e;exact h.1
 | q'::r,k,i+1,q,h,e=>by
  have:=uE (k:=k+1) (i:=i) h.2 (by simpa using e);rwa [show k+1+i=k+(i+1) by omega] at this
 | [],k,i,q,h,e=>by simp at e
section
variable {α:Type}
def bV:List α->Nat->(α->Prop)->Prop
 | [],_,_=>False
 | a::l,k,K=>match k with
  | 0=>K a
  | k+1=>bV l k K
def setC:List α->Nat->α->(List α->Prop)->Prop
 | [],_,_,_=>False
 | a::l,k,b,K=>match k with
  | 0=>K (b::l)
  | k+1=>setC l k b fun l=>K (a::l)
def pushC:List α->α->(List α->Prop)->Prop
 | [],b,K=>K [b]
 | a::l,b,K=>pushC l b fun l=>K (a::l)
def lenC:List α->Nat->Prop->Prop
 | [],k,K=>match k with
  | 0=>K
  | _+1=>False
 | _::l,k,K=>match k with
  | 0=>False
  | k+1=>lenC l k K
def dropC:List α->Nat->(List α->Prop)->Prop
 | l,0,K=>K l
 | [],_+1,_=>False
 | _::l,k+1,K=>dropC l k K
def takeC:List α->Nat->(List α->Prop)->Prop
 | _,0,K=>K []
 | [],_+1,_=>False
 | a::l,k+1,K=>takeC l k fun l=>K (a::l)
def overC:List α->List α->(List α->Prop)->Prop
 | l,[],K=>K l
 | [],_::_,_=>False
 | _::l,b::bs,K=>overC l bs fun l=>K (b::l)
def splC:List α->Nat->List α->(List α->Prop)->Prop
 | l,0,bs,K=>overC l bs K
 | [],_+1,_,_=>False
 | a::l,k+1,bs,K=>splC l k bs fun l=>K (a::l)
def lenB:List α->Nat->Bool
 | [],k=>(match k with
  | 0=>true
  | _+1=>false)
 | _::l,k=>(match k with
  | 0=>false
  | k+1=>lenB l k)
def sameB:List α->List α->Bool
 | [],[]=>true
 | _::l,_::m=>sameB l m
 | _,_=>false
def aggC (row:List α) (off m:Nat) (K:List α->Prop):Prop :=
 match off with
 | 0=>(match lenB row m with
  | true=>K row
  | false=>takeC row m K)
 | off=>dropC row off fun r=>takeC r m K
def putC (l:List α) (off:Nat) (bs:List α) (K:List α->Prop):Prop :=
 match off with
 | 0=>(match sameB l bs with
  | true=>K bs
  | false=>splC l 0 bs K)
 | off=>splC l off bs K
theorem AM:∀ {l:List α} {k:Nat},lenB l k=true->l.length=k
 | [],0,_=>rfl
 | [],_+1,h=>by cases h
 | _::_,0,h=>by cases h
 | _::l,k+1,h=>by have:=AM (l:=l) (k:=k) h;simp [this]
theorem y8:∀ {l m:List α},sameB l m=true->l.length=m.length
 | [],[],_=>rfl
 | [],_::_,h=>by cases h
 | _::_,[],h=>by cases h
 | _::l,_::m,h=>by have:=y8 (l:=l) (m:=m) h;simp [this]
theorem bK:∀ {l:List α} {k:Nat} {K:α->Prop},bV l k K->∃ a,l[k]?=some a/\K a
 | [],_,_,h=>h.elim
 | a::l,0,K,h=>⟨a,rfl,h⟩
 | a::l,k+1,K,h=>by obtain ⟨b,h1,h2⟩:=bK (l:=l) (k:=k) (K:=K) h;exact ⟨b,by simpa using h1,h2⟩
theorem g8:∀ {l:List α} {k:Nat} {b:α} {K:List α->Prop},setC l k b K->K (l.set k b)
 | [],_,_,_,h=>h.elim
 | a::l,0,b,K,h=>h
 | a::l,k+1,b,K,h=>g8 (l:=l) (k:=k) (K:=fun l=>K (a::l)) h
theorem lp:∀ {l:List α} {b:α} {K:List α->Prop},pushC l b K->K (l++[b])
 | [],_,_,h=>h
 | a::l,b,K,h=>lp (l:=l) (K:=fun l=>K (a::l)) h
theorem r9:∀ {l:List α} {k:Nat} {K:Prop},lenC l k K->l.length=k/\K
 | [],0,K,h=>⟨rfl,h⟩
 | [],_+1,_,h=>h.elim
 | _::_,0,_,h=>h.elim
 | _::l,k+1,K,h=>by have:=r9 (l:=l) (k:=k) (K:=K) h;exact ⟨by simp [this.1],this.2⟩
theorem tT:∀ {l:List α} {k:Nat} {K:List α->Prop},dropC l k K->k<=l.length/\K (l.drop k)
 | l,0,K,h=>⟨Lj _,by cases l<;>exact h⟩
 | [],_+1,_,h=>h.elim
 | _::l,k+1,K,h=>by have:=tT (l:=l) (k:=k) (K:=K) h;exact ⟨by simp [this.1],by simpa using this.2⟩
theorem t7:∀ {l:List α} {k:Nat} {K:List α->Prop},takeC l k K->k<=l.length/\K (l.take k)
 | l,0,K,h=>⟨Lj _,by cases l<;>exact h⟩
 | [],_+1,_,h=>h.elim
 | a::l,k+1,K,h=>by have:=t7 (l:=l) (k:=k) (K:=fun l=>K (a::l)) h;exact ⟨by simp [this.1],by simpa using this.2⟩
theorem yA:∀ {l bs:List α} {K:List α->Prop},overC l bs K->bs.length<=l.length/\K (bs++l.drop bs.length)
 | l,[],K,h=>⟨Lj _,by cases l<;>exact h⟩
 | [],_::_,_,h=>h.elim
 | _::l,b::bs,K,h=>by have:=yA (l:=l) (bs:=bs) (K:=fun l=>K (b::l)) h;exact ⟨by simp [this.1],by simpa using this.2⟩
theorem rW:∀ {l:List α} {k:Nat} {bs:List α} {K:List α->Prop},splC l k bs K->k+bs.length<=l.length/\K (l.take k++bs++l.drop (k+bs.length))
 | l,0,bs,K,h=>by have:=yA (l:=l) (bs:=bs) (K:=K) (by cases l<;>exact h);exact ⟨by omega,by simpa using this.2⟩
 | [],_+1,_,_,h=>h.elim
 | a::l,k+1,bs,K,h=>by have:=rW (l:=l) (k:=k) (bs:=bs) (K:=fun l=>K (a::l)) h;refine ⟨by simp;omega,?_⟩;rw [show k+1+bs.length=(k+bs.length)+1 by omega];simpa using this.2
theorem zX {row:List α} {off m:Nat} {K:List α->Prop} (h:aggC row off m K):off+m<=row.length/\K ((row.drop off).take m):=by
 have key:∀ {o:Nat},(dropC row o fun r=>takeC r m K)->o+m<=row.length/\K ((row.drop o).take m):=fun {o} h=>by obtain ⟨h1,h2⟩:=tT h;obtain ⟨h3,h4⟩:=t7 h2;exact ⟨by rw [KX] at h3;omega,h4⟩
 unfold aggC at h;split at h
 ·split at h
  ·rename_i hb;have:=AM hb;subst this;exact ⟨by omega,by simpa using h⟩
  ·obtain ⟨h3,h4⟩:=t7 h;exact ⟨by omega,by simpa using h4⟩
 ·exact key h
theorem Hf {l:List α} {k:Nat} {bs:List α} {K:List α->Prop} (h:putC l k bs K):k+bs.length<=l.length/\K (l.take k++bs++l.drop (k+bs.length)):=by
 unfold putC at h;split at h
 ·split at h
  ·rename_i hb;have:=y8 hb;exact ⟨by omega,by rw [Ln,<- this];simpa using h⟩
  ·exact rW h
 ·exact rW h
end
def fA (a:AV) (K:AV->Prop):Prop :=
 match a with
 | .any=>K .any
 | .int k n=>K (.int k n)
 | .bool b=>K (.bool b)
 | .str s=>K (.str s)
 | .agg cs=>K (.agg cs)
 | .tup vs=>K (.tup vs)
 | .nils=>K .nils
 | .sl rows=>K (.sl rows)
 | .ref id=>K (.ref id)
 | .ptr id off=>K (.ptr id off)
 | .elt row off=>K (.elt row off)
 | .aptr id size i off=>K (.aptr id size i off)
 | .func f caps=>K (.func f caps)
 | .nilf=>K .nilf
 | .nilp=>K .nilp
 | .nili=>K .nili
 | .mpr id=>K (.mpr id)
 | .np id=>K (.np id)
 | .ifc t a=>K (.ifc t a)
 | .cst v=>K (.cst v)
 | .vw id size lo n cap=>K (.vw id size lo n cap)
 | .ref2 id=>K (.ref2 id)
 | .aptr2 id i=>K (.aptr2 id i)
 | .iref id i=>K (.iref id i)
 | .bnd f cs=>K (.bnd f cs)
theorem eZ {a:AV} {K:AV->Prop} (h:fA a K):K a:=by cases a<;>exact h
def pU (a:AV) (K:List AV->Prop):Prop :=
 match a with
 | .any | .tup _ | .cst _=>False
 | .agg cs=>K cs
 | a=>fA a fun a=>K [a]
theorem tM {a:AV} {K:List AV->Prop} (h:pU a K):∃ cs,a.cells=some cs/\K cs:=by cases a<;>first | exact h.elim | exact ⟨_,rfl,h⟩
def evsC (n:Nat) (l:List (Nat × AV)):List Operand->(List AV->Prop)->Prop
 | [],K=>K []
 | x::xs,K=>fA (evA n l x) fun a=>evsC n l xs fun as₀=>K (a::as₀)
theorem pT:∀ {xs:List Operand} {K:List AV->Prop},evsC n l xs K->K (xs.map (evA n l))
 | [],K,h=>h
 | x::xs,K,h=>pT (xs:=xs) (K:=fun as₀=>K (evA n l x::as₀)) (eZ (a:=evA n l x) (K:=fun a=>evsC n l xs fun as₀=>K (a::as₀)) h)
def ikN:IntKind->Nat
 | .i8=>0
 | .i16=>1
 | .i32=>2
 | .i64=>3
 | .u8=>4
 | .u16=>5
 | .u32=>6
 | .u64=>7
theorem AQ {a b:IntKind} (h:Nat.beq (ikN a) (ikN b)=true):a=b:=by cases a<;>cases b<;>first | rfl | cases h
def wLd (i:TI) (row:List AV) (off:Nat) (K:AV->Prop):Prop :=
 match i with
 | .no=>False
 | .ag _ m _=>aggC row off m fun cs=>K (.agg cs)
 | .ar _ m=>aggC row off m fun cs=>K (.agg cs)
 | _=>bV row off fun c=>fA c K
theorem ldA {t m:Nat} {row:List AV} {off:Nat} {K:AV->Prop} (hk:aS P t=some true) (hm:P.cellsOf t=m) (h:aggC row off m fun cs=>K (.agg cs)):b7 P t row off K:=by obtain ⟨h1,h2⟩:=zX h;simp only [b7,hk,hm];exact ⟨h1,h2⟩
theorem ld1 {t:Nat} {row:List AV} {off:Nat} {K:AV->Prop} (hk:aS P t=some false) (h:bV row off fun c=>fA c K):b7 P t row off K:=by obtain ⟨c,h1,h2⟩:=bK h;exact aH hk h1 (eZ h2)
theorem uG {t:Nat} {i:TI} {row:List AV} {off:Nat} {K:AV->Prop} (ht:TOk P t i) (h:wLd i row off K):b7 P t row off K:=by
 cases i with
 | no=>exact h.elim
 | ag z m fs=>exact ldA ht.1.1 ht.1.2.1 h
 | ar z m=>exact ldA ht.1 ht.2.1 h
 | s0=>exact ld1 ht.1 h
 | _=>exact ld1 ht.1.1 h
def wBin (tt:TT) (op:BinOp) (t:Nat) (a b:AV) (K:AV->Prop):Prop :=
 match a,b with
 | .int k x,.int k' y=>(match Nat.beq (ikN k) (ikN k') with
  | true=>(match op with
   | .add=>K (.int k (k.wrap (x+y)))
   | .sub=>K (.int k (k.wrap (x - y)))
   | .mul=>K (.int k (k.wrap (x*y)))
   | .and=>K (.int k (intBits .and k x y))
   | .or=>K (.int k (intBits .or k x y))
   | .xor=>K (.int k (intBits .xor k x y))
   | .eql=>K (.bool (x==y))
   | .neq=>K (.bool (x != y))
   | .lss=>K (.bool (decide (x<y)))
   | .leq=>K (.bool (decide (x<=y)))
   | .gtr=>K (.bool (decide (x > y)))
   | .geq=>K (.bool (decide (x >= y)))
   | _=>False)
  | false=>False)
 | .str x,.str y=>(match op with
  | .eql=>K (.bool (x==y))
  | .neq=>K (.bool (!(x==y)))
  | _=>False)
 | .bool x,.bool y=>(match tt.get t with
  | .bo=>(match op with
   | .eql=>K (.bool (x==y))
   | .neq=>K (.bool (!(x==y)))
   | _=>False)
  | _=>False)
 | _,_=>False
theorem Io {op:BinOp} {t:Nat} {a b:AV} {K:AV->Prop} (ht:tt.Ok P) (h:wBin tt op t a b K):fY P op t a b K:=by
 unfold wBin at h;split at h
 ·split at h
  ·rename_i hk;have:=AQ hk;subst this;split at h<;>first | exact ⟨trivial,h⟩ | exact ⟨rfl,h⟩ | exact h.elim
  ·exact h.elim
 ·split at h<;>first | exact h.elim | exact h
 ·split at h
  ·rename_i hb;have hu:=TT.get_ok ht t;rw [hb] at hu;have hu:=hu.2.2;split at h<;>first | exact h.elim | (simp only [fY,hu];exact h)
  ·exact h.elim
 ·exact h.elim
def fillC (n:Nat) (l:List (Nat × AV)) (fs:List (Nat × Nat × Nat)):List AV->List (Nat × Operand)->(List AV->Prop)->Prop
 | cells,[],K=>K cells
 | cells,(i,x)::ps,K=>bV fs i fun (o,sz,_)=>pU (evA n l x) fun vs=>lenC vs sz (splC cells o vs fun cs=>fillC n l fs cs ps K)
theorem zw {fs:List (Nat × Nat × Nat)}:∀ {ps:List (Nat × Operand)} {cells:List AV} {K:List AV->Prop},fillC n l fs cells ps K ->
  ∃ cs,gC (fun i=>(fs.map fun q=>(q.1,q.2.1))[i]?) cells (ps.map fun p=>(p.1,evA n l p.2))=some cs/\K cs
 | [],cells,K,h=>⟨cells,rfl,by cases cells<;>exact h⟩
 | (i,x)::ps,cells,K,h=>by
  have h:bV fs i fun q=>pU (evA n l x) fun vs=>lenC vs q.2.1 (splC cells q.1 vs fun cs=>fillC n l fs cs ps K):=by cases cells<;>exact h
  obtain ⟨q,h1,h⟩:=bK h;obtain ⟨vs,h2,h⟩:=tM h;obtain ⟨h3,h⟩:=r9 h;obtain ⟨h4,h⟩:=rW h;obtain ⟨cs,h5,h6⟩:=zw h;refine ⟨cs,?_,h6⟩;show gC _ cells ((i,evA n l x)::ps.map fun p=>(p.1,evA n l p.2))=_;have e1:(fs.map fun q=>(q.1,q.2.1))[i]?=some (q.1,q.2.1):=by rw [KA,h1];rfl
  unfold gC;simp only [e1,h2];rw [if_pos ⟨h3,by omega⟩];exact h5
def wB (tt:TT) (n:Nat) (l:List (Nat × AV)) (b:Builtin) (args:List Operand) (ats:List TypeId) (K:AV->Prop):Prop :=
 match b,args,ats with
 | .len,[x],[t]=>(match tt.get t,evA n l x with
  | .str,.str s=>K (.int .i64 s.length)
  | .sl _ _,.nils=>K (.int .i64 0)
  | _,_=>False)
 | .min,[x,y],_=>(match evA n l x,evA n l y with
  | .int k a,.int _ b=>K (.int k (if b<a then b else a))
  | _,_=>False)
 | .max,[x,y],_=>(match evA n l x,evA n l y with
  | .int k a,.int _ b=>K (.int k (if b > a then b else a))
  | _,_=>False)
 | _,_,_=>False
theorem wB_ok {b:Builtin} {args:List Operand} {ats:List TypeId} {K:AV->Prop} (ht:tt.Ok P) (h:wB tt n l b args ats K):vcB P (mkA n l) aw b args ats K:=by
 unfold wB at h;split at h
 ·rename_i x t;have hu:=TT.get_ok ht t;split at h
  ·rename_i s h1 h2;rw [h1] at hu;simp only [vcB,aD,hu.2.2,h2];exact h
  ·rename_i e c h1 h2;rw [h1] at hu;simp only [vcB,aD,hu.2.2.u,h2];exact h
  ·exact h.elim
 ·split at h
  ·rename_i h1 h2;simp only [vcB,aD,h1,h2];exact h
  ·exact h.elim
 ·split at h
  ·rename_i h1 h2;simp only [vcB,aD,h1,h2];exact h
  ·exact h.elim
 ·exact h.elim
def wV (tt:TT) (n:Nat) (l:List (Nat × AV)) (aw:List Ob) (op:Op) (K:AV->Prop):Prop :=
 match op with
 | .move x=>fA (evA n l x) K
 | .assign x=>fA (evA n l x) K
 | .pick c a b=>(match evA n l c,evA n l a,evA n l b with
  | .bool t,.bool x,.bool y=>K (.bool (if t then x else y))
  | .bool t,.int k x,.int k' y=>(match Nat.beq (ikN k) (ikN k') with
   | true=>K (.int k (if t then x else y))
   | false=>False)
  | _,_,_=>False)
 | .load t x=>(match evA n l x with
  | .ptr id off=>bV aw id fun o=>(match o with
   | .box cs=>wLd (tt.get t) cs off K
   | _=>False)
  | .elt row off=>wLd (tt.get t) row off K
  | _=>False)
 | .fieldAddr t x k=>(match tt.get t with
  | .ag _ _ fs=>bV fs k fun (o,_,_)=>(match evA n l x with
   | .ptr id off=>K (.ptr id (off+o))
   | .elt row off=>K (.elt row (off+o))
   | .aptr id s i off=>K (.aptr id s i (off+o))
   | _=>False)
  | _=>False)
 | .field t x k=>(match tt.get t,evA n l x with
  | .ag _ _ fs,.agg cs=>bV fs k fun (o,_,ft)=>wLd (tt.get ft) cs o K
  | _,_=>False)
 | .binOp op t x y _=>wBin tt op t (evA n l x) (evA n l y) K
 | .unOp op _ x=>(match op,evA n l x with
  | .not,.bool b=>K (.bool (!b))
  | .neg,.int k a=>K (.int k (k.wrap (0 - a)))
  | _,_=>False)
 | .convert s t x=>(match evA n l x with
  | .int _ a=>(match tt.get s,tt.get t with
   | .it _,.it k=>K (.int k (k.wrap a))
   | _,_=>False)
  | _=>False)
 | .makeFunc (.func f) first caps=>(match first.toList with
  | []=>evsC n l caps.toList fun cs=>K (.func f cs)
  | x::xs=>(match caps.toList with
   | []=>evsC n l (x::xs) fun cs=>K (.bnd f cs)
   | _=>False))
 | .build t parts=>(match tt.get t with
  | .ag z _ fs=>fillC n l fs z parts.toList fun cs=>K (.agg cs)
  | _=>False)
 | .extract x k=>(match evA n l x with
  | .tup vs=>bV vs k fun v=>fA v K
  | _=>False)
 | .nilCheck x=>(match evA n l x with
  | .ptr id off=>K (.ptr id off)
  | .elt row off=>K (.elt row off)
  | .aptr id s i off=>K (.aptr id s i off)
  | .func f cs=>K (.func f cs)
  | .bnd f cs=>K (.bnd f cs)
  | _=>False)
 | .call c=>(match c.callee with
  | .builtin b=>wB tt n l b c.args.toList c.argTypes.toList K
  | _=>False)
 | _=>False
theorem wV_ok {op:Op} {K:AV->Prop} (ht:tt.Ok P) (h:wV tt n l aw op K):vcQ P (mkA n l) aw op K:=by
 cases op with
 | move x=>exact dP rfl (eZ h)
 | assign x=>exact cn rfl (eZ h)
 | pick c a b =>
  simp only [wV] at h;split at h
  ·rename_i h1 h2 h3;exact sr h1 (by rw [h2,h3];rfl) h
  ·rename_i h1 h2 h3;split at h
   ·rename_i hk;have:=AQ hk;subst this;exact sr h1 (by rw [h2,h3];simp only [pickV,if_true]) h
   ·exact h.elim
  ·exact h.elim
 | load t x =>
  simp only [wV] at h;split at h
  ·rename_i h1;obtain ⟨o,h2,h⟩:=bK h;split at h
   ·exact gb h1 h2 (uG (TT.get_ok ht t) h)
   ·exact h.elim
  ·rename_i h1;exact EF h1 (uG (TT.get_ok ht t) h)
  ·exact h.elim
 | fieldAddr t x k =>
  simp only [wV] at h;have hu:=TT.get_ok ht t;split at h
  ·rename_i z m fs h0;rw [h0] at hu;obtain ⟨q,h1,h⟩:=bK h;have hF:=uE hu.2.2 h1;rw [Ln] at hF;split at h
   ·rename_i h2;exact C8 hF h2 rfl h
   ·rename_i h2;exact C6 hF h2 rfl h
   ·rename_i h2;exact CX hF h2 rfl h
   ·exact h.elim
  ·exact h.elim
 | field t x k =>
  simp only [wV] at h;have hu:=TT.get_ok ht t;split at h
  ·rename_i z m fs cs h0 h2;rw [h0] at hu;obtain ⟨q,h1,h⟩:=bK h;have hF:=uE hu.2.2 h1;rw [Ln] at hF;exact G7 hF h2 (uG (TT.get_ok ht _) h)
  ·exact h.elim
 | binOp op t x y yt =>
  have:=Io ht h;simp only [vcQ,aD];exact this
 | unOp op t x =>
  simp only [wV] at h;split at h
  ·rename_i h1;exact v_not h1 h
  ·rename_i h1;exact v_neg h1 h
  ·exact h.elim
 | convert s t x =>
  simp only [wV] at h;split at h
  ·rename_i h1;have hu:=TT.get_ok ht t;have hs:=TT.get_ok ht s;split at h
   ·rename_i h2 h3;rw [h2] at hs;rw [h3] at hu;exact IL hs.2.2 hu.2.2 h1 h
   ·exact h.elim
  ·exact h.elim
 | makeFunc f first caps =>
  cases f with
  | func f =>
   simp only [wV] at h;split at h
   ·rename_i h1;have:first=#[]:=by cases first;simp at h1;subst h1;rfl
    subst this;exact rj rfl (pT h)
   ·rename_i x xs h1;split at h
    ·rename_i h2;have h3:first=(x::xs).toArray:=by cases first;simp at h1;subst h1;rfl
     have h4:caps=#[]:=by cases caps;simp at h2;subst h2;rfl
     subst h3 h4;exact v_bnd rfl (pT h)
    ·exact h.elim
  | _=>exact h.elim
 | build t parts =>
  simp only [wV] at h;have hu:=TT.get_ok ht t;split at h
  ·rename_i z m fs h0;rw [h0] at hu;obtain ⟨cs,h1,h2⟩:=zw h;exact AL hu.1.2.2.2.1 hu.2.1 h1 h2
  ·exact h.elim
 | extract x k =>
  simp only [wV] at h;split at h
  ·rename_i h1;obtain ⟨v,h2,h⟩:=bK h;exact EQ h1 h2 (eZ h)
  ·exact h.elim
 | nilCheck x =>
  simp only [wV] at h;split at h
  ·rename_i h1;exact ET h1 h
  ·rename_i h1;exact Fv h1 h
  ·rename_i h1;exact Ee h1 h
  ·rename_i h1;exact Eu h1 h
  ·rename_i h1;exact Fm h1 h
  ·exact h.elim
 | call c =>
  obtain ⟨cal,as₀,ts⟩:=c;cases cal with
  | builtin b=>exact wB_ok ht h
  | _=>exact h.elim
 | _=>exact h.elim
theorem It {op:Op} {K:AV->Prop} (h:wV tt n l aw op K):isQ (mkA n l) op=true:=by
 cases op with
 | load t x =>
  simp only [wV] at h;simp only [isQ,aD];split at h
  ·rename_i h1;rw [h1]
  ·rename_i h1;rw [h1]
  ·exact h.elim
 | convert s t x =>
  simp only [wV] at h;simp only [isQ,aD];split at h
  ·rename_i h1;rw [h1]
  ·exact h.elim
 | call c =>
  obtain ⟨cal,as₀,ts⟩:=c;cases cal with
  | builtin b =>
   simp only [wV,wB] at h;split at h<;>first | rfl | exact h.elim
  | _=>exact h.elim
 | _=>first | rfl | exact h.elim
theorem OP.wV {o:Oper} {K:AV->List Ob->Prop} (ht:tt.Ok P) (h:wV tt n l aw o.op fun r=>K r aw):OP P N o (mkA n l) aw K:=by
 refine OP.of_vc ?_;have h1:=It h;have h2:=wV_ok ht h;obtain ⟨d,op,ty,ps,af,g⟩:=o;have key:fZ P (mkA n l) aw op K:=by unfold fZ;rw [if_pos h1];exact h2
 cases op with
 | call c =>
  obtain ⟨cal,as₀,ts⟩:=c;cases cal with
  | builtin b=>exact key
  | _=>exact (show False from h).elim
 | _=>exact key
def wE (tt:TT) (n:Nat) (l:List (Nat × AV)) (aw:List Ob) (c:Nat) (op:Op) (K:AV->List Ob->Nat->Prop):Prop :=
  match op with
  | .alloc e=>(match (tt.get e).zero with
    | some z=>pushC aw (.box z) fun aw=>K (.ptr c 0) aw (c+1)
    | none=>False)
  | .box _ x=>pU (evA n l x) fun cs=>pushC aw (.box cs) fun aw=>K (.ptr c 0) aw (c+1)
  | .store t x y=>(match evA n l x with
    | .ptr id off=>(match (tt.get t).size with
      | some m=>pU (evA n l y) fun vs=>lenC vs m (bV aw id fun o=>(match o with
        | .box cs=>putC cs off vs fun cs=>setC aw id (.box cs) fun aw=>K .any aw c
        | _=>False))
      | none=>False)
    | _=>False)
  | op=>wV tt n l aw op fun r=>K r aw c
theorem OP.mono {o:Oper} {fr:List AV} {K K':AV->List Ob->Prop} (h:OP P N o fr aw K) (hm:∀ r aw',K r aw'->K' r aw'):OP P N o fr aw K' :=
 ⟨fun st h1 h2 σ w F a hc Kc Q hk=>h.out st h1 h2 σ w F a hc Kc Q fun r aw' σ' w' F' v hK=>hk r aw' σ' w' F' v (hm r aw' hK)⟩
theorem wE_ok {o:Oper} {c:Nat} {K:AV->List Ob->Nat->Prop} (ht:tt.Ok P) (hc:aw.length=c) (h:wE tt n l aw c o.op K):OP P N o (mkA n l) aw fun r aw'=>K r aw' aw'.length:=by
 obtain ⟨d,op,ty,ps,af,g⟩:=o;subst hc;have q:wV tt n l aw op (fun r=>K r aw aw.length)->OP P N ⟨d,op,ty,ps,af,g⟩ (mkA n l) aw fun r aw'=>K r aw' aw'.length:=fun h=>OP.wV ht h
 cases op with
 | alloc e =>
  simp only [wE] at h;split at h
  ·rename_i z hz;have:=lp h;exact Hz (TI.zero_ok (TT.get_ok ht e) hz) rfl rfl (by simpa using this)
  ·exact h.elim
 | box e x =>
  obtain ⟨cs,h1,h2⟩:=tM h;have:=lp h2;exact o_box h1 rfl rfl (by simpa using this)
 | store t x y =>
  simp only [wE] at h;split at h
  ·rename_i h1;split at h
   ·rename_i m hm;obtain ⟨vs,h2,h⟩:=tM h;obtain ⟨h3,h⟩:=r9 h;obtain ⟨o,h4,h⟩:=bK h;split at h
    ·obtain ⟨h5,h⟩:=Hf h;have h:=g8 h;have hs:=TI.size_ok (TT.get_ok ht t) hm;exact DS hs.1 hs.2 h1 h2 h3 h4 (Nat.ble_eq_true_of_le (by omega)) rfl rfl (by simpa [splice] using h)
    ·exact h.elim
   ·exact h.elim
  ·exact h.elim
 | _=>exact q h
def wR (tt:TT) (n:Nat):Nat->List Oper->List (Nat × AV)->List Ob->Nat->(List Oper->List (Nat × AV)->List Ob->Prop)->Prop
 | 0,os,l,aw,_,K=>K os l aw
 | _+1,[],_,_,_,_=>False
 | m+1,o::os,l,aw,c,K=>(match o.guard with
  | none=>wE tt n l aw c o.op fun r aw c=>(match o.dst with
   | some t=>wR tt n m os ((t,r)::l) aw c K
   | none=>wR tt n m os l aw c K)
  | some _=>False)
theorem RS.go (ht:tt.Ok P) {ops:Array Oper} {K:List AV->List Ob->Prop}:∀ {m:Nat} {os:List Oper} {l:List (Nat × AV)} {aw:List Ob} {c:Nat},aw.length=c->wR tt n m os l aw c (fun os l aw=>RS P N ops os K (mkA n l) aw)->RS P N ops os K (mkA n l) aw
 | 0,os,l,aw,c,hc,h=>by cases os<;>exact h
 | _+1,[],_,_,_,_,h=>h.elim
 | m+1,o::os,l,aw,c,hc,h=>by
  simp only [wR] at h;split at h
  ·rename_i hg;refine RS.op hg ((wE_ok ht hc h).mono fun r aw' h=>?_);split at h
   ·rename_i t hd;rw [hd];exact RS.go ht rfl h
   ·rename_i hd;rw [hd];exact RS.go ht rfl h
  ·exact h.elim
def okQ (ops:Array Oper):Array Bool->List Nat->Bool
 | _,[]=>true
 | li,i::is=>Region.free .any ops li i && (Region.ready .any ops li).contains i && (match ops.toList[i]? with
  | some o=>iO o.op && o.guard.isNone
  | none=>false) && okQ ops (li.setIfInBounds i true) is
def lisQ:Array Bool->List Nat->Array Bool
 | li,[]=>li
 | li,i::is=>lisQ (li.setIfInBounds i true) is
def wQ (tt:TT) (n:Nat) (ops:List Oper):List Nat->List (Nat × AV)->List Ob->(List (Nat × AV)->Prop)->Prop
 | [],l,aw,K=>K l
 | i::is,l,aw,K=>bV ops i fun o=>wV tt n l aw o.op fun r=>(match o.dst with
  | some t=>wQ tt n ops is ((t,r)::l) aw K
  | none=>wQ tt n ops is l aw K)
theorem RA.qs (ht:tt.Ok P) {ops:Array Oper} {K:List AV->List Ob->Prop} (hs:Region.noSelect ops=true) {k':Nat}:∀ {is:List Nat} {k:Nat} {li:Array Bool} {l:List (Nat × AV)},k=k' + is.length->okQ ops li is=true ->
  wQ tt n ops.toList is l aw (fun l=>RA P N ops k' (lisQ li is) K (mkA n l) aw)->RA P N ops k li K (mkA n l) aw
 | [],k,li,l,hk,_,h=>by have:k=k':=hk;subst this;exact h
 | i::is,k,li,l,hk,ho,h=>by
  obtain ⟨o,h1,h⟩:=bK h;have h1':ops[i]?=some o:=by simpa using h1
  unfold okQ at ho;rw [h1] at ho;simp only [Ly] at ho;obtain ⟨⟨⟨ho1,ho2⟩,ho3,ho4⟩,ho5⟩:=ho;have hg:o.guard=none:=by cases hg:o.guard<;>simp_all
  have hk:k=(k' + is.length)+1:=by rw [hk,KH];omega
  subst hk;refine ⟨fun st e1 e2 σ w F a hc R hR=>?_⟩;obtain ⟨v,r,hrun,hrel,hk⟩:=nw hc ho3 (wV_ok ht h);refine wpAny_take h1' hs ho1 ho2 (fun c a w hp=>hp) (.inl ⟨by simp [Region.wanted,hg],hrun⟩) ?_;have hput:=dm hc hrel o.dst;rw [dl] at hput;refine RA.out ?_ st e1 e2 σ w F _ hput R hR;split at hk
  ·rename_i t hd;rw [hd];exact RA.qs ht hs rfl ho5 hk
  ·rename_i hd;rw [hd];exact RA.qs ht hs rfl ho5 hk
theorem RO.g (ht:tt.Ok P) {ops:Array Oper} {i c:Nat} {K:List AV->List Ob->Prop} (hc:aw.length=c)
  (h:bV ops.toList i fun o=>o.guard=none/\wE tt n l aw c o.op fun r aw c=>(match o.dst with
   | some t=>K (mkA n ((t,r)::l)) aw
   | none=>K (mkA n l) aw)):RO P N ops i K (mkA n l) aw:=by
 obtain ⟨o,h1,hg,h⟩:=bK h
 refine RO.op (by simpa using h1) hg ((wE_ok ht hc h).mono fun r aw' h=>?_)
 split at h
 ·rename_i t hd
  rw [hd];exact h
 ·rename_i hd
  rw [hd];exact h
end
end
section
open Go.RowKit
set_option maxRecDepth 100000
theorem Ty.c1:Tryz.prog.cellsOf 1=1:=by kernel_rfl
theorem Ty.b1:Tryz.prog.bytesOf 1=8:=by kernel_rfl
theorem Ty.k1:aS Tryz.prog 1=some false:=by kernel_rfl
theorem Ty.z1:aJ Tryz.prog 1=some [.nilf]:=by kernel_rfl
theorem Ty.c2:Tryz.prog.cellsOf 2=1:=by kernel_rfl
theorem Ty.b2:Tryz.prog.bytesOf 2=8:=by kernel_rfl
theorem Ty.k2:aS Tryz.prog 2=some false:=by kernel_rfl
theorem Ty.z2:aJ Tryz.prog 2=some [.int .i64 0]:=by kernel_rfl
theorem Ty.c3:Tryz.prog.cellsOf 3=1:=by kernel_rfl
theorem Ty.b3:Tryz.prog.bytesOf 3=8:=by kernel_rfl
theorem Ty.k3:aS Tryz.prog 3=some false:=by kernel_rfl
theorem Ty.z3:aJ Tryz.prog 3=some [.int .i64 0]:=by kernel_rfl
theorem Ty.c4:Tryz.prog.cellsOf 4=1:=by kernel_rfl
theorem Ty.b4:Tryz.prog.bytesOf 4=1:=by kernel_rfl
theorem Ty.k4:aS Tryz.prog 4=some false:=by kernel_rfl
theorem Ty.z4:aJ Tryz.prog 4=some [.bool false]:=by kernel_rfl
theorem Ty.c5:Tryz.prog.cellsOf 5=1:=by kernel_rfl
theorem Ty.b5:Tryz.prog.bytesOf 5=1:=by kernel_rfl
theorem Ty.k5:aS Tryz.prog 5=some false:=by kernel_rfl
theorem Ty.z5:aJ Tryz.prog 5=some [.int .u8 0]:=by kernel_rfl
theorem Ty.c6:Tryz.prog.cellsOf 6=1:=by kernel_rfl
theorem Ty.c7:Tryz.prog.cellsOf 7=4:=by kernel_rfl
theorem Ty.k7:aS Tryz.prog 7=some true:=by kernel_rfl
theorem Ty.z7:aJ Tryz.prog 7=some [.int .i64 0,.int .i64 0,.bool false,.int .u8 0]:=by kernel_rfl
theorem Ty.p7:ca Tryz.prog 7=some [(0,1),(1,1),(2,1),(3,1)]:=by kernel_rfl
theorem Ty.c8:Tryz.prog.cellsOf 8=4:=by kernel_rfl
theorem Ty.k8:aS Tryz.prog 8=some true:=by kernel_rfl
theorem Ty.z8:aJ Tryz.prog 8=some [.int .i64 0,.int .i64 0,.bool false,.int .u8 0]:=by kernel_rfl
theorem Ty.p8:ca Tryz.prog 8=some [(0,1),(1,1),(2,1),(3,1)]:=by kernel_rfl
theorem Ty.c9:Tryz.prog.cellsOf 9=1:=by kernel_rfl
theorem Ty.b9:Tryz.prog.bytesOf 9=16:=by kernel_rfl
theorem Ty.k9:aS Tryz.prog 9=some false:=by kernel_rfl
theorem Ty.z9:aJ Tryz.prog 9=some [.str []]:=by kernel_rfl
theorem Ty.c10:Tryz.prog.cellsOf 10=1:=by kernel_rfl
theorem Ty.k10:aS Tryz.prog 10=some false:=by kernel_rfl
theorem Ty.z10:aJ Tryz.prog 10=some [.str []]:=by kernel_rfl
theorem Ty.c11:Tryz.prog.cellsOf 11=1:=by kernel_rfl
theorem Ty.z11:aJ Tryz.prog 11=some [.str []]:=by kernel_rfl
theorem Ty.c12:Tryz.prog.cellsOf 12=1:=by kernel_rfl
theorem Ty.k12:aS Tryz.prog 12=some false:=by kernel_rfl
theorem Ty.z12:aJ Tryz.prog 12=some [.int .u64 0]:=by kernel_rfl
theorem Ty.c13:Tryz.prog.cellsOf 13=2:=by kernel_rfl
theorem Ty.p13:ca Tryz.prog 13=some [(0,1),(1,1)]:=by kernel_rfl
theorem Ty.c14:Tryz.prog.cellsOf 14=2:=by kernel_rfl
theorem Ty.z14:aJ Tryz.prog 14=some [.str [],.int .u64 0]:=by kernel_rfl
theorem Ty.p14:ca Tryz.prog 14=some [(0,1),(1,1)]:=by kernel_rfl
theorem Ty.c15:Tryz.prog.cellsOf 15=1:=by kernel_rfl
theorem Ty.k15:aS Tryz.prog 15=some false:=by kernel_rfl
theorem Ty.z15:aJ Tryz.prog 15=some [.nilp]:=by kernel_rfl
theorem Ty.c16:Tryz.prog.cellsOf 16=1:=by kernel_rfl
theorem Ty.k16:aS Tryz.prog 16=some false:=by kernel_rfl
theorem Ty.z16:aJ Tryz.prog 16=some [.nilp]:=by kernel_rfl
theorem Ty.c17:Tryz.prog.cellsOf 17=1:=by kernel_rfl
theorem Ty.z17:aJ Tryz.prog 17=some [.nilp]:=by kernel_rfl
theorem Ty.c18:Tryz.prog.cellsOf 18=1:=by kernel_rfl
theorem Ty.k18:aS Tryz.prog 18=some true:=by kernel_rfl
theorem Ty.z18:aJ Tryz.prog 18=some [.nilp]:=by kernel_rfl
theorem Ty.p18:ca Tryz.prog 18=some [(0,1)]:=by kernel_rfl
theorem Ty.c21:Tryz.prog.cellsOf 21=1:=by kernel_rfl
theorem Ty.c22:Tryz.prog.cellsOf 22=1:=by kernel_rfl
theorem Ty.k22:aS Tryz.prog 22=some false:=by kernel_rfl
theorem Ty.z22:aJ Tryz.prog 22=some [.nils]:=by kernel_rfl
theorem Ty.c23:Tryz.prog.cellsOf 23=3:=by kernel_rfl
theorem Ty.k23:aS Tryz.prog 23=some true:=by kernel_rfl
theorem Ty.z23:aJ Tryz.prog 23=some [.nils,.int .i64 0,.int .i64 0]:=by kernel_rfl
theorem Ty.p23:ca Tryz.prog 23=some [(0,1),(1,1),(2,1)]:=by kernel_rfl
theorem Ty.c24:Tryz.prog.cellsOf 24=3:=by kernel_rfl
theorem Ty.k24:aS Tryz.prog 24=some true:=by kernel_rfl
theorem Ty.z24:aJ Tryz.prog 24=some [.nils,.int .i64 0,.int .i64 0]:=by kernel_rfl
theorem Ty.p24:ca Tryz.prog 24=some [(0,1),(1,1),(2,1)]:=by kernel_rfl
theorem Ty.c25:Tryz.prog.cellsOf 25=1:=by kernel_rfl
theorem Ty.k25:aS Tryz.prog 25=some false:=by kernel_rfl
theorem Ty.z25:aJ Tryz.prog 25=some [.nils]:=by kernel_rfl
theorem Ty.c27:Tryz.prog.cellsOf 27=1:=by kernel_rfl
theorem Ty.k27:aS Tryz.prog 27=some false:=by kernel_rfl
theorem Ty.z27:aJ Tryz.prog 27=some [.nils]:=by kernel_rfl
theorem Ty.c28:Tryz.prog.cellsOf 28=1:=by kernel_rfl
theorem Ty.k28:aS Tryz.prog 28=some false:=by kernel_rfl
theorem Ty.z28:aJ Tryz.prog 28=some [.nils]:=by kernel_rfl
theorem Ty.c29:Tryz.prog.cellsOf 29=1:=by kernel_rfl
theorem Ty.k29:aS Tryz.prog 29=some false:=by kernel_rfl
theorem Ty.z29:aJ Tryz.prog 29=some [.nils]:=by kernel_rfl
theorem Ty.c30:Tryz.prog.cellsOf 30=1:=by kernel_rfl
theorem Ty.b30:Tryz.prog.bytesOf 30=24:=by kernel_rfl
theorem Ty.k30:aS Tryz.prog 30=some false:=by kernel_rfl
theorem Ty.z30:aJ Tryz.prog 30=some [.nils]:=by kernel_rfl
theorem Ty.z31:aJ Tryz.prog 31=some [.nils,.nils,.nils,.nils,.nils]:=by kernel_rfl
theorem Ty.c32:Tryz.prog.cellsOf 32=5:=by kernel_rfl
theorem Ty.k32:aS Tryz.prog 32=some true:=by kernel_rfl
theorem Ty.z32:aJ Tryz.prog 32=some [.nils,.nils,.nils,.nils,.nils]:=by kernel_rfl
theorem Ty.p32:ca Tryz.prog 32=some [(0,1),(1,1),(2,1),(3,1),(4,1)]:=by kernel_rfl
theorem Ty.c33:Tryz.prog.cellsOf 33=1:=by kernel_rfl
theorem Ty.k33:aS Tryz.prog 33=some false:=by kernel_rfl
theorem Ty.z33:aJ Tryz.prog 33=some [.nils]:=by kernel_rfl
theorem Ty.c34:Tryz.prog.cellsOf 34=1:=by kernel_rfl
theorem Ty.k34:aS Tryz.prog 34=some false:=by kernel_rfl
theorem Ty.z34:aJ Tryz.prog 34=some [.nils]:=by kernel_rfl
theorem Ty.c35:Tryz.prog.cellsOf 35=2:=by kernel_rfl
theorem Ty.k35:aS Tryz.prog 35=some true:=by kernel_rfl
theorem Ty.z35:aJ Tryz.prog 35=some [.nils,.nils]:=by kernel_rfl
theorem Ty.p35:ca Tryz.prog 35=some [(0,1),(1,1)]:=by kernel_rfl
theorem Ty.c36:Tryz.prog.cellsOf 36=2:=by kernel_rfl
theorem Ty.k36:aS Tryz.prog 36=some true:=by kernel_rfl
theorem Ty.z36:aJ Tryz.prog 36=some [.nils,.nils]:=by kernel_rfl
theorem Ty.p36:ca Tryz.prog 36=some [(0,1),(1,1)]:=by kernel_rfl
theorem Ty.z37:aJ Tryz.prog 37=some [.nils,.int .i64 0,.int .i64 0,.nils,.nils,.nils,.nils,.nils,.nils,.nils,.nils,.int .i64 0,.int .i64 0,.int .i64 0,.int .i64 0,.int .i64 0,.nils,.bool false]:=by kernel_rfl
theorem Ty.c38:Tryz.prog.cellsOf 38=18:=by kernel_rfl
theorem Ty.k38:aS Tryz.prog 38=some true:=by kernel_rfl
theorem Ty.z38:aJ Tryz.prog 38=some [.nils,.int .i64 0,.int .i64 0,.nils,.nils,.nils,.nils,.nils,.nils,.nils,.nils,.int .i64 0,.int .i64 0,.int .i64 0,.int .i64 0,.int .i64 0,.nils,.bool false]:=by kernel_rfl
theorem Ty.p38:ca Tryz.prog 38=some [(0,3),(3,1),(4,5),(9,2),(11,1),(12,1),(13,1),(14,1),(15,1),(16,1),(17,1)]:=by kernel_rfl
theorem Ty.c39:Tryz.prog.cellsOf 39=1:=by kernel_rfl
theorem Ty.b39:Tryz.prog.bytesOf 39=8:=by kernel_rfl
theorem Ty.k39:aS Tryz.prog 39=some false:=by kernel_rfl
theorem Ty.z39:aJ Tryz.prog 39=some [.int .i64 0]:=by kernel_rfl
theorem Ty.z41:aJ Tryz.prog 41=some [.nilf]:=by kernel_rfl
theorem Ty.c42:Tryz.prog.cellsOf 42=1:=by kernel_rfl
theorem Ty.k42:aS Tryz.prog 42=some false:=by kernel_rfl
theorem Ty.z42:aJ Tryz.prog 42=some [.nilf]:=by kernel_rfl
theorem Ty.z43:aJ Tryz.prog 43=some [.int .i64 0,.int .i64 0]:=by kernel_rfl
theorem Ty.c44:Tryz.prog.cellsOf 44=2:=by kernel_rfl
theorem Ty.b44:Tryz.prog.bytesOf 44=16:=by kernel_rfl
theorem Ty.k44:aS Tryz.prog 44=some true:=by kernel_rfl
theorem Ty.z44:aJ Tryz.prog 44=some [.int .i64 0,.int .i64 0]:=by kernel_rfl
theorem Ty.p44:ca Tryz.prog 44=some [(0,1),(1,1)]:=by kernel_rfl
theorem Ty.c45:Tryz.prog.cellsOf 45=1:=by kernel_rfl
theorem Ty.k45:aS Tryz.prog 45=some false:=by kernel_rfl
theorem Ty.z45:aJ Tryz.prog 45=some [.nilf]:=by kernel_rfl
theorem Ty.z46:aJ Tryz.prog 46=some [.nilf]:=by kernel_rfl
theorem Ty.z47:aJ Tryz.prog 47=some [.nilf]:=by kernel_rfl
theorem Ty.z48:aJ Tryz.prog 48=some [.nilf]:=by kernel_rfl
theorem Ty.c50:Tryz.prog.cellsOf 50=2:=by kernel_rfl
theorem Ty.b50:Tryz.prog.bytesOf 50=16:=by kernel_rfl
theorem Ty.k50:aS Tryz.prog 50=some true:=by kernel_rfl
theorem Ty.z50:aJ Tryz.prog 50=some [.int .i64 0,.int .i64 0]:=by kernel_rfl
theorem Ty.p50:ca Tryz.prog 50=some [(0,1),(1,1)]:=by kernel_rfl
theorem Ty.c52:Tryz.prog.cellsOf 52=1:=by kernel_rfl
theorem Ty.k52:aS Tryz.prog 52=some false:=by kernel_rfl
theorem Ty.z52:aJ Tryz.prog 52=some [.nils]:=by kernel_rfl
theorem Ty.c54:Tryz.prog.cellsOf 54=1:=by kernel_rfl
theorem Ty.k54:aS Tryz.prog 54=some false:=by kernel_rfl
theorem Ty.z54:aJ Tryz.prog 54=some [.nilf]:=by kernel_rfl
theorem Ty.c64:Tryz.prog.cellsOf 64=1:=by kernel_rfl
theorem Ty.k64:aS Tryz.prog 64=some false:=by kernel_rfl
theorem Ty.z64:aJ Tryz.prog 64=some [.nilf]:=by kernel_rfl
theorem Ty.c67:Tryz.prog.cellsOf 67=1:=by kernel_rfl
theorem Ty.k67:aS Tryz.prog 67=some false:=by kernel_rfl
theorem Ty.z67:aJ Tryz.prog 67=some [.nilf]:=by kernel_rfl
theorem Ty.c68:Tryz.prog.cellsOf 68=1:=by kernel_rfl
theorem Ty.k68:aS Tryz.prog 68=some false:=by kernel_rfl
theorem Ty.z68:aJ Tryz.prog 68=some [.nilf]:=by kernel_rfl
theorem Ty.c69:Tryz.prog.cellsOf 69=1:=by kernel_rfl
theorem Ty.k69:aS Tryz.prog 69=some false:=by kernel_rfl
theorem Ty.z69:aJ Tryz.prog 69=some [.any]:=by kernel_rfl
theorem Ty.c74:Tryz.prog.cellsOf 74=3:=by kernel_rfl
theorem Ty.k74:aS Tryz.prog 74=some true:=by kernel_rfl
theorem Ty.z74:aJ Tryz.prog 74=some [.int .i64 0,.int .i64 0,.int .i64 0]:=by kernel_rfl
theorem Ty.p74:ca Tryz.prog 74=some [(0,1),(1,1),(2,1)]:=by kernel_rfl
theorem Ty.c75:Tryz.prog.cellsOf 75=3:=by kernel_rfl
theorem Ty.b75:Tryz.prog.bytesOf 75=24:=by kernel_rfl
theorem Ty.k75:aS Tryz.prog 75=some true:=by kernel_rfl
theorem Ty.z75:aJ Tryz.prog 75=some [.int .i64 0,.int .i64 0,.int .i64 0]:=by kernel_rfl
theorem Ty.p75:ca Tryz.prog 75=some [(0,1),(1,1),(2,1)]:=by kernel_rfl
theorem Ty.c76:Tryz.prog.cellsOf 76=1:=by kernel_rfl
theorem Ty.k76:aS Tryz.prog 76=some false:=by kernel_rfl
theorem Ty.z76:aJ Tryz.prog 76=some [.nilf]:=by kernel_rfl
theorem Ty.c78:Tryz.prog.cellsOf 78=1:=by kernel_rfl
theorem Ty.k78:aS Tryz.prog 78=some false:=by kernel_rfl
theorem Ty.z78:aJ Tryz.prog 78=some [.nilf]:=by kernel_rfl
theorem Ty.c79:Tryz.prog.cellsOf 79=1:=by kernel_rfl
theorem Ty.k79:aS Tryz.prog 79=some false:=by kernel_rfl
theorem Ty.z79:aJ Tryz.prog 79=some [.nilf]:=by kernel_rfl
theorem Ty.c82:Tryz.prog.cellsOf 82=1:=by kernel_rfl
theorem Ty.k82:aS Tryz.prog 82=some false:=by kernel_rfl
theorem Ty.z82:aJ Tryz.prog 82=some [.nils]:=by kernel_rfl
theorem Ty.c84:Tryz.prog.cellsOf 84=3:=by kernel_rfl
theorem Ty.b84:Tryz.prog.bytesOf 84=40:=by kernel_rfl
theorem Ty.k84:aS Tryz.prog 84=some true:=by kernel_rfl
theorem Ty.z84:aJ Tryz.prog 84=some [.int .i64 0,.nils,.int .i64 0]:=by kernel_rfl
theorem Ty.p84:ca Tryz.prog 84=some [(0,1),(1,1),(2,1)]:=by kernel_rfl
theorem Ty.c90:Tryz.prog.cellsOf 90=4:=by kernel_rfl
theorem Ty.b90:Tryz.prog.bytesOf 90=64:=by kernel_rfl
theorem Ty.k90:aS Tryz.prog 90=some true:=by kernel_rfl
theorem Ty.z90:aJ Tryz.prog 90=some [.int .i64 0,.int .i64 0,.nils,.nils]:=by kernel_rfl
theorem Ty.p90:ca Tryz.prog 90=some [(0,1),(1,1),(2,1),(3,1)]:=by kernel_rfl
theorem Ty.c97:Tryz.prog.cellsOf 97=2:=by kernel_rfl
theorem Ty.b97:Tryz.prog.bytesOf 97=16:=by kernel_rfl
theorem Ty.k97:aS Tryz.prog 97=some true:=by kernel_rfl
theorem Ty.z97:aJ Tryz.prog 97=some [.int .i64 0,.int .i64 0]:=by kernel_rfl
theorem Ty.p97:ca Tryz.prog 97=some [(0,1),(1,1)]:=by kernel_rfl
theorem Ty.c132:Tryz.prog.cellsOf 132=2:=by kernel_rfl
theorem Ty.b132:Tryz.prog.bytesOf 132=24:=by kernel_rfl
theorem Ty.k132:aS Tryz.prog 132=some true:=by kernel_rfl
theorem Ty.z132:aJ Tryz.prog 132=some [.int .i64 0,.str []]:=by kernel_rfl
theorem Ty.p132:ca Tryz.prog 132=some [(0,1),(1,1)]:=by kernel_rfl
theorem Ty.c139:Tryz.prog.cellsOf 139=2:=by kernel_rfl
theorem Ty.b139:Tryz.prog.bytesOf 139=16:=by kernel_rfl
theorem Ty.k139:aS Tryz.prog 139=some true:=by kernel_rfl
theorem Ty.z139:aJ Tryz.prog 139=some [.int .i64 0,.int .i64 0]:=by kernel_rfl
theorem Ty.p139:ca Tryz.prog 139=some [(0,1),(1,1)]:=by kernel_rfl
theorem Ty.c152:Tryz.prog.cellsOf 152=1:=by kernel_rfl
theorem Ty.k152:aS Tryz.prog 152=some false:=by kernel_rfl
theorem Ty.c155:Tryz.prog.cellsOf 155=1:=by kernel_rfl
theorem Ty.c157:Tryz.prog.cellsOf 157=2:=by kernel_rfl
theorem Ty.k157:aS Tryz.prog 157=some true:=by kernel_rfl
theorem Ty.z157:aJ Tryz.prog 157=some [.nilp,.nils]:=by kernel_rfl
theorem Ty.p157:ca Tryz.prog 157=some [(0,1),(1,1)]:=by kernel_rfl
theorem Ty.c159:Tryz.prog.cellsOf 159=2:=by kernel_rfl
theorem Ty.k159:aS Tryz.prog 159=some true:=by kernel_rfl
theorem Ty.z159:aJ Tryz.prog 159=some [.nilp,.nils]:=by kernel_rfl
theorem Ty.p159:ca Tryz.prog 159=some [(0,2)]:=by kernel_rfl
theorem Ty.c173:Tryz.prog.cellsOf 173=0:=by kernel_rfl
theorem Ty.k173:aS Tryz.prog 173=some true:=by kernel_rfl
theorem Ty.z173:aJ Tryz.prog 173=some []:=by kernel_rfl
theorem Ty.p173:ca Tryz.prog 173=some []:=by kernel_rfl
theorem Ty.c175:Tryz.prog.cellsOf 175=1:=by kernel_rfl
theorem Ty.k175:aS Tryz.prog 175=some false:=by kernel_rfl
theorem Ty.z175:aJ Tryz.prog 175=some [.nilp]:=by kernel_rfl
theorem Ty.c177:Tryz.prog.cellsOf 177=1:=by kernel_rfl
theorem Ty.k177:aS Tryz.prog 177=some true:=by kernel_rfl
theorem Ty.z177:aJ Tryz.prog 177=some [.str []]:=by kernel_rfl
theorem Ty.p177:ca Tryz.prog 177=some [(0,1)]:=by kernel_rfl
theorem Ty.c198:Tryz.prog.cellsOf 198=1:=by kernel_rfl
theorem Ty.k198:aS Tryz.prog 198=some false:=by kernel_rfl
theorem Ty.z198:aJ Tryz.prog 198=some [.nils]:=by kernel_rfl
theorem Ty.c212:Tryz.prog.cellsOf 212=1:=by kernel_rfl
theorem Ty.k212:aS Tryz.prog 212=some false:=by kernel_rfl
theorem Ty.z212:aJ Tryz.prog 212=some [.int .u64 0]:=by kernel_rfl
theorem Ty.c213:Tryz.prog.cellsOf 213=1:=by kernel_rfl
theorem Ty.k213:aS Tryz.prog 213=some false:=by kernel_rfl
theorem Ty.z213:aJ Tryz.prog 213=some [.int .u64 0]:=by kernel_rfl
theorem Ty.c241:Tryz.prog.cellsOf 241=1:=by kernel_rfl
theorem Ty.k241:aS Tryz.prog 241=some false:=by kernel_rfl
theorem Ty.z241:aJ Tryz.prog 241=some [.nils]:=by kernel_rfl
theorem Ty.c245:Tryz.prog.cellsOf 245=2:=by kernel_rfl
theorem Ty.b245:Tryz.prog.bytesOf 245=16:=by kernel_rfl
theorem Ty.k245:aS Tryz.prog 245=some true:=by kernel_rfl
theorem Ty.z245:aJ Tryz.prog 245=some [.int .i64 0,.int .i64 0]:=by kernel_rfl
theorem Ty.p245:ca Tryz.prog 245=some [(0,1),(1,1)]:=by kernel_rfl
theorem Ty.c269:Tryz.prog.cellsOf 269=1:=by kernel_rfl
theorem Ty.k269:aS Tryz.prog 269=some false:=by kernel_rfl
theorem Ty.z269:aJ Tryz.prog 269=some [.nilf]:=by kernel_rfl
theorem Ty.c270:Tryz.prog.cellsOf 270=4:=by kernel_rfl
theorem Ty.k270:aS Tryz.prog 270=some true:=by kernel_rfl
theorem Ty.z270:aJ Tryz.prog 270=some [.nilf,.nilf,.nilf,.nilf]:=by kernel_rfl
theorem Ty.p270:ca Tryz.prog 270=some [(0,1),(1,1),(2,1),(3,1)]:=by kernel_rfl
theorem Ty.w3:(Tryz.prog.info? 3).bind (·.zero)=some (.int .i64 0):=by kernel_rfl
theorem Ty.w70:(Tryz.prog.info? 70).bind (·.zero)=some (.nilFunc):=by kernel_rfl
theorem Ty.i1:(Tryz.prog.underlying 1).isSome=true:=by rw [Tryz.underlying1];rfl
theorem Ty.i2:(Tryz.prog.underlying 2).isSome=true:=by rw [Tryz.underlying2];rfl
theorem Ty.i3:(Tryz.prog.underlying 3).isSome=true:=by rw [Tryz.underlying3];rfl
theorem Ty.i4:(Tryz.prog.underlying 4).isSome=true:=by rw [Tryz.underlying4];rfl
theorem Ty.i5:(Tryz.prog.underlying 5).isSome=true:=by rw [Tryz.underlying5];rfl
theorem Ty.i6:(Tryz.prog.underlying 6).isSome=true:=by rw [Tryz.underlying6];rfl
theorem Ty.i7:(Tryz.prog.underlying 7).isSome=true:=by rw [Tryz.underlying7];rfl
theorem Ty.i8:(Tryz.prog.underlying 8).isSome=true:=by rw [Tryz.underlying8];rfl
theorem Ty.i9:(Tryz.prog.underlying 9).isSome=true:=by rw [Tryz.underlying9];rfl
theorem Ty.i10:(Tryz.prog.underlying 10).isSome=true:=by rw [Tryz.underlying10];rfl
theorem Ty.i12:(Tryz.prog.underlying 12).isSome=true:=by rw [Tryz.underlying12];rfl
theorem Ty.i15:(Tryz.prog.underlying 15).isSome=true:=by rw [Tryz.underlying15];rfl
theorem Ty.i16:(Tryz.prog.underlying 16).isSome=true:=by rw [Tryz.underlying16];rfl
theorem Ty.i17:(Tryz.prog.underlying 17).isSome=true:=by rw [Tryz.underlying17];rfl
theorem Ty.i18:(Tryz.prog.underlying 18).isSome=true:=by rw [Tryz.underlying18];rfl
theorem Ty.i22:(Tryz.prog.underlying 22).isSome=true:=by rw [Tryz.underlying22];rfl
theorem Ty.i23:(Tryz.prog.underlying 23).isSome=true:=by rw [Tryz.underlying23];rfl
theorem Ty.i24:(Tryz.prog.underlying 24).isSome=true:=by rw [Tryz.underlying24];rfl
theorem Ty.i25:(Tryz.prog.underlying 25).isSome=true:=by rw [Tryz.underlying25];rfl
theorem Ty.i27:(Tryz.prog.underlying 27).isSome=true:=by rw [Tryz.underlying27];rfl
theorem Ty.i28:(Tryz.prog.underlying 28).isSome=true:=by rw [Tryz.underlying28];rfl
theorem Ty.i29:(Tryz.prog.underlying 29).isSome=true:=by rw [Tryz.underlying29];rfl
theorem Ty.i30:(Tryz.prog.underlying 30).isSome=true:=by rw [Tryz.underlying30];rfl
theorem Ty.i32:(Tryz.prog.underlying 32).isSome=true:=by rw [Tryz.underlying32];rfl
theorem Ty.i33:(Tryz.prog.underlying 33).isSome=true:=by rw [Tryz.underlying33];rfl
theorem Ty.i34:(Tryz.prog.underlying 34).isSome=true:=by rw [Tryz.underlying34];rfl
theorem Ty.i35:(Tryz.prog.underlying 35).isSome=true:=by rw [Tryz.underlying35];rfl
theorem Ty.i36:(Tryz.prog.underlying 36).isSome=true:=by rw [Tryz.underlying36];rfl
theorem Ty.i38:(Tryz.prog.underlying 38).isSome=true:=by rw [Tryz.underlying38];rfl
theorem Ty.i39:(Tryz.prog.underlying 39).isSome=true:=by rw [Tryz.underlying39];rfl
theorem Ty.i42:(Tryz.prog.underlying 42).isSome=true:=by rw [Tryz.underlying42];rfl
theorem Ty.i44:(Tryz.prog.underlying 44).isSome=true:=by rw [Tryz.underlying44];rfl
theorem Ty.i45:(Tryz.prog.underlying 45).isSome=true:=by rw [Tryz.underlying45];rfl
theorem Ty.i50:(Tryz.prog.underlying 50).isSome=true:=by rw [Tryz.underlying50];rfl
theorem Ty.i52:(Tryz.prog.underlying 52).isSome=true:=by rw [Tryz.underlying52];rfl
theorem Ty.i54:(Tryz.prog.underlying 54).isSome=true:=by rw [Tryz.underlying54];rfl
theorem Ty.i64:(Tryz.prog.underlying 64).isSome=true:=by rw [Tryz.underlying64];rfl
theorem Ty.i67:(Tryz.prog.underlying 67).isSome=true:=by rw [Tryz.underlying67];rfl
theorem Ty.i68:(Tryz.prog.underlying 68).isSome=true:=by rw [Tryz.underlying68];rfl
theorem Ty.i69:(Tryz.prog.underlying 69).isSome=true:=by rw [Tryz.underlying69];rfl
theorem Ty.i74:(Tryz.prog.underlying 74).isSome=true:=by rw [Tryz.underlying74];rfl
theorem Ty.i75:(Tryz.prog.underlying 75).isSome=true:=by rw [Tryz.underlying75];rfl
theorem Ty.i76:(Tryz.prog.underlying 76).isSome=true:=by rw [Tryz.underlying76];rfl
theorem Ty.i78:(Tryz.prog.underlying 78).isSome=true:=by rw [Tryz.underlying78];rfl
theorem Ty.i79:(Tryz.prog.underlying 79).isSome=true:=by rw [Tryz.underlying79];rfl
theorem Ty.i82:(Tryz.prog.underlying 82).isSome=true:=by rw [Tryz.underlying82];rfl
theorem Ty.i84:(Tryz.prog.underlying 84).isSome=true:=by rw [Tryz.underlying84];rfl
theorem Ty.i90:(Tryz.prog.underlying 90).isSome=true:=by rw [Tryz.underlying90];rfl
theorem Ty.i97:(Tryz.prog.underlying 97).isSome=true:=by rw [Tryz.underlying97];rfl
theorem Ty.i132:(Tryz.prog.underlying 132).isSome=true:=by rw [Tryz.underlying132];rfl
theorem Ty.i139:(Tryz.prog.underlying 139).isSome=true:=by rw [Tryz.underlying139];rfl
theorem Ty.i152:(Tryz.prog.underlying 152).isSome=true:=by rw [Tryz.underlying152];rfl
theorem Ty.i155:(Tryz.prog.underlying 155).isSome=true:=by rw [Tryz.underlying155];rfl
theorem Ty.i157:(Tryz.prog.underlying 157).isSome=true:=by rw [Tryz.underlying157];rfl
theorem Ty.i159:(Tryz.prog.underlying 159).isSome=true:=by rw [Tryz.underlying159];rfl
theorem Ty.i173:(Tryz.prog.underlying 173).isSome=true:=by rw [Tryz.underlying173];rfl
theorem Ty.i175:(Tryz.prog.underlying 175).isSome=true:=by rw [Tryz.underlying175];rfl
theorem Ty.i177:(Tryz.prog.underlying 177).isSome=true:=by rw [Tryz.underlying177];rfl
theorem Ty.i198:(Tryz.prog.underlying 198).isSome=true:=by rw [Tryz.underlying198];rfl
theorem Ty.i212:(Tryz.prog.underlying 212).isSome=true:=by rw [Tryz.underlying212];rfl
theorem Ty.i213:(Tryz.prog.underlying 213).isSome=true:=by rw [Tryz.underlying213];rfl
theorem Ty.i241:(Tryz.prog.underlying 241).isSome=true:=by rw [Tryz.underlying241];rfl
theorem Ty.i245:(Tryz.prog.underlying 245).isSome=true:=by rw [Tryz.underlying245];rfl
theorem Ty.i269:(Tryz.prog.underlying 269).isSome=true:=by rw [Tryz.underlying269];rfl
theorem Ty.i270:(Tryz.prog.underlying 270).isSome=true:=by rw [Tryz.underlying270];rfl
theorem Ty.f7_0:FieldAt Tryz.prog 7 0 2 0:=⟨⟨_,_,Tryz.underlying7,rfl,rfl,rfl,by rw [Ty.c2];decide,Ty.i2⟩⟩
theorem Ty.f7_1:FieldAt Tryz.prog 7 1 3 1:=⟨⟨_,_,Tryz.underlying7,rfl,rfl,rfl,by rw [Ty.c3];decide,Ty.i3⟩⟩
theorem Ty.f7_2:FieldAt Tryz.prog 7 2 4 2:=⟨⟨_,_,Tryz.underlying7,rfl,rfl,rfl,by rw [Ty.c4];decide,Ty.i4⟩⟩
theorem Ty.f7_3:FieldAt Tryz.prog 7 3 6 3:=⟨⟨_,_,Tryz.underlying7,rfl,rfl,rfl,by rw [Ty.c6];decide,Ty.i6⟩⟩
theorem Ty.f8_0:FieldAt Tryz.prog 8 0 2 0:=⟨⟨_,_,Tryz.underlying8,rfl,rfl,rfl,by rw [Ty.c2];decide,Ty.i2⟩⟩
theorem Ty.f8_1:FieldAt Tryz.prog 8 1 3 1:=⟨⟨_,_,Tryz.underlying8,rfl,rfl,rfl,by rw [Ty.c3];decide,Ty.i3⟩⟩
theorem Ty.f8_2:FieldAt Tryz.prog 8 2 4 2:=⟨⟨_,_,Tryz.underlying8,rfl,rfl,rfl,by rw [Ty.c4];decide,Ty.i4⟩⟩
theorem Ty.f8_3:FieldAt Tryz.prog 8 3 6 3:=⟨⟨_,_,Tryz.underlying8,rfl,rfl,rfl,by rw [Ty.c6];decide,Ty.i6⟩⟩
theorem Ty.f18_0:FieldAt Tryz.prog 18 0 17 0:=⟨⟨_,_,Tryz.underlying18,rfl,rfl,rfl,by rw [Ty.c17];decide,Ty.i17⟩⟩
theorem Ty.s22:SliceOf Tryz.prog 22 90 4:=⟨Tryz.underlying22,Ty.c90,Ty.i90,by decide,by rw [Ty.b90];decide,_,Ty.z90,rfl⟩
theorem Ty.f23_0:FieldAt Tryz.prog 23 0 22 0:=⟨⟨_,_,Tryz.underlying23,rfl,rfl,rfl,by rw [Ty.c22];decide,Ty.i22⟩⟩
theorem Ty.f23_1:FieldAt Tryz.prog 23 1 3 1:=⟨⟨_,_,Tryz.underlying23,rfl,rfl,rfl,by rw [Ty.c3];decide,Ty.i3⟩⟩
theorem Ty.f23_2:FieldAt Tryz.prog 23 2 3 2:=⟨⟨_,_,Tryz.underlying23,rfl,rfl,rfl,by rw [Ty.c3];decide,Ty.i3⟩⟩
theorem Ty.f24_0:FieldAt Tryz.prog 24 0 22 0:=⟨⟨_,_,Tryz.underlying24,rfl,rfl,rfl,by rw [Ty.c22];decide,Ty.i22⟩⟩
theorem Ty.f24_1:FieldAt Tryz.prog 24 1 3 1:=⟨⟨_,_,Tryz.underlying24,rfl,rfl,rfl,by rw [Ty.c3];decide,Ty.i3⟩⟩
theorem Ty.f24_2:FieldAt Tryz.prog 24 2 3 2:=⟨⟨_,_,Tryz.underlying24,rfl,rfl,rfl,by rw [Ty.c3];decide,Ty.i3⟩⟩
theorem Ty.s25:SliceOf Tryz.prog 25 30 1:=⟨Tryz.underlying25,Ty.c30,Ty.i30,by decide,by rw [Ty.b30];decide,_,Ty.z30,rfl⟩
theorem Ty.s26:SliceOf Tryz.prog 26 44 2:=⟨Tryz.underlying26,Ty.c44,Ty.i44,by decide,by rw [Ty.b44];decide,_,Ty.z44,rfl⟩
theorem Ty.s27:SliceOf Tryz.prog 27 3 1:=⟨Tryz.underlying27,Ty.c3,Ty.i3,by decide,by rw [Ty.b3];decide,_,Ty.z3,rfl⟩
theorem Ty.s28:SliceOf Tryz.prog 28 84 3:=⟨Tryz.underlying28,Ty.c84,Ty.i84,by decide,by rw [Ty.b84];decide,_,Ty.z84,rfl⟩
theorem Ty.s29:SliceOf Tryz.prog 29 50 2:=⟨Tryz.underlying29,Ty.c50,Ty.i50,by decide,by rw [Ty.b50];decide,_,Ty.z50,rfl⟩
theorem Ty.s30:SliceOf Tryz.prog 30 75 3:=⟨Tryz.underlying30,Ty.c75,Ty.i75,by decide,by rw [Ty.b75];decide,_,Ty.z75,rfl⟩
theorem Ty.f32_0:FieldAt Tryz.prog 32 0 27 0:=⟨⟨_,_,Tryz.underlying32,rfl,rfl,rfl,by rw [Ty.c27];decide,Ty.i27⟩⟩
theorem Ty.f32_1:FieldAt Tryz.prog 32 1 25 1:=⟨⟨_,_,Tryz.underlying32,rfl,rfl,rfl,by rw [Ty.c25];decide,Ty.i25⟩⟩
theorem Ty.f32_2:FieldAt Tryz.prog 32 2 28 2:=⟨⟨_,_,Tryz.underlying32,rfl,rfl,rfl,by rw [Ty.c28];decide,Ty.i28⟩⟩
theorem Ty.f32_3:FieldAt Tryz.prog 32 3 29 3:=⟨⟨_,_,Tryz.underlying32,rfl,rfl,rfl,by rw [Ty.c29];decide,Ty.i29⟩⟩
theorem Ty.f32_4:FieldAt Tryz.prog 32 4 30 4:=⟨⟨_,_,Tryz.underlying32,rfl,rfl,rfl,by rw [Ty.c30];decide,Ty.i30⟩⟩
theorem Ty.s33:SliceOf Tryz.prog 33 9 1:=⟨Tryz.underlying33,Ty.c9,Ty.i9,by decide,by rw [Ty.b9];decide,_,Ty.z9,rfl⟩
theorem Ty.s34:SliceOf Tryz.prog 34 132 2:=⟨Tryz.underlying34,Ty.c132,Ty.i132,by decide,by rw [Ty.b132];decide,_,Ty.z132,rfl⟩
theorem Ty.f35_0:FieldAt Tryz.prog 35 0 33 0:=⟨⟨_,_,Tryz.underlying35,rfl,rfl,rfl,by rw [Ty.c33];decide,Ty.i33⟩⟩
theorem Ty.f35_1:FieldAt Tryz.prog 35 1 34 1:=⟨⟨_,_,Tryz.underlying35,rfl,rfl,rfl,by rw [Ty.c34];decide,Ty.i34⟩⟩
theorem Ty.f36_0:FieldAt Tryz.prog 36 0 33 0:=⟨⟨_,_,Tryz.underlying36,rfl,rfl,rfl,by rw [Ty.c33];decide,Ty.i33⟩⟩
theorem Ty.f36_1:FieldAt Tryz.prog 36 1 34 1:=⟨⟨_,_,Tryz.underlying36,rfl,rfl,rfl,by rw [Ty.c34];decide,Ty.i34⟩⟩
theorem Ty.f38_0:FieldAt Tryz.prog 38 0 24 0:=⟨⟨_,_,Tryz.underlying38,rfl,rfl,rfl,by rw [Ty.c24];decide,Ty.i24⟩⟩
theorem Ty.f38_1:FieldAt Tryz.prog 38 1 25 3:=⟨⟨_,_,Tryz.underlying38,rfl,rfl,rfl,by rw [Ty.c25];decide,Ty.i25⟩⟩
theorem Ty.f38_2:FieldAt Tryz.prog 38 2 32 4:=⟨⟨_,_,Tryz.underlying38,rfl,rfl,rfl,by rw [Ty.c32];decide,Ty.i32⟩⟩
theorem Ty.f38_3:FieldAt Tryz.prog 38 3 36 9:=⟨⟨_,_,Tryz.underlying38,rfl,rfl,rfl,by rw [Ty.c36];decide,Ty.i36⟩⟩
theorem Ty.f38_4:FieldAt Tryz.prog 38 4 3 11:=⟨⟨_,_,Tryz.underlying38,rfl,rfl,rfl,by rw [Ty.c3];decide,Ty.i3⟩⟩
theorem Ty.f38_5:FieldAt Tryz.prog 38 5 3 12:=⟨⟨_,_,Tryz.underlying38,rfl,rfl,rfl,by rw [Ty.c3];decide,Ty.i3⟩⟩
theorem Ty.f38_6:FieldAt Tryz.prog 38 6 3 13:=⟨⟨_,_,Tryz.underlying38,rfl,rfl,rfl,by rw [Ty.c3];decide,Ty.i3⟩⟩
theorem Ty.f38_7:FieldAt Tryz.prog 38 7 3 14:=⟨⟨_,_,Tryz.underlying38,rfl,rfl,rfl,by rw [Ty.c3];decide,Ty.i3⟩⟩
theorem Ty.f38_8:FieldAt Tryz.prog 38 8 3 15:=⟨⟨_,_,Tryz.underlying38,rfl,rfl,rfl,by rw [Ty.c3];decide,Ty.i3⟩⟩
theorem Ty.f38_9:FieldAt Tryz.prog 38 9 30 16:=⟨⟨_,_,Tryz.underlying38,rfl,rfl,rfl,by rw [Ty.c30];decide,Ty.i30⟩⟩
theorem Ty.f38_10:FieldAt Tryz.prog 38 10 4 17:=⟨⟨_,_,Tryz.underlying38,rfl,rfl,rfl,by rw [Ty.c4];decide,Ty.i4⟩⟩
theorem Ty.f44_0:FieldAt Tryz.prog 44 0 3 0:=⟨⟨_,_,Tryz.underlying44,rfl,rfl,rfl,by rw [Ty.c3];decide,Ty.i3⟩⟩
theorem Ty.f44_1:FieldAt Tryz.prog 44 1 3 1:=⟨⟨_,_,Tryz.underlying44,rfl,rfl,rfl,by rw [Ty.c3];decide,Ty.i3⟩⟩
theorem Ty.f50_0:FieldAt Tryz.prog 50 0 3 0:=⟨⟨_,_,Tryz.underlying50,rfl,rfl,rfl,by rw [Ty.c3];decide,Ty.i3⟩⟩
theorem Ty.f50_1:FieldAt Tryz.prog 50 1 3 1:=⟨⟨_,_,Tryz.underlying50,rfl,rfl,rfl,by rw [Ty.c3];decide,Ty.i3⟩⟩
theorem Ty.q50:lm Tryz.prog 50 [1,1]:=to (by kernel_rfl) Tryz.underlying50 (by kernel_rfl) ⟨by decide,rfl,Tryz.underlying3,by decide,rfl,Tryz.underlying3,tqz⟩
theorem Ty.s52:SliceOf Tryz.prog 52 39 1:=⟨Tryz.underlying52,Ty.c39,Ty.i39,by decide,by rw [Ty.b39];decide,_,Ty.z39,rfl⟩
theorem Ty.f74_0:FieldAt Tryz.prog 74 0 3 0:=⟨⟨_,_,Tryz.underlying74,rfl,rfl,rfl,by rw [Ty.c3];decide,Ty.i3⟩⟩
theorem Ty.f74_1:FieldAt Tryz.prog 74 1 3 1:=⟨⟨_,_,Tryz.underlying74,rfl,rfl,rfl,by rw [Ty.c3];decide,Ty.i3⟩⟩
theorem Ty.f74_2:FieldAt Tryz.prog 74 2 3 2:=⟨⟨_,_,Tryz.underlying74,rfl,rfl,rfl,by rw [Ty.c3];decide,Ty.i3⟩⟩
theorem Ty.f75_0:FieldAt Tryz.prog 75 0 3 0:=⟨⟨_,_,Tryz.underlying75,rfl,rfl,rfl,by rw [Ty.c3];decide,Ty.i3⟩⟩
theorem Ty.f75_1:FieldAt Tryz.prog 75 1 3 1:=⟨⟨_,_,Tryz.underlying75,rfl,rfl,rfl,by rw [Ty.c3];decide,Ty.i3⟩⟩
theorem Ty.f75_2:FieldAt Tryz.prog 75 2 3 2:=⟨⟨_,_,Tryz.underlying75,rfl,rfl,rfl,by rw [Ty.c3];decide,Ty.i3⟩⟩
theorem Ty.q75:lm Tryz.prog 75 [1,1,1]:=to (by kernel_rfl) Tryz.underlying75 (by kernel_rfl) ⟨by decide,rfl,Tryz.underlying3,by decide,rfl,Tryz.underlying3,by decide,rfl,Tryz.underlying3,tqz⟩
theorem Ty.s82:SliceOf Tryz.prog 82 139 2:=⟨Tryz.underlying82,Ty.c139,Ty.i139,by decide,by rw [Ty.b139];decide,_,Ty.z139,rfl⟩
theorem Ty.f84_0:FieldAt Tryz.prog 84 0 3 0:=⟨⟨_,_,Tryz.underlying84,rfl,rfl,rfl,by rw [Ty.c3];decide,Ty.i3⟩⟩
theorem Ty.f84_1:FieldAt Tryz.prog 84 1 82 1:=⟨⟨_,_,Tryz.underlying84,rfl,rfl,rfl,by rw [Ty.c82];decide,Ty.i82⟩⟩
theorem Ty.f84_2:FieldAt Tryz.prog 84 2 3 2:=⟨⟨_,_,Tryz.underlying84,rfl,rfl,rfl,by rw [Ty.c3];decide,Ty.i3⟩⟩
theorem Ty.f90_0:FieldAt Tryz.prog 90 0 3 0:=⟨⟨_,_,Tryz.underlying90,rfl,rfl,rfl,by rw [Ty.c3];decide,Ty.i3⟩⟩
theorem Ty.f90_1:FieldAt Tryz.prog 90 1 3 1:=⟨⟨_,_,Tryz.underlying90,rfl,rfl,rfl,by rw [Ty.c3];decide,Ty.i3⟩⟩
theorem Ty.f90_2:FieldAt Tryz.prog 90 2 27 2:=⟨⟨_,_,Tryz.underlying90,rfl,rfl,rfl,by rw [Ty.c27];decide,Ty.i27⟩⟩
theorem Ty.f90_3:FieldAt Tryz.prog 90 3 27 3:=⟨⟨_,_,Tryz.underlying90,rfl,rfl,rfl,by rw [Ty.c27];decide,Ty.i27⟩⟩
theorem Ty.s93:SliceOf Tryz.prog 93 97 2:=⟨Tryz.underlying93,Ty.c97,Ty.i97,by decide,by rw [Ty.b97];decide,_,Ty.z97,rfl⟩
theorem Ty.f97_0:FieldAt Tryz.prog 97 0 3 0:=⟨⟨_,_,Tryz.underlying97,rfl,rfl,rfl,by rw [Ty.c3];decide,Ty.i3⟩⟩
theorem Ty.f97_1:FieldAt Tryz.prog 97 1 3 1:=⟨⟨_,_,Tryz.underlying97,rfl,rfl,rfl,by rw [Ty.c3];decide,Ty.i3⟩⟩
theorem Ty.f132_0:FieldAt Tryz.prog 132 0 3 0:=⟨⟨_,_,Tryz.underlying132,rfl,rfl,rfl,by rw [Ty.c3];decide,Ty.i3⟩⟩
theorem Ty.f132_1:FieldAt Tryz.prog 132 1 9 1:=⟨⟨_,_,Tryz.underlying132,rfl,rfl,rfl,by rw [Ty.c9];decide,Ty.i9⟩⟩
theorem Ty.f139_0:FieldAt Tryz.prog 139 0 3 0:=⟨⟨_,_,Tryz.underlying139,rfl,rfl,rfl,by rw [Ty.c3];decide,Ty.i3⟩⟩
theorem Ty.f139_1:FieldAt Tryz.prog 139 1 3 1:=⟨⟨_,_,Tryz.underlying139,rfl,rfl,rfl,by rw [Ty.c3];decide,Ty.i3⟩⟩
theorem Ty.q139:lm Tryz.prog 139 [1,1]:=to (by kernel_rfl) Tryz.underlying139 (by kernel_rfl) ⟨by decide,rfl,Tryz.underlying3,by decide,rfl,Tryz.underlying3,tqz⟩
theorem Ty.s152:SliceOf Tryz.prog 152 5 1:=⟨Tryz.underlying152,Ty.c5,Ty.i5,by decide,by rw [Ty.b5];decide,_,Ty.z5,rfl⟩
theorem Ty.f157_0:FieldAt Tryz.prog 157 0 155 0:=⟨⟨_,_,Tryz.underlying157,rfl,rfl,rfl,by rw [Ty.c155];decide,Ty.i155⟩⟩
theorem Ty.f157_1:FieldAt Tryz.prog 157 1 152 1:=⟨⟨_,_,Tryz.underlying157,rfl,rfl,rfl,by rw [Ty.c152];decide,Ty.i152⟩⟩
theorem Ty.f159_0:FieldAt Tryz.prog 159 0 157 0:=⟨⟨_,_,Tryz.underlying159,rfl,rfl,rfl,by rw [Ty.c157];decide,Ty.i157⟩⟩
theorem Ty.f177_0:FieldAt Tryz.prog 177 0 9 0:=⟨⟨_,_,Tryz.underlying177,rfl,rfl,rfl,by rw [Ty.c9];decide,Ty.i9⟩⟩
theorem Ty.s198:SliceOf Tryz.prog 198 4 1:=⟨Tryz.underlying198,Ty.c4,Ty.i4,by decide,by rw [Ty.b4];decide,_,Ty.z4,rfl⟩
theorem Ty.s241:SliceOf Tryz.prog 241 245 2:=⟨Tryz.underlying241,Ty.c245,Ty.i245,by decide,by rw [Ty.b245];decide,_,Ty.z245,rfl⟩
theorem Ty.f245_0:FieldAt Tryz.prog 245 0 3 0:=⟨⟨_,_,Tryz.underlying245,rfl,rfl,rfl,by rw [Ty.c3];decide,Ty.i3⟩⟩
theorem Ty.f245_1:FieldAt Tryz.prog 245 1 3 1:=⟨⟨_,_,Tryz.underlying245,rfl,rfl,rfl,by rw [Ty.c3];decide,Ty.i3⟩⟩
end
section
open Go.RowKit
theorem mixed:Tryz.prog.follows .mixedOrders=true:=by kernel_rfl
def ai (n:Int):List AV:=[.int .i64 n]
def aO (s:List UInt8):List AV:=[.str s]
end
structure Item where
 (Key Val Dep:Int)
deriving DecidableEq
structure Node where
 (Kind A:Int)
 (In Out:List Int)
deriving DecidableEq
structure Net where
 Nodes:List Node
 (Rings Room:Int)
deriving DecidableEq
structure Keyed where
 (Key N:Int)
deriving DecidableEq
structure Memory where
 Sum:Int
 Keys:List Keyed
 Dep:Int
deriving DecidableEq
structure Choice where
 (Node Lane:Int)
deriving DecidableEq
structure State where
 At:List Int
 Rings:List (List Item)
 Memory:List Memory
 Choices:List Choice
 Out:List Item
deriving DecidableEq
structure Move where
 (Node Lane:Int)
deriving DecidableEq
structure Write where
 At:Int
 Bytes:List UInt8
deriving DecidableEq
structure Disk where
 Sectors:List (List UInt8)
 Wait:List Write
deriving DecidableEq
structure Shop where
 N:Net
 Items:List (List Item)
 S:State
 D:Disk
 (Logged Safe Epoch Laid Next:Int)
 Told:List Item
 Down:Bool
deriving DecidableEq
structure Happening where
 (Kind N:Int)
deriving DecidableEq
structure Ends where
 (src dst:Int)
deriving DecidableEq
section
open Go.RowKit
def bG (n:Int):List AV:=[.int .u8 n]
def encU (n:Int):List AV:=[.int .u64 n]
def cu (b:Bool):List AV:=[.bool b]
def aj {α:Type} (en:α->List AV) (l:List α):List AV:=[.sl (l.map en)]
def aa (a:Item):List AV:=[.int .i64 a.Key,.int .i64 a.Val,.int .i64 a.Dep]
def au (a:Node):List AV:=[.int .i64 a.Kind,.int .i64 a.A,.sl (a.In.map ai),.sl (a.Out.map ai)]
def aM (a:Net):List AV:=[.sl (a.Nodes.map au),.int .i64 a.Rings,.int .i64 a.Room]
def aL (a:Keyed):List AV:=[.int .i64 a.Key,.int .i64 a.N]
def aB (a:Memory):List AV:=[.int .i64 a.Sum,.sl (a.Keys.map aL),.int .i64 a.Dep]
def aA (a:Choice):List AV:=[.int .i64 a.Node,.int .i64 a.Lane]
def bC (a:State):List AV:=[.sl (a.At.map ai),.sl (a.Rings.map (aj aa)),.sl (a.Memory.map aB),.sl (a.Choices.map aA),.sl (a.Out.map aa)]
def bq (a:Move):List AV:=[.int .i64 a.Node,.int .i64 a.Lane]
def a9 (a:Write):List AV:=[.int .i64 a.At,.str a.Bytes]
def bX (a:Disk):List AV:=[.sl (a.Sectors.map aO),.sl (a.Wait.map a9)]
def eS (a:Shop):List AV:=[.sl (a.N.Nodes.map au),.int .i64 a.N.Rings,.int .i64 a.N.Room,.sl (a.Items.map (aj aa)),.sl (a.S.At.map ai),.sl (a.S.Rings.map (aj aa)),.sl (a.S.Memory.map aB),.sl (a.S.Choices.map aA),.sl (a.S.Out.map aa),.sl (a.D.Sectors.map aO),.sl (a.D.Wait.map a9),.int .i64 a.Logged,.int .i64 a.Safe,.int .i64 a.Epoch,.int .i64 a.Laid,.int .i64 a.Next,.sl (a.Told.map aa),.bool a.Down]
def cC (a:Happening):List AV:=[.int .i64 a.Kind,.int .i64 a.N]
def be (a:Ends):List AV:=[.int .i64 a.src,.int .i64 a.dst]
theorem jX:∀ a x,x∈ai a->Pure x:=fun a=>cU (ls:=ai a) ⟨aI _ _,tqz⟩
theorem IX:∀ a x,x∈bG a->Pure x:=fun a=>cU (ls:=bG a) ⟨aI _ _,tqz⟩
theorem II:∀ a x,x∈encU a->Pure x:=fun a=>cU (ls:=encU a) ⟨aI _ _,tqz⟩
theorem Jj:∀ a x,x∈cu a->Pure x:=fun a=>cU (ls:=cu a) ⟨iG _,tqz⟩
theorem pV:∀ a x,x∈aO a->Pure x:=fun a=>cU (ls:=aO a) ⟨aX _,tqz⟩
theorem lF {α:Type} {en:α->List AV} (h:∀ a x,x∈en a->Pure x):∀ a x,x∈aj en a->Pure x:=fun a=>cU (ls:=aj en a) ⟨cI h _,tqz⟩
theorem eF:∀ a x,x∈aa a->Pure x:=fun a=>cU (ls:=aa a) ⟨aI _ _,aI _ _,aI _ _,tqz⟩
theorem nk:∀ a x,x∈au a->Pure x:=fun a=>cU (ls:=au a) ⟨aI _ _,aI _ _,cI jX _,cI jX _,tqz⟩
theorem yo:∀ a x,x∈aM a->Pure x:=fun a=>cU (ls:=aM a) ⟨cI nk _,aI _ _,aI _ _,tqz⟩
theorem lc:∀ a x,x∈aL a->Pure x:=fun a=>cU (ls:=aL a) ⟨aI _ _,aI _ _,tqz⟩
theorem kT:∀ a x,x∈aB a->Pure x:=fun a=>cU (ls:=aB a) ⟨aI _ _,cI lc _,aI _ _,tqz⟩
theorem kW:∀ a x,x∈aA a->Pure x:=fun a=>cU (ls:=aA a) ⟨aI _ _,aI _ _,tqz⟩
theorem xd:∀ a x,x∈bC a->Pure x:=fun a=>cU (ls:=bC a) ⟨cI jX _,cI (lF eF) _,cI kT _,cI kW _,cI eF _,tqz⟩
theorem xU:∀ a x,x∈bq a->Pure x:=fun a=>cU (ls:=bq a) ⟨aI _ _,aI _ _,tqz⟩
theorem m6:∀ a x,x∈a9 a->Pure x:=fun a=>cU (ls:=a9 a) ⟨aI _ _,aX _,tqz⟩
theorem yh:∀ a x,x∈bX a->Pure x:=fun a=>cU (ls:=bX a) ⟨cI pV _,cI m6 _,tqz⟩
theorem yj:∀ a x,x∈eS a->Pure x:=fun a=>cU (ls:=eS a) ⟨cI nk _,aI _ _,aI _ _,cI (lF eF) _,cI jX _,cI (lF eF) _,cI kT _,cI kW _,cI eF _,cI pV _,cI m6 _,aI _ _,aI _ _,aI _ _,aI _ _,aI _ _,cI eF _,iG _,tqz⟩
theorem v9:∀ a x,x∈cC a->Pure x:=fun a=>cU (ls:=cC a) ⟨aI _ _,aI _ _,tqz⟩
theorem ym:∀ a x,x∈be a->Pure x:=fun a=>cU (ls:=be a) ⟨aI _ _,aI _ _,tqz⟩
theorem Ej (x y:Item):eG (aa x) (aa y)=some (x==y):=by cases x;cases y;simp only [aa,eG,Lh,LF];rw [LI];simp
theorem DY (x y:Keyed):eG (aL x) (aL y)=some (x==y):=by cases x;cases y;simp only [aL,eG,Lh,LF];rw [LI];simp
theorem Dp (x y:Choice):eG (aA x) (aA y)=some (x==y):=by cases x;cases y;simp only [aA,eG,Lh,LF];rw [LI];simp
instance:EnP ai:=⟨jX⟩
instance:EnP bG:=⟨IX⟩
instance:EnP encU:=⟨II⟩
instance:EnP cu:=⟨Jj⟩
instance:EnP aO:=⟨pV⟩
instance:EnP aa:=⟨eF⟩
instance:EnP au:=⟨nk⟩
instance:EnP aM:=⟨yo⟩
instance:EnP aL:=⟨lc⟩
instance:EnP aB:=⟨kT⟩
instance:EnP aA:=⟨kW⟩
instance:EnP bC:=⟨xd⟩
instance:EnP bq:=⟨xU⟩
instance:EnP a9:=⟨m6⟩
instance:EnP bX:=⟨yh⟩
instance:EnP eS:=⟨yj⟩
instance:EnP cC:=⟨v9⟩
instance:EnP be:=⟨ym⟩
instance {α:Type} {en:α->List AV} [h:EnP en]:EnP (aj en):=⟨lF h.out⟩
theorem bn (b:Bool):b=true∨b=false:=by cases b<;>simp
end
section
open Go.RowKit
instance (a:Item):PureCs (aa a):=⟨eF a⟩
instance (a:Node):PureCs (au a):=⟨nk a⟩
instance (a:Net):PureCs (aM a):=⟨yo a⟩
instance (a:Keyed):PureCs (aL a):=⟨lc a⟩
instance (a:Memory):PureCs (aB a):=⟨kT a⟩
instance (a:Choice):PureCs (aA a):=⟨kW a⟩
instance (a:State):PureCs (bC a):=⟨xd a⟩
instance (a:Move):PureCs (bq a):=⟨xU a⟩
instance (a:Write):PureCs (a9 a):=⟨m6 a⟩
instance (a:Disk):PureCs (bX a):=⟨yh a⟩
instance (a:Shop):PureCs (eS a):=⟨yj a⟩
instance (a:Happening):PureCs (cC a):=⟨v9 a⟩
instance (a:Ends):PureCs (be a):=⟨ym a⟩
instance {f:FuncId} {cs:List AV} [h:PureCs cs]:PureC (.func f cs):=⟨EW _ _ h.out⟩
instance {α:Type} {en:α->List AV} {a:α} {off:Nat} [h:EnP en]:PureC (.elt (en a) off):=⟨zF _ _ (h.out a)⟩
class EnF {α:Type} (en:α->List AV):Prop where
 out:∀ a,(en a).all flat0=true
instance:EnF ai:=⟨fun _=>rfl⟩
instance:EnF bG:=⟨fun _=>rfl⟩
instance:EnF encU:=⟨fun _=>rfl⟩
instance:EnF cu:=⟨fun _=>rfl⟩
instance:EnF aO:=⟨fun _=>rfl⟩
instance:EnF aa:=⟨fun _=>rfl⟩
instance:EnF aL:=⟨fun _=>rfl⟩
instance:EnF aA:=⟨fun _=>rfl⟩
instance:EnF bq:=⟨fun _=>rfl⟩
instance:EnF a9:=⟨fun _=>rfl⟩
instance:EnF cC:=⟨fun _=>rfl⟩
instance:EnF be:=⟨fun _=>rfl⟩
class FlatObs (os:List Ob):Prop where
 out:os.all eq=true
instance:FlatObs []:=⟨rfl⟩
instance {α:Type} {en:α->List AV} {xs:List α} {e s:Nat} {os:List Ob} [h:EnF en] [t:FlatObs os]:FlatObs (.arr e s (xs.map en)::os):=⟨FW (Em h.out) t.out⟩
class OwnV (v:AV):Prop where
 out:(∃ k,v=.ref k)∨∃ vs,v=.tup vs/\∀ x,x∈vs->Pure x∨∃ k,x=.ref k
class OwnVs (vs:List AV):Prop where
 out:∀ x,x∈vs->Pure x∨∃ k,x=.ref k
instance:OwnVs []:=⟨fun x h=>by cases h⟩
instance {k:Nat} {vs:List AV} [t:OwnVs vs]:OwnVs (.ref k::vs):=⟨fun x h=>by
 cases h with
 | head=>exact .inr ⟨_,rfl⟩
 | tail _ h=>exact t.out x h⟩
instance (priority:=low) {v:AV} {vs:List AV} [h:PureC v] [t:OwnVs vs]:OwnVs (v::vs):=⟨fun x hx=>by
 cases hx with
 | head=>exact .inl h.out
 | tail _ hx=>exact t.out x hx⟩
instance {k:Nat}:OwnV (.ref k):=⟨.inl ⟨_,rfl⟩⟩
instance {vs:List AV} [h:OwnVs vs]:OwnV (.tup vs):=⟨.inr ⟨_,rfl,h.out⟩⟩
theorem pL:∀ {es:List AV},(∀ a,a∈es->Pure a)->Pures es
 | [],_=>trivial
 | a::es,h=>⟨h a (.head _),pL fun b hb=>h b (.tail _ hb)⟩
section
variable {P:Program} {N n:Nat} {aw aw':List Ob} {l:List (Nat × AV)} {tt:TT}
def appC {α:Type}:List α->List α->(List α->Prop)->Prop
 | [],bs,K=>K bs
 | a::l,bs,K=>appC l bs fun l=>K (a::l)
theorem pR {α:Type}:∀ {l bs:List α} {K:List α->Prop},appC l bs K->K (l++bs)
 | [],_,_,h=>h
 | a::l,bs,K,h=>pR (l:=l) (K:=fun l=>K (a::l)) h
def nrm0C (aw:List Ob) (a:AV) (K:AV->List Ob->Prop):Prop :=
 match a with
 | .nils=>K (.sl []) aw
 | .ref id=>bV aw id fun o=>(match o with
  | .arr _ _ rows=>setC aw id .dead fun aw=>K (.sl rows) aw
  | _=>False)
 | a=>fA a fun a=>K a aw
theorem zH {a:AV} {K:AV->List Ob->Prop} (h:nrm0C aw a K):K (dq aw a).1 (dq aw a).2:=by
 cases a with
 | nils=>exact h
 | ref id =>
  obtain ⟨o,h1,h⟩:=bK h;split at h
  ·have:=g8 h;simpa only [dq,h1] using this
  ·exact h.elim
 | _=>exact h
def nrm0LC:List AV->List Ob->(List AV->List Ob->Prop)->Prop
 | [],aw,K=>K [] aw
 | a::es,aw,K=>nrm0C aw a fun a aw=>nrm0LC es aw fun es aw=>K (a::es) aw
theorem xK:∀ {es:List AV} {aw:List Ob} {K:List AV->List Ob->Prop},nrm0LC es aw K->K (norm0L aw es).1 (norm0L aw es).2
 | [],aw,K,h=>h
 | a::es,aw,K,h=>xK (es:=es) (K:=fun es aw=>K (_::es) aw) (zH h)
def nrmC (aw:List Ob) (a:AV) (K:AV->List Ob->Prop):Prop :=
 match a with
 | .agg cs=>nrm0LC cs aw fun cs aw=>K (.agg cs) aw
 | a=>nrm0C aw a K
theorem uq {a:AV} {K:AV->List Ob->Prop} (h:nrmC aw a K):K (norm aw a).1 (norm aw a).2:=by
 cases a with
 | agg cs=>exact xK (K:=fun cs aw=>K (.agg cs) aw) h
 | _=>exact zH h
def nrmLC:List AV->List Ob->(List AV->List Ob->Prop)->Prop
 | [],aw,K=>K [] aw
 | a::es,aw,K=>nrmC aw a fun a aw=>nrmLC es aw fun es aw=>K (a::es) aw
theorem yq:∀ {es:List AV} {aw:List Ob} {K:List AV->List Ob->Prop},nrmLC es aw K->K (dr aw es).1 (dr aw es).2
 | [],aw,K,h=>h
 | a::es,aw,K,h=>yq (es:=es) (K:=fun es aw=>K (_::es) aw) (uq h)
def nrmRC (aw:List Ob) (a:AV) (K:AV->List Ob->Prop):Prop :=
 match a with
 | .tup vs=>nrmLC vs aw fun vs aw=>K (.tup vs) aw
 | a=>nrmC aw a K
theorem tY {a:AV} {K:AV->List Ob->Prop} (h:nrmRC aw a K):K (fB aw a).1 (fB aw a).2:=by
 cases a with
 | tup vs=>exact yq (K:=fun vs aw=>K (.tup vs) aw) h
 | _=>exact uq h
def argC (n:Nat) (l:List (Nat × AV)):List Operand->List Ob->(List AV->List Ob->Prop)->Prop
 | [],aw,K=>K [] aw
 | x::xs,aw,K=>nrmC aw (evA n l x) fun a aw=>argC n l xs aw fun es aw=>K (a::es) aw
theorem zT:∀ {xs:List Operand} {aw:List Ob} {K:List AV->List Ob->Prop},argC n l xs aw K->K (dr aw (xs.map (evA n l))).1 (dr aw (xs.map (evA n l))).2
 | [],aw,K,h=>h
 | x::xs,aw,K,h=>zT (xs:=xs) (K:=fun es aw=>K (_::es) aw) (uq h)
def calC (n:Nat) (l:List (Nat × AV)) (aw:List Ob) (f:Operand) (args:List Operand) (g:Nat) (es:List AV) (K:List Ob->Prop):Prop :=
 match evA n l f with
 | .func g' caps=>(match Nat.beq g' g with
  | true=>argC n l args aw fun es' aw'=>es'++caps=es/\K aw'
  | false=>False)
 | _=>False
section
variable {d:Option Tmp} {ty:TypeId} {ps:String} {af:Array Edge} {gd:Option (Nat × Bool)} {K2:AV→List Ob→Prop} {f:Operand} {args:Array Operand} {ts:Array TypeId} {g:FuncId} {es:List AV} {v:AV} {obs:List Ob}
theorem rz {K:List Ob->Prop} (h:calC n l aw f args.toList g es K) (hk:∀ aw1,K aw1->CallK P g es aw aw1 K2):OP P N ⟨d,.call ⟨.value f,args,ts⟩,ty,ps,af,gd⟩ (mkA n l) aw K2:=by
 unfold calC at h;split at h
 ·rename_i g' caps hf;split at h
  ·rename_i hb;have:=Li hb;subst this;obtain ⟨h1,h2⟩:=zT h;exact Ji hf rfl rfl (by rw [h1];exact hk _ h2)
  ·exact h.elim
 ·exact h.elim
theorem cD (hc:Fn P g es v) (h:calC n l aw f args.toList g es fun aw1=>K2 v aw1) [hp:PureCs es] [hv:PureC v]:OP P N ⟨d,.call ⟨.value f,args,ts⟩,ty,ps,af,gd⟩ (mkA n l) aw K2 :=
 rz h fun aw1 hK=>k_fn hc (pL hp.out) hv.out hK
theorem cF (hc:Fn P g es v) (h:calC n l aw f args.toList g es fun _=>K2 v aw) [hp:PureCs es] (hv:flat v=true:=by rfl):OP P N ⟨d,.call ⟨.value f,args,ts⟩,ty,ps,af,gd⟩ (mkA n l) aw K2 :=
 rz h fun aw1 hK=>Jc hc (pL hp.out) hv hK
theorem cO (c:Nat) (hc:FnO P g es v obs) (h:calC n l aw f args.toList g es fun _=>fA (v.shift c) fun v=>appC aw obs fun aw=>K2 v aw) [hp:PureCs es] [ho:FlatObs obs] (hv:flatR v=true:=by rfl) (hl:aw.length=c:=by rfl) :
  OP P N ⟨d,.call ⟨.value f,args,ts⟩,ty,ps,af,gd⟩ (mkA n l) aw K2 :=
 rz h fun aw1 hK=>by subst hl;exact k_own hc (pL hp.out) hv ho.out (pR (eZ (K:=fun v=>appC aw obs fun aw=>K2 v aw) hK))
theorem cQ {α:Type} {en:α->List AV} {xs:List α} {e s:Nat} (c:Nat) (hc:FnO P g es v [.arr e s (xs.map en)]) (h:calC n l aw f args.toList g es fun aw=>fA (v.shift c) fun v=>lenC aw c (appC aw [.arr e s (xs.map en)] fun aw=>K2 v aw)) [hp:PureCs es] [he:EnP en] [ho:OwnV v] :
  OP P N ⟨d,.call ⟨.value f,args,ts⟩,ty,ps,af,gd⟩ (mkA n l) aw K2 :=
 rz h fun aw1 hK=>by have h1:=eZ (K:=fun v=>lenC aw1 c (appC aw1 [.arr e s (xs.map en)] fun aw=>K2 v aw)) hK;obtain ⟨h2,h3⟩:=r9 h1;subst h2;exact Ig hc (pL hp.out) he.out ho.out rfl rfl (pR h3)
end
theorem ld_ex {t:Nat} {i:TI} {row:List AV} {off:Nat} {K:AV->Prop} (ht:TOk P t i) (h:wLd i row off K):∃ v,K v/\∀ K':AV->Prop,K' v->b7 P t row off K':=by
 have kA:∀ {m:Nat},aS P t=some true->P.cellsOf t=m->(aggC row off m fun cs=>K (.agg cs))->∃ v,K v/\∀ K':AV->Prop,K' v->b7 P t row off K':=fun {m} hk hm h=>by obtain ⟨h1,h2⟩:=zX h;refine ⟨_,h2,fun K' hK'=>?_⟩;simp only [b7,hk,hm];exact ⟨h1,hK'⟩
 have k1:aS P t=some false->(bV row off fun c=>fA c K)->∃ v,K v/\∀ K':AV->Prop,K' v->b7 P t row off K':=fun hk h=>by obtain ⟨c,h1,h2⟩:=bK h;exact ⟨c,eZ h2,fun K' hK'=>aH hk h1 hK'⟩
 cases i with
 | no=>exact h.elim
 | ag z m fs=>exact kA ht.1.1 ht.1.2.1 h
 | ar z m=>exact kA ht.1 ht.2.1 h
 | s0=>exact k1 ht.1 h
 | _=>exact k1 ht.1.1 h
def resC (tt:TT) (n:Nat) (l:List (Nat × AV)) (aw:List Ob):List ResultVar->(List AV->Prop)->Prop
 | [],K=>K []
 | .tmp t::rs,K=>fA (evA n l (.tmp t)) fun v=>resC tt n l aw rs fun vs=>K (v::vs)
 | .cell a t::rs,K=>(match evA n l (.tmp a) with
  | .ptr id off=>bV aw id fun o=>(match o with
   | .box cs=>wLd (tt.get t) cs off fun v=>resC tt n l aw rs fun vs=>K (v::vs)
   | _=>False)
  | _=>False)
theorem nE (ht:tt.Ok P):∀ {rs:List ResultVar} {K K':List AV->Prop},(∀ vs,K vs->K' vs)->resC tt n l aw rs K->bM P (mkA n l) aw rs K'
 | [],K,K',hm,h=>dN (hm _ h)
 | .tmp t::rs,K,K',hm,h=>dM rfl (nE ht (K:=fun vs=>K (_::vs)) (fun vs hv=>hm _ hv) (eZ h))
 | .cell a t::rs,K,K',hm,h=>by
  unfold resC at h;split at h
  ·rename_i h1;obtain ⟨o,h2,h⟩:=bK h;split at h
   ·obtain ⟨v,h3,h4⟩:=ld_ex (TT.get_ok ht t) h;exact Fj h1 h2 h4 (nE ht (K:=fun vs=>K (v::vs)) (fun vs hv=>hm _ hv) h3)
   ·exact h.elim
  ·exact h.elim
theorem rD_c (ht:tt.Ok P) {rs:List ResultVar} {V:AV} (h:resC tt n l aw rs fun vs=>nrmRC aw (cN vs) fun v _=>v=V) [hV:PureC V]:bM P (mkA n l) aw rs (Ret 0 (fun r aw'=>r=V/\aw'=[]) aw):=by refine nE ht (fun vs hv=>?_) h;have h1:=tY hv;exact yw (v:=V) (aw1:=(fB aw (cN vs)).2) (by rw [<- h1]) hV.out ⟨rfl,rfl⟩
theorem T.rD (ht:tt.Ok P) {Q:Exit->List AV->List Ob->Prop} {rs:List ResultVar} {V:AV} (h:resC tt n l aw rs fun vs=>nrmRC aw (cN vs) fun v _=>v=V)
  [hq:RetI Q (fun fr aw=>bM P fr aw rs (Ret 0 (fun r aw'=>r=V/\aw'=[]) aw))] [hV:PureC V]:T P N .ret Q (mkA n l) aw :=
 T.rt (R:=fun fr aw=>bM P fr aw rs (Ret 0 (fun r aw'=>r=V/\aw'=[]) aw)) (rD_c ht h)
def gA:Nat->AV->Prop
 | k,a=>match a with
  | .sl rows=>Pure (.sl rows)
  | .elt row off=>Pure (.elt row off)
  | .cst _ | .vw _ _ _ _ _ | .ref2 _ | .aptr2 _ _ | .ifc _ _=>False
  | .agg cs=>(match k with
   | 0=>False
   | k+1=>∀ c,c∈cs->gA k c)
  | .tup cs=>(match k with
   | 0=>False
   | k+1=>∀ c,c∈cs->gA k c)
  | .func _ cs=>(match k with
   | 0=>False
   | k+1=>∀ c,c∈cs->gA k c)
  | .bnd _ cs=>(match k with
   | 0=>False
   | k+1=>∀ c,c∈cs->gA k c)
  | _=>True
class GoodA (k:Nat) (a:AV):Prop where
 out:gA k a
class GoodAs (k:Nat) (es:List AV):Prop where
 out:∀ a,a∈es->gA k a
section
variable {k:Nat}
instance:GoodA k .any:=⟨by unfold gA;trivial⟩
instance {q:IntKind} {x:Int}:GoodA k (.int q x):=⟨by unfold gA;trivial⟩
instance {b:Bool}:GoodA k (.bool b):=⟨by unfold gA;trivial⟩
instance {s:List UInt8}:GoodA k (.str s):=⟨by unfold gA;trivial⟩
instance:GoodA k .nils:=⟨by unfold gA;trivial⟩
instance:GoodA k .nilf:=⟨by unfold gA;trivial⟩
instance:GoodA k .nilp:=⟨by unfold gA;trivial⟩
instance:GoodA k .nili:=⟨by unfold gA;trivial⟩
instance {i:Nat}:GoodA k (.ref i):=⟨by unfold gA;trivial⟩
instance {i o:Nat}:GoodA k (.ptr i o):=⟨by unfold gA;trivial⟩
instance {i s j o:Nat}:GoodA k (.aptr i s j o):=⟨by unfold gA;trivial⟩
instance {i:Nat}:GoodA k (.mpr i):=⟨by unfold gA;trivial⟩
instance {i:Nat}:GoodA k (.np i):=⟨by unfold gA;trivial⟩
instance {i j:Nat}:GoodA k (.iref i j):=⟨by unfold gA;trivial⟩
instance {α:Type} {en:α->List AV} {xs:List α} [h:EnP en]:GoodA k (.sl (xs.map en)):=⟨by unfold gA;exact cI h.out _⟩
instance {α:Type} {en:α->List AV} {a:α} {off:Nat} [h:EnP en]:GoodA k (.elt (en a) off):=⟨by unfold gA;exact zF _ _ (h.out a)⟩
instance:GoodAs k []:=⟨fun a h=>by cases h⟩
instance {a:AV} {es:List AV} [h:GoodA k a] [t:GoodAs k es]:GoodAs k (a::es):=⟨fun b hb=>by
 cases hb with
 | head=>exact h.out
 | tail _ hb=>exact t.out b hb⟩
instance {es:List AV} [h:GoodAs k es]:GoodA (k+1) (.agg es):=⟨by unfold gA;exact h.out⟩
instance {es:List AV} [h:GoodAs k es]:GoodA (k+1) (.tup es):=⟨by unfold gA;exact h.out⟩
instance {f:FuncId} {es:List AV} [h:GoodAs k es]:GoodA (k+1) (.func f es):=⟨by unfold gA;exact h.out⟩
instance {f:FuncId} {es:List AV} [h:GoodAs k es]:GoodA (k+1) (.bnd f es):=⟨by unfold gA;exact h.out⟩
instance (a:Item):GoodAs k (aa a):=by unfold aa;infer_instance
instance (a:Node):GoodAs k (au a):=by unfold au;infer_instance
instance (a:Net):GoodAs k (aM a):=by unfold aM;infer_instance
instance (a:Keyed):GoodAs k (aL a):=by unfold aL;infer_instance
instance (a:Memory):GoodAs k (aB a):=by unfold aB;infer_instance
instance (a:Choice):GoodAs k (aA a):=by unfold aA;infer_instance
instance (a:State):GoodAs k (bC a):=by unfold bC;infer_instance
instance (a:Move):GoodAs k (bq a):=by unfold bq;infer_instance
instance (a:Write):GoodAs k (a9 a):=by unfold a9;infer_instance
instance (a:Disk):GoodAs k (bX a):=by unfold bX;infer_instance
instance (a:Shop):GoodAs k (eS a):=by unfold eS;infer_instance
instance (a:Happening):GoodAs k (cC a):=by unfold cC;infer_instance
instance (a:Ends):GoodAs k (be a):=by unfold be;infer_instance
end
theorem yz {ρ:List Nat} {k id i:Nat} (h:ρ[k]?=some id):Ren ρ (.iref k i) (.iref id i):=fun σ w F v hr σ' hσ=>by
 cases hr with
 | iref _ _ a n c vs hg h0=>exact .iref k i a n c vs (by rw [hσ k id h];exact hg) h0
theorem rl:Pure .nilp:=fun σ w F v hr σ'=>by cases hr;exact .nilp
theorem ri:Pure .nili:=fun σ w F v hr σ'=>by cases hr;exact .nili
def mpC (f:AV->AV->(AV->Prop)->Prop):List AV->List AV->(List AV->Prop)->Prop
 | [],_,K=>K []
 | a'::es',es,K=>(match es with
  | []=>False
  | a::es=>f a' a fun b=>mpC f es' es fun bs=>K (b::bs))
def mpA (ρ:List Nat):Nat->AV->AV->(AV->Prop)->Prop
 | k,a',a,K=>match a' with
  | .any=>K a
  | .ref i=>bV ρ i fun i=>K (.ref i)
  | .ptr i o=>bV ρ i fun i=>K (.ptr i o)
  | .aptr i s j o=>bV ρ i fun i=>K (.aptr i s j o)
  | .mpr i=>bV ρ i fun i=>K (.mpr i)
  | .np i=>bV ρ i fun i=>K (.np i)
  | .iref i j=>bV ρ i fun i=>K (.iref i j)
  | .agg cs=>(match k with
   | 0=>False
   | k+1=>(match a with
    | .agg ds=>mpC (mpA ρ k) cs ds fun cs=>K (.agg cs)
    | _=>False))
  | .tup cs=>(match k with
   | 0=>False
   | k+1=>(match a with
    | .tup ds=>mpC (mpA ρ k) cs ds fun cs=>K (.tup cs)
    | _=>False))
  | .func f cs=>(match k with
   | 0=>False
   | k+1=>(match a with
    | .func _ ds=>mpC (mpA ρ k) cs ds fun cs=>K (.func f cs)
    | _=>False))
  | .bnd f cs=>(match k with
   | 0=>False
   | k+1=>(match a with
    | .bnd _ ds=>mpC (mpA ρ k) cs ds fun cs=>K (.bnd f cs)
    | _=>False))
  | a'=>fA a' K
theorem iT {ρ:List Nat} {k:Nat} (ih:∀ {a' a:AV} {K:AV->Prop},mpA ρ k a' a K->∃ b,K b/\(gA k a'->b=a->Ren ρ a' a)):∀ {es' es:List AV} {K:List AV->Prop},mpC (mpA ρ k) es' es K ->
  ∃ bs,K bs/\((∀ a,a∈es'->gA k a)->bs=es->b8 ρ es' es)
 | [],es,K,h=>⟨[],h,fun _ e=>by subst e;trivial⟩
 | a'::es',[],K,h=>h.elim
 | a'::es',a::es,K,h=>by
  obtain ⟨b,h1,h2⟩:=ih h;obtain ⟨bs,h3,h4⟩:=iT ih h1;refine ⟨b::bs,h3,fun hg e=>?_⟩;injection e with e1 e2
  exact ⟨h2 (hg _ (.head _)) e1,h4 (fun x hx=>hg x (.tail _ hx)) e2⟩
theorem lM {ρ:List Nat}:∀ {k:Nat} {a' a:AV} {K:AV->Prop},mpA ρ k a' a K->∃ b,K b/\(gA k a'->b=a->Ren ρ a' a):=by
 intro k;induction k with
 | zero =>
  intro a' a K h;cases a' with
  | any=>exact ⟨a,h,fun _ _=>bY⟩
  | ref i=>obtain ⟨j,h1,h2⟩:=bK h;exact ⟨_,h2,fun _ e=>by subst e;exact cb h1⟩
  | ptr i o=>obtain ⟨j,h1,h2⟩:=bK h;exact ⟨_,h2,fun _ e=>by subst e;exact am h1⟩
  | aptr i s j o=>obtain ⟨j,h1,h2⟩:=bK h;exact ⟨_,h2,fun _ e=>by subst e;exact Av h1 rfl⟩
  | mpr i=>obtain ⟨j,h1,h2⟩:=bK h;exact ⟨_,h2,fun _ e=>by subst e;exact AR h1⟩
  | np i=>obtain ⟨j,h1,h2⟩:=bK h;exact ⟨_,h2,fun _ e=>by subst e;exact rn_np h1⟩
  | iref i j=>obtain ⟨j,h1,h2⟩:=bK h;exact ⟨_,h2,fun _ e=>by subst e;exact yz h1⟩
  | agg cs=>exact h.elim
  | tup cs=>exact h.elim
  | func f cs=>exact h.elim
  | bnd f cs=>exact h.elim
  | int q x=>exact ⟨_,h,fun _ e=>by subst e;exact dg (aI _ _)⟩
  | bool b=>exact ⟨_,h,fun _ e=>by subst e;exact dg (iG _)⟩
  | str s=>exact ⟨_,h,fun _ e=>by subst e;exact dg (aX _)⟩
  | nils=>exact ⟨_,h,fun _ e=>by subst e;exact dg bJ⟩
  | nilf=>exact ⟨_,h,fun _ e=>by subst e;exact dg pq⟩
  | nilp=>exact ⟨_,h,fun _ e=>by subst e;exact dg rl⟩
  | nili=>exact ⟨_,h,fun _ e=>by subst e;exact dg ri⟩
  | sl rows=>exact ⟨_,h,fun g e=>by subst e;exact dg (by unfold gA at g;exact g)⟩
  | elt row off=>exact ⟨_,h,fun g e=>by subst e;exact dg (by unfold gA at g;exact g)⟩
  | cst v=>exact ⟨_,h,fun g e=>by unfold gA at g;exact g.elim⟩
  | vw a1 a2 a3 a4 a5=>exact ⟨_,h,fun g e=>by unfold gA at g;exact g.elim⟩
  | ref2 i=>exact ⟨_,h,fun g e=>by unfold gA at g;exact g.elim⟩
  | aptr2 i j=>exact ⟨_,h,fun g e=>by unfold gA at g;exact g.elim⟩
  | ifc t a1=>exact ⟨_,h,fun g e=>by unfold gA at g;exact g.elim⟩
 | succ k ih =>
  intro a' a K h;cases a' with
  | any=>exact ⟨a,h,fun _ _=>bY⟩
  | ref i=>obtain ⟨j,h1,h2⟩:=bK h;exact ⟨_,h2,fun _ e=>by subst e;exact cb h1⟩
  | ptr i o=>obtain ⟨j,h1,h2⟩:=bK h;exact ⟨_,h2,fun _ e=>by subst e;exact am h1⟩
  | aptr i s j o=>obtain ⟨j,h1,h2⟩:=bK h;exact ⟨_,h2,fun _ e=>by subst e;exact Av h1 rfl⟩
  | mpr i=>obtain ⟨j,h1,h2⟩:=bK h;exact ⟨_,h2,fun _ e=>by subst e;exact AR h1⟩
  | np i=>obtain ⟨j,h1,h2⟩:=bK h;exact ⟨_,h2,fun _ e=>by subst e;exact rn_np h1⟩
  | iref i j=>obtain ⟨j,h1,h2⟩:=bK h;exact ⟨_,h2,fun _ e=>by subst e;exact yz h1⟩
  | agg cs =>
   cases a with
   | agg ds =>
    obtain ⟨bs,h1,h2⟩:=iT (ρ:=ρ) ih h;exact ⟨_,h1,fun g e=>by injection e with e;exact IY (h2 (by unfold gA at g;exact g) e)⟩
   | _=>exact h.elim
  | tup cs =>
   cases a with
   | tup ds =>
    obtain ⟨bs,h1,h2⟩:=iT (ρ:=ρ) ih h;exact ⟨_,h1,fun g e=>by injection e with e;exact Iw (h2 (by unfold gA at g;exact g) e)⟩
   | _=>exact h.elim
  | func f cs =>
   cases a with
   | func f' ds =>
    obtain ⟨bs,h1,h2⟩:=iT (ρ:=ρ) ih h;exact ⟨_,h1,fun g e=>by injection e with e0 e;subst e0;exact fx (h2 (by unfold gA at g;exact g) e)⟩
   | _=>exact h.elim
  | bnd f cs =>
   cases a with
   | bnd f' ds =>
    obtain ⟨bs,h1,h2⟩:=iT (ρ:=ρ) ih h;exact ⟨_,h1,fun g e=>by injection e with e0 e;subst e0;exact lK (h2 (by unfold gA at g;exact g) e)⟩
   | _=>exact h.elim
  | int q x=>exact ⟨_,h,fun _ e=>by subst e;exact dg (aI _ _)⟩
  | bool b=>exact ⟨_,h,fun _ e=>by subst e;exact dg (iG _)⟩
  | str s=>exact ⟨_,h,fun _ e=>by subst e;exact dg (aX _)⟩
  | nils=>exact ⟨_,h,fun _ e=>by subst e;exact dg bJ⟩
  | nilf=>exact ⟨_,h,fun _ e=>by subst e;exact dg pq⟩
  | nilp=>exact ⟨_,h,fun _ e=>by subst e;exact dg rl⟩
  | nili=>exact ⟨_,h,fun _ e=>by subst e;exact dg ri⟩
  | sl rows=>exact ⟨_,h,fun g e=>by subst e;exact dg (by unfold gA at g;exact g)⟩
  | elt row off=>exact ⟨_,h,fun g e=>by subst e;exact dg (by unfold gA at g;exact g)⟩
  | cst v=>exact ⟨_,h,fun g e=>by unfold gA at g;exact g.elim⟩
  | vw a1 a2 a3 a4 a5=>exact ⟨_,h,fun g e=>by unfold gA at g;exact g.elim⟩
  | ref2 i=>exact ⟨_,h,fun g e=>by unfold gA at g;exact g.elim⟩
  | aptr2 i j=>exact ⟨_,h,fun g e=>by unfold gA at g;exact g.elim⟩
  | ifc t a1=>exact ⟨_,h,fun g e=>by unfold gA at g;exact g.elim⟩
def gO:Ob->Prop
 | .dead=>True
 | .box cs=>∀ c,c∈cs->gA 3 c
 | .arr _ _ rows=>∀ row,row∈rows->∀ x,x∈row->Pure x
 | .mp ks vs=>∀ c,c∈ks++vs->Pure c
 | .hd _ _=>True
 | .cl _ _ cells=>∀ rows,(Cell.own rows∈cells∨Cell.fz rows∈cells)->∀ row,row∈rows->∀ x,x∈row->Pure x
 | .boxB _ cs=>∀ c,c∈cs->gA 3 c
 | _=>False
class PureK {α:Type} (k:α->AV):Prop where
 out:∀ a,Pure (k a)
instance:PureK kI:=⟨fun _=>aI _ _⟩
instance:PureK kS:=⟨fun _=>aX _⟩
instance:PureK kB:=⟨fun _=>iG _⟩
instance:PureK kU:=⟨fun _=>zj _ (cU (ls:=[]) trivial)⟩
class GoodO (o:Ob):Prop where
 out:gO o
class GoodOs (os:List Ob):Prop where
 out:∀ o,o∈os->gO o
instance:GoodO .dead:=⟨trivial⟩
instance {cs:List AV} [h:GoodAs 3 cs]:GoodO (.box cs):=⟨h.out⟩
instance {α:Type} {en:α->List AV} {xs:List α} {e s:Nat} [h:EnP en]:GoodO (.arr e s (xs.map en)):=⟨fun row hr x hx=>by obtain ⟨a,_,rfl⟩:=KT.1 hr;exact h.out a x hx⟩
instance {e s:Nat}:GoodO (.arr e s []):=⟨fun row hr=>by cases hr⟩
instance {e k:Nat}:GoodO (.hd e k):=⟨trivial⟩
instance {t:TypeId} {cs:List AV} [h:GoodAs 3 cs]:GoodO (.boxB t cs):=⟨h.out⟩
instance {α β:Type} {k:α->AV} {k':β->AV} {xs:List α} {ys:List β} [h:PureK k] [h':PureK k']:GoodO (.mp (xs.map k) (ys.map k')):=⟨fun c hc=>by
 rcases KJ.1 hc with hc | hc<;>obtain ⟨a,_,rfl⟩:=KT.1 hc
 ·exact h.out a
 ·exact h'.out a⟩
instance:GoodOs []:=⟨fun o h=>by cases h⟩
instance {o:Ob} {os:List Ob} [h:GoodO o] [t:GoodOs os]:GoodOs (o::os):=⟨fun b hb=>by
 cases hb with
 | head=>exact h.out
 | tail _ hb=>exact t.out b hb⟩
instance {zs bs:List Ob} [h:GoodOs zs] [t:GoodOs bs]:GoodOs (zs++bs):=⟨fun o ho=>(KJ.1 ho).elim (h.out o) (t.out o)⟩
instance {zs:List Ob} {i:Nat} {o:Ob} [h:GoodOs zs] [t:GoodO o]:GoodOs (zs.set i o):=⟨fun b hb=>(K6 hb).elim (h.out b) (fun e=>by rw [e];exact t.out)⟩
def mpO (ρ:List Nat) (o' o:Ob) (K:Ob->Prop):Prop :=
 match o' with
 | .dead=>K o
 | .box cs=>(match o with
  | .box ds=>mpC (mpA ρ 3) cs ds fun cs=>K (.box cs)
  | _=>False)
 | .hd e k=>bV ρ k fun k=>K (.hd e k)
 | .arr e s rows=>K (.arr e s rows)
 | .mp ks vs=>K (.mp ks vs)
 | .cl e s cells=>K (.cl e s cells)
 | .boxB t cs=>(match o with
  | .boxB _ ds=>mpC (mpA ρ 3) cs ds fun cs=>K (.boxB t cs)
  | _=>False)
 | _=>False
def mpOs (ρ:List Nat) (aw:List Ob):List Nat->List Ob->(List Ob->List Ob->Prop)->Prop
 | [],[],K=>K [] []
 | id::ids,o'::os',K=>bV aw id fun o=>mpO ρ o' o fun b=>mpOs ρ aw ids os' fun bs os=>K (b::bs) (o::os)
 | _,_,_=>False
theorem IH {ρ:List Nat} {o' o:Ob} {K:Ob->Prop} (h:mpO ρ o' o K):∃ b,K b/\(gO o'->b=o->RenO ρ o' o):=by
 cases o' with
 | dead=>exact ⟨o,h,fun _ _=>trivial⟩
 | box cs =>
  cases o with
  | box ds =>
   obtain ⟨bs,h1,h2⟩:=iT (ρ:=ρ) lM h;exact ⟨_,h1,fun g e=>by injection e with e;exact h2 g e⟩
  | _=>exact h.elim
 | hd e k =>
  obtain ⟨j,h1,h2⟩:=bK h;exact ⟨_,h2,fun _ e=>by subst e;exact ⟨rfl,h1⟩⟩
 | arr e s rows=>exact ⟨_,h,fun g e=>by subst e;exact ⟨rfl,rfl,rfl,fun row hr x hx=>gk (g row hr x hx)⟩⟩
 | mp ks vs=>exact ⟨_,h,fun g e=>by subst e;exact ⟨rx fun c hc=>g c (List.mem_append_left _ hc),rx fun c hc=>g c (List.mem_append_right _ hc)⟩⟩
 | cl e s cells=>exact ⟨_,h,fun g e=>by subst e;exact ⟨rfl,rfl,rfl,g⟩⟩
 | arrU e s rows x=>exact h.elim
 | boxB t cs =>
  cases o with
  | boxB t' ds =>
   obtain ⟨bs,h1,h2⟩:=iT (ρ:=ρ) lM h;exact ⟨_,h1,fun g e=>by injection e with e0 e;exact ⟨e0,h2 g e⟩⟩
  | _=>exact h.elim
theorem lv {ρ:List Nat}:∀ {ids:List Nat} {os':List Ob} {K:List Ob->List Ob->Prop},mpOs ρ aw ids os' K->∃ bs os,K bs os/\((∀ o,o∈os'->gO o)->bs=os->bQ ρ aw ids os')
 | [],[],K,h=>⟨[],[],h,fun _ _=>trivial⟩
 | id::ids,o'::os',K,h=>by
  obtain ⟨o,h1,h⟩:=bK h;obtain ⟨b,h2,h3⟩:=IH h;obtain ⟨bs,os,h4,h5⟩:=lv h2;refine ⟨b::bs,o::os,h4,fun hg e=>?_⟩;injection e with e1 e2
  exact ⟨⟨o,h1,h3 (hg _ (.head _)) e1⟩,h5 (fun x hx=>hg x (.tail _ hx)) e2⟩
 | [],_::_,K,h=>h.elim
 | _::_,[],K,h=>h.elim
def mpF (ρ:List Nat):List (Nat × AV)->List (Nat × AV)->(List AV->List AV->Prop)->Prop
 | [],_,K=>K [] []
 | (s,v)::r,l,K=>fA (lkA l s) fun a=>mpA ρ 3 v a fun b=>mpF ρ r l fun bs es=>K (b::bs) (a::es)
class GoodF (l:List (Nat × AV)):Prop where
 out:∀ s v,(s,v)∈l->gA 3 v
instance:GoodF []:=⟨fun s v h=>by cases h⟩
instance {s:Nat} {v:AV} {r:List (Nat × AV)} [h:GoodA 3 v] [t:GoodF r]:GoodF ((s,v)::r):=⟨fun s' v' hb=>by
 cases hb with
 | head=>exact h.out
 | tail _ hb=>exact t.out s' v' hb⟩
theorem uy {ρ:List Nat}:∀ {l' l:List (Nat × AV)} {K:List AV->List AV->Prop},mpF ρ l' l K->∃ bs es,K bs es/\((∀ s v,(s,v)∈l'->gA 3 v)->bs=es->RenA ρ l' l)
 | [],l,K,h=>⟨[],[],h,fun _ _=>trivial⟩
 | (s,v)::r,l,K,h=>by
  have h:=eZ (a:=lkA l s) (K:=fun a=>mpA ρ 3 v a fun b=>mpF ρ r l fun bs es=>K (b::bs) (a::es)) h;obtain ⟨b,h1,h2⟩:=lM h;obtain ⟨bs,es,h3,h4⟩:=uy h1;refine ⟨b::bs,lkA l s::es,h3,fun hg e=>?_⟩;injection e with e1 e2
  exact ⟨h2 (hg _ _ (.head _)) e1,h4 (fun s v hv=>hg s v (.tail _ hv)) e2⟩
def nilC:List (Nat × TypeId × Nat)->List (Nat × AV)->List Ob->Nat->(List (Nat × AV)->List Ob->Prop)->Prop
 | [],l,aw,_,K=>K l aw
 | (s,e,z)::r,l,aw,c,K=>(match lkA l s with
  | .nils=>pushC aw (.arr e z []) fun aw=>nilC r ((s,.ref c)::l) aw (c+1) K
  | _=>False)
theorem Ai:∀ {nl:List (Nat × TypeId × Nat)} {l:List (Nat × AV)} {aw:List Ob} {c:Nat} {K:List (Nat × AV)->List Ob->Prop},aw.length=c->(nl.all fun p=>Nat.blt p.1 n)=true->nilC nl l aw c K->K (nilA n nl l aw).1 (nilA n nl l aw).2
 | [],l,aw,c,K,_,_,h=>h
 | (s,e,z)::r,l,aw,c,K,hc,hn,h=>by
  subst hc;unfold nilC at h;rw [MD,Ly] at hn;split at h
  ·rename_i hv;have h:=Ai (nl:=r) (by simp) hn.2 (lp h);unfold nilA;simp only [hn.1,hv];exact h
  ·exact h.elim
theorem wk (nl:List (Nat × TypeId × Nat)) (ρ:List Nat) (c:Nat) {l':List (Nat × AV)} (h:nilC nl l aw c fun l aw=>mpF ρ l' l fun bs es=>mpOs ρ aw ρ aw' fun bs' es'=>(bs,bs')=(es,es')) [g:GoodF l'] [g':GoodOs aw'] (hc:aw.length=c:=by rfl) (hn:(nl.all fun p=>Nat.blt p.1 n)=true:=by rfl)
  (h1:ρ.Nodup:=by decide) (h2:∀ k,k<N->ρ[k]?=some k:=by decide):Weak N (mkA n l) aw (mkA n l') aw':=by
 have h:=Ai hc hn h
 obtain ⟨bs,es,h,h3⟩:=uy h
 obtain ⟨bs',es',h,h4⟩:=lv h
 injection h with e1 e2
 exact Weak.mkN nl ρ h1 h2 rfl (h3 g.out e1) (h4 g'.out e2)
def nilVC:List (Nat × TypeId × Nat)->List AV->List Ob->Nat->(List AV->List Ob->Prop)->Prop
 | [],vs,aw,_,K=>K vs aw
 | (s,e,z)::r,vs,aw,c,K=>bV vs s fun v=>(match v with
  | .nils=>setC vs s (.ref c) fun vs=>pushC aw (.arr e z []) fun aw=>nilVC r vs aw (c+1) K
  | _=>False)
theorem yv:∀ {nl:List (Nat × TypeId × Nat)} {vs:List AV} {aw:List Ob} {c:Nat} {K:List AV->List Ob->Prop},aw.length=c->nilVC nl vs aw c K->K (nilify nl vs aw).1 (nilify nl vs aw).2
 | [],vs,aw,c,K,_,h=>h
 | (s,e,z)::r,vs,aw,c,K,hc,h=>by
  subst hc;obtain ⟨v,h1,h⟩:=bK h;split at h
  ·have h:=yv (nl:=r) (by simp) (lp (g8 h));unfold nilify;simp only [h1];exact h
  ·exact h.elim
section
variable {Q:Exit→List AV→List Ob→Prop} {rs:List ResultVar} {V:AV} {obs:List Ob} {M:Nat}
theorem rO_c (ht:tt.Ok P) (nl:List (Nat × TypeId × Nat)) (ρ:List Nat) (c:Nat)
  (h:resC tt n l aw rs fun vs=>nilVC nl vs aw c fun vs aw=>fA (cN vs) fun a=>mpA ρ 3 V a fun b=>mpOs ρ aw ρ obs fun bs es=>(b,bs)=(a,es))
  [g:GoodA 3 V] [g':GoodOs obs] (hc:aw.length=c) (h1:ρ.Nodup) (h2:∀ k,k<M->ρ[k]?=some k):bM P (mkA n l) aw rs (Ret M (fun r aw'=>r=V/\aw'=obs) aw):=by
 refine nE ht (fun vs hv=>?_) h
 have h:=yv hc hv
 have h:=eZ (K:=fun a=>mpA ρ 3 V a fun b=>mpOs ρ (nilify nl vs aw).2 ρ obs fun bs es=>(b,bs)=(a,es)) h
 obtain ⟨b,h,h3⟩:=lM h
 obtain ⟨bs,es,h,h4⟩:=lv h
 injection h with e1 e2
 exact dO V nl ρ h1 h2 rfl (h3 g.out e1) (h4 g'.out e2) ⟨rfl,rfl⟩
theorem T.rO (ht:tt.Ok P) (nl:List (Nat × TypeId × Nat)) (ρ:List Nat) (c:Nat)
  (h:resC tt n l aw rs fun vs=>nilVC nl vs aw c fun vs aw=>fA (cN vs) fun a=>mpA ρ 3 V a fun b=>mpOs ρ aw ρ obs fun bs es=>(b,bs)=(a,es))
  [hq:RetI Q (fun fr aw=>bM P fr aw rs (Ret M (fun r aw'=>r=V/\aw'=obs) aw))] [g:GoodA 3 V] [g':GoodOs obs] (hc:aw.length=c:=by rfl) (h1:ρ.Nodup:=by decide) (h2:∀ k,k<M->ρ[k]?=some k:=by decide):T P N .ret Q (mkA n l) aw :=
 T.rt (R:=fun fr aw=>bM P fr aw rs (Ret M (fun r aw'=>r=V/\aw'=obs) aw)) (rO_c ht nl ρ c h hc h1 h2)
theorem rN_c (ht:tt.Ok P) (ρ:List Nat) (h:resC tt n l aw rs fun vs=>nrmRC aw (cN vs) fun a aw=>mpA ρ 3 V a fun b=>mpOs ρ aw ρ obs fun bs es=>(b,bs)=(a,es))
  [g:GoodA 3 V] [g':GoodOs obs] (h1:ρ.Nodup) (h2:∀ k,k<M->ρ[k]?=some k):bM P (mkA n l) aw rs (Ret M (fun r aw'=>r=V/\aw'=obs) aw):=by
 refine nE ht (fun vs hv=>?_) h
 have h:=tY hv
 obtain ⟨b,h,h3⟩:=lM h
 obtain ⟨bs,es,h,h4⟩:=lv h
 injection h with e1 e2
 exact GP V ρ rfl h1 h2 (h3 g.out e1) (h4 g'.out e2) ⟨rfl,rfl⟩
theorem T.rN (ht:tt.Ok P) (ρ:List Nat) (h:resC tt n l aw rs fun vs=>nrmRC aw (cN vs) fun a aw=>mpA ρ 3 V a fun b=>mpOs ρ aw ρ obs fun bs es=>(b,bs)=(a,es))
  [hq:RetI Q (fun fr aw=>bM P fr aw rs (Ret M (fun r aw'=>r=V/\aw'=obs) aw))] [g:GoodA 3 V] [g':GoodOs obs] (h1:ρ.Nodup:=by decide) (h2:∀ k,k<M->ρ[k]?=some k:=by decide):T P N .ret Q (mkA n l) aw :=
 T.rt (R:=fun fr aw=>bM P fr aw rs (Ret M (fun r aw'=>r=V/\aw'=obs) aw)) (rN_c ht ρ h h1 h2)
end
def stD (l:List (Nat × AV)) (d:Option Tmp) (r:AV) (K:List (Nat × AV)->Prop):Prop :=
 match d with
 | some t=>K ((t,r)::l)
 | none=>K l
theorem eK {d:Option Tmp} {r:AV} {K:List (Nat × AV)->Prop} (h:stD l d r K):K (dB l d r):=by cases d<;>exact h
section
variable {ops:Array Oper} {os:List Oper} {K:List AV→List Ob→Prop} {k:Nat} {li li':Array Bool} {o:Oper} {fr fr':List AV}
theorem yg' (ht:tt.Ok P) (c:Nat) {j t:Nat} {want b:Bool} (hbw:b=want) (h:wE tt n l aw c o.op fun r aw _=>stD l o.dst r fun l=>RS P N ops os K (mkA n l) aw)
  (hg:o.guard=some (j,want)) (hj:(ops[j]?).bind (·.dst)=some t) (hb:evA n l (.tmp t)=.bool b) (hc:aw.length=c):RS P N ops (o::os) K (mkA n l) aw :=
 RS.yes hg hj hb hbw ((wE_ok ht hc h).mono fun r aw' h=>eK (K:=fun l=>RS P N ops os K (mkA n l) aw') h)
theorem oy' (ht:tt.Ok P) {i:Nat} (c:Nat) {j t:Nat} {want b:Bool} (hbw:b=want) (hi:ops[i]?=some o) (h:wE tt n l aw c o.op fun r aw _=>stD l o.dst r fun l=>K (mkA n l) aw)
  (hg:o.guard=some (j,want)) (hj:(ops[j]?).bind (·.dst)=some t) (hb:evA n l (.tmp t)=.bool b) (hc:aw.length=c):RO P N ops i K (mkA n l) aw :=
 RO.yes hi hg hj hb hbw ((wE_ok ht hc h).mono fun r aw' h=>eK (K:=fun l=>K (mkA n l) aw') h)
theorem ry' (ht:tt.Ok P) (i:Nat) {j t:Nat} {want b:Bool} (hbw:b=want) (hi:ops[i]?=some o) (h:wV tt n l aw o.op fun r=>stD l o.dst r fun l=>RA P N ops k (li.setIfInBounds i true) K (mkA n l) aw)
  (hs:Region.noSelect ops=true) (hf:Region.free .any ops li i=true) (hr:(Region.ready .any ops li).contains i=true)
  (hg:o.guard=some (j,want)) (hj:(ops[j]?).bind (·.dst)=some t) (hb:evA n l (.tmp t)=.bool b) (hn:iO o.op=true):RA P N ops (k+1) li K (mkA n l) aw :=
 ⟨fun st e1 e2 σ w F a hc R hR=>by obtain ⟨v,r,hrun,hrel,hk⟩:=nw hc hn (wV_ok ht h);refine wpAny_take hi hs hf hr (fun c a w hp=>hp) (.inl ⟨by simp [Region.wanted,hg,kR hc hj hb,hbw],hrun⟩) (RA.out (eK (K:=fun l=>RA P N ops k (li.setIfInBounds i true) K (mkA n l) aw) hk) st e1 e2 σ w F _ ?_ R hR);have:=dm hc hrel o.dst;rwa [dl] at this⟩
open RK in
theorem rL' (ht:tt.Ok P) (D:List Nat) (i:Nat) (hi:ops[i]?=some o) (h:wV tt n l aw o.op fun r=>stD l o.dst r fun l=>RA P N ops k (li.setIfInBounds i true) K (mkA n l) aw)
  (hs:Region.noSelect ops=true) (hf:loadFree ops li D i=true) (hr:(Region.ready .any ops li).contains i=true) (hg:o.guard=none):RA P N ops (k+1) li K (mkA n l) aw :=
 ⟨fun st e1 e2 σ w F a hc R hR=>by obtain ⟨v,r,hrun,hrel,hk⟩:=xE hc (wV_ok ht h);refine wa D hi hs hf hr (fun c a w hp=>hp) (.inl ⟨by simp [Region.wanted,hg],hrun⟩) (RA.out (eK (K:=fun l=>RA P N ops k (li.setIfInBounds i true) K (mkA n l) aw) hk) st e1 e2 σ w F _ ?_ R hR);have:=dm hc hrel o.dst;rwa [dl] at this⟩
theorem sO (h:OP P N o (mkA n l) aw fun r aw=>stD l o.dst r fun l=>RS P N ops os K (mkA n l) aw) (hg:o.guard=none:=by rfl):RS P N ops (o::os) K (mkA n l) aw :=
 RS.op hg (h.mono fun r aw' h=>eK (K:=fun l=>RS P N ops os K (mkA n l) aw') h)
theorem sQ (h:vcQ P (mkA n l) aw o.op fun r=>stD l o.dst r fun l=>RS P N ops os K (mkA n l) aw) (hg:o.guard=none:=by rfl) (hq:lu o.op=true:=by rfl):RS P N ops (o::os) K (mkA n l) aw :=
 sO (OP.q (K2:=fun r aw=>stD l o.dst r fun l=>RS P N ops os K (mkA n l) aw) hq h) hg
theorem yO {j t:Nat} {want b:Bool} (hbw:b=want) (h:OP P N o (mkA n l) aw fun r aw=>stD l o.dst r fun l=>RS P N ops os K (mkA n l) aw) (hg:o.guard=some (j,want):=by rfl) (hj:(ops[j]?).bind (·.dst)=some t:=by rfl) (hb:evA n l (.tmp t)=.bool b:=by rfl) :
 RS P N ops (o::os) K (mkA n l) aw:=RS.yes hg hj hb hbw (h.mono fun r aw' h=>eK (K:=fun l=>RS P N ops os K (mkA n l) aw') h)
theorem yQ {j t:Nat} {want b:Bool} (hbw:b=want) (h:vcQ P (mkA n l) aw o.op fun r=>stD l o.dst r fun l=>RS P N ops os K (mkA n l) aw) (hg:o.guard=some (j,want):=by rfl) (hj:(ops[j]?).bind (·.dst)=some t:=by rfl) (hb:evA n l (.tmp t)=.bool b:=by rfl) (hq:lu o.op=true:=by rfl) :
 RS P N ops (o::os) K (mkA n l) aw:=yO hbw (OP.q (K2:=fun r aw=>stD l o.dst r fun l=>RS P N ops os K (mkA n l) aw) hq h) hg hj hb
theorem sN {j t:Nat} {want b:Bool} (hbw:b=!want) (h:stD l o.dst (.tup []) fun l=>RS P N ops os K (mkA n l) aw) (hg:o.guard=some (j,want):=by rfl) (hj:(ops[j]?).bind (·.dst)=some t:=by rfl) (hb:evA n l (.tmp t)=.bool b:=by rfl) :
 RS P N ops (o::os) K (mkA n l) aw:=RS.no hg hj hb hbw (eK (K:=fun l=>RS P N ops os K (mkA n l) aw) h)
theorem oO {i:Nat} (hi:ops[i]?=some o) (h:OP P N o (mkA n l) aw fun r aw=>stD l o.dst r fun l=>K (mkA n l) aw) (hg:o.guard=none:=by rfl):RO P N ops i K (mkA n l) aw :=
 RO.op hi hg (h.mono fun r aw' h=>eK (K:=fun l=>K (mkA n l) aw') h)
theorem oP {i:Nat} (hi:ops[i]?=some o) {j t:Nat} {want b:Bool} (hbw:b=want) (h:OP P N o (mkA n l) aw fun r aw=>stD l o.dst r fun l=>K (mkA n l) aw) (hg:o.guard=some (j,want):=by rfl) (hj:(ops[j]?).bind (·.dst)=some t:=by rfl) (hb:evA n l (.tmp t)=.bool b:=by rfl):RO P N ops i K (mkA n l) aw :=
 RO.yes hi hg hj hb hbw (h.mono fun r aw' h=>eK (K:=fun l=>K (mkA n l) aw') h)
theorem r0 (i:Nat) (hi:ops[i]?=some o) (h:vcQ P (mkA n l) aw o.op fun r=>stD l o.dst r fun l=>RA P N ops k (li.setIfInBounds i true) K (mkA n l) aw) (hs:Region.noSelect ops=true:=by decide +kernel) (hf:Region.free .any ops li i=true:=by decide +kernel)
  (hr:(Region.ready .any ops li).contains i=true:=by decide +kernel) (hg:o.guard=none:=by rfl) (hn:iO o.op=true:=by rfl):RA P N ops (k+1) li K (mkA n l) aw :=
 ⟨fun st e1 e2 σ w F a hc R hR=>by obtain ⟨v,r,hrun,hrel,hk⟩:=nw hc hn h;refine wpAny_take hi hs hf hr (fun c a w hp=>hp) (.inl ⟨by simp [Region.wanted,hg],hrun⟩) (RA.out (eK (K:=fun l=>RA P N ops k (li.setIfInBounds i true) K (mkA n l) aw) hk) st e1 e2 σ w F _ ?_ R hR);have:=dm hc hrel o.dst;rwa [dl] at this⟩
theorem r1 (i:Nat) (hi:ops[i]?=some o) {j t:Nat} {want b:Bool} (hbw:b=want) (h:vcQ P (mkA n l) aw o.op fun r=>stD l o.dst r fun l=>RA P N ops k (li.setIfInBounds i true) K (mkA n l) aw) (hs:Region.noSelect ops=true:=by decide +kernel) (hf:Region.free .any ops li i=true:=by decide +kernel)
  (hr:(Region.ready .any ops li).contains i=true:=by decide +kernel) (hg:o.guard=some (j,want):=by rfl) (hj:(ops[j]?).bind (·.dst)=some t:=by rfl) (hb:evA n l (.tmp t)=.bool b:=by rfl) (hn:iO o.op=true:=by rfl):RA P N ops (k+1) li K (mkA n l) aw :=
 ⟨fun st e1 e2 σ w F a hc R hR=>by obtain ⟨v,r,hrun,hrel,hk⟩:=nw hc hn h;refine wpAny_take hi hs hf hr (fun c a w hp=>hp) (.inl ⟨by simp [Region.wanted,hg,kR hc hj hb,hbw],hrun⟩) (RA.out (eK (K:=fun l=>RA P N ops k (li.setIfInBounds i true) K (mkA n l) aw) hk) st e1 e2 σ w F _ ?_ R hR);have:=dm hc hrel o.dst;rwa [dl] at this⟩
theorem r2 (i:Nat) (hi:ops[i]?=some o) {j t:Nat} {want b:Bool} (hbw:b=!want) (h:stD l o.dst (.tup []) fun l=>RA P N ops k (li.setIfInBounds i true) K (mkA n l) aw) (hs:Region.noSelect ops=true:=by decide +kernel) (hf:Region.free .any ops li i=true:=by decide +kernel)
  (hr:(Region.ready .any ops li).contains i=true:=by decide +kernel) (hg:o.guard=some (j,want):=by rfl) (hj:(ops[j]?).bind (·.dst)=some t:=by rfl) (hb:evA n l (.tmp t)=.bool b:=by rfl):RA P N ops (k+1) li K (mkA n l) aw :=
 RA.t2 hi hs hf hr rfl hg hj hb hbw (eK (K:=fun l=>RA P N ops k (li.setIfInBounds i true) K (mkA n l) aw) h)
theorem r3 (i:Nat) (hi:ops[i]?=some o) {j t:Nat} {want:Bool} (h:stD l o.dst (.tup []) fun l=>RA P N ops k (li.setIfInBounds i true) K (mkA n l) aw) (hs:Region.noSelect ops=true:=by decide +kernel) (hf:Region.free .any ops li i=true:=by decide +kernel)
  (hr:(Region.ready .any ops li).contains i=true:=by decide +kernel) (hg:o.guard=some (j,want):=by rfl) (hj:(ops[j]?).bind (·.dst)=some t:=by rfl) (hb:evA n l (.tmp t)=.tup []:=by rfl):RA P N ops (k+1) li K (mkA n l) aw :=
 RA.t3 hi hs hf hr rfl hg hj hb (eK (K:=fun l=>RA P N ops k (li.setIfInBounds i true) K (mkA n l) aw) h)
def nfL (f:AV->(AV->Prop)->Prop):List AV->(List AV->Prop)->Prop
 | [],K=>K []
 | a::es,K=>f a fun a=>nfL f es fun es=>K (a::es)
def nfA:Nat->AV->(AV->Prop)->Prop
 | 0,a,K=>fA a K
 | k+1,a,K=>(match a with
  | .agg cs=>nfL (nfA k) cs fun cs=>K (.agg cs)
  | .tup cs=>nfL (nfA k) cs fun cs=>K (.tup cs)
  | .func f cs=>nfL (nfA k) cs fun cs=>K (.func f cs)
  | .bnd f cs=>nfL (nfA k) cs fun cs=>K (.bnd f cs)
  | a=>fA a K)
theorem nG {f:AV->(AV->Prop)->Prop} (hf:∀ {a:AV} {K:AV->Prop},f a K->K a):∀ {es:List AV} {K:List AV->Prop},nfL f es K->K es
 | [],K,h=>h
 | a::es,K,h=>nG hf (es:=es) (K:=fun es=>K (a::es)) (hf h)
theorem Bn:∀ {k:Nat} {a:AV} {K:AV->Prop},nfA k a K->K a:=by
 intro k;induction k with
 | zero=>exact fun h=>eZ h
 | succ k ih =>
  intro a K h;cases a<;>first | exact eZ h | exact nG ih (K:=fun cs=>K (.agg cs)) h | exact nG ih (K:=fun cs=>K (.tup cs)) h | exact nG ih (K:=fun cs=>K (.func _ cs)) h | exact nG ih (K:=fun cs=>K (.bnd _ cs)) h
def nfF (g:AV->AV):List (Nat × AV)->(List (Nat × AV)->Prop)->Prop
 | [],K=>K []
 | (s,v)::r,K=>nfA 2 (g v) fun v=>nfF g r fun r=>K ((s,v)::r)
theorem Bb {g:AV->AV}:∀ {l:List (Nat × AV)} {K:List (Nat × AV)->Prop},nfF g l K->K (l.map fun p=>(p.1,g p.2))
 | [],K,h=>h
 | (s,v)::r,K,h=>Bb (l:=r) (K:=fun r=>K ((s,g v)::r)) (Bn (K:=fun v=>nfF g r fun r=>K ((s,v)::r)) h)
def nfO (g:AV->AV):List Ob->(List Ob->Prop)->Prop
 | [],K=>K []
 | o::os,K=>(match o with
  | .box cs=>nfL (nfA 1) (cs.map g) fun cs=>nfO g os fun os=>K (.box cs::os)
  | o=>nfO g os fun os=>K (o::os))
theorem uw {id:Nat} {rows:List (List AV)}:∀ {os:List Ob} {K:List Ob->Prop},nfO (fz2 id rows) os K->K (os.map (fzOb id rows))
 | [],K,h=>h
 | o::os,K,h=>by
  cases o with
  | box cs=>exact uw (os:=os) (K:=fun os=>K (.box (cs.map (fz2 id rows))::os)) (nG Bn (K:=fun cs=>nfO (fz2 id rows) os fun os=>K (.box cs::os)) h)
  | _=>exact uw (os:=os) (K:=fun os=>K (_::os)) h
def fzC (aw:List Ob) (l:List (Nat × AV)) (id:Nat) (K:List (Nat × AV)->List Ob->Prop):Prop :=
 bV aw id fun o=>(match o with
  | .arr _ _ rows=>nfF (fzV id rows) l fun l=>setC aw id .dead fun aw=>nfO (fz2 id rows) aw fun aw=>K l aw
  | _=>False)
theorem sv {id:Nat} {K:List (Nat × AV)->List Ob->Prop} (h:fzC aw l id K):∃ e s rows,aw[id]?=some (.arr e s rows)/\K (fzA id rows l) ((aw.set id .dead).map (fzOb id rows)):=by
 obtain ⟨o,h1,h⟩:=bK h;split at h
 ·exact ⟨_,_,_,h1,uw (g8 (Bb h))⟩
 ·exact h.elim
theorem T.fC (id:Nat) {c:Code} {Q:Exit->List AV->List Ob->Prop} (h:fzC aw l id fun l aw=>T P N c Q (mkA n l) aw):T P N c Q (mkA n l) aw:=by obtain ⟨e,s,rows,h1,h2⟩:=sv h;exact T.fz id h1 rfl rfl h2
theorem RS.fC (id:Nat) (h:fzC aw l id fun l aw=>RS P N ops os K (mkA n l) aw):RS P N ops os K (mkA n l) aw:=by obtain ⟨e,s,rows,h1,h2⟩:=sv h;exact RS.fz id h1 rfl rfl h2
theorem RA.fC (id:Nat) (h:fzC aw l id fun l aw=>RA P N ops k li K (mkA n l) aw):RA P N ops k li K (mkA n l) aw:=by obtain ⟨e,s,rows,h1,h2⟩:=sv h;exact RA.fz id h1 rfl rfl h2
theorem RO.fC {i:Nat} (id:Nat) (h:fzC aw l id fun l aw=>RO P N ops i K (mkA n l) aw):RO P N ops i K (mkA n l) aw:=by obtain ⟨e,s,rows,h1,h2⟩:=sv h;exact RO.fz id h1 rfl rfl h2
theorem RA.jn (k':Nat) (li':Array Bool) {fr':List AV} {aw':List Ob} (h2:RA P N ops k' li' K fr' aw'->RA P N ops k li K fr aw) (h:RA P N ops k' li' K fr' aw'):RA P N ops k li K fr aw:=h2 h
theorem raE (h:RA P N ops k li' K fr aw) (hl:li=li':=by decide +kernel):RA P N ops k li K fr aw:=by subst hl;exact h
theorem Hk {l':List (Nat × AV)} (h:l'.map (fun p=>lkA l p.1)=l'.map (fun p=>lkA l' p.1)) (t:Nat):lkA l' t=.any∨lkA l' t=lkA l t:=by
 have key:∀ (q:List (Nat × AV)),q.map (fun p=>lkA l p.1)=q.map (fun p=>lkA l' p.1)->lkA q t=.any∨lkA l' t=lkA l t:=by
  intro q;induction q with
  | nil=>intro _;exact .inl rfl
  | cons p q ih =>
   intro h;simp only [Ll,LW] at h;obtain ⟨s,v⟩:=p;rw [iN];by_cases e:s=t
   ·subst e;exact .inr h.1.symm
   ·rw [if_neg e];exact ih h.2
 exact key l' h
theorem yR {l':List (Nat × AV)} {st:St} {σ:List Value} {w:World} {F:Nat->Prop} {a:Act} (h:l'.map (fun p=>lkA l p.1)=l'.map (fun p=>lkA l' p.1)) (hc:Cur st (mkA n l) aw σ w F a):Cur st (mkA n l') aw σ w F a:=by
 refine ⟨hc.sim,⟨⟨?_,fun j x v hx hv=>?_⟩,hc.fr.2⟩,hc.mv,hc.ds⟩
 ·have:=hc.fr.1.1;rw [ly] at this ⊢;exact this
 ·rw [fN] at hx;split at hx
  ·rename_i hj;cases hx;rcases Hk h j with e | e
   ·rw [e];exact .any _
   ·rw [e];exact hc.fr.1.2 j _ v (by rw [fN,if_pos hj]) hv
  ·cases hx
def inN:List Nat->Nat->Bool
 | [],_=>false
 | a::l,s=>match Nat.beq a s with
  | true=>true
  | false=>inN l s
def ddA:List Nat->List (Nat × AV)->List (Nat × AV)
 | _,[]=>[]
 | q,(s,v)::r=>match inN q s with
  | true=>ddA q r
  | false=>(s,v)::ddA (s::q) r
theorem dd_lk:∀ (l:List (Nat × AV)) (q:List Nat) (t:Nat),inN q t=false->lkA (ddA q l) t=lkA l t
 | [],_,_,_=>rfl
 | (s,v)::r,q,t,h=>by
  unfold ddA;cases hs:inN q s with
  | true =>
   simp only;rw [dd_lk r q t h];cases hb:Nat.beq s t with
   | true=>rw [Li hb,h] at hs;cases hs
   | false=>rw [lkA,hb]
  | false =>
   simp only;rw [lkA,lkA];cases hb:Nat.beq s t with
   | true=>rfl
   | false=>exact dd_lk r (s::q) t (by unfold inN;rw [hb];exact h)
theorem uK {x:Nat × AV}:∀ {l:List (Nat × AV)} {q:List Nat},x∈ddA q l->x∈l
 | [],_,h=>h
 | (s,v)::r,q,h=>by
  unfold ddA at h;split at h
  ·exact .tail _ (uK h)
  ·rcases K0.1 h with rfl | h
   ·exact .head _
   ·exact .tail _ (uK h)
theorem dd_mk (n:Nat) (l:List (Nat × AV)):mkA n (ddA [] l)=mkA n l:=Ld fun t _=>dd_lk l [] t rfl
theorem raT {l':List (Nat × AV)} (h:RA P N ops k li' K (mkA n l') aw) (hs:l'.map (fun p=>lkA l p.1)=l'.map (fun p=>lkA l' p.1):=by rfl) (hl:li=li':=by decide +kernel):RA P N ops k li K (mkA n l) aw:=by subst hl;exact ⟨fun st h1 h2 σ w F a hc=>h.out st h1 h2 σ w F a (yR hs hc)⟩
theorem raV {l':List (Nat × AV)} {aw1:List Ob} (h:RA P N ops k li' K (mkA n l') aw1) (ρ:List Nat) (hw:mpF ρ (ddA [] l') l fun bs es=>mpOs ρ aw ρ aw1 fun bs' es'=>(bs,bs')=(es,es')) [g:GoodF l'] [g':GoodOs aw1]
  (h1:ρ.Nodup:=by decide) (h2:∀ k,k<N->ρ[k]?=some k:=by decide) (hl:li=li':=by decide +kernel):RA P N ops k li K (mkA n l) aw:=by
 subst hl
 obtain ⟨bs,es,hw,h3⟩:=uy hw
 obtain ⟨bs',es',hw,h4⟩:=lv hw
 injection hw with e1 e2
 rw [<- dd_mk] at h
 exact RA.weakR h (Weak.mk ρ h1 h2 (h3 (fun s v hv=>g.out s v (uK hv)) e1) (h4 g'.out e2))
theorem T.su {l':List (Nat × AV)} {c:Code} {Q:Exit->List AV->List Ob->Prop} (h:T P N c Q (mkA n l') aw) (hs:l'.map (fun p=>lkA l p.1)=l'.map (fun p=>lkA l' p.1):=by rfl):T P N c Q (mkA n l) aw:=⟨fun st h1 h2 σ w F a hc=>h.out st h1 h2 σ w F a (yR hs hc)⟩
end
section
variable {Q:Exit→List AV→List Ob→Prop} {c1 c2:Code} {x:Operand}
theorem T.ci {α:Type} {b:Bool} {u v:Option α} {r:α} (h:(if b=true then u else v)=some r) (hx:evA n l x=.bool b) (ht:b=true->u=some r->T P N c1 Q (mkA n l) aw) (he:b=false->v=some r->T P N c2 Q (mkA n l) aw):T P N (.cond x c1 c2) Q (mkA n l) aw :=
 T.cond hx (fun hb=>ht hb (bT h hb)) (fun hb=>he hb (bS h hb))
theorem T.ct (hx:evA n l x=.bool true) (h:T P N c1 Q (mkA n l) aw):T P N (.cond x c1 c2) Q (mkA n l) aw:=T.cond hx (fun _=>h) (fun hb=>by cases hb)
theorem T.cf (hx:evA n l x=.bool false) (h:T P N c2 Q (mkA n l) aw):T P N (.cond x c1 c2) Q (mkA n l) aw:=T.cond hx (fun hb=>by cases hb) (fun _=>h)
def iniC:Nat->List AV->(List (Nat × AV)->Prop)->Prop
 | _,[],K=>K []
 | k,a::es,K=>iniC (k+1) es fun l=>K ((k,a)::l)
theorem rT:∀ {es:List AV} {k:Nat} {K:List (Nat × AV)->Prop},iniC k es K->K (initA k es)
 | [],k,K,h=>h
 | a::es,k,K,h=>rT (es:=es) (K:=fun l=>K ((k,a)::l)) h
end
end
theorem bf {P:Program} {N n:Nat} {aw:List Ob} {l:List (Nat × AV)} {d:Option Tmp} {ty:TypeId} {ps:String} {af:Array Edge} {g:Option (Nat × Bool)} {K2:AV->List Ob->Prop} {f:Operand} {args:Array Operand} {ts:Array TypeId} {h:FuncId} {caps ac as0:List AV} {aw0 aw1 aw2:List Ob} {v v':AV} {n0 n1:Nat} (ρ:List Nat)
  (hf:evA n l f=.func h caps) (ha:args.toList.map (evA n l)++caps=ac) (hC:FnX P h as0 aw0 v aw1) (hW:bQ ρ aw ρ aw0) (hA:b8 ρ as0 ac)
  (hv:RenM (bL ρ n0 n1) v' v) (hB:ew (bL ρ n0 n1) ρ aw aw1 0 aw2) (hK:K2 v' aw2) (hn0:aw.length=n0:=by rfl) (hn1:aw1.length=n1:=by rfl) (hnd:ρ.Nodup:=by decide) (hlen:aw2.length+ρ.length=n0+n1:=by rfl):OP P N ⟨d,.call ⟨.value f,args,ts⟩,ty,ps,af,g⟩ (mkA n l) aw K2 :=
 zM ρ hn0 hn1 hf ha hnd hW hA hC hlen hv hB hK
theorem tU {P:Program} {N n:Nat} {aw:List Ob} {l:List (Nat × AV)} {d:Option Tmp} {ty:TypeId} {ps:String} {af:Array Edge} {g:Option (Nat × Bool)} {K2:AV->List Ob->Prop} {f:Operand} {args:Array Operand} {ts:Array TypeId} {h:FuncId} {caps ac as0:List AV} {aw0 aw1 aw2:List Ob} {v v':AV} {n0 n1:Nat} (ρ:List Nat)
  (hf:evA n l f=.bnd h caps) (ha:caps++args.toList.map (evA n l)=ac) (hC:FnX P h as0 aw0 v aw1) (hW:bQ ρ aw ρ aw0) (hA:b8 ρ as0 ac)
  (hv:RenM (bL ρ n0 n1) v' v) (hB:ew (bL ρ n0 n1) ρ aw aw1 0 aw2) (hK:K2 v' aw2) (hn0:aw.length=n0:=by rfl) (hn1:aw1.length=n1:=by rfl) (hnd:ρ.Nodup:=by decide) (hlen:aw2.length+ρ.length=n0+n1:=by rfl):OP P N ⟨d,.call ⟨.value f,args,ts⟩,ty,ps,af,g⟩ (mkA n l) aw K2 :=
 za ρ hn0 hn1 hf ha hnd hW hA hC hlen hv hB hK
end
section
open Go.RowKit
inductive Fr where
 | sq (y:Code)
 | bk (id:Nat)
 | kt (K:List AV->List Ob->Prop)
section
variable {P:Program} {N n:Nat} {aw:List Ob} {l:List (Nat × AV)} {tt:TT} {Q:Exit→List AV→List Ob→Prop}
def qs (P:Program) (N:Nat):List Fr->(Exit->List AV->List Ob->Prop)->Exit->List AV->List Ob->Prop
 | [],Q=>Q
 | .sq y::st,Q=>thenA (T P N y (qs P N st Q)) (qs P N st Q)
 | .bk id::st,Q=>ln id (qs P N st Q)
 | .kt K::st,Q=>thenA K (qs P N st Q)
theorem so:∀ {st:List Fr} {fr:List AV} {aw:List Ob},Q .ret fr aw->qs P N st Q .ret fr aw
 | [],_,_,h=>h
 | .sq y::st,_,_,h=>so (st:=st) h
 | .bk id::st,_,_,h=>so (st:=st) h
 | .kt K::st,_,_,h=>so (st:=st) h
instance {st:List Fr} {R:List AV->List Ob->Prop} [h:RetI Q R]:RetI (qs P N st Q) R:=⟨fun fr aw hr=>so (h.out fr aw hr)⟩
def popN (Q:Exit->List AV->List Ob->Prop) (fr:List AV) (aw:List Ob) (K:Code->List Fr->Prop):List Fr->Prop
 | []=>Q .normal fr aw
 | .sq y::st=>K y st
 | .bk _::st=>popN Q fr aw K st
 | .kt K'::_=>K' fr aw
def popE (Q:Exit->List AV->List Ob->Prop) (fr:List AV) (aw:List Ob) (K:Code->List Fr->Prop) (id:Nat):List Fr->Prop
 | []=>Q (.exit id) fr aw
 | .sq _::st=>popE Q fr aw K id st
 | .bk i::st=>(match Nat.beq id i with
  | true=>popN Q fr aw K st
  | false=>popE Q fr aw K id st)
 | .kt _::st=>popE Q fr aw K id st
theorem rV {fr:List AV} {K:Code->List Fr->Prop} (hK:∀ y st,K y st->T P N y (qs P N st Q) fr aw):∀ {st:List Fr},popN Q fr aw K st->qs P N st Q .normal fr aw
 | [],h=>h
 | .sq y::st,h=>hK y st h
 | .bk _::st,h=>rV hK (st:=st) h
 | .kt _::_,h=>h
theorem sa {fr:List AV} {K:Code->List Fr->Prop} (hK:∀ y st,K y st->T P N y (qs P N st Q) fr aw) {id:Nat}:∀ {st:List Fr},popE Q fr aw K id st->qs P N st Q (.exit id) fr aw
 | [],h=>h
 | .sq y::st,h=>sa hK (st:=st) h
 | .bk i::st,h=>by
  show if id=i then qs P N st Q .normal fr aw else qs P N st Q (.exit id) fr aw
  simp only [popE] at h;cases hb:Nat.beq id i
  ·rw [hb] at h;rw [if_neg (fun e=>by subst e;rw [Nat.beq_refl] at hb;cases hb)];exact sa hK (st:=st) h
  ·rw [hb] at h;rw [if_pos (Li hb)];exact rV hK h
 | .kt _::st,h=>sa hK (st:=st) h
inductive MS where
 | cd (c:Code)
 | op (ops:Array Oper) (os:List Oper)
def dsC (l:List (Nat × AV)) (d:Option Tmp) (r:AV) (K:List (Nat × AV)->Prop):Prop :=
 match d with
 | some t=>K ((t,r)::l)
 | none=>K l
def wP (pl:Bool) (tt:TT) (n:Nat) (l:List (Nat × AV)) (aw:List Ob) (k:Nat) (op:Op) (K:AV->List Ob->Nat->Prop):Prop :=
  match pl with
  | false=>wE tt n l aw k op K
  | true=>(match op with
    | .pick c a b=>(match evA n l c with
      | .bool t=>(match t with
        | true=>fA (evA n l a) fun r=>K r aw k
        | false=>fA (evA n l b) fun r=>K r aw k)
      | _=>False)
    | op=>wE tt n l aw k op K)
theorem wP_ok {pl:Bool} {o:Oper} {k:Nat} {K:AV->List Ob->Nat->Prop} (ht:tt.Ok P) (hk:aw.length=k) (h:wP pl tt n l aw k o.op K):OP P N o (mkA n l) aw fun r aw'=>K r aw' aw'.length:=by
 cases pl with
 | false=>exact wE_ok ht hk h
 | true =>
  have q:wE tt n l aw k o.op K->OP P N o (mkA n l) aw fun r aw'=>K r aw' aw'.length:=fun h=>wE_ok ht hk h
  obtain ⟨d,op,ty,ps,af,g⟩:=o;cases op with
  | pick c a b =>
   simp only [wP] at h;subst hk;split at h
   ·rename_i t hc;split at h
    ·exact OP.q rfl (bg hc rfl rfl (eZ (K:=fun r=>K r aw aw.length) h))
    ·exact OP.q rfl (aY hc rfl rfl (eZ (K:=fun r=>K r aw aw.length) h))
   ·exact h.elim
  | _=>exact q h
def gx (pl:Bool) (tt:TT) (P:Program) (N n:Nat) (Q:Exit->List AV->List Ob->Prop):Nat->MS->List Fr->List (Nat × AV)->List Ob->Nat->Prop
  | 0,.cd c,st,l,aw,_=>T P N c (qs P N st Q) (mkA n l) aw
  | 0,.op ops os,st,l,aw,_=>RS P N ops os (qs P N st Q .normal) (mkA n l) aw
  | f + 1,.cd c,st,l,aw,k=>(match c with
    | .seq x y=>gx pl tt P N n Q f (.cd x) (.sq y::st) l aw k
    | .skip=>popN Q (mkA n l) aw (fun y st=>gx pl tt P N n Q f (.cd y) st l aw k) st
    | .block id x=>gx pl tt P N n Q f (.cd x) (.bk id::st) l aw k
    | .exit id=>popE Q (mkA n l) aw (fun y st=>gx pl tt P N n Q f (.cd y) st l aw k) id st
    | .cond x a b=>(match evA n l x with
      | .bool v=>(match v with
        | true=>gx pl tt P N n Q f (.cd a) st l aw k
        | false=>gx pl tt P N n Q f (.cd b) st l aw k)
      | _=>False)
    | .region _ ops d=>(match d with
      | false=>gx pl tt P N n Q f (.op ops ops.toList) st l aw k
      | true=>False)
    | _=>False)
  | f + 1,.op ops os,st,l,aw,k=>(match os with
    | []=>popN Q (mkA n l) aw (fun y st=>gx pl tt P N n Q f (.cd y) st l aw k) st
    | o :: os => (match o.guard with
      | none=>wP pl tt n l aw k o.op fun r aw k=>dsC l o.dst r fun l=>gx pl tt P N n Q f (.op ops os) st l aw k
      | some (j,want)=>bV ops.toList j fun q=>(match q.dst with
        | none=>False
        | some t=>(match evA n l (.tmp t) with
          | .bool b=>(match b with
            | true=>(match want with
              | true=>wP pl tt n l aw k o.op fun r aw k=>dsC l o.dst r fun l=>gx pl tt P N n Q f (.op ops os) st l aw k
              | false=>dsC l o.dst (.tup []) fun l=>gx pl tt P N n Q f (.op ops os) st l aw k)
            | false=>(match want with
              | false=>wP pl tt n l aw k o.op fun r aw k=>dsC l o.dst r fun l=>gx pl tt P N n Q f (.op ops os) st l aw k
              | true=>dsC l o.dst (.tup []) fun l=>gx pl tt P N n Q f (.op ops os) st l aw k))
          | .tup vs=>(match vs with
            | []=>dsC l o.dst (.tup []) fun l=>gx pl tt P N n Q f (.op ops os) st l aw k
            | _::_=>False)
          | _=>False))))
theorem Ix {d:Option Tmp} {r:AV} {K:List (Nat × AV)->Prop} (h:dsC l d r K):K (dB l d r):=by cases d<;>exact h
theorem fV {pl:Bool} (ht:tt.Ok P):∀ {f:Nat} {ms:MS} {st:List Fr} {l:List (Nat × AV)} {aw:List Ob} {k:Nat},aw.length=k->gx pl tt P N n Q f ms st l aw k->gx pl tt P N n Q 0 ms st l aw k
 | 0,.cd c,st,l,aw,k,hk,h=>h
 | 0,.op ops os,st,l,aw,k,hk,h=>h
 | f+1,.cd c,st,l,aw,k,hk,h=>by
  show T P N c (qs P N st Q) (mkA n l) aw;have pop:∀ y st,gx pl tt P N n Q f (.cd y) st l aw k->T P N y (qs P N st Q) (mkA n l) aw:=fun y st h=>fV ht (f:=f) hk h
  cases c with
  | seq x y=>exact T.seq (fV ht (f:=f) (ms:=.cd x) hk h)
  | skip=>exact T.skip (rV pop h)
  | block id x=>exact T.block (fV ht (f:=f) (ms:=.cd x) hk h)
  | exit id=>exact T.exit (sa pop h)
  | cond x a b =>
   simp only [gx] at h;split at h
   ·rename_i v hv;split at h
    ·exact T.cond hv (fun _=>fV ht (f:=f) (ms:=.cd a) hk h) (fun hb=>by cases hb)
    ·exact T.cond hv (fun hb=>by cases hb) (fun _=>fV ht (f:=f) (ms:=.cd b) hk h)
   ·exact h.elim
  | region id ops d =>
   cases d with
   | false=>exact T.region (fV ht (f:=f) (ms:=.op ops ops.toList) hk h)
   | true=>exact h.elim
  | _=>exact h.elim
 | f + 1,.op ops os,st,l,aw,k,hk,h=>by
  show RS P N ops os (qs P N st Q .normal) (mkA n l) aw;cases os with
  | nil =>
   have pop:∀ y st,gx pl tt P N n Q f (.cd y) st l aw k->T P N y (qs P N st Q) (mkA n l) aw:=fun y st h=>fV ht (f:=f) hk h
   exact RS.nil (rV pop h)
  | cons o os =>
   have put:∀ {aw:List Ob} {k:Nat} {r:AV},aw.length=k->dsC l o.dst r (fun l=>gx pl tt P N n Q f (.op ops os) st l aw k)->RS P N ops os (qs P N st Q .normal) (mkA n (dB l o.dst r)) aw :=
    fun {aw k r} hk h=>fV ht (f:=f) (ms:=.op ops os) hk (Ix (K:=fun l=>gx pl tt P N n Q f (.op ops os) st l aw k) h)
   simp only [gx] at h;split at h
   ·rename_i hg;exact RS.op hg ((wP_ok ht hk h).mono fun r aw' h=>put rfl h)
   ·rename_i j want hg;obtain ⟨q,h1,h⟩:=bK h;have h1:ops[j]?=some q:=by simpa using h1
    split at h
    ·exact h.elim
    ·rename_i t hd;have hj:(ops[j]?).bind (·.dst)=some t:=by rw [h1];exact hd
     split at h
     ·rename_i b hb;split at h
      ·split at h
       ·exact RS.yes hg hj hb rfl ((wP_ok ht hk h).mono fun r aw' h=>put rfl h)
       ·exact RS.no hg hj hb rfl (put hk h)
      ·split at h
       ·exact RS.yes hg hj hb rfl ((wP_ok ht hk h).mono fun r aw' h=>put rfl h)
       ·exact RS.no hg hj hb rfl (put hk h)
     ·rename_i vs hb;split at h
      ·exact RS.nou hg hj hb (put hk h)
      ·exact h.elim
     ·exact h.elim
theorem AW {s:Nat} {a:AV} (hl:lkA l s=a):mkA n ((s,a)::l)=mkA n l:=by
 unfold mkA;congr 1;funext t;rw [iN];by_cases h:s=t
 ·subst h;rw [if_pos rfl,hl]
 ·rw [if_neg h]
variable {ops:Array Oper} {os:List Oper} {K:List AV→List Ob→Prop} {st:List Fr}
theorem gT (s:Nat) {b:Bool} (hb:b=true) (h:RS P N ops os K (mkA n ((s,.bool true)::l)) aw) (hl:lkA l s=.bool b:=by rfl):RS P N ops os K (mkA n l) aw:=by subst hb;rw [AW hl] at h;exact h
theorem gF (s:Nat) {b:Bool} (hb:b=false) (h:RS P N ops os K (mkA n ((s,.bool false)::l)) aw) (hl:lkA l s=.bool b:=by rfl):RS P N ops os K (mkA n l) aw:=by subst hb;rw [AW hl] at h;exact h
theorem gi (s:Nat) {α:Type} {b:Bool} {u v:Option α} {r:α} (h:(if b=true then u else v)=some r) (ht:b=true->u=some r->RS P N ops os K (mkA n ((s,.bool true)::l)) aw) (he:b=false->v=some r->RS P N ops os K (mkA n ((s,.bool false)::l)) aw) (hl:lkA l s=.bool b:=by rfl):RS P N ops os K (mkA n l) aw:=by
 cases b with
 | true=>exact gT s rfl (ht rfl (bT h rfl)) hl
 | false=>exact gF s rfl (he rfl (bS h rfl)) hl
theorem gp (s:Nat) {b:Bool} (ht:b=true->RS P N ops os K (mkA n ((s,.bool true)::l)) aw) (he:b=false->RS P N ops os K (mkA n ((s,.bool false)::l)) aw) (hl:lkA l s=.bool b:=by rfl):RS P N ops os K (mkA n l) aw:=by
 cases b with
 | true=>exact gT s rfl (ht rfl) hl
 | false=>exact gF s rfl (he rfl) hl
theorem fX {pl:Bool} {f:FuncId} {fn:Func} {c:Code} {args:List AV} {Q:AV->List Ob->Prop} {m:Nat} (ht:tt.Ok P) (N q:Nat) (hf:P.funcs[f]?=some fn) (hm:fn.ntmps=m) (h:iniC 0 args fun l=>gx pl tt P N m (retQ P fn N Q) q (.cd c) [] l aw N)
  (hb:fn.body=some c) (hN:aw.length=N) (hname:(fn.name == "runtime.NumGoroutine")=false) (hl:Nat.ble args.length m=true):ACalls P f args aw Q :=
 gu hN hf hb hname hm hl (fV ht hN (rT (K:=fun l=>gx pl tt P N m (retQ P fn N Q) q (.cd c) [] l aw N) h))
theorem q0 {c:Code} {fr:List AV} (h:T P N c (qs P N [] Q) fr aw):T P N c Q fr aw:=h
theorem jn {x y:Code} {fr:List AV} {Z:Type} (F:Z->List AV) (A:Z->List Ob) (S:Z->Prop) (h:∀ z,S z->T P N y (qs P N st Q) (F z) (A z))
 (h2:(∀ z,S z->T P N y (qs P N st Q) (F z) (A z))->T P N (.seq x y) (qs P N st Q) fr aw):T P N (.seq x y) (qs P N st Q) fr aw:=h2 h
theorem j1 {x y:Code} (l':List (Nat × AV)) (aw':List Ob) (h:T P N y (qs P N st Q) (mkA n l') aw') (h2:T P N y (qs P N st Q) (mkA n l') aw'->T P N (.seq x y) (qs P N st Q) (mkA n l) aw):T P N (.seq x y) (qs P N st Q) (mkA n l) aw:=h2 h
theorem j0 {x y:Code} (l':List (Nat × AV)) (aw':List Ob) (S:Prop) (h:S->T P N y (qs P N st Q) (mkA n l') aw') (h2:(S->T P N y (qs P N st Q) (mkA n l') aw')->T P N (.seq x y) (qs P N st Q) (mkA n l) aw):T P N (.seq x y) (qs P N st Q) (mkA n l) aw:=h2 h
def LK {α β:Type} (N:Nat) (v:α ⊕ β) (F:α->List AV) (A:α->List Ob) (fr:List AV) (aw:List Ob):Prop:=∃ s',v=.inl s'/\Weak N fr aw (F s') (A s')
theorem itr {α β:Type} {body:α->Option (α ⊕ β)} {s:α} {r:β} {c:Code} {fr:List AV} (F:α->List AV) (A:α->List Ob) (h:iter body s=some r) (hw:Weak N fr aw (F s) (A s))
  (hb:∀ s v,body s=some v->(∀ w,v=.inr w->w=r)->T P N c (qs P N (.kt (LK N v F A)::st) Q) (F s) (A s)):T P N (.loop c) (qs P N st Q) fr aw :=
 T.iter F A h hw fun s v h1 h2=>(hb s v h1 h2).mono fun e fr aw h=>by cases e<;>exact h
theorem lk {α β:Type} {v:α ⊕ β} {F:α->List AV} {A:α->List Ob} {fr:List AV} {s':α} (h:some (.inl s')=some v) (hw:Weak N fr aw (F s') (A s')):LK N v F A fr aw:=⟨s',(Ky h).symm,hw⟩
theorem mi {α β:Type} {o:Option β} {v:α ⊕ β} {r:β} (h:o.map Sum.inr=some v) (hv:∀ w,v=.inr w->w=r):o=some r:=by obtain ⟨w,h1,h2⟩:=H5 h;rw [h1,hv w h2]
theorem B {α β:Type} {o:Option α} {k:α->Option β} {r:β} {C:Prop} (h:o.bind k=some r) (hC:∀ x,o=some x->k x=some r->C):C:=by obtain ⟨x,h1,h2⟩:=bind_some h;exact hC x h1 h2
theorem sx {c:Code} {l':List (Nat × AV)} (h:T P N c Q (mkA n l') aw) (hs:l'.map (fun p=>lkA l p.1)=l'.map (fun p=>lkA l' p.1):=by rfl):T P N c Q (mkA n l) aw:=T.su h hs
theorem wu {c:Code} {l':List (Nat × AV)} {aw':List Ob} (h:T P N c Q (mkA n l') aw') (nl:List (Nat × TypeId × Nat)) (ρ:List Nat) (k:Nat) (hw:nilC nl l aw k fun l aw=>mpF ρ l' l fun bs es=>mpOs ρ aw ρ aw' fun bs' es'=>(bs,bs')=(es,es')) [g:GoodF l'] [g':GoodOs aw'] (hc:aw.length=k:=by rfl) (hn:(nl.all fun p=>Nat.blt p.1 n)=true:=by rfl)
 (h1:ρ.Nodup:=by decide) (h2:∀ k,k<N->ρ[k]?=some k:=by decide):T P N c Q (mkA n l) aw:=T.weakR h (wk nl ρ k hw hc hn h1 h2)
section
variable {ρ:List Nat} {n0 n1:Nat}
def bkC (n0:Nat):List Nat->Nat->(Nat->Prop)->Prop
 | [],i,K=>K (n0+i)
 | j::ρ,i,K=>(match i with
  | 0=>K j
  | i+1=>bkC n0 ρ i K)
def bkK (ρ:List Nat) (n0 n1 i:Nat) (K:Nat->Prop):Prop :=
 match Nat.blt i n1 with
 | true=>bkC n0 ρ i K
 | false=>False
theorem Bd:∀ {ρ:List Nat} {i:Nat} {K:Nat->Prop},bkC n0 ρ i K->K (if i<ρ.length then ρ.getD i 0 else n0+(i - ρ.length))
 | [],i,K,h=>by simpa [bkC] using h
 | j::ρ,0,K,h=>h
 | j::ρ,i+1,K,h=>by have:=Bd (ρ:=ρ) (i:=i) (K:=K) h;simpa [Nat.add_lt_add_iff_right] using this
theorem iU {i:Nat} {K:Nat->Prop} (h:bkK ρ n0 n1 i K):∃ j,(j,i)∈bL ρ n0 n1/\K j:=by
 unfold bkK at h;split at h
 ·rename_i hb;refine ⟨_,?_,Bd h⟩;unfold bL;exact KT.2 ⟨i,Mr.2 (by simpa using hb),rfl⟩
 ·exact h.elim
def bkL (f:AV->(AV->Prop)->Prop):List AV->(List AV->Prop)->Prop
 | [],K=>K []
 | a::es,K=>f a fun b=>bkL f es fun bs=>K (b::bs)
def bkA (ρ:List Nat) (n0 n1:Nat):Nat->AV->(AV->Prop)->Prop
 | k,a,K=>match a with
  | .ref i=>bkK ρ n0 n1 i fun i=>K (.ref i)
  | .ptr i o=>bkK ρ n0 n1 i fun i=>K (.ptr i o)
  | .mpr i=>bkK ρ n0 n1 i fun i=>K (.mpr i)
  | .np i=>bkK ρ n0 n1 i fun i=>K (.np i)
  | .agg cs=>(match k with
   | 0=>False
   | k+1=>bkL (bkA ρ n0 n1 k) cs fun cs=>K (.agg cs))
  | .tup cs=>(match k with
   | 0=>False
   | k+1=>bkL (bkA ρ n0 n1 k) cs fun cs=>K (.tup cs))
  | .func f cs=>(match k with
   | 0=>False
   | k+1=>bkL (bkA ρ n0 n1 k) cs fun cs=>K (.func f cs))
  | .bnd f cs=>(match k with
   | 0=>False
   | k+1=>bkL (bkA ρ n0 n1 k) cs fun cs=>K (.bnd f cs))
  | .iref _ _ | .aptr _ _ _ _=>False
  | a=>fA a K
theorem lC {k:Nat} (ih:∀ {a:AV} {K:AV->Prop},bkA ρ n0 n1 k a K->∃ b,K b/\(gA k a->RenM (bL ρ n0 n1) b a)):∀ {es:List AV} {K:List AV->Prop},bkL (bkA ρ n0 n1 k) es K->∃ bs,K bs/\((∀ a,a∈es->gA k a)->fD (bL ρ n0 n1) bs es)
 | [],K,h=>⟨[],h,fun _=>trivial⟩
 | a::es,K,h=>by obtain ⟨b,h1,h2⟩:=ih h;obtain ⟨bs,h3,h4⟩:=lC ih h1;exact ⟨b::bs,h3,fun hg=>⟨h2 (hg _ (.head _)),h4 fun x hx=>hg x (.tail _ hx)⟩⟩
theorem sw:∀ {k:Nat} {a:AV} {K:AV->Prop},bkA ρ n0 n1 k a K->∃ b,K b/\(gA k a->RenM (bL ρ n0 n1) b a):=by
 intro k;induction k with
 | zero =>
  intro a K h;cases a with
  | ref i=>obtain ⟨j,h1,h2⟩:=iU h;exact ⟨_,h2,fun _=>hJ h1⟩
  | ptr i o=>obtain ⟨j,h1,h2⟩:=iU h;exact ⟨_,h2,fun _=>jZ h1⟩
  | aptr i s x o=>exact h.elim
  | mpr i=>obtain ⟨j,h1,h2⟩:=iU h;exact ⟨_,h2,fun _=>Bi h1⟩
  | np i=>obtain ⟨j,h1,h2⟩:=iU h;exact ⟨_,h2,fun _=>rm_np h1⟩
  | agg cs=>exact h.elim
  | tup cs=>exact h.elim
  | func f cs=>exact h.elim
  | bnd f cs=>exact h.elim
  | iref i j=>exact h.elim
  | any=>exact ⟨_,h,fun _=>AT⟩
  | int q x=>exact ⟨_,h,fun _=>an (aI _ _)⟩
  | bool b=>exact ⟨_,h,fun _=>an (iG _)⟩
  | str s=>exact ⟨_,h,fun _=>an (aX _)⟩
  | nils=>exact ⟨_,h,fun _=>an bJ⟩
  | nilf=>exact ⟨_,h,fun _=>an pq⟩
  | nilp=>exact ⟨_,h,fun _=>an rl⟩
  | nili=>exact ⟨_,h,fun _=>an ri⟩
  | sl rows=>exact ⟨_,h,fun g=>an (by unfold gA at g;exact g)⟩
  | elt row off=>exact ⟨_,h,fun g=>an (by unfold gA at g;exact g)⟩
  | cst v=>exact ⟨_,h,fun g=>by unfold gA at g;exact g.elim⟩
  | vw a1 a2 a3 a4 a5=>exact ⟨_,h,fun g=>by unfold gA at g;exact g.elim⟩
  | ref2 i=>exact ⟨_,h,fun g=>by unfold gA at g;exact g.elim⟩
  | aptr2 i j=>exact ⟨_,h,fun g=>by unfold gA at g;exact g.elim⟩
  | ifc t a1=>exact ⟨_,h,fun g=>by unfold gA at g;exact g.elim⟩
 | succ k ih =>
  intro a K h;cases a with
  | ref i=>obtain ⟨j,h1,h2⟩:=iU h;exact ⟨_,h2,fun _=>hJ h1⟩
  | ptr i o=>obtain ⟨j,h1,h2⟩:=iU h;exact ⟨_,h2,fun _=>jZ h1⟩
  | aptr i s x o=>exact h.elim
  | mpr i=>obtain ⟨j,h1,h2⟩:=iU h;exact ⟨_,h2,fun _=>Bi h1⟩
  | np i=>obtain ⟨j,h1,h2⟩:=iU h;exact ⟨_,h2,fun _=>rm_np h1⟩
  | agg cs=>obtain ⟨bs,h1,h2⟩:=lC ih h;exact ⟨_,h1,fun g=>pW (h2 (by unfold gA at g;exact g))⟩
  | tup cs=>obtain ⟨bs,h1,h2⟩:=lC ih h;exact ⟨_,h1,fun g=>Ip (h2 (by unfold gA at g;exact g))⟩
  | func f cs=>obtain ⟨bs,h1,h2⟩:=lC ih h;exact ⟨_,h1,fun g=>HX (h2 (by unfold gA at g;exact g))⟩
  | bnd f cs=>obtain ⟨bs,h1,h2⟩:=lC ih h;exact ⟨_,h1,fun g=>IV (h2 (by unfold gA at g;exact g))⟩
  | iref i j=>exact h.elim
  | any=>exact ⟨_,h,fun _=>AT⟩
  | int q x=>exact ⟨_,h,fun _=>an (aI _ _)⟩
  | bool b=>exact ⟨_,h,fun _=>an (iG _)⟩
  | str s=>exact ⟨_,h,fun _=>an (aX _)⟩
  | nils=>exact ⟨_,h,fun _=>an bJ⟩
  | nilf=>exact ⟨_,h,fun _=>an pq⟩
  | nilp=>exact ⟨_,h,fun _=>an rl⟩
  | nili=>exact ⟨_,h,fun _=>an ri⟩
  | sl rows=>exact ⟨_,h,fun g=>an (by unfold gA at g;exact g)⟩
  | elt row off=>exact ⟨_,h,fun g=>an (by unfold gA at g;exact g)⟩
  | cst v=>exact ⟨_,h,fun g=>by unfold gA at g;exact g.elim⟩
  | vw a1 a2 a3 a4 a5=>exact ⟨_,h,fun g=>by unfold gA at g;exact g.elim⟩
  | ref2 i=>exact ⟨_,h,fun g=>by unfold gA at g;exact g.elim⟩
  | aptr2 i j=>exact ⟨_,h,fun g=>by unfold gA at g;exact g.elim⟩
  | ifc t a1=>exact ⟨_,h,fun g=>by unfold gA at g;exact g.elim⟩
def bkO (ρ:List Nat) (n0 n1:Nat) (o:Ob) (K:Ob->Prop):Prop :=
 match o with
 | .dead=>K .dead
 | .box cs=>bkL (bkA ρ n0 n1 3) cs fun cs=>K (.box cs)
 | .boxB t cs=>bkL (bkA ρ n0 n1 3) cs fun cs=>K (.boxB t cs)
 | .hd e k=>bkK ρ n0 n1 k fun k=>K (.hd e k)
 | .arr e s rows=>K (.arr e s rows)
 | .mp ks vs=>K (.mp ks vs)
 | .cl e s cells=>K (.cl e s cells)
 | _=>False
theorem Be {o:Ob} {K:Ob->Prop} (h:bkO ρ n0 n1 o K):∃ b,K b/\(gO o->ic (bL ρ n0 n1) b o):=by
 cases o with
 | dead=>exact ⟨_,h,fun _=>trivial⟩
 | box cs=>obtain ⟨bs,h1,h2⟩:=lC sw h;exact ⟨_,h1,fun g=>h2 g⟩
 | boxB t cs=>obtain ⟨bs,h1,h2⟩:=lC sw h;exact ⟨_,h1,fun g=>⟨rfl,h2 g⟩⟩
 | hd e k=>obtain ⟨j,h1,h2⟩:=iU h;exact ⟨_,h2,fun _=>⟨rfl,h1⟩⟩
 | arr e s rows=>exact ⟨_,h,fun g=>⟨rfl,rfl,rfl,g⟩⟩
 | mp ks vs=>exact ⟨_,h,fun g=>⟨tw fun c hc=>g c (List.mem_append_left _ hc),tw fun c hc=>g c (List.mem_append_right _ hc)⟩⟩
 | cl e s cells=>exact ⟨_,h,fun g=>⟨rfl,rfl,rfl,g⟩⟩
 | arrU e s rows x=>exact h.elim
def pkC (n0 n1:Nat) (ρ0:List Nat) (j:Nat) (o:Ob) (K:Ob->Prop):List Nat->List Ob->Prop
 | [],_=>K o
 | i::ρ,os=>(match os with
  | []=>False
  | o1::os=>(match Nat.beq i j with
   | true=>bkO ρ0 n0 n1 o1 K
   | false=>pkC n0 n1 ρ0 j o K ρ os))
def exC (ρ:List Nat) (n0 n1:Nat):List Ob->(List Ob->Prop)->Prop
 | [],K=>K []
 | o::os,K=>bkO ρ n0 n1 o fun o=>exC ρ n0 n1 os fun os=>K (o::os)
def bwC (ρ:List Nat) (n0 n1:Nat) (aw1:List Ob):Nat->List Ob->(List Ob->Prop)->Prop
 | _,[],K=>dropC aw1 ρ.length fun os=>exC ρ n0 n1 os K
 | j,o::r,K=>pkC n0 n1 ρ j o (fun o=>bwC ρ n0 n1 aw1 (j+1) r fun l=>K (o::l)) ρ aw1
theorem Bm {aw1:List Ob} (hg:∀ o,o∈aw1->gO o) (hl:aw1.length=n1) {j:Nat} {o:Ob} {K:Ob->Prop}:∀ {ρ1:List Nat} {os:List Ob} {k:Nat},ρ.drop k=ρ1->aw1.drop k=os->pkC n0 n1 ρ j o K ρ1 os ->
  ∃ b,K b/\((∃ k o1,(j,k)∈bL ρ n0 n1/\aw1[k]?=some o1/\ic (bL ρ n0 n1) b o1)∨(ρ1.contains j=false/\b=o))
 | [],os,k,_,_,h=>⟨o,h,.inr ⟨rfl,rfl⟩⟩
 | i::ρ1,[],k,_,_,h=>h.elim
 | i::ρ1,o1::os,k,h1,h2,h=>by
  have e1:ρ[k]?=some i:=by have:=congrArg List.head? h1;simpa using this
  have e2:aw1[k]?=some o1:=by have:=congrArg List.head? h2;simpa using this
  simp only [pkC] at h;split at h
  ·rename_i hb;have:=Li hb;subst this;obtain ⟨b,h3,h4⟩:=Be h;have hk:k<ρ.length:=(Kt.1 e1).1;have hk1:k<n1:=by rw [<- hl];exact (Kt.1 e2).1
   refine ⟨b,h3,.inl ⟨k,o1,?_,e2,h4 (hg _ (Ku e2))⟩⟩;unfold bL;refine KT.2 ⟨k,Mr.2 hk1,?_⟩;rw [if_pos hk,Kw,e1];rfl
  ·rename_i hb;obtain ⟨b,h3,h4⟩:=Bm hg hl (k:=k+1) (by rw [<- MC,h1];rfl) (by rw [<- MC,h2];rfl) h;refine ⟨b,h3,h4.imp id fun ⟨h5,h6⟩=>⟨?_,h6⟩⟩;rw [List.contains_cons,h5,Bool.or_false];cases he:j==i
   ·rfl
   ·have:=eq_of_beq he;subst this;rw [Nat.beq_refl] at hb;cases hb
theorem Bo {aw aw1:List Ob} (hg:∀ o,o∈aw1->gO o) (hl:aw1.length=n1) (hr:ρ.length<=n1):∀ {os:List Ob} {j:Nat} {K:List Ob->Prop},aw1.drop (ρ.length+j)=os->exC ρ n0 n1 os K->∃ bs,K bs/\ew (bL ρ n0 n1) ρ aw aw1 (n0+j) bs/\bs.length=os.length
 | [],j,K,_,h=>⟨[],h,trivial,rfl⟩
 | o::os,j,K,h1,h=>by
  have e1:aw1[ρ.length+j]?=some o:=by have:=congrArg List.head? h1;simpa using this
  obtain ⟨b,h2,h3⟩:=Be h;obtain ⟨bs,h4,h5,h6⟩:=Bo (aw:=aw) hg hl hr (j:=j+1) (by rw [<- L0,<- MC,h1];rfl) h2;refine ⟨b::bs,h4,⟨.inl ⟨ρ.length+j,o,?_,e1,h3 (hg _ (Ku e1))⟩,by rwa [<- L0] at h5⟩,by simp [h6]⟩;unfold bL;refine KT.2 ⟨ρ.length+j,Mr.2 (by rw [<- hl];exact (Kt.1 e1).1),?_⟩;rw [if_neg (by omega)];simp
theorem uB {aw aw1:List Ob} (hg:∀ o,o∈aw1->gO o) (hl:aw1.length=n1) (hn:aw.length=n0):∀ {l:List Ob} {j:Nat} {K:List Ob->Prop},aw.drop j=l->j<=n0->bwC ρ n0 n1 aw1 j l K->∃ bs,K bs/\ew (bL ρ n0 n1) ρ aw aw1 j bs/\bs.length+ρ.length=l.length+n1
 | [],j,K,h0,hj,h=>by
  obtain ⟨h1,h⟩:=tT h;have hj':j=n0:=by have:=congrArg List.length h0;rw [KX] at this;simp at this;omega
  subst hj';obtain ⟨bs,h2,h3,h4⟩:=Bo (aw:=aw) hg hl (by omega) (j:=0) rfl h;refine ⟨bs,h2,h3,?_⟩;rw [h4,KX];simp;omega
 | o::r,j,K,h0,hj,h=>by
  have e1:aw[j]?=some o:=by have:=congrArg List.head? h0;simpa using this
  have hjl:j<aw.length:=(Kt.1 e1).1;obtain ⟨b,h1,h2⟩:=Bm (k:=0) hg hl rfl rfl h;obtain ⟨bs,h3,h4,h5⟩:=uB hg hl hn (j:=j+1) (by rw [<- MC,h0];rfl) (by omega) h1;refine ⟨b::bs,h3,⟨h2.imp id fun ⟨h6,h7⟩=>⟨h6,by rw [h7];exact e1⟩,h4⟩,?_⟩;simp only [KH];omega
def cgC (n:Nat) (l:List (Nat × AV)) (aw:List Ob) (ρ:List Nat) (n0 n1:Nat) (f:Operand) (args:List Operand) (h:Nat) (as0:List AV) (aw0:List Ob) (v:AV) (aw1:List Ob) (K:AV->List Ob->Prop):Prop :=
 match evA n l f with
 | .func g caps=>(match Nat.beq g h with
  | true=>evsC n l args fun es=>appC es caps fun ac=>mpC (mpA ρ 3) as0 ac fun bs=>mpOs ρ aw ρ aw0 fun bs' es'=>(bs,bs')=(ac,es')/\bkA ρ n0 n1 3 v fun v=>bwC ρ n0 n1 aw1 0 aw fun aw2=>K v aw2
  | false=>False)
 | .bnd g fs=>(match Nat.beq g h with
  | true=>evsC n l args fun es=>appC fs es fun ac=>mpC (mpA ρ 3) as0 ac fun bs=>mpOs ρ aw ρ aw0 fun bs' es'=>(bs,bs')=(ac,es')/\bkA ρ n0 n1 3 v fun v=>bwC ρ n0 n1 aw1 0 aw fun aw2=>K v aw2
  | false=>False)
 | _=>False
theorem cG {d:Option Tmp} {ty:TypeId} {ps:String} {af:Array Edge} {gd:Option (Nat × Bool)} {K2:AV->List Ob->Prop} {f:Operand} {args:Array Operand} {ts:Array TypeId} {h:FuncId} {as0:List AV} {aw0 aw1:List Ob} {v:AV} (ρ:List Nat) (n0 n1:Nat) (hC:FnX P h as0 aw0 v aw1)
  (hx:cgC n l aw ρ n0 n1 f args.toList h as0 aw0 v aw1 K2) [ga:GoodAs 3 as0] [go:GoodOs aw0] [gv:GoodA 3 v] [g1:GoodOs aw1] (hn0:aw.length=n0:=by rfl) (hn1:aw1.length=n1:=by rfl) (hnd:ρ.Nodup:=by decide):OP P N ⟨d,.call ⟨.value f,args,ts⟩,ty,ps,af,gd⟩ (mkA n l) aw K2:=by
 unfold cgC at hx
 split at hx
 ·rename_i g caps hf
  split at hx
  ·rename_i hb
   have:=Li hb
   subst this
   have hx:=pR (pT hx)
   obtain ⟨bs,hx,h2⟩:=iT (ρ:=ρ) lM hx
   obtain ⟨bs',es',hx,h3⟩:=lv hx
   obtain ⟨he,hx⟩:=hx
   injection he with e1 e2
   obtain ⟨v',hx,h4⟩:=sw hx
   obtain ⟨aw2,hx,h5,h6⟩:=uB g1.out hn1 hn0 (j:=0) rfl (Lj _) hx
   exact zM ρ hn0 hn1 hf rfl hnd (h3 go.out e2) (h2 ga.out e1) hC (by rw [h6,Lc,hn0]) (h4 gv.out) h5 hx
  ·exact hx.elim
 ·rename_i g caps hf
  split at hx
  ·rename_i hb
   have:=Li hb
   subst this
   have hx:=pR (pT hx)
   obtain ⟨bs,hx,h2⟩:=iT (ρ:=ρ) lM hx
   obtain ⟨bs',es',hx,h3⟩:=lv hx
   obtain ⟨he,hx⟩:=hx
   injection he with e1 e2
   obtain ⟨v',hx,h4⟩:=sw hx
   obtain ⟨aw2,hx,h5,h6⟩:=uB g1.out hn1 hn0 (j:=0) rfl (Lj _) hx
   exact za ρ hn0 hn1 hf rfl hnd (h3 go.out e2) (h2 ga.out e1) hC (by rw [h6,Lc,hn0]) (h4 gv.out) h5 hx
  ·exact hx.elim
 ·exact hx.elim
end
theorem nB {c:Code} (b j e z k:Nat) (h:bV aw b fun o=>(match o with
  | .box cs=>bV cs j fun v=>(match v with
   | .nils=>setC cs j (.ref k) fun cs=>setC aw b (.box cs) fun aw=>pushC aw (.arr e z []) fun aw=>T P N c Q (mkA n l) aw
   | _=>False)
  | _=>False)) (hk:aw.length=k:=by rfl):T P N c Q (mkA n l) aw:=by
 subst hk
 obtain ⟨o,h1,h⟩:=bK h
 split at h
 ·obtain ⟨v,h2,h⟩:=bK h
  split at h
  ·exact T.nilB b j e z h1 h2 rfl rfl (lp (g8 (g8 h)))
  ·exact h.elim
 ·exact h.elim
theorem mO {c:Code} (b j id k:Nat) (h:bV aw b fun o=>(match o with
  | .box cs=>bV cs j fun v=>(match v with
   | .ref i=>(match Nat.beq i id with
    | true=>bV aw id fun q=>(match q with
     | .arr e s rows=>setC cs j (.ref k) fun cs=>setC aw id .dead fun aw=>setC aw b (.box cs) fun aw=>pushC aw (.arr e s rows) fun aw=>T P N c Q (mkA n l) aw
     | _=>False)
    | false=>False)
   | _=>False)
  | _=>False)) (hk:aw.length=k:=by rfl):T P N c Q (mkA n l) aw:=by
 subst hk
 obtain ⟨o,h1,h⟩:=bK h
 split at h
 ·obtain ⟨v,h2,h⟩:=bK h
  split at h
  ·rename_i i
   split at h
   ·rename_i hb
    have:=Li hb
    subst this
    obtain ⟨q,h3,h⟩:=bK h
    split at h
    ·exact T.mvB b j _ h1 h2 h3 rfl rfl rfl (lp (g8 (g8 (g8 h))))
    ·exact h.elim
   ·exact h.elim
  ·exact h.elim
 ·exact h.elim
def bm (n k:Nat):Array Bool:=((List.range n).map k.testBit).toArray
end
end
section
open Go.RowKit
section
variable {P:Program} {N n:Nat} {aw aw':List Ob} {l:List (Nat × AV)} {σ:List Value} {w:World} {F:Nat→Prop}
theorem Mv.lose (id:Nat):Mv aw σ w F (aw.set id .dead) σ w F :=
 ⟨rfl,rfl,drO,Kx _,fun _ _ _=>rfl,fun _ _ h=>h,fun _ h=>h,fun _ h=>.inl h,fun _ hb=>.inl hb.set_dead⟩
theorem Sim.take (h:Sim aw σ w F) (o:Ob) (v:Value) (ho:ORel (σ++[v]) w F o v) (hn:∀ b,Bk o v b->¬ Dof aw σ b):Sim (aw++[o]) (σ++[v]) w F :=
 h.push2 o v (fun _ _=>rfl) (Kx _) ho hn
theorem Mv.take {aw0:List Ob} {σ0:List Value} (h:Sim aw σ w F) (m:Mv aw0 σ0 w F aw σ w F) (o:Ob) (v:Value) (hb:∀ b,Bk o v b->Dof aw0 σ0 b):Mv aw0 σ0 w F (aw++[o]) (σ++[v]) w F:=by
 refine ⟨rfl,rfl,drO,Kx _,fun _ _ _=>rfl,fun i u hu=>em (m.pre i u hu),fun _ h=>h,fun _ h=>.inl h,fun b hb1=>?_⟩;obtain ⟨k,o1,v1,ho1,hl,hv1,hb2⟩:=hb1;rcases fe ho1 with h1 | ⟨rfl,rfl⟩
 ·have hlt:=(Kt.1 h1).1;rw [Kz (by rw [h.len];exact hlt)] at hv1;exact m.own b ⟨k,o1,v1,h1,hl,hv1,hb2⟩
 ·rw [<- h.len] at hv1;simp at hv1;subst hv1;exact .inl (hb b hb2)
end
end
section
open Go.RowKit
def cel {α:Type} (en:α->List AV) (p:Bool × List α):Cell:=match p.1 with
 | true=>.fz (p.2.map en)
 | false=>.own (p.2.map en)
abbrev cL {α:Type} (en:α->List AV) (xs:List (Bool × List α)):List Cell:=xs.map (cel en)
section
variable {P:Program} {N n:Nat} {aw aw':List Ob} {l:List (Nat × AV)} {σ:List Value} {w:World} {F:Nat→Prop}
variable {d:Option Tmp} {ty:TypeId} {ps:String} {af:Array Edge} {g:Option (Nat × Bool)} {K2:AV→List Ob→Prop} {α:Type} {en:α→List AV}
end
end
section
section
variable {α:Type}
def own (xs:List (Bool × List α)) (m:Nat) (r:List α):List (Bool × List α):=xs.set m (false,r)
end
end
section
open Go.RowKit
section
variable {P:Program} {N n:Nat} {aw aw':List Ob} {l:List (Nat × AV)} {σ:List Value} {w:World} {F:Nat→Prop}
variable {d:Option Tmp} {ty:TypeId} {ps:String} {af:Array Edge} {g:Option (Nat × Bool)} {K2:AV→List Ob→Prop} {α:Type} {en:α→List AV}
theorem FR [he:EnP en] {xs:List (Bool × List α)} {rows:List (List AV)} (h:Cell.own rows∈cL en xs∨Cell.fz rows∈cL en xs):∀ row,row∈rows->∀ x,x∈row->Pure x:=by
 have key:∀ c,c∈cL en xs->(c=.own rows∨c=.fz rows)->∀ row,row∈rows->∀ x,x∈row->Pure x:=fun c hc he2 row hr x hx=>by
  obtain ⟨⟨b,r⟩,_,rfl⟩:=KT.1 hc;have:rows=r.map en:=by cases b<;>rcases he2 with h | h<;>first | (injection h with h;exact h.symm) | cases h
  subst this;obtain ⟨a,_,rfl⟩:=KT.1 hr;exact he.out a x hx
 exact h.elim (fun h=>key _ h (.inl rfl)) (fun h=>key _ h (.inr rfl))
end
end
instance {α:Type} {en:α->List AV} {xs:List (Bool × List α)} {e s:Nat} [h:EnP en]:GoodO (.cl e s (cL en xs)):=⟨fun _ hr=>FR hr⟩
instance:Inhabited Keyed:=⟨⟨0,0⟩⟩
def bldS (xs:List Int):Option (List UInt8):=if xs≠[]/\∀ x,x∈xs->0<=x/\x<256 then some (bR xs) else none
def bN {A B:Type} (o:Option (A ⊕ Unit)) (p:Option B) (k:A->Option B):Option B :=
 match o with
 | none=>none
 | some (.inl y)=>k y
 | some (.inr _)=>p
theorem cm {A B:Type} {o:Option (A ⊕ Unit)} {p:Option B} {k:A->Option B} {r:B} {C:Prop} (h:bN o p k=some r) (h1:o=some (.inr ())->p=some r->C) (h2:∀ y,o=some (.inl y)->k y=some r->C):C:=by
 match o,h with
 | some (.inl y),h=>exact h2 y rfl h
 | some (.inr ()),h=>exact h1 rfl h
end Go.Proofs.YtnlmagdmmjkklaaGreat
