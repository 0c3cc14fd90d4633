/-
  Part 2 of the proof of talePrintLaw.proved: the code computes these functions, and the law holds of them, with no condition beyond the statement's own; put together by a program of ours (wip/decl.py) out of texts of ours.
-/
import Derived.Laws.IdiomCopy
import Derived.Lib.Overlaps
import Derived.Test.YtknplalngpedbaaDoorRows
import Derived.Lib.AppendStr
import Derived.Shelf.Strconv.Itoa3
import Derived.Shelf.Strings.Split
import Derived.Shelf.Strconv.Atoi
import Derived.Shelf.Strings.OnBuilder
import Derived.Recover
import Derived.Shelf.Strings.Builder1
import Derived.Lib.Builder
import Derived.Laws.Externs
import Derived.Deep.QuietTactic
import Derived.Sort.LotA
import Derived.Sort.Row
import Derived.Test.YtknplalngpedbaaDoorZTalePrint1
set_option linter.unusedVariables false
set_option linter.unusedSimpArgs false
namespace Go.Proofs.YtknplalngpedbaaDoor
section
open Go.RowKit
theorem jo {κ:Type} [DecidableEq κ] {k:κ}:∀ {ks:List κ} {i:Nat},kix k ks=some i->ks[i]?=some k
 | [],i,h=>by cases h
 | k'::r,i,h=>by
  unfold kix at h;split at h
  ·rename_i e;cases h;rw [e];rfl
  ·rw [xU] at h;obtain ⟨j,hj,rfl⟩:=h;simpa using jo hj
theorem kD {κ ν:Type} [DecidableEq κ] {k:κ}:∀ (xs:List (κ × ν)),mget k xs=(kix k (xs.map (·.1))).bind fun i=>(xs.map (·.2))[i]?
 | []=>rfl
 | p::r=>by
  simp only [mget,yh,kix];split
  ·rfl
  ·rw [kD r];cases kix k (r.map (·.1))<;>simp
theorem nz {κ ν:Type} [DecidableEq κ] {k:κ} {v:ν}:∀ {xs:List (κ × ν)} {i:Nat},kix k (xs.map (·.1))=some i->(mset k v xs).map (·.1)=xs.map (·.1)/\(mset k v xs).map (·.2)=(xs.map (·.2)).set i v
 | [],i,h=>by cases h
 | p::r,i,h=>by
  simp only [yh,kix] at h;simp only [mset];split at h
  ·rename_i e;cases h;rw [if_pos e];simp [e]
  ·rename_i e;rw [if_neg e];rw [xU] at h;obtain ⟨j,hj,rfl⟩:=h;obtain ⟨h1,h2⟩:=nz (v:=v) hj;simp [h1,h2]
theorem nh {κ ν:Type} [DecidableEq κ] {k:κ} {v:ν}:∀ {xs:List (κ × ν)},kix k (xs.map (·.1))=none->mset k v xs=xs++[(k,v)]
 | [],h=>rfl
 | p::r,h=>by
  simp only [yh,kix] at h;simp only [mset];split at h
  ·cases h
  ·rename_i e;rw [if_neg e];rw [Option.map_eq_none_iff] at h;rw [nh h];rfl
structure KeyT (P:Program) (kt:TypeId) {κ:Type} [DecidableEq κ] (ek:κ->AV):Prop where
 out:∃ d,P.underlying kt=some d/\(∀ (b:Bool) (k:κ) σ w F v,Rel σ w F (ek k) v->∀ w',(Instr.checkKey b 10000 kt v).run P w'=.ok () w') /\
  (∀ (k k':κ) σ w F v v',Rel σ w F (ek k) v->Rel σ w F (ek k') v'->Instr.sameNow d v v'=some (decide (k=k'))/\(k=k'->Instr.sameBits 10000 v' v=true/\v'=v))
theorem u7 {P:Program} {kt:TypeId} {q k:IntKind} (hu:P.underlying kt=some (.int q)) (b:Bool) (m:Nat) (x:Int) (w:World):(Instr.checkKey b (m+1) kt (.int k x)).run P w=.ok () w:=by simp [Instr.checkKey,run_underlying hu,Sem.run_bind]
theorem ud {P:Program} {kt:TypeId} (hu:P.underlying kt=some .string) (b:Bool) (m:Nat) (x:ByteArray) (w:World):(Instr.checkKey b (m+1) kt (.string x)).run P w=.ok () w:=by simp [Instr.checkKey,run_underlying hu,Sem.run_bind]
theorem nn (x y:List UInt8):(ByteArray.mk x.toArray==ByteArray.mk y.toArray)=decide (x=y):=by
 show (x.toArray==y.toArray)=decide (x=y);by_cases e:x=y
 ·subst e;simp
 ·simp [e]
theorem tf (m:Nat) (k:IntKind) (a:Int):Instr.sameBits m (.int k a) (.int k a)=true:=by cases m<;>simp [Instr.sameBits]
theorem tQ (m:Nat) (a:List UInt8):Instr.sameBits m (.string ⟨a.toArray⟩) (.string ⟨a.toArray⟩)=true:=by cases m<;>simp [Instr.sameBits,nn]
theorem KeyT.int {P:Program} {kt:TypeId} {q:IntKind} (hu:P.underlying kt=some (.int q)):KeyT P kt (fun n:Int=>.int .i64 n):=by
 refine ⟨_,hu,fun b k σ w F v h w'=>?_,fun k k' σ w F v v' h h'=>?_⟩
 ·cases h;exact u7 hu b 9999 k w'
 ·cases h;cases h';refine ⟨by simp [Instr.sameNow];exact Bool.beq_eq_decide_eq k k',fun e=>?_⟩;subst e;exact ⟨tf _ _ _,rfl⟩
theorem KeyT.str {P:Program} {kt:TypeId} (hu:P.underlying kt=some .string):KeyT P kt (fun s:List UInt8=>.str s):=by
 refine ⟨_,hu,fun b k σ w F v h w'=>?_,fun k k' σ w F v v' h h'=>?_⟩
 ·cases h;exact ud hu b 9999 _ w'
 ·cases h;cases h';refine ⟨by simp only [Instr.sameNow,nn],fun e=>?_⟩;subst e;exact ⟨tQ _ _,rfl⟩
section
variable {P:Program} {N n:Nat} {aw aw':List Ob} {l:List (Nat × AV)} {σ:List Value} {w:World} {F:Nat→Prop}
def wput (w:World) (r:Nat) (o:Obj):World:={ w with heap:=w.heap.setIfInBounds r o }
theorem sV {w:World} {r:Nat} {o:Obj} (h:r<w.heap.size):(wput w r o).heap[r]?=some o:=by simp [wput,h]
theorem rS {w:World} {r k:Nat} {o:Obj} (h:k≠r):(wput w r o).heap[k]?=w.heap[k]?:=by simp [wput,Array.getElem?_setIfInBounds_ne (Ne.symm h)]
theorem nC {w:World} {r:Nat} {o:Obj}:(wput w r o).heap.size=w.heap.size:=by simp [wput]
theorem g8 {w:World} {r:Nat} {es:Array MapEntry} {clock:Nat} (hb:w.heap[r]?=some (.map es clock)):(getObj r).run P w=.ok (.map es clock) w:=by simp [getObj,Sem.run,hb]
theorem sw {w:World} {r:Nat} {es:Array MapEntry} {clock:Nat} (o:Obj) (hb:w.heap[r]?=some (.map es clock)):(setObj r o).run P w=.ok () (wput w r o):=by simp [setObj,Sem.run,hb,wput]
theorem nb {κ:Type} [DecidableEq κ] {d:TypeDesc} {k:κ} {v:Value}:∀ (es:List MapEntry) (ks:List κ) (i0:Nat),es.length=ks.length ->
  (∀ (j:Nat) k' e,ks[j]?=some k'->es[j]?=some e->Instr.sameNow d v e.key=some (decide (k=k'))) ->
  Instr.findNow d v es i0=some ((kix k ks).bind fun i=>(es[i]?).map fun e=>(i0+i,e.val))
 | [],[],i0,_,_=>rfl
 | e::es,k'::ks,i0,hl,h=>by
  have h0:=h 0 k' e rfl rfl;simp only [Instr.findNow,h0,kix];by_cases hk:k=k'
  ·simp [hk]
  ·simp only [hk,decide_false,if_false];rw [nb es ks (i0+1) (by simpa using hl) (fun j k2 e2 h1 h2=>h (j+1) k2 e2 (by simpa using h1) (by simpa using h2))];cases kix k ks with
   | none=>rfl
   | some i=>simp [zA,Nat.add_left_comm,zb]
 | [],_::_,_,hl,_=>by simp at hl
 | _::_,[],_,hl,_=>by simp at hl
theorem m4 {κ:Type} [DecidableEq κ] {ek:κ->AV} {kt:TypeId} (hK:KeyT P kt ek) {k:κ} {ks:List κ} {es:Array MapEntry} {v:Value} (hr:RelL σ w F (ks.map ek) (es.toList.map (·.key))) (hv:Rel σ w F (ek k) v) (w':World) :
  (Instr.findKey kt v es.toList).run P w'=.ok ((kix k ks).bind fun i=>(es[i]?).map fun e=>(i,e.val)) w':=by
 obtain ⟨d,hu,hc,hs⟩:=hK.out
 have hl:es.toList.length=ks.length:=by simpa using hr.1
 have h:=nb (d:=d) (k:=k) (v:=v) es.toList ks 0 hl (fun j k' e h1 h2=>by refine (hs k k' σ w F v e.key hv (hr.2 j _ _ (by rw [xJ,h1];rfl) (by rw [xJ,h2];rfl))).1)
 simp only [Instr.findKey,Sem.run_bind,run_underlying hu,Result.andThen_ok,h,Sem.run_pure]
 congr 1
 cases kix k ks with
 | none=>rfl
 | some i=>simp
theorem o9 {vs:List AV} {es:Array MapEntry} (hv:RelL σ w F vs (es.toList.map (·.val))) {i:Nat} {a:AV} (h:vs[i]?=some a):∃ e,es[i]?=some e/\Rel σ w F a e.val:=by obtain ⟨u,hu,hr⟩:=hv.get h;rw [xJ,xU] at hu;obtain ⟨e,he,rfl⟩:=hu;exact ⟨e,by simpa using he,hr⟩
theorem kV {id:Nat} {ks vs:List AV} (hs:Sim aw σ w F) (ho:aw[id]?=some (.mp ks vs)) {r:Option Nat} (hσ:σ[id]?=some (.map r)) :
  ∃ g es clock,r=some g/\w.heap[g]?=some (.map es clock)/\RelL σ w F ks (es.toList.map (·.key))/\RelL σ w F vs (es.toList.map (·.val))/\¬ F g:=by
 obtain ⟨g,es,clock,e1,h1,h2,h3,h4⟩:=hs.obj id _ _ ho hσ
 injection e1 with e1
 exact ⟨g,es,clock,e1,h1,h2,h3,h4⟩
variable {d:Option Tmp} {ty:TypeId} {ps:String} {af:Array Edge} {g:Option (Nat × Bool)} {K2:AV→List Ob→Prop}
theorem ja {t:TypeId} {k:Nat} (hk:aw.length=k) (ha:aw++[.mp [] []]=aw') (h:K2 (.mpr k) aw'):OP P N ⟨d,.makeMap t none,ty,ps,af,g⟩ (mkA n l) aw K2 :=
 OP.of_ok (fun σ w F a har hs=>by
  subst hk ha;have hk:∀ b,b<w.heap.size->(w.alloc (.map #[] 0)).heap[b]?=w.heap[b]?:=fun b hb=>Below.heap_alloc w _ b hb
  have hn:∀ b,Bk (.mp [] []) (.map (some w.heap.size)) b->w.heap.size<=b:=fun b hb=>by simp [Bk,blk] at hb;omega
  refine ⟨.map (some w.heap.size),_,w.alloc (.map #[] 0),_,σ++[.map (some w.heap.size)],F,_,?_,.inl rfl,hs.push (.mp [] []) _ hk (by simp) ⟨w.heap.size,#[],0,rfl,heap_alloc_new w _,.nil,.nil,fun hF=>?_⟩ hn,
   .push hs (.mp [] []) _ rfl rfl drO hk (by simp) hn,.mpr _ (some w.heap.size) (by rw [<- hs.len];simp),h⟩
  ·simp [execOp,Instr.makeMap,Sem.run_bind]
  ·have:=hs.lt _ hF;omega)
def pickA (vs:List AV) (az:AV):Option Nat->Option AV
 | some i=>vs[i]?
 | none=>some az
theorem kk {κ:Type} [DecidableEq κ] {ek:κ->AV} {ks:List κ} {vs:List AV} {t kt et:TypeId} {x y:Operand} {id:Nat} {k:κ} {b:Bool} {z:Value} {az a:AV}
  (hm:P.underlying t=some (.map kt et)) (hK:KeyT P kt ek) (hz:(P.info? et).bind (·.zero)=some z) (hza:∀ σ w F,Rel σ w F az z) (hx:evA n l x=.mpr id) (hy:evA n l y=ek k) (ho:aw[id]?=some (.mp (ks.map ek) vs))
  (hr:pickA vs az (kix k ks)=some a)
  (h:K2 (if b=true then .tup [a,.bool (kix k ks).isSome] else a) aw):OP P N ⟨d,.lookup t x y b,ty,ps,af,g⟩ (mkA n l) aw K2 :=
 OP.of_ok (fun σ w F ac har hs=>by
  have ex:=har.ev x;have ey:=har.ev y;rw [ab,hx] at ex;rw [ab,hy] at ey;generalize hvx:ac.eval x=vx at ex;generalize hvy:ac.eval y=vy at ey;cases ex with
  | mpr _ r hσ =>
   obtain ⟨g0,es,clock,rfl,hg,hks,hvs,hF⟩:=kV hs ho hσ;obtain ⟨dd,hu,hc,_⟩:=hK.out;have hf:=m4 hK hks ey w;have hzr:(zeroValue et).run P w=.ok z w:=by rw [Option.bind_eq_some_iff] at hz;obtain ⟨i,hi,hzi⟩:=hz;exact iF hi hzi w
   have hchk:=hc es.isEmpty k σ w F vy ey w;cases hkx:kix k ks with
   | none =>
    rw [hkx] at hf hr h;change some az=some a at hr;cases hr;have hrun:(Instr.lookup t (.map (some g0)) vy b).run P w=.ok (if b=true then .tuple #[z,.bool false] else z) w:=by simp only [Instr.lookup,Sem.run_bind,run_underlying hm,Result.andThen_ok,g8 hg,Sem.run_pure,hchk,hf,Option.bind_none,hzr]
    refine ⟨if b=true then .tuple #[z,.bool false] else z,_,w,aw,σ,F,_,?_,.inl rfl,hs,.refl ..,?_,h⟩
    ·simp only [execOp,hvx,hvy,Sem.run_bind,hrun,Result.andThen_ok,Sem.run_pure]
    ·cases b with
     | true=>exact .tup [az,.bool false] [z,.bool false] rfl (fun j c u hc hu=>by
      match j with
      | 0=>simp at hc hu;subst hc hu;exact hza σ w F
      | 1=>simp at hc hu;subst hc hu;exact .bool _
      | j+2=>simp at hc)
     | false=>exact hza σ w F
   | some i =>
    rw [hkx] at hf hr h;change vs[i]?=some a at hr;obtain ⟨e,he,hrel⟩:=o9 hvs hr;have hf':(Instr.findKey kt vy es.toList).run P w=.ok (some (i,e.val)) w:=by rw [hf];simp [he]
    have hrun:(Instr.lookup t (.map (some g0)) vy b).run P w=.ok (if b=true then .tuple #[e.val,.bool true] else e.val) w:=by simp only [Instr.lookup,Sem.run_bind,run_underlying hm,Result.andThen_ok,g8 hg,Sem.run_pure,hchk,hf']
    refine ⟨if b=true then .tuple #[e.val,.bool true] else e.val,_,w,aw,σ,F,_,?_,.inl rfl,hs,.refl ..,?_,h⟩
    ·simp only [execOp,hvx,hvy,Sem.run_bind,hrun,Result.andThen_ok,Sem.run_pure]
    ·cases b with
     | true=>exact .tup [a,.bool true] [e.val,.bool true] rfl (fun j c u hc hu=>by
      match j with
      | 0=>simp at hc hu;subst hc hu;exact hrel
      | 1=>simp at hc hu;subst hc hu;exact .bool _
      | j+2=>simp at hc)
     | false=>exact hrel)
theorem tu {es:Array MapEntry} {ks:List AV} {e:MapEntry} {a:AV} (h:RelL σ w F ks (es.toList.map (·.key))) (hr:Rel σ w F a e.key):RelL σ w F (ks++[a]) ((es.push e).toList.map (·.key)):=by
 have:(es.push e).toList.map (·.key)=es.toList.map (·.key)++[e.key]:=by simp
 rw [this];exact h.append (.cons hr .nil)
theorem th {es:Array MapEntry} {ks:List AV} {e:MapEntry} {a:AV} (h:RelL σ w F ks (es.toList.map (·.val))) (hr:Rel σ w F a e.val):RelL σ w F (ks++[a]) ((es.push e).toList.map (·.val)):=by
 have:(es.push e).toList.map (·.val)=es.toList.map (·.val)++[e.val]:=by simp
 rw [this];exact h.append (.cons hr .nil)
theorem nW {id g0 clock c2:Nat} {es es':Array MapEntry} {ks vs ks' vs':List AV} (hs:Sim aw σ w F) (ho:aw[id]?=some (.mp ks vs)) (hσ:σ[id]?=some (.map (some g0))) (hg:w.heap[g0]?=some (.map es clock)) (hF:¬ F g0)
  (hk:RelL σ w F ks' (es'.toList.map (·.key))) (hv:RelL σ w F vs' (es'.toList.map (·.val))) :
  Sim (aw.set id (.mp ks' vs')) σ (wput w g0 (.map es' c2)) F/\Mv aw σ w F (aw.set id (.mp ks' vs')) σ (wput w g0 (.map es' c2)) F:=by
 have hlt:g0<w.heap.size:=(xX.1 hg).1
 have hoth:∀ b,b≠g0->(wput w g0 (.map es' c2)).heap[b]?=w.heap[b]?:=fun b hb=>rS hb
 have hFw:∀ b,F b->(wput w g0 (.map es' c2)).heap[b]?=w.heap[b]?:=fun b hb=>hoth b (fun e=>hF (e▸hb))
 refine ⟨hs.write (b0:=g0) id ho rfl hσ rfl hoth nC (.mp ks' vs') ⟨g0,es',c2,rfl,sV hlt,hk.mono (fun _ _ e=>e) (fun _ e=>e) hFw,hv.mono (fun _ _ e=>e) (fun _ e=>e) hFw,hF⟩ (fun _ h=>h),
  Mv.write (w:=w) (w':=wput w g0 (.map es' c2)) (F:=F) (b0:=g0) id ho rfl hσ rfl rfl rfl drO hoth nC (.mp ks' vs') (fun _ h=>h)⟩
theorem rY {es:Array MapEntry} {i:Nat} {e:MapEntry} (he:es[i]?=some e) (k v:Value) (hk:e.key=k):(es.modify i fun e=>{ e with key:=k,val:=v }).toList.map (·.key)=es.toList.map (·.key):=by
 apply yL;intro j;rw [xJ,xJ,zc,zc,yE];by_cases h:i=j
 ·subst h;simp [he,hk]
 ·simp [h]
theorem rJ {es:Array MapEntry} {i:Nat} {e:MapEntry} (he:es[i]?=some e) (k v:Value):(es.modify i fun e=>{ e with key:=k,val:=v }).toList.map (·.val)=(es.toList.map (·.val)).set i v:=by
 apply yL;intro j;rw [xJ,zc,yE,xV];by_cases h:i=j
 ·subst h;have hlt:i<es.size:=(xX.1 he).1;simp [he,hlt]
 ·simp [h]
theorem ra {κ:Type} [DecidableEq κ] {ek:κ->AV} {ks:List κ} {vs:List AV} {t kt et:TypeId} {id:Nat} {k:κ} {a:AV} {r:Option Nat} {vy vz:Value}
  (hm:P.underlying t=some (.map kt et)) (hK:KeyT P kt ek) (hs:Sim aw σ w F) (ho:aw[id]?=some (.mp (ks.map ek) vs)) (hσ:σ[id]?=some (.map r)) (hy:Rel σ w F (ek k) vy) (hz:Rel σ w F a vz) :
  ∃ w',(Instr.mapUpdate t (.map r) vy vz).run P w=.ok () w' /\
   (match kix k ks with
    | some i=>Sim (aw.set id (.mp (ks.map ek) (vs.set i a))) σ w' F/\Mv aw σ w F (aw.set id (.mp (ks.map ek) (vs.set i a))) σ w' F
    | none=>Sim (aw.set id (.mp ((ks++[k]).map ek) (vs++[a]))) σ w' F/\Mv aw σ w F (aw.set id (.mp ((ks++[k]).map ek) (vs++[a]))) σ w' F):=by
 obtain ⟨g0,es,clock,rfl,hg,hks,hvs,hF⟩:=kV hs ho hσ
 obtain ⟨dd,hu,hc,hsame⟩:=hK.out
 have hf:=m4 hK hks hy w
 have hchk:=hc false k σ w F vy hy w
 have hput:∀ o:Obj,(setObj g0 o).run P w=.ok () (wput w g0 o):=fun o=>sw o hg
 cases hkx:kix k ks with
 | none =>
  rw [hkx] at hf
  obtain ⟨h1,h2⟩:=nW (c2:=clock+1) hs ho hσ hg hF (tu (e:={ key:=vy,val:=vz,born:=clock }) hks hy) (th (e:={ key:=vy,val:=vz,born:=clock }) hvs hz)
  refine ⟨wput w g0 (.map (es.push { key:=vy,val:=vz,born:=clock }) (clock+1)),?_,by simpa using h1,by simpa using h2⟩
  simp only [Instr.mapUpdate,Sem.run_bind,run_underlying hm,Result.andThen_ok,g8 hg,hchk,hf,Option.bind_none,hput]
 | some i =>
  rw [hkx] at hf
  have hik:=jo hkx
  have hiv:i<vs.length:=by have e1:=hks.1;have e2:=hvs.1;have:=(xG.1 hik).1;simp at e1 e2;omega
  obtain ⟨e,he,_⟩:=o9 hvs (xH hiv)
  have hrk:Rel σ w F (ek k) e.key:=hks.2 i _ _ (by rw [xJ,hik];rfl) (by rw [xJ,zc,he];rfl)
  obtain ⟨hb,hkeq⟩:=(hsame k k σ w F vy e.key hy hrk).2 rfl
  have hf':(Instr.findKey kt vy es.toList).run P w=.ok (some (i,e.val)) w:=by rw [hf];simp [he]
  have hstay:(Instr.keyThatStays e.key vy).run P w=.ok vy w:=by simp [Instr.keyThatStays,hb]
  obtain ⟨h1,h2⟩:=nW (es':=es.modify i fun e=>{ e with key:=vy,val:=vz }) (c2:=clock) (ks':=ks.map ek) (vs':=vs.set i a) hs ho hσ hg hF (by rw [rY he vy vz hkeq];exact hks) (by rw [rJ he vy vz];exact hvs.set i hz)
  refine ⟨wput w g0 (.map (es.modify i fun e=>{ e with key:=vy,val:=vz }) clock),?_,h1,h2⟩
  simp only [Instr.mapUpdate,Sem.run_bind,run_underlying hm,Result.andThen_ok,g8 hg,hchk,hf',he,zB,y0,hstay,hput]
theorem dH {κ:Type} [DecidableEq κ] {ek:κ->AV} {ks:List κ} {vs:List AV} {t kt et:TypeId} {op:Op} {x y z:Operand} {id:Nat} {k:κ} {a:AV} {o2:Ob}
  (hop:op=.mapUpdate t x y z∨op=.insert t x y z) (hm:P.underlying t=some (.map kt et)) (hK:KeyT P kt ek) (hx:evA n l x=.mpr id) (hy:evA n l y=ek k) (hz:evA n l z=a) (ho:aw[id]?=some (.mp (ks.map ek) vs))
  (hr:(match kix k ks with | some i=>Ob.mp (ks.map ek) (vs.set i a) | none=>.mp ((ks++[k]).map ek) (vs++[a]))=o2) (ha:aw.set id o2=aw') (h:K2 .any aw'):OP P N ⟨d,op,ty,ps,af,g⟩ (mkA n l) aw K2 :=
 OP.of_ok (fun σ w F ac har hs=>by
  subst ha;have ex:=har.ev x;have ey:=har.ev y;have ez:=har.ev z;rw [ab,hx] at ex;rw [ab,hy] at ey;rw [ab,hz] at ez;generalize hvx:ac.eval x=vx at ex;cases ex with
  | mpr _ r hσ =>
   obtain ⟨w',hrun,hm'⟩:=ra hm hK hs ho hσ ey ez;have hexec:(execOp ac.eval ⟨d,op,ty,ps,af,g⟩).run P w=.ok .skip w':=by rcases hop with rfl | rfl<;>simp only [execOp,hvx,Sem.run_bind,hrun,Result.andThen_ok,Sem.run_pure]
   cases hkx:kix k ks with
   | none =>
    rw [hkx] at hr hm';subst hr;exact ⟨undef,_,w',_,σ,F,.any,hexec,.inr ⟨rfl,rfl⟩,hm'.1,hm'.2,.any _,h⟩
   | some i =>
    rw [hkx] at hr hm';subst hr;exact ⟨undef,_,w',_,σ,F,.any,hexec,.inr ⟨rfl,rfl⟩,hm'.1,hm'.2,.any _,h⟩)
variable {κ ν:Type} [DecidableEq κ] {ek:κ→AV} {ev:ν→AV} {xs:List (κ × ν)}
theorem oe {t kt et:TypeId} {x y:Operand} {id:Nat} {k:κ} {z:Value} {z0:ν} (hm:P.underlying t=some (.map kt et)) (hK:KeyT P kt ek) (hz:(P.info? et).bind (·.zero)=some z) (hza:∀ σ w F,Rel σ w F (ev z0) z)
  (hx:evA n l x=.mpr id) (hy:evA n l y=ek k) (ho:aw[id]?=some (.mp ((xs.map (·.1)).map ek) ((xs.map (·.2)).map ev))) (h:K2 (ev ((mget k xs).getD z0)) aw):OP P N ⟨d,.lookup t x y false,ty,ps,af,g⟩ (mkA n l) aw K2:=by
 refine kk (az:=ev z0) (a:=ev ((mget k xs).getD z0)) hm hK hz hza hx hy ho ?_ h
 rw [kD]
 cases hk:kix k (xs.map (·.1)) with
 | none=>rfl
 | some i =>
  have hi:=(xG.1 (jo hk)).1
  have hi2:i<xs.length:=by simpa using hi
  simp [pickA,hi2]
theorem mQ {t kt et:TypeId} {x y:Operand} {id:Nat} {k:κ} {z:Value} {z0:ν} (hm:P.underlying t=some (.map kt et)) (hK:KeyT P kt ek) (hz:(P.info? et).bind (·.zero)=some z) (hza:∀ σ w F,Rel σ w F (ev z0) z)
  (hx:evA n l x=.mpr id) (hy:evA n l y=ek k) (ho:aw[id]?=some (.mp ((xs.map (·.1)).map ek) ((xs.map (·.2)).map ev))) (h:K2 (.tup [ev ((mget k xs).getD z0),.bool (mget k xs).isSome]) aw):OP P N ⟨d,.lookup t x y true,ty,ps,af,g⟩ (mkA n l) aw K2:=by
 have key:pickA ((xs.map (·.2)).map ev) (ev z0) (kix k (xs.map (·.1)))=some (ev ((mget k xs).getD z0))/\(kix k (xs.map (·.1))).isSome=(mget k xs).isSome:=by
  rw [kD];cases hk:kix k (xs.map (·.1)) with
  | none=>exact ⟨rfl,rfl⟩
  | some i =>
   have hi:=(xG.1 (jo hk)).1;have hi2:i<xs.length:=by simpa using hi
   simp [pickA,hi2]
 exact kk (az:=ev z0) (a:=ev ((mget k xs).getD z0)) hm hK hz hza hx hy ho key.1 (by rw [if_pos rfl,key.2];exact h)
theorem je {t kt et:TypeId} {op:Op} {x y z:Operand} {id:Nat} {k:κ} {a:ν} (hop:op=.mapUpdate t x y z∨op=.insert t x y z) (hm:P.underlying t=some (.map kt et)) (hK:KeyT P kt ek)
  (hx:evA n l x=.mpr id) (hy:evA n l y=ek k) (hz:evA n l z=ev a) (ho:aw[id]?=some (.mp ((xs.map (·.1)).map ek) ((xs.map (·.2)).map ev)))
  (ha:aw.set id (.mp (((mset k a xs).map (·.1)).map ek) (((mset k a xs).map (·.2)).map ev))=aw') (h:K2 .any aw'):OP P N ⟨d,op,ty,ps,af,g⟩ (mkA n l) aw K2:=by
 refine dH hop hm hK hx hy hz ho ?_ ha h
 cases hk:kix k (xs.map (·.1)) with
 | none=>rw [nh hk];simp
 | some i =>
  obtain ⟨h1,h2⟩:=nz (v:=a) hk
  rw [h1,h2]
  simp [List.map_set]
theorem r9 {x:Operand} {t kt et:TypeId} {id:Nat} {ks vs:List AV} {m:Nat} (hm:P.underlying t=some (.map kt et)) (hx:evA n l x=.mpr id) (ho:aw[id]?=some (.mp ks vs)) (hl:ks.length=m) (h:K2 (.int .i64 m) aw) :
  OP P N ⟨d,.call ⟨.builtin .len,#[x],#[t]⟩,ty,ps,af,g⟩ (mkA n l) aw K2 :=
 OP.of_ok (fun σ w F ac har hs=>by
  have ex:=har.ev x;rw [ab,hx] at ex;generalize hvx:ac.eval x=vx at ex;cases ex with
  | mpr _ r hσ =>
   obtain ⟨g0,es,clock,rfl,hg,hks,hvs,hF⟩:=kV hs ho hσ;have e1:es.size=m:=by have:=hks.1;simp at this;omega
   refine ⟨.int .i64 m,_,w,aw,σ,F,_,?_,.inl rfl,hs,.refl ..,.int _ _,h⟩;simp [execOp,resolve,invoke,builtin,Sem.run_bind,hvx,Builtin.len_,run_underlying hm,g8 hg,goInt,e1])
end
section
variable {P:Program} {aw aw':List Ob} {κ ν:Type} {ek:κ→AV} {ev:ν→AV} {xs:List (κ × ν)}
theorem iY {ρ:List Nat}:∀ {as₀:List AV},(∀ a,a∈as₀->Pure a)->be ρ as₀ as₀
 | [],_=>trivial
 | a::as₀,h=>⟨dv (h a (.head _)),iY fun b hb=>h b (.tail _ hb)⟩
theorem rn_np {ρ:List Nat} {k id:Nat} (h:ρ[k]?=some id):Ren ρ (.np k) (.np id):=fun σ w F v hr σ' hσ=>by
 cases hr with
 | np0 _=>exact .np0 k
 | npS _ g hg=>exact .npS k g (by rw [hσ k id h];exact hg)
theorem rm_np {m:List (Nat × Nat)} {k id:Nat} (h:(k,id)∈m):RenM m (.np k) (.np id):=fun σ w F v hr σ' hσ=>by
 cases hr with
 | np0 _=>exact .np0 k
 | npS _ g hg=>exact .npS k g (by have:=hσ _ h;simp only at this;rw [this];exact hg)
theorem pr {ρ:List Nat} {k id:Nat} (h:ρ[k]?=some id):Ren ρ (.mpr k) (.mpr id):=fun σ w F v hr σ' hσ=>by
 cases hr with
 | mpr _ r hg=>exact .mpr k r (by rw [hσ k id h];exact hg)
theorem pp {m:List (Nat × Nat)} {k id:Nat} (h:(k,id)∈m):RenM m (.mpr k) (.mpr id):=fun σ w F v hr σ' hσ=>by
 cases hr with
 | mpr _ r hg=>exact .mpr k r (by have:=hσ _ h;simp only at this;rw [this];exact hg)
theorem km {m:List (Nat × Nat)}:∀ {as₀:List AV},(∀ a,a∈as₀->Pure a)->cQ m as₀ as₀
 | [],_=>trivial
 | a::as₀,h=>⟨bx (h a (.head _)),km fun b hb=>h b (.tail _ hb)⟩
end
abbrev kI (n:Int):AV:=.int .i64 n
abbrev kS (s:List UInt8):AV:=.str s
abbrev kB (b:Bool):AV:=.bool b
abbrev kU (_:Unit):AV:=.agg []
theorem dO {σ:List Value} {w:World} {F:Nat->Prop} {cs:List AV} {vs:List Value} (h:RelL σ w F cs vs) (h1:vs.all (·.oneCell')=true):Rel σ w F (.agg cs) (.agg vs.toArray) :=
 .agg cs vs h.1 (fun u hu=>yl.1 h1 u hu) h.2
theorem um {κ:Type} [DecidableEq κ] {k:κ}:kix k ([]:List κ)=none:=rfl
theorem eR {κ:Type} [DecidableEq κ] {k k':κ} {r:List κ} (h:k=k'):kix k (k'::r)=some 0:=if_pos h
theorem aB {κ:Type} [DecidableEq κ] {k k':κ} {r:List κ} {o:Option Nat} (h:k≠k') (h2:kix k r=o):kix k (k'::r)=o.map (· + 1):=by rw [<- h2];exact if_neg h
section
variable {P:Program} {N n:Nat} {aw aw':List Ob} {l:List (Nat × AV)} {d:Option Tmp} {ty:TypeId} {ps:String} {af:Array Edge} {g:Option (Nat × Bool)} {K2:AV→List Ob→Prop}
theorem dF {κ:Type} [DecidableEq κ] {ek:κ->AV} {ks:List κ} {vs:List AV} {t kt et:TypeId} {x y:Operand} {id:Nat} {k:κ} {z:Value} {az a:AV} {r:Option Nat}
  (hm:P.underlying t=some (.map kt et)) (hK:KeyT P kt ek) (hz:(P.info? et).bind (·.zero)=some z) (hza:∀ σ w F,Rel σ w F az z) (hx:evA n l x=.mpr id) (hy:evA n l y=ek k) (ho:aw[id]?=some (.mp (ks.map ek) vs))
  (hk:kix k ks=r) (hr:pickA vs az r=some a) (h:K2 (.tup [a,.bool r.isSome]) aw):OP P N ⟨d,.lookup t x y true,ty,ps,af,g⟩ (mkA n l) aw K2:=by
 subst hk;exact kk hm hK hz hza hx hy ho hr (by rw [if_pos rfl];exact h)
theorem nI {κ ν:Type} {ek:κ->AV} {ev:ν->AV} {xs:List (κ × ν)} {x:Operand} {t kt et:TypeId} {id:Nat} (hm:P.underlying t=some (.map kt et)) (hx:evA n l x=.mpr id)
  (ho:aw[id]?=some (.mp ((xs.map (·.1)).map ek) ((xs.map (·.2)).map ev))) (h:K2 (.int .i64 xs.length) aw):OP P N ⟨d,.call ⟨.builtin .len,#[x],#[t]⟩,ty,ps,af,g⟩ (mkA n l) aw K2 :=
 r9 hm hx ho (by simp) h
theorem T.join2 {x y1 y2 y:Code} {Q:Exit->List AV->List Ob->Prop} {fr:List AV} {Z:Type} (F:Z->List AV) (A:Z->List Ob) (S:Z->Prop) (h:∀ z,S z->T P N y Q (F z) (A z))
 (h2:(∀ z,S z->T P N y Q (F z) (A z))->T P N (.seq x (.seq y1 (.seq y2 y))) Q fr aw):T P N (.seq x (.seq y1 (.seq y2 y))) Q fr aw:=h2 h
theorem T.join3 {x y1 y2 y3 y:Code} {Q:Exit->List AV->List Ob->Prop} {fr:List AV} {Z:Type} (F:Z->List AV) (A:Z->List Ob) (S:Z->Prop) (h:∀ z,S z->T P N y Q (F z) (A z))
 (h2:(∀ z,S z->T P N y Q (F z) (A z))->T P N (.seq x (.seq y1 (.seq y2 (.seq y3 y)))) Q fr aw):T P N (.seq x (.seq y1 (.seq y2 (.seq y3 y)))) Q fr aw:=h2 h
theorem T.join4 {x y1 y2 y3 y4 y:Code} {Q:Exit->List AV->List Ob->Prop} {fr:List AV} {Z:Type} (F:Z->List AV) (A:Z->List Ob) (S:Z->Prop) (h:∀ z,S z->T P N y Q (F z) (A z))
 (h2:(∀ z,S z->T P N y Q (F z) (A z))->T P N (.seq x (.seq y1 (.seq y2 (.seq y3 (.seq y4 y))))) Q fr aw):T P N (.seq x (.seq y1 (.seq y2 (.seq y3 (.seq y4 y))))) Q fr aw:=h2 h
theorem qT {t:TypeId} {len:Nat} {parts:Array (Nat × Operand)} {e c k:Nat} {z:List AV} {rows:List (List AV)} {vs vs2:List AV} (hS:SliceOf P t e c) (hz:ai P e=some z) (hl:Nat.ble (len*c) 16777216=true) (hv:parts.toList.map (fun p=>evA n l p.2)=vs) (hn:bi aw vs=(vs2,aw)) (hr:fH P c (List.replicate len z) ((parts.toList.map (·.1)).zip vs2)=some rows) (hk:aw.length=k) (ha:aw++[.arr e c rows]=aw') (h:K2 (.ref k) aw'):OP P N ⟨d,.buildSlice t len parts,ty,ps,af,g⟩ (mkA n l) aw K2 :=
 OP.of_vc (by subst hk ha;obtain ⟨z',hz1,hz2⟩:=hS.z;rw [hz] at hz1;cases hz1;show vcE P (mkA n l) aw (.buildSlice t len parts) K2;simp only [vcE,hS.u,hz,hS.c];rw [show (parts.toList.map fun p=>ev (mkA n l) p.2)=vs from by rw [<- hv];exact yp fun p _=>ab n l p.2,hn,hr];exact ⟨hz2,hS.p,yD hl,h⟩)
end
end
section
open Go.RowKit Go.Lib
section
variable {P:Program} {N n:Nat} {aw aw':List Ob} {l:List (Nat × AV)}
theorem iJ {size:Nat}:∀ (rows:List (List AV)) (j:Nat),(∀ row,row∈rows->row.length=size)->(rows.take j).flatten=rows.flatten.take (j*size)
 | [],j,_=>by simp
 | r::rows,0,_=>by simp
 | r::rows,j+1,h=>by
  have hr:=h r (by simp);have e:(j+1)*size=r.length+j*size:=by rw [yx];omega
  rw [List.take_succ_cons,yi,yi,iJ rows j (fun x hx=>h x (by simp [hx])),e,List.take_length_add_append]
end
end
section
open Go.RowKit
section
variable {P:Program} {N n:Nat} {aw aw':List Ob} {l:List (Nat × AV)} {σ:List Value} {w:World} {F:Nat→Prop}
structure IsV (σ:List Value) (id c lo n:Nat) (v:Value):Prop where
 out:∃ (N C K:Nat) (A B:Option Addr),σ[id]?=some (.slice B N C)/\v=.slice A n K/\lo+n<=C/\(0<n->∃ g,B=some ⟨g,0,none⟩/\A=some ⟨g,lo*c,none⟩)
structure Src (w:World) (c m:Nat) (flat:List Value) (v:Value):Prop where
 out:∃ (A:Option Addr) (K:Nat),v=.slice A m K/\flat.length=m*c/\(A=none->flat=[])/\∀ ad,A=some ad->∀ j u,flat[j]?=some u->w.cell? (ad.add j)=some u
theorem oF {id e c:Nat} {rows:List (List AV)} (hs:Sim aw σ w F) (ho:aw[id]?=some (.arr e c rows)) {A:Option Addr} {q cp:Nat} (hσ:σ[id]?=some (.slice A q cp)):q=rows.length/\q<=cp:=by
 obtain ⟨flat,hown,_⟩:=hs.obj id _ _ ho hσ;rcases hown.2 with ⟨h1,h2⟩ | ⟨g,cap,cur,h1,_,_,h2,_⟩
 ·cases h1;exact ⟨by omega,by omega⟩
 ·cases h1;exact ⟨rfl,h2⟩
theorem pf {id c lo m:Nat} {cap:Option Nat} {v:Value} (h:Rel σ w F (.vw id c lo m cap) v):IsV σ id c lo m v:=by
 cases h with
 | vw _ _ _ _ N C _ A B h hn hA hc _=>exact ⟨N,C,_,A,B,h,rfl,hn,hA⟩
theorem ut {id e c:Nat} {rows:List (List AV)} {v:Value} (hs:Sim aw σ w F) (ho:aw[id]?=some (.arr e c rows)) (h:Rel σ w F (.ref id) v):IsV σ id c 0 rows.length v:=by
 cases h with
 | ref _ A q cp hσ =>
  obtain ⟨h1,h2⟩:=oF hs ho hσ;subst h1;obtain ⟨_,flat,_,_,hc⟩:=eI hs ho hσ;refine ⟨_,cp,cp,A,A,hσ,rfl,by omega,fun h0=>?_⟩;rcases hc with hc | ⟨g,cur,e1,_⟩
  ·subst hc;simp at h0
  ·exact ⟨g,e1,by simpa using e1⟩
theorem uT {id e c lo m:Nat} {rows:List (List AV)} {v:Value} (hs:Sim aw σ w F) (ho:aw[id]?=some (.arr e c rows)) (hv:IsV σ id c lo m v) (hlo:lo+m<=rows.length) :
  ∃ flat,Src w c m flat v/\RelL σ w F ((rows.drop lo).take m).flatten flat/\(∀ u,u∈flat->u.oneCell'=true)/\∀ row,row∈rows->row.length=c:=by
 obtain ⟨N0,C,K,A,B,hσ,rfl,hn,hA⟩:=hv.out
 obtain ⟨h1,flat,hown,hfl,hc⟩:=eI hs ho hσ
 have hfr:(((rows.drop lo).take m).flatten)=((rows.flatten.drop (lo*c)).take (m*c)):=by
  rw [iJ _ _ (fun row hr=>hfl.1 row (yI hr))];congr 1;have:∀ (k:Nat) (l:List (List AV)),(∀ row,row∈l->row.length=c)->(l.drop k).flatten=l.flatten.drop (k*c):=by
   intro k;induction k with
   | zero=>intro l _;simp
   | succ k ih =>
    intro l hl;cases l with
    | nil=>simp
    | cons x l =>
     rw [List.drop_succ_cons,ih l (fun row hr=>hl row (yn _ hr)),yi,yx,Nat.one_mul,<- hl x yk,zA (k*x.length),<- zw,List.drop_left]
  exact this lo rows hfl.1
 refine ⟨(flat.drop (lo*c)).take (m*c),⟨A,K,rfl,?_,fun hA0=>?_,fun ad had j u hj=>?_⟩,?_,fun u hu=>hfl.2.1 u (yI (yj hu)),hfl.1⟩
 ·have h2:=hown.1
  have:lo*c+m*c<=N0*c:=by rw [<- yx];exact yA _ (by omega)
  rw [yf,yP];omega
 ·by_cases hm:m=0
  ·subst hm;simp
  ·obtain ⟨g,_,e2⟩:=hA (by omega)
   rw [hA0] at e2;cases e2
 ·have hj':j<m*c:=by
   have:=(xG.1 hj).1;rw [yf] at this;omega
  by_cases hm:m=0
  ·subst hm;simp at hj'
  ·obtain ⟨g,e1,e2⟩:=hA (by omega)
   rw [had] at e2;cases e2
   rcases hc with hc | ⟨g',cur,e3,_⟩
   ·subst hc;simp at hlo;omega
   ·rw [e1] at e3;cases e3
    rw [e1] at hown
    rw [ye,if_pos hj',yu] at hj
    have:=hown.cells (g:=g) rfl (lo*c+j) u hj
    rw [cn] at this
    rw [show (⟨g,lo*c,none⟩:Addr).add j=⟨g,lo*c+j,none⟩ from by unfold Addr.add;split<;>simp_all]
    exact this
 ·rw [hfr];exact hfl.2.2.sub _ _
theorem vK {c:Nat} {rows:List (List AV)} {v:Value} (h:Rel σ w F (.sl rows) v) (hrow:∀ row,row∈rows->row.length=c) :
  ∃ flat,Src w c rows.length flat v/\RelL σ w F rows.flatten flat/\(∀ u,u∈flat->u.oneCell'=true):=by
 cases h with
 | slNil=>exact ⟨[],⟨none,0,rfl,by simp,fun _=>rfl,fun ad h=>by cases h⟩,.nil,fun u hu=>by simp at hu⟩
 | sl _ size ad cp u hF hn hm hr1 hone hcell hrel =>
  by_cases hne:rows=[]
  ·subst hne
   exact ⟨[],⟨some ad,cp,rfl,by simp,fun _=>rfl,fun _ _ j u hj=>by simp at hj⟩,.nil,fun u hu=>by simp at hu⟩
  ·have hsize:size=c:=by
    obtain ⟨r,rs,rfl⟩:=List.exists_cons_of_ne_nil hne;exact (hr1 r (by simp)).symm.trans (hrow r (by simp))
   subst hsize
   have hlen:rows.flatten.length=rows.length*size:=by
    have:∀ l:List (List AV),(∀ row,row∈l->row.length=size)->l.flatten.length=l.length*size:=by
     intro l;induction l with
     | nil=>simp
     | cons x l ih =>
      intro hx;rw [yi,xP,ih (fun row hr=>hx row (yn _ hr)),hx x yk,xM,yx];omega
    exact this rows hr1
   by_cases h0:size=0
   ·subst h0
    refine ⟨[],⟨some ad,cp,rfl,by simp,(fun _=>rfl),(fun _ _ j u hj=>by simp at hj)⟩,?_,fun u hu=>by simp at hu⟩
    have:rows.flatten=[]:=xQ (by simpa using hlen)
    rw [this];exact .nil
   ·have idx:∀ k,k<rows.length*size->k / size<rows.length/\k % size<size/\k / size*size+k % size=k:=fun k hk =>
     ⟨zm (by rw [zf];exact hk),Nat.mod_lt _ (by omega),by rw [zf];exact Nat.div_add_mod k _⟩
    have hget:∀ (k:Nat) x,((List.range (rows.length*size)).map fun k=>u (k / size) (k % size))[k]?=some x->k<rows.length*size/\x=u (k / size) (k % size):=fun k x hx=>by rw [xJ,xU] at hx;obtain ⟨m,hm1,rfl⟩:=hx;obtain ⟨hlt,e1⟩:=xG.1 hm1;simp at hlt e1;subst e1;exact ⟨hlt,rfl⟩
    refine ⟨(List.range (rows.length*size)).map fun k=>u (k / size) (k % size),⟨some ad,cp,rfl,by simp,fun h=>(by cases h),fun ad' e j x hj=>?_⟩,⟨by simp [hlen],fun j x y hx hy=>?_⟩,fun x hx=>?_⟩
    ·cases e
     obtain ⟨h1,rfl⟩:=hget j x hj
     obtain ⟨h2,h3,h4⟩:=idx j h1
     have:=hcell _ _ h2 h3
     rwa [h4] at this
    ·obtain ⟨h1,rfl⟩:=hget j y hy
     obtain ⟨h2,h3,h4⟩:=idx j h1
     have hf:=gR hr1 (j / size) (j % size) rows[j / size] (xH h2) h3
     rw [h4,hx] at hf
     exact hrel _ _ _ _ (xH h2) hf.symm
    ·obtain ⟨k,hk⟩:=y8 hx
     obtain ⟨h1,rfl⟩:=hget k x hk
     obtain ⟨h2,h3,_⟩:=idx k h1
     exact hone _ _ h2 h3
theorem rP {id e c lo k:Nat} {rows news:List (List AV)} {B:Option Addr} {N0 C g:Nat} {vs:List Value} (hs:Sim aw σ w F) (ho:aw[id]?=some (.arr e c rows)) (hσ:σ[id]?=some (.slice (some ⟨g,0,none⟩) N0 C))
  (hk:news.length=k) (hlo:lo+k<=rows.length) (hrow:∀ row,row∈news->row.length=c) (hvl:vs.length=k*c) (hr:RelL σ w F news.flatten vs) (h1:∀ u,u∈vs->u.oneCell'=true) :
  ∃ w',(storeCells ⟨g,lo*c,none⟩ vs).run P w=.ok () w'/\Sim (aw.set id (.arr e c (rows.take lo++news++rows.drop (lo+k)))) σ w' F/\Mv aw σ w F (aw.set id (.arr e c (rows.take lo++news++rows.drop (lo+k)))) σ w' F:=by
 obtain ⟨hn,flat,hown,hfl,hc⟩:=eI hs ho hσ
 have hdrop:∀ (k:Nat) (l:List (List AV)),(∀ row,row∈l->row.length=c)->(l.drop k).flatten=l.flatten.drop (k*c):=by
  intro k;induction k with
  | zero=>intro l _;simp
  | succ k ih =>
   intro l hl;cases l with
   | nil=>simp
   | cons x l =>
    rw [List.drop_succ_cons,ih l (fun row hr=>hl row (yn _ hr)),yi,yx,Nat.one_mul,<- hl x yk,zA (k*x.length),<- zw,List.drop_left]
 rcases hc with hc | ⟨g',cur,e1,hF,hg,hnc,h2,h3,h4⟩
 ·subst hc
  have h0:k=0:=by simp at hlo;omega
  have hl0:lo=0:=by simp at hlo;omega
  subst h0 hl0
  have hv0:vs=[]:=xQ (by simpa using hvl)
  have hn0:news=[]:=xQ hk
  subst hv0 hn0
  have hset:aw.set id (.arr e c (([]:List (List AV)).take 0++[]++([]:List (List AV)).drop (0+0)))=aw:=by obtain ⟨hlt,hvs⟩:=xG.1 ho;have:aw.set id aw[id]=aw:=yq hlt;rw [hvs] at this;simpa using this
  rw [hset]
  exact ⟨w,by simp [storeCells],hs,.refl ..⟩
 ·cases e1
  have hin:lo*c+k*c<=N0*c:=by rw [<- yx];exact yA _ (by omega)
  have hcap:N0*c<=cur.size:=by rw [h3];exact yA _ hnc
  have hst:=run_storeCells_at P g (lo*c) e vs 0 cur w hg (by omega) h1
  simp only [yU] at hst
  have hkk:∀ b,b≠g->(w.setRow g (cur.toList.take (lo*c)++vs++cur.toList.drop (lo*c+vs.length)).toArray).heap[b]?=w.heap[b]?:=fun b hb=>setRow_other w g b _ hb
  have hflat:flat.length=N0*c:=hown.1
  have hlen2:(rows.take lo++news++rows.drop (lo+k)).length=N0:=by simp;omega
  have hORel:ORel σ (w.setRow g (cur.toList.take (lo*c)++vs++cur.toList.drop (lo*c+vs.length)).toArray) F (.arr e c (rows.take lo++news++rows.drop (lo+k))) (.slice (some ⟨g,0,none⟩) N0 C):=by
   refine ⟨flat.take (lo*c)++vs++flat.drop (lo*c+vs.length),⟨?_,.inr ⟨g,C,_,by rw [hlen2],yr _,setRow_heap w g cur _ e (0,0) hg,by rw [hlen2];exact hnc,h2,?_,?_⟩⟩,⟨fun row hr=>?_,fun u hu=>?_,?_⟩,fun g2 hg2=>?_,_,_,_,rfl⟩
   ·rw [hlen2];simp only [xP,yf,yP];omega
   ·simp only [yX,xP,yf,yP,zp];omega
   ·rw [hlen2];simp only [zq];have h5:=mN cur.toList vs (lo*c) (N0*c) (by omega) (by simpa using hcap);simp only [aS] at h5;rw [h5,h4]
   ·rcases yw.1 hr with hr | hr
    ·rcases yw.1 hr with hr | hr
     ·exact hfl.1 row (yj hr)
     ·exact hrow row hr
    ·exact hfl.1 row (yI hr)
   ·rcases yw.1 hu with hu | hu
    ·rcases yw.1 hu with hu | hu
     ·exact hfl.2.1 u (yj hu)
     ·exact h1 u hu
    ·exact hfl.2.1 u (yI hu)
   ·rw [za,za,iJ _ _ hfl.1,hdrop _ _ hfl.1];rw [show lo*c+vs.length=(lo+k)*c from by rw [hvl,yx]] at hkk ⊢;have hd2:RelL σ w F (rows.flatten.drop ((lo+k)*c)) (flat.drop ((lo+k)*c)):=by
     refine ⟨by simp [hfl.2.2.1],fun j a v ha hv=>?_⟩;rw [yu] at ha hv;exact hfl.2.2.2 _ a v ha hv
    exact (((hfl.2.2.take _).append hr).append hd2).mono (fun _ _ e=>e) (fun _ e=>e) (fun b hb=>hkk b (fun e=>hF (e▸hb)))
   ·simp [Value.ownBlock] at hg2;subst hg2;exact hF
  exact ⟨_,hst,hs.write (b0:=g) id ho rfl hσ rfl hkk (by simp) _ hORel (fun _ h=>h),Mv.write (w:=w) (w':=w.setRow g _) (F:=F) (b0:=g) id ho rfl hσ rfl rfl rfl drO hkk (by simp) _ (fun _ h=>h)⟩
theorem ta {t ts ty e c id lo m k:Nat} {rows news:List (List AV)} {vd vs:Value} {flat:List Value} (hu:P.underlying t=some (.slice e)) (hc:P.cellsOf e=c) (hsm:(P.underlying e).isSome=true) (hs:Sim aw σ w F) (ho:aw[id]?=some (.arr e c rows))
  (hd:IsV σ id c lo m vd) (hsrc:Src w c news.length flat vs) (hr:RelL σ w F news.flatten flat) (h1:∀ u,u∈flat->u.oneCell'=true) (hrow:∀ row,row∈news->row.length=c) (hk:min m news.length=k) (hlo:lo+k<=rows.length) :
  ∃ w',(Builtin.copy_ #[t,ts] ty #[vd,vs]).run P w=.ok (goInt k) w'/\Sim (aw.set id (.arr e c (rows.take lo++news.take k++rows.drop (lo+k)))) σ w' F/\Mv aw σ w F (aw.set id (.arr e c (rows.take lo++news.take k++rows.drop (lo+k)))) σ w' F:=by
 obtain ⟨N0,C,K,A,B,hσ,rfl,hn,hA⟩:=hd.out
 obtain ⟨A2,K2,rfl,hfl,hnone,hcell⟩:=hsrc.out
 obtain ⟨ds,hds⟩:=ya.1 hsm
 have hmin:Nat.min news.length m=k:=by rw [<- hk];exact Nat.min_comm _ _
 have htk:k*c<=flat.length:=by rw [hfl];exact yA _ (by omega)
 have hfirst:(Builtin.firstCells c k (.slice A2 news.length K2)).run P w=.ok (flat.take (k*c)).toArray w:=by
  cases A2 with
  | none=>rw [hnone rfl];simp [Builtin.firstCells]
  | some ad=>exact run_firstCells_some w c k ad news.length K2 (flat.take (k*c)) (by rw [yf];omega) (fun j u hj=>by
   rw [ye] at hj;split at hj
   ·exact hcell ad rfl j u hj
   ·cases hj)
 have hsz:=cy hds
 rw [hc] at hsz
 have hset:aw.set id (.arr e c (rows.take lo++([]:List (List AV))++rows.drop (lo+0)))=aw:=by obtain ⟨hlt,hvs⟩:=xG.1 ho;have:aw.set id aw[id]=aw:=yq hlt;rw [hvs] at this;simpa using this
 by_cases h0:k=0
 ·subst h0
  simp only [List.take_zero]
  rw [hset]
  refine ⟨w,?_,hs,.refl ..⟩
  have he:(flat.take (0*c)).toArray=#[]:=by simp
  rw [he] at hfirst
  cases A with
  | none=>simp [Builtin.copy_,Sem.run_bind,run_underlying hu,Builtin.lenOf,hmin,hsz,hfirst]
  | some a=>simp [Builtin.copy_,Sem.run_bind,run_underlying hu,Builtin.lenOf,hmin,hsz,hfirst,storeCells]
 ·obtain ⟨g,rfl,rfl⟩:=hA (by omega)
  have hrt:RelL σ w F (news.take k).flatten (flat.take (k*c)):=by rw [iJ _ _ hrow];exact hr.take _
  obtain ⟨w',hst,s2,m2⟩:=rP (P:=P) (B:=none) (news:=news.take k) (vs:=flat.take (k*c)) (lo:=lo) (k:=k) hs ho hσ (by simp;omega) hlo (fun row hr=>hrow row (yj hr)) (by rw [yf];omega) hrt (fun u hu=>h1 u (yj hu))
  refine ⟨w',?_,s2,m2⟩
  simp [Builtin.copy_,Sem.run_bind,run_underlying hu,Builtin.lenOf,hmin,hsz,hfirst,hst]
variable {d:Option Tmp} {ty:TypeId} {ps:String} {af:Array Edge} {g:Option (Nat × Bool)} {K2:AV→List Ob→Prop} {α:Type} {en:α→List AV} {xs ys:List α}
theorem ox (lo:Option Operand):lo.map (ev (mkA n l))=lo.map (evA n l):=by cases lo<;>simp [ab]
theorem iP {t:TypeId} {x:Operand} {lo hi:Option Operand} {id e c:Nat} {i j:Int} {k k':IntKind} {u:Unit} (hS:SliceOf P t e c) (hx:evA n l x=.ref id) (ho:aw[id]?=some (.arr e c (xs.map en)))
    (hl:(lo.map (evA n l)).getD (.int .i64 0)=.int k i) (hh:(hi.map (evA n l)).getD (.int .i64 xs.length)=.int k' j) (hv:vwok xs.length i j=some u) (h:K2 (.vw id c i.toNat (j.toNat - i.toNat) none) aw) :
    OP P N ⟨d,.slice t x lo hi none,ty,ps,af,g⟩ (mkA n l) aw K2 :=
  OP.of_ok (fun σ w F a har hs=>by
    unfold vwok at hv;split at hv
    · rename_i hc;have ex:=har.ev x;rw [ab,hx] at ex;generalize hvx:a.eval x=vx at ex;cases ex with
      | ref _ A q cp hσ =>
        obtain ⟨h1,h2⟩:=oF hs ho hσ;rw [xW] at h1;subst h1;obtain ⟨ds,hd⟩:=ya.1 hS.s;have hsz:=cy hd;rw [hS.c] at hsz;have b:=fun w'=>iT (P:=P) har (lo:=lo) (hi:=hi) (b:=true) (len:=xs.length) (cap:=cp) (by rw [ox];exact hl) (by rw [ox];exact hh) hc.1 hc.2.1 hc.2.2 h2 w'
        have hfm:∃ g,xs≠[]->A=some ⟨g,0,none⟩:=by
          obtain ⟨_,_,_,_,hc2⟩:=eI hs ho hσ;rcases hc2 with hc2 | ⟨g,cur,e1,_⟩
          · exact ⟨0,fun h=>absurd (zt.1 hc2) h⟩
          · exact ⟨g,fun _=>e1⟩
        obtain ⟨g0,hg0⟩:=hfm;refine ⟨.slice (if cp=i.toNat then A else A.map (·.add (i.toNat*c))) (j.toNat - i.toNat) (cp - i.toNat),_,w,aw,σ,F,_,?_,.inl rfl,hs,.refl ..,?_,h⟩
        · simp [execOp,hvx,Instr.sliceAt,Instr.slice,Sem.run_bind,run_underlying hS.u,b,hsz]
        · refine .vw id c _ _ _ cp none _ A hσ (by omega) (fun hpos=>?_) (fun k hk=>by cases hk) ?_
          · have hne:xs≠[]:=by rintro rfl;simp at hc;omega
            refine ⟨g0,hg0 hne,?_⟩;have:¬ cp=i.toNat:=by omega
            rw [if_neg this,hg0 hne,zB,cn]
          · intro h0;rw [h0];split
            · rfl
            · cases A with
              | none=>rfl
              | some A=>cases A;simp [Addr.add]
    · cases hv)
theorem m8 {t ts e c id lo m k:Nat} {x y:Operand} {rows news:List (List AV)} {ax ay:AV} (hS:SliceOf P t e c) (hx:evA n l x=ax) (hy:evA n l y=ay) (ho:aw[id]?=some (.arr e c rows))
  (hd:∀ σ w F v,Sim aw σ w F->Rel σ w F ax v->IsV σ id c lo m v)
  (hsrc:∀ σ w F v,Sim aw σ w F->Rel σ w F ay v->∃ flat,Src w c news.length flat v/\RelL σ w F news.flatten flat/\(∀ u,u∈flat->u.oneCell'=true)) (hrow:∀ row,row∈news->row.length=c)
  (hk:min m news.length=k) (hlo:lo+k<=rows.length) (ha:aw.set id (.arr e c (rows.take lo++news.take k++rows.drop (lo+k)))=aw') (h:K2 (.int .i64 k) aw') :
  OP P N ⟨d,.call ⟨.builtin .copy,#[x,y],#[t,ts]⟩,ty,ps,af,g⟩ (mkA n l) aw K2 :=
 OP.of_ok (fun σ w F a har hs=>by subst ha;have ex:=har.ev x;have ey:=har.ev y;rw [ab,hx] at ex;rw [ab,hy] at ey;obtain ⟨flat,h1,h2,h3⟩:=hsrc σ w F _ hs ey;obtain ⟨w',hrun,s2,m2⟩:=ta (P:=P) (t:=t) (ts:=ts) (ty:=ty) hS.u hS.c hS.s hs ho (hd σ w F _ hs ex) h1 h2 h3 hrow hk hlo;refine ⟨goInt k,_,w',_,σ,F,_,?_,.inl rfl,s2,m2,.int _ _,h⟩;simp [execOp,resolve,invoke,builtin,Sem.run_bind,hrun])
theorem oK (lo m:Nat):(cpy xs lo m ys).map en=(xs.map en).take lo++(ys.map en).take (min m ys.length)++(xs.map en).drop (lo+min m ys.length):=by
 unfold cpy;have:ys.take m=ys.take (min m ys.length):=by
  by_cases h:m<=ys.length
  ·rw [yV h]
  ·rw [Nat.min_eq_right (by omega),yc (by omega),List.take_length]
 rw [yM,yM,zz,List.map_drop,this,zz]
theorem rZ {t ts e c id:Nat} {x y:Operand} (hS:SliceOf P t e c) (hen:∀ a,(en a).length=c) (hx:evA n l x=.ref id) (hy:evA n l y=.sl (ys.map en)) (ho:aw[id]?=some (.arr e c (xs.map en)))
  (ha:aw.set id (.arr e c ((cpy xs 0 xs.length ys).map en))=aw') (h:K2 (.int .i64 (min xs.length ys.length:Nat)) aw'):OP P N ⟨d,.call ⟨.builtin .copy,#[x,y],#[t,ts]⟩,ty,ps,af,g⟩ (mkA n l) aw K2:=by
 have hrow:∀ row,row∈ys.map en->row.length=c:=fun row hr=>by obtain ⟨a,_,rfl⟩:=yb.1 hr;exact hen a
 rw [oK] at ha
 exact m8 (lo:=0) (m:=xs.length) (news:=ys.map en) (k:=min xs.length ys.length) hS hx hy ho (fun σ w F v hs hr=>by have:=ut hs ho hr;rwa [xW] at this) (fun σ w F v _ hr=>vK hr hrow) hrow (by simp) (by simp;omega) ha h
theorem sy {t ts e c id lo m lo2 m2:Nat} {x y:Operand} {cap cap2:Option Nat} {u u2:Unit} (hS:SliceOf P t e c) (hen:∀ a,(en a).length=c) (hx:evA n l x=.vw id c lo m cap) (hy:evA n l y=.vw id c lo2 m2 cap2) (ho:aw[id]?=some (.arr e c (xs.map en)))
  (hv:vwok xs.length lo ((lo:Int)+m)=some u) (hv2:vwok xs.length lo2 ((lo2:Int)+m2)=some u2) (ha:aw.set id (.arr e c ((cpy xs lo m ((xs.drop lo2).take m2)).map en))=aw') (h:K2 (.int .i64 (min m m2:Nat)) aw'):OP P N ⟨d,.call ⟨.builtin .copy,#[x,y],#[t,ts]⟩,ty,ps,af,g⟩ (mkA n l) aw K2:=by
 unfold vwok at hv hv2
 split at hv<;>split at hv2
 ·rename_i hc hc2
  have hl2:((xs.drop lo2).take m2).length=m2:=by rw [yf,yP];omega
  have hrow:∀ row,row∈((xs.drop lo2).take m2).map en->row.length=c:=fun row hr=>by obtain ⟨a,_,rfl⟩:=yb.1 hr;exact hen a
  rw [oK,hl2] at ha
  refine m8 (news:=((xs.drop lo2).take m2).map en) (k:=min m m2) hS hx hy ho (fun σ w F v _ hr=>pf hr) (fun σ w F v hs hr=>?_) hrow (by rw [xW,hl2]) (by simp;omega) ha h
  obtain ⟨flat,h1,h2,h3,_⟩:=uT hs ho (pf hr) (by simp;omega)
  rw [xW,hl2]
  rw [<- List.map_drop,<- zz] at h2
  exact ⟨flat,h1,h2,h3⟩
 ·cases hv2
 ·cases hv
 ·cases hv
end
end
section
open Go.RowKit Go.Lib
section
variable {P:Program} {N n:Nat} {aw aw':List Ob} {l:List (Nat × AV)} {σ:List Value} {w:World} {F:Nat→Prop}
theorem uZ {t:Nat} {r:AV} {v:Value} {a:Act} (h:ARel σ w F (mkA n l) a) (hv:a.eval (.tmp t)=v) (hr:Rel σ w F r v):ARel σ w F (mkA n ((t,r)::l)) a:=by
 have e1:a.tmps.getD t undef=v:=hv;have hset:mkA n ((t,r)::l)=(mkA n l).set t r:=(bD n l (some t) r).symm;rw [hset];refine ⟨?_,h.2⟩;by_cases ht:t<a.tmps.size
 ·have:=h.1.set t hr;have e2:a.tmps.toList.set t v=a.tmps.toList:=by
   have e3:a.tmps.toList[t]?=some v:=by
    have:a.tmps[t]?=some v:=by rw [ze ht];rw [<- e1];simp [ht]
    simpa using this
   obtain ⟨hlt2,hvs⟩:=xG.1 e3;rw [<- hvs];exact yq hlt2
  rwa [e2] at this
 ·have hlen:=h.1.1;have:(mkA n l).set t r=mkA n l:=List.set_eq_of_length_le (by rw [<- hlen];simpa using Nat.le_of_not_lt ht);rw [this];exact h.1
variable {d:Option Tmp} {ty:TypeId} {ps:String} {af:Array Edge} {g:Option (Nat × Bool)} {K2:AV→List Ob→Prop} {α:Type} {en:α→List AV} {xs ys:List α}
theorem T.nilA {code:Code} {Q:Exit->List AV->List Ob->Prop} (t j e z:Nat) {cs cs':List AV} (hx:evA n l (.tmp t)=.agg cs) (hj:cs[j]?=some .nils) (hc:cs.set j (.ref aw.length)=cs') (ha:aw++[.arr e z []]=aw') (h:T P N code Q (mkA n ((t,.agg cs')::l)) aw'):T P N code Q (mkA n l) aw :=
 ⟨fun st h1 h2 σ w F a hcur=>by
  subst hc ha;obtain ⟨s1,m1,r1⟩:=jd e z hcur.sim;have hr:=hcur.fr.ev (.tmp t);rw [ab,hx] at hr;generalize hv:a.eval (.tmp t)=v at hr;have hr1:=m1.rel hcur.sim hr;have hr2:Rel (σ++[.slice none 0 0]) w F (.agg (cs.set j (.ref aw.length))) v:=by
   cases hr1 with
   | agg _ vs hl h1c hcc =>
    refine .agg _ vs (by simpa using hl) h1c (fun i x u hx hu=>?_);rw [xV] at hx;split at hx
    ·rename_i e1;subst e1;split at hx
     ·cases hx;have:=hcc j .nils u hj hu;cases this;exact r1
     ·cases hx
    ·exact hcc i x u hx hu
  exact h.out st h1 h2 _ w F a ⟨s1,uZ (m1.aRel hcur.sim hcur.fr) hv hr2,hcur.mv.trans m1,hcur.ds⟩⟩
end
end
section
open Go.RowKit
abbrev iI (n:Int):AV:=.int .i64 n
abbrev sL {α:Type} (en:α->List AV) (xs:List α):AV:=.sl (List.map en xs)
abbrev aR {α:Type} (e c:Nat) (en:α->List AV) (xs:List α):Ob:=.arr e c (List.map en xs)
section
variable {P:Program} {N n:Nat} {aw aw':List Ob} {l:List (Nat × AV)} {ops:Array Oper} {os:List Oper} {K:List AV→List Ob→Prop} {o:Oper} {d:Option Tmp} {x:Operand} {ty:TypeId} {ps:String} {af:Array Edge}
theorem sq (h:vcQ P (mkA n l) aw o.op fun r=>RS P N ops os K (mkA n (br l o.dst r)) aw) (hg:o.guard=none:=by rfl) (hq:fD o.op=true:=by rfl):RS P N ops (o::os) K (mkA n l) aw:=RS.op hg (OP.q hq h)
theorem sn {j t:Nat} {want b:Bool} (hbw:b=!want) (h:RS P N ops os K (mkA n (br l o.dst (.tup []))) aw) (hg:o.guard=some (j,want):=by rfl) (ht:(ops[j]?).bind (·.dst)=some t:=by rfl) (hb:evA n l (.tmp t)=.bool b:=by rfl) :
 RS P N ops (o::os) K (mkA n l) aw:=RS.no hg ht hb hbw h
theorem su {j t:Nat} {want:Bool} (h:RS P N ops os K (mkA n (br l o.dst (.tup []))) aw) (hg:o.guard=some (j,want):=by rfl) (ht:(ops[j]?).bind (·.dst)=some t:=by rfl) (hb:evA n l (.tmp t)=.tup []:=by rfl) :
 RS P N ops (o::os) K (mkA n l) aw:=RS.nou hg ht hb h
def SubA:List (Nat × AV)->List (Nat × AV)->Prop
 | [],_=>True
 | (s,v)::r,l=>lkA l s=v/\SubA r l
theorem o5:∀ {l' l:List (Nat × AV)},SubA l' l->∀ t,lkA l' t=.any∨lkA l' t=lkA l t
 | [],l,_,t=>.inl rfl
 | (s,v)::r,l,h,t=>by
  rw [eM];by_cases e:s=t
  ·subst e;rw [if_pos rfl];exact .inr h.1.symm
  ·rw [if_neg e];exact o5 h.2 t
theorem oR {l':List (Nat × AV)} {st:St} {σ:List Value} {w:World} {F:Nat->Prop} {a:Act} (h:SubA l' l) (hc:Cur st (mkA n l) aw σ w F a):Cur st (mkA n l') aw σ w F a:=by
 refine ⟨hc.sim,⟨⟨?_,fun j x v hx hv=>?_⟩,hc.fr.2⟩,hc.mv,hc.ds⟩
 ·have:=hc.fr.1.1;rw [fB] at this ⊢;exact this
 ·rw [cK] at hx;split at hx
  ·rename_i hj;cases hx;rcases o5 h j with e | e
   ·rw [e];exact .any _
   ·rw [e];exact hc.fr.1.2 j _ v (by rw [cK,if_pos hj]) hv
  ·cases hx
theorem RA.sub {l':List (Nat × AV)} {k:Nat} {li:Array Bool} (h:RA P N ops k li K (mkA n l') aw) (hs:SubA l' l):RA P N ops k li K (mkA n l) aw:=⟨fun st h1 h2 σ w F a hc=>h.out st h1 h2 σ w F a (oR hs hc)⟩
theorem T.sub {l':List (Nat × AV)} {c:Code} {Q:Exit->List AV->List Ob->Prop} (h:T P N c Q (mkA n l') aw) (hs:SubA l' l):T P N c Q (mkA n l) aw:=⟨fun st h1 h2 σ w F a hc=>h.out st h1 h2 σ w F a (oR hs hc)⟩
section
variable {k:Nat} {li li':Array Bool} {fr fr':List AV}
theorem ra1 (i1:Nat) (h1:RO P N ops i1 (RA P N ops k (li.setIfInBounds i1 true) K) fr aw) (hr:Region.ready .any ops li=[i1]:=by decide +kernel):RA P N ops (k+1) li K fr aw:=RA.a1 hr rfl h1
theorem ra2 (i1 i2:Nat) (h1:RO P N ops i1 (RA P N ops k (li.setIfInBounds i1 true) K) fr aw) (h2:RO P N ops i2 (RA P N ops k (li.setIfInBounds i2 true) K) fr aw) (hr:Region.ready .any ops li=[i1,i2]:=by decide +kernel):RA P N ops (k+1) li K fr aw:=RA.a2 hr rfl rfl h1 h2
theorem ra3 (i1 i2 i3:Nat) (h1:RO P N ops i1 (RA P N ops k (li.setIfInBounds i1 true) K) fr aw) (h2:RO P N ops i2 (RA P N ops k (li.setIfInBounds i2 true) K) fr aw) (h3:RO P N ops i3 (RA P N ops k (li.setIfInBounds i3 true) K) fr aw)
 (hr:Region.ready .any ops li=[i1,i2,i3]:=by decide +kernel):RA P N ops (k+1) li K fr aw:=RA.a3 hr rfl rfl rfl h1 h2 h3
theorem ra4 (i1 i2 i3 i4:Nat) (h1:RO P N ops i1 (RA P N ops k (li.setIfInBounds i1 true) K) fr aw) (h2:RO P N ops i2 (RA P N ops k (li.setIfInBounds i2 true) K) fr aw) (h3:RO P N ops i3 (RA P N ops k (li.setIfInBounds i3 true) K) fr aw)
 (h4:RO P N ops i4 (RA P N ops k (li.setIfInBounds i4 true) K) fr aw) (hr:Region.ready .any ops li=[i1,i2,i3,i4]:=by decide +kernel):RA P N ops (k+1) li K fr aw:=RA.a4 hr rfl rfl rfl rfl h1 h2 h3 h4
end
theorem bz:(∀ b,(true || b)=true)/\(∀ b,(b || true)=true)/\(∀ b,(false || b)=b)/\(∀ b,(b || false)=b)/\(∀ b,(true && b)=b)/\(∀ b,(b && true)=b)/\(∀ b,(false && b)=false)/\(∀ b,(b && false)=false)/\(!true)=false/\(!false)=true:=by refine ⟨?_,?_,?_,?_,?_,?_,?_,?_,rfl,rfl⟩<;>intro b<;>cases b<;>rfl
theorem it {α:Type} (a b:α):(if true=true then a else b)=a:=rfl
class RetI (Q:Exit->List AV->List Ob->Prop) (R:outParam (List AV->List Ob->Prop)):Prop where
 out:∀ fr aw,R fr aw->Q .ret fr aw
instance {fn:Func} {M:Nat} {Q:AV->List Ob->Prop}:RetI (retQ P fn M Q) (fun fr aw=>aG P fr aw fn.results.toList (Ret M Q aw)):=⟨fun _ _ h=>h⟩
instance {K:List AV->List Ob->Prop} {Q:Exit->List AV->List Ob->Prop} {R:List AV->List Ob->Prop} [h:RetI Q R]:RetI (thenA K Q) R:=⟨h.out⟩
instance {id:Nat} {Q:Exit->List AV->List Ob->Prop} {R:List AV->List Ob->Prop} [h:RetI Q R]:RetI (fo id Q) R:=⟨h.out⟩
instance {α β:Type} {M:Nat} {v:α ⊕ β} {F:α->List AV} {A:α->List Ob} {Q:Exit->List AV->List Ob->Prop} {R:List AV->List Ob->Prop} [h:RetI Q R]:RetI (LQ M v F A Q) R:=⟨h.out⟩
theorem T.rt {Q:Exit->List AV->List Ob->Prop} {R:List AV->List Ob->Prop} {fr:List AV} [hq:RetI Q R] (h:R fr aw):T P N .ret Q fr aw:=T.ret (hq.out fr aw h)
class PureC (a:AV):Prop where
 out:Pure a
class EnP {α:Type} (en:α->List AV):Prop where
 out:∀ a x,x∈en a->Pure x
instance {k:IntKind} {i:Int}:PureC (.int k i):=⟨au _ _⟩
instance {b:Bool}:PureC (.bool b):=⟨dI _⟩
instance {s:List UInt8}:PureC (.str s):=⟨eK _⟩
instance:PureC .nils:=⟨gX⟩
instance:PureC .nilf:=⟨gY⟩
instance {α:Type} {en:α->List AV} {xs:List α} [h:EnP en]:PureC (.sl (xs.map en)):=⟨aW h.out _⟩
class PureCs (cs:List AV):Prop where
 out:∀ a,a∈cs->Pure a
instance:PureCs []:=⟨fun a h=>by cases h⟩
instance {a:AV} {cs:List AV} [h:PureC a] [t:PureCs cs]:PureCs (a::cs):=⟨fun b hb=>by cases hb with | head=>exact h.out | tail _ hb=>exact t.out b hb⟩
instance {cs:List AV} [h:PureCs cs]:PureC (.agg cs):=⟨nR _ h.out⟩
instance {cs:List AV} [h:PureCs cs]:PureC (.tup cs):=⟨tp _ h.out⟩
theorem rw_bs {ρ ids:List Nat} {id:Nat} (cs:List AV) [h:PureCs cs] (ho:aw[id]?=some (.box cs)) (t:aO ρ aw ids aw'):aO ρ aw (id::ids) (.box cs::aw'):=dQ ho (iY h.out) t
theorem rw_ar {α:Type} {en:α->List AV} {xs ys:List α} {ρ ids:List Nat} {id e s:Nat} [h:EnP en] (ho:aw[id]?=some (.arr e s (ys.map en))) (hx:xs=ys) (t:aO ρ aw ids aw'):aO ρ aw (id::ids) (.arr e s (xs.map en)::aw'):=vu ho h.out hx t
theorem rn_s {α:Type} {en:α->List AV} {xs ys:List α} {ρ:List Nat} [hp:EnP en] (h:xs=ys):Ren ρ (.sl (xs.map en)) (.sl (ys.map en)):=rn_sl hp.out h
end
end
section
open Go.RowKit
namespace RK
def Over (w w':World):Prop:=∀ r,r<w.heap.size->w'.heap[r]?=w.heap[r]?
theorem Over.rfl' (w:World):Over w w:=fun _ _=>rfl
theorem Over.size {w w':World} (h:Over w w'):w.heap.size<=w'.heap.size:=by
 rcases Nat.eq_zero_or_pos w.heap.size with h0 | h0
 ·omega
 ·have:=h (w.heap.size - 1) (by omega);have hl:w.heap.size - 1<w.heap.size:=by omega
  rw [ze hl] at this;have:=(xX.1 this).1;omega
theorem Over.trans {a b c:World} (h:Over a b) (k:Over b c):Over a c:=fun r hr =>
 (k r (yv hr h.size)).trans (h r hr)
inductive Keeps {α:Type}:Sem α->Prop
 | pure (a:α):Keeps (.pure a)
 | load (m:Go.Mode) (a:Addr) (k:Value->Sem α):(∀ v,Keeps (k v))->Keeps (.load m a k)
 | new (o:Obj) (k:Nat->Sem α):(∀ r,Keeps (k r))->Keeps (.new o k)
 | shape (r:Nat) (k:Option (TypeId × Nat)->Sem α):(∀ x,Keeps (k x))->Keeps (.shape r k)
 | frozen (a:Addr) (k:Bool->Sem α):(∀ x,Keeps (k x))->Keeps (.frozen a k)
 | getObj (r:Nat) (k:Obj->Sem α):(∀ x,Keeps (k x))->Keeps (.getObj r k)
 | choose (q:Question) (k:Nat->Sem α):(∀ x,Keeps (k x))->Keeps (.choose q k)
 | program (k:Program->Sem α):(∀ x,Keeps (k x))->Keeps (.program k)
 | mark (m:Mark) (k:Sem α):Keeps k->Keeps (.mark m k)
 | halt (h:Halt):Keeps (.halt h)
theorem Keeps.bind {α β:Type} {s:Sem α} (h:Keeps s) {f:α->Sem β} (hf:∀ a,Keeps (f a)):Keeps (s.bind f):=by
 induction h with
 | pure a=>exact hf a
 | load m a k _ ih=>exact .load m a _ fun v=>ih v
 | new o k _ ih=>exact .new o _ fun v=>ih v
 | shape r k _ ih=>exact .shape r _ fun v=>ih v
 | frozen a k _ ih=>exact .frozen a _ fun v=>ih v
 | getObj r k _ ih=>exact .getObj r _ fun v=>ih v
 | choose q k _ ih=>exact .choose q _ fun v=>ih v
 | program k _ ih=>exact .program _ fun v=>ih v
 | mark m k _ ih=>exact .mark m _ ih
 | halt h=>exact .halt h
theorem Keeps.run {α:Type} {s:Sem α} (h:Keeps s) (P:Program):∀ (w:World) (x:α) (w':World),s.run P w=.ok x w'->Over w w':=by
 induction h with
 | pure a=>intro w x w' e;simp only [Sem.run,Result.ok.injEq] at e;rw [<- e.2];exact .rfl' w
 | load m a k _ ih =>
  intro w x w' e;simp only [Sem.run] at e;split at e
  ·exact ih _ _ _ _ e
  ·split at e
   ·exact ih _ _ _ _ e
   ·cases e
 | new o k _ ih =>
  intro w x w' e;simp only [Sem.run] at e;refine Over.trans (fun r hr=>?_) (ih _ _ _ _ e);simp [Array.getElem?_push,Nat.ne_of_lt hr]
 | shape r k _ ih=>intro w x w' e;exact ih _ _ _ _ e
 | frozen a k _ ih=>intro w x w' e;exact ih _ _ _ _ e
 | getObj r k _ ih =>
  intro w x w' e;simp only [Sem.run] at e;split at e
  ·cases e
  ·exact ih _ _ _ _ e
  ·cases e
 | choose q k _ ih =>
  intro w x w' e;simp only [Sem.run] at e;split at e
  ·exact ih _ _ _ _ e
  ·exact fun r hr=>ih _ _ _ _ e r hr
 | program k _ ih=>intro w x w' e;exact ih _ _ _ _ e
 | mark m k _ ih=>intro w x w' e;exact ih _ _ _ e
 | halt h=>intro w x w' e;simp only [Sem.run] at e;cases e
theorem Keeps.mb {α β:Type} {s:Sem α} (h:Keeps s) {f:α->Sem β} (hf:∀ a,Keeps (f a)):Keeps (s >>= f):=h.bind hf
theorem Keeps.fm {α β:Type} {s:Sem α} (h:Keeps s) {f:α->β}:Keeps (Functor.map f s):=h.bind fun a=>.pure _
theorem bt {α:Type} (a:α):Keeps (Pure.pure a:Sem α):=.pure a
theorem da {α:Type} (s:String):Keeps (stuck s:Sem α):=.halt _
theorem dx {α:Type} (u:Unsupported):Keeps (unsupported u:Sem α):=.halt _
theorem cM (a:Addr) (m:Go.Mode):Keeps (Go.load a m):=.load _ _ _ fun _=>.pure _
theorem k_prog:Keeps Go.program:=.program _ fun _=>.pure _
theorem c7 (o:Obj):Keeps (newObj o):=.new _ _ fun _=>.pure _
theorem dw (r:Nat):Keeps (Go.shape r):=.shape _ _ fun _=>.pure _
theorem c8 (q:Question):Keeps (Go.choose q):=.choose _ _ fun _=>.pure _
theorem m9 (t:TypeId):Keeps (typeInfo t):=by unfold typeInfo;repeat (first | exact bt _ | exact da _ | exact dx _ | exact cM _ _ | exact k_prog | exact c7 _ | exact dw _ | exact c8 _ | assumption | exact Keeps.pure _ | exact Keeps.halt _ | (refine Keeps.mb ?_ fun _=>?_) | (refine Keeps.fm ?_) | (refine Keeps.bind ?_ fun _=>?_) | split)
theorem eq (t:TypeId):Keeps (underlying t):=by unfold underlying;repeat (first | exact bt _ | exact da _ | exact dx _ | exact cM _ _ | exact k_prog | exact c7 _ | exact dw _ | exact c8 _ | assumption | exact Keeps.pure _ | exact Keeps.halt _ | (refine Keeps.mb ?_ fun _=>?_) | (refine Keeps.fm ?_) | (refine Keeps.bind ?_ fun _=>?_) | split)
theorem fq (t:TypeId):Keeps (sizeOf t):=(m9 t).mb fun _=>bt _
theorem fG (t:TypeId):Keeps (zeroValue t):=by unfold zeroValue;refine (m9 t).mb fun _=>?_;repeat (first | exact bt _ | exact da _ | exact dx _ | exact cM _ _ | exact k_prog | exact c7 _ | exact dw _ | exact c8 _ | assumption | exact Keeps.pure _ | exact Keeps.halt _ | (refine Keeps.mb ?_ fun _=>?_) | (refine Keeps.fm ?_) | (refine Keeps.bind ?_ fun _=>?_) | split)
theorem uq (t:TypeId):Keeps (isAgg t):=by unfold isAgg;refine (eq t).mb fun _=>?_;repeat (first | exact bt _ | exact da _ | exact dx _ | exact cM _ _ | exact k_prog | exact c7 _ | exact dw _ | exact c8 _ | assumption | exact Keeps.pure _ | exact Keeps.halt _ | (refine Keeps.mb ?_ fun _=>?_) | (refine Keeps.fm ?_) | (refine Keeps.bind ?_ fun _=>?_) | split)
theorem uD (a:Addr):∀ (n i:Nat) (acc:Array Value),Keeps (loadCellsFrom a i n acc):=by
 intro n;induction n with
 | zero=>intro i acc;exact bt _
 | succ n ih=>intro i acc;exact (cM _ _).mb fun _=>ih _ _
theorem sS (t:TypeId) (a:Addr):Keeps (loadVar t a):=by
 unfold loadVar loadCells;refine (uq t).mb fun _=>?_
 split
 ·exact (fq t).mb fun _=>(uD _ _ _ _).mb fun _=>bt _
 ·exact cM _ _
theorem gm (v:Value):Keeps (Instr.sureAddr v):=by unfold Instr.sureAddr;split<;>(first | exact bt _ | exact da _ | exact dx _ | exact cM _ _ | exact k_prog | exact c7 _ | exact dw _ | exact c8 _ | assumption | exact Keeps.pure _ | exact Keeps.halt _ | (refine Keeps.mb ?_ fun _=>?_) | (refine Keeps.fm ?_) | (refine Keeps.bind ?_ fun _=>?_) | split)
theorem ub (t:TypeId) (v:Value):Keeps (Instr.loadAt t v):=(gm v).mb fun _=>sS _ _
theorem fu (t:TypeId) (vs:Array Value):Keeps (newRow t vs):=(c7 _).mb fun _=>bt _
theorem k_box (t:TypeId) (v:Value):Keeps (Instr.box t v):=(fu _ _).mb fun _=>bt _
theorem u3 (t:TypeId):Keeps (Instr.alloc t true (.tuple #[])):=by unfold Instr.alloc;exact (fG t).mb fun _=>(fu _ _).mb fun _=>bt _
theorem sR (v:Value):Keeps (asIntOf v):=by unfold asIntOf;split<;>(first | exact bt _ | exact da _ | exact dx _ | exact cM _ _ | exact k_prog | exact c7 _ | exact dw _ | exact c8 _ | exact eq _ | exact fq _ | exact fG _ | exact gm _ | exact fu _ _ | assumption | exact Keeps.pure _ | exact Keeps.halt _ | (refine Keeps.mb ?_ fun _=>?_) | (refine Keeps.fm ?_) | (refine Keeps.bind ?_ fun _=>?_) | dsimp only | split)
theorem oU {α:Type} (v:Value):Keeps (goPanic v:Sem α):=.halt _
theorem tl {α:Type} (k:IntKind) (x y:Int) (c:BoundsCode):Keeps (boundsPanic k x y c:Sem α):=by
 unfold boundsPanic;dsimp only;split
 ·refine Keeps.mb (Keeps.fm (c8 _)) fun _=>?_
  unfold runtimePanic;exact k_prog.mb fun _=>oU _
 ·refine Keeps.mb (bt _) fun _=>?_
  unfold runtimePanic;exact k_prog.mb fun _=>oU _
theorem sF (t:TypeId) (x i:Value):Keeps (Instr.indexAt t x i):=by
 unfold Instr.indexAt;refine (sR i).mb fun _=>?_
 dsimp only;refine (eq t).mb fun _=>?_
 repeat (first | exact tl _ _ _ _ | (first | exact bt _ | exact da _ | exact dx _ | exact cM _ _ | exact k_prog | exact c7 _ | exact dw _ | exact c8 _ | exact eq _ | exact fq _ | exact fG _ | exact gm _ | exact fu _ _ | assumption | exact Keeps.pure _ | exact Keeps.halt _ | (refine Keeps.mb ?_ fun _=>?_) | (refine Keeps.fm ?_) | (refine Keeps.bind ?_ fun _=>?_) | dsimp only | split))
theorem qX (t:TypeId) (len:Nat) (ps:Array (Nat × Value)):Keeps (Instr.buildSlice t len ps):=by unfold Instr.buildSlice;repeat (first | exact bt _ | exact da _ | exact dx _ | exact cM _ _ | exact k_prog | exact c7 _ | exact dw _ | exact c8 _ | exact eq _ | exact fq _ | exact fG _ | exact gm _ | exact fu _ _ | assumption | exact Keeps.pure _ | exact Keeps.halt _ | (refine Keeps.mb ?_ fun _=>?_) | (refine Keeps.fm ?_) | (refine Keeps.bind ?_ fun _=>?_) | dsimp only | split)
theorem vj {α β:Type} (f:α->Sem β) (hf:∀ a,Keeps (f a)) (xs:Array α):Keeps (xs.mapM f):=by
 rw [Array.mapM_eq_mapM_toList];refine Keeps.fm ?_;generalize xs.toList=l;induction l with
 | nil=>exact bt _
 | cons a l ih=>rw [List.mapM_cons];exact (hf a).mb fun _=>ih.mb fun _=>bt _
theorem u5 (t:TypeId) (ps:Array (Nat × Value)):Keeps (Instr.build t ps):=by
 unfold Instr.build;refine (fG t).mb fun _=>(eq t).mb fun _=>?_
 split
 ·refine Keeps.mb (vj _ (fun f=>(fq _).mb fun _=>bt _) _) fun _=>?_
  repeat (first | exact bt _ | exact da _ | exact dx _ | exact cM _ _ | exact k_prog | exact c7 _ | exact dw _ | exact c8 _ | exact eq _ | exact fq _ | exact fG _ | exact gm _ | exact fu _ _ | assumption | exact Keeps.pure _ | exact Keeps.halt _ | (refine Keeps.mb ?_ fun _=>?_) | (refine Keeps.fm ?_) | (refine Keeps.bind ?_ fun _=>?_) | dsimp only | split)
 ·repeat (first | exact bt _ | exact da _ | exact dx _ | exact cM _ _ | exact k_prog | exact c7 _ | exact dw _ | exact c8 _ | exact eq _ | exact fq _ | exact fG _ | exact gm _ | exact fu _ _ | assumption | exact Keeps.pure _ | exact Keeps.halt _ | (refine Keeps.mb ?_ fun _=>?_) | (refine Keeps.fm ?_) | (refine Keeps.bind ?_ fun _=>?_) | dsimp only | split)
 ·exact da _
def Tame (o:Oper):Prop:=∀ ρ,∃ s:Sem Value,Keeps s/\execOp ρ o=s.bind fun x=>.pure (.value x)
theorem Keeps.val {s:Sem Value} (h:Keeps s) (P:Program):∀ (w:World) (n:Next) (w':World),
  (s.bind fun x=>.pure (.value x)).run P w=.ok n w'->∃ x,n=.value x:=by
 induction h with
 | pure a=>intro w n w' e;simp only [Sem.bind,Sem.run,Result.ok.injEq] at e;exact ⟨a,e.1.symm⟩
 | load m a k _ ih =>
  intro w n w' e
  simp only [Sem.bind,Sem.run] at e
  split at e
  ·exact ih _ _ _ _ e
  ·split at e
   ·exact ih _ _ _ _ e
   ·cases e
 | new o k _ ih=>intro w n w' e;exact ih _ _ _ _ e
 | shape r k _ ih=>intro w n w' e;exact ih _ _ _ _ e
 | frozen a k _ ih=>intro w n w' e;exact ih _ _ _ _ e
 | getObj r k _ ih =>
  intro w n w' e
  simp only [Sem.bind,Sem.run] at e
  split at e
  ·cases e
  ·exact ih _ _ _ _ e
  ·cases e
 | choose q k _ ih =>
  intro w n w' e
  simp only [Sem.bind,Sem.run] at e
  split at e
  ·exact ih _ _ _ _ e
  ·exact ih _ _ _ _ e
 | program k _ ih=>intro w n w' e;exact ih _ _ _ _ e
 | mark m k _ ih=>intro w n w' e;exact ih _ _ _ e
 | halt h=>intro w n w' e;simp only [Sem.bind,Sem.run] at e;cases e
theorem Tame.run {o:Oper} (h:Tame o) {P:Program} {ρ:Operand->Value} {w w':World} {n:Next} (e:(execOp ρ o).run P w=.ok n w') :
  (∃ x,n=.value x)/\Over w w':=by
 obtain ⟨s,hk,hs⟩:=h ρ
 rw [hs] at e
 exact ⟨hk.val P _ _ _ e,(hk.bind fun _=>.pure _).run P _ _ _ e⟩
theorem sC {o:Oper} {t:TypeId} {x:Operand} (h:o.op=.load t x):Tame o:=fun ρ=>⟨_,ub t (ρ x),by unfold execOp;rw [h];rfl⟩
theorem rV {o:Oper} {t:TypeId} (h:o.op=.alloc t):Tame o:=fun ρ=>⟨_,u3 t,by unfold execOp;rw [h];rfl⟩
theorem tB {o:Oper} {t:TypeId} {x:Operand} (h:o.op=.box t x):Tame o:=fun ρ=>⟨_,k_box t (ρ x),by unfold execOp;rw [h];rfl⟩
theorem rW {o:Oper} {t:TypeId} {x y:Operand} (h:o.op=.indexAddr t x y):Tame o:=fun ρ=>⟨_,sF t (ρ x) (ρ y),by unfold execOp;rw [h];rfl⟩
theorem rF {o:Oper} {t:TypeId} {ps:Array (Nat × Operand)} (h:o.op=.build t ps):Tame o:=fun ρ=>⟨_,u5 t _,by unfold execOp;rw [h];rfl⟩
theorem qM {o:Oper} {t:TypeId} {k:Nat} {ps:Array (Nat × Operand)} (h:o.op=.buildSlice t k ps):Tame o:=fun ρ=>⟨_,qX t k _,by unfold execOp;rw [h];rfl⟩
theorem sG {o:Oper} {x:Operand} (h:o.op=.move x):Tame o:=fun ρ=>⟨_,.pure (ρ x),by unfold execOp;rw [h];rfl⟩
section
variable {P:Program} {md:Region.Mode} {ops:Array Oper} {Q:Exit→Act→World→Prop}
def YieldsO (P:Program) (ops:Array Oper) (o:Oper) (v:Value) (a:Act) (w:World):Prop :=
 (Region.wanted o (yielded ops a.tmps)=true/\∀ w',Over w w'->(execOp a.eval o).run P w'=.ok (.value v) w') ∨
 (Region.wanted o (yielded ops a.tmps)=false/\v=undef)
theorem YieldsO.wpOp {i:Nat} {o:Oper} {v:Value} {a:Act} {w:World} (hi:ops[i]?=some o) (hy:YieldsO P ops o v a w)
  {K:Act->World->Prop} (h:K (a.put o.dst v) w):Go.wpOp P ops Q i K a w:=by
 unfold Go.wpOp
 simp only [hi]
 rcases hy with ⟨hw,hv⟩ | ⟨hw,rfl⟩
 ·simp only [hw,if_true,Oper.wp,hv w (.rfl' w),Oper.upon];exact .inl h
 ·simp only [hw,xS,if_false];exact h
theorem YieldsO.of_same {o:Oper} {v:Value} {a a':Act} {w w':World} (hy:YieldsO P ops o v a w) (hww:Over w w') (he:execOp a'.eval o=execOp a.eval o)
  (hw:Region.wanted o (yielded ops a'.tmps)=Region.wanted o (yielded ops a.tmps)):YieldsO P ops o v a' w':=by
 unfold YieldsO at *
 rw [he,hw]
 exact hy.imp (fun h=>⟨h.1,fun w2 h2=>h.2 w2 (hww.trans h2)⟩) id
theorem sd {j:Nat} {oi oj:Oper} {v:Value} (hj:ops[j]?=some oj) (hap:oi.apart ops oj=true) (ht:Tame oj)
  (hsi:∀ cs b,oi.op≠.select cs b) (hsj:∀ cs b,oj.op≠.select cs b)
  (hQ:∀ c a w,Q (.panic c) (a.put oi.dst v) w->Q (.panic c) a w) {K:Act->World->Prop} {a:Act} {w:World}
  (hy:YieldsO P ops oi v a w) (h:wpOp P ops Q j K (a.put oi.dst v) w) :
  wpOp P ops Q j (fun a' w'=>YieldsO P ops oi v a' w'/\K (a'.put oi.dst v) w') a w:=by
 obtain ⟨h1,h2,h3⟩:=Oper.apart_spec hap
 have keep:∀ u w',Over w w'->YieldsO P ops oi v (a.put oj.dst u) w':=fun u w' hw =>
  hy.of_same hw (execOp_put oi hsi a oj.dst u h3) (wanted_put oi a oj.dst u h3)
 unfold wpOp at *
 simp only [hj] at *
 rw [wanted_put oj a oi.dst v h1] at h
 split
 ·rename_i hw
  simp only [hw,if_true] at h
  rcases h with h | ⟨hasks,hlets⟩
  case inr=>exact .inr ⟨by unfold Oper.asks at *;rw [execOp_put oj hsj a oi.dst v h1] at hasks;exact hasks,hlets⟩
  refine .inl ?_
  unfold Oper.wp at *
  rw [execOp_put oj hsj a oi.dst v h1] at h
  have hr:=fun n w'=>ht.run (P:=P) (ρ:=a.eval) (w:=w) (w':=w') (n:=n)
  generalize (execOp a.eval oj).run P w=r at *
  cases r with
  | ok n w' =>
   obtain ⟨⟨u,rfl⟩,hov⟩:=hr n w' rfl
   simp only [Oper.upon] at h ⊢
   exact ⟨keep u w' hov,by rw [<- Act.put_comm a v u h2];exact h⟩
  | halt x w' =>
   cases x<;>simp only [Oper.upon] at h ⊢
   case panic u=>exact hQ _ _ _ h
 ·rename_i hw
  simp only [hw] at h
  exact ⟨keep _ w (.rfl' w),by rw [<- Act.put_comm a v undef h2];exact h⟩
theorem rv (D:Nat->Bool) {i:Nat} {oi:Oper} {v:Value} (hi:ops[i]?=some oi) (hsel:∀ (j:Nat) (o:Oper) cs b,ops[j]?=some o->o.op≠.select cs b)
  (hQ:∀ c a w,Q (.panic c) (a.put oi.dst v) w->Q (.panic c) a w) (hDi:D i=true)
  (hD:∀ j oj,ops[j]?=some oj->D j=true->j≠i->∃ e∈oj.after,Region.binds md e=true/\D e.on=true) :
  ∀ (fuel:Nat) (listed:Array Bool) (a:Act) (w:World),
   (∀ j oj,ops[j]?=some oj->D j=false->listed.getD j true=false->oi.apart ops oj=true/\Tame oj) ->
   (∀ j,D j=true->listed.getD j false=false) ->
   i∈Region.ready md ops listed->YieldsO P ops oi v a w ->
   wpAny P md ops Q fuel (listed.setIfInBounds i true) (a.put oi.dst v) w->wpAny P md ops Q (fuel+1) listed a w:=by
 intro fuel
 induction fuel with
 | zero =>
  intro listed a w _ _ hr hy H
  refine ⟨fun h=>(by rw [h] at hr;cases hr),fun j hj=>?_⟩
  by_cases hji:j=i
  ·subst hji;exact hy.wpOp hi H
  ·have:=ready_mono hj hji
   rw [H.1] at this
   cases this
 | succ fuel ih =>
  intro listed a w hfree hdl hr hy H
  refine ⟨fun h=>(by rw [h] at hr;cases hr),fun j hj=>?_⟩
  by_cases hji:j=i
  ·subst hji;exact hy.wpOp hi H
  ·have h1:=H.2 j (ready_mono hj hji)
   obtain ⟨hjun,oj,hoj,hall⟩:=mem_ready.1 hj
   have hDj:D j=false:=by
    cases hd:D j with
    | false=>rfl
    | true =>
     obtain ⟨e,he,hb,hde⟩:=hD j oj hoj hd hji;have:=hall e he hb;rw [hdl _ hde] at this;cases this
   obtain ⟨hap,ht⟩:=hfree j oj hoj hDj hjun
   have h2:=sd hoj hap ht (fun cs b=>hsel i oi cs b hi) (fun cs b=>hsel j oj cs b hoj) hQ hy h1
   have hfree':∀ k ok,ops[k]?=some ok->D k=false->(listed.setIfInBounds j true).getD k true=false->oi.apart ops ok=true/\Tame ok:=fun k ok hk hdk hun=>by
    refine hfree k ok hk hdk ?_;by_cases hjk:j=k
    ·subst hjk;exact hjun
    ·rw [getD_set_ne true hjk] at hun;exact hun
   have hdl':∀ k,D k=true->(listed.setIfInBounds j true).getD k false=false:=fun k hk=>by
    by_cases hjk:j=k
    ·subst hjk;rw [hk] at hDj;cases hDj
    ·rw [getD_set_ne false hjk];exact hdl k hk
   refine wpOp_mono (fun a' w' h3=>ih (listed.setIfInBounds j true) a' w' hfree' hdl' (ready_mono hr (Ne.symm hji)) h3.1 ?_) h2
   rw [Array.setIfInBounds_comm _ _ hji]
   exact h3.2
end
theorem tn {aw:List Ob} {σ:List Value} {w w':World} {F:Nat->Prop} (hs:Sim aw σ w F) (h:Over w w'):Agr aw σ w F w':=by
 rintro b (hb | ⟨k,cs,v,h1,h2,h3⟩)
 ·exact h b (hs.lt b hb)
 ·exact h b (hs.lt_own ⟨k,_,v,h1,rfl,h2,h3⟩)
section
variable {P:Program} {fr:List AV} {aw:List Ob}
theorem sa {st:St} {σ:List Value} {w:World} {F:Nat->Prop} {a:Act} {o:Oper} {K:AV->Prop} (hc:Cur st fr aw σ w F a) (h:vcQ P fr aw o.op K):∃ v r,(∀ w',Over w w'->(execOp a.eval o).run P w'=.ok (.value v) w')/\Rel σ w F r v/\K r:=by obtain ⟨v,r,h1,h2,h3⟩:=k6 hc.fr hc.sim o h;exact ⟨v,r,fun w' hw=>h1 w' (tn hc.sim hw),h2,h3⟩
def pq:Op->Bool
 | .load .. | .alloc .. | .box .. | .move .. | .indexAddr .. | .build .. | .buildSlice ..=>true
 | _=>false
theorem ur {o:Oper} (h:pq o.op=true):Tame o:=by cases e:o.op<;>rw [e] at h<;>first | (cases h;done) | exact sC e | exact rV e | exact tB e | exact sG e | exact rW e | exact rF e | exact qM e
def loadFree (ops:Array Oper) (li:Array Bool) (D:List Nat) (i:Nat):Bool :=
 match ops[i]? with
 | none=>false
 | some oi =>
  D.contains i && D.all (fun j=>li.getD j false==false && (j==i || match ops[j]? with
   | some oj=>oj.after.any fun e=>Region.binds .any e && D.contains e.on
   | none=>true)) &&
  (List.range ops.size).all fun j=>D.contains j || li.getD j true || match ops[j]? with
   | some oj=>oi.apart ops oj && pq oj.op
   | none=>true
theorem qR {ops:Array Oper} {Q:Exit->Act->World->Prop} (D:List Nat) {i:Nat} {oi:Oper} {v:Value} {fuel:Nat} {li:Array Bool} {a:Act} {w:World} (hi:ops[i]?=some oi)
  (hs:Region.noSelect ops=true) (hf:loadFree ops li D i=true) (hr:(Region.ready .any ops li).contains i=true)
  (hQ:∀ c a w,Q (.panic c) (a.put oi.dst v) w->Q (.panic c) a w) (hy:YieldsO P ops oi v a w)
  (h:wpAny P .any ops Q fuel (li.setIfInBounds i true) (a.put oi.dst v) w):wpAny P .any ops Q (fuel+1) li a w:=by
 simp only [loadFree,hi,yG,yl] at hf
 obtain ⟨⟨h1,h2⟩,h3⟩:=hf
 refine rv (fun j=>D.contains j) hi (Region.noSelect_spec hs) hQ h1 ?_ fuel li a w ?_ ?_ (by simpa using hr) hy h
 ·intro j oj hj hd hji
  have:=(h2 j (by simpa using hd)).2
  simp only [hj,zC,beq_iff_eq] at this
  rcases this with this | this
  ·exact absurd this hji
  ·obtain ⟨k,hk,he⟩:=Array.any_eq_true.1 this
   simp only [yG] at he
   exact ⟨_,Array.getElem_mem hk,he.1,he.2⟩
 ·intro j oj hj hd hl
  have:=h3 j (by simpa using (xX.1 hj).1)
  simp only [hd,hl,hj,Bool.false_or,yG] at this
  exact ⟨this.1,ur this.2⟩
 ·intro j hd
  have:=(h2 j (by simpa using hd)).1
  simpa using this
end
end RK
section
variable {P:Program} {N n:Nat} {aw:List Ob} {l:List (Nat × AV)}
end
section
variable {P:Program}
end
end
section
open Go.RowKit
set_option maxRecDepth 100000
theorem Ty.c1:Tryd.prog.cellsOf 1=1:=by kernel_rfl
theorem Ty.b1:Tryd.prog.bytesOf 1=8:=by kernel_rfl
theorem Ty.k1:aF Tryd.prog 1=some false:=by kernel_rfl
theorem Ty.z1:ai Tryd.prog 1=some [.nilf]:=by kernel_rfl
theorem Ty.c2:Tryd.prog.cellsOf 2=1:=by kernel_rfl
theorem Ty.b2:Tryd.prog.bytesOf 2=8:=by kernel_rfl
theorem Ty.k2:aF Tryd.prog 2=some false:=by kernel_rfl
theorem Ty.z2:ai Tryd.prog 2=some [.int .i64 0]:=by kernel_rfl
theorem Ty.c3:Tryd.prog.cellsOf 3=1:=by kernel_rfl
theorem Ty.b3:Tryd.prog.bytesOf 3=8:=by kernel_rfl
theorem Ty.k3:aF Tryd.prog 3=some false:=by kernel_rfl
theorem Ty.z3:ai Tryd.prog 3=some [.int .i64 0]:=by kernel_rfl
theorem Ty.c4:Tryd.prog.cellsOf 4=1:=by kernel_rfl
theorem Ty.b4:Tryd.prog.bytesOf 4=1:=by kernel_rfl
theorem Ty.k4:aF Tryd.prog 4=some false:=by kernel_rfl
theorem Ty.z4:ai Tryd.prog 4=some [.bool false]:=by kernel_rfl
theorem Ty.c5:Tryd.prog.cellsOf 5=1:=by kernel_rfl
theorem Ty.b5:Tryd.prog.bytesOf 5=1:=by kernel_rfl
theorem Ty.z5:ai Tryd.prog 5=some [.int .u8 0]:=by kernel_rfl
theorem Ty.c9:Tryd.prog.cellsOf 9=1:=by kernel_rfl
theorem Ty.b9:Tryd.prog.bytesOf 9=16:=by kernel_rfl
theorem Ty.k9:aF Tryd.prog 9=some false:=by kernel_rfl
theorem Ty.z9:ai Tryd.prog 9=some [.str []]:=by kernel_rfl
theorem Ty.c10:Tryd.prog.cellsOf 10=1:=by kernel_rfl
theorem Ty.k10:aF Tryd.prog 10=some false:=by kernel_rfl
theorem Ty.z10:ai Tryd.prog 10=some [.str []]:=by kernel_rfl
theorem Ty.c11:Tryd.prog.cellsOf 11=1:=by kernel_rfl
theorem Ty.c12:Tryd.prog.cellsOf 12=1:=by kernel_rfl
theorem Ty.c13:Tryd.prog.cellsOf 13=2:=by kernel_rfl
theorem Ty.c14:Tryd.prog.cellsOf 14=2:=by kernel_rfl
theorem Ty.z14:ai Tryd.prog 14=some [.str [],.int .u64 0]:=by kernel_rfl
theorem Ty.z15:ai Tryd.prog 15=some [.nilp]:=by kernel_rfl
theorem Ty.c17:Tryd.prog.cellsOf 17=1:=by kernel_rfl
theorem Ty.k17:aF Tryd.prog 17=some false:=by kernel_rfl
theorem Ty.z17:ai Tryd.prog 17=some [.nilp]:=by kernel_rfl
theorem Ty.c20:Tryd.prog.cellsOf 20=1:=by kernel_rfl
theorem Ty.z20:ai Tryd.prog 20=some [.nili]:=by kernel_rfl
theorem Ty.c21:Tryd.prog.cellsOf 21=1:=by kernel_rfl
theorem Ty.z21:ai Tryd.prog 21=some [.int .i32 0]:=by kernel_rfl
theorem Ty.c22:Tryd.prog.cellsOf 22=1:=by kernel_rfl
theorem Ty.k22:aF Tryd.prog 22=some false:=by kernel_rfl
theorem Ty.z22:ai Tryd.prog 22=some [.nils]:=by kernel_rfl
theorem Ty.c23:Tryd.prog.cellsOf 23=3:=by kernel_rfl
theorem Ty.k23:aF Tryd.prog 23=some true:=by kernel_rfl
theorem Ty.z23:ai Tryd.prog 23=some [.nils,.int .i64 0,.int .i64 0]:=by kernel_rfl
theorem Ty.p23:dt Tryd.prog 23=some [(0,1),(1,1),(2,1)]:=by kernel_rfl
theorem Ty.c24:Tryd.prog.cellsOf 24=3:=by kernel_rfl
theorem Ty.k24:aF Tryd.prog 24=some true:=by kernel_rfl
theorem Ty.z24:ai Tryd.prog 24=some [.nils,.int .i64 0,.int .i64 0]:=by kernel_rfl
theorem Ty.p24:dt Tryd.prog 24=some [(0,1),(1,1),(2,1)]:=by kernel_rfl
theorem Ty.c25:Tryd.prog.cellsOf 25=1:=by kernel_rfl
theorem Ty.k25:aF Tryd.prog 25=some false:=by kernel_rfl
theorem Ty.z25:ai Tryd.prog 25=some [.int .i64 0]:=by kernel_rfl
theorem Ty.c28:Tryd.prog.cellsOf 28=1:=by kernel_rfl
theorem Ty.k28:aF Tryd.prog 28=some false:=by kernel_rfl
theorem Ty.z28:ai Tryd.prog 28=some [.nils]:=by kernel_rfl
theorem Ty.z31:ai Tryd.prog 31=some [.nilf]:=by kernel_rfl
theorem Ty.c32:Tryd.prog.cellsOf 32=1:=by kernel_rfl
theorem Ty.c35:Tryd.prog.cellsOf 35=4:=by kernel_rfl
theorem Ty.b35:Tryd.prog.bytesOf 35=64:=by kernel_rfl
theorem Ty.k35:aF Tryd.prog 35=some true:=by kernel_rfl
theorem Ty.z35:ai Tryd.prog 35=some [.int .i64 0,.int .i64 0,.nils,.nils]:=by kernel_rfl
theorem Ty.p35:dt Tryd.prog 35=some [(0,1),(1,1),(2,1),(3,1)]:=by kernel_rfl
theorem Ty.z37:ai Tryd.prog 37=some [.nilf]:=by kernel_rfl
theorem Ty.c40:Tryd.prog.cellsOf 40=1:=by kernel_rfl
theorem Ty.c41:Tryd.prog.cellsOf 41=1:=by kernel_rfl
theorem Ty.k41:aF Tryd.prog 41=some false:=by kernel_rfl
theorem Ty.c43:Tryd.prog.cellsOf 43=2:=by kernel_rfl
theorem Ty.k43:aF Tryd.prog 43=some true:=by kernel_rfl
theorem Ty.z43:ai Tryd.prog 43=some [.nilp,.nils]:=by kernel_rfl
theorem Ty.p43:dt Tryd.prog 43=some [(0,1),(1,1)]:=by kernel_rfl
theorem Ty.z51:ai Tryd.prog 51=some [.any]:=by kernel_rfl
theorem Ty.c52:Tryd.prog.cellsOf 52=1:=by kernel_rfl
theorem Ty.k52:aF Tryd.prog 52=some false:=by kernel_rfl
theorem Ty.z52:ai Tryd.prog 52=some [.nilf]:=by kernel_rfl
theorem Ty.z53:ai Tryd.prog 53=some [.nilf,.nilf]:=by kernel_rfl
theorem Ty.c54:Tryd.prog.cellsOf 54=2:=by kernel_rfl
theorem Ty.k54:aF Tryd.prog 54=some true:=by kernel_rfl
theorem Ty.z54:ai Tryd.prog 54=some [.nilf,.nilf]:=by kernel_rfl
theorem Ty.p54:dt Tryd.prog 54=some [(0,1),(1,1)]:=by kernel_rfl
theorem Ty.z70:ai Tryd.prog 70=some [.nilf]:=by kernel_rfl
theorem Ty.z72:ai Tryd.prog 72=some [.nilf]:=by kernel_rfl
theorem Ty.c73:Tryd.prog.cellsOf 73=1:=by kernel_rfl
theorem Ty.k73:aF Tryd.prog 73=some false:=by kernel_rfl
theorem Ty.z73:ai Tryd.prog 73=some [.nils]:=by kernel_rfl
theorem Ty.z75:ai Tryd.prog 75=some [.nilf]:=by kernel_rfl
theorem Ty.c76:Tryd.prog.cellsOf 76=1:=by kernel_rfl
theorem Ty.k76:aF Tryd.prog 76=some false:=by kernel_rfl
theorem Ty.z76:ai Tryd.prog 76=some [.nils]:=by kernel_rfl
theorem Ty.c79:Tryd.prog.cellsOf 79=2:=by kernel_rfl
theorem Ty.b79:Tryd.prog.bytesOf 79=16:=by kernel_rfl
theorem Ty.k79:aF Tryd.prog 79=some true:=by kernel_rfl
theorem Ty.z79:ai Tryd.prog 79=some [.int .i64 0,.int .i64 0]:=by kernel_rfl
theorem Ty.p79:dt Tryd.prog 79=some [(0,1),(1,1)]:=by kernel_rfl
theorem Ty.c89:Tryd.prog.cellsOf 89=1:=by kernel_rfl
theorem Ty.k89:aF Tryd.prog 89=some false:=by kernel_rfl
theorem Ty.z89:ai Tryd.prog 89=some [.int .u64 0]:=by kernel_rfl
theorem Ty.z105:ai Tryd.prog 105=some [.nilf]:=by kernel_rfl
theorem Ty.c110:Tryd.prog.cellsOf 110=1:=by kernel_rfl
theorem Ty.k110:aF Tryd.prog 110=some false:=by kernel_rfl
theorem Ty.z110:ai Tryd.prog 110=some [.int .u64 0]:=by kernel_rfl
theorem Ty.z119:ai Tryd.prog 119=some [.nilf]:=by kernel_rfl
theorem Ty.z127:ai Tryd.prog 127=some [.nilp]:=by kernel_rfl
theorem Ty.z139:ai Tryd.prog 139=some [.nilf]:=by kernel_rfl
theorem Ty.z143:ai Tryd.prog 143=some [.nilf]:=by kernel_rfl
theorem Ty.z145:ai Tryd.prog 145=some [.nilp]:=by kernel_rfl
theorem Ty.z146:ai Tryd.prog 146=some [.str []]:=by kernel_rfl
theorem Ty.w3:(Tryd.prog.info? 3).bind (·.zero)=some (.int .i64 0):=by kernel_rfl
theorem Ty.w54:(Tryd.prog.info? 54).bind (·.zero)=some (.agg #[.nilFunc,.nilFunc]):=by kernel_rfl
theorem Ty.i1:(Tryd.prog.underlying 1).isSome=true:=by rw [Tryd.underlying1];rfl
theorem Ty.i2:(Tryd.prog.underlying 2).isSome=true:=by rw [Tryd.underlying2];rfl
theorem Ty.i3:(Tryd.prog.underlying 3).isSome=true:=by rw [Tryd.underlying3];rfl
theorem Ty.i4:(Tryd.prog.underlying 4).isSome=true:=by rw [Tryd.underlying4];rfl
theorem Ty.i5:(Tryd.prog.underlying 5).isSome=true:=by rw [Tryd.underlying5];rfl
theorem Ty.i8:(Tryd.prog.underlying 8).isSome=true:=by rw [Tryd.underlying8];rfl
theorem Ty.i9:(Tryd.prog.underlying 9).isSome=true:=by rw [Tryd.underlying9];rfl
theorem Ty.i10:(Tryd.prog.underlying 10).isSome=true:=by rw [Tryd.underlying10];rfl
theorem Ty.i16:(Tryd.prog.underlying 16).isSome=true:=by rw [Tryd.underlying16];rfl
theorem Ty.i17:(Tryd.prog.underlying 17).isSome=true:=by rw [Tryd.underlying17];rfl
theorem Ty.i22:(Tryd.prog.underlying 22).isSome=true:=by rw [Tryd.underlying22];rfl
theorem Ty.i23:(Tryd.prog.underlying 23).isSome=true:=by rw [Tryd.underlying23];rfl
theorem Ty.i24:(Tryd.prog.underlying 24).isSome=true:=by rw [Tryd.underlying24];rfl
theorem Ty.i25:(Tryd.prog.underlying 25).isSome=true:=by rw [Tryd.underlying25];rfl
theorem Ty.i28:(Tryd.prog.underlying 28).isSome=true:=by rw [Tryd.underlying28];rfl
theorem Ty.i32:(Tryd.prog.underlying 32).isSome=true:=by rw [Tryd.underlying32];rfl
theorem Ty.i35:(Tryd.prog.underlying 35).isSome=true:=by rw [Tryd.underlying35];rfl
theorem Ty.i40:(Tryd.prog.underlying 40).isSome=true:=by rw [Tryd.underlying40];rfl
theorem Ty.i41:(Tryd.prog.underlying 41).isSome=true:=by rw [Tryd.underlying41];rfl
theorem Ty.i43:(Tryd.prog.underlying 43).isSome=true:=by rw [Tryd.underlying43];rfl
theorem Ty.i52:(Tryd.prog.underlying 52).isSome=true:=by rw [Tryd.underlying52];rfl
theorem Ty.i54:(Tryd.prog.underlying 54).isSome=true:=by rw [Tryd.underlying54];rfl
theorem Ty.i64:(Tryd.prog.underlying 64).isSome=true:=by rw [Tryd.underlying64];rfl
theorem Ty.i73:(Tryd.prog.underlying 73).isSome=true:=by rw [Tryd.underlying73];rfl
theorem Ty.i76:(Tryd.prog.underlying 76).isSome=true:=by rw [Tryd.underlying76];rfl
theorem Ty.i79:(Tryd.prog.underlying 79).isSome=true:=by rw [Tryd.underlying79];rfl
theorem Ty.i89:(Tryd.prog.underlying 89).isSome=true:=by rw [Tryd.underlying89];rfl
theorem Ty.i110:(Tryd.prog.underlying 110).isSome=true:=by rw [Tryd.underlying110];rfl
theorem Ty.s22:SliceOf Tryd.prog 22 35 4:=⟨Tryd.underlying22,Ty.c35,Ty.i35,by decide,by rw [Ty.b35];decide,_,Ty.z35,rfl⟩
theorem Ty.f23_0:FieldAt Tryd.prog 23 0 22 0:=⟨⟨_,_,Tryd.underlying23,rfl,rfl,rfl,by rw [Ty.c22];decide,Ty.i22⟩⟩
theorem Ty.f23_1:FieldAt Tryd.prog 23 1 3 1:=⟨⟨_,_,Tryd.underlying23,rfl,rfl,rfl,by rw [Ty.c3];decide,Ty.i3⟩⟩
theorem Ty.f23_2:FieldAt Tryd.prog 23 2 3 2:=⟨⟨_,_,Tryd.underlying23,rfl,rfl,rfl,by rw [Ty.c3];decide,Ty.i3⟩⟩
theorem Ty.f24_0:FieldAt Tryd.prog 24 0 22 0:=⟨⟨_,_,Tryd.underlying24,rfl,rfl,rfl,by rw [Ty.c22];decide,Ty.i22⟩⟩
theorem Ty.f24_1:FieldAt Tryd.prog 24 1 3 1:=⟨⟨_,_,Tryd.underlying24,rfl,rfl,rfl,by rw [Ty.c3];decide,Ty.i3⟩⟩
theorem Ty.f24_2:FieldAt Tryd.prog 24 2 3 2:=⟨⟨_,_,Tryd.underlying24,rfl,rfl,rfl,by rw [Ty.c3];decide,Ty.i3⟩⟩
theorem Ty.s28:SliceOf Tryd.prog 28 3 1:=⟨Tryd.underlying28,Ty.c3,Ty.i3,by decide,by rw [Ty.b3];decide,_,Ty.z3,rfl⟩
theorem Ty.f35_0:FieldAt Tryd.prog 35 0 3 0:=⟨⟨_,_,Tryd.underlying35,rfl,rfl,rfl,by rw [Ty.c3];decide,Ty.i3⟩⟩
theorem Ty.f35_1:FieldAt Tryd.prog 35 1 3 1:=⟨⟨_,_,Tryd.underlying35,rfl,rfl,rfl,by rw [Ty.c3];decide,Ty.i3⟩⟩
theorem Ty.f35_2:FieldAt Tryd.prog 35 2 28 2:=⟨⟨_,_,Tryd.underlying35,rfl,rfl,rfl,by rw [Ty.c28];decide,Ty.i28⟩⟩
theorem Ty.f35_3:FieldAt Tryd.prog 35 3 28 3:=⟨⟨_,_,Tryd.underlying35,rfl,rfl,rfl,by rw [Ty.c28];decide,Ty.i28⟩⟩
theorem Ty.s36:SliceOf Tryd.prog 36 9 1:=⟨Tryd.underlying36,Ty.c9,Ty.i9,by decide,by rw [Ty.b9];decide,_,Ty.z9,rfl⟩
theorem Ty.s41:SliceOf Tryd.prog 41 5 1:=⟨Tryd.underlying41,Ty.c5,Ty.i5,by decide,by rw [Ty.b5];decide,_,Ty.z5,rfl⟩
theorem Ty.f43_0:FieldAt Tryd.prog 43 0 40 0:=⟨⟨_,_,Tryd.underlying43,rfl,rfl,rfl,by rw [Ty.c40];decide,Ty.i40⟩⟩
theorem Ty.f43_1:FieldAt Tryd.prog 43 1 41 1:=⟨⟨_,_,Tryd.underlying43,rfl,rfl,rfl,by rw [Ty.c41];decide,Ty.i41⟩⟩
theorem Ty.f54_0:FieldAt Tryd.prog 54 0 52 0:=⟨⟨_,_,Tryd.underlying54,rfl,rfl,rfl,by rw [Ty.c52];decide,Ty.i52⟩⟩
theorem Ty.f54_1:FieldAt Tryd.prog 54 1 52 1:=⟨⟨_,_,Tryd.underlying54,rfl,rfl,rfl,by rw [Ty.c52];decide,Ty.i52⟩⟩
theorem Ty.s73:SliceOf Tryd.prog 73 79 2:=⟨Tryd.underlying73,Ty.c79,Ty.i79,by decide,by rw [Ty.b79];decide,_,Ty.z79,rfl⟩
theorem Ty.s76:SliceOf Tryd.prog 76 4 1:=⟨Tryd.underlying76,Ty.c4,Ty.i4,by decide,by rw [Ty.b4];decide,_,Ty.z4,rfl⟩
theorem Ty.f79_0:FieldAt Tryd.prog 79 0 3 0:=⟨⟨_,_,Tryd.underlying79,rfl,rfl,rfl,by rw [Ty.c3];decide,Ty.i3⟩⟩
theorem Ty.f79_1:FieldAt Tryd.prog 79 1 3 1:=⟨⟨_,_,Tryd.underlying79,rfl,rfl,rfl,by rw [Ty.c3];decide,Ty.i3⟩⟩
end
section
open Go.RowKit
theorem mixed:Tryd.prog.follows .mixedOrders=true:=by kernel_rfl
def ah (n:Int):List AV:=[.int .i64 n]
def aa (s:List UInt8):List AV:=[.str s]
end
structure Item where
 (Key Val Dep:Int)
deriving DecidableEq
structure Node where
 (Kind A:Int)
 (In Out:List Int)
deriving DecidableEq
structure Net where
 Nodes:List Node
 (Rings Room:Int)
deriving DecidableEq
structure Keyed where
 (Key N:Int)
deriving DecidableEq
structure Memory where
 Sum:Int
 Keys:List Keyed
 Dep:Int
deriving DecidableEq
structure Choice where
 (Node Lane:Int)
deriving DecidableEq
structure State where
 At:List Int
 Rings:List (List Item)
 Memory:List Memory
 Choices:List Choice
 Out:List Item
deriving DecidableEq
structure Move where
 (Node Lane:Int)
deriving DecidableEq
structure Write where
 At:Int
 Bytes:List UInt8
deriving DecidableEq
structure Disk where
 Sectors:List (List UInt8)
 Wait:List Write
deriving DecidableEq
structure Shop where
 N:Net
 Items:List (List Item)
 S:State
 D:Disk
 (Logged Safe Epoch Laid Next:Int)
 Told:List Item
 Down:Bool
deriving DecidableEq
structure Happening where
 (Kind N:Int)
deriving DecidableEq
structure Ends where
 (src dst:Int)
deriving DecidableEq
section
open Go.RowKit
def aN (n:Int):List AV:=[.int .u8 n]
def encU (n:Int):List AV:=[.int .u64 n]
def bj (b:Bool):List AV:=[.bool b]
def encL {α:Type} (en:α->List AV) (l:List α):List AV:=[.sl (l.map en)]
def cA (a:Item):List AV:=[.int .i64 a.Key,.int .i64 a.Val,.int .i64 a.Dep]
def ae (a:Node):List AV:=[.int .i64 a.Kind,.int .i64 a.A,.sl (a.In.map ah),.sl (a.Out.map ah)]
def am (a:Net):List AV:=[.sl (a.Nodes.map ae),.int .i64 a.Rings,.int .i64 a.Room]
def eL (a:Keyed):List AV:=[.int .i64 a.Key,.int .i64 a.N]
def eF (a:Memory):List AV:=[.int .i64 a.Sum,.sl (a.Keys.map eL),.int .i64 a.Dep]
def dJ (a:Choice):List AV:=[.int .i64 a.Node,.int .i64 a.Lane]
def f8 (a:State):List AV:=[.sl (a.At.map ah),.sl (a.Rings.map (encL cA)),.sl (a.Memory.map eF),.sl (a.Choices.map dJ),.sl (a.Out.map cA)]
def fx (a:Move):List AV:=[.int .i64 a.Node,.int .i64 a.Lane]
def dM (a:Write):List AV:=[.int .i64 a.At,.str a.Bytes]
def gc (a:Disk):List AV:=[.sl (a.Sectors.map aa),.sl (a.Wait.map dM)]
def gh (a:Shop):List AV:=[.sl (a.N.Nodes.map ae),.int .i64 a.N.Rings,.int .i64 a.N.Room,.sl (a.Items.map (encL cA)),.sl (a.S.At.map ah),.sl (a.S.Rings.map (encL cA)),.sl (a.S.Memory.map eF),.sl (a.S.Choices.map dJ),.sl (a.S.Out.map cA),.sl (a.D.Sectors.map aa),.sl (a.D.Wait.map dM),.int .i64 a.Logged,.int .i64 a.Safe,.int .i64 a.Epoch,.int .i64 a.Laid,.int .i64 a.Next,.sl (a.Told.map cA),.bool a.Down]
def fd (a:Happening):List AV:=[.int .i64 a.Kind,.int .i64 a.N]
def al (a:Ends):List AV:=[.int .i64 a.src,.int .i64 a.dst]
theorem ig:∀ a x,x∈ah a->Pure x:=fun a=>ba (ls:=ah a) ⟨au _ _,tqz⟩
theorem vE:∀ a x,x∈aN a->Pure x:=fun a=>ba (ls:=aN a) ⟨au _ _,tqz⟩
theorem vt:∀ a x,x∈encU a->Pure x:=fun a=>ba (ls:=encU a) ⟨au _ _,tqz⟩
theorem vA:∀ a x,x∈bj a->Pure x:=fun a=>ba (ls:=bj a) ⟨dI _,tqz⟩
theorem la:∀ a x,x∈aa a->Pure x:=fun a=>ba (ls:=aa a) ⟨eK _,tqz⟩
theorem jE {α:Type} {en:α->List AV} (h:∀ a x,x∈en a->Pure x):∀ a x,x∈encL en a->Pure x:=fun a=>ba (ls:=encL en a) ⟨aW h _,tqz⟩
theorem eE:∀ a x,x∈cA a->Pure x:=fun a=>ba (ls:=cA a) ⟨au _ _,au _ _,au _ _,tqz⟩
theorem iZ:∀ a x,x∈ae a->Pure x:=fun a=>ba (ls:=ae a) ⟨au _ _,au _ _,aW ig _,aW ig _,tqz⟩
theorem nU:∀ a x,x∈am a->Pure x:=fun a=>ba (ls:=am a) ⟨aW iZ _,au _ _,au _ _,tqz⟩
theorem ko:∀ a x,x∈eL a->Pure x:=fun a=>ba (ls:=eL a) ⟨au _ _,au _ _,tqz⟩
theorem iN:∀ a x,x∈eF a->Pure x:=fun a=>ba (ls:=eF a) ⟨au _ _,aW ko _,au _ _,tqz⟩
theorem iM:∀ a x,x∈dJ a->Pure x:=fun a=>ba (ls:=dJ a) ⟨au _ _,au _ _,tqz⟩
theorem m6:∀ a x,x∈f8 a->Pure x:=fun a=>ba (ls:=f8 a) ⟨aW ig _,aW (jE eE) _,aW iN _,aW iM _,aW eE _,tqz⟩
theorem nt:∀ a x,x∈fx a->Pure x:=fun a=>ba (ls:=fx a) ⟨au _ _,au _ _,tqz⟩
theorem iO:∀ a x,x∈dM a->Pure x:=fun a=>ba (ls:=dM a) ⟨au _ _,eK _,tqz⟩
theorem nw:∀ a x,x∈gc a->Pure x:=fun a=>ba (ls:=gc a) ⟨aW la _,aW iO _,tqz⟩
theorem nj:∀ a x,x∈gh a->Pure x:=fun a=>ba (ls:=gh a) ⟨aW iZ _,au _ _,au _ _,aW (jE eE) _,aW ig _,aW (jE eE) _,aW iN _,aW iM _,aW eE _,aW la _,aW iO _,au _ _,au _ _,au _ _,au _ _,au _ _,aW eE _,dI _,tqz⟩
theorem mD:∀ a x,x∈fd a->Pure x:=fun a=>ba (ls:=fd a) ⟨au _ _,au _ _,tqz⟩
theorem ng:∀ a x,x∈al a->Pure x:=fun a=>ba (ls:=al a) ⟨au _ _,au _ _,tqz⟩
instance:EnP ah:=⟨ig⟩
instance:EnP aN:=⟨vE⟩
instance:EnP encU:=⟨vt⟩
instance:EnP bj:=⟨vA⟩
instance:EnP aa:=⟨la⟩
instance:EnP cA:=⟨eE⟩
instance:EnP ae:=⟨iZ⟩
instance:EnP am:=⟨nU⟩
instance:EnP eL:=⟨ko⟩
instance:EnP eF:=⟨iN⟩
instance:EnP dJ:=⟨iM⟩
instance:EnP f8:=⟨m6⟩
instance:EnP fx:=⟨nt⟩
instance:EnP dM:=⟨iO⟩
instance:EnP gc:=⟨nw⟩
instance:EnP gh:=⟨nj⟩
instance:EnP fd:=⟨mD⟩
instance:EnP al:=⟨ng⟩
instance {α:Type} {en:α->List AV} [h:EnP en]:EnP (encL en):=⟨jE h.out⟩
theorem aC (b:Bool):b=true∨b=false:=by cases b<;>simp
end
section
section
variable {α:Type}
def own (xs:List (Bool × List α)) (m:Nat) (r:List α):List (Bool × List α):=xs.set m (false,r)
end
end
section
open Go.RowKit Go.Lib
theorem rd {P:Program} {w:World} {t u ty e:TypeId} {i:TypeInfo} (ht:P.underlying t=some (.slice e)) (hu:P.underlying u=some .string) (hi:P.info? e=some i) (hz:i.zero=some (.int .u8 0)) (hsize:i.size=1) (hby:i.bytes=1)
  {v:Value} {n:Nat} {flat:List Value} (hown:w.ownsRow 0 e 1 v n flat) (s:ByteArray) (hlen:n+s.size<=1099511627776) :
  ∃ v' w',(Builtin.append_ #[t,u] ty #[v,.string s]).run P w=.ok v' w'/\w'.ownsRow 0 e 1 v' (n+s.size) (flat++strCells s)/\w.grownBy w' v.ownBlock/\(v'.ownBlock=v.ownBlock∨v'.ownBlock=some w.heap.size):=by
 obtain ⟨v',w',hr,h1,h2,h3⟩:=run_append_own_string (P:=P) w 0 t u ty e i ht hu hi hz hsize hby v n flat hown s (by unfold maxLen;omega) (by omega) (yr _)
 refine ⟨v',w',hr,h1,h2,?_⟩
 have hxl:flat.length=n:=by simpa using hown.1
 rcases hown.2 with ⟨rfl,rfl⟩ | ⟨g,cap,cur,rfl,hbg,hg,hnc,hcm,hcs,htake⟩
 ·by_cases hm:s.size=0
  ·exact .inl (by rw [h3.2 ⟨rfl,hm⟩])
  ·have hr2:=run_append_nil_string (P:=P) (w:=w) t u ty e i (.int .u8 0) ht hu hi hz s (by omega) (by omega) (by rw [hby];omega)
   rw [hr2] at hr
   cases hr
   exact .inr rfl
 ·by_cases hroom:n+s.size<=cap
  ·have hr2:=run_append_room_string (P:=P) w t u ty e i ht hu hi hsize g n cap cur hg s hroom (by simp at hcs;omega)
   rw [hr2] at hr
   cases hr
   exact .inl rfl
  ·have holds:∀ j u,flat[j]?=some u->w.cell? ((⟨g,0,none⟩:Addr).add j)=some u:=hown.cells (g:=g) rfl
   have hr2:=run_append_grow_string (P:=P) w t u ty e i (.int .u8 0) ht hu hi hz ⟨g,0,none⟩ n cap flat (by rw [hsize];simpa using hxl) holds s (by omega) (by omega) (by rw [hby];exact growslice_fits (by omega) (by omega))
   rw [hr2] at hr
   cases hr
   exact .inr rfl
def aX (s:List UInt8):List Int:=s.map fun b=>(b.toNat:Int)
theorem rm (s:List UInt8):((aX s).map aN).flatten=s.map fun b=>AV.int .u8 (b.toNat:Int):=by
 induction s with
 | nil=>rfl
 | cons b s ih =>
  show aN _++((aX s).map aN).flatten=_;rw [ih];rfl
theorem rM {σ:List Value} {w:World} {F:Nat->Prop} (s:List UInt8):RelL σ w F ((aX s).map aN).flatten (strCells ⟨s.toArray⟩):=by
 rw [rm];refine ⟨by simp [strCells],fun j a v h1 h2=>?_⟩;have h2':(s.map fun b=>Value.int .u8 (b.toNat:Int))[j]?=some v:=h2;rw [xJ] at h1 h2';cases hj:s[j]? with
 | none=>rw [hj] at h1;cases h1
 | some b =>
  rw [hj] at h1 h2';cases h1;cases h2';exact .int _ _
section
variable {P:Program} {N n:Nat} {aw aw':List Ob} {l:List (Nat × AV)}
theorem tK {xs r:List Int} {s:List UInt8} {t u:TypeId} {x y:Operand} {id e k:Nat} {d:Option Tmp} {ty:TypeId} {ps:String} {af:Array Edge} {g:Option (Nat × Bool)} {K2:AV->List Ob->Prop}
  (hS:SliceOf P t e 1) (hu:P.underlying u=some .string) (hi:(P.info? e).map (fun i=>(i.zero,i.size,i.bytes))=some (some (.int .u8 0),1,1)) (hx:evA n l x=.ref id) (hy:evA n l y=.str s) (ho:aw[id]?=some (.arr e 1 (xs.map aN))) (hr:app xs (aX s)=some r) (hk:aw.length=k)
  (ha:aw.set id .dead++[.arr e 1 (r.map aN)]=aw') (h:K2 (.ref k) aw'):OP P N ⟨d,.call ⟨.builtin .append,#[x,y],#[t,u]⟩,ty,ps,af,g⟩ (mkA n l) aw K2 :=
 OP.of_ok (fun σ w F a har hs=>by
  unfold app at hr;split at hr
  ·rename_i hc;cases hr;subst hk ha;obtain ⟨i,hi1,hi2⟩:=xU.1 hi;have ez:i.zero=some (.int .u8 0):=congrArg (fun x=>x.1) hi2;have es:i.size=1:=congrArg (fun x=>x.2.1) hi2;have eb:i.bytes=1:=congrArg (fun x=>x.2.2) hi2;have ex:=har.ev x;have ey:=har.ev y;rw [ab,hx] at ex;rw [ab,hy] at ey;generalize hvx:a.eval x=vx at ex;generalize hvy:a.eval y=vy at ey;cases ey;cases ex with
   | ref _ A q cp hσ =>
    obtain ⟨flat,hown0,hfl,hf,_⟩:=hs.obj id _ _ ho hσ;have hbl:(aX s).length=s.length:=by simp [aX]
    have hlen:(xs.map aN).length+(⟨s.toArray⟩:ByteArray).size<=1099511627776:=by rw [xW];show xs.length+s.toArray.size<=_;simp;omega
    obtain ⟨v',w',hrun,hown,hg,hat⟩:=rd (ty:=ty) hS.u hu hi1 ez es eb hown0 ⟨s.toArray⟩ hlen;have s3:=hs.lose id;have hfree:∀ b,(Value.slice A q cp).ownBlock=some b->¬ F b/\¬ Dof (aw.set id .dead) σ b/\Dof aw σ b:=by
     intro b hb;refine ⟨hf b hb,fun hd=>?_,⟨id,_,_,ho,rfl,hσ,(Bk.slice hb)⟩⟩;obtain ⟨k,o1,v1,ho1,hl,hv1,hb1⟩:=hd;rcases co ho1 with ⟨rfl,rfl,_⟩ | ⟨hne,h2⟩
     ·simp [Ob.live] at hl
     ·exact hs.sep k id o1 _ v1 _ b hne h2 ho hl rfl hv1 hσ hb1 ((Bk.slice hb))
    have hrow:∀ row,row∈(aX s).map aN->row.length=1:=fun row hm=>by obtain ⟨z,_,rfl⟩:=yb.1 hm;rfl
    have hl2:(xs.map aN).length+(⟨s.toArray⟩:ByteArray).size=(xs.map aN++(aX s).map aN).length:=by rw [xP,xW,xW,hbl];rfl
    rw [hl2] at hown;obtain ⟨s2,m2,r2⟩:=kE (aw0:=aw) (vx:=.slice A q cp) s3 (fun _ h=>h.set_dead) hfl hrow (rM s) (strCells_oneCell _) hown hg (kr _ hrun) hat hfree;rw [yo] at r2;rw [<- yM] at s2 m2;refine ⟨v',_,w',_,_,F,_,?_,.inl rfl,s2,m2,r2,h⟩;simp [execOp,resolve,invoke,builtin,Sem.run_bind,hvx,hvy,hrun]
  ·cases hr)
end
end
def itoaS (n:Int):Option (List UInt8):=if 0<=n/\n<100 then some (Go.Lib.decDigits n.toNat) else none
section
open Go.RowKit Go.Shelf
variable {P:Program} {ρ:Go.Shelf.Ren}
set_option maxHeartbeats 1000000 in
theorem sA (L:Lays.n146 P ρ) (hi9:(P.info? (ρ.t 9)).map (fun i=>(i.zero,i.size,i.bytes))=some (some (.string ByteArray.empty),1,16)) (s:ByteArray) (b:UInt8) (w:World) (hs:s.size<4294967281) :
  Calls P (ρ.f 146) #[.string s,.string ⟨#[b]⟩] w fun e w' =>
   e=.returned (.slice (some ⟨w.heap.size,0,none⟩) (Lib.splitB ⟨#[b]⟩ 0 (Lib.countB s ⟨#[b]⟩) s).length (Lib.splitB ⟨#[b]⟩ 0 (Lib.countB s ⟨#[b]⟩) s).length)/\w'=w.alloc (.cells ((Lib.splitB ⟨#[b]⟩ 0 (Lib.countB s ⟨#[b]⟩) s).map Value.string).toArray (ρ.t 9)):=by
 have h1:1<=(⟨#[b]⟩:ByteArray).size:=xR _
 have hle:=Lib.countB_le ⟨#[b]⟩ h1 s.size s (xR _)
 have hlen:=Lib.splitB_all ⟨#[b]⟩ h1 0 _ s rfl
 have hI:∀ (x:ByteArray) (c:Array Value),x.size<=s.size->Calls P (ρ.f 143) #[.string x,.string ⟨#[b]⟩] (w.alloc (.cells c (ρ.t 9))) fun e w'=>e=.returned (.int .i64 (Lib.indexB x ⟨#[b]⟩))/\w'=w.alloc (.cells c (ρ.t 9)):=fun x c hx =>
  (Any.strings_Index_one { L with } x b _).mono fun e w' ⟨he,hw⟩=>⟨by rw [he];show _=Ending.returned (Value.int .i64 (Lib.index x.data.toList [b]));rw [Lib.index_one],hw⟩
 have hC:Calls P (ρ.f 138) #[.string s,.string ⟨#[b]⟩] w fun e w'=>e=.returned (.int .i64 (Lib.countB s ⟨#[b]⟩))/\w'=w :=
  (Any.strings_Count_one { L with } s b w).mono fun e w' ⟨he,hw⟩=>⟨by rw [he];show _=Ending.returned (Value.int .i64 ((Lib.count s.data.toList [b]:Nat):Int));rw [Lib.count_one];rfl,hw⟩
 have c:=Any.strings_genSplit_core { L with } hi9 s ⟨#[b]⟩ 0 (-1) (Lib.countB s ⟨#[b]⟩ + 1) w hs h1 (yr _) hI hC (by decide) (by decide) (by rw [if_pos (by decide)];omega)
 rw [Nat.add_sub_cancel] at c
 have e2:Lib.cellsOf (Lib.splitB ⟨#[b]⟩ 0 (Lib.countB s ⟨#[b]⟩) s) (Lib.countB s ⟨#[b]⟩ + 1)=((Lib.splitB ⟨#[b]⟩ 0 (Lib.countB s ⟨#[b]⟩) s).map Value.string).toArray:=by rw [<- hlen];exact Lib.cellsOf_full _
 rw [e2,<- hlen] at c
 have t3:=L.t3;have t9:=L.t9;have t31:=L.t31
 have a3:=L.a3;have a9:=L.a9;have a31:=L.a31
 have z3:=L.z3;have v3:=L.v3;have z9:=L.z9;have v9:=L.v9;have z31:=L.z31;have v31:=L.v31
 have e221:∀ args w,(callFunc (ρ.f 221) args).run P w=.ok (.enter (ρ.f 221) args) w:=enters_of L.f221 (by kernel_rfl) rfl
 go_enter L.f146,Body.n146_ntmps ρ
 go_wp2_with (go_at_fn (ρ.f 221);refine c.mono ?_;rintro e w' ⟨rfl,hw⟩;rw [hw])
 go_ret
 refine ⟨?_,rfl⟩
 rw [hlen]
 rfl
theorem tv {σ:List Value} {w:World} {F:Nat->Prop} (xs:List ByteArray) (t:TypeId) (h:xs.length<=maxLen) :
  Rel σ (w.alloc (.cells (xs.map Value.string).toArray t)) (plus F w.heap.size) (.sl (xs.map fun x=>aa x.data.toList)) (.slice (some ⟨w.heap.size,0,none⟩) xs.length xs.length):=by
 have e:(xs.map fun x=>aa x.data.toList).length=xs.length:=by simp
 have:=Rel.sl (σ:=σ) (w:=w.alloc (.cells (xs.map Value.string).toArray t)) (F:=plus F w.heap.size) (xs.map fun x=>aa x.data.toList) 1 ⟨w.heap.size,0,none⟩ xs.length (fun i _=>.string (xs.getD i default)) (fun _=>.inr rfl) (by simp) h
  (fun row hr=>by obtain ⟨x,_,rfl⟩:=yb.1 hr;rfl) (fun i j _ _=>rfl)
  (fun i j hi hj=>by
   rw [e] at hi;have hj:j=0:=by omega
   subst hj;have ha:(⟨w.heap.size,0,none⟩:Addr).add (i*1+0)=⟨w.heap.size,i,none⟩:=by unfold Addr.add;simp;exact fun h=>h.symm
   rw [ha,World.cell?_alloc_new];simp [hi])
  (fun i row j x h1 h2=>by
   rw [xJ] at h1;cases hx:xs[i]? with
   | none=>rw [hx] at h1;cases h1
   | some y =>
    rw [hx] at h1;cases h1;cases j with
    | zero=>cases h2;simp only [xO,hx];exact .str _
    | succ j=>cases h2)
 rw [e] at this
 exact this
def lf (s:List UInt8) (b:UInt8):Option (List (List UInt8)):=if s.length<4294967281 then some ((Lib.splitB ⟨#[b]⟩ 0 (Lib.countB ⟨s.toArray⟩ ⟨#[b]⟩) ⟨s.toArray⟩).map fun x=>x.data.toList) else none
def atoiS (s:List UInt8):Option Int:=if s.length<=18 then Lib.atoi s else none
def eQ (t:List UInt8):Option Int:=(atoiS t).bind fun n=>if n<0 then none else (itoaS n).bind fun s=>if s=t then some n else none
def allT:List (List UInt8)->Option (List Int)
 | []=>some []
 | t::l=>(eQ t).bind fun n=>(allT l).map (n::·)
def bP (b:UInt8):List UInt8->List (List UInt8)
 | []=>[[]]
 | x::l=>if x=b then []::bP b l else match bP b l with
  | []=>[[x]]
  | p::r=>(x::p)::r
def jp (s:List UInt8):Option (List Int):=if s=[45] then some [] else if s.length<4294967281 then allT (bP 44 s) else none
def jx (s p:List UInt8):Option (List (List UInt8)):=match p with | [b]=>lf s b | _=>none
theorem sM (hcal:∀ vs w,(callFunc (ρ.f 146) vs).run P w=.ok (.enter (ρ.f 146) vs) w) (L:Lays.n146 P ρ) (hi9:(P.info? (ρ.t 9)).map (fun i=>(i.zero,i.size,i.bytes))=some (some (.string ByteArray.empty),1,16))
  (p0:List UInt8) (b:UInt8) (r:List (List UInt8)) (h:lf p0 b=some r):Fn P (ρ.f 146) [.str p0,.str [b]] (.sl (r.map aa)):=by
 unfold lf at h
 split at h
 ·rename_i h0
  injection h with h
  subst h
  refine ⟨hcal,fun w F σ vs hs hr=>?_⟩
  match vs,hr with
  | [v0,v1],hr =>
   have r0:Rel σ w F (.str p0) v0:=hr.2 0 _ v0 rfl rfl
   have r1:Rel σ w F (.str [b]) v1:=hr.2 1 _ v1 rfl rfl
   cases r0
   cases r1
   have hlen:=Lib.splitB_all ⟨#[b]⟩ (xR _) 0 _ ⟨p0.toArray⟩ rfl
   have hle:=Lib.countB_le ⟨#[b]⟩ (xR _) p0.length ⟨p0.toArray⟩ (Nat.le_of_eq (by simp [ByteArray.size]))
   refine (sA L hi9 ⟨p0.toArray⟩ b w (by simpa [ByteArray.size] using h0)).mono ?_
   rintro e w' ⟨rfl,rfl⟩
   refine ⟨_,_,[],σ,plus F w.heap.size,rfl,⟨rfl,rfl⟩,hs.fresh _,?_,.fresh _⟩
   have:=tv (σ:=σ) (w:=w) (F:=F) (Lib.splitB ⟨#[b]⟩ 0 (Lib.countB ⟨p0.toArray⟩ ⟨#[b]⟩) ⟨p0.toArray⟩) (ρ.t 9) (by rw [hlen];simp [ByteArray.size] at hle;unfold maxLen;omega)
   rw [yN]
   exact this
 ·cases h
theorem rB (hcal:∀ vs w,(callFunc (ρ.f 146) vs).run P w=.ok (.enter (ρ.f 146) vs) w) (L:Lays.n146 P ρ) (hi9:(P.info? (ρ.t 9)).map (fun i=>(i.zero,i.size,i.bytes))=some (some (.string ByteArray.empty),1,16))
  (p0 p1:List UInt8) (r:List (List UInt8)) (h:jx p0 p1=some r):Fn P (ρ.f 146) [.str p0,.str p1] (.sl (r.map aa)):=by
 unfold jx at h
 split at h
 ·exact sM hcal L hi9 p0 _ r h
 ·cases h
theorem tm (hcal:∀ vs w,(callFunc (ρ.f 172) vs).run P w=.ok (.enter (ρ.f 172) vs) w) (L:Lays.n172 P ρ) (p0:List UInt8) (r:Int) (h:atoiS p0=some r):Fn P (ρ.f 172) [.str p0] (.tup [.int .i64 r,.nili]):=by
 unfold atoiS at h;split at h
 ·rename_i h0;refine ⟨hcal,fun w F σ vs hs hr=>?_⟩;match vs,hr with
  | [v0],hr =>
   have r0:Rel σ w F (.str p0) v0:=hr.2 0 _ v0 rfl rfl
   cases r0
   refine (Any.strconv_Atoi L ⟨p0.toArray⟩ r (by simpa [ByteArray.size] using h0) (by simpa using h) w).mono ?_
   rintro e w' ⟨rfl,t,rfl⟩
   have hk:∀ b,b<w.heap.size->(Lib.bytesWorld w (ρ.t 5) t).heap[b]?=w.heap[b]?:=fun b hb=>by unfold Lib.bytesWorld World.freeze;rw [if_neg (by decide)];show ((w.drew.alloc _).heap.modify w.heap.size _)[b]?=_;rw [yE,if_neg (by omega)];exact Below.heap_alloc w.drew _ b hb
   have hsz:w.heap.size<=(Lib.bytesWorld w (ρ.t 5) t).heap.size:=by unfold Lib.bytesWorld World.freeze;simp
   refine ⟨_,_,[],σ,F,rfl,⟨rfl,rfl⟩,hs.grow (fun _ h=>h) (fun _ h=>.inl h) (fun b hb=>yv (hs.lt b hb) hsz) hk,?_,.grow (fun _ h=>h) (fun _ h=>.inl h) rfl rfl ?_ hsz hk⟩
   ·exact Rel.tup [.int .i64 r,.nili] [.int .i64 r,.nilIface] rfl fun j c u h1 h2=>by
     match j with
     | 0=>cases h1;cases h2;exact .int _ _
     | 1=>cases h1;cases h2;exact .nili
     | j+2=>cases h1
   ·exact drO
 ·cases h
end
def bldS (xs:List Int):Option (List UInt8):=if xs≠[]/\∀ x,x∈xs->0<=x/\x<256 then some (cP xs) else none
noncomputable section
set_option maxRecDepth 100000
def j9 (p0 p1:Int):Option (Int × Int) :=
 ((shr .u64 p0 32).bind fun x2=>((shr .u64 p1 32).bind fun x4=>((shr .u64 (IntKind.u64.wrap ((ibits .and .u64 p0 4294967295)*(ibits .and .u64 p1 4294967295))) 32).bind fun x6=>((shr .u64 (IntKind.u64.wrap ((IntKind.u64.wrap (x2*(ibits .and .u64 p1 4294967295)))+x6)) 32).bind fun x8=>((shr .u64 (IntKind.u64.wrap ((ibits .and .u64 (IntKind.u64.wrap ((IntKind.u64.wrap (x2*(ibits .and .u64 p1 4294967295)))+x6)) 4294967295)+(IntKind.u64.wrap ((ibits .and .u64 p0 4294967295)*x4)))) 32).bind fun x10=>(some (IntKind.u64.wrap ((IntKind.u64.wrap ((IntKind.u64.wrap (x2*x4))+x8))+x10),IntKind.u64.wrap (p0*p1))))))))
def iH (p0 p1:Int):Option (Int × Int) :=
 ((j9 p0 p1).bind fun x2=>(some (x2.1,x2.2)))
def d9  (s6:Int) (s7:List Ends):Option ((Int × (List Ends)) ⊕ (List Ends)) :=
 (if (decide (s6<((s7).length:Int)))=true then ((vwok (s7).length s6 ((s7).length:Int)).bind fun x8=>((vwok (s7).length 0 s6).bind fun x9=>((vwok (s7).length ((s6).toNat:Nat) (((s6).toNat:Nat)+(((((s7).length:Int)).toNat - (s6).toNat):Nat))).bind fun x10=>((vwok (s7).length (((0:Int)).toNat:Nat) ((((0:Int)).toNat:Nat)+(((s6).toNat - ((0:Int)).toNat):Nat))).bind fun x11=>(some (.inl (IntKind.i64.wrap (s6+((min ((((s7).length:Int)).toNat - (s6).toNat) ((s6).toNat - ((0:Int)).toNat):Nat):Int)),(cpy s7 ((s6).toNat) ((((s7).length:Int)).toNat - (s6).toNat) ((s7.drop (((0:Int)).toNat)).take ((s6).toNat - ((0:Int)).toNat)))))))))) else (Option.map Sum.inr (some s7)))
def gJ (p0:List Ends) (p1:Int):Option (List Ends) :=
 (if (decide (p1<0))=true then (none) else ((iH (IntKind.u64.wrap ((p0).length:Int)) (IntKind.u64.wrap p1)).bind fun x2=>(if ((decide (x2.1 > 0)) || decide (x2.2 > 9223372036854775807))=true then (none) else ((mk (IntKind.i64.wrap x2.2) (⟨0,0⟩:Ends)).bind fun x5=>(iter (fun e7:Int × (List Ends)=>d9 e7.1 e7.2) (((min (x5).length (p0).length:Nat):Int),(cpy x5 0 (x5).length p0)))))))
def fY (p0:Int) (z2:Bool):Option (Int × Int × Bool) :=
 (if z2=true then (some (1,(-1),true)) else (if (p0==6)=true then (some ((-1),1,true)) else (if (p0==8)=true then (some (1,0,true)) else (some (0,0,false)))))
def fc (p0:Int) (z1:Bool):Option (Int × Int × Bool) :=
 (if z1=true then (some (1,1,true)) else (if (p0==5)=true then (fY p0 (p0==5)) else (fY p0 (p0==7))))
def g6 (p0:Int):Option (Int × Int × Bool) :=
 (if (p0==1)=true then (some (0,1,true)) else (if (p0==2)=true then (fc p0 (p0==2)) else (if (p0==3)=true then (fc p0 (p0==3)) else (fc p0 (p0==4)))))
def gb (p0 p1:Int):Option Bool :=
 (some ((p0==p1) || ((decide (p1<0)) && decide (p0 > 0))))
def eB (p0:Net) (s6:Int) (x9:Node) (z15 s27:Int) (s28:List Ends):Option ((Int × (List Ends)) ⊕ ((Int × Int × (List Ends)) ⊕ ((List Ends) × Int))) :=
 (if (decide (s27<((x9.Out).length:Int)))=true then ((idx x9.Out s27).bind fun x30=>(if ((decide (x30<0)) || decide (x30 >= p0.Rings))=true then (Option.map Sum.inr (Option.map Sum.inr (some ([],3)))) else ((ixN s28 x30).bind fun x34=>(((s28)[x34]?).bind fun x35=>(if (decide (x35.src >= 0))=true then (Option.map Sum.inr (Option.map Sum.inr (some ([],6)))) else ((ixN s28 x30).bind fun x36=>(((s28)[x36]?).bind fun x37=>(some (.inl (IntKind.i64.wrap (s27+1),(List.set s28 x36 (⟨s6,x37.dst⟩:Ends)))))))))))) else (Option.map Sum.inr (some (.inl (z15,IntKind.i64.wrap (s6+1),s28)))))
def ew (p0:Net) (s6:Int) (x9:Node) (z15 s16:Int) (s17:List Ends):Option ((Int × (List Ends)) ⊕ ((Int × Int × (List Ends)) ⊕ ((List Ends) × Int))) :=
 (if (decide (s16<((x9.In).length:Int)))=true then ((idx x9.In s16).bind fun x19=>(if ((decide (x19<0)) || decide (x19 >= p0.Rings))=true then (Option.map Sum.inr (Option.map Sum.inr (some ([],3)))) else ((ixN s17 x19).bind fun x23=>(((s17)[x23]?).bind fun x24=>(if (decide (x24.dst >= 0))=true then (Option.map Sum.inr (Option.map Sum.inr (some ([],6)))) else ((ixN s17 x19).bind fun x25=>(((s17)[x25]?).bind fun x26=>(some (.inl (IntKind.i64.wrap (s16+1),(List.set s17 x25 (⟨x26.src,s6⟩:Ends)))))))))))) else (Option.map Sum.inr (iter (fun eS:Int × (List Ends)=>eB p0 s6 x9 z15 eS.1 eS.2) (0,s17))))
def fg (p0:Net) (s6:Int) (s7:List Ends) (x9:Node) (z15:Int):Option ((Int × Int × (List Ends)) ⊕ ((List Ends) × Int)) :=
 (iter (fun eT:Int × (List Ends)=>ew p0 s6 x9 z15 eT.1 eT.2) (0,s7))
def fe (s5:Int) (s7:List Ends) (s38:Int):Option (Int ⊕ ((List Ends) × Int)) :=
 (if (decide (s38<((s7).length:Int)))=true then ((ixN s7 s38).bind fun x41=>(((s7)[x41]?).bind fun x42=>(if ((decide (x42.src<0)) || decide (x42.dst<0))=true then (Option.map Sum.inr (some ([],9))) else (some (.inl (IntKind.i64.wrap (s38+1))))))) else (Option.map Sum.inr (if (s5 != 1)=true then (some ([],4)) else (some (s7,0)))))
def eA (p0:Net) (s5 s6:Int) (s7:List Ends):Option ((Int × Int × (List Ends)) ⊕ ((List Ends) × Int)) :=
 (if (decide (s6<((p0.Nodes).length:Int)))=true then ((idx p0.Nodes s6).bind fun x9=>((g6 x9.Kind).bind fun x11=>(if (!x11.2.2)=true then (Option.map Sum.inr (some ([],5))) else ((gb ((x9.In).length:Int) x11.1).bind fun x12=>(Option.bind (if (!x12)=true then (some true) else ((gb ((x9.Out).length:Int) x11.2.1).bind fun x13=>(some (!x13)))) fun c14=>(if c14=true then (Option.map Sum.inr (some ([],4))) else (if ((decide (x9.A<0)) || (if (x9.Kind==1)=true then ((decide (x9.A >= 4)) || (if (x9.Kind==2)=true then ((decide (x9.A > 3)) || ((x9.Kind != 1) && ((x9.Kind != 2) && x9.A != 0))) else ((x9.Kind != 1) && ((x9.Kind != 2) && x9.A != 0)))) else (if (x9.Kind==2)=true then ((decide (x9.A > 3)) || ((x9.Kind != 1) && ((x9.Kind != 2) && x9.A != 0))) else ((x9.Kind != 1) && ((x9.Kind != 2) && x9.A != 0)))))=true then (Option.map Sum.inr (some ([],3))) else (if (x9.Kind==8)=true then (fg p0 s6 s7 x9 (IntKind.i64.wrap (s5+1))) else (fg p0 s6 s7 x9 s5))))))))) else (Option.map Sum.inr (iter (fun gr:Int=>fe s5 s7 gr) 0)))
def hE (p0:Net):Option ((List Ends) × Int) :=
 (if ((decide (((p0.Nodes).length:Int)<1)) || ((decide (((p0.Nodes).length:Int) > 12)) || ((decide (p0.Rings<0)) || decide (p0.Rings > 16))))=true then (some ([],2)) else (if ((decide (p0.Room<1)) || decide (p0.Room > 6))=true then (some ([],3)) else ((gJ ([(⟨(-1),(-1)⟩:Ends)]:List Ends) p0.Rings).bind fun x4=>(iter (fun dz:Int × Int × (List Ends)=>eA p0 dz.1 dz.2.1 dz.2.2) (0,0,x4)))))
def gN (p0:Int) (p1:List Bool) (p2:List Ends):Option Bool :=
 ((ixN p2 p0).bind fun x5=>(((p2)[x5]?).bind fun x6=>((ixN p1 x6.src).bind fun x7=>(((p1)[x7]?).bind fun x8=>(some (!x8))))))
def fO (p0:List Int) (p1:List Bool) (p2:List Ends) (s1:Int):Option (Int ⊕ Int) :=
 (if (decide (s1<((p0).length:Int)))=true then ((idx p0 s1).bind fun x4=>((gN x4 p1 p2).bind fun x5=>(if x5=true then (Option.map Sum.inr (some s1)) else (some (.inl (IntKind.i64.wrap (s1+1))))))) else (Option.map Sum.inr (some (-1))))
def iC (p0:List Int) (p1:List Bool) (p2:List Ends):Option Int :=
 (iter (fun aY:Int=>fO p0 p1 p2 aY) 0)
def fP (p0:List Int) (p1:List Bool) (p2:List Ends):Option Bool :=
 ((iC p0 p1 p2).bind fun x2=>(some (decide (x2 >= 0))))
def fb (s5:List Int) (s6:List Bool) (z14:Int):Option (((List Int) × (List Bool)) ⊕ ((List Int) × Int)) :=
 (if (decide (z14<0))=true then (Option.map Sum.inr (some ([],7))) else ((ixN s6 z14).bind fun x17=>(((s6)[x17]?).bind fun x18=>((app s5 [z14]).bind fun x19=>(some (.inl (x19,(List.set s6 x17 true))))))))
def er (p0:Net) (x2:(List Ends) × Int) (s5:List Int) (s6:List Bool) (s7:Int):Option (Int ⊕ (((List Int) × (List Bool)) ⊕ ((List Int) × Int))) :=
 (if (decide (s7<((p0.Nodes).length:Int)))=true then ((idx p0.Nodes s7).bind fun x9=>((ixN s6 s7).bind fun x10=>(((s6)[x10]?).bind fun x11=>(Option.bind (if (!x11)=true then ((fP x9.In s6 x2.1).bind fun x12=>(some (!x12))) else (some false)) fun c13=>(if c13=true then (Option.map Sum.inr (fb s5 s6 s7)) else (some (.inl (IntKind.i64.wrap (s7+1))))))))) else (Option.map Sum.inr (fb s5 s6 (-1))))
def eu (p0:Net) (x2:(List Ends) × Int) (s5:List Int) (s6:List Bool):Option (((List Int) × (List Bool)) ⊕ ((List Int) × Int)) :=
 (if (decide (((s5).length:Int)<((p0.Nodes).length:Int)))=true then (iter (fun bH:Int=>er p0 x2 s5 s6 bH) 0) else (Option.map Sum.inr (some (s5,0))))
def gZ (p0:Net):Option ((List Int) × Int) :=
 ((hE p0).bind fun x2=>(if (x2.2 != 0)=true then (some ([],x2.2)) else ((mk ((p0.Nodes).length:Int) false).bind fun x4=>(iter (fun eZ:(List Int) × (List Bool)=>eu p0 x2 eZ.1 eZ.2) ([],x4)))))
def c6 (p0:Net):Option Int :=
 ((gZ p0).bind fun x2=>(some x2.2))
def cE (p0:Int):Option (List UInt8):=itoaS p0
def strings_Join (p0:List (List UInt8)) (p1:List UInt8):Option (List UInt8):=joinB p0 p1
def ke (p0:List Int):Option (List Int):=some p0
def iB (p0:List UInt8) (p1:List Int):Option (Int × Unit × (List Int)) :=
 ((ke p1).bind fun x2=>((app x2 (aX p0)).bind fun x4=>(some (((p0).length:Int),(),x4))))
def fU (p0:List (List UInt8)) (p1:List Int):Option (List Int) :=
 ((strings_Join p0 ([32]:List UInt8)).bind fun x1=>((cat x1 [10]).bind fun x2=>((iB x2 p1).bind fun x3=>(some x3.2.2))))
def eC:Option (List (List UInt8)) :=
 (some [[],[115,111,117,114,99,101],[109,97,112],[115,99,97,110],[99,111,117,110,116],[116,101,101],[109,101,114,103,101],[115,112,108,105,116],[115,105,110,107]])
def em (p0:List Int) (s1:Int) (s2:List (List UInt8)):Option ((Int × (List (List UInt8))) ⊕ (List UInt8)) :=
 (if (decide (s1<((p0).length:Int)))=true then ((idx p0 s1).bind fun x4=>((cE x4).bind fun x5=>((app s2 [x5]).bind fun x6=>(some (.inl (IntKind.i64.wrap (s1+1),x6)))))) else (Option.map Sum.inr (if (((s2).length:Int)==0)=true then (some [45]) else ((strings_Join s2 ([44]:List UInt8)).bind fun x8=>(some x8)))))
def gQ (p0:List Int):Option (List UInt8) :=
 (iter (fun df:Int × (List (List UInt8))=>em p0 df.1 df.2) (0,[]))
def kn (p0:List Int):Option (List UInt8):=bldS p0
def eo (p0:Net) (s9:Int) (s10:List Int):Option ((Int × (List Int)) ⊕ ((List UInt8) × Int)) :=
 (if (decide (s9<((p0.Nodes).length:Int)))=true then ((idx p0.Nodes s9).bind fun x12=>(eC.bind fun x13=>((ixN x13 x12.Kind).bind fun x14=>(((x13)[x14]?).bind fun x15=>((cE x12.A).bind fun x16=>((gQ x12.In).bind fun x17=>((gQ x12.Out).bind fun x18=>((fU ([x15,x16,x17,x18]:List (List UInt8)) s10).bind fun x19=>(some (.inl (IntKind.i64.wrap (s9+1),x19))))))))))) else (Option.map Sum.inr ((kn s10).bind fun x21=>(some (x21,0)))))
def eD (p0:Net):Option ((List UInt8) × Int) :=
 ((c6 p0).bind fun x2=>(if (x2 != 0)=true then (some ([],x2)) else ((cE p0.Rings).bind fun x6=>((cE p0.Room).bind fun x7=>((fU ([[114,105,110,103,115],x6,x7]:List (List UInt8)) ([]:List Int)).bind fun x8=>(iter (fun de:Int × (List Int)=>eo p0 de.1 de.2) (0,x8)))))))
def fS (p0:Int):Option Bool :=
 (some (p0==0))
def bY (p0:Int):Option Bool :=
 (some (p0==1))
def e8 (p0:Int):Option Bool :=
 (some (decide (p0 >= 1)))
def fQ (p0:List Int) (p1 s1:Int):Option (Int ⊕ Int) :=
 (if (decide (s1<((p0).length:Int)))=true then ((idx p0 s1).bind fun x3=>(if (p1==x3)=true then (Option.map Sum.inr (some s1)) else (some (.inl (IntKind.i64.wrap (s1+1)))))) else (Option.map Sum.inr (some (-1))))
def iE (p0:List Int) (p1:Int):Option Int :=
 (iter (fun aY:Int=>fQ p0 p1 aY) 0)
def fR (p0:List Int) (p1:Int):Option Bool :=
 ((iE p0 p1).bind fun x2=>(some (decide (x2 >= 0))))
def dq (p0:Net) (s3 s4:Int) (x8:Node) (s35:List (Int × Int)) (s39:Int) (s40:List (Int × Int)):Option ((Int × (List (Int × Int))) ⊕ ((Int × Int × (List (Int × Int)) × (List (Int × Int))) ⊕ ((List Int) × Int))) :=
 (if (decide (s39<((x8.Out).length:Int)))=true then ((idx x8.Out s39).bind fun x42=>(if ((decide (x42<0)) || decide (x42 >= p0.Rings))=true then (Option.map Sum.inr (Option.map Sum.inr (some ([],3)))) else (if ((mget x42 s40).isSome)=true then (Option.map Sum.inr (Option.map Sum.inr (some ([],6)))) else (some (.inl (IntKind.i64.wrap (s39+1),(mset x42 s4 s40))))))) else (Option.map Sum.inr (if (x8.Kind==8)=true then (some (.inl (IntKind.i64.wrap (s3+1),IntKind.i64.wrap (s4+1),s40,s35))) else (some (.inl (s3,IntKind.i64.wrap (s4+1),s40,s35))))))
def cJ (p0:Net) (s3 s4:Int) (s5:List (Int × Int)) (x8:Node) (s34:Int) (s35:List (Int × Int)):Option ((Int × (List (Int × Int))) ⊕ ((Int × Int × (List (Int × Int)) × (List (Int × Int))) ⊕ ((List Int) × Int))) :=
 (if (decide (s34<((x8.In).length:Int)))=true then ((idx x8.In s34).bind fun x37=>(if ((decide (x37<0)) || decide (x37 >= p0.Rings))=true then (Option.map Sum.inr (Option.map Sum.inr (some ([],3)))) else (if ((mget x37 s35).isSome)=true then (Option.map Sum.inr (Option.map Sum.inr (some ([],6)))) else (some (.inl (IntKind.i64.wrap (s34+1),(mset x37 s4 s35))))))) else (Option.map Sum.inr (iter (fun dS:Int × (List (Int × Int))=>dq p0 s3 s4 x8 s35 dS.1 dS.2) (0,s5))))
def cj (p0:Net) (s3 s4:Int) (s5 s6:List (Int × Int)) (x8:Node):Option ((Int × Int × (List (Int × Int)) × (List (Int × Int))) ⊕ ((List Int) × Int)) :=
 (if ((decide (x8.A<0)) || decide (x8.A > ((mget x8.Kind (mset 2 3 (mset 1 3 ([]:List (Int × Int))))).getD 0)))=true then (Option.map Sum.inr (some ([],3))) else (iter (fun dT:Int × (List (Int × Int))=>cJ p0 s3 s4 s5 x8 dT.1 dT.2) (0,s6)))
def ej (s5:List (Int × Int)) (s46:List Int) (s47 s48:Int) (x52:Node) (s53:Bool) (s54:Int):Option ((Bool × Int) ⊕ ((Int × Int) ⊕ ((Int × (List Int)) ⊕ ((List Int) × Int)))) :=
 (if (decide (s54<((x52.In).length:Int)))=true then ((idx x52.In s54).bind fun x56=>(if s53=true then ((fR s46 ((mget x56 s5).getD 0)).bind fun x57=>(some (.inl (x57,IntKind.i64.wrap (s54+1))))) else (some (.inl (false,IntKind.i64.wrap (s54+1)))))) else (Option.map Sum.inr (if s53=true then (some (.inl (s48,IntKind.i64.wrap (s48 - 1)))) else (some (.inl (s47,IntKind.i64.wrap (s48 - 1)))))))
def ee (p0:Net) (s5:List (Int × Int)) (s45:Int) (s46:List Int) (s47 s48:Int):Option ((Int × Int) ⊕ ((Int × (List Int)) ⊕ ((List Int) × Int))) :=
 (if (decide (s48 >= 0))=true then ((fR s46 s48).bind fun x50=>(if x50=true then (some (.inl (s47,IntKind.i64.wrap (s48 - 1)))) else ((idx p0.Nodes s48).bind fun x52=>(iter (fun eU:Bool × Int=>ej s5 s46 s47 s48 x52 eU.1 eU.2) (true,0))))) else (Option.map Sum.inr (if (decide (s47<0))=true then (Option.map Sum.inr (some ([],7))) else ((app s46 [s47]).bind fun x58=>(some (.inl (IntKind.i64.wrap (s45+1),x58)))))))
def dE (p0:Net) (s5:List (Int × Int)) (s45:Int) (s46:List Int):Option ((Int × (List Int)) ⊕ ((List Int) × Int)) :=
 (if (decide (s45<((p0.Nodes).length:Int)))=true then (iter (fun eV:Int × Int=>ee p0 s5 s45 s46 eV.1 eV.2) ((-1),IntKind.i64.wrap (((p0.Nodes).length:Int) - 1))) else (Option.map Sum.inr (some (s46,0))))
def dp (p0:Net) (s3 s4:Int) (s5 s6:List (Int × Int)):Option ((Int × Int × (List (Int × Int)) × (List (Int × Int))) ⊕ ((List Int) × Int)) :=
 (if (decide (s4<((p0.Nodes).length:Int)))=true then ((idx p0.Nodes s4).bind fun x8=>(if (x8.Kind==1)=true then ((fS ((x8.In).length:Int)).bind fun x9=>(Option.bind (if (!x9)=true then (some true) else ((bY ((x8.Out).length:Int)).bind fun x10=>(some (!x10)))) fun c11=>(if c11=true then (Option.map Sum.inr (some ([],4))) else (cj p0 s3 s4 s5 s6 x8)))) else (if (x8.Kind==2)=true then ((bY ((x8.In).length:Int)).bind fun x12=>(Option.bind (if (!x12)=true then (some true) else ((bY ((x8.Out).length:Int)).bind fun x13=>(some (!x13)))) fun c14=>(if c14=true then (Option.map Sum.inr (some ([],4))) else (cj p0 s3 s4 s5 s6 x8)))) else (if (x8.Kind==3)=true then ((bY ((x8.In).length:Int)).bind fun x15=>(Option.bind (if (!x15)=true then (some true) else ((bY ((x8.Out).length:Int)).bind fun x16=>(some (!x16)))) fun c17=>(if c17=true then (Option.map Sum.inr (some ([],4))) else (cj p0 s3 s4 s5 s6 x8)))) else (if (x8.Kind==4)=true then ((bY ((x8.In).length:Int)).bind fun x18=>(Option.bind (if (!x18)=true then (some true) else ((bY ((x8.Out).length:Int)).bind fun x19=>(some (!x19)))) fun c20=>(if c20=true then (Option.map Sum.inr (some ([],4))) else (cj p0 s3 s4 s5 s6 x8)))) else (if (x8.Kind==5)=true then ((bY ((x8.In).length:Int)).bind fun x21=>(Option.bind (if (!x21)=true then (some true) else ((e8 ((x8.Out).length:Int)).bind fun x22=>(some (!x22)))) fun c23=>(if c23=true then (Option.map Sum.inr (some ([],4))) else (cj p0 s3 s4 s5 s6 x8)))) else (if (x8.Kind==7)=true then ((bY ((x8.In).length:Int)).bind fun x24=>(Option.bind (if (!x24)=true then (some true) else ((e8 ((x8.Out).length:Int)).bind fun x25=>(some (!x25)))) fun c26=>(if c26=true then (Option.map Sum.inr (some ([],4))) else (cj p0 s3 s4 s5 s6 x8)))) else (if (x8.Kind==6)=true then ((e8 ((x8.In).length:Int)).bind fun x27=>(Option.bind (if (!x27)=true then (some true) else ((bY ((x8.Out).length:Int)).bind fun x28=>(some (!x28)))) fun c29=>(if c29=true then (Option.map Sum.inr (some ([],4))) else (cj p0 s3 s4 s5 s6 x8)))) else (if (x8.Kind==8)=true then ((bY ((x8.In).length:Int)).bind fun x30=>(Option.bind (if (!x30)=true then (some true) else ((fS ((x8.Out).length:Int)).bind fun x31=>(some (!x31)))) fun c32=>(if c32=true then (Option.map Sum.inr (some ([],4))) else (cj p0 s3 s4 s5 s6 x8)))) else (Option.map Sum.inr (some ([],5)))))))))))) else (Option.map Sum.inr (if ((((s5).length:Int) != p0.Rings) || ((s6).length:Int) != p0.Rings)=true then (some ([],9)) else (if (s3 != 1)=true then (some ([],4)) else (iter (fun eW:Int × (List Int)=>dE p0 s5 eW.1 eW.2) (0,[]))))))
def fV (p0:Net):Option ((List Int) × Int) :=
 (if ((((p0.Nodes).length:Int)==0) || ((decide (((p0.Nodes).length:Int) > 12)) || ((decide (p0.Rings<0)) || decide (p0.Rings > 16))))=true then (some ([],2)) else (if ((decide (p0.Room<1)) || decide (p0.Room > 6))=true then (some ([],3)) else (iter (fun ct:Int × Int × (List (Int × Int)) × (List (Int × Int))=>dp p0 ct.1 ct.2.1 ct.2.2.1 ct.2.2.2) (0,0,([]:List (Int × Int)),([]:List (Int × Int))))))
def gP:Option Net :=
 (some (⟨[(⟨1,0,[],[0]⟩:Node),(⟨1,1,[],[1]⟩:Node),(⟨6,0,[0,1],[2]⟩:Node),(⟨8,0,[2],[]⟩:Node)],3,1⟩:Net))
def gl (p0 p1:List UInt8):Option (List (List UInt8)):=jx p0 p1
def atoiW (p0:List UInt8):Option Int:=atoiS p0
def fh (p0:List UInt8):Option Int :=
 ((atoiW p0).bind fun x2=>(Option.bind (if (decide (x2<0))=true then (some true) else ((cE x2).bind fun x3=>(some (!(x3==p0))))) fun c4=>(if c4=true then (none) else (some x2))))
def kP (p0:List UInt8):Option (List Int):=jp p0
def iD (p2:Int) (x2:List (List UInt8)) (p3:Int) (p4:List Node) (x14:List (List UInt8)) (s15:Int):Option (Int ⊕ (Bool × Int × Int × (List Node))) :=
 (if (decide (s15<((x14).length:Int)))=true then ((ixN x14 s15).bind fun x18=>(((x14)[x18]?).bind fun x19=>(Option.bind (if (decide (s15 > 0))=true then ((idx x2 0).bind fun x20=>(some (x19==x20))) else (some false)) fun c21=>(if c21=true then ((idx x2 1).bind fun x29=>((fh x29).bind fun x30=>((idx x2 2).bind fun x31=>((kP x31).bind fun x32=>((idx x2 3).bind fun x33=>((kP x33).bind fun x34=>((app p4 [(⟨s15,x30,x32,x34⟩:Node)]).bind fun x35=>(Option.map Sum.inr (some (true,p2,p3,x35)))))))))) else (some (.inl (IntKind.i64.wrap (s15+1)))))))) else (Option.map Sum.inr (some (false,p2,p3,p4))))
def fa (p0:Int) (p1:List UInt8) (p2 p3:Int) (p4:List Node):Option (Bool × Int × Int × (List Node)) :=
 ((gl p1 ([32]:List UInt8)).bind fun x2=>(if (p0==0)=true then (Option.bind (if (((x2).length:Int) != 3)=true then (some true) else ((idx x2 0).bind fun x3=>(some (!(x3==[114,105,110,103,115]))))) fun c4=>(if c4=true then (some (false,p2,p3,p4)) else ((idx x2 1).bind fun x9=>((fh x9).bind fun x10=>((idx x2 2).bind fun x11=>((fh x11).bind fun x12=>(some (true,x10,x12,p4)))))))) else (if (((x2).length:Int) != 4)=true then (some (false,p2,p3,p4)) else (eC.bind fun x14=>(iter (fun e6:Int=>iD p2 x2 p3 p4 x14 e6) 0)))))
def cx (x2:List (List UInt8)) (s3 s4 s5:Int) (s6:List Node):Option ((Int × Int × Int × (List Node)) ⊕ (Net × Int × Int)) :=
 (if (decide (s3<((x2).length:Int)))=true then ((idx x2 s3).bind fun x8=>(Option.bind (if (s3==(IntKind.i64.wrap (((x2).length:Int) - 1)))=true then (if (!(x8==[]))=true then (some (true,s4,s5,s6)) else (if (s3==0)=true then (some (true,s4,s5,s6)) else (if (!(s3==(IntKind.i64.wrap (((x2).length:Int) - 1))))=true then ((fa s3 x8 s4 s5 s6).bind fun x9=>(some (!x9.1,x9.2.1,x9.2.2.1,x9.2.2.2))) else (some (false,s4,s5,s6))))) else (if (!(s3==(IntKind.i64.wrap (((x2).length:Int) - 1))))=true then ((fa s3 x8 s4 s5 s6).bind fun x10=>(some (!x10.1,x10.2.1,x10.2.2.1,x10.2.2.2))) else (some (false,s4,s5,s6)))) fun lB=>(match lB with | (c11,c12,c13,c14)=>(if c11=true then (Option.map Sum.inr (some ((⟨[],0,0⟩:Net),s3,1))) else (some (.inl (IntKind.i64.wrap (s3+1),c12,c13,c14))))))) else (Option.map Sum.inr ((c6 (⟨s6,s4,s5⟩:Net)).bind fun x16=>(if (x16 != 0)=true then (some ((⟨[],0,0⟩:Net),0,x16)) else (some ((⟨s6,s4,s5⟩:Net),0,0))))))
def gS (p0:List UInt8):Option (Net × Int × Int) :=
 (if (decide (((p0).length:Int) > 4000))=true then (some ((⟨[],0,0⟩:Net),0,2)) else ((gl p0 ([10]:List UInt8)).bind fun x2=>(iter (fun cV:Int × Int × Int × (List Node)=>cx x2 cV.1 cV.2.1 cV.2.2.1 cV.2.2.2) (0,0,0,[]))))
def gH (p0 p1:List Int) (s1:Int):Option (Int ⊕ Bool) :=
 (if (decide (s1<((p0).length:Int)))=true then ((idx p0 s1).bind fun x4=>((idx p1 s1).bind fun x5=>(if (x4 != x5)=true then (Option.map Sum.inr (some false)) else (some (.inl (IntKind.i64.wrap (s1+1))))))) else (Option.map Sum.inr (some true)))
def e9 (p0 p1:List Int):Option Bool :=
 (if (((p0).length:Int) != ((p1).length:Int))=true then (some false) else (iter (fun cH:Int=>gH p0 p1 cH) 0))
def gM (p0 p1:Node):Option Bool :=
 (Option.bind (if (p0.Kind==p1.Kind)=true then (if (p0.A==p1.A)=true then ((e9 p0.In p1.In).bind fun x1=>(if x1=true then ((e9 p0.Out p1.Out).bind fun x2=>(some x2)) else (some false))) else (some false)) else (some false)) fun c3=>(some c3))
def d7 (p0 p1:List Node) (s1:Int):Option (Int ⊕ Bool) :=
 (if (decide (s1<((p0).length:Int)))=true then ((idx p0 s1).bind fun x3=>((idx p1 s1).bind fun x5=>((gM x3 x5).bind fun x7=>(if (!x7)=true then (Option.map Sum.inr (some false)) else (some (.inl (IntKind.i64.wrap (s1+1)))))))) else (Option.map Sum.inr (some true)))
def iA (p0 p1:List Node):Option Bool :=
 (if (((p0).length:Int) != ((p1).length:Int))=true then (some false) else (iter (fun cH:Int=>d7 p0 p1 cH) 0))
def fW (p0 p1:Net):Option Bool :=
 (Option.bind (if (p0.Rings==p1.Rings)=true then (if (p0.Room==p1.Room)=true then ((iA p0.Nodes p1.Nodes).bind fun x1=>(some x1)) else (some false)) else (some false)) fun c2=>(some c2))
def ep:Option Bool :=
 (gP.bind fun x3=>((eD x3).bind fun x4=>((gS x4.1).bind fun x6=>(Option.bind (if (x4.2==0)=true then (if (x6.2.2==0)=true then (if (x6.2.1==0)=true then (if (x4.1==[114,105,110,103,115,32,51,32,49,10,115,111,117,114,99,101,32,48,32,45,32,48,10,115,111,117,114,99,101,32,49,32,45,32,49,10,109,101,114,103,101,32,48,32,48,44,49,32,50,10,115,105,110,107,32,48,32,50,32,45,10])=true then (gP.bind fun x7=>((fW x6.1 x7).bind fun x8=>(some x8))) else (some false)) else (some false)) else (some false)) else (some false)) fun c9=>(some c9)))))
def iG:Option (List (List UInt8)) :=
 (some [[115,111,117,114,99,101],[109,97,112],[115,99,97,110],[99,111,117,110,116],[116,101,101],[109,101,114,103,101],[115,112,108,105,116],[115,105,110,107]])
def d8 (p0:List Int) (s1:List UInt8) (s2:Int):Option (((List UInt8) × Int) ⊕ (List UInt8)) :=
 (if (decide (s2<((p0).length:Int)))=true then ((idx p0 s2).bind fun x4=>(if (decide (s2 > 0))=true then ((cat s1 [44]).bind fun x5=>((cE x4).bind fun x6=>((cat x5 x6).bind fun x7=>(some (.inl (x7,IntKind.i64.wrap (s2+1))))))) else ((cE x4).bind fun x8=>((cat s1 x8).bind fun x9=>(some (.inl (x9,IntKind.i64.wrap (s2+1)))))))) else (Option.map Sum.inr (if (s1==[])=true then (some [45]) else (some s1))))
def gG (p0:List Int):Option (List UInt8) :=
 (iter (fun aY:(List UInt8) × Int=>d8 p0 aY.1 aY.2) ([],0))
def ed (p0:Net) (x2:(List UInt8) × Int) (s21:List UInt8) (s22:Int):Option (((List UInt8) × Int) ⊕ Bool) :=
 (if (decide (s22<((p0.Nodes).length:Int)))=true then ((idx p0.Nodes s22).bind fun x24=>(iG.bind fun x25=>((ixN x25 (IntKind.i64.wrap (x24.Kind - 1))).bind fun x26=>(((x25)[x26]?).bind fun x27=>((cat x27 [32]).bind fun x28=>((cE x24.A).bind fun x29=>((cat x28 x29).bind fun x30=>((cat x30 [32]).bind fun x31=>((gG x24.In).bind fun x32=>((cat x31 x32).bind fun x33=>((cat x33 [32]).bind fun x34=>((gG x24.Out).bind fun x35=>((cat x34 x35).bind fun x36=>((cat x36 [10]).bind fun x37=>((cat s21 x37).bind fun x38=>(some (.inl (x38,IntKind.i64.wrap (s22+1))))))))))))))))))) else (Option.map Sum.inr (some ((x2.2==0) && x2.1==s21))))
def gK (p0:Net):Option Bool :=
 ((eD p0).bind fun x2=>((fV p0).bind fun x4=>(ep.bind fun x5=>(if ((!x5) || x4.2 != 0)=true then (ep.bind fun x7=>(some (x7 && ((x2.2==x4.2) && x2.1==[])))) else ((cE p0.Rings).bind fun x15=>((cat ([114,105,110,103,115,32]:List UInt8) x15).bind fun x16=>((cat x16 [32]).bind fun x17=>((cE p0.Room).bind fun x18=>((cat x17 x18).bind fun x19=>((cat x19 [10]).bind fun x20=>(iter (fun bH:(List UInt8) × Int=>ed p0 x2 bH.1 bH.2) (x20,0))))))))))))
end
section
open Go.RowKit
inductive TI where
 | no
 | s0
 | sc (z:AV)
 | it (k:IntKind)
 | bo
 | str
 | sl (e c:Nat)
 | ag (z:List AV) (m:Nat) (fs:List (Nat × Nat × Nat))
 | ar (z:List AV) (m:Nat)
inductive TT where
 | l (t:Nat) (i:TI)
 | n (k:Nat) (a b:TT)
def TT.get:TT->Nat->TI
 | .l t i,u=>match Nat.beq t u with
  | true=>i
  | false=>.no
 | .n k a b,u=>match Nat.blt u k with
  | true=>a.get u
  | false=>b.get u
def TI.zero:TI->Option (List AV)
 | .sc z=>some [z]
 | .it k=>some [.int k 0]
 | .bo=>some [.bool false]
 | .str=>some [.str []]
 | .sl _ _=>some [.nils]
 | .ag z _ _=>some z
 | .ar z _=>some z
 | _=>none
def TI.size:TI->Option Nat
 | .no=>none
 | .ag _ m _=>some m
 | .ar _ m=>some m
 | _=>some 1
def TOne (P:Program) (t:Nat):Prop:=aF P t=some false/\P.cellsOf t=1/\(P.underlying t).isSome=true
def FsOk (P:Program) (t:Nat):Nat->List (Nat × Nat × Nat)->Prop
 | _,[]=>True
 | k,(o,_,ft)::r=>FieldAt P t k ft o/\FsOk P t (k+1) r
def TAgg (P:Program) (t:Nat) (z:List AV) (m:Nat):Prop:=aF P t=some true/\P.cellsOf t=m/\(P.underlying t).isSome=true/\ai P t=some z/\z.length=m
def TOk (P:Program) (t:Nat):TI->Prop
 | .no=>True
 | .s0=>TOne P t
 | .sc z=>TOne P t/\ai P t=some [z]
 | .it k=>TOne P t/\ai P t=some [.int k 0]/\P.underlying t=some (.int k)
 | .bo=>TOne P t/\ai P t=some [.bool false]/\P.underlying t=some .bool
 | .str=>TOne P t/\ai P t=some [.str []]/\P.underlying t=some .string
 | .sl e c=>TOne P t/\ai P t=some [.nils]/\SliceOf P t e c
 | .ag z m fs=>TAgg P t z m/\dt P t=some (fs.map fun q=>(q.1,q.2.1))/\FsOk P t 0 fs
 | .ar z m=>TAgg P t z m
def TT.Ok (P:Program):TT->Prop
 | .l t i=>TOk P t i
 | .n _ a b=>a.Ok P/\b.Ok P
section
variable {P:Program} {N n:Nat} {aw aw':List Ob} {l:List (Nat × AV)} {tt:TT}
theorem TT.get_ok:∀ {tt:TT},tt.Ok P->∀ u,TOk P u (tt.get u)
 | .l t i,h,u=>by
  show TOk P u (match Nat.beq t u with | true=>i | false=>.no);cases hb:Nat.beq t u
  ·trivial
  ·have:=yz hb;subst this;exact h
 | .n k a b,h,u=>by
  show TOk P u (match Nat.blt u k with | true=>a.get u | false=>b.get u);cases Nat.blt u k
  ·exact TT.get_ok h.2 u
  ·exact TT.get_ok h.1 u
theorem TI.zero_ok {t:Nat} {i:TI} {z:List AV} (h:TOk P t i) (hz:i.zero=some z):ai P t=some z:=by cases i<;>simp only [TI.zero] at hz<;>first | (cases hz;done) | (cases hz;first | exact h.2 | exact h.2.1 | exact h.1.2.2.2.1 | exact h.2.2.2.1)
theorem TI.size_ok {t m:Nat} {i:TI} (h:TOk P t i) (hm:i.size=some m):P.cellsOf t=m/\(P.underlying t).isSome=true:=by cases i<;>simp only [TI.size] at hm<;>first | (cases hm;done) | (cases hm;first | exact ⟨h.2.1,h.2.2⟩ | exact ⟨h.1.2.1,h.1.2.2.1⟩ | exact ⟨h.1.2.1,h.1.2.2⟩ | exact ⟨h.2.1,h.2.2.1⟩)
theorem ld {t:Nat}:∀ {fs:List (Nat × Nat × Nat)} {k i:Nat} {q:Nat × Nat × Nat},FsOk P t k fs->fs[i]?=some q->FieldAt P t (k+i) q.2.2 q.1
 | q'::r,k,0,q,h,e=>by simp at e;subst e;exact h.1
 | q'::r,k,i+1,q,h,e=>by
  have:=ld (k:=k+1) (i:=i) h.2 (by simpa using e);rwa [show k+1+i=k+(i+1) by omega] at this
 | [],k,i,q,h,e=>by simp at e
section
variable {α:Type}
def aM:List α->Nat->(α->Prop)->Prop
 | [],_,_=>False
 | a::l,k,K=>match k with
  | 0=>K a
  | k+1=>aM l k K
def setC:List α->Nat->α->(List α->Prop)->Prop
 | [],_,_,_=>False
 | a::l,k,b,K=>match k with
  | 0=>K (b::l)
  | k+1=>setC l k b fun l=>K (a::l)
def pushC:List α->α->(List α->Prop)->Prop
 | [],b,K=>K [b]
 | a::l,b,K=>pushC l b fun l=>K (a::l)
def lenC:List α->Nat->Prop->Prop
 | [],k,K=>match k with
  | 0=>K
  | _+1=>False
 | _::l,k,K=>match k with
  | 0=>False
  | k+1=>lenC l k K
def dropC:List α->Nat->(List α->Prop)->Prop
 | l,0,K=>K l
 | [],_+1,_=>False
 | _::l,k+1,K=>dropC l k K
def takeC:List α->Nat->(List α->Prop)->Prop
 | _,0,K=>K []
 | [],_+1,_=>False
 | a::l,k+1,K=>takeC l k fun l=>K (a::l)
def overC:List α->List α->(List α->Prop)->Prop
 | l,[],K=>K l
 | [],_::_,_=>False
 | _::l,b::bs,K=>overC l bs fun l=>K (b::l)
def splC:List α->Nat->List α->(List α->Prop)->Prop
 | l,0,bs,K=>overC l bs K
 | [],_+1,_,_=>False
 | a::l,k+1,bs,K=>splC l k bs fun l=>K (a::l)
def lenB:List α->Nat->Bool
 | [],k=>(match k with
  | 0=>true
  | _+1=>false)
 | _::l,k=>(match k with
  | 0=>false
  | k+1=>lenB l k)
def sameB:List α->List α->Bool
 | [],[]=>true
 | _::l,_::m=>sameB l m
 | _,_=>false
def aggC (row:List α) (off m:Nat) (K:List α->Prop):Prop :=
 match off with
 | 0=>(match lenB row m with
  | true=>K row
  | false=>takeC row m K)
 | off=>dropC row off fun r=>takeC r m K
def putC (l:List α) (off:Nat) (bs:List α) (K:List α->Prop):Prop :=
 match off with
 | 0=>(match sameB l bs with
  | true=>K bs
  | false=>splC l 0 bs K)
 | off=>splC l off bs K
theorem oS:∀ {l:List α} {k:Nat},lenB l k=true->l.length=k
 | [],0,_=>rfl
 | [],_+1,h=>by cases h
 | _::_,0,h=>by cases h
 | _::l,k+1,h=>by have:=oS (l:=l) (k:=k) h;simp [this]
theorem ob:∀ {l m:List α},sameB l m=true->l.length=m.length
 | [],[],_=>rfl
 | [],_::_,h=>by cases h
 | _::_,[],h=>by cases h
 | _::l,_::m,h=>by have:=ob (l:=l) (m:=m) h;simp [this]
theorem aI:∀ {l:List α} {k:Nat} {K:α->Prop},aM l k K->∃ a,l[k]?=some a/\K a
 | [],_,_,h=>h.elim
 | a::l,0,K,h=>⟨a,rfl,h⟩
 | a::l,k+1,K,h=>by obtain ⟨b,h1,h2⟩:=aI (l:=l) (k:=k) (K:=K) h;exact ⟨b,by simpa using h1,h2⟩
theorem fy:∀ {l:List α} {k:Nat} {b:α} {K:List α->Prop},setC l k b K->K (l.set k b)
 | [],_,_,_,h=>h.elim
 | a::l,0,b,K,h=>h
 | a::l,k+1,b,K,h=>fy (l:=l) (k:=k) (K:=fun l=>K (a::l)) h
theorem f9:∀ {l:List α} {b:α} {K:List α->Prop},pushC l b K->K (l++[b])
 | [],_,_,h=>h
 | a::l,b,K,h=>f9 (l:=l) (K:=fun l=>K (a::l)) h
theorem kO:∀ {l:List α} {k:Nat} {K:Prop},lenC l k K->l.length=k/\K
 | [],0,K,h=>⟨rfl,h⟩
 | [],_+1,_,h=>h.elim
 | _::_,0,_,h=>h.elim
 | _::l,k+1,K,h=>by have:=kO (l:=l) (k:=k) (K:=K) h;exact ⟨by simp [this.1],this.2⟩
theorem kK:∀ {l:List α} {k:Nat} {K:List α->Prop},dropC l k K->k<=l.length/\K (l.drop k)
 | l,0,K,h=>⟨yr _,by cases l<;>exact h⟩
 | [],_+1,_,h=>h.elim
 | _::l,k+1,K,h=>by have:=kK (l:=l) (k:=k) (K:=K) h;exact ⟨by simp [this.1],by simpa using this.2⟩
theorem kz:∀ {l:List α} {k:Nat} {K:List α->Prop},takeC l k K->k<=l.length/\K (l.take k)
 | l,0,K,h=>⟨yr _,by cases l<;>exact h⟩
 | [],_+1,_,h=>h.elim
 | a::l,k+1,K,h=>by have:=kz (l:=l) (k:=k) (K:=fun l=>K (a::l)) h;exact ⟨by simp [this.1],by simpa using this.2⟩
theorem nD:∀ {l bs:List α} {K:List α->Prop},overC l bs K->bs.length<=l.length/\K (bs++l.drop bs.length)
 | l,[],K,h=>⟨yr _,by cases l<;>exact h⟩
 | [],_::_,_,h=>h.elim
 | _::l,b::bs,K,h=>by have:=nD (l:=l) (bs:=bs) (K:=fun l=>K (b::l)) h;exact ⟨by simp [this.1],by simpa using this.2⟩
theorem js:∀ {l:List α} {k:Nat} {bs:List α} {K:List α->Prop},splC l k bs K->k+bs.length<=l.length/\K (l.take k++bs++l.drop (k+bs.length))
 | l,0,bs,K,h=>by have:=nD (l:=l) (bs:=bs) (K:=K) (by cases l<;>exact h);exact ⟨by omega,by simpa using this.2⟩
 | [],_+1,_,_,h=>h.elim
 | a::l,k+1,bs,K,h=>by have:=js (l:=l) (k:=k) (bs:=bs) (K:=fun l=>K (a::l)) h;refine ⟨by simp;omega,?_⟩;rw [show k+1+bs.length=(k+bs.length)+1 by omega];simpa using this.2
theorem oY {row:List α} {off m:Nat} {K:List α->Prop} (h:aggC row off m K):off+m<=row.length/\K ((row.drop off).take m):=by
 have key:∀ {o:Nat},(dropC row o fun r=>takeC r m K)->o+m<=row.length/\K ((row.drop o).take m):=fun {o} h=>by obtain ⟨h1,h2⟩:=kK h;obtain ⟨h3,h4⟩:=kz h2;exact ⟨by rw [yP] at h3;omega,h4⟩
 unfold aggC at h;split at h
 ·split at h
  ·rename_i hb;have:=oS hb;subst this;exact ⟨by omega,by simpa using h⟩
  ·obtain ⟨h3,h4⟩:=kz h;exact ⟨by omega,by simpa using h4⟩
 ·exact key h
theorem uA {l:List α} {k:Nat} {bs:List α} {K:List α->Prop} (h:putC l k bs K):k+bs.length<=l.length/\K (l.take k++bs++l.drop (k+bs.length)):=by
 unfold putC at h;split at h
 ·split at h
  ·rename_i hb;have:=ob hb;exact ⟨by omega,by rw [y5,<- this];simpa using h⟩
  ·exact js h
 ·exact js h
end
def fA (a:AV) (K:AV->Prop):Prop :=
 match a with
 | .any=>K .any
 | .int k n=>K (.int k n)
 | .bool b=>K (.bool b)
 | .str s=>K (.str s)
 | .agg cs=>K (.agg cs)
 | .tup vs=>K (.tup vs)
 | .nils=>K .nils
 | .sl rows=>K (.sl rows)
 | .ref id=>K (.ref id)
 | .ptr id off=>K (.ptr id off)
 | .elt row off=>K (.elt row off)
 | .aptr id size i off=>K (.aptr id size i off)
 | .func f caps=>K (.func f caps)
 | .nilf=>K .nilf
 | .nilp=>K .nilp
 | .nili=>K .nili
 | .mpr id=>K (.mpr id)
 | .np id=>K (.np id)
 | .ifc t a=>K (.ifc t a)
 | .cst v=>K (.cst v)
 | .vw id size lo n cap=>K (.vw id size lo n cap)
 | .ref2 id=>K (.ref2 id)
 | .aptr2 id i=>K (.aptr2 id i)
 | .iref id i=>K (.iref id i)
 | .bnd f cs=>K (.bnd f cs)
theorem cu {a:AV} {K:AV->Prop} (h:fA a K):K a:=by cases a<;>exact h
def ib (a:AV) (K:List AV->Prop):Prop :=
 match a with
 | .any | .tup _ | .cst _=>False
 | .agg cs=>K cs
 | a=>fA a fun a=>K [a]
theorem kx {a:AV} {K:List AV->Prop} (h:ib a K):∃ cs,a.cells=some cs/\K cs:=by cases a<;>first | exact h.elim | exact ⟨_,rfl,h⟩
def evsC (n:Nat) (l:List (Nat × AV)):List Operand->(List AV->Prop)->Prop
 | [],K=>K []
 | x::xs,K=>fA (evA n l x) fun a=>evsC n l xs fun as₀=>K (a::as₀)
theorem hP:∀ {xs:List Operand} {K:List AV->Prop},evsC n l xs K->K (xs.map (evA n l))
 | [],K,h=>h
 | x::xs,K,h=>hP (xs:=xs) (K:=fun as₀=>K (evA n l x::as₀)) (cu (a:=evA n l x) (K:=fun a=>evsC n l xs fun as₀=>K (a::as₀)) h)
def ikN:IntKind->Nat
 | .i8=>0
 | .i16=>1
 | .i32=>2
 | .i64=>3
 | .u8=>4
 | .u16=>5
 | .u32=>6
 | .u64=>7
theorem pG {a b:IntKind} (h:Nat.beq (ikN a) (ikN b)=true):a=b:=by cases a<;>cases b<;>first | rfl | cases h
def wLd (i:TI) (row:List AV) (off:Nat) (K:AV->Prop):Prop :=
 match i with
 | .no=>False
 | .ag _ m _=>aggC row off m fun cs=>K (.agg cs)
 | .ar _ m=>aggC row off m fun cs=>K (.agg cs)
 | _=>aM row off fun c=>fA c K
theorem ldA {t m:Nat} {row:List AV} {off:Nat} {K:AV->Prop} (hk:aF P t=some true) (hm:P.cellsOf t=m) (h:aggC row off m fun cs=>K (.agg cs)):aL P t row off K:=by obtain ⟨h1,h2⟩:=oY h;simp only [aL,hk,hm];exact ⟨h1,h2⟩
theorem ld1 {t:Nat} {row:List AV} {off:Nat} {K:AV->Prop} (hk:aF P t=some false) (h:aM row off fun c=>fA c K):aL P t row off K:=by obtain ⟨c,h1,h2⟩:=aI h;exact aH hk h1 (cu h2)
theorem lh {t:Nat} {i:TI} {row:List AV} {off:Nat} {K:AV->Prop} (ht:TOk P t i) (h:wLd i row off K):aL P t row off K:=by
 cases i with
 | no=>exact h.elim
 | ag z m fs=>exact ldA ht.1.1 ht.1.2.1 h
 | ar z m=>exact ldA ht.1 ht.2.1 h
 | s0=>exact ld1 ht.1 h
 | _=>exact ld1 ht.1.1 h
def wBin (tt:TT) (op:BinOp) (t:Nat) (a b:AV) (K:AV->Prop):Prop :=
 match a,b with
 | .int k x,.int k' y=>(match Nat.beq (ikN k) (ikN k') with
  | true=>(match op with
   | .add=>K (.int k (k.wrap (x+y)))
   | .sub=>K (.int k (k.wrap (x - y)))
   | .mul=>K (.int k (k.wrap (x*y)))
   | .and=>K (.int k (intBits .and k x y))
   | .or=>K (.int k (intBits .or k x y))
   | .xor=>K (.int k (intBits .xor k x y))
   | .eql=>K (.bool (x==y))
   | .neq=>K (.bool (x != y))
   | .lss=>K (.bool (decide (x<y)))
   | .leq=>K (.bool (decide (x<=y)))
   | .gtr=>K (.bool (decide (x > y)))
   | .geq=>K (.bool (decide (x >= y)))
   | _=>False)
  | false=>False)
 | .str x,.str y=>(match op with
  | .eql=>K (.bool (x==y))
  | .neq=>K (.bool (!(x==y)))
  | _=>False)
 | .bool x,.bool y=>(match tt.get t with
  | .bo=>(match op with
   | .eql=>K (.bool (x==y))
   | .neq=>K (.bool (!(x==y)))
   | _=>False)
  | _=>False)
 | _,_=>False
theorem ul {op:BinOp} {t:Nat} {a b:AV} {K:AV->Prop} (ht:tt.Ok P) (h:wBin tt op t a b K):vcBin P op t a b K:=by
 unfold wBin at h;split at h
 ·split at h
  ·rename_i hk;have:=pG hk;subst this;split at h<;>first | exact ⟨trivial,h⟩ | exact ⟨rfl,h⟩ | exact h.elim
  ·exact h.elim
 ·split at h<;>first | exact h.elim | exact h
 ·split at h
  ·rename_i hb;have hu:=TT.get_ok ht t;rw [hb] at hu;have hu:=hu.2.2;split at h<;>first | exact h.elim | (simp only [vcBin,hu];exact h)
  ·exact h.elim
 ·exact h.elim
def fillC (n:Nat) (l:List (Nat × AV)) (fs:List (Nat × Nat × Nat)):List AV->List (Nat × Operand)->(List AV->Prop)->Prop
 | cells,[],K=>K cells
 | cells,(i,x)::ps,K=>aM fs i fun (o,sz,_)=>ib (evA n l x) fun vs=>lenC vs sz (splC cells o vs fun cs=>fillC n l fs cs ps K)
theorem nH {fs:List (Nat × Nat × Nat)}:∀ {ps:List (Nat × Operand)} {cells:List AV} {K:List AV->Prop},fillC n l fs cells ps K ->
  ∃ cs,db (fun i=>(fs.map fun q=>(q.1,q.2.1))[i]?) cells (ps.map fun p=>(p.1,evA n l p.2))=some cs/\K cs
 | [],cells,K,h=>⟨cells,rfl,by cases cells<;>exact h⟩
 | (i,x)::ps,cells,K,h=>by
  have h:aM fs i fun q=>ib (evA n l x) fun vs=>lenC vs q.2.1 (splC cells q.1 vs fun cs=>fillC n l fs cs ps K):=by cases cells<;>exact h
  obtain ⟨q,h1,h⟩:=aI h;obtain ⟨vs,h2,h⟩:=kx h;obtain ⟨h3,h⟩:=kO h;obtain ⟨h4,h⟩:=js h;obtain ⟨cs,h5,h6⟩:=nH h;refine ⟨cs,?_,h6⟩;show db _ cells ((i,evA n l x)::ps.map fun p=>(p.1,evA n l p.2))=_;have e1:(fs.map fun q=>(q.1,q.2.1))[i]?=some (q.1,q.2.1):=by rw [xJ,h1];rfl
  unfold db;simp only [e1,h2];rw [if_pos ⟨h3,by omega⟩];exact h5
def wB (tt:TT) (n:Nat) (l:List (Nat × AV)) (b:Builtin) (args:List Operand) (ats:List TypeId) (K:AV->Prop):Prop :=
 match b,args,ats with
 | .len,[x],[t]=>(match tt.get t,evA n l x with
  | .str,.str s=>K (.int .i64 s.length)
  | .sl _ _,.nils=>K (.int .i64 0)
  | _,_=>False)
 | .min,[x,y],_=>(match evA n l x,evA n l y with
  | .int k a,.int _ b=>K (.int k (if b<a then b else a))
  | _,_=>False)
 | .max,[x,y],_=>(match evA n l x,evA n l y with
  | .int k a,.int _ b=>K (.int k (if b > a then b else a))
  | _,_=>False)
 | _,_,_=>False
theorem wB_ok {b:Builtin} {args:List Operand} {ats:List TypeId} {K:AV->Prop} (ht:tt.Ok P) (h:wB tt n l b args ats K):vcB P (mkA n l) aw b args ats K:=by
 unfold wB at h;split at h
 ·rename_i x t;have hu:=TT.get_ok ht t;split at h
  ·rename_i s h1 h2;rw [h1] at hu;simp only [vcB,ab,hu.2.2,h2];exact h
  ·rename_i e c h1 h2;rw [h1] at hu;simp only [vcB,ab,hu.2.2.u,h2];exact h
  ·exact h.elim
 ·split at h
  ·rename_i h1 h2;simp only [vcB,ab,h1,h2];exact h
  ·exact h.elim
 ·split at h
  ·rename_i h1 h2;simp only [vcB,ab,h1,h2];exact h
  ·exact h.elim
 ·exact h.elim
def wV (tt:TT) (n:Nat) (l:List (Nat × AV)) (aw:List Ob) (op:Op) (K:AV->Prop):Prop :=
 match op with
 | .move x=>fA (evA n l x) K
 | .assign x=>fA (evA n l x) K
 | .pick c a b=>(match evA n l c,evA n l a,evA n l b with
  | .bool t,.bool x,.bool y=>K (.bool (if t then x else y))
  | .bool t,.int k x,.int k' y=>(match Nat.beq (ikN k) (ikN k') with
   | true=>K (.int k (if t then x else y))
   | false=>False)
  | _,_,_=>False)
 | .load t x=>(match evA n l x with
  | .ptr id off=>aM aw id fun o=>(match o with
   | .box cs=>wLd (tt.get t) cs off K
   | _=>False)
  | .elt row off=>wLd (tt.get t) row off K
  | _=>False)
 | .fieldAddr t x k=>(match tt.get t with
  | .ag _ _ fs=>aM fs k fun (o,_,_)=>(match evA n l x with
   | .ptr id off=>K (.ptr id (off+o))
   | .elt row off=>K (.elt row (off+o))
   | .aptr id s i off=>K (.aptr id s i (off+o))
   | _=>False)
  | _=>False)
 | .field t x k=>(match tt.get t,evA n l x with
  | .ag _ _ fs,.agg cs=>aM fs k fun (o,_,ft)=>wLd (tt.get ft) cs o K
  | _,_=>False)
 | .binOp op t x y _=>wBin tt op t (evA n l x) (evA n l y) K
 | .unOp op _ x=>(match op,evA n l x with
  | .not,.bool b=>K (.bool (!b))
  | .neg,.int k a=>K (.int k (k.wrap (0 - a)))
  | _,_=>False)
 | .convert s t x=>(match evA n l x with
  | .int _ a=>(match tt.get s,tt.get t with
   | .it _,.it k=>K (.int k (k.wrap a))
   | _,_=>False)
  | _=>False)
 | .makeFunc (.func f) first caps=>(match first.toList with
  | []=>evsC n l caps.toList fun cs=>K (.func f cs)
  | x::xs=>(match caps.toList with
   | []=>evsC n l (x::xs) fun cs=>K (.bnd f cs)
   | _=>False))
 | .build t parts=>(match tt.get t with
  | .ag z _ fs=>fillC n l fs z parts.toList fun cs=>K (.agg cs)
  | _=>False)
 | .extract x k=>(match evA n l x with
  | .tup vs=>aM vs k fun v=>fA v K
  | _=>False)
 | .nilCheck x=>(match evA n l x with
  | .ptr id off=>K (.ptr id off)
  | .elt row off=>K (.elt row off)
  | .aptr id s i off=>K (.aptr id s i off)
  | .func f cs=>K (.func f cs)
  | .bnd f cs=>K (.bnd f cs)
  | _=>False)
 | .call c=>(match c.callee with
  | .builtin b=>wB tt n l b c.args.toList c.argTypes.toList K
  | _=>False)
 | _=>False
theorem wV_ok {op:Op} {K:AV->Prop} (ht:tt.Ok P) (h:wV tt n l aw op K):vcQ P (mkA n l) aw op K:=by
 cases op with
 | move x=>exact vp rfl (cu h)
 | assign x=>exact tq rfl (cu h)
 | pick c a b =>
  simp only [wV] at h;split at h
  ·rename_i h1 h2 h3;exact jA h1 (by rw [h2,h3];rfl) h
  ·rename_i h1 h2 h3;split at h
   ·rename_i hk;have:=pG hk;subst this;exact jA h1 (by rw [h2,h3];simp only [pickV,if_true]) h
   ·exact h.elim
  ·exact h.elim
 | load t x =>
  simp only [wV] at h;split at h
  ·rename_i h1;obtain ⟨o,h2,h⟩:=aI h;split at h
   ·exact mZ h1 h2 (lh (TT.get_ok ht t) h)
   ·exact h.elim
  ·rename_i h1;exact rA h1 (lh (TT.get_ok ht t) h)
  ·exact h.elim
 | fieldAddr t x k =>
  simp only [wV] at h;have hu:=TT.get_ok ht t;split at h
  ·rename_i z m fs h0;rw [h0] at hu;obtain ⟨q,h1,h⟩:=aI h;have hF:=ld hu.2.2 h1;rw [y5] at hF;split at h
   ·rename_i h2;exact qP hF h2 rfl h
   ·rename_i h2;exact qN hF h2 rfl h
   ·rename_i h2;exact qL hF h2 rfl h
   ·exact h.elim
  ·exact h.elim
 | field t x k =>
  simp only [wV] at h;have hu:=TT.get_ok ht t;split at h
  ·rename_i z m fs cs h0 h2;rw [h0] at hu;obtain ⟨q,h1,h⟩:=aI h;have hF:=ld hu.2.2 h1;rw [y5] at hF;exact uE hF h2 (lh (TT.get_ok ht _) h)
  ·exact h.elim
 | binOp op t x y yt =>
  have:=ul ht h;simp only [vcQ,ab];exact this
 | unOp op t x =>
  simp only [wV] at h;split at h
  ·rename_i h1;exact v_not h1 h
  ·rename_i h1;exact v_neg h1 h
  ·exact h.elim
 | convert s t x =>
  simp only [wV] at h;split at h
  ·rename_i h1;have hu:=TT.get_ok ht t;have hs:=TT.get_ok ht s;split at h
   ·rename_i h2 h3;rw [h2] at hs;rw [h3] at hu;exact vi hs.2.2 hu.2.2 h1 h
   ·exact h.elim
  ·exact h.elim
 | makeFunc f first caps =>
  cases f with
  | func f =>
   simp only [wV] at h;split at h
   ·rename_i h1;have:first=#[]:=by cases first;simp at h1;subst h1;rfl
    subst this;exact rT rfl (hP h)
   ·rename_i x xs h1;split at h
    ·rename_i h2;have h3:first=(x::xs).toArray:=by cases first;simp at h1;subst h1;rfl
     have h4:caps=#[]:=by cases caps;simp at h2;subst h2;rfl
     subst h3 h4;exact v_bnd rfl (hP h)
    ·exact h.elim
  | _=>exact h.elim
 | build t parts =>
  simp only [wV] at h;have hu:=TT.get_ok ht t;split at h
  ·rename_i z m fs h0;rw [h0] at hu;obtain ⟨cs,h1,h2⟩:=nH h;exact ue hu.1.2.2.2.1 hu.2.1 h1 h2
  ·exact h.elim
 | extract x k =>
  simp only [wV] at h;split at h
  ·rename_i h1;obtain ⟨v,h2,h⟩:=aI h;exact sP h1 h2 (cu h)
  ·exact h.elim
 | nilCheck x =>
  simp only [wV] at h;split at h
  ·rename_i h1;exact sY h1 h
  ·rename_i h1;exact sX h1 h
  ·rename_i h1;exact rC h1 h
  ·rename_i h1;exact rX h1 h
  ·rename_i h1;exact sE h1 h
  ·exact h.elim
 | call c =>
  obtain ⟨cal,as₀,ts⟩:=c;cases cal with
  | builtin b=>exact wB_ok ht h
  | _=>exact h.elim
 | _=>exact h.elim
theorem vN {op:Op} {K:AV->Prop} (h:wV tt n l aw op K):isQ (mkA n l) op=true:=by
 cases op with
 | load t x =>
  simp only [wV] at h;simp only [isQ,ab];split at h
  ·rename_i h1;rw [h1]
  ·rename_i h1;rw [h1]
  ·exact h.elim
 | convert s t x =>
  simp only [wV] at h;simp only [isQ,ab];split at h
  ·rename_i h1;rw [h1]
  ·exact h.elim
 | call c =>
  obtain ⟨cal,as₀,ts⟩:=c;cases cal with
  | builtin b =>
   simp only [wV,wB] at h;split at h<;>first | rfl | exact h.elim
  | _=>exact h.elim
 | _=>first | rfl | exact h.elim
theorem OP.wV {o:Oper} {K:AV->List Ob->Prop} (ht:tt.Ok P) (h:wV tt n l aw o.op fun r=>K r aw):OP P N o (mkA n l) aw K:=by
 refine OP.of_vc ?_;have h1:=vN h;have h2:=wV_ok ht h;obtain ⟨d,op,ty,ps,af,g⟩:=o;have key:vcVal P (mkA n l) aw op K:=by unfold vcVal;rw [if_pos h1];exact h2
 cases op with
 | call c =>
  obtain ⟨cal,as₀,ts⟩:=c;cases cal with
  | builtin b=>exact key
  | _=>exact (show False from h).elim
 | _=>exact key
def wE (tt:TT) (n:Nat) (l:List (Nat × AV)) (aw:List Ob) (c:Nat) (op:Op) (K:AV->List Ob->Nat->Prop):Prop :=
  match op with
  | .alloc e=>(match (tt.get e).zero with
    | some z=>pushC aw (.box z) fun aw=>K (.ptr c 0) aw (c+1)
    | none=>False)
  | .box _ x=>ib (evA n l x) fun cs=>pushC aw (.box cs) fun aw=>K (.ptr c 0) aw (c+1)
  | .store t x y=>(match evA n l x with
    | .ptr id off=>(match (tt.get t).size with
      | some m=>ib (evA n l y) fun vs=>lenC vs m (aM aw id fun o=>(match o with
        | .box cs=>putC cs off vs fun cs=>setC aw id (.box cs) fun aw=>K .any aw c
        | _=>False))
      | none=>False)
    | _=>False)
  | op=>wV tt n l aw op fun r=>K r aw c
theorem OP.mono {o:Oper} {fr:List AV} {K K':AV->List Ob->Prop} (h:OP P N o fr aw K) (hm:∀ r aw',K r aw'->K' r aw'):OP P N o fr aw K' :=
 ⟨fun st h1 h2 σ w F a hc Kc Q hk=>h.out st h1 h2 σ w F a hc Kc Q fun r aw' σ' w' F' v hK=>hk r aw' σ' w' F' v (hm r aw' hK)⟩
theorem wE_ok {o:Oper} {c:Nat} {K:AV->List Ob->Nat->Prop} (ht:tt.Ok P) (hc:aw.length=c) (h:wE tt n l aw c o.op K):OP P N o (mkA n l) aw fun r aw'=>K r aw' aw'.length:=by
 obtain ⟨d,op,ty,ps,af,g⟩:=o;subst hc;have q:wV tt n l aw op (fun r=>K r aw aw.length)->OP P N ⟨d,op,ty,ps,af,g⟩ (mkA n l) aw fun r aw'=>K r aw' aw'.length:=fun h=>OP.wV ht h
 cases op with
 | alloc e =>
  simp only [wE] at h;split at h
  ·rename_i z hz;have:=f9 h;exact up (TI.zero_ok (TT.get_ok ht e) hz) rfl rfl (by simpa using this)
  ·exact h.elim
 | box e x =>
  obtain ⟨cs,h1,h2⟩:=kx h;have:=f9 h2;exact o_box h1 rfl rfl (by simpa using this)
 | store t x y =>
  simp only [wE] at h;split at h
  ·rename_i h1;split at h
   ·rename_i m hm;obtain ⟨vs,h2,h⟩:=kx h;obtain ⟨h3,h⟩:=kO h;obtain ⟨o,h4,h⟩:=aI h;split at h
    ·obtain ⟨h5,h⟩:=uA h;have h:=fy h;have hs:=TI.size_ok (TT.get_ok ht t) hm;exact rg hs.1 hs.2 h1 h2 h3 h4 (Nat.ble_eq_true_of_le (by omega)) rfl rfl (by simpa [splice] using h)
    ·exact h.elim
   ·exact h.elim
  ·exact h.elim
 | _=>exact q h
def wR (tt:TT) (n:Nat):Nat->List Oper->List (Nat × AV)->List Ob->Nat->(List Oper->List (Nat × AV)->List Ob->Prop)->Prop
 | 0,os,l,aw,_,K=>K os l aw
 | _+1,[],_,_,_,_=>False
 | m+1,o::os,l,aw,c,K=>(match o.guard with
  | none=>wE tt n l aw c o.op fun r aw c=>(match o.dst with
   | some t=>wR tt n m os ((t,r)::l) aw c K
   | none=>wR tt n m os l aw c K)
  | some _=>False)
theorem RS.go (ht:tt.Ok P) {ops:Array Oper} {K:List AV->List Ob->Prop}:∀ {m:Nat} {os:List Oper} {l:List (Nat × AV)} {aw:List Ob} {c:Nat},aw.length=c->wR tt n m os l aw c (fun os l aw=>RS P N ops os K (mkA n l) aw)->RS P N ops os K (mkA n l) aw
 | 0,os,l,aw,c,hc,h=>by cases os<;>exact h
 | _+1,[],_,_,_,_,h=>h.elim
 | m+1,o::os,l,aw,c,hc,h=>by
  simp only [wR] at h;split at h
  ·rename_i hg;refine RS.op hg ((wE_ok ht hc h).mono fun r aw' h=>?_);split at h
   ·rename_i t hd;rw [hd];exact RS.go ht rfl h
   ·rename_i hd;rw [hd];exact RS.go ht rfl h
  ·exact h.elim
def okQ (ops:Array Oper):Array Bool->List Nat->Bool
 | _,[]=>true
 | li,i::is=>Region.free .any ops li i && (Region.ready .any ops li).contains i && (match ops.toList[i]? with
  | some o=>eO o.op && o.guard.isNone
  | none=>false) && okQ ops (li.setIfInBounds i true) is
def lisQ:Array Bool->List Nat->Array Bool
 | li,[]=>li
 | li,i::is=>lisQ (li.setIfInBounds i true) is
def wQ (tt:TT) (n:Nat) (ops:List Oper):List Nat->List (Nat × AV)->List Ob->(List (Nat × AV)->Prop)->Prop
 | [],l,aw,K=>K l
 | i::is,l,aw,K=>aM ops i fun o=>wV tt n l aw o.op fun r=>(match o.dst with
  | some t=>wQ tt n ops is ((t,r)::l) aw K
  | none=>wQ tt n ops is l aw K)
theorem RA.qs (ht:tt.Ok P) {ops:Array Oper} {K:List AV->List Ob->Prop} (hs:Region.noSelect ops=true) {k':Nat}:∀ {is:List Nat} {k:Nat} {li:Array Bool} {l:List (Nat × AV)},k=k' + is.length->okQ ops li is=true ->
  wQ tt n ops.toList is l aw (fun l=>RA P N ops k' (lisQ li is) K (mkA n l) aw)->RA P N ops k li K (mkA n l) aw
 | [],k,li,l,hk,_,h=>by have:k=k':=hk;subst this;exact h
 | i::is,k,li,l,hk,ho,h=>by
  obtain ⟨o,h1,h⟩:=aI h;have h1':ops[i]?=some o:=by simpa using h1
  unfold okQ at ho;rw [h1] at ho;simp only [yG] at ho;obtain ⟨⟨⟨ho1,ho2⟩,ho3,ho4⟩,ho5⟩:=ho;have hg:o.guard=none:=by cases hg:o.guard<;>simp_all
  have hk:k=(k' + is.length)+1:=by rw [hk,xM];omega
  subst hk;refine ⟨fun st e1 e2 σ w F a hc R hR=>?_⟩;obtain ⟨v,r,hrun,hrel,hk⟩:=g9 hc ho3 (wV_ok ht h);refine wpAny_take h1' hs ho1 ho2 (fun c a w hp=>hp) (.inl ⟨by simp [Region.wanted,hg],hrun⟩) ?_;have hput:=bw hc hrel o.dst;rw [bD] at hput;refine RA.out ?_ st e1 e2 σ w F _ hput R hR;split at hk
  ·rename_i t hd;rw [hd];exact RA.qs ht hs rfl ho5 hk
  ·rename_i hd;rw [hd];exact RA.qs ht hs rfl ho5 hk
theorem RO.g (ht:tt.Ok P) {ops:Array Oper} {i c:Nat} {K:List AV->List Ob->Prop} (hc:aw.length=c)
  (h:aM ops.toList i fun o=>o.guard=none/\wE tt n l aw c o.op fun r aw c=>(match o.dst with
   | some t=>K (mkA n ((t,r)::l)) aw
   | none=>K (mkA n l) aw)):RO P N ops i K (mkA n l) aw:=by
 obtain ⟨o,h1,hg,h⟩:=aI h
 refine RO.op (by simpa using h1) hg ((wE_ok ht hc h).mono fun r aw' h=>?_)
 split at h
 ·rename_i t hd
  rw [hd];exact h
 ·rename_i hd
  rw [hd];exact h
end
end
section
open Go.RowKit
instance (a:Item):PureCs (cA a):=⟨eE a⟩
instance (a:Node):PureCs (ae a):=⟨iZ a⟩
instance (a:Net):PureCs (am a):=⟨nU a⟩
instance (a:Keyed):PureCs (eL a):=⟨ko a⟩
instance (a:Memory):PureCs (eF a):=⟨iN a⟩
instance (a:Choice):PureCs (dJ a):=⟨iM a⟩
instance (a:State):PureCs (f8 a):=⟨m6 a⟩
instance (a:Move):PureCs (fx a):=⟨nt a⟩
instance (a:Write):PureCs (dM a):=⟨iO a⟩
instance (a:Disk):PureCs (gc a):=⟨nw a⟩
instance (a:Shop):PureCs (gh a):=⟨nj a⟩
instance (a:Happening):PureCs (fd a):=⟨mD a⟩
instance (a:Ends):PureCs (al a):=⟨ng a⟩
instance {f:FuncId} {cs:List AV} [h:PureCs cs]:PureC (.func f cs):=⟨sK _ _ h.out⟩
instance {α:Type} {en:α->List AV} {a:α} {off:Nat} [h:EnP en]:PureC (.elt (en a) off):=⟨ow _ _ (h.out a)⟩
class EnF {α:Type} (en:α->List AV):Prop where
 out:∀ a,(en a).all flat0=true
instance:EnF ah:=⟨fun _=>rfl⟩
instance:EnF aN:=⟨fun _=>rfl⟩
instance:EnF encU:=⟨fun _=>rfl⟩
instance:EnF bj:=⟨fun _=>rfl⟩
instance:EnF aa:=⟨fun _=>rfl⟩
instance:EnF cA:=⟨fun _=>rfl⟩
instance:EnF eL:=⟨fun _=>rfl⟩
instance:EnF dJ:=⟨fun _=>rfl⟩
instance:EnF fx:=⟨fun _=>rfl⟩
instance:EnF dM:=⟨fun _=>rfl⟩
instance:EnF fd:=⟨fun _=>rfl⟩
instance:EnF al:=⟨fun _=>rfl⟩
class FlatObs (os:List Ob):Prop where
 out:os.all bN=true
instance:FlatObs []:=⟨rfl⟩
instance {α:Type} {en:α->List AV} {xs:List α} {e s:Nat} {os:List Ob} [h:EnF en] [t:FlatObs os]:FlatObs (.arr e s (xs.map en)::os):=⟨t1 (rI h.out) t.out⟩
class OwnVs (vs:List AV):Prop where
 out:∀ x,x∈vs->Pure x∨∃ k,x=.ref k
instance:OwnVs []:=⟨fun x h=>by cases h⟩
instance {k:Nat} {vs:List AV} [t:OwnVs vs]:OwnVs (.ref k::vs):=⟨fun x h=>by
 cases h with
 | head=>exact .inr ⟨_,rfl⟩
 | tail _ h=>exact t.out x h⟩
instance (priority:=low) {v:AV} {vs:List AV} [h:PureC v] [t:OwnVs vs]:OwnVs (v::vs):=⟨fun x hx=>by
 cases hx with
 | head=>exact .inl h.out
 | tail _ hx=>exact t.out x hx⟩
theorem jg:∀ {es:List AV},(∀ a,a∈es->Pure a)->Pures es
 | [],_=>trivial
 | a::es,h=>⟨h a (.head _),jg fun b hb=>h b (.tail _ hb)⟩
section
variable {P:Program} {N n:Nat} {aw aw':List Ob} {l:List (Nat × AV)} {tt:TT}
def appC {α:Type}:List α->List α->(List α->Prop)->Prop
 | [],bs,K=>K bs
 | a::l,bs,K=>appC l bs fun l=>K (a::l)
theorem jt {α:Type}:∀ {l bs:List α} {K:List α->Prop},appC l bs K->K (l++bs)
 | [],_,_,h=>h
 | a::l,bs,K,h=>jt (l:=l) (K:=fun l=>K (a::l)) h
def nrm0C (aw:List Ob) (a:AV) (K:AV->List Ob->Prop):Prop :=
 match a with
 | .nils=>K (.sl []) aw
 | .ref id=>aM aw id fun o=>(match o with
  | .arr _ _ rows=>setC aw id .dead fun aw=>K (.sl rows) aw
  | _=>False)
 | a=>fA a fun a=>K a aw
theorem nZ {a:AV} {K:AV->List Ob->Prop} (h:nrm0C aw a K):K (bh aw a).1 (bh aw a).2:=by
 cases a with
 | nils=>exact h
 | ref id =>
  obtain ⟨o,h1,h⟩:=aI h;split at h
  ·have:=fy h;simpa only [bh,h1] using this
  ·exact h.elim
 | _=>exact h
def nrm0LC:List AV->List Ob->(List AV->List Ob->Prop)->Prop
 | [],aw,K=>K [] aw
 | a::es,aw,K=>nrm0C aw a fun a aw=>nrm0LC es aw fun es aw=>K (a::es) aw
theorem nf:∀ {es:List AV} {aw:List Ob} {K:List AV->List Ob->Prop},nrm0LC es aw K->K (norm0L aw es).1 (norm0L aw es).2
 | [],aw,K,h=>h
 | a::es,aw,K,h=>nf (es:=es) (K:=fun es aw=>K (_::es) aw) (nZ h)
def nrmC (aw:List Ob) (a:AV) (K:AV->List Ob->Prop):Prop :=
 match a with
 | .agg cs=>nrm0LC cs aw fun cs aw=>K (.agg cs) aw
 | a=>nrm0C aw a K
theorem kW {a:AV} {K:AV->List Ob->Prop} (h:nrmC aw a K):K (norm aw a).1 (norm aw a).2:=by
 cases a with
 | agg cs=>exact nf (K:=fun cs aw=>K (.agg cs) aw) h
 | _=>exact nZ h
def nrmLC:List AV->List Ob->(List AV->List Ob->Prop)->Prop
 | [],aw,K=>K [] aw
 | a::es,aw,K=>nrmC aw a fun a aw=>nrmLC es aw fun es aw=>K (a::es) aw
theorem n5:∀ {es:List AV} {aw:List Ob} {K:List AV->List Ob->Prop},nrmLC es aw K->K (bi aw es).1 (bi aw es).2
 | [],aw,K,h=>h
 | a::es,aw,K,h=>n5 (es:=es) (K:=fun es aw=>K (_::es) aw) (kW h)
def nrmRC (aw:List Ob) (a:AV) (K:AV->List Ob->Prop):Prop :=
 match a with
 | .tup vs=>nrmLC vs aw fun vs aw=>K (.tup vs) aw
 | a=>nrmC aw a K
theorem od {a:AV} {K:AV->List Ob->Prop} (h:nrmRC aw a K):K (cR aw a).1 (cR aw a).2:=by
 cases a with
 | tup vs=>exact n5 (K:=fun vs aw=>K (.tup vs) aw) h
 | _=>exact kW h
def argC (n:Nat) (l:List (Nat × AV)):List Operand->List Ob->(List AV->List Ob->Prop)->Prop
 | [],aw,K=>K [] aw
 | x::xs,aw,K=>nrmC aw (evA n l x) fun a aw=>argC n l xs aw fun es aw=>K (a::es) aw
theorem oz:∀ {xs:List Operand} {aw:List Ob} {K:List AV->List Ob->Prop},argC n l xs aw K->K (bi aw (xs.map (evA n l))).1 (bi aw (xs.map (evA n l))).2
 | [],aw,K,h=>h
 | x::xs,aw,K,h=>oz (xs:=xs) (K:=fun es aw=>K (_::es) aw) (kW h)
def calC (n:Nat) (l:List (Nat × AV)) (aw:List Ob) (f:Operand) (args:List Operand) (g:Nat) (es:List AV) (K:List Ob->Prop):Prop :=
 match evA n l f with
 | .func g' caps=>(match Nat.beq g' g with
  | true=>argC n l args aw fun es' aw'=>es'++caps=es/\K aw'
  | false=>False)
 | _=>False
section
variable {d:Option Tmp} {ty:TypeId} {ps:String} {af:Array Edge} {gd:Option (Nat × Bool)} {K2:AV→List Ob→Prop} {f:Operand} {args:Array Operand} {ts:Array TypeId} {g:FuncId} {es:List AV} {v:AV} {obs:List Ob}
theorem kv {K:List Ob->Prop} (h:calC n l aw f args.toList g es K) (hk:∀ aw1,K aw1->CallK P g es aw aw1 K2):OP P N ⟨d,.call ⟨.value f,args,ts⟩,ty,ps,af,gd⟩ (mkA n l) aw K2:=by
 unfold calC at h;split at h
 ·rename_i g' caps hf;split at h
  ·rename_i hb;have:=yz hb;subst this;obtain ⟨h1,h2⟩:=oz h;exact vF hf rfl rfl (by rw [h1];exact hk _ h2)
  ·exact h.elim
 ·exact h.elim
theorem cD (hc:Fn P g es v) (h:calC n l aw f args.toList g es fun aw1=>K2 v aw1) [hp:PureCs es] [hv:PureC v]:OP P N ⟨d,.call ⟨.value f,args,ts⟩,ty,ps,af,gd⟩ (mkA n l) aw K2 :=
 kv h fun aw1 hK=>k_fn hc (jg hp.out) hv.out hK
theorem cF (hc:Fn P g es v) (h:calC n l aw f args.toList g es fun _=>K2 v aw) [hp:PureCs es] (hv:flat v=true:=by rfl):OP P N ⟨d,.call ⟨.value f,args,ts⟩,ty,ps,af,gd⟩ (mkA n l) aw K2 :=
 kv h fun aw1 hK=>vD hc (jg hp.out) hv hK
theorem cO (c:Nat) (hc:FnO P g es v obs) (h:calC n l aw f args.toList g es fun _=>fA (v.shift c) fun v=>appC aw obs fun aw=>K2 v aw) [hp:PureCs es] [ho:FlatObs obs] (hv:flatR v=true:=by rfl) (hl:aw.length=c:=by rfl) :
  OP P N ⟨d,.call ⟨.value f,args,ts⟩,ty,ps,af,gd⟩ (mkA n l) aw K2 :=
 kv h fun aw1 hK=>by subst hl;exact k_own hc (jg hp.out) hv ho.out (jt (cu (K:=fun v=>appC aw obs fun aw=>K2 v aw) hK))
end
theorem ld_ex {t:Nat} {i:TI} {row:List AV} {off:Nat} {K:AV->Prop} (ht:TOk P t i) (h:wLd i row off K):∃ v,K v/\∀ K':AV->Prop,K' v->aL P t row off K':=by
 have kA:∀ {m:Nat},aF P t=some true->P.cellsOf t=m->(aggC row off m fun cs=>K (.agg cs))->∃ v,K v/\∀ K':AV->Prop,K' v->aL P t row off K':=fun {m} hk hm h=>by obtain ⟨h1,h2⟩:=oY h;refine ⟨_,h2,fun K' hK'=>?_⟩;simp only [aL,hk,hm];exact ⟨h1,hK'⟩
 have k1:aF P t=some false->(aM row off fun c=>fA c K)->∃ v,K v/\∀ K':AV->Prop,K' v->aL P t row off K':=fun hk h=>by obtain ⟨c,h1,h2⟩:=aI h;exact ⟨c,cu h2,fun K' hK'=>aH hk h1 hK'⟩
 cases i with
 | no=>exact h.elim
 | ag z m fs=>exact kA ht.1.1 ht.1.2.1 h
 | ar z m=>exact kA ht.1 ht.2.1 h
 | s0=>exact k1 ht.1 h
 | _=>exact k1 ht.1.1 h
def resC (tt:TT) (n:Nat) (l:List (Nat × AV)) (aw:List Ob):List ResultVar->(List AV->Prop)->Prop
 | [],K=>K []
 | .tmp t::rs,K=>fA (evA n l (.tmp t)) fun v=>resC tt n l aw rs fun vs=>K (v::vs)
 | .cell a t::rs,K=>(match evA n l (.tmp a) with
  | .ptr id off=>aM aw id fun o=>(match o with
   | .box cs=>wLd (tt.get t) cs off fun v=>resC tt n l aw rs fun vs=>K (v::vs)
   | _=>False)
  | _=>False)
theorem hO (ht:tt.Ok P):∀ {rs:List ResultVar} {K K':List AV->Prop},(∀ vs,K vs->K' vs)->resC tt n l aw rs K->aG P (mkA n l) aw rs K'
 | [],K,K',hm,h=>tC (hm _ h)
 | .tmp t::rs,K,K',hm,h=>ua rfl (hO ht (K:=fun vs=>K (_::vs)) (fun vs hv=>hm _ hv) (cu h))
 | .cell a t::rs,K,K',hm,h=>by
  unfold resC at h;split at h
  ·rename_i h1;obtain ⟨o,h2,h⟩:=aI h;split at h
   ·obtain ⟨v,h3,h4⟩:=ld_ex (TT.get_ok ht t) h;exact r7 h1 h2 h4 (hO ht (K:=fun vs=>K (v::vs)) (fun vs hv=>hm _ hv) h3)
   ·exact h.elim
  ·exact h.elim
theorem rD_c (ht:tt.Ok P) {rs:List ResultVar} {V:AV} (h:resC tt n l aw rs fun vs=>nrmRC aw (bd vs) fun v _=>v=V) [hV:PureC V]:aG P (mkA n l) aw rs (Ret 0 (fun r aw'=>r=V/\aw'=[]) aw):=by refine hO ht (fun vs hv=>?_) h;have h1:=od hv;exact tz (v:=V) (aw1:=(cR aw (bd vs)).2) (by rw [<- h1]) hV.out ⟨rfl,rfl⟩
theorem T.rD (ht:tt.Ok P) {Q:Exit->List AV->List Ob->Prop} {rs:List ResultVar} {V:AV} (h:resC tt n l aw rs fun vs=>nrmRC aw (bd vs) fun v _=>v=V)
  [hq:RetI Q (fun fr aw=>aG P fr aw rs (Ret 0 (fun r aw'=>r=V/\aw'=[]) aw))] [hV:PureC V]:T P N .ret Q (mkA n l) aw :=
 T.rt (R:=fun fr aw=>aG P fr aw rs (Ret 0 (fun r aw'=>r=V/\aw'=[]) aw)) (rD_c ht h)
def gA:Nat->AV->Prop
 | k,a=>match a with
  | .sl rows=>Pure (.sl rows)
  | .elt row off=>Pure (.elt row off)
  | .cst _ | .vw _ _ _ _ _ | .ref2 _ | .aptr2 _ _ | .ifc _ _=>False
  | .agg cs=>(match k with
   | 0=>False
   | k+1=>∀ c,c∈cs->gA k c)
  | .tup cs=>(match k with
   | 0=>False
   | k+1=>∀ c,c∈cs->gA k c)
  | .func _ cs=>(match k with
   | 0=>False
   | k+1=>∀ c,c∈cs->gA k c)
  | .bnd _ cs=>(match k with
   | 0=>False
   | k+1=>∀ c,c∈cs->gA k c)
  | _=>True
class GoodA (k:Nat) (a:AV):Prop where
 out:gA k a
class GoodAs (k:Nat) (es:List AV):Prop where
 out:∀ a,a∈es->gA k a
section
variable {k:Nat}
instance:GoodA k .any:=⟨by unfold gA;trivial⟩
instance {q:IntKind} {x:Int}:GoodA k (.int q x):=⟨by unfold gA;trivial⟩
instance {b:Bool}:GoodA k (.bool b):=⟨by unfold gA;trivial⟩
instance {s:List UInt8}:GoodA k (.str s):=⟨by unfold gA;trivial⟩
instance:GoodA k .nils:=⟨by unfold gA;trivial⟩
instance:GoodA k .nilf:=⟨by unfold gA;trivial⟩
instance:GoodA k .nilp:=⟨by unfold gA;trivial⟩
instance:GoodA k .nili:=⟨by unfold gA;trivial⟩
instance {i:Nat}:GoodA k (.ref i):=⟨by unfold gA;trivial⟩
instance {i o:Nat}:GoodA k (.ptr i o):=⟨by unfold gA;trivial⟩
instance {i s j o:Nat}:GoodA k (.aptr i s j o):=⟨by unfold gA;trivial⟩
instance {i:Nat}:GoodA k (.mpr i):=⟨by unfold gA;trivial⟩
instance {i:Nat}:GoodA k (.np i):=⟨by unfold gA;trivial⟩
instance {i j:Nat}:GoodA k (.iref i j):=⟨by unfold gA;trivial⟩
instance {α:Type} {en:α->List AV} {xs:List α} [h:EnP en]:GoodA k (.sl (xs.map en)):=⟨by unfold gA;exact aW h.out _⟩
instance {α:Type} {en:α->List AV} {a:α} {off:Nat} [h:EnP en]:GoodA k (.elt (en a) off):=⟨by unfold gA;exact ow _ _ (h.out a)⟩
instance:GoodAs k []:=⟨fun a h=>by cases h⟩
instance {a:AV} {es:List AV} [h:GoodA k a] [t:GoodAs k es]:GoodAs k (a::es):=⟨fun b hb=>by
 cases hb with
 | head=>exact h.out
 | tail _ hb=>exact t.out b hb⟩
instance {es:List AV} [h:GoodAs k es]:GoodA (k+1) (.agg es):=⟨by unfold gA;exact h.out⟩
instance {es:List AV} [h:GoodAs k es]:GoodA (k+1) (.tup es):=⟨by unfold gA;exact h.out⟩
instance {f:FuncId} {es:List AV} [h:GoodAs k es]:GoodA (k+1) (.func f es):=⟨by unfold gA;exact h.out⟩
instance {f:FuncId} {es:List AV} [h:GoodAs k es]:GoodA (k+1) (.bnd f es):=⟨by unfold gA;exact h.out⟩
instance (a:Item):GoodAs k (cA a):=by unfold cA;infer_instance
instance (a:Node):GoodAs k (ae a):=by unfold ae;infer_instance
instance (a:Net):GoodAs k (am a):=by unfold am;infer_instance
instance (a:Keyed):GoodAs k (eL a):=by unfold eL;infer_instance
instance (a:Memory):GoodAs k (eF a):=by unfold eF;infer_instance
instance (a:Choice):GoodAs k (dJ a):=by unfold dJ;infer_instance
instance (a:State):GoodAs k (f8 a):=by unfold f8;infer_instance
instance (a:Move):GoodAs k (fx a):=by unfold fx;infer_instance
instance (a:Write):GoodAs k (dM a):=by unfold dM;infer_instance
instance (a:Disk):GoodAs k (gc a):=by unfold gc;infer_instance
instance (a:Shop):GoodAs k (gh a):=by unfold gh;infer_instance
instance (a:Happening):GoodAs k (fd a):=by unfold fd;infer_instance
instance (a:Ends):GoodAs k (al a):=by unfold al;infer_instance
end
theorem om {ρ:List Nat} {k id i:Nat} (h:ρ[k]?=some id):Ren ρ (.iref k i) (.iref id i):=fun σ w F v hr σ' hσ=>by
 cases hr with
 | iref _ _ a n c vs hg h0=>exact .iref k i a n c vs (by rw [hσ k id h];exact hg) h0
theorem iQ:Pure .nilp:=fun σ w F v hr σ'=>by cases hr;exact .nilp
theorem iW:Pure .nili:=fun σ w F v hr σ'=>by cases hr;exact .nili
def mpC (f:AV->AV->(AV->Prop)->Prop):List AV->List AV->(List AV->Prop)->Prop
 | [],_,K=>K []
 | a'::es',es,K=>(match es with
  | []=>False
  | a::es=>f a' a fun b=>mpC f es' es fun bs=>K (b::bs))
def mpA (ρ:List Nat):Nat->AV->AV->(AV->Prop)->Prop
 | k,a',a,K=>match a' with
  | .any=>K a
  | .ref i=>aM ρ i fun i=>K (.ref i)
  | .ptr i o=>aM ρ i fun i=>K (.ptr i o)
  | .aptr i s j o=>aM ρ i fun i=>K (.aptr i s j o)
  | .mpr i=>aM ρ i fun i=>K (.mpr i)
  | .np i=>aM ρ i fun i=>K (.np i)
  | .iref i j=>aM ρ i fun i=>K (.iref i j)
  | .agg cs=>(match k with
   | 0=>False
   | k+1=>(match a with
    | .agg ds=>mpC (mpA ρ k) cs ds fun cs=>K (.agg cs)
    | _=>False))
  | .tup cs=>(match k with
   | 0=>False
   | k+1=>(match a with
    | .tup ds=>mpC (mpA ρ k) cs ds fun cs=>K (.tup cs)
    | _=>False))
  | .func f cs=>(match k with
   | 0=>False
   | k+1=>(match a with
    | .func _ ds=>mpC (mpA ρ k) cs ds fun cs=>K (.func f cs)
    | _=>False))
  | .bnd f cs=>(match k with
   | 0=>False
   | k+1=>(match a with
    | .bnd _ ds=>mpC (mpA ρ k) cs ds fun cs=>K (.bnd f cs)
    | _=>False))
  | a'=>fA a' K
theorem dP {ρ:List Nat} {k:Nat} (ih:∀ {a' a:AV} {K:AV->Prop},mpA ρ k a' a K->∃ b,K b/\(gA k a'->b=a->Ren ρ a' a)):∀ {es' es:List AV} {K:List AV->Prop},mpC (mpA ρ k) es' es K ->
  ∃ bs,K bs/\((∀ a,a∈es'->gA k a)->bs=es->be ρ es' es)
 | [],es,K,h=>⟨[],h,fun _ e=>by subst e;trivial⟩
 | a'::es',[],K,h=>h.elim
 | a'::es',a::es,K,h=>by
  obtain ⟨b,h1,h2⟩:=ih h;obtain ⟨bs,h3,h4⟩:=dP ih h1;refine ⟨b::bs,h3,fun hg e=>?_⟩;injection e with e1 e2
  exact ⟨h2 (hg _ (.head _)) e1,h4 (fun x hx=>hg x (.tail _ hx)) e2⟩
theorem fE {ρ:List Nat}:∀ {k:Nat} {a' a:AV} {K:AV->Prop},mpA ρ k a' a K->∃ b,K b/\(gA k a'->b=a->Ren ρ a' a):=by
 intro k;induction k with
 | zero =>
  intro a' a K h;cases a' with
  | any=>exact ⟨a,h,fun _ _=>pF⟩
  | ref i=>obtain ⟨j,h1,h2⟩:=aI h;exact ⟨_,h2,fun _ e=>by subst e;exact dy h1⟩
  | ptr i o=>obtain ⟨j,h1,h2⟩:=aI h;exact ⟨_,h2,fun _ e=>by subst e;exact cL h1⟩
  | aptr i s j o=>obtain ⟨j,h1,h2⟩:=aI h;exact ⟨_,h2,fun _ e=>by subst e;exact oL h1 rfl⟩
  | mpr i=>obtain ⟨j,h1,h2⟩:=aI h;exact ⟨_,h2,fun _ e=>by subst e;exact pr h1⟩
  | np i=>obtain ⟨j,h1,h2⟩:=aI h;exact ⟨_,h2,fun _ e=>by subst e;exact rn_np h1⟩
  | iref i j=>obtain ⟨j,h1,h2⟩:=aI h;exact ⟨_,h2,fun _ e=>by subst e;exact om h1⟩
  | agg cs=>exact h.elim
  | tup cs=>exact h.elim
  | func f cs=>exact h.elim
  | bnd f cs=>exact h.elim
  | int q x=>exact ⟨_,h,fun _ e=>by subst e;exact bE (au _ _)⟩
  | bool b=>exact ⟨_,h,fun _ e=>by subst e;exact bE (dI _)⟩
  | str s=>exact ⟨_,h,fun _ e=>by subst e;exact bE (eK _)⟩
  | nils=>exact ⟨_,h,fun _ e=>by subst e;exact bE gX⟩
  | nilf=>exact ⟨_,h,fun _ e=>by subst e;exact bE gY⟩
  | nilp=>exact ⟨_,h,fun _ e=>by subst e;exact bE iQ⟩
  | nili=>exact ⟨_,h,fun _ e=>by subst e;exact bE iW⟩
  | sl rows=>exact ⟨_,h,fun g e=>by subst e;exact bE (by unfold gA at g;exact g)⟩
  | elt row off=>exact ⟨_,h,fun g e=>by subst e;exact bE (by unfold gA at g;exact g)⟩
  | cst v=>exact ⟨_,h,fun g e=>by unfold gA at g;exact g.elim⟩
  | vw a1 a2 a3 a4 a5=>exact ⟨_,h,fun g e=>by unfold gA at g;exact g.elim⟩
  | ref2 i=>exact ⟨_,h,fun g e=>by unfold gA at g;exact g.elim⟩
  | aptr2 i j=>exact ⟨_,h,fun g e=>by unfold gA at g;exact g.elim⟩
  | ifc t a1=>exact ⟨_,h,fun g e=>by unfold gA at g;exact g.elim⟩
 | succ k ih =>
  intro a' a K h;cases a' with
  | any=>exact ⟨a,h,fun _ _=>pF⟩
  | ref i=>obtain ⟨j,h1,h2⟩:=aI h;exact ⟨_,h2,fun _ e=>by subst e;exact dy h1⟩
  | ptr i o=>obtain ⟨j,h1,h2⟩:=aI h;exact ⟨_,h2,fun _ e=>by subst e;exact cL h1⟩
  | aptr i s j o=>obtain ⟨j,h1,h2⟩:=aI h;exact ⟨_,h2,fun _ e=>by subst e;exact oL h1 rfl⟩
  | mpr i=>obtain ⟨j,h1,h2⟩:=aI h;exact ⟨_,h2,fun _ e=>by subst e;exact pr h1⟩
  | np i=>obtain ⟨j,h1,h2⟩:=aI h;exact ⟨_,h2,fun _ e=>by subst e;exact rn_np h1⟩
  | iref i j=>obtain ⟨j,h1,h2⟩:=aI h;exact ⟨_,h2,fun _ e=>by subst e;exact om h1⟩
  | agg cs =>
   cases a with
   | agg ds =>
    obtain ⟨bs,h1,h2⟩:=dP (ρ:=ρ) ih h;exact ⟨_,h1,fun g e=>by injection e with e;exact vv (h2 (by unfold gA at g;exact g) e)⟩
   | _=>exact h.elim
  | tup cs =>
   cases a with
   | tup ds =>
    obtain ⟨bs,h1,h2⟩:=dP (ρ:=ρ) ih h;exact ⟨_,h1,fun g e=>by injection e with e;exact vP (h2 (by unfold gA at g;exact g) e)⟩
   | _=>exact h.elim
  | func f cs =>
   cases a with
   | func f' ds =>
    obtain ⟨bs,h1,h2⟩:=dP (ρ:=ρ) ih h;exact ⟨_,h1,fun g e=>by injection e with e0 e;subst e0;exact uW (h2 (by unfold gA at g;exact g) e)⟩
   | _=>exact h.elim
  | bnd f cs =>
   cases a with
   | bnd f' ds =>
    obtain ⟨bs,h1,h2⟩:=dP (ρ:=ρ) ih h;exact ⟨_,h1,fun g e=>by injection e with e0 e;subst e0;exact vJ (h2 (by unfold gA at g;exact g) e)⟩
   | _=>exact h.elim
  | int q x=>exact ⟨_,h,fun _ e=>by subst e;exact bE (au _ _)⟩
  | bool b=>exact ⟨_,h,fun _ e=>by subst e;exact bE (dI _)⟩
  | str s=>exact ⟨_,h,fun _ e=>by subst e;exact bE (eK _)⟩
  | nils=>exact ⟨_,h,fun _ e=>by subst e;exact bE gX⟩
  | nilf=>exact ⟨_,h,fun _ e=>by subst e;exact bE gY⟩
  | nilp=>exact ⟨_,h,fun _ e=>by subst e;exact bE iQ⟩
  | nili=>exact ⟨_,h,fun _ e=>by subst e;exact bE iW⟩
  | sl rows=>exact ⟨_,h,fun g e=>by subst e;exact bE (by unfold gA at g;exact g)⟩
  | elt row off=>exact ⟨_,h,fun g e=>by subst e;exact bE (by unfold gA at g;exact g)⟩
  | cst v=>exact ⟨_,h,fun g e=>by unfold gA at g;exact g.elim⟩
  | vw a1 a2 a3 a4 a5=>exact ⟨_,h,fun g e=>by unfold gA at g;exact g.elim⟩
  | ref2 i=>exact ⟨_,h,fun g e=>by unfold gA at g;exact g.elim⟩
  | aptr2 i j=>exact ⟨_,h,fun g e=>by unfold gA at g;exact g.elim⟩
  | ifc t a1=>exact ⟨_,h,fun g e=>by unfold gA at g;exact g.elim⟩
def gO:Ob->Prop
 | .dead=>True
 | .box cs=>∀ c,c∈cs->gA 3 c
 | .arr _ _ rows=>∀ row,row∈rows->∀ x,x∈row->Pure x
 | .mp ks vs=>∀ c,c∈ks++vs->Pure c
 | .hd _ _=>True
 | .cl _ _ cells=>∀ rows,(Cell.own rows∈cells∨Cell.fz rows∈cells)->∀ row,row∈rows->∀ x,x∈row->Pure x
 | .boxB _ cs=>∀ c,c∈cs->gA 3 c
 | _=>False
class PureK {α:Type} (k:α->AV):Prop where
 out:∀ a,Pure (k a)
instance:PureK kI:=⟨fun _=>au _ _⟩
instance:PureK kS:=⟨fun _=>eK _⟩
instance:PureK kB:=⟨fun _=>dI _⟩
instance:PureK kU:=⟨fun _=>nR _ (ba (ls:=[]) trivial)⟩
class GoodO (o:Ob):Prop where
 out:gO o
class GoodOs (os:List Ob):Prop where
 out:∀ o,o∈os->gO o
instance:GoodO .dead:=⟨trivial⟩
instance {cs:List AV} [h:GoodAs 3 cs]:GoodO (.box cs):=⟨h.out⟩
instance {α:Type} {en:α->List AV} {xs:List α} {e s:Nat} [h:EnP en]:GoodO (.arr e s (xs.map en)):=⟨fun row hr x hx=>by obtain ⟨a,_,rfl⟩:=yb.1 hr;exact h.out a x hx⟩
instance {e s:Nat}:GoodO (.arr e s []):=⟨fun row hr=>by cases hr⟩
instance {e k:Nat}:GoodO (.hd e k):=⟨trivial⟩
instance {t:TypeId} {cs:List AV} [h:GoodAs 3 cs]:GoodO (.boxB t cs):=⟨h.out⟩
instance {α β:Type} {k:α->AV} {k':β->AV} {xs:List α} {ys:List β} [h:PureK k] [h':PureK k']:GoodO (.mp (xs.map k) (ys.map k')):=⟨fun c hc=>by
 rcases yw.1 hc with hc | hc<;>obtain ⟨a,_,rfl⟩:=yb.1 hc
 ·exact h.out a
 ·exact h'.out a⟩
instance:GoodOs []:=⟨fun o h=>by cases h⟩
instance {o:Ob} {os:List Ob} [h:GoodO o] [t:GoodOs os]:GoodOs (o::os):=⟨fun b hb=>by
 cases hb with
 | head=>exact h.out
 | tail _ hb=>exact t.out b hb⟩
instance {zs bs:List Ob} [h:GoodOs zs] [t:GoodOs bs]:GoodOs (zs++bs):=⟨fun o ho=>(yw.1 ho).elim (h.out o) (t.out o)⟩
instance {zs:List Ob} {i:Nat} {o:Ob} [h:GoodOs zs] [t:GoodO o]:GoodOs (zs.set i o):=⟨fun b hb=>(zd hb).elim (h.out b) (fun e=>by rw [e];exact t.out)⟩
def mpO (ρ:List Nat) (o' o:Ob) (K:Ob->Prop):Prop :=
 match o' with
 | .dead=>K o
 | .box cs=>(match o with
  | .box ds=>mpC (mpA ρ 3) cs ds fun cs=>K (.box cs)
  | _=>False)
 | .hd e k=>aM ρ k fun k=>K (.hd e k)
 | .arr e s rows=>K (.arr e s rows)
 | .mp ks vs=>K (.mp ks vs)
 | .cl e s cells=>K (.cl e s cells)
 | .boxB t cs=>(match o with
  | .boxB _ ds=>mpC (mpA ρ 3) cs ds fun cs=>K (.boxB t cs)
  | _=>False)
 | _=>False
def mpOs (ρ:List Nat) (aw:List Ob):List Nat->List Ob->(List Ob->List Ob->Prop)->Prop
 | [],[],K=>K [] []
 | id::ids,o'::os',K=>aM aw id fun o=>mpO ρ o' o fun b=>mpOs ρ aw ids os' fun bs os=>K (b::bs) (o::os)
 | _,_,_=>False
theorem vr {ρ:List Nat} {o' o:Ob} {K:Ob->Prop} (h:mpO ρ o' o K):∃ b,K b/\(gO o'->b=o->RenO ρ o' o):=by
 cases o' with
 | dead=>exact ⟨o,h,fun _ _=>trivial⟩
 | box cs =>
  cases o with
  | box ds =>
   obtain ⟨bs,h1,h2⟩:=dP (ρ:=ρ) fE h;exact ⟨_,h1,fun g e=>by injection e with e;exact h2 g e⟩
  | _=>exact h.elim
 | hd e k =>
  obtain ⟨j,h1,h2⟩:=aI h;exact ⟨_,h2,fun _ e=>by subst e;exact ⟨rfl,h1⟩⟩
 | arr e s rows=>exact ⟨_,h,fun g e=>by subst e;exact ⟨rfl,rfl,rfl,fun row hr x hx=>dv (g row hr x hx)⟩⟩
 | mp ks vs=>exact ⟨_,h,fun g e=>by subst e;exact ⟨iY fun c hc=>g c (List.mem_append_left _ hc),iY fun c hc=>g c (List.mem_append_right _ hc)⟩⟩
 | cl e s cells=>exact ⟨_,h,fun g e=>by subst e;exact ⟨rfl,rfl,rfl,g⟩⟩
 | arrU e s rows x=>exact h.elim
 | boxB t cs =>
  cases o with
  | boxB t' ds =>
   obtain ⟨bs,h1,h2⟩:=dP (ρ:=ρ) fE h;exact ⟨_,h1,fun g e=>by injection e with e0 e;exact ⟨e0,h2 g e⟩⟩
  | _=>exact h.elim
theorem gj {ρ:List Nat}:∀ {ids:List Nat} {os':List Ob} {K:List Ob->List Ob->Prop},mpOs ρ aw ids os' K->∃ bs os,K bs os/\((∀ o,o∈os'->gO o)->bs=os->aO ρ aw ids os')
 | [],[],K,h=>⟨[],[],h,fun _ _=>trivial⟩
 | id::ids,o'::os',K,h=>by
  obtain ⟨o,h1,h⟩:=aI h;obtain ⟨b,h2,h3⟩:=vr h;obtain ⟨bs,os,h4,h5⟩:=gj h2;refine ⟨b::bs,o::os,h4,fun hg e=>?_⟩;injection e with e1 e2
  exact ⟨⟨o,h1,h3 (hg _ (.head _)) e1⟩,h5 (fun x hx=>hg x (.tail _ hx)) e2⟩
 | [],_::_,K,h=>h.elim
 | _::_,[],K,h=>h.elim
def mpF (ρ:List Nat):List (Nat × AV)->List (Nat × AV)->(List AV->List AV->Prop)->Prop
 | [],_,K=>K [] []
 | (s,v)::r,l,K=>fA (lkA l s) fun a=>mpA ρ 3 v a fun b=>mpF ρ r l fun bs es=>K (b::bs) (a::es)
class GoodF (l:List (Nat × AV)):Prop where
 out:∀ s v,(s,v)∈l->gA 3 v
instance:GoodF []:=⟨fun s v h=>by cases h⟩
instance {s:Nat} {v:AV} {r:List (Nat × AV)} [h:GoodA 3 v] [t:GoodF r]:GoodF ((s,v)::r):=⟨fun s' v' hb=>by
 cases hb with
 | head=>exact h.out
 | tail _ hb=>exact t.out s' v' hb⟩
theorem pJ {ρ:List Nat}:∀ {l' l:List (Nat × AV)} {K:List AV->List AV->Prop},mpF ρ l' l K->∃ bs es,K bs es/\((∀ s v,(s,v)∈l'->gA 3 v)->bs=es->RenA ρ l' l)
 | [],l,K,h=>⟨[],[],h,fun _ _=>trivial⟩
 | (s,v)::r,l,K,h=>by
  have h:=cu (a:=lkA l s) (K:=fun a=>mpA ρ 3 v a fun b=>mpF ρ r l fun bs es=>K (b::bs) (a::es)) h;obtain ⟨b,h1,h2⟩:=fE h;obtain ⟨bs,es,h3,h4⟩:=pJ h1;refine ⟨b::bs,lkA l s::es,h3,fun hg e=>?_⟩;injection e with e1 e2
  exact ⟨h2 (hg _ _ (.head _)) e1,h4 (fun s v hv=>hg s v (.tail _ hv)) e2⟩
def nilC:List (Nat × TypeId × Nat)->List (Nat × AV)->List Ob->Nat->(List (Nat × AV)->List Ob->Prop)->Prop
 | [],l,aw,_,K=>K l aw
 | (s,e,z)::r,l,aw,c,K=>(match lkA l s with
  | .nils=>pushC aw (.arr e z []) fun aw=>nilC r ((s,.ref c)::l) aw (c+1) K
  | _=>False)
theorem oW:∀ {nl:List (Nat × TypeId × Nat)} {l:List (Nat × AV)} {aw:List Ob} {c:Nat} {K:List (Nat × AV)->List Ob->Prop},aw.length=c->(nl.all fun p=>Nat.blt p.1 n)=true->nilC nl l aw c K->K (nilA n nl l aw).1 (nilA n nl l aw).2
 | [],l,aw,c,K,_,_,h=>h
 | (s,e,z)::r,l,aw,c,K,hc,hn,h=>by
  subst hc;unfold nilC at h;rw [zk,yG] at hn;split at h
  ·rename_i hv;have h:=oW (nl:=r) (by simp) hn.2 (f9 h);unfold nilA;simp only [hn.1,hv];exact h
  ·exact h.elim
theorem wk (nl:List (Nat × TypeId × Nat)) (ρ:List Nat) (c:Nat) {l':List (Nat × AV)} (h:nilC nl l aw c fun l aw=>mpF ρ l' l fun bs es=>mpOs ρ aw ρ aw' fun bs' es'=>(bs,bs')=(es,es')) [g:GoodF l'] [g':GoodOs aw'] (hc:aw.length=c:=by rfl) (hn:(nl.all fun p=>Nat.blt p.1 n)=true:=by rfl)
  (h1:ρ.Nodup:=by decide) (h2:∀ k,k<N->ρ[k]?=some k:=by decide):Weak N (mkA n l) aw (mkA n l') aw':=by
 have h:=oW hc hn h
 obtain ⟨bs,es,h,h3⟩:=pJ h
 obtain ⟨bs',es',h,h4⟩:=gj h
 injection h with e1 e2
 exact Weak.mkN nl ρ h1 h2 rfl (h3 g.out e1) (h4 g'.out e2)
def nilVC:List (Nat × TypeId × Nat)->List AV->List Ob->Nat->(List AV->List Ob->Prop)->Prop
 | [],vs,aw,_,K=>K vs aw
 | (s,e,z)::r,vs,aw,c,K=>aM vs s fun v=>(match v with
  | .nils=>setC vs s (.ref c) fun vs=>pushC aw (.arr e z []) fun aw=>nilVC r vs aw (c+1) K
  | _=>False)
theorem nX:∀ {nl:List (Nat × TypeId × Nat)} {vs:List AV} {aw:List Ob} {c:Nat} {K:List AV->List Ob->Prop},aw.length=c->nilVC nl vs aw c K->K (nilify nl vs aw).1 (nilify nl vs aw).2
 | [],vs,aw,c,K,_,h=>h
 | (s,e,z)::r,vs,aw,c,K,hc,h=>by
  subst hc;obtain ⟨v,h1,h⟩:=aI h;split at h
  ·have h:=nX (nl:=r) (by simp) (f9 (fy h));unfold nilify;simp only [h1];exact h
  ·exact h.elim
section
variable {Q:Exit→List AV→List Ob→Prop} {rs:List ResultVar} {V:AV} {obs:List Ob} {M:Nat}
theorem rO_c (ht:tt.Ok P) (nl:List (Nat × TypeId × Nat)) (ρ:List Nat) (c:Nat)
  (h:resC tt n l aw rs fun vs=>nilVC nl vs aw c fun vs aw=>fA (bd vs) fun a=>mpA ρ 3 V a fun b=>mpOs ρ aw ρ obs fun bs es=>(b,bs)=(a,es))
  [g:GoodA 3 V] [g':GoodOs obs] (hc:aw.length=c) (h1:ρ.Nodup) (h2:∀ k,k<M->ρ[k]?=some k):aG P (mkA n l) aw rs (Ret M (fun r aw'=>r=V/\aw'=obs) aw):=by
 refine hO ht (fun vs hv=>?_) h
 have h:=nX hc hv
 have h:=cu (K:=fun a=>mpA ρ 3 V a fun b=>mpOs ρ (nilify nl vs aw).2 ρ obs fun bs es=>(b,bs)=(a,es)) h
 obtain ⟨b,h,h3⟩:=fE h
 obtain ⟨bs,es,h,h4⟩:=gj h
 injection h with e1 e2
 exact uJ V nl ρ h1 h2 rfl (h3 g.out e1) (h4 g'.out e2) ⟨rfl,rfl⟩
theorem T.rO (ht:tt.Ok P) (nl:List (Nat × TypeId × Nat)) (ρ:List Nat) (c:Nat)
  (h:resC tt n l aw rs fun vs=>nilVC nl vs aw c fun vs aw=>fA (bd vs) fun a=>mpA ρ 3 V a fun b=>mpOs ρ aw ρ obs fun bs es=>(b,bs)=(a,es))
  [hq:RetI Q (fun fr aw=>aG P fr aw rs (Ret M (fun r aw'=>r=V/\aw'=obs) aw))] [g:GoodA 3 V] [g':GoodOs obs] (hc:aw.length=c:=by rfl) (h1:ρ.Nodup:=by decide) (h2:∀ k,k<M->ρ[k]?=some k:=by decide):T P N .ret Q (mkA n l) aw :=
 T.rt (R:=fun fr aw=>aG P fr aw rs (Ret M (fun r aw'=>r=V/\aw'=obs) aw)) (rO_c ht nl ρ c h hc h1 h2)
theorem rN_c (ht:tt.Ok P) (ρ:List Nat) (h:resC tt n l aw rs fun vs=>nrmRC aw (bd vs) fun a aw=>mpA ρ 3 V a fun b=>mpOs ρ aw ρ obs fun bs es=>(b,bs)=(a,es))
  [g:GoodA 3 V] [g':GoodOs obs] (h1:ρ.Nodup) (h2:∀ k,k<M->ρ[k]?=some k):aG P (mkA n l) aw rs (Ret M (fun r aw'=>r=V/\aw'=obs) aw):=by
 refine hO ht (fun vs hv=>?_) h
 have h:=od hv
 obtain ⟨b,h,h3⟩:=fE h
 obtain ⟨bs,es,h,h4⟩:=gj h
 injection h with e1 e2
 exact tI V ρ rfl h1 h2 (h3 g.out e1) (h4 g'.out e2) ⟨rfl,rfl⟩
theorem T.rN (ht:tt.Ok P) (ρ:List Nat) (h:resC tt n l aw rs fun vs=>nrmRC aw (bd vs) fun a aw=>mpA ρ 3 V a fun b=>mpOs ρ aw ρ obs fun bs es=>(b,bs)=(a,es))
  [hq:RetI Q (fun fr aw=>aG P fr aw rs (Ret M (fun r aw'=>r=V/\aw'=obs) aw))] [g:GoodA 3 V] [g':GoodOs obs] (h1:ρ.Nodup:=by decide) (h2:∀ k,k<M->ρ[k]?=some k:=by decide):T P N .ret Q (mkA n l) aw :=
 T.rt (R:=fun fr aw=>aG P fr aw rs (Ret M (fun r aw'=>r=V/\aw'=obs) aw)) (rN_c ht ρ h h1 h2)
end
def stD (l:List (Nat × AV)) (d:Option Tmp) (r:AV) (K:List (Nat × AV)->Prop):Prop :=
 match d with
 | some t=>K ((t,r)::l)
 | none=>K l
theorem cq {d:Option Tmp} {r:AV} {K:List (Nat × AV)->Prop} (h:stD l d r K):K (br l d r):=by cases d<;>exact h
section
variable {ops:Array Oper} {os:List Oper} {K:List AV→List Ob→Prop} {k:Nat} {li li':Array Bool} {o:Oper} {fr fr':List AV}
theorem yg' (ht:tt.Ok P) (c:Nat) {j t:Nat} {want b:Bool} (hbw:b=want) (h:wE tt n l aw c o.op fun r aw _=>stD l o.dst r fun l=>RS P N ops os K (mkA n l) aw)
  (hg:o.guard=some (j,want)) (hj:(ops[j]?).bind (·.dst)=some t) (hb:evA n l (.tmp t)=.bool b) (hc:aw.length=c):RS P N ops (o::os) K (mkA n l) aw :=
 RS.yes hg hj hb hbw ((wE_ok ht hc h).mono fun r aw' h=>cq (K:=fun l=>RS P N ops os K (mkA n l) aw') h)
theorem oy' (ht:tt.Ok P) {i:Nat} (c:Nat) {j t:Nat} {want b:Bool} (hbw:b=want) (hi:ops[i]?=some o) (h:wE tt n l aw c o.op fun r aw _=>stD l o.dst r fun l=>K (mkA n l) aw)
  (hg:o.guard=some (j,want)) (hj:(ops[j]?).bind (·.dst)=some t) (hb:evA n l (.tmp t)=.bool b) (hc:aw.length=c):RO P N ops i K (mkA n l) aw :=
 RO.yes hi hg hj hb hbw ((wE_ok ht hc h).mono fun r aw' h=>cq (K:=fun l=>K (mkA n l) aw') h)
theorem ry' (ht:tt.Ok P) (i:Nat) {j t:Nat} {want b:Bool} (hbw:b=want) (hi:ops[i]?=some o) (h:wV tt n l aw o.op fun r=>stD l o.dst r fun l=>RA P N ops k (li.setIfInBounds i true) K (mkA n l) aw)
  (hs:Region.noSelect ops=true) (hf:Region.free .any ops li i=true) (hr:(Region.ready .any ops li).contains i=true)
  (hg:o.guard=some (j,want)) (hj:(ops[j]?).bind (·.dst)=some t) (hb:evA n l (.tmp t)=.bool b) (hn:eO o.op=true):RA P N ops (k+1) li K (mkA n l) aw :=
 ⟨fun st e1 e2 σ w F a hc R hR=>by obtain ⟨v,r,hrun,hrel,hk⟩:=g9 hc hn (wV_ok ht h);refine wpAny_take hi hs hf hr (fun c a w hp=>hp) (.inl ⟨by simp [Region.wanted,hg,ff hc hj hb,hbw],hrun⟩) (RA.out (cq (K:=fun l=>RA P N ops k (li.setIfInBounds i true) K (mkA n l) aw) hk) st e1 e2 σ w F _ ?_ R hR);have:=bw hc hrel o.dst;rwa [bD] at this⟩
open RK in
theorem rL' (ht:tt.Ok P) (D:List Nat) (i:Nat) (hi:ops[i]?=some o) (h:wV tt n l aw o.op fun r=>stD l o.dst r fun l=>RA P N ops k (li.setIfInBounds i true) K (mkA n l) aw)
  (hs:Region.noSelect ops=true) (hf:loadFree ops li D i=true) (hr:(Region.ready .any ops li).contains i=true) (hg:o.guard=none):RA P N ops (k+1) li K (mkA n l) aw :=
 ⟨fun st e1 e2 σ w F a hc R hR=>by obtain ⟨v,r,hrun,hrel,hk⟩:=sa hc (wV_ok ht h);refine qR D hi hs hf hr (fun c a w hp=>hp) (.inl ⟨by simp [Region.wanted,hg],hrun⟩) (RA.out (cq (K:=fun l=>RA P N ops k (li.setIfInBounds i true) K (mkA n l) aw) hk) st e1 e2 σ w F _ ?_ R hR);have:=bw hc hrel o.dst;rwa [bD] at this⟩
theorem sO (h:OP P N o (mkA n l) aw fun r aw=>stD l o.dst r fun l=>RS P N ops os K (mkA n l) aw) (hg:o.guard=none:=by rfl):RS P N ops (o::os) K (mkA n l) aw :=
 RS.op hg (h.mono fun r aw' h=>cq (K:=fun l=>RS P N ops os K (mkA n l) aw') h)
theorem sQ (h:vcQ P (mkA n l) aw o.op fun r=>stD l o.dst r fun l=>RS P N ops os K (mkA n l) aw) (hg:o.guard=none:=by rfl) (hq:fD o.op=true:=by rfl):RS P N ops (o::os) K (mkA n l) aw :=
 sO (OP.q (K2:=fun r aw=>stD l o.dst r fun l=>RS P N ops os K (mkA n l) aw) hq h) hg
theorem yO {j t:Nat} {want b:Bool} (hbw:b=want) (h:OP P N o (mkA n l) aw fun r aw=>stD l o.dst r fun l=>RS P N ops os K (mkA n l) aw) (hg:o.guard=some (j,want):=by rfl) (hj:(ops[j]?).bind (·.dst)=some t:=by rfl) (hb:evA n l (.tmp t)=.bool b:=by rfl) :
 RS P N ops (o::os) K (mkA n l) aw:=RS.yes hg hj hb hbw (h.mono fun r aw' h=>cq (K:=fun l=>RS P N ops os K (mkA n l) aw') h)
theorem yQ {j t:Nat} {want b:Bool} (hbw:b=want) (h:vcQ P (mkA n l) aw o.op fun r=>stD l o.dst r fun l=>RS P N ops os K (mkA n l) aw) (hg:o.guard=some (j,want):=by rfl) (hj:(ops[j]?).bind (·.dst)=some t:=by rfl) (hb:evA n l (.tmp t)=.bool b:=by rfl) (hq:fD o.op=true:=by rfl) :
 RS P N ops (o::os) K (mkA n l) aw:=yO hbw (OP.q (K2:=fun r aw=>stD l o.dst r fun l=>RS P N ops os K (mkA n l) aw) hq h) hg hj hb
theorem sN {j t:Nat} {want b:Bool} (hbw:b=!want) (h:stD l o.dst (.tup []) fun l=>RS P N ops os K (mkA n l) aw) (hg:o.guard=some (j,want):=by rfl) (hj:(ops[j]?).bind (·.dst)=some t:=by rfl) (hb:evA n l (.tmp t)=.bool b:=by rfl) :
 RS P N ops (o::os) K (mkA n l) aw:=RS.no hg hj hb hbw (cq (K:=fun l=>RS P N ops os K (mkA n l) aw) h)
theorem sU {j t:Nat} {want:Bool} (h:stD l o.dst (.tup []) fun l=>RS P N ops os K (mkA n l) aw) (hg:o.guard=some (j,want):=by rfl) (hj:(ops[j]?).bind (·.dst)=some t:=by rfl) (hb:evA n l (.tmp t)=.tup []:=by rfl) :
 RS P N ops (o::os) K (mkA n l) aw:=RS.nou hg hj hb (cq (K:=fun l=>RS P N ops os K (mkA n l) aw) h)
theorem oO {i:Nat} (hi:ops[i]?=some o) (h:OP P N o (mkA n l) aw fun r aw=>stD l o.dst r fun l=>K (mkA n l) aw) (hg:o.guard=none:=by rfl):RO P N ops i K (mkA n l) aw :=
 RO.op hi hg (h.mono fun r aw' h=>cq (K:=fun l=>K (mkA n l) aw') h)
theorem oP {i:Nat} (hi:ops[i]?=some o) {j t:Nat} {want b:Bool} (hbw:b=want) (h:OP P N o (mkA n l) aw fun r aw=>stD l o.dst r fun l=>K (mkA n l) aw) (hg:o.guard=some (j,want):=by rfl) (hj:(ops[j]?).bind (·.dst)=some t:=by rfl) (hb:evA n l (.tmp t)=.bool b:=by rfl):RO P N ops i K (mkA n l) aw :=
 RO.yes hi hg hj hb hbw (h.mono fun r aw' h=>cq (K:=fun l=>K (mkA n l) aw') h)
theorem r0 (i:Nat) (hi:ops[i]?=some o) (h:vcQ P (mkA n l) aw o.op fun r=>stD l o.dst r fun l=>RA P N ops k (li.setIfInBounds i true) K (mkA n l) aw) (hs:Region.noSelect ops=true:=by decide +kernel) (hf:Region.free .any ops li i=true:=by decide +kernel)
  (hr:(Region.ready .any ops li).contains i=true:=by decide +kernel) (hg:o.guard=none:=by rfl) (hn:eO o.op=true:=by rfl):RA P N ops (k+1) li K (mkA n l) aw :=
 ⟨fun st e1 e2 σ w F a hc R hR=>by obtain ⟨v,r,hrun,hrel,hk⟩:=g9 hc hn h;refine wpAny_take hi hs hf hr (fun c a w hp=>hp) (.inl ⟨by simp [Region.wanted,hg],hrun⟩) (RA.out (cq (K:=fun l=>RA P N ops k (li.setIfInBounds i true) K (mkA n l) aw) hk) st e1 e2 σ w F _ ?_ R hR);have:=bw hc hrel o.dst;rwa [bD] at this⟩
theorem r1 (i:Nat) (hi:ops[i]?=some o) {j t:Nat} {want b:Bool} (hbw:b=want) (h:vcQ P (mkA n l) aw o.op fun r=>stD l o.dst r fun l=>RA P N ops k (li.setIfInBounds i true) K (mkA n l) aw) (hs:Region.noSelect ops=true:=by decide +kernel) (hf:Region.free .any ops li i=true:=by decide +kernel)
  (hr:(Region.ready .any ops li).contains i=true:=by decide +kernel) (hg:o.guard=some (j,want):=by rfl) (hj:(ops[j]?).bind (·.dst)=some t:=by rfl) (hb:evA n l (.tmp t)=.bool b:=by rfl) (hn:eO o.op=true:=by rfl):RA P N ops (k+1) li K (mkA n l) aw :=
 ⟨fun st e1 e2 σ w F a hc R hR=>by obtain ⟨v,r,hrun,hrel,hk⟩:=g9 hc hn h;refine wpAny_take hi hs hf hr (fun c a w hp=>hp) (.inl ⟨by simp [Region.wanted,hg,ff hc hj hb,hbw],hrun⟩) (RA.out (cq (K:=fun l=>RA P N ops k (li.setIfInBounds i true) K (mkA n l) aw) hk) st e1 e2 σ w F _ ?_ R hR);have:=bw hc hrel o.dst;rwa [bD] at this⟩
theorem r2 (i:Nat) (hi:ops[i]?=some o) {j t:Nat} {want b:Bool} (hbw:b=!want) (h:stD l o.dst (.tup []) fun l=>RA P N ops k (li.setIfInBounds i true) K (mkA n l) aw) (hs:Region.noSelect ops=true:=by decide +kernel) (hf:Region.free .any ops li i=true:=by decide +kernel)
  (hr:(Region.ready .any ops li).contains i=true:=by decide +kernel) (hg:o.guard=some (j,want):=by rfl) (hj:(ops[j]?).bind (·.dst)=some t:=by rfl) (hb:evA n l (.tmp t)=.bool b:=by rfl):RA P N ops (k+1) li K (mkA n l) aw :=
 RA.t2 hi hs hf hr rfl hg hj hb hbw (cq (K:=fun l=>RA P N ops k (li.setIfInBounds i true) K (mkA n l) aw) h)
theorem r3 (i:Nat) (hi:ops[i]?=some o) {j t:Nat} {want:Bool} (h:stD l o.dst (.tup []) fun l=>RA P N ops k (li.setIfInBounds i true) K (mkA n l) aw) (hs:Region.noSelect ops=true:=by decide +kernel) (hf:Region.free .any ops li i=true:=by decide +kernel)
  (hr:(Region.ready .any ops li).contains i=true:=by decide +kernel) (hg:o.guard=some (j,want):=by rfl) (hj:(ops[j]?).bind (·.dst)=some t:=by rfl) (hb:evA n l (.tmp t)=.tup []:=by rfl):RA P N ops (k+1) li K (mkA n l) aw :=
 RA.t3 hi hs hf hr rfl hg hj hb (cq (K:=fun l=>RA P N ops k (li.setIfInBounds i true) K (mkA n l) aw) h)
def nfL (f:AV->(AV->Prop)->Prop):List AV->(List AV->Prop)->Prop
 | [],K=>K []
 | a::es,K=>f a fun a=>nfL f es fun es=>K (a::es)
def nfA:Nat->AV->(AV->Prop)->Prop
 | 0,a,K=>fA a K
 | k+1,a,K=>(match a with
  | .agg cs=>nfL (nfA k) cs fun cs=>K (.agg cs)
  | .tup cs=>nfL (nfA k) cs fun cs=>K (.tup cs)
  | .func f cs=>nfL (nfA k) cs fun cs=>K (.func f cs)
  | .bnd f cs=>nfL (nfA k) cs fun cs=>K (.bnd f cs)
  | a=>fA a K)
theorem gn {f:AV->(AV->Prop)->Prop} (hf:∀ {a:AV} {K:AV->Prop},f a K->K a):∀ {es:List AV} {K:List AV->Prop},nfL f es K->K es
 | [],K,h=>h
 | a::es,K,h=>gn hf (es:=es) (K:=fun es=>K (a::es)) (hf h)
theorem px:∀ {k:Nat} {a:AV} {K:AV->Prop},nfA k a K->K a:=by
 intro k;induction k with
 | zero=>exact fun h=>cu h
 | succ k ih =>
  intro a K h;cases a<;>first | exact cu h | exact gn ih (K:=fun cs=>K (.agg cs)) h | exact gn ih (K:=fun cs=>K (.tup cs)) h | exact gn ih (K:=fun cs=>K (.func _ cs)) h | exact gn ih (K:=fun cs=>K (.bnd _ cs)) h
def nfF (g:AV->AV):List (Nat × AV)->(List (Nat × AV)->Prop)->Prop
 | [],K=>K []
 | (s,v)::r,K=>nfA 2 (g v) fun v=>nfF g r fun r=>K ((s,v)::r)
theorem pK {g:AV->AV}:∀ {l:List (Nat × AV)} {K:List (Nat × AV)->Prop},nfF g l K->K (l.map fun p=>(p.1,g p.2))
 | [],K,h=>h
 | (s,v)::r,K,h=>pK (l:=r) (K:=fun r=>K ((s,g v)::r)) (px (K:=fun v=>nfF g r fun r=>K ((s,v)::r)) h)
def nfO (g:AV->AV):List Ob->(List Ob->Prop)->Prop
 | [],K=>K []
 | o::os,K=>(match o with
  | .box cs=>nfL (nfA 1) (cs.map g) fun cs=>nfO g os fun os=>K (.box cs::os)
  | o=>nfO g os fun os=>K (o::os))
theorem lg {id:Nat} {rows:List (List AV)}:∀ {os:List Ob} {K:List Ob->Prop},nfO (fz2 id rows) os K->K (os.map (fzOb id rows))
 | [],K,h=>h
 | o::os,K,h=>by
  cases o with
  | box cs=>exact lg (os:=os) (K:=fun os=>K (.box (cs.map (fz2 id rows))::os)) (gn px (K:=fun cs=>nfO (fz2 id rows) os fun os=>K (.box cs::os)) h)
  | _=>exact lg (os:=os) (K:=fun os=>K (_::os)) h
def fzC (aw:List Ob) (l:List (Nat × AV)) (id:Nat) (K:List (Nat × AV)->List Ob->Prop):Prop :=
 aM aw id fun o=>(match o with
  | .arr _ _ rows=>nfF (fzV id rows) l fun l=>setC aw id .dead fun aw=>nfO (fz2 id rows) aw fun aw=>K l aw
  | _=>False)
theorem jB {id:Nat} {K:List (Nat × AV)->List Ob->Prop} (h:fzC aw l id K):∃ e s rows,aw[id]?=some (.arr e s rows)/\K (fzA id rows l) ((aw.set id .dead).map (fzOb id rows)):=by
 obtain ⟨o,h1,h⟩:=aI h;split at h
 ·exact ⟨_,_,_,h1,lg (fy (pK h))⟩
 ·exact h.elim
theorem T.fC (id:Nat) {c:Code} {Q:Exit->List AV->List Ob->Prop} (h:fzC aw l id fun l aw=>T P N c Q (mkA n l) aw):T P N c Q (mkA n l) aw:=by obtain ⟨e,s,rows,h1,h2⟩:=jB h;exact T.fz id h1 rfl rfl h2
theorem RS.fC (id:Nat) (h:fzC aw l id fun l aw=>RS P N ops os K (mkA n l) aw):RS P N ops os K (mkA n l) aw:=by obtain ⟨e,s,rows,h1,h2⟩:=jB h;exact RS.fz id h1 rfl rfl h2
theorem RA.fC (id:Nat) (h:fzC aw l id fun l aw=>RA P N ops k li K (mkA n l) aw):RA P N ops k li K (mkA n l) aw:=by obtain ⟨e,s,rows,h1,h2⟩:=jB h;exact RA.fz id h1 rfl rfl h2
theorem RO.fC {i:Nat} (id:Nat) (h:fzC aw l id fun l aw=>RO P N ops i K (mkA n l) aw):RO P N ops i K (mkA n l) aw:=by obtain ⟨e,s,rows,h1,h2⟩:=jB h;exact RO.fz id h1 rfl rfl h2
theorem RA.jn (k':Nat) (li':Array Bool) {fr':List AV} {aw':List Ob} (h2:RA P N ops k' li' K fr' aw'->RA P N ops k li K fr aw) (h:RA P N ops k' li' K fr' aw'):RA P N ops k li K fr aw:=h2 h
theorem raE (h:RA P N ops k li' K fr aw) (hl:li=li':=by decide +kernel):RA P N ops k li K fr aw:=by subst hl;exact h
theorem uu {l':List (Nat × AV)} (h:l'.map (fun p=>lkA l p.1)=l'.map (fun p=>lkA l' p.1)) (t:Nat):lkA l' t=.any∨lkA l' t=lkA l t:=by
 have key:∀ (q:List (Nat × AV)),q.map (fun p=>lkA l p.1)=q.map (fun p=>lkA l' p.1)->lkA q t=.any∨lkA l' t=lkA l t:=by
  intro q;induction q with
  | nil=>intro _;exact .inl rfl
  | cons p q ih =>
   intro h;simp only [yh,List.cons.injEq] at h;obtain ⟨s,v⟩:=p;rw [eM];by_cases e:s=t
   ·subst e;exact .inr h.1.symm
   ·rw [if_neg e];exact ih h.2
 exact key l' h
theorem nS {l':List (Nat × AV)} {st:St} {σ:List Value} {w:World} {F:Nat->Prop} {a:Act} (h:l'.map (fun p=>lkA l p.1)=l'.map (fun p=>lkA l' p.1)) (hc:Cur st (mkA n l) aw σ w F a):Cur st (mkA n l') aw σ w F a:=by
 refine ⟨hc.sim,⟨⟨?_,fun j x v hx hv=>?_⟩,hc.fr.2⟩,hc.mv,hc.ds⟩
 ·have:=hc.fr.1.1;rw [fB] at this ⊢;exact this
 ·rw [cK] at hx;split at hx
  ·rename_i hj;cases hx;rcases uu h j with e | e
   ·rw [e];exact .any _
   ·rw [e];exact hc.fr.1.2 j _ v (by rw [cK,if_pos hj]) hv
  ·cases hx
theorem raT {l':List (Nat × AV)} (h:RA P N ops k li' K (mkA n l') aw) (hs:l'.map (fun p=>lkA l p.1)=l'.map (fun p=>lkA l' p.1):=by rfl) (hl:li=li':=by decide +kernel):RA P N ops k li K (mkA n l) aw:=by subst hl;exact ⟨fun st h1 h2 σ w F a hc=>h.out st h1 h2 σ w F a (nS hs hc)⟩
theorem T.su {l':List (Nat × AV)} {c:Code} {Q:Exit->List AV->List Ob->Prop} (h:T P N c Q (mkA n l') aw) (hs:l'.map (fun p=>lkA l p.1)=l'.map (fun p=>lkA l' p.1):=by rfl):T P N c Q (mkA n l) aw:=⟨fun st h1 h2 σ w F a hc=>h.out st h1 h2 σ w F a (nS hs hc)⟩
end
section
variable {Q:Exit→List AV→List Ob→Prop} {c1 c2:Code} {x:Operand}
theorem T.ci {α:Type} {b:Bool} {u v:Option α} {r:α} (h:(if b=true then u else v)=some r) (hx:evA n l x=.bool b) (ht:b=true->u=some r->T P N c1 Q (mkA n l) aw) (he:b=false->v=some r->T P N c2 Q (mkA n l) aw):T P N (.cond x c1 c2) Q (mkA n l) aw :=
 T.cond hx (fun hb=>ht hb (bq h hb)) (fun hb=>he hb (bn h hb))
def iniC:Nat->List AV->(List (Nat × AV)->Prop)->Prop
 | _,[],K=>K []
 | k,a::es,K=>iniC (k+1) es fun l=>K ((k,a)::l)
theorem kY:∀ {es:List AV} {k:Nat} {K:List (Nat × AV)->Prop},iniC k es K->K (initA k es)
 | [],k,K,h=>h
 | a::es,k,K,h=>kY (es:=es) (K:=fun l=>K ((k,a)::l)) h
end
end
end
section
open Go.RowKit
inductive Fr where
 | sq (y:Code)
 | bk (id:Nat)
 | kt (K:List AV->List Ob->Prop)
section
variable {P:Program} {N n:Nat} {aw:List Ob} {l:List (Nat × AV)} {tt:TT} {Q:Exit→List AV→List Ob→Prop}
def qs (P:Program) (N:Nat):List Fr->(Exit->List AV->List Ob->Prop)->Exit->List AV->List Ob->Prop
 | [],Q=>Q
 | .sq y::st,Q=>thenA (T P N y (qs P N st Q)) (qs P N st Q)
 | .bk id::st,Q=>fo id (qs P N st Q)
 | .kt K::st,Q=>thenA K (qs P N st Q)
theorem jF:∀ {st:List Fr} {fr:List AV} {aw:List Ob},Q .ret fr aw->qs P N st Q .ret fr aw
 | [],_,_,h=>h
 | .sq y::st,_,_,h=>jF (st:=st) h
 | .bk id::st,_,_,h=>jF (st:=st) h
 | .kt K::st,_,_,h=>jF (st:=st) h
instance {st:List Fr} {R:List AV->List Ob->Prop} [h:RetI Q R]:RetI (qs P N st Q) R:=⟨fun fr aw hr=>jF (h.out fr aw hr)⟩
def popN (Q:Exit->List AV->List Ob->Prop) (fr:List AV) (aw:List Ob) (K:Code->List Fr->Prop):List Fr->Prop
 | []=>Q .normal fr aw
 | .sq y::st=>K y st
 | .bk _::st=>popN Q fr aw K st
 | .kt K'::_=>K' fr aw
def popE (Q:Exit->List AV->List Ob->Prop) (fr:List AV) (aw:List Ob) (K:Code->List Fr->Prop) (id:Nat):List Fr->Prop
 | []=>Q (.exit id) fr aw
 | .sq _::st=>popE Q fr aw K id st
 | .bk i::st=>(match Nat.beq id i with
  | true=>popN Q fr aw K st
  | false=>popE Q fr aw K id st)
 | .kt _::st=>popE Q fr aw K id st
theorem ju {fr:List AV} {K:Code->List Fr->Prop} (hK:∀ y st,K y st->T P N y (qs P N st Q) fr aw):∀ {st:List Fr},popN Q fr aw K st->qs P N st Q .normal fr aw
 | [],h=>h
 | .sq y::st,h=>hK y st h
 | .bk _::st,h=>ju hK (st:=st) h
 | .kt _::_,h=>h
theorem jr {fr:List AV} {K:Code->List Fr->Prop} (hK:∀ y st,K y st->T P N y (qs P N st Q) fr aw) {id:Nat}:∀ {st:List Fr},popE Q fr aw K id st->qs P N st Q (.exit id) fr aw
 | [],h=>h
 | .sq y::st,h=>jr hK (st:=st) h
 | .bk i::st,h=>by
  show if id=i then qs P N st Q .normal fr aw else qs P N st Q (.exit id) fr aw
  simp only [popE] at h;cases hb:Nat.beq id i
  ·rw [hb] at h;rw [if_neg (fun e=>by subst e;rw [Nat.beq_refl] at hb;cases hb)];exact jr hK (st:=st) h
  ·rw [hb] at h;rw [if_pos (yz hb)];exact ju hK h
 | .kt _::st,h=>jr hK (st:=st) h
inductive MS where
 | cd (c:Code)
 | op (ops:Array Oper) (os:List Oper)
def dsC (l:List (Nat × AV)) (d:Option Tmp) (r:AV) (K:List (Nat × AV)->Prop):Prop :=
 match d with
 | some t=>K ((t,r)::l)
 | none=>K l
def wP (pl:Bool) (tt:TT) (n:Nat) (l:List (Nat × AV)) (aw:List Ob) (k:Nat) (op:Op) (K:AV->List Ob->Nat->Prop):Prop :=
  match pl with
  | false=>wE tt n l aw k op K
  | true=>(match op with
    | .pick c a b=>(match evA n l c with
      | .bool t=>(match t with
        | true=>fA (evA n l a) fun r=>K r aw k
        | false=>fA (evA n l b) fun r=>K r aw k)
      | _=>False)
    | op=>wE tt n l aw k op K)
theorem wP_ok {pl:Bool} {o:Oper} {k:Nat} {K:AV->List Ob->Nat->Prop} (ht:tt.Ok P) (hk:aw.length=k) (h:wP pl tt n l aw k o.op K):OP P N o (mkA n l) aw fun r aw'=>K r aw' aw'.length:=by
 cases pl with
 | false=>exact wE_ok ht hk h
 | true =>
  have q:wE tt n l aw k o.op K->OP P N o (mkA n l) aw fun r aw'=>K r aw' aw'.length:=fun h=>wE_ok ht hk h
  obtain ⟨d,op,ty,ps,af,g⟩:=o;cases op with
  | pick c a b =>
   simp only [wP] at h;subst hk;split at h
   ·rename_i t hc;split at h
    ·exact OP.q rfl (bl hc rfl rfl (cu (K:=fun r=>K r aw aw.length) h))
    ·exact OP.q rfl (bb hc rfl rfl (cu (K:=fun r=>K r aw aw.length) h))
   ·exact h.elim
  | _=>exact q h
def gx (pl:Bool) (tt:TT) (P:Program) (N n:Nat) (Q:Exit->List AV->List Ob->Prop):Nat->MS->List Fr->List (Nat × AV)->List Ob->Nat->Prop
  | 0,.cd c,st,l,aw,_=>T P N c (qs P N st Q) (mkA n l) aw
  | 0,.op ops os,st,l,aw,_=>RS P N ops os (qs P N st Q .normal) (mkA n l) aw
  | f + 1,.cd c,st,l,aw,k=>(match c with
    | .seq x y=>gx pl tt P N n Q f (.cd x) (.sq y::st) l aw k
    | .skip=>popN Q (mkA n l) aw (fun y st=>gx pl tt P N n Q f (.cd y) st l aw k) st
    | .block id x=>gx pl tt P N n Q f (.cd x) (.bk id::st) l aw k
    | .exit id=>popE Q (mkA n l) aw (fun y st=>gx pl tt P N n Q f (.cd y) st l aw k) id st
    | .cond x a b=>(match evA n l x with
      | .bool v=>(match v with
        | true=>gx pl tt P N n Q f (.cd a) st l aw k
        | false=>gx pl tt P N n Q f (.cd b) st l aw k)
      | _=>False)
    | .region _ ops d=>(match d with
      | false=>gx pl tt P N n Q f (.op ops ops.toList) st l aw k
      | true=>False)
    | _=>False)
  | f + 1,.op ops os,st,l,aw,k=>(match os with
    | []=>popN Q (mkA n l) aw (fun y st=>gx pl tt P N n Q f (.cd y) st l aw k) st
    | o :: os => (match o.guard with
      | none=>wP pl tt n l aw k o.op fun r aw k=>dsC l o.dst r fun l=>gx pl tt P N n Q f (.op ops os) st l aw k
      | some (j,want)=>aM ops.toList j fun q=>(match q.dst with
        | none=>False
        | some t=>(match evA n l (.tmp t) with
          | .bool b=>(match b with
            | true=>(match want with
              | true=>wP pl tt n l aw k o.op fun r aw k=>dsC l o.dst r fun l=>gx pl tt P N n Q f (.op ops os) st l aw k
              | false=>dsC l o.dst (.tup []) fun l=>gx pl tt P N n Q f (.op ops os) st l aw k)
            | false=>(match want with
              | false=>wP pl tt n l aw k o.op fun r aw k=>dsC l o.dst r fun l=>gx pl tt P N n Q f (.op ops os) st l aw k
              | true=>dsC l o.dst (.tup []) fun l=>gx pl tt P N n Q f (.op ops os) st l aw k))
          | .tup vs=>(match vs with
            | []=>dsC l o.dst (.tup []) fun l=>gx pl tt P N n Q f (.op ops os) st l aw k
            | _::_=>False)
          | _=>False))))
theorem vh {d:Option Tmp} {r:AV} {K:List (Nat × AV)->Prop} (h:dsC l d r K):K (br l d r):=by cases d<;>exact h
theorem cU {pl:Bool} (ht:tt.Ok P):∀ {f:Nat} {ms:MS} {st:List Fr} {l:List (Nat × AV)} {aw:List Ob} {k:Nat},aw.length=k->gx pl tt P N n Q f ms st l aw k->gx pl tt P N n Q 0 ms st l aw k
 | 0,.cd c,st,l,aw,k,hk,h=>h
 | 0,.op ops os,st,l,aw,k,hk,h=>h
 | f+1,.cd c,st,l,aw,k,hk,h=>by
  show T P N c (qs P N st Q) (mkA n l) aw;have pop:∀ y st,gx pl tt P N n Q f (.cd y) st l aw k->T P N y (qs P N st Q) (mkA n l) aw:=fun y st h=>cU ht (f:=f) hk h
  cases c with
  | seq x y=>exact T.seq (cU ht (f:=f) (ms:=.cd x) hk h)
  | skip=>exact T.skip (ju pop h)
  | block id x=>exact T.block (cU ht (f:=f) (ms:=.cd x) hk h)
  | exit id=>exact T.exit (jr pop h)
  | cond x a b =>
   simp only [gx] at h;split at h
   ·rename_i v hv;split at h
    ·exact T.cond hv (fun _=>cU ht (f:=f) (ms:=.cd a) hk h) (fun hb=>by cases hb)
    ·exact T.cond hv (fun hb=>by cases hb) (fun _=>cU ht (f:=f) (ms:=.cd b) hk h)
   ·exact h.elim
  | region id ops d =>
   cases d with
   | false=>exact T.region (cU ht (f:=f) (ms:=.op ops ops.toList) hk h)
   | true=>exact h.elim
  | _=>exact h.elim
 | f + 1,.op ops os,st,l,aw,k,hk,h=>by
  show RS P N ops os (qs P N st Q .normal) (mkA n l) aw;cases os with
  | nil =>
   have pop:∀ y st,gx pl tt P N n Q f (.cd y) st l aw k->T P N y (qs P N st Q) (mkA n l) aw:=fun y st h=>cU ht (f:=f) hk h
   exact RS.nil (ju pop h)
  | cons o os =>
   have put:∀ {aw:List Ob} {k:Nat} {r:AV},aw.length=k->dsC l o.dst r (fun l=>gx pl tt P N n Q f (.op ops os) st l aw k)->RS P N ops os (qs P N st Q .normal) (mkA n (br l o.dst r)) aw :=
    fun {aw k r} hk h=>cU ht (f:=f) (ms:=.op ops os) hk (vh (K:=fun l=>gx pl tt P N n Q f (.op ops os) st l aw k) h)
   simp only [gx] at h;split at h
   ·rename_i hg;exact RS.op hg ((wP_ok ht hk h).mono fun r aw' h=>put rfl h)
   ·rename_i j want hg;obtain ⟨q,h1,h⟩:=aI h;have h1:ops[j]?=some q:=by simpa using h1
    split at h
    ·exact h.elim
    ·rename_i t hd;have hj:(ops[j]?).bind (·.dst)=some t:=by rw [h1];exact hd
     split at h
     ·rename_i b hb;split at h
      ·split at h
       ·exact RS.yes hg hj hb rfl ((wP_ok ht hk h).mono fun r aw' h=>put rfl h)
       ·exact RS.no hg hj hb rfl (put hk h)
      ·split at h
       ·exact RS.yes hg hj hb rfl ((wP_ok ht hk h).mono fun r aw' h=>put rfl h)
       ·exact RS.no hg hj hb rfl (put hk h)
     ·rename_i vs hb;split at h
      ·exact RS.nou hg hj hb (put hk h)
      ·exact h.elim
     ·exact h.elim
theorem pE {s:Nat} {a:AV} (hl:lkA l s=a):mkA n ((s,a)::l)=mkA n l:=by
 unfold mkA;congr 1;funext t;rw [eM];by_cases h:s=t
 ·subst h;rw [if_pos rfl,hl]
 ·rw [if_neg h]
variable {ops:Array Oper} {os:List Oper} {K:List AV→List Ob→Prop} {st:List Fr}
theorem gT (s:Nat) {b:Bool} (hb:b=true) (h:RS P N ops os K (mkA n ((s,.bool true)::l)) aw) (hl:lkA l s=.bool b:=by rfl):RS P N ops os K (mkA n l) aw:=by subst hb;rw [pE hl] at h;exact h
theorem gF (s:Nat) {b:Bool} (hb:b=false) (h:RS P N ops os K (mkA n ((s,.bool false)::l)) aw) (hl:lkA l s=.bool b:=by rfl):RS P N ops os K (mkA n l) aw:=by subst hb;rw [pE hl] at h;exact h
theorem gi (s:Nat) {α:Type} {b:Bool} {u v:Option α} {r:α} (h:(if b=true then u else v)=some r) (ht:b=true->u=some r->RS P N ops os K (mkA n ((s,.bool true)::l)) aw) (he:b=false->v=some r->RS P N ops os K (mkA n ((s,.bool false)::l)) aw) (hl:lkA l s=.bool b:=by rfl):RS P N ops os K (mkA n l) aw:=by
 cases b with
 | true=>exact gT s rfl (ht rfl (bq h rfl)) hl
 | false=>exact gF s rfl (he rfl (bn h rfl)) hl
theorem gp (s:Nat) {b:Bool} (ht:b=true->RS P N ops os K (mkA n ((s,.bool true)::l)) aw) (he:b=false->RS P N ops os K (mkA n ((s,.bool false)::l)) aw) (hl:lkA l s=.bool b:=by rfl):RS P N ops os K (mkA n l) aw:=by
 cases b with
 | true=>exact gT s rfl (ht rfl) hl
 | false=>exact gF s rfl (he rfl) hl
theorem fX {pl:Bool} {f:FuncId} {fn:Func} {c:Code} {args:List AV} {Q:AV->List Ob->Prop} {m:Nat} (ht:tt.Ok P) (N q:Nat) (hf:P.funcs[f]?=some fn) (hm:fn.ntmps=m) (h:iniC 0 args fun l=>gx pl tt P N m (retQ P fn N Q) q (.cd c) [] l aw N)
  (hb:fn.body=some c) (hN:aw.length=N) (hname:(fn.name == "runtime.NumGoroutine")=false) (hl:Nat.ble args.length m=true):ACalls P f args aw Q :=
 u6 hN hf hb hname hm hl (cU ht hN (kY (K:=fun l=>gx pl tt P N m (retQ P fn N Q) q (.cd c) [] l aw N) h))
theorem q0 {c:Code} {fr:List AV} (h:T P N c (qs P N [] Q) fr aw):T P N c Q fr aw:=h
theorem jn {x y:Code} {fr:List AV} {Z:Type} (F:Z->List AV) (A:Z->List Ob) (S:Z->Prop) (h:∀ z,S z->T P N y (qs P N st Q) (F z) (A z))
 (h2:(∀ z,S z->T P N y (qs P N st Q) (F z) (A z))->T P N (.seq x y) (qs P N st Q) fr aw):T P N (.seq x y) (qs P N st Q) fr aw:=h2 h
theorem j1 {x y:Code} (l':List (Nat × AV)) (aw':List Ob) (h:T P N y (qs P N st Q) (mkA n l') aw') (h2:T P N y (qs P N st Q) (mkA n l') aw'->T P N (.seq x y) (qs P N st Q) (mkA n l) aw):T P N (.seq x y) (qs P N st Q) (mkA n l) aw:=h2 h
def LK {α β:Type} (N:Nat) (v:α ⊕ β) (F:α->List AV) (A:α->List Ob) (fr:List AV) (aw:List Ob):Prop:=∃ s',v=.inl s'/\Weak N fr aw (F s') (A s')
theorem itr {α β:Type} {body:α->Option (α ⊕ β)} {s:α} {r:β} {c:Code} {fr:List AV} (F:α->List AV) (A:α->List Ob) (h:iter body s=some r) (hw:Weak N fr aw (F s) (A s))
  (hb:∀ s v,body s=some v->(∀ w,v=.inr w->w=r)->T P N c (qs P N (.kt (LK N v F A)::st) Q) (F s) (A s)):T P N (.loop c) (qs P N st Q) fr aw :=
 T.iter F A h hw fun s v h1 h2=>(hb s v h1 h2).mono fun e fr aw h=>by cases e<;>exact h
theorem lk {α β:Type} {v:α ⊕ β} {F:α->List AV} {A:α->List Ob} {fr:List AV} {s':α} (h:some (.inl s')=some v) (hw:Weak N fr aw (F s') (A s')):LK N v F A fr aw:=⟨s',(xL h).symm,hw⟩
theorem mi {α β:Type} {o:Option β} {v:α ⊕ β} {r:β} (h:o.map Sum.inr=some v) (hv:∀ w,v=.inr w->w=r):o=some r:=by obtain ⟨w,h1,h2⟩:=kN h;rw [h1,hv w h2]
theorem B {α β:Type} {o:Option α} {k:α->Option β} {r:β} {C:Prop} (h:o.bind k=some r) (hC:∀ x,o=some x->k x=some r->C):C:=by obtain ⟨x,h1,h2⟩:=bind_some h;exact hC x h1 h2
theorem sx {c:Code} {l':List (Nat × AV)} (h:T P N c Q (mkA n l') aw) (hs:l'.map (fun p=>lkA l p.1)=l'.map (fun p=>lkA l' p.1):=by rfl):T P N c Q (mkA n l) aw:=T.su h hs
theorem wu {c:Code} {l':List (Nat × AV)} {aw':List Ob} (h:T P N c Q (mkA n l') aw') (nl:List (Nat × TypeId × Nat)) (ρ:List Nat) (k:Nat) (hw:nilC nl l aw k fun l aw=>mpF ρ l' l fun bs es=>mpOs ρ aw ρ aw' fun bs' es'=>(bs,bs')=(es,es')) [g:GoodF l'] [g':GoodOs aw'] (hc:aw.length=k:=by rfl) (hn:(nl.all fun p=>Nat.blt p.1 n)=true:=by rfl)
 (h1:ρ.Nodup:=by decide) (h2:∀ k,k<N->ρ[k]?=some k:=by decide):T P N c Q (mkA n l) aw:=T.weakR h (wk nl ρ k hw hc hn h1 h2)
section
variable {ρ:List Nat} {n0 n1:Nat}
def bkC (n0:Nat):List Nat->Nat->(Nat->Prop)->Prop
 | [],i,K=>K (n0+i)
 | j::ρ,i,K=>(match i with
  | 0=>K j
  | i+1=>bkC n0 ρ i K)
def bkK (ρ:List Nat) (n0 n1 i:Nat) (K:Nat->Prop):Prop :=
 match Nat.blt i n1 with
 | true=>bkC n0 ρ i K
 | false=>False
theorem pu:∀ {ρ:List Nat} {i:Nat} {K:Nat->Prop},bkC n0 ρ i K->K (if i<ρ.length then ρ.getD i 0 else n0+(i - ρ.length))
 | [],i,K,h=>by simpa [bkC] using h
 | j::ρ,0,K,h=>h
 | j::ρ,i+1,K,h=>by have:=pu (ρ:=ρ) (i:=i) (K:=K) h;simpa [Nat.add_lt_add_iff_right] using this
theorem dR {i:Nat} {K:Nat->Prop} (h:bkK ρ n0 n1 i K):∃ j,(j,i)∈aV ρ n0 n1/\K j:=by
 unfold bkK at h;split at h
 ·rename_i hb;refine ⟨_,?_,pu h⟩;unfold aV;exact yb.2 ⟨i,zu.2 (by simpa using hb),rfl⟩
 ·exact h.elim
def bkL (f:AV->(AV->Prop)->Prop):List AV->(List AV->Prop)->Prop
 | [],K=>K []
 | a::es,K=>f a fun b=>bkL f es fun bs=>K (b::bs)
def bkA (ρ:List Nat) (n0 n1:Nat):Nat->AV->(AV->Prop)->Prop
 | k,a,K=>match a with
  | .ref i=>bkK ρ n0 n1 i fun i=>K (.ref i)
  | .ptr i o=>bkK ρ n0 n1 i fun i=>K (.ptr i o)
  | .mpr i=>bkK ρ n0 n1 i fun i=>K (.mpr i)
  | .np i=>bkK ρ n0 n1 i fun i=>K (.np i)
  | .agg cs=>(match k with
   | 0=>False
   | k+1=>bkL (bkA ρ n0 n1 k) cs fun cs=>K (.agg cs))
  | .tup cs=>(match k with
   | 0=>False
   | k+1=>bkL (bkA ρ n0 n1 k) cs fun cs=>K (.tup cs))
  | .func f cs=>(match k with
   | 0=>False
   | k+1=>bkL (bkA ρ n0 n1 k) cs fun cs=>K (.func f cs))
  | .bnd f cs=>(match k with
   | 0=>False
   | k+1=>bkL (bkA ρ n0 n1 k) cs fun cs=>K (.bnd f cs))
  | .iref _ _ | .aptr _ _ _ _=>False
  | a=>fA a K
theorem fF {k:Nat} (ih:∀ {a:AV} {K:AV->Prop},bkA ρ n0 n1 k a K->∃ b,K b/\(gA k a->RenM (aV ρ n0 n1) b a)):∀ {es:List AV} {K:List AV->Prop},bkL (bkA ρ n0 n1 k) es K->∃ bs,K bs/\((∀ a,a∈es->gA k a)->cQ (aV ρ n0 n1) bs es)
 | [],K,h=>⟨[],h,fun _=>trivial⟩
 | a::es,K,h=>by obtain ⟨b,h1,h2⟩:=ih h;obtain ⟨bs,h3,h4⟩:=fF ih h1;exact ⟨b::bs,h3,fun hg=>⟨h2 (hg _ (.head _)),h4 fun x hx=>hg x (.tail _ hx)⟩⟩
theorem jz:∀ {k:Nat} {a:AV} {K:AV->Prop},bkA ρ n0 n1 k a K->∃ b,K b/\(gA k a->RenM (aV ρ n0 n1) b a):=by
 intro k;induction k with
 | zero =>
  intro a K h;cases a with
  | ref i=>obtain ⟨j,h1,h2⟩:=dR h;exact ⟨_,h2,fun _=>pj h1⟩
  | ptr i o=>obtain ⟨j,h1,h2⟩:=dR h;exact ⟨_,h2,fun _=>pi h1⟩
  | aptr i s x o=>exact h.elim
  | mpr i=>obtain ⟨j,h1,h2⟩:=dR h;exact ⟨_,h2,fun _=>pp h1⟩
  | np i=>obtain ⟨j,h1,h2⟩:=dR h;exact ⟨_,h2,fun _=>rm_np h1⟩
  | agg cs=>exact h.elim
  | tup cs=>exact h.elim
  | func f cs=>exact h.elim
  | bnd f cs=>exact h.elim
  | iref i j=>exact h.elim
  | any=>exact ⟨_,h,fun _=>pz⟩
  | int q x=>exact ⟨_,h,fun _=>bx (au _ _)⟩
  | bool b=>exact ⟨_,h,fun _=>bx (dI _)⟩
  | str s=>exact ⟨_,h,fun _=>bx (eK _)⟩
  | nils=>exact ⟨_,h,fun _=>bx gX⟩
  | nilf=>exact ⟨_,h,fun _=>bx gY⟩
  | nilp=>exact ⟨_,h,fun _=>bx iQ⟩
  | nili=>exact ⟨_,h,fun _=>bx iW⟩
  | sl rows=>exact ⟨_,h,fun g=>bx (by unfold gA at g;exact g)⟩
  | elt row off=>exact ⟨_,h,fun g=>bx (by unfold gA at g;exact g)⟩
  | cst v=>exact ⟨_,h,fun g=>by unfold gA at g;exact g.elim⟩
  | vw a1 a2 a3 a4 a5=>exact ⟨_,h,fun g=>by unfold gA at g;exact g.elim⟩
  | ref2 i=>exact ⟨_,h,fun g=>by unfold gA at g;exact g.elim⟩
  | aptr2 i j=>exact ⟨_,h,fun g=>by unfold gA at g;exact g.elim⟩
  | ifc t a1=>exact ⟨_,h,fun g=>by unfold gA at g;exact g.elim⟩
 | succ k ih =>
  intro a K h;cases a with
  | ref i=>obtain ⟨j,h1,h2⟩:=dR h;exact ⟨_,h2,fun _=>pj h1⟩
  | ptr i o=>obtain ⟨j,h1,h2⟩:=dR h;exact ⟨_,h2,fun _=>pi h1⟩
  | aptr i s x o=>exact h.elim
  | mpr i=>obtain ⟨j,h1,h2⟩:=dR h;exact ⟨_,h2,fun _=>pp h1⟩
  | np i=>obtain ⟨j,h1,h2⟩:=dR h;exact ⟨_,h2,fun _=>rm_np h1⟩
  | agg cs=>obtain ⟨bs,h1,h2⟩:=fF ih h;exact ⟨_,h1,fun g=>vn (h2 (by unfold gA at g;exact g))⟩
  | tup cs=>obtain ⟨bs,h1,h2⟩:=fF ih h;exact ⟨_,h1,fun g=>vq (h2 (by unfold gA at g;exact g))⟩
  | func f cs=>obtain ⟨bs,h1,h2⟩:=fF ih h;exact ⟨_,h1,fun g=>uz (h2 (by unfold gA at g;exact g))⟩
  | bnd f cs=>obtain ⟨bs,h1,h2⟩:=fF ih h;exact ⟨_,h1,fun g=>vH (h2 (by unfold gA at g;exact g))⟩
  | iref i j=>exact h.elim
  | any=>exact ⟨_,h,fun _=>pz⟩
  | int q x=>exact ⟨_,h,fun _=>bx (au _ _)⟩
  | bool b=>exact ⟨_,h,fun _=>bx (dI _)⟩
  | str s=>exact ⟨_,h,fun _=>bx (eK _)⟩
  | nils=>exact ⟨_,h,fun _=>bx gX⟩
  | nilf=>exact ⟨_,h,fun _=>bx gY⟩
  | nilp=>exact ⟨_,h,fun _=>bx iQ⟩
  | nili=>exact ⟨_,h,fun _=>bx iW⟩
  | sl rows=>exact ⟨_,h,fun g=>bx (by unfold gA at g;exact g)⟩
  | elt row off=>exact ⟨_,h,fun g=>bx (by unfold gA at g;exact g)⟩
  | cst v=>exact ⟨_,h,fun g=>by unfold gA at g;exact g.elim⟩
  | vw a1 a2 a3 a4 a5=>exact ⟨_,h,fun g=>by unfold gA at g;exact g.elim⟩
  | ref2 i=>exact ⟨_,h,fun g=>by unfold gA at g;exact g.elim⟩
  | aptr2 i j=>exact ⟨_,h,fun g=>by unfold gA at g;exact g.elim⟩
  | ifc t a1=>exact ⟨_,h,fun g=>by unfold gA at g;exact g.elim⟩
def bkO (ρ:List Nat) (n0 n1:Nat) (o:Ob) (K:Ob->Prop):Prop :=
 match o with
 | .dead=>K .dead
 | .box cs=>bkL (bkA ρ n0 n1 3) cs fun cs=>K (.box cs)
 | .boxB t cs=>bkL (bkA ρ n0 n1 3) cs fun cs=>K (.boxB t cs)
 | .hd e k=>bkK ρ n0 n1 k fun k=>K (.hd e k)
 | .arr e s rows=>K (.arr e s rows)
 | .mp ks vs=>K (.mp ks vs)
 | .cl e s cells=>K (.cl e s cells)
 | _=>False
theorem pC {o:Ob} {K:Ob->Prop} (h:bkO ρ n0 n1 o K):∃ b,K b/\(gO o->RenOM (aV ρ n0 n1) b o):=by
 cases o with
 | dead=>exact ⟨_,h,fun _=>trivial⟩
 | box cs=>obtain ⟨bs,h1,h2⟩:=fF jz h;exact ⟨_,h1,fun g=>h2 g⟩
 | boxB t cs=>obtain ⟨bs,h1,h2⟩:=fF jz h;exact ⟨_,h1,fun g=>⟨rfl,h2 g⟩⟩
 | hd e k=>obtain ⟨j,h1,h2⟩:=dR h;exact ⟨_,h2,fun _=>⟨rfl,h1⟩⟩
 | arr e s rows=>exact ⟨_,h,fun g=>⟨rfl,rfl,rfl,g⟩⟩
 | mp ks vs=>exact ⟨_,h,fun g=>⟨km fun c hc=>g c (List.mem_append_left _ hc),km fun c hc=>g c (List.mem_append_right _ hc)⟩⟩
 | cl e s cells=>exact ⟨_,h,fun g=>⟨rfl,rfl,rfl,g⟩⟩
 | arrU e s rows x=>exact h.elim
def pkC (n0 n1:Nat) (ρ0:List Nat) (j:Nat) (o:Ob) (K:Ob->Prop):List Nat->List Ob->Prop
 | [],_=>K o
 | i::ρ,os=>(match os with
  | []=>False
  | o1::os=>(match Nat.beq i j with
   | true=>bkO ρ0 n0 n1 o1 K
   | false=>pkC n0 n1 ρ0 j o K ρ os))
def exC (ρ:List Nat) (n0 n1:Nat):List Ob->(List Ob->Prop)->Prop
 | [],K=>K []
 | o::os,K=>bkO ρ n0 n1 o fun o=>exC ρ n0 n1 os fun os=>K (o::os)
def bwC (ρ:List Nat) (n0 n1:Nat) (aw1:List Ob):Nat->List Ob->(List Ob->Prop)->Prop
 | _,[],K=>dropC aw1 ρ.length fun os=>exC ρ n0 n1 os K
 | j,o::r,K=>pkC n0 n1 ρ j o (fun o=>bwC ρ n0 n1 aw1 (j+1) r fun l=>K (o::l)) ρ aw1
theorem pt {aw1:List Ob} (hg:∀ o,o∈aw1->gO o) (hl:aw1.length=n1) {j:Nat} {o:Ob} {K:Ob->Prop}:∀ {ρ1:List Nat} {os:List Ob} {k:Nat},ρ.drop k=ρ1->aw1.drop k=os->pkC n0 n1 ρ j o K ρ1 os ->
  ∃ b,K b/\((∃ k o1,(j,k)∈aV ρ n0 n1/\aw1[k]?=some o1/\RenOM (aV ρ n0 n1) b o1)∨(ρ1.contains j=false/\b=o))
 | [],os,k,_,_,h=>⟨o,h,.inr ⟨rfl,rfl⟩⟩
 | i::ρ1,[],k,_,_,h=>h.elim
 | i::ρ1,o1::os,k,h1,h2,h=>by
  have e1:ρ[k]?=some i:=by have:=congrArg List.head? h1;simpa using this
  have e2:aw1[k]?=some o1:=by have:=congrArg List.head? h2;simpa using this
  simp only [pkC] at h;split at h
  ·rename_i hb;have:=yz hb;subst this;obtain ⟨b,h3,h4⟩:=pC h;have hk:k<ρ.length:=(xG.1 e1).1;have hk1:k<n1:=by rw [<- hl];exact (xG.1 e2).1
   refine ⟨b,h3,.inl ⟨k,o1,?_,e2,h4 (hg _ (xK e2))⟩⟩;unfold aV;refine yb.2 ⟨k,zu.2 hk1,?_⟩;rw [if_pos hk,xO,e1];rfl
  ·rename_i hb;obtain ⟨b,h3,h4⟩:=pt hg hl (k:=k+1) (by rw [<- zx,h1];rfl) (by rw [<- zx,h2];rfl) h;refine ⟨b,h3,h4.imp id fun ⟨h5,h6⟩=>⟨?_,h6⟩⟩;rw [List.contains_cons,h5,Bool.or_false];cases he:j==i
   ·rfl
   ·have:=eq_of_beq he;subst this;rw [Nat.beq_refl] at hb;cases hb
theorem pg {aw aw1:List Ob} (hg:∀ o,o∈aw1->gO o) (hl:aw1.length=n1) (hr:ρ.length<=n1):∀ {os:List Ob} {j:Nat} {K:List Ob->Prop},aw1.drop (ρ.length+j)=os->exC ρ n0 n1 os K->∃ bs,K bs/\dB (aV ρ n0 n1) ρ aw aw1 (n0+j) bs/\bs.length=os.length
 | [],j,K,_,h=>⟨[],h,trivial,rfl⟩
 | o::os,j,K,h1,h=>by
  have e1:aw1[ρ.length+j]?=some o:=by have:=congrArg List.head? h1;simpa using this
  obtain ⟨b,h2,h3⟩:=pC h;obtain ⟨bs,h4,h5,h6⟩:=pg (aw:=aw) hg hl hr (j:=j+1) (by rw [<- zb,<- zx,h1];rfl) h2;refine ⟨b::bs,h4,⟨.inl ⟨ρ.length+j,o,?_,e1,h3 (hg _ (xK e1))⟩,by rwa [<- zb] at h5⟩,by simp [h6]⟩;unfold aV;refine yb.2 ⟨ρ.length+j,zu.2 (by rw [<- hl];exact (xG.1 e1).1),?_⟩;rw [if_neg (by omega)];simp
theorem k8 {aw aw1:List Ob} (hg:∀ o,o∈aw1->gO o) (hl:aw1.length=n1) (hn:aw.length=n0):∀ {l:List Ob} {j:Nat} {K:List Ob->Prop},aw.drop j=l->j<=n0->bwC ρ n0 n1 aw1 j l K->∃ bs,K bs/\dB (aV ρ n0 n1) ρ aw aw1 j bs/\bs.length+ρ.length=l.length+n1
 | [],j,K,h0,hj,h=>by
  obtain ⟨h1,h⟩:=kK h;have hj':j=n0:=by have:=congrArg List.length h0;rw [yP] at this;simp at this;omega
  subst hj';obtain ⟨bs,h2,h3,h4⟩:=pg (aw:=aw) hg hl (by omega) (j:=0) rfl h;refine ⟨bs,h2,h3,?_⟩;rw [h4,yP];simp;omega
 | o::r,j,K,h0,hj,h=>by
  have e1:aw[j]?=some o:=by have:=congrArg List.head? h0;simpa using this
  have hjl:j<aw.length:=(xG.1 e1).1;obtain ⟨b,h1,h2⟩:=pt (k:=0) hg hl rfl rfl h;obtain ⟨bs,h3,h4,h5⟩:=k8 hg hl hn (j:=j+1) (by rw [<- zx,h0];rfl) (by omega) h1;refine ⟨b::bs,h3,⟨h2.imp id fun ⟨h6,h7⟩=>⟨h6,by rw [h7];exact e1⟩,h4⟩,?_⟩;simp only [xM];omega
def cgC (n:Nat) (l:List (Nat × AV)) (aw:List Ob) (ρ:List Nat) (n0 n1:Nat) (f:Operand) (args:List Operand) (h:Nat) (as0:List AV) (aw0:List Ob) (v:AV) (aw1:List Ob) (K:AV->List Ob->Prop):Prop :=
 match evA n l f with
 | .func g caps=>(match Nat.beq g h with
  | true=>evsC n l args fun es=>appC es caps fun ac=>mpC (mpA ρ 3) as0 ac fun bs=>mpOs ρ aw ρ aw0 fun bs' es'=>(bs,bs')=(ac,es')/\bkA ρ n0 n1 3 v fun v=>bwC ρ n0 n1 aw1 0 aw fun aw2=>K v aw2
  | false=>False)
 | .bnd g fs=>(match Nat.beq g h with
  | true=>evsC n l args fun es=>appC fs es fun ac=>mpC (mpA ρ 3) as0 ac fun bs=>mpOs ρ aw ρ aw0 fun bs' es'=>(bs,bs')=(ac,es')/\bkA ρ n0 n1 3 v fun v=>bwC ρ n0 n1 aw1 0 aw fun aw2=>K v aw2
  | false=>False)
 | _=>False
theorem cG {d:Option Tmp} {ty:TypeId} {ps:String} {af:Array Edge} {gd:Option (Nat × Bool)} {K2:AV->List Ob->Prop} {f:Operand} {args:Array Operand} {ts:Array TypeId} {h:FuncId} {as0:List AV} {aw0 aw1:List Ob} {v:AV} (ρ:List Nat) (n0 n1:Nat) (hC:FnX P h as0 aw0 v aw1)
  (hx:cgC n l aw ρ n0 n1 f args.toList h as0 aw0 v aw1 K2) [ga:GoodAs 3 as0] [go:GoodOs aw0] [gv:GoodA 3 v] [g1:GoodOs aw1] (hn0:aw.length=n0:=by rfl) (hn1:aw1.length=n1:=by rfl) (hnd:ρ.Nodup:=by decide):OP P N ⟨d,.call ⟨.value f,args,ts⟩,ty,ps,af,gd⟩ (mkA n l) aw K2:=by
 unfold cgC at hx
 split at hx
 ·rename_i g caps hf
  split at hx
  ·rename_i hb
   have:=yz hb
   subst this
   have hx:=jt (hP hx)
   obtain ⟨bs,hx,h2⟩:=dP (ρ:=ρ) fE hx
   obtain ⟨bs',es',hx,h3⟩:=gj hx
   obtain ⟨he,hx⟩:=hx
   injection he with e1 e2
   obtain ⟨v',hx,h4⟩:=jz hx
   obtain ⟨aw2,hx,h5,h6⟩:=k8 g1.out hn1 hn0 (j:=0) rfl (yr _) hx
   exact uI ρ hn0 hn1 hf rfl hnd (h3 go.out e2) (h2 ga.out e1) hC (by rw [h6,yJ,hn0]) (h4 gv.out) h5 hx
  ·exact hx.elim
 ·rename_i g caps hf
  split at hx
  ·rename_i hb
   have:=yz hb
   subst this
   have hx:=jt (hP hx)
   obtain ⟨bs,hx,h2⟩:=dP (ρ:=ρ) fE hx
   obtain ⟨bs',es',hx,h3⟩:=gj hx
   obtain ⟨he,hx⟩:=hx
   injection he with e1 e2
   obtain ⟨v',hx,h4⟩:=jz hx
   obtain ⟨aw2,hx,h5,h6⟩:=k8 g1.out hn1 hn0 (j:=0) rfl (yr _) hx
   exact tL ρ hn0 hn1 hf rfl hnd (h3 go.out e2) (h2 ga.out e1) hC (by rw [h6,yJ,hn0]) (h4 gv.out) h5 hx
  ·exact hx.elim
 ·exact hx.elim
end
theorem nB {c:Code} (b j e z k:Nat) (h:aM aw b fun o=>(match o with
  | .box cs=>aM cs j fun v=>(match v with
   | .nils=>setC cs j (.ref k) fun cs=>setC aw b (.box cs) fun aw=>pushC aw (.arr e z []) fun aw=>T P N c Q (mkA n l) aw
   | _=>False)
  | _=>False)) (hk:aw.length=k:=by rfl):T P N c Q (mkA n l) aw:=by
 subst hk
 obtain ⟨o,h1,h⟩:=aI h
 split at h
 ·obtain ⟨v,h2,h⟩:=aI h
  split at h
  ·exact T.nilB b j e z h1 h2 rfl rfl (f9 (fy (fy h)))
  ·exact h.elim
 ·exact h.elim
def bm (n k:Nat):Array Bool:=((List.range n).map k.testBit).toArray
end
end
section
open Go.RowKit
set_option maxRecDepth 100000
def tyT:TT:=.n 28 (.n 17 (.n 9 (.n 4 (.l 3 (.it .i64)) (.l 4 (.bo))) (.n 10 (.l 9 (.str)) (.l 10 (.str)))) (.n 23 (.n 22 (.l 17 (.sc (.nilp))) (.l 22 (.sl 35 4))) (.n 24 (.l 23 (.ag [.nils,.int .i64 0,.int .i64 0] 3 [(0,1,22),(1,1,3),(2,1,3)])) (.n 25 (.l 24 (.ag [.nils,.int .i64 0,.int .i64 0] 3 [(0,1,22),(1,1,3),(2,1,3)])) (.l 25 (.it .i64)))))) (.n 73 (.n 43 (.n 35 (.l 28 (.sl 3 1)) (.l 35 (.ag [.int .i64 0,.int .i64 0,.nils,.nils] 4 [(0,1,3),(1,1,3),(2,1,28),(3,1,28)]))) (.n 52 (.l 43 (.ag [.nilp,.nils] 2 [(0,1,40),(1,1,41)])) (.n 54 (.l 52 (.sc (.nilf))) (.l 54 (.ag [.nilf,.nilf] 2 [(0,1,52),(1,1,52)]))))) (.n 79 (.n 76 (.l 73 (.sl 79 2)) (.l 76 (.sl 4 1))) (.n 89 (.l 79 (.ag [.int .i64 0,.int .i64 0] 2 [(0,1,3),(1,1,3)])) (.n 110 (.l 89 (.it .u64)) (.l 110 (.it .u64))))))
theorem b6:tyT.Ok Tryd.prog:=⟨⟨⟨⟨⟨⟨Ty.k3,Ty.c3,Ty.i3⟩,Ty.z3,Tryd.underlying3⟩,⟨⟨Ty.k4,Ty.c4,Ty.i4⟩,Ty.z4,Tryd.underlying4⟩⟩,⟨⟨⟨Ty.k9,Ty.c9,Ty.i9⟩,Ty.z9,Tryd.underlying9⟩,⟨⟨Ty.k10,Ty.c10,Ty.i10⟩,Ty.z10,Tryd.underlying10⟩⟩⟩,⟨⟨⟨⟨Ty.k17,Ty.c17,Ty.i17⟩,Ty.z17⟩,⟨⟨Ty.k22,Ty.c22,Ty.i22⟩,Ty.z22,Ty.s22⟩⟩,⟨⟨⟨Ty.k23,Ty.c23,Ty.i23,Ty.z23,rfl⟩,Ty.p23,⟨Ty.f23_0,Ty.f23_1,Ty.f23_2,tqz⟩⟩,⟨⟨⟨Ty.k24,Ty.c24,Ty.i24,Ty.z24,rfl⟩,Ty.p24,⟨Ty.f24_0,Ty.f24_1,Ty.f24_2,tqz⟩⟩,⟨⟨Ty.k25,Ty.c25,Ty.i25⟩,Ty.z25,Tryd.underlying25⟩⟩⟩⟩⟩,⟨⟨⟨⟨⟨Ty.k28,Ty.c28,Ty.i28⟩,Ty.z28,Ty.s28⟩,⟨⟨Ty.k35,Ty.c35,Ty.i35,Ty.z35,rfl⟩,Ty.p35,⟨Ty.f35_0,Ty.f35_1,Ty.f35_2,Ty.f35_3,tqz⟩⟩⟩,⟨⟨⟨Ty.k43,Ty.c43,Ty.i43,Ty.z43,rfl⟩,Ty.p43,⟨Ty.f43_0,Ty.f43_1,tqz⟩⟩,⟨⟨⟨Ty.k52,Ty.c52,Ty.i52⟩,Ty.z52⟩,⟨⟨Ty.k54,Ty.c54,Ty.i54,Ty.z54,rfl⟩,Ty.p54,⟨Ty.f54_0,Ty.f54_1,tqz⟩⟩⟩⟩⟩,⟨⟨⟨⟨Ty.k73,Ty.c73,Ty.i73⟩,Ty.z73,Ty.s73⟩,⟨⟨Ty.k76,Ty.c76,Ty.i76⟩,Ty.z76,Ty.s76⟩⟩,⟨⟨⟨Ty.k79,Ty.c79,Ty.i79,Ty.z79,rfl⟩,Ty.p79,⟨Ty.f79_0,Ty.f79_1,tqz⟩⟩,⟨⟨⟨Ty.k89,Ty.c89,Ty.i89⟩,Ty.z89,Tryd.underlying89⟩,⟨⟨Ty.k110,Ty.c110,Ty.i110⟩,Ty.z110,Tryd.underlying110⟩⟩⟩⟩⟩⟩
section
variable {N n:Nat} {aw aw':List Ob} {l:List (Nat × AV)} {ops:Array Oper} {os:List Oper} {K:List AV→List Ob→Prop} {k:Nat} {li:Array Bool}
theorem go (m c:Nat) (h:wR tyT n m os l aw c fun os l aw=>RS Tryd.prog N ops os K (mkA n l) aw) (hc:aw.length=c:=by rfl):RS Tryd.prog N ops os K (mkA n l) aw:=RS.go b6 hc h
theorem rq (is:List Nat) (k':Nat) (h:wQ tyT n ops.toList is l aw fun l=>RA Tryd.prog N ops k' (lisQ li is) K (mkA n l) aw) (hk:k=k' + is.length:=by rfl) (hs:Region.noSelect ops=true:=by decide +kernel) (ho:okQ ops li is=true:=by decide +kernel):RA Tryd.prog N ops k li K (mkA n l) aw:=RA.qs b6 hs hk ho h
theorem og {i:Nat} (c:Nat) (h:aM ops.toList i fun o=>o.guard=none/\wE tyT n l aw c o.op fun r aw c=>(match o.dst with
 | some t=>K (mkA n ((t,r)::l)) aw
 | none=>K (mkA n l) aw)) (hc:aw.length=c:=by rfl):RO Tryd.prog N ops i K (mkA n l) aw:=RO.g b6 hc h
variable {o:Oper} {Q:Exit→List AV→List Ob→Prop} {rs:List ResultVar} {V:AV} {obs:List Ob} {M:Nat}
theorem yg (c:Nat) {j t:Nat} {want b:Bool} (hbw:b=want) (h:wE tyT n l aw c o.op fun r aw _=>stD l o.dst r fun l=>RS Tryd.prog N ops os K (mkA n l) aw) (hg:o.guard=some (j,want):=by rfl) (hj:(ops[j]?).bind (·.dst)=some t:=by rfl) (hb:evA n l (.tmp t)=.bool b:=by rfl) (hc:aw.length=c:=by rfl):RS Tryd.prog N ops (o::os) K (mkA n l) aw:=yg' b6 c hbw h hg hj hb hc
theorem oy {i:Nat} (c:Nat) {j t:Nat} {want b:Bool} (hbw:b=want) (hi:ops[i]?=some o) (h:wE tyT n l aw c o.op fun r aw _=>stD l o.dst r fun l=>K (mkA n l) aw) (hg:o.guard=some (j,want):=by rfl) (hj:(ops[j]?).bind (·.dst)=some t:=by rfl) (hb:evA n l (.tmp t)=.bool b:=by rfl) (hc:aw.length=c:=by rfl):RO Tryd.prog N ops i K (mkA n l) aw:=oy' b6 c hbw hi h hg hj hb hc
theorem ry (i:Nat) {j t:Nat} {want b:Bool} (hbw:b=want) (hi:ops[i]?=some o) (h:wV tyT n l aw o.op fun r=>stD l o.dst r fun l=>RA Tryd.prog N ops k (li.setIfInBounds i true) K (mkA n l) aw) (hs:Region.noSelect ops=true:=by decide +kernel) (hf:Region.free .any ops li i=true:=by decide +kernel) (hr:(Region.ready .any ops li).contains i=true:=by decide +kernel) (hg:o.guard=some (j,want):=by rfl) (hj:(ops[j]?).bind (·.dst)=some t:=by rfl) (hb:evA n l (.tmp t)=.bool b:=by rfl) (hn:eO o.op=true:=by rfl):RA Tryd.prog N ops (k+1) li K (mkA n l) aw:=ry' b6 i hbw hi h hs hf hr hg hj hb hn
theorem rL (D:List Nat) (i:Nat) (hi:ops[i]?=some o) (h:wV tyT n l aw o.op fun r=>stD l o.dst r fun l=>RA Tryd.prog N ops k (li.setIfInBounds i true) K (mkA n l) aw) (hs:Region.noSelect ops=true:=by decide +kernel) (hf:RK.loadFree ops li D i=true:=by decide +kernel) (hr:(Region.ready .any ops li).contains i=true:=by decide +kernel) (hg:o.guard=none:=by rfl):RA Tryd.prog N ops (k+1) li K (mkA n l) aw:=rL' b6 D i hi h hs hf hr hg
theorem tD [hq:RetI Q (fun fr aw=>aG Tryd.prog fr aw rs (Ret 0 (fun r aw'=>r=V/\aw'=[]) aw))] [hV:PureC V] (h:resC tyT n l aw rs fun vs=>nrmRC aw (bd vs) fun v _=>v=V:=by rfl):T Tryd.prog N .ret Q (mkA n l) aw:=T.rD b6 h
theorem tO (nl:List (Nat × TypeId × Nat)) (ρ:List Nat) (c:Nat) [hq:RetI Q (fun fr aw=>aG Tryd.prog fr aw rs (Ret M (fun r aw'=>r=V/\aw'=obs) aw))] [g:GoodA 3 V] [g':GoodOs obs] (h:resC tyT n l aw rs fun vs=>nilVC nl vs aw c fun vs aw=>fA (bd vs) fun a=>mpA ρ 3 V a fun b=>mpOs ρ aw ρ obs fun bs es=>(b,bs)=(a,es):=by rfl) (hc:aw.length=c:=by rfl) (h1:ρ.Nodup:=by decide) (h2:∀ k,k<M->ρ[k]?=some k:=by decide):T Tryd.prog N .ret Q (mkA n l) aw:=T.rO b6 nl ρ c h hc h1 h2
theorem tN (ρ:List Nat) [hq:RetI Q (fun fr aw=>aG Tryd.prog fr aw rs (Ret M (fun r aw'=>r=V/\aw'=obs) aw))] [g:GoodA 3 V] [g':GoodOs obs] (h:resC tyT n l aw rs fun vs=>nrmRC aw (bd vs) fun a aw=>mpA ρ 3 V a fun b=>mpOs ρ aw ρ obs fun bs es=>(b,bs)=(a,es):=by rfl) (h1:ρ.Nodup:=by decide) (h2:∀ k,k<M->ρ[k]?=some k:=by decide):T Tryd.prog N .ret Q (mkA n l) aw:=T.rN b6 ρ h h1 h2
variable {fn:Func}
theorem eN (ρ:List Nat) (hr:fn.results.toList=rs:=by rfl) [g:GoodA 3 V] [g':GoodOs obs] (h:resC tyT n l aw rs fun vs=>nrmRC aw (bd vs) fun a aw=>mpA ρ 3 V a fun b=>mpOs ρ aw ρ obs fun bs es=>(b,bs)=(a,es):=by rfl) (h1:ρ.Nodup:=by decide) (h2:∀ k,k<M->ρ[k]?=some k:=by decide):retQ Tryd.prog fn M (fun r aw'=>r=V/\aw'=obs) .normal (mkA n l) aw:=by subst hr;exact rN_c b6 ρ h h1 h2
variable {c:Code} {st:List Fr}
theorem X (f k:Nat) (h:gx false tyT Tryd.prog N n Q f (.cd c) st l aw k) (hk:aw.length=k:=by rfl):T Tryd.prog N c (qs Tryd.prog N st Q) (mkA n l) aw:=cU b6 hk h
theorem Y (f k:Nat) (h:gx false tyT Tryd.prog N n Q f (.op ops os) st l aw k) (hk:aw.length=k:=by rfl):RS Tryd.prog N ops os (qs Tryd.prog N st Q .normal) (mkA n l) aw:=cU b6 hk h
theorem Yp (f k:Nat) (h:gx true tyT Tryd.prog N n Q f (.op ops os) st l aw k) (hk:aw.length=k:=by rfl):RS Tryd.prog N ops os (qs Tryd.prog N st Q .normal) (mkA n l) aw:=cU b6 hk h
theorem fT {f:FuncId} {fn:Func} {args:List AV} {QF:AV->List Ob->Prop} {m:Nat} (N q:Nat) (hf:Tryd.prog.funcs[f]?=some fn) (hm:fn.ntmps=m) (hb:fn.body=some c) (h:iniC 0 args fun l=>gx false tyT Tryd.prog N m (retQ Tryd.prog fn N QF) q (.cd c) [] l aw N) (hN:aw.length=N:=by rfl) (hname:(fn.name == "runtime.NumGoroutine")=false:=by kernel_rfl) (hl:Nat.ble args.length m=true:=by rfl):ACalls Tryd.prog f args aw QF:=fX b6 N q hf hm h hb hN hname hl
end
end
section
open Go.RowKit Go.Shelf
set_option maxRecDepth 100000
set_option maxHeartbeats 4000000
def jR:Go.Shelf.Ren:=⟨fun n=>match n with | 156=>13 | 165=>27 | 166=>12 | 169=>16 | 240=>26 | 241=>39 | 276=>38 | 277=>52 | _=>0,fun n=>match n with | 0=>0 | 3=>3 | 4=>4 | 5=>5 | 9=>9 | 20=>20 | 31=>36 | 37=>41 | 70=>40 | 72=>43 | 75=>45 | 76=>46 | 80=>50 | 127=>64 | 164=>80 | _=>0,fun n=>n⟩
theorem jL:Lays.n156 Tryd.prog jR where
 mixed:=mixed
 f156:=by kernel_rfl
 f165:=by kernel_rfl
 f166:=by kernel_rfl
 f169:=by kernel_rfl
 f240:=by kernel_rfl
 f241:=by kernel_rfl
 f276:=by kernel_rfl
 f277:=by kernel_rfl
 t0:=by kernel_rfl
 a0:=fun w=>by kernel_rfl
 z0:=fun w=>by kernel_rfl
 v0:=fun w=>by kernel_rfl
 t3:=by kernel_rfl
 a3:=fun w=>by kernel_rfl
 z3:=fun w=>by kernel_rfl
 v3:=fun w=>by kernel_rfl
 t4:=by kernel_rfl
 a4:=fun w=>by kernel_rfl
 z4:=fun w=>by kernel_rfl
 v4:=fun w=>by kernel_rfl
 t9:=by kernel_rfl
 a9:=fun w=>by kernel_rfl
 z9:=fun w=>by kernel_rfl
 v9:=fun w=>by kernel_rfl
 t20:=by kernel_rfl
 a20:=fun w=>by kernel_rfl
 z20:=fun w=>by kernel_rfl
 v20:=fun w=>by kernel_rfl
 t31:=by kernel_rfl
 a31:=fun w=>by kernel_rfl
 z31:=fun w=>by kernel_rfl
 v31:=fun w=>by kernel_rfl
 t37:=by kernel_rfl
 a37:=fun w=>by kernel_rfl
 z37:=fun w=>by kernel_rfl
 v37:=fun w=>by kernel_rfl
 t70:=by kernel_rfl
 a70:=fun w=>by kernel_rfl
 z70:=fun w=>by kernel_rfl
 v70:=fun w=>by kernel_rfl
 t72:=by kernel_rfl
 a72:=fun w=>by kernel_rfl
 z72:=fun w=>by kernel_rfl
 v72:=fun w=>by kernel_rfl
 t75:=by kernel_rfl
 a75:=fun w=>by kernel_rfl
 z75:=fun w=>by kernel_rfl
 v75:=fun w=>by kernel_rfl
 t76:=by kernel_rfl
 a76:=fun w=>by kernel_rfl
 z76:=fun w=>by kernel_rfl
 v76:=fun w=>by kernel_rfl
 t127:=by kernel_rfl
 a127:=fun w=>by kernel_rfl
 z127:=fun w=>by kernel_rfl
 v127:=fun w=>by kernel_rfl
 t164:=by kernel_rfl
 a164:=fun w=>by kernel_rfl
 z164:=fun w=>by kernel_rfl
 v164:=fun w=>by kernel_rfl
theorem jX:Builder.Extra Tryd.prog jR where
 sizeBuilder:=by kernel_rfl
 liesBuilder:=by kernel_rfl
 t5:=by kernel_rfl
 a5:=fun w=>by kernel_rfl
 z5:=fun w=>by kernel_rfl
 v5:=fun w=>by kernel_rfl
 infoByte:=by kernel_rfl
 cellsByte:=by kernel_rfl
 sizeByte:=by kernel_rfl
 neB5:=by decide
theorem uy (p0:List (List UInt8)) (p1:List UInt8) (h0:p0.length<=1099511627776) (hl:(Lib.join p0 p1).length<=140737488355328):Fn Tryd.prog 13 [.sl (List.map aa p0),.str p1] (.str (Lib.join p0 p1)):=by
 refine ⟨callable Tryd.func13 rfl (by kernel_rfl),fun w F σ vs hs hr=>?_⟩;have fin:∀ w',Below w.heap.size w w'->∃ v r aw' σ' F',Ending.returned (.string ⟨(Lib.join p0 p1).toArray⟩)=.returned v/\(r=.str (Lib.join p0 p1)/\aw'=[])/\Sim aw' σ' w' F'/\Rel σ' w' F' r v/\Mv [] σ w F aw' σ' w' F':=fun w' hb =>
  ⟨_,_,[],σ,F,rfl,⟨rfl,rfl⟩,hs.grow (fun _ h=>h) (fun _ h=>.inl h) (fun b hb'=>yv (hs.lt b hb') hb.size) hb.block,.str _,.grow (fun _ h=>h) (fun _ h=>.inl h) hb.os hb.tape ⟨hb.output,xR 0⟩ hb.size hb.block⟩
 match vs,hr with
 | [v0,v1],hr =>
  have hr0:Rel σ w F (.sl (List.map aa p0)) v0:=hr.2 0 _ v0 rfl rfl
  have hr1:Rel σ w F (.str p1) v1:=hr.2 1 _ v1 rfl rfl
  have e1:v1=.string ⟨p1.toArray⟩:=by cases hr1;rfl
  subst e1
  have none:∀ (a:Option Addr) (c:Nat),p0=[]->v0=.slice a 0 c->Calls Tryd.prog 13 [v0,.string ⟨p1.toArray⟩].toArray w fun e w'=>∃ v r aw' σ' F',e=.returned v/\(r=.str (Lib.join p0 p1)/\aw'=[])/\Sim aw' σ' w' F'/\Rel σ' w' F' r v/\Mv [] σ w F aw' σ' w' F':=by rintro a c hp rfl;refine (Any.strings_Join_none jL jX a c ⟨p1.toArray⟩ w).mono ?_;rintro e w' ⟨rfl,rfl⟩;have:=fin w' (.refl ..);rw [hp,Lib.join_nil] at this ⊢;exact this
  generalize hrows:List.map aa p0=rows at hr0
  cases hr0 with
  | slNil=>exact none _ _ (zt.1 hrows) rfl
  | sl _ size ad c u hF hn hm hrow hone hcell hrel =>
   subst hrows
   by_cases hp:p0=[]
   ·subst hp;exact none (some ad) c rfl rfl
   ·have hpl:0<p0.length:=List.length_pos_iff.2 hp
    have hsize:size=1:=by have h1:=hrow (aa p0[0]) (yb.2 ⟨_,xY _,rfl⟩);exact h1.symm
    subst hsize
    have hsp:ad.spot=Option.none:=by
     have h1:=hcell 0 0 (by simpa using hpl) (by omega);rw [show 0*1+0=0 from rfl,show ad.add 0=ad from rfl] at h1;unfold World.cell? at h1;split at h1
     ·split at h1
      ·cases h1
      ·rename_i hx;cases hs:ad.spot with
       | none=>rfl
       | some q=>rw [hs] at hx;simp at hx
     ·cases h1
    have had:ad=⟨ad.block,ad.off,Option.none⟩:=by cases ad;simp at hsp;subst hsp;rfl
    have hx:(p0.map fun s=>(⟨s.toArray⟩:ByteArray)).map (·.data.toList)=p0:=by simp [yN,Function.comp_def]
    have hJ:=Any.strings_Join jL jX ad.block ad.off c (p0.map fun s=>(⟨s.toArray⟩:ByteArray)) ⟨p1.toArray⟩ w (fun j x hj=>by
      rw [xJ,xU] at hj;obtain ⟨s,hs1,rfl⟩:=hj;have hlt:=(xG.1 hs1).1;have h1:=hcell j 0 (by simpa using hlt) (by omega);have h2:=hrel j (aa s) 0 (.str s) (by rw [xJ,hs1];rfl) rfl;have h3:u j 0=.string ⟨s.toArray⟩:=by generalize u j 0=q at h2;cases h2;rfl
      rw [h3,Nat.mul_one,yU] at h1;rw [<- h1];unfold Addr.add;split
      ·rename_i hz;rw [hz,yU,<- had]
      ·rfl) (hs.lt _ (hF (by simpa using hp))) (by simp;omega) (by simpa using hn) (by rw [hx];simpa using hl)
    rw [hx] at hJ
    simp only [xW] at hJ ⊢
    rw [had]
    refine Calls.mono hJ ?_
    rintro e w' ⟨rfl,hb⟩
    simpa using fin w' hb
end
section
open Go.RowKit
section
variable {P:Program} {N n:Nat} {aw aw':List Ob} {l:List (Nat × AV)} {σ:List Value} {w:World} {F:Nat→Prop}
theorem Mv.lose (id:Nat):Mv aw σ w F (aw.set id .dead) σ w F :=
 ⟨rfl,rfl,drO,xR _,fun _ _ _=>rfl,fun _ _ h=>h,fun _ h=>h,fun _ h=>.inl h,fun _ hb=>.inl hb.set_dead⟩
theorem Sim.take (h:Sim aw σ w F) (o:Ob) (v:Value) (ho:ORel (σ++[v]) w F o v) (hn:∀ b,Bk o v b->¬ Dof aw σ b):Sim (aw++[o]) (σ++[v]) w F :=
 h.push2 o v (fun _ _=>rfl) (xR _) ho hn
theorem Mv.take {aw0:List Ob} {σ0:List Value} (h:Sim aw σ w F) (m:Mv aw0 σ0 w F aw σ w F) (o:Ob) (v:Value) (hb:∀ b,Bk o v b->Dof aw0 σ0 b):Mv aw0 σ0 w F (aw++[o]) (σ++[v]) w F:=by
 refine ⟨rfl,rfl,drO,xR _,fun _ _ _=>rfl,fun i u hu=>bZ (m.pre i u hu),fun _ h=>h,fun _ h=>.inl h,fun b hb1=>?_⟩;obtain ⟨k,o1,v1,ho1,hl,hv1,hb2⟩:=hb1;rcases cB ho1 with h1 | ⟨rfl,rfl⟩
 ·have hlt:=(xG.1 h1).1;rw [xN (by rw [h.len];exact hlt)] at hv1;exact m.own b ⟨k,o1,v1,h1,hl,hv1,hb2⟩
 ·rw [<- h.len] at hv1;simp at hv1;subst hv1;exact .inl (hb b hb2)
end
end
section
open Go.RowKit
def PanX (P:Program) (V:Value) (f:FuncId) (args:List AV) (aw:List Ob):Prop :=
 (∀ vs w,(callFunc f vs).run P w=.ok (.enter f vs) w) /\
 ∀ w F σ vs,Sim aw σ w F->RelL σ w F args vs->Calls P f vs.toArray w fun e w'=>∃ σ' F',e=.panicked [{ v:=V,recovered:=false }]/\Sim (aw.map fun _=>Ob.dead) σ' w' F'/\Mv aw σ w F (aw.map fun _=>Ob.dead) σ' w' F'
section
variable {P:Program} {V:Value} {N n:Nat} {fr:List AV} {aw aw':List Ob} {l:List (Nat × AV)}
structure PP (P:Program) (V:Value) (N:Nat) (o:Oper) (fr:List AV) (aw:List Ob) (Kp:List AV->List Ob->Prop):Prop where
 out:∀ st:St,st.aw.length=N->st.σ.length=st.aw.length->∀ σ w F a,Cur st fr aw σ w F a->∀ (Kc:Act->World->Prop) (Q:Exit->Act->World->Prop),
  (∀ aw' σ' w' F',Kp fr aw'->Cur st fr aw' σ' w' F' a->Q (.panic [{ v:=V,recovered:=false }]) a w')->o.wp P a w Kc Q
theorem sj {o:Oper} {a:Act} {next next':Act->World->Prop} {Q Q':Exit->Act->World->Prop} (hn:∀ a w,next a w->next' a w) (hp:∀ ch a w,Q (.panic ch) a w->Q' (.panic ch) a w) (hl:LetsOut Q->LetsOut Q') :
  ∀ r,o.upon P a next Q r->o.upon P a next' Q' r:=by
 intro r h
 unfold Oper.upon at h ⊢
 split at h
 ·exact hn _ _ h
 ·exact hn _ _ h
 ·exact hn _ _ h
 ·refine Calls.mono h ?_
  intro e w he
  cases e with
  | returned v=>exact hn _ _ he
  | panicked ch=>exact hp _ _ _ he
  | outgrown=>exact hl he
 ·exact Rows.mono h fun v w hv=>hn _ _ hv
 ·exact hp _ _ _ h
 ·exact h.elim
def thenL (P:Program) (ops:Array Oper) (rest:List Oper) (Q:Exit->Act->World->Prop):Exit->Act->World->Prop
 | .normal,a,w=>wpList P ops Q rest a w
 | e,a,w=>Q e a w
theorem iU {ops:Array Oper} {Q:Exit->Act->World->Prop} {rest:List Oper}:∀ (pre:List Oper) (a:Act) (w:World),wpList P ops (thenL P ops rest Q) pre a w->wpList P ops Q (pre++rest) a w
 | [],a,w,h=>h
 | o::pre,a,w,h=>by
  rw [yB];unfold wpList at h ⊢;split at h
  ·rename_i hw;rw [if_pos hw];rcases h with h | ⟨h1,h2⟩
   ·exact .inl (sj (fun a w h=>iU pre a w h) (fun _ _ _ h=>h) (fun h=>h) _ h)
   ·exact .inr ⟨h1,h2⟩
  ·rename_i hw;rw [if_neg hw];exact iU pre _ w h
theorem PP.call {d:Option Tmp} {ty:TypeId} {ps:String} {af:Array Edge} {g:Option (Nat × Bool)} {Kp:List AV->List Ob->Prop} {f:Operand} {args:Array Operand} {ts:Array TypeId} {h:FuncId} {caps ac as0:List AV} {aw0 aw2:List Ob} {n0:Nat} (ρ:List Nat) (hn0:aw.length=n0)
  (hf:evA n l f=.func h caps) (ha:args.toList.map (evA n l)++caps=ac) (hnd:ρ.Nodup) (hW:aO ρ aw ρ aw0) (hA:be ρ as0 ac) (hC:PanX P V h as0 aw0) (hlen:aw2.length+ρ.length=n0+aw0.length)
  (hB:dB (aV ρ n0 aw0.length) ρ aw (aw0.map fun _=>Ob.dead) 0 aw2) (hK:Kp (mkA n l) aw2):PP P V N ⟨d,.call ⟨.value f,args,ts⟩,ty,ps,af,g⟩ (mkA n l) aw Kp :=
 ⟨fun st h1 h2 σ w F a hc Kc Q hk=>by
  subst hn0;have hfv:=hc.fr.ev f;rw [ab,hf] at hfv;generalize hvf:a.eval f=vf at hfv;cases hfv with
  | func _ _ cvs hl hcs =>
   have hargs:RelL σ w F ac (args.toList.map a.eval++cvs):=by rw [<- ha];have:=eH hc.fr args.toList;rw [show args.toList.map (ev (mkA n l))=args.toList.map (evA n l) from yp fun x _=>ab n l x] at this;exact this.append ⟨hl,hcs⟩
   obtain ⟨hlW,hgW⟩:=eJ hW;obtain ⟨σ0',hσ',hs0',hd0'⟩:=eP hc.sim hnd hW;have hl0:σ0'.length=ρ.length:=by rw [hs0'.len,hlW]
   have hr0:RelL σ0' w F as0 (args.toList.map a.eval++cvs):=cm hA hargs hσ';have hrun:(execOp a.eval ⟨d,.call ⟨.value f,args,ts⟩,ty,ps,af,g⟩).run P w=.ok (.enter h (args.toList.map a.eval++cvs).toArray) w:=by
    have e:args.map a.eval++cvs.toArray=(args.toList.map a.eval++cvs).toArray:=by obtain ⟨l⟩:=args;simp
    simp only [execOp,resolve,Deferred.ofValue,hvf,Sem.run_bind,Sem.run_pure,Result.andThen_ok,invoke,zy,e,hC.1]
   unfold Oper.wp;rw [hrun];refine (hC.2 w F σ0' _ hs0' hr0).mono ?_;rintro e w' ⟨σ1,F',rfl,hs1,hm⟩;obtain ⟨σ2,s2,m2,hσ2⟩:=iV (aw2:=aw2) hc.sim hnd hW hσ' hl0 hs0' hd0' hs1 hm (by rw [xW];exact hlen) (by rw [xW];exact hB);exact hk aw2 σ2 w' F' hK (hc.step s2 m2)⟩
def panQ (V:Value):Exit->List AV->List Ob->Prop
 | .panic ch,_,_=>ch=[{ v:=V,recovered:=false }]
 | _,_,_=>False
end
end
section
open Go.RowKit
section
variable {P:Program} {N n:Nat} {σ:List Value} {w:World} {F:Nat→Prop} {aw aw':List Ob} {l:List (Nat × AV)} {K2:AV→List Ob→Prop} {d:Option Tmp} {ty:TypeId} {ps:String} {af:Array Edge} {g:Option (Nat × Bool)}
theorem uH {id:Nat} {o o':Ob} {v:Value} (h:Sim aw σ w F) (ho:aw[id]?=some o) (hl:o.live=true) (hv:σ[id]?=some v) (hr:ORel σ w F o' v) (hb:∀ b,Bk o' v b->Bk o v b) :
  Sim (aw.set id o') σ w F/\∀ b,Dof (aw.set id o') σ b->Dof aw σ b:=by
 have old:∀ (k:Nat) p u b,(aw.set id o')[k]?=some p->p.live=true->σ[k]?=some u->Bk p u b->∃ q,aw[k]?=some q/\q.live=true/\Bk q u b:=fun k p u b hp hpl hu hbk=>by
  rcases co hp with ⟨rfl,rfl,_⟩ | ⟨_,h2⟩
  ·rw [hv] at hu;cases hu;exact ⟨o,ho,hl,hb b hbk⟩
  ·exact ⟨p,h2,hpl,hbk⟩
 refine ⟨⟨by rw [yo];exact h.len,fun k p u hp hu=>?_,fun k k' p p' u u' b hne hp hp' hpl hpl' hu hu' hbk hbk'=>?_,h.lt⟩,fun b hd=>?_⟩
 ·rcases co hp with ⟨rfl,rfl,_⟩ | ⟨_,h2⟩
  ·rw [hv] at hu;cases hu;exact hr
  ·exact h.obj k p u h2 hu
 ·obtain ⟨q,h1,h2,h3⟩:=old k p u b hp hpl hu hbk
  obtain ⟨q',h1',h2',h3'⟩:=old k' p' u' b hp' hpl' hu' hbk'
  exact h.sep k k' q q' u u' b hne h1 h1' h2 h2' hu hu' h3 h3'
 ·obtain ⟨k,p,u,hp,hpl,hu,hbk⟩:=hd
  obtain ⟨q,h1,h2,h3⟩:=old k p u b hp hpl hu hbk
  exact ⟨k,q,u,h1,h2,hu,h3⟩
theorem vk {aw0 aw2:List Ob} {σ0:List Value} {w0:World} {F0:Nat->Prop} (h:Mv aw0 σ0 w0 F0 aw σ w F) (hd:∀ b,Dof aw2 σ b->Dof aw σ b):Mv aw0 σ0 w0 F0 aw2 σ w F :=
 ⟨h.os,h.tape,h.output,h.size,h.keep,h.pre,h.sub,h.sup,fun b hb=>h.own b (hd b hb)⟩
def unB:Ob->Ob
 | .boxB _ cs=>.box cs
 | o=>o
theorem n9 (o:Ob):(unB o).live=o.live:=by cases o<;>rfl
theorem pD {o:Ob} {v:Value} {b:Nat}:Bk (unB o) v b ↔ Bk o v b:=by cases o<;>exact Iff.rfl
theorem uw (h:Sim aw σ w F):Sim (aw.map unB) σ w F:=by
 have old:∀ (k:Nat) p,(aw.map unB)[k]?=some p->∃ q,aw[k]?=some q/\p=unB q:=fun k p hp=>by rw [xJ] at hp;obtain ⟨q,h1,h2⟩:=xU.1 hp;exact ⟨q,h1,h2.symm⟩
 refine ⟨by rw [xW];exact h.len,fun k p u hp hu=>?_,fun k k' p p' u u' b hne hp hp' hpl hpl' hu hu' hbk hbk'=>?_,h.lt⟩
 ·obtain ⟨q,h1,rfl⟩:=old k p hp;have hr:=h.obj k q u h1 hu;cases q with
  | boxB t cs =>
   obtain ⟨g,vs,e1,hg,hr1,h11,hf⟩:=hr;exact ⟨g,vs,t,e1,hg,hr1,h11,hf⟩
  | _=>exact hr
 ·obtain ⟨q,h1,rfl⟩:=old k p hp;obtain ⟨q',h1',rfl⟩:=old k' p' hp';exact h.sep k k' q q' u u' b hne h1 h1' (by rw [<- n9];exact hpl) (by rw [<- n9];exact hpl') hu hu' (pD.1 hbk) (pD.1 hbk')
theorem OP.qB {o:Oper} (hq:∀ K:AV->Prop,vcQ P (mkA n l) (aw.map unB) o.op K->∀ σ w F a,ARel σ w F (mkA n l) a->Sim (aw.map unB) σ w F->∃ v r,(execOp a.eval o).run P w=.ok (.value v) w/\Rel σ w F r v/\K r)
  (h:vcQ P (mkA n l) (aw.map unB) o.op fun r=>K2 r aw):OP P N o (mkA n l) aw K2 :=
 OP.of_ok fun σ w F a ha hs=>by obtain ⟨v,r,h1,h2,h3⟩:=hq _ h σ w F a ha (uw hs);exact ⟨v,_,w,aw,σ,F,r,h1,.inl rfl,hs,.refl _ _ _ _,h2,h3⟩
theorem OP.qB' {o:Oper} (h:vcQ P (mkA n l) (aw.map unB) o.op fun r=>K2 r aw):OP P N o (mkA n l) aw K2 :=
 OP.qB (fun K hK σ w F a ha hs=>by obtain ⟨v,r,h1,h2,h3⟩:=k6 ha hs o hK;exact ⟨v,r,h1 w (fun _ _=>rfl),h2,h3⟩) h
theorem tg {t:TypeId} {x y:Operand} {id off T:Nat} {cs vs:List AV} (hx:evA n l x=.ptr id off) (hob:aw[id]?=some (.boxB T cs)) (hvs:(evA n l y).cells=some vs) {du:TypeDesc} (hsome:P.underlying t=some du) (hlen:vs.length=P.cellsOf t) (hfit:off+vs.length<=cs.length)
  (haw:aw.set id (.boxB T (splice cs off vs))=aw') (h:K2 .any aw'):OP P N ⟨d,.store t x y,ty,ps,af,g⟩ (mkA n l) aw K2 :=
 OP.of_ok fun σ w F a ha hs=>by
  subst haw;have hex:=ha.ev x;rw [ab,hx] at hex;obtain ⟨hr,h1⟩:=(ha.ev y).cells (by rw [ab];exact hvs);generalize hv:a.eval x=vx at hex;cases hex with
  | ptr _ _ gg hσ =>
   obtain ⟨g',cur,e1,hg,hcr,hc1,hF⟩:=hs.obj id _ _ hob hσ;injection e1 with e1
   injection e1 with e1
   injection e1 with e1
   subst e1;have hcl:cur.size=cs.length:=by simpa using hcr.1
   have hul:(a.eval y).cells.toList.length=vs.length:=hr.1;have hst:=run_storeCells_at P gg off T (a.eval y).cells.toList 0 cur w hg (by rw [hul];omega) h1;have hk:∀ b,b≠gg->(w.setRow gg (aS cur.toList off (a.eval y).cells.toList).toArray).heap[b]?=w.heap[b]?:=fun b hb=>setRow_other w gg b _ hb
   have hself:Sim (aw.set id (.boxB T (splice cs off vs))) σ (w.setRow gg (aS cur.toList off (a.eval y).cells.toList).toArray) F:=by
    refine hs.write (b0:=gg) id hob rfl hσ rfl hk (by simp) (.boxB T (splice cs off vs)) ⟨gg,_,rfl,setRow_heap w gg cur _ T (0,0) hg,?_,?_,hF⟩ (fun _ h=>h)
    ·have:=(hcr.splice off hr).mono (σ':=σ) (w':=w.setRow gg (aS cur.toList off (a.eval y).cells.toList).toArray) (F':=F) (fun _ _ e=>e) (fun _ e=>e) (fun b hb=>hk b (fun e=>hF (e▸hb)));simpa using this
    ·intro u hu;exact iS (fun u hu=>hc1 u (zj.2 hu)) h1 u (by simpa using hu)
   refine ⟨undef,_,_,_,σ,F,.any,?_,.inr ⟨rfl,rfl⟩,hself,Mv.write (w:=w) (F:=F) (w':=w.setRow gg _) (b0:=gg) id hob rfl hσ rfl rfl rfl drO hk (by simp) (.boxB T (splice cs off vs)) (fun _ h=>h),.any _,h⟩;have hsz:(a.eval y).cells.size=P.cellsOf t:=by simp at hul;omega
   simp only [yU] at hst;simp [execOp,hv,Instr.storeAt,Instr.sureAddr,storeVar,Sem.run_bind,cy hsome,hsz,hst,aS]
theorem tw {t e z k:Nat} (hz:ai P t=some [.nilp,.nils]) (hk:aw.length=k) (haw:aw++[.boxB t [.np k,.ref (k+1)],.arr e z []]=aw') (h:K2 (.ptr k 0) aw'):OP P N ⟨d,.alloc t,ty,ps,af,g⟩ (mkA n l) aw K2 :=
 OP.of_ok fun σ w F a ha hs=>by
  subst hk haw;obtain ⟨i,v,hi,hiz,hzl,hz1,hzr⟩:=f5 hz;obtain ⟨s1,m1,r1⟩:=kG hs [.nilp,.nils] v.cells t (hzr σ w F) hz1;obtain ⟨s2,m2,r2⟩:=jd e z s1;have hlen:=hs.len;have hσ:(σ++[Value.pointer (some ⟨w.heap.size,0,none⟩)]++[Value.slice none 0 0])[aw.length]?=some (Value.pointer (some ⟨w.heap.size,0,none⟩)):=by simp [<- hlen]
  have hσ2:(σ++[Value.pointer (some ⟨w.heap.size,0,none⟩)]++[Value.slice none 0 0])[aw.length+1]?=some (Value.slice none 0 0):=by simp [<- hlen]
  have hid:(aw++[Ob.box [.nilp,.nils]]++[Ob.arr e z []])[aw.length]?=some (Ob.box [.nilp,.nils]):=by simp
  obtain ⟨gq,vs,tyq,e1,hg,hcr,hc1,hF⟩:=s2.obj _ _ _ hid hσ;injection e1 with e1
  injection e1 with e1
  injection e1 with e1
  subst e1;have hty:(w.alloc (.cells v.cells t)).heap[w.heap.size]?=some (.cells v.cells t (0,0)):=by show (w.heap.push _)[w.heap.size]?=_;simp
  rw [hty] at hg;cases hg;have hnew:RelL (σ++[Value.pointer (some ⟨w.heap.size,0,none⟩)]++[Value.slice none 0 0]) (w.alloc (.cells v.cells t)) F [.np aw.length,.ref (aw.length+1)] v.cells.toList:=by
   obtain ⟨hl2,hc⟩:=hcr;refine ⟨hl2,fun j x u hx hu=>?_⟩;match j,hx with
   | 0,hx =>
    cases hx
    have:=hc 0 _ u rfl hu
    cases this
    exact .np0 _
   | 1,hx =>
    cases hx
    have:=hc 1 _ u rfl hu
    cases this
    exact .ref _ _ _ _ hσ2
  obtain ⟨s3,hd3⟩:=uH s2 hid rfl hσ (o':=.boxB t [.np aw.length,.ref (aw.length+1)]) ⟨_,_,rfl,hty,hnew,hc1,hF⟩ (fun _ h=>h);have e3:(aw++[Ob.box [.nilp,.nils]]++[Ob.arr e z []]).set aw.length (.boxB t [.np aw.length,.ref (aw.length+1)])=aw++[.boxB t [.np aw.length,.ref (aw.length+1)],.arr e z []]:=by simp
  rw [e3] at s3 hd3;refine ⟨_,_,_,_,_,F,.ptr aw.length 0,?_,.inl rfl,s3,vk (m1.trans m2) hd3,.ptr _ _ _ hσ,h⟩;simp [execOp,Instr.alloc,Sem.run_bind,iF hi hiz,newVar,newRow]
theorem T.mvBB {T0:Nat} {c:Code} {Q:Exit->List AV->List Ob->Prop} {fr:List AV} (b j id:Nat) {e s n0:Nat} {rows:List (List AV)} {cs cs':List AV} (hb:aw[b]?=some (.boxB T0 cs)) (hj:cs[j]?=some (.ref id)) (ho:aw[id]?=some (.arr e s rows)) (hn:aw.length=n0) (hc:cs.set j (.ref n0)=cs') (ha:(aw.set id .dead).set b (.boxB T0 cs')++[.arr e s rows]=aw') (h:T P N c Q fr aw'):T P N c Q fr aw :=
 ⟨fun st h1 h2 σ w F a hcur=>by
  subst hc ha hn;have hbl:b<aw.length:=(xG.1 hb).1;have hbσ:∃ vb,σ[b]?=some vb:=⟨_,xH (by rw [hcur.sim.len];exact hbl)⟩
  obtain ⟨vb,hvb⟩:=hbσ;obtain ⟨g,vs,rfl,hg,hcr,h1c,hf⟩:=hcur.sim.obj b _ vb hb hvb;obtain ⟨u,hu,hru⟩:=hcr.get hj;cases hru with
  | ref _ A m c2 hgσ =>
   obtain ⟨s1,m1⟩:=oT hcur.sim ho hgσ;have hbid:b≠id:=by rintro rfl;rw [hb] at ho;cases ho
   have hb1:(aw.set id .dead++[.arr e s rows])[b]?=some (.boxB T0 cs):=by rw [xN (by simpa using hbl),xV,if_neg (fun e=>hbid e.symm)];exact hb
   have hnew:ORel (σ++[.slice A m c2]) w F (.boxB T0 (cs.set j (.ref aw.length))) (.pointer (some ⟨g,0,none⟩)):=by
    refine ⟨g,vs,rfl,hg,?_,h1c,hf⟩;have hcr1:=m1.relL hcur.sim hcr;have:=hcr1.set j (Rel.ref (σ:=σ++[.slice A m c2]) (w:=w) (F:=F) aw.length A m c2 (by rw [<- hcur.sim.len];simp));have e2:vs.toList.set j (.slice A m c2)=vs.toList:=by obtain ⟨hlt2,hvs⟩:=xG.1 hu;rw [<- hvs];exact yq hlt2
    rwa [e2] at this
   have hvb1:(σ++[.slice A m c2])[b]?=some (.pointer (some ⟨g,0,none⟩)):=bZ hvb;have hset:(aw.set id .dead).set b (.boxB T0 (cs.set j (.ref aw.length)))++[Ob.arr e s rows]=(aw.set id .dead++[Ob.arr e s rows]).set b (.boxB T0 (cs.set j (.ref aw.length))):=by rw [List.set_append_left _ _ (by simpa using hbl)]
   rw [hset] at h;have s2:=s1.write (b0:=g) b hb1 rfl hvb1 rfl (fun _ _=>rfl) rfl _ hnew (fun _ h=>h);have m2:=Mv.write (w:=w) (w':=w) (F:=F) (b0:=g) b hb1 rfl hvb1 rfl rfl rfl drO (fun _ _=>rfl) rfl (.boxB T0 (cs.set j (.ref aw.length))) (fun _ h=>h);exact h.out st h1 h2 _ w F a ⟨s2,m2.aRel s1 (m1.aRel hcur.sim hcur.fr),(hcur.mv.trans m1).trans m2,hcur.ds⟩⟩
theorem rr {t id off T:Nat} {x:Operand} {cs:List AV} (hx:evA n l x=.ptr id off) (ho:aw[id]?=some (.boxB T cs)) (h:aL P t cs off fun r=>K2 r aw):OP P N ⟨d,.load t x,ty,ps,af,g⟩ (mkA n l) aw K2 :=
 OP.qB' (by
  have ho':(aw.map unB)[id]?=some (.box cs):=by rw [xJ,ho];rfl
  simp only [vcQ,ab,hx,ho'];exact h)
end
end
section
open Go.RowKit
def Idle (P:Program) (d:Deferred):Prop:=∃ fv cap f args,d.target=.fn fv cap/\(∀ w,(invoke d.target d.args).run P w=.ok (.enter f args) w) /\
 ∀ w,CallsD P f args .returning w fun e u' w'=>(∃ v,e=.returned v)/\u'=.returning/\w'=w
def IdleF (P:Program) (g:FuncId) (k:Nat):Prop:=∀ cvs:List Value,cvs.length=k->Idle P ⟨.fn (.func g) cvs.toArray,#[]⟩
section
variable {P:Program} {N n:Nat} {fr:List AV} {aw:List Ob} {l:List (Nat × AV)} {Q:Exit→List AV→List Ob→Prop}
def CQD (P:Program) (st:St) (Q:Exit->List AV->List Ob->Prop) (e:Exit) (a:Act) (w:World):Prop:=CQ st Q e a w∨∃ d,Idle P d/\CQ { st with ds:=[d] } Q e a w
structure TD (P:Program) (N:Nat) (c:Code) (Q:Exit->List AV->List Ob->Prop) (fr:List AV) (aw:List Ob):Prop where
 out:∀ st:St,st.aw.length=N->st.σ.length=st.aw.length->st.ds=[]->∀ σ w F a,Cur st fr aw σ w F a->c.wp P (CQD P st Q) a w
theorem TD.seq {x y:Code} (h:T P N x (thenA (TD P N y Q) Q) fr aw):TD P N (.seq x y) Q fr aw :=
 ⟨fun st h1 h2 h3 σ w F a hc=>wp_seq (wp_mono (h.out st h1 h2 σ w F a hc) (by
  rintro e a' w' ⟨fr',aw',σ',F',hq,hcur⟩;cases e with
  | normal=>exact TD.out hq st h1 h2 h3 σ' w' F' a' hcur
  | _=>exact .inl ⟨fr',aw',σ',F',hq,hcur⟩))⟩
theorem TD.defer {id:Nat} {ops:Array Oper} {y:Code} {ty:TypeId} {ps:String} {af:Array Edge} {f:Operand} {ts:Array TypeId} (i:Nat) (ho:ops.toList.drop i=[⟨none,.defer ⟨.value f,#[],ts⟩,ty,ps,af,none⟩])
  (h:RS P N ops (ops.toList.take i) (fun fr aw=>∃ l caps g,fr=mkA n l/\evA n l f=.func g caps/\IdleF P g caps.length/\T P N y Q (mkA n l) aw) fr aw):TD P N (.seq (.region id ops false) y) Q fr aw :=
 ⟨fun st h1 h2 h3 σ w F a hc=>by
  refine wp_seq (wp_region_list ?_);rw [<- y6 i ops.toList,ho];refine iU _ _ _ (h.out st h1 h2 σ w F a hc _ fun fr aw σ w F a hc hK=>?_);obtain ⟨l,caps,g,rfl,hf,hI,hT⟩:=hK;show wpList P ops _ (_::[]) a w;unfold wpList;rw [if_pos (by simp [Region.wanted])];refine .inl ?_;have hfv:=hc.fr.ev f;rw [ab,hf] at hfv;generalize hvf:a.eval f=vf at hfv;cases hfv with
  | func _ _ cvs hl hcs =>
   have hrun:(execOp a.eval ⟨none,.defer ⟨.value f,#[],ts⟩,ty,ps,af,none⟩).run P w=.ok (.defer ⟨.fn (.func g) cvs.toArray,#[]⟩) w:=by simp [execOp,resolve,Deferred.ofValue,hvf,Sem.run_bind]
   unfold Oper.wp;rw [hrun,Oper.upon_defer];show wpList P ops _ [] _ w;unfold wpList;refine wp_mono (hT.out { st with ds:=[⟨.fn (.func g) cvs.toArray,#[]⟩] } h1 h2 σ w F _ ?_) fun _ _ _ h=>.inr ⟨_,hI cvs hl,h⟩
   refine ⟨hc.sim,hc.fr,hc.mv,?_⟩;have hds:=hc.ds;rw [h3] at hds;show _::a.defers=_;rw [hds]⟩
theorem tk {f:FuncId} {fn:Func} {c:Code} {args:List AV} {aw:List Ob} {Q:AV->List Ob->Prop} {m N:Nat} (hN:aw.length=N) (hf:P.funcs[f]?=some fn) (hb:fn.body=some c) (hname:(fn.name == "runtime.NumGoroutine")=false) (hm:fn.ntmps=m) (hl:Nat.ble args.length m=true)
  (h:TD P N c (retQ P fn N Q) (mkA m (initA 0 args)) aw):ACalls P f args aw Q:=by
 subst hm hN
 refine ⟨callable hf (by rw [hb];rfl) hname,fun w F σ vs hs hr=>?_⟩
 have hc:Cur ⟨aw,σ,w,F,[]⟩ (args++List.replicate (fn.ntmps - args.length) .any) aw σ w F { tmps:=vs.toArray++Array.replicate (fn.ntmps - vs.toArray.size) undef,defers:=[] }:=by
  refine ⟨hs,⟨?_,tqz⟩,.refl ..,rfl⟩;have h2:RelL σ w F (List.replicate (fn.ntmps - args.length) .any) (List.replicate (fn.ntmps - vs.length) undef) :=
   ⟨by simp [hr.1],fun j x v hx hv=>by rw [yF (xK hx)];exact .any v⟩
  simpa using hr.append h2
 rw [nK _ _ (yD hl)] at hc
 refine calls_of_wp_defers hf hb (wp_mono (h.out ⟨aw,σ,w,F,[]⟩ rfl hs.len rfl σ w F _ hc) ?_)
 have key:∀ (ds:List Deferred) (a':Act) (w':World) (fr':List AV) (aw':List Ob) (σ':List Value) (F':Nat->Prop),Cur ⟨aw,σ,w,F,ds⟩ fr' aw' σ' w' F' a'->aG P fr' aw' fn.results.toList (Ret aw.length Q aw')->∃ v,(results fn a'.tmps).run P w'=.ok v w' /\
   (∃ v' r aw2 σ2 F2,Ending.returned v=.returned v'/\Q r aw2/\Sim aw2 σ2 w' F2/\Rel σ2 w' F2 r v'/\Mv aw σ w F aw2 σ2 w' F2):=by
  intro ds a' w' fr' aw' σ' F' hcur hq
  obtain ⟨rs,us,h1,⟨nl,z,r',aw2,hW,hQ⟩,h3⟩:=ic hcur.fr hcur.sim _ _ hq
  obtain ⟨σn,sn,h1n,mn⟩:=f4 nl hcur.sim h1
  refine ⟨_,kj fn a'.tmps us h3,?_⟩
  have hrel:=kM h1n
  have fin:∀ (r1:AV) (aw1:List Ob) (F1:Nat->Prop),Sim aw1 σn w' F1->Mv aw σ w F aw1 σn w' F1->Rel σn w' F1 r1 (if h:us.length=1 then us[0] else .tuple us.toArray)->WeakR aw.length r1 aw1 r' aw2 ->
    ∃ v' r aw2 σ2 F2,Ending.returned (if h:us.length=1 then us[0] else .tuple us.toArray)=.returned v'/\Q r aw2/\Sim aw2 σ2 w' F2/\Rel σ2 w' F2 r v'/\Mv aw σ w F aw2 σ2 w' F2:=by
   intro r1 aw1 F1 s1 m1 hr1 ⟨ρ,hnd,hρ,hren,hRW⟩
   obtain ⟨σ2,hσ,s2,hd⟩:=eP s1 hnd hRW
   exact ⟨_,r',aw2,σ2,F1,rfl,hQ,s2,hren σn w' F1 _ hr1 σ2 hσ,Mv.ren (st:=⟨aw,σ,w,F,[]⟩) hs.len m1 hρ hσ hd⟩
  cases z with
  | true =>
   obtain ⟨F1,s1,m1,r1⟩:=kF sn hrel
   exact fin _ _ F1 s1 ((hcur.mv.trans mn).trans m1) r1 hW
  | false=>exact fin _ _ F' sn (hcur.mv.trans mn) hrel hW
 have leave:∀ (a':Act) (w':World) (fr':List AV) (aw':List Ob) (σ':List Value) (F':Nat->Prop) (ds:List Deferred),(ds=[]∨∃ d,Idle P d/\ds=[d])->Cur ⟨aw,σ,w,F,ds⟩ fr' aw' σ' w' F' a'->aG P fr' aw' fn.results.toList (Ret aw.length Q aw') ->
   Leaves P fn a'.tmps (fun e w'=>∃ v r aw' σ' F',e=.returned v/\Q r aw'/\Sim aw' σ' w' F'/\Rel σ' w' F' r v/\Mv aw σ w F aw' σ' w' F') a'.defers .returning w':=by
  intro a' w' fr' aw' σ' F' ds hds hcur hq
  have hk:=key ds a' w' fr' aw' σ' F' hcur hq
  have hd:=hcur.ds
  rcases hds with rfl | ⟨d,⟨fv,cap,g,gargs,e1,e2,e3⟩,rfl⟩
  ·rw [hd];exact hk
  ·rw [hd]
   refine ⟨by simp,fv,cap,g,gargs,e1,e2 w',(e3 w').mono ?_⟩
   rintro e u' w'' ⟨⟨v,rfl⟩,rfl,rfl⟩
   exact hk
 rintro e a' w' (⟨fr',aw',σ',F',hq,hcur⟩ | ⟨d,hI,fr',aw',σ',F',hq,hcur⟩)
 ·cases e with
  | normal=>exact leave _ _ _ _ _ _ _ (.inl rfl) hcur hq
  | ret=>exact leave _ _ _ _ _ _ _ (.inl rfl) hcur hq
  | exit id=>exact hq.elim
  | goto l=>exact hq.elim
  | panic ch=>exact hq.elim
  | outgrown=>exact hq.elim
 ·cases e with
  | normal=>exact leave _ _ _ _ _ _ _ (.inr ⟨d,hI,rfl⟩) hcur hq
  | ret=>exact leave _ _ _ _ _ _ _ (.inr ⟨d,hI,rfl⟩) hcur hq
  | exit id=>exact hq.elim
  | goto l=>exact hq.elim
  | panic ch=>exact hq.elim
  | outgrown=>exact hq.elim
end
end
section
open Go.RowKit
set_option maxRecDepth 100000
set_option maxHeartbeats 4000000
theorem uX (b:Nat) (w:World) (h0:w.cell? ⟨b,0,none⟩=some (.pointer (some ⟨b,0,none⟩))) :
  Calls Tryd.prog 26 #[.pointer (some ⟨b,0,none⟩)] w fun e w'=>e=.returned (.tuple #[])/\w'=w:=by
 obtain ⟨j,hj,hjs⟩:=xU.1 (show (Tryd.prog.info? 43).map (·.size)=some 2 by kernel_rfl)
 go_enter Tryd.func26,Tryd.ntmps26
 go_wp2
 rw [Lib.run_neq_ptr_same w _ Tryd.underlying40 hj]
 go_wp2
 go_end0
 exact ⟨rfl,rfl⟩
theorem tW (b:Nat) (w:World) (h0:w.cell? ⟨b,0,none⟩=some (.pointer none)) (hsh:w.shape? b=some (43,2)) (hfz:w.frozen? ⟨b,0,none⟩=false) :
  Calls Tryd.prog 26 #[.pointer (some ⟨b,0,none⟩)] w fun e w'=>e=.returned (.tuple #[])/\w'=w.setCell ⟨b,0,none⟩ (.pointer (some ⟨b,0,none⟩)):=by
 obtain ⟨j,hj,hjs⟩:=xU.1 (show (Tryd.prog.info? 43).map (·.size)=some 2 by kernel_rfl)
 go_enter Tryd.func26,Tryd.ntmps26
 go_wp2
 rw [Lib.run_to_unsafe w ⟨b,0,none⟩ Tryd.underlying40 Tryd.underlying80 hj (by rw [hjs];decide) hsh (Nat.zero_lt_succ 1)]
 simp only [Result.andThen]
 rw [Oper.upon_value]
 go_wp2
 rw [run_callFunc_extern Tryd.func38 (by kernel_rfl) (by kernel_rfl) (by kernel_rfl) (e:=Extern.AbiNoEscape.same) (by kernel_rfl)]
 rw [Lib.run_noEscape]
 simp only [Result.andThen]
 rw [Oper.upon_value]
 go_wp2
 rw [Lib.run_from_unsafe w ⟨b,0,none⟩ Tryd.underlying80 Tryd.underlying40 hj hsh (by kernel_rfl)]
 simp only [Result.andThen]
 rw [Oper.upon_value]
 go_wp2
 go_end0
 exact ⟨rfl,rfl⟩
theorem q9 (rows:List (List AV)):FnX Tryd.prog 26 [.ptr 0 0] [.boxB 43 [.np 0,.ref 1],.arr 5 1 rows] (.tup []) [.boxB 43 [.np 0,.ref 1],.arr 5 1 rows]:=by
 refine ⟨callable Tryd.func26 rfl (by kernel_rfl),fun w F σ vs hs hr=>?_⟩;match vs,hr with
 | [v0],hr =>
  have r0:Rel σ w F (.ptr 0 0) v0:=hr.2 0 _ v0 rfl rfl
  cases r0 with
  | ptr _ _ g hσ =>
  obtain ⟨g',us,e1,hg,hcr,hc1,hF⟩:=hs.obj 0 _ _ rfl hσ
  injection e1 with e1
  injection e1 with e1
  injection e1 with e1
  subst e1
  have hlen:us.size=2:=by simpa using hcr.1
  obtain ⟨p,hp,hrp⟩:=hcr.get (j:=0) (a:=.np 0) rfl
  have hp':us[0]?=some p:=by simpa using hp
  have hcell:w.cell? ⟨g,0,none⟩=some p:=by rw [World.cell?];simp [hg,hp']
  cases hrp with
  | np0 _ =>
   have hsh:w.shape? g=some (43,2):=by simp [World.shape?,hg,hlen]
   have hfz:w.frozen? ⟨g,0,none⟩=false:=by simp [World.frozen?,hg]
   refine (tW g w hcell hsh hfz).mono ?_
   rintro e w' ⟨rfl,rfl⟩
   have hk:∀ b,b≠g->(w.setCell ⟨g,0,none⟩ (.pointer (some ⟨g,0,none⟩))).heap[b]?=w.heap[b]?:=fun b hb=>by
    have:¬ g=b:=fun e=>hb e.symm
    rw [Go.Sort.setCell_eq];simp [Go.Sort.mapBlock,yE,this]
   have hsz:(w.setCell ⟨g,0,none⟩ (.pointer (some ⟨g,0,none⟩))).heap.size=w.heap.size:=by rw [Go.Sort.setCell_eq];simp [Go.Sort.mapBlock]
   have hg':(w.setCell ⟨g,0,none⟩ (.pointer (some ⟨g,0,none⟩))).heap[g]?=some (.cells (us.setIfInBounds 0 (.pointer (some ⟨g,0,none⟩))) 43 (0,0)):=by rw [Go.Sort.setCell_eq];simp [Go.Sort.mapBlock,yE,hg,Go.Sort.onCells]
   have hnew:RelL σ (w.setCell ⟨g,0,none⟩ (.pointer (some ⟨g,0,none⟩))) F [.np 0,.ref 1] (us.setIfInBounds 0 (.pointer (some ⟨g,0,none⟩))).toList:=by
    refine ⟨by simp [hlen],fun j x u hx hu=>?_⟩;match j,hx with
    | 0,hx =>
     cases hx
     simp [hlen] at hu
     subst hu
     exact .npS 0 g hσ
    | 1,hx =>
     cases hx
     have hu2:us[1]?=some u:=by simpa using hu
     have:=hcr.2 1 _ u rfl (by simpa using hu2)
     cases this with
     | ref _ A q cp h9=>exact .ref 1 A q cp h9
   have hone:∀ u,u∈us.setIfInBounds 0 (.pointer (some ⟨g,0,none⟩))->u.oneCell'=true:=fun u hu=>by
    rcases Array.mem_or_eq_of_mem_setIfInBounds hu with h | h
    ·exact hc1 u h
    ·subst h;rfl
   have s1:=hs.write (b0:=g) 0 rfl rfl hσ rfl hk hsz (.boxB 43 [.np 0,.ref 1]) ⟨g,_,rfl,hg',hnew,hone,hF⟩ (fun _ h=>h)
   have m1:Mv [.boxB 43 [.np 0,.ref 1],.arr 5 1 rows] σ w F ([Ob.boxB 43 [.np 0,.ref 1],.arr 5 1 rows].set 0 (.boxB 43 [.np 0,.ref 1])) σ (w.setCell ⟨g,0,none⟩ (.pointer (some ⟨g,0,none⟩))) F :=
    Mv.write (aw:=[.boxB 43 [.np 0,.ref 1],.arr 5 1 rows]) (w:=w) (w':=w.setCell ⟨g,0,none⟩ (.pointer (some ⟨g,0,none⟩))) (F:=F) (o:=.boxB 43 [.np 0,.ref 1]) (b0:=g) 0 rfl rfl hσ rfl rfl rfl drO hk hsz (.boxB 43 [.np 0,.ref 1]) (fun _ h=>h)
   exact ⟨_,_,_,σ,F,rfl,⟨rfl,rfl⟩,s1,eG,m1⟩
  | npS _ g2 h2 =>
   rw [hσ] at h2
   cases h2
   refine (uX g w hcell).mono ?_
   rintro e w' ⟨rfl,rfl⟩
   exact ⟨_,_,_,σ,F,rfl,⟨rfl,rfl⟩,hs,eG,.refl _ _ _ _⟩
theorem vo (b g cap:Nat) (cur:Array Value) (l:List UInt8) (w:World) (c0:w.cell? ⟨b,1,none⟩=some (.slice (some ⟨g,0,none⟩) l.length cap)) (h0:l≠[]) (hg:w.heap[g]?=some (.cells cur 5 (0,0))) (hnc:l.length<=cap) (hcm:cap<=maxLen) (hcs:cur.size=cap)
  (hx:∀ (j:Nat) x,l[j]?=some x->w.cell? ⟨g,j,none⟩=some (.int .u8 x.toNat)) :
  Calls Tryd.prog 16 #[.pointer (some ⟨b,0,none⟩)] w fun e w'=>e=.returned (.string ⟨l.toArray⟩)/\w'=w.drew.freeze ⟨g,0,none⟩ l.length:=by
 have hl0:l.length≠0:=by simpa using h0
 have c1:w.drew.cell? ⟨b,1,none⟩=some (.slice (some ⟨g,0,none⟩) l.length cap):=c0
 have hSD:(Builtin.unsafeSliceData_ #[41] 64 #[.slice (some ⟨g,0,none⟩) l.length cap]).run Tryd.prog w.drew=.ok (.pointer (some ⟨g,0,none⟩)) w.drew :=
  Lib.run_unsafeSliceData_row _ _ _ _ _ _ (by omega)
 have hUS:(Builtin.unsafeString_ #[64,3] 9 #[.pointer (some ⟨g,0,none⟩),.int .i64 l.length]).run Tryd.prog w.drew=.ok (.string ⟨l.toArray⟩) (w.drew.freeze ⟨g,0,none⟩ l.length):=by
  refine Lib.run_unsafeString_row w.drew 64 3 9 5 Tryd.underlying64 (by kernel_rfl) g cur.size (by have hg':w.drew.heap[g]?=some (.cells cur 5 (0,0)):=hg;simp [World.shape?,hg']) l h0 (by omega) (by unfold maxLen at hcm;omega) ?_;intro j x hj;show w.cell? _=_;have e:(⟨g,0,none⟩:Addr).add j=⟨g,j,none⟩:=by unfold Addr.add;simp;intro h;exact h.symm
  rw [e];exact hx j x hj
 have mixed:=mixed
 clear c0 hx hg
 go_enter Tryd.func16,Tryd.ntmps16
 go_wp2
 go_region_o
 all_goals (go_wp2;go_ret;exact ⟨rfl,rfl⟩)
theorem pH {σ:List Value} {w:World} {F:Nat->Prop}:∀ (xs:List Int) (flat:List Value),RelL σ w F (xs.map aN).flatten flat->flat=xs.map fun n=>Value.int .u8 n
 | [],flat,h=>xQ h.1
 | x::xs,flat,h=>by
  match flat,h with
  | [],h=>exact absurd h.1 (by simp [aN])
  | a::r,h =>
   have h1:Rel σ w F (.int .u8 x) a:=h.2 0 _ a rfl rfl
   have h3:=pH xs r ⟨by have:=h.1;simp [aN] at this ⊢;omega,fun j y v hy hv=>h.2 (j+1) y v (by simpa [aN] using hy) (by simpa using hv)⟩
   cases h1
   rw [h3];rfl
theorem r5 (xs:List Int) (r:List UInt8) (h:bldS xs=some r):FnX Tryd.prog 16 [.ptr 0 0] [.boxB 43 [.np 0,.ref 1],.arr 5 1 (List.map aN xs)] (.str r) [.dead,.dead]:=by
 unfold bldS at h;split at h;rotate_left
 ·cases h
 rename_i hc;cases h;refine ⟨callable Tryd.func16 rfl (by kernel_rfl),fun w F σ vs hs hr=>?_⟩;match vs,hr with
 | [v0],hr =>
  have r0:Rel σ w F (.ptr 0 0) v0:=hr.2 0 _ v0 rfl rfl
  cases r0 with
  | ptr _ _ b hσ =>
  obtain ⟨b',us,e1,hb,hcr,hc1,hF⟩:=hs.obj 0 _ _ rfl hσ
  injection e1 with e1
  injection e1 with e1
  injection e1 with e1
  subst e1
  have hlen:us.size=2:=by simpa using hcr.1
  obtain ⟨p,hp,hrp⟩:=hcr.get (j:=1) (a:=.ref 1) rfl
  have hp':us[1]?=some p:=by simpa using hp
  have hcell:w.cell? ⟨b,1,none⟩=some p:=by rw [World.cell?];simp [hb,hp']
  cases hrp with
  | ref _ A q cp hσ1 =>
  obtain ⟨hq,flat,hown,hfl,hcase⟩:=eI hs (id:=1) rfl hσ1
  rw [xW] at hq
  subst hq
  rcases hcase with hcase | ⟨g,cur,rfl,hFa,hga,hnc,hcm,hsz,htk⟩
  ·exact absurd (zt.1 hcase) hc.1
  ·have hflat:=pH xs flat hfl.2.2
   have hlt:(cP xs).length=xs.length:=by simp [cP]
   have hx:∀ (j:Nat) x,(cP xs)[j]?=some x->w.cell? ⟨g,j,none⟩=some (.int .u8 x.toNat):=fun j x hj=>by
    have hj2:j<xs.length:=by rw [<- hlt];exact (xG.1 hj).1
    have h1:cur.toList[j]?=some (.int .u8 xs[j]):=by
     have:(cur.toList.take (xs.length*1))[j]?=flat[j]?:=by rw [htk]
     rw [ye,if_pos (by omega),hflat] at this;rw [this];simp [hj2]
    have h2:x=UInt8.ofNat (xs[j]).toNat:=by unfold cP at hj;rw [xJ,xH hj2] at hj;exact (xL hj).symm
    have h3:=hc.2 xs[j] (xY hj2);have h4:((UInt8.ofNat (xs[j]).toNat).toNat:Int)=xs[j]:=by rw [UInt8.toNat_ofNat',Nat.mod_eq_of_lt (by omega)];omega
    rw [World.cell?];rw [h2,h4];have h5:cur[j]?=some (.int .u8 xs[j]):=by simpa using h1
    simp [hga,h5]
   have hne:cP xs≠[]:=fun e=>hc.1 (xQ (by rw [<- hlt,e];rfl))
   have hS:=vo b g cp cur (cP xs) w (by rw [hlt];exact hcell) hne hga (by rw [hlt];exact hnc) hcm (by omega) hx
   refine hS.mono ?_
   rintro e w' ⟨rfl,rfl⟩
   have hn0:(cP xs).length≠0:=by simpa using hne
   have hfz:∀ k,k≠g->(w.drew.freeze ⟨g,0,none⟩ (cP xs).length).heap[k]?=w.heap[k]?:=fun k hk=>by
    have:¬ g=k:=fun e=>hk e.symm
    unfold World.freeze;rw [if_neg hn0];show (w.heap.modify g _)[k]?=_;rw [yE,if_neg this]
   have hsize:(w.drew.freeze ⟨g,0,none⟩ (cP xs).length).heap.size=w.heap.size:=by unfold World.freeze;rw [if_neg hn0];show (w.heap.modify g _).size=_;simp
   have hD:Dof [Ob.boxB 43 [.np 0,.ref 1],.arr 5 1 (List.map aN xs)] σ g:=⟨1,_,_,rfl,rfl,hσ1,rfl⟩
   refine ⟨_,_,_,σ,F,rfl,⟨rfl,rfl⟩,⟨by have:=hs.len;simpa using this,fun k o v ho hv=>?_,fun k k' o o' v v' gg hne ho ho' hl=>?_,fun k hk=>by rw [hsize];exact hs.lt k hk⟩,.str _,⟨by unfold World.freeze;rw [if_neg hn0];rfl,by unfold World.freeze;rw [if_neg hn0];rfl,⟨by unfold World.freeze;rw [if_neg hn0];rfl,by unfold World.freeze;rw [if_neg hn0];first | exact zE _ | exact xR _⟩,Nat.le_of_eq hsize.symm,fun k hk hd=>hfz k (fun e=>hd (e▸hD)),fun _ _ h=>h,fun _ h=>h,fun _ h=>.inl h,fun k hd=>?_⟩⟩
   ·match k,ho with
    | 0,ho=>cases ho;trivial
    | 1,ho=>cases ho;trivial
   ·match k,ho with
    | 0,ho=>cases ho;cases hl
    | 1,ho=>cases ho;cases hl
   ·obtain ⟨j,o,v,ho,hl,_⟩:=hd
    match j,ho with
    | 0,ho=>cases ho;cases hl
    | 1,ho=>cases ho;cases hl
end
section
open Go.RowKit Go.Shelf
set_option maxRecDepth 100000
set_option maxHeartbeats 4000000
def iR:Go.Shelf.Ren:=⟨fun n=>match n with | 129=>59 | 171=>8 | 243=>24 | 246=>34 | 283=>44 | 284=>45 | 285=>46 | 286=>47 | 317=>58 | 318=>60 | 319=>61 | 320=>62 | 337=>71 | 338=>72 | _=>0,fun n=>match n with | 0=>0 | 2=>2 | 3=>3 | 4=>4 | 5=>5 | 9=>9 | 20=>20 | 37=>41 | 46=>110 | 51=>108 | 53=>89 | 171=>88 | 173=>92 | 212=>107 | 213=>109 | 232=>131 | 233=>132 | _=>0,fun n=>match n with | 17=>0 | 18=>2 | 19=>3 | _=>0⟩
theorem iL:Lays.n171 Tryd.prog iR where
 mixed:=by kernel_rfl
 f129:=by kernel_rfl
 f171:=by kernel_rfl
 f243:=by kernel_rfl
 f246:=by kernel_rfl
 f283:=by kernel_rfl
 f284:=by kernel_rfl
 f285:=by kernel_rfl
 f286:=by kernel_rfl
 f317:=by kernel_rfl
 f318:=by kernel_rfl
 f319:=by kernel_rfl
 f320:=by kernel_rfl
 f337:=by kernel_rfl
 f338:=by kernel_rfl
 t0:=by kernel_rfl
 a0:=fun w=>by kernel_rfl
 z0:=fun w=>by kernel_rfl
 v0:=fun w=>by kernel_rfl
 t2:=by kernel_rfl
 a2:=fun w=>by kernel_rfl
 z2:=fun w=>by kernel_rfl
 v2:=fun w=>by kernel_rfl
 t3:=by kernel_rfl
 a3:=fun w=>by kernel_rfl
 z3:=fun w=>by kernel_rfl
 v3:=fun w=>by kernel_rfl
 t4:=by kernel_rfl
 a4:=fun w=>by kernel_rfl
 z4:=fun w=>by kernel_rfl
 v4:=fun w=>by kernel_rfl
 t5:=by kernel_rfl
 a5:=fun w=>by kernel_rfl
 z5:=fun w=>by kernel_rfl
 v5:=fun w=>by kernel_rfl
 t9:=by kernel_rfl
 a9:=fun w=>by kernel_rfl
 z9:=fun w=>by kernel_rfl
 v9:=fun w=>by kernel_rfl
 t20:=by kernel_rfl
 a20:=fun w=>by kernel_rfl
 z20:=fun w=>by kernel_rfl
 v20:=fun w=>by kernel_rfl
 t37:=by kernel_rfl
 a37:=fun w=>by kernel_rfl
 z37:=fun w=>by kernel_rfl
 v37:=fun w=>by kernel_rfl
 t46:=by kernel_rfl
 a46:=fun w=>by kernel_rfl
 z46:=fun w=>by kernel_rfl
 v46:=fun w=>by kernel_rfl
 t51:=by kernel_rfl
 a51:=fun w=>by kernel_rfl
 z51:=fun w=>by kernel_rfl
 v51:=fun w=>by kernel_rfl
 t53:=by kernel_rfl
 a53:=fun w=>by kernel_rfl
 z53:=fun w=>by kernel_rfl
 v53:=fun w=>by kernel_rfl
 t171:=by kernel_rfl
 a171:=fun w=>by kernel_rfl
 z171:=fun w=>by kernel_rfl
 v171:=fun w=>by kernel_rfl
 t173:=by kernel_rfl
 a173:=fun w=>by kernel_rfl
 z173:=fun w=>by kernel_rfl
 v173:=fun w=>by kernel_rfl
 t212:=by kernel_rfl
 a212:=fun w=>by kernel_rfl
 z212:=fun w=>by kernel_rfl
 v212:=fun w=>by kernel_rfl
 t213:=by kernel_rfl
 a213:=fun w=>by kernel_rfl
 z213:=fun w=>by kernel_rfl
 t232:=by kernel_rfl
 a232:=fun w=>by kernel_rfl
 z232:=fun w=>by kernel_rfl
 v232:=fun w=>by kernel_rfl
 t233:=by kernel_rfl
 a233:=fun w=>by kernel_rfl
 z233:=fun w=>by kernel_rfl
 v233:=fun w=>by kernel_rfl
 g17:=by kernel_rfl
 g18:=by kernel_rfl
 g19:=by kernel_rfl
theorem uk (p0:Int) (r:List UInt8) (h:itoaS p0=some r):Fn Tryd.prog 8 [.int .i64 p0] (.str r):=by
 unfold itoaS at h;split at h
 ·rename_i h0;injection h with h
  subst h;refine ⟨callable Tryd.func8 rfl (by kernel_rfl),fun w F σ vs hs hr=>?_⟩;match vs,hr with
  | [v0],hr =>
   have r0:Rel σ w F (.int .i64 p0) v0:=hr.2 0 _ v0 rfl rfl
   cases r0
   obtain ⟨i,rfl⟩:=zh h0.1
   refine (Any.strconv_Itoa_small iL i (by omega) w).mono ?_
   rintro e w' ⟨rfl,rfl⟩
   exact ⟨_,_,[],σ,F,rfl,⟨rfl,rfl⟩,hs,.str _,.refl ..⟩
 ·cases h
end
section
open Go.RowKit
def retP (P:Program) (V:Value) (fn:Func) (N:Nat) {R:Type} (Q:R->AV->List Ob->Prop):R ⊕ Unit->Exit->List AV->List Ob->Prop
 | .inl x=>retQ P fn N (Q x)
 | .inr _=>panQ V
section
variable {P:Program} {V:Value} {N n:Nat} {fr:List AV} {aw aw':List Ob} {l:List (Nat × AV)}
instance {fn:Func} {M:Nat} {R:Type} {Q:R->AV->List Ob->Prop} {x:R}:RetI (retP P V fn M Q (.inl x)) (fun fr aw=>aG P fr aw fn.results.toList (Ret M (Q x) aw)):=⟨fun _ _ h=>h⟩
variable {ops:Array Oper} {o:Oper} {d:Option Tmp} {ty:TypeId} {ps:String} {af:Array Edge} {gd:Option (Nat × Bool)}
theorem PP.panic {x:Operand} {t:TypeId} {Kp:List AV->List Ob->Prop} (hx:evA n l x=.ifc t (.agg [])) (hK:Kp (mkA n l) aw):PP P (.iface t (.agg #[])) N ⟨d,.panic x,ty,ps,af,gd⟩ (mkA n l) aw Kp :=
 ⟨fun st h1 h2 σ w F a hc Kc Q hk=>by
  have hfv:=hc.fr.ev x;rw [ab,hx] at hfv;generalize hvf:a.eval x=vf at hfv;cases hfv with
  | ifc _ _ u hu =>
   cases hu with
   | agg _ vs hl hone hcs =>
    have:vs=[]:=xQ (by simpa using hl);subst this;unfold Oper.wp;have hrun:(execOp a.eval ⟨d,.panic x,ty,ps,af,gd⟩).run P w=.halt (.panic (.iface t (.agg #[]))) w:=by simp only [execOp,hvf];rfl
    rw [hrun];exact hk aw σ w F hK hc⟩
theorem PP.cal {Kp:List AV->List Ob->Prop} {f:Operand} {args:Array Operand} {ts:Array TypeId} {h:FuncId} {caps ac as0:List AV} {aw0 aw2:List Ob} {n0 n1:Nat} (ρ:List Nat) (hn0:aw.length=n0) (hn1:aw0.length=n1)
 (hf:evA n l f=.func h caps) (ha:args.toList.map (evA n l)++caps=ac) (hnd:ρ.Nodup) (hW:aO ρ aw ρ aw0) (hA:be ρ as0 ac) (hC:PanX P V h as0 aw0) (hlen:aw2.length+ρ.length=n0+n1)
 (hB:dB (aV ρ n0 n1) ρ aw (aw0.map fun _=>Ob.dead) 0 aw2) (hK:Kp (mkA n l) aw2):PP P V N ⟨d,.call ⟨.value f,args,ts⟩,ty,ps,af,gd⟩ (mkA n l) aw Kp:=by subst hn1;exact PP.call ρ hn0 hf ha hnd hW hA hC hlen hB hK
def panE (V:Value) (st:St) (Kp:List Ob->Prop) (e:Exit) (a:Act) (w:World):Prop:=e=.panic [{ v:=V,recovered:=false }]/\∃ fr aw σ F,Cur st fr aw σ w F a/\Kp aw
structure RAP (P:Program) (V:Value) (N:Nat) (ops:Array Oper) (k:Nat) (li:Array Bool) (Kp:List Ob->Prop) (fr:List AV) (aw:List Ob):Prop where
 out:∀ st:St,st.aw.length=N->st.σ.length=st.aw.length->∀ σ w F a,Cur st fr aw σ w F a->wpAny P .any ops (panE V st Kp) k li a w
variable {k:Nat} {li:Array Bool} {Kp:List Ob→Prop}
structure RAO (P:Program) (V:Value) (N:Nat) (ops:Array Oper) (i:Nat) (K:List AV->List Ob->Prop) (Kp:List Ob->Prop) (fr:List AV) (aw:List Ob):Prop where
 out:∀ st:St,st.aw.length=N->st.σ.length=st.aw.length->∀ σ w F a,Cur st fr aw σ w F a->∀ (Kc:Act->World->Prop),
  (∀ fr aw σ w F a,Cur st fr aw σ w F a->K fr aw->Kc a w)->wpOp P ops (panE V st Kp) i Kc a w
theorem RAP.all {rs:List Nat} (hr:Region.ready .any ops li=rs) (hne:rs≠[]) (h:∀ i,i∈rs->RAO P V N ops i (RAP P V N ops k (li.setIfInBounds i true) Kp) Kp fr aw):RAP P V N ops (k+1) li Kp fr aw :=
 ⟨fun st h1 h2 σ w F a hc=>wpAny_all hr hne fun i hi=>(h i hi).out st h1 h2 σ w F a hc _ fun fr aw σ w F a hc hK=>RAP.out hK st h1 h2 σ w F a hc⟩
end
end
section
open Go.RowKit
abbrev pan1 (V:Value):List PanicEntry:=[{ v:=V,recovered:=false }]
abbrev pan2 (V:Value):List PanicEntry:=[{ v:=V,recovered:=true }]
def CatX (P:Program) (V:Value) (g:FuncId) (args:List AV) (aw aw':List Ob):Prop:=∀ w F σ vs,Sim aw σ w F->RelL σ w F args vs ->
 CallsD P g vs.toArray (.panicking (pan1 V)) w fun e u' w'=>(∃ v,e=.returned v)/\u'=.panicking (pan2 V)/\∃ σ' F',Sim aw' σ' w' F'/\Mv aw σ w F aw' σ' w' F'
structure Caught (P:Program) (V:Value) (g:FuncId) (caps:List AV) (aw aw2:List Ob):Prop where
 out:∃ (ρ:List Nat) (as0:List AV) (aw0 aw1:List Ob),ρ.Nodup/\aO ρ aw ρ aw0/\be ρ as0 caps/\CatX P V g as0 aw0 aw1/\aw2.length+ρ.length=aw.length+aw1.length/\dB (aV ρ aw.length aw1.length) ρ aw aw1 0 aw2
section
variable {P:Program} {V:Value} {N n Nf:Nat} {fr:List AV} {aw aw2:List Ob} {l:List (Nat × AV)} {fn:Func} {Q:AV→List Ob→Prop} {g:FuncId} {caps:List AV}
theorem Caught.run {σ:List Value} {w:World} {F:Nat->Prop} {cvs:List Value} (h:Caught P V g caps aw aw2) (hs:Sim aw σ w F) (hr:RelL σ w F caps cvs) :
  CallsD P g cvs.toArray (.panicking (pan1 V)) w fun e u' w'=>(∃ v,e=.returned v)/\u'=.panicking (pan2 V)/\∃ σ' F',Sim aw2 σ' w' F'/\Mv aw σ w F aw2 σ' w' F':=by
 obtain ⟨ρ,as0,aw0,aw1,hnd,hW,hA,hC,hl,hB⟩:=h.out
 obtain ⟨σ0,hσ,hs0,hd0⟩:=eP hs hnd hW
 have hl0:σ0.length=ρ.length:=by rw [hs0.len,(eJ hW).1]
 refine (hC w F σ0 cvs hs0 (cm hA hr hσ)).mono ?_
 rintro e u' w' ⟨h1,h2,σ1,F',hs1,hm⟩
 obtain ⟨σ2,s2,m2,_⟩:=iV hs hnd hW hσ hl0 hs0 hd0 hs1 hm hl hB
 exact ⟨h1,h2,σ2,F',s2,m2⟩
section
variable {aw:List Ob} {K2:AV→List Ob→Prop} {d:Option Tmp} {ty:TypeId} {ps:String} {af:Array Edge} {gd:Option (Nat × Bool)}
end
def RecQ (P:Program) (fn:Func) (Nf:Nat) (Q:AV->List Ob->Prop) (V:Value) (g:FuncId) (caps:List AV):Exit->List AV->List Ob->Prop
 | .panic ch,fr,aw=>ch=pan1 V/\∃ aw2,Caught P V g caps aw aw2/\aG P fr aw2 fn.results.toList (Ret Nf Q aw2)
 | e,fr,aw=>retQ P fn Nf Q e fr aw
instance:RetI (RecQ P fn Nf Q V g caps) (fun fr aw=>aG P fr aw fn.results.toList (Ret Nf Q aw)):=⟨fun _ _ h=>h⟩
def CQR (P:Program) (st:St) (fn:Func) (Nf:Nat) (Q:AV->List Ob->Prop) (V:Value) (e:Exit) (a:Act) (w:World):Prop :=
 CQ st (retQ P fn Nf Q) e a w∨∃ (g:FuncId) (caps:List AV) (cvs:List Value) (st':St),Idle P ⟨.fn (.func g) cvs.toArray,#[]⟩/\(∀ w,(callFunc g cvs.toArray).run P w=.ok (.enter g cvs.toArray) w) /\
  RelL st'.σ st'.w st'.F caps cvs/\Sim st'.aw st'.σ st'.w st'.F/\Mv st.aw st.σ st.w st.F st'.aw st'.σ st'.w st'.F/\st'.ds=[⟨.fn (.func g) cvs.toArray,#[]⟩]/\CQ st' (RecQ P fn Nf Q V g caps) e a w
structure TDR (P:Program) (N:Nat) (c:Code) (fn:Func) (Nf:Nat) (Q:AV->List Ob->Prop) (V:Value) (fr:List AV) (aw:List Ob):Prop where
 out:∀ st:St,st.aw.length=N->st.σ.length=st.aw.length->st.ds=[]->∀ σ w F a,Cur st fr aw σ w F a->c.wp P (CQR P st fn Nf Q V) a w
theorem TDR.seq {x y:Code} (h:T P N x (thenA (TDR P N y fn Nf Q V) (retQ P fn Nf Q)) fr aw):TDR P N (.seq x y) fn Nf Q V fr aw :=
 ⟨fun st h1 h2 h3 σ w F a hc=>wp_seq (wp_mono (h.out st h1 h2 σ w F a hc) (by
  rintro e a' w' ⟨fr',aw',σ',F',hq,hcur⟩;cases e with
  | normal=>exact TDR.out hq st h1 h2 h3 σ' w' F' a' hcur
  | _=>exact .inl ⟨fr',aw',σ',F',hq,hcur⟩))⟩
theorem TDR.defer {id:Nat} {ops:Array Oper} {y:Code} {ty:TypeId} {ps:String} {af:Array Edge} {f:Operand} {ts:Array TypeId} (i:Nat) (ho:ops.toList.drop i=[⟨none,.defer ⟨.value f,#[],ts⟩,ty,ps,af,none⟩])
  (h:RS P N ops (ops.toList.take i) (fun fr aw=>∃ (N':Nat) (l:List (Nat × AV)) (caps:List AV) (g:FuncId),aw.length=N'/\fr=mkA n l/\evA n l f=.func g caps/\IdleF P g caps.length/\(∀ vs w,(callFunc g vs).run P w=.ok (.enter g vs) w)/\T P N' y (RecQ P fn Nf Q V g caps) (mkA n l) aw) fr aw):TDR P N (.seq (.region id ops false) y) fn Nf Q V fr aw :=
 ⟨fun st h1 h2 h3 σ w F a hc=>by
  refine wp_seq (wp_region_list ?_);rw [<- y6 i ops.toList,ho];refine iU _ _ _ (h.out st h1 h2 σ w F a hc _ fun fr aw σ w F a hc hK=>?_);obtain ⟨_,l,caps,g,rfl,rfl,hf,hI,hcall,hT⟩:=hK;show wpList P ops _ (_::[]) a w;unfold wpList;rw [if_pos (by simp [Region.wanted])];refine .inl ?_;have hfv:=hc.fr.ev f;rw [ab,hf] at hfv;generalize hvf:a.eval f=vf at hfv;cases hfv with
  | func _ _ cvs hl hcs =>
   have hrun:(execOp a.eval ⟨none,.defer ⟨.value f,#[],ts⟩,ty,ps,af,none⟩).run P w=.ok (.defer ⟨.fn (.func g) cvs.toArray,#[]⟩) w:=by simp [execOp,resolve,Deferred.ofValue,hvf,Sem.run_bind]
   unfold Oper.wp;rw [hrun,Oper.upon_defer];show wpList P ops _ [] _ w;unfold wpList;refine wp_mono (hT.out ⟨aw,σ,w,F,[⟨.fn (.func g) cvs.toArray,#[]⟩]⟩ rfl hc.sim.len σ w F _ ?_) fun _ _ _ h=>.inr ⟨g,caps,cvs,⟨aw,σ,w,F,[⟨.fn (.func g) cvs.toArray,#[]⟩]⟩,hI cvs hl,hcall _,⟨hl,hcs⟩,hc.sim,hc.mv,rfl,h⟩
   refine ⟨hc.sim,hc.fr,.refl ..,?_⟩;have hds:=hc.ds;rw [h3] at hds;show _::a.defers=_;rw [hds]⟩
end
end
section
open Go.RowKit
instance:PureC .nili:=⟨fun _ _ _ _ h _=>by cases h;exact .nili⟩
section
variable {P:Program} {N n:Nat} {l:List (Nat × AV)} {aw:List Ob} {K2:AV→List Ob→Prop} {d:Option Tmp} {ty:TypeId} {ps:String} {af:Array Edge} {gd:Option (Nat × Bool)}
theorem uY (k:Nat) {t:TypeId} {its:Array (String × TypeId)} (hu:P.underlying t=some (.interface its)) (w:World):(Op.equalIn (k+1) t .nilIface .nilIface).run P w=.ok true w:=by simp [Op.equalIn,Sem.run_bind,run_underlying hu]
theorem ui {t t2:TypeId} {x:Operand} {its:Array (String × TypeId)} (hu:P.underlying t=some (.interface its)) (hx:evA n l x=.nili) (h:K2 (.bool false) aw):OP P N ⟨d,.binOp .neq t x (.const .nilIface) t2,ty,ps,af,gd⟩ (mkA n l) aw K2 :=
 OP.of_ok (fun σ w F ac har hs=>by have ex:=har.ev x;rw [ab,hx] at ex;generalize hvx:ac.eval x=vx at ex;cases ex;refine ⟨.bool false,_,w,aw,σ,F,_,?_,.inl rfl,hs,.refl ..,.bool false,h⟩;have he:(Op.equalIn Op.maxDepth t .nilIface .nilIface).run P w=.ok true w:=uY 9999 hu w;have hvy:ac.eval (.const .nilIface)=.nilIface:=rfl;simp [execOp,hvx,hvy,eqGuard,binOp,Op.equal,Sem.run_bind,he])
end
section
variable {P:Program} {N:Nat} {ops:Array Oper} {k:Nat} {li:Array Bool} {K:List AV→List Ob→Prop} {fr:List AV} {aw:List Ob}
theorem ra5 (i1 i2 i3 i4 i5:Nat) (h1:RO P N ops i1 (RA P N ops k (li.setIfInBounds i1 true) K) fr aw) (h2:RO P N ops i2 (RA P N ops k (li.setIfInBounds i2 true) K) fr aw) (h3:RO P N ops i3 (RA P N ops k (li.setIfInBounds i3 true) K) fr aw)
  (h4:RO P N ops i4 (RA P N ops k (li.setIfInBounds i4 true) K) fr aw) (h5:RO P N ops i5 (RA P N ops k (li.setIfInBounds i5 true) K) fr aw) (hr:Region.ready .any ops li=[i1,i2,i3,i4,i5]:=by decide +kernel):RA P N ops (k+1) li K fr aw :=
 RA.all hr (by simp) fun i hi=>by simp at hi;rcases hi with rfl | rfl | rfl | rfl | rfl<;>assumption
end
end
end Go.Proofs.YtknplalngpedbaaDoor
