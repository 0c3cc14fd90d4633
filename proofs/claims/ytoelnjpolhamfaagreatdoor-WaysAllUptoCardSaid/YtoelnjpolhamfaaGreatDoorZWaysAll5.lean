/-
  Part 5 of the proof of waysAllLaw.proved: the code computes these functions, and the law holds of them, with no condition beyond the statement's own; put together by a program of ours (wip/decl.py) out of texts of ours.
-/
import Derived.ProofKit
import Derived.OpenShut
import Derived.JoinedCond
import Derived.Deep.Slices
import Derived.Carry
import Derived.Test.YtoelnjpolhamfaaGreatDoorZWaysAll4
set_option linter.unusedVariables false
set_option linter.unusedSimpArgs false
namespace Go.Proofs.YtoelnjpolhamfaaGreatDoor
section
open Go.ChangeShapes Go.WideShapes Go.ChangeAt Go.RowKit
theorem qR {α:Type} {p:Nat->α->Prop}:∀ n:Nat,(∀ i,i<n->∃ x,p i x)->∃ l:List α,l.length=n/\∀ (i:Nat) x,l[i]?=some x->p i x
 | 0,_=>⟨[],rfl,fun i x h=>by simp at h⟩
 | n+1,h=>by
  obtain ⟨l,hl,hp⟩:=qR n (fun i hi=>h i (by omega));obtain ⟨y,hy⟩:=h n (by omega);refine ⟨l++[y],by simp [hl],fun i x hx=>?_⟩;rw [List.getElem?_append] at hx;split at hx
  ·exact hp i x hx
  ·have:i=n:=by
    have:=(List.getElem?_eq_some_iff.1 hx).1;simp at this;omega
   subst this;simp [hl] at hx;subst hx;exact hy
theorem tq {H:Type} (d:DataW H):1<=Rows.uptoBulk d:=by
 cases d with
 | lit l=>cases l<;>simp [Rows.uptoBulk]
 | _=>simp [Rows.uptoBulk]
theorem tI {H α:Type} (m:α->Nat):∀ (l:List α) (ds:List (DataW H)),l.length=ds.length->(∀ (i:Nat) x d,l[i]?=some x->ds[i]?=some d->m x<=Rows.uptoBulk d)->(l.map m).sum<=Rows.uptoBulkAll ds
 | [],[],_,_=>by simp
 | [],_::_,h,_=>by simp at h
 | _::_,[],h,_=>by simp at h
 | x::l,d::ds,h,hp=>by
  have h0:=hp 0 x d rfl rfl;have h1:=tI m l ds (by simpa using h) (fun i y e hy he=>hp (i+1) y e (by simpa using hy) (by simpa using he));simp only [List.map_cons,List.sum_cons,Rows.uptoBulkAll];omega
structure Opn (P:Program) (t:TypeId) {α:Type} (en:α->List AV) (good:α->Prop) (m:α->Nat):Prop where
 opn:∀ {H:Type} {enc:TypeId × Value->H} {W:World} {fuel:Nat} {cs:List Value} {x:DataW H × List MemPlace},DataW.trod enc P W 0 (fun _=>true) true fuel t cs=some x ->
  ∃ a,RelL [] W (fun b=>b<W.heap.size) (en a) cs/\(∀ u,u∈cs->u.oneCell'=true)/\good a/\m a<=Rows.uptoBulk x.1
theorem Opn.map {P:Program} {t:TypeId} {α β:Type} {en:α->List AV} {good:α->Prop} {m:α->Nat} (h:Opn P t en good m) (f:α->β) {en':β->List AV} {good':β->Prop} {m':β->Nat}
  (he:∀ a,en' (f a)=en a) (hg:∀ a,good a->good' (f a)) (hm:∀ a,m' (f a)<=m a):Opn P t en' good' m' :=
 ⟨fun hx=>by
  obtain ⟨a,h1,h2,h3,h4⟩:=h.opn hx;exact ⟨f a,by rw [he];exact h1,h2,hg a h3,Nat.le_trans (hm a) h4⟩⟩
theorem lw {σ:List Value} {w:World} {F:Nat->Prop} {a:AV} {v:Value} (h:Rel σ w F a v):RelL σ w F [a] [v]:=.cons h .nil
theorem Opn.bool {P:Program} {t:TypeId} (ht:P.underlying t=some .bool):Opn P t (fun b:Bool=>[.bool b]) (fun _=>True) (fun _=>1) :=
 ⟨fun hx=>by
  obtain ⟨b,rfl,rfl⟩:=DataW.trod_bool ht hx;exact ⟨b,lw (.bool b),by simp [Value.oneCell'],trivial,tq _⟩⟩
theorem Opn.int {P:Program} {t:TypeId} {k:IntKind} (ht:P.underlying t=some (.int k)):Opn P t (fun n:Int=>[.int k n]) (fun n=>k.min<=n/\n<=k.max) (fun _=>1) :=
 ⟨fun hx=>by
  obtain ⟨n,rfl,rfl,hw⟩:=DataW.trod_int ht hx;refine ⟨n,lw (.int k n),by simp [Value.oneCell'],?_,tq _⟩;simpa only [Lit.wf,Bool.and_eq_true,decide_eq_true_eq] using hw⟩
theorem Opn.str {P:Program} {t:TypeId} (ht:P.underlying t=some .string):Opn P t (fun s:List UInt8=>[.str s]) (fun s=>s.length<=maxLen) (fun s=>s.length+1) :=
 ⟨fun hx=>by
  obtain ⟨s,rfl,rfl,hw⟩:=DataW.trod_string ht hx;refine ⟨s.data.toList,lw (by simpa using Rel.str s.data.toList),by simp [Value.oneCell'],?_,by simp [Rows.uptoBulk]⟩;have e:s.data.toList.length=s.size:=by rw [Array.length_toList];rfl
  omega⟩
theorem Opn.slice {P:Program} {t e:TypeId} {α:Type} {en:α->List AV} {good:α->Prop} {m:α->Nat} {size:Nat} (ht:P.underlying t=some (.slice e)) (hc:P.cellsOf e=size+1) (h:Opn P e en good m) :
  Opn P t (fun l:List α=>[.sl (l.map en)]) (fun l=>∀ a,a∈l->good a) (fun l=>(l.map m).sum+1):=by
 refine ⟨fun {H enc W fuel cs x} hx=>?_⟩
 rcases DataW.trod_slice ht hx with ⟨rfl,rfl⟩ | ⟨a,len,cap,elems,rest,n,_,rfl,rfl,hb,hl,hm,hlen,hel,hsp,hns⟩
 ·exact ⟨[],lw .slNil,by simp [Value.oneCell'],by simp,by simp [Rows.uptoBulk]⟩
 rw [hc] at hel
 have hone:∀ i,i<len->∃ y:α × List Value × (DataW H × List MemPlace),elems[i]?=some y.2.2/\W.cells? 0 (a.add (i*(size+1))) (size+1)=some y.2.1/\RelL [] W (fun b=>b<W.heap.size) (en y.1) y.2.1/\(∀ u,u∈y.2.1->u.oneCell'=true)/\good y.1/\m y.1<=Rows.uptoBulk y.2.2.1:=by
  intro i hi;have h1:=hel i hi;rw [List.getElem?_eq_getElem (by omega:i<elems.length)] at h1;obtain ⟨cs',hcs,ht'⟩:=Option.bind_eq_some_iff.1 h1;obtain ⟨y,g1,g2,g3,g4⟩:=h.opn ht';exact ⟨(y,cs',elems[i]),List.getElem?_eq_getElem (by omega),hcs,g1,g2,g3,g4⟩
 obtain ⟨ys,hys,hp⟩:=qR len hone
 refine ⟨ys.map (·.1),lw ?_,by simp [Value.oneCell'],?_,?_⟩
 ·have hrl:((ys.map (·.1)).map en).length=len:=by simp [hys]
  have key:Rel [] W (fun b=>b<W.heap.size) (.sl ((ys.map (·.1)).map en)) (.slice (some a) ((ys.map (·.1)).map en).length cap):=by
   refine .sl _ (size+1) a cap (fun i j=>((ys[i]?).bind (fun y=>y.2.1[j]?)).getD .nilIface) (fun hne=>?_) (by omega) hm (fun row hrow=>?_) (fun i j hi hj=>?_) (fun i j hi hj=>?_) (fun i row j x hi hj=>?_)
   ·have hpos:0<len:=by
     rcases Nat.eq_zero_or_pos len with h0 | h0
     ·exfalso;apply hne;apply List.eq_nil_of_length_eq_zero;omega
     ·exact h0
    obtain ⟨y,hy⟩:∃ y,ys[0]?=some y:=⟨ys[0],List.getElem?_eq_getElem (by omega)⟩
    have:=World.cells?_block (hp 0 y hy).2.1 (by omega);rwa [jt] at this
   ·simp only [List.map_map,List.mem_map] at hrow;obtain ⟨y,hy,rfl⟩:=hrow;obtain ⟨i,hi,hi'⟩:=List.getElem_of_mem hy;have h1:=hp i y (by rw [List.getElem?_eq_getElem hi,hi']);have h2:=(World.cells?_some h1.2.1).2.1;have h3:=h1.2.2.1.1;simp only [Function.comp];omega
   ·rw [hrl] at hi;obtain ⟨y,hy⟩:∃ y,ys[i]?=some y:=⟨ys[i],List.getElem?_eq_getElem (by omega)⟩
    have h1:=hp i y hy;have h2:=(World.cells?_some h1.2.1).2.1;have h3:y.2.1[j]?=some y.2.1[j]:=List.getElem?_eq_getElem (by omega);simp only [hy,Option.bind_some,h3,Option.getD_some];exact h1.2.2.2.1 _ (List.getElem_mem _)
   ·rw [hrl] at hi;obtain ⟨y,hy⟩:∃ y,ys[i]?=some y:=⟨ys[i],List.getElem?_eq_getElem (by omega)⟩
    have h1:=hp i y hy;have h2:=World.cells?_some h1.2.1;have h3:y.2.1[j]?=some y.2.1[j]:=List.getElem?_eq_getElem (by omega);simp only [hy,Option.bind_some,h3,Option.getD_some];rw [<- eG,h2.2.2 j hj,h3]
   ·simp only [List.map_map,List.getElem?_map,Option.map_eq_some_iff] at hi;obtain ⟨y,hy,rfl⟩:=hi;have h1:=hp i y hy;obtain ⟨v,hv,hr⟩:=h1.2.2.1.get hj;simp only [hy,Option.bind_some,hv,Option.getD_some];exact hr
  rwa [hrl] at key
 ·intro z hz
  simp only [List.mem_map] at hz
  obtain ⟨y,hy,rfl⟩:=hz
  obtain ⟨i,hi,hi'⟩:=List.getElem_of_mem hy
  exact (hp i y (by rw [List.getElem?_eq_getElem hi,hi'])).2.2.2.2.1
 ·have:=tI m (ys.map (·.1)) (elems.map (·.1)) (by simp [hys,hlen]) (fun i z d hz hd=>by
   simp only [List.getElem?_map,Option.map_eq_some_iff] at hz hd;obtain ⟨y,hy,rfl⟩:=hz;obtain ⟨el,he,rfl⟩:=hd;have h1:=hp i y hy;rw [h1.1] at he;obtain rfl:=Option.some.inj he;exact h1.2.2.2.2.2)
  simp only [Rows.uptoBulk]
  omega
structure OpnF (P:Program) (fs:List Field) (off total:Nat) {α:Type} (en:α->List AV) (good:α->Prop) (m:α->Nat):Prop where
 opn:∀ {H:Type} {enc:TypeId × Value->H} {W:World} {fuel:Nat} {cs:List Value} {xs:List (DataW H × List MemPlace)},cs.length=total ->
  xs.length=fs.length->(∀ (i:Nat) (f:Field),fs[i]?=some f->DataW.trod enc P W 0 (fun _=>true) true fuel f.type ((cs.drop f.offset).take (P.cellsOf f.type))=xs[i]?) ->
  ∃ a,RelL [] W (fun b=>b<W.heap.size) (en a) (cs.drop off)/\(∀ u,u∈cs.drop off->u.oneCell'=true)/\good a/\m a<=Rows.uptoBulkAll (xs.map (·.1))
theorem OpnF.nil {P:Program} {total:Nat}:OpnF P [] total total (fun _:Unit=>[]) (fun _=>True) (fun _=>0) :=
 ⟨fun hl hx hp=>⟨(),by rw [List.drop_of_length_le (by omega)];exact .nil,by rw [List.drop_of_length_le (by omega)];simp,trivial,by simp⟩⟩
theorem OpnF.cons {P:Program} {f:Field} {fs:List Field} {off total:Nat} {α β:Type} {en1:α->List AV} {en2:β->List AV} {g1:α->Prop} {g2:β->Prop} {m1:α->Nat} {m2:β->Nat}
  (ho:f.offset=off) (c:Nat) (hc:P.cellsOf f.type=c) (h1:Opn P f.type en1 g1 m1) (h2:OpnF P fs (off+c) total en2 g2 m2) :
  OpnF P (f::fs) off total (fun p:α × β=>en1 p.1++en2 p.2) (fun p=>g1 p.1/\g2 p.2) (fun p=>m1 p.1+m2 p.2):=by
 refine ⟨fun {H enc W fuel cs xs} hl hx hp=>?_⟩
 match xs,hx with
 | x::xs,hx =>
  have h0:=hp 0 f rfl
  simp only [List.getElem?_cons_zero] at h0
  subst ho;subst hc
  obtain ⟨a,a1,a2,a3,a4⟩:=h1.opn h0
  obtain ⟨b,b1,b2,b3,b4⟩:=h2.opn (xs:=xs) hl (by simpa using hx) (fun i f' hf=>by simpa using hp (i+1) f' (by simpa using hf))
  have hs:cs.drop f.offset=(cs.drop f.offset).take (P.cellsOf f.type)++cs.drop (f.offset+P.cellsOf f.type):=by
   rw [<- List.drop_drop];exact (List.take_append_drop _ _).symm
  refine ⟨(a,b),?_,fun u hu=>?_,⟨a3,b3⟩,?_⟩
  ·rw [hs];exact a1.append b1
  ·rw [hs,List.mem_append] at hu
   exact hu.elim (a2 u) (b2 u)
  ·simp only [List.map_cons,Rows.uptoBulkAll];omega
theorem Opn.struct {P:Program} {t:TypeId} {fs:Array Field} {total:Nat} {α:Type} {en:α->List AV} {good:α->Prop} {m:α->Nat} (ht:P.underlying t=some (.struct fs)) (hc:P.cellsOf t=total)
  (h:OpnF P fs.toList 0 total en good m):Opn P t en good m:=by
 refine ⟨fun {H enc W fuel cs x} hx=>?_⟩
 obtain ⟨xs,n,rfl,rfl,hl,hxl,hp⟩:=DataW.trod_struct ht hx
 obtain ⟨a,h1,h2,h3,h4⟩:=h.opn (enc:=enc) (W:=W) (fuel:=n) (cs:=cs) (xs:=xs) (by omega) (by simp [hxl]) (fun i f hf=>hp i f (by simpa using hf))
 exact ⟨a,by simpa using h1,by simpa using h2,h3,by simp only [Rows.uptoBulk];omega⟩
theorem Opn.arg {P:Program} {t:TypeId} {α:Type} {en:α->AV} {good:α->Prop} {m:α->Nat} (h:Opn P t (fun a=>[en a]) good m)
  (ht:(match P.underlying t with | some (.struct _) | some (.array _ _)=>false | _=>true)=true)
  {H:Type} {enc:TypeId × Value->H} {W:World} {base:Nat} {v:Value} {d:DataW H} {ps:List MemPlace} (hval:Value.okWide P W .any base t v) (hd:DataW.Trod enc P W 0 (fun _=>true) true t v d ps) :
  ∃ a,Rel [] W (fun b=>b<W.heap.size) (en a) v/\good a/\m a<=Rows.uptoBulk d:=by
 obtain ⟨fuel,hf⟩:=hd
 obtain ⟨a,h1,h2,h3,h4⟩:=h.opn hf
 have hv:v.cells=#[v]:=by
  cases v with
  | agg cs =>
   exfalso;unfold Value.okWide at hval;split at hval
   ·rename_i e;rw [e] at ht;simp at ht
   ·rename_i e;rw [e] at ht;simp at ht
   ·unfold Cell.okWide at hval;split at hval<;>simp_all [Cell.ok]
  | _=>rfl
 rw [hv] at h1
 exact ⟨a,h1.2 0 (en a) v rfl rfl,h3,h4⟩
theorem Opn.args {P:Program} {t:TypeId} {α:Type} {en:α->List AV} {good:α->Prop} {m:α->Nat} (h:Opn P t en good m)
  {fs:Array Field} (ht:P.underlying t=some (.struct fs))
  {H:Type} {enc:TypeId × Value->H} {W:World} {base:Nat} {v:Value} {d:DataW H} {ps:List MemPlace} (hval:Value.okWide P W .any base t v) (hd:DataW.Trod enc P W 0 (fun _=>true) true t v d ps) :
  ∃ a,Rel [] W (fun b=>b<W.heap.size) (.agg (en a)) v/\good a/\m a<=Rows.uptoBulk d:=by
 obtain ⟨fuel,hf⟩:=hd
 obtain ⟨a,h1,h2,h3,h4⟩:=h.opn hf
 unfold Value.okWide at hval
 rw [ht] at hval
 obtain ⟨cs,rfl,_,_⟩:=hval
 simp only [Value.cells] at h1 h2
 refine ⟨a,?_,h3,h4⟩
 have:=Rel.agg (σ:=[]) (w:=W) (F:=fun b=>b<W.heap.size) (en a) cs.toList h1.1 h2 h1.2
 simpa using this
theorem rV {H:Type} {enc:TypeId × Value->H} {P:Program} (hl:laidOutB P=true) {W W':World} (hb:Below W.heap.size W W') (sp:Nat->Bool) :
  ∀ {ts:List TypeId} {vs:List Value} {ds:List (DataW H)} {ps:List MemPlace},(ts.all fun t=>P.readableRec t && decide (t<P.types.size))=true->DataW.TrodAll enc P W 0 (fun _=>true) true ts vs ds ps ->
   (∀ x∈ps,x.block<W.heap.size)->(∀ x∈ps,sp x.block=true)->DataW.TrodAll enc P W' 0 sp true ts vs ds ps
 | [],[],[],_,_,h,_,_=>h
 | [],_::_,_,_,_,h,_,_=>h.elim
 | [],[],_::_,_,_,h,_,_=>h.elim
 | _::_,[],_,_,_,h,_,_=>h.elim
 | _::_,_::_,[],_,_,h,_,_=>h.elim
 | t::ts,v::vs,d::ds,ps,hr,h,hlt,hsp=>by
  obtain ⟨p,q,h1,h2,rfl⟩:=h;simp only [List.all_cons,Bool.and_eq_true,decide_eq_true_eq] at hr;exact ⟨p,q,WideElems.Trod_stays hl hr.1.1 hr.1.2 h1 (fun x hx=>hb.same (hlt x (by simp [hx]))) (fun x hx=>hsp x (by simp [hx])),
   rV hl hb sp hr.2 h2 (fun x hx=>hlt x (by simp [hx])) (fun x hx=>hsp x (by simp [hx])),rfl⟩
section
variable {H:Type} {enc:TypeId × Value→H} {P:Program}
theorem xN {f:Func} {s:ChangeSpec} {apart fresh handsOn again:Bool} {W W':World} {args:Array Value} {v:Value} {ds gs:List (DataW H)} {before pa pv:List MemPlace}
  (hW:DataW.Whole enc P f.params.toList s.vars apart W args.toList ds gs before)
  (hres:∀ (b:Nat) (sp:Nat->Bool) (hd:Bool),DataW.TrodAll enc P W' b sp hd f.resultTypes.toList (v.resultList f.resultTypes.size) (s.fn H (ds++gs)).results [])
  (hargs:∀ sp:Nat->Bool,(∀ p∈before,sp p.block=true)->DataW.TrodAll enc P W' 0 sp true f.params.toList args.toList (s.fn H (ds++gs)).args pa)
  (hvars:∀ sp:Nat->Bool,(∀ p∈before,sp p.block=true)->DataW.TrodVars enc P W' sp s.vars (s.fn H (ds++gs)).vars pv)
  (hps:before=pa++pv) (hb:Below W.heap.size W W')
  (hok:∀ (j:Nat) (t:TypeId) (r:Value),f.resultTypes[j]?=some t->(v.resultList f.resultTypes.size)[j]?=some r->Value.okWide P W' .any 0 t r) :
  s.post enc P f apart fresh handsOn again W args v W':=by
 have hlt:∀ p∈before,p.block<W.heap.size:=fun p hp=>hW.lt p hp
 have hold:∀ p∈before,(fun b=>decide (b<W.heap.size)) p.block=true:=fun p hp=>by simpa using hlt p hp
 refine ⟨ds,gs,before,[],pa,pv,hW,hres _ _ _,hargs _ hold,hvars _ hold,World.keptBut_mono (fun p hp=>⟨hp,?_⟩) (hb.frame (·∈before)),fun _=>?_⟩
 ·rw [hps,List.mem_append] at hp
  exact Or.inr hp
 ·obtain ⟨_,_,_,_,_,hz,hn⟩:=hW
  refine ⟨hok,_,_,([]++pa)++pv,⟨[]++pa,pv,trodAll_append (hargs _ (fun _ _=>rfl)) (hres _ _ _),hvars _ (fun _ _=>rfl),rfl,?_,?_⟩,?_⟩
  ·intro b off hp
   have hin:MemPlace.cell b off∈before:=by rw [hps];simpa using hp
   rw [hb.frozen (hlt _ hin)]
   exact hz b off hin
  ·intro ha
   have:=hn ha
   rw [hps] at this
   simpa using this
  ·intro p hp _
   rw [hps]
   simpa using hp
end
theorem A9 {H:Type} {enc:TypeId × Value->H} {P:Program} {id:FuncId} {f:Func} {s:ChangeSpec} {W:World} {args:Array Value} {ds gs:List (DataW H)} {before:List MemPlace} {av:List AV} {tb:TypeId}
  (hl:laidOutB P=true) (htb:P.underlying tb=some .bool) (hres:f.resultTypes=#[tb]) (hr:(f.params.toList.all fun t=>P.readableRec t && decide (t<P.types.size))=true) (hvars:s.vars=[])
  (hfn:(s.fn H (ds++gs)).results=[.lit (.bool true)]) (hfa:(s.fn H (ds++gs)).args=ds) (hfv:(s.fn H (ds++gs)).vars=[])
  (hW:DataW.Whole enc P f.params.toList s.vars false W args.toList ds gs before)
  (hrel:RelL [] W (fun b=>b<W.heap.size) av args.toList) (hc:ACalls P id av [] fun r aw'=>r=.bool true/\aw'=[]) :
  Calls P id args W fun e W'=>∃ v,e=.returned v/\s.post enc P f false true false false W args v W':=by
 have hs:Sim [] [] W (fun b=>b<W.heap.size):=⟨rfl,fun k o v h=>by simp at h,fun k k' o o' v v' g _ h=>by simp at h,fun b h=>h⟩
 refine (hc.2 W _ [] args.toList hs hrel).mono fun e W' hx=>?_
 obtain ⟨v,r,aw',σ',F',he,⟨hr1,hr2⟩,_,hv,hm⟩:=hx
 subst hr1;subst hr2
 cases hv
 have hb:Below W.heap.size W W':=⟨hm.os,hm.tape,hm.output.1,hm.size,fun k hk=>hm.keep k hk (fun ⟨k',o,v,ho,_⟩=>by simp at ho)⟩
 refine ⟨.bool true,he,?_⟩
 have hW':=hW
 obtain ⟨p,q,hA,hV,rfl,hfz,hnd⟩:=hW'
 rw [hvars] at hV
 obtain ⟨rfl,rfl⟩:=trodVars_none hV
 have hlt:∀ x∈p++[],x.block<W.heap.size:=fun x hx=>hW.lt x hx
 refine xN (pa:=p) (pv:=[]) hW (fun b sp hd=>?_) (fun sp hsp=>?_) (fun sp hsp=>?_) rfl hb (ok_one hres rfl (okWide_bool_mk htb _))
 ·rw [hfn,hres]
  exact trodAll_cons_mk (shut_bool htb _) trodAll_mk0
 ·rw [hfa]
  exact rV hl hb sp hr hA (fun x hx=>hlt x (by simpa using hx)) (fun x hx=>hsp x (by simpa using hx))
 ·rw [hfv,hvars]
  exact rfl
end
section
open Go.RowKit
theorem on3:Opn Tryz.prog 3 (fun n:Int=>[.int .i64 n]) gI mI :=
 (Opn.int Tryz.underlying3).map id (fun _=>rfl) (fun a h=>⟨h.1,h.2⟩) (fun _=>Nat.le_refl _)
theorem on49:Opn Tryz.prog 49 (fun l=>[.sl (l.map ah)]) (gL gI) (mL mI) :=
 (Opn.slice (size:=0) Tryz.underlying49 Ty.c3 on3).map id (fun _=>rfl) (fun a h=>h) (fun _=>Nat.le_refl _)
theorem on61:Opn Tryz.prog 61 ai gNode eV :=
 (Opn.struct Tryz.underlying61 Ty.c61 (OpnF.cons rfl 1 Ty.c3 on3 (OpnF.cons rfl 1 Ty.c3 on3 (OpnF.cons rfl 1 Ty.c49 on49 (OpnF.cons rfl 1 Ty.c49 on49 OpnF.nil))))).map (fun p=>(⟨p.1,p.2.1,p.2.2.1,p.2.2.2.1⟩:Node)) (fun p=>rfl) (fun p h=>⟨h.1,h.2.1,h.2.2.1,h.2.2.2.1⟩) (fun p=>by simp only [eV,mI,mB];omega)
theorem on22:Opn Tryz.prog 22 (fun l=>[.sl (l.map ai)]) (gL gNode) (mL eV) :=
 (Opn.slice (size:=3) Tryz.underlying22 Ty.c61 on61).map id (fun _=>rfl) (fun a h=>h) (fun _=>Nat.le_refl _)
theorem on24:Opn Tryz.prog 24 au gNet mNet :=
 (Opn.struct Tryz.underlying24 Ty.c24 (OpnF.cons rfl 1 Ty.c22 on22 (OpnF.cons rfl 1 Ty.c3 on3 (OpnF.cons rfl 1 Ty.c3 on3 OpnF.nil)))).map (fun p=>(⟨p.1,p.2.1,p.2.2.1⟩:Net)) (fun p=>rfl) (fun p h=>⟨h.1,h.2.1,h.2.2.1⟩) (fun p=>by simp only [mNet,mI,mB];omega)
theorem on39:Opn Tryz.prog 39 aa gItem mItem :=
 (Opn.struct Tryz.underlying39 Ty.c39 (OpnF.cons rfl 1 Ty.c3 on3 (OpnF.cons rfl 1 Ty.c3 on3 (OpnF.cons rfl 1 Ty.c3 on3 OpnF.nil)))).map (fun p=>(⟨p.1,p.2.1,p.2.2.1⟩:Item)) (fun p=>rfl) (fun p h=>⟨h.1,h.2.1,h.2.2.1⟩) (fun p=>by simp only [mItem,mI,mB];omega)
theorem on26:Opn Tryz.prog 26 (fun l=>[.sl (l.map aa)]) (gL gItem) (mL mItem) :=
 (Opn.slice (size:=2) Tryz.underlying26 Ty.c39 on39).map id (fun _=>rfl) (fun a h=>h) (fun _=>Nat.le_refl _)
theorem on25:Opn Tryz.prog 25 (fun l=>[.sl (l.map (ae aa))]) (gL (gL gItem)) (mL (mL mItem)) :=
 (Opn.slice (size:=0) Tryz.underlying25 Ty.c26 on26).map id (fun _=>rfl) (fun a h=>h) (fun _=>Nat.le_refl _)
end
section
structure Wk (K O:Type) where
 seen:List K
 runs:Nat
 out:List O
def dH {S K O:Type} (g:S->Wk K O->Option (Bool × Wk K O)):List S->Wk K O->Option (Bool × Wk K O)
 | [],w=>some (true,w)
 | s::ss,w=>match g s w with
  | none=>none
  | some (false,w')=>some (false,w')
  | some (true,w')=>dH g ss w'
section
variable {S K M O:Type} [DecidableEq K] (calm:S→S) (nm:S→K) (rdy:S→List M) (go:S→M→S) (pl:S→O) (cap:Nat)
def walkD:Nat->S->Wk K O->Option (Bool × Wk K O)
 | 0,_,_=>none
 | f+1,s,w =>
  if nm (calm s)∈w.seen then some (true,w)
  else if cap<w.runs+1 then some (false,⟨nm (calm s)::w.seen,w.runs+1,w.out⟩)
  else if rdy (calm s)=[] then some (true,⟨nm (calm s)::w.seen,w.runs+1,w.out++[pl (calm s)]⟩)
  else dH (walkD f) ((rdy (calm s)).map (go (calm s))) ⟨nm (calm s)::w.seen,w.runs+1,w.out⟩
structure Vis (from_:List S) (w w':Wk K O) (V:List S):Prop where
 seen:w'.seen=V.map nm++w.seen
 runs:w'.runs=w.runs+V.length
 sub:∃ l,w'.out=w.out++l/\∀ o,o∈l->∃ c,c∈V/\rdy c=[]/\o=pl c
 new:∀ c,c∈V->nm c ∉ w.seen
 nodup:(V.map nm).Nodup
 fin:∀ c,c∈V->rdy c=[]->pl c∈w'.out
 nxt:∀ c,c∈V->∀ m,m∈rdy c->nm (calm (go c m))∈w'.seen
 here:∀ s,s∈from_->nm (calm s)∈w'.seen
 all:∀ P:S->Prop,(∀ s,s∈from_->P (calm s))->(∀ c m,P c->m∈rdy c->P (calm (go c m)))->∀ c,c∈V->P c
variable {calm nm rdy go pl cap}
omit [DecidableEq K] in
theorem ub {g:S->Wk K O->Option (Bool × Wk K O)} (hg:∀ s w w',g s w=some (true,w')->∃ V,Vis calm nm rdy go pl [s] w w' V) :
  ∀ (ss:List S) (w w':Wk K O),dH g ss w=some (true,w')->∃ V,Vis calm nm rdy go pl ss w w' V
 | [],w,w',h=>by
  simp only [dH,Option.some.injEq,Prod.mk.injEq,true_and] at h;subst h;exact ⟨[],by simp,by simp,⟨[],by simp,fun o h=>(List.not_mem_nil h).elim⟩,fun c h=>(List.not_mem_nil h).elim,by simp,fun c h=>(List.not_mem_nil h).elim,fun c h=>(List.not_mem_nil h).elim,fun c h=>(List.not_mem_nil h).elim,fun P _ _ c h=>(List.not_mem_nil h).elim⟩
 | s :: ss,w,w',h=>by
  unfold dH at h;cases hs:g s w with
  | none=>rw [hs] at h;cases h
  | some r =>
   obtain ⟨b,w1⟩:=r;rw [hs] at h;cases b with
   | false=>simp at h
   | true =>
    obtain ⟨V1,v1⟩:=hg s w w1 hs;obtain ⟨V2,v2⟩:=ub hg ss w1 w' h;obtain ⟨l1,e1,o1⟩:=v1.sub;obtain ⟨l2,e2,o2⟩:=v2.sub;have up:∀ k,k∈w1.seen->k∈w'.seen:=fun k hk=>by rw [v2.seen];exact List.mem_append_right _ hk
    refine ⟨V2++V1,?_,?_,⟨l1++l2,?_,fun o ho=>?_⟩,fun c hc=>?_,?_,fun c hc hr=>?_,fun c hc m hm=>?_,fun t ht=>?_,fun P h1 h2 c hc=>?_⟩
    ·rw [v2.seen,v1.seen];simp
    ·rw [v2.runs,v1.runs,List.length_append];omega
    ·rw [e2,e1,List.append_assoc]
    ·rcases List.mem_append.1 ho with ho | ho
     ·obtain ⟨c,h1,h2⟩:=o1 o ho;exact ⟨c,List.mem_append_right _ h1,h2⟩
     ·obtain ⟨c,h1,h2⟩:=o2 o ho;exact ⟨c,List.mem_append_left _ h1,h2⟩
    ·rcases List.mem_append.1 hc with hc | hc
     ·exact fun hk=>v2.new c hc (by rw [v1.seen];exact List.mem_append_right _ hk)
     ·exact v1.new c hc
    ·rw [List.map_append,List.nodup_append];refine ⟨v2.nodup,v1.nodup,fun a ha b hb e=>?_⟩;subst e;obtain ⟨c,hc,rfl⟩:=List.mem_map.1 ha;exact v2.new c hc (by rw [v1.seen];exact List.mem_append_left _ hb)
    ·rcases List.mem_append.1 hc with hc | hc
     ·exact v2.fin c hc hr
     ·rw [e2];exact List.mem_append_left _ (v1.fin c hc hr)
    ·rcases List.mem_append.1 hc with hc | hc
     ·exact v2.nxt c hc m hm
     ·exact up _ (v1.nxt c hc m hm)
    ·rcases List.mem_cons.1 ht with rfl | ht
     ·exact up _ (v1.here _ (List.mem_singleton.2 rfl))
     ·exact v2.here t ht
    ·rcases List.mem_append.1 hc with hc | hc
     ·exact v2.all P (fun t ht=>h1 t (List.mem_cons_of_mem _ ht)) h2 c hc
     ·exact v1.all P (fun t ht=>by rw [List.mem_singleton] at ht;subst ht;exact h1 t List.mem_cons_self) h2 c hc
theorem pe:∀ (f:Nat) (s:S) (w w':Wk K O),walkD calm nm rdy go pl cap f s w=some (true,w')->∃ V,Vis calm nm rdy go pl [s] w w' V
 | 0,s,w,w',h=>by simp [walkD] at h
 | f + 1,s,w,w',h=>by
  unfold walkD at h;split at h
  ·rename_i hin;simp only [Option.some.injEq,Prod.mk.injEq,true_and] at h;subst h;exact ⟨[],by simp,by simp,⟨[],by simp,fun o h=>(List.not_mem_nil h).elim⟩,fun c h=>(List.not_mem_nil h).elim,by simp,fun c h=>(List.not_mem_nil h).elim,fun c h=>(List.not_mem_nil h).elim,fun t ht=>by rw [List.mem_singleton] at ht;subst ht;exact hin,fun P _ _ c h=>(List.not_mem_nil h).elim⟩
  ·rename_i hin;split at h
   ·simp at h
   ·split at h
    ·rename_i hr;simp only [Option.some.injEq,Prod.mk.injEq,true_and] at h;subst h;refine ⟨[calm s],rfl,rfl,⟨[pl (calm s)],rfl,fun o ho=>?_⟩,fun c hc=>?_,by simp,fun c hc _=>?_,fun c hc m hm=>?_,fun t ht=>?_,fun P h1 h2 c hc=>?_⟩
     ·rw [List.mem_singleton] at ho;exact ⟨calm s,List.mem_singleton.2 rfl,hr,ho⟩
     ·rw [List.mem_singleton] at hc;subst hc;exact hin
     ·rw [List.mem_singleton] at hc;subst hc;simp
     ·rw [List.mem_singleton] at hc;subst hc;rw [hr] at hm;exact (List.not_mem_nil hm).elim
     ·rw [List.mem_singleton] at ht;subst ht;exact List.mem_cons_self
     ·rw [List.mem_singleton] at hc;subst hc;exact h1 s (List.mem_singleton.2 rfl)
    ·rename_i hr;obtain ⟨V,v⟩:=ub (fun s w w' h=>pe f s w w' h) _ _ _ h;obtain ⟨l,e,o⟩:=v.sub;refine ⟨V++[calm s],?_,?_,⟨l,e,fun x hx=>?_⟩,fun c hc=>?_,?_,fun c hc hr'=>?_,fun c hc m hm=>?_,fun t ht=>?_,fun P h1 h2 c hc=>?_⟩
     ·rw [v.seen];simp
     ·rw [v.runs,List.length_append];simp only [List.length_singleton];omega
     ·obtain ⟨c,h1,h2⟩:=o x hx;exact ⟨c,List.mem_append_left _ h1,h2⟩
     ·rcases List.mem_append.1 hc with hc | hc
      ·exact fun hk=>v.new c hc (List.mem_cons_of_mem _ hk)
      ·rw [List.mem_singleton] at hc;subst hc;exact hin
     ·rw [List.map_append,List.nodup_append];refine ⟨v.nodup,by simp,fun a ha b hb e=>?_⟩;subst e;obtain ⟨c,hc,rfl⟩:=List.mem_map.1 ha;simp only [List.map_cons,List.map_nil,List.mem_singleton] at hb;exact v.new c hc (by rw [hb];exact List.mem_cons_self)
     ·rcases List.mem_append.1 hc with hc | hc
      ·exact v.fin c hc hr'
      ·rw [List.mem_singleton] at hc;subst hc;exact absurd hr' hr
     ·rcases List.mem_append.1 hc with hc | hc
      ·exact v.nxt c hc m hm
      ·rw [List.mem_singleton] at hc;subst hc;exact v.here _ (List.mem_map.2 ⟨m,hm,rfl⟩)
     ·rw [List.mem_singleton] at ht;subst ht;rw [v.seen];exact List.mem_append_right _ List.mem_cons_self
     ·rcases List.mem_append.1 hc with hc | hc
      ·exact v.all P (fun t ht=>by
        obtain ⟨m,hm,rfl⟩:=List.mem_map.1 ht;exact h2 _ _ (h1 s (List.mem_singleton.2 rfl)) hm) h2 c hc
      ·rw [List.mem_singleton] at hc;subst hc;exact h1 s (List.mem_singleton.2 rfl)
end
end
section
theorem sR {K:Type} [DecidableEq K]:∀ {l m:List K},l.Nodup->(∀ x,x∈l->x∈m)->l.length<=m.length
 | [],m,_,_=>Nat.zero_le _
 | a::l,m,hn,h=>by
  have hn:=List.nodup_cons.1 hn;have ha:=h a List.mem_cons_self;have:=sR (l:=l) (m:=m.erase a) hn.2 fun x hx=>(List.mem_erase_of_ne (show x≠a from fun e=>hn.1 (by rw [<- e];exact hx))).2 (h x (List.mem_cons_of_mem _ hx))
  rw [List.length_erase_of_mem ha] at this;have hp:=List.length_pos_of_mem ha;rw [List.length_cons];omega
section
variable {S K M O:Type} [DecidableEq K] (calm:S→S) (nm:S→K) (rdy:S→List M) (go:S→M→S) (pl:S→O)
structure SameG (Q:S->Prop):Prop where
 next:∀ c d,Q c->Q d->nm c=nm d->∀ m,m∈rdy c->m∈rdy d/\nm (calm (go c m))=nm (calm (go d m))
 step:∀ c m,Q c->m∈rdy c->Q (calm (go c m))
 out:∀ c d,Q c->Q d->nm c=nm d->pl c=pl d
structure WholeG (s0:S) (V:List S):Prop where
 first:nm (calm s0)∈V.map nm
 nxt:∀ c,c∈V->∀ m,m∈rdy c->nm (calm (go c m))∈V.map nm
def AllG (s0:S) (V:List S):Prop:=∀ P:S->Prop,P (calm s0)->(∀ c m,P c->m∈rdy c->P (calm (go c m)))->∀ c,c∈V->P c
structure Sch (s0:S) (work:List S) (w:Wk K O) (V:List S):Prop where
 seen:w.seen=V.map nm
 runs:w.runs=V.length
 nodup:(V.map nm).Nodup
 out:∀ o,o∈w.out ↔ ∃ c,c∈V/\rdy c=[]/\o=pl c
 all:AllG calm rdy go s0 V
 allW:∀ P:S->Prop,P (calm s0)->(∀ c m,P c->m∈rdy c->P (calm (go c m)))->∀ t,t∈work->P (calm t)
 first:nm (calm s0)∈V.map nm∨s0∈work
 nxt:∀ c,c∈V->∀ m,m∈rdy c->nm (calm (go c m))∈V.map nm∨go c m∈work
variable {calm nm rdy go pl} {Q:S→Prop} {s0:S} {V V':List S}
omit [DecidableEq K] in
theorem uo (G:SameG calm nm rdy go pl Q) (hq:Q (calm s0)) (hV:AllG calm rdy go s0 V) (hQ:∀ c,c∈V'->Q c) (w:WholeG calm nm rdy go s0 V'):∀ c,c∈V->Q c/\nm c∈V'.map nm :=
 hV (fun c=>Q c/\nm c∈V'.map nm) ⟨hq,w.first⟩ fun c m h hm=>⟨G.step c m h.1 hm,by
  obtain ⟨d,hd,e⟩:=List.mem_map.1 h.2;have:=G.next c d h.1 (hQ d hd) e.symm m hm;rw [this.2];exact w.nxt d hd m this.1⟩
omit [DecidableEq K] in
theorem all_q (G:SameG calm nm rdy go pl Q) (hq:Q (calm s0)) (hV:AllG calm rdy go s0 V):∀ c,c∈V->Q c:=hV Q hq G.step
theorem v7 (G:SameG calm nm rdy go pl Q) (hq:Q (calm s0)) (hV:AllG calm rdy go s0 V) (hn:(V.map nm).Nodup) (hV':AllG calm rdy go s0 V') (w:WholeG calm nm rdy go s0 V'):V.length<=V'.length:=by
 have h:=uo G hq hV (all_q G hq hV') w;have:=sR (l:=V.map nm) (m:=V'.map nm) hn fun x hx=>by
  obtain ⟨c,hc,rfl⟩:=List.mem_map.1 hx;exact (h c hc).2
 simpa using this
omit [DecidableEq K] in
theorem vg (G:SameG calm nm rdy go pl Q) (hq:Q (calm s0)) (hV:AllG calm rdy go s0 V) (hV':AllG calm rdy go s0 V') (w:WholeG calm nm rdy go s0 V') {o:O} (h:∃ c,c∈V/\rdy c=[]/\o=pl c):∃ c,c∈V'/\rdy c=[]/\o=pl c:=by
 obtain ⟨c,hc,hr,rfl⟩:=h;obtain ⟨h1,h2⟩:=uo G hq hV (all_q G hq hV') w c hc;obtain ⟨d,hd,e⟩:=List.mem_map.1 h2;have hqd:=all_q G hq hV' d hd;refine ⟨d,hd,?_,G.out c d h1 hqd e.symm⟩;cases hrd:rdy d with
 | nil=>rfl
 | cons m l =>
  have:=(G.next d c hqd h1 e m (by rw [hrd];exact List.mem_cons_self)).1;rw [hr] at this;cases this
omit [DecidableEq K] in
theorem Aa {w w':Wk K O} (h0:w.seen=[]) (v:Vis calm nm rdy go pl [s0] w w' V):WholeG calm nm rdy go s0 V/\AllG calm rdy go s0 V:=by
 have e:w'.seen=V.map nm:=by rw [v.seen,h0,List.append_nil]
 exact ⟨⟨e▸v.here s0 (List.mem_singleton.2 rfl),fun c hc m hm=>e▸v.nxt c hc m hm⟩,fun P h1 h2=>v.all P (fun s hs=>by rw [List.mem_singleton] at hs;subst hs;exact h1) h2⟩
variable (calm nm rdy go) in
structure Ovr (from_:List S) (w w':Wk K O) (V:List S):Prop where
 runs:w'.runs=w.runs+V.length
 new:∀ c,c∈V->nm c ∉ w.seen
 nodup:(V.map nm).Nodup
 all:∀ P:S->Prop,(∀ s,s∈from_->P (calm s))->(∀ c m,P c->m∈rdy c->P (calm (go c m)))->∀ c,c∈V->P c
omit [DecidableEq K] in
theorem sA {g:S->Wk K O->Option (Bool × Wk K O)} {cap:Nat} (hg:∀ s w w',g s w=some (true,w')->∃ V,Vis calm nm rdy go pl [s] w w' V) (hf:∀ s w w',g s w=some (false,w')->∃ V,Ovr calm nm rdy go [s] w w' V/\cap<w'.runs) :
  ∀ (ss:List S) (w w':Wk K O),dH g ss w=some (false,w')->∃ V,Ovr calm nm rdy go ss w w' V/\cap<w'.runs
 | [],w,w',h=>by simp [dH] at h
 | s :: ss,w,w',h=>by
  unfold dH at h;cases hs:g s w with
  | none=>rw [hs] at h;cases h
  | some r =>
   obtain ⟨b,w1⟩:=r;rw [hs] at h;cases b with
   | false =>
    simp only [Option.some.injEq,Prod.mk.injEq,true_and] at h;subst h;obtain ⟨V,v,hc⟩:=hf s w w1 hs;exact ⟨V,⟨v.runs,v.new,v.nodup,fun P h1 h2=>v.all P (fun t ht=>by rw [List.mem_singleton] at ht;subst ht;exact h1 t List.mem_cons_self) h2⟩,hc⟩
   | true =>
    obtain ⟨V1,v1⟩:=hg s w w1 hs;obtain ⟨V2,v2,hc⟩:=sA hg hf ss w1 w' h;refine ⟨V2++V1,⟨?_,fun c hc=>?_,?_,fun P h1 h2 c hc=>?_⟩,hc⟩
    ·rw [v2.runs,v1.runs,List.length_append];omega
    ·rcases List.mem_append.1 hc with hc | hc
     ·exact fun hk=>v2.new c hc (by rw [v1.seen];exact List.mem_append_right _ hk)
     ·exact v1.new c hc
    ·rw [List.map_append,List.nodup_append];refine ⟨v2.nodup,v1.nodup,fun a ha b hb e=>?_⟩;subst e;obtain ⟨c,hc,rfl⟩:=List.mem_map.1 ha;exact v2.new c hc (by rw [v1.seen];exact List.mem_append_left _ hb)
    ·rcases List.mem_append.1 hc with hc | hc
     ·exact v2.all P (fun t ht=>h1 t (List.mem_cons_of_mem _ ht)) h2 c hc
     ·exact v1.all P (fun t ht=>by rw [List.mem_singleton] at ht;subst ht;exact h1 t List.mem_cons_self) h2 c hc
theorem sf {cap:Nat}:∀ (f:Nat) (s:S) (w w':Wk K O),walkD calm nm rdy go pl cap f s w=some (false,w')->∃ V,Ovr calm nm rdy go [s] w w' V/\cap<w'.runs
 | 0,s,w,w',h=>by simp [walkD] at h
 | f + 1,s,w,w',h=>by
  unfold walkD at h;split at h
  ·simp at h
  ·rename_i hin;split at h
   ·rename_i hcap;simp only [Option.some.injEq,Prod.mk.injEq,true_and] at h;subst h;refine ⟨[calm s],⟨rfl,fun c hc=>?_,by simp,fun P h1 h2 c hc=>?_⟩,hcap⟩
    ·rw [List.mem_singleton] at hc;subst hc;exact hin
    ·rw [List.mem_singleton] at hc;subst hc;exact h1 s (List.mem_singleton.2 rfl)
   ·split at h
    ·simp at h
    ·obtain ⟨V,v,hc⟩:=sA (fun s w w' h=>pe f s w w' h) (fun s w w' h=>sf f s w w' h) _ _ _ h;refine ⟨V++[calm s],⟨?_,fun c hc=>?_,?_,fun P h1 h2 c hc=>?_⟩,hc⟩
     ·rw [v.runs,List.length_append];simp only [List.length_singleton];omega
     ·rcases List.mem_append.1 hc with hc | hc
      ·exact fun hk=>v.new c hc (List.mem_cons_of_mem _ hk)
      ·rw [List.mem_singleton] at hc;subst hc;exact hin
     ·rw [List.map_append,List.nodup_append];refine ⟨v.nodup,by simp,fun a ha b hb e=>?_⟩;subst e;obtain ⟨c,hc,rfl⟩:=List.mem_map.1 ha;simp only [List.map_cons,List.map_nil,List.mem_singleton] at hb;exact v.new c hc (by rw [hb];exact List.mem_cons_self)
     ·rcases List.mem_append.1 hc with hc | hc
      ·exact v.all P (fun t ht=>by
        obtain ⟨m,hm,rfl⟩:=List.mem_map.1 ht;exact h2 _ _ (h1 s (List.mem_singleton.2 rfl)) hm) h2 c hc
      ·rw [List.mem_singleton] at hc;subst hc;exact h1 s (List.mem_singleton.2 rfl)
omit [DecidableEq K] in
theorem Sch.begin_:Sch calm nm rdy go pl s0 [s0] ⟨[],0,[]⟩ [] :=
 ⟨rfl,rfl,.nil,fun o=>⟨fun h=>(by cases h),fun ⟨c,hc,_⟩=>(by cases hc)⟩,fun P _ _ c hc=>(by cases hc),fun P h1 _ t ht=>(by rw [List.mem_singleton] at ht;subst ht;exact h1),.inr (List.mem_singleton.2 rfl),fun c hc=>(by cases hc)⟩
omit [DecidableEq K] in
theorem Sch.skip {rest:List S} {t:S} {w:Wk K O} (h:Sch calm nm rdy go pl s0 (rest++[t]) w V) (hin:nm (calm t)∈w.seen):Sch calm nm rdy go pl s0 rest w V:=by
 rw [h.seen] at hin;refine ⟨h.seen,h.runs,h.nodup,h.out,h.all,fun P h1 h2 x hx=>h.allW P h1 h2 x (List.mem_append_left _ hx),?_,fun c hc m hm=>?_⟩
 ·rcases h.first with e | e
  ·exact .inl e
  ·rcases List.mem_append.1 e with e | e
   ·exact .inr e
   ·rw [List.mem_singleton] at e;subst e;exact .inl hin
 ·rcases h.nxt c hc m hm with e | e
  ·exact .inl e
  ·rcases List.mem_append.1 e with e | e
   ·exact .inr e
   ·rw [List.mem_singleton] at e;rw [e];exact .inl hin
omit [DecidableEq K] in
theorem Sch.visit {rest:List S} {t:S} {w:Wk K O} (h:Sch calm nm rdy go pl s0 (rest++[t]) w V) (hin:nm (calm t) ∉ w.seen) {out:List O} (ho:(rdy (calm t)=[]/\out=w.out++[pl (calm t)])∨(rdy (calm t)≠[]/\out=w.out)) :
  Sch calm nm rdy go pl s0 (rest++(rdy (calm t)).map (go (calm t))) ⟨nm (calm t)::w.seen,w.runs+1,out⟩ (calm t::V):=by
 rw [h.seen] at hin
 have ht:∀ P:S->Prop,P (calm s0)->(∀ c m,P c->m∈rdy c->P (calm (go c m)))->P (calm t):=fun P h1 h2=>h.allW P h1 h2 t (List.mem_append_right _ (List.mem_singleton.2 rfl))
 refine ⟨?_,?_,?_,fun o=>?_,fun P h1 h2 c hc=>?_,fun P h1 h2 x hx=>?_,?_,fun c hc m hm=>?_⟩
 ·simp [h.seen]
 ·simp [h.runs]
 ·rw [List.map_cons,List.nodup_cons];exact ⟨hin,h.nodup⟩
 ·rcases ho with ⟨hr,rfl⟩ | ⟨hr,rfl⟩
  ·simp only [List.mem_append,List.mem_singleton,h.out o]
   constructor
   ·rintro (⟨c,hc,h1,h2⟩ | rfl)
    ·exact ⟨c,List.mem_cons_of_mem _ hc,h1,h2⟩
    ·exact ⟨calm t,List.mem_cons_self,hr,rfl⟩
   ·rintro ⟨c,hc,h1,h2⟩
    rcases List.mem_cons.1 hc with rfl | hc
    ·exact .inr h2
    ·exact .inl ⟨c,hc,h1,h2⟩
  ·simp only [h.out o]
   constructor
   ·rintro ⟨c,hc,h1,h2⟩
    exact ⟨c,List.mem_cons_of_mem _ hc,h1,h2⟩
   ·rintro ⟨c,hc,h1,h2⟩
    rcases List.mem_cons.1 hc with rfl | hc
    ·exact absurd h1 hr
    ·exact ⟨c,hc,h1,h2⟩
 ·rcases List.mem_cons.1 hc with rfl | hc
  ·exact ht P h1 h2
  ·exact h.all P h1 h2 c hc
 ·rcases List.mem_append.1 hx with hx | hx
  ·exact h.allW P h1 h2 x (List.mem_append_left _ hx)
  ·obtain ⟨m,hm,rfl⟩:=List.mem_map.1 hx
   exact h2 _ _ (ht P h1 h2) hm
 ·rw [List.map_cons]
  rcases h.first with e | e
  ·exact .inl (List.mem_cons_of_mem _ e)
  ·rcases List.mem_append.1 e with e | e
   ·exact .inr (List.mem_append_left _ e)
   ·rw [List.mem_singleton] at e;subst e;exact .inl List.mem_cons_self
 ·rw [List.map_cons]
  rcases List.mem_cons.1 hc with rfl | hc
  ·exact .inr (List.mem_append_right _ (List.mem_map.2 ⟨m,hm,rfl⟩))
  ·rcases h.nxt c hc m hm with e | e
   ·exact .inl (List.mem_cons_of_mem _ e)
   ·rcases List.mem_append.1 e with e | e
    ·exact .inr (List.mem_append_left _ e)
    ·rw [List.mem_singleton] at e;rw [e];exact .inl List.mem_cons_self
omit [DecidableEq K] in
theorem Sch.whole {w:Wk K O} (h:Sch calm nm rdy go pl s0 [] w V):WholeG calm nm rdy go s0 V:=by
 refine ⟨?_,fun c hc m hm=>?_⟩
 ·rcases h.first with e | e
  ·exact e
  ·cases e
 ·rcases h.nxt c hc m hm with e | e
  ·exact e
  ·cases e
end
end
def c8:Ends:=⟨-1, -1⟩
theorem t6 (R:Nat) (hR:R<=16):∀ (n k:Nat) (xs:List Ends),R - k<=n->1<=k->k<=R->xs.length=R->xs.take k=List.replicate k c8 ->
  iter (fun ss:Int × List Ends=>fS ss.1 ss.2) ((k:Int),xs)=some (List.replicate R c8)
 | n,k,xs,hn,h1,h2,hl,ht=>by
  rw [an];by_cases hk:k=R
  ·subst hk;unfold fS;rw [if_neg (by simp [hl])];have:xs=List.replicate k c8:=by rw [<- ht,List.take_of_length_le (by omega)]
   simp [this]
  ·have hkR:k<R:=by omega
   have v1:vwok xs.length (k:Int) (xs.length:Int)=some ():=by unfold vwok;rw [if_pos (by omega)]
   have v2:vwok xs.length 0 (k:Int)=some ():=by unfold vwok;rw [if_pos (by omega)]
   have v3:vwok xs.length ((((k:Int)).toNat:Nat):Int) ((((k:Int).toNat:Nat):Int)+((((xs.length:Int)).toNat - (k:Int).toNat:Nat):Int))=some ():=by unfold vwok;rw [if_pos (by omega)]
   have v4:vwok xs.length ((((0:Int)).toNat:Nat):Int) ((((0:Int).toNat:Nat):Int)+(((k:Int).toNat - (0:Int).toNat:Nat):Int))=some ():=by unfold vwok;rw [if_pos (by simp;omega)]
   have hstep:fS (k:Int) xs=some (.inl (((k+min (R - k) k:Nat):Int),xs.take k++(xs.take k).take (R - k)++xs.drop (k+min (R - k) k))):=by
    unfold fS;rw [if_pos (by simp;omega),v1,Option.bind_some,v2,Option.bind_some,v3,Option.bind_some,v4,Option.bind_some];have e1:IntKind.i64.wrap ((k:Int)+((min (((xs.length:Int)).toNat - (k:Int).toNat) ((k:Int).toNat - (0:Int).toNat):Nat):Int))=((k+min (R - k) k:Nat):Int):=by
     rw [bl (by omega) (by simp only [Int.toNat_natCast,Int.toNat_zero,hl];omega)];simp only [Int.toNat_natCast,Int.toNat_zero,hl];omega
    rw [e1];simp only [cpy,Int.toNat_natCast,Int.toNat_zero,hl,List.drop_zero,Nat.sub_zero,List.length_take];congr 5;omega
   rw [hstep];simp only;have hm:1<=min (R - k) k:=by omega
   match n,hn with
   | 0,hn=>omega
   | n+1,hn =>
    refine t6 R hR n (k+min (R - k) k) _ (by omega) (by omega) (by omega) (by simp;omega) ?_
    rw [ht,List.take_replicate]
    have e:(List.replicate k c8++List.replicate (min (R - k) k) c8).length=k+min (R - k) k:=by simp
    rw [<- e,List.take_left,e]
    simp
theorem Cd (R:Nat) (hR:R<=16):mw (IntKind.u64.wrap (([(⟨(-1),(-1)⟩:Ends)]:List Ends).length:Int)) (IntKind.u64.wrap (R:Int))=some (0,(R:Int)):=by
 have:R=0∨R=1∨R=2∨R=3∨R=4∨R=5∨R=6∨R=7∨R=8∨R=9∨R=10∨R=11∨R=12∨R=13∨R=14∨R=15∨R=16:=by omega
 rcases this with rfl | rfl | rfl | rfl | rfl | rfl | rfl | rfl | rfl | rfl | rfl | rfl | rfl | rfl | rfl | rfl | rfl<;>rfl
theorem zj (R:Nat) (hR:R<=16):kD ([(⟨(-1),(-1)⟩:Ends)]:List Ends) (R:Int)=some (List.replicate R c8):=by
 unfold kD;rw [if_neg (by simp),Cd R hR,Option.bind_some,if_neg (by simp;omega),bl (show -9223372036854775808<=(R:Int) by omega) (show (R:Int)<=9223372036854775807 by omega)];have hmk:mk (R:Int) (⟨0,0⟩:Ends)=some (List.replicate R ⟨0,0⟩):=by unfold mk;rw [if_pos (by omega)];rfl
 rw [hmk,Option.bind_some];simp only [List.length_replicate,List.length_singleton];by_cases h0:R=0
 ·subst h0;rw [an];unfold fS;simp [cpy]
 ·have e:min R 1=1:=by omega
  rw [e];have hc:cpy (List.replicate R (⟨0,0⟩:Ends)) 0 R [(⟨(-1),(-1)⟩:Ends)]=c8::(List.replicate R (⟨0,0⟩:Ends)).drop 1:=by
   unfold cpy;have:([(⟨(-1),(-1)⟩:Ends)]:List Ends).take R=[⟨-1, -1⟩]:=List.take_of_length_le (by simp;omega);rw [this];simp [e,c8]
  rw [hc];exact t6 R hR R 1 _ (by omega) (by omega) (by omega) (by simp;omega) (by simp)
def cW (k:Int):Option (Int × Int):=if k=1 then some (0,1) else if k=2∨k=3∨k=4 then some (1,1) else if k=5∨k=7 then some (1, -1) else if k=6 then some (-1,1) else if k=8 then some (1,0) else none
def bH (n:Nat) (want:Int):Bool:=decide ((n:Int)=want∨want<0/\0<n)
def badA (x:Node):Bool:=decide (x.A<0∨x.Kind=1/\4<=x.A∨x.Kind=2/\3<x.A∨x.Kind≠1/\x.Kind≠2/\x.A≠0)
def cZ (x:Node):Int:=match cW x.Kind with
 | none=>5
 | some (i,o)=>if (bH x.In.length i && bH x.Out.length o)=false then 4 else if badA x then 3 else 0
def dn (R i:Int):List Int->List Ends->Int ⊕ List Ends
 | [],l=>.inr l
 | r::rs,l=>if r<0∨R<=r then .inl 3 else match l[r.toNat]? with
  | none=>.inl 99
  | some e=>if 0<=e.dst then .inl 6 else dn R i rs (l.set r.toNat ⟨e.src,i⟩)
def cx (R i:Int):List Int->List Ends->Int ⊕ List Ends
 | [],l=>.inr l
 | r::rs,l=>if r<0∨R<=r then .inl 3 else match l[r.toNat]? with
  | none=>.inl 99
  | some e=>if 0<=e.src then .inl 6 else cx R i rs (l.set r.toNat ⟨i,e.dst⟩)
def oneN (R:Int) (i:Nat) (x:Node) (l:List Ends):Int ⊕ List Ends :=
 if cZ x≠0 then .inl (cZ x) else match dn R i x.In l with
  | .inl e=>.inl e
  | .inr l1=>cx R i x.Out l1
def dm (R:Int):Nat->List Node->Nat->List Ends->Int ⊕ (Nat × List Ends)
 | _,[],s,l=>.inr (s,l)
 | i,x::xs,s,l=>match oneN R i x l with
  | .inl e=>.inl e
  | .inr l1=>dm R (i+1) xs (if x.Kind=8 then s+1 else s) l1
def dU (n:Net):Int ⊕ List Ends :=
 if n.Nodes.length<1∨12<n.Nodes.length∨n.Rings<0∨16<n.Rings then .inl 2
 else if n.Room<1∨6<n.Room then .inl 3
 else match dm n.Rings 0 n.Nodes 0 (List.replicate n.Rings.toNat c8) with
  | .inl e=>.inl e
  | .inr (s,l)=>if l.any (fun e=>decide (e.src<0∨e.dst<0)) then .inl 9 else if s≠1 then .inl 4 else .inr l
theorem mW (R i:Int):∀ (rs:List Int) (l l1:List Ends),dn R i rs l=.inr l1->l1.length=l.length
 | [],l,l1,h=>by cases h;rfl
 | r::rs,l,l1,h=>by
  unfold dn at h;split at h
  ·cases h
  ·split at h
   ·cases h
   ·split at h
    ·cases h
    ·have:=mW R i rs _ l1 h;simpa using this
theorem mT (R i:Int):∀ (rs:List Int) (l l1:List Ends),cx R i rs l=.inr l1->l1.length=l.length
 | [],l,l1,h=>by cases h;rfl
 | r::rs,l,l1,h=>by
  unfold cx at h;split at h
  ·cases h
  ·split at h
   ·cases h
   ·split at h
    ·cases h
    ·have:=mT R i rs _ l1 h;simpa using this
theorem uj {R:Int} {i:Nat} {x:Node} {l l1:List Ends} (h:oneN R i x l=.inr l1):l1.length=l.length:=by
 unfold oneN at h;split at h
 ·cases h
 ·split at h
  ·cases h
  ·rename_i l2 h2;exact (mT R i _ _ _ h).trans (mW R i _ _ _ h2)
theorem Ao (k:Int):k9 k=some (match cW k with | some (i,o)=>(i,o,true) | none=>(0,0,false)):=by
 unfold k9 hY jv cW;by_cases h1:k=1
 ·subst h1;rfl
 by_cases h2:k=2
 ·subst h2;rfl
 by_cases h3:k=3
 ·subst h3;rfl
 by_cases h4:k=4
 ·subst h4;rfl
 by_cases h5:k=5
 ·subst h5;rfl
 by_cases h6:k=6
 ·subst h6;rfl
 by_cases h7:k=7
 ·subst h7;rfl
 by_cases h8:k=8
 ·subst h8;rfl
 simp [h1,h2,h3,h4,h5,h6,h7,h8]
theorem Cr (n:Nat) (w:Int):jU (n:Int) w=some (bH n w):=by
 unfold jU bH;congr 1;rw [Bool.eq_iff_iff];simp
theorem B8 (n:Net) (s:Int) (i:Nat) (x:Node) (hR:n.Rings<=16) (k:Nat) (l:List Ends) (hlt:k<x.Out.length) (hx:x.Out.length<=1099511627776) (hl:(l.length:Int)=n.Rings) :
  gB n i x s k l=if x.Out[k]<0∨n.Rings<=x.Out[k] then some (.inr (.inr ([],3))) else match l[x.Out[k].toNat]? with
   | none=>none
   | some e=>if 0<=e.src then some (.inr (.inr ([],6))) else some (.inl (((k+1:Nat):Int),l.set x.Out[k].toNat ⟨i,e.dst⟩)):=by
 unfold gB
 rw [if_pos (by simp;omega),aN (List.getElem?_eq_getElem hlt),Option.bind_some]
 by_cases hr:x.Out[k]<0∨n.Rings<=x.Out[k]
 ·rw [if_pos (by simp;omega),if_pos hr];rfl
 ·rw [if_neg (by simp;omega),if_neg hr]
  have hrl:x.Out[k].toNat<l.length:=by omega
  have hix:ixN l x.Out[k]=some x.Out[k].toNat:=by unfold ixN;rw [if_pos (by omega)]
  have hg:=List.getElem?_eq_getElem hrl
  simp only [hix,hg,Option.bind_some,aJ (show k<4611686018427387904 by omega)]
  by_cases he:0<=l[x.Out[k].toNat].src
  ·rw [if_pos (by simp;omega),if_pos he];rfl
  ·rw [if_neg (by simp;omega),if_neg he]
theorem CW (n:Net) (s:Int) (i:Nat) (x:Node) (hR:n.Rings<=16) (k:Nat) (l:List Ends) (hlt:k<x.In.length) (hx:x.In.length<=1099511627776) (hl:(l.length:Int)=n.Rings) :
  gG n i x s k l=if x.In[k]<0∨n.Rings<=x.In[k] then some (.inr (.inr ([],3))) else match l[x.In[k].toNat]? with
   | none=>none
   | some e=>if 0<=e.dst then some (.inr (.inr ([],6))) else some (.inl (((k+1:Nat):Int),l.set x.In[k].toNat ⟨e.src,i⟩)):=by
 unfold gG
 rw [if_pos (by simp;omega),aN (List.getElem?_eq_getElem hlt),Option.bind_some]
 by_cases hr:x.In[k]<0∨n.Rings<=x.In[k]
 ·rw [if_pos (by simp;omega),if_pos hr];rfl
 ·rw [if_neg (by simp;omega),if_neg hr]
  have hrl:x.In[k].toNat<l.length:=by omega
  have hix:ixN l x.In[k]=some x.In[k].toNat:=by unfold ixN;rw [if_pos (by omega)]
  have hg:=List.getElem?_eq_getElem hrl
  simp only [hix,hg,Option.bind_some,aJ (show k<4611686018427387904 by omega)]
  by_cases he:0<=l[x.In[k].toNat].dst
  ·rw [if_pos (by simp;omega),if_pos he];rfl
  ·rw [if_neg (by simp;omega),if_neg he]
theorem u6 (n:Net) (s:Int) (i:Nat) (x:Node) (hx:x.Out.length<=1099511627776) (hi:i<=12) (hR:n.Rings<=16) :
  ∀ (m k:Nat) (l:List Ends),k+m=x.Out.length->(l.length:Int)=n.Rings ->
  iter (fun ss:Int × List Ends=>gB n i x s ss.1 ss.2) ((k:Int),l)=match cx n.Rings i (x.Out.drop k) l with
   | .inl e=>some (.inr ([],e))
   | .inr l1=>some (.inl (s,((i+1:Nat):Int),l1))
 | 0,k,l,h,hl=>by
  have hk:k=x.Out.length:=by omega
  subst hk;have:gB n i x s (x.Out.length:Int) l=some (.inr (.inl (s,((i+1:Nat):Int),l))):=by
   unfold gB;rw [if_neg (by simp),aJ (by omega)];rfl
  rw [an,List.drop_length];simp only [this,cx]
 | m+1,k,l,h,hl=>by
  have hlt:k<x.Out.length:=by omega
  rw [an,List.drop_eq_getElem_cons hlt];simp only [cx,B8 n s i x hR k l hlt hx hl];by_cases hr:x.Out[k]<0∨n.Rings<=x.Out[k]
  ·simp only [if_pos hr]
  ·simp only [if_neg hr];have hrl:x.Out[k].toNat<l.length:=by omega
   simp only [List.getElem?_eq_getElem hrl];by_cases he:0<=l[x.Out[k].toNat].src
   ·simp only [if_pos he]
   ·simp only [if_neg he];exact u6 n s i x hx hi hR m (k+1) _ (by omega) (by simpa using hl)
theorem vA (n:Net) (s:Int) (i:Nat) (x:Node) (hx:x.Out.length<=1099511627776) (hx2:x.In.length<=1099511627776) (hi:i<=12) (hR:n.Rings<=16) :
  ∀ (m k:Nat) (l:List Ends),k+m=x.In.length->(l.length:Int)=n.Rings ->
  iter (fun ss:Int × List Ends=>gG n i x s ss.1 ss.2) ((k:Int),l)=match (match dn n.Rings i (x.In.drop k) l with | .inl e=>Sum.inl e | .inr l1=>cx n.Rings i x.Out l1) with
   | .inl e=>some (.inr ([],e))
   | .inr l1=>some (.inl (s,((i+1:Nat):Int),l1))
 | 0,k,l,h,hl=>by
  have hk:k=x.In.length:=by omega
  subst hk;have:=u6 n s i x hx hi hR x.Out.length 0 l (by omega) hl;simp only [List.drop_zero,Int.natCast_zero] at this;have h2:gG n i x s (x.In.length:Int) l=Option.map Sum.inr (match cx n.Rings i x.Out l with | .inl e=>some (.inr ([],e)) | .inr l1=>some (.inl (s,((i+1:Nat):Int),l1))):=by
   unfold gG;rw [if_neg (by simp)];rw [<- this]
  rw [an,List.drop_length];simp only [h2,dn];cases cx n.Rings i x.Out l<;>rfl
 | m+1,k,l,h,hl=>by
  have hlt:k<x.In.length:=by omega
  rw [an,List.drop_eq_getElem_cons hlt];simp only [dn,CW n s i x hR k l hlt hx2 hl];by_cases hr:x.In[k]<0∨n.Rings<=x.In[k]
  ·simp only [if_pos hr]
  ·simp only [if_neg hr];have hrl:x.In[k].toNat<l.length:=by omega
   simp only [List.getElem?_eq_getElem hrl];by_cases he:0<=l[x.In[k].toNat].dst
   ·simp only [if_pos he]
   ·simp only [if_neg he];exact vA n s i x hx hx2 hi hR m (k+1) _ (by omega) (by simpa using hl)
theorem CR (x:Node):((decide (x.A<0)) || (if (x.Kind==1)=true then ((decide (x.A >= 4)) || (if (x.Kind==2)=true then ((decide (x.A > 3)) || ((x.Kind != 1) && ((x.Kind != 2) && x.A != 0))) else ((x.Kind != 1) && ((x.Kind != 2) && x.A != 0)))) else (if (x.Kind==2)=true then ((decide (x.A > 3)) || ((x.Kind != 1) && ((x.Kind != 2) && x.A != 0))) else ((x.Kind != 1) && ((x.Kind != 2) && x.A != 0)))))=badA x:=by
 unfold badA;by_cases h1:x.Kind=1
 ·rw [Bool.eq_iff_iff];simp [h1]
 ·by_cases h2:x.Kind=2
  ·rw [Bool.eq_iff_iff];simp [h1,h2]
  ·rw [Bool.eq_iff_iff];simp [h1,h2]
theorem B0 (s:Int) (l:List Ends) (hl:l.length<=16):iter (fun ss:Int=>ic s l ss) 0=some (if l.any (fun e=>decide (e.src<0∨e.dst<0)) then ([],9) else if s≠1 then ([],4) else (l,0)):=by
 have:=oN (σ:=Unit) l (by omega) (fun k _=>(k:Int)) (body:=fun ss=>ic s l ss)
  (fun k e _=>if e.src<0∨e.dst<0 then some (.inr ([],9)) else some (.inl ())) (fun _=>if s≠1 then some ([],4) else some (l,0)) ()
  (fun k e _ hk hlt _ h2 h3=>by
   unfold ic;rw [h2,bd hlt,h3];simp only [if_true,Option.bind_some,hk];by_cases h:e.src<0∨e.dst<0
   ·rw [if_pos (by simp;omega),if_pos h];rfl
   ·rw [if_neg (by simp;omega),if_neg h])
  (fun _ h=>by
   unfold ic;rw [h];by_cases hs:s=1<;>simp [hs])
 refine Eq.trans this ?_;have key:∀ (ys:List Ends) (k:Nat),dS (σ:=Unit) (ρ:=List Ends × Int) (fun k e _=>if e.src<0∨e.dst<0 then some (.inr ([],9)) else some (.inl ())) (fun _=>if s≠1 then some ([],4) else some (l,0)) k ys ()=some (if ys.any (fun e=>decide (e.src<0∨e.dst<0)) then ([],9) else if s≠1 then ([],4) else (l,0)):=by
  intro ys;induction ys with
  | nil=>intro k;simp only [dS,List.any_nil];by_cases hs:s=1<;>simp [hs]
  | cons y ys ih =>
   intro k;unfold dS;by_cases h:y.src<0∨y.dst<0
   ·rw [if_pos h];simp [h]
   ·rw [if_neg h];simp only;rw [ih];simp [h]
 exact key l 0
theorem uK (n:Net) (hn:n.Nodes.length<=12) (hR0:0<=n.Rings) (hR:n.Rings<=16) (hio:∀ x∈n.Nodes,x.In.length<=1099511627776/\x.Out.length<=1099511627776) :
  ∀ (m k s:Nat) (l:List Ends),k+m=n.Nodes.length->s<=k->(l.length:Int)=n.Rings ->
  iter (fun ss:Int × Int × List Ends=>gH n ss.1 ss.2.1 ss.2.2) ((s:Int),(k:Int),l)=some (match dm n.Rings k (n.Nodes.drop k) s l with
   | .inl e=>([],e)
   | .inr (s,l)=>if l.any (fun e=>decide (e.src<0∨e.dst<0)) then ([],9) else if s≠1 then ([],4) else (l,0))
 | 0,k,s,l,h,hs,hl=>by
  have hk:k=n.Nodes.length:=by omega
  subst hk;have h5:gH n s (n.Nodes.length:Int) l=some (.inr (if l.any (fun e=>decide (e.src<0∨e.dst<0)) then ([],9) else if (s:Int)≠1 then ([],4) else (l,0))):=by
   unfold gH;rw [if_neg (by simp),B0 _ _ (by omega)];rfl
  have:((s:Int)≠1) ↔ (s≠1):=by omega
  rw [an,List.drop_length];simp only [h5,dm,this]
 | m + 1,k,s,l,h,hs,hl=>by
  have hlt:k<n.Nodes.length:=by omega
  have hmem:n.Nodes[k]∈n.Nodes:=List.getElem_mem hlt;rw [an,List.drop_eq_getElem_cons hlt];simp only [dm];have step:gH n s k l=match oneN n.Rings k n.Nodes[k] l with
    | .inl e=>some (.inr ([],e))
    | .inr l1=>some (.inl (((if n.Nodes[k].Kind=8 then s+1 else s:Nat):Int),((k+1:Nat):Int),l1)):=by
   unfold gH
   rw [if_pos (by simp;omega),aN (List.getElem?_eq_getElem hlt),Option.bind_some,Ao,Option.bind_some]
   generalize n.Nodes[k]=x at hmem
   unfold oneN cZ
   cases ha:cW x.Kind with
   | none=>simp
   | some io =>
    obtain ⟨i0,o0⟩:=io
    simp only [Bool.not_true,Bool.false_eq_true,if_false,Cr,Option.bind_some]
    have hfit:(if (!bH x.In.length i0)=true then some true else some (!bH x.Out.length o0))=some (!(bH x.In.length i0 && bH x.Out.length o0)):=by
     cases bH x.In.length i0<;>simp
    rw [hfit,Option.bind_some]
    by_cases hf:(bH x.In.length i0 && bH x.Out.length o0)=false
    ·rw [if_pos (by simp [hf])]
     simp [hf]
    ·have hf':(bH x.In.length i0 && bH x.Out.length o0)=true:=by simpa using hf
     rw [if_neg (by simp [hf']),CR]
     simp only [hf',Bool.true_eq_false,if_false]
     by_cases hb:badA x=true
     ·simp [hb]
     ·simp only [hb,if_false,Bool.false_eq_true,ne_eq,not_true_eq_false]
      obtain ⟨h1,h2⟩:=hio x hmem
      have k3:∀ s':Int,ib n k l x s'=match (match dn n.Rings k x.In l with | .inl e=>Sum.inl e | .inr l1=>cx n.Rings k x.Out l1) with
        | .inl e=>some (.inr ([],e))
        | .inr l1=>some (.inl (s',((k+1:Nat):Int),l1)):=fun s'=>by
       unfold ib
       have:=vA n s' k x h2 h1 (by omega) hR x.In.length 0 l (by omega) hl
       simpa using this
      by_cases h8:x.Kind=8
      ·rw [if_pos (by simp [h8]),k3,aJ (by omega)]
       simp only [h8,if_true]
      ·rw [if_neg (by simp [h8]),k3]
       simp only [h8,if_false]
  simp only [step];cases ho:oneN n.Rings k n.Nodes[k] l with
  | inl e=>rfl
  | inr l1 =>
   simp only;exact uK n hn hR0 hR hio m (k+1) _ l1 (by omega) (by split<;>omega) (by rw [uj ho];exact hl)
theorem yi (n:Net) (hio:∀ x∈n.Nodes,x.In.length<=1099511627776/\x.Out.length<=1099511627776):lv n=some (match dU n with | .inl e=>([],e) | .inr l=>(l,0)):=by
 unfold lv dU;by_cases h1:n.Nodes.length<1∨12<n.Nodes.length∨n.Rings<0∨16<n.Rings
 ·rw [if_pos (by simp;omega),if_pos h1]
 rw [if_neg (by simp;omega),if_neg h1];by_cases h2:n.Room<1∨6<n.Room
 ·rw [if_pos (by simp;omega),if_pos h2]
 rw [if_neg (by simp;omega),if_neg h2];have hRn:n.Rings=((n.Rings.toNat:Nat):Int):=by omega
 rw [hRn,zj _ (by omega),Option.bind_some,<- hRn];have:=uK n (by omega) (by omega) (by omega) hio n.Nodes.length 0 0 (List.replicate n.Rings.toNat c8) (by omega) (by omega) (by simp;omega);simp only [Int.natCast_zero,List.drop_zero] at this;rw [this];cases dm n.Rings 0 n.Nodes 0 (List.replicate n.Rings.toNat c8) with
 | inl e=>rfl
 | inr q =>
  obtain ⟨s,l⟩:=q;simp only;split
  ·rfl
  ·split<;>rfl
theorem ru (R i:Int) (hi:0<=i):∀ (rs:List Int) (l l1:List Ends),(l.length:Int)=R->dn R i rs l=.inr l1 ->
  (∀ r∈rs,0<=r/\r<R/\∀ e,l[r.toNat]?=some e->e.dst<0)/\rs.Nodup/\∀ j:Nat,l1[j]?=if (j:Int)∈rs then (l[j]?).map (fun e=>⟨e.src,i⟩) else l[j]?
 | [],l,l1,hl,h=>by cases h;exact ⟨fun r hr=>by simp at hr,List.nodup_nil,fun j=>by simp⟩
 | r :: rs,l,l1,hl,h=>by
  unfold dn at h;split at h
  ·cases h
  ·rename_i hr;split at h
   ·cases h
   ·rename_i e he;split at h
    ·cases h
    ·rename_i hd;have hlt:r.toNat<l.length:=(List.getElem?_eq_some_iff.1 he).1;obtain ⟨h1,h2,h3⟩:=ru R i hi rs _ l1 (by simpa using hl) h;have hnot:r ∉ rs:=fun hm=>by
      have:=(h1 r hm).2.2 ⟨e.src,i⟩ (by rw [List.getElem?_set,if_pos rfl,if_pos hlt]);simp at this;omega
     refine ⟨fun q hq=>?_,List.nodup_cons.2 ⟨hnot,h2⟩,fun j=>?_⟩
     ·rcases List.mem_cons.1 hq with rfl | hq
      ·exact ⟨by omega,by omega,fun e' he'=>by rw [he] at he';cases he';omega⟩
      ·obtain ⟨a,b,c⟩:=h1 q hq;refine ⟨a,b,fun e' he'=>?_⟩;have hne:q≠r:=fun e=>hnot (e▸hq)
       exact c e' (by rw [List.getElem?_set,if_neg (by omega)];exact he')
     ·rw [h3 j,List.getElem?_set];by_cases hj:(j:Int)=r
      ·have hjr:r.toNat=j:=by omega
       rw [if_neg (by rw [hj];exact hnot),if_pos hjr,if_pos hlt,if_pos (by rw [hj];exact List.mem_cons_self),<- hjr,he];rfl
      ·have hjr:¬ r.toNat=j:=by omega
       rw [if_neg hjr];by_cases hm:(j:Int)∈rs
       ·rw [if_pos hm,if_pos (List.mem_cons_of_mem _ hm)]
       ·rw [if_neg hm,if_neg (by simp [hj,hm])]
theorem q6 (R i:Int) (hi:0<=i):∀ (rs:List Int) (l l1:List Ends),(l.length:Int)=R->cx R i rs l=.inr l1 ->
  (∀ r∈rs,0<=r/\r<R/\∀ e,l[r.toNat]?=some e->e.src<0)/\rs.Nodup/\∀ j:Nat,l1[j]?=if (j:Int)∈rs then (l[j]?).map (fun e=>⟨i,e.dst⟩) else l[j]?
 | [],l,l1,hl,h=>by cases h;exact ⟨fun r hr=>by simp at hr,List.nodup_nil,fun j=>by simp⟩
 | r :: rs,l,l1,hl,h=>by
  unfold cx at h;split at h
  ·cases h
  ·rename_i hr;split at h
   ·cases h
   ·rename_i e he;split at h
    ·cases h
    ·rename_i hd;have hlt:r.toNat<l.length:=(List.getElem?_eq_some_iff.1 he).1;obtain ⟨h1,h2,h3⟩:=q6 R i hi rs _ l1 (by simpa using hl) h;have hnot:r ∉ rs:=fun hm=>by
      have:=(h1 r hm).2.2 ⟨i,e.dst⟩ (by rw [List.getElem?_set,if_pos rfl,if_pos hlt]);simp at this;omega
     refine ⟨fun q hq=>?_,List.nodup_cons.2 ⟨hnot,h2⟩,fun j=>?_⟩
     ·rcases List.mem_cons.1 hq with rfl | hq
      ·exact ⟨by omega,by omega,fun e' he'=>by rw [he] at he';cases he';omega⟩
      ·obtain ⟨a,b,c⟩:=h1 q hq;refine ⟨a,b,fun e' he'=>?_⟩;have hne:q≠r:=fun e=>hnot (e▸hq)
       exact c e' (by rw [List.getElem?_set,if_neg (by omega)];exact he')
     ·rw [h3 j,List.getElem?_set];by_cases hj:(j:Int)=r
      ·have hjr:r.toNat=j:=by omega
       rw [if_neg (by rw [hj];exact hnot),if_pos hjr,if_pos hlt,if_pos (by rw [hj];exact List.mem_cons_self),<- hjr,he];rfl
      ·have hjr:¬ r.toNat=j:=by omega
       rw [if_neg hjr];by_cases hm:(j:Int)∈rs
       ·rw [if_pos hm,if_pos (List.mem_cons_of_mem _ hm)]
       ·rw [if_neg hm,if_neg (by simp [hj,hm])]
structure Looked (ns:List Node) (R:Int) (k:Nat) (l:List Ends):Prop where
 len:(l.length:Int)=R
 src:∀ (j:Nat) e,l[j]?=some e->(e.src<0∨∃ (i:Nat) (x:Node),i<k/\ns[i]?=some x/\e.src=i/\(j:Int)∈x.Out)
 dst:∀ (j:Nat) e,l[j]?=some e->(e.dst<0∨∃ (i:Nat) (x:Node),i<k/\ns[i]?=some x/\e.dst=i/\(j:Int)∈x.In)
 node:∀ (i:Nat) x,i<k->ns[i]?=some x->cZ x=0/\x.In.Nodup/\x.Out.Nodup /\
  (∀ r∈x.In,0<=r/\r<R/\∃ e,l[r.toNat]?=some e/\e.dst=i)/\(∀ r∈x.Out,0<=r/\r<R/\∃ e,l[r.toNat]?=some e/\e.src=i)
theorem Looked.one {ns:List Node} {R:Int} {k:Nat} {l l1:List Ends} {x:Node} (h:Looked ns R k l) (hx:ns[k]?=some x) (ho:oneN R k x l=.inr l1):Looked ns R (k+1) l1:=by
 unfold oneN at ho;split at ho
 ·cases ho
 ·rename_i hne;split at ho
  ·cases ho
  ·rename_i l2 h2;have hl2:(l2.length:Int)=R:=by rw [mW R k _ _ _ h2];exact h.len
   obtain ⟨a1,a2,a3⟩:=ru R k (by omega) _ _ _ h.len h2;obtain ⟨b1,b2,b3⟩:=q6 R k (by omega) _ _ _ hl2 ho;have hent:∀ (j:Nat) e1,l1[j]?=some e1->∃ e,l[j]?=some e/\e1.src=(if (j:Int)∈x.Out then (k:Int) else e.src)/\e1.dst=(if (j:Int)∈x.In then (k:Int) else e.dst):=fun j e1 he1=>by
    rw [b3 j,a3 j] at he1;cases hj:l[j]? with
    | none=>rw [hj] at he1;split at he1<;>split at he1<;>cases he1
    | some e =>
     rw [hj] at he1;refine ⟨e,rfl,?_⟩;split at he1<;>split at he1<;>cases he1<;>simp_all
   have hent2:∀ (j:Nat) e,l[j]?=some e->∃ e1,l1[j]?=some e1/\e1.src=(if (j:Int)∈x.Out then (k:Int) else e.src)/\e1.dst=(if (j:Int)∈x.In then (k:Int) else e.dst):=fun j e he=>by
    have hlt:j<l1.length:=by
     have:=mT R k _ _ _ ho;have:=mW R k _ _ _ h2;have:=(List.getElem?_eq_some_iff.1 he).1;omega
    obtain ⟨e',h1,h3⟩:=hent j _ (List.getElem?_eq_getElem hlt);rw [he] at h1;cases h1;exact ⟨_,List.getElem?_eq_getElem hlt,h3⟩
   refine ⟨by rw [mT R k _ _ _ ho];exact hl2,fun j e1 he1=>?_,fun j e1 he1=>?_,fun i y hi hy=>?_⟩
   ·obtain ⟨e,he,hs,_⟩:=hent j e1 he1;by_cases hm:(j:Int)∈x.Out
    ·rw [if_pos hm] at hs;exact .inr ⟨k,x,by omega,hx,hs,hm⟩
    ·rw [if_neg hm] at hs;rw [hs];rcases h.src j e he with h1 | ⟨i,y,h1,h2,h3,h4⟩
     ·exact .inl h1
     ·exact .inr ⟨i,y,by omega,h2,h3,h4⟩
   ·obtain ⟨e,he,_,hs⟩:=hent j e1 he1;by_cases hm:(j:Int)∈x.In
    ·rw [if_pos hm] at hs;exact .inr ⟨k,x,by omega,hx,hs,hm⟩
    ·rw [if_neg hm] at hs;rw [hs];rcases h.dst j e he with h1 | ⟨i,y,h1,h2,h3,h4⟩
     ·exact .inl h1
     ·exact .inr ⟨i,y,by omega,h2,h3,h4⟩
   ·rcases Nat.lt_or_ge i k with hik | hik
    ·obtain ⟨c1,c2,c3,c4,c5⟩:=h.node i y hik hy;refine ⟨c1,c2,c3,fun r hr=>?_,fun r hr=>?_⟩
     ·obtain ⟨d1,d2,e,d3,d4⟩:=c4 r hr;refine ⟨d1,d2,?_⟩;obtain ⟨e1,f1,_,f2⟩:=hent2 _ e d3;have hnm:(r.toNat:Int) ∉ x.In:=fun hm=>by
       have:=(a1 _ hm).2.2 e (by rw [Int.toNat_natCast];exact d3);omega
      rw [if_neg hnm] at f2;exact ⟨e1,f1,f2.trans d4⟩
     ·obtain ⟨d1,d2,e,d3,d4⟩:=c5 r hr;refine ⟨d1,d2,?_⟩;obtain ⟨e1,f1,f2,_⟩:=hent2 _ e d3;have hnm:(r.toNat:Int) ∉ x.Out:=fun hm=>by
       have hl2e:∃ e2,l2[r.toNat]?=some e2/\e2.src=e.src:=by
        rw [a3];split<;>simp [d3]
       obtain ⟨e2,g1,g2⟩:=hl2e;have:=(b1 _ hm).2.2 e2 (by rw [Int.toNat_natCast];exact g1);omega
      rw [if_neg hnm] at f2;exact ⟨e1,f1,f2.trans d4⟩
    ·have hik:i=k:=by omega
     subst hik;rw [hx] at hy;cases hy;refine ⟨by simpa using hne,a2,b2,fun r hr=>?_,fun r hr=>?_⟩
     ·obtain ⟨d1,d2,_⟩:=a1 r hr;refine ⟨d1,d2,?_⟩;have hlt:r.toNat<l.length:=by have:=h.len;omega
      obtain ⟨e1,f1,_,f2⟩:=hent2 _ _ (List.getElem?_eq_getElem hlt);rw [if_pos (by rw [Int.toNat_of_nonneg d1];exact hr)] at f2;exact ⟨e1,f1,f2⟩
     ·obtain ⟨d1,d2,_⟩:=b1 r hr;refine ⟨d1,d2,?_⟩;have hlt:r.toNat<l.length:=by have:=h.len;omega
      obtain ⟨e1,f1,f2,_⟩:=hent2 _ _ (List.getElem?_eq_getElem hlt);rw [if_pos (by rw [Int.toNat_of_nonneg d1];exact hr)] at f2;exact ⟨e1,f1,f2⟩
theorem Looked.start (ns:List Node) (R:Nat):Looked ns R 0 (List.replicate R c8) :=
 ⟨by simp,fun j e he=>by rw [List.getElem?_replicate] at he;split at he<;>cases he;exact .inl (by decide),fun j e he=>by rw [List.getElem?_replicate] at he;split at he<;>cases he;exact .inl (by decide),fun i x hi=>by omega⟩
theorem sk (ns:List Node) (R:Int):∀ (xs:List Node) (k s:Nat) (l:List Ends) (s1:Nat) (l1:List Ends),ns.drop k=xs->Looked ns R k l->dm R k xs s l=.inr (s1,l1) ->
  Looked ns R ns.length l1/\s1=s+(xs.filter (fun x=>decide (x.Kind=8))).length
 | [],k,s,l,s1,l1,hd,h,hn=>by
  cases hn;have hk:ns.length<=k:=List.drop_eq_nil_iff.1 hd;refine ⟨⟨h.len,fun j e he=>?_,fun j e he=>?_,fun i x hi hx=>h.node i x (by omega) hx⟩,by simp⟩
  ·rcases h.src j e he with h1 | ⟨i,y,h1,h2,h3⟩
   ·exact .inl h1
   ·exact .inr ⟨i,y,(List.getElem?_eq_some_iff.1 h2).1,h2,h3⟩
  ·rcases h.dst j e he with h1 | ⟨i,y,h1,h2,h3⟩
   ·exact .inl h1
   ·exact .inr ⟨i,y,(List.getElem?_eq_some_iff.1 h2).1,h2,h3⟩
 | x::xs,k,s,l,s1,l1,hd,h,hn=>by
  have hx:ns[k]?=some x:=by
   have:=congrArg (fun l=>l[0]?) hd;simpa [List.getElem?_drop] using this
  have hd2:ns.drop (k+1)=xs:=by
   have:=congrArg (List.drop 1) hd;simpa [List.drop_drop,Nat.add_comm] using this
  unfold dm at hn;split at hn
  ·cases hn
  ·rename_i l2 h2;obtain ⟨a,b⟩:=sk ns R xs (k+1) _ l2 s1 l1 hd2 (h.one hx h2) hn;refine ⟨a,?_⟩;rw [b];by_cases h8:x.Kind=8
   ·simp [h8];omega
   ·simp [h8]
structure NetL (n:Net) (l:List Ends):Prop where
 n1:1<=n.Nodes.length
 n2:n.Nodes.length<=12
 r1:0<=n.Rings
 r2:n.Rings<=16
 m1:1<=n.Room
 m2:n.Room<=6
 len:(l.length:Int)=n.Rings
 src:∀ (j:Nat) e,l[j]?=some e->∃ (i:Nat) (x:Node),n.Nodes[i]?=some x/\e.src=i/\(j:Int)∈x.Out
 dst:∀ (j:Nat) e,l[j]?=some e->∃ (i:Nat) (x:Node),n.Nodes[i]?=some x/\e.dst=i/\(j:Int)∈x.In
 err:∀ (i:Nat) x,n.Nodes[i]?=some x->cZ x=0
 ndI:∀ (i:Nat) x,n.Nodes[i]?=some x->x.In.Nodup
 ndO:∀ (i:Nat) x,n.Nodes[i]?=some x->x.Out.Nodup
 inn:∀ (i:Nat) x,n.Nodes[i]?=some x->∀ r∈x.In,0<=r/\r<n.Rings/\∃ e,l[r.toNat]?=some e/\e.dst=i
 out:∀ (i:Nat) x,n.Nodes[i]?=some x->∀ r∈x.Out,0<=r/\r<n.Rings/\∃ e,l[r.toNat]?=some e/\e.src=i
 sink:(n.Nodes.filter (fun x=>decide (x.Kind=8))).length=1
theorem pd {n:Net} {l:List Ends} (h:dU n=.inr l):NetL n l:=by
 unfold dU at h;split at h
 ·cases h
 ·rename_i h1;split at h
  ·cases h
  ·rename_i h2;split at h
   ·cases h
   ·rename_i s l' hn;split at h
    ·cases h
    ·rename_i hany;split at h
     ·cases h
     ·rename_i hs;cases h;have hst:=Looked.start n.Nodes n.Rings.toNat;rw [Int.toNat_of_nonneg (by omega)] at hst;obtain ⟨a,b⟩:=sk n.Nodes n.Rings n.Nodes 0 0 _ s l (by simp) hst hn;have hpos:∀ (j:Nat) e,l[j]?=some e->¬ e.src<0/\¬ e.dst<0:=fun j e he=>by
       have hm:=List.mem_of_getElem? he;simp only [List.any_eq_true,not_exists,not_and] at hany;have:=hany e hm;simp at this;omega
      refine ⟨by omega,by omega,by omega,by omega,by omega,by omega,a.len,fun j e he=>?_,fun j e he=>?_,fun i x hx=>(a.node i x (List.getElem?_eq_some_iff.1 hx).1 hx).1,fun i x hx=>(a.node i x (List.getElem?_eq_some_iff.1 hx).1 hx).2.1,fun i x hx=>(a.node i x (List.getElem?_eq_some_iff.1 hx).1 hx).2.2.1,fun i x hx=>(a.node i x (List.getElem?_eq_some_iff.1 hx).1 hx).2.2.2.1,fun i x hx=>(a.node i x (List.getElem?_eq_some_iff.1 hx).1 hx).2.2.2.2,by omega⟩
      ·rcases a.src j e he with h3 | ⟨i,y,_,h4⟩
       ·exact absurd h3 (hpos j e he).1
       ·exact ⟨i,y,h4⟩
      ·rcases a.dst j e he with h3 | ⟨i,y,_,h4⟩
       ·exact absurd h3 (hpos j e he).2
       ·exact ⟨i,y,h4⟩
section
def cN (ok:Nat->Bool):Nat->Nat->Option Nat
 | 0,_=>none
 | m+1,k=>if ok k then some k else cN ok m (k+1)
theorem qM {ok:Nat->Bool}:∀ {m k i:Nat},cN ok m k=some i->k<=i/\i<k+m/\ok i=true
 | 0,k,i,h=>by cases h
 | m+1,k,i,h=>by
  unfold cN at h;split at h
  ·rename_i hk;cases h;exact ⟨by omega,by omega,hk⟩
  ·obtain ⟨a,b,c⟩:=qM h;exact ⟨by omega,by omega,c⟩
theorem qS {ok:Nat->Bool}:∀ (m k:Nat),cN ok (m+1) k=match cN ok m k with | some i=>some i | none=>if ok (k+m) then some (k+m) else none
 | 0,k=>by simp [cN]
 | m+1,k=>by
  rw [cN,qS m (k+1)];by_cases h:ok k=true
  ·simp [cN,h]
  ·rw [if_neg h,cN,if_neg h];rw [show k+1+m=k+(m+1) by omega]
def lastD (ok:Nat->Bool):Nat->Int->Int
 | 0,b=>b
 | k+1,b=>lastD ok k (if ok k then (k:Int) else b)
theorem tk {ok:Nat->Bool}:∀ (k:Nat) (b:Int),lastD ok k b=match cN ok k 0 with | some i=>(i:Int) | none=>b
 | 0,b=>rfl
 | k+1,b=>by
  rw [lastD,tk k,qS];cases cN ok k 0 with
  | some i=>rfl
  | none=>simp only [Nat.zero_add];split<;>rfl
def fedN (l:List Ends) (out:List Nat) (x:Node):Bool:=x.In.all fun r=>match l[r.toNat]? with | some e=>out.contains e.src.toNat | none=>false
def okN (l:List Ends) (out:List Nat) (ns:List Node) (i:Nat):Bool:=!(out.contains i) && (match ns[i]? with | some x=>fedN l out x | none=>false)
def ordN (l:List Ends) (ns:List Node):Nat->List Nat->Option (List Nat)
 | 0,out=>some out
 | m+1,out=>match cN (okN l out ns) ns.length 0 with
  | none=>none
  | some i=>ordN l ns m (out++[i])
def bV (n:Net):List Int × Int:=match dU n with
 | .inl e=>([],e)
 | .inr l=>match ordN l n.Nodes n.Nodes.length [] with
  | none=>([],7)
  | some out=>(out.map (fun i:Nat=>(i:Int)),0)
def bM (N:Nat) (out:List Nat):List Bool:=(List.range N).map fun i=>out.contains i
theorem ip {N:Nat} {out:List Nat} {i:Nat} (h:i<N):(bM N out)[i]?=some (out.contains i):=by
 unfold bM;rw [List.getElem?_map,List.getElem?_range h];rfl
theorem iu {N:Nat} {out:List Nat}:(bM N out).length=N:=by simp [bM]
theorem zS {N:Nat} {out:List Nat} {i:Nat} (h:i<N):(bM N out).set i true=bM N (out++[i]):=by
 apply List.ext_getElem?;intro j;rw [List.getElem?_set,iu];by_cases hj:j<N
 ·rw [ip hj];by_cases hij:i=j
  ·subst hij;rw [if_pos rfl,if_pos h,ip h];simp
  ·rw [if_neg hij,ip hj];have:¬ j=i:=fun e=>hij e.symm
   simp [this]
 ·rw [List.getElem?_eq_none (by rw [iu];omega),List.getElem?_eq_none (by rw [iu];omega),if_neg (by omega)]
theorem Ab (N:Nat):List.replicate N false=bM N []:=by
 apply List.ext_getElem?;intro j;rw [List.getElem?_replicate];by_cases hj:j<N
 ·rw [if_pos hj,ip hj];rfl
 ·rw [if_neg hj,List.getElem?_eq_none (by rw [iu];omega)]
theorem AX {n:Net} (out:List Nat) (ho:out.length<=12) (z:Option Nat) (hz:∀ i,z=some i->i<n.Nodes.length):hZ (out.map (fun i:Nat=>(i:Int))) (bM n.Nodes.length out) (match z with | some i=>(i:Int) | none => -1)=match z with
  | some i=>some (.inl ((out++[i]).map (fun i:Nat=>(i:Int)),bM n.Nodes.length (out++[i])))
  | none=>some (.inr ([],7)):=by
 unfold hZ
 cases z with
 | none=>rfl
 | some i =>
  have hi:=hz i rfl
  simp only
  rw [if_neg (by rw [decide_eq_true_iff];omega)]
  have e1:ixN (bM n.Nodes.length out) (i:Int)=some i:=by unfold ixN;rw [if_pos (by rw [iu];omega)];rfl
  simp only [e1,Option.bind_some,ip hi]
  rw [bB (by simp;omega),Option.bind_some,zS hi]
  simp
section
variable {n:Net} {l:List Ends} (hn:NetL n l)
include hn
theorem wm {j:Nat} {e:Ends} (h:l[j]?=some e):0<=e.src/\e.src.toNat<n.Nodes.length:=by
 obtain ⟨i,x,h1,h2,_⟩:=hn.src j e h;have:=(List.getElem?_eq_some_iff.1 h1).1;omega
theorem zk {i:Nat} {x:Node} (hx:n.Nodes[i]?=some x) (out:List Nat) {r:Int} (hr:r∈x.In) :
  kE r (bM n.Nodes.length out) l=some (!(match l[r.toNat]? with | some e=>out.contains e.src.toNat | none=>false)):=by
 obtain ⟨h1,h2,e,h3,_⟩:=hn.inn i x hx r hr
 have hlt:=(List.getElem?_eq_some_iff.1 h3).1
 obtain ⟨h4,h5⟩:=wm hn h3
 have e1:ixN l r=some r.toNat:=by unfold ixN;rw [if_pos (by omega)]
 have e2:ixN (bM n.Nodes.length out) e.src=some e.src.toNat:=by unfold ixN;rw [if_pos (by rw [iu];omega)]
 unfold kE
 simp only [e1,Option.bind_some,h3,e2,ip h5]
theorem yH {i:Nat} {x:Node} (hx:n.Nodes[i]?=some x) (out:List Nat) (hl:x.In.length<=1099511627776):iX x.In (bM n.Nodes.length out) l=some (!fedN l out x):=by
 unfold iX l8;have:=oN (σ:=Unit) x.In hl (fun k _=>(k:Int)) (body:=fun ss=>iW x.In (bM n.Nodes.length out) l ss)
  (fun k r _=>if (match l[r.toNat]? with | some e=>out.contains e.src.toNat | none=>false)=false then some (.inr (k:Int)) else some (.inl ())) (fun _=>some (-1)) ()
  (fun k r _ hk hlt h1 h2 h3=>by
   unfold iW;rw [h2,h1,h3];simp only [if_true,Option.bind_some];rw [zk hn hx out (List.mem_of_getElem? hk),Option.bind_some];generalize (match l[r.toNat]? with | some e=>out.contains e.src.toNat | none=>false)=b;cases b<;>rfl)
  (fun _ h=>by unfold iW;rw [h];rfl)
 simp only [Int.natCast_zero] at this;rw [this];have key:∀ (ys:List Int) (k:Nat),∃ v:Int,dS (σ:=Unit) (fun k r _=>if (match l[r.toNat]? with | some e=>out.contains e.src.toNat | none=>false)=false then some (.inr (k:Int)) else some (.inl ())) (fun _=>some (-1:Int)) k ys ()=some v /\
   decide (v >= 0)=!(ys.all fun r=>match l[r.toNat]? with | some e=>out.contains e.src.toNat | none=>false):=by
  intro ys
  induction ys with
  | nil=>intro k;exact ⟨-1,rfl,by simp⟩
  | cons y ys ih =>
   intro k
   unfold dS
   by_cases h:(match l[y.toNat]? with | some e=>out.contains e.src.toNat | none=>false)=false
   ·rw [if_pos h]
    exact ⟨k,rfl,by rw [List.all_cons,h];simp⟩
   ·rw [if_neg h]
    simp only
    obtain ⟨v,h1,h2⟩:=ih (k+1)
    refine ⟨v,h1,?_⟩
    rw [h2,List.all_cons]
    have h':(match l[y.toNat]? with | some e=>out.contains e.src.toNat | none=>false)=true:=by simpa using h
    rw [h'];simp
 obtain ⟨v,h1,h2⟩:=key x.In 0;rw [h1,Option.bind_some,h2];rfl
theorem sX (hio:∀ x∈n.Nodes,x.In.length<=1099511627776) (q:Int) (out:List Nat) (ho:out.length<=12):∀ (m k:Nat),k+m=n.Nodes.length ->
  iter (fun ss:Int=>gu n (l,q) (out.map (fun i:Nat=>(i:Int))) (bM n.Nodes.length out) ss) (k:Int)=match cN (okN l out n.Nodes) m k with
   | some i=>some (.inl ((out++[i]).map (fun i:Nat=>(i:Int)),bM n.Nodes.length (out++[i])))
   | none=>some (.inr ([],7))
 | 0,k,h=>by
  have hk:k=n.Nodes.length:=by omega
  subst hk;have:gu n (l,q) (out.map (fun i:Nat=>(i:Int))) (bM n.Nodes.length out) (n.Nodes.length:Int)=some (.inr (.inr ([],7))):=by
   unfold gu;rw [if_neg (by simp)];rfl
  rw [an,this];rfl
 | m+1,k,h=>by
  have hlt:k<n.Nodes.length:=by omega
  have hn2:=hn.n2;have hx:n.Nodes[k]?=some n.Nodes[k]:=List.getElem?_eq_getElem hlt;have e1:ixN (bM n.Nodes.length out) (k:Int)=some k:=by unfold ixN;rw [if_pos (by rw [iu];omega)];rfl
  have hstep:gu n (l,q) (out.map (fun i:Nat=>(i:Int))) (bM n.Nodes.length out) (k:Int)=if okN l out n.Nodes k then some (.inr (.inl ((out++[k]).map (fun i:Nat=>(i:Int)),bM n.Nodes.length (out++[k])))) else some (.inl ((k+1:Nat):Int)):=by
   unfold gu;rw [if_pos (by simp;omega),aN hx,Option.bind_some];simp only [e1,Option.bind_some,ip hlt];have hok:okN l out n.Nodes k=(!(out.contains k) && fedN l out n.Nodes[k]):=by unfold okN;rw [hx]
   have hin:(if (!(out.contains k))=true then (iX n.Nodes[k].In (bM n.Nodes.length out) l).bind fun x12=>some (!x12) else some false)=some (okN l out n.Nodes k):=by
    rw [yH hn hx out (hio _ (List.getElem_mem hlt)),hok];cases out.contains k<;>simp
   rw [hin,Option.bind_some,aJ (by omega)];by_cases hb:okN l out n.Nodes k=true
   ·rw [if_pos hb,if_pos hb];have:=AX (n:=n) out ho (some k) (fun i e=>by cases e;exact hlt);simp only at this;rw [this];rfl
   ·rw [if_neg hb,if_neg hb]
  rw [an,hstep,cN];by_cases hb:okN l out n.Nodes k=true
  ·simp only [if_pos hb]
  ·simp only [if_neg hb];exact sX hio q out ho m (k+1) (by omega)
theorem sP (hio:∀ x∈n.Nodes,x.In.length<=1099511627776) (q:Int):∀ (m:Nat) (out:List Nat),out.length+m=n.Nodes.length ->
  iter (fun ss:List Int × List Bool=>gr n (l,q) ss.1 ss.2) (out.map (fun i:Nat=>(i:Int)),bM n.Nodes.length out)=some (match ordN l n.Nodes m out with
   | none=>([],7)
   | some out=>(out.map (fun i:Nat=>(i:Int)),0))
 | 0,out,h=>by
  have:gr n (l,q) (out.map (fun i:Nat=>(i:Int))) (bM n.Nodes.length out)=some (.inr (out.map (fun i:Nat=>(i:Int)),0)):=by
   unfold gr;rw [if_neg (by simp;omega)];rfl
  rw [an];simp only [this,ordN]
 | m+1,out,h=>by
  have hstep:gr n (l,q) (out.map (fun i:Nat=>(i:Int))) (bM n.Nodes.length out)=match cN (okN l out n.Nodes) n.Nodes.length 0 with
   | some i=>some (.inl ((out++[i]).map (fun i:Nat=>(i:Int)),bM n.Nodes.length (out++[i])))
   | none=>some (.inr ([],7)):=by
   unfold gr
   rw [if_pos (by simp;omega)]
   have:=sX hn hio q out (by have:=hn.n2;omega) n.Nodes.length 0 (by omega)
   simpa using this
  rw [an];simp only [hstep,ordN];cases cN (okN l out n.Nodes) n.Nodes.length 0 with
  | none=>rfl
  | some i =>
   simp only;exact sP hio q m (out++[i]) (by simp;omega)
end
theorem tT (R i:Int):∀ (rs:List Int) (l:List Ends),dn R i rs l≠.inl 0
 | [],l,h=>by cases h
 | r::rs,l,h=>by
  unfold dn at h;split at h
  ·exact absurd (Sum.inl.inj h) (by decide)
  ·split at h
   ·exact absurd (Sum.inl.inj h) (by decide)
   ·split at h
    ·exact absurd (Sum.inl.inj h) (by decide)
    ·exact tT R i rs _ h
theorem ul (R i:Int):∀ (rs:List Int) (l:List Ends),cx R i rs l≠.inl 0
 | [],l,h=>by cases h
 | r::rs,l,h=>by
  unfold cx at h;split at h
  ·exact absurd (Sum.inl.inj h) (by decide)
  ·split at h
   ·exact absurd (Sum.inl.inj h) (by decide)
   ·split at h
    ·exact absurd (Sum.inl.inj h) (by decide)
    ·exact ul R i rs _ h
theorem CH (R:Int) (i:Nat) (x:Node) (l:List Ends):oneN R i x l≠.inl 0:=fun h=>by
 unfold oneN at h;split at h
 ·rename_i hne;exact hne (Sum.inl.inj h)
 ·split at h
  ·rename_i h2;cases h;exact tT _ _ _ _ h2
  ·exact ul _ _ _ _ h
theorem so (R:Int):∀ (xs:List Node) (k s:Nat) (l:List Ends),dm R k xs s l≠.inl 0
 | [],k,s,l,h=>by cases h
 | x::xs,k,s,l,h=>by
  unfold dm at h;split at h
  ·rename_i h2;cases h;exact CH _ _ _ _ h2
  ·exact so R xs _ _ _ h
theorem ti (n:Net):dU n≠.inl 0:=fun h=>by
 unfold dU at h;split at h
 ·exact absurd (Sum.inl.inj h) (by decide)
 ·split at h
  ·exact absurd (Sum.inl.inj h) (by decide)
  ·split at h
   ·rename_i h2;cases h;exact so _ _ _ _ _ h2
   ·split at h
    ·exact absurd (Sum.inl.inj h) (by decide)
    ·split at h
     ·exact absurd (Sum.inl.inj h) (by decide)
     ·cases h
theorem xZ (n:Net) (hio:∀ x∈n.Nodes,x.In.length<=1099511627776/\x.Out.length<=1099511627776):lp n=some (bV n):=by
 unfold lp bV;rw [yi n hio,Option.bind_some];cases h:dU n with
 | inl e =>
  simp only;have he:e≠0:=fun e0=>ti n (e0▸h)
  rw [if_pos (by simpa using he)]
 | inr l =>
  simp only;have hn:=pd h;rw [if_neg (by simp)];have hmk:mk (n.Nodes.length:Int) false=some (bM n.Nodes.length []):=by
   unfold mk;rw [if_pos (by have:=hn.n2;omega),<- Ab];rfl
  rw [hmk,Option.bind_some];have:=sP hn (fun x hx=>(hio x hx).1) 0 n.Nodes.length [] (by simp);simp only [List.map_nil] at this;rw [this]
theorem qD (n:Net) (hio:∀ x∈n.Nodes,x.In.length<=1099511627776/\x.Out.length<=1099511627776):jL n=some (bV n).2:=by
 unfold jL;rw [xZ n hio];rfl
end
section
theorem ji {κ ν:Type} [DecidableEq κ] (k:κ) (v:ν):∀ m:List (κ × ν),mget k (mset k v m)=some v
 | []=>by simp [mset,mget]
 | p::r=>by
  unfold mset;split
  ·simp [mget]
  ·rename_i h;simp only [mget,if_neg h];exact ji k v r
theorem mz {κ ν:Type} [DecidableEq κ] {k k':κ} (v:ν) (hk:k≠k'):∀ m:List (κ × ν),mget k (mset k' v m)=mget k m
 | []=>by simp [mset,mget,hk]
 | p::r=>by
  unfold mset;split
  ·rename_i h;simp only [mget,if_neg hk];rw [if_neg (fun e=>hk (e.trans h.symm))]
  ·simp only [mget];rw [mz v hk r]
theorem qB {κ ν:Type} [DecidableEq κ] {k:κ} (v:ν):∀ {m:List (κ × ν)},mget k m=none->(mset k v m).length=m.length+1
 | [],_=>rfl
 | p::r,h=>by
  simp only [mget] at h;split at h
  ·cases h
  ·rename_i hk;simp only [mset,if_neg hk,List.length_cons];rw [qB v h]
structure MRi (v:List Int) (m:List (Int × Int)):Prop where
 len:m.length=v.countP (fun x=>decide (0<=x))
 get:∀ (j:Nat) x,v[j]?=some x->mget (j:Int) m=if x<0 then none else some x
theorem MRi.set {v:List Int} {m:List (Int × Int)} (h:MRi v m) {j:Nat} {x y:Int} (hx:v[j]?=some x) (h0:x<0) (h1:0<=y):MRi (v.set j y) (mset (j:Int) y m):=by
 have hlt:=(List.getElem?_eq_some_iff.1 hx).1;have hv:v[j]=x:=(List.getElem?_eq_some_iff.1 hx).2;have hn:mget (j:Int) m=none:=by rw [h.get j x hx,if_pos h0]
 refine ⟨?_,fun k z hz=>?_⟩
 ·rw [qB y hn,h.len,List.countP_set hlt,hv];have a:¬ 0<=x:=by omega
  simp [a,h1]
 ·rw [List.getElem?_set] at hz;by_cases hjk:j=k
  ·subst hjk;rw [if_pos rfl,if_pos hlt] at hz;cases hz;rw [ji,if_neg (by omega)]
  ·rw [if_neg hjk] at hz;rw [mz y (by omega)];exact h.get k z hz
theorem MRi.start (R:Nat):MRi (List.replicate R (-1)) []:=by
 refine ⟨?_,fun j x hx=>?_⟩
 ·simp [List.countP_replicate]
 ·rw [List.getElem?_replicate] at hx;split at hx<;>cases hx;rfl
theorem yy {l:List Ends} {j:Nat} {e:Ends} (i:Int) (h:l[j]?=some e):(l.set j ⟨i,e.dst⟩).map Ends.src=(l.map Ends.src).set j i/\(l.set j ⟨i,e.dst⟩).map Ends.dst=l.map Ends.dst:=by
 refine ⟨by rw [List.map_set],?_⟩;rw [List.map_set];have hlt:=(List.getElem?_eq_some_iff.1 h).1;have:(l.map Ends.dst)[j]'(by simpa using hlt)=e.dst:=by simp [(List.getElem?_eq_some_iff.1 h).2]
 show (l.map Ends.dst).set j e.dst=_;rw [<- this];exact List.set_getElem_self _
theorem yr {l:List Ends} {j:Nat} {e:Ends} (i:Int) (h:l[j]?=some e):(l.set j ⟨e.src,i⟩).map Ends.dst=(l.map Ends.dst).set j i/\(l.set j ⟨e.src,i⟩).map Ends.src=l.map Ends.src:=by
 refine ⟨by rw [List.map_set],?_⟩;rw [List.map_set];have hlt:=(List.getElem?_eq_some_iff.1 h).1;have:(l.map Ends.src)[j]'(by simpa using hlt)=e.src:=by simp [(List.getElem?_eq_some_iff.1 h).2]
 show (l.map Ends.src).set j e.src=_;rw [<- this];exact List.set_getElem_self _
theorem vO (n:Net) (s i:Nat) (x:Node) (to:List (Int × Int)) (hx:x.Out.length<=1099511627776) (hi:i<=12) (hs:s<=12) (hR:n.Rings<=16) :
  ∀ (m k:Nat) (l:List Ends) (fr:List (Int × Int)),k+m=x.Out.length->(l.length:Int)=n.Rings->MRi (l.map Ends.src) fr ->
  match cx n.Rings i (x.Out.drop k) l with
   | .inl e=>iter (fun ss:Int × List (Int × Int)=>eD n s i x to ss.1 ss.2) ((k:Int),fr)=some (.inr ([],e))
   | .inr l1=>∃ fr1,MRi (l1.map Ends.src) fr1/\l1.map Ends.dst=l.map Ends.dst/\iter (fun ss:Int × List (Int × Int)=>eD n s i x to ss.1 ss.2) ((k:Int),fr)=some (.inl (((if x.Kind=8 then s+1 else s:Nat):Int),((i+1:Nat):Int),fr1,to))
 | 0,k,l,fr,h,hl,hm=>by
  have hk:k=x.Out.length:=by omega
  subst hk;rw [List.drop_length];simp only [cx];refine ⟨fr,hm,trivial,?_⟩;have hstep:eD n s i x to (x.Out.length:Int) fr=some (.inr (.inl (((if x.Kind=8 then s+1 else s:Nat):Int),((i+1:Nat):Int),fr,to))):=by
   unfold eD;rw [if_neg (by simp),aJ (by omega),aJ (by omega)];by_cases h8:x.Kind=8<;>simp [h8]
  rw [an];simp only [hstep]
 | m + 1,k,l,fr,h,hl,hm=>by
  have hlt:k<x.Out.length:=by omega
  rw [List.drop_eq_getElem_cons hlt,an];have hstep:eD n s i x to (k:Int) fr=if x.Out[k]<0∨n.Rings<=x.Out[k] then some (.inr (.inr ([],3))) else if (mget x.Out[k] fr).isSome then some (.inr (.inr ([],6))) else some (.inl (((k+1:Nat):Int),mset x.Out[k] i fr)):=by
   unfold eD;rw [if_pos (by simp;omega),aN (List.getElem?_eq_getElem hlt),Option.bind_some,aJ (by omega)];by_cases hr:x.Out[k]<0∨n.Rings<=x.Out[k]
   ·rw [if_pos (by simp;omega),if_pos hr];rfl
   ·rw [if_neg (by simp;omega),if_neg hr];rfl
  simp only [cx,hstep];by_cases hr:x.Out[k]<0∨n.Rings<=x.Out[k]
  ·simp only [if_pos hr]
  ·simp only [if_neg hr];have hrl:x.Out[k].toNat<l.length:=by omega
   have hge:=List.getElem?_eq_getElem hrl;have hge2:(l.map Ends.src)[x.Out[k].toNat]?=some l[x.Out[k].toNat].src:=by rw [List.getElem?_map,hge];rfl
   have hget:=hm.get _ _ hge2;have hc:((x.Out[k].toNat:Nat):Int)=x.Out[k]:=by omega
   rw [hc] at hget;simp only [hge];by_cases he:0<=l[x.Out[k].toNat].src
   ·rw [if_neg (by omega)] at hget;simp only [if_pos he,hget,Option.isSome_some,if_true]
   ·rw [if_pos (by omega)] at hget;simp only [if_neg he,hget,Option.isSome_none,Bool.false_eq_true,if_false];obtain ⟨q1,q2⟩:=yy (i:Int) hge;have hm2:=hm.set (y:=(i:Int)) hge2 (by omega) (by omega);rw [hc,<- q1] at hm2;have:=vO n s i x to hx hi hs hR m (k+1) (l.set x.Out[k].toNat ⟨i,l[x.Out[k].toNat].dst⟩) (mset x.Out[k] i fr) (by omega) (by simpa using hl) hm2;cases hgv:cx n.Rings i (x.Out.drop (k+1)) (l.set x.Out[k].toNat ⟨i,l[x.Out[k].toNat].dst⟩) with
    | inl e=>rw [hgv] at this;exact this
    | inr l1 =>
     rw [hgv] at this;obtain ⟨fr1,a,b,c⟩:=this;exact ⟨fr1,a,b.trans q2,c⟩
theorem v8 (n:Net) (s i:Nat) (x:Node) (fr:List (Int × Int)) (hx:x.Out.length<=1099511627776) (hx2:x.In.length<=1099511627776) (hi:i<=12) (hs:s<=12) (hR:n.Rings<=16) :
  ∀ (m k:Nat) (l:List Ends) (to:List (Int × Int)),k+m=x.In.length->(l.length:Int)=n.Rings->MRi (l.map Ends.src) fr->MRi (l.map Ends.dst) to ->
  match (match dn n.Rings i (x.In.drop k) l with | .inl e=>Sum.inl e | .inr l1=>cx n.Rings i x.Out l1) with
   | .inl e=>iter (fun ss:Int × List (Int × Int)=>dJ n s i fr x ss.1 ss.2) ((k:Int),to)=some (.inr ([],e))
   | .inr l1=>∃ fr1 to1,MRi (l1.map Ends.src) fr1/\MRi (l1.map Ends.dst) to1/\iter (fun ss:Int × List (Int × Int)=>dJ n s i fr x ss.1 ss.2) ((k:Int),to)=some (.inl (((if x.Kind=8 then s+1 else s:Nat):Int),((i+1:Nat):Int),fr1,to1))
 | 0,k,l,to,h,hl,hm,hm2=>by
  have hk:k=x.In.length:=by omega
  subst hk;rw [List.drop_length];simp only [dn];have h1:=vO n s i x to hx hi hs hR x.Out.length 0 l fr (by omega) hl hm;simp only [List.drop_zero,Int.natCast_zero] at h1;have hstep:dJ n s i fr x (x.In.length:Int) to=Option.map Sum.inr (iter (fun ss:Int × List (Int × Int)=>eD n s i x to ss.1 ss.2) (0,fr)):=by
   unfold dJ;rw [if_neg (by simp)]
  rw [an];simp only [hstep];cases hg:cx n.Rings i x.Out l with
  | inl e=>rw [hg] at h1;simp only at h1 ⊢;rw [h1];rfl
  | inr l1 =>
   rw [hg] at h1;obtain ⟨fr1,a,b,c⟩:=h1;refine ⟨fr1,to,a,by rw [b];exact hm2,?_⟩;rw [c];rfl
 | m+1,k,l,to,h,hl,hm,hm2=>by
  have hlt:k<x.In.length:=by omega
  rw [List.drop_eq_getElem_cons hlt,an];have hstep:dJ n s i fr x (k:Int) to=if x.In[k]<0∨n.Rings<=x.In[k] then some (.inr (.inr ([],3))) else if (mget x.In[k] to).isSome then some (.inr (.inr ([],6))) else some (.inl (((k+1:Nat):Int),mset x.In[k] i to)):=by
   unfold dJ;rw [if_pos (by simp;omega),aN (List.getElem?_eq_getElem hlt),Option.bind_some,aJ (by omega)];by_cases hr:x.In[k]<0∨n.Rings<=x.In[k]
   ·rw [if_pos (by simp;omega),if_pos hr];rfl
   ·rw [if_neg (by simp;omega),if_neg hr];rfl
  simp only [dn,hstep];by_cases hr:x.In[k]<0∨n.Rings<=x.In[k]
  ·simp only [if_pos hr]
  ·simp only [if_neg hr];have hrl:x.In[k].toNat<l.length:=by omega
   have hge:=List.getElem?_eq_getElem hrl;have hge2:(l.map Ends.dst)[x.In[k].toNat]?=some l[x.In[k].toNat].dst:=by rw [List.getElem?_map,hge];rfl
   have hget:=hm2.get _ _ hge2;have hc:((x.In[k].toNat:Nat):Int)=x.In[k]:=by omega
   rw [hc] at hget;simp only [hge];by_cases he:0<=l[x.In[k].toNat].dst
   ·rw [if_neg (by omega)] at hget;simp only [if_pos he,hget,Option.isSome_some,if_true]
   ·rw [if_pos (by omega)] at hget;simp only [if_neg he,hget,Option.isSome_none,Bool.false_eq_true,if_false];obtain ⟨q1,q2⟩:=yr (i:Int) hge;have hm3:=hm2.set (y:=(i:Int)) hge2 (by omega) (by omega);rw [hc,<- q1] at hm3;exact v8 n s i x fr hx hx2 hi hs hR m (k+1) (l.set x.In[k].toNat ⟨l[x.In[k].toNat].src,i⟩) (mset x.In[k] i to) (by omega) (by simpa using hl) (by rw [q2];exact hm) hm3
theorem chk_A (x:Node) (h:cW x.Kind≠none):((decide (x.A<0)) || decide (x.A > ((mget x.Kind (mset 2 3 (mset 1 3 ([]:List (Int × Int))))).getD 0)))=badA x:=by
 have e:mset 2 3 (mset 1 3 ([]:List (Int × Int)))=[(1,3),(2,3)]:=by decide
 rw [e];unfold badA;by_cases h1:x.Kind=1
 ·rw [Bool.eq_iff_iff];simp [h1,mget];omega
 ·by_cases h2:x.Kind=2
  ·rw [Bool.eq_iff_iff];simp [h1,h2,mget]
  ·rw [Bool.eq_iff_iff];simp [h1,h2,mget];omega
theorem Bj (n:Net) (s i:Nat) (x:Node) (hx:n.Nodes[i]?=some x) (hx1:x.Out.length<=1099511627776) (hx2:x.In.length<=1099511627776) (hi:i<n.Nodes.length) (hn:n.Nodes.length<=12) (hs:s<=12) (hR:n.Rings<=16) (l:List Ends) (fr to:List (Int × Int))
  (hl:(l.length:Int)=n.Rings) (hm:MRi (l.map Ends.src) fr) (hm2:MRi (l.map Ends.dst) to) :
  match oneN n.Rings i x l with
   | .inl e=>eC n s i fr to=some (.inr ([],e))
   | .inr l1=>∃ fr1 to1,MRi (l1.map Ends.src) fr1/\MRi (l1.map Ends.dst) to1/\eC n s i fr to=some (.inl (((if x.Kind=8 then s+1 else s:Nat):Int),((i+1:Nat):Int),fr1,to1)):=by
 have h2:=v8 n s i x fr hx1 hx2 (by omega) hs hR x.In.length 0 l to (by omega) hl hm hm2
 simp only [List.drop_zero,Int.natCast_zero] at h2
 have k3:cW x.Kind≠none->dq n s i fr to x=if badA x=true then some (.inr ([],3)) else iter (fun ss:Int × List (Int × Int)=>dJ n s i fr x ss.1 ss.2) (0,to):=fun ha=>by
  unfold dq;rw [chk_A x ha];rfl
 have fit:∀ (a b:Int),cW x.Kind=some (a,b)->∀ (p q:Option Bool),p=some (bH x.In.length a)->q=some (bH x.Out.length b) ->
   (Option.bind p fun x9=>Option.bind (if (!x9)=true then some true else Option.bind q fun x10=>some (!x10)) fun c11=>if c11=true then (Option.map Sum.inr (some ([],4))) else dq n s i fr to x)
    = (if cZ x≠0 then (some (.inr ([],cZ x)):Option ((Int × Int × (List (Int × Int)) × (List (Int × Int))) ⊕ ((List Int) × Int))) else iter (fun ss:Int × List (Int × Int)=>dJ n s i fr x ss.1 ss.2) (0,to)):=fun a b hab p q hp hq=>by
  rw [hp,hq,k3 (by rw [hab];simp)]
  unfold cZ
  rw [hab]
  simp only [Option.bind_some]
  cases bH x.In.length a
  ·simp
  ·cases bH x.Out.length b
   ·simp
   ·cases hb:badA x<;>simp
 have c1:∀ m:Nat,de (m:Int)=some (bH m 1):=fun m=>by
  unfold de bH;congr 1;rw [Bool.eq_iff_iff];simp
 have c2:∀ m:Nat,g6 (m:Int)=some (bH m (-1)):=fun m=>by
  unfold g6 bH;congr 1;rw [Bool.eq_iff_iff];simp;omega
 have c3:∀ m:Nat,jb (m:Int)=some (bH m 0):=fun m=>by
  unfold jb bH;congr 1;rw [Bool.eq_iff_iff];simp
 have hl7:eC n s i fr to=if cZ x≠0 then some (.inr ([],cZ x)) else iter (fun ss:Int × List (Int × Int)=>dJ n s i fr x ss.1 ss.2) (0,to):=by
  unfold eC;rw [if_pos (by simp;omega),aN hx,Option.bind_some];by_cases h1:x.Kind=1
  ·rw [if_pos (by simp [h1])];exact fit 0 1 (by simp [cW,h1]) _ _ (c3 _) (c1 _)
  rw [if_neg (by simp [h1])];by_cases h2:x.Kind=2
  ·rw [if_pos (by simp [h2])];exact fit 1 1 (by simp [cW,h2]) _ _ (c1 _) (c1 _)
  rw [if_neg (by simp [h2])];by_cases h3:x.Kind=3
  ·rw [if_pos (by simp [h3])];exact fit 1 1 (by simp [cW,h3]) _ _ (c1 _) (c1 _)
  rw [if_neg (by simp [h3])];by_cases h4:x.Kind=4
  ·rw [if_pos (by simp [h4])];exact fit 1 1 (by simp [cW,h4]) _ _ (c1 _) (c1 _)
  rw [if_neg (by simp [h4])];by_cases h5:x.Kind=5
  ·rw [if_pos (by simp [h5])];exact fit 1 (-1) (by simp [cW,h5]) _ _ (c1 _) (c2 _)
  rw [if_neg (by simp [h5])];by_cases h7:x.Kind=7
  ·rw [if_pos (by simp [h7])];exact fit 1 (-1) (by simp [cW,h7]) _ _ (c1 _) (c2 _)
  rw [if_neg (by simp [h7])];by_cases h6:x.Kind=6
  ·rw [if_pos (by simp [h6])];exact fit (-1) 1 (by simp [cW,h6]) _ _ (c2 _) (c1 _)
  rw [if_neg (by simp [h6])];by_cases h8:x.Kind=8
  ·rw [if_pos (by simp [h8])];exact fit 1 0 (by simp [cW,h8]) _ _ (c1 _) (c3 _)
  rw [if_neg (by simp [h8])];have:cZ x=5:=by unfold cZ;simp [cW,h1,h2,h3,h4,h5,h6,h7,h8]
  rw [this];rfl
 unfold oneN
 rw [hl7]
 by_cases he:cZ x≠0
 ·simp only [if_pos he]
 ·simp only [if_neg he]
  exact h2
theorem qo (out:List Nat) (ho:out.length<=12) (z:Int) (hz:0<=z):i7 (out.map (fun i:Nat=>(i:Int))) z=some (out.contains z.toNat):=by
 unfold i7 ml;have:=oN (σ:=Unit) (out.map (fun i:Nat=>(i:Int))) (by simp;omega) (fun k _=>(k:Int)) (body:=fun ss=>ja (out.map (fun i:Nat=>(i:Int))) z ss)
  (fun k r _=>if z=r then some (.inr (k:Int)) else some (.inl ())) (fun _=>some (-1)) ()
  (fun k r _ hk hlt h1 h2 h3=>by
   unfold ja;rw [h2,h1,h3];by_cases h:z=r<;>simp [h])
  (fun _ h=>by unfold ja;rw [h];rfl)
 simp only [Int.natCast_zero] at this;rw [this];have key:∀ (ys:List Nat) (k:Nat),∃ v:Int,dS (σ:=Unit) (fun k r _=>if z=r then some (.inr (k:Int)) else some (.inl ())) (fun _=>some (-1:Int)) k (ys.map (fun i:Nat=>(i:Int))) ()=some v/\decide (v >= 0)=ys.contains z.toNat:=by
  intro ys;induction ys with
  | nil=>intro k;exact ⟨-1,rfl,by simp⟩
  | cons y ys ih =>
   intro k;simp only [List.map_cons,dS];by_cases h:z=(y:Int)
   ·rw [if_pos h];refine ⟨k,rfl,?_⟩;have:z.toNat=y:=by omega
    simp [this]
   ·rw [if_neg h];simp only;obtain ⟨v,h1,h2⟩:=ih (k+1);refine ⟨v,h1,?_⟩;rw [h2];have:¬ z.toNat=y:=by omega
    simp [this]
 obtain ⟨v,h1,h2⟩:=key out 0;rw [h1,Option.bind_some,h2]
section
variable {n:Net} {l:List Ends} (hn:NetL n l) {fr:List (Int × Int)} (hm:MRi (l.map Ends.src) fr)
include hn hm
theorem wd (out:List Nat) (ho:out.length<=12) (best k:Int) {x:Node} {i:Nat} (hx:n.Nodes[i]?=some x) (hxl:x.In.length<=1099511627776):∀ (m j:Nat) (b:Bool),j+m=x.In.length ->
  iter (fun ss:Bool × Int=>fY fr (out.map (fun i:Nat=>(i:Int))) best k x ss.1 ss.2) (b,(j:Int))=some (.inl (if (b && (x.In.drop j).all fun r=>match l[r.toNat]? with | some e=>out.contains e.src.toNat | none=>false)=true then k else best,IntKind.i64.wrap (k - 1)))
 | 0,j,b,h=>by
  have hk:j=x.In.length:=by omega
  subst hk;have hstep:fY fr (out.map (fun i:Nat=>(i:Int))) best k x b (x.In.length:Int)=some (.inr (.inl (if b=true then k else best,IntKind.i64.wrap (k - 1)))):=by
   unfold fY;rw [if_neg (by simp)];cases b<;>rfl
  rw [an];simp only [hstep,List.drop_length,List.all_nil,Bool.and_true]
 | m+1,j,b,h=>by
  have hlt:j<x.In.length:=by omega
  have hmem:x.In[j]∈x.In:=List.getElem_mem hlt;obtain ⟨r0,r1,e,he,_⟩:=hn.inn i x hx _ hmem;obtain ⟨s0,_⟩:=wm hn he;have hge2:(l.map Ends.src)[x.In[j].toNat]?=some e.src:=by rw [List.getElem?_map,he];rfl
  have hget:=hm.get _ _ hge2;rw [Int.toNat_of_nonneg r0,if_neg (by omega)] at hget;have hstep:fY fr (out.map (fun i:Nat=>(i:Int))) best k x b (j:Int)=some (.inl (b && out.contains e.src.toNat,((j+1:Nat):Int))):=by
   unfold fY;rw [if_pos (by simp;omega),aN (List.getElem?_eq_getElem hlt),Option.bind_some,aJ (by omega),hget];cases b
   ·rfl
   ·simp only [if_true,Option.getD_some,qo out ho _ s0,Option.bind_some,Bool.true_and]
  rw [an];simp only [hstep];rw [wd out ho best k hx hxl m (j+1) _ (by omega),List.drop_eq_getElem_cons hlt,List.all_cons,he];simp only [Bool.and_assoc]
theorem wl (hio:∀ x∈n.Nodes,x.In.length<=1099511627776) (cnt:Nat) (hcnt:cnt<=12) (out:List Nat) (ho:out.length<=12):∀ (k:Nat) (best:Int),k<=n.Nodes.length ->
  iter (fun ss:Int × Int=>fV n fr (cnt:Int) (out.map (fun i:Nat=>(i:Int))) ss.1 ss.2) (best,(k:Int) - 1)=(if lastD (okN l out n.Nodes) k best<0 then some (.inr ([],7)) else some (.inl (((cnt+1:Nat):Int),out.map (fun i:Nat=>(i:Int))++[lastD (okN l out n.Nodes) k best])))
 | 0,best,_=>by
  have hstep:fV n fr (cnt:Int) (out.map (fun i:Nat=>(i:Int))) best (((0:Nat):Int) - 1)=some (.inr (if best<0 then .inr ([],7) else .inl (((cnt+1:Nat):Int),out.map (fun i:Nat=>(i:Int))++[best]))):=by
   unfold fV;rw [if_neg (by simp),aJ (by omega),bB (by simp;omega)];by_cases hb:best<0<;>simp [hb]
  rw [an];simp only [hstep,lastD];by_cases hb:best<0<;>simp [hb]
 | k+1,best,hk=>by
  have hlt:k<n.Nodes.length:=by omega
  have hx:n.Nodes[k]?=some n.Nodes[k]:=List.getElem?_eq_getElem hlt;have hn2:=hn.n2;have hw:IntKind.i64.wrap ((k:Int) - 1)=(k:Int) - 1:=bl (by omega) (by omega);have hok:okN l out n.Nodes k=(!(out.contains k) && fedN l out n.Nodes[k]):=by unfold okN;rw [hx]
  have hstep:fV n fr (cnt:Int) (out.map (fun i:Nat=>(i:Int))) best (((k+1:Nat):Int) - 1)=some (.inl (if okN l out n.Nodes k=true then (k:Int) else best,(k:Int) - 1)):=by
   have e1:(((k+1:Nat):Int) - 1)=(k:Int):=by omega
   rw [e1];unfold fV;rw [if_pos (by simp),qo out ho _ (by omega),Option.bind_some,Int.toNat_natCast];by_cases hc:out.contains k=true
   ·rw [if_pos hc,hw,hok,hc];simp
   ·rw [if_neg hc,aN hx,Option.bind_some];have:=wd hn hm out ho best k hx (hio _ (List.getElem_mem hlt)) n.Nodes[k].In.length 0 true (by omega);simp only [Int.natCast_zero,List.drop_zero,Bool.true_and] at this;rw [this,hw,hok];have hc':out.contains k=false:=by simpa using hc
    rw [hc'];simp only [Bool.not_false,Bool.true_and];rfl
  rw [an];simp only [hstep,lastD];exact wl hio cnt hcnt out ho k _ (by omega)
theorem vX (hio:∀ x∈n.Nodes,x.In.length<=1099511627776):∀ (m:Nat) (out:List Nat),out.length+m=n.Nodes.length ->
  iter (fun ss:Int × List Int=>fb n fr ss.1 ss.2) ((out.length:Int),out.map (fun i:Nat=>(i:Int)))=some (match ordN l n.Nodes m out with
   | none=>([],7)
   | some out=>(out.map (fun i:Nat=>(i:Int)),0))
 | 0,out,h=>by
  have:fb n fr (out.length:Int) (out.map (fun i:Nat=>(i:Int)))=some (.inr (out.map (fun i:Nat=>(i:Int)),0)):=by
   unfold fb;rw [if_neg (by simp;omega)];rfl
  rw [an];simp only [this,ordN]
 | m+1,out,h=>by
  have hn2:=hn.n2;have hstep:fb n fr (out.length:Int) (out.map (fun i:Nat=>(i:Int)))=match cN (okN l out n.Nodes) n.Nodes.length 0 with
   | some i=>some (.inl (((out++[i]).length:Int),(out++[i]).map (fun i:Nat=>(i:Int))))
   | none=>some (.inr ([],7)):=by
   unfold fb
   rw [if_pos (by simp;omega),bl (by omega) (by omega),wl hn hm hio out.length (by omega) out (by omega) n.Nodes.length (-1) (by omega),tk]
   cases cN (okN l out n.Nodes) n.Nodes.length 0 with
   | none=>rfl
   | some i=>simp
  rw [an];simp only [hstep,ordN];cases cN (okN l out n.Nodes) n.Nodes.length 0 with
  | none=>rfl
  | some i =>
   simp only;exact vX hio m (out++[i]) (by simp;omega)
end
theorem wc (n:Net) (hn:n.Nodes.length<=12) (hn1:1<=n.Nodes.length) (hR0:0<=n.Rings) (hR:n.Rings<=16) (hm1:1<=n.Room) (hm2':n.Room<=6) (hio:∀ x∈n.Nodes,x.In.length<=1099511627776/\x.Out.length<=1099511627776) :
  ∀ (m k s:Nat) (l:List Ends) (fr to:List (Int × Int)),k+m=n.Nodes.length->s<=k->(l.length:Int)=n.Rings->MRi (l.map Ends.src) fr->MRi (l.map Ends.dst) to ->
  (∀ s1 l1,dm n.Rings k (n.Nodes.drop k) s l=.inr (s1,l1)->¬ (l1.any (fun e=>decide (e.src<0∨e.dst<0))=true)->s1=1->NetL n l1) ->
  iter (fun ss:Int × Int × List (Int × Int) × List (Int × Int)=>eC n ss.1 ss.2.1 ss.2.2.1 ss.2.2.2) ((s:Int),(k:Int),fr,to)=some (match dm n.Rings k (n.Nodes.drop k) s l with
   | .inl e=>([],e)
   | .inr (s,l)=>if l.any (fun e=>decide (e.src<0∨e.dst<0)) then ([],9) else if s≠1 then ([],4) else match ordN l n.Nodes n.Nodes.length [] with
    | none=>([],7)
    | some out=>(out.map (fun i:Nat=>(i:Int)),0))
 | 0,k,s,l,fr,to,h,hs,hl,hm,hm2,hL=>by
  have hk:k=n.Nodes.length:=by omega
  subst hk;rw [List.drop_length] at hL ⊢;have hlen:∀ (f:Ends->Int) (mm:List (Int × Int)),MRi (l.map f) mm->((mm.length:Int)=n.Rings ↔ ∀ e∈l,0<=f e):=fun f mm hmm=>by
   have e1:=hmm.len;have e2:(l.map f).countP (fun x=>decide (0<=x))=(l.map f).length ↔ ∀ x∈l.map f,decide (0<=x)=true:=List.countP_eq_length;rw [<- e1,List.length_map] at e2;constructor
   ·intro h1 e he;have:=e2.1 (by omega) (f e) (List.mem_map_of_mem he);simpa using this
   ·intro h1;have:=e2.2 (fun x hx=>by obtain ⟨e,he,rfl⟩:=List.mem_map.1 hx;simpa using h1 e he);omega
  have a1:=hlen _ _ hm;have a2:=hlen _ _ hm2;simp only [dm] at hL ⊢;have hany:(l.any (fun e=>decide (e.src<0∨e.dst<0))=true) ↔ ¬ ((fr.length:Int)=n.Rings/\(to.length:Int)=n.Rings):=by
   rw [a1,a2];simp only [List.any_eq_true,decide_eq_true_eq];constructor
   ·rintro ⟨e,he,h1⟩ ⟨h2,h3⟩;have:=h2 e he;have:=h3 e he;omega
   ·intro h1;refine Classical.byContradiction fun h2=>h1 ⟨fun e he=>?_,fun e he=>?_⟩
    ·refine Classical.byContradiction fun h3=>h2 ⟨e,he,.inl (by omega)⟩
    ·refine Classical.byContradiction fun h3=>h2 ⟨e,he,.inr (by omega)⟩
  have hstep:eC n (s:Int) (n.Nodes.length:Int) fr to=Option.map Sum.inr (if (l.any (fun e=>decide (e.src<0∨e.dst<0)))=true then some ([],9) else if s≠1 then some ([],4) else iter (fun ss:Int × List Int=>fb n fr ss.1 ss.2) (0,[])):=by
   unfold eC;rw [if_neg (by simp)];congr 1;by_cases h1:l.any (fun e=>decide (e.src<0∨e.dst<0))=true
   ·have:=hany.1 h1;rw [if_pos (by simp;omega),if_pos h1]
   ·have:(fr.length:Int)=n.Rings/\(to.length:Int)=n.Rings:=by
     refine Classical.byContradiction fun h2=>h1 (hany.2 h2)
    rw [if_neg (by simp;omega),if_neg h1];by_cases h2:s=1
    ·subst h2;rfl
    ·rw [if_pos (by simp;omega),if_pos h2]
  rw [an];simp only [hstep];by_cases h1:l.any (fun e=>decide (e.src<0∨e.dst<0))=true
  ·simp only [if_pos h1];rfl
  ·simp only [if_neg h1];by_cases h2:s=1
   ·subst h2;have hnl:=hL 1 l rfl h1 rfl;have:=vX hnl hm (fun x hx=>(hio x hx).1) n.Nodes.length [] (by simp);simp only [List.length_nil,Int.natCast_zero,List.map_nil] at this;simp only [ne_eq,not_true_eq_false,if_false,this];rfl
   ·simp only [ne_eq,h2,not_false_eq_true,if_true];rfl
 | m+1,k,s,l,fr,to,h,hs,hl,hm,hm2,hL=>by
  have hlt:k<n.Nodes.length:=by omega
  have hx:n.Nodes[k]?=some n.Nodes[k]:=List.getElem?_eq_getElem hlt;obtain ⟨q1,q2⟩:=hio _ (List.getElem_mem hlt);have hone:=Bj n s k n.Nodes[k] hx q2 q1 hlt hn (by omega) hR l fr to hl hm hm2;rw [List.drop_eq_getElem_cons hlt] at hL ⊢;simp only [dm] at hL ⊢;rw [an];cases ho:oneN n.Rings k n.Nodes[k] l with
  | inl e =>
   rw [ho] at hone;simp only at hone;simp only [hone]
  | inr l1 =>
   rw [ho] at hone hL;obtain ⟨fr1,to1,r1,r2,r3⟩:=hone;simp only [r3];exact wc n hn hn1 hR0 hR hm1 hm2' hio m (k+1) _ l1 fr1 to1 (by omega) (by split<;>omega) (by rw [uj ho];exact hl) r1 r2 (by simpa using hL)
theorem w9 (n:Net) (hio:∀ x∈n.Nodes,x.In.length<=1099511627776/\x.Out.length<=1099511627776):kF n=some (bV n):=by
 unfold kF bV;have hL:∀ l,dU n=.inr l->NetL n l:=fun l h=>pd h
 unfold dU at hL ⊢;by_cases h1:n.Nodes.length<1∨12<n.Nodes.length∨n.Rings<0∨16<n.Rings
 ·rw [if_pos (by simp only [Bool.or_eq_true,beq_iff_eq,decide_eq_true_eq];omega),if_pos h1]
 rw [if_neg (by simp only [Bool.or_eq_true,beq_iff_eq,decide_eq_true_eq];omega),if_neg h1];rw [if_neg h1] at hL;by_cases h2:n.Room<1∨6<n.Room
 ·rw [if_pos (by simp;omega),if_pos h2]
 rw [if_neg (by simp;omega),if_neg h2];rw [if_neg h2] at hL;have:=wc n (by omega) (by omega) (by omega) (by omega) (by omega) (by omega) hio n.Nodes.length 0 0 (List.replicate n.Rings.toNat c8) [] [] (by omega) (by omega) (by simp;omega) (by simpa [c8] using MRi.start n.Rings.toNat) (by simpa [c8] using MRi.start n.Rings.toNat) (fun s1 l1 a b c=>by
  simp only [List.drop_zero] at a;have:=hL l1;rw [a] at this;simp only at this;rw [if_neg b,c] at this;exact this rfl)
 simp only [Int.natCast_zero,List.drop_zero] at this;rw [this];cases dm n.Rings 0 n.Nodes 0 (List.replicate n.Rings.toNat c8) with
 | inl e=>rfl
 | inr q =>
  obtain ⟨s,l⟩:=q;simp only;by_cases h3:l.any (fun e=>decide (e.src<0∨e.dst<0))=true
  ·rw [if_pos h3,if_pos h3]
  ·rw [if_neg h3,if_neg h3];by_cases h4:s≠1
   ·rw [if_pos h4,if_pos h4]
   ·(rw [if_neg h4,if_neg h4])<;>cases ho:ordN l n.Nodes n.Nodes.length []<;>simp only [ho]
end
theorem pK {n:Net} (h:(bV n).2=0):∃ l out,dU n=.inr l/\NetL n l/\ordN l n.Nodes n.Nodes.length []=some out/\bV n=(out.map (fun i:Nat=>(i:Int)),0):=by
 unfold bV at h ⊢;cases hl:dU n with
 | inl e=>rw [hl] at h;simp only at h;subst h;exact absurd hl (ti n)
 | inr l =>
  rw [hl] at h;simp only at h ⊢;cases ho:ordN l n.Nodes n.Nodes.length [] with
  | none=>rw [ho] at h;simp at h
  | some out=>exact ⟨l,out,rfl,pd hl,ho,rfl⟩
theorem Dm {n:Net} (h:mNet n<=1048576):∀ x∈n.Nodes,x.In.length<=1099511627776/\x.Out.length<=1099511627776:=fun x hx=>by
 have h1:eV x<=mL eV n.Nodes:=vV hx;have h0:eV x=mL mI x.In+mL mI x.Out+2:=rfl;have h2:x.In.length<=mL mI x.In:=nH (fun _=>Nat.le_refl 1) _;have h3:x.Out.length<=mL mI x.Out:=nH (fun _=>Nat.le_refl 1) _;unfold mNet at h;omega
def d9:List (List Item)->Int
 | []=>0
 | s::r=>if 20<s.length then 2 else if s.any (fun x=>decide (x.Dep≠0)) then 4 else d9 r
def dE (len:Nat):List Node->List Int->Int
 | [],_=>0
 | x::xs,seen=>if x.Kind≠1 then dE len xs seen else if (len:Int)<=x.A then 5 else if x.A∈seen then 6 else dE len xs (x.A::seen)
def aZ (n:Net) (l:List (List Item)):Int:=if (bV n).2≠0 then (bV n).2 else if 4<l.length then 2 else if d9 l≠0 then d9 l else dE l.length n.Nodes []
theorem oL (l:List (List Item)) (hl:l.length<=4) {body:Int->Option (Int ⊕ Int)} {inner:Nat->List Item->Int->Option (Int ⊕ (Int ⊕ Int))} (fin:Option Int)
  (h1:∀ (k:Nat) s,l[k]?=some s->k<l.length->body (k:Int)=if 20<s.length then some (.inr 2) else iter (inner k s) 0)
  (h2:body (l.length:Int)=fin.map Sum.inr)
  (h3:∀ (k:Nat) s (j:Nat) x,l[k]?=some s->k<l.length->s[j]?=some x->j<20->inner k s (j:Int)=if x.Dep≠0 then some (.inr (.inr 4)) else some (.inl ((j+1:Nat):Int)))
  (h4:∀ (k:Nat) s,l[k]?=some s->k<l.length->inner k s (s.length:Int)=some (.inr (.inl ((k+1:Nat):Int)))) :
  ∀ (m k:Nat),k+m=l.length->iter body (k:Int)=if d9 (l.drop k)≠0 then some (d9 (l.drop k)) else fin
 | 0,k,h=>by
  have hk:k=l.length:=by omega
  subst hk;rw [an,h2,List.drop_length];simp only [d9,ne_eq,not_true_eq_false,if_false];cases fin<;>rfl
 | m + 1,k,h=>by
  have hlt:k<l.length:=by omega
  have hs:l[k]?=some l[k]:=List.getElem?_eq_getElem hlt;rw [an,h1 k _ hs hlt,List.drop_eq_getElem_cons hlt];generalize hsq:l[k]=s at *;simp only [d9];by_cases h20:20<s.length
  ·simp [h20]
  ·simp only [if_neg h20];have key:∀ (q j:Nat),j+q=s.length->iter (inner k s) (j:Int)=if (s.drop j).any (fun x=>decide (x.Dep≠0)) then some (.inr 4) else some (.inl ((k+1:Nat):Int)):=by
    intro q;induction q with
    | zero =>
     intro j hj;have hj:j=s.length:=by omega
     subst hj;rw [an,h4 k s hs hlt,List.drop_length];simp
    | succ q ih =>
     intro j hj;have hjl:j<s.length:=by omega
     rw [an,h3 k s j s[j] hs hlt (List.getElem?_eq_getElem hjl) (by omega),List.drop_eq_getElem_cons hjl,List.any_cons];by_cases hd:s[j].Dep≠0
     ·simp [hd]
     ·rw [if_neg hd];simp only;rw [ih (j+1) (by omega)];simp [hd]
   have:=key s.length 0 (by omega);simp only [Int.natCast_zero,List.drop_zero] at this;rw [this];by_cases hany:s.any (fun x=>decide (x.Dep≠0))=true
   ·simp only [if_pos hany];simp
   ·simp only [if_neg hany];exact oL l hl fin h1 h2 h3 h4 m (k+1) (by omega)
theorem zK {N:Nat} (hN:N<=4) (seen:List Int) {a:Int} (h0:0<=a) (h1:a<N):((List.range N).map fun i:Nat=>decide ((i:Int)∈seen))[a.toNat]?=some (decide (a∈seen)):=by
 rw [List.getElem?_map,List.getElem?_range (by omega)];simp only [Option.map_some,Option.some.injEq];rw [Int.toNat_of_nonneg h0]
theorem oW (n:Net) (l:List (List Item)) (hl:l.length<=4) (hn:n.Nodes.length<=12) (hA:∀ x∈n.Nodes,0<=x.A):∀ (m k:Nat) (seen:List Int),k+m=n.Nodes.length ->
  iter (fun ss:Int × List Bool=>gl n l ss.1 ss.2) ((k:Int),(List.range l.length).map fun i:Nat=>decide ((i:Int)∈seen))=some (dE l.length (n.Nodes.drop k) seen)
 | 0,k,seen,h=>by
  have hk:k=n.Nodes.length:=by omega
  subst hk;have:∀ b,gl n l (n.Nodes.length:Int) b=some (.inr 0):=fun b=>by unfold gl;rw [if_neg (by simp)];rfl
  rw [an];simp only [this,List.drop_length,dE]
 | m + 1,k,seen,h=>by
  have hlt:k<n.Nodes.length:=by omega
  have hx:n.Nodes[k]?=some n.Nodes[k]:=List.getElem?_eq_getElem hlt;have hA':=hA _ (List.getElem_mem hlt);rw [List.drop_eq_getElem_cons hlt,an];generalize hxq:n.Nodes[k]=x at *;simp only [dE];have hstep:gl n l (k:Int) ((List.range l.length).map fun i:Nat=>decide ((i:Int)∈seen))=if x.Kind≠1 then some (.inl (((k+1:Nat):Int),(List.range l.length).map fun i:Nat=>decide ((i:Int)∈seen))) else if (l.length:Int)<=x.A then some (.inr 5) else if x.A∈seen then some (.inr 6) else some (.inl (((k+1:Nat):Int),(List.range l.length).map fun i:Nat=>decide ((i:Int)∈x.A::seen))):=by
   unfold gl;rw [if_pos (by simp;omega),aN hx,Option.bind_some,aJ (by omega)];by_cases h1:x.Kind≠1
   ·rw [if_pos (by simpa using h1),if_pos h1]
   ·rw [if_neg (by simpa using h1),if_neg h1];by_cases h2:(l.length:Int)<=x.A
    ·rw [if_pos (by simpa using h2),if_pos h2];rfl
    ·rw [if_neg (by simpa using h2),if_neg h2];have hix:ixN ((List.range l.length).map fun i:Nat=>decide ((i:Int)∈seen)) x.A=some x.A.toNat:=by unfold ixN;rw [if_pos (by simp;omega)]
     have hg:=zK hl seen hA' (show x.A<l.length by omega);simp only [hix,hg,Option.bind_some];by_cases h3:x.A∈seen
     ·simp [h3]
     ·simp only [h3,decide_false,Bool.false_eq_true,if_false];congr 3;apply List.ext_getElem?;intro j;rw [List.getElem?_set,List.getElem?_map,List.getElem?_map];by_cases hj:j<l.length
      ·rw [List.getElem?_range hj];simp only [List.length_map,List.length_range,Option.map_some];by_cases hjx:x.A.toNat=j
       ·rw [if_pos hjx,if_pos (by omega)];have:(j:Int)=x.A:=by omega
        simp [this]
       ·rw [if_neg hjx];have:¬ (j:Int)=x.A:=by omega
        simp [this]
      ·rw [if_neg (by omega),List.getElem?_eq_none (by simp;omega)];rfl
  rw [hstep];by_cases h1:x.Kind≠1
  ·simp only [if_pos h1];exact oW n l hl hn hA m (k+1) seen (by omega)
  ·simp only [if_neg h1];by_cases h2:(l.length:Int)<=x.A
   ·simp only [if_pos h2]
   ·simp only [if_neg h2];by_cases h3:x.A∈seen
    ·simp only [if_pos h3]
    ·simp only [if_neg h3];exact oW n l hl hn hA m (k+1) (x.A::seen) (by omega)
theorem ph (n:Net) (l:List (List Item)) (hl:l.length<=4) (hn:n.Nodes.length<=12):∀ (m k:Nat) (seen:List Int) (rd:List (Int × Int)),k+m=n.Nodes.length->(∀ a,mget a rd=if a∈seen then some 1 else none) ->
  iter (fun ss:Int × List (Int × Int)=>fR n l ss.1 ss.2) ((k:Int),rd)=some (dE l.length (n.Nodes.drop k) seen)
 | 0,k,seen,rd,h,hr=>by
  have hk:k=n.Nodes.length:=by omega
  subst hk;have:∀ b,fR n l (n.Nodes.length:Int) b=some (.inr 0):=fun b=>by unfold fR;rw [if_neg (by simp)];rfl
  rw [an];simp only [this,List.drop_length,dE]
 | m + 1,k,seen,rd,h,hr=>by
  have hlt:k<n.Nodes.length:=by omega
  have hx:n.Nodes[k]?=some n.Nodes[k]:=List.getElem?_eq_getElem hlt;rw [List.drop_eq_getElem_cons hlt,an];generalize hxq:n.Nodes[k]=x at *;simp only [dE];have hstep:fR n l (k:Int) rd=if x.Kind≠1 then some (.inl (((k+1:Nat):Int),rd)) else if (l.length:Int)<=x.A then some (.inr 5) else if x.A∈seen then some (.inr 6) else some (.inl (((k+1:Nat):Int),mset x.A 1 rd)):=by
   unfold fR;rw [if_pos (by simp;omega),aN hx,Option.bind_some,aJ (by omega),ji,hr];by_cases h1:x.Kind≠1
   ·rw [if_neg (by simpa using h1),if_pos h1]
   ·rw [if_pos (by simpa using h1),if_neg h1];by_cases h2:(l.length:Int)<=x.A
    ·rw [if_pos (by simpa using h2),if_pos h2];rfl
    ·rw [if_neg (by simpa using h2),if_neg h2];by_cases h3:x.A∈seen
     ·rw [if_pos h3,if_pos h3,if_pos (by decide)];rfl
     ·rw [if_neg h3,if_neg h3,if_neg (by decide)];rfl
  rw [hstep];by_cases h1:x.Kind≠1
  ·simp only [if_pos h1];exact ph n l hl hn m (k+1) seen rd (by omega) hr
  ·simp only [if_neg h1];by_cases h2:(l.length:Int)<=x.A
   ·simp only [if_pos h2]
   ·simp only [if_neg h2];by_cases h3:x.A∈seen
    ·simp only [if_pos h3]
    ·simp only [if_neg h3];refine ph n l hl hn m (k+1) (x.A::seen) _ (by omega) (fun a=>?_);by_cases ha:a=x.A
     ·subst ha;rw [ji];simp
     ·rw [mz 1 ha,hr a];simp [ha]
theorem nodeA {n:Net} {l:List Ends} (h:NetL n l):∀ x∈n.Nodes,0<=x.A:=fun x hx=>by
 obtain ⟨i,hi,rfl⟩:=List.mem_iff_getElem.1 hx;have:=h.err i _ (List.getElem?_eq_getElem hi);unfold cZ at this;split at this
 ·exact absurd this (by decide)
 ·split at this
  ·exact absurd this (by decide)
  ·split at this
   ·exact absurd this (by decide)
   ·rename_i hb;unfold badA at hb;simp at hb;omega
theorem qq (n:Net) (l:List (List Item)) (hio:∀ x∈n.Nodes,x.In.length<=1099511627776/\x.Out.length<=1099511627776):jx n l=some (aZ n l):=by
 unfold jx aZ;rw [qD n hio,Option.bind_some];by_cases h:(bV n).2=0
 ·obtain ⟨le,out,_,hl,_,_⟩:=pK h;rw [if_neg (show ¬ ((bV n).2 != 0)=true by simp [h]),if_neg (show ¬ (bV n).2≠0 by simp [h])];by_cases h4:4<l.length
  ·rw [if_pos (by simp;omega),if_pos h4]
  ·rw [if_neg (by simp;omega),if_neg h4];have hmk:mk (l.length:Int) false=some ((List.range l.length).map fun i:Nat=>decide ((i:Int)∈([]:List Int))):=by
    unfold mk;rw [if_pos (by omega)];congr 1;simp [List.map_const']
   have hseen:=oW n l (by omega) hl.n2 (nodeA hl) n.Nodes.length 0 [] (by omega);simp only [Int.natCast_zero,List.drop_zero] at hseen;have:=oL l (by omega) (body:=fun ss=>jl n l ss) (inner:=fun k s ss=>jk k s ss) (some (dE l.length n.Nodes []))
    (fun k s hs hlt=>by
     unfold jl;rw [if_pos (by simp;omega),aN hs,Option.bind_some];by_cases h20:20<s.length
     ·rw [if_pos (by simp;omega),if_pos h20];rfl
     ·rw [if_neg (by simp;omega),if_neg h20])
    (by
     unfold jl;rw [if_neg (by simp),hmk,Option.bind_some,hseen])
    (fun k s j x hs hlt hx hj=>by
     have hjl:=(List.getElem?_eq_some_iff.1 hx).1;unfold jk;rw [if_pos (by simp;omega),aN hx,Option.bind_some,aJ (by omega)];by_cases hd:x.Dep≠0
     ·rw [if_pos (by simpa using hd),if_pos hd];rfl
     ·rw [if_neg (by simpa using hd),if_neg hd])
    (fun k s hs hlt=>by
     unfold jk;rw [if_neg (by simp),aJ (by omega)];rfl) l.length 0 (by omega)
   simp only [Int.natCast_zero,List.drop_zero] at this;rw [this];by_cases hi:d9 l≠0
   ·rw [if_pos hi,if_pos hi]
   ·rw [if_neg hi,if_neg hi]
 ·rw [if_pos (by simpa using h),if_pos h]
theorem wU (n:Net) (l:List (List Item)) (hio:∀ x∈n.Nodes,x.In.length<=1099511627776/\x.Out.length<=1099511627776):kz n l=some (aZ n l):=by
 unfold kz aZ;rw [w9 n hio,Option.bind_some];by_cases h:(bV n).2=0
 ·obtain ⟨le,out,_,hl,_,_⟩:=pK h;rw [if_neg (show ¬ ((bV n).2 != 0)=true by simp [h]),if_neg (show ¬ (bV n).2≠0 by simp [h])];by_cases h4:4<l.length
  ·rw [if_pos (by simp;omega),if_pos h4]
  ·rw [if_neg (by simp;omega),if_neg h4];have hseen:=ph n l (by omega) hl.n2 n.Nodes.length 0 [] [] (by omega) (fun a=>by simp [mget]);simp only [Int.natCast_zero,List.drop_zero] at hseen;have:=oL l (by omega) (body:=fun ss=>iZ n l ss) (inner:=fun k s ss=>i6 k s ss) (some (dE l.length n.Nodes []))
    (fun k s hs hlt=>by
     unfold iZ;rw [if_pos (by simp;omega),aN hs,Option.bind_some];by_cases h20:20<s.length
     ·rw [if_pos (by simp;omega),if_pos h20];rfl
     ·rw [if_neg (by simp;omega),if_neg h20])
    (by
     unfold iZ;rw [if_neg (by simp),hseen])
    (fun k s j x hs hlt hx hj=>by
     have hjl:=(List.getElem?_eq_some_iff.1 hx).1;unfold i6;rw [if_pos (by simp;omega),aN hx,Option.bind_some,aJ (by omega)];by_cases hd:x.Dep≠0
     ·rw [if_pos (by simpa using hd),if_pos hd];rfl
     ·rw [if_neg (by simpa using hd),if_neg hd])
    (fun k s hs hlt=>by
     unfold i6;rw [if_neg (by simp),aJ (by omega)];rfl) l.length 0 (by omega)
   simp only [Int.natCast_zero,List.drop_zero] at this;rw [this];by_cases hi:d9 l≠0
   ·rw [if_pos hi,if_pos hi]
   ·rw [if_neg hi,if_neg hi]
 ·rw [if_pos (by simpa using h),if_pos h]
def meetN:Net:=⟨[⟨1,0,[],[0]⟩,⟨1,1,[],[1]⟩,⟨6,0,[0,1],[2]⟩,⟨8,0,[2],[]⟩],3,1⟩
def twoN:List (List Item):=[[⟨1,1,0⟩],[⟨2,2,0⟩]]
theorem BC:∀ x∈meetN.Nodes,x.In.length<=1099511627776/\x.Out.length<=1099511627776:=by decide
theorem tJ (l:List Ends) (ns:List Node):∀ (m:Nat) (out o:List Nat),ordN l ns m out=some o->o.length=out.length+m
 | 0,out,o,h=>by cases h;rfl
 | m+1,out,o,h=>by
  unfold ordN at h;split at h
  ·cases h
  ·have:=tJ l ns m _ o h;simp at this;omega
theorem rB {l:List Ends} {ns:List Node}:∀ {m:Nat} {out o:List Nat},ordN l ns m out=some o->out.Nodup->(∀ x∈out,x<ns.length) ->
  o.Nodup/\(∀ x∈o,x<ns.length)/\out <+: o/\∀ (p i:Nat),out.length<=p->o[p]?=some i->okN l (o.take p) ns i=true
 | 0,out,o,h,h1,h2=>by
  cases h;exact ⟨h1,h2,List.prefix_refl _,fun p i hp hi=>by rw [List.getElem?_eq_none hp] at hi;cases hi⟩
 | m+1,out,o,h,h1,h2=>by
  unfold ordN at h;split at h
  ·cases h
  ·rename_i i hi;obtain ⟨_,hlt,hok⟩:=qM hi;have hni:i ∉ out:=by
    unfold okN at hok;rw [Bool.and_eq_true] at hok;simpa using hok.1
   obtain ⟨a,b,c,d⟩:=rB h (List.nodup_append.2 ⟨h1,by simp,by intro x hx y hy;simp at hy;subst hy;rintro rfl;exact hni hx⟩) (fun x hx=>by
    rcases List.mem_append.1 hx with hx | hx
    ·exact h2 x hx
    ·simp at hx;omega)
   refine ⟨a,b,(List.prefix_append out [i]).trans c,fun p j hp hj=>?_⟩;by_cases hpe:p=out.length
   ·subst hpe;obtain ⟨t,ht⟩:=c;rw [<- ht] at hj ⊢;simp only [List.append_assoc,List.singleton_append,List.getElem?_append_right (Nat.le_refl _),Nat.sub_self] at hj;simp at hj;subst hj;rw [List.append_assoc,List.take_left];exact hok
   ·exact d p j (by simp;omega) hj
theorem oo:∀ (N:Nat) (l:List Nat),l.Nodup->(∀ x∈l,x<N)->l.length<=N
 | 0,l,_,h=>by
  cases l with
  | nil=>exact Nat.le_refl _
  | cons x l=>exact absurd (h x List.mem_cons_self) (by omega)
 | N+1,l,hd,h=>by
  have:=oo N (l.erase N) (hd.erase N) (fun x hx=>by
   have h1:=(List.Nodup.mem_erase_iff hd).1 hx;have:=h x h1.2;omega)
  by_cases hm:N∈l
  ·rw [List.length_erase_of_mem hm] at this;omega
  ·rw [List.erase_of_not_mem hm] at this;omega
theorem Bd {N:Nat} {l:List Nat} (hd:l.Nodup) (h:∀ x∈l,x<N) (hl:l.length=N) {i:Nat} (hi:i<N):i∈l:=by
 refine Classical.byContradiction fun hn=>?_
 have:=oo N (i::l) (List.nodup_cons.2 ⟨hn,hd⟩) (fun x hx=>by
  rcases List.mem_cons.1 hx with rfl | hx
  ·exact hi
  ·exact h x hx)
 simp at this;omega
structure OrdL (n:Net) (l:List Ends) (o:List Nat):Prop where
 nd:o.Nodup
 lt:∀ x∈o,x<n.Nodes.length
 len:o.length=n.Nodes.length
 fed:∀ (p i:Nat) (x:Node) (r:Int) (e:Ends),o[p]?=some i->n.Nodes[i]?=some x->r∈x.In->l[r.toNat]?=some e->e.src.toNat∈o.take p
theorem Cc {n:Net} {l:List Ends} {o:List Nat} (h:ordN l n.Nodes n.Nodes.length []=some o):OrdL n l o:=by
 obtain ⟨a,b,_,d⟩:=rB h List.nodup_nil (fun x hx=>by simp at hx);have hl:=tJ _ _ _ _ _ h;refine ⟨a,b,by simpa using hl,fun p i x r e hp hx hr he=>?_⟩;have:=d p i (Nat.zero_le _) hp;unfold okN at this;rw [Bool.and_eq_true,hx] at this;have h2:=this.2;simp only [fedN,List.all_eq_true] at h2;have h3:=h2 r hr;rw [he] at h3;simpa using h3
theorem bnd {α β:Type} {o:Option α} {k:α->Option β} {x:α} {r:Option β} (h:o=some x) (h2:k x=r):Option.bind o k=r:=by rw [h];exact h2
theorem dF {n:Nat} {i j:Int} (h:0<=i/\i<=j/\j<=n):vwok n i j=some ():=by unfold vwok;rw [if_pos h]
theorem pC {α:Type} (a c d ys:List α) (n:Nat) (h:c.length=ys.length) (hn:ys.length<=n):cpy (a++(c++d)) a.length n ys=a++(ys++d):=by
 unfold cpy;rw [List.take_left,List.take_of_length_le hn,Nat.min_eq_right hn,<- h,<- List.drop_drop,List.drop_left,List.drop_left,List.append_assoc]
theorem vB (a b:List Keyed) (y:Keyed) (h:a.length+b.length<=1000000):kr (a.length:Int) (a++b) [y]=some (a++y::b):=by
 unfold kr;refine Cb (fun C hC=>?_);unfold nT;have hl:(a++b).length=a.length+b.length:=List.length_append;have h1:([y]:List Keyed).length=1:=rfl;have w1:IntKind.i64.wrap ((((a++b).length:Nat):Int)+(([y]:List Keyed).length:Int))=((a.length+b.length+1:Nat):Int):=by rw [bl (by omega) (by omega)];omega
 have w2:IntKind.i64.wrap ((a.length:Int)+(([y]:List Keyed).length:Int))=((a.length+1:Nat):Int):=by rw [bl (by omega) (by omega)];omega
 have w3:IntKind.i64.wrap (((a.length+b.length+1:Nat):Int) - (a.length:Int))=((b.length+1:Nat):Int):=by rw [bl (by omega) (by omega)];omega
 simp only [w1,w2,w3,Int.toNat_natCast];refine bnd (dF (by omega)) ?_;rw [if_neg (by simp)];by_cases hb:b=[]
 ·subst hb;rw [if_pos (by simp)];refine bnd (bB (by simp;omega)) ?_;simp
 ·have hbl:0<b.length:=List.length_pos_iff.2 hb;rw [if_neg (by simp;omega)];by_cases hg:a.length+b.length+1 > C
  ·rw [if_pos (by simp;omega)];refine bnd (dF (by omega)) ?_;have hz:growz (a++b) a.length C ((b.length+1:Nat):Int) (⟨0,0⟩:Keyed)=some (a++([(⟨0,0⟩:Keyed)]++List.replicate b.length (⟨0,0⟩:Keyed))):=by
    unfold growz;rw [if_pos (by rw [hl];omega),List.take_left,Int.toNat_natCast,List.replicate_succ];rfl
   refine bnd hz ?_;have hzl:(a++([(⟨0,0⟩:Keyed)]++List.replicate b.length (⟨0,0⟩:Keyed))).length=a.length+(b.length+1):=by simp<;>omega
   have e1:a.length+(b.length+1) - a.length=b.length+1:=by omega
   have c1:=pC a [(⟨0,0⟩:Keyed)] (List.replicate b.length (⟨0,0⟩:Keyed)) [y] (b.length+1) rfl (by simp);have hal:(a++([y]++List.replicate b.length (⟨0,0⟩:Keyed))).length=a.length+(b.length+1):=by simp<;>omega
   have e2:a.length+(b.length+1) - (a.length+1)=b.length:=by omega
   simp only [hzl,e1,c1,hal,e2,hl,Nat.zero_add,Nat.add_sub_cancel_left,Int.toNat_natCast];refine bnd (dF (by omega)) (bnd (dF (by omega)) (bnd (dF (by omega)) (bnd (dF (by omega)) (bnd (dF (by omega)) (bnd (dF (by omega)) ?_)))));rw [List.drop_left,List.take_length];have c2:=pC (a++[y]) (List.replicate b.length (⟨0,0⟩:Keyed)) [] b b.length (by simp) (Nat.le_refl _);simp only [List.append_nil,List.length_append,List.length_singleton,List.append_assoc] at c2;rw [c2];simp
  ·rw [if_neg (by simp;omega)];have hx:roomx (a++b).length C ((a.length+b.length+1:Nat):Int)=some 1:=by
    unfold roomx;rw [if_pos (by rw [hl];omega),hl,Int.toNat_natCast];congr 1;omega
   refine bnd hx ?_;have e2:a.length+b.length+1 - (a.length+1)=b.length:=by omega
   have e3:a.length+b.length+1 - a.length=b.length+1:=by omega
   simp only [hl,Int.toNat_natCast,e2,e3];refine bnd (dF (by omega)) ?_;refine bnd (show ovok [y] b.length=some () by unfold ovok;rw [if_pos (by simp;omega)]) ?_;refine bnd (dF (by omega)) (bnd (dF (by omega)) ?_);have hu:cpyU (a++b) 1 (a.length+1) b.length a.length (b.length+1)=some (a++(b.take 1++b)):=by
    unfold cpyU;rw [if_pos (by rw [hl];omega),List.drop_left,List.take_append];simp [List.take_of_length_le]
   refine bnd hu ?_;have htl:(b.take 1).length=1:=by simp;omega
   have hul:(a++(b.take 1++b)).length=a.length+(b.length+1):=by rw [List.length_append,List.length_append,htl];omega
   have e1:a.length+(b.length+1) - a.length=b.length+1:=by omega
   have c1:=pC a (b.take 1) b [y] (b.length+1) (by rw [htl];rfl) (by simp);simp only [hul,e1,c1,Int.toNat_natCast];refine bnd (dF (by omega)) (bnd (dF (by omega)) ?_);rfl
theorem vW (x:Keyed) (k:Int):js x k=some (if x.Key<k then -1 else if x.Key > k then 1 else 0):=by
 unfold js;by_cases h1:x.Key<k
 ·simp [h1]
 ·by_cases h2:x.Key > k<;>simp [h1,h2]
def good (l:List Keyed) (i:Nat):Prop:=∀ x,l[i]?=some x->1<=x.N/\∀ j y,i=j+1->l[j]?=some y->y.Key<x.Key
theorem rf (m : Memory) (hl:m.Keys.length<=6):∀ (n k:Nat),k+n=m.Keys.length->∃ c,iter (fun ss:Int=>eE m ss) (k:Int)=some c/\(c=0 ↔ (∀ i,k<=i->i<m.Keys.length->good m.Keys i)/\0<=m.Dep)
  | 0,k,h=>by
    have hk:k=m.Keys.length:=by omega
    subst hk;by_cases hd:m.Dep<0
    · refine ⟨3,?_,by constructor<;>intro h<;>omega⟩;rw [an];unfold eE;simp [hd]
    · refine ⟨0,?_,?_⟩
      · rw [an];unfold eE;simp [hd]
      · exact ⟨fun _=>⟨fun i h1 h2=>by omega,by omega⟩,fun _=>rfl⟩
  | n + 1, k, h => by
    have hk:k<m.Keys.length:=by omega
    have hx:m.Keys[k]?=some m.Keys[k]:=List.getElem?_eq_getElem hk;generalize hxv:m.Keys[k]=x at hx;have hkw:decide ((k:Int)<(m.Keys.length:Int))=true:=by simp;omega
    have hw:IntKind.i64.wrap ((k:Int)+1)=((k+1:Nat):Int):=aJ (by omega);by_cases hg:good m.Keys k
    · obtain ⟨hg1,hg2⟩:=hg x hx;obtain ⟨c,h1,h2⟩:=rf m hl n (k+1) (by omega);refine ⟨c,?_,?_⟩
      · rw [an];have e:eE m (k:Int)=some (.inl ((k+1:Nat):Int)):=by
          unfold eE;rw [if_pos hkw,aN hx,Option.bind_some,if_neg (show ¬ decide (x.N<1)=true by simp;omega)];cases k with
          | zero=>simp [show IntKind.i64.wrap 1=1 from rfl]
          | succ j =>
            have hy:m.Keys[j]?=some m.Keys[j]:=List.getElem?_eq_getElem (by omega);have:=hg2 j _ rfl hy;rw [if_pos (by simp),bl (by omega) (by omega),show ((j+1:Nat):Int) - 1=(j:Int) by omega,aN hy,Option.bind_some,Option.bind_some,if_neg (by simp;omega),hw]
        simp only [e];exact h1
      · rw [h2];constructor
        · rintro ⟨h3,h4⟩;exact ⟨fun i hi hi2=>by
            by_cases e:i=k
            · subst e;exact hg
            · exact h3 i (by omega) hi2,h4⟩
        · rintro ⟨h3,h4⟩;exact ⟨fun i hi hi2=>h3 i (by omega) hi2,h4⟩
    · refine ⟨4, ?_, by constructor
                        · intro h;omega
                        · rintro ⟨h3,_⟩;exact absurd (h3 k (Nat.le_refl _) hk) hg⟩
      rw [an];have e:eE m (k:Int)=some (.inr 4):=by
        unfold eE;rw [if_pos hkw,aN hx,Option.bind_some];by_cases hn:x.N<1
        · rw [if_pos (show decide (x.N<1)=true by simpa using hn)];rfl
        · rw [if_neg (show ¬ decide (x.N<1)=true by simpa using hn)];cases k with
          | zero=>exact absurd (fun y hy=>by rw [hx] at hy;cases hy;exact ⟨by omega,fun j z hj=>by omega⟩) hg
          | succ j =>
            have hy:m.Keys[j]?=some m.Keys[j]:=List.getElem?_eq_getElem (by omega);rw [if_pos (by simp),bl (by omega) (by omega),show ((j+1:Nat):Int) - 1=(j:Int) by omega,aN hy,Option.bind_some,Option.bind_some];have:x.Key<=(m.Keys[j]).Key:=by
              apply Int.not_lt.1;intro hlt;exact hg (fun z hz=>by
                rw [hx] at hz;cases hz;exact ⟨by omega,fun i y hi hy2=>by
                  have:i=j:=by omega
                  subst this;rw [hy] at hy2;cases hy2;exact hlt⟩)
            rw [if_pos (by simpa using this)];rfl
      simp only [e]
structure okM (m:Memory):Prop where
 len:m.Keys.length<=6
 n:∀ x,x∈m.Keys->1<=x.N
 lt:∀ (i j:Nat) x y,i<j->m.Keys[i]?=some x->m.Keys[j]?=some y->x.Key<y.Key
 dep:0<=m.Dep
theorem vt {l:List Keyed} (h:∀ i,i<l.length->good l i):∀ (n i j:Nat) x y,j=i+1+n->l[i]?=some x->l[j]?=some y->x.Key<y.Key
 | 0,i,j,x,y,e,hx,hy=>(h j (List.getElem?_eq_some_iff.1 hy).1 y hy).2 i x (by omega) hx
 | n+1,i,j,x,y,e,hx,hy=>by
  have hj:=(List.getElem?_eq_some_iff.1 hy).1;have hz:l[i+1+n]?=some l[i+1+n]:=List.getElem?_eq_getElem (by omega);have h1:=vt h n i (i+1+n) x _ rfl hx hz;have h2:=(h j hj y hy).2 (i+1+n) _ (by omega) hz;omega
theorem oZ (m:Memory):∃ c,gD m=some c/\(c=0 ↔ okM m):=by
 unfold gD;by_cases hl:m.Keys.length<=6
 ·rw [if_neg (by simp;omega)];obtain ⟨c,h1,h2⟩:=rf m hl m.Keys.length 0 (by omega);refine ⟨c,h1,h2.trans ⟨fun ⟨h3,h4⟩=>⟨hl,fun x hx=>?_,fun i j x y hij hx hy=>?_,h4⟩,fun h=>⟨fun i _ hi x hx=>⟨h.n x (List.mem_of_getElem? hx),fun j y e hy=>h.lt j i y x (by omega) hy hx⟩,h.dep⟩⟩⟩
  ·obtain ⟨i,hi⟩:=List.getElem?_of_mem hx;exact (h3 i (Nat.zero_le _) (List.getElem?_eq_some_iff.1 hi).1 x hi).1
  ·exact vt (fun i hi=>h3 i (Nat.zero_le _) hi) (j - i - 1) i j x y (by omega) hx hy
 ·rw [if_pos (by simp;omega)];exact ⟨2,rfl,fun h=>by omega,fun h=>absurd h.len hl⟩
theorem rR (l:List Keyed) (key:Int) (hl:l.length<=6) (hs:∀ (i j:Nat) x y,i<j->l[i]?=some x->l[j]?=some y->x.Key<y.Key) :
    ∃ (i:Nat) (b:Bool),kj l key=some ((i:Int),b)/\i<=l.length/\(∀ t x,t<i->l[t]?=some x->x.Key<key)/\(∀ t x,i<=t->l[t]?=some x->key<=x.Key)/\(b=true ↔ ∃ x,l[i]?=some x/\x.Key=key):=by
  unfold kj
  obtain ⟨r,h1,i,h2,h3,h4,h5,h6⟩:=lx (body:=fun ss:Int × Int=>ki l key ss.1 ss.2)
    (fun s=>(0<=s.1/\s.1<=s.2/\s.2<=(l.length:Int))/\(∀ (t:Nat) (x:Keyed),(t:Int)<s.1->l[t]?=some x->x.Key<key)/\(∀ (t:Nat) (x:Keyed),s.2<=(t:Int)->l[t]?=some x->key<=x.Key)) (fun s=>(s.2 - s.1).toNat)
    (fun r=>∃ i:Nat,r.1=(i:Int)/\i<=l.length/\(∀ t x,t<i->l[t]?=some x->x.Key<key)/\(∀ t x,i<=t->l[t]?=some x->key<=x.Key)/\(r.2=true ↔ ∃ x,l[i]?=some x/\x.Key=key)) (fun s hs0=>by
      obtain ⟨s1,s2⟩:=s;simp only at hs0 ⊢;obtain ⟨hb,ha,hc⟩:=hs0;unfold ki;by_cases hlt:s1<s2
      · rw [if_pos (by simpa using hlt)];have e1:shr .u64 (IntKind.u64.wrap (IntKind.i64.wrap (s1+s2))) 1=some ((s1+s2) / 2):=by
          rw [bl (by omega) (by omega),IntWalk.u64_in _ ⟨by omega,by omega⟩];unfold shr;rw [if_pos (by decide)];congr 1;show (s1+s2).fdiv 2=_;rw [Int.fdiv_eq_ediv_of_nonneg _ (by decide)]
        rw [e1,Option.bind_some];obtain ⟨h,hh⟩:∃ h:Nat,(s1+s2) / 2=(h:Int):=Int.eq_ofNat_of_zero_le (by omega);have hhl:h<l.length:=by omega
        have hx:l[h]?=some l[h]:=List.getElem?_eq_getElem hhl;generalize hxv:l[h]=x at hx;have e2:IntKind.i64.wrap (h:Int)=(h:Int):=bl (by omega) (by omega);have e4:IntKind.i64.wrap ((h:Int)+1)=(h:Int)+1:=bl (by omega) (by omega);rw [hh,e2,aN hx,Option.bind_some,vW,Option.bind_some,e4];refine .inl ?_;by_cases hk:x.Key<key
        · rw [if_pos hk];refine ⟨((h:Int)+1,s2),rfl,⟨⟨by show 0<=(h:Int)+1;omega,by show (h:Int)+1<=s2;omega,hb.2.2⟩,fun t y ht hy=>?_,hc⟩,by show (s2 - ((h:Int)+1)).toNat<(s2 - s1).toNat;omega⟩;have ht:(t:Int)<(h:Int)+1:=ht;by_cases e:t=h
          · subst e;rw [hx] at hy;cases hy;exact hk
          · have:=hs t h y x (by omega) hy hx;omega
        · have e5:(if decide ((if x.Key<key then (-1:Int) else if x.Key > key then 1 else 0)<0)=true then (some (.inl ((h:Int)+1,s2)):Option ((Int × Int) ⊕ (Int × Bool))) else some (.inl (s1,(h:Int))))=some (.inl (s1,(h:Int))):=by
            rw [if_neg hk];split<;>rfl
          refine ⟨(s1,(h:Int)),e5,⟨⟨hb.1,by show s1<=(h:Int);omega,by show (h:Int)<=_;omega⟩,ha,fun t y ht hy=>?_⟩,by show ((h:Int) - s1).toNat<(s2 - s1).toNat;omega⟩;have ht:(h:Int)<=(t:Int):=ht;by_cases e:t=h
          · subst e;rw [hx] at hy;cases hy;omega
          · have:=hs h t x y (by omega) hx hy;omega
      · rw [if_neg (by simpa using hlt)];refine .inr ?_;obtain ⟨k,rfl⟩:=Int.eq_ofNat_of_zero_le hb.1;have hk2:s2=(k:Int):=by omega
        subst hk2;by_cases hk:k<l.length
        · have hx:l[k]?=some l[k]:=List.getElem?_eq_getElem hk;generalize hxv:l[k]=x at hx;rw [if_pos (by simp;omega),aN hx,Option.bind_some,vW];refine ⟨_,rfl,k,rfl,by omega,fun t y ht hy=>ha t y (by omega) hy,fun t y ht hy=>hc t y (by omega) hy,?_⟩;have:=hc k x (by omega) hx;simp only [hx,Option.some.injEq,exists_eq_left'];by_cases e:x.Key=key
          · simp [e]
          · have h1:¬ x.Key<key:=by omega
            have h2:x.Key > key:=by omega
            simp [h1,h2,e]
        · rw [if_neg (by simp;omega)];refine ⟨_,rfl,k,rfl,by omega,fun t y ht hy=>ha t y (by omega) hy,fun t y ht hy=>hc t y (by omega) hy,?_⟩;rw [List.getElem?_eq_none (by omega)];simp) _ (0,(l.length:Int)) (Nat.le_refl _) ⟨by simp,fun t x ht=>by
            have ht:(t:Int)<0:=ht;omega,fun t x ht hx=>by
            have ht:(l.length:Int)<=(t:Int):=ht;have:=(List.getElem?_eq_some_iff.1 hx).1;omega⟩
  obtain ⟨r1,r2⟩:=r
  simp only at h2
  subst h2
  exact ⟨i,r2,h1,h3,h4,h5,h6⟩
theorem Bb (l t:List Keyed) (hl:l.length<=12) (hp:t.Perm l) (hs:t.Pairwise (fun a b=>a.Key<b.Key)):sortK l=some t:=by
 unfold sortK;split
 ·rename_i h1;match l,hp,h1 with
  | [],hp,_=>rw [List.perm_nil.1 hp]
  | [a],hp,_=>rw [List.perm_singleton.1 hp]
 ·congr 1;have swo:Sort.SWO ltK:=⟨fun x=>by simp [ltK],fun x y z h1 h2=>by simp [ltK] at *;omega,fun x y z h1 h2=>by simp [ltK] at *;omega⟩
  obtain ⟨⟨hsz,_,hperm⟩,hsort⟩:=Sort.insertionSort_holds swo l.toArray 0 l.toArray.size (Nat.zero_le _) (Nat.le_refl _);generalize hD:Sort.insertionSort ltK l.toArray 0 l.toArray.size=D at hsz hperm hsort;have hpl:D.toList.Perm l:=by
   rw [<- hsz,Array.extract_size] at hperm;rw [hsz,Array.extract_size] at hperm;exact hperm
  have hpt:D.toList.Perm t:=hpl.trans hp.symm;have hnd:(D.toList.map (·.Key)).Nodup:=by
   have h1:(t.map (·.Key)).Nodup:=by
    unfold List.Nodup;rw [List.pairwise_map];exact hs.imp (fun h=>by omega)
   exact ((hpt.map _).nodup_iff).2 h1
  refine List.Perm.eq_of_pairwise (le:=fun a b=>a.Key<b.Key) (fun a b _ _ h1 h2=>by omega) ?_ hs hpt;rw [List.pairwise_iff_getElem];intro i j hi hj hij;have h1:=hsort i j (Nat.zero_le _) hij (by simpa [hsz] using hj);have hi':i<D.size:=by simpa using hi
  have hj':j<D.size:=by simpa using hj
  rw [getElem!_pos D i hi',getElem!_pos D j hj'] at h1;simp only [ltK,decide_eq_false_iff_not] at h1;have h2:D.toList[i].Key≠D.toList[j].Key:=by
   unfold List.Nodup at hnd;rw [List.pairwise_map,List.pairwise_iff_getElem] at hnd;exact hnd i j hi hj hij
  simp only [Array.getElem_toList] at h2 ⊢;omega
theorem sD (m:Memory) (x:Item) (hl:m.Keys.length<=6) (i:Nat) (fd:Bool) (h1:∀ t y,t<i->m.Keys[t]?=some y->y.Key<x.Key) (h2:∀ t y,i<=t->m.Keys[t]?=some y->x.Key<=y.Key)
  (h3:fd=true ↔ ∃ y,m.Keys[i]?=some y/\y.Key=x.Key) (hs:∀ (i j:Nat) x y,i<j->m.Keys[i]?=some x->m.Keys[j]?=some y->x.Key<y.Key):∀ (n k:Nat),k+n=m.Keys.length ->
  iter (fun ss:Int × Int=>dA m m.Keys x ss.1 ss.2) ((if fd=true/\i<k then (i:Int) else -1),(k:Int))=iter (fun ss:Int × Int=>dA m m.Keys x ss.1 ss.2) ((if fd=true then (i:Int) else -1),(m.Keys.length:Int))
 | 0,k,h=>by
  have hk:k=m.Keys.length:=by omega
  subst hk;by_cases hf:fd=true
  ·obtain ⟨y,hy,_⟩:=h3.1 hf;have:=(List.getElem?_eq_some_iff.1 hy).1;rw [if_pos ⟨hf,this⟩,if_pos hf]
  ·rw [if_neg (fun e=>hf e.1),if_neg hf]
 | n + 1,k,h=>by
  have hk:k<m.Keys.length:=by omega
  have hy:m.Keys[k]?=some m.Keys[k]:=List.getElem?_eq_getElem hk;generalize hyv:m.Keys[k]=y at hy;have e:dA m m.Keys x (if fd=true/\i<k then (i:Int) else -1) (k:Int)=some (.inl ((if fd=true/\i<k+1 then (i:Int) else -1),((k+1:Nat):Int))):=by
   unfold dA;rw [if_pos (by simp;omega),bd hk,Option.bind_some,hy,Option.bind_some,aJ (by omega)];by_cases hkey:y.Key=x.Key
   ·have hik:i=k:=by
     rcases Nat.lt_trichotomy k i with h4 | h4 | h4
     ·have:=h1 k y h4 hy;omega
     ·omega
     ·have hz:m.Keys[i]?=some m.Keys[i]:=List.getElem?_eq_getElem (by omega);have h5:=h2 i _ (Nat.le_refl _) hz;have h6:=hs i k _ y h4 hz hy;omega
    subst hik;have hf:fd=true:=h3.2 ⟨y,hy,hkey⟩;rw [if_pos (by simpa using hkey),if_pos ⟨hf,by omega⟩]
   ·rw [if_neg (by simpa using hkey)];have:(fd=true/\i<k+1) ↔ (fd=true/\i<k):=by
     constructor
     ·rintro ⟨hf,h4⟩;refine ⟨hf,?_⟩;rcases Nat.lt_or_ge i k with h5 | h5
      ·exact h5
      ·have:i=k:=by omega
       subst this;obtain ⟨z,hz,hz2⟩:=h3.1 hf;rw [hy] at hz;cases hz;exact absurd hz2 hkey
     ·rintro ⟨hf,h4⟩;exact ⟨hf,by omega⟩
    simp only [this]
  rw [an];simp only [e];exact sD m x hl i fd h1 h2 h3 hs n (k+1) (by omega)
inductive StepR (k f:Int) (m:Memory) (x:Item):Memory × Item × Int->Prop
 | err (e:Int) (h:e≠0):StepR k f m x (⟨0,[],0⟩,⟨0,0,0⟩,e)
 | same (s d:Int) (y:Item) (hd:0<=d):StepR k f m x (⟨s,m.Keys,d⟩,y,0)
 | inc (i:Nat) (v:Keyed) (d:Int) (y:Item) (hi:m.Keys[i]?=some v) (hd:0<=d):StepR k f m x (⟨m.Sum,m.Keys.set i ⟨v.Key,IntKind.i64.wrap (v.N+1)⟩,d⟩,y,0)
 | ins (i:Nat) (d:Int) (y:Item) (hd:0<=d) (hl:m.Keys.length<6) (hi:i<=m.Keys.length) (h1:∀ t z,t<i->m.Keys[t]?=some z->z.Key<x.Key) (h2:∀ t z,i<=t->m.Keys[t]?=some z->x.Key<z.Key):StepR k f m x (⟨m.Sum,m.Keys.take i++⟨x.Key,1⟩::m.Keys.drop i,d⟩,y,0)
theorem zT (k f:Int) (m:Memory) (x:Item) (ok:okM m) (hx:0<=x.Dep):∃ R,d7 k f m x=some R/\hT k f m x=some R/\StepR k f m x R:=by
 obtain ⟨c,hc,hc2⟩:=oZ m;have hc0:=hc2.2 ok;subst hc0;have hap:app [] m.Keys=some m.Keys:=by rw [bB (by have:=ok.len;simp;omega)];rfl
 have hcl:f0 m.Keys=some m.Keys:=hap;have hco:fv m=some m:=by unfold fv;rw [hcl];rfl
 have hdp:0<=(if x.Dep > m.Dep then x.Dep else m.Dep):=by have:=ok.dep;split<;>omega
 have hnd:¬ decide (x.Dep<0)=true:=by simpa using hx
 unfold d7 hT;rw [hc,Option.bind_some,if_neg (by simp),if_neg hnd,hco,Option.bind_some,hap,Option.bind_some];by_cases k2:k=2
 ·subst k2;rw [if_pos (show ((2:Int)==2)=true from rfl),if_pos (show ((2:Int)==2)=true from rfl)];by_cases hf:0<=f/\f<=3
  ·rw [if_neg (by simp;omega)];have:f=0∨f=1∨f=2∨f=3:=by omega
   rcases this with rfl | rfl | rfl | rfl
   ·exact ⟨_,rfl,rfl,.same _ _ _ ok.dep⟩
   ·refine ⟨_,rfl,?_,.same _ _ _ ok.dep⟩;rw [Int.two_mul];rfl
   ·exact ⟨_,rfl,rfl,.same _ _ _ ok.dep⟩
   ·exact ⟨_,rfl,rfl,.same _ _ _ ok.dep⟩
  ·rw [if_pos (by simp;omega),if_neg (by simp;omega),if_neg (by simp;omega),if_neg (by simp;omega),if_neg (by simp;omega)];exact ⟨_,rfl,rfl,.err 3 (by decide)⟩
 ·have n2 : ¬ (k==2)=true:=by simpa using k2
  rw [if_neg n2,if_neg n2];by_cases k3:k=3
  ·subst k3;rw [if_pos (show ((3:Int)==3)=true from rfl),if_pos (show ((3:Int)==3)=true from rfl)];exact ⟨_,rfl,rfl,.same _ _ _ hdp⟩
  ·have n3 : ¬ (k==3)=true:=by simpa using k3
   rw [if_neg n3,if_neg n3];by_cases k4:k=4
   ·subst k4;rw [if_pos (show ((4:Int)==4)=true from rfl),if_pos (show ((4:Int)==4)=true from rfl)];obtain ⟨i,b,hs,hi,h1,h2,h3⟩:=rR m.Keys x.Key ok.len ok.lt;have hlp:=sD m x ok.len i b h1 h2 h3 ok.lt m.Keys.length 0 (by omega);rw [if_neg (by omega)] at hlp;rw [hs,Option.bind_some];rw [show ((0:Nat):Int)=0 from rfl] at hlp;rw [hlp,an];cases b with
    | true =>
     obtain ⟨v,hv,hvk⟩:=h3.1 rfl;have hil:=(List.getElem?_eq_some_iff.1 hv).1;rw [if_neg (by simp),if_neg (by simp)];have hset:i<(m.Keys.set i (⟨v.Key,IntKind.i64.wrap (v.N+1)⟩:Keyed)).length:=by simpa using hil
     have hsg:(m.Keys.set i (⟨v.Key,IntKind.i64.wrap (v.N+1)⟩:Keyed))[i]?=some ⟨v.Key,IntKind.i64.wrap (v.N+1)⟩:=by simp [hil]
     refine ⟨(⟨m.Sum,m.Keys.set i ⟨v.Key,IntKind.i64.wrap (v.N+1)⟩,if x.Dep > m.Dep then x.Dep else m.Dep⟩,⟨x.Key,IntKind.i64.wrap (v.N+1),if x.Dep > m.Dep then x.Dep else m.Dep⟩,0),?_,?_,.inc i v _ _ hv hdp⟩
     ·unfold fq;simp only [bd hil,Option.bind_some,hv,bd hset,hsg]
     ·have e:dA m m.Keys x (if True then (i:Int) else -1) (m.Keys.length:Int)=some (.inr (⟨m.Sum,m.Keys.set i ⟨v.Key,IntKind.i64.wrap (v.N+1)⟩,if x.Dep > m.Dep then x.Dep else m.Dep⟩,⟨x.Key,IntKind.i64.wrap (v.N+1),if x.Dep > m.Dep then x.Dep else m.Dep⟩,0)):=by
       unfold dA;rw [if_pos trivial,if_neg (by simp),if_pos (by simp)];simp only [bd hil,Option.bind_some,hv,bd hset,hsg];rfl
      simp only [e]
    | false =>
     have hnf:∀ t z,i<=t->m.Keys[t]?=some z->x.Key<z.Key:=fun t z ht hz=>by
      have h4:=h2 t z ht hz;rcases Int.lt_or_eq_of_le h4 with h5 | h5
      ·exact h5
      ·exfalso;by_cases e:t=i
       ·subst e;exact absurd (h3.2 ⟨z,hz,h5.symm⟩) (by decide)
       ·have hil:i<m.Keys.length:=by have:=(List.getElem?_eq_some_iff.1 hz).1;omega
        have hy:m.Keys[i]?=some m.Keys[i]:=List.getElem?_eq_getElem hil;have h6:=h2 i _ (Nat.le_refl _) hy;have h7:=ok.lt i t _ z (by omega) hy hz;omega
     by_cases h6:m.Keys.length=6
     ·rw [if_pos (by simp;omega)];refine ⟨_,rfl,?_,.same _ _ _ hdp⟩;have e:dA m m.Keys x (if False then (i:Int) else -1) (m.Keys.length:Int)=some (.inr (⟨m.Sum,m.Keys,if x.Dep > m.Dep then x.Dep else m.Dep⟩,⟨x.Key,0,if x.Dep > m.Dep then x.Dep else m.Dep⟩,0)):=by
       unfold dA;rw [if_neg (fun h:False=>h),if_neg (by simp),if_neg (by simp),if_neg (by simp;omega)];rfl
      simp only [Bool.false_eq_true,e]
     ·have hl6:m.Keys.length<6:=by have:=ok.len;omega
      rw [if_neg (by simp;omega),if_pos (by simp)];have hin:=vB (m.Keys.take i) (m.Keys.drop i) (⟨x.Key,0⟩:Keyed) (by simp;omega);have hti:(m.Keys.take i).length=i:=by simp;omega
      rw [List.take_append_drop,hti] at hin;have hset:∀ a b:Keyed,(m.Keys.take i++a::m.Keys.drop i).set i b=m.Keys.take i++b::m.Keys.drop i:=fun a b=>by
       rw [List.set_append_right _ _ (by omega),hti,Nat.sub_self];rfl
      have hget:∀ a:Keyed,(m.Keys.take i++a::m.Keys.drop i)[i]?=some a:=fun a=>by
       rw [List.getElem?_append_right (by omega),hti,Nat.sub_self];rfl
      have hlen:∀ a:Keyed,i<(m.Keys.take i++a::m.Keys.drop i).length:=fun a=>by simp;omega
      have hw:IntKind.i64.wrap ((0:Int)+1)=1:=rfl;refine ⟨(⟨m.Sum,m.Keys.take i++⟨x.Key,1⟩::m.Keys.drop i,if x.Dep > m.Dep then x.Dep else m.Dep⟩,⟨x.Key,1,if x.Dep > m.Dep then x.Dep else m.Dep⟩,0),?_,?_,.ins i _ _ hdp hl6 hi h1 hnf⟩
      ·simp only;rw [hin,Option.bind_some];unfold fq;simp only [bd (hlen _),Option.bind_some,hget,hset,hw]
      ·have hsort:sortK (m.Keys++[(⟨x.Key,1⟩:Keyed)])=some (m.Keys.take i++⟨x.Key,1⟩::m.Keys.drop i):=by
        refine Bb _ _ (by simp;omega) ?_ ?_
        ·refine List.perm_middle.trans ?_;rw [List.take_append_drop];exact (List.perm_append_singleton _ _).symm
        ·rw [List.pairwise_append,List.pairwise_cons];have hpw:m.Keys.Pairwise (fun a b=>a.Key<b.Key):=by
          rw [List.pairwise_iff_getElem];exact fun a b ha hb hab=>ok.lt a b _ _ hab (List.getElem?_eq_getElem ha) (List.getElem?_eq_getElem hb)
         refine ⟨hpw.sublist (List.take_sublist _ _),⟨fun z hz=>?_,hpw.sublist (List.drop_sublist _ _)⟩,fun a ha b hb=>?_⟩
         ·obtain ⟨t,ht⟩:=List.getElem?_of_mem hz;rw [List.getElem?_drop] at ht;exact hnf (i+t) z (by omega) ht
         ·obtain ⟨t,ht⟩:=List.getElem?_of_mem ha;rw [List.getElem?_take] at ht;split at ht
          ·rename_i hti2;have h7:=h1 t a hti2 ht;rcases List.mem_cons.1 hb with rfl | hb
           ·exact h7
           ·obtain ⟨t2,ht2⟩:=List.getElem?_of_mem hb;rw [List.getElem?_drop] at ht2;have h8:=hnf (i+t2) b (by omega) ht2;omega
          ·cases ht
       have e:dA m m.Keys x (if False then (i:Int) else -1) (m.Keys.length:Int)=some (.inr (⟨m.Sum,m.Keys.take i++⟨x.Key,1⟩::m.Keys.drop i,if x.Dep > m.Dep then x.Dep else m.Dep⟩,⟨x.Key,1,if x.Dep > m.Dep then x.Dep else m.Dep⟩,0)):=by
        unfold dA;rw [if_neg (fun h:False=>h),if_neg (by simp),if_neg (by simp),if_pos (by simp;omega),bB (by simp;omega),Option.bind_some];unfold om;rw [hsort];rfl
       simp only [Bool.false_eq_true,e]
   ·have n4:¬ (k==4)=true:=by simpa using k4
    rw [if_neg n4,if_neg n4];have sm:StepR k f m x (m,x,0):=.same m.Sum m.Dep x ok.dep;by_cases hk:k=1∨k=5∨k=6∨k=7∨k=8
    ·rcases hk with rfl | rfl | rfl | rfl | rfl<;>exact ⟨_,rfl,rfl,sm⟩
    ·have n1:¬ (k==1)=true:=by simp;omega
     have n5:¬ (k==5)=true:=by simp;omega
     have n6:¬ (k==6)=true:=by simp;omega
     have n7:¬ (k==7)=true:=by simp;omega
     have n8:¬ (k==8)=true:=by simp;omega
     rw [if_neg n1,if_neg n5,if_neg n6,if_neg n7,if_neg n8];exact ⟨_,rfl,rfl,.err 5 (by decide)⟩
theorem As {l:List Keyed} (h:l.Pairwise (fun a b=>a.Key<b.Key)):∀ (i j:Nat) x y,i<j->l[i]?=some x->l[j]?=some y->x.Key<y.Key:=fun i j x y hij hx hy=>by
 obtain ⟨hi,rfl⟩:=List.getElem?_eq_some_iff.1 hx;obtain ⟨hj,rfl⟩:=List.getElem?_eq_some_iff.1 hy;exact List.pairwise_iff_getElem.1 h i j hi hj hij
theorem DL {l:List Keyed} {i:Nat} {key:Int} (hlt:∀ (i j:Nat) x y,i<j->l[i]?=some x->l[j]?=some y->x.Key<y.Key) (h1:∀ t z,t<i->l[t]?=some z->z.Key<key) (h2:∀ t z,i<=t->l[t]?=some z->key<z.Key) :
  (l.take i++(⟨key,1⟩:Keyed)::l.drop i).Pairwise (fun a b=>a.Key<b.Key):=by
 rw [List.pairwise_append,List.pairwise_cons]
 have hpw:l.Pairwise (fun a b=>a.Key<b.Key):=by
  rw [List.pairwise_iff_getElem];exact fun a b ha hb hab=>hlt a b _ _ hab (List.getElem?_eq_getElem ha) (List.getElem?_eq_getElem hb)
 refine ⟨hpw.sublist (List.take_sublist _ _),⟨fun z hz=>?_,hpw.sublist (List.drop_sublist _ _)⟩,fun a ha b hb=>?_⟩
 ·obtain ⟨t,ht⟩:=List.getElem?_of_mem hz
  rw [List.getElem?_drop] at ht
  exact h2 (i+t) z (by omega) ht
 ·obtain ⟨t,ht⟩:=List.getElem?_of_mem ha
  rw [List.getElem?_take] at ht
  split at ht
  ·rename_i hti
   have h7:=h1 t a hti ht
   rcases List.mem_cons.1 hb with rfl | hb
   ·exact h7
   ·obtain ⟨t2,ht2⟩:=List.getElem?_of_mem hb
    rw [List.getElem?_drop] at ht2
    have h8:=h2 (i+t2) b (by omega) ht2
    omega
  ·cases ht
theorem A7 {k f:Int} {m:Memory} {x:Item} {R:Memory × Item × Int} (h:StepR k f m x R) (ok:okM m) (B:Int) (h0:0<=B) (hB:∀ y,y∈m.Keys->y.N<=B) (hB2:B<4611686018427387904) (hR:R.2.2=0):okM R.1/\∀ y,y∈R.1.Keys->y.N<=B+1:=by
 cases h with
 | err e he=>exact absurd hR he
 | same s d y hd=>exact ⟨⟨ok.len,ok.n,ok.lt,hd⟩,fun y hy=>by have:=hB y hy;omega⟩
 | inc i v d y hi hd =>
  have hv:=List.mem_of_getElem? hi;have hv1:=ok.n v hv;have hv2:=hB v hv;have hw:IntKind.i64.wrap (v.N+1)=v.N+1:=bl (by omega) (by omega);have hget:∀ (a:Nat) (z:Keyed),(m.Keys.set i ⟨v.Key,IntKind.i64.wrap (v.N+1)⟩)[a]?=some z->∃ z',m.Keys[a]?=some z'/\z'.Key=z.Key:=fun a z hz=>by
   rw [List.getElem?_set] at hz;split at hz
   ·rename_i e;subst e;split at hz
    ·cases hz;exact ⟨v,hi,rfl⟩
    ·cases hz
   ·exact ⟨z,hz,rfl⟩
  refine ⟨⟨by simpa using ok.len,fun z hz=>?_,fun a b z1 z2 hab hz1 hz2=>?_,hd⟩,fun z hz=>?_⟩
  ·rcases List.mem_or_eq_of_mem_set hz with h1 | h1
   ·exact ok.n z h1
   ·subst h1;rw [hw];show 1<=v.N+1;omega
  ·obtain ⟨w1,e1,e2⟩:=hget a z1 hz1;obtain ⟨w2,e3,e4⟩:=hget b z2 hz2;have:=ok.lt a b w1 w2 hab e1 e3;omega
  ·rcases List.mem_or_eq_of_mem_set hz with h1 | h1
   ·have:=hB z h1;omega
   ·subst h1;rw [hw];show v.N+1<=B+1;omega
 | ins i d y hd hl hi h1 h2 =>
  have hm:∀ z,z∈m.Keys.take i++(⟨x.Key,1⟩:Keyed)::m.Keys.drop i->z∈m.Keys∨z.N=1:=fun z hz=>by
   rcases List.mem_append.1 hz with h3 | h3
   ·exact .inl (List.mem_of_mem_take h3)
   ·rcases List.mem_cons.1 h3 with h3 | h3
    ·exact .inr (by rw [h3])
    ·exact .inl (List.mem_of_mem_drop h3)
  refine ⟨⟨by simp;omega,fun z hz=>?_,As (DL ok.lt h1 h2),hd⟩,fun z hz=>?_⟩
  ·rcases hm z hz with h3 | h3
   ·exact ok.n z h3
   ·omega
  ·rcases hm z hz with h3 | h3
   ·have:=hB z h3;omega
   ·omega
def maxD (a b:Int):Int:=if b > a then b else a
def mapP (f:Int) (x:Item):Int:=if f=0 then IntKind.i64.wrap (x.Val+1) else if f=1 then IntKind.i64.wrap (2*x.Val) else if f=2 then IntKind.i64.wrap (0 - x.Val) else IntKind.i64.wrap (x.Val+x.Key)
def lowN (key:Int):List Keyed->Nat
 | []=>0
 | y::ys=>if y.Key<key then lowN key ys+1 else 0
def newK (key:Int) (l:List Keyed):List Keyed × Int:=if l.length=6 then (l,0) else (l.take (lowN key l)++⟨key,1⟩::l.drop (lowN key l),1)
def cntP (key:Int) (l:List Keyed):List Keyed × Int :=
 match l[lowN key l]? with
 | some y=>if y.Key=key then (l.set (lowN key l) ⟨y.Key,IntKind.i64.wrap (y.N+1)⟩,IntKind.i64.wrap (y.N+1)) else newK key l
 | none=>newK key l
def bX (k f:Int) (m:Memory) (x:Item):Memory × Item :=
 if k=2 then (m,⟨x.Key,mapP f x,x.Dep⟩)
 else if k=3 then (⟨IntKind.i64.wrap (m.Sum+x.Val),m.Keys,maxD m.Dep x.Dep⟩,⟨x.Key,IntKind.i64.wrap (m.Sum+x.Val),maxD m.Dep x.Dep⟩)
 else if k=4 then (⟨m.Sum,(cntP x.Key m.Keys).1,maxD m.Dep x.Dep⟩,⟨x.Key,(cntP x.Key m.Keys).2,maxD m.Dep x.Dep⟩)
 else (m,x)
def iO (k f:Int):Prop:=1<=k/\k<=8/\(k=2->0<=f/\f<=3)
theorem vi {key:Int}:∀ {l:List Keyed} {i:Nat},i<=l.length->(∀ t x,t<i->l[t]?=some x->x.Key<key)->(∀ t x,i<=t->l[t]?=some x->key<=x.Key)->lowN key l=i
 | [],i,hi,_,_=>by simp at hi;subst hi;rfl
 | y::ys,0,hi,h1,h2=>by
  have:=h2 0 y (Nat.le_refl _) rfl;unfold lowN;rw [if_neg (by omega)]
 | y::ys,i+1,hi,h1,h2=>by
  have:=h1 0 y (by omega) rfl;unfold lowN;rw [if_pos this,vi (i:=i) (by simpa using hi) (fun t x ht hx=>h1 (t+1) x (by omega) (by simpa using hx)) (fun t x ht hx=>h2 (t+1) x (by omega) (by simpa using hx))]
theorem uA (k f:Int) (m:Memory) (x:Item) (ok:okM m) (hx:0<=x.Dep) (hk:iO k f):d7 k f m x=some ((bX k f m x).1,(bX k f m x).2,0)/\StepR k f m x ((bX k f m x).1,(bX k f m x).2,0):=by
 obtain ⟨c,hc,hc2⟩:=oZ m;have hc0:=hc2.2 ok;subst hc0;have hap:app [] m.Keys=some m.Keys:=by rw [bB (by have:=ok.len;simp;omega)];rfl
 have hcl:f0 m.Keys=some m.Keys:=hap;have hco:fv m=some m:=by unfold fv;rw [hcl];rfl
 have hnd:¬ decide (x.Dep<0)=true:=by simpa using hx
 have hdp:0<=maxD m.Dep x.Dep:=by have:=ok.dep;unfold maxD;split<;>omega
 unfold d7;rw [hc,Option.bind_some,if_neg (by simp),if_neg hnd,hco,Option.bind_some];by_cases k2:k=2
 ·subst k2;rw [if_pos (show ((2:Int)==2)=true from rfl)];have hf:=hk.2.2 rfl;rw [if_neg (by simp;omega)];have:f=0∨f=1∨f=2∨f=3:=by omega
  rcases this with rfl | rfl | rfl | rfl<;>exact ⟨rfl,.same _ _ _ ok.dep⟩
 ·have n2:¬ (k==2)=true:=by simpa using k2
  rw [if_neg n2];by_cases k3:k=3
  ·subst k3;rw [if_pos (show ((3:Int)==3)=true from rfl)];exact ⟨rfl,.same _ _ _ hdp⟩
  ·have n3:¬ (k==3)=true:=by simpa using k3
   rw [if_neg n3];by_cases k4:k=4
   ·subst k4;rw [if_pos (show ((4:Int)==4)=true from rfl)];obtain ⟨i,b,hs,hi,h1,h2,h3⟩:=rR m.Keys x.Key ok.len ok.lt;have hlow:=vi hi h1 h2;have hP:bX 4 f m x=(⟨m.Sum,(cntP x.Key m.Keys).1,maxD m.Dep x.Dep⟩,⟨x.Key,(cntP x.Key m.Keys).2,maxD m.Dep x.Dep⟩):=rfl;rw [hs,Option.bind_some,hP];cases b with
    | true =>
     obtain ⟨v,hv,hvk⟩:=h3.1 rfl;have hil:=(List.getElem?_eq_some_iff.1 hv).1;have hcp:cntP x.Key m.Keys=(m.Keys.set i ⟨v.Key,IntKind.i64.wrap (v.N+1)⟩,IntKind.i64.wrap (v.N+1)):=by
      unfold cntP;rw [hlow,hv];simp only;rw [if_pos hvk]
     rw [if_neg (by simp),if_neg (by simp),hcp];have hset:i<(m.Keys.set i (⟨v.Key,IntKind.i64.wrap (v.N+1)⟩:Keyed)).length:=by simpa using hil
     have hsg:(m.Keys.set i (⟨v.Key,IntKind.i64.wrap (v.N+1)⟩:Keyed))[i]?=some ⟨v.Key,IntKind.i64.wrap (v.N+1)⟩:=by simp [hil]
     refine ⟨?_,.inc i v _ _ hv hdp⟩;unfold fq;simp only [bd hil,Option.bind_some,hv,bd hset,hsg];rfl
    | false =>
     have hcn:cntP x.Key m.Keys=newK x.Key m.Keys:=by
      unfold cntP;rw [hlow];cases hv:m.Keys[i]? with
      | none=>rfl
      | some v =>
       simp only;rw [if_neg (fun e=>absurd (h3.2 ⟨v,hv,e⟩) (by decide))]
     rw [hcn];by_cases h6:m.Keys.length=6
     ·rw [if_pos (by simp;omega)];unfold newK;rw [if_pos h6];exact ⟨rfl,.same _ _ _ hdp⟩
     ·have hl6:m.Keys.length<6:=by have:=ok.len;omega
      rw [if_neg (by simp;omega),if_pos (by simp)];have hin:=vB (m.Keys.take i) (m.Keys.drop i) (⟨x.Key,0⟩:Keyed) (by simp;omega);have hti:(m.Keys.take i).length=i:=by simp;omega
      rw [List.take_append_drop,hti] at hin;have hset:∀ a b:Keyed,(m.Keys.take i++a::m.Keys.drop i).set i b=m.Keys.take i++b::m.Keys.drop i:=fun a b=>by
       rw [List.set_append_right _ _ (by omega),hti,Nat.sub_self];rfl
      have hget:∀ a:Keyed,(m.Keys.take i++a::m.Keys.drop i)[i]?=some a:=fun a=>by
       rw [List.getElem?_append_right (by omega),hti,Nat.sub_self];rfl
      have hlen:∀ a:Keyed,i<(m.Keys.take i++a::m.Keys.drop i).length:=fun a=>by simp;omega
      have hw:IntKind.i64.wrap ((0:Int)+1)=1:=rfl;have hnf:∀ t z,i<=t->m.Keys[t]?=some z->x.Key<z.Key:=fun t z ht hz=>by
       have h4:=h2 t z ht hz;rcases Int.lt_or_eq_of_le h4 with h5 | h5
       ·exact h5
       ·exfalso;by_cases e:t=i
        ·subst e;exact absurd (h3.2 ⟨z,hz,h5.symm⟩) (by decide)
        ·have hil:i<m.Keys.length:=by have:=(List.getElem?_eq_some_iff.1 hz).1;omega
         have hy:m.Keys[i]?=some m.Keys[i]:=List.getElem?_eq_getElem hil;have h6:=h2 i _ (Nat.le_refl _) hy;have h7:=ok.lt i t _ z (by omega) hy hz;omega
      have hnk:newK x.Key m.Keys=(m.Keys.take i++⟨x.Key,1⟩::m.Keys.drop i,1):=by unfold newK;rw [if_neg h6,hlow]
      rw [hnk];refine ⟨?_,.ins i _ _ hdp hl6 hi h1 hnf⟩;simp only;rw [hin,Option.bind_some];unfold fq;simp only [bd (hlen _),Option.bind_some,hget,hset,hw];rfl
   ·have n4:¬ (k==4)=true:=by simpa using k4
    rw [if_neg n4];have hP:bX k f m x=(m,x):=by unfold bX;rw [if_neg k2,if_neg k3,if_neg k4]
    rw [hP];have hk':k=1∨k=5∨k=6∨k=7∨k=8:=by have:=hk.1;have:=hk.2.1;omega
    rcases hk' with rfl | rfl | rfl | rfl | rfl<;>exact ⟨rfl,.same m.Sum m.Dep x ok.dep⟩
theorem pY (k f:Int) (m:Memory) (x:Item) (ok:okM m) (hx:0<=x.Dep) (hk:iO k f):d7 k f m x=some ((bX k f m x).1,(bX k f m x).2,0):=(uA k f m x ok hx hk).1
theorem BK (k f:Int) (m:Memory) (x:Item) (ok:okM m) (hx:0<=x.Dep) (hk:iO k f):StepR k f m x ((bX k f m x).1,(bX k f m x).2,0):=(uA k f m x ok hx hk).2
theorem A6 {k f:Int} {m:Memory} {x:Item} (ok:okM m) (hx:0<=x.Dep) (hk:iO k f) (B:Int) (h0:0<=B) (hB:∀ y,y∈m.Keys->y.N<=B) (hB2:B<4611686018427387904) :
 okM (bX k f m x).1/\∀ y,y∈(bX k f m x).1.Keys->y.N<=B+1:=A7 (BK k f m x ok hx hk) ok B h0 hB hB2 rfl
theorem DH (k f:Int) (m:Memory) (x:Item) (ok:okM m) (hx:0<=x.Dep) (hk:iO k f):hT k f m x=some ((bX k f m x).1,(bX k f m x).2,0):=by
 obtain ⟨R,h1,h2,_⟩:=zT k f m x ok hx;rw [pY k f m x ok hx hk] at h1;cases h1;exact h2
def deep (k:Int):Bool:=k==3 || k==4
theorem zY (k f:Int) (m:Memory) (x:Item):(bX k f m x).2.Dep=(if deep k then maxD m.Dep x.Dep else x.Dep)/\(bX k f m x).1.Dep=if deep k then maxD m.Dep x.Dep else m.Dep:=by
 unfold bX deep;by_cases h2:k=2
 ·subst h2;exact ⟨rfl,rfl⟩
 ·by_cases h3:k=3
  ·subst h3;exact ⟨rfl,rfl⟩
  ·by_cases h4:k=4
   ·subst h4;exact ⟨rfl,rfl⟩
   ·rw [if_neg h2,if_neg h3,if_neg h4];have:(k==3 || k==4)=false:=by simp [h3,h4]
    rw [this];exact ⟨rfl,rfl⟩
def stepC (k f:Int) (s:Int × List Keyed) (y:Int × Int):(Int × List Keyed) × (Int × Int) :=
 if k=2 then (s,(y.1,mapP f ⟨y.1,y.2,0⟩))
 else if k=3 then ((IntKind.i64.wrap (s.1+y.2),s.2),(y.1,IntKind.i64.wrap (s.1+y.2)))
 else if k=4 then ((s.1,(cntP y.1 s.2).1),(y.1,(cntP y.1 s.2).2))
 else (s,y)
def eraM (m:Memory):Int × List Keyed:=(m.Sum,m.Keys)
def bO (x:Item):Int × Int:=(x.Key,x.Val)
theorem Bw (k f:Int) (m:Memory) (x:Item):(eraM (bX k f m x).1,bO (bX k f m x).2)=stepC k f (eraM m) (bO x):=by
 unfold bX stepC eraM bO;by_cases h2:k=2
 ·subst h2;rfl
 ·by_cases h3:k=3
  ·subst h3;rfl
  ·by_cases h4:k=4
   ·subst h4;rfl
   ·rw [if_neg h2,if_neg h3,if_neg h4,if_neg h2,if_neg h3,if_neg h4]
def ab (n:Net) (i:Nat):Node:=n.Nodes.getD i ⟨0,0,[],[]⟩
structure RightN (n:Net):Prop where
 n1:1<=n.Nodes.length
 n2:n.Nodes.length<=12
 r1:0<=n.Rings
 r2:n.Rings<=16
 m1:1<=n.Room
 m2:n.Room<=6
 kind:∀ i,i<n.Nodes.length->iO (ab n i).Kind (ab n i).A
 a0:∀ i,i<n.Nodes.length->0<=(ab n i).A
 in1:∀ i,i<n.Nodes.length->(ab n i).Kind=1->(ab n i).In=[]
 in6:∀ i,i<n.Nodes.length->(ab n i).Kind=6->1<=(ab n i).In.length
 inx:∀ i,i<n.Nodes.length->(ab n i).Kind≠1->(ab n i).Kind≠6->(ab n i).In.length=1
 out8:∀ i,i<n.Nodes.length->(ab n i).Kind=8->(ab n i).Out=[]
 out1:∀ i,i<n.Nodes.length->(ab n i).Kind≠8->1<=(ab n i).Out.length
 outx:∀ i,i<n.Nodes.length->(ab n i).Kind≠8->(ab n i).Kind≠5->(ab n i).Kind≠7->(ab n i).Out.length=1
 inR:∀ i,i<n.Nodes.length->∀ r,r∈(ab n i).In->0<=r/\r<n.Rings
 outR:∀ i,i<n.Nodes.length->∀ r,r∈(ab n i).Out->0<=r/\r<n.Rings
 ndI:∀ i,i<n.Nodes.length->(ab n i).In.Nodup
 ndO:∀ i,i<n.Nodes.length->(ab n i).Out.Nodup
 oneI:∀ i j r,i<n.Nodes.length->j<n.Nodes.length->r∈(ab n i).In->r∈(ab n j).In->i=j
 oneO:∀ i j r,i<n.Nodes.length->j<n.Nodes.length->r∈(ab n i).Out->r∈(ab n j).Out->i=j
 toI:∀ r:Nat,(r:Int)<n.Rings->∃ i,i<n.Nodes.length/\(r:Int)∈(ab n i).In
 toO:∀ r:Nat,(r:Int)<n.Rings->∃ i,i<n.Nodes.length/\(r:Int)∈(ab n i).Out
 sink:∃ s,s<n.Nodes.length/\(ab n s).Kind=8
 sink1:∀ i j,i<n.Nodes.length->j<n.Nodes.length->(ab n i).Kind=8->(ab n j).Kind=8->i=j
 ord:∃ pos:Nat->Nat,(∀ i,i<n.Nodes.length->pos i<n.Nodes.length)/\(∀ i j,i<n.Nodes.length->j<n.Nodes.length->pos i=pos j->i=j)/\∀ i j r,i<n.Nodes.length->j<n.Nodes.length->r∈(ab n i).Out->r∈(ab n j).In->pos i<pos j
structure RightS (n:Net) (items:List (List Item)):Prop extends RightN n where
 l4:items.length<=4
 l20:∀ (a:Nat) (l:List Item),items[a]?=some l->l.length<=20
 dep0:∀ (a:Nat) (l:List Item) (x:Item),items[a]?=some l->x∈l->x.Dep=0
 srcA:∀ i,i<n.Nodes.length->(ab n i).Kind=1->(ab n i).A<items.length
 src1:∀ i j,i<n.Nodes.length->j<n.Nodes.length->(ab n i).Kind=1->(ab n j).Kind=1->(ab n i).A=(ab n j).A->i=j
theorem eH {n:Net} {i:Nat} (h:i<n.Nodes.length):n.Nodes[i]?=some (ab n i):=by
 unfold ab;rw [List.getD_eq_getElem?_getD,List.getElem?_eq_getElem h];rfl
theorem zA {x:Node} (h:cZ x=0):iO x.Kind x.A/\0<=x.A/\(x.Kind=1->x.In=[])/\(x.Kind=6->1<=x.In.length)/\(x.Kind≠1->x.Kind≠6->x.In.length=1)/\(x.Kind=8->x.Out=[])/\(x.Kind≠8->1<=x.Out.length) /\
  (x.Kind≠8->x.Kind≠5->x.Kind≠7->x.Out.length=1):=by
 unfold cZ at h
 split at h
 ·exact absurd h (by decide)
 ·rename_i i o har
  split at h
  ·exact absurd h (by decide)
  ·rename_i hf
   split at h
   ·exact absurd h (by decide)
   ·rename_i hb
    have hfi:bH x.In.length i=true/\bH x.Out.length o=true:=by
     cases h1:bH x.In.length i<;>cases h2:bH x.Out.length o<;>simp [h1,h2] at hf<;>exact ⟨rfl,rfl⟩
    have h1:=of_decide_eq_true hfi.1
    have h2:=of_decide_eq_true hfi.2
    have h3:¬ (x.A<0∨x.Kind=1/\4<=x.A∨x.Kind=2/\3<x.A∨x.Kind≠1/\x.Kind≠2/\x.A≠0):=fun e=>hb (by unfold badA;exact decide_eq_true e)
    unfold cW at har
    have hz:∀ l:List Int,(l.length:Int)=0->l=[]:=fun l hl=>List.eq_nil_of_length_eq_zero (by omega)
    split at har
    ·cases har;rename_i hk
     exact ⟨⟨by omega,by omega,by omega⟩,by omega,fun _=>hz _ (by omega),by omega,by omega,by omega,by omega,by omega⟩
    ·split at har
     ·cases har;rename_i hk1 hk
      exact ⟨⟨by omega,by omega,by omega⟩,by omega,by omega,by omega,by omega,by omega,by omega,by omega⟩
     ·split at har
      ·cases har;rename_i hk1 hk2 hk
       exact ⟨⟨by omega,by omega,by omega⟩,by omega,by omega,by omega,by omega,by omega,by omega,by omega⟩
      ·split at har
       ·cases har;rename_i hk1 hk2 hk3 hk
        exact ⟨⟨by omega,by omega,by omega⟩,by omega,by omega,by omega,by omega,by omega,by omega,by omega⟩
       ·split at har
        ·cases har;rename_i hk1 hk2 hk3 hk4 hk
         exact ⟨⟨by omega,by omega,by omega⟩,by omega,by omega,by omega,by omega,fun _=>hz _ (by omega),by omega,by omega⟩
        ·cases har
theorem ri {α:Type} {p:α->Bool}:∀ {l:List α},(l.filter p).length=1->∃ (i:Nat) (x:α),l[i]?=some x/\p x=true/\∀ (j:Nat) (y:α),l[j]?=some y->p y=true->j=i
 | [],h=>by simp at h
 | a::l,h=>by
  by_cases ha:p a=true
  ·rw [List.filter_cons_of_pos ha] at h;have h0:l.filter p=[]:=List.eq_nil_of_length_eq_zero (by simpa using h);refine ⟨0,a,rfl,ha,fun j y hy hp=>?_⟩;cases j with
   | zero=>rfl
   | succ j =>
    have hm:y∈l.filter p:=List.mem_filter.2 ⟨List.mem_of_getElem? (by simpa using hy),hp⟩;rw [h0] at hm;cases hm
  ·rw [List.filter_cons_of_neg ha] at h;obtain ⟨i,x,h1,h2,h3⟩:=ri h;refine ⟨i+1,x,by simpa using h1,h2,fun j y hy hp=>?_⟩;cases j with
   | zero=>simp at hy;subst hy;exact absurd hp ha
   | succ j=>rw [h3 j y (by simpa using hy) hp]
theorem rU {n:Net} (h:(bV n).2=0):RightN n:=by
 obtain ⟨l,o,hlk,hl,ho,_⟩:=pK h;have hord:=Cc ho;have hg:∀ i,i<n.Nodes.length->n.Nodes[i]?=some (ab n i):=fun i hi=>eH hi
 have he:=fun i hi=>zA (hl.err i _ (hg i hi))
 obtain ⟨s,xs,hs,hs8,hsu⟩:=ri hl.sink;have hsl:=(List.getElem?_eq_some_iff.1 hs).1;have hsx:ab n s=xs:=by have:=hg s hsl;rw [hs] at this;exact (Option.some.inj this).symm
 refine ⟨hl.n1,hl.n2,hl.r1,hl.r2,hl.m1,hl.m2,fun i hi=>(he i hi).1,fun i hi=>(he i hi).2.1,fun i hi=>(he i hi).2.2.1,fun i hi=>(he i hi).2.2.2.1,fun i hi=>(he i hi).2.2.2.2.1,fun i hi=>(he i hi).2.2.2.2.2.1,fun i hi=>(he i hi).2.2.2.2.2.2.1,fun i hi=>(he i hi).2.2.2.2.2.2.2,
  fun i hi r hr=>⟨(hl.inn i _ (hg i hi) r hr).1,(hl.inn i _ (hg i hi) r hr).2.1⟩,fun i hi r hr=>⟨(hl.out i _ (hg i hi) r hr).1,(hl.out i _ (hg i hi) r hr).2.1⟩,fun i hi=>hl.ndI i _ (hg i hi),fun i hi=>hl.ndO i _ (hg i hi),
  fun i j r hi hj h1 h2=>?_,fun i j r hi hj h1 h2=>?_,fun r hr=>?_,fun r hr=>?_,⟨s,hsl,by rw [hsx];simpa using hs8⟩,fun i j hi hj h1 h2=>?_,?_⟩
 ·obtain ⟨_,_,e,e1,e2⟩:=hl.inn i _ (hg i hi) r h1;obtain ⟨_,_,e',e3,e4⟩:=hl.inn j _ (hg j hj) r h2;rw [e1] at e3;cases e3;omega
 ·obtain ⟨_,_,e,e1,e2⟩:=hl.out i _ (hg i hi) r h1;obtain ⟨_,_,e',e3,e4⟩:=hl.out j _ (hg j hj) r h2;rw [e1] at e3;cases e3;omega
 ·have hlt:r<l.length:=by have:=hl.len;omega
  obtain ⟨i,x,h1,_,h3⟩:=hl.dst r _ (List.getElem?_eq_getElem hlt);have hi:=(List.getElem?_eq_some_iff.1 h1).1;have:=hg i hi;rw [h1] at this;cases this;exact ⟨i,hi,h3⟩
 ·have hlt:r<l.length:=by have:=hl.len;omega
  obtain ⟨i,x,h1,_,h3⟩:=hl.src r _ (List.getElem?_eq_getElem hlt);have hi:=(List.getElem?_eq_some_iff.1 h1).1;have:=hg i hi;rw [h1] at this;cases this;exact ⟨i,hi,h3⟩
 ·rw [hsu i _ (hg i hi) (by simpa using h1),hsu j _ (hg j hj) (by simpa using h2)]
 ·have hmem:∀ i,i<n.Nodes.length->i∈o:=fun i hi=>Bd hord.nd hord.lt hord.len hi
  have hidx:∀ i,i<n.Nodes.length->o[o.idxOf i]?=some i:=fun i hi=>by
   rw [List.getElem?_eq_getElem (List.idxOf_lt_length_iff.2 (hmem i hi)),List.getElem_idxOf]
  refine ⟨fun i=>o.idxOf i,fun i hi=>?_,fun i j hi hj e=>?_,fun i j r hi hj h1 h2=>?_⟩
  ·show o.idxOf i<_;rw [<- hord.len];exact List.idxOf_lt_length_iff.2 (hmem i hi)
  ·have h1:=hidx i hi;have h2:=hidx j hj;simp only at e;rw [e,h2] at h1;exact (Option.some.inj h1).symm
  ·obtain ⟨_,_,e,e1,e2⟩:=hl.out i _ (hg i hi) r h1;have h3:=hord.fed _ j _ r e (hidx j hj) (hg j hj) h2 e1;rw [e2,Int.toNat_natCast] at h3;show o.idxOf i<o.idxOf j;obtain ⟨q,hq⟩:=List.getElem?_of_mem h3;rw [List.getElem?_take] at hq;split at hq
   ·rename_i hlt;have hq2:=hidx i hi;have:q=o.idxOf i:=by
     have hql:=(List.getElem?_eq_some_iff.1 hq).1;refine (List.getElem?_inj hql hord.nd).1 ?_;rw [hq,hq2]
    omega
   ·cases hq
theorem qW:∀ {l:List (List Item)},d9 l=0->∀ (a:Nat) (s:List Item),l[a]?=some s->s.length<=20/\∀ x:Item,x∈s->x.Dep=0
 | [],_,a,s,h=>by simp at h
 | t :: l,h,a,s,hs=>by
  unfold d9 at h;split at h
  ·exact absurd h (by decide)
  ·split at h
   ·exact absurd h (by decide)
   ·rename_i h1 h2;cases a with
    | zero =>
     simp at hs;subst hs;refine ⟨by omega,fun x hx=>?_⟩;refine Classical.byContradiction fun hd=>h2 ?_
     rw [List.any_eq_true];exact ⟨x,hx,decide_eq_true hd⟩
    | succ a=>exact qW h a s (by simpa using hs)
theorem o4 (len:Nat):∀ {ns:List Node} {seen:List Int},dE len ns seen=0->(∀ (i:Nat) x,ns[i]?=some x->x.Kind=1->x.A<len/\x.A ∉ seen)/\∀ (i j:Nat) x y,ns[i]?=some x->ns[j]?=some y->x.Kind=1->y.Kind=1->x.A=y.A->i=j
 | [],seen,_=>⟨fun i x h=>by simp at h,fun i j x y h=>by simp at h⟩
 | z :: ns,seen,h=>by
  unfold dE at h;split at h
  ·rename_i hk;obtain ⟨h1,h2⟩:=o4 len h;refine ⟨fun i x hx hx1=>?_,fun i j x y hx hy hx1 hy1 he=>?_⟩
   ·cases i with
    | zero=>simp at hx;subst hx;exact absurd hx1 hk
    | succ i=>exact h1 i x (by simpa using hx) hx1
   ·cases i with
    | zero=>simp at hx;subst hx;exact absurd hx1 hk
    | succ i =>
     cases j with
     | zero=>simp at hy;subst hy;exact absurd hy1 hk
     | succ j=>rw [h2 i j x y (by simpa using hx) (by simpa using hy) hx1 hy1 he]
  ·split at h
   ·exact absurd h (by decide)
   ·split at h
    ·exact absurd h (by decide)
    ·rename_i hk hl hs;obtain ⟨h1,h2⟩:=o4 len h;have key:∀ (i:Nat) x,ns[i]?=some x->x.Kind=1->x.A≠z.A:=fun i x hx hx1 e=>(h1 i x hx hx1).2 (by rw [e];exact List.mem_cons_self)
     refine ⟨fun i x hx hx1=>?_,fun i j x y hx hy hx1 hy1 he=>?_⟩
     ·cases i with
      | zero=>simp at hx;subst hx;exact ⟨by omega,hs⟩
      | succ i=>exact ⟨(h1 i x (by simpa using hx) hx1).1,fun hm=>(h1 i x (by simpa using hx) hx1).2 (List.mem_cons_of_mem _ hm)⟩
     ·cases i with
      | zero =>
       simp at hx;subst hx;cases j with
       | zero=>rfl
       | succ j=>exact absurd he.symm (key j y (by simpa using hy) hy1)
      | succ i =>
       cases j with
       | zero=>simp at hy;subst hy;exact absurd he (key i x (by simpa using hx) hx1)
       | succ j=>rw [h2 i j x y (by simpa using hx) (by simpa using hy) hx1 hy1 he]
theorem dM {n:Net} {items:List (List Item)} (h:aZ n items=0):RightS n items:=by
 unfold aZ at h;split at h
 ·rename_i h1;exact absurd h h1
 ·split at h
  ·exact absurd h (by decide)
  ·split at h
   ·rename_i h1;exact absurd h h1
   ·rename_i h1 h2 h3;have hi:=fun a s hs=>qW (Decidable.not_not.1 h3) a s hs
    obtain ⟨s1,s2⟩:=o4 items.length h;exact { rU (Decidable.not_not.1 h1) with
     l4:=by omega
     l20:=fun a l hl=>(hi a l hl).1
     dep0:=fun a l x hl hx=>(hi a l hl).2 x hx
     srcA:=fun i hi hk=>(s1 i _ (eH hi) hk).1
     src1:=fun i j hi hj h1 h2 he=>s2 i j _ _ (eH hi) (eH hj) h1 h2 he }
section
def idxI {α:Type} (p:α->Bool) (xs:List α):Int:=match xs.findIdx? p with | some i=>(i:Int) | none => -1
theorem q9 {α:Type} (xs:List α) (hx:xs.length<=1099511627776) (p:α->Bool) {body:Int->Option (Int ⊕ Int)}
  (h1:∀ (k:Nat) (x:α),xs[k]?=some x->k<xs.length->idx xs (k:Int)=some x->decide ((k:Int)<(xs.length:Int))=true->IntKind.i64.wrap ((k:Int)+1)=((k+1:Nat):Int)->body k=if p x=true then some (.inr (k:Int)) else some (.inl ((k+1:Nat):Int)))
  (h2:decide ((xs.length:Int)<(xs.length:Int))=false->body xs.length=some (.inr (-1))):iter body 0=some (idxI p xs):=by
 have key:∀ (m k:Nat),k+m=xs.length->iter body k=some (match (xs.drop k).findIdx? p with | some i=>((k+i:Nat):Int) | none => -1):=by
  intro m;induction m with
  | zero =>
   intro k hk;have hk:k=xs.length:=by omega
   subst hk;rw [an,h2 (by simp),List.drop_length];rfl
  | succ m ih =>
   intro k hk;have hlt:k<xs.length:=by omega
   have hg:xs[k]?=some xs[k]:=List.getElem?_eq_getElem hlt;rw [an,h1 k _ hg hlt (aN hg) (by simp;omega) (aJ (by omega)),List.drop_eq_getElem_cons hlt,List.findIdx?_cons];by_cases hp:p xs[k]=true
   ·rw [if_pos hp,hp];rfl
   ·rw [if_neg hp,Bool.eq_false_iff.2 hp];simp only;rw [ih (k+1) (by omega)];cases (xs.drop (k+1)).findIdx? p with
    | none=>rfl
    | some i =>
     show some (((k+1+i:Nat):Int))=some (((k+(i+1):Nat):Int));congr 1;omega
 have:=key xs.length 0 (by omega)
 simp only [Int.natCast_zero,List.drop_zero,Nat.zero_add] at this
 exact this
theorem uq {α:Type} (p:α->Bool) (xs:List α):decide (idxI p xs >= 0)=xs.any p:=by
 unfold idxI;cases h:xs.findIdx? p with
 | none =>
  rw [List.findIdx?_eq_none_iff] at h;have:xs.any p=false:=by rw [List.any_eq_false];exact fun x hx=>by simpa using h x hx
  rw [this];rfl
 | some i =>
  obtain ⟨hi,hp,_⟩:=List.findIdx?_eq_some_iff_getElem.1 h;have:xs.any p=true:=List.any_eq_true.2 ⟨_,List.getElem_mem hi,hp⟩;rw [this];simp
theorem DJ (x:Item) (r:Int) (hr:1<=r/\r<=16):kZ x r=some (x.Key % r,0):=by
 have h1:=Int.tmod_lt_of_pos x.Key (show 0<r by omega);have h2:=Int.lt_tmod_of_pos x.Key (show 0<r by omega);have hn:((r.natAbs:Nat):Int)=r:=by omega
 unfold kZ;rw [if_neg (by simp;omega)];unfold rem;rw [if_neg (by omega),Option.bind_some,if_neg (by omega),Option.bind_some];rw [bl (by omega) (by omega)];have h3:(x.Key.tmod r+r).tmod r=x.Key % r:=by
  rw [Int.tmod_eq_emod_of_nonneg (by omega),Int.add_emod_right,Int.tmod_eq_emod];split<;>simp [hn,Int.sub_emod_right]
 rw [h3]
def aT (x:Node) (k:Nat):Nat:=(x.In.getD k 0).toNat
def aI (x:Node):Nat:=if x.Kind=6 then x.In.length else 1
def memN (s:State) (i:Nat):Memory:=s.Memory.getD i ⟨0,[],0⟩
def bD (n:Net) (items:List (List Item)) (s:State) (i k:Nat):Option Item :=
 if (ab n i).Kind=1 then (items.getD (ab n i).A.toNat [])[(s.At.getD (ab n i).A.toNat 0).toNat]? else (s.Rings.getD (aT (ab n i) k) []).head?
def aQ (x:Node) (key:Int):List Int:=if x.Kind=7 then [x.Out.getD (key % x.Out.length).toNat 0] else x.Out
def roomy (n:Net) (s:State) (l:List Int):Bool:=l.all fun r=>decide (((s.Rings.getD r.toNat []).length:Int)<n.Room)
def bc (n:Net) (items:List (List Item)) (s:State) (i k:Nat):Bool :=
 match bD n items s i k with
 | none=>false
 | some it=>roomy n s (aQ (ab n i) it.Key) && !(decide ((ab n i).Kind=6/\s.Choices.length=500)) && !(decide ((ab n i).Kind=8/\s.Out.length=2000))
def bw (y:Item) (l:List Int) (R:List (List Item)):List (List Item):=l.foldl (fun R r=>R.set r.toNat (R.getD r.toNat []++[y])) R
def chD (x:Node) (s:State) (it:Item):Item:=if x.Kind=6 then ⟨it.Key,it.Val,(s.Choices.length:Int)+1⟩ else it
def bb (n:Net) (s:State) (i:Nat) (it:Item):Memory × Item:=bX (ab n i).Kind (ab n i).A (memN s i) (chD (ab n i) s it)
def doM (n:Net) (items:List (List Item)) (s:State) (i k:Nat):State :=
  match bD n items s i k with
  | none=>s
  | some it =>
    { At:=if (ab n i).Kind=1 then s.At.set (ab n i).A.toNat (s.At.getD (ab n i).A.toNat 0+1) else s.At
      Rings:=bw (bb n s i it).2 (aQ (ab n i) it.Key) (if (ab n i).Kind=1 then s.Rings else s.Rings.set (aT (ab n i) k) (s.Rings.getD (aT (ab n i) k) []).tail)
      Memory:=s.Memory.set i (bb n s i it).1
      Choices:=if (ab n i).Kind=6 then s.Choices++[⟨i,k⟩] else s.Choices
      Out:=if (ab n i).Kind=8 then s.Out++[(bb n s i it).2] else s.Out }
def eU (n:Net) (items:List (List Item)) (s:State) (i:Nat):List Move:=((List.range (aI (ab n i))).filter fun k=>bc n items s i k).map fun k:Nat=>⟨i,k⟩
def ak (n:Net) (items:List (List Item)) (s:State):List Move:=(List.range n.Nodes.length).flatMap fun i=>eU n items s i
def po (n:Net) (c:Choice):Prop:=0<=c.Node/\c.Node<n.Nodes.length/\(ab n c.Node.toNat).Kind=6/\0<=c.Lane/\c.Lane<(ab n c.Node.toNat).In.length
structure OkS (n:Net) (items:List (List Item)) (B:Int) (s:State):Prop where
 at_:s.At.length=items.length
 rg:(s.Rings.length:Int)=n.Rings
 mm:s.Memory.length=n.Nodes.length
 ch:s.Choices.length<=500
 out:s.Out.length<=2000
 atP:∀ (a:Nat) (p:Int),s.At[a]?=some p->0<=p/\p<=(items.getD a []).length
 room:∀ (r:Nat) (l:List Item),s.Rings[r]?=some l->(l.length:Int)<=n.Room
 depR:∀ (r:Nat) (l:List Item) (x:Item),s.Rings[r]?=some l->x∈l->0<=x.Dep/\x.Dep<=s.Choices.length
 mem:∀ (i:Nat) (m:Memory),s.Memory[i]?=some m->okM m/\m.Dep<=s.Choices.length/\∀ y,y∈m.Keys->y.N<=B
 cho:∀ c,c∈s.Choices->po n c
 depO:∀ x,x∈s.Out->0<=x.Dep/\x.Dep<=s.Choices.length
section
variable {n:Net} {items:List (List Item)} {B:Int} {s:State}
theorem bA {α:Type} {l:List α} {k:Nat} (z:α) (h:k<l.length):l[k]?=some (l.getD k z):=by
 rw [List.getD_eq_getElem?_getD,List.getElem?_eq_getElem h];rfl
theorem dx {α:Type} {l:List α} {i:Int} (z:α) (h0:0<=i) (h:i<l.length):idx l i=some (l.getD i.toNat z):=by
 unfold idx;rw [if_pos h0];exact bA z (by omega)
theorem ixN_D {α:Type} {l:List α} {i:Int} (h0:0<=i) (h:i<l.length):ixN l i=some i.toNat:=by
 unfold ixN;rw [if_pos ⟨h0,h⟩]
theorem iK (hR:RightN n) {i k:Nat} (hi:i<n.Nodes.length) (hk:k<aI (ab n i)) (h1:(ab n i).Kind≠1):k<(ab n i).In.length:=by
 unfold aI at hk;split at hk
 ·exact hk
 ·rename_i h6;have:=hR.inx i hi h1 h6;omega
theorem iH (hR:RightN n) {i k:Nat} (hi:i<n.Nodes.length) (hk:k<(ab n i).In.length):(ab n i).In.getD k 0∈(ab n i).In/\0<=(ab n i).In.getD k 0/\(ab n i).In.getD k 0<n.Rings:=by
 have:(ab n i).In.getD k 0∈(ab n i).In:=List.mem_of_getElem? (bA 0 hk);exact ⟨this,hR.inR i hi _ this⟩
theorem at_ok (hS:RightS n items) (ok:OkS n items B s) {i:Nat} (hi:i<n.Nodes.length) (h1:(ab n i).Kind=1) :
  0<=(ab n i).A/\(ab n i).A<s.At.length/\(ab n i).A<items.length/\0<=s.At.getD (ab n i).A.toNat 0/\s.At.getD (ab n i).A.toNat 0<=(items.getD (ab n i).A.toNat []).length/\(items.getD (ab n i).A.toNat []).length<=20:=by
 have h0:=hS.a0 i hi
 have h2:=hS.srcA i hi h1
 have h3:=ok.at_
 have h4:=ok.atP (ab n i).A.toNat _ (bA 0 (by omega))
 exact ⟨h0,by omega,h2,h4.1,h4.2,hS.l20 _ _ (bA [] (by omega))⟩
theorem uG (hS:RightS n items) (ok:OkS n items B s) {i k:Nat} (hi:i<n.Nodes.length) (hk:k<aI (ab n i)) :
  jK n items s ⟨i,k⟩=some (match bD n items s i k with | some it=>(it,true) | none=>(⟨0,0,0⟩,false)):=by
 unfold jK bD
 simp only
 rw [aN (eH hi),Option.bind_some]
 by_cases h1:(ab n i).Kind=1
 ·rw [if_pos (by simpa using h1),if_pos h1]
  obtain ⟨a0,a1,a2,a3,a4,a5⟩:=at_ok hS ok hi h1
  rw [dx 0 a0 a1,Option.bind_some,dx [] a0 a2,Option.bind_some]
  by_cases he:s.At.getD (ab n i).A.toNat 0=((items.getD (ab n i).A.toNat []).length:Int)
  ·rw [if_pos (by simpa using he),List.getElem?_eq_none (by omega)]
  ·rw [if_neg (by simpa using he),Option.bind_some,Option.bind_some,dx ⟨0,0,0⟩ a3 (by omega),Option.bind_some,bA (⟨0,0,0⟩:Item) (show (s.At.getD (ab n i).A.toNat 0).toNat<_ by omega)]
 ·rw [if_neg (by simpa using h1),if_neg h1]
  have hkl:=iK hS.toRightN hi hk h1
  obtain ⟨_,b0,b1⟩:=iH hS.toRightN hi hkl
  have hrg:=ok.rg
  rw [dx (0:Int) (by omega) (by omega),Option.bind_some]
  simp only [Int.toNat_natCast]
  rw [dx [] b0 (by omega),Option.bind_some]
  show _=some (match (s.Rings.getD (aT (ab n i) k) []).head? with | some it=>(it,true) | none=>(⟨0,0,0⟩,false))
  unfold aT
  cases hl:s.Rings.getD ((ab n i).In.getD k 0).toNat [] with
  | nil=>rfl
  | cons y ys=>rw [if_neg (by simp;omega)];rfl
theorem fF (hR:RightN n) {i:Nat} (hi:i<n.Nodes.length) (key:Int):∀ r,r∈aQ (ab n i) key->r∈(ab n i).Out:=by
 intro r hr;unfold aQ at hr;split at hr
 ·rename_i h7;have h1:=hR.out1 i hi (by omega);have hm:=Int.emod_nonneg key (show ((ab n i).Out.length:Int)≠0 by omega);have hm2:=Int.emod_lt_of_pos key (show (0:Int)<(ab n i).Out.length by omega);simp at hr;subst hr;have hlt:(key % ((ab n i).Out.length:Int)).toNat<(ab n i).Out.length:=by omega
  have:=List.mem_of_getElem? (bA (0:Int) hlt);rwa [List.getD_eq_getElem?_getD] at this
 ·exact hr
theorem r7 {l:List Int} {R:Int} (hd:l.Nodup) (h:∀ r,r∈l->0<=r/\r<R) (hR:0<=R):(l.length:Int)<=R:=by
 have h1:(l.map Int.toNat).Nodup:=List.pairwise_map.2 (List.Pairwise.imp_of_mem (fun {a b} ha hb hne e=>hne (by have:=h a ha;have:=h b hb;omega)) hd);have:=oo R.toNat (l.map Int.toNat) h1 (fun x hx=>by
  obtain ⟨a,ha,rfl⟩:=List.mem_map.1 hx;have:=h a ha;omega)
 simp at this;omega
theorem nj (hR:RightN n) {i:Nat} (hi:i<n.Nodes.length) (key:Int):(aQ (ab n i) key).Nodup:=by
 unfold aQ;split
 ·simp
 ·exact hR.ndO i hi
theorem jY (hR:RightN n) {i:Nat} (hi:i<n.Nodes.length):(ab n i).Out.length<=16:=by
 have:=r7 (hR.ndO i hi) (hR.outR i hi) hR.r1;have:=hR.r2;omega
theorem qz (hR:RightN n) {i:Nat} (hi:i<n.Nodes.length) (it:Item):jF (ab n i) it=some (aQ (ab n i) it.Key):=by
 unfold jF aQ;by_cases h7:(ab n i).Kind=7
 ·rw [if_neg (by simp [h7]),if_pos h7];have h1:=hR.out1 i hi (by omega);have h2:=jY hR hi;have hm:=Int.emod_nonneg it.Key (show ((ab n i).Out.length:Int)≠0 by omega);have hm2:=Int.emod_lt_of_pos it.Key (show (0:Int)<(ab n i).Out.length by omega);rw [DJ it _ (by omega),Option.bind_some];simp only;rw [bl (by omega) (by omega)];obtain ⟨q,hq⟩:=Int.eq_ofNat_of_zero_le hm;rw [hq] at hm2 ⊢;rw [show ((q:Nat):Int)+1=((q+1:Nat):Int) from rfl,pW (by omega) (by omega),Option.bind_some];have hql:q<(ab n i).Out.length:=by omega
  congr 1;rw [List.take_succ_eq_append_getElem hql,List.drop_append_of_le_length (by simp;omega),List.drop_of_length_le (by simp;omega)];simp [List.getD_eq_getElem?_getD,List.getElem?_eq_getElem hql]
 ·rw [if_pos (by simpa using h7),if_neg h7]
theorem yp (hR:RightN n) (ok:OkS n items B s) (l:List Int) (hl:∀ r,r∈l->0<=r/\r<n.Rings) (hll:l.length<=16):kp l s.At s.Rings s.Memory s.Choices s.Out n.Nodes n.Rings n.Room=some (!roomy n s l):=by
 unfold kp l7;have hrg:=ok.rg;rw [q9 l (by omega) (fun r=>decide (n.Room<=((s.Rings.getD r.toNat []).length:Int))) (fun k x hx hk h1 h2 h3=>by
  have hm:=hl x (List.mem_of_getElem? hx);unfold ko mj;rw [h2,h1,h3];simp only [if_true,Option.bind_some];rw [dx [] hm.1 (by omega),Option.bind_some,Option.bind_some];rfl) (fun h=>by
  unfold ko;rw [h];rfl)]
 rw [Option.bind_some,uq];congr 1;unfold roomy;rw [Bool.eq_iff_iff];simp only [List.any_eq_true,decide_eq_true_eq,Bool.not_eq_true',List.all_eq_false];exact ⟨fun ⟨x,h1,h2⟩=>⟨x,h1,by omega⟩,fun ⟨x,h1,h2⟩=>⟨x,h1,by omega⟩⟩
theorem mX (hS:RightS n items) (ok:OkS n items B s) {i k:Nat} {it:Item} (h:bD n items s i k=some it):0<=it.Dep/\it.Dep<=s.Choices.length:=by
 unfold bD at h;split at h
 ·rename_i h1;have hm:=List.mem_of_getElem? h;rw [List.getD_eq_getElem?_getD] at hm;cases hg:items[(ab n i).A.toNat]? with
  | none=>rw [hg] at hm;simp at hm
  | some l =>
   rw [hg] at hm;rw [hS.dep0 _ l it hg hm];omega
 ·have hm:=List.mem_of_head? h;rw [List.getD_eq_getElem?_getD] at hm;cases hg:s.Rings[aT (ab n i) k]? with
  | none=>rw [hg] at hm;simp at hm
  | some l=>rw [hg] at hm;exact ok.depR _ l it hg hm
theorem we (hS:RightS n items) (ok:OkS n items B s) {i k:Nat} (hi:i<n.Nodes.length) (hk:k<aI (ab n i)) :
  iy n items s ⟨i,k⟩=some (bc n items s i k):=by
 unfold iy bc
 simp only
 rw [aN (eH hi),Option.bind_some,uG hS ok hi hk,Option.bind_some]
 cases hh:bD n items s i k with
 | none=>rfl
 | some it =>
  simp only [Bool.not_true,Bool.false_eq_true,if_false]
  have hol:(aQ (ab n i) it.Key).length<=16:=by
   unfold aQ;split
   ·simp
   ·exact jY hS.toRightN hi
  rw [qz hS.toRightN hi,Option.bind_some,yp hS.toRightN ok _ (fun r hr=>hS.outR i hi r (fF hS.toRightN hi _ r hr)) hol,Option.bind_some,Option.bind_some]
  cases hr:roomy n s (aQ (ab n i) it.Key) with
  | false=>rfl
  | true =>
   simp only [Bool.not_true,Bool.false_eq_true,if_false,Bool.true_and]
   have hch:=ok.ch
   have hst:(Option.bind (idx s.Memory (i:Int)) fun x11=>Option.bind (d7 (ab n i).Kind (ab n i).A x11 it) fun x12=>some (x12.2.2==0))=some true:=by
    have hm:=bA (⟨0,[],0⟩:Memory) (show i<s.Memory.length by rw [ok.mm];exact hi);rw [aN hm,Option.bind_some,pY _ _ _ _ (ok.mem i _ hm).1 (mX hS ok hh).1 (hS.kind i hi)];rfl
   rw [hst]
   by_cases h6:(ab n i).Kind=6
   ·have h8:¬ (ab n i).Kind=8:=by omega
    by_cases hc:s.Choices.length=500
    ·rw [if_pos (by simp [h6,hc])];simp [h6,hc]
    ·rw [if_neg (by simp [h6];omega)];simp [h6,hc]
   ·by_cases h8:(ab n i).Kind=8
    ·by_cases hc:s.Out.length=2000
     ·rw [if_pos (by simp [h8,hc])];simp [h8,hc]
     ·rw [if_neg (by simp [h8];omega)];simp [h8,hc]
    ·rw [if_neg (by simp [h6,h8])];simp [h6,h8]
end
end
section
theorem m8 (y:Item):∀ (l:List Int) (R:List (List Item)),(bw y l R).length=R.length
 | [],R=>rfl
 | r::l,R=>by
  show (bw y l (R.set r.toNat (R.getD r.toNat []++[y]))).length=_;rw [m8 y l];simp
theorem ne {α:Type} (l:List α) (i j:Nat) (a z:α) (h:i<l.length):(l.set i a).getD j z=if j=i then a else l.getD j z:=by
 rw [List.getD_eq_getElem?_getD,List.getElem?_set];by_cases e:j=i
 ·subst e;rw [if_pos rfl,if_pos h,if_pos rfl];rfl
 ·rw [if_neg (fun x=>e x.symm),if_neg e,List.getD_eq_getElem?_getD]
theorem lD (y:Item):∀ (l:List Int) (R:List (List Item)),l.Nodup->(∀ r,r∈l->0<=r/\r<R.length)->∀ j:Nat,(bw y l R).getD j []=if (j:Int)∈l then R.getD j []++[y] else R.getD j []
 | [],R,_,_,j=>by simp [bw]
 | r::l,R,hd,hl,j=>by
  obtain ⟨hn,hd⟩:=List.nodup_cons.1 hd;have hr:=hl r List.mem_cons_self;show (bw y l (R.set r.toNat (R.getD r.toNat []++[y]))).getD j []=_;rw [lD y l _ hd (fun q hq=>by have:=hl q (List.mem_cons_of_mem _ hq);simpa using this) j,ne _ _ _ _ _ (by omega)];by_cases e:(j:Int)=r
  ·have ej:j=r.toNat:=by omega
   have hjn:¬ (j:Int)∈l:=by rw [e];exact hn
   rw [if_neg hjn,if_pos ej,if_pos (by rw [e];exact List.mem_cons_self),<- ej]
  ·have ej:¬ j=r.toNat:=by omega
   rw [if_neg ej];have:((j:Int)∈r::l) ↔ (j:Int)∈l:=by simp [e]
   simp only [this]
theorem rE (y:Item) (l:List Int) (r:Int) (R:List (List Item)):bw y (l++[r]) R=(bw y l R).set r.toNat ((bw y l R).getD r.toNat []++[y]):=by
 unfold bw;rw [List.foldl_append];rfl
theorem yA (l:List Item) (R:Int) (y:Item) (h1:1<=R) (h2:R<=6) (h:(l.length:Int)<R):lA l R y=some (l++[y],0):=by
 unfold lA;rw [if_neg (by simp;omega),if_neg (by simp;omega),if_neg (by simp;omega)];unfold cX;rw [bB (by simp;omega),Option.bind_some,List.nil_append,bB (by simp;omega)];rfl
theorem xU (x:Item) (l:List Item) (h:(x::l).length<=6):lm (x::l)=some (x,l,0):=by
 unfold lm;have h':l.length+1<=6:=by simpa using h
 rw [if_neg (by simp;omega),if_neg (by simp;omega)];have h1:idx (x::l) 0=some x:=rfl;have h2:sub (x::l) 1 (((x::l).length:Nat):Int)=some l:=by
  have:=BU (xs:=x::l) (i:=1) (by simp);simpa using this
 unfold cX;rw [h1,Option.bind_some,h2,Option.bind_some,bB (by simp;omega)];rfl
section
variable {n:Net} {items:List (List Item)} {B:Int} {s:State}
def bC (n:Net) (s:State) (i k:Nat):List (List Item):=if (ab n i).Kind=1 then s.Rings else s.Rings.set (aT (ab n i) k) (s.Rings.getD (aT (ab n i) k) []).tail
theorem mJ (i k:Nat):(bC n s i k).length=s.Rings.length:=by unfold bC;split<;>simp
theorem oJ (hR:RightN n) (hrg:(s.Rings.length:Int)=n.Rings) {i k:Nat} (hi:i<n.Nodes.length) (hk:k<aI (ab n i)) (j:Nat) :
  (bC n s i k).getD j []=if (ab n i).Kind≠1/\j=aT (ab n i) k then (s.Rings.getD j []).tail else s.Rings.getD j []:=by
 unfold bC
 by_cases h1:(ab n i).Kind=1
 ·rw [if_pos h1,if_neg (fun e=>e.1 h1)]
 ·obtain ⟨_,b0,b1⟩:=iH hR hi (iK hR hi hk h1)
  rw [if_neg h1,ne _ _ _ _ _ (by unfold aT;omega)]
  by_cases e:j=aT (ab n i) k
  ·rw [if_pos e,if_pos ⟨h1,e⟩,e]
  ·rw [if_neg e,if_neg (fun x=>e x.2)]
theorem jP {i k:Nat} (hc:bc n items s i k=true):∃ it,bD n items s i k=some it/\roomy n s (aQ (ab n i) it.Key)=true/\((ab n i).Kind=6->s.Choices.length≠500)/\((ab n i).Kind=8->s.Out.length≠2000):=by
 unfold bc at hc;cases h:bD n items s i k with
 | none=>rw [h] at hc;cases hc
 | some it =>
  rw [h] at hc;simp only [Bool.and_eq_true,Bool.not_eq_true',decide_eq_false_iff_not] at hc;exact ⟨it,rfl,hc.1.1,fun h6 e=>hc.1.2 ⟨h6,e⟩,fun h8 e=>hc.2 ⟨h8,e⟩⟩
theorem sE (hR:RightN n) (a2:List Memory) (a3 l:List Int) (a5:List Choice) (M:Memory × Item × Int) (q:Nat) (O:List Item) (R:List (List Item)) (hd:l.Nodup) (hl:∀ r,r∈l->0<=r/\r<R.length/\((R.getD r.toNat []).length:Int)<n.Room) (hll:l.length<=16):∀ (m j:Nat),j+m=l.length ->
  iter (fun ss:Int × (List (List Item))=>gj n a2 a3 l a5 M q O ss.1 ss.2) ((j:Int),bw M.2.1 (l.take j) R)=some (a3,bw M.2.1 l R,a2.set q M.1,a5,O)
 | 0,j,h=>by
  have hj:j=l.length:=by omega
  subst hj;have:gj n a2 a3 l a5 M q O (l.length:Int) (bw M.2.1 (l.take l.length) R)=some (.inr (a3,bw M.2.1 l R,a2.set q M.1,a5,O)):=by
   unfold gj;rw [if_neg (by simp),List.take_length];rfl
  rw [an];simp only [this]
 | m+1,j,h=>by
  have hlt:j<l.length:=by omega
  have hm:=hl _ (List.getElem_mem hlt);have htk:l.take (j+1)=l.take j++[l[j]]:=List.take_succ_eq_append_getElem hlt;have hnd:(l.take j).Nodup:=hd.sublist (List.take_sublist _ _);have hnm:l[j] ∉ l.take j:=fun hmem=>by
   have:(l.take j++[l[j]]).Nodup:=by rw [<- htk];exact hd.sublist (List.take_sublist _ _)
   rw [List.nodup_append] at this;exact this.2.2 _ hmem _ (by simp) rfl
  have hlen:=m8 M.2.1 (l.take j) R;have hget:(bw M.2.1 (l.take j) R).getD l[j].toNat []=R.getD l[j].toNat []:=by
   rw [lD _ _ _ hnd (fun r hr=>⟨(hl r (List.mem_of_mem_take hr)).1,(hl r (List.mem_of_mem_take hr)).2.1⟩),if_neg (by rw [Int.toNat_of_nonneg hm.1];exact hnm)]
  have e:gj n a2 a3 l a5 M q O (j:Int) (bw M.2.1 (l.take j) R)=some (.inl (((j+1:Nat):Int),bw M.2.1 (l.take (j+1)) R)):=by
   unfold gj;rw [if_pos (by simp;omega),aN (List.getElem?_eq_getElem hlt),Option.bind_some,ixN_D hm.1 (by rw [hlen];exact hm.2.1),Option.bind_some,bA [] (show l[j].toNat<_ by rw [hlen];omega),Option.bind_some,hget,
    yA _ _ _ hR.m1 hR.m2 hm.2.2,Option.bind_some,Option.bind_some,bA [] (show l[j].toNat<_ by rw [hlen];omega),Option.bind_some,aJ (by omega),htk,rE,hget]
  rw [an];simp only [e];exact sE hR a2 a3 l a5 M q O R hd hl hll m (j+1) (by omega)
theorem rz (hR:RightN n) (a2:List Memory) (a3 l:List Int) (a5:List Choice) (M:Memory × Item × Int) (q:Nat) (O:List Item) (R:List (List Item)) (hd:l.Nodup) (hl:∀ r,r∈l->0<=r/\r<R.length/\((R.getD r.toNat []).length:Int)<n.Room) (hll:l.length<=16) :
 jf n a2 a3 R l a5 M q O=some (a3,bw M.2.1 l R,a2.set q M.1,a5,O):=sE hR a2 a3 l a5 M q O R hd hl hll l.length 0 (by omega)
theorem do_eq (hS:RightS n items) (ok:OkS n items B s) {i k:Nat} (hi:i<n.Nodes.length) (hk:k<aI (ab n i)) (hc:bc n items s i k=true) :
  jo n items ⟨i,k⟩ s.At s.Rings s.Memory s.Choices s.Out=some ((doM n items s i k).At,(doM n items s i k).Rings,(doM n items s i k).Memory,(doM n items s i k).Choices,(doM n items s i k).Out):=by
 obtain ⟨it,hh,hroom,h500,h2000⟩:=jP hc
 have hhd:=uG hS ok hi hk
 rw [hh] at hhd
 have hrg:=ok.rg
 have hR:=hS.toRightN
 have hlt:∀ r,r∈aQ (ab n i) it.Key->0<=r/\r<(bC n s i k).length/\(((bC n s i k).getD r.toNat []).length:Int)<n.Room:=fun r hr=>by
  have h1:=hR.outR i hi r (fF hR hi _ r hr);refine ⟨h1.1,by rw [mJ];omega,?_⟩;have h2:=List.all_eq_true.1 hroom r hr;have h2:=of_decide_eq_true h2;rw [oJ hR hrg hi hk];split
  ·rw [List.length_tail];omega
  ·exact h2
 have hol:(aQ (ab n i) it.Key).length<=16:=by
  unfold aQ;split
  ·simp
  ·exact jY hR hi
 have tail:∀ (At:List Int) (R:List (List Item)),R=bC n s i k->g8 n ⟨i,k⟩ (ab n i) (it,true) s.Memory s.Choices s.Out At R =
   some (At,bw (bb n s i it).2 (aQ (ab n i) it.Key) R,s.Memory.set i (bb n s i it).1,if (ab n i).Kind=6 then s.Choices++[⟨i,k⟩] else s.Choices,if (ab n i).Kind=8 then s.Out++[(bb n s i it).2] else s.Out):=fun At R hRe=>by
  subst hRe
  have hmi:i<s.Memory.length:=by rw [ok.mm];exact hi
  have hm:=bA (⟨0,[],0⟩:Memory) hmi
  have hdep:=mX hS ok hh
  have hch:=ok.ch
  have k3:∀ (z22:Int) (z23:List Choice),(⟨it.Key,it.Val,z22⟩:Item)=chD (ab n i) s it->0<=z22->g9 n ⟨i,k⟩ (ab n i) (it,true) s.Memory s.Out At (bC n s i k) (aQ (ab n i) it.Key) z22 z23 =
    some (At,bw (bb n s i it).2 (aQ (ab n i) it.Key) (bC n s i k),s.Memory.set i (bb n s i it).1,z23,if (ab n i).Kind=8 then s.Out++[(bb n s i it).2] else s.Out):=fun z22 z23 hz hz0=>by
   have hst:d7 (ab n i).Kind (ab n i).A (s.Memory.getD i ⟨0,[],0⟩) (⟨it.Key,it.Val,z22⟩:Item)=some ((bb n s i it).1,(bb n s i it).2,0):=by
    rw [pY _ _ _ _ (ok.mem i _ hm).1 hz0 (hS.kind i hi),hz];rfl
   unfold g9
   simp only
   rw [bd hmi,Option.bind_some,hm,Option.bind_some,hst,Option.bind_some,Option.bind_some,hm,Option.bind_some]
   by_cases h8:(ab n i).Kind=8
   ·have:=ok.out
    rw [if_pos (by simpa using h8),bB (by simp;omega),Option.bind_some,rz hR _ _ _ _ _ _ _ _ (nj hR hi _) hlt hol,if_pos h8]
   ·rw [if_neg (by simpa using h8),rz hR _ _ _ _ _ _ _ _ (nj hR hi _) hlt hol,if_neg h8]
  unfold g8
  rw [qz hR hi,Option.bind_some]
  by_cases h6:(ab n i).Kind=6
  ·rw [if_pos (by simpa using h6),bB (by simp;omega),Option.bind_some,k3 _ _ (by unfold chD;rw [if_pos h6];simp) (by omega),if_pos h6]
  ·rw [if_neg (by simpa using h6),k3 _ _ (by unfold chD;rw [if_neg h6]) hdep.1,if_neg h6]
 unfold jo doM
 simp only [hh]
 rw [aN (eH hi),Option.bind_some,hhd,Option.bind_some]
 by_cases h1:(ab n i).Kind=1
 ·rw [if_pos (by simpa using h1)]
  obtain ⟨a0,a1,a2,a3,a4,a5⟩:=at_ok hS ok hi h1
  rw [ixN_D a0 a1,Option.bind_some,bA 0 (show (ab n i).A.toNat<s.At.length by omega),Option.bind_some,Option.bind_some,bA 0 (show (ab n i).A.toNat<s.At.length by omega),Option.bind_some]
  simp only
  rw [tail _ _ (by unfold bC;rw [if_pos h1]),if_pos h1,if_pos h1,bl (by omega) (by omega)]
 ·rw [if_neg (by simpa using h1)]
  have hkl:=iK hR hi hk h1
  obtain ⟨_,b0,b1⟩:=iH hR hi hkl
  have hd0:idx (ab n i).In (k:Int)=some ((ab n i).In.getD k 0):=aN (bA 0 hkl)
  have hrl:((ab n i).In.getD k 0).toNat<s.Rings.length:=by omega
  unfold bD at hh
  rw [if_neg h1] at hh
  obtain ⟨tl,htl⟩:∃ tl,s.Rings.getD (aT (ab n i) k) []=it::tl:=by
   cases hq:s.Rings.getD (aT (ab n i) k) [] with
   | nil=>rw [hq] at hh;cases hh
   | cons y ys=>rw [hq] at hh;cases hh;exact ⟨ys,rfl⟩
  have hrm:=ok.room _ _ (bA [] hrl)
  have hm2:=hS.m2
  rw [hd0,Option.bind_some,Option.bind_some,ixN_D b0 (by omega),Option.bind_some,bA [] hrl,Option.bind_some]
  have htl':s.Rings.getD ((ab n i).In.getD k 0).toNat []=it::tl:=htl
  rw [htl'] at hrm ⊢
  rw [xU it tl (by omega),Option.bind_some,Option.bind_some,bA [] hrl,Option.bind_some]
  simp only
  rw [tail _ _ (by unfold bC;rw [if_neg h1,htl];rfl),if_neg h1,if_neg h1,htl]
  rfl
theorem tA (hR:RightN n) (hrg:(s.Rings.length:Int)=n.Rings) {i k:Nat} (hi:i<n.Nodes.length) (hk:k<aI (ab n i)) {it:Item} (hh:bD n items s i k=some it) (j:Nat) :
  (doM n items s i k).Rings.getD j []=(if (ab n i).Kind≠1/\j=aT (ab n i) k then (s.Rings.getD j []).tail else s.Rings.getD j [])++if (j:Int)∈aQ (ab n i) it.Key then [(bb n s i it).2] else []:=by
 unfold doM
 simp only [hh]
 show (bw (bb n s i it).2 (aQ (ab n i) it.Key) (bC n s i k)).getD j []=_
 rw [lD _ _ _ (nj hR hi _) (fun r hr=>by
  have:=hR.outR i hi r (fF hR hi _ r hr);rw [mJ];omega),oJ hR hrg hi hk]
 split<;>simp
theorem CZ {i k:Nat}:(doM n items s i k).Rings.length=s.Rings.length/\(doM n items s i k).At.length=s.At.length/\(doM n items s i k).Memory.length=s.Memory.length:=by
 unfold doM;split
 ·exact ⟨rfl,rfl,rfl⟩
 ·refine ⟨?_,?_,?_⟩
  ·simp only;rw [m8];split<;>simp
  ·simp only;split<;>simp
  ·simp
theorem get_D {α:Type} {l:List α} {k:Nat} {a:α} (z:α) (h:l[k]?=some a):l.getD k z=a:=by rw [List.getD_eq_getElem?_getD,h];rfl
theorem ux {a b c:Int} (h1:a<=c) (h2:b<=c):maxD a b<=c:=by unfold maxD;split<;>omega
theorem BT (a b:Int):a<=maxD a b/\b<=maxD a b:=by unfold maxD;split<;>omega
theorem do_ch {i k:Nat} {it:Item} (hh:bD n items s i k=some it):(doM n items s i k).Choices=if (ab n i).Kind=6 then s.Choices++[⟨i,k⟩] else s.Choices:=by unfold doM;simp only [hh]
theorem pN {i k:Nat} {it:Item} (hh:bD n items s i k=some it):(doM n items s i k).Out=if (ab n i).Kind=8 then s.Out++[(bb n s i it).2] else s.Out:=by unfold doM;simp only [hh]
theorem wb {i k:Nat} {it:Item} (hh:bD n items s i k=some it):(doM n items s i k).Memory=s.Memory.set i (bb n s i it).1:=by unfold doM;simp only [hh]
theorem do_at {i k:Nat} {it:Item} (hh:bD n items s i k=some it):(doM n items s i k).At=if (ab n i).Kind=1 then s.At.set (ab n i).A.toNat (s.At.getD (ab n i).A.toNat 0+1) else s.At:=by unfold doM;simp only [hh]
theorem uO (hS:RightS n items) (ok:OkS n items B s) {i k:Nat} {it:Item} (hh:bD n items s i k=some it):0<=(chD (ab n i) s it).Dep/\(chD (ab n i) s it).Dep<=(doM n items s i k).Choices.length:=by
 have:=mX hS ok hh;rw [do_ch hh];unfold chD;split
 ·simp<;>omega
 ·exact this
theorem AI (hS:RightS n items) (ok:OkS n items B s) {i k:Nat} (hi:i<n.Nodes.length) {it:Item} (hh:bD n items s i k=some it) :
  0<=(bb n s i it).2.Dep/\(bb n s i it).2.Dep<=(doM n items s i k).Choices.length/\(bb n s i it).1.Dep<=(doM n items s i k).Choices.length:=by
 have h1:=uO hS ok hh
 have hm:=bA (⟨0,[],0⟩:Memory) (show i<s.Memory.length by rw [ok.mm];exact hi)
 have h2:=(ok.mem i _ hm).2.1
 have h3:(s.Choices.length:Int)<=(doM n items s i k).Choices.length:=by
  rw [do_ch hh];split
  ·simp<;>omega
  ·exact Int.le_refl _
 have h4:=(ok.mem i _ hm).1.dep
 have h5:=zY (ab n i).Kind (ab n i).A (memN s i) (chD (ab n i) s it)
 have e1:(bb n s i it)=bX (ab n i).Kind (ab n i).A (memN s i) (chD (ab n i) s it):=rfl
 have e2:memN s i=s.Memory.getD i ⟨0,[],0⟩:=rfl
 rw [e1,h5.1,h5.2]
 have h6:=BT (memN s i).Dep (chD (ab n i) s it).Dep
 refine ⟨?_,?_,?_⟩
 ·split
  ·omega
  ·exact h1.1
 ·split
  ·exact ux (by rw [e2];omega) h1.2
  ·exact h1.2
 ·split
  ·exact ux (by rw [e2];omega) h1.2
  ·rw [e2];omega
theorem do_ok (hS:RightS n items) (ok:OkS n items B s) {i k:Nat} (hi:i<n.Nodes.length) (hk:k<aI (ab n i)) (hc:bc n items s i k=true) (hB0:0<=B) (hB:B<4611686018427387904):OkS n items (B+1) (doM n items s i k):=by
 obtain ⟨it,hh,hroom,h500,h2000⟩:=jP hc;obtain ⟨l1,l2,l3⟩:=CZ (n:=n) (items:=items) (s:=s) (i:=i) (k:=k);have hR:=hS.toRightN;have hmi:i<s.Memory.length:=by rw [ok.mm];exact hi
 have hm:=bA (⟨0,[],0⟩:Memory) hmi;have hcd:=uO hS ok hh;obtain ⟨d0,d1,d2⟩:=AI hS ok hi hh;have hcl:(s.Choices.length:Int)<=(doM n items s i k).Choices.length:=by
  rw [do_ch hh];split
  ·simp<;>omega
  ·exact Int.le_refl _
 have hrings:∀ (r:Nat) (l:List Item),(doM n items s i k).Rings[r]?=some l->r<s.Rings.length/\l=(if (ab n i).Kind≠1/\r=aT (ab n i) k then (s.Rings.getD r []).tail else s.Rings.getD r [])++if (r:Int)∈aQ (ab n i) it.Key then [(bb n s i it).2] else []:=fun r l hl=>by
  have hr:=(List.getElem?_eq_some_iff.1 hl).1;rw [l1] at hr;exact ⟨hr,by rw [<- get_D [] hl,tA hR ok.rg hi hk hh]⟩
 refine ⟨by rw [l2];exact ok.at_,by rw [l1];exact ok.rg,by rw [l3];exact ok.mm,?_,?_,fun a p hp=>?_,fun r l hl=>?_,fun r l x hl hx=>?_,fun j m hj=>?_,fun c hcm=>?_,fun x hx=>?_⟩
 ·rw [do_ch hh];have:=ok.ch;split
  ·rename_i h6;have:=h500 h6;simp;omega
  ·exact this
 ·rw [pN hh];have:=ok.out;split
  ·rename_i h6;have:=h2000 h6;simp;omega
  ·exact this
 ·rw [do_at hh] at hp;split at hp
  ·rename_i h1;obtain ⟨a0,a1,a2,a3,a4,a5⟩:=at_ok hS ok hi h1;rw [List.getElem?_set] at hp;split at hp
   ·rename_i e;split at hp
    ·cases hp;unfold bD at hh;rw [if_pos h1] at hh;have:=(List.getElem?_eq_some_iff.1 hh).1;rw [<- e];omega
    ·cases hp
   ·exact ok.atP a p hp
  ·exact ok.atP a p hp
 ·obtain ⟨hr,rfl⟩:=hrings r l hl;have h1:=ok.room r _ (bA [] hr);have h4:(if (ab n i).Kind≠1/\r=aT (ab n i) k then (s.Rings.getD r []).tail else s.Rings.getD r []).length<=(s.Rings.getD r []).length:=by
   split
   ·rw [List.length_tail];omega
   ·exact Nat.le_refl _
  rw [List.length_append];by_cases hin:(r:Int)∈aQ (ab n i) it.Key
  ·have h2:=of_decide_eq_true (List.all_eq_true.1 hroom _ hin);rw [Int.toNat_natCast] at h2;rw [if_pos hin,List.length_singleton];omega
  ·rw [if_neg hin,List.length_nil];omega
 ·obtain ⟨hr,rfl⟩:=hrings r l hl;rcases List.mem_append.1 hx with hx | hx
  ·have hx':x∈s.Rings.getD r []:=by
    split at hx
    ·exact List.mem_of_mem_tail hx
    ·exact hx
   have:=ok.depR r _ x (bA [] hr) hx';omega
  ·split at hx
   ·simp at hx;subst hx;exact ⟨d0,d1⟩
   ·cases hx
 ·rw [wb hh,List.getElem?_set] at hj;split at hj
  ·rename_i e;subst e;first
   | (rw [if_pos hmi] at hj)
   | skip
   ·cases hj;obtain ⟨q1,q2⟩:=A6 (k:=(ab n i).Kind) (f:=(ab n i).A) (x:=chD (ab n i) s it) (ok.mem i _ hm).1 hcd.1 (hS.kind i hi) B hB0 (ok.mem i _ hm).2.2 hB;exact ⟨q1,d2,q2⟩
  ·obtain ⟨q1,q2,q3⟩:=ok.mem j m hj;exact ⟨q1,by omega,fun y hy=>by have:=q3 y hy;omega⟩
 ·rw [do_ch hh] at hcm;split at hcm
  ·rename_i h6;rcases List.mem_append.1 hcm with h | h
   ·exact ok.cho c h
   ·simp at h;subst h;have:k<(ab n i).In.length:=by unfold aI at hk;rw [if_pos h6] at hk;exact hk
    exact ⟨by simp,by simp;omega,by simpa using h6,by simp,by simpa using this⟩
  ·exact ok.cho c hcm
 ·rw [pN hh] at hx;split at hx
  ·rcases List.mem_append.1 hx with h | h
   ·have:=ok.depO x h;omega
   ·simp at h;subst h;exact ⟨d0,d1⟩
  ·have:=ok.depO x hx;omega
end
end
section
structure Mach (I M T:Type) where
 key:I->Int
 step:Nat->M->I->M × I
 stamp:T->I->I
 tick:T->Nat->Nat->T
 src:Nat->List I
structure MSt (I M T:Type) where
 pos:Nat->Nat
 rg:Nat->List I
 mm:Nat->M
 out:List I
 tr:T
def upd {α:Type} (f:Nat->α) (i:Nat) (a:α):Nat->α:=fun j=>if j=i then a else f j
theorem AS {α:Type} (f:Nat->α) (i:Nat) (a:α):upd f i a i=a:=by unfold upd;rw [if_pos rfl]
theorem lO {α:Type} (f:Nat->α) {i j:Nat} (a:α) (h:j≠i):upd f i a j=f j:=by unfold upd;rw [if_neg h]
theorem ui {α:Type} (f:Nat->α) {i j:Nat} (a b:α) (h:i≠j):upd (upd f i a) j b=upd (upd f j b) i a:=by
 funext q;unfold upd;by_cases h1:q=j
 ·subst h1;rw [if_pos rfl,if_neg (fun e=>h e.symm),if_pos rfl]
 ·rw [if_neg h1];by_cases h2:q=i
  ·rw [if_pos h2,if_pos h2]
  ·rw [if_neg h2,if_neg h2,if_neg h1]
section
variable {I M T:Type} (E:Mach I M T) (n:Net) (room:Option Nat)
def hdM (c:MSt I M T) (m:Nat × Nat):Option I:=if (ab n m.1).Kind=1 then (E.src (ab n m.1).A.toNat)[c.pos (ab n m.1).A.toNat]? else (c.rg (aT (ab n m.1) m.2)).head?
def inM (c:MSt I M T) (m:Nat × Nat) (x:I):I:=if (ab n m.1).Kind=6 then E.stamp c.tr x else x
def mkM (c:MSt I M T) (m:Nat × Nat) (x:I):M × I:=E.step m.1 (c.mm m.1) (inM E n c m x)
def toM (m:Nat × Nat) (x:I):List Int:=aQ (ab n m.1) (E.key x)
def goM (c:MSt I M T) (m:Nat × Nat) (x:I):MSt I M T where
 pos:=if (ab n m.1).Kind=1 then upd c.pos (ab n m.1).A.toNat (c.pos (ab n m.1).A.toNat+1) else c.pos
 rg:=fun r=>(if (ab n m.1).Kind≠1/\r=aT (ab n m.1) m.2 then (c.rg r).tail else c.rg r)++if (r:Int)∈toM E n m x then [(mkM E n c m x).2] else []
 mm:=upd c.mm m.1 (mkM E n c m x).1
 out:=if (ab n m.1).Kind=8 then c.out++[(mkM E n c m x).2] else c.out
 tr:=if (ab n m.1).Kind=6 then E.tick c.tr m.1 m.2 else c.tr
def okMv (m:Nat × Nat):Prop:=m.1<n.Nodes.length/\m.2<aI (ab n m.1)
def fitM (c:MSt I M T) (l:List Int):Prop:=∀ R,room=some R->∀ r,r∈l->(c.rg r.toNat).length<R
def Ex (c:MSt I M T) (m:Nat × Nat) (c':MSt I M T):Prop:=okMv n m/\∃ x,hdM E n c m=some x/\fitM room c (toM E n m x)/\c'=goM E n c m x
inductive Run:MSt I M T->List (Nat × Nat)->MSt I M T->Prop
 | nil (c):Run c [] c
 | cons {c c1 d m w} (h:Ex E n room c m c1) (t:Run c1 w d):Run c (m::w) d
variable {E n room}
theorem Ex.det {c c1 c2:MSt I M T} {m:Nat × Nat} (h:Ex E n room c m c1) (h':Ex E n room c m c2):c1=c2:=by
 obtain ⟨_,x,h1,_,rfl⟩:=h;obtain ⟨_,y,h2,_,rfl⟩:=h';rw [h1] at h2;cases h2;rfl
theorem Run.det {c c1 c2:MSt I M T} {w:List (Nat × Nat)} (h:Run E n room c w c1) (h':Run E n room c w c2):c1=c2:=by
 induction h with
 | nil c=>cases h';rfl
 | cons h t ih=>cases h' with | cons h2 t2=>rw [h.det h2] at ih;exact ih t2
theorem Run.nil_inv {c d:MSt I M T} (h:Run E n room c [] d):d=c:=by cases h;rfl
theorem Run.app {c c1 d:MSt I M T} {u w:List (Nat × Nat)} (h:Run E n room c u c1) (h':Run E n room c1 w d):Run E n room c (u++w) d:=by
 induction h with
 | nil c=>exact h'
 | cons h t ih=>exact .cons h (ih h')
theorem Run.split {c d:MSt I M T}:∀ {u w:List (Nat × Nat)},Run E n room c (u++w) d->∃ c1,Run E n room c u c1/\Run E n room c1 w d:=by
 intro u;induction u generalizing c with
 | nil=>intro w h;exact ⟨c,.nil c,h⟩
 | cons m u ih =>
  intro w h;cases h with
  | cons h t =>
   obtain ⟨c1,h1,h2⟩:=ih t;exact ⟨c1,.cons h h1,h2⟩
theorem Ex.free {c c1:MSt I M T} {m:Nat × Nat} (h:Ex E n room c m c1):Ex E n none c m c1:=by
 obtain ⟨h0,x,h1,_,h3⟩:=h;exact ⟨h0,x,h1,fun R hR=>(by cases hR),h3⟩
theorem Run.free {c d:MSt I M T} {w:List (Nat × Nat)} (h:Run E n room c w d):Run E n none c w d:=by
 induction h with
 | nil c=>exact .nil c
 | cons h t ih=>exact .cons h.free ih
theorem lJ (hR:RightN n) {m:Nat × Nat} (h:okMv n m) (h1:(ab n m.1).Kind≠1):((aT (ab n m.1) m.2:Nat):Int)∈(ab n m.1).In:=by
 obtain ⟨b0,b1,b2⟩:=iH hR h.1 (iK hR h.1 h.2 h1);unfold aT;rw [Int.toNat_of_nonneg b1];exact b0
theorem tX (hR:RightN n) (hsrc:∀ i j,i<n.Nodes.length->j<n.Nodes.length->(ab n i).Kind=1->(ab n j).Kind=1->(ab n i).A.toNat=(ab n j).A.toNat->i=j) {c:MSt I M T} {a b:Nat × Nat} {x y:I} (ha:okMv n a) (hb:okMv n b) (hne:a.1≠b.1) (hy:hdM E n c b=some y):hdM E n (goM E n c a x) b=some y:=by
 unfold hdM at hy ⊢;by_cases h1:(ab n b.1).Kind=1
 ·rw [if_pos h1] at hy ⊢;rw [<- hy];congr 1;unfold goM;simp only;split
  ·rename_i h2;exact lO _ _ (fun e=>hne (hsrc a.1 b.1 ha.1 hb.1 h2 h1 e.symm))
  ·rfl
 ·rw [if_neg h1] at hy ⊢;have hrb:=lJ hR hb h1;unfold goM;simp only;have hno:¬ ((ab n a.1).Kind≠1/\aT (ab n b.1) b.2=aT (ab n a.1) a.2):=fun ⟨e1,e2⟩=>by
   have hra:=lJ hR ha e1;rw [<- e2] at hra;exact hne (hR.oneI a.1 b.1 _ ha.1 hb.1 hra hrb)
  rw [if_neg hno];cases hl:c.rg (aT (ab n b.1) b.2) with
  | nil=>rw [hl] at hy;cases hy
  | cons z zs=>rw [hl] at hy;exact hy
theorem sU (hR:RightN n) {c:MSt I M T} {a b:Nat × Nat} {x y:I} (hne:a.1≠b.1) (h6:(ab n a.1).Kind≠6∨(ab n b.1).Kind≠6∨∀ t i k,E.tick t i k=t):mkM E n (goM E n c a x) b y=mkM E n c b y:=by
 have e1:(goM E n c a x).mm b.1=c.mm b.1:=lO _ _ (fun e=>hne e.symm);have e2:inM E n (goM E n c a x) b y=inM E n c b y:=by
  unfold inM;by_cases hb:(ab n b.1).Kind=6
  ·rw [if_pos hb,if_pos hb];congr 1;unfold goM;simp only;split
   ·rename_i ha;rcases h6 with h6 | h6 | h6
    ·exact absurd ha h6
    ·exact absurd hb h6
    ·exact h6 _ _ _
   ·rfl
  ·rw [if_neg hb,if_neg hb]
 unfold mkM;rw [e1,e2]
theorem lT (hR:RightN n) {m:Nat × Nat} (h:okMv n m) (x:I):∀ r,r∈toM E n m x->r∈(ab n m.1).Out:=fF hR h.1 _
theorem rW (hR:RightN n) {c:MSt I M T} {a b:Nat × Nat} {x y:I} (ha:okMv n a) (hb:okMv n b) (hne:a.1≠b.1) (hf:fitM room c (toM E n b y)):fitM room (goM E n c a x) (toM E n b y):=by
 intro R hRm r hr;have h1:=hf R hRm r hr;have hrb:=lT hR hb y r hr;have h0:=(hR.outR b.1 hb.1 r hrb).1;unfold goM;simp only;have hno:¬ ((r.toNat:Nat):Int)∈toM E n a x:=fun e=>by
  rw [Int.toNat_of_nonneg h0] at e;exact hne (hR.oneO a.1 b.1 r ha.1 hb.1 (lT hR ha x r e) hrb)
 rw [if_neg hno,List.append_nil];split
 ·rw [List.length_tail];omega
 ·exact h1
theorem Bv (hR:RightN n) (hsrc:∀ i j,i<n.Nodes.length->j<n.Nodes.length->(ab n i).Kind=1->(ab n j).Kind=1->(ab n i).A.toNat=(ab n j).A.toNat->i=j) {c:MSt I M T} {a b:Nat × Nat} {x y:I} (ha:okMv n a) (hb:okMv n b) (hne:a.1≠b.1) (h6:(ab n a.1).Kind≠6∨(ab n b.1).Kind≠6∨∀ t i k,E.tick t i k=t)
  (hx:hdM E n c a=some x) (hy:hdM E n c b=some y):goM E n (goM E n c a x) b y=goM E n (goM E n c b y) a x:=by
 have h6':(ab n b.1).Kind≠6∨(ab n a.1).Kind≠6∨∀ t i k,E.tick t i k=t:=by rcases h6 with h | h | h;exact .inr (.inl h);exact .inl h;exact .inr (.inr h)
 have m1:=sU (E:=E) hR (c:=c) (x:=x) (y:=y) hne h6
 have m2:=sU (E:=E) hR (c:=c) (x:=y) (y:=x) (fun e=>hne e.symm) h6'
 have e:∀ (p q:MSt I M T),p.pos=q.pos->p.rg=q.rg->p.mm=q.mm->p.out=q.out->p.tr=q.tr->p=q:=fun p q h1 h2 h3 h4 h5=>by cases p;cases q;simp_all
 refine e _ _ ?_ ?_ ?_ ?_ ?_
 ·show (if (ab n b.1).Kind=1 then upd (goM E n c a x).pos _ ((goM E n c a x).pos _+1) else (goM E n c a x).pos)=(if (ab n a.1).Kind=1 then upd (goM E n c b y).pos _ ((goM E n c b y).pos _+1) else (goM E n c b y).pos)
  have p1:(goM E n c a x).pos=if (ab n a.1).Kind=1 then upd c.pos (ab n a.1).A.toNat (c.pos (ab n a.1).A.toNat+1) else c.pos:=rfl
  have p2:(goM E n c b y).pos=if (ab n b.1).Kind=1 then upd c.pos (ab n b.1).A.toNat (c.pos (ab n b.1).A.toNat+1) else c.pos:=rfl
  rw [p1,p2]
  by_cases h1:(ab n a.1).Kind=1<;>by_cases h2:(ab n b.1).Kind=1
  ·have hA:(ab n a.1).A.toNat≠(ab n b.1).A.toNat:=fun e=>hne (hsrc _ _ ha.1 hb.1 h1 h2 e)
   simp only [h1,h2,if_true]
   rw [lO _ _ (fun e=>hA e.symm),lO _ _ hA]
   exact ui _ _ _ hA
  ·simp only [h1,h2,if_true,if_false]
  ·simp only [h1,h2,if_true,if_false]
  ·simp only [h1,h2,if_false]
 ·funext r
  show (if (ab n b.1).Kind≠1/\r=aT (ab n b.1) b.2 then ((goM E n c a x).rg r).tail else (goM E n c a x).rg r)++(if (r:Int)∈toM E n b y then [(mkM E n (goM E n c a x) b y).2] else []) =
   (if (ab n a.1).Kind≠1/\r=aT (ab n a.1) a.2 then ((goM E n c b y).rg r).tail else (goM E n c b y).rg r)++(if (r:Int)∈toM E n a x then [(mkM E n (goM E n c b y) a x).2] else [])
  rw [m1,m2]
  have p1:(goM E n c a x).rg r=(if (ab n a.1).Kind≠1/\r=aT (ab n a.1) a.2 then (c.rg r).tail else c.rg r)++if (r:Int)∈toM E n a x then [(mkM E n c a x).2] else []:=rfl
  have p2:(goM E n c b y).rg r=(if (ab n b.1).Kind≠1/\r=aT (ab n b.1) b.2 then (c.rg r).tail else c.rg r)++if (r:Int)∈toM E n b y then [(mkM E n c b y).2] else []:=rfl
  rw [p1,p2]
  have ht:¬ (((r:Int)∈toM E n a x)/\((r:Int)∈toM E n b y)):=fun ⟨h1,h2⟩=>hne (hR.oneO _ _ _ ha.1 hb.1 (lT hR ha x _ h1) (lT hR hb y _ h2))
  have hi:¬ (((ab n a.1).Kind≠1/\r=aT (ab n a.1) a.2)/\((ab n b.1).Kind≠1/\r=aT (ab n b.1) b.2)):=fun ⟨⟨h1,h2⟩,h3,h4⟩=>by
   have q1:=lJ hR ha h1;have q2:=lJ hR hb h3;rw [<- h2] at q1;rw [<- h4] at q2;exact hne (hR.oneI _ _ _ ha.1 hb.1 q1 q2)
  have hna:((ab n a.1).Kind≠1/\r=aT (ab n a.1) a.2)->c.rg r≠[]:=fun ⟨h1,h2⟩ e=>by
   unfold hdM at hx;rw [if_neg h1,<- h2,e] at hx;cases hx
  have hnb:((ab n b.1).Kind≠1/\r=aT (ab n b.1) b.2)->c.rg r≠[]:=fun ⟨h1,h2⟩ e=>by
   unfold hdM at hy;rw [if_neg h1,<- h2,e] at hy;cases hy
  have tl:∀ (l z:List I),l≠[]->(l++z).tail=l.tail++z:=fun l z h=>by cases l with | nil=>exact absurd rfl h | cons _ _=>rfl
  by_cases ca:(ab n a.1).Kind≠1/\r=aT (ab n a.1) a.2
  ·have cb:¬ ((ab n b.1).Kind≠1/\r=aT (ab n b.1) b.2):=fun h=>hi ⟨ca,h⟩
   rw [if_pos ca,if_neg cb,if_pos ca,if_neg cb,tl _ _ (hna ca)]
   by_cases t1:(r:Int)∈toM E n a x
   ·have t2:¬ (r:Int)∈toM E n b y:=fun h=>ht ⟨t1,h⟩
    rw [if_pos t1,if_neg t2,List.append_nil,List.append_nil]
   ·rw [if_neg t1,List.append_nil,List.append_nil]
  ·rw [if_neg ca,if_neg ca]
   by_cases cb:(ab n b.1).Kind≠1/\r=aT (ab n b.1) b.2
   ·rw [if_pos cb,if_pos cb,tl _ _ (hnb cb)]
    by_cases t1:(r:Int)∈toM E n a x
    ·have t2:¬ (r:Int)∈toM E n b y:=fun h=>ht ⟨t1,h⟩
     rw [if_pos t1,if_neg t2,List.append_nil,List.append_nil]
    ·rw [if_neg t1,List.append_nil,List.append_nil]
   ·rw [if_neg cb,if_neg cb]
    by_cases t1:(r:Int)∈toM E n a x
    ·have t2:¬ (r:Int)∈toM E n b y:=fun h=>ht ⟨t1,h⟩
     rw [if_pos t1,if_neg t2,List.append_nil,List.append_nil]
    ·rw [if_neg t1,List.append_nil,List.append_nil]
 ·show upd (upd c.mm a.1 _) b.1 _=upd (upd c.mm b.1 _) a.1 _
  rw [m1,m2]
  exact ui _ _ _ hne
 ·show (if (ab n b.1).Kind=8 then (if (ab n a.1).Kind=8 then c.out++[_] else c.out)++[_] else if (ab n a.1).Kind=8 then c.out++[_] else c.out)=(if (ab n a.1).Kind=8 then (if (ab n b.1).Kind=8 then c.out++[_] else c.out)++[_] else if (ab n b.1).Kind=8 then c.out++[_] else c.out)
  rw [m1,m2]
  by_cases h1:(ab n a.1).Kind=8<;>by_cases h2:(ab n b.1).Kind=8
  ·exact absurd (hR.sink1 _ _ ha.1 hb.1 h1 h2) hne
  ·simp only [h1,h2,if_true,if_false]
  ·simp only [h1,h2,if_true,if_false]
  ·simp only [h1,h2,if_false]
 ·show (if (ab n b.1).Kind=6 then E.tick (if (ab n a.1).Kind=6 then E.tick c.tr a.1 a.2 else c.tr) b.1 b.2 else if (ab n a.1).Kind=6 then E.tick c.tr a.1 a.2 else c.tr)=(if (ab n a.1).Kind=6 then E.tick (if (ab n b.1).Kind=6 then E.tick c.tr b.1 b.2 else c.tr) a.1 a.2 else if (ab n b.1).Kind=6 then E.tick c.tr b.1 b.2 else c.tr)
  by_cases h1:(ab n a.1).Kind=6<;>by_cases h2:(ab n b.1).Kind=6
  ·rcases h6 with h | h | h
   ·exact absurd h1 h
   ·exact absurd h2 h
   ·simp only [h,h1,h2,if_true]
  ·simp only [h1,h2,if_true,if_false]
  ·simp only [h1,h2,if_true,if_false]
  ·simp only [h1,h2,if_false]
abbrev SrcN (n:Net):Prop:=∀ i j,i<n.Nodes.length->j<n.Nodes.length->(ab n i).Kind=1->(ab n j).Kind=1->(ab n i).A.toNat=(ab n j).A.toNat->i=j
theorem diamond (hR:RightN n) (hsrc:SrcN n) {c c1 c2:MSt I M T} {a b:Nat × Nat} (h1:Ex E n room c a c1) (h2:Ex E n room c b c2) (hne:a.1≠b.1) (h6:(ab n a.1).Kind≠6∨(ab n b.1).Kind≠6∨∀ t i k,E.tick t i k=t):∃ d,Ex E n room c1 b d/\Ex E n room c2 a d:=by
 obtain ⟨ha,x,hx,fx,rfl⟩:=h1;obtain ⟨hb,y,hy,fy,rfl⟩:=h2;refine ⟨_,⟨hb,y,tX hR hsrc ha hb hne hy,rW hR ha hb hne fy,rfl⟩,⟨ha,x,tX hR hsrc hb ha (fun e=>hne e.symm) hx,rW hR hb ha (fun e=>hne e.symm) fx,?_⟩⟩;exact Bv hR hsrc ha hb hne h6 hx hy
def aW (i:Nat) (w:List (Nat × Nat)):List (Nat × Nat):=w.filter fun m=>decide (m.1=i)
theorem cK (i:Nat) (m:Nat × Nat) (w:List (Nat × Nat)):aW i (m::w)=if m.1=i then m::aW i w else aW i w:=by
 unfold aW;by_cases h:m.1=i
 ·rw [if_pos h,List.filter_cons_of_pos (by simpa using h)]
 ·rw [if_neg h,List.filter_cons_of_neg (by simpa using h)]
theorem cM (i:Nat) (u w:List (Nat × Nat)):aW i (u++w)=aW i u++aW i w:=List.filter_append ..
section
variable (hR:RightN n) (hsrc:SrcN n) (htk:∀ t i k,E.tick t i k=t)
include hR hsrc htk
theorem sM {a:Nat × Nat}:∀ {p:List (Nat × Nat)} {c c1 d:MSt I M T},Run E n room c p d->Ex E n room c a c1->aW a.1 p=[]->∃ e,Run E n room c1 p e/\Ex E n room d a e:=by
 intro p;induction p with
 | nil=>intro c c1 d h h1 _;cases h;exact ⟨c1,.nil c1,h1⟩
 | cons b p ih =>
  intro c c1 d h h1 hp;rw [cK] at hp;split at hp
  ·cases hp
  ·rename_i hne;cases h with
   | cons hb ht =>
    obtain ⟨f,f1,f2⟩:=diamond hR hsrc h1 hb (fun e=>hne e.symm) (.inr (.inr htk));obtain ⟨e,e1,e2⟩:=ih ht f2 hp;exact ⟨e,.cons f1 e1,e2⟩
theorem Bc {a:Nat × Nat} {p q:List (Nat × Nat)} {c c1 d:MSt I M T} (h:Run E n room c (p++a::q) d) (h1:Ex E n room c a c1) (hp:aW a.1 p=[]):Run E n room c1 (p++q) d:=by
 obtain ⟨f,f1,f2⟩:=h.split;obtain ⟨e,e1,e2⟩:=sM hR hsrc htk f1 h1 hp;cases f2 with
 | cons g1 g2=>rw [e2.det g1] at e1;exact e1.app g2
omit hR hsrc htk in
theorem yJ {i:Nat} {a:Nat × Nat} {l:List (Nat × Nat)}:∀ {v:List (Nat × Nat)},aW i v=a::l->∃ p q,v=p++a::q/\aW i p=[]/\aW i q=l:=by
 intro v;induction v with
 | nil=>intro h;cases h
 | cons b v ih =>
  intro h;rw [cK] at h;split at h
  ·cases h;exact ⟨[],v,rfl,rfl,rfl⟩
  ·rename_i hne;obtain ⟨p,q,h1,h2,h3⟩:=ih h;exact ⟨b::p,q,by rw [h1];rfl,by rw [cK,if_neg hne];exact h2,h3⟩
def Comp {α:Type} (x y:List α):Prop:=x <+: y∨y <+: x
theorem AR:∀ {u v:List (Nat × Nat)} {c c1 c2:MSt I M T},Run E n room c u c1->Run E n room c v c2->(∀ i,Comp (aW i u) (aW i v)) ->
  ∃ u' v' d,Run E n room c1 u' d/\Run E n room c2 v' d/\∀ i,aW i (u++u')=aW i (v++v')/\(aW i u'=[]∨aW i v'=[]):=by
 intro u
 induction u with
 | nil =>
  intro v c c1 c2 hu hv _
  cases hu
  exact ⟨v,[],c2,hv,.nil c2,fun i=>⟨by simp,.inr rfl⟩⟩
 | cons a u ih =>
  intro v c c1 c2 hu hv hc
  cases hu with
  | @cons _ f _ _ _ ha ht =>
   cases hpv:aW a.1 v with
   | nil =>
    obtain ⟨e,e1,e2⟩:=sM hR hsrc htk hv ha hpv
    obtain ⟨u',v',d,d1,d2,d3⟩:=ih ht e1 (fun i=>by
     have:=hc i;rw [cK] at this;split at this
     ·rename_i hi;subst hi;rw [hpv];exact .inr (List.nil_prefix)
     ·exact this)
    refine ⟨u',a::v',d,d1,.cons e2 d2,fun i=>?_⟩
    have h3:=(d3 i).1
    have h4:=(d3 i).2
    rw [cM] at h3
    by_cases hi:a.1=i
    ·subst hi
     rw [cM,cM,cK,cK,if_pos rfl,if_pos rfl,hpv]
     rw [cM,hpv] at h3
     refine ⟨by simpa using h3,?_⟩
     rcases h4 with h4 | h4
     ·exact .inl h4
     ·rw [h4] at h3
      simp at h3
      exact .inl h3.2
    ·rw [cM,cM,cK,cK,if_neg hi,if_neg hi]
     rw [cM] at h3
     exact ⟨h3,h4⟩
   | cons b l =>
    have hab:b=a:=by
     have:=hc a.1;rw [cK,if_pos rfl,hpv] at this;rcases this with ⟨t,ht⟩ | ⟨t,ht⟩
     ·simp at ht;exact ht.1.symm
     ·simp at ht;exact ht.1
    subst hab
    obtain ⟨p,q,rfl,hp,hq⟩:=yJ hpv
    have hv2:=Bc hR hsrc htk hv ha hp
    have hpi:∀ i,b.1≠i->aW i (p++q)=aW i (p++b::q):=fun i hi=>by
     rw [cM,cM,cK,if_neg hi]
    obtain ⟨u',v',d,d1,d2,d3⟩:=ih ht hv2 (fun i=>by
     have:=hc i;rw [cK] at this;by_cases hi:b.1=i
     ·subst hi;rw [if_pos rfl,hpv] at this;rw [cM,hp,List.nil_append,hq];rcases this with h | h
      ·exact .inl ((List.prefix_cons_inj b).1 h)
      ·exact .inr ((List.prefix_cons_inj b).1 h)
     ·rw [if_neg hi] at this;rw [hpi i hi];exact this)
    refine ⟨u',v',d,d1,d2,fun i=>⟨?_,(d3 i).2⟩⟩
    have h3:=(d3 i).1
    rw [cM,cM] at h3
    by_cases hi:b.1=i
    ·subst hi
     rw [cM,cM,cK,if_pos rfl,hpv]
     rw [cM,hp,hq] at h3
     simpa using h3
    ·rw [cM,cK,if_neg hi,cM,<- hpi i hi]
     exact h3
end
end
end
noncomputable section
section
variable {n:Net} {items:List (List Item)} {B:Int} {s:State}
theorem gN (hR:RightN n) {i:Nat} (hi:i<n.Nodes.length):aI (ab n i)<=16:=by
 unfold aI;split
 ·have:=r7 (hR.ndI i hi) (hR.inR i hi) hR.r1;have:=hR.r2;omega
 ·omega
theorem tG (hS:RightS n items) (ok:OkS n items B s) {i:Nat} (hi:i<n.Nodes.length):∀ (m k:Nat) (acc:List Move),k+m=aI (ab n i)->acc.length+m<=1000000 ->
  iter (fun ss:Int × (List Move)=>dZ n items (i:Int) s (aI (ab n i):Int) ss.1 ss.2) ((k:Int),acc)=some (.inl (((i+1:Nat):Int),acc++(((List.range (aI (ab n i))).drop k).filter fun k=>bc n items s i k).map fun k:Nat=>(⟨i,k⟩:Move)))
 | 0,k,acc,h,ha=>by
  have hk:k=aI (ab n i):=by omega
  have e:dZ n items (i:Int) s (aI (ab n i):Int) (k:Int) acc=some (.inr (.inl (((i+1:Nat):Int),acc))):=by
   unfold dZ;have:=hS.n2;rw [if_neg (by simp;omega),aJ (by omega)];rfl
  rw [an];simp only [e];rw [List.drop_of_length_le (by simp;omega)];simp
 | m+1,k,acc,h,ha=>by
  have hk:k<aI (ab n i):=by omega
  have h16:=gN hS.toRightN hi;have hd:(List.range (aI (ab n i))).drop k=k::(List.range (aI (ab n i))).drop (k+1):=by
   rw [List.drop_eq_getElem_cons (by simpa using hk),List.getElem_range]
  have e:dZ n items (i:Int) s (aI (ab n i):Int) (k:Int) acc=some (.inl (((k+1:Nat):Int),if bc n items s i k=true then acc++[⟨i,k⟩] else acc)):=by
   unfold dZ;rw [if_pos (by simp;omega),we hS ok hi hk,Option.bind_some,aJ (by omega)];cases bc n items s i k with
   | true=>rw [if_pos rfl,if_pos rfl,bB (by simp;omega)];rfl
   | false=>rw [if_neg (by decide),if_neg (by decide)]
  rw [an];simp only [e];rw [tG hS ok hi m (k+1) _ (by omega) (by split<;>(try simp)<;>omega),hd,List.filter_cons];cases bc n items s i k<;>simp
theorem oG (hR:RightN n) {i:Nat} (hi:i<n.Nodes.length):(eU n items s i).length<=16:=by
 unfold eU;rw [List.length_map];have:=List.length_filter_le (fun k=>bc n items s i k) (List.range (aI (ab n i)));have:=gN hR hi;simp at *;omega
theorem rY (hS:RightS n items) (ok:OkS n items B s):∀ (m i:Nat) (acc:List Move),i+m=n.Nodes.length->acc.length+16*m<=1000 ->
  iter (fun ss:Int × (List Move)=>gn n items s ss.1 ss.2) ((i:Int),acc)=some (acc++((List.range n.Nodes.length).drop i).flatMap fun i=>eU n items s i)
 | 0,i,acc,h,ha=>by
  have hk:i=n.Nodes.length:=by omega
  have e:gn n items s (i:Int) acc=some (.inr acc):=by
   unfold gn;rw [if_neg (by simp;omega)];rfl
  rw [an];simp only [e];rw [List.drop_of_length_le (by simp;omega)];simp
 | m + 1,i,acc,h,ha=>by
  have hi:i<n.Nodes.length:=by omega
  have hd:(List.range n.Nodes.length).drop i=i::(List.range n.Nodes.length).drop (i+1):=by
   rw [List.drop_eq_getElem_cons (by simpa using hi),List.getElem_range]
  have hin:=tG hS ok hi (aI (ab n i)) 0 acc (by omega) (by have:=gN hS.toRightN hi;omega);have e:gn n items s (i:Int) acc=some (.inl (((i+1:Nat):Int),acc++eU n items s i)):=by
   unfold gn jp;rw [if_pos (by simp;omega),aN (eH hi),Option.bind_some];have hl:(if ((ab n i).Kind==6)=true then iter (fun ss_36:Int × (List Move)=>dZ n items (i:Int) s ((ab n i).In.length:Int) ss_36.1 ss_36.2) (0,acc) else iter (fun ss_36:Int × (List Move)=>dZ n items (i:Int) s 1 ss_36.1 ss_36.2) (0,acc)) =
     iter (fun ss:Int × (List Move)=>dZ n items (i:Int) s (aI (ab n i):Int) ss.1 ss.2) (0,acc):=by
    unfold aI
    by_cases h6:(ab n i).Kind=6
    ·rw [if_pos (by simpa using h6),if_pos h6]
    ·rw [if_neg (by simpa using h6),if_neg h6];rfl
   rw [hl];rw [Int.natCast_zero] at hin;rw [hin,List.drop_zero];rfl
  rw [an];simp only [e];have h16:=oG (items:=items) (s:=s) hS.toRightN hi;rw [rY hS ok m (i+1) _ (by omega) (by rw [List.length_append];omega),hd,List.flatMap_cons,List.append_assoc]
theorem A8 (hS:RightS n items) (ok:OkS n items B s):k0 n items s=some (ak n items s):=by
 unfold k0;have:=rY hS ok n.Nodes.length 0 [] (by omega) (by have:=hS.n2;simp;omega);rw [Int.natCast_zero,List.drop_zero,List.nil_append] at this;exact this
theorem dL {m:Move} (h:m∈ak n items s):∃ i k:Nat,m=⟨i,k⟩/\i<n.Nodes.length/\k<aI (ab n i)/\bc n items s i k=true:=by
 unfold ak at h;obtain ⟨i,hi,hm⟩:=List.mem_flatMap.1 h;unfold eU at hm;obtain ⟨k,hk,rfl⟩:=List.mem_map.1 hm;obtain ⟨h1,h2⟩:=List.mem_filter.1 hk;exact ⟨i,k,rfl,by simpa using hi,by simpa using h1,h2⟩
theorem rh {i k:Nat} (hi:i<n.Nodes.length) (hk:k<aI (ab n i)) (hc:bc n items s i k=true):(⟨i,k⟩:Move)∈ak n items s :=
 List.mem_flatMap.2 ⟨i,by simpa using hi,List.mem_map.2 ⟨k,List.mem_filter.2 ⟨by simpa using hk,hc⟩,rfl⟩⟩
theorem ii (hR:RightN n):(ak n items s).length<=192:=by
 have h:∀ (l:List Nat),(∀ i,i∈l->i<n.Nodes.length)->(l.flatMap fun i=>eU n items s i).length<=16*l.length:=by
  intro l;induction l with
  | nil=>intro _;simp
  | cons a l ih =>
   intro h;have h1:=oG (items:=items) (s:=s) hR (h a List.mem_cons_self);have h2:=ih fun i hi=>h i (List.mem_cons_of_mem _ hi)
   rw [List.flatMap_cons,List.length_append,List.length_cons];omega
 have:=h (List.range n.Nodes.length) (fun i hi=>by simpa using hi);have h2:=hR.n2;rw [List.length_range] at this;unfold ak;omega
def doMv (n:Net) (items:List (List Item)) (s:State) (m:Move):State:=doM n items s m.Node.toNat m.Lane.toNat
def wsum (w:Nat->Nat):Nat->List (List Item)->Nat
 | _,[]=>0
 | k,l::R=>l.length*w k+wsum w (k+1) R
def er:List (List Item)->List Int->Nat
 | l::ls,p::ps=>(l.length - p.toNat)+er ls ps
 | _,_=>0
theorem o9 (w:Nat->Nat) (x:List Item):∀ (R:List (List Item)) (k j:Nat),j<R.length->wsum w k (R.set j x)+(R.getD j []).length*w (k+j)=wsum w k R+x.length*w (k+j)
 | [],k,j,h=>by simp at h
 | l::R,k,0,h=>by simp [wsum];omega
 | l::R,k,j+1,h=>by
  have:=o9 w x R (k+1) j (by simpa using h);have e:k+1+j=k+(j+1):=by omega
  rw [e] at this;simp only [List.set_cons_succ,wsum,List.getD_cons_succ];omega
theorem sa:∀ (ls:List (List Item)) (ps:List Int) (a:Nat),a<ps.length->0<=ps.getD a 0->(ps.getD a 0).toNat<(ls.getD a []).length->er ls (ps.set a (ps.getD a 0+1))+1=er ls ps
 | ls,[],a,h,_,_=>by simp at h
 | [],p::ps,a,h,_,h2=>by simp at h2
 | l::ls,p::ps,0,h,h0,h2=>by
  simp only [List.getD_cons_zero] at h0 h2 ⊢;simp only [List.set_cons_zero,er];omega
 | l::ls,p::ps,a+1,h,h0,h2=>by
  simp only [List.getD_cons_succ] at h0 h2 ⊢;have:=sa ls ps a (by simpa using h) h0 h2;simp only [List.set_cons_succ,er];omega
theorem t8 (w:Nat->Nat) (y:Item):∀ (l:List Int) (R:List (List Item)),(∀ r,r∈l->0<=r/\r<R.length)->wsum w 0 (bw y l R)=wsum w 0 R+(l.map fun r=>w r.toNat).sum
 | [],R,_=>by simp [bw]
 | r::l,R,h=>by
  have hr:=h r List.mem_cons_self;show wsum w 0 (bw y l (R.set r.toNat (R.getD r.toNat []++[y])))=_;rw [t8 w y l _ (fun q hq=>by have:=h q (List.mem_cons_of_mem _ hq);simpa using this)];have:=o9 w (R.getD r.toNat []++[y]) R 0 r.toNat (by omega);rw [List.length_append,Nat.add_mul,List.length_singleton,Nat.one_mul,Nat.zero_add] at this;rw [List.map_cons,List.sum_cons];omega
def qe (n:Net) (r:Nat):Nat:=((List.range n.Nodes.length).find? fun i=>decide ((r:Int)∈(ab n i).In)).getD 0
theorem rK (hR:RightN n) {i:Nat} (hi:i<n.Nodes.length) {r:Int} (hr:r∈(ab n i).In):qe n r.toNat=i:=by
 have h0:=hR.inR i hi r hr;unfold qe;cases h:(List.range n.Nodes.length).find? fun i=>decide ((r.toNat:Int)∈(ab n i).In) with
 | none =>
  rw [List.find?_eq_none] at h;have:=h i (by simpa using hi);rw [Int.toNat_of_nonneg h0.1] at this;simp [hr] at this
 | some j =>
  have h1:=List.find?_some h;have h2:=List.mem_of_find?_eq_some h;rw [Int.toNat_of_nonneg h0.1] at h1;exact hR.oneI j i r (by simpa using h2) hi (by simpa using h1) hr
open Classical in
noncomputable def b8 (n:Net):Nat->Nat:=if h:RightN n then Classical.choose h.ord else fun _=>0
theorem oR (hR:RightN n):(∀ i,i<n.Nodes.length->b8 n i<n.Nodes.length)/\(∀ i j,i<n.Nodes.length->j<n.Nodes.length->b8 n i=b8 n j->i=j)/\∀ i j r,i<n.Nodes.length->j<n.Nodes.length->r∈(ab n i).Out->r∈(ab n j).In->b8 n i<b8 n j:=by
 have:b8 n=Classical.choose hR.ord:=by unfold b8;rw [dif_pos hR]
 rw [this];exact Classical.choose_spec hR.ord
def wN (n:Net) (r:Nat):Nat:=17 ^ (12 - b8 n (qe n r))
def muN (n:Net) (items:List (List Item)) (s:State):Nat:=wsum (wN n) 0 s.Rings+er items s.At*17 ^ 12
theorem C4 (hR:RightN n) {i:Nat} (hi:i<n.Nodes.length) (key:Int):((aQ (ab n i) key).map fun r=>wN n r.toNat).sum<17 ^ (12 - b8 n i):=by
 obtain ⟨p1,_,p2⟩:=oR hR;have hpi:=p1 i hi;have hn:=hR.n2;have hb:∀ r,r∈aQ (ab n i) key->wN n r.toNat<=17 ^ (11 - b8 n i):=fun r hr=>by
  have hro:=fF hR hi key r hr;have h0:=hR.outR i hi r hro;obtain ⟨j,hj,hrj⟩:=hR.toI r.toNat (by omega);rw [Int.toNat_of_nonneg h0.1] at hrj;have h1:=p2 i j r hi hj hro hrj;have h2:=p1 j hj;unfold wN;rw [rK hR hj hrj];exact Nat.pow_le_pow_right (by omega) (by omega)
 have hsum:∀ (l:List Int),(∀ r,r∈l->wN n r.toNat<=17 ^ (11 - b8 n i))->(l.map fun r=>wN n r.toNat).sum<=l.length*17 ^ (11 - b8 n i):=by
  intro l;induction l with
  | nil=>intro _;simp
  | cons a l ih =>
   intro h;have h1:=h a List.mem_cons_self;have h2:=ih fun r hr=>h r (List.mem_cons_of_mem _ hr)
   rw [List.map_cons,List.sum_cons,List.length_cons,Nat.add_mul,Nat.one_mul];omega
 have h1:=hsum _ hb;have h2:(aQ (ab n i) key).length<=16:=by
  unfold aQ;split
  ·simp
  ·exact jY hR hi
 have h3:(aQ (ab n i) key).length*17 ^ (11 - b8 n i)<=16*17 ^ (11 - b8 n i):=Nat.mul_le_mul_right _ h2;have e:12 - b8 n i=(11 - b8 n i)+1:=by omega
 have h4:17 ^ (12 - b8 n i)=17 ^ (11 - b8 n i)*17:=by rw [e,Nat.pow_succ]
 have h5:0<17 ^ (11 - b8 n i):=Nat.pow_pos (by omega);omega
theorem mu_do (hS:RightS n items) (ok:OkS n items B s) {i k:Nat} (hi:i<n.Nodes.length) (hk:k<aI (ab n i)) (hc:bc n items s i k=true):muN n items (doM n items s i k)+1<=muN n items s:=by
 obtain ⟨it,hh,hroom,h500,h2000⟩:=jP hc;have hR:=hS.toRightN;have hrg:=ok.rg;have hw:=C4 hR hi it.Key;have hrl:∀ r,r∈aQ (ab n i) it.Key->0<=r/\r<(bC n s i k).length:=fun r hr=>by
  have:=hR.outR i hi r (fF hR hi _ r hr);rw [mJ];omega
 have hput:=t8 (wN n) (bb n s i it).2 _ _ hrl;have hrings:(doM n items s i k).Rings=bw (bb n s i it).2 (aQ (ab n i) it.Key) (bC n s i k):=by unfold doM;simp only [hh];rfl
 unfold muN;rw [hrings,hput,do_at hh];by_cases h1:(ab n i).Kind=1
 ·obtain ⟨a0,a1,a2,a3,a4,a5⟩:=at_ok hS ok hi h1;unfold bD at hh;rw [if_pos h1] at hh;have h2:=(List.getElem?_eq_some_iff.1 hh).1;have h3:=sa items s.At (ab n i).A.toNat (by omega) a3 h2;rw [if_pos h1];unfold bC;rw [if_pos h1];have h4:17 ^ (12 - b8 n i)<=17 ^ 12:=Nat.pow_le_pow_right (by omega) (by omega);rw [<- h3,Nat.add_mul,Nat.one_mul];omega
 ·have hkl:=iK hR hi hk h1;obtain ⟨hm,b0,b1⟩:=iH hR hi hkl;rw [if_neg h1];unfold bC;rw [if_neg h1];unfold bD at hh;rw [if_neg h1] at hh;have h2:=o9 (wN n) (s.Rings.getD (aT (ab n i) k) []).tail s.Rings 0 (aT (ab n i) k) (by unfold aT;omega);have h3:wN n (aT (ab n i) k)=17 ^ (12 - b8 n i):=by
   unfold wN aT;rw [rK hR hi hm]
  cases hq:s.Rings.getD (aT (ab n i) k) [] with
  | nil=>rw [hq] at hh;cases hh
  | cons y ys =>
   rw [hq] at h2;rw [Nat.zero_add,h3,List.tail_cons,List.length_cons,Nat.add_mul,Nat.one_mul] at h2;rw [List.tail_cons];omega
def Inv (n:Net) (items:List (List Item)) (s:State):Prop:=∃ B:Nat,OkS n items B s/\B+muN n items s<=1000000000000000000
theorem Inv.doM (hS:RightS n items) (h:Inv n items s) {i k:Nat} (hi:i<n.Nodes.length) (hk:k<aI (ab n i)) (hc:bc n items s i k=true):Inv n items (doM n items s i k)/\muN n items (Go.Proofs.YtoelnjpolhamfaaGreatDoor.doM n items s i k)+1<=muN n items s:=by
 obtain ⟨B,ok,hB⟩:=h;have:=mu_do hS ok hi hk hc;refine ⟨⟨B+1,do_ok hS ok hi hk hc (by omega) (by omega),by omega⟩,this⟩
theorem Inv.doMv (hS:RightS n items) (h:Inv n items s) {m:Move} (hm:m∈ak n items s):Inv n items (doMv n items s m)/\muN n items (Go.Proofs.YtoelnjpolhamfaaGreatDoor.doMv n items s m)+1<=muN n items s:=by
 obtain ⟨i,k,rfl,hi,hk,hc⟩:=dL hm;exact Inv.doM hS h hi hk hc
def bn (n:Net) (items:List (List Item)):State:=⟨List.replicate items.length 0,List.replicate n.Rings.toNat [],List.replicate n.Nodes.length ⟨0,[],0⟩,[],[]⟩
theorem vH (w:Nat->Nat):∀ (m k:Nat),wsum w k (List.replicate m [])=0
 | 0,k=>rfl
 | m+1,k=>by rw [List.replicate_succ];simp [wsum,vH w m (k+1)]
theorem uc (L:Nat):∀ (ls:List (List Item)) (ps:List Int),(∀ l,l∈ls->l.length<=L)->er ls ps<=L*ls.length
 | [],ps,_=>by simp [er]
 | l::ls,[],_=>by simp [er]
 | l::ls,p::ps,h=>by
  have h1:=h l List.mem_cons_self;have h2:=uc L ls ps fun x hx=>h x (List.mem_cons_of_mem _ hx)
  simp only [er,List.length_cons,Nat.mul_add];omega
theorem lj (hS:RightS n items):Inv n items (bn n items):=by
 have hr:∀ (r:Nat) (l:List Item),(bn n items).Rings[r]?=some l->l=[]:=fun r l h=>by
  have:=List.mem_of_getElem? h;exact (List.mem_replicate.1 this).2
 refine ⟨0,⟨by simp [bn],by have:=hS.r1;simp [bn];omega,by simp [bn],by simp [bn],by simp [bn],fun a p hp=>?_,fun r l hl=>?_,fun r l x hl hx=>?_,fun i m hm=>?_,fun c hc=>by simp [bn] at hc,fun x hx=>by simp [bn] at hx⟩,?_⟩
 ·have:=(List.mem_replicate.1 (List.mem_of_getElem? hp)).2;subst this;exact ⟨Int.le_refl _,by omega⟩
 ·rw [hr r l hl];have:=hS.m1;simp;omega
 ·rw [hr r l hl] at hx;cases hx
 ·have:=(List.mem_replicate.1 (List.mem_of_getElem? hm)).2;subst this;refine ⟨⟨by simp,fun x hx=>(by cases hx),fun i j x y _ h=>(by simp at h),by simp⟩,by simp [bn],fun y hy=>(by cases hy)⟩
 ·have h1:=uc 20 items (bn n items).At (fun l hl=>by
   obtain ⟨a,ha⟩:=List.getElem?_of_mem hl;exact hS.l20 a l ha)
  have h2:=hS.l4;unfold muN;have:wsum (wN n) 0 (bn n items).Rings=0:=vH _ _ _;rw [this];have h3:er items (bn n items).At<=80:=by omega
  have h4:=Nat.mul_le_mul_right (17 ^ 12) h3;omega
theorem AK (hS:RightS n items) (hio:∀ x∈n.Nodes,x.In.length<=1099511627776/\x.Out.length<=1099511627776):k7 n items=some (bn n items):=by
 unfold k7;have h1:=hS.r1;have h2:=hS.r2;have h3:=hS.n2;have h4:=hS.l4;have e1:mk ((items.length:Nat):Int) (0:Int)=some (List.replicate items.length 0):=by unfold mk;rw [if_pos (by omega)];simp
 have e2:mk n.Rings ([]:List Item)=some (List.replicate n.Rings.toNat []):=by unfold mk;rw [if_pos (by omega)]
 have e3:mk ((n.Nodes.length:Nat):Int) (⟨0,[],0⟩:Memory)=some (List.replicate n.Nodes.length ⟨0,[],0⟩):=by unfold mk;rw [if_pos (by omega)];simp
 simp only [e1,e2,e3,Option.bind_some];rfl
def noS:State:=⟨[],[],[],[],[]⟩
end
end
noncomputable section
def cT {α ρ:Type} (f:Nat->α->Option ρ):Nat->List α->Option ρ
 | _,[]=>none
 | k,x::xs=>match f k x with
  | some r=>some r
  | none=>cT f (k+1) xs
theorem lE {α ρ:Type} (xs:List α) (hx:xs.length<=1099511627776) (f:Nat->α->Option ρ) (fin:Option ρ) {body:Int->Option (Int ⊕ ρ)}
  (h1:∀ (k:Nat) (x:α),xs[k]?=some x->k<xs.length->idx xs (k:Int)=some x->decide ((k:Int)<(xs.length:Int))=true->IntKind.i64.wrap ((k:Int)+1)=((k+1:Nat):Int)->body k=match f k x with | some r=>some (.inr r) | none=>some (.inl ((k+1:Nat):Int)))
  (h2:decide ((xs.length:Int)<(xs.length:Int))=false->body xs.length=fin.map .inr):iter body 0=match cT f 0 xs with | some r=>some r | none=>fin:=by
 have key:∀ (m k:Nat),k+m=xs.length->iter body k=match cT f k (xs.drop k) with | some r=>some r | none=>fin:=by
  intro m;induction m with
  | zero =>
   intro k hk;have hk:k=xs.length:=by omega
   subst hk;rw [an,h2 (by simp),List.drop_length];unfold cT;cases fin<;>rfl
  | succ m ih =>
   intro k hk;have hlt:k<xs.length:=by omega
   have hg:xs[k]?=some xs[k]:=List.getElem?_eq_getElem hlt;rw [an,h1 k _ hg hlt (aN hg) (by simp;omega) (aJ (by omega)),List.drop_eq_getElem_cons hlt];unfold cT;cases f k xs[k] with
   | some r=>rfl
   | none=>exact ih (k+1) (by omega)
 have:=key xs.length 0 (by omega)
 rw [Int.natCast_zero,List.drop_zero] at this
 exact this
theorem gE {α ρ:Type} {f:Nat->α->Option ρ}:∀ {xs:List α} {k:Nat},cT f k xs=none ↔ ∀ (j:Nat) (x:α),xs[j]?=some x->f (k+j) x=none
 | [],k=>⟨fun _ j x h=>by simp at h,fun _=>rfl⟩
 | y::xs,k=>by
  unfold cT;cases hf:f k y with
  | some r =>
   refine ⟨fun h=>(by cases h),fun h=>?_⟩;have:=h 0 y rfl;rw [Nat.add_zero,hf] at this;cases this
  | none =>
   simp only;rw [gE];constructor
   ·intro h j x hj;cases j with
    | zero=>simp at hj;subst hj;exact hf
    | succ j=>have:=h j x (by simpa using hj);rwa [show k+1+j=k+(j+1) by omega] at this
   ·intro h j x hj;have:=h (j+1) x (by simpa using hj);rwa [show k+(j+1)=k+1+j by omega] at this
def eR (s:State) (l:List Item):Bool:=l.any fun x=>decide (x.Dep<0) || decide (x.Dep > (s.Choices.length:Int))
def chkM (m:Memory):Int:=(gD m).getD 0
theorem pJ (m:Memory):gD m=some (chkM m)/\(chkM m=0 ↔ okM m):=by
 obtain ⟨c,h1,h2⟩:=oZ m;have:chkM m=c:=by unfold chkM;rw [h1];rfl
 rw [this];exact ⟨h1,h2⟩
def gQ (n:Net) (c:Choice):Bool:=decide (0<=c.Node/\c.Node<n.Nodes.length/\(ab n c.Node.toNat).Kind=6/\0<=c.Lane/\c.Lane<(ab n c.Node.toNat).In.length)
def cA (n:Net) (items:List (List Item)) (s:State):Int :=
 if aZ n items≠0 then aZ n items
 else if s.At.length≠items.length∨(s.Rings.length:Int)≠n.Rings∨s.Memory.length≠n.Nodes.length then 4
 else if 500<s.Choices.length∨2000<s.Out.length then 2
 else (cT (fun k (p:Int)=>if p<0∨p > ((items.getD k []).length:Int) then some (3:Int) else none) 0 s.At).getD
  ((cT (fun _ (l:List Item)=>if n.Room<(l.length:Int) then some (2:Int) else if eR s l=true then some 3 else none) 0 s.Rings).getD
  ((cT (fun _ (m:Memory)=>if chkM m≠0 then some (chkM m) else if m.Dep > (s.Choices.length:Int) then some 3 else none) 0 s.Memory).getD
  ((cT (fun _ (c:Choice)=>if gQ n c=true then none else some (5:Int)) 0 s.Choices).getD (if eR s s.Out=true then 3 else 0))))
theorem ra {α:Type} (o:Option α) (z:α):(match o with | some r=>some r | none=>some z)=some (o.getD z):=by cases o<;>rfl
section
variable {n:Net} {items:List (List Item)} {B:Int} {s:State}
theorem tj (s:State) (l:List Item) (hl:l.length<=1099511627776):jd l s.At s.Rings s.Memory s.Choices s.Out=some (!eR s l):=by
 unfold jd lZ l6;rw [q9 l hl (fun x=>decide (x.Dep<0) || decide (x.Dep > (s.Choices.length:Int))) (fun k x hx hk h1 h2 h3=>by
  unfold km mc;rw [h2,h1,h3];simp only [if_true,Option.bind_some];rfl) (fun h=>by
  unfold km;rw [h];rfl)]
 rw [Option.bind_some,uq];rfl
theorem zz (n:Net) (c:Choice):kY n c=some (gQ n c):=by
 unfold kY gQ;by_cases h0:0<=c.Node
 ·rw [if_pos (by simpa using h0)];by_cases h1:c.Node<n.Nodes.length
  ·have hi:idx n.Nodes c.Node=some (ab n c.Node.toNat):=dx _ h0 h1;rw [if_pos (by simpa using h1),hi,Option.bind_some];by_cases h6:(ab n c.Node.toNat).Kind=6
   ·rw [if_pos (by simpa using h6)];by_cases h2:0<=c.Lane
    ·rw [if_pos (by simpa using h2),Option.bind_some,Option.bind_some];simp [h0,h1,h6,h2]
    ·rw [if_neg (by simpa using h2)];simp [h2]
   ·rw [if_neg (by simpa using h6)];simp [h6]
  ·rw [if_neg (by simpa using h1)];simp [h1]
 ·rw [if_neg (by simpa using h0)];simp [h0]
theorem tZ (n:Net) (items:List (List Item)) (s:State) (hio:∀ x∈n.Nodes,x.In.length<=1099511627776/\x.Out.length<=1099511627776) (hr:∀ l,l∈s.Rings->l.length<=1099511627776):jC n items s=some (cA n items s):=by
 unfold jC cA;rw [qq n items hio,Option.bind_some];by_cases h:aZ n items=0
 ·have hS:=dM h;rw [if_neg (show ¬ (aZ n items != 0)=true by simp [h]),if_neg (show ¬ aZ n items≠0 by simp [h])];by_cases hl:s.At.length≠items.length∨(s.Rings.length:Int)≠n.Rings∨s.Memory.length≠n.Nodes.length
  ·rw [if_pos hl,if_pos (by simp;omega)]
  ·have h1:s.At.length=items.length:=by omega
   have h2:(s.Rings.length:Int)=n.Rings:=by omega
   have h3:s.Memory.length=n.Nodes.length:=by omega
   rw [if_neg hl,if_neg (by simp;omega)];by_cases hm:500<s.Choices.length∨2000<s.Out.length
   ·rw [if_pos hm,if_pos (by simp;omega)]
   ·rw [if_neg hm,if_neg (by simp;omega)];have h4:=hS.l4;have h5:=hS.r2;have h6:=hS.n2;rw [lE s.At (by omega) (fun k (p:Int)=>if p<0∨p > ((items.getD k []).length:Int) then some (3:Int) else none) (iter (fun ss_43:Int=>jq n s ss_43) 0) (fun k x hx hk e1 e2 e3=>by
     unfold kP;rw [e2,e1,e3];simp only [if_true,Option.bind_some];have hi:=aN (bA ([]:List Item) (show k<items.length by omega));by_cases hx0:x<0
     ·rw [if_pos (by simpa using hx0),Option.bind_some,if_pos rfl,if_pos (show x<0∨_ from .inl hx0)];rfl
     ·rw [if_neg (by simpa using hx0),hi,Option.bind_some,Option.bind_some];by_cases hx1:x > ((items.getD k []).length:Int)
      ·rw [if_pos (by simpa using hx1),if_pos (show x<0∨x > ((items.getD k []).length:Int) from .inr hx1)];rfl
      ·rw [if_neg (by simpa using hx1),if_neg (show ¬ (x<0∨x > ((items.getD k []).length:Int)) by omega)]) (fun e=>by
     unfold kP;rw [e];rfl)]
    rw [lE s.Rings (by omega) (fun _ (l:List Item)=>if n.Room<(l.length:Int) then some (2:Int) else if eR s l=true then some 3 else none) (iter (fun ss_55:Int=>jm n s ss_55) 0) (fun k x hx hk e1 e2 e3=>by
     unfold jq;rw [e2,e1,e3];simp only [if_true,Option.bind_some];rw [tj s x (hr x (List.mem_of_getElem? hx)),Option.bind_some];by_cases hx1:n.Room<(x.length:Int)
     ·rw [if_pos (by simpa using hx1),if_pos hx1];rfl
     ·rw [if_neg (by simpa using hx1),if_neg hx1];cases eR s x<;>rfl) (fun e=>by
     unfold jq;rw [e];rfl)]
    rw [lE s.Memory (by omega) (fun _ (m:Memory)=>if chkM m≠0 then some (chkM m) else if m.Dep > (s.Choices.length:Int) then some 3 else none) (iter (fun ss_55:Int=>jr n s ss_55) 0) (fun k x hx hk e1 e2 e3=>by
     unfold jm;rw [e2,e1,e3];simp only [if_true,Option.bind_some];rw [(pJ x).1,Option.bind_some];by_cases hx1:chkM x=0
     ·rw [if_neg (show ¬ (chkM x != 0)=true by simp [hx1]),if_neg (show ¬ chkM x≠0 by simp [hx1])];by_cases hx2:x.Dep > (s.Choices.length:Int)
      ·rw [if_pos (by simpa using hx2),if_pos hx2];rfl
      ·rw [if_neg (by simpa using hx2),if_neg hx2]
     ·rw [if_pos (show (chkM x != 0)=true by simpa using hx1),if_pos hx1];rfl) (fun e=>by
     unfold jm;rw [e];rfl)]
    rw [lE s.Choices (by omega) (fun _ (c:Choice)=>if gQ n c=true then none else some (5:Int)) (some (if eR s s.Out=true then 3 else 0)) (fun k x hx hk e1 e2 e3=>by
     unfold jr;rw [e2,e1,e3];simp only [if_true,Option.bind_some];rw [zz,Option.bind_some];cases gQ n x<;>rfl) (fun e=>by
     unfold jr;rw [e,tj s s.Out (by omega)];simp only [Bool.false_eq_true,if_false,Option.bind_some];cases eR s s.Out<;>rfl)]
    simp only [ra]
 ·rw [if_pos (show (aZ n items != 0)=true by simpa using h),if_pos h]
theorem mu {l:List Item}:eR s l=false ↔ ∀ x,x∈l->0<=x.Dep/\x.Dep<=s.Choices.length:=by
 unfold eR;rw [List.any_eq_false];simp only [Bool.or_eq_true,decide_eq_true_eq];exact ⟨fun h x hx=>by have:=h x hx;omega,fun h x hx=>by have:=h x hx;omega⟩
theorem nQ {o:Option Int} {z:Int} (h:o.getD z=0) (ho:∀ r,o=some r->r≠0):o=none/\z=0:=by
 cases o with
 | none=>exact ⟨rfl,h⟩
 | some r=>exact absurd h (ho r rfl)
theorem kW {α ρ:Type} {f:Nat->α->Option ρ}:∀ {xs:List α} {k:Nat} {r:ρ},cT f k xs=some r->∃ (j:Nat) (x:α),xs[j]?=some x/\f (k+j) x=some r
 | [],k,r,h=>by cases h
 | y::xs,k,r,h=>by
  unfold cT at h;split at h
  ·rename_i r' hf;cases h;exact ⟨0,y,rfl,hf⟩
  ·obtain ⟨j,x,h1,h2⟩:=kW h;exact ⟨j+1,x,by simpa using h1,by rw [<- h2];congr 1;omega⟩
theorem DE (h:cA n items s=0) (hB:∀ m,m∈s.Memory->∀ y,y∈m.Keys->y.N<=B):OkS n items B s:=by
 unfold cA at h;split at h
 ·rename_i h1;exact absurd h h1
 ·split at h
  ·exact absurd h (by decide)
  ·split at h
   ·exact absurd h (by decide)
   ·rename_i h1 h2 h3;obtain ⟨e1,h⟩:=nQ h (fun r hr=>by obtain ⟨j,x,_,h5⟩:=kW hr;split at h5<;>cases h5;decide);obtain ⟨e2,h⟩:=nQ h (fun r hr=>by
     obtain ⟨j,x,_,h5⟩:=kW hr;split at h5
     ·cases h5;decide
     ·split at h5<;>cases h5;decide)
    obtain ⟨e3,h⟩:=nQ h (fun r hr=>by
     obtain ⟨j,x,_,h5⟩:=kW hr;split at h5
     ·rename_i h6;cases h5;exact h6
     ·split at h5<;>cases h5;decide)
    obtain ⟨e4,h⟩:=nQ h (fun r hr=>by obtain ⟨j,x,_,h5⟩:=kW hr;split at h5<;>cases h5;decide);rw [gE] at e1 e2 e3 e4;refine ⟨by omega,by omega,by omega,by omega,by omega,fun a p hp=>?_,fun r l hl=>?_,fun r l x hl hx=>?_,fun i m hm=>?_,fun c hc=>?_,?_⟩
    ·have:=e1 a p hp;rw [Nat.zero_add] at this;split at this
     ·cases this
     ·omega
    ·have:=e2 r l hl;split at this
     ·cases this
     ·omega
    ·have:=e2 r l hl;split at this
     ·cases this
     ·split at this
      ·cases this
      ·rename_i hb;exact mu.1 (Bool.eq_false_iff.2 hb) x hx
    ·have:=e3 i m hm;split at this
     ·cases this
     ·rename_i hb;split at this
      ·cases this
      ·exact ⟨(pJ m).2.1 (Decidable.not_not.1 hb),by omega,hB m (List.mem_of_getElem? hm)⟩
    ·obtain ⟨j,hj⟩:=List.getElem?_of_mem hc;have:=e4 j c hj;split at this
     ·rename_i hb;unfold gQ at hb;unfold po;exact of_decide_eq_true hb
     ·cases this
    ·split at h
     ·exact absurd h (by decide)
     ·rename_i hb;exact mu.1 (Bool.eq_false_iff.2 hb)
theorem nO (hsrc:aZ n items=0) (ok:OkS n items B s):cA n items s=0:=by
 unfold cA;have h1:=ok.at_;have h2:=ok.rg;have h3:=ok.mm;have h4:=ok.ch;have h5:=ok.out;rw [if_neg (by omega),if_neg (by omega),if_neg (by omega)];rw [gE.2 (fun j p hp=>by have:=ok.atP j p hp;rw [Nat.zero_add];rw [if_neg (by omega)]),gE.2 (fun r l hl=>by
  have:=ok.room r l hl;rw [if_neg (by omega),if_neg (by rw [mu.2 (fun x hx=>ok.depR r l x hl hx)];decide)]),gE.2 (fun i m hm=>by
  have:=ok.mem i m hm;rw [if_neg (by have:=(pJ m).2.2 this.1;omega),if_neg (by omega)]),gE.2 (fun j c hc=>by
  have:=ok.cho c (List.mem_of_getElem? hc);rw [if_pos (show gQ n c=true by unfold gQ;unfold po at this;exact decide_eq_true this)])]
 show (if eR s s.Out=true then 3 else 0)=(0:Int)
 rw [if_neg (by rw [mu.2 ok.depO];decide)]
theorem pm {α:Type} {l:List α} {k:Nat} {a:α} (h:l[k]?=some a):l.set k a=l:=by
 obtain ⟨hlt,rfl⟩:=List.getElem?_eq_some_iff.1 h;exact List.set_getElem_self hlt
theorem CE (s:State) (h1:s.At.length<=1099511627776) (h2:s.Rings.length<=1099511627776) (h3:s.Memory.length<=1099511627776) (h4:s.Choices.length<=1099511627776) (h5:s.Out.length<=1099511627776)
  (h6:∀ l,l∈s.Rings->l.length<=1099511627776) (h7:∀ m,m∈s.Memory->m.Keys.length<=1099511627776):jJ s=some s:=by
 have cl:∀ {α:Type} (l:List α),l.length<=1099511627776->app [] l=some l:=fun l hl=>by rw [bB (by simpa using hl)];rfl
 have l1:∀ (m k:Nat),k+m=s.Memory.length->iter (fun ss_24:Int × (List Memory)=>gw s s.At s.Rings s.Memory ss_24.1 ss_24.2) ((k:Int),s.Memory)=some s:=by
  intro m;induction m with
  | zero =>
   intro k hk;have hk:k=s.Memory.length:=by omega
   subst hk;have e:gw s s.At s.Rings s.Memory (s.Memory.length:Int) s.Memory=some (.inr s):=by
    unfold gw jc cX;rw [if_neg (by simp),cl _ h4,Option.bind_some,cl _ h5];rfl
   rw [an];simp only [e]
  | succ m ih =>
   intro k hk;have hlt:k<s.Memory.length:=by omega
   have hg:s.Memory[k]?=some s.Memory[k]:=List.getElem?_eq_getElem hlt;have e:gw s s.At s.Rings s.Memory (k:Int) s.Memory=some (.inl (((k+1:Nat):Int),s.Memory)):=by
    unfold gw fv f0;rw [if_pos (by simp;omega),bd hlt,Option.bind_some,hg,Option.bind_some,cl _ (h7 _ (List.getElem_mem hlt)),Option.bind_some,Option.bind_some,Option.bind_some,hg,Option.bind_some,aJ (by omega),pm hg]
   rw [an];simp only [e];exact ih (k+1) (by omega)
 have l2:∀ (m k:Nat),k+m=s.Rings.length->iter (fun ss_9:Int × (List (List Item))=>gy s s.At s.Rings ss_9.1 ss_9.2) ((k:Int),s.Rings)=some s:=by
  intro m;induction m with
  | zero =>
   intro k hk;have hk:k=s.Rings.length:=by omega
   subst hk;have e:gy s s.At s.Rings (s.Rings.length:Int) s.Rings=some (.inr s):=by
    unfold gy me;have:=l1 s.Memory.length 0 (by omega);rw [Int.natCast_zero] at this;rw [if_neg (by simp),cl _ h3,Option.bind_some,this];rfl
   rw [an];simp only [e]
  | succ m ih =>
   intro k hk;have hlt:k<s.Rings.length:=by omega
   have hg:s.Rings[k]?=some s.Rings[k]:=List.getElem?_eq_getElem hlt;have e:gy s s.At s.Rings (k:Int) s.Rings=some (.inl (((k+1:Nat):Int),s.Rings)):=by
    unfold gy cX;rw [if_pos (by simp;omega),bd hlt,Option.bind_some,hg,Option.bind_some,cl _ (h6 _ (List.getElem_mem hlt)),Option.bind_some,Option.bind_some,hg,Option.bind_some,aJ (by omega),pm hg]
   rw [an];simp only [e];exact ih (k+1) (by omega)
 unfold jJ fj l5
 rw [cl _ h1,Option.bind_some,cl _ h2,Option.bind_some]
 have:=l2 s.Rings.length 0 (by omega)
 rw [Int.natCast_zero] at this
 exact this
theorem Cz (hS:RightS n items) (ok:OkS n items B s):jJ s=some s:=by
 have h1:=ok.at_;have h2:=ok.rg;have h3:=ok.mm;have h4:=ok.ch;have h5:=ok.out;have h6:=hS.l4;have h7:=hS.r2;have h8:=hS.n2;have h9:=hS.m2;refine CE s (by omega) (by omega) (by omega) (by omega) (by omega) (fun l hl=>?_) (fun m hm=>?_)
 ·obtain ⟨r,hr⟩:=List.getElem?_of_mem hl;have:=ok.room r l hr;omega
 ·obtain ⟨i,hi⟩:=List.getElem?_of_mem hm;have:=(ok.mem i m hi).1.len;omega
end
end
section
def cw (n:Net) (items:List (List Item)):Mach Item Memory (List Choice) where
 key:=Item.Key
 step:=fun i m x=>bX (ab n i).Kind (ab n i).A m x
 stamp:=fun t x=>⟨x.Key,x.Val,(t.length:Int)+1⟩
 tick:=fun t i k=>t++[⟨i,k⟩]
 src:=fun a=>items.getD a []
def dw (n:Net) (items:List (List Item)):Mach (Int × Int) (Int × List Keyed) Unit where
 key:=Prod.fst
 step:=fun i m x=>stepC (ab n i).Kind (ab n i).A m x
 stamp:=fun _ x=>x
 tick:=fun t _ _=>t
 src:=fun a=>(items.getD a []).map bO
def bJ (s:State):MSt Item Memory (List Choice):=⟨fun a=>(s.At.getD a 0).toNat,fun r=>s.Rings.getD r [],memN s,s.Out,s.Choices⟩
def era (c:MSt Item Memory (List Choice)):MSt (Int × Int) (Int × List Keyed) Unit:=⟨c.pos,fun r=>(c.rg r).map bO,fun i=>eraM (c.mm i),c.out.map bO,()⟩
theorem uX {I M T:Type} {p q:MSt I M T} (h1:p.pos=q.pos) (h2:p.rg=q.rg) (h3:p.mm=q.mm) (h4:p.out=q.out) (h5:p.tr=q.tr):p=q:=by cases p;cases q;simp_all
theorem uQ {n:Net} {items:List (List Item)} (hS:RightS n items):SrcN n:=fun i j hi hj h1 h2 e=>hS.src1 i j hi hj h1 h2 (by have:=hS.a0 i hi;have:=hS.a0 j hj;omega)
section
variable {n:Net} {items:List (List Item)} {B:Int} {s:State}
theorem ue (hR:RightN n) (s:State) (l:List Int):fitM (some n.Room.toNat) (bJ s) l ↔ roomy n s l=true:=by
 unfold fitM roomy;rw [List.all_eq_true];have:=hR.m1;constructor
 ·intro h r hr;have h1:(s.Rings.getD r.toNat []).length<n.Room.toNat:=h n.Room.toNat rfl r hr;rw [decide_eq_true_eq];omega
 ·intro h R hRm r hr;cases hRm;have:=of_decide_eq_true (h r hr);show (s.Rings.getD r.toNat []).length<n.Room.toNat;omega
theorem Cn (hS:RightS n items) (ok:OkS n items B s) {i k:Nat} (hi:i<n.Nodes.length) (hk:k<aI (ab n i)) {it:Item} (hh:bD n items s i k=some it):bJ (doM n items s i k)=goM (cw n items) n (bJ s) (i,k) it:=by
 have hR:=hS.toRightN;have hmi:i<s.Memory.length:=by rw [ok.mm];exact hi
 have hmk:bb n s i it=mkM (cw n items) n (bJ s) (i,k) it:=by
  unfold bb mkM inM chD;rfl
 refine uX ?_ ?_ ?_ ?_ ?_
 ·funext a;show ((doM n items s i k).At.getD a 0).toNat=(if (ab n i).Kind=1 then upd (bJ s).pos (ab n i).A.toNat ((bJ s).pos (ab n i).A.toNat+1) else (bJ s).pos) a;rw [do_at hh];by_cases h1:(ab n i).Kind=1
  ·obtain ⟨a0,a1,a2,a3,a4,a5⟩:=at_ok hS ok hi h1;rw [if_pos h1,if_pos h1,ne _ _ _ _ _ (by omega)];unfold upd;by_cases e:a=(ab n i).A.toNat
   ·rw [if_pos e,if_pos e];show _=(s.At.getD (ab n i).A.toNat 0).toNat+1;omega
   ·rw [if_neg e,if_neg e];rfl
  ·rw [if_neg h1,if_neg h1];rfl
 ·funext r;show (doM n items s i k).Rings.getD r []=_;rw [tA hR ok.rg hi hk hh,hmk];rfl
 ·funext j;show (doM n items s i k).Memory.getD j ⟨0,[],0⟩=upd (bJ s).mm i _ j;rw [wb hh,ne _ _ _ _ _ hmi,hmk];rfl
 ·show (doM n items s i k).Out=_;rw [pN hh,hmk];rfl
 ·show (doM n items s i k).Choices=_;rw [do_ch hh];rfl
theorem CC (hS:RightS n items) (ok:OkS n items B s) {i k:Nat} (hi:i<n.Nodes.length) (hk:k<aI (ab n i)) (hc:bc n items s i k=true):Ex (cw n items) n (some n.Room.toNat) (bJ s) (i,k) (bJ (doM n items s i k)):=by
 obtain ⟨it,hh,hroom,_⟩:=jP hc;exact ⟨⟨hi,hk⟩,it,hh,(ue hS.toRightN s _).2 hroom,Cn hS ok hi hk hh⟩
theorem si (hS:RightS n items) {i k:Nat} {d:MSt Item Memory (List Choice)} (h:Ex (cw n items) n (some n.Room.toNat) (bJ s) (i,k) d) (h6:(ab n i).Kind=6->s.Choices.length≠500) (h8:(ab n i).Kind=8->s.Out.length≠2000):bc n items s i k=true:=by
 obtain ⟨_,x,hx,hf,_⟩:=h;have hh:bD n items s i k=some x:=hx;unfold bc;rw [hh];have h1:=(ue hS.toRightN s _).1 hf;have h2:roomy n s (aQ (ab n i) x.Key)=true:=h1;simp only [h2,Bool.true_and,Bool.and_eq_true,Bool.not_eq_true',decide_eq_false_iff_not];exact ⟨fun e=>h6 e.1 e.2,fun e=>h8 e.1 e.2⟩
theorem ex_mv (hS:RightS n items) (ok:OkS n items B s) {m:Move} (hm:m∈ak n items s):Ex (cw n items) n (some n.Room.toNat) (bJ s) (m.Node.toNat,m.Lane.toNat) (bJ (doMv n items s m)):=by
 obtain ⟨i,k,rfl,hi,hk,hc⟩:=dL hm;exact CC hS ok hi hk hc
theorem v6 (c:MSt Item Memory (List Choice)) (m:Nat × Nat):hdM (dw n items) n (era c) m=(hdM (cw n items) n c m).map bO:=by
 unfold hdM;split
 ·show ((items.getD _ []).map bO)[c.pos _]?=_;rw [List.getElem?_map];rfl
 ·show ((c.rg _).map bO).head?=_;rw [List.head?_map]
theorem C9 (c:MSt Item Memory (List Choice)) (m:Nat × Nat) (x:Item):mkM (dw n items) n (era c) m (bO x)=(eraM (mkM (cw n items) n c m x).1,bO (mkM (cw n items) n c m x).2):=by
 have e1:inM (dw n items) n (era c) m (bO x)=bO (inM (cw n items) n c m x):=by
  unfold inM;split<;>rfl
 unfold mkM;rw [e1];exact (Bw _ _ _ _).symm
theorem wn (c:MSt Item Memory (List Choice)) (m:Nat × Nat) (x:Item):era (goM (cw n items) n c m x)=goM (dw n items) n (era c) m (bO x):=by
 have hk:=C9 (n:=n) (items:=items) c m x;refine uX rfl ?_ ?_ ?_ rfl
 ·funext r;show (((if _ then (c.rg r).tail else c.rg r)++if (r:Int)∈toM (cw n items) n m x then [(mkM (cw n items) n c m x).2] else []):List Item).map bO=(if _ then ((c.rg r).map bO).tail else (c.rg r).map bO)++if (r:Int)∈toM (dw n items) n m (bO x) then [(mkM (dw n items) n (era c) m (bO x)).2] else []
  rw [hk,List.map_append];have ht:toM (dw n items) n m (bO x)=toM (cw n items) n m x:=rfl;rw [ht];congr 1
  ·split
   ·rw [List.map_tail]
   ·rfl
  ·split<;>rfl
 ·funext i;show eraM (upd c.mm m.1 _ i)=upd (fun i=>eraM (c.mm i)) m.1 _ i;rw [hk];unfold upd;split<;>rfl
 ·show (if _ then c.out++[_] else c.out).map bO=if _ then c.out.map bO++[_] else c.out.map bO
  rw [hk];split
  ·rw [List.map_append];rfl
  ·rfl
theorem vo (room:Option Nat) (c:MSt Item Memory (List Choice)) (l:List Int):fitM room (era c) l ↔ fitM room c l:=by
 unfold fitM;have:∀ r,((era c).rg r).length=(c.rg r).length:=fun r=>List.length_map ..
 simp only [this]
theorem vK {room:Option Nat} {c c':MSt Item Memory (List Choice)} {m:Nat × Nat} (h:Ex (cw n items) n room c m c'):Ex (dw n items) n room (era c) m (era c'):=by
 obtain ⟨h0,x,h1,h2,rfl⟩:=h;refine ⟨h0,bO x,by rw [v6,h1];rfl,(vo room c _).2 h2,wn c m x⟩
theorem wi {room:Option Nat} {c:MSt Item Memory (List Choice)} {m:Nat × Nat} {d:MSt (Int × Int) (Int × List Keyed) Unit} (h:Ex (dw n items) n room (era c) m d):∃ c',Ex (cw n items) n room c m c'/\era c'=d:=by
 obtain ⟨h0,y,h1,h2,rfl⟩:=h;rw [v6] at h1;cases hx:hdM (cw n items) n c m with
 | none=>rw [hx] at h1;cases h1
 | some x =>
  rw [hx] at h1;cases h1;exact ⟨_,⟨h0,x,hx,(vo room c _).1 h2,rfl⟩,wn c m x⟩
theorem uT {room:Option Nat} {c c':MSt Item Memory (List Choice)} {w:List (Nat × Nat)} (h:Run (cw n items) n room c w c'):Run (dw n items) n room (era c) w (era c'):=by
 induction h with
 | nil c=>exact .nil _
 | cons h t ih=>exact .cons (vK h) ih
def chW (n:Net) (w:List (Nat × Nat)):List Choice:=(w.filter fun m=>decide ((ab n m.1).Kind=6)).map fun m=>⟨m.1,m.2⟩
theorem DB {room:Option Nat} {c d:MSt Item Memory (List Choice)} {w:List (Nat × Nat)} (h:Run (cw n items) n room c w d):d.tr=c.tr++chW n w:=by
 induction h with
 | nil c=>simp [chW]
 | @cons c c1 d m w h t ih =>
  obtain ⟨_,x,_,_,rfl⟩:=h;rw [ih];unfold chW;show (if (ab n m.1).Kind=6 then c.tr++[⟨m.1,m.2⟩] else c.tr)++_=_;by_cases h6:(ab n m.1).Kind=6
  ·rw [if_pos h6,List.filter_cons_of_pos (by simpa using h6)];simp
  ·rw [if_neg h6,List.filter_cons_of_neg (by simpa using h6)]
theorem rG {I M T:Type} {E:Mach I M T} {room:Option Nat} {c d:MSt I M T} {w:List (Nat × Nat)} (h:Run E n room c w d):∀ m,m∈w->okMv n m:=by
 induction h with
 | nil c=>intro m hm;cases hm
 | cons h t ih =>
  intro m hm;rcases List.mem_cons.1 hm with rfl | hm
  ·exact h.1
  ·exact ih m hm
def aU (l:List Choice) (i:Nat):List Int:=(l.filter fun c=>decide (c.Node=(i:Int))).map Choice.Lane
theorem oD (i:Nat) (h6:(ab n i).Kind=6):∀ (w:List (Nat × Nat)),aW i w=(aU (chW n w) i).map fun l=>(i,l.toNat)
 | []=>rfl
 | m::w=>by
  rw [cK,oD i h6 w];unfold chW aU;by_cases hm:m.1=i
  ·subst hm;rw [if_pos rfl,List.filter_cons_of_pos (by simpa using h6),List.map_cons,List.filter_cons_of_pos (by simp)];simp
  ·rw [if_neg hm];by_cases h6m:(ab n m.1).Kind=6
   ·rw [List.filter_cons_of_pos (by simpa using h6m),List.map_cons,List.filter_cons_of_neg (by simp;omega)]
   ·rw [List.filter_cons_of_neg (by simpa using h6m)]
theorem oE (i:Nat) (h6:(ab n i).Kind≠6):∀ (w:List (Nat × Nat)),(∀ m,m∈w->okMv n m)->aW i w=List.replicate (aW i w).length (i,0)
 | [],_=>rfl
 | m::w,h=>by
  have ih:=oE i h6 w fun q hq=>h q (List.mem_cons_of_mem _ hq)
  rw [cK];split
  ·rename_i hm;have h2:=(h m List.mem_cons_self).2;unfold aI at h2;rw [hm,if_neg h6] at h2;have:m=(i,0):=by cases m;simp at hm h2 ⊢;omega
   rw [List.length_cons,List.replicate_succ,<- ih,this]
  ·exact ih
theorem Bl {α:Type} (a:α) (p q:Nat):Comp (List.replicate p a) (List.replicate q a):=by
 rcases Nat.le_total p q with h | h
 ·exact .inl ⟨List.replicate (q - p) a,by rw [List.replicate_append_replicate];congr 1;omega⟩
 ·exact .inr ⟨List.replicate (p - q) a,by rw [List.replicate_append_replicate];congr 1;omega⟩
theorem Bm {α β:Type} (f:α->β) {x y:List α} (h:Comp x y):Comp (x.map f) (y.map f):=by
 rcases h with ⟨t,rfl⟩ | ⟨t,rfl⟩
 ·exact .inl ⟨t.map f,by rw [List.map_append]⟩
 ·exact .inr ⟨t.map f,by rw [List.map_append]⟩
theorem xC {u v:List (Nat × Nat)} (hu:∀ m,m∈u->okMv n m) (hv:∀ m,m∈v->okMv n m) (h:∀ i,(ab n i).Kind=6->Comp (aU (chW n u) i) (aU (chW n v) i)) (i:Nat):Comp (aW i u) (aW i v):=by
 by_cases h6:(ab n i).Kind=6
 ·rw [oD i h6,oD i h6];exact Bm _ (h i h6)
 ·rw [oE i h6 u hu,oE i h6 v hv];exact Bl _ _ _
structure Reach (n:Net) (items:List (List Item)) (w:List (Nat × Nat)) (s:State):Prop where
 inv:Inv n items s
 run:Run (cw n items) n (some n.Room.toNat) (bJ (bn n items)) w (bJ s)
theorem iD {w:List (Nat × Nat)} (h:Reach n items w s):s.Choices=chW n w:=by
 have:=DB h.run;simpa [bJ,bn] using this
end
end
section
def aV (n:Net) (m:Move):Bool:=!decide ((ab n m.Node.toNat).Kind=6)
def bI (n:Net) (items:List (List Item)):Nat->State->State
 | 0,s=>s
 | f+1,s=>match (ak n items s).find? (aV n) with
  | none=>s
  | some m=>bI n items f (doMv n items s m)
def aG (n:Net) (items:List (List Item)) (s:State):State:=bI n items 1000000000000000000 s
theorem Inv.mu_le {n:Net} {items:List (List Item)} {s:State} (h:Inv n items s):muN n items s<=1000000000000000000:=by
 obtain ⟨B,_,h⟩:=h;omega
def Calm (n:Net) (items:List (List Item)) (s:State):Prop:=(ak n items s).find? (aV n)=none
section
variable {n:Net} {items:List (List Item)}
theorem gK {s:State} {m:Move} (h:(ak n items s).find? (aV n)=some m):m∈ak n items s/\(ab n m.Node.toNat).Kind≠6:=by
 refine ⟨List.mem_of_find?_eq_some h,?_⟩;have:=List.find?_some h;simpa [aV] using this
theorem oQ (hS:RightS n items):∀ (f:Nat) (s:State),Inv n items s->Inv n items (bI n items f s)/\muN n items (bI n items f s)<=muN n items s
 | 0,s,h=>⟨h,Nat.le_refl _⟩
 | f+1,s,h=>by
  unfold bI;split
  ·exact ⟨h,Nat.le_refl _⟩
  ·rename_i m hm;have h1:=Inv.doMv hS h (gK hm).1;have h2:=oQ hS f _ h1.1;exact ⟨h2.1,by omega⟩
theorem rF (hS:RightS n items):∀ (f:Nat) (s:State),Inv n items s->muN n items s<=f->Calm n items (bI n items f s)
 | 0,s,h,hf=>by
  show (ak n items s).find? (aV n)=none;cases hr:(ak n items s).find? (aV n) with
  | none=>rfl
  | some m=>have:=(Inv.doMv hS h (gK hr).1).2;omega
 | f+1,s,h,hf=>by
  unfold bI;split
  ·assumption
  ·rename_i m hm;have h1:=Inv.doMv hS h (gK hm).1;exact rF hS f _ h1.1 (by omega)
theorem rS (hS:RightS n items):∀ (f:Nat) (s:State),Inv n items s->∃ u,Run (cw n items) n (some n.Room.toNat) (bJ s) u (bJ (bI n items f s))/\chW n u=[]
 | 0,s,h=>⟨[],.nil _,rfl⟩
 | f+1,s,h=>by
  unfold bI;split
  ·exact ⟨[],.nil _,rfl⟩
  ·rename_i m hm;obtain ⟨h1,h2⟩:=gK hm;obtain ⟨u,hu,hc⟩:=rS hS f _ (Inv.doMv hS h h1).1;obtain ⟨B,ok,hB⟩:=h;refine ⟨_,.cons (ex_mv hS ok h1) hu,?_⟩;unfold chW at hc ⊢;rw [List.filter_cons_of_neg (by simpa using h2)];exact hc
theorem jN (hS:RightS n items) {s:State} (h:Inv n items s):Inv n items (aG n items s)/\Calm n items (aG n items s)/\muN n items (aG n items s)<=muN n items s :=
 ⟨(oQ hS _ s h).1,rF hS _ s h h.mu_le,(oQ hS _ s h).2⟩
theorem B3 (u v:List (Nat × Nat)):chW n (u++v)=chW n u++chW n v:=by simp [chW]
theorem oB (hS:RightS n items) {s:State} {w:List (Nat × Nat)} (h:Reach n items w s):∃ u,Reach n items (w++u) (aG n items s)/\chW n u=[]:=by
 obtain ⟨u,hu,hc⟩:=rS hS 1000000000000000000 s h.inv;exact ⟨u,⟨(jN hS h.inv).1,h.run.app hu⟩,hc⟩
theorem sZ (hS:RightS n items) {s:State} {w:List (Nat × Nat)} (h:Reach n items w s):(aG n items s).Choices=s.Choices:=by
 obtain ⟨u,h1,h2⟩:=oB hS h;rw [iD h1,B3,h2,List.append_nil,iD h]
theorem pq (hS:RightS n items) {s:State} {w:List (Nat × Nat)} {m:Move} (h:Reach n items w s) (hm:m∈ak n items s):Reach n items (w++[(m.Node.toNat,m.Lane.toNat)]) (doMv n items s m):=by
 obtain ⟨B,ok,hB⟩:=h.inv;exact ⟨(Inv.doMv hS h.inv hm).1,h.run.app (.cons (ex_mv hS ok hm) (.nil _))⟩
theorem rj (i:Nat) (h6:(ab n i).Kind=6) (w:List (Nat × Nat)):aU (chW n w) i=(aW i w).map fun m=>(m.2:Int):=by
 induction w with
 | nil=>rfl
 | cons m w ih =>
  rw [cK];by_cases hm:(ab n m.1).Kind=6
  ·have e:chW n (m::w)=⟨m.1,m.2⟩::chW n w:=by
    unfold chW;rw [List.filter_cons_of_pos (by simpa using hm)];rfl
   rw [e];unfold aU at ih ⊢;by_cases hi:m.1=i
   ·rw [if_pos hi,List.filter_cons_of_pos (by simp [hi])];simp only [List.map_cons];rw [ih]
   ·rw [if_neg hi,List.filter_cons_of_neg (by simp;omega),ih]
  ·have e:chW n (m::w)=chW n w:=by
    unfold chW;rw [List.filter_cons_of_neg (by simpa using hm)]
   have hi:¬ m.1=i:=fun e=>hm (by rw [e];exact h6)
   rw [e,if_neg hi,ih]
theorem yX (hS:RightS n items) {c e:State} {u w:List (Nat × Nat)} (hc:Reach n items u c) (he:Reach n items w e) (h:∀ i,(ab n i).Kind=6->Comp (aU c.Choices i) (aU e.Choices i)) :
  ∃ p q d,Run (dw n items) n (some n.Room.toNat) (era (bJ c)) p d/\Run (dw n items) n (some n.Room.toNat) (era (bJ e)) q d/\∀ i,aW i (u++p)=aW i (w++q)/\(aW i p=[]∨aW i q=[]):=by
 refine AR hS.toRightN (uQ hS) (E:=dw n items) (fun _ _ _=>rfl) (uT hc.run) (uT he.run) fun i=>?_
 refine xC (rG hc.run) (rG he.run) (fun i h6=>?_) i
 rw [<- iD hc,<- iD he]
 exact h i h6
end
end
section
theorem AE {α β:Type} [DecidableEq β] (a b:List α) (ha:a.length<=1099511627776) (hl:a.length=b.length) (f:α->β) {body:Int->Option (Int ⊕ Bool)}
  (h1:∀ (k:Nat) (x y:α),a[k]?=some x->b[k]?=some y->decide ((k:Int)<(a.length:Int))=true->idx a (k:Int)=some x->idx b (k:Int)=some y->IntKind.i64.wrap ((k:Int)+1)=((k+1:Nat):Int)->body k=if f x=f y then some (.inl ((k+1:Nat):Int)) else some (.inr false))
  (h2:decide ((a.length:Int)<(a.length:Int))=false->body a.length=some (.inr true)):iter body 0=some (decide (a.map f=b.map f)):=by
 have key:∀ (m k:Nat),k+m=a.length->iter body k=some (decide ((a.drop k).map f=(b.drop k).map f)):=by
  intro m;induction m with
  | zero =>
   intro k hk;have hk:k=a.length:=by omega
   subst hk;rw [an,h2 (by simp),List.drop_length,List.drop_of_length_le (by omega)];simp
  | succ m ih =>
   intro k hk;have hlt:k<a.length:=by omega
   have hlt2:k<b.length:=by omega
   rw [an,h1 k a[k] b[k] (List.getElem?_eq_getElem hlt) (List.getElem?_eq_getElem hlt2) (by simp;omega) (aN (List.getElem?_eq_getElem hlt)) (aN (List.getElem?_eq_getElem hlt2)) (aJ (by omega)),List.drop_eq_getElem_cons hlt,List.drop_eq_getElem_cons hlt2,List.map_cons,List.map_cons];by_cases hxy:f a[k]=f b[k]
   ·rw [if_pos hxy];simp only;rw [ih (k+1) (by omega)];simp [hxy]
   ·rw [if_neg hxy];simp [hxy]
 have:=key a.length 0 (by omega)
 rw [Int.natCast_zero,List.drop_zero,List.drop_zero] at this
 exact this
structure SmallS (s:State):Prop where
 a1:s.At.length<=1099511627776
 a2:s.Rings.length<=1099511627776
 a3:s.Memory.length<=1099511627776
 a4:s.Choices.length<=1099511627776
 a5:s.Out.length<=1099511627776
 a6:∀ l,l∈s.Rings->l.length<=1099511627776
 a7:∀ m,m∈s.Memory->m.Keys.length<=1099511627776
theorem mR {n:Net} {items:List (List Item)} {B:Int} {s:State} (hS:RightS n items) (ok:OkS n items B s):SmallS s:=by
 have h1:=ok.at_;have h2:=ok.rg;have h3:=ok.mm;have h4:=ok.ch;have h5:=ok.out;have h6:=hS.l4;have h7:=hS.r2;have h8:=hS.n2;have h9:=hS.m2;refine ⟨by omega,by omega,by omega,by omega,by omega,fun l hl=>?_,fun m hm=>?_⟩
 ·obtain ⟨r,hr⟩:=List.getElem?_of_mem hl;have:=ok.room r l hr;omega
 ·obtain ⟨i,hi⟩:=List.getElem?_of_mem hm;have:=(ok.mem i m hi).1.len;omega
theorem Bh (l:List Memory):∃ B:Int,0<=B/\∀ m,m∈l->∀ y,y∈m.Keys->y.N<=B:=by
 have h1:∀ ks:List Keyed,∃ B:Int,0<=B/\∀ y,y∈ks->y.N<=B:=by
  intro ks;induction ks with
  | nil=>exact ⟨0,by omega,fun y hy=>by cases hy⟩
  | cons k ks ih =>
   obtain ⟨B,h0,hB⟩:=ih;refine ⟨B+k.N.natAbs,by omega,fun y hy=>?_⟩;rcases List.mem_cons.1 hy with rfl | hy
   ·omega
   ·have:=hB y hy;omega
 induction l with
 | nil=>exact ⟨0,by omega,fun m hm=>by cases hm⟩
 | cons m l ih =>
  obtain ⟨B,h0,hB⟩:=ih;obtain ⟨B',h0',hB'⟩:=h1 m.Keys;refine ⟨B+B',by omega,fun q hq y hy=>?_⟩;rcases List.mem_cons.1 hq with rfl | hq
  ·have:=hB' y hy;omega
  ·have:=hB q hq y hy;omega
section
variable {n:Net} {items:List (List Item)} {B:Int} {s:State}
theorem uE (h:cA n items s=0):aZ n items=0:=by
 unfold cA at h;split at h
 ·exact h
 ·rename_i h1;exact Decidable.not_not.1 h1
theorem vR (h:cA n items s=0):∃ B:Int,0<=B/\OkS n items B s:=by
 obtain ⟨B,h0,hB⟩:=Bh s.Memory;exact ⟨B,h0,DE h hB⟩
theorem tw (n:Net) (items:List (List Item)) (s:State) (hio:∀ x∈n.Nodes,x.In.length<=1099511627776/\x.Out.length<=1099511627776) (hr:∀ l,l∈s.Rings->l.length<=1099511627776):il n items s=some (if cA n items s≠0 then ([],cA n items s) else (ak n items s,0)):=by
 unfold il;rw [tZ n items s hio hr,Option.bind_some];by_cases h:cA n items s=0
 ·obtain ⟨B,_,ok⟩:=vR h;rw [if_neg (show ¬ (cA n items s != 0)=true by simp [h]),if_neg (show ¬ cA n items s≠0 by simp [h]),A8 (dM (uE h)) ok];rfl
 ·rw [if_pos (show (cA n items s != 0)=true by simpa using h),if_pos h]
def dG (n:Net) (m:Move):Prop:=0<=m.Node/\m.Node<n.Nodes.length/\0<=m.Lane/\m.Lane<aI (ab n m.Node.toNat)
instance (n:Net) (m:Move):Decidable (dG n m):=by unfold dG;infer_instance
def canMv (n:Net) (items:List (List Item)) (s:State) (m:Move):Bool:=bc n items s m.Node.toNat m.Lane.toNat
theorem Do_eq (n:Net) (items:List (List Item)) (s:State) (m:Move) (hio:∀ x∈n.Nodes,x.In.length<=1099511627776/\x.Out.length<=1099511627776) (hr:∀ l,l∈s.Rings->l.length<=1099511627776) :
    gP n items s m=some (if cA n items s≠0 then (noS,cA n items s) else if ¬ dG n m then (noS,5) else if canMv n items s m=false then (noS,10) else (doMv n items s m,0)):=by
  unfold gP
  rw [tZ n items s hio hr,Option.bind_some]
  by_cases h:cA n items s=0
  · obtain ⟨B,_,ok⟩:=vR h
    have hS:=dM (uE h)
    rw [if_neg (show ¬ (cA n items s != 0)=true by simp [h]),if_neg (show ¬ cA n items s≠0 by simp [h])]
    have hb : (if (decide (m.Node<0))=true then (some true) else (if (decide (m.Node >= ((n.Nodes).length:Int)))=true then (some true) else (if (decide (m.Lane<0))=true then (some true) else (if (decide (m.Lane > 0))=true then (Option.bind (idx n.Nodes m.Node) fun x3=>(if (x3.Kind != 6)=true then (some true) else (Option.bind (idx n.Nodes m.Node) fun x4=>(some (decide (m.Lane >= ((x4.In).length:Int))))))) else (some false)))))=some (decide (¬ dG n m)):=by
      by_cases h1:m.Node<0
      · rw [if_pos (by simpa using h1)];simp [dG];omega
      · rw [if_neg (by simpa using h1)];by_cases h2:m.Node >= (n.Nodes.length:Int)
        · rw [if_pos (by simpa using h2)];simp [dG];omega
        · rw [if_neg (by simpa using h2)];by_cases h3:m.Lane<0
          · rw [if_pos (by simpa using h3)];simp [dG];omega
          · rw [if_neg (by simpa using h3)];have hi:idx n.Nodes m.Node=some (ab n m.Node.toNat):=dx _ (by omega) (by omega);have hlt:m.Node.toNat<n.Nodes.length:=by omega
            by_cases h4:m.Lane > 0
            · rw [if_pos (by simpa using h4),hi,Option.bind_some];by_cases h6:(ab n m.Node.toNat).Kind=6
              · rw [if_neg (by simpa using h6),Option.bind_some];have hl:aI (ab n m.Node.toNat)=(ab n m.Node.toNat).In.length:=by unfold aI;rw [if_pos h6]
                congr 1;rw [decide_eq_decide];unfold dG;omega
              · rw [if_pos (by simpa using h6)];have hl:aI (ab n m.Node.toNat)=1:=by unfold aI;rw [if_neg h6]
                congr 1;rw [eq_comm,decide_eq_true_eq];unfold dG;omega
            · rw [if_neg (by simpa using h4)];have hpos:0<aI (ab n m.Node.toNat):=by
                unfold aI;split
                · rename_i h6;exact hS.in6 _ hlt h6
                · omega
              congr 1;rw [eq_comm,decide_eq_false_iff_not];unfold dG;omega
    rw [hb,Option.bind_some]
    by_cases hg:dG n m
    · rw [if_neg (by simpa using hg),if_neg (by simpa using hg)]
      obtain ⟨g0,g1,g2,g3⟩:=hg
      have hm:m=⟨(m.Node.toNat:Int),(m.Lane.toNat:Int)⟩:=by cases m;simp at *;omega
      have hi:m.Node.toNat<n.Nodes.length:=by omega
      have hk:m.Lane.toNat<aI (ab n m.Node.toNat):=by omega
      have hc:iy n items s m=some (canMv n items s m):=by
        rw [hm];exact we hS ok hi hk
      rw [hc,Option.bind_some]
      cases hcm:canMv n items s m with
      | false=>rfl
      | true =>
        rw [if_neg (by simp),if_neg (by simp),Cz hS ok,Option.bind_some]
        have hd:jo n items m s.At s.Rings s.Memory s.Choices s.Out=some ((doMv n items s m).At,(doMv n items s m).Rings,(doMv n items s m).Memory,(doMv n items s m).Choices,(doMv n items s m).Out):=by
          rw [hm];exact do_eq hS ok hi hk hcm
        rw [hd,Option.bind_some]
    · rw [if_pos (by simpa using hg),if_pos (by simpa using hg)];rfl
  · rw [if_pos (show (cA n items s != 0)=true by simpa using h),if_pos h];rfl
end
end
section
def chE (n:Net) (_:Nat) (c:Choice):Option Int :=
 if c.Node<0∨c.Node >= (n.Nodes.length:Int)∨(ab n c.Node.toNat).Kind≠6 then some 5
 else if c.Lane<0∨c.Lane >= ((ab n c.Node.toNat).In.length:Int) then some 3 else none
def fI (n:Net) (l:List Choice):Int :=
 if (bV n).2≠0 then (bV n).2 else if 500<l.length then 2 else (cT (chE n) 0 l).getD 0
theorem BV (n:Net) (c:Choice) (k:Nat) (z:Int) :
  (Option.bind (if (decide (c.Node<0))=true then (some true) else (if (decide (c.Node >= ((n.Nodes).length:Int)))=true then (some true) else (Option.bind (idx n.Nodes c.Node) fun x6=>(some (x6.Kind != 6))))) fun c7=>(if c7=true then (Option.map Sum.inr (some (5:Int))) else (Option.bind (if (decide (c.Lane<0))=true then (some true) else (Option.bind (idx n.Nodes c.Node) fun x8=>(some (decide (c.Lane >= ((x8.In).length:Int)))))) fun c9=>(if c9=true then (Option.map Sum.inr (some 3)) else (some (.inl z))))))
  = match chE n k c with | some r=>some (.inr r) | none=>some (.inl z:Int ⊕ Int):=by
 by_cases h0:c.Node<0
 ·have e:chE n k c=some 5:=by unfold chE;rw [if_pos (.inl h0)]
  rw [e,if_pos (show decide (c.Node<0)=true by simpa using h0)];rfl
 rw [if_neg (show ¬ decide (c.Node<0)=true by simpa using h0)]
 by_cases h1:c.Node >= (n.Nodes.length:Int)
 ·have e:chE n k c=some 5:=by unfold chE;rw [if_pos (.inr (.inl h1))]
  rw [e,if_pos (show decide (c.Node >= (n.Nodes.length:Int))=true by simpa using h1)];rfl
 rw [if_neg (show ¬ decide (c.Node >= (n.Nodes.length:Int))=true by simpa using h1)]
 have hi:idx n.Nodes c.Node=some (ab n c.Node.toNat):=dx _ (by omega) (by omega)
 rw [hi,Option.bind_some,Option.bind_some]
 by_cases h6:(ab n c.Node.toNat).Kind=6
 ·have hn:¬ (c.Node<0∨c.Node >= (n.Nodes.length:Int)∨(ab n c.Node.toNat).Kind≠6):=fun h=>h.elim h0 fun h=>h.elim h1 fun h=>h h6
  rw [if_neg (show ¬ ((ab n c.Node.toNat).Kind != 6)=true by simp [h6])]
  by_cases h2:c.Lane<0
  ·have e:chE n k c=some 3:=by unfold chE;rw [if_neg hn,if_pos (.inl h2)]
   rw [e,if_pos (show decide (c.Lane<0)=true by simpa using h2)];rfl
  ·rw [if_neg (show ¬ decide (c.Lane<0)=true by simpa using h2),Option.bind_some,Option.bind_some]
   by_cases h3:c.Lane >= ((ab n c.Node.toNat).In.length:Int)
   ·have e:chE n k c=some 3:=by unfold chE;rw [if_neg hn,if_pos (.inr h3)]
    rw [e,if_pos (show decide (c.Lane >= ((ab n c.Node.toNat).In.length:Int))=true by simpa using h3)];rfl
   ·have e:chE n k c=none:=by unfold chE;rw [if_neg hn,if_neg (fun h=>h.elim h2 h3)]
    rw [e,if_neg (show ¬ decide (c.Lane >= ((ab n c.Node.toNat).In.length:Int))=true by simpa using h3)]
 ·have e:chE n k c=some 5:=by unfold chE;rw [if_pos (.inr (.inr h6))]
  rw [e,if_pos (show ((ab n c.Node.toNat).Kind != 6)=true by simpa using h6)];rfl
section
variable (n:Net) (hio:∀ x∈n.Nodes,x.In.length≤1099511627776∧x.Out.length≤1099511627776)
include hio
theorem xJ (l:List Choice):kX n l=some (fI n l):=by
 unfold kX fI;rw [qD n hio,Option.bind_some];by_cases h:(bV n).2=0
 ·rw [if_neg (show ¬ ((bV n).2 != 0)=true by simp [h]),if_neg (show ¬ (bV n).2≠0 by simp [h])];by_cases h5:500<l.length
  ·rw [if_pos (show decide ((l.length:Int) > 500)=true by simp;omega),if_pos h5]
  ·rw [if_neg (show ¬ decide ((l.length:Int) > 500)=true by simp;omega),if_neg h5];rw [lE l (by omega) (chE n) (some 0) (fun k x hx hk e1 e2 e3=>by
    unfold kO;rw [e2,e1,e3];simp only [if_true,Option.bind_some];rw [BV n x k];cases chE n k x<;>rfl) (fun e=>by unfold kO;rw [e];rfl)]
   exact ra _ _
 ·rw [if_pos (by simpa using h),if_pos h]
end
theorem AH {n:Net} {k:Nat} {c:Choice} (h:chE n k c=none):0<=c.Node/\c.Node<n.Nodes.length/\(ab n c.Node.toNat).Kind=6/\0<=c.Lane/\c.Lane<(ab n c.Node.toNat).In.length:=by
 unfold chE at h;split at h
 ·cases h
 ·split at h
  ·cases h
  ·rename_i h1 h2;refine ⟨by omega,by omega,Classical.byContradiction fun h3=>h1 (.inr (.inr h3)),by omega,by omega⟩
theorem Bt {n:Net} {k:Nat} {c:Choice} {e:Int} (h:chE n k c=some e):e≠0:=by
 unfold chE at h;split at h
 ·cases h;decide
 ·split at h
  ·cases h;decide
  ·cases h
theorem ro {α:Type} {f:Nat->α->Option Int} (hf:∀ k x e,f k x=some e->e≠0):∀ {xs:List α} {k:Nat} {e:Int},cT f k xs=some e->e≠0
 | [],k,e,h=>by cases h
 | x::xs,k,e,h=>by
  unfold cT at h;split at h
  ·rename_i r hr;cases h;exact hf _ _ _ hr
  ·exact ro hf h
structure RightC (n:Net) (l:List Choice):Prop where
 net:(bV n).2=0
 len:l.length<=500
 each:∀ c,c∈l->0<=c.Node/\c.Node<n.Nodes.length/\(ab n c.Node.toNat).Kind=6/\0<=c.Lane/\c.Lane<(ab n c.Node.toNat).In.length
theorem zV {n:Net} {l:List Choice} (h:fI n l=0):RightC n l:=by
 unfold fI at h;split at h
 ·rename_i h1;exact absurd h h1
 ·rename_i h1;split at h
  ·cases h
  ·rename_i h2;refine ⟨Classical.byContradiction fun e=>h1 e,by omega,fun c hc=>?_⟩;cases hf:cT (chE n) 0 l with
   | some e=>rw [hf] at h;exact absurd h (ro (fun k x e=>Bt) hf)
   | none =>
    obtain ⟨j,hj⟩:=List.getElem?_of_mem hc;exact AH (gE.1 hf j c hj)
theorem Ah {n:Net} {l:List Choice} (h:RightC n l):fI n l=0:=by
 unfold fI;rw [if_neg (by simp [h.net]),if_neg (by have:=h.len;omega)];have:cT (chE n) 0 l=none:=gE.2 fun j x hx=>by
  obtain ⟨a,b,c,d,e⟩:=h.each x (List.mem_of_getElem? hx);unfold chE;rw [if_neg (by omega),if_neg (by omega)]
 rw [this];rfl
theorem ju (l:List Choice) (c:Choice) (i:Nat):aU (l++[c]) i=if c.Node=(i:Int) then aU l i++[c.Lane] else aU l i:=by
 unfold aU;rw [List.filter_append,List.map_append];by_cases h:c.Node=(i:Int)
 ·rw [if_pos h,List.filter_cons_of_pos (by simpa using h)];rfl
 ·rw [if_neg h,List.filter_cons_of_neg (by simpa using h)];simp
theorem mF (l:List Choice) (i:Nat):(aU l i).length<=l.length:=by
 unfold aU;rw [List.length_map];exact List.length_filter_le _ _
theorem mU {α:Type} {l:List α} {k:Nat} {x:α} (h:l[k]?=some x):l.take (k+1)=l.take k++[x]:=by
 rw [List.take_add_one,h];rfl
def bj (n:Net) (l:List Choice):List (List Int):=(List.range n.Nodes.length).map (aU l)
def ownL (N:Nat) (l:List Choice):List (Bool × List Int):=(List.range N).map fun i=>(false,aU l i)
theorem pn {N i:Nat} (l:List Choice) (h:i<N):(ownL N l)[i]?=some (false,aU l i):=by
 unfold ownL;rw [List.getElem?_map,List.getElem?_range h];rfl
theorem mZ (N:Nat) (l:List Choice):(ownL N l).length=N:=by unfold ownL;simp
theorem AJ {N i:Nat} (l:List Choice) (c:Choice) (hi:c.Node=(i:Int)) (h:i<N):own (ownL N l) i (aU l i++[c.Lane])=ownL N (l++[c]):=by
 unfold own;refine List.ext_getElem? fun j=>?_
 rw [List.getElem?_set,mZ];by_cases hj:j<N
 ·rw [pn _ hj,pn _ hj,ju];by_cases e:i=j
  ·subst e;rw [if_pos rfl,if_pos h,if_pos hi]
  ·rw [if_neg e,if_neg (by omega)]
 ·rw [List.getElem?_eq_none (by rw [mZ];omega),List.getElem?_eq_none (by rw [mZ];omega)];split
  ·rename_i e;exact absurd h (by omega)
  ·rfl
theorem q8 {n:Net} {l:List Choice} (hC:RightC n l):∀ (m k:Nat),k+m=l.length ->
  iter (fun ss_22:Int × (List (Bool × List Int))=>gm l ss_22.1 ss_22.2) ((k:Int),ownL n.Nodes.length (l.take k))=some (bj n l,0)
 | 0,k,h=>by
  have hk:k=l.length:=by omega
  subst hk;have:gm l (l.length:Int) (ownL n.Nodes.length (l.take l.length))=some (.inr (bj n l,0)):=by
   unfold gm;rw [if_neg (by simp),List.take_length];unfold ownL bj;rw [List.map_map];rfl
  rw [an];simp only [this]
 | m+1,k,h=>by
  have hlt:k<l.length:=by omega
  have hg:l[k]?=some l[k]:=List.getElem?_eq_getElem hlt;obtain ⟨a,b,c,d,e⟩:=hC.each _ (List.getElem_mem hlt);have hl:=hC.len;have hN:l[k].Node.toNat<n.Nodes.length:=by omega
  have hle:(aU (l.take k) l[k].Node.toNat).length<=500:=Nat.le_trans (mF _ _) (by simp;omega);have:gm l (k:Int) (ownL n.Nodes.length (l.take k))=some (.inl (((k+1:Nat):Int),ownL n.Nodes.length (l.take (k+1)))):=by
   unfold gm;rw [if_pos (by simp;omega),aN hg,Option.bind_some,ixN_D a (by rw [mZ];omega),Option.bind_some];unfold atc owc;rw [pn _ hN];simp only [Option.map_some,Option.bind_some];rw [bB (by simp;omega),Option.bind_some,aJ (by omega),AJ (l.take k) l[k] (by omega) hN,mU hg]
  rw [an];simp only [this];exact q8 hC m (k+1) (by omega)
def pQ (n:Net) (l:List Choice):List (List Int) × Int:=if fI n l≠0 then ([],fI n l) else (bj n l,0)
section
variable (n:Net) (hio:∀ x∈n.Nodes,x.In.length≤1099511627776∧x.Out.length≤1099511627776)
include hio
theorem xF (l:List Choice):jA n l=some (pQ n l):=by
 unfold jA pQ;rw [xJ n hio,Option.bind_some];by_cases h:fI n l=0
 ·have hC:=zV h;have hn:=(rU hC.net).n2;rw [if_neg (by simp [h]),if_neg (by simp [h])];have hm:mk ((n.Nodes.length:Nat):Int) (false,([]:List Int))=some (ownL n.Nodes.length (l.take 0)):=by
   unfold mk;rw [if_pos (by omega)];unfold ownL;congr 1;refine List.ext_getElem (by simp) fun i h1 h2=>by simp [aU]
  rw [hm,Option.bind_some];exact q8 hC l.length 0 (by omega)
 ·rw [if_pos (by simpa using h),if_pos h]
omit hio in
theorem jB (l:List Choice):(bj n l).length=n.Nodes.length:=by unfold bj;simp
end
theorem oM {n:Net} {i:Nat} (l:List Choice) (h:i<n.Nodes.length):(bj n l)[i]?=some (aU l i):=by
 unfold bj;rw [List.getElem?_map,List.getElem?_range h];rfl
def begN (n:Net) (a b:List Choice):Prop:=∀ i,i<n.Nodes.length->aU a i <+: aU b i
noncomputable instance (n:Net) (a b:List Choice):Decidable (begN n a b):=Classical.propDecidable _
section
variable (n:Net) (hio:∀ x∈n.Nodes,x.In.length≤1099511627776∧x.Out.length≤1099511627776)
include hio
end
end
section
def LeO {α:Type} (a b:Option α):Prop:=∀ v,a=some v->b=some v
theorem LeO.refl {α:Type} (a:Option α):LeO a a:=fun _ h=>h
theorem LeO.bind {α β:Type} {x y:Option α} {f g:α->Option β} (h:LeO x y) (k:∀ v,LeO (f v) (g v)):LeO (Option.bind x f) (Option.bind y g):=fun v e=>by
 obtain ⟨a,h1,h2⟩:=Option.bind_eq_some_iff.1 e;rw [h a h1];exact k a v h2
theorem LeO.ite {α:Type} {c:Prop} [Decidable c] {a b a' b':Option α} (h:LeO a a') (k:LeO b b'):LeO (if c then a else b) (if c then a' else b'):=by
 split
 ·exact h
 ·exact k
theorem Cj {α β:Type} {f g:α->Option (α ⊕ β)} (h:∀ s,LeO (f s) (g s)) (s:α):LeO (iter f s) (iter g s):=fun r e=>by
 obtain ⟨m,hs⟩:=ld.1 e;refine ld.2 ⟨m,?_⟩;clear e;induction hs with
 | done e=>exact .done (h _ _ e)
 | step e _ ih=>exact .step (h _ _ e) ih
def MonoR {α β:Type} (F:(α->Option β)->α->Option β):Prop:=∀ r r',(∀ a,LeO (r a) (r' a))->∀ a,LeO (F r a) (F r' a)
theorem pr {α β:Type} {F:(α->Option β)->α->Option β} (hF:MonoR F):∀ n k a,LeO (cU F n a) (cU F (n+k) a)
 | 0,k,a=>fun v h=>by cases h
 | n+1,k,a=>by
  rw [show n+1+k=(n+k)+1 by omega];exact hF _ _ (fun a=>pr hF n k a) a
theorem B9 {α β:Type} {F:(α->Option β)->α->Option β} (hF:MonoR F) {a:α} {n:Nat} {r:β} (h:cU F n a=some r):fixR F a=some r:=by
 obtain ⟨r',h'⟩:=BQ h;obtain ⟨m,hm⟩:=rM h';have h1:=pr hF n m a r h;have h2:=pr hF m n a r' hm;rw [Nat.add_comm,h1] at h2;cases h2;exact h'
def aS (x:Item):Item:=⟨x.Key,x.Val,0⟩
theorem pu (l:List Item) (h1:l.length<=2000):jE l=some (l.map aS,0):=by
 unfold jE;rw [if_neg (by simp;omega)];unfold cX;rw [bB (by simp;omega)];simp only [List.nil_append,Option.bind_some];have key:∀ (ys pre:List Item),pre.length+ys.length<=2000->∀ (x2:List Item),x2.length=pre.length+ys.length ->
   iter (fun ss:Int × List Item=>hU x2 ss.1 ss.2) ((pre.length:Int),pre++ys)=some (pre++ys.map aS,0):=by
  intro ys
  induction ys with
  | nil =>
   intro pre hp x2 hx
   rw [an]
   unfold hU
   simp at hx
   rw [if_neg (by simp [hx])]
   simp
  | cons y ys ih =>
   intro pre hp x2 hx
   simp only [List.length_cons] at hp hx
   have e1:ixN (pre++y::ys) (pre.length:Int)=some pre.length:=bd (by simp)
   have e2:(pre++y::ys)[pre.length]?=some y:=by simp
   have e3:(pre++y::ys).set pre.length (aS y)=(pre++[aS y])++ys:=by simp [List.set_append]
   have e4:IntKind.i64.wrap ((pre.length:Int)+1)=((pre++[aS y]).length:Int):=by rw [aJ (by omega)];simp
   have e5:hU x2 (pre.length:Int) (pre++y::ys)=some (.inl (((pre++[aS y]).length:Int),(pre++[aS y])++ys)):=by
    unfold hU;rw [if_pos (by simp [hx];omega),e1,Option.bind_some,e2,Option.bind_some,e4,show (⟨y.Key,y.Val,0⟩:Item)=aS y from rfl,e3]
   rw [an,e5]
   simp only
   rw [ih (pre++[aS y]) (by simp;omega) x2 (by simp;omega)]
   simp
 have:=key l [] (by simpa using h1) l (by simp);simpa using this
def digW (k:Int):List UInt8:=Go.Lib.decDigits k.toNat++[44]
def encW (l:List Int):List UInt8:=l.flatMap digW++[59]
def bN (n:Net) (s:State):List UInt8:=(bj n s.Choices).flatMap encW
theorem uH {k:Int} (h0:0<=k) (h:k<100):(digW k).length<=3:=by
 have:∀ j:Fin 100,(Go.Lib.decDigits j.val++[44]).length<=3:=by decide +kernel
 exact this ⟨k.toNat,by omega⟩
theorem B5 (s4:Int) (x:List Int) (hx:x.length<=500) (hr:∀ k,k∈x->0<=k/\k<100):∀ (m i:Nat) (acc:List UInt8),i+m=x.length->acc.length<=100000+3*i ->
  iter (fun ss:(List UInt8) × Int=>fP s4 x ss.1 ss.2) (acc,(i:Int))=some (.inl (acc++((x.drop i).flatMap digW++[59]),IntKind.i64.wrap (s4+1))):=by
 intro m
 induction m with
 | zero =>
  intro i acc hi ha
  have hi:i=x.length:=by omega
  subst hi
  have e:fP s4 x acc (x.length:Int)=some (.inr (.inl (acc++[59],IntKind.i64.wrap (s4+1)))):=by
   unfold fP;rw [if_neg (by simp),lR (by simp;omega)];rfl
  rw [an];simp only [e]
  rw [List.drop_length];rfl
 | succ m ih =>
  intro i acc hi ha
  have hlt:i<x.length:=by omega
  have hg:x[i]?=some x[i]:=List.getElem?_eq_getElem hlt
  obtain ⟨h0,h1⟩:=hr x[i] (List.getElem_mem hlt)
  have hd:=uH h0 h1
  have e:fP s4 x acc (i:Int)=some (.inl (acc++digW x[i],((i+1:Nat):Int))):=by
   unfold fP itoaW itoaS;rw [if_pos (by simp;omega),aN hg,Option.bind_some,if_pos ⟨h0,h1⟩,Option.bind_some,lR (by unfold digW at hd;simp only [List.length_append] at hd;omega),Option.bind_some];show Option.bind (cat acc (digW x[i])) _=_;rw [lR (by omega),Option.bind_some,aJ (by omega)]
  rw [an];simp only [e]
  rw [ih (i+1) _ (by omega) (by rw [List.length_append];omega),List.drop_eq_getElem_cons hlt,List.flatMap_cons]
  simp [List.append_assoc]
theorem Cl (x:List Int) (hx:x.length<=500) (hr:∀ k,k∈x->0<=k/\k<100):(encW x).length<=1501:=by
 unfold encW;rw [List.length_append,List.length_flatMap];have:∀ l:List Int,(∀ k,k∈l->0<=k/\k<100)->(l.map fun k=>(digW k).length).sum<=3*l.length:=by
  intro l;induction l with
  | nil=>intro _;simp
  | cons a l ih =>
   intro h;have h1:=uH (h a List.mem_cons_self).1 (h a List.mem_cons_self).2;have h2:=ih fun k hk=>h k (List.mem_cons_of_mem _ hk)
   simp only [List.map_cons,List.sum_cons,List.length_cons];omega
 have:=this x hr;simp;omega
theorem BZ (x2:List (List Int) × Int) (hl:x2.1.length<=12) (hr:∀ x,x∈x2.1->x.length<=500/\∀ k,k∈x->0<=k/\k<100):∀ (m i:Nat) (acc:List UInt8),i+m=x2.1.length->acc.length<=1501*i ->
  iter (fun ss:(List UInt8) × Int=>fQ x2 ss.1 ss.2) (acc,(i:Int))=some (acc++(x2.1.drop i).flatMap encW):=by
 intro m
 induction m with
 | zero =>
  intro i acc hi ha
  have hi:i=x2.1.length:=by omega
  subst hi
  have e:fQ x2 acc (x2.1.length:Int)=some (.inr acc):=by
   unfold fQ;rw [if_neg (by simp)];rfl
  rw [an];simp only [e]
  rw [List.drop_length];simp
 | succ m ih =>
  intro i acc hi ha
  have hlt:i<x2.1.length:=by omega
  have hg:x2.1[i]?=some x2.1[i]:=List.getElem?_eq_getElem hlt
  obtain ⟨h0,h1⟩:=hr x2.1[i] (List.getElem_mem hlt)
  have hd:=Cl _ h0 h1
  have e:fQ x2 acc (i:Int)=some (.inl (acc++encW x2.1[i],((i+1:Nat):Int))):=by
   unfold fQ;rw [if_pos (by simp;omega),aN hg,Option.bind_some];have:=B5 (i:Int) x2.1[i] h0 h1 x2.1[i].length 0 acc (by omega) (by omega);rw [Int.natCast_zero,List.drop_zero] at this;rw [this,aJ (by omega)];rfl
  rw [an];simp only [e]
  rw [ih (i+1) _ (by omega) (by rw [List.length_append];omega),List.drop_eq_getElem_cons hlt,List.flatMap_cons,List.append_assoc]
section
variable {n:Net} {items:List (List Item)} (hio:∀ x∈n.Nodes,x.In.length≤1099511627776∧x.Out.length≤1099511627776)
theorem zu {B:Int} {s:State} (hN:(bV n).2=0) (ok:OkS n items B s):RightC n s.Choices:=⟨hN,ok.ch,fun c hc=>ok.cho c hc⟩
include hio
theorem Cm (hsrc:aZ n items=0) {s:State} (hI:Inv n items s) (p5:Int) (p6:List ((List UInt8) × Unit)) (p7:List (List Item)) :
  kw s n.Nodes n.Rings n.Room items p5 p6 p7=some (bN n s):=by
 have hS:=dM hsrc
 obtain ⟨B,ok,_⟩:=hI
 have hN:(bV n).2=0:=by
  unfold aZ at hsrc;split at hsrc
  ·rename_i h;exact absurd hsrc h
  ·rename_i h;exact Decidable.not_not.1 h
 have hC:=zu hN ok
 unfold kw
 have e:jA ⟨n.Nodes,n.Rings,n.Room⟩ s.Choices=some (bj n s.Choices,0):=by
  have:=xF n hio s.Choices;rw [pQ,if_neg (by rw [Ah hC];decide)] at this;exact this
 rw [e,Option.bind_some]
 have:=BZ (bj n s.Choices,0) (by rw [jB];exact hS.n2) (fun x hx=>by
  unfold bj at hx;obtain ⟨i,_,rfl⟩:=List.mem_map.1 hx;refine ⟨Nat.le_trans (mF _ _) ok.ch,fun k hk=>?_⟩;unfold aU at hk;obtain ⟨c,hc,rfl⟩:=List.mem_map.1 hk;obtain ⟨a1,a2,a3,a4,a5⟩:=hC.each c (List.mem_filter.1 hc).1;have:=gN hS.toRightN (i:=c.Node.toNat) (by omega);unfold aI at this;rw [if_pos a3] at this;omega) (bj n s.Choices).length 0 [] (by simp) (by simp)
 rw [Int.natCast_zero,List.drop_zero,List.nil_append] at this
 exact this
omit hio in
theorem AC {m:Move} (h0:0<=m.Node) (h1:m.Node<n.Nodes.length) (p5:Int) (p6:List ((List UInt8) × Unit)) (p7:List (List Item)):ku m n.Nodes n.Rings n.Room items p5 p6 p7=some (aV n m):=by
 unfold ku;rw [show idx n.Nodes m.Node=some (ab n m.Node.toNat) from dx _ h0 h1,Option.bind_some];unfold aV;by_cases h:(ab n m.Node.toNat).Kind=6<;>simp [h]
omit hio in
theorem sK (l:List Move) (hl:l.length<=1000) (hm:∀ m,m∈l->0<=m.Node/\m.Node<n.Nodes.length) (p5:Int) (p6:List ((List UInt8) × Unit)) (p7:List (List Item)):∀ (m k:Nat),k+m=l.length ->
  (∃ j:Nat,k<=j/\iter (fun s:Int=>e6 l n.Nodes n.Rings n.Room items p5 p6 p7 s) (k:Int)=some (j:Int)/\∃ x,l[j]?=some x/\(l.drop k).find? (aV n)=some x) ∨
  (iter (fun s:Int=>e6 l n.Nodes n.Rings n.Room items p5 p6 p7 s) (k:Int)=some (-1)/\(l.drop k).find? (aV n)=none):=by
 intro m
 induction m with
 | zero =>
  intro k hk
  have hk:k=l.length:=by omega
  subst hk
  right
  have e:e6 l n.Nodes n.Rings n.Room items p5 p6 p7 (l.length:Int)=some (.inr (-1)):=by
   unfold e6;rw [if_neg (by simp)];rfl
  rw [an];simp only [e]
  rw [List.drop_length];simp
 | succ m ih =>
  intro k hk
  have hlt:k<l.length:=by omega
  have hg:l[k]?=some l[k]:=List.getElem?_eq_getElem hlt
  obtain ⟨h0,h1⟩:=hm l[k] (List.getElem_mem hlt)
  have e:e6 l n.Nodes n.Rings n.Room items p5 p6 p7 (k:Int)=some (if aV n l[k]=true then .inr (k:Int) else .inl ((k+1:Nat):Int)):=by
   unfold e6;rw [if_pos (by simp;omega),bd hlt,Option.bind_some,hg,Option.bind_some,AC h0 h1,Option.bind_some,aJ (by omega)];split<;>rfl
  rw [an];simp only [e]
  rw [List.drop_eq_getElem_cons hlt,List.find?_cons]
  cases hp:aV n l[k] with
  | true =>
   left
   exact ⟨k,Nat.le_refl _,by simp,l[k],hg,rfl⟩
  | false =>
   simp only [Bool.false_eq_true,if_false]
   rcases ih (k+1) (by omega) with ⟨j,a,b,c⟩ | h
   ·exact .inl ⟨j,by omega,b,c⟩
   ·exact .inr h
theorem z8 (hsrc:aZ n items=0) (p5:Int) (p6:List ((List UInt8) × Unit)) (p7:List (List Item)):∀ (f:Nat) (s:State),Inv n items s->muN n items s<=f ->
  iter (fun ss:(List Int) × (List (List Item)) × (List Memory) × (List Choice) × (List Item)=>eB n.Nodes n.Rings n.Room items p5 p6 p7 ss.1 ss.2.1 ss.2.2.1 ss.2.2.2.1 ss.2.2.2.2) (s.At,s.Rings,s.Memory,s.Choices,s.Out) =
   some (bI n items f s,ak n items (bI n items f s)):=by
 have hS:=dM hsrc
 intro f
 induction f with
 | zero =>
  intro s hI hf
  obtain ⟨B,ok,hB⟩:=id hI
  have hr:∀ l,l∈s.Rings->l.length<=1099511627776:=(mR hS ok).a6
  have hfind:(ak n items s).find? (aV n)=none:=by
   cases h:(ak n items s).find? (aV n) with
   | none=>rfl
   | some m=>have:=(Inv.doMv hS hI (gK h).1).2;omega
  have e:eB n.Nodes n.Rings n.Room items p5 p6 p7 s.At s.Rings s.Memory s.Choices s.Out=some (.inr (s,ak n items s)):=by
   unfold eB;have hR:il ⟨n.Nodes,n.Rings,n.Room⟩ items ⟨s.At,s.Rings,s.Memory,s.Choices,s.Out⟩=some (ak n items s,0):=by
    have:=tw n items s hio hr;rw [if_neg (by simp [nO hsrc ok])] at this;exact this
   rw [hR,Option.bind_some];unfold iY;rcases sK (ak n items s) (by have:=ii (s:=s) (items:=items) hS.toRightN;omega) (fun m hm=>by
    obtain ⟨i,k,rfl,hi,_,_⟩:=dL hm;exact ⟨by simp,by simpa using hi⟩) p5 p6 p7 (ak n items s).length 0 (by omega) with ⟨j,_,_,x,_,h⟩ | ⟨h,_⟩
   ·rw [List.drop_zero,hfind] at h;cases h
   ·rw [Int.natCast_zero] at h;rw [h,Option.bind_some,if_pos (by decide)];rfl
  rw [an];simp only [e];rfl
 | succ f ih =>
  intro s hI hf
  obtain ⟨B,ok,hB⟩:=id hI
  have hr:∀ l,l∈s.Rings->l.length<=1099511627776:=(mR hS ok).a6
  have hR:il ⟨n.Nodes,n.Rings,n.Room⟩ items ⟨s.At,s.Rings,s.Memory,s.Choices,s.Out⟩=some (ak n items s,0):=by
   have:=tw n items s hio hr;rw [if_neg (by simp [nO hsrc ok])] at this;exact this
  have hix:=sK (items:=items) (ak n items s) (by have:=ii (s:=s) (items:=items) hS.toRightN;omega) (fun m hm=>by
    obtain ⟨i,k,rfl,hi,_,_⟩:=dL hm;exact ⟨by simp,by simpa using hi⟩) p5 p6 p7 (ak n items s).length 0 (by omega)
  rw [List.drop_zero,Int.natCast_zero] at hix
  cases hfind:(ak n items s).find? (aV n) with
  | none =>
   rw [hfind] at hix
   have e:eB n.Nodes n.Rings n.Room items p5 p6 p7 s.At s.Rings s.Memory s.Choices s.Out=some (.inr (s,ak n items s)):=by
    unfold eB;rw [hR,Option.bind_some];unfold iY;rcases hix with ⟨j,_,_,x,_,h⟩ | ⟨h,_⟩
    ·cases h
    ·rw [h,Option.bind_some,if_pos (by decide)];rfl
   rw [an];simp only [e]
   unfold bI
   rw [hfind]
  | some m =>
   rw [hfind] at hix
   have hmem:=(gK hfind).1
   have hI':=Inv.doMv hS hI hmem
   have e:eB n.Nodes n.Rings n.Room items p5 p6 p7 s.At s.Rings s.Memory s.Choices s.Out =
     some (.inl ((doMv n items s m).At,(doMv n items s m).Rings,(doMv n items s m).Memory,(doMv n items s m).Choices,(doMv n items s m).Out)):=by
    unfold eB
    rw [hR,Option.bind_some]
    unfold iY
    rcases hix with ⟨j,_,h,x,hx,h2⟩ | ⟨_,h⟩
    ·cases h2
     have hjl:=(List.getElem?_eq_some_iff.1 hx).1
     have hD:=Do_eq n items s m hio hr
     obtain ⟨i,k,rfl,hi,hk,hc⟩:=dL hmem
     rw [if_neg (by simp [nO hsrc ok]),if_neg (by
      have:dG n ⟨(i:Int),(k:Int)⟩:=⟨by simp,by simpa using hi,by simp,by simpa using hk⟩
      exact fun e=>e this),if_neg (by unfold canMv;simp [hc])] at hD
     rw [h,Option.bind_some,if_neg (by simp),bd hjl,Option.bind_some,hx,Option.bind_some]
     have hD':gP ⟨n.Nodes,n.Rings,n.Room⟩ items ⟨s.At,s.Rings,s.Memory,s.Choices,s.Out⟩ ⟨(i:Int),(k:Int)⟩=some (doMv n items s ⟨(i:Int),(k:Int)⟩,0):=hD
     rw [hD',Option.bind_some]
    ·cases h
   rw [an];simp only [e]
   rw [ih _ hI'.1 (by omega)]
   have hc:bI n items (f+1) s=bI n items f (doMv n items s m):=by
    show (match (ak n items s).find? (aV n) with | none=>s | some m=>bI n items f (doMv n items s m))=_;rw [hfind]
   rw [hc]
theorem B7 (hsrc:aZ n items=0) {s:State} (hI:Inv n items s) (p5:Int) (p6:List ((List UInt8) × Unit)) (p7:List (List Item)) :
  kx s n.Nodes n.Rings n.Room items p5 p6 p7=some (aG n items s,ak n items (aG n items s)):=by
 unfold kx aG
 exact z8 hio hsrc p5 p6 p7 _ s hI hI.mu_le
end
end
end Go.Proofs.YtoelnjpolhamfaaGreatDoor
