/-
  Part 2 of the proof of taleScriptLaw.proved: the code computes these functions, and the law holds of them, with no condition beyond the statement's own; put together by a program of ours (wip/decl.py) out of texts of ours.
-/
import Derived.Laws.IdiomCopy
import Derived.Lib.Overlaps
import Derived.Test.YtbfncjgaklimlaaGreatDoorRows
import Derived.Lib.AppendStr
import Derived.Shelf.Strconv.Itoa3
import Derived.Shelf.Strings.Split
import Derived.Lib.IndexLaws
import Derived.Shelf.Strconv.Atoi
import Derived.Shelf.Strings.IndexAnyAll
import Derived.Shelf.Strconv.AtoiAll
import Derived.Scope
import Derived.Shelf.RegionOpenPlain
import Derived.Shelf.Small.Utf8
import Derived.Recover
import Derived.Shelf.Strconv.ParseIntPublic10
import Derived.Shelf.Strconv.Itoa4
import Derived.Lib.AppendIntMem
import Derived.Shelf.Strings.Search2
import Derived.Shelf.Strings.OnBuilder
import Derived.Shelf.Strings.Builder1
import Derived.Lib.Builder
import Derived.Laws.Externs
import Derived.Deep.QuietTactic
import Derived.Sort.LotA
import Derived.Sort.Row
import Derived.Tactics
import Derived.Tactics2
import Derived.Maps.RangeRun
import Derived.Test.YtbfncjgaklimlaaGreatDoorZTaleScript1
set_option linter.unusedVariables false
set_option linter.unusedSimpArgs false
namespace Go.Proofs.YtbfncjgaklimlaaGreatDoor
section
open Go.RowKit
section
variable {P:Program} {N n:Nat} {aw aw':List Ob} {l:List (Nat × AV)} {σ:List Value} {w:World} {F:Nat→Prop}
structure IsV (σ:List Value) (id c lo n:Nat) (v:Value):Prop where
 out:∃ (N C K:Nat) (A B:Option Addr),σ[id]?=some (.slice B N C)/\v=.slice A n K/\lo+n<=C/\(0<n->∃ g,B=some ⟨g,0,none⟩/\A=some ⟨g,lo*c,none⟩)
structure Src (w:World) (c m:Nat) (flat:List Value) (v:Value):Prop where
 out:∃ (A:Option Addr) (K:Nat),v=.slice A m K/\flat.length=m*c/\(A=none->flat=[])/\∀ ad,A=some ad->∀ j u,flat[j]?=some u->w.cell? (ad.add j)=some u
theorem oU {id e c:Nat} {rows:List (List AV)} (hs:Sim aw σ w F) (ho:aw[id]?=some (.arr e c rows)) {A:Option Addr} {q cp:Nat} (hσ:σ[id]?=some (.slice A q cp)):q=rows.length/\q<=cp:=by
 obtain ⟨flat,hown,_⟩:=hs.obj id _ _ ho hσ;rcases hown.2 with ⟨h1,h2⟩ | ⟨g,cap,cur,h1,_,_,h2,_⟩
 all_goals grind
theorem pM {id c lo m:Nat} {cap:Option Nat} {v:Value} (h:Rel σ w F (.vw id c lo m cap) v):IsV σ id c lo m v:=by
 cases h with
 | vw _ _ _ _ N C _ A B h hn hA hc _=>exact ⟨N,C,_,A,B,h,rfl,hn,hA⟩
theorem vF {id e c:Nat} {rows:List (List AV)} {v:Value} (hs:Sim aw σ w F) (ho:aw[id]?=some (.arr e c rows)) (h:Rel σ w F (.ref id) v):IsV σ id c 0 rows.length v:=by
 cases h with
 | ref _ A q cp hσ =>
  obtain ⟨h1,h2⟩:=oU hs ho hσ;subst h1;obtain ⟨_,flat,_,_,hc⟩:=em hs ho hσ;refine ⟨_,cp,cp,A,A,hσ,rfl,by omega,fun h0=>?_⟩;grind
theorem vS {id e c lo m:Nat} {rows:List (List AV)} {v:Value} (hs:Sim aw σ w F) (ho:aw[id]?=some (.arr e c rows)) (hv:IsV σ id c lo m v) (hlo:lo+m<=rows.length) :
  ∃ flat,Src w c m flat v/\RelL σ w F ((rows.drop lo).take m).flatten flat/\(∀ u,u∈flat->u.oneCell'=true)/\∀ row,row∈rows->row.length=c:=by
 obtain ⟨N0,C,K,A,B,hσ,rfl,hn,hA⟩:=hv.out
 obtain ⟨h1,flat,hown,hfl,hc⟩:=em hs ho hσ
 have hfr:(((rows.drop lo).take m).flatten)=((rows.flatten.drop (lo*c)).take (m*c)):=by
  rw [jc _ _ (fun row hr=>hfl.1 row (zG hr))];congr 1;have:∀ (k:Nat) (l:List (List AV)),(∀ row,row∈l->row.length=c)->(l.drop k).flatten=l.flatten.drop (k*c):=by
   intro k;induction k with
   | zero=>simp
   | succ k ih =>
    intro l hl;cases l with
    | nil=>simp
    | cons x l =>
     rw [List.drop_succ_cons,ih l (fun row hr=>hl row (zd _ hr)),zC,Ar,Nat.one_mul,<- hl x zl,Nat.add_comm (k*x.length),<- z8,Ap]
  exact this lo rows hfl.1
 refine ⟨(flat.drop (lo*c)).take (m*c),⟨A,K,rfl,?_,fun hA0=>?_,fun ad had j u hj=>?_⟩,?_,fun u hu=>hfl.2.1 u (zG (zo hu)),hfl.1⟩
 ·have h2:=hown.1
  have:lo*c+m*c<=N0*c:=by rw [<- Ar];simp_all [zz]
  grind
 ·simp_all
 ·have hj':j<m*c:=by
   grind
  by_cases hm:m=0
  ·grind
  ·obtain ⟨g,e1,e2⟩:=hA (by omega)
   rw [had] at e2;cases e2
   rcases hc with hc | ⟨g',cur,e3,_⟩
   ·grind
   ·rw [e1] at e3;cases e3
    rw [e1] at hown
    rw [zJ,if_pos hj',zx] at hj
    have:=hown.cells (g:=g) rfl (lo*c+j) u hj
    grind [Addr.add]
 ·rw [hfr];exact hfl.2.2.sub _ _
theorem wN {c:Nat} {rows:List (List AV)} {v:Value} (h:Rel σ w F (.sl rows) v) (hrow:∀ row,row∈rows->row.length=c) :
  ∃ flat,Src w c rows.length flat v/\RelL σ w F rows.flatten flat/\(∀ u,u∈flat->u.oneCell'=true):=by
 cases h with
 | slNil=>exact ⟨[],⟨none,0,rfl,by simp,fun _=>rfl,fun ad h=>by cases h⟩,.nil,fun u hu=>by simp at hu⟩
 | sl _ size ad cp u hF hn hm hr1 hone hcell hrel =>
  by_cases hne:rows=[]
  ·subst hne
   exact ⟨[],⟨some ad,cp,rfl,by simp,fun _=>rfl,fun _ _ j u hj=>by simp at hj⟩,.nil,fun u hu=>by simp at hu⟩
  ·have hsize:size=c:=by
    obtain ⟨r,rs,rfl⟩:=List.exists_cons_of_ne_nil hne;simp_all
   subst hsize
   have hlen:rows.flatten.length=rows.length*size:=by
    have:∀ l:List (List AV),(∀ row,row∈l->row.length=size)->l.flatten.length=l.length*size:=by
     intro l;induction l with
     | nil=>simp
     | cons x l ih =>
      grind
    grind
   by_cases h0:size=0
   ·subst h0
    refine ⟨[],⟨some ad,cp,rfl,by simp,(fun _=>rfl),(fun _ _ j u hj=>by simp at hj)⟩,?_,fun u hu=>by simp at hu⟩
    have:rows.flatten=[]:=y7 (by omega)
    rw [this];exact .nil
   ·have idx:∀ k,k<rows.length*size->k / size<rows.length/\k % size<size/\k / size*size+k % size=k:=fun k hk =>
     ⟨Am (by grind),Nat.mod_lt _ (by omega),by simp [Nat.mul_comm,Nat.div_add_mod]⟩
    have hget:∀ (k:Nat) x,((List.range (rows.length*size)).map fun k=>u (k / size) (k % size))[k]?=some x->k<rows.length*size/\x=u (k / size) (k % size):=fun k x hx=>by grind
    refine ⟨(List.range (rows.length*size)).map fun k=>u (k / size) (k % size),⟨some ad,cp,rfl,by simp,fun h=>(by cases h),fun ad' e j x hj=>?_⟩,⟨by simp [hlen],fun j x y hx hy=>?_⟩,fun x hx=>?_⟩
    ·grind
    ·obtain ⟨h1,rfl⟩:=hget j y hy
     obtain ⟨h2,h3,h4⟩:=idx j h1
     have hf:=gR hr1 (j / size) (j % size) rows[j / size] (yW h2) h3
     grind
    grind
theorem so {id e c lo k:Nat} {rows news:List (List AV)} {B:Option Addr} {N0 C g:Nat} {vs:List Value} (hs:Sim aw σ w F) (ho:aw[id]?=some (.arr e c rows)) (hσ:σ[id]?=some (.slice (some ⟨g,0,none⟩) N0 C))
  (hk:news.length=k) (hlo:lo+k<=rows.length) (hrow:∀ row,row∈news->row.length=c) (hvl:vs.length=k*c) (hr:RelL σ w F news.flatten vs) (h1:∀ u,u∈vs->u.oneCell'=true) :
  ∃ w',(storeCells ⟨g,lo*c,none⟩ vs).run P w=.ok () w'/\Sim (aw.set id (.arr e c (rows.take lo++news++rows.drop (lo+k)))) σ w' F/\Mv aw σ w F (aw.set id (.arr e c (rows.take lo++news++rows.drop (lo+k)))) σ w' F:=by
 obtain ⟨hn,flat,hown,hfl,hc⟩:=em hs ho hσ
 have hdrop:∀ (k:Nat) (l:List (List AV)),(∀ row,row∈l->row.length=c)->(l.drop k).flatten=l.flatten.drop (k*c):=by
  intro k;induction k with
  | zero=>simp
  | succ k ih =>
   intro l hl;cases l with
   | nil=>simp
   | cons x l =>
    rw [List.drop_succ_cons,ih l (fun row hr=>hl row (zd _ hr)),zC,Ar,Nat.one_mul,<- hl x zl,Nat.add_comm (k*x.length),<- z8,Ap]
 rcases hc with hc | ⟨g',cur,e1,hF,hg,hnc,h2,h3,h4⟩
 ·subst hc
  have h0:k=0:=by grind
  have hl0:lo=0:=by grind
  subst h0 hl0
  have hv0:vs=[]:=y7 (by omega)
  have hn0:news=[]:=y7 hk
  subst hv0 hn0
  have hset:aw.set id (.arr e c (([]:List (List AV)).take 0++[]++([]:List (List AV)).drop (0+0)))=aw:=by grind [List.set_getElem_self]
  rw [hset]
  exact ⟨w,by rfl,hs,.refl ..⟩
 ·cases e1
  have hin:lo*c+k*c<=N0*c:=by rw [<- Ar];simp_all [zz]
  have hcap:N0*c<=cur.size:=by simp_all [zz]
  have hst:=run_storeCells_at P g (lo*c) e vs 0 cur w hg (by omega) h1
  simp only [zQ] at hst
  have hkk:∀ b,b≠g->(w.setRow g (cur.toList.take (lo*c)++vs++cur.toList.drop (lo*c+vs.length)).toArray).heap[b]?=w.heap[b]?:=fun b hb=>setRow_other w g b _ hb
  have hflat:flat.length=N0*c:=hown.1
  have hlen2:(rows.take lo++news++rows.drop (lo+k)).length=N0:=by simp;omega
  have hORel:ORel σ (w.setRow g (cur.toList.take (lo*c)++vs++cur.toList.drop (lo*c+vs.length)).toArray) F (.arr e c (rows.take lo++news++rows.drop (lo+k))) (.slice (some ⟨g,0,none⟩) N0 C):=by
   refine ⟨flat.take (lo*c)++vs++flat.drop (lo*c+vs.length),⟨?_,.inr ⟨g,C,_,by rw [hlen2],zu _,setRow_heap w g cur _ e (0,0) hg,by omega,h2,?_,?_⟩⟩,⟨fun row hr=>?_,fun u hu=>?_,?_⟩,fun g2 hg2=>?_,_,_,_,rfl⟩
   ·grind
   ·grind
   ·rw [hlen2];simp only [List.toList_toArray];have h5:=mP cur.toList vs (lo*c) (N0*c) (by omega) (by omega);grind [aL]
   ·rcases zn.1 hr with hr | hr
    ·rcases zn.1 hr with hr | hr
     ·exact hfl.1 row (zo hr)
     grind
    ·exact hfl.1 row (zG hr)
   ·rcases zn.1 hu with hu | hu
    ·rcases zn.1 hu with hu | hu
     ·exact hfl.2.1 u (zo hu)
     grind
    ·exact hfl.2.1 u (zG hu)
   ·rw [Ab,Ab,jc _ _ hfl.1,hdrop _ _ hfl.1];rw [show lo*c+vs.length=(lo+k)*c from by grind] at hkk ⊢;have hd2:RelL σ w F (rows.flatten.drop ((lo+k)*c)) (flat.drop ((lo+k)*c)):=by
     refine ⟨by simp [hfl.2.2.1],fun j a v ha hv=>?_⟩;rw [zx] at ha hv;exact hfl.2.2.2 _ a v ha hv
    exact (((hfl.2.2.take _).append hr).append hd2).mono (fun _ _ e=>e) (fun _ e=>e) (fun b hb=>hkk b (fun e=>hF (e▸hb)))
   grind [Value.ownBlock]
  exact ⟨_,hst,hs.write (b0:=g) id ho rfl hσ rfl hkk (by simp) _ hORel (fun _ h=>h),Mv.write (w:=w) (w':=w.setRow g _) (F:=F) (b0:=g) id ho rfl hσ rfl rfl rfl drO hkk (by simp) _ (fun _ h=>h)⟩
theorem ux {t ts ty e c id lo m k:Nat} {rows news:List (List AV)} {vd vs:Value} {flat:List Value} (hu:P.underlying t=some (.slice e)) (hc:P.cellsOf e=c) (hsm:(P.underlying e).isSome=true) (hs:Sim aw σ w F) (ho:aw[id]?=some (.arr e c rows))
  (hd:IsV σ id c lo m vd) (hsrc:Src w c news.length flat vs) (hr:RelL σ w F news.flatten flat) (h1:∀ u,u∈flat->u.oneCell'=true) (hrow:∀ row,row∈news->row.length=c) (hk:min m news.length=k) (hlo:lo+k<=rows.length) :
  ∃ w',(Builtin.copy_ #[t,ts] ty #[vd,vs]).run P w=.ok (goInt k) w'/\Sim (aw.set id (.arr e c (rows.take lo++news.take k++rows.drop (lo+k)))) σ w' F/\Mv aw σ w F (aw.set id (.arr e c (rows.take lo++news.take k++rows.drop (lo+k)))) σ w' F:=by
 obtain ⟨N0,C,K,A,B,hσ,rfl,hn,hA⟩:=hd.out
 obtain ⟨A2,K2,rfl,hfl,hnone,hcell⟩:=hsrc.out
 obtain ⟨ds,hds⟩:=zg.1 hsm
 have hmin:Nat.min news.length m=k:=by grind
 have htk:k*c<=flat.length:=by rw [hfl];exact zz _ (by omega)
 have hfirst:(Builtin.firstCells c k (.slice A2 news.length K2)).run P w=.ok (flat.take (k*c)).toArray w:=by
  cases A2 with
  | none=>simp_all [Builtin.firstCells]
  | some ad=>grind [run_firstCells_some]
 have hsz:=ca hds
 rw [hc] at hsz
 have hset:aw.set id (.arr e c (rows.take lo++([]:List (List AV))++rows.drop (lo+0)))=aw:=by obtain ⟨hlt,hvs⟩:=yX.1 ho;have:aw.set id aw[id]=aw:=zF hlt;simp_all
 by_cases h0:k=0
 ·subst h0
  simp only [List.take_zero]
  rw [hset]
  refine ⟨w,?_,hs,.refl ..⟩
  have he:(flat.take (0*c)).toArray=#[]:=by simp
  rw [he] at hfirst
  cases A with
  | none=>simp_all [Builtin.copy_,run_underlying,Builtin.lenOf]
  | some a=>simp [Builtin.copy_,Sem.run_bind,run_underlying hu,Builtin.lenOf,hmin,hsz,hfirst,storeCells]
 ·obtain ⟨g,rfl,rfl⟩:=hA (by omega)
  have hrt:RelL σ w F (news.take k).flatten (flat.take (k*c)):=by rw [jc _ _ hrow];exact hr.take _
  obtain ⟨w',hst,s2,m2⟩:=so (P:=P) (B:=none) (news:=news.take k) (vs:=flat.take (k*c)) (lo:=lo) (k:=k) hs ho hσ (by simp;omega) hlo (fun row hr=>hrow row (zo hr)) (by grind) hrt (fun u hu=>h1 u (zo hu))
  simp_all [Builtin.copy_,run_underlying,Builtin.lenOf]
variable {d:Option Tmp} {ty:TypeId} {ps:String} {af:Array Edge} {g:Option (Nat × Bool)} {K2:AV→List Ob→Prop} {α:Type} {en:α→List AV} {xs ys:List α}
theorem pi (lo:Option Operand):lo.map (ev (mkA n l))=lo.map (evA n l):=by cases lo<;>simp [ab]
theorem jm {t:TypeId} {x:Operand} {lo hi:Option Operand} {id e c:Nat} {i j:Int} {k k':IntKind} {u:Unit} (hS:SliceOf P t e c) (hx:evA n l x=.ref id) (ho:aw[id]?=some (.arr e c (xs.map en)))
    (hl:(lo.map (evA n l)).getD (.int .i64 0)=.int k i) (hh:(hi.map (evA n l)).getD (.int .i64 xs.length)=.int k' j) (hv:vwok xs.length i j=some u) (h:K2 (.vw id c i.toNat (j.toNat - i.toNat) none) aw) :
    OP P N ⟨d,.slice t x lo hi none,ty,ps,af,g⟩ (mkA n l) aw K2 :=
  OP.of_ok (fun σ w F a har hs=>by
    unfold vwok at hv;split at hv
    · rename_i hc;have ex:=har.ev x;rw [ab,hx] at ex;generalize hvx:a.eval x=vx at ex;cases ex with
      | ref _ A q cp hσ =>
        obtain ⟨h1,h2⟩:=oU hs ho hσ;rw [zf] at h1;subst h1;obtain ⟨ds,hd⟩:=zg.1 hS.s;have hsz:=ca hd;rw [hS.c] at hsz;have b:=fun w'=>jo (P:=P) har (lo:=lo) (hi:=hi) (b:=true) (len:=xs.length) (cap:=cp) (by rw [pi];exact hl) (by rw [pi];exact hh) hc.1 hc.2.1 hc.2.2 h2 w'
        have hfm:∃ g,xs≠[]->A=some ⟨g,0,none⟩:=by
          obtain ⟨_,_,_,_,hc2⟩:=em hs ho hσ;rcases hc2 with hc2 | ⟨g,cur,e1,_⟩
          · simp_all
          grind
        obtain ⟨g0,hg0⟩:=hfm;refine ⟨.slice (if cp=i.toNat then A else A.map (·.add (i.toNat*c))) (j.toNat - i.toNat) (cp - i.toNat),_,w,aw,σ,F,_,?_,.inl rfl,hs,.refl ..,?_,h⟩
        · simp [execOp,hvx,Instr.sliceAt,Instr.slice,Sem.run_bind,run_underlying hS.u,b,hsz]
        · refine .vw id c _ _ _ cp none _ A hσ (by omega) (fun hpos=>?_) (fun k hk=>by cases hk) ?_
          · have hne:xs≠[]:=by grind
            refine ⟨g0,hg0 hne,?_⟩;have:¬ cp=i.toNat:=by omega
            simp_all [cf]
          · intro h0;rw [h0];simp [Addr.add]
    · cases hv)
theorem m9 {t ts e c id lo m k:Nat} {x y:Operand} {rows news:List (List AV)} {ax ay:AV} (hS:SliceOf P t e c) (hx:evA n l x=ax) (hy:evA n l y=ay) (ho:aw[id]?=some (.arr e c rows))
  (hd:∀ σ w F v,Sim aw σ w F->Rel σ w F ax v->IsV σ id c lo m v)
  (hsrc:∀ σ w F v,Sim aw σ w F->Rel σ w F ay v->∃ flat,Src w c news.length flat v/\RelL σ w F news.flatten flat/\(∀ u,u∈flat->u.oneCell'=true)) (hrow:∀ row,row∈news->row.length=c)
  (hk:min m news.length=k) (hlo:lo+k<=rows.length) (ha:aw.set id (.arr e c (rows.take lo++news.take k++rows.drop (lo+k)))=aw') (h:K2 (.int .i64 k) aw') :
  OP P N ⟨d,.call ⟨.builtin .copy,#[x,y],#[t,ts]⟩,ty,ps,af,g⟩ (mkA n l) aw K2 :=
 OP.of_ok (fun σ w F a har hs=>by subst ha;have ex:=har.ev x;have ey:=har.ev y;rw [ab,hx] at ex;rw [ab,hy] at ey;obtain ⟨flat,h1,h2,h3⟩:=hsrc σ w F _ hs ey;obtain ⟨w',hrun,s2,m2⟩:=ux (P:=P) (t:=t) (ts:=ts) (ty:=ty) hS.u hS.c hS.s hs ho (hd σ w F _ hs ex) h1 h2 h3 hrow hk hlo;refine ⟨goInt k,_,w',_,σ,F,_,?_,.inl rfl,s2,m2,.int _ _,h⟩;simp_all [execOp,resolve,invoke,builtin])
theorem o7 (lo m:Nat):(cpy xs lo m ys).map en=(xs.map en).take lo++(ys.map en).take (min m ys.length)++(xs.map en).drop (lo+min m ys.length):=by simp [cpy]
theorem t6 {t ts e c id:Nat} {x y:Operand} (hS:SliceOf P t e c) (hen:∀ a,(en a).length=c) (hx:evA n l x=.ref id) (hy:evA n l y=.sl (ys.map en)) (ho:aw[id]?=some (.arr e c (xs.map en)))
  (ha:aw.set id (.arr e c ((cpy xs 0 xs.length ys).map en))=aw') (h:K2 (.int .i64 (min xs.length ys.length:Nat)) aw'):OP P N ⟨d,.call ⟨.builtin .copy,#[x,y],#[t,ts]⟩,ty,ps,af,g⟩ (mkA n l) aw K2:=by
 have hrow:∀ row,row∈ys.map en->row.length=c:=fun row hr=>by grind
 rw [o7] at ha
 exact m9 (lo:=0) (m:=xs.length) (news:=ys.map en) (k:=min xs.length ys.length) hS hx hy ho (fun σ w F v hs hr=>by grind [vF,List.length_map]) (fun σ w F v _ hr=>wN hr hrow) hrow (by simp) (by simp;omega) ha h
theorem sY {t ts e c id lo m lo2 m2:Nat} {x y:Operand} {cap cap2:Option Nat} {u u2:Unit} (hS:SliceOf P t e c) (hen:∀ a,(en a).length=c) (hx:evA n l x=.vw id c lo m cap) (hy:evA n l y=.vw id c lo2 m2 cap2) (ho:aw[id]?=some (.arr e c (xs.map en)))
  (hv:vwok xs.length lo ((lo:Int)+m)=some u) (hv2:vwok xs.length lo2 ((lo2:Int)+m2)=some u2) (ha:aw.set id (.arr e c ((cpy xs lo m ((xs.drop lo2).take m2)).map en))=aw') (h:K2 (.int .i64 (min m m2:Nat)) aw'):OP P N ⟨d,.call ⟨.builtin .copy,#[x,y],#[t,ts]⟩,ty,ps,af,g⟩ (mkA n l) aw K2:=by
 unfold vwok at hv hv2
 split at hv<;>split at hv2
 ·rename_i hc hc2
  have hl2:((xs.drop lo2).take m2).length=m2:=by grind
  have hrow:∀ row,row∈((xs.drop lo2).take m2).map en->row.length=c:=fun row hr=>by grind
  rw [o7,hl2] at ha
  refine m9 (news:=((xs.drop lo2).take m2).map en) (k:=min m m2) hS hx hy ho (fun σ w F v _ hr=>pM hr) (fun σ w F v hs hr=>?_) hrow (by grind) (by simp;omega) ha h
  obtain ⟨flat,h1,h2,h3,_⟩:=vS hs ho (pM hr) (by simp;omega)
  grind [List.map_drop,List.map_take]
 all_goals grind
end
end
section
open Go.RowKit Go.Lib
section
variable {P:Program} {N n:Nat} {aw aw':List Ob} {l:List (Nat × AV)} {σ:List Value} {w:World} {F:Nat→Prop}
theorem ww {t:Nat} {r:AV} {v:Value} {a:Act} (h:ARel σ w F (mkA n l) a) (hv:a.eval (.tmp t)=v) (hr:Rel σ w F r v):ARel σ w F (mkA n ((t,r)::l)) a:=by
 have e1:a.tmps.getD t undef=v:=hv;have hset:mkA n ((t,r)::l)=(mkA n l).set t r:=(br n l (some t) r).symm;rw [hset];refine ⟨?_,h.2⟩;by_cases ht:t<a.tmps.size
 ·have:=h.1.set t hr;have e2:a.tmps.toList.set t v=a.tmps.toList:=by
   have e3:a.tmps.toList[t]?=some v:=by simp_all
   grind [List.set_getElem_self]
  grind
 ·have hlen:=h.1.1;have:(mkA n l).set t r=mkA n l:=List.set_eq_of_length_le (by grind);rw [this];exact h.1
variable {d:Option Tmp} {ty:TypeId} {ps:String} {af:Array Edge} {g:Option (Nat × Bool)} {K2:AV→List Ob→Prop} {α:Type} {en:α→List AV} {xs ys:List α}
theorem T.nilA {code:Code} {Q:Exit->List AV->List Ob->Prop} (t j e z:Nat) {cs cs':List AV} (hx:evA n l (.tmp t)=.agg cs) (hj:cs[j]?=some .nils) (hc:cs.set j (.ref aw.length)=cs') (ha:aw++[.arr e z []]=aw') (h:T P N code Q (mkA n ((t,.agg cs')::l)) aw'):T P N code Q (mkA n l) aw :=
 ⟨fun st h1 h2 σ w F a hcur=>by
  subst hc ha;obtain ⟨s1,m1,r1⟩:=jv e z hcur.sim;have hr:=hcur.fr.ev (.tmp t);rw [ab,hx] at hr;generalize hv:a.eval (.tmp t)=v at hr;have hr1:=m1.rel hcur.sim hr;have hr2:Rel (σ++[.slice none 0 0]) w F (.agg (cs.set j (.ref aw.length))) v:=by
   cases hr1 with
   | agg _ vs hl h1c hcc =>
    refine .agg _ vs (by grind) h1c (fun i x u hx hu=>?_);rw [ze] at hx;split at hx
    ·rename_i e1;subst e1;split at hx
     ·cases hx;have:=hcc j .nils u hj hu;cases this;exact r1
     ·cases hx
    grind
  exact h.out st h1 h2 _ w F a ⟨s1,ww (m1.aRel hcur.sim hcur.fr) hv hr2,hcur.mv.trans m1,hcur.ds⟩⟩
end
end
section
open Go.RowKit
abbrev iI (n:Int):AV:=.int .i64 n
abbrev sL {α:Type} (en:α->List AV) (xs:List α):AV:=.sl (List.map en xs)
abbrev aR {α:Type} (e c:Nat) (en:α->List AV) (xs:List α):Ob:=.arr e c (List.map en xs)
section
variable {P:Program} {N n:Nat} {aw aw':List Ob} {l:List (Nat × AV)} {ops:Array Oper} {os:List Oper} {K:List AV→List Ob→Prop} {o:Oper} {d:Option Tmp} {x:Operand} {ty:TypeId} {ps:String} {af:Array Edge}
theorem sq (h:vcQ P (mkA n l) aw o.op fun r=>RS P N ops os K (mkA n (putA l o.dst r)) aw) (hg:o.guard=none:=by rfl) (hq:e8 o.op=true:=by rfl):RS P N ops (o::os) K (mkA n l) aw:=RS.op hg (OP.q hq h)
theorem sn {j t:Nat} {want b:Bool} (hbw:b=!want) (h:RS P N ops os K (mkA n (putA l o.dst (.tup []))) aw) (hg:o.guard=some (j,want):=by rfl) (ht:(ops[j]?).bind (·.dst)=some t:=by rfl) (hb:evA n l (.tmp t)=.bool b:=by rfl) :
 RS P N ops (o::os) K (mkA n l) aw:=RS.no hg ht hb hbw h
theorem su {j t:Nat} {want:Bool} (h:RS P N ops os K (mkA n (putA l o.dst (.tup []))) aw) (hg:o.guard=some (j,want):=by rfl) (ht:(ops[j]?).bind (·.dst)=some t:=by rfl) (hb:evA n l (.tmp t)=.tup []:=by rfl) :
 RS P N ops (o::os) K (mkA n l) aw:=RS.nou hg ht hb h
def SubA:List (Nat × AV)->List (Nat × AV)->Prop
 | [],_=>True
 | (s,v)::r,l=>lkA l s=v/\SubA r l
theorem oW:∀ {l' l:List (Nat × AV)},SubA l' l->∀ t,lkA l' t=.any∨lkA l' t=lkA l t
 | [],l,_,t=>.inl rfl
 | (s,v)::r,l,h,t=>by
  rw [dA];by_cases e:s=t
  ·subst e;rw [if_pos rfl];exact .inr h.1.symm
  ·rw [if_neg e];exact oW h.2 t
theorem o4 {l':List (Nat × AV)} {st:St} {σ:List Value} {w:World} {F:Nat->Prop} {a:Act} (h:SubA l' l) (hc:Cur st (mkA n l) aw σ w F a):Cur st (mkA n l') aw σ w F a:=by
 refine ⟨hc.sim,⟨⟨?_,fun j x v hx hv=>?_⟩,hc.fr.2⟩,hc.mv,hc.ds⟩
 ·have:=hc.fr.1.1;grind [e9]
 ·rw [bV] at hx;split at hx
  ·rename_i hj;cases hx;rcases oW h j with e | e
   ·rw [e];exact .any _
   ·rw [e];exact hc.fr.1.2 j _ v (by rw [bV,if_pos hj]) hv
  ·cases hx
theorem RA.sub {l':List (Nat × AV)} {k:Nat} {li:Array Bool} (h:RA P N ops k li K (mkA n l') aw) (hs:SubA l' l):RA P N ops k li K (mkA n l) aw:=⟨fun st h1 h2 σ w F a hc=>h.out st h1 h2 σ w F a (o4 hs hc)⟩
theorem T.sub {l':List (Nat × AV)} {c:Code} {Q:Exit->List AV->List Ob->Prop} (h:T P N c Q (mkA n l') aw) (hs:SubA l' l):T P N c Q (mkA n l) aw:=⟨fun st h1 h2 σ w F a hc=>h.out st h1 h2 σ w F a (o4 hs hc)⟩
section
variable {k:Nat} {li li':Array Bool} {fr fr':List AV}
theorem ra1 (i1:Nat) (h1:RO P N ops i1 (RA P N ops k (li.setIfInBounds i1 true) K) fr aw) (hr:Region.ready .any ops li=[i1]:=by decide +kernel):RA P N ops (k+1) li K fr aw:=RA.a1 hr rfl h1
theorem ra2 (i1 i2:Nat) (h1:RO P N ops i1 (RA P N ops k (li.setIfInBounds i1 true) K) fr aw) (h2:RO P N ops i2 (RA P N ops k (li.setIfInBounds i2 true) K) fr aw) (hr:Region.ready .any ops li=[i1,i2]:=by decide +kernel):RA P N ops (k+1) li K fr aw:=RA.a2 hr rfl rfl h1 h2
theorem ra3 (i1 i2 i3:Nat) (h1:RO P N ops i1 (RA P N ops k (li.setIfInBounds i1 true) K) fr aw) (h2:RO P N ops i2 (RA P N ops k (li.setIfInBounds i2 true) K) fr aw) (h3:RO P N ops i3 (RA P N ops k (li.setIfInBounds i3 true) K) fr aw)
 (hr:Region.ready .any ops li=[i1,i2,i3]:=by decide +kernel):RA P N ops (k+1) li K fr aw:=RA.a3 hr rfl rfl rfl h1 h2 h3
theorem ra4 (i1 i2 i3 i4:Nat) (h1:RO P N ops i1 (RA P N ops k (li.setIfInBounds i1 true) K) fr aw) (h2:RO P N ops i2 (RA P N ops k (li.setIfInBounds i2 true) K) fr aw) (h3:RO P N ops i3 (RA P N ops k (li.setIfInBounds i3 true) K) fr aw)
 (h4:RO P N ops i4 (RA P N ops k (li.setIfInBounds i4 true) K) fr aw) (hr:Region.ready .any ops li=[i1,i2,i3,i4]:=by decide +kernel):RA P N ops (k+1) li K fr aw:=RA.a4 hr rfl rfl rfl rfl h1 h2 h3 h4
end
theorem bz:(∀ b,(true || b)=true)/\(∀ b,(b || true)=true)/\(∀ b,(false || b)=b)/\(∀ b,(b || false)=b)/\(∀ b,(true && b)=b)/\(∀ b,(b && true)=b)/\(∀ b,(false && b)=false)/\(∀ b,(b && false)=false)/\(!true)=false/\(!false)=true:=by simp
theorem it {α:Type} (a b:α):(if true=true then a else b)=a:=rfl
class RetI (Q:Exit->List AV->List Ob->Prop) (R:outParam (List AV->List Ob->Prop)):Prop where
 out:∀ fr aw,R fr aw->Q .ret fr aw
instance {fn:Func} {M:Nat} {Q:AV->List Ob->Prop}:RetI (retQ P fn M Q) (fun fr aw=>aB P fr aw fn.results.toList (Ret M Q aw)):=⟨fun _ _ h=>h⟩
instance {K:List AV->List Ob->Prop} {Q:Exit->List AV->List Ob->Prop} {R:List AV->List Ob->Prop} [h:RetI Q R]:RetI (thenA K Q) R:=⟨h.out⟩
instance {id:Nat} {Q:Exit->List AV->List Ob->Prop} {R:List AV->List Ob->Prop} [h:RetI Q R]:RetI (dc id Q) R:=⟨h.out⟩
instance {α β:Type} {M:Nat} {v:α ⊕ β} {F:α->List AV} {A:α->List Ob} {Q:Exit->List AV->List Ob->Prop} {R:List AV->List Ob->Prop} [h:RetI Q R]:RetI (LQ M v F A Q) R:=⟨h.out⟩
theorem T.rt {Q:Exit->List AV->List Ob->Prop} {R:List AV->List Ob->Prop} {fr:List AV} [hq:RetI Q R] (h:R fr aw):T P N .ret Q fr aw:=T.ret (hq.out fr aw h)
class PureC (a:AV):Prop where
 out:Pure a
class EnP {α:Type} (en:α->List AV):Prop where
 out:∀ a x,x∈en a->Pure x
instance {k:IntKind} {i:Int}:PureC (.int k i):=⟨ao _ _⟩
instance {b:Bool}:PureC (.bool b):=⟨dw _⟩
instance {s:List UInt8}:PureC (.str s):=⟨ej _⟩
instance:PureC .nils:=⟨g7⟩
instance:PureC .nilf:=⟨g6⟩
instance {α:Type} {en:α->List AV} {xs:List α} [h:EnP en]:PureC (.sl (xs.map en)):=⟨aQ h.out _⟩
class PureCs (cs:List AV):Prop where
 out:∀ a,a∈cs->Pure a
instance:PureCs []:=⟨fun a h=>by cases h⟩
instance {a:AV} {cs:List AV} [h:PureC a] [t:PureCs cs]:PureCs (a::cs):=⟨fun b hb=>by cases hb with | head=>exact h.out | tail _ hb=>exact t.out b hb⟩
instance {cs:List AV} [h:PureCs cs]:PureC (.agg cs):=⟨nV _ h.out⟩
instance {cs:List AV} [h:PureCs cs]:PureC (.tup cs):=⟨u1 _ h.out⟩
theorem rw_bs {ρ ids:List Nat} {id:Nat} (cs:List AV) [h:PureCs cs] (ho:aw[id]?=some (.box cs)) (t:aI ρ aw ids aw'):aI ρ aw (id::ids) (.box cs::aw'):=dC ho (jq h.out) t
theorem rw_ar {α:Type} {en:α->List AV} {xs ys:List α} {ρ ids:List Nat} {id e s:Nat} [h:EnP en] (ho:aw[id]?=some (.arr e s (ys.map en))) (hx:xs=ys) (t:aI ρ aw ids aw'):aI ρ aw (id::ids) (.arr e s (xs.map en)::aw'):=xl ho h.out hx t
theorem rn_s {α:Type} {en:α->List AV} {xs ys:List α} {ρ:List Nat} [hp:EnP en] (h:xs=ys):Ren ρ (.sl (xs.map en)) (.sl (ys.map en)):=rn_sl hp.out h
end
end
section
open Go.RowKit
namespace RK
def Over (w w':World):Prop:=∀ r,r<w.heap.size->w'.heap[r]?=w.heap[r]?
theorem Over.rfl' (w:World):Over w w:=fun _ _=>rfl
theorem Over.size {w w':World} (h:Over w w'):w.heap.size<=w'.heap.size:=by
 rcases Nat.eq_zero_or_pos w.heap.size with h0 | h0
 ·omega
 ·have:=h (w.heap.size - 1) (by omega);grind
theorem Over.trans {a b c:World} (h:Over a b) (k:Over b c):Over a c:=fun r hr =>
 (k r (zk hr h.size)).trans (h r hr)
inductive Keeps {α:Type}:Sem α->Prop
 | pure (a:α):Keeps (.pure a)
 | load (m:Go.Mode) (a:Addr) (k:Value->Sem α):(∀ v,Keeps (k v))->Keeps (.load m a k)
 | new (o:Obj) (k:Nat->Sem α):(∀ r,Keeps (k r))->Keeps (.new o k)
 | shape (r:Nat) (k:Option (TypeId × Nat)->Sem α):(∀ x,Keeps (k x))->Keeps (.shape r k)
 | frozen (a:Addr) (k:Bool->Sem α):(∀ x,Keeps (k x))->Keeps (.frozen a k)
 | getObj (r:Nat) (k:Obj->Sem α):(∀ x,Keeps (k x))->Keeps (.getObj r k)
 | choose (q:Question) (k:Nat->Sem α):(∀ x,Keeps (k x))->Keeps (.choose q k)
 | program (k:Program->Sem α):(∀ x,Keeps (k x))->Keeps (.program k)
 | mark (m:Mark) (k:Sem α):Keeps k->Keeps (.mark m k)
 | halt (h:Halt):Keeps (.halt h)
theorem Keeps.bind {α β:Type} {s:Sem α} (h:Keeps s) {f:α->Sem β} (hf:∀ a,Keeps (f a)):Keeps (s.bind f):=by
 induction h with
 | pure a=>exact hf a
 | load m a k _ ih=>exact .load m a _ fun v=>ih v
 | new o k _ ih=>exact .new o _ fun v=>ih v
 | shape r k _ ih=>exact .shape r _ fun v=>ih v
 | frozen a k _ ih=>exact .frozen a _ fun v=>ih v
 | getObj r k _ ih=>exact .getObj r _ fun v=>ih v
 | choose q k _ ih=>exact .choose q _ fun v=>ih v
 | program k _ ih=>exact .program _ fun v=>ih v
 | mark m k _ ih=>exact .mark m _ ih
 | halt h=>exact .halt h
theorem Keeps.run {α:Type} {s:Sem α} (h:Keeps s) (P:Program):∀ (w:World) (x:α) (w':World),s.run P w=.ok x w'->Over w w':=by
 induction h with
 | pure a=>intro w x w' e;simp only [Sem.run,Result.ok.injEq] at e;rw [<- e.2];exact .rfl' w
 | load m a k _ ih =>
  grind [Sem.run]
 | new o k _ ih =>
  intro w x w' e;simp only [Sem.run] at e;refine Over.trans (fun r hr=>?_) (ih _ _ _ _ e);grind
 | shape r k _ ih=>intro w x w' e;exact ih _ _ _ _ e
 | frozen a k _ ih=>intro w x w' e;exact ih _ _ _ _ e
 | getObj r k _ ih =>
  grind [Sem.run]
 | choose q k _ ih =>
  intro w x w' e;simp only [Sem.run] at e;split at e
  ·grind
  ·exact fun r hr=>ih _ _ _ _ e r hr
 | program k _ ih=>intro w x w' e;exact ih _ _ _ _ e
 | mark m k _ ih=>assumption
 | halt h=>simp
theorem Keeps.mb {α β:Type} {s:Sem α} (h:Keeps s) {f:α->Sem β} (hf:∀ a,Keeps (f a)):Keeps (s >>= f):=h.bind hf
theorem Keeps.fm {α β:Type} {s:Sem α} (h:Keeps s) {f:α->β}:Keeps (Functor.map f s):=h.bind fun a=>.pure _
theorem bh {α:Type} (a:α):Keeps (Pure.pure a:Sem α):=.pure a
theorem cN {α:Type} (s:String):Keeps (stuck s:Sem α):=.halt _
theorem df {α:Type} (u:Unsupported):Keeps (unsupported u:Sem α):=.halt _
theorem ct (a:Addr) (m:Go.Mode):Keeps (Go.load a m):=.load _ _ _ fun _=>.pure _
theorem k_prog:Keeps Go.program:=.program _ fun _=>.pure _
theorem cL (o:Obj):Keeps (newObj o):=.new _ _ fun _=>.pure _
theorem dg (r:Nat):Keeps (Go.shape r):=.shape _ _ fun _=>.pure _
theorem cM (q:Question):Keeps (Go.choose q):=.choose _ _ fun _=>.pure _
theorem nc (t:TypeId):Keeps (typeInfo t):=by unfold typeInfo;repeat (first | exact bh _ | exact cN _ | exact df _ | exact ct _ _ | exact k_prog | exact cL _ | exact dg _ | exact cM _ | assumption | exact Keeps.pure _ | exact Keeps.halt _ | (refine Keeps.mb ?_ fun _=>?_) | (refine Keeps.fm ?_) | (refine Keeps.bind ?_ fun _=>?_) | split)
theorem dT (t:TypeId):Keeps (underlying t):=by unfold underlying;repeat (first | exact bh _ | exact cN _ | exact df _ | exact ct _ _ | exact k_prog | exact cL _ | exact dg _ | exact cM _ | assumption | exact Keeps.pure _ | exact Keeps.halt _ | (refine Keeps.mb ?_ fun _=>?_) | (refine Keeps.fm ?_) | (refine Keeps.bind ?_ fun _=>?_) | split)
theorem e7 (t:TypeId):Keeps (sizeOf t):=(nc t).mb fun _=>bh _
theorem fe (t:TypeId):Keeps (zeroValue t):=by unfold zeroValue;refine (nc t).mb fun _=>?_;repeat (first | exact bh _ | exact cN _ | exact df _ | exact ct _ _ | exact k_prog | exact cL _ | exact dg _ | exact cM _ | assumption | exact Keeps.pure _ | exact Keeps.halt _ | (refine Keeps.mb ?_ fun _=>?_) | (refine Keeps.fm ?_) | (refine Keeps.bind ?_ fun _=>?_) | split)
theorem wC (t:TypeId):Keeps (isAgg t):=by unfold isAgg;refine (dT t).mb fun _=>?_;repeat (first | exact bh _ | exact cN _ | exact df _ | exact ct _ _ | exact k_prog | exact cL _ | exact dg _ | exact cM _ | assumption | exact Keeps.pure _ | exact Keeps.halt _ | (refine Keeps.mb ?_ fun _=>?_) | (refine Keeps.fm ?_) | (refine Keeps.bind ?_ fun _=>?_) | split)
theorem wd (a:Addr):∀ (n i:Nat) (acc:Array Value),Keeps (loadCellsFrom a i n acc):=by
 intro n;induction n with
 | zero=>intro i acc;exact bh _
 | succ n ih=>intro i acc;exact (ct _ _).mb fun _=>ih _ _
theorem sT (t:TypeId) (a:Addr):Keeps (loadVar t a):=by
 unfold loadVar loadCells;refine (wC t).mb fun _=>?_
 split
 ·exact (e7 t).mb fun _=>(wd _ _ _ _).mb fun _=>bh _
 ·exact ct _ _
theorem fY (v:Value):Keeps (Instr.sureAddr v):=by unfold Instr.sureAddr;split<;>(first | exact bh _ | exact cN _ | exact df _ | exact ct _ _ | exact k_prog | exact cL _ | exact dg _ | exact cM _ | assumption | exact Keeps.pure _ | exact Keeps.halt _ | (refine Keeps.mb ?_ fun _=>?_) | (refine Keeps.fm ?_) | (refine Keeps.bind ?_ fun _=>?_) | split)
theorem vn (t:TypeId) (v:Value):Keeps (Instr.loadAt t v):=(fY v).mb fun _=>sT _ _
theorem e6 (t:TypeId) (vs:Array Value):Keeps (newRow t vs):=(cL _).mb fun _=>bh _
theorem k_box (t:TypeId) (v:Value):Keeps (Instr.box t v):=(e6 _ _).mb fun _=>bh _
theorem vR (t:TypeId):Keeps (Instr.alloc t true (.tuple #[])):=by unfold Instr.alloc;exact (fe t).mb fun _=>(e6 _ _).mb fun _=>bh _
theorem tj (v:Value):Keeps (asIntOf v):=by unfold asIntOf;split<;>(first | exact bh _ | exact cN _ | exact df _ | exact ct _ _ | exact k_prog | exact cL _ | exact dg _ | exact cM _ | exact dT _ | exact e7 _ | exact fe _ | exact fY _ | exact e6 _ _ | assumption | exact Keeps.pure _ | exact Keeps.halt _ | (refine Keeps.mb ?_ fun _=>?_) | (refine Keeps.fm ?_) | (refine Keeps.bind ?_ fun _=>?_) | dsimp only | split)
theorem pu {α:Type} (v:Value):Keeps (goPanic v:Sem α):=.halt _
theorem uU {α:Type} (k:IntKind) (x y:Int) (c:BoundsCode):Keeps (boundsPanic k x y c:Sem α):=by
 unfold boundsPanic;dsimp only;split
 ·refine Keeps.mb (Keeps.fm (cM _)) fun _=>?_
  unfold runtimePanic;exact k_prog.mb fun _=>pu _
 ·refine Keeps.mb (bh _) fun _=>?_
  unfold runtimePanic;exact k_prog.mb fun _=>pu _
theorem ta (t:TypeId) (x i:Value):Keeps (Instr.indexAt t x i):=by
 unfold Instr.indexAt;refine (tj i).mb fun _=>?_
 dsimp only;refine (dT t).mb fun _=>?_
 repeat (first | exact uU _ _ _ _ | (first | exact bh _ | exact cN _ | exact df _ | exact ct _ _ | exact k_prog | exact cL _ | exact dg _ | exact cM _ | exact dT _ | exact e7 _ | exact fe _ | exact fY _ | exact e6 _ _ | assumption | exact Keeps.pure _ | exact Keeps.halt _ | (refine Keeps.mb ?_ fun _=>?_) | (refine Keeps.fm ?_) | (refine Keeps.bind ?_ fun _=>?_) | dsimp only | split))
theorem ru (t:TypeId) (len:Nat) (ps:Array (Nat × Value)):Keeps (Instr.buildSlice t len ps):=by unfold Instr.buildSlice;repeat (first | exact bh _ | exact cN _ | exact df _ | exact ct _ _ | exact k_prog | exact cL _ | exact dg _ | exact cM _ | exact dT _ | exact e7 _ | exact fe _ | exact fY _ | exact e6 _ _ | assumption | exact Keeps.pure _ | exact Keeps.halt _ | (refine Keeps.mb ?_ fun _=>?_) | (refine Keeps.fm ?_) | (refine Keeps.bind ?_ fun _=>?_) | dsimp only | split)
theorem xr {α β:Type} (f:α->Sem β) (hf:∀ a,Keeps (f a)) (xs:Array α):Keeps (xs.mapM f):=by
 rw [Array.mapM_eq_mapM_toList];refine Keeps.fm ?_;generalize xs.toList=l;induction l with
 | nil=>exact bh _
 | cons a l ih=>rw [List.mapM_cons];exact (hf a).mb fun _=>ih.mb fun _=>bh _
theorem vE (t:TypeId) (ps:Array (Nat × Value)):Keeps (Instr.build t ps):=by
 unfold Instr.build;refine (fe t).mb fun _=>(dT t).mb fun _=>?_
 split
 ·refine Keeps.mb (xr _ (fun f=>(e7 _).mb fun _=>bh _) _) fun _=>?_
  repeat (first | exact bh _ | exact cN _ | exact df _ | exact ct _ _ | exact k_prog | exact cL _ | exact dg _ | exact cM _ | exact dT _ | exact e7 _ | exact fe _ | exact fY _ | exact e6 _ _ | assumption | exact Keeps.pure _ | exact Keeps.halt _ | (refine Keeps.mb ?_ fun _=>?_) | (refine Keeps.fm ?_) | (refine Keeps.bind ?_ fun _=>?_) | dsimp only | split)
 ·repeat (first | exact bh _ | exact cN _ | exact df _ | exact ct _ _ | exact k_prog | exact cL _ | exact dg _ | exact cM _ | exact dT _ | exact e7 _ | exact fe _ | exact fY _ | exact e6 _ _ | assumption | exact Keeps.pure _ | exact Keeps.halt _ | (refine Keeps.mb ?_ fun _=>?_) | (refine Keeps.fm ?_) | (refine Keeps.bind ?_ fun _=>?_) | dsimp only | split)
 ·exact cN _
def Tame (o:Oper):Prop:=∀ ρ,∃ s:Sem Value,Keeps s/\execOp ρ o=s.bind fun x=>.pure (.value x)
theorem Keeps.val {s:Sem Value} (h:Keeps s) (P:Program):∀ (w:World) (n:Next) (w':World),
  (s.bind fun x=>.pure (.value x)).run P w=.ok n w'->∃ x,n=.value x:=by
 induction h with
 | pure a=>simp [Sem.bind]
 | load m a k _ ih =>
  grind [Sem.bind,Sem.run]
 | new o k _ ih=>intro w n w' e;exact ih _ _ _ _ e
 | shape r k _ ih=>intro w n w' e;exact ih _ _ _ _ e
 | frozen a k _ ih=>intro w n w' e;exact ih _ _ _ _ e
 | getObj r k _ ih =>
  grind [Sem.bind,Sem.run]
 | choose q k _ ih =>
  grind [Sem.bind,Sem.run]
 | program k _ ih=>intro w n w' e;exact ih _ _ _ _ e
 | mark m k _ ih=>assumption
 | halt h=>simp [Sem.bind]
theorem Tame.run {o:Oper} (h:Tame o) {P:Program} {ρ:Operand->Value} {w w':World} {n:Next} (e:(execOp ρ o).run P w=.ok n w') :
  (∃ x,n=.value x)/\Over w w':=by
 obtain ⟨s,hk,hs⟩:=h ρ
 rw [hs] at e
 exact ⟨hk.val P _ _ _ e,(hk.bind fun _=>.pure _).run P _ _ _ e⟩
theorem tQ {o:Oper} {t:TypeId} {x:Operand} (h:o.op=.load t x):Tame o:=fun ρ=>⟨_,vn t (ρ x),by unfold execOp;rw [h];rfl⟩
theorem r5 {o:Oper} {t:TypeId} (h:o.op=.alloc t):Tame o:=fun ρ=>⟨_,vR t,by unfold execOp;rw [h];rfl⟩
theorem u7 {o:Oper} {t:TypeId} {x:Operand} (h:o.op=.box t x):Tame o:=fun ρ=>⟨_,k_box t (ρ x),by unfold execOp;rw [h];rfl⟩
theorem sK {o:Oper} {t:TypeId} {x y:Operand} (h:o.op=.indexAddr t x y):Tame o:=fun ρ=>⟨_,ta t (ρ x) (ρ y),by unfold execOp;rw [h];rfl⟩
theorem sH {o:Oper} {t:TypeId} {ps:Array (Nat × Operand)} (h:o.op=.build t ps):Tame o:=fun ρ=>⟨_,vE t _,by unfold execOp;rw [h];rfl⟩
theorem q8 {o:Oper} {t:TypeId} {k:Nat} {ps:Array (Nat × Operand)} (h:o.op=.buildSlice t k ps):Tame o:=fun ρ=>⟨_,ru t k _,by unfold execOp;rw [h];rfl⟩
theorem tL {o:Oper} {x:Operand} (h:o.op=.move x):Tame o:=fun ρ=>⟨_,.pure (ρ x),by unfold execOp;rw [h];rfl⟩
section
variable {P:Program} {md:Region.Mode} {ops:Array Oper} {Q:Exit→Act→World→Prop}
def YieldsO (P:Program) (ops:Array Oper) (o:Oper) (v:Value) (a:Act) (w:World):Prop :=
 (Region.wanted o (yielded ops a.tmps)=true/\∀ w',Over w w'->(execOp a.eval o).run P w'=.ok (.value v) w') ∨
 (Region.wanted o (yielded ops a.tmps)=false/\v=undef)
theorem YieldsO.wpOp {i:Nat} {o:Oper} {v:Value} {a:Act} {w:World} (hi:ops[i]?=some o) (hy:YieldsO P ops o v a w)
  {K:Act->World->Prop} (h:K (a.put o.dst v) w):Go.wpOp P ops Q i K a w:=by
 unfold Go.wpOp
 simp only [hi]
 rcases hy with ⟨hw,hv⟩ | ⟨hw,rfl⟩
 ·simp only [hw,if_true,Oper.wp,hv w (.rfl' w),Oper.upon];exact .inl h
 grind
theorem YieldsO.of_same {o:Oper} {v:Value} {a a':Act} {w w':World} (hy:YieldsO P ops o v a w) (hww:Over w w') (he:execOp a'.eval o=execOp a.eval o)
  (hw:Region.wanted o (yielded ops a'.tmps)=Region.wanted o (yielded ops a.tmps)):YieldsO P ops o v a' w':=by
 unfold YieldsO at *
 rw [he,hw]
 exact hy.imp (fun h=>⟨h.1,fun w2 h2=>h.2 w2 (hww.trans h2)⟩) id
theorem th {j:Nat} {oi oj:Oper} {v:Value} (hj:ops[j]?=some oj) (hap:oi.apart ops oj=true) (ht:Tame oj)
  (hsi:∀ cs b,oi.op≠.select cs b) (hsj:∀ cs b,oj.op≠.select cs b)
  (hQ:∀ c a w,Q (.panic c) (a.put oi.dst v) w->Q (.panic c) a w) {K:Act->World->Prop} {a:Act} {w:World}
  (hy:YieldsO P ops oi v a w) (h:wpOp P ops Q j K (a.put oi.dst v) w) :
  wpOp P ops Q j (fun a' w'=>YieldsO P ops oi v a' w'/\K (a'.put oi.dst v) w') a w:=by
 obtain ⟨h1,h2,h3⟩:=Oper.apart_spec hap
 have keep:∀ u w',Over w w'->YieldsO P ops oi v (a.put oj.dst u) w':=fun u w' hw =>
  hy.of_same hw (execOp_put oi hsi a oj.dst u h3) (wanted_put oi a oj.dst u h3)
 unfold wpOp at *
 simp only [hj] at *
 rw [wanted_put oj a oi.dst v h1] at h
 split
 ·rename_i hw
  simp only [hw,if_true] at h
  rcases h with h | ⟨hasks,hlets⟩
  case inr=>exact .inr ⟨by unfold Oper.asks at *;rw [execOp_put oj hsj a oi.dst v h1] at hasks;exact hasks,hlets⟩
  refine .inl ?_
  unfold Oper.wp at *
  rw [execOp_put oj hsj a oi.dst v h1] at h
  have hr:=fun n w'=>ht.run (P:=P) (ρ:=a.eval) (w:=w) (w':=w') (n:=n)
  generalize (execOp a.eval oj).run P w=r at *
  cases r with
  | ok n w' =>
   grind [Oper.upon,Act.put_comm]
  | halt x w' =>
   cases x<;>simp only [Oper.upon] at h ⊢
   grind
 ·rename_i hw
  simp only [hw] at h
  exact ⟨keep _ w (.rfl' w),by grind [Act.put_comm]⟩
theorem sh (D:Nat->Bool) {i:Nat} {oi:Oper} {v:Value} (hi:ops[i]?=some oi) (hsel:∀ (j:Nat) (o:Oper) cs b,ops[j]?=some o->o.op≠.select cs b)
  (hQ:∀ c a w,Q (.panic c) (a.put oi.dst v) w->Q (.panic c) a w) (hDi:D i=true)
  (hD:∀ j oj,ops[j]?=some oj->D j=true->j≠i->∃ e∈oj.after,Region.binds md e=true/\D e.on=true) :
  ∀ (fuel:Nat) (listed:Array Bool) (a:Act) (w:World),
   (∀ j oj,ops[j]?=some oj->D j=false->listed.getD j true=false->oi.apart ops oj=true/\Tame oj) ->
   (∀ j,D j=true->listed.getD j false=false) ->
   i∈Region.ready md ops listed->YieldsO P ops oi v a w ->
   wpAny P md ops Q fuel (listed.setIfInBounds i true) (a.put oi.dst v) w->wpAny P md ops Q (fuel+1) listed a w:=by
 intro fuel
 induction fuel with
 | zero =>
  intro listed a w _ _ hr hy H
  refine ⟨fun h=>(by grind),fun j hj=>?_⟩
  by_cases hji:j=i
  ·subst hji;exact hy.wpOp hi H
  ·have:=ready_mono hj hji
   rw [H.1] at this
   cases this
 | succ fuel ih =>
  intro listed a w hfree hdl hr hy H
  refine ⟨fun h=>(by grind),fun j hj=>?_⟩
  by_cases hji:j=i
  ·subst hji;exact hy.wpOp hi H
  ·have h1:=H.2 j (ready_mono hj hji)
   obtain ⟨hjun,oj,hoj,hall⟩:=mem_ready.1 hj
   have hDj:D j=false:=by grind
   obtain ⟨hap,ht⟩:=hfree j oj hoj hDj hjun
   have h2:=th hoj hap ht (fun cs b=>hsel i oi cs b hi) (fun cs b=>hsel j oj cs b hoj) hQ hy h1
   have hfree':∀ k ok,ops[k]?=some ok->D k=false->(listed.setIfInBounds j true).getD k true=false->oi.apart ops ok=true/\Tame ok:=fun k ok hk hdk hun=>by
    refine hfree k ok hk hdk ?_;by_cases hjk:j=k
    ·grind
    ·rw [getD_set_ne true hjk] at hun;exact hun
   have hdl':∀ k,D k=true->(listed.setIfInBounds j true).getD k false=false:=fun k hk=>by
    by_cases hjk:j=k
    ·grind
    ·rw [getD_set_ne false hjk];grind
   refine wpOp_mono (fun a' w' h3=>ih (listed.setIfInBounds j true) a' w' hfree' hdl' (ready_mono hr (Ne.symm hji)) h3.1 ?_) h2
   grind [Array.setIfInBounds_comm]
end
theorem uu {aw:List Ob} {σ:List Value} {w w':World} {F:Nat->Prop} (hs:Sim aw σ w F) (h:Over w w'):Agr aw σ w F w':=by
 rintro b (hb | ⟨k,cs,v,h1,h2,h3⟩)
 ·exact h b (hs.lt b hb)
 ·exact h b (hs.lt_own ⟨k,_,v,h1,rfl,h2,h3⟩)
section
variable {P:Program} {fr:List AV} {aw:List Ob}
theorem tk {st:St} {σ:List Value} {w:World} {F:Nat->Prop} {a:Act} {o:Oper} {K:AV->Prop} (hc:Cur st fr aw σ w F a) (h:vcQ P fr aw o.op K):∃ v r,(∀ w',Over w w'->(execOp a.eval o).run P w'=.ok (.value v) w')/\Rel σ w F r v/\K r:=by obtain ⟨v,r,h1,h2,h3⟩:=lF hc.fr hc.sim o h;exact ⟨v,r,fun w' hw=>h1 w' (uu hc.sim hw),h2,h3⟩
def pT:Op->Bool
 | .load .. | .alloc .. | .box .. | .move .. | .indexAddr .. | .build .. | .buildSlice ..=>true
 | _=>false
theorem vr {o:Oper} (h:pT o.op=true):Tame o:=by cases e:o.op<;>rw [e] at h<;>first | (cases h;done) | exact tQ e | exact r5 e | exact u7 e | exact tL e | exact sK e | exact sH e | exact q8 e
def loadFree (ops:Array Oper) (li:Array Bool) (D:List Nat) (i:Nat):Bool :=
 match ops[i]? with
 | none=>false
 | some oi =>
  D.contains i && D.all (fun j=>li.getD j false==false && (j==i || match ops[j]? with
   | some oj=>oj.after.any fun e=>Region.binds .any e && D.contains e.on
   | none=>true)) &&
  (List.range ops.size).all fun j=>D.contains j || li.getD j true || match ops[j]? with
   | some oj=>oi.apart ops oj && pT oj.op
   | none=>true
theorem rg {ops:Array Oper} {Q:Exit->Act->World->Prop} (D:List Nat) {i:Nat} {oi:Oper} {v:Value} {fuel:Nat} {li:Array Bool} {a:Act} {w:World} (hi:ops[i]?=some oi)
  (hs:Region.noSelect ops=true) (hf:loadFree ops li D i=true) (hr:(Region.ready .any ops li).contains i=true)
  (hQ:∀ c a w,Q (.panic c) (a.put oi.dst v) w->Q (.panic c) a w) (hy:YieldsO P ops oi v a w)
  (h:wpAny P .any ops Q fuel (li.setIfInBounds i true) (a.put oi.dst v) w):wpAny P .any ops Q (fuel+1) li a w:=by
 simp only [loadFree,hi,Aa,zy] at hf
 obtain ⟨⟨h1,h2⟩,h3⟩:=hf
 refine sh (fun j=>D.contains j) hi (Region.noSelect_spec hs) hQ h1 ?_ fuel li a w ?_ ?_ (by grind) hy h
 ·grind
 ·intro j oj hj hd hl
  have:=h3 j (by grind)
  simp_all [vr]
 grind
end
end RK
section
variable {P:Program} {N n:Nat} {aw:List Ob} {l:List (Nat × AV)}
end
section
variable {P:Program}
end
end
section
open Go.RowKit
set_option maxRecDepth 100000
theorem Ty.c1:Tryz.prog.cellsOf 1=1:=by kernel_rfl
theorem Ty.b1:Tryz.prog.bytesOf 1=8:=by kernel_rfl
theorem Ty.k1:bd Tryz.prog 1=some false:=by kernel_rfl
theorem Ty.z1:ae Tryz.prog 1=some [.nilf]:=by kernel_rfl
theorem Ty.c2:Tryz.prog.cellsOf 2=1:=by kernel_rfl
theorem Ty.b2:Tryz.prog.bytesOf 2=8:=by kernel_rfl
theorem Ty.k2:bd Tryz.prog 2=some false:=by kernel_rfl
theorem Ty.z2:ae Tryz.prog 2=some [.int .i64 0]:=by kernel_rfl
theorem Ty.c3:Tryz.prog.cellsOf 3=1:=by kernel_rfl
theorem Ty.b3:Tryz.prog.bytesOf 3=8:=by kernel_rfl
theorem Ty.k3:bd Tryz.prog 3=some false:=by kernel_rfl
theorem Ty.z3:ae Tryz.prog 3=some [.int .i64 0]:=by kernel_rfl
theorem Ty.c4:Tryz.prog.cellsOf 4=1:=by kernel_rfl
theorem Ty.b4:Tryz.prog.bytesOf 4=1:=by kernel_rfl
theorem Ty.k4:bd Tryz.prog 4=some false:=by kernel_rfl
theorem Ty.z4:ae Tryz.prog 4=some [.bool false]:=by kernel_rfl
theorem Ty.c5:Tryz.prog.cellsOf 5=1:=by kernel_rfl
theorem Ty.b5:Tryz.prog.bytesOf 5=1:=by kernel_rfl
theorem Ty.z5:ae Tryz.prog 5=some [.int .u8 0]:=by kernel_rfl
theorem Ty.z7:ae Tryz.prog 7=some [.int .i64 0,.int .i64 0,.bool false,.int .u8 0]:=by kernel_rfl
theorem Ty.c8:Tryz.prog.cellsOf 8=4:=by kernel_rfl
theorem Ty.c9:Tryz.prog.cellsOf 9=1:=by kernel_rfl
theorem Ty.b9:Tryz.prog.bytesOf 9=16:=by kernel_rfl
theorem Ty.k9:bd Tryz.prog 9=some false:=by kernel_rfl
theorem Ty.z9:ae Tryz.prog 9=some [.str []]:=by kernel_rfl
theorem Ty.c11:Tryz.prog.cellsOf 11=1:=by kernel_rfl
theorem Ty.c12:Tryz.prog.cellsOf 12=1:=by kernel_rfl
theorem Ty.c13:Tryz.prog.cellsOf 13=2:=by kernel_rfl
theorem Ty.z13:ae Tryz.prog 13=some [.str [],.int .u64 0]:=by kernel_rfl
theorem Ty.c14:Tryz.prog.cellsOf 14=2:=by kernel_rfl
theorem Ty.z14:ae Tryz.prog 14=some [.str [],.int .u64 0]:=by kernel_rfl
theorem Ty.z15:ae Tryz.prog 15=some [.nilp]:=by kernel_rfl
theorem Ty.c20:Tryz.prog.cellsOf 20=1:=by kernel_rfl
theorem Ty.z20:ae Tryz.prog 20=some [.nili]:=by kernel_rfl
theorem Ty.c21:Tryz.prog.cellsOf 21=1:=by kernel_rfl
theorem Ty.z21:ae Tryz.prog 21=some [.int .i32 0]:=by kernel_rfl
theorem Ty.z27:ae Tryz.prog 27=some [.nilf]:=by kernel_rfl
theorem Ty.z31:ae Tryz.prog 31=some [.nilf]:=by kernel_rfl
theorem Ty.c37:Tryz.prog.cellsOf 37=1:=by kernel_rfl
theorem Ty.z37:ae Tryz.prog 37=some [.nils]:=by kernel_rfl
theorem Ty.c42:Tryz.prog.cellsOf 42=4:=by kernel_rfl
theorem Ty.b42:Tryz.prog.bytesOf 42=64:=by kernel_rfl
theorem Ty.z42:ae Tryz.prog 42=some [.int .i64 0,.int .i64 0,.nils,.nils]:=by kernel_rfl
theorem Ty.c46:Tryz.prog.cellsOf 46=1:=by kernel_rfl
theorem Ty.z46:ae Tryz.prog 46=some [.nils]:=by kernel_rfl
theorem Ty.c51:Tryz.prog.cellsOf 51=2:=by kernel_rfl
theorem Ty.z51:ae Tryz.prog 51=some [.int .i64 0,.int .i64 0]:=by kernel_rfl
theorem Ty.c52:Tryz.prog.cellsOf 52=2:=by kernel_rfl
theorem Ty.b52:Tryz.prog.bytesOf 52=16:=by kernel_rfl
theorem Ty.z52:ae Tryz.prog 52=some [.int .i64 0,.int .i64 0]:=by kernel_rfl
theorem Ty.c53:Tryz.prog.cellsOf 53=1:=by kernel_rfl
theorem Ty.z53:ae Tryz.prog 53=some [.nilf]:=by kernel_rfl
theorem Ty.z55:ae Tryz.prog 55=some [.nilf]:=by kernel_rfl
theorem Ty.z56:ae Tryz.prog 56=some [.nili]:=by kernel_rfl
theorem Ty.c60:Tryz.prog.cellsOf 60=1:=by kernel_rfl
theorem Ty.z70:ae Tryz.prog 70=some [.nilf]:=by kernel_rfl
theorem Ty.z72:ae Tryz.prog 72=some [.any]:=by kernel_rfl
theorem Ty.c75:Tryz.prog.cellsOf 75=2:=by kernel_rfl
theorem Ty.z75:ae Tryz.prog 75=some [.nilf,.nilf]:=by kernel_rfl
theorem Ty.c80:Tryz.prog.cellsOf 80=1:=by kernel_rfl
theorem Ty.z80:ae Tryz.prog 80=some [.any]:=by kernel_rfl
theorem Ty.c85:Tryz.prog.cellsOf 85=1:=by kernel_rfl
theorem Ty.z85:ae Tryz.prog 85=some [.nilf]:=by kernel_rfl
theorem Ty.k91:bd Tryz.prog 91=some false:=by kernel_rfl
theorem Ty.z93:ae Tryz.prog 93=some [.nilp,.nils]:=by kernel_rfl
theorem Ty.z105:ae Tryz.prog 105=some [.nilf]:=by kernel_rfl
theorem Ty.z116:ae Tryz.prog 116=some [.nilf]:=by kernel_rfl
theorem Ty.z117:ae Tryz.prog 117=some [.nilf]:=by kernel_rfl
theorem Ty.z119:ae Tryz.prog 119=some [.nilf]:=by kernel_rfl
theorem Ty.c127:Tryz.prog.cellsOf 127=1:=by kernel_rfl
theorem Ty.z127:ae Tryz.prog 127=some [.nilf]:=by kernel_rfl
theorem Ty.c129:Tryz.prog.cellsOf 129=2:=by kernel_rfl
theorem Ty.b129:Tryz.prog.bytesOf 129=16:=by kernel_rfl
theorem Ty.k129:bd Tryz.prog 129=some true:=by kernel_rfl
theorem Ty.z129:ae Tryz.prog 129=some [.int .i64 0,.int .i64 0]:=by kernel_rfl
theorem Ty.z138:ae Tryz.prog 138=some [.nilf]:=by kernel_rfl
theorem Ty.z139:ae Tryz.prog 139=some [.str [],.str [],.nili]:=by kernel_rfl
theorem Ty.c143:Tryz.prog.cellsOf 143=20:=by kernel_rfl
theorem Ty.z143:ae Tryz.prog 143=some [.int .u64 0,.int .u64 0,.int .u64 0,.int .u64 0,.int .u64 0,.int .u64 0,.int .u64 0,.int .u64 0,.int .u64 0,.int .u64 0,.int .u64 0,.int .u64 0,.int .u64 0,.int .u64 0,.int .u64 0,.int .u64 0,.int .u64 0,.int .u64 0,.int .u64 0,.int .u64 0]:=by kernel_rfl
theorem Ty.c145:Tryz.prog.cellsOf 145=65:=by kernel_rfl
theorem Ty.z146:ae Tryz.prog 146=some [.nilf]:=by kernel_rfl
theorem Ty.c167:Tryz.prog.cellsOf 167=32:=by kernel_rfl
theorem Ty.z167:ae Tryz.prog 167=some [.int .u8 0,.int .u8 0,.int .u8 0,.int .u8 0,.int .u8 0,.int .u8 0,.int .u8 0,.int .u8 0,.int .u8 0,.int .u8 0,.int .u8 0,.int .u8 0,.int .u8 0,.int .u8 0,.int .u8 0,.int .u8 0,.int .u8 0,.int .u8 0,.int .u8 0,.int .u8 0,.int .u8 0,.int .u8 0,.int .u8 0,.int .u8 0,.int .u8 0,.int .u8 0,.int .u8 0,.int .u8 0,.int .u8 0,.int .u8 0,.int .u8 0,.int .u8 0]:=by kernel_rfl
theorem Ty.c168:Tryz.prog.cellsOf 168=32:=by kernel_rfl
theorem Ty.z168:ae Tryz.prog 168=some [.int .u8 0,.int .u8 0,.int .u8 0,.int .u8 0,.int .u8 0,.int .u8 0,.int .u8 0,.int .u8 0,.int .u8 0,.int .u8 0,.int .u8 0,.int .u8 0,.int .u8 0,.int .u8 0,.int .u8 0,.int .u8 0,.int .u8 0,.int .u8 0,.int .u8 0,.int .u8 0,.int .u8 0,.int .u8 0,.int .u8 0,.int .u8 0,.int .u8 0,.int .u8 0,.int .u8 0,.int .u8 0,.int .u8 0,.int .u8 0,.int .u8 0,.int .u8 0]:=by kernel_rfl
theorem Ty.c173:Tryz.prog.cellsOf 173=4:=by kernel_rfl
theorem Ty.z173:ae Tryz.prog 173=some [.nilp,.nilp,.nilp,.str []]:=by kernel_rfl
theorem Ty.c175:Tryz.prog.cellsOf 175=0:=by kernel_rfl
theorem Ty.z175:ae Tryz.prog 175=some []:=by kernel_rfl
theorem Ty.w3:(Tryz.prog.info? 3).bind (·.zero)=some (.int .i64 0):=by kernel_rfl
theorem Ty.w9:(Tryz.prog.info? 9).bind (·.zero)=some (.string ⟨#[]⟩):=by kernel_rfl
theorem Ty.i1:(Tryz.prog.underlying 1).isSome=true:=by rw [Tryz.underlying1];rfl
theorem Ty.i2:(Tryz.prog.underlying 2).isSome=true:=by rw [Tryz.underlying2];rfl
theorem Ty.i3:(Tryz.prog.underlying 3).isSome=true:=by rw [Tryz.underlying3];rfl
theorem Ty.i4:(Tryz.prog.underlying 4).isSome=true:=by rw [Tryz.underlying4];rfl
theorem Ty.i5:(Tryz.prog.underlying 5).isSome=true:=by rw [Tryz.underlying5];rfl
theorem Ty.i6:(Tryz.prog.underlying 6).isSome=true:=by rw [Tryz.underlying6];rfl
theorem Ty.i8:(Tryz.prog.underlying 8).isSome=true:=by rw [Tryz.underlying8];rfl
theorem Ty.i9:(Tryz.prog.underlying 9).isSome=true:=by rw [Tryz.underlying9];rfl
theorem Ty.i16:(Tryz.prog.underlying 16).isSome=true:=by rw [Tryz.underlying16];rfl
theorem Ty.i20:(Tryz.prog.underlying 20).isSome=true:=by rw [Tryz.underlying20];rfl
theorem Ty.i21:(Tryz.prog.underlying 21).isSome=true:=by rw [Tryz.underlying21];rfl
theorem Ty.i32:(Tryz.prog.underlying 32).isSome=true:=by rw [Tryz.underlying32];rfl
theorem Ty.i37:(Tryz.prog.underlying 37).isSome=true:=by rw [Tryz.underlying37];rfl
theorem Ty.i42:(Tryz.prog.underlying 42).isSome=true:=by rw [Tryz.underlying42];rfl
theorem Ty.i46:(Tryz.prog.underlying 46).isSome=true:=by rw [Tryz.underlying46];rfl
theorem Ty.i51:(Tryz.prog.underlying 51).isSome=true:=by rw [Tryz.underlying51];rfl
theorem Ty.i52:(Tryz.prog.underlying 52).isSome=true:=by rw [Tryz.underlying52];rfl
theorem Ty.i53:(Tryz.prog.underlying 53).isSome=true:=by rw [Tryz.underlying53];rfl
theorem Ty.i64:(Tryz.prog.underlying 64).isSome=true:=by rw [Tryz.underlying64];rfl
theorem Ty.i75:(Tryz.prog.underlying 75).isSome=true:=by rw [Tryz.underlying75];rfl
theorem Ty.i80:(Tryz.prog.underlying 80).isSome=true:=by rw [Tryz.underlying80];rfl
theorem Ty.i85:(Tryz.prog.underlying 85).isSome=true:=by rw [Tryz.underlying85];rfl
theorem Ty.i127:(Tryz.prog.underlying 127).isSome=true:=by rw [Tryz.underlying127];rfl
theorem Ty.i129:(Tryz.prog.underlying 129).isSome=true:=by rw [Tryz.underlying129];rfl
theorem Ty.i143:(Tryz.prog.underlying 143).isSome=true:=by rw [Tryz.underlying143];rfl
theorem Ty.i145:(Tryz.prog.underlying 145).isSome=true:=by rw [Tryz.underlying145];rfl
theorem Ty.i167:(Tryz.prog.underlying 167).isSome=true:=by rw [Tryz.underlying167];rfl
theorem Ty.i168:(Tryz.prog.underlying 168).isSome=true:=by rw [Tryz.underlying168];rfl
theorem Ty.i173:(Tryz.prog.underlying 173).isSome=true:=by rw [Tryz.underlying173];rfl
theorem Ty.i175:(Tryz.prog.underlying 175).isSome=true:=by rw [Tryz.underlying175];rfl
theorem Ty.s22:SliceOf Tryz.prog 22 42 4:=⟨Tryz.underlying22,Ty.c42,Ty.i42,by decide,by rw [Ty.b42];decide,_,Ty.z42,rfl⟩
theorem Ty.s32:SliceOf Tryz.prog 32 9 1:=⟨Tryz.underlying32,Ty.c9,Ty.i9,by decide,by rw [Ty.b9];decide,_,Ty.z9,rfl⟩
theorem Ty.s37:SliceOf Tryz.prog 37 3 1:=⟨Tryz.underlying37,Ty.c3,Ty.i3,by decide,by rw [Ty.b3];decide,_,Ty.z3,rfl⟩
theorem Ty.s46:SliceOf Tryz.prog 46 52 2:=⟨Tryz.underlying46,Ty.c52,Ty.i52,by decide,by rw [Ty.b52];decide,_,Ty.z52,rfl⟩
theorem Ty.q52:hP Tryz.prog 52 [1,1]:=rV (by kernel_rfl) Tryz.underlying52 (by kernel_rfl) ⟨by decide,rfl,Tryz.underlying3,by decide,rfl,Tryz.underlying3,tqz⟩
theorem Ty.s91:SliceOf Tryz.prog 91 5 1:=⟨Tryz.underlying91,Ty.c5,Ty.i5,by decide,by rw [Ty.b5];decide,_,Ty.z5,rfl⟩
theorem Ty.s123:SliceOf Tryz.prog 123 129 2:=⟨Tryz.underlying123,Ty.c129,Ty.i129,by decide,by rw [Ty.b129];decide,_,Ty.z129,rfl⟩
theorem Ty.s126:SliceOf Tryz.prog 126 4 1:=⟨Tryz.underlying126,Ty.c4,Ty.i4,by decide,by rw [Ty.b4];decide,_,Ty.z4,rfl⟩
end
section
open Go.RowKit
theorem mixed:Tryz.prog.follows .mixedOrders=true:=by kernel_rfl
def ak (n:Int):List AV:=[.int .i64 n]
def aa (s:List UInt8):List AV:=[.str s]
end
structure Item where
 (Key Val Dep:Int)
deriving DecidableEq
structure Node where
 (Kind A:Int)
 (In Out:List Int)
deriving DecidableEq
structure Net where
 Nodes:List Node
 (Rings Room:Int)
deriving DecidableEq
structure Keyed where
 (Key N:Int)
deriving DecidableEq
structure Memory where
 Sum:Int
 Keys:List Keyed
 Dep:Int
deriving DecidableEq
structure Choice where
 (Node Lane:Int)
deriving DecidableEq
structure State where
 At:List Int
 Rings:List (List Item)
 Memory:List Memory
 Choices:List Choice
 Out:List Item
deriving DecidableEq
structure Move where
 (Node Lane:Int)
deriving DecidableEq
structure Write where
 At:Int
 Bytes:List UInt8
deriving DecidableEq
structure Disk where
 Sectors:List (List UInt8)
 Wait:List Write
deriving DecidableEq
structure Shop where
 N:Net
 Items:List (List Item)
 S:State
 D:Disk
 (Logged Safe Epoch Laid Next:Int)
 Told:List Item
 Down:Bool
deriving DecidableEq
structure Happening where
 (Kind N:Int)
deriving DecidableEq
structure Ends where
 (src dst:Int)
deriving DecidableEq
section
open Go.RowKit
def aH (n:Int):List AV:=[.int .u8 n]
def encU (n:Int):List AV:=[.int .u64 n]
def bc (b:Bool):List AV:=[.bool b]
def encL {α:Type} (en:α->List AV) (l:List α):List AV:=[.sl (l.map en)]
def cb (a:Item):List AV:=[.int .i64 a.Key,.int .i64 a.Val,.int .i64 a.Dep]
def an (a:Node):List AV:=[.int .i64 a.Kind,.int .i64 a.A,.sl (a.In.map ak),.sl (a.Out.map ak)]
def aJ (a:Net):List AV:=[.sl (a.Nodes.map an),.int .i64 a.Rings,.int .i64 a.Room]
def ed (a:Keyed):List AV:=[.int .i64 a.Key,.int .i64 a.N]
def d8 (a:Memory):List AV:=[.int .i64 a.Sum,.sl (a.Keys.map ed),.int .i64 a.Dep]
def dy (a:Choice):List AV:=[.int .i64 a.Node,.int .i64 a.Lane]
def fR (a:State):List AV:=[.sl (a.At.map ak),.sl (a.Rings.map (encL cb)),.sl (a.Memory.map d8),.sl (a.Choices.map dy),.sl (a.Out.map cb)]
def fc (a:Move):List AV:=[.int .i64 a.Node,.int .i64 a.Lane]
def dz (a:Write):List AV:=[.int .i64 a.At,.str a.Bytes]
def fU (a:Disk):List AV:=[.sl (a.Sectors.map aa),.sl (a.Wait.map dz)]
def fV (a:Shop):List AV:=[.sl (a.N.Nodes.map an),.int .i64 a.N.Rings,.int .i64 a.N.Room,.sl (a.Items.map (encL cb)),.sl (a.S.At.map ak),.sl (a.S.Rings.map (encL cb)),.sl (a.S.Memory.map d8),.sl (a.S.Choices.map dy),.sl (a.S.Out.map cb),.sl (a.D.Sectors.map aa),.sl (a.D.Wait.map dz),.int .i64 a.Logged,.int .i64 a.Safe,.int .i64 a.Epoch,.int .i64 a.Laid,.int .i64 a.Next,.sl (a.Told.map cb),.bool a.Down]
def ah (a:Happening):List AV:=[.int .i64 a.Kind,.int .i64 a.N]
def aj (a:Ends):List AV:=[.int .i64 a.src,.int .i64 a.dst]
theorem ix:∀ a x,x∈ak a->Pure x:=fun a=>aV (ls:=ak a) ⟨ao _ _,tqz⟩
theorem wK:∀ a x,x∈aH a->Pure x:=fun a=>aV (ls:=aH a) ⟨ao _ _,tqz⟩
theorem xp:∀ a x,x∈encU a->Pure x:=fun a=>aV (ls:=encU a) ⟨ao _ _,tqz⟩
theorem xb:∀ a x,x∈bc a->Pure x:=fun a=>aV (ls:=bc a) ⟨dw _,tqz⟩
theorem lK:∀ a x,x∈aa a->Pure x:=fun a=>aV (ls:=aa a) ⟨ej _,tqz⟩
theorem j8 {α:Type} {en:α->List AV} (h:∀ a x,x∈en a->Pure x):∀ a x,x∈encL en a->Pure x:=fun a=>aV (ls:=encL en a) ⟨aQ h _,tqz⟩
theorem d6:∀ a x,x∈cb a->Pure x:=fun a=>aV (ls:=cb a) ⟨ao _ _,ao _ _,ao _ _,tqz⟩
theorem jt:∀ a x,x∈an a->Pure x:=fun a=>aV (ls:=an a) ⟨ao _ _,ao _ _,aQ ix _,aQ ix _,tqz⟩
theorem oA:∀ a x,x∈aJ a->Pure x:=fun a=>aV (ls:=aJ a) ⟨aQ jt _,ao _ _,ao _ _,tqz⟩
theorem kN:∀ a x,x∈ed a->Pure x:=fun a=>aV (ls:=ed a) ⟨ao _ _,ao _ _,tqz⟩
theorem jf:∀ a x,x∈d8 a->Pure x:=fun a=>aV (ls:=d8 a) ⟨ao _ _,aQ kN _,ao _ _,tqz⟩
theorem je:∀ a x,x∈dy a->Pure x:=fun a=>aV (ls:=dy a) ⟨ao _ _,ao _ _,tqz⟩
theorem nb:∀ a x,x∈fR a->Pure x:=fun a=>aV (ls:=fR a) ⟨aQ ix _,aQ (j8 d6) _,aQ jf _,aQ je _,aQ d6 _,tqz⟩
theorem ny:∀ a x,x∈fc a->Pure x:=fun a=>aV (ls:=fc a) ⟨ao _ _,ao _ _,tqz⟩
theorem jk:∀ a x,x∈dz a->Pure x:=fun a=>aV (ls:=dz a) ⟨ao _ _,ej _,tqz⟩
theorem nC:∀ a x,x∈fU a->Pure x:=fun a=>aV (ls:=fU a) ⟨aQ lK _,aQ jk _,tqz⟩
theorem nA:∀ a x,x∈fV a->Pure x:=fun a=>aV (ls:=fV a) ⟨aQ jt _,ao _ _,ao _ _,aQ (j8 d6) _,aQ ix _,aQ (j8 d6) _,aQ jf _,aQ je _,aQ d6 _,aQ lK _,aQ jk _,ao _ _,ao _ _,ao _ _,ao _ _,ao _ _,aQ d6 _,dw _,tqz⟩
theorem mM:∀ a x,x∈ah a->Pure x:=fun a=>aV (ls:=ah a) ⟨ao _ _,ao _ _,tqz⟩
theorem nJ:∀ a x,x∈aj a->Pure x:=fun a=>aV (ls:=aj a) ⟨ao _ _,ao _ _,tqz⟩
theorem ra (x y:Happening):cr (ah x) (ah y)=some (x==y):=by cases x;cases y;simp only [ah,cr,zR,zY];grind
instance:EnP ak:=⟨ix⟩
instance:EnP aH:=⟨wK⟩
instance:EnP encU:=⟨xp⟩
instance:EnP bc:=⟨xb⟩
instance:EnP aa:=⟨lK⟩
instance:EnP cb:=⟨d6⟩
instance:EnP an:=⟨jt⟩
instance:EnP aJ:=⟨oA⟩
instance:EnP ed:=⟨kN⟩
instance:EnP d8:=⟨jf⟩
instance:EnP dy:=⟨je⟩
instance:EnP fR:=⟨nb⟩
instance:EnP fc:=⟨ny⟩
instance:EnP dz:=⟨jk⟩
instance:EnP fU:=⟨nC⟩
instance:EnP fV:=⟨nA⟩
instance:EnP ah:=⟨mM⟩
instance:EnP aj:=⟨nJ⟩
instance {α:Type} {en:α->List AV} [h:EnP en]:EnP (encL en):=⟨j8 h.out⟩
theorem aq (b:Bool):b=true∨b=false:=by simp
end
section
section
variable {α:Type}
def own (xs:List (Bool × List α)) (m:Nat) (r:List α):List (Bool × List α):=xs.set m (false,r)
end
end
section
open Go.RowKit Go.Lib
theorem rQ {P:Program} {w:World} {t u ty e:TypeId} {i:TypeInfo} (ht:P.underlying t=some (.slice e)) (hu:P.underlying u=some .string) (hi:P.info? e=some i) (hz:i.zero=some (.int .u8 0)) (hsize:i.size=1) (hby:i.bytes=1)
  {v:Value} {n:Nat} {flat:List Value} (hown:w.ownsRow 0 e 1 v n flat) (s:ByteArray) (hlen:n+s.size<=1099511627776) :
  ∃ v' w',(Builtin.append_ #[t,u] ty #[v,.string s]).run P w=.ok v' w'/\w'.ownsRow 0 e 1 v' (n+s.size) (flat++strCells s)/\w.grownBy w' v.ownBlock/\(v'.ownBlock=v.ownBlock∨v'.ownBlock=some w.heap.size):=by
 obtain ⟨v',w',hr,h1,h2,h3⟩:=run_append_own_string (P:=P) w 0 t u ty e i ht hu hi hz hsize hby v n flat hown s (by unfold maxLen;omega) (by omega) (zu _)
 refine ⟨v',w',hr,h1,h2,?_⟩
 have hxl:flat.length=n:=by simpa using hown.1
 rcases hown.2 with ⟨rfl,rfl⟩ | ⟨g,cap,cur,rfl,hbg,hg,hnc,hcm,hcs,htake⟩
 ·by_cases hm:s.size=0
  ·exact .inl (by rw [h3.2 ⟨rfl,hm⟩])
  ·have hr2:=run_append_nil_string (P:=P) (w:=w) t u ty e i (.int .u8 0) ht hu hi hz s (by omega) (by omega) (by rw [hby];omega)
   rw [hr2] at hr
   cases hr
   exact .inr rfl
 ·by_cases hroom:n+s.size<=cap
  ·have hr2:=run_append_room_string (P:=P) w t u ty e i ht hu hi hsize g n cap cur hg s hroom (by simp at hcs;omega)
   rw [hr2] at hr
   cases hr
   exact .inl rfl
  ·have holds:∀ j u,flat[j]?=some u->w.cell? ((⟨g,0,none⟩:Addr).add j)=some u:=hown.cells (g:=g) rfl
   have hr2:=run_append_grow_string (P:=P) w t u ty e i (.int .u8 0) ht hu hi hz ⟨g,0,none⟩ n cap flat (by rw [hsize];simpa using hxl) holds s (by omega) (by omega) (by rw [hby];exact growslice_fits (by omega) (by omega))
   rw [hr2] at hr
   cases hr
   exact .inr rfl
def aT (s:List UInt8):List Int:=s.map fun b=>(b.toNat:Int)
theorem rX (s:List UInt8):((aT s).map aH).flatten=s.map fun b=>AV.int .u8 (b.toNat:Int):=by
 induction s with
 | nil=>rfl
 | cons b s ih =>
  show aH _++((aT s).map aH).flatten=_;rw [ih];rfl
theorem sG {σ:List Value} {w:World} {F:Nat->Prop} (s:List UInt8):RelL σ w F ((aT s).map aH).flatten (strCells ⟨s.toArray⟩):=by
 rw [rX];refine ⟨by simp [strCells],fun j a v h1 h2=>?_⟩;have h2':(s.map fun b=>Value.int .u8 (b.toNat:Int))[j]?=some v:=h2;rw [zb] at h1 h2';cases hj:s[j]? with
 | none=>rw [hj] at h1;cases h1
 | some b =>
  rw [hj] at h1 h2';cases h1;cases h2';exact .int _ _
section
variable {P:Program} {N n:Nat} {aw aw':List Ob} {l:List (Nat × AV)}
theorem um {xs r:List Int} {s:List UInt8} {t u:TypeId} {x y:Operand} {id e k:Nat} {d:Option Tmp} {ty:TypeId} {ps:String} {af:Array Edge} {g:Option (Nat × Bool)} {K2:AV->List Ob->Prop}
  (hS:SliceOf P t e 1) (hu:P.underlying u=some .string) (hi:(P.info? e).map (fun i=>(i.zero,i.size,i.bytes))=some (some (.int .u8 0),1,1)) (hx:evA n l x=.ref id) (hy:evA n l y=.str s) (ho:aw[id]?=some (.arr e 1 (xs.map aH))) (hr:app xs (aT s)=some r) (hk:aw.length=k)
  (ha:aw.set id .dead++[.arr e 1 (r.map aH)]=aw') (h:K2 (.ref k) aw'):OP P N ⟨d,.call ⟨.builtin .append,#[x,y],#[t,u]⟩,ty,ps,af,g⟩ (mkA n l) aw K2 :=
 OP.of_ok (fun σ w F a har hs=>by
  unfold app at hr;split at hr
  ·rename_i hc;cases hr;subst hk ha;obtain ⟨i,hi1,hi2⟩:=y8.1 hi;have ez:i.zero=some (.int .u8 0):=congrArg (fun x=>x.1) hi2;have es:i.size=1:=congrArg (fun x=>x.2.1) hi2;have eb:i.bytes=1:=congrArg (fun x=>x.2.2) hi2;have ex:=har.ev x;have ey:=har.ev y;rw [ab,hx] at ex;rw [ab,hy] at ey;generalize hvx:a.eval x=vx at ex;generalize hvy:a.eval y=vy at ey;cases ey;cases ex with
   | ref _ A q cp hσ =>
    obtain ⟨flat,hown0,hfl,hf,_⟩:=hs.obj id _ _ ho hσ;have hbl:(aT s).length=s.length:=by simp [aT]
    have hlen:(xs.map aH).length+(⟨s.toArray⟩:ByteArray).size<=1099511627776:=by rw [zf];show xs.length+s.toArray.size<=_;simp;omega
    obtain ⟨v',w',hrun,hown,hg,hat⟩:=rQ (ty:=ty) hS.u hu hi1 ez es eb hown0 ⟨s.toArray⟩ hlen;have s3:=hs.lose id;have hfree:∀ b,(Value.slice A q cp).ownBlock=some b->¬ F b/\¬ Dof (aw.set id .dead) σ b/\Dof aw σ b:=by
     intro b hb;refine ⟨hf b hb,fun hd=>?_,⟨id,_,_,ho,rfl,hσ,(Bk.slice hb)⟩⟩;obtain ⟨k,o1,v1,ho1,hl,hv1,hb1⟩:=hd;rcases bK ho1 with ⟨rfl,rfl,_⟩ | ⟨hne,h2⟩
     ·simp [Ob.live] at hl
     ·exact hs.sep k id o1 _ v1 _ b hne h2 ho hl rfl hv1 hσ hb1 ((Bk.slice hb))
    have hrow:∀ row,row∈(aT s).map aH->row.length=1:=fun row hm=>by obtain ⟨z,_,rfl⟩:=zt.1 hm;rfl
    have hl2:(xs.map aH).length+(⟨s.toArray⟩:ByteArray).size=(xs.map aH++(aT s).map aH).length:=by rw [zc,zf,zf,hbl];rfl
    rw [hl2] at hown;obtain ⟨s2,m2,r2⟩:=lc (aw0:=aw) (vx:=.slice A q cp) s3 (fun _ h=>h.set_dead) hfl hrow (sG s) (strCells_oneCell _) hown hg (kZ _ hrun) hat hfree;rw [zM] at r2;rw [<- zH] at s2 m2;refine ⟨v',_,w',_,_,F,_,?_,.inl rfl,s2,m2,r2,h⟩;simp [execOp,resolve,invoke,builtin,Sem.run_bind,hvx,hvy,hrun]
  ·cases hr)
end
end
def itoaS (n:Int):Option (List UInt8):=if -9223372036854775808<=n/\n<=9223372036854775807 then some (Go.Lib.itoa n) else none
section
open Go.RowKit Go.Shelf
variable {P:Program} {ρ:Go.Shelf.Ren}
set_option maxHeartbeats 1000000 in
theorem tM (L:Lays.n146 P ρ) (hi9:(P.info? (ρ.t 9)).map (fun i=>(i.zero,i.size,i.bytes))=some (some (.string ByteArray.empty),1,16)) (s:ByteArray) (b:UInt8) (w:World) (hs:s.size<4294967281) :
  Calls P (ρ.f 146) #[.string s,.string ⟨#[b]⟩] w fun e w' =>
   e=.returned (.slice (some ⟨w.heap.size,0,none⟩) (Lib.splitB ⟨#[b]⟩ 0 (Lib.countB s ⟨#[b]⟩) s).length (Lib.splitB ⟨#[b]⟩ 0 (Lib.countB s ⟨#[b]⟩) s).length)/\w'=w.alloc (.cells ((Lib.splitB ⟨#[b]⟩ 0 (Lib.countB s ⟨#[b]⟩) s).map Value.string).toArray (ρ.t 9)):=by
 have h1:1<=(⟨#[b]⟩:ByteArray).size:=y5 _
 have hle:=Lib.countB_le ⟨#[b]⟩ h1 s.size s (y5 _)
 have hlen:=Lib.splitB_all ⟨#[b]⟩ h1 0 _ s rfl
 have hI:∀ (x:ByteArray) (c:Array Value),x.size<=s.size->Calls P (ρ.f 143) #[.string x,.string ⟨#[b]⟩] (w.alloc (.cells c (ρ.t 9))) fun e w'=>e=.returned (.int .i64 (Lib.indexB x ⟨#[b]⟩))/\w'=w.alloc (.cells c (ρ.t 9)):=fun x c hx =>
  (Any.strings_Index_one { L with } x b _).mono fun e w' ⟨he,hw⟩=>⟨by rw [he];show _=Ending.returned (Value.int .i64 (Lib.index x.data.toList [b]));rw [Lib.index_one],hw⟩
 have hC:Calls P (ρ.f 138) #[.string s,.string ⟨#[b]⟩] w fun e w'=>e=.returned (.int .i64 (Lib.countB s ⟨#[b]⟩))/\w'=w :=
  (Any.strings_Count_one { L with } s b w).mono fun e w' ⟨he,hw⟩=>⟨by rw [he];show _=Ending.returned (Value.int .i64 ((Lib.count s.data.toList [b]:Nat):Int));rw [Lib.count_one];rfl,hw⟩
 have c:=Any.strings_genSplit_core { L with } hi9 s ⟨#[b]⟩ 0 (-1) (Lib.countB s ⟨#[b]⟩ + 1) w hs h1 (zu _) hI hC (by decide) (by decide) (by rw [if_pos (by decide)];omega)
 rw [Nat.add_sub_cancel] at c
 have e2:Lib.cellsOf (Lib.splitB ⟨#[b]⟩ 0 (Lib.countB s ⟨#[b]⟩) s) (Lib.countB s ⟨#[b]⟩ + 1)=((Lib.splitB ⟨#[b]⟩ 0 (Lib.countB s ⟨#[b]⟩) s).map Value.string).toArray:=by rw [<- hlen];exact Lib.cellsOf_full _
 rw [e2,<- hlen] at c
 have t3:=L.t3;have t9:=L.t9;have t31:=L.t31
 have a3:=L.a3;have a9:=L.a9;have a31:=L.a31
 have z3:=L.z3;have v3:=L.v3;have z9:=L.z9;have v9:=L.v9;have z31:=L.z31;have v31:=L.v31
 have e221:∀ args w,(callFunc (ρ.f 221) args).run P w=.ok (.enter (ρ.f 221) args) w:=enters_of L.f221 (by kernel_rfl) rfl
 go_enter L.f146,Body.n146_ntmps ρ
 go_wp2_with (go_at_fn (ρ.f 221);refine c.mono ?_;rintro e w' ⟨rfl,hw⟩;rw [hw])
 go_ret
 refine ⟨?_,rfl⟩
 rw [hlen]
 rfl
theorem vh {σ:List Value} {w:World} {F:Nat->Prop} (xs:List ByteArray) (t:TypeId) (h:xs.length<=maxLen) :
  Rel σ (w.alloc (.cells (xs.map Value.string).toArray t)) (plus F w.heap.size) (.sl (xs.map fun x=>aa x.data.toList)) (.slice (some ⟨w.heap.size,0,none⟩) xs.length xs.length):=by
 have e:(xs.map fun x=>aa x.data.toList).length=xs.length:=by simp
 have:=Rel.sl (σ:=σ) (w:=w.alloc (.cells (xs.map Value.string).toArray t)) (F:=plus F w.heap.size) (xs.map fun x=>aa x.data.toList) 1 ⟨w.heap.size,0,none⟩ xs.length (fun i _=>.string (xs.getD i default)) (fun _=>.inr rfl) (by simp) h
  (fun row hr=>by obtain ⟨x,_,rfl⟩:=zt.1 hr;rfl) (fun i j _ _=>rfl)
  (fun i j hi hj=>by
   rw [e] at hi;have hj:j=0:=by omega
   subst hj;have ha:(⟨w.heap.size,0,none⟩:Addr).add (i*1+0)=⟨w.heap.size,i,none⟩:=by unfold Addr.add;simp;exact fun h=>h.symm
   rw [ha,World.cell?_alloc_new];simp [hi])
  (fun i row j x h1 h2=>by
   rw [zb] at h1;cases hx:xs[i]? with
   | none=>rw [hx] at h1;cases h1
   | some y =>
    rw [hx] at h1;cases h1;cases j with
    | zero=>cases h2;simp only [za,hx];exact .str _
    | succ j=>cases h2)
 rw [e] at this
 exact this
def f6 (s:List UInt8) (b:UInt8):Option (List (List UInt8)):=if s.length<4294967281 then some ((Lib.splitB ⟨#[b]⟩ 0 (Lib.countB ⟨s.toArray⟩ ⟨#[b]⟩) ⟨s.toArray⟩).map fun x=>x.data.toList) else none
def atoiS (s:List UInt8):Option Int:=if s.length<=18 then Lib.atoi s else none
def itoa100 (n:Int):Option (List UInt8):=if 0<=n/\n<100 then some (Go.Lib.decDigits n.toNat) else none
def eu (t:List UInt8):Option Int:=(atoiS t).bind fun n=>if n<0 then none else (itoa100 n).bind fun s=>if s=t then some n else none
def allT:List (List UInt8)->Option (List Int)
 | []=>some []
 | t::l=>(eu t).bind fun n=>(allT l).map (n::·)
def aC (b:UInt8):List UInt8->List (List UInt8)
 | []=>[[]]
 | x::l=>if x=b then []::aC b l else match aC b l with
  | []=>[[x]]
  | p::r=>(x::p)::r
theorem jH {b:UInt8}:∀ {p:List UInt8},b ∉ p->aC b p=[p]
 | [],_=>rfl
 | x::p,h=>by
  have h1:¬ x=b:=fun e=>h (by rw [e];exact zl)
  have h2:b ∉ p:=fun m=>h (zd _ m)
  simp only [aC,if_neg h1,jH h2]
theorem jQ {b:UInt8} (q:List UInt8):∀ {p:List UInt8},b ∉ p->aC b (p++b::q)=p::aC b q
 | [],_=>by simp [aC]
 | x::p,h=>by
  have h1:¬ x=b:=fun e=>h (by rw [e];exact zl)
  have h2:b ∉ p:=fun m=>h (zd _ m)
  simp only [zA,aC,if_neg h1,jQ q h2]
theorem oc (s:List UInt8) (b:UInt8):(Go.Lib.indexByte s b<0/\b ∉ s)∨∃ p q,s=p++b::q/\b ∉ p/\Go.Lib.indexByte s b=p.length:=by
 have hge:=Go.Lib.indexByte_ge s b;by_cases h:Go.Lib.indexByte s b<0
 ·have h1:Go.Lib.indexByte s b = -1:=by omega
  exact .inl ⟨h,fun hm=>by obtain ⟨k,hk⟩:=List.mem_iff_getElem?.1 hm;exact Go.Lib.indexByte_none h1 k hk⟩
 ·obtain ⟨o,ho⟩:∃ o:Nat,Go.Lib.indexByte s b=o:=⟨_,(Ac (by omega)).symm⟩
  obtain ⟨h1,h2⟩:=Go.Lib.indexByte_some ho;obtain ⟨hl,hx⟩:=yX.1 h1;refine .inr ⟨s.take o,s.drop (o+1),?_,fun hm=>?_,?_⟩
  ·have:=zD hl;rw [hx] at this;rw [<- this,zE]
  ·obtain ⟨k,hk⟩:=List.mem_iff_getElem?.1 hm;rw [zJ] at hk;split at hk
   ·exact h2 k (by assumption) hk
   ·cases hk
  ·rw [ho,zO,Ad (by omega)]
theorem oE (p q:List UInt8) (b:UInt8):(⟨p.toArray⟩:ByteArray)=(⟨(p++b::q).toArray⟩:ByteArray).extract 0 p.length/\(⟨(p++b::q).toArray⟩:ByteArray).extract (p.length+1) (p.length+(q.length+1))=⟨q.toArray⟩:=by refine ⟨ByteArray.ext (by simp [ByteArray.data_extract]),ByteArray.ext ?_⟩;simp [ByteArray.data_extract];exact zm (by omega)
theorem tg (b:UInt8):∀ (n:Nat) (s:List UInt8),s.length<=n->(Go.Lib.splitB ⟨#[b]⟩ 0 (Go.Lib.countB ⟨s.toArray⟩ ⟨#[b]⟩) ⟨s.toArray⟩).map (fun x=>x.data.toList)=aC b s:=by
 intro n;induction n with
 | zero =>
  intro s hs;have:s=[]:=y7 (by omega);subst this;have h:Go.Lib.indexB ⟨#[]⟩ ⟨#[b]⟩ = -1:=by show Go.Lib.index [] [b] = -1;rw [Go.Lib.index_one];rfl
  rw [show (⟨([]:List UInt8).toArray⟩:ByteArray)=⟨#[]⟩ from rfl,Go.Lib.countB_miss _ _ h];rfl
 | succ n ih =>
  intro s hs;have hi:Go.Lib.indexB ⟨s.toArray⟩ ⟨#[b]⟩=Go.Lib.indexByte s b:=by show Go.Lib.index s [b]=_;rw [Go.Lib.index_one]
  rcases oc s b with ⟨hneg,hno⟩ | ⟨p,q,rfl,hno,hix⟩
  ·have hge:=Go.Lib.indexByte_ge s b;rw [Go.Lib.countB_miss _ _ (by rw [hi];omega),jH hno];rfl
  ·rw [hix] at hi;have hsz:(⟨(p++b::q).toArray⟩:ByteArray).size=p.length+(q.length+1):=by simp [ByteArray.size]
   have hb1:(⟨#[b]⟩:ByteArray).size=1:=rfl;rw [Go.Lib.countB_hit _ _ _ (y5 _) hi,Nat.add_comm 1,Go.Lib.splitB_hit _ _ _ _ _ hi,jQ q hno,hb1,hsz,(oE p q b).2,zQ,<- (oE p q b).1,zh,ih q (by simp at hs;omega)]
def jT (s:List UInt8):Option (List Int):=if s=[45] then some [] else if s.length<4294967281 then allT (aC 44 s) else none
def iv (s p:List UInt8):Option (List (List UInt8)):=match p with | [b]=>f6 s b | _=>none
theorem tf (s:List UInt8) (b:UInt8):f6 s b=if s.length<4294967281 then some (aC b s) else none:=by unfold f6;rw [tg b s.length s (y5 _)]
theorem tZ (hcal:∀ vs w,(callFunc (ρ.f 146) vs).run P w=.ok (.enter (ρ.f 146) vs) w) (L:Lays.n146 P ρ) (hi9:(P.info? (ρ.t 9)).map (fun i=>(i.zero,i.size,i.bytes))=some (some (.string ByteArray.empty),1,16))
  (p0:List UInt8) (b:UInt8) (r:List (List UInt8)) (h:f6 p0 b=some r):Fn P (ρ.f 146) [.str p0,.str [b]] (.sl (r.map aa)):=by
 unfold f6 at h
 split at h
 ·rename_i h0
  injection h with h
  subst h
  refine ⟨hcal,fun w F σ vs hs hr=>?_⟩
  match vs,hr with
  | [v0,v1],hr =>
   have r0:Rel σ w F (.str p0) v0:=hr.2 0 _ v0 rfl rfl
   have r1:Rel σ w F (.str [b]) v1:=hr.2 1 _ v1 rfl rfl
   cases r0
   cases r1
   have hlen:=Lib.splitB_all ⟨#[b]⟩ (y5 _) 0 _ ⟨p0.toArray⟩ rfl
   have hle:=Lib.countB_le ⟨#[b]⟩ (y5 _) p0.length ⟨p0.toArray⟩ (Nat.le_of_eq (by simp [ByteArray.size]))
   refine (tM L hi9 ⟨p0.toArray⟩ b w (by simpa [ByteArray.size] using h0)).mono ?_
   rintro e w' ⟨rfl,rfl⟩
   refine ⟨_,_,[],σ,plus F w.heap.size,rfl,⟨rfl,rfl⟩,hs.fresh _,?_,.fresh _⟩
   have:=vh (σ:=σ) (w:=w) (F:=F) (Lib.splitB ⟨#[b]⟩ 0 (Lib.countB ⟨p0.toArray⟩ ⟨#[b]⟩) ⟨p0.toArray⟩) (ρ.t 9) (by rw [hlen];simp [ByteArray.size] at hle;unfold maxLen;omega)
   rw [z6]
   exact this
 ·cases h
theorem sa (hcal:∀ vs w,(callFunc (ρ.f 146) vs).run P w=.ok (.enter (ρ.f 146) vs) w) (L:Lays.n146 P ρ) (hi9:(P.info? (ρ.t 9)).map (fun i=>(i.zero,i.size,i.bytes))=some (some (.string ByteArray.empty),1,16))
  (p0 p1:List UInt8) (r:List (List UInt8)) (h:iv p0 p1=some r):Fn P (ρ.f 146) [.str p0,.str p1] (.sl (r.map aa)):=by
 unfold iv at h
 split at h
 ·exact tZ hcal L hi9 p0 _ r h
 ·cases h
end
section
open Go.RowKit Go.Shelf
def atoiA (s:List UInt8):Option Int:=if s.length<=9223372036854775806 then match Lib.atoiAll s with
 | .ok v=>some v
 | _=>none else none
section
variable {P:Program} {ρ:Go.Shelf.Ren}
theorem tq (hcal:∀ vs w,(callFunc (ρ.f 172) vs).run P w=.ok (.enter (ρ.f 172) vs) w) (L:LaysC.n172 P ρ) (p0:List UInt8) (r:Int) (h:atoiA p0=some r):Fn P (ρ.f 172) [.str p0] (.tup [.int .i64 r,.nili]):=by
 unfold atoiA at h;split at h
 ·rename_i h0;split at h
  ·rename_i v hv;cases h;refine ⟨hcal,fun w F σ vs hs hr=>?_⟩;match vs,hr with
   | [v0],hr =>
    have r0:Rel σ w F (.str p0) v0:=hr.2 0 _ v0 rfl rfl
    cases r0
    refine (Any.strconv_Atoi_ok L ⟨p0.toArray⟩ (by simpa [ByteArray.size] using h0) r (by simpa using hv) w).mono ?_
    rintro e w' ⟨rfl,hw⟩
    have ht:Rel σ w F (.tup [.int .i64 r,.nili]) (.tuple #[.int .i64 r,.nilIface]):=Rel.tup [.int .i64 r,.nili] [.int .i64 r,.nilIface] rfl fun j c u h1 h2=>by
     match j with
     | 0=>cases h1;cases h2;exact .int _ _
     | 1=>cases h1;cases h2;exact .nili
     | j+2=>cases h1
    rcases hw with rfl | ⟨t,rfl⟩
    ·exact ⟨_,_,[],σ,F,rfl,⟨rfl,rfl⟩,hs,ht,.refl ..⟩
    ·have hk:∀ b,b<w.heap.size->(Lib.bytesWorld w (ρ.t 5) t).heap[b]?=w.heap[b]?:=fun b hb=>by
      unfold Lib.bytesWorld World.freeze;split
      ·exact Below.heap_alloc w.drew _ b hb
      ·show ((w.drew.alloc _).heap.modify w.heap.size _)[b]?=_;rw [zL,if_neg (by omega)];exact Below.heap_alloc w.drew _ b hb
     have hsz:w.heap.size<=(Lib.bytesWorld w (ρ.t 5) t).heap.size:=by unfold Lib.bytesWorld World.freeze;split<;>simp
     refine ⟨_,_,[],σ,F,rfl,⟨rfl,rfl⟩,hs.grow (fun _ h=>h) (fun _ h=>.inl h) (fun b hb=>zk (hs.lt b hb) hsz) hk,ht.mono (fun _ _ h=>h) (fun _ h=>h) (fun b hb=>hk b (hs.lt b hb)),.grow (fun _ h=>h) (fun _ h=>.inl h) ?_ ?_ (drO ?_) hsz hk⟩
     all_goals (unfold Lib.bytesWorld World.freeze;split<;>rfl)
  ·cases h
 ·cases h
end
theorem xd {u:Nat} (h:u<10):Lib.decDigits u=[UInt8.ofNat (48+u)]:=by rw [Lib.decDigits,dif_pos h]
theorem xg {u:Nat} (h:¬ u<10):Lib.decDigits u=Lib.decDigits (u / 10)++[UInt8.ofNat (48+u % 10)]:=by rw [Lib.decDigits,dif_neg h]
theorem o9 {k:Nat} (h:k<10):(UInt8.ofNat (48+k)).toNat=48+k:=by rw [UInt8.toNat_ofNat'];omega
theorem tJ (u:Nat):∃ c r,Lib.decDigits u=c::r/\48<=c.toNat/\c.toNat<=57:=by
 induction u using Nat.strongRecOn with
 | ind u ih =>
  by_cases h:u<10
  ·exact ⟨_,_,xd h,by rw [o9 h];omega,by rw [o9 h];omega⟩
  ·obtain ⟨c,r,e,h1,h2⟩:=ih (u / 10) (by omega);exact ⟨c,r++[UInt8.ofNat (48+u % 10)],by rw [xg h,e];rfl,h1,h2⟩
end
noncomputable section
def ik {α β:Type} (l:List α) (f:List α->Option β):Option β :=
 open Classical in if h:∃ r,∀ zs,zs.Perm l->f zs=some r then some (Classical.choose h) else none
theorem rx {α β:Type} {l:List α} {f:List α->Option β} {r:β} (h:ik l f=some r):∀ zs,zs.Perm l->f zs=some r:=by
 unfold ik at h;split at h
 ·rename_i hx;cases h;exact Classical.choose_spec hx
 ·cases h
theorem sw {α β:Type} {l:List α} {f:List α->Option β} {r:β} (h:∀ zs,zs.Perm l->f zs=some r):ik l f=some r:=by
 have hx:∃ r,∀ zs,zs.Perm l->f zs=some r:=⟨r,h⟩
 have h1:=Classical.choose_spec hx l (.refl _);rw [h l (.refl _)] at h1;unfold ik;rw [dif_pos hx,<- h1]
def bB {κ ν:Type} [DecidableEq ν] (zs:List (κ × ν)):List (ν × κ):=zs.foldl (fun m z=>mset z.2 z.1 m) []
theorem nf {κ ν:Type} [DecidableEq ν] (zs:List (κ × ν)) (k:κ) (v:ν):bB (zs++[(k,v)])=mset v k (bB zs):=by unfold bB;rw [List.foldl_append];rfl
theorem om {κ ν:Type} [DecidableEq κ] {k:κ} {v:ν}:∀ xs:List (κ × ν),mget k (mset k v xs)=some v
 | []=>by simp [mset,mget]
 | p::r=>by
  simp only [mset];split
  ·simp_all [mget]
  ·rename_i h;simp only [mget];split
   ·simp_all
   ·exact om r
theorem lD {κ ν:Type} [DecidableEq κ] {k k':κ} {v:ν} (hne:k≠k'):∀ xs:List (κ × ν),mget k' (mset k v xs)=mget k' xs
 | []=>by simp [mset,mget];grind
 | p::r=>by
  simp only [mset];split
  ·simp only [mget];grind
  ·simp only [mget];split
   ·rfl
   ·exact lD hne r
theorem ni {κ ν:Type} [DecidableEq ν] (v:ν):∀ zs:List (κ × ν),(zs.map (·.2)).Nodup->(∀ k,(k,v)∈zs->mget v (bB zs)=some k)/\((∀ k,(k,v) ∉ zs)->mget v (bB zs)=none):=by
 intro zs;generalize hr:zs.reverse=rs;induction rs generalizing zs with
 | nil =>
  have:zs=[]:=by simpa using hr
  subst this;exact fun _=>⟨fun k h=>by (cases h),fun _=>rfl⟩
 | cons z rs ih =>
  have hz:zs=rs.reverse++[z]:=by have:=congrArg List.reverse hr;simpa using this
  subst hz;intro hn;rw [zH,List.nodup_append] at hn;have ih:=ih rs.reverse (by simp) hn.1;obtain ⟨k0,v0⟩:=z;rw [nf];refine ⟨fun k h=>?_,fun h=>?_⟩
  ·rcases zn.1 h with h | h
   ·have hne:v0≠v:=fun e=>hn.2.2 v (List.mem_map_of_mem (f:=(·.2)) h) v0 (by simp) e.symm
    rw [lD hne];exact ih.1 k h
   ·simp at h;obtain ⟨rfl,rfl⟩:=h;exact om _
  ·have hne:v0≠v:=fun e=>h k0 (by subst e;simp)
   rw [lD hne];exact ih.2 fun k hk=>h k (List.mem_append_left _ hk)
end
section
open Go.RowKit Go.Shelf Go.Lib
theorem vD (s:ByteArray) (i:Nat) (h:i<s.size) (hb:128<=(s.get! i).toNat) :
  128<=(Utf8.decode s i).1/\(Utf8.decode s i).1<=1114111/\1<=(Utf8.decode s i).2/\∀ k,k<(Utf8.decode s i).2->i+k<s.size/\128<=(s.get! (i+k)).toNat:=by
 have hc:∀ k,(decide (i+k<s.size) && ((s.get! (i+k)).toNat / 64==2))=true->i+k<s.size/\128<=(s.get! (i+k)).toNat/\(s.get! (i+k)).toNat<192:=fun k hk=>by simp at hk;omega
 have h8:∀ k,(s.get! k).toNat<256:=fun k=>(s.get! k).toNat_lt
 have h1:∀ k,k<1->i+k<s.size/\128<=(s.get! (i+k)).toNat:=fun k hk=>by
  obtain rfl:k=0:=by omega
  exact ⟨h,hb⟩
 have g0:=h8 i
 unfold Utf8.decode
 simp only [zQ]
 rw [if_neg (by omega)]
 split
 ·rename_i a
  have c1:=hc 1 (by simp at a ⊢;omega)
  split
  ·refine ⟨by simpa using ‹_›,?_,Nat.le_add_left 1 1,fun k hk=>?_⟩
   ·show _ % 32*64+_ % 64<=_;omega
   ·match k,hk with
    | 0,_=>exact ⟨h,hb⟩
    | 1,_=>exact ⟨c1.1,c1.2.1⟩
  ·exact ⟨by decide,by decide,by decide,h1⟩
 ·split
  ·rename_i a
   have c1:=hc 1 (by simp at a ⊢;omega)
   have c2:=hc 2 (by simp at a ⊢;omega)
   split
   ·rename_i v
    simp at v
    refine ⟨?_,?_,Nat.le_add_left 1 2,fun k hk=>?_⟩
    ·show 128<=_ % 16*4096+_ % 64*64+_ % 64;omega
    ·show _ % 16*4096+_ % 64*64+_ % 64<=_;omega
    ·match k,hk with
     | 0,_=>exact ⟨h,hb⟩
     | 1,_=>exact ⟨c1.1,c1.2.1⟩
     | 2,_=>exact ⟨c2.1,c2.2.1⟩
   ·exact ⟨by decide,by decide,by decide,h1⟩
  ·split
   ·rename_i a
    have c1:=hc 1 (by simp at a ⊢;omega)
    have c2:=hc 2 (by simp at a ⊢;omega)
    have c3:=hc 3 (by simp at a ⊢;omega)
    split
    ·rename_i v
     simp [Utf8.valid] at v
     refine ⟨?_,?_,Nat.le_add_left 1 3,fun k hk=>?_⟩
     ·show 128<=_ % 8*262144+_ % 64*4096+_ % 64*64+_ % 64;omega
     ·show _ % 8*262144+_ % 64*4096+_ % 64*64+_ % 64<=_;omega
     ·match k,hk with
      | 0,_=>exact ⟨h,hb⟩
      | 1,_=>exact ⟨c1.1,c1.2.1⟩
      | 2,_=>exact ⟨c2.1,c2.2.1⟩
      | 3,_=>exact ⟨c3.1,c3.2.1⟩
    ·exact ⟨by decide,by decide,by decide,h1⟩
   ·exact ⟨by decide,by decide,by decide,h1⟩
theorem xt (r:Int) (h0:128<=r) (h1:r<=1114111):1<(Utf8.encode r).size/\(Utf8.encode r).size<=4/\∀ b,(Utf8.encode r).data.toList[(Utf8.encode r).size - 1]?=some b->128<=b.toNat:=by
 obtain ⟨c,hc,hc'⟩:∃ c:Nat,(if Utf8.valid r then r.toNat else Utf8.runeError)=c/\128<=c:=by
  refine ⟨_,rfl,?_⟩;split
  ·omega
  ·decide
 have hb:∀ x b,UInt8.ofNat (128+x % 64)=b->128<=b.toNat:=fun x b h=>by subst h;simp;omega
 unfold Utf8.encode;simp only [hc];rw [if_neg (by omega)];split
 ·exact ⟨by simp [ByteArray.size],by simp [ByteArray.size],fun b h=>hb _ b (by simpa [ByteArray.size] using h)⟩
 ·split
  ·exact ⟨by simp [ByteArray.size],by simp [ByteArray.size],fun b h=>hb _ b (by simpa [ByteArray.size] using h)⟩
  ·exact ⟨by simp [ByteArray.size],by simp [ByteArray.size],fun b h=>hb _ b (by simpa [ByteArray.size] using h)⟩
section
variable {P:Program} {ρ:Go.Shelf.Ren}
theorem wJ {l:List UInt8} {c:UInt8} (h:∀ b,b∈l->b.toNat<128) (hc:128<=c.toNat):¬ (0:Int)<=Lib.indexByte l c:=by have:=Lib.contains_iff_indexByte l c;intro h0;rw [decide_eq_true h0] at this;have:=h c (by simpa using this);omega
theorem uD {l:List UInt8} {c:UInt8} (h:∀ b,b∈l->b.toNat<128) (hc:128<=c.toNat):Lib.indexByte l c = -1:=by have h1:=Lib.indexByte_ge l c;have h2:=wJ h hc;omega
theorem vt (W:World) (b:Nat) (s:ByteArray) (pos:Nat) (ty:TypeId) (hb:W.heap[b]?=some (.stringIter s pos)) (h:pos<s.size) :
  (Instr.next (.pointer (some ⟨b,0,none⟩)) true ty).run P W =
   .ok (.tuple #[.bool true,.int .i64 pos,.int .i32 (Utf8.decode s pos).1]) { W with heap:=W.heap.setIfInBounds b (.stringIter s (pos+(Utf8.decode s pos).2)) }:=by
 simp only [Instr.next,getObj,setObj,Sem.run_bind,Sem.run,hb,Result.andThen,h,if_true]
 simp [goInt,Sem.run,hb]
theorem uE (W:World) (b:Nat) (s:ByteArray) (ty:TypeId) (hb:W.heap[b]?=some (.stringIter s s.size)) :
  (Instr.next (.pointer (some ⟨b,0,none⟩)) true ty).run P W=.ok (.tuple #[.bool false]) W:=by
 simp [Instr.next,getObj,Sem.run,hb]
set_option maxHeartbeats 4000000 in
set_option maxRecDepth 1000000 in
theorem rz (L:Lays.n152 P ρ) (s:ByteArray) (r:Int) (w:World) (hs:∀ (j:Nat) b,s.data.toList[j]?=some b->b.toNat<128) (hsz:s.size<4294967281) (h0:128<=r) (h1:r<=1114111) :
  Calls P (ρ.f 152) #[.string s,.int .i32 r] w fun e w'=>e=.returned (.int .i64 (-1))/\Below w.heap.size w w':=by
 have HS:Aside (∀ (j:Nat) b,s.data.toList[j]?=some b->b.toNat<128):=hs
 clear hs
 have mixed:=L.mixed
 have t3:=L.t3;have a3:=L.a3;have z3:=L.z3;have v3:=L.v3
 have t4:=L.t4;have a4:=L.a4;have z4:=L.z4;have v4:=L.v4
 have t5:=L.t5;have a5:=L.a5;have z5:=L.z5;have v5:=L.v5
 have t9:=L.t9;have a9:=L.a9;have z9:=L.z9;have v9:=L.v9
 have t21:=L.t21;have a21:=L.a21;have z21:=L.z21;have v21:=L.v21
 have e137:∀ args w,(callFunc (ρ.f 137) args).run P w=.ok (.enter (ρ.f 137) args) w:=enters_of L.f137 (by kernel_rfl) rfl
 have e119:∀ args w,(callFunc (ρ.f 119) args).run P w=.ok (.enter (ρ.f 119) args) w:=enters_of L.f119 (by kernel_rfl) rfl
 have hn:decide (r<128)=false:=decide_eq_false (by omega)
 have hz:decide ((0:Int)<=r)=true:=decide_eq_true (by omega)
 have hE:=xt r h0 h1
 obtain ⟨rs,hrs⟩:∃ b,Utf8.encode r=b:=⟨_,rfl⟩
 rw [hrs] at hE
 obtain ⟨hE1,hE4,hEl⟩:=hE
 by_cases hr:r=65533
 ·subst hr
  go_enter L.f152,Body.n152_ntmps ρ
  go_wp2
  go_loopg [5,6] s.size (fun g _ _ wx=>∃ i:Nat,i+g=s.size/\wx=w.iter s i)
  case atStart=>exact ⟨0,by omega,rfl⟩
  case round =>
   obtain ⟨i,hig,rfl⟩:=hrel
   cases gk with
   | zero =>
    obtain rfl:i=s.size:=by omega
    have hnx:=run_next_end (P:=P) w s s.size
    go_wp2
    go_ret
    exact ⟨rfl,(Below.refl _ _).alloc (y5 _) _⟩
   | succ g =>
    have hi:i<s.size:=by omega
    obtain ⟨x,hx⟩:∃ x:UInt8,s[i]'hi=x:=⟨_,rfl⟩
    have lV:x.toNat<128:=HS.out i x (by rw [<- hx];exact Lib.data_getElem? s i hi)
    have hnx:=fun ty=>run_next_ascii (P:=P) w s i ty hi (by rw [hx];exact lV)
    rw [hx] at hnx
    have hxe:((x.toNat:Int)==65533)=false:=beq_eq_false_iff_ne.2 (by omega)
    go_wp2
    go_roundg g
    case measure=>omega
    case rel=>exact ⟨i+1,by omega,rfl⟩
 ·cases hv:Lib.validRune r
  ·go_enter L.f152,Body.n152_ntmps ρ
   go_wp2_with (go_at_fn (ρ.f 119);refine (Any.utf8_ValidRune { L with } _ _).mono ?_;rintro e w' ⟨rfl,hw⟩;rw [hw,hv])
   go_ret
   exact ⟨rfl,Below.refl _ _⟩
  ·by_cases hb:rs.size - 1<s.size
   ·have hlt:((rs.size:Int) - 1<(s.size:Int)):=by omega
    have hge:(1:Int)<=(rs.size:Int):=by omega
    have hle:(rs.size:Int)<=(s.size:Int):=by omega
    have hwr:IntKind.i64.wrap (rs.size:Int)=(rs.size:Int):=IntWalk.i64_in _ ⟨by omega,by omega⟩
    obtain ⟨x,hx⟩:∃ x:UInt8,s[rs.size - 1]'hb=x:=⟨_,rfl⟩
    obtain ⟨y,hy⟩:∃ y:UInt8,rs[rs.size - 1]'(by omega)=y:=⟨_,rfl⟩
    have hx1:x.toNat<128:=HS.out (rs.size - 1) x (by rw [<- hx];exact Lib.data_getElem? s (rs.size - 1) hb)
    have hy1:128<=y.toNat:=hEl y (by rw [<- hy];exact Lib.data_getElem? rs (rs.size - 1) (by omega))
    have hne:((x.toNat:Int)==(y.toNat:Int))=false:=beq_eq_false_iff_ne.2 (by omega)
    have hox:Aside (∀ k,Lib.indexByte (s.extract k s.size).data.toList (y.toNat:Int).toNat.toUInt8 = -1):=by
     intro k;refine uD (fun b hb=>?_) (by simpa using hy1);have hm:b∈s.data.toList:=by
      have:(s.extract k s.size).data.toList=(s.data.toList.drop k).take (s.size - k):=by simp
      rw [this] at hb;exact zG (zo hb)
     obtain ⟨j,hj⟩:=Al hm;exact HS.out j b hj
    go_enter L.f152,Body.n152_ntmps ρ
    go_wp2_with (first
     | (go_at_fn (ρ.f 119);refine (Any.utf8_ValidRune { L with } _ _).mono ?_;rintro e w' ⟨rfl,hw⟩;rw [hw,hv])
     | (go_at_fn (ρ.f 137);refine (Any.strings_IndexByte { L with } _ _ _).mono ?_;rintro e w' ⟨rfl,hw⟩;rw [hw]))
    refine wp_scope_straight ?_
    go_wp2
    refine wp_loop_once ?_
    go_wp2
    refine wp_scope_straight ?_
    go_wp2
    go_region_o
    go_wp2
    go_region_with_o (refine (Any.strings_IndexByte { L with } _ _ _).mono ?_;rintro e w' ⟨rfl,hw⟩;rw [hw,hox.out])
    go_wp2
    simp +zetaDelta only [Exit.noGoto,Exit.inBlock,Exit.then]
    go_ret
    exact ⟨rfl,(Below.refl _ _).drew.drew⟩
   ·have hlt:¬ ((rs.size:Int) - 1<(s.size:Int)):=by omega
    go_enter L.f152,Body.n152_ntmps ρ
    go_wp2_with (go_at_fn (ρ.f 119);refine (Any.utf8_ValidRune { L with } _ _).mono ?_;rintro e w' ⟨rfl,hw⟩;rw [hw,hv])
    refine wp_scope_straight ?_
    go_wp2
    refine wp_loop_once ?_
    go_wp2
    simp only [Exit.noGoto,Exit.inBlock]
    go_ret
    exact ⟨rfl,Below.refl _ _⟩
set_option maxHeartbeats 4000000 in
set_option maxRecDepth 1000000 in
theorem rW (L:Lays.n153 P ρ) (s chars:ByteArray) (w:World) (h2:2<=chars.size) (h8:s.size<=8) (hch:chars.size<4294967281) (hascii:∀ (j:Nat) b,chars.data.toList[j]?=some b->b.toNat<128) :
    Calls P (ρ.f 153) #[.string s,.string chars] w fun e w'=>e=.returned (.int .i64 (Lib.indexAny s.data.toList chars.data.toList))/\Below w.heap.size w w':=by
  have HA:Aside (∀ (j:Nat) b,chars.data.toList[j]?=some b->b.toNat<128):=hascii
  clear hascii
  have hemp:chars.toList.isEmpty=false:=by
    rw [Lib.toList_data];cases h:chars.data.toList with
    | nil=>have:=Lib.size_eq chars;rw [h,zj] at this;omega
    | cons _ _=>rfl
  have hn1:((chars.size:Int)==1)=false:=beq_eq_false_iff_ne.2 (by omega)
  have h8z:decide ((8:Int)<(s.size:Int))=false:=decide_eq_false (by omega)
  have t3:=L.t3;have a3:=L.a3;have z3:=L.z3;have v3:=L.v3
  have t4:=L.t4;have a4:=L.a4;have z4:=L.z4;have v4:=L.v4
  have t5:=L.t5;have a5:=L.a5;have z5:=L.z5;have v5:=L.v5
  have t9:=L.t9;have a9:=L.a9;have z9:=L.z9;have v9:=L.v9
  have t21:=L.t21;have a21:=L.a21;have z21:=L.z21;have v21:=L.v21
  have e152:∀ args w,(callFunc (ρ.f 152) args).run P w=.ok (.enter (ρ.f 152) args) w:=enters_of L.f152 (by kernel_rfl) rfl
  have e226:∀ args w,(callFunc (ρ.f 226) args).run P w=.ok (.enter (ρ.f 226) args) w:=enters_of L.f226 (by kernel_rfl) rfl
  go_enter L.f153,Body.n153_ntmps ρ
  go_wp2_with (go_at_fn (ρ.f 226);refine (Any.strings_shouldUseASCIISet { L with } _ _).mono ?_;rintro e w' ⟨rfl,hw⟩;rw [hw,h8z])
  go_loopg [9,10] s.size (fun g _ _ wx=>∃ i:Nat,i+g=s.size/\wx.heap[w.heap.size]?=some (.stringIter s i)/\Below w.heap.size w wx/\Lib.NoAny s.data.toList chars.data.toList i)
  case atStart=>exact ⟨0,by omega,World.iter_heap _ _ _,(Below.refl _ _).alloc (y5 _) _,Lib.NoAny.zero _ _⟩
  case round =>
    obtain ⟨i,hig,hit,hB,hno⟩:=hrel
    have HN:Aside (Lib.NoAny s.data.toList chars.data.toList i):=hno
    have hlt:w.heap.size<wr.heap.size:=by have:=(zi.1 hit).1;exact this
    have HB:Aside (Below w.heap.size w wr):=hB
    clear hno hB
    cases gk with
    | zero =>
      obtain rfl:i=s.size:=by omega
      have hnx:=fun ty=>uE (P:=P) wr w.heap.size s ty hit
      go_wp2
      go_ret
      exact ⟨by rw [Lib.indexAny_none (by rw [<- Lib.size_eq];exact HN.out)];rfl,HB.out⟩
    | succ g =>
      have hi:i<s.size:=by omega
      have hnx:=fun ty=>vt (P:=P) wr w.heap.size s i ty hit hi
      obtain ⟨W1,hW1⟩:∃ W1,{ wr with heap:=wr.heap.setIfInBounds w.heap.size (.stringIter s (i+(Utf8.decode s i).2)) }=W1:=⟨_,rfl⟩
      have h1:W1.heap[w.heap.size]?=some (.stringIter s (i+(Utf8.decode s i).2)):=by rw [<- hW1];show (wr.heap.setIfInBounds _ _)[_]?=_;rw [Array.getElem?_setIfInBounds_self_of_lt hlt]
      have h2:w.heap.size<W1.heap.size:=by rw [<- hW1];simpa using hlt
      have h3:Below w.heap.size w W1:=by rw [<- hW1];refine ⟨HB.out.os,HB.out.tape,HB.out.output,by simpa using HB.out.size,fun k hk=>?_⟩;show (wr.heap.setIfInBounds _ _)[_]?=_;rw [Array.getElem?_setIfInBounds_ne (by omega)];exact HB.out.block k hk
      rw [hW1] at hnx
      have H1:Aside (W1.heap[w.heap.size]?=some (.stringIter s (i+(Utf8.decode s i).2))):=h1
      have H3:Aside (Below w.heap.size w W1):=h3
      clear h1 h3 hit hW1
      obtain ⟨x,hx⟩:∃ x:UInt8,s[i]'hi=x:=⟨_,rfl⟩
      have hxl:s.data.toList[i]?=some x:=by rw [<- hx];exact Lib.data_getElem? s i hi
      have hxg:s.get! i=x:=by rw [<- hx];simp [ByteArray.get!,getElem!_pos,hi];rfl
      by_cases lV:x.toNat<128
      · have hd:=decode_ascii s i hi (by rw [hx];exact lV)
        rw [hx] at hd
        rw [hd] at hnx H1
        have Hx:Aside (s.data.toList[i]?=some x):=hxl
        clear hxl hx hd hxg
        have hcon:=Lib.contains_iff_indexByte chars.data.toList x
        have hback:((x.toNat:Int)).toNat.toUInt8=x:=by simp
        cases hin:chars.data.toList.contains x
        · rw [hin] at hcon
          have hlt0:¬ ((0:Int)<=Lib.indexByte chars.data.toList x):=of_decide_eq_false hcon.symm
          clear hcon
          go_wp2_with (go_at_fn (ρ.f 152);refine (Any.strings_IndexRune_ascii { L with } _ _ _ (by omega) (by omega)).mono ?_;rintro e w' ⟨rfl,hw⟩;rw [hw,hback])
          go_roundg g
          case measure=>omega
          case rel=>exact ⟨i+1,by omega,H1.out,H3.out,HN.out.succ Hx.out hin⟩
        · rw [hin] at hcon
          have hge:(0:Int)<=Lib.indexByte chars.data.toList x:=of_decide_eq_true hcon.symm
          clear hcon
          go_wp2_with (go_at_fn (ρ.f 152);refine (Any.strings_IndexRune_ascii { L with } _ _ _ (by omega) (by omega)).mono ?_;rintro e w' ⟨rfl,hw⟩;rw [hw,hback])
          go_ret
          exact ⟨by rw [Lib.indexAny_hit HN.out Hx.out hin];rfl,H3.out⟩
      · obtain ⟨d0,d1,d2,d3⟩:=vD s i hi (by rw [hxg];omega)
        obtain ⟨r,hr⟩:∃ r,(Utf8.decode s i).1=r:=⟨_,rfl⟩
        obtain ⟨n,hn⟩:∃ n,(Utf8.decode s i).2=n:=⟨_,rfl⟩
        rw [hr] at hnx
        rw [hn] at H1 d2 d3
        rw [hr] at d0 d1
        have D3:Aside (∀ k,k<n->i+k<s.size/\128<=(s.get! (i+k)).toNat):=d3
        have hn2:i+n<=s.size:=by have:=(d3 (n - 1) (by omega)).1;omega
        have hnew:Aside (Lib.NoAny s.data.toList chars.data.toList (i+n)):=by
          have key:∀ m,m<=n->Lib.NoAny s.data.toList chars.data.toList (i+m):=by
            intro m;induction m with
            | zero=>intro _;exact HN.out
            | succ m ih =>
              intro hm;have hk:=D3.out m (by omega);have hg:s.data.toList[i+m]?=some (s[i+m]'hk.1):=Lib.data_getElem? s (i+m) hk.1;have hge:s.get! (i+m)=s[i+m]'hk.1:=by simp [ByteArray.get!,getElem!_pos,hk.1];rfl
              refine (ih (by omega)).succ hg ?_;cases hc:chars.data.toList.contains (s[i+m]'hk.1) with
              | false=>rfl
              | true =>
                obtain ⟨j,hj⟩:=Al (by simpa using hc:s[i+m]'hk.1∈chars.data.toList);have:=HA.out j _ hj;rw [<- hge] at this;omega
          exact key n (y5 _)
        clear d3 hxl hx hxg
        go_wp2_with (go_at_fn (ρ.f 152);refine (rz { L with } _ _ _ HA.out hch (by omega) (by omega)).mono ?_;rintro e w2 ⟨rfl,hw2⟩)
        go_roundg (s.size - (i+n))
        case measure=>omega
        case rel=>exact ⟨i+n,by omega,(hw2.block _ h2).trans H1.out,H3.out.trans (hw2.mono (by omega)),hnew.out⟩
end
end
section
open Go.RowKit
inductive TI where
 | no
 | s0
 | sc (z:AV)
 | it (k:IntKind)
 | bo
 | str
 | sl (e c:Nat)
 | ag (z:List AV) (m:Nat) (fs:List (Nat × Nat × Nat))
 | ar (z:List AV) (m:Nat)
inductive TT where
 | l (t:Nat) (i:TI)
 | n (k:Nat) (a b:TT)
def TT.get:TT->Nat->TI
 | .l t i,u=>match Nat.beq t u with
  | true=>i
  | false=>.no
 | .n k a b,u=>match Nat.blt u k with
  | true=>a.get u
  | false=>b.get u
def TI.zero:TI->Option (List AV)
 | .sc z=>some [z]
 | .it k=>some [.int k 0]
 | .bo=>some [.bool false]
 | .str=>some [.str []]
 | .sl _ _=>some [.nils]
 | .ag z _ _=>some z
 | .ar z _=>some z
 | _=>none
def TI.size:TI->Option Nat
 | .no=>none
 | .ag _ m _=>some m
 | .ar _ m=>some m
 | _=>some 1
def TOne (P:Program) (t:Nat):Prop:=bd P t=some false/\P.cellsOf t=1/\(P.underlying t).isSome=true
def FsOk (P:Program) (t:Nat):Nat->List (Nat × Nat × Nat)->Prop
 | _,[]=>True
 | k,(o,_,ft)::r=>FieldAt P t k ft o/\FsOk P t (k+1) r
def TAgg (P:Program) (t:Nat) (z:List AV) (m:Nat):Prop:=bd P t=some true/\P.cellsOf t=m/\(P.underlying t).isSome=true/\ae P t=some z/\z.length=m
def TOk (P:Program) (t:Nat):TI->Prop
 | .no=>True
 | .s0=>TOne P t
 | .sc z=>TOne P t/\ae P t=some [z]
 | .it k=>TOne P t/\ae P t=some [.int k 0]/\P.underlying t=some (.int k)
 | .bo=>TOne P t/\ae P t=some [.bool false]/\P.underlying t=some .bool
 | .str=>TOne P t/\ae P t=some [.str []]/\P.underlying t=some .string
 | .sl e c=>TOne P t/\ae P t=some [.nils]/\SliceOf P t e c
 | .ag z m fs=>TAgg P t z m/\hU P t=some (fs.map fun q=>(q.1,q.2.1))/\FsOk P t 0 fs
 | .ar z m=>TAgg P t z m
def TT.Ok (P:Program):TT->Prop
 | .l t i=>TOk P t i
 | .n _ a b=>a.Ok P/\b.Ok P
inductive TE where
 | a (x:Option Bool)
 | b (x:Nat)
 | c (x:Bool)
 | d (x:Option (List AV))
 | e (x:Option TypeDesc)
 | f (x:Option (List (Nat × Nat)))
 | g (x:List (Nat × Nat × Bool × Bool))
def fL (P:Program) (t:Nat):List (Nat × Nat × Bool × Bool):=match P.underlying t with
 | some (.struct fs)=>fs.toList.map fun f=>(f.offset,f.type,P.cellsOf f.type==0,(P.underlying f.type).isSome)
 | _=>[]
def e1 (P:Program) (t:Nat) (b:Bool) (m:Nat):List (TE × TE):=[(.a (bd P t),.a (some b)),(.b (P.cellsOf t),.b m),(.c (P.underlying t).isSome,.c true)]
def e2 (P:Program) (t:Nat) (z:List AV) (u:TypeDesc):List (TE × TE):=e1 P t false 1++[(.d (ae P t),.d (some z)),(.e (P.underlying t),.e (some u))]
def e3 (P:Program) (t:Nat) (z:List AV) (m:Nat):List (TE × TE):=e1 P t true m++[(.d (ae P t),.d (some z)),(.b z.length,.b m)]
def TI.eqs (P:Program) (t:Nat):TI->List (TE × TE)
 | .no=>[]
 | .s0=>e1 P t false 1
 | .sc z=>e1 P t false 1++[(.d (ae P t),.d (some [z]))]
 | .it k=>e2 P t [.int k 0] (.int k)
 | .bo=>e2 P t [.bool false] .bool
 | .str=>e2 P t [.str []] .string
 | .sl e c=>e2 P t [.nils] (.slice e)++[(.b (P.cellsOf e),.b c),(.c (P.underlying e).isSome,.c true),(.c (Nat.blt 0 c),.c true),(.c (Nat.ble (P.bytesOf e) 128),.c true),(.b (((ae P e).map List.length).getD 0),.b c)]
 | .ag z m fs=>e3 P t z m++[(.f (hU P t),.f (some (fs.map fun q=>(q.1,q.2.1)))),(.g (fL P t),.g (fs.map fun q=>(q.1,q.2.2,false,true)))]
 | .ar z m=>e3 P t z m
def TT.eqs (P:Program):TT->List (TE × TE)
 | .l t i=>i.eqs P t
 | .n _ a b=>a.eqs P++b.eqs P
theorem fs_of {P:Program} {t:Nat}:∀ (r:List (Nat × Nat × Nat)) (k:Nat),(fL P t).drop k=r.map (fun q=>(q.1,q.2.2,false,true))->FsOk P t k r
 | [],_,_=>trivial
 | (o,m,ft)::r,k,h=>by
  have h0:(fL P t)[k]?=some (o,ft,false,true):=by rw [<- List.head?_drop,h];rfl
  refine ⟨⟨?_⟩,fs_of r (k+1) (by rw [<- Ah,h];rfl)⟩;unfold fL at h0;split at h0
  ·rename_i fs hu;rw [zb] at h0;obtain ⟨f,hf,e⟩:=y8.1 h0;simp only [Prod.mk.injEq,beq_eq_false_iff_ne] at e;obtain ⟨rfl,rfl,e3,e4⟩:=e;exact ⟨fs,f,hu,by rw [<- hf];simp,rfl,rfl,e3,e4⟩
  ·cases h0
theorem TI.of_eqs {P:Program} {t:Nat} {i:TI} (h:∀ p∈i.eqs P t,p.1=p.2):TOk P t i:=by
 cases i with
 | no=>trivial
 | ag z m fs =>
  simp [TI.eqs,e3,e1] at h;exact ⟨⟨h.1,h.2.1,h.2.2.1,h.2.2.2.1,h.2.2.2.2.1⟩,h.2.2.2.2.2.1,fs_of fs 0 h.2.2.2.2.2.2⟩
 | sl e c =>
  simp [TI.eqs,e2,e1] at h;obtain ⟨h1,h2,h3,h4,h5,h6,h7,h8,h9,h10⟩:=h;refine ⟨⟨h1,h2,h3⟩,h4,h5,h6,h7,h8,h9,?_⟩;cases hz:ae P e with
  | none=>rw [hz] at h10;simp at h10;omega
  | some z=>rw [hz] at h10;exact ⟨z,rfl,h10⟩
 | _=>simp [TI.eqs,e3,e2,e1] at h;simp [TOk,TOne,TAgg,h]
theorem TT.of_eqs {P:Program}:∀ {tt:TT},(∀ p∈tt.eqs P,p.1=p.2)->tt.Ok P
 | .l _ _,h=>TI.of_eqs h
 | .n _ _ _,h=>⟨TT.of_eqs fun p hp=>h p (List.mem_append_left _ hp),TT.of_eqs fun p hp=>h p (List.mem_append_right _ hp)⟩
theorem TT.ok_of {P:Program} {tt:TT} (h:(tt.eqs P).map (·.1)=(tt.eqs P).map (·.2)):tt.Ok P:=TT.of_eqs (List.map_inj_left.1 h)
section
variable {P:Program} {N n:Nat} {aw aw':List Ob} {l:List (Nat × AV)} {tt:TT}
theorem TT.get_ok:∀ {tt:TT},tt.Ok P->∀ u,TOk P u (tt.get u)
 | .l t i,h,u=>by
  show TOk P u (match Nat.beq t u with | true=>i | false=>.no);cases hb:Nat.beq t u
  ·trivial
  ·have:=zw hb;subst this;exact h
 | .n k a b,h,u=>by
  show TOk P u (match Nat.blt u k with | true=>a.get u | false=>b.get u);cases Nat.blt u k
  ·exact TT.get_ok h.2 u
  ·exact TT.get_ok h.1 u
theorem TI.zero_ok {t:Nat} {i:TI} {z:List AV} (h:TOk P t i) (hz:i.zero=some z):ae P t=some z:=by cases i<;>simp only [TI.zero] at hz<;>first | grind | (cases hz;first | exact h.2 | exact h.2.1 | exact h.1.2.2.2.1 | exact h.2.2.2.1)
theorem TI.size_ok {t m:Nat} {i:TI} (h:TOk P t i) (hm:i.size=some m):P.cellsOf t=m/\(P.underlying t).isSome=true:=by cases i<;>simp only [TI.size] at hm<;>first | grind | (cases hm;first | exact ⟨h.2.1,h.2.2⟩ | exact ⟨h.1.2.1,h.1.2.2.1⟩ | exact ⟨h.1.2.1,h.1.2.2⟩ | exact ⟨h.2.1,h.2.2.1⟩)
theorem lA {t:Nat}:∀ {fs:List (Nat × Nat × Nat)} {k i:Nat} {q:Nat × Nat × Nat},FsOk P t k fs->fs[i]?=some q->FieldAt P t (k+i) q.2.2 q.1
 | q'::r,k,0,q,h,e=>by simp at e;subst e;exact h.1
 | q'::r,k,i+1,q,h,e=>by
  have:=lA (k:=k+1) (i:=i) h.2 (by simpa using e);grind
 | [],k,i,q,h,e=>by simp at e
section
variable {α:Type}
def aF:List α->Nat->(α->Prop)->Prop
 | [],_,_=>False
 | a::l,k,K=>match k with
  | 0=>K a
  | k+1=>aF l k K
def setC:List α->Nat->α->(List α->Prop)->Prop
 | [],_,_,_=>False
 | a::l,k,b,K=>match k with
  | 0=>K (b::l)
  | k+1=>setC l k b fun l=>K (a::l)
def pushC:List α->α->(List α->Prop)->Prop
 | [],b,K=>K [b]
 | a::l,b,K=>pushC l b fun l=>K (a::l)
def lenC:List α->Nat->Prop->Prop
 | [],k,K=>match k with
  | 0=>K
  | _+1=>False
 | _::l,k,K=>match k with
  | 0=>False
  | k+1=>lenC l k K
def dropC:List α->Nat->(List α->Prop)->Prop
 | l,0,K=>K l
 | [],_+1,_=>False
 | _::l,k+1,K=>dropC l k K
def takeC:List α->Nat->(List α->Prop)->Prop
 | _,0,K=>K []
 | [],_+1,_=>False
 | a::l,k+1,K=>takeC l k fun l=>K (a::l)
def overC:List α->List α->(List α->Prop)->Prop
 | l,[],K=>K l
 | [],_::_,_=>False
 | _::l,b::bs,K=>overC l bs fun l=>K (b::l)
def splC:List α->Nat->List α->(List α->Prop)->Prop
 | l,0,bs,K=>overC l bs K
 | [],_+1,_,_=>False
 | a::l,k+1,bs,K=>splC l k bs fun l=>K (a::l)
def lenB:List α->Nat->Bool
 | [],k=>(match k with
  | 0=>true
  | _+1=>false)
 | _::l,k=>(match k with
  | 0=>false
  | k+1=>lenB l k)
def sameB:List α->List α->Bool
 | [],[]=>true
 | _::l,_::m=>sameB l m
 | _,_=>false
def aggC (row:List α) (off m:Nat) (K:List α->Prop):Prop :=
 match off with
 | 0=>(match lenB row m with
  | true=>K row
  | false=>takeC row m K)
 | off=>dropC row off fun r=>takeC r m K
def putC (l:List α) (off:Nat) (bs:List α) (K:List α->Prop):Prop :=
 match off with
 | 0=>(match sameB l bs with
  | true=>K bs
  | false=>splC l 0 bs K)
 | off=>splC l off bs K
theorem pf:∀ {l:List α} {k:Nat},lenB l k=true->l.length=k
 | [],0,_=>rfl
 | [],_+1,h=>by cases h
 | _::_,0,h=>by cases h
 | _::l,k+1,h=>by have:=pf (l:=l) (k:=k) h;simp [this]
theorem n6:∀ {l m:List α},sameB l m=true->l.length=m.length
 | [],[],_=>rfl
 | [],_::_,h=>by cases h
 | _::_,[],h=>by cases h
 | _::l,_::m,h=>by have:=n6 (l:=l) (m:=m) h;simp [this]
theorem aD:∀ {l:List α} {k:Nat} {K:α->Prop},aF l k K->∃ a,l[k]?=some a/\K a
 | [],_,_,h=>h.elim
 | a::l,0,K,h=>⟨a,rfl,h⟩
 | a::l,k+1,K,h=>by obtain ⟨b,h1,h2⟩:=aD (l:=l) (k:=k) (K:=K) h;grind
theorem fa:∀ {l:List α} {k:Nat} {b:α} {K:List α->Prop},setC l k b K->K (l.set k b)
 | [],_,_,_,h=>h.elim
 | a::l,0,b,K,h=>h
 | a::l,k+1,b,K,h=>fa (l:=l) (k:=k) (K:=fun l=>K (a::l)) h
theorem fS:∀ {l:List α} {b:α} {K:List α->Prop},pushC l b K->K (l++[b])
 | [],_,_,h=>h
 | a::l,b,K,h=>fS (l:=l) (K:=fun l=>K (a::l)) h
theorem ll:∀ {l:List α} {k:Nat} {K:Prop},lenC l k K->l.length=k/\K
 | [],0,K,h=>⟨rfl,h⟩
 | [],_+1,_,h=>h.elim
 | _::_,0,_,h=>h.elim
 | _::l,k+1,K,h=>by have:=ll (l:=l) (k:=k) (K:=K) h;grind
theorem ld:∀ {l:List α} {k:Nat} {K:List α->Prop},dropC l k K->k<=l.length/\K (l.drop k)
 | l,0,K,h=>⟨zu _,by cases l<;>exact h⟩
 | [],_+1,_,h=>h.elim
 | _::l,k+1,K,h=>by have:=ld (l:=l) (k:=k) (K:=K) h;grind
theorem lg:∀ {l:List α} {k:Nat} {K:List α->Prop},takeC l k K->k<=l.length/\K (l.take k)
 | l,0,K,h=>⟨zu _,by cases l<;>exact h⟩
 | [],_+1,_,h=>h.elim
 | a::l,k+1,K,h=>by have:=lg (l:=l) (k:=k) (K:=fun l=>K (a::l)) h;grind
theorem nW:∀ {l bs:List α} {K:List α->Prop},overC l bs K->bs.length<=l.length/\K (bs++l.drop bs.length)
 | l,[],K,h=>⟨zu _,by cases l<;>exact h⟩
 | [],_::_,_,h=>h.elim
 | _::l,b::bs,K,h=>by have:=nW (l:=l) (bs:=bs) (K:=fun l=>K (b::l)) h;grind
theorem jF:∀ {l:List α} {k:Nat} {bs:List α} {K:List α->Prop},splC l k bs K->k+bs.length<=l.length/\K (l.take k++bs++l.drop (k+bs.length))
 | l,0,bs,K,h=>by have:=nW (l:=l) (bs:=bs) (K:=K) (by cases l<;>exact h);grind
 | [],_+1,_,_,h=>h.elim
 | a::l,k+1,bs,K,h=>by have:=jF (l:=l) (k:=k) (bs:=bs) (K:=fun l=>K (a::l)) h;grind
theorem pp {row:List α} {off m:Nat} {K:List α->Prop} (h:aggC row off m K):off+m<=row.length/\K ((row.drop off).take m):=by
 have key:∀ {o:Nat},(dropC row o fun r=>takeC r m K)->o+m<=row.length/\K ((row.drop o).take m):=fun {o} h=>by obtain ⟨h1,h2⟩:=ld h;obtain ⟨h3,h4⟩:=lg h2;grind
 unfold aggC at h;split at h;all_goals (grind [pf,lg])
theorem vB {l:List α} {k:Nat} {bs:List α} {K:List α->Prop} (h:putC l k bs K):k+bs.length<=l.length/\K (l.take k++bs++l.drop (k+bs.length)):=by
 unfold putC at h;split at h
 ·split at h
  ·rename_i hb;have:=n6 hb;grind
  ·exact jF h
 ·exact jF h
end
def fA (a:AV) (K:AV->Prop):Prop :=
 match a with
 | .any=>K .any
 | .int k n=>K (.int k n)
 | .bool b=>K (.bool b)
 | .str s=>K (.str s)
 | .agg cs=>K (.agg cs)
 | .tup vs=>K (.tup vs)
 | .nils=>K .nils
 | .sl rows=>K (.sl rows)
 | .ref id=>K (.ref id)
 | .ptr id off=>K (.ptr id off)
 | .elt row off=>K (.elt row off)
 | .aptr id size i off=>K (.aptr id size i off)
 | .func f caps=>K (.func f caps)
 | .nilf=>K .nilf
 | .nilp=>K .nilp
 | .nili=>K .nili
 | .mpr id=>K (.mpr id)
 | .np id=>K (.np id)
 | .ifc t a=>K (.ifc t a)
 | .cst v=>K (.cst v)
 | .vw id size lo n cap=>K (.vw id size lo n cap)
 | .ref2 id=>K (.ref2 id)
 | .aptr2 id i=>K (.aptr2 id i)
 | .iref id i=>K (.iref id i)
 | .bnd f cs=>K (.bnd f cs)
theorem bX {a:AV} {K:AV->Prop} (h:fA a K):K a:=by cases a<;>exact h
def iC (a:AV) (K:List AV->Prop):Prop :=
 match a with
 | .any | .tup _ | .cst _=>False
 | .agg cs=>K cs
 | a=>fA a fun a=>K [a]
theorem kY {a:AV} {K:List AV->Prop} (h:iC a K):∃ cs,a.cells=some cs/\K cs:=by cases a<;>first | exact h.elim | exact ⟨_,rfl,h⟩
def evsC (n:Nat) (l:List (Nat × AV)):List Operand->(List AV->Prop)->Prop
 | [],K=>K []
 | x::xs,K=>fA (evA n l x) fun a=>evsC n l xs fun as₀=>K (a::as₀)
theorem ig:∀ {xs:List Operand} {K:List AV->Prop},evsC n l xs K->K (xs.map (evA n l))
 | [],K,h=>h
 | x::xs,K,h=>ig (xs:=xs) (K:=fun as₀=>K (evA n l x::as₀)) (bX (a:=evA n l x) (K:=fun a=>evsC n l xs fun as₀=>K (a::as₀)) h)
def ikN:IntKind->Nat
 | .i8=>0
 | .i16=>1
 | .i32=>2
 | .i64=>3
 | .u8=>4
 | .u16=>5
 | .u32=>6
 | .u64=>7
theorem pN {a b:IntKind} (h:Nat.beq (ikN a) (ikN b)=true):a=b:=by cases a<;>cases b<;>first | rfl | cases h
def wLd (i:TI) (row:List AV) (off:Nat) (K:AV->Prop):Prop :=
 match i with
 | .no=>False
 | .ag _ m _=>aggC row off m fun cs=>K (.agg cs)
 | .ar _ m=>aggC row off m fun cs=>K (.agg cs)
 | _=>aF row off fun c=>fA c K
theorem ldA {t m:Nat} {row:List AV} {off:Nat} {K:AV->Prop} (hk:bd P t=some true) (hm:P.cellsOf t=m) (h:aggC row off m fun cs=>K (.agg cs)):aE P t row off K:=by grind [pp,aE]
theorem ld1 {t:Nat} {row:List AV} {off:Nat} {K:AV->Prop} (hk:bd P t=some false) (h:aF row off fun c=>fA c K):aE P t row off K:=by obtain ⟨c,h1,h2⟩:=aD h;grind [bt,bX]
theorem lJ {t:Nat} {i:TI} {row:List AV} {off:Nat} {K:AV->Prop} (ht:TOk P t i) (h:wLd i row off K):aE P t row off K:=by
 cases i with
 | no=>exact h.elim
 | ag z m fs=>exact ldA ht.1.1 ht.1.2.1 h
 | ar z m=>exact ldA ht.1 ht.2.1 h
 | s0=>exact ld1 ht.1 h
 | _=>exact ld1 ht.1.1 h
def wBin (tt:TT) (op:BinOp) (t:Nat) (a b:AV) (K:AV->Prop):Prop :=
 match a,b with
 | .int k x,.int k' y=>(match Nat.beq (ikN k) (ikN k') with
  | true=>(match op with
   | .add=>K (.int k (k.wrap (x+y)))
   | .sub=>K (.int k (k.wrap (x - y)))
   | .mul=>K (.int k (k.wrap (x*y)))
   | .and=>K (.int k (intBits .and k x y))
   | .or=>K (.int k (intBits .or k x y))
   | .xor=>K (.int k (intBits .xor k x y))
   | .eql=>K (.bool (x==y))
   | .neq=>K (.bool (x != y))
   | .lss=>K (.bool (decide (x<y)))
   | .leq=>K (.bool (decide (x<=y)))
   | .gtr=>K (.bool (decide (x > y)))
   | .geq=>K (.bool (decide (x >= y)))
   | _=>False)
  | false=>False)
 | .str x,.str y=>(match op with
  | .eql=>K (.bool (x==y))
  | .neq=>K (.bool (!(x==y)))
  | _=>False)
 | .bool x,.bool y=>(match tt.get t with
  | .bo=>(match op with
   | .eql=>K (.bool (x==y))
   | .neq=>K (.bool (!(x==y)))
   | _=>False)
  | _=>False)
 | _,_=>False
theorem wF {op:BinOp} {t:Nat} {a b:AV} {K:AV->Prop} (ht:tt.Ok P) (h:wBin tt op t a b K):vcBin P op t a b K:=by
 unfold wBin at h;split at h
 ·split at h
  ·rename_i hk;have:=pN hk;subst this;split at h<;>first | exact ⟨trivial,h⟩ | exact ⟨rfl,h⟩ | exact h.elim
  grind
 ·split at h<;>first | exact h.elim | exact h
 ·split at h
  ·rename_i hb;have hu:=TT.get_ok ht t;rw [hb] at hu;have hu:=hu.2.2;split at h<;>first | exact h.elim | simp_all [vcBin]
  grind
 grind
def fillC (n:Nat) (l:List (Nat × AV)) (fs:List (Nat × Nat × Nat)):List AV->List (Nat × Operand)->(List AV->Prop)->Prop
 | cells,[],K=>K cells
 | cells,(i,x)::ps,K=>aF fs i fun (o,sz,_)=>iC (evA n l x) fun vs=>lenC vs sz (splC cells o vs fun cs=>fillC n l fs cs ps K)
theorem nZ {fs:List (Nat × Nat × Nat)}:∀ {ps:List (Nat × Operand)} {cells:List AV} {K:List AV->Prop},fillC n l fs cells ps K ->
  ∃ cs,cQ (fun i=>(fs.map fun q=>(q.1,q.2.1))[i]?) cells (ps.map fun p=>(p.1,evA n l p.2))=some cs/\K cs
 | [],cells,K,h=>⟨cells,rfl,by assumption⟩
 | (i,x)::ps,cells,K,h=>by
  have h:aF fs i fun q=>iC (evA n l x) fun vs=>lenC vs q.2.1 (splC cells q.1 vs fun cs=>fillC n l fs cs ps K):=by assumption
  obtain ⟨q,h1,h⟩:=aD h;obtain ⟨vs,h2,h⟩:=kY h;obtain ⟨h3,h⟩:=ll h;obtain ⟨h4,h⟩:=jF h;obtain ⟨cs,h5,h6⟩:=nZ h;refine ⟨cs,?_,h6⟩;show cQ _ cells ((i,evA n l x)::ps.map fun p=>(p.1,evA n l p.2))=_;have e1:(fs.map fun q=>(q.1,q.2.1))[i]?=some (q.1,q.2.1):=by grind
  unfold cQ;simp only [e1,h2];rw [if_pos ⟨h3,by omega⟩];exact h5
def wB (tt:TT) (n:Nat) (l:List (Nat × AV)) (b:Builtin) (args:List Operand) (ats:List TypeId) (K:AV->Prop):Prop :=
 match b,args,ats with
 | .len,[x],[t]=>(match tt.get t,evA n l x with
  | .str,.str s=>K (.int .i64 s.length)
  | .sl _ _,.nils=>K (.int .i64 0)
  | _,_=>False)
 | .min,[x,y],_=>(match evA n l x,evA n l y with
  | .int k a,.int _ b=>K (.int k (if b<a then b else a))
  | _,_=>False)
 | .max,[x,y],_=>(match evA n l x,evA n l y with
  | .int k a,.int _ b=>K (.int k (if b > a then b else a))
  | _,_=>False)
 | _,_,_=>False
theorem wB_ok {b:Builtin} {args:List Operand} {ats:List TypeId} {K:AV->Prop} (ht:tt.Ok P) (h:wB tt n l b args ats K):vcB P (mkA n l) aw b args ats K:=by
 unfold wB at h;split at h
 ·rename_i x t;have hu:=TT.get_ok ht t;split at h
  ·rename_i s h1 h2;rw [h1] at hu;simp only [vcB,ab,hu.2.2,h2];exact h
  ·rename_i e c h1 h2;rw [h1] at hu;simp only [vcB,ab,hu.2.2.u,h2];exact h
  grind
 all_goals (grind [vcB,ab])
def wV (tt:TT) (n:Nat) (l:List (Nat × AV)) (aw:List Ob) (op:Op) (K:AV->Prop):Prop :=
 match op with
 | .move x=>fA (evA n l x) K
 | .assign x=>fA (evA n l x) K
 | .pick c a b=>(match evA n l c,evA n l a,evA n l b with
  | .bool t,.bool x,.bool y=>K (.bool (if t then x else y))
  | .bool t,.int k x,.int k' y=>(match Nat.beq (ikN k) (ikN k') with
   | true=>K (.int k (if t then x else y))
   | false=>False)
  | _,_,_=>False)
 | .load t x=>(match evA n l x with
  | .ptr id off=>aF aw id fun o=>(match o with
   | .box cs=>wLd (tt.get t) cs off K
   | _=>False)
  | .elt row off=>wLd (tt.get t) row off K
  | _=>False)
 | .fieldAddr t x k=>(match tt.get t with
  | .ag _ _ fs=>aF fs k fun (o,_,_)=>(match evA n l x with
   | .ptr id off=>K (.ptr id (off+o))
   | .elt row off=>K (.elt row (off+o))
   | .aptr id s i off=>K (.aptr id s i (off+o))
   | _=>False)
  | _=>False)
 | .field t x k=>(match tt.get t,evA n l x with
  | .ag _ _ fs,.agg cs=>aF fs k fun (o,_,ft)=>wLd (tt.get ft) cs o K
  | _,_=>False)
 | .binOp op t x y _=>wBin tt op t (evA n l x) (evA n l y) K
 | .unOp op _ x=>(match op,evA n l x with
  | .not,.bool b=>K (.bool (!b))
  | .neg,.int k a=>K (.int k (k.wrap (0 - a)))
  | _,_=>False)
 | .convert s t x=>(match evA n l x with
  | .int _ a=>(match tt.get s,tt.get t with
   | .it _,.it k=>K (.int k (k.wrap a))
   | _,_=>False)
  | _=>False)
 | .makeFunc (.func f) first caps=>(match first.toList with
  | []=>evsC n l caps.toList fun cs=>K (.func f cs)
  | x::xs=>(match caps.toList with
   | []=>evsC n l (x::xs) fun cs=>K (.bnd f cs)
   | _=>False))
 | .build t parts=>(match tt.get t with
  | .ag z _ fs=>fillC n l fs z parts.toList fun cs=>K (.agg cs)
  | _=>False)
 | .extract x k=>(match evA n l x with
  | .tup vs=>aF vs k fun v=>fA v K
  | _=>False)
 | .nilCheck x=>(match evA n l x with
  | .ptr id off=>K (.ptr id off)
  | .elt row off=>K (.elt row off)
  | .aptr id s i off=>K (.aptr id s i off)
  | .func f cs=>K (.func f cs)
  | .bnd f cs=>K (.bnd f cs)
  | _=>False)
 | .call c=>(match c.callee with
  | .builtin b=>wB tt n l b c.args.toList c.argTypes.toList K
  | _=>False)
 | _=>False
theorem wV_ok {op:Op} {K:AV->Prop} (ht:tt.Ok P) (h:wV tt n l aw op K):vcQ P (mkA n l) aw op K:=by
 cases op with
 | move x=>exact wO rfl (bX h)
 | assign x=>exact uI rfl (bX h)
 | pick c a b =>
  simp only [wV] at h;split at h
  ·rename_i h1 h2 h3;exact ka h1 (by rw [h2,h3];rfl) h
  ·rename_i h1 h2 h3;split at h
   ·rename_i hk;have:=pN hk;simp_all [ka,pickV]
   grind
  grind
 | load t x =>
  simp only [wV] at h;split at h
  ·rename_i h1;obtain ⟨o,h2,h⟩:=aD h;split at h
   ·exact ne h1 h2 (lJ (TT.get_ok ht t) h)
   grind
  ·rename_i h1;exact se h1 (lJ (TT.get_ok ht t) h)
  grind
 | fieldAddr t x k =>
  simp only [wV] at h;have hu:=TT.get_ok ht t;split at h
  ·rename_i z m fs h0;rw [h0] at hu;obtain ⟨q,h1,h⟩:=aD h;have hF:=lA hu.2.2 h1;rw [Af] at hF;grind [q9,rd,q6]
  grind
 | field t x k =>
  simp only [wV] at h;have hu:=TT.get_ok ht t;split at h
  ·rename_i z m fs cs h0 h2;rw [h0] at hu;obtain ⟨q,h1,h⟩:=aD h;have hF:=lA hu.2.2 h1;rw [Af] at hF;exact wi hF h2 (lJ (TT.get_ok ht _) h)
  grind
 | binOp op t x y yt =>
  have:=wF ht h;simp_all [vcQ,ab]
 | unOp op t x =>
  simp only [wV] at h;grind [v_not,v_neg]
 | convert s t x =>
  simp only [wV] at h;split at h
  ·rename_i h1;have hu:=TT.get_ok ht t;have hs:=TT.get_ok ht s;split at h
   ·rename_i h2 h3;rw [h2] at hs;rw [h3] at hu;exact xc hs.2.2 hu.2.2 h1 h
   grind
  grind
 | makeFunc f first caps =>
  cases f with
  | func f =>
   simp only [wV] at h;split at h
   ·rename_i h1;have:first=#[]:=by grind
    subst this;exact sC rfl (ig h)
   ·rename_i x xs h1;split at h
    ·rename_i h2;have h3:first=(x::xs).toArray:=by grind
     have h4:caps=#[]:=by grind
     subst h3 h4;exact v_bnd rfl (ig h)
    grind
  | _=>exact h.elim
 | build t parts =>
  simp only [wV] at h;have hu:=TT.get_ok ht t;split at h
  ·rename_i z m fs h0;rw [h0] at hu;obtain ⟨cs,h1,h2⟩:=nZ h;exact vV hu.1.2.2.2.1 hu.2.1 h1 h2
  grind
 | extract x k =>
  simp only [wV] at h;split at h
  ·rename_i h1;obtain ⟨v,h2,h⟩:=aD h;grind [t1,bX]
  grind
 | nilCheck x =>
  simp only [wV] at h;grind [tl,tw,sd,sj,ub]
 | call c =>
  obtain ⟨cal,as₀,ts⟩:=c;cases cal with
  | builtin b=>exact wB_ok ht h
  | _=>exact h.elim
 | _=>exact h.elim
theorem wW {op:Op} {K:AV->Prop} (h:wV tt n l aw op K):isQ (mkA n l) op=true:=by
 cases op with
 | load t x =>
  simp only [wV] at h;grind [isQ,ab]
 | convert s t x =>
  simp only [wV] at h;grind [isQ,ab]
 | call c =>
  obtain ⟨cal,as₀,ts⟩:=c;cases cal with
  | builtin b =>
   simp only [wV,wB] at h;split at h<;>first | rfl | exact h.elim
  | _=>exact h.elim
 | _=>first | rfl | exact h.elim
theorem OP.wV {o:Oper} {K:AV->List Ob->Prop} (ht:tt.Ok P) (h:wV tt n l aw o.op fun r=>K r aw):OP P N o (mkA n l) aw K:=by
 refine OP.of_vc ?_;have h1:=wW h;have h2:=wV_ok ht h;obtain ⟨d,op,ty,ps,af,g⟩:=o;have key:dq P (mkA n l) aw op K:=by simp_all [dq]
 cases op with
 | call c =>
  obtain ⟨cal,as₀,ts⟩:=c;cases cal with
  | builtin b=>exact key
  | _=>exact (show False from h).elim
 | _=>exact key
def wE (tt:TT) (n:Nat) (l:List (Nat × AV)) (aw:List Ob) (c:Nat) (op:Op) (K:AV->List Ob->Nat->Prop):Prop :=
  match op with
  | .alloc e=>(match (tt.get e).zero with
    | some z=>pushC aw (.box z) fun aw=>K (.ptr c 0) aw (c+1)
    | none=>False)
  | .box _ x=>iC (evA n l x) fun cs=>pushC aw (.box cs) fun aw=>K (.ptr c 0) aw (c+1)
  | .store t x y=>(match evA n l x with
    | .ptr id off=>(match (tt.get t).size with
      | some m=>iC (evA n l y) fun vs=>lenC vs m (aF aw id fun o=>(match o with
        | .box cs=>putC cs off vs fun cs=>setC aw id (.box cs) fun aw=>K .any aw c
        | _=>False))
      | none=>False)
    | _=>False)
  | op=>wV tt n l aw op fun r=>K r aw c
theorem OP.mono {o:Oper} {fr:List AV} {K K':AV->List Ob->Prop} (h:OP P N o fr aw K) (hm:∀ r aw',K r aw'->K' r aw'):OP P N o fr aw K' :=
 ⟨fun st h1 h2 σ w F a hc Kc Q hk=>h.out st h1 h2 σ w F a hc Kc Q fun r aw' σ' w' F' v hK=>hk r aw' σ' w' F' v (hm r aw' hK)⟩
theorem wE_ok {o:Oper} {c:Nat} {K:AV->List Ob->Nat->Prop} (ht:tt.Ok P) (hc:aw.length=c) (h:wE tt n l aw c o.op K):OP P N o (mkA n l) aw fun r aw'=>K r aw' aw'.length:=by
 obtain ⟨d,op,ty,ps,af,g⟩:=o;subst hc;have q:wV tt n l aw op (fun r=>K r aw aw.length)->OP P N ⟨d,op,ty,ps,af,g⟩ (mkA n l) aw fun r aw'=>K r aw' aw'.length:=fun h=>OP.wV ht h
 cases op with
 | alloc e =>
  simp only [wE] at h;split at h
  ·rename_i z hz;have:=fS h;exact wl (TI.zero_ok (TT.get_ok ht e) hz) rfl rfl (by grind)
  grind
 | box e x =>
  obtain ⟨cs,h1,h2⟩:=kY h;have:=fS h2;simp_all [o_box]
 | store t x y =>
  simp only [wE] at h;split at h
  ·rename_i h1;split at h
   ·rename_i m hm;obtain ⟨vs,h2,h⟩:=kY h;obtain ⟨h3,h⟩:=ll h;obtain ⟨o,h4,h⟩:=aD h;split at h
    ·obtain ⟨h5,h⟩:=vB h;have h:=fa h;have hs:=TI.size_ok (TT.get_ok ht t) hm;exact rJ hs.1 hs.2 h1 h2 h3 h4 (Nat.ble_eq_true_of_le (by omega)) rfl rfl (by grind [splice])
    grind
   grind
  grind
 | _=>exact q h
def wR (tt:TT) (n:Nat):Nat->List Oper->List (Nat × AV)->List Ob->Nat->(List Oper->List (Nat × AV)->List Ob->Prop)->Prop
 | 0,os,l,aw,_,K=>K os l aw
 | _+1,[],_,_,_,_=>False
 | m+1,o::os,l,aw,c,K=>(match o.guard with
  | none=>wE tt n l aw c o.op fun r aw c=>(match o.dst with
   | some t=>wR tt n m os ((t,r)::l) aw c K
   | none=>wR tt n m os l aw c K)
  | some _=>False)
theorem RS.go (ht:tt.Ok P) {ops:Array Oper} {K:List AV->List Ob->Prop}:∀ {m:Nat} {os:List Oper} {l:List (Nat × AV)} {aw:List Ob} {c:Nat},aw.length=c->wR tt n m os l aw c (fun os l aw=>RS P N ops os K (mkA n l) aw)->RS P N ops os K (mkA n l) aw
 | 0,os,l,aw,c,hc,h=>by assumption
 | _+1,[],_,_,_,_,h=>h.elim
 | m+1,o::os,l,aw,c,hc,h=>by
  simp only [wR] at h;split at h
  ·rename_i hg;refine RS.op hg ((wE_ok ht hc h).mono fun r aw' h=>?_);split at h
   ·rename_i t hd;rw [hd];exact RS.go ht rfl h
   ·rename_i hd;rw [hd];exact RS.go ht rfl h
  ·exact h.elim
def okQ (ops:Array Oper):Array Bool->List Nat->Bool
 | _,[]=>true
 | li,i::is=>Region.free .any ops li i && (Region.ready .any ops li).contains i && (match ops.toList[i]? with
  | some o=>eo o.op && o.guard.isNone
  | none=>false) && okQ ops (li.setIfInBounds i true) is
def lisQ:Array Bool->List Nat->Array Bool
 | li,[]=>li
 | li,i::is=>lisQ (li.setIfInBounds i true) is
def wQ (tt:TT) (n:Nat) (ops:List Oper):List Nat->List (Nat × AV)->List Ob->(List (Nat × AV)->Prop)->Prop
 | [],l,aw,K=>K l
 | i::is,l,aw,K=>aF ops i fun o=>wV tt n l aw o.op fun r=>(match o.dst with
  | some t=>wQ tt n ops is ((t,r)::l) aw K
  | none=>wQ tt n ops is l aw K)
theorem RA.qs (ht:tt.Ok P) {ops:Array Oper} {K:List AV->List Ob->Prop} (hs:Region.noSelect ops=true) {k':Nat}:∀ {is:List Nat} {k:Nat} {li:Array Bool} {l:List (Nat × AV)},k=k' + is.length->okQ ops li is=true ->
  wQ tt n ops.toList is l aw (fun l=>RA P N ops k' (lisQ li is) K (mkA n l) aw)->RA P N ops k li K (mkA n l) aw
 | [],k,li,l,hk,_,h=>by have:k=k':=hk;subst this;exact h
 | i::is,k,li,l,hk,ho,h=>by
  obtain ⟨o,h1,h⟩:=aD h;have h1':ops[i]?=some o:=by grind
  unfold okQ at ho;rw [h1] at ho;simp only [Aa] at ho;obtain ⟨⟨⟨ho1,ho2⟩,ho3,ho4⟩,ho5⟩:=ho;have hg:o.guard=none:=by simp_all
  have hk:k=(k' + is.length)+1:=by omega
  subst hk;refine ⟨fun st e1 e2 σ w F a hc R hR=>?_⟩;obtain ⟨v,r,hrun,hrel,hk⟩:=hH hc ho3 (wV_ok ht h);refine wpAny_take h1' hs ho1 ho2 (fun c a w hp=>hp) (.inl ⟨by grind [Region.wanted],hrun⟩) ?_;have hput:=be hc hrel o.dst;rw [br] at hput;refine RA.out ?_ st e1 e2 σ w F _ hput R hR;split at hk
  ·rename_i t hd;rw [hd];exact RA.qs ht hs rfl ho5 hk
  ·rename_i hd;rw [hd];exact RA.qs ht hs rfl ho5 hk
theorem RO.g (ht:tt.Ok P) {ops:Array Oper} {i c:Nat} {K:List AV->List Ob->Prop} (hc:aw.length=c)
  (h:aF ops.toList i fun o=>o.guard=none/\wE tt n l aw c o.op fun r aw c=>(match o.dst with
   | some t=>K (mkA n ((t,r)::l)) aw
   | none=>K (mkA n l) aw)):RO P N ops i K (mkA n l) aw:=by
 obtain ⟨o,h1,hg,h⟩:=aD h
 refine RO.op (by grind) hg ((wE_ok ht hc h).mono fun r aw' h=>?_)
 split at h
 ·rename_i t hd
  rw [hd];exact h
 ·rename_i hd
  rw [hd];exact h
end
end
section
open Go.RowKit
instance (a:Item):PureCs (cb a):=⟨d6 a⟩
instance (a:Node):PureCs (an a):=⟨jt a⟩
instance (a:Net):PureCs (aJ a):=⟨oA a⟩
instance (a:Keyed):PureCs (ed a):=⟨kN a⟩
instance (a:Memory):PureCs (d8 a):=⟨jf a⟩
instance (a:Choice):PureCs (dy a):=⟨je a⟩
instance (a:State):PureCs (fR a):=⟨nb a⟩
instance (a:Move):PureCs (fc a):=⟨ny a⟩
instance (a:Write):PureCs (dz a):=⟨jk a⟩
instance (a:Disk):PureCs (fU a):=⟨nC a⟩
instance (a:Shop):PureCs (fV a):=⟨nA a⟩
instance (a:Happening):PureCs (ah a):=⟨mM a⟩
instance (a:Ends):PureCs (aj a):=⟨nJ a⟩
instance {f:FuncId} {cs:List AV} [h:PureCs cs]:PureC (.func f cs):=⟨sZ _ _ h.out⟩
instance {α:Type} {en:α->List AV} {a:α} {off:Nat} [h:EnP en]:PureC (.elt (en a) off):=⟨n7 _ _ (h.out a)⟩
class EnF {α:Type} (en:α->List AV):Prop where
 out:∀ a,(en a).all flat0=true
instance:EnF ak:=⟨fun _=>rfl⟩
instance:EnF aH:=⟨fun _=>rfl⟩
instance:EnF encU:=⟨fun _=>rfl⟩
instance:EnF bc:=⟨fun _=>rfl⟩
instance:EnF aa:=⟨fun _=>rfl⟩
instance:EnF cb:=⟨fun _=>rfl⟩
instance:EnF ed:=⟨fun _=>rfl⟩
instance:EnF dy:=⟨fun _=>rfl⟩
instance:EnF fc:=⟨fun _=>rfl⟩
instance:EnF dz:=⟨fun _=>rfl⟩
instance:EnF ah:=⟨fun _=>rfl⟩
instance:EnF aj:=⟨fun _=>rfl⟩
class FlatObs (os:List Ob):Prop where
 out:os.all bL=true
instance:FlatObs []:=⟨rfl⟩
instance {α:Type} {en:α->List AV} {xs:List α} {e s:Nat} {os:List Ob} [h:EnF en] [t:FlatObs os]:FlatObs (.arr e s (xs.map en)::os):=⟨ui (r8 h.out) t.out⟩
class OwnVs (vs:List AV):Prop where
 out:∀ x,x∈vs->Pure x∨∃ k,x=.ref k
instance:OwnVs []:=⟨fun x h=>by cases h⟩
instance {k:Nat} {vs:List AV} [t:OwnVs vs]:OwnVs (.ref k::vs):=⟨fun x h=>by
 cases h with
 | head=>simp
 | tail _ h=>exact t.out x h⟩
instance (priority:=low) {v:AV} {vs:List AV} [h:PureC v] [t:OwnVs vs]:OwnVs (v::vs):=⟨fun x hx=>by
 cases hx with
 | head=>exact .inl h.out
 | tail _ hx=>exact t.out x hx⟩
theorem jA:∀ {es:List AV},(∀ a,a∈es->Pure a)->Pures es
 | [],_=>trivial
 | a::es,h=>⟨h a (.head _),jA fun b hb=>h b (.tail _ hb)⟩
section
variable {P:Program} {N n:Nat} {aw aw':List Ob} {l:List (Nat × AV)} {tt:TT}
def appC {α:Type}:List α->List α->(List α->Prop)->Prop
 | [],bs,K=>K bs
 | a::l,bs,K=>appC l bs fun l=>K (a::l)
theorem jN {α:Type}:∀ {l bs:List α} {K:List α->Prop},appC l bs K->K (l++bs)
 | [],_,_,h=>h
 | a::l,bs,K,h=>jN (l:=l) (K:=fun l=>K (a::l)) h
def nrm0C (aw:List Ob) (a:AV) (K:AV->List Ob->Prop):Prop :=
 match a with
 | .nils=>K (.sl []) aw
 | .ref id=>aF aw id fun o=>(match o with
  | .arr _ _ rows=>setC aw id .dead fun aw=>K (.sl rows) aw
  | _=>False)
 | a=>fA a fun a=>K a aw
theorem nX {a:AV} {K:AV->List Ob->Prop} (h:nrm0C aw a K):K (ba aw a).1 (ba aw a).2:=by
 cases a with
 | nils=>exact h
 | ref id =>
  obtain ⟨o,h1,h⟩:=aD h;grind [fa,ba]
 | _=>exact h
def nrm0LC:List AV->List Ob->(List AV->List Ob->Prop)->Prop
 | [],aw,K=>K [] aw
 | a::es,aw,K=>nrm0C aw a fun a aw=>nrm0LC es aw fun es aw=>K (a::es) aw
theorem nz:∀ {es:List AV} {aw:List Ob} {K:List AV->List Ob->Prop},nrm0LC es aw K->K (norm0L aw es).1 (norm0L aw es).2
 | [],aw,K,h=>h
 | a::es,aw,K,h=>nz (es:=es) (K:=fun es aw=>K (_::es) aw) (nX h)
def nrmC (aw:List Ob) (a:AV) (K:AV->List Ob->Prop):Prop :=
 match a with
 | .agg cs=>nrm0LC cs aw fun cs aw=>K (.agg cs) aw
 | a=>nrm0C aw a K
theorem lp {a:AV} {K:AV->List Ob->Prop} (h:nrmC aw a K):K (norm aw a).1 (norm aw a).2:=by
 cases a with
 | agg cs=>exact nz (K:=fun cs aw=>K (.agg cs) aw) h
 | _=>exact nX h
def nrmLC:List AV->List Ob->(List AV->List Ob->Prop)->Prop
 | [],aw,K=>K [] aw
 | a::es,aw,K=>nrmC aw a fun a aw=>nrmLC es aw fun es aw=>K (a::es) aw
theorem oF:∀ {es:List AV} {aw:List Ob} {K:List AV->List Ob->Prop},nrmLC es aw K->K (aZ aw es).1 (aZ aw es).2
 | [],aw,K,h=>h
 | a::es,aw,K,h=>oF (es:=es) (K:=fun es aw=>K (_::es) aw) (lp h)
def nrmRC (aw:List Ob) (a:AV) (K:AV->List Ob->Prop):Prop :=
 match a with
 | .tup vs=>nrmLC vs aw fun vs aw=>K (.tup vs) aw
 | a=>nrmC aw a K
theorem oG {a:AV} {K:AV->List Ob->Prop} (h:nrmRC aw a K):K (cv aw a).1 (cv aw a).2:=by
 cases a with
 | tup vs=>exact oF (K:=fun vs aw=>K (.tup vs) aw) h
 | _=>exact lp h
def argC (n:Nat) (l:List (Nat × AV)):List Operand->List Ob->(List AV->List Ob->Prop)->Prop
 | [],aw,K=>K [] aw
 | x::xs,aw,K=>nrmC aw (evA n l x) fun a aw=>argC n l xs aw fun es aw=>K (a::es) aw
theorem oR:∀ {xs:List Operand} {aw:List Ob} {K:List AV->List Ob->Prop},argC n l xs aw K->K (aZ aw (xs.map (evA n l))).1 (aZ aw (xs.map (evA n l))).2
 | [],aw,K,h=>h
 | x::xs,aw,K,h=>oR (xs:=xs) (K:=fun es aw=>K (_::es) aw) (lp h)
def calC (n:Nat) (l:List (Nat × AV)) (aw:List Ob) (f:Operand) (args:List Operand) (g:Nat) (es:List AV) (K:List Ob->Prop):Prop :=
 match evA n l f with
 | .func g' caps=>(match Nat.beq g' g with
  | true=>argC n l args aw fun es' aw'=>es'++caps=es/\K aw'
  | false=>False)
 | _=>False
section
variable {d:Option Tmp} {ty:TypeId} {ps:String} {af:Array Edge} {gd:Option (Nat × Bool)} {K2:AV→List Ob→Prop} {f:Operand} {args:Array Operand} {ts:Array TypeId} {g:FuncId} {es:List AV} {v:AV} {obs:List Ob}
theorem la {K:List Ob->Prop} (h:calC n l aw f args.toList g es K) (hk:∀ aw1,K aw1->CallK P g es aw aw1 K2):OP P N ⟨d,.call ⟨.value f,args,ts⟩,ty,ps,af,gd⟩ (mkA n l) aw K2:=by
 unfold calC at h;split at h
 ·rename_i g' caps hf;split at h
  ·rename_i hb;have:=zw hb;subst this;obtain ⟨h1,h2⟩:=oR h;grind [wT]
  grind
 grind
theorem cD (hc:Fn P g es v) (h:calC n l aw f args.toList g es fun aw1=>K2 v aw1) [hp:PureCs es] [hv:PureC v]:OP P N ⟨d,.call ⟨.value f,args,ts⟩,ty,ps,af,gd⟩ (mkA n l) aw K2 :=
 la h fun aw1 hK=>k_fn hc (jA hp.out) hv.out hK
theorem cF (hc:Fn P g es v) (h:calC n l aw f args.toList g es fun _=>K2 v aw) [hp:PureCs es] (hv:flat v=true:=by rfl):OP P N ⟨d,.call ⟨.value f,args,ts⟩,ty,ps,af,gd⟩ (mkA n l) aw K2 :=
 la h fun aw1 hK=>xf hc (jA hp.out) hv hK
theorem cO (c:Nat) (hc:FnO P g es v obs) (h:calC n l aw f args.toList g es fun _=>fA (v.shift c) fun v=>appC aw obs fun aw=>K2 v aw) [hp:PureCs es] [ho:FlatObs obs] (hv:flatR v=true:=by rfl) (hl:aw.length=c:=by rfl) :
  OP P N ⟨d,.call ⟨.value f,args,ts⟩,ty,ps,af,gd⟩ (mkA n l) aw K2 :=
 la h fun aw1 hK=>by subst hl;exact k_own hc (jA hp.out) hv ho.out (jN (bX (K:=fun v=>appC aw obs fun aw=>K2 v aw) hK))
end
theorem ld_ex {t:Nat} {i:TI} {row:List AV} {off:Nat} {K:AV->Prop} (ht:TOk P t i) (h:wLd i row off K):∃ v,K v/\∀ K':AV->Prop,K' v->aE P t row off K':=by
 have kA:∀ {m:Nat},bd P t=some true->P.cellsOf t=m->(aggC row off m fun cs=>K (.agg cs))->∃ v,K v/\∀ K':AV->Prop,K' v->aE P t row off K':=fun {m} hk hm h=>by obtain ⟨h1,h2⟩:=pp h;grind [aE]
 have k1:bd P t=some false->(aF row off fun c=>fA c K)->∃ v,K v/\∀ K':AV->Prop,K' v->aE P t row off K':=fun hk h=>by grind [aD,bX,bt]
 cases i with
 | no=>exact h.elim
 | ag z m fs=>exact kA ht.1.1 ht.1.2.1 h
 | ar z m=>exact kA ht.1 ht.2.1 h
 | s0=>exact k1 ht.1 h
 | _=>exact k1 ht.1.1 h
def resC (tt:TT) (n:Nat) (l:List (Nat × AV)) (aw:List Ob):List ResultVar->(List AV->Prop)->Prop
 | [],K=>K []
 | .tmp t::rs,K=>fA (evA n l (.tmp t)) fun v=>resC tt n l aw rs fun vs=>K (v::vs)
 | .cell a t::rs,K=>(match evA n l (.tmp a) with
  | .ptr id off=>aF aw id fun o=>(match o with
   | .box cs=>wLd (tt.get t) cs off fun v=>resC tt n l aw rs fun vs=>K (v::vs)
   | _=>False)
  | _=>False)
theorem iq (ht:tt.Ok P):∀ {rs:List ResultVar} {K K':List AV->Prop},(∀ vs,K vs->K' vs)->resC tt n l aw rs K->aB P (mkA n l) aw rs K'
 | [],K,K',hm,h=>uQ (hm _ h)
 | .tmp t::rs,K,K',hm,h=>ur rfl (iq ht (K:=fun vs=>K (_::vs)) (fun vs hv=>hm _ hv) (bX h))
 | .cell a t::rs,K,K',hm,h=>by
  unfold resC at h;split at h
  ·rename_i h1;obtain ⟨o,h2,h⟩:=aD h;split at h
   ·obtain ⟨v,h3,h4⟩:=ld_ex (TT.get_ok ht t) h;exact to h1 h2 h4 (iq ht (K:=fun vs=>K (v::vs)) (fun vs hv=>hm _ hv) h3)
   grind
  grind
theorem rD_c (ht:tt.Ok P) {rs:List ResultVar} {V:AV} (h:resC tt n l aw rs fun vs=>nrmRC aw (aX vs) fun v _=>v=V) [hV:PureC V]:aB P (mkA n l) aw rs (Ret 0 (fun r aw'=>r=V/\aw'=[]) aw):=by refine iq ht (fun vs hv=>?_) h;have h1:=oG hv;exact uw (v:=V) (aw1:=(cv aw (aX vs)).2) (by rw [<- h1]) hV.out ⟨rfl,rfl⟩
theorem T.rD (ht:tt.Ok P) {Q:Exit->List AV->List Ob->Prop} {rs:List ResultVar} {V:AV} (h:resC tt n l aw rs fun vs=>nrmRC aw (aX vs) fun v _=>v=V)
  [hq:RetI Q (fun fr aw=>aB P fr aw rs (Ret 0 (fun r aw'=>r=V/\aw'=[]) aw))] [hV:PureC V]:T P N .ret Q (mkA n l) aw :=
 T.rt (R:=fun fr aw=>aB P fr aw rs (Ret 0 (fun r aw'=>r=V/\aw'=[]) aw)) (rD_c ht h)
def gA:Nat->AV->Prop
 | k,a=>match a with
  | .sl rows=>Pure (.sl rows)
  | .elt row off=>Pure (.elt row off)
  | .cst _ | .vw _ _ _ _ _ | .ref2 _ | .aptr2 _ _ | .ifc _ _=>False
  | .agg cs=>(match k with
   | 0=>False
   | k+1=>∀ c,c∈cs->gA k c)
  | .tup cs=>(match k with
   | 0=>False
   | k+1=>∀ c,c∈cs->gA k c)
  | .func _ cs=>(match k with
   | 0=>False
   | k+1=>∀ c,c∈cs->gA k c)
  | .bnd _ cs=>(match k with
   | 0=>False
   | k+1=>∀ c,c∈cs->gA k c)
  | _=>True
class GoodA (k:Nat) (a:AV):Prop where
 out:gA k a
class GoodAs (k:Nat) (es:List AV):Prop where
 out:∀ a,a∈es->gA k a
section
variable {k:Nat}
instance:GoodA k .any:=⟨by unfold gA;trivial⟩
instance {q:IntKind} {x:Int}:GoodA k (.int q x):=⟨by unfold gA;trivial⟩
instance {b:Bool}:GoodA k (.bool b):=⟨by unfold gA;trivial⟩
instance {s:List UInt8}:GoodA k (.str s):=⟨by unfold gA;trivial⟩
instance:GoodA k .nils:=⟨by unfold gA;trivial⟩
instance:GoodA k .nilf:=⟨by unfold gA;trivial⟩
instance:GoodA k .nilp:=⟨by unfold gA;trivial⟩
instance:GoodA k .nili:=⟨by unfold gA;trivial⟩
instance {i:Nat}:GoodA k (.ref i):=⟨by unfold gA;trivial⟩
instance {i o:Nat}:GoodA k (.ptr i o):=⟨by unfold gA;trivial⟩
instance {i s j o:Nat}:GoodA k (.aptr i s j o):=⟨by unfold gA;trivial⟩
instance {i:Nat}:GoodA k (.mpr i):=⟨by unfold gA;trivial⟩
instance {i:Nat}:GoodA k (.np i):=⟨by unfold gA;trivial⟩
instance {i j:Nat}:GoodA k (.iref i j):=⟨by unfold gA;trivial⟩
instance {α:Type} {en:α->List AV} {xs:List α} [h:EnP en]:GoodA k (.sl (xs.map en)):=⟨by unfold gA;exact aQ h.out _⟩
instance {α:Type} {en:α->List AV} {a:α} {off:Nat} [h:EnP en]:GoodA k (.elt (en a) off):=⟨by unfold gA;exact n7 _ _ (h.out a)⟩
instance:GoodAs k []:=⟨fun a h=>by cases h⟩
instance {a:AV} {es:List AV} [h:GoodA k a] [t:GoodAs k es]:GoodAs k (a::es):=⟨fun b hb=>by
 cases hb with
 | head=>exact h.out
 | tail _ hb=>exact t.out b hb⟩
instance {es:List AV} [h:GoodAs k es]:GoodA (k+1) (.agg es):=⟨by unfold gA;exact h.out⟩
instance {es:List AV} [h:GoodAs k es]:GoodA (k+1) (.tup es):=⟨by unfold gA;exact h.out⟩
instance {f:FuncId} {es:List AV} [h:GoodAs k es]:GoodA (k+1) (.func f es):=⟨by unfold gA;exact h.out⟩
instance {f:FuncId} {es:List AV} [h:GoodAs k es]:GoodA (k+1) (.bnd f es):=⟨by unfold gA;exact h.out⟩
instance (a:Item):GoodAs k (cb a):=by unfold cb;infer_instance
instance (a:Node):GoodAs k (an a):=by unfold an;infer_instance
instance (a:Net):GoodAs k (aJ a):=by unfold aJ;infer_instance
instance (a:Keyed):GoodAs k (ed a):=by unfold ed;infer_instance
instance (a:Memory):GoodAs k (d8 a):=by unfold d8;infer_instance
instance (a:Choice):GoodAs k (dy a):=by unfold dy;infer_instance
instance (a:State):GoodAs k (fR a):=by unfold fR;infer_instance
instance (a:Move):GoodAs k (fc a):=by unfold fc;infer_instance
instance (a:Write):GoodAs k (dz a):=by unfold dz;infer_instance
instance (a:Disk):GoodAs k (fU a):=by unfold fU;infer_instance
instance (a:Shop):GoodAs k (fV a):=by unfold fV;infer_instance
instance (a:Happening):GoodAs k (ah a):=by unfold ah;infer_instance
instance (a:Ends):GoodAs k (aj a):=by unfold aj;infer_instance
end
theorem oC {ρ:List Nat} {k id i:Nat} (h:ρ[k]?=some id):Ren ρ (.iref k i) (.iref id i):=fun σ w F v hr σ' hσ=>by
 cases hr with
 | iref _ _ a n c vs hg h0=>exact .iref k i a n c vs (by grind) h0
theorem ji:Pure .nilp:=fun σ w F v hr σ'=>by cases hr;exact .nilp
theorem jl:Pure .nili:=fun σ w F v hr σ'=>by cases hr;exact .nili
def mpC (f:AV->AV->(AV->Prop)->Prop):List AV->List AV->(List AV->Prop)->Prop
 | [],_,K=>K []
 | a'::es',es,K=>(match es with
  | []=>False
  | a::es=>f a' a fun b=>mpC f es' es fun bs=>K (b::bs))
def mpA (ρ:List Nat):Nat->AV->AV->(AV->Prop)->Prop
 | k,a',a,K=>match a' with
  | .any=>K a
  | .ref i=>aF ρ i fun i=>K (.ref i)
  | .ptr i o=>aF ρ i fun i=>K (.ptr i o)
  | .aptr i s j o=>aF ρ i fun i=>K (.aptr i s j o)
  | .mpr i=>aF ρ i fun i=>K (.mpr i)
  | .np i=>aF ρ i fun i=>K (.np i)
  | .iref i j=>aF ρ i fun i=>K (.iref i j)
  | .agg cs=>(match k with
   | 0=>False
   | k+1=>(match a with
    | .agg ds=>mpC (mpA ρ k) cs ds fun cs=>K (.agg cs)
    | _=>False))
  | .tup cs=>(match k with
   | 0=>False
   | k+1=>(match a with
    | .tup ds=>mpC (mpA ρ k) cs ds fun cs=>K (.tup cs)
    | _=>False))
  | .func f cs=>(match k with
   | 0=>False
   | k+1=>(match a with
    | .func _ ds=>mpC (mpA ρ k) cs ds fun cs=>K (.func f cs)
    | _=>False))
  | .bnd f cs=>(match k with
   | 0=>False
   | k+1=>(match a with
    | .bnd _ ds=>mpC (mpA ρ k) cs ds fun cs=>K (.bnd f cs)
    | _=>False))
  | a'=>fA a' K
theorem dE {ρ:List Nat} {k:Nat} (ih:∀ {a' a:AV} {K:AV->Prop},mpA ρ k a' a K->∃ b,K b/\(gA k a'->b=a->Ren ρ a' a)):∀ {es' es:List AV} {K:List AV->Prop},mpC (mpA ρ k) es' es K ->
  ∃ bs,K bs/\((∀ a,a∈es'->gA k a)->bs=es->aY ρ es' es)
 | [],es,K,h=>⟨[],h,fun _ e=>by subst e;trivial⟩
 | a'::es',[],K,h=>h.elim
 | a'::es',a::es,K,h=>by
  obtain ⟨b,h1,h2⟩:=ih h;obtain ⟨bs,h3,h4⟩:=dE ih h1;refine ⟨b::bs,h3,fun hg e=>?_⟩;injection e with e1 e2
  exact ⟨h2 (hg _ (.head _)) e1,h4 (fun x hx=>hg x (.tail _ hx)) e2⟩
theorem fj {ρ:List Nat}:∀ {k:Nat} {a' a:AV} {K:AV->Prop},mpA ρ k a' a K->∃ b,K b/\(gA k a'->b=a->Ren ρ a' a):=by
 intro k;induction k with
 | zero =>
  intro a' a K h;cases a' with
  | any=>exact ⟨a,h,fun _ _=>pY⟩
  | ref i=>obtain ⟨j,h1,h2⟩:=aD h;grind [dh]
  | ptr i o=>obtain ⟨j,h1,h2⟩:=aD h;grind [cu]
  | aptr i s j o=>obtain ⟨j,h1,h2⟩:=aD h;grind [pz]
  | mpr i=>obtain ⟨j,h1,h2⟩:=aD h;grind [qf]
  | np i=>obtain ⟨j,h1,h2⟩:=aD h;grind [rn_np]
  | iref i j=>obtain ⟨j,h1,h2⟩:=aD h;grind [oC]
  | agg cs=>exact h.elim
  | tup cs=>exact h.elim
  | func f cs=>exact h.elim
  | bnd f cs=>exact h.elim
  | int q x=>exact ⟨_,h,fun _ e=>by grind [bx,ao]⟩
  | bool b=>exact ⟨_,h,fun _ e=>by grind [bx,dw]⟩
  | str s=>exact ⟨_,h,fun _ e=>by grind [bx,ej]⟩
  | nils=>exact ⟨_,h,fun _ e=>by grind [bx,g7]⟩
  | nilf=>exact ⟨_,h,fun _ e=>by grind [bx,g6]⟩
  | nilp=>exact ⟨_,h,fun _ e=>by grind [bx,ji]⟩
  | nili=>exact ⟨_,h,fun _ e=>by grind [bx,jl]⟩
  | sl rows=>exact ⟨_,h,fun g e=>by grind [bx,gA]⟩
  | elt row off=>exact ⟨_,h,fun g e=>by grind [bx,gA]⟩
  | cst v=>exact ⟨_,h,fun g e=>by grind [gA]⟩
  | vw a1 a2 a3 a4 a5=>exact ⟨_,h,fun g e=>by grind [gA]⟩
  | ref2 i=>exact ⟨_,h,fun g e=>by grind [gA]⟩
  | aptr2 i j=>exact ⟨_,h,fun g e=>by grind [gA]⟩
  | ifc t a1=>exact ⟨_,h,fun g e=>by grind [gA]⟩
 | succ k ih =>
  intro a' a K h;cases a' with
  | any=>exact ⟨a,h,fun _ _=>pY⟩
  | ref i=>obtain ⟨j,h1,h2⟩:=aD h;grind [dh]
  | ptr i o=>obtain ⟨j,h1,h2⟩:=aD h;grind [cu]
  | aptr i s j o=>obtain ⟨j,h1,h2⟩:=aD h;grind [pz]
  | mpr i=>obtain ⟨j,h1,h2⟩:=aD h;grind [qf]
  | np i=>obtain ⟨j,h1,h2⟩:=aD h;grind [rn_np]
  | iref i j=>obtain ⟨j,h1,h2⟩:=aD h;grind [oC]
  | agg cs =>
   cases a with
   | agg ds =>
    obtain ⟨bs,h1,h2⟩:=dE (ρ:=ρ) ih h;grind [xo,gA]
   | _=>exact h.elim
  | tup cs =>
   cases a with
   | tup ds =>
    obtain ⟨bs,h1,h2⟩:=dE (ρ:=ρ) ih h;grind [wL,gA]
   | _=>exact h.elim
  | func f cs =>
   cases a with
   | func f' ds =>
    obtain ⟨bs,h1,h2⟩:=dE (ρ:=ρ) ih h;grind [vu,gA]
   | _=>exact h.elim
  | bnd f cs =>
   cases a with
   | bnd f' ds =>
    obtain ⟨bs,h1,h2⟩:=dE (ρ:=ρ) ih h;grind [wY,gA]
   | _=>exact h.elim
  | int q x=>exact ⟨_,h,fun _ e=>by grind [bx,ao]⟩
  | bool b=>exact ⟨_,h,fun _ e=>by grind [bx,dw]⟩
  | str s=>exact ⟨_,h,fun _ e=>by grind [bx,ej]⟩
  | nils=>exact ⟨_,h,fun _ e=>by grind [bx,g7]⟩
  | nilf=>exact ⟨_,h,fun _ e=>by grind [bx,g6]⟩
  | nilp=>exact ⟨_,h,fun _ e=>by grind [bx,ji]⟩
  | nili=>exact ⟨_,h,fun _ e=>by grind [bx,jl]⟩
  | sl rows=>exact ⟨_,h,fun g e=>by grind [bx,gA]⟩
  | elt row off=>exact ⟨_,h,fun g e=>by grind [bx,gA]⟩
  | cst v=>exact ⟨_,h,fun g e=>by grind [gA]⟩
  | vw a1 a2 a3 a4 a5=>exact ⟨_,h,fun g e=>by grind [gA]⟩
  | ref2 i=>exact ⟨_,h,fun g e=>by grind [gA]⟩
  | aptr2 i j=>exact ⟨_,h,fun g e=>by grind [gA]⟩
  | ifc t a1=>exact ⟨_,h,fun g e=>by grind [gA]⟩
def gO:Ob->Prop
 | .dead=>True
 | .box cs=>∀ c,c∈cs->gA 3 c
 | .arr _ _ rows=>∀ row,row∈rows->∀ x,x∈row->Pure x
 | .mp ks vs=>∀ c,c∈ks++vs->Pure c
 | .hd _ _=>True
 | .cl _ _ cells=>∀ rows,(Cell.own rows∈cells∨Cell.fz rows∈cells)->∀ row,row∈rows->∀ x,x∈row->Pure x
 | .boxB _ cs=>∀ c,c∈cs->gA 3 c
 | _=>False
class PureK {α:Type} (k:α->AV):Prop where
 out:∀ a,Pure (k a)
instance:PureK kI:=⟨fun _=>ao _ _⟩
instance:PureK kS:=⟨fun _=>ej _⟩
instance:PureK kB:=⟨fun _=>dw _⟩
instance:PureK kU:=⟨fun _=>nV _ (aV (ls:=[]) trivial)⟩
class GoodO (o:Ob):Prop where
 out:gO o
class GoodOs (os:List Ob):Prop where
 out:∀ o,o∈os->gO o
instance:GoodO .dead:=⟨trivial⟩
instance {cs:List AV} [h:GoodAs 3 cs]:GoodO (.box cs):=⟨h.out⟩
instance {α:Type} {en:α->List AV} {xs:List α} {e s:Nat} [h:EnP en]:GoodO (.arr e s (xs.map en)):=⟨fun row hr x hx=>by obtain ⟨a,_,rfl⟩:=zt.1 hr;exact h.out a x hx⟩
instance {e s:Nat}:GoodO (.arr e s []):=⟨fun row hr=>by cases hr⟩
instance {e k:Nat}:GoodO (.hd e k):=⟨trivial⟩
instance {t:TypeId} {cs:List AV} [h:GoodAs 3 cs]:GoodO (.boxB t cs):=⟨h.out⟩
instance {α β:Type} {k:α->AV} {k':β->AV} {xs:List α} {ys:List β} [h:PureK k] [h':PureK k']:GoodO (.mp (xs.map k) (ys.map k')):=⟨fun c hc=>by
 rcases zn.1 hc with hc | hc<;>obtain ⟨a,_,rfl⟩:=zt.1 hc
 ·exact h.out a
 ·exact h'.out a⟩
instance:GoodOs []:=⟨fun o h=>by cases h⟩
instance {o:Ob} {os:List Ob} [h:GoodO o] [t:GoodOs os]:GoodOs (o::os):=⟨fun b hb=>by
 cases hb with
 | head=>exact h.out
 | tail _ hb=>exact t.out b hb⟩
instance {zs bs:List Ob} [h:GoodOs zs] [t:GoodOs bs]:GoodOs (zs++bs):=⟨fun o ho=>(zn.1 ho).elim (h.out o) (t.out o)⟩
instance {zs:List Ob} {i:Nat} {o:Ob} [h:GoodOs zs] [t:GoodO o]:GoodOs (zs.set i o):=⟨fun b hb=>(List.mem_or_eq_of_mem_set hb).elim (h.out b) (fun e=>by rw [e];exact t.out)⟩
def mpO (ρ:List Nat) (o' o:Ob) (K:Ob->Prop):Prop :=
 match o' with
 | .dead=>K o
 | .box cs=>(match o with
  | .box ds=>mpC (mpA ρ 3) cs ds fun cs=>K (.box cs)
  | _=>False)
 | .hd e k=>aF ρ k fun k=>K (.hd e k)
 | .arr e s rows=>K (.arr e s rows)
 | .mp ks vs=>K (.mp ks vs)
 | .cl e s cells=>K (.cl e s cells)
 | .boxB t cs=>(match o with
  | .boxB _ ds=>mpC (mpA ρ 3) cs ds fun cs=>K (.boxB t cs)
  | _=>False)
 | _=>False
def mpOs (ρ:List Nat) (aw:List Ob):List Nat->List Ob->(List Ob->List Ob->Prop)->Prop
 | [],[],K=>K [] []
 | id::ids,o'::os',K=>aF aw id fun o=>mpO ρ o' o fun b=>mpOs ρ aw ids os' fun bs os=>K (b::bs) (o::os)
 | _,_,_=>False
theorem xk {ρ:List Nat} {o' o:Ob} {K:Ob->Prop} (h:mpO ρ o' o K):∃ b,K b/\(gO o'->b=o->RenO ρ o' o):=by
 cases o' with
 | dead=>exact ⟨o,h,fun _ _=>trivial⟩
 | box cs =>
  cases o with
  | box ds =>
   obtain ⟨bs,h1,h2⟩:=dE (ρ:=ρ) fj h;exact ⟨_,h1,fun g e=>by injection e with e;exact h2 g e⟩
  | _=>exact h.elim
 | hd e k =>
  obtain ⟨j,h1,h2⟩:=aD h;exact ⟨_,h2,fun _ e=>by subst e;exact ⟨rfl,h1⟩⟩
 | arr e s rows=>exact ⟨_,h,fun g e=>by subst e;exact ⟨rfl,rfl,rfl,fun row hr x hx=>db (g row hr x hx)⟩⟩
 | mp ks vs=>exact ⟨_,h,fun g e=>by subst e;exact ⟨jq fun c hc=>g c (List.mem_append_left _ hc),jq fun c hc=>g c (List.mem_append_right _ hc)⟩⟩
 | cl e s cells=>exact ⟨_,h,fun g e=>by subst e;exact ⟨rfl,rfl,rfl,g⟩⟩
 | arrU e s rows x=>exact h.elim
 | boxB t cs =>
  cases o with
  | boxB t' ds =>
   obtain ⟨bs,h1,h2⟩:=dE (ρ:=ρ) fj h;exact ⟨_,h1,fun g e=>by injection e with e0 e;exact ⟨e0,h2 g e⟩⟩
  | _=>exact h.elim
theorem fb {ρ:List Nat}:∀ {ids:List Nat} {os':List Ob} {K:List Ob->List Ob->Prop},mpOs ρ aw ids os' K->∃ bs os,K bs os/\((∀ o,o∈os'->gO o)->bs=os->aI ρ aw ids os')
 | [],[],K,h=>⟨[],[],h,fun _ _=>trivial⟩
 | id::ids,o'::os',K,h=>by
  obtain ⟨o,h1,h⟩:=aD h;obtain ⟨b,h2,h3⟩:=xk h;obtain ⟨bs,os,h4,h5⟩:=fb h2;refine ⟨b::bs,o::os,h4,fun hg e=>?_⟩;injection e with e1 e2
  exact ⟨⟨o,h1,h3 (hg _ (.head _)) e1⟩,h5 (fun x hx=>hg x (.tail _ hx)) e2⟩
 | [],_::_,K,h=>h.elim
 | _::_,[],K,h=>h.elim
def mpF (ρ:List Nat):List (Nat × AV)->List (Nat × AV)->(List AV->List AV->Prop)->Prop
 | [],_,K=>K [] []
 | (s,v)::r,l,K=>fA (lkA l s) fun a=>mpA ρ 3 v a fun b=>mpF ρ r l fun bs es=>K (b::bs) (a::es)
class GoodF (l:List (Nat × AV)):Prop where
 out:∀ s v,(s,v)∈l->gA 3 v
instance:GoodF []:=⟨fun s v h=>by cases h⟩
instance {s:Nat} {v:AV} {r:List (Nat × AV)} [h:GoodA 3 v] [t:GoodF r]:GoodF ((s,v)::r):=⟨fun s' v' hb=>by
 cases hb with
 | head=>exact h.out
 | tail _ hb=>exact t.out s' v' hb⟩
theorem lB {ρ:List Nat}:∀ {l' l:List (Nat × AV)} {K:List AV->List AV->Prop},mpF ρ l' l K->∃ bs es,K bs es/\((∀ s v,(s,v)∈l'->gA 3 v)->bs=es->RenA ρ l' l)
 | [],l,K,h=>⟨[],[],h,fun _ _=>trivial⟩
 | (s,v)::r,l,K,h=>by
  have h:=bX (a:=lkA l s) (K:=fun a=>mpA ρ 3 v a fun b=>mpF ρ r l fun bs es=>K (b::bs) (a::es)) h;obtain ⟨b,h1,h2⟩:=fj h;obtain ⟨bs,es,h3,h4⟩:=lB h1;refine ⟨b::bs,lkA l s::es,h3,fun hg e=>?_⟩;injection e with e1 e2
  exact ⟨h2 (hg _ _ (.head _)) e1,h4 (fun s v hv=>hg s v (.tail _ hv)) e2⟩
def nilC:List (Nat × TypeId × Nat)->List (Nat × AV)->List Ob->Nat->(List (Nat × AV)->List Ob->Prop)->Prop
 | [],l,aw,_,K=>K l aw
 | (s,e,z)::r,l,aw,c,K=>(match lkA l s with
  | .nils=>pushC aw (.arr e z []) fun aw=>nilC r ((s,.ref c)::l) aw (c+1) K
  | _=>False)
theorem o5:∀ {nl:List (Nat × TypeId × Nat)} {l:List (Nat × AV)} {aw:List Ob} {c:Nat} {K:List (Nat × AV)->List Ob->Prop},aw.length=c->(nl.all fun p=>Nat.blt p.1 n)=true->nilC nl l aw c K->K (nilA n nl l aw).1 (nilA n nl l aw).2
 | [],l,aw,c,K,_,_,h=>h
 | (s,e,z)::r,l,aw,c,K,hc,hn,h=>by
  subst hc;unfold nilC at h;rw [List.all_cons,Aa] at hn;split at h
  ·rename_i hv;have h:=o5 (nl:=r) (by simp) hn.2 (fS h);grind [nilA]
  grind
theorem wk (nl:List (Nat × TypeId × Nat)) (ρ:List Nat) (c:Nat) {l':List (Nat × AV)} (h:nilC nl l aw c fun l aw=>mpF ρ l' l fun bs es=>mpOs ρ aw ρ aw' fun bs' es'=>(bs,bs')=(es,es')) [g:GoodF l'] [g':GoodOs aw'] (hc:aw.length=c:=by rfl) (hn:(nl.all fun p=>Nat.blt p.1 n)=true:=by rfl)
  (h1:ρ.Nodup:=by decide) (h2:∀ k,k<N->ρ[k]?=some k:=by decide):Weak N (mkA n l) aw (mkA n l') aw':=by
 have h:=o5 hc hn h
 obtain ⟨bs,es,h,h3⟩:=lB h
 obtain ⟨bs',es',h,h4⟩:=fb h
 injection h with e1 e2
 exact Weak.mkN nl ρ h1 h2 rfl (h3 g.out e1) (h4 g'.out e2)
def nilVC:List (Nat × TypeId × Nat)->List AV->List Ob->Nat->(List AV->List Ob->Prop)->Prop
 | [],vs,aw,_,K=>K vs aw
 | (s,e,z)::r,vs,aw,c,K=>aF vs s fun v=>(match v with
  | .nils=>setC vs s (.ref c) fun vs=>pushC aw (.arr e z []) fun aw=>nilVC r vs aw (c+1) K
  | _=>False)
theorem n5:∀ {nl:List (Nat × TypeId × Nat)} {vs:List AV} {aw:List Ob} {c:Nat} {K:List AV->List Ob->Prop},aw.length=c->nilVC nl vs aw c K->K (nilify nl vs aw).1 (nilify nl vs aw).2
 | [],vs,aw,c,K,_,h=>h
 | (s,e,z)::r,vs,aw,c,K,hc,h=>by
  subst hc;obtain ⟨v,h1,h⟩:=aD h;split at h
  ·have h:=n5 (nl:=r) (by simp) (fS (fa h));grind [nilify]
  grind
section
variable {Q:Exit→List AV→List Ob→Prop} {rs:List ResultVar} {V:AV} {obs:List Ob} {M:Nat}
theorem rO_c (ht:tt.Ok P) (nl:List (Nat × TypeId × Nat)) (ρ:List Nat) (c:Nat)
  (h:resC tt n l aw rs fun vs=>nilVC nl vs aw c fun vs aw=>fA (aX vs) fun a=>mpA ρ 3 V a fun b=>mpOs ρ aw ρ obs fun bs es=>(b,bs)=(a,es))
  [g:GoodA 3 V] [g':GoodOs obs] (hc:aw.length=c) (h1:ρ.Nodup) (h2:∀ k,k<M->ρ[k]?=some k):aB P (mkA n l) aw rs (Ret M (fun r aw'=>r=V/\aw'=obs) aw):=by
 refine iq ht (fun vs hv=>?_) h
 have h:=n5 hc hv
 have h:=bX (K:=fun a=>mpA ρ 3 V a fun b=>mpOs ρ (nilify nl vs aw).2 ρ obs fun bs es=>(b,bs)=(a,es)) h
 obtain ⟨b,h,h3⟩:=fj h
 obtain ⟨bs,es,h,h4⟩:=fb h
 injection h with e1 e2
 exact vC V nl ρ h1 h2 rfl (h3 g.out e1) (h4 g'.out e2) ⟨rfl,rfl⟩
theorem T.rO (ht:tt.Ok P) (nl:List (Nat × TypeId × Nat)) (ρ:List Nat) (c:Nat)
  (h:resC tt n l aw rs fun vs=>nilVC nl vs aw c fun vs aw=>fA (aX vs) fun a=>mpA ρ 3 V a fun b=>mpOs ρ aw ρ obs fun bs es=>(b,bs)=(a,es))
  [hq:RetI Q (fun fr aw=>aB P fr aw rs (Ret M (fun r aw'=>r=V/\aw'=obs) aw))] [g:GoodA 3 V] [g':GoodOs obs] (hc:aw.length=c:=by rfl) (h1:ρ.Nodup:=by decide) (h2:∀ k,k<M->ρ[k]?=some k:=by decide):T P N .ret Q (mkA n l) aw :=
 T.rt (R:=fun fr aw=>aB P fr aw rs (Ret M (fun r aw'=>r=V/\aw'=obs) aw)) (rO_c ht nl ρ c h hc h1 h2)
theorem rN_c (ht:tt.Ok P) (ρ:List Nat) (h:resC tt n l aw rs fun vs=>nrmRC aw (aX vs) fun a aw=>mpA ρ 3 V a fun b=>mpOs ρ aw ρ obs fun bs es=>(b,bs)=(a,es))
  [g:GoodA 3 V] [g':GoodOs obs] (h1:ρ.Nodup) (h2:∀ k,k<M->ρ[k]?=some k):aB P (mkA n l) aw rs (Ret M (fun r aw'=>r=V/\aw'=obs) aw):=by
 refine iq ht (fun vs hv=>?_) h
 have h:=oG hv
 obtain ⟨b,h,h3⟩:=fj h
 obtain ⟨bs,es,h,h4⟩:=fb h
 injection h with e1 e2
 exact uG V ρ rfl h1 h2 (h3 g.out e1) (h4 g'.out e2) ⟨rfl,rfl⟩
theorem T.rN (ht:tt.Ok P) (ρ:List Nat) (h:resC tt n l aw rs fun vs=>nrmRC aw (aX vs) fun a aw=>mpA ρ 3 V a fun b=>mpOs ρ aw ρ obs fun bs es=>(b,bs)=(a,es))
  [hq:RetI Q (fun fr aw=>aB P fr aw rs (Ret M (fun r aw'=>r=V/\aw'=obs) aw))] [g:GoodA 3 V] [g':GoodOs obs] (h1:ρ.Nodup:=by decide) (h2:∀ k,k<M->ρ[k]?=some k:=by decide):T P N .ret Q (mkA n l) aw :=
 T.rt (R:=fun fr aw=>aB P fr aw rs (Ret M (fun r aw'=>r=V/\aw'=obs) aw)) (rN_c ht ρ h h1 h2)
end
def stD (l:List (Nat × AV)) (d:Option Tmp) (r:AV) (K:List (Nat × AV)->Prop):Prop :=
 match d with
 | some t=>K ((t,r)::l)
 | none=>K l
theorem ck {d:Option Tmp} {r:AV} {K:List (Nat × AV)->Prop} (h:stD l d r K):K (putA l d r):=by cases d<;>exact h
section
variable {ops:Array Oper} {os:List Oper} {K:List AV→List Ob→Prop} {k:Nat} {li li':Array Bool} {o:Oper} {fr fr':List AV}
theorem yg' (ht:tt.Ok P) (c:Nat) {j t:Nat} {want b:Bool} (hbw:b=want) (h:wE tt n l aw c o.op fun r aw _=>stD l o.dst r fun l=>RS P N ops os K (mkA n l) aw)
  (hg:o.guard=some (j,want)) (hj:(ops[j]?).bind (·.dst)=some t) (hb:evA n l (.tmp t)=.bool b) (hc:aw.length=c):RS P N ops (o::os) K (mkA n l) aw :=
 RS.yes hg hj hb hbw ((wE_ok ht hc h).mono fun r aw' h=>ck (K:=fun l=>RS P N ops os K (mkA n l) aw') h)
theorem oy' (ht:tt.Ok P) {i:Nat} (c:Nat) {j t:Nat} {want b:Bool} (hbw:b=want) (hi:ops[i]?=some o) (h:wE tt n l aw c o.op fun r aw _=>stD l o.dst r fun l=>K (mkA n l) aw)
  (hg:o.guard=some (j,want)) (hj:(ops[j]?).bind (·.dst)=some t) (hb:evA n l (.tmp t)=.bool b) (hc:aw.length=c):RO P N ops i K (mkA n l) aw :=
 RO.yes hi hg hj hb hbw ((wE_ok ht hc h).mono fun r aw' h=>ck (K:=fun l=>K (mkA n l) aw') h)
theorem ry' (ht:tt.Ok P) (i:Nat) {j t:Nat} {want b:Bool} (hbw:b=want) (hi:ops[i]?=some o) (h:wV tt n l aw o.op fun r=>stD l o.dst r fun l=>RA P N ops k (li.setIfInBounds i true) K (mkA n l) aw)
  (hs:Region.noSelect ops=true) (hf:Region.free .any ops li i=true) (hr:(Region.ready .any ops li).contains i=true)
  (hg:o.guard=some (j,want)) (hj:(ops[j]?).bind (·.dst)=some t) (hb:evA n l (.tmp t)=.bool b) (hn:eo o.op=true):RA P N ops (k+1) li K (mkA n l) aw :=
 ⟨fun st e1 e2 σ w F a hc R hR=>by obtain ⟨v,r,hrun,hrel,hk⟩:=hH hc hn (wV_ok ht h);refine wpAny_take hi hs hf hr (fun c a w hp=>hp) (.inl ⟨by grind [Region.wanted,eU],hrun⟩) (RA.out (ck (K:=fun l=>RA P N ops k (li.setIfInBounds i true) K (mkA n l) aw) hk) st e1 e2 σ w F _ ?_ R hR);have:=be hc hrel o.dst;grind [br]⟩
open RK in
theorem rL' (ht:tt.Ok P) (D:List Nat) (i:Nat) (hi:ops[i]?=some o) (h:wV tt n l aw o.op fun r=>stD l o.dst r fun l=>RA P N ops k (li.setIfInBounds i true) K (mkA n l) aw)
  (hs:Region.noSelect ops=true) (hf:loadFree ops li D i=true) (hr:(Region.ready .any ops li).contains i=true) (hg:o.guard=none):RA P N ops (k+1) li K (mkA n l) aw :=
 ⟨fun st e1 e2 σ w F a hc R hR=>by obtain ⟨v,r,hrun,hrel,hk⟩:=tk hc (wV_ok ht h);refine rg D hi hs hf hr (fun c a w hp=>hp) (.inl ⟨by grind [Region.wanted],hrun⟩) (RA.out (ck (K:=fun l=>RA P N ops k (li.setIfInBounds i true) K (mkA n l) aw) hk) st e1 e2 σ w F _ ?_ R hR);have:=be hc hrel o.dst;grind [br]⟩
theorem sO (h:OP P N o (mkA n l) aw fun r aw=>stD l o.dst r fun l=>RS P N ops os K (mkA n l) aw) (hg:o.guard=none:=by rfl):RS P N ops (o::os) K (mkA n l) aw :=
 RS.op hg (h.mono fun r aw' h=>ck (K:=fun l=>RS P N ops os K (mkA n l) aw') h)
theorem sQ (h:vcQ P (mkA n l) aw o.op fun r=>stD l o.dst r fun l=>RS P N ops os K (mkA n l) aw) (hg:o.guard=none:=by rfl) (hq:e8 o.op=true:=by rfl):RS P N ops (o::os) K (mkA n l) aw :=
 sO (OP.q (K2:=fun r aw=>stD l o.dst r fun l=>RS P N ops os K (mkA n l) aw) hq h) hg
theorem yO {j t:Nat} {want b:Bool} (hbw:b=want) (h:OP P N o (mkA n l) aw fun r aw=>stD l o.dst r fun l=>RS P N ops os K (mkA n l) aw) (hg:o.guard=some (j,want):=by rfl) (hj:(ops[j]?).bind (·.dst)=some t:=by rfl) (hb:evA n l (.tmp t)=.bool b:=by rfl) :
 RS P N ops (o::os) K (mkA n l) aw:=RS.yes hg hj hb hbw (h.mono fun r aw' h=>ck (K:=fun l=>RS P N ops os K (mkA n l) aw') h)
theorem yQ {j t:Nat} {want b:Bool} (hbw:b=want) (h:vcQ P (mkA n l) aw o.op fun r=>stD l o.dst r fun l=>RS P N ops os K (mkA n l) aw) (hg:o.guard=some (j,want):=by rfl) (hj:(ops[j]?).bind (·.dst)=some t:=by rfl) (hb:evA n l (.tmp t)=.bool b:=by rfl) (hq:e8 o.op=true:=by rfl) :
 RS P N ops (o::os) K (mkA n l) aw:=yO hbw (OP.q (K2:=fun r aw=>stD l o.dst r fun l=>RS P N ops os K (mkA n l) aw) hq h) hg hj hb
theorem sN {j t:Nat} {want b:Bool} (hbw:b=!want) (h:stD l o.dst (.tup []) fun l=>RS P N ops os K (mkA n l) aw) (hg:o.guard=some (j,want):=by rfl) (hj:(ops[j]?).bind (·.dst)=some t:=by rfl) (hb:evA n l (.tmp t)=.bool b:=by rfl) :
 RS P N ops (o::os) K (mkA n l) aw:=RS.no hg hj hb hbw (ck (K:=fun l=>RS P N ops os K (mkA n l) aw) h)
theorem sU {j t:Nat} {want:Bool} (h:stD l o.dst (.tup []) fun l=>RS P N ops os K (mkA n l) aw) (hg:o.guard=some (j,want):=by rfl) (hj:(ops[j]?).bind (·.dst)=some t:=by rfl) (hb:evA n l (.tmp t)=.tup []:=by rfl) :
 RS P N ops (o::os) K (mkA n l) aw:=RS.nou hg hj hb (ck (K:=fun l=>RS P N ops os K (mkA n l) aw) h)
theorem oO {i:Nat} (hi:ops[i]?=some o) (h:OP P N o (mkA n l) aw fun r aw=>stD l o.dst r fun l=>K (mkA n l) aw) (hg:o.guard=none:=by rfl):RO P N ops i K (mkA n l) aw :=
 RO.op hi hg (h.mono fun r aw' h=>ck (K:=fun l=>K (mkA n l) aw') h)
theorem oP {i:Nat} (hi:ops[i]?=some o) {j t:Nat} {want b:Bool} (hbw:b=want) (h:OP P N o (mkA n l) aw fun r aw=>stD l o.dst r fun l=>K (mkA n l) aw) (hg:o.guard=some (j,want):=by rfl) (hj:(ops[j]?).bind (·.dst)=some t:=by rfl) (hb:evA n l (.tmp t)=.bool b:=by rfl):RO P N ops i K (mkA n l) aw :=
 RO.yes hi hg hj hb hbw (h.mono fun r aw' h=>ck (K:=fun l=>K (mkA n l) aw') h)
theorem r0 (i:Nat) (hi:ops[i]?=some o) (h:vcQ P (mkA n l) aw o.op fun r=>stD l o.dst r fun l=>RA P N ops k (li.setIfInBounds i true) K (mkA n l) aw) (hs:Region.noSelect ops=true:=by decide +kernel) (hf:Region.free .any ops li i=true:=by decide +kernel)
  (hr:(Region.ready .any ops li).contains i=true:=by decide +kernel) (hg:o.guard=none:=by rfl) (hn:eo o.op=true:=by rfl):RA P N ops (k+1) li K (mkA n l) aw :=
 ⟨fun st e1 e2 σ w F a hc R hR=>by obtain ⟨v,r,hrun,hrel,hk⟩:=hH hc hn h;refine wpAny_take hi hs hf hr (fun c a w hp=>hp) (.inl ⟨by grind [Region.wanted],hrun⟩) (RA.out (ck (K:=fun l=>RA P N ops k (li.setIfInBounds i true) K (mkA n l) aw) hk) st e1 e2 σ w F _ ?_ R hR);have:=be hc hrel o.dst;grind [br]⟩
theorem r1 (i:Nat) (hi:ops[i]?=some o) {j t:Nat} {want b:Bool} (hbw:b=want) (h:vcQ P (mkA n l) aw o.op fun r=>stD l o.dst r fun l=>RA P N ops k (li.setIfInBounds i true) K (mkA n l) aw) (hs:Region.noSelect ops=true:=by decide +kernel) (hf:Region.free .any ops li i=true:=by decide +kernel)
  (hr:(Region.ready .any ops li).contains i=true:=by decide +kernel) (hg:o.guard=some (j,want):=by rfl) (hj:(ops[j]?).bind (·.dst)=some t:=by rfl) (hb:evA n l (.tmp t)=.bool b:=by rfl) (hn:eo o.op=true:=by rfl):RA P N ops (k+1) li K (mkA n l) aw :=
 ⟨fun st e1 e2 σ w F a hc R hR=>by obtain ⟨v,r,hrun,hrel,hk⟩:=hH hc hn h;refine wpAny_take hi hs hf hr (fun c a w hp=>hp) (.inl ⟨by grind [Region.wanted,eU],hrun⟩) (RA.out (ck (K:=fun l=>RA P N ops k (li.setIfInBounds i true) K (mkA n l) aw) hk) st e1 e2 σ w F _ ?_ R hR);have:=be hc hrel o.dst;grind [br]⟩
theorem r2 (i:Nat) (hi:ops[i]?=some o) {j t:Nat} {want b:Bool} (hbw:b=!want) (h:stD l o.dst (.tup []) fun l=>RA P N ops k (li.setIfInBounds i true) K (mkA n l) aw) (hs:Region.noSelect ops=true:=by decide +kernel) (hf:Region.free .any ops li i=true:=by decide +kernel)
  (hr:(Region.ready .any ops li).contains i=true:=by decide +kernel) (hg:o.guard=some (j,want):=by rfl) (hj:(ops[j]?).bind (·.dst)=some t:=by rfl) (hb:evA n l (.tmp t)=.bool b:=by rfl):RA P N ops (k+1) li K (mkA n l) aw :=
 RA.t2 hi hs hf hr rfl hg hj hb hbw (ck (K:=fun l=>RA P N ops k (li.setIfInBounds i true) K (mkA n l) aw) h)
def nfL (f:AV->(AV->Prop)->Prop):List AV->(List AV->Prop)->Prop
 | [],K=>K []
 | a::es,K=>f a fun a=>nfL f es fun es=>K (a::es)
def nfA:Nat->AV->(AV->Prop)->Prop
 | 0,a,K=>fA a K
 | k+1,a,K=>(match a with
  | .agg cs=>nfL (nfA k) cs fun cs=>K (.agg cs)
  | .tup cs=>nfL (nfA k) cs fun cs=>K (.tup cs)
  | .func f cs=>nfL (nfA k) cs fun cs=>K (.func f cs)
  | .bnd f cs=>nfL (nfA k) cs fun cs=>K (.bnd f cs)
  | a=>fA a K)
theorem fZ {f:AV->(AV->Prop)->Prop} (hf:∀ {a:AV} {K:AV->Prop},f a K->K a):∀ {es:List AV} {K:List AV->Prop},nfL f es K->K es
 | [],K,h=>h
 | a::es,K,h=>fZ hf (es:=es) (K:=fun es=>K (a::es)) (hf h)
theorem pP:∀ {k:Nat} {a:AV} {K:AV->Prop},nfA k a K->K a:=by
 intro k;induction k with
 | zero=>exact fun h=>bX h
 | succ k ih =>
  intro a K h;cases a<;>first | exact bX h | exact fZ ih (K:=fun cs=>K (.agg cs)) h | exact fZ ih (K:=fun cs=>K (.tup cs)) h | exact fZ ih (K:=fun cs=>K (.func _ cs)) h | exact fZ ih (K:=fun cs=>K (.bnd _ cs)) h
def nfF (g:AV->AV):List (Nat × AV)->(List (Nat × AV)->Prop)->Prop
 | [],K=>K []
 | (s,v)::r,K=>nfA 2 (g v) fun v=>nfF g r fun r=>K ((s,v)::r)
theorem pX {g:AV->AV}:∀ {l:List (Nat × AV)} {K:List (Nat × AV)->Prop},nfF g l K->K (l.map fun p=>(p.1,g p.2))
 | [],K,h=>h
 | (s,v)::r,K,h=>pX (l:=r) (K:=fun r=>K ((s,g v)::r)) (pP (K:=fun v=>nfF g r fun r=>K ((s,v)::r)) h)
def nfO (g:AV->AV):List Ob->(List Ob->Prop)->Prop
 | [],K=>K []
 | o::os,K=>(match o with
  | .box cs=>nfL (nfA 1) (cs.map g) fun cs=>nfO g os fun os=>K (.box cs::os)
  | o=>nfO g os fun os=>K (o::os))
theorem lH {id:Nat} {rows:List (List AV)}:∀ {os:List Ob} {K:List Ob->Prop},nfO (fz2 id rows) os K->K (os.map (fzOb id rows))
 | [],K,h=>h
 | o::os,K,h=>by
  cases o with
  | box cs=>exact lH (os:=os) (K:=fun os=>K (.box (cs.map (fz2 id rows))::os)) (fZ pP (K:=fun cs=>nfO (fz2 id rows) os fun os=>K (.box cs::os)) h)
  | _=>exact lH (os:=os) (K:=fun os=>K (_::os)) h
def fzC (aw:List Ob) (l:List (Nat × AV)) (id:Nat) (K:List (Nat × AV)->List Ob->Prop):Prop :=
 aF aw id fun o=>(match o with
  | .arr _ _ rows=>nfF (fzV id rows) l fun l=>setC aw id .dead fun aw=>nfO (fz2 id rows) aw fun aw=>K l aw
  | _=>False)
theorem j9 {id:Nat} {K:List (Nat × AV)->List Ob->Prop} (h:fzC aw l id K):∃ e s rows,aw[id]?=some (.arr e s rows)/\K (fzA id rows l) ((aw.set id .dead).map (fzOb id rows)):=by
 obtain ⟨o,h1,h⟩:=aD h;split at h
 ·exact ⟨_,_,_,h1,lH (fa (pX h))⟩
 grind
theorem T.fC (id:Nat) {c:Code} {Q:Exit->List AV->List Ob->Prop} (h:fzC aw l id fun l aw=>T P N c Q (mkA n l) aw):T P N c Q (mkA n l) aw:=by grind [j9,T.fz]
theorem RS.fC (id:Nat) (h:fzC aw l id fun l aw=>RS P N ops os K (mkA n l) aw):RS P N ops os K (mkA n l) aw:=by grind [j9,RS.fz]
theorem RA.fC (id:Nat) (h:fzC aw l id fun l aw=>RA P N ops k li K (mkA n l) aw):RA P N ops k li K (mkA n l) aw:=by grind [j9,RA.fz]
theorem RO.fC {i:Nat} (id:Nat) (h:fzC aw l id fun l aw=>RO P N ops i K (mkA n l) aw):RO P N ops i K (mkA n l) aw:=by grind [j9,RO.fz]
theorem RA.jn (k':Nat) (li':Array Bool) {fr':List AV} {aw':List Ob} (h2:RA P N ops k' li' K fr' aw'->RA P N ops k li K fr aw) (h:RA P N ops k' li' K fr' aw'):RA P N ops k li K fr aw:=h2 h
theorem raE (h:RA P N ops k li' K fr aw) (hl:li=li':=by decide +kernel):RA P N ops k li K fr aw:=by grind
theorem wj {l':List (Nat × AV)} (h:l'.map (fun p=>lkA l p.1)=l'.map (fun p=>lkA l' p.1)) (t:Nat):lkA l' t=.any∨lkA l' t=lkA l t:=by
 have key:∀ (q:List (Nat × AV)),q.map (fun p=>lkA l p.1)=q.map (fun p=>lkA l' p.1)->lkA q t=.any∨lkA l' t=lkA l t:=by
  intro q;induction q with
  | nil=>intro _;exact .inl rfl
  | cons p q ih =>
   intro h;simp only [zh,Aq] at h;obtain ⟨s,v⟩:=p;rw [dA];grind
 grind
theorem oJ {l':List (Nat × AV)} {st:St} {σ:List Value} {w:World} {F:Nat->Prop} {a:Act} (h:l'.map (fun p=>lkA l p.1)=l'.map (fun p=>lkA l' p.1)) (hc:Cur st (mkA n l) aw σ w F a):Cur st (mkA n l') aw σ w F a:=by
 refine ⟨hc.sim,⟨⟨?_,fun j x v hx hv=>?_⟩,hc.fr.2⟩,hc.mv,hc.ds⟩
 ·have:=hc.fr.1.1;grind [e9]
 ·rw [bV] at hx;split at hx
  ·rename_i hj;cases hx;rcases wj h j with e | e
   ·rw [e];exact .any _
   ·rw [e];exact hc.fr.1.2 j _ v (by rw [bV,if_pos hj]) hv
  ·cases hx
theorem raT {l':List (Nat × AV)} (h:RA P N ops k li' K (mkA n l') aw) (hs:l'.map (fun p=>lkA l p.1)=l'.map (fun p=>lkA l' p.1):=by rfl) (hl:li=li':=by decide +kernel):RA P N ops k li K (mkA n l) aw:=by subst hl;exact ⟨fun st h1 h2 σ w F a hc=>h.out st h1 h2 σ w F a (oJ hs hc)⟩
theorem T.su {l':List (Nat × AV)} {c:Code} {Q:Exit->List AV->List Ob->Prop} (h:T P N c Q (mkA n l') aw) (hs:l'.map (fun p=>lkA l p.1)=l'.map (fun p=>lkA l' p.1):=by rfl):T P N c Q (mkA n l) aw:=⟨fun st h1 h2 σ w F a hc=>h.out st h1 h2 σ w F a (oJ hs hc)⟩
end
section
variable {Q:Exit→List AV→List Ob→Prop} {c1 c2:Code} {x:Operand}
theorem T.ci {α:Type} {b:Bool} {u v:Option α} {r:α} (h:(if b=true then u else v)=some r) (hx:evA n l x=.bool b) (ht:b=true->u=some r->T P N c1 Q (mkA n l) aw) (he:b=false->v=some r->T P N c2 Q (mkA n l) aw):T P N (.cond x c1 c2) Q (mkA n l) aw :=
 T.cond hx (fun hb=>ht hb (bv h hb)) (fun hb=>he hb (bw h hb))
def iniC:Nat->List AV->(List (Nat × AV)->Prop)->Prop
 | _,[],K=>K []
 | k,a::es,K=>iniC (k+1) es fun l=>K ((k,a)::l)
theorem lu:∀ {es:List AV} {k:Nat} {K:List (Nat × AV)->Prop},iniC k es K->K (initA k es)
 | [],k,K,h=>h
 | a::es,k,K,h=>lu (es:=es) (K:=fun l=>K ((k,a)::l)) h
end
end
end
section
open Go.RowKit
inductive Fr where
 | sq (y:Code)
 | bk (id:Nat)
 | kt (K:List AV->List Ob->Prop)
section
variable {P:Program} {N n:Nat} {aw:List Ob} {l:List (Nat × AV)} {tt:TT} {Q:Exit→List AV→List Ob→Prop}
def qs (P:Program) (N:Nat):List Fr->(Exit->List AV->List Ob->Prop)->Exit->List AV->List Ob->Prop
 | [],Q=>Q
 | .sq y::st,Q=>thenA (T P N y (qs P N st Q)) (qs P N st Q)
 | .bk id::st,Q=>dc id (qs P N st Q)
 | .kt K::st,Q=>thenA K (qs P N st Q)
theorem j7:∀ {st:List Fr} {fr:List AV} {aw:List Ob},Q .ret fr aw->qs P N st Q .ret fr aw
 | [],_,_,h=>h
 | .sq y::st,_,_,h=>j7 (st:=st) h
 | .bk id::st,_,_,h=>j7 (st:=st) h
 | .kt K::st,_,_,h=>j7 (st:=st) h
instance {st:List Fr} {R:List AV->List Ob->Prop} [h:RetI Q R]:RetI (qs P N st Q) R:=⟨fun fr aw hr=>j7 (h.out fr aw hr)⟩
def popN (Q:Exit->List AV->List Ob->Prop) (fr:List AV) (aw:List Ob) (K:Code->List Fr->Prop):List Fr->Prop
 | []=>Q .normal fr aw
 | .sq y::st=>K y st
 | .bk _::st=>popN Q fr aw K st
 | .kt K'::_=>K' fr aw
def popE (Q:Exit->List AV->List Ob->Prop) (fr:List AV) (aw:List Ob) (K:Code->List Fr->Prop) (id:Nat):List Fr->Prop
 | []=>Q (.exit id) fr aw
 | .sq _::st=>popE Q fr aw K id st
 | .bk i::st=>(match Nat.beq id i with
  | true=>popN Q fr aw K st
  | false=>popE Q fr aw K id st)
 | .kt _::st=>popE Q fr aw K id st
theorem jJ {fr:List AV} {K:Code->List Fr->Prop} (hK:∀ y st,K y st->T P N y (qs P N st Q) fr aw):∀ {st:List Fr},popN Q fr aw K st->qs P N st Q .normal fr aw
 | [],h=>h
 | .sq y::st,h=>hK y st h
 | .bk _::st,h=>jJ hK (st:=st) h
 | .kt _::_,h=>h
theorem jS {fr:List AV} {K:Code->List Fr->Prop} (hK:∀ y st,K y st->T P N y (qs P N st Q) fr aw) {id:Nat}:∀ {st:List Fr},popE Q fr aw K id st->qs P N st Q (.exit id) fr aw
 | [],h=>h
 | .sq y::st,h=>jS hK (st:=st) h
 | .bk i::st,h=>by
  show if id=i then qs P N st Q .normal fr aw else qs P N st Q (.exit id) fr aw
  simp only [popE] at h;cases hb:Nat.beq id i
  ·rw [hb] at h;rw [if_neg (fun e=>by simp_all)];exact jS hK (st:=st) h
  ·rw [hb] at h;rw [if_pos (zw hb)];exact jJ hK h
 | .kt _::st,h=>jS hK (st:=st) h
inductive MS where
 | cd (c:Code)
 | op (ops:Array Oper) (os:List Oper)
def dsC (l:List (Nat × AV)) (d:Option Tmp) (r:AV) (K:List (Nat × AV)->Prop):Prop :=
 match d with
 | some t=>K ((t,r)::l)
 | none=>K l
def wP (pl:Bool) (tt:TT) (n:Nat) (l:List (Nat × AV)) (aw:List Ob) (k:Nat) (op:Op) (K:AV->List Ob->Nat->Prop):Prop :=
  match pl with
  | false=>wE tt n l aw k op K
  | true=>(match op with
    | .pick c a b=>(match evA n l c with
      | .bool t=>(match t with
        | true=>fA (evA n l a) fun r=>K r aw k
        | false=>fA (evA n l b) fun r=>K r aw k)
      | _=>False)
    | op=>wE tt n l aw k op K)
theorem wP_ok {pl:Bool} {o:Oper} {k:Nat} {K:AV->List Ob->Nat->Prop} (ht:tt.Ok P) (hk:aw.length=k) (h:wP pl tt n l aw k o.op K):OP P N o (mkA n l) aw fun r aw'=>K r aw' aw'.length:=by
 cases pl with
 | false=>exact wE_ok ht hk h
 | true =>
  have q:wE tt n l aw k o.op K->OP P N o (mkA n l) aw fun r aw'=>K r aw' aw'.length:=fun h=>wE_ok ht hk h
  obtain ⟨d,op,ty,ps,af,g⟩:=o;cases op with
  | pick c a b =>
   simp only [wP] at h;subst hk;split at h
   ·rename_i t hc;split at h
    ·exact OP.q rfl (aS hc rfl rfl (bX (K:=fun r=>K r aw aw.length) h))
    ·exact OP.q rfl (aK hc rfl rfl (bX (K:=fun r=>K r aw aw.length) h))
   grind
  | _=>exact q h
def gx (pl:Bool) (tt:TT) (P:Program) (N n:Nat) (Q:Exit->List AV->List Ob->Prop):Nat->MS->List Fr->List (Nat × AV)->List Ob->Nat->Prop
  | 0,.cd c,st,l,aw,_=>T P N c (qs P N st Q) (mkA n l) aw
  | 0,.op ops os,st,l,aw,_=>RS P N ops os (qs P N st Q .normal) (mkA n l) aw
  | f + 1,.cd c,st,l,aw,k=>(match c with
    | .seq x y=>gx pl tt P N n Q f (.cd x) (.sq y::st) l aw k
    | .skip=>popN Q (mkA n l) aw (fun y st=>gx pl tt P N n Q f (.cd y) st l aw k) st
    | .block id x=>gx pl tt P N n Q f (.cd x) (.bk id::st) l aw k
    | .exit id=>popE Q (mkA n l) aw (fun y st=>gx pl tt P N n Q f (.cd y) st l aw k) id st
    | .cond x a b=>(match evA n l x with
      | .bool v=>(match v with
        | true=>gx pl tt P N n Q f (.cd a) st l aw k
        | false=>gx pl tt P N n Q f (.cd b) st l aw k)
      | _=>False)
    | .region _ ops d=>(match d with
      | false=>gx pl tt P N n Q f (.op ops ops.toList) st l aw k
      | true=>False)
    | _=>False)
  | f + 1,.op ops os,st,l,aw,k=>(match os with
    | []=>popN Q (mkA n l) aw (fun y st=>gx pl tt P N n Q f (.cd y) st l aw k) st
    | o :: os => (match o.guard with
      | none=>wP pl tt n l aw k o.op fun r aw k=>dsC l o.dst r fun l=>gx pl tt P N n Q f (.op ops os) st l aw k
      | some (j,want)=>aF ops.toList j fun q=>(match q.dst with
        | none=>False
        | some t=>(match evA n l (.tmp t) with
          | .bool b=>(match b with
            | true=>(match want with
              | true=>wP pl tt n l aw k o.op fun r aw k=>dsC l o.dst r fun l=>gx pl tt P N n Q f (.op ops os) st l aw k
              | false=>dsC l o.dst (.tup []) fun l=>gx pl tt P N n Q f (.op ops os) st l aw k)
            | false=>(match want with
              | false=>wP pl tt n l aw k o.op fun r aw k=>dsC l o.dst r fun l=>gx pl tt P N n Q f (.op ops os) st l aw k
              | true=>dsC l o.dst (.tup []) fun l=>gx pl tt P N n Q f (.op ops os) st l aw k))
          | .tup vs=>(match vs with
            | []=>dsC l o.dst (.tup []) fun l=>gx pl tt P N n Q f (.op ops os) st l aw k
            | _::_=>False)
          | _=>False))))
theorem xu {d:Option Tmp} {r:AV} {K:List (Nat × AV)->Prop} (h:dsC l d r K):K (putA l d r):=by cases d<;>exact h
theorem dr {pl:Bool} (ht:tt.Ok P):∀ {f:Nat} {ms:MS} {st:List Fr} {l:List (Nat × AV)} {aw:List Ob} {k:Nat},aw.length=k->gx pl tt P N n Q f ms st l aw k->gx pl tt P N n Q 0 ms st l aw k
 | 0,.cd c,st,l,aw,k,hk,h=>h
 | 0,.op ops os,st,l,aw,k,hk,h=>h
 | f+1,.cd c,st,l,aw,k,hk,h=>by
  show T P N c (qs P N st Q) (mkA n l) aw;have pop:∀ y st,gx pl tt P N n Q f (.cd y) st l aw k->T P N y (qs P N st Q) (mkA n l) aw:=fun y st h=>dr ht (f:=f) hk h
  cases c with
  | seq x y=>exact T.seq (dr ht (f:=f) (ms:=.cd x) hk h)
  | skip=>exact T.skip (jJ pop h)
  | block id x=>exact T.block (dr ht (f:=f) (ms:=.cd x) hk h)
  | exit id=>exact T.exit (jS pop h)
  | cond x a b =>
   grind [gx,T.cond]
  | region id ops d =>
   cases d with
   | false=>exact T.region (dr ht (f:=f) (ms:=.op ops ops.toList) hk h)
   | true=>exact h.elim
  | _=>exact h.elim
 | f + 1,.op ops os,st,l,aw,k,hk,h=>by
  show RS P N ops os (qs P N st Q .normal) (mkA n l) aw;cases os with
  | nil =>
   have pop:∀ y st,gx pl tt P N n Q f (.cd y) st l aw k->T P N y (qs P N st Q) (mkA n l) aw:=fun y st h=>dr ht (f:=f) hk h
   exact RS.nil (jJ pop h)
  | cons o os =>
   have put:∀ {aw:List Ob} {k:Nat} {r:AV},aw.length=k->dsC l o.dst r (fun l=>gx pl tt P N n Q f (.op ops os) st l aw k)->RS P N ops os (qs P N st Q .normal) (mkA n (putA l o.dst r)) aw :=
    fun {aw k r} hk h=>dr ht (f:=f) (ms:=.op ops os) hk (xu (K:=fun l=>gx pl tt P N n Q f (.op ops os) st l aw k) h)
   simp only [gx] at h;split at h
   ·rename_i hg;exact RS.op hg ((wP_ok ht hk h).mono fun r aw' h=>put rfl h)
   ·rename_i j want hg;obtain ⟨q,h1,h⟩:=aD h;have h1:ops[j]?=some q:=by grind
    split at h
    ·exact h.elim
    ·rename_i t hd;have hj:(ops[j]?).bind (·.dst)=some t:=by grind
     split at h
     ·rename_i b hb;split at h
      ·split at h
       ·exact RS.yes hg hj hb rfl ((wP_ok ht hk h).mono fun r aw' h=>put rfl h)
       grind [RS.no]
      ·split at h
       ·exact RS.yes hg hj hb rfl ((wP_ok ht hk h).mono fun r aw' h=>put rfl h)
       grind [RS.no]
     all_goals (grind [RS.nou])
theorem qj {s:Nat} {a:AV} (hl:lkA l s=a):mkA n ((s,a)::l)=mkA n l:=by unfold mkA;congr 1;funext t;rw [dA];grind
variable {ops:Array Oper} {os:List Oper} {K:List AV→List Ob→Prop} {st:List Fr}
theorem gT (s:Nat) {b:Bool} (hb:b=true) (h:RS P N ops os K (mkA n ((s,.bool true)::l)) aw) (hl:lkA l s=.bool b:=by rfl):RS P N ops os K (mkA n l) aw:=by grind [qj]
theorem gF (s:Nat) {b:Bool} (hb:b=false) (h:RS P N ops os K (mkA n ((s,.bool false)::l)) aw) (hl:lkA l s=.bool b:=by rfl):RS P N ops os K (mkA n l) aw:=by grind [qj]
theorem gi (s:Nat) {α:Type} {b:Bool} {u v:Option α} {r:α} (h:(if b=true then u else v)=some r) (ht:b=true->u=some r->RS P N ops os K (mkA n ((s,.bool true)::l)) aw) (he:b=false->v=some r->RS P N ops os K (mkA n ((s,.bool false)::l)) aw) (hl:lkA l s=.bool b:=by rfl):RS P N ops os K (mkA n l) aw:=by
 cases b with
 | true=>exact gT s rfl (ht rfl (bv h rfl)) hl
 | false=>exact gF s rfl (he rfl (bw h rfl)) hl
theorem gp (s:Nat) {b:Bool} (ht:b=true->RS P N ops os K (mkA n ((s,.bool true)::l)) aw) (he:b=false->RS P N ops os K (mkA n ((s,.bool false)::l)) aw) (hl:lkA l s=.bool b:=by rfl):RS P N ops os K (mkA n l) aw:=by
 cases b with
 | true=>grind [gT]
 | false=>grind [gF]
theorem fX {pl:Bool} {f:FuncId} {fn:Func} {c:Code} {args:List AV} {Q:AV->List Ob->Prop} {m:Nat} (ht:tt.Ok P) (N q:Nat) (hf:P.funcs[f]?=some fn) (hm:fn.ntmps=m) (h:iniC 0 args fun l=>gx pl tt P N m (retQ P fn N Q) q (.cd c) [] l aw N)
  (hb:fn.body=some c) (hN:aw.length=N) (hname:(fn.name == "runtime.NumGoroutine")=false) (hl:Nat.ble args.length m=true):ACalls P f args aw Q :=
 vp hN hf hb hname hm hl (dr ht hN (lu (K:=fun l=>gx pl tt P N m (retQ P fn N Q) q (.cd c) [] l aw N) h))
theorem q0 {c:Code} {fr:List AV} (h:T P N c (qs P N [] Q) fr aw):T P N c Q fr aw:=h
theorem jn {x y:Code} {fr:List AV} {Z:Type} (F:Z->List AV) (A:Z->List Ob) (S:Z->Prop) (h:∀ z,S z->T P N y (qs P N st Q) (F z) (A z))
 (h2:(∀ z,S z->T P N y (qs P N st Q) (F z) (A z))->T P N (.seq x y) (qs P N st Q) fr aw):T P N (.seq x y) (qs P N st Q) fr aw:=h2 h
theorem j1 {x y:Code} (l':List (Nat × AV)) (aw':List Ob) (h:T P N y (qs P N st Q) (mkA n l') aw') (h2:T P N y (qs P N st Q) (mkA n l') aw'->T P N (.seq x y) (qs P N st Q) (mkA n l) aw):T P N (.seq x y) (qs P N st Q) (mkA n l) aw:=h2 h
def LK {α β:Type} (N:Nat) (v:α ⊕ β) (F:α->List AV) (A:α->List Ob) (fr:List AV) (aw:List Ob):Prop:=∃ s',v=.inl s'/\Weak N fr aw (F s') (A s')
theorem itr {α β:Type} {body:α->Option (α ⊕ β)} {s:α} {r:β} {c:Code} {fr:List AV} (F:α->List AV) (A:α->List Ob) (h:iter body s=some r) (hw:Weak N fr aw (F s) (A s))
  (hb:∀ s v,body s=some v->(∀ w,v=.inr w->w=r)->T P N c (qs P N (.kt (LK N v F A)::st) Q) (F s) (A s)):T P N (.loop c) (qs P N st Q) fr aw :=
 T.iter F A h hw fun s v h1 h2=>(hb s v h1 h2).mono fun e fr aw h=>by assumption
theorem lk {α β:Type} {v:α ⊕ β} {F:α->List AV} {A:α->List Ob} {fr:List AV} {s':α} (h:some (.inl s')=some v) (hw:Weak N fr aw (F s') (A s')):LK N v F A fr aw:=⟨s',(yY h).symm,hw⟩
theorem mi {α β:Type} {o:Option β} {v:α ⊕ β} {r:β} (h:o.map Sum.inr=some v) (hv:∀ w,v=.inr w->w=r):o=some r:=by obtain ⟨w,h1,h2⟩:=lr h;grind
theorem B {α β:Type} {o:Option α} {k:α->Option β} {r:β} {C:Prop} (h:o.bind k=some r) (hC:∀ x,o=some x->k x=some r->C):C:=by obtain ⟨x,h1,h2⟩:=bind_some h;grind
theorem sx {c:Code} {l':List (Nat × AV)} (h:T P N c Q (mkA n l') aw) (hs:l'.map (fun p=>lkA l p.1)=l'.map (fun p=>lkA l' p.1):=by rfl):T P N c Q (mkA n l) aw:=T.su h hs
theorem wu {c:Code} {l':List (Nat × AV)} {aw':List Ob} (h:T P N c Q (mkA n l') aw') (nl:List (Nat × TypeId × Nat)) (ρ:List Nat) (k:Nat) (hw:nilC nl l aw k fun l aw=>mpF ρ l' l fun bs es=>mpOs ρ aw ρ aw' fun bs' es'=>(bs,bs')=(es,es')) [g:GoodF l'] [g':GoodOs aw'] (hc:aw.length=k:=by rfl) (hn:(nl.all fun p=>Nat.blt p.1 n)=true:=by rfl)
 (h1:ρ.Nodup:=by decide) (h2:∀ k,k<N->ρ[k]?=some k:=by decide):T P N c Q (mkA n l) aw:=T.weakR h (wk nl ρ k hw hc hn h1 h2)
section
variable {ρ:List Nat} {n0 n1:Nat}
def bkC (n0:Nat):List Nat->Nat->(Nat->Prop)->Prop
 | [],i,K=>K (n0+i)
 | j::ρ,i,K=>(match i with
  | 0=>K j
  | i+1=>bkC n0 ρ i K)
def bkK (ρ:List Nat) (n0 n1 i:Nat) (K:Nat->Prop):Prop :=
 match Nat.blt i n1 with
 | true=>bkC n0 ρ i K
 | false=>False
theorem qi:∀ {ρ:List Nat} {i:Nat} {K:Nat->Prop},bkC n0 ρ i K->K (if i<ρ.length then ρ.getD i 0 else n0+(i - ρ.length))
 | [],i,K,h=>by assumption
 | j::ρ,0,K,h=>h
 | j::ρ,i+1,K,h=>by have:=qi (ρ:=ρ) (i:=i) (K:=K) h;grind
theorem dD {i:Nat} {K:Nat->Prop} (h:bkK ρ n0 n1 i K):∃ j,(j,i)∈aO ρ n0 n1/\K j:=by
 unfold bkK at h;split at h
 ·rename_i hb;refine ⟨_,?_,qi h⟩;simp_all [aO]
 grind
def bkL (f:AV->(AV->Prop)->Prop):List AV->(List AV->Prop)->Prop
 | [],K=>K []
 | a::es,K=>f a fun b=>bkL f es fun bs=>K (b::bs)
def bkA (ρ:List Nat) (n0 n1:Nat):Nat->AV->(AV->Prop)->Prop
 | k,a,K=>match a with
  | .ref i=>bkK ρ n0 n1 i fun i=>K (.ref i)
  | .ptr i o=>bkK ρ n0 n1 i fun i=>K (.ptr i o)
  | .mpr i=>bkK ρ n0 n1 i fun i=>K (.mpr i)
  | .np i=>bkK ρ n0 n1 i fun i=>K (.np i)
  | .agg cs=>(match k with
   | 0=>False
   | k+1=>bkL (bkA ρ n0 n1 k) cs fun cs=>K (.agg cs))
  | .tup cs=>(match k with
   | 0=>False
   | k+1=>bkL (bkA ρ n0 n1 k) cs fun cs=>K (.tup cs))
  | .func f cs=>(match k with
   | 0=>False
   | k+1=>bkL (bkA ρ n0 n1 k) cs fun cs=>K (.func f cs))
  | .bnd f cs=>(match k with
   | 0=>False
   | k+1=>bkL (bkA ρ n0 n1 k) cs fun cs=>K (.bnd f cs))
  | .iref _ _ | .aptr _ _ _ _=>False
  | a=>fA a K
theorem fh {k:Nat} (ih:∀ {a:AV} {K:AV->Prop},bkA ρ n0 n1 k a K->∃ b,K b/\(gA k a->RenM (aO ρ n0 n1) b a)):∀ {es:List AV} {K:List AV->Prop},bkL (bkA ρ n0 n1 k) es K->∃ bs,K bs/\((∀ a,a∈es->gA k a)->cz (aO ρ n0 n1) bs es)
 | [],K,h=>⟨[],h,fun _=>trivial⟩
 | a::es,K,h=>by obtain ⟨b,h1,h2⟩:=ih h;obtain ⟨bs,h3,h4⟩:=fh ih h1;exact ⟨b::bs,h3,fun hg=>⟨h2 (hg _ (.head _)),h4 fun x hx=>hg x (.tail _ hx)⟩⟩
theorem j6:∀ {k:Nat} {a:AV} {K:AV->Prop},bkA ρ n0 n1 k a K->∃ b,K b/\(gA k a->RenM (aO ρ n0 n1) b a):=by
 intro k;induction k with
 | zero =>
  intro a K h;cases a with
  | ref i=>obtain ⟨j,h1,h2⟩:=dD h;grind [qd]
  | ptr i o=>obtain ⟨j,h1,h2⟩:=dD h;grind [p6]
  | aptr i s x o=>exact h.elim
  | mpr i=>obtain ⟨j,h1,h2⟩:=dD h;grind [p7]
  | np i=>obtain ⟨j,h1,h2⟩:=dD h;grind [rm_np]
  | agg cs=>exact h.elim
  | tup cs=>exact h.elim
  | func f cs=>exact h.elim
  | bnd f cs=>exact h.elim
  | iref i j=>exact h.elim
  | any=>exact ⟨_,h,fun _=>qe⟩
  | int q x=>exact ⟨_,h,fun _=>bu (ao _ _)⟩
  | bool b=>exact ⟨_,h,fun _=>bu (dw _)⟩
  | str s=>exact ⟨_,h,fun _=>bu (ej _)⟩
  | nils=>exact ⟨_,h,fun _=>bu g7⟩
  | nilf=>exact ⟨_,h,fun _=>bu g6⟩
  | nilp=>exact ⟨_,h,fun _=>bu ji⟩
  | nili=>exact ⟨_,h,fun _=>bu jl⟩
  | sl rows=>exact ⟨_,h,fun g=>bu (by assumption)⟩
  | elt row off=>exact ⟨_,h,fun g=>bu (by assumption)⟩
  | cst v=>exact ⟨_,h,fun g=>by grind [gA]⟩
  | vw a1 a2 a3 a4 a5=>exact ⟨_,h,fun g=>by grind [gA]⟩
  | ref2 i=>exact ⟨_,h,fun g=>by grind [gA]⟩
  | aptr2 i j=>exact ⟨_,h,fun g=>by grind [gA]⟩
  | ifc t a1=>exact ⟨_,h,fun g=>by grind [gA]⟩
 | succ k ih =>
  intro a K h;cases a with
  | ref i=>obtain ⟨j,h1,h2⟩:=dD h;grind [qd]
  | ptr i o=>obtain ⟨j,h1,h2⟩:=dD h;grind [p6]
  | aptr i s x o=>exact h.elim
  | mpr i=>obtain ⟨j,h1,h2⟩:=dD h;grind [p7]
  | np i=>obtain ⟨j,h1,h2⟩:=dD h;grind [rm_np]
  | agg cs=>obtain ⟨bs,h1,h2⟩:=fh ih h;grind [wS,gA]
  | tup cs=>obtain ⟨bs,h1,h2⟩:=fh ih h;grind [w6,gA]
  | func f cs=>obtain ⟨bs,h1,h2⟩:=fh ih h;grind [we,gA]
  | bnd f cs=>obtain ⟨bs,h1,h2⟩:=fh ih h;grind [xj,gA]
  | iref i j=>exact h.elim
  | any=>exact ⟨_,h,fun _=>qe⟩
  | int q x=>exact ⟨_,h,fun _=>bu (ao _ _)⟩
  | bool b=>exact ⟨_,h,fun _=>bu (dw _)⟩
  | str s=>exact ⟨_,h,fun _=>bu (ej _)⟩
  | nils=>exact ⟨_,h,fun _=>bu g7⟩
  | nilf=>exact ⟨_,h,fun _=>bu g6⟩
  | nilp=>exact ⟨_,h,fun _=>bu ji⟩
  | nili=>exact ⟨_,h,fun _=>bu jl⟩
  | sl rows=>exact ⟨_,h,fun g=>bu (by assumption)⟩
  | elt row off=>exact ⟨_,h,fun g=>bu (by assumption)⟩
  | cst v=>exact ⟨_,h,fun g=>by grind [gA]⟩
  | vw a1 a2 a3 a4 a5=>exact ⟨_,h,fun g=>by grind [gA]⟩
  | ref2 i=>exact ⟨_,h,fun g=>by grind [gA]⟩
  | aptr2 i j=>exact ⟨_,h,fun g=>by grind [gA]⟩
  | ifc t a1=>exact ⟨_,h,fun g=>by grind [gA]⟩
def bkO (ρ:List Nat) (n0 n1:Nat) (o:Ob) (K:Ob->Prop):Prop :=
 match o with
 | .dead=>K .dead
 | .box cs=>bkL (bkA ρ n0 n1 3) cs fun cs=>K (.box cs)
 | .boxB t cs=>bkL (bkA ρ n0 n1 3) cs fun cs=>K (.boxB t cs)
 | .hd e k=>bkK ρ n0 n1 k fun k=>K (.hd e k)
 | .arr e s rows=>K (.arr e s rows)
 | .mp ks vs=>K (.mp ks vs)
 | .cl e s cells=>K (.cl e s cells)
 | _=>False
theorem p8 {o:Ob} {K:Ob->Prop} (h:bkO ρ n0 n1 o K):∃ b,K b/\(gO o->RenOM (aO ρ n0 n1) b o):=by
 cases o with
 | dead=>exact ⟨_,h,fun _=>trivial⟩
 | box cs=>obtain ⟨bs,h1,h2⟩:=fh j6 h;exact ⟨_,h1,fun g=>h2 g⟩
 | boxB t cs=>obtain ⟨bs,h1,h2⟩:=fh j6 h;exact ⟨_,h1,fun g=>⟨rfl,h2 g⟩⟩
 | hd e k=>obtain ⟨j,h1,h2⟩:=dD h;exact ⟨_,h2,fun _=>⟨rfl,h1⟩⟩
 | arr e s rows=>exact ⟨_,h,fun g=>⟨rfl,rfl,rfl,g⟩⟩
 | mp ks vs=>exact ⟨_,h,fun g=>⟨kP fun c hc=>g c (List.mem_append_left _ hc),kP fun c hc=>g c (List.mem_append_right _ hc)⟩⟩
 | cl e s cells=>exact ⟨_,h,fun g=>⟨rfl,rfl,rfl,g⟩⟩
 | arrU e s rows x=>exact h.elim
def pkC (n0 n1:Nat) (ρ0:List Nat) (j:Nat) (o:Ob) (K:Ob->Prop):List Nat->List Ob->Prop
 | [],_=>K o
 | i::ρ,os=>(match os with
  | []=>False
  | o1::os=>(match Nat.beq i j with
   | true=>bkO ρ0 n0 n1 o1 K
   | false=>pkC n0 n1 ρ0 j o K ρ os))
def exC (ρ:List Nat) (n0 n1:Nat):List Ob->(List Ob->Prop)->Prop
 | [],K=>K []
 | o::os,K=>bkO ρ n0 n1 o fun o=>exC ρ n0 n1 os fun os=>K (o::os)
def bwC (ρ:List Nat) (n0 n1:Nat) (aw1:List Ob):Nat->List Ob->(List Ob->Prop)->Prop
 | _,[],K=>dropC aw1 ρ.length fun os=>exC ρ n0 n1 os K
 | j,o::r,K=>pkC n0 n1 ρ j o (fun o=>bwC ρ n0 n1 aw1 (j+1) r fun l=>K (o::l)) ρ aw1
theorem pS {aw1:List Ob} (hg:∀ o,o∈aw1->gO o) (hl:aw1.length=n1) {j:Nat} {o:Ob} {K:Ob->Prop}:∀ {ρ1:List Nat} {os:List Ob} {k:Nat},ρ.drop k=ρ1->aw1.drop k=os->pkC n0 n1 ρ j o K ρ1 os ->
  ∃ b,K b/\((∃ k o1,(j,k)∈aO ρ n0 n1/\aw1[k]?=some o1/\RenOM (aO ρ n0 n1) b o1)∨(ρ1.contains j=false/\b=o))
 | [],os,k,_,_,h=>⟨o,h,.inr ⟨rfl,rfl⟩⟩
 | i::ρ1,[],k,_,_,h=>h.elim
 | i::ρ1,o1::os,k,h1,h2,h=>by
  have e1:ρ[k]?=some i:=by have:=congrArg List.head? h1;simpa using this
  have e2:aw1[k]?=some o1:=by have:=congrArg List.head? h2;simpa using this
  simp only [pkC] at h;split at h
  ·rename_i hb;have:=zw hb;subst this;obtain ⟨b,h3,h4⟩:=p8 h;have hk:k<ρ.length:=(yX.1 e1).1;have hk1:k<n1:=by grind
   refine ⟨b,h3,.inl ⟨k,o1,?_,e2,h4 (hg _ (yZ e2))⟩⟩;simp_all [aO]
  ·rename_i hb;obtain ⟨b,h3,h4⟩:=pS hg hl (k:=k+1) (by grind [List.tail_drop]) (by grind [List.tail_drop]) h;refine ⟨b,h3,h4.imp id fun ⟨h5,h6⟩=>⟨?_,h6⟩⟩;rw [List.contains_cons,h5,Bool.or_false];cases he:j==i;all_goals simp_all
theorem p9 {aw aw1:List Ob} (hg:∀ o,o∈aw1->gO o) (hl:aw1.length=n1) (hr:ρ.length<=n1):∀ {os:List Ob} {j:Nat} {K:List Ob->Prop},aw1.drop (ρ.length+j)=os->exC ρ n0 n1 os K->∃ bs,K bs/\dk (aO ρ n0 n1) ρ aw aw1 (n0+j) bs/\bs.length=os.length
 | [],j,K,_,h=>⟨[],h,trivial,rfl⟩
 | o::os,j,K,h1,h=>by
  have e1:aw1[ρ.length+j]?=some o:=by have:=congrArg List.head? h1;simpa using this
  obtain ⟨b,h2,h3⟩:=p8 h;obtain ⟨bs,h4,h5,h6⟩:=p9 (aw:=aw) hg hl hr (j:=j+1) (by grind [List.tail_drop]) h2;refine ⟨b::bs,h4,⟨.inl ⟨ρ.length+j,o,?_,e1,h3 (hg _ (yZ e1))⟩,by omega⟩,by simp [h6]⟩;unfold aO;grind
theorem lE {aw aw1:List Ob} (hg:∀ o,o∈aw1->gO o) (hl:aw1.length=n1) (hn:aw.length=n0):∀ {l:List Ob} {j:Nat} {K:List Ob->Prop},aw.drop j=l->j<=n0->bwC ρ n0 n1 aw1 j l K->∃ bs,K bs/\dk (aO ρ n0 n1) ρ aw aw1 j bs/\bs.length+ρ.length=l.length+n1
 | [],j,K,h0,hj,h=>by
  obtain ⟨h1,h⟩:=ld h;have hj':j=n0:=by simp_all<;>omega
  subst hj';obtain ⟨bs,h2,h3,h4⟩:=p9 (aw:=aw) hg hl (by omega) (j:=0) rfl h;grind
 | o::r,j,K,h0,hj,h=>by
  have e1:aw[j]?=some o:=by have:=congrArg List.head? h0;simpa using this
  have hjl:j<aw.length:=(yX.1 e1).1;obtain ⟨b,h1,h2⟩:=pS (k:=0) hg hl rfl rfl h;obtain ⟨bs,h3,h4,h5⟩:=lE hg hl hn (j:=j+1) (by grind [List.tail_drop]) (by omega) h1;refine ⟨b::bs,h3,⟨h2.imp id fun ⟨h6,h7⟩=>⟨h6,by grind⟩,h4⟩,?_⟩;grind
def cgC (n:Nat) (l:List (Nat × AV)) (aw:List Ob) (ρ:List Nat) (n0 n1:Nat) (f:Operand) (args:List Operand) (h:Nat) (as0:List AV) (aw0:List Ob) (v:AV) (aw1:List Ob) (K:AV->List Ob->Prop):Prop :=
 match evA n l f with
 | .func g caps=>(match Nat.beq g h with
  | true=>evsC n l args fun es=>appC es caps fun ac=>mpC (mpA ρ 3) as0 ac fun bs=>mpOs ρ aw ρ aw0 fun bs' es'=>(bs,bs')=(ac,es')/\bkA ρ n0 n1 3 v fun v=>bwC ρ n0 n1 aw1 0 aw fun aw2=>K v aw2
  | false=>False)
 | .bnd g fs=>(match Nat.beq g h with
  | true=>evsC n l args fun es=>appC fs es fun ac=>mpC (mpA ρ 3) as0 ac fun bs=>mpOs ρ aw ρ aw0 fun bs' es'=>(bs,bs')=(ac,es')/\bkA ρ n0 n1 3 v fun v=>bwC ρ n0 n1 aw1 0 aw fun aw2=>K v aw2
  | false=>False)
 | _=>False
theorem cG {d:Option Tmp} {ty:TypeId} {ps:String} {af:Array Edge} {gd:Option (Nat × Bool)} {K2:AV->List Ob->Prop} {f:Operand} {args:Array Operand} {ts:Array TypeId} {h:FuncId} {as0:List AV} {aw0 aw1:List Ob} {v:AV} (ρ:List Nat) (n0 n1:Nat) (hC:FnX P h as0 aw0 v aw1)
  (hx:cgC n l aw ρ n0 n1 f args.toList h as0 aw0 v aw1 K2) [ga:GoodAs 3 as0] [go:GoodOs aw0] [gv:GoodA 3 v] [g1:GoodOs aw1] (hn0:aw.length=n0:=by rfl) (hn1:aw1.length=n1:=by rfl) (hnd:ρ.Nodup:=by decide):OP P N ⟨d,.call ⟨.value f,args,ts⟩,ty,ps,af,gd⟩ (mkA n l) aw K2:=by
 unfold cgC at hx
 split at hx
 ·rename_i g caps hf
  split at hx
  ·rename_i hb
   have:=zw hb
   subst this
   have hx:=jN (ig hx)
   obtain ⟨bs,hx,h2⟩:=dE (ρ:=ρ) fj hx
   obtain ⟨bs',es',hx,h3⟩:=fb hx
   obtain ⟨he,hx⟩:=hx
   injection he with e1 e2
   obtain ⟨v',hx,h4⟩:=j6 hx
   obtain ⟨aw2,hx,h5,h6⟩:=lE g1.out hn1 hn0 (j:=0) rfl (zu _) hx
   exact vQ ρ hn0 hn1 hf rfl hnd (h3 go.out e2) (h2 ga.out e1) hC (by grind) (h4 gv.out) h5 hx
  grind
 ·rename_i g caps hf
  split at hx
  ·rename_i hb
   have:=zw hb
   subst this
   have hx:=jN (ig hx)
   obtain ⟨bs,hx,h2⟩:=dE (ρ:=ρ) fj hx
   obtain ⟨bs',es',hx,h3⟩:=fb hx
   obtain ⟨he,hx⟩:=hx
   injection he with e1 e2
   obtain ⟨v',hx,h4⟩:=j6 hx
   obtain ⟨aw2,hx,h5,h6⟩:=lE g1.out hn1 hn0 (j:=0) rfl (zu _) hx
   exact uR ρ hn0 hn1 hf rfl hnd (h3 go.out e2) (h2 ga.out e1) hC (by grind) (h4 gv.out) h5 hx
  grind
 grind
end
theorem nB {c:Code} (b j e z k:Nat) (h:aF aw b fun o=>(match o with
  | .box cs=>aF cs j fun v=>(match v with
   | .nils=>setC cs j (.ref k) fun cs=>setC aw b (.box cs) fun aw=>pushC aw (.arr e z []) fun aw=>T P N c Q (mkA n l) aw
   | _=>False)
  | _=>False)) (hk:aw.length=k:=by rfl):T P N c Q (mkA n l) aw:=by
 subst hk
 obtain ⟨o,h1,h⟩:=aD h
 split at h
 ·obtain ⟨v,h2,h⟩:=aD h
  split at h
  ·exact T.nilB b j e z h1 h2 rfl rfl (fS (fa (fa h)))
  grind
 grind
def bm (n k:Nat):Array Bool:=((List.range n).map k.testBit).toArray
end
end
section
open Go.RowKit
section
variable {P:Program} {N n:Nat} {aw aw':List Ob} {l:List (Nat × AV)} {σ:List Value} {w:World} {F:Nat→Prop}
theorem Mv.lose (id:Nat):Mv aw σ w F (aw.set id .dead) σ w F :=
 ⟨rfl,rfl,drO,y5 _,fun _ _ _=>rfl,fun _ _ h=>h,fun _ h=>h,fun _ h=>.inl h,fun _ hb=>.inl hb.set_dead⟩
theorem Sim.take (h:Sim aw σ w F) (o:Ob) (v:Value) (ho:ORel (σ++[v]) w F o v) (hn:∀ b,Bk o v b->¬ Dof aw σ b):Sim (aw++[o]) (σ++[v]) w F :=
 h.push2 o v (fun _ _=>rfl) (y5 _) ho hn
theorem Mv.take {aw0:List Ob} {σ0:List Value} (h:Sim aw σ w F) (m:Mv aw0 σ0 w F aw σ w F) (o:Ob) (v:Value) (hb:∀ b,Bk o v b->Dof aw0 σ0 b):Mv aw0 σ0 w F (aw++[o]) (σ++[v]) w F:=by
 refine ⟨rfl,rfl,drO,y5 _,fun _ _ _=>rfl,fun i u hu=>bP (m.pre i u hu),fun _ h=>h,fun _ h=>.inl h,fun b hb1=>?_⟩;obtain ⟨k,o1,v1,ho1,hl,hv1,hb2⟩:=hb1;rcases ce ho1 with h1 | ⟨rfl,rfl⟩
 ·have hlt:=(yX.1 h1).1;rw [y9 (by rw [h.len];exact hlt)] at hv1;exact m.own b ⟨k,o1,v1,h1,hl,hv1,hb2⟩
 ·rw [<- h.len] at hv1;grind
end
end
section
open Go.RowKit
def PanX (P:Program) (V:Value) (f:FuncId) (args:List AV) (aw:List Ob):Prop :=
 (∀ vs w,(callFunc f vs).run P w=.ok (.enter f vs) w) /\
 ∀ w F σ vs,Sim aw σ w F->RelL σ w F args vs->Calls P f vs.toArray w fun e w'=>∃ σ' F',e=.panicked [{ v:=V,recovered:=false }]/\Sim (aw.map fun _=>Ob.dead) σ' w' F'/\Mv aw σ w F (aw.map fun _=>Ob.dead) σ' w' F'
section
variable {P:Program} {V:Value} {N n:Nat} {fr:List AV} {aw aw':List Ob} {l:List (Nat × AV)}
structure PP (P:Program) (V:Value) (N:Nat) (o:Oper) (fr:List AV) (aw:List Ob) (Kp:List AV->List Ob->Prop):Prop where
 out:∀ st:St,st.aw.length=N->st.σ.length=st.aw.length->∀ σ w F a,Cur st fr aw σ w F a->∀ (Kc:Act->World->Prop) (Q:Exit->Act->World->Prop),
  (∀ aw' σ' w' F',Kp fr aw'->Cur st fr aw' σ' w' F' a->Q (.panic [{ v:=V,recovered:=false }]) a w')->o.wp P a w Kc Q
theorem sV {o:Oper} {a:Act} {next next':Act->World->Prop} {Q Q':Exit->Act->World->Prop} (hn:∀ a w,next a w->next' a w) (hp:∀ ch a w,Q (.panic ch) a w->Q' (.panic ch) a w) (hl:LetsOut Q->LetsOut Q') :
  ∀ r,o.upon P a next Q r->o.upon P a next' Q' r:=by
 intro r h
 unfold Oper.upon at h ⊢
 grind [Calls.mono,Rows.mono]
def thenL (P:Program) (ops:Array Oper) (rest:List Oper) (Q:Exit->Act->World->Prop):Exit->Act->World->Prop
 | .normal,a,w=>wpList P ops Q rest a w
 | e,a,w=>Q e a w
theorem jj {ops:Array Oper} {Q:Exit->Act->World->Prop} {rest:List Oper}:∀ (pre:List Oper) (a:Act) (w:World),wpList P ops (thenL P ops rest Q) pre a w->wpList P ops Q (pre++rest) a w
 | [],a,w,h=>h
 | o::pre,a,w,h=>by
  rw [zA];unfold wpList at h ⊢;split at h
  ·rename_i hw;rw [if_pos hw];rcases h with h | ⟨h1,h2⟩
   ·exact .inl (sV (fun a w h=>jj pre a w h) (fun _ _ _ h=>h) (fun h=>h) _ h)
   ·exact .inr ⟨h1,h2⟩
  ·rename_i hw;rw [if_neg hw];exact jj pre _ w h
theorem PP.call {d:Option Tmp} {ty:TypeId} {ps:String} {af:Array Edge} {g:Option (Nat × Bool)} {Kp:List AV->List Ob->Prop} {f:Operand} {args:Array Operand} {ts:Array TypeId} {h:FuncId} {caps ac as0:List AV} {aw0 aw2:List Ob} {n0:Nat} (ρ:List Nat) (hn0:aw.length=n0)
  (hf:evA n l f=.func h caps) (ha:args.toList.map (evA n l)++caps=ac) (hnd:ρ.Nodup) (hW:aI ρ aw ρ aw0) (hA:aY ρ as0 ac) (hC:PanX P V h as0 aw0) (hlen:aw2.length+ρ.length=n0+aw0.length)
  (hB:dk (aO ρ n0 aw0.length) ρ aw (aw0.map fun _=>Ob.dead) 0 aw2) (hK:Kp (mkA n l) aw2):PP P V N ⟨d,.call ⟨.value f,args,ts⟩,ty,ps,af,g⟩ (mkA n l) aw Kp :=
 ⟨fun st h1 h2 σ w F a hc Kc Q hk=>by
  subst hn0;have hfv:=hc.fr.ev f;rw [ab,hf] at hfv;generalize hvf:a.eval f=vf at hfv;cases hfv with
  | func _ _ cvs hl hcs =>
   have hargs:RelL σ w F ac (args.toList.map a.eval++cvs):=by rw [<- ha];have:=ea hc.fr args.toList;rw [show args.toList.map (ev (mkA n l))=args.toList.map (evA n l) from zI fun x _=>ab n l x] at this;exact this.append ⟨hl,hcs⟩
   obtain ⟨hlW,hgW⟩:=d9 hW;obtain ⟨σ0',hσ',hs0',hd0'⟩:=ep hc.sim hnd hW;have hl0:σ0'.length=ρ.length:=by rw [hs0'.len,hlW]
   have hr0:RelL σ0' w F as0 (args.toList.map a.eval++cvs):=bU hA hargs hσ';have hrun:(execOp a.eval ⟨d,.call ⟨.value f,args,ts⟩,ty,ps,af,g⟩).run P w=.ok (.enter h (args.toList.map a.eval++cvs).toArray) w:=by
    have e:args.map a.eval++cvs.toArray=(args.toList.map a.eval++cvs).toArray:=by simp
    simp only [execOp,resolve,Deferred.ofValue,hvf,Sem.run_bind,Sem.run_pure,Result.andThen_ok,invoke,Array.empty_append,e,hC.1]
   unfold Oper.wp;rw [hrun];refine (hC.2 w F σ0' _ hs0' hr0).mono ?_;rintro e w' ⟨σ1,F',rfl,hs1,hm⟩;obtain ⟨σ2,s2,m2,hσ2⟩:=jg (aw2:=aw2) hc.sim hnd hW hσ' hl0 hs0' hd0' hs1 hm (by grind) (by grind);exact hk aw2 σ2 w' F' hK (hc.step s2 m2)⟩
def panQ (V:Value):Exit->List AV->List Ob->Prop
 | .panic ch,_,_=>ch=[{ v:=V,recovered:=false }]
 | _,_,_=>False
end
end
section
open Go.RowKit
section
variable {P:Program} {N n:Nat} {σ:List Value} {w:World} {F:Nat→Prop} {aw aw':List Ob} {l:List (Nat × AV)} {K2:AV→List Ob→Prop} {d:Option Tmp} {ty:TypeId} {ps:String} {af:Array Edge} {g:Option (Nat × Bool)}
theorem vW {id:Nat} {o o':Ob} {v:Value} (h:Sim aw σ w F) (ho:aw[id]?=some o) (hl:o.live=true) (hv:σ[id]?=some v) (hr:ORel σ w F o' v) (hb:∀ b,Bk o' v b->Bk o v b) :
  Sim (aw.set id o') σ w F/\∀ b,Dof (aw.set id o') σ b->Dof aw σ b:=by
 have old:∀ (k:Nat) p u b,(aw.set id o')[k]?=some p->p.live=true->σ[k]?=some u->Bk p u b->∃ q,aw[k]?=some q/\q.live=true/\Bk q u b:=fun k p u b hp hpl hu hbk=>by grind
 refine ⟨⟨by rw [zM];exact h.len,fun k p u hp hu=>?_,fun k k' p p' u u' b hne hp hp' hpl hpl' hu hu' hbk hbk'=>?_,h.lt,h.gd⟩,fun b hd=>?_⟩
 ·rcases bK hp with ⟨rfl,rfl,_⟩ | ⟨_,h2⟩
  ·grind
  ·exact h.obj k p u h2 hu
 ·obtain ⟨q,h1,h2,h3⟩:=old k p u b hp hpl hu hbk
  obtain ⟨q',h1',h2',h3'⟩:=old k' p' u' b hp' hpl' hu' hbk'
  exact h.sep k k' q q' u u' b hne h1 h1' h2 h2' hu hu' h3 h3'
 ·obtain ⟨k,p,u,hp,hpl,hu,hbk⟩:=hd
  obtain ⟨q,h1,h2,h3⟩:=old k p u b hp hpl hu hbk
  exact ⟨k,q,u,h1,h2,hu,h3⟩
theorem xx {aw0 aw2:List Ob} {σ0:List Value} {w0:World} {F0:Nat->Prop} (h:Mv aw0 σ0 w0 F0 aw σ w F) (hd:∀ b,Dof aw2 σ b->Dof aw σ b):Mv aw0 σ0 w0 F0 aw2 σ w F :=
 ⟨h.os,h.tape,h.output,h.size,h.keep,h.pre,h.sub,h.sup,fun b hb=>h.own b (hd b hb)⟩
def unB:Ob->Ob
 | .boxB _ cs=>.box cs
 | o=>o
theorem ot (o:Ob):(unB o).live=o.live:=by cases o<;>rfl
theorem pV {o:Ob} {v:Value} {b:Nat}:Bk (unB o) v b ↔ Bk o v b:=by cases o<;>exact Iff.rfl
theorem wD (h:Sim aw σ w F):Sim (aw.map unB) σ w F:=by
 have old:∀ (k:Nat) p,(aw.map unB)[k]?=some p->∃ q,aw[k]?=some q/\p=unB q:=fun k p hp=>by grind
 refine ⟨by rw [zf];exact h.len,fun k p u hp hu=>?_,fun k k' p p' u u' b hne hp hp' hpl hpl' hu hu' hbk hbk'=>?_,h.lt,h.gd⟩
 ·obtain ⟨q,h1,rfl⟩:=old k p hp;have hr:=h.obj k q u h1 hu;cases q with
  | boxB t cs =>
   obtain ⟨g,vs,e1,hg,hr1,h11,hf⟩:=hr;exact ⟨g,vs,t,e1,hg,hr1,h11,hf⟩
  | _=>exact hr
 ·obtain ⟨q,h1,rfl⟩:=old k p hp;obtain ⟨q',h1',rfl⟩:=old k' p' hp';exact h.sep k k' q q' u u' b hne h1 h1' (by grind [ot]) (by grind [ot]) hu hu' (pV.1 hbk) (pV.1 hbk')
theorem OP.qB {o:Oper} (hq:∀ K:AV->Prop,vcQ P (mkA n l) (aw.map unB) o.op K->∀ σ w F a,ARel σ w F (mkA n l) a->Sim (aw.map unB) σ w F->∃ v r,(execOp a.eval o).run P w=.ok (.value v) w/\Rel σ w F r v/\K r)
  (h:vcQ P (mkA n l) (aw.map unB) o.op fun r=>K2 r aw):OP P N o (mkA n l) aw K2 :=
 OP.of_ok fun σ w F a ha hs=>by obtain ⟨v,r,h1,h2,h3⟩:=hq _ h σ w F a ha (wD hs);exact ⟨v,_,w,aw,σ,F,r,h1,.inl rfl,hs,.refl _ _ _ _,h2,h3⟩
theorem OP.qB' {o:Oper} (h:vcQ P (mkA n l) (aw.map unB) o.op fun r=>K2 r aw):OP P N o (mkA n l) aw K2 :=
 OP.qB (fun K hK σ w F a ha hs=>by obtain ⟨v,r,h1,h2,h3⟩:=lF ha hs o hK;exact ⟨v,r,h1 w (fun _ _=>rfl),h2,h3⟩) h
theorem uV {t:TypeId} {x y:Operand} {id off T:Nat} {cs vs:List AV} (hx:evA n l x=.ptr id off) (hob:aw[id]?=some (.boxB T cs)) (hvs:(evA n l y).cells=some vs) {du:TypeDesc} (hsome:P.underlying t=some du) (hlen:vs.length=P.cellsOf t) (hfit:off+vs.length<=cs.length)
  (haw:aw.set id (.boxB T (splice cs off vs))=aw') (h:K2 .any aw'):OP P N ⟨d,.store t x y,ty,ps,af,g⟩ (mkA n l) aw K2 :=
 OP.of_ok fun σ w F a ha hs=>by
  subst haw;have hex:=ha.ev x;rw [ab,hx] at hex;obtain ⟨hr,h1⟩:=(ha.ev y).cells (by rw [ab];exact hvs);generalize hv:a.eval x=vx at hex;cases hex with
  | ptr _ _ gg hσ =>
   obtain ⟨g',cur,e1,hg,hcr,hc1,hF⟩:=hs.obj id _ _ hob hσ;injection e1 with e1
   injection e1 with e1
   injection e1 with e1
   subst e1;have hcl:cur.size=cs.length:=by simpa using hcr.1
   have hul:(a.eval y).cells.toList.length=vs.length:=hr.1;have hst:=run_storeCells_at P gg off T (a.eval y).cells.toList 0 cur w hg (by omega) h1;have hk:∀ b,b≠gg->(w.setRow gg (aL cur.toList off (a.eval y).cells.toList).toArray).heap[b]?=w.heap[b]?:=fun b hb=>setRow_other w gg b _ hb
   have hself:Sim (aw.set id (.boxB T (splice cs off vs))) σ (w.setRow gg (aL cur.toList off (a.eval y).cells.toList).toArray) F:=by
    refine hs.write (b0:=gg) id hob rfl hσ rfl hk (by simp) (.boxB T (splice cs off vs)) ⟨gg,_,rfl,setRow_heap w gg cur _ T (0,0) hg,?_,?_,hF⟩ (fun _ h=>h)
    ·have:=(hcr.splice off hr).mono (σ':=σ) (w':=w.setRow gg (aL cur.toList off (a.eval y).cells.toList).toArray) (F':=F) (fun _ _ e=>e) (fun _ e=>e) (fun b hb=>hk b (fun e=>hF (e▸hb)));omega
    grind [jp]
   refine ⟨undef,_,_,_,σ,F,.any,?_,.inr ⟨rfl,rfl⟩,hself,Mv.write (w:=w) (F:=F) (w':=w.setRow gg _) (b0:=gg) id hob rfl hσ rfl rfl rfl drO hk (by simp) (.boxB T (splice cs off vs)) (fun _ h=>h),.any _,h⟩;simp_all [execOp,Instr.storeAt,Instr.sureAddr,storeVar,ca,aL]
theorem vo {t e z k:Nat} (hz:ae P t=some [.nilp,.nils]) (hk:aw.length=k) (haw:aw++[.boxB t [.np k,.ref (k+1)],.arr e z []]=aw') (h:K2 (.ptr k 0) aw'):OP P N ⟨d,.alloc t,ty,ps,af,g⟩ (mkA n l) aw K2 :=
 OP.of_ok fun σ w F a ha hs=>by
  subst hk haw;obtain ⟨i,v,hi,hiz,hzl,hz1,hzr⟩:=fM hz;obtain ⟨s1,m1,r1⟩:=lj hs [.nilp,.nils] v.cells t (hzr σ w F) hz1;obtain ⟨s2,m2,r2⟩:=jv e z s1;have hlen:=hs.len;have hσ:(σ++[Value.pointer (some ⟨w.heap.size,0,none⟩)]++[Value.slice none 0 0])[aw.length]?=some (Value.pointer (some ⟨w.heap.size,0,none⟩)):=by grind
  have hσ2:(σ++[Value.pointer (some ⟨w.heap.size,0,none⟩)]++[Value.slice none 0 0])[aw.length+1]?=some (Value.slice none 0 0):=by simp_all
  have hid:(aw++[Ob.box [.nilp,.nils]]++[Ob.arr e z []])[aw.length]?=some (Ob.box [.nilp,.nils]):=by simp
  obtain ⟨gq,vs,tyq,e1,hg,hcr,hc1,hF⟩:=s2.obj _ _ _ hid hσ;injection e1 with e1
  injection e1 with e1
  injection e1 with e1
  subst e1;have hty:(w.alloc (.cells v.cells t)).heap[w.heap.size]?=some (.cells v.cells t (0,0)):=by show (w.heap.push _)[w.heap.size]?=_;simp
  rw [hty] at hg;cases hg;have hnew:RelL (σ++[Value.pointer (some ⟨w.heap.size,0,none⟩)]++[Value.slice none 0 0]) (w.alloc (.cells v.cells t)) F [.np aw.length,.ref (aw.length+1)] v.cells.toList:=by
   obtain ⟨hl2,hc⟩:=hcr;refine ⟨hl2,fun j x u hx hu=>?_⟩;match j,hx with
   | 0,hx =>
    cases hx
    have:=hc 0 _ u rfl hu
    cases this
    exact .np0 _
   | 1,hx =>
    cases hx
    have:=hc 1 _ u rfl hu
    cases this
    grind
  obtain ⟨s3,hd3⟩:=vW s2 hid rfl hσ (o':=.boxB t [.np aw.length,.ref (aw.length+1)]) ⟨_,_,rfl,hty,hnew,hc1,hF⟩ (fun _ h=>h);have e3:(aw++[Ob.box [.nilp,.nils]]++[Ob.arr e z []]).set aw.length (.boxB t [.np aw.length,.ref (aw.length+1)])=aw++[.boxB t [.np aw.length,.ref (aw.length+1)],.arr e z []]:=by simp
  rw [e3] at s3 hd3;refine ⟨_,_,_,_,_,F,.ptr aw.length 0,?_,.inl rfl,s3,xx (m1.trans m2) hd3,.ptr _ _ _ hσ,h⟩;simp_all [execOp,Instr.alloc,i7,newVar,newRow]
theorem T.mvBB {T0:Nat} {c:Code} {Q:Exit->List AV->List Ob->Prop} {fr:List AV} (b j id:Nat) {e s n0:Nat} {rows:List (List AV)} {cs cs':List AV} (hb:aw[b]?=some (.boxB T0 cs)) (hj:cs[j]?=some (.ref id)) (ho:aw[id]?=some (.arr e s rows)) (hn:aw.length=n0) (hc:cs.set j (.ref n0)=cs') (ha:(aw.set id .dead).set b (.boxB T0 cs')++[.arr e s rows]=aw') (h:T P N c Q fr aw'):T P N c Q fr aw :=
 ⟨fun st h1 h2 σ w F a hcur=>by
  subst hc ha hn;have hbl:b<aw.length:=(yX.1 hb).1;have hbσ:∃ vb,σ[b]?=some vb:=⟨_,yW (by rw [hcur.sim.len];exact hbl)⟩
  obtain ⟨vb,hvb⟩:=hbσ;obtain ⟨g,vs,rfl,hg,hcr,h1c,hf⟩:=hcur.sim.obj b _ vb hb hvb;obtain ⟨u,hu,hru⟩:=hcr.get hj;cases hru with
  | ref _ A m c2 hgσ =>
   obtain ⟨s1,m1⟩:=pj hcur.sim ho hgσ;have hbid:b≠id:=by grind
   have hb1:(aw.set id .dead++[.arr e s rows])[b]?=some (.boxB T0 cs):=by grind
   have hnew:ORel (σ++[.slice A m c2]) w F (.boxB T0 (cs.set j (.ref aw.length))) (.pointer (some ⟨g,0,none⟩)):=by refine ⟨g,vs,rfl,hg,?_,h1c,hf⟩;have hcr1:=m1.relL hcur.sim hcr;have:=hcr1.set j (Rel.ref (σ:=σ++[.slice A m c2]) (w:=w) (F:=F) aw.length A m c2 (by rw [<- hcur.sim.len];simp));grind [List.set_getElem_self]
   have hvb1:(σ++[.slice A m c2])[b]?=some (.pointer (some ⟨g,0,none⟩)):=bP hvb;have hset:(aw.set id .dead).set b (.boxB T0 (cs.set j (.ref aw.length)))++[Ob.arr e s rows]=(aw.set id .dead++[Ob.arr e s rows]).set b (.boxB T0 (cs.set j (.ref aw.length))):=by grind
   rw [hset] at h;have s2:=s1.write (b0:=g) b hb1 rfl hvb1 rfl (fun _ _=>rfl) rfl _ hnew (fun _ h=>h);have m2:=Mv.write (w:=w) (w':=w) (F:=F) (b0:=g) b hb1 rfl hvb1 rfl rfl rfl drO (fun _ _=>rfl) rfl (.boxB T0 (cs.set j (.ref aw.length))) (fun _ h=>h);exact h.out st h1 h2 _ w F a ⟨s2,m2.aRel s1 (m1.aRel hcur.sim hcur.fr),(hcur.mv.trans m1).trans m2,hcur.ds⟩⟩
theorem rG {t id off T:Nat} {x:Operand} {cs:List AV} (hx:evA n l x=.ptr id off) (ho:aw[id]?=some (.boxB T cs)) (h:aE P t cs off fun r=>K2 r aw):OP P N ⟨d,.load t x,ty,ps,af,g⟩ (mkA n l) aw K2 :=
 OP.qB' (by simp_all [unB,vcQ,ab])
end
end
section
open Go.RowKit
def Idle (P:Program) (d:Deferred):Prop:=∃ fv cap f args,d.target=.fn fv cap/\(∀ w,(invoke d.target d.args).run P w=.ok (.enter f args) w) /\
 ∀ w,CallsD P f args .returning w fun e u' w'=>(∃ v,e=.returned v)/\u'=.returning/\w'=w
def IdleF (P:Program) (g:FuncId) (k:Nat):Prop:=∀ cvs:List Value,cvs.length=k->Idle P ⟨.fn (.func g) cvs.toArray,#[]⟩
section
variable {P:Program} {N n:Nat} {fr:List AV} {aw:List Ob} {l:List (Nat × AV)} {Q:Exit→List AV→List Ob→Prop}
def CQD (P:Program) (st:St) (Q:Exit->List AV->List Ob->Prop) (e:Exit) (a:Act) (w:World):Prop:=CQ st Q e a w∨∃ d,Idle P d/\CQ { st with ds:=[d] } Q e a w
structure TD (P:Program) (N:Nat) (c:Code) (Q:Exit->List AV->List Ob->Prop) (fr:List AV) (aw:List Ob):Prop where
 out:∀ st:St,st.aw.length=N->st.σ.length=st.aw.length->st.ds=[]->∀ σ w F a,Cur st fr aw σ w F a->c.wp P (CQD P st Q) a w
theorem TD.seq {x y:Code} (h:T P N x (thenA (TD P N y Q) Q) fr aw):TD P N (.seq x y) Q fr aw :=
 ⟨fun st h1 h2 h3 σ w F a hc=>wp_seq (wp_mono (h.out st h1 h2 σ w F a hc) (by
  rintro e a' w' ⟨fr',aw',σ',F',hq,hcur⟩;cases e with
  | normal=>exact TD.out hq st h1 h2 h3 σ' w' F' a' hcur
  | _=>exact .inl ⟨fr',aw',σ',F',hq,hcur⟩))⟩
theorem TD.defer {id:Nat} {ops:Array Oper} {y:Code} {ty:TypeId} {ps:String} {af:Array Edge} {f:Operand} {ts:Array TypeId} (i:Nat) (ho:ops.toList.drop i=[⟨none,.defer ⟨.value f,#[],ts⟩,ty,ps,af,none⟩])
  (h:RS P N ops (ops.toList.take i) (fun fr aw=>∃ l caps g,fr=mkA n l/\evA n l f=.func g caps/\IdleF P g caps.length/\T P N y Q (mkA n l) aw) fr aw):TD P N (.seq (.region id ops false) y) Q fr aw :=
 ⟨fun st h1 h2 h3 σ w F a hc=>by
  refine wp_seq (wp_region_list ?_);rw [<- zE i ops.toList,ho];refine jj _ _ _ (h.out st h1 h2 σ w F a hc _ fun fr aw σ w F a hc hK=>?_);obtain ⟨l,caps,g,rfl,hf,hI,hT⟩:=hK;show wpList P ops _ (_::[]) a w;unfold wpList;rw [if_pos (by rfl)];refine .inl ?_;have hfv:=hc.fr.ev f;rw [ab,hf] at hfv;generalize hvf:a.eval f=vf at hfv;cases hfv with
  | func _ _ cvs hl hcs =>
   have hrun:(execOp a.eval ⟨none,.defer ⟨.value f,#[],ts⟩,ty,ps,af,none⟩).run P w=.ok (.defer ⟨.fn (.func g) cvs.toArray,#[]⟩) w:=by simp_all [execOp,resolve,Deferred.ofValue]
   unfold Oper.wp;rw [hrun,Oper.upon_defer];show wpList P ops _ [] _ w;unfold wpList;refine wp_mono (hT.out { st with ds:=[⟨.fn (.func g) cvs.toArray,#[]⟩] } h1 h2 σ w F _ ?_) fun _ _ _ h=>.inr ⟨_,hI cvs hl,h⟩
   refine ⟨hc.sim,hc.fr,hc.mv,?_⟩;have hds:=hc.ds;rw [h3] at hds;show _::a.defers=_;rw [hds]⟩
theorem vj {f:FuncId} {fn:Func} {c:Code} {args:List AV} {aw:List Ob} {Q:AV->List Ob->Prop} {m N:Nat} (hN:aw.length=N) (hf:P.funcs[f]?=some fn) (hb:fn.body=some c) (hname:(fn.name == "runtime.NumGoroutine")=false) (hm:fn.ntmps=m) (hl:Nat.ble args.length m=true)
  (h:TD P N c (retQ P fn N Q) (mkA m (initA 0 args)) aw):ACalls P f args aw Q:=by
 subst hm hN
 refine ⟨callable hf (by rw [hb];rfl) hname,fun w F σ vs hs hr=>?_⟩
 have hc:Cur ⟨aw,σ,w,F,[]⟩ (args++List.replicate (fn.ntmps - args.length) .any) aw σ w F { tmps:=vs.toArray++Array.replicate (fn.ntmps - vs.toArray.size) undef,defers:=[] }:=by
  refine ⟨hs,⟨?_,tqz⟩,.refl ..,rfl⟩;have h2:RelL σ w F (List.replicate (fn.ntmps - args.length) .any) (List.replicate (fn.ntmps - vs.length) undef) :=
   ⟨by simp [hr.1],fun j x v hx hv=>by rw [Ag (yZ hx)];exact .any v⟩
  simpa using hr.append h2
 rw [oB _ _ (zK hl)] at hc
 refine calls_of_wp_defers hf hb (wp_mono (h.out ⟨aw,σ,w,F,[]⟩ rfl hs.len rfl σ w F _ hc) ?_)
 have key:∀ (ds:List Deferred) (a':Act) (w':World) (fr':List AV) (aw':List Ob) (σ':List Value) (F':Nat->Prop),Cur ⟨aw,σ,w,F,ds⟩ fr' aw' σ' w' F' a'->aB P fr' aw' fn.results.toList (Ret aw.length Q aw')->∃ v,(results fn a'.tmps).run P w'=.ok v w' /\
   (∃ v' r aw2 σ2 F2,Ending.returned v=.returned v'/\Q r aw2/\Sim aw2 σ2 w' F2/\Rel σ2 w' F2 r v'/\Mv aw σ w F aw2 σ2 w' F2):=by
  intro ds a' w' fr' aw' σ' F' hcur hq
  obtain ⟨rs,us,h1,⟨nl,z,r',aw2,hW,hQ⟩,h3⟩:=iA hcur.fr hcur.sim _ _ hq
  obtain ⟨σn,sn,h1n,mn⟩:=fK nl hcur.sim h1
  refine ⟨_,kM fn a'.tmps us h3,?_⟩
  have hrel:=lm h1n
  have fin:∀ (r1:AV) (aw1:List Ob) (F1:Nat->Prop),Sim aw1 σn w' F1->Mv aw σ w F aw1 σn w' F1->Rel σn w' F1 r1 (if h:us.length=1 then us[0] else .tuple us.toArray)->WeakR aw.length r1 aw1 r' aw2 ->
    ∃ v' r aw2 σ2 F2,Ending.returned (if h:us.length=1 then us[0] else .tuple us.toArray)=.returned v'/\Q r aw2/\Sim aw2 σ2 w' F2/\Rel σ2 w' F2 r v'/\Mv aw σ w F aw2 σ2 w' F2:=by
   intro r1 aw1 F1 s1 m1 hr1 ⟨ρ,hnd,hρ,hren,hRW⟩
   obtain ⟨σ2,hσ,s2,hd⟩:=ep s1 hnd hRW
   exact ⟨_,r',aw2,σ2,F1,rfl,hQ,s2,hren σn w' F1 _ hr1 σ2 hσ,Mv.ren (st:=⟨aw,σ,w,F,[]⟩) hs.len m1 hρ hσ hd⟩
  cases z with
  | true =>
   obtain ⟨F1,s1,m1,r1⟩:=lh sn hrel
   exact fin _ _ F1 s1 ((hcur.mv.trans mn).trans m1) r1 hW
  | false=>exact fin _ _ F' sn (hcur.mv.trans mn) hrel hW
 have leave:∀ (a':Act) (w':World) (fr':List AV) (aw':List Ob) (σ':List Value) (F':Nat->Prop) (ds:List Deferred),(ds=[]∨∃ d,Idle P d/\ds=[d])->Cur ⟨aw,σ,w,F,ds⟩ fr' aw' σ' w' F' a'->aB P fr' aw' fn.results.toList (Ret aw.length Q aw') ->
   Leaves P fn a'.tmps (fun e w'=>∃ v r aw' σ' F',e=.returned v/\Q r aw'/\Sim aw' σ' w' F'/\Rel σ' w' F' r v/\Mv aw σ w F aw' σ' w' F') a'.defers .returning w':=by
  intro a' w' fr' aw' σ' F' ds hds hcur hq
  have hk:=key ds a' w' fr' aw' σ' F' hcur hq
  have hd:=hcur.ds
  rcases hds with rfl | ⟨d,⟨fv,cap,g,gargs,e1,e2,e3⟩,rfl⟩
  ·rw [hd];exact hk
  ·rw [hd]
   refine ⟨by simp,fv,cap,g,gargs,e1,e2 w',(e3 w').mono ?_⟩
   rintro e u' w'' ⟨⟨v,rfl⟩,rfl,rfl⟩
   exact hk
 rintro e a' w' (⟨fr',aw',σ',F',hq,hcur⟩ | ⟨d,hI,fr',aw',σ',F',hq,hcur⟩)
 ·cases e with
  | normal=>exact leave _ _ _ _ _ _ _ (.inl rfl) hcur hq
  | ret=>exact leave _ _ _ _ _ _ _ (.inl rfl) hcur hq
  | exit id=>exact hq.elim
  | goto l=>exact hq.elim
  | panic ch=>exact hq.elim
  | outgrown=>exact hq.elim
 ·cases e with
  | normal=>exact leave _ _ _ _ _ _ _ (.inr ⟨d,hI,rfl⟩) hcur hq
  | ret=>exact leave _ _ _ _ _ _ _ (.inr ⟨d,hI,rfl⟩) hcur hq
  | exit id=>exact hq.elim
  | goto l=>exact hq.elim
  | panic ch=>exact hq.elim
  | outgrown=>exact hq.elim
end
end
section
open Go.RowKit
def retP (P:Program) (V:Value) (fn:Func) (N:Nat) {R:Type} (Q:R->AV->List Ob->Prop):R ⊕ Unit->Exit->List AV->List Ob->Prop
 | .inl x=>retQ P fn N (Q x)
 | .inr _=>panQ V
section
variable {P:Program} {V:Value} {N n:Nat} {fr:List AV} {aw aw':List Ob} {l:List (Nat × AV)}
instance {fn:Func} {M:Nat} {R:Type} {Q:R->AV->List Ob->Prop} {x:R}:RetI (retP P V fn M Q (.inl x)) (fun fr aw=>aB P fr aw fn.results.toList (Ret M (Q x) aw)):=⟨fun _ _ h=>h⟩
variable {ops:Array Oper} {o:Oper} {d:Option Tmp} {ty:TypeId} {ps:String} {af:Array Edge} {gd:Option (Nat × Bool)}
theorem PP.panic {x:Operand} {t:TypeId} {Kp:List AV->List Ob->Prop} (hx:evA n l x=.ifc t (.agg [])) (hK:Kp (mkA n l) aw):PP P (.iface t (.agg #[])) N ⟨d,.panic x,ty,ps,af,gd⟩ (mkA n l) aw Kp :=
 ⟨fun st h1 h2 σ w F a hc Kc Q hk=>by
  have hfv:=hc.fr.ev x;rw [ab,hx] at hfv;generalize hvf:a.eval x=vf at hfv;cases hfv with
  | ifc _ _ u hu =>
   cases hu with
   | agg _ vs hl hone hcs =>
    have:vs=[]:=y7 (by omega);subst this;unfold Oper.wp;have hrun:(execOp a.eval ⟨d,.panic x,ty,ps,af,gd⟩).run P w=.halt (.panic (.iface t (.agg #[]))) w:=by simp only [execOp,hvf];rfl
    rw [hrun];exact hk aw σ w F hK hc⟩
theorem PP.cal {Kp:List AV->List Ob->Prop} {f:Operand} {args:Array Operand} {ts:Array TypeId} {h:FuncId} {caps ac as0:List AV} {aw0 aw2:List Ob} {n0 n1:Nat} (ρ:List Nat) (hn0:aw.length=n0) (hn1:aw0.length=n1)
 (hf:evA n l f=.func h caps) (ha:args.toList.map (evA n l)++caps=ac) (hnd:ρ.Nodup) (hW:aI ρ aw ρ aw0) (hA:aY ρ as0 ac) (hC:PanX P V h as0 aw0) (hlen:aw2.length+ρ.length=n0+n1)
 (hB:dk (aO ρ n0 n1) ρ aw (aw0.map fun _=>Ob.dead) 0 aw2) (hK:Kp (mkA n l) aw2):PP P V N ⟨d,.call ⟨.value f,args,ts⟩,ty,ps,af,gd⟩ (mkA n l) aw Kp:=by grind [PP.call]
def panE (V:Value) (st:St) (Kp:List Ob->Prop) (e:Exit) (a:Act) (w:World):Prop:=e=.panic [{ v:=V,recovered:=false }]/\∃ fr aw σ F,Cur st fr aw σ w F a/\Kp aw
structure RAP (P:Program) (V:Value) (N:Nat) (ops:Array Oper) (k:Nat) (li:Array Bool) (Kp:List Ob->Prop) (fr:List AV) (aw:List Ob):Prop where
 out:∀ st:St,st.aw.length=N->st.σ.length=st.aw.length->∀ σ w F a,Cur st fr aw σ w F a->wpAny P .any ops (panE V st Kp) k li a w
variable {k:Nat} {li:Array Bool} {Kp:List Ob→Prop}
structure RAO (P:Program) (V:Value) (N:Nat) (ops:Array Oper) (i:Nat) (K:List AV->List Ob->Prop) (Kp:List Ob->Prop) (fr:List AV) (aw:List Ob):Prop where
 out:∀ st:St,st.aw.length=N->st.σ.length=st.aw.length->∀ σ w F a,Cur st fr aw σ w F a->∀ (Kc:Act->World->Prop),
  (∀ fr aw σ w F a,Cur st fr aw σ w F a->K fr aw->Kc a w)->wpOp P ops (panE V st Kp) i Kc a w
theorem RAP.all {rs:List Nat} (hr:Region.ready .any ops li=rs) (hne:rs≠[]) (h:∀ i,i∈rs->RAO P V N ops i (RAP P V N ops k (li.setIfInBounds i true) Kp) Kp fr aw):RAP P V N ops (k+1) li Kp fr aw :=
 ⟨fun st h1 h2 σ w F a hc=>wpAny_all hr hne fun i hi=>(h i hi).out st h1 h2 σ w F a hc _ fun fr aw σ w F a hc hK=>RAP.out hK st h1 h2 σ w F a hc⟩
end
end
section
open Go.RowKit
abbrev pan1 (V:Value):List PanicEntry:=[{ v:=V,recovered:=false }]
abbrev pan2 (V:Value):List PanicEntry:=[{ v:=V,recovered:=true }]
def CatX (P:Program) (V:Value) (g:FuncId) (args:List AV) (aw aw':List Ob):Prop:=∀ w F σ vs,Sim aw σ w F->RelL σ w F args vs ->
 CallsD P g vs.toArray (.panicking (pan1 V)) w fun e u' w'=>(∃ v,e=.returned v)/\u'=.panicking (pan2 V)/\∃ σ' F',Sim aw' σ' w' F'/\Mv aw σ w F aw' σ' w' F'
structure Caught (P:Program) (V:Value) (g:FuncId) (caps:List AV) (aw aw2:List Ob):Prop where
 out:∃ (ρ:List Nat) (as0:List AV) (aw0 aw1:List Ob),ρ.Nodup/\aI ρ aw ρ aw0/\aY ρ as0 caps/\CatX P V g as0 aw0 aw1/\aw2.length+ρ.length=aw.length+aw1.length/\dk (aO ρ aw.length aw1.length) ρ aw aw1 0 aw2
section
variable {P:Program} {V:Value} {N n Nf:Nat} {fr:List AV} {aw aw2:List Ob} {l:List (Nat × AV)} {fn:Func} {Q:AV→List Ob→Prop} {g:FuncId} {caps:List AV}
theorem Caught.run {σ:List Value} {w:World} {F:Nat->Prop} {cvs:List Value} (h:Caught P V g caps aw aw2) (hs:Sim aw σ w F) (hr:RelL σ w F caps cvs) :
  CallsD P g cvs.toArray (.panicking (pan1 V)) w fun e u' w'=>(∃ v,e=.returned v)/\u'=.panicking (pan2 V)/\∃ σ' F',Sim aw2 σ' w' F'/\Mv aw σ w F aw2 σ' w' F':=by
 obtain ⟨ρ,as0,aw0,aw1,hnd,hW,hA,hC,hl,hB⟩:=h.out
 obtain ⟨σ0,hσ,hs0,hd0⟩:=ep hs hnd hW
 have hl0:σ0.length=ρ.length:=by rw [hs0.len,(d9 hW).1]
 refine (hC w F σ0 cvs hs0 (bU hA hr hσ)).mono ?_
 grind [jg]
section
variable {aw:List Ob} {K2:AV→List Ob→Prop} {d:Option Tmp} {ty:TypeId} {ps:String} {af:Array Edge} {gd:Option (Nat × Bool)}
theorem ou (k:Nat) {t ti:TypeId} {its:Array (String × TypeId)} (hu:P.underlying t=some (.interface its)) (u:Value) (w:World):(Op.equalIn (k+1) t (.iface ti u) .nilIface).run P w=.ok false w:=by simp [Op.equalIn,Sem.run_bind,run_underlying hu]
theorem tC {t t2 ti:TypeId} {x y:Operand} {a:AV} {its:Array (String × TypeId)} (hu:P.underlying t=some (.interface its)) (hx:evA n l x=.ifc ti a) (hy:evA n l y=.nili) (h:K2 (.bool true) aw):OP P N ⟨d,.binOp .neq t x y t2,ty,ps,af,gd⟩ (mkA n l) aw K2 :=
 OP.of_ok (fun σ w F ac har hs=>by
  have ex:=har.ev x;have ey:=har.ev y;rw [ab,hx] at ex;rw [ab,hy] at ey;generalize hvx:ac.eval x=vx at ex;generalize hvy:ac.eval y=vy at ey;cases ey;cases ex with
  | ifc _ _ u hu2 =>
   refine ⟨.bool true,_,w,aw,σ,F,_,?_,.inl rfl,hs,.refl ..,.bool true,h⟩;have he:(Op.equalIn Op.maxDepth t (.iface ti u) .nilIface).run P w=.ok false w:=ou 9999 hu u w;simp_all [execOp,eqGuard,binOp,Op.equal])
end
def RecQ (P:Program) (fn:Func) (Nf:Nat) (Q:AV->List Ob->Prop) (V:Value) (g:FuncId) (caps:List AV):Exit->List AV->List Ob->Prop
 | .panic ch,fr,aw=>ch=pan1 V/\∃ aw2,Caught P V g caps aw aw2/\aB P fr aw2 fn.results.toList (Ret Nf Q aw2)
 | e,fr,aw=>retQ P fn Nf Q e fr aw
instance:RetI (RecQ P fn Nf Q V g caps) (fun fr aw=>aB P fr aw fn.results.toList (Ret Nf Q aw)):=⟨fun _ _ h=>h⟩
def CQR (P:Program) (st:St) (fn:Func) (Nf:Nat) (Q:AV->List Ob->Prop) (V:Value) (e:Exit) (a:Act) (w:World):Prop :=
 CQ st (retQ P fn Nf Q) e a w∨∃ (g:FuncId) (caps:List AV) (cvs:List Value) (st':St),Idle P ⟨.fn (.func g) cvs.toArray,#[]⟩/\(∀ w,(callFunc g cvs.toArray).run P w=.ok (.enter g cvs.toArray) w) /\
  RelL st'.σ st'.w st'.F caps cvs/\Sim st'.aw st'.σ st'.w st'.F/\Mv st.aw st.σ st.w st.F st'.aw st'.σ st'.w st'.F/\st'.ds=[⟨.fn (.func g) cvs.toArray,#[]⟩]/\CQ st' (RecQ P fn Nf Q V g caps) e a w
structure TDR (P:Program) (N:Nat) (c:Code) (fn:Func) (Nf:Nat) (Q:AV->List Ob->Prop) (V:Value) (fr:List AV) (aw:List Ob):Prop where
 out:∀ st:St,st.aw.length=N->st.σ.length=st.aw.length->st.ds=[]->∀ σ w F a,Cur st fr aw σ w F a->c.wp P (CQR P st fn Nf Q V) a w
theorem TDR.seq {x y:Code} (h:T P N x (thenA (TDR P N y fn Nf Q V) (retQ P fn Nf Q)) fr aw):TDR P N (.seq x y) fn Nf Q V fr aw :=
 ⟨fun st h1 h2 h3 σ w F a hc=>wp_seq (wp_mono (h.out st h1 h2 σ w F a hc) (by
  rintro e a' w' ⟨fr',aw',σ',F',hq,hcur⟩;cases e with
  | normal=>exact TDR.out hq st h1 h2 h3 σ' w' F' a' hcur
  | _=>exact .inl ⟨fr',aw',σ',F',hq,hcur⟩))⟩
theorem TDR.defer {id:Nat} {ops:Array Oper} {y:Code} {ty:TypeId} {ps:String} {af:Array Edge} {f:Operand} {ts:Array TypeId} (i:Nat) (ho:ops.toList.drop i=[⟨none,.defer ⟨.value f,#[],ts⟩,ty,ps,af,none⟩])
  (h:RS P N ops (ops.toList.take i) (fun fr aw=>∃ (N':Nat) (l:List (Nat × AV)) (caps:List AV) (g:FuncId),aw.length=N'/\fr=mkA n l/\evA n l f=.func g caps/\IdleF P g caps.length/\(∀ vs w,(callFunc g vs).run P w=.ok (.enter g vs) w)/\T P N' y (RecQ P fn Nf Q V g caps) (mkA n l) aw) fr aw):TDR P N (.seq (.region id ops false) y) fn Nf Q V fr aw :=
 ⟨fun st h1 h2 h3 σ w F a hc=>by
  refine wp_seq (wp_region_list ?_);rw [<- zE i ops.toList,ho];refine jj _ _ _ (h.out st h1 h2 σ w F a hc _ fun fr aw σ w F a hc hK=>?_);obtain ⟨_,l,caps,g,rfl,rfl,hf,hI,hcall,hT⟩:=hK;show wpList P ops _ (_::[]) a w;unfold wpList;rw [if_pos (by rfl)];refine .inl ?_;have hfv:=hc.fr.ev f;rw [ab,hf] at hfv;generalize hvf:a.eval f=vf at hfv;cases hfv with
  | func _ _ cvs hl hcs =>
   have hrun:(execOp a.eval ⟨none,.defer ⟨.value f,#[],ts⟩,ty,ps,af,none⟩).run P w=.ok (.defer ⟨.fn (.func g) cvs.toArray,#[]⟩) w:=by simp_all [execOp,resolve,Deferred.ofValue]
   unfold Oper.wp;rw [hrun,Oper.upon_defer];show wpList P ops _ [] _ w;unfold wpList;refine wp_mono (hT.out ⟨aw,σ,w,F,[⟨.fn (.func g) cvs.toArray,#[]⟩]⟩ rfl hc.sim.len σ w F _ ?_) fun _ _ _ h=>.inr ⟨g,caps,cvs,⟨aw,σ,w,F,[⟨.fn (.func g) cvs.toArray,#[]⟩]⟩,hI cvs hl,hcall _,⟨hl,hcs⟩,hc.sim,hc.mv,rfl,h⟩
   refine ⟨hc.sim,hc.fr,.refl ..,?_⟩;have hds:=hc.ds;rw [h3] at hds;show _::a.defers=_;rw [hds]⟩
end
end
section
open Go.RowKit
instance:PureC .nili:=⟨fun _ _ _ _ h _=>by cases h;exact .nili⟩
section
variable {P:Program} {N n:Nat} {l:List (Nat × AV)} {aw:List Ob} {K2:AV→List Ob→Prop} {d:Option Tmp} {ty:TypeId} {ps:String} {af:Array Edge} {gd:Option (Nat × Bool)}
theorem po (k:Nat) {t:TypeId} {its:Array (String × TypeId)} (hu:P.underlying t=some (.interface its)) (w:World):(Op.equalIn (k+1) t .nilIface .nilIface).run P w=.ok true w:=by simp [Op.equalIn,Sem.run_bind,run_underlying hu]
theorem vX {t t2:TypeId} {x:Operand} {its:Array (String × TypeId)} (hu:P.underlying t=some (.interface its)) (hx:evA n l x=.nili) (h:K2 (.bool false) aw):OP P N ⟨d,.binOp .neq t x (.const .nilIface) t2,ty,ps,af,gd⟩ (mkA n l) aw K2 :=
 OP.of_ok (fun σ w F ac har hs=>by have ex:=har.ev x;rw [ab,hx] at ex;generalize hvx:ac.eval x=vx at ex;cases ex;refine ⟨.bool false,_,w,aw,σ,F,_,?_,.inl rfl,hs,.refl ..,.bool false,h⟩;have he:(Op.equalIn Op.maxDepth t .nilIface .nilIface).run P w=.ok true w:=po 9999 hu w;have hvy:ac.eval (.const .nilIface)=.nilIface:=rfl;simp [execOp,hvx,hvy,eqGuard,binOp,Op.equal,Sem.run_bind,he])
theorem lw {t t2:TypeId} {x:Operand} {its:Array (String × TypeId)} (hu:P.underlying t=some (.interface its)) (hx:evA n l x=.nili) (h:K2 (.bool true) aw):OP P N ⟨d,.binOp .eql t x (.const .nilIface) t2,ty,ps,af,gd⟩ (mkA n l) aw K2 :=
 OP.of_ok (fun σ w F ac har hs=>by have ex:=har.ev x;rw [ab,hx] at ex;generalize hvx:ac.eval x=vx at ex;cases ex;refine ⟨.bool true,_,w,aw,σ,F,_,?_,.inl rfl,hs,.refl ..,.bool true,h⟩;have he:(Op.equalIn Op.maxDepth t .nilIface .nilIface).run P w=.ok true w:=po 9999 hu w;have hvy:ac.eval (.const .nilIface)=.nilIface:=rfl;simp [execOp,hvx,hvy,eqGuard,binOp,Op.equal,Sem.run_bind,he])
end
section
variable {P:Program} {N:Nat} {ops:Array Oper} {k:Nat} {li:Array Bool} {K:List AV→List Ob→Prop} {fr:List AV} {aw:List Ob}
theorem ra5 (i1 i2 i3 i4 i5:Nat) (h1:RO P N ops i1 (RA P N ops k (li.setIfInBounds i1 true) K) fr aw) (h2:RO P N ops i2 (RA P N ops k (li.setIfInBounds i2 true) K) fr aw) (h3:RO P N ops i3 (RA P N ops k (li.setIfInBounds i3 true) K) fr aw)
  (h4:RO P N ops i4 (RA P N ops k (li.setIfInBounds i4 true) K) fr aw) (h5:RO P N ops i5 (RA P N ops k (li.setIfInBounds i5 true) K) fr aw) (hr:Region.ready .any ops li=[i1,i2,i3,i4,i5]:=by decide +kernel):RA P N ops (k+1) li K fr aw :=
 RA.all hr (by simp) fun i hi=>by simp at hi;rcases hi with rfl | rfl | rfl | rfl | rfl<;>assumption
end
end
section
open Go.RowKit Go.Shelf
instance {t:TypeId}:PureC (.ifc t .any):=⟨fun _ _ _ _ h _=>by cases h with | ifc _ _ u hu=>exact .ifc _ _ _ (.any _)⟩
section
variable {P:Program} {N:Nat} {d:Option Nat} {ty:TypeId} {ps:String} {af:Array Edge} {gd:Option (Nat × Bool)} {n:Nat} {l:List (Nat × AV)} {aw:List Ob} {K2:AV→List Ob→Prop}
theorem nG {t t2 ti:TypeId} {x y:Operand} {a:AV} {its:Array (String × TypeId)} (hu:P.underlying t=some (.interface its)) (hx:evA n l x=.ifc ti a) (hy:evA n l y=.nili) (h:K2 (.bool false) aw):OP P N ⟨d,.binOp .eql t x y t2,ty,ps,af,gd⟩ (mkA n l) aw K2 :=
 OP.of_ok (fun σ w F ac har hs=>by
  have ex:=har.ev x;have ey:=har.ev y;rw [ab,hx] at ex;rw [ab,hy] at ey;generalize hvx:ac.eval x=vx at ex;generalize hvy:ac.eval y=vy at ey;cases ey;cases ex with
  | ifc _ _ u hu2 =>
   refine ⟨.bool false,_,w,aw,σ,F,_,?_,.inl rfl,hs,.refl ..,.bool false,h⟩;have he:(Op.equalIn Op.maxDepth t (.iface ti u) .nilIface).run P w=.ok false w:=ou 9999 hu u w;simp_all [execOp,eqGuard,binOp,Op.equal])
end
def isOk {α:Type}:Lib.NumEnd α->Bool
 | .ok _=>true
 | _=>false
def de (s:List UInt8):Bool:=!isOk (Lib.atoiAll s)
def atoiE (s:List UInt8):Option Int:=if s.length<=281474976710656 then match Lib.atoiAll s with
 | .ok _=>none
 | .range=>some (Lib.atoiSat s)
 | _=>some 0 else none
def ee (s:List UInt8):Bool:=!isOk (Lib.parseIntB 64 s)
def iB (s:List UInt8):Option Int:=if s.length<=9223372036854775806 then match Lib.parseIntB 64 s with
 | .ok v=>some v
 | _=>none else none
def f3 (s:List UInt8):Option Int:=if s.length<=281474976710656 then match Lib.parseIntB 64 s with
 | .ok _=>none
 | .range=>some (Lib.intSat 64 s)
 | _=>some 0 else none
def ir (s c:List UInt8):Option Int:=if s.length<4294967281/\c.length<4294967281/\2<=c.length/\∀ b,b∈c->b.toNat<128 then some (Lib.indexAny s c) else none
def EvAt (w:World) (g:Nat):Prop:=∃ ev,w.cell? ⟨g,0,none⟩=some ev/\(ev=.nilIface∨∃ te pe,ev=.iface te pe)
section
variable {P:Program} {ρ:Go.Shelf.Ren}
theorem eY {aw:List Ob} {σ:List Value} {w w':World} {F:Nat->Prop} (hs:Sim aw σ w F) (hB:Below w.heap.size w w'):Sim aw σ w' F :=
 hs.grow (fun _ h=>h) (fun _ h=>.inl h) (fun b hb=>zk (hs.lt b hb) hB.size) hB.block
theorem jx {σ:List Value} {w:World} {F:Nat->Prop} (r:Int) (t:TypeId) (v:Value):Rel σ w F (.tup [.int .i64 r,.ifc t .any]) (.tuple #[.int .i64 r,.iface t v]) :=
 Rel.tup [.int .i64 r,.ifc t .any] [.int .i64 r,.iface t v] rfl fun j c u h1 h2=>by
  match j with
  | 0=>cases h1;cases h2;exact .int _ _
  | 1=>cases h1;cases h2;exact .ifc _ _ _ (.any _)
  | j+2=>cases h1
theorem v8 {σ:List Value} {w:World} {F:Nat->Prop} (r:Int):Rel σ w F (.tup [.int .i64 r,.nili]) (.tuple #[.int .i64 r,.nilIface]) :=
 Rel.tup [.int .i64 r,.nili] [.int .i64 r,.nilIface] rfl fun j c u h1 h2=>by
  match j with
  | 0=>cases h1;cases h2;exact .int _ _
  | 1=>cases h1;cases h2;exact .nili
  | j+2=>cases h1
theorem rP (hcal:∀ vs w,(callFunc (ρ.f 153) vs).run P w=.ok (.enter (ρ.f 153) vs) w) (L:Lays.n153 P ρ) (h116:(P.info? (ρ.t 116)).map (fun i=>(i.zero,i.size))=some (some (.agg (Array.replicate 256 (.bool false))),256))
  (p0 p1:List UInt8) (r:Int) (h:ir p0 p1=some r):Fn P (ρ.f 153) [.str p0,.str p1] (.int .i64 r):=by
 unfold ir at h
 split at h
 ·rename_i h0
  injection h with h
  subst h
  obtain ⟨h1,h2,h3,h4⟩:=h0
  refine ⟨hcal,fun w F σ vs hs hr=>?_⟩
  match vs,hr with
  | [v0,v1],hr =>
   have r0:Rel σ w F (.str p0) v0:=hr.2 0 _ v0 rfl rfl
   have r1:Rel σ w F (.str p1) v1:=hr.2 1 _ v1 rfl rfl
   cases r0
   cases r1
   have hh:∀ (j:Nat) b,(⟨p1.toArray⟩:ByteArray).data.toList[j]?=some b->b.toNat<128:=fun j b hj=>h4 b (yZ (by simpa using hj))
   have hC:Calls P (ρ.f 153) #[.string ⟨p0.toArray⟩,.string ⟨p1.toArray⟩] w fun e w'=>e=.returned (.int .i64 (Lib.indexAny p0 p1))/\Below w.heap.size w w':=by
    by_cases h8:p0.length<=8
    ·refine (rW L ⟨p0.toArray⟩ ⟨p1.toArray⟩ w (by simpa [ByteArray.size] using h3) (by simpa [ByteArray.size] using h8) (by simpa [ByteArray.size] using h2) hh).mono ?_;rintro e w' ⟨rfl,hB⟩;exact ⟨by simp,hB⟩
    ·refine (Any.strings_IndexAny_long L (zero_of_info h116).1 (zero_of_info h116).2 ⟨p0.toArray⟩ ⟨p1.toArray⟩ w (by simpa [ByteArray.size] using h3) (by simpa [ByteArray.size] using (by omega:8<p0.length)) (by simpa [ByteArray.size] using h1) (by simpa [ByteArray.size] using h2) hh).mono ?_;rintro e w' ⟨rfl,hw⟩;refine ⟨by simp,?_⟩;rw [hw];exact ((Below.refl _ _).alloc (y5 _) _).alloc (by simp) _
   refine hC.mono ?_
   rintro e w' ⟨rfl,hB⟩
   exact ⟨_,_,[],σ,F,rfl,⟨rfl,rfl⟩,eY hs hB,.int _ _,.grow (fun _ h=>h) (fun _ h=>.inl h) hB.os hB.tape (drO hB.output) hB.size hB.block⟩
 ·cases h
theorem t7 (hcal:∀ vs w,(callFunc (ρ.f 172) vs).run P w=.ok (.enter (ρ.f 172) vs) w) (L:LaysC.n172 P ρ) (hev:∀ w F,Gd w F->EvAt w (ρ.g 15)/\EvAt w (ρ.g 16)) (p0:List UInt8) (r:Int) (h:atoiE p0=some r):Fn P (ρ.f 172) [.str p0] (.tup [.int .i64 r,.ifc (ρ.t 168) .any]):=by
 unfold atoiE at h;split at h
 ·rename_i h0;refine ⟨hcal,fun w F σ vs hs hr=>?_⟩;obtain ⟨⟨e1,he1,hn1⟩,⟨e2,he2,hn2⟩⟩:=hev w F hs.gd;match vs,hr with
  | [v0],hr =>
   have r0:Rel σ w F (.str p0) v0:=hr.2 0 _ v0 rfl rfl
   cases r0
   cases hv:Lib.atoiAll p0<;>rw[hv]at h<;>cases h
   ·refine (Any.strconv_Atoi_syntax L ⟨p0.toArray⟩ (by simpa [ByteArray.size] using h0) (by simpa using hv) e1 w he1 hn1).mono ?_
    rintro e w' ⟨N,rfl,_,_,hB⟩
    exact ⟨_,_,[],σ,F,rfl,⟨rfl,rfl⟩,eY hs hB,jx _ _ _,.grow (fun _ h=>h) (fun _ h=>.inl h) hB.os hB.tape (drO hB.output) hB.size hB.block⟩
   ·refine (Any.strconv_Atoi_range L ⟨p0.toArray⟩ (by simpa [ByteArray.size] using h0) (by simpa using hv) e2 w he2 hn2).mono ?_
    rintro e w' ⟨N,rfl,_,_,hB⟩
    exact ⟨_,_,[],σ,F,rfl,⟨rfl,rfl⟩,eY hs hB,by simpa using jx (σ:=σ) (w:=w') (F:=F) (Lib.atoiSat p0) (ρ.t 168) (.pointer (some ⟨N,0,none⟩)),.grow (fun _ h=>h) (fun _ h=>.inl h) hB.os hB.tape (drO hB.output) hB.size hB.block⟩
 ·cases h
theorem sD (hcal:∀ vs w,(callFunc (ρ.f 174) vs).run P w=.ok (.enter (ρ.f 174) vs) w) (L:LaysC.n174 P ρ) (hev:∀ w F,Gd w F->EvAt w (ρ.g 15)/\EvAt w (ρ.g 16)) (p0:List UInt8) (r:Int) (h:f3 p0=some r):Fn P (ρ.f 174) [.str p0,.int .i64 10,.int .i64 64] (.tup [.int .i64 r,.ifc (ρ.t 168) .any]):=by
 unfold f3 at h;split at h
 ·rename_i h0;refine ⟨hcal,fun w F σ vs hs hr=>?_⟩;obtain ⟨⟨e1,he1,hn1⟩,⟨e2,he2,hn2⟩⟩:=hev w F hs.gd;match vs,hr with
  | [v0,v1,v2],hr =>
   have r0:Rel σ w F (.str p0) v0:=hr.2 0 _ v0 rfl rfl
   have r1:Rel σ w F (.int .i64 10) v1:=hr.2 1 _ v1 rfl rfl
   have r2:Rel σ w F (.int .i64 64) v2:=hr.2 2 _ v2 rfl rfl
   cases r0
   cases r1
   cases r2
   cases hv:Lib.parseIntB 64 p0<;>rw[hv]at h<;>cases h
   ·refine (Any.strconv_ParseInt_10_at64_syntax L ⟨p0.toArray⟩ (by simpa [ByteArray.size] using h0) (by simpa using hv) e1 w he1 hn1).mono ?_
    rintro e w' ⟨N,rfl,_,_,hB⟩
    exact ⟨_,_,[],σ,F,rfl,⟨rfl,rfl⟩,eY hs hB,jx _ _ _,.grow (fun _ h=>h) (fun _ h=>.inl h) hB.os hB.tape (drO hB.output) hB.size hB.block⟩
   ·refine (Any.strconv_ParseInt_10_at64_range L ⟨p0.toArray⟩ (by simpa [ByteArray.size] using h0) (by simpa using hv) e2 w he2 hn2).mono ?_
    rintro e w' ⟨N,rfl,_,_,hB⟩
    exact ⟨_,_,[],σ,F,rfl,⟨rfl,rfl⟩,eY hs hB,by simpa using jx (σ:=σ) (w:=w') (F:=F) (Lib.intSat 64 p0) (ρ.t 168) (.pointer (some ⟨N,0,none⟩)),.grow (fun _ h=>h) (fun _ h=>.inl h) hB.os hB.tape (drO hB.output) hB.size hB.block⟩
 ·cases h
theorem si (hcal:∀ vs w,(callFunc (ρ.f 174) vs).run P w=.ok (.enter (ρ.f 174) vs) w) (L:LaysC.n174 P ρ) (p0:List UInt8) (r:Int) (h:iB p0=some r):Fn P (ρ.f 174) [.str p0,.int .i64 10,.int .i64 64] (.tup [.int .i64 r,.nili]):=by
 unfold iB at h;split at h
 ·rename_i h0;split at h
  ·rename_i v hv;cases h;refine ⟨hcal,fun w F σ vs hs hr=>?_⟩;match vs,hr with
   | [v0,v1,v2],hr =>
    have r0:Rel σ w F (.str p0) v0:=hr.2 0 _ v0 rfl rfl
    have r1:Rel σ w F (.int .i64 10) v1:=hr.2 1 _ v1 rfl rfl
    have r2:Rel σ w F (.int .i64 64) v2:=hr.2 2 _ v2 rfl rfl
    cases r0
    cases r1
    cases r2
    refine (Any.strconv_ParseInt_10_at64_ok L ⟨p0.toArray⟩ (by simpa [ByteArray.size] using h0) r (by simpa using hv) w).mono ?_
    rintro e w' ⟨rfl,hw⟩
    have hB:Below w.heap.size w w':=by
     rcases hw with rfl | ⟨t,rfl⟩
     ·exact Below.refl _ _
     ·exact Lib.bytesWorld_below _ _ _
    exact ⟨_,_,[],σ,F,rfl,⟨rfl,rfl⟩,eY hs hB,v8 _,.grow (fun _ h=>h) (fun _ h=>.inl h) hB.os hB.tape (drO hB.output) hB.size hB.block⟩
  ·cases h
 ·cases h
theorem sv (hcal:∀ vs w,(callFunc (ρ.f 173) vs).run P w=.ok (.enter (ρ.f 173) vs) w) (L:LaysM.n173 P ρ) (htab:∀ w F,Gd w F->Lib.TabIs P w "internal/strconv.uint64pow10" .u64 Lib.pow10Tab) (p0:Int) (r:List UInt8) (h:(if -9223372036854775808<=p0/\p0<=9223372036854775807 then some (Go.Lib.itoa p0) else none)=some r):Fn P (ρ.f 173) [.int .i64 p0,.int .i64 10] (.str r):=by
 split at h
 ·rename_i h0;injection h with h
  subst h;refine ⟨hcal,fun w F σ vs hs hr=>?_⟩;match vs,hr with
  | [v0,v1],hr =>
   have r0:Rel σ w F (.int .i64 p0) v0:=hr.2 0 _ v0 rfl rfl
   have r1:Rel σ w F (.int .i64 10) v1:=hr.2 1 _ v1 rfl rfl
   cases r0
   cases r1
   refine (Any.strconv_FormatInt_10 L p0 h0.1 h0.2 w (htab w F hs.gd)).mono ?_
   rintro e w' ⟨rfl,k,os,rfl⟩
   have hb:=Go.Lib.below_grow w.heap.size w (y5 _) k os
   exact ⟨_,_,[],σ,F,rfl,⟨rfl,rfl⟩,eY hs hb,.str _,.grow (fun _ h=>h) (fun _ h=>.inl h) hb.os hb.tape (drO hb.output) hb.size hb.block⟩
 ·cases h
end
end
def bldS (xs:List Int):Option (List UInt8):=if xs≠[]/\∀ x,x∈xs->0<=x/\x<256 then some (cy xs) else none
noncomputable section
set_option maxRecDepth 100000
def bg:List (List UInt8 × Int):=[([103,111],1),([119,114,105,116,101],2),([102,108,117,115,104],3),([116,101,108,108],4),([99,117,116],5),([117,112],6),([108,97,121],7)]
def jU:Option (List (List UInt8 × Int)):=some bg
def cm (p0:Int):Option (List UInt8):=itoaS p0
def strings_Join (p0:List (List UInt8)) (p1:List UInt8):Option (List UInt8):=joinB p0 p1
def c6 (p0:List Happening) (z2:List ((List UInt8) × Int)) (s3:Int) (s4:List (List UInt8)):Option ((Int × (List (List UInt8))) ⊕ ((List UInt8) × Int)) :=
 (if (decide (s3<((p0).length:Int)))=true then ((idx p0 s3).bind fun x6=>(if (!((mget x6.Kind (bB z2)).isSome))=true then (Option.map Sum.inr (some ([],5))) else (if (x6.N != 0)=true then ((cm x6.N).bind fun x7=>((cat ((mget x6.Kind (bB z2)).getD []) x7).bind fun x8=>((app s4 [x8]).bind fun x9=>(some (.inl (IntKind.i64.wrap (s3+1),x9)))))) else ((app s4 [((mget x6.Kind (bB z2)).getD [])]).bind fun x10=>(some (.inl (IntKind.i64.wrap (s3+1),x10))))))) else (Option.map Sum.inr ((strings_Join s4 ([32]:List UInt8)).bind fun x12=>(some (x12,0)))))
def gQ (p0:List Happening):Option ((List UInt8) × Int) :=
 (if (decide (((p0).length:Int) > 60))=true then (some ([],2)) else (ik bg fun z2=>(iter (fun bj:Int × (List (List UInt8))=>c6 p0 z2 bj.1 bj.2) (0,[]))))
def cR (p0 p1:List UInt8):Option (List (List UInt8)):=iv p0 p1
def jG (p0 p1:List UInt8):Option Int:=ir p0 p1
def atoiX (p0:List UInt8):Option Int:=atoiE p0
def atoiW (p0:List UInt8):Option Int:=atoiA p0
def dt (s3:Int) (s4:List Happening) (x12:List (List UInt8 × Int)) (x13:List UInt8) (z26:Bool) (z27:Int):Option ((Int × (List Happening)) ⊕ ((List Happening) × Int × Int)) :=
 (if (!z26)=true then (Option.map Sum.inr (some ([],s3,1))) else ((app s4 [(⟨((mget x13 x12).getD 0),z27⟩:Happening)]).bind fun x28=>(some (.inl (IntKind.i64.wrap (s3+1),x28)))))
def eQ (s3:Int) (s4:List Happening) (x6:List UInt8) (z9:Int):Option ((Int × (List Happening)) ⊕ ((List Happening) × Int × Int)) :=
 (jU.bind fun x12=>((sub x6 0 z9).bind fun x13=>(if (((mget x13 x12).isSome) && decide (z9<((x6).length:Int)))=true then ((sub x6 z9 ((x6).length:Int)).bind fun x21=>(if (de x21)=true then ((atoiX x21).bind fun x22=>(dt s3 s4 x12 x13 false x22)) else ((atoiW x21).bind fun x23=>(if (x23 != 0)=true then ((cm x23).bind fun x24=>((sub x6 z9 ((x6).length:Int)).bind fun x25=>(dt s3 s4 x12 x13 (x24==x25) x23))) else (dt s3 s4 x12 x13 false x23))))) else (dt s3 s4 x12 x13 ((mget x13 x12).isSome) 0))))
def dP (x2:List (List UInt8)) (s3:Int) (s4:List Happening):Option ((Int × (List Happening)) ⊕ ((List Happening) × Int × Int)) :=
 (if (decide (s3<((x2).length:Int)))=true then ((idx x2 s3).bind fun x6=>((jG x6 ([45,48,49,50,51,52,53,54,55,56,57]:List UInt8)).bind fun x8=>(if (decide (x8<0))=true then (eQ s3 s4 x6 ((x6).length:Int)) else (eQ s3 s4 x6 x8)))) else (Option.map Sum.inr (if (decide (((s4).length:Int) > 60))=true then (some ([],0,2)) else (some (s4,0,0)))))
def cH (p0:List UInt8):Option ((List Happening) × Int × Int) :=
 (if (decide (((p0).length:Int) > 4000))=true then (some ([],0,2)) else (if (p0==[])=true then (some ([],0,0)) else ((cR p0 ([32]:List UInt8)).bind fun x2=>(iter (fun cV:Int × (List Happening)=>dP x2 cV.1 cV.2) (0,[])))))
def gN:Option Net :=
 (some (⟨[(⟨1,0,[],[0]⟩:Node),(⟨1,1,[],[1]⟩:Node),(⟨6,0,[0,1],[2]⟩:Node),(⟨8,0,[2],[]⟩:Node)],3,1⟩:Net))
def kz (p0 p1:Int):Option (Int × Int) :=
 ((shr .u64 p0 32).bind fun x2=>((shr .u64 p1 32).bind fun x4=>((shr .u64 (IntKind.u64.wrap ((ibits .and .u64 p0 4294967295)*(ibits .and .u64 p1 4294967295))) 32).bind fun x6=>((shr .u64 (IntKind.u64.wrap ((IntKind.u64.wrap (x2*(ibits .and .u64 p1 4294967295)))+x6)) 32).bind fun x8=>((shr .u64 (IntKind.u64.wrap ((ibits .and .u64 (IntKind.u64.wrap ((IntKind.u64.wrap (x2*(ibits .and .u64 p1 4294967295)))+x6)) 4294967295)+(IntKind.u64.wrap ((ibits .and .u64 p0 4294967295)*x4)))) 32).bind fun x10=>(some (IntKind.u64.wrap ((IntKind.u64.wrap ((IntKind.u64.wrap (x2*x4))+x8))+x10),IntKind.u64.wrap (p0*p1))))))))
def jb (p0 p1:Int):Option (Int × Int) :=
 ((kz p0 p1).bind fun x2=>(some (x2.1,x2.2)))
def dO  (s6:Int) (s7:List Ends):Option ((Int × (List Ends)) ⊕ (List Ends)) :=
 (if (decide (s6<((s7).length:Int)))=true then ((vwok (s7).length s6 ((s7).length:Int)).bind fun x8=>((vwok (s7).length 0 s6).bind fun x9=>((vwok (s7).length ((s6).toNat:Nat) (((s6).toNat:Nat)+(((((s7).length:Int)).toNat - (s6).toNat):Nat))).bind fun x10=>((vwok (s7).length (((0:Int)).toNat:Nat) ((((0:Int)).toNat:Nat)+(((s6).toNat - ((0:Int)).toNat):Nat))).bind fun x11=>(some (.inl (IntKind.i64.wrap (s6+((min ((((s7).length:Int)).toNat - (s6).toNat) ((s6).toNat - ((0:Int)).toNat):Nat):Int)),(cpy s7 ((s6).toNat) ((((s7).length:Int)).toNat - (s6).toNat) ((s7.drop (((0:Int)).toNat)).take ((s6).toNat - ((0:Int)).toNat)))))))))) else (Option.map Sum.inr (some s7)))
def gK (p0:List Ends) (p1:Int):Option (List Ends) :=
 (if (decide (p1<0))=true then (none) else ((jb (IntKind.u64.wrap ((p0).length:Int)) (IntKind.u64.wrap p1)).bind fun x2=>(if ((decide (x2.1 > 0)) || decide (x2.2 > 9223372036854775807))=true then (none) else ((mk (IntKind.i64.wrap x2.2) (⟨0,0⟩:Ends)).bind fun x5=>(iter (fun bj:Int × (List Ends)=>dO bj.1 bj.2) (((min (x5).length (p0).length:Nat):Int),(cpy x5 0 (x5).length p0)))))))
def fI (p0:Int) (z2:Bool):Option (Int × Int × Bool) :=
 (if z2=true then (some (1,(-1),true)) else (if (p0==6)=true then (some ((-1),1,true)) else (if (p0==8)=true then (some (1,0,true)) else (some (0,0,false)))))
def eT (p0:Int) (z1:Bool):Option (Int × Int × Bool) :=
 (if z1=true then (some (1,1,true)) else (if (p0==5)=true then (fI p0 (p0==5)) else (fI p0 (p0==7))))
def gY (p0:Int):Option (Int × Int × Bool) :=
 (if (p0==1)=true then (some (0,1,true)) else (if (p0==2)=true then (eT p0 (p0==2)) else (if (p0==3)=true then (eT p0 (p0==3)) else (eT p0 (p0==4)))))
def fQ (p0 p1:Int):Option Bool :=
 (some ((p0==p1) || ((decide (p1<0)) && decide (p0 > 0))))
def dY (p0:Net) (s6:Int) (x9:Node) (z15 s27:Int) (s28:List Ends):Option ((Int × (List Ends)) ⊕ ((Int × Int × (List Ends)) ⊕ ((List Ends) × Int))) :=
 (if (decide (s27<((x9.Out).length:Int)))=true then ((idx x9.Out s27).bind fun x30=>(if ((decide (x30<0)) || decide (x30 >= p0.Rings))=true then (Option.map Sum.inr (Option.map Sum.inr (some ([],3)))) else ((ixN s28 x30).bind fun x34=>(((s28)[x34]?).bind fun x35=>(if (decide (x35.src >= 0))=true then (Option.map Sum.inr (Option.map Sum.inr (some ([],6)))) else ((ixN s28 x30).bind fun x36=>(((s28)[x36]?).bind fun x37=>(some (.inl (IntKind.i64.wrap (s27+1),(List.set s28 x36 (⟨s6,x37.dst⟩:Ends)))))))))))) else (Option.map Sum.inr (some (.inl (z15,IntKind.i64.wrap (s6+1),s28)))))
def dV (p0:Net) (s6:Int) (x9:Node) (z15 s16:Int) (s17:List Ends):Option ((Int × (List Ends)) ⊕ ((Int × Int × (List Ends)) ⊕ ((List Ends) × Int))) :=
 (if (decide (s16<((x9.In).length:Int)))=true then ((idx x9.In s16).bind fun x19=>(if ((decide (x19<0)) || decide (x19 >= p0.Rings))=true then (Option.map Sum.inr (Option.map Sum.inr (some ([],3)))) else ((ixN s17 x19).bind fun x23=>(((s17)[x23]?).bind fun x24=>(if (decide (x24.dst >= 0))=true then (Option.map Sum.inr (Option.map Sum.inr (some ([],6)))) else ((ixN s17 x19).bind fun x25=>(((s17)[x25]?).bind fun x26=>(some (.inl (IntKind.i64.wrap (s16+1),(List.set s17 x25 (⟨x26.src,s6⟩:Ends)))))))))))) else (Option.map Sum.inr (iter (fun ew:Int × (List Ends)=>dY p0 s6 x9 z15 ew.1 ew.2) (0,s17))))
def eW (p0:Net) (s6:Int) (s7:List Ends) (x9:Node) (z15:Int):Option ((Int × Int × (List Ends)) ⊕ ((List Ends) × Int)) :=
 (iter (fun eA:Int × (List Ends)=>dV p0 s6 x9 z15 eA.1 eA.2) (0,s7))
def eV (s5:Int) (s7:List Ends) (s38:Int):Option (Int ⊕ ((List Ends) × Int)) :=
 (if (decide (s38<((s7).length:Int)))=true then ((ixN s7 s38).bind fun x41=>(((s7)[x41]?).bind fun x42=>(if ((decide (x42.src<0)) || decide (x42.dst<0))=true then (Option.map Sum.inr (some ([],9))) else (some (.inl (IntKind.i64.wrap (s38+1))))))) else (Option.map Sum.inr (if (s5 != 1)=true then (some ([],4)) else (some (s7,0)))))
def dX (p0:Net) (s5 s6:Int) (s7:List Ends):Option ((Int × Int × (List Ends)) ⊕ ((List Ends) × Int)) :=
 (if (decide (s6<((p0.Nodes).length:Int)))=true then ((idx p0.Nodes s6).bind fun x9=>((gY x9.Kind).bind fun x11=>(if (!x11.2.2)=true then (Option.map Sum.inr (some ([],5))) else ((fQ ((x9.In).length:Int) x11.1).bind fun x12=>(Option.bind (if (!x12)=true then (some true) else ((fQ ((x9.Out).length:Int) x11.2.1).bind fun x13=>(some (!x13)))) fun c14=>(if c14=true then (Option.map Sum.inr (some ([],4))) else (if ((decide (x9.A<0)) || (if (x9.Kind==1)=true then ((decide (x9.A >= 4)) || (if (x9.Kind==2)=true then ((decide (x9.A > 3)) || ((x9.Kind != 1) && ((x9.Kind != 2) && x9.A != 0))) else ((x9.Kind != 1) && ((x9.Kind != 2) && x9.A != 0)))) else (if (x9.Kind==2)=true then ((decide (x9.A > 3)) || ((x9.Kind != 1) && ((x9.Kind != 2) && x9.A != 0))) else ((x9.Kind != 1) && ((x9.Kind != 2) && x9.A != 0)))))=true then (Option.map Sum.inr (some ([],3))) else (if (x9.Kind==8)=true then (eW p0 s6 s7 x9 (IntKind.i64.wrap (s5+1))) else (eW p0 s6 s7 x9 s5))))))))) else (Option.map Sum.inr (iter (fun gb:Int=>eV s5 s7 gb) 0)))
def hO (p0:Net):Option ((List Ends) × Int) :=
 (if ((decide (((p0.Nodes).length:Int)<1)) || ((decide (((p0.Nodes).length:Int) > 12)) || ((decide (p0.Rings<0)) || decide (p0.Rings > 16))))=true then (some ([],2)) else (if ((decide (p0.Room<1)) || decide (p0.Room > 6))=true then (some ([],3)) else ((gK ([(⟨(-1),(-1)⟩:Ends)]:List Ends) p0.Rings).bind fun x4=>(iter (fun di:Int × Int × (List Ends)=>dX p0 di.1 di.2.1 di.2.2) (0,0,x4)))))
def gM (p0:Int) (p1:List Bool) (p2:List Ends):Option Bool :=
 ((ixN p2 p0).bind fun x5=>(((p2)[x5]?).bind fun x6=>((ixN p1 x6.src).bind fun x7=>(((p1)[x7]?).bind fun x8=>(some (!x8))))))
def fy (p0:List Int) (p1:List Bool) (p2:List Ends) (s1:Int):Option (Int ⊕ Int) :=
 (if (decide (s1<((p0).length:Int)))=true then ((idx p0 s1).bind fun x4=>((gM x4 p1 p2).bind fun x5=>(if x5=true then (Option.map Sum.inr (some s1)) else (some (.inl (IntKind.i64.wrap (s1+1))))))) else (Option.map Sum.inr (some (-1))))
def iX (p0:List Int) (p1:List Bool) (p2:List Ends):Option Int :=
 (iter (fun gw:Int=>fy p0 p1 p2 gw) 0)
def fB (p0:List Int) (p1:List Bool) (p2:List Ends):Option Bool :=
 ((iX p0 p1 p2).bind fun x2=>(some (decide (x2 >= 0))))
def eS (s5:List Int) (s6:List Bool) (z14:Int):Option (((List Int) × (List Bool)) ⊕ ((List Int) × Int)) :=
 (if (decide (z14<0))=true then (Option.map Sum.inr (some ([],7))) else ((ixN s6 z14).bind fun x17=>(((s6)[x17]?).bind fun x18=>((app s5 [z14]).bind fun x19=>(some (.inl (x19,(List.set s6 x17 true))))))))
def dS (p0:Net) (x2:(List Ends) × Int) (s5:List Int) (s6:List Bool) (s7:Int):Option (Int ⊕ (((List Int) × (List Bool)) ⊕ ((List Int) × Int))) :=
 (if (decide (s7<((p0.Nodes).length:Int)))=true then ((idx p0.Nodes s7).bind fun x9=>((ixN s6 s7).bind fun x10=>(((s6)[x10]?).bind fun x11=>(Option.bind (if (!x11)=true then ((fB x9.In s6 x2.1).bind fun x12=>(some (!x12))) else (some false)) fun c13=>(if c13=true then (Option.map Sum.inr (eS s5 s6 s7)) else (some (.inl (IntKind.i64.wrap (s7+1))))))))) else (Option.map Sum.inr (eS s5 s6 (-1))))
def dU (p0:Net) (x2:(List Ends) × Int) (s5:List Int) (s6:List Bool):Option (((List Int) × (List Bool)) ⊕ ((List Int) × Int)) :=
 (if (decide (((s5).length:Int)<((p0.Nodes).length:Int)))=true then (iter (fun gc:Int=>dS p0 x2 s5 s6 gc) 0) else (Option.map Sum.inr (some (s5,0))))
def g9 (p0:Net):Option ((List Int) × Int) :=
 ((hO p0).bind fun x2=>(if (x2.2 != 0)=true then (some ([],x2.2)) else ((mk ((p0.Nodes).length:Int) false).bind fun x4=>(iter (fun eD:(List Int) × (List Bool)=>dU p0 x2 eD.1 eD.2) ([],x4)))))
def da (p0:Net):Option Int :=
 ((g9 p0).bind fun x2=>(some x2.2))
def kF (p0:List Int):Option (List Int):=some p0
def iW (p0:List UInt8) (p1:List Int):Option (Int × Unit × (List Int)) :=
 ((kF p1).bind fun x2=>((app x2 (aT p0)).bind fun x4=>(some (((p0).length:Int),(),x4))))
def fE (p0:List (List UInt8)) (p1:List Int):Option (List Int) :=
 ((strings_Join p0 ([32]:List UInt8)).bind fun x1=>((cat x1 [10]).bind fun x2=>((iW x2 p1).bind fun x3=>(some x3.2.2))))
def dZ:Option (List (List UInt8)) :=
 (some [[],[115,111,117,114,99,101],[109,97,112],[115,99,97,110],[99,111,117,110,116],[116,101,101],[109,101,114,103,101],[115,112,108,105,116],[115,105,110,107]])
def dQ (p0:List Int) (s1:Int) (s2:List (List UInt8)):Option ((Int × (List (List UInt8))) ⊕ (List UInt8)) :=
 (if (decide (s1<((p0).length:Int)))=true then ((idx p0 s1).bind fun x4=>((cm x4).bind fun x5=>((app s2 [x5]).bind fun x6=>(some (.inl (IntKind.i64.wrap (s1+1),x6)))))) else (Option.map Sum.inr (if (((s2).length:Int)==0)=true then (some [45]) else ((strings_Join s2 ([44]:List UInt8)).bind fun x8=>(some x8)))))
def gP (p0:List Int):Option (List UInt8) :=
 (iter (fun cX:Int × (List (List UInt8))=>dQ p0 cX.1 cX.2) (0,[]))
def kQ (p0:List Int):Option (List UInt8):=bldS p0
def dR (p0:Net) (s9:Int) (s10:List Int):Option ((Int × (List Int)) ⊕ ((List UInt8) × Int)) :=
 (if (decide (s9<((p0.Nodes).length:Int)))=true then ((idx p0.Nodes s9).bind fun x12=>(dZ.bind fun x13=>((ixN x13 x12.Kind).bind fun x14=>(((x13)[x14]?).bind fun x15=>((cm x12.A).bind fun x16=>((gP x12.In).bind fun x17=>((gP x12.Out).bind fun x18=>((fE ([x15,x16,x17,x18]:List (List UInt8)) s10).bind fun x19=>(some (.inl (IntKind.i64.wrap (s9+1),x19))))))))))) else (Option.map Sum.inr ((kQ s10).bind fun x21=>(some (x21,0)))))
def gV (p0:Net):Option ((List UInt8) × Int) :=
 ((da p0).bind fun x2=>(if (x2 != 0)=true then (some ([],x2)) else ((cm p0.Rings).bind fun x6=>((cm p0.Room).bind fun x7=>((fE ([[114,105,110,103,115],x6,x7]:List (List UInt8)) ([]:List Int)).bind fun x8=>(iter (fun cW:Int × (List Int)=>dR p0 cW.1 cW.2) (0,x8)))))))
def ja  (x6:Int):Option Int :=
 (some x6)
def eX (p0:List UInt8):Option Int :=
 (if (de p0)=true then ((atoiX p0).bind fun x5=>(none)) else ((atoiW p0).bind fun x6=>(Option.bind (if (decide (x6<0))=true then (some true) else ((cm x6).bind fun x7=>(some (!(x7==p0))))) fun c8=>(if c8=true then (none) else (ja x6)))))
def lq (p0:List UInt8):Option (List Int):=jT p0
def iZ (p2:Int) (x2:List (List UInt8)) (p3:Int) (p4:List Node) (x14:List (List UInt8)) (s15:Int):Option (Int ⊕ (Bool × Int × Int × (List Node))) :=
 (if (decide (s15<((x14).length:Int)))=true then ((ixN x14 s15).bind fun x18=>(((x14)[x18]?).bind fun x19=>(Option.bind (if (decide (s15 > 0))=true then ((idx x2 0).bind fun x20=>(some (x19==x20))) else (some false)) fun c21=>(if c21=true then ((idx x2 1).bind fun x29=>((eX x29).bind fun x30=>((idx x2 2).bind fun x31=>((lq x31).bind fun x32=>((idx x2 3).bind fun x33=>((lq x33).bind fun x34=>((app p4 [(⟨s15,x30,x32,x34⟩:Node)]).bind fun x35=>(Option.map Sum.inr (some (true,p2,p3,x35)))))))))) else (some (.inl (IntKind.i64.wrap (s15+1)))))))) else (Option.map Sum.inr (some (false,p2,p3,p4))))
def eR (p0:Int) (p1:List UInt8) (p2 p3:Int) (p4:List Node):Option (Bool × Int × Int × (List Node)) :=
 ((cR p1 ([32]:List UInt8)).bind fun x2=>(if (p0==0)=true then (Option.bind (if (((x2).length:Int) != 3)=true then (some true) else ((idx x2 0).bind fun x3=>(some (!(x3==[114,105,110,103,115]))))) fun c4=>(if c4=true then (some (false,p2,p3,p4)) else ((idx x2 1).bind fun x9=>((eX x9).bind fun x10=>((idx x2 2).bind fun x11=>((eX x11).bind fun x12=>(some (true,x10,x12,p4)))))))) else (if (((x2).length:Int) != 4)=true then (some (false,p2,p3,p4)) else (dZ.bind fun x14=>(iter (fun eE:Int=>iZ p2 x2 p3 p4 x14 eE) 0)))))
def b8 (x2:List (List UInt8)) (s3 s4 s5:Int) (s6:List Node):Option ((Int × Int × Int × (List Node)) ⊕ (Net × Int × Int)) :=
 (if (decide (s3<((x2).length:Int)))=true then ((idx x2 s3).bind fun x8=>(Option.bind (if (s3==(IntKind.i64.wrap (((x2).length:Int) - 1)))=true then (if (!(x8==[]))=true then (some (true,s4,s5,s6)) else (if (s3==0)=true then (some (true,s4,s5,s6)) else (if (!(s3==(IntKind.i64.wrap (((x2).length:Int) - 1))))=true then ((eR s3 x8 s4 s5 s6).bind fun x9=>(some (!x9.1,x9.2.1,x9.2.2.1,x9.2.2.2))) else (some (false,s4,s5,s6))))) else (if (!(s3==(IntKind.i64.wrap (((x2).length:Int) - 1))))=true then ((eR s3 x8 s4 s5 s6).bind fun x10=>(some (!x10.1,x10.2.1,x10.2.2.1,x10.2.2.2))) else (some (false,s4,s5,s6)))) fun lW=>(match lW with | (c11,c12,c13,c14)=>(if c11=true then (Option.map Sum.inr (some ((⟨[],0,0⟩:Net),s3,1))) else (some (.inl (IntKind.i64.wrap (s3+1),c12,c13,c14))))))) else (Option.map Sum.inr ((da (⟨s6,s4,s5⟩:Net)).bind fun x16=>(if (x16 != 0)=true then (some ((⟨[],0,0⟩:Net),0,x16)) else (some ((⟨s6,s4,s5⟩:Net),0,0))))))
def gU (p0:List UInt8):Option (Net × Int × Int) :=
 (if (decide (((p0).length:Int) > 4000))=true then (some ((⟨[],0,0⟩:Net),0,2)) else ((cR p0 ([10]:List UInt8)).bind fun x2=>(iter (fun cA:Int × Int × Int × (List Node)=>b8 x2 cA.1 cA.2.1 cA.2.2.1 cA.2.2.2) (0,0,0,[]))))
def gH (p0 p1:List Int) (s1:Int):Option (Int ⊕ Bool) :=
 (if (decide (s1<((p0).length:Int)))=true then ((idx p0 s1).bind fun x4=>((idx p1 s1).bind fun x5=>(if (x4 != x5)=true then (Option.map Sum.inr (some false)) else (some (.inl (IntKind.i64.wrap (s1+1))))))) else (Option.map Sum.inr (some true)))
def eP (p0 p1:List Int):Option Bool :=
 (if (((p0).length:Int) != ((p1).length:Int))=true then (some false) else (iter (fun bl:Int=>gH p0 p1 bl) 0))
def gJ (p0 p1:Node):Option Bool :=
 (Option.bind (if (p0.Kind==p1.Kind)=true then (if (p0.A==p1.A)=true then ((eP p0.In p1.In).bind fun x1=>(if x1=true then ((eP p0.Out p1.Out).bind fun x2=>(some x2)) else (some false))) else (some false)) else (some false)) fun c3=>(some c3))
def dM (p0 p1:List Node) (s1:Int):Option (Int ⊕ Bool) :=
 (if (decide (s1<((p0).length:Int)))=true then ((idx p0 s1).bind fun x3=>((idx p1 s1).bind fun x5=>((gJ x3 x5).bind fun x7=>(if (!x7)=true then (Option.map Sum.inr (some false)) else (some (.inl (IntKind.i64.wrap (s1+1)))))))) else (Option.map Sum.inr (some true)))
def iV (p0 p1:List Node):Option Bool :=
 (if (((p0).length:Int) != ((p1).length:Int))=true then (some false) else (iter (fun bl:Int=>dM p0 p1 bl) 0))
def fF (p0 p1:Net):Option Bool :=
 (Option.bind (if (p0.Rings==p1.Rings)=true then (if (p0.Room==p1.Room)=true then ((iV p0.Nodes p1.Nodes).bind fun x1=>(some x1)) else (some false)) else (some false)) fun c2=>(some c2))
def fH:Option Bool :=
 (gN.bind fun x3=>((gV x3).bind fun x4=>((gU x4.1).bind fun x6=>(Option.bind (if (x4.2==0)=true then (if (x6.2.2==0)=true then (if (x6.2.1==0)=true then (if (x4.1==[114,105,110,103,115,32,51,32,49,10,115,111,117,114,99,101,32,48,32,45,32,48,10,115,111,117,114,99,101,32,49,32,45,32,49,10,109,101,114,103,101,32,48,32,48,44,49,32,50,10,115,105,110,107,32,48,32,50,32,45,10])=true then (gN.bind fun x7=>((fF x6.1 x7).bind fun x8=>(some x8))) else (some false)) else (some false)) else (some false)) else (some false)) fun c9=>(some c9)))))
def fG:Option (List (List UInt8)) :=
 (some [[103,111],[119,114,105,116,101],[102,108,117,115,104],[116,101,108,108],[99,117,116],[117,112],[108,97,121]])
def eI (p0 p1:List UInt8):Option Bool :=
 (Option.bind (if (decide (((p0).length:Int) >= ((p1).length:Int)))=true then ((sub p0 0 ((p1).length:Int)).bind fun x1=>(some (x1==p1))) else (some false)) fun c2=>(some c2))
def gD (p0 p1:List UInt8):Option ((List UInt8) × Bool) :=
 ((eI p0 p1).bind fun x2=>(if (!x2)=true then (some (p0,false)) else ((sub p0 ((p1).length:Int) ((p0).length:Int)).bind fun x4=>(some (x4,true)))))
def eO (p0 p1:List UInt8):Option ((List UInt8) × Bool) :=
 ((gD p0 p1).bind fun x2=>(some (x2.1,x2.2)))
def fg (p0:List UInt8) (p1 p2:Int):Option Int:=if p1=10/\p2=64 then f3 p0 else none
def iz (p0:List UInt8) (p1 p2:Int):Option Int:=if p1=10/\p2=64 then iB p0 else none
def ij (p0 p1:Int):Option (List UInt8):=if p1=10 then itoaS p0 else none
def gE (p0 p1:List Happening) (s1:Int):Option (Int ⊕ Bool) :=
 (if (decide (s1<((p0).length:Int)))=true then ((idx p0 s1).bind fun x4=>((idx p1 s1).bind fun x5=>(if (!(x4==x5))=true then (Option.map Sum.inr (some false)) else (some (.inl (IntKind.i64.wrap (s1+1))))))) else (Option.map Sum.inr (some true)))
def gG (p0 p1:List Happening):Option Bool :=
 (if (((p0).length:Int) != ((p1).length:Int))=true then (some false) else (iter (fun bl:Int=>gE p0 p1 bl) 0))
def eK (x4:(List Happening) × Int × Int) (s32:List Happening):Option Bool :=
 (if (decide (((s32).length:Int) > 60))=true then (some ((x4.2.2==2) && ((x4.2.1==0) && ((x4.1).length:Int)==0))) else (Option.bind (if (x4.2.2==0)=true then (if (x4.2.1==0)=true then ((gG x4.1 s32).bind fun x59=>(some x59)) else (some false)) else (some false)) fun c60=>(some c60)))
def eM (s37:Bool) (s38:Int) (s39:List Happening) (z55:Int) (z56:Bool):Option ((Bool × Int × (List Happening)) ⊕ ((Int × (List Happening)) ⊕ Bool)) :=
 (if z56=true then ((app s39 [(⟨IntKind.i64.wrap (s38+1),z55⟩:Happening)]).bind fun x57=>(some (.inl (true,IntKind.i64.wrap (s38+1),x57)))) else (some (.inl (s37,IntKind.i64.wrap (s38+1),s39))))
def cZ (x4:(List Happening) × Int × Int) (s31:Int) (x34:List UInt8) (x36:List (List UInt8)) (s37:Bool) (s38:Int) (s39:List Happening):Option ((Bool × Int × (List Happening)) ⊕ ((Int × (List Happening)) ⊕ Bool)) :=
 (if (decide (s38<((x36).length:Int)))=true then ((ixN x36 s38).bind fun x42=>(((x36)[x42]?).bind fun x43=>((eO x34 x43).bind fun x45=>(if x45.2=true then (if (ee x45.1)=true then ((fg x45.1 (10:Int) (64:Int)).bind fun x50=>(eM s37 s38 s39 x50 ((x45.1==[]) || false))) else ((iz x45.1 (10:Int) (64:Int)).bind fun x51=>(Option.bind (if (x45.1==[])=true then (some true) else (if (x51 != 0)=true then ((ij x51 (10:Int)).bind fun x53=>(some (x53==x45.1))) else (some false))) fun c54=>(eM s37 s38 s39 x51 c54)))) else (some (.inl (s37,IntKind.i64.wrap (s38+1),s39))))))) else (Option.map Sum.inr (if (!s37)=true then (Option.map Sum.inr (some ((x4.2.2==1) && ((x4.2.1==s31) && ((x4.1).length:Int)==0)))) else (some (.inl (IntKind.i64.wrap (s31+1),s39))))))
def cE (p1:List UInt8) (x4:(List Happening) × Int × Int) (x30:List (List UInt8)) (s31:Int) (s32:List Happening):Option ((Int × (List Happening)) ⊕ Bool) :=
 (if (decide (s31<((x30).length:Int)))=true then ((idx x30 s31).bind fun x34=>(if (p1==[])=true then (Option.map Sum.inr (eK x4 s32)) else (fG.bind fun x36=>(iter (fun dj:Bool × Int × (List Happening)=>cZ x4 s31 x34 x36 dj.1 dj.2.1 dj.2.2) (false,0,s32))))) else (Option.map Sum.inr (eK x4 s32)))
def eJ (p1:List UInt8) (x2:(List UInt8) × Int) (x4:(List Happening) × Int × Int) (s8:List UInt8) (z26:Int):Option Bool :=
 (if ((x2.2 != z26) || (if (z26 != 0)=true then ((!(x2.1==[])) || ((z26==0) && !(x2.1==s8))) else ((z26==0) && !(x2.1==s8))))=true then (some false) else (if (decide (((p1).length:Int) > 4000))=true then (some ((x4.2.2==2) && ((x4.2.1==0) && ((x4.1).length:Int)==0))) else ((cR p1 ([32]:List UInt8)).bind fun x30=>(iter (fun cS:Int × (List Happening)=>cE p1 x4 x30 cS.1 cS.2) (0,[])))))
def eL (s10:Int) (x12:Happening) (z13:Int) (z15:List UInt8):Option (((List UInt8) × Int × Int) ⊕ Bool) :=
 (fG.bind fun x20=>((ixN x20 (IntKind.i64.wrap (x12.Kind - 1))).bind fun x21=>(((x20)[x21]?).bind fun x22=>((cat z15 x22).bind fun x23=>(if (x12.N != 0)=true then ((cm x12.N).bind fun x24=>((cat x23 x24).bind fun x25=>(some (.inl (x25,z13,IntKind.i64.wrap (s10+1)))))) else (some (.inl (x23,z13,IntKind.i64.wrap (s10+1)))))))))
def dN (p1:List UInt8) (x2:(List UInt8) × Int) (x4:(List Happening) × Int × Int) (s8:List UInt8) (s10:Int) (x12:Happening) (z13:Int):Option (((List UInt8) × Int × Int) ⊕ Bool) :=
 (if (z13 != 0)=true then (Option.map Sum.inr (eJ p1 x2 x4 s8 z13)) else (if (decide (s10 > 0))=true then ((cat s8 [32]).bind fun x14=>(eL s10 x12 z13 x14)) else (eL s10 x12 z13 s8)))
def cq (p0:List Happening) (p1:List UInt8) (x2:(List UInt8) × Int) (x4:(List Happening) × Int × Int) (s8:List UInt8) (s9 s10:Int):Option (((List UInt8) × Int × Int) ⊕ Bool) :=
 (if (decide (s10<((p0).length:Int)))=true then ((idx p0 s10).bind fun x12=>(if ((s9==0) && ((decide (x12.Kind<1)) || decide (x12.Kind > 7)))=true then (dN p1 x2 x4 s8 s10 x12 5) else (dN p1 x2 x4 s8 s10 x12 s9))) else (Option.map Sum.inr (eJ p1 x2 x4 s8 s9)))
def fD (p0:List Happening) (p1:List UInt8) (x2:(List UInt8) × Int) (x4:(List Happening) × Int × Int) (z7:Int):Option Bool :=
 (iter (fun bW:(List UInt8) × Int × Int=>cq p0 p1 x2 x4 bW.1 bW.2.1 bW.2.2) ([],z7,0))
def iY (p0:List Happening) (p1:List UInt8):Option Bool :=
 ((gQ p0).bind fun x2=>((cH p1).bind fun x4=>(fH.bind fun x6=>(if (!x6)=true then (some false) else (if (decide (((p0).length:Int) > 60))=true then (fD p0 p1 x2 x4 2) else (fD p0 p1 x2 x4 0))))))
end
section
open Go.RowKit
set_option maxRecDepth 100000
def tyT:TT:=.n 23 (.n 9 (.n 4 (.n 3 (.l 2 (.it .i64)) (.l 3 (.it .i64))) (.n 5 (.l 4 (.bo)) (.n 7 (.l 5 (.it .u8)) (.l 7 (.ag [.int .i64 0,.int .i64 0,.bool false,.int .u8 0] 4 [(0,1,2),(1,1,3),(2,1,4),(3,1,6)]))))) (.n 13 (.n 10 (.l 9 (.str)) (.n 12 (.l 10 (.str)) (.l 12 (.it .u64)))) (.n 17 (.l 13 (.ag [.str [],.int .u64 0] 2 [(0,1,9),(1,1,12)])) (.n 22 (.l 17 (.sc (.nilp))) (.l 22 (.sl 42 4)))))) (.n 93 (.n 37 (.n 24 (.l 23 (.ag [.nils,.int .i64 0,.int .i64 0] 3 [(0,1,22),(1,1,3),(2,1,3)])) (.n 25 (.l 24 (.ag [.nils,.int .i64 0,.int .i64 0] 3 [(0,1,22),(1,1,3),(2,1,3)])) (.l 25 (.it .i64)))) (.n 42 (.l 37 (.sl 3 1)) (.n 52 (.l 42 (.ag [.int .i64 0,.int .i64 0,.nils,.nils] 4 [(0,1,3),(1,1,3),(2,1,37),(3,1,37)])) (.l 52 (.ag [.int .i64 0,.int .i64 0] 2 [(0,1,3),(1,1,3)]))))) (.n 123 (.n 108 (.l 93 (.ag [.nilp,.nils] 2 [(0,1,90),(1,1,91)])) (.n 111 (.l 108 (.it .u64)) (.l 111 (.it .u64)))) (.n 126 (.l 123 (.sl 129 2)) (.n 129 (.l 126 (.sl 4 1)) (.l 129 (.ag [.int .i64 0,.int .i64 0] 2 [(0,1,3),(1,1,3)]))))))
theorem bQ:tyT.Ok Tryz.prog:=TT.ok_of (by kernel_rfl)
section
variable {N n:Nat} {aw aw':List Ob} {l:List (Nat × AV)} {ops:Array Oper} {os:List Oper} {K:List AV→List Ob→Prop} {k:Nat} {li:Array Bool}
theorem go (m c:Nat) (h:wR tyT n m os l aw c fun os l aw=>RS Tryz.prog N ops os K (mkA n l) aw) (hc:aw.length=c:=by rfl):RS Tryz.prog N ops os K (mkA n l) aw:=RS.go bQ hc h
theorem rq (is:List Nat) (k':Nat) (h:wQ tyT n ops.toList is l aw fun l=>RA Tryz.prog N ops k' (lisQ li is) K (mkA n l) aw) (hk:k=k' + is.length:=by rfl) (hs:Region.noSelect ops=true:=by decide +kernel) (ho:okQ ops li is=true:=by decide +kernel):RA Tryz.prog N ops k li K (mkA n l) aw:=RA.qs bQ hs hk ho h
theorem og {i:Nat} (c:Nat) (h:aF ops.toList i fun o=>o.guard=none/\wE tyT n l aw c o.op fun r aw c=>(match o.dst with
 | some t=>K (mkA n ((t,r)::l)) aw
 | none=>K (mkA n l) aw)) (hc:aw.length=c:=by rfl):RO Tryz.prog N ops i K (mkA n l) aw:=RO.g bQ hc h
variable {o:Oper} {Q:Exit→List AV→List Ob→Prop} {rs:List ResultVar} {V:AV} {obs:List Ob} {M:Nat}
theorem yg (c:Nat) {j t:Nat} {want b:Bool} (hbw:b=want) (h:wE tyT n l aw c o.op fun r aw _=>stD l o.dst r fun l=>RS Tryz.prog N ops os K (mkA n l) aw) (hg:o.guard=some (j,want):=by rfl) (hj:(ops[j]?).bind (·.dst)=some t:=by rfl) (hb:evA n l (.tmp t)=.bool b:=by rfl) (hc:aw.length=c:=by rfl):RS Tryz.prog N ops (o::os) K (mkA n l) aw:=yg' bQ c hbw h hg hj hb hc
theorem oy {i:Nat} (c:Nat) {j t:Nat} {want b:Bool} (hbw:b=want) (hi:ops[i]?=some o) (h:wE tyT n l aw c o.op fun r aw _=>stD l o.dst r fun l=>K (mkA n l) aw) (hg:o.guard=some (j,want):=by rfl) (hj:(ops[j]?).bind (·.dst)=some t:=by rfl) (hb:evA n l (.tmp t)=.bool b:=by rfl) (hc:aw.length=c:=by rfl):RO Tryz.prog N ops i K (mkA n l) aw:=oy' bQ c hbw hi h hg hj hb hc
theorem ry (i:Nat) {j t:Nat} {want b:Bool} (hbw:b=want) (hi:ops[i]?=some o) (h:wV tyT n l aw o.op fun r=>stD l o.dst r fun l=>RA Tryz.prog N ops k (li.setIfInBounds i true) K (mkA n l) aw) (hs:Region.noSelect ops=true:=by decide +kernel) (hf:Region.free .any ops li i=true:=by decide +kernel) (hr:(Region.ready .any ops li).contains i=true:=by decide +kernel) (hg:o.guard=some (j,want):=by rfl) (hj:(ops[j]?).bind (·.dst)=some t:=by rfl) (hb:evA n l (.tmp t)=.bool b:=by rfl) (hn:eo o.op=true:=by rfl):RA Tryz.prog N ops (k+1) li K (mkA n l) aw:=ry' bQ i hbw hi h hs hf hr hg hj hb hn
theorem rL (D:List Nat) (i:Nat) (hi:ops[i]?=some o) (h:wV tyT n l aw o.op fun r=>stD l o.dst r fun l=>RA Tryz.prog N ops k (li.setIfInBounds i true) K (mkA n l) aw) (hs:Region.noSelect ops=true:=by decide +kernel) (hf:RK.loadFree ops li D i=true:=by decide +kernel) (hr:(Region.ready .any ops li).contains i=true:=by decide +kernel) (hg:o.guard=none:=by rfl):RA Tryz.prog N ops (k+1) li K (mkA n l) aw:=rL' bQ D i hi h hs hf hr hg
theorem tD [hq:RetI Q (fun fr aw=>aB Tryz.prog fr aw rs (Ret 0 (fun r aw'=>r=V/\aw'=[]) aw))] [hV:PureC V] (h:resC tyT n l aw rs fun vs=>nrmRC aw (aX vs) fun v _=>v=V:=by rfl):T Tryz.prog N .ret Q (mkA n l) aw:=T.rD bQ h
theorem tO (nl:List (Nat × TypeId × Nat)) (ρ:List Nat) (c:Nat) [hq:RetI Q (fun fr aw=>aB Tryz.prog fr aw rs (Ret M (fun r aw'=>r=V/\aw'=obs) aw))] [g:GoodA 3 V] [g':GoodOs obs] (h:resC tyT n l aw rs fun vs=>nilVC nl vs aw c fun vs aw=>fA (aX vs) fun a=>mpA ρ 3 V a fun b=>mpOs ρ aw ρ obs fun bs es=>(b,bs)=(a,es):=by rfl) (hc:aw.length=c:=by rfl) (h1:ρ.Nodup:=by decide) (h2:∀ k,k<M->ρ[k]?=some k:=by decide):T Tryz.prog N .ret Q (mkA n l) aw:=T.rO bQ nl ρ c h hc h1 h2
theorem tN (ρ:List Nat) [hq:RetI Q (fun fr aw=>aB Tryz.prog fr aw rs (Ret M (fun r aw'=>r=V/\aw'=obs) aw))] [g:GoodA 3 V] [g':GoodOs obs] (h:resC tyT n l aw rs fun vs=>nrmRC aw (aX vs) fun a aw=>mpA ρ 3 V a fun b=>mpOs ρ aw ρ obs fun bs es=>(b,bs)=(a,es):=by rfl) (h1:ρ.Nodup:=by decide) (h2:∀ k,k<M->ρ[k]?=some k:=by decide):T Tryz.prog N .ret Q (mkA n l) aw:=T.rN bQ ρ h h1 h2
variable {fn:Func}
theorem eN (ρ:List Nat) (hr:fn.results.toList=rs:=by rfl) [g:GoodA 3 V] [g':GoodOs obs] (h:resC tyT n l aw rs fun vs=>nrmRC aw (aX vs) fun a aw=>mpA ρ 3 V a fun b=>mpOs ρ aw ρ obs fun bs es=>(b,bs)=(a,es):=by rfl) (h1:ρ.Nodup:=by decide) (h2:∀ k,k<M->ρ[k]?=some k:=by decide):retQ Tryz.prog fn M (fun r aw'=>r=V/\aw'=obs) .normal (mkA n l) aw:=by subst hr;exact rN_c bQ ρ h h1 h2
variable {c:Code} {st:List Fr}
theorem X (f k:Nat) (h:gx false tyT Tryz.prog N n Q f (.cd c) st l aw k) (hk:aw.length=k:=by rfl):T Tryz.prog N c (qs Tryz.prog N st Q) (mkA n l) aw:=dr bQ hk h
theorem Y (f k:Nat) (h:gx false tyT Tryz.prog N n Q f (.op ops os) st l aw k) (hk:aw.length=k:=by rfl):RS Tryz.prog N ops os (qs Tryz.prog N st Q .normal) (mkA n l) aw:=dr bQ hk h
theorem Yp (f k:Nat) (h:gx true tyT Tryz.prog N n Q f (.op ops os) st l aw k) (hk:aw.length=k:=by rfl):RS Tryz.prog N ops os (qs Tryz.prog N st Q .normal) (mkA n l) aw:=dr bQ hk h
theorem fT {f:FuncId} {fn:Func} {args:List AV} {QF:AV->List Ob->Prop} {m:Nat} (N q:Nat) (hf:Tryz.prog.funcs[f]?=some fn) (hm:fn.ntmps=m) (hb:fn.body=some c) (h:iniC 0 args fun l=>gx false tyT Tryz.prog N m (retQ Tryz.prog fn N QF) q (.cd c) [] l aw N) (hN:aw.length=N:=by rfl) (hname:(fn.name == "runtime.NumGoroutine")=false:=by kernel_rfl) (hl:Nat.ble args.length m=true:=by rfl):ACalls Tryz.prog f args aw QF:=fX bQ N q hf hm h hb hN hname hl
end
end
section
open Go.RowKit Go.Shelf
set_option maxRecDepth 100000
set_option maxHeartbeats 4000000
def jR:Go.Shelf.Ren:=⟨fun n=>match n with | 156=>38 | 165=>60 | 166=>52 | 169=>54 | 240=>80 | 241=>88 | 276=>105 | 277=>109 | _=>0,fun n=>match n with | 0=>0 | 3=>3 | 4=>4 | 5=>5 | 9=>9 | 20=>20 | 31=>32 | 37=>91 | 70=>90 | 72=>93 | 75=>57 | 76=>84 | 80=>96 | 127=>130 | 164=>153 | _=>0,fun n=>n⟩
theorem jL:Lays.n156 Tryz.prog jR where
 mixed:=mixed
 f156:=by kernel_rfl
 f165:=by kernel_rfl
 f166:=by kernel_rfl
 f169:=by kernel_rfl
 f240:=by kernel_rfl
 f241:=by kernel_rfl
 f276:=by kernel_rfl
 f277:=by kernel_rfl
 t0:=by kernel_rfl
 a0:=fun w=>by kernel_rfl
 z0:=fun w=>by kernel_rfl
 v0:=fun w=>by kernel_rfl
 t3:=by kernel_rfl
 a3:=fun w=>by kernel_rfl
 z3:=fun w=>by kernel_rfl
 v3:=fun w=>by kernel_rfl
 t4:=by kernel_rfl
 a4:=fun w=>by kernel_rfl
 z4:=fun w=>by kernel_rfl
 v4:=fun w=>by kernel_rfl
 t9:=by kernel_rfl
 a9:=fun w=>by kernel_rfl
 z9:=fun w=>by kernel_rfl
 v9:=fun w=>by kernel_rfl
 t20:=by kernel_rfl
 a20:=fun w=>by kernel_rfl
 z20:=fun w=>by kernel_rfl
 v20:=fun w=>by kernel_rfl
 t31:=by kernel_rfl
 a31:=fun w=>by kernel_rfl
 z31:=fun w=>by kernel_rfl
 v31:=fun w=>by kernel_rfl
 t37:=by kernel_rfl
 a37:=fun w=>by kernel_rfl
 z37:=fun w=>by kernel_rfl
 v37:=fun w=>by kernel_rfl
 t70:=by kernel_rfl
 a70:=fun w=>by kernel_rfl
 z70:=fun w=>by kernel_rfl
 v70:=fun w=>by kernel_rfl
 t72:=by kernel_rfl
 a72:=fun w=>by kernel_rfl
 z72:=fun w=>by kernel_rfl
 v72:=fun w=>by kernel_rfl
 t75:=by kernel_rfl
 a75:=fun w=>by kernel_rfl
 z75:=fun w=>by kernel_rfl
 v75:=fun w=>by kernel_rfl
 t76:=by kernel_rfl
 a76:=fun w=>by kernel_rfl
 z76:=fun w=>by kernel_rfl
 v76:=fun w=>by kernel_rfl
 t127:=by kernel_rfl
 a127:=fun w=>by kernel_rfl
 z127:=fun w=>by kernel_rfl
 v127:=fun w=>by kernel_rfl
 t164:=by kernel_rfl
 a164:=fun w=>by kernel_rfl
 z164:=fun w=>by kernel_rfl
 v164:=fun w=>by kernel_rfl
theorem jX:Builder.Extra Tryz.prog jR where
 sizeBuilder:=by kernel_rfl
 liesBuilder:=by kernel_rfl
 t5:=by kernel_rfl
 a5:=fun w=>by kernel_rfl
 z5:=fun w=>by kernel_rfl
 v5:=fun w=>by kernel_rfl
 infoByte:=by kernel_rfl
 cellsByte:=by kernel_rfl
 sizeByte:=by kernel_rfl
 neB5:=by decide
theorem vL (p0:List (List UInt8)) (p1:List UInt8) (h0:p0.length<=1099511627776) (hl:(Lib.join p0 p1).length<=140737488355328):Fn Tryz.prog 38 [.sl (List.map aa p0),.str p1] (.str (Lib.join p0 p1)):=by
 refine ⟨callable Tryz.func38 rfl (by kernel_rfl),fun w F σ vs hs hr=>?_⟩;have fin:∀ w',Below w.heap.size w w'->∃ v r aw' σ' F',Ending.returned (.string ⟨(Lib.join p0 p1).toArray⟩)=.returned v/\(r=.str (Lib.join p0 p1)/\aw'=[])/\Sim aw' σ' w' F'/\Rel σ' w' F' r v/\Mv [] σ w F aw' σ' w' F':=fun w' hb =>
  ⟨_,_,[],σ,F,rfl,⟨rfl,rfl⟩,hs.grow (fun _ h=>h) (fun _ h=>.inl h) (fun b hb'=>zk (hs.lt b hb') hb.size) hb.block,.str _,.grow (fun _ h=>h) (fun _ h=>.inl h) hb.os hb.tape ⟨hb.output,y5 0⟩ hb.size hb.block⟩
 match vs,hr with
 | [v0,v1],hr =>
  have hr0:Rel σ w F (.sl (List.map aa p0)) v0:=hr.2 0 _ v0 rfl rfl
  have hr1:Rel σ w F (.str p1) v1:=hr.2 1 _ v1 rfl rfl
  have e1:v1=.string ⟨p1.toArray⟩:=by cases hr1;rfl
  subst e1
  have none:∀ (a:Option Addr) (c:Nat),p0=[]->v0=.slice a 0 c->Calls Tryz.prog 38 [v0,.string ⟨p1.toArray⟩].toArray w fun e w'=>∃ v r aw' σ' F',e=.returned v/\(r=.str (Lib.join p0 p1)/\aw'=[])/\Sim aw' σ' w' F'/\Rel σ' w' F' r v/\Mv [] σ w F aw' σ' w' F':=by rintro a c hp rfl;refine (Any.strings_Join_none jL jX a c ⟨p1.toArray⟩ w).mono ?_;rintro e w' ⟨rfl,rfl⟩;have:=fin w' (.refl ..);rw [hp,Lib.join_nil] at this ⊢;exact this
  generalize hrows:List.map aa p0=rows at hr0
  cases hr0 with
  | slNil=>exact none _ _ (List.map_eq_nil_iff.1 hrows) rfl
  | sl _ size ad c u hF hn hm hrow hone hcell hrel =>
   subst hrows
   by_cases hp:p0=[]
   ·subst hp;exact none (some ad) c rfl rfl
   ·have hpl:0<p0.length:=List.length_pos_iff.2 hp
    have hsize:size=1:=by have h1:=hrow (aa p0[0]) (zt.2 ⟨_,zq _,rfl⟩);exact h1.symm
    subst hsize
    have hsp:ad.spot=Option.none:=by
     have h1:=hcell 0 0 (by simpa using hpl) (by omega);rw [show 0*1+0=0 from rfl,show ad.add 0=ad from rfl] at h1;unfold World.cell? at h1;split at h1
     ·split at h1
      ·cases h1
      ·rename_i hx;cases hs:ad.spot with
       | none=>rfl
       | some q=>rw [hs] at hx;simp at hx
     ·cases h1
    have had:ad=⟨ad.block,ad.off,Option.none⟩:=by cases ad;simp at hsp;subst hsp;rfl
    have hx:(p0.map fun s=>(⟨s.toArray⟩:ByteArray)).map (·.data.toList)=p0:=by simp [z6,Function.comp_def]
    have hJ:=Any.strings_Join jL jX ad.block ad.off c (p0.map fun s=>(⟨s.toArray⟩:ByteArray)) ⟨p1.toArray⟩ w (fun j x hj=>by
      rw [zb,y8] at hj;obtain ⟨s,hs1,rfl⟩:=hj;have hlt:=(yX.1 hs1).1;have h1:=hcell j 0 (by simpa using hlt) (by omega);have h2:=hrel j (aa s) 0 (.str s) (by rw [zb,hs1];rfl) rfl;have h3:u j 0=.string ⟨s.toArray⟩:=by generalize u j 0=q at h2;cases h2;rfl
      rw [h3,Nat.mul_one,zQ] at h1;rw [<- h1];unfold Addr.add;split
      ·rename_i hz;rw [hz,zQ,<- had]
      ·rfl) (hs.lt _ (hF (by simpa using hp))) (by simp;omega) (by simpa using hn) (by rw [hx];simpa using hl)
    rw [hx] at hJ
    simp only [zf] at hJ ⊢
    rw [had]
    refine Calls.mono hJ ?_
    rintro e w' ⟨rfl,hb⟩
    simpa using fin w' hb
end
section
open Go.RowKit
set_option maxRecDepth 100000
set_option maxHeartbeats 4000000
theorem wz (b:Nat) (w:World) (h0:w.cell? ⟨b,0,none⟩=some (.pointer (some ⟨b,0,none⟩))) :
  Calls Tryz.prog 80 #[.pointer (some ⟨b,0,none⟩)] w fun e w'=>e=.returned (.tuple #[])/\w'=w:=by
 obtain ⟨j,hj,hjs⟩:=y8.1 (show (Tryz.prog.info? 93).map (·.size)=some 2 by kernel_rfl)
 go_enter Tryz.func80,Tryz.ntmps80
 go_wp2
 rw [Lib.run_neq_ptr_same w _ Tryz.underlying90 hj]
 go_wp2
 go_end0
 exact ⟨rfl,rfl⟩
theorem ve (b:Nat) (w:World) (h0:w.cell? ⟨b,0,none⟩=some (.pointer none)) (hsh:w.shape? b=some (93,2)) (hfz:w.frozen? ⟨b,0,none⟩=false) :
  Calls Tryz.prog 80 #[.pointer (some ⟨b,0,none⟩)] w fun e w'=>e=.returned (.tuple #[])/\w'=w.setCell ⟨b,0,none⟩ (.pointer (some ⟨b,0,none⟩)):=by
 obtain ⟨j,hj,hjs⟩:=y8.1 (show (Tryz.prog.info? 93).map (·.size)=some 2 by kernel_rfl)
 go_enter Tryz.func80,Tryz.ntmps80
 go_wp2
 rw [Lib.run_to_unsafe w ⟨b,0,none⟩ Tryz.underlying90 Tryz.underlying153 hj (by rw [hjs];decide) hsh (Nat.zero_lt_succ 1)]
 simp only [Result.andThen]
 rw [Oper.upon_value]
 go_wp2
 rw [run_callFunc_extern Tryz.func105 (by kernel_rfl) (by kernel_rfl) (by kernel_rfl) (e:=Extern.AbiNoEscape.same) (by kernel_rfl)]
 rw [Lib.run_noEscape]
 simp only [Result.andThen]
 rw [Oper.upon_value]
 go_wp2
 rw [Lib.run_from_unsafe w ⟨b,0,none⟩ Tryz.underlying153 Tryz.underlying90 hj hsh (by kernel_rfl)]
 simp only [Result.andThen]
 rw [Oper.upon_value]
 go_wp2
 go_end0
 exact ⟨rfl,rfl⟩
theorem rF (rows:List (List AV)):FnX Tryz.prog 80 [.ptr 0 0] [.boxB 93 [.np 0,.ref 1],.arr 5 1 rows] (.tup []) [.boxB 93 [.np 0,.ref 1],.arr 5 1 rows]:=by
 refine ⟨callable Tryz.func80 rfl (by kernel_rfl),fun w F σ vs hs hr=>?_⟩;match vs,hr with
 | [v0],hr =>
  have r0:Rel σ w F (.ptr 0 0) v0:=hr.2 0 _ v0 rfl rfl
  cases r0 with
  | ptr _ _ g hσ =>
  obtain ⟨g',us,e1,hg,hcr,hc1,hF⟩:=hs.obj 0 _ _ rfl hσ
  injection e1 with e1
  injection e1 with e1
  injection e1 with e1
  subst e1
  have hlen:us.size=2:=by simpa using hcr.1
  obtain ⟨p,hp,hrp⟩:=hcr.get (j:=0) (a:=.np 0) rfl
  have hp':us[0]?=some p:=by simpa using hp
  have hcell:w.cell? ⟨g,0,none⟩=some p:=by rw [World.cell?];simp [hg,hp']
  cases hrp with
  | np0 _ =>
   have hsh:w.shape? g=some (93,2):=by simp [World.shape?,hg,hlen]
   have hfz:w.frozen? ⟨g,0,none⟩=false:=by simp [World.frozen?,hg]
   refine (ve g w hcell hsh hfz).mono ?_
   rintro e w' ⟨rfl,rfl⟩
   have hk:∀ b,b≠g->(w.setCell ⟨g,0,none⟩ (.pointer (some ⟨g,0,none⟩))).heap[b]?=w.heap[b]?:=fun b hb=>by
    have:¬ g=b:=fun e=>hb e.symm
    rw [Go.Sort.setCell_eq];simp [Go.Sort.mapBlock,zL,this]
   have hsz:(w.setCell ⟨g,0,none⟩ (.pointer (some ⟨g,0,none⟩))).heap.size=w.heap.size:=by rw [Go.Sort.setCell_eq];simp [Go.Sort.mapBlock]
   have hg':(w.setCell ⟨g,0,none⟩ (.pointer (some ⟨g,0,none⟩))).heap[g]?=some (.cells (us.setIfInBounds 0 (.pointer (some ⟨g,0,none⟩))) 93 (0,0)):=by rw [Go.Sort.setCell_eq];simp [Go.Sort.mapBlock,zL,hg,Go.Sort.onCells]
   have hnew:RelL σ (w.setCell ⟨g,0,none⟩ (.pointer (some ⟨g,0,none⟩))) F [.np 0,.ref 1] (us.setIfInBounds 0 (.pointer (some ⟨g,0,none⟩))).toList:=by
    refine ⟨by simp [hlen],fun j x u hx hu=>?_⟩;match j,hx with
    | 0,hx =>
     cases hx
     simp [hlen] at hu
     subst hu
     exact .npS 0 g hσ
    | 1,hx =>
     cases hx
     have hu2:us[1]?=some u:=by simpa using hu
     have:=hcr.2 1 _ u rfl (by simpa using hu2)
     cases this with
     | ref _ A q cp h9=>exact .ref 1 A q cp h9
   have hone:∀ u,u∈us.setIfInBounds 0 (.pointer (some ⟨g,0,none⟩))->u.oneCell'=true:=fun u hu=>by
    rcases Array.mem_or_eq_of_mem_setIfInBounds hu with h | h
    ·exact hc1 u h
    ·subst h;rfl
   have s1:=hs.write (b0:=g) 0 rfl rfl hσ rfl hk hsz (.boxB 93 [.np 0,.ref 1]) ⟨g,_,rfl,hg',hnew,hone,hF⟩ (fun _ h=>h)
   have m1:Mv [.boxB 93 [.np 0,.ref 1],.arr 5 1 rows] σ w F ([Ob.boxB 93 [.np 0,.ref 1],.arr 5 1 rows].set 0 (.boxB 93 [.np 0,.ref 1])) σ (w.setCell ⟨g,0,none⟩ (.pointer (some ⟨g,0,none⟩))) F :=
    Mv.write (aw:=[.boxB 93 [.np 0,.ref 1],.arr 5 1 rows]) (w:=w) (w':=w.setCell ⟨g,0,none⟩ (.pointer (some ⟨g,0,none⟩))) (F:=F) (o:=.boxB 93 [.np 0,.ref 1]) (b0:=g) 0 rfl rfl hσ rfl rfl rfl drO hk hsz (.boxB 93 [.np 0,.ref 1]) (fun _ h=>h)
   exact ⟨_,_,_,σ,F,rfl,⟨rfl,rfl⟩,s1,d7,m1⟩
  | npS _ g2 h2 =>
   rw [hσ] at h2
   cases h2
   refine (wz g w hcell).mono ?_
   rintro e w' ⟨rfl,rfl⟩
   exact ⟨_,_,_,σ,F,rfl,⟨rfl,rfl⟩,hs,d7,.refl _ _ _ _⟩
theorem xm (b g cap:Nat) (cur:Array Value) (l:List UInt8) (w:World) (c0:w.cell? ⟨b,1,none⟩=some (.slice (some ⟨g,0,none⟩) l.length cap)) (h0:l≠[]) (hg:w.heap[g]?=some (.cells cur 5 (0,0))) (hnc:l.length<=cap) (hcm:cap<=maxLen) (hcs:cur.size=cap)
  (hx:∀ (j:Nat) x,l[j]?=some x->w.cell? ⟨g,j,none⟩=some (.int .u8 x.toNat)) :
  Calls Tryz.prog 54 #[.pointer (some ⟨b,0,none⟩)] w fun e w'=>e=.returned (.string ⟨l.toArray⟩)/\w'=w.drew.freeze ⟨g,0,none⟩ l.length:=by
 have hl0:l.length≠0:=by simpa using h0
 have c1:w.drew.cell? ⟨b,1,none⟩=some (.slice (some ⟨g,0,none⟩) l.length cap):=c0
 have hSD:(Builtin.unsafeSliceData_ #[91] 130 #[.slice (some ⟨g,0,none⟩) l.length cap]).run Tryz.prog w.drew=.ok (.pointer (some ⟨g,0,none⟩)) w.drew :=
  Lib.run_unsafeSliceData_row _ _ _ _ _ _ (by omega)
 have hUS:(Builtin.unsafeString_ #[130,3] 9 #[.pointer (some ⟨g,0,none⟩),.int .i64 l.length]).run Tryz.prog w.drew=.ok (.string ⟨l.toArray⟩) (w.drew.freeze ⟨g,0,none⟩ l.length):=by
  refine Lib.run_unsafeString_row w.drew 130 3 9 5 Tryz.underlying130 (by kernel_rfl) g cur.size (by have hg':w.drew.heap[g]?=some (.cells cur 5 (0,0)):=hg;simp [World.shape?,hg']) l h0 (by omega) (by unfold maxLen at hcm;omega) ?_;intro j x hj;show w.cell? _=_;have e:(⟨g,0,none⟩:Addr).add j=⟨g,j,none⟩:=by unfold Addr.add;simp;intro h;exact h.symm
  rw [e];exact hx j x hj
 have mixed:=mixed
 clear c0 hx hg
 go_enter Tryz.func54,Tryz.ntmps54
 go_wp2
 go_region_o
 all_goals (go_wp2;go_ret;exact ⟨rfl,rfl⟩)
theorem pO {σ:List Value} {w:World} {F:Nat->Prop}:∀ (xs:List Int) (flat:List Value),RelL σ w F (xs.map aH).flatten flat->flat=xs.map fun n=>Value.int .u8 n
 | [],flat,h=>y7 h.1
 | x::xs,flat,h=>by
  match flat,h with
  | [],h=>exact absurd h.1 (by simp [aH])
  | a::r,h =>
   have h1:Rel σ w F (.int .u8 x) a:=h.2 0 _ a rfl rfl
   have h3:=pO xs r ⟨by have:=h.1;simp [aH] at this ⊢;omega,fun j y v hy hv=>h.2 (j+1) y v (by simpa [aH] using hy) (by simpa using hv)⟩
   cases h1
   rw [h3];rfl
theorem sM (xs:List Int) (r:List UInt8) (h:bldS xs=some r):FnX Tryz.prog 54 [.ptr 0 0] [.boxB 93 [.np 0,.ref 1],.arr 5 1 (List.map aH xs)] (.str r) [.dead,.dead]:=by
 unfold bldS at h;split at h;rotate_left
 ·cases h
 rename_i hc;cases h;refine ⟨callable Tryz.func54 rfl (by kernel_rfl),fun w F σ vs hs hr=>?_⟩;match vs,hr with
 | [v0],hr =>
  have r0:Rel σ w F (.ptr 0 0) v0:=hr.2 0 _ v0 rfl rfl
  cases r0 with
  | ptr _ _ b hσ =>
  obtain ⟨b',us,e1,hb,hcr,hc1,hF⟩:=hs.obj 0 _ _ rfl hσ
  injection e1 with e1
  injection e1 with e1
  injection e1 with e1
  subst e1
  have hlen:us.size=2:=by simpa using hcr.1
  obtain ⟨p,hp,hrp⟩:=hcr.get (j:=1) (a:=.ref 1) rfl
  have hp':us[1]?=some p:=by simpa using hp
  have hcell:w.cell? ⟨b,1,none⟩=some p:=by rw [World.cell?];simp [hb,hp']
  cases hrp with
  | ref _ A q cp hσ1 =>
  obtain ⟨hq,flat,hown,hfl,hcase⟩:=em hs (id:=1) rfl hσ1
  rw [zf] at hq
  subst hq
  rcases hcase with hcase | ⟨g,cur,rfl,hFa,hga,hnc,hcm,hsz,htk⟩
  ·exact absurd (List.map_eq_nil_iff.1 hcase) hc.1
  ·have hflat:=pO xs flat hfl.2.2
   have hlt:(cy xs).length=xs.length:=by simp [cy]
   have hx:∀ (j:Nat) x,(cy xs)[j]?=some x->w.cell? ⟨g,j,none⟩=some (.int .u8 x.toNat):=fun j x hj=>by
    have hj2:j<xs.length:=by rw [<- hlt];exact (yX.1 hj).1
    have h1:cur.toList[j]?=some (.int .u8 xs[j]):=by
     have:(cur.toList.take (xs.length*1))[j]?=flat[j]?:=by rw [htk]
     rw [zJ,if_pos (by omega),hflat] at this;rw [this];simp [hj2]
    have h2:x=UInt8.ofNat (xs[j]).toNat:=by unfold cy at hj;rw [zb,yW hj2] at hj;exact (yY hj).symm
    have h3:=hc.2 xs[j] (zq hj2);have h4:((UInt8.ofNat (xs[j]).toNat).toNat:Int)=xs[j]:=by rw [UInt8.toNat_ofNat',Nat.mod_eq_of_lt (by omega)];omega
    rw [World.cell?];rw [h2,h4];have h5:cur[j]?=some (.int .u8 xs[j]):=by simpa using h1
    simp [hga,h5]
   have hne:cy xs≠[]:=fun e=>hc.1 (y7 (by rw [<- hlt,e];rfl))
   have hS:=xm b g cp cur (cy xs) w (by rw [hlt];exact hcell) hne hga (by rw [hlt];exact hnc) hcm (by omega) hx
   refine hS.mono ?_
   rintro e w' ⟨rfl,rfl⟩
   have hn0:(cy xs).length≠0:=by simpa using hne
   have hfz:∀ k,k≠g->(w.drew.freeze ⟨g,0,none⟩ (cy xs).length).heap[k]?=w.heap[k]?:=fun k hk=>by
    have:¬ g=k:=fun e=>hk e.symm
    unfold World.freeze;rw [if_neg hn0];show (w.heap.modify g _)[k]?=_;rw [zL,if_neg this]
   have hsize:(w.drew.freeze ⟨g,0,none⟩ (cy xs).length).heap.size=w.heap.size:=by unfold World.freeze;rw [if_neg hn0];show (w.heap.modify g _).size=_;simp
   have hD:Dof [Ob.boxB 93 [.np 0,.ref 1],.arr 5 1 (List.map aH xs)] σ g:=⟨1,_,_,rfl,rfl,hσ1,rfl⟩
   refine ⟨_,_,_,σ,F,rfl,⟨rfl,rfl⟩,⟨by have:=hs.len;simpa using this,fun k o v ho hv=>?_,fun k k' o o' v v' gg hne ho ho' hl=>?_,fun k hk=>by rw [hsize];exact hs.lt k hk,hs.gd.mono (fun _ hb=>hb) fun k hk=>hfz k (fun e=>hs.free hD (e▸hk))⟩,.str _,⟨by unfold World.freeze;rw [if_neg hn0];rfl,by unfold World.freeze;rw [if_neg hn0];rfl,⟨by unfold World.freeze;rw [if_neg hn0];rfl,by unfold World.freeze;rw [if_neg hn0];first | exact Nat.le_succ _ | exact y5 _⟩,Nat.le_of_eq hsize.symm,fun k hk hd=>hfz k (fun e=>hd (e▸hD)),fun _ _ h=>h,fun _ h=>h,fun _ h=>.inl h,fun k hd=>?_⟩⟩
   ·match k,ho with
    | 0,ho=>cases ho;trivial
    | 1,ho=>cases ho;trivial
   ·match k,ho with
    | 0,ho=>cases ho;cases hl
    | 1,ho=>cases ho;cases hl
   ·obtain ⟨j,o,v,ho,hl,_⟩:=hd
    match j,ho with
    | 0,ho=>cases ho;cases hl
    | 1,ho=>cases ho;cases hl
end
section
open Go.RowKit Go.Shelf
set_option maxRecDepth 100000
set_option maxHeartbeats 4000000
def iR:Go.Shelf.Ren:=⟨fun n=>match n with | 129=>96 | 171=>19 | 243=>41 | 246=>45 | 283=>72 | 284=>73 | 285=>74 | 286=>75 | 317=>95 | 318=>97 | 319=>98 | 320=>99 | 337=>110 | 338=>111 | _=>0,fun n=>match n with | 0=>0 | 2=>2 | 3=>3 | 4=>4 | 5=>5 | 9=>9 | 20=>20 | 37=>91 | 46=>111 | 51=>144 | 53=>108 | 171=>115 | 173=>118 | 212=>143 | 213=>145 | 232=>168 | 233=>169 | _=>0,fun n=>match n with | 17=>3 | 18=>6 | 19=>7 | _=>0⟩
theorem iL:LaysM.n171 Tryz.prog iR where
 mixed:=by kernel_rfl
 f129:=by kernel_rfl
 f171:=by kernel_rfl
 f243:=by kernel_rfl
 f246:=by kernel_rfl
 f283:=by kernel_rfl
 f284:=by kernel_rfl
 f285:=by kernel_rfl
 f286:=by kernel_rfl
 f317:=by kernel_rfl
 f318:=by kernel_rfl
 f319:=by kernel_rfl
 f320:=by kernel_rfl
 f337:=by kernel_rfl
 f338:=by kernel_rfl
 t0:=by kernel_rfl
 a0:=fun w=>by kernel_rfl
 z0:=fun w=>by kernel_rfl
 v0:=fun w=>by kernel_rfl
 t2:=by kernel_rfl
 a2:=fun w=>by kernel_rfl
 z2:=fun w=>by kernel_rfl
 v2:=fun w=>by kernel_rfl
 t3:=by kernel_rfl
 a3:=fun w=>by kernel_rfl
 z3:=fun w=>by kernel_rfl
 v3:=fun w=>by kernel_rfl
 t4:=by kernel_rfl
 a4:=fun w=>by kernel_rfl
 z4:=fun w=>by kernel_rfl
 v4:=fun w=>by kernel_rfl
 t5:=by kernel_rfl
 a5:=fun w=>by kernel_rfl
 z5:=fun w=>by kernel_rfl
 v5:=fun w=>by kernel_rfl
 t9:=by kernel_rfl
 a9:=fun w=>by kernel_rfl
 z9:=fun w=>by kernel_rfl
 v9:=fun w=>by kernel_rfl
 t20:=by kernel_rfl
 a20:=fun w=>by kernel_rfl
 z20:=fun w=>by kernel_rfl
 v20:=fun w=>by kernel_rfl
 t37:=by kernel_rfl
 a37:=fun w=>by kernel_rfl
 z37:=fun w=>by kernel_rfl
 v37:=fun w=>by kernel_rfl
 t46:=by kernel_rfl
 a46:=fun w=>by kernel_rfl
 z46:=fun w=>by kernel_rfl
 v46:=fun w=>by kernel_rfl
 t51:=by kernel_rfl
 a51:=fun w=>by kernel_rfl
 z51:=fun w=>by kernel_rfl
 v51:=fun w=>by kernel_rfl
 t53:=by kernel_rfl
 a53:=fun w=>by kernel_rfl
 z53:=fun w=>by kernel_rfl
 v53:=fun w=>by kernel_rfl
 t171:=by kernel_rfl
 a171:=fun w=>by kernel_rfl
 z171:=fun w=>by kernel_rfl
 v171:=fun w=>by kernel_rfl
 t173:=by kernel_rfl
 a173:=fun w=>by kernel_rfl
 z173:=fun w=>by kernel_rfl
 v173:=fun w=>by kernel_rfl
 t212:=by kernel_rfl
 a212:=fun w=>by kernel_rfl
 z212:=fun w=>by kernel_rfl
 v212:=fun w=>by kernel_rfl
 t213:=by kernel_rfl
 a213:=fun w=>by kernel_rfl
 z213:=fun w=>by kernel_rfl
 t232:=by kernel_rfl
 a232:=fun w=>by kernel_rfl
 z232:=fun w=>by kernel_rfl
 v232:=fun w=>by kernel_rfl
 t233:=by kernel_rfl
 a233:=fun w=>by kernel_rfl
 z233:=fun w=>by kernel_rfl
 v233:=fun w=>by kernel_rfl
 g17:=by kernel_rfl
 g18:=by kernel_rfl
 g19:=by kernel_rfl
 i0:=by kernel_rfl
 i2:=by kernel_rfl
 i3:=by kernel_rfl
 i4:=by kernel_rfl
 i5:=by kernel_rfl
 i9:=by kernel_rfl
 i20:=by kernel_rfl
 i37:=by kernel_rfl
 i46:=by kernel_rfl
 i51:=by kernel_rfl
 i53:=by kernel_rfl
 i171:=by kernel_rfl
 i173:=by kernel_rfl
 i212:=by kernel_rfl
 i232:=by kernel_rfl
 i233:=by kernel_rfl
 m17:=by kernel_rfl
 m18:=by kernel_rfl
 m19:=by kernel_rfl
theorem pR {w:World} {F:Nat->Prop} (h:Gd w F):Go.Lib.TabIs Tryz.prog w "internal/strconv.uint64pow10" .u64 Go.Lib.pow10Tab:=by
 obtain ⟨_,o,h1,cs,t,fz,rfl,h3⟩:=h 3 (by simp [gvs]);have hn:Tryz.prog.globalNamed "internal/strconv.uint64pow10" = some 3:=by kernel_rfl
 unfold Go.Lib.TabIs World.var?;rw [hn];simp only [yV,h1,h3.1 rfl]
theorem vM (p0:Int) (r:List UInt8) (h:itoaS p0=some r):Fn Tryz.prog 19 [.int .i64 p0] (.str r):=by
 unfold itoaS at h;split at h
 ·rename_i h0;injection h with h
  subst h;refine ⟨callable Tryz.func19 rfl (by kernel_rfl),fun w F σ vs hs hr=>?_⟩;match vs,hr with
  | [v0],hr =>
   have r0:Rel σ w F (.int .i64 p0) v0:=hr.2 0 _ v0 rfl rfl
   cases r0
   refine (Any.strconv_Itoa iL p0 h0.1 h0.2 w (pR hs.gd)).mono ?_
   rintro e w' ⟨rfl,k,os,rfl⟩
   have hb:=Go.Lib.below_grow w.heap.size w (y5 _) k os
   exact ⟨_,_,[],σ,F,rfl,⟨rfl,rfl⟩,hs.grow (fun _ h=>h) (fun _ h=>.inl h) (fun b hb2=>zk (hs.lt b hb2) hb.size) hb.block,.str _,.grow (fun _ h=>h) (fun _ h=>.inl h) hb.os hb.tape (drO hb.output) hb.size hb.block⟩
 ·cases h
end
section
open Go.RowKit
set_option maxRecDepth 100000
set_option maxHeartbeats 4000000
theorem fnTD {P:Program} {aw:List Ob} {f:FuncId} {fn:Func} {c:Code} {args:List AV} {Q:AV->List Ob->Prop} {m:Nat} (N:Nat) (hf:P.funcs[f]?=some fn) (hm:fn.ntmps=m) (h:iniC 0 args fun l=>TD P N c (retQ P fn N Q) (mkA m l) aw)
  (hb:fn.body=some c:=by rfl) (hN:aw.length=N:=by rfl) (hname:(fn.name == "runtime.NumGoroutine")=false:=by kernel_rfl) (hl:Nat.ble args.length m=true:=by rfl):ACalls P f args aw Q :=
 vj hN hf hb hname hm hl (lu (K:=fun l=>TD P N c (retQ P fn N Q) (mkA m l) aw) h)
theorem sf (p:Value) (w:World) :
  CallsD Tryz.prog 46 #[p] .returning w fun e u' w'=>(∃ v,e=.returned v)/\u'=.returning/\w'=w:=by
 refine callsD_of_wpS Tryz.func46 rfl fun c₀ cs hu=>?_
 apply wpS_seq
 apply wpS_region
 simp [wpOpsS,go_sem,recoverD,hu,Tryz.ntmps46,Exit.thenS]
 apply wpS_seq
 apply wpS_region
 simp [wpOpsS,go_sem,Exit.thenS]
 refine wpS_cond (t:=false) (by simp [Act.eval,Array.replicate]) ?_
 simp only [y6,if_false]
 refine wpS_of_wp (wp_skip ?_)
 cases c₀
 simp_all [bodyPostS,results,Tryz.results46]
theorem idleF:IdleF Tryz.prog 46 1:=fun cvs h=>by
 match cvs,h with
 | [p],_ =>
  exact ⟨.func 46,#[p],46,#[p],rfl,fun w=>callable Tryz.func46 rfl (by kernel_rfl) _ w,fun w=>sf p w⟩
end
section
open Go.RowKit
theorem Sim.other {aw:List Ob} {σ:List Value} {w w':World} {F:Nat->Prop} (h:Sim aw σ w F) (hk:∀ b,(F b∨Dof aw σ b)->w'.heap[b]?=w.heap[b]?) (hs:w.heap.size<=w'.heap.size):Sim aw σ w' F :=
 ⟨h.len,fun k o v ho hv=>(h.obj k o v ho hv).mono (fun _ _ e=>e) (fun _ e=>e) (fun b hb=>hk b (.inl hb)) (fun hl b hb=>⟨hk b (.inr ⟨k,o,v,ho,hl,hv,hb⟩),h.free ⟨k,o,v,ho,hl,hv,hb⟩⟩),h.sep,
  fun b hb=>zk (h.lt b hb) hs,h.gd.mono (fun _ hb=>hb) fun b hb=>hk b (.inl hb)⟩
section
variable {P:Program} {ops:Array Oper} {Q:Exit→Act→World→Prop} {rest:List Oper} {o:Oper} {a:Act} {w w':World} {v:Value}
theorem f8 (hg:o.guard=none) (h:(execOp a.eval o).run P w=.ok (.value v) w') (hk:wpList P ops Q rest (a.put o.dst v) w'):wpList P ops Q (o::rest) a w :=
 wpList_plain hg fun K hK=>by unfold Oper.wp;rw [h];exact hK _ _ hk
end
structure AgF (W:List Nat) (a a':Act):Prop where
 sz:a'.tmps.size=a.tmps.size
 ds:a'.defers=a.defers
 tm:∀ t,t ∉ W->a'.tmps[t]?=a.tmps[t]?
theorem AgF.refl (W:List Nat) (a:Act):AgF W a a:=⟨rfl,rfl,fun _ _=>rfl⟩
theorem AgF.put {W:List Nat} {a a':Act} (h:AgF W a a') {t:Nat} (ht:t∈W) (v:Value):AgF W a (a'.put (some t) v):=by
 refine ⟨by simp [Act.put,h.sz],by simp [Act.put,h.ds],fun s hs=>?_⟩;have hne:¬ t=s:=fun e=>hs (e▸ht)
 simp only [Act.put,Array.getElem?_setIfInBounds,hne,if_false];exact h.tm s hs
theorem vm {a:Act} {t:Nat} (h:t<a.tmps.size) (v:Value):(a.put (some t) v).tmps[t]?=some v:=by simp [Act.put,h]
theorem uM {a:Act} {t:Nat} {v:Value} (h:a.tmps[t]?=some v):a.eval (.tmp t)=v:=by show a.tmps.getD t undef=v;simp [Array.getD,h];grind
end
end Go.Proofs.YtbfncjgaklimlaaGreatDoor
