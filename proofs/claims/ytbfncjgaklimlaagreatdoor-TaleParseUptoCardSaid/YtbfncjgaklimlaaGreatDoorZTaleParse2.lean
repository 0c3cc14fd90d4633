/-
  Part 2 of the proof of taleParseLaw.proved: the code computes these functions, and the law holds of them, with no condition beyond the statement's own; put together by a program of ours (wip/decl.py) out of texts of ours.
-/
import Derived.Laws.IdiomCopy
import Derived.Lib.Overlaps
import Derived.Test.YtbfncjgaklimlaaGreatDoorRows
import Derived.Lib.AppendStr
import Derived.Shelf.Strconv.Itoa3
import Derived.Shelf.Strings.Split
import Derived.Lib.IndexLaws
import Derived.Shelf.Strconv.Atoi
import Derived.Shelf.Strings.IndexAnyAll
import Derived.Shelf.Strconv.AtoiAll
import Derived.Recover
import Derived.Shelf.Strconv.ParseIntPublic10
import Derived.Shelf.Strconv.Itoa4
import Derived.Lib.AppendIntMem
import Derived.Shelf.Strings.Search2
import Derived.RangeFuncNested
import Derived.RangeFuncBound
import Derived.RangeFuncCalls
import Derived.RangeFuncLeaves
import Derived.RangeFuncBox
import Derived.RowKit
import Derived.Test.YtbfncjgaklimlaaGreatDoorZTaleParse1
set_option linter.unusedVariables false
set_option linter.unusedSimpArgs false
namespace Go.Proofs.YtbfncjgaklimlaaGreatDoor
section
open Go.RowKit
section
variable {P:Program} {N n:Nat} {aw aw':List Ob} {l:List (Nat × AV)} {σ:List Value} {w:World} {F:Nat→Prop}
structure IsV (σ:List Value) (id c lo n:Nat) (v:Value):Prop where
 out:∃ (N C K:Nat) (A B:Option Addr),σ[id]?=some (.slice B N C)/\v=.slice A n K/\lo+n<=C/\(0<n->∃ g,B=some ⟨g,0,none⟩/\A=some ⟨g,lo*c,none⟩)
structure Src (w:World) (c m:Nat) (flat:List Value) (v:Value):Prop where
 out:∃ (A:Option Addr) (K:Nat),v=.slice A m K/\flat.length=m*c/\(A=none->flat=[])/\∀ ad,A=some ad->∀ j u,flat[j]?=some u->w.cell? (ad.add j)=some u
theorem p7 {id e c:Nat} {rows:List (List AV)} (hs:Sim aw σ w F) (ho:aw[id]?=some (.arr e c rows)) {A:Option Addr} {q cp:Nat} (hσ:σ[id]?=some (.slice A q cp)):q=rows.length/\q<=cp:=by
 obtain ⟨flat,hown,_⟩:=hs.obj id _ _ ho hσ;rcases hown.2 with ⟨h1,h2⟩ | ⟨g,cap,cur,h1,_,_,h2,_⟩
 all_goals grind
theorem qr {id c lo m:Nat} {cap:Option Nat} {v:Value} (h:Rel σ w F (.vw id c lo m cap) v):IsV σ id c lo m v:=by
 cases h with
 | vw _ _ _ _ N C _ A B h hn hA hc _=>exact ⟨N,C,_,A,B,h,rfl,hn,hA⟩
theorem wx {id e c:Nat} {rows:List (List AV)} {v:Value} (hs:Sim aw σ w F) (ho:aw[id]?=some (.arr e c rows)) (h:Rel σ w F (.ref id) v):IsV σ id c 0 rows.length v:=by
 cases h with
 | ref _ A q cp hσ =>
  obtain ⟨h1,h2⟩:=p7 hs ho hσ;subst h1;obtain ⟨_,flat,_,_,hc⟩:=e7 hs ho hσ;refine ⟨_,cp,cp,A,A,hσ,rfl,by omega,fun h0=>?_⟩;grind
theorem wo {id e c lo m:Nat} {rows:List (List AV)} {v:Value} (hs:Sim aw σ w F) (ho:aw[id]?=some (.arr e c rows)) (hv:IsV σ id c lo m v) (hlo:lo+m<=rows.length) :
  ∃ flat,Src w c m flat v/\RelL σ w F ((rows.drop lo).take m).flatten flat/\(∀ u,u∈flat->u.oneCell'=true)/\∀ row,row∈rows->row.length=c:=by
 obtain ⟨N0,C,K,A,B,hσ,rfl,hn,hA⟩:=hv.out
 obtain ⟨h1,flat,hown,hfl,hc⟩:=e7 hs ho hσ
 have hfr:(((rows.drop lo).take m).flatten)=((rows.flatten.drop (lo*c)).take (m*c)):=by
  rw [jB _ _ (fun row hr=>hfl.1 row (Aw hr))];congr 1;have:∀ (k:Nat) (l:List (List AV)),(∀ row,row∈l->row.length=c)->(l.drop k).flatten=l.flatten.drop (k*c):=by
   intro k;induction k with
   | zero=>simp
   | succ k ih =>
    intro l hl;cases l with
    | nil=>simp
    | cons x l =>
     rw [List.drop_succ_cons,ih l (fun row hr=>hl row (Ai _ hr)),Aq,A9,Nat.one_mul,<- hl x Aj,Nat.add_comm (k*x.length),<- Ay,List.drop_left]
  exact this lo rows hfl.1
 refine ⟨(flat.drop (lo*c)).take (m*c),⟨A,K,rfl,?_,fun hA0=>?_,fun ad had j u hj=>?_⟩,?_,fun u hu=>hfl.2.1 u (Aw (Af hu)),hfl.1⟩
 ·have h2:=hown.1
  have:lo*c+m*c<=N0*c:=by rw [<- A9];simp_all [Ao]
  grind
 ·simp_all
 ·have hj':j<m*c:=by
   grind
  by_cases hm:m=0
  ·grind
  ·obtain ⟨g,e1,e2⟩:=hA (by omega)
   rw [had] at e2;cases e2
   rcases hc with hc | ⟨g',cur,e3,_⟩
   ·grind
   ·rw [e1] at e3;cases e3
    rw [e1] at hown
    rw [As,if_pos hj',z7] at hj
    have:=hown.cells (g:=g) rfl (lo*c+j) u hj
    grind [Addr.add]
 ·rw [hfr];exact hfl.2.2.sub _ _
theorem xj {c:Nat} {rows:List (List AV)} {v:Value} (h:Rel σ w F (.sl rows) v) (hrow:∀ row,row∈rows->row.length=c) :
  ∃ flat,Src w c rows.length flat v/\RelL σ w F rows.flatten flat/\(∀ u,u∈flat->u.oneCell'=true):=by
 cases h with
 | slNil=>exact ⟨[],⟨none,0,rfl,by simp,fun _=>rfl,fun ad h=>by cases h⟩,.nil,fun u hu=>by simp at hu⟩
 | sl _ size ad cp u hF hn hm hr1 hone hcell hrel =>
  by_cases hne:rows=[]
  ·subst hne
   exact ⟨[],⟨some ad,cp,rfl,by simp,fun _=>rfl,fun _ _ j u hj=>by simp at hj⟩,.nil,fun u hu=>by simp at hu⟩
  ·have hsize:size=c:=by
    obtain ⟨r,rs,rfl⟩:=List.exists_cons_of_ne_nil hne;simp_all
   subst hsize
   have hlen:rows.flatten.length=rows.length*size:=by
    have:∀ l:List (List AV),(∀ row,row∈l->row.length=size)->l.flatten.length=l.length*size:=by
     intro l;induction l with
     | nil=>simp
     | cons x l ih =>
      grind
    grind
   by_cases h0:size=0
   ·subst h0
    refine ⟨[],⟨some ad,cp,rfl,by simp,(fun _=>rfl),(fun _ _ j u hj=>by simp at hj)⟩,?_,fun u hu=>by simp at hu⟩
    have:rows.flatten=[]:=zN (by omega)
    rw [this];exact .nil
   ·have idx:∀ k,k<rows.length*size->k / size<rows.length/\k % size<size/\k / size*size+k % size=k:=fun k hk =>
     ⟨A3 (by grind),Nat.mod_lt _ (by omega),by simp [Nat.mul_comm,Nat.div_add_mod]⟩
    have hget:∀ (k:Nat) x,((List.range (rows.length*size)).map fun k=>u (k / size) (k % size))[k]?=some x->k<rows.length*size/\x=u (k / size) (k % size):=fun k x hx=>by grind
    refine ⟨(List.range (rows.length*size)).map fun k=>u (k / size) (k % size),⟨some ad,cp,rfl,by simp,fun h=>(by cases h),fun ad' e j x hj=>?_⟩,⟨by simp [hlen],fun j x y hx hy=>?_⟩,fun x hx=>?_⟩
    ·grind
    ·obtain ⟨h1,rfl⟩:=hget j y hy
     obtain ⟨h2,h3,h4⟩:=idx j h1
     have hf:=iw hr1 (j / size) (j % size) rows[j / size] (zJ h2) h3
     grind
    grind
theorem tr {id e c lo k:Nat} {rows news:List (List AV)} {B:Option Addr} {N0 C g:Nat} {vs:List Value} (hs:Sim aw σ w F) (ho:aw[id]?=some (.arr e c rows)) (hσ:σ[id]?=some (.slice (some ⟨g,0,none⟩) N0 C))
  (hk:news.length=k) (hlo:lo+k<=rows.length) (hrow:∀ row,row∈news->row.length=c) (hvl:vs.length=k*c) (hr:RelL σ w F news.flatten vs) (h1:∀ u,u∈vs->u.oneCell'=true) :
  ∃ w',(storeCells ⟨g,lo*c,none⟩ vs).run P w=.ok () w'/\Sim (aw.set id (.arr e c (rows.take lo++news++rows.drop (lo+k)))) σ w' F/\Mv aw σ w F (aw.set id (.arr e c (rows.take lo++news++rows.drop (lo+k)))) σ w' F:=by
 obtain ⟨hn,flat,hown,hfl,hc⟩:=e7 hs ho hσ
 have hdrop:∀ (k:Nat) (l:List (List AV)),(∀ row,row∈l->row.length=c)->(l.drop k).flatten=l.flatten.drop (k*c):=by
  intro k;induction k with
  | zero=>simp
  | succ k ih =>
   intro l hl;cases l with
   | nil=>simp
   | cons x l =>
    rw [List.drop_succ_cons,ih l (fun row hr=>hl row (Ai _ hr)),Aq,A9,Nat.one_mul,<- hl x Aj,Nat.add_comm (k*x.length),<- Ay,List.drop_left]
 rcases hc with hc | ⟨g',cur,e1,hF,hg,hnc,h2,h3,h4⟩
 ·subst hc
  have h0:k=0:=by grind
  have hl0:lo=0:=by grind
  subst h0 hl0
  have hv0:vs=[]:=zN (by omega)
  have hn0:news=[]:=zN hk
  subst hv0 hn0
  have hset:aw.set id (.arr e c (([]:List (List AV)).take 0++[]++([]:List (List AV)).drop (0+0)))=aw:=by grind [List.set_getElem_self]
  rw [hset]
  exact ⟨w,by rfl,hs,.refl ..⟩
 ·cases e1
  have hin:lo*c+k*c<=N0*c:=by rw [<- A9];simp_all [Ao]
  have hcap:N0*c<=cur.size:=by simp_all [Ao]
  have hst:=run_storeCells_at P g (lo*c) e vs 0 cur w hg (by omega) h1
  simp only [AK] at hst
  have hkk:∀ b,b≠g->(w.setRow g (cur.toList.take (lo*c)++vs++cur.toList.drop (lo*c+vs.length)).toArray).heap[b]?=w.heap[b]?:=fun b hb=>setRow_other w g b _ hb
  have hflat:flat.length=N0*c:=hown.1
  have hlen2:(rows.take lo++news++rows.drop (lo+k)).length=N0:=by simp;omega
  have hORel:ORel σ (w.setRow g (cur.toList.take (lo*c)++vs++cur.toList.drop (lo*c+vs.length)).toArray) F (.arr e c (rows.take lo++news++rows.drop (lo+k))) (.slice (some ⟨g,0,none⟩) N0 C):=by
   refine ⟨flat.take (lo*c)++vs++flat.drop (lo*c+vs.length),⟨?_,.inr ⟨g,C,_,by rw [hlen2],Ae _,setRow_heap w g cur _ e (0,0) hg,by omega,h2,?_,?_⟩⟩,⟨fun row hr=>?_,fun u hu=>?_,?_⟩,fun g2 hg2=>?_,_,_,_,rfl⟩
   ·grind
   ·grind
   ·rw [hlen2];simp only [List.toList_toArray];have h5:=nk cur.toList vs (lo*c) (N0*c) (by omega) (by omega);grind [bf]
   ·rcases Ah.1 hr with hr | hr
    ·rcases Ah.1 hr with hr | hr
     ·exact hfl.1 row (Af hr)
     grind
    ·exact hfl.1 row (Aw hr)
   ·rcases Ah.1 hu with hu | hu
    ·rcases Ah.1 hu with hu | hu
     ·exact hfl.2.1 u (Af hu)
     grind
    ·exact hfl.2.1 u (Aw hu)
   ·rw [AL,AL,jB _ _ hfl.1,hdrop _ _ hfl.1];rw [show lo*c+vs.length=(lo+k)*c from by grind] at hkk ⊢;have hd2:RelL σ w F (rows.flatten.drop ((lo+k)*c)) (flat.drop ((lo+k)*c)):=by
     refine ⟨by simp [hfl.2.2.1],fun j a v ha hv=>?_⟩;rw [z7] at ha hv;exact hfl.2.2.2 _ a v ha hv
    exact (((hfl.2.2.take _).append hr).append hd2).mono (fun _ _ e=>e) (fun _ e=>e) (fun b hb=>hkk b (fun e=>hF (e▸hb)))
   grind [Value.ownBlock]
  exact ⟨_,hst,hs.write (b0:=g) id ho rfl hσ rfl hkk (by simp) _ hORel (fun _ h=>h),Mv.write (w:=w) (w':=w.setRow g _) (F:=F) (b0:=g) id ho rfl hσ rfl rfl rfl drO hkk (by simp) _ (fun _ h=>h)⟩
theorem uV {t ts ty e c id lo m k:Nat} {rows news:List (List AV)} {vd vs:Value} {flat:List Value} (hu:P.underlying t=some (.slice e)) (hc:P.cellsOf e=c) (hsm:(P.underlying e).isSome=true) (hs:Sim aw σ w F) (ho:aw[id]?=some (.arr e c rows))
  (hd:IsV σ id c lo m vd) (hsrc:Src w c news.length flat vs) (hr:RelL σ w F news.flatten flat) (h1:∀ u,u∈flat->u.oneCell'=true) (hrow:∀ row,row∈news->row.length=c) (hk:min m news.length=k) (hlo:lo+k<=rows.length) :
  ∃ w',(Builtin.copy_ #[t,ts] ty #[vd,vs]).run P w=.ok (goInt k) w'/\Sim (aw.set id (.arr e c (rows.take lo++news.take k++rows.drop (lo+k)))) σ w' F/\Mv aw σ w F (aw.set id (.arr e c (rows.take lo++news.take k++rows.drop (lo+k)))) σ w' F:=by
 obtain ⟨N0,C,K,A,B,hσ,rfl,hn,hA⟩:=hd.out
 obtain ⟨A2,K2,rfl,hfl,hnone,hcell⟩:=hsrc.out
 obtain ⟨ds,hds⟩:=zU.1 hsm
 have hmin:Nat.min news.length m=k:=by grind
 have htk:k*c<=flat.length:=by rw [hfl];exact Ao _ (by omega)
 have hfirst:(Builtin.firstCells c k (.slice A2 news.length K2)).run P w=.ok (flat.take (k*c)).toArray w:=by
  cases A2 with
  | none=>simp_all [Builtin.firstCells]
  | some ad=>grind [run_firstCells_some]
 have hsz:=cL hds
 rw [hc] at hsz
 have hset:aw.set id (.arr e c (rows.take lo++([]:List (List AV))++rows.drop (lo+0)))=aw:=by obtain ⟨hlt,hvs⟩:=zK.1 ho;have:aw.set id aw[id]=aw:=Ad hlt;simp_all
 by_cases h0:k=0
 ·subst h0
  simp only [List.take_zero]
  rw [hset]
  refine ⟨w,?_,hs,.refl ..⟩
  have he:(flat.take (0*c)).toArray=#[]:=by simp
  rw [he] at hfirst
  cases A with
  | none=>simp_all [Builtin.copy_,run_underlying,Builtin.lenOf]
  | some a=>simp [Builtin.copy_,Sem.run_bind,run_underlying hu,Builtin.lenOf,hmin,hsz,hfirst,storeCells]
 ·obtain ⟨g,rfl,rfl⟩:=hA (by omega)
  have hrt:RelL σ w F (news.take k).flatten (flat.take (k*c)):=by rw [jB _ _ hrow];exact hr.take _
  obtain ⟨w',hst,s2,m2⟩:=tr (P:=P) (B:=none) (news:=news.take k) (vs:=flat.take (k*c)) (lo:=lo) (k:=k) hs ho hσ (by simp;omega) hlo (fun row hr=>hrow row (Af hr)) (by grind) hrt (fun u hu=>h1 u (Af hu))
  simp_all [Builtin.copy_,run_underlying,Builtin.lenOf]
variable {d:Option Tmp} {ty:TypeId} {ps:String} {af:Array Edge} {g:Option (Nat × Bool)} {K2:AV→List Ob→Prop} {α:Type} {en:α→List AV} {xs ys:List α}
theorem pO (lo:Option Operand):lo.map (ev (mkA n l))=lo.map (evA n l):=by cases lo<;>simp [am]
theorem jJ {t:TypeId} {x:Operand} {lo hi:Option Operand} {id e c:Nat} {i j:Int} {k k':IntKind} {u:Unit} (hS:SliceOf P t e c) (hx:evA n l x=.ref id) (ho:aw[id]?=some (.arr e c (xs.map en)))
    (hl:(lo.map (evA n l)).getD (.int .i64 0)=.int k i) (hh:(hi.map (evA n l)).getD (.int .i64 xs.length)=.int k' j) (hv:vwok xs.length i j=some u) (h:K2 (.vw id c i.toNat (j.toNat - i.toNat) none) aw) :
    OP P N ⟨d,.slice t x lo hi none,ty,ps,af,g⟩ (mkA n l) aw K2 :=
  OP.of_ok (fun σ w F a har hs=>by
    unfold vwok at hv;split at hv
    · rename_i hc;have ex:=har.ev x;rw [am,hx] at ex;generalize hvx:a.eval x=vx at ex;cases ex with
      | ref _ A q cp hσ =>
        obtain ⟨h1,h2⟩:=p7 hs ho hσ;rw [zZ] at h1;subst h1;obtain ⟨ds,hd⟩:=zU.1 hS.s;have hsz:=cL hd;rw [hS.c] at hsz;have b:=fun w'=>jG (P:=P) har (lo:=lo) (hi:=hi) (b:=true) (len:=xs.length) (cap:=cp) (by rw [pO];exact hl) (by rw [pO];exact hh) hc.1 hc.2.1 hc.2.2 h2 w'
        have hfm:∃ g,xs≠[]->A=some ⟨g,0,none⟩:=by
          obtain ⟨_,_,_,_,hc2⟩:=e7 hs ho hσ;rcases hc2 with hc2 | ⟨g,cur,e1,_⟩
          · simp_all
          grind
        obtain ⟨g0,hg0⟩:=hfm;refine ⟨.slice (if cp=i.toNat then A else A.map (·.add (i.toNat*c))) (j.toNat - i.toNat) (cp - i.toNat),_,w,aw,σ,F,_,?_,.inl rfl,hs,.refl ..,?_,h⟩
        · simp [execOp,hvx,Instr.sliceAt,Instr.slice,Sem.run_bind,run_underlying hS.u,b,hsz]
        · refine .vw id c _ _ _ cp none _ A hσ (by omega) (fun hpos=>?_) (fun k hk=>by cases hk) ?_
          · have hne:xs≠[]:=by grind
            refine ⟨g0,hg0 hne,?_⟩;have:¬ cp=i.toNat:=by omega
            simp_all [cP]
          · intro h0;rw [h0];simp [Addr.add]
    · cases hv)
theorem nO {t ts e c id lo m k:Nat} {x y:Operand} {rows news:List (List AV)} {ax ay:AV} (hS:SliceOf P t e c) (hx:evA n l x=ax) (hy:evA n l y=ay) (ho:aw[id]?=some (.arr e c rows))
  (hd:∀ σ w F v,Sim aw σ w F->Rel σ w F ax v->IsV σ id c lo m v)
  (hsrc:∀ σ w F v,Sim aw σ w F->Rel σ w F ay v->∃ flat,Src w c news.length flat v/\RelL σ w F news.flatten flat/\(∀ u,u∈flat->u.oneCell'=true)) (hrow:∀ row,row∈news->row.length=c)
  (hk:min m news.length=k) (hlo:lo+k<=rows.length) (ha:aw.set id (.arr e c (rows.take lo++news.take k++rows.drop (lo+k)))=aw') (h:K2 (.int .i64 k) aw') :
  OP P N ⟨d,.call ⟨.builtin .copy,#[x,y],#[t,ts]⟩,ty,ps,af,g⟩ (mkA n l) aw K2 :=
 OP.of_ok (fun σ w F a har hs=>by subst ha;have ex:=har.ev x;have ey:=har.ev y;rw [am,hx] at ex;rw [am,hy] at ey;obtain ⟨flat,h1,h2,h3⟩:=hsrc σ w F _ hs ey;obtain ⟨w',hrun,s2,m2⟩:=uV (P:=P) (t:=t) (ts:=ts) (ty:=ty) hS.u hS.c hS.s hs ho (hd σ w F _ hs ex) h1 h2 h3 hrow hk hlo;refine ⟨goInt k,_,w',_,σ,F,_,?_,.inl rfl,s2,m2,.int _ _,h⟩;simp_all [execOp,resolve,invoke,builtin])
theorem pA (lo m:Nat):(cpy xs lo m ys).map en=(xs.map en).take lo++(ys.map en).take (min m ys.length)++(xs.map en).drop (lo+min m ys.length):=by simp [cpy]
theorem uw {t ts e c id:Nat} {x y:Operand} (hS:SliceOf P t e c) (hen:∀ a,(en a).length=c) (hx:evA n l x=.ref id) (hy:evA n l y=.sl (ys.map en)) (ho:aw[id]?=some (.arr e c (xs.map en)))
  (ha:aw.set id (.arr e c ((cpy xs 0 xs.length ys).map en))=aw') (h:K2 (.int .i64 (min xs.length ys.length:Nat)) aw'):OP P N ⟨d,.call ⟨.builtin .copy,#[x,y],#[t,ts]⟩,ty,ps,af,g⟩ (mkA n l) aw K2:=by
 have hrow:∀ row,row∈ys.map en->row.length=c:=fun row hr=>by grind
 rw [pA] at ha
 exact nO (lo:=0) (m:=xs.length) (news:=ys.map en) (k:=min xs.length ys.length) hS hx hy ho (fun σ w F v hs hr=>by grind [wx,List.length_map]) (fun σ w F v _ hr=>xj hr hrow) hrow (by simp) (by simp;omega) ha h
theorem ua {t ts e c id lo m lo2 m2:Nat} {x y:Operand} {cap cap2:Option Nat} {u u2:Unit} (hS:SliceOf P t e c) (hen:∀ a,(en a).length=c) (hx:evA n l x=.vw id c lo m cap) (hy:evA n l y=.vw id c lo2 m2 cap2) (ho:aw[id]?=some (.arr e c (xs.map en)))
  (hv:vwok xs.length lo ((lo:Int)+m)=some u) (hv2:vwok xs.length lo2 ((lo2:Int)+m2)=some u2) (ha:aw.set id (.arr e c ((cpy xs lo m ((xs.drop lo2).take m2)).map en))=aw') (h:K2 (.int .i64 (min m m2:Nat)) aw'):OP P N ⟨d,.call ⟨.builtin .copy,#[x,y],#[t,ts]⟩,ty,ps,af,g⟩ (mkA n l) aw K2:=by
 unfold vwok at hv hv2
 split at hv<;>split at hv2
 ·rename_i hc hc2
  have hl2:((xs.drop lo2).take m2).length=m2:=by grind
  have hrow:∀ row,row∈((xs.drop lo2).take m2).map en->row.length=c:=fun row hr=>by grind
  rw [pA,hl2] at ha
  refine nO (news:=((xs.drop lo2).take m2).map en) (k:=min m m2) hS hx hy ho (fun σ w F v _ hr=>qr hr) (fun σ w F v hs hr=>?_) hrow (by grind) (by simp;omega) ha h
  obtain ⟨flat,h1,h2,h3,_⟩:=wo hs ho (qr hr) (by simp;omega)
  grind [List.map_drop,List.map_take]
 all_goals grind
end
end
section
open Go.RowKit Go.Lib
section
variable {P:Program} {N n:Nat} {aw aw':List Ob} {l:List (Nat × AV)} {σ:List Value} {w:World} {F:Nat→Prop}
theorem wv {t:Nat} {r:AV} {v:Value} {a:Act} (h:ARel σ w F (mkA n l) a) (hv:a.eval (.tmp t)=v) (hr:Rel σ w F r v):ARel σ w F (mkA n ((t,r)::l)) a:=by
 have e1:a.tmps.getD t undef=v:=hv;have hset:mkA n ((t,r)::l)=(mkA n l).set t r:=(bG n l (some t) r).symm;rw [hset];refine ⟨?_,h.2⟩;by_cases ht:t<a.tmps.size
 ·have:=h.1.set t hr;have e2:a.tmps.toList.set t v=a.tmps.toList:=by
   have e3:a.tmps.toList[t]?=some v:=by simp_all
   grind [List.set_getElem_self]
  grind
 ·have hlen:=h.1.1;have:(mkA n l).set t r=mkA n l:=List.set_eq_of_length_le (by grind);rw [this];exact h.1
variable {d:Option Tmp} {ty:TypeId} {ps:String} {af:Array Edge} {g:Option (Nat × Bool)} {K2:AV→List Ob→Prop} {α:Type} {en:α→List AV} {xs ys:List α}
theorem T.nilA {code:Code} {Q:Exit->List AV->List Ob->Prop} (t j e z:Nat) {cs cs':List AV} (hx:evA n l (.tmp t)=.agg cs) (hj:cs[j]?=some .nils) (hc:cs.set j (.ref aw.length)=cs') (ha:aw++[.arr e z []]=aw') (h:T P N code Q (mkA n ((t,.agg cs')::l)) aw'):T P N code Q (mkA n l) aw :=
 ⟨fun st h1 h2 σ w F a hcur=>by
  subst hc ha;obtain ⟨s1,m1,r1⟩:=j8 e z hcur.sim;have hr:=hcur.fr.ev (.tmp t);rw [am,hx] at hr;generalize hv:a.eval (.tmp t)=v at hr;have hr1:=m1.rel hcur.sim hr;have hr2:Rel (σ++[.slice none 0 0]) w F (.agg (cs.set j (.ref aw.length))) v:=by
   cases hr1 with
   | agg _ vs hl h1c hcc =>
    refine .agg _ vs (by grind) h1c (fun i x u hx hu=>?_);rw [zV] at hx;split at hx
    ·rename_i e1;subst e1;split at hx
     ·cases hx;have:=hcc j .nils u hj hu;cases this;exact r1
     ·cases hx
    grind
  exact h.out st h1 h2 _ w F a ⟨s1,wv (m1.aRel hcur.sim hcur.fr) hv hr2,hcur.mv.trans m1,hcur.ds⟩⟩
end
end
section
open Go.RowKit
abbrev iI (n:Int):AV:=.int .i64 n
abbrev sL {α:Type} (en:α->List AV) (xs:List α):AV:=.sl (List.map en xs)
abbrev aR {α:Type} (e c:Nat) (en:α->List AV) (xs:List α):Ob:=.arr e c (List.map en xs)
section
variable {P:Program} {N n:Nat} {aw aw':List Ob} {l:List (Nat × AV)} {ops:Array Oper} {os:List Oper} {K:List AV→List Ob→Prop} {o:Oper} {d:Option Tmp} {x:Operand} {ty:TypeId} {ps:String} {af:Array Edge}
theorem sq (h:vcQ P (mkA n l) aw o.op fun r=>RS P N ops os K (mkA n (bI l o.dst r)) aw) (hg:o.guard=none:=by rfl) (hq:fU o.op=true:=by rfl):RS P N ops (o::os) K (mkA n l) aw:=RS.op hg (OP.q hq h)
theorem sn {j t:Nat} {want b:Bool} (hbw:b=!want) (h:RS P N ops os K (mkA n (bI l o.dst (.tup []))) aw) (hg:o.guard=some (j,want):=by rfl) (ht:(ops[j]?).bind (·.dst)=some t:=by rfl) (hb:evA n l (.tmp t)=.bool b:=by rfl) :
 RS P N ops (o::os) K (mkA n l) aw:=RS.no hg ht hb hbw h
theorem su {j t:Nat} {want:Bool} (h:RS P N ops os K (mkA n (bI l o.dst (.tup []))) aw) (hg:o.guard=some (j,want):=by rfl) (ht:(ops[j]?).bind (·.dst)=some t:=by rfl) (hb:evA n l (.tmp t)=.tup []:=by rfl) :
 RS P N ops (o::os) K (mkA n l) aw:=RS.nou hg ht hb h
def SubA:List (Nat × AV)->List (Nat × AV)->Prop
 | [],_=>True
 | (s,v)::r,l=>lkA l s=v/\SubA r l
theorem pD:∀ {l' l:List (Nat × AV)},SubA l' l->∀ t,lkA l' t=.any∨lkA l' t=lkA l t
 | [],l,_,t=>.inl rfl
 | (s,v)::r,l,h,t=>by
  rw [dJ];by_cases e:s=t
  ·subst e;rw [if_pos rfl];exact .inr h.1.symm
  ·rw [if_neg e];exact pD h.2 t
theorem pV {l':List (Nat × AV)} {st:St} {σ:List Value} {w:World} {F:Nat->Prop} {a:Act} (h:SubA l' l) (hc:Cur st (mkA n l) aw σ w F a):Cur st (mkA n l') aw σ w F a:=by
 refine ⟨hc.sim,⟨⟨?_,fun j x v hx hv=>?_⟩,hc.fr.2⟩,hc.mv,hc.ds⟩
 ·have:=hc.fr.1.1;grind [gX]
 ·rw [db] at hx;split at hx
  ·rename_i hj;cases hx;rcases pD h j with e | e
   ·rw [e];exact .any _
   ·rw [e];exact hc.fr.1.2 j _ v (by rw [db,if_pos hj]) hv
  ·cases hx
theorem RA.sub {l':List (Nat × AV)} {k:Nat} {li:Array Bool} (h:RA P N ops k li K (mkA n l') aw) (hs:SubA l' l):RA P N ops k li K (mkA n l) aw:=⟨fun st h1 h2 σ w F a hc=>h.out st h1 h2 σ w F a (pV hs hc)⟩
theorem T.sub {l':List (Nat × AV)} {c:Code} {Q:Exit->List AV->List Ob->Prop} (h:T P N c Q (mkA n l') aw) (hs:SubA l' l):T P N c Q (mkA n l) aw:=⟨fun st h1 h2 σ w F a hc=>h.out st h1 h2 σ w F a (pV hs hc)⟩
section
variable {k:Nat} {li li':Array Bool} {fr fr':List AV}
theorem ra1 (i1:Nat) (h1:RO P N ops i1 (RA P N ops k (li.setIfInBounds i1 true) K) fr aw) (hr:Region.ready .any ops li=[i1]:=by decide +kernel):RA P N ops (k+1) li K fr aw:=RA.a1 hr rfl h1
theorem ra2 (i1 i2:Nat) (h1:RO P N ops i1 (RA P N ops k (li.setIfInBounds i1 true) K) fr aw) (h2:RO P N ops i2 (RA P N ops k (li.setIfInBounds i2 true) K) fr aw) (hr:Region.ready .any ops li=[i1,i2]:=by decide +kernel):RA P N ops (k+1) li K fr aw:=RA.a2 hr rfl rfl h1 h2
theorem ra3 (i1 i2 i3:Nat) (h1:RO P N ops i1 (RA P N ops k (li.setIfInBounds i1 true) K) fr aw) (h2:RO P N ops i2 (RA P N ops k (li.setIfInBounds i2 true) K) fr aw) (h3:RO P N ops i3 (RA P N ops k (li.setIfInBounds i3 true) K) fr aw)
 (hr:Region.ready .any ops li=[i1,i2,i3]:=by decide +kernel):RA P N ops (k+1) li K fr aw:=RA.a3 hr rfl rfl rfl h1 h2 h3
theorem ra4 (i1 i2 i3 i4:Nat) (h1:RO P N ops i1 (RA P N ops k (li.setIfInBounds i1 true) K) fr aw) (h2:RO P N ops i2 (RA P N ops k (li.setIfInBounds i2 true) K) fr aw) (h3:RO P N ops i3 (RA P N ops k (li.setIfInBounds i3 true) K) fr aw)
 (h4:RO P N ops i4 (RA P N ops k (li.setIfInBounds i4 true) K) fr aw) (hr:Region.ready .any ops li=[i1,i2,i3,i4]:=by decide +kernel):RA P N ops (k+1) li K fr aw:=RA.a4 hr rfl rfl rfl rfl h1 h2 h3 h4
end
theorem bz:(∀ b,(true || b)=true)/\(∀ b,(b || true)=true)/\(∀ b,(false || b)=b)/\(∀ b,(b || false)=b)/\(∀ b,(true && b)=b)/\(∀ b,(b && true)=b)/\(∀ b,(false && b)=false)/\(∀ b,(b && false)=false)/\(!true)=false/\(!false)=true:=by simp
theorem it {α:Type} (a b:α):(if true=true then a else b)=a:=rfl
class RetI (Q:Exit->List AV->List Ob->Prop) (R:outParam (List AV->List Ob->Prop)):Prop where
 out:∀ fr aw,R fr aw->Q .ret fr aw
instance {fn:Func} {M:Nat} {Q:AV->List Ob->Prop}:RetI (retQ P fn M Q) (fun fr aw=>aT P fr aw fn.results.toList (Ret M Q aw)):=⟨fun _ _ h=>h⟩
instance {K:List AV->List Ob->Prop} {Q:Exit->List AV->List Ob->Prop} {R:List AV->List Ob->Prop} [h:RetI Q R]:RetI (thenA K Q) R:=⟨h.out⟩
instance {id:Nat} {Q:Exit->List AV->List Ob->Prop} {R:List AV->List Ob->Prop} [h:RetI Q R]:RetI (fP id Q) R:=⟨h.out⟩
instance {α β:Type} {M:Nat} {v:α ⊕ β} {F:α->List AV} {A:α->List Ob} {Q:Exit->List AV->List Ob->Prop} {R:List AV->List Ob->Prop} [h:RetI Q R]:RetI (LQ M v F A Q) R:=⟨h.out⟩
theorem T.rt {Q:Exit->List AV->List Ob->Prop} {R:List AV->List Ob->Prop} {fr:List AV} [hq:RetI Q R] (h:R fr aw):T P N .ret Q fr aw:=T.ret (hq.out fr aw h)
class PureC (a:AV):Prop where
 out:Pure a
class EnP {α:Type} (en:α->List AV):Prop where
 out:∀ a x,x∈en a->Pure x
instance {k:IntKind} {i:Int}:PureC (.int k i):=⟨an _ _⟩
instance {b:Bool}:PureC (.bool b):=⟨cz _⟩
instance {s:List UInt8}:PureC (.str s):=⟨ea _⟩
instance:PureC .nils:=⟨iG⟩
instance:PureC .nilf:=⟨iJ⟩
instance {α:Type} {en:α->List AV} {xs:List α} [h:EnP en]:PureC (.sl (xs.map en)):=⟨aC h.out _⟩
class PureCs (cs:List AV):Prop where
 out:∀ a,a∈cs->Pure a
instance:PureCs []:=⟨fun a h=>by cases h⟩
instance {a:AV} {cs:List AV} [h:PureC a] [t:PureCs cs]:PureCs (a::cs):=⟨fun b hb=>by cases hb with | head=>exact h.out | tail _ hb=>exact t.out b hb⟩
instance {cs:List AV} [h:PureCs cs]:PureC (.agg cs):=⟨oH _ h.out⟩
instance {cs:List AV} [h:PureCs cs]:PureC (.tup cs):=⟨vk _ h.out⟩
theorem rw_ar {α:Type} {en:α->List AV} {xs ys:List α} {ρ ids:List Nat} {id e s:Nat} [h:EnP en] (ho:aw[id]?=some (.arr e s (ys.map en))) (hx:xs=ys) (t:ba ρ aw ids aw'):ba ρ aw (id::ids) (.arr e s (xs.map en)::aw'):=xp ho h.out hx t
theorem rn_s {α:Type} {en:α->List AV} {xs ys:List α} {ρ:List Nat} [hp:EnP en] (h:xs=ys):Ren ρ (.sl (xs.map en)) (.sl (ys.map en)):=rn_sl hp.out h
end
end
section
open Go.RowKit
namespace RK
def Over (w w':World):Prop:=∀ r,r<w.heap.size->w'.heap[r]?=w.heap[r]?
theorem Over.rfl' (w:World):Over w w:=fun _ _=>rfl
theorem Over.size {w w':World} (h:Over w w'):w.heap.size<=w'.heap.size:=by
 rcases Nat.eq_zero_or_pos w.heap.size with h0 | h0
 ·omega
 ·have:=h (w.heap.size - 1) (by omega);grind
theorem Over.trans {a b c:World} (h:Over a b) (k:Over b c):Over a c:=fun r hr =>
 (k r (zX hr h.size)).trans (h r hr)
inductive Keeps {α:Type}:Sem α->Prop
 | pure (a:α):Keeps (.pure a)
 | load (m:Go.Mode) (a:Addr) (k:Value->Sem α):(∀ v,Keeps (k v))->Keeps (.load m a k)
 | new (o:Obj) (k:Nat->Sem α):(∀ r,Keeps (k r))->Keeps (.new o k)
 | shape (r:Nat) (k:Option (TypeId × Nat)->Sem α):(∀ x,Keeps (k x))->Keeps (.shape r k)
 | frozen (a:Addr) (k:Bool->Sem α):(∀ x,Keeps (k x))->Keeps (.frozen a k)
 | getObj (r:Nat) (k:Obj->Sem α):(∀ x,Keeps (k x))->Keeps (.getObj r k)
 | choose (q:Question) (k:Nat->Sem α):(∀ x,Keeps (k x))->Keeps (.choose q k)
 | program (k:Program->Sem α):(∀ x,Keeps (k x))->Keeps (.program k)
 | mark (m:Mark) (k:Sem α):Keeps k->Keeps (.mark m k)
 | halt (h:Halt):Keeps (.halt h)
theorem Keeps.bind {α β:Type} {s:Sem α} (h:Keeps s) {f:α->Sem β} (hf:∀ a,Keeps (f a)):Keeps (s.bind f):=by
 induction h with
 | pure a=>exact hf a
 | load m a k _ ih=>exact .load m a _ fun v=>ih v
 | new o k _ ih=>exact .new o _ fun v=>ih v
 | shape r k _ ih=>exact .shape r _ fun v=>ih v
 | frozen a k _ ih=>exact .frozen a _ fun v=>ih v
 | getObj r k _ ih=>exact .getObj r _ fun v=>ih v
 | choose q k _ ih=>exact .choose q _ fun v=>ih v
 | program k _ ih=>exact .program _ fun v=>ih v
 | mark m k _ ih=>exact .mark m _ ih
 | halt h=>exact .halt h
theorem Keeps.run {α:Type} {s:Sem α} (h:Keeps s) (P:Program):∀ (w:World) (x:α) (w':World),s.run P w=.ok x w'->Over w w':=by
 induction h with
 | pure a=>intro w x w' e;simp only [Sem.run,Result.ok.injEq] at e;rw [<- e.2];exact .rfl' w
 | load m a k _ ih =>
  grind [Sem.run]
 | new o k _ ih =>
  intro w x w' e;simp only [Sem.run] at e;refine Over.trans (fun r hr=>?_) (ih _ _ _ _ e);grind
 | shape r k _ ih=>intro w x w' e;exact ih _ _ _ _ e
 | frozen a k _ ih=>intro w x w' e;exact ih _ _ _ _ e
 | getObj r k _ ih =>
  grind [Sem.run]
 | choose q k _ ih =>
  intro w x w' e;simp only [Sem.run] at e;split at e
  ·grind
  ·exact fun r hr=>ih _ _ _ _ e r hr
 | program k _ ih=>intro w x w' e;exact ih _ _ _ _ e
 | mark m k _ ih=>assumption
 | halt h=>simp
theorem Keeps.mb {α β:Type} {s:Sem α} (h:Keeps s) {f:α->Sem β} (hf:∀ a,Keeps (f a)):Keeps (s >>= f):=h.bind hf
theorem Keeps.fm {α β:Type} {s:Sem α} (h:Keeps s) {f:α->β}:Keeps (Functor.map f s):=h.bind fun a=>.pure _
theorem bK {α:Type} (a:α):Keeps (Pure.pure a:Sem α):=.pure a
theorem dw {α:Type} (s:String):Keeps (stuck s:Sem α):=.halt _
theorem dL {α:Type} (u:Unsupported):Keeps (unsupported u:Sem α):=.halt _
theorem dc (a:Addr) (m:Go.Mode):Keeps (Go.load a m):=.load _ _ _ fun _=>.pure _
theorem k_prog:Keeps Go.program:=.program _ fun _=>.pure _
theorem dt (o:Obj):Keeps (newObj o):=.new _ _ fun _=>.pure _
theorem dK (r:Nat):Keeps (Go.shape r):=.shape _ _ fun _=>.pure _
theorem dv (q:Question):Keeps (Go.choose q):=.choose _ _ fun _=>.pure _
theorem nM (t:TypeId):Keeps (typeInfo t):=by unfold typeInfo;repeat (first | exact bK _ | exact dw _ | exact dL _ | exact dc _ _ | exact k_prog | exact dt _ | exact dK _ | exact dv _ | assumption | exact Keeps.pure _ | exact Keeps.halt _ | (refine Keeps.mb ?_ fun _=>?_) | (refine Keeps.fm ?_) | (refine Keeps.bind ?_ fun _=>?_) | split)
theorem eR (t:TypeId):Keeps (underlying t):=by unfold underlying;repeat (first | exact bK _ | exact dw _ | exact dL _ | exact dc _ _ | exact k_prog | exact dt _ | exact dK _ | exact dv _ | assumption | exact Keeps.pure _ | exact Keeps.halt _ | (refine Keeps.mb ?_ fun _=>?_) | (refine Keeps.fm ?_) | (refine Keeps.bind ?_ fun _=>?_) | split)
theorem fQ (t:TypeId):Keeps (sizeOf t):=(nM t).mb fun _=>bK _
theorem f7 (t:TypeId):Keeps (zeroValue t):=by unfold zeroValue;refine (nM t).mb fun _=>?_;repeat (first | exact bK _ | exact dw _ | exact dL _ | exact dc _ _ | exact k_prog | exact dt _ | exact dK _ | exact dv _ | assumption | exact Keeps.pure _ | exact Keeps.halt _ | (refine Keeps.mb ?_ fun _=>?_) | (refine Keeps.fm ?_) | (refine Keeps.bind ?_ fun _=>?_) | split)
theorem vL (t:TypeId):Keeps (isAgg t):=by unfold isAgg;refine (eR t).mb fun _=>?_;repeat (first | exact bK _ | exact dw _ | exact dL _ | exact dc _ _ | exact k_prog | exact dt _ | exact dK _ | exact dv _ | assumption | exact Keeps.pure _ | exact Keeps.halt _ | (refine Keeps.mb ?_ fun _=>?_) | (refine Keeps.fm ?_) | (refine Keeps.bind ?_ fun _=>?_) | split)
theorem wC (a:Addr):∀ (n i:Nat) (acc:Array Value),Keeps (loadCellsFrom a i n acc):=by
 intro n;induction n with
 | zero=>intro i acc;exact bK _
 | succ n ih=>intro i acc;exact (dc _ _).mb fun _=>ih _ _
theorem uA (t:TypeId) (a:Addr):Keeps (loadVar t a):=by
 unfold loadVar loadCells;refine (vL t).mb fun _=>?_
 split
 ·exact (fQ t).mb fun _=>(wC _ _ _ _).mb fun _=>bK _
 ·exact dc _ _
theorem g8 (v:Value):Keeps (Instr.sureAddr v):=by unfold Instr.sureAddr;split<;>(first | exact bK _ | exact dw _ | exact dL _ | exact dc _ _ | exact k_prog | exact dt _ | exact dK _ | exact dv _ | assumption | exact Keeps.pure _ | exact Keeps.halt _ | (refine Keeps.mb ?_ fun _=>?_) | (refine Keeps.fm ?_) | (refine Keeps.bind ?_ fun _=>?_) | split)
theorem vm (t:TypeId) (v:Value):Keeps (Instr.loadAt t v):=(g8 v).mb fun _=>uA _ _
theorem fR (t:TypeId) (vs:Array Value):Keeps (newRow t vs):=(dt _).mb fun _=>bK _
theorem k_box (t:TypeId) (v:Value):Keeps (Instr.box t v):=(fR _ _).mb fun _=>bK _
theorem w6 (t:TypeId):Keeps (Instr.alloc t true (.tuple #[])):=by unfold Instr.alloc;exact (f7 t).mb fun _=>(fR _ _).mb fun _=>bK _
theorem tE (v:Value):Keeps (asIntOf v):=by unfold asIntOf;split<;>(first | exact bK _ | exact dw _ | exact dL _ | exact dc _ _ | exact k_prog | exact dt _ | exact dK _ | exact dv _ | exact eR _ | exact fQ _ | exact f7 _ | exact g8 _ | exact fR _ _ | assumption | exact Keeps.pure _ | exact Keeps.halt _ | (refine Keeps.mb ?_ fun _=>?_) | (refine Keeps.fm ?_) | (refine Keeps.bind ?_ fun _=>?_) | dsimp only | split)
theorem pL {α:Type} (v:Value):Keeps (goPanic v:Sem α):=.halt _
theorem uI {α:Type} (k:IntKind) (x y:Int) (c:BoundsCode):Keeps (boundsPanic k x y c:Sem α):=by
 unfold boundsPanic;dsimp only;split
 ·refine Keeps.mb (Keeps.fm (dv _)) fun _=>?_
  unfold runtimePanic;exact k_prog.mb fun _=>pL _
 ·refine Keeps.mb (bK _) fun _=>?_
  unfold runtimePanic;exact k_prog.mb fun _=>pL _
theorem tU (t:TypeId) (x i:Value):Keeps (Instr.indexAt t x i):=by
 unfold Instr.indexAt;refine (tE i).mb fun _=>?_
 dsimp only;refine (eR t).mb fun _=>?_
 repeat (first | exact uI _ _ _ _ | (first | exact bK _ | exact dw _ | exact dL _ | exact dc _ _ | exact k_prog | exact dt _ | exact dK _ | exact dv _ | exact eR _ | exact fQ _ | exact f7 _ | exact g8 _ | exact fR _ _ | assumption | exact Keeps.pure _ | exact Keeps.halt _ | (refine Keeps.mb ?_ fun _=>?_) | (refine Keeps.fm ?_) | (refine Keeps.bind ?_ fun _=>?_) | dsimp only | split))
theorem sf (t:TypeId) (len:Nat) (ps:Array (Nat × Value)):Keeps (Instr.buildSlice t len ps):=by unfold Instr.buildSlice;repeat (first | exact bK _ | exact dw _ | exact dL _ | exact dc _ _ | exact k_prog | exact dt _ | exact dK _ | exact dv _ | exact eR _ | exact fQ _ | exact f7 _ | exact g8 _ | exact fR _ _ | assumption | exact Keeps.pure _ | exact Keeps.halt _ | (refine Keeps.mb ?_ fun _=>?_) | (refine Keeps.fm ?_) | (refine Keeps.bind ?_ fun _=>?_) | dsimp only | split)
theorem xi {α β:Type} (f:α->Sem β) (hf:∀ a,Keeps (f a)) (xs:Array α):Keeps (xs.mapM f):=by
 rw [Array.mapM_eq_mapM_toList];refine Keeps.fm ?_;generalize xs.toList=l;induction l with
 | nil=>exact bK _
 | cons a l ih=>rw [List.mapM_cons];exact (hf a).mb fun _=>ih.mb fun _=>bK _
theorem wT (t:TypeId) (ps:Array (Nat × Value)):Keeps (Instr.build t ps):=by
 unfold Instr.build;refine (f7 t).mb fun _=>(eR t).mb fun _=>?_
 split
 ·refine Keeps.mb (xi _ (fun f=>(fQ _).mb fun _=>bK _) _) fun _=>?_
  repeat (first | exact bK _ | exact dw _ | exact dL _ | exact dc _ _ | exact k_prog | exact dt _ | exact dK _ | exact dv _ | exact eR _ | exact fQ _ | exact f7 _ | exact g8 _ | exact fR _ _ | assumption | exact Keeps.pure _ | exact Keeps.halt _ | (refine Keeps.mb ?_ fun _=>?_) | (refine Keeps.fm ?_) | (refine Keeps.bind ?_ fun _=>?_) | dsimp only | split)
 ·repeat (first | exact bK _ | exact dw _ | exact dL _ | exact dc _ _ | exact k_prog | exact dt _ | exact dK _ | exact dv _ | exact eR _ | exact fQ _ | exact f7 _ | exact g8 _ | exact fR _ _ | assumption | exact Keeps.pure _ | exact Keeps.halt _ | (refine Keeps.mb ?_ fun _=>?_) | (refine Keeps.fm ?_) | (refine Keeps.bind ?_ fun _=>?_) | dsimp only | split)
 ·exact dw _
def Tame (o:Oper):Prop:=∀ ρ,∃ s:Sem Value,Keeps s/\execOp ρ o=s.bind fun x=>.pure (.value x)
theorem Keeps.val {s:Sem Value} (h:Keeps s) (P:Program):∀ (w:World) (n:Next) (w':World),
  (s.bind fun x=>.pure (.value x)).run P w=.ok n w'->∃ x,n=.value x:=by
 induction h with
 | pure a=>simp [Sem.bind]
 | load m a k _ ih =>
  grind [Sem.bind,Sem.run]
 | new o k _ ih=>intro w n w' e;exact ih _ _ _ _ e
 | shape r k _ ih=>intro w n w' e;exact ih _ _ _ _ e
 | frozen a k _ ih=>intro w n w' e;exact ih _ _ _ _ e
 | getObj r k _ ih =>
  grind [Sem.bind,Sem.run]
 | choose q k _ ih =>
  grind [Sem.bind,Sem.run]
 | program k _ ih=>intro w n w' e;exact ih _ _ _ _ e
 | mark m k _ ih=>assumption
 | halt h=>simp [Sem.bind]
theorem Tame.run {o:Oper} (h:Tame o) {P:Program} {ρ:Operand->Value} {w w':World} {n:Next} (e:(execOp ρ o).run P w=.ok n w') :
  (∃ x,n=.value x)/\Over w w':=by
 obtain ⟨s,hk,hs⟩:=h ρ
 rw [hs] at e
 exact ⟨hk.val P _ _ _ e,(hk.bind fun _=>.pure _).run P _ _ _ e⟩
theorem tL {o:Oper} {t:TypeId} {x:Operand} (h:o.op=.load t x):Tame o:=fun ρ=>⟨_,vm t (ρ x),by unfold execOp;rw [h];rfl⟩
theorem tj {o:Oper} {t:TypeId} (h:o.op=.alloc t):Tame o:=fun ρ=>⟨_,w6 t,by unfold execOp;rw [h];rfl⟩
theorem u9 {o:Oper} {t:TypeId} {x:Operand} (h:o.op=.box t x):Tame o:=fun ρ=>⟨_,k_box t (ρ x),by unfold execOp;rw [h];rfl⟩
theorem tm {o:Oper} {t:TypeId} {x y:Operand} (h:o.op=.indexAddr t x y):Tame o:=fun ρ=>⟨_,tU t (ρ x) (ρ y),by unfold execOp;rw [h];rfl⟩
theorem sS {o:Oper} {t:TypeId} {ps:Array (Nat × Operand)} (h:o.op=.build t ps):Tame o:=fun ρ=>⟨_,wT t _,by unfold execOp;rw [h];rfl⟩
theorem rU {o:Oper} {t:TypeId} {k:Nat} {ps:Array (Nat × Operand)} (h:o.op=.buildSlice t k ps):Tame o:=fun ρ=>⟨_,sf t k _,by unfold execOp;rw [h];rfl⟩
theorem uB {o:Oper} {x:Operand} (h:o.op=.move x):Tame o:=fun ρ=>⟨_,.pure (ρ x),by unfold execOp;rw [h];rfl⟩
section
variable {P:Program} {md:Region.Mode} {ops:Array Oper} {Q:Exit→Act→World→Prop}
def YieldsO (P:Program) (ops:Array Oper) (o:Oper) (v:Value) (a:Act) (w:World):Prop :=
 (Region.wanted o (yielded ops a.tmps)=true/\∀ w',Over w w'->(execOp a.eval o).run P w'=.ok (.value v) w') ∨
 (Region.wanted o (yielded ops a.tmps)=false/\v=undef)
theorem YieldsO.wpOp {i:Nat} {o:Oper} {v:Value} {a:Act} {w:World} (hi:ops[i]?=some o) (hy:YieldsO P ops o v a w)
  {K:Act->World->Prop} (h:K (a.put o.dst v) w):Go.wpOp P ops Q i K a w:=by
 unfold Go.wpOp
 simp only [hi]
 rcases hy with ⟨hw,hv⟩ | ⟨hw,rfl⟩
 ·simp only [hw,if_true,Oper.wp,hv w (.rfl' w),Oper.upon];exact .inl h
 grind
theorem YieldsO.of_same {o:Oper} {v:Value} {a a':Act} {w w':World} (hy:YieldsO P ops o v a w) (hww:Over w w') (he:execOp a'.eval o=execOp a.eval o)
  (hw:Region.wanted o (yielded ops a'.tmps)=Region.wanted o (yielded ops a.tmps)):YieldsO P ops o v a' w':=by
 unfold YieldsO at *
 rw [he,hw]
 exact hy.imp (fun h=>⟨h.1,fun w2 h2=>h.2 w2 (hww.trans h2)⟩) id
theorem uy {j:Nat} {oi oj:Oper} {v:Value} (hj:ops[j]?=some oj) (hap:oi.apart ops oj=true) (ht:Tame oj)
  (hsi:∀ cs b,oi.op≠.select cs b) (hsj:∀ cs b,oj.op≠.select cs b)
  (hQ:∀ c a w,Q (.panic c) (a.put oi.dst v) w->Q (.panic c) a w) {K:Act->World->Prop} {a:Act} {w:World}
  (hy:YieldsO P ops oi v a w) (h:wpOp P ops Q j K (a.put oi.dst v) w) :
  wpOp P ops Q j (fun a' w'=>YieldsO P ops oi v a' w'/\K (a'.put oi.dst v) w') a w:=by
 obtain ⟨h1,h2,h3⟩:=Oper.apart_spec hap
 have keep:∀ u w',Over w w'->YieldsO P ops oi v (a.put oj.dst u) w':=fun u w' hw =>
  hy.of_same hw (execOp_put oi hsi a oj.dst u h3) (wanted_put oi a oj.dst u h3)
 unfold wpOp at *
 simp only [hj] at *
 rw [wanted_put oj a oi.dst v h1] at h
 split
 ·rename_i hw
  simp only [hw,if_true] at h
  rcases h with h | ⟨hasks,hlets⟩
  case inr=>exact .inr ⟨by unfold Oper.asks at *;rw [execOp_put oj hsj a oi.dst v h1] at hasks;exact hasks,hlets⟩
  refine .inl ?_
  unfold Oper.wp at *
  rw [execOp_put oj hsj a oi.dst v h1] at h
  have hr:=fun n w'=>ht.run (P:=P) (ρ:=a.eval) (w:=w) (w':=w') (n:=n)
  generalize (execOp a.eval oj).run P w=r at *
  cases r with
  | ok n w' =>
   grind [Oper.upon,Act.put_comm]
  | halt x w' =>
   cases x<;>simp only [Oper.upon] at h ⊢
   grind
 ·rename_i hw
  simp only [hw] at h
  exact ⟨keep _ w (.rfl' w),by grind [Act.put_comm]⟩
theorem tw (D:Nat->Bool) {i:Nat} {oi:Oper} {v:Value} (hi:ops[i]?=some oi) (hsel:∀ (j:Nat) (o:Oper) cs b,ops[j]?=some o->o.op≠.select cs b)
  (hQ:∀ c a w,Q (.panic c) (a.put oi.dst v) w->Q (.panic c) a w) (hDi:D i=true)
  (hD:∀ j oj,ops[j]?=some oj->D j=true->j≠i->∃ e∈oj.after,Region.binds md e=true/\D e.on=true) :
  ∀ (fuel:Nat) (listed:Array Bool) (a:Act) (w:World),
   (∀ j oj,ops[j]?=some oj->D j=false->listed.getD j true=false->oi.apart ops oj=true/\Tame oj) ->
   (∀ j,D j=true->listed.getD j false=false) ->
   i∈Region.ready md ops listed->YieldsO P ops oi v a w ->
   wpAny P md ops Q fuel (listed.setIfInBounds i true) (a.put oi.dst v) w->wpAny P md ops Q (fuel+1) listed a w:=by
 intro fuel
 induction fuel with
 | zero =>
  intro listed a w _ _ hr hy H
  refine ⟨fun h=>(by grind),fun j hj=>?_⟩
  by_cases hji:j=i
  ·subst hji;exact hy.wpOp hi H
  ·have:=ready_mono hj hji
   rw [H.1] at this
   cases this
 | succ fuel ih =>
  intro listed a w hfree hdl hr hy H
  refine ⟨fun h=>(by grind),fun j hj=>?_⟩
  by_cases hji:j=i
  ·subst hji;exact hy.wpOp hi H
  ·have h1:=H.2 j (ready_mono hj hji)
   obtain ⟨hjun,oj,hoj,hall⟩:=mem_ready.1 hj
   have hDj:D j=false:=by grind
   obtain ⟨hap,ht⟩:=hfree j oj hoj hDj hjun
   have h2:=uy hoj hap ht (fun cs b=>hsel i oi cs b hi) (fun cs b=>hsel j oj cs b hoj) hQ hy h1
   have hfree':∀ k ok,ops[k]?=some ok->D k=false->(listed.setIfInBounds j true).getD k true=false->oi.apart ops ok=true/\Tame ok:=fun k ok hk hdk hun=>by
    refine hfree k ok hk hdk ?_;by_cases hjk:j=k
    ·grind
    ·rw [getD_set_ne true hjk] at hun;exact hun
   have hdl':∀ k,D k=true->(listed.setIfInBounds j true).getD k false=false:=fun k hk=>by
    by_cases hjk:j=k
    ·grind
    ·rw [getD_set_ne false hjk];grind
   refine wpOp_mono (fun a' w' h3=>ih (listed.setIfInBounds j true) a' w' hfree' hdl' (ready_mono hr (Ne.symm hji)) h3.1 ?_) h2
   grind [Array.setIfInBounds_comm]
end
theorem uN {aw:List Ob} {σ:List Value} {w w':World} {F:Nat->Prop} (hs:Sim aw σ w F) (h:Over w w'):Agr aw σ w F w':=by
 rintro b (hb | ⟨k,cs,v,h1,h2,h3⟩)
 ·exact h b (hs.lt b hb)
 ·exact h b (hs.lt_own ⟨k,_,v,h1,rfl,h2,h3⟩)
section
variable {P:Program} {fr:List AV} {aw:List Ob}
theorem ol {st:St} {σ:List Value} {w:World} {F:Nat->Prop} {a:Act} {o:Oper} {K:AV->Prop} (hc:Cur st fr aw σ w F a) (h:vcQ P fr aw o.op K):∃ v r,(∀ w',Over w w'->(execOp a.eval o).run P w'=.ok (.value v) w')/\Rel σ w F r v/\K r:=by obtain ⟨v,r,h1,h2,h3⟩:=lX hc.fr hc.sim o h;exact ⟨v,r,fun w' hw=>h1 w' (uN hc.sim hw),h2,h3⟩
def qy:Op->Bool
 | .load .. | .alloc .. | .box .. | .move .. | .indexAddr .. | .build .. | .buildSlice ..=>true
 | _=>false
theorem wD {o:Oper} (h:qy o.op=true):Tame o:=by cases e:o.op<;>rw [e] at h<;>first | (cases h;done) | exact tL e | exact tj e | exact u9 e | exact uB e | exact tm e | exact sS e | exact rU e
def loadFree (ops:Array Oper) (li:Array Bool) (D:List Nat) (i:Nat):Bool :=
 match ops[i]? with
 | none=>false
 | some oi =>
  D.contains i && D.all (fun j=>li.getD j false==false && (j==i || match ops[j]? with
   | some oj=>oj.after.any fun e=>Region.binds .any e && D.contains e.on
   | none=>true)) &&
  (List.range ops.size).all fun j=>D.contains j || li.getD j true || match ops[j]? with
   | some oj=>oi.apart ops oj && qy oj.op
   | none=>true
theorem na {ops:Array Oper} {Q:Exit->Act->World->Prop} (D:List Nat) {i:Nat} {oi:Oper} {v:Value} {fuel:Nat} {li:Array Bool} {a:Act} {w:World} (hi:ops[i]?=some oi)
  (hs:Region.noSelect ops=true) (hf:loadFree ops li D i=true) (hr:(Region.ready .any ops li).contains i=true)
  (hQ:∀ c a w,Q (.panic c) (a.put oi.dst v) w->Q (.panic c) a w) (hy:YieldsO P ops oi v a w)
  (h:wpAny P .any ops Q fuel (li.setIfInBounds i true) (a.put oi.dst v) w):wpAny P .any ops Q (fuel+1) li a w:=by
 simp only [loadFree,hi,Az,Ak] at hf
 obtain ⟨⟨h1,h2⟩,h3⟩:=hf
 refine tw (fun j=>D.contains j) hi (Region.noSelect_spec hs) hQ h1 ?_ fuel li a w ?_ ?_ (by grind) hy h
 ·grind
 ·intro j oj hj hd hl
  have:=h3 j (by grind)
  simp_all [wD]
 grind
end
end RK
section
variable {P:Program} {N n:Nat} {aw:List Ob} {l:List (Nat × AV)}
end
section
variable {P:Program}
end
end
section
open Go.RowKit
set_option maxRecDepth 100000
theorem Ty.c1:Tryz.prog.cellsOf 1=1:=by kernel_rfl
theorem Ty.b1:Tryz.prog.bytesOf 1=8:=by kernel_rfl
theorem Ty.k1:bM Tryz.prog 1=some false:=by kernel_rfl
theorem Ty.z1:aq Tryz.prog 1=some [.nilf]:=by kernel_rfl
theorem Ty.c2:Tryz.prog.cellsOf 2=1:=by kernel_rfl
theorem Ty.b2:Tryz.prog.bytesOf 2=8:=by kernel_rfl
theorem Ty.k2:bM Tryz.prog 2=some false:=by kernel_rfl
theorem Ty.z2:aq Tryz.prog 2=some [.int .i64 0]:=by kernel_rfl
theorem Ty.c3:Tryz.prog.cellsOf 3=1:=by kernel_rfl
theorem Ty.b3:Tryz.prog.bytesOf 3=8:=by kernel_rfl
theorem Ty.k3:bM Tryz.prog 3=some false:=by kernel_rfl
theorem Ty.z3:aq Tryz.prog 3=some [.int .i64 0]:=by kernel_rfl
theorem Ty.c4:Tryz.prog.cellsOf 4=1:=by kernel_rfl
theorem Ty.b4:Tryz.prog.bytesOf 4=1:=by kernel_rfl
theorem Ty.k4:bM Tryz.prog 4=some false:=by kernel_rfl
theorem Ty.z4:aq Tryz.prog 4=some [.bool false]:=by kernel_rfl
theorem Ty.c5:Tryz.prog.cellsOf 5=1:=by kernel_rfl
theorem Ty.b5:Tryz.prog.bytesOf 5=1:=by kernel_rfl
theorem Ty.z5:aq Tryz.prog 5=some [.int .u8 0]:=by kernel_rfl
theorem Ty.c7:Tryz.prog.cellsOf 7=4:=by kernel_rfl
theorem Ty.c8:Tryz.prog.cellsOf 8=4:=by kernel_rfl
theorem Ty.c9:Tryz.prog.cellsOf 9=1:=by kernel_rfl
theorem Ty.b9:Tryz.prog.bytesOf 9=16:=by kernel_rfl
theorem Ty.k9:bM Tryz.prog 9=some false:=by kernel_rfl
theorem Ty.z9:aq Tryz.prog 9=some [.str []]:=by kernel_rfl
theorem Ty.z10:aq Tryz.prog 10=some [.str []]:=by kernel_rfl
theorem Ty.c11:Tryz.prog.cellsOf 11=1:=by kernel_rfl
theorem Ty.c12:Tryz.prog.cellsOf 12=1:=by kernel_rfl
theorem Ty.c13:Tryz.prog.cellsOf 13=2:=by kernel_rfl
theorem Ty.c14:Tryz.prog.cellsOf 14=2:=by kernel_rfl
theorem Ty.z14:aq Tryz.prog 14=some [.str [],.int .u64 0]:=by kernel_rfl
theorem Ty.z15:aq Tryz.prog 15=some [.nilp]:=by kernel_rfl
theorem Ty.c17:Tryz.prog.cellsOf 17=1:=by kernel_rfl
theorem Ty.c19:Tryz.prog.cellsOf 19=1:=by kernel_rfl
theorem Ty.c20:Tryz.prog.cellsOf 20=1:=by kernel_rfl
theorem Ty.z20:aq Tryz.prog 20=some [.nili]:=by kernel_rfl
theorem Ty.c21:Tryz.prog.cellsOf 21=1:=by kernel_rfl
theorem Ty.z21:aq Tryz.prog 21=some [.int .i32 0]:=by kernel_rfl
theorem Ty.c22:Tryz.prog.cellsOf 22=1:=by kernel_rfl
theorem Ty.k22:bM Tryz.prog 22=some false:=by kernel_rfl
theorem Ty.c23:Tryz.prog.cellsOf 23=3:=by kernel_rfl
theorem Ty.c29:Tryz.prog.cellsOf 29=1:=by kernel_rfl
theorem Ty.z31:aq Tryz.prog 31=some [.nilf]:=by kernel_rfl
theorem Ty.c32:Tryz.prog.cellsOf 32=1:=by kernel_rfl
theorem Ty.c37:Tryz.prog.cellsOf 37=1:=by kernel_rfl
theorem Ty.z37:aq Tryz.prog 37=some [.nils]:=by kernel_rfl
theorem Ty.z38:aq Tryz.prog 38=some [.nilf]:=by kernel_rfl
theorem Ty.z39:aq Tryz.prog 39=some [.nilf]:=by kernel_rfl
theorem Ty.z40:aq Tryz.prog 40=some [.nilf]:=by kernel_rfl
theorem Ty.z41:aq Tryz.prog 41=some [.int .i64 0,.int .i64 0,.nils,.nils]:=by kernel_rfl
theorem Ty.c42:Tryz.prog.cellsOf 42=4:=by kernel_rfl
theorem Ty.b42:Tryz.prog.bytesOf 42=64:=by kernel_rfl
theorem Ty.z42:aq Tryz.prog 42=some [.int .i64 0,.int .i64 0,.nils,.nils]:=by kernel_rfl
theorem Ty.c46:Tryz.prog.cellsOf 46=1:=by kernel_rfl
theorem Ty.z46:aq Tryz.prog 46=some [.nils]:=by kernel_rfl
theorem Ty.c51:Tryz.prog.cellsOf 51=2:=by kernel_rfl
theorem Ty.z51:aq Tryz.prog 51=some [.int .i64 0,.int .i64 0]:=by kernel_rfl
theorem Ty.c52:Tryz.prog.cellsOf 52=2:=by kernel_rfl
theorem Ty.b52:Tryz.prog.bytesOf 52=16:=by kernel_rfl
theorem Ty.z52:aq Tryz.prog 52=some [.int .i64 0,.int .i64 0]:=by kernel_rfl
theorem Ty.c53:Tryz.prog.cellsOf 53=1:=by kernel_rfl
theorem Ty.z53:aq Tryz.prog 53=some [.nilf]:=by kernel_rfl
theorem Ty.z70:aq Tryz.prog 70=some [.nilf]:=by kernel_rfl
theorem Ty.z72:aq Tryz.prog 72=some [.any]:=by kernel_rfl
theorem Ty.c75:Tryz.prog.cellsOf 75=2:=by kernel_rfl
theorem Ty.z75:aq Tryz.prog 75=some [.nilf,.nilf]:=by kernel_rfl
theorem Ty.c80:Tryz.prog.cellsOf 80=1:=by kernel_rfl
theorem Ty.z80:aq Tryz.prog 80=some [.any]:=by kernel_rfl
theorem Ty.c85:Tryz.prog.cellsOf 85=1:=by kernel_rfl
theorem Ty.z85:aq Tryz.prog 85=some [.nilf]:=by kernel_rfl
theorem Ty.k91:bM Tryz.prog 91=some false:=by kernel_rfl
theorem Ty.z93:aq Tryz.prog 93=some [.nilp,.nils]:=by kernel_rfl
theorem Ty.z105:aq Tryz.prog 105=some [.nilf]:=by kernel_rfl
theorem Ty.z119:aq Tryz.prog 119=some [.nilf]:=by kernel_rfl
theorem Ty.c127:Tryz.prog.cellsOf 127=1:=by kernel_rfl
theorem Ty.z127:aq Tryz.prog 127=some [.nilf]:=by kernel_rfl
theorem Ty.c129:Tryz.prog.cellsOf 129=2:=by kernel_rfl
theorem Ty.b129:Tryz.prog.bytesOf 129=16:=by kernel_rfl
theorem Ty.k129:bM Tryz.prog 129=some true:=by kernel_rfl
theorem Ty.z129:aq Tryz.prog 129=some [.int .i64 0,.int .i64 0]:=by kernel_rfl
theorem Ty.z138:aq Tryz.prog 138=some [.nilf]:=by kernel_rfl
theorem Ty.z139:aq Tryz.prog 139=some [.str [],.str [],.nili]:=by kernel_rfl
theorem Ty.c143:Tryz.prog.cellsOf 143=20:=by kernel_rfl
theorem Ty.z143:aq Tryz.prog 143=some [.int .u64 0,.int .u64 0,.int .u64 0,.int .u64 0,.int .u64 0,.int .u64 0,.int .u64 0,.int .u64 0,.int .u64 0,.int .u64 0,.int .u64 0,.int .u64 0,.int .u64 0,.int .u64 0,.int .u64 0,.int .u64 0,.int .u64 0,.int .u64 0,.int .u64 0,.int .u64 0]:=by kernel_rfl
theorem Ty.c145:Tryz.prog.cellsOf 145=65:=by kernel_rfl
theorem Ty.z146:aq Tryz.prog 146=some [.nilf]:=by kernel_rfl
theorem Ty.c167:Tryz.prog.cellsOf 167=32:=by kernel_rfl
theorem Ty.z167:aq Tryz.prog 167=some [.int .u8 0,.int .u8 0,.int .u8 0,.int .u8 0,.int .u8 0,.int .u8 0,.int .u8 0,.int .u8 0,.int .u8 0,.int .u8 0,.int .u8 0,.int .u8 0,.int .u8 0,.int .u8 0,.int .u8 0,.int .u8 0,.int .u8 0,.int .u8 0,.int .u8 0,.int .u8 0,.int .u8 0,.int .u8 0,.int .u8 0,.int .u8 0,.int .u8 0,.int .u8 0,.int .u8 0,.int .u8 0,.int .u8 0,.int .u8 0,.int .u8 0,.int .u8 0]:=by kernel_rfl
theorem Ty.c168:Tryz.prog.cellsOf 168=32:=by kernel_rfl
theorem Ty.z168:aq Tryz.prog 168=some [.int .u8 0,.int .u8 0,.int .u8 0,.int .u8 0,.int .u8 0,.int .u8 0,.int .u8 0,.int .u8 0,.int .u8 0,.int .u8 0,.int .u8 0,.int .u8 0,.int .u8 0,.int .u8 0,.int .u8 0,.int .u8 0,.int .u8 0,.int .u8 0,.int .u8 0,.int .u8 0,.int .u8 0,.int .u8 0,.int .u8 0,.int .u8 0,.int .u8 0,.int .u8 0,.int .u8 0,.int .u8 0,.int .u8 0,.int .u8 0,.int .u8 0,.int .u8 0]:=by kernel_rfl
theorem Ty.c173:Tryz.prog.cellsOf 173=4:=by kernel_rfl
theorem Ty.z173:aq Tryz.prog 173=some [.nilp,.nilp,.nilp,.str []]:=by kernel_rfl
theorem Ty.c175:Tryz.prog.cellsOf 175=0:=by kernel_rfl
theorem Ty.z175:aq Tryz.prog 175=some []:=by kernel_rfl
theorem Ty.w3:(Tryz.prog.info? 3).bind (·.zero)=some (.int .i64 0):=by kernel_rfl
theorem Ty.w75:(Tryz.prog.info? 75).bind (·.zero)=some (.agg #[.nilFunc,.nilFunc]):=by kernel_rfl
theorem Ty.i1:(Tryz.prog.underlying 1).isSome=true:=by rw [Tryz.underlying1];rfl
theorem Ty.i2:(Tryz.prog.underlying 2).isSome=true:=by rw [Tryz.underlying2];rfl
theorem Ty.i3:(Tryz.prog.underlying 3).isSome=true:=by rw [Tryz.underlying3];rfl
theorem Ty.i4:(Tryz.prog.underlying 4).isSome=true:=by rw [Tryz.underlying4];rfl
theorem Ty.i5:(Tryz.prog.underlying 5).isSome=true:=by rw [Tryz.underlying5];rfl
theorem Ty.i8:(Tryz.prog.underlying 8).isSome=true:=by rw [Tryz.underlying8];rfl
theorem Ty.i9:(Tryz.prog.underlying 9).isSome=true:=by rw [Tryz.underlying9];rfl
theorem Ty.i16:(Tryz.prog.underlying 16).isSome=true:=by rw [Tryz.underlying16];rfl
theorem Ty.i20:(Tryz.prog.underlying 20).isSome=true:=by rw [Tryz.underlying20];rfl
theorem Ty.i21:(Tryz.prog.underlying 21).isSome=true:=by rw [Tryz.underlying21];rfl
theorem Ty.i22:(Tryz.prog.underlying 22).isSome=true:=by rw [Tryz.underlying22];rfl
theorem Ty.i32:(Tryz.prog.underlying 32).isSome=true:=by rw [Tryz.underlying32];rfl
theorem Ty.i37:(Tryz.prog.underlying 37).isSome=true:=by rw [Tryz.underlying37];rfl
theorem Ty.i42:(Tryz.prog.underlying 42).isSome=true:=by rw [Tryz.underlying42];rfl
theorem Ty.i46:(Tryz.prog.underlying 46).isSome=true:=by rw [Tryz.underlying46];rfl
theorem Ty.i51:(Tryz.prog.underlying 51).isSome=true:=by rw [Tryz.underlying51];rfl
theorem Ty.i52:(Tryz.prog.underlying 52).isSome=true:=by rw [Tryz.underlying52];rfl
theorem Ty.i53:(Tryz.prog.underlying 53).isSome=true:=by rw [Tryz.underlying53];rfl
theorem Ty.i64:(Tryz.prog.underlying 64).isSome=true:=by rw [Tryz.underlying64];rfl
theorem Ty.i75:(Tryz.prog.underlying 75).isSome=true:=by rw [Tryz.underlying75];rfl
theorem Ty.i80:(Tryz.prog.underlying 80).isSome=true:=by rw [Tryz.underlying80];rfl
theorem Ty.i85:(Tryz.prog.underlying 85).isSome=true:=by rw [Tryz.underlying85];rfl
theorem Ty.i127:(Tryz.prog.underlying 127).isSome=true:=by rw [Tryz.underlying127];rfl
theorem Ty.i129:(Tryz.prog.underlying 129).isSome=true:=by rw [Tryz.underlying129];rfl
theorem Ty.i143:(Tryz.prog.underlying 143).isSome=true:=by rw [Tryz.underlying143];rfl
theorem Ty.i145:(Tryz.prog.underlying 145).isSome=true:=by rw [Tryz.underlying145];rfl
theorem Ty.i167:(Tryz.prog.underlying 167).isSome=true:=by rw [Tryz.underlying167];rfl
theorem Ty.i168:(Tryz.prog.underlying 168).isSome=true:=by rw [Tryz.underlying168];rfl
theorem Ty.i173:(Tryz.prog.underlying 173).isSome=true:=by rw [Tryz.underlying173];rfl
theorem Ty.i175:(Tryz.prog.underlying 175).isSome=true:=by rw [Tryz.underlying175];rfl
theorem Ty.s22:SliceOf Tryz.prog 22 42 4:=⟨Tryz.underlying22,Ty.c42,Ty.i42,by decide,by rw [Ty.b42];decide,_,Ty.z42,rfl⟩
theorem Ty.f24_0:FieldAt Tryz.prog 24 0 22 0:=⟨⟨_,_,Tryz.underlying24,rfl,rfl,rfl,by rw [Ty.c22];decide,Ty.i22⟩⟩
theorem Ty.s32:SliceOf Tryz.prog 32 9 1:=⟨Tryz.underlying32,Ty.c9,Ty.i9,by decide,by rw [Ty.b9];decide,_,Ty.z9,rfl⟩
theorem Ty.s37:SliceOf Tryz.prog 37 3 1:=⟨Tryz.underlying37,Ty.c3,Ty.i3,by decide,by rw [Ty.b3];decide,_,Ty.z3,rfl⟩
theorem Ty.s46:SliceOf Tryz.prog 46 52 2:=⟨Tryz.underlying46,Ty.c52,Ty.i52,by decide,by rw [Ty.b52];decide,_,Ty.z52,rfl⟩
theorem Ty.s91:SliceOf Tryz.prog 91 5 1:=⟨Tryz.underlying91,Ty.c5,Ty.i5,by decide,by rw [Ty.b5];decide,_,Ty.z5,rfl⟩
theorem Ty.s123:SliceOf Tryz.prog 123 129 2:=⟨Tryz.underlying123,Ty.c129,Ty.i129,by decide,by rw [Ty.b129];decide,_,Ty.z129,rfl⟩
theorem Ty.s126:SliceOf Tryz.prog 126 4 1:=⟨Tryz.underlying126,Ty.c4,Ty.i4,by decide,by rw [Ty.b4];decide,_,Ty.z4,rfl⟩
end
section
open Go.RowKit
theorem mixed:Tryz.prog.follows .mixedOrders=true:=by kernel_rfl
def aj (n:Int):List AV:=[.int .i64 n]
def ab (s:List UInt8):List AV:=[.str s]
end
structure Item where
 (Key Val Dep:Int)
deriving DecidableEq
structure Node where
 (Kind A:Int)
 (In Out:List Int)
deriving DecidableEq
structure Net where
 Nodes:List Node
 (Rings Room:Int)
deriving DecidableEq
structure Keyed where
 (Key N:Int)
deriving DecidableEq
structure Memory where
 Sum:Int
 Keys:List Keyed
 Dep:Int
deriving DecidableEq
structure Choice where
 (Node Lane:Int)
deriving DecidableEq
structure State where
 At:List Int
 Rings:List (List Item)
 Memory:List Memory
 Choices:List Choice
 Out:List Item
deriving DecidableEq
structure Move where
 (Node Lane:Int)
deriving DecidableEq
structure Write where
 At:Int
 Bytes:List UInt8
deriving DecidableEq
structure Disk where
 Sectors:List (List UInt8)
 Wait:List Write
deriving DecidableEq
structure Shop where
 N:Net
 Items:List (List Item)
 S:State
 D:Disk
 (Logged Safe Epoch Laid Next:Int)
 Told:List Item
 Down:Bool
deriving DecidableEq
structure Happening where
 (Kind N:Int)
deriving DecidableEq
structure Ends where
 (src dst:Int)
deriving DecidableEq
section
open Go.RowKit
def bb (n:Int):List AV:=[.int .u8 n]
def encU (n:Int):List AV:=[.int .u64 n]
def bE (b:Bool):List AV:=[.bool b]
def encL {α:Type} (en:α->List AV) (l:List α):List AV:=[.sl (l.map en)]
def cM (a:Item):List AV:=[.int .i64 a.Key,.int .i64 a.Val,.int .i64 a.Dep]
def aa (a:Node):List AV:=[.int .i64 a.Kind,.int .i64 a.A,.sl (a.In.map aj),.sl (a.Out.map aj)]
def aG (a:Net):List AV:=[.sl (a.Nodes.map aa),.int .i64 a.Rings,.int .i64 a.Room]
def e8 (a:Keyed):List AV:=[.int .i64 a.Key,.int .i64 a.N]
def eX (a:Memory):List AV:=[.int .i64 a.Sum,.sl (a.Keys.map e8),.int .i64 a.Dep]
def d7 (a:Choice):List AV:=[.int .i64 a.Node,.int .i64 a.Lane]
def gQ (a:State):List AV:=[.sl (a.At.map aj),.sl (a.Rings.map (encL cM)),.sl (a.Memory.map eX),.sl (a.Choices.map d7),.sl (a.Out.map cM)]
def fW (a:Move):List AV:=[.int .i64 a.Node,.int .i64 a.Lane]
def d9 (a:Write):List AV:=[.int .i64 a.At,.str a.Bytes]
def gZ (a:Disk):List AV:=[.sl (a.Sectors.map ab),.sl (a.Wait.map d9)]
def gV (a:Shop):List AV:=[.sl (a.N.Nodes.map aa),.int .i64 a.N.Rings,.int .i64 a.N.Room,.sl (a.Items.map (encL cM)),.sl (a.S.At.map aj),.sl (a.S.Rings.map (encL cM)),.sl (a.S.Memory.map eX),.sl (a.S.Choices.map d7),.sl (a.S.Out.map cM),.sl (a.D.Sectors.map ab),.sl (a.D.Wait.map d9),.int .i64 a.Logged,.int .i64 a.Safe,.int .i64 a.Epoch,.int .i64 a.Laid,.int .i64 a.Next,.sl (a.Told.map cM),.bool a.Down]
def fH (a:Happening):List AV:=[.int .i64 a.Kind,.int .i64 a.N]
def aF (a:Ends):List AV:=[.int .i64 a.src,.int .i64 a.dst]
theorem aM:∀ a x,x∈aj a->Pure x:=fun a=>bn (ls:=aj a) ⟨an _ _,tqz⟩
theorem xw:∀ a x,x∈bb a->Pure x:=fun a=>bn (ls:=bb a) ⟨an _ _,tqz⟩
theorem xh:∀ a x,x∈encU a->Pure x:=fun a=>bn (ls:=encU a) ⟨an _ _,tqz⟩
theorem xv:∀ a x,x∈bE a->Pure x:=fun a=>bn (ls:=bE a) ⟨cz _,tqz⟩
theorem lS:∀ a x,x∈ab a->Pure x:=fun a=>bn (ls:=ab a) ⟨ea _,tqz⟩
theorem kx {α:Type} {en:α->List AV} (h:∀ a x,x∈en a->Pure x):∀ a x,x∈encL en a->Pure x:=fun a=>bn (ls:=encL en a) ⟨aC h _,tqz⟩
theorem eW:∀ a x,x∈cM a->Pure x:=fun a=>bn (ls:=cM a) ⟨an _ _,an _ _,an _ _,tqz⟩
theorem jQ:∀ a x,x∈aa a->Pure x:=fun a=>bn (ls:=aa a) ⟨an _ _,an _ _,aC aM _,aC aM _,tqz⟩
theorem pg:∀ a x,x∈aG a->Pure x:=fun a=>bn (ls:=aG a) ⟨aC jQ _,an _ _,an _ _,tqz⟩
theorem lg:∀ a x,x∈e8 a->Pure x:=fun a=>bn (ls:=e8 a) ⟨an _ _,an _ _,tqz⟩
theorem jF:∀ a x,x∈eX a->Pure x:=fun a=>bn (ls:=eX a) ⟨an _ _,aC lg _,an _ _,tqz⟩
theorem jE:∀ a x,x∈d7 a->Pure x:=fun a=>bn (ls:=d7 a) ⟨an _ _,an _ _,tqz⟩
theorem nK:∀ a x,x∈gQ a->Pure x:=fun a=>bn (ls:=gQ a) ⟨aC aM _,aC (kx eW) _,aC jF _,aC jE _,aC eW _,tqz⟩
theorem n7:∀ a x,x∈fW a->Pure x:=fun a=>bn (ls:=fW a) ⟨an _ _,an _ _,tqz⟩
theorem jH:∀ a x,x∈d9 a->Pure x:=fun a=>bn (ls:=d9 a) ⟨an _ _,ea _,tqz⟩
theorem ob:∀ a x,x∈gZ a->Pure x:=fun a=>bn (ls:=gZ a) ⟨aC lS _,aC jH _,tqz⟩
theorem oe:∀ a x,x∈gV a->Pure x:=fun a=>bn (ls:=gV a) ⟨aC jQ _,an _ _,an _ _,aC (kx eW) _,aC aM _,aC (kx eW) _,aC jF _,aC jE _,aC eW _,aC lS _,aC jH _,an _ _,an _ _,an _ _,an _ _,an _ _,aC eW _,cz _,tqz⟩
theorem m9:∀ a x,x∈fH a->Pure x:=fun a=>bn (ls:=fH a) ⟨an _ _,an _ _,tqz⟩
theorem n6:∀ a x,x∈aF a->Pure x:=fun a=>bn (ls:=aF a) ⟨an _ _,an _ _,tqz⟩
instance:EnP aj:=⟨aM⟩
instance:EnP bb:=⟨xw⟩
instance:EnP encU:=⟨xh⟩
instance:EnP bE:=⟨xv⟩
instance:EnP ab:=⟨lS⟩
instance:EnP cM:=⟨eW⟩
instance:EnP aa:=⟨jQ⟩
instance:EnP aG:=⟨pg⟩
instance:EnP e8:=⟨lg⟩
instance:EnP eX:=⟨jF⟩
instance:EnP d7:=⟨jE⟩
instance:EnP gQ:=⟨nK⟩
instance:EnP fW:=⟨n7⟩
instance:EnP d9:=⟨jH⟩
instance:EnP gZ:=⟨ob⟩
instance:EnP gV:=⟨oe⟩
instance:EnP fH:=⟨m9⟩
instance:EnP aF:=⟨n6⟩
instance {α:Type} {en:α->List AV} [h:EnP en]:EnP (encL en):=⟨kx h.out⟩
theorem aP (b:Bool):b=true∨b=false:=by simp
end
section
section
variable {α:Type}
def own (xs:List (Bool × List α)) (m:Nat) (r:List α):List (Bool × List α):=xs.set m (false,r)
end
end
section
open Go.RowKit Go.Lib
theorem sy {P:Program} {w:World} {t u ty e:TypeId} {i:TypeInfo} (ht:P.underlying t=some (.slice e)) (hu:P.underlying u=some .string) (hi:P.info? e=some i) (hz:i.zero=some (.int .u8 0)) (hsize:i.size=1) (hby:i.bytes=1)
  {v:Value} {n:Nat} {flat:List Value} (hown:w.ownsRow 0 e 1 v n flat) (s:ByteArray) (hlen:n+s.size<=1099511627776) :
  ∃ v' w',(Builtin.append_ #[t,u] ty #[v,.string s]).run P w=.ok v' w'/\w'.ownsRow 0 e 1 v' (n+s.size) (flat++strCells s)/\w.grownBy w' v.ownBlock/\(v'.ownBlock=v.ownBlock∨v'.ownBlock=some w.heap.size):=by
 obtain ⟨v',w',hr,h1,h2,h3⟩:=run_append_own_string (P:=P) w 0 t u ty e i ht hu hi hz hsize hby v n flat hown s (by unfold maxLen;omega) (by omega) (Ae _)
 refine ⟨v',w',hr,h1,h2,?_⟩
 have hxl:flat.length=n:=by simpa using hown.1
 rcases hown.2 with ⟨rfl,rfl⟩ | ⟨g,cap,cur,rfl,hbg,hg,hnc,hcm,hcs,htake⟩
 ·by_cases hm:s.size=0
  ·exact .inl (by rw [h3.2 ⟨rfl,hm⟩])
  ·have hr2:=run_append_nil_string (P:=P) (w:=w) t u ty e i (.int .u8 0) ht hu hi hz s (by omega) (by omega) (by rw [hby];omega)
   rw [hr2] at hr
   cases hr
   exact .inr rfl
 ·by_cases hroom:n+s.size<=cap
  ·have hr2:=run_append_room_string (P:=P) w t u ty e i ht hu hi hsize g n cap cur hg s hroom (by simp at hcs;omega)
   rw [hr2] at hr
   cases hr
   exact .inl rfl
  ·have holds:∀ j u,flat[j]?=some u->w.cell? ((⟨g,0,none⟩:Addr).add j)=some u:=hown.cells (g:=g) rfl
   have hr2:=run_append_grow_string (P:=P) w t u ty e i (.int .u8 0) ht hu hi hz ⟨g,0,none⟩ n cap flat (by rw [hsize];simpa using hxl) holds s (by omega) (by omega) (by rw [hby];exact growslice_fits (by omega) (by omega))
   rw [hr2] at hr
   cases hr
   exact .inr rfl
def bj (s:List UInt8):List Int:=s.map fun b=>(b.toNat:Int)
theorem so (s:List UInt8):((bj s).map bb).flatten=s.map fun b=>AV.int .u8 (b.toNat:Int):=by
 induction s with
 | nil=>rfl
 | cons b s ih =>
  show bb _++((bj s).map bb).flatten=_;rw [ih];rfl
theorem tc {σ:List Value} {w:World} {F:Nat->Prop} (s:List UInt8):RelL σ w F ((bj s).map bb).flatten (strCells ⟨s.toArray⟩):=by
 rw [so];refine ⟨by simp [strCells],fun j a v h1 h2=>?_⟩;have h2':(s.map fun b=>Value.int .u8 (b.toNat:Int))[j]?=some v:=h2;rw [zT] at h1 h2';cases hj:s[j]? with
 | none=>rw [hj] at h1;cases h1
 | some b =>
  rw [hj] at h1 h2';cases h1;cases h2';exact .int _ _
section
variable {P:Program} {N n:Nat} {aw aw':List Ob} {l:List (Nat × AV)}
theorem uX {xs r:List Int} {s:List UInt8} {t u:TypeId} {x y:Operand} {id e k:Nat} {d:Option Tmp} {ty:TypeId} {ps:String} {af:Array Edge} {g:Option (Nat × Bool)} {K2:AV->List Ob->Prop}
  (hS:SliceOf P t e 1) (hu:P.underlying u=some .string) (hi:(P.info? e).map (fun i=>(i.zero,i.size,i.bytes))=some (some (.int .u8 0),1,1)) (hx:evA n l x=.ref id) (hy:evA n l y=.str s) (ho:aw[id]?=some (.arr e 1 (xs.map bb))) (hr:app xs (bj s)=some r) (hk:aw.length=k)
  (ha:aw.set id .dead++[.arr e 1 (r.map bb)]=aw') (h:K2 (.ref k) aw'):OP P N ⟨d,.call ⟨.builtin .append,#[x,y],#[t,u]⟩,ty,ps,af,g⟩ (mkA n l) aw K2 :=
 OP.of_ok (fun σ w F a har hs=>by
  unfold app at hr;split at hr
  ·rename_i hc;cases hr;subst hk ha;obtain ⟨i,hi1,hi2⟩:=zQ.1 hi;have ez:i.zero=some (.int .u8 0):=congrArg (fun x=>x.1) hi2;have es:i.size=1:=congrArg (fun x=>x.2.1) hi2;have eb:i.bytes=1:=congrArg (fun x=>x.2.2) hi2;have ex:=har.ev x;have ey:=har.ev y;rw [am,hx] at ex;rw [am,hy] at ey;generalize hvx:a.eval x=vx at ex;generalize hvy:a.eval y=vy at ey;cases ey;cases ex with
   | ref _ A q cp hσ =>
    obtain ⟨flat,hown0,hfl,hf,_⟩:=hs.obj id _ _ ho hσ;have hbl:(bj s).length=s.length:=by simp [bj]
    have hlen:(xs.map bb).length+(⟨s.toArray⟩:ByteArray).size<=1099511627776:=by rw [zZ];show xs.length+s.toArray.size<=_;simp;omega
    obtain ⟨v',w',hrun,hown,hg,hat⟩:=sy (ty:=ty) hS.u hu hi1 ez es eb hown0 ⟨s.toArray⟩ hlen;have s3:=hs.lose id;have hfree:∀ b,(Value.slice A q cp).ownBlock=some b->¬ F b/\¬ Dof (aw.set id .dead) σ b/\Dof aw σ b:=by
     intro b hb;refine ⟨hf b hb,fun hd=>?_,⟨id,_,_,ho,rfl,hσ,(Bk.slice hb)⟩⟩;obtain ⟨k,o1,v1,ho1,hl,hv1,hb1⟩:=hd;rcases c6 ho1 with ⟨rfl,rfl,_⟩ | ⟨hne,h2⟩
     ·simp [Ob.live] at hl
     ·exact hs.sep k id o1 _ v1 _ b hne h2 ho hl rfl hv1 hσ hb1 ((Bk.slice hb))
    have hrow:∀ row,row∈(bj s).map bb->row.length=1:=fun row hm=>by obtain ⟨z,_,rfl⟩:=Am.1 hm;rfl
    have hl2:(xs.map bb).length+(⟨s.toArray⟩:ByteArray).size=(xs.map bb++(bj s).map bb).length:=by rw [Ag,zZ,zZ,hbl];rfl
    rw [hl2] at hown;obtain ⟨s2,m2,r2⟩:=lB (aw0:=aw) (vx:=.slice A q cp) s3 (fun _ h=>h.set_dead) hfl hrow (tc s) (strCells_oneCell _) hown hg (ly _ hrun) hat hfree;rw [Ax] at r2;rw [<- AM] at s2 m2;refine ⟨v',_,w',_,_,F,_,?_,.inl rfl,s2,m2,r2,h⟩;simp [execOp,resolve,invoke,builtin,Sem.run_bind,hvx,hvy,hrun]
  ·cases hr)
end
end
def itoaS (n:Int):Option (List UInt8):=if -9223372036854775808<=n/\n<=9223372036854775807 then some (Go.Lib.itoa n) else none
section
open Go.RowKit Go.Shelf
variable {P:Program} {ρ:Go.Shelf.Ren}
set_option maxHeartbeats 1000000 in
theorem tQ (L:Lays.n146 P ρ) (hi9:(P.info? (ρ.t 9)).map (fun i=>(i.zero,i.size,i.bytes))=some (some (.string ByteArray.empty),1,16)) (s:ByteArray) (b:UInt8) (w:World) (hs:s.size<4294967281) :
  Calls P (ρ.f 146) #[.string s,.string ⟨#[b]⟩] w fun e w' =>
   e=.returned (.slice (some ⟨w.heap.size,0,none⟩) (Lib.splitB ⟨#[b]⟩ 0 (Lib.countB s ⟨#[b]⟩) s).length (Lib.splitB ⟨#[b]⟩ 0 (Lib.countB s ⟨#[b]⟩) s).length)/\w'=w.alloc (.cells ((Lib.splitB ⟨#[b]⟩ 0 (Lib.countB s ⟨#[b]⟩) s).map Value.string).toArray (ρ.t 9)):=by
 have h1:1<=(⟨#[b]⟩:ByteArray).size:=zP _
 have hle:=Lib.countB_le ⟨#[b]⟩ h1 s.size s (zP _)
 have hlen:=Lib.splitB_all ⟨#[b]⟩ h1 0 _ s rfl
 have hI:∀ (x:ByteArray) (c:Array Value),x.size<=s.size->Calls P (ρ.f 143) #[.string x,.string ⟨#[b]⟩] (w.alloc (.cells c (ρ.t 9))) fun e w'=>e=.returned (.int .i64 (Lib.indexB x ⟨#[b]⟩))/\w'=w.alloc (.cells c (ρ.t 9)):=fun x c hx =>
  (Any.strings_Index_one { L with } x b _).mono fun e w' ⟨he,hw⟩=>⟨by rw [he];show _=Ending.returned (Value.int .i64 (Lib.index x.data.toList [b]));rw [Lib.index_one],hw⟩
 have hC:Calls P (ρ.f 138) #[.string s,.string ⟨#[b]⟩] w fun e w'=>e=.returned (.int .i64 (Lib.countB s ⟨#[b]⟩))/\w'=w :=
  (Any.strings_Count_one { L with } s b w).mono fun e w' ⟨he,hw⟩=>⟨by rw [he];show _=Ending.returned (Value.int .i64 ((Lib.count s.data.toList [b]:Nat):Int));rw [Lib.count_one];rfl,hw⟩
 have c:=Any.strings_genSplit_core { L with } hi9 s ⟨#[b]⟩ 0 (-1) (Lib.countB s ⟨#[b]⟩ + 1) w hs h1 (Ae _) hI hC (by decide) (by decide) (by rw [if_pos (by decide)];omega)
 rw [Nat.add_sub_cancel] at c
 have e2:Lib.cellsOf (Lib.splitB ⟨#[b]⟩ 0 (Lib.countB s ⟨#[b]⟩) s) (Lib.countB s ⟨#[b]⟩ + 1)=((Lib.splitB ⟨#[b]⟩ 0 (Lib.countB s ⟨#[b]⟩) s).map Value.string).toArray:=by rw [<- hlen];exact Lib.cellsOf_full _
 rw [e2,<- hlen] at c
 have t3:=L.t3;have t9:=L.t9;have t31:=L.t31
 have a3:=L.a3;have a9:=L.a9;have a31:=L.a31
 have z3:=L.z3;have v3:=L.v3;have z9:=L.z9;have v9:=L.v9;have z31:=L.z31;have v31:=L.v31
 have e221:∀ args w,(callFunc (ρ.f 221) args).run P w=.ok (.enter (ρ.f 221) args) w:=enters_of L.f221 (by kernel_rfl) rfl
 go_enter L.f146,Body.n146_ntmps ρ
 go_wp2_with (go_at_fn (ρ.f 221);refine c.mono ?_;rintro e w' ⟨rfl,hw⟩;rw [hw])
 go_ret
 refine ⟨?_,rfl⟩
 rw [hlen]
 rfl
theorem vu {σ:List Value} {w:World} {F:Nat->Prop} (xs:List ByteArray) (t:TypeId) (h:xs.length<=maxLen) :
  Rel σ (w.alloc (.cells (xs.map Value.string).toArray t)) (plus F w.heap.size) (.sl (xs.map fun x=>ab x.data.toList)) (.slice (some ⟨w.heap.size,0,none⟩) xs.length xs.length):=by
 have e:(xs.map fun x=>ab x.data.toList).length=xs.length:=by simp
 have:=Rel.sl (σ:=σ) (w:=w.alloc (.cells (xs.map Value.string).toArray t)) (F:=plus F w.heap.size) (xs.map fun x=>ab x.data.toList) 1 ⟨w.heap.size,0,none⟩ xs.length (fun i _=>.string (xs.getD i default)) (fun _=>.inr rfl) (by simp) h
  (fun row hr=>by obtain ⟨x,_,rfl⟩:=Am.1 hr;rfl) (fun i j _ _=>rfl)
  (fun i j hi hj=>by
   rw [e] at hi;have hj:j=0:=by omega
   subst hj;have ha:(⟨w.heap.size,0,none⟩:Addr).add (i*1+0)=⟨w.heap.size,i,none⟩:=by unfold Addr.add;simp;exact fun h=>h.symm
   rw [ha,World.cell?_alloc_new];simp [hi])
  (fun i row j x h1 h2=>by
   rw [zT] at h1;cases hx:xs[i]? with
   | none=>rw [hx] at h1;cases h1
   | some y =>
    rw [hx] at h1;cases h1;cases j with
    | zero=>cases h2;simp only [z8,hx];exact .str _
    | succ j=>cases h2)
 rw [e] at this
 exact this
def g6 (s:List UInt8) (b:UInt8):Option (List (List UInt8)):=if s.length<4294967281 then some ((Lib.splitB ⟨#[b]⟩ 0 (Lib.countB ⟨s.toArray⟩ ⟨#[b]⟩) ⟨s.toArray⟩).map fun x=>x.data.toList) else none
def aB (b:UInt8):List UInt8->List (List UInt8)
 | []=>[[]]
 | x::l=>if x=b then []::aB b l else match aB b l with
  | []=>[[x]]
  | p::r=>(x::p)::r
theorem fb {b:UInt8}:∀ {p:List UInt8},b ∉ p->aB b p=[p]
 | [],_=>rfl
 | x::p,h=>by
  have h1:¬ x=b:=fun e=>h (by rw [e];exact Aj)
  have h2:b ∉ p:=fun m=>h (Ai _ m)
  simp only [aB,if_neg h1,fb h2]
theorem ej {b:UInt8} (q:List UInt8):∀ {p:List UInt8},b ∉ p->aB b (p++b::q)=p::aB b q
 | [],_=>by simp [aB]
 | x::p,h=>by
  have h1:¬ x=b:=fun e=>h (by rw [e];exact Aj)
  have h2:b ∉ p:=fun m=>h (Ai _ m)
  simp only [AA,aB,if_neg h1,ej q h2]
theorem iM (s:List UInt8) (b:UInt8):(Go.Lib.indexByte s b<0/\b ∉ s)∨∃ p q,s=p++b::q/\b ∉ p/\Go.Lib.indexByte s b=p.length:=by
 have hge:=Go.Lib.indexByte_ge s b;by_cases h:Go.Lib.indexByte s b<0
 ·have h1:Go.Lib.indexByte s b = -1:=by omega
  exact .inl ⟨h,fun hm=>by obtain ⟨k,hk⟩:=List.mem_iff_getElem?.1 hm;exact Go.Lib.indexByte_none h1 k hk⟩
 ·obtain ⟨o,ho⟩:∃ o:Nat,Go.Lib.indexByte s b=o:=⟨_,(AH (by omega)).symm⟩
  obtain ⟨h1,h2⟩:=Go.Lib.indexByte_some ho;obtain ⟨hl,hx⟩:=zK.1 h1;refine .inr ⟨s.take o,s.drop (o+1),?_,fun hm=>?_,?_⟩
  ·have:=zY hl;rw [hx] at this;rw [<- this,Av]
  ·obtain ⟨k,hk⟩:=List.mem_iff_getElem?.1 hm;rw [As] at hk;split at hk
   ·exact h2 k (by assumption) hk
   ·cases hk
  ·rw [ho,AU,A0 (by omega)]
theorem oR (p q:List UInt8) (b:UInt8):(⟨p.toArray⟩:ByteArray)=(⟨(p++b::q).toArray⟩:ByteArray).extract 0 p.length/\(⟨(p++b::q).toArray⟩:ByteArray).extract (p.length+1) (p.length+(q.length+1))=⟨q.toArray⟩:=by refine ⟨ByteArray.ext (by simp [ByteArray.data_extract]),ByteArray.ext ?_⟩;simp [ByteArray.data_extract];exact Ab (by omega)
theorem ur (b:UInt8):∀ (n:Nat) (s:List UInt8),s.length<=n->(Go.Lib.splitB ⟨#[b]⟩ 0 (Go.Lib.countB ⟨s.toArray⟩ ⟨#[b]⟩) ⟨s.toArray⟩).map (fun x=>x.data.toList)=aB b s:=by
 intro n;induction n with
 | zero =>
  intro s hs;have:s=[]:=zN (by omega);subst this;have h:Go.Lib.indexB ⟨#[]⟩ ⟨#[b]⟩ = -1:=by show Go.Lib.index [] [b] = -1;rw [Go.Lib.index_one];rfl
  rw [show (⟨([]:List UInt8).toArray⟩:ByteArray)=⟨#[]⟩ from rfl,Go.Lib.countB_miss _ _ h];rfl
 | succ n ih =>
  intro s hs;have hi:Go.Lib.indexB ⟨s.toArray⟩ ⟨#[b]⟩=Go.Lib.indexByte s b:=by show Go.Lib.index s [b]=_;rw [Go.Lib.index_one]
  rcases iM s b with ⟨hneg,hno⟩ | ⟨p,q,rfl,hno,hix⟩
  ·have hge:=Go.Lib.indexByte_ge s b;rw [Go.Lib.countB_miss _ _ (by rw [hi];omega),fb hno];rfl
  ·rw [hix] at hi;have hsz:(⟨(p++b::q).toArray⟩:ByteArray).size=p.length+(q.length+1):=by simp [ByteArray.size]
   have hb1:(⟨#[b]⟩:ByteArray).size=1:=rfl;rw [Go.Lib.countB_hit _ _ _ (zP _) hi,Nat.add_comm 1,Go.Lib.splitB_hit _ _ _ _ _ hi,ej q hno,hb1,hsz,(oR p q b).2,AK,<- (oR p q b).1,Ac,ih q (by simp at hs;omega)]
def ja (s p:List UInt8):Option (List (List UInt8)):=match p with | [b]=>g6 s b | _=>none
theorem t6 (s:List UInt8) (b:UInt8):g6 s b=if s.length<4294967281 then some (aB b s) else none:=by unfold g6;rw [ur b s.length s (zP _)]
theorem tV (hcal:∀ vs w,(callFunc (ρ.f 146) vs).run P w=.ok (.enter (ρ.f 146) vs) w) (L:Lays.n146 P ρ) (hi9:(P.info? (ρ.t 9)).map (fun i=>(i.zero,i.size,i.bytes))=some (some (.string ByteArray.empty),1,16))
  (p0:List UInt8) (b:UInt8) (r:List (List UInt8)) (h:g6 p0 b=some r):Fn P (ρ.f 146) [.str p0,.str [b]] (.sl (r.map ab)):=by
 unfold g6 at h
 split at h
 ·rename_i h0
  injection h with h
  subst h
  refine ⟨hcal,fun w F σ vs hs hr=>?_⟩
  match vs,hr with
  | [v0,v1],hr =>
   have r0:Rel σ w F (.str p0) v0:=hr.2 0 _ v0 rfl rfl
   have r1:Rel σ w F (.str [b]) v1:=hr.2 1 _ v1 rfl rfl
   cases r0
   cases r1
   have hlen:=Lib.splitB_all ⟨#[b]⟩ (zP _) 0 _ ⟨p0.toArray⟩ rfl
   have hle:=Lib.countB_le ⟨#[b]⟩ (zP _) p0.length ⟨p0.toArray⟩ (Nat.le_of_eq (by simp [ByteArray.size]))
   refine (tQ L hi9 ⟨p0.toArray⟩ b w (by simpa [ByteArray.size] using h0)).mono ?_
   rintro e w' ⟨rfl,rfl⟩
   refine ⟨_,_,[],σ,plus F w.heap.size,rfl,⟨rfl,rfl⟩,hs.fresh _,?_,.fresh _⟩
   have:=vu (σ:=σ) (w:=w) (F:=F) (Lib.splitB ⟨#[b]⟩ 0 (Lib.countB ⟨p0.toArray⟩ ⟨#[b]⟩) ⟨p0.toArray⟩) (ρ.t 9) (by rw [hlen];simp [ByteArray.size] at hle;unfold maxLen;omega)
   rw [AO]
   exact this
 ·cases h
theorem sM (hcal:∀ vs w,(callFunc (ρ.f 146) vs).run P w=.ok (.enter (ρ.f 146) vs) w) (L:Lays.n146 P ρ) (hi9:(P.info? (ρ.t 9)).map (fun i=>(i.zero,i.size,i.bytes))=some (some (.string ByteArray.empty),1,16))
  (p0 p1:List UInt8) (r:List (List UInt8)) (h:ja p0 p1=some r):Fn P (ρ.f 146) [.str p0,.str p1] (.sl (r.map ab)):=by
 unfold ja at h
 split at h
 ·exact tV hcal L hi9 p0 _ r h
 ·cases h
end
section
open Go.RowKit Go.Shelf
def atoiA (s:List UInt8):Option Int:=if s.length<=9223372036854775806 then match Lib.atoiAll s with
 | .ok v=>some v
 | _=>none else none
section
variable {P:Program} {ρ:Go.Shelf.Ren}
theorem t8 (hcal:∀ vs w,(callFunc (ρ.f 172) vs).run P w=.ok (.enter (ρ.f 172) vs) w) (L:LaysC.n172 P ρ) (p0:List UInt8) (r:Int) (h:atoiA p0=some r):Fn P (ρ.f 172) [.str p0] (.tup [.int .i64 r,.nili]):=by
 unfold atoiA at h;split at h
 ·rename_i h0;split at h
  ·rename_i v hv;cases h;refine ⟨hcal,fun w F σ vs hs hr=>?_⟩;match vs,hr with
   | [v0],hr =>
    have r0:Rel σ w F (.str p0) v0:=hr.2 0 _ v0 rfl rfl
    cases r0
    refine (Any.strconv_Atoi_ok L ⟨p0.toArray⟩ (by simpa [ByteArray.size] using h0) r (by simpa using hv) w).mono ?_
    rintro e w' ⟨rfl,hw⟩
    have ht:Rel σ w F (.tup [.int .i64 r,.nili]) (.tuple #[.int .i64 r,.nilIface]):=Rel.tup [.int .i64 r,.nili] [.int .i64 r,.nilIface] rfl fun j c u h1 h2=>by
     match j with
     | 0=>cases h1;cases h2;exact .int _ _
     | 1=>cases h1;cases h2;exact .nili
     | j+2=>cases h1
    rcases hw with rfl | ⟨t,rfl⟩
    ·exact ⟨_,_,[],σ,F,rfl,⟨rfl,rfl⟩,hs,ht,.refl ..⟩
    ·have hk:∀ b,b<w.heap.size->(Lib.bytesWorld w (ρ.t 5) t).heap[b]?=w.heap[b]?:=fun b hb=>by
      unfold Lib.bytesWorld World.freeze;split
      ·exact Below.heap_alloc w.drew _ b hb
      ·show ((w.drew.alloc _).heap.modify w.heap.size _)[b]?=_;rw [AD,if_neg (by omega)];exact Below.heap_alloc w.drew _ b hb
     have hsz:w.heap.size<=(Lib.bytesWorld w (ρ.t 5) t).heap.size:=by unfold Lib.bytesWorld World.freeze;split<;>simp
     refine ⟨_,_,[],σ,F,rfl,⟨rfl,rfl⟩,hs.grow (fun _ h=>h) (fun _ h=>.inl h) (fun b hb=>zX (hs.lt b hb) hsz) hk,ht.mono (fun _ _ h=>h) (fun _ h=>h) (fun b hb=>hk b (hs.lt b hb)),.grow (fun _ h=>h) (fun _ h=>.inl h) ?_ ?_ (drO ?_) hsz hk⟩
     all_goals (unfold Lib.bytesWorld World.freeze;split<;>rfl)
  ·cases h
 ·cases h
end
end
section
open Go.RowKit
inductive TI where
 | no
 | s0
 | sc (z:AV)
 | it (k:IntKind)
 | bo
 | str
 | sl (e c:Nat)
 | ag (z:List AV) (m:Nat) (fs:List (Nat × Nat × Nat))
 | ar (z:List AV) (m:Nat)
inductive TT where
 | l (t:Nat) (i:TI)
 | n (k:Nat) (a b:TT)
def TT.get:TT->Nat->TI
 | .l t i,u=>match Nat.beq t u with
  | true=>i
  | false=>.no
 | .n k a b,u=>match Nat.blt u k with
  | true=>a.get u
  | false=>b.get u
def TI.zero:TI->Option (List AV)
 | .sc z=>some [z]
 | .it k=>some [.int k 0]
 | .bo=>some [.bool false]
 | .str=>some [.str []]
 | .sl _ _=>some [.nils]
 | .ag z _ _=>some z
 | .ar z _=>some z
 | _=>none
def TI.size:TI->Option Nat
 | .no=>none
 | .ag _ m _=>some m
 | .ar _ m=>some m
 | _=>some 1
def TOne (P:Program) (t:Nat):Prop:=bM P t=some false/\P.cellsOf t=1/\(P.underlying t).isSome=true
def FsOk (P:Program) (t:Nat):Nat->List (Nat × Nat × Nat)->Prop
 | _,[]=>True
 | k,(o,_,ft)::r=>FieldAt P t k ft o/\FsOk P t (k+1) r
def TAgg (P:Program) (t:Nat) (z:List AV) (m:Nat):Prop:=bM P t=some true/\P.cellsOf t=m/\(P.underlying t).isSome=true/\aq P t=some z/\z.length=m
def TOk (P:Program) (t:Nat):TI->Prop
 | .no=>True
 | .s0=>TOne P t
 | .sc z=>TOne P t/\aq P t=some [z]
 | .it k=>TOne P t/\aq P t=some [.int k 0]/\P.underlying t=some (.int k)
 | .bo=>TOne P t/\aq P t=some [.bool false]/\P.underlying t=some .bool
 | .str=>TOne P t/\aq P t=some [.str []]/\P.underlying t=some .string
 | .sl e c=>TOne P t/\aq P t=some [.nils]/\SliceOf P t e c
 | .ag z m fs=>TAgg P t z m/\iK P t=some (fs.map fun q=>(q.1,q.2.1))/\FsOk P t 0 fs
 | .ar z m=>TAgg P t z m
def TT.Ok (P:Program):TT->Prop
 | .l t i=>TOk P t i
 | .n _ a b=>a.Ok P/\b.Ok P
inductive TE where
 | a (x:Option Bool)
 | b (x:Nat)
 | c (x:Bool)
 | d (x:Option (List AV))
 | e (x:Option TypeDesc)
 | f (x:Option (List (Nat × Nat)))
 | g (x:List (Nat × Nat × Bool × Bool))
def fL (P:Program) (t:Nat):List (Nat × Nat × Bool × Bool):=match P.underlying t with
 | some (.struct fs)=>fs.toList.map fun f=>(f.offset,f.type,P.cellsOf f.type==0,(P.underlying f.type).isSome)
 | _=>[]
def e1 (P:Program) (t:Nat) (b:Bool) (m:Nat):List (TE × TE):=[(.a (bM P t),.a (some b)),(.b (P.cellsOf t),.b m),(.c (P.underlying t).isSome,.c true)]
def e2 (P:Program) (t:Nat) (z:List AV) (u:TypeDesc):List (TE × TE):=e1 P t false 1++[(.d (aq P t),.d (some z)),(.e (P.underlying t),.e (some u))]
def e3 (P:Program) (t:Nat) (z:List AV) (m:Nat):List (TE × TE):=e1 P t true m++[(.d (aq P t),.d (some z)),(.b z.length,.b m)]
def TI.eqs (P:Program) (t:Nat):TI->List (TE × TE)
 | .no=>[]
 | .s0=>e1 P t false 1
 | .sc z=>e1 P t false 1++[(.d (aq P t),.d (some [z]))]
 | .it k=>e2 P t [.int k 0] (.int k)
 | .bo=>e2 P t [.bool false] .bool
 | .str=>e2 P t [.str []] .string
 | .sl e c=>e2 P t [.nils] (.slice e)++[(.b (P.cellsOf e),.b c),(.c (P.underlying e).isSome,.c true),(.c (Nat.blt 0 c),.c true),(.c (Nat.ble (P.bytesOf e) 128),.c true),(.b (((aq P e).map List.length).getD 0),.b c)]
 | .ag z m fs=>e3 P t z m++[(.f (iK P t),.f (some (fs.map fun q=>(q.1,q.2.1)))),(.g (fL P t),.g (fs.map fun q=>(q.1,q.2.2,false,true)))]
 | .ar z m=>e3 P t z m
def TT.eqs (P:Program):TT->List (TE × TE)
 | .l t i=>i.eqs P t
 | .n _ a b=>a.eqs P++b.eqs P
theorem fs_of {P:Program} {t:Nat}:∀ (r:List (Nat × Nat × Nat)) (k:Nat),(fL P t).drop k=r.map (fun q=>(q.1,q.2.2,false,true))->FsOk P t k r
 | [],_,_=>trivial
 | (o,m,ft)::r,k,h=>by
  have h0:(fL P t)[k]?=some (o,ft,false,true):=by rw [<- List.head?_drop,h];rfl
  refine ⟨⟨?_⟩,fs_of r (k+1) (by rw [<- AP,h];rfl)⟩;unfold fL at h0;split at h0
  ·rename_i fs hu;rw [zT] at h0;obtain ⟨f,hf,e⟩:=zQ.1 h0;simp only [Prod.mk.injEq,beq_eq_false_iff_ne] at e;obtain ⟨rfl,rfl,e3,e4⟩:=e;exact ⟨fs,f,hu,by rw [<- hf];simp,rfl,rfl,e3,e4⟩
  ·cases h0
theorem TI.of_eqs {P:Program} {t:Nat} {i:TI} (h:∀ p∈i.eqs P t,p.1=p.2):TOk P t i:=by
 cases i with
 | no=>trivial
 | ag z m fs =>
  simp [TI.eqs,e3,e1] at h;exact ⟨⟨h.1,h.2.1,h.2.2.1,h.2.2.2.1,h.2.2.2.2.1⟩,h.2.2.2.2.2.1,fs_of fs 0 h.2.2.2.2.2.2⟩
 | sl e c =>
  simp [TI.eqs,e2,e1] at h;obtain ⟨h1,h2,h3,h4,h5,h6,h7,h8,h9,h10⟩:=h;refine ⟨⟨h1,h2,h3⟩,h4,h5,h6,h7,h8,h9,?_⟩;cases hz:aq P e with
  | none=>rw [hz] at h10;simp at h10;omega
  | some z=>rw [hz] at h10;exact ⟨z,rfl,h10⟩
 | _=>simp [TI.eqs,e3,e2,e1] at h;simp [TOk,TOne,TAgg,h]
theorem TT.of_eqs {P:Program}:∀ {tt:TT},(∀ p∈tt.eqs P,p.1=p.2)->tt.Ok P
 | .l _ _,h=>TI.of_eqs h
 | .n _ _ _,h=>⟨TT.of_eqs fun p hp=>h p (List.mem_append_left _ hp),TT.of_eqs fun p hp=>h p (List.mem_append_right _ hp)⟩
theorem TT.ok_of {P:Program} {tt:TT} (h:(tt.eqs P).map (·.1)=(tt.eqs P).map (·.2)):tt.Ok P:=TT.of_eqs (List.map_inj_left.1 h)
section
variable {P:Program} {N n:Nat} {aw aw':List Ob} {l:List (Nat × AV)} {tt:TT}
theorem TT.get_ok:∀ {tt:TT},tt.Ok P->∀ u,TOk P u (tt.get u)
 | .l t i,h,u=>by
  show TOk P u (match Nat.beq t u with | true=>i | false=>.no);cases hb:Nat.beq t u
  ·trivial
  ·have:=Al hb;subst this;exact h
 | .n k a b,h,u=>by
  show TOk P u (match Nat.blt u k with | true=>a.get u | false=>b.get u);cases Nat.blt u k
  ·exact TT.get_ok h.2 u
  ·exact TT.get_ok h.1 u
theorem TI.zero_ok {t:Nat} {i:TI} {z:List AV} (h:TOk P t i) (hz:i.zero=some z):aq P t=some z:=by cases i<;>simp only [TI.zero] at hz<;>first | grind | (cases hz;first | exact h.2 | exact h.2.1 | exact h.1.2.2.2.1 | exact h.2.2.2.1)
theorem TI.size_ok {t m:Nat} {i:TI} (h:TOk P t i) (hm:i.size=some m):P.cellsOf t=m/\(P.underlying t).isSome=true:=by cases i<;>simp only [TI.size] at hm<;>first | grind | (cases hm;first | exact ⟨h.2.1,h.2.2⟩ | exact ⟨h.1.2.1,h.1.2.2.1⟩ | exact ⟨h.1.2.1,h.1.2.2⟩ | exact ⟨h.2.1,h.2.2.1⟩)
theorem lW {t:Nat}:∀ {fs:List (Nat × Nat × Nat)} {k i:Nat} {q:Nat × Nat × Nat},FsOk P t k fs->fs[i]?=some q->FieldAt P t (k+i) q.2.2 q.1
 | q'::r,k,0,q,h,e=>by simp at e;subst e;exact h.1
 | q'::r,k,i+1,q,h,e=>by
  have:=lW (k:=k+1) (i:=i) h.2 (by simpa using e);grind
 | [],k,i,q,h,e=>by simp at e
section
variable {α:Type}
def aY:List α->Nat->(α->Prop)->Prop
 | [],_,_=>False
 | a::l,k,K=>match k with
  | 0=>K a
  | k+1=>aY l k K
def setC:List α->Nat->α->(List α->Prop)->Prop
 | [],_,_,_=>False
 | a::l,k,b,K=>match k with
  | 0=>K (b::l)
  | k+1=>setC l k b fun l=>K (a::l)
def pushC:List α->α->(List α->Prop)->Prop
 | [],b,K=>K [b]
 | a::l,b,K=>pushC l b fun l=>K (a::l)
def lenC:List α->Nat->Prop->Prop
 | [],k,K=>match k with
  | 0=>K
  | _+1=>False
 | _::l,k,K=>match k with
  | 0=>False
  | k+1=>lenC l k K
def dropC:List α->Nat->(List α->Prop)->Prop
 | l,0,K=>K l
 | [],_+1,_=>False
 | _::l,k+1,K=>dropC l k K
def takeC:List α->Nat->(List α->Prop)->Prop
 | _,0,K=>K []
 | [],_+1,_=>False
 | a::l,k+1,K=>takeC l k fun l=>K (a::l)
def overC:List α->List α->(List α->Prop)->Prop
 | l,[],K=>K l
 | [],_::_,_=>False
 | _::l,b::bs,K=>overC l bs fun l=>K (b::l)
def splC:List α->Nat->List α->(List α->Prop)->Prop
 | l,0,bs,K=>overC l bs K
 | [],_+1,_,_=>False
 | a::l,k+1,bs,K=>splC l k bs fun l=>K (a::l)
def lenB:List α->Nat->Bool
 | [],k=>(match k with
  | 0=>true
  | _+1=>false)
 | _::l,k=>(match k with
  | 0=>false
  | k+1=>lenB l k)
def sameB:List α->List α->Bool
 | [],[]=>true
 | _::l,_::m=>sameB l m
 | _,_=>false
def aggC (row:List α) (off m:Nat) (K:List α->Prop):Prop :=
 match off with
 | 0=>(match lenB row m with
  | true=>K row
  | false=>takeC row m K)
 | off=>dropC row off fun r=>takeC r m K
def putC (l:List α) (off:Nat) (bs:List α) (K:List α->Prop):Prop :=
 match off with
 | 0=>(match sameB l bs with
  | true=>K bs
  | false=>splC l 0 bs K)
 | off=>splC l off bs K
theorem pS:∀ {l:List α} {k:Nat},lenB l k=true->l.length=k
 | [],0,_=>rfl
 | [],_+1,h=>by cases h
 | _::_,0,h=>by cases h
 | _::l,k+1,h=>by have:=pS (l:=l) (k:=k) h;simp [this]
theorem pn:∀ {l m:List α},sameB l m=true->l.length=m.length
 | [],[],_=>rfl
 | [],_::_,h=>by cases h
 | _::_,[],h=>by cases h
 | _::l,_::m,h=>by have:=pn (l:=l) (m:=m) h;simp [this]
theorem aU:∀ {l:List α} {k:Nat} {K:α->Prop},aY l k K->∃ a,l[k]?=some a/\K a
 | [],_,_,h=>h.elim
 | a::l,0,K,h=>⟨a,rfl,h⟩
 | a::l,k+1,K,h=>by obtain ⟨b,h1,h2⟩:=aU (l:=l) (k:=k) (K:=K) h;grind
theorem fS:∀ {l:List α} {k:Nat} {b:α} {K:List α->Prop},setC l k b K->K (l.set k b)
 | [],_,_,_,h=>h.elim
 | a::l,0,b,K,h=>h
 | a::l,k+1,b,K,h=>fS (l:=l) (k:=k) (K:=fun l=>K (a::l)) h
theorem gP:∀ {l:List α} {b:α} {K:List α->Prop},pushC l b K->K (l++[b])
 | [],_,_,h=>h
 | a::l,b,K,h=>gP (l:=l) (K:=fun l=>K (a::l)) h
theorem lK:∀ {l:List α} {k:Nat} {K:Prop},lenC l k K->l.length=k/\K
 | [],0,K,h=>⟨rfl,h⟩
 | [],_+1,_,h=>h.elim
 | _::_,0,_,h=>h.elim
 | _::l,k+1,K,h=>by have:=lK (l:=l) (k:=k) (K:=K) h;grind
theorem lJ:∀ {l:List α} {k:Nat} {K:List α->Prop},dropC l k K->k<=l.length/\K (l.drop k)
 | l,0,K,h=>⟨Ae _,by cases l<;>exact h⟩
 | [],_+1,_,h=>h.elim
 | _::l,k+1,K,h=>by have:=lJ (l:=l) (k:=k) (K:=K) h;grind
theorem lA:∀ {l:List α} {k:Nat} {K:List α->Prop},takeC l k K->k<=l.length/\K (l.take k)
 | l,0,K,h=>⟨Ae _,by cases l<;>exact h⟩
 | [],_+1,_,h=>h.elim
 | a::l,k+1,K,h=>by have:=lA (l:=l) (k:=k) (K:=fun l=>K (a::l)) h;grind
theorem pu:∀ {l bs:List α} {K:List α->Prop},overC l bs K->bs.length<=l.length/\K (bs++l.drop bs.length)
 | l,[],K,h=>⟨Ae _,by cases l<;>exact h⟩
 | [],_::_,_,h=>h.elim
 | _::l,b::bs,K,h=>by have:=pu (l:=l) (bs:=bs) (K:=fun l=>K (b::l)) h;grind
theorem kq:∀ {l:List α} {k:Nat} {bs:List α} {K:List α->Prop},splC l k bs K->k+bs.length<=l.length/\K (l.take k++bs++l.drop (k+bs.length))
 | l,0,bs,K,h=>by have:=pu (l:=l) (bs:=bs) (K:=K) (by cases l<;>exact h);grind
 | [],_+1,_,_,h=>h.elim
 | a::l,k+1,bs,K,h=>by have:=kq (l:=l) (k:=k) (bs:=bs) (K:=fun l=>K (a::l)) h;grind
theorem pX {row:List α} {off m:Nat} {K:List α->Prop} (h:aggC row off m K):off+m<=row.length/\K ((row.drop off).take m):=by
 have key:∀ {o:Nat},(dropC row o fun r=>takeC r m K)->o+m<=row.length/\K ((row.drop o).take m):=fun {o} h=>by obtain ⟨h1,h2⟩:=lJ h;obtain ⟨h3,h4⟩:=lA h2;grind
 unfold aggC at h;split at h;all_goals (grind [pS,lA])
theorem wM {l:List α} {k:Nat} {bs:List α} {K:List α->Prop} (h:putC l k bs K):k+bs.length<=l.length/\K (l.take k++bs++l.drop (k+bs.length)):=by
 unfold putC at h;split at h
 ·split at h
  ·rename_i hb;have:=pn hb;grind
  ·exact kq h
 ·exact kq h
end
def fA (a:AV) (K:AV->Prop):Prop :=
 match a with
 | .any=>K .any
 | .int k n=>K (.int k n)
 | .bool b=>K (.bool b)
 | .str s=>K (.str s)
 | .agg cs=>K (.agg cs)
 | .tup vs=>K (.tup vs)
 | .nils=>K .nils
 | .sl rows=>K (.sl rows)
 | .ref id=>K (.ref id)
 | .ptr id off=>K (.ptr id off)
 | .elt row off=>K (.elt row off)
 | .aptr id size i off=>K (.aptr id size i off)
 | .func f caps=>K (.func f caps)
 | .nilf=>K .nilf
 | .nilp=>K .nilp
 | .nili=>K .nili
 | .mpr id=>K (.mpr id)
 | .np id=>K (.np id)
 | .ifc t a=>K (.ifc t a)
 | .cst v=>K (.cst v)
 | .vw id size lo n cap=>K (.vw id size lo n cap)
 | .ref2 id=>K (.ref2 id)
 | .aptr2 id i=>K (.aptr2 id i)
 | .iref id i=>K (.iref id i)
 | .bnd f cs=>K (.bnd f cs)
theorem cC {a:AV} {K:AV->Prop} (h:fA a K):K a:=by cases a<;>exact h
def i6 (a:AV) (K:List AV->Prop):Prop :=
 match a with
 | .any | .tup _ | .cst _=>False
 | .agg cs=>K cs
 | a=>fA a fun a=>K [a]
theorem lx {a:AV} {K:List AV->Prop} (h:i6 a K):∃ cs,a.cells=some cs/\K cs:=by cases a<;>first | exact h.elim | exact ⟨_,rfl,h⟩
def evsC (n:Nat) (l:List (Nat × AV)):List Operand->(List AV->Prop)->Prop
 | [],K=>K []
 | x::xs,K=>fA (evA n l x) fun a=>evsC n l xs fun as₀=>K (a::as₀)
theorem iV:∀ {xs:List Operand} {K:List AV->Prop},evsC n l xs K->K (xs.map (evA n l))
 | [],K,h=>h
 | x::xs,K,h=>iV (xs:=xs) (K:=fun as₀=>K (evA n l x::as₀)) (cC (a:=evA n l x) (K:=fun a=>evsC n l xs fun as₀=>K (a::as₀)) h)
def ikN:IntKind->Nat
 | .i8=>0
 | .i16=>1
 | .i32=>2
 | .i64=>3
 | .u8=>4
 | .u16=>5
 | .u32=>6
 | .u64=>7
theorem qk {a b:IntKind} (h:Nat.beq (ikN a) (ikN b)=true):a=b:=by cases a<;>cases b<;>first | rfl | cases h
def wLd (i:TI) (row:List AV) (off:Nat) (K:AV->Prop):Prop :=
 match i with
 | .no=>False
 | .ag _ m _=>aggC row off m fun cs=>K (.agg cs)
 | .ar _ m=>aggC row off m fun cs=>K (.agg cs)
 | _=>aY row off fun c=>fA c K
theorem ldA {t m:Nat} {row:List AV} {off:Nat} {K:AV->Prop} (hk:bM P t=some true) (hm:P.cellsOf t=m) (h:aggC row off m fun cs=>K (.agg cs)):aV P t row off K:=by grind [pX,aV]
theorem ld1 {t:Nat} {row:List AV} {off:Nat} {K:AV->Prop} (hk:bM P t=some false) (h:aY row off fun c=>fA c K):aV P t row off K:=by obtain ⟨c,h1,h2⟩:=aU h;grind [ai,cC]
theorem lU {t:Nat} {i:TI} {row:List AV} {off:Nat} {K:AV->Prop} (ht:TOk P t i) (h:wLd i row off K):aV P t row off K:=by
 cases i with
 | no=>exact h.elim
 | ag z m fs=>exact ldA ht.1.1 ht.1.2.1 h
 | ar z m=>exact ldA ht.1 ht.2.1 h
 | s0=>exact ld1 ht.1 h
 | _=>exact ld1 ht.1.1 h
def wBin (tt:TT) (op:BinOp) (t:Nat) (a b:AV) (K:AV->Prop):Prop :=
 match a,b with
 | .int k x,.int k' y=>(match Nat.beq (ikN k) (ikN k') with
  | true=>(match op with
   | .add=>K (.int k (k.wrap (x+y)))
   | .sub=>K (.int k (k.wrap (x - y)))
   | .mul=>K (.int k (k.wrap (x*y)))
   | .and=>K (.int k (intBits .and k x y))
   | .or=>K (.int k (intBits .or k x y))
   | .xor=>K (.int k (intBits .xor k x y))
   | .eql=>K (.bool (x==y))
   | .neq=>K (.bool (x != y))
   | .lss=>K (.bool (decide (x<y)))
   | .leq=>K (.bool (decide (x<=y)))
   | .gtr=>K (.bool (decide (x > y)))
   | .geq=>K (.bool (decide (x >= y)))
   | _=>False)
  | false=>False)
 | .str x,.str y=>(match op with
  | .eql=>K (.bool (x==y))
  | .neq=>K (.bool (!(x==y)))
  | _=>False)
 | .bool x,.bool y=>(match tt.get t with
  | .bo=>(match op with
   | .eql=>K (.bool (x==y))
   | .neq=>K (.bool (!(x==y)))
   | _=>False)
  | _=>False)
 | _,_=>False
theorem wh {op:BinOp} {t:Nat} {a b:AV} {K:AV->Prop} (ht:tt.Ok P) (h:wBin tt op t a b K):vcBin P op t a b K:=by
 unfold wBin at h;split at h
 ·split at h
  ·rename_i hk;have:=qk hk;subst this;split at h<;>first | exact ⟨trivial,h⟩ | exact ⟨rfl,h⟩ | exact h.elim
  grind
 ·split at h<;>first | exact h.elim | exact h
 ·split at h
  ·rename_i hb;have hu:=TT.get_ok ht t;rw [hb] at hu;have hu:=hu.2.2;split at h<;>first | exact h.elim | simp_all [vcBin]
  grind
 grind
def fillC (n:Nat) (l:List (Nat × AV)) (fs:List (Nat × Nat × Nat)):List AV->List (Nat × Operand)->(List AV->Prop)->Prop
 | cells,[],K=>K cells
 | cells,(i,x)::ps,K=>aY fs i fun (o,sz,_)=>i6 (evA n l x) fun vs=>lenC vs sz (splC cells o vs fun cs=>fillC n l fs cs ps K)
theorem oM {fs:List (Nat × Nat × Nat)}:∀ {ps:List (Nat × Operand)} {cells:List AV} {K:List AV->Prop},fillC n l fs cells ps K ->
  ∃ cs,dx (fun i=>(fs.map fun q=>(q.1,q.2.1))[i]?) cells (ps.map fun p=>(p.1,evA n l p.2))=some cs/\K cs
 | [],cells,K,h=>⟨cells,rfl,by assumption⟩
 | (i,x)::ps,cells,K,h=>by
  have h:aY fs i fun q=>i6 (evA n l x) fun vs=>lenC vs q.2.1 (splC cells q.1 vs fun cs=>fillC n l fs cs ps K):=by assumption
  obtain ⟨q,h1,h⟩:=aU h;obtain ⟨vs,h2,h⟩:=lx h;obtain ⟨h3,h⟩:=lK h;obtain ⟨h4,h⟩:=kq h;obtain ⟨cs,h5,h6⟩:=oM h;refine ⟨cs,?_,h6⟩;show dx _ cells ((i,evA n l x)::ps.map fun p=>(p.1,evA n l p.2))=_;have e1:(fs.map fun q=>(q.1,q.2.1))[i]?=some (q.1,q.2.1):=by grind
  unfold dx;simp only [e1,h2];rw [if_pos ⟨h3,by omega⟩];exact h5
def wB (tt:TT) (n:Nat) (l:List (Nat × AV)) (b:Builtin) (args:List Operand) (ats:List TypeId) (K:AV->Prop):Prop :=
 match b,args,ats with
 | .len,[x],[t]=>(match tt.get t,evA n l x with
  | .str,.str s=>K (.int .i64 s.length)
  | .sl _ _,.nils=>K (.int .i64 0)
  | _,_=>False)
 | .min,[x,y],_=>(match evA n l x,evA n l y with
  | .int k a,.int _ b=>K (.int k (if b<a then b else a))
  | _,_=>False)
 | .max,[x,y],_=>(match evA n l x,evA n l y with
  | .int k a,.int _ b=>K (.int k (if b > a then b else a))
  | _,_=>False)
 | _,_,_=>False
theorem wB_ok {b:Builtin} {args:List Operand} {ats:List TypeId} {K:AV->Prop} (ht:tt.Ok P) (h:wB tt n l b args ats K):vcB P (mkA n l) aw b args ats K:=by
 unfold wB at h;split at h
 ·rename_i x t;have hu:=TT.get_ok ht t;split at h
  ·rename_i s h1 h2;rw [h1] at hu;simp only [vcB,am,hu.2.2,h2];exact h
  ·rename_i e c h1 h2;rw [h1] at hu;simp only [vcB,am,hu.2.2.u,h2];exact h
  grind
 all_goals (grind [vcB,am])
def wV (tt:TT) (n:Nat) (l:List (Nat × AV)) (aw:List Ob) (op:Op) (K:AV->Prop):Prop :=
 match op with
 | .move x=>fA (evA n l x) K
 | .assign x=>fA (evA n l x) K
 | .pick c a b=>(match evA n l c,evA n l a,evA n l b with
  | .bool t,.bool x,.bool y=>K (.bool (if t then x else y))
  | .bool t,.int k x,.int k' y=>(match Nat.beq (ikN k) (ikN k') with
   | true=>K (.int k (if t then x else y))
   | false=>False)
  | _,_,_=>False)
 | .load t x=>(match evA n l x with
  | .ptr id off=>aY aw id fun o=>(match o with
   | .box cs=>wLd (tt.get t) cs off K
   | _=>False)
  | .elt row off=>wLd (tt.get t) row off K
  | _=>False)
 | .fieldAddr t x k=>(match tt.get t with
  | .ag _ _ fs=>aY fs k fun (o,_,_)=>(match evA n l x with
   | .ptr id off=>K (.ptr id (off+o))
   | .elt row off=>K (.elt row (off+o))
   | .aptr id s i off=>K (.aptr id s i (off+o))
   | _=>False)
  | _=>False)
 | .field t x k=>(match tt.get t,evA n l x with
  | .ag _ _ fs,.agg cs=>aY fs k fun (o,_,ft)=>wLd (tt.get ft) cs o K
  | _,_=>False)
 | .binOp op t x y _=>wBin tt op t (evA n l x) (evA n l y) K
 | .unOp op _ x=>(match op,evA n l x with
  | .not,.bool b=>K (.bool (!b))
  | .neg,.int k a=>K (.int k (k.wrap (0 - a)))
  | _,_=>False)
 | .convert s t x=>(match evA n l x with
  | .int _ a=>(match tt.get s,tt.get t with
   | .it _,.it k=>K (.int k (k.wrap a))
   | _,_=>False)
  | _=>False)
 | .makeFunc (.func f) first caps=>(match first.toList with
  | []=>evsC n l caps.toList fun cs=>K (.func f cs)
  | x::xs=>(match caps.toList with
   | []=>evsC n l (x::xs) fun cs=>K (.bnd f cs)
   | _=>False))
 | .build t parts=>(match tt.get t with
  | .ag z _ fs=>fillC n l fs z parts.toList fun cs=>K (.agg cs)
  | _=>False)
 | .extract x k=>(match evA n l x with
  | .tup vs=>aY vs k fun v=>fA v K
  | _=>False)
 | .nilCheck x=>(match evA n l x with
  | .ptr id off=>K (.ptr id off)
  | .elt row off=>K (.elt row off)
  | .aptr id s i off=>K (.aptr id s i off)
  | .func f cs=>K (.func f cs)
  | .bnd f cs=>K (.bnd f cs)
  | _=>False)
 | .call c=>(match c.callee with
  | .builtin b=>wB tt n l b c.args.toList c.argTypes.toList K
  | _=>False)
 | _=>False
theorem wV_ok {op:Op} {K:AV->Prop} (ht:tt.Ok P) (h:wV tt n l aw op K):vcQ P (mkA n l) aw op K:=by
 cases op with
 | move x=>exact bc rfl (cC h)
 | assign x=>exact uY rfl (cC h)
 | pick c a b =>
  simp only [wV] at h;split at h
  ·rename_i h1 h2 h3;exact kD h1 (by rw [h2,h3];rfl) h
  ·rename_i h1 h2 h3;split at h
   ·rename_i hk;have:=qk hk;simp_all [kD,pickV]
   grind
  grind
 | load t x =>
  simp only [wV] at h;split at h
  ·rename_i h1;obtain ⟨o,h2,h⟩:=aU h;split at h
   ·exact nJ h1 h2 (lU (TT.get_ok ht t) h)
   grind
  ·rename_i h1;exact cy h1 (lU (TT.get_ok ht t) h)
  grind
 | fieldAddr t x k =>
  simp only [wV] at h;have hu:=TT.get_ok ht t;split at h
  ·rename_i z m fs h0;rw [h0] at hu;obtain ⟨q,h1,h⟩:=aU h;have hF:=lW hu.2.2 h1;rw [AN] at hF;grind [jv,rR,rQ]
  grind
 | field t x k =>
  simp only [wV] at h;have hu:=TT.get_ok ht t;split at h
  ·rename_i z m fs cs h0 h2;rw [h0] at hu;obtain ⟨q,h1,h⟩:=aU h;have hF:=lW hu.2.2 h1;rw [AN] at hF;exact v7 hF h2 (lU (TT.get_ok ht _) h)
  grind
 | binOp op t x y yt =>
  have:=wh ht h;simp_all [vcQ,am]
 | unOp op t x =>
  simp only [wV] at h;grind [v_not,v_neg]
 | convert s t x =>
  simp only [wV] at h;split at h
  ·rename_i h1;have hu:=TT.get_ok ht t;have hs:=TT.get_ok ht s;split at h
   ·rename_i h2 h3;rw [h2] at hs;rw [h3] at hu;exact xk hs.2.2 hu.2.2 h1 h
   grind
  grind
 | makeFunc f first caps =>
  cases f with
  | func f =>
   simp only [wV] at h;split at h
   ·rename_i h1;have:first=#[]:=by grind
    subst this;exact sK rfl (iV h)
   ·rename_i x xs h1;split at h
    ·rename_i h2;have h3:first=(x::xs).toArray:=by grind
     have h4:caps=#[]:=by grind
     subst h3 h4;exact v_bnd rfl (iV h)
    grind
  | _=>exact h.elim
 | build t parts =>
  simp only [wV] at h;have hu:=TT.get_ok ht t;split at h
  ·rename_i z m fs h0;rw [h0] at hu;obtain ⟨cs,h1,h2⟩:=oM h;exact w4 hu.1.2.2.2.1 hu.2.1 h1 h2
  grind
 | extract x k =>
  simp only [wV] at h;split at h
  ·rename_i h1;obtain ⟨v,h2,h⟩:=aU h;grind [uv,cC]
  grind
 | nilCheck x =>
  simp only [wV] at h;grind [jW,tH,sT,sZ,uh]
 | call c =>
  obtain ⟨cal,as₀,ts⟩:=c;cases cal with
  | builtin b=>exact wB_ok ht h
  | _=>exact h.elim
 | _=>exact h.elim
theorem xb {op:Op} {K:AV->Prop} (h:wV tt n l aw op K):isQ (mkA n l) op=true:=by
 cases op with
 | load t x =>
  simp only [wV] at h;grind [isQ,am]
 | convert s t x =>
  simp only [wV] at h;grind [isQ,am]
 | call c =>
  obtain ⟨cal,as₀,ts⟩:=c;cases cal with
  | builtin b =>
   simp only [wV,wB] at h;split at h<;>first | rfl | exact h.elim
  | _=>exact h.elim
 | _=>first | rfl | exact h.elim
theorem OP.wV {o:Oper} {K:AV->List Ob->Prop} (ht:tt.Ok P) (h:wV tt n l aw o.op fun r=>K r aw):OP P N o (mkA n l) aw K:=by
 refine OP.of_vc ?_;have h1:=xb h;have h2:=wV_ok ht h;obtain ⟨d,op,ty,ps,af,g⟩:=o;have key:vcVal P (mkA n l) aw op K:=by simp_all [vcVal]
 cases op with
 | call c =>
  obtain ⟨cal,as₀,ts⟩:=c;cases cal with
  | builtin b=>exact key
  | _=>exact (show False from h).elim
 | _=>exact key
def wE (tt:TT) (n:Nat) (l:List (Nat × AV)) (aw:List Ob) (c:Nat) (op:Op) (K:AV->List Ob->Nat->Prop):Prop :=
  match op with
  | .alloc e=>(match (tt.get e).zero with
    | some z=>pushC aw (.box z) fun aw=>K (.ptr c 0) aw (c+1)
    | none=>False)
  | .box _ x=>i6 (evA n l x) fun cs=>pushC aw (.box cs) fun aw=>K (.ptr c 0) aw (c+1)
  | .store t x y=>(match evA n l x with
    | .ptr id off=>(match (tt.get t).size with
      | some m=>i6 (evA n l y) fun vs=>lenC vs m (aY aw id fun o=>(match o with
        | .box cs=>putC cs off vs fun cs=>setC aw id (.box cs) fun aw=>K .any aw c
        | _=>False))
      | none=>False)
    | _=>False)
  | op=>wV tt n l aw op fun r=>K r aw c
theorem OP.mono {o:Oper} {fr:List AV} {K K':AV->List Ob->Prop} (h:OP P N o fr aw K) (hm:∀ r aw',K r aw'->K' r aw'):OP P N o fr aw K' :=
 ⟨fun st h1 h2 σ w F a hc Kc Q hk=>h.out st h1 h2 σ w F a hc Kc Q fun r aw' σ' w' F' v hK=>hk r aw' σ' w' F' v (hm r aw' hK)⟩
theorem wE_ok {o:Oper} {c:Nat} {K:AV->List Ob->Nat->Prop} (ht:tt.Ok P) (hc:aw.length=c) (h:wE tt n l aw c o.op K):OP P N o (mkA n l) aw fun r aw'=>K r aw' aw'.length:=by
 obtain ⟨d,op,ty,ps,af,g⟩:=o;subst hc;have q:wV tt n l aw op (fun r=>K r aw aw.length)->OP P N ⟨d,op,ty,ps,af,g⟩ (mkA n l) aw fun r aw'=>K r aw' aw'.length:=fun h=>OP.wV ht h
 cases op with
 | alloc e =>
  simp only [wE] at h;split at h
  ·rename_i z hz;have:=gP h;exact wZ (TI.zero_ok (TT.get_ok ht e) hz) rfl rfl (by grind)
  grind
 | box e x =>
  obtain ⟨cs,h1,h2⟩:=lx h;have:=gP h2;simp_all [o_box]
 | store t x y =>
  simp only [wE] at h;split at h
  ·rename_i h1;split at h
   ·rename_i m hm;obtain ⟨vs,h2,h⟩:=lx h;obtain ⟨h3,h⟩:=lK h;obtain ⟨o,h4,h⟩:=aU h;split at h
    ·obtain ⟨h5,h⟩:=wM h;have h:=fS h;have hs:=TI.size_ok (TT.get_ok ht t) hm;exact sj hs.1 hs.2 h1 h2 h3 h4 (Nat.ble_eq_true_of_le (by omega)) rfl rfl (by grind [splice])
    grind
   grind
  grind
 | _=>exact q h
def wR (tt:TT) (n:Nat):Nat->List Oper->List (Nat × AV)->List Ob->Nat->(List Oper->List (Nat × AV)->List Ob->Prop)->Prop
 | 0,os,l,aw,_,K=>K os l aw
 | _+1,[],_,_,_,_=>False
 | m+1,o::os,l,aw,c,K=>(match o.guard with
  | none=>wE tt n l aw c o.op fun r aw c=>(match o.dst with
   | some t=>wR tt n m os ((t,r)::l) aw c K
   | none=>wR tt n m os l aw c K)
  | some _=>False)
theorem RS.go (ht:tt.Ok P) {ops:Array Oper} {K:List AV->List Ob->Prop}:∀ {m:Nat} {os:List Oper} {l:List (Nat × AV)} {aw:List Ob} {c:Nat},aw.length=c->wR tt n m os l aw c (fun os l aw=>RS P N ops os K (mkA n l) aw)->RS P N ops os K (mkA n l) aw
 | 0,os,l,aw,c,hc,h=>by assumption
 | _+1,[],_,_,_,_,h=>h.elim
 | m+1,o::os,l,aw,c,hc,h=>by
  simp only [wR] at h;split at h
  ·rename_i hg;refine RS.op hg ((wE_ok ht hc h).mono fun r aw' h=>?_);split at h
   ·rename_i t hd;rw [hd];exact RS.go ht rfl h
   ·rename_i hd;rw [hd];exact RS.go ht rfl h
  ·exact h.elim
def okQ (ops:Array Oper):Array Bool->List Nat->Bool
 | _,[]=>true
 | li,i::is=>Region.free .any ops li i && (Region.ready .any ops li).contains i && (match ops.toList[i]? with
  | some o=>ed o.op && o.guard.isNone
  | none=>false) && okQ ops (li.setIfInBounds i true) is
def lisQ:Array Bool->List Nat->Array Bool
 | li,[]=>li
 | li,i::is=>lisQ (li.setIfInBounds i true) is
def wQ (tt:TT) (n:Nat) (ops:List Oper):List Nat->List (Nat × AV)->List Ob->(List (Nat × AV)->Prop)->Prop
 | [],l,aw,K=>K l
 | i::is,l,aw,K=>aY ops i fun o=>wV tt n l aw o.op fun r=>(match o.dst with
  | some t=>wQ tt n ops is ((t,r)::l) aw K
  | none=>wQ tt n ops is l aw K)
theorem RA.qs (ht:tt.Ok P) {ops:Array Oper} {K:List AV->List Ob->Prop} (hs:Region.noSelect ops=true) {k':Nat}:∀ {is:List Nat} {k:Nat} {li:Array Bool} {l:List (Nat × AV)},k=k' + is.length->okQ ops li is=true ->
  wQ tt n ops.toList is l aw (fun l=>RA P N ops k' (lisQ li is) K (mkA n l) aw)->RA P N ops k li K (mkA n l) aw
 | [],k,li,l,hk,_,h=>by have:k=k':=hk;subst this;exact h
 | i::is,k,li,l,hk,ho,h=>by
  obtain ⟨o,h1,h⟩:=aU h;have h1':ops[i]?=some o:=by grind
  unfold okQ at ho;rw [h1] at ho;simp only [Az] at ho;obtain ⟨⟨⟨ho1,ho2⟩,ho3,ho4⟩,ho5⟩:=ho;have hg:o.guard=none:=by simp_all
  have hk:k=(k' + is.length)+1:=by omega
  subst hk;refine ⟨fun st e1 e2 σ w F a hc R hR=>?_⟩;obtain ⟨v,r,hrun,hrel,hk⟩:=gN hc ho3 (wV_ok ht h);refine wpAny_take h1' hs ho1 ho2 (fun c a w hp=>hp) (.inl ⟨by grind [Region.wanted],hrun⟩) ?_;have hput:=bv hc hrel o.dst;rw [bG] at hput;refine RA.out ?_ st e1 e2 σ w F _ hput R hR;split at hk
  ·rename_i t hd;rw [hd];exact RA.qs ht hs rfl ho5 hk
  ·rename_i hd;rw [hd];exact RA.qs ht hs rfl ho5 hk
theorem RO.g (ht:tt.Ok P) {ops:Array Oper} {i c:Nat} {K:List AV->List Ob->Prop} (hc:aw.length=c)
  (h:aY ops.toList i fun o=>o.guard=none/\wE tt n l aw c o.op fun r aw c=>(match o.dst with
   | some t=>K (mkA n ((t,r)::l)) aw
   | none=>K (mkA n l) aw)):RO P N ops i K (mkA n l) aw:=by
 obtain ⟨o,h1,hg,h⟩:=aU h
 refine RO.op (by grind) hg ((wE_ok ht hc h).mono fun r aw' h=>?_)
 split at h
 ·rename_i t hd
  rw [hd];exact h
 ·rename_i hd
  rw [hd];exact h
end
end
section
open Go.RowKit
instance (a:Item):PureCs (cM a):=⟨eW a⟩
instance (a:Node):PureCs (aa a):=⟨jQ a⟩
instance (a:Net):PureCs (aG a):=⟨pg a⟩
instance (a:Keyed):PureCs (e8 a):=⟨lg a⟩
instance (a:Memory):PureCs (eX a):=⟨jF a⟩
instance (a:Choice):PureCs (d7 a):=⟨jE a⟩
instance (a:State):PureCs (gQ a):=⟨nK a⟩
instance (a:Move):PureCs (fW a):=⟨n7 a⟩
instance (a:Write):PureCs (d9 a):=⟨jH a⟩
instance (a:Disk):PureCs (gZ a):=⟨ob a⟩
instance (a:Shop):PureCs (gV a):=⟨oe a⟩
instance (a:Happening):PureCs (fH a):=⟨m9 a⟩
instance (a:Ends):PureCs (aF a):=⟨n6 a⟩
instance {f:FuncId} {cs:List AV} [h:PureCs cs]:PureC (.func f cs):=⟨tX _ _ h.out⟩
instance {α:Type} {en:α->List AV} {a:α} {off:Nat} [h:EnP en]:PureC (.elt (en a) off):=⟨oJ _ _ (h.out a)⟩
class EnF {α:Type} (en:α->List AV):Prop where
 out:∀ a,(en a).all flat0=true
instance:EnF aj:=⟨fun _=>rfl⟩
instance:EnF bb:=⟨fun _=>rfl⟩
instance:EnF encU:=⟨fun _=>rfl⟩
instance:EnF bE:=⟨fun _=>rfl⟩
instance:EnF ab:=⟨fun _=>rfl⟩
instance:EnF cM:=⟨fun _=>rfl⟩
instance:EnF e8:=⟨fun _=>rfl⟩
instance:EnF d7:=⟨fun _=>rfl⟩
instance:EnF fW:=⟨fun _=>rfl⟩
instance:EnF d9:=⟨fun _=>rfl⟩
instance:EnF fH:=⟨fun _=>rfl⟩
instance:EnF aF:=⟨fun _=>rfl⟩
class FlatObs (os:List Ob):Prop where
 out:os.all b7=true
instance:FlatObs []:=⟨rfl⟩
instance {α:Type} {en:α->List AV} {xs:List α} {e s:Nat} {os:List Ob} [h:EnF en] [t:FlatObs os]:FlatObs (.arr e s (xs.map en)::os):=⟨uG (tq h.out) t.out⟩
class OwnVs (vs:List AV):Prop where
 out:∀ x,x∈vs->Pure x∨∃ k,x=.ref k
instance:OwnVs []:=⟨fun x h=>by cases h⟩
instance {k:Nat} {vs:List AV} [t:OwnVs vs]:OwnVs (.ref k::vs):=⟨fun x h=>by
 cases h with
 | head=>simp
 | tail _ h=>exact t.out x h⟩
instance (priority:=low) {v:AV} {vs:List AV} [h:PureC v] [t:OwnVs vs]:OwnVs (v::vs):=⟨fun x hx=>by
 cases hx with
 | head=>exact .inl h.out
 | tail _ hx=>exact t.out x hx⟩
theorem j7:∀ {es:List AV},(∀ a,a∈es->Pure a)->Pures es
 | [],_=>trivial
 | a::es,h=>⟨h a (.head _),j7 fun b hb=>h b (.tail _ hb)⟩
section
variable {P:Program} {N n:Nat} {aw aw':List Ob} {l:List (Nat × AV)} {tt:TT}
def appC {α:Type}:List α->List α->(List α->Prop)->Prop
 | [],bs,K=>K bs
 | a::l,bs,K=>appC l bs fun l=>K (a::l)
theorem kk {α:Type}:∀ {l bs:List α} {K:List α->Prop},appC l bs K->K (l++bs)
 | [],_,_,h=>h
 | a::l,bs,K,h=>kk (l:=l) (K:=fun l=>K (a::l)) h
def nrm0C (aw:List Ob) (a:AV) (K:AV->List Ob->Prop):Prop :=
 match a with
 | .nils=>K (.sl []) aw
 | .ref id=>aY aw id fun o=>(match o with
  | .arr _ _ rows=>setC aw id .dead fun aw=>K (.sl rows) aw
  | _=>False)
 | a=>fA a fun a=>K a aw
theorem oG {a:AV} {K:AV->List Ob->Prop} (h:nrm0C aw a K):K (bB aw a).1 (bB aw a).2:=by
 cases a with
 | nils=>exact h
 | ref id =>
  obtain ⟨o,h1,h⟩:=aU h;grind [fS,bB]
 | _=>exact h
def nrm0LC:List AV->List Ob->(List AV->List Ob->Prop)->Prop
 | [],aw,K=>K [] aw
 | a::es,aw,K=>nrm0C aw a fun a aw=>nrm0LC es aw fun es aw=>K (a::es) aw
theorem n9:∀ {es:List AV} {aw:List Ob} {K:List AV->List Ob->Prop},nrm0LC es aw K->K (norm0L aw es).1 (norm0L aw es).2
 | [],aw,K,h=>h
 | a::es,aw,K,h=>n9 (es:=es) (K:=fun es aw=>K (_::es) aw) (oG h)
def nrmC (aw:List Ob) (a:AV) (K:AV->List Ob->Prop):Prop :=
 match a with
 | .agg cs=>nrm0LC cs aw fun cs aw=>K (.agg cs) aw
 | a=>nrm0C aw a K
theorem lO {a:AV} {K:AV->List Ob->Prop} (h:nrmC aw a K):K (norm aw a).1 (norm aw a).2:=by
 cases a with
 | agg cs=>exact n9 (K:=fun cs aw=>K (.agg cs) aw) h
 | _=>exact oG h
def nrmLC:List AV->List Ob->(List AV->List Ob->Prop)->Prop
 | [],aw,K=>K [] aw
 | a::es,aw,K=>nrmC aw a fun a aw=>nrmLC es aw fun es aw=>K (a::es) aw
theorem oI:∀ {es:List AV} {aw:List Ob} {K:List AV->List Ob->Prop},nrmLC es aw K->K (bA aw es).1 (bA aw es).2
 | [],aw,K,h=>h
 | a::es,aw,K,h=>oI (es:=es) (K:=fun es aw=>K (_::es) aw) (lO h)
def nrmRC (aw:List Ob) (a:AV) (K:AV->List Ob->Prop):Prop :=
 match a with
 | .tup vs=>nrmLC vs aw fun vs aw=>K (.tup vs) aw
 | a=>nrmC aw a K
theorem pr {a:AV} {K:AV->List Ob->Prop} (h:nrmRC aw a K):K (dh aw a).1 (dh aw a).2:=by
 cases a with
 | tup vs=>exact oI (K:=fun vs aw=>K (.tup vs) aw) h
 | _=>exact lO h
def argC (n:Nat) (l:List (Nat × AV)):List Operand->List Ob->(List AV->List Ob->Prop)->Prop
 | [],aw,K=>K [] aw
 | x::xs,aw,K=>nrmC aw (evA n l x) fun a aw=>argC n l xs aw fun es aw=>K (a::es) aw
theorem p6:∀ {xs:List Operand} {aw:List Ob} {K:List AV->List Ob->Prop},argC n l xs aw K->K (bA aw (xs.map (evA n l))).1 (bA aw (xs.map (evA n l))).2
 | [],aw,K,h=>h
 | x::xs,aw,K,h=>p6 (xs:=xs) (K:=fun es aw=>K (_::es) aw) (lO h)
def calC (n:Nat) (l:List (Nat × AV)) (aw:List Ob) (f:Operand) (args:List Operand) (g:Nat) (es:List AV) (K:List Ob->Prop):Prop :=
 match evA n l f with
 | .func g' caps=>(match Nat.beq g' g with
  | true=>argC n l args aw fun es' aw'=>es'++caps=es/\K aw'
  | false=>False)
 | _=>False
section
variable {d:Option Tmp} {ty:TypeId} {ps:String} {af:Array Edge} {gd:Option (Nat × Bool)} {K2:AV→List Ob→Prop} {f:Operand} {args:Array Operand} {ts:Array TypeId} {g:FuncId} {es:List AV} {v:AV} {obs:List Ob}
theorem lm {K:List Ob->Prop} (h:calC n l aw f args.toList g es K) (hk:∀ aw1,K aw1->CallK P g es aw aw1 K2):OP P N ⟨d,.call ⟨.value f,args,ts⟩,ty,ps,af,gd⟩ (mkA n l) aw K2:=by
 unfold calC at h;split at h
 ·rename_i g' caps hf;split at h
  ·rename_i hb;have:=Al hb;subst this;obtain ⟨h1,h2⟩:=p6 h;grind [xl]
  grind
 grind
theorem cD (hc:Fn P g es v) (h:calC n l aw f args.toList g es fun aw1=>K2 v aw1) [hp:PureCs es] [hv:PureC v]:OP P N ⟨d,.call ⟨.value f,args,ts⟩,ty,ps,af,gd⟩ (mkA n l) aw K2 :=
 lm h fun aw1 hK=>k_fn hc (j7 hp.out) hv.out hK
theorem cF (hc:Fn P g es v) (h:calC n l aw f args.toList g es fun _=>K2 v aw) [hp:PureCs es] (hv:flat v=true:=by rfl):OP P N ⟨d,.call ⟨.value f,args,ts⟩,ty,ps,af,gd⟩ (mkA n l) aw K2 :=
 lm h fun aw1 hK=>xC hc (j7 hp.out) hv hK
theorem cO (c:Nat) (hc:FnO P g es v obs) (h:calC n l aw f args.toList g es fun _=>fA (v.shift c) fun v=>appC aw obs fun aw=>K2 v aw) [hp:PureCs es] [ho:FlatObs obs] (hv:flatR v=true:=by rfl) (hl:aw.length=c:=by rfl) :
  OP P N ⟨d,.call ⟨.value f,args,ts⟩,ty,ps,af,gd⟩ (mkA n l) aw K2 :=
 lm h fun aw1 hK=>by subst hl;exact k_own hc (j7 hp.out) hv ho.out (kk (cC (K:=fun v=>appC aw obs fun aw=>K2 v aw) hK))
end
theorem ld_ex {t:Nat} {i:TI} {row:List AV} {off:Nat} {K:AV->Prop} (ht:TOk P t i) (h:wLd i row off K):∃ v,K v/\∀ K':AV->Prop,K' v->aV P t row off K':=by
 have kA:∀ {m:Nat},bM P t=some true->P.cellsOf t=m->(aggC row off m fun cs=>K (.agg cs))->∃ v,K v/\∀ K':AV->Prop,K' v->aV P t row off K':=fun {m} hk hm h=>by obtain ⟨h1,h2⟩:=pX h;grind [aV]
 have k1:bM P t=some false->(aY row off fun c=>fA c K)->∃ v,K v/\∀ K':AV->Prop,K' v->aV P t row off K':=fun hk h=>by grind [aU,cC,ai]
 cases i with
 | no=>exact h.elim
 | ag z m fs=>exact kA ht.1.1 ht.1.2.1 h
 | ar z m=>exact kA ht.1 ht.2.1 h
 | s0=>exact k1 ht.1 h
 | _=>exact k1 ht.1.1 h
def resC (tt:TT) (n:Nat) (l:List (Nat × AV)) (aw:List Ob):List ResultVar->(List AV->Prop)->Prop
 | [],K=>K []
 | .tmp t::rs,K=>fA (evA n l (.tmp t)) fun v=>resC tt n l aw rs fun vs=>K (v::vs)
 | .cell a t::rs,K=>(match evA n l (.tmp a) with
  | .ptr id off=>aY aw id fun o=>(match o with
   | .box cs=>wLd (tt.get t) cs off fun v=>resC tt n l aw rs fun vs=>K (v::vs)
   | _=>False)
  | _=>False)
theorem iS (ht:tt.Ok P):∀ {rs:List ResultVar} {K K':List AV->Prop},(∀ vs,K vs->K' vs)->resC tt n l aw rs K->aT P (mkA n l) aw rs K'
 | [],K,K',hm,h=>uQ (hm _ h)
 | .tmp t::rs,K,K',hm,h=>uO rfl (iS ht (K:=fun vs=>K (_::vs)) (fun vs hv=>hm _ hv) (cC h))
 | .cell a t::rs,K,K',hm,h=>by
  unfold resC at h;split at h
  ·rename_i h1;obtain ⟨o,h2,h⟩:=aU h;split at h
   ·obtain ⟨v,h3,h4⟩:=ld_ex (TT.get_ok ht t) h;exact tG h1 h2 h4 (iS ht (K:=fun vs=>K (v::vs)) (fun vs hv=>hm _ hv) h3)
   grind
  grind
theorem rD_c (ht:tt.Ok P) {rs:List ResultVar} {V:AV} (h:resC tt n l aw rs fun vs=>nrmRC aw (bl vs) fun v _=>v=V) [hV:PureC V]:aT P (mkA n l) aw rs (Ret 0 (fun r aw'=>r=V/\aw'=[]) aw):=by refine iS ht (fun vs hv=>?_) h;have h1:=pr hv;exact vh (v:=V) (aw1:=(dh aw (bl vs)).2) (by rw [<- h1]) hV.out ⟨rfl,rfl⟩
theorem T.rD (ht:tt.Ok P) {Q:Exit->List AV->List Ob->Prop} {rs:List ResultVar} {V:AV} (h:resC tt n l aw rs fun vs=>nrmRC aw (bl vs) fun v _=>v=V)
  [hq:RetI Q (fun fr aw=>aT P fr aw rs (Ret 0 (fun r aw'=>r=V/\aw'=[]) aw))] [hV:PureC V]:T P N .ret Q (mkA n l) aw :=
 T.rt (R:=fun fr aw=>aT P fr aw rs (Ret 0 (fun r aw'=>r=V/\aw'=[]) aw)) (rD_c ht h)
def gA:Nat->AV->Prop
 | k,a=>match a with
  | .sl rows=>Pure (.sl rows)
  | .elt row off=>Pure (.elt row off)
  | .cst _ | .vw _ _ _ _ _ | .ref2 _ | .aptr2 _ _ | .ifc _ _=>False
  | .agg cs=>(match k with
   | 0=>False
   | k+1=>∀ c,c∈cs->gA k c)
  | .tup cs=>(match k with
   | 0=>False
   | k+1=>∀ c,c∈cs->gA k c)
  | .func _ cs=>(match k with
   | 0=>False
   | k+1=>∀ c,c∈cs->gA k c)
  | .bnd _ cs=>(match k with
   | 0=>False
   | k+1=>∀ c,c∈cs->gA k c)
  | _=>True
class GoodA (k:Nat) (a:AV):Prop where
 out:gA k a
class GoodAs (k:Nat) (es:List AV):Prop where
 out:∀ a,a∈es->gA k a
section
variable {k:Nat}
instance:GoodA k .any:=⟨by unfold gA;trivial⟩
instance {q:IntKind} {x:Int}:GoodA k (.int q x):=⟨by unfold gA;trivial⟩
instance {b:Bool}:GoodA k (.bool b):=⟨by unfold gA;trivial⟩
instance {s:List UInt8}:GoodA k (.str s):=⟨by unfold gA;trivial⟩
instance:GoodA k .nils:=⟨by unfold gA;trivial⟩
instance:GoodA k .nilf:=⟨by unfold gA;trivial⟩
instance:GoodA k .nilp:=⟨by unfold gA;trivial⟩
instance:GoodA k .nili:=⟨by unfold gA;trivial⟩
instance {i:Nat}:GoodA k (.ref i):=⟨by unfold gA;trivial⟩
instance {i o:Nat}:GoodA k (.ptr i o):=⟨by unfold gA;trivial⟩
instance {i s j o:Nat}:GoodA k (.aptr i s j o):=⟨by unfold gA;trivial⟩
instance {i:Nat}:GoodA k (.mpr i):=⟨by unfold gA;trivial⟩
instance {i:Nat}:GoodA k (.np i):=⟨by unfold gA;trivial⟩
instance {i j:Nat}:GoodA k (.iref i j):=⟨by unfold gA;trivial⟩
instance {α:Type} {en:α->List AV} {xs:List α} [h:EnP en]:GoodA k (.sl (xs.map en)):=⟨by unfold gA;exact aC h.out _⟩
instance {α:Type} {en:α->List AV} {a:α} {off:Nat} [h:EnP en]:GoodA k (.elt (en a) off):=⟨by unfold gA;exact oJ _ _ (h.out a)⟩
instance:GoodAs k []:=⟨fun a h=>by cases h⟩
instance {a:AV} {es:List AV} [h:GoodA k a] [t:GoodAs k es]:GoodAs k (a::es):=⟨fun b hb=>by
 cases hb with
 | head=>exact h.out
 | tail _ hb=>exact t.out b hb⟩
instance {es:List AV} [h:GoodAs k es]:GoodA (k+1) (.agg es):=⟨by unfold gA;exact h.out⟩
instance {es:List AV} [h:GoodAs k es]:GoodA (k+1) (.tup es):=⟨by unfold gA;exact h.out⟩
instance {f:FuncId} {es:List AV} [h:GoodAs k es]:GoodA (k+1) (.func f es):=⟨by unfold gA;exact h.out⟩
instance {f:FuncId} {es:List AV} [h:GoodAs k es]:GoodA (k+1) (.bnd f es):=⟨by unfold gA;exact h.out⟩
instance (a:Item):GoodAs k (cM a):=by unfold cM;infer_instance
instance (a:Node):GoodAs k (aa a):=by unfold aa;infer_instance
instance (a:Net):GoodAs k (aG a):=by unfold aG;infer_instance
instance (a:Keyed):GoodAs k (e8 a):=by unfold e8;infer_instance
instance (a:Memory):GoodAs k (eX a):=by unfold eX;infer_instance
instance (a:Choice):GoodAs k (d7 a):=by unfold d7;infer_instance
instance (a:State):GoodAs k (gQ a):=by unfold gQ;infer_instance
instance (a:Move):GoodAs k (fW a):=by unfold fW;infer_instance
instance (a:Write):GoodAs k (d9 a):=by unfold d9;infer_instance
instance (a:Disk):GoodAs k (gZ a):=by unfold gZ;infer_instance
instance (a:Shop):GoodAs k (gV a):=by unfold gV;infer_instance
instance (a:Happening):GoodAs k (fH a):=by unfold fH;infer_instance
instance (a:Ends):GoodAs k (aF a):=by unfold aF;infer_instance
end
theorem oV {ρ:List Nat} {k id i:Nat} (h:ρ[k]?=some id):Ren ρ (.iref k i) (.iref id i):=fun σ w F v hr σ' hσ=>by
 cases hr with
 | iref _ _ a n c vs hg h0=>exact .iref k i a n c vs (by grind) h0
theorem jP:Pure .nilp:=fun σ w F v hr σ'=>by cases hr;exact .nilp
theorem jN:Pure .nili:=fun σ w F v hr σ'=>by cases hr;exact .nili
def mpC (f:AV->AV->(AV->Prop)->Prop):List AV->List AV->(List AV->Prop)->Prop
 | [],_,K=>K []
 | a'::es',es,K=>(match es with
  | []=>False
  | a::es=>f a' a fun b=>mpC f es' es fun bs=>K (b::bs))
def mpA (ρ:List Nat):Nat->AV->AV->(AV->Prop)->Prop
 | k,a',a,K=>match a' with
  | .any=>K a
  | .ref i=>aY ρ i fun i=>K (.ref i)
  | .ptr i o=>aY ρ i fun i=>K (.ptr i o)
  | .aptr i s j o=>aY ρ i fun i=>K (.aptr i s j o)
  | .mpr i=>aY ρ i fun i=>K (.mpr i)
  | .np i=>aY ρ i fun i=>K (.np i)
  | .iref i j=>aY ρ i fun i=>K (.iref i j)
  | .agg cs=>(match k with
   | 0=>False
   | k+1=>(match a with
    | .agg ds=>mpC (mpA ρ k) cs ds fun cs=>K (.agg cs)
    | _=>False))
  | .tup cs=>(match k with
   | 0=>False
   | k+1=>(match a with
    | .tup ds=>mpC (mpA ρ k) cs ds fun cs=>K (.tup cs)
    | _=>False))
  | .func f cs=>(match k with
   | 0=>False
   | k+1=>(match a with
    | .func _ ds=>mpC (mpA ρ k) cs ds fun cs=>K (.func f cs)
    | _=>False))
  | .bnd f cs=>(match k with
   | 0=>False
   | k+1=>(match a with
    | .bnd _ ds=>mpC (mpA ρ k) cs ds fun cs=>K (.bnd f cs)
    | _=>False))
  | a'=>fA a' K
theorem eo {ρ:List Nat} {k:Nat} (ih:∀ {a' a:AV} {K:AV->Prop},mpA ρ k a' a K->∃ b,K b/\(gA k a'->b=a->Ren ρ a' a)):∀ {es' es:List AV} {K:List AV->Prop},mpC (mpA ρ k) es' es K ->
  ∃ bs,K bs/\((∀ a,a∈es'->gA k a)->bs=es->bd ρ es' es)
 | [],es,K,h=>⟨[],h,fun _ e=>by subst e;trivial⟩
 | a'::es',[],K,h=>h.elim
 | a'::es',a::es,K,h=>by
  obtain ⟨b,h1,h2⟩:=ih h;obtain ⟨bs,h3,h4⟩:=eo ih h1;refine ⟨b::bs,h3,fun hg e=>?_⟩;injection e with e1 e2
  exact ⟨h2 (hg _ (.head _)) e1,h4 (fun x hx=>hg x (.tail _ hx)) e2⟩
theorem fZ {ρ:List Nat}:∀ {k:Nat} {a' a:AV} {K:AV->Prop},mpA ρ k a' a K->∃ b,K b/\(gA k a'->b=a->Ren ρ a' a):=by
 intro k;induction k with
 | zero =>
  intro a' a K h;cases a' with
  | any=>exact ⟨a,h,fun _ _=>fY⟩
  | ref i=>obtain ⟨j,h1,h2⟩:=aU h;grind [fe]
  | ptr i o=>obtain ⟨j,h1,h2⟩:=aU h;grind [cQ]
  | aptr i s j o=>obtain ⟨j,h1,h2⟩:=aU h;grind [pF]
  | mpr i=>obtain ⟨j,h1,h2⟩:=aU h;grind [qj]
  | np i=>obtain ⟨j,h1,h2⟩:=aU h;grind [rn_np]
  | iref i j=>obtain ⟨j,h1,h2⟩:=aU h;grind [oV]
  | agg cs=>exact h.elim
  | tup cs=>exact h.elim
  | func f cs=>exact h.elim
  | bnd f cs=>exact h.elim
  | int q x=>exact ⟨_,h,fun _ e=>by grind [bP,an]⟩
  | bool b=>exact ⟨_,h,fun _ e=>by grind [bP,cz]⟩
  | str s=>exact ⟨_,h,fun _ e=>by grind [bP,ea]⟩
  | nils=>exact ⟨_,h,fun _ e=>by grind [bP,iG]⟩
  | nilf=>exact ⟨_,h,fun _ e=>by grind [bP,iJ]⟩
  | nilp=>exact ⟨_,h,fun _ e=>by grind [bP,jP]⟩
  | nili=>exact ⟨_,h,fun _ e=>by grind [bP,jN]⟩
  | sl rows=>exact ⟨_,h,fun g e=>by grind [bP,gA]⟩
  | elt row off=>exact ⟨_,h,fun g e=>by grind [bP,gA]⟩
  | cst v=>exact ⟨_,h,fun g e=>by grind [gA]⟩
  | vw a1 a2 a3 a4 a5=>exact ⟨_,h,fun g e=>by grind [gA]⟩
  | ref2 i=>exact ⟨_,h,fun g e=>by grind [gA]⟩
  | aptr2 i j=>exact ⟨_,h,fun g e=>by grind [gA]⟩
  | ifc t a1=>exact ⟨_,h,fun g e=>by grind [gA]⟩
 | succ k ih =>
  intro a' a K h;cases a' with
  | any=>exact ⟨a,h,fun _ _=>fY⟩
  | ref i=>obtain ⟨j,h1,h2⟩:=aU h;grind [fe]
  | ptr i o=>obtain ⟨j,h1,h2⟩:=aU h;grind [cQ]
  | aptr i s j o=>obtain ⟨j,h1,h2⟩:=aU h;grind [pF]
  | mpr i=>obtain ⟨j,h1,h2⟩:=aU h;grind [qj]
  | np i=>obtain ⟨j,h1,h2⟩:=aU h;grind [rn_np]
  | iref i j=>obtain ⟨j,h1,h2⟩:=aU h;grind [oV]
  | agg cs =>
   cases a with
   | agg ds =>
    obtain ⟨bs,h1,h2⟩:=eo (ρ:=ρ) ih h;grind [xm,gA]
   | _=>exact h.elim
  | tup cs =>
   cases a with
   | tup ds =>
    obtain ⟨bs,h1,h2⟩:=eo (ρ:=ρ) ih h;grind [xd,gA]
   | _=>exact h.elim
  | func f cs =>
   cases a with
   | func f' ds =>
    obtain ⟨bs,h1,h2⟩:=eo (ρ:=ρ) ih h;grind [wW,gA]
   | _=>exact h.elim
  | bnd f cs =>
   cases a with
   | bnd f' ds =>
    obtain ⟨bs,h1,h2⟩:=eo (ρ:=ρ) ih h;grind [xu,gA]
   | _=>exact h.elim
  | int q x=>exact ⟨_,h,fun _ e=>by grind [bP,an]⟩
  | bool b=>exact ⟨_,h,fun _ e=>by grind [bP,cz]⟩
  | str s=>exact ⟨_,h,fun _ e=>by grind [bP,ea]⟩
  | nils=>exact ⟨_,h,fun _ e=>by grind [bP,iG]⟩
  | nilf=>exact ⟨_,h,fun _ e=>by grind [bP,iJ]⟩
  | nilp=>exact ⟨_,h,fun _ e=>by grind [bP,jP]⟩
  | nili=>exact ⟨_,h,fun _ e=>by grind [bP,jN]⟩
  | sl rows=>exact ⟨_,h,fun g e=>by grind [bP,gA]⟩
  | elt row off=>exact ⟨_,h,fun g e=>by grind [bP,gA]⟩
  | cst v=>exact ⟨_,h,fun g e=>by grind [gA]⟩
  | vw a1 a2 a3 a4 a5=>exact ⟨_,h,fun g e=>by grind [gA]⟩
  | ref2 i=>exact ⟨_,h,fun g e=>by grind [gA]⟩
  | aptr2 i j=>exact ⟨_,h,fun g e=>by grind [gA]⟩
  | ifc t a1=>exact ⟨_,h,fun g e=>by grind [gA]⟩
def gO:Ob->Prop
 | .dead=>True
 | .box cs=>∀ c,c∈cs->gA 3 c
 | .arr _ _ rows=>∀ row,row∈rows->∀ x,x∈row->Pure x
 | .mp ks vs=>∀ c,c∈ks++vs->Pure c
 | .hd _ _=>True
 | .cl _ _ cells=>∀ rows,(Cell.own rows∈cells∨Cell.fz rows∈cells)->∀ row,row∈rows->∀ x,x∈row->Pure x
 | .boxB _ cs=>∀ c,c∈cs->gA 3 c
 | _=>False
class PureK {α:Type} (k:α->AV):Prop where
 out:∀ a,Pure (k a)
instance:PureK kI:=⟨fun _=>an _ _⟩
instance:PureK kS:=⟨fun _=>ea _⟩
instance:PureK kB:=⟨fun _=>cz _⟩
instance:PureK kU:=⟨fun _=>oH _ (bn (ls:=[]) trivial)⟩
class GoodO (o:Ob):Prop where
 out:gO o
class GoodOs (os:List Ob):Prop where
 out:∀ o,o∈os->gO o
instance:GoodO .dead:=⟨trivial⟩
instance {cs:List AV} [h:GoodAs 3 cs]:GoodO (.box cs):=⟨h.out⟩
instance {α:Type} {en:α->List AV} {xs:List α} {e s:Nat} [h:EnP en]:GoodO (.arr e s (xs.map en)):=⟨fun row hr x hx=>by obtain ⟨a,_,rfl⟩:=Am.1 hr;exact h.out a x hx⟩
instance {e s:Nat}:GoodO (.arr e s []):=⟨fun row hr=>by cases hr⟩
instance {e k:Nat}:GoodO (.hd e k):=⟨trivial⟩
instance {t:TypeId} {cs:List AV} [h:GoodAs 3 cs]:GoodO (.boxB t cs):=⟨h.out⟩
instance {α β:Type} {k:α->AV} {k':β->AV} {xs:List α} {ys:List β} [h:PureK k] [h':PureK k']:GoodO (.mp (xs.map k) (ys.map k')):=⟨fun c hc=>by
 rcases Ah.1 hc with hc | hc<;>obtain ⟨a,_,rfl⟩:=Am.1 hc
 ·exact h.out a
 ·exact h'.out a⟩
instance:GoodOs []:=⟨fun o h=>by cases h⟩
instance {o:Ob} {os:List Ob} [h:GoodO o] [t:GoodOs os]:GoodOs (o::os):=⟨fun b hb=>by
 cases hb with
 | head=>exact h.out
 | tail _ hb=>exact t.out b hb⟩
instance {zs bs:List Ob} [h:GoodOs zs] [t:GoodOs bs]:GoodOs (zs++bs):=⟨fun o ho=>(Ah.1 ho).elim (h.out o) (t.out o)⟩
instance {zs:List Ob} {i:Nat} {o:Ob} [h:GoodOs zs] [t:GoodO o]:GoodOs (zs.set i o):=⟨fun b hb=>(List.mem_or_eq_of_mem_set hb).elim (h.out b) (fun e=>by rw [e];exact t.out)⟩
def mpO (ρ:List Nat) (o' o:Ob) (K:Ob->Prop):Prop :=
 match o' with
 | .dead=>K o
 | .box cs=>(match o with
  | .box ds=>mpC (mpA ρ 3) cs ds fun cs=>K (.box cs)
  | _=>False)
 | .hd e k=>aY ρ k fun k=>K (.hd e k)
 | .arr e s rows=>K (.arr e s rows)
 | .mp ks vs=>K (.mp ks vs)
 | .cl e s cells=>K (.cl e s cells)
 | .boxB t cs=>(match o with
  | .boxB _ ds=>mpC (mpA ρ 3) cs ds fun cs=>K (.boxB t cs)
  | _=>False)
 | _=>False
def mpOs (ρ:List Nat) (aw:List Ob):List Nat->List Ob->(List Ob->List Ob->Prop)->Prop
 | [],[],K=>K [] []
 | id::ids,o'::os',K=>aY aw id fun o=>mpO ρ o' o fun b=>mpOs ρ aw ids os' fun bs os=>K (b::bs) (o::os)
 | _,_,_=>False
theorem xn {ρ:List Nat} {o' o:Ob} {K:Ob->Prop} (h:mpO ρ o' o K):∃ b,K b/\(gO o'->b=o->RenO ρ o' o):=by
 cases o' with
 | dead=>exact ⟨o,h,fun _ _=>trivial⟩
 | box cs =>
  cases o with
  | box ds =>
   obtain ⟨bs,h1,h2⟩:=eo (ρ:=ρ) fZ h;exact ⟨_,h1,fun g e=>by injection e with e;exact h2 g e⟩
  | _=>exact h.elim
 | hd e k =>
  obtain ⟨j,h1,h2⟩:=aU h;exact ⟨_,h2,fun _ e=>by subst e;exact ⟨rfl,h1⟩⟩
 | arr e s rows=>exact ⟨_,h,fun g e=>by subst e;exact ⟨rfl,rfl,rfl,fun row hr x hx=>dr (g row hr x hx)⟩⟩
 | mp ks vs=>exact ⟨_,h,fun g e=>by subst e;exact ⟨lj fun c hc=>g c (List.mem_append_left _ hc),lj fun c hc=>g c (List.mem_append_right _ hc)⟩⟩
 | cl e s cells=>exact ⟨_,h,fun g e=>by subst e;exact ⟨rfl,rfl,rfl,g⟩⟩
 | arrU e s rows x=>exact h.elim
 | boxB t cs =>
  cases o with
  | boxB t' ds =>
   obtain ⟨bs,h1,h2⟩:=eo (ρ:=ρ) fZ h;exact ⟨_,h1,fun g e=>by injection e with e0 e;exact ⟨e0,h2 g e⟩⟩
  | _=>exact h.elim
theorem gU {ρ:List Nat}:∀ {ids:List Nat} {os':List Ob} {K:List Ob->List Ob->Prop},mpOs ρ aw ids os' K->∃ bs os,K bs os/\((∀ o,o∈os'->gO o)->bs=os->ba ρ aw ids os')
 | [],[],K,h=>⟨[],[],h,fun _ _=>trivial⟩
 | id::ids,o'::os',K,h=>by
  obtain ⟨o,h1,h⟩:=aU h;obtain ⟨b,h2,h3⟩:=xn h;obtain ⟨bs,os,h4,h5⟩:=gU h2;refine ⟨b::bs,o::os,h4,fun hg e=>?_⟩;injection e with e1 e2
  exact ⟨⟨o,h1,h3 (hg _ (.head _)) e1⟩,h5 (fun x hx=>hg x (.tail _ hx)) e2⟩
 | [],_::_,K,h=>h.elim
 | _::_,[],K,h=>h.elim
def mpF (ρ:List Nat):List (Nat × AV)->List (Nat × AV)->(List AV->List AV->Prop)->Prop
 | [],_,K=>K [] []
 | (s,v)::r,l,K=>fA (lkA l s) fun a=>mpA ρ 3 v a fun b=>mpF ρ r l fun bs es=>K (b::bs) (a::es)
class GoodF (l:List (Nat × AV)):Prop where
 out:∀ s v,(s,v)∈l->gA 3 v
instance:GoodF []:=⟨fun s v h=>by cases h⟩
instance {s:Nat} {v:AV} {r:List (Nat × AV)} [h:GoodA 3 v] [t:GoodF r]:GoodF ((s,v)::r):=⟨fun s' v' hb=>by
 cases hb with
 | head=>exact h.out
 | tail _ hb=>exact t.out s' v' hb⟩
theorem qF {ρ:List Nat}:∀ {l' l:List (Nat × AV)} {K:List AV->List AV->Prop},mpF ρ l' l K->∃ bs es,K bs es/\((∀ s v,(s,v)∈l'->gA 3 v)->bs=es->RenA ρ l' l)
 | [],l,K,h=>⟨[],[],h,fun _ _=>trivial⟩
 | (s,v)::r,l,K,h=>by
  have h:=cC (a:=lkA l s) (K:=fun a=>mpA ρ 3 v a fun b=>mpF ρ r l fun bs es=>K (b::bs) (a::es)) h;obtain ⟨b,h1,h2⟩:=fZ h;obtain ⟨bs,es,h3,h4⟩:=qF h1;refine ⟨b::bs,lkA l s::es,h3,fun hg e=>?_⟩;injection e with e1 e2
  exact ⟨h2 (hg _ _ (.head _)) e1,h4 (fun s v hv=>hg s v (.tail _ hv)) e2⟩
def nilC:List (Nat × TypeId × Nat)->List (Nat × AV)->List Ob->Nat->(List (Nat × AV)->List Ob->Prop)->Prop
 | [],l,aw,_,K=>K l aw
 | (s,e,z)::r,l,aw,c,K=>(match lkA l s with
  | .nils=>pushC aw (.arr e z []) fun aw=>nilC r ((s,.ref c)::l) aw (c+1) K
  | _=>False)
theorem p5:∀ {nl:List (Nat × TypeId × Nat)} {l:List (Nat × AV)} {aw:List Ob} {c:Nat} {K:List (Nat × AV)->List Ob->Prop},aw.length=c->(nl.all fun p=>Nat.blt p.1 n)=true->nilC nl l aw c K->K (nilA n nl l aw).1 (nilA n nl l aw).2
 | [],l,aw,c,K,_,_,h=>h
 | (s,e,z)::r,l,aw,c,K,hc,hn,h=>by
  subst hc;unfold nilC at h;rw [A5,Az] at hn;split at h
  ·rename_i hv;have h:=p5 (nl:=r) (by simp) hn.2 (gP h);grind [nilA]
  grind
theorem wk (nl:List (Nat × TypeId × Nat)) (ρ:List Nat) (c:Nat) {l':List (Nat × AV)} (h:nilC nl l aw c fun l aw=>mpF ρ l' l fun bs es=>mpOs ρ aw ρ aw' fun bs' es'=>(bs,bs')=(es,es')) [g:GoodF l'] [g':GoodOs aw'] (hc:aw.length=c:=by rfl) (hn:(nl.all fun p=>Nat.blt p.1 n)=true:=by rfl)
  (h1:ρ.Nodup:=by decide) (h2:∀ k,k<N->ρ[k]?=some k:=by decide):Weak N (mkA n l) aw (mkA n l') aw':=by
 have h:=p5 hc hn h
 obtain ⟨bs,es,h,h3⟩:=qF h
 obtain ⟨bs',es',h,h4⟩:=gU h
 injection h with e1 e2
 exact Weak.mkN nl ρ h1 h2 rfl (h3 g.out e1) (h4 g'.out e2)
def nilVC:List (Nat × TypeId × Nat)->List AV->List Ob->Nat->(List AV->List Ob->Prop)->Prop
 | [],vs,aw,_,K=>K vs aw
 | (s,e,z)::r,vs,aw,c,K=>aY vs s fun v=>(match v with
  | .nils=>setC vs s (.ref c) fun vs=>pushC aw (.arr e z []) fun aw=>nilVC r vs aw (c+1) K
  | _=>False)
theorem oS:∀ {nl:List (Nat × TypeId × Nat)} {vs:List AV} {aw:List Ob} {c:Nat} {K:List AV->List Ob->Prop},aw.length=c->nilVC nl vs aw c K->K (nilify nl vs aw).1 (nilify nl vs aw).2
 | [],vs,aw,c,K,_,h=>h
 | (s,e,z)::r,vs,aw,c,K,hc,h=>by
  subst hc;obtain ⟨v,h1,h⟩:=aU h;split at h
  ·have h:=oS (nl:=r) (by simp) (gP (fS h));grind [nilify]
  grind
section
variable {Q:Exit→List AV→List Ob→Prop} {rs:List ResultVar} {V:AV} {obs:List Ob} {M:Nat}
theorem rO_c (ht:tt.Ok P) (nl:List (Nat × TypeId × Nat)) (ρ:List Nat) (c:Nat)
  (h:resC tt n l aw rs fun vs=>nilVC nl vs aw c fun vs aw=>fA (bl vs) fun a=>mpA ρ 3 V a fun b=>mpOs ρ aw ρ obs fun bs es=>(b,bs)=(a,es))
  [g:GoodA 3 V] [g':GoodOs obs] (hc:aw.length=c) (h1:ρ.Nodup) (h2:∀ k,k<M->ρ[k]?=some k):aT P (mkA n l) aw rs (Ret M (fun r aw'=>r=V/\aw'=obs) aw):=by
 refine iS ht (fun vs hv=>?_) h
 have h:=oS hc hv
 have h:=cC (K:=fun a=>mpA ρ 3 V a fun b=>mpOs ρ (nilify nl vs aw).2 ρ obs fun bs es=>(b,bs)=(a,es)) h
 obtain ⟨b,h,h3⟩:=fZ h
 obtain ⟨bs,es,h,h4⟩:=gU h
 injection h with e1 e2
 exact wL V nl ρ h1 h2 rfl (h3 g.out e1) (h4 g'.out e2) ⟨rfl,rfl⟩
theorem T.rO (ht:tt.Ok P) (nl:List (Nat × TypeId × Nat)) (ρ:List Nat) (c:Nat)
  (h:resC tt n l aw rs fun vs=>nilVC nl vs aw c fun vs aw=>fA (bl vs) fun a=>mpA ρ 3 V a fun b=>mpOs ρ aw ρ obs fun bs es=>(b,bs)=(a,es))
  [hq:RetI Q (fun fr aw=>aT P fr aw rs (Ret M (fun r aw'=>r=V/\aw'=obs) aw))] [g:GoodA 3 V] [g':GoodOs obs] (hc:aw.length=c:=by rfl) (h1:ρ.Nodup:=by decide) (h2:∀ k,k<M->ρ[k]?=some k:=by decide):T P N .ret Q (mkA n l) aw :=
 T.rt (R:=fun fr aw=>aT P fr aw rs (Ret M (fun r aw'=>r=V/\aw'=obs) aw)) (rO_c ht nl ρ c h hc h1 h2)
theorem rN_c (ht:tt.Ok P) (ρ:List Nat) (h:resC tt n l aw rs fun vs=>nrmRC aw (bl vs) fun a aw=>mpA ρ 3 V a fun b=>mpOs ρ aw ρ obs fun bs es=>(b,bs)=(a,es))
  [g:GoodA 3 V] [g':GoodOs obs] (h1:ρ.Nodup) (h2:∀ k,k<M->ρ[k]?=some k):aT P (mkA n l) aw rs (Ret M (fun r aw'=>r=V/\aw'=obs) aw):=by
 refine iS ht (fun vs hv=>?_) h
 have h:=pr hv
 obtain ⟨b,h,h3⟩:=fZ h
 obtain ⟨bs,es,h,h4⟩:=gU h
 injection h with e1 e2
 exact vH V ρ rfl h1 h2 (h3 g.out e1) (h4 g'.out e2) ⟨rfl,rfl⟩
theorem T.rN (ht:tt.Ok P) (ρ:List Nat) (h:resC tt n l aw rs fun vs=>nrmRC aw (bl vs) fun a aw=>mpA ρ 3 V a fun b=>mpOs ρ aw ρ obs fun bs es=>(b,bs)=(a,es))
  [hq:RetI Q (fun fr aw=>aT P fr aw rs (Ret M (fun r aw'=>r=V/\aw'=obs) aw))] [g:GoodA 3 V] [g':GoodOs obs] (h1:ρ.Nodup:=by decide) (h2:∀ k,k<M->ρ[k]?=some k:=by decide):T P N .ret Q (mkA n l) aw :=
 T.rt (R:=fun fr aw=>aT P fr aw rs (Ret M (fun r aw'=>r=V/\aw'=obs) aw)) (rN_c ht ρ h h1 h2)
end
def stD (l:List (Nat × AV)) (d:Option Tmp) (r:AV) (K:List (Nat × AV)->Prop):Prop :=
 match d with
 | some t=>K ((t,r)::l)
 | none=>K l
theorem bX {d:Option Tmp} {r:AV} {K:List (Nat × AV)->Prop} (h:stD l d r K):K (bI l d r):=by cases d<;>exact h
section
variable {ops:Array Oper} {os:List Oper} {K:List AV→List Ob→Prop} {k:Nat} {li li':Array Bool} {o:Oper} {fr fr':List AV}
theorem yg' (ht:tt.Ok P) (c:Nat) {j t:Nat} {want b:Bool} (hbw:b=want) (h:wE tt n l aw c o.op fun r aw _=>stD l o.dst r fun l=>RS P N ops os K (mkA n l) aw)
  (hg:o.guard=some (j,want)) (hj:(ops[j]?).bind (·.dst)=some t) (hb:evA n l (.tmp t)=.bool b) (hc:aw.length=c):RS P N ops (o::os) K (mkA n l) aw :=
 RS.yes hg hj hb hbw ((wE_ok ht hc h).mono fun r aw' h=>bX (K:=fun l=>RS P N ops os K (mkA n l) aw') h)
theorem oy' (ht:tt.Ok P) {i:Nat} (c:Nat) {j t:Nat} {want b:Bool} (hbw:b=want) (hi:ops[i]?=some o) (h:wE tt n l aw c o.op fun r aw _=>stD l o.dst r fun l=>K (mkA n l) aw)
  (hg:o.guard=some (j,want)) (hj:(ops[j]?).bind (·.dst)=some t) (hb:evA n l (.tmp t)=.bool b) (hc:aw.length=c):RO P N ops i K (mkA n l) aw :=
 RO.yes hi hg hj hb hbw ((wE_ok ht hc h).mono fun r aw' h=>bX (K:=fun l=>K (mkA n l) aw') h)
theorem ry' (ht:tt.Ok P) (i:Nat) {j t:Nat} {want b:Bool} (hbw:b=want) (hi:ops[i]?=some o) (h:wV tt n l aw o.op fun r=>stD l o.dst r fun l=>RA P N ops k (li.setIfInBounds i true) K (mkA n l) aw)
  (hs:Region.noSelect ops=true) (hf:Region.free .any ops li i=true) (hr:(Region.ready .any ops li).contains i=true)
  (hg:o.guard=some (j,want)) (hj:(ops[j]?).bind (·.dst)=some t) (hb:evA n l (.tmp t)=.bool b) (hn:ed o.op=true):RA P N ops (k+1) li K (mkA n l) aw :=
 ⟨fun st e1 e2 σ w F a hc R hR=>by obtain ⟨v,r,hrun,hrel,hk⟩:=gN hc hn (wV_ok ht h);refine wpAny_take hi hs hf hr (fun c a w hp=>hp) (.inl ⟨by grind [Region.wanted,fM],hrun⟩) (RA.out (bX (K:=fun l=>RA P N ops k (li.setIfInBounds i true) K (mkA n l) aw) hk) st e1 e2 σ w F _ ?_ R hR);have:=bv hc hrel o.dst;grind [bG]⟩
open RK in
theorem rL' (ht:tt.Ok P) (D:List Nat) (i:Nat) (hi:ops[i]?=some o) (h:wV tt n l aw o.op fun r=>stD l o.dst r fun l=>RA P N ops k (li.setIfInBounds i true) K (mkA n l) aw)
  (hs:Region.noSelect ops=true) (hf:loadFree ops li D i=true) (hr:(Region.ready .any ops li).contains i=true) (hg:o.guard=none):RA P N ops (k+1) li K (mkA n l) aw :=
 ⟨fun st e1 e2 σ w F a hc R hR=>by obtain ⟨v,r,hrun,hrel,hk⟩:=ol hc (wV_ok ht h);refine na D hi hs hf hr (fun c a w hp=>hp) (.inl ⟨by grind [Region.wanted],hrun⟩) (RA.out (bX (K:=fun l=>RA P N ops k (li.setIfInBounds i true) K (mkA n l) aw) hk) st e1 e2 σ w F _ ?_ R hR);have:=bv hc hrel o.dst;grind [bG]⟩
theorem sO (h:OP P N o (mkA n l) aw fun r aw=>stD l o.dst r fun l=>RS P N ops os K (mkA n l) aw) (hg:o.guard=none:=by rfl):RS P N ops (o::os) K (mkA n l) aw :=
 RS.op hg (h.mono fun r aw' h=>bX (K:=fun l=>RS P N ops os K (mkA n l) aw') h)
theorem sQ (h:vcQ P (mkA n l) aw o.op fun r=>stD l o.dst r fun l=>RS P N ops os K (mkA n l) aw) (hg:o.guard=none:=by rfl) (hq:fU o.op=true:=by rfl):RS P N ops (o::os) K (mkA n l) aw :=
 sO (OP.q (K2:=fun r aw=>stD l o.dst r fun l=>RS P N ops os K (mkA n l) aw) hq h) hg
theorem yO {j t:Nat} {want b:Bool} (hbw:b=want) (h:OP P N o (mkA n l) aw fun r aw=>stD l o.dst r fun l=>RS P N ops os K (mkA n l) aw) (hg:o.guard=some (j,want):=by rfl) (hj:(ops[j]?).bind (·.dst)=some t:=by rfl) (hb:evA n l (.tmp t)=.bool b:=by rfl) :
 RS P N ops (o::os) K (mkA n l) aw:=RS.yes hg hj hb hbw (h.mono fun r aw' h=>bX (K:=fun l=>RS P N ops os K (mkA n l) aw') h)
theorem yQ {j t:Nat} {want b:Bool} (hbw:b=want) (h:vcQ P (mkA n l) aw o.op fun r=>stD l o.dst r fun l=>RS P N ops os K (mkA n l) aw) (hg:o.guard=some (j,want):=by rfl) (hj:(ops[j]?).bind (·.dst)=some t:=by rfl) (hb:evA n l (.tmp t)=.bool b:=by rfl) (hq:fU o.op=true:=by rfl) :
 RS P N ops (o::os) K (mkA n l) aw:=yO hbw (OP.q (K2:=fun r aw=>stD l o.dst r fun l=>RS P N ops os K (mkA n l) aw) hq h) hg hj hb
theorem sN {j t:Nat} {want b:Bool} (hbw:b=!want) (h:stD l o.dst (.tup []) fun l=>RS P N ops os K (mkA n l) aw) (hg:o.guard=some (j,want):=by rfl) (hj:(ops[j]?).bind (·.dst)=some t:=by rfl) (hb:evA n l (.tmp t)=.bool b:=by rfl) :
 RS P N ops (o::os) K (mkA n l) aw:=RS.no hg hj hb hbw (bX (K:=fun l=>RS P N ops os K (mkA n l) aw) h)
theorem sU {j t:Nat} {want:Bool} (h:stD l o.dst (.tup []) fun l=>RS P N ops os K (mkA n l) aw) (hg:o.guard=some (j,want):=by rfl) (hj:(ops[j]?).bind (·.dst)=some t:=by rfl) (hb:evA n l (.tmp t)=.tup []:=by rfl) :
 RS P N ops (o::os) K (mkA n l) aw:=RS.nou hg hj hb (bX (K:=fun l=>RS P N ops os K (mkA n l) aw) h)
theorem oO {i:Nat} (hi:ops[i]?=some o) (h:OP P N o (mkA n l) aw fun r aw=>stD l o.dst r fun l=>K (mkA n l) aw) (hg:o.guard=none:=by rfl):RO P N ops i K (mkA n l) aw :=
 RO.op hi hg (h.mono fun r aw' h=>bX (K:=fun l=>K (mkA n l) aw') h)
theorem oP {i:Nat} (hi:ops[i]?=some o) {j t:Nat} {want b:Bool} (hbw:b=want) (h:OP P N o (mkA n l) aw fun r aw=>stD l o.dst r fun l=>K (mkA n l) aw) (hg:o.guard=some (j,want):=by rfl) (hj:(ops[j]?).bind (·.dst)=some t:=by rfl) (hb:evA n l (.tmp t)=.bool b:=by rfl):RO P N ops i K (mkA n l) aw :=
 RO.yes hi hg hj hb hbw (h.mono fun r aw' h=>bX (K:=fun l=>K (mkA n l) aw') h)
theorem r0 (i:Nat) (hi:ops[i]?=some o) (h:vcQ P (mkA n l) aw o.op fun r=>stD l o.dst r fun l=>RA P N ops k (li.setIfInBounds i true) K (mkA n l) aw) (hs:Region.noSelect ops=true:=by decide +kernel) (hf:Region.free .any ops li i=true:=by decide +kernel)
  (hr:(Region.ready .any ops li).contains i=true:=by decide +kernel) (hg:o.guard=none:=by rfl) (hn:ed o.op=true:=by rfl):RA P N ops (k+1) li K (mkA n l) aw :=
 ⟨fun st e1 e2 σ w F a hc R hR=>by obtain ⟨v,r,hrun,hrel,hk⟩:=gN hc hn h;refine wpAny_take hi hs hf hr (fun c a w hp=>hp) (.inl ⟨by grind [Region.wanted],hrun⟩) (RA.out (bX (K:=fun l=>RA P N ops k (li.setIfInBounds i true) K (mkA n l) aw) hk) st e1 e2 σ w F _ ?_ R hR);have:=bv hc hrel o.dst;grind [bG]⟩
theorem r1 (i:Nat) (hi:ops[i]?=some o) {j t:Nat} {want b:Bool} (hbw:b=want) (h:vcQ P (mkA n l) aw o.op fun r=>stD l o.dst r fun l=>RA P N ops k (li.setIfInBounds i true) K (mkA n l) aw) (hs:Region.noSelect ops=true:=by decide +kernel) (hf:Region.free .any ops li i=true:=by decide +kernel)
  (hr:(Region.ready .any ops li).contains i=true:=by decide +kernel) (hg:o.guard=some (j,want):=by rfl) (hj:(ops[j]?).bind (·.dst)=some t:=by rfl) (hb:evA n l (.tmp t)=.bool b:=by rfl) (hn:ed o.op=true:=by rfl):RA P N ops (k+1) li K (mkA n l) aw :=
 ⟨fun st e1 e2 σ w F a hc R hR=>by obtain ⟨v,r,hrun,hrel,hk⟩:=gN hc hn h;refine wpAny_take hi hs hf hr (fun c a w hp=>hp) (.inl ⟨by grind [Region.wanted,fM],hrun⟩) (RA.out (bX (K:=fun l=>RA P N ops k (li.setIfInBounds i true) K (mkA n l) aw) hk) st e1 e2 σ w F _ ?_ R hR);have:=bv hc hrel o.dst;grind [bG]⟩
theorem r2 (i:Nat) (hi:ops[i]?=some o) {j t:Nat} {want b:Bool} (hbw:b=!want) (h:stD l o.dst (.tup []) fun l=>RA P N ops k (li.setIfInBounds i true) K (mkA n l) aw) (hs:Region.noSelect ops=true:=by decide +kernel) (hf:Region.free .any ops li i=true:=by decide +kernel)
  (hr:(Region.ready .any ops li).contains i=true:=by decide +kernel) (hg:o.guard=some (j,want):=by rfl) (hj:(ops[j]?).bind (·.dst)=some t:=by rfl) (hb:evA n l (.tmp t)=.bool b:=by rfl):RA P N ops (k+1) li K (mkA n l) aw :=
 RA.t2 hi hs hf hr rfl hg hj hb hbw (bX (K:=fun l=>RA P N ops k (li.setIfInBounds i true) K (mkA n l) aw) h)
theorem r3 (i:Nat) (hi:ops[i]?=some o) {j t:Nat} {want:Bool} (h:stD l o.dst (.tup []) fun l=>RA P N ops k (li.setIfInBounds i true) K (mkA n l) aw) (hs:Region.noSelect ops=true:=by decide +kernel) (hf:Region.free .any ops li i=true:=by decide +kernel)
  (hr:(Region.ready .any ops li).contains i=true:=by decide +kernel) (hg:o.guard=some (j,want):=by rfl) (hj:(ops[j]?).bind (·.dst)=some t:=by rfl) (hb:evA n l (.tmp t)=.tup []:=by rfl):RA P N ops (k+1) li K (mkA n l) aw :=
 RA.t3 hi hs hf hr rfl hg hj hb (bX (K:=fun l=>RA P N ops k (li.setIfInBounds i true) K (mkA n l) aw) h)
def nfL (f:AV->(AV->Prop)->Prop):List AV->(List AV->Prop)->Prop
 | [],K=>K []
 | a::es,K=>f a fun a=>nfL f es fun es=>K (a::es)
def nfA:Nat->AV->(AV->Prop)->Prop
 | 0,a,K=>fA a K
 | k+1,a,K=>(match a with
  | .agg cs=>nfL (nfA k) cs fun cs=>K (.agg cs)
  | .tup cs=>nfL (nfA k) cs fun cs=>K (.tup cs)
  | .func f cs=>nfL (nfA k) cs fun cs=>K (.func f cs)
  | .bnd f cs=>nfL (nfA k) cs fun cs=>K (.bnd f cs)
  | a=>fA a K)
theorem hM {f:AV->(AV->Prop)->Prop} (hf:∀ {a:AV} {K:AV->Prop},f a K->K a):∀ {es:List AV} {K:List AV->Prop},nfL f es K->K es
 | [],K,h=>h
 | a::es,K,h=>hM hf (es:=es) (K:=fun es=>K (a::es)) (hf h)
theorem qn:∀ {k:Nat} {a:AV} {K:AV->Prop},nfA k a K->K a:=by
 intro k;induction k with
 | zero=>exact fun h=>cC h
 | succ k ih =>
  intro a K h;cases a<;>first | exact cC h | exact hM ih (K:=fun cs=>K (.agg cs)) h | exact hM ih (K:=fun cs=>K (.tup cs)) h | exact hM ih (K:=fun cs=>K (.func _ cs)) h | exact hM ih (K:=fun cs=>K (.bnd _ cs)) h
def nfF (g:AV->AV):List (Nat × AV)->(List (Nat × AV)->Prop)->Prop
 | [],K=>K []
 | (s,v)::r,K=>nfA 2 (g v) fun v=>nfF g r fun r=>K ((s,v)::r)
theorem qL {g:AV->AV}:∀ {l:List (Nat × AV)} {K:List (Nat × AV)->Prop},nfF g l K->K (l.map fun p=>(p.1,g p.2))
 | [],K,h=>h
 | (s,v)::r,K,h=>qL (l:=r) (K:=fun r=>K ((s,g v)::r)) (qn (K:=fun v=>nfF g r fun r=>K ((s,v)::r)) h)
def nfO (g:AV->AV):List Ob->(List Ob->Prop)->Prop
 | [],K=>K []
 | o::os,K=>(match o with
  | .box cs=>nfL (nfA 1) (cs.map g) fun cs=>nfO g os fun os=>K (.box cs::os)
  | o=>nfO g os fun os=>K (o::os))
theorem lV {id:Nat} {rows:List (List AV)}:∀ {os:List Ob} {K:List Ob->Prop},nfO (fz2 id rows) os K->K (os.map (fzOb id rows))
 | [],K,h=>h
 | o::os,K,h=>by
  cases o with
  | box cs=>exact lV (os:=os) (K:=fun os=>K (.box (cs.map (fz2 id rows))::os)) (hM qn (K:=fun cs=>nfO (fz2 id rows) os fun os=>K (.box cs::os)) h)
  | _=>exact lV (os:=os) (K:=fun os=>K (_::os)) h
def fzC (aw:List Ob) (l:List (Nat × AV)) (id:Nat) (K:List (Nat × AV)->List Ob->Prop):Prop :=
 aY aw id fun o=>(match o with
  | .arr _ _ rows=>nfF (fzV id rows) l fun l=>setC aw id .dead fun aw=>nfO (fz2 id rows) aw fun aw=>K l aw
  | _=>False)
theorem kC {id:Nat} {K:List (Nat × AV)->List Ob->Prop} (h:fzC aw l id K):∃ e s rows,aw[id]?=some (.arr e s rows)/\K (fzA id rows l) ((aw.set id .dead).map (fzOb id rows)):=by
 obtain ⟨o,h1,h⟩:=aU h;split at h
 ·exact ⟨_,_,_,h1,lV (fS (qL h))⟩
 grind
theorem T.fC (id:Nat) {c:Code} {Q:Exit->List AV->List Ob->Prop} (h:fzC aw l id fun l aw=>T P N c Q (mkA n l) aw):T P N c Q (mkA n l) aw:=by grind [kC,T.fz]
theorem RS.fC (id:Nat) (h:fzC aw l id fun l aw=>RS P N ops os K (mkA n l) aw):RS P N ops os K (mkA n l) aw:=by grind [kC,RS.fz]
theorem RA.fC (id:Nat) (h:fzC aw l id fun l aw=>RA P N ops k li K (mkA n l) aw):RA P N ops k li K (mkA n l) aw:=by grind [kC,RA.fz]
theorem RO.fC {i:Nat} (id:Nat) (h:fzC aw l id fun l aw=>RO P N ops i K (mkA n l) aw):RO P N ops i K (mkA n l) aw:=by grind [kC,RO.fz]
theorem RA.jn (k':Nat) (li':Array Bool) {fr':List AV} {aw':List Ob} (h2:RA P N ops k' li' K fr' aw'->RA P N ops k li K fr aw) (h:RA P N ops k' li' K fr' aw'):RA P N ops k li K fr aw:=h2 h
theorem raE (h:RA P N ops k li' K fr aw) (hl:li=li':=by decide +kernel):RA P N ops k li K fr aw:=by grind
theorem vP {l':List (Nat × AV)} (h:l'.map (fun p=>lkA l p.1)=l'.map (fun p=>lkA l' p.1)) (t:Nat):lkA l' t=.any∨lkA l' t=lkA l t:=by
 have key:∀ (q:List (Nat × AV)),q.map (fun p=>lkA l p.1)=q.map (fun p=>lkA l' p.1)->lkA q t=.any∨lkA l' t=lkA l t:=by
  intro q;induction q with
  | nil=>intro _;exact .inl rfl
  | cons p q ih =>
   intro h;simp only [Ac,List.cons.injEq] at h;obtain ⟨s,v⟩:=p;rw [dJ];grind
 grind
theorem o9 {l':List (Nat × AV)} {st:St} {σ:List Value} {w:World} {F:Nat->Prop} {a:Act} (h:l'.map (fun p=>lkA l p.1)=l'.map (fun p=>lkA l' p.1)) (hc:Cur st (mkA n l) aw σ w F a):Cur st (mkA n l') aw σ w F a:=by
 refine ⟨hc.sim,⟨⟨?_,fun j x v hx hv=>?_⟩,hc.fr.2⟩,hc.mv,hc.ds⟩
 ·have:=hc.fr.1.1;grind [gX]
 ·rw [db] at hx;split at hx
  ·rename_i hj;cases hx;rcases vP h j with e | e
   ·rw [e];exact .any _
   ·rw [e];exact hc.fr.1.2 j _ v (by rw [db,if_pos hj]) hv
  ·cases hx
theorem raT {l':List (Nat × AV)} (h:RA P N ops k li' K (mkA n l') aw) (hs:l'.map (fun p=>lkA l p.1)=l'.map (fun p=>lkA l' p.1):=by rfl) (hl:li=li':=by decide +kernel):RA P N ops k li K (mkA n l) aw:=by subst hl;exact ⟨fun st h1 h2 σ w F a hc=>h.out st h1 h2 σ w F a (o9 hs hc)⟩
theorem T.su {l':List (Nat × AV)} {c:Code} {Q:Exit->List AV->List Ob->Prop} (h:T P N c Q (mkA n l') aw) (hs:l'.map (fun p=>lkA l p.1)=l'.map (fun p=>lkA l' p.1):=by rfl):T P N c Q (mkA n l) aw:=⟨fun st h1 h2 σ w F a hc=>h.out st h1 h2 σ w F a (o9 hs hc)⟩
end
section
variable {Q:Exit→List AV→List Ob→Prop} {c1 c2:Code} {x:Operand}
theorem T.ci {α:Type} {b:Bool} {u v:Option α} {r:α} (h:(if b=true then u else v)=some r) (hx:evA n l x=.bool b) (ht:b=true->u=some r->T P N c1 Q (mkA n l) aw) (he:b=false->v=some r->T P N c2 Q (mkA n l) aw):T P N (.cond x c1 c2) Q (mkA n l) aw :=
 T.cond hx (fun hb=>ht hb (bu h hb)) (fun hb=>he hb (bt h hb))
theorem T.ct (hx:evA n l x=.bool true) (h:T P N c1 Q (mkA n l) aw):T P N (.cond x c1 c2) Q (mkA n l) aw:=T.cond hx (fun _=>h) (fun hb=>by cases hb)
theorem T.cf (hx:evA n l x=.bool false) (h:T P N c2 Q (mkA n l) aw):T P N (.cond x c1 c2) Q (mkA n l) aw:=T.cond hx (fun hb=>by cases hb) (fun _=>h)
def iniC:Nat->List AV->(List (Nat × AV)->Prop)->Prop
 | _,[],K=>K []
 | k,a::es,K=>iniC (k+1) es fun l=>K ((k,a)::l)
theorem kn:∀ {es:List AV} {k:Nat} {K:List (Nat × AV)->Prop},iniC k es K->K (initA k es)
 | [],k,K,h=>h
 | a::es,k,K,h=>kn (es:=es) (K:=fun l=>K ((k,a)::l)) h
end
end
theorem ao {P:Program} {N n:Nat} {aw:List Ob} {l:List (Nat × AV)} {d:Option Tmp} {ty:TypeId} {ps:String} {af:Array Edge} {g:Option (Nat × Bool)} {K2:AV->List Ob->Prop} {f:Operand} {args:Array Operand} {ts:Array TypeId} {h:FuncId} {caps ac as0:List AV} {aw0 aw1 aw2:List Ob} {v v':AV} {n0 n1:Nat} (ρ:List Nat)
  (hf:evA n l f=.func h caps) (ha:args.toList.map (evA n l)++caps=ac) (hC:FnX P h as0 aw0 v aw1) (hW:ba ρ aw ρ aw0) (hA:bd ρ as0 ac)
  (hv:RenM (aX ρ n0 n1) v' v) (hB:cT (aX ρ n0 n1) ρ aw aw1 0 aw2) (hK:K2 v' aw2) (hn0:aw.length=n0:=by rfl) (hn1:aw1.length=n1:=by rfl) (hnd:ρ.Nodup:=by decide) (hlen:aw2.length+ρ.length=n0+n1:=by rfl):OP P N ⟨d,.call ⟨.value f,args,ts⟩,ty,ps,af,g⟩ (mkA n l) aw K2 :=
 pG ρ hn0 hn1 hf ha hnd hW hA hC hlen hv hB hK
end
section
open Go.RowKit
inductive Fr where
 | sq (y:Code)
 | bk (id:Nat)
 | kt (K:List AV->List Ob->Prop)
section
variable {P:Program} {N n:Nat} {aw:List Ob} {l:List (Nat × AV)} {tt:TT} {Q:Exit→List AV→List Ob→Prop}
def qs (P:Program) (N:Nat):List Fr->(Exit->List AV->List Ob->Prop)->Exit->List AV->List Ob->Prop
 | [],Q=>Q
 | .sq y::st,Q=>thenA (T P N y (qs P N st Q)) (qs P N st Q)
 | .bk id::st,Q=>fP id (qs P N st Q)
 | .kt K::st,Q=>thenA K (qs P N st Q)
theorem ky:∀ {st:List Fr} {fr:List AV} {aw:List Ob},Q .ret fr aw->qs P N st Q .ret fr aw
 | [],_,_,h=>h
 | .sq y::st,_,_,h=>ky (st:=st) h
 | .bk id::st,_,_,h=>ky (st:=st) h
 | .kt K::st,_,_,h=>ky (st:=st) h
instance {st:List Fr} {R:List AV->List Ob->Prop} [h:RetI Q R]:RetI (qs P N st Q) R:=⟨fun fr aw hr=>ky (h.out fr aw hr)⟩
def popN (Q:Exit->List AV->List Ob->Prop) (fr:List AV) (aw:List Ob) (K:Code->List Fr->Prop):List Fr->Prop
 | []=>Q .normal fr aw
 | .sq y::st=>K y st
 | .bk _::st=>popN Q fr aw K st
 | .kt K'::_=>K' fr aw
def popE (Q:Exit->List AV->List Ob->Prop) (fr:List AV) (aw:List Ob) (K:Code->List Fr->Prop) (id:Nat):List Fr->Prop
 | []=>Q (.exit id) fr aw
 | .sq _::st=>popE Q fr aw K id st
 | .bk i::st=>(match Nat.beq id i with
  | true=>popN Q fr aw K st
  | false=>popE Q fr aw K id st)
 | .kt _::st=>popE Q fr aw K id st
theorem kg {fr:List AV} {K:Code->List Fr->Prop} (hK:∀ y st,K y st->T P N y (qs P N st Q) fr aw):∀ {st:List Fr},popN Q fr aw K st->qs P N st Q .normal fr aw
 | [],h=>h
 | .sq y::st,h=>hK y st h
 | .bk _::st,h=>kg hK (st:=st) h
 | .kt _::_,h=>h
theorem kj {fr:List AV} {K:Code->List Fr->Prop} (hK:∀ y st,K y st->T P N y (qs P N st Q) fr aw) {id:Nat}:∀ {st:List Fr},popE Q fr aw K id st->qs P N st Q (.exit id) fr aw
 | [],h=>h
 | .sq y::st,h=>kj hK (st:=st) h
 | .bk i::st,h=>by
  show if id=i then qs P N st Q .normal fr aw else qs P N st Q (.exit id) fr aw
  simp only [popE] at h;cases hb:Nat.beq id i
  ·rw [hb] at h;rw [if_neg (fun e=>by simp_all)];exact kj hK (st:=st) h
  ·rw [hb] at h;rw [if_pos (Al hb)];exact kg hK h
 | .kt _::st,h=>kj hK (st:=st) h
inductive MS where
 | cd (c:Code)
 | op (ops:Array Oper) (os:List Oper)
def dsC (l:List (Nat × AV)) (d:Option Tmp) (r:AV) (K:List (Nat × AV)->Prop):Prop :=
 match d with
 | some t=>K ((t,r)::l)
 | none=>K l
def wP (pl:Bool) (tt:TT) (n:Nat) (l:List (Nat × AV)) (aw:List Ob) (k:Nat) (op:Op) (K:AV->List Ob->Nat->Prop):Prop :=
  match pl with
  | false=>wE tt n l aw k op K
  | true=>(match op with
    | .pick c a b=>(match evA n l c with
      | .bool t=>(match t with
        | true=>fA (evA n l a) fun r=>K r aw k
        | false=>fA (evA n l b) fun r=>K r aw k)
      | _=>False)
    | op=>wE tt n l aw k op K)
theorem wP_ok {pl:Bool} {o:Oper} {k:Nat} {K:AV->List Ob->Nat->Prop} (ht:tt.Ok P) (hk:aw.length=k) (h:wP pl tt n l aw k o.op K):OP P N o (mkA n l) aw fun r aw'=>K r aw' aw'.length:=by
 cases pl with
 | false=>exact wE_ok ht hk h
 | true =>
  have q:wE tt n l aw k o.op K->OP P N o (mkA n l) aw fun r aw'=>K r aw' aw'.length:=fun h=>wE_ok ht hk h
  obtain ⟨d,op,ty,ps,af,g⟩:=o;cases op with
  | pick c a b =>
   simp only [wP] at h;subst hk;split at h
   ·rename_i t hc;split at h
    ·exact OP.q rfl (bH hc rfl rfl (cC (K:=fun r=>K r aw aw.length) h))
    ·exact OP.q rfl (bp hc rfl rfl (cC (K:=fun r=>K r aw aw.length) h))
   grind
  | _=>exact q h
def gx (pl:Bool) (tt:TT) (P:Program) (N n:Nat) (Q:Exit->List AV->List Ob->Prop):Nat->MS->List Fr->List (Nat × AV)->List Ob->Nat->Prop
  | 0,.cd c,st,l,aw,_=>T P N c (qs P N st Q) (mkA n l) aw
  | 0,.op ops os,st,l,aw,_=>RS P N ops os (qs P N st Q .normal) (mkA n l) aw
  | f + 1,.cd c,st,l,aw,k=>(match c with
    | .seq x y=>gx pl tt P N n Q f (.cd x) (.sq y::st) l aw k
    | .skip=>popN Q (mkA n l) aw (fun y st=>gx pl tt P N n Q f (.cd y) st l aw k) st
    | .block id x=>gx pl tt P N n Q f (.cd x) (.bk id::st) l aw k
    | .exit id=>popE Q (mkA n l) aw (fun y st=>gx pl tt P N n Q f (.cd y) st l aw k) id st
    | .cond x a b=>(match evA n l x with
      | .bool v=>(match v with
        | true=>gx pl tt P N n Q f (.cd a) st l aw k
        | false=>gx pl tt P N n Q f (.cd b) st l aw k)
      | _=>False)
    | .region _ ops d=>(match d with
      | false=>gx pl tt P N n Q f (.op ops ops.toList) st l aw k
      | true=>False)
    | _=>False)
  | f + 1,.op ops os,st,l,aw,k=>(match os with
    | []=>popN Q (mkA n l) aw (fun y st=>gx pl tt P N n Q f (.cd y) st l aw k) st
    | o :: os => (match o.guard with
      | none=>wP pl tt n l aw k o.op fun r aw k=>dsC l o.dst r fun l=>gx pl tt P N n Q f (.op ops os) st l aw k
      | some (j,want)=>aY ops.toList j fun q=>(match q.dst with
        | none=>False
        | some t=>(match evA n l (.tmp t) with
          | .bool b=>(match b with
            | true=>(match want with
              | true=>wP pl tt n l aw k o.op fun r aw k=>dsC l o.dst r fun l=>gx pl tt P N n Q f (.op ops os) st l aw k
              | false=>dsC l o.dst (.tup []) fun l=>gx pl tt P N n Q f (.op ops os) st l aw k)
            | false=>(match want with
              | false=>wP pl tt n l aw k o.op fun r aw k=>dsC l o.dst r fun l=>gx pl tt P N n Q f (.op ops os) st l aw k
              | true=>dsC l o.dst (.tup []) fun l=>gx pl tt P N n Q f (.op ops os) st l aw k))
          | .tup vs=>(match vs with
            | []=>dsC l o.dst (.tup []) fun l=>gx pl tt P N n Q f (.op ops os) st l aw k
            | _::_=>False)
          | _=>False))))
theorem xB {d:Option Tmp} {r:AV} {K:List (Nat × AV)->Prop} (h:dsC l d r K):K (bI l d r):=by cases d<;>exact h
theorem dQ {pl:Bool} (ht:tt.Ok P):∀ {f:Nat} {ms:MS} {st:List Fr} {l:List (Nat × AV)} {aw:List Ob} {k:Nat},aw.length=k->gx pl tt P N n Q f ms st l aw k->gx pl tt P N n Q 0 ms st l aw k
 | 0,.cd c,st,l,aw,k,hk,h=>h
 | 0,.op ops os,st,l,aw,k,hk,h=>h
 | f+1,.cd c,st,l,aw,k,hk,h=>by
  show T P N c (qs P N st Q) (mkA n l) aw;have pop:∀ y st,gx pl tt P N n Q f (.cd y) st l aw k->T P N y (qs P N st Q) (mkA n l) aw:=fun y st h=>dQ ht (f:=f) hk h
  cases c with
  | seq x y=>exact T.seq (dQ ht (f:=f) (ms:=.cd x) hk h)
  | skip=>exact T.skip (kg pop h)
  | block id x=>exact T.block (dQ ht (f:=f) (ms:=.cd x) hk h)
  | exit id=>exact T.exit (kj pop h)
  | cond x a b =>
   grind [gx,T.cond]
  | region id ops d =>
   cases d with
   | false=>exact T.region (dQ ht (f:=f) (ms:=.op ops ops.toList) hk h)
   | true=>exact h.elim
  | _=>exact h.elim
 | f + 1,.op ops os,st,l,aw,k,hk,h=>by
  show RS P N ops os (qs P N st Q .normal) (mkA n l) aw;cases os with
  | nil =>
   have pop:∀ y st,gx pl tt P N n Q f (.cd y) st l aw k->T P N y (qs P N st Q) (mkA n l) aw:=fun y st h=>dQ ht (f:=f) hk h
   exact RS.nil (kg pop h)
  | cons o os =>
   have put:∀ {aw:List Ob} {k:Nat} {r:AV},aw.length=k->dsC l o.dst r (fun l=>gx pl tt P N n Q f (.op ops os) st l aw k)->RS P N ops os (qs P N st Q .normal) (mkA n (bI l o.dst r)) aw :=
    fun {aw k r} hk h=>dQ ht (f:=f) (ms:=.op ops os) hk (xB (K:=fun l=>gx pl tt P N n Q f (.op ops os) st l aw k) h)
   simp only [gx] at h;split at h
   ·rename_i hg;exact RS.op hg ((wP_ok ht hk h).mono fun r aw' h=>put rfl h)
   ·rename_i j want hg;obtain ⟨q,h1,h⟩:=aU h;have h1:ops[j]?=some q:=by grind
    split at h
    ·exact h.elim
    ·rename_i t hd;have hj:(ops[j]?).bind (·.dst)=some t:=by grind
     split at h
     ·rename_i b hb;split at h
      ·split at h
       ·exact RS.yes hg hj hb rfl ((wP_ok ht hk h).mono fun r aw' h=>put rfl h)
       grind [RS.no]
      ·split at h
       ·exact RS.yes hg hj hb rfl ((wP_ok ht hk h).mono fun r aw' h=>put rfl h)
       grind [RS.no]
     all_goals (grind [RS.nou])
theorem qx {s:Nat} {a:AV} (hl:lkA l s=a):mkA n ((s,a)::l)=mkA n l:=by unfold mkA;congr 1;funext t;rw [dJ];grind
variable {ops:Array Oper} {os:List Oper} {K:List AV→List Ob→Prop} {st:List Fr}
theorem gT (s:Nat) {b:Bool} (hb:b=true) (h:RS P N ops os K (mkA n ((s,.bool true)::l)) aw) (hl:lkA l s=.bool b:=by rfl):RS P N ops os K (mkA n l) aw:=by grind [qx]
theorem gF (s:Nat) {b:Bool} (hb:b=false) (h:RS P N ops os K (mkA n ((s,.bool false)::l)) aw) (hl:lkA l s=.bool b:=by rfl):RS P N ops os K (mkA n l) aw:=by grind [qx]
theorem gi (s:Nat) {α:Type} {b:Bool} {u v:Option α} {r:α} (h:(if b=true then u else v)=some r) (ht:b=true->u=some r->RS P N ops os K (mkA n ((s,.bool true)::l)) aw) (he:b=false->v=some r->RS P N ops os K (mkA n ((s,.bool false)::l)) aw) (hl:lkA l s=.bool b:=by rfl):RS P N ops os K (mkA n l) aw:=by
 cases b with
 | true=>exact gT s rfl (ht rfl (bu h rfl)) hl
 | false=>exact gF s rfl (he rfl (bt h rfl)) hl
theorem gp (s:Nat) {b:Bool} (ht:b=true->RS P N ops os K (mkA n ((s,.bool true)::l)) aw) (he:b=false->RS P N ops os K (mkA n ((s,.bool false)::l)) aw) (hl:lkA l s=.bool b:=by rfl):RS P N ops os K (mkA n l) aw:=by
 cases b with
 | true=>grind [gT]
 | false=>grind [gF]
theorem fX {pl:Bool} {f:FuncId} {fn:Func} {c:Code} {args:List AV} {Q:AV->List Ob->Prop} {m:Nat} (ht:tt.Ok P) (N q:Nat) (hf:P.funcs[f]?=some fn) (hm:fn.ntmps=m) (h:iniC 0 args fun l=>gx pl tt P N m (retQ P fn N Q) q (.cd c) [] l aw N)
  (hb:fn.body=some c) (hN:aw.length=N) (hname:(fn.name == "runtime.NumGoroutine")=false) (hl:Nat.ble args.length m=true):ACalls P f args aw Q :=
 pH hN hf hb hname hm hl (dQ ht hN (kn (K:=fun l=>gx pl tt P N m (retQ P fn N Q) q (.cd c) [] l aw N) h))
theorem q0 {c:Code} {fr:List AV} (h:T P N c (qs P N [] Q) fr aw):T P N c Q fr aw:=h
theorem jn {x y:Code} {fr:List AV} {Z:Type} (F:Z->List AV) (A:Z->List Ob) (S:Z->Prop) (h:∀ z,S z->T P N y (qs P N st Q) (F z) (A z))
 (h2:(∀ z,S z->T P N y (qs P N st Q) (F z) (A z))->T P N (.seq x y) (qs P N st Q) fr aw):T P N (.seq x y) (qs P N st Q) fr aw:=h2 h
theorem j1 {x y:Code} (l':List (Nat × AV)) (aw':List Ob) (h:T P N y (qs P N st Q) (mkA n l') aw') (h2:T P N y (qs P N st Q) (mkA n l') aw'->T P N (.seq x y) (qs P N st Q) (mkA n l) aw):T P N (.seq x y) (qs P N st Q) (mkA n l) aw:=h2 h
def LK {α β:Type} (N:Nat) (v:α ⊕ β) (F:α->List AV) (A:α->List Ob) (fr:List AV) (aw:List Ob):Prop:=∃ s',v=.inl s'/\Weak N fr aw (F s') (A s')
theorem itr {α β:Type} {body:α->Option (α ⊕ β)} {s:α} {r:β} {c:Code} {fr:List AV} (F:α->List AV) (A:α->List Ob) (h:iter body s=some r) (hw:Weak N fr aw (F s) (A s))
  (hb:∀ s v,body s=some v->(∀ w,v=.inr w->w=r)->T P N c (qs P N (.kt (LK N v F A)::st) Q) (F s) (A s)):T P N (.loop c) (qs P N st Q) fr aw :=
 T.iter F A h hw fun s v h1 h2=>(hb s v h1 h2).mono fun e fr aw h=>by assumption
theorem lk {α β:Type} {v:α ⊕ β} {F:α->List AV} {A:α->List Ob} {fr:List AV} {s':α} (h:some (.inl s')=some v) (hw:Weak N fr aw (F s') (A s')):LK N v F A fr aw:=⟨s',(zL h).symm,hw⟩
theorem mi {α β:Type} {o:Option β} {v:α ⊕ β} {r:β} (h:o.map Sum.inr=some v) (hv:∀ w,v=.inr w->w=r):o=some r:=by obtain ⟨w,h1,h2⟩:=gY h;grind
theorem B {α β:Type} {o:Option α} {k:α->Option β} {r:β} {C:Prop} (h:o.bind k=some r) (hC:∀ x,o=some x->k x=some r->C):C:=by obtain ⟨x,h1,h2⟩:=bind_some h;grind
theorem sx {c:Code} {l':List (Nat × AV)} (h:T P N c Q (mkA n l') aw) (hs:l'.map (fun p=>lkA l p.1)=l'.map (fun p=>lkA l' p.1):=by rfl):T P N c Q (mkA n l) aw:=T.su h hs
theorem wu {c:Code} {l':List (Nat × AV)} {aw':List Ob} (h:T P N c Q (mkA n l') aw') (nl:List (Nat × TypeId × Nat)) (ρ:List Nat) (k:Nat) (hw:nilC nl l aw k fun l aw=>mpF ρ l' l fun bs es=>mpOs ρ aw ρ aw' fun bs' es'=>(bs,bs')=(es,es')) [g:GoodF l'] [g':GoodOs aw'] (hc:aw.length=k:=by rfl) (hn:(nl.all fun p=>Nat.blt p.1 n)=true:=by rfl)
 (h1:ρ.Nodup:=by decide) (h2:∀ k,k<N->ρ[k]?=some k:=by decide):T P N c Q (mkA n l) aw:=T.weakR h (wk nl ρ k hw hc hn h1 h2)
section
variable {ρ:List Nat} {n0 n1:Nat}
def bkC (n0:Nat):List Nat->Nat->(Nat->Prop)->Prop
 | [],i,K=>K (n0+i)
 | j::ρ,i,K=>(match i with
  | 0=>K j
  | i+1=>bkC n0 ρ i K)
def bkK (ρ:List Nat) (n0 n1 i:Nat) (K:Nat->Prop):Prop :=
 match Nat.blt i n1 with
 | true=>bkC n0 ρ i K
 | false=>False
theorem qo:∀ {ρ:List Nat} {i:Nat} {K:Nat->Prop},bkC n0 ρ i K->K (if i<ρ.length then ρ.getD i 0 else n0+(i - ρ.length))
 | [],i,K,h=>by assumption
 | j::ρ,0,K,h=>h
 | j::ρ,i+1,K,h=>by have:=qo (ρ:=ρ) (i:=i) (K:=K) h;grind
theorem em {i:Nat} {K:Nat->Prop} (h:bkK ρ n0 n1 i K):∃ j,(j,i)∈aX ρ n0 n1/\K j:=by
 unfold bkK at h;split at h
 ·rename_i hb;refine ⟨_,?_,qo h⟩;simp_all [aX]
 grind
def bkL (f:AV->(AV->Prop)->Prop):List AV->(List AV->Prop)->Prop
 | [],K=>K []
 | a::es,K=>f a fun b=>bkL f es fun bs=>K (b::bs)
def bkA (ρ:List Nat) (n0 n1:Nat):Nat->AV->(AV->Prop)->Prop
 | k,a,K=>match a with
  | .ref i=>bkK ρ n0 n1 i fun i=>K (.ref i)
  | .ptr i o=>bkK ρ n0 n1 i fun i=>K (.ptr i o)
  | .mpr i=>bkK ρ n0 n1 i fun i=>K (.mpr i)
  | .np i=>bkK ρ n0 n1 i fun i=>K (.np i)
  | .agg cs=>(match k with
   | 0=>False
   | k+1=>bkL (bkA ρ n0 n1 k) cs fun cs=>K (.agg cs))
  | .tup cs=>(match k with
   | 0=>False
   | k+1=>bkL (bkA ρ n0 n1 k) cs fun cs=>K (.tup cs))
  | .func f cs=>(match k with
   | 0=>False
   | k+1=>bkL (bkA ρ n0 n1 k) cs fun cs=>K (.func f cs))
  | .bnd f cs=>(match k with
   | 0=>False
   | k+1=>bkL (bkA ρ n0 n1 k) cs fun cs=>K (.bnd f cs))
  | .iref _ _ | .aptr _ _ _ _=>False
  | a=>fA a K
theorem f6 {k:Nat} (ih:∀ {a:AV} {K:AV->Prop},bkA ρ n0 n1 k a K->∃ b,K b/\(gA k a->RenM (aX ρ n0 n1) b a)):∀ {es:List AV} {K:List AV->Prop},bkL (bkA ρ n0 n1 k) es K->∃ bs,K bs/\((∀ a,a∈es->gA k a)->cU (aX ρ n0 n1) bs es)
 | [],K,h=>⟨[],h,fun _=>trivial⟩
 | a::es,K,h=>by obtain ⟨b,h1,h2⟩:=ih h;obtain ⟨bs,h3,h4⟩:=f6 ih h1;exact ⟨b::bs,h3,fun hg=>⟨h2 (hg _ (.head _)),h4 fun x hx=>hg x (.tail _ hx)⟩⟩
theorem kE:∀ {k:Nat} {a:AV} {K:AV->Prop},bkA ρ n0 n1 k a K->∃ b,K b/\(gA k a->RenM (aX ρ n0 n1) b a):=by
 intro k;induction k with
 | zero =>
  intro a K h;cases a with
  | ref i=>obtain ⟨j,h1,h2⟩:=em h;grind [qp]
  | ptr i o=>obtain ⟨j,h1,h2⟩:=em h;grind [qI]
  | aptr i s x o=>exact h.elim
  | mpr i=>obtain ⟨j,h1,h2⟩:=em h;grind [qM]
  | np i=>obtain ⟨j,h1,h2⟩:=em h;grind [rm_np]
  | agg cs=>exact h.elim
  | tup cs=>exact h.elim
  | func f cs=>exact h.elim
  | bnd f cs=>exact h.elim
  | iref i j=>exact h.elim
  | any=>exact ⟨_,h,fun _=>qh⟩
  | int q x=>exact ⟨_,h,fun _=>ak (an _ _)⟩
  | bool b=>exact ⟨_,h,fun _=>ak (cz _)⟩
  | str s=>exact ⟨_,h,fun _=>ak (ea _)⟩
  | nils=>exact ⟨_,h,fun _=>ak iG⟩
  | nilf=>exact ⟨_,h,fun _=>ak iJ⟩
  | nilp=>exact ⟨_,h,fun _=>ak jP⟩
  | nili=>exact ⟨_,h,fun _=>ak jN⟩
  | sl rows=>exact ⟨_,h,fun g=>ak (by assumption)⟩
  | elt row off=>exact ⟨_,h,fun g=>ak (by assumption)⟩
  | cst v=>exact ⟨_,h,fun g=>by grind [gA]⟩
  | vw a1 a2 a3 a4 a5=>exact ⟨_,h,fun g=>by grind [gA]⟩
  | ref2 i=>exact ⟨_,h,fun g=>by grind [gA]⟩
  | aptr2 i j=>exact ⟨_,h,fun g=>by grind [gA]⟩
  | ifc t a1=>exact ⟨_,h,fun g=>by grind [gA]⟩
 | succ k ih =>
  intro a K h;cases a with
  | ref i=>obtain ⟨j,h1,h2⟩:=em h;grind [qp]
  | ptr i o=>obtain ⟨j,h1,h2⟩:=em h;grind [qI]
  | aptr i s x o=>exact h.elim
  | mpr i=>obtain ⟨j,h1,h2⟩:=em h;grind [qM]
  | np i=>obtain ⟨j,h1,h2⟩:=em h;grind [rm_np]
  | agg cs=>obtain ⟨bs,h1,h2⟩:=f6 ih h;grind [xy,gA]
  | tup cs=>obtain ⟨bs,h1,h2⟩:=f6 ih h;grind [xr,gA]
  | func f cs=>obtain ⟨bs,h1,h2⟩:=f6 ih h;grind [we,gA]
  | bnd f cs=>obtain ⟨bs,h1,h2⟩:=f6 ih h;grind [xA,gA]
  | iref i j=>exact h.elim
  | any=>exact ⟨_,h,fun _=>qh⟩
  | int q x=>exact ⟨_,h,fun _=>ak (an _ _)⟩
  | bool b=>exact ⟨_,h,fun _=>ak (cz _)⟩
  | str s=>exact ⟨_,h,fun _=>ak (ea _)⟩
  | nils=>exact ⟨_,h,fun _=>ak iG⟩
  | nilf=>exact ⟨_,h,fun _=>ak iJ⟩
  | nilp=>exact ⟨_,h,fun _=>ak jP⟩
  | nili=>exact ⟨_,h,fun _=>ak jN⟩
  | sl rows=>exact ⟨_,h,fun g=>ak (by assumption)⟩
  | elt row off=>exact ⟨_,h,fun g=>ak (by assumption)⟩
  | cst v=>exact ⟨_,h,fun g=>by grind [gA]⟩
  | vw a1 a2 a3 a4 a5=>exact ⟨_,h,fun g=>by grind [gA]⟩
  | ref2 i=>exact ⟨_,h,fun g=>by grind [gA]⟩
  | aptr2 i j=>exact ⟨_,h,fun g=>by grind [gA]⟩
  | ifc t a1=>exact ⟨_,h,fun g=>by grind [gA]⟩
def bkO (ρ:List Nat) (n0 n1:Nat) (o:Ob) (K:Ob->Prop):Prop :=
 match o with
 | .dead=>K .dead
 | .box cs=>bkL (bkA ρ n0 n1 3) cs fun cs=>K (.box cs)
 | .boxB t cs=>bkL (bkA ρ n0 n1 3) cs fun cs=>K (.boxB t cs)
 | .hd e k=>bkK ρ n0 n1 k fun k=>K (.hd e k)
 | .arr e s rows=>K (.arr e s rows)
 | .mp ks vs=>K (.mp ks vs)
 | .cl e s cells=>K (.cl e s cells)
 | _=>False
theorem qw {o:Ob} {K:Ob->Prop} (h:bkO ρ n0 n1 o K):∃ b,K b/\(gO o->RenOM (aX ρ n0 n1) b o):=by
 cases o with
 | dead=>exact ⟨_,h,fun _=>trivial⟩
 | box cs=>obtain ⟨bs,h1,h2⟩:=f6 kE h;exact ⟨_,h1,fun g=>h2 g⟩
 | boxB t cs=>obtain ⟨bs,h1,h2⟩:=f6 kE h;exact ⟨_,h1,fun g=>⟨rfl,h2 g⟩⟩
 | hd e k=>obtain ⟨j,h1,h2⟩:=em h;exact ⟨_,h2,fun _=>⟨rfl,h1⟩⟩
 | arr e s rows=>exact ⟨_,h,fun g=>⟨rfl,rfl,rfl,g⟩⟩
 | mp ks vs=>exact ⟨_,h,fun g=>⟨lh fun c hc=>g c (List.mem_append_left _ hc),lh fun c hc=>g c (List.mem_append_right _ hc)⟩⟩
 | cl e s cells=>exact ⟨_,h,fun g=>⟨rfl,rfl,rfl,g⟩⟩
 | arrU e s rows x=>exact h.elim
def pkC (n0 n1:Nat) (ρ0:List Nat) (j:Nat) (o:Ob) (K:Ob->Prop):List Nat->List Ob->Prop
 | [],_=>K o
 | i::ρ,os=>(match os with
  | []=>False
  | o1::os=>(match Nat.beq i j with
   | true=>bkO ρ0 n0 n1 o1 K
   | false=>pkC n0 n1 ρ0 j o K ρ os))
def exC (ρ:List Nat) (n0 n1:Nat):List Ob->(List Ob->Prop)->Prop
 | [],K=>K []
 | o::os,K=>bkO ρ n0 n1 o fun o=>exC ρ n0 n1 os fun os=>K (o::os)
def bwC (ρ:List Nat) (n0 n1:Nat) (aw1:List Ob):Nat->List Ob->(List Ob->Prop)->Prop
 | _,[],K=>dropC aw1 ρ.length fun os=>exC ρ n0 n1 os K
 | j,o::r,K=>pkC n0 n1 ρ j o (fun o=>bwC ρ n0 n1 aw1 (j+1) r fun l=>K (o::l)) ρ aw1
theorem qG {aw1:List Ob} (hg:∀ o,o∈aw1->gO o) (hl:aw1.length=n1) {j:Nat} {o:Ob} {K:Ob->Prop}:∀ {ρ1:List Nat} {os:List Ob} {k:Nat},ρ.drop k=ρ1->aw1.drop k=os->pkC n0 n1 ρ j o K ρ1 os ->
  ∃ b,K b/\((∃ k o1,(j,k)∈aX ρ n0 n1/\aw1[k]?=some o1/\RenOM (aX ρ n0 n1) b o1)∨(ρ1.contains j=false/\b=o))
 | [],os,k,_,_,h=>⟨o,h,.inr ⟨rfl,rfl⟩⟩
 | i::ρ1,[],k,_,_,h=>h.elim
 | i::ρ1,o1::os,k,h1,h2,h=>by
  have e1:ρ[k]?=some i:=by have:=congrArg List.head? h1;simpa using this
  have e2:aw1[k]?=some o1:=by have:=congrArg List.head? h2;simpa using this
  simp only [pkC] at h;split at h
  ·rename_i hb;have:=Al hb;subst this;obtain ⟨b,h3,h4⟩:=qw h;have hk:k<ρ.length:=(zK.1 e1).1;have hk1:k<n1:=by grind
   refine ⟨b,h3,.inl ⟨k,o1,?_,e2,h4 (hg _ (zM e2))⟩⟩;simp_all [aX]
  ·rename_i hb;obtain ⟨b,h3,h4⟩:=qG hg hl (k:=k+1) (by grind [List.tail_drop]) (by grind [List.tail_drop]) h;refine ⟨b,h3,h4.imp id fun ⟨h5,h6⟩=>⟨?_,h6⟩⟩;rw [List.contains_cons,h5,Bool.or_false];cases he:j==i;all_goals simp_all
theorem ql {aw aw1:List Ob} (hg:∀ o,o∈aw1->gO o) (hl:aw1.length=n1) (hr:ρ.length<=n1):∀ {os:List Ob} {j:Nat} {K:List Ob->Prop},aw1.drop (ρ.length+j)=os->exC ρ n0 n1 os K->∃ bs,K bs/\cT (aX ρ n0 n1) ρ aw aw1 (n0+j) bs/\bs.length=os.length
 | [],j,K,_,h=>⟨[],h,trivial,rfl⟩
 | o::os,j,K,h1,h=>by
  have e1:aw1[ρ.length+j]?=some o:=by have:=congrArg List.head? h1;simpa using this
  obtain ⟨b,h2,h3⟩:=qw h;obtain ⟨bs,h4,h5,h6⟩:=ql (aw:=aw) hg hl hr (j:=j+1) (by grind [List.tail_drop]) h2;refine ⟨b::bs,h4,⟨.inl ⟨ρ.length+j,o,?_,e1,h3 (hg _ (zM e1))⟩,by omega⟩,by simp [h6]⟩;unfold aX;grind
theorem lT {aw aw1:List Ob} (hg:∀ o,o∈aw1->gO o) (hl:aw1.length=n1) (hn:aw.length=n0):∀ {l:List Ob} {j:Nat} {K:List Ob->Prop},aw.drop j=l->j<=n0->bwC ρ n0 n1 aw1 j l K->∃ bs,K bs/\cT (aX ρ n0 n1) ρ aw aw1 j bs/\bs.length+ρ.length=l.length+n1
 | [],j,K,h0,hj,h=>by
  obtain ⟨h1,h⟩:=lJ h;have hj':j=n0:=by simp_all<;>omega
  subst hj';obtain ⟨bs,h2,h3,h4⟩:=ql (aw:=aw) hg hl (by omega) (j:=0) rfl h;grind
 | o::r,j,K,h0,hj,h=>by
  have e1:aw[j]?=some o:=by have:=congrArg List.head? h0;simpa using this
  have hjl:j<aw.length:=(zK.1 e1).1;obtain ⟨b,h1,h2⟩:=qG (k:=0) hg hl rfl rfl h;obtain ⟨bs,h3,h4,h5⟩:=lT hg hl hn (j:=j+1) (by grind [List.tail_drop]) (by omega) h1;refine ⟨b::bs,h3,⟨h2.imp id fun ⟨h6,h7⟩=>⟨h6,by grind⟩,h4⟩,?_⟩;grind
def cgC (n:Nat) (l:List (Nat × AV)) (aw:List Ob) (ρ:List Nat) (n0 n1:Nat) (f:Operand) (args:List Operand) (h:Nat) (as0:List AV) (aw0:List Ob) (v:AV) (aw1:List Ob) (K:AV->List Ob->Prop):Prop :=
 match evA n l f with
 | .func g caps=>(match Nat.beq g h with
  | true=>evsC n l args fun es=>appC es caps fun ac=>mpC (mpA ρ 3) as0 ac fun bs=>mpOs ρ aw ρ aw0 fun bs' es'=>(bs,bs')=(ac,es')/\bkA ρ n0 n1 3 v fun v=>bwC ρ n0 n1 aw1 0 aw fun aw2=>K v aw2
  | false=>False)
 | .bnd g fs=>(match Nat.beq g h with
  | true=>evsC n l args fun es=>appC fs es fun ac=>mpC (mpA ρ 3) as0 ac fun bs=>mpOs ρ aw ρ aw0 fun bs' es'=>(bs,bs')=(ac,es')/\bkA ρ n0 n1 3 v fun v=>bwC ρ n0 n1 aw1 0 aw fun aw2=>K v aw2
  | false=>False)
 | _=>False
theorem cG {d:Option Tmp} {ty:TypeId} {ps:String} {af:Array Edge} {gd:Option (Nat × Bool)} {K2:AV->List Ob->Prop} {f:Operand} {args:Array Operand} {ts:Array TypeId} {h:FuncId} {as0:List AV} {aw0 aw1:List Ob} {v:AV} (ρ:List Nat) (n0 n1:Nat) (hC:FnX P h as0 aw0 v aw1)
  (hx:cgC n l aw ρ n0 n1 f args.toList h as0 aw0 v aw1 K2) [ga:GoodAs 3 as0] [go:GoodOs aw0] [gv:GoodA 3 v] [g1:GoodOs aw1] (hn0:aw.length=n0:=by rfl) (hn1:aw1.length=n1:=by rfl) (hnd:ρ.Nodup:=by decide):OP P N ⟨d,.call ⟨.value f,args,ts⟩,ty,ps,af,gd⟩ (mkA n l) aw K2:=by
 unfold cgC at hx
 split at hx
 ·rename_i g caps hf
  split at hx
  ·rename_i hb
   have:=Al hb
   subst this
   have hx:=kk (iV hx)
   obtain ⟨bs,hx,h2⟩:=eo (ρ:=ρ) fZ hx
   obtain ⟨bs',es',hx,h3⟩:=gU hx
   obtain ⟨he,hx⟩:=hx
   injection he with e1 e2
   obtain ⟨v',hx,h4⟩:=kE hx
   obtain ⟨aw2,hx,h5,h6⟩:=lT g1.out hn1 hn0 (j:=0) rfl (Ae _) hx
   exact pG ρ hn0 hn1 hf rfl hnd (h3 go.out e2) (h2 ga.out e1) hC (by grind) (h4 gv.out) h5 hx
  grind
 ·rename_i g caps hf
  split at hx
  ·rename_i hb
   have:=Al hb
   subst this
   have hx:=kk (iV hx)
   obtain ⟨bs,hx,h2⟩:=eo (ρ:=ρ) fZ hx
   obtain ⟨bs',es',hx,h3⟩:=gU hx
   obtain ⟨he,hx⟩:=hx
   injection he with e1 e2
   obtain ⟨v',hx,h4⟩:=kE hx
   obtain ⟨aw2,hx,h5,h6⟩:=lT g1.out hn1 hn0 (j:=0) rfl (Ae _) hx
   exact uK ρ hn0 hn1 hf rfl hnd (h3 go.out e2) (h2 ga.out e1) hC (by grind) (h4 gv.out) h5 hx
  grind
 grind
end
theorem nB {c:Code} (b j e z k:Nat) (h:aY aw b fun o=>(match o with
  | .box cs=>aY cs j fun v=>(match v with
   | .nils=>setC cs j (.ref k) fun cs=>setC aw b (.box cs) fun aw=>pushC aw (.arr e z []) fun aw=>T P N c Q (mkA n l) aw
   | _=>False)
  | _=>False)) (hk:aw.length=k:=by rfl):T P N c Q (mkA n l) aw:=by
 subst hk
 obtain ⟨o,h1,h⟩:=aU h
 split at h
 ·obtain ⟨v,h2,h⟩:=aU h
  split at h
  ·exact T.nilB b j e z h1 h2 rfl rfl (gP (fS (fS h)))
  grind
 grind
def bm (n k:Nat):Array Bool:=((List.range n).map k.testBit).toArray
end
end
section
open Go.RowKit
section
variable {P:Program} {N n:Nat} {aw aw':List Ob} {l:List (Nat × AV)} {σ:List Value} {w:World} {F:Nat→Prop}
theorem Mv.lose (id:Nat):Mv aw σ w F (aw.set id .dead) σ w F :=
 ⟨rfl,rfl,drO,zP _,fun _ _ _=>rfl,fun _ _ h=>h,fun _ h=>h,fun _ h=>.inl h,fun _ hb=>.inl hb.set_dead⟩
theorem Sim.take (h:Sim aw σ w F) (o:Ob) (v:Value) (ho:ORel (σ++[v]) w F o v) (hn:∀ b,Bk o v b->¬ Dof aw σ b):Sim (aw++[o]) (σ++[v]) w F :=
 h.push2 o v (fun _ _=>rfl) (zP _) ho hn
theorem Mv.take {aw0:List Ob} {σ0:List Value} (h:Sim aw σ w F) (m:Mv aw0 σ0 w F aw σ w F) (o:Ob) (v:Value) (hb:∀ b,Bk o v b->Dof aw0 σ0 b):Mv aw0 σ0 w F (aw++[o]) (σ++[v]) w F:=by
 refine ⟨rfl,rfl,drO,zP _,fun _ _ _=>rfl,fun i u hu=>cj (m.pre i u hu),fun _ h=>h,fun _ h=>.inl h,fun b hb1=>?_⟩;obtain ⟨k,o1,v1,ho1,hl,hv1,hb2⟩:=hb1;rcases cN ho1 with h1 | ⟨rfl,rfl⟩
 ·have hlt:=(zK.1 h1).1;rw [zS (by rw [h.len];exact hlt)] at hv1;exact m.own b ⟨k,o1,v1,h1,hl,hv1,hb2⟩
 ·rw [<- h.len] at hv1;grind
end
end
section
open Go.RowKit
def PanX (P:Program) (V:Value) (f:FuncId) (args:List AV) (aw:List Ob):Prop :=
 (∀ vs w,(callFunc f vs).run P w=.ok (.enter f vs) w) /\
 ∀ w F σ vs,Sim aw σ w F->RelL σ w F args vs->Calls P f vs.toArray w fun e w'=>∃ σ' F',e=.panicked [{ v:=V,recovered:=false }]/\Sim (aw.map fun _=>Ob.dead) σ' w' F'/\Mv aw σ w F (aw.map fun _=>Ob.dead) σ' w' F'
section
variable {P:Program} {V:Value} {N n:Nat} {fr:List AV} {aw aw':List Ob} {l:List (Nat × AV)}
structure PP (P:Program) (V:Value) (N:Nat) (o:Oper) (fr:List AV) (aw:List Ob) (Kp:List AV->List Ob->Prop):Prop where
 out:∀ st:St,st.aw.length=N->st.σ.length=st.aw.length->∀ σ w F a,Cur st fr aw σ w F a->∀ (Kc:Act->World->Prop) (Q:Exit->Act->World->Prop),
  (∀ aw' σ' w' F',Kp fr aw'->Cur st fr aw' σ' w' F' a->Q (.panic [{ v:=V,recovered:=false }]) a w')->o.wp P a w Kc Q
theorem tT {o:Oper} {a:Act} {next next':Act->World->Prop} {Q Q':Exit->Act->World->Prop} (hn:∀ a w,next a w->next' a w) (hp:∀ ch a w,Q (.panic ch) a w->Q' (.panic ch) a w) (hl:LetsOut Q->LetsOut Q') :
  ∀ r,o.upon P a next Q r->o.upon P a next' Q' r:=by
 intro r h
 unfold Oper.upon at h ⊢
 grind [Calls.mono,Rows.mono]
def thenL (P:Program) (ops:Array Oper) (rest:List Oper) (Q:Exit->Act->World->Prop):Exit->Act->World->Prop
 | .normal,a,w=>wpList P ops Q rest a w
 | e,a,w=>Q e a w
theorem ix {ops:Array Oper} {Q:Exit->Act->World->Prop} {rest:List Oper}:∀ (pre:List Oper) (a:Act) (w:World),wpList P ops (thenL P ops rest Q) pre a w->wpList P ops Q (pre++rest) a w
 | [],a,w,h=>h
 | o::pre,a,w,h=>by
  rw [AA];unfold wpList at h ⊢;split at h
  ·rename_i hw;rw [if_pos hw];rcases h with h | ⟨h1,h2⟩
   ·exact .inl (tT (fun a w h=>ix pre a w h) (fun _ _ _ h=>h) (fun h=>h) _ h)
   ·exact .inr ⟨h1,h2⟩
  ·rename_i hw;rw [if_neg hw];exact ix pre _ w h
theorem T.regionP {id:Nat} {ops:Array Oper} {Q:Exit->List AV->List Ob->Prop} {pre rest:List Oper} {o:Oper} (ho:ops.toList=pre++o::rest) (hg:o.guard=none)
  (h:RS P N ops pre (fun fr aw=>PP P V N o fr aw (Q (.panic [{ v:=V,recovered:=false }]))) fr aw):T P N (.region id ops false) Q fr aw :=
 ⟨fun st h1 h2 σ w F a hc=>by refine wp_region_list ?_;rw [ho];refine ix _ _ _ (h.out st h1 h2 σ w F a hc _ fun fr aw σ w F a hc hK=>?_);show wpList P ops _ (o::rest) a w;unfold wpList;rw [if_pos (by grind [Region.wanted])];exact .inl (hK.out st h1 h2 σ w F a hc _ _ fun aw' σ' w' F' hKp hcur=>⟨fr,aw',σ',F',hKp,hcur⟩)⟩
theorem PP.call {d:Option Tmp} {ty:TypeId} {ps:String} {af:Array Edge} {g:Option (Nat × Bool)} {Kp:List AV->List Ob->Prop} {f:Operand} {args:Array Operand} {ts:Array TypeId} {h:FuncId} {caps ac as0:List AV} {aw0 aw2:List Ob} {n0:Nat} (ρ:List Nat) (hn0:aw.length=n0)
  (hf:evA n l f=.func h caps) (ha:args.toList.map (evA n l)++caps=ac) (hnd:ρ.Nodup) (hW:ba ρ aw ρ aw0) (hA:bd ρ as0 ac) (hC:PanX P V h as0 aw0) (hlen:aw2.length+ρ.length=n0+aw0.length)
  (hB:cT (aX ρ n0 aw0.length) ρ aw (aw0.map fun _=>Ob.dead) 0 aw2) (hK:Kp (mkA n l) aw2):PP P V N ⟨d,.call ⟨.value f,args,ts⟩,ty,ps,af,g⟩ (mkA n l) aw Kp :=
 ⟨fun st h1 h2 σ w F a hc Kc Q hk=>by
  subst hn0;have hfv:=hc.fr.ev f;rw [am,hf] at hfv;generalize hvf:a.eval f=vf at hfv;cases hfv with
  | func _ _ cvs hl hcs =>
   have hargs:RelL σ w F ac (args.toList.map a.eval++cvs):=by rw [<- ha];have:=e6 hc.fr args.toList;rw [show args.toList.map (ev (mkA n l))=args.toList.map (evA n l) from Au fun x _=>am n l x] at this;exact this.append ⟨hl,hcs⟩
   obtain ⟨hlW,hgW⟩:=fa hW;obtain ⟨σ0',hσ',hs0',hd0'⟩:=dM hc.sim hnd hW;have hl0:σ0'.length=ρ.length:=by rw [hs0'.len,hlW]
   have hr0:RelL σ0' w F as0 (args.toList.map a.eval++cvs):=cA hA hargs hσ';have hrun:(execOp a.eval ⟨d,.call ⟨.value f,args,ts⟩,ty,ps,af,g⟩).run P w=.ok (.enter h (args.toList.map a.eval++cvs).toArray) w:=by
    have e:args.map a.eval++cvs.toArray=(args.toList.map a.eval++cvs).toArray:=by simp
    simp only [execOp,resolve,Deferred.ofValue,hvf,Sem.run_bind,Sem.run_pure,Result.andThen_ok,invoke,Array.empty_append,e,hC.1]
   unfold Oper.wp;rw [hrun];refine (hC.2 w F σ0' _ hs0' hr0).mono ?_;rintro e w' ⟨σ1,F',rfl,hs1,hm⟩;obtain ⟨σ2,s2,m2,hσ2⟩:=jO (aw2:=aw2) hc.sim hnd hW hσ' hl0 hs0' hd0' hs1 hm (by grind) (by grind);exact hk aw2 σ2 w' F' hK (hc.step s2 m2)⟩
def panQ (V:Value):Exit->List AV->List Ob->Prop
 | .panic ch,_,_=>ch=[{ v:=V,recovered:=false }]
 | _,_,_=>False
theorem nX {ρ:List Nat} {aw0:List Ob}:∀ (ids:List Nat) (aw:List Ob),ids.length=aw.length->(∀ id,id∈ids->id<aw0.length)->ba ρ aw0 ids (aw.map fun _=>Ob.dead)
 | [],[],_,_=>trivial
 | [],_::_,h,_=>by simp at h
 | _::_,[],h,_=>by simp at h
 | id::ids,o::aw,h,hi=>⟨⟨_,zJ (hi id Aj),tqz⟩,nX ids aw (by simpa using h) fun j hj=>hi j (Ai _ hj)⟩
theorem uz {f:FuncId} {fn:Func} {c:Code} {args:List AV} {aw:List Ob} {m N:Nat} (hN:aw.length=N) (hf:P.funcs[f]?=some fn) (hb:fn.body=some c) (hname:(fn.name == "runtime.NumGoroutine")=false) (hm:fn.ntmps=m) (hl:Nat.ble args.length m=true)
  (h:T P N c (panQ V) (mkA m (initA 0 args)) aw):PanX P V f args aw:=by
 subst hm hN
 refine ⟨callable hf (by rw [hb];rfl) hname,fun w F σ vs hs hr=>?_⟩
 have hc:Cur ⟨aw,σ,w,F,[]⟩ (args++List.replicate (fn.ntmps - args.length) .any) aw σ w F { tmps:=vs.toArray++Array.replicate (fn.ntmps - vs.toArray.size) undef,defers:=[] }:=by
  refine ⟨hs,⟨?_,tqz⟩,.refl ..,rfl⟩;have h2:RelL σ w F (List.replicate (fn.ntmps - args.length) .any) (List.replicate (fn.ntmps - vs.length) undef) :=
   ⟨by simp [hr.1],fun j x v hx hv=>by rw [AG (zM hx)];exact .any v⟩
  simpa using hr.append h2
 rw [lI _ _ (Ar hl)] at hc
 refine calls_of_wp hf hb (wp_mono (h.out ⟨aw,σ,w,F,[]⟩ rfl hs.len σ w F _ hc) ?_)
 rintro e a' w' ⟨fr',aw',σ',F',hq,hcur⟩
 cases e with
 | panic ch =>
  have hq:ch=_:=hq
  subst hq
  have hlen:aw.length<=aw'.length:=by
   have h1:=hcur.sim.len;have h2:=hcur.mv.pre;have h3:=hs.len;by_cases h0:aw.length=0
   ·omega
   ·have:=(zK.1 (h2 (aw.length - 1) _ (zJ (by grind)))).1;omega
  obtain ⟨σ2,hσ,s2,hd⟩:=dM (aw':=aw.map fun _=>Ob.dead) (ρ:=List.range aw.length) hcur.sim List.nodup_range (nX _ _ (by simp) fun id hid=>by grind)
  exact ⟨hcur.ds,σ2,F',rfl,s2,Mv.ren (st:=⟨aw,σ,w,F,[]⟩) hs.len hcur.mv (fun k hk=>by grind) hσ hd⟩
 | normal=>exact hq.elim
 | ret=>exact hq.elim
 | exit id=>exact hq.elim
 | goto l=>exact hq.elim
 | outgrown=>exact hq.elim
end
end
section
open Go.RowKit
section
variable {P:Program} {N n:Nat} {σ:List Value} {w:World} {F:Nat→Prop} {aw aw':List Ob} {l:List (Nat × AV)} {K2:AV→List Ob→Prop} {d:Option Tmp} {ty:TypeId} {ps:String} {af:Array Edge} {g:Option (Nat × Bool)}
theorem w5 {id:Nat} {o o':Ob} {v:Value} (h:Sim aw σ w F) (ho:aw[id]?=some o) (hl:o.live=true) (hv:σ[id]?=some v) (hr:ORel σ w F o' v) (hb:∀ b,Bk o' v b->Bk o v b) :
  Sim (aw.set id o') σ w F/\∀ b,Dof (aw.set id o') σ b->Dof aw σ b:=by
 have old:∀ (k:Nat) p u b,(aw.set id o')[k]?=some p->p.live=true->σ[k]?=some u->Bk p u b->∃ q,aw[k]?=some q/\q.live=true/\Bk q u b:=fun k p u b hp hpl hu hbk=>by grind
 refine ⟨⟨by rw [Ax];exact h.len,fun k p u hp hu=>?_,fun k k' p p' u u' b hne hp hp' hpl hpl' hu hu' hbk hbk'=>?_,h.lt,h.gd⟩,fun b hd=>?_⟩
 ·rcases c6 hp with ⟨rfl,rfl,_⟩ | ⟨_,h2⟩
  ·grind
  ·exact h.obj k p u h2 hu
 ·obtain ⟨q,h1,h2,h3⟩:=old k p u b hp hpl hu hbk
  obtain ⟨q',h1',h2',h3'⟩:=old k' p' u' b hp' hpl' hu' hbk'
  exact h.sep k k' q q' u u' b hne h1 h1' h2 h2' hu hu' h3 h3'
 ·obtain ⟨k,p,u,hp,hpl,hu,hbk⟩:=hd
  obtain ⟨q,h1,h2,h3⟩:=old k p u b hp hpl hu hbk
  exact ⟨k,q,u,h1,h2,hu,h3⟩
theorem xg {aw0 aw2:List Ob} {σ0:List Value} {w0:World} {F0:Nat->Prop} (h:Mv aw0 σ0 w0 F0 aw σ w F) (hd:∀ b,Dof aw2 σ b->Dof aw σ b):Mv aw0 σ0 w0 F0 aw2 σ w F :=
 ⟨h.os,h.tape,h.output,h.size,h.keep,h.pre,h.sub,h.sup,fun b hb=>h.own b (hd b hb)⟩
def unB:Ob->Ob
 | .boxB _ cs=>.box cs
 | o=>o
theorem oT (o:Ob):(unB o).live=o.live:=by cases o<;>rfl
theorem qz {o:Ob} {v:Value} {b:Nat}:Bk (unB o) v b ↔ Bk o v b:=by cases o<;>exact Iff.rfl
theorem wY (h:Sim aw σ w F):Sim (aw.map unB) σ w F:=by
 have old:∀ (k:Nat) p,(aw.map unB)[k]?=some p->∃ q,aw[k]?=some q/\p=unB q:=fun k p hp=>by grind
 refine ⟨by rw [zZ];exact h.len,fun k p u hp hu=>?_,fun k k' p p' u u' b hne hp hp' hpl hpl' hu hu' hbk hbk'=>?_,h.lt,h.gd⟩
 ·obtain ⟨q,h1,rfl⟩:=old k p hp;have hr:=h.obj k q u h1 hu;cases q with
  | boxB t cs =>
   obtain ⟨g,vs,e1,hg,hr1,h11,hf⟩:=hr;exact ⟨g,vs,t,e1,hg,hr1,h11,hf⟩
  | _=>exact hr
 ·obtain ⟨q,h1,rfl⟩:=old k p hp;obtain ⟨q',h1',rfl⟩:=old k' p' hp';exact h.sep k k' q q' u u' b hne h1 h1' (by grind [oT]) (by grind [oT]) hu hu' (qz.1 hbk) (qz.1 hbk')
theorem OP.qB {o:Oper} (hq:∀ K:AV->Prop,vcQ P (mkA n l) (aw.map unB) o.op K->∀ σ w F a,ARel σ w F (mkA n l) a->Sim (aw.map unB) σ w F->∃ v r,(execOp a.eval o).run P w=.ok (.value v) w/\Rel σ w F r v/\K r)
  (h:vcQ P (mkA n l) (aw.map unB) o.op fun r=>K2 r aw):OP P N o (mkA n l) aw K2 :=
 OP.of_ok fun σ w F a ha hs=>by obtain ⟨v,r,h1,h2,h3⟩:=hq _ h σ w F a ha (wY hs);exact ⟨v,_,w,aw,σ,F,r,h1,.inl rfl,hs,.refl _ _ _ _,h2,h3⟩
theorem OP.qB' {o:Oper} (h:vcQ P (mkA n l) (aw.map unB) o.op fun r=>K2 r aw):OP P N o (mkA n l) aw K2 :=
 OP.qB (fun K hK σ w F a ha hs=>by obtain ⟨v,r,h1,h2,h3⟩:=lX ha hs o hK;exact ⟨v,r,h1 w (fun _ _=>rfl),h2,h3⟩) h
theorem vp {t:TypeId} {x y:Operand} {id off T:Nat} {cs vs:List AV} (hx:evA n l x=.ptr id off) (hob:aw[id]?=some (.boxB T cs)) (hvs:(evA n l y).cells=some vs) {du:TypeDesc} (hsome:P.underlying t=some du) (hlen:vs.length=P.cellsOf t) (hfit:off+vs.length<=cs.length)
  (haw:aw.set id (.boxB T (splice cs off vs))=aw') (h:K2 .any aw'):OP P N ⟨d,.store t x y,ty,ps,af,g⟩ (mkA n l) aw K2 :=
 OP.of_ok fun σ w F a ha hs=>by
  subst haw;have hex:=ha.ev x;rw [am,hx] at hex;obtain ⟨hr,h1⟩:=(ha.ev y).cells (by rw [am];exact hvs);generalize hv:a.eval x=vx at hex;cases hex with
  | ptr _ _ gg hσ =>
   obtain ⟨g',cur,e1,hg,hcr,hc1,hF⟩:=hs.obj id _ _ hob hσ;injection e1 with e1
   injection e1 with e1
   injection e1 with e1
   subst e1;have hcl:cur.size=cs.length:=by simpa using hcr.1
   have hul:(a.eval y).cells.toList.length=vs.length:=hr.1;have hst:=run_storeCells_at P gg off T (a.eval y).cells.toList 0 cur w hg (by omega) h1;have hk:∀ b,b≠gg->(w.setRow gg (bf cur.toList off (a.eval y).cells.toList).toArray).heap[b]?=w.heap[b]?:=fun b hb=>setRow_other w gg b _ hb
   have hself:Sim (aw.set id (.boxB T (splice cs off vs))) σ (w.setRow gg (bf cur.toList off (a.eval y).cells.toList).toArray) F:=by
    refine hs.write (b0:=gg) id hob rfl hσ rfl hk (by simp) (.boxB T (splice cs off vs)) ⟨gg,_,rfl,setRow_heap w gg cur _ T (0,0) hg,?_,?_,hF⟩ (fun _ h=>h)
    ·have:=(hcr.splice off hr).mono (σ':=σ) (w':=w.setRow gg (bf cur.toList off (a.eval y).cells.toList).toArray) (F':=F) (fun _ _ e=>e) (fun _ e=>e) (fun b hb=>hk b (fun e=>hF (e▸hb)));omega
    grind [jM]
   refine ⟨undef,_,_,_,σ,F,.any,?_,.inr ⟨rfl,rfl⟩,hself,Mv.write (w:=w) (F:=F) (w':=w.setRow gg _) (b0:=gg) id hob rfl hσ rfl rfl rfl drO hk (by simp) (.boxB T (splice cs off vs)) (fun _ h=>h),.any _,h⟩;simp_all [execOp,Instr.storeAt,Instr.sureAddr,storeVar,cL,bf]
theorem vt {t e z k:Nat} (hz:aq P t=some [.nilp,.nils]) (hk:aw.length=k) (haw:aw++[.boxB t [.np k,.ref (k+1)],.arr e z []]=aw') (h:K2 (.ptr k 0) aw'):OP P N ⟨d,.alloc t,ty,ps,af,g⟩ (mkA n l) aw K2 :=
 OP.of_ok fun σ w F a ha hs=>by
  subst hk haw;obtain ⟨i,v,hi,hiz,hzl,hz1,hzr⟩:=gK hz;obtain ⟨s1,m1,r1⟩:=lE hs [.nilp,.nils] v.cells t (hzr σ w F) hz1;obtain ⟨s2,m2,r2⟩:=j8 e z s1;have hlen:=hs.len;have hσ:(σ++[Value.pointer (some ⟨w.heap.size,0,none⟩)]++[Value.slice none 0 0])[aw.length]?=some (Value.pointer (some ⟨w.heap.size,0,none⟩)):=by grind
  have hσ2:(σ++[Value.pointer (some ⟨w.heap.size,0,none⟩)]++[Value.slice none 0 0])[aw.length+1]?=some (Value.slice none 0 0):=by simp_all
  have hid:(aw++[Ob.box [.nilp,.nils]]++[Ob.arr e z []])[aw.length]?=some (Ob.box [.nilp,.nils]):=by simp
  obtain ⟨gq,vs,tyq,e1,hg,hcr,hc1,hF⟩:=s2.obj _ _ _ hid hσ;injection e1 with e1
  injection e1 with e1
  injection e1 with e1
  subst e1;have hty:(w.alloc (.cells v.cells t)).heap[w.heap.size]?=some (.cells v.cells t (0,0)):=by show (w.heap.push _)[w.heap.size]?=_;simp
  rw [hty] at hg;cases hg;have hnew:RelL (σ++[Value.pointer (some ⟨w.heap.size,0,none⟩)]++[Value.slice none 0 0]) (w.alloc (.cells v.cells t)) F [.np aw.length,.ref (aw.length+1)] v.cells.toList:=by
   obtain ⟨hl2,hc⟩:=hcr;refine ⟨hl2,fun j x u hx hu=>?_⟩;match j,hx with
   | 0,hx =>
    cases hx
    have:=hc 0 _ u rfl hu
    cases this
    exact .np0 _
   | 1,hx =>
    cases hx
    have:=hc 1 _ u rfl hu
    cases this
    grind
  obtain ⟨s3,hd3⟩:=w5 s2 hid rfl hσ (o':=.boxB t [.np aw.length,.ref (aw.length+1)]) ⟨_,_,rfl,hty,hnew,hc1,hF⟩ (fun _ h=>h);have e3:(aw++[Ob.box [.nilp,.nils]]++[Ob.arr e z []]).set aw.length (.boxB t [.np aw.length,.ref (aw.length+1)])=aw++[.boxB t [.np aw.length,.ref (aw.length+1)],.arr e z []]:=by simp
  rw [e3] at s3 hd3;refine ⟨_,_,_,_,_,F,.ptr aw.length 0,?_,.inl rfl,s3,xg (m1.trans m2) hd3,.ptr _ _ _ hσ,h⟩;simp_all [execOp,Instr.alloc,jy,newVar,newRow]
theorem T.mvBB {T0:Nat} {c:Code} {Q:Exit->List AV->List Ob->Prop} {fr:List AV} (b j id:Nat) {e s n0:Nat} {rows:List (List AV)} {cs cs':List AV} (hb:aw[b]?=some (.boxB T0 cs)) (hj:cs[j]?=some (.ref id)) (ho:aw[id]?=some (.arr e s rows)) (hn:aw.length=n0) (hc:cs.set j (.ref n0)=cs') (ha:(aw.set id .dead).set b (.boxB T0 cs')++[.arr e s rows]=aw') (h:T P N c Q fr aw'):T P N c Q fr aw :=
 ⟨fun st h1 h2 σ w F a hcur=>by
  subst hc ha hn;have hbl:b<aw.length:=(zK.1 hb).1;have hbσ:∃ vb,σ[b]?=some vb:=⟨_,zJ (by rw [hcur.sim.len];exact hbl)⟩
  obtain ⟨vb,hvb⟩:=hbσ;obtain ⟨g,vs,rfl,hg,hcr,h1c,hf⟩:=hcur.sim.obj b _ vb hb hvb;obtain ⟨u,hu,hru⟩:=hcr.get hj;cases hru with
  | ref _ A m c2 hgσ =>
   obtain ⟨s1,m1⟩:=pJ hcur.sim ho hgσ;have hbid:b≠id:=by grind
   have hb1:(aw.set id .dead++[.arr e s rows])[b]?=some (.boxB T0 cs):=by grind
   have hnew:ORel (σ++[.slice A m c2]) w F (.boxB T0 (cs.set j (.ref aw.length))) (.pointer (some ⟨g,0,none⟩)):=by refine ⟨g,vs,rfl,hg,?_,h1c,hf⟩;have hcr1:=m1.relL hcur.sim hcr;have:=hcr1.set j (Rel.ref (σ:=σ++[.slice A m c2]) (w:=w) (F:=F) aw.length A m c2 (by rw [<- hcur.sim.len];simp));grind [List.set_getElem_self]
   have hvb1:(σ++[.slice A m c2])[b]?=some (.pointer (some ⟨g,0,none⟩)):=cj hvb;have hset:(aw.set id .dead).set b (.boxB T0 (cs.set j (.ref aw.length)))++[Ob.arr e s rows]=(aw.set id .dead++[Ob.arr e s rows]).set b (.boxB T0 (cs.set j (.ref aw.length))):=by grind
   rw [hset] at h;have s2:=s1.write (b0:=g) b hb1 rfl hvb1 rfl (fun _ _=>rfl) rfl _ hnew (fun _ h=>h);have m2:=Mv.write (w:=w) (w':=w) (F:=F) (b0:=g) b hb1 rfl hvb1 rfl rfl rfl drO (fun _ _=>rfl) rfl (.boxB T0 (cs.set j (.ref aw.length))) (fun _ h=>h);exact h.out st h1 h2 _ w F a ⟨s2,m2.aRel s1 (m1.aRel hcur.sim hcur.fr),(hcur.mv.trans m1).trans m2,hcur.ds⟩⟩
theorem sJ {t id off T:Nat} {x:Operand} {cs:List AV} (hx:evA n l x=.ptr id off) (ho:aw[id]?=some (.boxB T cs)) (h:aV P t cs off fun r=>K2 r aw):OP P N ⟨d,.load t x,ty,ps,af,g⟩ (mkA n l) aw K2 :=
 OP.qB' (by simp_all [unB,vcQ,am])
end
end
section
open Go.RowKit
def Idle (P:Program) (d:Deferred):Prop:=∃ fv cap f args,d.target=.fn fv cap/\(∀ w,(invoke d.target d.args).run P w=.ok (.enter f args) w) /\
 ∀ w,CallsD P f args .returning w fun e u' w'=>(∃ v,e=.returned v)/\u'=.returning/\w'=w
def IdleF (P:Program) (g:FuncId) (k:Nat):Prop:=∀ cvs:List Value,cvs.length=k->Idle P ⟨.fn (.func g) cvs.toArray,#[]⟩
section
variable {P:Program} {N n:Nat} {fr:List AV} {aw:List Ob} {l:List (Nat × AV)} {Q:Exit→List AV→List Ob→Prop}
def CQD (P:Program) (st:St) (Q:Exit->List AV->List Ob->Prop) (e:Exit) (a:Act) (w:World):Prop:=CQ st Q e a w∨∃ d,Idle P d/\CQ { st with ds:=[d] } Q e a w
structure TD (P:Program) (N:Nat) (c:Code) (Q:Exit->List AV->List Ob->Prop) (fr:List AV) (aw:List Ob):Prop where
 out:∀ st:St,st.aw.length=N->st.σ.length=st.aw.length->st.ds=[]->∀ σ w F a,Cur st fr aw σ w F a->c.wp P (CQD P st Q) a w
theorem TD.seq {x y:Code} (h:T P N x (thenA (TD P N y Q) Q) fr aw):TD P N (.seq x y) Q fr aw :=
 ⟨fun st h1 h2 h3 σ w F a hc=>wp_seq (wp_mono (h.out st h1 h2 σ w F a hc) (by
  rintro e a' w' ⟨fr',aw',σ',F',hq,hcur⟩;cases e with
  | normal=>exact TD.out hq st h1 h2 h3 σ' w' F' a' hcur
  | _=>exact .inl ⟨fr',aw',σ',F',hq,hcur⟩))⟩
theorem TD.defer {id:Nat} {ops:Array Oper} {y:Code} {ty:TypeId} {ps:String} {af:Array Edge} {f:Operand} {ts:Array TypeId} (i:Nat) (ho:ops.toList.drop i=[⟨none,.defer ⟨.value f,#[],ts⟩,ty,ps,af,none⟩])
  (h:RS P N ops (ops.toList.take i) (fun fr aw=>∃ l caps g,fr=mkA n l/\evA n l f=.func g caps/\IdleF P g caps.length/\T P N y Q (mkA n l) aw) fr aw):TD P N (.seq (.region id ops false) y) Q fr aw :=
 ⟨fun st h1 h2 h3 σ w F a hc=>by
  refine wp_seq (wp_region_list ?_);rw [<- Av i ops.toList,ho];refine ix _ _ _ (h.out st h1 h2 σ w F a hc _ fun fr aw σ w F a hc hK=>?_);obtain ⟨l,caps,g,rfl,hf,hI,hT⟩:=hK;show wpList P ops _ (_::[]) a w;unfold wpList;rw [if_pos (by rfl)];refine .inl ?_;have hfv:=hc.fr.ev f;rw [am,hf] at hfv;generalize hvf:a.eval f=vf at hfv;cases hfv with
  | func _ _ cvs hl hcs =>
   have hrun:(execOp a.eval ⟨none,.defer ⟨.value f,#[],ts⟩,ty,ps,af,none⟩).run P w=.ok (.defer ⟨.fn (.func g) cvs.toArray,#[]⟩) w:=by simp_all [execOp,resolve,Deferred.ofValue]
   unfold Oper.wp;rw [hrun,Oper.upon_defer];show wpList P ops _ [] _ w;unfold wpList;refine wp_mono (hT.out { st with ds:=[⟨.fn (.func g) cvs.toArray,#[]⟩] } h1 h2 σ w F _ ?_) fun _ _ _ h=>.inr ⟨_,hI cvs hl,h⟩
   refine ⟨hc.sim,hc.fr,hc.mv,?_⟩;have hds:=hc.ds;rw [h3] at hds;show _::a.defers=_;rw [hds]⟩
end
end
def thenP {A B:Type} (o:Option (A ⊕ Unit)) (p:Option B) (k:A->Option B):Option B :=
 match o with
 | none=>none
 | some (.inl y)=>k y
 | some (.inr _)=>p
theorem iz {A B:Type} {o:Option (A ⊕ Unit)} {p:Option B} {k:A->Option B} {r:B} {C:Prop} (h:thenP o p k=some r) (h1:o=some (.inr ())->p=some r->C) (h2:∀ y,o=some (.inl y)->k y=some r->C):C:=by
 match o,h with
 | some (.inl y),h=>exact h2 y rfl h
 | some (.inr ()),h=>exact h1 rfl h
section
open Go.RowKit
def FnP (P:Program) (V:Value) (f:FuncId) (args:List AV) (aw:List Ob) {R:Type} (val:R->AV) (obs:R->List Ob):R ⊕ Unit->Prop
 | .inl x=>FnX P f args aw (val x) (obs x)
 | .inr _=>PanX P V f args aw
def retP (P:Program) (V:Value) (fn:Func) (N:Nat) {R:Type} (Q:R->AV->List Ob->Prop):R ⊕ Unit->Exit->List AV->List Ob->Prop
 | .inl x=>retQ P fn N (Q x)
 | .inr _=>panQ V
section
variable {P:Program} {V:Value} {N n:Nat} {fr:List AV} {aw aw':List Ob} {l:List (Nat × AV)}
instance {fn:Func} {M:Nat} {R:Type} {Q:R->AV->List Ob->Prop} {x:R}:RetI (retP P V fn M Q (.inl x)) (fun fr aw=>aT P fr aw fn.results.toList (Ret M (Q x) aw)):=⟨fun _ _ h=>h⟩
theorem fnPT {f:FuncId} {fn:Func} {c:Code} {args:List AV} {R:Type} {val:R->AV} {obs:R->List Ob} {r:R ⊕ Unit} {m:Nat} (N:Nat) (hf:P.funcs[f]?=some fn) (hm:fn.ntmps=m)
  (h:iniC 0 args fun l=>T P N c (retP P V fn N (fun x v aw'=>v=val x/\aw'=obs x) r) (mkA m l) aw)
  (hb:fn.body=some c:=by rfl) (hN:aw.length=N:=by rfl) (hname:(fn.name == "runtime.NumGoroutine")=false:=by kernel_rfl) (hl:Nat.ble args.length m=true:=by rfl):FnP P V f args aw val obs r:=by
 have h':=kn (K:=fun l=>T P N c (retP P V fn N (fun x v aw'=>v=val x/\aw'=obs x) r) (mkA m l) aw) h
 cases r with
 | inl x=>exact pH hN hf hb hname hm hl h'
 | inr u=>exact uz hN hf hb hname hm hl h'
variable {ops:Array Oper} {o:Oper} {d:Option Tmp} {ty:TypeId} {ps:String} {af:Array Edge} {gd:Option (Nat × Bool)}
theorem PP.panic {x:Operand} {t:TypeId} {Kp:List AV->List Ob->Prop} (hx:evA n l x=.ifc t (.agg [])) (hK:Kp (mkA n l) aw):PP P (.iface t (.agg #[])) N ⟨d,.panic x,ty,ps,af,gd⟩ (mkA n l) aw Kp :=
 ⟨fun st h1 h2 σ w F a hc Kc Q hk=>by
  have hfv:=hc.fr.ev x;rw [am,hx] at hfv;generalize hvf:a.eval x=vf at hfv;cases hfv with
  | ifc _ _ u hu =>
   cases hu with
   | agg _ vs hl hone hcs =>
    have:vs=[]:=zN (by omega);subst this;unfold Oper.wp;have hrun:(execOp a.eval ⟨d,.panic x,ty,ps,af,gd⟩).run P w=.halt (.panic (.iface t (.agg #[]))) w:=by simp only [execOp,hvf];rfl
    rw [hrun];exact hk aw σ w F hK hc⟩
theorem PP.cal {Kp:List AV->List Ob->Prop} {f:Operand} {args:Array Operand} {ts:Array TypeId} {h:FuncId} {caps ac as0:List AV} {aw0 aw2:List Ob} {n0 n1:Nat} (ρ:List Nat) (hn0:aw.length=n0) (hn1:aw0.length=n1)
 (hf:evA n l f=.func h caps) (ha:args.toList.map (evA n l)++caps=ac) (hnd:ρ.Nodup) (hW:ba ρ aw ρ aw0) (hA:bd ρ as0 ac) (hC:PanX P V h as0 aw0) (hlen:aw2.length+ρ.length=n0+n1)
 (hB:cT (aX ρ n0 n1) ρ aw (aw0.map fun _=>Ob.dead) 0 aw2) (hK:Kp (mkA n l) aw2):PP P V N ⟨d,.call ⟨.value f,args,ts⟩,ty,ps,af,gd⟩ (mkA n l) aw Kp:=by grind [PP.call]
theorem qc {Kp:List AV->List Ob->Prop} {f:Operand} {args:Array Operand} {ts:Array TypeId} {h:FuncId} {caps ac as0:List AV} {aw0 aw2:List Ob} {n0 n1:Nat} (ρ:List Nat)
 (hf:evA n l f=.func h caps) (ha:args.toList.map (evA n l)++caps=ac) (hC:PanX P V h as0 aw0) (hW:ba ρ aw ρ aw0) (hA:bd ρ as0 ac)
 (hB:cT (aX ρ n0 n1) ρ aw (aw0.map fun _=>Ob.dead) 0 aw2) (hK:Kp (mkA n l) aw2) (hn0:aw.length=n0:=by rfl) (hn1:aw0.length=n1:=by rfl) (hnd:ρ.Nodup:=by decide) (hlen:aw2.length+ρ.length=n0+n1:=by rfl):PP P V N ⟨d,.call ⟨.value f,args,ts⟩,ty,ps,af,gd⟩ (mkA n l) aw Kp:=PP.cal ρ hn0 hn1 hf ha hnd hW hA hC hlen hB hK
theorem T.rP {id:Nat} {Q:Exit->List AV->List Ob->Prop} (i:Nat) (hi:ops.toList[i]?=some o) (h:RS P N ops (ops.toList.take i) (fun fr aw=>PP P V N o fr aw fun fr aw=>Q (.panic [{ v:=V,recovered:=false }]) fr aw) fr aw) (hg:o.guard=none:=by rfl):T P N (.region id ops false) Q fr aw:=by refine T.regionP (pre:=ops.toList.take i) (rest:=ops.toList.drop (i+1)) (o:=o) ?_ hg h;grind [List.getElem_cons_drop,List.take_append_drop]
def panE (V:Value) (st:St) (Kp:List Ob->Prop) (e:Exit) (a:Act) (w:World):Prop:=e=.panic [{ v:=V,recovered:=false }]/\∃ fr aw σ F,Cur st fr aw σ w F a/\Kp aw
structure RAP (P:Program) (V:Value) (N:Nat) (ops:Array Oper) (k:Nat) (li:Array Bool) (Kp:List Ob->Prop) (fr:List AV) (aw:List Ob):Prop where
 out:∀ st:St,st.aw.length=N->st.σ.length=st.aw.length->∀ σ w F a,Cur st fr aw σ w F a->wpAny P .any ops (panE V st Kp) k li a w
variable {k:Nat} {li:Array Bool} {Kp:List Ob→Prop}
structure RAO (P:Program) (V:Value) (N:Nat) (ops:Array Oper) (i:Nat) (K:List AV->List Ob->Prop) (Kp:List Ob->Prop) (fr:List AV) (aw:List Ob):Prop where
 out:∀ st:St,st.aw.length=N->st.σ.length=st.aw.length->∀ σ w F a,Cur st fr aw σ w F a->∀ (Kc:Act->World->Prop),
  (∀ fr aw σ w F a,Cur st fr aw σ w F a->K fr aw->Kc a w)->wpOp P ops (panE V st Kp) i Kc a w
theorem RAP.all {rs:List Nat} (hr:Region.ready .any ops li=rs) (hne:rs≠[]) (h:∀ i,i∈rs->RAO P V N ops i (RAP P V N ops k (li.setIfInBounds i true) Kp) Kp fr aw):RAP P V N ops (k+1) li Kp fr aw :=
 ⟨fun st h1 h2 σ w F a hc=>wpAny_all hr hne fun i hi=>(h i hi).out st h1 h2 σ w F a hc _ fun fr aw σ w F a hc hK=>RAP.out hK st h1 h2 σ w F a hc⟩
end
end
section
open Go.RowKit
abbrev pan1 (V:Value):List PanicEntry:=[{ v:=V,recovered:=false }]
abbrev pan2 (V:Value):List PanicEntry:=[{ v:=V,recovered:=true }]
def CatX (P:Program) (V:Value) (g:FuncId) (args:List AV) (aw aw':List Ob):Prop:=∀ w F σ vs,Sim aw σ w F->RelL σ w F args vs ->
 CallsD P g vs.toArray (.panicking (pan1 V)) w fun e u' w'=>(∃ v,e=.returned v)/\u'=.panicking (pan2 V)/\∃ σ' F',Sim aw' σ' w' F'/\Mv aw σ w F aw' σ' w' F'
structure Caught (P:Program) (V:Value) (g:FuncId) (caps:List AV) (aw aw2:List Ob):Prop where
 out:∃ (ρ:List Nat) (as0:List AV) (aw0 aw1:List Ob),ρ.Nodup/\ba ρ aw ρ aw0/\bd ρ as0 caps/\CatX P V g as0 aw0 aw1/\aw2.length+ρ.length=aw.length+aw1.length/\cT (aX ρ aw.length aw1.length) ρ aw aw1 0 aw2
theorem Caught.of {P:Program} {V:Value} {g:FuncId} {caps as0:List AV} {aw aw0 aw1 aw2:List Ob} {n0 n1:Nat} (ρ:List Nat) (hn0:aw.length=n0) (hn1:aw1.length=n1) (hnd:ρ.Nodup) (hW:ba ρ aw ρ aw0) (hA:bd ρ as0 caps) (hC:CatX P V g as0 aw0 aw1)
 (hl:aw2.length+ρ.length=n0+n1) (hB:cT (aX ρ n0 n1) ρ aw aw1 0 aw2):Caught P V g caps aw aw2:=by subst hn0 hn1;exact ⟨ρ,as0,aw0,aw1,hnd,hW,hA,hC,hl,hB⟩
section
variable {P:Program} {V:Value} {N n Nf:Nat} {fr:List AV} {aw aw2:List Ob} {l:List (Nat × AV)} {fn:Func} {Q:AV→List Ob→Prop} {g:FuncId} {caps:List AV}
theorem Caught.run {σ:List Value} {w:World} {F:Nat->Prop} {cvs:List Value} (h:Caught P V g caps aw aw2) (hs:Sim aw σ w F) (hr:RelL σ w F caps cvs) :
  CallsD P g cvs.toArray (.panicking (pan1 V)) w fun e u' w'=>(∃ v,e=.returned v)/\u'=.panicking (pan2 V)/\∃ σ' F',Sim aw2 σ' w' F'/\Mv aw σ w F aw2 σ' w' F':=by
 obtain ⟨ρ,as0,aw0,aw1,hnd,hW,hA,hC,hl,hB⟩:=h.out
 obtain ⟨σ0,hσ,hs0,hd0⟩:=dM hs hnd hW
 have hl0:σ0.length=ρ.length:=by rw [hs0.len,(fa hW).1]
 refine (hC w F σ0 cvs hs0 (cA hA hr hσ)).mono ?_
 grind [jO]
section
variable {aw:List Ob} {K2:AV→List Ob→Prop} {d:Option Tmp} {ty:TypeId} {ps:String} {af:Array Edge} {gd:Option (Nat × Bool)}
theorem oF (k:Nat) {t ti:TypeId} {its:Array (String × TypeId)} (hu:P.underlying t=some (.interface its)) (u:Value) (w:World):(Op.equalIn (k+1) t (.iface ti u) .nilIface).run P w=.ok false w:=by simp [Op.equalIn,Sem.run_bind,run_underlying hu]
theorem nY {t t2 ti:TypeId} {x y:Operand} {a:AV} {its:Array (String × TypeId)} (hu:P.underlying t=some (.interface its)) (hx:evA n l x=.ifc ti a) (hy:evA n l y=.nili) (h:K2 (.bool true) aw):OP P N ⟨d,.binOp .neq t x y t2,ty,ps,af,gd⟩ (mkA n l) aw K2 :=
 OP.of_ok (fun σ w F ac har hs=>by
  have ex:=har.ev x;have ey:=har.ev y;rw [am,hx] at ex;rw [am,hy] at ey;generalize hvx:ac.eval x=vx at ex;generalize hvy:ac.eval y=vy at ey;cases ey;cases ex with
  | ifc _ _ u hu2 =>
   refine ⟨.bool true,_,w,aw,σ,F,_,?_,.inl rfl,hs,.refl ..,.bool true,h⟩;have he:(Op.equalIn Op.maxDepth t (.iface ti u) .nilIface).run P w=.ok false w:=oF 9999 hu u w;simp_all [execOp,eqGuard,binOp,Op.equal])
theorem vG {t t0:TypeId} {x:Operand} {a:AV} {dd:TypeDesc} (hu:P.underlying t=some dd) (hd:(match dd with | .interface _=>false | _=>true)=true) (hx:evA n l x=.ifc t a) (h:K2 (.tup [a,.bool true]) aw):OP P N ⟨d,.typeAssert x t0 t true,ty,ps,af,gd⟩ (mkA n l) aw K2 :=
 OP.of_ok (fun σ w F ac har hs=>by
  have ex:=har.ev x;rw [am,hx] at ex;generalize hvx:ac.eval x=vx at ex;cases ex with
  | ifc _ _ u hu2 =>
   have hr:RelL σ w F [a,.bool true] [u,.bool true]:=.cons hu2 (.cons (.bool true) .nil);refine ⟨.tuple #[u,.bool true],_,w,aw,σ,F,_,?_,.inl rfl,hs,.refl ..,.tup _ _ hr.1 hr.2,h⟩;cases dd<;>simp_all [execOp,Instr.typeAssert,Sem.run_bind,run_underlying hu])
end
def RecQ (P:Program) (fn:Func) (Nf:Nat) (Q:AV->List Ob->Prop) (V:Value) (g:FuncId) (caps:List AV):Exit->List AV->List Ob->Prop
 | .panic ch,fr,aw=>ch=pan1 V/\∃ aw2,Caught P V g caps aw aw2/\aT P fr aw2 fn.results.toList (Ret Nf Q aw2)
 | e,fr,aw=>retQ P fn Nf Q e fr aw
instance:RetI (RecQ P fn Nf Q V g caps) (fun fr aw=>aT P fr aw fn.results.toList (Ret Nf Q aw)):=⟨fun _ _ h=>h⟩
def CQR (P:Program) (st:St) (fn:Func) (Nf:Nat) (Q:AV->List Ob->Prop) (V:Value) (e:Exit) (a:Act) (w:World):Prop :=
 CQ st (retQ P fn Nf Q) e a w∨∃ (g:FuncId) (caps:List AV) (cvs:List Value) (st':St),Idle P ⟨.fn (.func g) cvs.toArray,#[]⟩/\(∀ w,(callFunc g cvs.toArray).run P w=.ok (.enter g cvs.toArray) w) /\
  RelL st'.σ st'.w st'.F caps cvs/\Sim st'.aw st'.σ st'.w st'.F/\Mv st.aw st.σ st.w st.F st'.aw st'.σ st'.w st'.F/\st'.ds=[⟨.fn (.func g) cvs.toArray,#[]⟩]/\CQ st' (RecQ P fn Nf Q V g caps) e a w
structure TDR (P:Program) (N:Nat) (c:Code) (fn:Func) (Nf:Nat) (Q:AV->List Ob->Prop) (V:Value) (fr:List AV) (aw:List Ob):Prop where
 out:∀ st:St,st.aw.length=N->st.σ.length=st.aw.length->st.ds=[]->∀ σ w F a,Cur st fr aw σ w F a->c.wp P (CQR P st fn Nf Q V) a w
theorem TDR.seq {x y:Code} (h:T P N x (thenA (TDR P N y fn Nf Q V) (retQ P fn Nf Q)) fr aw):TDR P N (.seq x y) fn Nf Q V fr aw :=
 ⟨fun st h1 h2 h3 σ w F a hc=>wp_seq (wp_mono (h.out st h1 h2 σ w F a hc) (by
  rintro e a' w' ⟨fr',aw',σ',F',hq,hcur⟩;cases e with
  | normal=>exact TDR.out hq st h1 h2 h3 σ' w' F' a' hcur
  | _=>exact .inl ⟨fr',aw',σ',F',hq,hcur⟩))⟩
theorem TDR.defer {id:Nat} {ops:Array Oper} {y:Code} {ty:TypeId} {ps:String} {af:Array Edge} {f:Operand} {ts:Array TypeId} (i:Nat) (ho:ops.toList.drop i=[⟨none,.defer ⟨.value f,#[],ts⟩,ty,ps,af,none⟩])
  (h:RS P N ops (ops.toList.take i) (fun fr aw=>∃ (N':Nat) (l:List (Nat × AV)) (caps:List AV) (g:FuncId),aw.length=N'/\fr=mkA n l/\evA n l f=.func g caps/\IdleF P g caps.length/\(∀ vs w,(callFunc g vs).run P w=.ok (.enter g vs) w)/\T P N' y (RecQ P fn Nf Q V g caps) (mkA n l) aw) fr aw):TDR P N (.seq (.region id ops false) y) fn Nf Q V fr aw :=
 ⟨fun st h1 h2 h3 σ w F a hc=>by
  refine wp_seq (wp_region_list ?_);rw [<- Av i ops.toList,ho];refine ix _ _ _ (h.out st h1 h2 σ w F a hc _ fun fr aw σ w F a hc hK=>?_);obtain ⟨_,l,caps,g,rfl,rfl,hf,hI,hcall,hT⟩:=hK;show wpList P ops _ (_::[]) a w;unfold wpList;rw [if_pos (by rfl)];refine .inl ?_;have hfv:=hc.fr.ev f;rw [am,hf] at hfv;generalize hvf:a.eval f=vf at hfv;cases hfv with
  | func _ _ cvs hl hcs =>
   have hrun:(execOp a.eval ⟨none,.defer ⟨.value f,#[],ts⟩,ty,ps,af,none⟩).run P w=.ok (.defer ⟨.fn (.func g) cvs.toArray,#[]⟩) w:=by simp_all [execOp,resolve,Deferred.ofValue]
   unfold Oper.wp;rw [hrun,Oper.upon_defer];show wpList P ops _ [] _ w;unfold wpList;refine wp_mono (hT.out ⟨aw,σ,w,F,[⟨.fn (.func g) cvs.toArray,#[]⟩]⟩ rfl hc.sim.len σ w F _ ?_) fun _ _ _ h=>.inr ⟨g,caps,cvs,⟨aw,σ,w,F,[⟨.fn (.func g) cvs.toArray,#[]⟩]⟩,hI cvs hl,hcall _,⟨hl,hcs⟩,hc.sim,hc.mv,rfl,h⟩
   refine ⟨hc.sim,hc.fr,.refl ..,?_⟩;have hds:=hc.ds;rw [h3] at hds;show _::a.defers=_;rw [hds]⟩
theorem t7 {f:FuncId} {c:Code} {args:List AV} {m:Nat} (hN:aw.length=N) (hf:P.funcs[f]?=some fn) (hb:fn.body=some c) (hname:(fn.name == "runtime.NumGoroutine")=false) (hm:fn.ntmps=m) (hl:Nat.ble args.length m=true)
  (h:TDR P N c fn N Q V (mkA m (initA 0 args)) aw):ACalls P f args aw Q:=by
 subst hm hN
 refine ⟨callable hf (by rw [hb];rfl) hname,fun w F σ vs hs hr=>?_⟩
 have hc:Cur ⟨aw,σ,w,F,[]⟩ (args++List.replicate (fn.ntmps - args.length) .any) aw σ w F { tmps:=vs.toArray++Array.replicate (fn.ntmps - vs.toArray.size) undef,defers:=[] }:=by
  refine ⟨hs,⟨?_,tqz⟩,.refl ..,rfl⟩;have h2:RelL σ w F (List.replicate (fn.ntmps - args.length) .any) (List.replicate (fn.ntmps - vs.length) undef) :=
   ⟨by simp [hr.1],fun j x v hx hv=>by rw [AG (zM hx)];exact .any v⟩
  simpa using hr.append h2
 rw [lI _ _ (Ar hl)] at hc
 refine calls_of_wp_defers hf hb (wp_mono (h.out ⟨aw,σ,w,F,[]⟩ rfl hs.len rfl σ w F _ hc) ?_)
 have key:∀ (a':Act) (w':World) (fr':List AV) (aw':List Ob) (σ':List Value) (F':Nat->Prop),Sim aw' σ' w' F'->ARel σ' w' F' fr' a'->Mv aw σ w F aw' σ' w' F'->aT P fr' aw' fn.results.toList (Ret aw.length Q aw')->∃ v,(results fn a'.tmps).run P w'=.ok v w' /\
   (∃ v' r aw2 σ2 F2,Ending.returned v=.returned v'/\Q r aw2/\Sim aw2 σ2 w' F2/\Rel σ2 w' F2 r v'/\Mv aw σ w F aw2 σ2 w' F2):=by
  intro a' w' fr' aw' σ' F' hsim hfr hmv hq
  obtain ⟨rs,us,h1,⟨nl,z,r',aw2,hW,hQ⟩,h3⟩:=i7 hfr hsim _ _ hq
  obtain ⟨σn,sn,h1n,mn⟩:=gJ nl hsim h1
  refine ⟨_,k8 fn a'.tmps us h3,?_⟩
  have hrel:=lL h1n
  have fin:∀ (r1:AV) (aw1:List Ob) (F1:Nat->Prop),Sim aw1 σn w' F1->Mv aw σ w F aw1 σn w' F1->Rel σn w' F1 r1 (if h:us.length=1 then us[0] else .tuple us.toArray)->WeakR aw.length r1 aw1 r' aw2 ->
    ∃ v' r aw2 σ2 F2,Ending.returned (if h:us.length=1 then us[0] else .tuple us.toArray)=.returned v'/\Q r aw2/\Sim aw2 σ2 w' F2/\Rel σ2 w' F2 r v'/\Mv aw σ w F aw2 σ2 w' F2:=by
   intro r1 aw1 F1 s1 m1 hr1 ⟨ρ,hnd,hρ,hren,hRW⟩
   obtain ⟨σ2,hσ,s2,hd⟩:=dM s1 hnd hRW
   exact ⟨_,r',aw2,σ2,F1,rfl,hQ,s2,hren σn w' F1 _ hr1 σ2 hσ,Mv.ren (st:=⟨aw,σ,w,F,[]⟩) hs.len m1 hρ hσ hd⟩
  cases z with
  | true =>
   obtain ⟨F1,s1,m1,r1⟩:=lC sn hrel
   exact fin _ _ F1 s1 ((hmv.trans mn).trans m1) r1 hW
  | false=>exact fin _ _ F' sn (hmv.trans mn) hrel hW
 have plain:∀ (a':Act) (w':World) (fr':List AV) (aw':List Ob) (σ':List Value) (F':Nat->Prop),Cur ⟨aw,σ,w,F,[]⟩ fr' aw' σ' w' F' a'->aT P fr' aw' fn.results.toList (Ret aw.length Q aw') ->
   Leaves P fn a'.tmps (fun e w'=>∃ v r aw' σ' F',e=.returned v/\Q r aw'/\Sim aw' σ' w' F'/\Rel σ' w' F' r v/\Mv aw σ w F aw' σ' w' F') a'.defers .returning w':=by
  intro a' w' fr' aw' σ' F' hcur hq
  have hd:=hcur.ds
  rw [hd]
  exact key a' w' fr' aw' σ' F' hcur.sim hcur.fr hcur.mv hq
 rintro e a' w' (⟨fr',aw',σ',F',hq,hcur⟩ | ⟨g,caps,cvs,st',hI,hcall,hcv,hsim',hmv',hds',fr',aw',σ',F',hq,hcur⟩)
 ·cases e with
  | normal=>exact plain _ _ _ _ _ _ hcur hq
  | ret=>exact plain _ _ _ _ _ _ hcur hq
  | exit id=>exact hq.elim
  | goto l=>exact hq.elim
  | panic ch=>exact hq.elim
  | outgrown=>exact hq.elim
 ·have hd:=hcur.ds
  rw [hds'] at hd
  have hmv:=hmv'.trans hcur.mv
  have idle:aT P fr' aw' fn.results.toList (Ret aw.length Q aw')->Leaves P fn a'.tmps (fun e w'=>∃ v r aw' σ' F',e=.returned v/\Q r aw'/\Sim aw' σ' w' F'/\Rel σ' w' F' r v/\Mv aw σ w F aw' σ' w' F') a'.defers .returning w':=fun hq=>by have hk:=key a' w' fr' aw' σ' F' hcur.sim hcur.fr hmv hq;obtain ⟨fv,cap,g2,gargs,e1,e2,e3⟩:=hI;rw [hd];refine ⟨by simp,fv,cap,g2,gargs,e1,e2 w',(e3 w').mono ?_⟩;rintro e u' w'' ⟨⟨v,rfl⟩,rfl,rfl⟩;exact hk
  cases e with
  | normal=>exact idle hq
  | ret=>exact idle hq
  | exit id=>exact hq.elim
  | goto l=>exact hq.elim
  | panic ch =>
   obtain ⟨rfl,aw2,hcat,hq⟩:=hq
   show Leaves P fn a'.tmps _ a'.defers (.panicking (pan1 V)) w'
   rw [hd]
   refine ⟨by simp,.func g,cvs.toArray,g,cvs.toArray,rfl,?_,(hcat.run hcur.sim (hcur.mv.relL hsim' hcv)).mono ?_⟩
   ·grind [invoke]
   ·rintro e u' w'' ⟨⟨v,rfl⟩,rfl,σ2,F2,s2,m2⟩
    exact key a' w'' fr' aw2 σ2 F2 s2 (m2.aRel hcur.sim hcur.fr) (hmv.trans m2) hq
  | outgrown=>exact hq.elim
end
end
section
open Go.RowKit
instance:PureC .nili:=⟨fun _ _ _ _ h _=>by cases h;exact .nili⟩
section
variable {P:Program} {N n:Nat} {l:List (Nat × AV)} {aw:List Ob} {K2:AV→List Ob→Prop} {d:Option Tmp} {ty:TypeId} {ps:String} {af:Array Edge} {gd:Option (Nat × Bool)}
theorem pW (k:Nat) {t:TypeId} {its:Array (String × TypeId)} (hu:P.underlying t=some (.interface its)) (w:World):(Op.equalIn (k+1) t .nilIface .nilIface).run P w=.ok true w:=by simp [Op.equalIn,Sem.run_bind,run_underlying hu]
theorem wl {t t2:TypeId} {x:Operand} {its:Array (String × TypeId)} (hu:P.underlying t=some (.interface its)) (hx:evA n l x=.nili) (h:K2 (.bool false) aw):OP P N ⟨d,.binOp .neq t x (.const .nilIface) t2,ty,ps,af,gd⟩ (mkA n l) aw K2 :=
 OP.of_ok (fun σ w F ac har hs=>by have ex:=har.ev x;rw [am,hx] at ex;generalize hvx:ac.eval x=vx at ex;cases ex;refine ⟨.bool false,_,w,aw,σ,F,_,?_,.inl rfl,hs,.refl ..,.bool false,h⟩;have he:(Op.equalIn Op.maxDepth t .nilIface .nilIface).run P w=.ok true w:=pW 9999 hu w;have hvy:ac.eval (.const .nilIface)=.nilIface:=rfl;simp [execOp,hvx,hvy,eqGuard,binOp,Op.equal,Sem.run_bind,he])
theorem wc {t t2:TypeId} {x:Operand} {its:Array (String × TypeId)} (hu:P.underlying t=some (.interface its)) (hx:evA n l x=.nili) (h:K2 (.bool true) aw):OP P N ⟨d,.binOp .eql t x (.const .nilIface) t2,ty,ps,af,gd⟩ (mkA n l) aw K2 :=
 OP.of_ok (fun σ w F ac har hs=>by have ex:=har.ev x;rw [am,hx] at ex;generalize hvx:ac.eval x=vx at ex;cases ex;refine ⟨.bool true,_,w,aw,σ,F,_,?_,.inl rfl,hs,.refl ..,.bool true,h⟩;have he:(Op.equalIn Op.maxDepth t .nilIface .nilIface).run P w=.ok true w:=pW 9999 hu w;have hvy:ac.eval (.const .nilIface)=.nilIface:=rfl;simp [execOp,hvx,hvy,eqGuard,binOp,Op.equal,Sem.run_bind,he])
end
section
variable {P:Program} {N:Nat} {ops:Array Oper} {k:Nat} {li:Array Bool} {K:List AV→List Ob→Prop} {fr:List AV} {aw:List Ob}
theorem ra5 (i1 i2 i3 i4 i5:Nat) (h1:RO P N ops i1 (RA P N ops k (li.setIfInBounds i1 true) K) fr aw) (h2:RO P N ops i2 (RA P N ops k (li.setIfInBounds i2 true) K) fr aw) (h3:RO P N ops i3 (RA P N ops k (li.setIfInBounds i3 true) K) fr aw)
  (h4:RO P N ops i4 (RA P N ops k (li.setIfInBounds i4 true) K) fr aw) (h5:RO P N ops i5 (RA P N ops k (li.setIfInBounds i5 true) K) fr aw) (hr:Region.ready .any ops li=[i1,i2,i3,i4,i5]:=by decide +kernel):RA P N ops (k+1) li K fr aw :=
 RA.all hr (by simp) fun i hi=>by simp at hi;rcases hi with rfl | rfl | rfl | rfl | rfl<;>assumption
end
end
section
open Go.RowKit Go.Shelf
instance {t:TypeId}:PureC (.ifc t .any):=⟨fun _ _ _ _ h _=>by cases h with | ifc _ _ u hu=>exact .ifc _ _ _ (.any _)⟩
section
variable {P:Program} {N:Nat} {d:Option Nat} {ty:TypeId} {ps:String} {af:Array Edge} {gd:Option (Nat × Bool)} {n:Nat} {l:List (Nat × AV)} {aw:List Ob} {K2:AV→List Ob→Prop}
theorem ue {t t2 ti:TypeId} {x y:Operand} {a:AV} {its:Array (String × TypeId)} (hu:P.underlying t=some (.interface its)) (hx:evA n l x=.ifc ti a) (hy:evA n l y=.nili) (h:K2 (.bool false) aw):OP P N ⟨d,.binOp .eql t x y t2,ty,ps,af,gd⟩ (mkA n l) aw K2 :=
 OP.of_ok (fun σ w F ac har hs=>by
  have ex:=har.ev x;have ey:=har.ev y;rw [am,hx] at ex;rw [am,hy] at ey;generalize hvx:ac.eval x=vx at ex;generalize hvy:ac.eval y=vy at ey;cases ey;cases ex with
  | ifc _ _ u hu2 =>
   refine ⟨.bool false,_,w,aw,σ,F,_,?_,.inl rfl,hs,.refl ..,.bool false,h⟩;have he:(Op.equalIn Op.maxDepth t (.iface ti u) .nilIface).run P w=.ok false w:=oF 9999 hu u w;simp_all [execOp,eqGuard,binOp,Op.equal])
end
def isOk {α:Type}:Lib.NumEnd α->Bool
 | .ok _=>true
 | _=>false
def fc (s:List UInt8):Bool:=!isOk (Lib.atoiAll s)
def atoiE (s:List UInt8):Option Int:=if s.length<=281474976710656 then match Lib.atoiAll s with
 | .ok _=>none
 | .range=>some (Lib.atoiSat s)
 | _=>some 0 else none
def eZ (s:List UInt8):Bool:=!isOk (Lib.parseIntB 64 s)
def iY (s:List UInt8):Option Int:=if s.length<=9223372036854775806 then match Lib.parseIntB 64 s with
 | .ok v=>some v
 | _=>none else none
def hH (s:List UInt8):Option Int:=if s.length<=281474976710656 then match Lib.parseIntB 64 s with
 | .ok _=>none
 | .range=>some (Lib.intSat 64 s)
 | _=>some 0 else none
def aN (t:List UInt8):Option Int:=match Lib.atoiAll t with
 | .ok n=>if 0<=n/\Lib.itoa n=t then some n else none
 | _=>none
def bD:List (List UInt8)->Option (List Int)
 | []=>some []
 | t::r=>(aN t).bind fun n=>(bD r).map fun l=>n::l
def ki (s:List UInt8):Option (List Int ⊕ Unit):=if s.length<4294967281 then some (if s=[45] then .inl [] else match bD (aB 44 s) with
 | some l=>.inl l
 | none=>.inr ()) else none
def index1 (s c:List UInt8):Option Int:=match c with
 | [b]=>some (Lib.indexByte s b)
 | _=>none
def EvAt (w:World) (g:Nat):Prop:=∃ ev,w.cell? ⟨g,0,none⟩=some ev/\(ev=.nilIface∨∃ te pe,ev=.iface te pe)
section
variable {P:Program} {ρ:Go.Shelf.Ren}
theorem fO {aw:List Ob} {σ:List Value} {w w':World} {F:Nat->Prop} (hs:Sim aw σ w F) (hB:Below w.heap.size w w'):Sim aw σ w' F :=
 hs.grow (fun _ h=>h) (fun _ h=>.inl h) (fun b hb=>zX (hs.lt b hb) hB.size) hB.block
theorem j0 {σ:List Value} {w:World} {F:Nat->Prop} (r:Int) (t:TypeId) (v:Value):Rel σ w F (.tup [.int .i64 r,.ifc t .any]) (.tuple #[.int .i64 r,.iface t v]) :=
 Rel.tup [.int .i64 r,.ifc t .any] [.int .i64 r,.iface t v] rfl fun j c u h1 h2=>by
  match j with
  | 0=>cases h1;cases h2;exact .int _ _
  | 1=>cases h1;cases h2;exact .ifc _ _ _ (.any _)
  | j+2=>cases h1
theorem wj {σ:List Value} {w:World} {F:Nat->Prop} (r:Int):Rel σ w F (.tup [.int .i64 r,.nili]) (.tuple #[.int .i64 r,.nilIface]) :=
 Rel.tup [.int .i64 r,.nili] [.int .i64 r,.nilIface] rfl fun j c u h1 h2=>by
  match j with
  | 0=>cases h1;cases h2;exact .int _ _
  | 1=>cases h1;cases h2;exact .nili
  | j+2=>cases h1
theorem ut (hcal:∀ vs w,(callFunc (ρ.f 172) vs).run P w=.ok (.enter (ρ.f 172) vs) w) (L:LaysC.n172 P ρ) (hev:∀ w F,Gd w F->EvAt w (ρ.g 15)/\EvAt w (ρ.g 16)) (p0:List UInt8) (r:Int) (h:atoiE p0=some r):Fn P (ρ.f 172) [.str p0] (.tup [.int .i64 r,.ifc (ρ.t 168) .any]):=by
 unfold atoiE at h;split at h
 ·rename_i h0;refine ⟨hcal,fun w F σ vs hs hr=>?_⟩;obtain ⟨⟨e1,he1,hn1⟩,⟨e2,he2,hn2⟩⟩:=hev w F hs.gd;match vs,hr with
  | [v0],hr =>
   have r0:Rel σ w F (.str p0) v0:=hr.2 0 _ v0 rfl rfl
   cases r0
   cases hv:Lib.atoiAll p0<;>rw[hv]at h<;>cases h
   ·refine (Any.strconv_Atoi_syntax L ⟨p0.toArray⟩ (by simpa [ByteArray.size] using h0) (by simpa using hv) e1 w he1 hn1).mono ?_
    rintro e w' ⟨N,rfl,_,_,hB⟩
    exact ⟨_,_,[],σ,F,rfl,⟨rfl,rfl⟩,fO hs hB,j0 _ _ _,.grow (fun _ h=>h) (fun _ h=>.inl h) hB.os hB.tape (drO hB.output) hB.size hB.block⟩
   ·refine (Any.strconv_Atoi_range L ⟨p0.toArray⟩ (by simpa [ByteArray.size] using h0) (by simpa using hv) e2 w he2 hn2).mono ?_
    rintro e w' ⟨N,rfl,_,_,hB⟩
    exact ⟨_,_,[],σ,F,rfl,⟨rfl,rfl⟩,fO hs hB,by simpa using j0 (σ:=σ) (w:=w') (F:=F) (Lib.atoiSat p0) (ρ.t 168) (.pointer (some ⟨N,0,none⟩)),.grow (fun _ h=>h) (fun _ h=>.inl h) hB.os hB.tape (drO hB.output) hB.size hB.block⟩
 ·cases h
theorem ta (hcal:∀ vs w,(callFunc (ρ.f 174) vs).run P w=.ok (.enter (ρ.f 174) vs) w) (L:LaysC.n174 P ρ) (hev:∀ w F,Gd w F->EvAt w (ρ.g 15)/\EvAt w (ρ.g 16)) (p0:List UInt8) (r:Int) (h:hH p0=some r):Fn P (ρ.f 174) [.str p0,.int .i64 10,.int .i64 64] (.tup [.int .i64 r,.ifc (ρ.t 168) .any]):=by
 unfold hH at h;split at h
 ·rename_i h0;refine ⟨hcal,fun w F σ vs hs hr=>?_⟩;obtain ⟨⟨e1,he1,hn1⟩,⟨e2,he2,hn2⟩⟩:=hev w F hs.gd;match vs,hr with
  | [v0,v1,v2],hr =>
   have r0:Rel σ w F (.str p0) v0:=hr.2 0 _ v0 rfl rfl
   have r1:Rel σ w F (.int .i64 10) v1:=hr.2 1 _ v1 rfl rfl
   have r2:Rel σ w F (.int .i64 64) v2:=hr.2 2 _ v2 rfl rfl
   cases r0
   cases r1
   cases r2
   cases hv:Lib.parseIntB 64 p0<;>rw[hv]at h<;>cases h
   ·refine (Any.strconv_ParseInt_10_at64_syntax L ⟨p0.toArray⟩ (by simpa [ByteArray.size] using h0) (by simpa using hv) e1 w he1 hn1).mono ?_
    rintro e w' ⟨N,rfl,_,_,hB⟩
    exact ⟨_,_,[],σ,F,rfl,⟨rfl,rfl⟩,fO hs hB,j0 _ _ _,.grow (fun _ h=>h) (fun _ h=>.inl h) hB.os hB.tape (drO hB.output) hB.size hB.block⟩
   ·refine (Any.strconv_ParseInt_10_at64_range L ⟨p0.toArray⟩ (by simpa [ByteArray.size] using h0) (by simpa using hv) e2 w he2 hn2).mono ?_
    rintro e w' ⟨N,rfl,_,_,hB⟩
    exact ⟨_,_,[],σ,F,rfl,⟨rfl,rfl⟩,fO hs hB,by simpa using j0 (σ:=σ) (w:=w') (F:=F) (Lib.intSat 64 p0) (ρ.t 168) (.pointer (some ⟨N,0,none⟩)),.grow (fun _ h=>h) (fun _ h=>.inl h) hB.os hB.tape (drO hB.output) hB.size hB.block⟩
 ·cases h
theorem tl (hcal:∀ vs w,(callFunc (ρ.f 174) vs).run P w=.ok (.enter (ρ.f 174) vs) w) (L:LaysC.n174 P ρ) (p0:List UInt8) (r:Int) (h:iY p0=some r):Fn P (ρ.f 174) [.str p0,.int .i64 10,.int .i64 64] (.tup [.int .i64 r,.nili]):=by
 unfold iY at h;split at h
 ·rename_i h0;split at h
  ·rename_i v hv;cases h;refine ⟨hcal,fun w F σ vs hs hr=>?_⟩;match vs,hr with
   | [v0,v1,v2],hr =>
    have r0:Rel σ w F (.str p0) v0:=hr.2 0 _ v0 rfl rfl
    have r1:Rel σ w F (.int .i64 10) v1:=hr.2 1 _ v1 rfl rfl
    have r2:Rel σ w F (.int .i64 64) v2:=hr.2 2 _ v2 rfl rfl
    cases r0
    cases r1
    cases r2
    refine (Any.strconv_ParseInt_10_at64_ok L ⟨p0.toArray⟩ (by simpa [ByteArray.size] using h0) r (by simpa using hv) w).mono ?_
    rintro e w' ⟨rfl,hw⟩
    have hB:Below w.heap.size w w':=by
     rcases hw with rfl | ⟨t,rfl⟩
     ·exact Below.refl _ _
     ·exact Lib.bytesWorld_below _ _ _
    exact ⟨_,_,[],σ,F,rfl,⟨rfl,rfl⟩,fO hs hB,wj _,.grow (fun _ h=>h) (fun _ h=>.inl h) hB.os hB.tape (drO hB.output) hB.size hB.block⟩
  ·cases h
 ·cases h
theorem sR (hcal:∀ vs w,(callFunc (ρ.f 173) vs).run P w=.ok (.enter (ρ.f 173) vs) w) (L:LaysM.n173 P ρ) (htab:∀ w F,Gd w F->Lib.TabIs P w "internal/strconv.uint64pow10" .u64 Lib.pow10Tab) (p0:Int) (r:List UInt8) (h:(if -9223372036854775808<=p0/\p0<=9223372036854775807 then some (Go.Lib.itoa p0) else none)=some r):Fn P (ρ.f 173) [.int .i64 p0,.int .i64 10] (.str r):=by
 split at h
 ·rename_i h0;injection h with h
  subst h;refine ⟨hcal,fun w F σ vs hs hr=>?_⟩;match vs,hr with
  | [v0,v1],hr =>
   have r0:Rel σ w F (.int .i64 p0) v0:=hr.2 0 _ v0 rfl rfl
   have r1:Rel σ w F (.int .i64 10) v1:=hr.2 1 _ v1 rfl rfl
   cases r0
   cases r1
   refine (Any.strconv_FormatInt_10 L p0 h0.1 h0.2 w (htab w F hs.gd)).mono ?_
   rintro e w' ⟨rfl,k,os,rfl⟩
   have hb:=Go.Lib.below_grow w.heap.size w (zP _) k os
   exact ⟨_,_,[],σ,F,rfl,⟨rfl,rfl⟩,fO hs hb,.str _,.grow (fun _ h=>h) (fun _ h=>.inl h) hb.os hb.tape (drO hb.output) hb.size hb.block⟩
 ·cases h
theorem sY (hcal:∀ vs w,(callFunc (ρ.f 219) vs).run P w=.ok (.enter (ρ.f 219) vs) w) (L:Lays.n219 P ρ) (p0 p1:List UInt8) (r:Int) (h:index1 p0 p1=some r):Fn P (ρ.f 219) [.str p0,.str p1] (.int .i64 r):=by
 unfold index1 at h;split at h
 ·rename_i b;cases h;refine ⟨hcal,fun w F σ vs hs hr=>?_⟩;match vs,hr with
  | [v0,v1],hr =>
   have r0:Rel σ w F (.str p0) v0:=hr.2 0 _ v0 rfl rfl
   have r1:Rel σ w F (.str [b]) v1:=hr.2 1 _ v1 rfl rfl
   cases r0
   cases r1
   refine (Any.stringslite_Index_one L ⟨p0.toArray⟩ b w).mono ?_
   rintro e w' ⟨rfl,rfl⟩
   exact ⟨_,_,[],σ,F,rfl,⟨rfl,rfl⟩,hs,by simpa using Rel.int _ _,.refl ..⟩
 ·cases h
end
end
def bldS (xs:List Int):Option (List UInt8):=if xs≠[]/\∀ x,x∈xs->0<=x/\x<256 then some (dj xs) else none
noncomputable section
set_option maxRecDepth 100000
def f4 (p0 p1:List UInt8):Option (List (List UInt8)):=ja p0 p1
def atoiX (p0:List UInt8):Option Int:=atoiE p0
def atoiW (p0:List UInt8):Option Int:=atoiA p0
def dS (p0:Int):Option (List UInt8):=itoaS p0
def jA  (x6:Int):Option (Int ⊕ Unit) :=
 (some (.inl x6))
def fN (p0:List UInt8):Option (Int ⊕ Unit) :=
 (if (fc p0)=true then ((atoiX p0).bind fun x5=>(some (.inr ()))) else ((atoiW p0).bind fun x6=>(Option.bind (if (decide (x6<0))=true then (some true) else ((dS x6).bind fun x7=>(some (!(x7==p0))))) fun c8=>(if c8=true then (some (.inr ())) else (jA x6)))))
def gH:Option (List (List UInt8)) :=
 (some [[],[115,111,117,114,99,101],[109,97,112],[115,99,97,110],[99,111,117,110,116],[116,101,101],[109,101,114,103,101],[115,112,108,105,116],[115,105,110,107]])
def iT (p0:List UInt8):Option (List Int ⊕ Unit):=ki p0
def cK (p2:Int) (x2:List (List UInt8)) (p3:Int) (p4:List Node) (x14:List (List UInt8)) (s15:Int):Option (Int ⊕ (Bool × Int × Int × (List Node))) :=
 (if (decide (s15<((x14).length:Int)))=true then ((ixN x14 s15).bind fun x18=>(((x14)[x18]?).bind fun x19=>(Option.bind (if (decide (s15 > 0))=true then ((idx x2 0).bind fun x20=>(some (x19==x20))) else (some false)) fun c21=>(if c21=true then ((idx x2 1).bind fun x29=>((idx x2 2).bind fun x31=>((idx x2 3).bind fun x33=>(thenP (fN x29) (Option.map Sum.inr (some (false,p2,p3,p4))) fun x30=>(thenP (iT x31) (Option.map Sum.inr (some (false,p2,p3,p4))) fun x32=>(thenP (iT x33) (Option.map Sum.inr (some (false,p2,p3,p4))) fun x34=>((app p4 [(⟨s15,x30,x32,x34⟩:Node)]).bind fun x35=>(Option.map Sum.inr (some (true,p2,p3,x35)))))))))) else (some (.inl (IntKind.i64.wrap (s15+1)))))))) else (Option.map Sum.inr (some (false,p2,p3,p4))))
def gC (p0:Int) (p1:List UInt8) (p2 p3:Int) (p4:List Node):Option (Bool × Int × Int × (List Node)) :=
 ((f4 p1 ([32]:List UInt8)).bind fun x2=>(if (p0==0)=true then (Option.bind (if (((x2).length:Int) != 3)=true then (some true) else ((idx x2 0).bind fun x3=>(some (!(x3==[114,105,110,103,115]))))) fun c4=>(if c4=true then (some (false,p2,p3,p4)) else ((idx x2 1).bind fun x9=>((idx x2 2).bind fun x11=>(thenP (fN x9) (some (false,p2,p3,p4)) fun x10=>(thenP (fN x11) (some (false,p2,p3,p4)) fun x12=>(some (true,x10,x12,p4)))))))) else (if (((x2).length:Int) != 4)=true then (some (false,p2,p3,p4)) else (gH.bind fun x14=>(iter (fun dU:Int=>cK p2 x2 p3 p4 x14 dU) 0)))))
def kX (p0 p1:Int):Option (Int × Int) :=
 ((shr .u64 p0 32).bind fun x2=>((shr .u64 p1 32).bind fun x4=>((shr .u64 (IntKind.u64.wrap ((ibits .and .u64 p0 4294967295)*(ibits .and .u64 p1 4294967295))) 32).bind fun x6=>((shr .u64 (IntKind.u64.wrap ((IntKind.u64.wrap (x2*(ibits .and .u64 p1 4294967295)))+x6)) 32).bind fun x8=>((shr .u64 (IntKind.u64.wrap ((ibits .and .u64 (IntKind.u64.wrap ((IntKind.u64.wrap (x2*(ibits .and .u64 p1 4294967295)))+x6)) 4294967295)+(IntKind.u64.wrap ((ibits .and .u64 p0 4294967295)*x4)))) 32).bind fun x10=>(some (IntKind.u64.wrap ((IntKind.u64.wrap ((IntKind.u64.wrap (x2*x4))+x8))+x10),IntKind.u64.wrap (p0*p1))))))))
def jz (p0 p1:Int):Option (Int × Int) :=
 ((kX p0 p1).bind fun x2=>(some (x2.1,x2.2)))
def eJ  (s6:Int) (s7:List Ends):Option ((Int × (List Ends)) ⊕ (List Ends)) :=
 (if (decide (s6<((s7).length:Int)))=true then ((vwok (s7).length s6 ((s7).length:Int)).bind fun x8=>((vwok (s7).length 0 s6).bind fun x9=>((vwok (s7).length ((s6).toNat:Nat) (((s6).toNat:Nat)+(((((s7).length:Int)).toNat - (s6).toNat):Nat))).bind fun x10=>((vwok (s7).length (((0:Int)).toNat:Nat) ((((0:Int)).toNat:Nat)+(((s6).toNat - ((0:Int)).toNat):Nat))).bind fun x11=>(some (.inl (IntKind.i64.wrap (s6+((min ((((s7).length:Int)).toNat - (s6).toNat) ((s6).toNat - ((0:Int)).toNat):Nat):Int)),(cpy s7 ((s6).toNat) ((((s7).length:Int)).toNat - (s6).toNat) ((s7.drop (((0:Int)).toNat)).take ((s6).toNat - ((0:Int)).toNat)))))))))) else (Option.map Sum.inr (some s7)))
def il (p0:List Ends) (p1:Int):Option (List Ends) :=
 (if (decide (p1<0))=true then (none) else ((jz (IntKind.u64.wrap ((p0).length:Int)) (IntKind.u64.wrap p1)).bind fun x2=>(if ((decide (x2.1 > 0)) || decide (x2.2 > 9223372036854775807))=true then (none) else ((mk (IntKind.i64.wrap x2.2) (⟨0,0⟩:Ends)).bind fun x5=>(iter (fun fw:Int × (List Ends)=>eJ fw.1 fw.2) (((min (x5).length (p0).length:Nat):Int),(cpy x5 0 (x5).length p0)))))))
def gE (p0:Int) (z2:Bool):Option (Int × Int × Bool) :=
 (if z2=true then (some (1,(-1),true)) else (if (p0==6)=true then (some ((-1),1,true)) else (if (p0==8)=true then (some (1,0,true)) else (some (0,0,false)))))
def fI (p0:Int) (z1:Bool):Option (Int × Int × Bool) :=
 (if z1=true then (some (1,1,true)) else (if (p0==5)=true then (gE p0 (p0==5)) else (gE p0 (p0==7))))
def iA (p0:Int):Option (Int × Int × Bool) :=
 (if (p0==1)=true then (some (0,1,true)) else (if (p0==2)=true then (fI p0 (p0==2)) else (if (p0==3)=true then (fI p0 (p0==3)) else (fI p0 (p0==4)))))
def gR (p0 p1:Int):Option Bool :=
 (some ((p0==p1) || ((decide (p1<0)) && decide (p0 > 0))))
def eV (p0:Net) (s6:Int) (x9:Node) (z15 s27:Int) (s28:List Ends):Option ((Int × (List Ends)) ⊕ ((Int × Int × (List Ends)) ⊕ ((List Ends) × Int))) :=
 (if (decide (s27<((x9.Out).length:Int)))=true then ((idx x9.Out s27).bind fun x30=>(if ((decide (x30<0)) || decide (x30 >= p0.Rings))=true then (Option.map Sum.inr (Option.map Sum.inr (some ([],3)))) else ((ixN s28 x30).bind fun x34=>(((s28)[x34]?).bind fun x35=>(if (decide (x35.src >= 0))=true then (Option.map Sum.inr (Option.map Sum.inr (some ([],6)))) else ((ixN s28 x30).bind fun x36=>(((s28)[x36]?).bind fun x37=>(some (.inl (IntKind.i64.wrap (s27+1),(List.set s28 x36 (⟨s6,x37.dst⟩:Ends)))))))))))) else (Option.map Sum.inr (some (.inl (z15,IntKind.i64.wrap (s6+1),s28)))))
def eS (p0:Net) (s6:Int) (x9:Node) (z15 s16:Int) (s17:List Ends):Option ((Int × (List Ends)) ⊕ ((Int × Int × (List Ends)) ⊕ ((List Ends) × Int))) :=
 (if (decide (s16<((x9.In).length:Int)))=true then ((idx x9.In s16).bind fun x19=>(if ((decide (x19<0)) || decide (x19 >= p0.Rings))=true then (Option.map Sum.inr (Option.map Sum.inr (some ([],3)))) else ((ixN s17 x19).bind fun x23=>(((s17)[x23]?).bind fun x24=>(if (decide (x24.dst >= 0))=true then (Option.map Sum.inr (Option.map Sum.inr (some ([],6)))) else ((ixN s17 x19).bind fun x25=>(((s17)[x25]?).bind fun x26=>(some (.inl (IntKind.i64.wrap (s16+1),(List.set s17 x25 (⟨x26.src,s6⟩:Ends)))))))))))) else (Option.map Sum.inr (iter (fun ff:Int × (List Ends)=>eV p0 s6 x9 z15 ff.1 ff.2) (0,s17))))
def fK (p0:Net) (s6:Int) (s7:List Ends) (x9:Node) (z15:Int):Option ((Int × Int × (List Ends)) ⊕ ((List Ends) × Int)) :=
 (iter (fun fg:Int × (List Ends)=>eS p0 s6 x9 z15 fg.1 fg.2) (0,s7))
def fJ (s5:Int) (s7:List Ends) (s38:Int):Option (Int ⊕ ((List Ends) × Int)) :=
 (if (decide (s38<((s7).length:Int)))=true then ((ixN s7 s38).bind fun x41=>(((s7)[x41]?).bind fun x42=>(if ((decide (x42.src<0)) || decide (x42.dst<0))=true then (Option.map Sum.inr (some ([],9))) else (some (.inl (IntKind.i64.wrap (s38+1))))))) else (Option.map Sum.inr (if (s5 != 1)=true then (some ([],4)) else (some (s7,0)))))
def eU (p0:Net) (s5 s6:Int) (s7:List Ends):Option ((Int × Int × (List Ends)) ⊕ ((List Ends) × Int)) :=
 (if (decide (s6<((p0.Nodes).length:Int)))=true then ((idx p0.Nodes s6).bind fun x9=>((iA x9.Kind).bind fun x11=>(if (!x11.2.2)=true then (Option.map Sum.inr (some ([],5))) else ((gR ((x9.In).length:Int) x11.1).bind fun x12=>(Option.bind (if (!x12)=true then (some true) else ((gR ((x9.Out).length:Int) x11.2.1).bind fun x13=>(some (!x13)))) fun c14=>(if c14=true then (Option.map Sum.inr (some ([],4))) else (if ((decide (x9.A<0)) || (if (x9.Kind==1)=true then ((decide (x9.A >= 4)) || (if (x9.Kind==2)=true then ((decide (x9.A > 3)) || ((x9.Kind != 1) && ((x9.Kind != 2) && x9.A != 0))) else ((x9.Kind != 1) && ((x9.Kind != 2) && x9.A != 0)))) else (if (x9.Kind==2)=true then ((decide (x9.A > 3)) || ((x9.Kind != 1) && ((x9.Kind != 2) && x9.A != 0))) else ((x9.Kind != 1) && ((x9.Kind != 2) && x9.A != 0)))))=true then (Option.map Sum.inr (some ([],3))) else (if (x9.Kind==8)=true then (fK p0 s6 s7 x9 (IntKind.i64.wrap (s5+1))) else (fK p0 s6 s7 x9 s5))))))))) else (Option.map Sum.inr (iter (fun hO:Int=>fJ s5 s7 hO) 0)))
def iP (p0:Net):Option ((List Ends) × Int) :=
 (if ((decide (((p0.Nodes).length:Int)<1)) || ((decide (((p0.Nodes).length:Int) > 12)) || ((decide (p0.Rings<0)) || decide (p0.Rings > 16))))=true then (some ([],2)) else (if ((decide (p0.Room<1)) || decide (p0.Room > 6))=true then (some ([],3)) else ((il ([(⟨(-1),(-1)⟩:Ends)]:List Ends) p0.Rings).bind fun x4=>(iter (fun dN:Int × Int × (List Ends)=>eU p0 dN.1 dN.2.1 dN.2.2) (0,0,x4)))))
def ip (p0:Int) (p1:List Bool) (p2:List Ends):Option Bool :=
 ((ixN p2 p0).bind fun x5=>(((p2)[x5]?).bind fun x6=>((ixN p1 x6.src).bind fun x7=>(((p1)[x7]?).bind fun x8=>(some (!x8))))))
def gm (p0:List Int) (p1:List Bool) (p2:List Ends) (s1:Int):Option (Int ⊕ Int) :=
 (if (decide (s1<((p0).length:Int)))=true then ((idx p0 s1).bind fun x4=>((ip x4 p1 p2).bind fun x5=>(if x5=true then (Option.map Sum.inr (some s1)) else (some (.inl (IntKind.i64.wrap (s1+1))))))) else (Option.map Sum.inr (some (-1))))
def jr (p0:List Int) (p1:List Bool) (p2:List Ends):Option Int :=
 (iter (fun bF:Int=>gm p0 p1 p2 bF) 0)
def gn (p0:List Int) (p1:List Bool) (p2:List Ends):Option Bool :=
 ((jr p0 p1 p2).bind fun x2=>(some (decide (x2 >= 0))))
def fG (s5:List Int) (s6:List Bool) (z14:Int):Option (((List Int) × (List Bool)) ⊕ ((List Int) × Int)) :=
 (if (decide (z14<0))=true then (Option.map Sum.inr (some ([],7))) else ((ixN s6 z14).bind fun x17=>(((s6)[x17]?).bind fun x18=>((app s5 [z14]).bind fun x19=>(some (.inl (x19,(List.set s6 x17 true))))))))
def eP (p0:Net) (x2:(List Ends) × Int) (s5:List Int) (s6:List Bool) (s7:Int):Option (Int ⊕ (((List Int) × (List Bool)) ⊕ ((List Int) × Int))) :=
 (if (decide (s7<((p0.Nodes).length:Int)))=true then ((idx p0.Nodes s7).bind fun x9=>((ixN s6 s7).bind fun x10=>(((s6)[x10]?).bind fun x11=>(Option.bind (if (!x11)=true then ((gn x9.In s6 x2.1).bind fun x12=>(some (!x12))) else (some false)) fun c13=>(if c13=true then (Option.map Sum.inr (fG s5 s6 s7)) else (some (.inl (IntKind.i64.wrap (s7+1))))))))) else (Option.map Sum.inr (fG s5 s6 (-1))))
def eQ (p0:Net) (x2:(List Ends) × Int) (s5:List Int) (s6:List Bool):Option (((List Int) × (List Bool)) ⊕ ((List Int) × Int)) :=
 (if (decide (((s5).length:Int)<((p0.Nodes).length:Int)))=true then (iter (fun hP:Int=>eP p0 x2 s5 s6 hP) 0) else (Option.map Sum.inr (some (s5,0))))
def iF (p0:Net):Option ((List Int) × Int) :=
 ((iP p0).bind fun x2=>(if (x2.2 != 0)=true then (some ([],x2.2)) else ((mk ((p0.Nodes).length:Int) false).bind fun x4=>(iter (fun fu:(List Int) × (List Bool)=>eQ p0 x2 fu.1 fu.2) ([],x4)))))
def d6 (p0:Net):Option Int :=
 ((iF p0).bind fun x2=>(some x2.2))
def cx (x2:List (List UInt8)) (s3 s4 s5:Int) (s6:List Node):Option ((Int × Int × Int × (List Node)) ⊕ (Net × Int × Int)) :=
 (if (decide (s3<((x2).length:Int)))=true then ((idx x2 s3).bind fun x8=>(Option.bind (if (s3==(IntKind.i64.wrap (((x2).length:Int) - 1)))=true then (if (!(x8==[]))=true then (some (true,s4,s5,s6)) else (if (s3==0)=true then (some (true,s4,s5,s6)) else (if (!(s3==(IntKind.i64.wrap (((x2).length:Int) - 1))))=true then ((gC s3 x8 s4 s5 s6).bind fun x9=>(some (!x9.1,x9.2.1,x9.2.2.1,x9.2.2.2))) else (some (false,s4,s5,s6))))) else (if (!(s3==(IntKind.i64.wrap (((x2).length:Int) - 1))))=true then ((gC s3 x8 s4 s5 s6).bind fun x10=>(some (!x10.1,x10.2.1,x10.2.2.1,x10.2.2.2))) else (some (false,s4,s5,s6)))) fun ml=>(match ml with | (c11,c12,c13,c14)=>(if c11=true then (Option.map Sum.inr (some ((⟨[],0,0⟩:Net),s3,1))) else (some (.inl (IntKind.i64.wrap (s3+1),c12,c13,c14))))))) else (Option.map Sum.inr ((d6 (⟨s6,s4,s5⟩:Net)).bind fun x16=>(if (x16 != 0)=true then (some ((⟨[],0,0⟩:Net),0,x16)) else (some ((⟨s6,s4,s5⟩:Net),0,0))))))
def d5 (p0:List UInt8):Option (Net × Int × Int) :=
 (if (decide (((p0).length:Int) > 4000))=true then (some ((⟨[],0,0⟩:Net),0,2)) else ((f4 p0 ([10]:List UInt8)).bind fun x2=>(iter (fun bY:Int × Int × Int × (List Node)=>cx x2 bY.1 bY.2.1 bY.2.2.1 bY.2.2.2) (0,0,0,[]))))
def ir:Option Net :=
 (some (⟨[(⟨1,0,[],[0]⟩:Node),(⟨1,1,[],[1]⟩:Node),(⟨6,0,[0,1],[2]⟩:Node),(⟨8,0,[2],[]⟩:Node)],3,1⟩:Net))
def strings_Join (p0:List (List UInt8)) (p1:List UInt8):Option (List UInt8):=joinB p0 p1
def k5 (p0:List Int):Option (List Int):=some p0
def jq (p0:List UInt8) (p1:List Int):Option (Int × Unit × (List Int)) :=
 ((k5 p1).bind fun x2=>((app x2 (bj p0)).bind fun x4=>(some (((p0).length:Int),(),x4))))
def gB (p0:List (List UInt8)) (p1:List Int):Option (List Int) :=
 ((strings_Join p0 ([32]:List UInt8)).bind fun x1=>((cat x1 [10]).bind fun x2=>((jq x2 p1).bind fun x3=>(some x3.2.2))))
def eM (p0:List Int) (s1:Int) (s2:List (List UInt8)):Option ((Int × (List (List UInt8))) ⊕ (List UInt8)) :=
 (if (decide (s1<((p0).length:Int)))=true then ((idx p0 s1).bind fun x4=>((dS x4).bind fun x5=>((app s2 [x5]).bind fun x6=>(some (.inl (IntKind.i64.wrap (s1+1),x6)))))) else (Option.map Sum.inr (if (((s2).length:Int)==0)=true then (some [45]) else ((strings_Join s2 ([44]:List UInt8)).bind fun x8=>(some x8)))))
def iv (p0:List Int):Option (List UInt8) :=
 (iter (fun dC:Int × (List (List UInt8))=>eM p0 dC.1 dC.2) (0,[]))
def ld (p0:List Int):Option (List UInt8):=bldS p0
def eO (p0:Net) (s9:Int) (s10:List Int):Option ((Int × (List Int)) ⊕ ((List UInt8) × Int)) :=
 (if (decide (s9<((p0.Nodes).length:Int)))=true then ((idx p0.Nodes s9).bind fun x12=>(gH.bind fun x13=>((ixN x13 x12.Kind).bind fun x14=>(((x13)[x14]?).bind fun x15=>((dS x12.A).bind fun x16=>((iv x12.In).bind fun x17=>((iv x12.Out).bind fun x18=>((gB ([x15,x16,x17,x18]:List (List UInt8)) s10).bind fun x19=>(some (.inl (IntKind.i64.wrap (s9+1),x19))))))))))) else (Option.map Sum.inr ((ld s10).bind fun x21=>(some (x21,0)))))
def iy (p0:Net):Option ((List UInt8) × Int) :=
 ((d6 p0).bind fun x2=>(if (x2 != 0)=true then (some ([],x2)) else ((dS p0.Rings).bind fun x6=>((dS p0.Room).bind fun x7=>((gB ([[114,105,110,103,115],x6,x7]:List (List UInt8)) ([]:List Int)).bind fun x8=>(iter (fun dB:Int × (List Int)=>eO p0 dB.1 dB.2) (0,x8)))))))
def ij (p0 p1:List Int) (s1:Int):Option (Int ⊕ Bool) :=
 (if (decide (s1<((p0).length:Int)))=true then ((idx p0 s1).bind fun x4=>((idx p1 s1).bind fun x5=>(if (x4 != x5)=true then (Option.map Sum.inr (some false)) else (some (.inl (IntKind.i64.wrap (s1+1))))))) else (Option.map Sum.inr (some true)))
def fF (p0 p1:List Int):Option Bool :=
 (if (((p0).length:Int) != ((p1).length:Int))=true then (some false) else (iter (fun cV:Int=>ij p0 p1 cV) 0))
def im (p0 p1:Node):Option Bool :=
 (Option.bind (if (p0.Kind==p1.Kind)=true then (if (p0.A==p1.A)=true then ((fF p0.In p1.In).bind fun x1=>(if x1=true then ((fF p0.Out p1.Out).bind fun x2=>(some x2)) else (some false))) else (some false)) else (some false)) fun c3=>(some c3))
def eG (p0 p1:List Node) (s1:Int):Option (Int ⊕ Bool) :=
 (if (decide (s1<((p0).length:Int)))=true then ((idx p0 s1).bind fun x3=>((idx p1 s1).bind fun x5=>((im x3 x5).bind fun x7=>(if (!x7)=true then (Option.map Sum.inr (some false)) else (some (.inl (IntKind.i64.wrap (s1+1)))))))) else (Option.map Sum.inr (some true)))
def jp (p0 p1:List Node):Option Bool :=
 (if (((p0).length:Int) != ((p1).length:Int))=true then (some false) else (iter (fun cV:Int=>eG p0 p1 cV) 0))
def dp (p0 p1:Net):Option Bool :=
 (Option.bind (if (p0.Rings==p1.Rings)=true then (if (p0.Room==p1.Room)=true then ((jp p0.Nodes p1.Nodes).bind fun x1=>(some x1)) else (some false)) else (some false)) fun c2=>(some c2))
def gD:Option Bool :=
 (ir.bind fun x3=>((iy x3).bind fun x4=>((d5 x4.1).bind fun x6=>(Option.bind (if (x4.2==0)=true then (if (x6.2.2==0)=true then (if (x6.2.1==0)=true then (if (x4.1==[114,105,110,103,115,32,51,32,49,10,115,111,117,114,99,101,32,48,32,45,32,48,10,115,111,117,114,99,101,32,49,32,45,32,49,10,109,101,114,103,101,32,48,32,48,44,49,32,50,10,115,105,110,107,32,48,32,50,32,45,10])=true then (ir.bind fun x7=>((dp x6.1 x7).bind fun x8=>(some x8))) else (some false)) else (some false)) else (some false)) else (some false)) fun c9=>(some c9)))))
def index1W (p0 p1:List UInt8):Option Int:=index1 p0 p1
def ii (p0 p1:List UInt8):Option ((List UInt8) × (List UInt8) × Bool) :=
 ((index1W p0 p1).bind fun x2=>(if (decide (x2 >= 0))=true then ((sub p0 0 x2).bind fun x5=>((sub p0 (IntKind.i64.wrap (x2+((p1).length:Int))) ((p0).length:Int)).bind fun x6=>(some (x5,x6,true)))) else (some (p0,[],false))))
def eT (p0 p1:List UInt8):Option ((List UInt8) × (List UInt8) × Bool) :=
 ((ii p0 p1).bind fun x2=>(some (x2.1,x2.2.1,x2.2.2)))
def f5 (p0:List UInt8) (p1 p2:Int):Option Int:=if p1=10/\p2=64 then hH p0 else none
def iZ (p0:List UInt8) (p1 p2:Int):Option Int:=if p1=10/\p2=64 then iY p0 else none
def iQ (p0 p1:Int):Option (List UInt8):=if p1=10 then itoaS p0 else none
def fE  (z9:Int) (z10:Bool):Option (Int × Bool) :=
 (some (z9,z10))
def iu (p0:List UInt8):Option (Int × Bool) :=
 (if (eZ p0)=true then ((f5 p0 (10:Int) (64:Int)).bind fun x5=>(fE x5 false)) else ((iZ p0 (10:Int) (64:Int)).bind fun x6=>(Option.bind (if (decide (x6 >= 0))=true then ((iQ x6 (10:Int)).bind fun x7=>(some (x7==p0))) else (some false)) fun c8=>(fE x6 c8))))
def eI (p0:List UInt8) (p1:Bool):Option (Int × Bool) :=
 ((iu p0).bind fun x2=>(some (x2.1,(p1 && x2.2))))
def jx:Option (List (List UInt8)) :=
 (some [[115,111,117,114,99,101],[109,97,112],[115,99,97,110],[99,111,117,110,116],[116,101,101],[109,101,114,103,101],[115,112,108,105,116],[115,105,110,107]])
def dF (p0:List (List UInt8)) (p1:List UInt8) (s1:Int):Option (Int ⊕ Int) :=
 (if (decide (s1<((p0).length:Int)))=true then ((idx p0 s1).bind fun x3=>(if (p1==x3)=true then (Option.map Sum.inr (some s1)) else (some (.inl (IntKind.i64.wrap (s1+1)))))) else (Option.map Sum.inr (some (-1))))
def js (p0:List (List UInt8)) (p1:List UInt8):Option Int :=
 (iter (fun bF:Int=>dF p0 p1 bF) 0)
def eH (x2:List (List UInt8)) (s3:Int) (s4:Bool) (s5:List Int):Option ((Int × Bool × (List Int)) ⊕ ((List Int) × Bool)) :=
 (if (decide (s3<((x2).length:Int)))=true then ((idx x2 s3).bind fun x7=>((eI x7 s4).bind fun x8=>((app s5 [x8.1]).bind fun x9=>(some (.inl (IntKind.i64.wrap (s3+1),x8.2,x9)))))) else (Option.map Sum.inr (some (s5,s4))))
def gu (p0:List UInt8) (p1:Bool):Option ((List Int) × Bool) :=
 (if (p0==[45])=true then (some ([],p1)) else ((f4 p0 ([44]:List UInt8)).bind fun x2=>(iter (fun cH:Int × Bool × (List Int)=>eH x2 cH.1 cH.2.1 cH.2.2) (0,p1,[]))))
def gz (p0:Int):Option Bool :=
 (some (p0==0))
def ce (p0:Int):Option Bool :=
 (some (p0==1))
def fD (p0:Int):Option Bool :=
 (some (decide (p0 >= 1)))
def gy (p0:List Int) (p1 s1:Int):Option (Int ⊕ Int) :=
 (if (decide (s1<((p0).length:Int)))=true then ((idx p0 s1).bind fun x3=>(if (p1==x3)=true then (Option.map Sum.inr (some s1)) else (some (.inl (IntKind.i64.wrap (s1+1)))))) else (Option.map Sum.inr (some (-1))))
def ju (p0:List Int) (p1:Int):Option Int :=
 (iter (fun bF:Int=>gy p0 p1 bF) 0)
def gw (p0:List Int) (p1:Int):Option Bool :=
 ((ju p0 p1).bind fun x2=>(some (decide (x2 >= 0))))
def dG (p0:Net) (s3 s4:Int) (x8:Node) (s35:List (Int × Int)) (s39:Int) (s40:List (Int × Int)):Option ((Int × (List (Int × Int))) ⊕ ((Int × Int × (List (Int × Int)) × (List (Int × Int))) ⊕ ((List Int) × Int))) :=
 (if (decide (s39<((x8.Out).length:Int)))=true then ((idx x8.Out s39).bind fun x42=>(if ((decide (x42<0)) || decide (x42 >= p0.Rings))=true then (Option.map Sum.inr (Option.map Sum.inr (some ([],3)))) else (if ((mget x42 s40).isSome)=true then (Option.map Sum.inr (Option.map Sum.inr (some ([],6)))) else (some (.inl (IntKind.i64.wrap (s39+1),(mset x42 s4 s40))))))) else (Option.map Sum.inr (if (x8.Kind==8)=true then (some (.inl (IntKind.i64.wrap (s3+1),IntKind.i64.wrap (s4+1),s40,s35))) else (some (.inl (s3,IntKind.i64.wrap (s4+1),s40,s35))))))
def cZ (p0:Net) (s3 s4:Int) (s5:List (Int × Int)) (x8:Node) (s34:Int) (s35:List (Int × Int)):Option ((Int × (List (Int × Int))) ⊕ ((Int × Int × (List (Int × Int)) × (List (Int × Int))) ⊕ ((List Int) × Int))) :=
 (if (decide (s34<((x8.In).length:Int)))=true then ((idx x8.In s34).bind fun x37=>(if ((decide (x37<0)) || decide (x37 >= p0.Rings))=true then (Option.map Sum.inr (Option.map Sum.inr (some ([],3)))) else (if ((mget x37 s35).isSome)=true then (Option.map Sum.inr (Option.map Sum.inr (some ([],6)))) else (some (.inl (IntKind.i64.wrap (s34+1),(mset x37 s4 s35))))))) else (Option.map Sum.inr (iter (fun ep:Int × (List (Int × Int))=>dG p0 s3 s4 x8 s35 ep.1 ep.2) (0,s5))))
def cw (p0:Net) (s3 s4:Int) (s5 s6:List (Int × Int)) (x8:Node):Option ((Int × Int × (List (Int × Int)) × (List (Int × Int))) ⊕ ((List Int) × Int)) :=
 (if ((decide (x8.A<0)) || decide (x8.A > ((mget x8.Kind (mset 2 3 (mset 1 3 ([]:List (Int × Int))))).getD 0)))=true then (Option.map Sum.inr (some ([],3))) else (iter (fun eq:Int × (List (Int × Int))=>cZ p0 s3 s4 s5 x8 eq.1 eq.2) (0,s6)))
def eK (s5:List (Int × Int)) (s46:List Int) (s47 s48:Int) (x52:Node) (s53:Bool) (s54:Int):Option ((Bool × Int) ⊕ ((Int × Int) ⊕ ((Int × (List Int)) ⊕ ((List Int) × Int)))) :=
 (if (decide (s54<((x52.In).length:Int)))=true then ((idx x52.In s54).bind fun x56=>(if s53=true then ((gw s46 ((mget x56 s5).getD 0)).bind fun x57=>(some (.inl (x57,IntKind.i64.wrap (s54+1))))) else (some (.inl (false,IntKind.i64.wrap (s54+1)))))) else (Option.map Sum.inr (if s53=true then (some (.inl (s48,IntKind.i64.wrap (s48 - 1)))) else (some (.inl (s47,IntKind.i64.wrap (s48 - 1)))))))
def eL (p0:Net) (s5:List (Int × Int)) (s45:Int) (s46:List Int) (s47 s48:Int):Option ((Int × Int) ⊕ ((Int × (List Int)) ⊕ ((List Int) × Int))) :=
 (if (decide (s48 >= 0))=true then ((gw s46 s48).bind fun x50=>(if x50=true then (some (.inl (s47,IntKind.i64.wrap (s48 - 1)))) else ((idx p0.Nodes s48).bind fun x52=>(iter (fun fh:Bool × Int=>eK s5 s46 s47 s48 x52 fh.1 fh.2) (true,0))))) else (Option.map Sum.inr (if (decide (s47<0))=true then (Option.map Sum.inr (some ([],7))) else ((app s46 [s47]).bind fun x58=>(some (.inl (IntKind.i64.wrap (s45+1),x58)))))))
def dW (p0:Net) (s5:List (Int × Int)) (s45:Int) (s46:List Int):Option ((Int × (List Int)) ⊕ ((List Int) × Int)) :=
 (if (decide (s45<((p0.Nodes).length:Int)))=true then (iter (fun fj:Int × Int=>eL p0 s5 s45 s46 fj.1 fj.2) ((-1),IntKind.i64.wrap (((p0.Nodes).length:Int) - 1))) else (Option.map Sum.inr (some (s46,0))))
def dH (p0:Net) (s3 s4:Int) (s5 s6:List (Int × Int)):Option ((Int × Int × (List (Int × Int)) × (List (Int × Int))) ⊕ ((List Int) × Int)) :=
 (if (decide (s4<((p0.Nodes).length:Int)))=true then ((idx p0.Nodes s4).bind fun x8=>(if (x8.Kind==1)=true then ((gz ((x8.In).length:Int)).bind fun x9=>(Option.bind (if (!x9)=true then (some true) else ((ce ((x8.Out).length:Int)).bind fun x10=>(some (!x10)))) fun c11=>(if c11=true then (Option.map Sum.inr (some ([],4))) else (cw p0 s3 s4 s5 s6 x8)))) else (if (x8.Kind==2)=true then ((ce ((x8.In).length:Int)).bind fun x12=>(Option.bind (if (!x12)=true then (some true) else ((ce ((x8.Out).length:Int)).bind fun x13=>(some (!x13)))) fun c14=>(if c14=true then (Option.map Sum.inr (some ([],4))) else (cw p0 s3 s4 s5 s6 x8)))) else (if (x8.Kind==3)=true then ((ce ((x8.In).length:Int)).bind fun x15=>(Option.bind (if (!x15)=true then (some true) else ((ce ((x8.Out).length:Int)).bind fun x16=>(some (!x16)))) fun c17=>(if c17=true then (Option.map Sum.inr (some ([],4))) else (cw p0 s3 s4 s5 s6 x8)))) else (if (x8.Kind==4)=true then ((ce ((x8.In).length:Int)).bind fun x18=>(Option.bind (if (!x18)=true then (some true) else ((ce ((x8.Out).length:Int)).bind fun x19=>(some (!x19)))) fun c20=>(if c20=true then (Option.map Sum.inr (some ([],4))) else (cw p0 s3 s4 s5 s6 x8)))) else (if (x8.Kind==5)=true then ((ce ((x8.In).length:Int)).bind fun x21=>(Option.bind (if (!x21)=true then (some true) else ((fD ((x8.Out).length:Int)).bind fun x22=>(some (!x22)))) fun c23=>(if c23=true then (Option.map Sum.inr (some ([],4))) else (cw p0 s3 s4 s5 s6 x8)))) else (if (x8.Kind==7)=true then ((ce ((x8.In).length:Int)).bind fun x24=>(Option.bind (if (!x24)=true then (some true) else ((fD ((x8.Out).length:Int)).bind fun x25=>(some (!x25)))) fun c26=>(if c26=true then (Option.map Sum.inr (some ([],4))) else (cw p0 s3 s4 s5 s6 x8)))) else (if (x8.Kind==6)=true then ((fD ((x8.In).length:Int)).bind fun x27=>(Option.bind (if (!x27)=true then (some true) else ((ce ((x8.Out).length:Int)).bind fun x28=>(some (!x28)))) fun c29=>(if c29=true then (Option.map Sum.inr (some ([],4))) else (cw p0 s3 s4 s5 s6 x8)))) else (if (x8.Kind==8)=true then ((ce ((x8.In).length:Int)).bind fun x30=>(Option.bind (if (!x30)=true then (some true) else ((gz ((x8.Out).length:Int)).bind fun x31=>(some (!x31)))) fun c32=>(if c32=true then (Option.map Sum.inr (some ([],4))) else (cw p0 s3 s4 s5 s6 x8)))) else (Option.map Sum.inr (some ([],5)))))))))))) else (Option.map Sum.inr (if ((((s5).length:Int) != p0.Rings) || ((s6).length:Int) != p0.Rings)=true then (some ([],9)) else (if (s3 != 1)=true then (some ([],4)) else (iter (fun fk:Int × (List Int)=>dW p0 s5 fk.1 fk.2) (0,[]))))))
def iq (p0:Net):Option ((List Int) × Int) :=
 (if ((((p0.Nodes).length:Int)==0) || ((decide (((p0.Nodes).length:Int) > 12)) || ((decide (p0.Rings<0)) || decide (p0.Rings > 16))))=true then (some ([],2)) else (if ((decide (p0.Room<1)) || decide (p0.Room > 6))=true then (some ([],3)) else (iter (fun cB:Int × Int × (List (Int × Int)) × (List (Int × Int))=>dH p0 cB.1 cB.2.1 cB.2.2.1 cB.2.2.2) (0,0,([]:List (Int × Int)),([]:List (Int × Int))))))
def cY (x2:Net × Int × Int) (s9:Int) (x15:(List UInt8) × (List UInt8) × Bool) (z38 z39:Int) (z40:Bool) (z41:List Node):Option (((List UInt8) × Int × Int × Int × (List Node)) ⊕ Bool) :=
 (if (!z40)=true then (Option.bind (if (x2.2.2==1)=true then (if (x2.2.1==s9)=true then ((dp x2.1 (⟨[],0,0⟩:Net)).bind fun x42=>(some x42)) else (some false)) else (some false)) fun c43=>(Option.map Sum.inr (some c43))) else (some (.inl (x15.2.1,IntKind.i64.wrap (s9+1),z38,z39,z41))))
def cJ (x2:Net × Int × Int) (s8:List UInt8) (s9 s10 s11:Int) (s12:List Node):Option (((List UInt8) × Int × Int × Int × (List Node)) ⊕ Bool) :=
 (if ((s9==0) || !(s8==[]))=true then ((eT s8 ([10]:List UInt8)).bind fun x15=>((f4 x15.1 ([32]:List UInt8)).bind fun x17=>(if (s9==0)=true then (Option.bind (if x15.2.2=true then (if (((x17).length:Int)==3)=true then ((idx x17 0).bind fun x18=>(some (x18==[114,105,110,103,115]))) else (some false)) else (some false)) fun c19=>(if c19=true then ((idx x17 1).bind fun x20=>((eI x20 c19).bind fun x21=>((idx x17 2).bind fun x22=>((eI x22 x21.2).bind fun x23=>(cY x2 s9 x15 x21.1 x23.1 x23.2 s12))))) else (cY x2 s9 x15 s10 s11 c19 s12))) else (jx.bind fun x27=>((idx x17 0).bind fun x28=>((js x27 x28).bind fun x29=>(if ((decide (x29<0)) || ((x17).length:Int) != 4)=true then (cY x2 s9 x15 s10 s11 false s12) else ((idx x17 1).bind fun x31=>((eI x31 x15.2.2).bind fun x32=>((idx x17 2).bind fun x33=>((gu x33 x32.2).bind fun x34=>((idx x17 3).bind fun x35=>((gu x35 x34.2).bind fun x36=>((app s12 [(⟨IntKind.i64.wrap (x29+1),x32.1,x34.1,x36.1⟩:Node)]).bind fun x37=>(cY x2 s9 x15 s10 s11 x36.2 x37))))))))))))))) else (Option.map Sum.inr ((iq (⟨s12,s10,s11⟩:Net)).bind fun x45=>(if (x45.2 != 0)=true then (Option.bind (if (x2.2.2==x45.2)=true then (if (x2.2.1==0)=true then ((dp x2.1 (⟨[],0,0⟩:Net)).bind fun x46=>(some x46)) else (some false)) else (some false)) fun c47=>(some c47)) else (Option.bind (if (x2.2.2==0)=true then (if (x2.2.1==0)=true then ((dp x2.1 (⟨s12,s10,s11⟩:Net)).bind fun x48=>(some x48)) else (some false)) else (some false)) fun c49=>(some c49))))))
def jt (p0:List UInt8):Option Bool :=
 ((d5 p0).bind fun x2=>(gD.bind fun x3=>(if ((!x3) || decide (((p0).length:Int) > 4000))=true then (gD.bind fun x5=>(Option.bind (if x5=true then (if (x2.2.2==2)=true then (if (x2.2.1==0)=true then ((dp x2.1 (⟨[],0,0⟩:Net)).bind fun x6=>(some x6)) else (some false)) else (some false)) else (some false)) fun c7=>(some c7))) else (iter (fun bL:(List UInt8) × Int × Int × Int × (List Node)=>cJ x2 bL.1 bL.2.1 bL.2.2.1 bL.2.2.2.1 bL.2.2.2.2) (p0,0,0,0,[])))))
end
section
open Go.RowKit
set_option maxRecDepth 100000
def tyT:TT:=.n 36 (.n 17 (.n 4 (.n 3 (.l 2 (.it .i64)) (.l 3 (.it .i64))) (.n 9 (.l 4 (.bo)) (.n 10 (.l 9 (.str)) (.l 10 (.str))))) (.n 23 (.n 18 (.l 17 (.sc (.nilp))) (.n 22 (.l 18 (.ag [.nilp] 1 [(0,1,17)])) (.l 22 (.sl 42 4)))) (.n 24 (.l 23 (.ag [.nils,.int .i64 0,.int .i64 0] 3 [(0,1,22),(1,1,3),(2,1,3)])) (.n 25 (.l 24 (.ag [.nils,.int .i64 0,.int .i64 0] 3 [(0,1,22),(1,1,3),(2,1,3)])) (.l 25 (.it .i64)))))) (.n 93 (.n 73 (.n 37 (.l 36 (.sc (.nilf))) (.n 42 (.l 37 (.sl 3 1)) (.l 42 (.ag [.int .i64 0,.int .i64 0,.nils,.nils] 4 [(0,1,3),(1,1,3),(2,1,37),(3,1,37)])))) (.n 75 (.l 73 (.sc (.nilf))) (.n 88 (.l 75 (.ag [.nilf,.nilf] 2 [(0,1,73),(1,1,73)])) (.l 88 (.ag [] 0 []))))) (.n 123 (.n 108 (.l 93 (.ag [.nilp,.nils] 2 [(0,1,90),(1,1,91)])) (.n 111 (.l 108 (.it .u64)) (.l 111 (.it .u64)))) (.n 126 (.l 123 (.sl 129 2)) (.n 129 (.l 126 (.sl 4 1)) (.l 129 (.ag [.int .i64 0,.int .i64 0] 2 [(0,1,3),(1,1,3)]))))))
theorem b8:tyT.Ok Tryz.prog:=TT.ok_of (by kernel_rfl)
section
variable {N n:Nat} {aw aw':List Ob} {l:List (Nat × AV)} {ops:Array Oper} {os:List Oper} {K:List AV→List Ob→Prop} {k:Nat} {li:Array Bool}
theorem go (m c:Nat) (h:wR tyT n m os l aw c fun os l aw=>RS Tryz.prog N ops os K (mkA n l) aw) (hc:aw.length=c:=by rfl):RS Tryz.prog N ops os K (mkA n l) aw:=RS.go b8 hc h
theorem rq (is:List Nat) (k':Nat) (h:wQ tyT n ops.toList is l aw fun l=>RA Tryz.prog N ops k' (lisQ li is) K (mkA n l) aw) (hk:k=k' + is.length:=by rfl) (hs:Region.noSelect ops=true:=by decide +kernel) (ho:okQ ops li is=true:=by decide +kernel):RA Tryz.prog N ops k li K (mkA n l) aw:=RA.qs b8 hs hk ho h
theorem og {i:Nat} (c:Nat) (h:aY ops.toList i fun o=>o.guard=none/\wE tyT n l aw c o.op fun r aw c=>(match o.dst with
 | some t=>K (mkA n ((t,r)::l)) aw
 | none=>K (mkA n l) aw)) (hc:aw.length=c:=by rfl):RO Tryz.prog N ops i K (mkA n l) aw:=RO.g b8 hc h
variable {o:Oper} {Q:Exit→List AV→List Ob→Prop} {rs:List ResultVar} {V:AV} {obs:List Ob} {M:Nat}
theorem yg (c:Nat) {j t:Nat} {want b:Bool} (hbw:b=want) (h:wE tyT n l aw c o.op fun r aw _=>stD l o.dst r fun l=>RS Tryz.prog N ops os K (mkA n l) aw) (hg:o.guard=some (j,want):=by rfl) (hj:(ops[j]?).bind (·.dst)=some t:=by rfl) (hb:evA n l (.tmp t)=.bool b:=by rfl) (hc:aw.length=c:=by rfl):RS Tryz.prog N ops (o::os) K (mkA n l) aw:=yg' b8 c hbw h hg hj hb hc
theorem oy {i:Nat} (c:Nat) {j t:Nat} {want b:Bool} (hbw:b=want) (hi:ops[i]?=some o) (h:wE tyT n l aw c o.op fun r aw _=>stD l o.dst r fun l=>K (mkA n l) aw) (hg:o.guard=some (j,want):=by rfl) (hj:(ops[j]?).bind (·.dst)=some t:=by rfl) (hb:evA n l (.tmp t)=.bool b:=by rfl) (hc:aw.length=c:=by rfl):RO Tryz.prog N ops i K (mkA n l) aw:=oy' b8 c hbw hi h hg hj hb hc
theorem ry (i:Nat) {j t:Nat} {want b:Bool} (hbw:b=want) (hi:ops[i]?=some o) (h:wV tyT n l aw o.op fun r=>stD l o.dst r fun l=>RA Tryz.prog N ops k (li.setIfInBounds i true) K (mkA n l) aw) (hs:Region.noSelect ops=true:=by decide +kernel) (hf:Region.free .any ops li i=true:=by decide +kernel) (hr:(Region.ready .any ops li).contains i=true:=by decide +kernel) (hg:o.guard=some (j,want):=by rfl) (hj:(ops[j]?).bind (·.dst)=some t:=by rfl) (hb:evA n l (.tmp t)=.bool b:=by rfl) (hn:ed o.op=true:=by rfl):RA Tryz.prog N ops (k+1) li K (mkA n l) aw:=ry' b8 i hbw hi h hs hf hr hg hj hb hn
theorem rL (D:List Nat) (i:Nat) (hi:ops[i]?=some o) (h:wV tyT n l aw o.op fun r=>stD l o.dst r fun l=>RA Tryz.prog N ops k (li.setIfInBounds i true) K (mkA n l) aw) (hs:Region.noSelect ops=true:=by decide +kernel) (hf:RK.loadFree ops li D i=true:=by decide +kernel) (hr:(Region.ready .any ops li).contains i=true:=by decide +kernel) (hg:o.guard=none:=by rfl):RA Tryz.prog N ops (k+1) li K (mkA n l) aw:=rL' b8 D i hi h hs hf hr hg
theorem tD [hq:RetI Q (fun fr aw=>aT Tryz.prog fr aw rs (Ret 0 (fun r aw'=>r=V/\aw'=[]) aw))] [hV:PureC V] (h:resC tyT n l aw rs fun vs=>nrmRC aw (bl vs) fun v _=>v=V:=by rfl):T Tryz.prog N .ret Q (mkA n l) aw:=T.rD b8 h
theorem tO (nl:List (Nat × TypeId × Nat)) (ρ:List Nat) (c:Nat) [hq:RetI Q (fun fr aw=>aT Tryz.prog fr aw rs (Ret M (fun r aw'=>r=V/\aw'=obs) aw))] [g:GoodA 3 V] [g':GoodOs obs] (h:resC tyT n l aw rs fun vs=>nilVC nl vs aw c fun vs aw=>fA (bl vs) fun a=>mpA ρ 3 V a fun b=>mpOs ρ aw ρ obs fun bs es=>(b,bs)=(a,es):=by rfl) (hc:aw.length=c:=by rfl) (h1:ρ.Nodup:=by decide) (h2:∀ k,k<M->ρ[k]?=some k:=by decide):T Tryz.prog N .ret Q (mkA n l) aw:=T.rO b8 nl ρ c h hc h1 h2
theorem tN (ρ:List Nat) [hq:RetI Q (fun fr aw=>aT Tryz.prog fr aw rs (Ret M (fun r aw'=>r=V/\aw'=obs) aw))] [g:GoodA 3 V] [g':GoodOs obs] (h:resC tyT n l aw rs fun vs=>nrmRC aw (bl vs) fun a aw=>mpA ρ 3 V a fun b=>mpOs ρ aw ρ obs fun bs es=>(b,bs)=(a,es):=by rfl) (h1:ρ.Nodup:=by decide) (h2:∀ k,k<M->ρ[k]?=some k:=by decide):T Tryz.prog N .ret Q (mkA n l) aw:=T.rN b8 ρ h h1 h2
variable {fn:Func}
theorem eN (ρ:List Nat) (hr:fn.results.toList=rs:=by rfl) [g:GoodA 3 V] [g':GoodOs obs] (h:resC tyT n l aw rs fun vs=>nrmRC aw (bl vs) fun a aw=>mpA ρ 3 V a fun b=>mpOs ρ aw ρ obs fun bs es=>(b,bs)=(a,es):=by rfl) (h1:ρ.Nodup:=by decide) (h2:∀ k,k<M->ρ[k]?=some k:=by decide):retQ Tryz.prog fn M (fun r aw'=>r=V/\aw'=obs) .normal (mkA n l) aw:=by subst hr;exact rN_c b8 ρ h h1 h2
variable {c:Code} {st:List Fr}
theorem X (f k:Nat) (h:gx false tyT Tryz.prog N n Q f (.cd c) st l aw k) (hk:aw.length=k:=by rfl):T Tryz.prog N c (qs Tryz.prog N st Q) (mkA n l) aw:=dQ b8 hk h
theorem Y (f k:Nat) (h:gx false tyT Tryz.prog N n Q f (.op ops os) st l aw k) (hk:aw.length=k:=by rfl):RS Tryz.prog N ops os (qs Tryz.prog N st Q .normal) (mkA n l) aw:=dQ b8 hk h
theorem Yp (f k:Nat) (h:gx true tyT Tryz.prog N n Q f (.op ops os) st l aw k) (hk:aw.length=k:=by rfl):RS Tryz.prog N ops os (qs Tryz.prog N st Q .normal) (mkA n l) aw:=dQ b8 hk h
theorem fT {f:FuncId} {fn:Func} {args:List AV} {QF:AV->List Ob->Prop} {m:Nat} (N q:Nat) (hf:Tryz.prog.funcs[f]?=some fn) (hm:fn.ntmps=m) (hb:fn.body=some c) (h:iniC 0 args fun l=>gx false tyT Tryz.prog N m (retQ Tryz.prog fn N QF) q (.cd c) [] l aw N) (hN:aw.length=N:=by rfl) (hname:(fn.name == "runtime.NumGoroutine")=false:=by kernel_rfl) (hl:Nat.ble args.length m=true:=by rfl):ACalls Tryz.prog f args aw QF:=fX b8 N q hf hm h hb hN hname hl
end
end
section
open Go.RowKit Go.Shelf
set_option maxRecDepth 100000
set_option maxHeartbeats 4000000
def iR:Go.Shelf.Ren:=⟨fun n=>match n with | 129=>96 | 171=>19 | 243=>41 | 246=>45 | 283=>72 | 284=>73 | 285=>74 | 286=>75 | 317=>95 | 318=>97 | 319=>98 | 320=>99 | 337=>110 | 338=>111 | _=>0,fun n=>match n with | 0=>0 | 2=>2 | 3=>3 | 4=>4 | 5=>5 | 9=>9 | 20=>20 | 37=>91 | 46=>111 | 51=>144 | 53=>108 | 171=>115 | 173=>118 | 212=>143 | 213=>145 | 232=>168 | 233=>169 | _=>0,fun n=>match n with | 17=>3 | 18=>6 | 19=>7 | _=>0⟩
theorem iL:LaysM.n171 Tryz.prog iR where
 mixed:=by kernel_rfl
 f129:=by kernel_rfl
 f171:=by kernel_rfl
 f243:=by kernel_rfl
 f246:=by kernel_rfl
 f283:=by kernel_rfl
 f284:=by kernel_rfl
 f285:=by kernel_rfl
 f286:=by kernel_rfl
 f317:=by kernel_rfl
 f318:=by kernel_rfl
 f319:=by kernel_rfl
 f320:=by kernel_rfl
 f337:=by kernel_rfl
 f338:=by kernel_rfl
 t0:=by kernel_rfl
 a0:=fun w=>by kernel_rfl
 z0:=fun w=>by kernel_rfl
 v0:=fun w=>by kernel_rfl
 t2:=by kernel_rfl
 a2:=fun w=>by kernel_rfl
 z2:=fun w=>by kernel_rfl
 v2:=fun w=>by kernel_rfl
 t3:=by kernel_rfl
 a3:=fun w=>by kernel_rfl
 z3:=fun w=>by kernel_rfl
 v3:=fun w=>by kernel_rfl
 t4:=by kernel_rfl
 a4:=fun w=>by kernel_rfl
 z4:=fun w=>by kernel_rfl
 v4:=fun w=>by kernel_rfl
 t5:=by kernel_rfl
 a5:=fun w=>by kernel_rfl
 z5:=fun w=>by kernel_rfl
 v5:=fun w=>by kernel_rfl
 t9:=by kernel_rfl
 a9:=fun w=>by kernel_rfl
 z9:=fun w=>by kernel_rfl
 v9:=fun w=>by kernel_rfl
 t20:=by kernel_rfl
 a20:=fun w=>by kernel_rfl
 z20:=fun w=>by kernel_rfl
 v20:=fun w=>by kernel_rfl
 t37:=by kernel_rfl
 a37:=fun w=>by kernel_rfl
 z37:=fun w=>by kernel_rfl
 v37:=fun w=>by kernel_rfl
 t46:=by kernel_rfl
 a46:=fun w=>by kernel_rfl
 z46:=fun w=>by kernel_rfl
 v46:=fun w=>by kernel_rfl
 t51:=by kernel_rfl
 a51:=fun w=>by kernel_rfl
 z51:=fun w=>by kernel_rfl
 v51:=fun w=>by kernel_rfl
 t53:=by kernel_rfl
 a53:=fun w=>by kernel_rfl
 z53:=fun w=>by kernel_rfl
 v53:=fun w=>by kernel_rfl
 t171:=by kernel_rfl
 a171:=fun w=>by kernel_rfl
 z171:=fun w=>by kernel_rfl
 v171:=fun w=>by kernel_rfl
 t173:=by kernel_rfl
 a173:=fun w=>by kernel_rfl
 z173:=fun w=>by kernel_rfl
 v173:=fun w=>by kernel_rfl
 t212:=by kernel_rfl
 a212:=fun w=>by kernel_rfl
 z212:=fun w=>by kernel_rfl
 v212:=fun w=>by kernel_rfl
 t213:=by kernel_rfl
 a213:=fun w=>by kernel_rfl
 z213:=fun w=>by kernel_rfl
 t232:=by kernel_rfl
 a232:=fun w=>by kernel_rfl
 z232:=fun w=>by kernel_rfl
 v232:=fun w=>by kernel_rfl
 t233:=by kernel_rfl
 a233:=fun w=>by kernel_rfl
 z233:=fun w=>by kernel_rfl
 v233:=fun w=>by kernel_rfl
 g17:=by kernel_rfl
 g18:=by kernel_rfl
 g19:=by kernel_rfl
 i0:=by kernel_rfl
 i2:=by kernel_rfl
 i3:=by kernel_rfl
 i4:=by kernel_rfl
 i5:=by kernel_rfl
 i9:=by kernel_rfl
 i20:=by kernel_rfl
 i37:=by kernel_rfl
 i46:=by kernel_rfl
 i51:=by kernel_rfl
 i53:=by kernel_rfl
 i171:=by kernel_rfl
 i173:=by kernel_rfl
 i212:=by kernel_rfl
 i232:=by kernel_rfl
 i233:=by kernel_rfl
 m17:=by kernel_rfl
 m18:=by kernel_rfl
 m19:=by kernel_rfl
theorem qi {w:World} {F:Nat->Prop} (h:Gd w F):Go.Lib.TabIs Tryz.prog w "internal/strconv.uint64pow10" .u64 Go.Lib.pow10Tab:=by
 obtain ⟨_,o,h1,cs,t,fz,rfl,h3⟩:=h 3 (by simp [gvs]);have hn:Tryz.prog.globalNamed "internal/strconv.uint64pow10" = some 3:=by kernel_rfl
 unfold Go.Lib.TabIs World.var?;rw [hn];simp only [zI,h1,h3.1 rfl]
theorem vO (p0:Int) (r:List UInt8) (h:itoaS p0=some r):Fn Tryz.prog 19 [.int .i64 p0] (.str r):=by
 unfold itoaS at h;split at h
 ·rename_i h0;injection h with h
  subst h;refine ⟨callable Tryz.func19 rfl (by kernel_rfl),fun w F σ vs hs hr=>?_⟩;match vs,hr with
  | [v0],hr =>
   have r0:Rel σ w F (.int .i64 p0) v0:=hr.2 0 _ v0 rfl rfl
   cases r0
   refine (Any.strconv_Itoa iL p0 h0.1 h0.2 w (qi hs.gd)).mono ?_
   rintro e w' ⟨rfl,k,os,rfl⟩
   have hb:=Go.Lib.below_grow w.heap.size w (zP _) k os
   exact ⟨_,_,[],σ,F,rfl,⟨rfl,rfl⟩,hs.grow (fun _ h=>h) (fun _ h=>.inl h) (fun b hb2=>zX (hs.lt b hb2) hb.size) hb.block,.str _,.grow (fun _ h=>h) (fun _ h=>.inl h) hb.os hb.tape (drO hb.output) hb.size hb.block⟩
 ·cases h
end
section
open Go.RowKit Go.Shelf
set_option maxRecDepth 100000
set_option maxHeartbeats 4000000
def tR:Go.Shelf.Ren:=⟨fun n=>match n with | 119=>90 | 129=>96 | 137=>89 | 138=>57 | 143=>58 | 146=>9 | 152=>61 | 153=>39 | 171=>19 | 172=>40 | 173=>22 | 174=>21 | 195=>85 | 197=>86 | 205=>94 | 217=>81 | 218=>87 | 219=>55 | 221=>32 | 224=>83 | 225=>82 | 226=>62 | 227=>63 | 228=>64 | 243=>41 | 244=>65 | 245=>44 | 246=>45 | 247=>43 | 260=>108 | 266=>106 | 267=>84 | 268=>56 | 279=>68 | 280=>69 | 281=>70 | 282=>71 | 283=>72 | 284=>73 | 285=>74 | 286=>75 | 287=>67 | 314=>107 | 316=>93 | 317=>95 | 318=>97 | 319=>98 | 320=>99 | 321=>91 | 322=>92 | 337=>110 | 338=>111 | _=>0,fun n=>match n with | 0=>0 | 2=>2 | 3=>3 | 4=>4 | 5=>5 | 9=>9 | 20=>20 | 21=>21 | 31=>32 | 37=>91 | 46=>111 | 51=>144 | 53=>108 | 75=>57 | 76=>84 | 80=>96 | 85=>58 | 105=>133 | 116=>102 | 117=>103 | 119=>164 | 124=>136 | 127=>130 | 138=>166 | 139=>167 | 143=>158 | 145=>160 | 146=>155 | 167=>107 | 168=>112 | 171=>115 | 173=>118 | 175=>109 | 210=>140 | 212=>143 | 213=>145 | 232=>168 | 233=>169 | _=>0,fun n=>match n with | 1=>0 | 3=>4 | 4=>5 | 15=>1 | 16=>2 | 17=>3 | 18=>6 | 19=>7 | _=>0⟩
theorem tS:Lays.n146 Tryz.prog tR where
 mixed:=by kernel_rfl
 f138:=by kernel_rfl
 f143:=by kernel_rfl
 f146:=by kernel_rfl
 f195:=by kernel_rfl
 f197:=by kernel_rfl
 f217:=by kernel_rfl
 f218:=by kernel_rfl
 f219:=by kernel_rfl
 f221:=by kernel_rfl
 f224:=by kernel_rfl
 f225:=by kernel_rfl
 f260:=by kernel_rfl
 f266:=by kernel_rfl
 f267:=by kernel_rfl
 f268:=by kernel_rfl
 f314:=by kernel_rfl
 t0:=by kernel_rfl
 a0:=fun w=>by kernel_rfl
 z0:=fun w=>by kernel_rfl
 v0:=fun w=>by kernel_rfl
 t3:=by kernel_rfl
 a3:=fun w=>by kernel_rfl
 z3:=fun w=>by kernel_rfl
 v3:=fun w=>by kernel_rfl
 t4:=by kernel_rfl
 a4:=fun w=>by kernel_rfl
 z4:=fun w=>by kernel_rfl
 v4:=fun w=>by kernel_rfl
 t5:=by kernel_rfl
 a5:=fun w=>by kernel_rfl
 z5:=fun w=>by kernel_rfl
 v5:=fun w=>by kernel_rfl
 t9:=by kernel_rfl
 a9:=fun w=>by kernel_rfl
 z9:=fun w=>by kernel_rfl
 v9:=fun w=>by kernel_rfl
 t21:=by kernel_rfl
 a21:=fun w=>by kernel_rfl
 z21:=fun w=>by kernel_rfl
 v21:=fun w=>by kernel_rfl
 t31:=by kernel_rfl
 a31:=fun w=>by kernel_rfl
 z31:=fun w=>by kernel_rfl
 v31:=fun w=>by kernel_rfl
 t46:=by kernel_rfl
 a46:=fun w=>by kernel_rfl
 z46:=fun w=>by kernel_rfl
 v46:=fun w=>by kernel_rfl
 t51:=by kernel_rfl
 a51:=fun w=>by kernel_rfl
 z51:=fun w=>by kernel_rfl
 v51:=fun w=>by kernel_rfl
 t105:=by kernel_rfl
 a105:=fun w=>by kernel_rfl
 z105:=fun w=>by kernel_rfl
 v105:=fun w=>by kernel_rfl
 t119:=by kernel_rfl
 a119:=fun w=>by kernel_rfl
 z119:=fun w=>by kernel_rfl
 t138:=by kernel_rfl
 a138:=fun w=>by kernel_rfl
 z138:=fun w=>by kernel_rfl
 v138:=fun w=>by kernel_rfl
 t139:=by kernel_rfl
 a139:=fun w=>by kernel_rfl
 z139:=fun w=>by kernel_rfl
 v139:=fun w=>by kernel_rfl
 t146:=by kernel_rfl
 a146:=fun w=>by kernel_rfl
 z146:=fun w=>by kernel_rfl
 v146:=fun w=>by kernel_rfl
 g1:=by kernel_rfl
 g3:=by kernel_rfl
 g4:=by kernel_rfl
theorem tAC:LaysC.n172 Tryz.prog tR where
 mixed:=by kernel_rfl
 f129:=by kernel_rfl
 f171:=by kernel_rfl
 f172:=by kernel_rfl
 f205:=by kernel_rfl
 f243:=by kernel_rfl
 f244:=by kernel_rfl
 f245:=by kernel_rfl
 f246:=by kernel_rfl
 f247:=by kernel_rfl
 f279:=by kernel_rfl
 f280:=by kernel_rfl
 f281:=by kernel_rfl
 f282:=by kernel_rfl
 f283:=by kernel_rfl
 f284:=by kernel_rfl
 f285:=by kernel_rfl
 f286:=by kernel_rfl
 f287:=by kernel_rfl
 f316:=by kernel_rfl
 f317:=by kernel_rfl
 f318:=by kernel_rfl
 f319:=by kernel_rfl
 f320:=by kernel_rfl
 f321:=by kernel_rfl
 f322:=by kernel_rfl
 f337:=by kernel_rfl
 f338:=by kernel_rfl
 t0:=by kernel_rfl
 a0:=fun w=>by kernel_rfl
 z0:=fun w=>by kernel_rfl
 v0:=fun w=>by kernel_rfl
 t2:=by kernel_rfl
 a2:=fun w=>by kernel_rfl
 z2:=fun w=>by kernel_rfl
 v2:=fun w=>by kernel_rfl
 t3:=by kernel_rfl
 a3:=fun w=>by kernel_rfl
 z3:=fun w=>by kernel_rfl
 v3:=fun w=>by kernel_rfl
 t4:=by kernel_rfl
 a4:=fun w=>by kernel_rfl
 z4:=fun w=>by kernel_rfl
 v4:=fun w=>by kernel_rfl
 t5:=by kernel_rfl
 a5:=fun w=>by kernel_rfl
 z5:=fun w=>by kernel_rfl
 v5:=fun w=>by kernel_rfl
 t9:=by kernel_rfl
 a9:=fun w=>by kernel_rfl
 z9:=fun w=>by kernel_rfl
 v9:=fun w=>by kernel_rfl
 t20:=by kernel_rfl
 a20:=fun w=>by kernel_rfl
 z20:=fun w=>by kernel_rfl
 v20:=fun w=>by kernel_rfl
 t21:=by kernel_rfl
 a21:=fun w=>by kernel_rfl
 z21:=fun w=>by kernel_rfl
 v21:=fun w=>by kernel_rfl
 t37:=by kernel_rfl
 a37:=fun w=>by kernel_rfl
 z37:=fun w=>by kernel_rfl
 v37:=fun w=>by kernel_rfl
 t46:=by kernel_rfl
 a46:=fun w=>by kernel_rfl
 z46:=fun w=>by kernel_rfl
 v46:=fun w=>by kernel_rfl
 t51:=by kernel_rfl
 a51:=fun w=>by kernel_rfl
 z51:=fun w=>by kernel_rfl
 v51:=fun w=>by kernel_rfl
 t53:=by kernel_rfl
 a53:=fun w=>by kernel_rfl
 z53:=fun w=>by kernel_rfl
 v53:=fun w=>by kernel_rfl
 t75:=by kernel_rfl
 a75:=fun w=>by kernel_rfl
 z75:=fun w=>by kernel_rfl
 v75:=fun w=>by kernel_rfl
 t76:=by kernel_rfl
 a76:=fun w=>by kernel_rfl
 z76:=fun w=>by kernel_rfl
 v76:=fun w=>by kernel_rfl
 t85:=by kernel_rfl
 a85:=fun w=>by kernel_rfl
 z85:=fun w=>by kernel_rfl
 v85:=fun w=>by kernel_rfl
 t127:=by kernel_rfl
 a127:=fun w=>by kernel_rfl
 z127:=fun w=>by kernel_rfl
 v127:=fun w=>by kernel_rfl
 t143:=by kernel_rfl
 a143:=fun w=>by kernel_rfl
 z143:=fun w=>by kernel_rfl
 v143:=fun w=>by kernel_rfl
 t145:=by kernel_rfl
 a145:=fun w=>by kernel_rfl
 z145:=fun w=>by kernel_rfl
 v145:=fun w=>by kernel_rfl
 t167:=by kernel_rfl
 a167:=fun w=>by kernel_rfl
 z167:=fun w=>by kernel_rfl
 v167:=fun w=>by kernel_rfl
 t168:=by kernel_rfl
 a168:=fun w=>by kernel_rfl
 z168:=fun w=>by kernel_rfl
 v168:=fun w=>by kernel_rfl
 t171:=by kernel_rfl
 a171:=fun w=>by kernel_rfl
 z171:=fun w=>by kernel_rfl
 v171:=fun w=>by kernel_rfl
 t173:=by kernel_rfl
 a173:=fun w=>by kernel_rfl
 z173:=fun w=>by kernel_rfl
 v173:=fun w=>by kernel_rfl
 t175:=by kernel_rfl
 a175:=fun w=>by kernel_rfl
 z175:=fun w=>by kernel_rfl
 v175:=fun w=>by kernel_rfl
 t210:=by kernel_rfl
 a210:=fun w=>by kernel_rfl
 z210:=fun w=>by kernel_rfl
 v210:=fun w=>by kernel_rfl
 t212:=by kernel_rfl
 a212:=fun w=>by kernel_rfl
 z212:=fun w=>by kernel_rfl
 v212:=fun w=>by kernel_rfl
 t213:=by kernel_rfl
 a213:=fun w=>by kernel_rfl
 z213:=fun w=>by kernel_rfl
 t232:=by kernel_rfl
 a232:=fun w=>by kernel_rfl
 z232:=fun w=>by kernel_rfl
 v232:=fun w=>by kernel_rfl
 t233:=by kernel_rfl
 a233:=fun w=>by kernel_rfl
 z233:=fun w=>by kernel_rfl
 v233:=fun w=>by kernel_rfl
 g15:=by kernel_rfl
 g16:=by kernel_rfl
 g17:=by kernel_rfl
 g18:=by kernel_rfl
 g19:=by kernel_rfl
 t80:=by kernel_rfl
 a80:=fun w=>by kernel_rfl
 z80:=fun w=>by kernel_rfl
 v80:=fun w=>by kernel_rfl
 i0:=by kernel_rfl
 i2:=by kernel_rfl
 i3:=by kernel_rfl
 i4:=by kernel_rfl
 i5:=by kernel_rfl
 i9:=by kernel_rfl
 i20:=by kernel_rfl
 i21:=by kernel_rfl
 i37:=by kernel_rfl
 i46:=by kernel_rfl
 i51:=by kernel_rfl
 i53:=by kernel_rfl
 i75:=by kernel_rfl
 i76:=by kernel_rfl
 i80:=by kernel_rfl
 i85:=by kernel_rfl
 i127:=by kernel_rfl
 i143:=by kernel_rfl
 i145:=by kernel_rfl
 i167:=by kernel_rfl
 i168:=by kernel_rfl
 i171:=by kernel_rfl
 i173:=by kernel_rfl
 i175:=by kernel_rfl
 i210:=by kernel_rfl
 i212:=by kernel_rfl
 i232:=by kernel_rfl
 i233:=by kernel_rfl
 m15:=by kernel_rfl
 m16:=by kernel_rfl
 m17:=by kernel_rfl
 m18:=by kernel_rfl
 m19:=by kernel_rfl
 c0:=by kernel_rfl
 c2:=by kernel_rfl
 c3:=by kernel_rfl
 c4:=by kernel_rfl
 c5:=by kernel_rfl
 c9:=by kernel_rfl
 c20:=by kernel_rfl
 c21:=by kernel_rfl
 c37:=by kernel_rfl
 c46:=by kernel_rfl
 c51:=by kernel_rfl
 c53:=by kernel_rfl
 c75:=by kernel_rfl
 c76:=by kernel_rfl
 c80:=by kernel_rfl
 c85:=by kernel_rfl
 c127:=by kernel_rfl
 c143:=by kernel_rfl
 c145:=by kernel_rfl
 c167:=by kernel_rfl
 c168:=by kernel_rfl
 c171:=by kernel_rfl
 c173:=by kernel_rfl
 c175:=by kernel_rfl
 c210:=by kernel_rfl
 c212:=by kernel_rfl
 c213:=by kernel_rfl
 c232:=by kernel_rfl
 c233:=by kernel_rfl
theorem tF:LaysM.n173 Tryz.prog tR where
 mixed:=by kernel_rfl
 f129:=by kernel_rfl
 f173:=by kernel_rfl
 f246:=by kernel_rfl
 f283:=by kernel_rfl
 f284:=by kernel_rfl
 f285:=by kernel_rfl
 f286:=by kernel_rfl
 f317:=by kernel_rfl
 f318:=by kernel_rfl
 f319:=by kernel_rfl
 f320:=by kernel_rfl
 f337:=by kernel_rfl
 f338:=by kernel_rfl
 t0:=by kernel_rfl
 a0:=fun w=>by kernel_rfl
 z0:=fun w=>by kernel_rfl
 v0:=fun w=>by kernel_rfl
 t2:=by kernel_rfl
 a2:=fun w=>by kernel_rfl
 z2:=fun w=>by kernel_rfl
 v2:=fun w=>by kernel_rfl
 t3:=by kernel_rfl
 a3:=fun w=>by kernel_rfl
 z3:=fun w=>by kernel_rfl
 v3:=fun w=>by kernel_rfl
 t4:=by kernel_rfl
 a4:=fun w=>by kernel_rfl
 z4:=fun w=>by kernel_rfl
 v4:=fun w=>by kernel_rfl
 t5:=by kernel_rfl
 a5:=fun w=>by kernel_rfl
 z5:=fun w=>by kernel_rfl
 v5:=fun w=>by kernel_rfl
 t9:=by kernel_rfl
 a9:=fun w=>by kernel_rfl
 z9:=fun w=>by kernel_rfl
 v9:=fun w=>by kernel_rfl
 t20:=by kernel_rfl
 a20:=fun w=>by kernel_rfl
 z20:=fun w=>by kernel_rfl
 v20:=fun w=>by kernel_rfl
 t37:=by kernel_rfl
 a37:=fun w=>by kernel_rfl
 z37:=fun w=>by kernel_rfl
 v37:=fun w=>by kernel_rfl
 t46:=by kernel_rfl
 a46:=fun w=>by kernel_rfl
 z46:=fun w=>by kernel_rfl
 v46:=fun w=>by kernel_rfl
 t51:=by kernel_rfl
 a51:=fun w=>by kernel_rfl
 z51:=fun w=>by kernel_rfl
 v51:=fun w=>by kernel_rfl
 t53:=by kernel_rfl
 a53:=fun w=>by kernel_rfl
 z53:=fun w=>by kernel_rfl
 v53:=fun w=>by kernel_rfl
 t171:=by kernel_rfl
 a171:=fun w=>by kernel_rfl
 z171:=fun w=>by kernel_rfl
 v171:=fun w=>by kernel_rfl
 t173:=by kernel_rfl
 a173:=fun w=>by kernel_rfl
 z173:=fun w=>by kernel_rfl
 v173:=fun w=>by kernel_rfl
 t212:=by kernel_rfl
 a212:=fun w=>by kernel_rfl
 z212:=fun w=>by kernel_rfl
 v212:=fun w=>by kernel_rfl
 t213:=by kernel_rfl
 a213:=fun w=>by kernel_rfl
 z213:=fun w=>by kernel_rfl
 t232:=by kernel_rfl
 a232:=fun w=>by kernel_rfl
 z232:=fun w=>by kernel_rfl
 v232:=fun w=>by kernel_rfl
 t233:=by kernel_rfl
 a233:=fun w=>by kernel_rfl
 z233:=fun w=>by kernel_rfl
 v233:=fun w=>by kernel_rfl
 g17:=by kernel_rfl
 g18:=by kernel_rfl
 g19:=by kernel_rfl
 i0:=by kernel_rfl
 i2:=by kernel_rfl
 i3:=by kernel_rfl
 i4:=by kernel_rfl
 i5:=by kernel_rfl
 i9:=by kernel_rfl
 i20:=by kernel_rfl
 i37:=by kernel_rfl
 i46:=by kernel_rfl
 i51:=by kernel_rfl
 i53:=by kernel_rfl
 i171:=by kernel_rfl
 i173:=by kernel_rfl
 i212:=by kernel_rfl
 i232:=by kernel_rfl
 i233:=by kernel_rfl
 m17:=by kernel_rfl
 m18:=by kernel_rfl
 m19:=by kernel_rfl
theorem tP:LaysC.n174 Tryz.prog tR where
 mixed:=by kernel_rfl
 f129:=by kernel_rfl
 f171:=by kernel_rfl
 f174:=by kernel_rfl
 f205:=by kernel_rfl
 f243:=by kernel_rfl
 f245:=by kernel_rfl
 f246:=by kernel_rfl
 f247:=by kernel_rfl
 f279:=by kernel_rfl
 f280:=by kernel_rfl
 f281:=by kernel_rfl
 f282:=by kernel_rfl
 f283:=by kernel_rfl
 f284:=by kernel_rfl
 f285:=by kernel_rfl
 f286:=by kernel_rfl
 f287:=by kernel_rfl
 f316:=by kernel_rfl
 f317:=by kernel_rfl
 f318:=by kernel_rfl
 f319:=by kernel_rfl
 f320:=by kernel_rfl
 f321:=by kernel_rfl
 f322:=by kernel_rfl
 f337:=by kernel_rfl
 f338:=by kernel_rfl
 t0:=by kernel_rfl
 a0:=fun w=>by kernel_rfl
 z0:=fun w=>by kernel_rfl
 v0:=fun w=>by kernel_rfl
 t2:=by kernel_rfl
 a2:=fun w=>by kernel_rfl
 z2:=fun w=>by kernel_rfl
 v2:=fun w=>by kernel_rfl
 t3:=by kernel_rfl
 a3:=fun w=>by kernel_rfl
 z3:=fun w=>by kernel_rfl
 v3:=fun w=>by kernel_rfl
 t4:=by kernel_rfl
 a4:=fun w=>by kernel_rfl
 z4:=fun w=>by kernel_rfl
 v4:=fun w=>by kernel_rfl
 t5:=by kernel_rfl
 a5:=fun w=>by kernel_rfl
 z5:=fun w=>by kernel_rfl
 v5:=fun w=>by kernel_rfl
 t9:=by kernel_rfl
 a9:=fun w=>by kernel_rfl
 z9:=fun w=>by kernel_rfl
 v9:=fun w=>by kernel_rfl
 t20:=by kernel_rfl
 a20:=fun w=>by kernel_rfl
 z20:=fun w=>by kernel_rfl
 v20:=fun w=>by kernel_rfl
 t21:=by kernel_rfl
 a21:=fun w=>by kernel_rfl
 z21:=fun w=>by kernel_rfl
 v21:=fun w=>by kernel_rfl
 t37:=by kernel_rfl
 a37:=fun w=>by kernel_rfl
 z37:=fun w=>by kernel_rfl
 v37:=fun w=>by kernel_rfl
 t46:=by kernel_rfl
 a46:=fun w=>by kernel_rfl
 z46:=fun w=>by kernel_rfl
 v46:=fun w=>by kernel_rfl
 t51:=by kernel_rfl
 a51:=fun w=>by kernel_rfl
 z51:=fun w=>by kernel_rfl
 v51:=fun w=>by kernel_rfl
 t53:=by kernel_rfl
 a53:=fun w=>by kernel_rfl
 z53:=fun w=>by kernel_rfl
 v53:=fun w=>by kernel_rfl
 t75:=by kernel_rfl
 a75:=fun w=>by kernel_rfl
 z75:=fun w=>by kernel_rfl
 v75:=fun w=>by kernel_rfl
 t85:=by kernel_rfl
 a85:=fun w=>by kernel_rfl
 z85:=fun w=>by kernel_rfl
 v85:=fun w=>by kernel_rfl
 t127:=by kernel_rfl
 a127:=fun w=>by kernel_rfl
 z127:=fun w=>by kernel_rfl
 v127:=fun w=>by kernel_rfl
 t143:=by kernel_rfl
 a143:=fun w=>by kernel_rfl
 z143:=fun w=>by kernel_rfl
 v143:=fun w=>by kernel_rfl
 t145:=by kernel_rfl
 a145:=fun w=>by kernel_rfl
 z145:=fun w=>by kernel_rfl
 v145:=fun w=>by kernel_rfl
 t167:=by kernel_rfl
 a167:=fun w=>by kernel_rfl
 z167:=fun w=>by kernel_rfl
 v167:=fun w=>by kernel_rfl
 t168:=by kernel_rfl
 a168:=fun w=>by kernel_rfl
 z168:=fun w=>by kernel_rfl
 v168:=fun w=>by kernel_rfl
 t171:=by kernel_rfl
 a171:=fun w=>by kernel_rfl
 z171:=fun w=>by kernel_rfl
 v171:=fun w=>by kernel_rfl
 t173:=by kernel_rfl
 a173:=fun w=>by kernel_rfl
 z173:=fun w=>by kernel_rfl
 v173:=fun w=>by kernel_rfl
 t175:=by kernel_rfl
 a175:=fun w=>by kernel_rfl
 z175:=fun w=>by kernel_rfl
 v175:=fun w=>by kernel_rfl
 t210:=by kernel_rfl
 a210:=fun w=>by kernel_rfl
 z210:=fun w=>by kernel_rfl
 v210:=fun w=>by kernel_rfl
 t212:=by kernel_rfl
 a212:=fun w=>by kernel_rfl
 z212:=fun w=>by kernel_rfl
 v212:=fun w=>by kernel_rfl
 t213:=by kernel_rfl
 a213:=fun w=>by kernel_rfl
 z213:=fun w=>by kernel_rfl
 t232:=by kernel_rfl
 a232:=fun w=>by kernel_rfl
 z232:=fun w=>by kernel_rfl
 v232:=fun w=>by kernel_rfl
 t233:=by kernel_rfl
 a233:=fun w=>by kernel_rfl
 z233:=fun w=>by kernel_rfl
 v233:=fun w=>by kernel_rfl
 g15:=by kernel_rfl
 g16:=by kernel_rfl
 g17:=by kernel_rfl
 g18:=by kernel_rfl
 g19:=by kernel_rfl
 t80:=by kernel_rfl
 a80:=fun w=>by kernel_rfl
 z80:=fun w=>by kernel_rfl
 v80:=fun w=>by kernel_rfl
 i0:=by kernel_rfl
 i2:=by kernel_rfl
 i3:=by kernel_rfl
 i4:=by kernel_rfl
 i5:=by kernel_rfl
 i9:=by kernel_rfl
 i20:=by kernel_rfl
 i21:=by kernel_rfl
 i37:=by kernel_rfl
 i46:=by kernel_rfl
 i51:=by kernel_rfl
 i53:=by kernel_rfl
 i75:=by kernel_rfl
 i80:=by kernel_rfl
 i85:=by kernel_rfl
 i127:=by kernel_rfl
 i143:=by kernel_rfl
 i145:=by kernel_rfl
 i167:=by kernel_rfl
 i168:=by kernel_rfl
 i171:=by kernel_rfl
 i173:=by kernel_rfl
 i175:=by kernel_rfl
 i210:=by kernel_rfl
 i212:=by kernel_rfl
 i232:=by kernel_rfl
 i233:=by kernel_rfl
 m15:=by kernel_rfl
 m16:=by kernel_rfl
 m17:=by kernel_rfl
 m18:=by kernel_rfl
 m19:=by kernel_rfl
 c0:=by kernel_rfl
 c2:=by kernel_rfl
 c3:=by kernel_rfl
 c4:=by kernel_rfl
 c5:=by kernel_rfl
 c9:=by kernel_rfl
 c20:=by kernel_rfl
 c21:=by kernel_rfl
 c37:=by kernel_rfl
 c46:=by kernel_rfl
 c51:=by kernel_rfl
 c53:=by kernel_rfl
 c75:=by kernel_rfl
 c80:=by kernel_rfl
 c85:=by kernel_rfl
 c127:=by kernel_rfl
 c143:=by kernel_rfl
 c145:=by kernel_rfl
 c167:=by kernel_rfl
 c168:=by kernel_rfl
 c171:=by kernel_rfl
 c173:=by kernel_rfl
 c175:=by kernel_rfl
 c210:=by kernel_rfl
 c212:=by kernel_rfl
 c213:=by kernel_rfl
 c232:=by kernel_rfl
 c233:=by kernel_rfl
theorem ve (p0 p1:List UInt8) (r:List (List UInt8)) (h:ja p0 p1=some r):Fn Tryz.prog 9 [.str p0,.str p1] (.sl (List.map ab r)) :=
 sM (ρ:=tR) (callable Tryz.func9 rfl (by kernel_rfl)) tS (by kernel_rfl) p0 p1 r h
theorem wH (p0:List UInt8) (r:Int) (h:atoiA p0=some r):Fn Tryz.prog 40 [.str p0] (.tup [.int .i64 r,.nili]) :=
 t8 (ρ:=tR) (callable Tryz.func40 rfl (by kernel_rfl)) tAC p0 r h
theorem ev_of (w:World) (F:Nat->Prop) (h:Gd w F):EvAt w (tR.g 15)/\EvAt w (tR.g 16):=by
 have key:∀ g,g=1∨g=2->EvAt w g:=fun g hg=>by obtain ⟨_,o,h1,cs,t,fz,rfl,_,h3⟩:=h g (by rcases hg with rfl | rfl<;>simp [gvs]);obtain ⟨ev,h4,h5⟩:=h3 hg;exact ⟨ev,by simp [World.cell?,h1,h4],h5⟩
 exact ⟨key _ (.inl rfl),key _ (.inr rfl)⟩
theorem vg (p0:List UInt8) (r:Int) (h:atoiE p0=some r):Fn Tryz.prog 40 [.str p0] (.tup [.int .i64 r,.ifc 112 .any]) :=
 ut (ρ:=tR) (callable Tryz.func40 rfl (by kernel_rfl)) tAC ev_of p0 r h
theorem tW (p0:List UInt8) (r:Int) (h:iY p0=some r):Fn Tryz.prog 21 [.str p0,.int .i64 10,.int .i64 64] (.tup [.int .i64 r,.nili]) :=
 tl (ρ:=tR) (callable Tryz.func21 rfl (by kernel_rfl)) tP p0 r h
theorem uE (p0:List UInt8) (r:Int) (h:hH p0=some r):Fn Tryz.prog 21 [.str p0,.int .i64 10,.int .i64 64] (.tup [.int .i64 r,.ifc 112 .any]) :=
 ta (ρ:=tR) (callable Tryz.func21 rfl (by kernel_rfl)) tP ev_of p0 r h
theorem tK (p0:Int) (r:List UInt8) (h:itoaS p0=some r):Fn Tryz.prog 22 [.int .i64 p0,.int .i64 10] (.str r) :=
 sR (ρ:=tR) (callable Tryz.func22 rfl (by kernel_rfl)) tF (fun w F h=>qi h) p0 r h
theorem ud (p0 p1:List UInt8) (r:Int) (h:index1 p0 p1=some r):Fn Tryz.prog 55 [.str p0,.str p1] (.int .i64 r) :=
 sY (ρ:=tR) (callable Tryz.func55 rfl (by kernel_rfl)) { tS with } p0 p1 r h
end
section
open Go.RowKit
set_option maxRecDepth 100000
set_option maxHeartbeats 4000000
set_option synthInstance.maxSize 100000
set_option synthInstance.maxHeartbeats 4000000
theorem j6 {p0 p1:List UInt8} {r:List (List UInt8)} (h:f4 p0 p1=some r):Fn Tryz.prog 9 [.str p0,.str p1] (.sl (List.map ab r)):=ve p0 p1 r h
theorem vW {p0:List UInt8} {r:Int} (h:atoiX p0=some r):Fn Tryz.prog 40 [.str p0] (.tup [.int .i64 r,.ifc 112 .any]):=vg p0 r h
theorem vZ {p0:List UInt8} {r:Int} (h:atoiW p0=some r):Fn Tryz.prog 40 [.str p0] (.tup [.int .i64 r,.nili]):=wH p0 r h
theorem bU {p0:Int} {r:List UInt8} (h:dS p0=some r):Fn Tryz.prog 19 [.int .i64 p0] (.str r):=vO p0 r h
theorem aA {p0:List UInt8} {r:Int ⊕ Unit} (h:fN p0=some r):FnP Tryz.prog (.iface 88 (.agg #[])) 47 [.str p0] [] (fun r:Int=>iI r) (fun r=>[]) r:=by
 unfold fN at h;refine fnPT 0 Tryz.func47 Tryz.ntmps47 ?_;refine q0 ?_;refine X 4 0 (T.join1 (Z:=Int) (fun cW=>mkA 25 [(3,iI cW)]) (fun cW=>[]) (fun cW=>jA cW=some r) (fun cW h=>?_) (fun hK1=>?_))
 ·revert h;revert cW;intro x6 h;replace h:jA x6=some r:=h;try dsimp only
  unfold jA at h;refine X 5 0 ?_;cases h;exact tD
 refine X 3 0 ?_;rcases aP (fc p0) with dD | dD
 ·replace h:=bu h dD;refine B h fun x5 hx5 h=>(sO (cD (vW hx5) ⟨rfl,(Y 10 0 (sO (nY Tryz.underlying57 rfl rfl (Yp 12 0 ?_))))⟩))
  cases h;(refine T.rP (V:=(.iface 88 (.agg #[]))) 2 rfl ?_);exact go 1 0 (sO (nZ Tryz.underlying88 rfl rfl (RS.nil (PP.panic rfl rfl))))
 replace h:=bt h dD;refine B h fun x6 hx6 h=>(sO (cD (vZ hx6) ⟨rfl,(Y 7 0 ?_)⟩))
 obtain ⟨zb,hz,h⟩:=bind_some h;revert hz h;revert zb;intro c8 hz h;refine j1 [(3,iI x6),(21,.bool c8)] [] ?_ (fun hK=>?_)
 ·refine T.ci h rfl (fun mo h=>?_) (fun mo h=>?_)
  ·cases h;(refine T.rP (V:=(.iface 88 (.agg #[]))) 2 rfl ?_);exact go 1 0 (sO (nZ Tryz.underlying88 rfl rfl (RS.nil (PP.panic rfl rfl))))
  exact X 1 0 (sx (hK1 x6 h))
 refine X 3 0 (sO (wl Tryz.underlying57 rfl (Yp 5 0 (gi 16 hz (fun jh hz=>?_) (fun jh hz=>?_)))))
 ·refine Yp 6 0 ?_;cases hz;exact sx hK
 refine B hz fun x7 hx7 hz=>(Y 1 0 (yO rfl (cF (bU hx7) ⟨rfl,(Yp 4 0 ?_)⟩)))
 cases hz;exact sx hK
theorem bT {r:List (List UInt8)} (h:gH=some r):FnO Tryz.prog 48 [] (.ref 0) [aR 9 1 ab r]:=by unfold gH at h;refine fT 0 6 Tryz.func48 Tryz.ntmps48 rfl (sO (b6 (rows:=List.map ab [[],[115,111,117,114,99,101],[109,97,112],[115,99,97,110],[99,111,117,110,116],[116,101,101],[109,101,114,103,101],[115,112,108,105,116],[115,105,110,107]]) (vs:=[.str [],.str [115,111,117,114,99,101],.str [109,97,112],.str [115,99,97,110],.str [99,111,117,110,116],.str [116,101,101],.str [109,101,114,103,101],.str [115,112,108,105,116],.str [115,105,110,107]]) Ty.s32 Ty.z9 rfl rfl rfl rfl rfl rfl (Y 2 1 ?_)));cases h;exact tO [] [0] 1
end
section
open Go.RowKit
section
variable {P:Program} {Q:Exit→Act→World→Prop} {a:Act} {w:World} {b:Frame} {n:Nat}
def WpB (P:Program) (b:Frame) (c:Code) (Q:Exit->Act->World->Prop) (a:Act) (w:World):Prop :=
 ∀ (k:List Go.Item) (cs:List Frame),∃ e a' w',Q e a' w'/\ArrivesIn (Machine.fenced P Fence.wide) P (lone (b.atR a (.code c::k)) cs w) b k cs e a' w'
theorem WpB.of {c:Code} (hro:b.roundOf=none) (h:c.wpIn Fence.wide n P Q a w):WpB P b c Q a w:=fun k cs=>h b k cs hro trivial (room_wide _)
theorem WpB.mono {c:Code} {Q':Exit->Act->World->Prop} (h:WpB P b c Q a w) (hq:∀ e a w,Q e a w->Q' e a w):WpB P b c Q' a w :=
 fun k cs=>let ⟨e,a',w',q,r⟩:=h k cs;⟨e,a',w',hq _ _ _ q,r⟩
theorem bC {fr:Frame} {cs:List Frame} {w:World}:(lone fr cs w).fenced P Fence.wide:=by refine fenced_lone (.inl trivial) (fun _ _=>trivial) (room_wide _)
theorem WpB.seq {x y:Code} (h:WpB P b x (Exit.then (WpB P b y Q) Q) a w):WpB P b (.seq x y) Q a w:=by
 intro k cs;obtain ⟨e,a₁,w₁,hq,harr⟩:=h (.code y::k) cs;cases e with
 | normal =>
  obtain ⟨e₂,a₂,w₂,hq₂,harr₂⟩:=hq k cs;exact ⟨e₂,a₂,w₂,hq₂,.of_steps (.head bC stepR_seq harr) harr₂⟩
 | exit id=>exact ⟨_,a₁,w₁,hq,.of_steps (.one bC stepR_seq) (.pass (x:=.code y) rfl (fun _ _=>.inl (by simp)) harr)⟩
 | goto l=>exact ⟨_,a₁,w₁,hq,.of_steps (.one bC stepR_seq) (.pass (x:=.code y) rfl (fun _ _=>.inl (by simp)) harr)⟩
 | ret=>exact ⟨_,a₁,w₁,hq,.of_steps (.one bC stepR_seq) (.pass (x:=.code y) rfl (fun _ _=>.inl (by simp)) harr)⟩
 | panic ch=>exact ⟨_,a₁,w₁,hq,.of_steps (.one bC stepR_seq) (.pass (x:=.code y) rfl (fun _ _=>.inl (by simp)) harr)⟩
 | outgrown=>exact ⟨_,a₁,w₁,hq,.of_steps (.one bC stepR_seq) (.pass (x:=.code y) rfl (fun _ _=>.inl (by simp)) harr)⟩
theorem WpB.block {id:Nat} {c:Code} (h:WpB P b c (Exit.inBlock id Q) a w):WpB P b (.block id c) Q a w:=by
 intro k cs;obtain ⟨e,a₁,w₁,hq,harr⟩:=h (.inBlock id::k) cs;cases e with
 | normal=>exact ⟨.normal,a₁,w₁,hq,.head bC stepR_block (StepsIn.trans harr (.one bC stepR_inBlock))⟩
 | exit id' =>
  by_cases hid:id'=id
  ·simp only [Exit.inBlock,hid,if_true] at hq;exact ⟨.normal,a₁,w₁,hq,.head bC stepR_block (harr.1 k (by simp [exitTo,hid]))⟩
  ·simp only [Exit.inBlock,hid,if_false] at hq;have this:(id==id')=false:=by simp;exact fun h=>hid h.symm
   have hx:exitTo id' (.inBlock id::k)=exitTo id' k:=by simp [exitTo,this]
   exact ⟨.exit id',a₁,w₁,hq,fun k' hk=>.head bC stepR_block (harr.1 k' (by rw [hx];exact hk)),
    fun hr' hk=>let ⟨k₁,h1,h2⟩:=harr.2 hr' (by rw [hx];exact hk);⟨k₁,h1,.head bC stepR_block h2⟩⟩
 | goto l =>
  have hx:gotoIn l (.inBlock id::k)=gotoIn l k:=by simp [gotoIn]
  exact ⟨_,a₁,w₁,hq,fun k' hk=>.head bC stepR_block (harr.1 k' (by rw [hx];exact hk)),
   fun hr' hk=>let ⟨k₁,h1,h2⟩:=harr.2 hr' (by rw [hx];exact hk);⟨k₁,h1,.head bC stepR_block h2⟩⟩
 | ret=>exact ⟨_,a₁,w₁,hq,.of_steps (.one bC stepR_block) harr⟩
 | panic ch=>exact ⟨_,a₁,w₁,hq,.of_steps (.one bC stepR_block) harr⟩
 | outgrown=>exact ⟨_,a₁,w₁,hq,.of_steps (.one bC stepR_block) harr⟩
def sX (P:Program) (l:Nat) (R:Ending->World->Prop):Exit->Act->World->Prop
 | .panic chain,a,w=>a.defers=[]/\R (.panicked chain) w
 | e,a,w=>roundPost P l R e a w
theorem rW {l:Nat} {f:FuncId} {fn:Func} {tmps:Array Value} {assign body:Code} {w:World} {R:Ending->World->Prop} (hfn:P.funcs[f]?=some fn)
  (h:assign.wpIn (Fence.wide.inRound l) n P (Exit.then (fun a₁ w₁=>∃ w₂,(Instr.beginRound l).run P w₁=.ok () w₂/\body.wpIn (Fence.wide.inRound l) n P (sX P l R) a₁ w₂) (fun _ _ _=>False)) { tmps:=tmps,defers:=[] } w) :
  RoundIn Fence.wide n P l f tmps assign body w R:=by
 refine ⟨trivial,fun c cs hr=>?_⟩
 let b:Frame:={ (default:Frame) with fn:=f,kind:=.normal,roundOf:=some l }
 have hb0:Frame.round l f tmps assign body .normal=b.atR { tmps:=tmps,defers:=[] } [.code assign,.beginRound,.code body]:=by simp [Frame.round,Frame.atR,b]
 have hr':(Fence.wide.inRound l).room ((c::cs).length+1+n):=hr
 have hF':(Fence.wide.inRound l).fn b.fn:=trivial
 obtain ⟨e,a₁,w₁,hq,harr⟩:=h b [.beginRound,.code body] (c::cs) rfl hF' hr'
 rw [<- hb0] at harr
 cases e with
 | normal =>
  obtain ⟨w₂,hbr,hbody⟩:=hq
  have s1:StepsIn (Machine.fenced P (Fence.wide.inRound l)) P (lone (b.atR a₁ [.beginRound,.code body]) (c::cs) w₁) (lone (b.atR a₁ [.code body]) (c::cs) w₂) :=
   .one (fenced_calm (fr:=b.atR a₁ [.beginRound,.code body]) hF' hr' rfl) (stepR_beginRound rfl hbr)
  obtain ⟨e₂,a₂,w₃,hq₂,harr₂⟩:=hbody b [] (c::cs) rfl hF' hr'
  cases e₂ with
  | normal =>
   obtain ⟨v,w₄,hend,hR⟩:=hq₂
   exact ⟨.returned v,w₄,hR,(StepsIn.trans harr s1).trans (StepsIn.trans harr₂ (.one (fenced_calm (fr:=b.atR a₂ []) hF' hr' rfl) (stepR_round_end rfl rfl hend)))⟩
  | ret =>
   obtain ⟨v,w₄,hend,hR⟩:=hq₂
   obtain ⟨k₁,hs⟩:=harr₂.2 rfl
   exact ⟨.returned v,w₄,hR,(StepsIn.trans harr s1).trans (StepsIn.trans hs (.one (fenced_calm (fr:=b.atR a₂ (.code .ret::k₁)) hF' hr' rfl) (stepR_round_ret rfl rfl hend)))⟩
  | exit id =>
   obtain ⟨v,w₄,hend,hR⟩:=hq₂
   obtain ⟨k₁,hk,hs⟩:=harr₂.2 rfl rfl
   exact ⟨.returned v,w₄,hR,(StepsIn.trans harr s1).trans (StepsIn.trans hs (.one (fenced_calm (fr:=b.atR a₂ (.code (.exit id)::k₁)) hF' hr' rfl) (stepR_round_exit rfl rfl hk hend)))⟩
  | goto t =>
   obtain ⟨v,w₄,hend,hR⟩:=hq₂
   obtain ⟨k₁,hk,hs⟩:=harr₂.2 rfl rfl
   exact ⟨.returned v,w₄,hR,(StepsIn.trans harr s1).trans (StepsIn.trans hs (.one (fenced_calm (fr:=b.atR a₂ (.code (.goto t)::k₁)) hF' hr' rfl) (stepR_round_goto rfl rfl hk hend)))⟩
  | panic chain =>
   obtain ⟨hd,hR⟩:=hq₂
   obtain ⟨todo,hs⟩:=harr₂
   have hl:({ b.atR a₂ todo with mode:=.panicking chain }:Frame).leaving P w₃ (.panicked chain):=⟨rfl,hd,fn,hfn⟩
   exact ⟨.panicked chain,w₃,hR,(StepsIn.trans harr s1).trans (StepsIn.trans hs (.one (fenced_leaving (n:=n) (F:=Fence.wide.inRound l) hF' hr' hl) (step_leave_panicked hl)))⟩
  | outgrown=>exact hq₂.elim
 | exit id=>exact hq.elim
 | goto t=>exact hq.elim
 | ret=>exact hq.elim
 | panic chain=>exact hq.elim
 | outgrown=>exact hq.elim
theorem WpB.rangeFunc {g:Operand} {ps:Array Tmp} {assign body:Code} (hro:b.roundOf=none)
  (h:∃ (l:Nat) (mark:List Deferred) (w₁:World) (d:Deferred) (w₁':World) (f:FuncId) (args:Array Value) (w₂:World),
   (Instr.enterLoop b.fn a.tmps ps assign body none).run P w=.ok (l,mark) w₁/\(resolve a.eval (rangeCall g l) 0).run P w₁=.ok d w₁'/\(invoke d.target d.args).run P w₁'=.ok (.enter f args) w₂ /\
   CallsIn Fence.wide n P f args w₂ fun e w₃=>match e with
    | .returned _=>∃ w₄,(Instr.endLoop l).run P w₃=.ok none w₄/\Q .normal { a with defers:=mark++a.defers } w₄
    | .panicked chain=>Q (.panic chain) { a with defers:=mark++a.defers } w₃
    | .outgrown=>False):WpB P b (.rangeFunc g ps assign body) Q a w:=by
 intro k cs
 obtain ⟨l,mark,w₁,d,w₁',f,args,w₂,he,hres,hinv,hF,hcall⟩:=h
 rw [<- hro] at he
 have henter:=stepR_rangeFunc (P:=P) (b:=b) (a:=a) (k:=k) (cs:=cs) (w:=w) he hres hinv
 obtain ⟨e,w₃,fr,hR,hsteps,hfn,hleave⟩:=hcall (b.atR { a with defers:=mark++a.defers } (.inRangeFunc l::k)::cs) (room_wide _)
 cases e with
 | outgrown=>exact hR.elim
 | returned v =>
  obtain ⟨w₄,hend,hj⟩:=hR
  refine ⟨.normal,_,w₄,hj,?_⟩
  refine .head bC henter (StepsIn.trans hsteps (.head bC ?_ (.one bC (stepR_endRangeFunc hend))))
  rw [<- finish_atR_inRangeFunc l v];exact step_leave_returned hleave
 | panicked chain =>
  refine ⟨.panic chain,_,w₃,hR,.inRangeFunc l::k,.head bC henter (StepsIn.trans hsteps (.one bC ?_))⟩
  rw [<- Frame.raise_atR];exact step_leave_panicked hleave
theorem si {f:FuncId} {fn:Func} {c:Code} {args:Array Value} {R:Ending->World->Prop} (hf:P.funcs[f]?=some fn) (hb:fn.body=some c)
  (h:∀ b:Frame,b.fn=f->b.roundOf=none->WpB P b c (bodyPostM Fence.wide n P fn R) { tmps:=args++Array.replicate (fn.ntmps - args.size) undef,defers:=[] } w):Calls P f args w R:=by
 refine (callsIn_wide (n:=n)).1 ⟨trivial,fun cs hr=>?_⟩
 let b:Frame:={ (default:Frame) with fn:=f,kind:=.normal,roundOf:=none }
 have henter:Frame.enter P f args .normal =
   b.atR { tmps:=args++Array.replicate (fn.ntmps - args.size) undef,defers:=[] } [.code c]:=by
  simp [Frame.enter,Frame.atR,hf,hb,b]
 obtain ⟨e,a',w',hq,harr⟩:=h b rfl rfl [] cs
 rw [<- henter] at harr
 cases e with
 | normal =>
  obtain ⟨e',w'',fr',hR,hs,hfn,hl⟩:=leaves_stepsInM a'.defers .returning w' { b.atR a' [] with mode:=.returning } cs rfl rfl rfl hf rfl trivial hr hq
  exact ⟨e',w'',fr',hR,ComesIn.of_steps (StepsIn.trans harr (.one bC (stepR_end rfl))) hs,hfn,hl⟩
 | ret =>
  obtain ⟨todo,hs₀⟩:=harr.1 rfl
  obtain ⟨e',w'',fr',hR,hs,hfn,hl⟩:=leaves_stepsInM a'.defers .returning w' { b.atR a' todo with mode:=.returning } cs rfl rfl rfl hf rfl trivial hr hq
  exact ⟨e',w'',fr',hR,ComesIn.of_steps hs₀ hs,hfn,hl⟩
 | panic chain =>
  obtain ⟨todo,hs₀⟩:=harr
  obtain ⟨e',w'',fr',hR,hs,hfn,hl⟩:=leaves_stepsInM a'.defers (.panicking chain) w' { b.atR a' todo with mode:=.panicking chain } cs rfl rfl rfl hf rfl trivial hr hq
  exact ⟨e',w'',fr',hR,ComesIn.of_steps hs₀ hs,hfn,hl⟩
 | exit id=>exact hq.elim
 | goto l=>exact hq.elim
 | outgrown=>exact ⟨.outgrown,w',b,hq,harr.resolve_left (by simp [b]),rfl,tqz⟩
end
end
end Go.Proofs.YtbfncjgaklimlaaGreatDoor
