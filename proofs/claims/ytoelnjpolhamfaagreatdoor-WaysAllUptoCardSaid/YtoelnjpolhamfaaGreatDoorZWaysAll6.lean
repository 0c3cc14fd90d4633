/-
  Part 6 of the proof of waysAllLaw.proved: the code computes these functions, and the law holds of them, with no condition beyond the statement's own; put together by a program of ours (wip/decl.py) out of texts of ours.
-/
import Derived.Test.YtoelnjpolhamfaaGreatDoorCards
import Derived.Test.YtoelnjpolhamfaaGreatDoorTie
import Derived.Deep.DeepHandedRow
import Derived.Test.YtoelnjpolhamfaaGreatDoorZWaysAll5
set_option linter.unusedVariables false
set_option linter.unusedSimpArgs false
namespace Go.Proofs.YtoelnjpolhamfaaGreatDoor
noncomputable section
abbrev RcW:=State × (List Node) × Int × Int × (List (List Item)) × Int × (List ((List UInt8) × Unit)) × (List (List Item))
abbrev RsW:=Bool × (List Node) × Int × Int × (List (List Item)) × Int × (List ((List UInt8) × Unit)) × (List (List Item))
def FW (rcr:RcW->Option RsW) (a:RcW):Option RsW:=fa rcr a.1 a.2.1 a.2.2.1 a.2.2.2.1 a.2.2.2.2.1 a.2.2.2.2.2.1 a.2.2.2.2.2.2.1 a.2.2.2.2.2.2.2
theorem CI:MonoR FW:=fun r r' h a=>by
 unfold FW fa;refine .bind (.refl _) fun x2=>.bind (.refl _) fun x4=>.ite (.refl _) (.ite (.refl _) (.ite (.refl _) (Cj (fun s=>?_) _)))
 unfold dX;exact .ite (.bind (.refl _) fun x19=>.bind (.refl _) fun x20=>.bind (.refl _) fun x22=>.bind (h _) fun x24=>.refl _) (.refl _)
def SeenR (p6:List ((List UInt8) × Unit)) (seen:List (List UInt8)):Prop:=∀ k,(mget k p6).isSome=true ↔ k∈seen
theorem sT (k k':List UInt8):∀ l:List ((List UInt8) × Unit),(mget k' (mset k () l)).isSome=true ↔ k'=k∨(mget k' l).isSome=true
 | []=>by
  unfold mset mget;by_cases h:k'=k<;>simp [h,mget]
 | p::l=>by
  have ih:=sT k k' l;unfold mset;by_cases h:k=p.1
  ·rw [if_pos h];unfold mget;by_cases h2:k'=k
   ·simp [h2]
   ·have h3:¬ k'=p.1:=fun e=>h2 (e.trans h.symm)
    simp [h2,h3]
  ·rw [if_neg h];unfold mget;by_cases h2:k'=p.1
   ·simp [h2]
   ·rw [if_neg h2,if_neg h2];exact ih
theorem SeenR.cons {p6:List ((List UInt8) × Unit)} {seen:List (List UInt8)} (h:SeenR p6 seen) (k:List UInt8):SeenR (mset k () p6) (k::seen):=fun k'=>by
 rw [sT,h k',List.mem_cons]
def OutOk (l:List (List Item)):Prop:=∀ o,o∈l->dep0 o=true/\o.length<=2000
def eq (n:Net) (items:List (List Item)):Nat->State->Wk (List UInt8) (List Item)->Option (Bool × Wk (List UInt8) (List Item)) :=
 walkD (aG n items) (bN n) (ak n items) (doMv n items) (fun s=>s.Out.map aS) 600
structure WkOk (w:Wk (List UInt8) (List Item)) (p6:List ((List UInt8) × Unit)):Prop where
 len:w.out.length<=w.runs
 out:OutOk w.out
 seen:SeenR p6 w.seen
section
variable {n:Net} {items:List (List Item)} (hio:∀ x∈n.Nodes,x.In.length≤1099511627776∧x.Out.length≤1099511627776)
include hio
theorem Do_ok (hsrc:aZ n items=0) {s:State} {m:Move} (hI:Inv n items s) (hm:m∈ak n items s):gP ⟨n.Nodes,n.Rings,n.Room⟩ items s m=some (doMv n items s m,0):=by
 obtain ⟨B,ok,hB⟩:=hI;have hD:=Do_eq n items s m hio (mR (dM hsrc) ok).a6;obtain ⟨i,k,rfl,hi,hk,hc⟩:=dL hm;rw [if_neg (by simp [nO hsrc ok]),if_neg (by
  have:dG n ⟨(i:Int),(k:Int)⟩:=⟨by simp,by simpa using hi,by simp,by simpa using hk⟩
  exact fun e=>e this),if_neg (by unfold canMv;simp [hc])] at hD
 exact hD
theorem zH (hsrc:aZ n items=0) {f:Nat} (ih:∀ (s:State) (w:Wk (List UInt8) (List Item)) (p6:List ((List UInt8) × Unit)),Inv n items s->muN n items s<f->w.runs<=600->WkOk w p6 ->
   ∃ b w' p6',cU FW f (s,n.Nodes,n.Rings,n.Room,items,(w.runs:Int),p6,w.out)=some (b,n.Nodes,n.Rings,n.Room,items,(w'.runs:Int),p6',w'.out)/\eq n items f s w=some (b,w')/\WkOk w' p6'/\(b=true->w'.runs<=600))
  {c : State} (hI:Inv n items c) (hc:muN n items c<=f):∀ (m k:Nat) (w:Wk (List UInt8) (List Item)) (p6:List ((List UInt8) × Unit)),k+m=(ak n items c).length->w.runs<=600->WkOk w p6 ->
   ∃ b w' p6',iter (fun ss:Int × (List Node) × Int × Int × (List (List Item)) × Int × (List ((List UInt8) × Unit)) × (List (List Item))=>dX (cU FW f) (c,ak n items c) ss.1 ss.2.1 ss.2.2.1 ss.2.2.2.1 ss.2.2.2.2.1 ss.2.2.2.2.2.1 ss.2.2.2.2.2.2.1 ss.2.2.2.2.2.2.2) ((k:Int),n.Nodes,n.Rings,n.Room,items,(w.runs:Int),p6,w.out) =
     some (b,n.Nodes,n.Rings,n.Room,items,(w'.runs:Int),p6',w'.out)/\dH (eq n items f) (((ak n items c).drop k).map (doMv n items c)) w=some (b,w')/\WkOk w' p6'/\(b=true->w'.runs<=600):=by
 have hS:=dM hsrc
 intro m
 induction m with
 | zero =>
  intro k w p6 hk hr hw
  have hk:k=(ak n items c).length:=by omega
  subst hk
  refine ⟨true,w,p6,?_,?_,hw,fun _=>hr⟩
  ·have e:dX (cU FW f) (c,ak n items c) ((ak n items c).length:Int) n.Nodes n.Rings n.Room items (w.runs:Int) p6 w.out=some (.inr (true,n.Nodes,n.Rings,n.Room,items,(w.runs:Int),p6,w.out)):=by
    unfold dX;rw [if_neg (by simp)];rfl
   rw [an];simp only [e]
  ·rw [List.drop_length];rfl
 | succ m ihm =>
  intro k w p6 hk hr hw
  have hlt:k<(ak n items c).length:=by omega
  have hg:(ak n items c)[k]?=some (ak n items c)[k]:=List.getElem?_eq_getElem hlt
  have hmem:(ak n items c)[k]∈ak n items c:=List.getElem_mem hlt
  have hI':=Inv.doMv hS hI hmem
  have hbig:(ak n items c).length<=192:=ii hS.toRightN
  obtain ⟨b,w1,p61,h1,h2,h3,h4⟩:=ih _ w p6 hI'.1 (by omega) hr hw
  have hl:dH (eq n items f) (((ak n items c).drop k).map (doMv n items c)) w=match (some (b,w1):Option (Bool × Wk (List UInt8) (List Item))) with
    | none=>none
    | some (false,w')=>some (false,w')
    | some (true,w')=>dH (eq n items f) (((ak n items c).drop (k+1)).map (doMv n items c)) w':=by
   rw [List.drop_eq_getElem_cons hlt,List.map_cons,dH,h2]
   cases b<;>rfl
  cases b with
  | false =>
   refine ⟨false,w1,p61,?_,hl,h3,fun h=>by cases h⟩
   have e:dX (cU FW f) (c,ak n items c) (k:Int) n.Nodes n.Rings n.Room items (w.runs:Int) p6 w.out=some (.inr (false,n.Nodes,n.Rings,n.Room,items,(w1.runs:Int),p61,w1.out)):=by
    unfold dX;rw [if_pos (by simp;omega),bd hlt,Option.bind_some,hg,Option.bind_some,Do_ok hio hsrc hI hmem,Option.bind_some,h1];rfl
   rw [an];simp only [e]
  | true =>
   obtain ⟨b,w2,p62,h5,h6,h7,h8⟩:=ihm (k+1) w1 p61 (by omega) (h4 rfl) h3
   refine ⟨b,w2,p62,?_,hl.trans h6,h7,h8⟩
   have e:dX (cU FW f) (c,ak n items c) (k:Int) n.Nodes n.Rings n.Room items (w.runs:Int) p6 w.out=some (.inl (((k+1:Nat):Int),n.Nodes,n.Rings,n.Room,items,(w1.runs:Int),p61,w1.out)):=by
    unfold dX;rw [if_pos (by simp;omega),bd hlt,Option.bind_some,hg,Option.bind_some,Do_ok hio hsrc hI hmem,Option.bind_some,h1,Option.bind_some,aJ (by omega)];rfl
   rw [an];simp only [e]
   exact h5
theorem rZ (hsrc:aZ n items=0):∀ (f:Nat) (s:State) (w:Wk (List UInt8) (List Item)) (p6:List ((List UInt8) × Unit)),Inv n items s->muN n items s<f->w.runs<=600->WkOk w p6 ->
   ∃ b w' p6',cU FW f (s,n.Nodes,n.Rings,n.Room,items,(w.runs:Int),p6,w.out)=some (b,n.Nodes,n.Rings,n.Room,items,(w'.runs:Int),p6',w'.out)/\eq n items f s w=some (b,w')/\WkOk w' p6'/\(b=true->w'.runs<=600)
 | 0,s,w,p6,_,h,_,_=>by omega
 | f + 1,s,w,p6,hI,hmu,hr,hw=>by
  have hS:=dM hsrc;obtain ⟨hI',_,hmu'⟩:=jN hS hI;have hwr:IntKind.i64.wrap ((w.runs:Int)+1)=((w.runs+1:Nat):Int):=aJ (by omega);have hFW:cU FW (f+1) (s,n.Nodes,n.Rings,n.Room,items,(w.runs:Int),p6,w.out)=fa (cU FW f) s n.Nodes n.Rings n.Room items (w.runs:Int) p6 w.out:=rfl;have hD:eq n items (f+1) s w=if bN n (aG n items s)∈w.seen then some (true,w)
    else if 600<w.runs+1 then some (false,⟨bN n (aG n items s)::w.seen,w.runs+1,w.out⟩)
    else if ak n items (aG n items s)=[] then some (true,⟨bN n (aG n items s)::w.seen,w.runs+1,w.out++[(aG n items s).Out.map aS]⟩)
    else dH (eq n items f) ((ak n items (aG n items s)).map (doMv n items (aG n items s))) ⟨bN n (aG n items s)::w.seen,w.runs+1,w.out⟩:=by
   unfold eq
   rw [walkD]
   by_cases h1:bN n (aG n items s)∈w.seen
   ·simp only [if_pos h1]
   ·by_cases h2:600<w.runs+1
    ·simp only [if_neg h1,if_pos h2]
    ·by_cases h3:ak n items (aG n items s)=[]
     ·simp only [if_neg h1,if_neg h2,if_pos h3]
     ·simp only [if_neg h1,if_neg h2,if_neg h3]
  rw [hFW,hD];unfold fa;rw [B7 hio hsrc hI,Option.bind_some,Cm hio hsrc hI',Option.bind_some,hwr];by_cases hin:bN n (aG n items s)∈w.seen
  ·rw [if_pos ((hw.seen _).2 hin),if_pos hin];exact ⟨true,w,p6,rfl,rfl,hw,fun _=>hr⟩
  ·rw [if_neg (fun e=>hin ((hw.seen _).1 e)),if_neg hin];by_cases hcap:600<w.runs+1
   ·rw [if_pos (by simp;omega),if_pos hcap];exact ⟨false,_,_,rfl,rfl,⟨by have:=hw.len;simp only;omega,hw.out,hw.seen.cons _⟩,fun h=>by cases h⟩
   ·rw [if_neg (by simp;omega),if_neg hcap];by_cases hrd:ak n items (aG n items s)=[]
    ·obtain ⟨B,ok,_⟩:=hI';rw [if_pos (by simp [hrd]),if_pos hrd,pu _ ok.out,Option.bind_some,bB (by have:=hw.len;simp;omega),Option.bind_some];refine ⟨true,_,_,rfl,rfl,⟨by have:=hw.len;simp;omega,fun o ho=>?_,hw.seen.cons _⟩,fun _=>by simp only;omega⟩;rcases List.mem_append.1 ho with ho | ho
     ·exact hw.out o ho
     ·rw [List.mem_singleton] at ho;subst ho;refine ⟨?_,by rw [List.length_map];exact ok.out⟩;unfold dep0;rw [List.all_eq_true];intro x hx;obtain ⟨y,_,rfl⟩:=List.mem_map.1 hx;rfl
    ·rw [if_neg (by simpa using hrd),if_neg hrd];have:=zH hio hsrc (fun s w p6=>rZ hsrc f s w p6) hI' (by omega) (ak n items (aG n items s)).length 0 ⟨bN n (aG n items s)::w.seen,w.runs+1,w.out⟩ (mset (bN n (aG n items s)) () p6) (by omega) (by simp only;omega) ⟨by have:=hw.len;simp only;omega,hw.out,hw.seen.cons _⟩;rw [List.drop_zero] at this;exact this
theorem pE (hsrc:aZ n items=0) {s:State} (hI:Inv n items s):∃ b w p6,ma s n.Nodes n.Rings n.Room items 0 [] []=some (b,n.Nodes,n.Rings,n.Room,items,(w.runs:Int),p6,w.out) /\
  eq n items 1000000000000000001 s ⟨[],0,[]⟩=some (b,w)/\OutOk w.out/\w.out.length<=w.runs/\(b=true->w.runs<=600):=by
 obtain ⟨b,w,p6,h1,h2,h3,h4⟩:=rZ hio hsrc 1000000000000000001 s ⟨[],0,[]⟩ [] hI (by have:=hI.mu_le;omega) (by simp) ⟨by simp,fun o ho=>(List.not_mem_nil ho).elim,fun k=>by simp [mget]⟩
 exact ⟨b,w,p6,B9 CI h1,h2,h3.out,h3.len,h4⟩
end
end
section
def cv (p:List Item):List (List Item)->List (List Item)
 | []=>[]
 | b::l=>if cfR b p=0 then cv b l else b::cv b l
def co:List (List Item)->List (List Item)
 | []=>[]
 | a::l=>a::cv a l
theorem pI (a b:List Item) (la:a.length<=9223372036854775807):jg a b=some (cfR a b==0):=by
 unfold jg;rw [qw a b la];rfl
theorem nN {m k:Nat} (h:k<m):ixV m (k:Int)=some k:=by unfold ixV;rw [if_pos (by omega)];simp
section
variable {p0:List (List Item)} (hl:p0.length≤1099511627776) (hr:∀ a,a∈p0→a.length≤9223372036854775807)
include hl hr
theorem BA (s1:Nat) (hs1:s1<p0.length):∀ (m q w:Nat) (A:List (List Item)) (kept:List (List Item)),s1+q+m=p0.length->1<=q->w<=s1+q - 1->A.length=p0.length->A.take w=kept->(∀ j,s1+q - 1<=j->A[j]?=p0[j]?) ->
  ∀ pv,p0[s1+q - 1]?=some pv->iter (fun ss:Int × Int × (List (List Item))=>fN p0 (s1:Int) ss.1 ss.2.1 ss.2.2) ((w:Int),(q:Int),A)=some (.inr (kept++cv pv (p0.drop (s1+q)))):=by
 intro m
 induction m with
 | zero =>
  intro q w A kept hq h1 hw hA hk hj pv hpv
  have e:fN p0 (s1:Int) (w:Int) (q:Int) A=some (.inr (.inr kept)):=by
   unfold fN;rw [if_neg (by simp;omega)];unfold vwok;rw [if_pos (by omega),Option.bind_some,if_pos (by simp;omega),Option.bind_some];have hc:(clr A (((w:Int)).toNat) ((((A).length:Int)).toNat - ((w:Int)).toNat) []).length=A.length:=by unfold clr;simp;omega
   unfold sub;rw [if_pos (by rw [hc];omega)];simp only [Option.bind_some,Option.map_some];congr 3;unfold clr;simp only [Int.toNat_natCast];rw [List.append_assoc,List.take_append_of_le_length (by simp;omega),List.take_take,Nat.min_self,hk];simp
  rw [an];simp only [e]
  rw [List.drop_eq_nil_of_le (by omega)];simp [cv]
 | succ m ih =>
  intro q w A kept hq h1 hw hA hk hj pv hpv
  have hlt:s1+q<p0.length:=by omega
  have hx:A[s1+q]?=some p0[s1+q]:=by rw [hj _ (by omega)];exact List.getElem?_eq_getElem hlt
  have hy:A[s1+(q - 1)]?=some pv:=by rw [hj _ (by omega),show s1+(q - 1)=s1+q - 1 by omega];exact hpv
  have hxx:=hr p0[s1+q] (List.getElem_mem hlt)
  have ei:ixV ((((p0).length:Int)).toNat - ((s1:Int)).toNat) (q:Int)=some q:=nN (by simp;omega)
  have ej:ixV ((((p0).length:Int)).toNat - ((s1:Int)).toNat) (IntKind.i64.wrap ((q:Int) - 1))=some (q - 1):=by
   rw [bl (by omega) (by omega),show (q:Int) - 1=((q - 1:Nat):Int) by omega];exact nN (by simp;omega)
  have ew:ixN A (w:Int)=some w:=bd (by omega)
  have e:fN p0 (s1:Int) (w:Int) (q:Int) A=some (.inl (if cfR p0[s1+q] pv=0 then ((w:Int),((q+1:Nat):Int),A) else (((w+1:Nat):Int),((q+1:Nat):Int),A.set w p0[s1+q]))):=by
   unfold fN;rw [if_pos (by simp;omega),ei,Option.bind_some];simp only [Int.toNat_natCast] at ei ej ⊢;rw [hx,Option.bind_some,ej,Option.bind_some,hy,Option.bind_some,pI _ _ hxx,Option.bind_some,Option.bind_some,hx,Option.bind_some,ew,Option.bind_some,List.getElem?_eq_getElem (show w<A.length by omega),Option.bind_some,aJ (by omega),aJ (by omega)];by_cases h:cfR p0[s1+q] pv=0<;>simp [h]
  rw [an];simp only [e]
  rw [List.drop_eq_getElem_cons hlt,cv]
  by_cases h:cfR p0[s1+q] pv=0
  ·rw [if_pos h,if_pos h]
   have:=ih (q+1) w A kept (by omega) (by omega) (by omega) hA hk (fun j hj'=>hj j (by omega)) p0[s1+q] (List.getElem?_eq_getElem hlt)
   exact this
  ·rw [if_neg h,if_neg h]
   have:=ih (q+1) (w+1) (A.set w p0[s1+q]) (kept++[p0[s1+q]]) (by omega) (by omega) (by omega) (by simpa using hA) (by
    rw [<- hk];apply List.ext_getElem?;intro j;simp only [List.getElem?_take,List.getElem?_append,List.length_take,List.getElem?_set];by_cases h1:j<w
    ·rw [if_pos (by omega),if_neg (by omega),if_pos (by omega),if_pos h1]
    ·by_cases h2:j=w
     ·subst h2;rw [if_pos (by omega),if_pos rfl,if_pos (by omega),if_neg (by omega),show j - min j A.length=0 by omega];rfl
     ·rw [if_neg (by omega),if_neg (by omega)];rw [List.getElem?_eq_none (by simp;omega)]) (fun j hj'=>by rw [List.getElem?_set,if_neg (by omega)];exact hj j (by omega)) p0[s1+q] (List.getElem?_eq_getElem hlt)
   rw [this,List.append_assoc];rfl
theorem Ck:∀ (m k:Nat) (pre:List (List Item)),k+m=p0.length->1<=k->pre=p0.take k->∀ pv,p0[k - 1]?=some pv ->
  iter (fun ss:Int=>eA p0 ss) (k:Int)=some (pre++cv pv (p0.drop k)):=by
 intro m
 induction m with
 | zero =>
  intro k pre hk h1 hp pv hpv
  have hk:k=p0.length:=by omega
  subst hk
  have e:eA p0 (p0.length:Int)=some (.inr p0):=by
   unfold eA;rw [if_neg (by simp)];rfl
  rw [an];simp only [e]
  rw [List.drop_length,hp];simp [cv]
 | succ m ih =>
  intro k pre hk h1 hp pv hpv
  have hlt:k<p0.length:=by omega
  have hx:p0[k]?=some p0[k]:=List.getElem?_eq_getElem hlt
  have hxx:=hr p0[k] (List.getElem_mem hlt)
  have ej:ixN p0 (IntKind.i64.wrap ((k:Int) - 1))=some (k - 1):=by
   rw [bl (by omega) (by omega),show (k:Int) - 1=((k - 1:Nat):Int) by omega];exact bd (by omega)
  rw [an,List.drop_eq_getElem_cons hlt,cv]
  by_cases h:cfR p0[k] pv=0
  ·have e:eA p0 (k:Int)=some (.inr (pre++cv p0[k] (p0.drop (k+1)))):=by
    unfold eA;rw [if_pos (by simp;omega),bd hlt,Option.bind_some,hx,Option.bind_some,ej,Option.bind_some,hpv,Option.bind_some,pI _ _ hxx,Option.bind_some,if_pos (by simp [h])];unfold vwok;rw [if_pos (by omega),Option.bind_some];have:=BA hl hr k hlt m 1 k p0 pre (by omega) (Nat.le_refl _) (by omega) rfl hp.symm (fun _ _=>rfl) p0[k] (by simp);exact this
   simp only [e]
   rw [if_pos h]
  ·have e:eA p0 (k:Int)=some (.inl ((k+1:Nat):Int)):=by
    unfold eA;rw [if_pos (by simp;omega),bd hlt,Option.bind_some,hx,Option.bind_some,ej,Option.bind_some,hpv,Option.bind_some,pI _ _ hxx,Option.bind_some,if_neg (by simp [h]),aJ (by omega)]
   simp only [e]
   rw [if_neg h,ih (k+1) (pre++[p0[k]]) (by omega) (by omega) (by rw [hp];simp) p0[k] (by simp),List.append_assoc];rfl
theorem CJ:kg p0=some (co p0):=by
 unfold kg;match p0,hl,hr with
 | [],_,_=>rfl
 | [a],_,_=>rfl
 | a::b::l,hl,hr =>
  rw [if_neg (by simp;omega)]
  have:=Ck hl hr (l.length+1) 1 [a] (by simp;omega) (Nat.le_refl _) rfl a rfl
  exact this
end
end
theorem y7 (n:Net) (hn:n.Nodes.length<=1099511627776) (hio:∀ x∈n.Nodes,x.In.length<=1099511627776/\x.Out.length<=1099511627776):lF n=some n:=by
 have cl:∀ {α:Type} (l:List α),l.length<=1099511627776->app [] l=some l:=fun l hl=>by rw [bB (by simpa using hl)];rfl
 have l1:∀ (m k:Nat),k+m=n.Nodes.length->iter (fun ss:Int × (List Node)=>gJ n n.Nodes ss.1 ss.2) ((k:Int),n.Nodes)=some n:=by
  intro m;induction m with
  | zero =>
   intro k hk;have hk:k=n.Nodes.length:=by omega
   subst hk;have e:gJ n n.Nodes (n.Nodes.length:Int) n.Nodes=some (.inr n):=by
    unfold gJ;rw [if_neg (by simp)];rfl
   rw [an];simp only [e]
  | succ m ih =>
   intro k hk;have hlt:k<n.Nodes.length:=by omega
   have hg:n.Nodes[k]?=some n.Nodes[k]:=List.getElem?_eq_getElem hlt;obtain ⟨hi,ho⟩:=hio _ (List.getElem_mem hlt);have e:gJ n n.Nodes (k:Int) n.Nodes=some (.inl (((k+1:Nat):Int),n.Nodes)):=by
    have h1:n.Nodes.set k (⟨n.Nodes[k].Kind,n.Nodes[k].A,n.Nodes[k].In,n.Nodes[k].Out⟩:Node)=n.Nodes:=pm hg;unfold gJ fj;rw [if_pos (by simp;omega),bd hlt,Option.bind_some,hg,Option.bind_some,cl _ hi,Option.bind_some,Option.bind_some,hg,Option.bind_some,cl _ ho,Option.bind_some,Option.bind_some,hg,Option.bind_some];simp only [h1];rw [bd hlt,Option.bind_some,hg,Option.bind_some,aJ (by omega)];simp only [h1]
   rw [an];simp only [e];exact ih (k+1) (by omega)
 unfold lF mf;rw [cl _ hn,Option.bind_some];exact l1 n.Nodes.length 0 (by omega)
theorem xQ (n:Net) (items:List (List Item)) (hio:∀ x∈n.Nodes,x.In.length<=1099511627776/\x.Out.length<=1099511627776):k6 n items=some (if aZ n items≠0 then (⟨[],[],[],[],[]⟩,aZ n items) else (bn n items,0)):=by
 unfold k6;rw [qq n items hio,Option.bind_some];by_cases h:aZ n items=0
 ·rw [if_neg (show ¬ (aZ n items != 0)=true by simp [h]),if_neg (show ¬ aZ n items≠0 by simp [h]),AK (dM h) hio,Option.bind_some]
 ·rw [if_pos (show (aZ n items != 0)=true by simpa using h),if_pos h]
def cy (n:Net) (items:List (List Item)):List (List Item) × Int:=if aZ n items≠0 then ([],aZ n items) else
 match eq n items 1000000000000000001 (bn n items) ⟨[],0,[]⟩ with
 | some (true,w)=>(co (ce w.out),0)
 | _=>([],2)
theorem lP (n:Net) (items:List (List Item)) (hn:n.Nodes.length<=1099511627776) (hio:∀ x∈n.Nodes,x.In.length<=1099511627776/\x.Out.length<=1099511627776):iw n items=some (cy n items):=by
 unfold iw cy;rw [xQ n items hio,Option.bind_some];by_cases h:aZ n items=0
 ·rw [if_neg (show ¬ aZ n items≠0 by simp [h]),if_neg (show ¬ ((bn n items,(0:Int)).2 != 0)=true by simp),y7 n hn hio,Option.bind_some];obtain ⟨b,w,p6,h1,h2,h3,h4,h5⟩:=pE hio h (lj (dM h));rw [if_neg (show ¬ aZ n items≠0 by simp [h]),h1,h2,Option.bind_some];cases b with
  | false=>rfl
  | true =>
   have h5:=h5 rfl;rw [if_neg (by simp)];unfold nV sortR;rw [if_pos ⟨by simp only;omega,List.all_eq_true.2 fun x hx=>(h3 x hx).1⟩,Option.bind_some];have hp:=d8 w.out;rw [CJ (by rw [hp.length_eq];omega) (fun a ha=>by have:=(h3 a (hp.subset ha)).2;omega),Option.bind_some]
 ·rw [if_pos h,if_pos (show ((⟨[],[],[],[],[]⟩:State),aZ n items).2 != 0 by simpa using h),if_pos h]
section
def lC (l:List Int):Prop:=∀ k,k∈l->0<=k/\k<100
theorem BL:∀ a b:Fin 100,digW (a.val:Int) <+: digW (b.val:Int)->a=b:=by decide +kernel
theorem CA {a b:Int} {x y:List UInt8} (ha:0<=a/\a<100) (hb:0<=b/\b<100) (h:digW a++x=digW b++y):a=b/\x=y:=by
 have e:∀ {a b:Int},0<=a/\a<100->0<=b/\b<100->digW a <+: digW b->a=b:=fun {a b} ha hb h=>by
  have:=BL ⟨a.toNat,by omega⟩ ⟨b.toNat,by omega⟩ (by simpa [Int.toNat_of_nonneg ha.1,Int.toNat_of_nonneg hb.1] using h);simp at this;omega
 have hab:a=b:=by
  rcases List.append_eq_append_iff.1 h with ⟨z,h1,_⟩ | ⟨z,h1,_⟩
  ·exact e ha hb ⟨z,h1.symm⟩
  ·exact (e hb ha ⟨z,h1.symm⟩).symm
 subst hab;exact ⟨rfl,List.append_cancel_left h⟩
theorem sI:∀ a:Fin 100,(digW (a.val:Int)).head?≠some 59/\digW (a.val:Int)≠[]:=by decide +kernel
theorem uz:∀ {l m:List Int} {x y:List UInt8},lC l->lC m->encW l++x=encW m++y->l=m/\x=y
 | [],[],x,y,_,_,h=>by simpa [encW] using h
 | [],b::m,x,y,_,hm,h=>by
  exfalso;have hb:=hm b List.mem_cons_self;have hd:=sI ⟨b.toNat,by omega⟩;simp only [Int.toNat_of_nonneg hb.1] at hd;have h1:=congrArg List.head? h;unfold encW at h1;rw [List.flatMap_cons,List.append_assoc,List.append_assoc] at h1;cases hq:digW b with
  | nil=>exact hd.2 hq
  | cons q r=>rw [hq] at h1 hd;simp at h1 hd;exact hd h1.symm
 | a::l,[],x,y,hl,_,h=>by
  exfalso;have hb:=hl a List.mem_cons_self;have hd:=sI ⟨a.toNat,by omega⟩;simp only [Int.toNat_of_nonneg hb.1] at hd;have h1:=congrArg List.head? h;unfold encW at h1;rw [List.flatMap_cons,List.append_assoc,List.append_assoc] at h1;cases hq:digW a with
  | nil=>exact hd.2 hq
  | cons q r=>rw [hq] at h1 hd;simp at h1 hd;exact hd h1
 | a::l,b::m,x,y,hl,hm,h=>by
  have h':digW a++(encW l++x)=digW b++(encW m++y):=by
   unfold encW at h ⊢;rw [List.flatMap_cons,List.flatMap_cons] at h;simpa [List.append_assoc] using h
  obtain ⟨h1,h2⟩:=CA (hl a List.mem_cons_self) (hm b List.mem_cons_self) h';obtain ⟨h3,h4⟩:=uz (fun k hk=>hl k (List.mem_cons_of_mem _ hk)) (fun k hk=>hm k (List.mem_cons_of_mem _ hk)) h2;exact ⟨by rw [h1,h3],h4⟩
theorem ta:∀ {L M:List (List Int)},L.length=M.length->(∀ l,l∈L->lC l)->(∀ l,l∈M->lC l)->L.flatMap encW=M.flatMap encW->L=M
 | [],[],_,_,_,_=>rfl
 | [],_::_,h,_,_,_=>by cases h
 | _::_,[],h,_,_,_=>by cases h
 | l::L,m::M,h,hL,hM,e=>by
  rw [List.flatMap_cons,List.flatMap_cons] at e;obtain ⟨h1,h2⟩:=uz (hL l List.mem_cons_self) (hM m List.mem_cons_self) e;rw [h1,ta (by simpa using h) (fun x hx=>hL x (List.mem_cons_of_mem _ hx)) (fun x hx=>hM x (List.mem_cons_of_mem _ hx)) h2]
section
variable {n:Net} {items:List (List Item)}
theorem um (hS:RightS n items) {B:Int} {s:State} (ok:OkS n items B s):∀ l,l∈bj n s.Choices->lC l:=fun l hl k hk=>by
 unfold bj at hl;obtain ⟨i,_,rfl⟩:=List.mem_map.1 hl;unfold aU at hk;obtain ⟨c,hc,rfl⟩:=List.mem_map.1 hk;obtain ⟨a1,a2,a3,a4,a5⟩:=ok.cho c (List.mem_filter.1 hc).1;have:=gN hS.toRightN (i:=c.Node.toNat) (by omega);unfold aI at this;rw [if_pos a3] at this;omega
theorem oP (hS:RightS n items) {s t:State} (hs:Inv n items s) (ht:Inv n items t) (h:bN n s=bN n t):bj n s.Choices=bj n t.Choices:=by
 obtain ⟨B,ok,_⟩:=hs;obtain ⟨B',ok',_⟩:=ht;exact ta (by rw [jB,jB]) (um hS ok) (um hS ok') h
theorem r5 {a b:List Choice} (h:bj n a=bj n b) {i:Nat} (hi:i<n.Nodes.length):aU a i=aU b i:=by
 have h1:=oM (n:=n) a hi;rw [h,oM b hi] at h1;exact (Option.some.inj h1).symm
theorem BO {i:Nat} (h:(ab n i).Kind=6):i<n.Nodes.length:=by
 by_cases hi:i<n.Nodes.length
 ·exact hi
 ·exfalso;unfold ab at h;rw [List.getD_eq_getElem?_getD,List.getElem?_eq_none (by omega)] at h;exact absurd h (by decide)
theorem Bz {a b:List Item} (h:a.map bO=b.map bO):a.map aS=b.map aS:=by
 have:=congrArg (List.map fun p:Int × Int=>(⟨p.1,p.2,0⟩:Item)) h;rw [List.map_map,List.map_map] at this;exact this
def j6 (n:Net) (l:List Choice):Nat:=((bj n l).map List.length).sum
theorem uI {α:Type} (f g:α->Nat) (a:α):∀ l:List α,l.Nodup->a∈l->(∀ b,b∈l->b≠a->f b=g b)->f a=g a+1->(l.map f).sum=(l.map g).sum+1
 | [],_,h,_,_=>by cases h
 | b::l,hn,h,he,ha=>by
  have hn:=List.nodup_cons.1 hn;rcases List.mem_cons.1 h with rfl | h
  ·have:l.map f=l.map g:=List.map_congr_left fun b hb=>he b (List.mem_cons_of_mem _ hb) fun e=>hn.1 (e▸hb)
   simp only [List.map_cons,List.sum_cons,this];omega
  ·have h1:=uI f g a l hn.2 h (fun b hb=>he b (List.mem_cons_of_mem _ hb)) ha;have h2:=he b List.mem_cons_self fun e=>hn.1 (e▸h)
   simp only [List.map_cons,List.sum_cons];omega
theorem zf (l:List Choice) {i:Nat} (hi:i<n.Nodes.length) (k:Int):j6 n (l++[⟨(i:Int),k⟩])=j6 n l+1:=by
 unfold j6 bj;rw [List.map_map,List.map_map];refine uI _ _ i _ List.nodup_range (by simpa using hi) (fun b _ hb=>?_) ?_
 ·simp only [Function.comp];rw [ju,if_neg (by simp;omega)]
 ·simp only [Function.comp];rw [ju,if_pos rfl,List.length_append];rfl
def MetW (n:Net) (items:List (List Item)) (c:State):Prop:=(∃ u,Reach n items u c)/\Calm n items c
theorem r4 {c:State} {m:Move} (hS:RightS n items) (hc:Calm n items c) (hm:m∈ak n items c):∃ i k:Nat,m=⟨i,k⟩/\i<n.Nodes.length/\(ab n i).Kind=6/\(doMv n items c m).Choices=c.Choices++[⟨(i:Int),(k:Int)⟩]:=by
 obtain ⟨i,k,rfl,hi,hk,hcan⟩:=dL hm;have h6:(ab n i).Kind=6:=by
  have:=List.find?_eq_none.1 hc _ hm;simpa [aV] using this
 refine ⟨i,k,rfl,hi,h6,?_⟩;obtain ⟨it,hh,_⟩:=jP hcan;unfold doMv doM;simp only [Int.toNat_natCast,hh];rw [if_pos h6]
end
end
section
section
variable {n:Net} {items:List (List Item)} {B:Int} {s:State} {room:Option Nat}
def cntW (i:Nat) (w:List (Nat × Nat)):Nat:=(aW i w).length
theorem mS (i:Nat) (m:Nat × Nat) (w:List (Nat × Nat)):cntW i (m::w)=(if m.1=i then 1 else 0)+cntW i w:=by
 unfold cntW;rw [cK];split
 ·rw [List.length_cons];omega
 ·omega
theorem B2 {I M T:Type} {E:Mach I M T} (hsrc:SrcN n) {i:Nat} (hi:i<n.Nodes.length) (h1:(ab n i).Kind=1) (L:Nat) (hL:(E.src (ab n i).A.toNat).length<=L) :
  ∀ {w:List (Nat × Nat)} {c d:MSt I M T},Run E n room c w d->c.pos (ab n i).A.toNat<=L->c.pos (ab n i).A.toNat+cntW i w<=L:=by
 intro w
 induction w with
 | nil=>intro c d h h0;simpa [cntW,aW] using h0
 | cons m w ih =>
  intro c d h h0
  cases h with
  | @cons _ c1 _ _ _ h t =>
   rw [mS]
   obtain ⟨hm,x,hx,_,rfl⟩:=h
   by_cases hmi:m.1=i
   ·subst hmi
    unfold hdM at hx
    rw [if_pos h1] at hx
    have hlt:=(List.getElem?_eq_some_iff.1 hx).1
    have hpos:(goM E n c m x).pos (ab n m.1).A.toNat=c.pos (ab n m.1).A.toNat+1:=by
     show (if (ab n m.1).Kind=1 then upd c.pos (ab n m.1).A.toNat (c.pos (ab n m.1).A.toNat+1) else c.pos) _=_;rw [if_pos h1,AS]
    have:=ih t (by rw [hpos];omega)
    rw [hpos] at this
    rw [if_pos rfl]
    omega
   ·have hpos:(goM E n c m x).pos (ab n i).A.toNat=c.pos (ab n i).A.toNat:=by
     show (if (ab n m.1).Kind=1 then upd c.pos (ab n m.1).A.toNat (c.pos (ab n m.1).A.toNat+1) else c.pos) _=_;split
     ·rename_i hm1;exact lO _ _ (fun e=>hmi (hsrc m.1 i hm.1 hi hm1 h1 e.symm))
     ·rfl
    have:=ih t (by rw [hpos];exact h0)
    rw [hpos] at this
    rw [if_neg hmi]
    omega
theorem BG {I M T:Type} {E:Mach I M T} (hR:RightN n) {i:Nat} (hi:i<n.Nodes.length) (h8:(ab n i).Kind=8):∀ {w:List (Nat × Nat)} {c d:MSt I M T},Run E n room c w d->d.out.length=c.out.length+cntW i w:=by
 intro w;induction w with
 | nil=>intro c d h;cases h;simp [cntW,aW]
 | cons m w ih =>
  intro c d h;cases h with
  | @cons _ c1 _ _ _ h t =>
   rw [mS,ih t];obtain ⟨hm,x,hx,_,rfl⟩:=h;show (if (ab n m.1).Kind=8 then c.out++[_] else c.out).length+_=_;by_cases hmi:m.1=i
   ·subst hmi;rw [if_pos h8,if_pos rfl,List.length_append];simp;omega
   ·rw [if_neg (fun e=>hmi (hR.sink1 m.1 i hm.1 hi e h8)),if_neg hmi];omega
end
end
section
theorem oY {x:List Item}:∀ {l:List (List Item)} {a:List Item},(∀ y,y∈a::l->dep0 y=true)->x∈a::l->x=a∨x∈cv a l
 | [],a,_,h=>.inl (by simpa using h)
 | b::l,a,h0,h=>by
  rw [cv];by_cases hb:cfR b a=0
  ·rw [if_pos hb];have e:=jQ b a (h0 b (by simp)) (h0 a (by simp)) hb;subst e;refine oY (fun y hy=>h0 y (List.mem_cons_of_mem _ hy)) ?_;rcases List.mem_cons.1 h with rfl | h
   ·exact List.mem_cons_self
   ·exact h
  ·rw [if_neg hb];rcases List.mem_cons.1 h with rfl | h
   ·exact .inl rfl
   ·rcases oY (fun y hy=>h0 y (List.mem_cons_of_mem _ hy)) h with rfl | h
    ·exact .inr List.mem_cons_self
    ·exact .inr (List.mem_cons_of_mem _ h)
theorem rT {x:List Item} {l:List (List Item)} (h0:∀ y,y∈l->dep0 y=true) (h:x∈l):x∈co l:=by
 cases l with
 | nil=>cases h
 | cons a l =>
  rw [co];rcases oY h0 h with rfl | h
  ·exact List.mem_cons_self
  ·exact List.mem_cons_of_mem _ h
theorem o6 {x:List Item}:∀ {l:List (List Item)} {a:List Item},x∈cv a l->x∈l
 | [],a,h=>by cases h
 | b::l,a,h=>by
  rw [cv] at h;split at h
  ·exact List.mem_cons_of_mem _ (o6 h)
  ·rcases List.mem_cons.1 h with rfl | h
   ·exact List.mem_cons_self
   ·exact List.mem_cons_of_mem _ (o6 h)
theorem jG {x:List Item} {l:List (List Item)} (h:x∈co l):x∈l:=by
 cases l with
 | nil=>cases h
 | cons a l =>
  rw [co] at h;rcases List.mem_cons.1 h with rfl | h
  ·exact List.mem_cons_self
  ·exact List.mem_cons_of_mem _ (o6 h)
theorem se:∀ (l:List (List Item)) (a:List Item),(cv a l).length<=l.length
 | [],a=>Nat.le_refl _
 | b::l,a=>by
  have:=se l b;rw [cv];split<;>simp only [List.length_cons]<;>omega
theorem oX (l:List (List Item)):(co l).length<=l.length:=by
 cases l with
 | nil=>exact Nat.le_refl _
 | cons a l=>have:=se l a;rw [co];simp only [List.length_cons];omega
theorem qG:∀ {l:List (List Item)} {a:List Item},(∀ y,y∈a::l->dep0 y=true)->(a::l).Pairwise (fun a b=>cfR a b<=0)->(a::cv a l).Pairwise (fun a b=>cfR a b<0)
 | [],a,_,_=>by simp [cv]
 | b::l,a,h0,h=>by
  have h1:=List.pairwise_cons.1 h;have ih:=qG (fun y hy=>h0 y (List.mem_cons_of_mem _ hy)) h1.2;rw [cv];by_cases hb:cfR b a=0
  ·rw [if_pos hb];have e:=jQ b a (h0 b (by simp)) (h0 a (by simp)) hb;subst e;exact ih
  ·rw [if_neg hb];refine List.pairwise_cons.2 ⟨fun c hc=>?_,ih⟩;have hab:cfR a b<0:=by
    have h2:=h1.1 b List.mem_cons_self;have h3:=eS a b;omega
   rcases List.mem_cons.1 hc with rfl | hc
   ·exact hab
   ·have h4:=(List.pairwise_cons.1 ih).1 c hc;exact (iq a b c (by omega) (by omega)).2 (.inl hab)
theorem ot {l:List (List Item)} (h0:∀ y,y∈l->dep0 y=true) (h:l.Pairwise (fun a b=>cfR a b<=0)):(co l).Pairwise (fun a b=>cfR a b<0):=by
 cases l with
 | nil=>exact .nil
 | cons a l=>rw [co];exact qG h0 h
theorem nA (a b:List Item) (la:a.length<=9223372036854775807):jD a b=some (cfR a b):=by
 unfold jD iV;have:=uY a b la _ 0 rfl (Nat.zero_le _);simp only [Int.natCast_zero,List.drop_zero] at this;rw [this];rfl
theorem Al (l:List (List Item)) (p:List Item) (hl:l.length<=1000000) (hr:∀ a,a∈l->a.length<=9223372036854775807) (hs:l.Pairwise (fun a b=>cfR a b<0)) :
    ∃ (i:Int) (b:Bool),gW l p=some (i,b)/\(p∈l->b=true):=by
  have hs':∀ (i j:Nat) x y,i<j->l[i]?=some x->l[j]?=some y->cfR x y<0:=fun i j x y hij hx hy=>by
    obtain ⟨hi,rfl⟩:=List.getElem?_eq_some_iff.1 hx;obtain ⟨hj,rfl⟩:=List.getElem?_eq_some_iff.1 hy;exact List.pairwise_iff_getElem.1 hs i j hi hj hij
  unfold gW
  obtain ⟨r,h1,h2⟩:=lx (body:=fun ss:Int × Int=>gU l p ss.1 ss.2)
    (fun s=>(0<=s.1/\s.1<=s.2/\s.2<=(l.length:Int))/\(∀ (t:Nat) (x:List Item),(t:Int)<s.1->l[t]?=some x->cfR x p<0)/\(∀ (t:Nat) (x:List Item),s.2<=(t:Int)->l[t]?=some x->0<=cfR x p)) (fun s=>(s.2 - s.1).toNat)
    (fun r=>p∈l->r.2=true) (fun s hs0=>by
      obtain ⟨s1,s2⟩:=s;simp only at hs0 ⊢;obtain ⟨hb,ha,hc⟩:=hs0;unfold gU;by_cases hlt:s1<s2
      · rw [if_pos (by simpa using hlt)];have e1:shr .u64 (IntKind.u64.wrap (IntKind.i64.wrap (s1+s2))) 1=some ((s1+s2) / 2):=by
          rw [bl (by omega) (by omega),IntWalk.u64_in _ ⟨by omega,by omega⟩];unfold shr;rw [if_pos (by decide)];congr 1;show (s1+s2).fdiv 2=_;rw [Int.fdiv_eq_ediv_of_nonneg _ (by decide)]
        rw [e1,Option.bind_some];obtain ⟨h,hh⟩:∃ h:Nat,(s1+s2) / 2=(h:Int):=Int.eq_ofNat_of_zero_le (by omega);have hhl:h<l.length:=by omega
        have hx:l[h]?=some l[h]:=List.getElem?_eq_getElem hhl;have hxr:=hr _ (List.getElem_mem hhl);generalize hxv:l[h]=x at hx hxr;have e2:IntKind.i64.wrap (h:Int)=(h:Int):=bl (by omega) (by omega);have e4:IntKind.i64.wrap ((h:Int)+1)=(h:Int)+1:=bl (by omega) (by omega);rw [hh,e2,aN hx,Option.bind_some,nA _ _ hxr,Option.bind_some,e4];refine .inl ?_;by_cases hk:cfR x p<0
        · rw [if_pos (by simpa using hk)];refine ⟨((h:Int)+1,s2),rfl,⟨⟨by show 0<=(h:Int)+1;omega,by show (h:Int)+1<=s2;omega,hb.2.2⟩,fun t y ht hy=>?_,hc⟩,by show (s2 - ((h:Int)+1)).toNat<(s2 - s1).toNat;omega⟩;have ht:(t:Int)<(h:Int)+1:=ht;by_cases e:t=h
          · subst e;rw [hx] at hy;cases hy;exact hk
          · have:=hs' t h y x (by omega) hy hx;exact (iq y x p (by omega) (by omega)).2 (.inl this)
        · rw [if_neg (by simpa using hk)];refine ⟨(s1,(h:Int)),rfl,⟨⟨hb.1,by show s1<=(h:Int);omega,by show (h:Int)<=_;omega⟩,ha,fun t y ht hy=>?_⟩,by show ((h:Int) - s1).toNat<(s2 - s1).toNat;omega⟩;have ht:(h:Int)<=(t:Int):=ht;by_cases e:t=h
          · subst e;rw [hx] at hy;cases hy;omega
          · have:=hs' h t x y (by omega) hx hy;have e1:=eS x p;have e2:=eS y p;have e3:=(iq p x y (by omega) (by omega)).2 (.inr this);omega
      · rw [if_neg (by simpa using hlt)];refine .inr ?_;obtain ⟨k,rfl⟩:=Int.eq_ofNat_of_zero_le hb.1;have hk2:s2=(k:Int):=by omega
        subst hk2;have hpm:p∈l->k<l.length/\l[k]?=some p:=fun hp=>by
          obtain ⟨t,ht⟩:=List.getElem?_of_mem hp;have htl:=(List.getElem?_eq_some_iff.1 ht).1;have h1:k<=t:=by
            apply Classical.byContradiction;intro e;have:=ha t p (by omega) ht;rw [jM] at this;omega
          by_cases e:t=k
          · subst e;exact ⟨htl,ht⟩
          · exfalso;have hkl:k<l.length:=by omega
            have h2:=hs' k t l[k] p (by omega) (List.getElem?_eq_getElem hkl) ht;have h3:=hc k l[k] (by omega) (List.getElem?_eq_getElem hkl);omega
        by_cases hk:k<l.length
        · have hx:l[k]?=some l[k]:=List.getElem?_eq_getElem hk;rw [if_pos (by simp;omega),aN hx,Option.bind_some,nA _ _ (hr _ (List.getElem_mem hk))];refine ⟨_,rfl,fun hp=>?_⟩;have:=(hpm hp).2;rw [hx] at this;have:=Option.some.inj this;simp only [this,jM];rfl
        · rw [if_neg (by simp;omega)];exact ⟨_,rfl,fun hp=>absurd (hpm hp).1 hk⟩) _ (0,(l.length:Int)) (Nat.le_refl _) ⟨by simp,fun t x ht=>by simp at ht;omega,fun t x ht hx=>by
        have:=(List.getElem?_eq_some_iff.1 hx).1;simp only at ht;omega⟩
  exact ⟨r.1,r.2,h1,h2⟩
section
variable {n:Net} {items:List (List Item)} {room:Option Nat}
theorem flow1 {I M T:Type} {E:Mach I M T} (hR:RightN n) {i j:Nat} {r:Int} (hi:i<n.Nodes.length) (hj:j<n.Nodes.length) (hro:r∈(ab n i).Out) (hri:r∈(ab n j).In) (hlen:(ab n j).In.length=1) :
  ∀ {w:List (Nat × Nat)} {c d:MSt I M T},Run E n room c w d->(d.rg r.toNat).length+cntW j w<=(c.rg r.toNat).length+cntW i w:=by
 have hij:i≠j:=fun e=>by
  obtain ⟨pos,_,_,hp⟩:=hR.ord;subst e;have:=hp _ _ r hi hj hro hri;omega
 have h1:(ab n j).Kind≠1:=fun e=>by rw [hR.in1 j hj e] at hri;cases hri
 have h0:=hR.inR j hj r hri
 intro w
 induction w with
 | nil=>intro c d h;cases h;simp [cntW,aW]
 | cons m w ih =>
  intro c d h
  cases h with
  | @cons _ c1 _ _ _ h t =>
   have h2:=ih t
   rw [mS,mS]
   obtain ⟨hm,x,hx,_,rfl⟩:=h
   have hrg:(goM E n c m x).rg r.toNat=(if (ab n m.1).Kind≠1/\r.toNat=aT (ab n m.1) m.2 then (c.rg r.toNat).tail else c.rg r.toNat)++if ((r.toNat:Nat):Int)∈toM E n m x then [(mkM E n c m x).2] else []:=rfl
   have hl1:(if ((r.toNat:Nat):Int)∈toM E n m x then [(mkM E n c m x).2] else []).length<=if m.1=i then 1 else 0:=by
    split
    ·rename_i hto;rw [Int.toNat_of_nonneg h0.1] at hto;rw [if_pos (hR.oneO m.1 i r hm.1 hi (lT hR hm x r hto) hro)];simp
    ·simp
   by_cases hmj:m.1=j
   ·subst hmj
    have hmi:¬ m.1=i:=fun e=>hij e.symm
    have hin:=lJ hR hm h1
    have hrr:r.toNat=aT (ab n m.1) m.2:=by
     obtain ⟨q,hq⟩:=List.length_eq_one_iff.1 hlen;rw [hq] at hri hin;simp at hri hin;omega
    rw [if_neg hmi] at hl1
    rw [hrg,List.length_append,if_pos ⟨h1,hrr⟩,List.length_tail] at h2
    have hne:(c.rg r.toNat).length≠0:=fun e=>by
     unfold hdM at hx;rw [if_neg h1,<- hrr,List.eq_nil_of_length_eq_zero e] at hx;cases hx
    rw [if_pos rfl,if_neg hmi]
    omega
   ·rw [if_neg hmj]
    have hl2:(if (ab n m.1).Kind≠1/\r.toNat=aT (ab n m.1) m.2 then (c.rg r.toNat).tail else c.rg r.toNat).length<=(c.rg r.toNat).length:=by
     split
     ·rw [List.length_tail];omega
     ·exact Nat.le_refl _
    rw [hrg,List.length_append] at h2
    omega
end
end
section
section
variable {n:Net} {items:List (List Item)}
theorem Bq (hS:RightS n items) {w:List (Nat × Nat)} {q:State} (hq:Reach n items w q):∀ (m j:Nat),b8 n j<=m->j<n.Nodes.length->cntW j w<=500:=by
 have hR:=hS.toRightN;obtain ⟨p1,_,p2⟩:=oR hR;obtain ⟨B,ok,_⟩:=hq.inv;have hch:=ok.ch;rw [iD hq] at hch;have hrg:∀ r,(bJ (bn n items)).rg r=[]:=fun r=>by
  show (bn n items).Rings.getD r []=[]
  rw [List.getD_eq_getElem?_getD];cases h:(bn n items).Rings[r]? with
  | none=>rfl
  | some l=>exact (List.mem_replicate.1 (List.mem_of_getElem? h)).2
 have step:∀ j,j<n.Nodes.length->(∀ i,i<n.Nodes.length->b8 n i<b8 n j->cntW i w<=500)->cntW j w<=500:=fun j hj ih=>by
  by_cases h1:(ab n j).Kind=1
  ·have hl:((cw n items).src (ab n j).A.toNat).length<=20:=by
    show (items.getD (ab n j).A.toNat []).length<=20;have ha:=hS.a0 j hj;have hA:=hS.srcA j hj h1;exact hS.l20 _ _ (bA [] (by omega))
   have hp0:(bJ (bn n items)).pos (ab n j).A.toNat<=20:=by
    show ((bn n items).At.getD (ab n j).A.toNat 0).toNat<=20;rw [List.getD_eq_getElem?_getD];cases h:(bn n items).At[(ab n j).A.toNat]? with
    | none=>simp
    | some l=>rw [(List.mem_replicate.1 (List.mem_of_getElem? h)).2];simp
   have:=B2 (uQ hS) hj h1 20 hl hq.run hp0;omega
  ·by_cases h6:(ab n j).Kind=6
   ·have e:aW j w=(w.filter fun m=>decide ((ab n m.1).Kind=6)).filter fun m=>decide (m.1=j):=by
     unfold aW;rw [List.filter_filter];refine List.filter_congr fun m _=>?_
     by_cases hm:m.1=j
     ·simp [hm,h6]
     ·simp [hm]
    unfold cntW;rw [e];have h2:=List.length_filter_le (fun m:Nat × Nat=>decide (m.1=j)) (w.filter fun m=>decide ((ab n m.1).Kind=6));unfold chW at hch;rw [List.length_map] at hch;omega
   ·have hlen:=hR.inx j hj h1 h6;obtain ⟨q',hq'⟩:=List.length_eq_one_iff.1 hlen;have hqi:q'∈(ab n j).In:=by rw [hq'];exact List.mem_cons_self
    have h0:=hR.inR j hj q' hqi;obtain ⟨g,hg,hgo⟩:=hR.toO q'.toNat (by omega);rw [Int.toNat_of_nonneg h0.1] at hgo;have hf:=flow1 hR hg hj hgo hqi hlen hq.run;rw [hrg] at hf;have:=ih g hg (p2 g j q' hg hj hgo hqi);simp at hf;omega
 intro m;induction m with
 | zero=>intro j hp hj;exact step j hj fun i hi hlt=>by omega
 | succ m ih=>intro j hp hj;exact step j hj fun i hi hlt=>ih i (by omega) hi
theorem uV (hS:RightS n items) {w:List (Nat × Nat)} {q:State} (hq:Reach n items w q):q.Out.length<=500:=by
 obtain ⟨k,hk,hk8⟩:=hS.toRightN.sink;have h1:=BG hS.toRightN hk hk8 hq.run;have h2:=Bq hS hq _ k (Nat.le_refl _) hk;have h3:(bJ (bn n items)).out.length=0:=rfl;have h4:(bJ q).out.length=q.Out.length:=rfl;omega
theorem vC (hS:RightS n items) {c:State} {w:List (Nat × Nat)} (hc:Reach n items w c) (hk:Calm n items c) {m:Nat × Nat} {d:MSt (Int × Int) (Int × List Keyed) Unit} (h:Ex (dw n items) n (some n.Room.toNat) (era (bJ c)) m d):(ab n m.1).Kind=6:=by
 apply Classical.byContradiction;intro h6;obtain ⟨c',h1,_⟩:=wi h;have ho:=uV hS hc;have hcan:=si (i:=m.1) (k:=m.2) hS h1 (fun e=>absurd e h6) (fun _=>by omega);have:=List.find?_eq_none.1 hk _ (rh h1.1.1 h1.1.2 hcan);simp [aV] at this;exact h6 this
theorem sh (hS:RightS n items) {c e:State} (hc:MetW n items c) (he:MetW n items e) (h:bj n c.Choices=bj n e.Choices):era (bJ c)=era (bJ e):=by
 obtain ⟨⟨u,hu⟩,kc⟩:=hc;obtain ⟨⟨w,hw⟩,ke⟩:=he;have hl:∀ i,(ab n i).Kind=6->aU c.Choices i=aU e.Choices i:=fun i hi=>r5 h (BO hi)
 obtain ⟨p,q,d,hp,hq,hpq⟩:=yX hS hu hw fun i h6=>.inl ⟨[],by rw [List.append_nil];exact hl i h6⟩
 have hm:∀ i,(ab n i).Kind=6->aW i p=[]/\aW i q=[]:=fun i h6=>by
  have h1:=rj i h6 u;have h3:=rj i h6 w;rw [<- iD hu] at h1;rw [<- iD hw] at h3;have h4:(aW i u).length=(aW i w).length:=by
   have:=congrArg List.length ((h1.symm.trans (hl i h6)).trans h3);simpa using this
  have h6':=congrArg List.length (hpq i).1;rw [cM,cM,List.length_append,List.length_append] at h6';rcases (hpq i).2 with e | e
  ·refine ⟨e,List.eq_nil_of_length_eq_zero ?_⟩;rw [e] at h6';simp at h6';omega
  ·refine ⟨List.eq_nil_of_length_eq_zero ?_,e⟩;rw [e] at h6';simp at h6';omega
 have hp0:p=[]:=by
  cases p with
  | nil=>rfl
  | cons m p =>
   cases hp with
   | cons hx _ =>
    have h3:=(hm m.1 (vC hS hu kc hx)).1;rw [cK,if_pos rfl] at h3;cases h3
 have hq0:q=[]:=by
  cases q with
  | nil=>rfl
  | cons m q =>
   cases hq with
   | cons hx _ =>
    have h3:=(hm m.1 (vC hS hw ke hx)).2;rw [cK,if_pos rfl] at h3;cases h3
 subst hp0 hq0;rw [<- hp.nil_inv,<- hq.nil_inv]
theorem pt:∀ (k:Nat) (l:List Choice),l.length=k->(∀ c,c∈l->0<=c.Node/\c.Node<n.Nodes.length)->j6 n l=l.length
 | 0,l,hk,_=>by
  have:=List.eq_nil_of_length_eq_zero hk;subst this;unfold j6 bj;rw [List.map_map];have:∀ r:List Nat,(r.map (List.length ∘ aU [])).sum=0:=by
   intro r;induction r with
   | nil=>rfl
   | cons a r ih=>rw [List.map_cons,List.sum_cons,ih];rfl
  exact this _
 | k+1,l,hk,h=>by
  rcases List.eq_nil_or_concat l with rfl | ⟨m,c,rfl⟩
  ·simp at hk
  ·rw [List.concat_eq_append] at hk h ⊢;have hc:=h c (by simp);obtain ⟨i,k'⟩:=c;simp only at hc;obtain ⟨j,rfl⟩:=Int.eq_ofNat_of_zero_le hc.1;rw [zf m (by omega) k',pt k m (by simp at hk;omega) (fun x hx=>h x (List.mem_append_left _ hx)),List.length_append];rfl
theorem yl {a b:List Choice} (h:bj n a=bj n b) (c:Choice):bj n (a++[c])=bj n (b++[c]):=by
 unfold bj;refine List.map_congr_left fun i hi=>?_
 have:=r5 h (List.mem_range.1 hi);rw [ju,ju,this]
theorem A5 (hS:RightS n items) {c:State} {m:Move} (hc:MetW n items c) (hm:m∈ak n items c):MetW n items (aG n items (doMv n items c m)):=by
 obtain ⟨⟨u,hu⟩,_⟩:=hc;have r1:=pq hS hu hm;obtain ⟨u',h1,_⟩:=oB hS r1;exact ⟨⟨_,h1⟩,(jN hS r1.inv).2.1⟩
theorem zd (hS:RightS n items):SameG (aG n items) (bN n) (ak n items) (doMv n items) (fun s=>s.Out.map aS) (MetW n items) where
 next:=fun c d hc hd h m hm=>by
  obtain ⟨⟨u,hu⟩,kc⟩:=id hc;obtain ⟨⟨v,hv⟩,kd⟩:=id hd;have hl:=oP hS hu.inv hv.inv h;have he:=sh hS hc hd hl;obtain ⟨i,k,rfl,hi,h6,hch⟩:=r4 hS kc hm;obtain ⟨B,ok,_⟩:=hu.inv;obtain ⟨B',ok',_⟩:=hv.inv;have hlen:c.Choices.length=d.Choices.length:=by
   rw [<- pt (n:=n) _ c.Choices rfl (fun x hx=>⟨(ok.cho x hx).1,(ok.cho x hx).2.1⟩),<- pt (n:=n) _ d.Choices rfl (fun x hx=>⟨(ok'.cho x hx).1,(ok'.cho x hx).2.1⟩)];unfold j6;rw [hl]
  have hx:=vK (ex_mv hS ok hm);rw [he] at hx;obtain ⟨d',h1,_⟩:=wi hx;obtain ⟨i',k',e',_,hk',hcan⟩:=dL hm;simp only [Move.mk.injEq] at e';have hi':i'=i:=by omega
  have hkk:k'=k:=by omega
  subst hi' hkk;have h5:c.Choices.length≠500:=by
   obtain ⟨_,_,_,h5,_⟩:=jP hcan;exact h5 h6
  have hcan':=si (i:=i') (k:=k') hS h1 (fun _=>by omega) (fun _=>by have:=uV hS hv;omega);have hm':=rh hi hk' hcan';refine ⟨hm',?_⟩;obtain ⟨i2,k2,e2,_,_,hch'⟩:=r4 hS kd hm';simp only [Move.mk.injEq] at e2;have hi2:i2=i':=by omega
  have hk2:k2=k':=by omega
  subst hi2 hk2;unfold bN;rw [sZ hS (pq hS hu hm),sZ hS (pq hS hv hm'),hch,hch',yl hl]
 step:=fun c m hc hm=>A5 hS hc hm
 out:=fun c d hc hd h=>by
  obtain ⟨⟨u,hu⟩,_⟩:=id hc;obtain ⟨⟨v,hv⟩,_⟩:=id hd;exact Bz (congrArg MSt.out (sh hS hc hd (oP hS hu.inv hv.inv h)))
theorem zl (hS:RightS n items):MetW n items (aG n items (bn n items)):=by
 have r0:Reach n items [] (bn n items):=⟨lj hS,.nil _⟩
 obtain ⟨u,h1,_⟩:=oB hS r0;exact ⟨⟨_,h1⟩,(jN hS r0.inv).2.1⟩
end
end
theorem qE (l:List Choice) (hl:l.length<=1000000000) (i:Nat):∀ (m k:Nat),k+m=l.length ->
  iter (fun ss_5:Int × (List Int)=>fZ l (i:Int) ss_5.1 ss_5.2) ((k:Int),aU (l.take k) i)=some (aU l i)
 | 0,k,h=>by
  have hk:k=l.length:=by omega
  subst hk;have e:fZ l (i:Int) (l.length:Int) (aU (l.take l.length) i)=some (.inr (aU l i)):=by
   unfold fZ;rw [if_neg (by simp),List.take_length];rfl
  rw [an];simp only [e]
 | m+1,k,h=>by
  have hlt:k<l.length:=by omega
  have hg:l[k]?=some l[k]:=List.getElem?_eq_getElem hlt;have hle:=mF (l.take k) i;rw [List.length_take] at hle;have e:fZ l (i:Int) (k:Int) (aU (l.take k) i)=some (.inl (((k+1:Nat):Int),aU (l.take (k+1)) i)):=by
   unfold fZ;rw [if_pos (by simp;omega),aN hg,Option.bind_some,mU hg,ju,aJ (by omega)];by_cases hi:l[k].Node=(i:Int)
   ·rw [if_pos (show (l[k].Node==(i:Int))=true by simpa using hi),if_pos hi,bB (by simp;omega),Option.bind_some]
   ·rw [if_neg (show ¬ (l[k].Node==(i:Int))=true by simpa using hi),if_neg hi]
  rw [an];simp only [e];exact qE l hl i m (k+1) (by omega)
theorem za (l:List Choice) (hl:l.length<=1000000000) (i:Nat):kH l (i:Int)=some (aU l i):=by
 have:=qE l hl i l.length 0 (by omega);unfold kH;exact this
section
theorem lu {α:Type} (l:List α) (h:l.length<=1099511627776):app ([]:List α) l=some l:=by rw [bB (by simpa using h)];rfl
def bU (R:List (List Item)):List (Bool × List Item):=R.map fun l=>(false,l)
theorem px (R:List (List Item)):(bU R).map Prod.snd=R:=by
 unfold bU;rw [List.map_map];exact (List.map_congr_left fun _ _=>rfl).trans (List.map_id R)
theorem uD (s:State) (h:SmallS s) (cs:List (Bool × List Item)) (hcs:cs.map Prod.snd=s.Rings):∀ (m k:Nat),k+m=s.Memory.length ->
  iter (fun ss_26:Int × (List Memory)=>fW s s.At s.Choices s.Out cs ss_26.1 ss_26.2) ((k:Int),s.Memory.take k)=some (s,cs)
 | 0,k,e=>by
  have hk:k=s.Memory.length:=by omega
  subst hk;have:fW s s.At s.Choices s.Out cs (s.Memory.length:Int) (s.Memory.take s.Memory.length)=some (.inr (s,cs)):=by
   unfold fW;rw [if_neg (by simp),List.take_length,hcs];rfl
  rw [an];simp only [this]
 | m+1,k,e=>by
  have hk:k<s.Memory.length:=by omega
  have hg:s.Memory[k]?=some s.Memory[k]:=List.getElem?_eq_getElem hk;have h3:=h.a3;have:fW s s.At s.Choices s.Out cs (k:Int) (s.Memory.take k)=some (.inl (((k+1:Nat):Int),s.Memory.take (k+1))):=by
   unfold fW f0;rw [if_pos (by simp;omega),aN hg,Option.bind_some,lu _ (h.a7 _ (List.getElem_mem hk)),Option.bind_some,bB (by simp;omega),Option.bind_some,aJ (by omega),mU hg]
  rw [an];simp only [this];exact uD s h cs hcs m (k+1) (by omega)
theorem r9 (s:State) (h:SmallS s):∀ (m k:Nat),k+m=s.Rings.length ->
  iter (fun ss_18:Int × (List (Bool × List Item))=>fU s s.At s.Choices s.Out ss_18.1 ss_18.2) ((k:Int),bU (s.Rings.take k))=some (s,bU s.Rings)
 | 0,k,e=>by
  have hk:k=s.Rings.length:=by omega
  subst hk;have:fU s s.At s.Choices s.Out (s.Rings.length:Int) (bU (s.Rings.take s.Rings.length))=some (.inr (s,bU s.Rings)):=by
   unfold fU;have:=uD s h (bU s.Rings) (px _) s.Memory.length 0 (by omega);rw [Int.natCast_zero,List.take_zero] at this;rw [if_neg (by simp),List.take_length,this];rfl
  rw [an];simp only [this]
 | m+1,k,e=>by
  have hk:k<s.Rings.length:=by omega
  have hg:s.Rings[k]?=some s.Rings[k]:=List.getElem?_eq_getElem hk;have h3:=h.a2;have:fU s s.At s.Choices s.Out (k:Int) (bU (s.Rings.take k))=some (.inl (((k+1:Nat):Int),bU (s.Rings.take (k+1)))):=by
   unfold fU cX;rw [if_pos (by simp;omega),aN hg,Option.bind_some,lu _ (h.a6 _ (List.getElem_mem hk)),Option.bind_some,bB (by simp [bU];omega),Option.bind_some,aJ (by omega),mU hg];unfold bU;rw [List.map_append];rfl
  rw [an];simp only [this];exact r9 s h m (k+1) (by omega)
theorem yw (s:State) (h:SmallS s):kG s=some (s,bU s.Rings):=by
 unfold kG fj jc cX;rw [lu _ h.a1,Option.bind_some,lu _ h.a4,Option.bind_some,lu _ h.a5,Option.bind_some];exact r9 s h s.Rings.length 0 (by omega)
theorem Dx (x:Item) (r:Int) (hr:1<=r/\r<=16):kQ x r=some (x.Key % r):=by
 have h1:=Int.tmod_lt_of_pos x.Key (show (0:Int)<r by omega);have h2:=Int.lt_tmod_of_pos x.Key (show (0:Int)<r by omega);have h3:x.Key.tmod r=x.Key % r - ↑(if 0<=x.Key∨r ∣ x.Key then 0 else Int.natAbs r):=Int.tmod_eq_emod;have h4:=Int.emod_nonneg x.Key (show r≠0 by omega);have h5:=Int.emod_lt_of_pos x.Key (show (0:Int)<r by omega);unfold kQ rem;rw [if_neg (by omega),Option.bind_some];by_cases hn:x.Key.tmod r<0
 ·rw [if_pos (by simpa using hn),bl (by omega) (by omega)];congr 1;split at h3<;>omega
 ·rw [if_neg (by simpa using hn)];congr 1;split at h3<;>omega
section
variable {n:Net} {items:List (List Item)} {B:Int} {s:State}
theorem rx (x2:State × List (Bool × List Item)) (x4:Node) (At L:List Int) (Ch:List Choice) (M:Memory × Item × Int) (q:Nat) (hR6:n.Room<=6) (hL:L.length<=16) (hO:x2.1.Out.length<=2000) (hd:L.Nodup) (R0:List (List Item)) (hl:∀ r,r∈L->0<=r/\r<R0.length) :
  ∀ (m j:Nat) (cs:List (Bool × List Item)),j+m=L.length->cs.map Prod.snd=bw M.2.1 (L.take j) R0->(∀ r,r∈L.drop j->∃ l,cs[r.toNat]?=some (false,l)) ->
  ∃ t ok,iter (fun ss_78:Int × (List (Bool × List Item))=>dt n x2 x4 At L Ch M q ss_78.1 ss_78.2) ((j:Int),cs)=some (t,ok) /\
   (ok=true ↔ (∀ r,r∈L.drop j->((R0.getD r.toNat []).length:Int)<n.Room)/\¬ (x4.Kind=8/\2000<=x2.1.Out.length)) /\
   (ok=true->t=⟨At,bw M.2.1 L R0,x2.1.Memory.set q M.1,Ch,if x4.Kind=8 then x2.1.Out++[M.2.1] else x2.1.Out⟩)
 | 0,j,cs,h,hcs,hf=>by
  have hj:j=L.length:=by omega
  subst hj;rw [List.take_length] at hcs;by_cases h8:x4.Kind=8
  ·by_cases hO2:2000<=x2.1.Out.length
   ·refine ⟨⟨At,cs.map Prod.snd,x2.1.Memory.set q M.1,Ch,x2.1.Out⟩,false,?_,by simp [h8,hO2],by simp⟩;rw [an];have:dt n x2 x4 At L Ch M q (L.length:Int) cs=some (.inr (⟨At,cs.map Prod.snd,x2.1.Memory.set q M.1,Ch,x2.1.Out⟩,false)):=by
     unfold dt;rw [if_neg (by simp),if_pos (by simpa using h8),if_pos (by simp;omega)];rfl
    simp only [this]
   ·refine ⟨⟨At,cs.map Prod.snd,x2.1.Memory.set q M.1,Ch,x2.1.Out++[M.2.1]⟩,true,?_,by simp [h8];omega,fun _=>by rw [hcs,if_pos h8]⟩;rw [an];have:dt n x2 x4 At L Ch M q (L.length:Int) cs=some (.inr (⟨At,cs.map Prod.snd,x2.1.Memory.set q M.1,Ch,x2.1.Out++[M.2.1]⟩,true)):=by
     unfold dt;rw [if_neg (by simp),if_pos (by simpa using h8),if_neg (by simp;omega),bB (by simp;omega)];rfl
    simp only [this]
  ·refine ⟨⟨At,cs.map Prod.snd,x2.1.Memory.set q M.1,Ch,x2.1.Out⟩,true,?_,by simp [h8],fun _=>by rw [hcs,if_neg h8]⟩;rw [an];have:dt n x2 x4 At L Ch M q (L.length:Int) cs=some (.inr (⟨At,cs.map Prod.snd,x2.1.Memory.set q M.1,Ch,x2.1.Out⟩,true)):=by
    unfold dt;rw [if_neg (by simp),if_neg (by simpa using h8)];rfl
   simp only [this]
 | m + 1,j,cs,h,hcs,hf=>by
  have hlt:j<L.length:=by omega
  have hm:=hl _ (List.getElem_mem hlt);have htk:L.take (j+1)=L.take j++[L[j]]:=List.take_succ_eq_append_getElem hlt;have hdr:L.drop j=L[j]::L.drop (j+1):=List.drop_eq_getElem_cons hlt;have hnd:(L.take j).Nodup:=hd.sublist (List.take_sublist _ _);have hnm:L[j] ∉ L.take j:=fun hmem=>by
   have:(L.take j++[L[j]]).Nodup:=by rw [<- htk];exact hd.sublist (List.take_sublist _ _)
   rw [List.nodup_append] at this;exact this.2.2 _ hmem _ (by simp) rfl
  have hnn:L[j] ∉ L.drop (j+1):=fun hmem=>by
   have:(L.drop j).Nodup:=hd.sublist (List.drop_sublist _ _);rw [hdr,List.nodup_cons] at this;exact this.1 hmem
  obtain ⟨l,hcl⟩:=hf L[j] (by rw [hdr];exact List.mem_cons_self);have hcl2:(cs.map Prod.snd)[L[j].toNat]?=some l:=by rw [List.getElem?_map,hcl];rfl
  have hlen:cs.length=R0.length:=by
   have:=congrArg List.length hcs;rw [m8] at this;simpa using this
  have hget:l=R0.getD L[j].toNat []:=by
   rw [hcs] at hcl2;have h1:=get_D [] hcl2;rw [lD _ _ _ hnd (fun r hr=>hl r (List.mem_of_mem_take hr)),if_neg (by rw [Int.toNat_of_nonneg hm.1];exact hnm)] at h1;exact h1.symm
  have hat:atc cs L[j].toNat=some l:=by unfold atc;rw [hcl];rfl
  have how:owc cs L[j].toNat=some l:=by unfold owc;rw [hcl]
  by_cases hroom:(l.length:Int)<n.Room
  ·have e:dt n x2 x4 At L Ch M q (j:Int) cs=some (.inl (((j+1:Nat):Int),own cs L[j].toNat (l++[M.2.1]))):=by
    unfold dt;rw [if_pos (by simp;omega),aN (List.getElem?_eq_getElem hlt),Option.bind_some,ixN_D hm.1 (by rw [hlen];exact hm.2),Option.bind_some,hat,Option.bind_some,if_neg (by simp;omega),how,Option.bind_some,bB (by simp;omega),Option.bind_some,aJ (by omega)]
   obtain ⟨t,ok,h1,h2,h3⟩:=rx x2 x4 At L Ch M q hR6 hL hO hd R0 hl m (j+1) (own cs L[j].toNat (l++[M.2.1])) (by omega) (by
    unfold own;rw [List.map_set,hcs,htk,rE];congr 2;rw [hget,lD _ _ _ hnd (fun r hr=>hl r (List.mem_of_mem_take hr)),if_neg (by rw [Int.toNat_of_nonneg hm.1];exact hnm)]) (fun r hr=>by
    obtain ⟨l',hl'⟩:=hf r (by rw [hdr];exact List.mem_cons_of_mem _ hr);refine ⟨l',?_⟩;unfold own;rw [List.getElem?_set_ne]
    ·exact hl'
    ·intro e;have hr0:=(hl r (List.mem_of_mem_drop hr)).1;have:r=L[j]:=by omega
     rw [this] at hr;exact hnn hr)
   refine ⟨t,ok,?_,?_,h3⟩
   ·rw [an];simp only [e];exact h1
   ·rw [h2,hdr];constructor
    ·rintro ⟨a,b⟩;refine ⟨fun r hr=>?_,b⟩;rcases List.mem_cons.1 hr with rfl | hr
     ·rw [<- hget];exact hroom
     ·exact a r hr
    ·rintro ⟨a,b⟩;exact ⟨fun r hr=>a r (List.mem_cons_of_mem _ hr),b⟩
  ·refine ⟨⟨At,cs.map Prod.snd,x2.1.Memory.set q M.1,Ch,x2.1.Out⟩,false,?_,?_,by simp⟩
   ·rw [an];have:dt n x2 x4 At L Ch M q (j:Int) cs=some (.inr (⟨At,cs.map Prod.snd,x2.1.Memory.set q M.1,Ch,x2.1.Out⟩,false)):=by
     unfold dt;rw [if_pos (by simp;omega),aN (List.getElem?_eq_getElem hlt),Option.bind_some,ixN_D hm.1 (by rw [hlen];exact hm.2),Option.bind_some,hat,Option.bind_some,if_pos (by simp;omega)];rfl
    simp only [this]
   ·constructor
    ·intro e;cases e
    ·rintro ⟨a,b⟩;exact absurd (by rw [hget];exact a L[j] (by rw [hdr];exact List.mem_cons_self)) hroom
end
end
section
section
variable {n:Net} {items:List (List Item)} {B:Int} {s:State}
theorem rl (hR:RightN n) {i:Nat} (hi:i<n.Nodes.length) {r:Int} (ho:r∈(ab n i).Out):r ∉ (ab n i).In:=fun h=>by
 have:=(oR hR).2.2 i i r hi hi ho h;omega
theorem yY (hS:RightS n items) (ok:OkS n items B s) {i k:Nat} (hi:i<n.Nodes.length) (hk:k<aI (ab n i)) {it:Item} (hh:bD n items s i k=some it) (At:List Int) (cs:List (Bool × List Item))
  (hcs:cs.map Prod.snd=bC n s i k) (hfl:∀ r,r∈(ab n i).Out->∃ l,cs[r.toNat]?=some (false,l)) :
  ∃ t c,f9 n (s,bU s.Rings) ⟨i,k⟩ (ab n i) it.Key it.Val it.Dep At cs=some (t,c)/\(c=true ↔ bc n items s i k=true) /\
   (c=true->t=⟨At,bw (bb n s i it).2 (aQ (ab n i) it.Key) (bC n s i k),s.Memory.set i (bb n s i it).1,if (ab n i).Kind=6 then s.Choices++[⟨i,k⟩] else s.Choices,if (ab n i).Kind=8 then s.Out++[(bb n s i it).2] else s.Out⟩):=by
 have hR:=hS.toRightN
 have hrg:=ok.rg
 have hch:=ok.ch
 have hout:=ok.out
 have hmi:i<s.Memory.length:=by rw [ok.mm];exact hi
 have hm:=bA (⟨0,[],0⟩:Memory) hmi
 have hdep:=mX hS ok hh
 have hol:(aQ (ab n i) it.Key).length<=16:=by
  unfold aQ;split
  ·simp
  ·exact jY hR hi
 have hlr:∀ r,r∈aQ (ab n i) it.Key->0<=r/\r<(bC n s i k).length:=fun r hr=>by
  have h1:=hR.outR i hi r (fF hR hi _ r hr);exact ⟨h1.1,by rw [mJ];omega⟩
 have hroom:(∀ r,r∈aQ (ab n i) it.Key->(((bC n s i k).getD r.toNat []).length:Int)<n.Room) ↔ roomy n s (aQ (ab n i) it.Key)=true:=by
  unfold roomy;rw [List.all_eq_true];have key:∀ r,r∈aQ (ab n i) it.Key->(bC n s i k).getD r.toNat []=s.Rings.getD r.toNat []:=fun r hr=>by
   have h0:=hlr r hr;have hro:=fF hR hi _ r hr;rw [oJ hR hrg hi hk];split
   ·rename_i hc;exfalso;have h1:=hc.1;have hkl:=iK hR hi hk h1;obtain ⟨b,b0,b1⟩:=iH hR hi hkl;have hrr:r=(ab n i).In.getD k 0:=by have:=hc.2;unfold aT at this;omega
    exact rl hR hi hro (by rw [hrr];exact b)
   ·rfl
  constructor
  ·intro h r hr;have:=h r hr;rw [key r hr] at this;exact decide_eq_true this
  ·intro h r hr;rw [key r hr];exact of_decide_eq_true (h r hr)
 have k2:∀ (z37:Int) (z38:List Choice),(⟨it.Key,it.Val,z37⟩:Item)=chD (ab n i) s it->0<=z37->∃ t c,g7 n (s,bU s.Rings) ⟨i,k⟩ (ab n i) it.Key it.Val At cs (aQ (ab n i) it.Key) z37 z38=some (t,c) /\
   (c=true ↔ roomy n s (aQ (ab n i) it.Key)=true/\¬ ((ab n i).Kind=8/\2000<=s.Out.length)) /\
   (c=true->t=⟨At,bw (bb n s i it).2 (aQ (ab n i) it.Key) (bC n s i k),s.Memory.set i (bb n s i it).1,z38,if (ab n i).Kind=8 then s.Out++[(bb n s i it).2] else s.Out⟩):=fun z37 z38 hz hz0=>by
  have hst:hT (ab n i).Kind (ab n i).A (s.Memory.getD i ⟨0,[],0⟩) (⟨it.Key,it.Val,z37⟩:Item)=some ((bb n s i it).1,(bb n s i it).2,0):=by
   rw [DH _ _ _ _ (ok.mem i _ hm).1 hz0 (hS.kind i hi),hz];rfl
  obtain ⟨t,c,h1,h2,h3⟩:=rx (n:=n) (s,bU s.Rings) (ab n i) At (aQ (ab n i) it.Key) z38 ((bb n s i it).1,(bb n s i it).2,0) i hR.m2 hol hout (nj hR hi _) (bC n s i k) hlr (aQ (ab n i) it.Key).length 0 cs (by omega)
   (by rw [List.take_zero,hcs];rfl) (fun r hr=>hfl r (fF hR hi _ r hr))
  refine ⟨t,c,?_,?_,h3⟩
  ·unfold g7
   simp only
   rw [bd hmi,Option.bind_some,hm,Option.bind_some,hst,Option.bind_some,Option.bind_some,hm,Option.bind_some]
   exact h1
  ·rw [h2,List.drop_zero,hroom]
 have k3:∃ t c,fe n (s,bU s.Rings) ⟨i,k⟩ (ab n i) it.Key it.Val it.Dep At cs (aQ (ab n i) it.Key)=some (t,c)/\(c=true ↔ bc n items s i k=true) /\
   (c=true->t=⟨At,bw (bb n s i it).2 (aQ (ab n i) it.Key) (bC n s i k),s.Memory.set i (bb n s i it).1,if (ab n i).Kind=6 then s.Choices++[⟨i,k⟩] else s.Choices,if (ab n i).Kind=8 then s.Out++[(bb n s i it).2] else s.Out⟩):=by
  have hcan:bc n items s i k=(roomy n s (aQ (ab n i) it.Key) && !(decide ((ab n i).Kind=6/\s.Choices.length=500)) && !(decide ((ab n i).Kind=8/\s.Out.length=2000))):=by unfold bc;rw [hh]
  by_cases h6:(ab n i).Kind=6
  ·by_cases h5:500<=s.Choices.length
   ·refine ⟨⟨At,cs.map Prod.snd,s.Memory,s.Choices,s.Out⟩,false,?_,?_,by simp⟩
    ·unfold fe
     rw [if_pos (by simpa using h6),if_pos (by simp;omega)]
    ·rw [hcan]
     have:s.Choices.length=500:=by omega
     simp [h6,this]
   ·obtain ⟨t,c,h1,h2,h3⟩:=k2 ((s.Choices.length:Int)+1) (s.Choices++[⟨i,k⟩]) (by unfold chD;rw [if_pos h6]) (by omega)
    refine ⟨t,c,?_,?_,fun hc=>by rw [h3 hc,if_pos h6]⟩
    ·unfold fe
     rw [if_pos (by simpa using h6),if_neg (by simp;omega),bB (by simp;omega),Option.bind_some]
     have:(((s.Choices++[(⟨i,k⟩:Choice)]).length:Nat):Int)=(s.Choices.length:Int)+1:=by simp
     rw [this]
     exact h1
    ·rw [h2,hcan]
     have e1:¬ s.Choices.length=500:=by omega
     have e2:¬ (ab n i).Kind=8:=by omega
     simp [e1,e2]
  ·obtain ⟨t,c,h1,h2,h3⟩:=k2 it.Dep s.Choices (by unfold chD;rw [if_neg h6]) hdep.1
   refine ⟨t,c,?_,?_,fun hc=>by rw [h3 hc,if_neg h6]⟩
   ·unfold fe
    rw [if_neg (by simpa using h6)]
    exact h1
   ·rw [h2,hcan]
    have e1:(2000<=s.Out.length) ↔ s.Out.length=2000:=by omega
    by_cases h8:(ab n i).Kind=8<;>simp [h6,e1,h8]
 unfold f9
 by_cases h7:(ab n i).Kind=7
 ·have ho1:1<=(ab n i).Out.length:=by
   have:=hR.out1 i hi (by omega);exact this
  have ho2:=jY hR hi
  have hL:=Dx (⟨it.Key,it.Val,it.Dep⟩:Item) ((ab n i).Out.length:Int) (by omega)
  have e1:=Int.emod_nonneg it.Key (show ((ab n i).Out.length:Int)≠0 by omega)
  have e2:=Int.emod_lt_of_pos it.Key (show (0:Int)<((ab n i).Out.length:Int) by omega)
  rw [if_pos (by simpa using h7),hL,Option.bind_some,dx 0 e1 e2,Option.bind_some]
  have ho:aQ (ab n i) it.Key=[(ab n i).Out.getD (it.Key % ((ab n i).Out.length:Int)).toNat 0]:=by unfold aQ;rw [if_pos h7]
  rw [<- ho]
  exact k3
 ·rw [if_neg (by simpa using h7)]
  have ho:aQ (ab n i) it.Key=(ab n i).Out:=by unfold aQ;rw [if_neg h7]
  rw [ho] at k3 ⊢
  exact k3
theorem pf (hS:RightS n items) (ok:OkS n items B s) {i k:Nat} (hi:i<n.Nodes.length) (hk:k<aI (ab n i)) :
  ∃ t,fo n items s ⟨i,k⟩=some (t,bc n items s i k)/\(bc n items s i k=true->t=doM n items s i k):=by
 have hR:=hS.toRightN
 have hrg:=ok.rg
 have fin:∀ {it:Item} (hh:bD n items s i k=some it) (At:List Int) (cs:List (Bool × List Item)),At=(if (ab n i).Kind=1 then s.At.set (ab n i).A.toNat (s.At.getD (ab n i).A.toNat 0+1) else s.At)->cs.map Prod.snd=bC n s i k->(∀ r,r∈(ab n i).Out->∃ l,cs[r.toNat]?=some (false,l)) ->
   ∃ t,f9 n (s,bU s.Rings) ⟨i,k⟩ (ab n i) it.Key it.Val it.Dep At cs=some (t,bc n items s i k)/\(bc n items s i k=true->t=doM n items s i k):=fun {it} hh At cs hAt hcs hfl=>by
  obtain ⟨t,c,h1,h2,h3⟩:=yY hS ok hi hk hh At cs hcs hfl
  have e:c=bc n items s i k:=Bool.eq_iff_iff.2 h2
  subst e
  refine ⟨t,h1,fun hc=>?_⟩
  rw [h3 hc]
  unfold doM bC
  simp only [hh]
  rw [hAt]
 have hown:∀ r,r∈(ab n i).Out->∃ l,(bU s.Rings)[r.toNat]?=some (false,l):=fun r hr=>by
  have h1:=hR.outR i hi r hr;refine ⟨s.Rings.getD r.toNat [],?_⟩;unfold bU;rw [List.getElem?_map,bA [] (show r.toNat<s.Rings.length by omega)];rfl
 unfold fo
 rw [yw s (mR hS ok),Option.bind_some,aN (eH hi),Option.bind_some]
 by_cases h1:(ab n i).Kind=1
 ·obtain ⟨a0,a1,a2,a3,a4,a5⟩:=at_ok hS ok hi h1
  have hAl:(ab n i).A.toNat<s.At.length:=by omega
  have hg:=bA (0:Int) hAl
  have hix:ixN s.At (ab n i).A=some (ab n i).A.toNat:=ixN_D a0 a1
  have hd:∀ {l:List Item} {p:Int},0<=p->p<=l.length->sub l p (l.length:Int)=some (l.drop p.toNat):=fun {l p} h0 h1=>by
   unfold sub;rw [if_pos (by omega)];simp
  rw [if_pos (by simpa using h1),dx [] a0 a2,Option.bind_some]
  simp only
  rw [hix,Option.bind_some,hg,Option.bind_some,hd a3 a4,Option.bind_some]
  have hdr:bD n items s i k=((items.getD (ab n i).A.toNat []).drop (s.At.getD (ab n i).A.toNat 0).toNat).head?:=by
   unfold bD;rw [if_pos h1,List.head?_drop]
  cases hc:(items.getD (ab n i).A.toNat []).drop (s.At.getD (ab n i).A.toNat 0).toNat with
  | nil =>
   rw [hc] at hdr
   have hcan:bc n items s i k=false:=by unfold bc;rw [hdr];rfl
   refine ⟨⟨s.At,(bU s.Rings).map Prod.snd,s.Memory,s.Choices,s.Out⟩,?_,by rw [hcan];simp⟩
   rw [if_pos (by simp),hcan]
  | cons it tl =>
   rw [hc] at hdr
   have hi0:idx (it::tl) 0=some it:=rfl
   rw [if_neg (by simp;omega),hi0]
   simp only [Option.bind_some,hix,hg]
   rw [bl (by omega) (by omega)]
   exact fin hdr _ _ (by rw [if_pos h1]) (by rw [px];unfold bC;rw [if_pos h1]) hown
 ·have hkl:=iK hR hi hk h1
  obtain ⟨b,b0,b1⟩:=iH hR hi hkl
  have hd0:idx (ab n i).In (k:Int)=some ((ab n i).In.getD k 0):=aN (bA 0 hkl)
  have hrl:((ab n i).In.getD k 0).toNat<s.Rings.length:=by omega
  have hol:(bU s.Rings).length=s.Rings.length:=by unfold bU;simp
  have hat:atc (bU s.Rings) ((ab n i).In.getD k 0).toNat=some (s.Rings.getD ((ab n i).In.getD k 0).toNat []):=by
   unfold atc bU;rw [List.getElem?_map,bA [] hrl];rfl
  have hrm:=ok.room _ _ (bA [] hrl)
  rw [if_neg (by simpa using h1),hd0,Option.bind_some]
  simp only
  rw [ixN_D b0 (by rw [hol];omega),Option.bind_some,hat,Option.bind_some]
  have hdr:bD n items s i k=(s.Rings.getD ((ab n i).In.getD k 0).toNat []).head?:=by
   unfold bD aT;rw [if_neg h1]
  cases hc:s.Rings.getD ((ab n i).In.getD k 0).toNat [] with
  | nil =>
   rw [hc] at hdr
   have hcan:bc n items s i k=false:=by unfold bc;rw [hdr];rfl
   refine ⟨⟨s.At,(bU s.Rings).map Prod.snd,s.Memory,s.Choices,s.Out⟩,?_,by rw [hcan];simp⟩
   rw [if_pos (by simp),hcan]
  | cons it tl =>
   rw [hc] at hdr
   have hi0:idx (it::tl) 0=some it:=rfl
   have hs1:sub (it::tl) 1 ((it::tl).length:Int)=some tl:=by
    unfold sub;rw [if_pos (by simp;omega)];simp
   rw [if_neg (by simp;omega),hi0,Option.bind_some,hs1,Option.bind_some]
   refine fin hdr _ _ (by rw [if_neg h1]) ?_ (fun r hr=>?_)
   ·unfold fzd bC aT
    rw [if_neg h1,List.map_set,List.map_set,List.map_set,px,List.set_set,List.set_set,hc];rfl
   ·obtain ⟨l,hl⟩:=hown r hr
    have hr0:=hR.outR i hi r hr
    have hne:((ab n i).In.getD k 0).toNat≠r.toNat:=fun e=>by
     have:r=(ab n i).In.getD k 0:=by omega
     exact rl hR hi hr (by rw [this];exact b)
    refine ⟨l,?_⟩
    unfold fzd
    rw [List.getElem?_set_ne hne,List.getElem?_set_ne hne,List.getElem?_set_ne hne]
    exact hl
theorem tU (hS:RightS n items) (ok:OkS n items B s) {i:Nat} (hi:i<n.Nodes.length):∀ (m k:Nat) (acc:List Move),k+m=aI (ab n i)->acc.length+m<=1000000 ->
  iter (fun ss_36:Int × (List Move)=>f8 n items (i:Int) s (aI (ab n i):Int) ss_36.1 ss_36.2) ((k:Int),acc)=some (.inl (((i+1:Nat):Int),acc++(((List.range (aI (ab n i))).drop k).filter fun k=>bc n items s i k).map fun k:Nat=>(⟨i,k⟩:Move)))
 | 0,k,acc,h,ha=>by
  have hk:k=aI (ab n i):=by omega
  have e:f8 n items (i:Int) s (aI (ab n i):Int) (k:Int) acc=some (.inr (.inl (((i+1:Nat):Int),acc))):=by
   unfold f8;have:=hS.n2;rw [if_neg (by simp;omega),aJ (by omega)];rfl
  rw [an];simp only [e];rw [List.drop_of_length_le (by simp;omega)];simp
 | m+1,k,acc,h,ha=>by
  have hk:k<aI (ab n i):=by omega
  have h16:=gN hS.toRightN hi;have hd:(List.range (aI (ab n i))).drop k=k::(List.range (aI (ab n i))).drop (k+1):=by
   rw [List.drop_eq_getElem_cons (by simpa using hk),List.getElem_range]
  obtain ⟨t,ht,_⟩:=pf hS ok hi hk;have e:f8 n items (i:Int) s (aI (ab n i):Int) (k:Int) acc=some (.inl (((k+1:Nat):Int),if bc n items s i k=true then acc++[⟨i,k⟩] else acc)):=by
   unfold f8;rw [if_pos (by simp;omega),ht,Option.bind_some,aJ (by omega)];simp only;cases bc n items s i k with
   | true=>rw [if_pos rfl,if_pos rfl,bB (by simp;omega)];rfl
   | false=>rw [if_neg (by decide),if_neg (by decide)]
  rw [an];simp only [e];rw [tU hS ok hi m (k+1) _ (by omega) (by split<;>(try simp)<;>omega),hd,List.filter_cons];cases bc n items s i k<;>simp
theorem rI (hS:RightS n items) (ok:OkS n items B s):∀ (m i:Nat) (acc:List Move),i+m=n.Nodes.length->acc.length+16*m<=1000 ->
  iter (fun ss_27:Int × (List Move)=>gc n items s ss_27.1 ss_27.2) ((i:Int),acc)=some (acc++((List.range n.Nodes.length).drop i).flatMap fun i=>eU n items s i)
 | 0,i,acc,h,ha=>by
  have hk:i=n.Nodes.length:=by omega
  have e:gc n items s (i:Int) acc=some (.inr acc):=by
   unfold gc;rw [if_neg (by simp;omega)];rfl
  rw [an];simp only [e];rw [List.drop_of_length_le (by simp;omega)];simp
 | m+1,i,acc,h,ha=>by
  have hi:i<n.Nodes.length:=by omega
  have hd:(List.range n.Nodes.length).drop i=i::(List.range n.Nodes.length).drop (i+1):=by
   rw [List.drop_eq_getElem_cons (by simpa using hi),List.getElem_range]
  have hlen:=oG (items:=items) (s:=s) hS.toRightN hi;have h16:=gN hS.toRightN hi;have e:gc n items s (i:Int) acc=some (.inl (((i+1:Nat):Int),acc++eU n items s i)):=by
   have hin:=tU hS ok hi (aI (ab n i)) 0 acc (by omega) (by omega);rw [Int.natCast_zero,List.drop_zero] at hin;unfold gc je;rw [if_pos (by simp;omega),aN (eH hi),Option.bind_some];by_cases h6:(ab n i).Kind=6
   ·have hl:aI (ab n i)=(ab n i).In.length:=by unfold aI;rw [if_pos h6]
    rw [if_pos (by simpa using h6),<- hl];exact hin
   ·have hl:aI (ab n i)=1:=by unfold aI;rw [if_neg h6]
    rw [if_neg (by simpa using h6)];rw [hl] at hin;unfold eU;rw [hl];exact hin
  rw [an];simp only [e];rw [rI hS ok m (i+1) _ (by omega) (by simp;omega),hd];simp
theorem tV (hS:RightS n items) (ok:OkS n items B s):jj n items s=some (ak n items s):=by
 have hn:=hS.n2;have:=rI hS ok n.Nodes.length 0 [] (by omega) (by simp;omega);unfold jj;rw [Int.natCast_zero,List.drop_zero,List.nil_append] at this;exact this
end
end
section
def letW (k:Int):List UInt8:=toStr [IntKind.u8.wrap (IntKind.i64.wrap (97+k))]
def encA (l:List Int):List UInt8:=l.flatMap letW++[32]
def cq (n:Net) (s:State):List UInt8:=(bj n s.Choices).flatMap encA
theorem nK:∀ a b:Fin 16,(letW (a.val:Int)=letW (b.val:Int)->a=b)/\(letW (a.val:Int)).length=1/\(letW (a.val:Int)).head?≠some 32:=by decide +kernel
def lanes16 (l:List Int):Prop:=∀ k,k∈l->0<=k/\k<16
theorem nt {k:Int} (h:0<=k/\k<16):(letW k).length=1:=by
 have:=(nK ⟨k.toNat,by omega⟩ 0).2.1;simpa [Int.toNat_of_nonneg h.1] using this
theorem tC:∀ {l m:List Int} {x y:List UInt8},lanes16 l->lanes16 m->encA l++x=encA m++y->l=m/\x=y
 | [],[],x,y,_,_,h=>by simpa [encA] using h
 | [],b::m,x,y,_,hm,h=>by
  exfalso;have hb:=hm b List.mem_cons_self;have h1:=(nK ⟨b.toNat,by omega⟩ 0).2;simp only [Int.toNat_of_nonneg hb.1] at h1;have h2:=congrArg List.head? h;unfold encA at h2;rw [List.flatMap_cons,List.append_assoc,List.append_assoc] at h2;cases hq:letW b with
  | nil=>rw [hq] at h1;simp at h1
  | cons q r=>rw [hq] at h1 h2;simp at h1 h2;exact h1.2 h2.symm
 | a::l,[],x,y,hl,_,h=>by
  exfalso;have hb:=hl a List.mem_cons_self;have h1:=(nK ⟨a.toNat,by omega⟩ 0).2;simp only [Int.toNat_of_nonneg hb.1] at h1;have h2:=congrArg List.head? h;unfold encA at h2;rw [List.flatMap_cons,List.append_assoc,List.append_assoc] at h2;cases hq:letW a with
  | nil=>rw [hq] at h1;simp at h1
  | cons q r=>rw [hq] at h1 h2;simp at h1 h2;exact h1.2 h2
 | a::l,b::m,x,y,hl,hm,h=>by
  have ha:=hl a List.mem_cons_self;have hb:=hm b List.mem_cons_self;have h':letW a++(encA l++x)=letW b++(encA m++y):=by
   unfold encA at h ⊢;rw [List.flatMap_cons,List.flatMap_cons] at h;simpa [List.append_assoc] using h
  obtain ⟨h1,h2⟩:=List.append_inj h' (by rw [nt ha,nt hb]);have hab:a=b:=by
   have:=(nK ⟨a.toNat,by omega⟩ ⟨b.toNat,by omega⟩).1 (by simpa [Int.toNat_of_nonneg ha.1,Int.toNat_of_nonneg hb.1] using h1);simp at this;omega
  subst hab;obtain ⟨h3,h4⟩:=tC (fun k hk=>hl k (List.mem_cons_of_mem _ hk)) (fun k hk=>hm k (List.mem_cons_of_mem _ hk)) h2;exact ⟨by rw [h3],h4⟩
theorem rX:∀ {L M:List (List Int)},L.length=M.length->(∀ l,l∈L->lanes16 l)->(∀ l,l∈M->lanes16 l)->L.flatMap encA=M.flatMap encA->L=M
 | [],[],_,_,_,_=>rfl
 | [],_::_,h,_,_,_=>by cases h
 | _::_,[],h,_,_,_=>by cases h
 | l::L,m::M,h,hL,hM,e=>by
  rw [List.flatMap_cons,List.flatMap_cons] at e;obtain ⟨h1,h2⟩:=tC (hL l List.mem_cons_self) (hM m List.mem_cons_self) e;rw [h1,rX (by simpa using h) (fun x hx=>hL x (List.mem_cons_of_mem _ hx)) (fun x hx=>hM x (List.mem_cons_of_mem _ hx)) h2]
section
variable {n:Net} {items:List (List Item)}
theorem pz (hS:RightS n items) {B:Int} {s:State} (ok:OkS n items B s):∀ l,l∈bj n s.Choices->lanes16 l:=fun l hl k hk=>by
 unfold bj at hl;obtain ⟨i,_,rfl⟩:=List.mem_map.1 hl;unfold aU at hk;obtain ⟨c,hc,rfl⟩:=List.mem_map.1 hk;obtain ⟨a1,a2,a3,a4,a5⟩:=ok.cho c (List.mem_filter.1 hc).1;have:=gN hS.toRightN (i:=c.Node.toNat) (by omega);unfold aI at this;rw [if_pos a3] at this;omega
theorem oI (hS:RightS n items) {s t:State} (hs:Inv n items s) (ht:Inv n items t):cq n s=cq n t ↔ bN n s=bN n t:=by
 constructor
 ·intro h;obtain ⟨B,ok,_⟩:=hs;obtain ⟨B',ok',_⟩:=ht;have:=rX (by rw [jB,jB]) (pz hS ok) (pz hS ok') h;unfold bN;rw [this]
 ·intro h;unfold cq;rw [oP hS hs ht h]
end
abbrev WkA:=Int × (List ((List UInt8) × Int)) × (List (List Item)) × (List State)
theorem Dc (s:Int) (x:List Int) (hx:x.length<=500) (hr:lanes16 x):∀ (m i:Nat) (acc:List UInt8),i+m=x.length->acc.length<=100000+i ->
  iter (fun ss:(List UInt8) × Int=>gh s x ss.1 ss.2) (acc,(i:Int))=some (.inl (acc++((x.drop i).flatMap letW++[32]),IntKind.i64.wrap (s+1))):=by
 intro m
 induction m with
 | zero =>
  intro i acc hi ha
  have hi:i=x.length:=by omega
  subst hi
  have e:gh s x acc (x.length:Int)=some (.inr (.inl (acc++[32],IntKind.i64.wrap (s+1)))):=by
   unfold gh;rw [if_neg (by simp),lR (by simp;omega)];rfl
  rw [an];simp only [e]
  rw [List.drop_length];rfl
 | succ m ih =>
  intro i acc hi ha
  have hlt:i<x.length:=by omega
  have hg:x[i]?=some x[i]:=List.getElem?_eq_getElem hlt
  have hl:=nt (hr x[i] (List.getElem_mem hlt))
  have e:gh s x acc (i:Int)=some (.inl (acc++letW x[i],((i+1:Nat):Int))):=by
   unfold gh;rw [if_pos (by simp;omega),bd hlt,Option.bind_some,hg,Option.bind_some];show Option.bind (cat acc (letW x[i])) _=_;rw [lR (by omega),Option.bind_some,aJ (by omega)]
  rw [an];simp only [e]
  rw [ih (i+1) _ (by omega) (by rw [List.length_append];omega),List.drop_eq_getElem_cons hlt,List.flatMap_cons]
  simp [List.append_assoc]
theorem Aq {n:Net} {items:List (List Item)} (hS:RightS n items) {s:State} (hI:Inv n items s) (p1:List (List Item)) (p2 s3:Int) (s4:List ((List UInt8) × Int)) (s5:List (List Item)) (x12:List State) (mv:List Move):∀ (m i:Nat) (acc:List UInt8),i+m=n.Nodes.length->acc=((bj n s.Choices).take i).flatMap encA->acc.length<=501*i ->
  iter (fun ss:(List UInt8) × Int=>dz n p1 p2 s3 s4 s5 x12 s.At s.Rings s.Memory s.Choices s.Out mv ss.1 ss.2) (acc,(i:Int)) =
   iter (fun ss:(List UInt8) × Int=>dz n p1 p2 s3 s4 s5 x12 s.At s.Rings s.Memory s.Choices s.Out mv ss.1 ss.2) (cq n s,(n.Nodes.length:Int)):=by
 obtain ⟨B,ok,_⟩:=hI
 have hn:=hS.n2
 have hch:=ok.ch
 intro m
 induction m with
 | zero =>
  intro i acc hi ha hl
  have hi:i=n.Nodes.length:=by omega
  subst hi
  have:acc=cq n s:=by
   rw [ha];unfold cq;rw [List.take_of_length_le (by rw [jB];exact Nat.le_refl _)]
  rw [this]
 | succ m ih =>
  intro i acc hi ha hl
  have hlt:i<n.Nodes.length:=by omega
  have hg:(bj n s.Choices)[i]?=some (aU s.Choices i):=oM _ hlt
  have hmem:=List.mem_of_getElem? hg
  have h16:=pz hS ok _ hmem
  have hlen:(aU s.Choices i).length<=500:=Nat.le_trans (mF _ _) hch
  have hd:(encA (aU s.Choices i)).length<=501:=by
   unfold encA;rw [List.length_append,List.length_flatMap];have:∀ l:List Int,lanes16 l->(l.map fun k=>(letW k).length).sum<=l.length:=by
    intro l;induction l with
    | nil=>intro _;simp
    | cons a l ih =>
     intro h;have h1:=nt (h a List.mem_cons_self);have h2:=ih fun k hk=>h k (List.mem_cons_of_mem _ hk)
     simp only [List.map_cons,List.sum_cons,List.length_cons];omega
   have:=this _ h16;simp;omega
  have e:dz n p1 p2 s3 s4 s5 x12 s.At s.Rings s.Memory s.Choices s.Out mv acc (i:Int)=some (.inl (acc++encA (aU s.Choices i),((i+1:Nat):Int))):=by
   unfold dz;rw [if_pos (by simp;omega),za _ (by omega),Option.bind_some];have:=Dc (i:Int) (aU s.Choices i) hlen h16 (aU s.Choices i).length 0 acc (by omega) (by omega);rw [Int.natCast_zero,List.drop_zero] at this;rw [this,aJ (by omega)];rfl
  rw [an];simp only [e]
  obtain ⟨hlt',hge⟩:=List.getElem?_eq_some_iff.1 hg
  refine ih (i+1) _ (by omega) ?_ (by rw [List.length_append];omega)
  rw [ha,List.take_succ_eq_append_getElem hlt',List.flatMap_append,hge]
  simp
theorem Dw {n:Net} {items:List (List Item)} (hS:RightS n items) {s:State} (hI:Inv n items s) (s3:Int) (s4:List ((List UInt8) × Int)) (nmb:List UInt8) (z:List (List Item)) (work:List State) (hw:work.length<=1000000) :
  ff n items s3 s4 work s.At s.Rings s.Memory s.Choices s.Out (ak n items s) nmb z =
   some (.inl (IntKind.i64.wrap (s3+1),mset nmb (IntKind.i64.wrap (((mget nmb s4).getD 0)+1)) s4,z,work++(ak n items s).map (doMv n items s))):=by
 obtain ⟨B,ok,_⟩:=id hI
 have hbig:(ak n items s).length<=192:=ii hS.toRightN
 have key:∀ (m k:Nat),k+m=(ak n items s).length ->
   iter (fun ss:Int × (List State)=>f7 n items s3 s4 s.At s.Rings s.Memory s.Choices s.Out (ak n items s) nmb z ss.1 ss.2) ((k:Int),work++((ak n items s).take k).map (doMv n items s)) =
    some (.inl (IntKind.i64.wrap (s3+1),mset nmb (IntKind.i64.wrap (((mget nmb s4).getD 0)+1)) s4,z,work++(ak n items s).map (doMv n items s))):=by
  intro m
  induction m with
  | zero =>
   intro k hk
   have hk:k=(ak n items s).length:=by omega
   subst hk
   have e:f7 n items s3 s4 s.At s.Rings s.Memory s.Choices s.Out (ak n items s) nmb z ((ak n items s).length:Int) (work++((ak n items s).take (ak n items s).length).map (doMv n items s)) =
     some (.inr (.inl (IntKind.i64.wrap (s3+1),mset nmb (IntKind.i64.wrap (((mget nmb s4).getD 0)+1)) s4,z,work++(ak n items s).map (doMv n items s)))):=by
    unfold f7
    rw [if_neg (by simp),List.take_length];rfl
   rw [an];simp only [e]
  | succ m ih =>
   intro k hk
   have hlt:k<(ak n items s).length:=by omega
   have hg:(ak n items s)[k]?=some (ak n items s)[k]:=List.getElem?_eq_getElem hlt
   have hmem:=List.getElem_mem hlt
   have hM:∃ b,fo n items s (ak n items s)[k]=some (doMv n items s (ak n items s)[k],b):=by
    obtain ⟨i,q,e,hi,hq,hc⟩:=dL hmem;obtain ⟨t,h1,h2⟩:=pf hS ok hi hq;rw [e];exact ⟨_,by rw [h1,h2 hc];rfl⟩
   obtain ⟨b,hM⟩:=hM
   have e:f7 n items s3 s4 s.At s.Rings s.Memory s.Choices s.Out (ak n items s) nmb z (k:Int) (work++((ak n items s).take k).map (doMv n items s)) =
     some (.inl (((k+1:Nat):Int),work++((ak n items s).take (k+1)).map (doMv n items s))):=by
    unfold f7
    rw [if_pos (by simp;omega),bd hlt,Option.bind_some,hg,Option.bind_some,hM,Option.bind_some,bB (by simp;omega),Option.bind_some,aJ (by omega),List.append_assoc,List.take_succ_eq_append_getElem hlt,List.map_append];rfl
   rw [an];simp only [e]
   exact ih (k+1) (by omega)
 have:=key _ 0 (Nat.zero_add _)
 rw [Int.natCast_zero,List.take_zero,List.map_nil,List.append_nil] at this
 exact this
theorem Dp {n:Net} {items:List (List Item)} {s:State} (ho:s.Out.length<=2000) (s3:Int) (s4:List ((List UInt8) × Int)) (s5:List (List Item)) (work:List State) (mv:List Move) (nmb:List UInt8) (h5:s5.length<=1000000):∀ (m k:Nat),k+m=s.Out.length ->
  iter (fun ss:Int × (List Item)=>f5 n items s3 s4 s5 work s.At s.Rings s.Memory s.Choices s.Out mv nmb ss.1 ss.2) ((k:Int),(s.Out.take k).map aS) =
   ff n items s3 s4 work s.At s.Rings s.Memory s.Choices s.Out mv nmb (s5++[s.Out.map aS]):=by
 intro m
 induction m with
 | zero =>
  intro k hk
  have hk:k=s.Out.length:=by omega
  subst hk
  have e:f5 n items s3 s4 s5 work s.At s.Rings s.Memory s.Choices s.Out mv nmb (s.Out.length:Int) ((s.Out.take s.Out.length).map aS)=Option.map Sum.inr (ff n items s3 s4 work s.At s.Rings s.Memory s.Choices s.Out mv nmb (s5++[s.Out.map aS])):=by
   unfold f5;rw [if_neg (by simp),List.take_length,bB (by simp;omega),Option.bind_some]
  rw [an];simp only [e]
  cases ff n items s3 s4 work s.At s.Rings s.Memory s.Choices s.Out mv nmb (s5++[s.Out.map aS])<;>rfl
 | succ m ih =>
  intro k hk
  have hlt:k<s.Out.length:=by omega
  have hg:s.Out[k]?=some s.Out[k]:=List.getElem?_eq_getElem hlt
  have e:f5 n items s3 s4 s5 work s.At s.Rings s.Memory s.Choices s.Out mv nmb (k:Int) ((s.Out.take k).map aS)=some (.inl (((k+1:Nat):Int),(s.Out.take (k+1)).map aS)):=by
   unfold f5 d6;rw [if_pos (by simp;omega),aN hg,Option.bind_some,Option.bind_some,bB (by simp;omega),Option.bind_some,aJ (by omega),List.take_succ_eq_append_getElem hlt,List.map_append];rfl
  rw [an];simp only [e]
  exact ih (k+1) (by omega)
theorem ixA1 {n:Net} (l:List Move) (hl:l.length<=1000) (hm:∀ m,m∈l->0<=m.Node/\m.Node<n.Nodes.length):∀ (m k:Nat),k+m=l.length ->
  (∃ j:Nat,k<=j/\iter (fun s:Int=>e8 l n.Nodes n.Rings n.Room s) (k:Int)=some (j:Int)/\∃ x,l[j]?=some x/\(l.drop k).find? (aV n)=some x) ∨
  (iter (fun s:Int=>e8 l n.Nodes n.Rings n.Room s) (k:Int)=some (-1)/\(l.drop k).find? (aV n)=none):=by
 intro m
 induction m with
 | zero =>
  intro k hk
  have hk:k=l.length:=by omega
  subst hk
  right
  have e:e8 l n.Nodes n.Rings n.Room (l.length:Int)=some (.inr (-1)):=by
   unfold e8;rw [if_neg (by simp)];rfl
  rw [an];simp only [e]
  rw [List.drop_length];simp
 | succ m ih =>
  intro k hk
  have hlt:k<l.length:=by omega
  have hg:l[k]?=some l[k]:=List.getElem?_eq_getElem hlt
  obtain ⟨h0,h1⟩:=hm l[k] (List.getElem_mem hlt)
  have hp1:kv l[k] n.Nodes n.Rings n.Room=some (aV n l[k]):=by
   unfold kv;rw [show idx n.Nodes l[k].Node=some (ab n l[k].Node.toNat) from dx _ h0 h1,Option.bind_some];unfold aV;by_cases h:(ab n l[k].Node.toNat).Kind=6<;>simp [h]
  have e:e8 l n.Nodes n.Rings n.Room (k:Int)=some (if aV n l[k]=true then .inr (k:Int) else .inl ((k+1:Nat):Int)):=by
   unfold e8;rw [if_pos (by simp;omega),bd hlt,Option.bind_some,hg,Option.bind_some,hp1,Option.bind_some,aJ (by omega)];split<;>rfl
  rw [an];simp only [e]
  rw [List.drop_eq_getElem_cons hlt,List.find?_cons]
  cases hp:aV n l[k] with
  | true =>
   left
   exact ⟨k,Nat.le_refl _,by simp,l[k],hg,rfl⟩
  | false =>
   simp only [Bool.false_eq_true,if_false]
   rcases ih (k+1) (by omega) with ⟨j,a,b,c⟩ | h
   ·exact .inl ⟨j,by omega,b,c⟩
   ·exact .inr h
theorem ixA10 {n:Net} {items:List (List Item)} (hS:RightS n items) (s:State) :
  (∃ j:Nat,gX (ak n items s) n.Nodes n.Rings n.Room=some (j:Int)/\∃ x,(ak n items s)[j]?=some x/\(ak n items s).find? (aV n)=some x) ∨
  (gX (ak n items s) n.Nodes n.Rings n.Room=some (-1)/\(ak n items s).find? (aV n)=none):=by
 have h:=ixA1 (n:=n) (ak n items s) (by have:=ii (s:=s) (items:=items) hS.toRightN;omega) (fun m hm=>by
  obtain ⟨i,k,rfl,hi,_,_⟩:=dL hm;exact ⟨by simp,by simpa using hi⟩) (ak n items s).length 0 (by omega)
 rw [List.drop_zero,Int.natCast_zero] at h
 unfold gX
 rcases h with ⟨j,_,a,b⟩ | h
 ·exact .inl ⟨j,a,b⟩
 ·exact .inr h
theorem ixA2 {n:Net} (l:List Move) (hl:l.length<=1000) (hm:∀ m,m∈l->0<=m.Node/\m.Node<n.Nodes.length):∀ (m k:Nat),k+m=l.length ->
  (∃ j:Nat,k<=j/\iter (fun s:Int=>e7 l n.Nodes n.Rings n.Room s) (k:Int)=some (j:Int)/\∃ x,l[j]?=some x/\(l.drop k).find? (aV n)=some x) ∨
  (iter (fun s:Int=>e7 l n.Nodes n.Rings n.Room s) (k:Int)=some (-1)/\(l.drop k).find? (aV n)=none):=by
 intro m
 induction m with
 | zero =>
  intro k hk
  have hk:k=l.length:=by omega
  subst hk
  right
  have e:e7 l n.Nodes n.Rings n.Room (l.length:Int)=some (.inr (-1)):=by
   unfold e7;rw [if_neg (by simp)];rfl
  rw [an];simp only [e]
  rw [List.drop_length];simp
 | succ m ih =>
  intro k hk
  have hlt:k<l.length:=by omega
  have hg:l[k]?=some l[k]:=List.getElem?_eq_getElem hlt
  obtain ⟨h0,h1⟩:=hm l[k] (List.getElem_mem hlt)
  have hp1:ky l[k] n.Nodes n.Rings n.Room=some (aV n l[k]):=by
   unfold ky;rw [show idx n.Nodes l[k].Node=some (ab n l[k].Node.toNat) from dx _ h0 h1,Option.bind_some];unfold aV;by_cases h:(ab n l[k].Node.toNat).Kind=6<;>simp [h]
  have e:e7 l n.Nodes n.Rings n.Room (k:Int)=some (if aV n l[k]=true then .inr (k:Int) else .inl ((k+1:Nat):Int)):=by
   unfold e7;rw [if_pos (by simp;omega),bd hlt,Option.bind_some,hg,Option.bind_some,hp1,Option.bind_some,aJ (by omega)];split<;>rfl
  rw [an];simp only [e]
  rw [List.drop_eq_getElem_cons hlt,List.find?_cons]
  cases hp:aV n l[k] with
  | true =>
   left
   exact ⟨k,Nat.le_refl _,by simp,l[k],hg,rfl⟩
  | false =>
   simp only [Bool.false_eq_true,if_false]
   rcases ih (k+1) (by omega) with ⟨j,a,b,c⟩ | h
   ·exact .inl ⟨j,by omega,b,c⟩
   ·exact .inr h
theorem ixA20 {n:Net} {items:List (List Item)} (hS:RightS n items) (s:State) :
  (∃ j:Nat,gY (ak n items s) n.Nodes n.Rings n.Room=some (j:Int)/\∃ x,(ak n items s)[j]?=some x/\(ak n items s).find? (aV n)=some x) ∨
  (gY (ak n items s) n.Nodes n.Rings n.Room=some (-1)/\(ak n items s).find? (aV n)=none):=by
 have h:=ixA2 (n:=n) (ak n items s) (by have:=ii (s:=s) (items:=items) hS.toRightN;omega) (fun m hm=>by
  obtain ⟨i,k,rfl,hi,_,_⟩:=dL hm;exact ⟨by simp,by simpa using hi⟩) (ak n items s).length 0 (by omega)
 rw [List.drop_zero,Int.natCast_zero] at h
 unfold gY
 rcases h with ⟨j,_,a,b⟩ | h
 ·exact .inl ⟨j,a,b⟩
 ·exact .inr h
theorem Dj {n:Net} {items:List (List Item)} (hS:RightS n items) (p2 s3:Int) (s4:List ((List UInt8) × Int)) (s5:List (List Item)) (work:List State):∀ (f:Nat) (s:State),Inv n items s->muN n items s<=f->∀ ix:Int,
  ((∃ j:Nat,ix=(j:Int)/\∃ x,(ak n items s)[j]?=some x/\(ak n items s).find? (aV n)=some x)∨(ix = -1/\(ak n items s).find? (aV n)=none)) ->
  iter (fun ss:Int × (List Int) × (List (List Item)) × (List Memory) × (List Choice) × (List Item) × (List Move)=>fh n items p2 s3 s4 s5 work ss.1 ss.2.1 ss.2.2.1 ss.2.2.2.1 ss.2.2.2.2.1 ss.2.2.2.2.2.1 ss.2.2.2.2.2.2) (ix,s.At,s.Rings,s.Memory,s.Choices,s.Out,ak n items s) =
   iter (fun ss:(List UInt8) × Int=>dz n items p2 s3 s4 s5 work (bI n items f s).At (bI n items f s).Rings (bI n items f s).Memory (bI n items f s).Choices (bI n items f s).Out (ak n items (bI n items f s)) ss.1 ss.2) ([],0):=by
 have stop:∀ (s:State),iter (fun ss:Int × (List Int) × (List (List Item)) × (List Memory) × (List Choice) × (List Item) × (List Move)=>fh n items p2 s3 s4 s5 work ss.1 ss.2.1 ss.2.2.1 ss.2.2.2.1 ss.2.2.2.2.1 ss.2.2.2.2.2.1 ss.2.2.2.2.2.2) (-1,s.At,s.Rings,s.Memory,s.Choices,s.Out,ak n items s) =
   iter (fun ss:(List UInt8) × Int=>dz n items p2 s3 s4 s5 work s.At s.Rings s.Memory s.Choices s.Out (ak n items s) ss.1 ss.2) ([],0):=fun s=>by
  have e:fh n items p2 s3 s4 s5 work (-1) s.At s.Rings s.Memory s.Choices s.Out (ak n items s)=Option.map Sum.inr (iter (fun ss:(List UInt8) × Int=>dz n items p2 s3 s4 s5 work s.At s.Rings s.Memory s.Choices s.Out (ak n items s) ss.1 ss.2) ([],0)):=by
   unfold fh;rw [if_neg (by decide)]
  rw [an];simp only [e]
  cases iter (fun ss:(List UInt8) × Int=>dz n items p2 s3 s4 s5 work s.At s.Rings s.Memory s.Choices s.Out (ak n items s) ss.1 ss.2) ([],0)<;>rfl
 intro f
 induction f with
 | zero =>
  intro s hI hf ix hix
  have hfind:(ak n items s).find? (aV n)=none:=by
   cases h:(ak n items s).find? (aV n) with
   | none=>rfl
   | some m=>have:=(Inv.doMv hS hI (gK h).1).2;omega
  rcases hix with ⟨j,_,x,_,h⟩ | ⟨rfl,_⟩
  ·rw [hfind] at h;cases h
  ·exact stop s
 | succ f ih =>
  intro s hI hf ix hix
  rcases hix with ⟨j,rfl,x,hx,h⟩ | ⟨rfl,h⟩
  ·have hmem:=(gK h).1
   have hI':=Inv.doMv hS hI hmem
   obtain ⟨B,ok,_⟩:=id hI
   obtain ⟨B',ok',_⟩:=id hI'.1
   have hjl:=(List.getElem?_eq_some_iff.1 hx).1
   have hM:∃ b,fo n items s x=some (doMv n items s x,b):=by
    obtain ⟨i,q,e,hi,hq,hc⟩:=dL hmem;obtain ⟨t,h1,h2⟩:=pf hS ok hi hq;rw [e];exact ⟨_,by rw [h1,h2 hc];rfl⟩
   obtain ⟨b,hM⟩:=hM
   have hnext:∃ ix',gY (ak n items (doMv n items s x)) n.Nodes n.Rings n.Room=some ix'/\((∃ j:Nat,ix'=(j:Int)/\∃ y,(ak n items (doMv n items s x))[j]?=some y/\(ak n items (doMv n items s x)).find? (aV n)=some y)∨(ix' = -1/\(ak n items (doMv n items s x)).find? (aV n)=none)):=by
    rcases ixA20 hS (doMv n items s x) with ⟨j,a,c⟩ | ⟨a,c⟩
    ·exact ⟨_,a,.inl ⟨j,rfl,c⟩⟩
    ·exact ⟨_,a,.inr ⟨rfl,c⟩⟩
   obtain ⟨ix',h1,h2⟩:=hnext
   have e:fh n items p2 s3 s4 s5 work (j:Int) s.At s.Rings s.Memory s.Choices s.Out (ak n items s)=some (.inl (ix',(doMv n items s x).At,(doMv n items s x).Rings,(doMv n items s x).Memory,(doMv n items s x).Choices,(doMv n items s x).Out,ak n items (doMv n items s x))):=by
    unfold fh;rw [if_pos (by simp),bd hjl,Option.bind_some,hx,Option.bind_some,hM,Option.bind_some,tV hS ok',Option.bind_some,h1,Option.bind_some]
   rw [an];simp only [e]
   rw [ih _ hI'.1 (by omega) ix' h2]
   have hc:bI n items (f+1) s=bI n items f (doMv n items s x):=by
    show (match (ak n items s).find? (aV n) with | none=>s | some m=>bI n items f (doMv n items s m))=_;rw [h]
   rw [hc]
  ·have hc:bI n items (f+1) s=s:=by
    show (match (ak n items s).find? (aV n) with | none=>s | some m=>bI n items f (doMv n items s m))=_;rw [h]
   rw [hc]
   exact stop s
theorem Au {n:Net} {items:List (List Item)} (hS:RightS n items) {t:State} (hI:Inv n items t) (p2:Int) (r:Nat) (hr:r<=1000000) (s4:List ((List UInt8) × Int)) (s5:List (List Item)) (h5:s5.length<=1000000) (rest:List State) (hw:rest.length<=1000000)
  (hv:0<=(mget (cq n (aG n items t)) s4).getD 0/\(mget (cq n (aG n items t)) s4).getD 0<=10000000) :
  gf n items p2 (r:Int) s4 s5 (rest++[t]) =
   if 0<(mget (cq n (aG n items t)) s4).getD 0 then some (.inl ((r:Int),mset (cq n (aG n items t)) ((mget (cq n (aG n items t)) s4).getD 0+1) s4,s5,rest))
   else if p2<((r+1:Nat):Int) then some (.inr ([],((r+1:Nat):Int),false))
   else some (.inl (((r+1:Nat):Int),mset (cq n (aG n items t)) ((mget (cq n (aG n items t)) s4).getD 0+1) s4,
    if ak n items (aG n items t)=[] then s5++[(aG n items t).Out.map aS] else s5,rest++(ak n items (aG n items t)).map (doMv n items (aG n items t)))):=by
 obtain ⟨B,ok,_⟩:=id hI
 obtain ⟨hI',_,_⟩:=jN hS hI
 obtain ⟨B',ok',_⟩:=id hI'
 have hlen:(rest++[t]).length=rest.length+1:=by simp
 have hw1:IntKind.i64.wrap ((((rest++[t]).length:Nat):Int) - 1)=(rest.length:Int):=by rw [bl (by omega) (by omega)];omega
 have hg:(rest++[t])[rest.length]?=some t:=by simp
 have hsub:sub (rest++[t]) 0 (rest.length:Int)=some rest:=by rw [sub_0 (by omega)];simp
 have hix:∃ ix,gX (ak n items t) n.Nodes n.Rings n.Room=some ix/\((∃ j:Nat,ix=(j:Int)/\∃ y,(ak n items t)[j]?=some y/\(ak n items t).find? (aV n)=some y)∨(ix = -1/\(ak n items t).find? (aV n)=none)):=by
  rcases ixA10 hS t with ⟨j,a,c⟩ | ⟨a,c⟩
  ·exact ⟨_,a,.inl ⟨j,rfl,c⟩⟩
  ·exact ⟨_,a,.inr ⟨rfl,c⟩⟩
 obtain ⟨ix,h1,h2⟩:=hix
 have h6:=Dj hS p2 (r:Int) s4 s5 rest 1000000000000000000 t hI hI.mu_le ix h2
 have hc:bI n items 1000000000000000000 t=aG n items t:=rfl
 rw [hc] at h6
 have hname:=Aq hS hI' items p2 (r:Int) s4 s5 rest (ak n items (aG n items t)) n.Nodes.length 0 [] (Nat.zero_add _) (by simp) (by simp)
 rw [Int.natCast_zero] at hname
 unfold gf
 rw [if_pos (by simp),hw1,bd (by omega),Option.bind_some,hg,Option.bind_some,hsub,Option.bind_some,tV hS ok,Option.bind_some,h1,Option.bind_some]
 rw [h6,hname]
 generalize aG n items t=c at *
 generalize hnm:cq n c=nm at *
 generalize hvv:(mget nm s4).getD 0=v at *
 have hwv:IntKind.i64.wrap (v+1)=v+1:=bl (by omega) (by omega)
 have hms:mget nm (mset nm (v+1) s4)=some (v+1):=ji nm (v+1) s4
 have hwr:IntKind.i64.wrap ((r:Int)+1)=((r+1:Nat):Int):=aJ (by omega)
 have e:dz n items p2 (r:Int) s4 s5 rest c.At c.Rings c.Memory c.Choices c.Out (ak n items c) nm (n.Nodes.length:Int) =
   Option.map Sum.inr (if 0<v then some (.inl ((r:Int),mset nm (v+1) s4,s5,rest))
   else if p2<((r+1:Nat):Int) then some (.inr ([],((r+1:Nat):Int),false))
   else some (.inl (((r+1:Nat):Int),mset nm (v+1) s4,if ak n items c=[] then s5++[c.Out.map aS] else s5,rest++(ak n items c).map (doMv n items c)))):=by
  unfold dz
  rw [if_neg (by simp)]
  simp only [hvv,hwv,hms,hwr,Option.getD_some]
  congr 1
  by_cases h0:0<v
  ·rw [if_pos h0,if_pos (by simp;omega)]
  ·rw [if_neg h0,if_neg (by simp;omega)]
   by_cases hp:p2<((r+1:Nat):Int)
   ·rw [if_pos hp,if_pos (by simp;omega)];rfl
   ·rw [if_neg hp,if_neg (by simp;omega)]
    have hk3:=fun z=>Dw hS hI' (r:Int) s4 nm z rest hw
    by_cases hrd:ak n items c=[]
    ·rw [if_pos (by simp [hrd])]
     have:=Dp (n:=n) (items:=items) ok'.out (r:Int) s4 s5 rest (ak n items c) nm h5 c.Out.length 0 (Nat.zero_add _)
     rw [Int.natCast_zero,List.take_zero,List.map_nil] at this
     rw [this,hk3,hvv,hwv,hwr,if_pos hrd]
    ·rw [if_neg (by simpa using hrd),hk3,hvv,hwv,hwr,if_neg hrd]
 rw [an]
 simp only
 rw [e]
 generalize (if 0<v then _ else _:Option (WkA ⊕ ((List (List Item)) × Int × Bool)))=Y
 cases Y<;>rfl
end
section
def dW (p:List Item):List (List Item)->List (List Item)
 | []=>[]
 | b::l=>if b=p then dW b l else b::dW b l
def compV:List (List Item)->List (List Item)
 | []=>[]
 | a::l=>a::dW a l
theorem ox (a b:List Item) (ha:a.length<=1099511627776):fg a b=some (decide (a=b)):=by
 unfold fg;by_cases hl:a.length=b.length
 ·rw [if_neg (by simp;omega),oF a b ha hl (fun k x y e1 e2 e3 e4=>by
   unfold gZ;rw [e1,e2,e3,e4];simp only [if_true,Option.bind_some];by_cases h:x=y<;>simp [h]) (fun h=>by
   unfold gZ;rw [h];rfl)]
 ·rw [if_pos (by simp;omega)];have:a≠b:=fun e=>hl (by rw [e])
  simp [this]
section
variable {p0:List (List Item)} (hl:p0.length≤1099511627776) (hr:∀ a,a∈p0→a.length≤1099511627776)
include hl hr
theorem CT (s1:Nat) (hs1:s1<p0.length):∀ (m q w:Nat) (A:List (List Item)) (kept:List (List Item)),s1+q+m=p0.length->1<=q->w<=s1+q - 1->A.length=p0.length->A.take w=kept->(∀ j,s1+q - 1<=j->A[j]?=p0[j]?) ->
  ∀ pv,p0[s1+q - 1]?=some pv->iter (fun ss:Int × Int × (List (List Item))=>fM p0 (s1:Int) ss.1 ss.2.1 ss.2.2) ((w:Int),(q:Int),A)=some (.inr (kept++dW pv (p0.drop (s1+q)))):=by
 intro m
 induction m with
 | zero =>
  intro q w A kept hq h1 hw hA hk hj pv hpv
  have e:fM p0 (s1:Int) (w:Int) (q:Int) A=some (.inr (.inr kept)):=by
   unfold fM;rw [if_neg (by simp;omega)];unfold vwok;rw [if_pos (by omega),Option.bind_some,if_pos (by simp;omega),Option.bind_some];have hc:(clr A (((w:Int)).toNat) ((((A).length:Int)).toNat - ((w:Int)).toNat) []).length=A.length:=by unfold clr;simp;omega
   unfold sub;rw [if_pos (by rw [hc];omega)];simp only [Option.bind_some,Option.map_some];congr 3;unfold clr;simp only [Int.toNat_natCast];rw [List.append_assoc,List.take_append_of_le_length (by simp;omega),List.take_take,Nat.min_self,hk];simp
  rw [an];simp only [e]
  rw [List.drop_eq_nil_of_le (by omega)];simp [dW]
 | succ m ih =>
  intro q w A kept hq h1 hw hA hk hj pv hpv
  have hlt:s1+q<p0.length:=by omega
  have hx:A[s1+q]?=some p0[s1+q]:=by rw [hj _ (by omega)];exact List.getElem?_eq_getElem hlt
  have hy:A[s1+(q - 1)]?=some pv:=by rw [hj _ (by omega),show s1+(q - 1)=s1+q - 1 by omega];exact hpv
  have hxx:=hr p0[s1+q] (List.getElem_mem hlt)
  have ei:ixV ((((p0).length:Int)).toNat - ((s1:Int)).toNat) (q:Int)=some q:=nN (by simp;omega)
  have ej:ixV ((((p0).length:Int)).toNat - ((s1:Int)).toNat) (IntKind.i64.wrap ((q:Int) - 1))=some (q - 1):=by
   rw [bl (by omega) (by omega),show (q:Int) - 1=((q - 1:Nat):Int) by omega];exact nN (by simp;omega)
  have ew:ixN A (w:Int)=some w:=bd (by omega)
  have e:fM p0 (s1:Int) (w:Int) (q:Int) A=some (.inl (if p0[s1+q]=pv then ((w:Int),((q+1:Nat):Int),A) else (((w+1:Nat):Int),((q+1:Nat):Int),A.set w p0[s1+q]))):=by
   unfold fM;rw [if_pos (by simp;omega),ei,Option.bind_some];simp only [Int.toNat_natCast] at ei ej ⊢;rw [hx,Option.bind_some,ej,Option.bind_some,hy,Option.bind_some,ox _ _ hxx,Option.bind_some,Option.bind_some,hx,Option.bind_some,ew,Option.bind_some,List.getElem?_eq_getElem (show w<A.length by omega),Option.bind_some,aJ (by omega),aJ (by omega)];by_cases h:p0[s1+q]=pv<;>simp [h]
  rw [an];simp only [e]
  rw [List.drop_eq_getElem_cons hlt,dW]
  by_cases h:p0[s1+q]=pv
  ·rw [if_pos h,if_pos h]
   have:=ih (q+1) w A kept (by omega) (by omega) (by omega) hA hk (fun j hj'=>hj j (by omega)) p0[s1+q] (List.getElem?_eq_getElem hlt)
   exact this
  ·rw [if_neg h,if_neg h]
   have:=ih (q+1) (w+1) (A.set w p0[s1+q]) (kept++[p0[s1+q]]) (by omega) (by omega) (by omega) (by simpa using hA) (by
    rw [<- hk];apply List.ext_getElem?;intro j;simp only [List.getElem?_take,List.getElem?_append,List.length_take,List.getElem?_set];by_cases h1:j<w
    ·rw [if_pos (by omega),if_neg (by omega),if_pos (by omega),if_pos h1]
    ·by_cases h2:j=w
     ·subst h2;rw [if_pos (by omega),if_pos rfl,if_pos (by omega),if_neg (by omega),show j - min j A.length=0 by omega];rfl
     ·rw [if_neg (by omega),if_neg (by omega)];rw [List.getElem?_eq_none (by simp;omega)]) (fun j hj'=>by rw [List.getElem?_set,if_neg (by omega)];exact hj j (by omega)) p0[s1+q] (List.getElem?_eq_getElem hlt)
   rw [this,List.append_assoc];rfl
theorem CL:∀ (m k:Nat) (pre:List (List Item)),k+m=p0.length->1<=k->pre=p0.take k->∀ pv,p0[k - 1]?=some pv ->
  iter (fun ss:Int=>eu p0 ss) (k:Int)=some (pre++dW pv (p0.drop k)):=by
 intro m
 induction m with
 | zero =>
  intro k pre hk h1 hp pv hpv
  have hk:k=p0.length:=by omega
  subst hk
  have e:eu p0 (p0.length:Int)=some (.inr p0):=by
   unfold eu;rw [if_neg (by simp)];rfl
  rw [an];simp only [e]
  rw [List.drop_length,hp];simp [dW]
 | succ m ih =>
  intro k pre hk h1 hp pv hpv
  have hlt:k<p0.length:=by omega
  have hx:p0[k]?=some p0[k]:=List.getElem?_eq_getElem hlt
  have hxx:=hr p0[k] (List.getElem_mem hlt)
  have ej:ixN p0 (IntKind.i64.wrap ((k:Int) - 1))=some (k - 1):=by
   rw [bl (by omega) (by omega),show (k:Int) - 1=((k - 1:Nat):Int) by omega];exact bd (by omega)
  rw [an,List.drop_eq_getElem_cons hlt,dW]
  by_cases h:p0[k]=pv
  ·have e:eu p0 (k:Int)=some (.inr (pre++dW p0[k] (p0.drop (k+1)))):=by
    unfold eu;rw [if_pos (by simp;omega),bd hlt,Option.bind_some,hx,Option.bind_some,ej,Option.bind_some,hpv,Option.bind_some,ox _ _ hxx,Option.bind_some,if_pos (by simp [h])];unfold vwok;rw [if_pos (by omega),Option.bind_some];have:=CT hl hr k hlt m 1 k p0 pre (by omega) (Nat.le_refl _) (by omega) rfl hp.symm (fun _ _=>rfl) p0[k] (by simp);exact this
   simp only [e]
   rw [if_pos h]
  ·have e:eu p0 (k:Int)=some (.inl ((k+1:Nat):Int)):=by
    unfold eu;rw [if_pos (by simp;omega),bd hlt,Option.bind_some,hx,Option.bind_some,ej,Option.bind_some,hpv,Option.bind_some,ox _ _ hxx,Option.bind_some,if_neg (by simp [h]),aJ (by omega)]
   simp only [e]
   rw [if_neg h,ih (k+1) (pre++[p0[k]]) (by omega) (by omega) (by rw [hp];simp) p0[k] (by simp),List.append_assoc];rfl
theorem BD:kf p0=some (compV p0):=by
 unfold kf;match p0,hl,hr with
 | [],_,_=>rfl
 | [a],_,_=>rfl
 | a::b::l,hl,hr =>
  rw [if_neg (by simp;omega)]
  have:=CL hl hr (l.length+1) 1 [a] (by simp;omega) (Nat.le_refl _) rfl a rfl
  exact this
end
theorem uM:∀ (l:List (List Item)) (a:List Item),(∀ y,y∈a::l->dep0 y=true)->dW a l=cv a l
 | [],_,_=>rfl
 | b::l,a,h=>by
  have ih:=uM l b fun y hy=>h y (List.mem_cons_of_mem _ hy)
  rw [dW,cv,ih];by_cases hb:b=a
  ·rw [if_pos hb,if_pos (by rw [hb];exact jM a)]
  ·rw [if_neg hb,if_neg fun e=>hb (jQ b a (h b (by simp)) (h a (by simp)) e)]
theorem BE (l:List (List Item)) (h:∀ y,y∈l->dep0 y=true):compV l=co l:=by
 cases l with
 | nil=>rfl
 | cons a l=>rw [compV,co,uM l a h]
end
section
theorem CK {n:Net} {items:List (List Item)} (hS:RightS n items):kL n items=some (bn n items):=by
 unfold kL;have h1:=hS.r1;have h2:=hS.r2;have h3:=hS.n2;have h4:=hS.l4;have e1:mk ((items.length:Nat):Int) (0:Int)=some (List.replicate items.length 0):=by unfold mk;rw [if_pos (by omega)];simp
 have e2:mk n.Rings ([]:List Item)=some (List.replicate n.Rings.toNat []):=by unfold mk;rw [if_pos (by omega)]
 have e3:mk ((n.Nodes.length:Nat):Int) (⟨0,[],0⟩:Memory)=some (List.replicate n.Nodes.length ⟨0,[],0⟩):=by unfold mk;rw [if_pos (by omega)];simp
 rw [e1,Option.bind_some,e2,Option.bind_some,e3,Option.bind_some];rfl
section
variable {n:Net} {items:List (List Item)}
structure SchA (n:Net) (items:List (List Item)) (st:WkA) (w:Wk (List UInt8) (List Item)) (V:List State):Prop where
 sch:Sch (aG n items) (bN n) (ak n items) (doMv n items) (fun s=>s.Out.map aS) (bn n items) st.2.2.2 w V
 runs:st.1=(w.runs:Int)
 cap:w.runs<=600
 out:st.2.2.1=w.out
 olen:w.out.length<=w.runs
 ook:OutOk w.out
 inv:∀ t,t∈st.2.2.2->Inv n items t
 key:∀ c,Inv n items c->(0<(mget (cq n c) st.2.1).getD 0 ↔ bN n c∈w.seen)
 val:∀ k,0<=(mget k st.2.1).getD 0/\(mget k st.2.1).getD 0+((601 - w.runs)*200+st.2.2.2.length:Nat)<=1000000
def EndA (n:Net) (items:List (List Item)) (r:(List (List Item)) × Int × Bool):Prop :=
 (∃ w V,r.2.2=true/\r.1=co (ce w.out)/\w.runs<=600/\OutOk w.out/\Sch (aG n items) (bN n) (ak n items) (doMv n items) (fun s=>s.Out.map aS) (bn n items) [] w V) ∨
 (r.2.2=false/\r.1=[]/\∃ V,AllG (aG n items) (ak n items) (doMv n items) (bn n items) V/\(V.map (bN n)).Nodup/\600<V.length)
theorem Ap (hS:RightS n items) (st:WkA) (h:∃ w V,SchA n items st w V) :
  (∃ st',gf n items 600 st.1 st.2.1 st.2.2.1 st.2.2.2=some (.inl st')/\(∃ w V,SchA n items st' w V)/\(601 - st'.1.toNat)*200+st'.2.2.2.length<(601 - st.1.toNat)*200+st.2.2.2.length) ∨
  ∃ r,gf n items 600 st.1 st.2.1 st.2.2.1 st.2.2.2=some (.inr r)/\EndA n items r:=by
 obtain ⟨w,V,h⟩:=h
 obtain ⟨s3,s4,s5,work⟩:=st
 obtain ⟨hsch,hruns,hcap,hout,holen,hook,hinv,hkey,hval⟩:=h
 simp only at hsch hruns hout hinv hkey hval ⊢
 subst hruns hout
 rcases List.eq_nil_or_concat work with rfl | ⟨rest,t,rfl⟩
 ·right
  have hp:=d8 w.out
  have h0:∀ y,y∈ce w.out->dep0 y=true:=fun y hy=>(hook y (hp.subset hy)).1
  refine ⟨(co (ce w.out),(w.runs:Int),true),?_,.inl ⟨w,V,rfl,rfl,hcap,hook,hsch⟩⟩
  unfold gf
  rw [if_neg (by simp)]
  unfold nW sortR
  rw [if_pos ⟨by omega,List.all_eq_true.2 fun x hx=>(hook x hx).1⟩,Option.bind_some,BD (by rw [hp.length_eq];omega) (fun a ha=>by have:=(hook a (hp.subset ha)).2;omega),Option.bind_some,BE _ h0];rfl
 ·rw [List.concat_eq_append] at hsch hinv hval ⊢
  have hI:=hinv t (List.mem_append_right _ (List.mem_singleton.2 rfl))
  obtain ⟨hI',_,_⟩:=jN hS hI
  obtain ⟨B',ok',_⟩:=id hI'
  have hlen:(rest++[t]).length=rest.length+1:=by simp
  have hv:=hval (cq n (aG n items t))
  have hw0:=hval []
  rw [hlen] at hv hw0
  have hbody:=Au hS hI 600 w.runs (by omega) s4 w.out (by omega) rest (by omega) ⟨hv.1,by omega⟩
  have hk:=hkey _ hI'
  have hbig:(ak n items (aG n items t)).length<=192:=ii hS.toRightN
  have hmv:∀ k,(mget k (mset (cq n (aG n items t)) ((mget (cq n (aG n items t)) s4).getD 0+1) s4)).getD 0=if k=cq n (aG n items t) then (mget (cq n (aG n items t)) s4).getD 0+1 else (mget k s4).getD 0:=fun k=>by
   split
   ·rename_i e;subst e;rw [ji];rfl
   ·rename_i e;rw [mz _ e]
  rw [hbody]
  by_cases h0:0<(mget (cq n (aG n items t)) s4).getD 0
  ·left
   rw [if_pos h0]
   refine ⟨_,rfl,⟨w,V,hsch.skip (hk.1 h0),rfl,hcap,rfl,holen,hook,fun x hx=>hinv x (List.mem_append_left _ hx),fun c hc=>?_,fun k=>?_⟩,by simp only [hlen];omega⟩
   ·simp only
    rw [hmv]
    split
    ·rename_i e
     have:bN n c=bN n (aG n items t):=(oI hS hc hI').1 e
     rw [this]
     exact ⟨fun _=>hk.1 h0,fun _=>by omega⟩
    ·exact hkey c hc
   ·simp only
    rw [hmv]
    have:=hval k
    rw [hlen] at this
    split<;>omega
  ·rw [if_neg h0]
   have hnin:bN n (aG n items t) ∉ w.seen:=fun e=>h0 (hk.2 e)
   by_cases hc6:(600:Int)<((w.runs+1:Nat):Int)
   ·right
    rw [if_pos hc6]
    have hvis:=hsch.visit (out:=if ak n items (aG n items t)=[] then w.out++[(aG n items t).Out.map aS] else w.out) hnin (by
     by_cases hr:ak n items (aG n items t)=[]
     ·exact .inl ⟨hr,by rw [if_pos hr]⟩
     ·exact .inr ⟨hr,by rw [if_neg hr]⟩)
    refine ⟨_,rfl,.inr ⟨rfl,rfl,_,hvis.all,hvis.nodup,?_⟩⟩
    have:=hvis.runs
    simp only at this
    omega
   ·left
    rw [if_neg hc6]
    have hvis:=hsch.visit (out:=if ak n items (aG n items t)=[] then w.out++[(aG n items t).Out.map aS] else w.out) hnin (by
     by_cases hr:ak n items (aG n items t)=[]
     ·exact .inl ⟨hr,by rw [if_pos hr]⟩
     ·exact .inr ⟨hr,by rw [if_neg hr]⟩)
    have hvz:(mget (cq n (aG n items t)) s4).getD 0=0:=by omega
    refine ⟨_,rfl,⟨_,_,hvis,rfl,by simp only;omega,rfl,?_,?_,fun x hx=>?_,fun c hc=>?_,fun k=>?_⟩,?_⟩
    ·simp only
     split
     ·simp;omega
     ·omega
    ·simp only
     split
     ·intro o ho
      rcases List.mem_append.1 ho with ho | ho
      ·exact hook o ho
      ·rw [List.mem_singleton] at ho;subst ho
       refine ⟨?_,by rw [List.length_map];exact ok'.out⟩
       unfold dep0
       rw [List.all_eq_true]
       intro x hx
       obtain ⟨y,_,rfl⟩:=List.mem_map.1 hx
       rfl
     ·exact hook
    ·rcases List.mem_append.1 hx with hx | hx
     ·exact hinv x (List.mem_append_left _ hx)
     ·obtain ⟨m,hm,rfl⟩:=List.mem_map.1 hx
      exact (Inv.doMv hS hI' hm).1
    ·simp only
     rw [hmv,List.mem_cons]
     split
     ·rename_i e
      have:bN n c=bN n (aG n items t):=(oI hS hc hI').1 e
      exact ⟨fun _=>.inl this,fun _=>by omega⟩
     ·rename_i e
      rw [hkey c hc]
      exact ⟨.inr,fun h=>h.resolve_left fun h=>e ((oI hS hc hI').2 h)⟩
    ·simp only [List.length_append,List.length_map]
     rw [hmv]
     have:=hval k
     rw [hlen] at this
     split<;>omega
    ·simp only [List.length_append,List.length_map,hlen]
     omega
theorem Cx (hS:RightS n items):∃ r,jh n items 600=some r/\EndA n items r:=by
  unfold jh;rw [CK hS,Option.bind_some];exact lx (fun st=>∃ w V,SchA n items st w V) (fun st:WkA=>(601 - st.1.toNat)*200+st.2.2.2.length) (EndA n items) (fun st h=>Ap hS st h) _ _ (Nat.le_refl _)
    ⟨⟨[],0,[]⟩,[],Sch.begin_,rfl,by simp,rfl,by simp,fun o ho=>(List.not_mem_nil ho).elim,fun t ht=>by
      simp only [List.mem_singleton] at ht;subst ht;exact lj hS,fun c _=>by simp [mget],fun k=>by simp [mget]⟩
end
end
theorem yL {l m:List (List Item)} (h0:∀ a,a∈l->dep0 a=true) (hl:l.Pairwise (fun a b=>cfR a b<0)) (hm:m.Pairwise (fun a b=>cfR a b<0)) (h:∀ x,x∈l ↔ x∈m):l=m:=by
 have nd:∀ {l:List (List Item)},l.Pairwise (fun a b=>cfR a b<0)->l.Nodup:=fun hp=>hp.imp fun {a b} hab e=>by
  subst e;rw [jM] at hab;exact absurd hab (by decide)
 exact rp ((List.perm_ext_iff_of_nodup (nd hl) (nd hm)).2 h) h0 (hl.imp fun h=>by omega) (hm.imp fun h=>by omega)
theorem zP {a b:List (List Item)} (ha:OutOk a) (hb:OutOk b) (h:∀ x,x∈a ↔ x∈b):co (ce a)=co (ce b):=by
 have pa:=d8 a;have pb:=d8 b;have da:∀ y,y∈ce a->dep0 y=true:=fun y hy=>(ha y (pa.subset hy)).1
 have db:∀ y,y∈ce b->dep0 y=true:=fun y hy=>(hb y (pb.subset hy)).1
 refine yL (fun y hy=>da y (jG hy)) (ot da (kR a)) (ot db (kR b)) fun x=>⟨fun hx=>?_,fun hx=>?_⟩
 ·exact rT db (pb.symm.subset ((h x).1 (pa.subset (jG hx))))
 ·exact rT da (pa.symm.subset ((h x).2 (pb.subset (jG hx))))
theorem Ax {n:Net} {items:List (List Item)} (hio:∀ x∈n.Nodes,x.In.length<=1099511627776/\x.Out.length<=1099511627776) (hsrc:aZ n items=0):∃ r,jh n items 600=some r/\(r.2.2=false->r.1=[])/\cy n items=(r.1,if r.2.2=true then 0 else 2):=by
 have hS:=dM hsrc;obtain ⟨r,hr,hE⟩:=Cx hS;refine ⟨r,hr,fun e=>by
  rcases hE with ⟨_,_,e1,_⟩ | ⟨_,e2,_⟩
  ·rw [e] at e1;cases e1
  ·exact e2,?_⟩
 obtain ⟨b,w,p6,_,h2,h3,h4,h5⟩:=pE hio hsrc (lj hS);have G:=zd hS;have q0:=zl hS;unfold cy;rw [if_neg (fun e=>e hsrc),h2];cases b with
 | true =>
  obtain ⟨V,v⟩:=pe _ _ _ _ h2;obtain ⟨wh,al⟩:=Aa rfl v;have hV:V.length<=600:=by
   have h1:=v.runs;have:=h5 rfl;simp only at h1;omega
  rcases hE with ⟨w',V',e1,e2,e3,e4,sc⟩ | ⟨e1,e2,V',a1,a2,a3⟩
  ·rw [if_pos e1,e2];have hm:∀ x,x∈w.out ↔ x∈w'.out:=fun x=>by
    rw [sc.out x];constructor
    ·intro hx;obtain ⟨l,e,hl⟩:=v.sub;rw [e,List.nil_append] at hx;exact vg G q0 al sc.all sc.whole (hl x hx)
    ·intro hx;obtain ⟨c,hc,hrd,rfl⟩:=vg G q0 sc.all al wh hx;exact v.fin c hc hrd
   show (co (ce w.out),(0:Int))=_;rw [zP h3 e4 hm]
  ·exfalso;have:=v7 G q0 a1 a2 al wh;omega
 | false =>
  obtain ⟨V,v,hc⟩:=sf _ _ _ _ h2;have h1:=v.runs;simp only at h1;rcases hE with ⟨w',V',e1,e2,e3,e4,sc⟩ | ⟨e1,e2,V',a1,a2,a3⟩
  ·exfalso;have h6:=v7 G q0 (fun P h1 h2=>v.all P (fun s hs=>by rw [List.mem_singleton] at hs;subst hs;exact h1) h2) v.nodup sc.all sc.whole;have:=sc.runs;omega
  ·rw [e2,if_neg (by rw [e1];decide)]
theorem Ak:cy meetN twoN=([[⟨1,1,0⟩,⟨2,2,0⟩],[⟨2,2,0⟩,⟨1,1,0⟩]],0):=by decide +kernel
theorem yz (a b:List Item) (ha:a.length<=1099511627776):fg a b=some (decide (a=b)):=by
 unfold fg;by_cases hl:a.length=b.length
 ·rw [if_neg (by simp;omega),oF a b ha hl (fun k x y e1 e2 e3 e4=>by
   unfold gZ;rw [e1,e2,e3,e4];simp only [if_true,Option.bind_some];by_cases h:x=y<;>simp [h]) (fun h=>by
   unfold gZ;rw [h];rfl)]
 ·rw [if_pos (by simp;omega)];have:a≠b:=fun e=>hl (by rw [e])
  simp [this]
theorem ua (a b:List (List Item)) (ha:a.length<=1099511627776) (hi:∀ l,l∈a->l.length<=1099511627776) (hl:a.length=b.length):gV a b=some (decide (a=b)):=by
 unfold gV;rw [if_neg (by simp;omega),oF a b ha hl (fun k x y e1 e2 e3 e4=>by
  unfold j9;have hx:x∈a:=by
   unfold idx at e2;rw [if_pos (by omega)] at e2;exact List.mem_of_getElem? e2
  rw [e1,e2,e3,e4];simp only [if_true,Option.bind_some];rw [yz x y (hi x hx),Option.bind_some];by_cases h:x=y<;>simp [h]) (fun h=>by
  unfold j9;rw [h];rfl)]
theorem zc:kM=some true:=by
 have h1:mh=some meetN:=rfl;have h2:mA=some twoN:=rfl;unfold kM d6;rw [h1,Option.bind_some,h2,Option.bind_some,lP meetN twoN (by decide) BC,Ak,Option.bind_some,if_pos (by decide)];simp only [Option.bind_some];rw [ua _ _ (by decide) (by decide) rfl];rfl
theorem pL {n:Net} {items:List (List Item)} (hio:∀ x∈n.Nodes,x.In.length<=1099511627776/\x.Out.length<=1099511627776) (h:(cy n items).2=0):aZ n items=0 /\
  ∃ w,eq n items 1000000000000000001 (bn n items) ⟨[],0,[]⟩=some (true,w)/\cy n items=(co (ce w.out),0)/\OutOk w.out/\w.out.length<=600:=by
 have hsrc:aZ n items=0:=by
  apply Classical.byContradiction;intro e;unfold cy at h;rw [if_pos e] at h;exact e h
 obtain ⟨b,w,p6,h1,h2,h3,h4,h5⟩:=pE hio hsrc (lj (dM hsrc))
 refine ⟨hsrc,w,?_⟩
 cases b with
 | false =>
  exfalso
  unfold cy at h
  rw [if_neg (fun e=>e hsrc),h2] at h
  exact absurd (show (2:Int)=0 from h) (by decide)
 | true =>
  refine ⟨h2,?_,h3,by have:=h5 rfl;omega⟩
  unfold cy
  rw [if_neg (fun e=>e hsrc),h2]
theorem pp {w:List (List Item)} (h:OutOk w):(∀ y,y∈ce w->dep0 y=true)/\(∀ y,y∈co (ce w)->y.length<=2000):=by
 have hp:=d8 w;exact ⟨fun y hy=>(h y (hp.subset hy)).1,fun y hy=>(h y (hp.subset (jG hy))).2⟩
theorem De {n:Net} {items:List (List Item)} (hn:n.Nodes.length<=1099511627776) (hio:∀ x∈n.Nodes,x.In.length<=1099511627776/\x.Out.length<=1099511627776) (h:(cy n items).2=0) (l:List Item) (hl:l.length<=2000) :
  ∃ b,eJ n items l=some (b,0)/\(l.map aS∈(cy n items).1->b=true):=by
 obtain ⟨hsrc,w,hw,he,ho,hlen⟩:=pL hio h
 have hr:=pp ho
 have hp:=d8 w.out
 have hcl:=oX (ce w.out)
 rw [hp.length_eq] at hcl
 obtain ⟨i,b,h1,h2⟩:=Al (co (ce w.out)) (l.map aS) (by omega) (fun a ha=>by have:=hr.2 a ha;omega) (ot hr.1 (kR w.out))
 refine ⟨b,?_,fun hm=>h2 (by rw [he] at hm;exact hm)⟩
 unfold eJ
 rw [if_neg (by simp;omega),lP n items hn hio,Option.bind_some,he,if_neg (by simp),pu l hl,Option.bind_some,h1];rfl
section
section
variable {n:Net} {items:List (List Item)}
end
theorem uW {l:List Item} (h:dep0 l=true):l.map aS=l:=by
 conv=>rhs;rw [<- List.map_id l]
 refine List.map_congr_left fun x hx=>?_
 have:=List.all_eq_true.1 h x hx;simp at this;cases x;simp [aS] at this ⊢;exact this.symm
end
theorem zo (l:List (List Item)) (p:List Item) (hl:l.length<=1000000) (hr:∀ a,a∈l->a.length<=9223372036854775807) :
    ∃ (i:Int) (b:Bool),gW l p=some (i,b)/\(b=true->∃ x,x∈l/\cfR x p=0):=by
  unfold gW
  obtain ⟨r,h1,h2⟩:=lx (body:=fun ss:Int × Int=>gU l p ss.1 ss.2)
    (fun s=>0<=s.1/\s.1<=s.2/\s.2<=(l.length:Int)) (fun s=>(s.2 - s.1).toNat)
    (fun r=>r.2=true->∃ x,x∈l/\cfR x p=0) (fun s hb=>by
      obtain ⟨s1,s2⟩:=s;simp only at hb ⊢;unfold gU;by_cases hlt:s1<s2
      · rw [if_pos (by simpa using hlt)];have e1:shr .u64 (IntKind.u64.wrap (IntKind.i64.wrap (s1+s2))) 1=some ((s1+s2) / 2):=by
          rw [bl (by omega) (by omega),IntWalk.u64_in _ ⟨by omega,by omega⟩];unfold shr;rw [if_pos (by decide)];congr 1;show (s1+s2).fdiv 2=_;rw [Int.fdiv_eq_ediv_of_nonneg _ (by decide)]
        rw [e1,Option.bind_some];obtain ⟨h,hh⟩:∃ h:Nat,(s1+s2) / 2=(h:Int):=Int.eq_ofNat_of_zero_le (by omega);have hhl:h<l.length:=by omega
        have hx:l[h]?=some l[h]:=List.getElem?_eq_getElem hhl;have hxr:=hr _ (List.getElem_mem hhl);have e2:IntKind.i64.wrap (h:Int)=(h:Int):=bl (by omega) (by omega);have e4:IntKind.i64.wrap ((h:Int)+1)=(h:Int)+1:=bl (by omega) (by omega);rw [hh,e2,aN hx,Option.bind_some,nA _ _ hxr,Option.bind_some,e4];refine .inl ?_;by_cases hk:cfR l[h] p<0
        · rw [if_pos (by simpa using hk)];exact ⟨((h:Int)+1,s2),rfl,⟨by show 0<=(h:Int)+1;omega,by show (h:Int)+1<=s2;omega,hb.2.2⟩,by show (s2 - ((h:Int)+1)).toNat<(s2 - s1).toNat;omega⟩
        · rw [if_neg (by simpa using hk)];exact ⟨(s1,(h:Int)),rfl,⟨hb.1,by show s1<=(h:Int);omega,by show (h:Int)<=_;omega⟩,by show ((h:Int) - s1).toNat<(s2 - s1).toNat;omega⟩
      · rw [if_neg (by simpa using hlt)];refine .inr ?_;obtain ⟨k,rfl⟩:=Int.eq_ofNat_of_zero_le hb.1;by_cases hk:k<l.length
        · have hx:l[k]?=some l[k]:=List.getElem?_eq_getElem hk;rw [if_pos (by simp;omega),aN hx,Option.bind_some,nA _ _ (hr _ (List.getElem_mem hk))];refine ⟨_,rfl,fun hp=>⟨l[k],List.getElem_mem hk,?_⟩⟩;simpa using hp
        · rw [if_neg (by simp;omega)];exact ⟨_,rfl,fun hp=>by simp at hp⟩) _ (0,(l.length:Int)) (Nat.le_refl _) ⟨by simp,by simp,by simp⟩
  exact ⟨r.1,r.2,h1,h2⟩
theorem tE (l:List Item):dep0 (l.map aS)=true:=by
 unfold dep0;rw [List.all_eq_true];intro x hx;obtain ⟨y,_,rfl⟩:=List.mem_map.1 hx;rfl
theorem BR {n:Net} {items:List (List Item)} (hn:n.Nodes.length<=1099511627776) (hio:∀ x∈n.Nodes,x.In.length<=1099511627776/\x.Out.length<=1099511627776) (h:(cy n items).2=0) (l:List Item) (hl:l.length<=2000) :
  eJ n items l=some (decide (l.map aS∈(cy n items).1),0):=by
 obtain ⟨b,hc,hb⟩:=De hn hio h l hl
 obtain ⟨hsrc,w,hw,he,ho,hlen⟩:=pL hio h
 have hr:=pp ho
 have hp:=d8 w.out
 have hcl:=oX (ce w.out)
 rw [hp.length_eq] at hcl
 obtain ⟨i,b',h1,h2⟩:=zo (co (ce w.out)) (l.map aS) (by omega) (fun a ha=>by have:=hr.2 a ha;omega)
 have hbb:b'=b:=by
  have hc':=hc;unfold eJ at hc';rw [if_neg (by simp;omega),lP n items hn hio,Option.bind_some,he,if_neg (by simp),pu l hl,Option.bind_some,h1] at hc';simpa using hc'
 rw [hc]
 congr 2
 subst hbb
 cases hb':b' with
 | true =>
  obtain ⟨x,hx,e⟩:=h2 hb'
  have:=jQ x _ (hr.1 x (jG hx)) (tE l) e
  subst this
  rw [he]
  exact (decide_eq_true hx).symm
 | false =>
  refine (decide_eq_false fun hm=>?_).symm
  have:=hb hm
  rw [hb'] at this
  cases this
theorem Ct (a b:List Item) (ha:a.length<=1000000):kN a b=some (decide (a.map aS=b.map aS)):=by
 unfold kN lX;by_cases hl:a.length=b.length
 ·rw [if_neg (by simp;omega),AE a b (by omega) hl aS (fun k x y hx hy e1 e2 e3 e4=>by
   unfold ka mo;rw [e1,e2,e3,e4];simp only [if_true,Option.bind_some];by_cases h:x.Key=y.Key<;>by_cases h':x.Val=y.Val<;>simp [aS,h,h']) (fun h=>by
   unfold ka;rw [h];rfl)]
  rfl
 ·rw [if_pos (by simp;omega)];have:a.map aS≠b.map aS:=fun e=>hl (by have:=congrArg List.length e;simpa using this)
  simp [this]
theorem zO (l:List (List Item)) (a:List Item) (hl:l.length<=1000000) (ha:a.length<=1000000):∀ (m k:Nat),k+m=l.length ->
  ∃ j:Int,iter (fun s:Int=>fO l a s) (k:Int)=some j/\((∃ o,o∈l.drop k/\a.map aS=o.map aS) ↔ 0<=j):=by
 intro m
 induction m with
 | zero =>
  intro k hk
  have hk:k=l.length:=by omega
  subst hk
  have e:fO l a (l.length:Int)=some (.inr (-1)):=by
   unfold fO;rw [if_neg (by simp)];rfl
  rw [an];simp only [e]
  refine ⟨-1,rfl,⟨fun ⟨o,ho,_⟩=>?_,fun h=>absurd h (by decide)⟩⟩
  rw [List.drop_length] at ho
  cases ho
 | succ m ih =>
  intro k hk
  have hlt:k<l.length:=by omega
  have hg:l[k]?=some l[k]:=List.getElem?_eq_getElem hlt
  have e:fO l a (k:Int)=some (if a.map aS=l[k].map aS then .inr (k:Int) else .inl ((k+1:Nat):Int)):=by
   unfold fO l9;rw [if_pos (by simp;omega),bd hlt,Option.bind_some,hg,Option.bind_some,Ct a _ ha,Option.bind_some,Option.bind_some,aJ (by omega)];by_cases h:a.map aS=l[k].map aS
   ·rw [if_pos (by simpa using h),if_pos h];rfl
   ·rw [if_neg (by simpa using h),if_neg h]
  rw [an];simp only [e]
  rw [List.drop_eq_getElem_cons hlt]
  by_cases h:a.map aS=l[k].map aS
  ·rw [if_pos h]
   exact ⟨(k:Int),rfl,⟨fun _=>by omega,fun _=>⟨_,List.mem_cons_self,h⟩⟩⟩
  ·rw [if_neg h]
   obtain ⟨j,h1,h2⟩:=ih (k+1) (by omega)
   refine ⟨j,h1,⟨fun ⟨o,ho,hp⟩=>?_,fun hj=>?_⟩⟩
   ·rcases List.mem_cons.1 ho with rfl | ho
    ·exact absurd hp h
    ·exact h2.1 ⟨o,ho,hp⟩
   ·obtain ⟨o,ho,hp⟩:=h2.2 hj
    exact ⟨o,List.mem_cons_of_mem _ ho,hp⟩
theorem yk (l:List (List Item)) (a:List Item) (hl:l.length<=1000000) (ha:a.length<=1000000) (h0:∀ o,o∈l->dep0 o=true):kb l a=some (decide (a.map aS∈l)):=by
 obtain ⟨j,h1,h2⟩:=zO l a hl ha l.length 0 (by omega);rw [Int.natCast_zero] at h1;rw [List.drop_zero] at h2;unfold kb lY;rw [h1,Option.bind_some];congr 1;refine decide_eq_decide.2 ⟨fun hj=>?_,fun hm=>?_⟩
 ·obtain ⟨o,ho,e⟩:=h2.2 hj;rw [e,uW (h0 o ho)];exact ho
 ·exact h2.1 ⟨_,hm,(uW (tE a)).symm⟩
theorem yf (n:Net) (items:List (List Item)) (l:List Item) (hb:mNet n+(mL (mL mItem) items+(mL mItem l+0))<=1048576):mq n items l=some true:=by
 have hio:=Dm (show mNet n<=1048576 by omega);have hnl:n.Nodes.length<=mL eV n.Nodes:=nH (fun x=>by unfold eV;omega) _;have hnn:mL eV n.Nodes<=mNet n:=by unfold mNet;omega
 have hll:3*l.length<=mL mItem l:=by
  have:∀ l:List Item,3*l.length<=mL mItem l:=by
   intro l;induction l with
   | nil=>simp
   | cons a l ih=>rw [Dk];simp only [mItem,List.length_cons] at ih ⊢;omega
  exact this l
 have hcan:eJ n items l=some (if 2000<l.length then (false,2) else if (cy n items).2≠0 then (false,(cy n items).2) else (decide (l.map aS∈(cy n items).1),0)):=by
  by_cases h1:2000<l.length
  ·rw [if_pos h1];unfold eJ;rw [if_pos (by simp;omega)]
  ·rw [if_neg h1];by_cases h2:(cy n items).2=0
   ·rw [if_neg (fun e=>e h2)];exact BR (by omega) hio h2 l (by omega)
   ·rw [if_pos h2];unfold eJ;rw [if_neg (by simp;omega),lP n items (by omega) hio,Option.bind_some,if_pos (by simpa using h2)]
 unfold mq;rw [lP n items (by omega) hio,Option.bind_some,hcan,Option.bind_some,wU n items hio,Option.bind_some,zc,Option.bind_some,if_neg (by decide)];by_cases hsrc:aZ n items=0
 ·obtain ⟨r,hr,hr0,hE⟩:=Ax hio hsrc;rw [if_pos (by simpa using hsrc),hr,Option.bind_some];cases hok:r.2.2 with
  | false =>
   have hr1:=hr0 hok;rw [hok,if_neg (by decide),hr1] at hE;rw [if_pos (by decide),hE,hr1];unfold fc;by_cases h1:2000<l.length
   ·simp [h1]
   ·simp [h1]
  | true =>
   rw [hok,if_pos rfl] at hE;have h2:(cy n items).2=0:=by rw [hE]
   obtain ⟨_,w,hw,he,ho,hlen⟩:=pL hio h2;have hrr:r.1=co (ce w.out):=by rw [hE] at he;exact congrArg Prod.fst he
   have hrows:=pp ho;have hcl:=oX (ce w.out);rw [(d8 w.out).length_eq] at hcl;have heq:=ua r.1 r.1 (by rw [hrr];omega) (fun x hx=>by rw [hrr] at hx;have:=hrows.2 x hx;omega) rfl;have hcont:=yk r.1 l (by rw [hrr];omega) (by omega) (fun o ho=>by rw [hrr] at ho;exact hrows.1 o (jG ho));rw [if_neg (by decide),hE,hsrc];unfold fc;by_cases h1:2000<l.length
   ·have h1':(2000:Int)<l.length:=by omega
    simp [h1,h1',heq]
   ·have h1':¬ (2000:Int)<l.length:=by omega
    simp [h1,h1',heq,hcont]
 ·have hE:cy n items=([],aZ n items):=by unfold cy;rw [if_pos hsrc]
  rw [if_neg (by simpa using hsrc),hE];unfold fc;by_cases h1:2000<l.length
  ·simp [h1,hsrc];intro h;omega
  ·simp [h1,hsrc];intro h;omega
end Go.Proofs.YtoelnjpolhamfaaGreatDoor
namespace Go.Proofs.YtoelnjpolhamfaaGreatDoor.waysAllLaw
open Go.ChangeShapes Go.WideShapes Go.ChangeAt Go.RowKit
theorem own:ownKnob Tryz.prog.godebug=none:=by kernel_rfl
theorem laid:laidOutB Tryz.prog=true:=by kernel_rfl
theorem ok:(Tryz.f3.params.toList.all fun t=>Tryz.prog.readableRec t && decide (t<Tryz.prog.types.size))=true:=by kernel_rfl
set_option maxRecDepth 100000 in
theorem contract (H:Type) (enc:TypeId × Value->H) (W:World) (base:Nat) (args:Array Value) (ds gs:List (DataW H)) (before:List MemPlace)
  (hval:∀ (j:Nat) t v,Tryz.f3.params[j]?=some t->args[j]?=some v->Value.okWide Tryz.prog W .any base t v)
  (hW:DataW.Whole enc Tryz.prog Tryz.f3.params.toList Rows.waysAllSpec.vars false W args.toList ds gs before) (hk:Rows.uptoSmall H (ds++gs)=true) :
  Calls Tryz.prog 3 args W fun e W'=>∃ v,e=.returned v/\Rows.waysAllSpec.post enc Tryz.prog Tryz.f3 false true false false W args v W':=by
 have hW':=hW
 obtain ⟨p,q,hA0,hV,rfl,hfz,hnd⟩:=hW
 have hA:DataW.TrodAll enc Tryz.prog W 0 (fun _=>true) true Tryz.f3.params.toList args.toList ds p:=hA0
 rw [Tryz.params3] at hA hval
 obtain ⟨v0,vs0,d0,ds0,p0,q0,hargs,rfl,rfl,h0,r0⟩:=trodAll_cons hA
 obtain ⟨v1,vs1,d1,ds1,p1,q1,rfl,rfl,rfl,h1,r1⟩:=trodAll_cons r0
 obtain ⟨v2,vs2,d2,ds2,p2,q2,rfl,rfl,rfl,h2,r2⟩:=trodAll_cons r1
 obtain ⟨rfl,rfl,rfl⟩:=trodAll_nil r2
 obtain rfl:args=#[v0,v1,v2]:=by cases args;simp_all
 obtain ⟨rfl,rfl⟩:=trodVars_none hV
 obtain ⟨x0,a0,g0,m0⟩:=Opn.args on24 Tryz.underlying24 (hval 0 _ v0 rfl rfl) h0
 obtain ⟨x1,a1,g1,m1⟩:=Opn.arg on25 (by rw [Tryz.underlying25]) (hval 1 _ v1 rfl rfl) h1
 obtain ⟨x2,a2,g2,m2⟩:=Opn.arg on26 (by rw [Tryz.underlying26]) (hval 2 _ v2 rfl rfl) h2
 have hb:Rows.uptoBulkAll ([d0,d1,d2]:List (DataW H))<=1048576:=of_decide_eq_true hk
 simp only [Rows.uptoBulkAll] at hb
 refine A9 laid Tryz.underlying4 (by kernel_rfl) ok rfl rfl rfl rfl hW' (av:=[_,_,_]) (.cons a0 (.cons a1 (.cons a2 (.nil)))) (xi (yf x0 x1 x2 (by omega)))
set_option maxRecDepth 100000 in
def valOf:DataW Unit->Value
 | .lit (.int k x)=>.int k x
 | _=>.bool false
def putC (d:DataW Unit):Go.Obj->Go.Obj
 | .cells _ t frozen=>.cells (match d with | .agg l=>(l.map valOf).toArray | _=>#[]) t frozen
 | o=>o
def datum (x:String):DataW Unit:=((Rows.waysAllUptoRow.laid.find? fun p=>p.1==x).map (·.2)).getD .nil
noncomputable def laidWorld (os:Os):World :=
 { World.holding Tryz.prog os ⟨#[],#[],[]⟩ with heap:=((((World.holding Tryz.prog os ⟨#[],#[],[]⟩).heap.modify 0 (putC (datum "internal/strconv.uint64pow10"))).modify 1 (putC (datum "math/bits.deBruijn32tab"))).modify 2 (putC (datum "math/bits.deBruijn64tab"))) }
theorem laid_met (os:Os):laidMet Tryz.prog Rows.waysAllUptoRow.laid ((laidWorld os).forCall (fun _ _=>0) ⟨#[],#[.agg #[.slice none 0 0,.int .i64 0,.int .i64 0],.slice none 0 0,.slice none 0 0],[]⟩).memory :=
 laidMet_of_run' 8 (by kernel_rfl) (by kernel_rfl)
theorem reads (os:Os) {H:Type} (enc:TypeId × Value->H):∃ places,DataW.whole enc Tryz.prog ((laidWorld os).forCall (fun _ _=>0) ⟨#[],#[.agg #[.slice none 0 0,.int .i64 0,.int .i64 0],.slice none 0 0,.slice none 0 0],[]⟩).memory Tryz.f3.params.toList Rows.waysAllSpec.vars false #[.agg #[.slice none 0 0,.int .i64 0,.int .i64 0],.slice none 0 0,.slice none 0 0].toList 8=some ([.agg [.nil,.lit (.int .i64 0),.lit (.int .i64 0)],.nil,.nil],[],places) :=
 ⟨[],by kernel_rfl⟩
set_option maxRecDepth 100000 in
theorem lifted (os:Os) (started:os.Started) (H:Type) (enc:TypeId × Value->H) (F:Stop.Interp) :
  ReturnsInHanded {} Tryz.checked os 3 .any ((Rows.OpenSpec.upto Rows.waysAllSpec).preRow enc Tryz.prog Tryz.f3 Rows.waysAllUptoRow.domain false Rows.waysAllUptoRow.laid) (((Rows.OpenSpec.upto Rows.waysAllSpec).at F).post enc Tryz.prog Tryz.f3 false true false false):=by
 obtain ⟨places,hx⟩:=reads os enc
 refine returnsInHanded_of_row (C:=Tryz.checked) (s:=Rows.OpenSpec.upto Rows.waysAllSpec) own started (by kernel_rfl) Tryz.func3
  (witness_row_at (enc:=enc) (C:=Tryz.checked) false (laidWorld os) #[.agg #[.slice none 0 0,.int .i64 0,.int .i64 0],.slice none 0 0,.slice none 0 0] rfl (by kernel_rfl) (by kernel_rfl) (by kernel_rfl)
   (OpenSpec.preRow_of_cond 8 hx (by kernel_rfl) (fun k hk=>by cases hk;kernel_rfl) (by kernel_rfl) (laid_met os))) ?_
 intro W base args ds gs before hval hW _ hk _ hL _ _
 exact contract H enc W base args ds gs before hval hW (hk _ rfl)
theorem said:Rows.WaysAllUptoSaid :=
 OpenClaim.holds_of_cond 3 Tryz.f3 rfl rfl rfl rfl rfl rfl rfl ⟨rfl,rfl,rfl,rfl,rfl⟩ rfl rfl rfl rfl rfl (by kernel_rfl) Tryz.func3 (by kernel_rfl)
  (of_decide_eq_true (by kernel_rfl)) (by unfold Func.isWrapper;first | (rw [if_pos (by decide +kernel)];kernel_rfl) | (rw [if_neg (by decide +kernel)];exact ⟨rfl,rfl⟩))
  (fun os started H enc _ F=>by rw [OpenClaim.pre_eq_preRow];exact lifted os started H enc F)
theorem plain (f:FuncId) (fn:Func) (hf:Tryz.pinned.checked.prog.funcNamed "crossroads/crosslaw.WaysAll" = some f) (hfn:Tryz.pinned.checked.prog.funcs[f]?=some fn) :
  false=Tryz.pinned.checked.prog.looks []/\∀ (j:Nat) t,fn.params[j]?=some t->Tryz.pinned.checked.prog.wantsStandIn t=false:=by
 obtain rfl:f=3:=Option.some.inj ((show Tryz.prog.funcNamed "crossroads/crosslaw.WaysAll" = some 3 by kernel_rfl).symm.trans hf) |>.symm
 obtain rfl:fn=Tryz.f3:=(Option.some.inj (Tryz.func3.symm.trans hfn)).symm
 refine ⟨by kernel_rfl,fun j t ht=>?_⟩
 have h:(Tryz.f3.params.toList.all fun t=>!Tryz.prog.wantsStandIn t)=true:=by kernel_rfl
 have h:=List.all_eq_true.1 h t (by simpa using Array.mem_of_getElem? ht)
 exact (show Tryz.prog.wantsStandIn t=false by simpa using h)
theorem proved:Rows.WaysAllUptoCardSaid :=
 Claim7.holds_tied_plain_at .later [] _ _ _ _ said (fun _ h=>by cases h) (by kernel_rfl) (fun _ h=>by cases h) waysAllUpto_row_tie rfl ⟨rfl,rfl⟩ (by kernel_rfl) rfl plain (by kernel_rfl)
#print axioms proved
end Go.Proofs.YtoelnjpolhamfaaGreatDoor.waysAllLaw
