/-
  Part 4 of the proof of taleParseLaw.proved: the code computes these functions, and the law holds of them, with no condition beyond the statement's own; put together by a program of ours (wip/decl.py) out of texts of ours.
-/
import Derived.Lib.LaidTab
import Derived.Stop.LaidErr
import Derived.Test.YtbfncjgaklimlaaGreatDoorCards
import Derived.Test.YtbfncjgaklimlaaGreatDoorTie
import Derived.Deep.DeepHandedRow
import Derived.Test.YtbfncjgaklimlaaGreatDoorZTaleParse3
set_option linter.unusedVariables false
set_option linter.unusedSimpArgs false
namespace Go.Proofs.YtbfncjgaklimlaaGreatDoor
theorem nR (R i:Int) (hi:0<=i):∀ (rs:List Int) (l l1:List Ends),(l.length:Int)=R->cq R i rs l=.inr l1 ->
  (∀ r∈rs,0<=r/\r<R/\∀ e,l[r.toNat]?=some e->e.dst<0)/\rs.Nodup/\∀ j:Nat,l1[j]?=if (j:Int)∈rs then (l[j]?).map (fun e=>⟨e.src,i⟩) else l[j]?
 | [],l,l1,hl,h=>by cases h;simp
 | r :: rs,l,l1,hl,h=>by
  unfold cq at h;split at h
  ·cases h
  ·rename_i hr;split at h
   ·cases h
   ·rename_i e he;split at h
    ·cases h
    ·rename_i hd;have hlt:r.toNat<l.length:=(zK.1 he).1;obtain ⟨h1,h2,h3⟩:=nR R i hi rs _ l1 (by grind) h;have hnot:r ∉ rs:=fun hm=>by
      grind
     refine ⟨fun q hq=>?_,A8.2 ⟨hnot,h2⟩,fun j=>?_⟩
     ·rcases AT.1 hq with rfl | hq
      ·grind
      ·obtain ⟨a,b,c⟩:=h1 q hq;refine ⟨a,b,fun e' he'=>?_⟩;have hne:q≠r:=fun e=>hnot (e▸hq)
       exact c e' (by rw [zV,if_neg (by omega)];exact he')
     ·rw [h3 j,zV];by_cases hj:(j:Int)=r
      ·have hjr:r.toNat=j:=by omega
       grind
      ·have hjr:¬ r.toNat=j:=by omega
       simp_all
theorem nH (R i:Int) (hi:0<=i):∀ (rs:List Int) (l l1:List Ends),(l.length:Int)=R->bR R i rs l=.inr l1 ->
  (∀ r∈rs,0<=r/\r<R/\∀ e,l[r.toNat]?=some e->e.src<0)/\rs.Nodup/\∀ j:Nat,l1[j]?=if (j:Int)∈rs then (l[j]?).map (fun e=>⟨i,e.dst⟩) else l[j]?
 | [],l,l1,hl,h=>by cases h;simp
 | r :: rs,l,l1,hl,h=>by
  unfold bR at h;split at h
  ·cases h
  ·rename_i hr;split at h
   ·cases h
   ·rename_i e he;split at h
    ·cases h
    ·rename_i hd;have hlt:r.toNat<l.length:=(zK.1 he).1;obtain ⟨h1,h2,h3⟩:=nH R i hi rs _ l1 (by grind) h;have hnot:r ∉ rs:=fun hm=>by
      grind
     refine ⟨fun q hq=>?_,A8.2 ⟨hnot,h2⟩,fun j=>?_⟩
     ·rcases AT.1 hq with rfl | hq
      ·grind
      ·obtain ⟨a,b,c⟩:=h1 q hq;refine ⟨a,b,fun e' he'=>?_⟩;have hne:q≠r:=fun e=>hnot (e▸hq)
       exact c e' (by rw [zV,if_neg (by omega)];exact he')
     ·rw [h3 j,zV];by_cases hj:(j:Int)=r
      ·have hjr:r.toNat=j:=by omega
       grind
      ·have hjr:¬ r.toNat=j:=by omega
       simp_all
structure Looked (ns:List Node) (R:Int) (k:Nat) (l:List Ends):Prop where
 len:(l.length:Int)=R
 src:∀ (j:Nat) e,l[j]?=some e->(e.src<0∨∃ (i:Nat) (x:Node),i<k/\ns[i]?=some x/\e.src=i/\(j:Int)∈x.Out)
 dst:∀ (j:Nat) e,l[j]?=some e->(e.dst<0∨∃ (i:Nat) (x:Node),i<k/\ns[i]?=some x/\e.dst=i/\(j:Int)∈x.In)
 node:∀ (i:Nat) x,i<k->ns[i]?=some x->ck x=0/\x.In.Nodup/\x.Out.Nodup /\
  (∀ r∈x.In,0<=r/\r<R/\∃ e,l[r.toNat]?=some e/\e.dst=i)/\(∀ r∈x.Out,0<=r/\r<R/\∃ e,l[r.toNat]?=some e/\e.src=i)
theorem Looked.one {ns:List Node} {R:Int} {k:Nat} {l l1:List Ends} {x:Node} (h:Looked ns R k l) (hx:ns[k]?=some x) (ho:oneN R k x l=.inr l1):Looked ns R (k+1) l1:=by
 unfold oneN at ho;split at ho
 ·cases ho
 ·rename_i hne;split at ho
  ·cases ho
  ·rename_i l2 h2;have hl2:(l2.length:Int)=R:=by rw [lr R k _ _ _ h2];exact h.len
   obtain ⟨a1,a2,a3⟩:=nR R k (by omega) _ _ _ h.len h2;obtain ⟨b1,b2,b3⟩:=nH R k (by omega) _ _ _ hl2 ho;have hent:∀ (j:Nat) e1,l1[j]?=some e1->∃ e,l[j]?=some e/\e1.src=(if (j:Int)∈x.Out then (k:Int) else e.src)/\e1.dst=(if (j:Int)∈x.In then (k:Int) else e.dst):=fun j e1 he1=>by
    rw [b3 j,a3 j] at he1;cases hj:l[j]? with
    | none=>simp_all
    | some e =>
     rw [hj] at he1;refine ⟨e,rfl,?_⟩;split at he1<;>split at he1<;>cases he1<;>simp_all
   have hent2:∀ (j:Nat) e,l[j]?=some e->∃ e1,l1[j]?=some e1/\e1.src=(if (j:Int)∈x.Out then (k:Int) else e.src)/\e1.dst=(if (j:Int)∈x.In then (k:Int) else e.dst):=fun j e he=>by
    have hlt:j<l1.length:=by grind [jT]
    obtain ⟨e',h1,h3⟩:=hent j _ (zJ hlt);rw [he] at h1;cases h1;grind
   refine ⟨by grind [jT],fun j e1 he1=>?_,fun j e1 he1=>?_,fun i y hi hy=>?_⟩
   ·obtain ⟨e,he,hs,_⟩:=hent j e1 he1;by_cases hm:(j:Int)∈x.Out
    ·grind
    ·rw [if_neg hm] at hs;rw [hs];rcases h.src j e he with h1 | ⟨i,y,h1,h2,h3,h4⟩
     all_goals grind
   ·obtain ⟨e,he,_,hs⟩:=hent j e1 he1;by_cases hm:(j:Int)∈x.In
    ·grind
    ·rw [if_neg hm] at hs;rw [hs];rcases h.dst j e he with h1 | ⟨i,y,h1,h2,h3,h4⟩
     all_goals grind
   ·rcases Nat.lt_or_ge i k with hik | hik
    ·obtain ⟨c1,c2,c3,c4,c5⟩:=h.node i y hik hy;refine ⟨c1,c2,c3,fun r hr=>?_,fun r hr=>?_⟩
     ·obtain ⟨d1,d2,e,d3,d4⟩:=c4 r hr;refine ⟨d1,d2,?_⟩;obtain ⟨e1,f1,_,f2⟩:=hent2 _ e d3;have hnm:(r.toNat:Int) ∉ x.In:=fun hm=>by
       grind [Int.toNat_natCast]
      grind
     ·obtain ⟨d1,d2,e,d3,d4⟩:=c5 r hr;refine ⟨d1,d2,?_⟩;obtain ⟨e1,f1,f2,_⟩:=hent2 _ e d3;have hnm:(r.toNat:Int) ∉ x.Out:=fun hm=>by
       have hl2e:∃ e2,l2[r.toNat]?=some e2/\e2.src=e.src:=by rw [a3];split<;>simp [d3]
       obtain ⟨e2,g1,g2⟩:=hl2e;grind [Int.toNat_natCast]
      grind
    ·have hik:i=k:=by omega
     subst hik;rw [hx] at hy;cases hy;refine ⟨by omega,a2,b2,fun r hr=>?_,fun r hr=>?_⟩
     ·obtain ⟨d1,d2,_⟩:=a1 r hr;refine ⟨d1,d2,?_⟩;have hlt:r.toNat<l.length:=by have:=h.len;omega
      obtain ⟨e1,f1,_,f2⟩:=hent2 _ _ (zJ hlt);rw [if_pos (by grind [Int.toNat_of_nonneg])] at f2;grind
     ·obtain ⟨d1,d2,_⟩:=b1 r hr;refine ⟨d1,d2,?_⟩;have hlt:r.toNat<l.length:=by have:=h.len;omega
      obtain ⟨e1,f1,f2,_⟩:=hent2 _ _ (zJ hlt);rw [if_pos (by grind [Int.toNat_of_nonneg])] at f2;grind
theorem Looked.start (ns:List Node) (R:Nat):Looked ns R 0 (List.replicate R dy) :=
 ⟨by simp,fun j e he=>by rw [AI] at he;split at he<;>cases he;exact .inl (by decide),fun j e he=>by rw [AI] at he;split at he<;>cases he;exact .inl (by decide),fun i x hi=>by omega⟩
theorem n4 (ns:List Node) (R:Int):∀ (xs:List Node) (k s:Nat) (l:List Ends) (s1:Nat) (l1:List Ends),ns.drop k=xs->Looked ns R k l->cS R k xs s l=.inr (s1,l1) ->
  Looked ns R ns.length l1/\s1=s+(xs.filter (fun x=>decide (x.Kind=8))).length
 | [],k,s,l,s1,l1,hd,h,hn=>by
  cases hn;have hk:ns.length<=k:=List.drop_eq_nil_iff.1 hd;refine ⟨⟨h.len,fun j e he=>?_,fun j e he=>?_,fun i x hi hx=>h.node i x (by omega) hx⟩,by simp⟩
  ·rcases h.src j e he with h1 | ⟨i,y,h1,h2,h3⟩
   all_goals grind
  ·rcases h.dst j e he with h1 | ⟨i,y,h1,h2,h3⟩
   all_goals grind
 | x::xs,k,s,l,s1,l1,hd,h,hn=>by
  have hx:ns[k]?=some x:=by have:=congrArg (fun l=>l[0]?) hd;grind
  have hd2:ns.drop (k+1)=xs:=by have:=congrArg (List.drop 1) hd;grind [List.drop_drop]
  unfold cS at hn;split at hn
  ·cases hn
  ·rename_i l2 h2;obtain ⟨a,b⟩:=n4 ns R xs (k+1) _ l2 s1 l1 hd2 (h.one hx h2) hn;grind
structure NetL (n:Net) (l:List Ends):Prop where
 n1:1<=n.Nodes.length
 n2:n.Nodes.length<=12
 r1:0<=n.Rings
 r2:n.Rings<=16
 m1:1<=n.Room
 m2:n.Room<=6
 len:(l.length:Int)=n.Rings
 src:∀ (j:Nat) e,l[j]?=some e->∃ (i:Nat) (x:Node),n.Nodes[i]?=some x/\e.src=i/\(j:Int)∈x.Out
 dst:∀ (j:Nat) e,l[j]?=some e->∃ (i:Nat) (x:Node),n.Nodes[i]?=some x/\e.dst=i/\(j:Int)∈x.In
 err:∀ (i:Nat) x,n.Nodes[i]?=some x->ck x=0
 ndI:∀ (i:Nat) x,n.Nodes[i]?=some x->x.In.Nodup
 ndO:∀ (i:Nat) x,n.Nodes[i]?=some x->x.Out.Nodup
 inn:∀ (i:Nat) x,n.Nodes[i]?=some x->∀ r∈x.In,0<=r/\r<n.Rings/\∃ e,l[r.toNat]?=some e/\e.dst=i
 out:∀ (i:Nat) x,n.Nodes[i]?=some x->∀ r∈x.Out,0<=r/\r<n.Rings/\∃ e,l[r.toNat]?=some e/\e.src=i
 sink:(n.Nodes.filter (fun x=>decide (x.Kind=8))).length=1
theorem lF {n:Net} {l:List Ends} (h:dA n=.inr l):NetL n l:=by
 unfold dA at h;split at h
 ·cases h
 ·rename_i h1;split at h
  ·cases h
  ·rename_i h2;split at h
   ·cases h
   ·rename_i s l' hn;split at h
    ·cases h
    ·rename_i hany;split at h
     ·cases h
     ·rename_i hs;cases h;have hst:=Looked.start n.Nodes n.Rings.toNat;rw [AH (by omega)] at hst;obtain ⟨a,b⟩:=n4 n.Nodes n.Rings n.Nodes 0 0 _ s l (by simp) hst hn;have hpos:∀ (j:Nat) e,l[j]?=some e->¬ e.src<0/\¬ e.dst<0:=fun j e he=>by
       grind
      refine ⟨by omega,by omega,by omega,by omega,by omega,by omega,a.len,fun j e he=>?_,fun j e he=>?_,fun i x hx=>(a.node i x (zK.1 hx).1 hx).1,fun i x hx=>(a.node i x (zK.1 hx).1 hx).2.1,fun i x hx=>(a.node i x (zK.1 hx).1 hx).2.2.1,fun i x hx=>(a.node i x (zK.1 hx).1 hx).2.2.2.1,fun i x hx=>(a.node i x (zK.1 hx).1 hx).2.2.2.2,by omega⟩
      ·rcases a.src j e he with h3 | ⟨i,y,_,h4⟩
       all_goals grind
      ·rcases a.dst j e he with h3 | ⟨i,y,_,h4⟩
       all_goals grind
section
def bV (ok:Nat->Bool):Nat->Nat->Option Nat
 | 0,_=>none
 | m+1,k=>if ok k then some k else bV ok m (k+1)
theorem nz {ok:Nat->Bool}:∀ {m k i:Nat},bV ok m k=some i->k<=i/\i<k+m/\ok i=true
 | 0,k,i,h=>by cases h
 | m+1,k,i,h=>by
  unfold bV at h;split at h
  ·grind
  ·obtain ⟨a,b,c⟩:=nz h;grind
theorem nx {ok:Nat->Bool}:∀ (m k:Nat),bV ok (m+1) k=match bV ok m k with | some i=>some i | none=>if ok (k+m) then some (k+m) else none
 | 0,k=>by simp [bV]
 | m+1,k=>by
  rw [bV,nx m (k+1)];by_cases h:ok k=true
  ·simp [bV,h]
  ·rw [if_neg h,bV,if_neg h];grind
def lastD (ok:Nat->Bool):Nat->Int->Int
 | 0,b=>b
 | k+1,b=>lastD ok k (if ok k then (k:Int) else b)
theorem oC {ok:Nat->Bool}:∀ (k:Nat) (b:Int),lastD ok k b=match bV ok k 0 with | some i=>(i:Int) | none=>b
 | 0,b=>rfl
 | k+1,b=>by rw [lastD,oC k,nx];grind
def fedN (l:List Ends) (out:List Nat) (x:Node):Bool:=x.In.all fun r=>match l[r.toNat]? with | some e=>out.contains e.src.toNat | none=>false
def okN (l:List Ends) (out:List Nat) (ns:List Node) (i:Nat):Bool:=!(out.contains i) && (match ns[i]? with | some x=>fedN l out x | none=>false)
def ordN (l:List Ends) (ns:List Node):Nat->List Nat->Option (List Nat)
 | 0,out=>some out
 | m+1,out=>match bV (okN l out ns) ns.length 0 with
  | none=>none
  | some i=>ordN l ns m (out++[i])
def netR (n:Net):List Int × Int:=match dA n with
 | .inl e=>([],e)
 | .inr l=>match ordN l n.Nodes n.Nodes.length [] with
  | none=>([],7)
  | some out=>(out.map (fun i:Nat=>(i:Int)),0)
def bh (N:Nat) (out:List Nat):List Bool:=(List.range N).map fun i=>out.contains i
theorem gI {N:Nat} {out:List Nat} {i:Nat} (h:i<N):(bh N out)[i]?=some (out.contains i):=by grind [bh]
theorem iD {N:Nat} {out:List Nat}:(bh N out).length=N:=by simp [bh]
theorem tI {N:Nat} {out:List Nat} {i:Nat} (h:i<N):(bh N out).set i true=bh N (out++[i]):=by
 apply Ap;intro j;rw [zV,iD];by_cases hj:j<N
 ·rw [gI hj];by_cases hij:i=j
  ·simp_all [gI]
  ·rw [if_neg hij,gI hj];grind
 simp_all [iD]
theorem uC (N:Nat):List.replicate N false=bh N []:=by
 apply Ap;intro j;rw [AI];by_cases hj:j<N
 ·simp_all [gI]
 simp_all [iD]
theorem u3 {n:Net} (out:List Nat) (ho:out.length<=12) (z:Option Nat) (hz:∀ i,z=some i->i<n.Nodes.length):fG (out.map (fun i:Nat=>(i:Int))) (bh n.Nodes.length out) (match z with | some i=>(i:Int) | none => -1)=match z with
  | some i=>some (.inl ((out++[i]).map (fun i:Nat=>(i:Int)),bh n.Nodes.length (out++[i])))
  | none=>some (.inr ([],7)):=by
 unfold fG
 cases z with
 | none=>rfl
 | some i =>
  have hi:=hz i rfl
  simp only
  rw [if_neg (by simp)]
  have e1:ixN (bh n.Nodes.length out) (i:Int)=some i:=by simp_all [ixN,iD]
  grind [gI,f8,tI]
section
variable {n:Net} {l:List Ends} (hn:NetL n l)
include hn
theorem qH {j:Nat} {e:Ends} (h:l[j]?=some e):0<=e.src/\e.src.toNat<n.Nodes.length:=by obtain ⟨i,x,h1,h2,_⟩:=hn.src j e h;grind
theorem uD {i:Nat} {x:Node} (hx:n.Nodes[i]?=some x) (out:List Nat) {r:Int} (hr:r∈x.In) :
  ip r (bh n.Nodes.length out) l=some (!(match l[r.toNat]? with | some e=>out.contains e.src.toNat | none=>false)):=by
 obtain ⟨h1,h2,e,h3,_⟩:=hn.inn i x hx r hr
 have hlt:=(zK.1 h3).1
 obtain ⟨h4,h5⟩:=qH hn h3
 simp_all [ixN,bh,ip]
theorem sV {i:Nat} {x:Node} (hx:n.Nodes[i]?=some x) (out:List Nat) (hl:x.In.length<=1099511627776):gn x.In (bh n.Nodes.length out) l=some (!fedN l out x):=by
 unfold gn jr;have:=lf (σ:=Unit) x.In hl (fun k _=>(k:Int)) (body:=fun ss=>gm x.In (bh n.Nodes.length out) l ss)
  (fun k r _=>if (match l[r.toNat]? with | some e=>out.contains e.src.toNat | none=>false)=false then some (.inr (k:Int)) else some (.inl ())) (fun _=>some (-1)) ()
  (fun k r _ hk hlt h1 h2 h3=>by unfold gm;rw [h2,h1,h3];simp only [if_true,zI];grind [uD])
  (fun _ h=>by simp [gm])
 simp only [AB] at this;rw [this];have key:∀ (ys:List Int) (k:Nat),∃ v:Int,di (σ:=Unit) (fun k r _=>if (match l[r.toNat]? with | some e=>out.contains e.src.toNat | none=>false)=false then some (.inr (k:Int)) else some (.inl ())) (fun _=>some (-1:Int)) k ys ()=some v /\
   decide (v >= 0)=!(ys.all fun r=>match l[r.toNat]? with | some e=>out.contains e.src.toNat | none=>false):=by
  intro ys
  induction ys with
  | nil=>intro k;exact ⟨-1,rfl,by simp⟩
  | cons y ys ih =>
   intro k
   unfold di
   by_cases h:(match l[y.toNat]? with | some e=>out.contains e.src.toNat | none=>false)=false
   ·simp_all
   simp_all
 obtain ⟨v,h1,h2⟩:=key x.In 0;rw [h1,zI,h2];rfl
theorem oz (hio:∀ x∈n.Nodes,x.In.length<=1099511627776) (q:Int) (out:List Nat) (ho:out.length<=12):∀ (m k:Nat),k+m=n.Nodes.length ->
  iter (fun ss:Int=>eP n (l,q) (out.map (fun i:Nat=>(i:Int))) (bh n.Nodes.length out) ss) (k:Int)=match bV (okN l out n.Nodes) m k with
   | some i=>some (.inl ((out++[i]).map (fun i:Nat=>(i:Int)),bh n.Nodes.length (out++[i])))
   | none=>some (.inr ([],7))
 | 0,k,h=>by
  have hk:k=n.Nodes.length:=by omega
  subst hk;have:eP n (l,q) (out.map (fun i:Nat=>(i:Int))) (bh n.Nodes.length out) (n.Nodes.length:Int)=some (.inr (.inr ([],7))):=by unfold eP;rw [if_neg (by simp)];rfl
  rw [aL,this];rfl
 | m+1,k,h=>by
  have hlt:k<n.Nodes.length:=by omega
  have hn2:=hn.n2;have hx:n.Nodes[k]?=some n.Nodes[k]:=zJ hlt;have e1:ixN (bh n.Nodes.length out) (k:Int)=some k:=by simp_all [ixN,iD]
  have hstep:eP n (l,q) (out.map (fun i:Nat=>(i:Int))) (bh n.Nodes.length out) (k:Int)=if okN l out n.Nodes k then some (.inr (.inl ((out++[k]).map (fun i:Nat=>(i:Int)),bh n.Nodes.length (out++[k])))) else some (.inl ((k+1:Nat):Int)):=by
   unfold eP;rw [if_pos (by simp;omega),bw hx,zI];simp only [e1,zI,gI hlt];have hok:okN l out n.Nodes k=(!(out.contains k) && fedN l out n.Nodes[k]):=by unfold okN;rw [hx]
   have hin:(if (!(out.contains k))=true then (gn n.Nodes[k].In (bh n.Nodes.length out) l).bind fun x12=>some (!x12) else some false)=some (okN l out n.Nodes k):=by grind [sV]
   rw [hin,zI,bq (by omega)];by_cases hb:okN l out n.Nodes k=true
   ·rw [if_pos hb,if_pos hb];have:=u3 (n:=n) out ho (some k) (fun i e=>by grind);grind
   grind
  rw [aL,hstep,bV];by_cases hb:okN l out n.Nodes k=true
  ·grind
  ·simp only [if_neg hb];exact oz hio q out ho m (k+1) (by omega)
theorem oD (hio:∀ x∈n.Nodes,x.In.length<=1099511627776) (q:Int):∀ (m:Nat) (out:List Nat),out.length+m=n.Nodes.length ->
  iter (fun ss:List Int × List Bool=>eQ n (l,q) ss.1 ss.2) (out.map (fun i:Nat=>(i:Int)),bh n.Nodes.length out)=some (match ordN l n.Nodes m out with
   | none=>([],7)
   | some out=>(out.map (fun i:Nat=>(i:Int)),0))
 | 0,out,h=>by
  have:eQ n (l,q) (out.map (fun i:Nat=>(i:Int))) (bh n.Nodes.length out)=some (.inr (out.map (fun i:Nat=>(i:Int)),0)):=by simp_all [eQ]
  grind [aL,ordN]
 | m+1,out,h=>by
  have hstep:eQ n (l,q) (out.map (fun i:Nat=>(i:Int))) (bh n.Nodes.length out)=match bV (okN l out n.Nodes) n.Nodes.length 0 with
   | some i=>some (.inl ((out++[i]).map (fun i:Nat=>(i:Int)),bh n.Nodes.length (out++[i])))
   | none=>some (.inr ([],7)):=by
   unfold eQ
   rw [if_pos (by simp;omega)]
   have:=oz hn hio q out (by have:=hn.n2;omega) n.Nodes.length 0 (by omega)
   omega
  rw [aL];simp only [hstep,ordN];cases bV (okN l out n.Nodes) n.Nodes.length 0 with
  | none=>rfl
  | some i =>
   simp only;exact oD hio q m (out++[i]) (by simp;omega)
end
theorem pf (R i:Int):∀ (rs:List Int) (l:List Ends),cq R i rs l≠.inl 0
 | [],l,h=>by cases h
 | r::rs,l,h=>by
  unfold cq at h;split at h
  ·grind
  ·split at h
   ·grind
   ·split at h
    ·grind
    ·exact pf R i rs _ h
theorem oA (R i:Int):∀ (rs:List Int) (l:List Ends),bR R i rs l≠.inl 0
 | [],l,h=>by cases h
 | r::rs,l,h=>by
  unfold bR at h;split at h
  ·grind
  ·split at h
   ·grind
   ·split at h
    ·grind
    ·exact oA R i rs _ h
theorem v8 (R:Int) (i:Nat) (x:Node) (l:List Ends):oneN R i x l≠.inl 0:=fun h=>by grind [oneN,pf,oA]
theorem ou (R:Int):∀ (xs:List Node) (k s:Nat) (l:List Ends),cS R k xs s l≠.inl 0
 | [],k,s,l,h=>by cases h
 | x::xs,k,s,l,h=>by
  unfold cS at h;split at h
  ·grind [v8]
  ·exact ou R xs _ _ _ h
theorem ox (n:Net):dA n≠.inl 0:=fun h=>by grind [dA,ou]
theorem r4 (n:Net) (hio:∀ x∈n.Nodes,x.In.length<=1099511627776/\x.Out.length<=1099511627776):iF n=some (netR n):=by
 unfold iF netR;rw [sB n hio,zI];cases h:dA n with
 | inl e =>
  simp only;have he:e≠0:=fun e0=>ox n (e0▸h)
  grind
 | inr l =>
  simp only;have hn:=lF h;rw [if_neg (by simp)];have hmk:mk (n.Nodes.length:Int) false=some (bh n.Nodes.length []):=by unfold mk;rw [if_pos (by have:=hn.n2;omega),<- uC];rfl
  rw [hmk,zI];have:=oD hn (fun x hx=>(hio x hx).1) 0 n.Nodes.length [] (by simp);grind
theorem nh (n:Net) (hio:∀ x∈n.Nodes,x.In.length<=1099511627776/\x.Out.length<=1099511627776):d6 n=some (netR n).2:=by grind [d6,r4]
end
section
theorem nc {κ ν:Type} [DecidableEq κ] (k:κ) (v:ν):∀ m:List (κ × ν),mget k (mset k v m)=some v
 | []=>by simp [mset,mget]
 | p::r=>by
  unfold mset;split
  ·simp [mget]
  ·rename_i h;simp only [mget,if_neg h];exact nc k v r
theorem ng {κ ν:Type} [DecidableEq κ] {k k':κ} (v:ν) (hk:k≠k'):∀ m:List (κ × ν),mget k (mset k' v m)=mget k m
 | []=>by simp [mset,mget,hk]
 | p::r=>by
  unfold mset;split
  ·simp_all [mget]
  ·simp only [mget];rw [ng v hk r]
theorem nf {κ ν:Type} [DecidableEq κ] {k:κ} (v:ν):∀ {m:List (κ × ν)},mget k m=none->(mset k v m).length=m.length+1
 | [],_=>rfl
 | p::r,h=>by
  simp only [mget] at h;split at h
  ·cases h
  ·rename_i hk;simp only [mset,if_neg hk,zR];rw [nf v h]
structure MRi (v:List Int) (m:List (Int × Int)):Prop where
 len:m.length=v.countP (fun x=>decide (0<=x))
 get:∀ (j:Nat) x,v[j]?=some x->mget (j:Int) m=if x<0 then none else some x
theorem MRi.set {v:List Int} {m:List (Int × Int)} (h:MRi v m) {j:Nat} {x y:Int} (hx:v[j]?=some x) (h0:x<0) (h1:0<=y):MRi (v.set j y) (mset (j:Int) y m):=by
 have hlt:=(zK.1 hx).1;have hv:v[j]=x:=(zK.1 hx).2;have hn:mget (j:Int) m=none:=by rw [h.get j x hx,if_pos h0]
 refine ⟨?_,fun k z hz=>?_⟩
 ·rw [nf y hn,h.len,List.countP_set hlt,hv];grind
 ·rw [zV] at hz;by_cases hjk:j=k
  ·simp_all [nc]
  ·rw [if_neg hjk] at hz;rw [ng y (by omega)];exact h.get k z hz
theorem MRi.start (R:Nat):MRi (List.replicate R (-1)) []:=by
 refine ⟨?_,fun j x hx=>?_⟩
 ·grind
 ·rw [AI] at hx;split at hx<;>cases hx;rfl
theorem sr {l:List Ends} {j:Nat} {e:Ends} (i:Int) (h:l[j]?=some e):(l.set j ⟨i,e.dst⟩).map Ends.src=(l.map Ends.src).set j i/\(l.set j ⟨i,e.dst⟩).map Ends.dst=l.map Ends.dst:=by grind [List.map_set,List.set_getElem_self]
theorem sC {l:List Ends} {j:Nat} {e:Ends} (i:Int) (h:l[j]?=some e):(l.set j ⟨e.src,i⟩).map Ends.dst=(l.map Ends.dst).set j i/\(l.set j ⟨e.src,i⟩).map Ends.src=l.map Ends.src:=by grind [List.map_set,List.set_getElem_self]
theorem qA (n:Net) (s i:Nat) (x:Node) (to:List (Int × Int)) (hx:x.Out.length<=1099511627776) (hi:i<=12) (hs:s<=12) (hR:n.Rings<=16) :
  ∀ (m k:Nat) (l:List Ends) (fr:List (Int × Int)),k+m=x.Out.length->(l.length:Int)=n.Rings->MRi (l.map Ends.src) fr ->
  match bR n.Rings i (x.Out.drop k) l with
   | .inl e=>iter (fun ss:Int × List (Int × Int)=>dG n s i x to ss.1 ss.2) ((k:Int),fr)=some (.inr ([],e))
   | .inr l1=>∃ fr1,MRi (l1.map Ends.src) fr1/\l1.map Ends.dst=l.map Ends.dst/\iter (fun ss:Int × List (Int × Int)=>dG n s i x to ss.1 ss.2) ((k:Int),fr)=some (.inl (((if x.Kind=8 then s+1 else s:Nat):Int),((i+1:Nat):Int),fr1,to))
 | 0,k,l,fr,h,hl,hm=>by
  have hk:k=x.Out.length:=by omega
  subst hk;rw [AX];simp only [bR];refine ⟨fr,hm,trivial,?_⟩;have hstep:dG n s i x to (x.Out.length:Int) fr=some (.inr (.inl (((if x.Kind=8 then s+1 else s:Nat):Int),((i+1:Nat):Int),fr,to))):=by unfold dG;rw [if_neg (by simp),bq (by omega),bq (by omega)];grind
  grind [aL]
 | m+1,k,l,fr,h,hl,hm=>by
  have hlt:k<x.Out.length:=by omega
  rw [zY hlt,aL];have hstep:dG n s i x to (k:Int) fr=if x.Out[k]<0∨n.Rings<=x.Out[k] then some (.inr (.inr ([],3))) else if (mget x.Out[k] fr).isSome then some (.inr (.inr ([],6))) else some (.inl (((k+1:Nat):Int),mset x.Out[k] i fr)):=by unfold dG;rw [if_pos (by simp;omega),bw (zJ hlt),zI,bq (by omega)];simp
  simp only [bR,hstep];by_cases hr:x.Out[k]<0∨n.Rings<=x.Out[k]
  ·grind
  ·simp only [if_neg hr];have hrl:x.Out[k].toNat<l.length:=by omega
   have hge:=zJ hrl;have hge2:(l.map Ends.src)[x.Out[k].toNat]?=some l[x.Out[k].toNat].src:=by grind
   have hget:=hm.get _ _ hge2;have hc:((x.Out[k].toNat:Nat):Int)=x.Out[k]:=by omega
   rw [hc] at hget;simp only [hge];by_cases he:0<=l[x.Out[k].toNat].src
   ·grind
   ·rw [if_pos (by omega)] at hget;simp only [if_neg he,hget,Option.isSome_none,zO,if_false];obtain ⟨q1,q2⟩:=sr (i:Int) hge;have hm2:=hm.set (y:=(i:Int)) hge2 (by omega) (by omega);rw [hc,<- q1] at hm2;have:=qA n s i x to hx hi hs hR m (k+1) (l.set x.Out[k].toNat ⟨i,l[x.Out[k].toNat].dst⟩) (mset x.Out[k] i fr) (by omega) (by grind) hm2;grind
theorem qb (n:Net) (s i:Nat) (x:Node) (fr:List (Int × Int)) (hx:x.Out.length<=1099511627776) (hx2:x.In.length<=1099511627776) (hi:i<=12) (hs:s<=12) (hR:n.Rings<=16) :
  ∀ (m k:Nat) (l:List Ends) (to:List (Int × Int)),k+m=x.In.length->(l.length:Int)=n.Rings->MRi (l.map Ends.src) fr->MRi (l.map Ends.dst) to ->
  match (match cq n.Rings i (x.In.drop k) l with | .inl e=>Sum.inl e | .inr l1=>bR n.Rings i x.Out l1) with
   | .inl e=>iter (fun ss:Int × List (Int × Int)=>cZ n s i fr x ss.1 ss.2) ((k:Int),to)=some (.inr ([],e))
   | .inr l1=>∃ fr1 to1,MRi (l1.map Ends.src) fr1/\MRi (l1.map Ends.dst) to1/\iter (fun ss:Int × List (Int × Int)=>cZ n s i fr x ss.1 ss.2) ((k:Int),to)=some (.inl (((if x.Kind=8 then s+1 else s:Nat):Int),((i+1:Nat):Int),fr1,to1))
 | 0,k,l,to,h,hl,hm,hm2=>by
  have hk:k=x.In.length:=by omega
  subst hk;rw [AX];simp only [cq];have h1:=qA n s i x to hx hi hs hR x.Out.length 0 l fr (by omega) hl hm;simp only [A4,AB] at h1;have hstep:cZ n s i fr x (x.In.length:Int) to=Option.map Sum.inr (iter (fun ss:Int × List (Int × Int)=>dG n s i x to ss.1 ss.2) (0,fr)):=by simp [cZ]
  grind [aL]
 | m+1,k,l,to,h,hl,hm,hm2=>by
  have hlt:k<x.In.length:=by omega
  rw [zY hlt,aL];have hstep:cZ n s i fr x (k:Int) to=if x.In[k]<0∨n.Rings<=x.In[k] then some (.inr (.inr ([],3))) else if (mget x.In[k] to).isSome then some (.inr (.inr ([],6))) else some (.inl (((k+1:Nat):Int),mset x.In[k] i to)):=by unfold cZ;rw [if_pos (by simp;omega),bw (zJ hlt),zI,bq (by omega)];simp
  simp only [cq,hstep];by_cases hr:x.In[k]<0∨n.Rings<=x.In[k]
  ·grind
  ·simp only [if_neg hr];have hrl:x.In[k].toNat<l.length:=by omega
   have hge:=zJ hrl;have hge2:(l.map Ends.dst)[x.In[k].toNat]?=some l[x.In[k].toNat].dst:=by grind
   have hget:=hm2.get _ _ hge2;have hc:((x.In[k].toNat:Nat):Int)=x.In[k]:=by omega
   rw [hc] at hget;simp only [hge];by_cases he:0<=l[x.In[k].toNat].dst
   ·grind
   ·rw [if_pos (by omega)] at hget;simp only [if_neg he,hget,Option.isSome_none,zO,if_false];obtain ⟨q1,q2⟩:=sC (i:Int) hge;have hm3:=hm2.set (y:=(i:Int)) hge2 (by omega) (by omega);rw [hc,<- q1] at hm3;exact qb n s i x fr hx hx2 hi hs hR m (k+1) (l.set x.In[k].toNat ⟨l[x.In[k].toNat].src,i⟩) (mset x.In[k] i to) (by omega) (by grind) (by grind) hm3
theorem chk_A (x:Node) (h:bW x.Kind≠none):((decide (x.A<0)) || decide (x.A > ((mget x.Kind (mset 2 3 (mset 1 3 ([]:List (Int × Int))))).getD 0)))=badA x:=by
 have e:mset 2 3 (mset 1 3 ([]:List (Int × Int)))=[(1,3),(2,3)]:=by decide
 rw [e];unfold badA;by_cases h1:x.Kind=1
 ·rw [Bool.eq_iff_iff];grind [mget]
 ·by_cases h2:x.Kind=2
  ·simp_all [mget]
  ·rw [Bool.eq_iff_iff];grind [mget]
theorem vJ (n:Net) (s i:Nat) (x:Node) (hx:n.Nodes[i]?=some x) (hx1:x.Out.length<=1099511627776) (hx2:x.In.length<=1099511627776) (hi:i<n.Nodes.length) (hn:n.Nodes.length<=12) (hs:s<=12) (hR:n.Rings<=16) (l:List Ends) (fr to:List (Int × Int))
  (hl:(l.length:Int)=n.Rings) (hm:MRi (l.map Ends.src) fr) (hm2:MRi (l.map Ends.dst) to) :
  match oneN n.Rings i x l with
   | .inl e=>dH n s i fr to=some (.inr ([],e))
   | .inr l1=>∃ fr1 to1,MRi (l1.map Ends.src) fr1/\MRi (l1.map Ends.dst) to1/\dH n s i fr to=some (.inl (((if x.Kind=8 then s+1 else s:Nat):Int),((i+1:Nat):Int),fr1,to1)):=by
 have h2:=qb n s i x fr hx1 hx2 (by omega) hs hR x.In.length 0 l to (by omega) hl hm hm2
 simp only [A4,AB] at h2
 have k3:bW x.Kind≠none->cw n s i fr to x=if badA x=true then some (.inr ([],3)) else iter (fun ss:Int × List (Int × Int)=>cZ n s i fr x ss.1 ss.2) (0,to):=fun ha=>by grind [cw,chk_A]
 have fit:∀ (a b:Int),bW x.Kind=some (a,b)->∀ (p q:Option Bool),p=some (bx x.In.length a)->q=some (bx x.Out.length b) ->
   (Option.bind p fun x9=>Option.bind (if (!x9)=true then some true else Option.bind q fun x10=>some (!x10)) fun c11=>if c11=true then (Option.map Sum.inr (some ([],4))) else cw n s i fr to x)
    = (if ck x≠0 then (some (.inr ([],ck x)):Option ((Int × Int × (List (Int × Int)) × (List (Int × Int))) ⊕ ((List Int) × Int))) else iter (fun ss:Int × List (Int × Int)=>cZ n s i fr x ss.1 ss.2) (0,to)):=fun a b hab p q hp hq=>by
  grind [ck]
 have c1:∀ m:Nat,ce (m:Int)=some (bx m 1):=fun m=>by unfold ce bx;grind
 have c2:∀ m:Nat,fD (m:Int)=some (bx m (-1)):=fun m=>by unfold fD bx;simp_all<;>omega
 have c3:∀ m:Nat,gz (m:Int)=some (bx m 0):=fun m=>by unfold gz bx;grind
 have hl7:dH n s i fr to=if ck x≠0 then some (.inr ([],ck x)) else iter (fun ss:Int × List (Int × Int)=>cZ n s i fr x ss.1 ss.2) (0,to):=by
  unfold dH;rw [if_pos (by simp;omega),bw hx,zI];by_cases h1:x.Kind=1
  ·simp_all [bW]
  rw [if_neg (by simp [h1])];by_cases h2:x.Kind=2
  ·simp_all [bW]
  rw [if_neg (by simp [h2])];by_cases h3:x.Kind=3
  ·simp_all [bW]
  rw [if_neg (by simp [h3])];by_cases h4:x.Kind=4
  ·simp_all [bW]
  rw [if_neg (by simp [h4])];by_cases h5:x.Kind=5
  ·simp_all [bW]
  rw [if_neg (by simp [h5])];by_cases h7:x.Kind=7
  ·simp_all [bW]
  rw [if_neg (by simp [h7])];by_cases h6:x.Kind=6
  ·simp_all [bW]
  rw [if_neg (by simp [h6])];by_cases h8:x.Kind=8
  ·simp_all [bW]
  simp_all [ck,bW]
 unfold oneN
 grind
theorem m6 (out:List Nat) (ho:out.length<=12) (z:Int) (hz:0<=z):gw (out.map (fun i:Nat=>(i:Int))) z=some (out.contains z.toNat):=by
 unfold gw ju;have:=lf (σ:=Unit) (out.map (fun i:Nat=>(i:Int))) (by simp;omega) (fun k _=>(k:Int)) (body:=fun ss=>gy (out.map (fun i:Nat=>(i:Int))) z ss)
  (fun k r _=>if z=r then some (.inr (k:Int)) else some (.inl ())) (fun _=>some (-1)) ()
  (fun k r _ hk hlt h1 h2 h3=>by grind [gy])
  (fun _ h=>by simp [gy])
 simp only [AB] at this;rw [this];have key:∀ (ys:List Nat) (k:Nat),∃ v:Int,di (σ:=Unit) (fun k r _=>if z=r then some (.inr (k:Int)) else some (.inl ())) (fun _=>some (-1:Int)) k (ys.map (fun i:Nat=>(i:Int))) ()=some v/\decide (v >= 0)=ys.contains z.toNat:=by
  intro ys;induction ys with
  | nil=>intro k;exact ⟨-1,rfl,by simp⟩
  | cons y ys ih =>
   intro k;simp only [Ac,di];by_cases h:z=(y:Int)
   ·grind
   ·rw [if_neg h];simp only;obtain ⟨v,h1,h2⟩:=ih (k+1);grind
 obtain ⟨v,h1,h2⟩:=key out 0;grind
section
variable {n:Net} {l:List Ends} (hn:NetL n l) {fr:List (Int × Int)} (hm:MRi (l.map Ends.src) fr)
include hn hm
theorem qg (out:List Nat) (ho:out.length<=12) (best k:Int) {x:Node} {i:Nat} (hx:n.Nodes[i]?=some x) (hxl:x.In.length<=1099511627776):∀ (m j:Nat) (b:Bool),j+m=x.In.length ->
  iter (fun ss:Bool × Int=>eK fr (out.map (fun i:Nat=>(i:Int))) best k x ss.1 ss.2) (b,(j:Int))=some (.inl (if (b && (x.In.drop j).all fun r=>match l[r.toNat]? with | some e=>out.contains e.src.toNat | none=>false)=true then k else best,IntKind.i64.wrap (k - 1)))
 | 0,j,b,h=>by
  have hk:j=x.In.length:=by omega
  subst hk;have hstep:eK fr (out.map (fun i:Nat=>(i:Int))) best k x b (x.In.length:Int)=some (.inr (.inl (if b=true then k else best,IntKind.i64.wrap (k - 1)))):=by unfold eK;grind
  simp_all [aL]
 | m+1,j,b,h=>by
  have hlt:j<x.In.length:=by omega
  have hmem:x.In[j]∈x.In:=Aa hlt;obtain ⟨r0,r1,e,he,_⟩:=hn.inn i x hx _ hmem;obtain ⟨s0,_⟩:=qH hn he;have hge2:(l.map Ends.src)[x.In[j].toNat]?=some e.src:=by grind
  have hget:=hm.get _ _ hge2;rw [AH r0,if_neg (by omega)] at hget;have hstep:eK fr (out.map (fun i:Nat=>(i:Int))) best k x b (j:Int)=some (.inl (b && out.contains e.src.toNat,((j+1:Nat):Int))):=by unfold eK;rw [if_pos (by simp;omega),bw (zJ hlt),zI,bq (by omega),hget];cases b;all_goals (simp_all [m6])
  rw [aL];simp only [hstep];rw [qg out ho best k hx hxl m (j+1) _ (by omega),zY hlt,A5,he];grind
theorem qu (hio:∀ x∈n.Nodes,x.In.length<=1099511627776) (cnt:Nat) (hcnt:cnt<=12) (out:List Nat) (ho:out.length<=12):∀ (k:Nat) (best:Int),k<=n.Nodes.length ->
  iter (fun ss:Int × Int=>eL n fr (cnt:Int) (out.map (fun i:Nat=>(i:Int))) ss.1 ss.2) (best,(k:Int) - 1)=(if lastD (okN l out n.Nodes) k best<0 then some (.inr ([],7)) else some (.inl (((cnt+1:Nat):Int),out.map (fun i:Nat=>(i:Int))++[lastD (okN l out n.Nodes) k best])))
 | 0,best,_=>by
  have hstep:eL n fr (cnt:Int) (out.map (fun i:Nat=>(i:Int))) best (((0:Nat):Int) - 1)=some (.inr (if best<0 then .inr ([],7) else .inl (((cnt+1:Nat):Int),out.map (fun i:Nat=>(i:Int))++[best]))):=by unfold eL;rw [if_neg (by simp),bq (by omega),f8 (by simp;omega)];grind
  grind [aL,lastD]
 | k+1,best,hk=>by
  have hlt:k<n.Nodes.length:=by omega
  have hx:n.Nodes[k]?=some n.Nodes[k]:=zJ hlt;have hn2:=hn.n2;have hw:IntKind.i64.wrap ((k:Int) - 1)=(k:Int) - 1:=fV (by omega) (by omega);have hok:okN l out n.Nodes k=(!(out.contains k) && fedN l out n.Nodes[k]):=by unfold okN;rw [hx]
  have hstep:eL n fr (cnt:Int) (out.map (fun i:Nat=>(i:Int))) best (((k+1:Nat):Int) - 1)=some (.inl (if okN l out n.Nodes k=true then (k:Int) else best,(k:Int) - 1)):=by
   have e1:(((k+1:Nat):Int) - 1)=(k:Int):=by omega
   rw [e1];unfold eL;rw [if_pos (by simp),m6 out ho _ (by omega),zI,AS];by_cases hc:out.contains k=true
   ·grind
   ·rw [if_neg hc,bw hx,zI];have:=qg hn hm out ho best k hx (hio _ (Aa hlt)) n.Nodes[k].In.length 0 true (by omega);simp only [AB,A4,Bool.true_and] at this;rw [this,hw,hok];have hc':out.contains k=false:=by grind
    rw [hc'];rfl
  rw [aL];simp only [hstep,lastD];exact qu hio cnt hcnt out ho k _ (by omega)
theorem qq (hio:∀ x∈n.Nodes,x.In.length<=1099511627776):∀ (m:Nat) (out:List Nat),out.length+m=n.Nodes.length ->
  iter (fun ss:Int × List Int=>dW n fr ss.1 ss.2) ((out.length:Int),out.map (fun i:Nat=>(i:Int)))=some (match ordN l n.Nodes m out with
   | none=>([],7)
   | some out=>(out.map (fun i:Nat=>(i:Int)),0))
 | 0,out,h=>by
  have:dW n fr (out.length:Int) (out.map (fun i:Nat=>(i:Int)))=some (.inr (out.map (fun i:Nat=>(i:Int)),0)):=by simp_all [dW]
  grind [aL,ordN]
 | m+1,out,h=>by
  have hn2:=hn.n2;have hstep:dW n fr (out.length:Int) (out.map (fun i:Nat=>(i:Int)))=match bV (okN l out n.Nodes) n.Nodes.length 0 with
   | some i=>some (.inl (((out++[i]).length:Int),(out++[i]).map (fun i:Nat=>(i:Int))))
   | none=>some (.inr ([],7)):=by
   unfold dW
   rw [if_pos (by simp;omega),fV (by omega) (by omega),qu hn hm hio out.length (by omega) out (by omega) n.Nodes.length (-1) (by omega),oC]
   grind
  rw [aL];simp only [hstep,ordN];cases bV (okN l out n.Nodes) n.Nodes.length 0 with
  | none=>rfl
  | some i =>
   simp only;exact qq hio m (out++[i]) (by simp;omega)
end
theorem qd (n:Net) (hn:n.Nodes.length<=12) (hn1:1<=n.Nodes.length) (hR0:0<=n.Rings) (hR:n.Rings<=16) (hm1:1<=n.Room) (hm2':n.Room<=6) (hio:∀ x∈n.Nodes,x.In.length<=1099511627776/\x.Out.length<=1099511627776) :
  ∀ (m k s:Nat) (l:List Ends) (fr to:List (Int × Int)),k+m=n.Nodes.length->s<=k->(l.length:Int)=n.Rings->MRi (l.map Ends.src) fr->MRi (l.map Ends.dst) to ->
  (∀ s1 l1,cS n.Rings k (n.Nodes.drop k) s l=.inr (s1,l1)->¬ (l1.any (fun e=>decide (e.src<0∨e.dst<0))=true)->s1=1->NetL n l1) ->
  iter (fun ss:Int × Int × List (Int × Int) × List (Int × Int)=>dH n ss.1 ss.2.1 ss.2.2.1 ss.2.2.2) ((s:Int),(k:Int),fr,to)=some (match cS n.Rings k (n.Nodes.drop k) s l with
   | .inl e=>([],e)
   | .inr (s,l)=>if l.any (fun e=>decide (e.src<0∨e.dst<0)) then ([],9) else if s≠1 then ([],4) else match ordN l n.Nodes n.Nodes.length [] with
    | none=>([],7)
    | some out=>(out.map (fun i:Nat=>(i:Int)),0))
 | 0,k,s,l,fr,to,h,hs,hl,hm,hm2,hL=>by
  have hk:k=n.Nodes.length:=by omega
  subst hk;rw [AX] at hL ⊢;have hlen:∀ (f:Ends->Int) (mm:List (Int × Int)),MRi (l.map f) mm->((mm.length:Int)=n.Rings ↔ ∀ e∈l,0<=f e):=fun f mm hmm=>by have e1:=hmm.len;grind [List.countP_eq_length]
  have a1:=hlen _ _ hm;have a2:=hlen _ _ hm2;simp only [cS] at hL ⊢;have hany:(l.any (fun e=>decide (e.src<0∨e.dst<0))=true) ↔ ¬ ((fr.length:Int)=n.Rings/\(to.length:Int)=n.Rings):=by grind
  have hstep:dH n (s:Int) (n.Nodes.length:Int) fr to=Option.map Sum.inr (if (l.any (fun e=>decide (e.src<0∨e.dst<0)))=true then some ([],9) else if s≠1 then some ([],4) else iter (fun ss:Int × List Int=>dW n fr ss.1 ss.2) (0,[])):=by unfold dH;grind
  rw [aL];simp only [hstep];by_cases h1:l.any (fun e=>decide (e.src<0∨e.dst<0))=true
  ·grind
  ·simp only [if_neg h1];by_cases h2:s=1
   ·subst h2;have hnl:=hL 1 l rfl h1 rfl;have:=qq hnl hm (fun x hx=>(hio x hx).1) n.Nodes.length [] (by simp);grind
   grind
 | m+1,k,s,l,fr,to,h,hs,hl,hm,hm2,hL=>by
  have hlt:k<n.Nodes.length:=by omega
  have hx:n.Nodes[k]?=some n.Nodes[k]:=zJ hlt;obtain ⟨q1,q2⟩:=hio _ (Aa hlt);have hone:=vJ n s k n.Nodes[k] hx q2 q1 hlt hn (by omega) hR l fr to hl hm hm2;rw [zY hlt] at hL ⊢;simp only [cS] at hL ⊢;rw [aL];cases ho:oneN n.Rings k n.Nodes[k] l with
  | inl e =>
   grind
  | inr l1 =>
   rw [ho] at hone hL;obtain ⟨fr1,to1,r1,r2,r3⟩:=hone;simp only [r3];exact qd n hn hn1 hR0 hR hm1 hm2' hio m (k+1) _ l1 fr1 to1 (by omega) (by grind) (by grind [pm]) r1 r2 (by omega)
theorem rE (n:Net) (hio:∀ x∈n.Nodes,x.In.length<=1099511627776/\x.Out.length<=1099511627776):iq n=some (netR n):=by
 unfold iq netR;have hL:∀ l,dA n=.inr l->NetL n l:=fun l h=>lF h
 unfold dA at hL ⊢;by_cases h1:n.Nodes.length<1∨12<n.Nodes.length∨n.Rings<0∨16<n.Rings
 ·grind
 rw [if_neg (by grind),if_neg h1];rw [if_neg h1] at hL;by_cases h2:n.Room<1∨6<n.Room
 ·grind
 rw [if_neg (by simp;omega),if_neg h2];rw [if_neg h2] at hL;have:=qd n (by omega) (by omega) (by omega) (by omega) (by omega) (by omega) hio n.Nodes.length 0 0 (List.replicate n.Rings.toNat dy) [] [] (by omega) (by omega) (by simp;omega) (by simp [dy,MRi.start]) (by simp [dy,MRi.start]) (fun s1 l1 a b c=>by grind)
 grind
end
theorem pT {n:Net} (h:(netR n).2=0):∃ l out,dA n=.inr l/\NetL n l/\ordN l n.Nodes n.Nodes.length []=some out/\netR n=(out.map (fun i:Nat=>(i:Int)),0):=by grind [netR,ox,lF]
theorem pb (l:List Ends) (ns:List Node):∀ (m:Nat) (out o:List Nat),ordN l ns m out=some o->o.length=out.length+m
 | 0,out,o,h=>by cases h;rfl
 | m+1,out,o,h=>by
  unfold ordN at h;split at h
  ·cases h
  ·have:=pb l ns m _ o h;grind
theorem oq {l:List Ends} {ns:List Node}:∀ {m:Nat} {out o:List Nat},ordN l ns m out=some o->out.Nodup->(∀ x∈out,x<ns.length) ->
  o.Nodup/\(∀ x∈o,x<ns.length)/\out <+: o/\∀ (p i:Nat),out.length<=p->o[p]?=some i->okN l (o.take p) ns i=true
 | 0,out,o,h,h1,h2=>by
  cases h;grind
 | m+1,out,o,h,h1,h2=>by
  unfold ordN at h;split at h
  ·cases h
  ·rename_i i hi;obtain ⟨_,hlt,hok⟩:=nz hi;have hni:i ∉ out:=by
    simp_all [okN]
   obtain ⟨a,b,c,d⟩:=oq h (List.nodup_append.2 ⟨h1,by simp,by grind⟩) (fun x hx=>by grind)
   refine ⟨a,b,(List.prefix_append out [i]).trans c,fun p j hp hj=>?_⟩;by_cases hpe:p=out.length
   ·subst hpe;obtain ⟨t,ht⟩:=c;grind
   grind
theorem k7:∀ (N:Nat) (l:List Nat),l.Nodup->(∀ x∈l,x<N)->l.length<=N
 | 0,l,_,h=>by
  cases l with
  | nil=>simp
  | cons x l=>grind [List.mem_cons_self]
 | N+1,l,hd,h=>by
  have:=k7 N (l.erase N) (hd.erase N) (fun x hx=>by grind)
  grind
theorem uP {N:Nat} {l:List Nat} (hd:l.Nodup) (h:∀ x∈l,x<N) (hl:l.length=N) {i:Nat} (hi:i<N):i∈l:=by
 refine Classical.byContradiction fun hn=>?_
 have:=k7 N (i::l) (A8.2 ⟨hn,hd⟩) (fun x hx=>by grind)
 grind
structure OrdL (n:Net) (l:List Ends) (o:List Nat):Prop where
 nd:o.Nodup
 lt:∀ x∈o,x<n.Nodes.length
 len:o.length=n.Nodes.length
 fed:∀ (p i:Nat) (x:Node) (r:Int) (e:Ends),o[p]?=some i->n.Nodes[i]?=some x->r∈x.In->l[r.toNat]?=some e->e.src.toNat∈o.take p
theorem wb {n:Net} {l:List Ends} {o:List Nat} (h:ordN l n.Nodes n.Nodes.length []=some o):OrdL n l o:=by obtain ⟨a,b,_,d⟩:=oq h List.nodup_nil (fun x hx=>by simp at hx);have hl:=pb _ _ _ _ _ h;refine ⟨a,b,by grind,fun p i x r e hp hx hr he=>?_⟩;have:=d p i (Ae _) hp;unfold okN at this;rw [Az,hx] at this;grind [fedN]
theorem bnd {α β:Type} {o:Option α} {k:α->Option β} {x:α} {r:Option β} (h:o=some x) (h2:k x=r):Option.bind o k=r:=by grind
def good (l:List Keyed) (i:Nat):Prop:=∀ x,l[i]?=some x->1<=x.N/\∀ j y,i=j+1->l[j]?=some y->y.Key<x.Key
def qt (k f:Int):Prop:=1<=k/\k<=8/\(k=2->0<=f/\f<=3)
def aO (n:Net) (i:Nat):Node:=n.Nodes.getD i ⟨0,0,[],[]⟩
structure RightN (n:Net):Prop where
 n1:1<=n.Nodes.length
 n2:n.Nodes.length<=12
 r1:0<=n.Rings
 r2:n.Rings<=16
 m1:1<=n.Room
 m2:n.Room<=6
 kind:∀ i,i<n.Nodes.length->qt (aO n i).Kind (aO n i).A
 a0:∀ i,i<n.Nodes.length->0<=(aO n i).A
 in1:∀ i,i<n.Nodes.length->(aO n i).Kind=1->(aO n i).In=[]
 in6:∀ i,i<n.Nodes.length->(aO n i).Kind=6->1<=(aO n i).In.length
 inx:∀ i,i<n.Nodes.length->(aO n i).Kind≠1->(aO n i).Kind≠6->(aO n i).In.length=1
 out8:∀ i,i<n.Nodes.length->(aO n i).Kind=8->(aO n i).Out=[]
 out1:∀ i,i<n.Nodes.length->(aO n i).Kind≠8->1<=(aO n i).Out.length
 outx:∀ i,i<n.Nodes.length->(aO n i).Kind≠8->(aO n i).Kind≠5->(aO n i).Kind≠7->(aO n i).Out.length=1
 inR:∀ i,i<n.Nodes.length->∀ r,r∈(aO n i).In->0<=r/\r<n.Rings
 outR:∀ i,i<n.Nodes.length->∀ r,r∈(aO n i).Out->0<=r/\r<n.Rings
 ndI:∀ i,i<n.Nodes.length->(aO n i).In.Nodup
 ndO:∀ i,i<n.Nodes.length->(aO n i).Out.Nodup
 oneI:∀ i j r,i<n.Nodes.length->j<n.Nodes.length->r∈(aO n i).In->r∈(aO n j).In->i=j
 oneO:∀ i j r,i<n.Nodes.length->j<n.Nodes.length->r∈(aO n i).Out->r∈(aO n j).Out->i=j
 toI:∀ r:Nat,(r:Int)<n.Rings->∃ i,i<n.Nodes.length/\(r:Int)∈(aO n i).In
 toO:∀ r:Nat,(r:Int)<n.Rings->∃ i,i<n.Nodes.length/\(r:Int)∈(aO n i).Out
 sink:∃ s,s<n.Nodes.length/\(aO n s).Kind=8
 sink1:∀ i j,i<n.Nodes.length->j<n.Nodes.length->(aO n i).Kind=8->(aO n j).Kind=8->i=j
 ord:∃ pos:Nat->Nat,(∀ i,i<n.Nodes.length->pos i<n.Nodes.length)/\(∀ i j,i<n.Nodes.length->j<n.Nodes.length->pos i=pos j->i=j)/\∀ i j r,i<n.Nodes.length->j<n.Nodes.length->r∈(aO n i).Out->r∈(aO n j).In->pos i<pos j
theorem nT {n:Net} {i:Nat} (h:i<n.Nodes.length):n.Nodes[i]?=some (aO n i):=by grind [aO]
theorem tY {x:Node} (h:ck x=0):qt x.Kind x.A/\0<=x.A/\(x.Kind=1->x.In=[])/\(x.Kind=6->1<=x.In.length)/\(x.Kind≠1->x.Kind≠6->x.In.length=1)/\(x.Kind=8->x.Out=[])/\(x.Kind≠8->1<=x.Out.length) /\
  (x.Kind≠8->x.Kind≠5->x.Kind≠7->x.Out.length=1):=by
 unfold ck at h
 split at h
 ·omega
 ·rename_i i o har
  split at h
  ·omega
  ·rename_i hf
   split at h
   ·omega
   ·rename_i hb
    have hfi:bx x.In.length i=true/\bx x.Out.length o=true:=by grind
    have h1:=of_decide_eq_true hfi.1
    have h2:=of_decide_eq_true hfi.2
    have h3:¬ (x.A<0∨x.Kind=1/\4<=x.A∨x.Kind=2/\3<x.A∨x.Kind≠1/\x.Kind≠2/\x.A≠0):=fun e=>hb (by grind [badA])
    unfold bW at har
    have hz:∀ l:List Int,(l.length:Int)=0->l=[]:=fun l hl=>zN (by omega)
    split at har
    ·cases har;rename_i hk
     exact ⟨⟨by omega,by omega,by omega⟩,by omega,fun _=>hz _ (by omega),by omega,by omega,by omega,by omega,by omega⟩
    ·split at har
     ·cases har;rename_i hk1 hk
      exact ⟨⟨by omega,by omega,by omega⟩,by omega,by omega,by omega,by omega,by omega,by omega,by omega⟩
     ·split at har
      ·cases har;rename_i hk1 hk2 hk
       exact ⟨⟨by omega,by omega,by omega⟩,by omega,by omega,by omega,by omega,by omega,by omega,by omega⟩
      ·split at har
       ·cases har;rename_i hk1 hk2 hk3 hk
        exact ⟨⟨by omega,by omega,by omega⟩,by omega,by omega,by omega,by omega,by omega,by omega,by omega⟩
       ·split at har
        ·cases har;rename_i hk1 hk2 hk3 hk4 hk
         exact ⟨⟨by omega,by omega,by omega⟩,by omega,by omega,by omega,by omega,fun _=>hz _ (by omega),by omega,by omega⟩
        ·cases har
theorem nD {α:Type} {p:α->Bool}:∀ {l:List α},(l.filter p).length=1->∃ (i:Nat) (x:α),l[i]?=some x/\p x=true/\∀ (j:Nat) (y:α),l[j]?=some y->p y=true->j=i
 | [],h=>by simp at h
 | a::l,h=>by
  by_cases ha:p a=true
  ·rw [List.filter_cons_of_pos ha] at h;have h0:l.filter p=[]:=zN (by simpa using h);refine ⟨0,a,rfl,ha,fun j y hy hp=>?_⟩;cases j with
   | zero=>rfl
   | succ j =>
    have hm:y∈l.filter p:=List.mem_filter.2 ⟨zM (by assumption),hp⟩;grind
  ·rw [List.filter_cons_of_neg ha] at h;obtain ⟨i,x,h1,h2,h3⟩:=nD h;refine ⟨i+1,x,by grind,h2,fun j y hy hp=>?_⟩;grind
theorem tM {n:Net} (h:(netR n).2=0):RightN n:=by
 obtain ⟨l,o,hlk,hl,ho,_⟩:=pT h;have hord:=wb ho;have hg:∀ i,i<n.Nodes.length->n.Nodes[i]?=some (aO n i):=fun i hi=>nT hi
 have he:=fun i hi=>tY (hl.err i _ (hg i hi))
 obtain ⟨s,xs,hs,hs8,hsu⟩:=nD hl.sink;have hsl:=(zK.1 hs).1;have hsx:aO n s=xs:=by grind
 refine ⟨hl.n1,hl.n2,hl.r1,hl.r2,hl.m1,hl.m2,fun i hi=>(he i hi).1,fun i hi=>(he i hi).2.1,fun i hi=>(he i hi).2.2.1,fun i hi=>(he i hi).2.2.2.1,fun i hi=>(he i hi).2.2.2.2.1,fun i hi=>(he i hi).2.2.2.2.2.1,fun i hi=>(he i hi).2.2.2.2.2.2.1,fun i hi=>(he i hi).2.2.2.2.2.2.2,
  fun i hi r hr=>⟨(hl.inn i _ (hg i hi) r hr).1,(hl.inn i _ (hg i hi) r hr).2.1⟩,fun i hi r hr=>⟨(hl.out i _ (hg i hi) r hr).1,(hl.out i _ (hg i hi) r hr).2.1⟩,fun i hi=>hl.ndI i _ (hg i hi),fun i hi=>hl.ndO i _ (hg i hi),
  fun i j r hi hj h1 h2=>?_,fun i j r hi hj h1 h2=>?_,fun r hr=>?_,fun r hr=>?_,⟨s,hsl,by grind⟩,fun i j hi hj h1 h2=>?_,?_⟩
 ·obtain ⟨_,_,e,e1,e2⟩:=hl.inn i _ (hg i hi) r h1;obtain ⟨_,_,e',e3,e4⟩:=hl.inn j _ (hg j hj) r h2;grind
 ·obtain ⟨_,_,e,e1,e2⟩:=hl.out i _ (hg i hi) r h1;obtain ⟨_,_,e',e3,e4⟩:=hl.out j _ (hg j hj) r h2;grind
 ·have hlt:r<l.length:=by have:=hl.len;omega
  obtain ⟨i,x,h1,_,h3⟩:=hl.dst r _ (zJ hlt);grind
 ·have hlt:r<l.length:=by have:=hl.len;omega
  obtain ⟨i,x,h1,_,h3⟩:=hl.src r _ (zJ hlt);grind
 ·grind
 ·have hmem:∀ i,i<n.Nodes.length->i∈o:=fun i hi=>uP hord.nd hord.lt hord.len hi
  have hidx:∀ i,i<n.Nodes.length->o[o.idxOf i]?=some i:=fun i hi=>by grind
  refine ⟨fun i=>o.idxOf i,fun i hi=>?_,fun i j hi hj e=>?_,fun i j r hi hj h1 h2=>?_⟩
  ·show o.idxOf i<_;rw [<- hord.len];grind
  ·grind
  ·obtain ⟨_,_,e,e1,e2⟩:=hl.out i _ (hg i hi) r h1;have h3:=hord.fed _ j _ r e (hidx j hj) (hg j hj) h2 e1;rw [e2,AS] at h3;show o.idxOf i<o.idxOf j;obtain ⟨q,hq⟩:=A1 h3;rw [As] at hq;split at hq
   ·rename_i hlt;have hq2:=hidx i hi;have:q=o.idxOf i:=by
     have hql:=(zK.1 hq).1;refine (List.getElem?_inj hql hord.nd).1 ?_;rw [hq,hq2]
    omega
   ·cases hq
section
open Go
theorem vi (a b:List Int) (ha:a.length<=1099511627776) (hl:a.length=b.length):fF a b=some (decide (a=b)):=by
 unfold fF;rw [if_neg (by simp;omega)];exact tA a b ha hl (fun k x y h1 h2 h3 h4=>by
  unfold ij;rw [h1,h2,h3,h4];by_cases h:x=y<;>simp [h]) (fun h=>by
  unfold ij;rw [h];simp)
theorem nN (a:List Int) (ha:a.length<=1099511627776):fF a a=some true:=by rw [vi a a ha rfl];simp
theorem uc {x:Node} (h1:x.In.length<=1099511627776) (h2:x.Out.length<=1099511627776):im x x=some true:=by unfold im;rw [if_pos (by simp),if_pos (by simp),nN x.In h1,nN x.Out h2];simp
theorem ne {n:Net} (hl:n.Nodes.length<=1000) (hio:∀ x∈n.Nodes,x.In.length<=1099511627776/\x.Out.length<=1099511627776):∀ (m k:Nat),k+m=n.Nodes.length->iter (fun ss:Int=>eG n.Nodes n.Nodes ss) (k:Int)=some true
 | 0,k,h=>by
  rw [aL];have e:eG n.Nodes n.Nodes (k:Int)=some (.inr true):=by unfold eG;rw [if_neg (by simp;omega)];rfl
  simp only [e]
 | m+1,k,h=>by
  have hlt:k<n.Nodes.length:=by omega
  have hx:n.Nodes[k]?=some n.Nodes[k]:=zJ hlt;have hio':=hio n.Nodes[k] (Aa hlt);generalize n.Nodes[k]=x at hx hio';rw [aL];have e:eG n.Nodes n.Nodes (k:Int)=some (.inl ((k+1:Nat):Int)):=by unfold eG;rw [if_pos (by simp;omega),bw hx,zI,zI,uc hio'.1 hio'.2,zI,if_neg (by simp),bq (by omega)]
  simp only [e];exact ne hl hio m (k+1) (by omega)
theorem lD {n:Net} (hl:n.Nodes.length<=1000) (hio:∀ x∈n.Nodes,x.In.length<=1099511627776/\x.Out.length<=1099511627776):dp n n=some true:=by unfold dp;rw [if_pos (by simp),if_pos (by simp)];unfold jp;rw [if_neg (by simp)];have:=ne hl hio n.Nodes.length 0 (by omega);rw [AB] at this;rw [this];rfl
theorem a3_of {x:Node} (h:ck x=0):x.A<=3:=by
 unfold ck at h;split at h
 ·exact absurd h (by decide)
 ·split at h
  ·exact absurd h (by decide)
  ·split at h
   ·exact absurd h (by decide)
   ·rename_i hb;unfold badA at hb;simp only [decide_eq_true_eq,not_or,not_and] at hb;omega
theorem nL {l:List Int} {R:Int} (hd:l.Nodup) (h:∀ r,r∈l->0<=r/\r<R) (hR:0<=R):(l.length:Int)<=R:=by
 have h1:(l.map Int.toNat).Nodup:=List.pairwise_map.2 (List.Pairwise.imp_of_mem (fun {a b} ha hb hne e=>hne (by have:=h a ha;have:=h b hb;omega)) hd);have:=k7 R.toNat (l.map Int.toNat) h1 (fun x hx=>by obtain ⟨a,ha,rfl⟩:=Am.1 hx;have:=h a ha;omega)
 simp at this;omega
theorem tn_of {n:Net} (h:(netR n).2=0):TN n:=by have R:=tM h;obtain ⟨l,o,hlk,hl,ho,_⟩:=pT h;have r1:=R.r1;have r2:=R.r2;have m1:=R.m1;have m2:=R.m2;refine ⟨R.n2,⟨r1,by omega⟩,⟨by omega,by omega⟩,fun x hx=>?_⟩;obtain ⟨i,hi⟩:=A1 hx;have hlt:=(zK.1 hi).1;have hg:=nT hlt;rw [hi] at hg;cases hg;have hk:=R.kind i hlt;have ha:=a3_of (hl.err i _ hi);have l1:=nL (R.ndI i hlt) (R.inR i hlt) r1;have l2:=nL (R.ndO i hlt) (R.outR i hlt) r1;exact ⟨⟨hk.1,hk.2.1⟩,⟨R.a0 i hlt,by omega⟩,⟨by omega,fun r hr=>by have:=R.inR i hlt r hr;omega⟩,⟨by omega,fun r hr=>by have:=R.outR i hlt r hr;omega⟩⟩
end
section
open Go
def g9:List UInt8:=[114,105,110,103,115]
def kixW (w:List UInt8):List (List UInt8)->Nat->Option Nat
 | [],_=>none
 | v::r,k=>if v=w then some k else kixW w r (k+1)
def dR (i:Nat) (p:List UInt8) (a b:Int) (l:List Node):Option (Int × Int × List Node) :=
 if i=0 then match aB 32 p with
  | [w0,w1,w2]=>if w0=g9 then (aN w1).bind fun x=>(aN w2).map fun y=>(x,y,l) else none
  | _=>none
 else match aB 32 p with
  | [w0,w1,w2,w3]=>(kixW w0 kindsL 1).bind fun k=>(aN w1).bind fun x=>(aZ w2).bind fun y=>(aZ w3).map fun z=>(a,b,l++[⟨(k:Int),x,y,z⟩])
  | _=>none
def outL (a b:Int) (l:List Node):Option (Int × Int × List Node)->Bool × Int × Int × List Node
 | some x=>(true,x.1,x.2.1,x.2.2)
 | none=>(false,a,b,l)
theorem jI {s:List UInt8} {b:UInt8} (h:s.length<4294967281):f4 s [b]=some (aB b s):=by unfold f4 ja;show g6 s b=_;rw [t6,if_pos h]
theorem nv {t:List UInt8} (h:t.length<=5000):iT t=some (match aZ t with
  | some l=>.inl l
  | none=>.inr ()):=by
 unfold iT ki aZ
 rw [if_pos (by omega)]
 by_cases h0:t=[45]
 ·rw [if_pos h0,if_pos h0]
 ·rw [if_neg h0,if_neg h0]
  cases bD (aB 44 t)<;>rfl
theorem idx_4 {α:Type} {a b c d:α}:idx [a,b,c,d] 0=some a/\idx [a,b,c,d] 1=some b/\idx [a,b,c,d] 2=some c/\idx [a,b,c,d] 3=some d:=⟨rfl,rfl,rfl,rfl⟩
theorem idx_3 {α:Type} {a b c:α}:idx [a,b,c] 0=some a/\idx [a,b,c] 1=some b/\idx [a,b,c] 2=some c:=⟨rfl,rfl,rfl⟩
theorem wK:gH=some ([]::kindsL):=rfl
section
variable {a b:Int} {l:List Node} {w0 w1 w2 w3:List UInt8} (h1:w1.length≤5000) (h2:w2.length≤5000) (h3:w3.length≤5000) (hl:l.length≤5000)
include h1 h2 h3 hl
theorem nS:∀ (r:List (List UInt8)) (k:Nat),1<=k->k<=9->([]::kindsL).drop k=r ->
  iter (fun dU:Int=>cK a [w0,w1,w2,w3] b l ([]::kindsL) dU) (k:Int)=some (outL a b l ((kixW w0 r k).bind fun k=>(aN w1).bind fun x=>(aZ w2).bind fun y=>(aZ w3).map fun z=>(a,b,l++[⟨(k:Int),x,y,z⟩])))
 | [],k,hk,hk9,hr=>by
  have hkl:k=9:=by have:=List.drop_eq_nil_iff.1 hr;simp [kindsL] at this;omega
  subst hkl;have e:cK a [w0,w1,w2,w3] b l ([]::kindsL) ((9:Nat):Int)=some (.inr (false,a,b,l)):=by unfold cK;rw [if_neg (by simp [kindsL])];rfl
  rw [aL];simp only [e];rfl
 | v :: r,k,hk,hk9,hr=>by
  have hlt:k<([]::kindsL).length:=by
   by_cases h:k<([]::kindsL).length
   ·exact h
   ·rw [AC (by omega)] at hr;cases hr
  have hk9':k<9:=hlt;have hx:([]::kindsL)[k]?=some v:=by have:=z7 (xs:=[]::kindsL) (i:=k) (j:=0);rw [hr] at this;simpa using this.symm
  have hr':([]::kindsL).drop (k+1)=r:=by rw [<- Ay,hr];rfl
  have hl9:([]::kindsL).length=9:=rfl;rw [aL];unfold kixW;by_cases hv:v=w0
  ·rw [if_pos hv,zI];have e:cK a [w0,w1,w2,w3] b l ([]::kindsL) (k:Int)=some (.inr (outL a b l ((aN w1).bind fun x=>(aZ w2).bind fun y=>(aZ w3).map fun z=>(a,b,l++[⟨(k:Int),x,y,z⟩])))):=by
    unfold cK;rw [if_pos (by rw [hl9];simp;omega),kw hlt,zI,hx,zI,if_pos (by simp;omega),idx_4.1,zI,zI,if_pos (by simp [hv]),idx_4.2.1,zI,idx_4.2.2.1,zI,idx_4.2.2.2,zI,
     jD (by omega),nv h2,nv h3]
    cases aN w1 with
    | none=>rfl
    | some x =>
     cases aZ w2 with
     | none=>rfl
     | some y =>
      cases aZ w3 with
      | none=>rfl
      | some z =>
       show Option.bind (app l _) _=_;rw [f8 (by simp;omega)];rfl
   simp only [e]
  ·rw [if_neg hv];have e:cK a [w0,w1,w2,w3] b l ([]::kindsL) (k:Int)=some (.inl ((k+1:Nat):Int)):=by
    unfold cK;rw [if_pos (by rw [hl9];simp;omega),kw hlt,zI,hx,zI,if_pos (by simp;omega),idx_4.1,zI,zI,if_neg (by simp [hv]),bq (by omega)]
   simp only [e];exact nS r (k+1) (by omega) (by omega) hr'
theorem sk:iter (fun dU:Int=>cK a [w0,w1,w2,w3] b l ([]::kindsL) dU) 0=some (outL a b l ((kixW w0 kindsL 1).bind fun k=>(aN w1).bind fun x=>(aZ w2).bind fun y=>(aZ w3).map fun z=>(a,b,l++[⟨(k:Int),x,y,z⟩]))):=by
 have e:cK a [w0,w1,w2,w3] b l ([]::kindsL) 0=some (.inl ((1:Nat):Int)):=by unfold cK;rw [if_pos (by simp [kindsL]),show ixN ([]::kindsL) 0=some 0 from rfl,zI,show ([]::kindsL)[0]?=some [] from rfl,zI,if_neg (by decide),zI,if_neg (by decide)];rfl
 rw [aL];simp only [e];exact nS h1 h2 h3 hl kindsL 1 (by omega) (by omega) rfl
end
theorem len_3 {α:Type} (x:List α):(∃ a b c,x=[a,b,c])∨x.length≠3:=by
 match x with
 | []=>exact .inr (by simp)
 | [_]=>exact .inr (by simp)
 | [_,_]=>exact .inr (by simp)
 | [a,b,c]=>exact .inl ⟨a,b,c,rfl⟩
 | _::_::_::_::_=>exact .inr (by simp)
theorem len_4 {α:Type} (x:List α):(∃ a b c d,x=[a,b,c,d])∨x.length≠4:=by
 match x with
 | []=>exact .inr (by simp)
 | [_]=>exact .inr (by simp)
 | [_,_]=>exact .inr (by simp)
 | [_,_,_]=>exact .inr (by simp)
 | [a,b,c,d]=>exact .inl ⟨a,b,c,d,rfl⟩
 | _::_::_::_::_::_=>exact .inr (by simp)
theorem u4 {i:Nat} {p:List UInt8} {a b:Int} {l:List Node} (hp:p.length<=4000) (hl:l.length<=5000):gC (i:Int) p a b l=some (outL a b l (dR i p a b l)):=by
 unfold gC dR;have hpc:=e9 32 p;rw [jI (by omega),zI];by_cases hi:i=0
 ·rw [if_pos (by simp [hi]),if_pos hi];rcases len_3 (aB 32 p) with ⟨w0,w1,w2,e⟩ | hne
  ·rw [e] at hpc ⊢;have h1:=hpc w1 (by simp);have h2:=hpc w2 (by simp);rw [if_neg (by simp),idx_3.1,zI,zI];simp only;by_cases hw:w0=g9
   ·rw [if_neg (by simp [hw,g9]),if_pos hw,idx_3.2.1,zI,idx_3.2.2,zI,jD (by omega),jD (by omega)];cases aN w1 with
    | none=>rfl
    | some x =>
     cases aN w2 with
     | none=>rfl
     | some y=>rfl
   ·rw [if_pos (by simp;exact hw),if_neg hw];rfl
  ·rw [if_pos (by simp;omega),zI,if_pos rfl];split
   ·rename_i e;rw [e] at hne;simp at hne
   ·rfl
 ·rw [if_neg (by simp;omega),if_neg hi];rcases len_4 (aB 32 p) with ⟨w0,w1,w2,w3,e⟩ | hne
  ·rw [e] at hpc ⊢;rw [if_neg (by simp),wK,zI];exact sk (by have:=hpc w1 (by simp);omega) (by have:=hpc w2 (by simp);omega) (by have:=hpc w3 (by simp);omega) hl
  ·rw [if_pos (by simp;omega)];split
   ·rename_i e;rw [e] at hne;simp at hne
   ·rfl
def noN:Net:=⟨[],0,0⟩
def finP (a b:Int) (l:List Node):Net × Int × Int:=if (netR ⟨l,a,b⟩).2≠0 then (noN,0,(netR ⟨l,a,b⟩).2) else (⟨l,a,b⟩,0,0)
def runP:List (List UInt8)->Nat->Int->Int->List Node->Net × Int × Int
 | [],i,a,b,l=>finP a b l
 | [p],i,a,b,l=>if p≠[]∨i=0 then (noN,(i:Int),1) else finP a b l
 | p::q::r,i,a,b,l=>match dR i p a b l with
  | some x=>runP (q::r) (i+1) x.1 x.2.1 x.2.2
  | none=>(noN,(i:Int),1)
def gW (l:List Node):Prop:=∀ x∈l,x.In.length<=1099511627776/\x.Out.length<=1099511627776
theorem o4:∀ {xs:List (List UInt8)} {r:List Int},bD xs=some r->r.length=xs.length
 | [],r,h=>by cases h;rfl
 | x::xs,r,h=>by
  unfold bD at h;cases hx:aN x with
  | none=>rw [hx] at h;cases h
  | some n =>
   rw [hx] at h;simp only [zI,zQ] at h;obtain ⟨r',h',rfl⟩:=h;simp [o4 h']
theorem pd {t:List UInt8} {r:List Int} (h:aZ t=some r):r.length<=t.length+1:=by
 unfold aZ at h;split at h
 ·cases h;simp
 ·have:=o4 h;have:=iC 44 t;omega
theorem oW {i:Nat} {p:List UInt8} {a b:Int} {l:List Node} {x:Int × Int × List Node} (hp:p.length<=4000) (h:dR i p a b l=some x) (hl:gW l) (hn:l.length<=i):gW x.2.2/\x.2.2.length<=i+1:=by
 have hpc:=e9 32 p;unfold dR at h;split at h
 ·split at h
  ·split at h
   ·simp only [Option.bind_eq_some_iff,zQ] at h;obtain ⟨_,_,_,_,rfl⟩:=h;exact ⟨hl,by simp;omega⟩
   ·cases h
  ·cases h
 ·split at h
  ·rename_i w0 w1 w2 w3 e;rw [e] at hpc;simp only [Option.bind_eq_some_iff,zQ] at h;obtain ⟨k,_,x,_,y,hy,z,hz,rfl⟩:=h;have h2:=hpc w2 (by simp);have h3:=hpc w3 (by simp);have:=pd hy;have:=pd hz;refine ⟨fun n hn=>?_,by simp;omega⟩;rcases Ah.1 hn with hn | hn
   ·exact hl n hn
   ·simp at hn;subst hn;exact ⟨by simp;omega,by simp;omega⟩
  ·cases h
theorem t1 {a b:Int} {l:List Node} (hl:gW l):(Option.bind (d6 (⟨l,a,b⟩:Net)) fun x16=>(if (x16 != 0)=true then (some ((⟨[],0,0⟩:Net),0,x16)) else (some ((⟨l,a,b⟩:Net),0,0))))=some (finP a b l):=by
 rw [nh ⟨l,a,b⟩ hl,zI];unfold finP;by_cases h:(netR ⟨l,a,b⟩).2=0
 ·rw [if_neg (by simp [h]),if_neg (fun hh=>hh h)]
 ·rw [if_pos (by simpa using h),if_pos h];rfl
theorem ow {ws:List (List UInt8)} (hws:ws≠[]) (hl:ws.length<=4001) (hw:∀ w,w∈ws->w.length<=4000):∀ (r:List (List UInt8)) (i:Nat) (a b:Int) (l:List Node),ws.drop i=r->r≠[]->gW l->l.length<=i ->
  iter (fun bY:Int × Int × Int × (List Node)=>cx ws bY.1 bY.2.1 bY.2.2.1 bY.2.2.2) ((i:Int),a,b,l)=some (runP r i a b l)
 | [],i,a,b,l,hr,hne,ho,hn=>absurd rfl hne
 | [p],i,a,b,l,hr,_,ho,hn=>by
  have hil:i+1=ws.length:=by have:=congrArg List.length hr;rw [A7] at this;simp at this;omega
  have hx:ws[i]?=some p:=by have:=z7 (xs:=ws) (i:=i) (j:=0);rw [hr] at this;simpa using this.symm
  have hwr:IntKind.i64.wrap ((ws.length:Int) - 1)=(i:Int):=by rw [fV (by omega) (by omega)];omega
  rw [aL];unfold runP;by_cases hc:p≠[]∨i=0
  ·have e:cx ws (i:Int) a b l=some (.inr (noN,(i:Int),1)):=by
    unfold cx;rw [if_pos (by simp;omega),bw hx,zI,hwr,if_pos (by simp)];by_cases hp:p=[]
    ·have hi0:i=0:=by rcases hc with h | h;exact absurd hp h;exact h
     rw [if_neg (by simp [hp]),if_pos (by simp [hi0]),zI];rfl
    ·rw [if_pos (by simp [hp]),zI];rfl
   simp only [e];rw [if_pos hc]
  ·have hp:p=[]:=Classical.byContradiction fun h=>hc (.inl h)
   have hi0:i≠0:=fun h=>hc (.inr h)
   have e:cx ws (i:Int) a b l=some (.inl (((i+1:Nat):Int),a,b,l)):=by unfold cx;rw [if_pos (by simp;omega),bw hx,zI,hwr,if_pos (by simp),if_neg (by simp [hp]),if_neg (by simp;omega),if_neg (by simp),zI];simp only;rw [if_neg (by decide),bq (by omega)]
   have e2:cx ws ((i+1:Nat):Int) a b l=some (.inr (finP a b l)):=by unfold cx;rw [if_neg (by simp;omega),t1 ho];rfl
   simp only [e];rw [aL];simp only [e2];rw [if_neg hc]
 | p::q::r,i,a,b,l,hr,_,ho,hn=>by
  have hil:i+2<=ws.length:=by have:=congrArg List.length hr;rw [A7] at this;simp at this;omega
  have hx:ws[i]?=some p:=by have:=z7 (xs:=ws) (i:=i) (j:=0);rw [hr] at this;simpa using this.symm
  have hr':ws.drop (i+1)=q::r:=by rw [<- Ay,hr];rfl
  have hpl:=hw p (zM hx);have hwr:IntKind.i64.wrap ((ws.length:Int) - 1)=((ws.length - 1:Nat):Int):=by rw [fV (by omega) (by omega)];omega
  have hneq:((i:Int)==((ws.length - 1:Nat):Int))=false:=beq_eq_false_iff_ne.2 (by omega);have hline:=u4 (i:=i) (a:=a) (b:=b) (l:=l) hpl (by omega);rw [aL];unfold runP;cases hL:dR i p a b l with
  | none =>
   have e:cx ws (i:Int) a b l=some (.inr (noN,(i:Int),1)):=by unfold cx;rw [if_pos (by simp;omega),bw hx,zI,hwr,hneq,if_neg (by decide),if_pos (by decide),hline,hL,zI,zI];rfl
   simp only [e]
  | some x =>
   have e:cx ws (i:Int) a b l=some (.inl (((i+1:Nat):Int),x.1,x.2.1,x.2.2)):=by unfold cx;rw [if_pos (by simp;omega),bw hx,zI,hwr,hneq,if_neg (by decide),if_pos (by decide),hline,hL,zI,zI];unfold outL;simp only;rw [if_neg (by decide),bq (by omega)]
   obtain ⟨o1,o2⟩:=oW hpl hL ho hn;simp only [e];exact ow hws hl hw (q::r) (i+1) x.1 x.2.1 x.2.2 hr' (by simp) o1 o2
theorem ka (b:UInt8):∀ s:List UInt8,aB b s≠[]
 | []=>by simp [aB]
 | x::l=>by
  unfold aB;split
  ·simp
  ·split<;>simp
theorem od {s:List UInt8} (h:s.length<=4000):d5 s=some (runP (aB 10 s) 0 0 0 []):=by unfold d5;rw [if_neg (by simp;omega),jI (by omega),zI];exact ow (ka 10 s) (by have:=iC 10 s;omega) (fun w hw=>by have:=e9 10 s w hw;omega) (aB 10 s) 0 0 0 [] rfl (ka 10 s) (fun x hx=>by cases hx) (by simp)
theorem sD {s:List UInt8} (h:s.length > 4000):d5 s=some (noN,0,2):=by unfold d5;rw [if_pos (by simp;omega)];rfl
end
section
open Go
theorem tn {t:List UInt8} (hl:t.length<=5000):∃ v,iu t=some (v,(aN t).isSome)/\∀ n,aN t=some n->v=n:=by
 have hpa:Go.Lib.parseIntB 64 t=Go.Lib.atoiAll t:=Go.Lib.parseIntB_64 t;unfold iu aN;cases he:Go.Lib.atoiAll t with
 | ok m =>
  have hE:eZ t=false:=by unfold eZ;rw [hpa,he];rfl
  have hA:iZ t 10 64=some m:=by unfold iZ iY;rw [if_pos ⟨rfl,rfl⟩,if_pos (by omega),hpa,he]
  have hb : -9223372036854775808<=m/\m<=9223372036854775807:=by rw [<- hpa] at he;have:=Go.Lib.parseIntB_bounds he;exact ⟨by have:=this.1;omega,by have:=this.2;omega⟩
  have hF:iQ m 10=some (Go.Lib.itoa m):=by unfold iQ itoaS;rw [if_pos rfl];exact if_pos hb
  rw [if_neg (by rw [hE];decide),hA,zI];by_cases h0:0<=m
  ·rw [if_pos (by simpa using h0),hF,zI,zI];by_cases hc:Go.Lib.itoa m=t
   ·refine ⟨m,?_,fun n hn=>?_⟩
    ·simp only;rw [if_pos ⟨h0,hc⟩];simp [fE,hc]
    ·simp only at hn;rw [if_pos ⟨h0,hc⟩] at hn;exact zL hn
   ·refine ⟨m,?_,fun n hn=>?_⟩
    ·simp only;rw [if_neg (fun h=>hc h.2)];simp [fE,hc]
    ·simp only at hn;rw [if_neg (fun h=>hc h.2)] at hn;cases hn
  ·refine ⟨m,?_,fun n hn=>?_⟩
   ·rw [if_neg (by simpa using h0),zI];simp only;rw [if_neg (fun h=>h0 h.1)];rfl
   ·simp only at hn;rw [if_neg (fun h=>h0 h.1)] at hn;cases hn
 | range =>
  have hE:eZ t=true:=by unfold eZ;rw [hpa,he];rfl
  have hX:f5 t 10 64=some (Go.Lib.intSat 64 t):=by unfold f5 hH;rw [if_pos ⟨rfl,rfl⟩,if_pos (by omega),hpa,he]
  exact ⟨_,by rw [if_pos hE,hX];rfl,fun n hn=>by cases hn⟩
 | _ =>
  have hE:eZ t=true:=by unfold eZ;rw [hpa,he];rfl
  have hX:f5 t 10 64=some 0:=by unfold f5 hH;rw [if_pos ⟨rfl,rfl⟩,if_pos (by omega),hpa,he]
  exact ⟨0,by rw [if_pos hE,hX];rfl,fun n hn=>by cases hn⟩
theorem kF {t:List UInt8} (hl:t.length<=5000) (ok:Bool):∃ v,eI t ok=some (v,ok && (aN t).isSome)/\∀ n,aN t=some n->v=n:=by obtain ⟨v,h1,h2⟩:=tn hl;exact ⟨v,by unfold eI;rw [h1];rfl,h2⟩
theorem pj {ws:List (List UInt8)} (hl:ws.length<=5001) (hw:∀ w,w∈ws->w.length<=5000):∀ (r:List (List UInt8)) (k:Nat) (ok:Bool) (acc:List Int),ws.drop k=r->k<=ws.length->acc.length<=k ->
  ∃ vs,iter (fun cH:Int × Bool × (List Int)=>eH ws cH.1 cH.2.1 cH.2.2) ((k:Int),ok,acc)=some (acc++vs,ok && (bD r).isSome)/\∀ q,bD r=some q->vs=q
 | [],k,ok,acc,hr,hk,ha=>by
  have hkl:k=ws.length:=by have:=List.drop_eq_nil_iff.1 hr;omega
  have e:eH ws (k:Int) ok acc=some (.inr (acc,ok)):=by unfold eH;rw [if_neg (by simp;omega)];rfl
  refine ⟨[],?_,fun q hq=>by cases hq;rfl⟩;rw [aL];simp only [e];simp [bD]
 | w::r,k,ok,acc,hr,hk,ha=>by
  have hlt:k<ws.length:=by
   by_cases h:k<ws.length
   ·exact h
   ·rw [AC (by omega)] at hr;cases hr
  have hx:ws[k]?=some w:=by have:=z7 (xs:=ws) (i:=k) (j:=0);rw [hr] at this;simpa using this.symm
  have hr':ws.drop (k+1)=r:=by rw [<- Ay,hr];rfl
  obtain ⟨v,hv,hv2⟩:=kF (hw w (zM hx)) ok;obtain ⟨vs,h1,h2⟩:=pj hl hw r (k+1) (ok && (aN w).isSome) (acc++[v]) hr' (by omega) (by simp;omega);have e:eH ws (k:Int) ok acc=some (.inl (((k+1:Nat):Int),(ok && (aN w).isSome),acc++[v])):=by unfold eH;rw [if_pos (by simp;omega),bw hx,zI,hv,zI,f8 (by simp;omega),zI,bq (by omega)]
  have ha2:bD (w::r)=(aN w).bind fun n=>(bD r).map fun l=>n::l:=rfl
  refine ⟨v::vs,?_,fun q hq=>?_⟩
  ·rw [aL];simp only [e];rw [h1,ha2];cases hc:aN w with
   | none=>simp
   | some n=>cases hq:bD r<;>simp [hc,hq]
  ·rw [ha2] at hq;cases hc:aN w with
   | none=>rw [hc] at hq;cases hq
   | some n =>
    rw [hc] at hq;simp only [zI,zQ] at hq;obtain ⟨q',hq',rfl⟩:=hq;rw [hv2 n hc,h2 q' hq']
theorem pU {t:List UInt8} (hl:t.length<=4000) (ok:Bool):∃ vs,gu t ok=some (vs,ok && (aZ t).isSome)/\∀ q,aZ t=some q->vs=q:=by
 unfold gu aZ;by_cases h0:t=[45]
 ·rw [if_pos (by simpa using h0),if_pos h0];exact ⟨[],by simp,fun q hq=>by cases hq;rfl⟩
 ·rw [if_neg (by simpa using h0),if_neg h0,jI (by omega),zI];obtain ⟨vs,h1,h2⟩:=pj (ws:=aB 44 t) (by have:=iC 44 t;omega) (fun w hw=>by have:=e9 44 t w hw;omega) (aB 44 t) 0 ok [] rfl (by omega) (by simp);exact ⟨vs,by simpa using h1,h2⟩
theorem lq (w:List UInt8):∀ (r:List (List UInt8)) (k:Nat),kixW w r (k+1)=(kixW w r k).map (· + 1)
 | [],k=>rfl
 | v::r,k=>by
  unfold kixW;split
  ·rfl
  ·exact lq w r (k+1)
theorem qJ (w:List UInt8):∀ (r:List (List UInt8)) (k m:Nat),kixW w r k=some m->m<k+r.length
 | [],k,m,h=>by cases h
 | v::r,k,m,h=>by
  unfold kixW at h;split at h
  ·cases h;simp
  ·have:=qJ w r (k+1) m h;simp only [zR];omega
def ixO:Option Nat->Int
 | some k=>(k:Int)
 | none => -1
theorem ot (w:List UInt8):∀ (r:List (List UInt8)) (k:Nat),kindsL.drop k=r->k<=8->iter (fun bF:Int=>dF kindsL w bF) (k:Int)=some (ixO (kixW w r k))
 | [],k,hr,hk=>by
  have hkl:k=8:=by have:=List.drop_eq_nil_iff.1 hr;simp [kindsL] at this;omega
  subst hkl;have e:dF kindsL w ((8:Nat):Int)=some (.inr (-1)):=by unfold dF;rw [if_neg (by simp [kindsL])];rfl
  rw [aL];simp only [e];rfl
 | v::r,k,hr,hk=>by
  have hlt:k<kindsL.length:=by
   by_cases h:k<kindsL.length
   ·exact h
   ·rw [AC (by omega)] at hr;cases hr
  have hl8:kindsL.length=8:=rfl;have hx:kindsL[k]?=some v:=by have:=z7 (xs:=kindsL) (i:=k) (j:=0);rw [hr] at this;simpa using this.symm
  have hr':kindsL.drop (k+1)=r:=by rw [<- Ay,hr];rfl
  rw [aL];unfold kixW;by_cases hv:v=w
  ·have e:dF kindsL w (k:Int)=some (.inr (k:Int)):=by
    unfold dF;rw [if_pos (by rw [hl8];simp;omega),bw hx,zI,if_pos (by simp [hv])];rfl
   simp only [e];rw [if_pos hv];rfl
  ·have e:dF kindsL w (k:Int)=some (.inl ((k+1:Nat):Int)):=by
    unfold dF;rw [if_pos (by rw [hl8];simp;omega),bw hx,zI,if_neg (by simp;exact fun h=>hv h.symm),bq (by omega)]
   simp only [e];rw [if_neg hv];exact ot w r (k+1) hr' (by omega)
theorem oE (w:List UInt8):js kindsL w=some (ixO (kixW w kindsL 0)):=ot w kindsL 0 rfl (by omega)
theorem xf {s:List UInt8} (h:(10:UInt8) ∉ s):eT s [10]=some (s,[],false):=by
 have hi:index1W s [10]=some (Go.Lib.indexByte s 10):=rfl;unfold eT ii;rw [hi,zI];rcases iM s 10 with ⟨hneg,_⟩ | ⟨p,q,rfl,_,_⟩
 ·rw [if_neg (by simp;omega),zI]
 ·exact absurd (by simp) h
theorem wS {p q:List UInt8} (h:(10:UInt8) ∉ p) (hl:p.length<=4000):eT (p++10::q) [10]=some (p,q,true):=by
 have hi:index1W (p++10::q) [10]=some (Go.Lib.indexByte (p++10::q) 10):=rfl;have hix:Go.Lib.indexByte (p++10::q) 10=(p.length:Int):=by
  rcases iM (p++10::q) 10 with ⟨_,hno⟩ | ⟨p',q',e,hno,hx⟩
  ·exact absurd (by simp) hno
  ·have h1:=ej (b:=10) q h;rw [e,ej (b:=10) q' hno] at h1;injection h1 with h1 _
   rw [hx,h1]
 unfold eT ii;rw [hi,hix,zI,if_pos (by simp),sub_0 (by simp),zI,List.take_left,show IntKind.i64.wrap ((p.length:Int)+(([10]:List UInt8).length:Int))=((p.length+1:Nat):Int) from bq (by omega),
  vT (by simp),zI,zI]
 have:(p++10::q).drop (p.length+1)=q:=by rw [show p++10::q=(p++[10])++q by simp,show p.length+1=(p++[10]).length by simp,List.drop_left]
 simp only [this]
theorem lH:dp noN ⟨[],0,0⟩=some true:=lD (n:=noN) (by simp [noN]) (fun x hx=>by cases hx)
theorem qe {i:Nat} {x15:(List UInt8) × (List UInt8) × Bool} {u v:Int} {w:List Node}:cY (noN,(i:Int),1) (i:Int) x15 u v false w=some (.inr true):=by unfold cY;rw [if_pos (by decide),if_pos (by simp),if_pos (by simp),lH];rfl
theorem nF {x2:Net × Int × Int} {s p q:List UInt8} {f:Bool} {i:Nat} {a b:Int} {l:List Node} (hc:i=0∨s≠[]) (hcut:eT s [10]=some (p,q,f)) (hp:p.length<=4000) (hl:l.length<=5000) (hi:i<=5000) :
  (f=true/\∃ x,dR i p a b l=some x/\cJ x2 s (i:Int) a b l=cY x2 (i:Int) (p,q,f) x.1 x.2.1 true x.2.2) ∨
  ((f=false∨dR i p a b l=none)/\∃ u v w,cJ x2 s (i:Int) a b l=cY x2 (i:Int) (p,q,f) u v false w):=by
 have hpc:=e9 32 p
 unfold cJ dR
 rw [if_pos (show ((i:Int)==0 || !(s==[]))=true by rcases hc with h | h<;>simp [h]),hcut,zI]
 simp only
 rw [jI (by omega),zI]
 by_cases h0:i=0
 ·rw [if_pos h0,if_pos (show ((i:Int)==0)=true by simp [h0])]
  cases f with
  | false=>exact .inr ⟨.inl rfl,a,b,l,rfl⟩
  | true =>
   rw [if_pos rfl]
   rcases len_3 (aB 32 p) with ⟨w0,w1,w2,e⟩ | hne
   ·rw [e] at hpc ⊢
    obtain ⟨v1,n1,n1'⟩:=kF (t:=w1) (by have:=hpc w1 (by simp);omega) true
    obtain ⟨v2,n2,n2'⟩:=kF (t:=w2) (by have:=hpc w2 (by simp);omega) (true && (aN w1).isSome)
    rw [if_pos (by simp),idx_3.1,zI,zI]
    by_cases hw:w0=g9
    ·simp only
     rw [if_pos hw,show (w0==[114,105,110,103,115])=true by simp [hw,g9],if_pos (show true=true from rfl),idx_3.2.1,zI,n1,zI,idx_3.2.2,zI]
     simp only
     rw [n2,zI]
     simp only
     cases hc1:aN w1 with
     | none=>exact .inr ⟨.inr rfl,_,_,_,rfl⟩
     | some y1 =>
      cases hc2:aN w2 with
      | none=>exact .inr ⟨.inr rfl,_,_,_,rfl⟩
      | some y2 =>
       rw [n1' y1 hc1,n2' y2 hc2]
       exact .inl ⟨trivial,_,rfl,rfl⟩
    ·simp only
     rw [if_neg hw]
     refine .inr ⟨.inr rfl,a,b,l,?_⟩
     rw [show (w0==[114,105,110,103,115])=false by simpa [g9] using hw]
     rfl
   ·rw [if_neg (by simp;omega),zI,if_neg (by decide)]
    refine .inr ⟨.inr ?_,a,b,l,rfl⟩
    split
    ·rename_i e;rw [e] at hne;simp at hne
    ·rfl
 ·rw [if_neg h0,if_neg (show ¬ ((i:Int)==0)=true by simp;omega),show jx=some kindsL from rfl,zI]
  rcases len_4 (aB 32 p) with ⟨w0,w1,w2,w3,e⟩ | hne
  ·rw [e] at hpc ⊢
   have h2l:=hpc w2 (by simp)
   have h3l:=hpc w3 (by simp)
   rw [idx_4.1,zI,oE,zI]
   simp only
   cases hk:kixW w0 kindsL 0 with
   | none =>
    have hk1:kixW w0 kindsL 1=none:=by rw [lq,hk];rfl
    rw [if_pos (by simp [ixO]),hk1]
    exact .inr ⟨.inr rfl,_,_,_,rfl⟩
   | some k =>
    have hk1:kixW w0 kindsL 1=some (k+1):=by rw [lq,hk];rfl
    have hk8:=qJ w0 kindsL 0 k hk
    simp [kindsL] at hk8
    obtain ⟨v1,n1,n1'⟩:=kF (t:=w1) (by have:=hpc w1 (by simp);omega) f
    obtain ⟨v2,n2,n2'⟩:=pU (t:=w2) (by omega) (f && (aN w1).isSome)
    obtain ⟨v3,n3,n3'⟩:=pU (t:=w3) (by omega) ((f && (aN w1).isSome) && (aZ w2).isSome)
    rw [if_neg (show ¬ (decide (ixO (some k)<0) || (([w0,w1,w2,w3]:List (List UInt8)).length:Int) != 4)=true by rw [show decide (ixO (some k)<0)=false from decide_eq_false (by show ¬ (k:Int)<0;omega)];exact Bool.false_ne_true),hk1,idx_4.2.1,zI,zI,n1,zI,idx_4.2.2.1,zI]
    simp only
    rw [n2,zI,idx_4.2.2.2,zI]
    simp only
    rw [n3,zI,f8 (by simp;omega),zI,show IntKind.i64.wrap (ixO (some k)+1)=((k+1:Nat):Int) from bq (by omega)]
    cases f with
    | false=>exact .inr ⟨.inl rfl,_,_,_,rfl⟩
    | true =>
     cases hc1:aN w1 with
     | none=>exact .inr ⟨.inr rfl,_,_,_,rfl⟩
     | some y1 =>
      cases hc2:aZ w2 with
      | none=>exact .inr ⟨.inr rfl,_,_,_,rfl⟩
      | some y2 =>
       cases hc3:aZ w3 with
       | none=>exact .inr ⟨.inr rfl,_,_,_,rfl⟩
       | some y3 =>
        rw [n1' y1 hc1,n2' y2 hc2,n3' y3 hc3]
        exact .inl ⟨rfl,_,rfl,rfl⟩
  ·obtain ⟨w0,hw0⟩:∃ w0,idx (aB 32 p) 0=some w0:=by
    cases hcc:aB 32 p with
    | nil=>exact absurd hcc (ka 32 p)
    | cons w0 r=>exact ⟨w0,rfl⟩
   rw [hw0,zI,oE,zI,if_pos (by simp;right;omega)]
   refine .inr ⟨.inr ?_,_,_,_,rfl⟩
   split
   ·rename_i e;rw [e] at hne;simp at hne
   ·rfl
theorem vR {i:Nat} {a b:Int} {l:List Node} (hi:i≠0) (hl:gW l):cJ (finP a b l) [] (i:Int) a b l=some (.inr true):=by
 unfold cJ;rw [if_neg (by simp;omega),rE ⟨l,a,b⟩ hl,zI];by_cases h:(netR ⟨l,a,b⟩).2=0
 ·have t:=tn_of h;have hf:finP a b l=(⟨l,a,b⟩,0,0):=if_neg (fun hh=>hh h);rw [hf,if_neg (by simp [h]),if_pos (by simp),if_pos (by simp),lD (n:=⟨l,a,b⟩) (by have:=t.l;simp only at this ⊢;omega) hl];rfl
 ·have hf:finP a b l=(noN,0,(netR ⟨l,a,b⟩).2):=if_pos h;rw [hf,if_pos (by simpa using h),if_pos (by simp),if_pos (by simp),lH];rfl
theorem oL:∀ (m:Nat) (s:List UInt8),s.length<=m->s.length<=4000->∀ (i:Nat) (a b:Int) (l:List Node),i+s.length<=4001->gW l->l.length<=i ->
  iter (fun bL:(List UInt8) × Int × Int × Int × (List Node)=>cJ (runP (aB 10 s) i a b l) bL.1 bL.2.1 bL.2.2.1 bL.2.2.2.1 bL.2.2.2.2) (s,(i:Int),a,b,l)=some true
 | m, s,hm,hs,i,a,b,l,hi,ho,hn=>by
  rw [aL];by_cases hc:i=0∨s≠[]
  ·rcases iM s 10 with ⟨_,hno⟩ | ⟨p,q,rfl,hno,_⟩
   ·have hrun:runP (aB 10 s) i a b l=(noN,(i:Int),1):=by
     rw [fb hno];unfold runP;exact if_pos hc.symm
    have e:cJ (runP (aB 10 s) i a b l) s (i:Int) a b l=some (.inr true):=by
     rw [hrun];rcases nF (x2:=(noN,(i:Int),1)) (a:=a) (b:=b) (l:=l) hc (xf hno) hs (by omega) (by omega) with ⟨hf,_⟩ | ⟨_,u,v,w,e⟩
     ·cases hf
     ·rw [e,qe]
    simp only [e]
   ·have hpl:p.length<=4000:=by simp at hs;omega
    obtain ⟨w,r,hwr⟩:∃ w r,aB 10 q=w::r:=by
     cases h:aB 10 q with
     | nil=>exact absurd h (ka 10 q)
     | cons w r=>exact ⟨w,r,rfl⟩
    have hcut:aB 10 (p++10::q)=p::w::r:=by rw [ej q hno,hwr]
    rcases nF (x2:=runP (aB 10 (p++10::q)) i a b l) (a:=a) (b:=b) (l:=l) hc (wS hno hpl) hpl (by omega) (by simp at hi;omega) with ⟨_,x,hx,e⟩ | ⟨hf,u,v,y,e⟩
    ·have hrun:runP (aB 10 (p++10::q)) i a b l=runP (aB 10 q) (i+1) x.1 x.2.1 x.2.2:=by
      rw [hcut,hwr,runP.eq_def];simp only [hx]
     obtain ⟨o1,o2⟩:=oW hpl hx ho hn;have e2:cJ (runP (aB 10 (p++10::q)) i a b l) (p++10::q) (i:Int) a b l=some (.inl (q,((i+1:Nat):Int),x.1,x.2.1,x.2.2)):=by rw [e];unfold cY;rw [if_neg (by decide),bq (by simp at hi;omega)]
     simp only [e2];rw [hrun];have hq:q.length<(p++10::q).length:=by simp;omega
     match m,hm with
     | 0,hm=>simp at hm
     | m+1,hm=>exact oL m q (by omega) (by omega) (i+1) x.1 x.2.1 x.2.2 (by simp at hi;omega) o1 o2
    ·have hL:dR i p a b l=none:=by
      rcases hf with h | h
      ·cases h
      ·exact h
     have hrun:runP (aB 10 (p++10::q)) i a b l=(noN,(i:Int),1):=by rw [hcut,runP.eq_def];simp only [hL]
     have e2:cJ (runP (aB 10 (p++10::q)) i a b l) (p++10::q) (i:Int) a b l=some (.inr true):=by rw [e,hrun,qe]
     simp only [e2]
  ·have hs0:s=[]:=Classical.byContradiction fun h=>hc (.inr h)
   have hi0:i≠0:=fun h=>hc (.inl h)
   subst hs0;have hrun:runP (aB 10 []) i a b l=finP a b l:=by show runP [[]] i a b l=_;unfold runP;exact if_neg (fun h=>h.elim (fun h=>h rfl) hi0)
   have e:cJ (runP (aB 10 []) i a b l) [] (i:Int) a b l=some (.inr true):=by rw [hrun,vR hi0 ho]
   simp only [e]
end
section
open Go
def meetT:Net:=⟨[⟨1,0,[],[0]⟩,⟨1,1,[],[1]⟩,⟨6,0,[0,1],[2]⟩,⟨8,0,[2],[]⟩],3,1⟩
theorem wm:TN meetT:=⟨by decide,by decide,by decide,fun x hx=>by simp only [meetT,AT,List.not_mem_nil,or_false] at hx;rcases hx with rfl | rfl | rfl | rfl<;>exact ⟨by decide,by decide,⟨by decide,by decide⟩,⟨by decide,by decide⟩⟩⟩
theorem pq:∀ x∈meetT.Nodes,x.In.length<=1099511627776/\x.Out.length<=1099511627776:=by decide
theorem vA:(netR meetT).2=0:=by decide +kernel
theorem u1:d6 meetT=some 0:=by rw [nh meetT pq,vA]
theorem uS:runP (aB 10 (textT meetT)) 0 0 0 []=(meetT,0,0):=by decide +kernel
theorem sW:d5 (textT meetT)=some (meetT,0,0):=by rw [od (by decide +kernel),uS]
theorem oo:gD=some true:=by unfold gD;rw [show ir=some meetT from rfl,zI,vC wm u1,zI,sW,zI,if_pos (by decide),if_pos (by decide),if_pos (by decide),if_pos (by decide +kernel),zI,lD (n:=meetT) (by decide) pq];rfl
theorem rV (s:List UInt8) (gs:gS s) (hb:mS s+0<=1048576):jt s=some true:=by
 unfold jt;by_cases h:s.length<=4000
 ·rw [od h,zI,oo,zI,if_neg (by simp;omega)];exact oL s.length s (zP _) h 0 0 0 [] (by omega) (fun x hx=>by cases hx) (by simp)
 ·rw [sD (by omega),zI,oo,zI,if_pos (by simp;omega),zI,if_pos rfl,if_pos (by decide),if_pos (by decide),show dp noN ⟨[],0,0⟩=some true from lH];rfl
end
end Go.Proofs.YtbfncjgaklimlaaGreatDoor
namespace Go.Proofs.YtbfncjgaklimlaaGreatDoor.taleParseLaw
open Go.ChangeShapes Go.WideShapes Go.ChangeAt Go.RowKit
theorem own:ownKnob Tryz.prog.godebug=none:=by kernel_rfl
theorem laid:laidOutB Tryz.prog=true:=by kernel_rfl
theorem ok:(Tryz.f3.params.toList.all fun t=>Tryz.prog.readableRec t && decide (t<Tryz.prog.types.size))=true:=by kernel_rfl
theorem gd_of {W:World} (h:laidMet Tryz.prog Rows.taleParseUptoRow.laid W):Gd W fun b=>b<W.heap.size:=fun g hg=>by
 have hc:g=3∨g=1∨g=2:=by simpa [gvs] using hg
 rcases hc with rfl | rfl | rfl
 ·have hn:Tryz.prog.globalNamed "internal/strconv.uint64pow10" = some 3:=by kernel_rfl
  have ht:=Go.Lib.tabIs_of_head (k:=.u64) (zs:=Go.Lib.pow10Tab) (t:=143) (e:=108) (n:=20) hn (by kernel_rfl) (by kernel_rfl) (by kernel_rfl) (by kernel_rfl) (by kernel_rfl) h.tail.tail;unfold Go.Lib.TabIs World.var? at ht;rw [hn] at ht;simp only [zI] at ht;split at ht
  ·rename_i cs t fz ho;cases ht;exact ⟨(zW.1 ho).1,_,ho,_,_,_,rfl,fun _=>rfl,fun h=>absurd h (by decide)⟩
  ·cases ht
 ·have hn:Tryz.prog.globalNamed "strconv.ErrSyntax" = some 1:=by kernel_rfl
  have hst : "*" ++ "errors.errorString" = "*errors.errorString" := by decide
  have hrow:∀ u,Tryz.prog.typeName? 3 u=some "*errors.errorString" -> u=158:=fun u h=>typeName_ptr_named (nm := "errors.errorString") (by rw [hst];kernel_rfl) (by kernel_rfl) (by decide) u (by rw [hst];exact h)
  obtain ⟨a,s,hv,_⟩:=laid_sentinel (ti:=57) (te:=160) (ts:=9) h.tail.tail.tail.tail.tail hn (by kernel_rfl) Tryz.underlying57 hrow Tryz.underlying158 Tryz.underlying160 rfl rfl Tryz.underlying9 (by kernel_rfl) (by kernel_rfl);unfold World.var? at hv;rw [hn] at hv;simp only [zI] at hv;split at hv
  ·rename_i cs t fz ho;cases hv;exact ⟨(zW.1 ho).1,_,ho,_,_,_,rfl,fun h=>absurd h (by decide),fun _=>⟨_,rfl,.inr ⟨_,_,rfl⟩⟩⟩
  ·cases hv
 ·have hn:Tryz.prog.globalNamed "strconv.ErrRange" = some 2:=by kernel_rfl
  have hst : "*" ++ "errors.errorString" = "*errors.errorString" := by decide
  have hrow:∀ u,Tryz.prog.typeName? 3 u=some "*errors.errorString" -> u=158:=fun u h=>typeName_ptr_named (nm := "errors.errorString") (by rw [hst];kernel_rfl) (by kernel_rfl) (by decide) u (by rw [hst];exact h)
  obtain ⟨a,s,hv,_⟩:=laid_sentinel (ti:=57) (te:=160) (ts:=9) h.tail.tail.tail.tail hn (by kernel_rfl) Tryz.underlying57 hrow Tryz.underlying158 Tryz.underlying160 rfl rfl Tryz.underlying9 (by kernel_rfl) (by kernel_rfl);unfold World.var? at hv;rw [hn] at hv;simp only [zI] at hv;split at hv
  ·rename_i cs t fz ho;cases hv;exact ⟨(zW.1 ho).1,_,ho,_,_,_,rfl,fun h=>absurd h (by decide),fun _=>⟨_,rfl,.inr ⟨_,_,rfl⟩⟩⟩
  ·cases hv
set_option maxRecDepth 100000 in
theorem contract (H:Type) (enc:TypeId × Value->H) (W:World) (base:Nat) (args:Array Value) (ds gs:List (DataW H)) (before:List MemPlace)
  (hval:∀ (j:Nat) t v,Tryz.f3.params[j]?=some t->args[j]?=some v->Value.okWide Tryz.prog W .any base t v)
  (hW:DataW.Whole enc Tryz.prog Tryz.f3.params.toList Rows.taleParseSpec.vars false W args.toList ds gs before) (hk:Rows.uptoSmall H (ds++gs)=true) (hG:Gd W fun b=>b<W.heap.size) :
  Calls Tryz.prog 3 args W fun e W'=>∃ v,e=.returned v/\Rows.taleParseSpec.post enc Tryz.prog Tryz.f3 false true false false W args v W':=by
 have hW':=hW
 obtain ⟨p,q,hA0,hV,rfl,hfz,hnd⟩:=hW
 have hA:DataW.TrodAll enc Tryz.prog W 0 (fun _=>true) true Tryz.f3.params.toList args.toList ds p:=hA0
 rw [Tryz.params3] at hA hval
 obtain ⟨v0,vs0,d0,ds0,p0,q0,hargs,rfl,rfl,h0,r0⟩:=trodAll_cons hA
 obtain ⟨rfl,rfl,rfl⟩:=trodAll_nil r0
 obtain rfl:args=#[v0]:=by cases args;simp_all
 obtain ⟨rfl,rfl⟩:=trodVars_none hV
 obtain ⟨x0,a0,g0,m0⟩:=Opn.arg on9 (by rw [Tryz.underlying9]) (hval 0 _ v0 rfl rfl) h0
 have hb:Rows.uptoBulkAll ([d0]:List (DataW H))<=1048576:=of_decide_eq_true hk
 simp only [Rows.uptoBulkAll] at hb
 refine u7 laid Tryz.underlying4 (by kernel_rfl) ok rfl rfl rfl rfl hW' (av:=[_]) (.cons a0 (.nil)) (rC (rV x0 g0 (by omega))) hG
set_option maxRecDepth 100000 in
def flatV:Nat->DataW Unit->List Value
 | _,.lit (.int k x)=>[.int k x]
 | f+1,.agg l=>(l.map (flatV f)).flatten
 | _,_=>[]
def putC (d:DataW Unit):Go.Obj->Go.Obj
 | .cells c t frozen=>.cells (match d with | .agg l=>(flatV 4 (.agg l)).toArray | _=>c) t frozen
 | o=>o
def putI (ty:TypeId) (b:Nat):Go.Obj->Go.Obj
 | .cells _ t frozen=>.cells #[.iface ty (.pointer (some ⟨b,0,none⟩))] t frozen
 | o=>o
def strOf:DataW Unit->List UInt8
 | .iface _ (.ptr (.agg [.lit (.string b)]))=>b
 | _=>[]
def datum (x:String):DataW Unit:=((Rows.taleParseUptoRow.laid.find? fun p=>p.1==x).map (·.2)).getD .nil
noncomputable def laidWorld (os:Os):World :=
 { World.holding Tryz.prog os ⟨#[],#[],[]⟩ with heap:=(((((((((((World.holding Tryz.prog os ⟨#[],#[],[]⟩).heap.modify 0 (putC (datum "internal/bytealg.MaxLen"))).modify 1 (putI 158 ((World.holding Tryz.prog os ⟨#[],#[],[]⟩).heap.size+0))).modify 2 (putI 158 ((World.holding Tryz.prog os ⟨#[],#[],[]⟩).heap.size+1))).modify 3 (putC (datum "internal/strconv.uint64pow10"))).modify 4 (putC (datum "unicode/utf8.first"))).modify 5 (putC (datum "unicode/utf8.acceptRanges"))).modify 6 (putC (datum "math/bits.deBruijn32tab"))).modify 7 (putC (datum "math/bits.deBruijn64tab"))).push (.cells #[.string ⟨(strOf (datum "strconv.ErrSyntax")).toArray⟩] 160 (0,0))).push (.cells #[.string ⟨(strOf (datum "strconv.ErrRange")).toArray⟩] 160 (0,0))) }
theorem laid_met (os:Os):laidMet Tryz.prog Rows.taleParseUptoRow.laid ((laidWorld os).forCall (fun _ _=>0) ⟨#[],#[.string ⟨#[]⟩],[]⟩).memory :=
 laidMet_of_run' 8 (by kernel_rfl) (by kernel_rfl)
theorem reads (os:Os) {H:Type} (enc:TypeId × Value->H):∃ places,DataW.whole enc Tryz.prog ((laidWorld os).forCall (fun _ _=>0) ⟨#[],#[.string ⟨#[]⟩],[]⟩).memory Tryz.f3.params.toList Rows.taleParseSpec.vars false #[.string ⟨#[]⟩].toList 8=some ([.lit (.string [])],[],places) :=
 ⟨[],by kernel_rfl⟩
set_option maxRecDepth 100000 in
theorem lifted (os:Os) (started:os.Started) (H:Type) (enc:TypeId × Value->H) (F:Stop.Interp) :
  ReturnsInHanded {} Tryz.checked os 3 .any ((Rows.OpenSpec.upto Rows.taleParseSpec).preRow enc Tryz.prog Tryz.f3 Rows.taleParseUptoRow.domain false Rows.taleParseUptoRow.laid) (((Rows.OpenSpec.upto Rows.taleParseSpec).at F).post enc Tryz.prog Tryz.f3 false true false false):=by
 obtain ⟨places,hx⟩:=reads os enc
 refine returnsInHanded_of_row (C:=Tryz.checked) (s:=Rows.OpenSpec.upto Rows.taleParseSpec) own started (by kernel_rfl) Tryz.func3
  (witness_row_at (enc:=enc) (C:=Tryz.checked) false (laidWorld os) #[.string ⟨#[]⟩] rfl (by kernel_rfl) (by kernel_rfl) (by kernel_rfl)
   (OpenSpec.preRow_of_cond 8 hx (by kernel_rfl) (fun k hk=>by cases hk;kernel_rfl) (by kernel_rfl) (laid_met os))) ?_
 intro W base args ds gs before hval hW _ hk _ hL _ _
 exact contract H enc W base args ds gs before hval hW (hk _ rfl) (gd_of hL)
theorem said:Rows.TaleParseUptoSaid :=
 OpenClaim.holds_of_cond 3 Tryz.f3 rfl rfl rfl rfl rfl rfl rfl ⟨rfl,rfl,rfl,rfl,rfl⟩ rfl rfl rfl rfl rfl (by kernel_rfl) Tryz.func3 (by kernel_rfl)
  (of_decide_eq_true (by kernel_rfl)) (by unfold Func.isWrapper;first | (rw [if_pos (by decide +kernel)];kernel_rfl) | (rw [if_neg (by decide +kernel)];exact ⟨rfl,rfl⟩))
  (fun os started H enc _ F=>by rw [OpenClaim.pre_eq_preRow];exact lifted os started H enc F)
theorem plain (f:FuncId) (fn:Func) (hf:Tryz.pinned.checked.prog.funcNamed "crossroads/crosslaw.TaleParse" = some f) (hfn:Tryz.pinned.checked.prog.funcs[f]?=some fn) :
  true=Tryz.pinned.checked.prog.looks []/\∀ (j:Nat) t,fn.params[j]?=some t->Tryz.pinned.checked.prog.wantsStandIn t=false:=by
 obtain rfl:f=3:=zL ((show Tryz.prog.funcNamed "crossroads/crosslaw.TaleParse" = some 3 by kernel_rfl).symm.trans hf) |>.symm
 obtain rfl:fn=Tryz.f3:=(zL (Tryz.func3.symm.trans hfn)).symm
 refine ⟨by kernel_rfl,fun j t ht=>?_⟩
 have h:(Tryz.f3.params.toList.all fun t=>!Tryz.prog.wantsStandIn t)=true:=by kernel_rfl
 have h:=Ak.1 h t (by simpa using Array.mem_of_getElem? ht)
 exact (show Tryz.prog.wantsStandIn t=false by simpa using h)
theorem proved:Rows.TaleParseUptoCardSaid :=
 Claim7.holds_tied_plain_at .later [] _ _ _ _ said (fun _ h=>by cases h) (by kernel_rfl) (fun _ h=>by cases h) taleParseUpto_row_tie rfl ⟨rfl,rfl⟩ (by kernel_rfl) rfl plain (by kernel_rfl)
#print axioms proved
end Go.Proofs.YtbfncjgaklimlaaGreatDoor.taleParseLaw
