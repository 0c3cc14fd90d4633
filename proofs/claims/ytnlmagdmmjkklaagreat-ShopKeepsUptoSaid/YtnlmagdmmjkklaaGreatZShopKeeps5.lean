/-
  Part 5 of the proof of shopKeepsLaw.proved: the code computes these functions, and the law holds of them, with no condition beyond the statement's own; put together by a program of ours (wip/decl.py) out of texts of ours.
-/
import Derived.Test.YtnlmagdmmjkklaaGreatZShopKeeps4
set_option linter.unusedVariables false
set_option linter.unusedSimpArgs false
namespace Go.Proofs.YtnlmagdmmjkklaaGreat
theorem yj (R i:Int) (hi:0<=i):∀ (rs:List Int) (l l1:List Ends),(l.length:Int)=R->gH R i rs l=.inr l1 ->
  (∀ r∈rs,0<=r/\r<R/\∀ e,l[r.toNat]?=some e->e.dst<0)/\rs.Nodup/\∀ j:Nat,l1[j]?=if (j:Int)∈rs then (l[j]?).map (fun e=>⟨e.src,i⟩) else l[j]?
 | [],l,l1,hl,h=>by cases h;exact ⟨fun r hr=>by simp at hr,NM,fun j=>by simp⟩
 | r :: rs,l,l1,hl,h=>by
  unfold gH at h;split at h
  ·cases h
  ·rename_i hr;split at h
   ·cases h
   ·rename_i e he;split at h
    ·cases h
    ·rename_i hd;have hlt:r.toNat<l.length:=(LH.1 he).1;obtain ⟨h1,h2,h3⟩:=yj R i hi rs _ l1 (by simpa using hl) h;have hnot:r ∉ rs:=fun hm=>by
      have:=(h1 r hm).2.2 ⟨e.src,i⟩ (by rw [LY,if_pos rfl,if_pos hlt]);simp at this;omega
     refine ⟨fun q hq=>?_,Nw.2 ⟨hnot,h2⟩,fun j=>?_⟩
     ·rcases Md.1 hq with rfl | hq
      ·exact ⟨by omega,by omega,fun e' he'=>by rw [he] at he';cases he';omega⟩
      ·obtain ⟨a,b,c⟩:=h1 q hq;refine ⟨a,b,fun e' he'=>?_⟩;have hne:q≠r:=fun e=>hnot (e▸hq)
       exact c e' (by rw [LY,if_neg (by omega)];exact he')
     ·rw [h3 j,LY];by_cases hj:(j:Int)=r
      ·have hjr:r.toNat=j:=by omega
       rw [if_neg (by rw [hj];exact hnot),if_pos hjr,if_pos hlt,if_pos (by rw [hj];exact L0),<- hjr,he];rfl
      ·have hjr:¬ r.toNat=j:=by omega
       rw [if_neg hjr];by_cases hm:(j:Int)∈rs
       ·rw [if_pos hm,if_pos (L2 _ hm)]
       ·rw [if_neg hm,if_neg (by simp [hj,hm])]
theorem yh (R i:Int) (hi:0<=i):∀ (rs:List Int) (l l1:List Ends),(l.length:Int)=R->fo R i rs l=.inr l1 ->
  (∀ r∈rs,0<=r/\r<R/\∀ e,l[r.toNat]?=some e->e.src<0)/\rs.Nodup/\∀ j:Nat,l1[j]?=if (j:Int)∈rs then (l[j]?).map (fun e=>⟨i,e.dst⟩) else l[j]?
 | [],l,l1,hl,h=>by cases h;exact ⟨fun r hr=>by simp at hr,NM,fun j=>by simp⟩
 | r :: rs,l,l1,hl,h=>by
  unfold fo at h;split at h
  ·cases h
  ·rename_i hr;split at h
   ·cases h
   ·rename_i e he;split at h
    ·cases h
    ·rename_i hd;have hlt:r.toNat<l.length:=(LH.1 he).1;obtain ⟨h1,h2,h3⟩:=yh R i hi rs _ l1 (by simpa using hl) h;have hnot:r ∉ rs:=fun hm=>by
      have:=(h1 r hm).2.2 ⟨i,e.dst⟩ (by rw [LY,if_pos rfl,if_pos hlt]);simp at this;omega
     refine ⟨fun q hq=>?_,Nw.2 ⟨hnot,h2⟩,fun j=>?_⟩
     ·rcases Md.1 hq with rfl | hq
      ·exact ⟨by omega,by omega,fun e' he'=>by rw [he] at he';cases he';omega⟩
      ·obtain ⟨a,b,c⟩:=h1 q hq;refine ⟨a,b,fun e' he'=>?_⟩;have hne:q≠r:=fun e=>hnot (e▸hq)
       exact c e' (by rw [LY,if_neg (by omega)];exact he')
     ·rw [h3 j,LY];by_cases hj:(j:Int)=r
      ·have hjr:r.toNat=j:=by omega
       rw [if_neg (by rw [hj];exact hnot),if_pos hjr,if_pos hlt,if_pos (by rw [hj];exact L0),<- hjr,he];rfl
      ·have hjr:¬ r.toNat=j:=by omega
       rw [if_neg hjr];by_cases hm:(j:Int)∈rs
       ·rw [if_pos hm,if_pos (L2 _ hm)]
       ·rw [if_neg hm,if_neg (by simp [hj,hm])]
structure Looked (ns:List Node) (R:Int) (k:Nat) (l:List Ends):Prop where
 len:(l.length:Int)=R
 src:∀ (j:Nat) e,l[j]?=some e->(e.src<0∨∃ (i:Nat) (x:Node),i<k/\ns[i]?=some x/\e.src=i/\(j:Int)∈x.Out)
 dst:∀ (j:Nat) e,l[j]?=some e->(e.dst<0∨∃ (i:Nat) (x:Node),i<k/\ns[i]?=some x/\e.dst=i/\(j:Int)∈x.In)
 node:∀ (i:Nat) x,i<k->ns[i]?=some x->kD x=0/\x.In.Nodup/\x.Out.Nodup /\
  (∀ r∈x.In,0<=r/\r<R/\∃ e,l[r.toNat]?=some e/\e.dst=i)/\(∀ r∈x.Out,0<=r/\r<R/\∃ e,l[r.toNat]?=some e/\e.src=i)
theorem Looked.one {ns:List Node} {R:Int} {k:Nat} {l l1:List Ends} {x:Node} (h:Looked ns R k l) (hx:ns[k]?=some x) (ho:oneN R k x l=.inr l1):Looked ns R (k+1) l1:=by
 unfold oneN at ho;split at ho
 ·cases ho
 ·rename_i hne;split at ho
  ·cases ho
  ·rename_i l2 h2;have hl2:(l2.length:Int)=R:=by rw [si R k _ _ _ h2];exact h.len
   obtain ⟨a1,a2,a3⟩:=yj R k (by omega) _ _ _ h.len h2;obtain ⟨b1,b2,b3⟩:=yh R k (by omega) _ _ _ hl2 ho;have hent:∀ (j:Nat) e1,l1[j]?=some e1->∃ e,l[j]?=some e/\e1.src=(if (j:Int)∈x.Out then (k:Int) else e.src)/\e1.dst=(if (j:Int)∈x.In then (k:Int) else e.dst):=fun j e1 he1=>by
    rw [b3 j,a3 j] at he1;cases hj:l[j]? with
    | none=>rw [hj] at he1;split at he1<;>split at he1<;>cases he1
    | some e =>
     rw [hj] at he1;refine ⟨e,rfl,?_⟩;split at he1<;>split at he1<;>cases he1<;>simp_all
   have hent2:∀ (j:Nat) e,l[j]?=some e->∃ e1,l1[j]?=some e1/\e1.src=(if (j:Int)∈x.Out then (k:Int) else e.src)/\e1.dst=(if (j:Int)∈x.In then (k:Int) else e.dst):=fun j e he=>by
    have hlt:j<l1.length:=by have:=se R k _ _ _ ho;have:=si R k _ _ _ h2;have:=(LH.1 he).1;omega
    obtain ⟨e',h1,h3⟩:=hent j _ (LG hlt);rw [he] at h1;cases h1;exact ⟨_,LG hlt,h3⟩
   refine ⟨by rw [se R k _ _ _ ho];exact hl2,fun j e1 he1=>?_,fun j e1 he1=>?_,fun i y hi hy=>?_⟩
   ·obtain ⟨e,he,hs,_⟩:=hent j e1 he1;by_cases hm:(j:Int)∈x.Out
    ·rw [if_pos hm] at hs;exact .inr ⟨k,x,by omega,hx,hs,hm⟩
    ·rw [if_neg hm] at hs;rw [hs];rcases h.src j e he with h1 | ⟨i,y,h1,h2,h3,h4⟩
     ·exact .inl h1
     ·exact .inr ⟨i,y,by omega,h2,h3,h4⟩
   ·obtain ⟨e,he,_,hs⟩:=hent j e1 he1;by_cases hm:(j:Int)∈x.In
    ·rw [if_pos hm] at hs;exact .inr ⟨k,x,by omega,hx,hs,hm⟩
    ·rw [if_neg hm] at hs;rw [hs];rcases h.dst j e he with h1 | ⟨i,y,h1,h2,h3,h4⟩
     ·exact .inl h1
     ·exact .inr ⟨i,y,by omega,h2,h3,h4⟩
   ·rcases Nat.lt_or_ge i k with hik | hik
    ·obtain ⟨c1,c2,c3,c4,c5⟩:=h.node i y hik hy;refine ⟨c1,c2,c3,fun r hr=>?_,fun r hr=>?_⟩
     ·obtain ⟨d1,d2,e,d3,d4⟩:=c4 r hr;refine ⟨d1,d2,?_⟩;obtain ⟨e1,f1,_,f2⟩:=hent2 _ e d3;have hnm:(r.toNat:Int) ∉ x.In:=fun hm=>by
       have:=(a1 _ hm).2.2 e (by rw [L7];exact d3);omega
      rw [if_neg hnm] at f2;exact ⟨e1,f1,f2.trans d4⟩
     ·obtain ⟨d1,d2,e,d3,d4⟩:=c5 r hr;refine ⟨d1,d2,?_⟩;obtain ⟨e1,f1,f2,_⟩:=hent2 _ e d3;have hnm:(r.toNat:Int) ∉ x.Out:=fun hm=>by
       have hl2e:∃ e2,l2[r.toNat]?=some e2/\e2.src=e.src:=by rw [a3];split<;>simp [d3]
       obtain ⟨e2,g1,g2⟩:=hl2e;have:=(b1 _ hm).2.2 e2 (by rw [L7];exact g1);omega
      rw [if_neg hnm] at f2;exact ⟨e1,f1,f2.trans d4⟩
    ·have hik:i=k:=by omega
     subst hik;rw [hx] at hy;cases hy;refine ⟨by simpa using hne,a2,b2,fun r hr=>?_,fun r hr=>?_⟩
     ·obtain ⟨d1,d2,_⟩:=a1 r hr;refine ⟨d1,d2,?_⟩;have hlt:r.toNat<l.length:=by have:=h.len;omega
      obtain ⟨e1,f1,_,f2⟩:=hent2 _ _ (LG hlt);rw [if_pos (by rw [Mf d1];exact hr)] at f2;exact ⟨e1,f1,f2⟩
     ·obtain ⟨d1,d2,_⟩:=b1 r hr;refine ⟨d1,d2,?_⟩;have hlt:r.toNat<l.length:=by have:=h.len;omega
      obtain ⟨e1,f1,f2,_⟩:=hent2 _ _ (LG hlt);rw [if_pos (by rw [Mf d1];exact hr)] at f2;exact ⟨e1,f1,f2⟩
theorem Looked.start (ns:List Node) (R:Nat):Looked ns R 0 (List.replicate R gj) :=
 ⟨by simp,fun j e he=>by rw [MY] at he;split at he<;>cases he;exact .inl (by decide),fun j e he=>by rw [MY] at he;split at he<;>cases he;exact .inl (by decide),fun i x hi=>by omega⟩
theorem yR (ns:List Node) (R:Int):∀ (xs:List Node) (k s:Nat) (l:List Ends) (s1:Nat) (l1:List Ends),ns.drop k=xs->Looked ns R k l->iK R k xs s l=.inr (s1,l1) ->
  Looked ns R ns.length l1/\s1=s+(xs.filter (fun x=>decide (x.Kind=8))).length
 | [],k,s,l,s1,l1,hd,h,hn=>by
  cases hn;have hk:ns.length<=k:=List.drop_eq_nil_iff.1 hd;refine ⟨⟨h.len,fun j e he=>?_,fun j e he=>?_,fun i x hi hx=>h.node i x (by omega) hx⟩,by simp⟩
  ·rcases h.src j e he with h1 | ⟨i,y,h1,h2,h3⟩
   ·exact .inl h1
   ·exact .inr ⟨i,y,(LH.1 h2).1,h2,h3⟩
  ·rcases h.dst j e he with h1 | ⟨i,y,h1,h2,h3⟩
   ·exact .inl h1
   ·exact .inr ⟨i,y,(LH.1 h2).1,h2,h3⟩
 | x::xs,k,s,l,s1,l1,hd,h,hn=>by
  have hx:ns[k]?=some x:=by have:=congrArg (fun l=>l[0]?) hd;simpa [Ml] using this
  have hd2:ns.drop (k+1)=xs:=by have:=congrArg (List.drop 1) hd;simpa [Nr,NB] using this
  unfold iK at hn;split at hn
  ·cases hn
  ·rename_i l2 h2;obtain ⟨a,b⟩:=yR ns R xs (k+1) _ l2 s1 l1 hd2 (h.one hx h2) hn;refine ⟨a,?_⟩;rw [b];by_cases h8:x.Kind=8
   ·simp [h8];omega
   ·simp [h8]
structure NetL (n:Net) (l:List Ends):Prop where
 n1:1<=n.Nodes.length
 n2:n.Nodes.length<=12
 r1:0<=n.Rings
 r2:n.Rings<=16
 m1:1<=n.Room
 m2:n.Room<=6
 len:(l.length:Int)=n.Rings
 src:∀ (j:Nat) e,l[j]?=some e->∃ (i:Nat) (x:Node),n.Nodes[i]?=some x/\e.src=i/\(j:Int)∈x.Out
 dst:∀ (j:Nat) e,l[j]?=some e->∃ (i:Nat) (x:Node),n.Nodes[i]?=some x/\e.dst=i/\(j:Int)∈x.In
 err:∀ (i:Nat) x,n.Nodes[i]?=some x->kD x=0
 ndI:∀ (i:Nat) x,n.Nodes[i]?=some x->x.In.Nodup
 ndO:∀ (i:Nat) x,n.Nodes[i]?=some x->x.Out.Nodup
 inn:∀ (i:Nat) x,n.Nodes[i]?=some x->∀ r∈x.In,0<=r/\r<n.Rings/\∃ e,l[r.toNat]?=some e/\e.dst=i
 out:∀ (i:Nat) x,n.Nodes[i]?=some x->∀ r∈x.Out,0<=r/\r<n.Rings/\∃ e,l[r.toNat]?=some e/\e.src=i
 sink:(n.Nodes.filter (fun x=>decide (x.Kind=8))).length=1
theorem zX {n:Net} {l:List Ends} (h:iR n=.inr l):NetL n l:=by
 unfold iR at h;split at h
 ·cases h
 ·rename_i h1;split at h
  ·cases h
  ·rename_i h2;split at h
   ·cases h
   ·rename_i s l' hn;split at h
    ·cases h
    ·rename_i hany;split at h
     ·cases h
     ·rename_i hs;cases h;have hst:=Looked.start n.Nodes n.Rings.toNat;rw [Mf (by omega)] at hst;obtain ⟨a,b⟩:=yR n.Nodes n.Rings n.Nodes 0 0 _ s l (by simp) hst hn;have hpos:∀ (j:Nat) e,l[j]?=some e->¬ e.src<0/\¬ e.dst<0:=fun j e he=>by
       have hm:=LJ he;simp only [NQ,not_exists,not_and] at hany;have:=hany e hm;simp at this;omega
      refine ⟨by omega,by omega,by omega,by omega,by omega,by omega,a.len,fun j e he=>?_,fun j e he=>?_,fun i x hx=>(a.node i x (LH.1 hx).1 hx).1,fun i x hx=>(a.node i x (LH.1 hx).1 hx).2.1,fun i x hx=>(a.node i x (LH.1 hx).1 hx).2.2.1,fun i x hx=>(a.node i x (LH.1 hx).1 hx).2.2.2.1,fun i x hx=>(a.node i x (LH.1 hx).1 hx).2.2.2.2,by omega⟩
      ·rcases a.src j e he with h3 | ⟨i,y,_,h4⟩
       ·exact absurd h3 (hpos j e he).1
       ·exact ⟨i,y,h4⟩
      ·rcases a.dst j e he with h3 | ⟨i,y,_,h4⟩
       ·exact absurd h3 (hpos j e he).2
       ·exact ⟨i,y,h4⟩
section
def kH (ok:Nat->Bool):Nat->Nat->Option Nat
 | 0,_=>none
 | m+1,k=>if ok k then some k else kH ok m (k+1)
theorem xK {ok:Nat->Bool}:∀ {m k i:Nat},kH ok m k=some i->k<=i/\i<k+m/\ok i=true
 | 0,k,i,h=>by cases h
 | m+1,k,i,h=>by
  unfold kH at h;split at h
  ·rename_i hk;cases h;exact ⟨by omega,by omega,hk⟩
  ·obtain ⟨a,b,c⟩:=xK h;exact ⟨by omega,by omega,c⟩
def fedN (l:List Ends) (out:List Nat) (x:Node):Bool:=x.In.all fun r=>match l[r.toNat]? with | some e=>out.contains e.src.toNat | none=>false
def okN (l:List Ends) (out:List Nat) (ns:List Node) (i:Nat):Bool:=!(out.contains i) && (match ns[i]? with | some x=>fedN l out x | none=>false)
def ordN (l:List Ends) (ns:List Node):Nat->List Nat->Option (List Nat)
 | 0,out=>some out
 | m+1,out=>match kH (okN l out ns) ns.length 0 with
  | none=>none
  | some i=>ordN l ns m (out++[i])
def netR (n:Net):List Int × Int:=match iR n with
 | .inl e=>([],e)
 | .inr l=>match ordN l n.Nodes n.Nodes.length [] with
  | none=>([],7)
  | some out=>(out.map (fun i:Nat=>(i:Int)),0)
def da (N:Nat) (out:List Nat):List Bool:=(List.range N).map fun i=>out.contains i
theorem lQ {N:Nat} {out:List Nat} {i:Nat} (h:i<N):(da N out)[i]?=some (out.contains i):=by unfold da;rw [LT,Ni h];rfl
theorem lR {N:Nat} {out:List Nat}:(da N out).length=N:=by simp [da]
theorem Gr {N:Nat} {out:List Nat} {i:Nat} (h:i<N):(da N out).set i true=da N (out++[i]):=by
 apply MZ;intro j;rw [LY,lR];by_cases hj:j<N
 ·rw [lQ hj];by_cases hij:i=j
  ·subst hij;rw [if_pos rfl,if_pos h,lQ h];simp
  ·rw [if_neg hij,lQ hj];have:¬ j=i:=fun e=>hij e.symm
   simp [this]
 ·rw [Mb (by rw [lR];omega),Mb (by rw [lR];omega),if_neg (by omega)]
theorem Gv (N:Nat):List.replicate N false=da N []:=by
 apply MZ;intro j;rw [MY];by_cases hj:j<N
 ·rw [if_pos hj,lQ hj];rfl
 ·rw [if_neg hj,Mb (by rw [lR];omega)]
theorem G4 {n:Net} (out:List Nat) (ho:out.length<=12) (z:Option Nat) (hz:∀ i,z=some i->i<n.Nodes.length):lz (out.map (fun i:Nat=>(i:Int))) (da n.Nodes.length out) (match z with | some i=>(i:Int) | none => -1)=match z with
  | some i=>some (.inl ((out++[i]).map (fun i:Nat=>(i:Int)),da n.Nodes.length (out++[i])))
  | none=>some (.inr ([],7)):=by
 unfold lz
 cases z with
 | none=>rfl
 | some i =>
  have hi:=hz i rfl
  simp only
  rw [if_neg (by rw [decide_eq_true_iff];omega)]
  have e1:ixN (da n.Nodes.length out) (i:Int)=some i:=by unfold ixN;rw [if_pos (by rw [lR];omega)];rfl
  simp only [e1,LF,lQ hi]
  rw [cJ (by simp;omega),LF,Gr hi]
  simp
section
variable {n:Net} {l:List Ends} (hn:NetL n l)
include hn
theorem Kq {j:Nat} {e:Ends} (h:l[j]?=some e):0<=e.src/\e.src.toNat<n.Nodes.length:=by obtain ⟨i,x,h1,h2,_⟩:=hn.src j e h;have:=(LH.1 h1).1;omega
theorem FV {i:Nat} {x:Node} (hx:n.Nodes[i]?=some x) (out:List Nat) {r:Int} (hr:r∈x.In) :
  pg r (da n.Nodes.length out) l=some (!(match l[r.toNat]? with | some e=>out.contains e.src.toNat | none=>false)):=by
 obtain ⟨h1,h2,e,h3,_⟩:=hn.inn i x hx r hr
 have hlt:=(LH.1 h3).1
 obtain ⟨h4,h5⟩:=Kq hn h3
 have e1:ixN l r=some r.toNat:=by unfold ixN;rw [if_pos (by omega)]
 have e2:ixN (da n.Nodes.length out) e.src=some e.src.toNat:=by unfold ixN;rw [if_pos (by rw [lR];omega)]
 unfold pg
 simp only [e1,LF,h3,e2,lQ h5]
theorem EZ {i:Nat} {x:Node} (hx:n.Nodes[i]?=some x) (out:List Nat) (hl:x.In.length<=1099511627776):mX x.In (da n.Nodes.length out) l=some (!fedN l out x):=by
 unfold mX rm;have:=nM (σ:=Unit) x.In hl (fun k _=>(k:Int)) (body:=fun ss=>mY x.In (da n.Nodes.length out) l ss)
  (fun k r _=>if (match l[r.toNat]? with | some e=>out.contains e.src.toNat | none=>false)=false then some (.inr (k:Int)) else some (.inl ())) (fun _=>some (-1)) ()
  (fun k r _ hk hlt h1 h2 h3=>by unfold mY;rw [h2,h1,h3];simp only [if_true,LF];rw [FV hn hx out (LJ hk),LF];generalize (match l[r.toNat]? with | some e=>out.contains e.src.toNat | none=>false)=b;cases b<;>rfl)
  (fun _ h=>by unfold mY;rw [h];rfl)
 simp only [Mt] at this;rw [this];have key:∀ (ys:List Int) (k:Nat),∃ v:Int,dO (σ:=Unit) (fun k r _=>if (match l[r.toNat]? with | some e=>out.contains e.src.toNat | none=>false)=false then some (.inr (k:Int)) else some (.inl ())) (fun _=>some (-1:Int)) k ys ()=some v /\
   decide (v >= 0)=!(ys.all fun r=>match l[r.toNat]? with | some e=>out.contains e.src.toNat | none=>false):=by
  intro ys
  induction ys with
  | nil=>intro k;exact ⟨-1,rfl,by simp⟩
  | cons y ys ih =>
   intro k
   unfold dO
   by_cases h:(match l[y.toNat]? with | some e=>out.contains e.src.toNat | none=>false)=false
   ·rw [if_pos h]
    exact ⟨k,rfl,by rw [NX,h];simp⟩
   ·rw [if_neg h]
    simp only
    obtain ⟨v,h1,h2⟩:=ih (k+1)
    refine ⟨v,h1,?_⟩
    rw [h2,NX]
    have h':(match l[y.toNat]? with | some e=>out.contains e.src.toNat | none=>false)=true:=by simpa using h
    rw [h'];simp
 obtain ⟨v,h1,h2⟩:=key x.In 0;rw [h1,LF,h2];rfl
theorem Aw (hio:∀ x∈n.Nodes,x.In.length<=1099511627776) (q:Int) (out:List Nat) (ho:out.length<=12):∀ (m k:Nat),k+m=n.Nodes.length ->
  iter (fun ss:Int=>j5 n (l,q) (out.map (fun i:Nat=>(i:Int))) (da n.Nodes.length out) ss) (k:Int)=match kH (okN l out n.Nodes) m k with
   | some i=>some (.inl ((out++[i]).map (fun i:Nat=>(i:Int)),da n.Nodes.length (out++[i])))
   | none=>some (.inr ([],7))
 | 0,k,h=>by
  have hk:k=n.Nodes.length:=by omega
  subst hk;have:j5 n (l,q) (out.map (fun i:Nat=>(i:Int))) (da n.Nodes.length out) (n.Nodes.length:Int)=some (.inr (.inr ([],7))):=by unfold j5;rw [if_neg (by simp)];rfl
  rw [aH,this];rfl
 | m+1,k,h=>by
  have hlt:k<n.Nodes.length:=by omega
  have hn2:=hn.n2;have hx:n.Nodes[k]?=some n.Nodes[k]:=LG hlt;have e1:ixN (da n.Nodes.length out) (k:Int)=some k:=by unfold ixN;rw [if_pos (by rw [lR];omega)];rfl
  have hstep:j5 n (l,q) (out.map (fun i:Nat=>(i:Int))) (da n.Nodes.length out) (k:Int)=if okN l out n.Nodes k then some (.inr (.inl ((out++[k]).map (fun i:Nat=>(i:Int)),da n.Nodes.length (out++[k])))) else some (.inl ((k+1:Nat):Int)):=by
   unfold j5;rw [if_pos (by simp;omega),bv hx,LF];simp only [e1,LF,lQ hlt];have hok:okN l out n.Nodes k=(!(out.contains k) && fedN l out n.Nodes[k]):=by unfold okN;rw [hx]
   have hin:(if (!(out.contains k))=true then (mX n.Nodes[k].In (da n.Nodes.length out) l).bind fun x12=>some (!x12) else some false)=some (okN l out n.Nodes k):=by rw [EZ hn hx out (hio _ (Mk hlt)),hok];cases out.contains k<;>simp
   rw [hin,LF,bt (by omega)];by_cases hb:okN l out n.Nodes k=true
   ·rw [if_pos hb,if_pos hb];have:=G4 (n:=n) out ho (some k) (fun i e=>by cases e;exact hlt);simp only at this;rw [this];rfl
   ·rw [if_neg hb,if_neg hb]
  rw [aH,hstep,kH];by_cases hb:okN l out n.Nodes k=true
  ·simp only [if_pos hb]
  ·simp only [if_neg hb];exact Aw hio q out ho m (k+1) (by omega)
theorem AE (hio:∀ x∈n.Nodes,x.In.length<=1099511627776) (q:Int):∀ (m:Nat) (out:List Nat),out.length+m=n.Nodes.length ->
  iter (fun ss:List Int × List Bool=>j6 n (l,q) ss.1 ss.2) (out.map (fun i:Nat=>(i:Int)),da n.Nodes.length out)=some (match ordN l n.Nodes m out with
   | none=>([],7)
   | some out=>(out.map (fun i:Nat=>(i:Int)),0))
 | 0,out,h=>by
  have:j6 n (l,q) (out.map (fun i:Nat=>(i:Int))) (da n.Nodes.length out)=some (.inr (out.map (fun i:Nat=>(i:Int)),0)):=by unfold j6;rw [if_neg (by simp;omega)];rfl
  rw [aH];simp only [this,ordN]
 | m+1,out,h=>by
  have hstep:j6 n (l,q) (out.map (fun i:Nat=>(i:Int))) (da n.Nodes.length out)=match kH (okN l out n.Nodes) n.Nodes.length 0 with
   | some i=>some (.inl ((out++[i]).map (fun i:Nat=>(i:Int)),da n.Nodes.length (out++[i])))
   | none=>some (.inr ([],7)):=by
   unfold j6
   rw [if_pos (by simp;omega)]
   have:=Aw hn hio q out (by have:=hn.n2;omega) n.Nodes.length 0 (by omega)
   simpa using this
  rw [aH];simp only [hstep,ordN];cases kH (okN l out n.Nodes) n.Nodes.length 0 with
  | none=>rfl
  | some i =>
   simp only;exact AE hio q m (out++[i]) (by simp;omega)
end
theorem Aj (R i:Int):∀ (rs:List Int) (l:List Ends),gH R i rs l≠.inl 0
 | [],l,h=>by cases h
 | r::rs,l,h=>by
  unfold gH at h;split at h
  ·exact absurd (Nb h) (by decide)
  ·split at h
   ·exact absurd (Nb h) (by decide)
   ·split at h
    ·exact absurd (Nb h) (by decide)
    ·exact Aj R i rs _ h
theorem zY (R i:Int):∀ (rs:List Int) (l:List Ends),fo R i rs l≠.inl 0
 | [],l,h=>by cases h
 | r::rs,l,h=>by
  unfold fo at h;split at h
  ·exact absurd (Nb h) (by decide)
  ·split at h
   ·exact absurd (Nb h) (by decide)
   ·split at h
    ·exact absurd (Nb h) (by decide)
    ·exact zY R i rs _ h
theorem Jm (R:Int) (i:Nat) (x:Node) (l:List Ends):oneN R i x l≠.inl 0:=fun h=>by
 unfold oneN at h;split at h
 ·rename_i hne;exact hne (Nb h)
 ·split at h
  ·rename_i h2;cases h;exact Aj _ _ _ _ h2
  ·exact zY _ _ _ _ h
theorem yI (R:Int):∀ (xs:List Node) (k s:Nat) (l:List Ends),iK R k xs s l≠.inl 0
 | [],k,s,l,h=>by cases h
 | x::xs,k,s,l,h=>by
  unfold iK at h;split at h
  ·rename_i h2;cases h;exact Jm _ _ _ _ h2
  ·exact yI R xs _ _ _ h
theorem An (n:Net):iR n≠.inl 0:=fun h=>by
 unfold iR at h;split at h
 ·exact absurd (Nb h) (by decide)
 ·split at h
  ·exact absurd (Nb h) (by decide)
  ·split at h
   ·rename_i h2;cases h;exact yI _ _ _ _ _ h2
   ·split at h
    ·exact absurd (Nb h) (by decide)
    ·split at h
     ·exact absurd (Nb h) (by decide)
     ·cases h
theorem El (n:Net) (hio:∀ x∈n.Nodes,x.In.length<=1099511627776/\x.Out.length<=1099511627776):pZ n=some (netR n):=by
 unfold pZ netR;rw [EA n hio,LF];cases h:iR n with
 | inl e =>
  simp only;have he:e≠0:=fun e0=>An n (e0▸h)
  rw [if_pos (by simpa using he)]
 | inr l =>
  simp only;have hn:=zX h;rw [if_neg (by simp)];have hmk:mk (n.Nodes.length:Int) false=some (da n.Nodes.length []):=by unfold mk;rw [if_pos (by have:=hn.n2;omega),<- Gv];rfl
  rw [hmk,LF];have:=AE hn (fun x hx=>(hio x hx).1) 0 n.Nodes.length [] (by simp);simp only [NS] at this;rw [this]
theorem xv (n:Net) (hio:∀ x∈n.Nodes,x.In.length<=1099511627776/\x.Out.length<=1099511627776):nW n=some (netR n).2:=by unfold nW;rw [El n hio];rfl
end
section
theorem xf {κ ν:Type} [DecidableEq κ] (k:κ) (v:ν):∀ m:List (κ × ν),mget k (mset k v m)=some v
 | []=>by simp [mset,mget]
 | p::r=>by
  unfold mset;split
  ·simp [mget]
  ·rename_i h;simp only [mget,if_neg h];exact xf k v r
theorem xA {κ ν:Type} [DecidableEq κ] {k k':κ} (v:ν) (hk:k≠k'):∀ m:List (κ × ν),mget k (mset k' v m)=mget k m
 | []=>by simp [mset,mget,hk]
 | p::r=>by
  unfold mset;split
  ·rename_i h;simp only [mget,if_neg hk];rw [if_neg (fun e=>hk (e.trans h.symm))]
  ·simp only [mget];rw [xA v hk r]
theorem xq {κ ν:Type} [DecidableEq κ] {k:κ} (v:ν):∀ {m:List (κ × ν)},mget k m=none->(mset k v m).length=m.length+1
 | [],_=>rfl
 | p::r,h=>by
  simp only [mget] at h;split at h
  ·cases h
  ·rename_i hk;simp only [mset,if_neg hk,LW];rw [xq v h]
structure MRi (v:List Int) (m:List (Int × Int)):Prop where
 len:m.length=v.countP (fun x=>decide (0<=x))
 get:∀ (j:Nat) x,v[j]?=some x->mget (j:Int) m=if x<0 then none else some x
theorem MRi.set {v:List Int} {m:List (Int × Int)} (h:MRi v m) {j:Nat} {x y:Int} (hx:v[j]?=some x) (h0:x<0) (h1:0<=y):MRi (v.set j y) (mset (j:Int) y m):=by
 have hlt:=(LH.1 hx).1;have hv:v[j]=x:=(LH.1 hx).2;have hn:mget (j:Int) m=none:=by rw [h.get j x hx,if_pos h0]
 refine ⟨?_,fun k z hz=>?_⟩
 ·rw [xq y hn,h.len,List.countP_set hlt,hv];have a:¬ 0<=x:=by omega
  simp [a,h1]
 ·rw [LY] at hz;by_cases hjk:j=k
  ·subst hjk;rw [if_pos rfl,if_pos hlt] at hz;cases hz;rw [xf,if_neg (by omega)]
  ·rw [if_neg hjk] at hz;rw [xA y (by omega)];exact h.get k z hz
theorem MRi.start (R:Nat):MRi (List.replicate R (-1)) []:=by
 refine ⟨?_,fun j x hx=>?_⟩
 ·simp [List.countP_replicate]
 ·rw [MY] at hx;split at hx<;>cases hx;rfl
section
variable {n:Net} {l:List Ends} (hn:NetL n l) {fr:List (Int × Int)} (hm:MRi (l.map Ends.src) fr)
include hn hm
end
end
theorem Bj {n:Net} (h:(netR n).2=0):∃ l out,iR n=.inr l/\NetL n l/\ordN l n.Nodes n.Nodes.length []=some out/\netR n=(out.map (fun i:Nat=>(i:Int)),0):=by
 unfold netR at h ⊢;cases hl:iR n with
 | inl e=>rw [hl] at h;simp only at h;subst h;exact absurd hl (An n)
 | inr l =>
  rw [hl] at h;simp only at h ⊢;cases ho:ordN l n.Nodes n.Nodes.length [] with
  | none=>rw [ho] at h;simp at h
  | some out=>exact ⟨l,out,rfl,zX hl,ho,rfl⟩
def iB:List (List Item)->Int
 | []=>0
 | s::r=>if 20<s.length then 2 else if s.any (fun x=>decide (x.Dep≠0)) then 4 else iB r
def ju (len:Nat):List Node->List Int->Int
 | [],_=>0
 | x::xs,seen=>if x.Kind≠1 then ju len xs seen else if (len:Int)<=x.A then 5 else if x.A∈seen then 6 else ju len xs (x.A::seen)
def cP (n:Net) (l:List (List Item)):Int:=if (netR n).2≠0 then (netR n).2 else if 4<l.length then 2 else if iB l≠0 then iB l else ju l.length n.Nodes []
theorem xX (l:List (List Item)) (hl:l.length<=4) {body:Int->Option (Int ⊕ Int)} {inner:Nat->List Item->Int->Option (Int ⊕ (Int ⊕ Int))} (fin:Option Int)
  (h1:∀ (k:Nat) s,l[k]?=some s->k<l.length->body (k:Int)=if 20<s.length then some (.inr 2) else iter (inner k s) 0)
  (h2:body (l.length:Int)=fin.map Sum.inr)
  (h3:∀ (k:Nat) s (j:Nat) x,l[k]?=some s->k<l.length->s[j]?=some x->j<20->inner k s (j:Int)=if x.Dep≠0 then some (.inr (.inr 4)) else some (.inl ((j+1:Nat):Int)))
  (h4:∀ (k:Nat) s,l[k]?=some s->k<l.length->inner k s (s.length:Int)=some (.inr (.inl ((k+1:Nat):Int)))) :
  ∀ (m k:Nat),k+m=l.length->iter body (k:Int)=if iB (l.drop k)≠0 then some (iB (l.drop k)) else fin
 | 0,k,h=>by
  have hk:k=l.length:=by omega
  subst hk;rw [aH,h2,MJ];simp only [iB,ne_eq,not_true_eq_false,if_false];cases fin<;>rfl
 | m + 1,k,h=>by
  have hlt:k<l.length:=by omega
  have hs:l[k]?=some l[k]:=LG hlt;rw [aH,h1 k _ hs hlt,LU hlt];generalize hsq:l[k]=s at *;simp only [iB];by_cases h20:20<s.length
  ·simp [h20]
  ·simp only [if_neg h20];have key:∀ (q j:Nat),j+q=s.length->iter (inner k s) (j:Int)=if (s.drop j).any (fun x=>decide (x.Dep≠0)) then some (.inr 4) else some (.inl ((k+1:Nat):Int)):=by
    intro q;induction q with
    | zero =>
     intro j hj;have hj:j=s.length:=by omega
     subst hj;rw [aH,h4 k s hs hlt,MJ];simp
    | succ q ih =>
     intro j hj;have hjl:j<s.length:=by omega
     rw [aH,h3 k s j s[j] hs hlt (LG hjl) (by omega),LU hjl,List.any_cons];by_cases hd:s[j].Dep≠0
     ·simp [hd]
     ·rw [if_neg hd];simp only;rw [ih (j+1) (by omega)];simp [hd]
   have:=key s.length 0 (by omega);simp only [Mt,MD] at this;rw [this];by_cases hany:s.any (fun x=>decide (x.Dep≠0))=true
   ·simp only [if_pos hany];simp
   ·simp only [if_neg hany];exact xX l hl fin h1 h2 h3 h4 m (k+1) (by omega)
theorem FP {N:Nat} (hN:N<=4) (seen:List Int) {a:Int} (h0:0<=a) (h1:a<N):((List.range N).map fun i:Nat=>decide ((i:Int)∈seen))[a.toNat]?=some (decide (a∈seen)):=by rw [LT,Ni (by omega)];simp only [MQ,Ng];rw [Mf h0]
theorem uw (n:Net) (l:List (List Item)) (hl:l.length<=4) (hn:n.Nodes.length<=12) (hA:∀ x∈n.Nodes,0<=x.A):∀ (m k:Nat) (seen:List Int),k+m=n.Nodes.length ->
  iter (fun ss:Int × List Bool=>jV n l ss.1 ss.2) ((k:Int),(List.range l.length).map fun i:Nat=>decide ((i:Int)∈seen))=some (ju l.length (n.Nodes.drop k) seen)
 | 0,k,seen,h=>by
  have hk:k=n.Nodes.length:=by omega
  subst hk;have:∀ b,jV n l (n.Nodes.length:Int) b=some (.inr 0):=fun b=>by unfold jV;rw [if_neg (by simp)];rfl
  rw [aH];simp only [this,MJ,ju]
 | m + 1,k,seen,h=>by
  have hlt:k<n.Nodes.length:=by omega
  have hx:n.Nodes[k]?=some n.Nodes[k]:=LG hlt;have hA':=hA _ (Mk hlt);rw [LU hlt,aH];generalize hxq:n.Nodes[k]=x at *;simp only [ju];have hstep:jV n l (k:Int) ((List.range l.length).map fun i:Nat=>decide ((i:Int)∈seen))=if x.Kind≠1 then some (.inl (((k+1:Nat):Int),(List.range l.length).map fun i:Nat=>decide ((i:Int)∈seen))) else if (l.length:Int)<=x.A then some (.inr 5) else if x.A∈seen then some (.inr 6) else some (.inl (((k+1:Nat):Int),(List.range l.length).map fun i:Nat=>decide ((i:Int)∈x.A::seen))):=by
   unfold jV;rw [if_pos (by simp;omega),bv hx,LF,bt (by omega)];by_cases h1:x.Kind≠1
   ·rw [if_pos (by simpa using h1),if_pos h1]
   ·rw [if_neg (by simpa using h1),if_neg h1];by_cases h2:(l.length:Int)<=x.A
    ·rw [if_pos (by simpa using h2),if_pos h2];rfl
    ·rw [if_neg (by simpa using h2),if_neg h2];have hix:ixN ((List.range l.length).map fun i:Nat=>decide ((i:Int)∈seen)) x.A=some x.A.toNat:=by unfold ixN;rw [if_pos (by simp;omega)]
     have hg:=FP hl seen hA' (show x.A<l.length by omega);simp only [hix,hg,LF];by_cases h3:x.A∈seen
     ·simp [h3]
     ·simp only [h3,decide_false,LV,if_false];congr 3;apply MZ;intro j;rw [LY,LT,LT];by_cases hj:j<l.length
      ·rw [Ni hj];simp only [LS,List.length_range,MQ];by_cases hjx:x.A.toNat=j
       ·rw [if_pos hjx,if_pos (by omega)];have:(j:Int)=x.A:=by omega
        simp [this]
       ·rw [if_neg hjx];have:¬ (j:Int)=x.A:=by omega
        simp [this]
      ·rw [if_neg (by omega),Mb (by simp;omega)];rfl
  rw [hstep];by_cases h1:x.Kind≠1
  ·simp only [if_pos h1];exact uw n l hl hn hA m (k+1) seen (by omega)
  ·simp only [if_neg h1];by_cases h2:(l.length:Int)<=x.A
   ·simp only [if_pos h2]
   ·simp only [if_neg h2];by_cases h3:x.A∈seen
    ·simp only [if_pos h3]
    ·simp only [if_neg h3];exact uw n l hl hn hA m (k+1) (x.A::seen) (by omega)
theorem nodeA {n:Net} {l:List Ends} (h:NetL n l):∀ x∈n.Nodes,0<=x.A:=fun x hx=>by
 obtain ⟨i,hi,rfl⟩:=List.mem_iff_getElem.1 hx;have:=h.err i _ (LG hi);unfold kD at this;split at this
 ·exact absurd this (by decide)
 ·split at this
  ·exact absurd this (by decide)
  ·split at this
   ·exact absurd this (by decide)
   ·rename_i hb;unfold badA at hb;simp at hb;omega
theorem rH (n:Net) (l:List (List Item)) (hio:∀ x∈n.Nodes,x.In.length<=1099511627776/\x.Out.length<=1099511627776):kf n l=some (cP n l):=by
 unfold kf cP;rw [xv n hio,LF];by_cases h:(netR n).2=0
 ·obtain ⟨le,out,_,hl,_,_⟩:=Bj h;rw [if_neg (show ¬ ((netR n).2 != 0)=true by simp [h]),if_neg (show ¬ (netR n).2≠0 by simp [h])];by_cases h4:4<l.length
  ·rw [if_pos (by simp;omega),if_pos h4]
  ·rw [if_neg (by simp;omega),if_neg h4];have hmk:mk (l.length:Int) false=some ((List.range l.length).map fun i:Nat=>decide ((i:Int)∈([]:List Int))):=by
    unfold mk;rw [if_pos (by omega)];congr 1;simp [List.map_const']
   have hseen:=uw n l (by omega) hl.n2 (nodeA hl) n.Nodes.length 0 [] (by omega);simp only [Mt,MD] at hseen;have:=xX l (by omega) (body:=fun ss=>ni n l ss) (inner:=fun k s ss=>nj k s ss) (some (ju l.length n.Nodes []))
    (fun k s hs hlt=>by
     unfold ni;rw [if_pos (by simp;omega),bv hs,LF];by_cases h20:20<s.length
     ·rw [if_pos (by simp;omega),if_pos h20];rfl
     ·rw [if_neg (by simp;omega),if_neg h20])
    (by unfold ni;rw [if_neg (by simp),hmk,LF,hseen])
    (fun k s j x hs hlt hx hj=>by
     have hjl:=(LH.1 hx).1;unfold nj;rw [if_pos (by simp;omega),bv hx,LF,bt (by omega)];by_cases hd:x.Dep≠0
     ·rw [if_pos (by simpa using hd),if_pos hd];rfl
     ·rw [if_neg (by simpa using hd),if_neg hd])
    (fun k s hs hlt=>by unfold nj;rw [if_neg (by simp),bt (by omega)];rfl) l.length 0 (by omega)
   simp only [Mt,MD] at this;rw [this];by_cases hi:iB l≠0
   ·rw [if_pos hi,if_pos hi]
   ·rw [if_neg hi,if_neg hi]
 ·rw [if_pos (by simpa using h),if_pos h]
def meetN:Net:=⟨[⟨1,0,[],[0]⟩,⟨1,1,[],[1]⟩,⟨6,0,[0,1],[2]⟩,⟨8,0,[2],[]⟩],3,1⟩
def dR:List (List Item):=[[⟨1,1,0⟩],[⟨2,2,0⟩]]
theorem IA:∀ x∈meetN.Nodes,x.In.length<=1099511627776/\x.Out.length<=1099511627776:=by decide
theorem AM:cP meetN dR=0:=by decide
theorem zF (l:List Ends) (ns:List Node):∀ (m:Nat) (out o:List Nat),ordN l ns m out=some o->o.length=out.length+m
 | 0,out,o,h=>by cases h;rfl
 | m+1,out,o,h=>by
  unfold ordN at h;split at h
  ·cases h
  ·have:=zF l ns m _ o h;simp at this;omega
theorem yA {l:List Ends} {ns:List Node}:∀ {m:Nat} {out o:List Nat},ordN l ns m out=some o->out.Nodup->(∀ x∈out,x<ns.length) ->
  o.Nodup/\(∀ x∈o,x<ns.length)/\out <+: o/\∀ (p i:Nat),out.length<=p->o[p]?=some i->okN l (o.take p) ns i=true
 | 0,out,o,h,h1,h2=>by
  cases h;exact ⟨h1,h2,List.prefix_refl _,fun p i hp hi=>by rw [Mb hp] at hi;cases hi⟩
 | m+1,out,o,h,h1,h2=>by
  unfold ordN at h;split at h
  ·cases h
  ·rename_i i hi;obtain ⟨_,hlt,hok⟩:=xK hi;have hni:i ∉ out:=by
    unfold okN at hok;rw [MF] at hok;simpa using hok.1
   obtain ⟨a,b,c,d⟩:=yA h (List.nodup_append.2 ⟨h1,by simp,by intro x hx y hy;simp at hy;subst hy;rintro rfl;exact hni hx⟩) (fun x hx=>by
    rcases LZ.1 hx with hx | hx
    ·exact h2 x hx
    ·simp at hx;omega)
   refine ⟨a,b,(List.prefix_append out [i]).trans c,fun p j hp hj=>?_⟩;by_cases hpe:p=out.length
   ·subst hpe;obtain ⟨t,ht⟩:=c;rw [<- ht] at hj ⊢;simp only [LN,M9,Mc (LM _),Nz] at hj;simp at hj;subst hj;rw [LN,NA];exact hok
   ·exact d p j (by simp;omega) hj
theorem ua:∀ (N:Nat) (l:List Nat),l.Nodup->(∀ x∈l,x<N)->l.length<=N
 | 0,l,_,h=>by
  cases l with
  | nil=>exact LM _
  | cons x l=>exact absurd (h x L0) (by omega)
 | N+1,l,hd,h=>by
  have:=ua N (l.erase N) (hd.erase N) (fun x hx=>by have h1:=(List.Nodup.mem_erase_iff hd).1 hx;have:=h x h1.2;omega)
  by_cases hm:N∈l
  ·rw [List.length_erase_of_mem hm] at this;omega
  ·rw [List.erase_of_not_mem hm] at this;omega
theorem G8 {N:Nat} {l:List Nat} (hd:l.Nodup) (h:∀ x∈l,x<N) (hl:l.length=N) {i:Nat} (hi:i<N):i∈l:=by
 refine Classical.byContradiction fun hn=>?_
 have:=ua N (i::l) (Nw.2 ⟨hn,hd⟩) (fun x hx=>by
  rcases Md.1 hx with rfl | hx
  ·exact hi
  ·exact h x hx)
 simp at this;omega
structure OrdL (n:Net) (l:List Ends) (o:List Nat):Prop where
 nd:o.Nodup
 lt:∀ x∈o,x<n.Nodes.length
 len:o.length=n.Nodes.length
 fed:∀ (p i:Nat) (x:Node) (r:Int) (e:Ends),o[p]?=some i->n.Nodes[i]?=some x->r∈x.In->l[r.toNat]?=some e->e.src.toNat∈o.take p
theorem H0 {n:Net} {l:List Ends} {o:List Nat} (h:ordN l n.Nodes n.Nodes.length []=some o):OrdL n l o:=by obtain ⟨a,b,_,d⟩:=yA h NM (fun x hx=>by simp at hx);have hl:=zF _ _ _ _ _ h;refine ⟨a,b,by simpa using hl,fun p i x r e hp hx hr he=>?_⟩;have:=d p i (MA _) hp;unfold okN at this;rw [MF,hx] at this;have h2:=this.2;simp only [fedN,Mz] at h2;have h3:=h2 r hr;rw [he] at h3;simpa using h3
theorem bnd {α β:Type} {o:Option α} {k:α->Option β} {x:α} {r:Option β} (h:o=some x) (h2:k x=r):Option.bind o k=r:=by rw [h];exact h2
theorem fU {n:Nat} {i j:Int} (h:0<=i/\i<=j/\j<=n):vwok n i j=some ():=by unfold vwok;rw [if_pos h]
theorem vg {α:Type} (a c d ys:List α) (n:Nat) (h:c.length=ys.length) (hn:ys.length<=n):cpy (a++(c++d)) a.length n ys=a++(ys++d):=by unfold cpy;rw [NA,Mm hn,ND hn,<- h,<- Nr,Nk,Nk,LN]
theorem J2 (a b:List Keyed) (y:Keyed) (h:a.length+b.length<=1000000):o8 (a.length:Int) (a++b) [y]=some (a++y::b):=by
 unfold o8;refine It (fun C hC=>?_);unfold tQ;have hl:(a++b).length=a.length+b.length:=LI;have h1:([y]:List Keyed).length=1:=rfl;have w1:IntKind.i64.wrap ((((a++b).length:Nat):Int)+(([y]:List Keyed).length:Int))=((a.length+b.length+1:Nat):Int):=by rw [bA (by omega) (by omega)];omega
 have w2:IntKind.i64.wrap ((a.length:Int)+(([y]:List Keyed).length:Int))=((a.length+1:Nat):Int):=by rw [bA (by omega) (by omega)];omega
 have w3:IntKind.i64.wrap (((a.length+b.length+1:Nat):Int) - (a.length:Int))=((b.length+1:Nat):Int):=by rw [bA (by omega) (by omega)];omega
 simp only [w1,w2,w3,L7];refine bnd (fU (by omega)) ?_;rw [if_neg (by simp)];by_cases hb:b=[]
 ·subst hb;rw [if_pos (by simp)];refine bnd (cJ (by simp;omega)) ?_;simp
 ·have hbl:0<b.length:=Nj.2 hb;rw [if_neg (by simp;omega)];by_cases hg:a.length+b.length+1 > C
  ·rw [if_pos (by simp;omega)];refine bnd (fU (by omega)) ?_;have hz:growz (a++b) a.length C ((b.length+1:Nat):Int) (⟨0,0⟩:Keyed)=some (a++([(⟨0,0⟩:Keyed)]++List.replicate b.length (⟨0,0⟩:Keyed))):=by
    unfold growz;rw [if_pos (by rw [hl];omega),NA,L7,M4];rfl
   refine bnd hz ?_;have hzl:(a++([(⟨0,0⟩:Keyed)]++List.replicate b.length (⟨0,0⟩:Keyed))).length=a.length+(b.length+1):=by simp<;>omega
   have e1:a.length+(b.length+1) - a.length=b.length+1:=by omega
   have c1:=vg a [(⟨0,0⟩:Keyed)] (List.replicate b.length (⟨0,0⟩:Keyed)) [y] (b.length+1) rfl (by simp);have hal:(a++([y]++List.replicate b.length (⟨0,0⟩:Keyed))).length=a.length+(b.length+1):=by simp<;>omega
   have e2:a.length+(b.length+1) - (a.length+1)=b.length:=by omega
   simp only [hzl,e1,c1,hal,e2,hl,MG,Nat.add_sub_cancel_left,L7];refine bnd (fU (by omega)) (bnd (fU (by omega)) (bnd (fU (by omega)) (bnd (fU (by omega)) (bnd (fU (by omega)) (bnd (fU (by omega)) ?_)))));rw [Nk,ME];have c2:=vg (a++[y]) (List.replicate b.length (⟨0,0⟩:Keyed)) [] b b.length (by simp) (LM _);simp only [L3,LI,MV,LN] at c2;rw [c2];simp
  ·rw [if_neg (by simp;omega)];have hx:roomx (a++b).length C ((a.length+b.length+1:Nat):Int)=some 1:=by
    unfold roomx;rw [if_pos (by rw [hl];omega),hl,L7];congr 1;omega
   refine bnd hx ?_;have e2:a.length+b.length+1 - (a.length+1)=b.length:=by omega
   have e3:a.length+b.length+1 - a.length=b.length+1:=by omega
   simp only [hl,L7,e2,e3];refine bnd (fU (by omega)) ?_;refine bnd (show ovok [y] b.length=some () by unfold ovok;rw [if_pos (by simp;omega)]) ?_;refine bnd (fU (by omega)) (bnd (fU (by omega)) ?_);have hu:cpyU (a++b) 1 (a.length+1) b.length a.length (b.length+1)=some (a++(b.take 1++b)):=by unfold cpyU;rw [if_pos (by rw [hl];omega),Nk,List.take_append];simp [Mm]
   refine bnd hu ?_;have htl:(b.take 1).length=1:=by simp;omega
   have hul:(a++(b.take 1++b)).length=a.length+(b.length+1):=by rw [LI,LI,htl];omega
   have e1:a.length+(b.length+1) - a.length=b.length+1:=by omega
   have c1:=vg a (b.take 1) b [y] (b.length+1) (by rw [htl];rfl) (by simp);simp only [hul,e1,c1,L7];refine bnd (fU (by omega)) (bnd (fU (by omega)) ?_);rfl
theorem Cq (x:Keyed) (k:Int):nD x k=some (if x.Key<k then -1 else if x.Key > k then 1 else 0):=by
 unfold nD;by_cases h1:x.Key<k
 ·simp [h1]
 ·by_cases h2:x.Key > k<;>simp [h1,h2]
def good (l:List Keyed) (i:Nat):Prop:=∀ x,l[i]?=some x->1<=x.N/\∀ j y,i=j+1->l[j]?=some y->y.Key<x.Key
theorem yv (m : Memory) (hl:m.Keys.length<=6):∀ (n k:Nat),k+n=m.Keys.length->∃ c,iter (fun ss:Int=>ip m ss) (k:Int)=some c/\(c=0 ↔ (∀ i,k<=i->i<m.Keys.length->good m.Keys i)/\0<=m.Dep)
  | 0,k,h=>by
    have hk:k=m.Keys.length:=by omega
    subst hk;by_cases hd:m.Dep<0
    · refine ⟨3,?_,by constructor<;>intro h<;>omega⟩;rw [aH];unfold ip;simp [hd]
    · refine ⟨0,?_,?_⟩
      · rw [aH];unfold ip;simp [hd]
      · exact ⟨fun _=>⟨fun i h1 h2=>by omega,by omega⟩,fun _=>rfl⟩
  | n + 1, k, h => by
    have hk:k<m.Keys.length:=by omega
    have hx:m.Keys[k]?=some m.Keys[k]:=LG hk;generalize hxv:m.Keys[k]=x at hx;have hkw:decide ((k:Int)<(m.Keys.length:Int))=true:=by simp;omega
    have hw:IntKind.i64.wrap ((k:Int)+1)=((k+1:Nat):Int):=bt (by omega);by_cases hg:good m.Keys k
    · obtain ⟨hg1,hg2⟩:=hg x hx;obtain ⟨c,h1,h2⟩:=yv m hl n (k+1) (by omega);refine ⟨c,?_,?_⟩
      · rw [aH];have e:ip m (k:Int)=some (.inl ((k+1:Nat):Int)):=by
          unfold ip;rw [if_pos hkw,bv hx,LF,if_neg (show ¬ decide (x.N<1)=true by simp;omega)];cases k with
          | zero=>simp [show IntKind.i64.wrap 1=1 from rfl]
          | succ j =>
            have hy:m.Keys[j]?=some m.Keys[j]:=LG (by omega);have:=hg2 j _ rfl hy;rw [if_pos (by simp),bA (by omega) (by omega),show ((j+1:Nat):Int) - 1=(j:Int) by omega,bv hy,LF,LF,if_neg (by simp;omega),hw]
        simp only [e];exact h1
      · rw [h2];constructor
        · rintro ⟨h3,h4⟩;exact ⟨fun i hi hi2=>by
            by_cases e:i=k
            · subst e;exact hg
            · exact h3 i (by omega) hi2,h4⟩
        · rintro ⟨h3,h4⟩;exact ⟨fun i hi hi2=>h3 i (by omega) hi2,h4⟩
    · refine ⟨4, ?_, by constructor
                        · intro h;omega
                        · rintro ⟨h3,_⟩;exact absurd (h3 k (LM _) hk) hg⟩
      rw [aH];have e:ip m (k:Int)=some (.inr 4):=by
        unfold ip;rw [if_pos hkw,bv hx,LF];by_cases hn:x.N<1
        · rw [if_pos (show decide (x.N<1)=true by simpa using hn)];rfl
        · rw [if_neg (show ¬ decide (x.N<1)=true by simpa using hn)];cases k with
          | zero=>exact absurd (fun y hy=>by rw [hx] at hy;cases hy;exact ⟨by omega,fun j z hj=>by omega⟩) hg
          | succ j =>
            have hy:m.Keys[j]?=some m.Keys[j]:=LG (by omega);rw [if_pos (by simp),bA (by omega) (by omega),show ((j+1:Nat):Int) - 1=(j:Int) by omega,bv hy,LF,LF];have:x.Key<=(m.Keys[j]).Key:=by
              apply Int.not_lt.1;intro hlt;exact hg (fun z hz=>by
                rw [hx] at hz;cases hz;exact ⟨by omega,fun i y hi hy2=>by
                  have:i=j:=by omega
                  subst this;rw [hy] at hy2;cases hy2;exact hlt⟩)
            rw [if_pos (by simpa using this)];rfl
      simp only [e]
structure okM (m:Memory):Prop where
 len:m.Keys.length<=6
 n:∀ x,x∈m.Keys->1<=x.N
 lt:∀ (i j:Nat) x y,i<j->m.Keys[i]?=some x->m.Keys[j]?=some y->x.Key<y.Key
 dep:0<=m.Dep
theorem Bp {l:List Keyed} (h:∀ i,i<l.length->good l i):∀ (n i j:Nat) x y,j=i+1+n->l[i]?=some x->l[j]?=some y->x.Key<y.Key
 | 0,i,j,x,y,e,hx,hy=>(h j (LH.1 hy).1 y hy).2 i x (by omega) hx
 | n+1,i,j,x,y,e,hx,hy=>by have hj:=(LH.1 hy).1;have hz:l[i+1+n]?=some l[i+1+n]:=LG (by omega);have h1:=Bp h n i (i+1+n) x _ rfl hx hz;have h2:=(h j hj y hy).2 (i+1+n) _ (by omega) hz;omega
theorem yP (m:Memory):∃ c,kb m=some c/\(c=0 ↔ okM m):=by
 unfold kb;by_cases hl:m.Keys.length<=6
 ·rw [if_neg (by simp;omega)];obtain ⟨c,h1,h2⟩:=yv m hl m.Keys.length 0 (by omega);refine ⟨c,h1,h2.trans ⟨fun ⟨h3,h4⟩=>⟨hl,fun x hx=>?_,fun i j x y hij hx hy=>?_,h4⟩,fun h=>⟨fun i _ hi x hx=>⟨h.n x (LJ hx),fun j y e hy=>h.lt j i y x (by omega) hy hx⟩,h.dep⟩⟩⟩
  ·obtain ⟨i,hi⟩:=L1 hx;exact (h3 i (MA _) (LH.1 hi).1 x hi).1
  ·exact Bp (fun i hi=>h3 i (MA _) hi) (j - i - 1) i j x y (by omega) hx hy
 ·rw [if_pos (by simp;omega)];exact ⟨2,rfl,fun h=>by omega,fun h=>absurd h.len hl⟩
theorem Gq (l:List Keyed) (key:Int) (hl:l.length<=6) (hs:∀ (i j:Nat) x y,i<j->l[i]?=some x->l[j]?=some y->x.Key<y.Key) :
    ∃ (i:Nat) (b:Bool),oW l key=some ((i:Int),b)/\i<=l.length/\(∀ t x,t<i->l[t]?=some x->x.Key<key)/\(∀ t x,i<=t->l[t]?=some x->key<=x.Key)/\(b=true ↔ ∃ x,l[i]?=some x/\x.Key=key):=by
  unfold oW
  obtain ⟨r,h1,i,h2,h3,h4,h5,h6⟩:=sA (body:=fun ss:Int × Int=>oV l key ss.1 ss.2)
    (fun s=>(0<=s.1/\s.1<=s.2/\s.2<=(l.length:Int))/\(∀ (t:Nat) (x:Keyed),(t:Int)<s.1->l[t]?=some x->x.Key<key)/\(∀ (t:Nat) (x:Keyed),s.2<=(t:Int)->l[t]?=some x->key<=x.Key)) (fun s=>(s.2 - s.1).toNat)
    (fun r=>∃ i:Nat,r.1=(i:Int)/\i<=l.length/\(∀ t x,t<i->l[t]?=some x->x.Key<key)/\(∀ t x,i<=t->l[t]?=some x->key<=x.Key)/\(r.2=true ↔ ∃ x,l[i]?=some x/\x.Key=key)) (fun s hs0=>by
      obtain ⟨s1,s2⟩:=s;simp only at hs0 ⊢;obtain ⟨hb,ha,hc⟩:=hs0;unfold oV;by_cases hlt:s1<s2
      · rw [if_pos (by simpa using hlt)];have e1:shr .u64 (IntKind.u64.wrap (IntKind.i64.wrap (s1+s2))) 1=some ((s1+s2) / 2):=by
          rw [bA (by omega) (by omega),IntWalk.u64_in _ ⟨by omega,by omega⟩];unfold shr;rw [if_pos (by decide)];congr 1;show (s1+s2).fdiv 2=_;rw [MO _ (by decide)]
        rw [e1,LF];obtain ⟨h,hh⟩:∃ h:Nat,(s1+s2) / 2=(h:Int):=M2 (by omega);have hhl:h<l.length:=by omega
        have hx:l[h]?=some l[h]:=LG hhl;generalize hxv:l[h]=x at hx;have e2:IntKind.i64.wrap (h:Int)=(h:Int):=bA (by omega) (by omega);have e4:IntKind.i64.wrap ((h:Int)+1)=(h:Int)+1:=bA (by omega) (by omega);rw [hh,e2,bv hx,LF,Cq,LF,e4];refine .inl ?_;by_cases hk:x.Key<key
        · rw [if_pos hk];refine ⟨((h:Int)+1,s2),rfl,⟨⟨by show 0<=(h:Int)+1;omega,by show (h:Int)+1<=s2;omega,hb.2.2⟩,fun t y ht hy=>?_,hc⟩,by show (s2 - ((h:Int)+1)).toNat<(s2 - s1).toNat;omega⟩;have ht:(t:Int)<(h:Int)+1:=ht;by_cases e:t=h
          · subst e;rw [hx] at hy;cases hy;exact hk
          · have:=hs t h y x (by omega) hy hx;omega
        · have e5:(if decide ((if x.Key<key then (-1:Int) else if x.Key > key then 1 else 0)<0)=true then (some (.inl ((h:Int)+1,s2)):Option ((Int × Int) ⊕ (Int × Bool))) else some (.inl (s1,(h:Int))))=some (.inl (s1,(h:Int))):=by
            rw [if_neg hk];split<;>rfl
          refine ⟨(s1,(h:Int)),e5,⟨⟨hb.1,by show s1<=(h:Int);omega,by show (h:Int)<=_;omega⟩,ha,fun t y ht hy=>?_⟩,by show ((h:Int) - s1).toNat<(s2 - s1).toNat;omega⟩;have ht:(h:Int)<=(t:Int):=ht;by_cases e:t=h
          · subst e;rw [hx] at hy;cases hy;omega
          · have:=hs h t x y (by omega) hx hy;omega
      · rw [if_neg (by simpa using hlt)];refine .inr ?_;obtain ⟨k,rfl⟩:=M2 hb.1;have hk2:s2=(k:Int):=by omega
        subst hk2;by_cases hk:k<l.length
        · have hx:l[k]?=some l[k]:=LG hk;generalize hxv:l[k]=x at hx;rw [if_pos (by simp;omega),bv hx,LF,Cq];refine ⟨_,rfl,k,rfl,by omega,fun t y ht hy=>ha t y (by omega) hy,fun t y ht hy=>hc t y (by omega) hy,?_⟩;have:=hc k x (by omega) hx;simp only [hx,Ng,exists_eq_left'];by_cases e:x.Key=key
          · simp [e]
          · have h1:¬ x.Key<key:=by omega
            have h2:x.Key > key:=by omega
            simp [h1,h2,e]
        · rw [if_neg (by simp;omega)];refine ⟨_,rfl,k,rfl,by omega,fun t y ht hy=>ha t y (by omega) hy,fun t y ht hy=>hc t y (by omega) hy,?_⟩;rw [Mb (by omega)];simp) _ (0,(l.length:Int)) (LM _) ⟨by simp,fun t x ht=>by
            have ht:(t:Int)<0:=ht;omega,fun t x ht hx=>by
            have ht:(l.length:Int)<=(t:Int):=ht;have:=(LH.1 hx).1;omega⟩
  obtain ⟨r1,r2⟩:=r
  simp only at h2
  subst h2
  exact ⟨i,r2,h1,h3,h4,h5,h6⟩
inductive StepR (k f:Int) (m:Memory) (x:Item):Memory × Item × Int->Prop
 | err (e:Int) (h:e≠0):StepR k f m x (⟨0,[],0⟩,⟨0,0,0⟩,e)
 | same (s d:Int) (y:Item) (hd:0<=d):StepR k f m x (⟨s,m.Keys,d⟩,y,0)
 | inc (i:Nat) (v:Keyed) (d:Int) (y:Item) (hi:m.Keys[i]?=some v) (hd:0<=d):StepR k f m x (⟨m.Sum,m.Keys.set i ⟨v.Key,IntKind.i64.wrap (v.N+1)⟩,d⟩,y,0)
 | ins (i:Nat) (d:Int) (y:Item) (hd:0<=d) (hl:m.Keys.length<6) (hi:i<=m.Keys.length) (h1:∀ t z,t<i->m.Keys[t]?=some z->z.Key<x.Key) (h2:∀ t z,i<=t->m.Keys[t]?=some z->x.Key<z.Key):StepR k f m x (⟨m.Sum,m.Keys.take i++⟨x.Key,1⟩::m.Keys.drop i,d⟩,y,0)
theorem HM {l:List Keyed} (h:l.Pairwise (fun a b=>a.Key<b.Key)):∀ (i j:Nat) x y,i<j->l[i]?=some x->l[j]?=some y->x.Key<y.Key:=fun i j x y hij hx hy=>by obtain ⟨hi,rfl⟩:=LH.1 hx;obtain ⟨hj,rfl⟩:=LH.1 hy;exact List.pairwise_iff_getElem.1 h i j hi hj hij
theorem Kd {l:List Keyed} {i:Nat} {key:Int} (hlt:∀ (i j:Nat) x y,i<j->l[i]?=some x->l[j]?=some y->x.Key<y.Key) (h1:∀ t z,t<i->l[t]?=some z->z.Key<key) (h2:∀ t z,i<=t->l[t]?=some z->key<z.Key) :
  (l.take i++(⟨key,1⟩:Keyed)::l.drop i).Pairwise (fun a b=>a.Key<b.Key):=by
 rw [List.pairwise_append,List.pairwise_cons]
 have hpw:l.Pairwise (fun a b=>a.Key<b.Key):=by rw [List.pairwise_iff_getElem];exact fun a b ha hb hab=>hlt a b _ _ hab (LG ha) (LG hb)
 refine ⟨hpw.sublist (List.take_sublist _ _),⟨fun z hz=>?_,hpw.sublist (List.drop_sublist _ _)⟩,fun a ha b hb=>?_⟩
 ·obtain ⟨t,ht⟩:=L1 hz
  rw [Ml] at ht
  exact h2 (i+t) z (by omega) ht
 ·obtain ⟨t,ht⟩:=L1 ha
  rw [Mo] at ht
  split at ht
  ·rename_i hti
   have h7:=h1 t a hti ht
   rcases Md.1 hb with rfl | hb
   ·exact h7
   ·obtain ⟨t2,ht2⟩:=L1 hb
    rw [Ml] at ht2
    have h8:=h2 (i+t2) b (by omega) ht2
    omega
  ·cases ht
theorem HJ {k f:Int} {m:Memory} {x:Item} {R:Memory × Item × Int} (h:StepR k f m x R) (ok:okM m) (B:Int) (h0:0<=B) (hB:∀ y,y∈m.Keys->y.N<=B) (hB2:B<4611686018427387904) (hR:R.2.2=0):okM R.1/\∀ y,y∈R.1.Keys->y.N<=B+1:=by
 cases h with
 | err e he=>exact absurd hR he
 | same s d y hd=>exact ⟨⟨ok.len,ok.n,ok.lt,hd⟩,fun y hy=>by have:=hB y hy;omega⟩
 | inc i v d y hi hd =>
  have hv:=LJ hi;have hv1:=ok.n v hv;have hv2:=hB v hv;have hw:IntKind.i64.wrap (v.N+1)=v.N+1:=bA (by omega) (by omega);have hget:∀ (a:Nat) (z:Keyed),(m.Keys.set i ⟨v.Key,IntKind.i64.wrap (v.N+1)⟩)[a]?=some z->∃ z',m.Keys[a]?=some z'/\z'.Key=z.Key:=fun a z hz=>by
   rw [LY] at hz;split at hz
   ·rename_i e;subst e;split at hz
    ·cases hz;exact ⟨v,hi,rfl⟩
    ·cases hz
   ·exact ⟨z,hz,rfl⟩
  refine ⟨⟨by simpa using ok.len,fun z hz=>?_,fun a b z1 z2 hab hz1 hz2=>?_,hd⟩,fun z hz=>?_⟩
  ·rcases Mq hz with h1 | h1
   ·exact ok.n z h1
   ·subst h1;rw [hw];show 1<=v.N+1;omega
  ·obtain ⟨w1,e1,e2⟩:=hget a z1 hz1;obtain ⟨w2,e3,e4⟩:=hget b z2 hz2;have:=ok.lt a b w1 w2 hab e1 e3;omega
  ·rcases Mq hz with h1 | h1
   ·have:=hB z h1;omega
   ·subst h1;rw [hw];show v.N+1<=B+1;omega
 | ins i d y hd hl hi h1 h2 =>
  have hm:∀ z,z∈m.Keys.take i++(⟨x.Key,1⟩:Keyed)::m.Keys.drop i->z∈m.Keys∨z.N=1:=fun z hz=>by
   rcases LZ.1 hz with h3 | h3
   ·exact .inl (LX h3)
   ·rcases Md.1 h3 with h3 | h3
    ·exact .inr (by rw [h3])
    ·exact .inl (MH h3)
  refine ⟨⟨by simp;omega,fun z hz=>?_,HM (Kd ok.lt h1 h2),hd⟩,fun z hz=>?_⟩
  ·rcases hm z hz with h3 | h3
   ·exact ok.n z h3
   ·omega
  ·rcases hm z hz with h3 | h3
   ·have:=hB z h3;omega
   ·omega
def maxD (a b:Int):Int:=if b > a then b else a
def mapP (f:Int) (x:Item):Int:=if f=0 then IntKind.i64.wrap (x.Val+1) else if f=1 then IntKind.i64.wrap (2*x.Val) else if f=2 then IntKind.i64.wrap (0 - x.Val) else IntKind.i64.wrap (x.Val+x.Key)
def lowN (key:Int):List Keyed->Nat
 | []=>0
 | y::ys=>if y.Key<key then lowN key ys+1 else 0
def newK (key:Int) (l:List Keyed):List Keyed × Int:=if l.length=6 then (l,0) else (l.take (lowN key l)++⟨key,1⟩::l.drop (lowN key l),1)
def cntP (key:Int) (l:List Keyed):List Keyed × Int :=
 match l[lowN key l]? with
 | some y=>if y.Key=key then (l.set (lowN key l) ⟨y.Key,IntKind.i64.wrap (y.N+1)⟩,IntKind.i64.wrap (y.N+1)) else newK key l
 | none=>newK key l
def cM (k f:Int) (m:Memory) (x:Item):Memory × Item :=
 if k=2 then (m,⟨x.Key,mapP f x,x.Dep⟩)
 else if k=3 then (⟨IntKind.i64.wrap (m.Sum+x.Val),m.Keys,maxD m.Dep x.Dep⟩,⟨x.Key,IntKind.i64.wrap (m.Sum+x.Val),maxD m.Dep x.Dep⟩)
 else if k=4 then (⟨m.Sum,(cntP x.Key m.Keys).1,maxD m.Dep x.Dep⟩,⟨x.Key,(cntP x.Key m.Keys).2,maxD m.Dep x.Dep⟩)
 else (m,x)
def ot (k f:Int):Prop:=1<=k/\k<=8/\(k=2->0<=f/\f<=3)
theorem BN {key:Int}:∀ {l:List Keyed} {i:Nat},i<=l.length->(∀ t x,t<i->l[t]?=some x->x.Key<key)->(∀ t x,i<=t->l[t]?=some x->key<=x.Key)->lowN key l=i
 | [],i,hi,_,_=>by simp at hi;subst hi;rfl
 | y::ys,0,hi,h1,h2=>by
  have:=h2 0 y (LM _) rfl;unfold lowN;rw [if_neg (by omega)]
 | y::ys,i+1,hi,h1,h2=>by have:=h1 0 y (by omega) rfl;unfold lowN;rw [if_pos this,BN (i:=i) (by simpa using hi) (fun t x ht hx=>h1 (t+1) x (by omega) (by simpa using hx)) (fun t x ht hx=>h2 (t+1) x (by omega) (by simpa using hx))]
theorem Bi (k f:Int) (m:Memory) (x:Item) (ok:okM m) (hx:0<=x.Dep) (hk:ot k f):je k f m x=some ((cM k f m x).1,(cM k f m x).2,0)/\StepR k f m x ((cM k f m x).1,(cM k f m x).2,0):=by
 obtain ⟨c,hc,hc2⟩:=yP m;have hc0:=hc2.2 ok;subst hc0;have hap:app [] m.Keys=some m.Keys:=by rw [cJ (by have:=ok.len;simp;omega)];rfl
 have hcl:pf m.Keys=some m.Keys:=hap;have hco:lP m=some m:=by unfold lP;rw [hcl];rfl
 have hnd:¬ decide (x.Dep<0)=true:=by simpa using hx
 have hdp:0<=maxD m.Dep x.Dep:=by have:=ok.dep;unfold maxD;split<;>omega
 unfold je;rw [hc,LF,if_neg (by simp),if_neg hnd,hco,LF];by_cases k2:k=2
 ·subst k2;rw [if_pos (show ((2:Int)==2)=true from rfl)];have hf:=hk.2.2 rfl;rw [if_neg (by simp;omega)];have:f=0∨f=1∨f=2∨f=3:=by omega
  rcases this with rfl | rfl | rfl | rfl<;>exact ⟨rfl,.same _ _ _ ok.dep⟩
 ·have n2:¬ (k==2)=true:=by simpa using k2
  rw [if_neg n2];by_cases k3:k=3
  ·subst k3;rw [if_pos (show ((3:Int)==3)=true from rfl)];exact ⟨rfl,.same _ _ _ hdp⟩
  ·have n3:¬ (k==3)=true:=by simpa using k3
   rw [if_neg n3];by_cases k4:k=4
   ·subst k4;rw [if_pos (show ((4:Int)==4)=true from rfl)];obtain ⟨i,b,hs,hi,h1,h2,h3⟩:=Gq m.Keys x.Key ok.len ok.lt;have hlow:=BN hi h1 h2;have hP:cM 4 f m x=(⟨m.Sum,(cntP x.Key m.Keys).1,maxD m.Dep x.Dep⟩,⟨x.Key,(cntP x.Key m.Keys).2,maxD m.Dep x.Dep⟩):=rfl;rw [hs,LF,hP];cases b with
    | true =>
     obtain ⟨v,hv,hvk⟩:=h3.1 rfl;have hil:=(LH.1 hv).1;have hcp:cntP x.Key m.Keys=(m.Keys.set i ⟨v.Key,IntKind.i64.wrap (v.N+1)⟩,IntKind.i64.wrap (v.N+1)):=by unfold cntP;rw [hlow,hv];simp only;rw [if_pos hvk]
     rw [if_neg (by simp),if_neg (by simp),hcp];have hset:i<(m.Keys.set i (⟨v.Key,IntKind.i64.wrap (v.N+1)⟩:Keyed)).length:=by simpa using hil
     have hsg:(m.Keys.set i (⟨v.Key,IntKind.i64.wrap (v.N+1)⟩:Keyed))[i]?=some ⟨v.Key,IntKind.i64.wrap (v.N+1)⟩:=by simp [hil]
     refine ⟨?_,.inc i v _ _ hv hdp⟩;unfold lw;simp only [fK hil,LF,hv,fK hset,hsg];rfl
    | false =>
     have hcn:cntP x.Key m.Keys=newK x.Key m.Keys:=by
      unfold cntP;rw [hlow];cases hv:m.Keys[i]? with
      | none=>rfl
      | some v =>
       simp only;rw [if_neg (fun e=>absurd (h3.2 ⟨v,hv,e⟩) (by decide))]
     rw [hcn];by_cases h6:m.Keys.length=6
     ·rw [if_pos (by simp;omega)];unfold newK;rw [if_pos h6];exact ⟨rfl,.same _ _ _ hdp⟩
     ·have hl6:m.Keys.length<6:=by have:=ok.len;omega
      rw [if_neg (by simp;omega),if_pos (by simp)];have hin:=J2 (m.Keys.take i) (m.Keys.drop i) (⟨x.Key,0⟩:Keyed) (by simp;omega);have hti:(m.Keys.take i).length=i:=by simp;omega
      rw [Mp,hti] at hin;have hset:∀ a b:Keyed,(m.Keys.take i++a::m.Keys.drop i).set i b=m.Keys.take i++b::m.Keys.drop i:=fun a b=>by rw [List.set_append_right _ _ (by omega),hti,Nz];rfl
      have hget:∀ a:Keyed,(m.Keys.take i++a::m.Keys.drop i)[i]?=some a:=fun a=>by rw [Mc (by omega),hti,Nz];rfl
      have hlen:∀ a:Keyed,i<(m.Keys.take i++a::m.Keys.drop i).length:=fun a=>by simp;omega
      have hw:IntKind.i64.wrap ((0:Int)+1)=1:=rfl;have hnf:∀ t z,i<=t->m.Keys[t]?=some z->x.Key<z.Key:=fun t z ht hz=>by
       have h4:=h2 t z ht hz;rcases Int.lt_or_eq_of_le h4 with h5 | h5
       ·exact h5
       ·exfalso;by_cases e:t=i
        ·subst e;exact absurd (h3.2 ⟨z,hz,h5.symm⟩) (by decide)
        ·have hil:i<m.Keys.length:=by have:=(LH.1 hz).1;omega
         have hy:m.Keys[i]?=some m.Keys[i]:=LG hil;have h6:=h2 i _ (LM _) hy;have h7:=ok.lt i t _ z (by omega) hy hz;omega
      have hnk:newK x.Key m.Keys=(m.Keys.take i++⟨x.Key,1⟩::m.Keys.drop i,1):=by unfold newK;rw [if_neg h6,hlow]
      rw [hnk];refine ⟨?_,.ins i _ _ hdp hl6 hi h1 hnf⟩;simp only;rw [hin,LF];unfold lw;simp only [fK (hlen _),LF,hget,hset,hw];rfl
   ·have n4:¬ (k==4)=true:=by simpa using k4
    rw [if_neg n4];have hP:cM k f m x=(m,x):=by unfold cM;rw [if_neg k2,if_neg k3,if_neg k4]
    rw [hP];have hk':k=1∨k=5∨k=6∨k=7∨k=8:=by have:=hk.1;have:=hk.2.1;omega
    rcases hk' with rfl | rfl | rfl | rfl | rfl<;>exact ⟨rfl,.same m.Sum m.Dep x ok.dep⟩
theorem B7 (k f:Int) (m:Memory) (x:Item) (ok:okM m) (hx:0<=x.Dep) (hk:ot k f):je k f m x=some ((cM k f m x).1,(cM k f m x).2,0):=(Bi k f m x ok hx hk).1
theorem I2 (k f:Int) (m:Memory) (x:Item) (ok:okM m) (hx:0<=x.Dep) (hk:ot k f):StepR k f m x ((cM k f m x).1,(cM k f m x).2,0):=(Bi k f m x ok hx hk).2
theorem He {k f:Int} {m:Memory} {x:Item} (ok:okM m) (hx:0<=x.Dep) (hk:ot k f) (B:Int) (h0:0<=B) (hB:∀ y,y∈m.Keys->y.N<=B) (hB2:B<4611686018427387904) :
 okM (cM k f m x).1/\∀ y,y∈(cM k f m x).1.Keys->y.N<=B+1:=HJ (I2 k f m x ok hx hk) ok B h0 hB hB2 rfl
def deep (k:Int):Bool:=k==3 || k==4
theorem Gw (k f:Int) (m:Memory) (x:Item):(cM k f m x).2.Dep=(if deep k then maxD m.Dep x.Dep else x.Dep)/\(cM k f m x).1.Dep=if deep k then maxD m.Dep x.Dep else m.Dep:=by
 unfold cM deep;by_cases h2:k=2
 ·subst h2;exact ⟨rfl,rfl⟩
 ·by_cases h3:k=3
  ·subst h3;exact ⟨rfl,rfl⟩
  ·by_cases h4:k=4
   ·subst h4;exact ⟨rfl,rfl⟩
   ·rw [if_neg h2,if_neg h3,if_neg h4];have:(k==3 || k==4)=false:=by simp [h3,h4]
    rw [this];exact ⟨rfl,rfl⟩
def aa (n:Net) (i:Nat):Node:=n.Nodes.getD i ⟨0,0,[],[]⟩
structure RightN (n:Net):Prop where
 n1:1<=n.Nodes.length
 n2:n.Nodes.length<=12
 r1:0<=n.Rings
 r2:n.Rings<=16
 m1:1<=n.Room
 m2:n.Room<=6
 kind:∀ i,i<n.Nodes.length->ot (aa n i).Kind (aa n i).A
 a0:∀ i,i<n.Nodes.length->0<=(aa n i).A
 in1:∀ i,i<n.Nodes.length->(aa n i).Kind=1->(aa n i).In=[]
 in6:∀ i,i<n.Nodes.length->(aa n i).Kind=6->1<=(aa n i).In.length
 inx:∀ i,i<n.Nodes.length->(aa n i).Kind≠1->(aa n i).Kind≠6->(aa n i).In.length=1
 out8:∀ i,i<n.Nodes.length->(aa n i).Kind=8->(aa n i).Out=[]
 out1:∀ i,i<n.Nodes.length->(aa n i).Kind≠8->1<=(aa n i).Out.length
 outx:∀ i,i<n.Nodes.length->(aa n i).Kind≠8->(aa n i).Kind≠5->(aa n i).Kind≠7->(aa n i).Out.length=1
 inR:∀ i,i<n.Nodes.length->∀ r,r∈(aa n i).In->0<=r/\r<n.Rings
 outR:∀ i,i<n.Nodes.length->∀ r,r∈(aa n i).Out->0<=r/\r<n.Rings
 ndI:∀ i,i<n.Nodes.length->(aa n i).In.Nodup
 ndO:∀ i,i<n.Nodes.length->(aa n i).Out.Nodup
 oneI:∀ i j r,i<n.Nodes.length->j<n.Nodes.length->r∈(aa n i).In->r∈(aa n j).In->i=j
 oneO:∀ i j r,i<n.Nodes.length->j<n.Nodes.length->r∈(aa n i).Out->r∈(aa n j).Out->i=j
 toI:∀ r:Nat,(r:Int)<n.Rings->∃ i,i<n.Nodes.length/\(r:Int)∈(aa n i).In
 toO:∀ r:Nat,(r:Int)<n.Rings->∃ i,i<n.Nodes.length/\(r:Int)∈(aa n i).Out
 sink:∃ s,s<n.Nodes.length/\(aa n s).Kind=8
 sink1:∀ i j,i<n.Nodes.length->j<n.Nodes.length->(aa n i).Kind=8->(aa n j).Kind=8->i=j
 ord:∃ pos:Nat->Nat,(∀ i,i<n.Nodes.length->pos i<n.Nodes.length)/\(∀ i j,i<n.Nodes.length->j<n.Nodes.length->pos i=pos j->i=j)/\∀ i j r,i<n.Nodes.length->j<n.Nodes.length->r∈(aa n i).Out->r∈(aa n j).In->pos i<pos j
structure RightS (n:Net) (items:List (List Item)):Prop extends RightN n where
 l4:items.length<=4
 l20:∀ (a:Nat) (l:List Item),items[a]?=some l->l.length<=20
 dep0:∀ (a:Nat) (l:List Item) (x:Item),items[a]?=some l->x∈l->x.Dep=0
 srcA:∀ i,i<n.Nodes.length->(aa n i).Kind=1->(aa n i).A<items.length
 src1:∀ i j,i<n.Nodes.length->j<n.Nodes.length->(aa n i).Kind=1->(aa n j).Kind=1->(aa n i).A=(aa n j).A->i=j
theorem iA {n:Net} {i:Nat} (h:i<n.Nodes.length):n.Nodes[i]?=some (aa n i):=by unfold aa;rw [LL,LG h];rfl
theorem GB {x:Node} (h:kD x=0):ot x.Kind x.A/\0<=x.A/\(x.Kind=1->x.In=[])/\(x.Kind=6->1<=x.In.length)/\(x.Kind≠1->x.Kind≠6->x.In.length=1)/\(x.Kind=8->x.Out=[])/\(x.Kind≠8->1<=x.Out.length) /\
  (x.Kind≠8->x.Kind≠5->x.Kind≠7->x.Out.length=1):=by
 unfold kD at h
 split at h
 ·exact absurd h (by decide)
 ·rename_i i o har
  split at h
  ·exact absurd h (by decide)
  ·rename_i hf
   split at h
   ·exact absurd h (by decide)
   ·rename_i hb
    have hfi:eL x.In.length i=true/\eL x.Out.length o=true:=by cases h1:eL x.In.length i<;>cases h2:eL x.Out.length o<;>simp [h1,h2] at hf<;>exact ⟨rfl,rfl⟩
    have h1:=of_decide_eq_true hfi.1
    have h2:=of_decide_eq_true hfi.2
    have h3:¬ (x.A<0∨x.Kind=1/\4<=x.A∨x.Kind=2/\3<x.A∨x.Kind≠1/\x.Kind≠2/\x.A≠0):=fun e=>hb (by unfold badA;exact decide_eq_true e)
    unfold qI at har
    have hz:∀ l:List Int,(l.length:Int)=0->l=[]:=fun l hl=>LR (by omega)
    split at har
    ·cases har;rename_i hk
     exact ⟨⟨by omega,by omega,by omega⟩,by omega,fun _=>hz _ (by omega),by omega,by omega,by omega,by omega,by omega⟩
    ·split at har
     ·cases har;rename_i hk1 hk
      exact ⟨⟨by omega,by omega,by omega⟩,by omega,by omega,by omega,by omega,by omega,by omega,by omega⟩
     ·split at har
      ·cases har;rename_i hk1 hk2 hk
       exact ⟨⟨by omega,by omega,by omega⟩,by omega,by omega,by omega,by omega,by omega,by omega,by omega⟩
      ·split at har
       ·cases har;rename_i hk1 hk2 hk3 hk
        exact ⟨⟨by omega,by omega,by omega⟩,by omega,by omega,by omega,by omega,by omega,by omega,by omega⟩
       ·split at har
        ·cases har;rename_i hk1 hk2 hk3 hk4 hk
         exact ⟨⟨by omega,by omega,by omega⟩,by omega,by omega,by omega,by omega,fun _=>hz _ (by omega),by omega,by omega⟩
        ·cases har
theorem yu {α:Type} {p:α->Bool}:∀ {l:List α},(l.filter p).length=1->∃ (i:Nat) (x:α),l[i]?=some x/\p x=true/\∀ (j:Nat) (y:α),l[j]?=some y->p y=true->j=i
 | [],h=>by simp at h
 | a::l,h=>by
  by_cases ha:p a=true
  ·rw [Mw ha] at h;have h0:l.filter p=[]:=LR (by simpa using h);refine ⟨0,a,rfl,ha,fun j y hy hp=>?_⟩;cases j with
   | zero=>rfl
   | succ j =>
    have hm:y∈l.filter p:=NJ.2 ⟨LJ (by simpa using hy),hp⟩;rw [h0] at hm;cases hm
  ·rw [MM ha] at h;obtain ⟨i,x,h1,h2,h3⟩:=yu h;refine ⟨i+1,x,by simpa using h1,h2,fun j y hy hp=>?_⟩;cases j with
   | zero=>simp at hy;subst hy;exact absurd hp ha
   | succ j=>rw [h3 j y (by simpa using hy) hp]
theorem Gz {n:Net} (h:(netR n).2=0):RightN n:=by
 obtain ⟨l,o,hlk,hl,ho,_⟩:=Bj h;have hord:=H0 ho;have hg:∀ i,i<n.Nodes.length->n.Nodes[i]?=some (aa n i):=fun i hi=>iA hi
 have he:=fun i hi=>GB (hl.err i _ (hg i hi))
 obtain ⟨s,xs,hs,hs8,hsu⟩:=yu hl.sink;have hsl:=(LH.1 hs).1;have hsx:aa n s=xs:=by have:=hg s hsl;rw [hs] at this;exact (LP this).symm
 refine ⟨hl.n1,hl.n2,hl.r1,hl.r2,hl.m1,hl.m2,fun i hi=>(he i hi).1,fun i hi=>(he i hi).2.1,fun i hi=>(he i hi).2.2.1,fun i hi=>(he i hi).2.2.2.1,fun i hi=>(he i hi).2.2.2.2.1,fun i hi=>(he i hi).2.2.2.2.2.1,fun i hi=>(he i hi).2.2.2.2.2.2.1,fun i hi=>(he i hi).2.2.2.2.2.2.2,
  fun i hi r hr=>⟨(hl.inn i _ (hg i hi) r hr).1,(hl.inn i _ (hg i hi) r hr).2.1⟩,fun i hi r hr=>⟨(hl.out i _ (hg i hi) r hr).1,(hl.out i _ (hg i hi) r hr).2.1⟩,fun i hi=>hl.ndI i _ (hg i hi),fun i hi=>hl.ndO i _ (hg i hi),
  fun i j r hi hj h1 h2=>?_,fun i j r hi hj h1 h2=>?_,fun r hr=>?_,fun r hr=>?_,⟨s,hsl,by rw [hsx];simpa using hs8⟩,fun i j hi hj h1 h2=>?_,?_⟩
 ·obtain ⟨_,_,e,e1,e2⟩:=hl.inn i _ (hg i hi) r h1;obtain ⟨_,_,e',e3,e4⟩:=hl.inn j _ (hg j hj) r h2;rw [e1] at e3;cases e3;omega
 ·obtain ⟨_,_,e,e1,e2⟩:=hl.out i _ (hg i hi) r h1;obtain ⟨_,_,e',e3,e4⟩:=hl.out j _ (hg j hj) r h2;rw [e1] at e3;cases e3;omega
 ·have hlt:r<l.length:=by have:=hl.len;omega
  obtain ⟨i,x,h1,_,h3⟩:=hl.dst r _ (LG hlt);have hi:=(LH.1 h1).1;have:=hg i hi;rw [h1] at this;cases this;exact ⟨i,hi,h3⟩
 ·have hlt:r<l.length:=by have:=hl.len;omega
  obtain ⟨i,x,h1,_,h3⟩:=hl.src r _ (LG hlt);have hi:=(LH.1 h1).1;have:=hg i hi;rw [h1] at this;cases this;exact ⟨i,hi,h3⟩
 ·rw [hsu i _ (hg i hi) (by simpa using h1),hsu j _ (hg j hj) (by simpa using h2)]
 ·have hmem:∀ i,i<n.Nodes.length->i∈o:=fun i hi=>G8 hord.nd hord.lt hord.len hi
  have hidx:∀ i,i<n.Nodes.length->o[o.idxOf i]?=some i:=fun i hi=>by rw [LG (List.idxOf_lt_length_iff.2 (hmem i hi)),List.getElem_idxOf]
  refine ⟨fun i=>o.idxOf i,fun i hi=>?_,fun i j hi hj e=>?_,fun i j r hi hj h1 h2=>?_⟩
  ·show o.idxOf i<_;rw [<- hord.len];exact List.idxOf_lt_length_iff.2 (hmem i hi)
  ·have h1:=hidx i hi;have h2:=hidx j hj;simp only at e;rw [e,h2] at h1;exact (LP h1).symm
  ·obtain ⟨_,_,e,e1,e2⟩:=hl.out i _ (hg i hi) r h1;have h3:=hord.fed _ j _ r e (hidx j hj) (hg j hj) h2 e1;rw [e2,L7] at h3;show o.idxOf i<o.idxOf j;obtain ⟨q,hq⟩:=L1 h3;rw [Mo] at hq;split at hq
   ·rename_i hlt;have hq2:=hidx i hi;have:q=o.idxOf i:=by
     have hql:=(LH.1 hq).1;refine (List.getElem?_inj hql hord.nd).1 ?_;rw [hq,hq2]
    omega
   ·cases hq
theorem xT:∀ {l:List (List Item)},iB l=0->∀ (a:Nat) (s:List Item),l[a]?=some s->s.length<=20/\∀ x:Item,x∈s->x.Dep=0
 | [],_,a,s,h=>by simp at h
 | t :: l,h,a,s,hs=>by
  unfold iB at h;split at h
  ·exact absurd h (by decide)
  ·split at h
   ·exact absurd h (by decide)
   ·rename_i h1 h2;cases a with
    | zero =>
     simp at hs;subst hs;refine ⟨by omega,fun x hx=>?_⟩;refine Classical.byContradiction fun hd=>h2 ?_
     rw [NQ];exact ⟨x,hx,decide_eq_true hd⟩
    | succ a=>exact xT h a s (by simpa using hs)
theorem uu (len:Nat):∀ {ns:List Node} {seen:List Int},ju len ns seen=0->(∀ (i:Nat) x,ns[i]?=some x->x.Kind=1->x.A<len/\x.A ∉ seen)/\∀ (i j:Nat) x y,ns[i]?=some x->ns[j]?=some y->x.Kind=1->y.Kind=1->x.A=y.A->i=j
 | [],seen,_=>⟨fun i x h=>by simp at h,fun i j x y h=>by simp at h⟩
 | z :: ns,seen,h=>by
  unfold ju at h;split at h
  ·rename_i hk;obtain ⟨h1,h2⟩:=uu len h;refine ⟨fun i x hx hx1=>?_,fun i j x y hx hy hx1 hy1 he=>?_⟩
   ·cases i with
    | zero=>simp at hx;subst hx;exact absurd hx1 hk
    | succ i=>exact h1 i x (by simpa using hx) hx1
   ·cases i with
    | zero=>simp at hx;subst hx;exact absurd hx1 hk
    | succ i =>
     cases j with
     | zero=>simp at hy;subst hy;exact absurd hy1 hk
     | succ j=>rw [h2 i j x y (by simpa using hx) (by simpa using hy) hx1 hy1 he]
  ·split at h
   ·exact absurd h (by decide)
   ·split at h
    ·exact absurd h (by decide)
    ·rename_i hk hl hs;obtain ⟨h1,h2⟩:=uu len h;have key:∀ (i:Nat) x,ns[i]?=some x->x.Kind=1->x.A≠z.A:=fun i x hx hx1 e=>(h1 i x hx hx1).2 (by rw [e];exact L0)
     refine ⟨fun i x hx hx1=>?_,fun i j x y hx hy hx1 hy1 he=>?_⟩
     ·cases i with
      | zero=>simp at hx;subst hx;exact ⟨by omega,hs⟩
      | succ i=>exact ⟨(h1 i x (by simpa using hx) hx1).1,fun hm=>(h1 i x (by simpa using hx) hx1).2 (L2 _ hm)⟩
     ·cases i with
      | zero =>
       simp at hx;subst hx;cases j with
       | zero=>rfl
       | succ j=>exact absurd he.symm (key j y (by simpa using hy) hy1)
      | succ i =>
       cases j with
       | zero=>simp at hy;subst hy;exact absurd he (key i x (by simpa using hx) hx1)
       | succ j=>rw [h2 i j x y (by simpa using hx) (by simpa using hy) hx1 hy1 he]
theorem ku {n:Net} {items:List (List Item)} (h:cP n items=0):RightS n items:=by
 unfold cP at h;split at h
 ·rename_i h1;exact absurd h h1
 ·split at h
  ·exact absurd h (by decide)
  ·split at h
   ·rename_i h1;exact absurd h h1
   ·rename_i h1 h2 h3;have hi:=fun a s hs=>xT (Decidable.not_not.1 h3) a s hs
    obtain ⟨s1,s2⟩:=uu items.length h;exact { Gz (Decidable.not_not.1 h1) with
     l4:=by omega
     l20:=fun a l hl=>(hi a l hl).1
     dep0:=fun a l x hl hx=>(hi a l hl).2 x hx
     srcA:=fun i hi hk=>(s1 i _ (iA hi) hk).1
     src1:=fun i j hi hj h1 h2 he=>s2 i j _ _ (iA hi) (iA hj) h1 h2 he }
section
def idxI {α:Type} (p:α->Bool) (xs:List α):Int:=match xs.findIdx? p with | some i=>(i:Int) | none => -1
theorem uj {α:Type} (xs:List α) (hx:xs.length<=1099511627776) (p:α->Bool) {body:Int->Option (Int ⊕ Int)}
  (h1:∀ (k:Nat) (x:α),xs[k]?=some x->k<xs.length->idx xs (k:Int)=some x->decide ((k:Int)<(xs.length:Int))=true->IntKind.i64.wrap ((k:Int)+1)=((k+1:Nat):Int)->body k=if p x=true then some (.inr (k:Int)) else some (.inl ((k+1:Nat):Int)))
  (h2:decide ((xs.length:Int)<(xs.length:Int))=false->body xs.length=some (.inr (-1))):iter body 0=some (idxI p xs):=by
 have key:∀ (m k:Nat),k+m=xs.length->iter body k=some (match (xs.drop k).findIdx? p with | some i=>((k+i:Nat):Int) | none => -1):=by
  intro m;induction m with
  | zero =>
   intro k hk;have hk:k=xs.length:=by omega
   subst hk;rw [aH,h2 (by simp),MJ];rfl
  | succ m ih =>
   intro k hk;have hlt:k<xs.length:=by omega
   have hg:xs[k]?=some xs[k]:=LG hlt;rw [aH,h1 k _ hg hlt (bv hg) (by simp;omega) (bt (by omega)),LU hlt,NK];by_cases hp:p xs[k]=true
   ·rw [if_pos hp,hp];rfl
   ·rw [if_neg hp,Bool.eq_false_iff.2 hp];simp only;rw [ih (k+1) (by omega)];cases (xs.drop (k+1)).findIdx? p with
    | none=>rfl
    | some i =>
     show some (((k+1+i:Nat):Int))=some (((k+(i+1):Nat):Int));congr 1;omega
 have:=key xs.length 0 (by omega)
 simp only [Mt,MD,MG] at this
 exact this
theorem AR {α:Type} (p:α->Bool) (xs:List α):decide (idxI p xs >= 0)=xs.any p:=by
 unfold idxI;cases h:xs.findIdx? p with
 | none =>
  rw [List.findIdx?_eq_none_iff] at h;have:xs.any p=false:=by rw [List.any_eq_false];exact fun x hx=>by simpa using h x hx
  rw [this];rfl
 | some i =>
  obtain ⟨hi,hp,_⟩:=List.findIdx?_eq_some_iff_getElem.1 h;have:xs.any p=true:=NQ.2 ⟨_,Mk hi,hp⟩;rw [this];simp
theorem JE (x:Item) (r:Int) (hr:1<=r/\r<=16):pL x r=some (x.Key % r,0):=by
 have h1:=Int.tmod_lt_of_pos x.Key (show 0<r by omega);have h2:=Int.lt_tmod_of_pos x.Key (show 0<r by omega);have hn:((r.natAbs:Nat):Int)=r:=by omega
 unfold pL;rw [if_neg (by simp;omega)];unfold rem;rw [if_neg (by omega),LF,if_neg (by omega),LF];rw [bA (by omega) (by omega)];have h3:(x.Key.tmod r+r).tmod r=x.Key % r:=by rw [Int.tmod_eq_emod_of_nonneg (by omega),Int.add_emod_right,Int.tmod_eq_emod];split<;>simp [hn,Int.sub_emod_right]
 rw [h3]
def bh (x:Node) (k:Nat):Nat:=(x.In.getD k 0).toNat
def bu (x:Node):Nat:=if x.Kind=6 then x.In.length else 1
def memN (s:State) (i:Nat):Memory:=s.Memory.getD i ⟨0,[],0⟩
def dl (n:Net) (items:List (List Item)) (s:State) (i k:Nat):Option Item :=
 if (aa n i).Kind=1 then (items.getD (aa n i).A.toNat [])[(s.At.getD (aa n i).A.toNat 0).toNat]? else (s.Rings.getD (bh (aa n i) k) []).head?
def bD (x:Node) (key:Int):List Int:=if x.Kind=7 then [x.Out.getD (key % x.Out.length).toNat 0] else x.Out
def roomy (n:Net) (s:State) (l:List Int):Bool:=l.all fun r=>decide (((s.Rings.getD r.toNat []).length:Int)<n.Room)
def dM (n:Net) (items:List (List Item)) (s:State) (i k:Nat):Bool :=
 match dl n items s i k with
 | none=>false
 | some it=>roomy n s (bD (aa n i) it.Key) && !(decide ((aa n i).Kind=6/\s.Choices.length=500)) && !(decide ((aa n i).Kind=8/\s.Out.length=2000))
def cR (y:Item) (l:List Int) (R:List (List Item)):List (List Item):=l.foldl (fun R r=>R.set r.toNat (R.getD r.toNat []++[y])) R
def chD (x:Node) (s:State) (it:Item):Item:=if x.Kind=6 then ⟨it.Key,it.Val,(s.Choices.length:Int)+1⟩ else it
def dm (n:Net) (s:State) (i:Nat) (it:Item):Memory × Item:=cM (aa n i).Kind (aa n i).A (memN s i) (chD (aa n i) s it)
def doM (n:Net) (items:List (List Item)) (s:State) (i k:Nat):State :=
  match dl n items s i k with
  | none=>s
  | some it =>
    { At:=if (aa n i).Kind=1 then s.At.set (aa n i).A.toNat (s.At.getD (aa n i).A.toNat 0+1) else s.At
      Rings:=cR (dm n s i it).2 (bD (aa n i) it.Key) (if (aa n i).Kind=1 then s.Rings else s.Rings.set (bh (aa n i) k) (s.Rings.getD (bh (aa n i) k) []).tail)
      Memory:=s.Memory.set i (dm n s i it).1
      Choices:=if (aa n i).Kind=6 then s.Choices++[⟨i,k⟩] else s.Choices
      Out:=if (aa n i).Kind=8 then s.Out++[(dm n s i it).2] else s.Out }
def mC (n:Net) (items:List (List Item)) (s:State) (i:Nat):List Move:=((List.range (bu (aa n i))).filter fun k=>dM n items s i k).map fun k:Nat=>⟨i,k⟩
def bb (n:Net) (items:List (List Item)) (s:State):List Move:=(List.range n.Nodes.length).flatMap fun i=>mC n items s i
def sD (n:Net) (c:Choice):Prop:=0<=c.Node/\c.Node<n.Nodes.length/\(aa n c.Node.toNat).Kind=6/\0<=c.Lane/\c.Lane<(aa n c.Node.toNat).In.length
structure OkS (n:Net) (items:List (List Item)) (B:Int) (s:State):Prop where
 at_:s.At.length=items.length
 rg:(s.Rings.length:Int)=n.Rings
 mm:s.Memory.length=n.Nodes.length
 ch:s.Choices.length<=500
 out:s.Out.length<=2000
 atP:∀ (a:Nat) (p:Int),s.At[a]?=some p->0<=p/\p<=(items.getD a []).length
 room:∀ (r:Nat) (l:List Item),s.Rings[r]?=some l->(l.length:Int)<=n.Room
 depR:∀ (r:Nat) (l:List Item) (x:Item),s.Rings[r]?=some l->x∈l->0<=x.Dep/\x.Dep<=s.Choices.length
 mem:∀ (i:Nat) (m:Memory),s.Memory[i]?=some m->okM m/\m.Dep<=s.Choices.length/\∀ y,y∈m.Keys->y.N<=B
 cho:∀ c,c∈s.Choices->sD n c
 depO:∀ x,x∈s.Out->0<=x.Dep/\x.Dep<=s.Choices.length
section
variable {n:Net} {items:List (List Item)} {B:Int} {s:State}
theorem dw {α:Type} {l:List α} {k:Nat} (z:α) (h:k<l.length):l[k]?=some (l.getD k z):=by rw [LL,LG h];rfl
theorem idx_D {α:Type} {l:List α} {i:Int} (z:α) (h0:0<=i) (h:i<l.length):idx l i=some (l.getD i.toNat z):=by unfold idx;rw [if_pos h0];exact dw z (by omega)
theorem ixN_D {α:Type} {l:List α} {i:Int} (h0:0<=i) (h:i<l.length):ixN l i=some i.toNat:=by unfold ixN;rw [if_pos ⟨h0,h⟩]
theorem qt (hR:RightN n) {i k:Nat} (hi:i<n.Nodes.length) (hk:k<bu (aa n i)) (h1:(aa n i).Kind≠1):k<(aa n i).In.length:=by
 unfold bu at hk;split at hk
 ·exact hk
 ·rename_i h6;have:=hR.inx i hi h1 h6;omega
theorem qw (hR:RightN n) {i k:Nat} (hi:i<n.Nodes.length) (hk:k<(aa n i).In.length):(aa n i).In.getD k 0∈(aa n i).In/\0<=(aa n i).In.getD k 0/\(aa n i).In.getD k 0<n.Rings:=by have:(aa n i).In.getD k 0∈(aa n i).In:=LJ (dw 0 hk);exact ⟨this,hR.inR i hi _ this⟩
theorem at_ok (hS:RightS n items) (ok:OkS n items B s) {i:Nat} (hi:i<n.Nodes.length) (h1:(aa n i).Kind=1) :
  0<=(aa n i).A/\(aa n i).A<s.At.length/\(aa n i).A<items.length/\0<=s.At.getD (aa n i).A.toNat 0/\s.At.getD (aa n i).A.toNat 0<=(items.getD (aa n i).A.toNat []).length/\(items.getD (aa n i).A.toNat []).length<=20:=by
 have h0:=hS.a0 i hi
 have h2:=hS.srcA i hi h1
 have h3:=ok.at_
 have h4:=ok.atP (aa n i).A.toNat _ (dw 0 (by omega))
 exact ⟨h0,by omega,h2,h4.1,h4.2,hS.l20 _ _ (dw [] (by omega))⟩
theorem AU (hS:RightS n items) (ok:OkS n items B s) {i k:Nat} (hi:i<n.Nodes.length) (hk:k<bu (aa n i)) :
  nY n items s ⟨i,k⟩=some (match dl n items s i k with | some it=>(it,true) | none=>(⟨0,0,0⟩,false)):=by
 unfold nY dl
 simp only
 rw [bv (iA hi),LF]
 by_cases h1:(aa n i).Kind=1
 ·rw [if_pos (by simpa using h1),if_pos h1]
  obtain ⟨a0,a1,a2,a3,a4,a5⟩:=at_ok hS ok hi h1
  rw [idx_D 0 a0 a1,LF,idx_D [] a0 a2,LF]
  by_cases he:s.At.getD (aa n i).A.toNat 0=((items.getD (aa n i).A.toNat []).length:Int)
  ·rw [if_pos (by simpa using he),Mb (by omega)]
  ·rw [if_neg (by simpa using he),LF,LF,idx_D ⟨0,0,0⟩ a3 (by omega),LF,dw (⟨0,0,0⟩:Item) (show (s.At.getD (aa n i).A.toNat 0).toNat<_ by omega)]
 ·rw [if_neg (by simpa using h1),if_neg h1]
  have hkl:=qt hS.toRightN hi hk h1
  obtain ⟨_,b0,b1⟩:=qw hS.toRightN hi hkl
  have hrg:=ok.rg
  rw [idx_D (0:Int) (by omega) (by omega),LF]
  simp only [L7]
  rw [idx_D [] b0 (by omega),LF]
  show _=some (match (s.Rings.getD (bh (aa n i) k) []).head? with | some it=>(it,true) | none=>(⟨0,0,0⟩,false))
  unfold bh
  cases hl:s.Rings.getD ((aa n i).In.getD k 0).toNat [] with
  | nil=>rfl
  | cons y ys=>rw [if_neg (by simp;omega)];rfl
theorem kz (hR:RightN n) {i:Nat} (hi:i<n.Nodes.length) (key:Int):∀ r,r∈bD (aa n i) key->r∈(aa n i).Out:=by
 intro r hr;unfold bD at hr;split at hr
 ·rename_i h7;have h1:=hR.out1 i hi (by omega);have hm:=NT key (show ((aa n i).Out.length:Int)≠0 by omega);have hm2:=Int.emod_lt_of_pos key (show (0:Int)<(aa n i).Out.length by omega);simp at hr;subst hr;have hlt:(key % ((aa n i).Out.length:Int)).toNat<(aa n i).Out.length:=by omega
  have:=LJ (dw (0:Int) hlt);rwa [LL] at this
 ·exact hr
theorem uz {l:List Int} {R:Int} (hd:l.Nodup) (h:∀ r,r∈l->0<=r/\r<R) (hR:0<=R):(l.length:Int)<=R:=by
 have h1:(l.map Int.toNat).Nodup:=List.pairwise_map.2 (List.Pairwise.imp_of_mem (fun {a b} ha hb hne e=>hne (by have:=h a ha;have:=h b hb;omega)) hd);have:=ua R.toNat (l.map Int.toNat) h1 (fun x hx=>by obtain ⟨a,ha,rfl⟩:=L9.1 hx;have:=h a ha;omega)
 simp at this;omega
theorem u5 (hR:RightN n) {i:Nat} (hi:i<n.Nodes.length) (key:Int):(bD (aa n i) key).Nodup:=by
 unfold bD;split
 ·simp
 ·exact hR.ndO i hi
theorem sM (hR:RightN n) {i:Nat} (hi:i<n.Nodes.length):(aa n i).Out.length<=16:=by have:=uz (hR.ndO i hi) (hR.outR i hi) hR.r1;have:=hR.r2;omega
theorem xt (hR:RightN n) {i:Nat} (hi:i<n.Nodes.length) (it:Item):nV (aa n i) it=some (bD (aa n i) it.Key):=by
 unfold nV bD;by_cases h7:(aa n i).Kind=7
 ·rw [if_neg (by simp [h7]),if_pos h7];have h1:=hR.out1 i hi (by omega);have h2:=sM hR hi;have hm:=NT it.Key (show ((aa n i).Out.length:Int)≠0 by omega);have hm2:=Int.emod_lt_of_pos it.Key (show (0:Int)<(aa n i).Out.length by omega);rw [JE it _ (by omega),LF];simp only;rw [bA (by omega) (by omega)];obtain ⟨q,hq⟩:=M2 hm;rw [hq] at hm2 ⊢;rw [show ((q:Nat):Int)+1=((q+1:Nat):Int) from rfl,oq (by omega) (by omega),LF];have hql:q<(aa n i).Out.length:=by omega
  congr 1;rw [List.take_succ_eq_append_getElem hql,List.drop_append_of_le_length (by simp;omega),Mi (by simp;omega)];simp [LL,LG hql]
 ·rw [if_pos (by simpa using h7),if_neg h7]
theorem EO (hR:RightN n) (ok:OkS n items B s) (l:List Int) (hl:∀ r,r∈l->0<=r/\r<n.Rings) (hll:l.length<=16):oZ l s.At s.Rings s.Memory s.Choices s.Out n.Nodes n.Rings n.Room=some (!roomy n s l):=by
 unfold oZ rl;have hrg:=ok.rg;rw [uj l (by omega) (fun r=>decide (n.Room<=((s.Rings.getD r.toNat []).length:Int))) (fun k x hx hk h1 h2 h3=>by
  have hm:=hl x (LJ hx);unfold o4 rC;rw [h2,h1,h3];simp only [if_true,LF];rw [idx_D [] hm.1 (by omega),LF,LF];rfl) (fun h=>by
  unfold o4;rw [h];rfl)]
 rw [LF,AR];congr 1;unfold roomy;rw [No];simp only [NQ,decide_eq_true_eq,Bool.not_eq_true',List.all_eq_false];exact ⟨fun ⟨x,h1,h2⟩=>⟨x,h1,by omega⟩,fun ⟨x,h1,h2⟩=>⟨x,h1,by omega⟩⟩
theorem uV (hS:RightS n items) (ok:OkS n items B s) {i k:Nat} {it:Item} (h:dl n items s i k=some it):0<=it.Dep/\it.Dep<=s.Choices.length:=by
 unfold dl at h;split at h
 ·rename_i h1;have hm:=LJ h;rw [LL] at hm;cases hg:items[(aa n i).A.toNat]? with
  | none=>rw [hg] at hm;simp at hm
  | some l =>
   rw [hg] at hm;rw [hS.dep0 _ l it hg hm];omega
 ·have hm:=List.mem_of_head? h;rw [LL] at hm;cases hg:s.Rings[bh (aa n i) k]? with
  | none=>rw [hg] at hm;simp at hm
  | some l=>rw [hg] at hm;exact ok.depR _ l it hg hm
theorem B3 (hS:RightS n items) (ok:OkS n items B s) {i k:Nat} (hi:i<n.Nodes.length) (hk:k<bu (aa n i)) :
  lT n items s ⟨i,k⟩=some (dM n items s i k):=by
 unfold lT dM
 simp only
 rw [bv (iA hi),LF,AU hS ok hi hk,LF]
 cases hh:dl n items s i k with
 | none=>rfl
 | some it =>
  simp only [NG,LV,if_false]
  have hol:(bD (aa n i) it.Key).length<=16:=by
   unfold bD;split
   ·simp
   ·exact sM hS.toRightN hi
  rw [xt hS.toRightN hi,LF,EO hS.toRightN ok _ (fun r hr=>hS.outR i hi r (kz hS.toRightN hi _ r hr)) hol,LF,LF]
  cases hr:roomy n s (bD (aa n i) it.Key) with
  | false=>rfl
  | true =>
   simp only [NG,LV,if_false,Bool.true_and]
   have hch:=ok.ch
   have hst:(Option.bind (idx s.Memory (i:Int)) fun x11=>Option.bind (je (aa n i).Kind (aa n i).A x11 it) fun x12=>some (x12.2.2==0))=some true:=by have hm:=dw (⟨0,[],0⟩:Memory) (show i<s.Memory.length by rw [ok.mm];exact hi);rw [bv hm,LF,B7 _ _ _ _ (ok.mem i _ hm).1 (uV hS ok hh).1 (hS.kind i hi)];rfl
   rw [hst]
   by_cases h6:(aa n i).Kind=6
   ·have h8:¬ (aa n i).Kind=8:=by omega
    by_cases hc:s.Choices.length=500
    ·rw [if_pos (by simp [h6,hc])];simp [h6,hc]
    ·rw [if_neg (by simp [h6];omega)];simp [h6,hc]
   ·by_cases h8:(aa n i).Kind=8
    ·by_cases hc:s.Out.length=2000
     ·rw [if_pos (by simp [h8,hc])];simp [h8,hc]
     ·rw [if_neg (by simp [h8];omega)];simp [h8,hc]
    ·rw [if_neg (by simp [h6,h8])];simp [h6,h8]
end
end
section
theorem uH (y:Item):∀ (l:List Int) (R:List (List Item)),(cR y l R).length=R.length
 | [],R=>rfl
 | r::l,R=>by show (cR y l (R.set r.toNat (R.getD r.toNat []++[y]))).length=_;rw [uH y l];simp
theorem sG {α:Type} (l:List α) (i j:Nat) (a z:α) (h:i<l.length):(l.set i a).getD j z=if j=i then a else l.getD j z:=by
 rw [LL,LY];by_cases e:j=i
 ·subst e;rw [if_pos rfl,if_pos h,if_pos rfl];rfl
 ·rw [if_neg (fun x=>e x.symm),if_neg e,LL]
theorem uX (y:Item):∀ (l:List Int) (R:List (List Item)),l.Nodup->(∀ r,r∈l->0<=r/\r<R.length)->∀ j:Nat,(cR y l R).getD j []=if (j:Int)∈l then R.getD j []++[y] else R.getD j []
 | [],R,_,_,j=>by simp [cR]
 | r::l,R,hd,hl,j=>by
  obtain ⟨hn,hd⟩:=Nw.1 hd;have hr:=hl r L0;show (cR y l (R.set r.toNat (R.getD r.toNat []++[y]))).getD j []=_;rw [uX y l _ hd (fun q hq=>by have:=hl q (L2 _ hq);simpa using this) j,sG _ _ _ _ _ (by omega)];by_cases e:(j:Int)=r
  ·have ej:j=r.toNat:=by omega
   have hjn:¬ (j:Int)∈l:=by rw [e];exact hn
   rw [if_neg hjn,if_pos ej,if_pos (by rw [e];exact L0),<- ej]
  ·have ej:¬ j=r.toNat:=by omega
   rw [if_neg ej];have:((j:Int)∈r::l) ↔ (j:Int)∈l:=by simp [e]
   simp only [this]
theorem Gy (y:Item) (l:List Int) (r:Int) (R:List (List Item)):cR y (l++[r]) R=(cR y l R).set r.toNat ((cR y l R).getD r.toNat []++[y]):=by unfold cR;rw [List.foldl_append];rfl
theorem Ez (l:List Item) (R:Int) (y:Item) (h1:1<=R) (h2:R<=6) (h:(l.length:Int)<R):qf l R y=some (l++[y],0):=by unfold qf;rw [if_neg (by simp;omega),if_neg (by simp;omega),if_neg (by simp;omega)];unfold eO;rw [cJ (by simp;omega),LF,My,cJ (by simp;omega)];rfl
theorem Ej (x:Item) (l:List Item) (h:(x::l).length<=6):pY (x::l)=some (x,l,0):=by
 unfold pY;have h':l.length+1<=6:=by simpa using h
 rw [if_neg (by simp;omega),if_neg (by simp;omega)];have h1:idx (x::l) 0=some x:=rfl;have h2:sub (x::l) 1 (((x::l).length:Nat):Int)=some l:=by have:=jv (xs:=x::l) (i:=1) (by simp);simpa using this
 unfold eO;rw [h1,LF,h2,LF,cJ (by simp;omega)];rfl
section
variable {n:Net} {items:List (List Item)} {B:Int} {s:State}
def eW (n:Net) (s:State) (i k:Nat):List (List Item):=if (aa n i).Kind=1 then s.Rings else s.Rings.set (bh (aa n i) k) (s.Rings.getD (bh (aa n i) k) []).tail
theorem ui (i k:Nat):(eW n s i k).length=s.Rings.length:=by unfold eW;split<;>simp
theorem xU (hR:RightN n) (hrg:(s.Rings.length:Int)=n.Rings) {i k:Nat} (hi:i<n.Nodes.length) (hk:k<bu (aa n i)) (j:Nat) :
  (eW n s i k).getD j []=if (aa n i).Kind≠1/\j=bh (aa n i) k then (s.Rings.getD j []).tail else s.Rings.getD j []:=by
 unfold eW
 by_cases h1:(aa n i).Kind=1
 ·rw [if_pos h1,if_neg (fun e=>e.1 h1)]
 ·obtain ⟨_,b0,b1⟩:=qw hR hi (qt hR hi hk h1)
  rw [if_neg h1,sG _ _ _ _ _ (by unfold bh;omega)]
  by_cases e:j=bh (aa n i) k
  ·rw [if_pos e,if_pos ⟨h1,e⟩,e]
  ·rw [if_neg e,if_neg (fun x=>e x.2)]
theorem oa {i k:Nat} (hc:dM n items s i k=true):∃ it,dl n items s i k=some it/\roomy n s (bD (aa n i) it.Key)=true/\((aa n i).Kind=6->s.Choices.length≠500)/\((aa n i).Kind=8->s.Out.length≠2000):=by
 unfold dM at hc;cases h:dl n items s i k with
 | none=>rw [h] at hc;cases hc
 | some it =>
  rw [h] at hc;simp only [MF,Bool.not_eq_true',decide_eq_false_iff_not] at hc;exact ⟨it,rfl,hc.1.1,fun h6 e=>hc.1.2 ⟨h6,e⟩,fun h8 e=>hc.2 ⟨h8,e⟩⟩
theorem y8 (hR:RightN n) (a2:List Memory) (a3 l:List Int) (a5:List Choice) (M:Memory × Item × Int) (q:Nat) (O:List Item) (R:List (List Item)) (hd:l.Nodup) (hl:∀ r,r∈l->0<=r/\r<R.length/\((R.getD r.toNat []).length:Int)<n.Room) (hll:l.length<=16):∀ (m j:Nat),j+m=l.length ->
  iter (fun ss:Int × (List (List Item))=>jR n a2 a3 l a5 M q O ss.1 ss.2) ((j:Int),cR M.2.1 (l.take j) R)=some (a3,cR M.2.1 l R,a2.set q M.1,a5,O)
 | 0,j,h=>by
  have hj:j=l.length:=by omega
  subst hj;have:jR n a2 a3 l a5 M q O (l.length:Int) (cR M.2.1 (l.take l.length) R)=some (.inr (a3,cR M.2.1 l R,a2.set q M.1,a5,O)):=by unfold jR;rw [if_neg (by simp),ME];rfl
  rw [aH];simp only [this]
 | m+1,j,h=>by
  have hlt:j<l.length:=by omega
  have hm:=hl _ (Mk hlt);have htk:l.take (j+1)=l.take j++[l[j]]:=List.take_succ_eq_append_getElem hlt;have hnd:(l.take j).Nodup:=hd.sublist (List.take_sublist _ _);have hnm:l[j] ∉ l.take j:=fun hmem=>by
   have:(l.take j++[l[j]]).Nodup:=by rw [<- htk];exact hd.sublist (List.take_sublist _ _)
   rw [List.nodup_append] at this;exact this.2.2 _ hmem _ (by simp) rfl
  have hlen:=uH M.2.1 (l.take j) R;have hget:(cR M.2.1 (l.take j) R).getD l[j].toNat []=R.getD l[j].toNat []:=by rw [uX _ _ _ hnd (fun r hr=>⟨(hl r (LX hr)).1,(hl r (LX hr)).2.1⟩),if_neg (by rw [Mf hm.1];exact hnm)]
  have e:jR n a2 a3 l a5 M q O (j:Int) (cR M.2.1 (l.take j) R)=some (.inl (((j+1:Nat):Int),cR M.2.1 (l.take (j+1)) R)):=by
   unfold jR;rw [if_pos (by simp;omega),bv (LG hlt),LF,ixN_D hm.1 (by rw [hlen];exact hm.2.1),LF,dw [] (show l[j].toNat<_ by rw [hlen];omega),LF,hget,
    Ez _ _ _ hR.m1 hR.m2 hm.2.2,LF,LF,dw [] (show l[j].toNat<_ by rw [hlen];omega),LF,bt (by omega),htk,Gy,hget]
  rw [aH];simp only [e];exact y8 hR a2 a3 l a5 M q O R hd hl hll m (j+1) (by omega)
theorem ya (hR:RightN n) (a2:List Memory) (a3 l:List Int) (a5:List Choice) (M:Memory × Item × Int) (q:Nat) (O:List Item) (R:List (List Item)) (hd:l.Nodup) (hl:∀ r,r∈l->0<=r/\r<R.length/\((R.getD r.toNat []).length:Int)<n.Room) (hll:l.length<=16) :
 nh n a2 a3 R l a5 M q O=some (a3,cR M.2.1 l R,a2.set q M.1,a5,O):=y8 hR a2 a3 l a5 M q O R hd hl hll l.length 0 (by omega)
theorem do_eq (hS:RightS n items) (ok:OkS n items B s) {i k:Nat} (hi:i<n.Nodes.length) (hk:k<bu (aa n i)) (hc:dM n items s i k=true) :
  nu n items ⟨i,k⟩ s.At s.Rings s.Memory s.Choices s.Out=some ((doM n items s i k).At,(doM n items s i k).Rings,(doM n items s i k).Memory,(doM n items s i k).Choices,(doM n items s i k).Out):=by
 obtain ⟨it,hh,hroom,h500,h2000⟩:=oa hc
 have hhd:=AU hS ok hi hk
 rw [hh] at hhd
 have hrg:=ok.rg
 have hR:=hS.toRightN
 have hlt:∀ r,r∈bD (aa n i) it.Key->0<=r/\r<(eW n s i k).length/\(((eW n s i k).getD r.toNat []).length:Int)<n.Room:=fun r hr=>by
  have h1:=hR.outR i hi r (kz hR hi _ r hr);refine ⟨h1.1,by rw [ui];omega,?_⟩;have h2:=Mz.1 hroom r hr;have h2:=of_decide_eq_true h2;rw [xU hR hrg hi hk];split
  ·rw [List.length_tail];omega
  ·exact h2
 have hol:(bD (aa n i) it.Key).length<=16:=by
  unfold bD;split
  ·simp
  ·exact sM hR hi
 have tail:∀ (At:List Int) (R:List (List Item)),R=eW n s i k->lq n ⟨i,k⟩ (aa n i) (it,true) s.Memory s.Choices s.Out At R =
   some (At,cR (dm n s i it).2 (bD (aa n i) it.Key) R,s.Memory.set i (dm n s i it).1,if (aa n i).Kind=6 then s.Choices++[⟨i,k⟩] else s.Choices,if (aa n i).Kind=8 then s.Out++[(dm n s i it).2] else s.Out):=fun At R hRe=>by
  subst hRe
  have hmi:i<s.Memory.length:=by rw [ok.mm];exact hi
  have hm:=dw (⟨0,[],0⟩:Memory) hmi
  have hdep:=uV hS ok hh
  have hch:=ok.ch
  have k3:∀ (z22:Int) (z23:List Choice),(⟨it.Key,it.Val,z22⟩:Item)=chD (aa n i) s it->0<=z22->lp n ⟨i,k⟩ (aa n i) (it,true) s.Memory s.Out At (eW n s i k) (bD (aa n i) it.Key) z22 z23 =
    some (At,cR (dm n s i it).2 (bD (aa n i) it.Key) (eW n s i k),s.Memory.set i (dm n s i it).1,z23,if (aa n i).Kind=8 then s.Out++[(dm n s i it).2] else s.Out):=fun z22 z23 hz hz0=>by
   have hst:je (aa n i).Kind (aa n i).A (s.Memory.getD i ⟨0,[],0⟩) (⟨it.Key,it.Val,z22⟩:Item)=some ((dm n s i it).1,(dm n s i it).2,0):=by rw [B7 _ _ _ _ (ok.mem i _ hm).1 hz0 (hS.kind i hi),hz];rfl
   unfold lp
   simp only
   rw [fK hmi,LF,hm,LF,hst,LF,LF,hm,LF]
   by_cases h8:(aa n i).Kind=8
   ·have:=ok.out
    rw [if_pos (by simpa using h8),cJ (by simp;omega),LF,ya hR _ _ _ _ _ _ _ _ (u5 hR hi _) hlt hol,if_pos h8]
   ·rw [if_neg (by simpa using h8),ya hR _ _ _ _ _ _ _ _ (u5 hR hi _) hlt hol,if_neg h8]
  unfold lq
  rw [xt hR hi,LF]
  by_cases h6:(aa n i).Kind=6
  ·rw [if_pos (by simpa using h6),cJ (by simp;omega),LF,k3 _ _ (by unfold chD;rw [if_pos h6];simp) (by omega),if_pos h6]
  ·rw [if_neg (by simpa using h6),k3 _ _ (by unfold chD;rw [if_neg h6]) hdep.1,if_neg h6]
 unfold nu doM
 simp only [hh]
 rw [bv (iA hi),LF,hhd,LF]
 by_cases h1:(aa n i).Kind=1
 ·rw [if_pos (by simpa using h1)]
  obtain ⟨a0,a1,a2,a3,a4,a5⟩:=at_ok hS ok hi h1
  rw [ixN_D a0 a1,LF,dw 0 (show (aa n i).A.toNat<s.At.length by omega),LF,LF,dw 0 (show (aa n i).A.toNat<s.At.length by omega),LF]
  simp only
  rw [tail _ _ (by unfold eW;rw [if_pos h1]),if_pos h1,if_pos h1,bA (by omega) (by omega)]
 ·rw [if_neg (by simpa using h1)]
  have hkl:=qt hR hi hk h1
  obtain ⟨_,b0,b1⟩:=qw hR hi hkl
  have hd0:idx (aa n i).In (k:Int)=some ((aa n i).In.getD k 0):=bv (dw 0 hkl)
  have hrl:((aa n i).In.getD k 0).toNat<s.Rings.length:=by omega
  unfold dl at hh
  rw [if_neg h1] at hh
  obtain ⟨tl,htl⟩:∃ tl,s.Rings.getD (bh (aa n i) k) []=it::tl:=by
   cases hq:s.Rings.getD (bh (aa n i) k) [] with
   | nil=>rw [hq] at hh;cases hh
   | cons y ys=>rw [hq] at hh;cases hh;exact ⟨ys,rfl⟩
  have hrm:=ok.room _ _ (dw [] hrl)
  have hm2:=hS.m2
  rw [hd0,LF,LF,ixN_D b0 (by omega),LF,dw [] hrl,LF]
  have htl':s.Rings.getD ((aa n i).In.getD k 0).toNat []=it::tl:=htl
  rw [htl'] at hrm ⊢
  rw [Ej it tl (by omega),LF,LF,dw [] hrl,LF]
  simp only
  rw [tail _ _ (by unfold eW;rw [if_neg h1,htl];rfl),if_neg h1,if_neg h1,htl]
  rfl
theorem AH (hR:RightN n) (hrg:(s.Rings.length:Int)=n.Rings) {i k:Nat} (hi:i<n.Nodes.length) (hk:k<bu (aa n i)) {it:Item} (hh:dl n items s i k=some it) (j:Nat) :
  (doM n items s i k).Rings.getD j []=(if (aa n i).Kind≠1/\j=bh (aa n i) k then (s.Rings.getD j []).tail else s.Rings.getD j [])++if (j:Int)∈bD (aa n i) it.Key then [(dm n s i it).2] else []:=by
 unfold doM
 simp only [hh]
 show (cR (dm n s i it).2 (bD (aa n i) it.Key) (eW n s i k)).getD j []=_
 rw [uX _ _ _ (u5 hR hi _) (fun r hr=>by have:=hR.outR i hi r (kz hR hi _ r hr);rw [ui];omega),xU hR hrg hi hk]
 split<;>simp
theorem Kn {i k:Nat}:(doM n items s i k).Rings.length=s.Rings.length/\(doM n items s i k).At.length=s.At.length/\(doM n items s i k).Memory.length=s.Memory.length:=by
 unfold doM;split
 ·exact ⟨rfl,rfl,rfl⟩
 ·refine ⟨?_,?_,?_⟩
  ·simp only;rw [uH];split<;>simp
  ·simp only;split<;>simp
  ·simp
theorem get_D {α:Type} {l:List α} {k:Nat} {a:α} (z:α) (h:l[k]?=some a):l.getD k z=a:=by rw [LL,h];rfl
theorem By {a b c:Int} (h1:a<=c) (h2:b<=c):maxD a b<=c:=by unfold maxD;split<;>omega
theorem Jg (a b:Int):a<=maxD a b/\b<=maxD a b:=by unfold maxD;split<;>omega
theorem do_ch {i k:Nat} {it:Item} (hh:dl n items s i k=some it):(doM n items s i k).Choices=if (aa n i).Kind=6 then s.Choices++[⟨i,k⟩] else s.Choices:=by unfold doM;simp only [hh]
theorem vC {i k:Nat} {it:Item} (hh:dl n items s i k=some it):(doM n items s i k).Out=if (aa n i).Kind=8 then s.Out++[(dm n s i it).2] else s.Out:=by unfold doM;simp only [hh]
theorem Cv {i k:Nat} {it:Item} (hh:dl n items s i k=some it):(doM n items s i k).Memory=s.Memory.set i (dm n s i it).1:=by unfold doM;simp only [hh]
theorem do_at {i k:Nat} {it:Item} (hh:dl n items s i k=some it):(doM n items s i k).At=if (aa n i).Kind=1 then s.At.set (aa n i).A.toNat (s.At.getD (aa n i).A.toNat 0+1) else s.At:=by unfold doM;simp only [hh]
theorem Bv (hS:RightS n items) (ok:OkS n items B s) {i k:Nat} {it:Item} (hh:dl n items s i k=some it):0<=(chD (aa n i) s it).Dep/\(chD (aa n i) s it).Dep<=(doM n items s i k).Choices.length:=by
 have:=uV hS ok hh;rw [do_ch hh];unfold chD;split
 ·simp<;>omega
 ·exact this
theorem Hv (hS:RightS n items) (ok:OkS n items B s) {i k:Nat} (hi:i<n.Nodes.length) {it:Item} (hh:dl n items s i k=some it) :
  0<=(dm n s i it).2.Dep/\(dm n s i it).2.Dep<=(doM n items s i k).Choices.length/\(dm n s i it).1.Dep<=(doM n items s i k).Choices.length:=by
 have h1:=Bv hS ok hh
 have hm:=dw (⟨0,[],0⟩:Memory) (show i<s.Memory.length by rw [ok.mm];exact hi)
 have h2:=(ok.mem i _ hm).2.1
 have h3:(s.Choices.length:Int)<=(doM n items s i k).Choices.length:=by
  rw [do_ch hh];split
  ·simp<;>omega
  ·exact Mh _
 have h4:=(ok.mem i _ hm).1.dep
 have h5:=Gw (aa n i).Kind (aa n i).A (memN s i) (chD (aa n i) s it)
 have e1:(dm n s i it)=cM (aa n i).Kind (aa n i).A (memN s i) (chD (aa n i) s it):=rfl
 have e2:memN s i=s.Memory.getD i ⟨0,[],0⟩:=rfl
 rw [e1,h5.1,h5.2]
 have h6:=Jg (memN s i).Dep (chD (aa n i) s it).Dep
 refine ⟨?_,?_,?_⟩
 ·split
  ·omega
  ·exact h1.1
 ·split
  ·exact By (by rw [e2];omega) h1.2
  ·exact h1.2
 ·split
  ·exact By (by rw [e2];omega) h1.2
  ·rw [e2];omega
theorem do_ok (hS:RightS n items) (ok:OkS n items B s) {i k:Nat} (hi:i<n.Nodes.length) (hk:k<bu (aa n i)) (hc:dM n items s i k=true) (hB0:0<=B) (hB:B<4611686018427387904):OkS n items (B+1) (doM n items s i k):=by
 obtain ⟨it,hh,hroom,h500,h2000⟩:=oa hc;obtain ⟨l1,l2,l3⟩:=Kn (n:=n) (items:=items) (s:=s) (i:=i) (k:=k);have hR:=hS.toRightN;have hmi:i<s.Memory.length:=by rw [ok.mm];exact hi
 have hm:=dw (⟨0,[],0⟩:Memory) hmi;have hcd:=Bv hS ok hh;obtain ⟨d0,d1,d2⟩:=Hv hS ok hi hh;have hcl:(s.Choices.length:Int)<=(doM n items s i k).Choices.length:=by
  rw [do_ch hh];split
  ·simp<;>omega
  ·exact Mh _
 have hrings:∀ (r:Nat) (l:List Item),(doM n items s i k).Rings[r]?=some l->r<s.Rings.length/\l=(if (aa n i).Kind≠1/\r=bh (aa n i) k then (s.Rings.getD r []).tail else s.Rings.getD r [])++if (r:Int)∈bD (aa n i) it.Key then [(dm n s i it).2] else []:=fun r l hl=>by have hr:=(LH.1 hl).1;rw [l1] at hr;exact ⟨hr,by rw [<- get_D [] hl,AH hR ok.rg hi hk hh]⟩
 refine ⟨by rw [l2];exact ok.at_,by rw [l1];exact ok.rg,by rw [l3];exact ok.mm,?_,?_,fun a p hp=>?_,fun r l hl=>?_,fun r l x hl hx=>?_,fun j m hj=>?_,fun c hcm=>?_,fun x hx=>?_⟩
 ·rw [do_ch hh];have:=ok.ch;split
  ·rename_i h6;have:=h500 h6;simp;omega
  ·exact this
 ·rw [vC hh];have:=ok.out;split
  ·rename_i h6;have:=h2000 h6;simp;omega
  ·exact this
 ·rw [do_at hh] at hp;split at hp
  ·rename_i h1;obtain ⟨a0,a1,a2,a3,a4,a5⟩:=at_ok hS ok hi h1;rw [LY] at hp;split at hp
   ·rename_i e;split at hp
    ·cases hp;unfold dl at hh;rw [if_pos h1] at hh;have:=(LH.1 hh).1;rw [<- e];omega
    ·cases hp
   ·exact ok.atP a p hp
  ·exact ok.atP a p hp
 ·obtain ⟨hr,rfl⟩:=hrings r l hl;have h1:=ok.room r _ (dw [] hr);have h4:(if (aa n i).Kind≠1/\r=bh (aa n i) k then (s.Rings.getD r []).tail else s.Rings.getD r []).length<=(s.Rings.getD r []).length:=by
   split
   ·rw [List.length_tail];omega
   ·exact LM _
  rw [LI];by_cases hin:(r:Int)∈bD (aa n i) it.Key
  ·have h2:=of_decide_eq_true (Mz.1 hroom _ hin);rw [L7] at h2;rw [if_pos hin,MV];omega
  ·rw [if_neg hin,Nx];omega
 ·obtain ⟨hr,rfl⟩:=hrings r l hl;rcases LZ.1 hx with hx | hx
  ·have hx':x∈s.Rings.getD r []:=by
    split at hx
    ·exact List.mem_of_mem_tail hx
    ·exact hx
   have:=ok.depR r _ x (dw [] hr) hx';omega
  ·split at hx
   ·simp at hx;subst hx;exact ⟨d0,d1⟩
   ·cases hx
 ·rw [Cv hh,LY] at hj;split at hj
  ·rename_i e;subst e;first
   | (rw [if_pos hmi] at hj)
   | skip
   ·cases hj;obtain ⟨q1,q2⟩:=He (k:=(aa n i).Kind) (f:=(aa n i).A) (x:=chD (aa n i) s it) (ok.mem i _ hm).1 hcd.1 (hS.kind i hi) B hB0 (ok.mem i _ hm).2.2 hB;exact ⟨q1,d2,q2⟩
  ·obtain ⟨q1,q2,q3⟩:=ok.mem j m hj;exact ⟨q1,by omega,fun y hy=>by have:=q3 y hy;omega⟩
 ·rw [do_ch hh] at hcm;split at hcm
  ·rename_i h6;rcases LZ.1 hcm with h | h
   ·exact ok.cho c h
   ·simp at h;subst h;have:k<(aa n i).In.length:=by unfold bu at hk;rw [if_pos h6] at hk;exact hk
    exact ⟨by simp,by simp;omega,by simpa using h6,by simp,by simpa using this⟩
  ·exact ok.cho c hcm
 ·rw [vC hh] at hx;split at hx
  ·rcases LZ.1 hx with h | h
   ·have:=ok.depO x h;omega
   ·simp at h;subst h;exact ⟨d0,d1⟩
  ·have:=ok.depO x hx;omega
end
end
section
structure Mach (I M T:Type) where
 key:I->Int
 step:Nat->M->I->M × I
 stamp:T->I->I
 tick:T->Nat->Nat->T
 src:Nat->List I
structure MSt (I M T:Type) where
 pos:Nat->Nat
 rg:Nat->List I
 mm:Nat->M
 out:List I
 tr:T
def upd {α:Type} (f:Nat->α) (i:Nat) (a:α):Nat->α:=fun j=>if j=i then a else f j
theorem HU {α:Type} (f:Nat->α) (i:Nat) (a:α):upd f i a i=a:=by unfold upd;rw [if_pos rfl]
theorem qE {α:Type} (f:Nat->α) {i j:Nat} (a:α) (h:j≠i):upd f i a j=f j:=by unfold upd;rw [if_neg h]
theorem AS {α:Type} (f:Nat->α) {i j:Nat} (a b:α) (h:i≠j):upd (upd f i a) j b=upd (upd f j b) i a:=by
 funext q;unfold upd;by_cases h1:q=j
 ·subst h1;rw [if_pos rfl,if_neg (fun e=>h e.symm),if_pos rfl]
 ·rw [if_neg h1];by_cases h2:q=i
  ·rw [if_pos h2,if_pos h2]
  ·rw [if_neg h2,if_neg h2,if_neg h1]
section
variable {I M T:Type} (E:Mach I M T) (n:Net) (room:Option Nat)
def hdM (c:MSt I M T) (m:Nat × Nat):Option I:=if (aa n m.1).Kind=1 then (E.src (aa n m.1).A.toNat)[c.pos (aa n m.1).A.toNat]? else (c.rg (bh (aa n m.1) m.2)).head?
def inM (c:MSt I M T) (m:Nat × Nat) (x:I):I:=if (aa n m.1).Kind=6 then E.stamp c.tr x else x
def mkM (c:MSt I M T) (m:Nat × Nat) (x:I):M × I:=E.step m.1 (c.mm m.1) (inM E n c m x)
def toM (m:Nat × Nat) (x:I):List Int:=bD (aa n m.1) (E.key x)
def goM (c:MSt I M T) (m:Nat × Nat) (x:I):MSt I M T where
 pos:=if (aa n m.1).Kind=1 then upd c.pos (aa n m.1).A.toNat (c.pos (aa n m.1).A.toNat+1) else c.pos
 rg:=fun r=>(if (aa n m.1).Kind≠1/\r=bh (aa n m.1) m.2 then (c.rg r).tail else c.rg r)++if (r:Int)∈toM E n m x then [(mkM E n c m x).2] else []
 mm:=upd c.mm m.1 (mkM E n c m x).1
 out:=if (aa n m.1).Kind=8 then c.out++[(mkM E n c m x).2] else c.out
 tr:=if (aa n m.1).Kind=6 then E.tick c.tr m.1 m.2 else c.tr
def okMv (m:Nat × Nat):Prop:=m.1<n.Nodes.length/\m.2<bu (aa n m.1)
def fitM (c:MSt I M T) (l:List Int):Prop:=∀ R,room=some R->∀ r,r∈l->(c.rg r.toNat).length<R
def Ex (c:MSt I M T) (m:Nat × Nat) (c':MSt I M T):Prop:=okMv n m/\∃ x,hdM E n c m=some x/\fitM room c (toM E n m x)/\c'=goM E n c m x
inductive Run:MSt I M T->List (Nat × Nat)->MSt I M T->Prop
 | nil (c):Run c [] c
 | cons {c c1 d m w} (h:Ex E n room c m c1) (t:Run c1 w d):Run c (m::w) d
variable {E n room}
theorem Ex.det {c c1 c2:MSt I M T} {m:Nat × Nat} (h:Ex E n room c m c1) (h':Ex E n room c m c2):c1=c2:=by obtain ⟨_,x,h1,_,rfl⟩:=h;obtain ⟨_,y,h2,_,rfl⟩:=h';rw [h1] at h2;cases h2;rfl
theorem Run.det {c c1 c2:MSt I M T} {w:List (Nat × Nat)} (h:Run E n room c w c1) (h':Run E n room c w c2):c1=c2:=by
 induction h with
 | nil c=>cases h';rfl
 | cons h t ih=>cases h' with | cons h2 t2=>rw [h.det h2] at ih;exact ih t2
theorem Run.nil_inv {c d:MSt I M T} (h:Run E n room c [] d):d=c:=by cases h;rfl
theorem Run.app {c c1 d:MSt I M T} {u w:List (Nat × Nat)} (h:Run E n room c u c1) (h':Run E n room c1 w d):Run E n room c (u++w) d:=by
 induction h with
 | nil c=>exact h'
 | cons h t ih=>exact .cons h (ih h')
theorem Run.split {c d:MSt I M T}:∀ {u w:List (Nat × Nat)},Run E n room c (u++w) d->∃ c1,Run E n room c u c1/\Run E n room c1 w d:=by
 intro u;induction u generalizing c with
 | nil=>intro w h;exact ⟨c,.nil c,h⟩
 | cons m u ih =>
  intro w h;cases h with
  | cons h t =>
   obtain ⟨c1,h1,h2⟩:=ih t;exact ⟨c1,.cons h h1,h2⟩
theorem Ex.free {c c1:MSt I M T} {m:Nat × Nat} (h:Ex E n room c m c1):Ex E n none c m c1:=by obtain ⟨h0,x,h1,_,h3⟩:=h;exact ⟨h0,x,h1,fun R hR=>(by cases hR),h3⟩
theorem Run.free {c d:MSt I M T} {w:List (Nat × Nat)} (h:Run E n room c w d):Run E n none c w d:=by
 induction h with
 | nil c=>exact .nil c
 | cons h t ih=>exact .cons h.free ih
theorem qA (hR:RightN n) {m:Nat × Nat} (h:okMv n m) (h1:(aa n m.1).Kind≠1):((bh (aa n m.1) m.2:Nat):Int)∈(aa n m.1).In:=by obtain ⟨b0,b1,b2⟩:=qw hR h.1 (qt hR h.1 h.2 h1);unfold bh;rw [Mf b1];exact b0
theorem Ac (hR:RightN n) (hsrc:∀ i j,i<n.Nodes.length->j<n.Nodes.length->(aa n i).Kind=1->(aa n j).Kind=1->(aa n i).A.toNat=(aa n j).A.toNat->i=j) {c:MSt I M T} {a b:Nat × Nat} {x y:I} (ha:okMv n a) (hb:okMv n b) (hne:a.1≠b.1) (hy:hdM E n c b=some y):hdM E n (goM E n c a x) b=some y:=by
 unfold hdM at hy ⊢;by_cases h1:(aa n b.1).Kind=1
 ·rw [if_pos h1] at hy ⊢;rw [<- hy];congr 1;unfold goM;simp only;split
  ·rename_i h2;exact qE _ _ (fun e=>hne (hsrc a.1 b.1 ha.1 hb.1 h2 h1 e.symm))
  ·rfl
 ·rw [if_neg h1] at hy ⊢;have hrb:=qA hR hb h1;unfold goM;simp only;have hno:¬ ((aa n a.1).Kind≠1/\bh (aa n b.1) b.2=bh (aa n a.1) a.2):=fun ⟨e1,e2⟩=>by
   have hra:=qA hR ha e1;rw [<- e2] at hra;exact hne (hR.oneI a.1 b.1 _ ha.1 hb.1 hra hrb)
  rw [if_neg hno];cases hl:c.rg (bh (aa n b.1) b.2) with
  | nil=>rw [hl] at hy;cases hy
  | cons z zs=>rw [hl] at hy;exact hy
theorem AC (hR:RightN n) {c:MSt I M T} {a b:Nat × Nat} {x y:I} (hne:a.1≠b.1) (h6:(aa n a.1).Kind≠6∨(aa n b.1).Kind≠6∨∀ t i k,E.tick t i k=t):mkM E n (goM E n c a x) b y=mkM E n c b y:=by
 have e1:(goM E n c a x).mm b.1=c.mm b.1:=qE _ _ (fun e=>hne e.symm);have e2:inM E n (goM E n c a x) b y=inM E n c b y:=by
  unfold inM;by_cases hb:(aa n b.1).Kind=6
  ·rw [if_pos hb,if_pos hb];congr 1;unfold goM;simp only;split
   ·rename_i ha;rcases h6 with h6 | h6 | h6
    ·exact absurd ha h6
    ·exact absurd hb h6
    ·exact h6 _ _ _
   ·rfl
  ·rw [if_neg hb,if_neg hb]
 unfold mkM;rw [e1,e2]
theorem tc (hR:RightN n) {m:Nat × Nat} (h:okMv n m) (x:I):∀ r,r∈toM E n m x->r∈(aa n m.1).Out:=kz hR h.1 _
theorem yB (hR:RightN n) {c:MSt I M T} {a b:Nat × Nat} {x y:I} (ha:okMv n a) (hb:okMv n b) (hne:a.1≠b.1) (hf:fitM room c (toM E n b y)):fitM room (goM E n c a x) (toM E n b y):=by
 intro R hRm r hr;have h1:=hf R hRm r hr;have hrb:=tc hR hb y r hr;have h0:=(hR.outR b.1 hb.1 r hrb).1;unfold goM;simp only;have hno:¬ ((r.toNat:Nat):Int)∈toM E n a x:=fun e=>by rw [Mf h0] at e;exact hne (hR.oneO a.1 b.1 r ha.1 hb.1 (tc hR ha x r e) hrb)
 rw [if_neg hno,L3];split
 ·rw [List.length_tail];omega
 ·exact h1
theorem ID (hR:RightN n) (hsrc:∀ i j,i<n.Nodes.length->j<n.Nodes.length->(aa n i).Kind=1->(aa n j).Kind=1->(aa n i).A.toNat=(aa n j).A.toNat->i=j) {c:MSt I M T} {a b:Nat × Nat} {x y:I} (ha:okMv n a) (hb:okMv n b) (hne:a.1≠b.1) (h6:(aa n a.1).Kind≠6∨(aa n b.1).Kind≠6∨∀ t i k,E.tick t i k=t)
  (hx:hdM E n c a=some x) (hy:hdM E n c b=some y):goM E n (goM E n c a x) b y=goM E n (goM E n c b y) a x:=by
 have h6':(aa n b.1).Kind≠6∨(aa n a.1).Kind≠6∨∀ t i k,E.tick t i k=t:=by rcases h6 with h | h | h;exact .inr (.inl h);exact .inl h;exact .inr (.inr h)
 have m1:=AC (E:=E) hR (c:=c) (x:=x) (y:=y) hne h6
 have m2:=AC (E:=E) hR (c:=c) (x:=y) (y:=x) (fun e=>hne e.symm) h6'
 have e:∀ (p q:MSt I M T),p.pos=q.pos->p.rg=q.rg->p.mm=q.mm->p.out=q.out->p.tr=q.tr->p=q:=fun p q h1 h2 h3 h4 h5=>by cases p;cases q;simp_all
 refine e _ _ ?_ ?_ ?_ ?_ ?_
 ·show (if (aa n b.1).Kind=1 then upd (goM E n c a x).pos _ ((goM E n c a x).pos _+1) else (goM E n c a x).pos)=(if (aa n a.1).Kind=1 then upd (goM E n c b y).pos _ ((goM E n c b y).pos _+1) else (goM E n c b y).pos)
  have p1:(goM E n c a x).pos=if (aa n a.1).Kind=1 then upd c.pos (aa n a.1).A.toNat (c.pos (aa n a.1).A.toNat+1) else c.pos:=rfl
  have p2:(goM E n c b y).pos=if (aa n b.1).Kind=1 then upd c.pos (aa n b.1).A.toNat (c.pos (aa n b.1).A.toNat+1) else c.pos:=rfl
  rw [p1,p2]
  by_cases h1:(aa n a.1).Kind=1<;>by_cases h2:(aa n b.1).Kind=1
  ·have hA:(aa n a.1).A.toNat≠(aa n b.1).A.toNat:=fun e=>hne (hsrc _ _ ha.1 hb.1 h1 h2 e)
   simp only [h1,h2,if_true]
   rw [qE _ _ (fun e=>hA e.symm),qE _ _ hA]
   exact AS _ _ _ hA
  ·simp only [h1,h2,if_true,if_false]
  ·simp only [h1,h2,if_true,if_false]
  ·simp only [h1,h2,if_false]
 ·funext r
  show (if (aa n b.1).Kind≠1/\r=bh (aa n b.1) b.2 then ((goM E n c a x).rg r).tail else (goM E n c a x).rg r)++(if (r:Int)∈toM E n b y then [(mkM E n (goM E n c a x) b y).2] else []) =
   (if (aa n a.1).Kind≠1/\r=bh (aa n a.1) a.2 then ((goM E n c b y).rg r).tail else (goM E n c b y).rg r)++(if (r:Int)∈toM E n a x then [(mkM E n (goM E n c b y) a x).2] else [])
  rw [m1,m2]
  have p1:(goM E n c a x).rg r=(if (aa n a.1).Kind≠1/\r=bh (aa n a.1) a.2 then (c.rg r).tail else c.rg r)++if (r:Int)∈toM E n a x then [(mkM E n c a x).2] else []:=rfl
  have p2:(goM E n c b y).rg r=(if (aa n b.1).Kind≠1/\r=bh (aa n b.1) b.2 then (c.rg r).tail else c.rg r)++if (r:Int)∈toM E n b y then [(mkM E n c b y).2] else []:=rfl
  rw [p1,p2]
  have ht:¬ (((r:Int)∈toM E n a x)/\((r:Int)∈toM E n b y)):=fun ⟨h1,h2⟩=>hne (hR.oneO _ _ _ ha.1 hb.1 (tc hR ha x _ h1) (tc hR hb y _ h2))
  have hi:¬ (((aa n a.1).Kind≠1/\r=bh (aa n a.1) a.2)/\((aa n b.1).Kind≠1/\r=bh (aa n b.1) b.2)):=fun ⟨⟨h1,h2⟩,h3,h4⟩=>by have q1:=qA hR ha h1;have q2:=qA hR hb h3;rw [<- h2] at q1;rw [<- h4] at q2;exact hne (hR.oneI _ _ _ ha.1 hb.1 q1 q2)
  have hna:((aa n a.1).Kind≠1/\r=bh (aa n a.1) a.2)->c.rg r≠[]:=fun ⟨h1,h2⟩ e=>by unfold hdM at hx;rw [if_neg h1,<- h2,e] at hx;cases hx
  have hnb:((aa n b.1).Kind≠1/\r=bh (aa n b.1) b.2)->c.rg r≠[]:=fun ⟨h1,h2⟩ e=>by unfold hdM at hy;rw [if_neg h1,<- h2,e] at hy;cases hy
  have tl:∀ (l z:List I),l≠[]->(l++z).tail=l.tail++z:=fun l z h=>by cases l with | nil=>exact absurd rfl h | cons _ _=>rfl
  by_cases ca:(aa n a.1).Kind≠1/\r=bh (aa n a.1) a.2
  ·have cb:¬ ((aa n b.1).Kind≠1/\r=bh (aa n b.1) b.2):=fun h=>hi ⟨ca,h⟩
   rw [if_pos ca,if_neg cb,if_pos ca,if_neg cb,tl _ _ (hna ca)]
   by_cases t1:(r:Int)∈toM E n a x
   ·have t2:¬ (r:Int)∈toM E n b y:=fun h=>ht ⟨t1,h⟩
    rw [if_pos t1,if_neg t2,L3,L3]
   ·rw [if_neg t1,L3,L3]
  ·rw [if_neg ca,if_neg ca]
   by_cases cb:(aa n b.1).Kind≠1/\r=bh (aa n b.1) b.2
   ·rw [if_pos cb,if_pos cb,tl _ _ (hnb cb)]
    by_cases t1:(r:Int)∈toM E n a x
    ·have t2:¬ (r:Int)∈toM E n b y:=fun h=>ht ⟨t1,h⟩
     rw [if_pos t1,if_neg t2,L3,L3]
    ·rw [if_neg t1,L3,L3]
   ·rw [if_neg cb,if_neg cb]
    by_cases t1:(r:Int)∈toM E n a x
    ·have t2:¬ (r:Int)∈toM E n b y:=fun h=>ht ⟨t1,h⟩
     rw [if_pos t1,if_neg t2,L3,L3]
    ·rw [if_neg t1,L3,L3]
 ·show upd (upd c.mm a.1 _) b.1 _=upd (upd c.mm b.1 _) a.1 _
  rw [m1,m2]
  exact AS _ _ _ hne
 ·show (if (aa n b.1).Kind=8 then (if (aa n a.1).Kind=8 then c.out++[_] else c.out)++[_] else if (aa n a.1).Kind=8 then c.out++[_] else c.out)=(if (aa n a.1).Kind=8 then (if (aa n b.1).Kind=8 then c.out++[_] else c.out)++[_] else if (aa n b.1).Kind=8 then c.out++[_] else c.out)
  rw [m1,m2]
  by_cases h1:(aa n a.1).Kind=8<;>by_cases h2:(aa n b.1).Kind=8
  ·exact absurd (hR.sink1 _ _ ha.1 hb.1 h1 h2) hne
  ·simp only [h1,h2,if_true,if_false]
  ·simp only [h1,h2,if_true,if_false]
  ·simp only [h1,h2,if_false]
 ·show (if (aa n b.1).Kind=6 then E.tick (if (aa n a.1).Kind=6 then E.tick c.tr a.1 a.2 else c.tr) b.1 b.2 else if (aa n a.1).Kind=6 then E.tick c.tr a.1 a.2 else c.tr)=(if (aa n a.1).Kind=6 then E.tick (if (aa n b.1).Kind=6 then E.tick c.tr b.1 b.2 else c.tr) a.1 a.2 else if (aa n b.1).Kind=6 then E.tick c.tr b.1 b.2 else c.tr)
  by_cases h1:(aa n a.1).Kind=6<;>by_cases h2:(aa n b.1).Kind=6
  ·rcases h6 with h | h | h
   ·exact absurd h1 h
   ·exact absurd h2 h
   ·simp only [h,h1,h2,if_true]
  ·simp only [h1,h2,if_true,if_false]
  ·simp only [h1,h2,if_true,if_false]
  ·simp only [h1,h2,if_false]
abbrev SrcN (n:Net):Prop:=∀ i j,i<n.Nodes.length->j<n.Nodes.length->(aa n i).Kind=1->(aa n j).Kind=1->(aa n i).A.toNat=(aa n j).A.toNat->i=j
theorem diamond (hR:RightN n) (hsrc:SrcN n) {c c1 c2:MSt I M T} {a b:Nat × Nat} (h1:Ex E n room c a c1) (h2:Ex E n room c b c2) (hne:a.1≠b.1) (h6:(aa n a.1).Kind≠6∨(aa n b.1).Kind≠6∨∀ t i k,E.tick t i k=t):∃ d,Ex E n room c1 b d/\Ex E n room c2 a d:=by obtain ⟨ha,x,hx,fx,rfl⟩:=h1;obtain ⟨hb,y,hy,fy,rfl⟩:=h2;refine ⟨_,⟨hb,y,Ac hR hsrc ha hb hne hy,yB hR ha hb hne fy,rfl⟩,⟨ha,x,Ac hR hsrc hb ha (fun e=>hne e.symm) hx,yB hR hb ha (fun e=>hne e.symm) fx,?_⟩⟩;exact ID hR hsrc ha hb hne h6 hx hy
def eK (i:Nat) (w:List (Nat × Nat)):List (Nat × Nat):=w.filter fun m=>decide (m.1=i)
theorem pK (i:Nat) (m:Nat × Nat) (w:List (Nat × Nat)):eK i (m::w)=if m.1=i then m::eK i w else eK i w:=by
 unfold eK;by_cases h:m.1=i
 ·rw [if_pos h,Mw (by simpa using h)]
 ·rw [if_neg h,MM (by simpa using h)]
section
variable (hR:RightN n) (hsrc:SrcN n) (htk:∀ t i k,E.tick t i k=t)
include hR hsrc htk
omit hR hsrc htk in
theorem EV {i:Nat} {a:Nat × Nat} {l:List (Nat × Nat)}:∀ {v:List (Nat × Nat)},eK i v=a::l->∃ p q,v=p++a::q/\eK i p=[]/\eK i q=l:=by
 intro v;induction v with
 | nil=>intro h;cases h
 | cons b v ih =>
  intro h;rw [pK] at h;split at h
  ·cases h;exact ⟨[],v,rfl,rfl,rfl⟩
  ·rename_i hne;obtain ⟨p,q,h1,h2,h3⟩:=ih h;exact ⟨b::p,q,by rw [h1];rfl,by rw [pK,if_neg hne];exact h2,h3⟩
end
theorem Run.out_pre {c d:MSt I M T} {w:List (Nat × Nat)} (h:Run E n room c w d):c.out <+: d.out:=by
 induction h with
 | nil c=>exact List.prefix_refl _
 | cons h t ih =>
  obtain ⟨_,x,_,_,rfl⟩:=h;refine List.IsPrefix.trans ?_ ih;unfold goM;simp only;split
  ·exact List.prefix_append _ _
  ·exact List.prefix_refl _
end
end
noncomputable section
section
variable {n:Net} {items:List (List Item)} {B:Int} {s:State}
theorem uL (hR:RightN n) {i:Nat} (hi:i<n.Nodes.length):bu (aa n i)<=16:=by
 unfold bu;split
 ·have:=uz (hR.ndI i hi) (hR.inR i hi) hR.r1;have:=hR.r2;omega
 ·omega
theorem Aq (hS:RightS n items) (ok:OkS n items B s) {i:Nat} (hi:i<n.Nodes.length):∀ (m k:Nat) (acc:List Move),k+m=bu (aa n i)->acc.length+m<=1000000 ->
  iter (fun ss:Int × (List Move)=>gN n items (i:Int) s (bu (aa n i):Int) ss.1 ss.2) ((k:Int),acc)=some (.inl (((i+1:Nat):Int),acc++(((List.range (bu (aa n i))).drop k).filter fun k=>dM n items s i k).map fun k:Nat=>(⟨i,k⟩:Move)))
 | 0,k,acc,h,ha=>by
  have hk:k=bu (aa n i):=by omega
  have e:gN n items (i:Int) s (bu (aa n i):Int) (k:Int) acc=some (.inr (.inl (((i+1:Nat):Int),acc))):=by unfold gN;have:=hS.n2;rw [if_neg (by simp;omega),bt (by omega)];rfl
  rw [aH];simp only [e];rw [Mi (by simp;omega)];simp
 | m+1,k,acc,h,ha=>by
  have hk:k<bu (aa n i):=by omega
  have h16:=uL hS.toRightN hi;have hd:(List.range (bu (aa n i))).drop k=k::(List.range (bu (aa n i))).drop (k+1):=by rw [LU (by simpa using hk),List.getElem_range]
  have e:gN n items (i:Int) s (bu (aa n i):Int) (k:Int) acc=some (.inl (((k+1:Nat):Int),if dM n items s i k=true then acc++[⟨i,k⟩] else acc)):=by
   unfold gN;rw [if_pos (by simp;omega),B3 hS ok hi hk,LF,bt (by omega)];cases dM n items s i k with
   | true=>rw [if_pos rfl,if_pos rfl,cJ (by simp;omega)];rfl
   | false=>rw [if_neg (by decide),if_neg (by decide)]
  rw [aH];simp only [e];rw [Aq hS ok hi m (k+1) _ (by omega) (by split<;>(try simp)<;>omega),hd,List.filter_cons];cases dM n items s i k<;>simp
theorem yp (hR:RightN n) {i:Nat} (hi:i<n.Nodes.length):(mC n items s i).length<=16:=by unfold mC;rw [LS];have:=List.length_filter_le (fun k=>dM n items s i k) (List.range (bu (aa n i)));have:=uL hR hi;simp at *;omega
theorem zd (hS:RightS n items) (ok:OkS n items B s):∀ (m i:Nat) (acc:List Move),i+m=n.Nodes.length->acc.length+16*m<=1000 ->
  iter (fun ss:Int × (List Move)=>jX n items s ss.1 ss.2) ((i:Int),acc)=some (acc++((List.range n.Nodes.length).drop i).flatMap fun i=>mC n items s i)
 | 0,i,acc,h,ha=>by
  have hk:i=n.Nodes.length:=by omega
  have e:jX n items s (i:Int) acc=some (.inr acc):=by unfold jX;rw [if_neg (by simp;omega)];rfl
  rw [aH];simp only [e];rw [Mi (by simp;omega)];simp
 | m + 1,i,acc,h,ha=>by
  have hi:i<n.Nodes.length:=by omega
  have hd:(List.range n.Nodes.length).drop i=i::(List.range n.Nodes.length).drop (i+1):=by rw [LU (by simpa using hi),List.getElem_range]
  have hin:=Aq hS ok hi (bu (aa n i)) 0 acc (by omega) (by have:=uL hS.toRightN hi;omega);have e:jX n items s (i:Int) acc=some (.inl (((i+1:Nat):Int),acc++mC n items s i)):=by
   unfold jX nk;rw [if_pos (by simp;omega),bv (iA hi),LF];have hl:(if ((aa n i).Kind==6)=true then iter (fun dL:Int × (List Move)=>gN n items (i:Int) s ((aa n i).In.length:Int) dL.1 dL.2) (0,acc) else iter (fun dL:Int × (List Move)=>gN n items (i:Int) s 1 dL.1 dL.2) (0,acc)) =
     iter (fun ss:Int × (List Move)=>gN n items (i:Int) s (bu (aa n i):Int) ss.1 ss.2) (0,acc):=by
    unfold bu
    by_cases h6:(aa n i).Kind=6
    ·rw [if_pos (by simpa using h6),if_pos h6]
    ·rw [if_neg (by simpa using h6),if_neg h6];rfl
   rw [hl];rw [Mt] at hin;rw [hin,MD];rfl
  rw [aH];simp only [e];have h16:=yp (items:=items) (s:=s) hS.toRightN hi;rw [zd hS ok m (i+1) _ (by omega) (by rw [LI];omega),hd,ML,LN]
theorem Hs (hS:RightS n items) (ok:OkS n items B s):pH n items s=some (bb n items s):=by unfold pH;have:=zd hS ok n.Nodes.length 0 [] (by omega) (by have:=hS.n2;simp;omega);rw [Mt,MD,My] at this;exact this
theorem lM {m:Move} (h:m∈bb n items s):∃ i k:Nat,m=⟨i,k⟩/\i<n.Nodes.length/\k<bu (aa n i)/\dM n items s i k=true:=by unfold bb at h;obtain ⟨i,hi,hm⟩:=List.mem_flatMap.1 h;unfold mC at hm;obtain ⟨k,hk,rfl⟩:=L9.1 hm;obtain ⟨h1,h2⟩:=NJ.1 hk;exact ⟨i,k,rfl,by simpa using hi,by simpa using h1,h2⟩
theorem E7 {i k:Nat} (hi:i<n.Nodes.length) (hk:k<bu (aa n i)) (hc:dM n items s i k=true):(⟨i,k⟩:Move)∈bb n items s :=
 List.mem_flatMap.2 ⟨i,by simpa using hi,L9.2 ⟨k,NJ.2 ⟨by simpa using hk,hc⟩,rfl⟩⟩
theorem yo (hR:RightN n):(bb n items s).length<=192:=by
 have h:∀ (l:List Nat),(∀ i,i∈l->i<n.Nodes.length)->(l.flatMap fun i=>mC n items s i).length<=16*l.length:=by
  intro l;induction l with
  | nil=>intro _;simp
  | cons a l ih =>
   intro h;have h1:=yp (items:=items) (s:=s) hR (h a L0);have h2:=ih fun i hi=>h i (L2 _ hi)
   rw [ML,LI,LW];omega
 have:=h (List.range n.Nodes.length) (fun i hi=>by simpa using hi);have h2:=hR.n2;rw [List.length_range] at this;unfold bb;omega
def doMv (n:Net) (items:List (List Item)) (s:State) (m:Move):State:=doM n items s m.Node.toNat m.Lane.toNat
def wsum (w:Nat->Nat):Nat->List (List Item)->Nat
 | _,[]=>0
 | k,l::R=>l.length*w k+wsum w (k+1) R
def ib:List (List Item)->List Int->Nat
 | l::ls,p::ps=>(l.length - p.toNat)+ib ls ps
 | _,_=>0
theorem uO (w:Nat->Nat) (x:List Item):∀ (R:List (List Item)) (k j:Nat),j<R.length->wsum w k (R.set j x)+(R.getD j []).length*w (k+j)=wsum w k R+x.length*w (k+j)
 | [],k,j,h=>by simp at h
 | l::R,k,0,h=>by simp [wsum];omega
 | l::R,k,j+1,h=>by
  have:=uO w x R (k+1) j (by simpa using h);have e:k+1+j=k+(j+1):=by omega
  rw [e] at this;simp only [List.set_cons_succ,wsum,List.getD_cons_succ];omega
theorem yY:∀ (ls:List (List Item)) (ps:List Int) (a:Nat),a<ps.length->0<=ps.getD a 0->(ps.getD a 0).toNat<(ls.getD a []).length->ib ls (ps.set a (ps.getD a 0+1))+1=ib ls ps
 | ls,[],a,h,_,_=>by simp at h
 | [],p::ps,a,h,_,h2=>by simp at h2
 | l::ls,p::ps,0,h,h0,h2=>by
  simp only [List.getD_cons_zero] at h0 h2 ⊢;simp only [List.set_cons_zero,ib];omega
 | l::ls,p::ps,a+1,h,h0,h2=>by simp only [List.getD_cons_succ] at h0 h2 ⊢;have:=yY ls ps a (by simpa using h) h0 h2;simp only [List.set_cons_succ,ib];omega
theorem Ak (w:Nat->Nat) (y:Item):∀ (l:List Int) (R:List (List Item)),(∀ r,r∈l->0<=r/\r<R.length)->wsum w 0 (cR y l R)=wsum w 0 R+(l.map fun r=>w r.toNat).sum
 | [],R,_=>by simp [cR]
 | r::l,R,h=>by have hr:=h r L0;show wsum w 0 (cR y l (R.set r.toNat (R.getD r.toNat []++[y])))=_;rw [Ak w y l _ (fun q hq=>by have:=h q (L2 _ hq);simpa using this)];have:=uO w (R.getD r.toNat []++[y]) R 0 r.toNat (by omega);rw [LI,Ma,MV,NH,MG] at this;rw [Mn,M5];omega
def de (n:Net) (r:Nat):Nat:=((List.range n.Nodes.length).find? fun i=>decide ((r:Int)∈(aa n i).In)).getD 0
theorem sj (hR:RightN n) {i:Nat} (hi:i<n.Nodes.length) {r:Int} (hr:r∈(aa n i).In):de n r.toNat=i:=by
 have h0:=hR.inR i hi r hr;unfold de;cases h:(List.range n.Nodes.length).find? fun i=>decide ((r.toNat:Int)∈(aa n i).In) with
 | none =>
  rw [List.find?_eq_none] at h;have:=h i (by simpa using hi);rw [Mf h0.1] at this;simp [hr] at this
 | some j =>
  have h1:=List.find?_some h;have h2:=Na h;rw [Mf h0.1] at h1;exact hR.oneI j i r (by simpa using h2) hi (by simpa using h1) hr
open Classical in
noncomputable def dp (n:Net):Nat->Nat:=if h:RightN n then Classical.choose h.ord else fun _=>0
theorem ux (hR:RightN n):(∀ i,i<n.Nodes.length->dp n i<n.Nodes.length)/\(∀ i j,i<n.Nodes.length->j<n.Nodes.length->dp n i=dp n j->i=j)/\∀ i j r,i<n.Nodes.length->j<n.Nodes.length->r∈(aa n i).Out->r∈(aa n j).In->dp n i<dp n j:=by
 have:dp n=Classical.choose hR.ord:=by unfold dp;rw [dif_pos hR]
 rw [this];exact Classical.choose_spec hR.ord
def wN (n:Net) (r:Nat):Nat:=17 ^ (12 - dp n (de n r))
def muN (n:Net) (items:List (List Item)) (s:State):Nat:=wsum (wN n) 0 s.Rings+ib items s.At*17 ^ 12
theorem J4 (hR:RightN n) {i:Nat} (hi:i<n.Nodes.length) (key:Int):((bD (aa n i) key).map fun r=>wN n r.toNat).sum<17 ^ (12 - dp n i):=by
 obtain ⟨p1,_,p2⟩:=ux hR;have hpi:=p1 i hi;have hn:=hR.n2;have hb:∀ r,r∈bD (aa n i) key->wN n r.toNat<=17 ^ (11 - dp n i):=fun r hr=>by have hro:=kz hR hi key r hr;have h0:=hR.outR i hi r hro;obtain ⟨j,hj,hrj⟩:=hR.toI r.toNat (by omega);rw [Mf h0.1] at hrj;have h1:=p2 i j r hi hj hro hrj;have h2:=p1 j hj;unfold wN;rw [sj hR hj hrj];exact Nat.pow_le_pow_right (by omega) (by omega)
 have hsum:∀ (l:List Int),(∀ r,r∈l->wN n r.toNat<=17 ^ (11 - dp n i))->(l.map fun r=>wN n r.toNat).sum<=l.length*17 ^ (11 - dp n i):=by
  intro l;induction l with
  | nil=>intro _;simp
  | cons a l ih =>
   intro h;have h1:=h a L0;have h2:=ih fun r hr=>h r (L2 _ hr)
   rw [Mn,M5,LW,Ma,NH];omega
 have h1:=hsum _ hb;have h2:(bD (aa n i) key).length<=16:=by
  unfold bD;split
  ·simp
  ·exact sM hR hi
 have h3:(bD (aa n i) key).length*17 ^ (11 - dp n i)<=16*17 ^ (11 - dp n i):=L4 _ h2;have e:12 - dp n i=(11 - dp n i)+1:=by omega
 have h4:17 ^ (12 - dp n i)=17 ^ (11 - dp n i)*17:=by rw [e,NZ]
 have h5:0<17 ^ (11 - dp n i):=Nat.pow_pos (by omega);omega
theorem mu_do (hS:RightS n items) (ok:OkS n items B s) {i k:Nat} (hi:i<n.Nodes.length) (hk:k<bu (aa n i)) (hc:dM n items s i k=true):muN n items (doM n items s i k)+1<=muN n items s:=by
 obtain ⟨it,hh,hroom,h500,h2000⟩:=oa hc;have hR:=hS.toRightN;have hrg:=ok.rg;have hw:=J4 hR hi it.Key;have hrl:∀ r,r∈bD (aa n i) it.Key->0<=r/\r<(eW n s i k).length:=fun r hr=>by have:=hR.outR i hi r (kz hR hi _ r hr);rw [ui];omega
 have hput:=Ak (wN n) (dm n s i it).2 _ _ hrl;have hrings:(doM n items s i k).Rings=cR (dm n s i it).2 (bD (aa n i) it.Key) (eW n s i k):=by unfold doM;simp only [hh];rfl
 unfold muN;rw [hrings,hput,do_at hh];by_cases h1:(aa n i).Kind=1
 ·obtain ⟨a0,a1,a2,a3,a4,a5⟩:=at_ok hS ok hi h1;unfold dl at hh;rw [if_pos h1] at hh;have h2:=(LH.1 hh).1;have h3:=yY items s.At (aa n i).A.toNat (by omega) a3 h2;rw [if_pos h1];unfold eW;rw [if_pos h1];have h4:17 ^ (12 - dp n i)<=17 ^ 12:=Nat.pow_le_pow_right (by omega) (by omega);rw [<- h3,Ma,NH];omega
 ·have hkl:=qt hR hi hk h1;obtain ⟨hm,b0,b1⟩:=qw hR hi hkl;rw [if_neg h1];unfold eW;rw [if_neg h1];unfold dl at hh;rw [if_neg h1] at hh;have h2:=uO (wN n) (s.Rings.getD (bh (aa n i) k) []).tail s.Rings 0 (bh (aa n i) k) (by unfold bh;omega);have h3:wN n (bh (aa n i) k)=17 ^ (12 - dp n i):=by
   unfold wN bh;rw [sj hR hi hm]
  cases hq:s.Rings.getD (bh (aa n i) k) [] with
  | nil=>rw [hq] at hh;cases hh
  | cons y ys =>
   rw [hq] at h2;rw [MG,h3,List.tail_cons,LW,Ma,NH] at h2;rw [List.tail_cons];omega
def Inv (n:Net) (items:List (List Item)) (s:State):Prop:=∃ B:Nat,OkS n items B s/\B+muN n items s<=1000000000000000000
theorem Inv.doM (hS:RightS n items) (h:Inv n items s) {i k:Nat} (hi:i<n.Nodes.length) (hk:k<bu (aa n i)) (hc:dM n items s i k=true):Inv n items (doM n items s i k)/\muN n items (Go.Proofs.YtnlmagdmmjkklaaGreat.doM n items s i k)+1<=muN n items s:=by obtain ⟨B,ok,hB⟩:=h;have:=mu_do hS ok hi hk hc;refine ⟨⟨B+1,do_ok hS ok hi hk hc (by omega) (by omega),by omega⟩,this⟩
theorem Inv.doMv (hS:RightS n items) (h:Inv n items s) {m:Move} (hm:m∈bb n items s):Inv n items (doMv n items s m)/\muN n items (Go.Proofs.YtnlmagdmmjkklaaGreat.doMv n items s m)+1<=muN n items s:=by obtain ⟨i,k,rfl,hi,hk,hc⟩:=lM hm;exact Inv.doM hS h hi hk hc
def a9 (n:Net) (items:List (List Item)):State:=⟨List.replicate items.length 0,List.replicate n.Rings.toNat [],List.replicate n.Nodes.length ⟨0,[],0⟩,[],[]⟩
theorem Ck (w:Nat->Nat):∀ (m k:Nat),wsum w k (List.replicate m [])=0
 | 0,k=>rfl
 | m+1,k=>by rw [M4];simp [wsum,Ck w m (k+1)]
theorem zM (L:Nat):∀ (ls:List (List Item)) (ps:List Int),(∀ l,l∈ls->l.length<=L)->ib ls ps<=L*ls.length
 | [],ps,_=>by simp [ib]
 | l::ls,[],_=>by simp [ib]
 | l::ls,p::ps,h=>by
  have h1:=h l L0;have h2:=zM L ls ps fun x hx=>h x (L2 _ hx)
  simp only [ib,LW,Nat.mul_add];omega
theorem nR (hS:RightS n items):Inv n items (a9 n items):=by
 have hr:∀ (r:Nat) (l:List Item),(a9 n items).Rings[r]?=some l->l=[]:=fun r l h=>by have:=LJ h;exact (M8.1 this).2
 refine ⟨0,⟨by simp [a9],by have:=hS.r1;simp [a9];omega,by simp [a9],by simp [a9],by simp [a9],fun a p hp=>?_,fun r l hl=>?_,fun r l x hl hx=>?_,fun i m hm=>?_,fun c hc=>by simp [a9] at hc,fun x hx=>by simp [a9] at hx⟩,?_⟩
 ·have:=(M8.1 (LJ hp)).2;subst this;exact ⟨Mh _,by omega⟩
 ·rw [hr r l hl];have:=hS.m1;simp;omega
 ·rw [hr r l hl] at hx;cases hx
 ·have:=(M8.1 (LJ hm)).2;subst this;refine ⟨⟨by simp,fun x hx=>(by cases hx),fun i j x y _ h=>(by simp at h),by simp⟩,by simp [a9],fun y hy=>(by cases hy)⟩
 ·have h1:=zM 20 items (a9 n items).At (fun l hl=>by
   obtain ⟨a,ha⟩:=L1 hl;exact hS.l20 a l ha)
  have h2:=hS.l4;unfold muN;have:wsum (wN n) 0 (a9 n items).Rings=0:=Ck _ _ _;rw [this];have h3:ib items (a9 n items).At<=80:=by omega
  have h4:=L4 (17 ^ 12) h3;omega
theorem GP (hS:RightS n items) (hio:∀ x∈n.Nodes,x.In.length<=1099511627776/\x.Out.length<=1099511627776):pO n items=some (a9 n items):=by
 unfold pO;have h1:=hS.r1;have h2:=hS.r2;have h3:=hS.n2;have h4:=hS.l4;have e1:mk ((items.length:Nat):Int) (0:Int)=some (List.replicate items.length 0):=by unfold mk;rw [if_pos (by omega)];simp
 have e2:mk n.Rings ([]:List Item)=some (List.replicate n.Rings.toNat []):=by unfold mk;rw [if_pos (by omega)]
 have e3:mk ((n.Nodes.length:Nat):Int) (⟨0,[],0⟩:Memory)=some (List.replicate n.Nodes.length ⟨0,[],0⟩):=by unfold mk;rw [if_pos (by omega)];simp
 simp only [e1,e2,e3,LF];rfl
def fq (l:List Move) (c:Int):Move:=l.getD (c % l.length).toNat ⟨0,0⟩
theorem zQ {l:List Move} (h:l≠[]) (c:Int):fq l c∈l/\(c % l.length).toNat<l.length:=by
 have h1:0<l.length:=Nj.2 h;have h2:=NT c (show (l.length:Int)≠0 by omega);have h3:=Int.emod_lt_of_pos c (show (0:Int)<l.length by omega);have h4:(c % l.length).toNat<l.length:=by omega
 exact ⟨LJ (dw _ h4),h4⟩
theorem JD (c:Int) (m:Nat) (h0:0<m) (h:m<=1000):(rem c m).bind (fun x=>(rem (IntKind.i64.wrap (x+m)) m))=some (c % m):=by have h1:=Int.tmod_lt_of_pos c (show (0:Int)<m by omega);have h2:=Int.lt_tmod_of_pos c (show (0:Int)<m by omega);unfold rem;rw [if_neg (by omega),LF,if_neg (by omega),bA (by omega) (by omega)];congr 1;rw [Int.tmod_eq_emod_of_nonneg (by omega),Int.add_emod_right,Int.tmod_eq_emod];split<;>simp [Int.sub_emod_right]
def noS:State:=⟨[],[],[],[],[]⟩
end
end
noncomputable section
def fd {α ρ:Type} (f:Nat->α->Option ρ):Nat->List α->Option ρ
 | _,[]=>none
 | k,x::xs=>match f k x with
  | some r=>some r
  | none=>fd f (k+1) xs
theorem qk {α ρ:Type} (xs:List α) (hx:xs.length<=1099511627776) (f:Nat->α->Option ρ) (fin:Option ρ) {body:Int->Option (Int ⊕ ρ)}
  (h1:∀ (k:Nat) (x:α),xs[k]?=some x->k<xs.length->idx xs (k:Int)=some x->decide ((k:Int)<(xs.length:Int))=true->IntKind.i64.wrap ((k:Int)+1)=((k+1:Nat):Int)->body k=match f k x with | some r=>some (.inr r) | none=>some (.inl ((k+1:Nat):Int)))
  (h2:decide ((xs.length:Int)<(xs.length:Int))=false->body xs.length=fin.map .inr):iter body 0=match fd f 0 xs with | some r=>some r | none=>fin:=by
 have key:∀ (m k:Nat),k+m=xs.length->iter body k=match fd f k (xs.drop k) with | some r=>some r | none=>fin:=by
  intro m;induction m with
  | zero =>
   intro k hk;have hk:k=xs.length:=by omega
   subst hk;rw [aH,h2 (by simp),MJ];unfold fd;cases fin<;>rfl
  | succ m ih =>
   intro k hk;have hlt:k<xs.length:=by omega
   have hg:xs[k]?=some xs[k]:=LG hlt;rw [aH,h1 k _ hg hlt (bv hg) (by simp;omega) (bt (by omega)),LU hlt];unfold fd;cases f k xs[k] with
   | some r=>rfl
   | none=>exact ih (k+1) (by omega)
 have:=key xs.length 0 (by omega)
 rw [Mt,MD] at this
 exact this
theorem lG {α ρ:Type} {f:Nat->α->Option ρ}:∀ {xs:List α} {k:Nat},fd f k xs=none ↔ ∀ (j:Nat) (x:α),xs[j]?=some x->f (k+j) x=none
 | [],k=>⟨fun _ j x h=>by simp at h,fun _=>rfl⟩
 | y::xs,k=>by
  unfold fd;cases hf:f k y with
  | some r =>
   refine ⟨fun h=>(by cases h),fun h=>?_⟩;have:=h 0 y rfl;rw [MB,hf] at this;cases this
  | none =>
   simp only;rw [lG];constructor
   ·intro h j x hj;cases j with
    | zero=>simp at hj;subst hj;exact hf
    | succ j=>have:=h j x (by simpa using hj);rwa [show k+1+j=k+(j+1) by omega] at this
   ·intro h j x hj;have:=h (j+1) x (by simpa using hj);rwa [show k+(j+1)=k+1+j by omega] at this
def iG (s:State) (l:List Item):Bool:=l.any fun x=>decide (x.Dep<0) || decide (x.Dep > (s.Choices.length:Int))
def chkM (m:Memory):Int:=(kb m).getD 0
theorem u3 (m:Memory):kb m=some (chkM m)/\(chkM m=0 ↔ okM m):=by
 obtain ⟨c,h1,h2⟩:=yP m;have:chkM m=c:=by unfold chkM;rw [h1];rfl
 rw [this];exact ⟨h1,h2⟩
def kx (n:Net) (c:Choice):Bool:=decide (0<=c.Node/\c.Node<n.Nodes.length/\(aa n c.Node.toNat).Kind=6/\0<=c.Lane/\c.Lane<(aa n c.Node.toNat).In.length)
def cI (n:Net) (items:List (List Item)) (s:State):Int :=
 if cP n items≠0 then cP n items
 else if s.At.length≠items.length∨(s.Rings.length:Int)≠n.Rings∨s.Memory.length≠n.Nodes.length then 4
 else if 500<s.Choices.length∨2000<s.Out.length then 2
 else (fd (fun k (p:Int)=>if p<0∨p > ((items.getD k []).length:Int) then some (3:Int) else none) 0 s.At).getD
  ((fd (fun _ (l:List Item)=>if n.Room<(l.length:Int) then some (2:Int) else if iG s l=true then some 3 else none) 0 s.Rings).getD
  ((fd (fun _ (m:Memory)=>if chkM m≠0 then some (chkM m) else if m.Dep > (s.Choices.length:Int) then some 3 else none) 0 s.Memory).getD
  ((fd (fun _ (c:Choice)=>if kx n c=true then none else some (5:Int)) 0 s.Choices).getD (if iG s s.Out=true then 3 else 0))))
theorem yw {α:Type} (o:Option α) (z:α):(match o with | some r=>some r | none=>some z)=some (o.getD z):=by cases o<;>rfl
section
variable {n:Net} {items:List (List Item)} {B:Int} {s:State}
theorem zE (s:State) (l:List Item) (hl:l.length<=1099511627776):nb l s.At s.Rings s.Memory s.Choices s.Out=some (!iG s l):=by
 unfold nb rj rk;rw [uj l hl (fun x=>decide (x.Dep<0) || decide (x.Dep > (s.Choices.length:Int))) (fun k x hx hk h1 h2 h3=>by
  unfold oX ro;rw [h2,h1,h3];simp only [if_true,LF];rfl) (fun h=>by
  unfold oX;rw [h];rfl)]
 rw [LF,AR];rfl
theorem FT (n:Net) (c:Choice):pD n c=some (kx n c):=by
 unfold pD kx;by_cases h0:0<=c.Node
 ·rw [if_pos (by simpa using h0)];by_cases h1:c.Node<n.Nodes.length
  ·have hi:idx n.Nodes c.Node=some (aa n c.Node.toNat):=idx_D _ h0 h1;rw [if_pos (by simpa using h1),hi,LF];by_cases h6:(aa n c.Node.toNat).Kind=6
   ·rw [if_pos (by simpa using h6)];by_cases h2:0<=c.Lane
    ·rw [if_pos (by simpa using h2),LF,LF];simp [h0,h1,h6,h2]
    ·rw [if_neg (by simpa using h2)];simp [h2]
   ·rw [if_neg (by simpa using h6)];simp [h6]
  ·rw [if_neg (by simpa using h1)];simp [h1]
 ·rw [if_neg (by simpa using h0)];simp [h0]
theorem qp (n:Net) (items:List (List Item)) (s:State) (hio:∀ x∈n.Nodes,x.In.length<=1099511627776/\x.Out.length<=1099511627776) (hr:∀ l,l∈s.Rings->l.length<=1099511627776):gR n items s=some (cI n items s):=by
 unfold gR cI;rw [rH n items hio,LF];by_cases h:cP n items=0
 ·have hS:=ku h;rw [if_neg (show ¬ (cP n items != 0)=true by simp [h]),if_neg (show ¬ cP n items≠0 by simp [h])];by_cases hl:s.At.length≠items.length∨(s.Rings.length:Int)≠n.Rings∨s.Memory.length≠n.Nodes.length
  ·rw [if_pos hl,if_pos (by simp;omega)]
  ·have h1:s.At.length=items.length:=by omega
   have h2:(s.Rings.length:Int)=n.Rings:=by omega
   have h3:s.Memory.length=n.Nodes.length:=by omega
   rw [if_neg hl,if_neg (by simp;omega)];by_cases hm:500<s.Choices.length∨2000<s.Out.length
   ·rw [if_pos hm,if_pos (by simp;omega)]
   ·rw [if_neg hm,if_neg (by simp;omega)];have h4:=hS.l4;have h5:=hS.r2;have h6:=hS.n2;rw [qk s.At (by omega) (fun k (p:Int)=>if p<0∨p > ((items.getD k []).length:Int) then some (3:Int) else none) (iter (fun kT:Int=>nt n s kT) 0) (fun k x hx hk e1 e2 e3=>by
     unfold pA;rw [e2,e1,e3];simp only [if_true,LF];have hi:=bv (dw ([]:List Item) (show k<items.length by omega));by_cases hx0:x<0
     ·rw [if_pos (by simpa using hx0),LF,if_pos rfl,if_pos (show x<0∨_ from .inl hx0)];rfl
     ·rw [if_neg (by simpa using hx0),hi,LF,LF];by_cases hx1:x > ((items.getD k []).length:Int)
      ·rw [if_pos (by simpa using hx1),if_pos (show x<0∨x > ((items.getD k []).length:Int) from .inr hx1)];rfl
      ·rw [if_neg (by simpa using hx1),if_neg (show ¬ (x<0∨x > ((items.getD k []).length:Int)) by omega)]) (fun e=>by
     unfold pA;rw [e];rfl)]
    rw [qk s.Rings (by omega) (fun _ (l:List Item)=>if n.Room<(l.length:Int) then some (2:Int) else if iG s l=true then some 3 else none) (iter (fun iU:Int=>nn n s iU) 0) (fun k x hx hk e1 e2 e3=>by
     unfold nt;rw [e2,e1,e3];simp only [if_true,LF];rw [zE s x (hr x (LJ hx)),LF];by_cases hx1:n.Room<(x.length:Int)
     ·rw [if_pos (by simpa using hx1),if_pos hx1];rfl
     ·rw [if_neg (by simpa using hx1),if_neg hx1];cases iG s x<;>rfl) (fun e=>by
     unfold nt;rw [e];rfl)]
    rw [qk s.Memory (by omega) (fun _ (m:Memory)=>if chkM m≠0 then some (chkM m) else if m.Dep > (s.Choices.length:Int) then some 3 else none) (iter (fun iU:Int=>nv n s iU) 0) (fun k x hx hk e1 e2 e3=>by
     unfold nn;rw [e2,e1,e3];simp only [if_true,LF];rw [(u3 x).1,LF];by_cases hx1:chkM x=0
     ·rw [if_neg (show ¬ (chkM x != 0)=true by simp [hx1]),if_neg (show ¬ chkM x≠0 by simp [hx1])];by_cases hx2:x.Dep > (s.Choices.length:Int)
      ·rw [if_pos (by simpa using hx2),if_pos hx2];rfl
      ·rw [if_neg (by simpa using hx2),if_neg hx2]
     ·rw [if_pos (show (chkM x != 0)=true by simpa using hx1),if_pos hx1];rfl) (fun e=>by
     unfold nn;rw [e];rfl)]
    rw [qk s.Choices (by omega) (fun _ (c:Choice)=>if kx n c=true then none else some (5:Int)) (some (if iG s s.Out=true then 3 else 0)) (fun k x hx hk e1 e2 e3=>by
     unfold nv;rw [e2,e1,e3];simp only [if_true,LF];rw [FT,LF];cases kx n x<;>rfl) (fun e=>by
     unfold nv;rw [e,zE s s.Out (by omega)];simp only [LV,if_false,LF];cases iG s s.Out<;>rfl)]
    simp only [yw]
 ·rw [if_pos (show (cP n items != 0)=true by simpa using h),if_pos h]
theorem rM {l:List Item}:iG s l=false ↔ ∀ x,x∈l->0<=x.Dep/\x.Dep<=s.Choices.length:=by unfold iG;rw [List.any_eq_false];simp only [Nn,decide_eq_true_eq];exact ⟨fun h x hx=>by have:=h x hx;omega,fun h x hx=>by have:=h x hx;omega⟩
theorem tq {o:Option Int} {z:Int} (h:o.getD z=0) (ho:∀ r,o=some r->r≠0):o=none/\z=0:=by
 cases o with
 | none=>exact ⟨rfl,h⟩
 | some r=>exact absurd h (ho r rfl)
theorem pE {α ρ:Type} {f:Nat->α->Option ρ}:∀ {xs:List α} {k:Nat} {r:ρ},fd f k xs=some r->∃ (j:Nat) (x:α),xs[j]?=some x/\f (k+j) x=some r
 | [],k,r,h=>by cases h
 | y::xs,k,r,h=>by
  unfold fd at h;split at h
  ·rename_i r' hf;cases h;exact ⟨0,y,rfl,hf⟩
  ·obtain ⟨j,x,h1,h2⟩:=pE h;exact ⟨j+1,x,by simpa using h1,by rw [<- h2];congr 1;omega⟩
theorem JL (h:cI n items s=0) (hB:∀ m,m∈s.Memory->∀ y,y∈m.Keys->y.N<=B):OkS n items B s:=by
 unfold cI at h;split at h
 ·rename_i h1;exact absurd h h1
 ·split at h
  ·exact absurd h (by decide)
  ·split at h
   ·exact absurd h (by decide)
   ·rename_i h1 h2 h3;obtain ⟨e1,h⟩:=tq h (fun r hr=>by obtain ⟨j,x,_,h5⟩:=pE hr;split at h5<;>cases h5;decide);obtain ⟨e2,h⟩:=tq h (fun r hr=>by
     obtain ⟨j,x,_,h5⟩:=pE hr;split at h5
     ·cases h5;decide
     ·split at h5<;>cases h5;decide)
    obtain ⟨e3,h⟩:=tq h (fun r hr=>by
     obtain ⟨j,x,_,h5⟩:=pE hr;split at h5
     ·rename_i h6;cases h5;exact h6
     ·split at h5<;>cases h5;decide)
    obtain ⟨e4,h⟩:=tq h (fun r hr=>by obtain ⟨j,x,_,h5⟩:=pE hr;split at h5<;>cases h5;decide);rw [lG] at e1 e2 e3 e4;refine ⟨by omega,by omega,by omega,by omega,by omega,fun a p hp=>?_,fun r l hl=>?_,fun r l x hl hx=>?_,fun i m hm=>?_,fun c hc=>?_,?_⟩
    ·have:=e1 a p hp;rw [MG] at this;split at this
     ·cases this
     ·omega
    ·have:=e2 r l hl;split at this
     ·cases this
     ·omega
    ·have:=e2 r l hl;split at this
     ·cases this
     ·split at this
      ·cases this
      ·rename_i hb;exact rM.1 (Bool.eq_false_iff.2 hb) x hx
    ·have:=e3 i m hm;split at this
     ·cases this
     ·rename_i hb;split at this
      ·cases this
      ·exact ⟨(u3 m).2.1 (Decidable.not_not.1 hb),by omega,hB m (LJ hm)⟩
    ·obtain ⟨j,hj⟩:=L1 hc;have:=e4 j c hj;split at this
     ·rename_i hb;unfold kx at hb;unfold sD;exact of_decide_eq_true hb
     ·cases this
    ·split at h
     ·exact absurd h (by decide)
     ·rename_i hb;exact rM.1 (Bool.eq_false_iff.2 hb)
theorem tf (hsrc:cP n items=0) (ok:OkS n items B s):cI n items s=0:=by
 unfold cI;have h1:=ok.at_;have h2:=ok.rg;have h3:=ok.mm;have h4:=ok.ch;have h5:=ok.out;rw [if_neg (by omega),if_neg (by omega),if_neg (by omega)];rw [lG.2 (fun j p hp=>by have:=ok.atP j p hp;rw [MG];rw [if_neg (by omega)]),lG.2 (fun r l hl=>by
  have:=ok.room r l hl;rw [if_neg (by omega),if_neg (by rw [rM.2 (fun x hx=>ok.depR r l x hl hx)];decide)]),lG.2 (fun i m hm=>by
  have:=ok.mem i m hm;rw [if_neg (by have:=(u3 m).2.2 this.1;omega),if_neg (by omega)]),lG.2 (fun j c hc=>by
  have:=ok.cho c (LJ hc);rw [if_pos (show kx n c=true by unfold kx;unfold sD at this;exact decide_eq_true this)])]
 show (if iG s s.Out=true then 3 else 0)=(0:Int)
 rw [if_neg (by rw [rM.2 ok.depO];decide)]
theorem uI {α:Type} {l:List α} {k:Nat} {a:α} (h:l[k]?=some a):l.set k a=l:=by obtain ⟨hlt,rfl⟩:=LH.1 h;exact MK hlt
theorem IF (s:State) (h1:s.At.length<=1099511627776) (h2:s.Rings.length<=1099511627776) (h3:s.Memory.length<=1099511627776) (h4:s.Choices.length<=1099511627776) (h5:s.Out.length<=1099511627776)
  (h6:∀ l,l∈s.Rings->l.length<=1099511627776) (h7:∀ m,m∈s.Memory->m.Keys.length<=1099511627776):kr s=some s:=by
 have cl:∀ {α:Type} (l:List α),l.length<=1099511627776->app [] l=some l:=fun l hl=>by rw [cJ (by simpa using hl)];rfl
 have l1:∀ (m k:Nat),k+m=s.Memory.length->iter (fun CE:Int × (List Memory)=>jZ s s.At s.Rings s.Memory CE.1 CE.2) ((k:Int),s.Memory)=some s:=by
  intro m;induction m with
  | zero =>
   intro k hk;have hk:k=s.Memory.length:=by omega
   subst hk;have e:jZ s s.At s.Rings s.Memory (s.Memory.length:Int) s.Memory=some (.inr s):=by unfold jZ rr eO;rw [if_neg (by simp),cl _ h4,LF,cl _ h5];rfl
   rw [aH];simp only [e]
  | succ m ih =>
   intro k hk;have hlt:k<s.Memory.length:=by omega
   have hg:s.Memory[k]?=some s.Memory[k]:=LG hlt;have e:jZ s s.At s.Rings s.Memory (k:Int) s.Memory=some (.inl (((k+1:Nat):Int),s.Memory)):=by unfold jZ lP pf;rw [if_pos (by simp;omega),fK hlt,LF,hg,LF,cl _ (h7 _ (Mk hlt)),LF,LF,LF,hg,LF,bt (by omega),uI hg]
   rw [aH];simp only [e];exact ih (k+1) (by omega)
 have l2:∀ (m k:Nat),k+m=s.Rings.length->iter (fun ii:Int × (List (List Item))=>j8 s s.At s.Rings ii.1 ii.2) ((k:Int),s.Rings)=some s:=by
  intro m;induction m with
  | zero =>
   intro k hk;have hk:k=s.Rings.length:=by omega
   subst hk;have e:j8 s s.At s.Rings (s.Rings.length:Int) s.Rings=some (.inr s):=by unfold j8 rp;have:=l1 s.Memory.length 0 (by omega);rw [Mt] at this;rw [if_neg (by simp),cl _ h3,LF,this];rfl
   rw [aH];simp only [e]
  | succ m ih =>
   intro k hk;have hlt:k<s.Rings.length:=by omega
   have hg:s.Rings[k]?=some s.Rings[k]:=LG hlt;have e:j8 s s.At s.Rings (k:Int) s.Rings=some (.inl (((k+1:Nat):Int),s.Rings)):=by unfold j8 eO;rw [if_pos (by simp;omega),fK hlt,LF,hg,LF,cl _ (h6 _ (Mk hlt)),LF,LF,hg,LF,bt (by omega),uI hg]
   rw [aH];simp only [e];exact ih (k+1) (by omega)
 unfold kr jS ri
 rw [cl _ h1,LF,cl _ h2,LF]
 have:=l2 s.Rings.length 0 (by omega)
 rw [Mt] at this
 exact this
theorem BC (hS:RightS n items) (ok:OkS n items B s):kr s=some s:=by
 have h1:=ok.at_;have h2:=ok.rg;have h3:=ok.mm;have h4:=ok.ch;have h5:=ok.out;have h6:=hS.l4;have h7:=hS.r2;have h8:=hS.n2;have h9:=hS.m2;refine IF s (by omega) (by omega) (by omega) (by omega) (by omega) (fun l hl=>?_) (fun m hm=>?_)
 ·obtain ⟨r,hr⟩:=L1 hl;have:=ok.room r l hr;omega
 ·obtain ⟨i,hi⟩:=L1 hm;have:=(ok.mem i m hi).1.len;omega
end
theorem Dm (a b:List Choice) (ha:a.length<=1099511627776):pd a b=some (decide (a=b)):=by
 unfold pd;by_cases hl:a.length=b.length
 ·rw [if_neg (by simp;omega)];exact yz a b ha hl (fun k x y h1 h2 h3 h4=>by
   unfold pb;rw [h1,h2,h3,h4];by_cases h:x=y<;>simp [h]) (fun h=>by
   unfold pb;rw [h];simp)
 ·rw [if_pos (by simp;omega)];have:a≠b:=fun e=>hl (by rw [e])
  simp [this]
theorem Fj:rF=some meetN:=rfl
theorem Jz:rT=some dR:=rfl
end
section
def bx (n:Net) (items:List (List Item)):Mach Item Memory (List Choice) where
 key:=Item.Key
 step:=fun i m x=>cM (aa n i).Kind (aa n i).A m x
 stamp:=fun t x=>⟨x.Key,x.Val,(t.length:Int)+1⟩
 tick:=fun t i k=>t++[⟨i,k⟩]
 src:=fun a=>items.getD a []
def bi (s:State):MSt Item Memory (List Choice):=⟨fun a=>(s.At.getD a 0).toNat,fun r=>s.Rings.getD r [],memN s,s.Out,s.Choices⟩
theorem Ib {I M T:Type} {p q:MSt I M T} (h1:p.pos=q.pos) (h2:p.rg=q.rg) (h3:p.mm=q.mm) (h4:p.out=q.out) (h5:p.tr=q.tr):p=q:=by cases p;cases q;simp_all
theorem qu {n:Net} {items:List (List Item)} (hS:RightS n items):SrcN n:=fun i j hi hj h1 h2 e=>hS.src1 i j hi hj h1 h2 (by have:=hS.a0 i hi;have:=hS.a0 j hj;omega)
section
variable {n:Net} {items:List (List Item)} {B:Int} {s:State}
theorem Al (hR:RightN n) (s:State) (l:List Int):fitM (some n.Room.toNat) (bi s) l ↔ roomy n s l=true:=by
 unfold fitM roomy;rw [Mz];have:=hR.m1;constructor
 ·intro h r hr;have h1:(s.Rings.getD r.toNat []).length<n.Room.toNat:=h n.Room.toNat rfl r hr;rw [decide_eq_true_eq];omega
 ·intro h R hRm r hr;cases hRm;have:=of_decide_eq_true (h r hr);show (s.Rings.getD r.toNat []).length<n.Room.toNat;omega
theorem IN (hS:RightS n items) (ok:OkS n items B s) {i k:Nat} (hi:i<n.Nodes.length) (hk:k<bu (aa n i)) {it:Item} (hh:dl n items s i k=some it):bi (doM n items s i k)=goM (bx n items) n (bi s) (i,k) it:=by
 have hR:=hS.toRightN;have hmi:i<s.Memory.length:=by rw [ok.mm];exact hi
 have hmk:dm n s i it=mkM (bx n items) n (bi s) (i,k) it:=by unfold dm mkM inM chD;rfl
 refine Ib ?_ ?_ ?_ ?_ ?_
 ·funext a;show ((doM n items s i k).At.getD a 0).toNat=(if (aa n i).Kind=1 then upd (bi s).pos (aa n i).A.toNat ((bi s).pos (aa n i).A.toNat+1) else (bi s).pos) a;rw [do_at hh];by_cases h1:(aa n i).Kind=1
  ·obtain ⟨a0,a1,a2,a3,a4,a5⟩:=at_ok hS ok hi h1;rw [if_pos h1,if_pos h1,sG _ _ _ _ _ (by omega)];unfold upd;by_cases e:a=(aa n i).A.toNat
   ·rw [if_pos e,if_pos e];show _=(s.At.getD (aa n i).A.toNat 0).toNat+1;omega
   ·rw [if_neg e,if_neg e];rfl
  ·rw [if_neg h1,if_neg h1];rfl
 ·funext r;show (doM n items s i k).Rings.getD r []=_;rw [AH hR ok.rg hi hk hh,hmk];rfl
 ·funext j;show (doM n items s i k).Memory.getD j ⟨0,[],0⟩=upd (bi s).mm i _ j;rw [Cv hh,sG _ _ _ _ _ hmi,hmk];rfl
 ·show (doM n items s i k).Out=_;rw [vC hh,hmk];rfl
 ·show (doM n items s i k).Choices=_;rw [do_ch hh];rfl
theorem u4 (hS:RightS n items) (ok:OkS n items B s) {i k:Nat} (hi:i<n.Nodes.length) (hk:k<bu (aa n i)) (hc:dM n items s i k=true):Ex (bx n items) n (some n.Room.toNat) (bi s) (i,k) (bi (doM n items s i k)):=by obtain ⟨it,hh,hroom,_⟩:=oa hc;exact ⟨⟨hi,hk⟩,it,hh,(Al hS.toRightN s _).2 hroom,IN hS ok hi hk hh⟩
theorem FJ (hS:RightS n items) {i k:Nat} {d:MSt Item Memory (List Choice)} (h:Ex (bx n items) n (some n.Room.toNat) (bi s) (i,k) d) (h6:(aa n i).Kind=6->s.Choices.length≠500) (h8:(aa n i).Kind=8->s.Out.length≠2000):dM n items s i k=true:=by obtain ⟨_,x,hx,hf,_⟩:=h;have hh:dl n items s i k=some x:=hx;unfold dM;rw [hh];have h1:=(Al hS.toRightN s _).1 hf;have h2:roomy n s (bD (aa n i) x.Key)=true:=h1;simp only [h2,Bool.true_and,MF,Bool.not_eq_true',decide_eq_false_iff_not];exact ⟨fun e=>h6 e.1 e.2,fun e=>h8 e.1 e.2⟩
theorem ex_mv (hS:RightS n items) (ok:OkS n items B s) {m:Move} (hm:m∈bb n items s):Ex (bx n items) n (some n.Room.toNat) (bi s) (m.Node.toNat,m.Lane.toNat) (bi (doMv n items s m)):=by obtain ⟨i,k,rfl,hi,hk,hc⟩:=lM hm;exact u4 hS ok hi hk hc
def chW (n:Net) (w:List (Nat × Nat)):List Choice:=(w.filter fun m=>decide ((aa n m.1).Kind=6)).map fun m=>⟨m.1,m.2⟩
theorem kJ {room:Option Nat} {c d:MSt Item Memory (List Choice)} {w:List (Nat × Nat)} (h:Run (bx n items) n room c w d):d.tr=c.tr++chW n w:=by
 induction h with
 | nil c=>simp [chW]
 | @cons c c1 d m w h t ih =>
  obtain ⟨_,x,_,_,rfl⟩:=h;rw [ih];unfold chW;show (if (aa n m.1).Kind=6 then c.tr++[⟨m.1,m.2⟩] else c.tr)++_=_;by_cases h6:(aa n m.1).Kind=6
  ·rw [if_pos h6,Mw (by simpa using h6)];simp
  ·rw [if_neg h6,MM (by simpa using h6)]
theorem pQ {I M T:Type} {E:Mach I M T} {room:Option Nat} {c d:MSt I M T} {w:List (Nat × Nat)} (h:Run E n room c w d):∀ m,m∈w->okMv n m:=by
 induction h with
 | nil c=>intro m hm;cases hm
 | cons h t ih =>
  intro m hm;rcases Md.1 hm with rfl | hm
  ·exact h.1
  ·exact ih m hm
def sJ (l:List Choice) (i:Nat):List Int:=(l.filter fun c=>decide (c.Node=(i:Int))).map Choice.Lane
theorem ym (i:Nat) (h6:(aa n i).Kind=6):∀ (w:List (Nat × Nat)),eK i w=(sJ (chW n w) i).map fun l=>(i,l.toNat)
 | []=>rfl
 | m::w=>by
  rw [pK,ym i h6 w];unfold chW sJ;by_cases hm:m.1=i
  ·subst hm;rw [if_pos rfl,Mw (by simpa using h6),Mn,Mw (by simp)];simp
  ·rw [if_neg hm];by_cases h6m:(aa n m.1).Kind=6
   ·rw [Mw (by simpa using h6m),Mn,MM (by simp;omega)]
   ·rw [MM (by simpa using h6m)]
theorem xZ (i:Nat) (h6:(aa n i).Kind≠6):∀ (w:List (Nat × Nat)),(∀ m,m∈w->okMv n m)->eK i w=List.replicate (eK i w).length (i,0)
 | [],_=>rfl
 | m::w,h=>by
  have ih:=xZ i h6 w fun q hq=>h q (L2 _ hq)
  rw [pK];split
  ·rename_i hm;have h2:=(h m L0).2;unfold bu at h2;rw [hm,if_neg h6] at h2;have:m=(i,0):=by cases m;simp at hm h2 ⊢;omega
   rw [LW,M4,<- ih,this]
  ·exact ih
end
end
section
section
variable {I M T:Type} {E:Mach I M T} {n:Net} {room:Option Nat}
theorem pU (hR:RightN n) (hsrc:SrcN n) {a:Nat × Nat}:∀ {p:List (Nat × Nat)} {c c1 d:MSt I M T},Run E n room c p d->Ex E n room c a c1->eK a.1 p=[]->((aa n a.1).Kind≠6∨chW n p=[])->∃ e,Run E n room c1 p e/\Ex E n room d a e:=by
 intro p;induction p with
 | nil=>intro c c1 d h h1 _ _;cases h;exact ⟨c1,.nil c1,h1⟩
 | cons b p ih =>
  intro c c1 d h h1 hp h6;rw [pK] at hp;split at hp
  ·cases hp
  ·rename_i hne;cases h with
   | cons hb ht =>
    have hb6:(aa n a.1).Kind≠6∨(aa n b.1).Kind≠6/\chW n p=[]:=by
     rcases h6 with h6 | h6
     ·exact .inl h6
     ·right;unfold chW at h6 ⊢;by_cases hk:(aa n b.1).Kind=6
      ·rw [Mw (by simpa using hk)] at h6;cases h6
      ·rw [MM (by simpa using hk)] at h6;exact ⟨hk,h6⟩
    obtain ⟨f,f1,f2⟩:=diamond hR hsrc h1 hb (fun e=>hne e.symm) (by rcases hb6 with h | h;exact .inl h;exact .inr (.inl h.1));obtain ⟨e,e1,e2⟩:=ih ht f2 hp (by rcases hb6 with h | h;exact .inl h;exact .inr h.2);exact ⟨e,.cons f1 e1,e2⟩
theorem sm (hR:RightN n) (hsrc:SrcN n) {a:Nat × Nat} {p q:List (Nat × Nat)} {c c1 d:MSt I M T} (h:Run E n room c (p++a::q) d) (h1:Ex E n room c a c1) (hp:eK a.1 p=[]) (h6:(aa n a.1).Kind≠6∨chW n p=[]):Run E n room c1 (p++q) d:=by
 obtain ⟨f,f1,f2⟩:=h.split;obtain ⟨e,e1,e2⟩:=pU hR hsrc f1 h1 hp h6;cases f2 with
 | cons g1 g2=>rw [e2.det g1] at e1;exact e1.app g2
end
section
variable {n:Net}
theorem eT (m:Nat × Nat) (w:List (Nat × Nat)):chW n (m::w)=if (aa n m.1).Kind=6 then (⟨m.1,m.2⟩:Choice)::chW n w else chW n w:=by
 unfold chW;by_cases h:(aa n m.1).Kind=6
 ·rw [if_pos h,Mw (by simpa using h)];rfl
 ·rw [if_neg h,MM (by simpa using h)]
theorem gY (u v:List (Nat × Nat)):chW n (u++v)=chW n u++chW n v:=by simp [chW]
theorem yy {w:List (Nat × Nat)} (hw:chW n w=[]) {i:Nat} (h6:(aa n i).Kind=6):eK i w=[]:=by rw [ym i h6,hw];rfl
theorem um {w:List (Nat × Nat)} (hv:∀ m,m∈w->okMv n m) {a:Nat × Nat} (ha:okMv n a) (h6:(aa n a.1).Kind≠6):eK a.1 w=[]∨∃ p q,w=p++a::q/\eK a.1 p=[]:=by
 cases hp:eK a.1 w with
 | nil=>exact .inl rfl
 | cons b l =>
  right;have h1:=xZ a.1 h6 w hv;rw [hp,LW,M4] at h1;have hb:b=a:=by have h2:=ha.2;unfold bu at h2;rw [if_neg h6] at h2;have h3:b=(a.1,0):=(NP h1).1;rw [h3];cases a;simp at h2 ⊢;omega
  rw [hb] at hp;obtain ⟨p,q,e1,e2,_⟩:=EV hp;exact ⟨p,q,e1,e2⟩
theorem Gn {w:List (Nat × Nat)} {c:Choice} {l:List Choice} (h:chW n w=c::l):∃ p q m,w=p++m::q/\chW n p=[]/\chW n q=l/\(aa n m.1).Kind=6/\c=⟨m.1,m.2⟩:=by
 induction w with
 | nil=>cases h
 | cons m w ih =>
  rw [eT] at h;by_cases h6:(aa n m.1).Kind=6
  ·rw [if_pos h6] at h;obtain ⟨h1,h2⟩:=NP h;exact ⟨[],w,m,rfl,rfl,h2,h6,h1.symm⟩
  ·rw [if_neg h6] at h;obtain ⟨p,q,m',e1,e2,e3,e4,e5⟩:=ih h;exact ⟨m::p,q,m',by rw [e1];rfl,by rw [eT,if_neg h6];exact e2,e3,e4,e5⟩
end
end
def zz (n:Int):Nat:=if 0<=n then (2*n).toNat else (-2*n - 1).toNat
theorem zz_lt {n:Int} (h:gI n):zz n<18446744073709551616:=by unfold gI at h;unfold zz;split<;>omega
theorem Ko {a b:Int} (h:zz a=zz b):a=b:=by unfold zz at h;split at h<;>split at h<;>omega
def vb:Nat->Nat->List UInt8
 | 0,u=>[UInt8.ofNat u]
 | f+1,u=>if u<128 then [UInt8.ofNat u] else UInt8.ofNat (u % 128+128)::vb f (u / 128)
def num (n:Int):List UInt8:=vb 9 (zz n)
theorem Ci:∀ (f u:Nat),(vb f u).length<=f+1/\1<=(vb f u).length
 | 0,u=>by simp [vb]
 | f+1,u=>by unfold vb;have:=Ci f (u / 128);split<;>simp<;>omega
theorem eo (n:Int):(num n).length<=10/\1<=(num n).length:=Ci 9 _
theorem qh {a b:Nat} (ha:a<256) (hb:b<256) (h:UInt8.ofNat a=UInt8.ofNat b):a=b:=by have:=congrArg UInt8.toNat h;simpa [M6 ha,M6 hb] using this
theorem vb_pf:∀ (f u v:Nat) (r s:List UInt8),u<128 ^ (f+1)->v<128 ^ (f+1)->vb f u++r=vb f v++s->u=v/\r=s
 | 0,u,v,r,s,hu,hv,h=>by
  simp only [vb,Nt,My,Nl] at h;exact ⟨qh (by omega) (by omega) h.1,h.2⟩
 | f+1,u,v,r,s,hu,hv,h=>by
  unfold vb at h;have hq:∀ x,x<128 ^ (f+1+1)->x / 128<128 ^ (f+1):=fun x hx=>by rw [NZ] at hx;exact Nd (by rw [M1];exact hx)
  split at h<;>split at h<;>simp only [Nt,My,Nl] at h
  ·exact ⟨qh (by omega) (by omega) h.1,h.2⟩
  ·have:=qh (by omega) (by omega) h.1;omega
  ·have:=qh (by omega) (by omega) h.1;omega
  ·have h1:=qh (by omega) (by omega) h.1;obtain ⟨h2,h3⟩:=vb_pf f _ _ _ _ (hq u hu) (hq v hv) h.2;exact ⟨by omega,h3⟩
def PF {α:Type} (ok:α->Prop) (e:α->List UInt8):Prop:=∀ x y r s,ok x->ok y->e x++r=e y++s->x=y/\r=s
theorem hM:PF gI num:=fun x y r s hx hy h=>by obtain ⟨h1,h2⟩:=vb_pf 9 _ _ _ _ (MP (zz_lt hx) (by decide)) (MP (zz_lt hy) (by decide)) h;exact ⟨Ko h1,h2⟩
theorem BI {α:Type} {ok:α->Prop} {e:α->List UInt8} (h:PF ok e):∀ (l m:List α) (r s:List UInt8),l.length=m.length->(∀ a,a∈l->ok a)->(∀ a,a∈m->ok a)->l.flatMap e++r=m.flatMap e++s->l=m/\r=s
 | [],[],r,s,_,_,_,h1=>⟨rfl,by simpa using h1⟩
 | [],_::_,r,s,hl,_,_,_=>by simp at hl
 | _::_,[],r,s,hl,_,_,_=>by simp at hl
 | a::l,b::m,r,s,hl,ha,hb,h1=>by simp only [ML,LN] at h1;obtain ⟨rfl,h2⟩:=h _ _ _ _ (ha a (.head _)) (hb b (.head _)) h1;obtain ⟨rfl,h3⟩:=BI h l m r s (by simpa using hl) (fun x hx=>ha x (.tail _ hx)) (fun x hx=>hb x (.tail _ hx)) h2;exact ⟨rfl,h3⟩
def lst {α:Type} (e:α->List UInt8) (l:List α):List UInt8:=num (l.length:Int)++l.flatMap e
theorem mr {α:Type} {ok:α->Prop} {e:α->List UInt8} (h:PF ok e):PF (fun l:List α=>l.length<=1099511627776/\∀ a,a∈l->ok a) (lst e):=fun x y r s hx hy h1=>by unfold lst at h1;simp only [LN] at h1;obtain ⟨h2,h3⟩:=hM _ _ _ _ (by have:=hx.1;unfold gI;omega) (by have:=hy.1;unfold gI;omega) h1;exact BI h x y r s (by omega) hx.2 hy.2 h3
def bw (x:Item):List UInt8:=num x.Key++(num x.Val++num x.Dep)
def fJ (x:Keyed):List UInt8:=num x.Key++num x.N
def dg (x:Memory):List UInt8:=num x.Sum++(num x.Dep++lst fJ x.Keys)
def co (x:Choice):List UInt8:=num x.Node++num x.Lane
def aV (x:State):List UInt8:=lst num x.At++(lst (lst bw) x.Rings++(lst dg x.Memory++(lst co x.Choices++lst bw x.Out)))
theorem Bh:PF dk bw:=fun x y r s hx hy h=>by simp only [bw,LN] at h;obtain ⟨h1,h⟩:=hM _ _ _ _ hx.1 hy.1 h;obtain ⟨h2,h⟩:=hM _ _ _ _ hx.2.1 hy.2.1 h;obtain ⟨h3,h⟩:=hM _ _ _ _ hx.2.2 hy.2.2 h;cases x;cases y;simp_all
theorem GX:PF kG fJ:=fun x y r s hx hy h=>by simp only [fJ,LN] at h;obtain ⟨h1,h⟩:=hM _ _ _ _ hx.1 hy.1 h;obtain ⟨h2,h⟩:=hM _ _ _ _ hx.2 hy.2 h;cases x;cases y;simp_all
theorem Gx:PF kC co:=fun x y r s hx hy h=>by simp only [co,LN] at h;obtain ⟨h1,h⟩:=hM _ _ _ _ hx.1 hy.1 h;obtain ⟨h2,h⟩:=hM _ _ _ _ hx.2 hy.2 h;cases x;cases y;simp_all
abbrev short {α:Type} (ok:α->Prop) (l:List α):Prop:=l.length<=1099511627776/\∀ a,a∈l->ok a
def sMem (x:Memory):Prop:=gI x.Sum/\gI x.Dep/\short kG x.Keys
def iJ (x:State):Prop:=short gI x.At/\short (short dk) x.Rings/\short sMem x.Memory/\short kC x.Choices/\short dk x.Out
theorem JJ:PF sMem dg:=fun x y r s hx hy h=>by simp only [dg,LN] at h;obtain ⟨h1,h⟩:=hM _ _ _ _ hx.1 hy.1 h;obtain ⟨h2,h⟩:=hM _ _ _ _ hx.2.1 hy.2.1 h;obtain ⟨h3,h⟩:=mr GX _ _ _ _ hx.2.2 hy.2.2 h;cases x;cases y;simp_all
theorem GR:PF iJ aV:=fun x y r s hx hy h=>by simp only [aV,LN] at h;obtain ⟨h1,h⟩:=mr hM _ _ _ _ hx.1 hy.1 h;obtain ⟨h2,h⟩:=mr (mr Bh) _ _ _ _ hx.2.1 hy.2.1 h;obtain ⟨h3,h⟩:=mr JJ _ _ _ _ hx.2.2.1 hy.2.2.1 h;obtain ⟨h4,h⟩:=mr Gx _ _ _ _ hx.2.2.2.1 hy.2.2.2.1 h;obtain ⟨h5,h⟩:=mr Bh _ _ _ _ hx.2.2.2.2 hy.2.2.2.2 h;cases x;cases y;simp_all
theorem Fh {x y:State} (hx:iJ x) (hy:iJ y):aV x=aV y ↔ x=y :=
 ⟨fun h=>(GR x y [] [] hx hy (by rw [h])).1,fun h=>by rw [h]⟩
theorem nQ (a:Nat) (ha:a<9223372036854775808):(BitVec.ofInt 64 (a:Int)).toNat=a:=by rw [BitVec.toNat_ofInt];omega
theorem Hk (a b:Nat) (ha:a<9223372036854775808) (hb:b<9223372036854775808):ibits .and .i64 (a:Int) (b:Int)=((a &&& b:Nat):Int):=by have hx:a &&& b<2 ^ 63:=Nat.lt_of_le_of_lt Nat.and_le_left (by omega);show IntKind.i64.wrap ((BitVec.ofInt 64 (a:Int) &&& BitVec.ofInt 64 (b:Int)).toNat:Int)=_;rw [BitVec.toNat_and,nQ a ha,nQ b hb,bA (by omega) (by omega)]
theorem Bb (a b:Nat) (ha:a<9223372036854775808) (hb:b<9223372036854775808):ibits .or .i64 (a:Int) (b:Int)=((a ||| b:Nat):Int):=by
 have hx:a ||| b<2 ^ 63:=Nat.or_lt_two_pow (by omega) (by omega)
 show IntKind.i64.wrap ((BitVec.ofInt 64 (a:Int) ||| BitVec.ofInt 64 (b:Int)).toNat:Int)=_;rw [BitVec.toNat_or,nQ a ha,nQ b hb,bA (by omega) (by omega)]
theorem uK (a b:Nat) (ha:a<9223372036854775808) (hb:b<9223372036854775808):ibits .xor .i64 (a:Int) (b:Int)=((a ^^^ b:Nat):Int):=by have hx:a ^^^ b<2 ^ 63:=Nat.xor_lt_two_pow (by omega) (by omega);show IntKind.i64.wrap ((BitVec.ofInt 64 (a:Int) ^^^ BitVec.ofInt 64 (b:Int)).toNat:Int)=_;rw [BitVec.toNat_xor,nQ a ha,nQ b hb,bA (by omega) (by omega)]
def crc1 (n:Nat):Nat:=if (n*2) &&& 65536≠0 then (n*2) ^^^ 69665 else n*2
def crcN:Nat->Nat->Nat
 | 0,n=>n
 | k+1,n=>crcN k (crc1 n)
def crcB (n:Nat) (b:UInt8):Nat:=crcN 8 (n ^^^ (b.toNat*256))
def crc (l:List UInt8):Nat:=l.foldl crcB 65535
theorem Ch (q r q' r':Nat) (hr:r<65536) (hr':r' < 65536):(65536*q+r) &&& (65536*q' + r')=65536*(q &&& q')+(r &&& r'):=by
 have hrr:r &&& r' < 2 ^ 16:=Nat.lt_of_le_of_lt Nat.and_le_left hr;apply Nat.eq_of_testBit_eq;intro i;have e:(65536:Nat)=2 ^ 16:=by decide
 rw [e] at hr hr' ⊢;rw [Nat.testBit_and,MX _ hr,MX _ hr',MX _ hrr];split<;>simp [Nat.testBit_and]
theorem JP (q r q' r':Nat) (hr:r<65536) (hr':r' < 65536):(65536*q+r) ^^^ (65536*q' + r')=65536*(q ^^^ q')+(r ^^^ r'):=by
 have hrr:r ^^^ r' < 2 ^ 16:=Nat.xor_lt_two_pow (n:=16) (by omega) (by omega);apply Nat.eq_of_testBit_eq;intro i;have e:(65536:Nat)=2 ^ 16:=by decide
 rw [e] at hr hr' ⊢;rw [Nat.testBit_xor,MX _ hr,MX _ hr',MX _ hrr];split<;>simp [Nat.testBit_xor]
theorem Av {a b:Nat} (ha:a<65536) (hb:b<65536):a ^^^ b<65536:=Nat.xor_lt_two_pow (n:=16) ha hb
theorem Ii {n:Nat} (h:n<32768):crc1 n=n*2:=by
 have e:(n*2) &&& 65536=0:=by have:=Ch 0 (n*2) 1 0 (by omega) (by omega);simpa using this
 unfold crc1;rw [e];rfl
theorem I3 {n:Nat} (h:32768<=n) (h':n<65536):crc1 n=(n*2 - 65536) ^^^ 4129:=by
 have e:n*2=65536*1+(n*2 - 65536):=by omega
 have e1:(n*2) &&& 65536=65536:=by have:=Ch 1 (n*2 - 65536) 1 0 (by omega) (by omega);rw [<- e] at this;simpa using this
 have e2:=JP 1 (n*2 - 65536) 1 4129 (by omega) (by omega);rw [<- e] at e2;unfold crc1;rw [e1,if_pos (by decide)];simpa using e2
theorem BR {n:Nat} (h:n<65536):crc1 n<65536:=by
 by_cases h':n<32768
 ·rw [Ii h'];omega
 ·rw [I3 (by omega) h];exact Av (by omega) (by decide)
theorem Iz {k n:Nat} (h:n<65536):crcN k n<65536:=by
 induction k generalizing n with
 | zero=>exact h
 | succ k ih=>exact ih (BR h)
theorem Bw {n:Nat} {b:UInt8} (h:n<65536):n ^^^ (b.toNat*256)<65536:=Av h (by have:=b.toNat_lt;omega)
theorem uZ {n:Nat} {b:UInt8} (h:n<65536):crcB n b<65536:=Iz (Bw h)
theorem If (l:List UInt8):∀ {n:Nat},n<65536->l.foldl crcB n<65536:=by
 induction l with
 | nil=>exact fun h=>h
 | cons b l ih=>exact fun h=>ih (uZ h)
theorem vE (l:List UInt8):crc l<65536:=If l (by decide)
theorem qD {n:Nat} (h:n<9223372036854775808):IntKind.i64.wrap (n:Int)=(n:Int):=bA (by omega) (by omega)
theorem ff (c:UInt8):IntKind.i64.wrap (c.toNat:Int)=(c.toNat:Int):=qD (by have:=c.toNat_lt;omega)
theorem tp (n:Nat):IntKind.u8.wrap (n:Int)=((n % 256:Nat):Int):=by simp [IntKind.wrap,IntKind.signed,IntKind.bits]
theorem str_1 (n:Nat):bV [IntKind.u8.wrap (n:Int)]=[UInt8.ofNat n]:=by unfold bV;rw [tp];simp only [Mn,NS,L7];congr 1;exact UInt8.toNat_inj.1 (by simp)
theorem str_2 (n m:Nat):bV [IntKind.u8.wrap (n:Int),IntKind.u8.wrap (m:Int)]=[UInt8.ofNat n,UInt8.ofNat m]:=by have h1:=str_1 n;have h2:=str_1 m;unfold bV at *;simp only [Mn,NS,Nl,and_true] at *;exact ⟨h1,h2⟩
theorem shl_n {x k:Nat} (hk:k<=64) (h:x*2 ^ k<9223372036854775808):shl .i64 (x:Int) (k:Int)=some ((x*2 ^ k:Nat):Int):=by
 unfold shl;rw [if_pos (by omega)];have e:min (k:Int).toNat IntKind.i64.bits=k:=by have:IntKind.i64.bits=64:=rfl;rw [this];simp;omega
 rw [e];congr 1;have:((x:Int)*2 ^ k)=((x*2 ^ k:Nat):Int):=by push_cast;rfl
 rw [this,qD h]
theorem shr8 {x:Nat} (h:x<9223372036854775808):shr .i64 (x:Int) 8=some ((x / 256:Nat):Int):=by unfold shr;rw [if_pos (by omega)];have e:min (8:Int).toNat IntKind.i64.bits=8:=rfl;rw [e];congr 1;rw [MO _ (by decide)];omega
theorem zf (s2:Int):∀ (n j x:Nat),j+n=8->x<65536->iter (fun ss:Int × Int=>j3 s2 ss.1 ss.2) ((x:Int),(j:Int))=some (.inl (((crcN n x:Nat):Int),IntKind.i64.wrap (s2+1)))
 | 0,j,x,hj,hx=>by
  have e:j3 s2 (x:Int) (j:Int)=some (.inr (.inl ((x:Int),IntKind.i64.wrap (s2+1)))):=by unfold j3;rw [if_neg (by simp;omega)];rfl
  rw [aH];simp only [e];rfl
 | n+1,j,x,hj,hx=>by
  have h1:shl .i64 (x:Int) 1=some ((x*2:Nat):Int):=by have:=shl_n (x:=x) (k:=1) (by omega) (by omega);simpa using this
  have ha:ibits .and .i64 ((x*2:Nat):Int) 65536=(((x*2) &&& 65536:Nat):Int):=Hk (x*2) 65536 (by omega) (by decide);have hb:ibits .xor .i64 ((x*2:Nat):Int) 69665=(((x*2) ^^^ 69665:Nat):Int):=uK (x*2) 69665 (by omega) (by decide);have e:j3 s2 (x:Int) (j:Int)=some (.inl (((crc1 x:Nat):Int),((j+1:Nat):Int))):=by
   unfold j3;rw [if_pos (by simp;omega),h1];simp only [LF];rw [ha,hb,bt (by omega)];unfold crc1;by_cases hc:(x*2) &&& 65536=0
   ·rw [if_neg (by simp [hc]),if_neg (by simp [hc])]
   ·rw [if_pos (by simpa using hc),if_pos (by simpa using hc)]
  rw [aH];simp only [e];exact zf s2 n (j+1) (crc1 x) (by omega) (BR hx)
theorem xB (b:List UInt8) (hb:b.length<=1099511627776):nZ b=some ((crc b:Nat):Int):=by
 unfold nZ;have:=nM (σ:=Fin 65536) b hb (fun k st=>((st.val:Int),(k:Int))) (body:=fun ss:Int × Int=>j7 b ss.1 ss.2)
  (fun k x st=>some (.inl ⟨crcB st.val x,uZ st.isLt⟩)) (fun st=>some (st.val:Int)) ⟨65535,by decide⟩
  (fun k x st _ hk h1 h2 h3=>by
   show j7 b (st.val:Int) (k:Int)=_;unfold j7;rw [h2,h1];simp only [if_true,LF,ff];have hx:=x.toNat_lt;have hst:=st.isLt;have h4:shl .i64 (x.toNat:Int) 8=some ((x.toNat*256:Nat):Int):=by have:=shl_n (x:=x.toNat) (k:=8) (by omega) (by omega);simpa using this
   rw [h4];simp only [LF];rw [uK _ _ (by omega) (by omega)];have:=zf (k:Int) 8 0 (st.val ^^^ x.toNat*256) (by omega) (Bw st.isLt);rw [h3] at this;exact this)
  (fun st h=>by show j7 b (st.val:Int) (b.length:Int)=_;unfold j7;rw [h];rfl)
 refine Eq.trans this ?_;have fold:∀ (ys:List UInt8) (k:Nat) (st:Fin 65536),dO (σ:=Fin 65536) (ρ:=Int) (fun k x st=>some (.inl ⟨crcB st.val x,uZ st.isLt⟩)) (fun st=>some (st.val:Int)) k ys st=some ((ys.foldl crcB st.val:Nat):Int):=by
  intro ys;induction ys with
  | nil=>intro k st;rfl
  | cons y ys ih=>intro k st;unfold dO;simp only;rw [ih];rfl
 rw [fold];rfl
def frm (b:List UInt8):List UInt8:=UInt8.ofNat b.length::b++[UInt8.ofNat (crc (UInt8.ofNat b.length::b) / 256),UInt8.ofNat (crc (UInt8.ofNat b.length::b))]
def putFr (b:List UInt8):List UInt8 × Int:=if b=[] then ([],4) else if 60<b.length then ([],2) else (frm b,0)
theorem rR (b:List UInt8):nP b=some (putFr b):=by
 unfold nP putFr;by_cases h1:b=[]
 ·rw [if_pos (by simp [h1]),if_pos h1]
 rw [if_neg (by simpa using h1),if_neg h1];by_cases h2:60<b.length
 ·rw [if_pos (by simp;omega),if_pos h2]
 rw [if_neg (by simp;omega),if_neg h2,str_1,mo (by simp;omega)];simp only [LF,M9];rw [xB _ (by simp;omega)];simp only [LF];have hc:=vE (UInt8.ofNat b.length::b);rw [shr8 (by omega)];simp only [LF];rw [str_2,mo (by simp;omega)];simp [frm]
def gE (r:List UInt8):Option (List UInt8) :=
 match r with
 | []=>none
 | h::t =>
  if h.toNat<1∨60<h.toNat∨t.length+1<h.toNat+3 then none
  else if (t.getD h.toNat 0).toNat*256+(t.getD (h.toNat+1) 0).toNat≠crc (h::t.take h.toNat) then none
  else some (t.take h.toNat)
def records:Nat->List UInt8->List (List UInt8) × Nat
 | 0,_=>([],0)
 | n+1,r =>
  match gE r with
  | none=>([],0)
  | some p=>(p::(records n (r.drop (p.length+3))).1,p.length+3+(records n (r.drop (p.length+3))).2)
def readR (b:List UInt8):List (List UInt8) × Int × Int :=
 if 12800<b.length then ([],0,2) else ((records b.length b).1,((records b.length b).2:Int),0)
theorem xl (b:List UInt8):nI b=some (readR b):=by
 unfold nI readR;by_cases h0:12800<b.length
 ·rw [if_pos (by simp;omega),if_pos h0]
 rw [if_neg (by simp;omega),if_neg h0];have key:∀ (n u:Nat) (acc:List (List UInt8)),u<=b.length->acc.length<=u->b.length<=u+n ->
   iter (fun ss:Int × List (List UInt8)=>fR b ss.1 ss.2) ((u:Int),acc)=some (acc++(records n (b.drop u)).1,((u+(records n (b.drop u)).2:Nat):Int),0):=by
  intro n
  induction n with
  | zero =>
   intro u acc hu ha hn
   have e:fR b (u:Int) acc=some (.inr (acc,(u:Int),0)):=by unfold fR;rw [if_neg (by simp;omega)];rfl
   rw [aH];simp only [e];simp [records]
  | succ n ih =>
   intro u acc hu ha hn
   have stop:gE (b.drop u)=none->fR b (u:Int) acc=some (.inr (acc,(u:Int),0))->iter (fun ss:Int × List (List UInt8)=>fR b ss.1 ss.2) ((u:Int),acc)=some (acc++(records (n+1) (b.drop u)).1,((u+(records (n+1) (b.drop u)).2:Nat):Int),0):=by intro h1 h2;rw [aH];simp only [h2];simp [records,h1]
   by_cases hlt:u<b.length
   ·have hr:b.drop u=b[u]::b.drop (u+1):=LU hlt
    generalize hc:b[u]=c at hr
    generalize ht:b.drop (u+1)=t at hr
    have hlen:t.length+1+u=b.length:=by rw [<- ht];simp;omega
    have hcl:=c.toNat_lt
    have w1:IntKind.i64.wrap ((c.toNat:Int)+1)=((c.toNat+1:Nat):Int):=by rw [bA (by omega) (by omega)];rfl
    have w2:IntKind.i64.wrap ((c.toNat:Int)+2)=((c.toNat+2:Nat):Int):=by rw [bA (by omega) (by omega)];rfl
    have w3:IntKind.i64.wrap ((c.toNat:Int)+3)=((c.toNat+3:Nat):Int):=by rw [bA (by omega) (by omega)];rfl
    have e1:sub b (u:Int) (b.length:Int)=some (c::t):=by rw [jv hu,hr]
    have e2:idx (c::t) 0=some c:=by simp [idx]
    rw [hr] at stop ⊢
    by_cases hbad:c.toNat<1∨60<c.toNat∨t.length+1<c.toNat+3
    ·refine stop (by simp only [gE];rw [if_pos hbad]) ?_
     unfold fR
     rw [if_pos (by simp;omega),e1]
     simp only [LF]
     rw [e2]
     simp only [LF,ff,w1,w2,w3]
     rw [if_pos (by simp;omega)];rfl
    have e3:sub (c::t) 0 ((c.toNat+1:Nat):Int)=some (c::t.take c.toNat):=by rw [sub_0 (by simp;omega)];simp
    have e4:sub (c::t) 1 ((c.toNat+1:Nat):Int)=some (t.take c.toNat):=by have:=oq (xs:=c::t) (i:=1) (j:=c.toNat+1) (by omega) (by simp;omega);simpa using this
    have hs:=xB (c::t.take c.toNat) (by simp;omega)
    have hcs:=vE (c::t.take c.toNat)
    have hx:∃ x,t[c.toNat]?=some x:=⟨_,LG (by omega)⟩
    have hy:∃ y,t[c.toNat+1]?=some y:=⟨_,LG (by omega)⟩
    obtain ⟨x,hx⟩:=hx
    obtain ⟨y,hy⟩:=hy
    have ix:idx (c::t) ((c.toNat+1:Nat):Int)=some x:=bv (by simpa using hx)
    have iy:idx (c::t) ((c.toNat+2:Nat):Int)=some y:=bv (by simpa using hy)
    have hxl:=x.toNat_lt
    have hyl:=y.toNat_lt
    have h8:shl .i64 (x.toNat:Int) 8=some ((x.toNat*256:Nat):Int):=by have:=shl_n (x:=x.toNat) (k:=8) (by omega) (by omega);simpa using this
    have hor:x.toNat*256 ||| y.toNat=x.toNat*256+y.toNat:=by have:=Nat.two_pow_add_eq_or_of_lt (i:=8) (b:=y.toNat) hyl x.toNat;rw [M1 x.toNat 256,show (256:Nat)=2 ^ 8 by decide,<- this]
    have hx':t.getD c.toNat 0=x:=by rw [LL,hx];rfl
    have hy':t.getD (c.toNat+1) 0=y:=by rw [LL,hy];rfl
    by_cases hsum:x.toNat*256+y.toNat=crc (c::t.take c.toNat)
    ·have hsome:gE (c::t)=some (t.take c.toNat):=by simp only [gE,hx',hy'];rw [if_neg hbad,if_neg (by omega)]
     have hp:(t.take c.toNat).length=c.toNat:=by simp;omega
     have e:fR b (u:Int) acc=some (.inl (((u+(c.toNat+3):Nat):Int),acc++[t.take c.toNat])):=by unfold fR;rw [if_pos (by simp;omega),e1];simp only [LF];rw [e2];simp only [LF,ff,w1,w2,w3];rw [if_neg (by simp;omega),e3];simp only [LF];rw [hs];simp only [LF];rw [ix];simp only [LF,ff];rw [h8];simp only [LF];rw [iy];simp only [LF,ff];rw [Bb _ _ (by omega) (by omega),hor,if_neg (by simp [hsum]),e4];simp only [LF];rw [cJ (by simp;omega)];simp only [LF];rw [show (u:Int)+((c.toNat+3:Nat):Int)=((u+(c.toNat+3):Nat):Int) by omega,qD (by omega)]
     rw [aH];simp only [e]
     have hdrop:(c::t).drop (c.toNat+3)=b.drop (u+(c.toNat+3)):=by rw [<- hr,Nr]
     rw [ih (u+(c.toNat+3)) (acc++[t.take c.toNat]) (by omega) (by simp;omega) (by omega)]
     have hstep:records (n+1) (c::t)=(t.take c.toNat::(records n (b.drop (u+(c.toNat+3)))).1,c.toNat+3+(records n (b.drop (u+(c.toNat+3)))).2):=by simp only [records,hsome,hp,hdrop]
     rw [hstep]
     simp;omega
    ·refine stop (by simp only [gE,hx',hy'];rw [if_neg hbad,if_pos hsum]) ?_
     unfold fR
     rw [if_pos (by simp;omega),e1]
     simp only [LF]
     rw [e2]
     simp only [LF,ff,w1,w2,w3]
     rw [if_neg (by simp;omega),e3]
     simp only [LF]
     rw [hs]
     simp only [LF]
     rw [ix]
     simp only [LF,ff]
     rw [h8]
     simp only [LF]
     rw [iy]
     simp only [LF,ff]
     rw [Bb _ _ (by omega) (by omega),hor,if_pos (by simp;omega)];rfl
   ·have hnil:b.drop u=[]:=Mi (by omega)
    refine stop (by rw [hnil];rfl) ?_
    unfold fR
    rw [if_neg (by simp;omega)];rfl
 have:=key b.length 0 [] (by omega) (by simp) (by omega);simpa using this
def bZ (l:List UInt8):List Int:=l.map fun b=>(b.toNat:Int)
theorem Jt (l:List UInt8):bV (bZ l)=l:=by
 unfold bV bZ;rw [Nc];have:(fun n:Int=>UInt8.ofNat n.toNat) ∘ (fun b:UInt8=>(b.toNat:Int))=id:=by funext b;simp
 rw [this,List.map_id]
theorem J3 (l:List UInt8) (h:l≠[]):pI (bZ l)=some l:=by
 unfold pI bldS;rw [if_pos ⟨by cases l<;>simp_all [bZ],fun x hx=>by obtain ⟨b,_,rfl⟩:=L9.1 hx;have:=b.toNat_lt;omega⟩,Jt]
theorem J1 (l m:List UInt8):bZ (l++m)=bZ l++bZ m:=by simp [bZ]
theorem Ke (l:List UInt8):(bZ l).length=l.length:=by simp [bZ]
theorem yq (acc:List UInt8) (n:Nat) (h:acc.length+1<=1099511627776) (hn:n<256):mV (n:Int) (bZ acc)=some ((),bZ (acc++[UInt8.ofNat n])):=by
 unfold mV t6;rw [LF,cJ (by rw [Ke];exact h),LF];have:bZ [UInt8.ofNat n]=[(n:Int)]:=by simp [bZ,M6 hn]
 rw [J1,this]
theorem Jd:∀ x:Fin 256,ibits .or .u8 (x.val:Int) 128=((x.val % 128+128:Nat):Int):=by decide +kernel
theorem shr7 (u:Nat):shr .u64 (u:Int) 7=some ((u / 128:Nat):Int):=by unfold shr;rw [if_pos (by omega)];show some ((u:Int).fdiv 128)=_;rw [MO _ (by omega)];rfl
theorem Jh:∀ (f u:Nat) (acc:List UInt8),u<128 ^ (f+1)->acc.length+f+1<=1099511627776 ->
  iter (fun cw:Int × (List Int)=>jK cw.1 cw.2) ((u:Int),bZ acc)=some (bZ (acc++vb f u)):=by
 have stop:∀ (u:Nat) (acc:List UInt8),u<128->acc.length+1<=1099511627776->jK (u:Int) (bZ acc)=some (.inr (bZ (acc++[UInt8.ofNat u]))):=fun u acc hu ha=>by unfold jK;rw [if_neg (by simp;omega),tp,M6 (by omega),yq acc u ha (by omega)];rfl
 intro f
 induction f with
 | zero =>
  intro u acc hu ha
  rw [aH,stop u acc (by omega) (by omega)]
  rfl
 | succ f ih =>
  intro u acc hu ha
  by_cases h:u<128
  ·rw [aH,stop u acc h (by omega)]
   simp only [vb,if_pos h]
  ·have hb:ibits .or .u8 (IntKind.u8.wrap (u:Int)) 128=((u % 128+128:Nat):Int):=by
    rw [tp,Jd ⟨u % 256,by omega⟩];simp only;omega
   have hq:u / 128<128 ^ (f+1):=by rw [NZ] at hu;exact Nd (by rw [M1];exact hu)
   have h1:jK (u:Int) (bZ acc)=some (.inl (((u / 128:Nat):Int),bZ (acc++[UInt8.ofNat (u % 128+128)]))):=by unfold jK;rw [if_pos (by simp;omega),hb,yq acc _ (by omega) (by omega),LF,shr7];rfl
   rw [aH,h1]
   simp only
   rw [ih _ _ hq (by simp;omega)]
   simp only [vb,if_neg h,LN,Nt,My]
theorem l5 (n:Int):IntKind.u64.wrap n=n % 18446744073709551616:=by simp [IntKind.wrap,IntKind.signed,IntKind.bits]
theorem Iv (n:Int) (h:gI n):∃ a b,shl .u64 (IntKind.u64.wrap n) 1=some a/\shr .i64 n 63=some b/\ibits .xor .u64 a (IntKind.u64.wrap b)=(zz n:Int):=by
 unfold gI at h;refine ⟨(n % 18446744073709551616*2) % 18446744073709551616,n.fdiv 9223372036854775808,by unfold shl;rw [if_pos (by omega),l5,l5];rfl,by unfold shr;rw [if_pos (by omega)];rfl,?_⟩;have key:∀ (x:Nat) (hx:x<18446744073709551616) (y:Int),ibits .xor .u64 (x:Int) y=((BitVec.ofNat 64 x ^^^ BitVec.ofInt 64 y).toNat:Int):=fun x hx y=>by unfold ibits;simp only [IntKind.bits];rw [l5,BitVec.ofInt_natCast];have:(BitVec.ofNat 64 x ^^^ BitVec.ofInt 64 y).toNat<18446744073709551616:=(BitVec.ofNat 64 x ^^^ BitVec.ofInt 64 y).isLt;exact Int.emod_eq_of_lt (by omega) (Int.ofNat_lt.2 this)
 by_cases h0:0<=n
 ·have e1:n.fdiv 9223372036854775808=0:=by rw [MO _ (by omega)];omega
  have e2:(n % 18446744073709551616*2) % 18446744073709551616=((2*n.toNat:Nat):Int):=by omega
  rw [e1,e2,l5,key _ (by omega)];have:BitVec.ofInt 64 (0 % 18446744073709551616)=0#64:=by decide
  rw [this,BitVec.xor_zero,BitVec.toNat_ofNat,M6 (by omega)];unfold zz;rw [if_pos h0];omega
 ·have e1:n.fdiv 9223372036854775808 = -1:=by rw [MO _ (by omega)];omega
  have e2:(n % 18446744073709551616*2) % 18446744073709551616=((2*(n+9223372036854775808).toNat:Nat):Int):=by omega
  rw [e1,e2,l5,key _ (by omega)];have:BitVec.ofInt 64 (-1 % 18446744073709551616)=BitVec.allOnes 64:=by decide
  rw [this,BitVec.xor_allOnes,BitVec.toNat_not,BitVec.toNat_ofNat,M6 (by omega)];unfold zz;rw [if_neg h0];omega
theorem eR (n:Int) (h:gI n) (acc:List UInt8) (ha:acc.length+(num n).length<=1099511627776 - 20):di n (bZ acc)=some (bZ (acc++num n)):=by obtain ⟨a,b,h1,h2,h3⟩:=Iv n h;unfold di;rw [h1,LF,h2,LF,h3];exact Jh 9 _ acc (MP (zz_lt h) (by decide)) (by omega)
theorem zy {α ρ:Type} (xs:List α) (hx:xs.length<=1099511627776) (e:α->List UInt8) {body:Int × List Int->Option ((Int × List Int) ⊕ ρ)} (fin:List UInt8->Option ρ) (B:Nat)
  (h1:∀ (k:Nat) x acc,xs[k]?=some x->acc.length+(e x).length<=B->idx xs (k:Int)=some x->decide ((k:Int)<(xs.length:Int))=true->IntKind.i64.wrap ((k:Int)+1)=((k+1:Nat):Int)->body ((k:Int),bZ acc)=some (.inl (((k+1:Nat):Int),bZ (acc++e x))))
  (h2:∀ acc,acc≠[]->acc.length<=B->decide ((xs.length:Int)<(xs.length:Int))=false->body ((xs.length:Int),bZ acc)=(fin acc).map .inr) :
  ∀ (n k:Nat) acc,acc≠[]->k+n=xs.length->acc.length+((xs.drop k).flatMap e).length<=B->iter body ((k:Int),bZ acc)=fin (acc++(xs.drop k).flatMap e)
 | 0,k,acc,hne,h,hB=>by
  have hk:k=xs.length:=by omega
  subst hk;rw [aH,h2 acc hne (by omega) (by simp),MJ];simp only [List.flatMap_nil,L3];cases fin acc<;>rfl
 | n+1,k,acc,hne,h,hB=>by
  have hlt:k<xs.length:=by omega
  have hg:xs[k]?=some xs[k]:=LG hlt;rw [LU hlt,ML,LI] at hB;rw [aH,h1 k xs[k] acc hg (by omega) (bv hg) (by simp;omega) (bt (by omega)),LU hlt,ML,<- LN];exact zy xs hx e fin B h1 h2 n (k+1) _ (by simp [hne]) (by omega) (by rw [LI];omega)
theorem nO {α ρ:Type} (xs:List α) (hx:xs.length<=1099511627776) (e:α->List UInt8) {body:Int × List Int->Option ((Int × List Int) ⊕ ρ)} (fin:List UInt8->Option ρ) (B:Nat) (acc:List UInt8)
  (h1:∀ (k:Nat) x acc,xs[k]?=some x->acc.length+(e x).length<=B->idx xs (k:Int)=some x->decide ((k:Int)<(xs.length:Int))=true->IntKind.i64.wrap ((k:Int)+1)=((k+1:Nat):Int)->body ((k:Int),bZ acc)=some (.inl (((k+1:Nat):Int),bZ (acc++e x))))
  (h2:∀ acc,acc≠[]->acc.length<=B->decide ((xs.length:Int)<(xs.length:Int))=false->body ((xs.length:Int),bZ acc)=(fin acc).map .inr)
  (hne:acc≠[]) (hB:acc.length+(xs.flatMap e).length<=B):iter body (0,bZ acc)=fin (acc++xs.flatMap e):=by
 have:=zy xs hx e fin B h1 h2 xs.length 0 acc hne (by omega) (by simpa using hB)
 simpa using this
abbrev BB:Nat:=1099511627776 - 20
theorem me {α:Type} {l:List α} (h:l.length<=1099511627776):gI (l.length:Int):=by unfold gI;omega
theorem ov (a:List UInt8) (x:Int):a++num x≠[]:=fun h=>by have:=(eo x).2;have:=congrArg List.length h;rw [LI,Nx] at this;omega
theorem Ao (l:List Item) (hl:short dk l) (acc:List UInt8) (ha:acc.length+(lst bw l).length<=BB):lf l (bZ acc)=some (bZ (acc++lst bw l)):=by
 unfold lst at ha ⊢;rw [LI] at ha;unfold lf;rw [eR _ (me hl.1) acc (by unfold BB at ha;omega),LF,<- LN];exact nO l hl.1 bw (fun a=>some (bZ a)) BB (acc++num (l.length:Int)) (fun k x acc hx hc hi hd hw=>by
  have hg:=hl.2 x (LJ hx);unfold bw BB at hc;simp only [LI] at hc;unfold o7;rw [if_pos hd,hi,LF,eR _ hg.1 acc (by omega),LF,eR _ hg.2.1 _ (by simp only [LI];omega),LF,eR _ hg.2.2 _ (by simp only [LI];omega),LF,hw];simp [bw]) (fun acc _ _ hd=>by
  unfold o7;(rw [hd,if_neg (by simp)])<;>rfl) (ov _ _) (by rw [LI];omega)
theorem Ff (n:Net) (items:List (List Item)) (s:State) (hs:iJ s) (hB:(aV s).length<=BB) :
  (Option.bind (di ((s.At).length:Int) ([]:List Int)) fun x4=>(iter (fun dT:Int × (List Int)=>nm s dT.1 dT.2) (0,x4)))=some (aV s,0):=by
 obtain ⟨h1,h2,h3,h4,h5⟩:=hs
 have hn0:=eR _ (me h1.1) [] (by unfold aV lst at hB;simp only [LI] at hB;unfold BB at hB;simp only [Nx];omega)
 rw [show bZ []=([]:List Int) from rfl] at hn0
 rw [hn0,LF,My]
 generalize hb1:num (s.At.length:Int)=b1
 have e5:∀ a:List UInt8,a.length+(lst bw s.Out).length<=BB->a≠[]->(Option.bind (lf s.Out (bZ a)) fun x46=>(Option.bind (pI x46) fun x48=>(some (x48,(0:Int)))))=some (a++lst bw s.Out,0):=fun a ha hne=>by rw [Ao _ h5 a ha,LF,J3 _ (by simp [hne]),LF]
 have e4:∀ a:List UInt8,a.length+(lst co s.Choices).length+(lst bw s.Out).length<=BB->(Option.bind (di ((s.Choices).length:Int) (bZ a)) fun x37=>(iter (fun ig:Int × (List Int)=>nr s ig.1 ig.2) (0,x37)))=some (a++(lst co s.Choices++lst bw s.Out),0):=fun a ha=>by
  rw [show lst co s.Choices=num (s.Choices.length:Int)++s.Choices.flatMap co from rfl,LI] at ha;rw [eR _ (me h4.1) a (by unfold BB at ha;omega),LF];rw [nO s.Choices h4.1 co (fun b=>some (b++lst bw s.Out,(0:Int))) (BB - (lst bw s.Out).length) (a++num (s.Choices.length:Int)) (fun k x acc hx hc hi hd hw=>by
   have hg:=h4.2 x (LJ hx);unfold co BB at hc;simp only [LI] at hc;unfold nr;rw [if_pos hd,hi,LF,eR _ hg.1 acc (by omega),LF,eR _ hg.2 _ (by simp only [LI];omega),LF,hw];simp [co]) (fun acc hne hac hd=>by
   unfold nr;rw [hd,if_neg (by simp),e5 acc (by omega) hne]) (ov _ _) (by rw [LI];omega)]
  simp [lst]
 have e3:∀ a:List UInt8,a.length+(lst dg s.Memory).length+((lst co s.Choices).length+(lst bw s.Out).length)<=BB->(Option.bind (di ((s.Memory).length:Int) (bZ a)) fun x18=>(iter (fun dQ:Int × (List Int)=>nq s dQ.1 dQ.2) (0,x18)))=some (a++(lst dg s.Memory++(lst co s.Choices++lst bw s.Out)),0):=fun a ha=>by
  rw [show lst dg s.Memory=num (s.Memory.length:Int)++s.Memory.flatMap dg from rfl,LI] at ha;rw [eR _ (me h3.1) a (by unfold BB at ha;omega),LF];rw [nO s.Memory h3.1 dg (fun b=>some (b++(lst co s.Choices++lst bw s.Out),(0:Int))) (BB - ((lst co s.Choices).length+(lst bw s.Out).length)) (a++num (s.Memory.length:Int)) (fun k x acc hx hc hi hd hw=>by
   obtain ⟨g1,g2,g3⟩:=h3.2 x (LJ hx);unfold dg lst BB at hc;simp only [LI] at hc;unfold nq;rw [if_pos hd,hi,LF,eR _ g1 acc (by omega),LF,eR _ g2 _ (by simp only [LI];omega),LF,eR _ (me g3.1) _ (by simp only [LI];omega),LF];rw [nO x.Keys g3.1 fJ (fun b=>some (.inl (((k+1:Nat):Int),bZ b))) BB _ (fun k2 y acc hy hc hi hd hw=>by
    have hg:=g3.2 y (LJ hy);unfold fJ BB at hc;simp only [LI] at hc;unfold pz;rw [if_pos hd,hi,LF,eR _ hg.1 acc (by omega),LF,eR _ hg.2 _ (by simp only [LI];omega),LF,hw];simp [fJ]) (fun acc _ _ hd=>by
    unfold pz;(rw [hd,if_neg (by simp),hw])<;>rfl) (ov _ _) (by unfold BB;simp only [LI];omega)]
   simp [dg,lst]) (fun acc hne hac hd=>by
   unfold nq;rw [hd,if_neg (by simp),e4 acc (by omega)]) (ov _ _) (by rw [LI];omega)]
  simp [lst]
 have e2:∀ a:List UInt8,a.length+(lst (lst bw) s.Rings).length+((lst dg s.Memory).length+((lst co s.Choices).length+(lst bw s.Out).length))<=BB->(Option.bind (di ((s.Rings).length:Int) (bZ a)) fun x11=>(iter (fun fZ:Int × (List Int)=>nw s fZ.1 fZ.2) (0,x11)))=some (a++(lst (lst bw) s.Rings++(lst dg s.Memory++(lst co s.Choices++lst bw s.Out))),0):=fun a ha=>by
  rw [show lst (lst bw) s.Rings=num (s.Rings.length:Int)++s.Rings.flatMap (lst bw) from rfl,LI] at ha;rw [eR _ (me h2.1) a (by unfold BB at ha;omega),LF];rw [nO s.Rings h2.1 (lst bw) (fun b=>some (b++(lst dg s.Memory++(lst co s.Choices++lst bw s.Out)),(0:Int))) (BB - ((lst dg s.Memory).length+((lst co s.Choices).length+(lst bw s.Out).length))) (a++num (s.Rings.length:Int)) (fun k x acc hx hc hi hd hw=>by
   have hg:=h2.2 x (LJ hx);unfold nw;rw [if_pos hd,hi,LF,Ao _ hg acc (by unfold BB at hc ⊢;omega),LF,hw]) (fun acc hne hac hd=>by
   unfold nw;rw [hd,if_neg (by simp),e3 acc (by omega)]) (ov _ _) (by rw [LI];omega)]
  simp [lst]
 unfold aV at hB
 rw [show lst num s.At=num (s.At.length:Int)++s.At.flatMap num from rfl,hb1] at hB
 simp only [LI] at hB
 rw [nO s.At h1.1 num (fun b=>some (b++(lst (lst bw) s.Rings++(lst dg s.Memory++(lst co s.Choices++lst bw s.Out))),(0:Int))) (BB - ((lst (lst bw) s.Rings).length+((lst dg s.Memory).length+((lst co s.Choices).length+(lst bw s.Out).length)))) b1 (fun k x acc hx hc hi hd hw=>by
  have hg:=h1.2 x (LJ hx);unfold BB at hc;unfold nm;rw [if_pos hd,hi,LF,eR _ hg acc (by omega),LF,hw]) (fun acc hne hac hd=>by
  unfold nm;rw [hd,if_neg (by simp),e2 acc (by omega)]) (by rw [<- hb1];exact ov [] _) (by omega)]
 rw [<- hb1]
 simp [aV,lst]
theorem zA (n:Net) (items:List (List Item)) (s:State) (hs:iJ s) (hB:(aV s).length<=BB) :
  jg n items s=Option.bind (gR n items s) fun x2=>(if (x2 != 0)=true then (some ([],x2)) else some (aV s,0)):=by
 unfold jg
 rw [Ff n items s hs hB]
noncomputable section
theorem z6:∀ x:Fin 256,ibits .and .u8 (x.val:Int) 127=((x.val % 128:Nat):Int):=by decide +kernel
theorem qb (a:Nat) (ha:a<18446744073709551616):(BitVec.ofInt 64 (a:Int)).toNat=a:=by rw [BitVec.toNat_ofInt];omega
theorem u64_in (a:Nat) (ha:a<18446744073709551616):IntKind.u64.wrap (a:Int)=(a:Int):=by rw [l5];omega
theorem sr (a b:Nat) (ha:a<18446744073709551616) (hb:b<18446744073709551616):ibits .or .u64 (a:Int) (b:Int)=((a ||| b:Nat):Int):=by
 have hx:a ||| b<2 ^ 64:=Nat.or_lt_two_pow (by omega) (by omega)
 show IntKind.u64.wrap ((BitVec.ofInt 64 (a:Int) ||| BitVec.ofInt 64 (b:Int)).toNat:Int)=_;rw [BitVec.toNat_or,qb a ha,qb b hb,u64_in _ (by omega)]
theorem Fo (a:Nat) (ha:a<18446744073709551616):ibits .and .u64 (a:Int) 1=((a % 2:Nat):Int):=by have hx:a &&& 1<2 ^ 64:=Nat.lt_of_le_of_lt Nat.and_le_left (by omega);show IntKind.u64.wrap ((BitVec.ofInt 64 (a:Int) &&& BitVec.ofInt 64 ((1:Nat):Int)).toNat:Int)=_;rw [BitVec.toNat_and,qb a ha,qb 1 (by omega),u64_in _ (by omega),Nat.and_one_is_mod]
theorem Cb (i s c:Nat) (h:s<2 ^ i):s ||| c*2 ^ i=s+c*2 ^ i:=by rw [Nat.or_comm,M1,<- Nat.two_pow_add_eq_or_of_lt h,NB]
def decZ (v:Int):Option Int:=Option.bind (shr .u64 v 1) fun x=>some (ibits .xor .i64 (IntKind.i64.wrap x) (IntKind.i64.wrap (0 - (IntKind.i64.wrap (ibits .and .u64 v 1)))))
theorem J8 (c:Nat) (h:9223372036854775808<=c) (h2:c<18446744073709551616):IntKind.i64.wrap (c:Int)=(c:Int) - 18446744073709551616:=by simp [IntKind.wrap,IntKind.signed,IntKind.bits];omega
theorem I8 (n:Int) (h:gI n):decZ (zz n:Int)=some n:=by
 have hz:=zz_lt h;unfold decZ;have h1:shr .u64 (zz n:Int) 1=some ((zz n / 2:Nat):Int):=by unfold shr;rw [if_pos (by omega)];show some ((zz n:Int).fdiv 2)=_;rw [MO _ (by omega)];rfl
 rw [h1,LF,Fo _ hz,qD (by omega),qD (by omega)];unfold gI at h;by_cases h0:0<=n
 ·have e:zz n=2*n.toNat:=by unfold zz;rw [if_pos h0];omega
  rw [e,show 2*n.toNat / 2=n.toNat by omega,show 2*n.toNat % 2=0 by omega];rw [show IntKind.i64.wrap (0 - ((0:Nat):Int))=((0:Nat):Int) by decide,uK _ _ (by omega) (by omega),Nat.xor_zero];congr 1;omega
 ·have e:zz n=2*(-n - 1).toNat+1:=by unfold zz;rw [if_neg h0];omega
  rw [e,show (2*(-n - 1).toNat+1) / 2=(-n - 1).toNat by omega,show (2*(-n - 1).toNat+1) % 2=1 by omega];rw [show IntKind.i64.wrap (0 - ((1:Nat):Int)) = -1 by decide];congr 1;show IntKind.i64.wrap ((BitVec.ofInt 64 (((-n - 1).toNat:Nat):Int) ^^^ BitVec.ofInt 64 (-1)).toNat:Int)=n;rw [show BitVec.ofInt 64 (-1)=BitVec.allOnes 64 by decide,BitVec.xor_allOnes,BitVec.toNat_not,qb _ (by omega)];rw [J8 _ (by omega) (by omega)];omega
theorem Ca (pre:List UInt8) (b:UInt8) (t:List UInt8):idx (pre++b::t) (pre.length:Int)=some b:=bv (by simp)
theorem GO:∀ (f u i s1:Nat) (pre r:List UInt8),pre.length=i->i+f=9->u<128 ^ (f+1)->s1<2 ^ (7*i)->s1+u*2 ^ (7*i)<18446744073709551616 ->
    iter (fun ak:Int × Int=>ee (pre++(vb f u++r)) ak.1 ak.2) ((s1:Int),(i:Int))=Option.bind (decZ ((s1+u*2 ^ (7*i):Nat):Int)) fun n=>some (.inl (n,r)):=by
  have hd:∀ (i:Nat) (pre t:List UInt8) (b:UInt8),pre.length=i->i<10->decide ((i:Int)<(if ((pre++b::t).length:Int)<10 then ((pre++b::t).length:Int) else 10))=true:=fun i pre t b hp hi=>by
    have hl:(pre++b::t).length=i+1+t.length:=by simp;omega
    rw [decide_eq_true_eq,hl]
    split<;>omega
  have hp2:∀ i:Nat,0<2 ^ (7*i):=fun i=>Nat.pow_pos (by omega)
  have hx6:∀ (i c s1 u:Nat),i<=9->c<128->c<=u->s1+u*2 ^ (7*i)<18446744073709551616->shl .u64 (IntKind.u64.wrap (c:Int)) (IntKind.i64.wrap (7*(i:Int)))=some ((c*2 ^ (7*i):Nat):Int):=fun i c s1 u hi hc hu h=>by
    have hle:c*2 ^ (7*i)<=u*2 ^ (7*i):=L4 _ hu
    rw [u64_in _ (by omega),bA (by omega) (by omega)]
    unfold shl
    rw [if_pos (by omega)]
    have e1:min (7*(i:Int)).toNat IntKind.u64.bits=7*i:=by show min (7*(i:Int)).toNat 64=7*i;omega
    rw [e1]
    have e2:(c:Int)*2 ^ (7*i)=((c*2 ^ (7*i):Nat):Int):=by push_cast;rfl
    rw [e2,u64_in _ (by omega)]
  have stop:∀ (u i s1:Nat) (pre r:List UInt8),pre.length=i->i<=9->u<128->s1<2 ^ (7*i)->s1+u*2 ^ (7*i)<18446744073709551616 ->
      ee (pre++(UInt8.ofNat u::r)) (s1:Int) (i:Int)=Option.map Sum.inr (Option.bind (decZ ((s1+u*2 ^ (7*i):Nat):Int)) fun n=>some (.inl (n,r))):=fun u i s1 pre r hp hi hu hs hv=>by
    subst hp
    have hb:(UInt8.ofNat u).toNat=u:=by simp;omega
    unfold ee
    rw [if_pos (hd _ pre r _ rfl (by omega)),Ca,LF,hb,z6 ⟨u,by omega⟩]
    simp only
    rw [M6 hu,hx6 _ u s1 u hi hu (LM _) hv,LF,LF,hb,if_pos (by simp;omega),bt (by omega)]
    have hsub:sub (pre++(UInt8.ofNat u::r)) ((pre.length+1:Nat):Int) ((pre++(UInt8.ofNat u::r)).length:Int)=some r:=by
      rw [jv (by simp)]
      congr 1
      rw [show pre++UInt8.ofNat u::r=(pre++[UInt8.ofNat u])++r by simp]
      exact List.drop_left' (by simp)
    have hle:s1<18446744073709551616:=by omega
    rw [hsub,LF,sr _ _ hle (by omega),Cb _ _ _ hs]
    unfold decZ
    cases shr .u64 ((s1+u*2 ^ (7*pre.length):Nat):Int) 1<;>rfl
  intro f
  induction f with
  | zero =>
    intro u i s1 pre r hp hi hu hs hv
    have e:pre++(vb 0 u++r)=pre++(UInt8.ofNat u::r):=rfl
    rw [e,aH]
    simp only [stop u i s1 pre r hp (by omega) (by omega) hs hv]
    cases (Option.bind (decZ ((s1+u*2 ^ (7*i):Nat):Int)) fun n=>(some (.inl (n,r)):Option ((Int × List UInt8) ⊕ Unit)))<;>rfl
  | succ f ih =>
    intro u i s1 pre r hp hi hu hs hv
    by_cases h:u<128
    · have e:pre++(vb (f+1) u++r)=pre++(UInt8.ofNat u::r):=by simp [vb,h]
      rw [e,aH]
      simp only [stop u i s1 pre r hp (by omega) h hs hv]
      cases (Option.bind (decZ ((s1+u*2 ^ (7*i):Nat):Int)) fun n=>(some (.inl (n,r)):Option ((Int × List UInt8) ⊕ Unit)))<;>rfl
    · have e:pre++(vb (f+1) u++r)=pre++(UInt8.ofNat (u % 128+128)::(vb f (u / 128)++r)):=by simp [vb,h]
      have hq:u / 128<128 ^ (f+1):=by
        rw [NZ] at hu
        exact Nd (by rw [M1];exact hu)
      have hb:(UInt8.ofNat (u % 128+128)).toNat=u % 128+128:=by simp;omega
      have hpow:2 ^ (7*(i+1))=128*2 ^ (7*i):=by rw [show 7*(i+1)=7+7*i by omega,Nat.pow_add]
      have hsum:s1+u % 128*2 ^ (7*i)+u / 128*2 ^ (7*(i+1))=s1+u*2 ^ (7*i):=by
        rw [hpow]
        have:u=u % 128+128*(u / 128):=by omega
        calc s1+u % 128*2 ^ (7*i)+u / 128*(128*2 ^ (7*i))=s1+(u % 128+128*(u / 128))*2 ^ (7*i):=by
              rw [Ma,Np]
              congr 2
              rw [<- Nat.mul_assoc,M1 (u / 128) 128]
          _=s1+u*2 ^ (7*i):=by rw [<- this]
      have hlt:s1+u % 128*2 ^ (7*i)<2 ^ (7*(i+1)):=by
        rw [hpow]
        have:u % 128*2 ^ (7*i)<=127*2 ^ (7*i):=L4 _ (by omega)
        omega
      have hc:u % 128*2 ^ (7*i)<=u*2 ^ (7*i):=L4 _ (Nat.mod_le _ _)
      have h1:ee (pre++(UInt8.ofNat (u % 128+128)::(vb f (u / 128)++r))) (s1:Int) (i:Int)=some (.inl (((s1+u % 128*2 ^ (7*i):Nat):Int),((i+1:Nat):Int))):=by
        subst hp
        unfold ee
        rw [if_pos (hd _ pre _ _ rfl (by omega)),Ca,LF,hb,z6 ⟨u % 128+128,by omega⟩]
        simp only
        rw [show (u % 128+128) % 128=u % 128 by omega,hx6 _ (u % 128) s1 u (by omega) (by omega) (Nat.mod_le _ _) hv,LF,LF,hb,if_neg (by simp;omega),bt (by omega),sr _ _ (by omega) (by omega),Cb _ _ _ hs]
      rw [e,aH]
      simp only [h1]
      have:=ih (u / 128) (i+1) (s1+u % 128*2 ^ (7*i)) (pre++[UInt8.ofNat (u % 128+128)]) r (by simp [hp]) (by omega) hq hlt (by rw [hsum];exact hv)
      rw [hsum] at this
      rw [<- this]
      simp
theorem bK {A B:Type} (y:A) (p:Option B) (k:A->Option B):bP (some (.inl y)) p k=k y:=rfl
theorem gS (n:Int) (h:gI n) (r:List UInt8):dr (num n++r)=some (.inl (n,r)):=by have:=GO 9 (zz n) 0 0 [] r rfl (by omega) (MP (zz_lt h) (by decide)) (by decide) (by have:=zz_lt h;omega);unfold dr;simp only [My,Mt,Nat.mul_zero,Nat.pow_zero,Nat.mul_one,MG] at this;unfold num;rw [this,I8 n h];rfl
theorem zh {α:Type} (e:α->List UInt8) (rd:List UInt8->Option ((α × List UInt8) ⊕ Unit)) (ok:α->Prop) (hrd:∀ x r,ok x->rd (e x++r)=some (.inl (x,r))) (N:Nat) {body:Int × List UInt8 × List α->Option ((Int × List UInt8 × List α) ⊕ ((List α × List UInt8) ⊕ Unit))}
  (h1:∀ (k:Nat) b acc,k<N->acc.length+1<=1099511627776->IntKind.i64.wrap ((k:Int)+1)=((k+1:Nat):Int)->decide ((k:Int)<(N:Int))=true->body ((k:Int),b,acc)=bP (rd b) (Option.map Sum.inr (some (.inr ()))) fun x=>Option.bind (app acc [x.1]) fun y=>some (.inl (((k+1:Nat):Int),x.2,y)))
  (h2:∀ b acc,decide ((N:Int)<(N:Int))=false->body ((N:Int),b,acc)=some (.inr (.inl (acc,b)))) :
  ∀ (xs:List α) (k:Nat) (acc:List α) (r:List UInt8),k+xs.length=N->acc.length=k->N<=1099511627776->(∀ x,x∈xs->ok x)->iter body ((k:Int),xs.flatMap e++r,acc)=some (.inl (acc++xs,r))
 | [],k,acc,r,hk,ha,hN,ho=>by
  have:k=N:=by simpa using hk
  subst this;rw [aH];simp only [List.flatMap_nil,My,L3];rw [h2 r acc (by simp)]
 | x::xs,k,acc,r,hk,ha,hN,ho=>by
  have hk':k+(xs.length+1)=N:=by simpa using hk
  rw [aH,h1 k _ acc (by omega) (by omega) (bt (by omega)) (by simp;omega),ML,LN,hrd x _ (ho x (.head _)),bK,cJ (by simp;omega),LF];simp only;rw [zh e rd ok hrd N h1 h2 xs (k+1) (acc++[x]) r (by omega) (by simp [ha]) hN (fun y hy=>ho y (.tail _ hy))];simp
theorem AN {α:Type} {e:α->List UInt8} (he:∀ x,1<=(e x).length):∀ l:List α,l.length<=(l.flatMap e).length
 | []=>by simp
 | x::l=>by have:=he x;have:=AN he l;simp only [ML,LI,LW];omega
theorem nN {α:Type} (e:α->List UInt8) (rd:List UInt8->Option ((α × List UInt8) ⊕ Unit)) (ok:α->Prop) (hrd:∀ x r,ok x->rd (e x++r)=some (.inl (x,r))) (he:∀ x,1<=(e x).length) (l:List α) (hl:short ok l) (r:List UInt8)
  {L:List UInt8->Option ((List α × List UInt8) ⊕ Unit)} {body:(Int × List UInt8)->Int × List UInt8 × List α->Option ((Int × List UInt8 × List α) ⊕ ((List α × List UInt8) ⊕ Unit))}
  (hL:∀ b,L b=bP (dr b) (some (.inr ())) fun x2=>(if ((decide (x2.1<0)) || decide (x2.1 > ((x2.2).length:Int)))=true then (some (.inr ())) else iter (body x2) (0,x2.2,[])))
  (h1:∀ (x2:Int × List UInt8) (k:Nat) b acc,decide ((k:Int)<x2.1)=true->IntKind.i64.wrap ((k:Int)+1)=((k+1:Nat):Int)->body x2 ((k:Int),b,acc)=bP (rd b) (Option.map Sum.inr (some (.inr ()))) fun x=>Option.bind (app acc [x.1]) fun y=>some (.inl (((k+1:Nat):Int),x.2,y)))
  (h2:∀ (x2:Int × List UInt8) (k:Int) b acc,decide (k<x2.1)=false->body x2 (k,b,acc)=some (.inr (.inl (acc,b)))):L (lst e l++r)=some (.inl (l,r)):=by
 rw [hL]
 unfold lst
 rw [LN,gS _ (me hl.1),bK]
 have:=AN he l
 rw [if_neg (by rw [Nn,decide_eq_true_eq,decide_eq_true_eq];simp only [LI];omega)]
 have:=zh e rd ok hrd l.length (body:=body ((l.length:Int),l.flatMap e++r)) (fun k b acc _ _ hw hd=>h1 _ k b acc hd hw) (fun b acc hd=>h2 _ _ b acc hd) l 0 [] r (by omega) rfl hl.1 hl.2
 simpa using this
theorem Gk (l:List Int) (hl:short gI l) (r:List UInt8):na (lst num l++r)=some (.inl (l,r)) :=
 nN num _ gI (fun x r h=>gS x h r) (fun x=>(eo x).2) l hl r (L:=na) (body:=fun x2 ak=>jc x2 ak.1 ak.2.1 ak.2.2) (fun b=>rfl)
  (fun x2 k b acc hd hw=>by simp only;unfold jc;rw [if_pos hd,hw]) (fun x2 k b acc hd=>by simp only;unfold jc;rw [hd];rfl)
theorem FO (x:Item):1<=(bw x).length:=by have:=(eo x.Key).2;simp only [bw,LI];omega
theorem Fm (x:Keyed):1<=(fJ x).length:=by have:=(eo x.Key).2;simp only [fJ,LI];omega
theorem EG (x:Choice):1<=(co x).length:=by have:=(eo x.Node).2;simp only [co,LI];omega
theorem HP (x:Memory):1<=(dg x).length:=by have:=(eo x.Sum).2;simp only [dg,LI];omega
theorem IT {α:Type} (e:α->List UInt8) (l:List α):1<=(lst e l).length:=by have:=(eo (l.length:Int)).2;simp only [lst,LI];omega
theorem FZ (x:Item) (r:List UInt8) (h:dk x):lh (bw x++r)=some (.inl (x,r)):=by unfold lh bw;simp only [LN];rw [gS _ h.1,bK,gS _ h.2.1,bK,gS _ h.2.2,bK]
theorem yc (l:List Item) (r:List UInt8) (hl:short dk l):jM (lst bw l++r)=some (.inl (l,r)):=by
 unfold jM;rw [nN bw _ dk FZ FO l hl r (L:=o9) (body:=fun x2 ak=>ja x2 ak.1 ak.2.1 ak.2.2) (fun b=>rfl)
  (fun x2 k b acc hd hw=>by simp only;unfold ja;rw [if_pos hd,hw]) (fun x2 k b acc hd=>by simp only;unfold ja;rw [hd];rfl),bK]
theorem EW (l:List (List Item)) (hl:short (short dk) l) (r:List UInt8):m9 (lst (lst bw) l++r)=some (.inl (l,r)) :=
 nN (lst bw) _ (short dk) yc (IT _) l hl r (L:=m9) (body:=fun x2 ak=>jb x2 ak.1 ak.2.1 ak.2.2) (fun b=>rfl)
  (fun x2 k b acc hd hw=>by simp only;unfold jb;rw [if_pos hd,hw]) (fun x2 k b acc hd=>by simp only;unfold jb;rw [hd];rfl)
theorem E5 (x:Keyed) (r:List UInt8) (h:kG x):ln (fJ x++r)=some (.inl (x,r)):=by unfold ln fJ;simp only [LN];rw [gS _ h.1,bK,gS _ h.2,bK]
theorem FH (l:List Keyed) (hl:short kG l) (r:List UInt8):m7 (lst fJ l++r)=some (.inl (l,r)) :=
 nN fJ _ kG E5 Fm l hl r (L:=m7) (body:=fun x2 ak=>iZ x2 ak.1 ak.2.1 ak.2.2) (fun b=>rfl)
  (fun x2 k b acc hd hw=>by simp only;unfold iZ;rw [if_pos hd,hw]) (fun x2 k b acc hd=>by simp only;unfold iZ;rw [hd];rfl)
theorem HE (x:Memory) (r:List UInt8) (h:sMem x):lr (dg x++r)=some (.inl (x,r)):=by unfold lr dg;simp only [LN];rw [gS _ h.1,bK,gS _ h.2.1,bK,FH _ h.2.2,bK]
theorem Gi (l:List Memory) (hl:short sMem l) (r:List UInt8):m6 (lst dg l++r)=some (.inl (l,r)) :=
 nN dg _ sMem HE HP l hl r (L:=m6) (body:=fun x2 ak=>iX x2 ak.1 ak.2.1 ak.2.2) (fun b=>rfl)
  (fun x2 k b acc hd hw=>by simp only;unfold iX;rw [if_pos hd,hw]) (fun x2 k b acc hd=>by simp only;unfold iX;rw [hd];rfl)
theorem ES (x:Choice) (r:List UInt8) (h:kC x):lu (co x++r)=some (.inl (x,r)):=by unfold lu co;simp only [LN];rw [gS _ h.1,bK,gS _ h.2,bK]
theorem Ef (l:List Choice) (hl:short kC l) (r:List UInt8):mZ (lst co l++r)=some (.inl (l,r)) :=
 nN co _ kC ES EG l hl r (L:=mZ) (body:=fun x2 ak=>iY x2 ak.1 ak.2.1 ak.2.2) (fun b=>rfl)
  (fun x2 k b acc hd hw=>by simp only;unfold iY;rw [if_pos hd,hw]) (fun x2 k b acc hd=>by simp only;unfold iY;rw [hd];rfl)
theorem Of_eq (n:Net) (items:List (List Item)) (s:State) (hs:iJ s) (hB:(aV s).length<=BB) (h0:kf n items=some 0) (h1:gR n items s=some 0):gc n items (aV s)=some (s,0):=by have hw:=zA n items s hs hB;obtain ⟨g1,g2,g3,g4,g5⟩:=hs;have e5:=yc s.Out [] g5;rw [L3] at e5;unfold gc;rw [h0,LF,if_neg (by decide)];rw [show aV s=lst num s.At++(lst (lst bw) s.Rings++(lst dg s.Memory++(lst co s.Choices++lst bw s.Out))) from rfl,Gk _ g1,bK,EW _ g2,bK,Gi _ g3,bK,Ef _ g4,bK,e5,bK];simp only;rw [hw,h1,LF,if_neg (by decide),LF,if_neg (by simp [aV])]
end
def okS (s:List UInt8):Prop:=s.length<=64
def okW (w:Write):Prop:=0<=w.At/\w.At<200/\w.Bytes.length<=64
def bF (d:Disk):Prop:=d.Sectors.length<=200/\d.Wait.length<=300/\(∀ s,s∈d.Sectors->okS s)/\∀ w,w∈d.Wait->okW w
theorem xm {α:Type} {l:List α} {k:Nat} {x y:α} (hx:l[k]?=some x) (h:y∈l.take (k+1)):y∈l.take k∨y=x:=by rw [List.take_add_one,hx] at h;simpa using h
theorem zR (d:Disk):∃ e,fG d=some e/\(e=0 ↔ bF d):=by
 unfold fG;by_cases h0:d.Sectors.length > 200∨d.Wait.length > 300
 ·rw [if_pos (by simp;omega)];exact ⟨2,rfl,by simp [bF];omega⟩
 rw [if_neg (by simp;omega)];refine sA (body:=fun fZ:Int=>jd d fZ) (fun s=>∃ k:Nat,s=(k:Int)/\k<=d.Sectors.length/\∀ x,x∈d.Sectors.take k->okS x) (fun s=>d.Sectors.length - s.toNat) (fun e=>e=0 ↔ bF d) ?_ d.Sectors.length 0 (by simp) ⟨0,rfl,by omega,by simp⟩;rintro _ ⟨k,rfl,hk,hP⟩;by_cases hlt:k<d.Sectors.length
 ·obtain ⟨x,hx⟩:∃ x,d.Sectors[k]?=some x:=⟨_,LG hlt⟩
  show (∃ s',jd d (k:Int)=_/\_)∨∃ r,jd d (k:Int)=_/\_;unfold jd;rw [if_pos (by simp;omega),bv hx,bt (by omega)];simp only [LF];by_cases hs:x.length > 64
  ·rw [if_pos (by simp;omega)];refine .inr ⟨2,rfl,by simp;intro h;have:=h.2.2.1 x (LJ hx);unfold okS at this;omega⟩
  ·rw [if_neg (by simp;omega)];refine .inl ⟨_,rfl,⟨k+1,rfl,by omega,fun y hy=>?_⟩,by simp;omega⟩;rcases xm hx hy with h | rfl
   ·exact hP y h
   ·unfold okS;omega
 ·have hk':k=d.Sectors.length:=by omega
  subst hk';rw [ME] at hP;refine .inr ?_;show ∃ r,jd d (d.Sectors.length:Int)=_/\_;unfold jd;rw [if_neg (by simp)];obtain ⟨r,h1,h2⟩:=sA (body:=fun ss:Int=>jW d ss) (fun s=>∃ k:Nat,s=(k:Int)/\k<=d.Wait.length/\∀ x,x∈d.Wait.take k->okW x) (fun s=>d.Wait.length - s.toNat) (fun e=>e=0 ↔ bF d) (by
   rintro _ ⟨k,rfl,hk,hQ⟩;show (∃ s',jW d (k:Int)=_/\_)∨∃ r,jW d (k:Int)=_/\_;by_cases hlt:k<d.Wait.length
   ·obtain ⟨x,hx⟩:∃ x,d.Wait[k]?=some x:=⟨_,LG hlt⟩
    have hm:=LJ hx;unfold jW;rw [if_pos (by simp;omega),bv hx,bt (by omega)];simp only [LF];by_cases hs:x.At<0∨x.At >= 200
    ·rw [if_pos (by simp;omega)];refine .inr ⟨3,rfl,by simp;intro h;have:=h.2.2.2 x hm;unfold okW at this;omega⟩
    rw [if_neg (by simp;omega)];by_cases hb:x.Bytes.length > 64
    ·rw [if_pos (by simp;omega)];refine .inr ⟨2,rfl,by simp;intro h;have:=h.2.2.2 x hm;unfold okW at this;omega⟩
    rw [if_neg (by simp;omega)];refine .inl ⟨_,rfl,⟨k+1,rfl,by omega,fun y hy=>?_⟩,by simp;omega⟩;rcases xm hx hy with h | rfl
    ·exact hQ y h
    ·unfold okW;omega
   ·have hk':k=d.Wait.length:=by omega
    subst hk';rw [ME] at hQ;refine .inr ?_;unfold jW;rw [if_neg (by simp)];exact ⟨0,rfl,by simp;exact ⟨by omega,by omega,hP,hQ⟩⟩) d.Wait.length 0 (by simp) ⟨0,rfl,by omega,by simp⟩
  rw [h1];exact ⟨r,rfl,h2⟩
theorem jo {d:Disk} (h:bF d):fG d=some 0:=by obtain ⟨e,h1,h2⟩:=zR d;rw [h1,h2.2 h]
def put1 (l:List (List UInt8)) (w:Write):List (List UInt8):=(l++List.replicate (w.At.toNat+1 - l.length) []).set w.At.toNat w.Bytes
def aK (l:List (List UInt8)) (ws:List Write):List (List UInt8):=ws.foldl put1 l
theorem Hi (l:List (List UInt8)) (w:Write) (hw:okW w) (hl:l.length<=200):(put1 l w).length<=200:=by unfold okW at hw;simp [put1];omega
theorem G7 (l:List (List UInt8)) (w:Write) (hw:okW w) (hl:∀ s,s∈l->okS s):∀ s,s∈put1 l w->okS s:=by
 intro s hs;unfold put1 at hs;rcases Mq hs with h | h
 ·rcases LZ.1 h with h | h
  ·exact hl s h
  ·rw [(M8.1 h).2];simp [okS]
 ·rw [h];exact hw.2.2
theorem Bg:∀ (ws:List Write) (l:List (List UInt8)),(∀ w,w∈ws->okW w)->l.length<=200->(∀ s,s∈l->okS s)->(aK l ws).length<=200/\∀ s,s∈aK l ws->okS s
 | [],l,_,h1,h2=>⟨h1,h2⟩
 | w::ws,l,hw,h1,h2=>Bg ws (put1 l w) (fun x hx=>hw x (by simp [hx])) (Hi l w (hw w (by simp)) h1) (G7 l w (hw w (by simp)) h2)
def gt (l:List (List UInt8)) (i:Nat):List UInt8:=l.getD i []
theorem Ji (l:List (List UInt8)) (w:Write) (hw:okW w) (i:Nat):gt (put1 l w) i=if w.At=(i:Int) then w.Bytes else gt l i:=by
 unfold okW at hw;unfold gt put1;simp only [LL,LY];by_cases h:w.At=(i:Int)
 ·rw [if_pos h,if_pos (by omega),if_pos (by simp;omega)];rfl
 ·rw [if_neg h,if_neg (by omega)];by_cases hi:i<l.length
  ·rw [LO hi]
  ·rw [Mc (by omega),Mb (l:=l) (by omega),MY];split<;>rfl
def seen (s:List UInt8) (ws:List Write) (i:Int):List UInt8:=ws.foldl (fun s w=>if w.At=i then w.Bytes else s) s
theorem lZ:∀ (ws:List Write) (l:List (List UInt8)) (i:Nat),(∀ w,w∈ws->okW w)->gt (aK l ws) i=seen (gt l i) ws i
 | [],l,i,_=>rfl
 | w::ws,l,i,h=>by show gt (aK (put1 l w) ws) i=seen (if w.At=(i:Int) then w.Bytes else gt l i) ws i;rw [lZ ws _ i (fun x hx=>h x (by simp [hx])),Ji l w (h w (by simp))]
theorem B9 (s1:Int) (w:Write) (hw:okW w) {body:List (List UInt8)->Option (List (List UInt8) ⊕ ((Int × List (List UInt8)) ⊕ List (List UInt8)))}
  (hb:∀ l,body l=(if (decide (((l).length:Int)<=w.At))=true then (Option.bind (app l [[]]) fun x6=>(some (.inl x6))) else (Option.map Sum.inr (Option.bind (ixN l w.At) fun x7=>(Option.bind ((l)[x7]?) fun x8=>(some (.inl (IntKind.i64.wrap (s1+1),(List.set l x7 w.Bytes))))))))) :
  ∀ (n:Nat) (l:List (List UInt8)),w.At.toNat+1 - l.length=n->iter body l=some (.inl (IntKind.i64.wrap (s1+1),put1 l w))
 | 0,l,hn=>by
  have hw':=hw;unfold okW at hw';have hi:ixN l w.At=some w.At.toNat:=by have:=fK (xs:=l) (k:=w.At.toNat) (by omega);rwa [Mf hw'.1] at this
  obtain ⟨x,hx⟩:∃ x,l[w.At.toNat]?=some x:=⟨_,LG (by omega)⟩
  have e:body l=some (.inr (.inl (IntKind.i64.wrap (s1+1),put1 l w))):=by rw [hb,if_neg (by simp;omega),hi];simp only [LF,hx];unfold put1;rw [hn];simp
  rw [aH];simp only [e]
 | n+1,l,hn=>by
  have hw':=hw;unfold okW at hw';have e:body l=some (.inl (l++[[]])):=by rw [hb,if_pos (by simp;omega),cJ (by simp;omega)];rfl
  rw [aH];simp only [e];rw [B9 s1 w hw hb n (l++[[]]) (by simp;omega)];have:put1 (l++[[]]) w=put1 l w:=by
   unfold put1;have e1:w.At.toNat+1 - l.length=(w.At.toNat+1 - (l++[[]]).length)+1:=by simp;omega
   rw [e1,M4,LN];rfl
  rw [this]
theorem zm:∀ (ws:List Write) (k:Nat) (l:List (List UInt8)),dO (σ:=List (List UInt8)) (fun _ w l=>some (.inl (put1 l w))) (fun l=>some l) k ws l=some (aK l ws)
 | [],k,l=>rfl
 | w::ws,k,l=>by unfold dO;exact zm ws (k+1) (put1 l w)
theorem Kr (ws:List Write) (l:List (List UInt8)) (hl:ws.length<=1099511627776) (hw:∀ w,w∈ws->okW w):pq ws l=some (aK l ws):=by
 unfold pq;have:=nM (σ:=List (List UInt8)) ws hl (fun k st=>((k:Int),st)) (body:=fun ew:Int × (List (List UInt8))=>jP ws ew.1 ew.2)
  (fun k w l=>some (.inl (put1 l w))) (fun l=>some l) l
  (fun k w l hx _ h1 h2 h3=>by show jP ws (k:Int) l=_;unfold jP;rw [h2,h1];simp only [if_true,LF];rw [B9 (body:=fun kX=>rz (k:Int) w kX) (k:Int) w (hw w (LJ hx)) (fun l=>rfl) _ l rfl,h3])
  (fun st h=>by show jP ws (ws.length:Int) st=_;unfold jP;rw [h];rfl)
 refine Eq.trans this ?_;exact zm ws 0 l
theorem uU (l:List (List UInt8)) (h:l.length<=1099511627776):lm l=some l:=by unfold lm;rw [cJ (by simpa using h)];rfl
theorem yT (l:List Write) (h:l.length<=1099511627776):nc l=some l:=by unfold nc;rw [cJ (by simpa using h)];rfl
theorem B8 {d:Disk} (h:bF d) (n:Nat) (hn:n<=d.Wait.length):jk d (n:Int)=some (⟨aK d.Sectors (d.Wait.take n),[]⟩,0):=by have hh:=h;unfold bF at hh;unfold jk;rw [jo h];simp only [LF];rw [if_neg (by simp),if_neg (by simp;omega),uU _ (by omega)];simp only [LF];rw [sub_0 hn];simp only [LF];rw [Kr _ _ (by simp;omega) (fun w hw=>h.2.2.2 w (LX hw))];rfl
theorem HQ {d:Disk} (h:bF d):nJ d=some (⟨aK d.Sectors d.Wait,[]⟩,0):=by unfold nJ;rw [B8 h d.Wait.length (by omega)];simp
theorem Ap {d:Disk} (h:bF d) (i:Int) (b:List UInt8) (h0:0<=i) (h1:i<200) (h2:b.length<=64) (h3:d.Wait.length<300):iw d i b=some (⟨d.Sectors,d.Wait++[⟨i,b⟩]⟩,0):=by have hh:=h;unfold bF at hh;unfold iw;rw [jo h];simp only [LF];rw [if_neg (by simp),if_neg (by simp;omega),if_neg (by simp;omega),if_neg (by simp;omega),uU _ (by omega)];simp only [LF];rw [yT _ (by omega)];simp only [LF];rw [cJ (by simp;omega)];rfl
def okP (p:List UInt8):Prop:=p≠[]/\p.length<=60
theorem l9 (p:List UInt8):(frm p).length=p.length+3:=by simp [frm]
theorem y7 (p r:List UInt8) (h:okP p):gE (frm p++r)=some p:=by
 obtain ⟨h1,h2⟩:=h;have hl:1<=p.length:=by cases p;exact absurd rfl h1;simp
 have hn:(UInt8.ofNat p.length).toNat=p.length:=by simp;omega
 have hc:=vE (UInt8.ofNat p.length::p);generalize hC:crc (UInt8.ofNat p.length::p)=C at hc;have e:frm p++r=UInt8.ofNat p.length::(p++(UInt8.ofNat (C / 256)::UInt8.ofNat C::r)):=by simp [frm,hC]
 rw [e];simp only [gE,hn];rw [if_neg (by rw [LI];simp only [LW];omega)];have g1:(p++(UInt8.ofNat (C / 256)::UInt8.ofNat C::r)).getD p.length 0=UInt8.ofNat (C / 256):=by simp [LL]
 have g2:(p++(UInt8.ofNat (C / 256)::UInt8.ofNat C::r)).getD (p.length+1) 0=UInt8.ofNat C:=by rw [LL,Mc (by omega)];simp
 have g3:(p++(UInt8.ofNat (C / 256)::UInt8.ofNat C::r)).take p.length=p:=by simp
 rw [g1,g2,g3,hC];rw [if_neg (by simp;omega)]
def pay (epoch n:Nat) (b:List UInt8) (k:Nat):List UInt8:=[UInt8.ofNat epoch,UInt8.ofNat k,UInt8.ofNat n]++(if 0<k then (b.take (50*k)).drop (50*(k - 1)) else [])
def wOf (slot epoch n:Nat) (b:List UInt8) (k:Nat):Write:=⟨((60*slot+k:Nat):Int),frm (pay epoch n b k)⟩
def wsP (slot epoch n:Nat) (b:List UInt8):Nat->List Write
 | 0=>[wOf slot epoch n b 0]
 | k+1=>wOf slot epoch n b (k+1)::wsP slot epoch n b k
theorem Bq (slot epoch n:Nat) (b:List UInt8):∀ k,(wsP slot epoch n b k).length=k+1
 | 0=>rfl
 | k+1=>by simp [wsP,Bq slot epoch n b k]
theorem sW (epoch n:Nat) (b:List UInt8) (k:Nat):3<=(pay epoch n b k).length/\(pay epoch n b k).length<=53:=by
 unfold pay;split
 ·simp;omega
 ·simp
theorem BX (epoch n:Nat) (b:List UInt8) (k:Nat):okP (pay epoch n b k):=by have:=sW epoch n b k;refine ⟨fun h=>?_,by omega⟩;rw [h] at this;simp at this
theorem E0 {d:Disk} (h:bF d) (i:Int) (b:List UInt8) (h0:0<=i) (h1:i<200) (h2:b.length<=64) (h3:¬ d.Wait.length<300):iw d i b=some (⟨[],[]⟩,8):=by have hh:=h;unfold bF at hh;unfold iw;rw [jo h];simp only [LF];rw [if_neg (by simp),if_neg (by simp;omega),if_neg (by simp;omega),if_pos (by simp;omega)]
theorem Cx (slot epoch n:Nat) (b:List UInt8) (k:Nat) (hs:slot<=1) (hk:k<60):okW (wOf slot epoch n b k):=by have h1:=sW epoch n b k;have h2:=l9 (pay epoch n b k);unfold okW wOf;refine ⟨by simp only;omega,by simp only;omega,by simp only;omega⟩
theorem AJ {S:List (List UInt8)} {ws:List Write} {w:Write} (h:bF ⟨S,ws⟩) (hw:okW w) (hl:ws.length<300):bF ⟨S,ws++[w]⟩:=by
 obtain ⟨h1,h2,h3,h4⟩:=h;refine ⟨h1,by simp only [LI,MV];omega,h3,fun x hx=>?_⟩;rcases LZ.1 hx with hx | hx
 ·exact h4 x hx
 ·rw [MT] at hx;subst hx;exact hw
theorem k1_eq (slot epoch n:Nat) (b:List UInt8) (hs:slot<=1) (S:List (List UInt8)) (k:Nat) (ws:List Write) (hk:k<60) (h:bF ⟨S,ws⟩):lL (slot:Int) (k:Int) S ws (pay epoch n b k)=some (if ws.length<300 then .inl ((k:Int) - 1,S,ws++[wOf slot epoch n b k]) else .inr (⟨[],[]⟩,8)):=by
 have hp:=BX epoch n b k;have hl:=sW epoch n b k;have hf:=l9 (pay epoch n b k);unfold lL;rw [rR,LF];have e1:putFr (pay epoch n b k)=(frm (pay epoch n b k),0):=by unfold putFr;rw [if_neg hp.1,if_neg (by have:=hp.2;omega)]
 have e2:IntKind.i64.wrap ((IntKind.i64.wrap ((slot:Int)*60))+(k:Int))=((60*slot+k:Nat):Int):=by have e0:IntKind.i64.wrap ((slot:Int)*60)=(slot:Int)*60:=bA (by omega) (by omega);rw [e0,bA (by omega) (by omega)];omega
 rw [e1,e2];simp only;by_cases h3:ws.length<300
 ·rw [Ap h _ _ (by omega) (by omega) (by omega) h3,LF,if_neg (by simp),if_pos h3,bA (by omega) (by omega)];rfl
 ·rw [E0 h _ _ (by omega) (by omega) (by omega) h3,LF,if_pos (by decide),if_neg h3];rfl
theorem l2_eq (slot epoch n:Nat) (b:List UInt8) (hs:slot<=1) (hb:b.length<=1099511627776) (S:List (List UInt8)) (k:Nat) (ws:List Write) (hk:k<60) (h:bF ⟨S,ws⟩) (hkb:50*(k - 1)<=b.length) :
  lF (slot:Int) (epoch:Int) b (n:Int) (k:Int) S ws=some (if ws.length<300 then .inl ((k:Int) - 1,S,ws++[wOf slot epoch n b k]) else .inr (⟨[],[]⟩,8)):=by
 have hstr:bV [IntKind.u8.wrap (epoch:Int),IntKind.u8.wrap (k:Int),IntKind.u8.wrap (n:Int)]=[UInt8.ofNat epoch,UInt8.ofNat k,UInt8.ofNat n]:=by
  have h1:=str_1 epoch;have h2:=str_2 k n;unfold bV at h1 h2 ⊢;simp only [Mn,NS] at h1 h2 ⊢;injection h1 with h1
  rw [h1,h2]
 unfold lF
 rw [if_pos (by simp),hstr]
 by_cases h0:0<k
 ·rw [if_pos (by simp;omega)]
  have e1:IntKind.i64.wrap ((IntKind.i64.wrap ((k:Int) - 1))*50)=((50*(k - 1):Nat):Int):=by have e0:IntKind.i64.wrap ((k:Int) - 1)=(k:Int) - 1:=bA (by omega) (by omega);rw [e0,bA (by omega) (by omega)];omega
  have e2:IntKind.i64.wrap ((k:Int)*50)=((50*k:Nat):Int):=by rw [bA (by omega) (by omega)];omega
  have e3:(if (b.length:Int)<((50*k:Nat):Int) then (b.length:Int) else ((50*k:Nat):Int))=((min (50*k) b.length:Nat):Int):=by split<;>omega
  rw [e1,e2,e3,oq (by omega) (by omega),LF,mo (by simp;omega),LF]
  have e4:[UInt8.ofNat epoch,UInt8.ofNat k,UInt8.ofNat n]++List.drop (50*(k - 1)) (List.take (min (50*k) b.length) b)=pay epoch n b k:=by unfold pay;rw [if_pos h0,<- NU,ME]
  rw [e4]
  exact k1_eq slot epoch n b hs S k ws hk h
 ·rw [if_neg (by simp;omega)]
  have e4:[UInt8.ofNat epoch,UInt8.ofNat k,UInt8.ofNat n]=pay epoch n b k:=by unfold pay;rw [if_neg h0,L3]
  rw [e4]
  exact k1_eq slot epoch n b hs S k ws hk h
theorem Hp (slot epoch n:Nat) (b:List UInt8) (hs:slot<=1) (hb:b.length<=1099511627776) (S:List (List UInt8)):∀ (k:Nat) (ws:List Write),k<60->bF ⟨S,ws⟩->50*(k - 1)<=b.length ->
  iter (fun fL:Int × (List (List UInt8)) × (List Write)=>lF (slot:Int) (epoch:Int) b (n:Int) fL.1 fL.2.1 fL.2.2) ((k:Int),S,ws)=some (if ws.length+(k+1)<=300 then (⟨S,ws++wsP slot epoch n b k⟩,0) else (⟨[],[]⟩,8)):=by
 intro k
 induction k with
 | zero =>
  intro ws hk h hkb
  rw [aH]
  simp only [l2_eq slot epoch n b hs hb S 0 ws hk h hkb]
  by_cases h3:ws.length<300
  ·rw [if_pos h3,if_pos (by omega)]
   simp only
   rw [aH]
   simp only
   unfold lF
   rfl
  ·rw [if_neg h3,if_neg (by omega)]
 | succ k ih =>
  intro ws hk h hkb
  rw [aH]
  simp only [l2_eq slot epoch n b hs hb S (k+1) ws hk h hkb]
  by_cases h3:ws.length<300
  ·rw [if_pos h3]
   simp only
   rw [show ((k+1:Nat):Int) - 1=(k:Int) by omega,ih _ (by omega) (AJ h (Cx slot epoch n b (k+1) hs hk) h3) (by omega)]
   simp only [LI,MV,LN,M9]
   by_cases h4:ws.length+(k+1+1)<=300
   ·rw [if_pos (by omega),if_pos h4];rfl
   ·rw [if_neg (by omega),if_neg h4]
  ·rw [if_neg h3,if_neg (by omega)]
abbrev noD:Disk:=⟨[],[]⟩
theorem Kl (d:Disk) (slot epoch:Int) (b:List UInt8) (hb:b.length<=1099511627776):∃ e,fG d=some e/\(e=0 ↔ bF d) /\
  n5 d slot epoch b=some (if e≠0 then (noD,e) else if slot<0∨1<slot∨epoch<0∨200<epoch then (noD,3) else if 60<=(b.length+49) / 50∨300<d.Wait.length+((b.length+49) / 50+1) then (noD,8)
   else (⟨d.Sectors,d.Wait++wsP slot.toNat epoch.toNat ((b.length+49) / 50) b ((b.length+49) / 50)⟩,0)):=by
 obtain ⟨e,h1,h2⟩:=zR d
 refine ⟨e,h1,h2,?_⟩
 unfold n5
 rw [h1,LF]
 by_cases he:e=0
 ·subst he
  have hok:=h2.1 rfl
  rw [if_neg (by decide),if_neg (show ¬ ((0:Int)≠0) by simp)]
  by_cases hr:slot<0∨1<slot∨epoch<0∨200<epoch
  ·rw [if_pos (by simp only [Nn,decide_eq_true_eq];omega),if_pos hr]
  ·rw [if_neg (by simp only [Nn,decide_eq_true_eq];omega),if_neg hr]
   have hq:quo .i64 (IntKind.i64.wrap ((IntKind.i64.wrap ((b.length:Int)+50)) - 1)) 50=some (((b.length+49) / 50:Nat):Int):=by have e0:IntKind.i64.wrap ((b.length:Int)+50)=(b.length:Int)+50:=bA (by omega) (by omega);have e1:IntKind.i64.wrap ((b.length:Int)+50 - 1)=(b.length:Int)+50 - 1:=bA (by omega) (by omega);rw [e0,e1];unfold quo;rw [if_neg (by decide),show (b.length:Int)+50 - 1=((b.length+49:Nat):Int) by omega];have:Int.tdiv ((b.length+49:Nat):Int) 50=(((b.length+49) / 50:Nat):Int):=rfl;rw [this,bA (by omega) (by omega)]
   rw [hq,LF]
   by_cases hn:60<=(b.length+49) / 50
   ·rw [if_pos (by simp only [decide_eq_true_eq];omega),if_pos (Or.inl hn)]
   ·rw [if_neg (by simp only [decide_eq_true_eq];omega)]
    obtain ⟨sl,rfl⟩:=M2 (show 0<=slot by omega)
    obtain ⟨ep,rfl⟩:=M2 (show 0<=epoch by omega)
    have:=Hp sl ep ((b.length+49) / 50) b (by omega) hb d.Sectors ((b.length+49) / 50) d.Wait (by omega) hok (by omega)
    refine this.trans ?_
    by_cases hw:d.Wait.length+((b.length+49) / 50+1)<=300
    ·rw [if_pos hw,if_neg (by omega)];rfl
    ·rw [if_neg hw,if_pos (by omega)]
 ·rw [if_pos (by simpa using he),if_pos he]
def one (s:List UInt8):Option (List UInt8) :=
 match (records s.length s).1 with
 | [p]=>if (records s.length s).2=s.length then some p else none
 | _=>none
def secP (s:List UInt8) (k:Nat):Option (List UInt8) :=
 match one s with
 | some p=>if 3<=p.length/\(p.getD 1 0).toNat=k then some p else none
 | none=>none
theorem zT {s:List UInt8} {k:Nat} {p:List UInt8} (h:secP s k=some p):3<=p.length/\(p.getD 1 0).toNat=k:=by
 unfold secP at h;split at h
 ·split at h
  ·rename_i h1;injection h with h
   subst h;exact h1
  ·cases h
 ·cases h
theorem yX (S:List (List UInt8)) (W:List Write) (slot k:Nat) (hS:S.length<=200) (hs:∀ s,s∈S->okS s) (hsl:slot<=1) (hk:k<=1000) :
  nf (k:Int) (slot:Int) S W=some (match secP (gt S (60*slot+k)) k with | some p=>(p,true) | none=>([],false)):=by
 have e2:IntKind.i64.wrap ((IntKind.i64.wrap ((slot:Int)*60))+(k:Int))=((60*slot+k:Nat):Int):=by have e0:IntKind.i64.wrap ((slot:Int)*60)=(slot:Int)*60:=bA (by omega) (by omega);rw [e0,bA (by omega) (by omega)];omega
 unfold nf
 rw [e2]
 by_cases hi:S.length<=60*slot+k
 ·rw [if_pos (by simp only [decide_eq_true_eq];omega)]
  have:gt S (60*slot+k)=[]:=by unfold gt;rw [LL,Mb hi];rfl
  rw [this]
  rfl
 ·rw [if_neg (by simp only [decide_eq_true_eq];omega)]
  have hlt:60*slot+k<S.length:=by omega
  have hx:S[60*slot+k]?=some (gt S (60*slot+k)):=by unfold gt;rw [LL,LG hlt];rfl
  have hm:gt S (60*slot+k)∈S:=LJ hx
  have h64:(gt S (60*slot+k)).length<=64:=hs _ hm
  rw [bv hx]
  generalize gt S (60*slot+k)=s at hx hm h64
  have hrd:readR s=((records s.length s).1,((records s.length s).2:Int),0):=by unfold readR;rw [if_neg (by omega)]
  rw [LF,xl,LF,hrd]
  unfold secP one
  rcases hr:records s.length s with ⟨l,u⟩
  simp only
  match l with
  | []=>rfl
  | p::q::l =>
   have hne:((p::q::l).length:Int)≠1:=by simp only [LW];omega
   rw [if_pos (by simpa using hne),LF,if_pos rfl]
  | [p] =>
   have i0:ixN [p] 0=some 0:=rfl
   rw [if_neg (by simp),LF]
   by_cases hu:u=s.length
   ·rw [if_neg (by simp [hu]),i0,LF]
    simp only [Nu,LF]
    by_cases hp:3<=p.length
    ·rw [if_neg (by simp only [decide_eq_true_eq];omega)]
     obtain ⟨a,b,t,rfl⟩:∃ a b t,p=a::b::t:=by
      match p,hp with
      | a::b::t,_=>exact ⟨a,b,t,rfl⟩
      | [],h=>simp at h
      | [_],h=>simp at h
     have i1:idx (a::b::t) 1=some b:=rfl
     have hb:IntKind.i64.wrap (b.toNat:Int)=(b.toNat:Int):=ff b
     simp only [i1,LF,hb]
     by_cases hk2:b.toNat=k
     ·have:((b.toNat:Int) != (k:Int))=false:=by simp [hk2]
      rw [this,if_neg (by decide),if_pos hu]
      simp only
      rw [if_pos ⟨hp,hk2⟩]
     ·have:((b.toNat:Int) != (k:Int))=true:=by simp;omega
      rw [this,if_pos rfl,if_pos hu]
      simp only
      rw [if_neg (fun h=>hk2 h.2)]
    ·rw [if_pos (by simp only [decide_eq_true_eq];omega),LF,if_pos rfl,if_pos hu]
     simp only
     rw [if_neg (fun h=>hp h.1)]
   ·rw [if_pos (by simp;omega),LF,if_pos rfl]
    simp only
    rw [if_neg hu]
def col (S:List (List UInt8)) (slot:Nat) (h:List UInt8):Nat->Nat->List UInt8->Option (List UInt8)
 | 0,_,acc=>some acc
 | m+1,k,acc =>
  match secP (gt S (60*slot+k)) k with
  | none=>none
  | some p=>if p.getD 0 0=h.getD 0 0/\p.getD 2 0=h.getD 2 0/\(p.length=53∨(m=0/\3<p.length/\p.length<53)) then col S slot h m (k+1) (acc++p.drop 3) else none
def cq (S:List (List UInt8)) (slot:Nat):Option (List UInt8 × Nat) :=
 match secP (gt S (60*slot)) 0 with
 | none=>none
 | some h=>if h.length=3/\(h.getD 0 0).toNat<=200/\(h.getD 2 0).toNat<60 then (col S slot h (h.getD 2 0).toNat 1 []).map fun b=>(b,(h.getD 0 0).toNat) else none
theorem HX {d:Disk} (hd:bF d) (slot:Nat) (hsl:slot<=1) (h0 h1 h2:UInt8) (hh:h2.toNat<60):∀ (m k:Nat) (acc:List UInt8),k+m=h2.toNat+1->1<=k->acc.length<=100*k ->
  iter (fun df:(List UInt8) × Int=>lE d (slot:Int) ([h0,h1,h2],true) df.1 df.2) (acc,(k:Int))=some (match col d.Sectors slot [h0,h1,h2] m k acc with | some b=>(b,(h0.toNat:Int),0) | none=>([],0,12)):=by
 have i2:idx [h0,h1,h2] 2=some h2:=rfl
 have i0:idx [h0,h1,h2] 0=some h0:=rfl
 intro m
 induction m with
 | zero =>
  intro k acc hk h1k ha
  rw [aH]
  simp only
  unfold lE
  simp only [i2,LF,ff,i0]
  rw [if_neg (by simp only [decide_eq_true_eq];omega)]
  rfl
 | succ m ih =>
  intro k acc hk h1k ha
  rw [aH]
  simp only
  have step:lE d (slot:Int) ([h0,h1,h2],true) acc (k:Int)=some (match secP (gt d.Sectors (60*slot+k)) k with
    | none=>.inr ([],0,12)
    | some p=>if p.getD 0 0=h0/\p.getD 2 0=h2/\(p.length=53∨(m=0/\3<p.length/\p.length<53)) then .inl (acc++p.drop 3,((k+1:Nat):Int)) else .inr ([],0,12)):=by
   unfold lE
   simp only [i2,LF,ff,i0]
   rw [if_pos (by simp only [decide_eq_true_eq];omega),yX d.Sectors d.Wait slot k hd.1 hd.2.2.1 hsl (by omega),LF]
   cases hsec:secP (gt d.Sectors (60*slot+k)) k with
   | none =>
    simp only
    rw [if_neg (by decide)]
    by_cases hkn:(k:Int)=(h2.toNat:Int)
    ·rw [if_pos (by simpa using hkn)];rfl
    ·rw [if_neg (by simpa using hkn)];rfl
   | some p =>
    have hp3:=(zT hsec).1
    obtain ⟨a,b,c,t,rfl⟩:∃ a b c t,p=a::b::c::t:=by
     match p,hp3 with
     | a::b::c::t,_=>exact ⟨a,b,c,t,rfl⟩
     | [],h=>simp at h
     | [_],h=>simp at h
     | [_,_],h=>simp at h
    have j0:idx (a::b::c::t) 0=some a:=rfl
    have j2:idx (a::b::c::t) 2=some c:=rfl
    have jl:(a::b::c::t).length=t.length+3:=by simp
    have js:sub (a::b::c::t) 3 ((a::b::c::t).length:Int)=some t:=by have:=jv (xs:=a::b::c::t) (i:=3) (by omega);exact this
    have ha2:(a.toNat:Int)=(h0.toNat:Int) ↔ a=h0:=⟨fun e=>UInt8.toNat_inj.1 (by omega),fun e=>by rw [e]⟩
    have hc2:(c.toNat:Int)=(h2.toNat:Int) ↔ c=h2:=⟨fun e=>UInt8.toNat_inj.1 (by omega),fun e=>by rw [e]⟩
    simp only [j0,j2,LF,js]
    rw [show (Bool.not true)=false from rfl]
    have hw:(if (((a::b::c::t).length:Int)==53)=true then (some true) else if ((k:Int)==(h2.toNat:Int))=true then (if (decide (((a::b::c::t).length:Int) > 3))=true then (some (decide (((a::b::c::t).length:Int)<53))) else (some false)) else (some false))=some (decide ((a::b::c::t).length=53∨(m=0/\3<(a::b::c::t).length/\(a::b::c::t).length<53))):=by
     generalize (a::b::c::t).length=L;by_cases q1:L=53
     ·rw [if_pos (by simp;omega)];simp [q1]
     ·rw [if_neg (by simp;omega)];by_cases q2:(k:Int)=(h2.toNat:Int)
      ·rw [if_pos (by simpa using q2)];by_cases q3:3<L
       ·rw [if_pos (by simp only [decide_eq_true_eq];omega)];congr 1;rw [decide_eq_decide];omega
       ·rw [if_neg (by simp only [decide_eq_true_eq];omega)];congr 1;symm;rw [decide_eq_false_iff_not];omega
      ·rw [if_neg (by simpa using q2)];congr 1;symm;rw [decide_eq_false_iff_not];omega
    rw [hw,LF,if_neg (show ¬ (false=true) by decide)]
    by_cases p1:a=h0
    ·rw [if_neg (by simp [p1])]
     by_cases p2:c=h2
     ·rw [if_neg (by simp [p2]),LF]
      by_cases p3:((a::b::c::t).length=53∨(m=0/\3<(a::b::c::t).length/\(a::b::c::t).length<53))
      ·rw [decide_eq_true p3,if_neg (by decide),mo (by omega),LF,bt (by omega),if_pos ⟨p1,p2,p3⟩]
       rfl
      ·rw [decide_eq_false p3,if_pos (by decide),if_neg (fun h=>p3 h.2.2)]
       rfl
     ·rw [if_pos (by rw [bne_iff_ne];exact fun e=>p2 (hc2.1 e)),LF,if_pos rfl,if_neg (fun h=>p2 h.2.1)]
      rfl
    ·rw [if_pos (by rw [bne_iff_ne];exact fun e=>p1 (ha2.1 e)),LF,if_pos rfl,if_neg (fun h=>p1 h.1)]
     rfl
  simp only [step]
  unfold col
  cases hsec:secP (gt d.Sectors (60*slot+k)) k with
  | none=>rfl
  | some p =>
   simp only
   by_cases hc:p.getD 0 0=h0/\p.getD 2 0=h2/\(p.length=53∨(m=0/\3<p.length/\p.length<53))
   ·have hc':p.getD 0 0=[h0,h1,h2].getD 0 0/\p.getD 2 0=[h0,h1,h2].getD 2 0/\(p.length=53∨(m=0/\3<p.length/\p.length<53)):=hc
    rw [if_pos hc,if_pos hc']
    simp only
    rw [ih (k+1) _ (by omega) (by omega) (by rw [LI,Mg];omega)]
   ·have hc':¬ (p.getD 0 0=[h0,h1,h2].getD 0 0/\p.getD 2 0=[h0,h1,h2].getD 2 0/\(p.length=53∨(m=0/\3<p.length/\p.length<53))):=hc
    rw [if_neg hc,if_neg hc']
def getR (S:List (List UInt8)) (slot:Nat):List UInt8 × Int × Int :=
 match cq S slot with
 | some x=>(x.1,(x.2:Int),0)
 | none=>([],0,12)
theorem JY {d:Disk} (hd:bF d) (slot:Nat) (hsl:slot<=1):n6 d (slot:Int)=some (getR d.Sectors slot):=by
 unfold n6;rw [jo hd,LF,if_neg (by decide),if_neg (by simp only [Nn,decide_eq_true_eq];omega)];have:=yX d.Sectors d.Wait slot 0 hd.1 hd.2.2.1 hsl (by omega);rw [Mt,MB] at this;rw [this,LF];unfold getR cq;cases hsec:secP (gt d.Sectors (60*slot)) 0 with
 | none=>rfl
 | some h =>
  simp only;rw [show (Bool.not true)=false from rfl,if_neg (by decide)];have hp3:=(zT hsec).1;by_cases h3:h.length=3
  ·obtain ⟨a,b,c,rfl⟩:∃ a b c,h=[a,b,c]:=by
    match h,h3 with
    | [a,b,c],_=>exact ⟨a,b,c,rfl⟩
   have j0:idx [a,b,c] 0=some a:=rfl;have j2:idx [a,b,c] 2=some c:=rfl;rw [if_neg (by simp)];simp only [j0,j2,LF,ff];by_cases q1:a.toNat<=200
   ·rw [if_neg (by simp only [decide_eq_true_eq];omega),LF];by_cases q2:c.toNat<60
    ·rw [if_neg (by simp only [decide_eq_true_eq];omega)];have hc:([a,b,c].length=3/\([a,b,c].getD 0 0).toNat<=200/\([a,b,c].getD 2 0).toNat<60):=⟨rfl,q1,q2⟩
     rw [if_pos hc];have:=HX hd slot hsl a b c q2 c.toNat 1 [] (by omega) (by omega) (by simp);refine this.trans ?_;rw [show [a,b,c].getD 0 0=a from rfl,show [a,b,c].getD 2 0=c from rfl];cases col d.Sectors slot [a,b,c] c.toNat 1 []<;>rfl
    ·have hc:¬ ([a,b,c].length=3/\([a,b,c].getD 0 0).toNat<=200/\([a,b,c].getD 2 0).toNat<60):=fun h=>q2 h.2.2
     rw [if_pos (by simp only [decide_eq_true_eq];omega),if_neg hc]
   ·have hc:¬ ([a,b,c].length=3/\([a,b,c].getD 0 0).toNat<=200/\([a,b,c].getD 2 0).toNat<60):=fun h=>q1 h.2.1
    rw [if_pos (by simp only [decide_eq_true_eq];omega),LF,if_pos rfl,if_neg hc]
  ·rw [if_pos (by simp;omega),LF,if_pos rfl,if_neg (fun h=>h3 h.1)]
section
structure SmallS (s:State):Prop where
 a1:s.At.length<=1099511627776
 a2:s.Rings.length<=1099511627776
 a3:s.Memory.length<=1099511627776
 a4:s.Choices.length<=1099511627776
 a5:s.Out.length<=1099511627776
 a6:∀ l,l∈s.Rings->l.length<=1099511627776
 a7:∀ m,m∈s.Memory->m.Keys.length<=1099511627776
theorem za {n:Net} {items:List (List Item)} {B:Int} {s:State} (hS:RightS n items) (ok:OkS n items B s):SmallS s:=by
 have h1:=ok.at_;have h2:=ok.rg;have h3:=ok.mm;have h4:=ok.ch;have h5:=ok.out;have h6:=hS.l4;have h7:=hS.r2;have h8:=hS.n2;have h9:=hS.m2;refine ⟨by omega,by omega,by omega,by omega,by omega,fun l hl=>?_,fun m hm=>?_⟩
 ·obtain ⟨r,hr⟩:=L1 hl;have:=ok.room r l hr;omega
 ·obtain ⟨i,hi⟩:=L1 hm;have:=(ok.mem i m hi).1.len;omega
theorem HI (l:List Memory):∃ B:Int,0<=B/\∀ m,m∈l->∀ y,y∈m.Keys->y.N<=B:=by
 have h1:∀ ks:List Keyed,∃ B:Int,0<=B/\∀ y,y∈ks->y.N<=B:=by
  intro ks;induction ks with
  | nil=>exact ⟨0,by omega,fun y hy=>by cases hy⟩
  | cons k ks ih =>
   obtain ⟨B,h0,hB⟩:=ih;refine ⟨B+k.N.natAbs,by omega,fun y hy=>?_⟩;rcases Md.1 hy with rfl | hy
   ·omega
   ·have:=hB y hy;omega
 induction l with
 | nil=>exact ⟨0,by omega,fun m hm=>by cases hm⟩
 | cons m l ih =>
  obtain ⟨B,h0,hB⟩:=ih;obtain ⟨B',h0',hB'⟩:=h1 m.Keys;refine ⟨B+B',by omega,fun q hq y hy=>?_⟩;rcases Md.1 hq with rfl | hq
  ·have:=hB' y hy;omega
  ·have:=hB q hq y hy;omega
section
variable {n:Net} {items:List (List Item)} {B:Int} {s:State}
theorem BF (h:cI n items s=0):cP n items=0:=by
 unfold cI at h;split at h
 ·exact h
 ·rename_i h1;exact Decidable.not_not.1 h1
theorem Cr (h:cI n items s=0):∃ B:Int,0<=B/\OkS n items B s:=by obtain ⟨B,h0,hB⟩:=HI s.Memory;exact ⟨B,h0,JL h hB⟩
theorem HG (n:Net) (items:List (List Item)) (s:State) (hio:∀ x∈n.Nodes,x.In.length<=1099511627776/\x.Out.length<=1099511627776) (hr:∀ l,l∈s.Rings->l.length<=1099511627776):jf n items s=some (if cI n items s≠0 then ([],cI n items s) else (bb n items s,0)):=by
 unfold jf;rw [qp n items s hio hr,LF];by_cases h:cI n items s=0
 ·obtain ⟨B,_,ok⟩:=Cr h;rw [if_neg (show ¬ (cI n items s != 0)=true by simp [h]),if_neg (show ¬ cI n items s≠0 by simp [h]),Hs (ku (BF h)) ok];rfl
 ·rw [if_pos (show (cI n items s != 0)=true by simpa using h),if_pos h]
def gl (n:Net) (m:Move):Prop:=0<=m.Node/\m.Node<n.Nodes.length/\0<=m.Lane/\m.Lane<bu (aa n m.Node.toNat)
instance (n:Net) (m:Move):Decidable (gl n m):=by unfold gl;infer_instance
def canMv (n:Net) (items:List (List Item)) (s:State) (m:Move):Bool:=dM n items s m.Node.toNat m.Lane.toNat
theorem Do_eq (n:Net) (items:List (List Item)) (s:State) (m:Move) (hio:∀ x∈n.Nodes,x.In.length<=1099511627776/\x.Out.length<=1099511627776) (hr:∀ l,l∈s.Rings->l.length<=1099511627776) :
    jx n items s m=some (if cI n items s≠0 then (noS,cI n items s) else if ¬ gl n m then (noS,5) else if canMv n items s m=false then (noS,10) else (doMv n items s m,0)):=by
  unfold jx
  rw [qp n items s hio hr,LF]
  by_cases h:cI n items s=0
  · obtain ⟨B,_,ok⟩:=Cr h
    have hS:=ku (BF h)
    rw [if_neg (show ¬ (cI n items s != 0)=true by simp [h]),if_neg (show ¬ cI n items s≠0 by simp [h])]
    have hb : (if (decide (m.Node<0))=true then (some true) else (if (decide (m.Node >= ((n.Nodes).length:Int)))=true then (some true) else (if (decide (m.Lane<0))=true then (some true) else (if (decide (m.Lane > 0))=true then (Option.bind (idx n.Nodes m.Node) fun x3=>(if (x3.Kind != 6)=true then (some true) else (Option.bind (idx n.Nodes m.Node) fun x4=>(some (decide (m.Lane >= ((x4.In).length:Int))))))) else (some false)))))=some (decide (¬ gl n m)):=by
      by_cases h1:m.Node<0
      · rw [if_pos (by simpa using h1)];simp [gl];omega
      · rw [if_neg (by simpa using h1)];by_cases h2:m.Node >= (n.Nodes.length:Int)
        · rw [if_pos (by simpa using h2)];simp [gl];omega
        · rw [if_neg (by simpa using h2)];by_cases h3:m.Lane<0
          · rw [if_pos (by simpa using h3)];simp [gl];omega
          · rw [if_neg (by simpa using h3)];have hi:idx n.Nodes m.Node=some (aa n m.Node.toNat):=idx_D _ (by omega) (by omega);have hlt:m.Node.toNat<n.Nodes.length:=by omega
            by_cases h4:m.Lane > 0
            · rw [if_pos (by simpa using h4),hi,LF];by_cases h6:(aa n m.Node.toNat).Kind=6
              · rw [if_neg (by simpa using h6),LF];have hl:bu (aa n m.Node.toNat)=(aa n m.Node.toNat).In.length:=by unfold bu;rw [if_pos h6]
                congr 1;rw [decide_eq_decide];unfold gl;omega
              · rw [if_pos (by simpa using h6)];have hl:bu (aa n m.Node.toNat)=1:=by unfold bu;rw [if_neg h6]
                congr 1;rw [eq_comm,decide_eq_true_eq];unfold gl;omega
            · rw [if_neg (by simpa using h4)];have hpos:0<bu (aa n m.Node.toNat):=by
                unfold bu;split
                · rename_i h6;exact hS.in6 _ hlt h6
                · omega
              congr 1;rw [eq_comm,decide_eq_false_iff_not];unfold gl;omega
    rw [hb,LF]
    by_cases hg:gl n m
    · rw [if_neg (by simpa using hg),if_neg (by simpa using hg)]
      obtain ⟨g0,g1,g2,g3⟩:=hg
      have hm:m=⟨(m.Node.toNat:Int),(m.Lane.toNat:Int)⟩:=by cases m;simp at *;omega
      have hi:m.Node.toNat<n.Nodes.length:=by omega
      have hk:m.Lane.toNat<bu (aa n m.Node.toNat):=by omega
      have hc:lT n items s m=some (canMv n items s m):=by rw [hm];exact B3 hS ok hi hk
      rw [hc,LF]
      cases hcm:canMv n items s m with
      | false=>rfl
      | true =>
        rw [if_neg (by simp),if_neg (by simp),BC hS ok,LF]
        have hd:nu n items m s.At s.Rings s.Memory s.Choices s.Out=some ((doMv n items s m).At,(doMv n items s m).Rings,(doMv n items s m).Memory,(doMv n items s m).Choices,(doMv n items s m).Out):=by rw [hm];exact do_eq hS ok hi hk hcm
        rw [hd,LF]
    · rw [if_pos (by simpa using hg),if_pos (by simpa using hg)];rfl
  · rw [if_pos (show (cI n items s != 0)=true by simpa using h),if_pos h];rfl
theorem GC {m:Move} (hm:m∈bb n items s):gl n m/\canMv n items s m=true:=by obtain ⟨i,k,rfl,hi,hk,hc⟩:=lM hm;exact ⟨⟨by simp,by simpa using hi,by simp,by simpa using hk⟩,hc⟩
theorem zH (hsrc:cP n items=0) (ok:OkS n items B s) {m:Move} (hm:m∈bb n items s) (hio:∀ x∈n.Nodes,x.In.length<=1099511627776/\x.Out.length<=1099511627776):jx n items s m=some (doMv n items s m,0):=by have hS:=ku hsrc;obtain ⟨h1,h2⟩:=GC hm;rw [Do_eq n items s m hio (za hS ok).a6,if_neg (by simp [tf hsrc ok]),if_neg (by simpa using h1),if_neg (by simp [h2])]
end
end
section
theorem mz {α:Type} {e:α->List UInt8} {m:α->Nat} (h:∀ x,(e x).length<=10*m x) (l:List α):(lst e l).length<=10*mL m l:=by
 have key:∀ l:List α,(l.flatMap e).length<=10*(l.map m).sum:=by
  intro l;induction l with
  | nil=>simp
  | cons x l ih =>
   have:=h x;rw [ML,LI,Mn,M5];omega
 have:=key l;have:=(eo (l.length:Int)).1;unfold lst mL;rw [LI];omega
theorem AF (x:Item):(bw x).length<=10*cK x:=by have:=(eo x.Key).1;have:=(eo x.Val).1;have:=(eo x.Dep).1;simp only [bw,cK,LI];omega
theorem Ga (x:Keyed):(fJ x).length<=10*hY x:=by have:=(eo x.Key).1;have:=(eo x.N).1;simp only [fJ,hY,LI];omega
theorem Fa (x:Choice):(co x).length<=10*g9 x:=by have:=(eo x.Node).1;have:=(eo x.Lane).1;simp only [co,g9,LI];omega
theorem H8 (x:Memory):(dg x).length<=10*fH x:=by have:=(eo x.Sum).1;have:=(eo x.Dep).1;have:=mz Ga x.Keys;simp only [dg,fH,LI];omega
theorem zg (s:State):(aV s).length<=10*mA s:=by have:=mz (e:=num) (m:=mI) (fun x=>by have:=(eo x).1;unfold mI;omega) s.At;have:=mz (mz AF) s.Rings;have:=mz H8 s.Memory;have:=mz Fa s.Choices;have:=mz AF s.Out;simp only [aV,mA,LI];omega
theorem B0 {α:Type} (m:α->Nat) (l:List α):1<=mL m l:=by unfold mL;omega
theorem F8 {s:State} (g:vr s) (h:mA s<=1048576):iJ s/\(aV s).length<=BB:=by
 obtain ⟨g1,g2,g3,g4,g5⟩:=g;have e1:s.At.length<=mL mI s.At:=iL (fun _=>by unfold mI;omega) _;have e2:s.Rings.length<=mL (mL cK) s.Rings:=iL (fun l=>B0 _ _) _;have e3:s.Memory.length<=mL fH s.Memory:=iL (fun _=>by unfold fH;omega) _;have e4:s.Choices.length<=mL g9 s.Choices:=iL (fun _=>by unfold g9;omega) _;have e5:s.Out.length<=mL cK s.Out:=iL (fun _=>by unfold cK;omega) _;have hm:mL mI s.At+mL (mL cK) s.Rings+mL fH s.Memory+mL g9 s.Choices+mL cK s.Out<=1048576:=h;refine ⟨⟨⟨by omega,g1⟩,⟨by omega,fun l hl=>⟨?_,g2 l hl⟩⟩,⟨by omega,fun x hx=>⟨(g3 x hx).1,(g3 x hx).2.2,?_,(g3 x hx).2.1⟩⟩,⟨by omega,g4⟩,⟨by omega,g5⟩⟩,?_⟩
 ·have h1:l.length<=mL cK l:=iL (fun _=>by unfold cK;omega) _;have h2:=th (m:=mL cK) hl;omega
 ·have h1:x.Keys.length<=mL hY x.Keys:=iL (fun _=>by unfold hY;omega) _;have h2:=th (m:=fH) hx;have h3:fH x=mL hY x.Keys+2:=rfl;omega
 ·have:=zg s;unfold BB;omega
theorem AB {s:State} (h:iJ s):SmallS s:=⟨h.1.1,h.2.1.1,h.2.2.1.1,h.2.2.2.1.1,h.2.2.2.2.1,fun l hl=>(h.2.1.2 l hl).1,fun m hm=>(h.2.2.1.2 m hm).2.2.1⟩
theorem IS {n:Net} (h:mNet n<=1048576):∀ x∈n.Nodes,x.In.length<=1099511627776/\x.Out.length<=1099511627776:=fun x hx=>by have h1:=th (m:=mNode) hx;have h2:mNet n=mL mNode n.Nodes+2:=rfl;have h3:mNode x=mL mI x.In+mL mI x.Out+2:=rfl;have h4:x.In.length<=mL mI x.In:=iL (fun _=>by unfold mI;omega) _;have h5:x.Out.length<=mL mI x.Out:=iL (fun _=>by unfold mI;omega) _;omega
section
variable {n:Net} (items:List (List Item)) (s:State) (hio:∀ x∈n.Nodes,x.In.length≤1099511627776∧x.Out.length≤1099511627776) (hs:iJ s) (hB:(aV s).length≤BB)
include hio hs hB
theorem A5:jg n items s=some (if cI n items s≠0 then ([],cI n items s) else (aV s,0)):=by
 rw [zA n items s hs hB,qp n items s hio (AB hs).a6,LF];by_cases h:cI n items s=0
 ·rw [if_neg (by simp [h]),if_neg (by simp [h])]
 ·rw [if_pos (by simpa using h),if_pos h]
end
def s0:State:=⟨[1,1],[[],[⟨2,2,0⟩],[⟨1,1,1⟩]],[⟨0,[],0⟩,⟨0,[],0⟩,⟨0,[],0⟩,⟨0,[],0⟩],[⟨2,0⟩],[]⟩
theorem Je:bF noD:=⟨by decide,by decide,fun s h=>(NE h).elim,fun s h=>(NE h).elim⟩
end
def kvI (x:Item):Prop:=gI x.Key/\gI x.Val
def kvM (m:Memory):Prop:=gI m.Sum/\∀ y,y∈m.Keys->gI y.Key
structure KV (s:State):Prop where
 rg:∀ l,l∈s.Rings->∀ x,x∈l->kvI x
 out:∀ x,x∈s.Out->kvI x
 mm:∀ m,m∈s.Memory->kvM m
theorem l7 (z:Int):gI (IntKind.i64.wrap z):=by unfold gI;simp [IntKind.wrap,IntKind.signed,IntKind.bits];omega
theorem AT {key:Int} {l:List Keyed} (hk:gI key) (hl:∀ y,y∈l->gI y.Key):(∀ y,y∈(newK key l).1->gI y.Key)/\gI (newK key l).2:=by
 unfold newK;split
 ·exact ⟨hl,by unfold gI;omega⟩
 ·refine ⟨fun y hy=>?_,by show gI 1;unfold gI;omega⟩;rcases LZ.1 hy with h | h
  ·exact hl y (LX h)
  ·rcases Md.1 h with rfl | h
   ·exact hk
   ·exact hl y (MH h)
theorem Kj {key:Int} {l:List Keyed} (hk:gI key) (hl:∀ y,y∈l->gI y.Key):(∀ y,y∈(cntP key l).1->gI y.Key)/\gI (cntP key l).2:=by
 unfold cntP;split
 ·rename_i y hy;split
  ·refine ⟨fun z hz=>?_,l7 _⟩;rcases Mq hz with h | h
   ·exact hl z h
   ·rw [h];exact hl y (LJ hy)
  ·exact AT hk hl
 ·exact AT hk hl
theorem JU (f:Int) (x:Item):gI (mapP f x):=by
 unfold mapP;split
 ·exact l7 _
 split
 ·exact l7 _
 split
 ·exact l7 _
 ·exact l7 _
theorem H2 {k f:Int} {m:Memory} {x:Item} (hm:kvM m) (hx:kvI x):kvM (cM k f m x).1/\kvI (cM k f m x).2:=by
 unfold cM;split
 ·exact ⟨hm,hx.1,JU f x⟩
 split
 ·exact ⟨⟨l7 _,hm.2⟩,hx.1,l7 _⟩
 split
 ·obtain ⟨h1,h2⟩:=Kj hx.1 hm.2;exact ⟨⟨hm.1,h1⟩,hx.1,h2⟩
 ·exact ⟨hm,hx⟩
theorem Cs {y:Item} (hy:kvI y):∀ (l:List Int) (R:List (List Item)),(∀ q,q∈R->∀ x,x∈q->kvI x)->∀ q,q∈cR y l R->∀ x,x∈q->kvI x
 | [],R,h=>h
 | r::l,R,h=>by
  show ∀ q,q∈cR y l (R.set r.toNat (R.getD r.toNat []++[y]))->_;refine Cs hy l _ fun q hq x hx=>?_
  rcases Mq hq with hq | hq
  ·exact h q hq x hx
  ·rw [hq] at hx;rcases LZ.1 hx with hx | hx
   ·rw [LL] at hx;cases e:R[r.toNat]? with
    | none=>rw [e] at hx;cases hx
    | some z=>rw [e] at hx;exact h z (LJ e) x hx
   ·rw [MT.1 hx];exact hy
theorem kv_do {n:Net} {items:List (List Item)} (hi:gL (gL dk) items) {s:State} (h:KV s) (i k:Nat):KV (doM n items s i k):=by
 unfold doM;cases hh:dl n items s i k with
 | none=>exact h
 | some it =>
  have hx:kvI it:=by
   unfold dl at hh;split at hh
   ·have h1:=LJ hh;rw [LL] at h1;cases e:items[(aa n i).A.toNat]? with
    | none=>rw [e] at h1;cases h1
    | some z =>
     rw [e] at h1;have:=hi z (LJ e) it h1;exact ⟨this.1,this.2.1⟩
   ·have h1:=List.mem_of_mem_head? hh;rw [LL] at h1;cases e:s.Rings[bh (aa n i) k]? with
    | none=>rw [e] at h1;cases h1
    | some z=>rw [e] at h1;exact h.rg z (LJ e) it h1
  have hm:kvM (memN s i):=by
   unfold memN;rw [LL];cases e:s.Memory[i]? with
   | none=>exact ⟨by show gI 0;unfold gI;omega,fun y hy=>by cases hy⟩
   | some z=>exact h.mm z (LJ e)
  have hc:kvI (chD (aa n i) s it):=by
   unfold chD;split
   ·exact hx
   ·exact hx
  obtain ⟨h1,h2⟩:=H2 (k:=(aa n i).Kind) (f:=(aa n i).A) hm hc;refine ⟨?_,fun x hx=>?_,fun m hm=>?_⟩
  ·refine Cs h2 _ _ fun q hq x hx=>?_
   split at hq
   ·exact h.rg q hq x hx
   ·rcases Mq hq with hq | hq
    ·exact h.rg q hq x hx
    ·rw [hq] at hx;have hx:=List.mem_of_mem_tail hx;rw [LL] at hx;cases e:s.Rings[bh (aa n i) k]? with
     | none=>rw [e] at hx;cases hx
     | some z=>rw [e] at hx;exact h.rg z (LJ e) x hx
  ·simp only at hx;split at hx
   ·rcases LZ.1 hx with hx | hx
    ·exact h.out x hx
    ·rw [MT.1 hx];exact h2
   ·exact h.out x hx
  ·rcases Mq hm with hm | hm
   ·exact h.mm m hm
   ·rw [hm];exact h1
theorem n8 (n:Net) (items:List (List Item)):KV (a9 n items):=by
 refine ⟨fun l hl x hx=>?_,fun x hx=>?_,fun m hm=>?_⟩
 ·have:=(M8.1 hl).2;subst this;cases hx
 ·cases hx
 ·have:=(M8.1 hm).2;subst this;exact ⟨by show gI 0;unfold gI;omega,fun y hy=>by cases hy⟩
theorem kv_s {n:Net} {items:List (List Item)} (hS:RightS n items) {s:State} (hI:Inv n items s) (h:KV s):iJ s:=by
 obtain ⟨B,ok,hB⟩:=hI;have h2:=hS.n2;have h3:=hS.r2;have h4:=hS.l4;have hrg:=ok.rg;have hmm:=ok.mm;have hat:=ok.at_;have hch:=ok.ch;have hou:=ok.out;have hg:∀ z:Int,0<=z->z<=1000000000000000000->gI z:=fun z h1 h2=>by unfold gI;omega
 have hdep:∀ x:Item,kvI x->0<=x.Dep->x.Dep<=s.Choices.length->dk x:=fun x h1 h2 h3=>⟨h1.1,h1.2,hg _ h2 (by omega)⟩
 refine ⟨⟨by omega,fun p hp=>?_⟩,⟨by omega,fun l hl=>?_⟩,⟨by omega,fun m hm=>?_⟩,⟨by omega,fun c hc=>?_⟩,⟨by omega,fun x hx=>?_⟩⟩
 ·obtain ⟨a,ha⟩:=L1 hp;have h5:=ok.atP a p ha;refine hg p h5.1 ?_;have:(items.getD a []).length<=20:=by
   rw [LL];cases e:items[a]? with
   | none=>simp
   | some z=>exact hS.l20 a z e
  omega
 ·obtain ⟨r,hr⟩:=L1 hl;have:=ok.room r l hr;have:=hS.m2;exact ⟨by omega,fun x hx=>hdep x (h.rg l hl x hx) (ok.depR r l x hr hx).1 (ok.depR r l x hr hx).2⟩
 ·obtain ⟨i,hi⟩:=L1 hm;obtain ⟨o1,o2,o3⟩:=ok.mem i m hi;have hk:=h.mm m hm;refine ⟨hk.1,hg _ o1.dep (by omega),by have:=o1.len;omega,fun y hy=>⟨hk.2 y hy,?_⟩⟩;have:=o3 y hy;have:=o1.n y hy;exact hg _ (by omega) (by omega)
 ·have:=ok.cho c hc;unfold sD at this;have hin:(aa n c.Node.toNat).In.length<=1000:=by
   have:=uz (hS.ndI c.Node.toNat (by omega)) (hS.inR c.Node.toNat (by omega)) hS.r1;omega
  exact ⟨hg _ (by omega) (by omega),hg _ (by omega) (by omega)⟩
 ·exact hdep x (h.out x hx) (ok.depO x hx).1 (ok.depO x hx).2
section
def eU (n:Net) (c:Choice) (m:Move):Bool:=!decide ((aa n m.Node.toNat).Kind=6) || (decide (m.Node=c.Node) && decide (m.Lane=c.Lane))
def repM (n:Net) (items:List (List Item)):Nat->State->List Choice->Option (State × Int)
 | _,s,[]=>some (s,0)
 | 0,s,_::_=>none
 | f+1,s,c::l =>
  match (bb n items s).find? (eU n c) with
  | none=>some (noS,11)
  | some m=>repM n items f (doMv n items s m) (if (aa n m.Node.toNat).Kind=6 then l else c::l)
section
variable {n:Net} {items:List (List Item)}
theorem Cu {s:State} {m:Move} (h:m∈bb n items s):(doMv n items s m).Choices=if (aa n m.Node.toNat).Kind=6 then s.Choices++[⟨m.Node,m.Lane⟩] else s.Choices:=by obtain ⟨i,k,rfl,hi,hk,hc⟩:=lM h;obtain ⟨it,hh,_⟩:=oa hc;unfold doMv doM;simp only [L7,hh]
theorem vK (hS:RightS n items) (hi:gL (gL dk) items):∀ (f:Nat) (s:State) (l:List Choice),Inv n items s->KV s->muN n items s<f ->
  ∃ r,repM n items f s l=some r/\(r.2=0->Inv n items r.1/\KV r.1/\r.1.Choices=s.Choices++l)/\(r.2≠0->r=(noS,11))
 | f,s,[],hI,hk,hf=>⟨(s,0),by cases f<;>rfl,fun _=>⟨hI,hk,by simp⟩,fun h=>absurd rfl h⟩
 | 0,s,c::l,hI,hk,hf=>by omega
 | f+1,s,c::l,hI,hk,hf=>by
  unfold repM;cases hm:(bb n items s).find? (eU n c) with
  | none=>exact ⟨_,rfl,fun h=>absurd h (by decide),fun _=>rfl⟩
  | some m =>
   have hmem:=Na hm;obtain ⟨h1,h2⟩:=hI.doMv hS hmem;have hk':KV (doMv n items s m):=kv_do hi hk _ _;have hch:=Cu hmem;obtain ⟨r,e1,e2,e3⟩:=vK hS hi f (doMv n items s m) (if (aa n m.Node.toNat).Kind=6 then l else c::l) h1 hk' (by omega);refine ⟨r,e1,fun h0=>?_,e3⟩;obtain ⟨g1,g2,g3⟩:=e2 h0;refine ⟨g1,g2,?_⟩;rw [g3,hch];by_cases h6:(aa n m.Node.toNat).Kind=6
   ·rw [if_pos h6,if_pos h6];have hb:=List.find?_some hm;unfold eU at hb;simp only [h6,decide_true,NG,NW,MF,decide_eq_true_eq] at hb;have:(⟨m.Node,m.Lane⟩:Choice)=c:=by cases c;simp_all
    rw [this];simp
   ·rw [if_neg h6,if_neg h6]
end
end
section
theorem Ih (p:List UInt8) (h:okP p):one (frm p)=some p:=by
 have h1:=y7 p [] h;rw [L3] at h1;have h2:=l9 p;have h3:records (frm p).length (frm p)=([p],p.length+3):=by
  rw [h2];unfold records;rw [h1];have h4:(frm p).drop (p.length+3)=[]:=by rw [<- h2];exact MJ
  have h5:∀ m,records m []=([],0):=fun m=>by cases m<;>rfl
  simp only;rw [h4,h5];rfl
 unfold one;rw [h3];simp only;rw [if_pos h2.symm]
theorem Bx (epoch n:Nat) (b:List UInt8) (k:Nat) (hk:k<60):secP (frm (pay epoch n b k)) k=some (pay epoch n b k):=by
 have h1:=sW epoch n b k;unfold secP;rw [Ih _ (BX epoch n b k)];simp only;have h2:((pay epoch n b k).getD 1 0).toNat=k:=by unfold pay;simp;omega
 rw [if_pos ⟨h1.1,h2⟩]
theorem qm:∀ (ws:List Write) (s:List UInt8) (i:Int),(∀ w,w∈ws->w.At≠i)->seen s ws i=s
 | [],s,i,h=>rfl
 | w::ws,s,i,h=>by show seen (if w.At=i then w.Bytes else s) ws i=s;rw [if_neg (h w (.head _))];exact qm ws s i fun x hx=>h x (.tail _ hx)
theorem Bs:∀ (ws:List Write) (s:List UInt8) (i:Int),seen s ws i=s∨∃ w,w∈ws/\w.At=i/\seen s ws i=w.Bytes
 | [],s,i=>.inl rfl
 | w::ws,s,i=>by
  have e:seen s (w::ws) i=seen (if w.At=i then w.Bytes else s) ws i:=rfl;rw [e];rcases Bs ws (if w.At=i then w.Bytes else s) i with h | ⟨x,hx,h1,h2⟩
  ·by_cases hw:w.At=i
   ·rw [if_pos hw] at h ⊢;exact .inr ⟨w,.head _,hw,h⟩
   ·rw [if_neg hw] at h ⊢;exact .inl h
  ·exact .inr ⟨x,.tail _ hx,h1,h2⟩
section
variable (slot epoch n:Nat) (b:List UInt8)
theorem sR:∀ (K:Nat) (w:Write),w∈wsP slot epoch n b K->∃ k,k<=K/\w=wOf slot epoch n b k
 | 0,w,h=>⟨0,LM _,by simpa [wsP] using h⟩
 | K+1,w,h=>by
  rcases Md.1 h with h | h
  ·exact ⟨K+1,LM _,h⟩
  ·obtain ⟨k,h1,h2⟩:=sR K w h;exact ⟨k,by omega,h2⟩
theorem zp:∀ (K m:Nat) (w:Write),m<=K->w∈(wsP slot epoch n b K).take m->∃ k,1<=k/\k<=K/\w=wOf slot epoch n b k
 | K,0,w,hm,h=>by simp at h
 | 0,m+1,w,hm,h=>by omega
 | K+1,m+1,w,hm,h=>by
  rw [show wsP slot epoch n b (K+1)=wOf slot epoch n b (K+1)::wsP slot epoch n b K from rfl,List.take_succ_cons] at h;rcases Md.1 h with h | h
  ·exact ⟨K+1,by omega,LM _,h⟩
  ·obtain ⟨k,h1,h2,h3⟩:=zp K m w (by omega) h;exact ⟨k,h1,by omega,h3⟩
theorem AL:∀ (K k:Nat) (s:List UInt8),k<=K->seen s (wsP slot epoch n b K) ((60*slot+k:Nat):Int)=frm (pay epoch n b k)
 | 0,k,s,h=>by
  have:k=0:=by omega
  subst this;show (if (wOf slot epoch n b 0).At=((60*slot+0:Nat):Int) then (wOf slot epoch n b 0).Bytes else s)=_;rw [if_pos (show (wOf slot epoch n b 0).At=((60*slot+0:Nat):Int) from rfl)];rfl
 | K+1,k,s,h=>by
  show seen (if (wOf slot epoch n b (K+1)).At=((60*slot+k:Nat):Int) then (wOf slot epoch n b (K+1)).Bytes else s) (wsP slot epoch n b K) ((60*slot+k:Nat):Int)=_;by_cases hk:k=K+1
  ·subst hk;rw [if_pos (show (wOf slot epoch n b (K+1)).At=((60*slot+(K+1):Nat):Int) from rfl),qm _ _ _ fun w hw=>?_]
   ·rfl
   ·obtain ⟨j,h1,rfl⟩:=sR slot epoch n b K w hw;show ((60*slot+j:Nat):Int)≠_;omega
  ·exact AL K k _ (by omega)
theorem Im (hs:slot<=1) {K:Nat} (hK:K<60):∀ w,w∈wsP slot epoch n b K->okW w:=fun w hw=>by obtain ⟨k,h1,rfl⟩:=sR slot epoch n b K w hw;exact Cx slot epoch n b k hs (by omega)
end
theorem r8 {A B:List (List UInt8)} {slot:Nat} (h:∀ k,k<60->gt A (60*slot+k)=gt B (60*slot+k)):cq A slot=cq B slot:=by
 have h0:=h 0 (by omega);rw [MB] at h0;have key:∀ (hd:List UInt8) (m k:Nat) (acc:List UInt8),k+m<=60->col A slot hd m k acc=col B slot hd m k acc:=by
  intro hd m;induction m with
  | zero=>intro k acc _;rfl
  | succ m ih =>
   intro k acc hk;unfold col;rw [h k (by omega)];split
   ·rfl
   ·split
    ·exact ih (k+1) _ (by omega)
    ·rfl
 unfold cq;rw [h0];split
 ·rfl
 ·split
  ·rename_i hc;rw [key _ _ 1 [] (by omega)]
  ·rfl
theorem F5 {S:List (List UInt8)} {slot epoch n:Nat} {b:List UInt8} (he:epoch<=200) (hn:n=(b.length+49) / 50) (h60:n<60) (h:∀ k,k<=n->gt S (60*slot+k)=frm (pay epoch n b k)):cq S slot=some (b,epoch):=by
 have h0:=h 0 (by omega);rw [MB] at h0;have hp0:pay epoch n b 0=[UInt8.ofNat epoch,UInt8.ofNat 0,UInt8.ofNat n]:=by unfold pay;rw [if_neg (by omega)];rfl
 have e1:(UInt8.ofNat epoch).toNat=epoch:=by simp;omega
 have e2:(UInt8.ofNat n).toNat=n:=by simp;omega
 have key:∀ (m k:Nat) (acc:List UInt8),k+m=n+1->1<=k->acc=b.take (50*(k - 1))->col S slot [UInt8.ofNat epoch,UInt8.ofNat 0,UInt8.ofNat n] m k acc=some b:=by
  intro m;induction m with
  | zero =>
   intro k acc hk h1 ha;show some acc=some b;rw [ha,Mm (by omega)]
  | succ m ih =>
   intro k acc hk h1 ha;unfold col;rw [h k (by omega),Bx epoch n b k (by omega)];simp only;have hp:pay epoch n b k=[UInt8.ofNat epoch,UInt8.ofNat k,UInt8.ofNat n]++(b.take (50*k)).drop (50*(k - 1)):=by unfold pay;rw [if_pos (by omega)]
   have hl:(pay epoch n b k).length=3+(min (50*k) b.length - 50*(k - 1)):=by rw [hp];simp;omega
   have hd:(pay epoch n b k).drop 3=(b.take (50*k)).drop (50*(k - 1)):=by rw [hp];rfl
   have g0:(pay epoch n b k).getD 0 0=UInt8.ofNat epoch:=by rw [hp];rfl
   have g2:(pay epoch n b k).getD 2 0=UInt8.ofNat n:=by rw [hp];rfl
   rw [if_pos ⟨g0,g2,by omega⟩];refine ih (k+1) _ (by omega) (by omega) ?_;rw [hd,ha];have:b.take (50*(k - 1))=(b.take (50*k)).take (50*(k - 1)):=by rw [NU];congr 1;omega
   rw [this,Mp];congr 1
 unfold cq;rw [h0,Bx epoch n b 0 (by omega),hp0];simp only;have hc:([UInt8.ofNat epoch,UInt8.ofNat 0,UInt8.ofNat n].length=3/\([UInt8.ofNat epoch,UInt8.ofNat 0,UInt8.ofNat n].getD 0 0).toNat<=200/\([UInt8.ofNat epoch,UInt8.ofNat 0,UInt8.ofNat n].getD 2 0).toNat<60):=⟨rfl,by show (UInt8.ofNat epoch).toNat<=200;omega,by show (UInt8.ofNat n).toNat<60;omega⟩
 rw [if_pos hc];have:col S slot [UInt8.ofNat epoch,UInt8.ofNat 0,UInt8.ofNat n] (UInt8.ofNat n).toNat 1 []=some b:=key _ 1 [] (by omega) (by omega) rfl;show (col S slot [UInt8.ofNat epoch,UInt8.ofNat 0,UInt8.ofNat n] (UInt8.ofNat n).toNat 1 []).map (fun b=>(b,(UInt8.ofNat epoch).toNat))=_;rw [this,e1];rfl
end
def okC (c:Choice):Prop:=0<=c.Node/\c.Node<12/\0<=c.Lane/\c.Lane<16
instance (c:Choice):Decidable (okC c):=by unfold okC;infer_instance
def dJ (c:Choice):List UInt8:=[UInt8.ofNat c.Node.toNat,UInt8.ofNat c.Lane.toNat]
def numsC (c:Choice):List Int:=[c.Node,c.Lane]
def dx (l:List Choice):List UInt8 × Int:=if 30<l.length then ([],2) else if ∀ c,c∈l->okC c then (l.flatMap dJ,0) else ([],3)
theorem okC_t {c:Choice} (h:okC c):(decide (c.Node<0)=false)/\(decide (c.Node >= 12)=false)/\(decide (c.Lane<0)=false)/\(decide (c.Lane >= 16)=false)/\(decide (c.Node > 11)=false)/\(decide (c.Lane > 15)=false):=by unfold okC at h;refine ⟨?_,?_,?_,?_,?_,?_⟩<;>exact decide_eq_false (by omega)
theorem J5 (c:Choice):((decide (c.Node<0)) || ((decide (c.Node >= 12)) || ((decide (c.Lane<0)) || decide (c.Lane >= 16))))=!decide (okC c):=by
 by_cases h:okC c
 ·obtain ⟨a,b,d,e,_,_⟩:=okC_t h;rw [a,b,d,e,decide_eq_true h];rfl
 ·rw [decide_eq_false h];unfold okC at h;by_cases h1:c.Node<0
  ·rw [decide_eq_true h1];rfl
  by_cases h2:c.Node >= 12
  ·rw [decide_eq_true h2];simp
  by_cases h3:c.Lane<0
  ·rw [decide_eq_true h3];simp
  rw [decide_eq_true (show c.Lane >= 16 by omega)];simp
theorem zC {n:Int} (h0:0<=n) (h1:n<256):IntKind.u8.wrap n=n:=by
 have:n=((n.toNat:Nat):Int):=by omega
 rw [this,tp];congr 1;omega
theorem Js (l:List Choice) (h:∀ c,c∈l->okC c):bV (l.flatMap numsC)=l.flatMap dJ:=by
 induction l with
 | nil=>rfl
 | cons c l ih =>
  have:=ih (fun x hx=>h x (by simp [hx]));simp only [ML];rw [<- this];simp [bV,numsC,dJ]
theorem rE (l:List Choice):py l=some (dx l):=by
 unfold py dx;by_cases h1:30<l.length
 ·rw [if_pos (by simp;omega),if_pos h1]
 rw [if_neg (by simp;omega),if_neg h1];have:=nM (σ:=List Int) l (by omega) (fun k st=>((k:Int),st)) (body:=fun ss:Int × List Int=>jT l ss.1 ss.2)
  (fun k c st=>if okC c then (app st (numsC c)).map .inl else some (.inr ([],3))) (fun st=>some (bV st,0)) []
  (fun k c st _ _ h1 h2 h3=>by
   show jT l (k:Int) st=_;unfold jT;rw [h2,h1,h3];simp only [if_true,LF,J5];by_cases hc:okC c
   ·have hn:=hc;unfold okC at hn;rw [if_neg (by simp [hc]),if_pos hc,zC (by omega) (by omega),zC (by omega) (by omega)];show (app st (numsC c)).bind _=_;cases app st (numsC c)<;>rfl
   ·rw [if_pos (by simp [hc]),if_neg hc];rfl)
  (fun st h=>by show jT l (l.length:Int) st=_;unfold jT;rw [h];rfl)
 refine Eq.trans this ?_;have fold:∀ (ys:List Choice) (k:Nat) (st:List Int),st.length+2*ys.length<=1099511627776 ->
   dO (σ:=List Int) (fun k c st=>if okC c then (app st (numsC c)).map .inl else some (.inr ([],3))) (fun st=>some (bV st,0)) k ys st=some (if ∀ c,c∈ys->okC c then (bV (st++ys.flatMap numsC),(0:Int)) else ([],3)):=by
  intro ys
  induction ys with
  | nil=>intro k st _;simp [dO]
  | cons y ys ih =>
   intro k st hl
   simp only [LW] at hl
   unfold dO
   by_cases hy:okC y
   ·rw [if_pos hy,cJ (by simp [numsC];omega)]
    simp only [MQ]
    rw [ih (k+1) _ (by simp [numsC];omega)]
    by_cases hall:∀ c,c∈ys->okC c
    ·rw [if_pos hall,if_pos (by intro c hc;rcases Md.1 hc with rfl | hc;exact hy;exact hall c hc)]
     simp
    ·rw [if_neg hall,if_neg (fun h=>hall (fun c hc=>h c (by simp [hc])))]
   ·rw [if_neg hy,if_neg (fun h=>hy (h y (by simp)))]
 rw [fold l 0 [] (by simp;omega)];by_cases hall:∀ c,c∈l->okC c
 ·rw [if_pos hall,if_pos hall,My,Js l hall]
 ·rw [if_neg hall,if_neg hall]
def dI:List UInt8->Option (List Choice)
 | []=>some []
 | [_]=>none
 | a::b::r=>if a.toNat<12/\b.toNat<16 then (dI r).map fun l=>⟨a.toNat,b.toNat⟩::l else none
theorem yL:∀ (b:List UInt8) (l:List Choice),dI b=some l->2*l.length=b.length
 | [],l,h=>by unfold dI at h;cases h;rfl
 | [_],l,h=>by unfold dI at h;cases h
 | a::b::r,l,h=>by
  unfold dI at h;split at h
  ·cases hr:dI r with
   | none=>rw [hr] at h;cases h
   | some q =>
    rw [hr] at h;cases h;have:=yL r q hr;simp;omega
  ·cases h
theorem yd:∀ (b:List UInt8),b.length % 2=1->dI b=none
 | [],h=>by simp at h
 | [_],_=>rfl
 | a::b::r,h=>by unfold dI;rw [yd r (by simp at h;omega)];split<;>rfl
def km (b:List UInt8):List Choice × Int:=if 60<b.length then ([],2) else match dI b with | none=>([],12) | some l=>(l,0)
theorem DC (b:List UInt8):pm b=some (km b):=by
 unfold pm km;by_cases h1:60<b.length
 ·rw [if_pos (by simp;omega),if_pos h1]
 rw [if_neg (by simp;omega),if_neg h1];have hrem:rem (b.length:Int) 2=some ((b.length % 2:Nat):Int):=by unfold rem;rw [if_neg (by decide)];rfl
 rw [hrem];simp only [LF];by_cases h2:b.length % 2=1
 ·rw [if_pos (by simp [h2]),yd b h2]
 rw [if_neg (by simp;omega)];have key:∀ (n k:Nat) (acc:List Choice),k+2*n=b.length->acc.length<=k ->
   iter (fun ss:Int × List Choice=>il b ss.1 ss.2) ((k:Int),acc)=some (match dI (b.drop k) with | none=>([],12) | some l=>(acc++l,0)):=by
  intro n
  induction n with
  | zero =>
   intro k acc hk ha
   have e:il b (k:Int) acc=some (.inr (acc,0)):=by unfold il;rw [if_neg (by simp;omega)];rfl
   rw [aH];simp only [e]
   rw [Mi (by omega)];simp [dI]
  | succ n ih =>
   intro k acc hk ha
   have hlt:k<b.length:=by omega
   have hlt2:k+1<b.length:=by omega
   have hd:b.drop k=b[k]::b[k+1]::b.drop (k+2):=by rw [LU hlt,LU hlt2]
   have hx:=bv (LG hlt)
   have hy:=bv (LG hlt2)
   generalize b[k]=x at hd hx
   generalize b[k+1]=y at hd hy
   have w1:=bt (k:=k) (by omega)
   have w2:IntKind.i64.wrap ((k:Int)+2)=((k+2:Nat):Int):=by rw [bA (by omega) (by omega)];rfl
   rw [hd]
   unfold dI
   by_cases hc:x.toNat<12/\y.toNat<16
   ·have e:il b (k:Int) acc=some (.inl (((k+2:Nat):Int),acc++[⟨x.toNat,y.toNat⟩])):=by
     unfold il;rw [if_pos (by simp;omega),hx,w1];simp only [LF];rw [hy];simp only [LF,ff];rw [if_neg (by simp;omega),cJ (by simp;omega)];simp only [LF,w2]
    rw [aH];simp only [e]
    rw [ih (k+2) _ (by omega) (by simp;omega),if_pos hc]
    cases dI (b.drop (k+2))<;>simp
   ·have e:il b (k:Int) acc=some (.inr ([],12)):=by
     unfold il;rw [if_pos (by simp;omega),hx,w1];simp only [LF];rw [hy];simp only [LF,ff];rw [if_pos (by simp;omega)];rfl
    rw [aH];simp only [e]
    rw [if_neg hc]
 have:=key (b.length / 2) 0 [] (by omega) (by simp);simp only [MD,My] at this;exact this
theorem xn:∀ (l:List Choice),(∀ c,c∈l->okC c)->dI (l.flatMap dJ)=some l
 | [],_=>rfl
 | c::l,h=>by
  have hc:=h c (by simp);unfold okC at hc;have ih:=xn l (fun x hx=>h x (by simp [hx]));simp only [ML,dJ,Nt,My];unfold dI;have e1:(UInt8.ofNat c.Node.toNat).toNat=c.Node.toNat:=by simp;omega
  have e2:(UInt8.ofNat c.Lane.toNat).toNat=c.Lane.toNat:=by simp;omega
  rw [e1,e2,if_pos (by omega)];have:l.flatMap (fun c=>[UInt8.ofNat c.Node.toNat,UInt8.ofNat c.Lane.toNat])=l.flatMap dJ:=rfl;rw [show (List.flatMap dJ l)=l.flatMap dJ from rfl,ih];simp only [MQ,Ng,Nl,and_true];cases c;simp at hc ⊢;omega
theorem ul (l:List Choice):(l.flatMap dJ).length=2*l.length:=by
 induction l with
 | nil=>rfl
 | cons c l ih=>simp [ML,dJ,ih];omega
def dB (ep:Int) (s:List UInt8):List Choice :=
 match records s.length s with
 | ([p],n)=>if n=s.length/\p.head?.map (fun c=>(c.toNat:Int))=some ep then (km p.tail).1 else []
 | _=>[]
def bd (ep:Int):List (List UInt8)->List Choice × Nat
 | []=>([],0)
 | s::r=>if dB ep s=[] then ([],0) else (dB ep s++(bd ep r).1,1+(bd ep r).2)
theorem HV {b p:List UInt8} (h:gE b=some p):p≠[]/\p.length<=60:=by
 cases b with
 | nil=>cases h
 | cons c t =>
  simp only [gE] at h;split at h
  ·cases h
  ·rename_i hb;split at h
   ·cases h
   ·cases h;constructor
    ·intro h0;have:(t.take c.toNat).length=0:=by rw [h0];rfl
     rw [L8] at this;omega
    ·simp;omega
theorem xE:∀ (n:Nat) (b p:List UInt8),p∈(records n b).1->p≠[]/\p.length<=60
 | 0,b,p,h=>by simp [records] at h
 | n+1,b,p,h=>by
  unfold records at h;split at h
  ·simp at h
  ·rename_i q hq;rcases Md.1 h with h | h
   ·rw [h];exact HV hq
   ·exact xE n _ p h
theorem xY (ep:Int) (s:List UInt8) :
  ((records s.length s).1.length≠1/\dB ep s=[]) ∨
  ∃ c t,(records s.length s).1=[c::t]/\t.length<=59/\(((records s.length s).2≠s.length/\dB ep s=[])∨((records s.length s).2=s.length/\(c.toNat:Int)≠ep/\dB ep s=[])∨((records s.length s).2=s.length/\(c.toNat:Int)=ep/\dB ep s=(km t).1)):=by
 have hm:=fun p=>xE s.length s p
 unfold dB
 generalize records s.length s=R at hm
 obtain ⟨l,n⟩:=R
 match l,hm with
 | [],_=>exact .inl ⟨by simp,rfl⟩
 | a::b::r,_=>exact .inl ⟨by simp,rfl⟩
 | [p],hm =>
  have:=hm p (by simp)
  cases p with
  | nil=>exact absurd rfl this.1
  | cons c t =>
   refine .inr ⟨c,t,rfl,by have:=this.2;simp at this;omega,?_⟩
   by_cases h1:n=s.length
   ·by_cases h2:(c.toNat:Int)=ep
    ·exact .inr (.inr ⟨h1,h2,by simp [h1,h2]⟩)
    ·exact .inr (.inl ⟨h1,h2,by simp [h1,h2]⟩)
   ·exact .inl ⟨h1,by simp [h1]⟩
theorem yk {t:List UInt8} (h:t.length<=59):(km t).1=(dI t).getD []/\km t=match dI t with | none=>([],12) | some l=>(l,0):=by
 have e:km t=match dI t with | none=>([],12) | some l=>(l,0):=by unfold km;rw [if_neg (by omega)];try (cases dI t<;>rfl)
 refine ⟨?_,e⟩;rw [e];cases dI t<;>rfl
theorem yC (S:List (List UInt8)) (w:List Write) (ep:Int) (k:Nat) (h:∀ s,s∈S->okS s):ne (k:Int) S w ep=some (match S[k]? with | some s=>dB ep s | none=>[]):=by
 unfold ne;by_cases hk:S.length<=k
 ·rw [if_pos (by simp;omega),Mb hk]
 rw [if_neg (by simp;omega)];obtain ⟨s,hs⟩:∃ s,S[k]?=some s:=⟨_,LG (by omega)⟩
 have hsl:=h s (LJ hs);unfold okS at hsl;rw [bv hs];simp only [LF,xl,hs];have hr:readR s=((records s.length s).1,((records s.length s).2:Int),0):=by unfold readR;rw [if_neg (by omega)]
 rw [hr];simp only;rcases xY ep s with ⟨h1,h2⟩ | ⟨c,t,h1,ht,h3⟩
 ·rw [if_pos (by simp;omega),h2];rfl
 ·rw [h1,if_neg (by simp)];have e0:ixN [c::t] 0=some 0:=fK (xs:=[c::t]) (k:=0) (by simp);have e1:idx (c::t) 0=some c:=by simp [idx]
  have e2:sub (c::t) 1 ((c::t).length:Int)=some t:=by have:=jv (xs:=c::t) (i:=1) (by simp);simpa using this
  rw [e0];simp only [LF,Nu,e1,ff];rcases h3 with ⟨h4,h5⟩ | ⟨h4,h5,h6⟩ | ⟨h4,h5,h6⟩
  ·rw [if_pos (by simp;omega),h5];rfl
  ·rw [if_neg (by simp;omega),h6];simp [h5]
  ·rw [if_neg (by simp;omega),h6,h5];simp only [bne_self_eq_false,LF,LV,if_false];rw [e2];simp [DC]
theorem zO (ep:Int) (s:List UInt8):(dB ep s).length<=30:=by
 rcases xY ep s with ⟨h1,h2⟩ | ⟨c,t,h1,ht,h3⟩
 ·rw [h2];simp
 ·rcases h3 with ⟨h4,h5⟩ | ⟨h4,h5,h6⟩ | ⟨h4,h5,h6⟩
  ·rw [h5];simp
  ·rw [h6];simp
  ·rw [h6,(yk ht).1];cases hp:dI t with
   | none=>simp
   | some l=>have:=yL t l hp;simp;omega
theorem IH {d:Disk} (hd:bF d) (ep:Int) (h0:0<=ep) (h1:ep<=200):ob d ep=some ((bd ep (d.Sectors.drop 120)).1,((bd ep (d.Sectors.drop 120)).2:Int),0):=by
 have hh:=hd;unfold bF at hh;unfold ob;rw [jo hd];simp only [LF];rw [if_neg (by simp),if_neg (by simp;omega)];have r0:=yC d.Sectors d.Wait ep 120 hd.2.2.1;rw [show ((120:Nat):Int)=120 from rfl] at r0;rw [r0];simp only [LF];have key:∀ (n k:Nat) (acc:List Choice),120+k+n=d.Sectors.length∨(n=0/\d.Sectors.length<=120+k/\k<=200)->acc.length<=30*k ->
   iter (fun gK:Int × (List Choice) × (List Choice)=>iq d ep gK.1 gK.2.1 gK.2.2) ((k:Int),acc,(match d.Sectors[120+k]? with | some s=>dB ep s | none=>[]))=some (acc++(bd ep (d.Sectors.drop (120+k))).1,((k+(bd ep (d.Sectors.drop (120+k))).2:Nat):Int),0):=by
  intro n
  induction n with
  | zero =>
   intro k acc hk ha
   rw [Mb (by omega)]
   have e:iq d ep (k:Int) acc []=some (.inr (acc,(k:Int),0)):=by unfold iq;rw [if_neg (by simp)];rfl
   rw [aH];simp only [e]
   rw [Mi (by omega)];simp [bd]
  | succ n ih =>
   intro k acc hk ha
   have hlt:120+k<d.Sectors.length:=by omega
   obtain ⟨s,hs⟩:∃ s,d.Sectors[120+k]?=some s:=⟨_,LG hlt⟩
   have hdr:d.Sectors.drop (120+k)=s::d.Sectors.drop (120+(k+1)):=by
    rw [LU hlt];have:d.Sectors[120+k]=s:=by rw [LG hlt] at hs;injection hs
    rw [this];rfl
   rw [hs,hdr]
   simp only
   by_cases hc:dB ep s=[]
   ·have e:iq d ep (k:Int) acc (dB ep s)=some (.inr (acc,(k:Int),0)):=by
     unfold iq;rw [hc,if_neg (by simp)];rfl
    rw [aH];simp only [e];simp [bd,hc]
   ·have hlen:=zO ep s
    have hpos:0<(dB ep s).length:=Nj.2 hc
    have r1:=yC d.Sectors d.Wait ep (120+(k+1)) hd.2.2.1
    have e:iq d ep (k:Int) acc (dB ep s)=some (.inl (((k+1:Nat):Int),acc++dB ep s,(match d.Sectors[120+(k+1)]? with | some s=>dB ep s | none=>[]))):=by unfold iq;rw [if_pos (by simp;omega),cJ (by omega),bt (by omega),bA (n:=120+((k+1:Nat):Int)) (by omega) (by omega)];simp only [LF];rw [show (120:Int)+((k+1:Nat):Int)=((120+(k+1):Nat):Int) by omega,r1];rfl
    rw [aH];simp only [e]
    rw [ih (k+1) _ (by omega) (by simp;omega)]
    simp [bd,hc];omega
 by_cases hlong:120<=d.Sectors.length
 ·have:=key (d.Sectors.length - 120) 0 [] (.inl (by omega)) (by simp);simpa using this
 ·have:=key 0 0 [] (.inr ⟨rfl,by omega,by omega⟩) (by simp);simpa using this
def bT (ep:Nat) (S:List (List UInt8)):Nat->Nat->List Choice->List Write->Disk × Int × Int
 | 0,a,_,w=>(⟨S,w⟩,(a:Int),0)
 | n+1,a,l,w =>
  if l=[] then (⟨S,w⟩,(a:Int),0)
  else if (dx (l.take 29)).2≠0 then (⟨[],[]⟩,0,(dx (l.take 29)).2)
  else if a=80 then (⟨[],[]⟩,0,8)
  else if w.length=300 then (⟨[],[]⟩,0,8)
  else bT ep S n (a+1) (l.drop 29) (w++[⟨((120+a:Nat):Int),frm (UInt8.ofNat ep::(dx (l.take 29)).1)⟩])
theorem xJ (l:List Choice) (h:l.length<=29):(dx l).1.length<=58:=by
 unfold dx;rw [if_neg (by omega)];split
 ·rw [ul];omega
 ·simp
theorem GU (ep:Nat) (hep:ep<=200) (S:List (List UInt8)):∀ (n a:Nat) (l:List Choice) (w:List Write),l.length<=n->l.length<=1099511627776->a<=80->bF ⟨S,w⟩ ->
  iter (fun tF:Int × (List Choice) × (List (List UInt8)) × (List Write)=>eP (ep:Int) tF.1 tF.2.1 tF.2.2.1 tF.2.2.2) ((a:Int),l,S,w)=some (bT ep S n a l w):=by
 intro n
 induction n with
 | zero =>
  intro a l w h hl ha hd
  have hl0:l=[]:=LR (by omega)
  subst hl0
  have e:eP (ep:Int) (a:Int) [] S w=some (.inr (⟨S,w⟩,(a:Int),0)):=by unfold eP;rw [if_neg (by simp)];rfl
  rw [aH];simp only [e];rfl
 | succ n ih =>
  intro a l w h hl ha hd
  by_cases hl0:l=[]
  ·subst hl0
   have e:eP (ep:Int) (a:Int) [] S w=some (.inr (⟨S,w⟩,(a:Int),0)):=by unfold eP;rw [if_neg (by simp)];rfl
   rw [aH];simp only [e];simp [bT]
  have hpos:0<l.length:=Nj.2 hl0
  have hmin:(if ((l).length:Int)<29 then ((l).length:Int) else 29)=((min l.length 29:Nat):Int):=by split<;>omega
  have htake:l.take (min l.length 29)=l.take 29:=by
   by_cases h29:l.length<=29
   ·rw [MI h29,Mm (by omega),Mm h29]
   ·rw [ND (by omega)]
  have hdrop:l.drop (min l.length 29)=l.drop 29:=by
   by_cases h29:l.length<=29
   ·rw [MI h29,Mi (by omega),Mi h29]
   ·rw [ND (by omega)]
  have s1:sub l 0 ((min l.length 29:Nat):Int)=some (l.take 29):=by rw [sub_0 (by omega),htake]
  have s2:sub l ((min l.length 29:Nat):Int) (l.length:Int)=some (l.drop 29):=by rw [jv (by omega),hdrop]
  have hcl:=xJ (l.take 29) (by simp;omega)
  unfold bT
  rw [if_neg hl0]
  by_cases hc:(dx (l.take 29)).2≠0
  ·have e:eP (ep:Int) (a:Int) l S w=some (.inr (⟨[],[]⟩,0,(dx (l.take 29)).2)):=by
    unfold eP;rw [if_pos (by simp;omega),hmin,s1];simp only [LF,rE];rw [if_pos (by simpa using hc)];rfl
   rw [aH];simp only [e];rw [if_pos hc]
  have hput:putFr (UInt8.ofNat ep::(dx (l.take 29)).1)=(frm (UInt8.ofNat ep::(dx (l.take 29)).1),0):=by unfold putFr;rw [if_neg (by simp),if_neg (by simp;omega)]
  have hfl:(frm (UInt8.ofNat ep::(dx (l.take 29)).1)).length<=62:=by simp [frm];omega
  rw [if_neg hc]
  by_cases ha80:a=80
  ·have e:eP (ep:Int) (a:Int) l S w=some (.inr (⟨[],[]⟩,0,8)):=by
    unfold eP;rw [if_pos (by simp;omega),hmin,s1];simp only [LF,rE];rw [if_neg (by simpa using hc),str_1,mo (by simp;omega)];simp only [LF,M9,rR,hput];rw [bA (n:=120+(a:Int)) (by omega) (by omega),if_pos (by simp;omega)];rfl
   rw [aH];simp only [e];rw [if_pos ha80]
  rw [if_neg ha80]
  have hh:=hd
  unfold bF at hh
  have w120:IntKind.i64.wrap (120+(a:Int))=((120+a:Nat):Int):=by rw [bA (by omega) (by omega)];omega
  by_cases hw:w.length=300
  ·have hW:iw ⟨S,w⟩ ((120+a:Nat):Int) (frm (UInt8.ofNat ep::(dx (l.take 29)).1))=some (⟨[],[]⟩,8):=by
    unfold iw;rw [jo hd];simp only [LF];rw [if_neg (by simp),if_neg (by simp;omega),if_neg (by simp;omega),if_pos (by simp [hw])]
   have e:eP (ep:Int) (a:Int) l S w=some (.inr (⟨[],[]⟩,0,8)):=by unfold eP;rw [if_pos (by simp;omega),hmin,s1];simp only [LF,rE];rw [if_neg (by simpa using hc),str_1,mo (by simp;omega)];simp only [LF,M9,rR,hput,w120];rw [if_neg (by simp;omega),hW];rfl
   rw [aH];simp only [e];rw [if_pos hw]
  rw [if_neg hw]
  have hW:=Ap hd ((120+a:Nat):Int) (frm (UInt8.ofNat ep::(dx (l.take 29)).1)) (by omega) (by omega) (by omega) (by show w.length<300;have:=hh.2.1;simp only at this;omega)
  have e:eP (ep:Int) (a:Int) l S w=some (.inl (((a+1:Nat):Int),l.drop 29,S,w++[⟨((120+a:Nat):Int),frm (UInt8.ofNat ep::(dx (l.take 29)).1)⟩])):=by unfold eP;rw [if_pos (by simp;omega),hmin,s1];simp only [LF,rE];rw [if_neg (by simpa using hc),str_1,mo (by simp;omega)];simp only [LF,M9,rR,hput,w120];rw [if_neg (by simp;omega),hW];simp only [LF];rw [if_neg (by simp),s2,bt (by omega)];rfl
  rw [aH];simp only [e]
  refine ih (a+1) (l.drop 29) _ (by simp;omega) (by simp;omega) (by omega) ⟨hh.1,?_,hd.2.2.1,?_⟩
  ·show (w++[_]).length<=300
   have:=hh.2.1
   simp only at this
   simp;omega
  ·intro x hx
   rcases LZ.1 hx with hx | hx
   ·exact hd.2.2.2 x hx
   ·simp at hx;subst hx;exact ⟨by simp;omega,by simp;omega,by show (frm _).length<=64;omega⟩
theorem Gg {d:Disk} (hd:bF d) (ep a:Nat) (l:List Choice) (hep:ep<=200) (ha:a<=80) (hl:l.length<=1099511627776):nK d (ep:Int) (a:Int) l=some (bT ep d.Sectors l.length a l d.Wait):=by unfold nK;rw [jo hd];simp only [LF];rw [if_neg (by simp),if_neg (by simp;omega)];exact GU ep hep d.Sectors l.length a l d.Wait (LM _) hl ha hd
def f3:List UInt8:=frm [3,2,1]
theorem zG (ep:Int):∀ S:List (List UInt8),(bd ep S).1.length<=30*S.length
 | []=>by simp [bd]
 | s::S=>by unfold bd;have:=zG ep S;have:=zO ep s;split<;>simp<;>omega
def ic (c:List Choice):Prop:=c≠[]/\c.length<=29/\∀ x,x∈c->okC x
def dS (ep:Nat) (c:List Choice):List UInt8:=frm (UInt8.ofNat ep::c.flatMap dJ)
def wr (ep:Nat):Nat->List (List Choice)->List Write
 | _,[]=>[]
 | k,c::cs=>⟨((120+k:Nat):Int),dS ep c⟩::wr ep (k+1) cs
theorem BV (ep:Nat):∀ (k:Nat) (cs:List (List Choice)),(wr ep k cs).length=cs.length
 | _,[]=>rfl
 | k,c::cs=>by simp [wr,BV ep (k+1) cs]
theorem Cl (ep:Nat):∀ (k:Nat) (cs ds:List (List Choice)),wr ep k (cs++ds)=wr ep k cs++wr ep (k+cs.length) ds
 | k,[],ds=>by simp [wr]
 | k,c::cs,ds=>by
  have e:k+1+cs.length=k+(cs.length+1):=by omega
  simp [wr,Cl ep (k+1) cs ds,e]
theorem qx (ep:Nat):∀ (k n:Nat) (cs:List (List Choice)),(wr ep k cs).take n=wr ep k (cs.take n)
 | k,0,cs=>by simp [wr]
 | k,n+1,[]=>by simp [wr]
 | k,n+1,c::cs=>by simp [wr,qx ep (k+1) n cs]
theorem Hd (ep:Nat) (c:List Choice) (h:c.length<=29):(dS ep c).length<=62:=by unfold dS;rw [l9,LW,ul];omega
theorem wr_ok (ep:Nat):∀ (k:Nat) (cs:List (List Choice)),k+cs.length<=80->(∀ c,c∈cs->ic c)->∀ w,w∈wr ep k cs->okW w
 | _,[],_,_,w,hw=>by simp [wr] at hw
 | k,c::cs,h,hc,w,hw=>by
  simp only [LW] at h;simp only [wr,Md] at hw;rcases hw with rfl | hw
  ·exact ⟨by show (0:Int)<=((120+k:Nat):Int);omega,by show ((120+k:Nat):Int)<200;omega,by show (dS ep c).length<=64;have:=Hd ep c (hc c (by simp)).2.1;omega⟩
  ·exact wr_ok ep (k+1) cs (by omega) (fun x hx=>hc x (by simp [hx])) w hw
theorem Bl (ep:Nat) (S:List (List UInt8)):∀ (n a:Nat) (l:List Choice) (w:List Write),l.length<=n->a<=80->(bT ep S n a l w).2.2=0 ->
  ∃ cs:List (List Choice),bT ep S n a l w=(⟨S,w++wr ep a cs⟩,((a+cs.length:Nat):Int),0)/\l=cs.flatten/\(∀ c,c∈cs->ic c)/\a+cs.length<=80
 | 0,a,l,w,h,ha,_=>by
  have hl0:l=[]:=LR (by omega);exact ⟨[],by simp [bT,wr],by simp [hl0],by simp,by simpa using ha⟩
 | n + 1,a,l,w,h,ha,he=>by
  unfold bT at he ⊢;by_cases hl0:l=[]
  ·rw [if_pos hl0];exact ⟨[],by simp [wr],by simp [hl0],by simp,by simpa using ha⟩
  rw [if_neg hl0] at he ⊢;by_cases hc:(dx (l.take 29)).2≠0
  ·rw [if_pos hc] at he;exact absurd he hc
  rw [if_neg hc] at he ⊢;by_cases h80:a=80
  ·rw [if_pos h80] at he;exact absurd he (by decide)
  rw [if_neg h80] at he ⊢;by_cases h300:w.length=300
  ·rw [if_pos h300] at he;exact absurd he (by decide)
  rw [if_neg h300] at he ⊢;have hpos:0<l.length:=Nj.2 hl0;have hall:∀ x,x∈l.take 29->okC x:=by
   by_cases hall:∀ x,x∈l.take 29->okC x
   ·exact hall
   ·exfalso;apply hc;unfold dx;rw [if_neg (by simp;omega),if_neg hall];decide
  have hch:dx (l.take 29)=((l.take 29).flatMap dJ,0):=by unfold dx;rw [if_neg (by simp;omega),if_pos hall]
  rw [hch] at he ⊢;obtain ⟨cs,h1,h2,h3,h4⟩:=Bl ep S n (a+1) (l.drop 29) _ (by simp;omega) (by omega) he;refine ⟨l.take 29::cs,?_,?_,?_,by simp;omega⟩
  ·rw [h1];have e:a+1+cs.length=a+(l.take 29::cs).length:=by simp;omega
   rw [e];simp [wr,dS]
  ·rw [Mu,<- h2,Mp]
  ·intro c hc;rcases Md.1 hc with rfl | hc
   ·exact ⟨fun h0=>by have:=congrArg List.length h0;rw [L8,Nx] at this;omega,by simp;omega,hall⟩
   ·exact h3 c hc
theorem Ah (ep ep':Nat) (he:ep<=200) (c:List Choice) (hc:ic c):dB (ep':Int) (dS ep c)=if ep=ep' then c else []:=by
 have hb:=ul c;have hok:okP (UInt8.ofNat ep::c.flatMap dJ):=⟨by simp,by rw [LW];have:=hc.2.1;omega⟩
 have hr:records (dS ep c).length (dS ep c)=([UInt8.ofNat ep::c.flatMap dJ],(dS ep c).length):=by
  have hl:(dS ep c).length=(UInt8.ofNat ep::c.flatMap dJ).length+3:=l9 _;have h0:=y7 (UInt8.ofNat ep::c.flatMap dJ) [] hok;rw [L3] at h0;rw [hl];generalize hm:(UInt8.ofNat ep::c.flatMap dJ).length+2=m;have e:(UInt8.ofNat ep::c.flatMap dJ).length+3=m+1:=by omega
  have hrec:gE (dS ep c)=some (UInt8.ofNat ep::c.flatMap dJ):=h0;have hdr:(dS ep c).drop ((UInt8.ofNat ep::c.flatMap dJ).length+3)=[]:=Mi (by omega);have hnil:∀ q,records q []=([],0):=by intro q;cases q<;>simp [records,gE]
  rw [e];simp only [records,hrec];rw [hdr,hnil];refine Prod.ext rfl ?_;show (UInt8.ofNat ep::c.flatMap dJ).length+3+0=m+1;omega
 unfold dB;rw [hr];have hep:((UInt8.ofNat ep).toNat:Int)=(ep:Int):=by simp;omega
 simp only [List.head?_cons,MQ,hep,true_and,List.tail_cons,Ng];by_cases h:ep=ep'
 ·rw [if_pos (by omega),if_pos h,(yk (by have:=hc.2.1;omega)).1,xn c hc.2.2];rfl
 ·rw [if_neg (by omega),if_neg h]
section
def logW (E:Nat) (w:Write):Prop:=okW w/\120<=w.At/\∀ ep:Nat,ep≠E->dB (ep:Int) w.Bytes=[]
theorem ol (E:Nat) (he:E<=200):∀ (k:Nat) (cs:List (List Choice)),k+cs.length<=80->(∀ c,c∈cs->ic c)->∀ w,w∈wr E k cs->logW E w
 | _,[],_,_,w,hw=>by simp [wr] at hw
 | k,c::cs,h,hc,w,hw=>by
  have hok:=wr_ok E k (c::cs) h hc w hw;simp only [wr,Md] at hw;rcases hw with rfl | hw
  ·refine ⟨hok,by show (120:Int)<=((120+k:Nat):Int);omega,fun ep hne=>?_⟩;show dB (ep:Int) (dS E c)=[]
   rw [Ah E ep he c (hc c L0),if_neg (fun e=>hne e.symm)]
  ·exact ol E he (k+1) cs (by simp only [LW] at h;omega) (fun x hx=>hc x (L2 _ hx)) w hw
structure Held (P:List UInt8->Prop) (E:Nat) (S:List (List UInt8)):Prop where
 own:E≠0->∃ b,P b/\cq S (E % 2)=some (b,E)
 old:∀ (sl:Nat) (h:List UInt8),sl<=1->secP (gt S (60*sl)) 0=some h->(h.getD 0 0).toNat=0∨(h.getD 0 0).toNat<E∨(sl=E % 2/\(h.getD 0 0).toNat<=E)
 log:∀ (i ep:Nat),120<=i->E<ep->dB (ep:Int) (gt S i)=[]
theorem yZ {S:List (List UInt8)} {sl:Nat} {x:List UInt8 × Nat} (h:cq S sl=some x):∃ hd,secP (gt S (60*sl)) 0=some hd/\x.2=(hd.getD 0 0).toNat/\x.2<=200:=by
 unfold cq at h;split at h
 ·cases h
 rename_i hd e;split at h
 ·rename_i hc;obtain ⟨b,_,rfl⟩:=L6.1 h;exact ⟨hd,e,rfl,hc.2.1⟩
 ·cases h
section
variable {P:List UInt8→Prop} {E:Nat} {S:List (List UInt8)}
theorem Held.other (h:Held P E S) {sl:Nat} {x:List UInt8 × Nat} (hs:sl<=1) (hx:cq S sl=some x):x.2=0∨x.2<E∨(sl=E % 2/\x.2<=E):=by obtain ⟨hd,h1,h2,_⟩:=yZ hx;rw [h2];exact h.old sl hd hs h1
theorem Held.mono {Q:List UInt8->Prop} (h:Held P E S) (hq:∀ b,P b->Q b):Held Q E S:=⟨fun h0=>by obtain ⟨b,h1,h2⟩:=h.own h0;exact ⟨b,hq b h1,h2⟩,h.old,h.log⟩
theorem HR:Held P 0 []:=by refine ⟨fun h=>absurd rfl h,fun sl h hs h1=>?_,fun i ep _ _=>rfl⟩;have e:gt [] (60*sl)=[]:=rfl;rw [e] at h1;cases h1
theorem u1 {ws:List Write} (hw:∀ w,w∈ws->logW E w) {i:Nat} (hi:i<120):gt (aK S ws) i=gt S i:=by rw [lZ ws S i (fun w h=>(hw w h).1),qm _ _ _ (fun w h=>by have:=(hw w h).2.1;omega)]
theorem Held.logs (h:Held P E S) {ws:List Write} (hw:∀ w,w∈ws->logW E w):Held P E (aK S ws):=by
 have hg:∀ sl,sl<=1->cq (aK S ws) sl=cq S sl:=fun sl hs=>r8 fun k hk=>u1 hw (by omega)
 refine ⟨fun h0=>?_,fun sl hd hs h1=>?_,fun i ep hi he=>?_⟩
 ·rw [hg _ (by omega)];exact h.own h0
 ·rw [u1 hw (by omega)] at h1;exact h.old sl hd hs h1
 ·rw [lZ ws S i (fun w h=>(hw w h).1)];rcases Bs ws (gt S i) i with e | ⟨w,h1,_,e⟩
  ·rw [e];exact h.log i ep hi he
  ·rw [e];exact (hw w h1).2.2 ep (by omega)
def cC (E:Nat) (b:List UInt8):List Write:=wsP ((E+1) % 2) (E+1) ((b.length+49) / 50) b ((b.length+49) / 50)
theorem uo (E:Nat) (b:List UInt8):(cC E b).length=(b.length+49) / 50+1:=Bq ..
theorem qi {b:List UInt8} (hb:(b.length+49) / 50<60):∀ w,w∈cC E b->okW w:=Im _ _ _ _ (by omega) hb
theorem kE {b:List UInt8} (hb:(b.length+49) / 50<60) (m i:Nat) (hi:120<=i∨∃ k,k<60/\i=60*(E % 2)+k):gt (aK S ((cC E b).take m)) i=gt S i:=by rw [lZ _ S i (fun w h=>qi hb w (LX h)),qm _ _ _ (fun w h=>?_)];obtain ⟨k,hk,rfl⟩:=sR _ _ _ _ _ w (LX h);show ((60*((E+1) % 2)+k:Nat):Int)≠(i:Int);rcases hi with hi | ⟨q,hq,hi⟩<;>omega
theorem Held.part (h:Held P E S) {b:List UInt8} (hb:(b.length+49) / 50<60) {m:Nat} (hm:m<=(b.length+49) / 50):Held P E (aK S ((cC E b).take m)):=by
 have hown:cq (aK S ((cC E b).take m)) (E % 2)=cq S (E % 2):=r8 fun k hk=>kE hb m _ (.inr ⟨k,hk,rfl⟩)
 have hhd:∀ sl,sl<=1->gt (aK S ((cC E b).take m)) (60*sl)=gt S (60*sl):=fun sl hs=>by
  by_cases h2:sl=E % 2
  ·exact kE hb m _ (.inr ⟨0,by omega,by rw [h2];rfl⟩)
  ·rw [lZ _ S _ (fun w h=>qi hb w (LX h)),qm _ _ _ (fun w h=>?_)];obtain ⟨k,hk,hk2,rfl⟩:=zp _ _ _ _ _ m w hm h;show ((60*((E+1) % 2)+k:Nat):Int)≠((60*sl:Nat):Int);omega
 refine ⟨fun h0=>by rw [hown];exact h.own h0,fun sl hd hs h1=>?_,fun i ep hi he=>?_⟩
 ·rw [hhd sl hs] at h1;exact h.old sl hd hs h1
 ·rw [kE hb m i (.inl hi)];exact h.log i ep hi he
theorem uq {b:List UInt8} (hE:E+1<=200) (hb:(b.length+49) / 50<60):cq (aK S (cC E b)) ((E+1) % 2)=some (b,E+1):=by
 refine F5 (n:=(b.length+49) / 50) hE rfl hb fun k hk=>?_
 rw [lZ _ S _ (qi hb)];exact AL _ _ _ _ _ k _ hk
theorem Held.full (h:Held P E S) {b:List UInt8} (hP:P b) (hE:E+1<=200) (hb:(b.length+49) / 50<60):Held P (E+1) (aK S (cC E b)):=by
 have hf:=uq (S:=S) hE hb;have ht:∀ i,(120<=i∨∃ k,k<60/\i=60*(E % 2)+k)->gt (aK S (cC E b)) i=gt S i:=fun i hi=>by have:=kE (S:=S) hb (cC E b).length i hi;rwa [ME] at this
 refine ⟨fun _=>⟨b,hP,hf⟩,fun sl hd hs h1=>?_,fun i ep hi he=>?_⟩
 ·by_cases h2:sl=(E+1) % 2
  ·obtain ⟨hd',e1,e2,_⟩:=yZ hf;rw [<- h2,h1] at e1;cases e1;right;right;exact ⟨h2,by rw [<- e2];exact LM _⟩
  ·have h3:sl=E % 2:=by omega
   rw [ht _ (.inr ⟨0,by omega,by rw [h3];rfl⟩)] at h1;rcases h.old sl hd hs h1 with e | e | ⟨_,e⟩
   ·exact .inl e
   ·exact .inr (.inl (by omega))
   ·exact .inr (.inl (by omega))
 ·rw [ht i (.inl hi)];exact h.log i ep hi (by omega)
end
theorem sC (S:List (List UInt8)) (a b:List Write):aK S (a++b)=aK (aK S a) b:=List.foldl_append
inductive Waits (P:List UInt8->Prop) (E:Nat):Bool->List Write->Prop
 | log {ws:List Write} (h:∀ w,w∈ws->logW E w):Waits P E false ws
 | slot {ws:List Write} {b:List UInt8} (h:∀ w,w∈ws->logW E w) (hP:P b) (hE:E+1<=200) (hb:(b.length+49) / 50<60):Waits P E true (ws++cC E b)
theorem Held.cut {P:List UInt8->Prop} {E:Nat} {S:List (List UInt8)} (h:Held P E S) {q:Bool} {W:List Write} (hW:Waits P E q W) (n:Nat):Held P E (aK S (W.take n))∨(q=true/\W.length<=n/\Held P (E+1) (aK S (W.take n))):=by
 cases hW with
 | log hw=>exact .inl (h.logs fun w hm=>hw w (LX hm))
 | @slot ws b hw hP hE hb =>
  rw [List.take_append,sC];have h1:Held P E (aK S (ws.take n)):=h.logs fun w hm=>hw w (LX hm)
  by_cases hn:n - ws.length<=(b.length+49) / 50
  ·exact .inl (h1.part hb hn)
  ·right;have hl:=uo E b;rw [Mm (l:=cC E b) (by omega)];exact ⟨rfl,by rw [LI];omega,h1.full hP hE hb⟩
theorem Held.flush {P:List UInt8->Prop} {E:Nat} {S:List (List UInt8)} (h:Held P E S) {q:Bool} {W:List Write} (hW:Waits P E q W):Held P (if q=true then E+1 else E) (aK S W):=by
 cases hW with
 | log hw=>exact h.logs hw
 | slot hw hP hE hb=>rw [sC];exact (h.logs hw).full hP hE hb
theorem Waits.ok {P:List UInt8->Prop} {E:Nat} {q:Bool} {W:List Write} (h:Waits P E q W):∀ w,w∈W->okW w:=by
 cases h with
 | log hw=>exact fun w hm=>(hw w hm).1
 | slot hw hP hE hb =>
  intro w hm;rcases LZ.1 hm with hm | hm
  ·exact (hw w hm).1
  ·exact qi hb w hm
end
def Rd {α:Type} (rd:List UInt8->Option ((α × List UInt8) ⊕ Unit)) (ok:α->Prop) (m:α->Nat):Prop :=
 ∀ b,b.length<=1048576->rd b=some (.inr ())∨∃ x r,rd b=some (.inl (x,r))/\ok x/\m x+r.length<=b.length
theorem Ia (z:Int):gI (IntKind.i64.wrap z):=by unfold gI;simp [IntKind.wrap,IntKind.signed,IntKind.bits];omega
theorem Ha (z k:Int) (h:0<=k):∃ y:Nat,shl .u64 z k=some (y:Int)/\y<18446744073709551616:=by unfold shl;rw [if_pos h,l5];generalize z*2 ^ (min k.toNat IntKind.u64.bits)=c;refine ⟨(c % 18446744073709551616).toNat,?_,by omega⟩;congr 1;omega
theorem or_lt (a b:Nat) (ha:a<18446744073709551616) (hb:b<18446744073709551616):a ||| b<18446744073709551616:=Nat.or_lt_two_pow (n:=64) ha hb
theorem hU:Rd dr gI mI:=by
 intro b hb;have key:∀ (f i s1:Nat),i+f=10->s1<18446744073709551616 ->
   iter (fun ak:Int × Int=>ee b ak.1 ak.2) ((s1:Int),(i:Int))=some (.inr ()) ∨
   ∃ n r,iter (fun ak:Int × Int=>ee b ak.1 ak.2) ((s1:Int),(i:Int))=some (.inl (n,r))/\gI n/\mI n+r.length<=b.length:=by
  intro f
  induction f with
  | zero =>
   intro i s1 hi hs
   left
   have h1:ee b (s1:Int) (i:Int)=some (.inr (.inr ())):=by unfold ee;rw [if_neg (by rw [decide_eq_true_eq];split<;>omega)];rfl
   rw [aH]
   simp only [h1]
  | succ f ih =>
   intro i s1 hi hs
   by_cases hlt:i<b.length
   ·have hx:b[i]?=some b[i]:=LG hlt
    generalize b[i]=x at hx
    have hix:=bv hx
    obtain ⟨y,hy,hy2⟩:=Ha (IntKind.u64.wrap (ibits .and .u8 (x.toNat:Int) 127)) (IntKind.i64.wrap (7*(i:Int))) (by rw [bA (by omega) (by omega)];omega)
    have hor:=or_lt s1 y hs hy2
    by_cases hc:x.toNat<128
    ·right
     have hsh:shr .u64 ((s1 ||| y:Nat):Int) 1=some (((s1 ||| y) / 2:Nat):Int):=by unfold shr;rw [if_pos (by omega)];show some (((s1 ||| y:Nat):Int).fdiv 2)=_;rw [MO _ (by omega)];rfl
     have h1:ee b (s1:Int) (i:Int)=some (.inr (.inl (ibits .xor .i64 (IntKind.i64.wrap (((s1 ||| y) / 2:Nat):Int)) (IntKind.i64.wrap (0 - (IntKind.i64.wrap (ibits .and .u64 ((s1 ||| y:Nat):Int) 1)))),b.drop (i+1)))):=by unfold ee;rw [if_pos (by rw [decide_eq_true_eq];split<;>omega),hix,LF,hy,LF,LF,if_pos (by simp;omega),bt (by omega),jv (by omega),LF,sr _ _ hs hy2,hsh];rfl
     rw [aH]
     simp only [h1]
     refine ⟨_,_,rfl,?_,?_⟩
     ·exact Ia _
     ·show 1+(b.drop (i+1)).length<=b.length
      rw [Mg];omega
    ·have h1:ee b (s1:Int) (i:Int)=some (.inl (((s1 ||| y:Nat):Int),((i+1:Nat):Int))):=by
      unfold ee;rw [if_pos (by rw [decide_eq_true_eq];split<;>omega),hix,LF,hy,LF,LF,if_neg (by simp;omega),bt (by omega),sr _ _ hs hy2]
     rw [aH]
     simp only [h1]
     exact ih (i+1) (s1 ||| y) (by omega) hor
   ·left
    have h1:ee b (s1:Int) (i:Int)=some (.inr (.inr ())):=by unfold ee;rw [if_neg (by rw [decide_eq_true_eq];split<;>omega)];rfl
    rw [aH]
    simp only [h1]
 exact key 10 0 0 (by omega) (by omega)
theorem A4 {α:Type} {m:α->Nat} (hm:∀ x,1<=m x):∀ l:List α,l.length<=(l.map m).sum
 | []=>by simp
 | x::l=>by have:=hm x;have:=A4 hm l;simp only [Mn,M5,LW];omega
theorem od {α:Type} {rd:List UInt8->Option ((α × List UInt8) ⊕ Unit)} {ok:α->Prop} {m:α->Nat} (hrd:Rd rd ok m) (hm:∀ x,1<=m x) {L:List UInt8->Option ((List α × List UInt8) ⊕ Unit)} {body:(Int × List UInt8)->Int × List UInt8 × List α->Option ((Int × List UInt8 × List α) ⊕ ((List α × List UInt8) ⊕ Unit))}
  (hL:∀ b,L b=bP (dr b) (some (.inr ())) fun x2=>(if ((decide (x2.1<0)) || decide (x2.1 > ((x2.2).length:Int)))=true then (some (.inr ())) else iter (body x2) (0,x2.2,[])))
  (h1:∀ (x2:Int × List UInt8) (k:Nat) b acc,decide ((k:Int)<x2.1)=true->IntKind.i64.wrap ((k:Int)+1)=((k+1:Nat):Int)->body x2 ((k:Int),b,acc)=bP (rd b) (Option.map Sum.inr (some (.inr ()))) fun x=>Option.bind (app acc [x.1]) fun y=>some (.inl (((k+1:Nat):Int),x.2,y)))
  (h2:∀ (x2:Int × List UInt8) (k:Int) b acc,decide (k<x2.1)=false->body x2 (k,b,acc)=some (.inr (.inl (acc,b)))):Rd L (fun l=>∀ x,x∈l->ok x) (mL m):=by
 intro b hb
 rw [hL]
 rcases hU b hb with h | ⟨N,b0,h,hN,hlen⟩
 ·left;rw [h];rfl
 ·rw [h,bK]
  have hlen':1+b0.length<=b.length:=hlen
  by_cases hbad:N<0∨N > (b0.length:Int)
  ·left
   rw [if_pos (by simpa [decide_eq_true_eq] using hbad)]
  ·rw [if_neg (by simpa [decide_eq_true_eq] using hbad)]
   obtain ⟨M,rfl⟩:=M2 (show 0<=N by omega)
   have key:∀ (f k:Nat) (c:List UInt8) (acc:List α),k+f=M->acc.length=k->(∀ x,x∈acc->ok x)->(acc.map m).sum+c.length<=b0.length ->
     iter (body ((M:Int),b0)) ((k:Int),c,acc)=some (.inr ())∨∃ l r,iter (body ((M:Int),b0)) ((k:Int),c,acc)=some (.inl (l,r))/\(∀ x,x∈l->ok x)/\(l.map m).sum+r.length<=b0.length:=by
    intro f
    induction f with
    | zero =>
     intro k c acc hk ha ho hs
     right
     have:k=M:=by omega
     subst this
     rw [aH,h2 _ _ c acc (by simp)]
     exact ⟨acc,c,rfl,ho,hs⟩
    | succ f ih =>
     intro k c acc hk ha ho hs
     rw [aH,h1 _ k c acc (by simp only [decide_eq_true_eq];omega) (bt (by omega))]
     have:=A4 hm acc
     rcases hrd c (by omega) with e | ⟨x,r,e,hx,hl⟩
     ·left;rw [e];rfl
     ·rw [e,bK,cJ (by simp;omega),LF]
      simp only
      exact ih (k+1) r (acc++[x]) (by omega) (by simp [ha]) (fun y hy=>by
       rcases LZ.1 hy with hy | hy
       ·exact ho y hy
       ·rw [MT] at hy;subst hy;exact hx) (by
       rw [MW,List.sum_append];simp only [Mn,NS,M5,List.sum_nil];omega)
   rcases key M 0 b0 [] (by omega) rfl (fun x hx=>(NE hx).elim) (by simp) with e | ⟨l,r,e,ho,hs⟩
   ·exact .inl e
   ·refine .inr ⟨l,r,e,ho,?_⟩
    have:mL m l=(l.map m).sum+1:=rfl
    omega
theorem I5:Rd na (gL gI) (mL mI) :=
 od hU (fun _=>LM _) (body:=fun x2 ak=>jc x2 ak.1 ak.2.1 ak.2.2) (fun b=>rfl)
  (fun x2 k b acc hd hw=>by simp only;unfold jc;rw [if_pos hd,hw]) (fun x2 k b acc hd=>by simp only;unfold jc;rw [hd];rfl)
theorem Jj:Rd lh dk cK:=by
 intro b hb;unfold lh;rcases hU b hb with h | ⟨x,r,h,gx,hx⟩
 ·left;rw [h];rfl
 rw [h,bK];have hx':1+r.length<=b.length:=hx;rcases hU r (by omega) with h | ⟨y,s,h,gy,hy⟩
 ·left;simp only [h];rfl
 simp only [h,bK];have hy':1+s.length<=r.length:=hy;rcases hU s (by omega) with h | ⟨z,t,h,gz,hz⟩
 ·left;simp only [h];rfl
 simp only [h,bK];have hz':1+t.length<=s.length:=hz;exact .inr ⟨_,_,rfl,⟨gx,gy,gz⟩,by show 3+t.length<=b.length;omega⟩
theorem G5:Rd ln kG hY:=by
 intro b hb;unfold ln;rcases hU b hb with h | ⟨x,r,h,gx,hx⟩
 ·left;rw [h];rfl
 rw [h,bK];have hx':1+r.length<=b.length:=hx;rcases hU r (by omega) with h | ⟨y,s,h,gy,hy⟩
 ·left;simp only [h];rfl
 simp only [h,bK];have hy':1+s.length<=r.length:=hy;exact .inr ⟨_,_,rfl,⟨gx,gy⟩,by show 2+s.length<=b.length;omega⟩
theorem F3:Rd lu kC g9:=by
 intro b hb;unfold lu;rcases hU b hb with h | ⟨x,r,h,gx,hx⟩
 ·left;rw [h];rfl
 rw [h,bK];have hx':1+r.length<=b.length:=hx;rcases hU r (by omega) with h | ⟨y,s,h,gy,hy⟩
 ·left;simp only [h];rfl
 simp only [h,bK];have hy':1+s.length<=r.length:=hy;exact .inr ⟨_,_,rfl,⟨gx,gy⟩,by show 2+s.length<=b.length;omega⟩
theorem Gl:Rd o9 (gL dk) (mL cK) :=
 od Jj (fun _=>by unfold cK;omega) (body:=fun x2 ak=>ja x2 ak.1 ak.2.1 ak.2.2) (fun b=>rfl)
  (fun x2 k b acc hd hw=>by simp only;unfold ja;rw [if_pos hd,hw]) (fun x2 k b acc hd=>by simp only;unfold ja;rw [hd];rfl)
theorem zt:Rd jM (gL dk) (mL cK):=by
 intro b hb;unfold jM;rcases Gl b hb with h | ⟨x,r,h,gx,hx⟩
 ·left;rw [h];rfl
 rw [h,bK];exact .inr ⟨x,r,rfl,gx,hx⟩
theorem Hc:Rd m9 (gL (gL dk)) (mL (mL cK)) :=
 od zt (fun _=>B0 _ _) (body:=fun x2 ak=>jb x2 ak.1 ak.2.1 ak.2.2) (fun b=>rfl)
  (fun x2 k b acc hd hw=>by simp only;unfold jb;rw [if_pos hd,hw]) (fun x2 k b acc hd=>by simp only;unfold jb;rw [hd];rfl)
theorem I9:Rd m7 (gL kG) (mL hY) :=
 od G5 (fun _=>by unfold hY;omega) (body:=fun x2 ak=>iZ x2 ak.1 ak.2.1 ak.2.2) (fun b=>rfl)
  (fun x2 k b acc hd hw=>by simp only;unfold iZ;rw [if_pos hd,hw]) (fun x2 k b acc hd=>by simp only;unfold iZ;rw [hd];rfl)
theorem Jw:Rd lr vi fH:=by
 intro b hb;unfold lr;rcases hU b hb with h | ⟨x,r,h,gx,hx⟩
 ·left;rw [h];rfl
 rw [h,bK];have hx':1+r.length<=b.length:=hx;rcases hU r (by omega) with h | ⟨y,s,h,gy,hy⟩
 ·left;simp only [h];rfl
 simp only [h,bK];have hy':1+s.length<=r.length:=hy;rcases I9 s (by omega) with h | ⟨z,t,h,gz,hz⟩
 ·left;simp only [h];rfl
 simp only [h,bK];exact .inr ⟨_,_,rfl,⟨gx,gz,gy⟩,by show mL hY z+2+t.length<=b.length;omega⟩
theorem H7:Rd m6 (gL vi) (mL fH) :=
 od Jw (fun _=>by unfold fH;omega) (body:=fun x2 ak=>iX x2 ak.1 ak.2.1 ak.2.2) (fun b=>rfl)
  (fun x2 k b acc hd hw=>by simp only;unfold iX;rw [if_pos hd,hw]) (fun x2 k b acc hd=>by simp only;unfold iX;rw [hd];rfl)
theorem Fp:Rd mZ (gL kC) (mL g9) :=
 od F3 (fun _=>by unfold g9;omega) (body:=fun x2 ak=>iY x2 ak.1 ak.2.1 ak.2.2) (fun b=>rfl)
  (fun x2 k b acc hd hw=>by simp only;unfold iY;rw [if_pos hd,hw]) (fun x2 k b acc hd=>by simp only;unfold iY;rw [hd];rfl)
theorem Ks {n:Net} (items:List (List Item)) (hio:∀ x∈n.Nodes,x.In.length<=1099511627776/\x.Out.length<=1099511627776) (hsrc:cP n items=0) (b:List UInt8) (hb:b.length<=1048576) :
  gc n items b=some (noS,12)∨∃ t,gc n items b=some (t,0)/\vr t/\mA t<=1048576/\jg n items t=some (b,0):=by
 unfold gc
 rw [rH n items hio,hsrc,LF,if_neg (by decide)]
 rcases I5 b hb with h | ⟨x1,r1,h,g1,m1⟩
 ·left;rw [h];rfl
 rw [h,bK]
 rcases Hc r1 (by omega) with h | ⟨x2,r2,h,g2,m2⟩
 ·left;simp only [h];rfl
 simp only [h,bK]
 rcases H7 r2 (by omega) with h | ⟨x3,r3,h,g3,m3⟩
 ·left;simp only [h];rfl
 simp only [h,bK]
 rcases Fp r3 (by omega) with h | ⟨x4,r4,h,g4,m4⟩
 ·left;simp only [h];rfl
 simp only [h,bK]
 rcases zt r4 (by omega) with h | ⟨x5,r5,h,g5,m5⟩
 ·left;simp only [h];rfl
 simp only [h,bK]
 have gt:vr ⟨x1,x2,x3,x4,x5⟩:=⟨g1,g2,g3,g4,g5⟩
 have mt:mA ⟨x1,x2,x3,x4,x5⟩<=1048576:=by show mL mI x1+mL (mL cK) x2+mL fH x3+mL g9 x4+mL cK x5<=1048576;omega
 obtain ⟨hs,hB⟩:=F8 gt mt
 have hby:=A5 items ⟨x1,x2,x3,x4,x5⟩ hio hs hB
 rw [hby,LF]
 by_cases hc:cI n items ⟨x1,x2,x3,x4,x5⟩=0
 ·rw [if_neg (show ¬ cI n items ⟨x1,x2,x3,x4,x5⟩≠0 by simp [hc])]
  by_cases he:aV ⟨x1,x2,x3,x4,x5⟩=b
  ·right
   rw [if_neg (by simp [he])]
   refine ⟨_,rfl,gt,mt,?_⟩
   rw [hby,if_neg (show ¬ cI n items ⟨x1,x2,x3,x4,x5⟩≠0 by simp [hc]),he]
  ·left
   rw [if_pos (by simp [he])]
   rfl
 ·left
  rw [if_pos hc,if_pos (by simp [hc])]
  rfl
def dK (l:List Item) (s:Int):Nat:=(l.takeWhile fun x=>decide (x.Dep<=s)).length
theorem uN (l:List Item) (s:Int):dK l s<=l.length:=(List.takeWhile_sublist _).length_le
theorem Dp (l:List Item) (s:Int) (hl:l.length<=1099511627776):o5 l s=some (if dK l s<l.length then (dK l s:Int) else -1):=by
 unfold o5;have:=nM (σ:=Unit) l hl (fun k _=>(k:Int)) (body:=fun s1=>mW l s s1)
  (fun k x _=>if x.Dep > s then some (.inr (k:Int)) else some (.inl ())) (fun _=>some (-1)) ()
  (fun k x _ _ _ h1 h2 h3=>by unfold mW rA;rw [h2,h1,h3];by_cases h:x.Dep > s<;>simp [h])
  (fun _ h=>by unfold mW;rw [h];simp)
 refine Eq.trans this ?_;have key:∀ (ys:List Item) (k:Nat),dO (σ:=Unit) (fun k x _=>if x.Dep > s then some (.inr (k:Int)) else some (.inl ())) (fun _=>some (-1)) k ys ()=some (if dK ys s<ys.length then ((k+dK ys s:Nat):Int) else -1):=by
  intro ys;induction ys with
  | nil=>intro k;simp [dO,dK]
  | cons y ys ih =>
   intro k;unfold dO;by_cases h:y.Dep > s
   ·have h':¬ y.Dep<=s:=by omega
    simp [h,dK,h']
   ·have h':y.Dep<=s:=by omega
    rw [if_neg h];simp only;rw [ih (k+1)];have e:dK (y::ys) s=dK ys s+1:=by simp [dK,h']
    rw [e];by_cases hh:dK ys s<ys.length
    ·rw [if_pos hh,if_pos (by simp;omega)];congr 1;omega
    ·rw [if_neg hh,if_neg (by simp;omega)]
 rw [key l 0];simp
def gw (l:List Item) (s:Int):Int × Int:=if 2000<l.length then (0,2) else if s<0∨500<s then (0,3) else (dK l s,0)
theorem Eo (l:List Item) (s:Int):qa l s=some (gw l s):=by
 unfold qa gw;by_cases h1:2000<l.length
 ·rw [if_pos (by simp;omega),if_pos h1]
 rw [if_neg (by simp;omega),if_neg h1];by_cases h2:s<0∨500<s
 ·rw [if_pos (by simp;omega),if_pos h2]
 rw [if_neg (by simp;omega),if_neg h2,Dp l s (by omega)];have:=uN l s;by_cases h3:dK l s<l.length
 ·simp [h3];omega
 ·simp [h3];omega
def fV (x:Item):Item:=⟨x.Key,x.Val,0⟩
def vI (l:List Item):List Item × Int:=if 2000<l.length then ([],2) else (l.map fV,0)
theorem Ed (l:List Item):pG l=some (vI l):=by
 unfold pG vI;by_cases h1:2000<l.length
 ·rw [if_pos (by simp;omega),if_pos h1]
 rw [if_neg (by simp;omega),if_neg h1];unfold eO;rw [cJ (by simp;omega)];simp only [My,LF];have key:∀ (ys pre:List Item),pre.length+ys.length<=2000->∀ (x2:List Item),x2.length=pre.length+ys.length ->
   iter (fun ss:Int × List Item=>lx x2 ss.1 ss.2) ((pre.length:Int),pre++ys)=some (pre++ys.map fV,0):=by
  intro ys
  induction ys with
  | nil =>
   intro pre hp x2 hx
   rw [aH]
   unfold lx
   simp at hx
   rw [if_neg (by simp [hx])]
   simp
  | cons y ys ih =>
   intro pre hp x2 hx
   simp only [LW] at hp hx
   have e1:ixN (pre++y::ys) (pre.length:Int)=some pre.length:=fK (by simp)
   have e2:(pre++y::ys)[pre.length]?=some y:=by simp
   have e3:(pre++y::ys).set pre.length (fV y)=(pre++[fV y])++ys:=by simp [List.set_append]
   have e4:IntKind.i64.wrap ((pre.length:Int)+1)=((pre++[fV y]).length:Int):=by rw [bt (by omega)];simp
   have e5:lx x2 (pre.length:Int) (pre++y::ys)=some (.inl (((pre++[fV y]).length:Int),(pre++[fV y])++ys)):=by unfold lx;rw [if_pos (by simp [hx];omega),e1,LF,e2,LF,e4,show (⟨y.Key,y.Val,0⟩:Item)=fV y from rfl,e3]
   rw [aH,e5]
   simp only
   have:=ih (pre++[fV y]) (by simp;omega) x2 (by simp;omega)
   rw [this]
   simp
 have:=key l [] (by simp;omega) l (by simp);simpa using this
def kv (x:Item):Int × Int:=(x.Key,x.Val)
def tj (a b:List Item):Bool:=decide (a.map kv=b.map kv)
def dY (a b:List Item):Bool:=decide (a.map kv=(b.take a.length).map kv/\a.length<=b.length)
theorem kv_eq (x y:Item):((x.Key==y.Key) && x.Val==y.Val)=decide (kv x=kv y):=by rw [No];simp [kv]
theorem Fw (a b:List Item) (ha:a.length<=1099511627776) (hl:a.length=b.length) {body:Int->Option (Int ⊕ Bool)}
  (h1:∀ (k:Nat) x y,decide ((k:Int)<(a.length:Int))=true->idx a (k:Int)=some x->idx b (k:Int)=some y->IntKind.i64.wrap ((k:Int)+1)=((k+1:Nat):Int)->body k=if kv x=kv y then some (.inl ((k+1:Nat):Int)) else some (.inr false))
  (h2:decide ((a.length:Int)<(a.length:Int))=false->body a.length=some (.inr true)):iter body 0=some (tj a b):=by
 have im:∀ (l:List Item) (k:Nat) (p:Int × Int),idx (l.map kv) (k:Int)=some p->∃ x,idx l (k:Int)=some x/\kv x=p:=by intro l k p h;unfold idx at h;rw [if_pos (by omega)] at h;simp at h;obtain ⟨x,hx,rfl⟩:=h;exact ⟨x,bv hx,rfl⟩
 have:=yz (a.map kv) (b.map kv) (by simpa using ha) (by simpa using hl) (body:=body) (fun k x y h3 h4 h5 h6=>by obtain ⟨x,h7,rfl⟩:=im a k x h4;obtain ⟨y,h8,rfl⟩:=im b k y h5;exact h1 k x y (by simpa using h3) h7 h8 h6) (fun h=>by have:=h2 (by simp);simp;exact this)
 exact this
theorem DP (a b:List Item) (ha:a.length<=1099511627776):oU a b=some (tj a b):=by
 unfold oU;by_cases hl:a.length=b.length
 ·rw [if_neg (by simp;omega)];exact Fw a b ha hl (fun k x y h1 h2 h3 h4=>by
   unfold oT rI;rw [h1,h2,h3,h4];simp only [LF,if_true,kv_eq];by_cases h:kv x=kv y<;>simp [h]) (fun h=>by
   unfold oT;rw [h];simp)
 ·rw [if_pos (by simp;omega)];have:a.map kv≠b.map kv:=fun e=>hl (by have:=congrArg List.length e;simp at this;exact this)
  simp [tj,this]
theorem pp (a b:List Item) (ha:a.length<=1099511627776):e7 a b=some (dY a b):=by
 unfold e7 dY;by_cases h:a.length<=b.length
 ·rw [if_pos (by simp;omega),sub_0 h];simp only [LF];rw [DP a _ ha];simp [tj,h]
 ·rw [if_neg (by simp;omega)];simp [h]
def cX (t l:List Item) (s:Int):List Item × Int :=
 if 2000<t.length then ([],2)
 else if (gw l s).2≠0 then ([],(gw l s).2)
 else if dY t l=false/\dY l t=false then ([],4)
 else if dK l s<=t.length then ([],0)
 else (((l.take (dK l s)).drop t.length).map fV,0)
theorem GQ {l:List Item} {s:Int} (h:(gw l s).2=0):l.length<=2000/\(gw l s).1=dK l s:=by
 unfold gw at h ⊢;split at h
 ·simp at h
 ·split at h
  ·simp at h
  ·rename_i h1 h2;rw [if_neg h1,if_neg h2];exact ⟨by omega,rfl⟩
theorem D5 (t l:List Item) (s:Int):pF t l s=some (cX t l s):=by
 unfold pF cX;by_cases h1:2000<t.length
 ·rw [if_pos (by simp;omega),if_pos h1]
 rw [if_neg (by simp;omega),if_neg h1,Eo];simp only [LF];by_cases h2:(gw l s).2≠0
 ·rw [if_pos (by simpa using h2),if_pos h2]
 have h2':(gw l s).2=0:=by simpa using h2
 obtain ⟨h3,h4⟩:=GQ h2';rw [if_neg (by simp [h2']),if_neg h2,pp t l (by omega)];simp only [LF];have hc:(if (!dY t l)=true then (e7 l t).bind fun x4=>some (!x4) else some false)=some (!dY t l && !dY l t):=by rw [pp l t (by omega)];cases dY t l<;>simp
 rw [hc];simp only [LF];by_cases h5:dY t l=false/\dY l t=false
 ·rw [if_pos (by simp [h5]),if_pos h5]
 rw [if_neg (by simpa using h5),if_neg h5,h4];by_cases h6:dK l s<=t.length
 ·rw [if_pos (by simp;omega),if_pos h6]
 rw [if_neg (by simp;omega),if_neg h6];have h7:=uN l s;rw [oq (by omega) h7];simp only [LF];rw [Ed];have:¬ 2000<min (dK l s) l.length - t.length:=by omega
 simp [vI,this]
end Go.Proofs.YtnlmagdmmjkklaaGreat
