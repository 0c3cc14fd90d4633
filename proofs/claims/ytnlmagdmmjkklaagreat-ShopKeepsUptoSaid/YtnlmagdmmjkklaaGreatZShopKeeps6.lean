/-
  Part 6 of the proof of shopKeepsLaw.proved: the code computes these functions, and the law holds of them, with no condition beyond the statement's own; put together by a program of ours (wip/decl.py) out of texts of ours.
-/
import Derived.Test.YtnlmagdmmjkklaaGreatZShopKeeps5
set_option linter.unusedVariables false
set_option linter.unusedSimpArgs false
namespace Go.Proofs.YtnlmagdmmjkklaaGreat
section
def chE (n:Net) (_:Nat) (c:Choice):Option Int :=
 if c.Node<0∨c.Node >= (n.Nodes.length:Int)∨(aa n c.Node.toNat).Kind≠6 then some 5
 else if c.Lane<0∨c.Lane >= ((aa n c.Node.toNat).In.length:Int) then some 3 else none
def eq (n:Net) (l:List Choice):Int :=
 if (netR n).2≠0 then (netR n).2 else if 500<l.length then 2 else (fd (chE n) 0 l).getD 0
theorem I7 (n:Net) (c:Choice) (k:Nat) (z:Int) :
  (Option.bind (if (decide (c.Node<0))=true then (some true) else (if (decide (c.Node >= ((n.Nodes).length:Int)))=true then (some true) else (Option.bind (idx n.Nodes c.Node) fun x6=>(some (x6.Kind != 6))))) fun c7=>(if c7=true then (Option.map Sum.inr (some (5:Int))) else (Option.bind (if (decide (c.Lane<0))=true then (some true) else (Option.bind (idx n.Nodes c.Node) fun x8=>(some (decide (c.Lane >= ((x8.In).length:Int)))))) fun c9=>(if c9=true then (Option.map Sum.inr (some 3)) else (some (.inl z))))))
  = match chE n k c with | some r=>some (.inr r) | none=>some (.inl z:Int ⊕ Int):=by
 by_cases h0:c.Node<0
 ·have e:chE n k c=some 5:=by unfold chE;rw [if_pos (.inl h0)]
  rw [e,if_pos (show decide (c.Node<0)=true by simpa using h0)];rfl
 rw [if_neg (show ¬ decide (c.Node<0)=true by simpa using h0)]
 by_cases h1:c.Node >= (n.Nodes.length:Int)
 ·have e:chE n k c=some 5:=by unfold chE;rw [if_pos (.inr (.inl h1))]
  rw [e,if_pos (show decide (c.Node >= (n.Nodes.length:Int))=true by simpa using h1)];rfl
 rw [if_neg (show ¬ decide (c.Node >= (n.Nodes.length:Int))=true by simpa using h1)]
 have hi:idx n.Nodes c.Node=some (aa n c.Node.toNat):=idx_D _ (by omega) (by omega)
 rw [hi,LF,LF]
 by_cases h6:(aa n c.Node.toNat).Kind=6
 ·have hn:¬ (c.Node<0∨c.Node >= (n.Nodes.length:Int)∨(aa n c.Node.toNat).Kind≠6):=fun h=>h.elim h0 fun h=>h.elim h1 fun h=>h h6
  rw [if_neg (show ¬ ((aa n c.Node.toNat).Kind != 6)=true by simp [h6])]
  by_cases h2:c.Lane<0
  ·have e:chE n k c=some 3:=by unfold chE;rw [if_neg hn,if_pos (.inl h2)]
   rw [e,if_pos (show decide (c.Lane<0)=true by simpa using h2)];rfl
  ·rw [if_neg (show ¬ decide (c.Lane<0)=true by simpa using h2),LF,LF]
   by_cases h3:c.Lane >= ((aa n c.Node.toNat).In.length:Int)
   ·have e:chE n k c=some 3:=by unfold chE;rw [if_neg hn,if_pos (.inr h3)]
    rw [e,if_pos (show decide (c.Lane >= ((aa n c.Node.toNat).In.length:Int))=true by simpa using h3)];rfl
   ·have e:chE n k c=none:=by unfold chE;rw [if_neg hn,if_neg (fun h=>h.elim h2 h3)]
    rw [e,if_neg (show ¬ decide (c.Lane >= ((aa n c.Node.toNat).In.length:Int))=true by simpa using h3)]
 ·have e:chE n k c=some 5:=by unfold chE;rw [if_pos (.inr (.inr h6))]
  rw [e,if_pos (show ((aa n c.Node.toNat).Kind != 6)=true by simpa using h6)];rfl
section
variable (n:Net) (hio:∀ x∈n.Nodes,x.In.length≤1099511627776∧x.Out.length≤1099511627776)
include hio
theorem D4 (l:List Choice):nF n l=some (eq n l):=by
 unfold nF eq;rw [xv n hio,LF];by_cases h:(netR n).2=0
 ·rw [if_neg (show ¬ ((netR n).2 != 0)=true by simp [h]),if_neg (show ¬ (netR n).2≠0 by simp [h])];by_cases h5:500<l.length
  ·rw [if_pos (show decide ((l.length:Int) > 500)=true by simp;omega),if_pos h5]
  ·rw [if_neg (show ¬ decide ((l.length:Int) > 500)=true by simp;omega),if_neg h5];rw [qk l (by omega) (chE n) (some 0) (fun k x hx hk e1 e2 e3=>by
    unfold po;rw [e2,e1,e3];simp only [if_true,LF];rw [I7 n x k];cases chE n k x<;>rfl) (fun e=>by unfold po;rw [e];rfl)]
   exact yw _ _
 ·rw [if_pos (by simpa using h),if_pos h]
end
structure RightC (n:Net) (l:List Choice):Prop where
 net:(netR n).2=0
 len:l.length<=500
 each:∀ c,c∈l->0<=c.Node/\c.Node<n.Nodes.length/\(aa n c.Node.toNat).Kind=6/\0<=c.Lane/\c.Lane<(aa n c.Node.toNat).In.length
theorem y6 {n:Net} {l:List Choice} (h:RightC n l):eq n l=0:=by
 unfold eq;rw [if_neg (by simp [h.net]),if_neg (by have:=h.len;omega)];have:fd (chE n) 0 l=none:=lG.2 fun j x hx=>by obtain ⟨a,b,c,d,e⟩:=h.each x (LJ hx);unfold chE;rw [if_neg (by omega),if_neg (by omega)]
 rw [this];rfl
theorem FB {α:Type} {l:List α} {k:Nat} {x:α} (h:l[k]?=some x):l.take (k+1)=l.take k++[x]:=by rw [List.take_add_one,h];rfl
section
variable (n:Net) (hio:∀ x∈n.Nodes,x.In.length≤1099511627776∧x.Out.length≤1099511627776)
include hio
omit hio in
end
def begN (n:Net) (a b:List Choice):Prop:=∀ i,i<n.Nodes.length->sJ a i <+: sJ b i
noncomputable instance (n:Net) (a b:List Choice):Decidable (begN n a b):=Classical.propDecidable _
section
variable (n:Net) (hio:∀ x∈n.Nodes,x.In.length≤1099511627776∧x.Out.length≤1099511627776)
include hio
end
end
noncomputable section
def noH:Shop:=⟨⟨[],0,0⟩,[],noS,noD,0,0,0,0,0,[],false⟩
def ofM (n:Net) (items:List (List Item)) (b:List UInt8):State × Int:=(gc n items b).getD (noS,12)
def dP (n:Net) (items:List (List Item)) (S:List (List UInt8)) (sl:Nat) (st:State × Nat):State × Nat :=
 match cq S sl with
 | none=>st
 | some x=>if x.2<=st.2 then st else if (ofM n items x.1).2=0 then ((ofM n items x.1).1,x.2) else st
def cr (n:Net) (items:List (List Item)) (S:List (List UInt8)):State × Nat:=dP n items S 1 (dP n items S 0 (a9 n items,0))
def bS (n:Net) (items:List (List Item)) (s:State) (l:List Choice):State × Int:=if 500<s.Choices.length+l.length then (noS,2) else (repM n items (muN n items s+1) s l).getD (noS,0)
def doP (h:Shop) (k a:Int):Shop × Int :=
 if h.Down=true then
  if k≠6 then (noH,13)
  else
   let q:=cr h.N h.Items h.D.Sectors
   let l:=bd (q.2:Int) (h.D.Sectors.drop 120)
   if eq h.N l.1≠0 then (noH,eq h.N l.1)
   else
    let r:=bS h.N h.Items q.1 l.1
    if r.2≠0 then (noH,r.2) else ({ h with S:=r.1,Logged:=r.1.Choices.length,Safe:=r.1.Choices.length,Epoch:=(q.2:Int),Next:=(l.2:Int),Down:=false },0)
 else if k=1 then
  if bb h.N h.Items h.S=[] then (noH,10) else ({ h with S:=doMv h.N h.Items h.S (fq (bb h.N h.Items h.S) a) },0)
 else if k=2 then
  if 0<=h.Laid then (noH,10)
  else
   let r:=bT h.Epoch.toNat h.D.Sectors (h.S.Choices.drop h.Logged.toNat).length h.Next.toNat (h.S.Choices.drop h.Logged.toNat) h.D.Wait
   if r.2.2≠0 then (noH,r.2.2) else ({ h with D:=r.1,Next:=r.2.1,Logged:=h.S.Choices.length },0)
 else if k=3 then
  if 0<=h.Laid then ({ h with D:=⟨aK h.D.Sectors h.D.Wait,[]⟩,Epoch:=h.Epoch+1,Next:=0,Logged:=h.Laid,Safe:=h.Laid,Laid := -1 },0)
  else ({ h with D:=⟨aK h.D.Sectors h.D.Wait,[]⟩,Safe:=h.Logged },0)
 else if k=4 then
  let r:=cX h.Told h.S.Out h.Safe
  if r.2≠0 then (noH,r.2) else ({ h with Told:=h.Told++r.1 },0)
 else if k=5 then
  if a<0∨h.D.Wait.length<a then (noH,3)
  else ({ h with D:=⟨aK h.D.Sectors (h.D.Wait.take a.toNat),[]⟩,S:=a9 h.N h.Items,Logged:=0,Safe:=0,Epoch:=0,Laid := -1,Next:=0,Down:=true },0)
 else if k=7 then
  if 0<=h.Laid then (noH,10)
  else if h.Epoch=200 then (noH,8)
  else if 60<=((aV h.S).length+49) / 50∨300<h.D.Wait.length+(((aV h.S).length+49) / 50+1) then (noH,8)
  else ({ h with D:=⟨h.D.Sectors,h.D.Wait++cC h.Epoch.toNat (aV h.S)⟩,Laid:=h.S.Choices.length },0)
 else (noH,13)
section
variable (n:Net) (items:List (List Item))
def PB (b:List UInt8):Prop:=∃ s,Inv n items s/\KV s/\b=aV s/\b.length<=3000
structure JS (E:Nat) (h:Shop):Prop where
 N:h.N=n
 I:h.Items=items
 inv:Inv n items h.S
 kv:KV h.S
 e2:E<=200
 okD:bF h.D
 held:Held (PB n items) E h.D.Sectors
 wait:Waits (PB n items) E (decide (0<=h.Laid)) h.D.Wait
 ep:h.Down=false->h.Epoch=(E:Int)
 down:h.Down=true->h.D.Wait=[]/\h.Epoch=0/\h.S=a9 n items/\h.Laid = -1
 laid : -1<=h.Laid/\h.Laid<=h.S.Choices.length
 log:0<=h.Safe/\h.Safe<=h.Logged/\h.Logged<=h.S.Choices.length
 next:0<=h.Next/\h.Next<=80
 told:h.Told.length<=2000
structure SrcQ:Prop where
 S:RightS n items
 src:cP n items=0
 io:∀ x∈n.Nodes,x.In.length<=1099511627776/\x.Out.length<=1099511627776
 g:gL (gL dk) items
end
theorem Waits.low {P:List UInt8->Prop} {E:Nat} {q:Bool} {W:List Write} (h:Waits P E q W) (hq:q=false):∀ w,w∈W->logW E w:=by
 cases h with
 | log hw=>exact hw
 | slot hw hP hE hb=>cases hq
theorem Waits.e {P:List UInt8->Prop} {E:Nat} {q:Bool} {W:List Write} (h:Waits P E q W) (hq:q=true):E+1<=200:=by
 cases h with
 | log hw=>cases hq
 | slot hw hP hE hb=>exact hE
theorem Ax (ep:Nat) (S:List (List UInt8)):∀ (n a:Nat) (l:List Choice) (w:List Write),a<=80->bF ⟨S,w⟩->(bT ep S n a l w).2.2=0->bF (bT ep S n a l w).1
 | 0,a,l,w,ha,hd,_=>hd
 | n+1,a,l,w,ha,hd,he=>by
  unfold bT at he ⊢;by_cases hl0:l=[]
  ·rw [if_pos hl0];exact hd
  rw [if_neg hl0] at he ⊢;by_cases hc:(dx (l.take 29)).2≠0
  ·rw [if_pos hc] at he;exact absurd he hc
  rw [if_neg hc] at he ⊢;by_cases h80:a=80
  ·rw [if_pos h80] at he;exact absurd he (by decide)
  rw [if_neg h80] at he ⊢;by_cases h300:w.length=300
  ·rw [if_pos h300] at he;exact absurd he (by decide)
  rw [if_neg h300] at he ⊢;have hcl:=xJ (l.take 29) (by rw [L8];omega);refine Ax ep S n (a+1) (l.drop 29) _ (by omega) (AJ hd ⟨?_,?_,?_⟩ (by have:=hd.2.1;simp only at this;omega)) he
  ·show (0:Int)<=((120+a:Nat):Int);omega
  ·show ((120+a:Nat):Int)<200;omega
  ·show (frm _).length<=64;rw [l9,LW];omega
theorem vj {d:Disk} (h:bF d) (k:Nat):bF ⟨aK d.Sectors (d.Wait.take k),[]⟩:=by obtain ⟨h1,h2,h3,h4⟩:=h;obtain ⟨q1,q2⟩:=Bg (d.Wait.take k) d.Sectors (fun w hw=>h4 w (LX hw)) h1 h3;exact ⟨q1,by show 0<=300;omega,q2,fun w hw=>by cases hw⟩
theorem Au (ep:Int):∀ S:List (List UInt8),(bd ep S).2<=S.length
 | []=>by simp [bd]
 | s::S=>by
  have:=Au ep S;unfold bd;split
  ·simp
  ·simp only [LW];omega
theorem yr {t l:List Item} {s:Int} (ht:t.length<=2000) (hl:l.length<=2000):(t++(cX t l s).1).length<=2000:=by
 have hf:=uN l s;rw [LI];unfold cX;split
 ·simpa using ht
 split
 ·simpa using ht
 split
 ·simpa using ht
 split
 ·simpa using ht
 ·simp only [LS,Mg,L8];omega
section
variable {n:Net} {items:List (List Item)} {E:Nat} {h:Shop}
theorem doP_1 (hd:h.Down=false) (a:Int):doP h 1 a=if bb h.N h.Items h.S=[] then (noH,10) else ({ h with S:=doMv h.N h.Items h.S (fq (bb h.N h.Items h.S) a) },0):=by unfold doP;rw [if_neg (show ¬ h.Down=true by rw [hd];decide),if_pos rfl]
theorem doP_2 (hd:h.Down=false) (a:Int):doP h 2 a=if 0<=h.Laid then (noH,10) else if (bT h.Epoch.toNat h.D.Sectors (h.S.Choices.drop h.Logged.toNat).length h.Next.toNat (h.S.Choices.drop h.Logged.toNat) h.D.Wait).2.2≠0 then (noH,(bT h.Epoch.toNat h.D.Sectors (h.S.Choices.drop h.Logged.toNat).length h.Next.toNat (h.S.Choices.drop h.Logged.toNat) h.D.Wait).2.2) else ({ h with D:=(bT h.Epoch.toNat h.D.Sectors (h.S.Choices.drop h.Logged.toNat).length h.Next.toNat (h.S.Choices.drop h.Logged.toNat) h.D.Wait).1,Next:=(bT h.Epoch.toNat h.D.Sectors (h.S.Choices.drop h.Logged.toNat).length h.Next.toNat (h.S.Choices.drop h.Logged.toNat) h.D.Wait).2.1,Logged:=h.S.Choices.length },0):=by unfold doP;rw [if_neg (show ¬ h.Down=true by rw [hd];decide),if_neg (show ¬ (2:Int)=1 by decide),if_pos rfl]
theorem doP_3 (hd:h.Down=false) (a:Int):doP h 3 a=if 0<=h.Laid then ({ h with D:=⟨aK h.D.Sectors h.D.Wait,[]⟩,Epoch:=h.Epoch+1,Next:=0,Logged:=h.Laid,Safe:=h.Laid,Laid := -1 },0) else ({ h with D:=⟨aK h.D.Sectors h.D.Wait,[]⟩,Safe:=h.Logged },0):=by unfold doP;rw [if_neg (show ¬ h.Down=true by rw [hd];decide),if_neg (show ¬ (3:Int)=1 by decide),if_neg (show ¬ (3:Int)=2 by decide),if_pos rfl]
theorem doP_4 (hd:h.Down=false) (a:Int):doP h 4 a=if (cX h.Told h.S.Out h.Safe).2≠0 then (noH,(cX h.Told h.S.Out h.Safe).2) else ({ h with Told:=h.Told++(cX h.Told h.S.Out h.Safe).1 },0):=by unfold doP;rw [if_neg (show ¬ h.Down=true by rw [hd];decide),if_neg (show ¬ (4:Int)=1 by decide),if_neg (show ¬ (4:Int)=2 by decide),if_neg (show ¬ (4:Int)=3 by decide),if_pos rfl]
theorem doP_5 (hd:h.Down=false) (a:Int):doP h 5 a=if a<0∨h.D.Wait.length<a then (noH,3) else ({ h with D:=⟨aK h.D.Sectors (h.D.Wait.take a.toNat),[]⟩,S:=a9 h.N h.Items,Logged:=0,Safe:=0,Epoch:=0,Laid := -1,Next:=0,Down:=true },0):=by unfold doP;rw [if_neg (show ¬ h.Down=true by rw [hd];decide),if_neg (show ¬ (5:Int)=1 by decide),if_neg (show ¬ (5:Int)=2 by decide),if_neg (show ¬ (5:Int)=3 by decide),if_neg (show ¬ (5:Int)=4 by decide),if_pos rfl]
theorem doP_7 (hd:h.Down=false) (a:Int):doP h 7 a=if 0<=h.Laid then (noH,10) else if h.Epoch=200 then (noH,8) else if 60<=((aV h.S).length+49) / 50∨300<h.D.Wait.length+(((aV h.S).length+49) / 50+1) then (noH,8) else ({ h with D:=⟨h.D.Sectors,h.D.Wait++cC h.Epoch.toNat (aV h.S)⟩,Laid:=h.S.Choices.length },0):=by unfold doP;rw [if_neg (show ¬ h.Down=true by rw [hd];decide),if_neg (show ¬ (7:Int)=1 by decide),if_neg (show ¬ (7:Int)=2 by decide),if_neg (show ¬ (7:Int)=3 by decide),if_neg (show ¬ (7:Int)=4 by decide),if_neg (show ¬ (7:Int)=5 by decide),if_pos rfl]
theorem fg (hd:h.Down=true) (k a:Int):doP h k a=if k≠6 then (noH,13) else if eq h.N (bd ((cr h.N h.Items h.D.Sectors).2:Int) (h.D.Sectors.drop 120)).1≠0 then (noH,eq h.N (bd ((cr h.N h.Items h.D.Sectors).2:Int) (h.D.Sectors.drop 120)).1)
  else if (bS h.N h.Items (cr h.N h.Items h.D.Sectors).1 (bd ((cr h.N h.Items h.D.Sectors).2:Int) (h.D.Sectors.drop 120)).1).2≠0 then (noH,(bS h.N h.Items (cr h.N h.Items h.D.Sectors).1 (bd ((cr h.N h.Items h.D.Sectors).2:Int) (h.D.Sectors.drop 120)).1).2)
  else ({ h with S:=(bS h.N h.Items (cr h.N h.Items h.D.Sectors).1 (bd ((cr h.N h.Items h.D.Sectors).2:Int) (h.D.Sectors.drop 120)).1).1,Logged:=(bS h.N h.Items (cr h.N h.Items h.D.Sectors).1 (bd ((cr h.N h.Items h.D.Sectors).2:Int) (h.D.Sectors.drop 120)).1).1.Choices.length,Safe:=(bS h.N h.Items (cr h.N h.Items h.D.Sectors).1 (bd ((cr h.N h.Items h.D.Sectors).2:Int) (h.D.Sectors.drop 120)).1).1.Choices.length,Epoch:=((cr h.N h.Items h.D.Sectors).2:Int),Next:=((bd ((cr h.N h.Items h.D.Sectors).2:Int) (h.D.Sectors.drop 120)).2:Int),Down:=false },0):=by
 unfold doP;rw [if_pos hd]
theorem qq (hd:h.Down=false) {k:Int} (a:Int) (hk:k≠1/\k≠2/\k≠3/\k≠4/\k≠5/\k≠7):doP h k a=(noH,13):=by unfold doP;rw [if_neg (show ¬ h.Down=true by rw [hd];decide),if_neg hk.1,if_neg hk.2.1,if_neg hk.2.2.1,if_neg hk.2.2.2.1,if_neg hk.2.2.2.2.1,if_neg hk.2.2.2.2.2]
theorem yn (hS:RightS n items):JS n items 0 ⟨n,items,a9 n items,noD,0,0,0, -1,0,[],false⟩ where
 N:=rfl
 I:=rfl
 inv:=nR hS
 kv:=n8 n items
 e2:=by omega
 okD:=Je
 held:=HR
 wait:=.log fun w hw=>by cases hw
 ep:=fun _=>rfl
 down:=fun h=>by cases h
 laid:=⟨by show (-1:Int) <= -1;omega,by show (-1:Int)<=_;omega⟩
 log:=⟨Mh _,Mh _,by show (0:Int)<=_;omega⟩
 next:=⟨Mh _,by show (0:Int)<=80;omega⟩
 told:=by show 0<=2000;omega
theorem Inv.ch {s:State} (hI:Inv n items s):s.Choices.length<=500/\s.Out.length<=2000:=by obtain ⟨B,ok,_⟩:=hI;exact ⟨ok.ch,ok.out⟩
theorem JS.go (q:SrcQ n items) (j:JS n items E h) (hd:h.Down=false) {m:Move} (hm:m∈bb n items h.S):JS n items E { h with S:=doMv n items h.S m }:=by
 have hch:=Cu hm;have hle:(h.S.Choices.length:Int)<=((doMv n items h.S m).Choices.length:Int):=by
  rw [hch];split
  ·rw [LI];omega
  ·omega
 exact ⟨j.N,j.I,(j.inv.doMv q.S hm).1,kv_do q.g j.kv _ _,j.e2,j.okD,j.held,j.wait,j.ep,fun h0=>(by rw [show h.Down=true from h0] at hd;cases hd),⟨j.laid.1,Int.le_trans j.laid.2 hle⟩,⟨j.log.1,j.log.2.1,Int.le_trans j.log.2.2 hle⟩,j.next,j.told⟩
theorem JS.write (j:JS n items E h) (hd:h.Down=false) (hl:¬ 0<=h.Laid)
  (h0:(bT h.Epoch.toNat h.D.Sectors (h.S.Choices.drop h.Logged.toNat).length h.Next.toNat (h.S.Choices.drop h.Logged.toNat) h.D.Wait).2.2=0) :
  ∃ cs:List (List Choice),bT h.Epoch.toNat h.D.Sectors (h.S.Choices.drop h.Logged.toNat).length h.Next.toNat (h.S.Choices.drop h.Logged.toNat) h.D.Wait=(⟨h.D.Sectors,h.D.Wait++wr E h.Next.toNat cs⟩,((h.Next.toNat+cs.length:Nat):Int),0) /\
   h.S.Choices.drop h.Logged.toNat=cs.flatten/\(∀ c,c∈cs->ic c)/\h.Next.toNat+cs.length<=80 /\
   JS n items E { h with D:=⟨h.D.Sectors,h.D.Wait++wr E h.Next.toNat cs⟩,Next:=((h.Next.toNat+cs.length:Nat):Int),Logged:=h.S.Choices.length }:=by
 have hep:=j.ep hd
 have hE:h.Epoch.toNat=E:=by omega
 rw [hE] at h0 ⊢
 have hn:=j.next
 obtain ⟨cs,h1,h2,h3,h4⟩:=Bl E h.D.Sectors _ h.Next.toNat _ h.D.Wait (LM _) (by omega) h0
 have hok:=Ax E h.D.Sectors _ h.Next.toNat _ h.D.Wait (by omega) j.okD h0
 rw [h1] at hok
 refine ⟨cs,h1,h2,h3,h4,⟨j.N,j.I,j.inv,j.kv,j.e2,hok,j.held,?_,j.ep,fun hx=>(by rw [show h.Down=true from hx] at hd;cases hd),j.laid,⟨j.log.1,by show h.Safe<=(h.S.Choices.length:Int);have:=j.log;omega,by show (h.S.Choices.length:Int)<=_;exact Mh _⟩,⟨by show (0:Int)<=((h.Next.toNat+cs.length:Nat):Int);omega,by show ((h.Next.toNat+cs.length:Nat):Int)<=80;omega⟩,j.told⟩⟩
 have hq:decide (0<=h.Laid)=false:=by simpa using hl
 have hw:=j.wait.low hq
 show Waits _ E (decide (0<=h.Laid)) _
 rw [hq]
 refine .log fun w hw'=>?_
 rcases LZ.1 hw' with hw' | hw'
 ·exact hw w hw'
 ·exact ol E j.e2 _ cs h4 h3 w hw'
theorem JS.flush (j:JS n items E h) (hd:h.Down=false) (a:Int):JS n items (if 0<=h.Laid then E+1 else E) (doP h 3 a).1:=by
 have hdd:¬ h.Down=true:=by rw [hd];decide
 have hf:=j.held.flush j.wait;have hokd:bF ⟨aK h.D.Sectors h.D.Wait,[]⟩:=by have:=vj j.okD h.D.Wait.length;rwa [ME] at this
 rw [doP_3 hd];by_cases hl:0<=h.Laid
 ·rw [if_pos hl,if_pos hl];rw [if_pos (by simpa using hl)] at hf;exact ⟨j.N,j.I,j.inv,j.kv,j.wait.e (by simpa using hl),hokd,hf,.log fun w hw=>(by cases hw),fun _=>(by show h.Epoch+1=((E+1:Nat):Int);rw [j.ep hd];omega),fun hx=>absurd hx hdd,⟨Mh _,by show (-1:Int)<=_;omega⟩,⟨hl,Mh _,j.laid.2⟩,⟨Mh _,by show (0:Int)<=80;omega⟩,j.told⟩
 ·rw [if_neg hl,if_neg hl];have hq:decide (0<=h.Laid)=false:=by simpa using hl
  rw [hq] at hf;exact ⟨j.N,j.I,j.inv,j.kv,j.e2,hokd,hf,(by show Waits _ E (decide (0<=h.Laid)) [];rw [hq];exact .log fun w hw=>(by cases hw)),j.ep,fun hx=>absurd hx hdd,j.laid,⟨by show 0<=h.Logged;have:=j.log;omega,Mh _,j.log.2.2⟩,j.next,j.told⟩
theorem JS.tell (j:JS n items E h):JS n items E { h with Told:=h.Told++(cX h.Told h.S.Out h.Safe).1 } :=
 ⟨j.N,j.I,j.inv,j.kv,j.e2,j.okD,j.held,j.wait,j.ep,j.down,j.laid,j.log,j.next,yr j.told j.inv.ch.2⟩
theorem JS.cut (q:SrcQ n items) (j:JS n items E h) (k:Nat) :
  ∃ E',(E'=E∨(E'=E+1/\0<=h.Laid/\h.D.Wait.length<=k))/\JS n items E' { h with D:=⟨aK h.D.Sectors (h.D.Wait.take k),[]⟩,S:=a9 h.N h.Items,Logged:=0,Safe:=0,Epoch:=0,Laid := -1,Next:=0,Down:=true }:=by
 have key:∀ E',E'<=200->Held (PB n items) E' (aK h.D.Sectors (h.D.Wait.take k))->JS n items E' { h with D:=⟨aK h.D.Sectors (h.D.Wait.take k),[]⟩,S:=a9 h.N h.Items,Logged:=0,Safe:=0,Epoch:=0,Laid := -1,Next:=0,Down:=true }:=fun E' h2 hh=>by
  have e:a9 h.N h.Items=a9 n items:=by rw [j.N,j.I]
  rw [e];exact ⟨j.N,j.I,nR q.S,n8 n items,h2,vj j.okD k,hh,.log fun w hw=>(by cases hw),fun hx=>(by cases hx),fun _=>⟨rfl,rfl,rfl,rfl⟩,⟨Mh _,by show (-1:Int)<=_;omega⟩,⟨Mh _,Mh _,by show (0:Int)<=_;omega⟩,⟨Mh _,by show (0:Int)<=80;omega⟩,j.told⟩
 rcases j.held.cut j.wait k with hh | ⟨hq,hl,hh⟩
 ·exact ⟨E,.inl rfl,key E j.e2 hh⟩
 ·exact ⟨E+1,.inr ⟨rfl,by simpa using hq,hl⟩,key (E+1) (j.wait.e hq) hh⟩
theorem JS.lay (j:JS n items E h) (hd:h.Down=false) (hl:¬ 0<=h.Laid) (h200:h.Epoch≠200) (hb:¬ (60<=((aV h.S).length+49) / 50∨300<h.D.Wait.length+(((aV h.S).length+49) / 50+1))) :
  JS n items E { h with D:=⟨h.D.Sectors,h.D.Wait++cC E (aV h.S)⟩,Laid:=h.S.Choices.length }:=by
 have hep:=j.ep hd
 have he2:=j.e2
 have hq:decide (0<=h.Laid)=false:=by simpa using hl
 have hw:=j.wait.low hq
 have hsl:=uo E (aV h.S)
 refine ⟨j.N,j.I,j.inv,j.kv,j.e2,⟨j.okD.1,?_,j.okD.2.2.1,fun w hw'=>?_⟩,j.held,?_,j.ep,fun hx=>(by rw [show h.Down=true from hx] at hd;cases hd),⟨by show (-1:Int)<=(h.S.Choices.length:Int);omega,Mh _⟩,j.log,j.next,j.told⟩
 ·show (h.D.Wait++cC E (aV h.S)).length<=300
  rw [LI];omega
 ·rcases LZ.1 hw' with hw' | hw'
  ·exact (hw w hw').1
  ·exact qi (by omega) w hw'
 ·show Waits _ E (decide (0<=(h.S.Choices.length:Int))) _
  have:decide (0<=(h.S.Choices.length:Int))=true:=by simp
  rw [this]
  exact .slot hw ⟨h.S,j.inv,j.kv,rfl,by omega⟩ (by omega) (by omega)
theorem HS (q:SrcQ n items) {s:State} (hI:Inv n items s) (hk:KV s) (hb:(aV s).length<=3000):gc n items (aV s)=some (s,0):=by have hs:=kv_s q.S hI hk;obtain ⟨B,ok,_⟩:=hI;refine Of_eq n items s hs (by unfold BB;omega) (by rw [rH n items q.io,q.src]) ?_;rw [qp n items s q.io (AB hs).a6,tf q.src ok]
theorem sP (q:SrcQ n items) {S:List (List UInt8)} (hh:Held (PB n items) E S):∃ s,cr n items S=(s,E)/\Inv n items s/\KV s/\(E=0->s=a9 n items)/\(E≠0->cq S (E % 2)=some (aV s,E)/\(aV s).length<=3000):=by
 have low:∀ sl st,sl<=1->(sl=E % 2->E=0)->st.2<=E->(dP n items S sl st).2<E∨dP n items S sl st=st:=fun sl st hs hne hst=>by
  unfold dP;cases hx:cq S sl with
  | none=>exact .inr rfl
  | some x =>
   simp only;by_cases h1:x.2<=st.2
   ·rw [if_pos h1];exact .inr rfl
   ·rw [if_neg h1];rcases hh.other hs hx with e | e | ⟨e1,e2⟩
    ·omega
    ·by_cases h2:(ofM n items x.1).2=0
     ·rw [if_pos h2];exact .inl e
     ·rw [if_neg h2];exact .inr rfl
    ·have:=hne e1;omega
 by_cases h0:E=0
 ·subst h0;refine ⟨a9 n items,?_,nR q.S,n8 n items,fun _=>rfl,fun h=>absurd rfl h⟩;unfold cr;have a0:dP n items S 0 (a9 n items,0)=(a9 n items,0):=by
   rcases low 0 (a9 n items,0) (by omega) (fun _=>rfl) (LM _) with h | h
   ·omega
   ·exact h
  have a1:dP n items S 1 (a9 n items,0)=(a9 n items,0):=by
   rcases low 1 (a9 n items,0) (by omega) (fun _=>rfl) (LM _) with h | h
   ·omega
   ·exact h
  rw [a0,a1]
 ·obtain ⟨b,⟨s,hI,hk,rfl,hb⟩,hg⟩:=hh.own h0;have hof:=HS q hI hk hb;have hof':ofM n items (aV s)=(s,0):=by unfold ofM;rw [hof];rfl
  have own:∀ st:State × Nat,st.2<E->dP n items S (E % 2) st=(s,E):=fun st hst=>by unfold dP;rw [hg];simp only;rw [if_neg (by omega),hof',if_pos rfl]
  refine ⟨s,?_,hI,hk,fun h=>absurd h h0,fun _=>⟨hg,hb⟩⟩;unfold cr;rcases Nat.mod_two_eq_zero_or_one E with e | e
  ·have h1:=own (a9 n items,0) (by show 0<E;omega);rw [e] at h1;rw [h1];rcases low 1 (s,E) (by omega) (fun h=>by omega) (LM _) with h | h
   ·exfalso;unfold dP at h;cases hx:cq S 1 with
    | none=>rw [hx] at h;simp at h
    | some x =>
     rw [hx] at h;simp only at h;by_cases h2:x.2<=E
     ·rw [if_pos h2] at h;simp at h
     ·rcases hh.other (by omega) hx with e' | e' | ⟨e',_⟩<;>omega
   ·exact h
  ·have h1:=low 0 (a9 n items,0) (by omega) (fun h=>by omega) (by show 0<=E;omega);have h2:(dP n items S 0 (a9 n items,0)).2<E:=by
    rcases h1 with h1 | h1
    ·exact h1
    ·rw [h1];show 0<E;omega
   have h3:=own _ h2;rw [e] at h3;exact h3
theorem II (q:SrcQ n items) {s:State} (hI:Inv n items s) (hk:KV s) (l:List Choice):((bS n items s l).2=0->Inv n items (bS n items s l).1/\KV (bS n items s l).1/\(bS n items s l).1.Choices=s.Choices++l)/\((bS n items s l).2≠0->(bS n items s l).1=noS):=by
 unfold bS;by_cases h5:500<s.Choices.length+l.length
 ·rw [if_pos h5];exact ⟨fun h=>absurd h (by decide),fun _=>rfl⟩
 rw [if_neg h5];obtain ⟨r,e1,e2,e3⟩:=vK q.S q.g (muN n items s+1) s l hI hk (by omega);rw [e1];exact ⟨e2,fun h=>by rw [show (some r).getD (noS,0)=r from rfl,e3 h]⟩
theorem JS.up (q:SrcQ n items) (j:JS n items E h) (hd:h.Down=true) {a:Int} (h0:(doP h 6 a).2=0) :
  ∃ s t,cr n items h.D.Sectors=(s,E)/\Inv n items s/\KV s/\bS n items s (bd (E:Int) (h.D.Sectors.drop 120)).1=(t,0)/\eq n (bd (E:Int) (h.D.Sectors.drop 120)).1=0/\t.Choices=s.Choices++(bd (E:Int) (h.D.Sectors.drop 120)).1 /\
   doP h 6 a=({ h with S:=t,Logged:=t.Choices.length,Safe:=t.Choices.length,Epoch:=(E:Int),Next:=((bd (E:Int) (h.D.Sectors.drop 120)).2:Int),Down:=false },0)/\JS n items E (doP h 6 a).1:=by
 obtain ⟨s,hn,hI,hk,_⟩:=sP q j.held
 have eN:=j.N
 have eI:=j.I
 subst eN
 subst eI
 rw [fg hd,if_neg (show ¬ (6:Int)≠6 by decide),hn] at h0 ⊢
 simp only at h0 ⊢
 by_cases h1:eq h.N (bd (E:Int) (h.D.Sectors.drop 120)).1=0
 ·rw [if_neg (by simpa using h1)] at h0 ⊢
  by_cases h2:(bS h.N h.Items s (bd (E:Int) (h.D.Sectors.drop 120)).1).2=0
  ·rw [if_neg (by simpa using h2)]
   obtain ⟨g1,g2,g3⟩:=(II q hI hk (bd (E:Int) (h.D.Sectors.drop 120)).1).1 h2
   have hsc:=Au (E:Int) (h.D.Sectors.drop 120)
   have hl:=j.okD.1
   have hdn:=j.down hd
   rw [Mg] at hsc
   refine ⟨s,(bS h.N h.Items s (bd (E:Int) (h.D.Sectors.drop 120)).1).1,rfl,hI,hk,Prod.ext rfl h2,h1,g3,rfl,?_⟩
   exact ⟨rfl,rfl,g1,g2,j.e2,j.okD,j.held,j.wait,fun _=>rfl,fun hx=>(by cases hx),⟨j.laid.1,by show h.Laid<=_;rw [hdn.2.2.2];omega⟩,⟨by show (0:Int)<=((_:Nat):Int);omega,Mh _,Mh _⟩,⟨by show (0:Int)<=((_:Nat):Int);omega,by show (((bd (E:Int) (h.D.Sectors.drop 120)).2:Nat):Int)<=80;omega⟩,j.told⟩
  ·rw [if_pos h2] at h0;exact absurd h0 h2
 ·rw [if_pos h1] at h0;exact absurd h0 h1
theorem BM {l:List Move} (h:l≠[]) (a:Int):fq l a∈l:=(zQ h a).1
theorem JS.do (q:SrcQ n items) (j:JS n items E h) (k a:Int) (h0:(doP h k a).2=0):∃ E',JS n items E' (doP h k a).1:=by
 by_cases hd:h.Down=true
 ·by_cases h6:k=6
  ·subst h6;obtain ⟨_,_,_,_,_,_,_,_,_,hj⟩:=j.up q hd h0;exact ⟨E,hj⟩
  ·exfalso;rw [fg hd,if_pos h6] at h0;exact absurd h0 (by decide)
 have hdf:h.Down=false:=by simpa using hd
 by_cases h1:k=1
 ·subst h1;rw [doP_1 hdf] at h0 ⊢;by_cases hr:bb h.N h.Items h.S=[]
  ·rw [if_pos hr] at h0;exact absurd h0 (by decide)
  ·rw [if_neg hr];have eN:=j.N;have eI:=j.I;subst eN;subst eI;exact ⟨E,j.go q hdf (BM hr a)⟩
 by_cases h2:k=2
 ·subst h2;rw [doP_2 hdf] at h0 ⊢;by_cases hl:0<=h.Laid
  ·rw [if_pos hl] at h0;exact absurd h0 (by decide)
  rw [if_neg hl] at h0 ⊢;by_cases he:(bT h.Epoch.toNat h.D.Sectors (h.S.Choices.drop h.Logged.toNat).length h.Next.toNat (h.S.Choices.drop h.Logged.toNat) h.D.Wait).2.2=0
  ·obtain ⟨cs,e1,_,_,_,hj⟩:=j.write hdf hl he;rw [if_neg (by simpa using he),e1];exact ⟨E,hj⟩
  ·rw [if_pos he] at h0;exact absurd h0 he
 by_cases h3:k=3
 ·subst h3;exact ⟨_,j.flush hdf a⟩
 by_cases h4:k=4
 ·subst h4;rw [doP_4 hdf] at h0 ⊢;by_cases he:(cX h.Told h.S.Out h.Safe).2=0
  ·rw [if_neg (by simpa using he)];exact ⟨E,j.tell⟩
  ·rw [if_pos he] at h0;exact absurd h0 he
 by_cases h5:k=5
 ·subst h5;rw [doP_5 hdf] at h0 ⊢;by_cases hc:a<0∨h.D.Wait.length<a
  ·rw [if_pos hc] at h0;exact absurd h0 (by decide)
  ·rw [if_neg hc];obtain ⟨E',_,hj⟩:=j.cut q a.toNat;exact ⟨E',hj⟩
 by_cases h7:k=7
 ·subst h7;rw [doP_7 hdf] at h0 ⊢;by_cases hl:0<=h.Laid
  ·rw [if_pos hl] at h0;exact absurd h0 (by decide)
  rw [if_neg hl] at h0 ⊢;by_cases h200:h.Epoch=200
  ·rw [if_pos h200] at h0;exact absurd h0 (by decide)
  rw [if_neg h200] at h0 ⊢;by_cases hb:60<=((aV h.S).length+49) / 50∨300<h.D.Wait.length+(((aV h.S).length+49) / 50+1)
  ·rw [if_pos hb] at h0;exact absurd h0 (by decide)
  rw [if_neg hb];have hE:h.Epoch.toNat=E:=by have:=j.ep hdf;omega
  rw [hE];exact ⟨E,j.lay hdf hl h200 hb⟩
 ·exfalso;rw [qq hdf a ⟨h1,h2,h3,h4,h5,h7⟩] at h0;exact absurd h0 (by decide)
end
end
section
section
variable {n:Net} {items:List (List Item)}
abbrev RRun (n:Net) (items:List (List Item)):=Run (bx n items) n (some n.Room.toNat)
def Lim (c:MSt Item Memory (List Choice)):Prop:=c.tr.length<=500/\c.out.length<=2000
theorem uR {room:Option Nat} {c d:MSt Item Memory (List Choice)} {w:List (Nat × Nat)} (h:Run (bx n items) n room c w d):d.out.length=c.out.length+(w.filter fun m=>decide ((aa n m.1).Kind=8)).length:=by
 induction h with
 | nil c=>simp
 | @cons c c1 d m w h t ih =>
  obtain ⟨_,x,_,_,rfl⟩:=h;rw [ih];show (if (aa n m.1).Kind=8 then c.out++[_] else c.out).length+_=_;by_cases h8:(aa n m.1).Kind=8
  ·rw [if_pos h8,Mw (by simpa using h8)];simp;omega
  ·rw [if_neg h8,MM (by simpa using h8)]
theorem ve {s:State} (hI:Inv n items s):Lim (bi s):=hI.ch
theorem JO (q:SrcQ n items) {s:State} (hI:Inv n items s) {m:Nat × Nat} {w:List (Nat × Nat)} {D:MSt Item Memory (List Choice)} (hr:RRun n items (bi s) (m::w) D) (hl:Lim D):(⟨m.1,m.2⟩:Move)∈bb n items s:=by
 cases hr with
 | @cons _ c1 _ _ _ h0 t0 =>
  refine E7 h0.1.1 h0.1.2 (FJ q.S h0 (fun h6 e=>?_) (fun h8 e=>?_))
  ·have h1:=kJ (Run.cons h0 t0);rw [eT,if_pos h6] at h1;have h2:=congrArg List.length h1;rw [LI,LW] at h2;have h3:(bi s).tr.length=500:=e;have:=hl.1;omega
  ·have h1:=uR (Run.cons h0 t0);rw [Mw (by simpa using h8),LW] at h1;have h3:(bi s).out.length=2000:=e;have:=hl.2;omega
theorem FR (q:SrcQ n items) {s:State} (hI:Inv n items s) {i k:Nat} (hi:i<n.Nodes.length) (hk:k<bu (aa n i)) (hc:dM n items s i k=true) (h6:(aa n i).Kind≠6) {w:List (Nat × Nat)} {D:MSt Item Memory (List Choice)} (hr:RRun n items (bi s) w D) (hl:Lim D) :
  ∃ w' D',RRun n items (bi (doM n items s i k)) w' D'/\Lim D'/\chW n w'=chW n w:=by
 have hR:=q.S.toRightN
 have hsrc:=qu q.S
 obtain ⟨B,ok,hB⟩:=id hI
 have hx:=u4 q.S ok hi hk hc
 rcases um (pQ hr) hx.1 h6 with hp | ⟨p,q',e,hp⟩
 ·obtain ⟨e,e1,e2⟩:=pU hR hsrc hr hx hp (.inl h6)
  refine ⟨w,e,e1,⟨?_,?_⟩,rfl⟩
  ·have t1:=kJ e1
   have t2:=kJ hr
   have t3:(bi (doM n items s i k)).tr=(bi s).tr:=by obtain ⟨_,x,_,_,e3⟩:=hx;rw [e3];show (if (aa n i).Kind=6 then _ else _)=_;rw [if_neg h6]
   rw [t1,t3,<- t2];exact hl.1
  ·have o1:=uR e1
   have o2:=uR hr
   obtain ⟨_,x,_,_,e3⟩:=id hx
   have o3:(bi (doM n items s i k)).out.length=(bi s).out.length+(if (aa n i).Kind=8 then 1 else 0):=by rw [e3];show (if (aa n i).Kind=8 then (bi s).out++[_] else (bi s).out).length=_;split<;>simp
   by_cases h8:(aa n i).Kind=8
   ·have hf:(w.filter fun m=>decide ((aa n m.1).Kind=8))=[]:=by
     rw [List.filter_eq_nil_iff];intro m hm h;have h8':(aa n m.1).Kind=8:=by simpa using h
     have hv:=pQ hr m hm;have:m.1=i:=hR.sink1 m.1 i hv.1 hi h8' h8;have hmem:m∈eK i w:=NJ.2 ⟨hm,by simpa using this⟩;rw [hp] at hmem;cases hmem
    obtain ⟨it,hh,_,_,h2000⟩:=oa hc
    have:s.Out.length≠2000:=h2000 h8
    have h3:(bi s).out.length=s.Out.length:=rfl
    have:=hI.ch.2
    rw [hf,Nx] at o1
    rw [if_pos h8] at o3
    omega
   ·rw [if_neg h8] at o3
    have:=hl.2
    omega
 ·subst e
  refine ⟨p++q',D,sm hR hsrc hr hx hp (.inl h6),hl,?_⟩
  rw [gY,gY,eT,if_neg h6]
theorem vh (q:SrcQ n items):∀ (f:Nat) (s:State) (l r:List Choice) (w:List (Nat × Nat)) (D:MSt Item Memory (List Choice)),Inv n items s->muN n items s<f->RRun n items (bi s) w D->chW n w=l++r->Lim D ->
  ∃ t u w' D',repM n items f s l=some (t,0)/\Inv n items t/\RRun n items (bi s) u (bi t)/\chW n u=l/\RRun n items (bi t) w' D'/\chW n w'=r/\Lim D'
 | f,s,[],r,w,D,hI,hf,hr,hc,hl=>⟨s,[],w,D,by cases f<;>rfl,hI,.nil _,rfl,hr,hc,hl⟩
 | 0,s,c::l,r,w,D,hI,hf,hr,hc,hl=>by omega
 | f + 1,s,c::l,r,w,D,hI,hf,hr,hc,hl=>by
  have hR:=q.S.toRightN;have hsrc:=qu q.S;obtain ⟨B,ok,hB⟩:=id hI;have hex:∃ m,(bb n items s).find? (eU n c)=some m:=by
   cases w with
   | nil=>cases hc
   | cons m0 w0 =>
    have hm:=JO q hI hr hl;cases hfd:(bb n items s).find? (eU n c) with
    | some m=>exact ⟨m,rfl⟩
    | none =>
     exfalso;have:=List.find?_eq_none.1 hfd _ hm;apply this;unfold eU;simp only [L7];by_cases h6:(aa n m0.1).Kind=6
     ·rw [eT,if_pos h6] at hc;have:(⟨m0.1,m0.2⟩:Choice)=c:=(NP hc).1;rw [<- this];simp
     ·simp [h6]
  obtain ⟨m,hfd⟩:=hex;have hmem:=Na hfd;have hag:=List.find?_some hfd;obtain ⟨h1,h2⟩:=hI.doMv q.S hmem;obtain ⟨i,k,hm,hi,hk,hcan⟩:=lM hmem;subst hm;have hdo:doMv n items s ⟨(i:Int),(k:Int)⟩=doM n items s i k:=by unfold doMv;simp
  unfold eU at hag;simp only [L7] at hag;rw [hdo] at h1 h2;have hx:=u4 q.S ok hi hk hcan;unfold repM;rw [hfd];simp only [hdo,L7];by_cases h6:(aa n i).Kind=6
  ·rw [if_pos h6];simp only [h6,decide_true,NG,NW,MF,decide_eq_true_eq] at hag;obtain ⟨p,q',m',e1,e2,e3,e4,e5⟩:=Gn hc;have em:m'=(i,k):=by
    have g1:=congrArg Choice.Node e5;have g2:=congrArg Choice.Lane e5;cases m';simp only at g1 g2;have:((i:Nat):Int)=_:=hag.1;have:((k:Nat):Int)=_:=hag.2;exact Prod.ext (by show _=i;omega) (by show _=k;omega)
   subst em;subst e1;have hpull:=sm hR hsrc hr hx (yy e2 h6) (.inr e2);obtain ⟨t,u,w',D',g1,g2,g3,g4,g5,g6,g7⟩:=vh q f (doM n items s i k) l r (p++q') D h1 (by omega) hpull (by rw [gY,e2,e3];rfl) hl;refine ⟨t,(i,k)::u,w',D',g1,g2,.cons hx g3,?_,g5,g6,g7⟩;rw [eT,if_pos h6,g4,e5]
  ·rw [if_neg h6];obtain ⟨w1,D1,r1,r2,r3⟩:=FR q hI hi hk hcan h6 hr hl;obtain ⟨t,u,w',D',g1,g2,g3,g4,g5,g6,g7⟩:=vh q f (doM n items s i k) (c::l) r w1 D1 h1 (by omega) r1 (by rw [r3,hc]) r2;refine ⟨t,(i,k)::u,w',D',g1,g2,.cons hx g3,?_,g5,g6,g7⟩;rw [eT,if_neg h6,g4]
end
end
section
section
variable {n:Net} {items:List (List Item)} {forced:List Choice} {B:Int} {s:State}
section
variable (hio:∀ x∈n.Nodes,x.In.length≤1099511627776∧x.Out.length≤1099511627776) (hsrc:cP n items=0) (hC:RightC n forced)
include hio hsrc
theorem zI (ok:OkS n items B s):jf n items s=some (bb n items s,0):=by
 have hS:=ku hsrc;rw [HG n items s hio (fun l hl=>by obtain ⟨r,hr⟩:=L1 hl;have:=ok.room r l hr;have:=hS.m2;omega),if_neg (by rw [tf hsrc ok];simp)]
include hC
omit hio in
end
end
end
section
theorem qo {α:Type} (l:List α) (h:l.length<=1099511627776):app ([]:List α) l=some l:=by rw [cJ (by simpa using h)];rfl
section
variable {n:Net} {items:List (List Item)} {B:Int} {s:State}
end
end
theorem sE (n:Net) (items:List (List Item)) (hio:∀ x∈n.Nodes,x.In.length<=1099511627776/\x.Out.length<=1099511627776):jh n items=some (if cP n items≠0 then (noS,cP n items) else (a9 n items,0)):=by
 unfold jh;rw [rH n items hio,LF];by_cases h:cP n items=0
 ·rw [if_neg (show ¬ (cP n items != 0)=true by simp [h]),if_neg (show ¬ cP n items≠0 by simp [h]),GP (ku h) hio,LF]
 ·rw [if_pos (show (cP n items != 0)=true by simpa using h),if_pos h];rfl
section
theorem xw {n:Net} (hN:n.Nodes.length<=1000) (hio:∀ x∈n.Nodes,x.In.length<=1099511627776/\x.Out.length<=1099511627776):∀ (m k:Nat),k+m=n.Nodes.length ->
  iter (fun ss:Int × (List Node)=>ki n n.Nodes ss.1 ss.2) ((k:Int),n.Nodes)=some n
 | 0,k,h=>by
  have e:ki n n.Nodes (k:Int) n.Nodes=some (.inr n):=by unfold ki;rw [if_neg (by simp;omega)];rfl
  rw [aH];simp only [e]
 | m+1,k,h=>by
  have hlt:k<n.Nodes.length:=by omega
  have hx:n.Nodes[k]?=some n.Nodes[k]:=LG hlt;have hio':=hio n.Nodes[k] (Mk hlt);generalize n.Nodes[k]=x at hx hio';have hs:List.set n.Nodes k x=n.Nodes:=uI hx;have c1:jS x.In=some x.In:=qo _ hio'.1;have c2:jS x.Out=some x.Out:=qo _ hio'.2;have e:ki n n.Nodes (k:Int) n.Nodes=some (.inl (((k+1:Nat):Int),n.Nodes)):=by unfold ki;rw [if_pos (by simp;omega)];simp only [fK hlt,LF,hx,c1,c2,hs,bt (show k<4611686018427387904 by omega)]
  rw [aH];simp only [e];exact xw hN hio m (k+1) (by omega)
theorem xW {n:Net} (hN:n.Nodes.length<=1000) (hio:∀ x∈n.Nodes,x.In.length<=1099511627776/\x.Out.length<=1099511627776):n9 n=some n:=by unfold n9;rw [show rB n.Nodes=some n.Nodes from qo _ (by omega),LF];exact xw hN hio n.Nodes.length 0 (by omega)
theorem xi {l:List (List Item)} (hl:l.length<=1000) (hi:∀ x∈l,x.length<=1000):∀ (m k:Nat),k+m=l.length ->
  iter (fun ss:Int × (List (List Item))=>jQ l ss.1 ss.2) ((k:Int),l.take k)=some l
 | 0,k,h=>by
  have e:jQ l (k:Int) (l.take k)=some (.inr l):=by unfold jQ;rw [if_neg (by simp;omega),Mm (by omega)];rfl
  rw [aH];simp only [e]
 | m+1,k,h=>by
  have hlt:k<l.length:=by omega
  have hx:l[k]?=some l[k]:=LG hlt;have hi':=hi l[k] (Mk hlt);have hts:=FB hx;generalize l[k]=x at hx hi' hts;have c1:eO x=some x:=qo _ (by omega);have e:jQ l (k:Int) (l.take k)=some (.inl (((k+1:Nat):Int),l.take (k+1))):=by unfold jQ;rw [if_pos (by simp;omega),bv hx,LF,c1,LF,cJ (by rw [L8];simp;omega),LF,bt (by omega),hts]
  rw [aH];simp only [e];exact xi hl hi m (k+1) (by omega)
theorem xp {l:List (List Item)} (hl:l.length<=1000) (hi:∀ x∈l,x.length<=1000):pt l=some l :=
 xi hl hi l.length 0 (by omega)
section
variable {n:Net} {items:List (List Item)} {E:Nat} {h:Shop}
theorem SrcQ.l (q:SrcQ n items):n.Nodes.length<=1000/\items.length<=1000/\∀ x∈items,x.length<=1000:=by have h1:=q.S.n2;have h2:=q.S.l4;refine ⟨by omega,by omega,fun x hx=>?_⟩;obtain ⟨a,ha⟩:=L1 hx;have:=q.S.l20 a x ha;omega
theorem Gt (q:SrcQ n items) {s:State} (hI:Inv n items s):SmallS s:=by obtain ⟨B,ok,_⟩:=hI;exact za q.S ok
theorem BL (q:SrcQ n items) {s:State} (hI:Inv n items s):cI n items s=0:=by obtain ⟨B,ok,_⟩:=hI;exact tf q.src ok
theorem Hl (q:SrcQ n items) (j:JS n items E h):gP h=some h:=by
 obtain ⟨l1,l2,l3⟩:=q.l;have hd:=j.okD;have hc:kr h.S=some h.S:=by obtain ⟨B,ok,_⟩:=j.inv;exact BC q.S ok
 unfold gP;rw [j.N,j.I,xW l1 q.io,LF,xp l2 l3,LF,hc,LF,uU h.D.Sectors (by have:=hd.1;omega),LF,yT h.D.Wait (by have:=hd.2.1;omega),LF,
  show eO h.Told=some h.Told from qo _ (by have:=j.told;omega),LF]
 have e1:=j.N;have e2:=j.I;subst e1;subst e2;rfl
theorem IG (q:SrcQ n items) (j:JS n items E h):pM h=some 0:=by
 have hs:=Gt q j.inv;have h1:gR h.N h.Items h.S=some 0:=by rw [j.N,j.I,qp n items h.S q.io hs.a6,BL q j.inv]
 have hl:=j.laid;have hg:=j.log;have hn:=j.next;have he:=j.e2;have hep:0<=h.Epoch/\h.Epoch<=200:=by
  by_cases hd:h.Down=true
  ·rw [(j.down hd).2.1];omega
  ·rw [j.ep (by simpa using hd)];omega
 have ht:=j.told;unfold pM;rw [h1,LF,if_neg (by decide),jo j.okD,LF,if_neg (by decide),if_neg (by simp;omega),if_neg (by simp;omega)]
theorem I6 (q:SrcQ n items) {s:State} (hI:Inv n items s) (a:Int) (S:List (List UInt8)) (W:List Write) (z1 z2 z3 z4 z5:Int) (dn:Bool) (td:List Item) :
  pk a n.Nodes n.Rings n.Room items s.At s.Rings s.Memory s.Choices s.Out S W z1 z2 z3 z4 z5 dn td=some (if bb n items s=[] then (10,s.At,s.Rings,s.Memory,s.Choices,s.Out)
   else (0,(doMv n items s (fq (bb n items s) a)).At,(doMv n items s (fq (bb n items s) a)).Rings,(doMv n items s (fq (bb n items s) a)).Memory,(doMv n items s (fq (bb n items s) a)).Choices,(doMv n items s (fq (bb n items s) a)).Out)):=by
 obtain ⟨B,ok,hB⟩:=hI
 have hrd:jf (⟨n.Nodes,n.Rings,n.Room⟩:Net) items (⟨s.At,s.Rings,s.Memory,s.Choices,s.Out⟩:State)=some (bb n items s,0):=zI q.io q.src ok
 unfold pk
 rw [hrd,LF]
 by_cases h0:bb n items s=[]
 ·rw [if_pos (by simp [h0]),if_pos h0]
 ·obtain ⟨hmem,hix⟩:=zQ h0 a
  have hpos:0<(bb n items s).length:=Nj.2 h0
  have h192:=yo (items:=items) (s:=s) q.S.toRightN
  have hrem:=JD a (bb n items s).length hpos (by omega)
  obtain ⟨r1,hr1,hr2⟩:=bind_some hrem
  have hn:=NT a (show ((bb n items s).length:Int)≠0 by omega)
  have hget:(bb n items s)[(a % ((bb n items s).length:Int)).toNat]?=some (fq (bb n items s) a):=dw _ hix
  have hdo:jx (⟨n.Nodes,n.Rings,n.Room⟩:Net) items (⟨s.At,s.Rings,s.Memory,s.Choices,s.Out⟩:State) (fq (bb n items s) a)=some (doMv n items s (fq (bb n items s) a),0):=zH q.src ok hmem q.io
  have hixn:ixN (bb n items s) (a % ((bb n items s).length:Int))=some (a % ((bb n items s).length:Int)).toNat:=ixN_D hn (by omega)
  rw [if_neg (by simpa using h0),if_neg h0,hr1,LF,hr2,LF]
  simp only [hixn,LF,hget,hdo]
theorem AK {α:Type} (p:α->Bool):∀ xs:List α,(xs.find? p=none/\idxI p xs = -1)∨∃ (k:Nat) (x:α),k<xs.length/\idxI p xs=(k:Int)/\xs[k]?=some x/\xs.find? p=some x
 | []=>.inl ⟨rfl,rfl⟩
 | a::xs=>by
  by_cases h:p a=true
  ·right;refine ⟨0,a,by simp,?_,rfl,by rw [List.find?_cons,h]⟩;unfold idxI;rw [NK,if_pos h]
  ·have h':p a=false:=by simpa using h
   rcases AK p xs with ⟨h1,h2⟩ | ⟨k,x,h1,h2,h3,h4⟩
   ·left;refine ⟨by rw [List.find?_cons,h'];exact h1,?_⟩;unfold idxI at h2 ⊢;rw [NK,if_neg h];cases hf:xs.findIdx? p with
    | none=>rfl
    | some i=>rw [hf] at h2;simp only at h2;omega
   ·right;refine ⟨k+1,x,by simp only [LW];omega,?_,by simpa using h3,by rw [List.find?_cons,h'];exact h4⟩;unfold idxI at h2 ⊢;rw [NK,if_neg h];cases hf:xs.findIdx? p with
    | none=>rw [hf] at h2;simp only at h2;omega
    | some i=>rw [hf] at h2;simp only [MQ] at h2 ⊢;omega
theorem IZ (q:SrcQ n items) {s:State} {m:Move} (hm:m∈bb n items s) (c:Choice) (l:List Choice):pc m n.Nodes n.Rings n.Room (c::l)=some (eU n c m):=by
 obtain ⟨i,k,rfl,hi,hk,hc⟩:=lM hm;unfold pc eU;rw [bv (iA hi),LF];simp only [L7];by_cases h6:(aa n i).Kind=6
 ·rw [if_neg (by simpa using h6),show idx (c::l) 0=some c from rfl];simp only [LF,h6,decide_true,NG,NW];by_cases h1:(i:Int)=c.Node
  ·rw [if_pos (by simpa using h1)];simp [h1];rfl
  ·rw [if_neg (by simpa using h1)];simp [h1]
 ·rw [if_pos (by simpa using h6)];simp [h6]
theorem EK (q:SrcQ n items) {s:State} (c:Choice) (l:List Choice):o6 (bb n items s) n.Nodes n.Rings n.Room (c::l)=some (idxI (eU n c) (bb n items s)):=by
 have h192:=yo (items:=items) (s:=s) q.S.toRightN;unfold o6;rw [uj (bb n items s) (by omega) (eU n c) (fun k x hx hk h1 h2 h3=>by
  unfold oY;rw [h2,fK hk,h3];simp only [if_true,LF,hx];rw [IZ q (LJ hx) c l,LF];rfl) (fun h=>by
  unfold oY;rw [h];rfl)]
theorem y0 (q:SrcQ n items):∀ (f:Nat) (s:State) (l:List Choice),Inv n items s->muN n items s<f->l.length<=1000000 ->
  iter (fun ss:(List Int) × (List (List Item)) × (List Memory) × (List Choice) × (List Item) × (List Choice)=>jU n items ss.1 ss.2.1 ss.2.2.1 ss.2.2.2.1 ss.2.2.2.2.1 ss.2.2.2.2.2) (s.At,s.Rings,s.Memory,s.Choices,s.Out,l)=repM n items f s l
 | f,s,[],hI,hf,hl=>by
  have e:jU n items s.At s.Rings s.Memory s.Choices s.Out []=some (.inr (s,0)):=by unfold jU;rw [if_neg (by simp)];rfl
  rw [aH];simp only [e];cases f<;>rfl
 | 0,s,c::l,hI,hf,hl=>by omega
 | f + 1,s,c::l,hI,hf,hl=>by
  obtain ⟨B,ok,hB⟩:=id hI;have hrd:jf n items (⟨s.At,s.Rings,s.Memory,s.Choices,s.Out⟩:State)=some (bb n items s,0):=zI q.io q.src ok;rw [aH];unfold repM;have e0:jU n items s.At s.Rings s.Memory s.Choices s.Out (c::l)=match (bb n items s).find? (eU n c) with
    | none=>some (.inr (noS,11))
    | some m=>some (.inl ((doMv n items s m).At,(doMv n items s m).Rings,(doMv n items s m).Memory,(doMv n items s m).Choices,(doMv n items s m).Out,if (aa n m.Node.toNat).Kind=6 then l else c::l)):=by
   unfold jU
   rw [if_pos (by simp),hrd,LF,EK q,LF]
   rcases AK (eU n c) (bb n items s) with ⟨h1,h2⟩ | ⟨k,m,h1,h2,h3,h4⟩
   ·rw [h1,h2,if_pos (by decide)];rfl
   ·have hmem:=LJ h3
    have hdo:jx n items (⟨s.At,s.Rings,s.Memory,s.Choices,s.Out⟩:State) m=some (doMv n items s m,0):=zH q.src ok hmem q.io
    have hk1:∀ z:List Choice,lv n items s.At s.Rings s.Memory s.Choices s.Out (bb n items s,0) (k:Int) z=some (.inl ((doMv n items s m).At,(doMv n items s m).Rings,(doMv n items s m).Memory,(doMv n items s m).Choices,(doMv n items s m).Out,z)):=fun z=>by unfold lv;rw [fK h1,LF];simp only [h3,LF,hdo]
    obtain ⟨i,k',hm,hi,hk',hc⟩:=lM hmem
    have hix:idx n.Nodes m.Node=some (aa n m.Node.toNat):=by rw [hm];exact bv (iA hi)
    have hsub:sub (c::l) 1 ((c::l).length:Int)=some l:=jv (i:=1) (by simp)
    rw [h2,if_neg (by simp),fK h1,LF]
    simp only [h3,h4,LF,hix]
    by_cases h6:(aa n m.Node.toNat).Kind=6
    ·rw [if_pos (by simpa using h6),hsub,LF,hk1,if_pos h6]
    ·rw [if_neg (by simpa using h6),hk1,if_neg h6]
  simp only [e0];cases hm:(bb n items s).find? (eU n c) with
  | none=>rfl
  | some m =>
   have hmem:=Na hm;obtain ⟨h1,h2⟩:=hI.doMv q.S hmem;simp only;exact y0 q f (doMv n items s m) _ h1 (by omega) (by split<;>simp only [LW] at hl ⊢<;>omega)
theorem FD (q:SrcQ n items) {s:State} (hI:Inv n items s) {l:List Choice} (hl:l.length<=1000000):nE n items s l=some (bS n items s l):=by
 have h5:=hI.ch.1;unfold nE bS;rw [bA (by omega) (by omega)];by_cases h:500<s.Choices.length+l.length
 ·rw [if_pos (by simp;omega),if_pos h];rfl
 ·rw [if_neg (by simp;omega),if_neg h];have:=y0 q (muN n items s+1) s l hI (by omega) hl;rw [this];cases hr:repM n items (muN n items s+1) s l with
  | none =>
   exfalso;have key:∀ (f:Nat) (s:State) (l:List Choice),Inv n items s->muN n items s<f->repM n items f s l≠none:=by
    intro f;induction f with
    | zero=>intro s l hI hf;omega
    | succ f ih =>
     intro s l hI hf;cases l with
     | nil=>intro h;cases h
     | cons c l =>
      unfold repM;cases hm:(bb n items s).find? (eU n c) with
      | none=>intro h;cases h
      | some m =>
       obtain ⟨h1,h2⟩:=hI.doMv q.S (Na hm);exact ih _ _ h1 (by omega)
   exact key _ _ _ hI (by omega) hr
  | some r=>rfl
theorem Hy {d:Disk} (hd:bF d) {ch:List Choice} {L e x:Nat} (hL:L<=ch.length) (hc:ch.length<=500) (he:e<=200) (hx:x<=80) (a:Int) (N:List Node) (R Ro:Int) (I:List (List Item)) (At:List Int) (Rg:List (List Item)) (M:List Memory) (O:List Item) (sf la:Int) (dn:Bool) (td:List Item) :
  pj a N R Ro I At Rg M ch O d.Sectors d.Wait (L:Int) sf (e:Int) la (x:Int) dn td=some (if 0<=la then (10,d.Sectors,d.Wait,(L:Int),(x:Int))
   else if (bT e d.Sectors (ch.drop L).length x (ch.drop L) d.Wait).2.2≠0 then ((bT e d.Sectors (ch.drop L).length x (ch.drop L) d.Wait).2.2,d.Sectors,d.Wait,(L:Int),(x:Int))
   else (0,(bT e d.Sectors (ch.drop L).length x (ch.drop L) d.Wait).1.Sectors,(bT e d.Sectors (ch.drop L).length x (ch.drop L) d.Wait).1.Wait,(ch.length:Int),(bT e d.Sectors (ch.drop L).length x (ch.drop L) d.Wait).2.1)):=by
 unfold pj
 by_cases hl:0<=la
 ·rw [if_pos (by simpa using hl),if_pos hl]
 rw [if_neg (by simpa using hl),if_neg hl,jv hL,LF,show nK (⟨d.Sectors,d.Wait⟩:Disk) (e:Int) (x:Int) (ch.drop L)=_ from Gg hd e x (ch.drop L) he hx (by rw [Mg];omega),LF]
 by_cases h0:(bT e d.Sectors (ch.drop L).length x (ch.drop L) d.Wait).2.2=0
 ·rw [if_neg (by simpa using h0),if_neg (by simpa using h0)]
 ·rw [if_pos (by simpa using h0),if_pos h0]
theorem Ht {d:Disk} (hd:bF d) {ep:Int} (he:0<=ep/\ep<=200) (a:Int) (N:List Node) (R Ro:Int) (I:List (List Item)) (At:List Int) (Rg:List (List Item)) (M:List Memory) (C:List Choice) (O:List Item) (lg sf la nx:Int) (dn:Bool) (td:List Item) :
  pi a N R Ro I At Rg M C O d.Sectors d.Wait lg sf ep la nx dn td=some (if 0<=la then (0,aK d.Sectors d.Wait,[],la,la,ep+1, -1,0) else (0,aK d.Sectors d.Wait,[],lg,lg,ep,la,nx)):=by
 unfold pi
 rw [show nJ (⟨d.Sectors,d.Wait⟩:Disk)=_ from HQ hd,LF]
 by_cases hl:0<=la
 ·rw [if_pos (by simpa using hl),if_pos hl,bA (by omega) (by omega)]
 ·rw [if_neg (by simpa using hl),if_neg hl]
theorem Jf {td O:List Item} (ht:td.length<=2000) (hO:O.length<=2000) (sf a:Int) (N:List Node) (R Ro:Int) (I:List (List Item)) (At:List Int) (Rg:List (List Item)) (M:List Memory) (C:List Choice) (S:List (List UInt8)) (W:List Write) (lg ep la nx:Int) (dn:Bool) :
  pn a N R Ro I At Rg M C O S W lg sf ep la nx dn td=some (if (cX td O sf).2≠0 then ((cX td O sf).2,td) else (0,td++(cX td O sf).1)):=by
 unfold pn
 rw [D5,LF]
 by_cases h0:(cX td O sf).2=0
 ·have:=yr (s:=sf) ht hO
  rw [LI] at this
  rw [if_neg (by simpa using h0),if_neg (by simpa using h0),cJ (by omega),LF]
 ·rw [if_pos (by simpa using h0),if_pos h0]
theorem Jq (q:SrcQ n items) {d:Disk} (hd:bF d) (a:Int) (At:List Int) (Rg:List (List Item)) (M:List Memory) (C:List Choice) (O:List Item) (lg sf ep la nx:Int) (dn:Bool) (td:List Item) :
  pr a n.Nodes n.Rings n.Room items At Rg M C O d.Sectors d.Wait lg sf ep la nx dn td=some (if a<0∨d.Wait.length<a then (3,At,Rg,M,C,O,d.Sectors,d.Wait,lg,sf,ep,la,nx,dn)
   else (0,(a9 n items).At,(a9 n items).Rings,(a9 n items).Memory,(a9 n items).Choices,(a9 n items).Out,aK d.Sectors (d.Wait.take a.toNat),[],0,0,0, -1,0,true)):=by
 have hst:jh (⟨n.Nodes,n.Rings,n.Room⟩:Net) items=some (a9 n items,0):=by have:=sE n items q.io;rwa [if_neg (by simp [q.src])] at this
 unfold pr
 by_cases h:a<0∨d.Wait.length<a
 ·have hc:jk (⟨d.Sectors,d.Wait⟩:Disk) a=some (⟨[],[]⟩,3):=by
   unfold jk;rw [show fG (⟨d.Sectors,d.Wait⟩:Disk)=_ from jo hd,LF,if_neg (by decide),if_pos (by simp only [Nn,decide_eq_true_eq];omega)]
  rw [if_pos h,hc];rfl
 ·have hc:jk (⟨d.Sectors,d.Wait⟩:Disk) a=some (⟨aK d.Sectors (d.Wait.take a.toNat),[]⟩,0):=by
   have:=B8 hd a.toNat (by omega);rwa [Mf (by omega)] at this
  rw [if_neg h,hc,LF,if_neg (by simp),hst];rfl
theorem mL_le {α:Type} {m:α->Nat} {c:Nat}:∀ {l:List α},(∀ x,x∈l->m x<=c)->mL m l<=l.length*c+1
 | [],_=>by simp [mL]
 | a::l,h=>by
  have h1:=mL_le (l:=l) fun x hx=>h x (L2 _ hx)
  have h2:=h a L0;rw [JA,LW,Ma];omega
theorem GD (q:SrcQ n items) {s:State} (hI:Inv n items s):mA s<=10000:=by
 obtain ⟨B,ok,hB⟩:=hI;have h2:=q.S.n2;have h3:=q.S.r2;have h4:=q.S.l4;have h6:=q.S.m2;have hrg:=ok.rg;have hmm:=ok.mm;have hat:=ok.at_;have hch:=ok.ch;have hou:=ok.out;have a1:=mL_le (m:=mI) (c:=1) (l:=s.At) fun x _=>LM _
 have a2:=mL_le (m:=mL cK) (c:=19) (l:=s.Rings) fun l hl=>by
  obtain ⟨r,hr⟩:=L1 hl;have:=ok.room r l hr;have:=mL_le (m:=cK) (c:=3) (l:=l) fun x _=>LM _
  omega
 have a3:=mL_le (m:=fH) (c:=15) (l:=s.Memory) fun m hm=>by
  obtain ⟨i,hi⟩:=L1 hm;have:=(ok.mem i m hi).1.len;have:=mL_le (m:=hY) (c:=2) (l:=m.Keys) fun x _=>LM _
  unfold fH;omega
 have a4:=mL_le (m:=g9) (c:=2) (l:=s.Choices) fun x _=>LM _
 have a5:=mL_le (m:=cK) (c:=3) (l:=s.Out) fun x _=>LM _
 unfold mA;omega
theorem JW (q:SrcQ n items) {s:State} (hI:Inv n items s) (hk:KV s) {d:Disk} (hd:bF d) {e:Nat} (he:e<=200) (a lg sf la nx:Int) (dn:Bool) (td:List Item) :
  pu a n.Nodes n.Rings n.Room items s.At s.Rings s.Memory s.Choices s.Out d.Sectors d.Wait lg sf (e:Int) la nx dn td=some (if 0<=la then (10,d.Sectors,d.Wait,la) else if e=200 then (8,d.Sectors,d.Wait,la)
   else if 60<=((aV s).length+49) / 50∨300<d.Wait.length+(((aV s).length+49) / 50+1) then (8,[],[],la) else (0,d.Sectors,d.Wait++cC e (aV s),(s.Choices.length:Int))):=by
 have hbl:=M0 (zg s) (Nat.mul_le_mul_left 10 (GD q hI))
 unfold pu
 by_cases hl:0<=la
 ·rw [if_pos (by simpa using hl),if_pos hl]
 rw [if_neg (by simpa using hl),if_neg hl]
 by_cases h2:e=200
 ·rw [if_pos (by simp [h2]),if_pos h2]
 have hb:jg (⟨n.Nodes,n.Rings,n.Room⟩:Net) items (⟨s.At,s.Rings,s.Memory,s.Choices,s.Out⟩:State)=some (aV s,0):=by have:=A5 (n:=n) items s q.io (kv_s q.S hI hk) (by unfold BB;omega);rwa [if_neg (by simp [BL q hI])] at this
 have hr:rem (IntKind.i64.wrap ((e:Int)+1)) 2=some (((e+1) % 2:Nat):Int):=by rw [bt (by omega)];unfold rem;rw [if_neg (by decide),Int.tmod_eq_emod_of_nonneg (by omega)];congr 1
 obtain ⟨e0,g1,g2,g3⟩:=Kl d (((e+1) % 2:Nat):Int) ((e+1:Nat):Int) (aV s) (by omega)
 have ge:e0=0:=g2.2 hd
 rw [if_neg (by simp [ge]),if_neg (by omega)] at g3
 rw [if_neg (by simp;omega),if_neg h2,hb,LF,if_neg (by simp),hr,LF,bt (by omega),show n5 (⟨d.Sectors,d.Wait⟩:Disk) _ _ _=_ from g3,LF]
 by_cases h3:60<=((aV s).length+49) / 50∨300<d.Wait.length+(((aV s).length+49) / 50+1)
 ·rw [if_pos h3,if_pos h3];rfl
 ·rw [if_neg h3,if_neg h3]
  simp only [L7]
  rfl
theorem BS (S:List (List UInt8)) (slot:Nat) (hd:List UInt8):∀ (m k:Nat) (acc b:List UInt8),col S slot hd m k acc=some b->b.length<=acc.length+53*m
 | 0,k,acc,b,h=>by cases h;omega
 | m+1,k,acc,b,h=>by
  unfold col at h;split at h
  ·cases h
  ·rename_i p hp;split at h
   ·rename_i hc;have:=BS S slot hd m (k+1) _ b h;rw [LI,Mg] at this;have:p.length<=53:=by omega
    omega
   ·cases h
theorem G0 {S:List (List UInt8)} {slot:Nat} {x:List UInt8 × Nat} (h:cq S slot=some x):x.1.length<=4000:=by
 unfold cq at h;split at h
 ·cases h
 split at h
 ·rename_i hc;obtain ⟨b,hb,rfl⟩:=L6.1 h;have:=BS _ _ _ _ _ _ _ hb;simp only [Nx] at this;show b.length<=4000;omega
 ·cases h
theorem JF (q:SrcQ n items) {b:List UInt8} (hb:b.length<=4000):gc n items b=some (ofM n items b):=by unfold ofM;rcases Ks items q.io q.src b (by omega) with h | ⟨t,h,_⟩<;>rw [h]<;>rfl
theorem xG (q:SrcQ n items) {d:Disk} (hd:bF d) (sl:Nat) (hs:sl<=1) (st:State × Nat) :
  ll n.Nodes n.Rings n.Room items d.Sectors d.Wait (st.2:Int) (sl:Int) st.1.At st.1.Rings st.1.Memory st.1.Choices st.1.Out =
   some (.inl (((dP n items d.Sectors sl st).2:Int),((sl+1:Nat):Int),(dP n items d.Sectors sl st).1.At,(dP n items d.Sectors sl st).1.Rings,(dP n items d.Sectors sl st).1.Memory,(dP n items d.Sectors sl st).1.Choices,(dP n items d.Sectors sl st).1.Out)):=by
 have hg:n6 (⟨d.Sectors,d.Wait⟩:Disk) (sl:Int)=some (getR d.Sectors sl):=JY hd sl hs
 unfold ll
 rw [if_pos (by simp;omega),hg,LF]
 unfold getR dP
 cases hm:cq d.Sectors sl with
 | none =>
  simp only
  rw [if_pos (by simp),bt (by omega)]
 | some x =>
  simp only
  by_cases h1:x.2<=st.2
  ·rw [if_pos (by simp;omega),if_pos h1,bt (by omega)]
  ·have hof:gc (⟨n.Nodes,n.Rings,n.Room⟩:Net) items x.1=some (ofM n items x.1):=JF q (G0 hm)
   rw [if_neg (by simp;omega),if_neg h1,hof,LF]
   by_cases h2:(ofM n items x.1).2=0
   ·rw [if_pos (by simpa using h2),if_pos h2,bt (by omega)]
   ·rw [if_neg (by simpa using h2),if_neg h2,bt (by omega)]
theorem Gj (q:SrcQ n items) {d:Disk} (hd:bF d) (At:List Int) (Rg:List (List Item)) (M:List Memory) (C:List Choice) (O:List Item) (lg sf ep la nx:Int) (dn:Bool) (td:List Item) :
  ph n.Nodes n.Rings n.Room items At Rg M C O d.Sectors d.Wait lg sf ep la nx dn td=some ((cr n items d.Sectors).1,((cr n items d.Sectors).2:Int)):=by
 have hst:jh (⟨n.Nodes,n.Rings,n.Room⟩:Net) items=some (a9 n items,0):=by have:=sE n items q.io;rwa [if_neg (by simp [q.src])] at this
 unfold ph
 rw [hst,LF]
 have s0:=xG q hd 0 (by omega) (a9 n items,0)
 have s1:=xG q hd 1 (by omega) (dP n items d.Sectors 0 (a9 n items,0))
 have s2:∀ st:State × Nat,ll n.Nodes n.Rings n.Room items d.Sectors d.Wait (st.2:Int) ((1+1:Nat):Int) st.1.At st.1.Rings st.1.Memory st.1.Choices st.1.Out=some (.inr (st.1,(st.2:Int))):=fun st=>by unfold ll;rw [if_neg (by decide)];rfl
 have s2:=s2 (cr n items d.Sectors)
 rw [aH]
 simp only [Mt] at s0
 simp only [s0]
 rw [aH]
 simp only [MG,Int.natCast_one] at s1 ⊢
 simp only [s1]
 rw [aH]
 unfold cr at s2 ⊢
 simp only [s2]
theorem up_eq (q:SrcQ n items) {d:Disk} (hd:bF d) {s:State} (hn:cr n items d.Sectors=(s,E)) (hI:Inv n items s) (hE:E<=200) (a:Int) (At:List Int) (Rg:List (List Item)) (M:List Memory) (C:List Choice) (O:List Item) (lg sf ep la nx:Int) (dn:Bool) (td:List Item) :
  pw a n.Nodes n.Rings n.Room items At Rg M C O d.Sectors d.Wait lg sf ep la nx dn td=some (if eq n (bd (E:Int) (d.Sectors.drop 120)).1≠0 then (eq n (bd (E:Int) (d.Sectors.drop 120)).1,At,Rg,M,C,O,lg,sf,ep,nx,dn)
   else if (bS n items s (bd (E:Int) (d.Sectors.drop 120)).1).2≠0 then ((bS n items s (bd (E:Int) (d.Sectors.drop 120)).1).2,At,Rg,M,C,O,lg,sf,ep,nx,dn)
   else (0,(bS n items s (bd (E:Int) (d.Sectors.drop 120)).1).1.At,(bS n items s (bd (E:Int) (d.Sectors.drop 120)).1).1.Rings,(bS n items s (bd (E:Int) (d.Sectors.drop 120)).1).1.Memory,(bS n items s (bd (E:Int) (d.Sectors.drop 120)).1).1.Choices,(bS n items s (bd (E:Int) (d.Sectors.drop 120)).1).1.Out,
    ((bS n items s (bd (E:Int) (d.Sectors.drop 120)).1).1.Choices.length:Int),((bS n items s (bd (E:Int) (d.Sectors.drop 120)).1).1.Choices.length:Int),(E:Int),((bd (E:Int) (d.Sectors.drop 120)).2:Int),false)):=by
 have hsl:=zG (E:Int) (d.Sectors.drop 120)
 have hd1:=hd.1
 rw [Mg] at hsl
 unfold pw
 rw [Gj q hd,hn,LF,show ob (⟨d.Sectors,d.Wait⟩:Disk) (E:Int)=_ from IH hd (E:Int) (by omega) (by omega),LF,if_neg (by simp),show nF (⟨n.Nodes,n.Rings,n.Room⟩:Net) (bd (E:Int) (d.Sectors.drop 120)).1=some (eq n (bd (E:Int) (d.Sectors.drop 120)).1) from D4 n q.io _,LF]
 simp only
 by_cases h1:eq n (bd (E:Int) (d.Sectors.drop 120)).1=0
 ·rw [if_neg (by simpa using h1),if_neg (by simpa using h1),show nE (⟨n.Nodes,n.Rings,n.Room⟩:Net) items s (bd (E:Int) (d.Sectors.drop 120)).1=_ from FD q hI (by omega),LF]
  by_cases h2:(bS n items s (bd (E:Int) (d.Sectors.drop 120)).1).2=0
  ·rw [if_neg (by simpa using h2),if_neg (by simpa using h2)]
  ·rw [if_pos (by simpa using h2),if_pos h2]
 ·rw [if_pos (by simpa using h1),if_pos h1]
theorem zj (q:SrcQ n items) (j:JS n items E h) (k a:Int):iE h ⟨k,a⟩=some (if k<1∨7<k then (noH,5) else doP h k a):=by
 obtain ⟨s0,hn0,hI0,_⟩:=sP q j.held;have hcp:=Hl q j;have eN:=j.N;have eI:=j.I;subst eN;subst eI;have hlog:=j.log;have hnx:=j.next;have hE:=j.e2;have ⟨hc5,hO⟩:=j.inv.ch;have hne:∀ {x y:Int},x≠y->¬ ((x==y)=true):=fun h1 h2=>h1 (by simpa using h2)
 have dn6:h.Down=true->∀ {x:Int},x≠6->(!(h.Down==(x==6)))=true:=fun h1 x h2=>by rw [h1];simpa using h2
 have up6:h.Down=false->∀ {x:Int},x≠6->¬ (!(h.Down==(x==6)))=true:=fun h1 x h2=>by rw [h1];simpa using h2
 have er:∀ {x:Int},x≠0->(x != 0)=true:=fun h1=>by simpa using h1
 unfold iE;rw [IG q j,LF,if_neg (by decide)];dsimp only;by_cases h1:k=1
 ·subst h1;rw [if_pos (show ((1:Int)==1)=true from rfl),if_neg (show ¬ ((1:Int)<1∨7<(1:Int)) by omega)];by_cases hd:h.Down=true
  ·rw [if_pos (dn6 hd (by decide)),fg hd,if_pos (by decide)];rfl
  have hdf:h.Down=false:=by simpa using hd
  rw [if_neg (up6 hdf (by decide)),hcp,LF,I6 q j.inv,LF,doP_1 hdf];by_cases h0:bb h.N h.Items h.S=[]
  ·rw [if_pos h0,if_pos h0,if_pos (by simp)];rfl
  ·rw [if_neg h0,if_neg h0,if_neg (by simp)];rfl
 rw [if_neg (hne h1)];by_cases h2:k=2
 ·subst h2;rw [if_pos (show ((2:Int)==2)=true from rfl),if_neg (show ¬ ((2:Int)<1∨7<(2:Int)) by omega)];by_cases hd:h.Down=true
  ·rw [if_pos (dn6 hd (by decide)),fg hd,if_pos (by decide)];rfl
  have hdf:h.Down=false:=by simpa using hd
  have hep:=j.ep hdf;obtain ⟨L,hL⟩:∃ L:Nat,h.Logged=(L:Int):=⟨h.Logged.toNat,by omega⟩
  obtain ⟨X,hX⟩:∃ X:Nat,h.Next=(X:Int):=⟨h.Next.toNat,by omega⟩
  have hw:=Hy j.okD (ch:=h.S.Choices) (L:=L) (e:=E) (x:=X) (by omega) hc5 hE (by omega) a h.N.Nodes h.N.Rings h.N.Room h.Items h.S.At h.S.Rings h.S.Memory h.S.Out h.Safe h.Laid h.Down h.Told;rw [<- hL,<- hX,<- hep] at hw;rw [if_neg (up6 hdf (by decide)),hcp,LF,hw,LF,doP_2 hdf];have e1:h.Epoch.toNat=E:=by omega
  have e2:h.Logged.toNat=L:=by omega
  have e3:h.Next.toNat=X:=by omega
  rw [e1,e2,e3];by_cases hl:0<=h.Laid
  ·rw [if_pos hl,if_pos hl,if_pos (by simp)];rfl
  rw [if_neg hl,if_neg hl];by_cases h0:(bT E h.D.Sectors (h.S.Choices.drop L).length X (h.S.Choices.drop L) h.D.Wait).2.2=0
  ·rw [if_neg (not_not_intro h0),if_neg (not_not_intro h0),if_neg (by simp)];rfl
  ·rw [if_pos h0,if_pos h0,if_pos (er h0)];rfl
 rw [if_neg (hne h2)];by_cases h3:k=3
 ·subst h3;rw [if_pos (show ((3:Int)==3)=true from rfl),if_neg (show ¬ ((3:Int)<1∨7<(3:Int)) by omega)];by_cases hd:h.Down=true
  ·rw [if_pos (dn6 hd (by decide)),fg hd,if_pos (by decide)];rfl
  have hdf:h.Down=false:=by simpa using hd
  have hep:=j.ep hdf;rw [if_neg (up6 hdf (by decide)),hcp,LF,Ht j.okD (by omega),LF,doP_3 hdf];by_cases hl:0<=h.Laid
  ·rw [if_pos hl,if_pos hl,if_neg (by simp)];rfl
  ·rw [if_neg hl,if_neg hl,if_neg (by simp)];rfl
 rw [if_neg (hne h3)];by_cases h4:k=4
 ·subst h4;rw [if_pos (show ((4:Int)==4)=true from rfl),if_neg (show ¬ ((4:Int)<1∨7<(4:Int)) by omega)];by_cases hd:h.Down=true
  ·rw [if_pos (dn6 hd (by decide)),fg hd,if_pos (by decide)];rfl
  have hdf:h.Down=false:=by simpa using hd
  rw [if_neg (up6 hdf (by decide)),hcp,LF,Jf j.told hO,LF,doP_4 hdf];by_cases h0:(cX h.Told h.S.Out h.Safe).2=0
  ·rw [if_neg (not_not_intro h0),if_neg (not_not_intro h0),if_neg (by simp)];rfl
  ·rw [if_pos h0,if_pos h0,if_pos (er h0)];rfl
 rw [if_neg (hne h4)];by_cases h5:k=5
 ·subst h5;rw [if_pos (show ((5:Int)==5)=true from rfl),if_neg (show ¬ ((5:Int)<1∨7<(5:Int)) by omega)];by_cases hd:h.Down=true
  ·rw [if_pos (dn6 hd (by decide)),fg hd,if_pos (by decide)];rfl
  have hdf:h.Down=false:=by simpa using hd
  rw [if_neg (up6 hdf (by decide)),hcp,LF,Jq q j.okD,LF,doP_5 hdf];by_cases h0:a<0∨h.D.Wait.length<a
  ·rw [if_pos h0,if_pos h0,if_pos (by simp)];rfl
  ·rw [if_neg h0,if_neg h0,if_neg (by simp)];rfl
 rw [if_neg (hne h5)];by_cases h6:k=6
 ·subst h6;rw [if_pos (show ((6:Int)==6)=true from rfl),if_neg (show ¬ ((6:Int)<1∨7<(6:Int)) by omega)];by_cases hd:h.Down=true
  ·rw [if_neg (by rw [hd];decide),hcp,LF,up_eq q j.okD hn0 hI0 hE,LF,fg hd,if_neg (show ¬ (6:Int)≠6 by decide),hn0];simp only;by_cases g1:eq h.N (bd (E:Int) (h.D.Sectors.drop 120)).1=0
   ·rw [if_neg (not_not_intro g1),if_neg (not_not_intro g1)];by_cases g2:(bS h.N h.Items s0 (bd (E:Int) (h.D.Sectors.drop 120)).1).2=0
    ·rw [if_neg (not_not_intro g2),if_neg (not_not_intro g2),if_neg (by simp)];rfl
    ·rw [if_pos g2,if_pos g2,if_pos (er g2)];rfl
   ·rw [if_pos g1,if_pos g1,if_pos (er g1)];rfl
  have hdf:h.Down=false:=by simpa using hd
  rw [if_pos (by rw [hdf];decide),qq hdf a (by decide)];rfl
 rw [if_neg (hne h6)];by_cases h7:k=7
 ·subst h7;rw [if_pos (show ((7:Int)==7)=true from rfl),if_neg (show ¬ ((7:Int)<1∨7<(7:Int)) by omega)];by_cases hd:h.Down=true
  ·rw [if_pos (dn6 hd (by decide)),fg hd,if_pos (by decide)];rfl
  have hdf:h.Down=false:=by simpa using hd
  have hep:=j.ep hdf;have hl:=JW q j.inv j.kv j.okD hE a h.Logged h.Safe h.Laid h.Next h.Down h.Told;rw [<- hep] at hl;have e1:h.Epoch.toNat=E:=by omega
  rw [if_neg (up6 hdf (by decide)),hcp,LF,hl,LF,doP_7 hdf,e1];by_cases hla:0<=h.Laid
  ·rw [if_pos hla,if_pos hla,if_pos (by simp)];rfl
  rw [if_neg hla,if_neg hla];by_cases h2:E=200
  ·rw [if_pos h2,if_pos (show h.Epoch=200 by omega),if_pos (by simp)];rfl
  rw [if_neg h2,if_neg (show ¬ h.Epoch=200 by omega)];by_cases hb:60<=((aV h.S).length+49) / 50∨300<h.D.Wait.length+(((aV h.S).length+49) / 50+1)
  ·rw [if_pos hb,if_pos hb,if_pos (by simp)];rfl
  ·rw [if_neg hb,if_neg hb,if_neg (by simp)];rfl
 rw [if_neg (hne h7),if_pos (by omega)];rfl
end
end
noncomputable section
def bl (h:Shop) (x:Happening):Shop × Int:=if x.Kind<1∨7<x.Kind then (noH,5) else doP h x.Kind x.N
def cB (h:Shop) (x:Happening):Shop:=if (bl h x).2=0 then (bl h x).1 else h
def runP:Shop->List Happening->Shop
 | h,[]=>h
 | h,x::l=>runP (cB h x) l
def saysP:Shop->List Happening->List Int
 | h,[]=>[]
 | h,x::l=>(bl h x).2::saysP (cB h x) l
def newH (n:Net) (items:List (List Item)):Shop:=⟨n,items,a9 n items,noD,0,0,0, -1,0,[],false⟩
section
variable {n:Net} {items:List (List Item)} {E:Nat} {h:Shop}
theorem JS.step (q:SrcQ n items) (j:JS n items E h) {x:Happening} (h0:(bl h x).2=0):∃ E',JS n items E' (bl h x).1:=by
 unfold bl at h0 ⊢;by_cases hx:x.Kind<1∨7<x.Kind
 ·rw [if_pos hx] at h0;exact absurd h0 (by decide)
 ·rw [if_neg hx] at h0 ⊢;exact j.do q x.Kind x.N h0
theorem JS.nextH (q:SrcQ n items) (j:JS n items E h) (x:Happening):∃ E',JS n items E' (cB h x):=by
 unfold cB;by_cases h0:(bl h x).2=0
 ·rw [if_pos h0];exact j.step q h0
 ·rw [if_neg h0];exact ⟨E,j⟩
theorem JS.run (q:SrcQ n items):∀ (l:List Happening) {E:Nat} {h:Shop},JS n items E h->∃ E',JS n items E' (runP h l)
 | [],E,h,j=>⟨E,j⟩
 | x::l,E,h,j=>by obtain ⟨E',j'⟩:=j.nextH q x;exact JS.run q l j'
theorem zJ (q:SrcQ n items) (j:JS n items E h) (x:Happening):iE h x=some (bl h x):=zj q j x.Kind x.N
theorem As:∀ (l:List Happening) (h:Shop),(saysP h l).length=l.length
 | [],h=>rfl
 | x::l,h=>by simp [saysP,As l]
theorem zo (q:SrcQ n items) (script:List Happening) (hs:script.length<=2000):∀ (m k:Nat) (E:Nat) (h:Shop) (acc:List Int),k+m=script.length->acc.length=k->JS n items E h ->
  iter (fun ss:Int × (List Node) × Int × Int × (List (List Item)) × (List Int) × (List (List Item)) × (List Memory) × (List Choice) × (List Item) × (List (List UInt8)) × (List Write) × Int × Int × Int × Int × Int × (List Item) × Bool × (List Int)=>kg script ss.1 ss.2.1 ss.2.2.1 ss.2.2.2.1 ss.2.2.2.2.1 ss.2.2.2.2.2.1 ss.2.2.2.2.2.2.1 ss.2.2.2.2.2.2.2.1 ss.2.2.2.2.2.2.2.2.1 ss.2.2.2.2.2.2.2.2.2.1 ss.2.2.2.2.2.2.2.2.2.2.1 ss.2.2.2.2.2.2.2.2.2.2.2.1 ss.2.2.2.2.2.2.2.2.2.2.2.2.1 ss.2.2.2.2.2.2.2.2.2.2.2.2.2.1 ss.2.2.2.2.2.2.2.2.2.2.2.2.2.2.1 ss.2.2.2.2.2.2.2.2.2.2.2.2.2.2.2.1 ss.2.2.2.2.2.2.2.2.2.2.2.2.2.2.2.2.1 ss.2.2.2.2.2.2.2.2.2.2.2.2.2.2.2.2.2.1 ss.2.2.2.2.2.2.2.2.2.2.2.2.2.2.2.2.2.2.1 ss.2.2.2.2.2.2.2.2.2.2.2.2.2.2.2.2.2.2.2) ((k:Int),h.N.Nodes,h.N.Rings,h.N.Room,h.Items,h.S.At,h.S.Rings,h.S.Memory,h.S.Choices,h.S.Out,h.D.Sectors,h.D.Wait,h.Logged,h.Safe,h.Epoch,h.Laid,h.Next,h.Told,h.Down,acc)=some (runP h (script.drop k),acc++saysP h (script.drop k),0)
 | 0,k,E,h,acc,hk,ha,j=>by
  have e:kg script (k:Int) h.N.Nodes h.N.Rings h.N.Room h.Items h.S.At h.S.Rings h.S.Memory h.S.Choices h.S.Out h.D.Sectors h.D.Wait h.Logged h.Safe h.Epoch h.Laid h.Next h.Told h.Down acc=some (.inr (h,acc,0)):=by unfold kg;rw [if_neg (by simp;omega)];rfl
  rw [aH];simp only [e];rw [Mi (by omega)];simp [runP,saysP]
 | m+1,k,E,h,acc,hk,ha,j=>by
  have hlt:k<script.length:=by omega
  have hx:script[k]?=some script[k]:=LG hlt;have hdr:=LU hlt;generalize script[k]=x at hx hdr;have hdo:=zJ q j x;obtain ⟨E',j'⟩:=j.nextH q x;have e:kg script (k:Int) h.N.Nodes h.N.Rings h.N.Room h.Items h.S.At h.S.Rings h.S.Memory h.S.Choices h.S.Out h.D.Sectors h.D.Wait h.Logged h.Safe h.Epoch h.Laid h.Next h.Told h.Down acc=some (.inl (((k+1:Nat):Int),(cB h x).N.Nodes,(cB h x).N.Rings,(cB h x).N.Room,(cB h x).Items,(cB h x).S.At,(cB h x).S.Rings,(cB h x).S.Memory,(cB h x).S.Choices,(cB h x).S.Out,(cB h x).D.Sectors,(cB h x).D.Wait,(cB h x).Logged,(cB h x).Safe,(cB h x).Epoch,(cB h x).Laid,(cB h x).Next,(cB h x).Told,(cB h x).Down,acc++[(bl h x).2])):=by
   unfold kg;rw [if_pos (by simp;omega),bv hx,LF,hdo,LF];unfold cB;by_cases h0:(bl h x).2=0
   ·rw [if_pos (by simpa using h0),if_pos h0,cJ (by simp;omega),LF,bt (by omega)]
   ·rw [if_neg (by simpa using h0),if_neg h0,cJ (by simp;omega),LF,bt (by omega)]
  rw [aH];simp only [e];have:=zo q script hs m (k+1) E' (cB h x) (acc++[(bl h x).2]) (by omega) (by simp;omega) j';rw [this,hdr];simp [runP,saysP]
theorem BW (q:SrcQ n items):kw n items=some (newH n items,0):=by obtain ⟨l1,l2,l3⟩:=q.l;have hst:=sE n items q.io;rw [if_neg (by simp [q.src])] at hst;unfold kw;rw [hst,LF,if_neg (by simp),xW l1 q.io,LF,xp l2 l3];rfl
theorem H6 (hio:∀ x∈n.Nodes,x.In.length<=1099511627776/\x.Out.length<=1099511627776) (hs:cP n items≠0):kw n items=some (noH,cP n items):=by have hst:=sE n items hio;rw [if_pos hs] at hst;unfold kw;rw [hst,LF,if_pos (by simpa using hs)];rfl
theorem J9 (q:SrcQ n items) (script:List Happening) (hs:script.length<=1200):qe n items script=some (runP (newH n items) script,saysP (newH n items) script,0):=by unfold qe;rw [BW q,LF,if_neg (by simp),if_neg (by simp;omega)];have:=zo q script (by omega) script.length 0 0 (newH n items) [] (by omega) rfl (yn q.S);simp only [MD,My] at this;exact this
end
end
section
structure LogIs (E:Nat) (S:List (List UInt8)) (cs:List (List Choice)):Prop where
 at_:∀ (k:Nat) c,cs[k]?=some c->gt S (120+k)=dS E c
 end_:∀ k,cs.length<=k->dB (E:Int) (gt S (120+k))=[]
 good:∀ c,c∈cs->ic c
theorem Bn (E:Nat) (he:E<=200) (S:List (List UInt8)):∀ (cs:List (List Choice)) (off:Nat),(∀ (k:Nat) c,cs[k]?=some c->gt S (off+k)=dS E c)->(∀ k,cs.length<=k->dB (E:Int) (gt S (off+k))=[])->(∀ c,c∈cs->ic c) ->
  bd (E:Int) (S.drop off)=(cs.flatten,cs.length)
 | [],off,h1,h2,h3=>by
  have h0:=h2 0 (LM _);rw [MB] at h0;cases hd:S.drop off with
  | nil=>rfl
  | cons s r =>
   have hs:gt S off=s:=by unfold gt;rw [LL];have:=congrArg (fun l=>l[0]?) hd;simp only [Ml,MB,Nu] at this;rw [this];rfl
   rw [hs] at h0;unfold bd;rw [if_pos h0];rfl
 | c::cs,off,h1,h2,h3=>by
  have h0:=h1 0 c rfl;rw [MB] at h0;have hg:=h3 c L0;have hlt:off<S.length:=by
   by_cases h:off<S.length
   ·exact h
   ·exfalso;unfold gt at h0;rw [LL,Mb (by omega)] at h0;have:=congrArg List.length h0;unfold dS at this;rw [l9] at this;simp at this
  rw [LU hlt];have hs:S[off]=dS E c:=by rw [<- h0];unfold gt;rw [LL,LG hlt];rfl
  rw [hs];have ih:=Bn E he S cs (off+1) (fun k x hx=>by rw [<- h1 (k+1) x hx];congr 1;omega) (fun k hk=>by rw [<- h2 (k+1) (by simp only [LW];omega)];congr 2;omega) (fun x hx=>h3 x (L2 _ hx));unfold bd;rw [Ah E E he c hg,if_pos rfl,if_neg hg.1,ih];simp;omega
theorem LogIs.scan {E:Nat} {S:List (List UInt8)} {cs:List (List Choice)} (h:LogIs E S cs) (he:E<=200):bd (E:Int) (S.drop 120)=(cs.flatten,cs.length):=Bn E he S cs 120 h.at_ h.end_ h.good
theorem BQ (E:Nat):∀ (cs:List (List Choice)) (k j:Nat) (s:List UInt8),seen s (wr E k cs) ((120+j:Nat):Int)=if k<=j then (match cs[j - k]? with | some c=>dS E c | none=>s) else s
 | [],k,j,s=>by
  show s=_;simp
 | c::cs,k,j,s=>by
  show seen (if ((120+k:Nat):Int)=((120+j:Nat):Int) then dS E c else s) (wr E (k+1) cs) ((120+j:Nat):Int)=_;rw [BQ E cs (k+1) j];by_cases h1:k=j
  ·subst h1;rw [if_neg (show ¬ k+1<=k by omega),if_pos rfl,if_pos (LM _),Nz];rfl
  ·have hne:¬ ((120+k:Nat):Int)=((120+j:Nat):Int):=by omega
   by_cases h2:k+1<=j
   ·obtain ⟨m,hm⟩:∃ m,j=k+1+m:=⟨j - (k+1),by omega⟩
    subst hm;rw [if_pos h2,if_neg hne,if_pos (show k<=k+1+m by omega),show k+1+m - (k+1)=m by omega,show k+1+m - k=m+1 by omega];rfl
   ·rw [if_neg h2,if_neg hne,if_neg (show ¬ k<=j by omega)]
theorem LogIs.write {E:Nat} {S:List (List UInt8)} {cs:List (List Choice)} (h:LogIs E S cs) {cs2:List (List Choice)} (hg:∀ c,c∈cs2->ic c) (hl:cs.length+cs2.length<=80):LogIs E (aK S (wr E cs.length cs2)) (cs++cs2):=by
 have hw:∀ j,gt (aK S (wr E cs.length cs2)) (120+j)=if cs.length<=j then (match cs2[j - cs.length]? with | some c=>dS E c | none=>gt S (120+j)) else gt S (120+j):=fun j=>by rw [lZ _ S _ (fun w hw=>wr_ok E cs.length cs2 hl hg w hw),BQ]
 refine ⟨fun k c hk=>?_,fun k hk=>?_,fun c hc=>?_⟩
 ·rw [hw k];by_cases h1:cs.length<=k
  ·rw [Mc h1] at hk;rw [if_pos h1,hk]
  ·rw [LO (by omega)] at hk;rw [if_neg h1];exact h.at_ k c hk
 ·rw [LI] at hk;rw [hw k,if_pos (by omega),Mb (by omega)];exact h.end_ k (by omega)
 ·rcases LZ.1 hc with hc | hc
  ·exact h.good c hc
  ·exact hg c hc
theorem LogIs.congr {E:Nat} {S S':List (List UInt8)} {cs:List (List Choice)} (h:LogIs E S cs) (he:∀ i,120<=i->gt S' i=gt S i):LogIs E S' cs :=
 ⟨fun k c hk=>by rw [he _ (by omega)];exact h.at_ k c hk,fun k hk=>by rw [he _ (by omega)];exact h.end_ k hk,h.good⟩
section
variable (n:Net) (items:List (List Item))
structure BaseIs (E:Nat) (S:List (List UInt8)) (b:State):Prop where
 inv:Inv n items b
 kv:KV b
 reach:∃ w,RRun n items (bi (a9 n items)) w (bi b)
 none:E=0->b=a9 n items
 slot:E≠0->cq S (E % 2)=some (aV b,E)
def RunIs (b:State) (l:List Choice):Prop:=∃ w D r,RRun n items (bi b) w D/\Lim D/\chW n w=l++r
inductive PendIs (E:Nat) (h:Shop) (b:State) (cs:List (List Choice)):Prop
 | log {w:List (Nat × Nat)} {cs2:List (List Choice)} {r:List Choice} (hl:¬ 0<=h.Laid) (run:RRun n items (bi b) w (bi h.S)) (ch:chW n w=(cs++cs2).flatten++r) (good:∀ c,c∈cs2->ic c) (len:cs.length+cs2.length<=80)
  (wait:h.D.Wait=wr E cs.length cs2) (next:h.Next=((cs.length+cs2.length:Nat):Int)) (logged:h.Logged=((b.Choices.length+(cs++cs2).flatten.length:Nat):Int)) (safe:h.Safe=((b.Choices.length+cs.flatten.length:Nat):Int))
 | slot {w:List (Nat × Nat)} {cs2:List (List Choice)} {r:List Choice} {s':State} {w2:List (Nat × Nat)} (hl:0<=h.Laid) (run:RRun n items (bi b) w (bi s')) (ch:chW n w=(cs++cs2).flatten++r) (good:∀ c,c∈cs2->ic c) (len:cs.length+cs2.length<=80)
  (wait:h.D.Wait=wr E cs.length cs2++cC E (aV s')) (inv:Inv n items s') (kv:KV s') (hb:((aV s').length+49) / 50<60) (run2:RRun n items (bi s') w2 (bi h.S)) (laid:h.Laid=(s'.Choices.length:Int)) (safe:h.Safe=((b.Choices.length+cs.flatten.length:Nat):Int))
structure JR (E:Nat) (h:Shop):Prop extends JS n items E h where
 base:∃ b cs,BaseIs n items E h.D.Sectors b/\LogIs E h.D.Sectors cs/\(h.Down=true->RunIs n items b cs.flatten)/\(h.Down=false->PendIs n items E h b cs)
end
section
variable {n:Net} {items:List (List Item)} {E:Nat} {h:Shop}
theorem mf {s t:State} {w:List (Nat × Nat)} (hr:RRun n items (bi s) w (bi t)):t.Choices=s.Choices++chW n w:=kJ hr
theorem JR.start (hS:RightS n items):JR n items 0 (newH n items):=by refine ⟨yn hS,a9 n items,[],⟨nR hS,n8 n items,⟨[],.nil _⟩,fun _=>rfl,fun h=>absurd rfl h⟩,⟨fun k c hk=>by simp at hk,fun k hk=>rfl,fun c hc=>by cases hc⟩,fun hd=>(by cases hd),fun _=>?_⟩;exact .log (w:=[]) (cs2:=[]) (r:=[]) (by show ¬ (0:Int) <= -1;omega) (.nil _) rfl (fun c hc=>by cases hc) (by simp) rfl rfl rfl rfl
theorem JR.go (q:SrcQ n items) (j:JR n items E h) (hd:h.Down=false) {m:Move} (hm:m∈bb n items h.S):JR n items E { h with S:=doMv n items h.S m }:=by
 obtain ⟨b,cs,hb,hl,_,hp⟩:=j.base;obtain ⟨B,ok,_⟩:=j.inv;have hx:=ex_mv q.S ok hm;have hrun:∀ {c:MSt Item Memory (List Choice)} {w:List (Nat × Nat)},RRun n items c w (bi h.S)->RRun n items c (w++[(m.Node.toNat,m.Lane.toNat)]) (bi (doMv n items h.S m)):=fun hr=>hr.app (.cons hx (.nil _))
 refine ⟨j.toJS.go q hd hm,b,cs,hb,hl,fun hx=>(by rw [show h.Down=true from hx] at hd;cases hd),fun _=>?_⟩;cases hp hd with
 | @log w cs2 r hla run ch good len wait next logged safe=>exact .log (w:=w++[(m.Node.toNat,m.Lane.toNat)]) (r:=r++chW n [(m.Node.toNat,m.Lane.toNat)]) hla (hrun run) (by rw [gY,ch,LN]) good len wait next logged safe
 | slot hla run ch good len wait inv kv hb run2 laid safe=>exact .slot hla run ch good len wait inv kv hb (hrun run2) laid safe
theorem JR.write (j:JR n items E h) (hd:h.Down=false) (hl:¬ 0<=h.Laid) {cs3:List (List Choice)} (h1:h.S.Choices.drop h.Logged.toNat=cs3.flatten) (h2:∀ c,c∈cs3->ic c) (h3:h.Next.toNat+cs3.length<=80)
  (js:JS n items E { h with D:=⟨h.D.Sectors,h.D.Wait++wr E h.Next.toNat cs3⟩,Next:=((h.Next.toNat+cs3.length:Nat):Int),Logged:=h.S.Choices.length }) :
  JR n items E { h with D:=⟨h.D.Sectors,h.D.Wait++wr E h.Next.toNat cs3⟩,Next:=((h.Next.toNat+cs3.length:Nat):Int),Logged:=h.S.Choices.length }:=by
 obtain ⟨b,cs,hb,hlg,_,hp⟩:=j.base
 refine ⟨js,b,cs,hb,hlg,fun hx=>(by rw [show h.Down=true from hx] at hd;cases hd),fun _=>?_⟩
 cases hp hd with
 | slot hla=>exact absurd hla hl
 | @log w cs2 r hla run ch good len wait next logged safe =>
  have hch:=mf run
  rw [ch] at hch
  have hlog:h.Logged.toNat=b.Choices.length+(cs++cs2).flatten.length:=by omega
  have hr:cs3.flatten=r:=by rw [<- h1,hlog,hch,<- LN,<- LI];exact Nk
  have hn:h.Next.toNat=cs.length+cs2.length:=by omega
  refine .log (w:=w) (cs2:=cs2++cs3) (r:=[]) hla run ?_ (fun c hc=>?_) (by rw [LI];omega) ?_ ?_ ?_ safe
  ·rw [ch,L3,<- LN,Mj (L₁:=cs++cs2),hr]
  ·rcases LZ.1 hc with hc | hc
   ·exact good c hc
   ·exact h2 c hc
  ·show h.D.Wait++wr E h.Next.toNat cs3=_
   rw [wait,Cl,hn]
  ·show ((h.Next.toNat+cs3.length:Nat):Int)=_
   rw [hn,LI];congr 1;omega
  ·show (h.S.Choices.length:Int)=_
   rw [hch,<- LN cs cs2 cs3,Mj (L₁:=cs++cs2),hr]
   simp only [LI]
theorem FG {S:List (List UInt8)} {ws:List Write} (hw:∀ w,w∈ws->logW E w) {sl:Nat} (hs:sl<=1):cq (aK S ws) sl=cq S sl:=r8 fun k hk=>u1 hw (by omega)
theorem BaseIs.logs {S:List (List UInt8)} {b:State} (hb:BaseIs n items E S b) {ws:List Write} (hw:∀ w,w∈ws->logW E w):BaseIs n items E (aK S ws) b :=
 ⟨hb.inv,hb.kv,hb.reach,hb.none,fun h0=>by rw [FG hw (by omega)];exact hb.slot h0⟩
theorem BaseIs.part {S:List (List UInt8)} {b:State} (hb:BaseIs n items E S b) {y:List UInt8} (hy:(y.length+49) / 50<60) (m:Nat):BaseIs n items E (aK S ((cC E y).take m)) b :=
 ⟨hb.inv,hb.kv,hb.reach,hb.none,fun h0=>by rw [r8 fun k hk=>kE hy m _ (.inr ⟨k,hk,rfl⟩)];exact hb.slot h0⟩
def Grows (n:Net) (items:List (List Item)) (E:Nat) (S:List (List UInt8)) (E':Nat) (S':List (List UInt8)):Prop:=∃ b cs b' cs',BaseIs n items E S b/\LogIs E S cs/\BaseIs n items E' S' b'/\LogIs E' S' cs'/\(b.Choices++cs.flatten) <+: (b'.Choices++cs'.flatten)
theorem JR.cutG (q:SrcQ n items) (j:JR n items E h) (hd:h.Down=false) (k:Nat) :
  ∃ E',Grows n items E h.D.Sectors E' (aK h.D.Sectors (h.D.Wait.take k))/\JR n items E' { h with D:=⟨aK h.D.Sectors (h.D.Wait.take k),[]⟩,S:=a9 h.N h.Items,Logged:=0,Safe:=0,Epoch:=0,Laid := -1,Next:=0,Down:=true }:=by
 obtain ⟨b,cs,hb,hlg,_,hp⟩:=j.base
 have mk:∀ E',E'<=200->Held (PB n items) E' (aK h.D.Sectors (h.D.Wait.take k))->JS n items E' { h with D:=⟨aK h.D.Sectors (h.D.Wait.take k),[]⟩,S:=a9 h.N h.Items,Logged:=0,Safe:=0,Epoch:=0,Laid := -1,Next:=0,Down:=true }:=fun E' h2 hh=>by
  have e:a9 h.N h.Items=a9 n items:=by rw [j.N,j.I]
  rw [e];exact ⟨j.N,j.I,nR q.S,n8 n items,h2,vj j.okD k,hh,.log fun w hw=>(by cases hw),fun hx=>(by cases hx),fun _=>⟨rfl,rfl,rfl,rfl⟩,⟨Mh _,by show (-1:Int)<=_;omega⟩,⟨Mh _,Mh _,by show (0:Int)<=_;omega⟩,⟨Mh _,by show (0:Int)<=80;omega⟩,j.told⟩
 cases hp hd with
 | @log w cs2 r hla run ch good len wait next logged safe =>
  have hwl:∀ m w,w∈(wr E cs.length cs2).take m->logW E w:=fun m w hw=>ol E j.e2 _ cs2 len good w (LX hw)
  have hb2:BaseIs n items E (aK h.D.Sectors (h.D.Wait.take k)) b:=by rw [wait];exact hb.logs (hwl k)
  have hl2:LogIs E (aK h.D.Sectors (h.D.Wait.take k)) (cs++cs2.take k):=by rw [wait,qx];exact hlg.write (fun c hc=>good c (LX hc)) (by rw [L8];omega)
  refine ⟨E,⟨b,cs,b,_,hb,hlg,hb2,hl2,by rw [Mj,<- LN];exact List.prefix_append _ _⟩,mk E j.e2 (by rw [wait];exact j.held.logs (hwl k)),b,cs++cs2.take k,hb2,hl2,fun _=>⟨w,bi h.S,(cs2.drop k).flatten++r,run,ve j.inv,?_⟩,fun hx=>(by cases hx)⟩
  ·rw [ch,<- LN,<- Mj,LN,Mp]
 | @slot w cs2 r s' w2 hla run ch good len wait inv kv hb' run2 laid safe =>
  have hwl:∀ m w,w∈(wr E cs.length cs2).take m->logW E w:=fun m w hw=>ol E j.e2 _ cs2 len good w (LX hw)
  have he1:E+1<=200:=j.wait.e (by simpa using hla)
  have htk:h.D.Wait.take k=(wr E cs.length cs2).take k++(cC E (aV s')).take (k - cs2.length):=by rw [wait,List.take_append,BV]
  have hS:aK h.D.Sectors (h.D.Wait.take k)=aK (aK h.D.Sectors (wr E cs.length (cs2.take k))) ((cC E (aV s')).take (k - cs2.length)):=by rw [htk,sC,qx]
  have hl1:LogIs E (aK h.D.Sectors (wr E cs.length (cs2.take k))) (cs++cs2.take k):=hlg.write (fun c hc=>good c (LX hc)) (by rw [L8];omega)
  have hh1:Held (PB n items) E (aK h.D.Sectors (wr E cs.length (cs2.take k))):=by rw [<- qx];exact j.held.logs (hwl k)
  have hb1:BaseIs n items E (aK h.D.Sectors (wr E cs.length (cs2.take k))) b:=by rw [<- qx];exact hb.logs (hwl k)
  generalize aK h.D.Sectors (wr E cs.length (cs2.take k))=S1 at hS hl1 hh1 hb1
  have hsl:=uo E (aV s')
  by_cases hk:k - cs2.length<=((aV s').length+49) / 50
  ·have hb2:BaseIs n items E (aK h.D.Sectors (h.D.Wait.take k)) b:=by rw [hS];exact hb1.part hb' _
   have hl2:LogIs E (aK h.D.Sectors (h.D.Wait.take k)) (cs++cs2.take k):=by rw [hS];exact hl1.congr fun i hi=>kE hb' _ i (.inl hi)
   refine ⟨E,⟨b,cs,b,_,hb,hlg,hb2,hl2,by rw [Mj,<- LN];exact List.prefix_append _ _⟩,mk E j.e2 (by rw [hS];exact hh1.part hb' hk),b,cs++cs2.take k,hb2,hl2,fun _=>⟨w,bi s',(cs2.drop k).flatten++r,run,ve inv,?_⟩,fun hx=>(by cases hx)⟩
   ·rw [ch,<- LN,<- Mj,LN,Mp]
  ·have hfull:(cC E (aV s')).take (k - cs2.length)=cC E (aV s'):=Mm (by omega)
   rw [hfull] at hS
   have hh2:=hh1.full ⟨s',inv,kv,rfl,by omega⟩ he1 hb'
   have hb2:BaseIs n items (E+1) (aK h.D.Sectors (h.D.Wait.take k)) s':=by rw [hS];obtain ⟨w0,hw0⟩:=hb.reach;exact ⟨inv,kv,⟨w0++w,hw0.app run⟩,fun h0=>absurd h0 (by omega),fun _=>uq he1 hb'⟩
   have hl2:LogIs (E+1) (aK h.D.Sectors (h.D.Wait.take k)) []:=by rw [hS];refine ⟨fun k c hk=>by simp at hk,fun i _=>?_,fun c hc=>by cases hc⟩;have:=kE (S:=S1) (E:=E) hb' (cC E (aV s')).length (120+i) (.inl (by omega));rw [ME] at this;rw [this];exact hh1.log (120+i) (E+1) (by omega) (by omega)
   have hch:=mf run
   exact ⟨E+1,⟨b,cs,s',[],hb,hlg,hb2,hl2,by rw [hch,ch,Mj];simp only [List.flatten_nil,L3,<- LN];rw [LN (b.Choices++cs.flatten)];exact List.prefix_append _ _⟩,mk (E+1) he1 (by rw [hS];exact hh2),s',[],hb2,hl2,fun _=>⟨w2,bi h.S,chW n w2,run2,ve j.inv,by simp⟩,fun hx=>(by cases hx)⟩
theorem JR.cut (q:SrcQ n items) (j:JR n items E h) (hd:h.Down=false) (k:Nat) :
  ∃ E',JR n items E' { h with D:=⟨aK h.D.Sectors (h.D.Wait.take k),[]⟩,S:=a9 h.N h.Items,Logged:=0,Safe:=0,Epoch:=0,Laid := -1,Next:=0,Down:=true }:=by
 obtain ⟨E',_,j'⟩:=j.cutG q hd k
 exact ⟨E',j'⟩
theorem zS (q:SrcQ n items) {S:List (List UInt8)} {b s:State} (hb:BaseIs n items E S b) (hI:Inv n items s) (hk:KV s) (h0:E=0->s=a9 n items) (h1:E≠0->cq S (E % 2)=some (aV s,E)):s=b:=by
 by_cases h:E=0
 ·rw [h0 h,hb.none h]
 ·have e:=h1 h;rw [hb.slot h] at e;have:aV b=aV s:=(Prod.mk.inj (LP e)).1;exact ((Fh (kv_s q.S hb.inv hb.kv) (kv_s q.S hI hk)).1 this).symm
theorem Gc (q:SrcQ n items) {c:MSt Item Memory (List Choice)} {w:List (Nat × Nat)} {D:MSt Item Memory (List Choice)} (hr:RRun n items c w D) (hl:Lim D) {l r:List Choice} (hc:chW n w=l++r):eq n l=0:=by
 have hR:=q.S.toRightN;refine y6 ⟨?_,?_,fun x hx=>?_⟩
 ·have h:=q.src;unfold cP at h;by_cases h1:(netR n).2=0
  ·exact h1
  ·rw [if_pos h1] at h;exact absurd h h1
 ·have h1:=congrArg List.length (kJ hr);rw [hc] at h1;simp only [LI] at h1;have:=hl.1;omega
 ·have hx:x∈chW n w:=by rw [hc];exact List.mem_append_left _ hx
  unfold chW at hx;obtain ⟨m,hm,rfl⟩:=L9.1 hx;obtain ⟨hm1,hm2⟩:=NJ.1 hm;have h6:(aa n m.1).Kind=6:=by simpa using hm2
  obtain ⟨v1,v2⟩:=pQ hr m hm1;unfold bu at v2;rw [if_pos h6] at v2;simp only [L7];exact ⟨by omega,by omega,h6,by omega,by omega⟩
theorem JR.up (q:SrcQ n items) (j:JR n items E h) (hd:h.Down=true) (a:Int) :
  ∃ b cs t,BaseIs n items E h.D.Sectors b/\LogIs E h.D.Sectors cs/\t.Choices=b.Choices++cs.flatten/\doP h 6 a=({ h with S:=t,Logged:=t.Choices.length,Safe:=t.Choices.length,Epoch:=(E:Int),Next:=(cs.length:Int),Down:=false },0)/\JR n items E (doP h 6 a).1:=by
 obtain ⟨b,cs,hb,hlg,hrn,_⟩:=j.base
 obtain ⟨w,D,r,hr,hlim,hch⟩:=hrn hd
 obtain ⟨s,hn,hI,hk,z0,z1⟩:=sP q j.held
 have hsb:s=b:=zS q hb hI hk z0 (fun h=>(z1 h).1)
 subst hsb
 obtain ⟨t,u,w',D',g1,g2,g3,g4,g5,g6,g7⟩:=vh q (muN n items s+1) s cs.flatten r w D hb.inv (by omega) hr hch hlim
 have htr:=Gc q hr hlim hch
 have hch2:=mf g3
 rw [g4] at hch2
 have h5:s.Choices.length+cs.flatten.length<=500:=by have:=g2.ch.1;rw [hch2,LI] at this;exact this
 have hrp:bS n items s cs.flatten=(t,0):=by unfold bS;rw [if_neg (by omega),g1];rfl
 have hup:doP h 6 a=({ h with S:=t,Logged:=t.Choices.length,Safe:=t.Choices.length,Epoch:=(E:Int),Next:=(cs.length:Int),Down:=false },0):=by rw [fg hd,if_neg (show ¬ (6:Int)≠6 by decide),j.N,j.I,hn];simp only;rw [hlg.scan j.e2];simp only;rw [htr,if_neg (by simp),hrp,if_neg (by simp)]
 have h0:(doP h 6 a).2=0:=by rw [hup]
 obtain ⟨_,_,_,_,_,_,_,_,_,hjs⟩:=j.toJS.up q hd h0
 have hdn:=j.down hd
 refine ⟨s,cs,t,hb,hlg,hch2,hup,?_⟩
 rw [hup] at hjs ⊢
 refine ⟨hjs,s,cs,hb,hlg,fun hx=>(by cases hx),fun _=>?_⟩
 have hl80:cs.length<=80:=by have:=hjs.next.2;simp only at this;omega
 refine .log (w:=u) (cs2:=[]) (r:=[]) (by show ¬ 0<=h.Laid;rw [hdn.2.2.2];omega) g3 (by simp [g4]) (fun c hc=>by cases hc) (by simpa using hl80) ?_ ?_ ?_ ?_
 ·exact hdn.1
 ·show (cs.length:Int)=_;simp
 ·show (t.Choices.length:Int)=_;rw [hch2];simp
 ·show (t.Choices.length:Int)=_;rw [hch2];simp
end
end
theorem uD {n:Net} {items:List (List Item)}:∀ (f:Nat) (s:State) (l:List Choice) (r:State × Int) (k:Nat),repM n items f s l=some r->repM n items (f+k) s l=some r
 | f,s,[],r,k,h=>by
  have:some (s,(0:Int))=some r:=by rw [<- h];cases f<;>rfl
  rw [<- this];cases f+k<;>rfl
 | 0,s,c::l,r,k,h=>by cases h
 | f+1,s,c::l,r,k,h=>by
  have e:f+1+k=(f+k)+1:=by omega
  rw [e];unfold repM at h ⊢;cases hm:(bb n items s).find? (eU n c) with
  | none=>rw [hm] at h;exact h
  | some m=>rw [hm] at h;exact uD f _ _ r k h
theorem Ip {n:Net} {items:List (List Item)} (q:SrcQ n items) {s:State} (hI:Inv n items s) (hk:KV s) {l:List Choice} (h5:s.Choices.length+l.length<=500) {f:Nat} {r:State × Int} (h:repM n items f s l=some r):bS n items s l=r:=by obtain ⟨r',e1,_⟩:=vK q.S q.g (muN n items s+1) s l hI hk (by omega);have h1:=uD _ _ _ _ f e1;have h2:=uD _ _ _ _ (muN n items s+1) h;rw [NB] at h2;rw [h1] at h2;cases h2;unfold bS;rw [if_neg (by omega),e1];rfl
theorem srcT:SrcQ meetN dR:=⟨ku AM,AM,IA,fun l hl x hx=>by simp only [dR,Md,NE,or_false] at hl;rcases hl with rfl | rfl<;>(rw [MT.1 hx];unfold dk gI;decide)⟩
theorem nx {h h':Shop} {k a:Int} (hk:1<=k/\k<=7) (e:doP h k a=(h',0)):cB h ⟨k,a⟩=h':=by
 have e1:bl h ⟨k,a⟩=(h',0):=by unfold bl;rw [if_neg (show ¬ (k<1∨7<k) by omega)];exact e
 unfold cB;rw [e1,if_pos rfl]
def mT:List Memory:=[⟨0,[],0⟩,⟨0,[],0⟩,⟨0,[],0⟩,⟨0,[],0⟩]
def sT1:State:=⟨[0,1],[[],[⟨2,2,0⟩],[]],mT,[],[]⟩
def sT2:State:=⟨[0,1],[[],[],[⟨2,2,1⟩]],mT,[⟨2,1⟩],[]⟩
def sT3:State:=⟨[0,1],[[],[],[]],mT,[⟨2,1⟩],[⟨2,2,1⟩]⟩
def sT4:State:=⟨[1,1],[[⟨1,1,0⟩],[],[⟨2,2,1⟩]],mT,[⟨2,1⟩],[]⟩
def wT:List Write:=[⟨120,[3,0,2,1,105,95]⟩]
def hT (S:State) (D:Disk) (lg sf nx:Int) (td:List Item) (dn:Bool):Shop:=⟨meetN,dR,S,D,lg,sf,0, -1,nx,td,dn⟩
theorem eT1:doP (newH meetN dR) 1 1=(hT sT1 noD 0 0 0 [] false,0):=by rw [doP_1 rfl,if_neg (by decide +kernel),show doMv (newH meetN dR).N (newH meetN dR).Items (newH meetN dR).S (fq (bb (newH meetN dR).N (newH meetN dR).Items (newH meetN dR).S) 1)=sT1 by decide +kernel];rfl
theorem eT2:doP (hT sT1 noD 0 0 0 [] false) 1 1=(hT sT2 noD 0 0 0 [] false,0):=by rw [doP_1 rfl,if_neg (by decide +kernel),show doMv (hT sT1 noD 0 0 0 [] false).N (hT sT1 noD 0 0 0 [] false).Items (hT sT1 noD 0 0 0 [] false).S (fq (bb (hT sT1 noD 0 0 0 [] false).N (hT sT1 noD 0 0 0 [] false).Items (hT sT1 noD 0 0 0 [] false).S) 1)=sT2 by decide +kernel];rfl
theorem eT3:doP (hT sT2 noD 0 0 0 [] false) 1 1=(hT sT3 noD 0 0 0 [] false,0):=by rw [doP_1 rfl,if_neg (by decide +kernel),show doMv (hT sT2 noD 0 0 0 [] false).N (hT sT2 noD 0 0 0 [] false).Items (hT sT2 noD 0 0 0 [] false).S (fq (bb (hT sT2 noD 0 0 0 [] false).N (hT sT2 noD 0 0 0 [] false).Items (hT sT2 noD 0 0 0 [] false).S) 1)=sT3 by decide +kernel];rfl
theorem eT4:doP (hT sT3 noD 0 0 0 [] false) 4 0=(hT sT3 noD 0 0 0 [] false,0):=by rw [doP_4 rfl,show cX (hT sT3 noD 0 0 0 [] false).Told (hT sT3 noD 0 0 0 [] false).S.Out (hT sT3 noD 0 0 0 [] false).Safe=([],0) by decide +kernel,if_neg (by simp)];rfl
theorem eT5:doP (hT sT3 noD 0 0 0 [] false) 2 0=(hT sT3 ⟨[],wT⟩ 1 0 1 [] false,0):=by
 have e:bT (hT sT3 noD 0 0 0 [] false).Epoch.toNat (hT sT3 noD 0 0 0 [] false).D.Sectors ((hT sT3 noD 0 0 0 [] false).S.Choices.drop (hT sT3 noD 0 0 0 [] false).Logged.toNat).length (hT sT3 noD 0 0 0 [] false).Next.toNat ((hT sT3 noD 0 0 0 [] false).S.Choices.drop (hT sT3 noD 0 0 0 [] false).Logged.toNat) (hT sT3 noD 0 0 0 [] false).D.Wait=(⟨[],wT⟩,1,0):=by decide +kernel
 rw [doP_2 rfl,if_neg (show ¬ 0<=(hT sT3 noD 0 0 0 [] false).Laid by decide),e,if_neg (by simp)];rfl
theorem eT6:doP (hT sT3 ⟨[],wT⟩ 1 0 1 [] false) 3 0=(hT sT3 ⟨aK [] wT,[]⟩ 1 1 1 [] false,0):=by rw [doP_3 rfl,if_neg (show ¬ 0<=(hT sT3 ⟨[],wT⟩ 1 0 1 [] false).Laid by decide)];rfl
theorem eT7:doP (hT sT3 ⟨aK [] wT,[]⟩ 1 1 1 [] false) 4 0=(hT sT3 ⟨aK [] wT,[]⟩ 1 1 1 [⟨2,2,0⟩] false,0):=by rw [doP_4 rfl,show cX (hT sT3 ⟨aK [] wT,[]⟩ 1 1 1 [] false).Told (hT sT3 ⟨aK [] wT,[]⟩ 1 1 1 [] false).S.Out (hT sT3 ⟨aK [] wT,[]⟩ 1 1 1 [] false).Safe=([⟨2,2,0⟩],0) by decide +kernel,if_neg (by simp)];rfl
theorem eT8:doP (hT sT3 ⟨aK [] wT,[]⟩ 1 1 1 [⟨2,2,0⟩] false) 5 0=(hT (a9 meetN dR) ⟨aK [] wT,[]⟩ 0 0 0 [⟨2,2,0⟩] true,0):=by rw [doP_5 rfl,if_neg (show ¬ ((0:Int)<0∨((hT sT3 ⟨aK [] wT,[]⟩ 1 1 1 [⟨2,2,0⟩] false).D.Wait.length:Int)<0) by decide)];rfl
theorem newT:cr meetN dR (aK [] wT)=(a9 meetN dR,0):=by
 have g0:cq (aK [] wT) 0=none:=by decide +kernel
 have g1:cq (aK [] wT) 1=none:=by decide +kernel
 unfold cr dP;rw [g0,g1]
theorem up_of {h:Shop} (hd:h.Down=true) {s t:State} {E u:Nat} {l:List Choice} (hn:cr h.N h.Items h.D.Sectors=(s,E)) (hsc:bd (E:Int) (h.D.Sectors.drop 120)=(l,u)) (htr:eq h.N l=0) (hrp:bS h.N h.Items s l=(t,0)) (a:Int) :
  doP h 6 a=({ h with S:=t,Logged:=t.Choices.length,Safe:=t.Choices.length,Epoch:=(E:Int),Next:=(u:Int),Down:=false },0):=by
 rw [fg hd,if_neg (show ¬ (6:Int)≠6 by decide),hn]
 simp only
 rw [hsc]
 simp only
 rw [htr,if_neg (by simp),hrp,if_neg (by simp)]
theorem eT9:doP (hT (a9 meetN dR) ⟨aK [] wT,[]⟩ 0 0 0 [⟨2,2,0⟩] true) 6 0=(hT sT4 ⟨aK [] wT,[]⟩ 1 1 1 [⟨2,2,0⟩] false,0):=by
 have hsc:bd ((0:Nat):Int) ((aK [] wT).drop 120)=([⟨2,1⟩],1):=by decide +kernel
 have htr:eq meetN [⟨2,1⟩]=0:=y6 ⟨by decide +kernel,by decide,fun c hc=>by simp only [MT] at hc;subst hc;exact ⟨by decide,by decide,by decide,by decide,by decide⟩⟩;have hrp:bS meetN dR (a9 meetN dR) [⟨2,1⟩]=(sT4,0):=Ip srcT (nR srcT.S) (n8 _ _) (by decide) (f:=10) (by decide +kernel);exact up_of (h:=hT (a9 meetN dR) ⟨aK [] wT,[]⟩ 0 0 0 [⟨2,2,0⟩] true) rfl newT hsc htr hrp 0
theorem eT10:doP (hT sT4 ⟨aK [] wT,[]⟩ 1 1 1 [⟨2,2,0⟩] false) 4 0=(hT sT4 ⟨aK [] wT,[]⟩ 1 1 1 [⟨2,2,0⟩] false,0):=by rw [doP_4 rfl,show cX (hT sT4 ⟨aK [] wT,[]⟩ 1 1 1 [⟨2,2,0⟩] false).Told (hT sT4 ⟨aK [] wT,[]⟩ 1 1 1 [⟨2,2,0⟩] false).S.Out (hT sT4 ⟨aK [] wT,[]⟩ 1 1 1 [⟨2,2,0⟩] false).Safe=([],0) by decide +kernel,if_neg (by simp)];rfl
theorem xD:ng=some true:=by
 unfold ng;rw [Fj,Jz];simp only [e8,LF];rw [J9 srcT _ (by simp),LF];have hr:runP (newH meetN dR) [⟨1,1⟩,⟨1,1⟩,⟨1,1⟩,⟨4,0⟩,⟨2,0⟩,⟨3,0⟩,⟨4,0⟩,⟨5,0⟩,⟨6,0⟩,⟨4,0⟩]=hT sT4 ⟨aK [] wT,[]⟩ 1 1 1 [⟨2,2,0⟩] false:=by simp only [runP];rw [nx (by omega) eT1,nx (by omega) eT2,nx (by omega) eT3,nx (by omega) eT4,nx (by omega) eT5,nx (by omega) eT6,nx (by omega) eT7,nx (by omega) eT8,nx (by omega) eT9,nx (by omega) eT10]
 simp only [hr,As];rfl
section
section
variable {n:Net} {items:List (List Item)} {E:Nat} {h:Shop}
theorem JR.flushG (j:JR n items E h) (hd:h.Down=false) (a:Int):∃ E',Grows n items E h.D.Sectors E' (doP h 3 a).1.D.Sectors/\JR n items E' (doP h 3 a).1:=by
 obtain ⟨b,cs,hb,hlg,_,hp⟩:=j.base;have js:=j.toJS.flush hd a;rw [doP_3 hd] at js ⊢;have hdd:¬ h.Down=true:=by rw [hd];decide
 cases hp hd with
 | @log w cs2 r hla run ch good len wait next logged safe =>
  rw [if_neg hla,if_neg hla] at js;rw [if_neg hla];have hwl:∀ w,w∈wr E cs.length cs2->logW E w:=ol E j.e2 _ cs2 len good;have hb2:BaseIs n items E (aK h.D.Sectors h.D.Wait) b:=by rw [wait];exact hb.logs hwl
  have hl2:LogIs E (aK h.D.Sectors h.D.Wait) (cs++cs2):=by rw [wait];exact hlg.write good len
  refine ⟨E,⟨b,cs,b,_,hb,hlg,hb2,hl2,by rw [Mj,<- LN];exact List.prefix_append _ _⟩,js,b,cs++cs2,hb2,hl2,fun hx=>absurd hx hdd,fun _=>?_⟩
  ·exact .log (w:=w) (cs2:=[]) (r:=r) hla run (by rw [L3];exact ch) (fun c hc=>by cases hc) (by simpa using len) rfl (by show h.Next=_;rw [next];simp) (by show h.Logged=_;rw [logged];simp) (by show h.Logged=_;rw [logged])
 | @slot w cs2 r s' w2 hla run ch good len wait inv kv hb' run2 laid safe =>
  rw [if_pos hla,if_pos hla] at js;rw [if_pos hla];have he1:=js.e2;have hwl:∀ w,w∈wr E cs.length cs2->logW E w:=ol E j.e2 _ cs2 len good;have hS:aK h.D.Sectors h.D.Wait=aK (aK h.D.Sectors (wr E cs.length cs2)) (cC E (aV s')):=by rw [wait,sC]
  have hh1:Held (PB n items) E (aK h.D.Sectors (wr E cs.length cs2)):=j.held.logs hwl;have hb2:BaseIs n items (E+1) (aK h.D.Sectors h.D.Wait) s':=by rw [hS];obtain ⟨w0,hw0⟩:=hb.reach;exact ⟨inv,kv,⟨w0++w,hw0.app run⟩,fun h0=>absurd h0 (by omega),fun _=>uq he1 hb'⟩
  have hl2:LogIs (E+1) (aK h.D.Sectors h.D.Wait) []:=by rw [hS];refine ⟨fun k c hk=>by simp at hk,fun i _=>?_,fun c hc=>by cases hc⟩;have:=kE (S:=aK h.D.Sectors (wr E cs.length cs2)) (E:=E) hb' (cC E (aV s')).length (120+i) (.inl (by omega));rw [ME] at this;rw [this];exact hh1.log (120+i) (E+1) (by omega) (by omega)
  have hch:=mf run;refine ⟨E+1,⟨b,cs,s',[],hb,hlg,hb2,hl2,by rw [hch,ch,Mj];simp only [List.flatten_nil,L3,<- LN];rw [LN (b.Choices++cs.flatten)];exact List.prefix_append _ _⟩,js,s',[],hb2,hl2,fun hx=>absurd hx hdd,fun _=>?_⟩
  ·exact .log (w:=w2) (cs2:=[]) (r:=chW n w2) (by show ¬ (0:Int) <= -1;omega) run2 (by simp) (fun c hc=>by cases hc) (by simp) rfl rfl (by show h.Laid=_;rw [laid];simp) (by show h.Laid=_;rw [laid];simp)
theorem JR.flush (j:JR n items E h) (hd:h.Down=false) (a:Int):∃ E',JR n items E' (doP h 3 a).1:=by obtain ⟨E',_,j'⟩:=j.flushG hd a;exact ⟨E',j'⟩
theorem JR.tell (j:JR n items E h) (td:List Item) (js:JS n items E { h with Told:=td }):JR n items E { h with Told:=td }:=by
 obtain ⟨b,cs,hb,hlg,hr,hp⟩:=j.base;refine ⟨js,b,cs,hb,hlg,hr,fun hd=>?_⟩;cases hp hd with
 | log hla run ch good len wait next logged safe=>exact .log hla run ch good len wait next logged safe
 | slot hla run ch good len wait inv kv hb' run2 laid safe=>exact .slot hla run ch good len wait inv kv hb' run2 laid safe
theorem JR.lay (j:JR n items E h) (hd:h.Down=false) (hl:¬ 0<=h.Laid) (hb':((aV h.S).length+49) / 50<60) (js:JS n items E { h with D:=⟨h.D.Sectors,h.D.Wait++cC E (aV h.S)⟩,Laid:=h.S.Choices.length }) :
  JR n items E { h with D:=⟨h.D.Sectors,h.D.Wait++cC E (aV h.S)⟩,Laid:=h.S.Choices.length }:=by
 obtain ⟨b,cs,hb,hlg,_,hp⟩:=j.base
 refine ⟨js,b,cs,hb,hlg,fun hx=>absurd (show h.Down=true from hx) (by rw [hd];decide),fun _=>?_⟩
 cases hp hd with
 | slot hla=>exact absurd hla hl
 | @log w cs2 r hla run ch good len wait next logged safe =>
  exact .slot (w:=w) (cs2:=cs2) (r:=r) (s':=h.S) (w2:=[]) (by show (0:Int)<=(h.S.Choices.length:Int);omega) run ch good len (by show h.D.Wait++_=_;rw [wait]) j.inv j.kv hb' (.nil _) rfl safe
theorem JR.do (q:SrcQ n items) (j:JR n items E h) (k a:Int) (h0:(doP h k a).2=0):∃ E',JR n items E' (doP h k a).1:=by
 by_cases hd:h.Down=true
 ·by_cases h6:k=6
  ·subst h6;obtain ⟨_,_,_,_,_,_,_,hj⟩:=j.up q hd a;exact ⟨E,hj⟩
  ·exfalso;rw [fg hd,if_pos h6] at h0;exact absurd h0 (by decide)
 have hdf:h.Down=false:=by simpa using hd
 by_cases h1:k=1
 ·subst h1;rw [doP_1 hdf] at h0 ⊢;by_cases hr:bb h.N h.Items h.S=[]
  ·rw [if_pos hr] at h0;exact absurd h0 (by decide)
  ·rw [if_neg hr];have eN:=j.N;have eI:=j.I;subst eN;subst eI;exact ⟨E,j.go q hdf (BM hr a)⟩
 by_cases h2:k=2
 ·subst h2;rw [doP_2 hdf] at h0 ⊢;by_cases hl:0<=h.Laid
  ·rw [if_pos hl] at h0;exact absurd h0 (by decide)
  rw [if_neg hl] at h0 ⊢;by_cases he:(bT h.Epoch.toNat h.D.Sectors (h.S.Choices.drop h.Logged.toNat).length h.Next.toNat (h.S.Choices.drop h.Logged.toNat) h.D.Wait).2.2=0
  ·obtain ⟨cs,e1,e2,e3,e4,hj⟩:=j.toJS.write hdf hl he;rw [if_neg (by simpa using he),e1];exact ⟨E,j.write hdf hl e2 e3 e4 hj⟩
  ·rw [if_pos he] at h0;exact absurd h0 he
 by_cases h3:k=3
 ·subst h3;exact j.flush hdf a
 by_cases h4:k=4
 ·subst h4;rw [doP_4 hdf] at h0 ⊢;by_cases he:(cX h.Told h.S.Out h.Safe).2=0
  ·rw [if_neg (by simpa using he)];exact ⟨E,j.tell _ j.toJS.tell⟩
  ·rw [if_pos he] at h0;exact absurd h0 he
 by_cases h5:k=5
 ·subst h5;rw [doP_5 hdf] at h0 ⊢;by_cases hc:a<0∨h.D.Wait.length<a
  ·rw [if_pos hc] at h0;exact absurd h0 (by decide)
  ·rw [if_neg hc];exact j.cut q hdf a.toNat
 by_cases h7:k=7
 ·subst h7;rw [doP_7 hdf] at h0 ⊢;by_cases hl:0<=h.Laid
  ·rw [if_pos hl] at h0;exact absurd h0 (by decide)
  rw [if_neg hl] at h0 ⊢;by_cases h200:h.Epoch=200
  ·rw [if_pos h200] at h0;exact absurd h0 (by decide)
  rw [if_neg h200] at h0 ⊢;by_cases hb:60<=((aV h.S).length+49) / 50∨300<h.D.Wait.length+(((aV h.S).length+49) / 50+1)
  ·rw [if_pos hb] at h0;exact absurd h0 (by decide)
  rw [if_neg hb];have hE:h.Epoch.toNat=E:=by have:=j.ep hdf;omega
  rw [hE];exact ⟨E,j.lay hdf hl (by omega) (j.toJS.lay hdf hl h200 hb)⟩
 ·exfalso;rw [qq hdf a ⟨h1,h2,h3,h4,h5,h7⟩] at h0;exact absurd h0 (by decide)
theorem JR.nextH (q:SrcQ n items) (j:JR n items E h) (x:Happening):∃ E',JR n items E' (cB h x):=by
 unfold cB;by_cases h0:(bl h x).2=0
 ·rw [if_pos h0];unfold bl at h0 ⊢;by_cases hx:x.Kind<1∨7<x.Kind
  ·rw [if_pos hx] at h0;exact absurd h0 (by decide)
  ·rw [if_neg hx] at h0 ⊢;exact j.do q x.Kind x.N h0
 ·rw [if_neg h0];exact ⟨E,j⟩
theorem JR.run (q:SrcQ n items):∀ (l:List Happening) {E:Nat} {h:Shop},JR n items E h->∃ E',JR n items E' (runP h l)
 | [],E,h,j=>⟨E,j⟩
 | x::l,E,h,j=>by obtain ⟨E',j'⟩:=j.nextH q x;exact JR.run q l j'
end
end
section
def smW (φ:Item->Nat) (l:List Item):Nat:=(l.map φ).sum
theorem Iy (φ:Item->Nat) (l m:List Item):smW φ (l++m)=smW φ l+smW φ m:=by simp [smW]
theorem sF {α:Type} (f g:α->Nat):∀ (l:List α) (i:α),l.Nodup->i∈l->(∀ j,j∈l->j≠i->f j=g j)->(l.map f).sum+g i=(l.map g).sum+f i
 | [],i,_,h,_=>by cases h
 | a::l,i,hd,h,he=>by
  rw [Nw] at hd;simp only [Mn,M5];by_cases ha:a=i
  ·subst ha;have:l.map f=l.map g:=Me fun j hj=>he j (L2 _ hj) (fun e=>hd.1 (e▸hj))
   rw [this];omega
  ·have hi:i∈l:=by
    rcases Md.1 h with e | e
    ·exact absurd e.symm ha
    ·exact e
   have:=sF f g l i hd.2 hi fun j hj=>he j (L2 _ hj)
   have:=he a L0 ha;omega
theorem Ba (ψ:Nat->Nat) (R:Nat):∀ (l:List Int),l.Nodup->(∀ r,r∈l->0<=r/\r<(R:Int))->((List.range R).map fun r:Nat=>if (r:Int)∈l then ψ r else 0).sum=(l.map fun r=>ψ r.toNat).sum
 | [],_,_=>by
  have:∀ l:List Nat,(l.map fun r:Nat=>if (r:Int)∈([]:List Int) then ψ r else 0).sum=0:=by
   intro l;induction l with
   | nil=>rfl
   | cons a l ih=>rw [Mn,M5,ih];rfl
  exact this _
 | a::l,hd,hr=>by
  rw [Nw] at hd;have ih:=Ba ψ R l hd.2 fun r h=>hr r (L2 _ h)
  have ha:=hr a L0;have e:((a.toNat:Nat):Int)=a:=Mf ha.1;have:=sF (fun r:Nat=>if (r:Int)∈a::l then ψ r else 0) (fun r:Nat=>if (r:Int)∈l then ψ r else 0) (List.range R) a.toNat List.nodup_range (M7.2 (by omega)) fun j _ hj=>by
   have:¬ (j:Int)=a:=fun e=>hj (by omega)
   simp [this]
  simp only [e,hd.1,if_false,L0,if_true] at this;rw [Mn,M5,<- ih];omega
def vN (n:Net) (δ:Nat->Nat):Nat->Nat->Int->Nat
 | 0,_,_=>0
 | f+1,i,key=>δ i+((bD (aa n i) key).map fun r=>vN n δ f (de n r.toNat) key).sum
def phiN (n:Net) (δ:Nat->Nat) (i:Nat) (x:Item):Nat:=vN n δ 12 i x.Key
section
variable {n:Net} {items:List (List Item)} (δ:Nat→Nat)
theorem yN (hR:RightN n) {i:Nat} (hi:i<n.Nodes.length) {key r:Int} (hr:r∈bD (aa n i) key):de n r.toNat<n.Nodes.length/\dp n i<dp n (de n r.toNat):=by have ho:=kz hR hi key r hr;have h0:=hR.outR i hi r ho;obtain ⟨j,hj,hrj⟩:=hR.toI r.toNat (by omega);rw [Mf h0.1] at hrj;rw [sj hR hj hrj];exact ⟨hj,(ux hR).2.2 i j r hi hj ho hrj⟩
theorem ze (hR:RightN n) (key:Int):∀ (f i:Nat),i<n.Nodes.length->12 - dp n i<=f->vN n δ f i key=vN n δ (f+1) i key
 | 0,i,hi,h=>by
  have:=(ux hR).1 i hi;have:=hR.n2;omega
 | f+1,i,hi,h=>by
  rw [vN,vN.eq_2 n δ i key (f+1)];congr 2;refine Me fun r hr=>?_
  obtain ⟨h1,h2⟩:=yN hR hi hr;exact ze hR key f _ h1 (by omega)
theorem H3 (f i:Nat) (key:Int):vN n δ (f+1) i key=δ i+((bD (aa n i) key).map fun r=>vN n δ f (de n r.toNat) key).sum:=rfl
theorem vN_eq (hR:RightN n) {i:Nat} (hi:i<n.Nodes.length) (key:Int):vN n δ 12 i key=δ i+((bD (aa n i) key).map fun r=>vN n δ 12 (de n r.toNat) key).sum:=by
 have e:((bD (aa n i) key).map fun r=>vN n δ 11 (de n r.toNat) key)=(bD (aa n i) key).map fun r=>vN n δ 12 (de n r.toNat) key:=Me fun r hr=>by obtain ⟨h1,h2⟩:=yN hR hi hr;exact ze δ hR key 11 _ h1 (by omega)
 have h:=H3 (n:=n) δ 11 i key;rw [e] at h;exact h
def uW (n:Net) (δ:Nat->Nat) (items:List (List Item)) (pos:Nat->Nat) (i:Nat):Nat:=if (aa n i).Kind=1 then smW (phiN n δ i) ((items.getD (aa n i).A.toNat []).drop (pos (aa n i).A.toNat)) else 0
def totW (n:Net) (items:List (List Item)) (c:MSt Item Memory (List Choice)):Nat:=((List.range n.Nodes.length).map (uW n δ items c.pos)).sum+((List.range n.Rings.toNat).map fun r=>smW (phiN n δ (de n r)) (c.rg r)).sum
theorem Hj (k f:Int) (m:Memory) (x:Item):(cM k f m x).2.Key=x.Key:=by unfold cM;(repeat' split)<;>rfl
theorem Km (c:MSt Item Memory (List Choice)) (m:Nat × Nat) (x:Item):(mkM (bx n items) n c m x).2.Key=x.Key:=by show (cM _ _ _ (inM (bx n items) n c m x)).2.Key=_;rw [Hj];unfold inM;split<;>rfl
theorem Hu (hR:RightN n) {i:Nat} (hi:i<n.Nodes.length) (key:Int):(bD (aa n i) key).Nodup:=by
 unfold bD;split
 ·simp
 ·exact hR.ndO i hi
theorem Cg {room:Option Nat} (hS:RightS n items) {c d:MSt Item Memory (List Choice)} {m:Nat × Nat} (h:Ex (bx n items) n room c m d):totW δ n items d+δ m.1=totW δ n items c:=by
 have hR:=hS.toRightN;obtain ⟨hm,x,hx,_,rfl⟩:=h;have hnd:(toM (bx n items) n m x).Nodup   := Hu hR hm.1 _;have hrr:∀ r,r∈toM (bx n items) n m x->0<=r/\r<((n.Rings.toNat:Nat):Int):=fun r hr=>by have:=hR.outR m.1 hm.1 r (kz hR hm.1 _ r hr);omega
 have hy:=Km (n:=n) (items:=items) c m x;have hv:=vN_eq δ hR hm.1 x.Key;have hput:((List.range n.Rings.toNat).map fun r=>smW (phiN n δ (de n r)) ((goM (bx n items) n c m x).rg r)).sum =
   ((List.range n.Rings.toNat).map fun r=>smW (phiN n δ (de n r)) (if (aa n m.1).Kind≠1/\r=bh (aa n m.1) m.2 then (c.rg r).tail else c.rg r)).sum+((toM (bx n items) n m x).map fun r=>vN n δ 12 (de n r.toNat) x.Key).sum:=by
  rw [<- Ba (fun r=>vN n δ 12 (de n r) x.Key) n.Rings.toNat _ hnd hrr]
  have:∀ l:List Nat,(l.map fun r=>smW (phiN n δ (de n r)) ((goM (bx n items) n c m x).rg r)).sum=(l.map fun r=>smW (phiN n δ (de n r)) (if (aa n m.1).Kind≠1/\r=bh (aa n m.1) m.2 then (c.rg r).tail else c.rg r)).sum+(l.map fun r:Nat=>if (r:Int)∈toM (bx n items) n m x then vN n δ 12 (de n r) x.Key else 0).sum:=by
   intro l;induction l with
   | nil=>rfl
   | cons a l ih =>
    simp only [Mn,M5,ih];have e:(goM (bx n items) n c m x).rg a=(if (aa n m.1).Kind≠1/\a=bh (aa n m.1) m.2 then (c.rg a).tail else c.rg a)++if (a:Int)∈toM (bx n items) n m x then [(mkM (bx n items) n c m x).2] else []:=rfl
    have e2:smW (phiN n δ (de n a)) (if (a:Int)∈toM (bx n items) n m x then [(mkM (bx n items) n c m x).2] else [])=if (a:Int)∈toM (bx n items) n m x then vN n δ 12 (de n a) x.Key else 0:=by
     split
     ·simp [smW,phiN,hy]
     ·rfl
    rw [e,Iy,e2];omega
  exact this _
 unfold totW;rw [hput];have hto:toM (bx n items) n m x=bD (aa n m.1) x.Key:=rfl;rw [hto];by_cases h1:(aa n m.1).Kind=1
 ·have hb:∀ l:List Nat,(l.map fun r=>smW (phiN n δ (de n r)) (if (aa n m.1).Kind≠1/\r=bh (aa n m.1) m.2 then (c.rg r).tail else c.rg r))=l.map fun r=>smW (phiN n δ (de n r)) (c.rg r):=fun l=>Me fun r _=>by rw [if_neg (fun e=>e.1 h1)]
  rw [hb];have hp:(goM (bx n items) n c m x).pos=upd c.pos (aa n m.1).A.toNat (c.pos (aa n m.1).A.toNat+1):=by show (if (aa n m.1).Kind=1 then _ else _)=_;rw [if_pos h1]
  have hsum:=sF (uW n δ items (goM (bx n items) n c m x).pos) (uW n δ items c.pos) (List.range n.Nodes.length) m.1 List.nodup_range (M7.2 hm.1) (fun j hj hne=>by
   have hj:=M7.1 hj;unfold uW;split
   ·rename_i hj1;rw [hp,qE _ _ (fun e=>hne (qu hS j m.1 hj hm.1 hj1 h1 e))]
   ·rfl)
  have hu:uW n δ items c.pos m.1=uW n δ items (goM (bx n items) n c m x).pos m.1+vN n δ 12 m.1 x.Key:=by unfold uW;rw [if_pos h1,if_pos h1,hp,HU];unfold hdM at hx;rw [if_pos h1] at hx;have hx:(items.getD (aa n m.1).A.toNat [])[c.pos (aa n m.1).A.toNat]?=some x:=hx;obtain ⟨hlt,hg⟩:=LH.1 hx;rw [LU hlt,hg];simp [smW,phiN];omega
  omega
 ·have hp:(goM (bx n items) n c m x).pos=c.pos:=by
   show (if (aa n m.1).Kind=1 then _ else _)=_;rw [if_neg h1]
  rw [hp];have hin:=qA hR hm h1;have hrl:=hR.inR m.1 hm.1 _ hin;have htk:de n (bh (aa n m.1) m.2)=m.1:=by have:=sj hR hm.1 hin;simpa using this
  have hsum:=sF (fun r=>smW (phiN n δ (de n r)) (if (aa n m.1).Kind≠1/\r=bh (aa n m.1) m.2 then (c.rg r).tail else c.rg r)) (fun r=>smW (phiN n δ (de n r)) (c.rg r)) (List.range n.Rings.toNat) (bh (aa n m.1) m.2) List.nodup_range (M7.2 (by omega)) (fun j _ hne=>by rw [if_neg (fun e=>hne e.2)])
  simp only [htk,ne_eq,h1,not_false_eq_true,true_and,if_true] at hsum;unfold hdM at hx;rw [if_neg h1] at hx;have htl:smW (phiN n δ m.1) (c.rg (bh (aa n m.1) m.2))=vN n δ 12 m.1 x.Key+smW (phiN n δ m.1) (c.rg (bh (aa n m.1) m.2)).tail:=by
   cases hl:c.rg (bh (aa n m.1) m.2) with
   | nil=>rw [hl] at hx;cases hx
   | cons z zs=>rw [hl] at hx;cases hx;simp [smW,phiN]
  simp only [ne_eq,h1,not_false_eq_true,true_and];omega
end
end
section
section
variable {n:Net} {items:List (List Item)}
abbrev FRun (n:Net) (items:List (List Item)):=Run (bx n items) n none
abbrev FEx (n:Net) (items:List (List Item)):=Ex (bx n items) n none
def Rest (n:Net) (items:List (List Item)) (t:MSt Item Memory (List Choice)):Prop:=∀ m d,(aa n m.1).Kind≠6->¬ FEx n items t m d
inductive NF (n:Net) (items:List (List Item)):List Choice->MSt Item Memory (List Choice)->Prop
 | nil {u t} (h:FRun n items (bi (a9 n items)) u t) (hu:chW n u=[]) (hr:Rest n items t):NF n items [] t
 | snoc {c t m t1 u t2} (h:NF n items c t) (hm:FEx n items t m t1) (h6:(aa n m.1).Kind=6) (h1:FRun n items t1 u t2) (hu:chW n u=[]) (hr:Rest n items t2):NF n items (c++[⟨m.1,m.2⟩]) t2
theorem NF.rest {c:List Choice} {t:MSt Item Memory (List Choice)} (h:NF n items c t):Rest n items t:=by
 cases h with
 | nil _ _ hr=>exact hr
 | snoc _ _ _ _ _ hr=>exact hr
theorem vm (hS:RightS n items):∀ (k:Nat) (c:MSt Item Memory (List Choice)),totW (fun _=>1) n items c<=k->∃ u t,FRun n items c u t/\chW n u=[]/\Rest n items t:=by
 intro k;induction k with
 | zero =>
  intro c hk;refine ⟨[],c,.nil c,rfl,fun m d _ h=>?_⟩;have:=Cg (fun _=>1) hS h;omega
 | succ k ih =>
  intro c hk;by_cases hr:Rest n items c
  ·exact ⟨[],c,.nil c,rfl,hr⟩
  ·unfold Rest at hr;obtain ⟨m,hr⟩:=Classical.not_forall.1 hr;obtain ⟨d,hr⟩:=Classical.not_forall.1 hr;obtain ⟨h6,hr⟩:=Classical.not_imp.1 hr;have hr:=Classical.not_not.1 hr;have:=Cg (fun _=>1) hS hr;obtain ⟨u,t,h1,h2,h3⟩:=ih d (by omega);exact ⟨m::u,t,.cons hr h1,by rw [eT,if_neg h6];exact h2,h3⟩
theorem Kk (hS:RightS n items):∀ (k:Nat) (w:List (Nat × Nat)) (s:MSt Item Memory (List Choice)),w.length=k->FRun n items (bi (a9 n items)) w s->∃ t u,NF n items (chW n w) t/\FRun n items s u t/\chW n u=[]:=by
 have hR:=hS.toRightN;have hsrc:=qu hS;intro k;induction k with
 | zero =>
  intro w s hk h;have:w=[]:=LR hk;subst this;have:=h.nil_inv;subst this;obtain ⟨u,t,h1,h2,h3⟩:=vm hS _ (bi (a9 n items)) (LM _);exact ⟨t,u,.nil h1 h2 h3,h1,h2⟩
 | succ k ih =>
  intro w s hk h;rcases List.eq_nil_or_concat w with e | ⟨w',m,e⟩
  ·rw [e] at hk;cases hk
  have e:w=w'++[m]:=by rw [e,List.concat_eq_append]
  subst e;obtain ⟨s',h1,h2⟩:=h.split;have hx:FEx n items s' m s:=by
   cases h2 with
   | cons g1 g2=>cases g2;exact g1
  obtain ⟨t,u,hn,hu,hc⟩:=ih w' s' (by rw [LI,MV] at hk;omega) h1;by_cases h6:(aa n m.1).Kind=6
  ·obtain ⟨e,e1,e2⟩:=pU hR hsrc hu hx (yy hc h6) (.inr hc);obtain ⟨v,t2,g1,g2,g3⟩:=vm hS _ e (LM _);refine ⟨t2,u++v,?_,e1.app g1,by rw [gY,hc,g2];rfl⟩;rw [gY];have:chW n [m]=[⟨m.1,m.2⟩]:=by rw [eT,if_pos h6];rfl
   rw [this];exact .snoc hn e2 h6 g1 g2 g3
  ·have hcm:chW n (w'++[m])=chW n w':=by
    rw [gY,eT,if_neg h6];show chW n w'++[]=_;rw [L3]
   rw [hcm];rcases um (pQ hu) hx.1 h6 with hp | ⟨p,q,e,hp⟩
   ·obtain ⟨e,e1,e2⟩:=pU hR hsrc hu hx hp (.inl h6);exfalso;exact hn.rest m e h6 e2
   ·subst e;refine ⟨t,p++q,hn,sm hR hsrc hu hx hp (.inl h6),?_⟩;rw [gY,eT,if_neg h6,<- gY] at hc;exact hc
theorem zN (hS:RightS n items):∀ (k:Nat) {u v:List (Nat × Nat)} {c t t':MSt Item Memory (List Choice)},v.length<=k->FRun n items c u t->chW n u=[]->Rest n items t->FRun n items c v t'->chW n v=[]->Rest n items t'->t=t':=by
 have hR:=hS.toRightN;have hsrc:=qu hS;intro k;induction k with
 | zero =>
  intro u v c t t' hk hu cu ru hv cv rv;have:v=[]:=LR (by omega);subst this;have:=hv.nil_inv;subst this;cases hu with
  | nil=>rfl
  | @cons _ c1 _ m w h1 h2 =>
   exfalso;rw [eT] at cu;by_cases h6:(aa n m.1).Kind=6
   ·rw [if_pos h6] at cu;cases cu
   ·exact rv m c1 h6 h1
 | succ k ih =>
  intro u v c t t' hk hu cu ru hv cv rv;cases hv with
  | nil =>
   cases hu with
   | nil=>rfl
   | @cons _ c1 _ m w h1 h2 =>
    exfalso;rw [eT] at cu;by_cases h6:(aa n m.1).Kind=6
    ·rw [if_pos h6] at cu;cases cu
    ·exact rv m c1 h6 h1
  | @cons _ c1 _ m w h1 h2 =>
   rw [eT] at cv;by_cases h6:(aa n m.1).Kind=6
   ·rw [if_pos h6] at cv;cases cv
   rw [if_neg h6] at cv;rcases um (pQ hu) h1.1 h6 with hp | ⟨p,q,e,hp⟩
   ·obtain ⟨e,e1,e2⟩:=pU hR hsrc hu h1 hp (.inl h6);exact absurd e2 (ru m e h6)
   ·subst e;have h3:=sm hR hsrc hu h1 hp (.inl h6);rw [gY,eT,if_neg h6,<- gY] at cu;exact ih (by simp only [LW] at hk;omega) h3 cu ru h2 cv rv
theorem NF.inv {c:List Choice} {x:Choice} {t2:MSt Item Memory (List Choice)} (h:NF n items (c++[x]) t2):∃ t m t1 u,NF n items c t/\FEx n items t m t1/\(aa n m.1).Kind=6/\FRun n items t1 u t2/\chW n u=[]/\Rest n items t2/\x=⟨m.1,m.2⟩:=by
 generalize hcx:c++[x]=cx at h;cases h with
 | nil=>simp at hcx
 | @snoc c' t m t1 u _ h hm h6 h1 hu hr =>
  obtain ⟨e1,e2⟩:=List.append_inj' hcx rfl;subst e1;exact ⟨t,m,t1,u,h,hm,h6,h1,hu,hr,(NP e2).1⟩
theorem NF.one (hS:RightS n items) {c:List Choice} {t:MSt Item Memory (List Choice)} (h:NF n items c t):∀ {t':MSt Item Memory (List Choice)},NF n items c t'->t=t':=by
 induction h with
 | nil h hu hr =>
  intro t' h';generalize hc:([]:List Choice)=c at h';cases h' with
  | nil g gu gr=>exact zN hS _ (LM _) h hu hr g gu gr
  | snoc=>simp at hc
 | @snoc c t m t1 u t2 h hm h6 h1 hu hr ih =>
  intro t' h';obtain ⟨s,m',s1,v,g,gm,g6,g1,gu,gr,e⟩:=h'.inv;have:=ih g;subst this;have em:m=m':=by have e1:=congrArg Choice.Node e;have e2:=congrArg Choice.Lane e;cases m;cases m';simp only at e1 e2;have e1:_=_:=Int.ofNat.inj e1;have e2:_=_:=Int.ofNat.inj e2;rw [e1,e2]
  subst em;have:=hm.det gm;subst this;exact zN hS _ (LM _) h1 hu hr g1 gu gr
def Late (n:Net) (items:List (List Item)) (K:Int) (c:MSt Item Memory (List Choice)):Prop:=∀ m x,okMv n m->(aa n m.1).Kind≠6->hdM (bx n items) n c m=some x->(aa n m.1).Kind≠1/\∀ y,y∈c.rg (bh (aa n m.1) m.2)->K<=y.Dep
theorem zn (k f:Int) (m:Memory) (x:Item):x.Dep<=(cM k f m x).2.Dep:=by
 unfold cM maxD;split
 ·exact Mh _
 split
 ·simp only;split<;>omega
 split
 ·simp only;split<;>omega
 ·exact Mh _
theorem IB {c:MSt Item Memory (List Choice)} {m:Nat × Nat} (hm:okMv n m) {x:Item} (hx:hdM (bx n items) n c m=some x):∃ d,FEx n items c m d:=⟨_,hm,x,hx,fun R hR=>(by cases hR),rfl⟩
theorem BP (hS:RightS n items) {K:Int} {c:MSt Item Memory (List Choice)} {m:Nat × Nat} {x:Item} (hm:okMv n m) (hx:hdM (bx n items) n c m=some x) (hK:K<=(mkM (bx n items) n c m x).2.Dep) (h:Late n items K c) (hsr:(aa n m.1).Kind≠1):Late n items K (goM (bx n items) n c m x):=by
 intro b y hb hb6 hy;have hnk:(aa n b.1).Kind≠1:=fun h1=>by
  have e:hdM (bx n items) n (goM (bx n items) n c m x) b=hdM (bx n items) n c b:=by unfold hdM;rw [if_pos h1,if_pos h1];unfold goM;simp only;rw [if_neg hsr]
  rw [e] at hy;exact absurd h1 (h b y hb hb6 hy).1
 refine ⟨hnk,fun z hz=>?_⟩;unfold goM at hz;simp only at hz;have old:∀ z,z∈c.rg (bh (aa n b.1) b.2)->K<=z.Dep:=fun z hz=>by
  cases hl:c.rg (bh (aa n b.1) b.2) with
  | nil=>rw [hl] at hz;cases hz
  | cons a l =>
   have hh:hdM (bx n items) n c b=some a:=by unfold hdM;rw [if_neg hnk,hl];rfl
   exact (h b a hb hb6 hh).2 z hz
 rcases LZ.1 hz with hz | hz
 ·split at hz
  ·exact old z (List.mem_of_mem_tail hz)
  ·exact old z hz
 ·split at hz
  ·rw [MT.1 hz];exact hK
  ·cases hz
theorem HZ (hS:RightS n items) {K:Int}:∀ {u:List (Nat × Nat)} {c d:MSt Item Memory (List Choice)},FRun n items c u d->chW n u=[]->Late n items K c->∃ e,d.out=c.out++e/\∀ y,y∈e->K<=y.Dep:=by
 intro u;induction u with
 | nil=>intro c d h _ _;cases h;exact ⟨[],by simp,fun y hy=>by cases hy⟩
 | cons m u ih =>
  intro c d h hc hl;rw [eT] at hc;by_cases h6:(aa n m.1).Kind=6
  ·rw [if_pos h6] at hc;cases hc
  rw [if_neg h6] at hc;cases h with
  | cons h1 h2 =>
   obtain ⟨hm,x,hx,_,rfl⟩:=h1;obtain ⟨hk1,hdep⟩:=hl m x hm h6 hx;have hxd:K<=x.Dep:=by unfold hdM at hx;rw [if_neg hk1] at hx;exact hdep x (List.mem_of_mem_head? hx)
   have hin:inM (bx n items) n c m x=x:=by unfold inM;rw [if_neg h6]
   have hmk:K<=(mkM (bx n items) n c m x).2.Dep:=by unfold mkM;rw [hin];exact Int.le_trans hxd (zn _ _ _ _)
   obtain ⟨e,e1,e2⟩:=ih h2 hc (BP hS hm hx hmk hl hk1);unfold goM at e1;simp only at e1;by_cases h8:(aa n m.1).Kind=8
   ·rw [if_pos h8] at e1;refine ⟨(mkM (bx n items) n c m x).2::e,by rw [e1];simp,fun y hy=>?_⟩;rcases Md.1 hy with rfl | hy
    ·exact hmk
    ·exact e2 y hy
   ·rw [if_neg h8] at e1;exact ⟨e,e1,e2⟩
theorem NF.tr {c:List Choice} {t:MSt Item Memory (List Choice)} (h:NF n items c t):t.tr=c:=by
 induction h with
 | nil h hu hr =>
  rw [kJ h,hu];rfl
 | @snoc c t m t1 u t2 h hm h6 h1 hu hr ih =>
  rw [kJ h1,hu,L3];obtain ⟨_,x,_,_,rfl⟩:=hm;unfold goM;simp only;rw [if_pos h6,ih];rfl
theorem NF.next (hS:RightS n items) {c:List Choice} {x:Choice} {t2:MSt Item Memory (List Choice)} (h:NF n items (c++[x]) t2):∃ t e,NF n items c t/\t2.out=t.out++e/\∀ y,y∈e->(c.length:Int)+1<=y.Dep:=by
 obtain ⟨t,m,t1,u,g,gm,g6,g1,gu,gr,e⟩:=h.inv;obtain ⟨hm,y,hy,_,rfl⟩:=gm;have htr:=g.tr;have hl0:Late n items ((c.length:Int)+1) t:=fun b z hb hb6 hz=>by obtain ⟨d,hd⟩:=IB hb hz;exact absurd hd (g.rest b d hb6)
 have hmk:(c.length:Int)+1<=(mkM (bx n items) n t m y).2.Dep:=by refine Int.le_trans ?_ (zn _ _ _ _);unfold inM;rw [if_pos g6];show (c.length:Int)+1<=(t.tr.length:Int)+1;rw [htr];exact Mh _
 have hk1:(aa n m.1).Kind≠1:=by omega
 obtain ⟨e',e1,e2⟩:=HZ hS g1 gu (BP hS hm hy hmk hl0 hk1);refine ⟨t,e',g,?_,e2⟩;rw [e1];unfold goM;simp only;rw [if_neg (by omega)]
theorem NF.later (hS:RightS n items) {c:List Choice}:∀ (k:Nat) {d:List Choice} {t2:MSt Item Memory (List Choice)},d.length=k->NF n items (c++d) t2->∃ t e,NF n items c t/\t2.out=t.out++e/\∀ y,y∈e->(c.length:Int)+1<=y.Dep:=by
 intro k;induction k with
 | zero =>
  intro d t2 hk h;have:d=[]:=LR hk;subst this;rw [L3] at h;exact ⟨t2,[],h,by simp,fun y hy=>by cases hy⟩
 | succ k ih =>
  intro d t2 hk h;rcases List.eq_nil_or_concat d with e | ⟨d',x,e⟩
  ·rw [e] at hk;cases hk
  rw [e,List.concat_eq_append,<- LN] at h;obtain ⟨t1,e1,g1,g2,g3⟩:=h.next hS;obtain ⟨t,e2,q1,q2,q3⟩:=ih (by rw [e,List.concat_eq_append,LI,MV] at hk;omega) g1;refine ⟨t,e2++e1,q1,by rw [g2,q2,LN],fun y hy=>?_⟩;rcases LZ.1 hy with hy | hy
  ·exact q3 y hy
  ·have:=g3 y hy;rw [LI] at this;omega
end
end
noncomputable section
abbrev kvP:Item->Int × Int:=kv
def durC (n:Net) (items:List (List Item)) (S:List (List UInt8)):List Choice:=(cr n items S).1.Choices++(bd ((cr n items S).2:Int) (S.drop 120)).1
section
variable {n:Net} {items:List (List Item)} {E:Nat} {h:Shop}
theorem tm (q:SrcQ n items) {S:List (List UInt8)} {b:State} {cs:List (List Choice)} (hh:Held (PB n items) E S) (he:E<=200) (hb:BaseIs n items E S b) (hl:LogIs E S cs):durC n items S=b.Choices++cs.flatten:=by obtain ⟨s,hn,hI,hk,z0,z1⟩:=sP q hh;have hs:=zS q hb hI hk z0 (fun h=>(z1 h).1);subst hs;unfold durC;rw [hn];simp only;rw [hl.scan he]
theorem yV (q:SrcQ n items) {E':Nat} {S S':List (List UInt8)} (g:Grows n items E S E' S') (hh:Held (PB n items) E S) (he:E<=200) (hh':Held (PB n items) E' S') (he':E'<=200):durC n items S <+: durC n items S':=by obtain ⟨b,cs,b',cs',g1,g2,g3,g4,g5⟩:=g;rw [tm q hh he g1 g2,tm q hh' he' g3 g4];exact g5
structure JT (n:Net) (items:List (List Item)) (E:Nat) (h:Shop):Prop extends JR n items E h where
 tl:∃ k t,k<=(durC n items h.D.Sectors).length/\NF n items ((durC n items h.D.Sectors).take k) t/\h.Told.map kvP <+: t.out.map kvP
theorem JR.upF (q:SrcQ n items) (j:JR n items E h) (hd:h.Down=false):h.Safe=((durC n items h.D.Sectors).length:Int)/\durC n items h.D.Sectors <+: h.S.Choices/\∃ W,RRun n items (bi (a9 n items)) W (bi h.S):=by
 obtain ⟨b,cs,hb,hlg,_,hp⟩:=j.base;have hdur:=tm q j.held j.e2 hb hlg;obtain ⟨w0,hw0⟩:=hb.reach;rw [hdur];cases hp hd with
 | @log w cs2 r hla run ch good len wait next logged safe =>
  have h1:=mf run;rw [ch] at h1;refine ⟨by rw [safe,LI],?_,w0++w,hw0.app run⟩;rw [h1,Mj];exact ⟨cs2.flatten++r,by simp only [LN]⟩
 | @slot w cs2 r s' w2 hla run ch good len wait inv kv hb' run2 laid safe =>
  have h1:=mf run;rw [ch] at h1;have h2:=mf run2;refine ⟨by rw [safe,LI],?_,(w0++w)++w2,(hw0.app run).app run2⟩;rw [h2,h1,Mj];exact ⟨cs2.flatten++(r++chW n w2),by simp only [LN]⟩
theorem HK (q:SrcQ n items) {s:State} {W:List (Nat × Nat)} (hr:RRun n items (bi (a9 n items)) W (bi s)):∃ t,NF n items s.Choices t/\s.Out <+: t.out:=by
 obtain ⟨t,u,h1,h2,h3⟩:=Kk q.S _ W _ rfl hr.free;have h4:=kJ hr;have h5:s.Choices=chW n W:=by simpa [bi,a9] using h4
 rw [<- h5] at h1;exact ⟨t,h1,h2.out_pre⟩
theorem JT.pre (q:SrcQ n items) (j:JT n items E h) (hd:h.Down=false):∃ t,NF n items h.S.Choices t/\h.S.Out <+: t.out/\h.Told.map kvP <+: t.out.map kvP:=by
 obtain ⟨hsafe,hpre,W,hW⟩:=j.toJR.upF q hd;obtain ⟨tS,h1,h2⟩:=HK q hW;obtain ⟨k,t,hk,hn,ht⟩:=j.tl;refine ⟨tS,h1,h2,?_⟩;obtain ⟨r,hr⟩:=hpre;have hsplit:h.S.Choices=(durC n items h.D.Sectors).take k++((durC n items h.D.Sectors).drop k++r):=by rw [<- LN,Mp,hr]
 rw [hsplit] at h1;obtain ⟨t',e,g1,g2,_⟩:=h1.later q.S _ rfl;have:=hn.one q.S g1;subst this;rw [g2,MW];exact ht.trans (List.prefix_append _ _)
theorem uC {a b:List Item} (h:a.map kvP <+: b.map kvP):dY a b=true:=by have h1:=h.length_le;rw [LS,LS] at h1;have h2:=List.prefix_iff_eq_take.1 h;rw [LS] at h2;unfold dY;rw [decide_eq_true_eq];exact ⟨by rw [Nh];exact h2,h1⟩
theorem JT.comp (q:SrcQ n items) (j:JT n items E h) (hd:h.Down=false):dY h.Told h.S.Out=true∨dY h.S.Out h.Told=true:=by
 obtain ⟨t,_,h2,h3⟩:=j.pre q hd;have h4:h.S.Out.map kvP <+: t.out.map kvP:=h2.map kvP;rcases List.prefix_or_prefix_of_prefix h3 h4 with h5 | h5
 ·exact .inl (uC h5)
 ·exact .inr (uC h5)
theorem ue {α:Type} {a b:List α} (h:a <+: b) {k:Nat} (hk:k<=a.length):b.take k=a.take k:=by obtain ⟨r,rfl⟩:=h;rw [List.take_append_of_le_length hk]
theorem JT.keep (j:JT n items E h) {E':Nat} {h':Shop} (jr:JR n items E' h') (hd:durC n items h.D.Sectors <+: durC n items h'.D.Sectors) (ht:h'.Told=h.Told):JT n items E' h':=by obtain ⟨k,t,hk,hn,hp⟩:=j.tl;refine ⟨jr,k,t,M0 hk hd.length_le,?_,by rw [ht];exact hp⟩;rw [ue hd hk];exact hn
theorem y9 {α:Type} (p:α->Bool):∀ (A:List α) {X B:List α},X <+: A++B->(∀ y,y∈B->p y=false)->X.takeWhile p <+: A
 | [],X,B,h,hB=>by
  cases X with
  | nil=>exact List.nil_prefix
  | cons x X =>
   have hx:x∈B:=h.subset L0;rw [List.takeWhile_cons,hB x hx];exact List.nil_prefix
 | a::A,X,B,h,hB=>by
  cases X with
  | nil=>exact List.nil_prefix
  | cons x X =>
   rw [Nt,List.cons_prefix_cons] at h;obtain ⟨rfl,h⟩:=h;rw [List.takeWhile_cons];cases hx:p x with
   | false=>exact List.nil_prefix
   | true =>
    have:=y9 p A h hB;simp only [if_true];rw [List.cons_prefix_cons];exact ⟨rfl,this⟩
theorem GT (l:List Item):(l.map fV).map kvP=l.map kvP:=by rw [Nc];rfl
theorem JT.tell (q:SrcQ n items) (j:JT n items E h) (hd:h.Down=false) (h0:(cX h.Told h.S.Out h.Safe).2=0):JT n items E { h with Told:=h.Told++(cX h.Told h.S.Out h.Safe).1 }/\h.Told.map kvP <+: (h.Told++(cX h.Told h.S.Out h.Safe).1).map kvP:=by
 refine ⟨?_,by rw [MW];exact List.prefix_append _ _⟩;have jr:=j.toJR.tell _ j.toJS.tell;obtain ⟨hsafe,hpre,W,hW⟩:=j.toJR.upF q hd;obtain ⟨tS,h1,h2,h3⟩:=j.pre q hd;unfold cX at h0 jr ⊢;by_cases c1:2000<h.Told.length
 ·rw [if_pos c1] at h0;exact absurd h0 (by decide)
 rw [if_neg c1] at h0 jr ⊢;by_cases c2:(gw h.S.Out h.Safe).2≠0
 ·rw [if_pos c2] at h0;exact absurd h0 c2
 rw [if_neg c2] at h0 jr ⊢;by_cases c3:dY h.Told h.S.Out=false/\dY h.S.Out h.Told=false
 ·rw [if_pos c3] at h0;exact absurd h0 (by decide)
 rw [if_neg c3] at h0 jr ⊢;by_cases c4:dK h.S.Out h.Safe<=h.Told.length
 ·rw [if_pos c4] at jr ⊢;exact j.keep jr (List.prefix_refl _) (by simp)
 rw [if_neg c4] at jr ⊢;obtain ⟨r,hr⟩:=hpre;rw [<- hr] at h1;obtain ⟨t,e,g1,g2,g3⟩:=h1.later q.S _ rfl;have hw:h.S.Out.takeWhile (fun x=>decide (x.Dep<=h.Safe)) <+: t.out:=y9 _ t.out (by rw [<- g2];exact h2) (fun y hy=>by have:=g3 y hy;rw [hsafe];simp;omega)
 have htk:h.S.Out.take (dK h.S.Out h.Safe)=h.S.Out.takeWhile (fun x=>decide (x.Dep<=h.Safe)):=(List.prefix_iff_eq_take.1 (List.takeWhile_prefix _)).symm;rw [htk] at jr ⊢;have hlen:h.Told.length<(h.S.Out.takeWhile (fun x=>decide (x.Dep<=h.Safe))).length:=by have:dK h.S.Out h.Safe=(h.S.Out.takeWhile (fun x=>decide (x.Dep<=h.Safe))).length:=rfl;omega
 generalize h.S.Out.takeWhile (fun x=>decide (x.Dep<=h.Safe))=X at hw hlen jr ⊢;have hX:X.map kvP <+: tS.out.map kvP:=by rw [g2,MW];exact (hw.map kvP).trans (List.prefix_append _ _)
 have hTX:h.Told.map kvP <+: X.map kvP:=List.prefix_of_prefix_length_le h3 hX (by rw [LS,LS];omega);have heq:(h.Told++(X.drop h.Told.length).map fV).map kvP=X.map kvP:=by rw [MW,GT];have:=List.prefix_iff_eq_take.1 hTX;rw [LS] at this;rw [this,<- Nh,<- MW,Mp]
 refine ⟨jr,(durC n items h.D.Sectors).length,t,LM _,by rw [ME];exact g1,?_⟩;show (h.Told++(X.drop h.Told.length).map fV).map kvP <+: _;rw [heq];exact hw.map kvP
theorem JT.do (q:SrcQ n items) (j:JT n items E h) (k a:Int) (h0:(doP h k a).2=0):∃ E',JT n items E' (doP h k a).1/\durC n items h.D.Sectors <+: durC n items (doP h k a).1.D.Sectors/\h.Told.map kvP <+: (doP h k a).1.Told.map kvP:=by
 by_cases hd:h.Down=true
 ·by_cases h6:k=6
  ·subst h6;obtain ⟨b,cs,t,_,_,_,hup,hj⟩:=j.toJR.up q hd a;rw [hup] at hj ⊢;exact ⟨E,j.keep hj (List.prefix_refl _) rfl,List.prefix_refl _,List.prefix_refl _⟩
  ·exfalso;rw [fg hd,if_pos h6] at h0;exact absurd h0 (by decide)
 have hdf:h.Down=false:=by simpa using hd
 obtain ⟨E1,j1⟩:=j.toJR.do q k a h0;by_cases h1:k=1
 ·subst h1;rw [doP_1 hdf] at h0 j1 ⊢;by_cases hr:bb h.N h.Items h.S=[]
  ·rw [if_pos hr] at h0;exact absurd h0 (by decide)
  ·rw [if_neg hr] at j1 ⊢;exact ⟨E1,j.keep j1 (List.prefix_refl _) rfl,List.prefix_refl _,List.prefix_refl _⟩
 by_cases h2:k=2
 ·subst h2;rw [doP_2 hdf] at h0 j1 ⊢;by_cases hl:0<=h.Laid
  ·rw [if_pos hl] at h0;exact absurd h0 (by decide)
  rw [if_neg hl] at h0 j1 ⊢;by_cases he:(bT h.Epoch.toNat h.D.Sectors (h.S.Choices.drop h.Logged.toNat).length h.Next.toNat (h.S.Choices.drop h.Logged.toNat) h.D.Wait).2.2=0
  ·obtain ⟨cs,e1,_,_,_,_⟩:=j.toJS.write hdf hl he;rw [if_neg (by simpa using he),e1] at j1 ⊢;exact ⟨E1,j.keep j1 (List.prefix_refl _) rfl,List.prefix_refl _,List.prefix_refl _⟩
  ·rw [if_pos he] at h0;exact absurd h0 he
 by_cases h3:k=3
 ·subst h3;obtain ⟨E2,g,j2⟩:=j.toJR.flushG hdf a;have hg:=yV q g j.held j.e2 j2.held j2.e2;have ht:(doP h 3 a).1.Told=h.Told:=by rw [doP_3 hdf];split<;>rfl
  exact ⟨E2,j.keep j2 hg ht,hg,by rw [ht];exact List.prefix_refl _⟩
 by_cases h4:k=4
 ·subst h4;rw [doP_4 hdf] at h0 j1 ⊢;by_cases he:(cX h.Told h.S.Out h.Safe).2=0
  ·rw [if_neg (not_not_intro he)] at j1 ⊢;obtain ⟨g1,g2⟩:=j.tell q hdf he;exact ⟨E,g1,List.prefix_refl _,g2⟩
  ·rw [if_pos he] at h0;exact absurd h0 he
 by_cases h5:k=5
 ·subst h5;rw [doP_5 hdf] at h0 ⊢;by_cases hc:a<0∨h.D.Wait.length<a
  ·rw [if_pos hc] at h0;exact absurd h0 (by decide)
  ·rw [if_neg hc];obtain ⟨E2,g,j2⟩:=j.toJR.cutG q hdf a.toNat;have hg:=yV q g j.held j.e2 j2.held j2.e2;exact ⟨E2,j.keep j2 hg rfl,hg,List.prefix_refl _⟩
 by_cases h7:k=7
 ·subst h7;rw [doP_7 hdf] at h0 j1 ⊢;by_cases hl:0<=h.Laid
  ·rw [if_pos hl] at h0;exact absurd h0 (by decide)
  rw [if_neg hl] at h0 j1 ⊢;by_cases h200:h.Epoch=200
  ·rw [if_pos h200] at h0;exact absurd h0 (by decide)
  rw [if_neg h200] at h0 j1 ⊢;by_cases hb:60<=((aV h.S).length+49) / 50∨300<h.D.Wait.length+(((aV h.S).length+49) / 50+1)
  ·rw [if_pos hb] at h0;exact absurd h0 (by decide)
  rw [if_neg hb] at j1 ⊢;exact ⟨E1,j.keep j1 (List.prefix_refl _) rfl,List.prefix_refl _,List.prefix_refl _⟩
 ·exfalso;rw [qq hdf a ⟨h1,h2,h3,h4,h5,h7⟩] at h0;exact absurd h0 (by decide)
theorem B4 (ep:Nat) (S:List (List UInt8)):∀ (n a:Nat) (l:List Choice) (w:List Write),(bT ep S n a l w).2.2=0∨(bT ep S n a l w).2.2=2∨(bT ep S n a l w).2.2=3∨(bT ep S n a l w).2.2=8
 | 0,a,l,w=>.inl rfl
 | n+1,a,l,w=>by
  unfold bT;by_cases h1:l=[]
  ·rw [if_pos h1];exact .inl rfl
  rw [if_neg h1];by_cases h2:(dx (l.take 29)).2≠0
  ·rw [if_pos h2];show (dx (l.take 29)).2=0∨_;unfold dx;split
   ·exact .inr (.inl rfl)
   split
   ·exact .inl rfl
   ·exact .inr (.inr (.inl rfl))
  rw [if_neg h2];split
  ·exact .inr (.inr (.inr rfl))
  split
  ·exact .inr (.inr (.inr rfl))
  ·exact B4 ep S n _ _ _
theorem JT.err (q:SrcQ n items) (j:JT n items E h) (k a:Int):(doP h k a).2≠4/\(doP h k a).2≠11/\(k=6->h.Down=true->(doP h k a).2=0):=by
 by_cases hd:h.Down=true
 ·by_cases h6:k=6
  ·subst h6;obtain ⟨b,cs,t,_,_,_,hup,hj⟩:=j.toJR.up q hd a;rw [hup];exact ⟨(by decide:(0:Int)≠4),(by decide:(0:Int)≠11),fun _ _=>rfl⟩
  ·rw [fg hd,if_pos h6];exact ⟨by decide,by decide,fun h=>absurd h h6⟩
 have hdf:h.Down=false:=by simpa using hd
 have key:∀ {e:Int},e=0∨e=2∨e=3∨e=8∨e=10∨e=13->e≠4/\e≠11/\(k=6->h.Down=true->e=0):=fun he=>⟨by omega,by omega,fun _ h=>absurd h hd⟩
 apply key;by_cases h1:k=1
 ·subst h1;rw [doP_1 hdf];split
  ·exact .inr (.inr (.inr (.inr (.inl rfl))))
  ·exact .inl rfl
 by_cases h2:k=2
 ·subst h2;rw [doP_2 hdf];split
  ·exact .inr (.inr (.inr (.inr (.inl rfl))))
  split
  ·rcases B4 h.Epoch.toNat h.D.Sectors (h.S.Choices.drop h.Logged.toNat).length h.Next.toNat (h.S.Choices.drop h.Logged.toNat) h.D.Wait with e | e | e | e
   ·exact .inl e
   ·exact .inr (.inl e)
   ·exact .inr (.inr (.inl e))
   ·exact .inr (.inr (.inr (.inl e)))
  ·exact .inl rfl
 by_cases h3:k=3
 ·subst h3;rw [doP_3 hdf];split<;>exact .inl rfl
 by_cases h4:k=4
 ·subst h4;rw [doP_4 hdf];split
  ·show (cX h.Told h.S.Out h.Safe).2=0∨_;unfold cX;split
   ·exact .inr (.inl rfl)
   split
   ·show (gw h.S.Out h.Safe).2=0∨_;unfold gw;split
    ·exact .inr (.inl rfl)
    split
    ·exact .inr (.inr (.inl rfl))
    ·exact .inl rfl
   split
   ·rename_i hc;exfalso;rcases j.comp q hdf with e | e
    ·rw [hc.1] at e;cases e
    ·rw [hc.2] at e;cases e
   split<;>exact .inl rfl
  ·exact .inl rfl
 by_cases h5:k=5
 ·subst h5;rw [doP_5 hdf];split
  ·exact .inr (.inr (.inl rfl))
  ·exact .inl rfl
 by_cases h7:k=7
 ·subst h7;rw [doP_7 hdf];split
  ·exact .inr (.inr (.inr (.inr (.inl rfl))))
  split
  ·exact .inr (.inr (.inr (.inl rfl)))
  split
  ·exact .inr (.inr (.inr (.inl rfl)))
  ·exact .inl rfl
 ·rw [qq hdf a ⟨h1,h2,h3,h4,h5,h7⟩];exact .inr (.inr (.inr (.inr (.inr rfl))))
theorem G1 (q:SrcQ n items) {y:Shop} (j:JT n items E y) (k:Nat) (hk:k<1000):m8 (k:Int) (y,0)=some (.inl (((k+1:Nat):Int),y.N.Nodes,y.N.Rings,y.N.Room,y.Items,y.S.At,y.S.Rings,y.S.Memory,y.S.Choices,y.S.Out,y.D.Sectors,y.D.Wait,y.Logged,y.Safe,y.Epoch,y.Laid,y.Next,y.Told,y.Down)):=by
 unfold m8;have hb1:e7 y.Told y.S.Out=some (dY y.Told y.S.Out):=pp _ _ (by have:=j.told;omega);have hb2:e7 y.S.Out y.Told=some (dY y.S.Out y.Told):=pp _ _ (by have:=j.inv.ch.2;omega);have hc:(if (!y.Down)=true then (Option.bind (e7 y.Told y.S.Out) fun x46=>(if (!x46)=true then (Option.bind (e7 y.S.Out y.Told) fun x47=>(some (!x47))) else (some false))) else (some false))=some false:=by
  by_cases hd:y.Down=true
  ·rw [if_neg (by rw [hd];decide)]
  have hdf:y.Down=false:=by simpa using hd
  rw [if_pos (by rw [hdf];decide),hb1,LF];rcases j.comp q hdf with e | e
  ·rw [e,if_neg (by decide)]
  ·by_cases e1:dY y.Told y.S.Out=true
   ·rw [e1,if_neg (by decide)]
   ·rw [if_pos (by simpa using e1),hb2,LF,e];rfl
 dsimp only;rw [hc,LF,if_neg (by decide),bt (by omega)]
theorem ug (q:SrcQ n items) (script:List Happening) (hs:script.length<=100):∀ (m k:Nat) (E:Nat) (h:Shop),k+m=script.length->JT n items E h ->
  iter (fun ss:Int × (List Node) × Int × Int × (List (List Item)) × (List Int) × (List (List Item)) × (List Memory) × (List Choice) × (List Item) × (List (List UInt8)) × (List Write) × Int × Int × Int × Int × Int × (List Item) × Bool=>ik script ss.1 ss.2.1 ss.2.2.1 ss.2.2.2.1 ss.2.2.2.2.1 ss.2.2.2.2.2.1 ss.2.2.2.2.2.2.1 ss.2.2.2.2.2.2.2.1 ss.2.2.2.2.2.2.2.2.1 ss.2.2.2.2.2.2.2.2.2.1 ss.2.2.2.2.2.2.2.2.2.2.1 ss.2.2.2.2.2.2.2.2.2.2.2.1 ss.2.2.2.2.2.2.2.2.2.2.2.2.1 ss.2.2.2.2.2.2.2.2.2.2.2.2.2.1 ss.2.2.2.2.2.2.2.2.2.2.2.2.2.2.1 ss.2.2.2.2.2.2.2.2.2.2.2.2.2.2.2.1 ss.2.2.2.2.2.2.2.2.2.2.2.2.2.2.2.2.1 ss.2.2.2.2.2.2.2.2.2.2.2.2.2.2.2.2.2.1 ss.2.2.2.2.2.2.2.2.2.2.2.2.2.2.2.2.2.2) ((k:Int),h.N.Nodes,h.N.Rings,h.N.Room,h.Items,h.S.At,h.S.Rings,h.S.Memory,h.S.Choices,h.S.Out,h.D.Sectors,h.D.Wait,h.Logged,h.Safe,h.Epoch,h.Laid,h.Next,h.Told,h.Down)=some true
 | 0,k,E,h,hk,j=>by
  have e:ik script (k:Int) h.N.Nodes h.N.Rings h.N.Room h.Items h.S.At h.S.Rings h.S.Memory h.S.Choices h.S.Out h.D.Sectors h.D.Wait h.Logged h.Safe h.Epoch h.Laid h.Next h.Told h.Down=some (.inr true):=by unfold ik;rw [if_neg (by simp;omega)];rfl
  rw [aH];simp only [e]
 | m + 1,k,E,h,hk,j=>by
  have hlt:k<script.length:=by omega
  have hx:script[k]?=some script[k]:=LG hlt;generalize script[k]=x at hx;have hdo:iE (⟨⟨h.N.Nodes,h.N.Rings,h.N.Room⟩,h.Items,⟨h.S.At,h.S.Rings,h.S.Memory,h.S.Choices,h.S.Out⟩,⟨h.D.Sectors,h.D.Wait⟩,h.Logged,h.Safe,h.Epoch,h.Laid,h.Next,h.Told,h.Down⟩:Shop) x=some (bl h x):=zJ q j.toJS x;obtain ⟨e4,e11,e6⟩:=j.err q x.Kind x.N;rw [aH];by_cases h0:(bl h x).2=0
  ·have hxk:¬ (x.Kind<1∨7<x.Kind):=fun hx=>by unfold bl at h0;rw [if_pos hx] at h0;exact absurd h0 (by decide)
   have hhp:bl h x=doP h x.Kind x.N:=by unfold bl;rw [if_neg hxk]
   obtain ⟨E1,j1,g1,g2⟩:=j.do q x.Kind x.N (by rw [<- hhp];exact h0);have hbg:e7 h.Told (bl h x).1.Told=some true:=by rw [pp _ _ (by have:=j.told;omega),hhp,uC g2]
   rw [<- hhp] at j1 g1;have hy:bl h x=((bl h x).1,0):=Prod.ext rfl h0;have hk1:=G1 q j1 k (by omega);rw [<- hy] at hk1;have e:ik script (k:Int) h.N.Nodes h.N.Rings h.N.Room h.Items h.S.At h.S.Rings h.S.Memory h.S.Choices h.S.Out h.D.Sectors h.D.Wait h.Logged h.Safe h.Epoch h.Laid h.Next h.Told h.Down=some (.inl (((k+1:Nat):Int),(bl h x).1.N.Nodes,(bl h x).1.N.Rings,(bl h x).1.N.Room,(bl h x).1.Items,(bl h x).1.S.At,(bl h x).1.S.Rings,(bl h x).1.S.Memory,(bl h x).1.S.Choices,(bl h x).1.S.Out,(bl h x).1.D.Sectors,(bl h x).1.D.Wait,(bl h x).1.Logged,(bl h x).1.Safe,(bl h x).1.Epoch,(bl h x).1.Laid,(bl h x).1.Next,(bl h x).1.Told,(bl h x).1.Down)):=by
    unfold ik;rw [if_pos (by simp;omega),bv hx,LF,hdo,LF,if_neg (by simpa using h0),hbg,LF,if_neg (by decide)];by_cases h5:x.Kind=5
    ·rw [if_pos (by simpa using h5),show e8 6 0=some ⟨6,0⟩ from rfl,LF];have hdh:h.Down=false:=by
      by_cases hd:h.Down=true
      ·exfalso;rw [hhp,h5,fg hd,if_pos (by decide)] at h0;exact absurd h0 (by decide)
      ·simpa using hd
     have hdn:(bl h x).1.Down=true:=by
      rw [hhp,h5,doP_5 hdh];rw [hhp,h5,doP_5 hdh] at h0;by_cases hc:x.N<0∨h.D.Wait.length<x.N
      ·rw [if_pos hc] at h0;exact absurd h0 (by decide)
      ·rw [if_neg hc]
     obtain ⟨b,cs,t,hb,hlg,hch,hup,_⟩:=j1.toJR.up q hdn 0;have hdur:=tm q j1.held j1.e2 hb hlg;rw [<- hdur] at hch;obtain ⟨hsafe,hpre,_⟩:=j.toJR.upF q hdh;have hle:=g1.length_le;rw [show iE (bl h x).1 ⟨6,0⟩=some (doP (bl h x).1 6 0) from zj q j1.toJS 6 0,LF,hup];dsimp only;rw [if_neg (by rw [hch,hsafe];simp;omega),hsafe,sub_0 (by rw [hch];exact hle),LF,sub_0 hpre.length_le,LF,Dm _ _ (by rw [L8];have:=j.inv.ch.1;have:=hpre.length_le;omega),LF,
      hch,ue g1 (LM _),ue hpre (LM _),if_neg (by simp)]
     exact hk1
    ·rw [if_neg (by simpa using h5)];exact hk1
   simp only [e];exact ug q script hs m (k+1) E1 (bl h x).1 (by omega) j1
  ·have herr:(bl h x).2≠4/\(bl h x).2≠11/\(x.Kind=6->h.Down=true->(bl h x).2=0):=by
    unfold bl;by_cases hx:x.Kind<1∨7<x.Kind
    ·rw [if_pos hx];exact ⟨by decide,by decide,fun h=>by omega⟩
    ·rw [if_neg hx];exact ⟨e4,e11,e6⟩
   have e:ik script (k:Int) h.N.Nodes h.N.Rings h.N.Room h.Items h.S.At h.S.Rings h.S.Memory h.S.Choices h.S.Out h.D.Sectors h.D.Wait h.Logged h.Safe h.Epoch h.Laid h.Next h.Told h.Down=some (.inl (((k+1:Nat):Int),h.N.Nodes,h.N.Rings,h.N.Room,h.Items,h.S.At,h.S.Rings,h.S.Memory,h.S.Choices,h.S.Out,h.D.Sectors,h.D.Wait,h.Logged,h.Safe,h.Epoch,h.Laid,h.Next,h.Told,h.Down)):=by
    unfold ik;have hn1:((bl h x).2==4)=false:=by simpa using herr.1
    have hn2:((bl h x).2==11)=false:=by simpa using herr.2.1
    rw [if_pos (by simp;omega),bv hx,LF,hdo,LF,if_pos (by simpa using h0),hn1,hn2];rw [if_neg ?_,bt (by omega)];by_cases h6:x.Kind=6
    ·have hdf:h.Down=false:=by
      by_cases hd:h.Down=true
      ·exact absurd (herr.2.2 h6 hd) h0
      ·simpa using hd
     rw [if_pos (by simpa using h6),hdf];decide
    ·rw [if_neg (by simpa using h6)];decide
   simp only [e];exact ug q script hs m (k+1) E h (by omega) j
theorem JT.start (q:SrcQ n items):JT n items 0 (newH n items):=by obtain ⟨u,t,h1,h2,h3⟩:=vm q.S _ (bi (a9 n items)) (LM _);exact ⟨JR.start q.S,0,t,MA _,by rw [List.take_zero];exact .nil h1 h2 h3,List.nil_prefix⟩
theorem D6 (n:Net) (items:List (List Item)) (script:List Happening) (gn:gNet n) (gi:gL (gL dk) items) (gs:gL uf script) (hb:mNet n+(mL (mL cK) items+(mL r7 script+0))<=1048576):rx n items script=some true:=by
 have hio:=IS (show mNet n<=1048576 by omega);unfold rx;by_cases hs:cP n items=0
 ·have q:SrcQ n items:=⟨ku hs,hs,hio,gi⟩
  rw [BW q,LF,xD,LF,if_neg (by simp)];have key:∀ z:List Happening,z.length<=100->lj (newH n items,0) z=some true:=fun z hz=>by unfold lj;exact ug q z hz z.length 0 0 (newH n items) (by omega) (JT.start q)
  by_cases h:100<script.length
  ·rw [if_pos (by simp;omega),show sub script 0 100=some (script.take 100) from sub_0 (j:=100) (by omega),LF];exact key _ (by rw [L8];omega)
  ·rw [if_neg (by simp;omega)];exact key _ (by omega)
 ·rw [H6 hio hs,LF,xD,LF,if_pos (by simp [hs])];rfl
end
end
end Go.Proofs.YtnlmagdmmjkklaaGreat
namespace Go.Proofs.YtnlmagdmmjkklaaGreat.shopKeepsLaw
open Go.ChangeShapes Go.WideShapes Go.ChangeAt Go.RowKit
theorem own:ownKnob Tryz.prog.godebug=none:=by kernel_rfl
theorem laid:laidOutB Tryz.prog=true:=by kernel_rfl
theorem ok:(Tryz.f3.params.toList.all fun t=>Tryz.prog.readableRec t && decide (t<Tryz.prog.types.size))=true:=by kernel_rfl
set_option maxRecDepth 100000 in
theorem contract (H:Type) (enc:TypeId × Value->H) (W:World) (base:Nat) (args:Array Value) (ds gs:List (DataW H)) (before:List MemPlace)
  (hval:∀ (j:Nat) t v,Tryz.f3.params[j]?=some t->args[j]?=some v->Value.okWide Tryz.prog W .any base t v)
  (hW:DataW.Whole enc Tryz.prog Tryz.f3.params.toList Rows.shopKeepsSpec.vars false W args.toList ds gs before) (hk:Rows.uptoSmall H (ds++gs)=true) :
  Calls Tryz.prog 3 args W fun e W'=>∃ v,e=.returned v/\Rows.shopKeepsSpec.post enc Tryz.prog Tryz.f3 false true false false W args v W':=by
 have hW':=hW
 obtain ⟨p,q,hA0,hV,rfl,hfz,hnd⟩:=hW
 have hA:DataW.TrodAll enc Tryz.prog W 0 (fun _=>true) true Tryz.f3.params.toList args.toList ds p:=hA0
 rw [Tryz.params3] at hA hval
 obtain ⟨v0,vs0,d0,ds0,p0,q0,hargs,rfl,rfl,h0,r0⟩:=trodAll_cons hA
 obtain ⟨v1,vs1,d1,ds1,p1,q1,rfl,rfl,rfl,h1,r1⟩:=trodAll_cons r0
 obtain ⟨v2,vs2,d2,ds2,p2,q2,rfl,rfl,rfl,h2,r2⟩:=trodAll_cons r1
 obtain ⟨rfl,rfl,rfl⟩:=trodAll_nil r2
 obtain rfl:args=#[v0,v1,v2]:=by cases args;simp_all
 obtain ⟨rfl,rfl⟩:=trodVars_none hV
 obtain ⟨x0,a0,g0,m0⟩:=Opn.args on24 Tryz.underlying24 (hval 0 _ v0 rfl rfl) h0
 obtain ⟨x1,a1,g1,m1⟩:=Opn.arg on25 (by rw [Tryz.underlying25]) (hval 1 _ v1 rfl rfl) h1
 obtain ⟨x2,a2,g2,m2⟩:=Opn.arg on26 (by rw [Tryz.underlying26]) (hval 2 _ v2 rfl rfl) h2
 have hb:Rows.uptoBulkAll ([d0,d1,d2]:List (DataW H))<=1048576:=of_decide_eq_true hk
 simp only [Rows.uptoBulkAll] at hb
 refine HB laid Tryz.underlying4 (by kernel_rfl) ok rfl rfl rfl rfl hW' (av:=[_,_,_]) (.cons a0 (.cons a1 (.cons a2 (.nil)))) (Dt (D6 x0 x1 x2 g0 g1 g2 (by omega)))
set_option maxRecDepth 100000 in
theorem lifted (os:Os) (started:os.Started) (H:Type) (enc:TypeId × Value->H) (F:Stop.Interp) :
  ReturnsInHanded {} Tryz.checked os 3 .any ((Rows.OpenSpec.upto Rows.shopKeepsSpec).pre6 enc Tryz.prog Tryz.f3 Rows.shopKeepsUptoRow.domain false) (((Rows.OpenSpec.upto Rows.shopKeepsSpec).at F).post enc Tryz.prog Tryz.f3 false true false false):=by
 refine returnsInHanded_of_cond (C:=Tryz.checked) (s:=Rows.OpenSpec.upto Rows.shopKeepsSpec) (k:=Rows.uptoSmall) rfl own started (by kernel_rfl) Tryz.func3
  (OpenSpec.witness (enc:=enc) (C:=Tryz.checked) (s:=Rows.OpenSpec.upto Rows.shopKeepsSpec) (k:=Rows.uptoSmall) rfl false ⟨#[],#[.agg #[.slice none 0 0,.int .i64 0,.int .i64 0],.slice none 0 0,.slice none 0 0],[]⟩ 8 (by kernel_rfl) (by kernel_rfl) (by kernel_rfl)
   (x:=([.agg [.nil,.lit (.int .i64 0),.lit (.int .i64 0)],.nil,.nil],[],[])) (by kernel_rfl) rfl (by kernel_rfl)) ?_
 intro W base args ds gs before hval hW _ hk _
 exact contract H enc W base args ds gs before hval hW hk
theorem proved:Rows.ShopKeepsUptoSaid :=
 OpenClaim.holds_of_cond 3 Tryz.f3 rfl rfl rfl rfl rfl rfl rfl ⟨rfl,rfl,rfl,rfl,rfl⟩ rfl rfl rfl rfl rfl (by kernel_rfl) Tryz.func3 (by kernel_rfl)
  (of_decide_eq_true (by kernel_rfl)) (by unfold Func.isWrapper;first | (rw [if_pos (by decide +kernel)];kernel_rfl) | (rw [if_neg (by decide +kernel)];exact ⟨rfl,rfl⟩))
  (fun os started H enc _ F=>lifted os started H enc F)
#print axioms proved
end Go.Proofs.YtnlmagdmmjkklaaGreat.shopKeepsLaw
