/-
  Part 6 of the proof of shopLaysLaw.proved: the code computes these functions, and the law holds of them, with no condition beyond the statement's own; put together by a program of ours (wip/decl.py) out of texts of ours.
-/
import Derived.Test.YtnlmagdmmjkklaaGreatZShopLays5
set_option linter.unusedVariables false
set_option linter.unusedSimpArgs false
namespace Go.Proofs.YtnlmagdmmjkklaaGreat
noncomputable section
def noH:Shop:=⟨⟨[],0,0⟩,[],noS,noD,0,0,0,0,0,[],false⟩
def ofM (n:Net) (items:List (List Item)) (b:List UInt8):State × Int:=(fM n items b).getD (noS,12)
def dF (n:Net) (items:List (List Item)) (S:List (List UInt8)) (sl:Nat) (st:State × Nat):State × Nat :=
 match cW S sl with
 | none=>st
 | some x=>if x.2<=st.2 then st else if (ofM n items x.1).2=0 then ((ofM n items x.1).1,x.2) else st
def cB (n:Net) (items:List (List Item)) (S:List (List UInt8)):State × Nat:=dF n items S 1 (dF n items S 0 (bh n items,0))
def bP (n:Net) (items:List (List Item)) (s:State) (l:List Choice):State × Int:=if 500<s.Choices.length+l.length then (noS,2) else (repM n items (muN n items s+1) s l).getD (noS,0)
def doP (h:Shop) (k a:Int):Shop × Int :=
 if h.Down=true then
  if k≠6 then (noH,13)
  else
   let q:=cB h.N h.Items h.D.Sectors
   let l:=bc (q.2:Int) (h.D.Sectors.drop 120)
   if d5 h.N l.1≠0 then (noH,d5 h.N l.1)
   else
    let r:=bP h.N h.Items q.1 l.1
    if r.2≠0 then (noH,r.2) else ({ h with S:=r.1,Logged:=r.1.Choices.length,Safe:=r.1.Choices.length,Epoch:=(q.2:Int),Next:=(l.2:Int),Down:=false },0)
 else if k=1 then
  if bi h.N h.Items h.S=[] then (noH,10) else ({ h with S:=doMv h.N h.Items h.S (e7 (bi h.N h.Items h.S) a) },0)
 else if k=2 then
  if 0<=h.Laid then (noH,10)
  else
   let r:=cv h.Epoch.toNat h.D.Sectors (h.S.Choices.drop h.Logged.toNat).length h.Next.toNat (h.S.Choices.drop h.Logged.toNat) h.D.Wait
   if r.2.2≠0 then (noH,r.2.2) else ({ h with D:=r.1,Next:=r.2.1,Logged:=h.S.Choices.length },0)
 else if k=3 then
  if 0<=h.Laid then ({ h with D:=⟨aW h.D.Sectors h.D.Wait,[]⟩,Epoch:=h.Epoch+1,Next:=0,Logged:=h.Laid,Safe:=h.Laid,Laid := -1 },0)
  else ({ h with D:=⟨aW h.D.Sectors h.D.Wait,[]⟩,Safe:=h.Logged },0)
 else if k=4 then
  let r:=dZ h.Told h.S.Out h.Safe
  if r.2≠0 then (noH,r.2) else ({ h with Told:=h.Told++r.1 },0)
 else if k=5 then
  if a<0∨h.D.Wait.length<a then (noH,3)
  else ({ h with D:=⟨aW h.D.Sectors (h.D.Wait.take a.toNat),[]⟩,S:=bh h.N h.Items,Logged:=0,Safe:=0,Epoch:=0,Laid := -1,Next:=0,Down:=true },0)
 else if k=7 then
  if 0<=h.Laid then (noH,10)
  else if h.Epoch=200 then (noH,8)
  else if 60<=((aZ h.S).length+49) / 50∨300<h.D.Wait.length+(((aZ h.S).length+49) / 50+1) then (noH,8)
  else ({ h with D:=⟨h.D.Sectors,h.D.Wait++di h.Epoch.toNat (aZ h.S)⟩,Laid:=h.S.Choices.length },0)
 else (noH,13)
section
variable (n:Net) (items:List (List Item))
def PB (b:List UInt8):Prop:=∃ s,Inv n items s/\KV s/\b=aZ s/\b.length<=3000
structure JS (E:Nat) (h:Shop):Prop where
 N:h.N=n
 I:h.Items=items
 inv:Inv n items h.S
 kv:KV h.S
 e2:E<=200
 okD:bD h.D
 held:Held (PB n items) E h.D.Sectors
 wait:Waits (PB n items) E (decide (0<=h.Laid)) h.D.Wait
 ep:h.Down=false->h.Epoch=(E:Int)
 down:h.Down=true->h.D.Wait=[]/\h.Epoch=0/\h.S=bh n items/\h.Laid = -1
 laid : -1<=h.Laid/\h.Laid<=h.S.Choices.length
 log:0<=h.Safe/\h.Safe<=h.Logged/\h.Logged<=h.S.Choices.length
 next:0<=h.Next/\h.Next<=80
 told:h.Told.length<=2000
structure SrcQ:Prop where
 S:RightS n items
 src:cj n items=0
 io:∀ x∈n.Nodes,x.In.length<=1099511627776/\x.Out.length<=1099511627776
 g:gL (gL dc) items
end
theorem Waits.low {P:List UInt8->Prop} {E:Nat} {q:Bool} {W:List Write} (h:Waits P E q W) (hq:q=false):∀ w,w∈W->logW E w:=by
 cases h with
 | log hw=>exact hw
 | slot hw hP hE hb=>cases hq
theorem Waits.e {P:List UInt8->Prop} {E:Nat} {q:Bool} {W:List Write} (h:Waits P E q W) (hq:q=true):E+1<=200:=by
 cases h with
 | log hw=>cases hq
 | slot hw hP hE hb=>exact hE
theorem yH (ep:Nat) (S:List (List UInt8)):∀ (n a:Nat) (l:List Choice) (w:List Write),a<=80->bD ⟨S,w⟩->(cv ep S n a l w).2.2=0->bD (cv ep S n a l w).1
 | 0,a,l,w,ha,hd,_=>hd
 | n+1,a,l,w,ha,hd,he=>by
  unfold cv at he ⊢;by_cases hl0:l=[]
  ·rw [if_pos hl0];exact hd
  rw [if_neg hl0] at he ⊢;by_cases hc:(dD (l.take 29)).2≠0
  ·rw [if_pos hc] at he;exact absurd he hc
  rw [if_neg hc] at he ⊢;by_cases h80:a=80
  ·rw [if_pos h80] at he;exact absurd he (by decide)
  rw [if_neg h80] at he ⊢;by_cases h300:w.length=300
  ·rw [if_pos h300] at he;exact absurd he (by decide)
  rw [if_neg h300] at he ⊢;have hcl:=wS (l.take 29) (by rw [KR];omega);refine yH ep S n (a+1) (l.drop 29) _ (by omega) (zy hd ⟨?_,?_,?_⟩ (by have:=hd.2.1;simp only at this;omega)) he
  ·show (0:Int)<=((120+a:Nat):Int);omega
  ·show ((120+a:Nat):Int)<200;omega
  ·show (frm _).length<=64;rw [nA,KH];omega
theorem AJ {d:Disk} (h:bD d) (k:Nat):bD ⟨aW d.Sectors (d.Wait.take k),[]⟩:=by obtain ⟨h1,h2,h3,h4⟩:=h;obtain ⟨q1,q2⟩:=As (d.Wait.take k) d.Sectors (fun w hw=>h4 w (KG hw)) h1 h3;exact ⟨q1,by show 0<=300;omega,q2,fun w hw=>by cases hw⟩
theorem zm (ep:Int):∀ S:List (List UInt8),(bc ep S).2<=S.length
 | []=>by simp [bc]
 | s::S=>by
  have:=zm ep S;unfold bc;split
  ·simp
  ·simp only [KH];omega
theorem xg {t l:List Item} {s:Int} (ht:t.length<=2000) (hl:l.length<=2000):(t++(dZ t l s).1).length<=2000:=by
 have hf:=tP l s;rw [Kv];unfold dZ;split
 ·simpa using ht
 split
 ·simpa using ht
 split
 ·simpa using ht
 split
 ·simpa using ht
 ·simp only [KE,KX,KR];omega
section
variable {n:Net} {items:List (List Item)} {E:Nat} {h:Shop}
theorem doP_1 (hd:h.Down=false) (a:Int):doP h 1 a=if bi h.N h.Items h.S=[] then (noH,10) else ({ h with S:=doMv h.N h.Items h.S (e7 (bi h.N h.Items h.S) a) },0):=by unfold doP;rw [if_neg (show ¬ h.Down=true by rw [hd];decide),if_pos rfl]
theorem doP_2 (hd:h.Down=false) (a:Int):doP h 2 a=if 0<=h.Laid then (noH,10) else if (cv h.Epoch.toNat h.D.Sectors (h.S.Choices.drop h.Logged.toNat).length h.Next.toNat (h.S.Choices.drop h.Logged.toNat) h.D.Wait).2.2≠0 then (noH,(cv h.Epoch.toNat h.D.Sectors (h.S.Choices.drop h.Logged.toNat).length h.Next.toNat (h.S.Choices.drop h.Logged.toNat) h.D.Wait).2.2) else ({ h with D:=(cv h.Epoch.toNat h.D.Sectors (h.S.Choices.drop h.Logged.toNat).length h.Next.toNat (h.S.Choices.drop h.Logged.toNat) h.D.Wait).1,Next:=(cv h.Epoch.toNat h.D.Sectors (h.S.Choices.drop h.Logged.toNat).length h.Next.toNat (h.S.Choices.drop h.Logged.toNat) h.D.Wait).2.1,Logged:=h.S.Choices.length },0):=by unfold doP;rw [if_neg (show ¬ h.Down=true by rw [hd];decide),if_neg (show ¬ (2:Int)=1 by decide),if_pos rfl]
theorem doP_3 (hd:h.Down=false) (a:Int):doP h 3 a=if 0<=h.Laid then ({ h with D:=⟨aW h.D.Sectors h.D.Wait,[]⟩,Epoch:=h.Epoch+1,Next:=0,Logged:=h.Laid,Safe:=h.Laid,Laid := -1 },0) else ({ h with D:=⟨aW h.D.Sectors h.D.Wait,[]⟩,Safe:=h.Logged },0):=by unfold doP;rw [if_neg (show ¬ h.Down=true by rw [hd];decide),if_neg (show ¬ (3:Int)=1 by decide),if_neg (show ¬ (3:Int)=2 by decide),if_pos rfl]
theorem doP_4 (hd:h.Down=false) (a:Int):doP h 4 a=if (dZ h.Told h.S.Out h.Safe).2≠0 then (noH,(dZ h.Told h.S.Out h.Safe).2) else ({ h with Told:=h.Told++(dZ h.Told h.S.Out h.Safe).1 },0):=by unfold doP;rw [if_neg (show ¬ h.Down=true by rw [hd];decide),if_neg (show ¬ (4:Int)=1 by decide),if_neg (show ¬ (4:Int)=2 by decide),if_neg (show ¬ (4:Int)=3 by decide),if_pos rfl]
theorem doP_5 (hd:h.Down=false) (a:Int):doP h 5 a=if a<0∨h.D.Wait.length<a then (noH,3) else ({ h with D:=⟨aW h.D.Sectors (h.D.Wait.take a.toNat),[]⟩,S:=bh h.N h.Items,Logged:=0,Safe:=0,Epoch:=0,Laid := -1,Next:=0,Down:=true },0):=by unfold doP;rw [if_neg (show ¬ h.Down=true by rw [hd];decide),if_neg (show ¬ (5:Int)=1 by decide),if_neg (show ¬ (5:Int)=2 by decide),if_neg (show ¬ (5:Int)=3 by decide),if_neg (show ¬ (5:Int)=4 by decide),if_pos rfl]
theorem doP_7 (hd:h.Down=false) (a:Int):doP h 7 a=if 0<=h.Laid then (noH,10) else if h.Epoch=200 then (noH,8) else if 60<=((aZ h.S).length+49) / 50∨300<h.D.Wait.length+(((aZ h.S).length+49) / 50+1) then (noH,8) else ({ h with D:=⟨h.D.Sectors,h.D.Wait++di h.Epoch.toNat (aZ h.S)⟩,Laid:=h.S.Choices.length },0):=by unfold doP;rw [if_neg (show ¬ h.Down=true by rw [hd];decide),if_neg (show ¬ (7:Int)=1 by decide),if_neg (show ¬ (7:Int)=2 by decide),if_neg (show ¬ (7:Int)=3 by decide),if_neg (show ¬ (7:Int)=4 by decide),if_neg (show ¬ (7:Int)=5 by decide),if_pos rfl]
theorem gw (hd:h.Down=true) (k a:Int):doP h k a=if k≠6 then (noH,13) else if d5 h.N (bc ((cB h.N h.Items h.D.Sectors).2:Int) (h.D.Sectors.drop 120)).1≠0 then (noH,d5 h.N (bc ((cB h.N h.Items h.D.Sectors).2:Int) (h.D.Sectors.drop 120)).1)
  else if (bP h.N h.Items (cB h.N h.Items h.D.Sectors).1 (bc ((cB h.N h.Items h.D.Sectors).2:Int) (h.D.Sectors.drop 120)).1).2≠0 then (noH,(bP h.N h.Items (cB h.N h.Items h.D.Sectors).1 (bc ((cB h.N h.Items h.D.Sectors).2:Int) (h.D.Sectors.drop 120)).1).2)
  else ({ h with S:=(bP h.N h.Items (cB h.N h.Items h.D.Sectors).1 (bc ((cB h.N h.Items h.D.Sectors).2:Int) (h.D.Sectors.drop 120)).1).1,Logged:=(bP h.N h.Items (cB h.N h.Items h.D.Sectors).1 (bc ((cB h.N h.Items h.D.Sectors).2:Int) (h.D.Sectors.drop 120)).1).1.Choices.length,Safe:=(bP h.N h.Items (cB h.N h.Items h.D.Sectors).1 (bc ((cB h.N h.Items h.D.Sectors).2:Int) (h.D.Sectors.drop 120)).1).1.Choices.length,Epoch:=((cB h.N h.Items h.D.Sectors).2:Int),Next:=((bc ((cB h.N h.Items h.D.Sectors).2:Int) (h.D.Sectors.drop 120)).2:Int),Down:=false },0):=by
 unfold doP;rw [if_pos hd]
theorem AA (hd:h.Down=false) {k:Int} (a:Int) (hk:k≠1/\k≠2/\k≠3/\k≠4/\k≠5/\k≠7):doP h k a=(noH,13):=by unfold doP;rw [if_neg (show ¬ h.Down=true by rw [hd];decide),if_neg hk.1,if_neg hk.2.1,if_neg hk.2.2.1,if_neg hk.2.2.2.1,if_neg hk.2.2.2.2.1,if_neg hk.2.2.2.2.2]
theorem xr (hS:RightS n items):JS n items 0 ⟨n,items,bh n items,noD,0,0,0, -1,0,[],false⟩ where
 N:=rfl
 I:=rfl
 inv:=ru hS
 kv:=rM n items
 e2:=by omega
 okD:=Ij
 held:=Gg
 wait:=.log fun w hw=>by cases hw
 ep:=fun _=>rfl
 down:=fun h=>by cases h
 laid:=⟨by show (-1:Int) <= -1;omega,by show (-1:Int)<=_;omega⟩
 log:=⟨Lg _,Lg _,by show (0:Int)<=_;omega⟩
 next:=⟨Lg _,by show (0:Int)<=80;omega⟩
 told:=by show 0<=2000;omega
theorem Inv.ch {s:State} (hI:Inv n items s):s.Choices.length<=500/\s.Out.length<=2000:=by obtain ⟨B,ok,_⟩:=hI;exact ⟨ok.ch,ok.out⟩
theorem JS.go (q:SrcQ n items) (j:JS n items E h) (hd:h.Down=false) {m:Move} (hm:m∈bi n items h.S):JS n items E { h with S:=doMv n items h.S m }:=by
 have hch:=Bt hm;have hle:(h.S.Choices.length:Int)<=((doMv n items h.S m).Choices.length:Int):=by
  rw [hch];split
  ·rw [Kv];omega
  ·omega
 exact ⟨j.N,j.I,(j.inv.doMv q.S hm).1,kv_do q.g j.kv _ _,j.e2,j.okD,j.held,j.wait,j.ep,fun h0=>(by rw [show h.Down=true from h0] at hd;cases hd),⟨j.laid.1,Int.le_trans j.laid.2 hle⟩,⟨j.log.1,j.log.2.1,Int.le_trans j.log.2.2 hle⟩,j.next,j.told⟩
theorem JS.write (j:JS n items E h) (hd:h.Down=false) (hl:¬ 0<=h.Laid)
  (h0:(cv h.Epoch.toNat h.D.Sectors (h.S.Choices.drop h.Logged.toNat).length h.Next.toNat (h.S.Choices.drop h.Logged.toNat) h.D.Wait).2.2=0) :
  ∃ cs:List (List Choice),cv h.Epoch.toNat h.D.Sectors (h.S.Choices.drop h.Logged.toNat).length h.Next.toNat (h.S.Choices.drop h.Logged.toNat) h.D.Wait=(⟨h.D.Sectors,h.D.Wait++wr E h.Next.toNat cs⟩,((h.Next.toNat+cs.length:Nat):Int),0) /\
   h.S.Choices.drop h.Logged.toNat=cs.flatten/\(∀ c,c∈cs->goodR c)/\h.Next.toNat+cs.length<=80 /\
   JS n items E { h with D:=⟨h.D.Sectors,h.D.Wait++wr E h.Next.toNat cs⟩,Next:=((h.Next.toNat+cs.length:Nat):Int),Logged:=h.S.Choices.length }:=by
 have hep:=j.ep hd
 have hE:h.Epoch.toNat=E:=by omega
 rw [hE] at h0 ⊢
 have hn:=j.next
 obtain ⟨cs,h1,h2,h3,h4⟩:=zQ E h.D.Sectors _ h.Next.toNat _ h.D.Wait (Kx _) (by omega) h0
 have hok:=yH E h.D.Sectors _ h.Next.toNat _ h.D.Wait (by omega) j.okD h0
 rw [h1] at hok
 refine ⟨cs,h1,h2,h3,h4,⟨j.N,j.I,j.inv,j.kv,j.e2,hok,j.held,?_,j.ep,fun hx=>(by rw [show h.Down=true from hx] at hd;cases hd),j.laid,⟨j.log.1,by show h.Safe<=(h.S.Choices.length:Int);have:=j.log;omega,by show (h.S.Choices.length:Int)<=_;exact Lg _⟩,⟨by show (0:Int)<=((h.Next.toNat+cs.length:Nat):Int);omega,by show ((h.Next.toNat+cs.length:Nat):Int)<=80;omega⟩,j.told⟩⟩
 have hq:decide (0<=h.Laid)=false:=by simpa using hl
 have hw:=j.wait.low hq
 show Waits _ E (decide (0<=h.Laid)) _
 rw [hq]
 refine .log fun w hw'=>?_
 rcases KJ.1 hw' with hw' | hw'
 ·exact hw w hw'
 ·exact Br E j.e2 _ cs h4 h3 w hw'
theorem JS.flush (j:JS n items E h) (hd:h.Down=false) (a:Int):JS n items (if 0<=h.Laid then E+1 else E) (doP h 3 a).1:=by
 have hdd:¬ h.Down=true:=by rw [hd];decide
 have hf:=j.held.flush j.wait;have hokd:bD ⟨aW h.D.Sectors h.D.Wait,[]⟩:=by have:=AJ j.okD h.D.Wait.length;rwa [Lx] at this
 rw [doP_3 hd];by_cases hl:0<=h.Laid
 ·rw [if_pos hl,if_pos hl];rw [if_pos (by simpa using hl)] at hf;exact ⟨j.N,j.I,j.inv,j.kv,j.wait.e (by simpa using hl),hokd,hf,.log fun w hw=>(by cases hw),fun _=>(by show h.Epoch+1=((E+1:Nat):Int);rw [j.ep hd];omega),fun hx=>absurd hx hdd,⟨Lg _,by show (-1:Int)<=_;omega⟩,⟨hl,Lg _,j.laid.2⟩,⟨Lg _,by show (0:Int)<=80;omega⟩,j.told⟩
 ·rw [if_neg hl,if_neg hl];have hq:decide (0<=h.Laid)=false:=by simpa using hl
  rw [hq] at hf;exact ⟨j.N,j.I,j.inv,j.kv,j.e2,hokd,hf,(by show Waits _ E (decide (0<=h.Laid)) [];rw [hq];exact .log fun w hw=>(by cases hw)),j.ep,fun hx=>absurd hx hdd,j.laid,⟨by show 0<=h.Logged;have:=j.log;omega,Lg _,j.log.2.2⟩,j.next,j.told⟩
theorem JS.tell (j:JS n items E h):JS n items E { h with Told:=h.Told++(dZ h.Told h.S.Out h.Safe).1 } :=
 ⟨j.N,j.I,j.inv,j.kv,j.e2,j.okD,j.held,j.wait,j.ep,j.down,j.laid,j.log,j.next,xg j.told j.inv.ch.2⟩
theorem JS.cut (q:SrcQ n items) (j:JS n items E h) (k:Nat) :
  ∃ E',(E'=E∨(E'=E+1/\0<=h.Laid/\h.D.Wait.length<=k))/\JS n items E' { h with D:=⟨aW h.D.Sectors (h.D.Wait.take k),[]⟩,S:=bh h.N h.Items,Logged:=0,Safe:=0,Epoch:=0,Laid := -1,Next:=0,Down:=true }:=by
 have key:∀ E',E'<=200->Held (PB n items) E' (aW h.D.Sectors (h.D.Wait.take k))->JS n items E' { h with D:=⟨aW h.D.Sectors (h.D.Wait.take k),[]⟩,S:=bh h.N h.Items,Logged:=0,Safe:=0,Epoch:=0,Laid := -1,Next:=0,Down:=true }:=fun E' h2 hh=>by
  have e:bh h.N h.Items=bh n items:=by rw [j.N,j.I]
  rw [e];exact ⟨j.N,j.I,ru q.S,rM n items,h2,AJ j.okD k,hh,.log fun w hw=>(by cases hw),fun hx=>(by cases hx),fun _=>⟨rfl,rfl,rfl,rfl⟩,⟨Lg _,by show (-1:Int)<=_;omega⟩,⟨Lg _,Lg _,by show (0:Int)<=_;omega⟩,⟨Lg _,by show (0:Int)<=80;omega⟩,j.told⟩
 rcases j.held.cut j.wait k with hh | ⟨hq,hl,hh⟩
 ·exact ⟨E,.inl rfl,key E j.e2 hh⟩
 ·exact ⟨E+1,.inr ⟨rfl,by simpa using hq,hl⟩,key (E+1) (j.wait.e hq) hh⟩
theorem JS.lay (j:JS n items E h) (hd:h.Down=false) (hl:¬ 0<=h.Laid) (h200:h.Epoch≠200) (hb:¬ (60<=((aZ h.S).length+49) / 50∨300<h.D.Wait.length+(((aZ h.S).length+49) / 50+1))) :
  JS n items E { h with D:=⟨h.D.Sectors,h.D.Wait++di E (aZ h.S)⟩,Laid:=h.S.Choices.length }:=by
 have hep:=j.ep hd
 have he2:=j.e2
 have hq:decide (0<=h.Laid)=false:=by simpa using hl
 have hw:=j.wait.low hq
 have hsl:=xN E (aZ h.S)
 refine ⟨j.N,j.I,j.inv,j.kv,j.e2,⟨j.okD.1,?_,j.okD.2.2.1,fun w hw'=>?_⟩,j.held,?_,j.ep,fun hx=>(by rw [show h.Down=true from hx] at hd;cases hd),⟨by show (-1:Int)<=(h.S.Choices.length:Int);omega,Lg _⟩,j.log,j.next,j.told⟩
 ·show (h.D.Wait++di E (aZ h.S)).length<=300
  rw [Kv];omega
 ·rcases KJ.1 hw' with hw' | hw'
  ·exact (hw w hw').1
  ·exact pJ (by omega) w hw'
 ·show Waits _ E (decide (0<=(h.S.Choices.length:Int))) _
  have:decide (0<=(h.S.Choices.length:Int))=true:=by simp
  rw [this]
  exact .slot hw ⟨h.S,j.inv,j.kv,rfl,by omega⟩ (by omega) (by omega)
theorem Gn (q:SrcQ n items) {s:State} (hI:Inv n items s) (hk:KV s) (hb:(aZ s).length<=3000):fM n items (aZ s)=some (s,0):=by have hs:=kv_s q.S hI hk;obtain ⟨B,ok,_⟩:=hI;refine Of_eq n items s hs (by unfold BB;omega) (by rw [q4 n items q.io,q.src]) ?_;rw [pD n items s q.io (zt hs).a6,sm q.src ok]
theorem ut (q:SrcQ n items) {S:List (List UInt8)} (hh:Held (PB n items) E S):∃ s,cB n items S=(s,E)/\Inv n items s/\KV s/\(E=0->s=bh n items)/\(E≠0->cW S (E % 2)=some (aZ s,E)/\(aZ s).length<=3000):=by
 have low:∀ sl st,sl<=1->(sl=E % 2->E=0)->st.2<=E->(dF n items S sl st).2<E∨dF n items S sl st=st:=fun sl st hs hne hst=>by
  unfold dF;cases hx:cW S sl with
  | none=>exact .inr rfl
  | some x =>
   simp only;by_cases h1:x.2<=st.2
   ·rw [if_pos h1];exact .inr rfl
   ·rw [if_neg h1];rcases hh.other hs hx with e | e | ⟨e1,e2⟩
    ·omega
    ·by_cases h2:(ofM n items x.1).2=0
     ·rw [if_pos h2];exact .inl e
     ·rw [if_neg h2];exact .inr rfl
    ·have:=hne e1;omega
 by_cases h0:E=0
 ·subst h0;refine ⟨bh n items,?_,ru q.S,rM n items,fun _=>rfl,fun h=>absurd rfl h⟩;unfold cB;have a0:dF n items S 0 (bh n items,0)=(bh n items,0):=by
   rcases low 0 (bh n items,0) (by omega) (fun _=>rfl) (Kx _) with h | h
   ·omega
   ·exact h
  have a1:dF n items S 1 (bh n items,0)=(bh n items,0):=by
   rcases low 1 (bh n items,0) (by omega) (fun _=>rfl) (Kx _) with h | h
   ·omega
   ·exact h
  rw [a0,a1]
 ·obtain ⟨b,⟨s,hI,hk,rfl,hb⟩,hg⟩:=hh.own h0;have hof:=Gn q hI hk hb;have hof':ofM n items (aZ s)=(s,0):=by unfold ofM;rw [hof];rfl
  have own:∀ st:State × Nat,st.2<E->dF n items S (E % 2) st=(s,E):=fun st hst=>by unfold dF;rw [hg];simp only;rw [if_neg (by omega),hof',if_pos rfl]
  refine ⟨s,?_,hI,hk,fun h=>absurd h h0,fun _=>⟨hg,hb⟩⟩;unfold cB;rcases Nat.mod_two_eq_zero_or_one E with e | e
  ·have h1:=own (bh n items,0) (by show 0<E;omega);rw [e] at h1;rw [h1];rcases low 1 (s,E) (by omega) (fun h=>by omega) (Kx _) with h | h
   ·exfalso;unfold dF at h;cases hx:cW S 1 with
    | none=>rw [hx] at h;simp at h
    | some x =>
     rw [hx] at h;simp only at h;by_cases h2:x.2<=E
     ·rw [if_pos h2] at h;simp at h
     ·rcases hh.other (by omega) hx with e' | e' | ⟨e',_⟩<;>omega
   ·exact h
  ·have h1:=low 0 (bh n items,0) (by omega) (fun h=>by omega) (by show 0<=E;omega);have h2:(dF n items S 0 (bh n items,0)).2<E:=by
    rcases h1 with h1 | h1
    ·exact h1
    ·rw [h1];show 0<E;omega
   have h3:=own _ h2;rw [e] at h3;exact h3
theorem H6 (q:SrcQ n items) {s:State} (hI:Inv n items s) (hk:KV s) (l:List Choice):((bP n items s l).2=0->Inv n items (bP n items s l).1/\KV (bP n items s l).1/\(bP n items s l).1.Choices=s.Choices++l)/\((bP n items s l).2≠0->(bP n items s l).1=noS):=by
 unfold bP;by_cases h5:500<s.Choices.length+l.length
 ·rw [if_pos h5];exact ⟨fun h=>absurd h (by decide),fun _=>rfl⟩
 rw [if_neg h5];obtain ⟨r,e1,e2,e3⟩:=uD q.S q.g (muN n items s+1) s l hI hk (by omega);rw [e1];exact ⟨e2,fun h=>by rw [show (some r).getD (noS,0)=r from rfl,e3 h]⟩
theorem JS.up (q:SrcQ n items) (j:JS n items E h) (hd:h.Down=true) {a:Int} (h0:(doP h 6 a).2=0) :
  ∃ s t,cB n items h.D.Sectors=(s,E)/\Inv n items s/\KV s/\bP n items s (bc (E:Int) (h.D.Sectors.drop 120)).1=(t,0)/\d5 n (bc (E:Int) (h.D.Sectors.drop 120)).1=0/\t.Choices=s.Choices++(bc (E:Int) (h.D.Sectors.drop 120)).1 /\
   doP h 6 a=({ h with S:=t,Logged:=t.Choices.length,Safe:=t.Choices.length,Epoch:=(E:Int),Next:=((bc (E:Int) (h.D.Sectors.drop 120)).2:Int),Down:=false },0)/\JS n items E (doP h 6 a).1:=by
 obtain ⟨s,hn,hI,hk,_⟩:=ut q j.held
 have eN:=j.N
 have eI:=j.I
 subst eN
 subst eI
 rw [gw hd,if_neg (show ¬ (6:Int)≠6 by decide),hn] at h0 ⊢
 simp only at h0 ⊢
 by_cases h1:d5 h.N (bc (E:Int) (h.D.Sectors.drop 120)).1=0
 ·rw [if_neg (by simpa using h1)] at h0 ⊢
  by_cases h2:(bP h.N h.Items s (bc (E:Int) (h.D.Sectors.drop 120)).1).2=0
  ·rw [if_neg (by simpa using h2)]
   obtain ⟨g1,g2,g3⟩:=(H6 q hI hk (bc (E:Int) (h.D.Sectors.drop 120)).1).1 h2
   have hsc:=zm (E:Int) (h.D.Sectors.drop 120)
   have hl:=j.okD.1
   have hdn:=j.down hd
   rw [KX] at hsc
   refine ⟨s,(bP h.N h.Items s (bc (E:Int) (h.D.Sectors.drop 120)).1).1,rfl,hI,hk,Prod.ext rfl h2,h1,g3,rfl,?_⟩
   exact ⟨rfl,rfl,g1,g2,j.e2,j.okD,j.held,j.wait,fun _=>rfl,fun hx=>(by cases hx),⟨j.laid.1,by show h.Laid<=_;rw [hdn.2.2.2];omega⟩,⟨by show (0:Int)<=((_:Nat):Int);omega,Lg _,Lg _⟩,⟨by show (0:Int)<=((_:Nat):Int);omega,by show (((bc (E:Int) (h.D.Sectors.drop 120)).2:Nat):Int)<=80;omega⟩,j.told⟩
  ·rw [if_pos h2] at h0;exact absurd h0 h2
 ·rw [if_pos h1] at h0;exact absurd h0 h1
theorem Hv {l:List Move} (h:l≠[]) (a:Int):e7 l a∈l:=(zC h a).1
theorem JS.do (q:SrcQ n items) (j:JS n items E h) (k a:Int) (h0:(doP h k a).2=0):∃ E',JS n items E' (doP h k a).1:=by
 by_cases hd:h.Down=true
 ·by_cases h6:k=6
  ·subst h6;obtain ⟨_,_,_,_,_,_,_,_,_,hj⟩:=j.up q hd h0;exact ⟨E,hj⟩
  ·exfalso;rw [gw hd,if_pos h6] at h0;exact absurd h0 (by decide)
 have hdf:h.Down=false:=by simpa using hd
 by_cases h1:k=1
 ·subst h1;rw [doP_1 hdf] at h0 ⊢;by_cases hr:bi h.N h.Items h.S=[]
  ·rw [if_pos hr] at h0;exact absurd h0 (by decide)
  ·rw [if_neg hr];have eN:=j.N;have eI:=j.I;subst eN;subst eI;exact ⟨E,j.go q hdf (Hv hr a)⟩
 by_cases h2:k=2
 ·subst h2;rw [doP_2 hdf] at h0 ⊢;by_cases hl:0<=h.Laid
  ·rw [if_pos hl] at h0;exact absurd h0 (by decide)
  rw [if_neg hl] at h0 ⊢;by_cases he:(cv h.Epoch.toNat h.D.Sectors (h.S.Choices.drop h.Logged.toNat).length h.Next.toNat (h.S.Choices.drop h.Logged.toNat) h.D.Wait).2.2=0
  ·obtain ⟨cs,e1,_,_,_,hj⟩:=j.write hdf hl he;rw [if_neg (by simpa using he),e1];exact ⟨E,hj⟩
  ·rw [if_pos he] at h0;exact absurd h0 he
 by_cases h3:k=3
 ·subst h3;exact ⟨_,j.flush hdf a⟩
 by_cases h4:k=4
 ·subst h4;rw [doP_4 hdf] at h0 ⊢;by_cases he:(dZ h.Told h.S.Out h.Safe).2=0
  ·rw [if_neg (by simpa using he)];exact ⟨E,j.tell⟩
  ·rw [if_pos he] at h0;exact absurd h0 he
 by_cases h5:k=5
 ·subst h5;rw [doP_5 hdf] at h0 ⊢;by_cases hc:a<0∨h.D.Wait.length<a
  ·rw [if_pos hc] at h0;exact absurd h0 (by decide)
  ·rw [if_neg hc];obtain ⟨E',_,hj⟩:=j.cut q a.toNat;exact ⟨E',hj⟩
 by_cases h7:k=7
 ·subst h7;rw [doP_7 hdf] at h0 ⊢;by_cases hl:0<=h.Laid
  ·rw [if_pos hl] at h0;exact absurd h0 (by decide)
  rw [if_neg hl] at h0 ⊢;by_cases h200:h.Epoch=200
  ·rw [if_pos h200] at h0;exact absurd h0 (by decide)
  rw [if_neg h200] at h0 ⊢;by_cases hb:60<=((aZ h.S).length+49) / 50∨300<h.D.Wait.length+(((aZ h.S).length+49) / 50+1)
  ·rw [if_pos hb] at h0;exact absurd h0 (by decide)
  rw [if_neg hb];have hE:h.Epoch.toNat=E:=by have:=j.ep hdf;omega
  rw [hE];exact ⟨E,j.lay hdf hl h200 hb⟩
 ·exfalso;rw [AA hdf a ⟨h1,h2,h3,h4,h5,h7⟩] at h0;exact absurd h0 (by decide)
end
end
section
section
variable {n:Net} {items:List (List Item)} {forced:List Choice} {B:Int} {s:State}
section
variable (hio:∀ x∈n.Nodes,x.In.length≤1099511627776∧x.Out.length≤1099511627776) (hsrc:cj n items=0) (hC:RightC n forced)
include hio hsrc
theorem zp (ok:OkS n items B s):iF n items s=some (bi n items s,0):=by
 have hS:=jR hsrc;rw [GL n items s hio (fun l hl=>by obtain ⟨r,hr⟩:=KI hl;have:=ok.room r l hr;have:=hS.m2;omega),if_neg (by rw [sm hsrc ok];simp)]
include hC
omit hio in
end
end
end
section
theorem pM {α:Type} (l:List α) (h:l.length<=1099511627776):app ([]:List α) l=some l:=by rw [cx (by simpa using h)];rfl
section
variable {n:Net} {items:List (List Item)} {B:Int} {s:State}
end
end
theorem rF (n:Net) (items:List (List Item)) (hio:∀ x∈n.Nodes,x.In.length<=1099511627776/\x.Out.length<=1099511627776):iE n items=some (if cj n items≠0 then (noS,cj n items) else (bh n items,0)):=by
 unfold iE;rw [q4 n items hio,Kr];by_cases h:cj n items=0
 ·rw [if_neg (show ¬ (cj n items != 0)=true by simp [h]),if_neg (show ¬ cj n items≠0 by simp [h]),GR (jR h) hio,Kr]
 ·rw [if_pos (show (cj n items != 0)=true by simpa using h),if_pos h];rfl
section
theorem wo {n:Net} (hN:n.Nodes.length<=1000) (hio:∀ x∈n.Nodes,x.In.length<=1099511627776/\x.Out.length<=1099511627776):∀ (m k:Nat),k+m=n.Nodes.length ->
  iter (fun ss:Int × (List Node)=>jF n n.Nodes ss.1 ss.2) ((k:Int),n.Nodes)=some n
 | 0,k,h=>by
  have e:jF n n.Nodes (k:Int) n.Nodes=some (.inr n):=by unfold jF;rw [if_neg (by simp;omega)];rfl
  rw [aG];simp only [e]
 | m+1,k,h=>by
  have hlt:k<n.Nodes.length:=by omega
  have hx:n.Nodes[k]?=some n.Nodes[k]:=Ks hlt;have hio':=hio n.Nodes[k] (K1 hlt);generalize n.Nodes[k]=x at hx hio';have hs:List.set n.Nodes k x=n.Nodes:=tV hx;have c1:jo x.In=some x.In:=pM _ hio'.1;have c2:jo x.Out=some x.Out:=pM _ hio'.2;have e:jF n n.Nodes (k:Int) n.Nodes=some (.inl (((k+1:Nat):Int),n.Nodes)):=by unfold jF;rw [if_pos (by simp;omega)];simp only [eV hlt,Kr,hx,c1,c2,hs,br (show k<4611686018427387904 by omega)]
  rw [aG];simp only [e];exact wo hN hio m (k+1) (by omega)
theorem xl {n:Net} (hN:n.Nodes.length<=1000) (hio:∀ x∈n.Nodes,x.In.length<=1099511627776/\x.Out.length<=1099511627776):nv n=some n:=by unfold nv;rw [show qT n.Nodes=some n.Nodes from pM _ (by omega),Kr];exact wo hN hio n.Nodes.length 0 (by omega)
theorem wd {l:List (List Item)} (hl:l.length<=1000) (hi:∀ x∈l,x.length<=1000):∀ (m k:Nat),k+m=l.length ->
  iter (fun ss:Int × (List (List Item))=>jk l ss.1 ss.2) ((k:Int),l.take k)=some l
 | 0,k,h=>by
  have e:jk l (k:Int) (l.take k)=some (.inr l):=by unfold jk;rw [if_neg (by simp;omega),K7 (by omega)];rfl
  rw [aG];simp only [e]
 | m+1,k,h=>by
  have hlt:k<l.length:=by omega
  have hx:l[k]?=some l[k]:=Ks hlt;have hi':=hi l[k] (K1 hlt);have hts:=Fh hx;generalize l[k]=x at hx hi' hts;have c1:eB x=some x:=pM _ (by omega);have e:jk l (k:Int) (l.take k)=some (.inl (((k+1:Nat):Int),l.take (k+1))):=by unfold jk;rw [if_pos (by simp;omega),bu hx,Kr,c1,Kr,cx (by rw [KR];simp;omega),Kr,br (by omega),hts]
  rw [aG];simp only [e];exact wd hl hi m (k+1) (by omega)
theorem wz {l:List (List Item)} (hl:l.length<=1000) (hi:∀ x∈l,x.length<=1000):oX l=some l :=
 wd hl hi l.length 0 (by omega)
section
variable {n:Net} {items:List (List Item)} {E:Nat} {h:Shop}
theorem SrcQ.l (q:SrcQ n items):n.Nodes.length<=1000/\items.length<=1000/\∀ x∈items,x.length<=1000:=by have h1:=q.S.n2;have h2:=q.S.l4;refine ⟨by omega,by omega,fun x hx=>?_⟩;obtain ⟨a,ha⟩:=KI hx;have:=q.S.l20 a x ha;omega
theorem xQ (q:SrcQ n items) {s:State} (hI:Inv n items s):SmallS s:=by obtain ⟨B,ok,_⟩:=hI;exact yl q.S ok
theorem zU (q:SrcQ n items) {s:State} (hI:Inv n items s):cr n items s=0:=by obtain ⟨B,ok,_⟩:=hI;exact sm q.src ok
theorem Gj (q:SrcQ n items) (j:JS n items E h):f9 h=some h:=by
 obtain ⟨l1,l2,l3⟩:=q.l;have hd:=j.okD;have hc:jQ h.S=some h.S:=by obtain ⟨B,ok,_⟩:=j.inv;exact Au q.S ok
 unfold f9;rw [j.N,j.I,xl l1 q.io,Kr,wz l2 l3,Kr,hc,Kr,tQ h.D.Sectors (by have:=hd.1;omega),Kr,xL h.D.Wait (by have:=hd.2.1;omega),Kr,
  show eB h.Told=some h.Told from pM _ (by have:=j.told;omega),Kr]
 have e1:=j.N;have e2:=j.I;subst e1;subst e2;rfl
theorem Hs (q:SrcQ n items) (j:JS n items E h):pk h=some 0:=by
 have hs:=xQ q j.inv;have h1:gc h.N h.Items h.S=some 0:=by rw [j.N,j.I,pD n items h.S q.io hs.a6,zU q j.inv]
 have hl:=j.laid;have hg:=j.log;have hn:=j.next;have he:=j.e2;have hep:0<=h.Epoch/\h.Epoch<=200:=by
  by_cases hd:h.Down=true
  ·rw [(j.down hd).2.1];omega
  ·rw [j.ep (by simpa using hd)];omega
 have ht:=j.told;unfold pk;rw [h1,Kr,if_neg (by decide),iK j.okD,Kr,if_neg (by decide),if_neg (by simp;omega),if_neg (by simp;omega)]
theorem If (q:SrcQ n items) {s:State} (hI:Inv n items s) (a:Int) (S:List (List UInt8)) (W:List Write) (z1 z2 z3 z4 z5:Int) (dn:Bool) (td:List Item) :
  oS a n.Nodes n.Rings n.Room items s.At s.Rings s.Memory s.Choices s.Out S W z1 z2 z3 z4 z5 dn td=some (if bi n items s=[] then (10,s.At,s.Rings,s.Memory,s.Choices,s.Out)
   else (0,(doMv n items s (e7 (bi n items s) a)).At,(doMv n items s (e7 (bi n items s) a)).Rings,(doMv n items s (e7 (bi n items s) a)).Memory,(doMv n items s (e7 (bi n items s) a)).Choices,(doMv n items s (e7 (bi n items s) a)).Out)):=by
 obtain ⟨B,ok,hB⟩:=hI
 have hrd:iF (⟨n.Nodes,n.Rings,n.Room⟩:Net) items (⟨s.At,s.Rings,s.Memory,s.Choices,s.Out⟩:State)=some (bi n items s,0):=zp q.io q.src ok
 unfold oS
 rw [hrd,Kr]
 by_cases h0:bi n items s=[]
 ·rw [if_pos (by simp [h0]),if_pos h0]
 ·obtain ⟨hmem,hix⟩:=zC h0 a
  have hpos:0<(bi n items s).length:=LU.2 h0
  have h192:=w8 (items:=items) (s:=s) q.S.toRightN
  have hrem:=Jl a (bi n items s).length hpos (by omega)
  obtain ⟨r1,hr1,hr2⟩:=bind_some hrem
  have hn:=MA a (show ((bi n items s).length:Int)≠0 by omega)
  have hget:(bi n items s)[(a % ((bi n items s).length:Int)).toNat]?=some (e7 (bi n items s) a):=df _ hix
  have hdo:iS (⟨n.Nodes,n.Rings,n.Room⟩:Net) items (⟨s.At,s.Rings,s.Memory,s.Choices,s.Out⟩:State) (e7 (bi n items s) a)=some (doMv n items s (e7 (bi n items s) a),0):=zi q.src ok hmem q.io
  have hixn:ixN (bi n items s) (a % ((bi n items s).length:Int))=some (a % ((bi n items s).length:Int)).toNat:=ixN_D hn (by omega)
  rw [if_neg (by simpa using h0),if_neg h0,hr1,Kr,hr2,Kr]
  simp only [hixn,Kr,hget,hdo]
theorem zh {α:Type} (p:α->Bool):∀ xs:List α,(xs.find? p=none/\idxI p xs = -1)∨∃ (k:Nat) (x:α),k<xs.length/\idxI p xs=(k:Int)/\xs[k]?=some x/\xs.find? p=some x
 | []=>.inl ⟨rfl,rfl⟩
 | a::xs=>by
  by_cases h:p a=true
  ·right;refine ⟨0,a,by simp,?_,rfl,by rw [List.find?_cons,h]⟩;unfold idxI;rw [Mo,if_pos h]
  ·have h':p a=false:=by simpa using h
   rcases zh p xs with ⟨h1,h2⟩ | ⟨k,x,h1,h2,h3,h4⟩
   ·left;refine ⟨by rw [List.find?_cons,h'];exact h1,?_⟩;unfold idxI at h2 ⊢;rw [Mo,if_neg h];cases hf:xs.findIdx? p with
    | none=>rfl
    | some i=>rw [hf] at h2;simp only at h2;omega
   ·right;refine ⟨k+1,x,by simp only [KH];omega,?_,by simpa using h3,by rw [List.find?_cons,h'];exact h4⟩;unfold idxI at h2 ⊢;rw [Mo,if_neg h];cases hf:xs.findIdx? p with
    | none=>rw [hf] at h2;simp only at h2;omega
    | some i=>rw [hf] at h2;simp only [Lh] at h2 ⊢;omega
theorem HM (q:SrcQ n items) {s:State} {m:Move} (hm:m∈bi n items s) (c:Choice) (l:List Choice):oD m n.Nodes n.Rings n.Room (c::l)=some (fP n c m):=by
 obtain ⟨i,k,rfl,hi,hk,hc⟩:=pm hm;unfold oD fP;rw [bu (gW hi),Kr];simp only [KW];by_cases h6:(ah n i).Kind=6
 ·rw [if_neg (by simpa using h6),show idx (c::l) 0=some c from rfl];simp only [Kr,h6,decide_true,Mu,Bool.false_or];by_cases h1:(i:Int)=c.Node
  ·rw [if_pos (by simpa using h1)];simp [h1];rfl
  ·rw [if_neg (by simpa using h1)];simp [h1]
 ·rw [if_pos (by simpa using h6)];simp [h6]
theorem D0 (q:SrcQ n items) {s:State} (c:Choice) (l:List Choice):ou (bi n items s) n.Nodes n.Rings n.Room (c::l)=some (idxI (fP n c) (bi n items s)):=by
 have h192:=w8 (items:=items) (s:=s) q.S.toRightN;unfold ou;rw [tv (bi n items s) (by omega) (fP n c) (fun k x hx hk h1 h2 h3=>by
  unfold oo;rw [h2,eV hk,h3];simp only [if_true,Kr,hx];rw [HM q (Ku hx) c l,Kr];rfl) (fun h=>by
  unfold oo;rw [h];rfl)]
theorem yi (q:SrcQ n items):∀ (f:Nat) (s:State) (l:List Choice),Inv n items s->muN n items s<f->l.length<=1000000 ->
  iter (fun ss:(List Int) × (List (List Item)) × (List Memory) × (List Choice) × (List Item) × (List Choice)=>jt n items ss.1 ss.2.1 ss.2.2.1 ss.2.2.2.1 ss.2.2.2.2.1 ss.2.2.2.2.2) (s.At,s.Rings,s.Memory,s.Choices,s.Out,l)=repM n items f s l
 | f,s,[],hI,hf,hl=>by
  have e:jt n items s.At s.Rings s.Memory s.Choices s.Out []=some (.inr (s,0)):=by unfold jt;rw [if_neg (by simp)];rfl
  rw [aG];simp only [e];cases f<;>rfl
 | 0,s,c::l,hI,hf,hl=>by omega
 | f + 1,s,c::l,hI,hf,hl=>by
  obtain ⟨B,ok,hB⟩:=id hI;have hrd:iF n items (⟨s.At,s.Rings,s.Memory,s.Choices,s.Out⟩:State)=some (bi n items s,0):=zp q.io q.src ok;rw [aG];unfold repM;have e0:jt n items s.At s.Rings s.Memory s.Choices s.Out (c::l)=match (bi n items s).find? (fP n c) with
    | none=>some (.inr (noS,11))
    | some m=>some (.inl ((doMv n items s m).At,(doMv n items s m).Rings,(doMv n items s m).Memory,(doMv n items s m).Choices,(doMv n items s m).Out,if (ah n m.Node.toNat).Kind=6 then l else c::l)):=by
   unfold jt
   rw [if_pos (by simp),hrd,Kr,D0 q,Kr]
   rcases zh (fP n c) (bi n items s) with ⟨h1,h2⟩ | ⟨k,m,h1,h2,h3,h4⟩
   ·rw [h1,h2,if_pos (by decide)];rfl
   ·have hmem:=Ku h3
    have hdo:iS n items (⟨s.At,s.Rings,s.Memory,s.Choices,s.Out⟩:State) m=some (doMv n items s m,0):=zi q.src ok hmem q.io
    have hk1:∀ z:List Choice,kF n items s.At s.Rings s.Memory s.Choices s.Out (bi n items s,0) (k:Int) z=some (.inl ((doMv n items s m).At,(doMv n items s m).Rings,(doMv n items s m).Memory,(doMv n items s m).Choices,(doMv n items s m).Out,z)):=fun z=>by unfold kF;rw [eV h1,Kr];simp only [h3,Kr,hdo]
    obtain ⟨i,k',hm,hi,hk',hc⟩:=pm hmem
    have hix:idx n.Nodes m.Node=some (ah n m.Node.toNat):=by rw [hm];exact bu (gW hi)
    have hsub:sub (c::l) 1 ((c::l).length:Int)=some l:=iQ (i:=1) (by simp)
    rw [h2,if_neg (by simp),eV h1,Kr]
    simp only [h3,h4,Kr,hix]
    by_cases h6:(ah n m.Node.toNat).Kind=6
    ·rw [if_pos (by simpa using h6),hsub,Kr,hk1,if_pos h6]
    ·rw [if_neg (by simpa using h6),hk1,if_neg h6]
  simp only [e0];cases hm:(bi n items s).find? (fP n c) with
  | none=>rfl
  | some m =>
   have hmem:=L2 hm;obtain ⟨h1,h2⟩:=hI.doMv q.S hmem;simp only;exact yi q f (doMv n items s m) _ h1 (by omega) (by split<;>simp only [KH] at hl ⊢<;>omega)
theorem Fq (q:SrcQ n items) {s:State} (hI:Inv n items s) {l:List Choice} (hl:l.length<=1000000):mU n items s l=some (bP n items s l):=by
 have h5:=hI.ch.1;unfold mU bP;rw [bw (by omega) (by omega)];by_cases h:500<s.Choices.length+l.length
 ·rw [if_pos (by simp;omega),if_pos h];rfl
 ·rw [if_neg (by simp;omega),if_neg h];have:=yi q (muN n items s+1) s l hI (by omega) hl;rw [this];cases hr:repM n items (muN n items s+1) s l with
  | none =>
   exfalso;have key:∀ (f:Nat) (s:State) (l:List Choice),Inv n items s->muN n items s<f->repM n items f s l≠none:=by
    intro f;induction f with
    | zero=>intro s l hI hf;omega
    | succ f ih =>
     intro s l hI hf;cases l with
     | nil=>intro h;cases h
     | cons c l =>
      unfold repM;cases hm:(bi n items s).find? (fP n c) with
      | none=>intro h;cases h
      | some m =>
       obtain ⟨h1,h2⟩:=hI.doMv q.S (L2 hm);exact ih _ _ h1 (by omega)
   exact key _ _ _ hI (by omega) hr
  | some r=>rfl
theorem F8 {d:Disk} (hd:bD d) {ch:List Choice} {L e x:Nat} (hL:L<=ch.length) (hc:ch.length<=500) (he:e<=200) (hx:x<=80) (a:Int) (N:List Node) (R Ro:Int) (I:List (List Item)) (At:List Int) (Rg:List (List Item)) (M:List Memory) (O:List Item) (sf la:Int) (dn:Bool) (td:List Item) :
  oQ a N R Ro I At Rg M ch O d.Sectors d.Wait (L:Int) sf (e:Int) la (x:Int) dn td=some (if 0<=la then (10,d.Sectors,d.Wait,(L:Int),(x:Int))
   else if (cv e d.Sectors (ch.drop L).length x (ch.drop L) d.Wait).2.2≠0 then ((cv e d.Sectors (ch.drop L).length x (ch.drop L) d.Wait).2.2,d.Sectors,d.Wait,(L:Int),(x:Int))
   else (0,(cv e d.Sectors (ch.drop L).length x (ch.drop L) d.Wait).1.Sectors,(cv e d.Sectors (ch.drop L).length x (ch.drop L) d.Wait).1.Wait,(ch.length:Int),(cv e d.Sectors (ch.drop L).length x (ch.drop L) d.Wait).2.1)):=by
 unfold oQ
 by_cases hl:0<=la
 ·rw [if_pos (by simpa using hl),if_pos hl]
 rw [if_neg (by simpa using hl),if_neg hl,iQ hL,Kr,show m7 (⟨d.Sectors,d.Wait⟩:Disk) (e:Int) (x:Int) (ch.drop L)=_ from E6 hd e x (ch.drop L) he hx (by rw [KX];omega),Kr]
 by_cases h0:(cv e d.Sectors (ch.drop L).length x (ch.drop L) d.Wait).2.2=0
 ·rw [if_neg (by simpa using h0),if_neg (by simpa using h0)]
 ·rw [if_pos (by simpa using h0),if_pos h0]
theorem G1 {d:Disk} (hd:bD d) {ep:Int} (he:0<=ep/\ep<=200) (a:Int) (N:List Node) (R Ro:Int) (I:List (List Item)) (At:List Int) (Rg:List (List Item)) (M:List Memory) (C:List Choice) (O:List Item) (lg sf la nx:Int) (dn:Bool) (td:List Item) :
  oR a N R Ro I At Rg M C O d.Sectors d.Wait lg sf ep la nx dn td=some (if 0<=la then (0,aW d.Sectors d.Wait,[],la,la,ep+1, -1,0) else (0,aW d.Sectors d.Wait,[],lg,lg,ep,la,nx)):=by
 unfold oR
 rw [show m9 (⟨d.Sectors,d.Wait⟩:Disk)=_ from FSx hd,Kr]
 by_cases hl:0<=la
 ·rw [if_pos (by simpa using hl),if_pos hl,bw (by omega) (by omega)]
 ·rw [if_neg (by simpa using hl),if_neg hl]
theorem Ic {td O:List Item} (ht:td.length<=2000) (hO:O.length<=2000) (sf a:Int) (N:List Node) (R Ro:Int) (I:List (List Item)) (At:List Int) (Rg:List (List Item)) (M:List Memory) (C:List Choice) (S:List (List UInt8)) (W:List Write) (lg ep la nx:Int) (dn:Bool) :
  oU a N R Ro I At Rg M C O S W lg sf ep la nx dn td=some (if (dZ td O sf).2≠0 then ((dZ td O sf).2,td) else (0,td++(dZ td O sf).1)):=by
 unfold oU
 rw [Dd,Kr]
 by_cases h0:(dZ td O sf).2=0
 ·have:=xg (s:=sf) ht hO
  rw [Kv] at this
  rw [if_neg (by simpa using h0),if_neg (by simpa using h0),cx (by omega),Kr]
 ·rw [if_pos (by simpa using h0),if_pos h0]
theorem I7 (q:SrcQ n items) {d:Disk} (hd:bD d) (a:Int) (At:List Int) (Rg:List (List Item)) (M:List Memory) (C:List Choice) (O:List Item) (lg sf ep la nx:Int) (dn:Bool) (td:List Item) :
  oV a n.Nodes n.Rings n.Room items At Rg M C O d.Sectors d.Wait lg sf ep la nx dn td=some (if a<0∨d.Wait.length<a then (3,At,Rg,M,C,O,d.Sectors,d.Wait,lg,sf,ep,la,nx,dn)
   else (0,(bh n items).At,(bh n items).Rings,(bh n items).Memory,(bh n items).Choices,(bh n items).Out,aW d.Sectors (d.Wait.take a.toNat),[],0,0,0, -1,0,true)):=by
 have hst:iE (⟨n.Nodes,n.Rings,n.Room⟩:Net) items=some (bh n items,0):=by have:=rF n items q.io;rwa [if_neg (by simp [q.src])] at this
 unfold oV
 by_cases h:a<0∨d.Wait.length<a
 ·have hc:iM (⟨d.Sectors,d.Wait⟩:Disk) a=some (⟨[],[]⟩,3):=by
   unfold iM;rw [show fd (⟨d.Sectors,d.Wait⟩:Disk)=_ from iK hd,Kr,if_neg (by decide),if_pos (by simp only [LY,decide_eq_true_eq];omega)]
  rw [if_pos h,hc];rfl
 ·have hc:iM (⟨d.Sectors,d.Wait⟩:Disk) a=some (⟨aW d.Sectors (d.Wait.take a.toNat),[]⟩,0):=by
   have:=AU hd a.toNat (by omega);rwa [Le (by omega)] at this
  rw [if_neg h,hc,Kr,if_neg (by simp),hst];rfl
theorem mL_le {α:Type} {m:α->Nat} {c:Nat}:∀ {l:List α},(∀ x,x∈l->m x<=c)->mL m l<=l.length*c+1
 | [],_=>by simp [mL]
 | a::l,h=>by
  have h1:=mL_le (l:=l) fun x hx=>h x (KS _ hx)
  have h2:=h a KQ;rw [IJ,KH,KP];omega
theorem EZ (q:SrcQ n items) {s:State} (hI:Inv n items s):lz s<=10000:=by
 obtain ⟨B,ok,hB⟩:=hI;have h2:=q.S.n2;have h3:=q.S.r2;have h4:=q.S.l4;have h6:=q.S.m2;have hrg:=ok.rg;have hmm:=ok.mm;have hat:=ok.at_;have hch:=ok.ch;have hou:=ok.out;have a1:=mL_le (m:=mI) (c:=1) (l:=s.At) fun x _=>Kx _
 have a2:=mL_le (m:=mL cy) (c:=19) (l:=s.Rings) fun l hl=>by
  obtain ⟨r,hr⟩:=KI hl;have:=ok.room r l hr;have:=mL_le (m:=cy) (c:=3) (l:=l) fun x _=>Kx _
  omega
 have a3:=mL_le (m:=ff) (c:=15) (l:=s.Memory) fun m hm=>by
  obtain ⟨i,hi⟩:=KI hm;have:=(ok.mem i m hi).1.len;have:=mL_le (m:=gE) (c:=2) (l:=m.Keys) fun x _=>Kx _
  unfold ff;omega
 have a4:=mL_le (m:=gr) (c:=2) (l:=s.Choices) fun x _=>Kx _
 have a5:=mL_le (m:=cy) (c:=3) (l:=s.Out) fun x _=>Kx _
 unfold lz;omega
theorem IA (q:SrcQ n items) {s:State} (hI:Inv n items s) (hk:KV s) {d:Disk} (hd:bD d) {e:Nat} (he:e<=200) (a lg sf la nx:Int) (dn:Bool) (td:List Item) :
  oZ a n.Nodes n.Rings n.Room items s.At s.Rings s.Memory s.Choices s.Out d.Sectors d.Wait lg sf (e:Int) la nx dn td=some (if 0<=la then (10,d.Sectors,d.Wait,la) else if e=200 then (8,d.Sectors,d.Wait,la)
   else if 60<=((aZ s).length+49) / 50∨300<d.Wait.length+(((aZ s).length+49) / 50+1) then (8,[],[],la) else (0,d.Sectors,d.Wait++di e (aZ s),(s.Choices.length:Int))):=by
 have hbl:=LL (xO s) (Nat.mul_le_mul_left 10 (EZ q hI))
 unfold oZ
 by_cases hl:0<=la
 ·rw [if_pos (by simpa using hl),if_pos hl]
 rw [if_neg (by simpa using hl),if_neg hl]
 by_cases h2:e=200
 ·rw [if_pos (by simp [h2]),if_pos h2]
 have hb:iC (⟨n.Nodes,n.Rings,n.Room⟩:Net) items (⟨s.At,s.Rings,s.Memory,s.Choices,s.Out⟩:State)=some (aZ s,0):=by have:=Ar (n:=n) items s q.io (kv_s q.S hI hk) (by unfold BB;omega);rwa [if_neg (by simp [zU q hI])] at this
 have hr:rem (IntKind.i64.wrap ((e:Int)+1)) 2=some (((e+1) % 2:Nat):Int):=by rw [br (by omega)];unfold rem;rw [if_neg (by decide),Int.tmod_eq_emod_of_nonneg (by omega)];congr 1
 obtain ⟨e0,g1,g2,g3⟩:=Ja d (((e+1) % 2:Nat):Int) ((e+1:Nat):Int) (aZ s) (by omega)
 have ge:e0=0:=g2.2 hd
 rw [if_neg (by simp [ge]),if_neg (by omega)] at g3
 rw [if_neg (by simp;omega),if_neg h2,hb,Kr,if_neg (by simp),hr,Kr,br (by omega),show ny (⟨d.Sectors,d.Wait⟩:Disk) _ _ _=_ from g3,Kr]
 by_cases h3:60<=((aZ s).length+49) / 50∨300<d.Wait.length+(((aZ s).length+49) / 50+1)
 ·rw [if_pos h3,if_pos h3];rfl
 ·rw [if_neg h3,if_neg h3]
  simp only [KW]
  rfl
theorem zP (S:List (List UInt8)) (slot:Nat) (hd:List UInt8):∀ (m k:Nat) (acc b:List UInt8),col S slot hd m k acc=some b->b.length<=acc.length+53*m
 | 0,k,acc,b,h=>by cases h;omega
 | m+1,k,acc,b,h=>by
  unfold col at h;split at h
  ·cases h
  ·rename_i p hp;split at h
   ·rename_i hc;have:=zP S slot hd m (k+1) _ b h;rw [Kv,KX] at this;have:p.length<=53:=by omega
    omega
   ·cases h
theorem GH {S:List (List UInt8)} {slot:Nat} {x:List UInt8 × Nat} (h:cW S slot=some x):x.1.length<=4000:=by
 unfold cW at h;split at h
 ·cases h
 split at h
 ·rename_i hc;obtain ⟨b,hb,rfl⟩:=KO.1 h;have:=zP _ _ _ _ _ _ _ hb;simp only [Mm] at this;show b.length<=4000;omega
 ·cases h
theorem Iz (q:SrcQ n items) {b:List UInt8} (hb:b.length<=4000):fM n items b=some (ofM n items b):=by unfold ofM;rcases Je items q.io q.src b (by omega) with h | ⟨t,h,_⟩<;>rw [h]<;>rfl
theorem wM (q:SrcQ n items) {d:Disk} (hd:bD d) (sl:Nat) (hs:sl<=1) (st:State × Nat) :
  ku n.Nodes n.Rings n.Room items d.Sectors d.Wait (st.2:Int) (sl:Int) st.1.At st.1.Rings st.1.Memory st.1.Choices st.1.Out =
   some (.inl (((dF n items d.Sectors sl st).2:Int),((sl+1:Nat):Int),(dF n items d.Sectors sl st).1.At,(dF n items d.Sectors sl st).1.Rings,(dF n items d.Sectors sl st).1.Memory,(dF n items d.Sectors sl st).1.Choices,(dF n items d.Sectors sl st).1.Out)):=by
 have hg:nt (⟨d.Sectors,d.Wait⟩:Disk) (sl:Int)=some (getR d.Sectors sl):=Jh hd sl hs
 unfold ku
 rw [if_pos (by simp;omega),hg,Kr]
 unfold getR dF
 cases hm:cW d.Sectors sl with
 | none =>
  simp only
  rw [if_pos (by simp),br (by omega)]
 | some x =>
  simp only
  by_cases h1:x.2<=st.2
  ·rw [if_pos (by simp;omega),if_pos h1,br (by omega)]
  ·have hof:fM (⟨n.Nodes,n.Rings,n.Room⟩:Net) items x.1=some (ofM n items x.1):=Iz q (GH hm)
   rw [if_neg (by simp;omega),if_neg h1,hof,Kr]
   by_cases h2:(ofM n items x.1).2=0
   ·rw [if_pos (by simpa using h2),if_pos h2,br (by omega)]
   ·rw [if_neg (by simpa using h2),if_neg h2,br (by omega)]
theorem E7 (q:SrcQ n items) {d:Disk} (hd:bD d) (At:List Int) (Rg:List (List Item)) (M:List Memory) (C:List Choice) (O:List Item) (lg sf ep la nx:Int) (dn:Bool) (td:List Item) :
  oL n.Nodes n.Rings n.Room items At Rg M C O d.Sectors d.Wait lg sf ep la nx dn td=some ((cB n items d.Sectors).1,((cB n items d.Sectors).2:Int)):=by
 have hst:iE (⟨n.Nodes,n.Rings,n.Room⟩:Net) items=some (bh n items,0):=by have:=rF n items q.io;rwa [if_neg (by simp [q.src])] at this
 unfold oL
 rw [hst,Kr]
 have s0:=wM q hd 0 (by omega) (bh n items,0)
 have s1:=wM q hd 1 (by omega) (dF n items d.Sectors 0 (bh n items,0))
 have s2:∀ st:State × Nat,ku n.Nodes n.Rings n.Room items d.Sectors d.Wait (st.2:Int) ((1+1:Nat):Int) st.1.At st.1.Rings st.1.Memory st.1.Choices st.1.Out=some (.inr (st.1,(st.2:Int))):=fun st=>by unfold ku;rw [if_neg (by decide)];rfl
 have s2:=s2 (cB n items d.Sectors)
 rw [aG]
 simp only [K3] at s0
 simp only [s0]
 rw [aG]
 simp only [Ln,Int.natCast_one] at s1 ⊢
 simp only [s1]
 rw [aG]
 unfold cB at s2 ⊢
 simp only [s2]
theorem up_eq (q:SrcQ n items) {d:Disk} (hd:bD d) {s:State} (hn:cB n items d.Sectors=(s,E)) (hI:Inv n items s) (hE:E<=200) (a:Int) (At:List Int) (Rg:List (List Item)) (M:List Memory) (C:List Choice) (O:List Item) (lg sf ep la nx:Int) (dn:Bool) (td:List Item) :
  o4 a n.Nodes n.Rings n.Room items At Rg M C O d.Sectors d.Wait lg sf ep la nx dn td=some (if d5 n (bc (E:Int) (d.Sectors.drop 120)).1≠0 then (d5 n (bc (E:Int) (d.Sectors.drop 120)).1,At,Rg,M,C,O,lg,sf,ep,nx,dn)
   else if (bP n items s (bc (E:Int) (d.Sectors.drop 120)).1).2≠0 then ((bP n items s (bc (E:Int) (d.Sectors.drop 120)).1).2,At,Rg,M,C,O,lg,sf,ep,nx,dn)
   else (0,(bP n items s (bc (E:Int) (d.Sectors.drop 120)).1).1.At,(bP n items s (bc (E:Int) (d.Sectors.drop 120)).1).1.Rings,(bP n items s (bc (E:Int) (d.Sectors.drop 120)).1).1.Memory,(bP n items s (bc (E:Int) (d.Sectors.drop 120)).1).1.Choices,(bP n items s (bc (E:Int) (d.Sectors.drop 120)).1).1.Out,
    ((bP n items s (bc (E:Int) (d.Sectors.drop 120)).1).1.Choices.length:Int),((bP n items s (bc (E:Int) (d.Sectors.drop 120)).1).1.Choices.length:Int),(E:Int),((bc (E:Int) (d.Sectors.drop 120)).2:Int),false)):=by
 have hsl:=zf (E:Int) (d.Sectors.drop 120)
 have hd1:=hd.1
 rw [KX] at hsl
 unfold o4
 rw [E7 q hd,hn,Kr,show nr (⟨d.Sectors,d.Wait⟩:Disk) (E:Int)=_ from HT hd (E:Int) (by omega) (by omega),Kr,if_neg (by simp),show mV (⟨n.Nodes,n.Rings,n.Room⟩:Net) (bc (E:Int) (d.Sectors.drop 120)).1=some (d5 n (bc (E:Int) (d.Sectors.drop 120)).1) from Dc n q.io _,Kr]
 simp only
 by_cases h1:d5 n (bc (E:Int) (d.Sectors.drop 120)).1=0
 ·rw [if_neg (by simpa using h1),if_neg (by simpa using h1),show mU (⟨n.Nodes,n.Rings,n.Room⟩:Net) items s (bc (E:Int) (d.Sectors.drop 120)).1=_ from Fq q hI (by omega),Kr]
  by_cases h2:(bP n items s (bc (E:Int) (d.Sectors.drop 120)).1).2=0
  ·rw [if_neg (by simpa using h2),if_neg (by simpa using h2)]
  ·rw [if_pos (by simpa using h2),if_pos h2]
 ·rw [if_pos (by simpa using h1),if_pos h1]
theorem na (q:SrcQ n items) (j:JS n items E h) (k a:Int):eQ h ⟨k,a⟩=some (if k<1∨7<k then (noH,5) else doP h k a):=by
 obtain ⟨s0,hn0,hI0,_⟩:=ut q j.held;have hcp:=Gj q j;have eN:=j.N;have eI:=j.I;subst eN;subst eI;have hlog:=j.log;have hnx:=j.next;have hE:=j.e2;have ⟨hc5,hO⟩:=j.inv.ch;have hne:∀ {x y:Int},x≠y->¬ ((x==y)=true):=fun h1 h2=>h1 (by simpa using h2)
 have dn6:h.Down=true->∀ {x:Int},x≠6->(!(h.Down==(x==6)))=true:=fun h1 x h2=>by rw [h1];simpa using h2
 have up6:h.Down=false->∀ {x:Int},x≠6->¬ (!(h.Down==(x==6)))=true:=fun h1 x h2=>by rw [h1];simpa using h2
 have er:∀ {x:Int},x≠0->(x != 0)=true:=fun h1=>by simpa using h1
 unfold eQ;rw [Hs q j,Kr,if_neg (by decide)];dsimp only;by_cases h1:k=1
 ·subst h1;rw [if_pos (show ((1:Int)==1)=true from rfl),if_neg (show ¬ ((1:Int)<1∨7<(1:Int)) by omega)];by_cases hd:h.Down=true
  ·rw [if_pos (dn6 hd (by decide)),gw hd,if_pos (by decide)];rfl
  have hdf:h.Down=false:=by simpa using hd
  rw [if_neg (up6 hdf (by decide)),hcp,Kr,If q j.inv,Kr,doP_1 hdf];by_cases h0:bi h.N h.Items h.S=[]
  ·rw [if_pos h0,if_pos h0,if_pos (by simp)];rfl
  ·rw [if_neg h0,if_neg h0,if_neg (by simp)];rfl
 rw [if_neg (hne h1)];by_cases h2:k=2
 ·subst h2;rw [if_pos (show ((2:Int)==2)=true from rfl),if_neg (show ¬ ((2:Int)<1∨7<(2:Int)) by omega)];by_cases hd:h.Down=true
  ·rw [if_pos (dn6 hd (by decide)),gw hd,if_pos (by decide)];rfl
  have hdf:h.Down=false:=by simpa using hd
  have hep:=j.ep hdf;obtain ⟨L,hL⟩:∃ L:Nat,h.Logged=(L:Int):=⟨h.Logged.toNat,by omega⟩
  obtain ⟨X,hX⟩:∃ X:Nat,h.Next=(X:Int):=⟨h.Next.toNat,by omega⟩
  have hw:=F8 j.okD (ch:=h.S.Choices) (L:=L) (e:=E) (x:=X) (by omega) hc5 hE (by omega) a h.N.Nodes h.N.Rings h.N.Room h.Items h.S.At h.S.Rings h.S.Memory h.S.Out h.Safe h.Laid h.Down h.Told;rw [<- hL,<- hX,<- hep] at hw;rw [if_neg (up6 hdf (by decide)),hcp,Kr,hw,Kr,doP_2 hdf];have e1:h.Epoch.toNat=E:=by omega
  have e2:h.Logged.toNat=L:=by omega
  have e3:h.Next.toNat=X:=by omega
  rw [e1,e2,e3];by_cases hl:0<=h.Laid
  ·rw [if_pos hl,if_pos hl,if_pos (by simp)];rfl
  rw [if_neg hl,if_neg hl];by_cases h0:(cv E h.D.Sectors (h.S.Choices.drop L).length X (h.S.Choices.drop L) h.D.Wait).2.2=0
  ·rw [if_neg (not_not_intro h0),if_neg (not_not_intro h0),if_neg (by simp)];rfl
  ·rw [if_pos h0,if_pos h0,if_pos (er h0)];rfl
 rw [if_neg (hne h2)];by_cases h3:k=3
 ·subst h3;rw [if_pos (show ((3:Int)==3)=true from rfl),if_neg (show ¬ ((3:Int)<1∨7<(3:Int)) by omega)];by_cases hd:h.Down=true
  ·rw [if_pos (dn6 hd (by decide)),gw hd,if_pos (by decide)];rfl
  have hdf:h.Down=false:=by simpa using hd
  have hep:=j.ep hdf;rw [if_neg (up6 hdf (by decide)),hcp,Kr,G1 j.okD (by omega),Kr,doP_3 hdf];by_cases hl:0<=h.Laid
  ·rw [if_pos hl,if_pos hl,if_neg (by simp)];rfl
  ·rw [if_neg hl,if_neg hl,if_neg (by simp)];rfl
 rw [if_neg (hne h3)];by_cases h4:k=4
 ·subst h4;rw [if_pos (show ((4:Int)==4)=true from rfl),if_neg (show ¬ ((4:Int)<1∨7<(4:Int)) by omega)];by_cases hd:h.Down=true
  ·rw [if_pos (dn6 hd (by decide)),gw hd,if_pos (by decide)];rfl
  have hdf:h.Down=false:=by simpa using hd
  rw [if_neg (up6 hdf (by decide)),hcp,Kr,Ic j.told hO,Kr,doP_4 hdf];by_cases h0:(dZ h.Told h.S.Out h.Safe).2=0
  ·rw [if_neg (not_not_intro h0),if_neg (not_not_intro h0),if_neg (by simp)];rfl
  ·rw [if_pos h0,if_pos h0,if_pos (er h0)];rfl
 rw [if_neg (hne h4)];by_cases h5:k=5
 ·subst h5;rw [if_pos (show ((5:Int)==5)=true from rfl),if_neg (show ¬ ((5:Int)<1∨7<(5:Int)) by omega)];by_cases hd:h.Down=true
  ·rw [if_pos (dn6 hd (by decide)),gw hd,if_pos (by decide)];rfl
  have hdf:h.Down=false:=by simpa using hd
  rw [if_neg (up6 hdf (by decide)),hcp,Kr,I7 q j.okD,Kr,doP_5 hdf];by_cases h0:a<0∨h.D.Wait.length<a
  ·rw [if_pos h0,if_pos h0,if_pos (by simp)];rfl
  ·rw [if_neg h0,if_neg h0,if_neg (by simp)];rfl
 rw [if_neg (hne h5)];by_cases h6:k=6
 ·subst h6;rw [if_pos (show ((6:Int)==6)=true from rfl),if_neg (show ¬ ((6:Int)<1∨7<(6:Int)) by omega)];by_cases hd:h.Down=true
  ·rw [if_neg (by rw [hd];decide),hcp,Kr,up_eq q j.okD hn0 hI0 hE,Kr,gw hd,if_neg (show ¬ (6:Int)≠6 by decide),hn0];simp only;by_cases g1:d5 h.N (bc (E:Int) (h.D.Sectors.drop 120)).1=0
   ·rw [if_neg (not_not_intro g1),if_neg (not_not_intro g1)];by_cases g2:(bP h.N h.Items s0 (bc (E:Int) (h.D.Sectors.drop 120)).1).2=0
    ·rw [if_neg (not_not_intro g2),if_neg (not_not_intro g2),if_neg (by simp)];rfl
    ·rw [if_pos g2,if_pos g2,if_pos (er g2)];rfl
   ·rw [if_pos g1,if_pos g1,if_pos (er g1)];rfl
  have hdf:h.Down=false:=by simpa using hd
  rw [if_pos (by rw [hdf];decide),AA hdf a (by decide)];rfl
 rw [if_neg (hne h6)];by_cases h7:k=7
 ·subst h7;rw [if_pos (show ((7:Int)==7)=true from rfl),if_neg (show ¬ ((7:Int)<1∨7<(7:Int)) by omega)];by_cases hd:h.Down=true
  ·rw [if_pos (dn6 hd (by decide)),gw hd,if_pos (by decide)];rfl
  have hdf:h.Down=false:=by simpa using hd
  have hep:=j.ep hdf;have hl:=IA q j.inv j.kv j.okD hE a h.Logged h.Safe h.Laid h.Next h.Down h.Told;rw [<- hep] at hl;have e1:h.Epoch.toNat=E:=by omega
  rw [if_neg (up6 hdf (by decide)),hcp,Kr,hl,Kr,doP_7 hdf,e1];by_cases hla:0<=h.Laid
  ·rw [if_pos hla,if_pos hla,if_pos (by simp)];rfl
  rw [if_neg hla,if_neg hla];by_cases h2:E=200
  ·rw [if_pos h2,if_pos (show h.Epoch=200 by omega),if_pos (by simp)];rfl
  rw [if_neg h2,if_neg (show ¬ h.Epoch=200 by omega)];by_cases hb:60<=((aZ h.S).length+49) / 50∨300<h.D.Wait.length+(((aZ h.S).length+49) / 50+1)
  ·rw [if_pos hb,if_pos hb,if_pos (by simp)];rfl
  ·rw [if_neg hb,if_neg hb,if_neg (by simp)];rfl
 rw [if_neg (hne h7),if_pos (by omega)];rfl
end
end
noncomputable section
def hapP (h:Shop) (x:Happening):Shop × Int:=if x.Kind<1∨7<x.Kind then (noH,5) else doP h x.Kind x.N
def cR (h:Shop) (x:Happening):Shop:=if (hapP h x).2=0 then (hapP h x).1 else h
def runP:Shop->List Happening->Shop
 | h,[]=>h
 | h,x::l=>runP (cR h x) l
def saysP:Shop->List Happening->List Int
 | h,[]=>[]
 | h,x::l=>(hapP h x).2::saysP (cR h x) l
def newH (n:Net) (items:List (List Item)):Shop:=⟨n,items,bh n items,noD,0,0,0, -1,0,[],false⟩
section
variable {n:Net} {items:List (List Item)} {E:Nat} {h:Shop}
theorem JS.step (q:SrcQ n items) (j:JS n items E h) {x:Happening} (h0:(hapP h x).2=0):∃ E',JS n items E' (hapP h x).1:=by
 unfold hapP at h0 ⊢;by_cases hx:x.Kind<1∨7<x.Kind
 ·rw [if_pos hx] at h0;exact absurd h0 (by decide)
 ·rw [if_neg hx] at h0 ⊢;exact j.do q x.Kind x.N h0
theorem JS.nextH (q:SrcQ n items) (j:JS n items E h) (x:Happening):∃ E',JS n items E' (cR h x):=by
 unfold cR;by_cases h0:(hapP h x).2=0
 ·rw [if_pos h0];exact j.step q h0
 ·rw [if_neg h0];exact ⟨E,j⟩
theorem JS.run (q:SrcQ n items):∀ (l:List Happening) {E:Nat} {h:Shop},JS n items E h->∃ E',JS n items E' (runP h l)
 | [],E,h,j=>⟨E,j⟩
 | x::l,E,h,j=>by obtain ⟨E',j'⟩:=j.nextH q x;exact JS.run q l j'
theorem FX (q:SrcQ n items) (j:JS n items E h) (x:Happening):eQ h x=some (hapP h x):=na q j x.Kind x.N
theorem yM:∀ (l:List Happening) (h:Shop),(saysP h l).length=l.length
 | [],h=>rfl
 | x::l,h=>by simp [saysP,yM l]
theorem zx (q:SrcQ n items) (script:List Happening) (hs:script.length<=2000):∀ (m k:Nat) (E:Nat) (h:Shop) (acc:List Int),k+m=script.length->acc.length=k->JS n items E h ->
  iter (fun ss:Int × (List Node) × Int × Int × (List (List Item)) × (List Int) × (List (List Item)) × (List Memory) × (List Choice) × (List Item) × (List (List UInt8)) × (List Write) × Int × Int × Int × Int × Int × (List Item) × Bool × (List Int)=>jJ script ss.1 ss.2.1 ss.2.2.1 ss.2.2.2.1 ss.2.2.2.2.1 ss.2.2.2.2.2.1 ss.2.2.2.2.2.2.1 ss.2.2.2.2.2.2.2.1 ss.2.2.2.2.2.2.2.2.1 ss.2.2.2.2.2.2.2.2.2.1 ss.2.2.2.2.2.2.2.2.2.2.1 ss.2.2.2.2.2.2.2.2.2.2.2.1 ss.2.2.2.2.2.2.2.2.2.2.2.2.1 ss.2.2.2.2.2.2.2.2.2.2.2.2.2.1 ss.2.2.2.2.2.2.2.2.2.2.2.2.2.2.1 ss.2.2.2.2.2.2.2.2.2.2.2.2.2.2.2.1 ss.2.2.2.2.2.2.2.2.2.2.2.2.2.2.2.2.1 ss.2.2.2.2.2.2.2.2.2.2.2.2.2.2.2.2.2.1 ss.2.2.2.2.2.2.2.2.2.2.2.2.2.2.2.2.2.2.1 ss.2.2.2.2.2.2.2.2.2.2.2.2.2.2.2.2.2.2.2) ((k:Int),h.N.Nodes,h.N.Rings,h.N.Room,h.Items,h.S.At,h.S.Rings,h.S.Memory,h.S.Choices,h.S.Out,h.D.Sectors,h.D.Wait,h.Logged,h.Safe,h.Epoch,h.Laid,h.Next,h.Told,h.Down,acc)=some (runP h (script.drop k),acc++saysP h (script.drop k),0)
 | 0,k,E,h,acc,hk,ha,j=>by
  have e:jJ script (k:Int) h.N.Nodes h.N.Rings h.N.Room h.Items h.S.At h.S.Rings h.S.Memory h.S.Choices h.S.Out h.D.Sectors h.D.Wait h.Logged h.Safe h.Epoch h.Laid h.Next h.Told h.Down acc=some (.inr (h,acc,0)):=by unfold jJ;rw [if_neg (by simp;omega)];rfl
  rw [aG];simp only [e];rw [KU (by omega)];simp [runP,saysP]
 | m+1,k,E,h,acc,hk,ha,j=>by
  have hlt:k<script.length:=by omega
  have hx:script[k]?=some script[k]:=Ks hlt;have hdr:=KC hlt;generalize script[k]=x at hx hdr;have hdo:=FX q j x;obtain ⟨E',j'⟩:=j.nextH q x;have e:jJ script (k:Int) h.N.Nodes h.N.Rings h.N.Room h.Items h.S.At h.S.Rings h.S.Memory h.S.Choices h.S.Out h.D.Sectors h.D.Wait h.Logged h.Safe h.Epoch h.Laid h.Next h.Told h.Down acc=some (.inl (((k+1:Nat):Int),(cR h x).N.Nodes,(cR h x).N.Rings,(cR h x).N.Room,(cR h x).Items,(cR h x).S.At,(cR h x).S.Rings,(cR h x).S.Memory,(cR h x).S.Choices,(cR h x).S.Out,(cR h x).D.Sectors,(cR h x).D.Wait,(cR h x).Logged,(cR h x).Safe,(cR h x).Epoch,(cR h x).Laid,(cR h x).Next,(cR h x).Told,(cR h x).Down,acc++[(hapP h x).2])):=by
   unfold jJ;rw [if_pos (by simp;omega),bu hx,Kr,hdo,Kr];unfold cR;by_cases h0:(hapP h x).2=0
   ·rw [if_pos (by simpa using h0),if_pos h0,cx (by simp;omega),Kr,br (by omega)]
   ·rw [if_neg (by simpa using h0),if_neg h0,cx (by simp;omega),Kr,br (by omega)]
  rw [aG];simp only [e];have:=zx q script hs m (k+1) E' (cR h x) (acc++[(hapP h x).2]) (by omega) (by simp;omega) j';rw [this,hdr];simp [runP,saysP]
theorem Iq (q:SrcQ n items):lq n items=some (newH n items,0):=by obtain ⟨l1,l2,l3⟩:=q.l;have hst:=rF n items q.io;rw [if_neg (by simp [q.src])] at hst;unfold lq;rw [hst,Kr,if_neg (by simp),xl l1 q.io,Kr,wz l2 l3];rfl
theorem H2 (hio:∀ x∈n.Nodes,x.In.length<=1099511627776/\x.Out.length<=1099511627776) (hs:cj n items≠0):lq n items=some (noH,cj n items):=by have hst:=rF n items hio;rw [if_pos hs] at hst;unfold lq;rw [hst,Kr,if_pos (by simpa using hs)];rfl
theorem Bf (q:SrcQ n items) (script:List Happening) (hs:script.length<=1200):jS n items script=some (runP (newH n items) script,saysP (newH n items) script,0):=by unfold jS;rw [Iq q,Kr,if_neg (by simp),if_neg (by simp;omega)];have:=zx q script (by omega) script.length 0 0 (newH n items) [] (by omega) rfl (xr q.S);simp only [Lc,K9] at this;exact this
theorem HG (hio:∀ x∈n.Nodes,x.In.length<=1099511627776/\x.Out.length<=1099511627776) (hs:cj n items≠0) (script:List Happening):jS n items script=some (noH,[],cj n items):=by unfold jS;rw [H2 hio hs,Kr,if_pos (by simpa using hs)];rfl
end
end
theorem nolog0 {S:List (List UInt8)} {ep:Int} (h2:dv ep (gt S 120)=[]):bc ep (S.drop 120)=([],0):=by
 cases hd:S.drop 120 with
 | nil=>rfl
 | cons s r =>
  have h1:gt S 120=s:=by unfold gt;rw [Kw];have:=congrArg (fun l=>l[0]?) hd;simp only [K4,Lq,L7] at this;rw [this];rfl
  rw [h1] at h2;unfold bc;rw [if_pos h2]
theorem Et {n:Net} {items:List (List Item)} (q:SrcQ n items):d5 n []=0:=ye ⟨by
 have h:=q.src;unfold cj at h;by_cases h1:(netR n).2=0
 ·exact h1
 ·rw [if_pos h1] at h;exact absurd h h1,by simp,fun c hc=>by cases hc⟩
theorem GW {n:Net} {items:List (List Item)} {s:State} (hI:Inv n items s):bP n items s []=(s,0):=by have:=hI.ch.1;unfold bP;rw [if_neg (by simp;omega)];unfold repM;rfl
theorem tE (x:Shop × Int) {h h':Shop} (k:Nat) {c:Int} (hk:([3,5,6]:List Int)[k]?=some c) (hdo:eQ h ⟨c,0⟩=some (h',0)) :
  jj x (k:Int) h.N.Nodes h.N.Rings h.N.Room h.Items h.S.At h.S.Rings h.S.Memory h.S.Choices h.S.Out h.D.Sectors h.D.Wait h.Logged h.Safe h.Epoch h.Laid h.Next h.Told h.Down=some (.inl (((k+1:Nat):Int),h'.N.Nodes,h'.N.Rings,h'.N.Room,h'.Items,h'.S.At,h'.S.Rings,h'.S.Memory,h'.S.Choices,h'.S.Out,h'.D.Sectors,h'.D.Wait,h'.Logged,h'.Safe,h'.Epoch,h'.Laid,h'.Next,h'.Told,h'.Down)):=by
 have hlt:k<3:=by have:=(Kt.1 hk).1;simpa using this
 unfold jj
 rw [if_pos (by simp;omega),eV (by simpa using hlt),Kr,hk,Kr,show dL c 0=some ⟨c,0⟩ from rfl,Kr,hdo,Kr,if_neg (by simp),br (by omega)]
theorem GE {n:Net} {items:List (List Item)} {E:Nat} {h:Shop} (q:SrcQ n items) (j:JS n items E h) (hd:h.Down=false) (hw:h.D.Wait=[]) (hl:h.Laid = -1) (h200:h.Epoch≠200) (hb:¬ (60<=((aZ h.S).length+49) / 50∨300<h.D.Wait.length+(((aZ h.S).length+49) / 50+1))) :
  iter (fun ss:Int × (List Node) × Int × Int × (List (List Item)) × (List Int) × (List (List Item)) × (List Memory) × (List Choice) × (List Item) × (List (List UInt8)) × (List Write) × Int × Int × Int × Int × Int × (List Item) × Bool=>jj (h,0) ss.1 ss.2.1 ss.2.2.1 ss.2.2.2.1 ss.2.2.2.2.1 ss.2.2.2.2.2.1 ss.2.2.2.2.2.2.1 ss.2.2.2.2.2.2.2.1 ss.2.2.2.2.2.2.2.2.1 ss.2.2.2.2.2.2.2.2.2.1 ss.2.2.2.2.2.2.2.2.2.2.1 ss.2.2.2.2.2.2.2.2.2.2.2.1 ss.2.2.2.2.2.2.2.2.2.2.2.2.1 ss.2.2.2.2.2.2.2.2.2.2.2.2.2.1 ss.2.2.2.2.2.2.2.2.2.2.2.2.2.2.1 ss.2.2.2.2.2.2.2.2.2.2.2.2.2.2.2.1 ss.2.2.2.2.2.2.2.2.2.2.2.2.2.2.2.2.1 ss.2.2.2.2.2.2.2.2.2.2.2.2.2.2.2.2.2.1 ss.2.2.2.2.2.2.2.2.2.2.2.2.2.2.2.2.2.2) (0,h.N.Nodes,h.N.Rings,h.N.Room,h.Items,h.S.At,h.S.Rings,h.S.Memory,h.S.Choices,h.S.Out,h.D.Sectors,(h.D.Wait++di E (aZ h.S)),h.Logged,h.Safe,h.Epoch,(h.S.Choices.length:Int),h.Next,h.Told,h.Down)=some true:=by
 have hep:=j.ep hd
 have he2:=j.e2
 have j2:=j.lay hd (by omega) h200 hb
 generalize hh2:({ h with D:=⟨h.D.Sectors,h.D.Wait++di E (aZ h.S)⟩,Laid:=(h.S.Choices.length:Int) }:Shop)=h2 at j2
 have d2:h2.Down=false:=by rw [<- hh2];exact hd
 have l2:0<=h2.Laid:=by rw [<- hh2];show (0:Int)<=(h.S.Choices.length:Int);omega
 have s3:eQ h2 ⟨3,0⟩=some (doP h2 3 0):=na q j2 3 0
 have j3:=j2.flush d2 0
 rw [if_pos l2] at j3
 have f3:doP h2 3 0=({ h2 with D:=⟨aW h2.D.Sectors h2.D.Wait,[]⟩,Epoch:=h2.Epoch+1,Next:=0,Logged:=h2.Laid,Safe:=h2.Laid,Laid := -1 },0):=by rw [doP_3 d2,if_pos l2]
 rw [f3] at s3 j3
 dsimp only at j3
 generalize hh3:({ h2 with D:=⟨aW h2.D.Sectors h2.D.Wait,[]⟩,Epoch:=h2.Epoch+1,Next:=0,Logged:=h2.Laid,Safe:=h2.Laid,Laid := -1 }:Shop)=h3 at s3 j3
 have d3:h3.Down=false:=by rw [<- hh3];exact d2
 have w3:h3.D.Wait=[]:=by rw [<- hh3]
 have S3:h3.D.Sectors=aW h.D.Sectors (di E (aZ h.S)):=by rw [<- hh3,<- hh2];simp only [hw,K9]
 have s4:eQ h3 ⟨5,0⟩=some (doP h3 5 0):=na q j3 5 0
 have f4:doP h3 5 0=({ h3 with D:=⟨aW h3.D.Sectors (h3.D.Wait.take 0),[]⟩,S:=bh h3.N h3.Items,Logged:=0,Safe:=0,Epoch:=0,Laid := -1,Next:=0,Down:=true },0):=by rw [doP_5 d3,if_neg (by omega)];rfl
 obtain ⟨E4,hE4,j4⟩:=j3.cut q 0
 have hE4:E4=E+1:=by
  rcases hE4 with e | ⟨_,e,_⟩
  ·exact e
  ·exfalso;have e:(0:Int) <= -1:=by rw [<- hh3] at e;exact e
   omega
 subst hE4
 rw [f4] at s4
 generalize hh4:({ h3 with D:=⟨aW h3.D.Sectors (h3.D.Wait.take 0),[]⟩,S:=bh h3.N h3.Items,Logged:=0,Safe:=0,Epoch:=0,Laid := -1,Next:=0,Down:=true }:Shop)=h4 at s4 j4
 have d4:h4.Down=true:=by rw [<- hh4]
 have S4:h4.D.Sectors=aW h.D.Sectors (di E (aZ h.S)):=by rw [<- hh4];exact S3
 have hslot:(aZ h.S).length+49<3000:=by omega
 have hb60:((aZ h.S).length+49) / 50<60:=by omega
 have hE1:E+1<=200:=by omega
 obtain ⟨s,n4,hI,hk,_,g4⟩:=ut q j4.held
 obtain ⟨g4,_⟩:=g4 (by omega)
 rw [S4,xW hE1 hb60] at g4
 have hbs:aZ h.S=aZ s:=by have:=Ky g4;exact (Prod.mk.inj this).1
 have hs:h.S=s:=(D6 (kv_s q.S j.inv j.kv) (kv_s q.S hI hk)).1 hbs
 subst hs
 have hlog:bc ((E+1:Nat):Int) (h4.D.Sectors.drop 120)=([],0):=by rw [S4];refine nolog0 ?_;have:=pS (S:=h.D.Sectors) (E:=E) hb60 (di E (aZ h.S)).length 120 (.inl (Kx _));rw [Lx] at this;rw [this];exact j.held.log 120 (E+1) (Kx _) (by omega)
 have s5:eQ h4 ⟨6,0⟩=some (doP h4 6 0):=na q j4 6 0
 have f5:doP h4 6 0=({ h4 with S:=h.S,Logged:=h.S.Choices.length,Safe:=h.S.Choices.length,Epoch:=((E+1:Nat):Int),Next:=((0:Nat):Int),Down:=false },0):=by rw [gw d4,if_neg (show ¬ (6:Int)≠6 by decide),j4.N,j4.I,n4];simp only;rw [hlog,Et q,if_neg (by simp),GW j.inv,if_neg (by simp)]
 rw [f5] at s5
 rw [aG]
 have a1:=tE (h,0) 0 rfl s3
 have a2:=tE (h,0) 1 rfl s4
 have a3:=tE (h,0) 2 rfl s5
 simp only [K3] at a1
 have e2:((0:Int),h.N.Nodes,h.N.Rings,h.N.Room,h.Items,h.S.At,h.S.Rings,h.S.Memory,h.S.Choices,h.S.Out,h.D.Sectors,(h.D.Wait++di E (aZ h.S)),h.Logged,h.Safe,h.Epoch,(h.S.Choices.length:Int),h.Next,h.Told,h.Down)=((0:Int),h2.N.Nodes,h2.N.Rings,h2.N.Room,h2.Items,h2.S.At,h2.S.Rings,h2.S.Memory,h2.S.Choices,h2.S.Out,h2.D.Sectors,h2.D.Wait,h2.Logged,h2.Safe,h2.Epoch,h2.Laid,h2.Next,h2.Told,h2.Down):=by rw [<- hh2]
 rw [e2]
 simp only [a1]
 rw [aG]
 simp only [a2]
 rw [aG]
 simp only [a3]
 rw [aG]
 have hend:jj (h,0) ((2+1:Nat):Int) h4.N.Nodes h4.N.Rings h4.N.Room h4.Items h.S.At h.S.Rings h.S.Memory h.S.Choices h.S.Out h4.D.Sectors h4.D.Wait (h.S.Choices.length:Int) (h.S.Choices.length:Int) ((E+1:Nat):Int) h4.Laid ((0:Nat):Int) h4.Told false=some (.inr true):=by unfold jj;rw [if_neg (by decide),show mr (⟨h.S.At,h.S.Rings,h.S.Memory,h.S.Choices,h.S.Out⟩:State) h.S=_ from DD h.S h.S (xQ q j.inv),Kr,bw (by show _<=h.Epoch+1;omega) (by show h.Epoch+1<=_;omega)];simp [hep]
 simp only [hend]
theorem Im {n:Net} {items:List (List Item)} (q:SrcQ n items) (script:List Happening) (hs:script.length<=60) (hcl:kz=some true):iA n items script=some true:=by
 obtain ⟨E,j⟩:=JS.run q script (xr q.S);unfold iA;rw [Bf q script (by omega),Kr,hcl,Kr];show (if ((!true) || (((0:Int) != 0) || (runP (newH n items) script).Down))=true then _ else _)=_;change JS n items E (runP (newH n items) script) at j;generalize runP (newH n items) script=h at j;by_cases hd:h.Down=true
 ·rw [if_pos (by rw [hd];rfl)];rfl
 have hdf:h.Down=false:=by simpa using hd
 rw [if_neg (by rw [hdf];decide),show dL 3 0=some ⟨3,0⟩ from rfl,Kr];dsimp only;rw [show eQ h ⟨3,0⟩=some (doP h 3 0) from na q j 3 0,Kr];have j1:=j.flush hdf 0;have hep:=j.ep hdf;have hlaid:=j.laid;obtain ⟨h1,f1,w1,l1,d1⟩:∃ h1,doP h 3 0=(h1,0)/\h1.D.Wait=[]/\h1.Laid = -1/\h1.Down=false:=by
  rw [doP_3 hdf];by_cases hl:0<=h.Laid
  ·rw [if_pos hl];exact ⟨_,rfl,rfl,rfl,hdf⟩
  ·rw [if_neg hl];exact ⟨_,rfl,rfl,by show h.Laid = -1;omega,hdf⟩
 rw [f1] at j1 ⊢;generalize (if 0<=h.Laid then E+1 else E)=E1 at j1;rw [if_neg (by simp),show dL 7 0=some ⟨7,0⟩ from rfl,Kr];dsimp only at j1 ⊢;rw [show eQ h1 ⟨7,0⟩=some (doP h1 7 0) from na q j1 7 0,Kr];rw [doP_7 d1,if_neg (show ¬ 0<=h1.Laid by omega)];by_cases h200:h1.Epoch=200
 ·rw [if_pos h200,if_pos (by simp)];rfl
 rw [if_neg h200];by_cases hb:60<=((aZ h1.S).length+49) / 50∨300<h1.D.Wait.length+(((aZ h1.S).length+49) / 50+1)
 ·rw [if_pos hb,if_pos (by simp)];rfl
 rw [if_neg hb,if_neg (by simp)];have e1:h1.Epoch.toNat=E1:=by have:=j1.ep d1;omega
 rw [e1];exact GE q j1 d1 w1 l1 h200 hb
theorem tZ {n:Net} {items:List (List Item)}:∀ (f:Nat) (s:State) (l:List Choice) (r:State × Int) (k:Nat),repM n items f s l=some r->repM n items (f+k) s l=some r
 | f,s,[],r,k,h=>by
  have:some (s,(0:Int))=some r:=by rw [<- h];cases f<;>rfl
  rw [<- this];cases f+k<;>rfl
 | 0,s,c::l,r,k,h=>by cases h
 | f+1,s,c::l,r,k,h=>by
  have e:f+1+k=(f+k)+1:=by omega
  rw [e];unfold repM at h ⊢;cases hm:(bi n items s).find? (fP n c) with
  | none=>rw [hm] at h;exact h
  | some m=>rw [hm] at h;exact tZ f _ _ r k h
theorem Hd {n:Net} {items:List (List Item)} (q:SrcQ n items) {s:State} (hI:Inv n items s) (hk:KV s) {l:List Choice} (h5:s.Choices.length+l.length<=500) {f:Nat} {r:State × Int} (h:repM n items f s l=some r):bP n items s l=r:=by obtain ⟨r',e1,_⟩:=uD q.S q.g (muN n items s+1) s l hI hk (by omega);have h1:=tZ _ _ _ _ f e1;have h2:=tZ _ _ _ _ (muN n items s+1) h;rw [Md] at h2;rw [h1] at h2;cases h2;unfold bP;rw [if_neg (by omega),e1];rfl
theorem srcT:SrcQ meetN dI:=⟨jR yJ,yJ,Ho,fun l hl x hx=>by simp only [dI,K0,Mh,or_false] at hl;rcases hl with rfl | rfl<;>(rw [LB.1 hx];unfold dc gI;decide)⟩
theorem nx {h h':Shop} {k a:Int} (hk:1<=k/\k<=7) (e:doP h k a=(h',0)):cR h ⟨k,a⟩=h':=by
 have e1:hapP h ⟨k,a⟩=(h',0):=by unfold hapP;rw [if_neg (show ¬ (k<1∨7<k) by omega)];exact e
 unfold cR;rw [e1,if_pos rfl]
def mT:List Memory:=[⟨0,[],0⟩,⟨0,[],0⟩,⟨0,[],0⟩,⟨0,[],0⟩]
def sT1:State:=⟨[0,1],[[],[⟨2,2,0⟩],[]],mT,[],[]⟩
def sT2:State:=⟨[0,1],[[],[],[⟨2,2,1⟩]],mT,[⟨2,1⟩],[]⟩
def sT3:State:=⟨[0,1],[[],[],[]],mT,[⟨2,1⟩],[⟨2,2,1⟩]⟩
def sT4:State:=⟨[1,1],[[⟨1,1,0⟩],[],[⟨2,2,1⟩]],mT,[⟨2,1⟩],[]⟩
def wT:List Write:=[⟨120,[3,0,2,1,105,95]⟩]
def hT (S:State) (D:Disk) (lg sf nx:Int) (td:List Item) (dn:Bool):Shop:=⟨meetN,dI,S,D,lg,sf,0, -1,nx,td,dn⟩
theorem eT1:doP (newH meetN dI) 1 1=(hT sT1 noD 0 0 0 [] false,0):=by rw [doP_1 rfl,if_neg (by decide +kernel),show doMv (newH meetN dI).N (newH meetN dI).Items (newH meetN dI).S (e7 (bi (newH meetN dI).N (newH meetN dI).Items (newH meetN dI).S) 1)=sT1 by decide +kernel];rfl
theorem eT2:doP (hT sT1 noD 0 0 0 [] false) 1 1=(hT sT2 noD 0 0 0 [] false,0):=by rw [doP_1 rfl,if_neg (by decide +kernel),show doMv (hT sT1 noD 0 0 0 [] false).N (hT sT1 noD 0 0 0 [] false).Items (hT sT1 noD 0 0 0 [] false).S (e7 (bi (hT sT1 noD 0 0 0 [] false).N (hT sT1 noD 0 0 0 [] false).Items (hT sT1 noD 0 0 0 [] false).S) 1)=sT2 by decide +kernel];rfl
theorem eT3:doP (hT sT2 noD 0 0 0 [] false) 1 1=(hT sT3 noD 0 0 0 [] false,0):=by rw [doP_1 rfl,if_neg (by decide +kernel),show doMv (hT sT2 noD 0 0 0 [] false).N (hT sT2 noD 0 0 0 [] false).Items (hT sT2 noD 0 0 0 [] false).S (e7 (bi (hT sT2 noD 0 0 0 [] false).N (hT sT2 noD 0 0 0 [] false).Items (hT sT2 noD 0 0 0 [] false).S) 1)=sT3 by decide +kernel];rfl
theorem eT4:doP (hT sT3 noD 0 0 0 [] false) 4 0=(hT sT3 noD 0 0 0 [] false,0):=by rw [doP_4 rfl,show dZ (hT sT3 noD 0 0 0 [] false).Told (hT sT3 noD 0 0 0 [] false).S.Out (hT sT3 noD 0 0 0 [] false).Safe=([],0) by decide +kernel,if_neg (by simp)];rfl
theorem eT5:doP (hT sT3 noD 0 0 0 [] false) 2 0=(hT sT3 ⟨[],wT⟩ 1 0 1 [] false,0):=by
 have e:cv (hT sT3 noD 0 0 0 [] false).Epoch.toNat (hT sT3 noD 0 0 0 [] false).D.Sectors ((hT sT3 noD 0 0 0 [] false).S.Choices.drop (hT sT3 noD 0 0 0 [] false).Logged.toNat).length (hT sT3 noD 0 0 0 [] false).Next.toNat ((hT sT3 noD 0 0 0 [] false).S.Choices.drop (hT sT3 noD 0 0 0 [] false).Logged.toNat) (hT sT3 noD 0 0 0 [] false).D.Wait=(⟨[],wT⟩,1,0):=by decide +kernel
 rw [doP_2 rfl,if_neg (show ¬ 0<=(hT sT3 noD 0 0 0 [] false).Laid by decide),e,if_neg (by simp)];rfl
theorem eT6:doP (hT sT3 ⟨[],wT⟩ 1 0 1 [] false) 3 0=(hT sT3 ⟨aW [] wT,[]⟩ 1 1 1 [] false,0):=by rw [doP_3 rfl,if_neg (show ¬ 0<=(hT sT3 ⟨[],wT⟩ 1 0 1 [] false).Laid by decide)];rfl
theorem eT7:doP (hT sT3 ⟨aW [] wT,[]⟩ 1 1 1 [] false) 4 0=(hT sT3 ⟨aW [] wT,[]⟩ 1 1 1 [⟨2,2,0⟩] false,0):=by rw [doP_4 rfl,show dZ (hT sT3 ⟨aW [] wT,[]⟩ 1 1 1 [] false).Told (hT sT3 ⟨aW [] wT,[]⟩ 1 1 1 [] false).S.Out (hT sT3 ⟨aW [] wT,[]⟩ 1 1 1 [] false).Safe=([⟨2,2,0⟩],0) by decide +kernel,if_neg (by simp)];rfl
theorem eT8:doP (hT sT3 ⟨aW [] wT,[]⟩ 1 1 1 [⟨2,2,0⟩] false) 5 0=(hT (bh meetN dI) ⟨aW [] wT,[]⟩ 0 0 0 [⟨2,2,0⟩] true,0):=by rw [doP_5 rfl,if_neg (show ¬ ((0:Int)<0∨((hT sT3 ⟨aW [] wT,[]⟩ 1 1 1 [⟨2,2,0⟩] false).D.Wait.length:Int)<0) by decide)];rfl
theorem newT:cB meetN dI (aW [] wT)=(bh meetN dI,0):=by
 have g0:cW (aW [] wT) 0=none:=by decide +kernel
 have g1:cW (aW [] wT) 1=none:=by decide +kernel
 unfold cB dF;rw [g0,g1]
theorem up_of {h:Shop} (hd:h.Down=true) {s t:State} {E u:Nat} {l:List Choice} (hn:cB h.N h.Items h.D.Sectors=(s,E)) (hsc:bc (E:Int) (h.D.Sectors.drop 120)=(l,u)) (htr:d5 h.N l=0) (hrp:bP h.N h.Items s l=(t,0)) (a:Int) :
  doP h 6 a=({ h with S:=t,Logged:=t.Choices.length,Safe:=t.Choices.length,Epoch:=(E:Int),Next:=(u:Int),Down:=false },0):=by
 rw [gw hd,if_neg (show ¬ (6:Int)≠6 by decide),hn]
 simp only
 rw [hsc]
 simp only
 rw [htr,if_neg (by simp),hrp,if_neg (by simp)]
theorem eT9:doP (hT (bh meetN dI) ⟨aW [] wT,[]⟩ 0 0 0 [⟨2,2,0⟩] true) 6 0=(hT sT4 ⟨aW [] wT,[]⟩ 1 1 1 [⟨2,2,0⟩] false,0):=by
 have hsc:bc ((0:Nat):Int) ((aW [] wT).drop 120)=([⟨2,1⟩],1):=by decide +kernel
 have htr:d5 meetN [⟨2,1⟩]=0:=ye ⟨by decide +kernel,by decide,fun c hc=>by simp only [LB] at hc;subst hc;exact ⟨by decide,by decide,by decide,by decide,by decide⟩⟩;have hrp:bP meetN dI (bh meetN dI) [⟨2,1⟩]=(sT4,0):=Hd srcT (ru srcT.S) (rM _ _) (by decide) (f:=10) (by decide +kernel);exact up_of (h:=hT (bh meetN dI) ⟨aW [] wT,[]⟩ 0 0 0 [⟨2,2,0⟩] true) rfl newT hsc htr hrp 0
theorem eT10:doP (hT sT4 ⟨aW [] wT,[]⟩ 1 1 1 [⟨2,2,0⟩] false) 4 0=(hT sT4 ⟨aW [] wT,[]⟩ 1 1 1 [⟨2,2,0⟩] false,0):=by rw [doP_4 rfl,show dZ (hT sT4 ⟨aW [] wT,[]⟩ 1 1 1 [⟨2,2,0⟩] false).Told (hT sT4 ⟨aW [] wT,[]⟩ 1 1 1 [⟨2,2,0⟩] false).S.Out (hT sT4 ⟨aW [] wT,[]⟩ 1 1 1 [⟨2,2,0⟩] false).Safe=([],0) by decide +kernel,if_neg (by simp)];rfl
theorem wq:kz=some true:=by
 unfold kz;rw [EA,Jf];simp only [dL,Kr];rw [Bf srcT _ (by simp),Kr];have hr:runP (newH meetN dI) [⟨1,1⟩,⟨1,1⟩,⟨1,1⟩,⟨4,0⟩,⟨2,0⟩,⟨3,0⟩,⟨4,0⟩,⟨5,0⟩,⟨6,0⟩,⟨4,0⟩]=hT sT4 ⟨aW [] wT,[]⟩ 1 1 1 [⟨2,2,0⟩] false:=by simp only [runP];rw [nx (by omega) eT1,nx (by omega) eT2,nx (by omega) eT3,nx (by omega) eT4,nx (by omega) eT5,nx (by omega) eT6,nx (by omega) eT7,nx (by omega) eT8,nx (by omega) eT9,nx (by omega) eT10]
 simp only [hr,yM];rfl
theorem Dj (n:Net) (items:List (List Item)) (script:List Happening) (gn:gNet n) (gi:gL (gL dc) items) (gs:gL tz script) (hb:mNet n+(mL (mL cy) items+(mL rk script+0))<=1048576):qU n items script=some true:=by
 have hio:=Ik (show mNet n<=1048576 by omega);have key:∀ z:List Happening,z.length<=60->iA n items z=some true:=fun z hz=>by
  by_cases hs:cj n items=0
  ·exact Im ⟨jR hs,hs,hio,gi⟩ z hz wq
  ·unfold iA;rw [HG hio hs,Kr,wq,Kr];dsimp only;rw [if_pos (by simp [hs])];rfl
 unfold qU;by_cases h:60<script.length
 ·rw [if_pos (by simp;omega),show sub script 0 60=some (script.take 60) from sub_0 (j:=60) (by omega),Kr];exact key _ (by rw [KR];omega)
 ·rw [if_neg (by simp;omega)];exact key _ (by omega)
end Go.Proofs.YtnlmagdmmjkklaaGreat
namespace Go.Proofs.YtnlmagdmmjkklaaGreat.shopLaysLaw
open Go.ChangeShapes Go.WideShapes Go.ChangeAt Go.RowKit
theorem own:ownKnob Tryz.prog.godebug=none:=by kernel_rfl
theorem laid:laidOutB Tryz.prog=true:=by kernel_rfl
theorem ok:(Tryz.f5.params.toList.all fun t=>Tryz.prog.readableRec t && decide (t<Tryz.prog.types.size))=true:=by kernel_rfl
set_option maxRecDepth 100000 in
theorem contract (H:Type) (enc:TypeId × Value->H) (W:World) (base:Nat) (args:Array Value) (ds gs:List (DataW H)) (before:List MemPlace)
  (hval:∀ (j:Nat) t v,Tryz.f5.params[j]?=some t->args[j]?=some v->Value.okWide Tryz.prog W .any base t v)
  (hW:DataW.Whole enc Tryz.prog Tryz.f5.params.toList Rows.shopLaysSpec.vars false W args.toList ds gs before) (hk:Rows.uptoSmall H (ds++gs)=true) :
  Calls Tryz.prog 5 args W fun e W'=>∃ v,e=.returned v/\Rows.shopLaysSpec.post enc Tryz.prog Tryz.f5 false true false false W args v W':=by
 have hW':=hW
 obtain ⟨p,q,hA0,hV,rfl,hfz,hnd⟩:=hW
 have hA:DataW.TrodAll enc Tryz.prog W 0 (fun _=>true) true Tryz.f5.params.toList args.toList ds p:=hA0
 rw [Tryz.params5] at hA hval
 obtain ⟨v0,vs0,d0,ds0,p0,q0,hargs,rfl,rfl,h0,r0⟩:=trodAll_cons hA
 obtain ⟨v1,vs1,d1,ds1,p1,q1,rfl,rfl,rfl,h1,r1⟩:=trodAll_cons r0
 obtain ⟨v2,vs2,d2,ds2,p2,q2,rfl,rfl,rfl,h2,r2⟩:=trodAll_cons r1
 obtain ⟨rfl,rfl,rfl⟩:=trodAll_nil r2
 obtain rfl:args=#[v0,v1,v2]:=by cases args;simp_all
 obtain ⟨rfl,rfl⟩:=trodVars_none hV
 obtain ⟨x0,a0,g0,m0⟩:=Opn.args on24 Tryz.underlying24 (hval 0 _ v0 rfl rfl) h0
 obtain ⟨x1,a1,g1,m1⟩:=Opn.arg on25 (by rw [Tryz.underlying25]) (hval 1 _ v1 rfl rfl) h1
 obtain ⟨x2,a2,g2,m2⟩:=Opn.arg on26 (by rw [Tryz.underlying26]) (hval 2 _ v2 rfl rfl) h2
 have hb:Rows.uptoBulkAll ([d0,d1,d2]:List (DataW H))<=1048576:=of_decide_eq_true hk
 simp only [Rows.uptoBulkAll] at hb
 refine Gi laid Tryz.underlying4 (by kernel_rfl) ok rfl rfl rfl rfl hW' (av:=[_,_,_]) (.cons a0 (.cons a1 (.cons a2 (.nil)))) (CA (Dj x0 x1 x2 g0 g1 g2 (by omega)))
set_option maxRecDepth 100000 in
theorem lifted (os:Os) (started:os.Started) (H:Type) (enc:TypeId × Value->H) (F:Stop.Interp) :
  ReturnsInHanded {} Tryz.checked os 5 .any ((Rows.OpenSpec.upto Rows.shopLaysSpec).pre6 enc Tryz.prog Tryz.f5 Rows.shopLaysUptoRow.domain false) (((Rows.OpenSpec.upto Rows.shopLaysSpec).at F).post enc Tryz.prog Tryz.f5 false true false false):=by
 refine returnsInHanded_of_cond (C:=Tryz.checked) (s:=Rows.OpenSpec.upto Rows.shopLaysSpec) (k:=Rows.uptoSmall) rfl own started (by kernel_rfl) Tryz.func5
  (OpenSpec.witness (enc:=enc) (C:=Tryz.checked) (s:=Rows.OpenSpec.upto Rows.shopLaysSpec) (k:=Rows.uptoSmall) rfl false ⟨#[],#[.agg #[.slice none 0 0,.int .i64 0,.int .i64 0],.slice none 0 0,.slice none 0 0],[]⟩ 8 (by kernel_rfl) (by kernel_rfl) (by kernel_rfl)
   (x:=([.agg [.nil,.lit (.int .i64 0),.lit (.int .i64 0)],.nil,.nil],[],[])) (by kernel_rfl) rfl (by kernel_rfl)) ?_
 intro W base args ds gs before hval hW _ hk _
 exact contract H enc W base args ds gs before hval hW hk
theorem proved:Rows.ShopLaysUptoSaid :=
 OpenClaim.holds_of_cond 5 Tryz.f5 rfl rfl rfl rfl rfl rfl rfl ⟨rfl,rfl,rfl,rfl,rfl⟩ rfl rfl rfl rfl rfl (by kernel_rfl) Tryz.func5 (by kernel_rfl)
  (of_decide_eq_true (by kernel_rfl)) (by unfold Func.isWrapper;first | (rw [if_pos (by decide +kernel)];kernel_rfl) | (rw [if_neg (by decide +kernel)];exact ⟨rfl,rfl⟩))
  (fun os started H enc _ F=>lifted os started H enc F)
#print axioms proved
end Go.Proofs.YtnlmagdmmjkklaaGreat.shopLaysLaw
