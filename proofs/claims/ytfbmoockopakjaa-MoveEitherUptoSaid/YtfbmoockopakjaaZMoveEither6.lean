/-
  Part 6 of a proof: what the code computes, and the law of it; put together by a program of ours (wip/decl.py) out of texts of ours.
-/
import Derived.Test.YtfbmoockopakjaaZMoveEither5
namespace Go.Proofs.Ytfbmoockopakjaa
set_option linter.unusedVariables false
set_option linter.unusedSimpArgs false
theorem putR_len (y:Item):∀ (l:List Int) (R:List (List Item)),(putR y l R).length=R.length
  | [],R=>rfl
  | r::l,R=>by
    show (putR y l (R.set r.toNat (R.getD r.toNat []++[y]))).length=_
    rw [putR_len y l];simp
theorem getD_set {α:Type} (l:List α) (i j:Nat) (a z:α) (h:i<l.length):(l.set i a).getD j z=if j=i then a else l.getD j z:=by
  rw [List.getD_eq_getElem?_getD,List.getElem?_set]
  by_cases e:j=i
  · subst e;rw [if_pos rfl,if_pos h,if_pos rfl];rfl
  · rw [if_neg (fun x=>e x.symm),if_neg e,List.getD_eq_getElem?_getD]
theorem putR_get (y:Item):∀ (l:List Int) (R:List (List Item)),l.Nodup→(∀ r,r∈l→0≤r∧r<R.length)→∀ j:Nat,(putR y l R).getD j []=if (j:Int)∈l then R.getD j []++[y] else R.getD j []
  | [],R,_,_,j=>by simp [putR]
  | r :: l,R,hd,hl,j=>by
    obtain ⟨hn,hd⟩:=List.nodup_cons.1 hd
    have hr:=hl r List.mem_cons_self
    show (putR y l (R.set r.toNat (R.getD r.toNat []++[y]))).getD j []=_
    rw [putR_get y l _ hd (fun q hq=>by have:=hl q (List.mem_cons_of_mem _ hq);simpa using this) j,getD_set _ _ _ _ _ (by omega)]
    by_cases e:(j:Int)=r
    · have ej:j=r.toNat:=by omega
      have hjn:¬ (j:Int)∈l:=by rw [e];exact hn
      rw [if_neg hjn,if_pos ej,if_pos (by rw [e];exact List.mem_cons_self),← ej]
    · have ej:¬ j=r.toNat:=by omega
      rw [if_neg ej]
      have:((j:Int)∈r::l) ↔ (j:Int)∈l:=by simp [e]
      simp only [this]
theorem putR_snoc (y:Item) (l:List Int) (r:Int) (R:List (List Item)):putR y (l++[r]) R=(putR y l R).set r.toNat ((putR y l R).getD r.toNat []++[y]):=by
  unfold putR;rw [List.foldl_append];rfl
theorem ring_Put_eq (l:List Item) (R:Int) (y:Item) (h1:1≤R) (h2:R≤6) (h:(l.length:Int)<R):ring_Put l R y=some (l++[y],0):=by
  unfold ring_Put
  rw [if_neg (by simp;omega),if_neg (by simp;omega),if_neg (by simp;omega)]
  unfold Zla
  rw [app_ok (by simp;omega),Option.bind_some,List.nil_append,app_ok (by simp;omega)];rfl
theorem ring_Take_eq (x:Item) (l:List Item) (h:(x::l).length≤6):ring_Take (x::l)=some (x,l,0):=by
  unfold ring_Take
  have h':l.length+1≤6:=by simpa using h
  rw [if_neg (by simp;omega),if_neg (by simp;omega)]
  have h1:idx (x::l) 0=some x:=rfl
  have h2:sub (x::l) 1 (((x::l).length:Nat):Int)=some l:=by
    have:=sub_end (xs:=x::l) (i:=1) (by simp)
    simpa using this
  unfold Zla
  rw [h1,Option.bind_some,h2,Option.bind_some,app_ok (by simp;omega)];rfl
section
variable {n:Net} {items:List (List Item)} {B:Int} {s:State}
def takenR (n:Net) (s:State) (i k:Nat):List (List Item):=if (nodeN n i).Kind=1 then s.Rings else s.Rings.set (ringN (nodeN n i) k) (s.Rings.getD (ringN (nodeN n i) k) []).tail
theorem takenR_len (i k:Nat):(takenR n s i k).length=s.Rings.length:=by unfold takenR;split<;>simp
theorem takenR_get (hR:RightN n) (hrg:(s.Rings.length:Int)=n.Rings) {i k:Nat} (hi:i<n.Nodes.length) (hk:k<Zva (nodeN n i)) (j:Nat) :
    (takenR n s i k).getD j []=if (nodeN n i).Kind≠1∧j=ringN (nodeN n i) k then (s.Rings.getD j []).tail else s.Rings.getD j []:=by
  unfold takenR
  by_cases h1:(nodeN n i).Kind=1
  · rw [if_pos h1,if_neg (fun e=>e.1 h1)]
  · obtain ⟨_,b0,b1⟩:=ring_in hR hi (lane_lt hR hi hk h1)
    rw [if_neg h1,getD_set _ _ _ _ _ (by unfold ringN;omega)]
    by_cases e:j=ringN (nodeN n i) k
    · rw [if_pos e,if_pos ⟨h1,e⟩,e]
    · rw [if_neg e,if_neg (fun x=>e x.2)]
theorem can_head {i k:Nat} (hc:canM n items s i k=true):∃ it,headI n items s i k=some it∧roomy n s (outsI (nodeN n i) it.Key)=true∧((nodeN n i).Kind=6→s.Choices.length≠500)∧((nodeN n i).Kind=8→s.Out.length≠2000):=by
  unfold canM at hc
  cases h:headI n items s i k with
  | none=>rw [h] at hc;cases hc
  | some it =>
    rw [h] at hc
    simp only [Bool.and_eq_true,Bool.not_eq_true',decide_eq_false_iff_not] at hc
    exact ⟨it,rfl,hc.1.1,fun h6 e=>hc.1.2 ⟨h6,e⟩,fun h8 e=>hc.2 ⟨h8,e⟩⟩
theorem puts_loop (hR:RightN n) (a2:List Memory) (a3:List Int) (l:List Int) (a5:List Choice) (M:Memory × Item × Int) (q:Nat) (O:List Item) (R:List (List Item)) (hd:l.Nodup) (hl:∀ r,r∈l→0≤r∧r<R.length∧((R.getD r.toNat []).length:Int)<n.Room) (hll:l.length≤16):∀ (m j:Nat),j+m=l.length →
    iter (fun ss:Int × (List (List Item))=>Z1a n a2 a3 l a5 M q O ss.1 ss.2) ((j:Int),putR M.2.1 (l.take j) R)=some (a3,putR M.2.1 l R,a2.set q M.1,a5,O)
  | 0,j,h=>by
    have hj:j=l.length:=by omega
    subst hj
    have:Z1a n a2 a3 l a5 M q O (l.length:Int) (putR M.2.1 (l.take l.length) R)=some (.inr (a3,putR M.2.1 l R,a2.set q M.1,a5,O)):=by
      unfold Z1a
      rw [if_neg (by simp),List.take_length];rfl
    rw [J5a]
    simp only [this]
  | m + 1,j,h=>by
    have hlt:j<l.length:=by omega
    have hm:=hl _ (List.getElem_mem hlt)
    have htk:l.take (j+1)=l.take j++[l[j]]:=List.take_succ_eq_append_getElem hlt
    have hnd:(l.take j).Nodup:=hd.sublist (List.take_sublist _ _)
    have hnm:l[j] ∉ l.take j:=fun hmem=>by
      have:(l.take j++[l[j]]).Nodup:=by rw [← htk];exact hd.sublist (List.take_sublist _ _)
      rw [List.nodup_append] at this
      exact this.2.2 _ hmem _ (by simp) rfl
    have hlen:=putR_len M.2.1 (l.take j) R
    have hget:(putR M.2.1 (l.take j) R).getD l[j].toNat []=R.getD l[j].toNat []:=by
      rw [putR_get _ _ _ hnd (fun r hr=>⟨(hl r (List.mem_of_mem_take hr)).1,(hl r (List.mem_of_mem_take hr)).2.1⟩),if_neg (by rw [Int.toNat_of_nonneg hm.1];exact hnm)]
    have e:Z1a n a2 a3 l a5 M q O (j:Int) (putR M.2.1 (l.take j) R)=some (.inl (((j+1:Nat):Int),putR M.2.1 (l.take (j+1)) R)):=by
      unfold Z1a
      rw [if_pos (by simp;omega),Voa (List.getElem?_eq_getElem hlt),Option.bind_some,ixN_D hm.1 (by rw [hlen];exact hm.2.1),Option.bind_some,Zea [] (show l[j].toNat<_ by rw [hlen];omega),Option.bind_some,hget,
        ring_Put_eq _ _ _ hR.m1 hR.m2 hm.2.2,Option.bind_some,Option.bind_some,Zea [] (show l[j].toNat<_ by rw [hlen];omega),Option.bind_some,Qkb (by omega),htk,putR_snoc,hget]
    rw [J5a]
    simp only [e]
    exact puts_loop hR a2 a3 l a5 M q O R hd hl hll m (j+1) (by omega)
theorem puts_loop0 (hR:RightN n) (a2:List Memory) (a3:List Int) (l:List Int) (a5:List Choice) (M:Memory × Item × Int) (q:Nat) (O:List Item) (R:List (List Item)) (hd:l.Nodup) (hl:∀ r,r∈l→0≤r∧r<R.length∧((R.getD r.toNat []).length:Int)<n.Room) (hll:l.length≤16) :
    Vsa n a2 a3 R l a5 M q O=some (a3,putR M.2.1 l R,a2.set q M.1,a5,O):=puts_loop hR a2 a3 l a5 M q O R hd hl hll l.length 0 (by omega)
theorem do_eq (hS:RightS n items) (ok:OkS n items B s) {i k:Nat} (hi:i<n.Nodes.length) (hk:k<Zva (nodeN n i)) (hc:canM n items s i k=true) :
    Vha n items ⟨i,k⟩ s.At s.Rings s.Memory s.Choices s.Out=some ((doM n items s i k).At,(doM n items s i k).Rings,(doM n items s i k).Memory,(doM n items s i k).Choices,(doM n items s i k).Out):=by
  obtain ⟨it,hh,hroom,h500,h2000⟩:=can_head hc
  have hhd:=head_eq hS ok hi hk
  rw [hh] at hhd
  have hrg:=ok.rg
  have hR:=hS.toRightN
  have hlt:∀ r,r∈outsI (nodeN n i) it.Key→0≤r∧r<(takenR n s i k).length∧(((takenR n s i k).getD r.toNat []).length:Int)<n.Room:=fun r hr=>by
    have h1:=hR.outR i hi r (outs_ok hR hi _ r hr)
    refine ⟨h1.1,by rw [takenR_len];omega,?_⟩
    have h2:=List.all_eq_true.1 hroom r hr
    have h2:=of_decide_eq_true h2
    rw [takenR_get hR hrg hi hk]
    split
    · rw [List.length_tail];omega
    · exact h2
  have hol:(outsI (nodeN n i) it.Key).length≤16:=by
    unfold outsI;split
    · simp
    · exact out_len hR hi
  have tail:∀ (At:List Int) (R:List (List Item)),R=takenR n s i k→Vda n ⟨i,k⟩ (nodeN n i) (it,true) s.Memory s.Choices s.Out At R =
      some (At,putR (stepM n s i it).2 (outsI (nodeN n i) it.Key) R,s.Memory.set i (stepM n s i it).1,if (nodeN n i).Kind=6 then s.Choices++[⟨i,k⟩] else s.Choices,if (nodeN n i).Kind=8 then s.Out++[(stepM n s i it).2] else s.Out):=fun At R hRe=>by
    subst hRe
    have hmi:i<s.Memory.length:=by rw [ok.mm];exact hi
    have hm:=Zea (⟨0,[],0⟩:Memory) hmi
    have hdep:=head_dep hS ok hh
    have hch:=ok.ch
    have k3:∀ (z22:Int) (z23:List Choice),(⟨it.Key,it.Val,z22⟩:Item)=chD (nodeN n i) s it→0≤z22→Vca n ⟨i,k⟩ (nodeN n i) (it,true) s.Memory s.Out At (takenR n s i k) (outsI (nodeN n i) it.Key) z22 z23 =
        some (At,putR (stepM n s i it).2 (outsI (nodeN n i) it.Key) (takenR n s i k),s.Memory.set i (stepM n s i it).1,z23,if (nodeN n i).Kind=8 then s.Out++[(stepM n s i it).2] else s.Out):=fun z22 z23 hz hz0=>by
      have hst:Y2a (nodeN n i).Kind (nodeN n i).A (s.Memory.getD i ⟨0,[],0⟩) (⟨it.Key,it.Val,z22⟩:Item)=some ((stepM n s i it).1,(stepM n s i it).2,0):=by
        rw [step_P _ _ _ _ (ok.mem i _ hm).1 hz0 (hS.kind i hi),hz];rfl
      unfold Vca
      simp only
      rw [ixN_at hmi,Option.bind_some,hm,Option.bind_some,hst,Option.bind_some,Option.bind_some,hm,Option.bind_some]
      by_cases h8:(nodeN n i).Kind=8
      · have:=ok.out
        rw [if_pos (by simpa using h8),app_ok (by simp;omega),Option.bind_some,puts_loop0 hR _ _ _ _ _ _ _ _ (outs_nd hR hi _) hlt hol,if_pos h8]
      · rw [if_neg (by simpa using h8),puts_loop0 hR _ _ _ _ _ _ _ _ (outs_nd hR hi _) hlt hol,if_neg h8]
    unfold Vda
    rw [move_outs_eq hR hi,Option.bind_some]
    by_cases h6:(nodeN n i).Kind=6
    · rw [if_pos (by simpa using h6),app_ok (by simp;omega),Option.bind_some,k3 _ _ (by unfold chD;rw [if_pos h6];simp) (by omega),if_pos h6]
    · rw [if_neg (by simpa using h6),k3 _ _ (by unfold chD;rw [if_neg h6]) hdep.1,if_neg h6]
  unfold Vha doM
  simp only [hh]
  rw [Voa (nodeN_get hi),Option.bind_some,hhd,Option.bind_some]
  by_cases h1:(nodeN n i).Kind=1
  · rw [if_pos (by simpa using h1)]
    obtain ⟨a0,a1,a2,a3,a4,a5⟩:=at_ok hS ok hi h1
    rw [ixN_D a0 a1,Option.bind_some,Zea 0 (show (nodeN n i).A.toNat<s.At.length by omega),Option.bind_some,Option.bind_some,Zea 0 (show (nodeN n i).A.toNat<s.At.length by omega),Option.bind_some]
    simp only
    rw [tail _ _ (by unfold takenR;rw [if_pos h1]),if_pos h1,if_pos h1,Yqa (by omega) (by omega)]
  · rw [if_neg (by simpa using h1)]
    have hkl:=lane_lt hR hi hk h1
    obtain ⟨_,b0,b1⟩:=ring_in hR hi hkl
    have hd0:idx (nodeN n i).In (k:Int)=some ((nodeN n i).In.getD k 0):=Voa (Zea 0 hkl)
    have hrl:((nodeN n i).In.getD k 0).toNat<s.Rings.length:=by omega
    unfold headI at hh
    rw [if_neg h1] at hh
    obtain ⟨tl,htl⟩:∃ tl,s.Rings.getD (ringN (nodeN n i) k) []=it::tl:=by
      cases hq:s.Rings.getD (ringN (nodeN n i) k) [] with
      | nil=>rw [hq] at hh;cases hh
      | cons y ys=>rw [hq] at hh;cases hh;exact ⟨ys,rfl⟩
    have hrm:=ok.room _ _ (Zea [] hrl)
    have hm2:=hS.m2
    rw [hd0,Option.bind_some,Option.bind_some,ixN_D b0 (by omega),Option.bind_some,Zea [] hrl,Option.bind_some]
    have htl':s.Rings.getD ((nodeN n i).In.getD k 0).toNat []=it::tl:=htl
    rw [htl'] at hrm ⊢
    rw [ring_Take_eq it tl (by omega),Option.bind_some,Option.bind_some,Zea [] hrl,Option.bind_some]
    simp only
    rw [tail _ _ (by unfold takenR;rw [if_neg h1,htl];rfl),if_neg h1,if_neg h1,htl]
    rfl
theorem do_rings (hR:RightN n) (hrg:(s.Rings.length:Int)=n.Rings) {i k:Nat} (hi:i<n.Nodes.length) (hk:k<Zva (nodeN n i)) {it:Item} (hh:headI n items s i k=some it) (j:Nat) :
    (doM n items s i k).Rings.getD j []=(if (nodeN n i).Kind≠1∧j=ringN (nodeN n i) k then (s.Rings.getD j []).tail else s.Rings.getD j [])++if (j:Int)∈outsI (nodeN n i) it.Key then [(stepM n s i it).2] else []:=by
  unfold doM
  simp only [hh]
  show (putR (stepM n s i it).2 (outsI (nodeN n i) it.Key) (takenR n s i k)).getD j []=_
  rw [putR_get _ _ _ (outs_nd hR hi _) (fun r hr=>by
    have:=hR.outR i hi r (outs_ok hR hi _ r hr)
    rw [takenR_len];omega),takenR_get hR hrg hi hk]
  split<;>simp
theorem do_len {i k:Nat}:(doM n items s i k).Rings.length=s.Rings.length∧(doM n items s i k).At.length=s.At.length∧(doM n items s i k).Memory.length=s.Memory.length:=by
  unfold doM
  split
  · exact ⟨rfl,rfl,rfl⟩
  · refine ⟨?_,?_,?_⟩
    · simp only;rw [putR_len];split<;>simp
    · simp only;split<;>simp
    · simp
theorem get_D {α:Type} {l:List α} {k:Nat} {a:α} (z:α) (h:l[k]?=some a):l.getD k z=a:=by rw [List.getD_eq_getElem?_getD,h];rfl
theorem maxD_le {a b c:Int} (h1:a≤c) (h2:b≤c):maxD a b≤c:=by unfold maxD;split<;>omega
theorem le_maxD (a b:Int):a≤maxD a b∧b≤maxD a b:=by unfold maxD;split<;>omega
theorem do_ch {i k:Nat} {it:Item} (hh:headI n items s i k=some it):(doM n items s i k).Choices=if (nodeN n i).Kind=6 then s.Choices++[⟨i,k⟩] else s.Choices:=by unfold doM;simp only [hh]
theorem do_out {i k:Nat} {it:Item} (hh:headI n items s i k=some it):(doM n items s i k).Out=if (nodeN n i).Kind=8 then s.Out++[(stepM n s i it).2] else s.Out:=by unfold doM;simp only [hh]
theorem do_mem {i k:Nat} {it:Item} (hh:headI n items s i k=some it):(doM n items s i k).Memory=s.Memory.set i (stepM n s i it).1:=by unfold doM;simp only [hh]
theorem do_at {i k:Nat} {it:Item} (hh:headI n items s i k=some it):(doM n items s i k).At=if (nodeN n i).Kind=1 then s.At.set (nodeN n i).A.toNat (s.At.getD (nodeN n i).A.toNat 0+1) else s.At:=by unfold doM;simp only [hh]
theorem chD_dep (hS:RightS n items) (ok:OkS n items B s) {i k:Nat} {it:Item} (hh:headI n items s i k=some it):0≤(chD (nodeN n i) s it).Dep∧(chD (nodeN n i) s it).Dep≤(doM n items s i k).Choices.length:=by
  have:=head_dep hS ok hh
  rw [do_ch hh]
  unfold chD
  split
  · simp<;>omega
  · exact this
theorem step_dep (hS:RightS n items) (ok:OkS n items B s) {i k:Nat} (hi:i<n.Nodes.length) {it:Item} (hh:headI n items s i k=some it) :
    0≤(stepM n s i it).2.Dep∧(stepM n s i it).2.Dep≤(doM n items s i k).Choices.length∧(stepM n s i it).1.Dep≤(doM n items s i k).Choices.length:=by
  have h1:=chD_dep hS ok hh
  have hm:=Zea (⟨0,[],0⟩:Memory) (show i<s.Memory.length by rw [ok.mm];exact hi)
  have h2:=(ok.mem i _ hm).2.1
  have h3:(s.Choices.length:Int)≤(doM n items s i k).Choices.length:=by
    rw [do_ch hh];split
    · simp<;>omega
    · exact Int.le_refl _
  have h4:=(ok.mem i _ hm).1.dep
  have h5:=stepP_dep (nodeN n i).Kind (nodeN n i).A (memN s i) (chD (nodeN n i) s it)
  have e1:(stepM n s i it)=stepP (nodeN n i).Kind (nodeN n i).A (memN s i) (chD (nodeN n i) s it):=rfl
  have e2:memN s i=s.Memory.getD i ⟨0,[],0⟩:=rfl
  rw [e1,h5.1,h5.2]
  have h6:=le_maxD (memN s i).Dep (chD (nodeN n i) s it).Dep
  refine ⟨?_,?_,?_⟩
  · split
    · omega
    · exact h1.1
  · split
    · exact maxD_le (by rw [e2];omega) h1.2
    · exact h1.2
  · split
    · exact maxD_le (by rw [e2];omega) h1.2
    · rw [e2];omega
theorem do_ok (hS:RightS n items) (ok:OkS n items B s) {i k:Nat} (hi:i<n.Nodes.length) (hk:k<Zva (nodeN n i)) (hc:canM n items s i k=true) (hB0:0≤B) (hB:B<4611686018427387904):OkS n items (B+1) (doM n items s i k):=by
  obtain ⟨it,hh,hroom,h500,h2000⟩:=can_head hc
  obtain ⟨l1,l2,l3⟩:=do_len (n:=n) (items:=items) (s:=s) (i:=i) (k:=k)
  have hR:=hS.toRightN
  have hmi:i<s.Memory.length:=by rw [ok.mm];exact hi
  have hm:=Zea (⟨0,[],0⟩:Memory) hmi
  have hcd:=chD_dep hS ok hh
  obtain ⟨d0,d1,d2⟩:=step_dep hS ok hi hh
  have hcl:(s.Choices.length:Int)≤(doM n items s i k).Choices.length:=by
    rw [do_ch hh];split
    · simp<;>omega
    · exact Int.le_refl _
  have hrings:∀ (r:Nat) (l:List Item),(doM n items s i k).Rings[r]?=some l→r<s.Rings.length∧l=(if (nodeN n i).Kind≠1∧r=ringN (nodeN n i) k then (s.Rings.getD r []).tail else s.Rings.getD r [])++if (r:Int)∈outsI (nodeN n i) it.Key then [(stepM n s i it).2] else []:=fun r l hl=>by
    have hr:=(List.getElem?_eq_some_iff.1 hl).1
    rw [l1] at hr
    exact ⟨hr,by rw [← get_D [] hl,do_rings hR ok.rg hi hk hh]⟩
  refine ⟨by rw [l2];exact ok.at_,by rw [l1];exact ok.rg,by rw [l3];exact ok.mm,?_,?_,fun a p hp=>?_,fun r l hl=>?_,fun r l x hl hx=>?_,fun j m hj=>?_,fun c hcm=>?_,fun x hx=>?_⟩
  · rw [do_ch hh]
    have:=ok.ch
    split
    · rename_i h6;have:=h500 h6;simp;omega
    · exact this
  · rw [do_out hh]
    have:=ok.out
    split
    · rename_i h6;have:=h2000 h6;simp;omega
    · exact this
  · rw [do_at hh] at hp
    split at hp
    · rename_i h1
      obtain ⟨a0,a1,a2,a3,a4,a5⟩:=at_ok hS ok hi h1
      rw [List.getElem?_set] at hp
      split at hp
      · rename_i e
        split at hp
        · cases hp
          unfold headI at hh
          rw [if_pos h1] at hh
          have:=(List.getElem?_eq_some_iff.1 hh).1
          rw [← e]
          omega
        · cases hp
      · exact ok.atP a p hp
    · exact ok.atP a p hp
  · obtain ⟨hr,rfl⟩:=hrings r l hl
    have h1:=ok.room r _ (Zea [] hr)
    have h4:(if (nodeN n i).Kind≠1∧r=ringN (nodeN n i) k then (s.Rings.getD r []).tail else s.Rings.getD r []).length≤(s.Rings.getD r []).length:=by
      split
      · rw [List.length_tail];omega
      · exact Nat.le_refl _
    rw [List.length_append]
    by_cases hin:(r:Int)∈outsI (nodeN n i) it.Key
    · have h2:=of_decide_eq_true (List.all_eq_true.1 hroom _ hin)
      rw [Int.toNat_natCast] at h2
      rw [if_pos hin,List.length_singleton]
      omega
    · rw [if_neg hin,List.length_nil]
      omega
  · obtain ⟨hr,rfl⟩:=hrings r l hl
    rcases List.mem_append.1 hx with hx | hx
    · have hx':x∈s.Rings.getD r []:=by
        split at hx
        · exact List.mem_of_mem_tail hx
        · exact hx
      have:=ok.depR r _ x (Zea [] hr) hx'
      omega
    · split at hx
      · simp at hx;subst hx;exact ⟨d0,d1⟩
      · cases hx
  · rw [do_mem hh,List.getElem?_set] at hj
    split at hj
    · rename_i e
      subst e
      first
      | (rw [if_pos hmi] at hj)
      | skip
      · cases hj
        obtain ⟨q1,q2⟩:=stepP_ok (k:=(nodeN n i).Kind) (f:=(nodeN n i).A) (x:=chD (nodeN n i) s it) (ok.mem i _ hm).1 hcd.1 (hS.kind i hi) B hB0 (ok.mem i _ hm).2.2 hB
        exact ⟨q1,d2,q2⟩
    · obtain ⟨q1,q2,q3⟩:=ok.mem j m hj
      exact ⟨q1,by omega,fun y hy=>by have:=q3 y hy;omega⟩
  · rw [do_ch hh] at hcm
    split at hcm
    · rename_i h6
      rcases List.mem_append.1 hcm with h | h
      · exact ok.cho c h
      · simp at h;subst h
        have:k<(nodeN n i).In.length:=by unfold Zva at hk;rw [if_pos h6] at hk;exact hk
        exact ⟨by simp,by simp;omega,by simpa using h6,by simp,by simpa using this⟩
    · exact ok.cho c hcm
  · rw [do_out hh] at hx
    split at hx
    · rcases List.mem_append.1 hx with h | h
      · have:=ok.depO x h;omega
      · simp at h;subst h;exact ⟨d0,d1⟩
    · have:=ok.depO x hx;omega
end
end Go.Proofs.Ytfbmoockopakjaa
namespace Go.Proofs.Ytfbmoockopakjaa
set_option linter.unusedVariables false
set_option linter.unusedSimpArgs false
structure Mach (I M T:Type) where
  key:I→Int
  step:Nat→M→I→M × I
  stamp:T→I→I
  tick:T→Nat→Nat→T
  src:Nat→List I
structure MSt (I M T:Type) where
  pos:Nat→Nat
  rg:Nat→List I
  mm:Nat→M
  out:List I
  tr:T
def upd {α:Type} (f:Nat→α) (i:Nat) (a:α):Nat→α:=fun j=>if j=i then a else f j
theorem upd_ne {α:Type} (f:Nat→α) {i j:Nat} (a:α) (h:j≠i):upd f i a j=f j:=by unfold upd;rw [if_neg h]
theorem upd_comm {α:Type} (f:Nat→α) {i j:Nat} (a b:α) (h:i≠j):upd (upd f i a) j b=upd (upd f j b) i a:=by
  funext q
  unfold upd
  by_cases h1:q=j
  · subst h1;rw [if_pos rfl,if_neg (fun e=>h e.symm),if_pos rfl]
  · rw [if_neg h1]
    by_cases h2:q=i
    · rw [if_pos h2,if_pos h2]
    · rw [if_neg h2,if_neg h2,if_neg h1]
section
variable {I M T:Type} (E:Mach I M T) (n:Net) (room:Option Nat)
def hdM (c:MSt I M T) (m:Nat × Nat):Option I:=if (nodeN n m.1).Kind=1 then (E.src (nodeN n m.1).A.toNat)[c.pos (nodeN n m.1).A.toNat]? else (c.rg (ringN (nodeN n m.1) m.2)).head?
def inM (c:MSt I M T) (m:Nat × Nat) (x:I):I:=if (nodeN n m.1).Kind=6 then E.stamp c.tr x else x
def mkM (c:MSt I M T) (m:Nat × Nat) (x:I):M × I:=E.step m.1 (c.mm m.1) (inM E n c m x)
def toM (m:Nat × Nat) (x:I):List Int:=outsI (nodeN n m.1) (E.key x)
def goM (c:MSt I M T) (m:Nat × Nat) (x:I):MSt I M T where
  pos:=if (nodeN n m.1).Kind=1 then upd c.pos (nodeN n m.1).A.toNat (c.pos (nodeN n m.1).A.toNat+1) else c.pos
  rg:=fun r=>(if (nodeN n m.1).Kind≠1∧r=ringN (nodeN n m.1) m.2 then (c.rg r).tail else c.rg r)++if (r:Int)∈toM E n m x then [(mkM E n c m x).2] else []
  mm:=upd c.mm m.1 (mkM E n c m x).1
  out:=if (nodeN n m.1).Kind=8 then c.out++[(mkM E n c m x).2] else c.out
  tr:=if (nodeN n m.1).Kind=6 then E.tick c.tr m.1 m.2 else c.tr
def okMv (m:Nat × Nat):Prop:=m.1<n.Nodes.length∧m.2<Zva (nodeN n m.1)
def fitM (c:MSt I M T) (l:List Int):Prop:=∀ R,room=some R→∀ r,r∈l→(c.rg r.toNat).length<R
def Ex (c:MSt I M T) (m:Nat × Nat) (c':MSt I M T):Prop:=okMv n m∧∃ x,hdM E n c m=some x∧fitM room c (toM E n m x)∧c'=goM E n c m x
inductive Run:MSt I M T→List (Nat × Nat)→MSt I M T→Prop
  | nil (c):Run c [] c
  | cons {c c1 d m w} (h:Ex E n room c m c1) (t:Run c1 w d):Run c (m::w) d
variable {E n room}
theorem Ex.det {c c1 c2:MSt I M T} {m:Nat × Nat} (h:Ex E n room c m c1) (h':Ex E n room c m c2):c1=c2:=by
  obtain ⟨_,x,h1,_,rfl⟩:=h
  obtain ⟨_,y,h2,_,rfl⟩:=h'
  rw [h1] at h2;cases h2;rfl
theorem Run.det {c c1 c2:MSt I M T} {w:List (Nat × Nat)} (h:Run E n room c w c1) (h':Run E n room c w c2):c1=c2:=by
  induction h with
  | nil c=>cases h';rfl
  | cons h t ih=>cases h' with | cons h2 t2=>rw [h.det h2] at ih;exact ih t2
theorem Run.app {c c1 d:MSt I M T} {u w:List (Nat × Nat)} (h:Run E n room c u c1) (h':Run E n room c1 w d):Run E n room c (u++w) d:=by
  induction h with
  | nil c=>exact h'
  | cons h t ih=>exact .cons h (ih h')
theorem Run.split {c d:MSt I M T}:∀ {u w:List (Nat × Nat)},Run E n room c (u++w) d→∃ c1,Run E n room c u c1∧Run E n room c1 w d:=by
  intro u
  induction u generalizing c with
  | nil=>intro w h;exact ⟨c,.nil c,h⟩
  | cons m u ih =>
    intro w h
    cases h with
    | cons h t =>
      obtain ⟨c1,h1,h2⟩:=ih t
      exact ⟨c1,.cons h h1,h2⟩
theorem Ex.free {c c1:MSt I M T} {m:Nat × Nat} (h:Ex E n room c m c1):Ex E n none c m c1:=by
  obtain ⟨h0,x,h1,_,h3⟩:=h
  exact ⟨h0,x,h1,fun R hR=>(by cases hR),h3⟩
theorem Run.free {c d:MSt I M T} {w:List (Nat × Nat)} (h:Run E n room c w d):Run E n none c w d:=by
  induction h with
  | nil c=>exact .nil c
  | cons h t ih=>exact .cons h.free ih
theorem ring_of (hR:RightN n) {m:Nat × Nat} (h:okMv n m) (h1:(nodeN n m.1).Kind≠1):((ringN (nodeN n m.1) m.2:Nat):Int)∈(nodeN n m.1).In:=by
  obtain ⟨b0,b1,b2⟩:=ring_in hR h.1 (lane_lt hR h.1 h.2 h1)
  unfold ringN
  rw [Int.toNat_of_nonneg b1];exact b0
theorem hd_after (hR:RightN n) (hsrc:∀ i j,i<n.Nodes.length→j<n.Nodes.length→(nodeN n i).Kind=1→(nodeN n j).Kind=1→(nodeN n i).A.toNat=(nodeN n j).A.toNat→i=j) {c:MSt I M T} {a b:Nat × Nat} {x y:I} (ha:okMv n a) (hb:okMv n b) (hne:a.1≠b.1) (hy:hdM E n c b=some y):hdM E n (goM E n c a x) b=some y:=by
  unfold hdM at hy ⊢
  by_cases h1:(nodeN n b.1).Kind=1
  · rw [if_pos h1] at hy ⊢
    rw [← hy]
    congr 1
    unfold goM
    simp only
    split
    · rename_i h2
      exact upd_ne _ _ (fun e=>hne (hsrc a.1 b.1 ha.1 hb.1 h2 h1 e.symm))
    · rfl
  · rw [if_neg h1] at hy ⊢
    have hrb:=ring_of hR hb h1
    unfold goM
    simp only
    have hno:¬ ((nodeN n a.1).Kind≠1∧ringN (nodeN n b.1) b.2=ringN (nodeN n a.1) a.2):=fun ⟨e1,e2⟩=>by
      have hra:=ring_of hR ha e1
      rw [← e2] at hra
      exact hne (hR.oneI a.1 b.1 _ ha.1 hb.1 hra hrb)
    rw [if_neg hno]
    cases hl:c.rg (ringN (nodeN n b.1) b.2) with
    | nil=>rw [hl] at hy;cases hy
    | cons z zs=>rw [hl] at hy;exact hy
theorem mk_after (hR:RightN n) {c:MSt I M T} {a b:Nat × Nat} {x y:I} (hne:a.1≠b.1) (h6:(nodeN n a.1).Kind≠6∨(nodeN n b.1).Kind≠6∨∀ t i k,E.tick t i k=t):mkM E n (goM E n c a x) b y=mkM E n c b y:=by
  have e1:(goM E n c a x).mm b.1=c.mm b.1:=upd_ne _ _ (fun e=>hne e.symm)
  have e2:inM E n (goM E n c a x) b y=inM E n c b y:=by
    unfold inM
    by_cases hb:(nodeN n b.1).Kind=6
    · rw [if_pos hb,if_pos hb]
      congr 1
      unfold goM
      simp only
      split
      · rename_i ha
        rcases h6 with h6 | h6 | h6
        · exact absurd ha h6
        · exact absurd hb h6
        · exact h6 _ _ _
      · rfl
    · rw [if_neg hb,if_neg hb]
  unfold mkM
  rw [e1,e2]
theorem to_out (hR:RightN n) {m:Nat × Nat} (h:okMv n m) (x:I):∀ r,r∈toM E n m x→r∈(nodeN n m.1).Out:=outs_ok hR h.1 _
theorem fit_after (hR:RightN n) {c:MSt I M T} {a b:Nat × Nat} {x y:I} (ha:okMv n a) (hb:okMv n b) (hne:a.1≠b.1) (hf:fitM room c (toM E n b y)):fitM room (goM E n c a x) (toM E n b y):=by
  intro R hRm r hr
  have h1:=hf R hRm r hr
  have hrb:=to_out hR hb y r hr
  have h0:=(hR.outR b.1 hb.1 r hrb).1
  unfold goM
  simp only
  have hno:¬ ((r.toNat:Nat):Int)∈toM E n a x:=fun e=>by
    rw [Int.toNat_of_nonneg h0] at e
    exact hne (hR.oneO a.1 b.1 r ha.1 hb.1 (to_out hR ha x r e) hrb)
  rw [if_neg hno,List.append_nil]
  split
  · rw [List.length_tail];omega
  · exact h1
theorem go_comm (hR:RightN n) (hsrc:∀ i j,i<n.Nodes.length→j<n.Nodes.length→(nodeN n i).Kind=1→(nodeN n j).Kind=1→(nodeN n i).A.toNat=(nodeN n j).A.toNat→i=j) {c:MSt I M T} {a b:Nat × Nat} {x y:I} (ha:okMv n a) (hb:okMv n b) (hne:a.1≠b.1) (h6:(nodeN n a.1).Kind≠6∨(nodeN n b.1).Kind≠6∨∀ t i k,E.tick t i k=t)
    (hx:hdM E n c a=some x) (hy:hdM E n c b=some y):goM E n (goM E n c a x) b y=goM E n (goM E n c b y) a x:=by
  have h6':(nodeN n b.1).Kind≠6∨(nodeN n a.1).Kind≠6∨∀ t i k,E.tick t i k=t:=by rcases h6 with h | h | h;exact .inr (.inl h);exact .inl h;exact .inr (.inr h)
  have m1:=mk_after (E:=E) hR (c:=c) (x:=x) (y:=y) hne h6
  have m2:=mk_after (E:=E) hR (c:=c) (x:=y) (y:=x) (fun e=>hne e.symm) h6'
  have e:∀ (p q:MSt I M T),p.pos=q.pos→p.rg=q.rg→p.mm=q.mm→p.out=q.out→p.tr=q.tr→p=q:=fun p q h1 h2 h3 h4 h5=>by cases p;cases q;simp_all
  refine e _ _ ?_ ?_ ?_ ?_ ?_
  · show (if (nodeN n b.1).Kind=1 then upd (goM E n c a x).pos _ ((goM E n c a x).pos _+1) else (goM E n c a x).pos)=(if (nodeN n a.1).Kind=1 then upd (goM E n c b y).pos _ ((goM E n c b y).pos _+1) else (goM E n c b y).pos)
    have p1:(goM E n c a x).pos=if (nodeN n a.1).Kind=1 then upd c.pos (nodeN n a.1).A.toNat (c.pos (nodeN n a.1).A.toNat+1) else c.pos:=rfl
    have p2:(goM E n c b y).pos=if (nodeN n b.1).Kind=1 then upd c.pos (nodeN n b.1).A.toNat (c.pos (nodeN n b.1).A.toNat+1) else c.pos:=rfl
    rw [p1,p2]
    by_cases h1:(nodeN n a.1).Kind=1<;>by_cases h2:(nodeN n b.1).Kind=1
    · have hA:(nodeN n a.1).A.toNat≠(nodeN n b.1).A.toNat:=fun e=>hne (hsrc _ _ ha.1 hb.1 h1 h2 e)
      simp only [h1,h2,if_true]
      rw [upd_ne _ _ (fun e=>hA e.symm),upd_ne _ _ hA]
      exact upd_comm _ _ _ hA
    · simp only [h1,h2,if_true,if_false]
    · simp only [h1,h2,if_true,if_false]
    · simp only [h1,h2,if_false]
  · funext r
    show (if (nodeN n b.1).Kind≠1∧r=ringN (nodeN n b.1) b.2 then ((goM E n c a x).rg r).tail else (goM E n c a x).rg r)++(if (r:Int)∈toM E n b y then [(mkM E n (goM E n c a x) b y).2] else []) =
      (if (nodeN n a.1).Kind≠1∧r=ringN (nodeN n a.1) a.2 then ((goM E n c b y).rg r).tail else (goM E n c b y).rg r)++(if (r:Int)∈toM E n a x then [(mkM E n (goM E n c b y) a x).2] else [])
    rw [m1,m2]
    have p1:(goM E n c a x).rg r=(if (nodeN n a.1).Kind≠1∧r=ringN (nodeN n a.1) a.2 then (c.rg r).tail else c.rg r)++if (r:Int)∈toM E n a x then [(mkM E n c a x).2] else []:=rfl
    have p2:(goM E n c b y).rg r=(if (nodeN n b.1).Kind≠1∧r=ringN (nodeN n b.1) b.2 then (c.rg r).tail else c.rg r)++if (r:Int)∈toM E n b y then [(mkM E n c b y).2] else []:=rfl
    rw [p1,p2]
    have ht:¬ (((r:Int)∈toM E n a x)∧((r:Int)∈toM E n b y)):=fun ⟨h1,h2⟩=>hne (hR.oneO _ _ _ ha.1 hb.1 (to_out hR ha x _ h1) (to_out hR hb y _ h2))
    have hi:¬ (((nodeN n a.1).Kind≠1∧r=ringN (nodeN n a.1) a.2)∧((nodeN n b.1).Kind≠1∧r=ringN (nodeN n b.1) b.2)):=fun ⟨⟨h1,h2⟩,h3,h4⟩=>by
      have q1:=ring_of hR ha h1
      have q2:=ring_of hR hb h3
      rw [← h2] at q1;rw [← h4] at q2
      exact hne (hR.oneI _ _ _ ha.1 hb.1 q1 q2)
    have hna:((nodeN n a.1).Kind≠1∧r=ringN (nodeN n a.1) a.2)→c.rg r≠[]:=fun ⟨h1,h2⟩ e=>by
      unfold hdM at hx;rw [if_neg h1,← h2,e] at hx;cases hx
    have hnb:((nodeN n b.1).Kind≠1∧r=ringN (nodeN n b.1) b.2)→c.rg r≠[]:=fun ⟨h1,h2⟩ e=>by
      unfold hdM at hy;rw [if_neg h1,← h2,e] at hy;cases hy
    have tl:∀ (l z:List I),l≠[]→(l++z).tail=l.tail++z:=fun l z h=>by cases l with | nil=>exact absurd rfl h | cons _ _=>rfl
    by_cases ca:(nodeN n a.1).Kind≠1∧r=ringN (nodeN n a.1) a.2
    · have cb:¬ ((nodeN n b.1).Kind≠1∧r=ringN (nodeN n b.1) b.2):=fun h=>hi ⟨ca,h⟩
      rw [if_pos ca,if_neg cb,if_pos ca,if_neg cb,tl _ _ (hna ca)]
      by_cases t1:(r:Int)∈toM E n a x
      · have t2:¬ (r:Int)∈toM E n b y:=fun h=>ht ⟨t1,h⟩
        rw [if_pos t1,if_neg t2,List.append_nil,List.append_nil]
      · rw [if_neg t1,List.append_nil,List.append_nil]
    · rw [if_neg ca,if_neg ca]
      by_cases cb:(nodeN n b.1).Kind≠1∧r=ringN (nodeN n b.1) b.2
      · rw [if_pos cb,if_pos cb,tl _ _ (hnb cb)]
        by_cases t1:(r:Int)∈toM E n a x
        · have t2:¬ (r:Int)∈toM E n b y:=fun h=>ht ⟨t1,h⟩
          rw [if_pos t1,if_neg t2,List.append_nil,List.append_nil]
        · rw [if_neg t1,List.append_nil,List.append_nil]
      · rw [if_neg cb,if_neg cb]
        by_cases t1:(r:Int)∈toM E n a x
        · have t2:¬ (r:Int)∈toM E n b y:=fun h=>ht ⟨t1,h⟩
          rw [if_pos t1,if_neg t2,List.append_nil,List.append_nil]
        · rw [if_neg t1,List.append_nil,List.append_nil]
  · show upd (upd c.mm a.1 _) b.1 _=upd (upd c.mm b.1 _) a.1 _
    rw [m1,m2]
    exact upd_comm _ _ _ hne
  · show (if (nodeN n b.1).Kind=8 then (if (nodeN n a.1).Kind=8 then c.out++[_] else c.out)++[_] else if (nodeN n a.1).Kind=8 then c.out++[_] else c.out)=(if (nodeN n a.1).Kind=8 then (if (nodeN n b.1).Kind=8 then c.out++[_] else c.out)++[_] else if (nodeN n b.1).Kind=8 then c.out++[_] else c.out)
    rw [m1,m2]
    by_cases h1:(nodeN n a.1).Kind=8<;>by_cases h2:(nodeN n b.1).Kind=8
    · exact absurd (hR.sink1 _ _ ha.1 hb.1 h1 h2) hne
    · simp only [h1,h2,if_true,if_false]
    · simp only [h1,h2,if_true,if_false]
    · simp only [h1,h2,if_false]
  · show (if (nodeN n b.1).Kind=6 then E.tick (if (nodeN n a.1).Kind=6 then E.tick c.tr a.1 a.2 else c.tr) b.1 b.2 else if (nodeN n a.1).Kind=6 then E.tick c.tr a.1 a.2 else c.tr)=(if (nodeN n a.1).Kind=6 then E.tick (if (nodeN n b.1).Kind=6 then E.tick c.tr b.1 b.2 else c.tr) a.1 a.2 else if (nodeN n b.1).Kind=6 then E.tick c.tr b.1 b.2 else c.tr)
    by_cases h1:(nodeN n a.1).Kind=6<;>by_cases h2:(nodeN n b.1).Kind=6
    · rcases h6 with h | h | h
      · exact absurd h1 h
      · exact absurd h2 h
      · simp only [h,h1,h2,if_true]
    · simp only [h1,h2,if_true,if_false]
    · simp only [h1,h2,if_true,if_false]
    · simp only [h1,h2,if_false]
abbrev SrcN (n:Net):Prop:=∀ i j,i<n.Nodes.length→j<n.Nodes.length→(nodeN n i).Kind=1→(nodeN n j).Kind=1→(nodeN n i).A.toNat=(nodeN n j).A.toNat→i=j
theorem diamond (hR:RightN n) (hsrc:SrcN n) {c c1 c2:MSt I M T} {a b:Nat × Nat} (h1:Ex E n room c a c1) (h2:Ex E n room c b c2) (hne:a.1≠b.1) (h6:(nodeN n a.1).Kind≠6∨(nodeN n b.1).Kind≠6∨∀ t i k,E.tick t i k=t):∃ d,Ex E n room c1 b d∧Ex E n room c2 a d:=by
  obtain ⟨ha,x,hx,fx,rfl⟩:=h1
  obtain ⟨hb,y,hy,fy,rfl⟩:=h2
  refine ⟨_,⟨hb,y,hd_after hR hsrc ha hb hne hy,fit_after hR ha hb hne fy,rfl⟩,⟨ha,x,hd_after hR hsrc hb ha (fun e=>hne e.symm) hx,fit_after hR hb ha (fun e=>hne e.symm) fx,?_⟩⟩
  exact go_comm hR hsrc ha hb hne h6 hx hy
section
variable (hR:RightN n) (hsrc:SrcN n) (htk:∀ t i k,E.tick t i k=t)
include hR hsrc htk
omit hR hsrc htk in
end
end
end Go.Proofs.Ytfbmoockopakjaa
namespace Go.Proofs.Ytfbmoockopakjaa
set_option linter.unusedVariables false
set_option linter.unusedSimpArgs false
section
variable {n:Net} {items:List (List Item)} {B:Int} {s:State}
theorem lanes_le (hR:RightN n) {i:Nat} (hi:i<n.Nodes.length):Zva (nodeN n i)≤16:=by
  unfold Zva
  split
  · have:=nodup_len (hR.ndI i hi) (hR.inR i hi) hR.r1
    have:=hR.r2;omega
  · omega
theorem ready_in (hS:RightS n items) (ok:OkS n items B s) {i:Nat} (hi:i<n.Nodes.length):∀ (m k:Nat) (acc:List Move),k+m=Zva (nodeN n i)→acc.length+m≤1000000 →
    iter (fun ss:Int × (List Move)=>Z0a n items (i:Int) s (Zva (nodeN n i):Int) ss.1 ss.2) ((k:Int),acc)=some (.inl (((i+1:Nat):Int),acc++(((List.range (Zva (nodeN n i))).drop k).filter fun k=>canM n items s i k).map fun k:Nat=>(⟨i,k⟩:Move)))
  | 0,k,acc,h,ha=>by
    have hk:k=Zva (nodeN n i):=by omega
    have e:Z0a n items (i:Int) s (Zva (nodeN n i):Int) (k:Int) acc=some (.inr (.inl (((i+1:Nat):Int),acc))):=by
      unfold Z0a
      have:=hS.n2
      rw [if_neg (by simp;omega),Qkb (by omega)];rfl
    rw [J5a]
    simp only [e]
    rw [List.drop_of_length_le (by simp;omega)]
    simp
  | m + 1,k,acc,h,ha=>by
    have hk:k<Zva (nodeN n i):=by omega
    have h16:=lanes_le hS.toRightN hi
    have hd:(List.range (Zva (nodeN n i))).drop k=k::(List.range (Zva (nodeN n i))).drop (k+1):=by
      rw [List.drop_eq_getElem_cons (by simpa using hk),List.getElem_range]
    have e:Z0a n items (i:Int) s (Zva (nodeN n i):Int) (k:Int) acc=some (.inl (((k+1:Nat):Int),if canM n items s i k=true then acc++[⟨i,k⟩] else acc)):=by
      unfold Z0a
      rw [if_pos (by simp;omega),can_eq hS ok hi hk,Option.bind_some,Qkb (by omega)]
      cases canM n items s i k with
      | true=>rw [if_pos rfl,if_pos rfl,app_ok (by simp;omega)];rfl
      | false=>rw [if_neg (by decide),if_neg (by decide)]
    rw [J5a]
    simp only [e]
    rw [ready_in hS ok hi m (k+1) _ (by omega) (by split<;>(try simp)<;>omega),hd,List.filter_cons]
    cases canM n items s i k<;>simp
theorem readyI_len (hR:RightN n) {i:Nat} (hi:i<n.Nodes.length):(readyI n items s i).length≤16:=by
  unfold readyI
  rw [List.length_map]
  have:=List.length_filter_le (fun k=>canM n items s i k) (List.range (Zva (nodeN n i)))
  have:=lanes_le hR hi
  simp at *;omega
theorem ready_out (hS:RightS n items) (ok:OkS n items B s):∀ (m i:Nat) (acc:List Move),i+m=n.Nodes.length→acc.length+16*m≤1000 →
    iter (fun ss:Int × (List Move)=>Vxa n items s ss.1 ss.2) ((i:Int),acc)=some (acc++((List.range n.Nodes.length).drop i).flatMap fun i=>readyI n items s i)
  | 0,i,acc,h,ha=>by
    have hk:i=n.Nodes.length:=by omega
    have e:Vxa n items s (i:Int) acc=some (.inr acc):=by
      unfold Vxa
      rw [if_neg (by simp;omega)];rfl
    rw [J5a]
    simp only [e]
    rw [List.drop_of_length_le (by simp;omega)]
    simp
  | m + 1,i,acc,h,ha=>by
    have hi:i<n.Nodes.length:=by omega
    have hd:(List.range n.Nodes.length).drop i=i::(List.range n.Nodes.length).drop (i+1):=by
      rw [List.drop_eq_getElem_cons (by simpa using hi),List.getElem_range]
    have hin:=ready_in hS ok hi (Zva (nodeN n i)) 0 acc (by omega) (by have:=lanes_le hS.toRightN hi;omega)
    have e:Vxa n items s (i:Int) acc=some (.inl (((i+1:Nat):Int),acc++readyI n items s i)):=by
      unfold Vxa Y3a
      rw [if_pos (by simp;omega),Voa (nodeN_get hi),Option.bind_some]
      have hl:(if ((nodeN n i).Kind==6)=true then iter (fun ss_36:Int × (List Move)=>Z0a n items (i:Int) s ((nodeN n i).In.length:Int) ss_36.1 ss_36.2) (0,acc) else iter (fun ss_36:Int × (List Move)=>Z0a n items (i:Int) s 1 ss_36.1 ss_36.2) (0,acc)) =
          iter (fun ss:Int × (List Move)=>Z0a n items (i:Int) s (Zva (nodeN n i):Int) ss.1 ss.2) (0,acc):=by
        unfold Zva
        by_cases h6:(nodeN n i).Kind=6
        · rw [if_pos (by simpa using h6),if_pos h6]
        · rw [if_neg (by simpa using h6),if_neg h6];rfl
      rw [hl]
      rw [Int.natCast_zero] at hin
      rw [hin,List.drop_zero]
      rfl
    rw [J5a]
    simp only [e]
    have h16:=readyI_len (items:=items) (s:=s) hS.toRightN hi
    rw [ready_out hS ok m (i+1) _ (by omega) (by rw [List.length_append];omega),hd,List.flatMap_cons,List.append_assoc]
theorem ready_eq (hS:RightS n items) (ok:OkS n items B s):Yma n items s=some (Zca n items s):=by
  unfold Yma
  have:=ready_out hS ok n.Nodes.length 0 [] (by omega) (by have:=hS.n2;simp;omega)
  rw [Int.natCast_zero,List.drop_zero,List.nil_append] at this
  exact this
theorem readyM_mem {m:Move} (h:m∈Zca n items s):∃ i k:Nat,m=⟨i,k⟩∧i<n.Nodes.length∧k<Zva (nodeN n i)∧canM n items s i k=true:=by
  unfold Zca at h
  obtain ⟨i,hi,hm⟩:=List.mem_flatMap.1 h
  unfold readyI at hm
  obtain ⟨k,hk,rfl⟩:=List.mem_map.1 hm
  obtain ⟨h1,h2⟩:=List.mem_filter.1 hk
  exact ⟨i,k,rfl,by simpa using hi,by simpa using h1,h2⟩
theorem mem_readyM {i k:Nat} (hi:i<n.Nodes.length) (hk:k<Zva (nodeN n i)) (hc:canM n items s i k=true):(⟨i,k⟩:Move)∈Zca n items s :=
  List.mem_flatMap.2 ⟨i,by simpa using hi,List.mem_map.2 ⟨k,List.mem_filter.2 ⟨by simpa using hk,hc⟩,rfl⟩⟩
theorem readyM_len (hR:RightN n):(Zca n items s).length≤192:=by
  have h:∀ (l:List Nat),(∀ i,i∈l→i<n.Nodes.length)→(l.flatMap fun i=>readyI n items s i).length≤16*l.length:=by
    intro l
    induction l with
    | nil=>intro _;simp
    | cons a l ih =>
      intro h
      have h1:=readyI_len (items:=items) (s:=s) hR (h a List.mem_cons_self)
      have h2:=ih fun i hi=>h i (List.mem_cons_of_mem _ hi)
      rw [List.flatMap_cons,List.length_append,List.length_cons];omega
  have:=h (List.range n.Nodes.length) (fun i hi=>by simpa using hi)
  have h2:=hR.n2
  rw [List.length_range] at this
  unfold Zca;omega
def doMv (n:Net) (items:List (List Item)) (s:State) (m:Move):State:=doM n items s m.Node.toNat m.Lane.toNat
theorem doMv_eq (hS:RightS n items) (ok:OkS n items B s) {m:Move} (h:m∈Zca n items s) :
    Vha n items m s.At s.Rings s.Memory s.Choices s.Out=some ((doMv n items s m).At,(doMv n items s m).Rings,(doMv n items s m).Memory,(doMv n items s m).Choices,(doMv n items s m).Out):=by
  obtain ⟨i,k,rfl,hi,hk,hc⟩:=readyM_mem h
  exact do_eq hS ok hi hk hc
def wsum (w:Nat→Nat):Nat→List (List Item)→Nat
  | _,[]=>0
  | k,l::R=>l.length*w k+wsum w (k+1) R
def restN:List (List Item)→List Int→Nat
  | l::ls,p::ps=>(l.length - p.toNat)+restN ls ps
  | _,_=>0
theorem wsum_set (w:Nat→Nat) (x:List Item):∀ (R:List (List Item)) (k j:Nat),j<R.length→wsum w k (R.set j x)+(R.getD j []).length*w (k+j)=wsum w k R+x.length*w (k+j)
  | [],k,j,h=>by simp at h
  | l::R,k,0,h=>by simp [wsum];omega
  | l::R,k,j+1,h=>by
    have:=wsum_set w x R (k+1) j (by simpa using h)
    have e:k+1+j=k+(j+1):=by omega
    rw [e] at this
    simp only [List.set_cons_succ,wsum,List.getD_cons_succ]
    omega
theorem restN_set:∀ (ls:List (List Item)) (ps:List Int) (a:Nat),a<ps.length→0≤ps.getD a 0→(ps.getD a 0).toNat<(ls.getD a []).length→restN ls (ps.set a (ps.getD a 0+1))+1=restN ls ps
  | ls,[],a,h,_,_=>by simp at h
  | [],p::ps,a,h,_,h2=>by simp at h2
  | l::ls,p::ps,0,h,h0,h2=>by
    simp only [List.getD_cons_zero] at h0 h2 ⊢
    simp only [List.set_cons_zero,restN]
    omega
  | l::ls,p::ps,a+1,h,h0,h2=>by
    simp only [List.getD_cons_succ] at h0 h2 ⊢
    have:=restN_set ls ps a (by simpa using h) h0 h2
    simp only [List.set_cons_succ,restN]
    omega
theorem wsum_put (w:Nat→Nat) (y:Item):∀ (l:List Int) (R:List (List Item)),(∀ r,r∈l→0≤r∧r<R.length)→wsum w 0 (putR y l R)=wsum w 0 R+(l.map fun r=>w r.toNat).sum
  | [],R,_=>by simp [putR]
  | r::l,R,h=>by
    have hr:=h r List.mem_cons_self
    show wsum w 0 (putR y l (R.set r.toNat (R.getD r.toNat []++[y])))=_
    rw [wsum_put w y l _ (fun q hq=>by have:=h q (List.mem_cons_of_mem _ hq);simpa using this)]
    have:=wsum_set w (R.getD r.toNat []++[y]) R 0 r.toNat (by omega)
    rw [List.length_append,Nat.add_mul,List.length_singleton,Nat.one_mul,Nat.zero_add] at this
    rw [List.map_cons,List.sum_cons]
    omega
def takerN (n:Net) (r:Nat):Nat:=((List.range n.Nodes.length).find? fun i=>decide ((r:Int)∈(nodeN n i).In)).getD 0
theorem takerN_is (hR:RightN n) {i:Nat} (hi:i<n.Nodes.length) {r:Int} (hr:r∈(nodeN n i).In):takerN n r.toNat=i:=by
  have h0:=hR.inR i hi r hr
  unfold takerN
  cases h:(List.range n.Nodes.length).find? fun i=>decide ((r.toNat:Int)∈(nodeN n i).In) with
  | none =>
    rw [List.find?_eq_none] at h
    have:=h i (by simpa using hi)
    rw [Int.toNat_of_nonneg h0.1] at this
    simp [hr] at this
  | some j =>
    have h1:=List.find?_some h
    have h2:=List.mem_of_find?_eq_some h
    rw [Int.toNat_of_nonneg h0.1] at h1
    exact hR.oneI j i r (by simpa using h2) hi (by simpa using h1) hr
open Classical in
noncomputable def posN (n:Net):Nat→Nat:=if h:RightN n then Classical.choose h.ord else fun _=>0
theorem posN_spec (hR:RightN n):(∀ i,i<n.Nodes.length→posN n i<n.Nodes.length)∧(∀ i j,i<n.Nodes.length→j<n.Nodes.length→posN n i=posN n j→i=j)∧∀ i j r,i<n.Nodes.length→j<n.Nodes.length→r∈(nodeN n i).Out→r∈(nodeN n j).In→posN n i<posN n j:=by
  have:posN n=Classical.choose hR.ord:=by unfold posN;rw [dif_pos hR]
  rw [this]
  exact Classical.choose_spec hR.ord
noncomputable def wN (n:Net) (r:Nat):Nat:=17 ^ (12 - posN n (takerN n r))
noncomputable def muN (n:Net) (items:List (List Item)) (s:State):Nat:=wsum (wN n) 0 s.Rings+restN items s.At*17 ^ 12
theorem outs_w (hR:RightN n) {i:Nat} (hi:i<n.Nodes.length) (key:Int):((outsI (nodeN n i) key).map fun r=>wN n r.toNat).sum<17 ^ (12 - posN n i):=by
  obtain ⟨p1,_,p2⟩:=posN_spec hR
  have hpi:=p1 i hi
  have hn:=hR.n2
  have hb:∀ r,r∈outsI (nodeN n i) key→wN n r.toNat≤17 ^ (11 - posN n i):=fun r hr=>by
    have hro:=outs_ok hR hi key r hr
    have h0:=hR.outR i hi r hro
    obtain ⟨j,hj,hrj⟩:=hR.toI r.toNat (by omega)
    rw [Int.toNat_of_nonneg h0.1] at hrj
    have h1:=p2 i j r hi hj hro hrj
    have h2:=p1 j hj
    unfold wN
    rw [takerN_is hR hj hrj]
    exact Nat.pow_le_pow_right (by omega) (by omega)
  have hsum:∀ (l:List Int),(∀ r,r∈l→wN n r.toNat≤17 ^ (11 - posN n i))→(l.map fun r=>wN n r.toNat).sum≤l.length*17 ^ (11 - posN n i):=by
    intro l
    induction l with
    | nil=>intro _;simp
    | cons a l ih =>
      intro h
      have h1:=h a List.mem_cons_self
      have h2:=ih fun r hr=>h r (List.mem_cons_of_mem _ hr)
      rw [List.map_cons,List.sum_cons,List.length_cons,Nat.add_mul,Nat.one_mul];omega
  have h1:=hsum _ hb
  have h2:(outsI (nodeN n i) key).length≤16:=by
    unfold outsI;split
    · simp
    · exact out_len hR hi
  have h3:(outsI (nodeN n i) key).length*17 ^ (11 - posN n i)≤16*17 ^ (11 - posN n i):=Nat.mul_le_mul_right _ h2
  have e:12 - posN n i=(11 - posN n i)+1:=by omega
  have h4:17 ^ (12 - posN n i)=17 ^ (11 - posN n i)*17:=by rw [e,Nat.pow_succ]
  have h5:0<17 ^ (11 - posN n i):=Nat.pow_pos (by omega)
  omega
theorem mu_do (hS:RightS n items) (ok:OkS n items B s) {i k:Nat} (hi:i<n.Nodes.length) (hk:k<Zva (nodeN n i)) (hc:canM n items s i k=true):muN n items (doM n items s i k)+1≤muN n items s:=by
  obtain ⟨it,hh,hroom,h500,h2000⟩:=can_head hc
  have hR:=hS.toRightN
  have hrg:=ok.rg
  have hw:=outs_w hR hi it.Key
  have hrl:∀ r,r∈outsI (nodeN n i) it.Key→0≤r∧r<(takenR n s i k).length:=fun r hr=>by
    have:=hR.outR i hi r (outs_ok hR hi _ r hr)
    rw [takenR_len];omega
  have hput:=wsum_put (wN n) (stepM n s i it).2 _ _ hrl
  have hrings:(doM n items s i k).Rings=putR (stepM n s i it).2 (outsI (nodeN n i) it.Key) (takenR n s i k):=by unfold doM;simp only [hh];rfl
  unfold muN
  rw [hrings,hput,do_at hh]
  by_cases h1:(nodeN n i).Kind=1
  · obtain ⟨a0,a1,a2,a3,a4,a5⟩:=at_ok hS ok hi h1
    unfold headI at hh
    rw [if_pos h1] at hh
    have h2:=(List.getElem?_eq_some_iff.1 hh).1
    have h3:=restN_set items s.At (nodeN n i).A.toNat (by omega) a3 h2
    rw [if_pos h1]
    unfold takenR
    rw [if_pos h1]
    have h4:17 ^ (12 - posN n i)≤17 ^ 12:=Nat.pow_le_pow_right (by omega) (by omega)
    rw [← h3,Nat.add_mul,Nat.one_mul]
    omega
  · have hkl:=lane_lt hR hi hk h1
    obtain ⟨hm,b0,b1⟩:=ring_in hR hi hkl
    rw [if_neg h1]
    unfold takenR
    rw [if_neg h1]
    unfold headI at hh
    rw [if_neg h1] at hh
    have h2:=wsum_set (wN n) (s.Rings.getD (ringN (nodeN n i) k) []).tail s.Rings 0 (ringN (nodeN n i) k) (by unfold ringN;omega)
    have h3:wN n (ringN (nodeN n i) k)=17 ^ (12 - posN n i):=by
      unfold wN ringN
      rw [takerN_is hR hi hm]
    cases hq:s.Rings.getD (ringN (nodeN n i) k) [] with
    | nil=>rw [hq] at hh;cases hh
    | cons y ys =>
      rw [hq] at h2
      rw [Nat.zero_add,h3,List.tail_cons,List.length_cons,Nat.add_mul,Nat.one_mul] at h2
      rw [List.tail_cons]
      omega
def Inv (n:Net) (items:List (List Item)) (s:State):Prop:=∃ B:Nat,OkS n items B s∧B+muN n items s≤1000000000000000000
theorem Inv.doM (hS:RightS n items) (h:Inv n items s) {i k:Nat} (hi:i<n.Nodes.length) (hk:k<Zva (nodeN n i)) (hc:canM n items s i k=true):Inv n items (doM n items s i k)∧muN n items (Go.Proofs.Ytfbmoockopakjaa.doM n items s i k)+1≤muN n items s:=by
  obtain ⟨B,ok,hB⟩:=h
  have:=mu_do hS ok hi hk hc
  refine ⟨⟨B+1,do_ok hS ok hi hk hc (by omega) (by omega),by omega⟩,this⟩
theorem Inv.doMv (hS:RightS n items) (h:Inv n items s) {m:Move} (hm:m∈Zca n items s):Inv n items (doMv n items s m)∧muN n items (Go.Proofs.Ytfbmoockopakjaa.doMv n items s m)+1≤muN n items s:=by
  obtain ⟨i,k,rfl,hi,hk,hc⟩:=readyM_mem hm
  exact Inv.doM hS h hi hk hc
def Qnb (n:Net) (items:List (List Item)):State:=⟨List.replicate items.length 0,List.replicate n.Rings.toNat [],List.replicate n.Nodes.length ⟨0,[],0⟩,[],[]⟩
theorem wsum_0 (w:Nat→Nat):∀ (m k:Nat),wsum w k (List.replicate m [])=0
  | 0,k=>rfl
  | m+1,k=>by rw [List.replicate_succ];simp [wsum,wsum_0 w m (k+1)]
theorem restN_le (L:Nat):∀ (ls:List (List Item)) (ps:List Int),(∀ l,l∈ls→l.length≤L)→restN ls ps≤L*ls.length
  | [],ps,_=>by simp [restN]
  | l::ls,[],_=>by simp [restN]
  | l::ls,p::ps,h=>by
    have h1:=h l List.mem_cons_self
    have h2:=restN_le L ls ps fun x hx=>h x (List.mem_cons_of_mem _ hx)
    simp only [restN,List.length_cons,Nat.mul_add];omega
theorem start_inv (hS:RightS n items):Inv n items (Qnb n items):=by
  have hr:∀ (r:Nat) (l:List Item),(Qnb n items).Rings[r]?=some l→l=[]:=fun r l h=>by
    have:=List.mem_of_getElem? h
    exact (List.mem_replicate.1 this).2
  refine ⟨0,⟨by simp [Qnb],by have:=hS.r1;simp [Qnb];omega,by simp [Qnb],by simp [Qnb],by simp [Qnb],fun a p hp=>?_,fun r l hl=>?_,fun r l x hl hx=>?_,fun i m hm=>?_,fun c hc=>by simp [Qnb] at hc,fun x hx=>by simp [Qnb] at hx⟩,?_⟩
  · have:=(List.mem_replicate.1 (List.mem_of_getElem? hp)).2
    subst this
    exact ⟨Int.le_refl _,by omega⟩
  · rw [hr r l hl];have:=hS.m1;simp;omega
  · rw [hr r l hl] at hx;cases hx
  · have:=(List.mem_replicate.1 (List.mem_of_getElem? hm)).2
    subst this
    refine ⟨⟨by simp,fun x hx=>(by cases hx),fun i j x y _ h=>(by simp at h),by simp⟩,by simp [Qnb],fun y hy=>(by cases hy)⟩
  · have h1:=restN_le 20 items (Qnb n items).At (fun l hl=>by
      obtain ⟨a,ha⟩:=List.getElem?_of_mem hl
      exact hS.l20 a l ha)
    have h2:=hS.l4
    unfold muN
    have:wsum (wN n) 0 (Qnb n items).Rings=0:=wsum_0 _ _ _
    rw [this]
    have h3:restN items (Qnb n items).At≤80:=by omega
    have h4:=Nat.mul_le_mul_right (17 ^ 12) h3
    omega
theorem start_eq (hS:RightS n items) (hio:∀ x∈n.Nodes,x.In.length≤1099511627776∧x.Out.length≤1099511627776):move_start n items=some (Qnb n items):=by
  unfold move_start
  have h1:=hS.r1
  have h2:=hS.r2
  have h3:=hS.n2
  have h4:=hS.l4
  have e1:mk ((items.length:Nat):Int) (0:Int)=some (List.replicate items.length 0):=by unfold mk;rw [if_pos (by omega)];simp
  have e2:mk n.Rings ([]:List Item)=some (List.replicate n.Rings.toNat []):=by unfold mk;rw [if_pos (by omega)]
  have e3:mk ((n.Nodes.length:Nat):Int) (⟨0,[],0⟩:Memory)=some (List.replicate n.Nodes.length ⟨0,[],0⟩):=by unfold mk;rw [if_pos (by omega)];simp
  simp only [e1,e2,e3,Option.bind_some]
  rfl
def pickM (l:List Move) (c:Int):Move:=l.getD (c % l.length).toNat ⟨0,0⟩
def playM (n:Net) (items:List (List Item)):List Int→State→State
  | [],s=>s
  | c::cs,s=>if Zca n items s=[] then s else playM n items cs (doMv n items s (pickM (Zca n items s) c))
theorem pick_mem {l:List Move} (h:l≠[]) (c:Int):pickM l c∈l∧(c % l.length).toNat<l.length:=by
  have h1:0<l.length:=List.length_pos_iff.2 h
  have h2:=Int.emod_nonneg c (show (l.length:Int)≠0 by omega)
  have h3:=Int.emod_lt_of_pos c (show (0:Int)<l.length by omega)
  have h4:(c % l.length).toNat<l.length:=by omega
  exact ⟨List.mem_of_getElem? (Zea _ h4),h4⟩
theorem rem_at (c:Int) (m:Nat) (h0:0<m) (h:m≤1000):(rem c m).bind (fun x=>(rem (IntKind.i64.wrap (x+m)) m))=some (c % m):=by
  have h1:=Int.tmod_lt_of_pos c (show (0:Int)<m by omega)
  have h2:=Int.lt_tmod_of_pos c (show (0:Int)<m by omega)
  unfold rem
  rw [if_neg (by omega),Option.bind_some,if_neg (by omega),Yqa (by omega) (by omega)]
  congr 1
  rw [Int.tmod_eq_emod_of_nonneg (by omega),Int.add_emod_right,Int.tmod_eq_emod]
  split<;>simp [Int.sub_emod_right]
theorem play_loop (hS:RightS n items) (p:List Int) (hp:p.length≤2000):∀ (m j:Nat) (s:State),j+m=p.length→Inv n items s →
    iter (fun ss:Int × (List Int) × (List (List Item)) × (List Memory) × (List Choice) × (List Item)=>Vja n items p ss.1 ss.2.1 ss.2.2.1 ss.2.2.2.1 ss.2.2.2.2.1 ss.2.2.2.2.2) ((j:Int),s.At,s.Rings,s.Memory,s.Choices,s.Out)=some (playM n items (p.drop j) s,0)
  | 0,j,s,h,hI=>by
    have hj:j=p.length:=by omega
    subst hj
    have e:Vja n items p (p.length:Int) s.At s.Rings s.Memory s.Choices s.Out=some (.inr (s,0)):=by
      unfold Vja
      rw [if_neg (by simp)];rfl
    rw [J5a]
    simp only [e,List.drop_length,playM]
  | m + 1,j,s,h,hI=>by
    have hlt:j<p.length:=by omega
    obtain ⟨B,ok,hB⟩:=hI
    have hrd:Yma n items (⟨s.At,s.Rings,s.Memory,s.Choices,s.Out⟩:State)=some (Zca n items s):=ready_eq hS ok
    rw [List.drop_eq_getElem_cons hlt,playM,J5a]
    by_cases h0:Zca n items s=[]
    · have e:Vja n items p (j:Int) s.At s.Rings s.Memory s.Choices s.Out=some (.inr (s,0)):=by
        unfold Vja
        rw [if_pos (by simp;omega),Voa (List.getElem?_eq_getElem hlt),Option.bind_some,hrd,Option.bind_some,h0,if_pos (by simp)];rfl
      simp only [e]
      rw [if_pos h0]
    · obtain ⟨hmem,hix⟩:=pick_mem h0 p[j]
      have hpos:0<(Zca n items s).length:=List.length_pos_iff.2 h0
      have h192:=readyM_len (items:=items) (s:=s) hS.toRightN
      have hrem:=rem_at p[j] (Zca n items s).length hpos (by omega)
      obtain ⟨r1,hr1,hr2⟩:=bind_some hrem
      have hn:=Int.emod_nonneg p[j] (show ((Zca n items s).length:Int)≠0 by omega)
      have hget:(Zca n items s)[(p[j] % ((Zca n items s).length:Int)).toNat]?=some (pickM (Zca n items s) p[j]):=Zea _ hix
      have e:Vja n items p (j:Int) s.At s.Rings s.Memory s.Choices s.Out=some (.inl (((j+1:Nat):Int),(doMv n items s (pickM (Zca n items s) p[j])).At,(doMv n items s (pickM (Zca n items s) p[j])).Rings,(doMv n items s (pickM (Zca n items s) p[j])).Memory,(doMv n items s (pickM (Zca n items s) p[j])).Choices,(doMv n items s (pickM (Zca n items s) p[j])).Out)):=by
        unfold Vja
        rw [if_pos (by simp;omega),Voa (List.getElem?_eq_getElem hlt),Option.bind_some,hrd,Option.bind_some,if_neg (by simp;omega),hr1,Option.bind_some,hr2,Option.bind_some,ixN_D hn (by omega),Option.bind_some,hget,Option.bind_some,doMv_eq hS ok hmem,Option.bind_some,Qkb (by omega)]
      simp only [e]
      rw [if_neg h0]
      exact play_loop hS p hp m (j+1) _ (by omega) (Inv.doMv hS ⟨B,ok,hB⟩ hmem).1
theorem play_inv (hS:RightS n items):∀ (p:List Int) (s:State),Inv n items s→Inv n items (playM n items p s)
  | [],s,h=>h
  | c::cs,s,h=>by
    unfold playM
    split
    · exact h
    · rename_i h0;exact play_inv hS cs _ (Inv.doMv hS h (pick_mem h0 c).1).1
def noS:State:=⟨[],[],[],[],[]⟩
theorem Play_eq (n:Net) (items:List (List Item)) (p:List Int) (hio:∀ x∈n.Nodes,x.In.length≤1099511627776∧x.Out.length≤1099511627776) :
    move_Play n items p=some (if srcR n items≠0 then (noS,srcR n items) else if 2000<p.length then (noS,2) else (playM n items p (Qnb n items),0)):=by
  unfold move_Play move_Start
  rw [net_Sources_eq n items hio,Option.bind_some]
  by_cases h:srcR n items=0
  · have hS:=rightS_of h
    rw [if_neg (by simp [h]),if_neg (by simp [h]),start_eq hS hio,Option.bind_some,Option.bind_some,if_neg (by simp)]
    by_cases hp:2000<p.length
    · rw [if_pos (by simp;omega),if_pos hp];rfl
    · rw [if_neg (by simp;omega),if_neg hp]
      have:=play_loop hS p (by omega) p.length 0 (Qnb n items) (by omega) (start_inv hS)
      rw [Int.natCast_zero,List.drop_zero] at this
      exact this
  · rw [if_pos (by simpa using h),if_pos h,Option.bind_some,if_pos (by simpa using h)];rfl
def finM (n:Net) (items:List (List Item)):Nat→State→State
  | 0,s=>s
  | f+1,s=>match Zca n items s with
    | []=>s
    | m::_=>finM n items f (doMv n items s m)
theorem fin_loop (hS:RightS n items):∀ (f:Nat) (s:State),Inv n items s→Zca n items (finM n items f s)=[] →
    iter (fun ss:(List Move) × (List Int) × (List (List Item)) × (List Memory) × (List Choice) × (List Item)=>Z8a n items ss.1 ss.2.1 ss.2.2.1 ss.2.2.2.1 ss.2.2.2.2.1 ss.2.2.2.2.2) (Zca n items s,s.At,s.Rings,s.Memory,s.Choices,s.Out)=some (finM n items f s,0):=by
  have stop:∀ s,Zca n items s=[]→iter (fun ss:(List Move) × (List Int) × (List (List Item)) × (List Memory) × (List Choice) × (List Item)=>Z8a n items ss.1 ss.2.1 ss.2.2.1 ss.2.2.2.1 ss.2.2.2.2.1 ss.2.2.2.2.2) (Zca n items s,s.At,s.Rings,s.Memory,s.Choices,s.Out)=some (s,0):=fun s h=>by
    have e:Z8a n items (Zca n items s) s.At s.Rings s.Memory s.Choices s.Out=some (.inr (s,0)):=by
      unfold Z8a
      rw [h,if_neg (by simp)];rfl
    rw [J5a]
    simp only [e]
  intro f
  induction f with
  | zero=>intro s h hr;exact stop s hr
  | succ f ih =>
    intro s h hr
    unfold finM at hr ⊢
    split at hr
    · rename_i h0;simp only [h0];rw [← h0];exact stop s h0
    · rename_i m l hm
      obtain ⟨B,ok,hB⟩:=h
      have hmem:m∈Zca n items s:=by rw [hm];exact List.mem_cons_self
      have hI:=(Inv.doMv hS ⟨B,ok,hB⟩ hmem).1
      obtain ⟨B2,ok2,hB2⟩:=hI
      have hrd:Yma n items (⟨(doMv n items s m).At,(doMv n items s m).Rings,(doMv n items s m).Memory,(doMv n items s m).Choices,(doMv n items s m).Out⟩:State)=some (Zca n items (doMv n items s m)):=ready_eq hS ok2
      have e:Z8a n items (Zca n items s) s.At s.Rings s.Memory s.Choices s.Out=some (.inl (Zca n items (doMv n items s m),(doMv n items s m).At,(doMv n items s m).Rings,(doMv n items s m).Memory,(doMv n items s m).Choices,(doMv n items s m).Out)):=by
        unfold Z8a
        have h0:ixN (m::l) 0=some 0:=by unfold ixN;rw [if_pos (by simp<;>omega)];rfl
        rw [hm,if_pos (by simp<;>omega),h0,Option.bind_some]
        show Option.bind (some m) _=_
        rw [Option.bind_some,doMv_eq hS ok hmem,Option.bind_some]
        simp only
        rw [hrd,Option.bind_some]
      rw [J5a]
      simp only [e]
      exact ih _ ⟨B2,ok2,hB2⟩ hr
end
end Go.Proofs.Ytfbmoockopakjaa
namespace Go.Proofs.Ytfbmoockopakjaa
set_option linter.unusedVariables false
set_option linter.unusedSimpArgs false
def firstE {α ρ:Type} (f:Nat→α→Option ρ):Nat→List α→Option ρ
  | _,[]=>none
  | k,x::xs=>match f k x with
    | some r=>some r
    | none=>firstE f (k+1) xs
theorem err_loop {α ρ:Type} (xs:List α) (hx:xs.length≤1099511627776) (f:Nat→α→Option ρ) (fin:Option ρ) {body:Int→Option (Int ⊕ ρ)}
    (h1:∀ (k:Nat) (x:α),xs[k]?=some x→k<xs.length→idx xs (k:Int)=some x→decide ((k:Int)<(xs.length:Int))=true→IntKind.i64.wrap ((k:Int)+1)=((k+1:Nat):Int)→body k=match f k x with | some r=>some (.inr r) | none=>some (.inl ((k+1:Nat):Int)))
    (h2:decide ((xs.length:Int)<(xs.length:Int))=false→body xs.length=fin.map .inr):iter body 0=match firstE f 0 xs with | some r=>some r | none=>fin:=by
  have key:∀ (m k:Nat),k+m=xs.length→iter body k=match firstE f k (xs.drop k) with | some r=>some r | none=>fin:=by
    intro m
    induction m with
    | zero =>
      intro k hk
      have hk:k=xs.length:=by omega
      subst hk
      rw [J5a,h2 (by simp),List.drop_length]
      unfold firstE
      cases fin<;>rfl
    | succ m ih =>
      intro k hk
      have hlt:k<xs.length:=by omega
      have hg:xs[k]?=some xs[k]:=List.getElem?_eq_getElem hlt
      rw [J5a,h1 k _ hg hlt (Voa hg) (by simp;omega) (Qkb (by omega)),List.drop_eq_getElem_cons hlt]
      unfold firstE
      cases f k xs[k] with
      | some r=>rfl
      | none=>exact ih (k+1) (by omega)
  have:=key xs.length 0 (by omega)
  rw [Int.natCast_zero,List.drop_zero] at this
  exact this
theorem firstE_none {α ρ:Type} {f:Nat→α→Option ρ}:∀ {xs:List α} {k:Nat},firstE f k xs=none ↔ ∀ (j:Nat) (x:α),xs[j]?=some x→f (k+j) x=none
  | [],k=>⟨fun _ j x h=>by simp at h,fun _=>rfl⟩
  | y :: xs,k=>by
    unfold firstE
    cases hf:f k y with
    | some r =>
      refine ⟨fun h=>(by cases h),fun h=>?_⟩
      have:=h 0 y rfl
      rw [Nat.add_zero,hf] at this;cases this
    | none =>
      simp only
      rw [firstE_none]
      constructor
      · intro h j x hj
        cases j with
        | zero=>simp at hj;subst hj;exact hf
        | succ j=>have:=h j x (by simpa using hj);rwa [show k+1+j=k+(j+1) by omega] at this
      · intro h j x hj
        have:=h (j+1) x (by simpa using hj)
        rwa [show k+(j+1)=k+1+j by omega] at this
def badDeps (s:State) (l:List Item):Bool:=l.any fun x=>decide (x.Dep<0) || decide (x.Dep > (s.Choices.length:Int))
noncomputable def chkM (m:Memory):Int:=(Yua m).getD 0
theorem chkM_eq (m:Memory):Yua m=some (chkM m)∧(chkM m=0 ↔ okM m):=by
  obtain ⟨c,h1,h2⟩:=Check_iff m
  have:chkM m=c:=by unfold chkM;rw [h1];rfl
  rw [this];exact ⟨h1,h2⟩
def choiceB (n:Net) (c:Choice):Bool:=decide (0≤c.Node∧c.Node<n.Nodes.length∧(nodeN n c.Node.toNat).Kind=6∧0≤c.Lane∧c.Lane<(nodeN n c.Node.toNat).In.length)
noncomputable def chkS (n:Net) (items:List (List Item)) (s:State):Int :=
  if srcR n items≠0 then srcR n items
  else if s.At.length≠items.length∨(s.Rings.length:Int)≠n.Rings∨s.Memory.length≠n.Nodes.length then 4
  else if 500<s.Choices.length∨2000<s.Out.length then 2
  else (firstE (fun k (p:Int)=>if p<0∨p > ((items.getD k []).length:Int) then some (3:Int) else none) 0 s.At).getD
    ((firstE (fun _ (l:List Item)=>if n.Room<(l.length:Int) then some (2:Int) else if badDeps s l=true then some 3 else none) 0 s.Rings).getD
    ((firstE (fun _ (m:Memory)=>if chkM m≠0 then some (chkM m) else if m.Dep > (s.Choices.length:Int) then some 3 else none) 0 s.Memory).getD
    ((firstE (fun _ (c:Choice)=>if choiceB n c=true then none else some (5:Int)) 0 s.Choices).getD (if badDeps s s.Out=true then 3 else 0))))
theorem getD_match {α:Type} (o:Option α) (z:α):(match o with | some r=>some r | none=>some z)=some (o.getD z):=by cases o<;>rfl
section
variable {n:Net} {items:List (List Item)} {B:Int} {s:State}
theorem right_eq (s:State) (l:List Item) (hl:l.length≤1099511627776):Vba l s.At s.Rings s.Memory s.Choices s.Out=some (!badDeps s l):=by
  unfold Vba Zqa Zxa
  rw [index_loop l hl (fun x=>decide (x.Dep<0) || decide (x.Dep > (s.Choices.length:Int))) (fun k x hx hk h1 h2 h3=>by
    unfold Zga V0a
    rw [h2,h1,h3]
    simp only [if_true,Option.bind_some]
    rfl) (fun h=>by
    unfold Zga
    rw [h];rfl)]
  rw [Option.bind_some,idxI_any];rfl
theorem choice_eq (n:Net) (c:Choice):move_choice n c=some (choiceB n c):=by
  unfold move_choice choiceB
  by_cases h0:0≤c.Node
  · rw [if_pos (by simpa using h0)]
    by_cases h1:c.Node<n.Nodes.length
    · have hi:idx n.Nodes c.Node=some (nodeN n c.Node.toNat):=idx_D _ h0 h1
      rw [if_pos (by simpa using h1),hi,Option.bind_some]
      by_cases h6:(nodeN n c.Node.toNat).Kind=6
      · rw [if_pos (by simpa using h6)]
        by_cases h2:0≤c.Lane
        · rw [if_pos (by simpa using h2),Option.bind_some,Option.bind_some]
          simp [h0,h1,h6,h2]
        · rw [if_neg (by simpa using h2)];simp [h2]
      · rw [if_neg (by simpa using h6)];simp [h6]
    · rw [if_neg (by simpa using h1)];simp [h1]
  · rw [if_neg (by simpa using h0)];simp [h0]
theorem Check_eq (n:Net) (items:List (List Item)) (s:State) (hio:∀ x∈n.Nodes,x.In.length≤1099511627776∧x.Out.length≤1099511627776) (hr:∀ l,l∈s.Rings→l.length≤1099511627776):move_Check n items s=some (chkS n items s):=by
  unfold move_Check chkS
  rw [net_Sources_eq n items hio,Option.bind_some]
  by_cases h:srcR n items=0
  · have hS := rightS_of h
    rw [if_neg (show ¬ (srcR n items != 0)=true by simp [h]),if_neg (show ¬ srcR n items≠0 by simp [h])]
    by_cases hl:s.At.length≠items.length∨(s.Rings.length:Int)≠n.Rings∨s.Memory.length≠n.Nodes.length
    · rw [if_pos hl,if_pos (by simp;omega)]
    · have h1:s.At.length=items.length:=by omega
      have h2:(s.Rings.length:Int)=n.Rings:=by omega
      have h3:s.Memory.length=n.Nodes.length:=by omega
      rw [if_neg hl,if_neg (by simp;omega)]
      by_cases hm:500<s.Choices.length∨2000<s.Out.length
      · rw [if_pos hm,if_pos (by simp;omega)]
      · rw [if_neg hm,if_neg (by simp;omega)]
        have h4:=hS.l4
        have h5:=hS.r2
        have h6:=hS.n2
        rw [err_loop s.At (by omega) (fun k (p:Int)=>if p<0∨p > ((items.getD k []).length:Int) then some (3:Int) else none) (iter (fun ss_43:Int=>Y4a n s ss_43) 0) (fun k x hx hk e1 e2 e3=>by
          unfold move_Check_l4
          rw [e2,e1,e3]
          simp only [if_true,Option.bind_some]
          have hi:=Voa (Zea ([]:List Item) (show k<items.length by omega))
          by_cases hx0:x<0
          · rw [if_pos (by simpa using hx0),Option.bind_some,if_pos rfl,if_pos (show x<0∨_ from .inl hx0)];rfl
          · rw [if_neg (by simpa using hx0),hi,Option.bind_some,Option.bind_some]
            by_cases hx1:x > ((items.getD k []).length:Int)
            · rw [if_pos (by simpa using hx1),if_pos (show x<0∨x > ((items.getD k []).length:Int) from .inr hx1)];rfl
            · rw [if_neg (by simpa using hx1),if_neg (show ¬ (x<0∨x > ((items.getD k []).length:Int)) by omega)]) (fun e=>by
          unfold move_Check_l4
          rw [e];rfl)]
        rw [err_loop s.Rings (by omega) (fun _ (l:List Item)=>if n.Room<(l.length:Int) then some (2:Int) else if badDeps s l=true then some 3 else none) (iter (fun ss_55:Int=>Yza n s ss_55) 0) (fun k x hx hk e1 e2 e3=>by
          unfold Y4a
          rw [e2,e1,e3]
          simp only [if_true,Option.bind_some]
          rw [right_eq s x (hr x (List.mem_of_getElem? hx)),Option.bind_some]
          by_cases hx1:n.Room<(x.length:Int)
          · rw [if_pos (by simpa using hx1),if_pos hx1];rfl
          · rw [if_neg (by simpa using hx1),if_neg hx1]
            cases badDeps s x<;>rfl) (fun e=>by
          unfold Y4a
          rw [e];rfl)]
        rw [err_loop s.Memory (by omega) (fun _ (m:Memory)=>if chkM m≠0 then some (chkM m) else if m.Dep > (s.Choices.length:Int) then some 3 else none) (iter (fun ss_55:Int=>Y0a n s ss_55) 0) (fun k x hx hk e1 e2 e3=>by
          unfold Yza
          rw [e2,e1,e3]
          simp only [if_true,Option.bind_some]
          rw [(chkM_eq x).1,Option.bind_some]
          by_cases hx1:chkM x=0
          · rw [if_neg (show ¬ (chkM x != 0)=true by simp [hx1]),if_neg (show ¬ chkM x≠0 by simp [hx1])]
            by_cases hx2:x.Dep > (s.Choices.length:Int)
            · rw [if_pos (by simpa using hx2),if_pos hx2];rfl
            · rw [if_neg (by simpa using hx2),if_neg hx2]
          · rw [if_pos (show (chkM x != 0)=true by simpa using hx1),if_pos hx1];rfl) (fun e=>by
          unfold Yza
          rw [e];rfl)]
        rw [err_loop s.Choices (by omega) (fun _ (c:Choice)=>if choiceB n c=true then none else some (5:Int)) (some (if badDeps s s.Out=true then 3 else 0)) (fun k x hx hk e1 e2 e3=>by
          unfold Y0a
          rw [e2,e1,e3]
          simp only [if_true,Option.bind_some]
          rw [choice_eq,Option.bind_some]
          cases choiceB n x<;>rfl) (fun e=>by
          unfold Y0a
          rw [e,right_eq s s.Out (by omega)]
          simp only [Bool.false_eq_true,if_false,Option.bind_some]
          cases badDeps s s.Out<;>rfl)]
        simp only [getD_match]
  · rw [if_pos (show (srcR n items != 0)=true by simpa using h),if_pos h]
theorem badDeps_false {l:List Item}:badDeps s l=false ↔ ∀ x,x∈l→0≤x.Dep∧x.Dep≤s.Choices.length:=by
  unfold badDeps
  rw [List.any_eq_false]
  simp only [Bool.or_eq_true,decide_eq_true_eq]
  exact ⟨fun h x hx=>by have:=h x hx;omega,fun h x hx=>by have:=h x hx;omega⟩
theorem getD_0 {o:Option Int} {z:Int} (h:o.getD z=0) (ho:∀ r,o=some r→r≠0):o=none∧z=0:=by
  cases o with
  | none=>exact ⟨rfl,h⟩
  | some r=>exact absurd h (ho r rfl)
theorem firstE_some {α ρ:Type} {f:Nat→α→Option ρ}:∀ {xs:List α} {k:Nat} {r:ρ},firstE f k xs=some r→∃ (j:Nat) (x:α),xs[j]?=some x∧f (k+j) x=some r
  | [],k,r,h=>by cases h
  | y :: xs,k,r,h=>by
    unfold firstE at h
    split at h
    · rename_i r' hf;cases h;exact ⟨0,y,rfl,hf⟩
    · obtain ⟨j,x,h1,h2⟩:=firstE_some h
      exact ⟨j+1,x,by simpa using h1,by rw [← h2];congr 1;omega⟩
theorem okS_of (h:chkS n items s=0) (hB:∀ m,m∈s.Memory→∀ y,y∈m.Keys→y.N≤B):OkS n items B s:=by
  unfold chkS at h
  split at h
  · rename_i h1;exact absurd h h1
  · split at h
    · exact absurd h (by decide)
    · split at h
      · exact absurd h (by decide)
      · rename_i h1 h2 h3
        obtain ⟨e1,h⟩:=getD_0 h (fun r hr=>by obtain ⟨j,x,_,h5⟩:=firstE_some hr;split at h5<;>cases h5;decide)
        obtain ⟨e2,h⟩:=getD_0 h (fun r hr=>by
          obtain ⟨j,x,_,h5⟩:=firstE_some hr
          split at h5
          · cases h5;decide
          · split at h5<;>cases h5;decide)
        obtain ⟨e3,h⟩:=getD_0 h (fun r hr=>by
          obtain ⟨j,x,_,h5⟩:=firstE_some hr
          split at h5
          · rename_i h6;cases h5;exact h6
          · split at h5<;>cases h5;decide)
        obtain ⟨e4,h⟩:=getD_0 h (fun r hr=>by obtain ⟨j,x,_,h5⟩:=firstE_some hr;split at h5<;>cases h5;decide)
        rw [firstE_none] at e1 e2 e3 e4
        refine ⟨by omega,by omega,by omega,by omega,by omega,fun a p hp=>?_,fun r l hl=>?_,fun r l x hl hx=>?_,fun i m hm=>?_,fun c hc=>?_,?_⟩
        · have:=e1 a p hp
          rw [Nat.zero_add] at this
          split at this
          · cases this
          · omega
        · have:=e2 r l hl
          split at this
          · cases this
          · omega
        · have:=e2 r l hl
          split at this
          · cases this
          · split at this
            · cases this
            · rename_i hb;exact badDeps_false.1 (Bool.eq_false_iff.2 hb) x hx
        · have:=e3 i m hm
          split at this
          · cases this
          · rename_i hb
            split at this
            · cases this
            · exact ⟨(chkM_eq m).2.1 (Decidable.not_not.1 hb),by omega,hB m (List.mem_of_getElem? hm)⟩
        · obtain ⟨j,hj⟩:=List.getElem?_of_mem hc
          have:=e4 j c hj
          split at this
          · rename_i hb;unfold choiceB at hb;unfold choiceOk;exact of_decide_eq_true hb
          · cases this
        · split at h
          · exact absurd h (by decide)
          · rename_i hb;exact badDeps_false.1 (Bool.eq_false_iff.2 hb)
theorem chkS_0 (hsrc:srcR n items=0) (ok:OkS n items B s):chkS n items s=0:=by
  unfold chkS
  have h1:=ok.at_
  have h2:=ok.rg
  have h3:=ok.mm
  have h4:=ok.ch
  have h5:=ok.out
  rw [if_neg (by omega),if_neg (by omega),if_neg (by omega)]
  rw [firstE_none.2 (fun j p hp=>by have:=ok.atP j p hp;rw [Nat.zero_add];rw [if_neg (by omega)]),firstE_none.2 (fun r l hl=>by
    have:=ok.room r l hl
    rw [if_neg (by omega),if_neg (by rw [badDeps_false.2 (fun x hx=>ok.depR r l x hl hx)];decide)]),firstE_none.2 (fun i m hm=>by
    have:=ok.mem i m hm
    rw [if_neg (by have:=(chkM_eq m).2.2 this.1;omega),if_neg (by omega)]),firstE_none.2 (fun j c hc=>by
    have:=ok.cho c (List.mem_of_getElem? hc)
    rw [if_pos (show choiceB n c=true by unfold choiceB;unfold choiceOk at this;exact decide_eq_true this)])]
  show (if badDeps s s.Out=true then 3 else 0)=(0:Int)
  rw [if_neg (by rw [badDeps_false.2 ok.depO];decide)]
theorem set_self {α:Type} {l:List α} {k:Nat} {a:α} (h:l[k]?=some a):l.set k a=l:=by
  obtain ⟨hlt,rfl⟩:=List.getElem?_eq_some_iff.1 h
  exact List.set_getElem_self hlt
theorem Copy_eq (s:State) (h1:s.At.length≤1099511627776) (h2:s.Rings.length≤1099511627776) (h3:s.Memory.length≤1099511627776) (h4:s.Choices.length≤1099511627776) (h5:s.Out.length≤1099511627776)
    (h6:∀ l,l∈s.Rings→l.length≤1099511627776) (h7:∀ m,m∈s.Memory→m.Keys.length≤1099511627776):move_Copy s=some s:=by
  have cl:∀ {α:Type} (l:List α),l.length≤1099511627776→app [] l=some l:=fun l hl=>by rw [app_ok (by simpa using hl)];rfl
  have l1:∀ (m k:Nat),k+m=s.Memory.length→iter (fun ss_24:Int × (List Memory)=>V8a s s.At s.Rings s.Memory ss_24.1 ss_24.2) ((k:Int),s.Memory)=some s:=by
    intro m
    induction m with
    | zero =>
      intro k hk
      have hk:k=s.Memory.length:=by omega
      subst hk
      have e:V8a s s.At s.Rings s.Memory (s.Memory.length:Int) s.Memory=some (.inr s):=by
        unfold V8a Yda Zla
        rw [if_neg (by simp),cl _ h4,Option.bind_some,cl _ h5];rfl
      rw [J5a];simp only [e]
    | succ m ih =>
      intro k hk
      have hlt:k<s.Memory.length:=by omega
      have hg:s.Memory[k]?=some s.Memory[k]:=List.getElem?_eq_getElem hlt
      have e:V8a s s.At s.Rings s.Memory (k:Int) s.Memory=some (.inl (((k+1:Nat):Int),s.Memory)):=by
        unfold V8a stage_Copy Vta
        rw [if_pos (by simp;omega),ixN_at hlt,Option.bind_some,hg,Option.bind_some,cl _ (h7 _ (List.getElem_mem hlt)),Option.bind_some,Option.bind_some,Option.bind_some,hg,Option.bind_some,Qkb (by omega),set_self hg]
      rw [J5a];simp only [e]
      exact ih (k+1) (by omega)
  have l2:∀ (m k:Nat),k+m=s.Rings.length→iter (fun ss_9:Int × (List (List Item))=>V9a s s.At s.Rings ss_9.1 ss_9.2) ((k:Int),s.Rings)=some s:=by
    intro m
    induction m with
    | zero =>
      intro k hk
      have hk:k=s.Rings.length:=by omega
      subst hk
      have e:V9a s s.At s.Rings (s.Rings.length:Int) s.Rings=some (.inr s):=by
        unfold V9a Yha
        have:=l1 s.Memory.length 0 (by omega)
        rw [Int.natCast_zero] at this
        rw [if_neg (by simp),cl _ h3,Option.bind_some,this];rfl
      rw [J5a];simp only [e]
    | succ m ih =>
      intro k hk
      have hlt:k<s.Rings.length:=by omega
      have hg:s.Rings[k]?=some s.Rings[k]:=List.getElem?_eq_getElem hlt
      have e:V9a s s.At s.Rings (k:Int) s.Rings=some (.inl (((k+1:Nat):Int),s.Rings)):=by
        unfold V9a Zla
        rw [if_pos (by simp;omega),ixN_at hlt,Option.bind_some,hg,Option.bind_some,cl _ (h6 _ (List.getElem_mem hlt)),Option.bind_some,Option.bind_some,hg,Option.bind_some,Qkb (by omega),set_self hg]
      rw [J5a];simp only [e]
      exact ih (k+1) (by omega)
  unfold move_Copy Qbb Zra
  rw [cl _ h1,Option.bind_some,cl _ h2,Option.bind_some]
  have:=l2 s.Rings.length 0 (by omega)
  rw [Int.natCast_zero] at this
  exact this
theorem Copy_ok (hS:RightS n items) (ok:OkS n items B s):move_Copy s=some s:=by
  have h1:=ok.at_
  have h2:=ok.rg
  have h3:=ok.mm
  have h4:=ok.ch
  have h5:=ok.out
  have h6:=hS.l4
  have h7:=hS.r2
  have h8:=hS.n2
  have h9:=hS.m2
  refine Copy_eq s (by omega) (by omega) (by omega) (by omega) (by omega) (fun l hl=>?_) (fun m hm=>?_)
  · obtain ⟨r,hr⟩:=List.getElem?_of_mem hl
    have:=ok.room r l hr;omega
  · obtain ⟨i,hi⟩:=List.getElem?_of_mem hm
    have:=(ok.mem i m hi).1.len;omega
theorem Finish_eq (n:Net) (items:List (List Item)) (s:State) (hsrc:srcR n items=0) (hI:Inv n items s) (hio:∀ x∈n.Nodes,x.In.length≤1099511627776∧x.Out.length≤1099511627776) {f:Nat} (hf:Zca n items (finM n items f s)=[]) :
    move_Finish n items s=some (finM n items f s,0):=by
  have hS:=rightS_of hsrc
  obtain ⟨B,ok,hB⟩:=hI
  unfold move_Finish
  rw [Check_eq n items s hio (fun l hl=>by
    obtain ⟨r,hr⟩:=List.getElem?_of_mem hl
    have:=ok.room r l hr
    have:=hS.m2;omega),chkS_0 hsrc ok,Option.bind_some,if_neg (by simp),Copy_ok hS ok,Option.bind_some,ready_eq hS ok,Option.bind_some]
  exact fin_loop hS f s ⟨B,ok,hB⟩ hf
end
theorem slices_Equal_Choice_eq' (a b:List Choice) (ha:a.length≤1099511627776):Vma a b=some (decide (a=b)):=by
  unfold Vma
  by_cases hl:a.length=b.length
  · rw [if_neg (by simp;omega)]
    exact equal_loop a b ha hl (fun k x y h1 h2 h3 h4=>by
      unfold Z5a
      rw [h1,h2,h3,h4]
      by_cases h:x=y<;>simp [h]) (fun h=>by
      unfold Z5a
      rw [h];simp)
  · rw [if_pos (by simp;omega)]
    have:a≠b:=fun e=>hl (by rw [e])
    simp [this]
theorem slices_Equal_Item_eq' (a b:List Item) (ha:a.length≤1099511627776):V6a a b=some (decide (a=b)):=by
  unfold V6a
  by_cases hl:a.length=b.length
  · rw [if_neg (by simp;omega)]
    exact equal_loop a b ha hl (fun k x y h1 h2 h3 h4=>by
      unfold Vfa
      rw [h1,h2,h3,h4]
      by_cases h:x=y<;>simp [h]) (fun h=>by
      unfold Vfa
      rw [h];simp)
  · rw [if_pos (by simp;omega)]
    have:a≠b:=fun e=>hl (by rw [e])
    simp [this]
theorem meeting_eq:Yia=some meetN:=rfl
theorem two_eq:crosslaw_two=some twoN:=rfl
theorem moved_true:Yka=some true:=by
  have hp:=Play_eq meetN twoN [1,1] meet_io
  rw [if_neg (by rw [meet_src];decide),if_neg (by decide)] at hp
  have hS:=rightS_of meet_src
  have hI:=play_inv hS [1,1] _ (start_inv hS)
  have hf:Zca meetN twoN (finM meetN twoN 20 (playM meetN twoN [1,1] (Qnb meetN twoN)))=[]:=by decide +kernel
  have hfin:=Finish_eq meetN twoN _ meet_src hI meet_io hf
  have hc:(finM meetN twoN 20 (playM meetN twoN [1,1] (Qnb meetN twoN))).Choices=[⟨2,1⟩,⟨2,0⟩]:=by decide +kernel
  have ho:(finM meetN twoN 20 (playM meetN twoN [1,1] (Qnb meetN twoN))).Out=[⟨2,2,1⟩,⟨1,1,2⟩]:=by decide +kernel
  unfold Yka
  rw [meeting_eq,two_eq,Option.bind_some,Option.bind_some,hp,Option.bind_some,Option.bind_some,Option.bind_some]
  simp only
  rw [hfin,Option.bind_some]
  simp only
  rw [hc,ho,slices_Equal_Choice_eq' _ _ (by simp),Option.bind_some,slices_Equal_Item_eq' _ _ (by simp),Option.bind_some]
  rfl
end Go.Proofs.Ytfbmoockopakjaa
namespace Go.Proofs.Ytfbmoockopakjaa
set_option linter.unusedVariables false
set_option linter.unusedSimpArgs false
def fullE (n:Net) (items:List (List Item)):Mach Item Memory (List Choice) where
  key:=Item.Key
  step:=fun i m x=>stepP (nodeN n i).Kind (nodeN n i).A m x
  stamp:=fun t x=>⟨x.Key,x.Val,(t.length:Int)+1⟩
  tick:=fun t i k=>t++[⟨i,k⟩]
  src:=fun a=>items.getD a []
def coreE (n:Net) (items:List (List Item)):Mach (Int × Int) (Int × List Keyed) Unit where
  key:=Prod.fst
  step:=fun i m x=>stepC (nodeN n i).Kind (nodeN n i).A m x
  stamp:=fun _ x=>x
  tick:=fun t _ _=>t
  src:=fun a=>(items.getD a []).map eraI
def absF (s:State):MSt Item Memory (List Choice):=⟨fun a=>(s.At.getD a 0).toNat,fun r=>s.Rings.getD r [],memN s,s.Out,s.Choices⟩
def era (c:MSt Item Memory (List Choice)):MSt (Int × Int) (Int × List Keyed) Unit:=⟨c.pos,fun r=>(c.rg r).map eraI,fun i=>eraM (c.mm i),c.out.map eraI,()⟩
theorem mst_ext {I M T:Type} {p q:MSt I M T} (h1:p.pos=q.pos) (h2:p.rg=q.rg) (h3:p.mm=q.mm) (h4:p.out=q.out) (h5:p.tr=q.tr):p=q:=by cases p;cases q;simp_all
theorem srcN_of {n:Net} {items:List (List Item)} (hS:RightS n items):SrcN n:=fun i j hi hj h1 h2 e=>hS.src1 i j hi hj h1 h2 (by have:=hS.a0 i hi;have:=hS.a0 j hj;omega)
section
variable {n:Net} {items:List (List Item)} {B:Int} {s:State}
theorem fit_full (hR:RightN n) (s:State) (l:List Int):fitM (some n.Room.toNat) (absF s) l ↔ roomy n s l=true:=by
  unfold fitM roomy
  rw [List.all_eq_true]
  have:=hR.m1
  constructor
  · intro h r hr
    have h1:(s.Rings.getD r.toNat []).length<n.Room.toNat:=h n.Room.toNat rfl r hr
    rw [decide_eq_true_eq]
    omega
  · intro h R hRm r hr
    cases hRm
    have:=of_decide_eq_true (h r hr)
    show (s.Rings.getD r.toNat []).length<n.Room.toNat
    omega
theorem go_full (hS:RightS n items) (ok:OkS n items B s) {i k:Nat} (hi:i<n.Nodes.length) (hk:k<Zva (nodeN n i)) {it:Item} (hh:headI n items s i k=some it):absF (doM n items s i k)=goM (fullE n items) n (absF s) (i,k) it:=by
  have hR:=hS.toRightN
  have hmi:i<s.Memory.length:=by rw [ok.mm];exact hi
  have hmk:stepM n s i it=mkM (fullE n items) n (absF s) (i,k) it:=by
    unfold stepM mkM inM chD;rfl
  refine mst_ext ?_ ?_ ?_ ?_ ?_
  · funext a
    show ((doM n items s i k).At.getD a 0).toNat=(if (nodeN n i).Kind=1 then upd (absF s).pos (nodeN n i).A.toNat ((absF s).pos (nodeN n i).A.toNat+1) else (absF s).pos) a
    rw [do_at hh]
    by_cases h1:(nodeN n i).Kind=1
    · obtain ⟨a0,a1,a2,a3,a4,a5⟩:=at_ok hS ok hi h1
      rw [if_pos h1,if_pos h1,getD_set _ _ _ _ _ (by omega)]
      unfold upd
      by_cases e:a=(nodeN n i).A.toNat
      · rw [if_pos e,if_pos e]
        show _=(s.At.getD (nodeN n i).A.toNat 0).toNat+1
        omega
      · rw [if_neg e,if_neg e];rfl
    · rw [if_neg h1,if_neg h1];rfl
  · funext r
    show (doM n items s i k).Rings.getD r []=_
    rw [do_rings hR ok.rg hi hk hh,hmk];rfl
  · funext j
    show (doM n items s i k).Memory.getD j ⟨0,[],0⟩=upd (absF s).mm i _ j
    rw [do_mem hh,getD_set _ _ _ _ _ hmi,hmk];rfl
  · show (doM n items s i k).Out=_
    rw [do_out hh,hmk];rfl
  · show (doM n items s i k).Choices=_
    rw [do_ch hh];rfl
theorem ex_full (hS:RightS n items) (ok:OkS n items B s) {i k:Nat} (hi:i<n.Nodes.length) (hk:k<Zva (nodeN n i)) (hc:canM n items s i k=true):Ex (fullE n items) n (some n.Room.toNat) (absF s) (i,k) (absF (doM n items s i k)):=by
  obtain ⟨it,hh,hroom,_⟩:=can_head hc
  exact ⟨⟨hi,hk⟩,it,hh,(fit_full hS.toRightN s _).2 hroom,go_full hS ok hi hk hh⟩
theorem can_of_ex (hS:RightS n items) {i k:Nat} {d:MSt Item Memory (List Choice)} (h:Ex (fullE n items) n (some n.Room.toNat) (absF s) (i,k) d) (h6:(nodeN n i).Kind=6→s.Choices.length≠500) (h8:(nodeN n i).Kind=8→s.Out.length≠2000):canM n items s i k=true:=by
  obtain ⟨_,x,hx,hf,_⟩:=h
  have hh:headI n items s i k=some x:=hx
  unfold canM
  rw [hh]
  have h1:=(fit_full hS.toRightN s _).1 hf
  have h2:roomy n s (outsI (nodeN n i) x.Key)=true:=h1
  simp only [h2,Bool.true_and,Bool.and_eq_true,Bool.not_eq_true',decide_eq_false_iff_not]
  exact ⟨fun e=>h6 e.1 e.2,fun e=>h8 e.1 e.2⟩
theorem ex_mv (hS:RightS n items) (ok:OkS n items B s) {m:Move} (hm:m∈Zca n items s):Ex (fullE n items) n (some n.Room.toNat) (absF s) (m.Node.toNat,m.Lane.toNat) (absF (doMv n items s m)):=by
  obtain ⟨i,k,rfl,hi,hk,hc⟩:=readyM_mem hm
  exact ex_full hS ok hi hk hc
theorem era_hd (c:MSt Item Memory (List Choice)) (m:Nat × Nat):hdM (coreE n items) n (era c) m=(hdM (fullE n items) n c m).map eraI:=by
  unfold hdM
  split
  · show ((items.getD _ []).map eraI)[c.pos _]?=_
    rw [List.getElem?_map];rfl
  · show ((c.rg _).map eraI).head?=_
    rw [List.head?_map]
theorem era_mk (c:MSt Item Memory (List Choice)) (m:Nat × Nat) (x:Item):mkM (coreE n items) n (era c) m (eraI x)=(eraM (mkM (fullE n items) n c m x).1,eraI (mkM (fullE n items) n c m x).2):=by
  have e1:inM (coreE n items) n (era c) m (eraI x)=eraI (inM (fullE n items) n c m x):=by
    unfold inM
    split<;>rfl
  unfold mkM
  rw [e1]
  exact (stepP_C _ _ _ _).symm
theorem era_go (c:MSt Item Memory (List Choice)) (m:Nat × Nat) (x:Item):era (goM (fullE n items) n c m x)=goM (coreE n items) n (era c) m (eraI x):=by
  have hk:=era_mk (n:=n) (items:=items) c m x
  refine mst_ext rfl ?_ ?_ ?_ rfl
  · funext r
    show (((if _ then (c.rg r).tail else c.rg r)++if (r:Int)∈toM (fullE n items) n m x then [(mkM (fullE n items) n c m x).2] else []):List Item).map eraI=(if _ then ((c.rg r).map eraI).tail else (c.rg r).map eraI)++if (r:Int)∈toM (coreE n items) n m (eraI x) then [(mkM (coreE n items) n (era c) m (eraI x)).2] else []
    rw [hk,List.map_append]
    have ht:toM (coreE n items) n m (eraI x)=toM (fullE n items) n m x:=rfl
    rw [ht]
    congr 1
    · split
      · rw [List.map_tail]
      · rfl
    · split<;>rfl
  · funext i
    show eraM (upd c.mm m.1 _ i)=upd (fun i=>eraM (c.mm i)) m.1 _ i
    rw [hk]
    unfold upd
    split<;>rfl
  · show (if _ then c.out++[_] else c.out).map eraI=if _ then c.out.map eraI++[_] else c.out.map eraI
    rw [hk]
    split
    · rw [List.map_append];rfl
    · rfl
theorem era_fit (room:Option Nat) (c:MSt Item Memory (List Choice)) (l:List Int):fitM room (era c) l ↔ fitM room c l:=by
  unfold fitM
  have:∀ r,((era c).rg r).length=(c.rg r).length:=fun r=>List.length_map ..
  simp only [this]
theorem era_ex {room:Option Nat} {c c':MSt Item Memory (List Choice)} {m:Nat × Nat} (h:Ex (fullE n items) n room c m c'):Ex (coreE n items) n room (era c) m (era c'):=by
  obtain ⟨h0,x,h1,h2,rfl⟩:=h
  refine ⟨h0,eraI x,by rw [era_hd,h1];rfl,(era_fit room c _).2 h2,era_go c m x⟩
theorem ex_era {room:Option Nat} {c:MSt Item Memory (List Choice)} {m:Nat × Nat} {d:MSt (Int × Int) (Int × List Keyed) Unit} (h:Ex (coreE n items) n room (era c) m d):∃ c',Ex (fullE n items) n room c m c'∧era c'=d:=by
  obtain ⟨h0,y,h1,h2,rfl⟩:=h
  rw [era_hd] at h1
  cases hx:hdM (fullE n items) n c m with
  | none=>rw [hx] at h1;cases h1
  | some x =>
    rw [hx] at h1
    cases h1
    exact ⟨_,⟨h0,x,hx,(era_fit room c _).1 h2,rfl⟩,era_go c m x⟩
theorem era_eq {t:State} {B':Int} (ok:OkS n items B s) (ok':OkS n items B' t) (h:era (absF s)=era (absF t)) :
    s.At=t.At∧s.Rings.map (List.map eraI)=t.Rings.map (List.map eraI)∧s.Memory.map eraM=t.Memory.map eraM∧s.Out.map eraI=t.Out.map eraI:=by
  have h1:=congrArg MSt.pos h
  have h2:=congrArg MSt.rg h
  have h3:=congrArg MSt.mm h
  have h4:=congrArg MSt.out h
  refine ⟨?_,?_,?_,h4⟩
  · refine List.ext_getElem? fun a=>?_
    have e1:=ok.at_
    have e2:=ok'.at_
    by_cases ha:a<s.At.length
    · have:=congrFun h1 a
      have e3:(s.At.getD a 0).toNat=(t.At.getD a 0).toNat:=this
      have g1:=ok.atP a _ (Zea 0 ha)
      have g2:=ok'.atP a _ (Zea 0 (show a<t.At.length by omega))
      rw [Zea 0 ha,Zea 0 (show a<t.At.length by omega)]
      congr 1;omega
    · rw [List.getElem?_eq_none (by omega),List.getElem?_eq_none (by omega)]
  · refine List.ext_getElem? fun r=>?_
    have e1:=ok.rg
    have e2:=ok'.rg
    rw [List.getElem?_map,List.getElem?_map]
    by_cases ha:r<s.Rings.length
    · have e3:(s.Rings.getD r []).map eraI=(t.Rings.getD r []).map eraI:=congrFun h2 r
      rw [Zea [] ha,Zea [] (show r<t.Rings.length by omega),Option.map_some,Option.map_some,e3]
    · rw [List.getElem?_eq_none (by omega),List.getElem?_eq_none (by omega)]
  · refine List.ext_getElem? fun i=>?_
    have e1:=ok.mm
    have e2:=ok'.mm
    rw [List.getElem?_map,List.getElem?_map]
    by_cases ha:i<s.Memory.length
    · have e3:eraM (memN s i)=eraM (memN t i):=congrFun h3 i
      unfold memN at e3
      rw [Zea (⟨0,[],0⟩:Memory) ha,Zea (⟨0,[],0⟩:Memory) (show i<t.Memory.length by omega),Option.map_some,Option.map_some,e3]
    · rw [List.getElem?_eq_none (by omega),List.getElem?_eq_none (by omega)]
end
end Go.Proofs.Ytfbmoockopakjaa
namespace Go.Proofs.Ytfbmoockopakjaa
set_option linter.unusedVariables false
set_option linter.unusedSimpArgs false
theorem eqf_loop {α β:Type} [DecidableEq β] (a b:List α) (ha:a.length≤1099511627776) (hl:a.length=b.length) (f:α→β) {body:Int→Option (Int ⊕ Bool)}
    (h1:∀ (k:Nat) (x y:α),a[k]?=some x→b[k]?=some y→decide ((k:Int)<(a.length:Int))=true→idx a (k:Int)=some x→idx b (k:Int)=some y→IntKind.i64.wrap ((k:Int)+1)=((k+1:Nat):Int)→body k=if f x=f y then some (.inl ((k+1:Nat):Int)) else some (.inr false))
    (h2:decide ((a.length:Int)<(a.length:Int))=false→body a.length=some (.inr true)):iter body 0=some (decide (a.map f=b.map f)):=by
  have key:∀ (m k:Nat),k+m=a.length→iter body k=some (decide ((a.drop k).map f=(b.drop k).map f)):=by
    intro m
    induction m with
    | zero =>
      intro k hk
      have hk:k=a.length:=by omega
      subst hk
      rw [J5a,h2 (by simp),List.drop_length,List.drop_of_length_le (by omega)]
      simp
    | succ m ih =>
      intro k hk
      have hlt:k<a.length:=by omega
      have hlt2:k<b.length:=by omega
      rw [J5a,h1 k a[k] b[k] (List.getElem?_eq_getElem hlt) (List.getElem?_eq_getElem hlt2) (by simp;omega) (Voa (List.getElem?_eq_getElem hlt)) (Voa (List.getElem?_eq_getElem hlt2)) (Qkb (by omega)),List.drop_eq_getElem_cons hlt,List.drop_eq_getElem_cons hlt2,List.map_cons,List.map_cons]
      by_cases hxy:f a[k]=f b[k]
      · rw [if_pos hxy]
        simp only
        rw [ih (k+1) (by omega)]
        simp [hxy]
      · rw [if_neg hxy]
        simp [hxy]
  have:=key a.length 0 (by omega)
  rw [Int.natCast_zero,List.drop_zero,List.drop_zero] at this
  exact this
theorem len_ne {α β:Type} (f:α→β) {a b:List α} (h:¬ a.length=b.length):¬ a.map f=b.map f:=fun e=>h (by have:=congrArg List.length e;simpa using this)
theorem slices_Equal_Keyed_eq' (a b:List Keyed) (ha:a.length≤1099511627776):Vua a b=some (decide (a=b)):=by
  unfold Vua
  by_cases hl:a.length=b.length
  · rw [if_neg (by simp;omega)]
    exact equal_loop a b ha hl (fun k x y h1 h2 h3 h4=>by
      unfold Vaa
      rw [h1,h2,h3,h4]
      by_cases h:x=y<;>simp [h]) (fun h=>by
      unfold Vaa
      rw [h];simp)
  · rw [if_pos (by simp;omega)]
    have:a≠b:=fun e=>hl (by rw [e])
    simp [this]
structure SmallS (s:State):Prop where
  a1:s.At.length≤1099511627776
  a2:s.Rings.length≤1099511627776
  a3:s.Memory.length≤1099511627776
  a4:s.Choices.length≤1099511627776
  a5:s.Out.length≤1099511627776
  a6:∀ l,l∈s.Rings→l.length≤1099511627776
  a7:∀ m,m∈s.Memory→m.Keys.length≤1099511627776
theorem smallS_of {n:Net} {items:List (List Item)} {B:Int} {s:State} (hS:RightS n items) (ok:OkS n items B s):SmallS s:=by
  have h1:=ok.at_
  have h2:=ok.rg
  have h3:=ok.mm
  have h4:=ok.ch
  have h5:=ok.out
  have h6:=hS.l4
  have h7:=hS.r2
  have h8:=hS.n2
  have h9:=hS.m2
  refine ⟨by omega,by omega,by omega,by omega,by omega,fun l hl=>?_,fun m hm=>?_⟩
  · obtain ⟨r,hr⟩:=List.getElem?_of_mem hl
    have:=ok.room r l hr;omega
  · obtain ⟨i,hi⟩:=List.getElem?_of_mem hm
    have:=(ok.mem i m hi).1.len;omega
theorem slices_Equal_int_eq' (a b:List Int) (ha:a.length≤1099511627776):Yja a b=some (decide (a=b)):=by
  unfold Yja
  by_cases hl:a.length=b.length
  · rw [if_neg (by simp;omega)]
    exact equal_loop a b ha hl (fun k x y h1 h2 h3 h4=>by
      unfold Vna
      rw [h1,h2,h3,h4]
      by_cases h:x=y<;>simp [h]) (fun h=>by
      unfold Vna
      rw [h];simp)
  · rw [if_pos (by simp;omega)]
    have:a≠b:=fun e=>hl (by rw [e])
    simp [this]
theorem alike_eq (a b:List Item) (ha:a.length≤1099511627776):Yna a b=some (decide (a.map eraI=b.map eraI)):=by
  unfold Yna Jva
  by_cases hl:a.length=b.length
  · rw [if_neg (by simp;omega),eqf_loop a b ha hl eraI (fun k x y hx hy e1 e2 e3 e4=>by
      unfold Jla Y9a
      rw [e1,e2,e3,e4]
      simp only [if_true,Option.bind_some]
      by_cases h:x.Key=y.Key
      · by_cases h2:x.Val=y.Val<;>simp [h,h2,eraI]
      · simp [h,eraI]) (fun h=>by
      unfold Jla
      rw [h];rfl)]
    rfl
  · rw [if_pos (by simp;omega)]
    simp [len_ne eraI hl]
theorem alikes_eq (a b:List (List Item)) (ha:a.length≤1099511627776) (hi:∀ l,l∈a→l.length≤1099511627776):Jka a b=some (decide (a.map (List.map eraI)=b.map (List.map eraI))):=by
  unfold Jka
  by_cases hl:a.length=b.length
  · rw [if_neg (by simp;omega)]
    exact eqf_loop a b ha hl (List.map eraI) (fun k x y hx hy e1 e2 e3 e4=>by
      unfold Jha
      rw [e1,e2,e3,e4]
      simp only [if_true,Option.bind_some]
      rw [alike_eq x y (hi x (List.mem_of_getElem? hx)),Option.bind_some]
      by_cases h:x.map eraI=y.map eraI<;>simp [h]) (fun h=>by
      unfold Jha
      rw [h];rfl)
  · rw [if_pos (by simp;omega)]
    simp [len_ne (List.map eraI) hl]
theorem memsE_eq (a b:List Memory) (ha:a.length≤1099511627776) (hi:∀ m,m∈a→m.Keys.length≤1099511627776):Jia a b=some (decide (a.map eraM=b.map eraM)):=by
  unfold Jia
  by_cases hl:a.length=b.length
  · rw [if_neg (by simp;omega)]
    exact eqf_loop a b ha hl eraM (fun k x y hx hy e1 e2 e3 e4=>by
      unfold Jca Vwa
      rw [e1,e2,e3,e4]
      simp only [if_true,Option.bind_some]
      rw [slices_Equal_Keyed_eq' _ _ (hi x (List.mem_of_getElem? hx))]
      by_cases h:x.Sum=y.Sum
      · by_cases h2:x.Keys=y.Keys<;>simp [h,h2,eraM]
      · simp [h,eraM]) (fun h=>by
      unfold Jca
      rw [h];rfl)
  · rw [if_pos (by simp;omega)]
    simp [len_ne eraM hl]
theorem bound_ex (l:List Memory):∃ B:Int,0≤B∧∀ m,m∈l→∀ y,y∈m.Keys→y.N≤B:=by
  have h1:∀ ks:List Keyed,∃ B:Int,0≤B∧∀ y,y∈ks→y.N≤B:=by
    intro ks
    induction ks with
    | nil=>exact ⟨0,by omega,fun y hy=>by cases hy⟩
    | cons k ks ih =>
      obtain ⟨B,h0,hB⟩:=ih
      refine ⟨B+k.N.natAbs,by omega,fun y hy=>?_⟩
      rcases List.mem_cons.1 hy with rfl | hy
      · omega
      · have:=hB y hy;omega
  induction l with
  | nil=>exact ⟨0,by omega,fun m hm=>by cases hm⟩
  | cons m l ih =>
    obtain ⟨B,h0,hB⟩:=ih
    obtain ⟨B',h0',hB'⟩:=h1 m.Keys
    refine ⟨B+B',by omega,fun q hq y hy=>?_⟩
    rcases List.mem_cons.1 hq with rfl | hq
    · have:=hB' y hy;omega
    · have:=hB q hq y hy;omega
section
variable {n:Net} {items:List (List Item)} {B:Int} {s:State}
theorem chk_src (h:chkS n items s=0):srcR n items=0:=by
  unfold chkS at h
  split at h
  · exact h
  · rename_i h1;exact Decidable.not_not.1 h1
theorem okS_ex (h:chkS n items s=0):∃ B:Int,0≤B∧OkS n items B s:=by
  obtain ⟨B,h0,hB⟩:=bound_ex s.Memory
  exact ⟨B,h0,okS_of h hB⟩
theorem Ready_eq (n:Net) (items:List (List Item)) (s:State) (hio:∀ x∈n.Nodes,x.In.length≤1099511627776∧x.Out.length≤1099511627776) (hr:∀ l,l∈s.Rings→l.length≤1099511627776):move_Ready n items s=some (if chkS n items s≠0 then ([],chkS n items s) else (Zca n items s,0)):=by
  unfold move_Ready
  rw [Check_eq n items s hio hr,Option.bind_some]
  by_cases h:chkS n items s=0
  · obtain ⟨B,_,ok⟩:=okS_ex h
    rw [if_neg (show ¬ (chkS n items s != 0)=true by simp [h]),if_neg (show ¬ chkS n items s≠0 by simp [h]),ready_eq (rightS_of (chk_src h)) ok];rfl
  · rw [if_pos (show (chkS n items s != 0)=true by simpa using h),if_pos h]
def goodMv (n:Net) (m:Move):Prop:=0≤m.Node∧m.Node<n.Nodes.length∧0≤m.Lane∧m.Lane<Zva (nodeN n m.Node.toNat)
instance (n:Net) (m:Move):Decidable (goodMv n m):=by unfold goodMv;infer_instance
def canMv (n:Net) (items:List (List Item)) (s:State) (m:Move):Bool:=canM n items s m.Node.toNat m.Lane.toNat
theorem Do_eq (n:Net) (items:List (List Item)) (s:State) (m:Move) (hio:∀ x∈n.Nodes,x.In.length≤1099511627776∧x.Out.length≤1099511627776) (hr:∀ l,l∈s.Rings→l.length≤1099511627776) :
    move_Do n items s m=some (if chkS n items s≠0 then (noS,chkS n items s) else if ¬ goodMv n m then (noS,5) else if canMv n items s m=false then (noS,10) else (doMv n items s m,0)):=by
  unfold move_Do
  rw [Check_eq n items s hio hr,Option.bind_some]
  by_cases h:chkS n items s=0
  · obtain ⟨B,_,ok⟩:=okS_ex h
    have hS:=rightS_of (chk_src h)
    rw [if_neg (show ¬ (chkS n items s != 0)=true by simp [h]),if_neg (show ¬ chkS n items s≠0 by simp [h])]
    have hb : (if (decide (m.Node<0))=true then (some true) else (if (decide (m.Node ≥ ((n.Nodes).length:Int)))=true then (some true) else (if (decide (m.Lane<0))=true then (some true) else (if (decide (m.Lane > 0))=true then (Option.bind (idx n.Nodes m.Node) fun x3=>(if (x3.Kind != 6)=true then (some true) else (Option.bind (idx n.Nodes m.Node) fun x4=>(some (decide (m.Lane ≥ ((x4.In).length:Int))))))) else (some false)))))=some (decide (¬ goodMv n m)):=by
      by_cases h1:m.Node<0
      · rw [if_pos (by simpa using h1)];simp [goodMv];omega
      · rw [if_neg (by simpa using h1)]
        by_cases h2:m.Node ≥ (n.Nodes.length:Int)
        · rw [if_pos (by simpa using h2)];simp [goodMv];omega
        · rw [if_neg (by simpa using h2)]
          by_cases h3:m.Lane<0
          · rw [if_pos (by simpa using h3)];simp [goodMv];omega
          · rw [if_neg (by simpa using h3)]
            have hi:idx n.Nodes m.Node=some (nodeN n m.Node.toNat):=idx_D _ (by omega) (by omega)
            have hlt:m.Node.toNat<n.Nodes.length:=by omega
            by_cases h4:m.Lane > 0
            · rw [if_pos (by simpa using h4),hi,Option.bind_some]
              by_cases h6:(nodeN n m.Node.toNat).Kind=6
              · rw [if_neg (by simpa using h6),Option.bind_some]
                have hl:Zva (nodeN n m.Node.toNat)=(nodeN n m.Node.toNat).In.length:=by unfold Zva;rw [if_pos h6]
                congr 1
                rw [decide_eq_decide];unfold goodMv;omega
              · rw [if_pos (by simpa using h6)]
                have hl:Zva (nodeN n m.Node.toNat)=1:=by unfold Zva;rw [if_neg h6]
                congr 1
                rw [eq_comm,decide_eq_true_eq];unfold goodMv;omega
            · rw [if_neg (by simpa using h4)]
              have hpos:0<Zva (nodeN n m.Node.toNat):=by
                unfold Zva
                split
                · rename_i h6;exact hS.in6 _ hlt h6
                · omega
              congr 1
              rw [eq_comm,decide_eq_false_iff_not];unfold goodMv;omega
    rw [hb,Option.bind_some]
    by_cases hg:goodMv n m
    · rw [if_neg (by simpa using hg),if_neg (by simpa using hg)]
      obtain ⟨g0,g1,g2,g3⟩:=hg
      have hm:m=⟨(m.Node.toNat:Int),(m.Lane.toNat:Int)⟩:=by cases m;simp at *;omega
      have hi:m.Node.toNat<n.Nodes.length:=by omega
      have hk:m.Lane.toNat<Zva (nodeN n m.Node.toNat):=by omega
      have hc:move_can n items s m=some (canMv n items s m):=by
        rw [hm];exact can_eq hS ok hi hk
      rw [hc,Option.bind_some]
      cases hcm:canMv n items s m with
      | false=>rfl
      | true =>
        rw [if_neg (by simp),if_neg (by simp),Copy_ok hS ok,Option.bind_some]
        have hd:Vha n items m s.At s.Rings s.Memory s.Choices s.Out=some ((doMv n items s m).At,(doMv n items s m).Rings,(doMv n items s m).Memory,(doMv n items s m).Choices,(doMv n items s m).Out):=by
          rw [hm];exact do_eq hS ok hi hk hcm
        rw [hd,Option.bind_some]
    · rw [if_pos (by simpa using hg),if_pos (by simpa using hg)];rfl
  · rw [if_pos (show (chkS n items s != 0)=true by simpa using h),if_pos h];rfl
theorem goodMv_of {m:Move} (hm:m∈Zca n items s):goodMv n m∧canMv n items s m=true:=by
  obtain ⟨i,k,rfl,hi,hk,hc⟩:=readyM_mem hm
  exact ⟨⟨by simp,by simpa using hi,by simp,by simpa using hk⟩,hc⟩
theorem Do_ready (hsrc:srcR n items=0) (ok:OkS n items B s) {m:Move} (hm:m∈Zca n items s) (hio:∀ x∈n.Nodes,x.In.length≤1099511627776∧x.Out.length≤1099511627776):move_Do n items s m=some (doMv n items s m,0):=by
  have hS:=rightS_of hsrc
  obtain ⟨h1,h2⟩:=goodMv_of hm
  rw [Do_eq n items s m hio (smallS_of hS ok).a6,if_neg (by simp [chkS_0 hsrc ok]),if_neg (by simpa using h1),if_neg (by simp [h2])]
end
end Go.Proofs.Ytfbmoockopakjaa
namespace Go.Proofs.Ytfbmoockopakjaa
set_option linter.unusedVariables false
set_option linter.unusedSimpArgs false
theorem At_eq (c:Int) (m:Nat) (h0:0<m) (h:m≤1000000000000):crossref_At c m=some (c % m):=by
  have h1:=Int.tmod_lt_of_pos c (show (0:Int)<m by omega)
  have h2:=Int.lt_tmod_of_pos c (show (0:Int)<m by omega)
  have h4:=Int.emod_nonneg c (show (m:Int)≠0 by omega)
  have h5:=Int.emod_lt_of_pos c (show (0:Int)<m by omega)
  unfold crossref_At rem
  rw [if_neg (by omega),Option.bind_some]
  have h3:c.tmod m=if 0≤c∨(m:Int) ∣ c then c % m else c % m - m:=by
    rw [Int.tmod_eq_emod]
    split<;>simp
  by_cases hc:0≤c∨(m:Int) ∣ c
  · rw [h3,if_pos hc,if_neg (by simp;omega)]
  · rw [h3,if_neg hc,if_pos (by simp;omega),Yqa (by omega) (by omega)]
    congr 1;omega
section
variable {n:Net} {items:List (List Item)} {B:Int} {s:State}
theorem doMv_lens {m:Move}:(doMv n items s m).Choices.length≤s.Choices.length+1∧((nodeN n m.Node.toNat).Kind≠8→(doMv n items s m).Out.length≤s.Out.length):=by
  unfold doMv doM
  split
  · exact ⟨by omega,fun _=>Nat.le_refl _⟩
  · refine ⟨?_,fun h8=>?_⟩
    · simp only;split
      · simp
      · omega
    · simp only;rw [if_neg h8];exact Nat.le_refl _
theorem either (hS:RightS n items) (hI:Inv n items s) (h500:s.Choices.length+2≤500) (h2000:s.Out.length<2000) {a b:Move} (ha:a∈Zca n items s) (hb:b∈Zca n items s) (hne:a.Node≠b.Node) :
    b∈Zca n items (doMv n items s a)∧a∈Zca n items (doMv n items s b)∧era (absF (doMv n items (doMv n items s a) b))=era (absF (doMv n items (doMv n items s b) a)):=by
  have hR:=hS.toRightN
  have hIa:=(Inv.doMv hS hI ha).1
  have hIb:=(Inv.doMv hS hI hb).1
  obtain ⟨B,ok,hB⟩:=hI
  have ea:=era_ex (ex_mv hS ok ha)
  have eb:=era_ex (ex_mv hS ok hb)
  obtain ⟨i,k,rfl,hi,hk,hca⟩:=readyM_mem ha
  obtain ⟨j,l,rfl,hj,hl,hcb⟩:=readyM_mem hb
  have hij:i≠j:=fun e=>hne (by rw [e])
  simp only [Int.toNat_natCast] at ea eb
  obtain ⟨d,d1,d2⟩:=diamond hR (srcN_of hS) ea eb hij (.inr (.inr fun _ _ _=>rfl))
  have la:=doMv_lens (n:=n) (items:=items) (s:=s) (m:=⟨i,k⟩)
  have lb:=doMv_lens (n:=n) (items:=items) (s:=s) (m:=⟨j,l⟩)
  simp only [Int.toNat_natCast] at la lb
  have key:∀ {t:State} {q r:Nat} (hq:q<n.Nodes.length) (hr:r<Zva (nodeN n q)),Inv n items t→Ex (coreE n items) n (some n.Room.toNat) (era (absF t)) (q,r) d→t.Choices.length<500→((nodeN n q).Kind=8→t.Out.length<2000)→(⟨q,r⟩:Move)∈Zca n items t∧era (absF (doMv n items t ⟨q,r⟩))=d:=by
    intro t q r hq hr hIt hex hc ho
    obtain ⟨c',h1,_⟩:=ex_era hex
    have hm:=mem_readyM hq hr (can_of_ex hS h1 (fun _=>by omega) (fun e=>by have:=ho e;omega))
    obtain ⟨B',ok',_⟩:=hIt
    have h2:=era_ex (ex_mv hS ok' hm)
    simp only [Int.toNat_natCast] at h2
    exact ⟨hm,h2.det hex⟩
  obtain ⟨m1,e1⟩:=key hj hl hIa d1 (by omega) (fun h8=>by
    have h9:(nodeN n i).Kind≠8:=fun h=>hij (hR.sink1 i j hi hj h h8)
    have:=la.2 h9;omega)
  obtain ⟨m2,e2⟩:=key hi hk hIb d2 (by omega) (fun h8=>by
    have h9:(nodeN n j).Kind≠8:=fun h=>hij (hR.sink1 i j hi hj h8 h)
    have:=lb.2 h9;omega)
  exact ⟨m1,m2,by rw [e1,e2]⟩
theorem ch_len {m:Move} (hm:m∈Zca n items s):(doMv n items s m).Choices.length=s.Choices.length+if (nodeN n m.Node.toNat).Kind=6 then 1 else 0:=by
  obtain ⟨i,k,rfl,hi,hk,hc⟩:=readyM_mem hm
  obtain ⟨it,hh,_⟩:=can_head hc
  unfold doMv
  simp only [Int.toNat_natCast]
  rw [do_ch hh]
  split<;>simp
end
theorem MoveEither_true (n:Net) (items:List (List Item)) (p:List Int) (i k:Int) (hb:mNet n+(mL (mL mItem) items+(mL mI p+(mI i+(mI k+0))))≤1048576):Yfa n items p i k=some true:=by
  have hio:=net_io (show mNet n≤1048576 by omega)
  unfold Yfa
  rw [Play_eq n items p hio,Option.bind_some,moved_true]
  have bad:∀ e:Int,e≠0→∃ q,move_Ready n items (noS,e).1=some q:=fun e he=>⟨_,Ready_eq n items noS hio (fun l hl=>by cases hl)⟩
  by_cases h:srcR n items=0
  · rw [if_neg (show ¬ srcR n items≠0 by simp [h])]
    by_cases hp:2000<p.length
    · rw [if_pos hp]
      obtain ⟨q,hq⟩:=bad 2 (by decide)
      rw [hq];rfl
    · rw [if_neg hp]
      have hS:=rightS_of h
      have hI:=play_inv hS p _ (start_inv hS)
      simp only
      generalize playM n items p (Qnb n items)=s at hI
      obtain ⟨B,ok,hB⟩:=hI
      rw [Ready_eq n items s hio (smallS_of hS ok).a6,if_neg (by simp [chkS_0 h ok]),Option.bind_some,Option.bind_some]
      simp only
      unfold crosslaw_far
      rw [Option.bind_some]
      have hch:=ok.ch
      have h192:=readyM_len (items:=items) (s:=s) hS.toRightN
      have hw:IntKind.i64.wrap ((s.Choices.length:Int)+2)=(s.Choices.length:Int)+2:=Yqa (by omega) (by omega)
      rw [hw]
      by_cases h0:Zca n items s=[]
      · rw [h0];rfl
      · have hpos:0<(Zca n items s).length:=List.length_pos_iff.2 h0
        by_cases hf:s.Choices.length+2≤500∧s.Out.length<2000
        · rw [show (if (!true)=true then (some true) else (if ((0:Int) != 0)=true then (some true) else (if ((0:Int) != 0)=true then (some true) else (if (((Zca n items s).length:Int)==0)=true then (some true) else (if (!((decide (((s.Choices).length:Int)<500)) && decide (((s.Out).length:Int)<2000)))=true then (some true) else (some (decide (((s.Choices).length:Int)+2 > 500))))))))=some false from by
            rw [if_neg (by decide),if_neg (by decide),if_neg (by decide),if_neg (by simp;omega),if_neg (by simp;omega)]
            simp;omega]
          rw [Option.bind_some,if_neg (by decide),At_eq i _ hpos (by omega),Option.bind_some,At_eq k _ hpos (by omega)]
          obtain ⟨ma,ia⟩:=pick_mem h0 i
          obtain ⟨mb,ib⟩:=pick_mem h0 k
          have na:=Int.emod_nonneg i (show ((Zca n items s).length:Int)≠0 by omega)
          have nb:=Int.emod_nonneg k (show ((Zca n items s).length:Int)≠0 by omega)
          have ga:(Zca n items s)[(i % ((Zca n items s).length:Int)).toNat]?=some (pickM (Zca n items s) i):=Zea _ ia
          have gb:(Zca n items s)[(k % ((Zca n items s).length:Int)).toNat]?=some (pickM (Zca n items s) k):=Zea _ ib
          rw [ixN_D na (by omega),Option.bind_some,ga,Option.bind_some,Option.bind_some,ixN_D nb (by omega),Option.bind_some,gb,Option.bind_some]
          generalize pickM (Zca n items s) i=a at ma
          generalize pickM (Zca n items s) k=b at mb
          by_cases hne:a.Node=b.Node
          · rw [if_pos (by simpa using hne)]
          · rw [if_neg (by simpa using hne)]
            obtain ⟨e1,e2,e3⟩:=either hS ⟨B,ok,hB⟩ hf.1 hf.2 ma mb hne
            obtain ⟨Ba,oka,hBa⟩:=(Inv.doMv hS ⟨B,ok,hB⟩ ma).1
            obtain ⟨Bb,okb,hBb⟩:=(Inv.doMv hS ⟨B,ok,hB⟩ mb).1
            obtain ⟨Bx,okx,_⟩:=(Inv.doMv hS ⟨Ba,oka,hBa⟩ e1).1
            obtain ⟨By,oky,_⟩:=(Inv.doMv hS ⟨Bb,okb,hBb⟩ e2).1
            rw [Do_ready h ok ma hio,Option.bind_some,Do_ready h ok mb hio,Option.bind_some,if_neg (by simp)]
            simp only
            rw [Do_ready h oka e1 hio,Option.bind_some,Do_ready h okb e2 hio,Option.bind_some]
            simp only
            have cl:(doMv n items (doMv n items s a) b).Choices.length=(doMv n items (doMv n items s b) a).Choices.length:=by
              rw [ch_len e1,ch_len e2,ch_len ma,ch_len mb];omega
            obtain ⟨q1,q2,q3,q4⟩:=era_eq okx oky e3
            have sx:=smallS_of hS okx
            rw [slices_Equal_int_eq' _ _ sx.a1,alikes_eq _ _ sx.a2 sx.a6,alike_eq _ _ sx.a5,memsE_eq _ _ sx.a3 sx.a7]
            simp [q1,q2,q3,q4,cl]
        · rw [show (if (!true)=true then (some true) else (if ((0:Int) != 0)=true then (some true) else (if ((0:Int) != 0)=true then (some true) else (if (((Zca n items s).length:Int)==0)=true then (some true) else (if (!((decide (((s.Choices).length:Int)<500)) && decide (((s.Out).length:Int)<2000)))=true then (some true) else (some (decide (((s.Choices).length:Int)+2 > 500))))))))=some true from by
            rw [if_neg (by decide),if_neg (by decide),if_neg (by decide),if_neg (by simp;omega)]
            by_cases hq:s.Choices.length<500∧s.Out.length<2000
            · rw [if_neg (by simp;omega)];simp;omega
            · rw [if_pos (by simp;omega)]]
          rfl
  · rw [if_pos h]
    obtain ⟨q,hq⟩:=bad (srcR n items) h
    rw [hq,Option.bind_some,Option.bind_some,if_neg (by decide),if_pos (by simpa using h)];rfl
end Go.Proofs.Ytfbmoockopakjaa
namespace Go.Proofs.Ytfbmoockopakjaa.moveEitherLaw
open Go.ChangeShapes Go.WideShapes Go.ChangeAt Go.RowKit
set_option linter.unusedVariables false
theorem own:ownKnob Try.prog.godebug=none:=by kernel_rfl
theorem laid:laidOutB Try.prog=true:=by kernel_rfl
theorem ok:(Try.f6.params.toList.all fun t=>Try.prog.readableRec t && decide (t<Try.prog.types.size))=true:=by kernel_rfl
set_option maxRecDepth 100000 in
theorem contract (H:Type) (enc:TypeId × Value→H) (W:World) (base:Nat) (args:Array Value) (ds gs:List (DataW H)) (before:List MemPlace)
    (hval:∀ (j:Nat) t v,Try.f6.params[j]?=some t→args[j]?=some v→Value.okWide Try.prog W .any base t v)
    (hW:DataW.Whole enc Try.prog Try.f6.params.toList Rows.moveEitherSpec.vars false W args.toList ds gs before) (hk:Rows.uptoSmall H (ds++gs)=true) :
    Calls Try.prog 6 args W fun e W'=>∃ v,e=.returned v∧Rows.moveEitherSpec.post enc Try.prog Try.f6 false true false false W args v W':=by
  have hW':=hW
  obtain ⟨p,q,hA0,hV,rfl,hfz,hnd⟩:=hW
  have hA:DataW.TrodAll enc Try.prog W 0 (fun _=>true) true Try.f6.params.toList args.toList ds p:=hA0
  rw [Try.params6] at hA hval
  obtain ⟨v0,vs0,d0,ds0,p0,q0,hargs,rfl,rfl,h0,r0⟩:=trodAll_cons hA
  obtain ⟨v1,vs1,d1,ds1,p1,q1,rfl,rfl,rfl,h1,r1⟩:=trodAll_cons r0
  obtain ⟨v2,vs2,d2,ds2,p2,q2,rfl,rfl,rfl,h2,r2⟩:=trodAll_cons r1
  obtain ⟨v3,vs3,d3,ds3,p3,q3,rfl,rfl,rfl,h3,r3⟩:=trodAll_cons r2
  obtain ⟨v4,vs4,d4,ds4,p4,q4,rfl,rfl,rfl,h4,r4⟩:=trodAll_cons r3
  obtain ⟨rfl,rfl,rfl⟩:=trodAll_nil r4
  obtain rfl:args=#[v0,v1,v2,v3,v4]:=by cases args;simp_all
  obtain ⟨rfl,rfl⟩:=trodVars_none hV
  obtain ⟨x0,a0,g0,m0⟩:=Opn.args on24 Try.underlying24 (hval 0 _ v0 rfl rfl) h0
  obtain ⟨x1,a1,g1,m1⟩:=Opn.arg on25 (by rw [Try.underlying25]) (hval 1 _ v1 rfl rfl) h1
  obtain ⟨x2,a2,g2,m2⟩:=Opn.arg on26 (by rw [Try.underlying26]) (hval 2 _ v2 rfl rfl) h2
  obtain ⟨x3,a3,g3,m3⟩:=Opn.arg on3 (by rw [Try.underlying3]) (hval 3 _ v3 rfl rfl) h3
  obtain ⟨x4,a4,g4,m4⟩:=Opn.arg on3 (by rw [Try.underlying3]) (hval 4 _ v4 rfl rfl) h4
  have hb:Rows.uptoBulkAll ([d0,d1,d2,d3,d4]:List (DataW H))≤1048576:=of_decide_eq_true hk
  simp only [Rows.uptoBulkAll] at hb
  refine law_post laid Try.underlying4 (by kernel_rfl) ok rfl rfl rfl rfl hW' (av:=[_,_,_,_,_]) (.cons a0 (.cons a1 (.cons a2 (.cons a3 (.cons a4 (.nil)))))) (crosslaw_MoveEither_c x0 x1 x2 x3 x4 true (MoveEither_true x0 x1 x2 x3 x4 (by omega)))
set_option maxRecDepth 100000 in
theorem lifted (os:Os) (started:os.Started) (H:Type) (enc:TypeId × Value→H) (F:Stop.Interp) :
    ReturnsInHanded {} Try.checked os 6 .any ((Rows.OpenSpec.upto Rows.moveEitherSpec).pre6 enc Try.prog Try.f6 Rows.moveEitherUptoRow.domain false) (((Rows.OpenSpec.upto Rows.moveEitherSpec).at F).post enc Try.prog Try.f6 false true false false):=by
  refine returnsInHanded_of_cond (C:=Try.checked) (s:=Rows.OpenSpec.upto Rows.moveEitherSpec) (k:=Rows.uptoSmall) rfl own started (by kernel_rfl) Try.func6
    (OpenSpec.witness (enc:=enc) (C:=Try.checked) (s:=Rows.OpenSpec.upto Rows.moveEitherSpec) (k:=Rows.uptoSmall) rfl false ⟨#[],#[.agg #[.slice none 0 0,.int .i64 0,.int .i64 0],.slice none 0 0,.slice none 0 0,.int .i64 0,.int .i64 0],[]⟩ 8 (by kernel_rfl) (by kernel_rfl) (by kernel_rfl)
      (x:=([.agg [.nil,.lit (.int .i64 0),.lit (.int .i64 0)],.nil,.nil,.lit (.int .i64 0),.lit (.int .i64 0)],[],[])) (by kernel_rfl) rfl (by kernel_rfl)) ?_
  intro W base args ds gs before hval hW _ hk _
  exact contract H enc W base args ds gs before hval hW hk
theorem proved:Rows.MoveEitherUptoSaid :=
  OpenClaim.holds_of_cond 6 Try.f6 rfl rfl rfl rfl rfl rfl rfl ⟨rfl,rfl,rfl,rfl,rfl⟩ rfl rfl rfl rfl rfl (by kernel_rfl) Try.func6 (by kernel_rfl)
    (of_decide_eq_true (by kernel_rfl)) (by unfold Func.isWrapper;first | (rw [if_pos (by decide +kernel)];kernel_rfl) | (rw [if_neg (by decide +kernel)];exact ⟨rfl,rfl⟩))
    (fun os started H enc _ F=>lifted os started H enc F)
#print axioms proved
end Go.Proofs.Ytfbmoockopakjaa.moveEitherLaw
