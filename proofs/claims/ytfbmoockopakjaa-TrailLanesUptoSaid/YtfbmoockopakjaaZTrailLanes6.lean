/-
  Part 6 of the proof of trailLanesLaw.proved: the code computes these functions, and the law holds of them, with no condition beyond the statement's own; put together by a program of ours (wip/decl.py) out of texts of ours.
-/
import Derived.Test.YtfbmoockopakjaaZTrailLanes5
namespace Go.Proofs.Ytfbmoockopakjaa
set_option linter.unusedVariables false
set_option linter.unusedSimpArgs false
section
variable {n:Net} {items:List (List Item)} {B:Int} {s:State}
theorem lanes_le (hR:RightN n) {i:Nat} (hi:i<n.Nodes.length):lanesN (nodeN n i)≤16:=by
  unfold lanesN
  split
  · have:=nodup_len (hR.ndI i hi) (hR.inR i hi) hR.r1
    have:=hR.r2;omega
  · omega
theorem ready_in (hS:RightS n items) (ok:OkS n items B s) {i:Nat} (hi:i<n.Nodes.length):∀ (m k:Nat) (acc:List Move),k+m=lanesN (nodeN n i)→acc.length+m≤1000000 →
    iter (fun ss:Int × (List Move)=>move_ready_l1 n items (i:Int) s (lanesN (nodeN n i):Int) ss.1 ss.2) ((k:Int),acc)=some (.inl (((i+1:Nat):Int),acc++(((List.range (lanesN (nodeN n i))).drop k).filter fun k=>canM n items s i k).map fun k:Nat=>(⟨i,k⟩:Move)))
  | 0,k,acc,h,ha=>by
    have hk:k=lanesN (nodeN n i):=by omega
    have e:move_ready_l1 n items (i:Int) s (lanesN (nodeN n i):Int) (k:Int) acc=some (.inr (.inl (((i+1:Nat):Int),acc))):=by
      unfold move_ready_l1
      have:=hS.n2
      rw [if_neg (by simp;omega),wrap_1 (by omega)];rfl
    rw [iter_eq]
    simp only [e]
    rw [List.drop_of_length_le (by simp;omega)]
    simp
  | m + 1,k,acc,h,ha=>by
    have hk:k<lanesN (nodeN n i):=by omega
    have h16:=lanes_le hS.toRightN hi
    have hd:(List.range (lanesN (nodeN n i))).drop k=k::(List.range (lanesN (nodeN n i))).drop (k+1):=by
      rw [List.drop_eq_getElem_cons (by simpa using hk),List.getElem_range]
    have e:move_ready_l1 n items (i:Int) s (lanesN (nodeN n i):Int) (k:Int) acc=some (.inl (((k+1:Nat):Int),if canM n items s i k=true then acc++[⟨i,k⟩] else acc)):=by
      unfold move_ready_l1
      rw [if_pos (by simp;omega),can_eq hS ok hi hk,Option.bind_some,wrap_1 (by omega)]
      cases canM n items s i k with
      | true=>rw [if_pos rfl,if_pos rfl,app_ok (by simp;omega)];rfl
      | false=>rw [if_neg (by decide),if_neg (by decide)]
    rw [iter_eq]
    simp only [e]
    rw [ready_in hS ok hi m (k+1) _ (by omega) (by split<;>(try simp)<;>omega),hd,List.filter_cons]
    cases canM n items s i k<;>simp
theorem readyI_len (hR:RightN n) {i:Nat} (hi:i<n.Nodes.length):(readyI n items s i).length≤16:=by
  unfold readyI
  rw [List.length_map]
  have:=List.length_filter_le (fun k=>canM n items s i k) (List.range (lanesN (nodeN n i)))
  have:=lanes_le hR hi
  simp at *;omega
theorem ready_out (hS:RightS n items) (ok:OkS n items B s):∀ (m i:Nat) (acc:List Move),i+m=n.Nodes.length→acc.length+16*m≤1000 →
    iter (fun ss:Int × (List Move)=>move_ready_l3 n items s ss.1 ss.2) ((i:Int),acc)=some (acc++((List.range n.Nodes.length).drop i).flatMap fun i=>readyI n items s i)
  | 0,i,acc,h,ha=>by
    have hk:i=n.Nodes.length:=by omega
    have e:move_ready_l3 n items s (i:Int) acc=some (.inr acc):=by
      unfold move_ready_l3
      rw [if_neg (by simp;omega)];rfl
    rw [iter_eq]
    simp only [e]
    rw [List.drop_of_length_le (by simp;omega)]
    simp
  | m + 1,i,acc,h,ha=>by
    have hi:i<n.Nodes.length:=by omega
    have hd:(List.range n.Nodes.length).drop i=i::(List.range n.Nodes.length).drop (i+1):=by
      rw [List.drop_eq_getElem_cons (by simpa using hi),List.getElem_range]
    have hin:=ready_in hS ok hi (lanesN (nodeN n i)) 0 acc (by omega) (by have:=lanes_le hS.toRightN hi;omega)
    have e:move_ready_l3 n items s (i:Int) acc=some (.inl (((i+1:Nat):Int),acc++readyI n items s i)):=by
      unfold move_ready_l3 move_ready_k2
      rw [if_pos (by simp;omega),idx_at (nodeN_get hi),Option.bind_some]
      have hl:(if ((nodeN n i).Kind==6)=true then iter (fun ss_36:Int × (List Move)=>move_ready_l1 n items (i:Int) s ((nodeN n i).In.length:Int) ss_36.1 ss_36.2) (0,acc) else iter (fun ss_36:Int × (List Move)=>move_ready_l1 n items (i:Int) s 1 ss_36.1 ss_36.2) (0,acc)) =
          iter (fun ss:Int × (List Move)=>move_ready_l1 n items (i:Int) s (lanesN (nodeN n i):Int) ss.1 ss.2) (0,acc):=by
        unfold lanesN
        by_cases h6:(nodeN n i).Kind=6
        · rw [if_pos (by simpa using h6),if_pos h6]
        · rw [if_neg (by simpa using h6),if_neg h6];rfl
      rw [hl]
      rw [Int.natCast_zero] at hin
      rw [hin,List.drop_zero]
      rfl
    rw [iter_eq]
    simp only [e]
    have h16:=readyI_len (items:=items) (s:=s) hS.toRightN hi
    rw [ready_out hS ok m (i+1) _ (by omega) (by rw [List.length_append];omega),hd,List.flatMap_cons,List.append_assoc]
theorem ready_eq (hS:RightS n items) (ok:OkS n items B s):move_ready n items s=some (readyM n items s):=by
  unfold move_ready
  have:=ready_out hS ok n.Nodes.length 0 [] (by omega) (by have:=hS.n2;simp;omega)
  rw [Int.natCast_zero,List.drop_zero,List.nil_append] at this
  exact this
theorem readyM_mem {m:Move} (h:m∈readyM n items s):∃ i k:Nat,m=⟨i,k⟩∧i<n.Nodes.length∧k<lanesN (nodeN n i)∧canM n items s i k=true:=by
  unfold readyM at h
  obtain ⟨i,hi,hm⟩:=List.mem_flatMap.1 h
  unfold readyI at hm
  obtain ⟨k,hk,rfl⟩:=List.mem_map.1 hm
  obtain ⟨h1,h2⟩:=List.mem_filter.1 hk
  exact ⟨i,k,rfl,by simpa using hi,by simpa using h1,h2⟩
theorem readyM_len (hR:RightN n):(readyM n items s).length≤192:=by
  have h:∀ (l:List Nat),(∀ i,i∈l→i<n.Nodes.length)→(l.flatMap fun i=>readyI n items s i).length≤16*l.length:=by
    intro l
    induction l with
    | nil=>intro _;simp
    | cons a l ih =>
      intro h
      have h1:=readyI_len (items:=items) (s:=s) hR (h a List.mem_cons_self)
      have h2:=ih fun i hi=>h i (List.mem_cons_of_mem _ hi)
      rw [List.flatMap_cons,List.length_append,List.length_cons];omega
  have:=h (List.range n.Nodes.length) (fun i hi=>by simpa using hi)
  have h2:=hR.n2
  rw [List.length_range] at this
  unfold readyM;omega
def doMv (n:Net) (items:List (List Item)) (s:State) (m:Move):State:=doM n items s m.Node.toNat m.Lane.toNat
def wsum (w:Nat→Nat):Nat→List (List Item)→Nat
  | _,[]=>0
  | k,l::R=>l.length*w k+wsum w (k+1) R
def restN:List (List Item)→List Int→Nat
  | l::ls,p::ps=>(l.length - p.toNat)+restN ls ps
  | _,_=>0
theorem wsum_set (w:Nat→Nat) (x:List Item):∀ (R:List (List Item)) (k j:Nat),j<R.length→wsum w k (R.set j x)+(R.getD j []).length*w (k+j)=wsum w k R+x.length*w (k+j)
  | [],k,j,h=>by simp at h
  | l::R,k,0,h=>by simp [wsum];omega
  | l::R,k,j+1,h=>by
    have:=wsum_set w x R (k+1) j (by simpa using h)
    have e:k+1+j=k+(j+1):=by omega
    rw [e] at this
    simp only [List.set_cons_succ,wsum,List.getD_cons_succ]
    omega
theorem restN_set:∀ (ls:List (List Item)) (ps:List Int) (a:Nat),a<ps.length→0≤ps.getD a 0→(ps.getD a 0).toNat<(ls.getD a []).length→restN ls (ps.set a (ps.getD a 0+1))+1=restN ls ps
  | ls,[],a,h,_,_=>by simp at h
  | [],p::ps,a,h,_,h2=>by simp at h2
  | l::ls,p::ps,0,h,h0,h2=>by
    simp only [List.getD_cons_zero] at h0 h2 ⊢
    simp only [List.set_cons_zero,restN]
    omega
  | l::ls,p::ps,a+1,h,h0,h2=>by
    simp only [List.getD_cons_succ] at h0 h2 ⊢
    have:=restN_set ls ps a (by simpa using h) h0 h2
    simp only [List.set_cons_succ,restN]
    omega
theorem wsum_put (w:Nat→Nat) (y:Item):∀ (l:List Int) (R:List (List Item)),(∀ r,r∈l→0≤r∧r<R.length)→wsum w 0 (putR y l R)=wsum w 0 R+(l.map fun r=>w r.toNat).sum
  | [],R,_=>by simp [putR]
  | r::l,R,h=>by
    have hr:=h r List.mem_cons_self
    show wsum w 0 (putR y l (R.set r.toNat (R.getD r.toNat []++[y])))=_
    rw [wsum_put w y l _ (fun q hq=>by have:=h q (List.mem_cons_of_mem _ hq);simpa using this)]
    have:=wsum_set w (R.getD r.toNat []++[y]) R 0 r.toNat (by omega)
    rw [List.length_append,Nat.add_mul,List.length_singleton,Nat.one_mul,Nat.zero_add] at this
    rw [List.map_cons,List.sum_cons]
    omega
def takerN (n:Net) (r:Nat):Nat:=((List.range n.Nodes.length).find? fun i=>decide ((r:Int)∈(nodeN n i).In)).getD 0
theorem takerN_is (hR:RightN n) {i:Nat} (hi:i<n.Nodes.length) {r:Int} (hr:r∈(nodeN n i).In):takerN n r.toNat=i:=by
  have h0:=hR.inR i hi r hr
  unfold takerN
  cases h:(List.range n.Nodes.length).find? fun i=>decide ((r.toNat:Int)∈(nodeN n i).In) with
  | none =>
    rw [List.find?_eq_none] at h
    have:=h i (by simpa using hi)
    rw [Int.toNat_of_nonneg h0.1] at this
    simp [hr] at this
  | some j =>
    have h1:=List.find?_some h
    have h2:=List.mem_of_find?_eq_some h
    rw [Int.toNat_of_nonneg h0.1] at h1
    exact hR.oneI j i r (by simpa using h2) hi (by simpa using h1) hr
open Classical in
noncomputable def posN (n:Net):Nat→Nat:=if h:RightN n then Classical.choose h.ord else fun _=>0
theorem posN_spec (hR:RightN n):(∀ i,i<n.Nodes.length→posN n i<n.Nodes.length)∧(∀ i j,i<n.Nodes.length→j<n.Nodes.length→posN n i=posN n j→i=j)∧∀ i j r,i<n.Nodes.length→j<n.Nodes.length→r∈(nodeN n i).Out→r∈(nodeN n j).In→posN n i<posN n j:=by
  have:posN n=Classical.choose hR.ord:=by unfold posN;rw [dif_pos hR]
  rw [this]
  exact Classical.choose_spec hR.ord
noncomputable def wN (n:Net) (r:Nat):Nat:=17 ^ (12 - posN n (takerN n r))
noncomputable def muN (n:Net) (items:List (List Item)) (s:State):Nat:=wsum (wN n) 0 s.Rings+restN items s.At*17 ^ 12
theorem outs_w (hR:RightN n) {i:Nat} (hi:i<n.Nodes.length) (key:Int):((outsI (nodeN n i) key).map fun r=>wN n r.toNat).sum<17 ^ (12 - posN n i):=by
  obtain ⟨p1,_,p2⟩:=posN_spec hR
  have hpi:=p1 i hi
  have hn:=hR.n2
  have hb:∀ r,r∈outsI (nodeN n i) key→wN n r.toNat≤17 ^ (11 - posN n i):=fun r hr=>by
    have hro:=outs_ok hR hi key r hr
    have h0:=hR.outR i hi r hro
    obtain ⟨j,hj,hrj⟩:=hR.toI r.toNat (by omega)
    rw [Int.toNat_of_nonneg h0.1] at hrj
    have h1:=p2 i j r hi hj hro hrj
    have h2:=p1 j hj
    unfold wN
    rw [takerN_is hR hj hrj]
    exact Nat.pow_le_pow_right (by omega) (by omega)
  have hsum:∀ (l:List Int),(∀ r,r∈l→wN n r.toNat≤17 ^ (11 - posN n i))→(l.map fun r=>wN n r.toNat).sum≤l.length*17 ^ (11 - posN n i):=by
    intro l
    induction l with
    | nil=>intro _;simp
    | cons a l ih =>
      intro h
      have h1:=h a List.mem_cons_self
      have h2:=ih fun r hr=>h r (List.mem_cons_of_mem _ hr)
      rw [List.map_cons,List.sum_cons,List.length_cons,Nat.add_mul,Nat.one_mul];omega
  have h1:=hsum _ hb
  have h2:(outsI (nodeN n i) key).length≤16:=by
    unfold outsI;split
    · simp
    · exact out_len hR hi
  have h3:(outsI (nodeN n i) key).length*17 ^ (11 - posN n i)≤16*17 ^ (11 - posN n i):=Nat.mul_le_mul_right _ h2
  have e:12 - posN n i=(11 - posN n i)+1:=by omega
  have h4:17 ^ (12 - posN n i)=17 ^ (11 - posN n i)*17:=by rw [e,Nat.pow_succ]
  have h5:0<17 ^ (11 - posN n i):=Nat.pow_pos (by omega)
  omega
theorem mu_do (hS:RightS n items) (ok:OkS n items B s) {i k:Nat} (hi:i<n.Nodes.length) (hk:k<lanesN (nodeN n i)) (hc:canM n items s i k=true):muN n items (doM n items s i k)+1≤muN n items s:=by
  obtain ⟨it,hh,hroom,h500,h2000⟩:=can_head hc
  have hR:=hS.toRightN
  have hrg:=ok.rg
  have hw:=outs_w hR hi it.Key
  have hrl:∀ r,r∈outsI (nodeN n i) it.Key→0≤r∧r<(takenR n s i k).length:=fun r hr=>by
    have:=hR.outR i hi r (outs_ok hR hi _ r hr)
    rw [takenR_len];omega
  have hput:=wsum_put (wN n) (stepM n s i it).2 _ _ hrl
  have hrings:(doM n items s i k).Rings=putR (stepM n s i it).2 (outsI (nodeN n i) it.Key) (takenR n s i k):=by unfold doM;simp only [hh];rfl
  unfold muN
  rw [hrings,hput,do_at hh]
  by_cases h1:(nodeN n i).Kind=1
  · obtain ⟨a0,a1,a2,a3,a4,a5⟩:=at_ok hS ok hi h1
    unfold headI at hh
    rw [if_pos h1] at hh
    have h2:=(List.getElem?_eq_some_iff.1 hh).1
    have h3:=restN_set items s.At (nodeN n i).A.toNat (by omega) a3 h2
    rw [if_pos h1]
    unfold takenR
    rw [if_pos h1]
    have h4:17 ^ (12 - posN n i)≤17 ^ 12:=Nat.pow_le_pow_right (by omega) (by omega)
    rw [← h3,Nat.add_mul,Nat.one_mul]
    omega
  · have hkl:=lane_lt hR hi hk h1
    obtain ⟨hm,b0,b1⟩:=ring_in hR hi hkl
    rw [if_neg h1]
    unfold takenR
    rw [if_neg h1]
    unfold headI at hh
    rw [if_neg h1] at hh
    have h2:=wsum_set (wN n) (s.Rings.getD (ringN (nodeN n i) k) []).tail s.Rings 0 (ringN (nodeN n i) k) (by unfold ringN;omega)
    have h3:wN n (ringN (nodeN n i) k)=17 ^ (12 - posN n i):=by
      unfold wN ringN
      rw [takerN_is hR hi hm]
    cases hq:s.Rings.getD (ringN (nodeN n i) k) [] with
    | nil=>rw [hq] at hh;cases hh
    | cons y ys =>
      rw [hq] at h2
      rw [Nat.zero_add,h3,List.tail_cons,List.length_cons,Nat.add_mul,Nat.one_mul] at h2
      rw [List.tail_cons]
      omega
def Inv (n:Net) (items:List (List Item)) (s:State):Prop:=∃ B:Nat,OkS n items B s∧B+muN n items s≤1000000000000000000
theorem Inv.doM (hS:RightS n items) (h:Inv n items s) {i k:Nat} (hi:i<n.Nodes.length) (hk:k<lanesN (nodeN n i)) (hc:canM n items s i k=true):Inv n items (doM n items s i k)∧muN n items (Go.Proofs.Ytfbmoockopakjaa.doM n items s i k)+1≤muN n items s:=by
  obtain ⟨B,ok,hB⟩:=h
  have:=mu_do hS ok hi hk hc
  refine ⟨⟨B+1,do_ok hS ok hi hk hc (by omega) (by omega),by omega⟩,this⟩
theorem Inv.doMv (hS:RightS n items) (h:Inv n items s) {m:Move} (hm:m∈readyM n items s):Inv n items (doMv n items s m)∧muN n items (Go.Proofs.Ytfbmoockopakjaa.doMv n items s m)+1≤muN n items s:=by
  obtain ⟨i,k,rfl,hi,hk,hc⟩:=readyM_mem hm
  exact Inv.doM hS h hi hk hc
def startM (n:Net) (items:List (List Item)):State:=⟨List.replicate items.length 0,List.replicate n.Rings.toNat [],List.replicate n.Nodes.length ⟨0,[],0⟩,[],[]⟩
theorem wsum_0 (w:Nat→Nat):∀ (m k:Nat),wsum w k (List.replicate m [])=0
  | 0,k=>rfl
  | m+1,k=>by rw [List.replicate_succ];simp [wsum,wsum_0 w m (k+1)]
theorem restN_le (L:Nat):∀ (ls:List (List Item)) (ps:List Int),(∀ l,l∈ls→l.length≤L)→restN ls ps≤L*ls.length
  | [],ps,_=>by simp [restN]
  | l::ls,[],_=>by simp [restN]
  | l::ls,p::ps,h=>by
    have h1:=h l List.mem_cons_self
    have h2:=restN_le L ls ps fun x hx=>h x (List.mem_cons_of_mem _ hx)
    simp only [restN,List.length_cons,Nat.mul_add];omega
theorem start_inv (hS:RightS n items):Inv n items (startM n items):=by
  have hr:∀ (r:Nat) (l:List Item),(startM n items).Rings[r]?=some l→l=[]:=fun r l h=>by
    have:=List.mem_of_getElem? h
    exact (List.mem_replicate.1 this).2
  refine ⟨0,⟨by simp [startM],by have:=hS.r1;simp [startM];omega,by simp [startM],by simp [startM],by simp [startM],fun a p hp=>?_,fun r l hl=>?_,fun r l x hl hx=>?_,fun i m hm=>?_,fun c hc=>by simp [startM] at hc,fun x hx=>by simp [startM] at hx⟩,?_⟩
  · have:=(List.mem_replicate.1 (List.mem_of_getElem? hp)).2
    subst this
    exact ⟨Int.le_refl _,by omega⟩
  · rw [hr r l hl];have:=hS.m1;simp;omega
  · rw [hr r l hl] at hx;cases hx
  · have:=(List.mem_replicate.1 (List.mem_of_getElem? hm)).2
    subst this
    refine ⟨⟨by simp,fun x hx=>(by cases hx),fun i j x y _ h=>(by simp at h),by simp⟩,by simp [startM],fun y hy=>(by cases hy)⟩
  · have h1:=restN_le 20 items (startM n items).At (fun l hl=>by
      obtain ⟨a,ha⟩:=List.getElem?_of_mem hl
      exact hS.l20 a l ha)
    have h2:=hS.l4
    unfold muN
    have:wsum (wN n) 0 (startM n items).Rings=0:=wsum_0 _ _ _
    rw [this]
    have h3:restN items (startM n items).At≤80:=by omega
    have h4:=Nat.mul_le_mul_right (17 ^ 12) h3
    omega
theorem start_eq (hS:RightS n items) (hio:∀ x∈n.Nodes,x.In.length≤1099511627776∧x.Out.length≤1099511627776):move_start n items=some (startM n items):=by
  unfold move_start
  have h1:=hS.r1
  have h2:=hS.r2
  have h3:=hS.n2
  have h4:=hS.l4
  have e1:mk ((items.length:Nat):Int) (0:Int)=some (List.replicate items.length 0):=by unfold mk;rw [if_pos (by omega)];simp
  have e2:mk n.Rings ([]:List Item)=some (List.replicate n.Rings.toNat []):=by unfold mk;rw [if_pos (by omega)]
  have e3:mk ((n.Nodes.length:Nat):Int) (⟨0,[],0⟩:Memory)=some (List.replicate n.Nodes.length ⟨0,[],0⟩):=by unfold mk;rw [if_pos (by omega)];simp
  simp only [e1,e2,e3,Option.bind_some]
  rfl
def pickM (l:List Move) (c:Int):Move:=l.getD (c % l.length).toNat ⟨0,0⟩
theorem pick_mem {l:List Move} (h:l≠[]) (c:Int):pickM l c∈l∧(c % l.length).toNat<l.length:=by
  have h1:0<l.length:=List.length_pos_iff.2 h
  have h2:=Int.emod_nonneg c (show (l.length:Int)≠0 by omega)
  have h3:=Int.emod_lt_of_pos c (show (0:Int)<l.length by omega)
  have h4:(c % l.length).toNat<l.length:=by omega
  exact ⟨List.mem_of_getElem? (getD_get _ h4),h4⟩
theorem rem_at (c:Int) (m:Nat) (h0:0<m) (h:m≤1000):(rem c m).bind (fun x=>(rem (IntKind.i64.wrap (x+m)) m))=some (c % m):=by
  have h1:=Int.tmod_lt_of_pos c (show (0:Int)<m by omega)
  have h2:=Int.lt_tmod_of_pos c (show (0:Int)<m by omega)
  unfold rem
  rw [if_neg (by omega),Option.bind_some,if_neg (by omega),wrap_ok (by omega) (by omega)]
  congr 1
  rw [Int.tmod_eq_emod_of_nonneg (by omega),Int.add_emod_right,Int.tmod_eq_emod]
  split<;>simp [Int.sub_emod_right]
def noS:State:=⟨[],[],[],[],[]⟩
end
end Go.Proofs.Ytfbmoockopakjaa
namespace Go.Proofs.Ytfbmoockopakjaa
set_option linter.unusedVariables false
set_option linter.unusedSimpArgs false
def firstE {α ρ:Type} (f:Nat→α→Option ρ):Nat→List α→Option ρ
  | _,[]=>none
  | k,x::xs=>match f k x with
    | some r=>some r
    | none=>firstE f (k+1) xs
theorem err_loop {α ρ:Type} (xs:List α) (hx:xs.length≤1099511627776) (f:Nat→α→Option ρ) (fin:Option ρ) {body:Int→Option (Int ⊕ ρ)}
    (h1:∀ (k:Nat) (x:α),xs[k]?=some x→k<xs.length→idx xs (k:Int)=some x→decide ((k:Int)<(xs.length:Int))=true→IntKind.i64.wrap ((k:Int)+1)=((k+1:Nat):Int)→body k=match f k x with | some r=>some (.inr r) | none=>some (.inl ((k+1:Nat):Int)))
    (h2:decide ((xs.length:Int)<(xs.length:Int))=false→body xs.length=fin.map .inr):iter body 0=match firstE f 0 xs with | some r=>some r | none=>fin:=by
  have key:∀ (m k:Nat),k+m=xs.length→iter body k=match firstE f k (xs.drop k) with | some r=>some r | none=>fin:=by
    intro m
    induction m with
    | zero =>
      intro k hk
      have hk:k=xs.length:=by omega
      subst hk
      rw [iter_eq,h2 (by simp),List.drop_length]
      unfold firstE
      cases fin<;>rfl
    | succ m ih =>
      intro k hk
      have hlt:k<xs.length:=by omega
      have hg:xs[k]?=some xs[k]:=List.getElem?_eq_getElem hlt
      rw [iter_eq,h1 k _ hg hlt (idx_at hg) (by simp;omega) (wrap_1 (by omega)),List.drop_eq_getElem_cons hlt]
      unfold firstE
      cases f k xs[k] with
      | some r=>rfl
      | none=>exact ih (k+1) (by omega)
  have:=key xs.length 0 (by omega)
  rw [Int.natCast_zero,List.drop_zero] at this
  exact this
theorem firstE_none {α ρ:Type} {f:Nat→α→Option ρ}:∀ {xs:List α} {k:Nat},firstE f k xs=none ↔ ∀ (j:Nat) (x:α),xs[j]?=some x→f (k+j) x=none
  | [],k=>⟨fun _ j x h=>by simp at h,fun _=>rfl⟩
  | y :: xs,k=>by
    unfold firstE
    cases hf:f k y with
    | some r =>
      refine ⟨fun h=>(by cases h),fun h=>?_⟩
      have:=h 0 y rfl
      rw [Nat.add_zero,hf] at this;cases this
    | none =>
      simp only
      rw [firstE_none]
      constructor
      · intro h j x hj
        cases j with
        | zero=>simp at hj;subst hj;exact hf
        | succ j=>have:=h j x (by simpa using hj);rwa [show k+1+j=k+(j+1) by omega] at this
      · intro h j x hj
        have:=h (j+1) x (by simpa using hj)
        rwa [show k+(j+1)=k+1+j by omega] at this
def badDeps (s:State) (l:List Item):Bool:=l.any fun x=>decide (x.Dep<0) || decide (x.Dep > (s.Choices.length:Int))
noncomputable def chkM (m:Memory):Int:=(stage_Check m).getD 0
theorem chkM_eq (m:Memory):stage_Check m=some (chkM m)∧(chkM m=0 ↔ okM m):=by
  obtain ⟨c,h1,h2⟩:=Check_iff m
  have:chkM m=c:=by unfold chkM;rw [h1];rfl
  rw [this];exact ⟨h1,h2⟩
def choiceB (n:Net) (c:Choice):Bool:=decide (0≤c.Node∧c.Node<n.Nodes.length∧(nodeN n c.Node.toNat).Kind=6∧0≤c.Lane∧c.Lane<(nodeN n c.Node.toNat).In.length)
noncomputable def chkS (n:Net) (items:List (List Item)) (s:State):Int :=
  if srcR n items≠0 then srcR n items
  else if s.At.length≠items.length∨(s.Rings.length:Int)≠n.Rings∨s.Memory.length≠n.Nodes.length then 4
  else if 500<s.Choices.length∨2000<s.Out.length then 2
  else (firstE (fun k (p:Int)=>if p<0∨p > ((items.getD k []).length:Int) then some (3:Int) else none) 0 s.At).getD
    ((firstE (fun _ (l:List Item)=>if n.Room<(l.length:Int) then some (2:Int) else if badDeps s l=true then some 3 else none) 0 s.Rings).getD
    ((firstE (fun _ (m:Memory)=>if chkM m≠0 then some (chkM m) else if m.Dep > (s.Choices.length:Int) then some 3 else none) 0 s.Memory).getD
    ((firstE (fun _ (c:Choice)=>if choiceB n c=true then none else some (5:Int)) 0 s.Choices).getD (if badDeps s s.Out=true then 3 else 0))))
theorem getD_match {α:Type} (o:Option α) (z:α):(match o with | some r=>some r | none=>some z)=some (o.getD z):=by cases o<;>rfl
section
variable {n:Net} {items:List (List Item)} {B:Int} {s:State}
theorem right_eq (s:State) (l:List Item) (hl:l.length≤1099511627776):move_Check_1_xa01a l s.At s.Rings s.Memory s.Choices s.Out=some (!badDeps s l):=by
  unfold move_Check_1_xa01a slices_ContainsFunc_Item_xd8db slices_IndexFunc_Item_xd8db
  rw [index_loop l hl (fun x=>decide (x.Dep<0) || decide (x.Dep > (s.Choices.length:Int))) (fun k x hx hk h1 h2 h3=>by
    unfold slices_IndexFunc_Item_xd8db_l1 move_Check_1_1_xa01a
    rw [h2,h1,h3]
    simp only [if_true,Option.bind_some]
    rfl) (fun h=>by
    unfold slices_IndexFunc_Item_xd8db_l1
    rw [h];rfl)]
  rw [Option.bind_some,idxI_any];rfl
theorem choice_eq (n:Net) (c:Choice):move_choice n c=some (choiceB n c):=by
  unfold move_choice choiceB
  by_cases h0:0≤c.Node
  · rw [if_pos (by simpa using h0)]
    by_cases h1:c.Node<n.Nodes.length
    · have hi:idx n.Nodes c.Node=some (nodeN n c.Node.toNat):=idx_D _ h0 h1
      rw [if_pos (by simpa using h1),hi,Option.bind_some]
      by_cases h6:(nodeN n c.Node.toNat).Kind=6
      · rw [if_pos (by simpa using h6)]
        by_cases h2:0≤c.Lane
        · rw [if_pos (by simpa using h2),Option.bind_some,Option.bind_some]
          simp [h0,h1,h6,h2]
        · rw [if_neg (by simpa using h2)];simp [h2]
      · rw [if_neg (by simpa using h6)];simp [h6]
    · rw [if_neg (by simpa using h1)];simp [h1]
  · rw [if_neg (by simpa using h0)];simp [h0]
theorem Check_eq (n:Net) (items:List (List Item)) (s:State) (hio:∀ x∈n.Nodes,x.In.length≤1099511627776∧x.Out.length≤1099511627776) (hr:∀ l,l∈s.Rings→l.length≤1099511627776):move_Check n items s=some (chkS n items s):=by
  unfold move_Check chkS
  rw [net_Sources_eq n items hio,Option.bind_some]
  by_cases h:srcR n items=0
  · have hS := rightS_of h
    rw [if_neg (show ¬ (srcR n items != 0)=true by simp [h]),if_neg (show ¬ srcR n items≠0 by simp [h])]
    by_cases hl:s.At.length≠items.length∨(s.Rings.length:Int)≠n.Rings∨s.Memory.length≠n.Nodes.length
    · rw [if_pos hl,if_pos (by simp;omega)]
    · have h1:s.At.length=items.length:=by omega
      have h2:(s.Rings.length:Int)=n.Rings:=by omega
      have h3:s.Memory.length=n.Nodes.length:=by omega
      rw [if_neg hl,if_neg (by simp;omega)]
      by_cases hm:500<s.Choices.length∨2000<s.Out.length
      · rw [if_pos hm,if_pos (by simp;omega)]
      · rw [if_neg hm,if_neg (by simp;omega)]
        have h4:=hS.l4
        have h5:=hS.r2
        have h6:=hS.n2
        rw [err_loop s.At (by omega) (fun k (p:Int)=>if p<0∨p > ((items.getD k []).length:Int) then some (3:Int) else none) (iter (fun ss_43:Int=>move_Check_l3 n s ss_43) 0) (fun k x hx hk e1 e2 e3=>by
          unfold move_Check_l4
          rw [e2,e1,e3]
          simp only [if_true,Option.bind_some]
          have hi:=idx_at (getD_get ([]:List Item) (show k<items.length by omega))
          by_cases hx0:x<0
          · rw [if_pos (by simpa using hx0),Option.bind_some,if_pos rfl,if_pos (show x<0∨_ from .inl hx0)];rfl
          · rw [if_neg (by simpa using hx0),hi,Option.bind_some,Option.bind_some]
            by_cases hx1:x > ((items.getD k []).length:Int)
            · rw [if_pos (by simpa using hx1),if_pos (show x<0∨x > ((items.getD k []).length:Int) from .inr hx1)];rfl
            · rw [if_neg (by simpa using hx1),if_neg (show ¬ (x<0∨x > ((items.getD k []).length:Int)) by omega)]) (fun e=>by
          unfold move_Check_l4
          rw [e];rfl)]
        rw [err_loop s.Rings (by omega) (fun _ (l:List Item)=>if n.Room<(l.length:Int) then some (2:Int) else if badDeps s l=true then some 3 else none) (iter (fun ss_55:Int=>move_Check_l2 n s ss_55) 0) (fun k x hx hk e1 e2 e3=>by
          unfold move_Check_l3
          rw [e2,e1,e3]
          simp only [if_true,Option.bind_some]
          rw [right_eq s x (hr x (List.mem_of_getElem? hx)),Option.bind_some]
          by_cases hx1:n.Room<(x.length:Int)
          · rw [if_pos (by simpa using hx1),if_pos hx1];rfl
          · rw [if_neg (by simpa using hx1),if_neg hx1]
            cases badDeps s x<;>rfl) (fun e=>by
          unfold move_Check_l3
          rw [e];rfl)]
        rw [err_loop s.Memory (by omega) (fun _ (m:Memory)=>if chkM m≠0 then some (chkM m) else if m.Dep > (s.Choices.length:Int) then some 3 else none) (iter (fun ss_55:Int=>move_Check_l1 n s ss_55) 0) (fun k x hx hk e1 e2 e3=>by
          unfold move_Check_l2
          rw [e2,e1,e3]
          simp only [if_true,Option.bind_some]
          rw [(chkM_eq x).1,Option.bind_some]
          by_cases hx1:chkM x=0
          · rw [if_neg (show ¬ (chkM x != 0)=true by simp [hx1]),if_neg (show ¬ chkM x≠0 by simp [hx1])]
            by_cases hx2:x.Dep > (s.Choices.length:Int)
            · rw [if_pos (by simpa using hx2),if_pos hx2];rfl
            · rw [if_neg (by simpa using hx2),if_neg hx2]
          · rw [if_pos (show (chkM x != 0)=true by simpa using hx1),if_pos hx1];rfl) (fun e=>by
          unfold move_Check_l2
          rw [e];rfl)]
        rw [err_loop s.Choices (by omega) (fun _ (c:Choice)=>if choiceB n c=true then none else some (5:Int)) (some (if badDeps s s.Out=true then 3 else 0)) (fun k x hx hk e1 e2 e3=>by
          unfold move_Check_l1
          rw [e2,e1,e3]
          simp only [if_true,Option.bind_some]
          rw [choice_eq,Option.bind_some]
          cases choiceB n x<;>rfl) (fun e=>by
          unfold move_Check_l1
          rw [e,right_eq s s.Out (by omega)]
          simp only [Bool.false_eq_true,if_false,Option.bind_some]
          cases badDeps s s.Out<;>rfl)]
        simp only [getD_match]
  · rw [if_pos (show (srcR n items != 0)=true by simpa using h),if_pos h]
theorem badDeps_false {l:List Item}:badDeps s l=false ↔ ∀ x,x∈l→0≤x.Dep∧x.Dep≤s.Choices.length:=by
  unfold badDeps
  rw [List.any_eq_false]
  simp only [Bool.or_eq_true,decide_eq_true_eq]
  exact ⟨fun h x hx=>by have:=h x hx;omega,fun h x hx=>by have:=h x hx;omega⟩
theorem getD_0 {o:Option Int} {z:Int} (h:o.getD z=0) (ho:∀ r,o=some r→r≠0):o=none∧z=0:=by
  cases o with
  | none=>exact ⟨rfl,h⟩
  | some r=>exact absurd h (ho r rfl)
theorem firstE_some {α ρ:Type} {f:Nat→α→Option ρ}:∀ {xs:List α} {k:Nat} {r:ρ},firstE f k xs=some r→∃ (j:Nat) (x:α),xs[j]?=some x∧f (k+j) x=some r
  | [],k,r,h=>by cases h
  | y :: xs,k,r,h=>by
    unfold firstE at h
    split at h
    · rename_i r' hf;cases h;exact ⟨0,y,rfl,hf⟩
    · obtain ⟨j,x,h1,h2⟩:=firstE_some h
      exact ⟨j+1,x,by simpa using h1,by rw [← h2];congr 1;omega⟩
theorem okS_of (h:chkS n items s=0) (hB:∀ m,m∈s.Memory→∀ y,y∈m.Keys→y.N≤B):OkS n items B s:=by
  unfold chkS at h
  split at h
  · rename_i h1;exact absurd h h1
  · split at h
    · exact absurd h (by decide)
    · split at h
      · exact absurd h (by decide)
      · rename_i h1 h2 h3
        obtain ⟨e1,h⟩:=getD_0 h (fun r hr=>by obtain ⟨j,x,_,h5⟩:=firstE_some hr;split at h5<;>cases h5;decide)
        obtain ⟨e2,h⟩:=getD_0 h (fun r hr=>by
          obtain ⟨j,x,_,h5⟩:=firstE_some hr
          split at h5
          · cases h5;decide
          · split at h5<;>cases h5;decide)
        obtain ⟨e3,h⟩:=getD_0 h (fun r hr=>by
          obtain ⟨j,x,_,h5⟩:=firstE_some hr
          split at h5
          · rename_i h6;cases h5;exact h6
          · split at h5<;>cases h5;decide)
        obtain ⟨e4,h⟩:=getD_0 h (fun r hr=>by obtain ⟨j,x,_,h5⟩:=firstE_some hr;split at h5<;>cases h5;decide)
        rw [firstE_none] at e1 e2 e3 e4
        refine ⟨by omega,by omega,by omega,by omega,by omega,fun a p hp=>?_,fun r l hl=>?_,fun r l x hl hx=>?_,fun i m hm=>?_,fun c hc=>?_,?_⟩
        · have:=e1 a p hp
          rw [Nat.zero_add] at this
          split at this
          · cases this
          · omega
        · have:=e2 r l hl
          split at this
          · cases this
          · omega
        · have:=e2 r l hl
          split at this
          · cases this
          · split at this
            · cases this
            · rename_i hb;exact badDeps_false.1 (Bool.eq_false_iff.2 hb) x hx
        · have:=e3 i m hm
          split at this
          · cases this
          · rename_i hb
            split at this
            · cases this
            · exact ⟨(chkM_eq m).2.1 (Decidable.not_not.1 hb),by omega,hB m (List.mem_of_getElem? hm)⟩
        · obtain ⟨j,hj⟩:=List.getElem?_of_mem hc
          have:=e4 j c hj
          split at this
          · rename_i hb;unfold choiceB at hb;unfold choiceOk;exact of_decide_eq_true hb
          · cases this
        · split at h
          · exact absurd h (by decide)
          · rename_i hb;exact badDeps_false.1 (Bool.eq_false_iff.2 hb)
theorem chkS_0 (hsrc:srcR n items=0) (ok:OkS n items B s):chkS n items s=0:=by
  unfold chkS
  have h1:=ok.at_
  have h2:=ok.rg
  have h3:=ok.mm
  have h4:=ok.ch
  have h5:=ok.out
  rw [if_neg (by omega),if_neg (by omega),if_neg (by omega)]
  rw [firstE_none.2 (fun j p hp=>by have:=ok.atP j p hp;rw [Nat.zero_add];rw [if_neg (by omega)]),firstE_none.2 (fun r l hl=>by
    have:=ok.room r l hl
    rw [if_neg (by omega),if_neg (by rw [badDeps_false.2 (fun x hx=>ok.depR r l x hl hx)];decide)]),firstE_none.2 (fun i m hm=>by
    have:=ok.mem i m hm
    rw [if_neg (by have:=(chkM_eq m).2.2 this.1;omega),if_neg (by omega)]),firstE_none.2 (fun j c hc=>by
    have:=ok.cho c (List.mem_of_getElem? hc)
    rw [if_pos (show choiceB n c=true by unfold choiceB;unfold choiceOk at this;exact decide_eq_true this)])]
  show (if badDeps s s.Out=true then 3 else 0)=(0:Int)
  rw [if_neg (by rw [badDeps_false.2 ok.depO];decide)]
theorem set_self {α:Type} {l:List α} {k:Nat} {a:α} (h:l[k]?=some a):l.set k a=l:=by
  obtain ⟨hlt,rfl⟩:=List.getElem?_eq_some_iff.1 h
  exact List.set_getElem_self hlt
theorem Copy_eq (s:State) (h1:s.At.length≤1099511627776) (h2:s.Rings.length≤1099511627776) (h3:s.Memory.length≤1099511627776) (h4:s.Choices.length≤1099511627776) (h5:s.Out.length≤1099511627776)
    (h6:∀ l,l∈s.Rings→l.length≤1099511627776) (h7:∀ m,m∈s.Memory→m.Keys.length≤1099511627776):move_Copy s=some s:=by
  have cl:∀ {α:Type} (l:List α),l.length≤1099511627776→app [] l=some l:=fun l hl=>by rw [app_ok (by simpa using hl)];rfl
  have l1:∀ (m k:Nat),k+m=s.Memory.length→iter (fun ss_24:Int × (List Memory)=>move_Copy_l1 s s.At s.Rings s.Memory ss_24.1 ss_24.2) ((k:Int),s.Memory)=some s:=by
    intro m
    induction m with
    | zero =>
      intro k hk
      have hk:k=s.Memory.length:=by omega
      subst hk
      have e:move_Copy_l1 s s.At s.Rings s.Memory (s.Memory.length:Int) s.Memory=some (.inr s):=by
        unfold move_Copy_l1 slices_Clone_Choice slices_Clone_Item
        rw [if_neg (by simp),cl _ h4,Option.bind_some,cl _ h5];rfl
      rw [iter_eq];simp only [e]
    | succ m ih =>
      intro k hk
      have hlt:k<s.Memory.length:=by omega
      have hg:s.Memory[k]?=some s.Memory[k]:=List.getElem?_eq_getElem hlt
      have e:move_Copy_l1 s s.At s.Rings s.Memory (k:Int) s.Memory=some (.inl (((k+1:Nat):Int),s.Memory)):=by
        unfold move_Copy_l1 stage_Copy slices_Clone_Keyed
        rw [if_pos (by simp;omega),ixN_at hlt,Option.bind_some,hg,Option.bind_some,cl _ (h7 _ (List.getElem_mem hlt)),Option.bind_some,Option.bind_some,Option.bind_some,hg,Option.bind_some,wrap_1 (by omega),set_self hg]
      rw [iter_eq];simp only [e]
      exact ih (k+1) (by omega)
  have l2:∀ (m k:Nat),k+m=s.Rings.length→iter (fun ss_9:Int × (List (List Item))=>move_Copy_l2 s s.At s.Rings ss_9.1 ss_9.2) ((k:Int),s.Rings)=some s:=by
    intro m
    induction m with
    | zero =>
      intro k hk
      have hk:k=s.Rings.length:=by omega
      subst hk
      have e:move_Copy_l2 s s.At s.Rings (s.Rings.length:Int) s.Rings=some (.inr s):=by
        unfold move_Copy_l2 slices_Clone_Memory
        have:=l1 s.Memory.length 0 (by omega)
        rw [Int.natCast_zero] at this
        rw [if_neg (by simp),cl _ h3,Option.bind_some,this];rfl
      rw [iter_eq];simp only [e]
    | succ m ih =>
      intro k hk
      have hlt:k<s.Rings.length:=by omega
      have hg:s.Rings[k]?=some s.Rings[k]:=List.getElem?_eq_getElem hlt
      have e:move_Copy_l2 s s.At s.Rings (k:Int) s.Rings=some (.inl (((k+1:Nat):Int),s.Rings)):=by
        unfold move_Copy_l2 slices_Clone_Item
        rw [if_pos (by simp;omega),ixN_at hlt,Option.bind_some,hg,Option.bind_some,cl _ (h6 _ (List.getElem_mem hlt)),Option.bind_some,Option.bind_some,hg,Option.bind_some,wrap_1 (by omega),set_self hg]
      rw [iter_eq];simp only [e]
      exact ih (k+1) (by omega)
  unfold move_Copy slices_Clone_int slices_Clone_api_Item_api_Item
  rw [cl _ h1,Option.bind_some,cl _ h2,Option.bind_some]
  have:=l2 s.Rings.length 0 (by omega)
  rw [Int.natCast_zero] at this
  exact this
theorem Copy_ok (hS:RightS n items) (ok:OkS n items B s):move_Copy s=some s:=by
  have h1:=ok.at_
  have h2:=ok.rg
  have h3:=ok.mm
  have h4:=ok.ch
  have h5:=ok.out
  have h6:=hS.l4
  have h7:=hS.r2
  have h8:=hS.n2
  have h9:=hS.m2
  refine Copy_eq s (by omega) (by omega) (by omega) (by omega) (by omega) (fun l hl=>?_) (fun m hm=>?_)
  · obtain ⟨r,hr⟩:=List.getElem?_of_mem hl
    have:=ok.room r l hr;omega
  · obtain ⟨i,hi⟩:=List.getElem?_of_mem hm
    have:=(ok.mem i m hi).1.len;omega
end
theorem meeting_eq:crosslaw_meeting=some meetN:=rfl
theorem two_eq:crosslaw_two=some twoN:=rfl
end Go.Proofs.Ytfbmoockopakjaa
namespace Go.Proofs.Ytfbmoockopakjaa
set_option linter.unusedVariables false
set_option linter.unusedSimpArgs false
section
variable {n:Net} {items:List (List Item)} {B:Int} {s:State}
def lanesOf (l:List Choice) (i:Nat):List Int:=(l.filter fun c=>decide (c.Node=(i:Int))).map Choice.Lane
end
end Go.Proofs.Ytfbmoockopakjaa
namespace Go.Proofs.Ytfbmoockopakjaa
set_option linter.unusedVariables false
set_option linter.unusedSimpArgs false
theorem eqf_loop {α β:Type} [DecidableEq β] (a b:List α) (ha:a.length≤1099511627776) (hl:a.length=b.length) (f:α→β) {body:Int→Option (Int ⊕ Bool)}
    (h1:∀ (k:Nat) (x y:α),a[k]?=some x→b[k]?=some y→decide ((k:Int)<(a.length:Int))=true→idx a (k:Int)=some x→idx b (k:Int)=some y→IntKind.i64.wrap ((k:Int)+1)=((k+1:Nat):Int)→body k=if f x=f y then some (.inl ((k+1:Nat):Int)) else some (.inr false))
    (h2:decide ((a.length:Int)<(a.length:Int))=false→body a.length=some (.inr true)):iter body 0=some (decide (a.map f=b.map f)):=by
  have key:∀ (m k:Nat),k+m=a.length→iter body k=some (decide ((a.drop k).map f=(b.drop k).map f)):=by
    intro m
    induction m with
    | zero =>
      intro k hk
      have hk:k=a.length:=by omega
      subst hk
      rw [iter_eq,h2 (by simp),List.drop_length,List.drop_of_length_le (by omega)]
      simp
    | succ m ih =>
      intro k hk
      have hlt:k<a.length:=by omega
      have hlt2:k<b.length:=by omega
      rw [iter_eq,h1 k a[k] b[k] (List.getElem?_eq_getElem hlt) (List.getElem?_eq_getElem hlt2) (by simp;omega) (idx_at (List.getElem?_eq_getElem hlt)) (idx_at (List.getElem?_eq_getElem hlt2)) (wrap_1 (by omega)),List.drop_eq_getElem_cons hlt,List.drop_eq_getElem_cons hlt2,List.map_cons,List.map_cons]
      by_cases hxy:f a[k]=f b[k]
      · rw [if_pos hxy]
        simp only
        rw [ih (k+1) (by omega)]
        simp [hxy]
      · rw [if_neg hxy]
        simp [hxy]
  have:=key a.length 0 (by omega)
  rw [Int.natCast_zero,List.drop_zero,List.drop_zero] at this
  exact this
structure SmallS (s:State):Prop where
  a1:s.At.length≤1099511627776
  a2:s.Rings.length≤1099511627776
  a3:s.Memory.length≤1099511627776
  a4:s.Choices.length≤1099511627776
  a5:s.Out.length≤1099511627776
  a6:∀ l,l∈s.Rings→l.length≤1099511627776
  a7:∀ m,m∈s.Memory→m.Keys.length≤1099511627776
theorem smallS_of {n:Net} {items:List (List Item)} {B:Int} {s:State} (hS:RightS n items) (ok:OkS n items B s):SmallS s:=by
  have h1:=ok.at_
  have h2:=ok.rg
  have h3:=ok.mm
  have h4:=ok.ch
  have h5:=ok.out
  have h6:=hS.l4
  have h7:=hS.r2
  have h8:=hS.n2
  have h9:=hS.m2
  refine ⟨by omega,by omega,by omega,by omega,by omega,fun l hl=>?_,fun m hm=>?_⟩
  · obtain ⟨r,hr⟩:=List.getElem?_of_mem hl
    have:=ok.room r l hr;omega
  · obtain ⟨i,hi⟩:=List.getElem?_of_mem hm
    have:=(ok.mem i m hi).1.len;omega
theorem slices_Equal_int_eq' (a b:List Int) (ha:a.length≤1099511627776):slices_Equal_int a b=some (decide (a=b)):=by
  unfold slices_Equal_int
  by_cases hl:a.length=b.length
  · rw [if_neg (by simp;omega)]
    exact equal_loop a b ha hl (fun k x y h1 h2 h3 h4=>by
      unfold slices_Equal_int_l1
      rw [h1,h2,h3,h4]
      by_cases h:x=y<;>simp [h]) (fun h=>by
      unfold slices_Equal_int_l1
      rw [h];simp)
  · rw [if_pos (by simp;omega)]
    have:a≠b:=fun e=>hl (by rw [e])
    simp [this]
theorem bound_ex (l:List Memory):∃ B:Int,0≤B∧∀ m,m∈l→∀ y,y∈m.Keys→y.N≤B:=by
  have h1:∀ ks:List Keyed,∃ B:Int,0≤B∧∀ y,y∈ks→y.N≤B:=by
    intro ks
    induction ks with
    | nil=>exact ⟨0,by omega,fun y hy=>by cases hy⟩
    | cons k ks ih =>
      obtain ⟨B,h0,hB⟩:=ih
      refine ⟨B+k.N.natAbs,by omega,fun y hy=>?_⟩
      rcases List.mem_cons.1 hy with rfl | hy
      · omega
      · have:=hB y hy;omega
  induction l with
  | nil=>exact ⟨0,by omega,fun m hm=>by cases hm⟩
  | cons m l ih =>
    obtain ⟨B,h0,hB⟩:=ih
    obtain ⟨B',h0',hB'⟩:=h1 m.Keys
    refine ⟨B+B',by omega,fun q hq y hy=>?_⟩
    rcases List.mem_cons.1 hq with rfl | hq
    · have:=hB' y hy;omega
    · have:=hB q hq y hy;omega
section
variable {n:Net} {items:List (List Item)} {B:Int} {s:State}
theorem chk_src (h:chkS n items s=0):srcR n items=0:=by
  unfold chkS at h
  split at h
  · exact h
  · rename_i h1;exact Decidable.not_not.1 h1
theorem okS_ex (h:chkS n items s=0):∃ B:Int,0≤B∧OkS n items B s:=by
  obtain ⟨B,h0,hB⟩:=bound_ex s.Memory
  exact ⟨B,h0,okS_of h hB⟩
theorem Ready_eq (n:Net) (items:List (List Item)) (s:State) (hio:∀ x∈n.Nodes,x.In.length≤1099511627776∧x.Out.length≤1099511627776) (hr:∀ l,l∈s.Rings→l.length≤1099511627776):move_Ready n items s=some (if chkS n items s≠0 then ([],chkS n items s) else (readyM n items s,0)):=by
  unfold move_Ready
  rw [Check_eq n items s hio hr,Option.bind_some]
  by_cases h:chkS n items s=0
  · obtain ⟨B,_,ok⟩:=okS_ex h
    rw [if_neg (show ¬ (chkS n items s != 0)=true by simp [h]),if_neg (show ¬ chkS n items s≠0 by simp [h]),ready_eq (rightS_of (chk_src h)) ok];rfl
  · rw [if_pos (show (chkS n items s != 0)=true by simpa using h),if_pos h]
def goodMv (n:Net) (m:Move):Prop:=0≤m.Node∧m.Node<n.Nodes.length∧0≤m.Lane∧m.Lane<lanesN (nodeN n m.Node.toNat)
instance (n:Net) (m:Move):Decidable (goodMv n m):=by unfold goodMv;infer_instance
def canMv (n:Net) (items:List (List Item)) (s:State) (m:Move):Bool:=canM n items s m.Node.toNat m.Lane.toNat
theorem Do_eq (n:Net) (items:List (List Item)) (s:State) (m:Move) (hio:∀ x∈n.Nodes,x.In.length≤1099511627776∧x.Out.length≤1099511627776) (hr:∀ l,l∈s.Rings→l.length≤1099511627776) :
    move_Do n items s m=some (if chkS n items s≠0 then (noS,chkS n items s) else if ¬ goodMv n m then (noS,5) else if canMv n items s m=false then (noS,10) else (doMv n items s m,0)):=by
  unfold move_Do
  rw [Check_eq n items s hio hr,Option.bind_some]
  by_cases h:chkS n items s=0
  · obtain ⟨B,_,ok⟩:=okS_ex h
    have hS:=rightS_of (chk_src h)
    rw [if_neg (show ¬ (chkS n items s != 0)=true by simp [h]),if_neg (show ¬ chkS n items s≠0 by simp [h])]
    have hb : (if (decide (m.Node<0))=true then (some true) else (if (decide (m.Node ≥ ((n.Nodes).length:Int)))=true then (some true) else (if (decide (m.Lane<0))=true then (some true) else (if (decide (m.Lane > 0))=true then (Option.bind (idx n.Nodes m.Node) fun x3=>(if (x3.Kind != 6)=true then (some true) else (Option.bind (idx n.Nodes m.Node) fun x4=>(some (decide (m.Lane ≥ ((x4.In).length:Int))))))) else (some false)))))=some (decide (¬ goodMv n m)):=by
      by_cases h1:m.Node<0
      · rw [if_pos (by simpa using h1)];simp [goodMv];omega
      · rw [if_neg (by simpa using h1)]
        by_cases h2:m.Node ≥ (n.Nodes.length:Int)
        · rw [if_pos (by simpa using h2)];simp [goodMv];omega
        · rw [if_neg (by simpa using h2)]
          by_cases h3:m.Lane<0
          · rw [if_pos (by simpa using h3)];simp [goodMv];omega
          · rw [if_neg (by simpa using h3)]
            have hi:idx n.Nodes m.Node=some (nodeN n m.Node.toNat):=idx_D _ (by omega) (by omega)
            have hlt:m.Node.toNat<n.Nodes.length:=by omega
            by_cases h4:m.Lane > 0
            · rw [if_pos (by simpa using h4),hi,Option.bind_some]
              by_cases h6:(nodeN n m.Node.toNat).Kind=6
              · rw [if_neg (by simpa using h6),Option.bind_some]
                have hl:lanesN (nodeN n m.Node.toNat)=(nodeN n m.Node.toNat).In.length:=by unfold lanesN;rw [if_pos h6]
                congr 1
                rw [decide_eq_decide];unfold goodMv;omega
              · rw [if_pos (by simpa using h6)]
                have hl:lanesN (nodeN n m.Node.toNat)=1:=by unfold lanesN;rw [if_neg h6]
                congr 1
                rw [eq_comm,decide_eq_true_eq];unfold goodMv;omega
            · rw [if_neg (by simpa using h4)]
              have hpos:0<lanesN (nodeN n m.Node.toNat):=by
                unfold lanesN
                split
                · rename_i h6;exact hS.in6 _ hlt h6
                · omega
              congr 1
              rw [eq_comm,decide_eq_false_iff_not];unfold goodMv;omega
    rw [hb,Option.bind_some]
    by_cases hg:goodMv n m
    · rw [if_neg (by simpa using hg),if_neg (by simpa using hg)]
      obtain ⟨g0,g1,g2,g3⟩:=hg
      have hm:m=⟨(m.Node.toNat:Int),(m.Lane.toNat:Int)⟩:=by cases m;simp at *;omega
      have hi:m.Node.toNat<n.Nodes.length:=by omega
      have hk:m.Lane.toNat<lanesN (nodeN n m.Node.toNat):=by omega
      have hc:move_can n items s m=some (canMv n items s m):=by
        rw [hm];exact can_eq hS ok hi hk
      rw [hc,Option.bind_some]
      cases hcm:canMv n items s m with
      | false=>rfl
      | true =>
        rw [if_neg (by simp),if_neg (by simp),Copy_ok hS ok,Option.bind_some]
        have hd:move_do_x5aa6 n items m s.At s.Rings s.Memory s.Choices s.Out=some ((doMv n items s m).At,(doMv n items s m).Rings,(doMv n items s m).Memory,(doMv n items s m).Choices,(doMv n items s m).Out):=by
          rw [hm];exact do_eq hS ok hi hk hcm
        rw [hd,Option.bind_some]
    · rw [if_pos (by simpa using hg),if_pos (by simpa using hg)];rfl
  · rw [if_pos (show (chkS n items s != 0)=true by simpa using h),if_pos h];rfl
theorem goodMv_of {m:Move} (hm:m∈readyM n items s):goodMv n m∧canMv n items s m=true:=by
  obtain ⟨i,k,rfl,hi,hk,hc⟩:=readyM_mem hm
  exact ⟨⟨by simp,by simpa using hi,by simp,by simpa using hk⟩,hc⟩
theorem Do_ready (hsrc:srcR n items=0) (ok:OkS n items B s) {m:Move} (hm:m∈readyM n items s) (hio:∀ x∈n.Nodes,x.In.length≤1099511627776∧x.Out.length≤1099511627776):move_Do n items s m=some (doMv n items s m,0):=by
  have hS:=rightS_of hsrc
  obtain ⟨h1,h2⟩:=goodMv_of hm
  rw [Do_eq n items s m hio (smallS_of hS ok).a6,if_neg (by simp [chkS_0 hsrc ok]),if_neg (by simpa using h1),if_neg (by simp [h2])]
end
end Go.Proofs.Ytfbmoockopakjaa
namespace Go.Proofs.Ytfbmoockopakjaa
set_option linter.unusedVariables false
set_option linter.unusedSimpArgs false
def chE (n:Net) (_:Nat) (c:Choice):Option Int :=
  if c.Node<0∨c.Node ≥ (n.Nodes.length:Int)∨(nodeN n c.Node.toNat).Kind≠6 then some 5
  else if c.Lane<0∨c.Lane ≥ ((nodeN n c.Node.toNat).In.length:Int) then some 3 else none
def trailC (n:Net) (l:List Choice):Int :=
  if (netR n).2≠0 then (netR n).2 else if 500<l.length then 2 else (firstE (chE n) 0 l).getD 0
theorem ch_body (n:Net) (c:Choice) (k:Nat) (z:Int) :
    (Option.bind (if (decide (c.Node<0))=true then (some true) else (if (decide (c.Node ≥ ((n.Nodes).length:Int)))=true then (some true) else (Option.bind (idx n.Nodes c.Node) fun x6=>(some (x6.Kind != 6))))) fun c7=>(if c7=true then (Option.map Sum.inr (some (5:Int))) else (Option.bind (if (decide (c.Lane<0))=true then (some true) else (Option.bind (idx n.Nodes c.Node) fun x8=>(some (decide (c.Lane ≥ ((x8.In).length:Int)))))) fun c9=>(if c9=true then (Option.map Sum.inr (some 3)) else (some (.inl z))))))
    = match chE n k c with | some r=>some (.inr r) | none=>some (.inl z:Int ⊕ Int):=by
  by_cases h0:c.Node<0
  · have e:chE n k c=some 5:=by unfold chE;rw [if_pos (.inl h0)]
    rw [e,if_pos (show decide (c.Node<0)=true by simpa using h0)];rfl
  rw [if_neg (show ¬ decide (c.Node<0)=true by simpa using h0)]
  by_cases h1:c.Node ≥ (n.Nodes.length:Int)
  · have e:chE n k c=some 5:=by unfold chE;rw [if_pos (.inr (.inl h1))]
    rw [e,if_pos (show decide (c.Node ≥ (n.Nodes.length:Int))=true by simpa using h1)];rfl
  rw [if_neg (show ¬ decide (c.Node ≥ (n.Nodes.length:Int))=true by simpa using h1)]
  have hi:idx n.Nodes c.Node=some (nodeN n c.Node.toNat):=idx_D _ (by omega) (by omega)
  rw [hi,Option.bind_some,Option.bind_some]
  by_cases h6:(nodeN n c.Node.toNat).Kind=6
  · have hn:¬ (c.Node<0∨c.Node ≥ (n.Nodes.length:Int)∨(nodeN n c.Node.toNat).Kind≠6):=fun h=>h.elim h0 fun h=>h.elim h1 fun h=>h h6
    rw [if_neg (show ¬ ((nodeN n c.Node.toNat).Kind != 6)=true by simp [h6])]
    by_cases h2:c.Lane<0
    · have e:chE n k c=some 3:=by unfold chE;rw [if_neg hn,if_pos (.inl h2)]
      rw [e,if_pos (show decide (c.Lane<0)=true by simpa using h2)];rfl
    · rw [if_neg (show ¬ decide (c.Lane<0)=true by simpa using h2),Option.bind_some,Option.bind_some]
      by_cases h3:c.Lane ≥ ((nodeN n c.Node.toNat).In.length:Int)
      · have e:chE n k c=some 3:=by unfold chE;rw [if_neg hn,if_pos (.inr h3)]
        rw [e,if_pos (show decide (c.Lane ≥ ((nodeN n c.Node.toNat).In.length:Int))=true by simpa using h3)];rfl
      · have e:chE n k c=none:=by unfold chE;rw [if_neg hn,if_neg (fun h=>h.elim h2 h3)]
        rw [e,if_neg (show ¬ decide (c.Lane ≥ ((nodeN n c.Node.toNat).In.length:Int))=true by simpa using h3)]
  · have e:chE n k c=some 5:=by unfold chE;rw [if_pos (.inr (.inr h6))]
    rw [e,if_pos (show ((nodeN n c.Node.toNat).Kind != 6)=true by simpa using h6)];rfl
section
variable (n:Net) (hio:∀ x∈n.Nodes,x.In.length≤1099511627776∧x.Out.length≤1099511627776)
include hio
theorem trail_Check_eq (l:List Choice):trail_Check n l=some (trailC n l):=by
  unfold trail_Check trailC
  rw [net_Check_eq n hio,Option.bind_some]
  by_cases h:(netR n).2=0
  · rw [if_neg (show ¬ ((netR n).2 != 0)=true by simp [h]),if_neg (show ¬ (netR n).2≠0 by simp [h])]
    by_cases h5:500<l.length
    · rw [if_pos (show decide ((l.length:Int) > 500)=true by simp;omega),if_pos h5]
    · rw [if_neg (show ¬ decide ((l.length:Int) > 500)=true by simp;omega),if_neg h5]
      rw [err_loop l (by omega) (chE n) (some 0) (fun k x hx hk e1 e2 e3=>by
        unfold trail_Check_l1
        rw [e2,e1,e3]
        simp only [if_true,Option.bind_some]
        rw [ch_body n x k]
        cases chE n k x<;>rfl) (fun e=>by unfold trail_Check_l1;rw [e];rfl)]
      exact getD_match _ _
  · rw [if_pos (by simpa using h),if_pos h]
theorem CheckChoices_eq (l:List Choice):crossref_CheckChoices n l=some (trailC n l):=by
  unfold crossref_CheckChoices trailC
  rw [crossref_CheckNet_eq n hio,Option.bind_some]
  by_cases h:(netR n).2=0
  · rw [if_neg (show ¬ ((netR n).2 != 0)=true by simp [h]),if_neg (show ¬ (netR n).2≠0 by simp [h])]
    by_cases h5:500<l.length
    · rw [if_pos (show decide ((l.length:Int) > 500)=true by simp;omega),if_pos h5]
    · rw [if_neg (show ¬ decide ((l.length:Int) > 500)=true by simp;omega),if_neg h5]
      rw [err_loop l (by omega) (chE n) (some 0) (fun k x hx hk e1 e2 e3=>by
        unfold crossref_CheckChoices_l1
        rw [e2,e1,e3]
        simp only [if_true,Option.bind_some]
        rw [ch_body n x k]
        cases chE n k x<;>rfl) (fun e=>by unfold crossref_CheckChoices_l1;rw [e];rfl)]
      exact getD_match _ _
  · rw [if_pos (by simpa using h),if_pos h]
end
theorem chE_none {n:Net} {k:Nat} {c:Choice} (h:chE n k c=none):0≤c.Node∧c.Node<n.Nodes.length∧(nodeN n c.Node.toNat).Kind=6∧0≤c.Lane∧c.Lane<(nodeN n c.Node.toNat).In.length:=by
  unfold chE at h
  split at h
  · cases h
  · split at h
    · cases h
    · rename_i h1 h2
      refine ⟨by omega,by omega,Classical.byContradiction fun h3=>h1 (.inr (.inr h3)),by omega,by omega⟩
theorem chE_val {n:Net} {k:Nat} {c:Choice} {e:Int} (h:chE n k c=some e):e≠0:=by
  unfold chE at h
  split at h
  · cases h;decide
  · split at h
    · cases h;decide
    · cases h
theorem firstE_val {α:Type} {f:Nat→α→Option Int} (hf:∀ k x e,f k x=some e→e≠0):∀ {xs:List α} {k:Nat} {e:Int},firstE f k xs=some e→e≠0
  | [],k,e,h=>by cases h
  | x::xs,k,e,h=>by
    unfold firstE at h
    split at h
    · rename_i r hr;cases h;exact hf _ _ _ hr
    · exact firstE_val hf h
structure RightC (n:Net) (l:List Choice):Prop where
  net:(netR n).2=0
  len:l.length≤500
  each:∀ c,c∈l→0≤c.Node∧c.Node<n.Nodes.length∧(nodeN n c.Node.toNat).Kind=6∧0≤c.Lane∧c.Lane<(nodeN n c.Node.toNat).In.length
theorem rightC_of {n:Net} {l:List Choice} (h:trailC n l=0):RightC n l:=by
  unfold trailC at h
  split at h
  · rename_i h1;exact absurd h h1
  · rename_i h1
    split at h
    · cases h
    · rename_i h2
      refine ⟨Classical.byContradiction fun e=>h1 e,by omega,fun c hc=>?_⟩
      cases hf:firstE (chE n) 0 l with
      | some e=>rw [hf] at h;exact absurd h (firstE_val (fun k x e=>chE_val) hf)
      | none =>
        obtain ⟨j,hj⟩:=List.getElem?_of_mem hc
        exact chE_none (firstE_none.1 hf j c hj)
theorem trailC_of {n:Net} {l:List Choice} (h:RightC n l):trailC n l=0:=by
  unfold trailC
  rw [if_neg (by simp [h.net]),if_neg (by have:=h.len;omega)]
  have:firstE (chE n) 0 l=none:=firstE_none.2 fun j x hx=>by
    obtain ⟨a,b,c,d,e⟩:=h.each x (List.mem_of_getElem? hx)
    unfold chE
    rw [if_neg (by omega),if_neg (by omega)]
  rw [this];rfl
theorem lanesOf_snoc (l:List Choice) (c:Choice) (i:Nat):lanesOf (l++[c]) i=if c.Node=(i:Int) then lanesOf l i++[c.Lane] else lanesOf l i:=by
  unfold lanesOf
  rw [List.filter_append,List.map_append]
  by_cases h:c.Node=(i:Int)
  · rw [if_pos h,List.filter_cons_of_pos (by simpa using h)];rfl
  · rw [if_neg h,List.filter_cons_of_neg (by simpa using h)];simp
theorem lanesOf_le (l:List Choice) (i:Nat):(lanesOf l i).length≤l.length:=by
  unfold lanesOf;rw [List.length_map];exact List.length_filter_le _ _
theorem take_snoc {α:Type} {l:List α} {k:Nat} {x:α} (h:l[k]?=some x):l.take (k+1)=l.take k++[x]:=by
  rw [List.take_add_one,h];rfl
def lanesM (n:Net) (l:List Choice):List (List Int):=(List.range n.Nodes.length).map (lanesOf l)
def ownL (N:Nat) (l:List Choice):List (Bool × List Int):=(List.range N).map fun i=>(false,lanesOf l i)
theorem ownL_get {N i:Nat} (l:List Choice) (h:i<N):(ownL N l)[i]?=some (false,lanesOf l i):=by
  unfold ownL;rw [List.getElem?_map,List.getElem?_range h];rfl
theorem ownL_len (N:Nat) (l:List Choice):(ownL N l).length=N:=by unfold ownL;simp
theorem ownL_set {N i:Nat} (l:List Choice) (c:Choice) (hi:c.Node=(i:Int)) (h:i<N):own (ownL N l) i (lanesOf l i++[c.Lane])=ownL N (l++[c]):=by
  unfold own
  refine List.ext_getElem? fun j=>?_
  rw [List.getElem?_set,ownL_len]
  by_cases hj:j<N
  · rw [ownL_get _ hj,ownL_get _ hj,lanesOf_snoc]
    by_cases e:i=j
    · subst e;rw [if_pos rfl,if_pos h,if_pos hi]
    · rw [if_neg e,if_neg (by omega)]
  · rw [List.getElem?_eq_none (by rw [ownL_len];omega),List.getElem?_eq_none (by rw [ownL_len];omega)]
    split
    · rename_i e;exact absurd h (by omega)
    · rfl
theorem lanes_loop {n:Net} {l:List Choice} (hC:RightC n l):∀ (m k:Nat),k+m=l.length →
    iter (fun ss_22:Int × (List (Bool × List Int))=>trail_Lanes_l1 l ss_22.1 ss_22.2) ((k:Int),ownL n.Nodes.length (l.take k))=some (lanesM n l,0)
  | 0,k,h=>by
    have hk:k=l.length:=by omega
    subst hk
    have:trail_Lanes_l1 l (l.length:Int) (ownL n.Nodes.length (l.take l.length))=some (.inr (lanesM n l,0)):=by
      unfold trail_Lanes_l1
      rw [if_neg (by simp),List.take_length]
      unfold ownL lanesM
      rw [List.map_map];rfl
    rw [iter_eq];simp only [this]
  | m + 1,k,h=>by
    have hlt:k<l.length:=by omega
    have hg:l[k]?=some l[k]:=List.getElem?_eq_getElem hlt
    obtain ⟨a,b,c,d,e⟩:=hC.each _ (List.getElem_mem hlt)
    have hl:=hC.len
    have hN:l[k].Node.toNat<n.Nodes.length:=by omega
    have hle:(lanesOf (l.take k) l[k].Node.toNat).length≤500:=Nat.le_trans (lanesOf_le _ _) (by simp;omega)
    have:trail_Lanes_l1 l (k:Int) (ownL n.Nodes.length (l.take k))=some (.inl (((k+1:Nat):Int),ownL n.Nodes.length (l.take (k+1)))):=by
      unfold trail_Lanes_l1
      rw [if_pos (by simp;omega),idx_at hg,Option.bind_some,ixN_D a (by rw [ownL_len];omega),Option.bind_some]
      unfold atc owc
      rw [ownL_get _ hN]
      simp only [Option.map_some,Option.bind_some]
      rw [app_ok (by simp;omega),Option.bind_some,wrap_1 (by omega),ownL_set (l.take k) l[k] (by omega) hN,take_snoc hg]
    rw [iter_eq];simp only [this]
    exact lanes_loop hC m (k+1) (by omega)
def lanesS (n:Net) (l:List Choice):List (List Int) × Int:=if trailC n l≠0 then ([],trailC n l) else (lanesM n l,0)
section
variable (n:Net) (hio:∀ x∈n.Nodes,x.In.length≤1099511627776∧x.Out.length≤1099511627776)
include hio
theorem trail_Lanes_eq (l:List Choice):trail_Lanes n l=some (lanesS n l):=by
  unfold trail_Lanes lanesS
  rw [trail_Check_eq n hio,Option.bind_some]
  by_cases h:trailC n l=0
  · have hC:=rightC_of h
    have hn:=(rightN_of hC.net).n2
    rw [if_neg (by simp [h]),if_neg (by simp [h])]
    have hm:mk ((n.Nodes.length:Nat):Int) (false,([]:List Int))=some (ownL n.Nodes.length (l.take 0)):=by
      unfold mk
      rw [if_pos (by omega)]
      unfold ownL
      congr 1
      refine List.ext_getElem (by simp) fun i h1 h2=>by simp [lanesOf]
    rw [hm,Option.bind_some]
    exact lanes_loop hC l.length 0 (by omega)
  · rw [if_pos (by simpa using h),if_pos h]
omit hio in
theorem lanesM_len (l:List Choice):(lanesM n l).length=n.Nodes.length:=by unfold lanesM;simp
end
theorem lanesM_get {n:Net} {i:Nat} (l:List Choice) (h:i<n.Nodes.length):(lanesM n l)[i]?=some (lanesOf l i):=by
  unfold lanesM;rw [List.getElem?_map,List.getElem?_range h];rfl
theorem equalL_eq (a b:List (List Int)) (ha:a.length≤1099511627776) (hi:∀ l,l∈a→l.length≤1099511627776):slices_EqualFunc_int_int_int_int_x0af1 a b=some (decide (a=b)):=by
  unfold slices_EqualFunc_int_int_int_int_x0af1
  by_cases hl:a.length=b.length
  · rw [if_neg (by simp;omega),eqf_loop a b ha hl id (fun k x y hx hy e1 e2 e3 e4=>by
      unfold slices_EqualFunc_int_int_int_int_x0af1_l1
      rw [e1,e2,e3,e4]
      simp only [if_true,Option.bind_some]
      rw [slices_Equal_int_eq' x y (hi x (List.mem_of_getElem? hx)),Option.bind_some]
      by_cases h:x=y<;>simp [h]) (fun h=>by
      unfold slices_EqualFunc_int_int_int_int_x0af1_l1
      rw [h];rfl)]
    simp
  · rw [if_pos (by simp;omega)]
    have:a≠b:=fun e=>hl (by rw [e])
    simp [this]
def begN (n:Net) (a b:List Choice):Prop:=∀ i,i<n.Nodes.length→lanesOf a i <+: lanesOf b i
noncomputable instance (n:Net) (a b:List Choice):Decidable (begN n a b):=Classical.propDecidable _
theorem take_pre {α:Type} {a b:List α}:a <+: b ↔ a.length≤b.length∧a=b.take a.length:=by
  constructor
  · intro h;exact ⟨h.length_le,List.prefix_iff_eq_take.1 h⟩
  · intro h;rw [h.2];exact List.take_prefix _ _
noncomputable def begE (n:Net) (b:List Choice) (k:Nat) (x:List Int):Option (Bool × Int):=@ite _ (x <+: lanesOf b k) (Classical.propDecidable _) none (some (false,0))
theorem lanes_len {n:Net} {l:List Choice} (hC:RightC n l):∀ x,x∈lanesM n l→x.length≤500:=fun x hx=>by
  obtain ⟨i,_,rfl⟩:=List.mem_map.1 hx
  exact Nat.le_trans (lanesOf_le _ _) hC.len
theorem beg_loop {n:Net} {a b:List Choice} (hA:RightC n a) (hB:RightC n b) (e f:Int):iter (fun ss_11:Int=>trail_Begins_l1 (lanesM n a,e) (lanesM n b,f) ss_11) 0=some (decide (begN n a b),0):=by
  have hn:=(rightN_of hA.net).n2
  rw [err_loop (lanesM n a) (by simp [lanesM];omega) (begE n b) (some (true,0)) (fun k x hx hk e1 e2 e3=>by
    unfold trail_Begins_l1
    simp only
    rw [e2,e1,e3]
    have hk':k<n.Nodes.length:=by simpa [lanesM] using hk
    have hxl:=lanes_len hA x (List.mem_of_getElem? hx)
    have hb:=idx_at (lanesM_get b hk')
    have hyl:=Nat.le_trans (lanesOf_le b k) hB.len
    simp only [if_true,Option.bind_some]
    rw [hb,Option.bind_some]
    unfold begE
    by_cases hl:x.length≤(lanesOf b k).length
    · rw [if_neg (by simp;omega),Option.bind_some,sub_0 hl,Option.bind_some,slices_Equal_int_eq' _ _ (by omega),Option.bind_some,Option.bind_some]
      by_cases hp:x <+: lanesOf b k
      · rw [if_pos hp,if_neg (by simp [← (take_pre.1 hp).2])]
      · rw [if_neg hp,if_pos (by
          have:¬ x=(lanesOf b k).take x.length:=fun e=>hp (take_pre.2 ⟨hl,e⟩)
          simp [this])];rfl
    · rw [if_pos (by simp;omega),Option.bind_some,if_pos rfl,if_neg (fun hp=>hl (take_pre.1 hp).1)];rfl) (fun e=>by unfold trail_Begins_l1;rw [e];rfl)]
  cases hf:firstE (begE n b) 0 (lanesM n a) with
  | none =>
    have:begN n a b:=fun i hi=>by
      have:=firstE_none.1 hf i _ (lanesM_get a hi)
      rw [Nat.zero_add] at this
      unfold begE at this
      refine Classical.byContradiction fun hp=>?_
      rw [if_neg hp] at this;cases this
    simp [this]
  | some r =>
    have:¬ begN n a b:=fun h=>by
      have:firstE (begE n b) 0 (lanesM n a)=none:=firstE_none.2 fun j x hx=>by
        have hj:j<n.Nodes.length:=by
          have:=(List.getElem?_eq_some_iff.1 hx).1
          simpa [lanesM] using this
        rw [lanesM_get a hj] at hx
        cases hx
        rw [Nat.zero_add]
        unfold begE
        rw [if_pos (h j hj)]
      rw [this] at hf;cases hf
    have hr : r=(false,0):=by
      have key:∀ (xs:List (List Int)) (k:Nat),firstE (begE n b) k xs=some r→r=(false,0):=by
        intro xs
        induction xs with
        | nil=>intro k h;cases h
        | cons x xs ih =>
          intro k h
          unfold firstE at h
          split at h
          · rename_i q hq
            cases h
            unfold begE at hq
            split at hq
            · cases hq
            · cases hq;rfl
          · exact ih _ h
      exact key _ _ hf
    subst hr
    simp [this]
section
variable (n:Net) (hio:∀ x∈n.Nodes,x.In.length≤1099511627776∧x.Out.length≤1099511627776)
include hio
theorem trail_Same_eq (a b:List Choice):trail_Same n a b=some (if trailC n a≠0 then (false,trailC n a) else if trailC n b≠0 then (false,trailC n b) else (decide (lanesM n a=lanesM n b),0)):=by
  unfold trail_Same
  rw [trail_Lanes_eq n hio,Option.bind_some,trail_Lanes_eq n hio,Option.bind_some]
  have L0:∀ l,trailC n l=0→lanesS n l=(lanesM n l,0):=fun l h=>by unfold lanesS;rw [if_neg (show ¬ trailC n l≠0 by simp [h])]
  have L1:∀ l,trailC n l≠0→lanesS n l=([],trailC n l):=fun l h=>by unfold lanesS;rw [if_pos h]
  by_cases h:trailC n a=0
  · have hA:=rightC_of h
    have hn:=(rightN_of hA.net).n2
    rw [L0 a h,if_neg (show ¬ ((0:Int) != 0)=true by simp),if_neg (show ¬ trailC n a≠0 by simp [h])]
    by_cases h2:trailC n b=0
    · rw [L0 b h2,if_neg (show ¬ ((0:Int) != 0)=true by simp),if_neg (show ¬ trailC n b≠0 by simp [h2])]
      rw [equalL_eq _ _ (by rw [lanesM_len n];omega) (fun l hl=>by have:=lanes_len hA l hl;omega)]
      rfl
    · rw [L1 b h2,if_pos (show (trailC n b != 0)=true by simpa using h2),if_pos h2]
  · rw [L1 a h,if_pos (show (trailC n a != 0)=true by simpa using h),if_pos h]
theorem trail_Begins_eq (a b:List Choice):trail_Begins n a b=some (if trailC n a≠0 then (false,trailC n a) else if trailC n b≠0 then (false,trailC n b) else (decide (begN n a b),0)):=by
  unfold trail_Begins
  rw [trail_Lanes_eq n hio,Option.bind_some,trail_Lanes_eq n hio,Option.bind_some]
  have L0:∀ l,trailC n l=0→lanesS n l=(lanesM n l,0):=fun l h=>by unfold lanesS;rw [if_neg (show ¬ trailC n l≠0 by simp [h])]
  have L1:∀ l,trailC n l≠0→lanesS n l=([],trailC n l):=fun l h=>by unfold lanesS;rw [if_pos h]
  by_cases h:trailC n a=0
  · have hA:=rightC_of h
    rw [L0 a h,if_neg (show ¬ ((0:Int) != 0)=true by simp),if_neg (show ¬ trailC n a≠0 by simp [h])]
    by_cases h2:trailC n b=0
    · rw [L0 b h2,if_neg (show ¬ ((0:Int) != 0)=true by simp),if_neg (show ¬ trailC n b≠0 by simp [h2])]
      exact beg_loop hA (rightC_of h2) _ _
    · rw [L1 b h2,if_pos (show (trailC n b != 0)=true by simpa using h2),if_pos h2]
  · rw [L1 a h,if_pos (show (trailC n a != 0)=true by simpa using h),if_pos h]
end
end Go.Proofs.Ytfbmoockopakjaa
namespace Go.Proofs.Ytfbmoockopakjaa
set_option linter.unusedVariables false
set_option linter.unusedSimpArgs false
theorem count_loop (l:List Choice) (hl:l.length≤1000000) (i:Nat):∀ (m k:Nat),k+m=l.length →
    iter (fun ss_5:Int × Int=>trail_count_l1 l (i:Int) ss_5.1 ss_5.2) (((lanesOf (l.take k) i).length:Int),(k:Int))=some ((lanesOf l i).length:Int)
  | 0,k,h=>by
    have hk:k=l.length:=by omega
    subst hk
    have e:trail_count_l1 l (i:Int) ((lanesOf (l.take l.length) i).length:Int) (l.length:Int)=some (.inr ((lanesOf l i).length:Int)):=by
      unfold trail_count_l1
      rw [if_neg (by simp),List.take_length];rfl
    rw [iter_eq];simp only [e]
  | m + 1,k,h=>by
    have hlt:k<l.length:=by omega
    have hg:l[k]?=some l[k]:=List.getElem?_eq_getElem hlt
    have hle:=lanesOf_le (l.take k) i
    rw [List.length_take] at hle
    have e:trail_count_l1 l (i:Int) ((lanesOf (l.take k) i).length:Int) (k:Int)=some (.inl (((lanesOf (l.take (k+1)) i).length:Int),((k+1:Nat):Int))):=by
      unfold trail_count_l1
      rw [if_pos (by simp;omega),idx_at hg,Option.bind_some,take_snoc hg,lanesOf_snoc,wrap_1 (by omega)]
      by_cases hi:l[k].Node=(i:Int)
      · rw [if_pos (show (l[k].Node==(i:Int))=true by simpa using hi),if_pos hi,wrap_1 (by omega)];simp
      · rw [if_neg (show ¬ (l[k].Node==(i:Int))=true by simpa using hi),if_neg hi,wrap_1 (by omega)]
    rw [iter_eq];simp only [e]
    exact count_loop l hl i m (k+1) (by omega)
theorem count_eq (l:List Choice) (hl:l.length≤1000000) (i:Nat):trail_count l (i:Int)=some ((lanesOf l i).length:Int):=by
  have:=count_loop l hl i l.length 0 (by omega)
  unfold trail_count
  exact this
def nextI (l:List Int) (k:Nat):Int:=match l[k]? with | some x=>x | none => -1
theorem lanesOf_cons (c:Choice) (l:List Choice) (i:Nat):lanesOf (c::l) i=if c.Node=(i:Int) then c.Lane::lanesOf l i else lanesOf l i:=by
  unfold lanesOf
  by_cases h:c.Node=(i:Int)
  · rw [if_pos h,List.filter_cons_of_pos (by simpa using h)];rfl
  · rw [if_neg h,List.filter_cons_of_neg (by simpa using h)]
theorem next_loop (l:List Choice) (hl:l.length≤1000000) (i:Nat):∀ (m k q:Nat),k+m=l.length→q≤1000000 →
    iter (fun ss_7:Int × Int=>trail_next_l1 l (i:Int) ss_7.1 ss_7.2) ((q:Int),(k:Int))=some (nextI (lanesOf (l.drop k) i) q)
  | 0,k,q,h,hq=>by
    have hk:k=l.length:=by omega
    subst hk
    have e:trail_next_l1 l (i:Int) (q:Int) (l.length:Int)=some (.inr (-1)):=by
      unfold trail_next_l1
      rw [if_neg (by simp)];rfl
    rw [iter_eq];simp only [e,List.drop_length]
    rfl
  | m + 1,k,q,h,hq=>by
    have hlt:k<l.length:=by omega
    have hg:l[k]?=some l[k]:=List.getElem?_eq_getElem hlt
    rw [List.drop_eq_getElem_cons hlt,lanesOf_cons,iter_eq]
    have hstep:∀ z,trail_next_l1 l (i:Int) (q:Int) (k:Int)=some z→z=(if l[k].Node=(i:Int) then if q=0 then .inr l[k].Lane else .inl (((q - 1:Nat):Int),((k+1:Nat):Int)) else .inl ((q:Int),((k+1:Nat):Int))):=fun z hz=>by
      unfold trail_next_l1 at hz
      rw [if_pos (by simp;omega),idx_at hg,Option.bind_some,wrap_1 (by omega)] at hz
      by_cases hi:l[k].Node=(i:Int)
      · rw [if_neg (show ¬ (l[k].Node != (i:Int))=true by simpa using hi)] at hz
        rw [if_pos hi]
        by_cases h0:q=0
        · rw [if_pos (show ((q:Int)==0)=true by simpa using h0)] at hz
          rw [if_pos h0];cases hz;rfl
        · rw [if_neg (show ¬ ((q:Int)==0)=true by simpa using h0),wrap_ok (by omega) (by omega)] at hz
          rw [if_neg h0,← Option.some.inj hz]
          congr 2;omega
      · rw [if_pos (show (l[k].Node != (i:Int))=true by simpa using hi)] at hz
        rw [if_neg hi];exact (Option.some.inj hz).symm
    have htot:∃ z,trail_next_l1 l (i:Int) (q:Int) (k:Int)=some z:=by
      unfold trail_next_l1
      rw [if_pos (by simp;omega),idx_at hg,Option.bind_some]
      split
      · exact ⟨_,rfl⟩
      · split<;>exact ⟨_,rfl⟩
    obtain ⟨z,hz⟩:=htot
    have he:=hstep z hz
    simp only [hz,he]
    by_cases hi:l[k].Node=(i:Int)
    · rw [if_pos hi,if_pos hi]
      by_cases h0:q=0
      · subst h0
        rw [if_pos rfl];rfl
      · rw [if_neg h0]
        simp only
        rw [next_loop l hl i m (k+1) (q - 1) (by omega) (by omega)]
        obtain ⟨q',rfl⟩:=Nat.exists_eq_succ_of_ne_zero h0
        simp [nextI]
    · rw [if_neg hi,if_neg hi]
      exact next_loop l hl i m (k+1) q (by omega) hq
theorem next_eq (l:List Choice) (hl:l.length≤1000000) (i q:Nat) (hq:q≤1000000):trail_next l (i:Int) (q:Int)=some (nextI (lanesOf l i) q):=by
  have:=next_loop l hl i l.length 0 q (by omega) hq
  unfold trail_next
  exact this
def allowB (n:Net) (ch forced:List Choice) (m:Move):Bool :=
  if 0≤m.Node∧m.Node<(n.Nodes.length:Int)∧(nodeN n m.Node.toNat).Kind=6 then
    match (lanesOf forced m.Node.toNat)[(lanesOf ch m.Node.toNat).length]? with
    | some l=>decide (l=m.Lane)
    | none=>true
  else true
theorem lanes_ge {n:Net} {l:List Choice} (hC:RightC n l) {i:Nat}:∀ x,x∈lanesOf l i→0≤x:=fun x hx=>by
  obtain ⟨c,hc,rfl⟩:=List.mem_map.1 hx
  exact (hC.each c (List.mem_filter.1 hc).1).2.2.2.1
theorem allowed_1 {n:Net} {forced:List Choice} (hC:RightC n forced) (s:State) (hch:s.Choices.length≤1000000) (m:Move) (R Q:Int):trail_Allowed_1_xef1f m n.Nodes R Q forced s.At s.Rings s.Memory s.Choices s.Out=some (!allowB n s.Choices forced m):=by
  unfold trail_Allowed_1_xef1f
  by_cases h0:m.Node<0
  · have e:allowB n s.Choices forced m=true:=by unfold allowB;rw [if_neg (by omega)]
    rw [e,if_pos (show decide (m.Node<0)=true by simpa using h0)];rfl
  rw [if_neg (show ¬ decide (m.Node<0)=true by simpa using h0)]
  by_cases h1:m.Node ≥ (n.Nodes.length:Int)
  · have e:allowB n s.Choices forced m=true:=by unfold allowB;rw [if_neg (by omega)]
    rw [e,if_pos (show decide (m.Node ≥ (n.Nodes.length:Int))=true by simpa using h1)];rfl
  rw [if_neg (show ¬ decide (m.Node ≥ (n.Nodes.length:Int))=true by simpa using h1)]
  have hi:idx n.Nodes m.Node=some (nodeN n m.Node.toNat):=idx_D _ (by omega) (by omega)
  rw [hi,Option.bind_some,Option.bind_some]
  by_cases h6:(nodeN n m.Node.toNat).Kind=6
  · rw [if_neg (show ¬ ((nodeN n m.Node.toNat).Kind != 6)=true by simp [h6])]
    obtain ⟨i,hmi⟩:∃ i:Nat,m.Node=(i:Int):=⟨m.Node.toNat,by omega⟩
    have hle:=lanesOf_le s.Choices i
    have hl:=hC.len
    rw [hmi,count_eq _ hch,Option.bind_some,next_eq _ (by omega) i _ (by omega),Option.bind_some]
    have e:allowB n s.Choices forced m=match (lanesOf forced i)[(lanesOf s.Choices i).length]? with | some l=>decide (l=m.Lane) | none=>true:=by
      unfold allowB
      rw [if_pos ⟨by omega,by omega,h6⟩,hmi];rfl
    rw [e]
    unfold nextI
    cases hx:(lanesOf forced i)[(lanesOf s.Choices i).length]? with
    | none=>rfl
    | some x =>
      have:=lanes_ge hC x (List.mem_of_getElem? hx)
      by_cases hxl:x=m.Lane
      · simp [hxl]
      · have h2:(x != m.Lane)=true:=by simpa using hxl
        simp [hxl,this]
  · have e:allowB n s.Choices forced m=true:=by unfold allowB;rw [if_neg (fun h=>h6 h.2.2)]
    rw [e,if_pos (show ((nodeN n m.Node.toNat).Kind != 6)=true by simpa using h6)];rfl
section
variable {n:Net} {forced:List Choice} {s:State} (hC:RightC n forced) (hch:s.Choices.length≤1000000) (R Q:Int)
include hC hch
theorem index_mv (l:List Move) (hl:l.length≤1099511627776):slices_IndexFunc_Move_x0f00 l n.Nodes R Q forced s.At s.Rings s.Memory s.Choices s.Out=some (idxI (fun m=>!allowB n s.Choices forced m) l):=by
  unfold slices_IndexFunc_Move_x0f00
  rw [index_loop l hl (fun m=>!allowB n s.Choices forced m) (fun k x hx hk h1 h2 h3=>by
    unfold slices_IndexFunc_Move_x0f00_l1
    rw [h2,ixN_at hk,h3]
    simp only [if_true,Option.bind_some,hx]
    rw [allowed_1 hC s hch,Option.bind_some]
    rfl) (fun h=>by
    unfold slices_IndexFunc_Move_x0f00_l1
    rw [h];rfl)]
theorem del_loop (l:List Move) (hl:l.length≤1099511627776):∀ (m j:Nat) (a:Move) (mid:List Move),j+m=l.length→((l.take j).filter (allowB n s.Choices forced)).length+(mid.length+1)=j →
    iter (fun ss_6:Int × Int × (List Move)=>slices_DeleteFunc_Move_x0f00_l1 n.Nodes R Q forced s.At s.Rings s.Memory s.Choices s.Out ss_6.1 ss_6.2.1 ss_6.2.2)
      ((((l.take j).filter (allowB n s.Choices forced)).length:Int),(j:Int),(l.take j).filter (allowB n s.Choices forced)++(a::mid)++l.drop j)=some (l.filter (allowB n s.Choices forced))
  | 0,j,a,mid,h,hm=>by
    have hj:j=l.length:=by omega
    subst hj
    rw [List.take_length] at hm ⊢
    rw [List.drop_length,List.append_nil]
    generalize hF:l.filter (allowB n s.Choices forced)=F at hm ⊢
    have hlen:(F++a::mid).length=l.length:=by simp;omega
    have e:slices_DeleteFunc_Move_x0f00_l1 n.Nodes R Q forced s.At s.Rings s.Memory s.Choices s.Out (F.length:Int) (l.length:Int) (F++a::mid)=some (.inr F):=by
      unfold slices_DeleteFunc_Move_x0f00_l1
      rw [if_neg (by rw [hlen];simp)]
      have v1:∀ x y:Int,0≤x→x≤y→y≤((F++a::mid).length:Int)→vwok (F++a::mid).length x y=some ():=fun x y h1 h2 h3=>by unfold vwok;rw [if_pos ⟨h1,h2,h3⟩]
      rw [v1 _ _ (by omega) (by simp;omega) (by omega),Option.bind_some,v1 _ _ (by omega) (by omega) (by simp;omega),Option.bind_some]
      have hs:sub (clr (F++a::mid) ((F.length:Int).toNat) ((((F++a::mid).length:Int)).toNat - (F.length:Int).toNat) (⟨0,0⟩:Move)) 0 (F.length:Int)=some F:=by
        unfold clr
        have:((F++a::mid).take ((F.length:Int).toNat))=F:=by simp
        rw [this,List.append_assoc,sub_0 (by simp)]
        simp
      rw [hs];rfl
    rw [iter_eq];simp only [e]
  | m + 1,j,a,mid,h,hm=>by
    have hlt:j<l.length:=by omega
    have hg:l[j]?=some l[j]:=List.getElem?_eq_getElem hlt
    have htk:(l.take (j+1)).filter (allowB n s.Choices forced)=(l.take j).filter (allowB n s.Choices forced)++if allowB n s.Choices forced l[j]=true then [l[j]] else []:=by
      rw [take_snoc hg,List.filter_append]
      congr 1
      by_cases hk:allowB n s.Choices forced l[j]=true
      · rw [if_pos hk,List.filter_cons_of_pos hk];rfl
      · rw [if_neg hk,List.filter_cons_of_neg hk];rfl
    have hd:l.drop j=l[j]::l.drop (j+1):=List.drop_eq_getElem_cons hlt
    have ih:=del_loop l hl m (j+1)
    rw [htk] at ih
    generalize (l.take j).filter (allowB n s.Choices forced)=F at hm htk ih ⊢
    have hlen:(F++(a::mid)++l.drop j).length=l.length:=by simp;omega
    have hgj:(F++(a::mid)++l.drop j)[j]?=some l[j]:=by
      rw [hd,List.getElem?_append_right (by simp;omega)]
      have:j - (F++a::mid).length=0:=by simp;omega
      rw [this];rfl
    have hgF:(F++(a::mid)++l.drop j)[F.length]?=some a:=by
      rw [List.append_assoc,List.getElem?_append_right (Nat.le_refl _),Nat.sub_self];rfl
    rw [iter_eq]
    by_cases hk:allowB n s.Choices forced l[j]=true
    · have e:slices_DeleteFunc_Move_x0f00_l1 n.Nodes R Q forced s.At s.Rings s.Memory s.Choices s.Out (F.length:Int) (j:Int) (F++(a::mid)++l.drop j)=some (.inl (((F++[l[j]]).length:Int),((j+1:Nat):Int),F++[l[j]]++(mid++[l[j]])++l.drop (j+1))):=by
        unfold slices_DeleteFunc_Move_x0f00_l1
        rw [if_pos (by rw [hlen];simp;omega),ixN_at (by rw [hlen];omega),Option.bind_some,hgj,Option.bind_some,allowed_1 hC s hch,Option.bind_some,hk]
        simp only [Bool.not_true,Bool.not_false,if_true]
        rw [ixN_at (by rw [hlen];omega),Option.bind_some,hgF,Option.bind_some,wrap_1 (by omega),wrap_1 (by omega)]
        have hset:(F++(a::mid)++l.drop j).set F.length l[j]=F++[l[j]]++(mid++[l[j]])++l.drop (j+1):=by
          rw [hd,List.append_assoc,List.set_append_right _ _ (Nat.le_refl _),Nat.sub_self]
          simp
        rw [hset]
        simp
      simp only [e]
      rw [if_pos hk] at ih
      cases hmd:mid++[l[j]] with
      | nil=>simp at hmd
      | cons b md =>
        have hml:md.length+1=mid.length+1:=by have:=congrArg List.length hmd;simp at this;omega
        exact ih b md (by omega) (by simp;omega)
    · have e:slices_DeleteFunc_Move_x0f00_l1 n.Nodes R Q forced s.At s.Rings s.Memory s.Choices s.Out (F.length:Int) (j:Int) (F++(a::mid)++l.drop j)=some (.inl ((F.length:Int),((j+1:Nat):Int),F++(a::(mid++[l[j]]))++l.drop (j+1))):=by
        unfold slices_DeleteFunc_Move_x0f00_l1
        rw [if_pos (by rw [hlen];simp;omega),ixN_at (by rw [hlen];omega),Option.bind_some,hgj,Option.bind_some,allowed_1 hC s hch,Option.bind_some]
        have hf:allowB n s.Choices forced l[j]=false:=by simpa using hk
        rw [hf]
        simp only [Bool.not_true,Bool.not_false,if_true,Bool.false_eq_true,if_false]
        rw [wrap_1 (by omega),hd]
        simp
      simp only [e]
      rw [if_neg hk,List.append_nil] at ih
      exact ih a (mid++[l[j]]) (by omega) (by simp;omega)
omit hC hch in
theorem idxI_none {l:List Move} {p:Move→Bool} (h:idxI p l = -1):∀ x,x∈l→p x=false:=by
  have:=idxI_any p l
  rw [h] at this
  have h2:l.any p=false:=by rw [← this];rfl
  intro x hx
  cases hp:p x with
  | false=>rfl
  | true =>
    have:l.any p=true:=List.any_eq_true.2 ⟨x,hx,hp⟩
    rw [h2] at this;cases this
omit hC hch in
theorem idxI_some {p:Move→Bool} {l:List Move} (h:idxI p l ≠ -1):∃ k:Nat,∃ x,idxI p l=(k:Int)∧l[k]?=some x∧p x=true∧∀ (j:Nat) y,j<k→l[j]?=some y→p y=false:=by
  unfold idxI at h ⊢
  cases hf:l.findIdx? p with
  | none=>rw [hf] at h;exact absurd rfl h
  | some k =>
    obtain ⟨hk,h1,h2⟩:=List.findIdx?_eq_some_iff_getElem.1 hf
    refine ⟨k,l[k],rfl,List.getElem?_eq_getElem hk,h1,fun j y hj hy=>?_⟩
    have:=h2 j hj
    obtain ⟨hlt,rfl⟩:=List.getElem?_eq_some_iff.1 hy
    simpa using this
theorem Allowed_eq (l:List Move) (hl:l.length≤1099511627776) (hn:n.Nodes.length≤1000000):trail_Allowed n s forced l=some (l.filter (allowB n s.Choices forced)):=by
  unfold trail_Allowed slices_Clone_Move slices_DeleteFunc_Move_x0f00
  rw [app_ok (by simpa using hl),Option.bind_some,List.nil_append,index_mv hC hch _ _ l hl,Option.bind_some]
  by_cases h:idxI (fun m=>!allowB n s.Choices forced m) l = -1
  · rw [h,if_pos (by decide),Option.bind_some]
    congr 1
    refine (List.filter_eq_self.2 fun x hx=>?_).symm
    have:=idxI_none h x hx
    simpa using this
  · rw [if_neg (show ¬ (idxI (fun m=>!allowB n s.Choices forced m) l == -1)=true by simpa using h)]
    obtain ⟨k,x,hk,hx,hp,hb⟩:=idxI_some h
    rw [hk]
    have hlt:=(List.getElem?_eq_some_iff.1 hx).1
    have hF:(l.take k).filter (allowB n s.Choices forced)=l.take k:=List.filter_eq_self.2 fun y hy=>by
      obtain ⟨j,hj⟩:=List.getElem?_of_mem hy
      rw [List.getElem?_take] at hj
      split at hj
      · rename_i hjk;have:=hb j y hjk hj;simpa using this
      · cases hj
    have hF1:(l.take (k+1)).filter (allowB n s.Choices forced)=l.take k:=by
      rw [take_snoc hx,List.filter_append,hF,List.filter_cons_of_neg (by simpa using hp)];simp
    have hmin:(l.take k).length=k:=by rw [List.length_take];omega
    have:=del_loop hC hch n.Rings n.Room l hl (l.length - (k+1)) (k+1) x [] (by omega) (by rw [hF1,hmin];rfl)
    rw [hF1,hmin] at this
    have hl2:l.take k++[x]++l.drop (k+1)=l:=by rw [← take_snoc hx,List.take_append_drop]
    rw [hl2] at this
    rw [wrap_1 (by omega),this];rfl
end
end Go.Proofs.Ytfbmoockopakjaa
namespace Go.Proofs.Ytfbmoockopakjaa
set_option linter.unusedVariables false
set_option linter.unusedSimpArgs false
def allowM (n:Net) (items:List (List Item)) (forced:List Choice) (s:State):List Move:=(readyM n items s).filter (allowB n s.Choices forced)
def tplayM (n:Net) (items:List (List Item)) (forced:List Choice):List Int→State→State
  | [],s=>s
  | c::cs,s=>if allowM n items forced s=[] then s else tplayM n items forced cs (doMv n items s (pickM (allowM n items forced s) c))
section
variable {n:Net} {items:List (List Item)} {forced:List Choice} {B:Int} {s:State}
theorem allow_sub {m:Move} (h:m∈allowM n items forced s):m∈readyM n items s:=(List.mem_filter.1 h).1
theorem allow_len (hR:RightN n):(allowM n items forced s).length≤192:=Nat.le_trans (List.length_filter_le _ _) (readyM_len hR)
section
variable (hio:∀ x∈n.Nodes,x.In.length≤1099511627776∧x.Out.length≤1099511627776) (hsrc:srcR n items=0) (hC:RightC n forced)
include hio hsrc
theorem ready_at (ok:OkS n items B s):move_Ready n items s=some (readyM n items s,0):=by
  have hS:=rightS_of hsrc
  rw [Ready_eq n items s hio (fun l hl=>by
    obtain ⟨r,hr⟩:=List.getElem?_of_mem hl
    have:=ok.room r l hr
    have:=hS.m2;omega),if_neg (by rw [chkS_0 hsrc ok];simp)]
include hC
omit hio in
theorem allow_at (ok:OkS n items B s):trail_Allowed n s forced (readyM n items s)=some (allowM n items forced s):=by
  have hS:=rightS_of hsrc
  have h192:=readyM_len (items:=items) (s:=s) hS.toRightN
  have:=hS.n2
  have:=ok.ch
  exact Allowed_eq hC (by omega) _ (by omega) (by omega)
theorem tplay_loop (p:List Int) (hp:p.length≤2000):∀ (m j:Nat) (s:State),j+m=p.length→Inv n items s →
    iter (fun ss:Int × (List Int) × (List (List Item)) × (List Memory) × (List Choice) × (List Item)=>trail_Play_l1 n items forced p ss.1 ss.2.1 ss.2.2.1 ss.2.2.2.1 ss.2.2.2.2.1 ss.2.2.2.2.2) ((j:Int),s.At,s.Rings,s.Memory,s.Choices,s.Out)=some (tplayM n items forced (p.drop j) s,0)
  | 0,j,s,h,hI=>by
    have hj:j=p.length:=by omega
    subst hj
    have e:trail_Play_l1 n items forced p (p.length:Int) s.At s.Rings s.Memory s.Choices s.Out=some (.inr (s,0)):=by
      unfold trail_Play_l1
      rw [if_neg (by simp)];rfl
    rw [iter_eq]
    simp only [e,List.drop_length,tplayM]
  | m + 1,j,s,h,hI=>by
    have hS:=rightS_of hsrc
    have hlt:j<p.length:=by omega
    obtain ⟨B,ok,hB⟩:=hI
    have hrd:move_Ready n items (⟨s.At,s.Rings,s.Memory,s.Choices,s.Out⟩:State)=some (readyM n items s,0):=ready_at hio hsrc ok
    have hal:trail_Allowed n (⟨s.At,s.Rings,s.Memory,s.Choices,s.Out⟩:State) forced (readyM n items s)=some (allowM n items forced s):=allow_at hsrc hC ok
    rw [List.drop_eq_getElem_cons hlt,tplayM,iter_eq]
    by_cases h0:allowM n items forced s=[]
    · have e:trail_Play_l1 n items forced p (j:Int) s.At s.Rings s.Memory s.Choices s.Out=some (.inr (s,0)):=by
        unfold trail_Play_l1
        rw [if_pos (by simp;omega),idx_at (List.getElem?_eq_getElem hlt),Option.bind_some,hrd,Option.bind_some,hal,Option.bind_some,h0,if_pos (by simp)];rfl
      simp only [e]
      rw [if_pos h0]
    · obtain ⟨hmem,hix⟩:=pick_mem h0 p[j]
      have hpos:0<(allowM n items forced s).length:=List.length_pos_iff.2 h0
      have h192:=allow_len (items:=items) (forced:=forced) (s:=s) hS.toRightN
      have hrem:=rem_at p[j] (allowM n items forced s).length hpos (by omega)
      obtain ⟨r1,hr1,hr2⟩:=bind_some hrem
      have hn:=Int.emod_nonneg p[j] (show ((allowM n items forced s).length:Int)≠0 by omega)
      have hget:(allowM n items forced s)[(p[j] % ((allowM n items forced s).length:Int)).toNat]?=some (pickM (allowM n items forced s) p[j]):=getD_get _ hix
      have hdo:move_Do n items (⟨s.At,s.Rings,s.Memory,s.Choices,s.Out⟩:State) (pickM (allowM n items forced s) p[j])=some (doMv n items s (pickM (allowM n items forced s) p[j]),0):=Do_ready hsrc ok (allow_sub hmem) hio
      have e:trail_Play_l1 n items forced p (j:Int) s.At s.Rings s.Memory s.Choices s.Out=some (.inl (((j+1:Nat):Int),(doMv n items s (pickM (allowM n items forced s) p[j])).At,(doMv n items s (pickM (allowM n items forced s) p[j])).Rings,(doMv n items s (pickM (allowM n items forced s) p[j])).Memory,(doMv n items s (pickM (allowM n items forced s) p[j])).Choices,(doMv n items s (pickM (allowM n items forced s) p[j])).Out)):=by
        unfold trail_Play_l1
        rw [if_pos (by simp;omega),idx_at (List.getElem?_eq_getElem hlt),Option.bind_some,hrd,Option.bind_some,hal,Option.bind_some,if_neg (by simp;omega),hr1,Option.bind_some,hr2,Option.bind_some,ixN_D hn (by omega),Option.bind_some,hget,Option.bind_some,hdo,Option.bind_some,wrap_1 (by omega)]
      simp only [e]
      rw [if_neg h0]
      exact tplay_loop p hp m (j+1) _ (by omega) (Inv.doMv hS ⟨B,ok,hB⟩ (allow_sub hmem)).1
end
theorem tPlay_eq (n:Net) (items:List (List Item)) (forced:List Choice) (p:List Int) (hio:∀ x∈n.Nodes,x.In.length≤1099511627776∧x.Out.length≤1099511627776) :
    trail_Play n items forced p=some (if srcR n items≠0 then (noS,srcR n items) else if trailC n forced≠0 then (noS,trailC n forced) else if 2000<p.length then (noS,2) else (tplayM n items forced p (startM n items),0)):=by
  unfold trail_Play move_Start
  rw [net_Sources_eq n items hio,Option.bind_some]
  by_cases h:srcR n items=0
  · have hS:=rightS_of h
    rw [if_neg (by simp [h]),if_neg (by simp [h]),start_eq hS hio,Option.bind_some,Option.bind_some,if_neg (by simp),trail_Check_eq n hio,Option.bind_some]
    by_cases hc:trailC n forced=0
    · rw [if_neg (show ¬ (trailC n forced != 0)=true by simp [hc]),if_neg (show ¬ trailC n forced≠0 by simp [hc])]
      by_cases hp:2000<p.length
      · rw [if_pos (by simp;omega),if_pos hp];rfl
      · rw [if_neg (by simp;omega),if_neg hp]
        have:=tplay_loop hio h (rightC_of hc) p (by omega) p.length 0 (startM n items) (by omega) (start_inv hS)
        rw [Int.natCast_zero,List.drop_zero] at this
        exact this
    · rw [if_pos (by simpa using hc),if_pos hc];rfl
  · rw [if_pos (by simpa using h),if_pos h,Option.bind_some,if_pos (by simpa using h)];rfl
end
theorem trailed_true:crosslaw_trailed=some true:=by
  have hc0:trailC meetN [⟨2,1⟩]=0:=trailC_of ⟨by decide +kernel,by decide,fun c hc=>by simp only [List.mem_singleton] at hc;subst hc;exact ⟨by decide,by decide,by decide,by decide,by decide⟩⟩
  have hp:=tPlay_eq meetN twoN [⟨2,1⟩] [0,0,0,0,0,0] meet_io
  rw [if_neg (by rw [meet_src];decide),if_neg (by rw [hc0];decide),if_neg (by decide)] at hp
  have hc:(tplayM meetN twoN [⟨2,1⟩] [0,0,0,0,0,0] (startM meetN twoN)).Choices=[⟨2,1⟩,⟨2,0⟩]:=by decide +kernel
  have ho:(tplayM meetN twoN [⟨2,1⟩] [0,0,0,0,0,0] (startM meetN twoN)).Out.length=2:=by decide +kernel
  have hc1:trailC meetN [⟨2,1⟩,⟨2,0⟩]=0:=trailC_of ⟨by decide +kernel,by decide,fun c hc=>by
    simp only [List.mem_cons,List.not_mem_nil,or_false] at hc
    rcases hc with rfl | rfl<;>exact ⟨by decide,by decide,by decide,by decide,by decide⟩⟩
  have hl:=trail_Lanes_eq meetN meet_io [⟨2,1⟩,⟨2,0⟩]
  unfold lanesS at hl
  rw [if_neg (by rw [hc1];decide)] at hl
  have hm:lanesM meetN [⟨2,1⟩,⟨2,0⟩]=[[],[],[1,0],[]]:=by decide +kernel
  rw [hm] at hl
  unfold crosslaw_trailed
  rw [meeting_eq,two_eq,Option.bind_some,Option.bind_some,hp,Option.bind_some,Option.bind_some]
  simp only
  rw [hc,hl,Option.bind_some,ho]
  have hi:idx ([[],[],[1,0],[]]:List (List Int)) 2=some [1,0]:=rfl
  simp only [hi,Option.bind_some,slices_Equal_int_eq' [1,0] [1,0] (by simp)]
  rfl
end Go.Proofs.Ytfbmoockopakjaa
namespace Go.Proofs.Ytfbmoockopakjaa
set_option linter.unusedVariables false
set_option linter.unusedSimpArgs false
theorem lanesOf_loop (l:List Choice) (hl:l.length≤1000000000) (i:Nat):∀ (m k:Nat),k+m=l.length →
    iter (fun ss_5:Int × (List Int)=>crossref_LanesOf_l1 l (i:Int) ss_5.1 ss_5.2) ((k:Int),lanesOf (l.take k) i)=some (lanesOf l i)
  | 0,k,h=>by
    have hk:k=l.length:=by omega
    subst hk
    have e:crossref_LanesOf_l1 l (i:Int) (l.length:Int) (lanesOf (l.take l.length) i)=some (.inr (lanesOf l i)):=by
      unfold crossref_LanesOf_l1
      rw [if_neg (by simp),List.take_length];rfl
    rw [iter_eq];simp only [e]
  | m + 1,k,h=>by
    have hlt:k<l.length:=by omega
    have hg:l[k]?=some l[k]:=List.getElem?_eq_getElem hlt
    have hle:=lanesOf_le (l.take k) i
    rw [List.length_take] at hle
    have e:crossref_LanesOf_l1 l (i:Int) (k:Int) (lanesOf (l.take k) i)=some (.inl (((k+1:Nat):Int),lanesOf (l.take (k+1)) i)):=by
      unfold crossref_LanesOf_l1
      rw [if_pos (by simp;omega),idx_at hg,Option.bind_some,take_snoc hg,lanesOf_snoc,wrap_1 (by omega)]
      by_cases hi:l[k].Node=(i:Int)
      · rw [if_pos (show (l[k].Node==(i:Int))=true by simpa using hi),if_pos hi,app_ok (by simp;omega),Option.bind_some]
      · rw [if_neg (show ¬ (l[k].Node==(i:Int))=true by simpa using hi),if_neg hi]
    rw [iter_eq];simp only [e]
    exact lanesOf_loop l hl i m (k+1) (by omega)
theorem LanesOf_eq (l:List Choice) (hl:l.length≤1000000000) (i:Nat):crossref_LanesOf l (i:Int)=some (lanesOf l i):=by
  have:=lanesOf_loop l hl i l.length 0 (by omega)
  unfold crossref_LanesOf
  exact this
theorem lanes_end {n:Net} {a b:List Choice} (ha:a.length≤500) (hb:b.length≤500) (hN:n.Nodes.length≤12) (q1 q2:Bool) (h1:q1=true ↔ ∀ j,j<n.Nodes.length→lanesOf a j=lanesOf b j) (h2:q2=true ↔ ∀ j,j<n.Nodes.length→lanesOf a j <+: lanesOf b j) :
    ∀ (m k:Nat) (s t:Bool),k+m=n.Nodes.length→(s=true ↔ ∀ j,j<k→lanesOf a j=lanesOf b j)→(t=true ↔ ∀ j,j<k→lanesOf a j <+: lanesOf b j) →
    iter (fun ss_22:Bool × Bool × Int=>crosslaw_TrailLanes_l1 n a b (lanesM n a,0) (q1,0) (q2,0) ss_22.1 ss_22.2.1 ss_22.2.2) (s,t,(k:Int))=some true
  | 0,k,s,t,h,hs,ht=>by
    have hk:k=n.Nodes.length:=by omega
    subst hk
    have e1:q1=s:=Bool.eq_iff_iff.2 (h1.trans hs.symm)
    have e2:q2=t:=Bool.eq_iff_iff.2 (h2.trans ht.symm)
    subst e1 e2
    have e:crosslaw_TrailLanes_l1 n a b (lanesM n a,0) (q1,0) (q2,0) q1 q2 (n.Nodes.length:Int)=some (.inr true):=by
      unfold crosslaw_TrailLanes_l1
      rw [if_neg (by simp)];simp
    rw [iter_eq];simp only [e]
  | m + 1,k,s,t,h,hs,ht=>by
    have hk:k<n.Nodes.length:=by omega
    have la:=lanesOf_le a k
    have lb:=lanesOf_le b k
    have step:∀ (P:Nat→Prop),(∀ j,j<k+1→P j) ↔ ((∀ j,j<k→P j)∧P k):=fun P=>⟨fun h=>⟨fun j hj=>h j (by omega),h k (by omega)⟩,fun h j hj=>by
      by_cases e:j=k
      · subst e;exact h.2
      · exact h.1 j (by omega)⟩
    have key:∃ s' t':Bool,crosslaw_TrailLanes_l1 n a b (lanesM n a,0) (q1,0) (q2,0) s t (k:Int)=some (.inl (s',t',((k+1:Nat):Int)))∧(s'=true ↔ (s=true∧lanesOf a k=lanesOf b k))∧(t'=true ↔ (t=true∧lanesOf a k <+: lanesOf b k)):=by
      unfold crosslaw_TrailLanes_l1
      rw [if_pos (by simp;omega),LanesOf_eq a (by omega),Option.bind_some,LanesOf_eq b (by omega),Option.bind_some,idx_at (lanesM_get a hk),Option.bind_some,slices_Equal_int_eq' _ _ (by omega),Option.bind_some,
        if_neg (by simp)]
      have hc:(if s=true then (Option.bind (slices_Equal_int (lanesOf a k) (lanesOf b k)) fun x26=>some x26) else some false)=some (s && decide (lanesOf a k=lanesOf b k)):=by
        cases s with
        | true=>rw [if_pos rfl,slices_Equal_int_eq' _ _ (by omega)];rfl
        | false=>rfl
      rw [hc,Option.bind_some,wrap_1 (by omega)]
      cases t with
      | false=>exact ⟨_,false,by rw [if_neg (by decide)],by simp,by simp⟩
      | true =>
        rw [if_pos rfl]
        by_cases hl:(lanesOf a k).length≤(lanesOf b k).length
        · rw [if_pos (by simp;omega),if_neg (by omega),sub_0 hl,Option.bind_some,slices_Equal_int_eq' _ _ (by omega),Option.bind_some]
          refine ⟨_,_,rfl,by simp,?_⟩
          rw [take_pre]
          simp [hl]
        · rw [if_neg (by simp;omega)]
          exact ⟨_,false,rfl,by simp,by simp;exact fun hp=>hl (take_pre.1 hp).1⟩
    obtain ⟨s',t',e,e1,e2⟩:=key
    rw [iter_eq];simp only [e]
    exact lanes_end ha hb hN q1 q2 h1 h2 m (k+1) s' t' (by omega) (by rw [e1,step,hs]) (by rw [e2,step,ht])
theorem lanesM_eq {n:Net} {a b:List Choice}:lanesM n a=lanesM n b ↔ ∀ j,j<n.Nodes.length→lanesOf a j=lanesOf b j:=by
  unfold lanesM
  constructor
  · intro h j hj
    have:=congrArg (fun l=>l[j]?) h
    simpa [hj] using this
  · intro h
    exact List.map_congr_left fun j hj=>h j (by simpa using hj)
theorem TrailLanes_true (n:Net) (a b:List Choice) (hb:mNet n+(mL mChoice a+(mL mChoice b+0))≤1048576):crosslaw_TrailLanes n a b=some true:=by
  have hio:=net_io (show mNet n≤1048576 by omega)
  unfold crosslaw_TrailLanes
  rw [trail_Lanes_eq n hio,Option.bind_some,trail_Same_eq n hio,Option.bind_some,trail_Begins_eq n hio,Option.bind_some,CheckChoices_eq n hio,Option.bind_some,trailed_true,Option.bind_some]
  rw [if_neg (show ¬ (!true)=true by decide),trail_Check_eq n hio,Option.bind_some,if_neg (show ¬ (trailC n a != trailC n a)=true by simp)]
  have hs:(lanesS n a).2=trailC n a:=by
    unfold lanesS
    by_cases h:trailC n a=0
    · rw [if_neg (by simp [h]),h]
    · rw [if_pos h]
  rw [Option.bind_some,hs,if_neg (show ¬ (trailC n a != trailC n a)=true by simp)]
  by_cases h:trailC n a=0
  · have hA:=rightC_of h
    have hN:=(rightN_of hA.net).n2
    have hl:lanesS n a=(lanesM n a,0):=by unfold lanesS;rw [if_neg (by simp [h])]
    rw [if_pos (by simpa using h),CheckChoices_eq n hio,Option.bind_some,hl,if_neg (show ¬ trailC n a≠0 by simp [h]),if_neg (show ¬ trailC n a≠0 by simp [h])]
    unfold crosslaw_TrailLanes_k2
    by_cases h2:trailC n b=0
    · have hB:=rightC_of h2
      rw [if_neg (show ¬ (trailC n b != 0)=true by simp [h2]),if_neg (show ¬ trailC n b≠0 by simp [h2]),if_neg (show ¬ trailC n b≠0 by simp [h2]),if_neg (by simp [lanesM])]
      exact lanes_end hA.len hB.len hN _ _ (by rw [decide_eq_true_iff];exact lanesM_eq) (by rw [decide_eq_true_iff];exact Iff.rfl) n.Nodes.length 0 true true (by omega) (by simp) (by simp)
    · rw [if_pos (show (trailC n b != 0)=true by simpa using h2),if_pos h2,if_pos h2];simp
  · have hl:lanesS n a=([],trailC n a):=by unfold lanesS;rw [if_pos h]
    rw [if_neg (by simpa using h),hl,if_neg (by simp),if_pos h,if_pos h]
    unfold crosslaw_TrailLanes_k2
    rw [if_pos (show (trailC n a != 0)=true by simpa using h)];simp
end Go.Proofs.Ytfbmoockopakjaa
namespace Go.Proofs.Ytfbmoockopakjaa.trailLanesLaw
open Go.ChangeShapes Go.WideShapes Go.ChangeAt Go.RowKit
set_option linter.unusedVariables false
theorem own:ownKnob Try.prog.godebug=none:=by kernel_rfl
theorem laid:laidOutB Try.prog=true:=by kernel_rfl
theorem ok:(Try.f9.params.toList.all fun t=>Try.prog.readableRec t && decide (t<Try.prog.types.size))=true:=by kernel_rfl
set_option maxRecDepth 100000 in
theorem contract (H:Type) (enc:TypeId × Value→H) (W:World) (base:Nat) (args:Array Value) (ds gs:List (DataW H)) (before:List MemPlace)
    (hval:∀ (j:Nat) t v,Try.f9.params[j]?=some t→args[j]?=some v→Value.okWide Try.prog W .any base t v)
    (hW:DataW.Whole enc Try.prog Try.f9.params.toList Rows.trailLanesSpec.vars false W args.toList ds gs before) (hk:Rows.uptoSmall H (ds++gs)=true) :
    Calls Try.prog 9 args W fun e W'=>∃ v,e=.returned v∧Rows.trailLanesSpec.post enc Try.prog Try.f9 false true false false W args v W':=by
  have hW':=hW
  obtain ⟨p,q,hA0,hV,rfl,hfz,hnd⟩:=hW
  have hA:DataW.TrodAll enc Try.prog W 0 (fun _=>true) true Try.f9.params.toList args.toList ds p:=hA0
  rw [Try.params9] at hA hval
  obtain ⟨v0,vs0,d0,ds0,p0,q0,hargs,rfl,rfl,h0,r0⟩:=trodAll_cons hA
  obtain ⟨v1,vs1,d1,ds1,p1,q1,rfl,rfl,rfl,h1,r1⟩:=trodAll_cons r0
  obtain ⟨v2,vs2,d2,ds2,p2,q2,rfl,rfl,rfl,h2,r2⟩:=trodAll_cons r1
  obtain ⟨rfl,rfl,rfl⟩:=trodAll_nil r2
  obtain rfl:args=#[v0,v1,v2]:=by cases args;simp_all
  obtain ⟨rfl,rfl⟩:=trodVars_none hV
  obtain ⟨x0,a0,g0,m0⟩:=Opn.args on24 Try.underlying24 (hval 0 _ v0 rfl rfl) h0
  obtain ⟨x1,a1,g1,m1⟩:=Opn.arg on28 (by rw [Try.underlying28]) (hval 1 _ v1 rfl rfl) h1
  obtain ⟨x2,a2,g2,m2⟩:=Opn.arg on28 (by rw [Try.underlying28]) (hval 2 _ v2 rfl rfl) h2
  have hb:Rows.uptoBulkAll ([d0,d1,d2]:List (DataW H))≤1048576:=of_decide_eq_true hk
  simp only [Rows.uptoBulkAll] at hb
  refine law_post laid Try.underlying4 (by kernel_rfl) ok rfl rfl rfl rfl hW' (av:=[_,_,_]) (.cons a0 (.cons a1 (.cons a2 (.nil)))) (crosslaw_TrailLanes_c x0 x1 x2 true (TrailLanes_true x0 x1 x2 (by omega)))
set_option maxRecDepth 100000 in
theorem lifted (os:Os) (started:os.Started) (H:Type) (enc:TypeId × Value→H) (F:Stop.Interp) :
    ReturnsInHanded {} Try.checked os 9 .any ((Rows.OpenSpec.upto Rows.trailLanesSpec).pre6 enc Try.prog Try.f9 Rows.trailLanesUptoRow.domain false) (((Rows.OpenSpec.upto Rows.trailLanesSpec).at F).post enc Try.prog Try.f9 false true false false):=by
  refine returnsInHanded_of_cond (C:=Try.checked) (s:=Rows.OpenSpec.upto Rows.trailLanesSpec) (k:=Rows.uptoSmall) rfl own started (by kernel_rfl) Try.func9
    (OpenSpec.witness (enc:=enc) (C:=Try.checked) (s:=Rows.OpenSpec.upto Rows.trailLanesSpec) (k:=Rows.uptoSmall) rfl false ⟨#[],#[.agg #[.slice none 0 0,.int .i64 0,.int .i64 0],.slice none 0 0,.slice none 0 0],[]⟩ 8 (by kernel_rfl) (by kernel_rfl) (by kernel_rfl)
      (x:=([.agg [.nil,.lit (.int .i64 0),.lit (.int .i64 0)],.nil,.nil],[],[])) (by kernel_rfl) rfl (by kernel_rfl)) ?_
  intro W base args ds gs before hval hW _ hk _
  exact contract H enc W base args ds gs before hval hW hk
theorem proved:Rows.TrailLanesUptoSaid :=
  OpenClaim.holds_of_cond 9 Try.f9 rfl rfl rfl rfl rfl rfl rfl ⟨rfl,rfl,rfl,rfl,rfl⟩ rfl rfl rfl rfl rfl (by kernel_rfl) Try.func9 (by kernel_rfl)
    (of_decide_eq_true (by kernel_rfl)) (by unfold Func.isWrapper;first | (rw [if_pos (by decide +kernel)];kernel_rfl) | (rw [if_neg (by decide +kernel)];exact ⟨rfl,rfl⟩))
    (fun os started H enc _ F=>lifted os started H enc F)
#print axioms proved
end Go.Proofs.Ytfbmoockopakjaa.trailLanesLaw
