/-
  Part 3 of the proof of taleScriptLaw.proved: the code computes these functions, and the law holds of them, with no condition beyond the statement's own; put together by a program of ours (wip/decl.py) out of texts of ours.
-/
import Derived.RangeFuncNested
import Derived.RangeFuncBound
import Derived.RangeFuncCalls
import Derived.RangeFuncLeaves
import Derived.RangeFuncBox
import Derived.Shelf.Abstract
import Derived.Shelf.RegionOpen
import Derived.OwnWalkIn
import Derived.TacticsInMore
import Derived.LoopNIn
import Derived.LoopIn
import Derived.Shelf.Strings.Search3
import Derived.ProofKit
import Derived.OpenShut
import Derived.JoinedCond
import Derived.Deep.Slices
import Derived.Carry
import Derived.IntWalk
import Derived.Lib.ParseIntBTie
import Derived.Lib.LaidTab
import Derived.Stop.LaidErr
import Derived.Test.YtbfncjgaklimlaaGreatDoorCards
import Derived.Test.YtbfncjgaklimlaaGreatDoorTie
import Derived.Deep.DeepHandedRow
import Derived.Test.YtbfncjgaklimlaaGreatDoorZTaleScript2
set_option linter.unusedVariables false
set_option linter.unusedSimpArgs false
namespace Go.Proofs.YtbfncjgaklimlaaGreatDoor
section
open Go.RowKit
open Go.ChangeMaps (setBlock)
section
variable {P:Program} {N n:Nat} {fr fr':List AV} {aw aw':List Ob} {l:List (Nat × AV)} {s:St} {σ σ':List Value} {w w':World} {F F':Nat→Prop} {a a':Act}
theorem Cur.other {r:Nat} (h:Cur s fr aw σ w F a) (hr:s.w.heap.size<=r) (hF:¬ F r) (hD:¬ Dof aw σ r) (hk:∀ b,b≠r->w'.heap[b]?=w.heap[b]?) (hs:w'.heap.size=w.heap.size) (hos:w'.os=w.os) (ht:w'.tape=w.tape) (ho:Drw w w') :
  Cur s fr aw σ w' F a :=
 have h1:∀ b,(F b∨Dof aw σ b)->w'.heap[b]?=w.heap[b]?:=fun b hb=>hk b (fun e=>by subst e;exact hb.elim hF hD)
 ⟨h.sim.other h1 (by omega),⟨h.fr.1.mono (fun _ _ e=>e) (fun _ e=>e) fun b hb=>h1 b (.inl hb),h.fr.2⟩,
  ⟨hos.trans h.mv.os,ht.trans h.mv.tape,⟨ho.1.trans h.mv.output.1,zP h.mv.output.2 ho.2⟩,by have:=h.mv.size;omega,fun b hb hd=>(hk b (by omega)).trans (h.mv.keep b hb hd),h.mv.pre,h.mv.sub,h.mv.sup,h.mv.own⟩,h.ds⟩
def Bs (aw:List Ob) (σ:List Value) (w:World) (F:Nat->Prop) (b:Nat):Prop:=b<w.heap.size/\¬ F b/\¬ Dof aw σ b
theorem Bs.mv {b:Nat} (h:Bs aw σ w F b) (m:Mv aw σ w F aw' σ' w' F'):Bs aw' σ' w' F' b/\w'.heap[b]?=w.heap[b]? :=
 ⟨⟨zk h.1 m.size,fun hF=>(m.sup b hF).elim h.2.1 fun q=>q.elim h.2.2 fun q=>by have:=h.1;omega,fun hD=>(m.own b hD).elim h.2.2 fun q=>by have:=h.1;omega⟩,m.keep b h.1 h.2.2⟩
theorem Cur.here (h:Cur s fr aw σ w F a):Cur ⟨aw,σ,w,F,a.defers⟩ fr aw σ w F a:=⟨h.sim,h.fr,.refl ..,rfl⟩
theorem Cur.thence (h:Cur s fr aw σ w F a) (h':Cur ⟨aw,σ,w,F,a.defers⟩ fr' aw' σ' w' F' a'):Cur s fr' aw' σ' w' F' a':=⟨h'.sim,h'.fr,h.mv.trans h'.mv,h'.ds.trans h.ds⟩
theorem T.beside {c:Code} {Q:Exit->List AV->List Ob->Prop} (hN:aw.length=N) (h:T P N c Q fr aw) (hc:Cur s fr aw σ w F a) :
  c.wp P (fun e a' w'=>∃ fr' aw' σ' F',Q e fr' aw'/\Cur s fr' aw' σ' w' F' a'/\Mv aw σ w F aw' σ' w' F') a w :=
 wp_mono (h.out ⟨aw,σ,w,F,a.defers⟩ hN hc.sim.len σ w F a hc.here) fun e a' w' ⟨fr',aw',σ',F',hq,h'⟩=>⟨fr',aw',σ',F',hq,hc.thence h',h'.mv⟩
theorem RS.beside {ops:Array Oper} {os:List Oper} {K:List AV->List Ob->Prop} (hN:aw.length=N) (h:RS P N ops os K fr aw) (hc:Cur s fr aw σ w F a) {Q:Exit->Act->World->Prop}
  (hQ:∀ fr' aw' σ' w' F' a',K fr' aw'->Cur s fr' aw' σ' w' F' a'->Mv aw σ w F aw' σ' w' F'->Q .normal a' w'):wpList P ops Q os a w :=
 h.out ⟨aw,σ,w,F,a.defers⟩ hN hc.sim.len σ w F a hc.here Q fun fr' aw' σ' w' F' a' h' hK=>hQ fr' aw' σ' w' F' a' hK (hc.thence h') h'.mv
theorem Cur.putA (h:Cur s (mkA n l) aw σ w F a) {r:AV} {v:Value} (hr:Rel σ w F r v) (t:Nat):Cur s (mkA n ((t,r)::l)) aw σ w F (a.put (some t) v):=by have:=be h hr (some t);rwa [br] at this
theorem Cur.cst (h:Cur s (mkA n l) aw σ w F a) {t:Nat} {v:Value} (he:evA n l (.tmp t)=.cst v):a.eval (.tmp t)=v:=by have:=h.fr.ev (.tmp t);rw [ab,he] at this;generalize a.eval (.tmp t)=u at this;cases this;rfl
theorem oV {t u:Nat} {r:AV} (h:u≠t):evA n ((u,r)::l) (.tmp t)=evA n l (.tmp t):=by rw [<- ab,<- ab];show (mkA n ((u,r)::l)).getD t .any=(mkA n l).getD t .any;rw [za,za,bV,bV,dA,if_neg h]
theorem rl {α:Type} {f:α->Nat} {Z ds:List α} (hZ:(Z.map f).Nodup) (hd:(ds.map f).Nodup) (hs:∀ d,d∈ds->d∈Z) (ha:∀ z,z∈Z->f z∈ds.map f):ds.Perm Z:=by
 induction ds generalizing Z with
 | nil =>
  cases Z with
  | nil=>exact .refl _
  | cons z Z=>have:=ha z zl;simp at this
 | cons d ds ih =>
  obtain ⟨A,B,rfl⟩:=List.append_of_mem (hs d zl);have hp:(A++d::B).Perm (d::(A++B)):=List.perm_middle;have hZ':((d::(A++B)).map f).Nodup:=(hp.map f).nodup_iff.1 hZ;rw [zh,Ao] at hZ' hd;refine (List.Perm.cons d (ih hZ'.2 hd.2 (fun x hx=>?_) fun z hz=>?_)).trans hp.symm
  ·have h1:=hp.mem_iff.1 (hs x (zd _ hx));rcases zT.1 h1 with rfl | h1
   ·exact absurd (List.mem_map_of_mem hx) hd.1
   ·exact h1
  ·have h1:=ha z (hp.mem_iff.2 (zd _ hz));rcases zT.1 h1 with h1 | h1
   ·exact absurd (h1▸List.mem_map_of_mem hz) hZ'.1
   ·exact h1
theorem oh {α:Type} {f:α->Nat}:∀ {Z ds:List α},(ds.map f).Nodup->(∀ d,d∈ds->d∈Z)->ds.length<=Z.length
 | Z,[],_,_=>zu _
 | Z,d::ds,hd,hs=>by
  obtain ⟨A,B,rfl⟩:=List.append_of_mem (hs d zl);rw [zh,Ao] at hd;have:=oh (Z:=A++B) hd.2 fun x hx=>by
   have h1:=(List.perm_middle.mem_iff).1 (hs x (zd _ hx));rcases zT.1 h1 with rfl | h1
   ·exact absurd (List.mem_map_of_mem hx) hd.1
   ·exact h1
  simp only [zc,y0] at this ⊢;omega
theorem f9 {m:Sem Value} {v:Value} (h:m.run P w=.ok v w'):((do pure (.value (<- m)):Sem Next)).run P w=.ok (.value v) w':=by simp only [Sem.run_bind,h,Result.andThen_ok,Sem.run_pure]
theorem Cur.slot (h:Cur s (mkA n l) aw σ w F a) {t:Nat} (ht:t<n) (v:Value):(a.put (some t) v).eval (.tmp t)=v:=by have h1:=h.fr.1.1;rw [e9] at h1;exact uM (vm (by simp at h1;omega) v)
theorem pd {x:Operand} {k:Nat} {vs:Array Value} {v:Value} (he:a.eval x=.tuple vs) (hv:vs[k]?=some v):(Instr.extract (a.eval x) k).run P w=.ok v w:=by rw [he];simp [Instr.extract,hv,Sem.run_pure]
theorem tp {κ ν:Type} {ek:κ->AV} {ev:ν->AV} {L:Value->List (κ × ν)->List (Nat × AV)} {A:List (κ × ν)->List Ob} {Q:Exit->List AV->List Ob->Prop}
  {Z:List (MapEntry × (κ × ν))} {es:Array MapEntry} {clock bm r:Nat} (hZ:Z.map (·.1)=es.toList) (hrel:∀ z,z∈Z->∀ σ w F,Rel σ w F (ek z.2.1) z.1.key/\Rel σ w F (ev z.2.2) z.1.val) (hborn:Born es clock)
  {b b1 i5 i6 tn te ti tE:Nat} {ty1 ty2 ty3:TypeId} {ps1 ps2 ps3:String} {af1 af2 af3:Array Edge} {os:List Oper} {R7:Code} (hA:∀ zs,(A zs).length=N)
  (hi:∀ ptr zs,evA n (L ptr zs) (.tmp ti)=.cst ptr) (h1:tn<n) (h2:te<n) (d1:tn≠ti) (d2:te≠ti) (d3:te≠tn)
  (h6:∀ ptr zs k v,RS P N (⟨some tE,.entry (.tmp ti),ty3,ps3,af3,none⟩::os).toArray os (fun fr aw=>T P N R7 (fun e fr' aw'=>e=.normal/\Weak N fr' aw' (mkA n (L ptr (zs++[(k,v)]))) (A (zs++[(k,v)]))) fr aw)
   (mkA n ((tE,.tup [ek k,ev v])::(te,.bool true)::(tn,.tup [.bool true,ek k,ev v])::L ptr zs)) (A zs))
  (hQ:∀ ptr zs,zs.Perm (Z.map (·.2))->Q (.exit b) (mkA n ((te,.bool false)::(tn,.tup [.bool false])::L ptr zs)) (A zs))
  {ptr:Value} (hptr:ptr=.pointer (some ⟨r,0,none⟩)) (hc:Cur s (mkA n (L ptr [])) (A []) σ w F a) (hr:Bs (A []) σ w F r) (hb:Bs (A []) σ w F bm) (hrb:r≠bm) (her:w.heap[r]?=some (.mapIter (some bm) clock #[] clock)) (heb:w.heap[bm]?=some (.map es clock)) (hrs:s.w.heap.size<=r) :
  (Code.loop (.seq (.region i5 (List.toArray [⟨some tn,.next (.tmp ti) false,ty1,ps1,af1,none⟩,⟨some te,.extract (.tmp tn) 0,ty2,ps2,af2,none⟩]) false) (.seq (.cond (.tmp te) .skip (.exit b)) (.block b1 (.seq (.region i6 (⟨some tE,.entry (.tmp ti),ty3,ps3,af3,none⟩::os).toArray false) R7))))).wp P (CQ s Q) a w:=by
 refine wp_loop_ghost (fun m a w=>∃ (ds:List (MapEntry × (κ × ν))) (σ:List Value) (F:Nat->Prop) (seen:Array Nat) (last:Nat),m=Z.length - ds.length/\(∀ d,d∈ds->d∈Z)/\(ds.map (·.1.born)).Nodup/\seen.toList=ds.map (·.1.born)/\clock<=last /\
  Cur s (mkA n (L ptr (ds.map (·.2)))) (A (ds.map (·.2))) σ w F a/\Bs (A (ds.map (·.2))) σ w F r/\Bs (A (ds.map (·.2))) σ w F bm/\w.heap[r]?=some (.mapIter (some bm) clock seen last)/\w.heap[bm]?=some (.map es clock)) Z.length
  ⟨[],σ,F,#[],clock,by simp,by simp,by simp,by simp,y5 _,hc,hr,hb,her,heb⟩ ?_
 rintro m a w ⟨ds,σ,F,seen,last,hm,hds,hnd,hseen,hcl,hc,hr,hb,her,heb⟩
 have hZn:(Z.map (·.1.born)).Nodup:=by have:=hborn.2;rw [<- hZ,z6] at this;exact this
 have hit:=hc.cst (hi ptr _)
 refine wp_seq (wp_region_list ?_)
 rcases run_next_at (P:=P) w ty1 r bm clock last seen es clock her heb hborn.1 hcl with ⟨h0,hrun⟩ | ⟨e,he,w1,hw1,hrun⟩
 ·have hp:(ds.map (·.2)).Perm (Z.map (·.2)):=(rl hZn hnd hds fun z hz=>by
   have hze:z.1∈es.toList:=hZ▸List.mem_map_of_mem hz;rw [<- hseen];refine Classical.byContradiction fun hx=>?_
   have:z.1∈(leftOf es seen).toList:=by simpa [leftOf] using ⟨by simpa using hze,by simpa using hx⟩
   rw [show (leftOf es seen).toList=[] from y7 (by simpa using h0)] at this;cases this).map _
  have hc1:=hc.putA (r:=.tup [.bool false]) (v:=.tuple #[.bool false]) (.tup [.bool false] [.bool false] rfl fun j c u h1 h2=>by
   match j with
   | 0=>cases h1;cases h2;exact .bool _
   | j+1=>cases h1) tn
  refine f8 rfl (v:=.tuple #[.bool false]) (w':=w) (f9 (by rw [hit,hptr];exact hrun)) ?_
  refine f8 rfl (v:=.bool false) (w':=w) (f9 (pd (hc.slot h1 _) rfl)) ?_
  have hc2:=hc1.putA (r:=.bool false) (v:=.bool false) (.bool _) te
  refine wp_seq (wp_cond_false (hc1.slot h2 _) (wp_exit ?_))
  exact ⟨_,_,_,_,hQ _ _ hp,hc2⟩
 ·obtain ⟨z,hz,rfl⟩:∃ z,z∈Z/\z.1=e:=by
   have h3:e∈es.toList:=by simp [leftOf] at he ⊢;exact he.1
   rw [<- hZ] at h3;obtain ⟨z,hz,h4⟩:=zt.1 h3;exact ⟨z,hz,h4⟩
  have hns:z.1.born ∉ ds.map (·.1.born):=by rw [<- hseen];simp [leftOf] at he ⊢;exact he.2
  have hr1:w1.heap[r]?=w.heap[r]?/\w1.heap=w.heap:=by rcases hw1 with rfl | rfl<;>exact ⟨rfl,rfl⟩
  have hcW:Cur s (mkA n (L ptr (ds.map (·.2)))) (A (ds.map (·.2))) σ (setBlock w1 r (.mapIter (some bm) clock (seen.push z.1.born) clock)) F a:=by
   refine hc.other hrs hr.2.1 hr.2.2 (fun b hb=>?_) ?_ ?_ ?_ ?_
   ·simp [setBlock,hr1.2,Array.getElem?_setIfInBounds,Ne.symm hb]
   ·simp [setBlock,hr1.2]
   ·rcases hw1 with rfl | rfl<;>rfl
   ·rcases hw1 with rfl | rfl<;>rfl
   ·rcases hw1 with rfl | rfl<;>exact drO
  refine f8 rfl (v:=.tuple #[.bool true,z.1.key,z.1.val]) (f9 (by rw [hit,hptr];exact hrun)) ?_
  generalize hW:setBlock w1 r (.mapIter (some bm) clock (seen.push z.1.born) clock)=W at hcW
  have hWr:W.heap[r]?=some (.mapIter (some bm) clock (seen.push z.1.born) clock):=by rw [<- hW];simp [setBlock,hr1.2,Array.getElem?_setIfInBounds,hr.1]
  have hWb:W.heap[bm]?=some (.map es clock):=by rw [<- hW];simp [setBlock,hr1.2,Array.getElem?_setIfInBounds,hrb];exact heb
  have hWs:W.heap.size=w.heap.size:=by rw [<- hW];simp [setBlock,hr1.2]
  have hre:=hrel z hz σ W F
  have hc1:=hcW.putA (r:=.tup [.bool true,ek z.2.1,ev z.2.2]) (v:=.tuple #[.bool true,z.1.key,z.1.val]) (.tup [.bool true,ek z.2.1,ev z.2.2] [.bool true,z.1.key,z.1.val] rfl fun j c u h1 h2=>by
   match j with
   | 0=>cases h1;cases h2;exact .bool _
   | 1=>cases h1;cases h2;exact hre.1
   | 2=>cases h1;cases h2;exact hre.2
   | j+3=>cases h1) tn
  refine f8 rfl (v:=.bool true) (w':=W) (f9 (pd (hcW.slot h1 _) rfl)) ?_
  have hc2:=hc1.putA (r:=.bool true) (v:=.bool true) (.bool _) te
  refine wp_seq (wp_cond_true (hc1.slot h2 _) (wp_skip (wp_block (wp_seq (wp_region_list ?_)))))
  have hit2:=hc2.cst (t:=ti) (by rw [oV d2,oV d1];exact hi ptr _)
  refine f8 rfl (v:=.tuple #[z.1.key,z.1.val]) (w':=W) (f9 (by rw [hit2,hptr];exact run_entry_at W r bm clock seen es clock z.1 hWr hWb (hZ▸List.mem_map_of_mem hz) hborn.2)) ?_
  have hc3:=hc2.putA (r:=.tup [ek z.2.1,ev z.2.2]) (v:=.tuple #[z.1.key,z.1.val]) (.tup [ek z.2.1,ev z.2.2] [z.1.key,z.1.val] rfl fun j c u h1 h2=>by
   match j with
   | 0=>cases h1;cases h2;exact hre.1
   | 1=>cases h1;cases h2;exact hre.2
   | j+2=>cases h1) tE
  have hh:=hc3.here
  refine (h6 ptr (ds.map (·.2)) z.2.1 z.2.2).out _ (hA _) hc3.sim.len σ W F _ hh _ fun fr4 aw4 σ4 w4 F4 a4 hc4 hT=>?_
  refine wp_mono (hT.out _ (hA _) hc3.sim.len σ4 w4 F4 a4 hc4) ?_
  rintro e5 a5 w5 ⟨fr5,aw5,σ5,F5,⟨rfl,hwk⟩,hc5⟩
  obtain ⟨σ6,hc6⟩:=hc5.weak hc3.sim.len (by show Weak (A _).length _ _ _ _;rw [hA];exact hwk)
  have hr6:=Bs.mv (b:=r) (F:=F) (w:=W) ⟨hWs.symm▸hr.1,hr.2⟩ hc6.mv
  have hb6:=Bs.mv (b:=bm) (F:=F) (w:=W) ⟨hWs.symm▸hb.1,hb.2⟩ hc6.mv
  have hnd':((ds++[z]).map (·.1.born)).Nodup:=by rw [zH,List.nodup_append];exact ⟨hnd,by simp,fun x hx y hy e=>by simp at hy;subst hy;subst e;exact hns hx⟩
  have hds':∀ d,d∈ds++[z]->d∈Z:=fun d hd=>(zn.1 hd).elim (hds d) fun q=>by simp at q;exact q▸hz
  have hlen:=oh hnd' hds'
  have hz2:(ds++[z]).map (·.2)=ds.map (·.2)++[(z.2.1,z.2.2)]:=by simp
  refine ⟨Z.length - (ds++[z]).length,by simp at hlen ⊢;omega,ds++[z],σ6,F5,seen.push z.1.born,clock,rfl,hds',hnd',by simp [hseen],y5 _,?_⟩
  rw [hz2]
  exact ⟨hc3.thence hc6,hr6.1,hb6.1,hr6.2.trans hWr,hb6.2.trans hWb⟩
theorem Sim.kill (h:Sim aw σ w F) (i:Nat):Sim (aw.set i .dead) σ w F :=
  ⟨by rw [h.len];simp,fun k o v ho hv=>by
      rcases bK ho with ⟨rfl,rfl,_⟩ | ⟨_,h2⟩
      · trivial
      · exact h.obj k o v h2 hv,fun k k' o o' v v' g hne ho ho' hl hl' hv hv' hb hb'=>by
      rcases bK ho with ⟨rfl,rfl,_⟩ | ⟨_,h2⟩
      · cases hl
      · rcases bK ho' with ⟨rfl,rfl,_⟩ | ⟨_,h3⟩
        · cases hl'
        · exact h.sep k k' o o' v v' g hne h2 h3 hl hl' hv hv' hb hb',h.lt,h.gd⟩
theorem Dof.kill {i b:Nat} (h:Dof (aw.set i .dead) σ b):∃ (k:Nat) (o:Ob) (v:Value),k≠i/\aw[k]?=some o/\o.live=true/\σ[k]?=some v/\Bk o v b:=by
 obtain ⟨k,o,v,ho,hl,hv,hb⟩:=h;rcases bK ho with ⟨rfl,rfl,_⟩ | ⟨hne,h2⟩
 ·cases hl
 ·exact ⟨k,o,v,fun e=>hne (by omega),h2,hl,hv,hb⟩
theorem Mv.kill (i:Nat):Mv aw σ w F (aw.set i .dead) σ w F :=
 ⟨rfl,rfl,drO,y5 _,fun _ _ _=>rfl,fun _ _ h=>h,fun _ h=>h,fun _ h=>.inl h,fun b h=>.inl (by obtain ⟨k,o,v,_,h1,h2,h3,h4⟩:=h.kill;exact ⟨k,o,v,h1,h2,h3,h4⟩)⟩
theorem T.rangeM {κ ν:Type} {ek:κ->AV} {ev:ν->AV} {L:Value->List (κ × ν)->List (Nat × AV)} {A:List (κ × ν)->List Ob} {Q:Exit->List AV->List Ob->Prop} (ys:List (κ × ν)) {M id:Nat}
  (hek:∀ k v σ w F σ' w' F',Rel σ w F (ek k) v->Rel σ' w' F' (ek k) v) (hev:∀ k v σ w F σ' w' F',Rel σ w F (ev k) v->Rel σ' w' F' (ev k) v)
  {b b1 i4 i5 i6 tn te ti tE tc:Nat} {mt kt et ty0 ty1 ty2 ty3:TypeId} {ps0 ps1 ps2 ps3:String} {af0 af1 af2 af3:Array Edge} {os:List Oper} {R7:Code} {o1:Oper}
  (hg:o1.guard=none) (hd:o1.dst=some tc) (hm:P.underlying mt=some (.map kt et)) (hid:aw.length=id)
  (ho:OP P M o1 (mkA n l) aw fun r aw1=>r=.mpr id/\aw1=aw++[.mp (List.map ek (List.map Prod.fst ys)) (List.map ev (List.map Prod.snd ys))])
  (hA:∀ zs,(A zs).length=id+1) (hi:∀ ptr zs,evA n (L ptr zs) (.tmp ti)=.cst ptr) (h0:tc<n) (h1:tn<n) (h2:te<n) (d1:tn≠ti) (d2:te≠ti) (d3:te≠tn)
  (hW:∀ ptr,Weak (id+1) (mkA n ((ti,.cst ptr)::(tc,.mpr id)::l)) (aw++[.dead]) (mkA n (L ptr [])) (A []))
  (h6:∀ ptr zs k v,RS P (id+1) (⟨some tE,.entry (.tmp ti),ty3,ps3,af3,none⟩::os).toArray os (fun fr aw=>T P (id+1) R7 (fun e fr' aw'=>e=.normal/\Weak (id+1) fr' aw' (mkA n (L ptr (zs++[(k,v)]))) (A (zs++[(k,v)]))) fr aw)
   (mkA n ((tE,.tup [ek k,ev v])::(te,.bool true)::(tn,.tup [.bool true,ek k,ev v])::L ptr zs)) (A zs))
  (hQ:∀ ptr zs,zs.Perm ys->Q .normal (mkA n ((te,.bool false)::(tn,.tup [.bool false])::L ptr zs)) (A zs)) :
  T P M (.seq (.region i4 (List.toArray [o1,⟨some ti,.range mt (.tmp tc),ty0,ps0,af0,none⟩]) false) (.block b (.loop (.seq (.region i5 (List.toArray [⟨some tn,.next (.tmp ti) false,ty1,ps1,af1,none⟩,⟨some te,.extract (.tmp tn) 0,ty2,ps2,af2,none⟩]) false) (.seq (.cond (.tmp te) .skip (.exit b)) (.block b1 (.seq (.region i6 (⟨some tE,.entry (.tmp ti),ty3,ps3,af3,none⟩::os).toArray false) R7))))))) Q (mkA n l) aw :=
 ⟨fun st hM h3 σ w F a hc=>by
  refine wp_seq (wp_region_list ?_);unfold wpList;rw [if_pos (by simp [Region.wanted,hg])];refine .inl (ho.out st hM h3 σ w F a hc _ _ fun r aw1 σ1 w1 F1 v ⟨hr,haw⟩ hcur hrel=>?_);subst hr haw hid;rw [hd];have hc1:=hcur.putA hrel tc;have hid:(aw++[Ob.mp (List.map ek (List.map Prod.fst ys)) (List.map ev (List.map Prod.snd ys))])[aw.length]?=some (Ob.mp (List.map ek (List.map Prod.fst ys)) (List.map ev (List.map Prod.snd ys))):=by simp
  cases hrel with
  | mpr _ r hσ =>
   obtain ⟨g,es,clock,hv,hgm,hk,hvv,hF,hB⟩:=hcur.sim.obj _ _ _ hid hσ;cases hv;refine f8 rfl (f9 (by rw [hcur.slot h0];exact run_range_map w1 mt kt et g es clock hm hgm)) ?_;have hgl:g<w1.heap.size:=by
    rcases Nat.lt_or_ge g w1.heap.size with h | h
    ·exact h
    ·simp [Array.getElem?_eq_none h] at hgm
   have hold:∀ b,b<w1.heap.size->(w1.alloc (.mapIter (some g) clock #[] clock)).heap[b]?=w1.heap[b]?:=fun b hb=>by show (w1.heap.push _)[b]?=_;rw [Array.getElem?_push];simp [Nat.ne_of_lt hb]
   have hsz:(w1.alloc (.mapIter (some g) clock #[] clock)).heap.size=w1.heap.size+1:=by show (w1.heap.push _).size=_;simp
   have hnew:(w1.alloc (.mapIter (some g) clock #[] clock)).heap[w1.heap.size]?=some (.mapIter (some g) clock #[] clock):=heap_alloc_new ..;generalize hW2:w1.alloc (.mapIter (some g) clock #[] clock)=W at hold hsz hnew;have hc2:=hc1.step (hcur.sim.grow (fun _ h=>h) (fun _ h=>.inl h) (fun b hb=>by have:=hcur.sim.lt b hb;omega) hold) (.grow (fun _ h=>h) (fun _ h=>.inl h) (by rw [<- hW2];rfl) (by rw [<- hW2];rfl) (by rw [<- hW2];exact drO) (by omega) hold);have hc3:=hc2.putA (.cst (.pointer (some ⟨w1.heap.size,0,none⟩))) ti;have hc4:=hc3.step (hc3.sim.kill aw.length) (Mv.kill aw.length);have hdof:∀ b,Dof ((aw++[Ob.mp (List.map ek (List.map Prod.fst ys)) (List.map ev (List.map Prod.snd ys))]).set aw.length .dead) σ1 b->b<w1.heap.size/\b≠g:=fun b hb=>by obtain ⟨k,o,v,hne,ho1,hl,hv1,hbk⟩:=hb.kill;exact ⟨hcur.sim.lt_own ⟨k,o,v,ho1,hl,hv1,hbk⟩,fun e=>hcur.sim.sep k aw.length o _ v _ g hne ho1 hid hl rfl hv1 hσ (e▸hbk) rfl⟩
   rw [show (aw++[Ob.mp (List.map ek (List.map Prod.fst ys)) (List.map ev (List.map Prod.snd ys))]).set aw.length .dead=aw++[.dead] by simp] at hc4 hdof;obtain ⟨σ6,hc6⟩:=hc4.here.weak hc4.sim.len (by show Weak (aw++[Ob.dead]).length _ _ _ _;rw [zc];exact hW _);have hr6:=Bs.mv (b:=w1.heap.size) (aw:=aw++[.dead]) (σ:=σ1) (w:=W) (F:=F1) ⟨by omega,fun h=>by have:=hcur.sim.lt _ h;omega,fun h=>by have:=(hdof _ h).1;omega⟩ hc6.mv;have hb6:=Bs.mv (b:=g) (aw:=aw++[.dead]) (σ:=σ1) (w:=W) (F:=F1) ⟨by omega,hF,fun h=>(hdof _ h).2 rfl⟩ hc6.mv;have hkl:es.toList.length=ys.length:=by have:=hk.1;simpa using this
   refine wp_block (wp_mono (tp (Q:=dc b Q) (Z:=es.toList.zip ys) (es:=es) (clock:=clock) (bm:=g) (r:=w1.heap.size) (by rw [List.map_fst_zip];omega) (fun z hz=>?_) hB hA hi h1 h2 d1 d2 d3 h6 (fun ptr zs hp=>?_) rfl (hc4.thence hc6) hr6.1 hb6.1 (by omega) hnew ((hold g hgl).trans hgm) (by have:=hcur.mv.size;omega)) ?_)
   ·obtain ⟨j,hj⟩:=List.mem_iff_getElem?.1 hz;rw [List.getElem?_zip_eq_some] at hj;intro σ0 w0 F0;exact ⟨hek _ _ _ _ _ _ _ _ (hk.2 j (ek z.2.1) z.1.key (by simp [hj.2]) (by simp only [zb,hj.1,zR])),hev _ _ _ _ _ _ _ _ (hvv.2 j (ev z.2.2) z.1.val (by simp [hj.2]) (by simp only [zb,hj.1,zR]))⟩
   ·simp only [dc,if_pos];exact hQ ptr zs (by rwa [List.map_snd_zip (by omega)] at hp)
   ·rintro e a' w' ⟨fr',aw',σ',F',hq,hcur⟩;cases e with
    | exit id' =>
     simp only [Exit.inBlock,dc] at hq ⊢;split
     ·rename_i he;rw [if_pos he] at hq;exact ⟨fr',aw',σ',F',hq,hcur⟩
     ·rename_i he;rw [if_neg he] at hq;exact ⟨fr',aw',σ',F',hq,hcur⟩
    | _=>exact ⟨fr',aw',σ',F',hq,hcur⟩⟩
end
end
section
open Go.RowKit
section
variable {P:Program} {N n:Nat} {aw:List Ob} {l:List (Nat × AV)}
def RM {κ ν:Type} (n N:Nat) (L:Value->List (κ × ν)->List (Nat × AV)) (A:List (κ × ν)->List Ob) (ptr:Value) (zs:List (κ × ν)):Exit->List AV->List Ob->Prop:=fun e fr aw=>e=.normal/\Weak N fr aw (mkA n (L ptr zs)) (A zs)
theorem rngM {κ ν:Type} {ek:κ->AV} {ev:ν->AV} {st:List Fr} (L:Value->List (κ × ν)->List (Nat × AV)) (A:List (κ × ν)->List Ob) {Q:Exit->List AV->List Ob->Prop} (ys:List (κ × ν)) {M:Nat} (id:Nat)
  (hek:∀ k v σ w F σ' w' F',Rel σ w F (ek k) v->Rel σ' w' F' (ek k) v) (hev:∀ k v σ w F σ' w' F',Rel σ w F (ev k) v->Rel σ' w' F' (ev k) v)
  {b b1 i4 i5 i6 tn te ti tE tc:Nat} {mt kt et ty0 ty1 ty2 ty3:TypeId} {ps0 ps1 ps2 ps3:String} {af0 af1 af2 af3:Array Edge} {os:List Oper} {R7:Code} {o1:Oper}
  (hg:o1.guard=none) (hd:o1.dst=some tc) (hm:P.underlying mt=some (.map kt et)) (hid:aw.length=id)
  (ho:OP P M o1 (mkA n l) aw fun r aw1=>r=.mpr id/\aw1=aw++[.mp (List.map ek (List.map Prod.fst ys)) (List.map ev (List.map Prod.snd ys))])
  (hA:∀ zs,(A zs).length=id+1) (hi:∀ ptr zs,evA n (L ptr zs) (.tmp ti)=.cst ptr) (hn:tc<n/\tn<n/\te<n/\tn≠ti/\te≠ti/\te≠tn)
  (hW:∀ ptr,Weak (id+1) (mkA n ((ti,.cst ptr)::(tc,.mpr id)::l)) (aw++[.dead]) (mkA n (L ptr [])) (A []))
  (h6:∀ ptr zs k v,RS P (id+1) (⟨some tE,.entry (.tmp ti),ty3,ps3,af3,none⟩::os).toArray os (qs P (id+1) [.sq R7] (RM n (id+1) L A ptr (zs++[(k,v)])) .normal)
   (mkA n ((tE,.tup [ek k,ev v])::(te,.bool true)::(tn,.tup [.bool true,ek k,ev v])::L ptr zs)) (A zs))
  (hQ:∀ ptr zs,zs.Perm ys->qs P M st Q .normal (mkA n ((te,.bool false)::(tn,.tup [.bool false])::L ptr zs)) (A zs)) :
  T P M (.seq (.region i4 (List.toArray [o1,⟨some ti,.range mt (.tmp tc),ty0,ps0,af0,none⟩]) false) (.block b (.loop (.seq (.region i5 (List.toArray [⟨some tn,.next (.tmp ti) false,ty1,ps1,af1,none⟩,⟨some te,.extract (.tmp tn) 0,ty2,ps2,af2,none⟩]) false) (.seq (.cond (.tmp te) .skip (.exit b)) (.block b1 (.seq (.region i6 (⟨some tE,.entry (.tmp ti),ty3,ps3,af3,none⟩::os).toArray false) R7))))))) (qs P M st Q) (mkA n l) aw :=
 T.rangeM ys hek hev hg hd hm hid ho hA hi hn.1 hn.2.1 hn.2.2.1 hn.2.2.2.1 hn.2.2.2.2.1 hn.2.2.2.2.2 hW h6 hQ
theorem xh (s:List UInt8) (v:Value) (σ:List Value) (w:World) (F:Nat->Prop) (σ':List Value) (w':World) (F':Nat->Prop) (h:Rel σ w F (.str s) v):Rel σ' w' F' (.str s) v:=by cases h;exact .str _
theorem xi (q:IntKind) (i:Int) (v:Value) (σ:List Value) (w:World) (F:Nat->Prop) (σ':List Value) (w':World) (F':Nat->Prop) (h:Rel σ w F (.int q i) v):Rel σ' w' F' (.int q i) v:=by cases h;exact .int _ _
theorem wkC {aw':List Ob} (t:Nat) (ρ:List Nat) (c:Nat) {v:Value} {l':List (Nat × AV)} (h:mpF ρ l' l fun bs es=>mpOs ρ aw ρ aw' fun bs' es'=>(bs,bs')=(es,es')) (hv:lkA l t=.cst v:=by rfl) [g:GoodF l'] [g':GoodOs aw'] (hc:aw.length=c:=by rfl)
  (h1:ρ.Nodup:=by decide) (h2:∀ k,k<N->ρ[k]?=some k:=by decide):Weak N (mkA n l) aw (mkA n ((t,.cst v)::l')) aw':=by
 obtain ⟨bs,es,h,h3⟩:=lB h
 obtain ⟨bs',es',h,h4⟩:=fb h
 injection h with e1 e2
 exact Weak.mkN [] ρ h1 h2 rfl ⟨by rw [hv];exact fun σ w F u hr σ' _=>by (cases hr;exact .cst _),h3 g.out e1⟩ (h4 g'.out e2)
end
end
section
open Go.RowKit Go.Shelf
set_option maxRecDepth 100000
set_option maxHeartbeats 4000000
def tR:Go.Shelf.Ren:=⟨fun n=>match n with | 119=>90 | 129=>96 | 137=>89 | 138=>57 | 143=>58 | 146=>9 | 152=>61 | 153=>39 | 171=>19 | 172=>40 | 173=>22 | 174=>21 | 195=>85 | 197=>86 | 205=>94 | 217=>81 | 218=>87 | 219=>55 | 221=>32 | 224=>83 | 225=>82 | 226=>62 | 227=>63 | 228=>64 | 243=>41 | 244=>65 | 245=>44 | 246=>45 | 247=>43 | 260=>108 | 266=>106 | 267=>84 | 268=>56 | 279=>68 | 280=>69 | 281=>70 | 282=>71 | 283=>72 | 284=>73 | 285=>74 | 286=>75 | 287=>67 | 314=>107 | 316=>93 | 317=>95 | 318=>97 | 319=>98 | 320=>99 | 321=>91 | 322=>92 | 337=>110 | 338=>111 | _=>0,fun n=>match n with | 0=>0 | 2=>2 | 3=>3 | 4=>4 | 5=>5 | 9=>9 | 20=>20 | 21=>21 | 31=>32 | 37=>91 | 46=>111 | 51=>144 | 53=>108 | 75=>57 | 76=>84 | 80=>96 | 85=>58 | 105=>133 | 116=>102 | 117=>103 | 119=>164 | 124=>136 | 127=>130 | 138=>166 | 139=>167 | 143=>158 | 145=>160 | 146=>155 | 167=>107 | 168=>112 | 171=>115 | 173=>118 | 175=>109 | 210=>140 | 212=>143 | 213=>145 | 232=>168 | 233=>169 | _=>0,fun n=>match n with | 1=>0 | 3=>4 | 4=>5 | 15=>1 | 16=>2 | 17=>3 | 18=>6 | 19=>7 | _=>0⟩
theorem tS:Lays.n146 Tryz.prog tR where
 mixed:=by kernel_rfl
 f138:=by kernel_rfl
 f143:=by kernel_rfl
 f146:=by kernel_rfl
 f195:=by kernel_rfl
 f197:=by kernel_rfl
 f217:=by kernel_rfl
 f218:=by kernel_rfl
 f219:=by kernel_rfl
 f221:=by kernel_rfl
 f224:=by kernel_rfl
 f225:=by kernel_rfl
 f260:=by kernel_rfl
 f266:=by kernel_rfl
 f267:=by kernel_rfl
 f268:=by kernel_rfl
 f314:=by kernel_rfl
 t0:=by kernel_rfl
 a0:=fun w=>by kernel_rfl
 z0:=fun w=>by kernel_rfl
 v0:=fun w=>by kernel_rfl
 t3:=by kernel_rfl
 a3:=fun w=>by kernel_rfl
 z3:=fun w=>by kernel_rfl
 v3:=fun w=>by kernel_rfl
 t4:=by kernel_rfl
 a4:=fun w=>by kernel_rfl
 z4:=fun w=>by kernel_rfl
 v4:=fun w=>by kernel_rfl
 t5:=by kernel_rfl
 a5:=fun w=>by kernel_rfl
 z5:=fun w=>by kernel_rfl
 v5:=fun w=>by kernel_rfl
 t9:=by kernel_rfl
 a9:=fun w=>by kernel_rfl
 z9:=fun w=>by kernel_rfl
 v9:=fun w=>by kernel_rfl
 t21:=by kernel_rfl
 a21:=fun w=>by kernel_rfl
 z21:=fun w=>by kernel_rfl
 v21:=fun w=>by kernel_rfl
 t31:=by kernel_rfl
 a31:=fun w=>by kernel_rfl
 z31:=fun w=>by kernel_rfl
 v31:=fun w=>by kernel_rfl
 t46:=by kernel_rfl
 a46:=fun w=>by kernel_rfl
 z46:=fun w=>by kernel_rfl
 v46:=fun w=>by kernel_rfl
 t51:=by kernel_rfl
 a51:=fun w=>by kernel_rfl
 z51:=fun w=>by kernel_rfl
 v51:=fun w=>by kernel_rfl
 t105:=by kernel_rfl
 a105:=fun w=>by kernel_rfl
 z105:=fun w=>by kernel_rfl
 v105:=fun w=>by kernel_rfl
 t119:=by kernel_rfl
 a119:=fun w=>by kernel_rfl
 z119:=fun w=>by kernel_rfl
 t138:=by kernel_rfl
 a138:=fun w=>by kernel_rfl
 z138:=fun w=>by kernel_rfl
 v138:=fun w=>by kernel_rfl
 t139:=by kernel_rfl
 a139:=fun w=>by kernel_rfl
 z139:=fun w=>by kernel_rfl
 v139:=fun w=>by kernel_rfl
 t146:=by kernel_rfl
 a146:=fun w=>by kernel_rfl
 z146:=fun w=>by kernel_rfl
 v146:=fun w=>by kernel_rfl
 g1:=by kernel_rfl
 g3:=by kernel_rfl
 g4:=by kernel_rfl
theorem tAC:LaysC.n172 Tryz.prog tR where
 mixed:=by kernel_rfl
 f129:=by kernel_rfl
 f171:=by kernel_rfl
 f172:=by kernel_rfl
 f205:=by kernel_rfl
 f243:=by kernel_rfl
 f244:=by kernel_rfl
 f245:=by kernel_rfl
 f246:=by kernel_rfl
 f247:=by kernel_rfl
 f279:=by kernel_rfl
 f280:=by kernel_rfl
 f281:=by kernel_rfl
 f282:=by kernel_rfl
 f283:=by kernel_rfl
 f284:=by kernel_rfl
 f285:=by kernel_rfl
 f286:=by kernel_rfl
 f287:=by kernel_rfl
 f316:=by kernel_rfl
 f317:=by kernel_rfl
 f318:=by kernel_rfl
 f319:=by kernel_rfl
 f320:=by kernel_rfl
 f321:=by kernel_rfl
 f322:=by kernel_rfl
 f337:=by kernel_rfl
 f338:=by kernel_rfl
 t0:=by kernel_rfl
 a0:=fun w=>by kernel_rfl
 z0:=fun w=>by kernel_rfl
 v0:=fun w=>by kernel_rfl
 t2:=by kernel_rfl
 a2:=fun w=>by kernel_rfl
 z2:=fun w=>by kernel_rfl
 v2:=fun w=>by kernel_rfl
 t3:=by kernel_rfl
 a3:=fun w=>by kernel_rfl
 z3:=fun w=>by kernel_rfl
 v3:=fun w=>by kernel_rfl
 t4:=by kernel_rfl
 a4:=fun w=>by kernel_rfl
 z4:=fun w=>by kernel_rfl
 v4:=fun w=>by kernel_rfl
 t5:=by kernel_rfl
 a5:=fun w=>by kernel_rfl
 z5:=fun w=>by kernel_rfl
 v5:=fun w=>by kernel_rfl
 t9:=by kernel_rfl
 a9:=fun w=>by kernel_rfl
 z9:=fun w=>by kernel_rfl
 v9:=fun w=>by kernel_rfl
 t20:=by kernel_rfl
 a20:=fun w=>by kernel_rfl
 z20:=fun w=>by kernel_rfl
 v20:=fun w=>by kernel_rfl
 t21:=by kernel_rfl
 a21:=fun w=>by kernel_rfl
 z21:=fun w=>by kernel_rfl
 v21:=fun w=>by kernel_rfl
 t37:=by kernel_rfl
 a37:=fun w=>by kernel_rfl
 z37:=fun w=>by kernel_rfl
 v37:=fun w=>by kernel_rfl
 t46:=by kernel_rfl
 a46:=fun w=>by kernel_rfl
 z46:=fun w=>by kernel_rfl
 v46:=fun w=>by kernel_rfl
 t51:=by kernel_rfl
 a51:=fun w=>by kernel_rfl
 z51:=fun w=>by kernel_rfl
 v51:=fun w=>by kernel_rfl
 t53:=by kernel_rfl
 a53:=fun w=>by kernel_rfl
 z53:=fun w=>by kernel_rfl
 v53:=fun w=>by kernel_rfl
 t75:=by kernel_rfl
 a75:=fun w=>by kernel_rfl
 z75:=fun w=>by kernel_rfl
 v75:=fun w=>by kernel_rfl
 t76:=by kernel_rfl
 a76:=fun w=>by kernel_rfl
 z76:=fun w=>by kernel_rfl
 v76:=fun w=>by kernel_rfl
 t85:=by kernel_rfl
 a85:=fun w=>by kernel_rfl
 z85:=fun w=>by kernel_rfl
 v85:=fun w=>by kernel_rfl
 t127:=by kernel_rfl
 a127:=fun w=>by kernel_rfl
 z127:=fun w=>by kernel_rfl
 v127:=fun w=>by kernel_rfl
 t143:=by kernel_rfl
 a143:=fun w=>by kernel_rfl
 z143:=fun w=>by kernel_rfl
 v143:=fun w=>by kernel_rfl
 t145:=by kernel_rfl
 a145:=fun w=>by kernel_rfl
 z145:=fun w=>by kernel_rfl
 v145:=fun w=>by kernel_rfl
 t167:=by kernel_rfl
 a167:=fun w=>by kernel_rfl
 z167:=fun w=>by kernel_rfl
 v167:=fun w=>by kernel_rfl
 t168:=by kernel_rfl
 a168:=fun w=>by kernel_rfl
 z168:=fun w=>by kernel_rfl
 v168:=fun w=>by kernel_rfl
 t171:=by kernel_rfl
 a171:=fun w=>by kernel_rfl
 z171:=fun w=>by kernel_rfl
 v171:=fun w=>by kernel_rfl
 t173:=by kernel_rfl
 a173:=fun w=>by kernel_rfl
 z173:=fun w=>by kernel_rfl
 v173:=fun w=>by kernel_rfl
 t175:=by kernel_rfl
 a175:=fun w=>by kernel_rfl
 z175:=fun w=>by kernel_rfl
 v175:=fun w=>by kernel_rfl
 t210:=by kernel_rfl
 a210:=fun w=>by kernel_rfl
 z210:=fun w=>by kernel_rfl
 v210:=fun w=>by kernel_rfl
 t212:=by kernel_rfl
 a212:=fun w=>by kernel_rfl
 z212:=fun w=>by kernel_rfl
 v212:=fun w=>by kernel_rfl
 t213:=by kernel_rfl
 a213:=fun w=>by kernel_rfl
 z213:=fun w=>by kernel_rfl
 t232:=by kernel_rfl
 a232:=fun w=>by kernel_rfl
 z232:=fun w=>by kernel_rfl
 v232:=fun w=>by kernel_rfl
 t233:=by kernel_rfl
 a233:=fun w=>by kernel_rfl
 z233:=fun w=>by kernel_rfl
 v233:=fun w=>by kernel_rfl
 g15:=by kernel_rfl
 g16:=by kernel_rfl
 g17:=by kernel_rfl
 g18:=by kernel_rfl
 g19:=by kernel_rfl
 t80:=by kernel_rfl
 a80:=fun w=>by kernel_rfl
 z80:=fun w=>by kernel_rfl
 v80:=fun w=>by kernel_rfl
 i0:=by kernel_rfl
 i2:=by kernel_rfl
 i3:=by kernel_rfl
 i4:=by kernel_rfl
 i5:=by kernel_rfl
 i9:=by kernel_rfl
 i20:=by kernel_rfl
 i21:=by kernel_rfl
 i37:=by kernel_rfl
 i46:=by kernel_rfl
 i51:=by kernel_rfl
 i53:=by kernel_rfl
 i75:=by kernel_rfl
 i76:=by kernel_rfl
 i80:=by kernel_rfl
 i85:=by kernel_rfl
 i127:=by kernel_rfl
 i143:=by kernel_rfl
 i145:=by kernel_rfl
 i167:=by kernel_rfl
 i168:=by kernel_rfl
 i171:=by kernel_rfl
 i173:=by kernel_rfl
 i175:=by kernel_rfl
 i210:=by kernel_rfl
 i212:=by kernel_rfl
 i232:=by kernel_rfl
 i233:=by kernel_rfl
 m15:=by kernel_rfl
 m16:=by kernel_rfl
 m17:=by kernel_rfl
 m18:=by kernel_rfl
 m19:=by kernel_rfl
 c0:=by kernel_rfl
 c2:=by kernel_rfl
 c3:=by kernel_rfl
 c4:=by kernel_rfl
 c5:=by kernel_rfl
 c9:=by kernel_rfl
 c20:=by kernel_rfl
 c21:=by kernel_rfl
 c37:=by kernel_rfl
 c46:=by kernel_rfl
 c51:=by kernel_rfl
 c53:=by kernel_rfl
 c75:=by kernel_rfl
 c76:=by kernel_rfl
 c80:=by kernel_rfl
 c85:=by kernel_rfl
 c127:=by kernel_rfl
 c143:=by kernel_rfl
 c145:=by kernel_rfl
 c167:=by kernel_rfl
 c168:=by kernel_rfl
 c171:=by kernel_rfl
 c173:=by kernel_rfl
 c175:=by kernel_rfl
 c210:=by kernel_rfl
 c212:=by kernel_rfl
 c213:=by kernel_rfl
 c232:=by kernel_rfl
 c233:=by kernel_rfl
theorem tX:Lays.n153 Tryz.prog tR where
 mixed:=by kernel_rfl
 f119:=by kernel_rfl
 f137:=by kernel_rfl
 f152:=by kernel_rfl
 f153:=by kernel_rfl
 f217:=by kernel_rfl
 f224:=by kernel_rfl
 f225:=by kernel_rfl
 f226:=by kernel_rfl
 f227:=by kernel_rfl
 f228:=by kernel_rfl
 f266:=by kernel_rfl
 t0:=by kernel_rfl
 a0:=fun w=>by kernel_rfl
 z0:=fun w=>by kernel_rfl
 v0:=fun w=>by kernel_rfl
 t3:=by kernel_rfl
 a3:=fun w=>by kernel_rfl
 z3:=fun w=>by kernel_rfl
 v3:=fun w=>by kernel_rfl
 t4:=by kernel_rfl
 a4:=fun w=>by kernel_rfl
 z4:=fun w=>by kernel_rfl
 v4:=fun w=>by kernel_rfl
 t5:=by kernel_rfl
 a5:=fun w=>by kernel_rfl
 z5:=fun w=>by kernel_rfl
 v5:=fun w=>by kernel_rfl
 t9:=by kernel_rfl
 a9:=fun w=>by kernel_rfl
 z9:=fun w=>by kernel_rfl
 v9:=fun w=>by kernel_rfl
 t21:=by kernel_rfl
 a21:=fun w=>by kernel_rfl
 z21:=fun w=>by kernel_rfl
 v21:=fun w=>by kernel_rfl
 t46:=by kernel_rfl
 a46:=fun w=>by kernel_rfl
 z46:=fun w=>by kernel_rfl
 v46:=fun w=>by kernel_rfl
 t116:=by kernel_rfl
 a116:=fun w=>by kernel_rfl
 z116:=fun w=>by kernel_rfl
 t117:=by kernel_rfl
 a117:=fun w=>by kernel_rfl
 z117:=fun w=>by kernel_rfl
 v117:=fun w=>by kernel_rfl
 t124:=by kernel_rfl
 a124:=fun w=>by kernel_rfl
 z124:=fun w=>by kernel_rfl
 v124:=fun w=>by kernel_rfl
theorem tF:LaysM.n173 Tryz.prog tR where
 mixed:=by kernel_rfl
 f129:=by kernel_rfl
 f173:=by kernel_rfl
 f246:=by kernel_rfl
 f283:=by kernel_rfl
 f284:=by kernel_rfl
 f285:=by kernel_rfl
 f286:=by kernel_rfl
 f317:=by kernel_rfl
 f318:=by kernel_rfl
 f319:=by kernel_rfl
 f320:=by kernel_rfl
 f337:=by kernel_rfl
 f338:=by kernel_rfl
 t0:=by kernel_rfl
 a0:=fun w=>by kernel_rfl
 z0:=fun w=>by kernel_rfl
 v0:=fun w=>by kernel_rfl
 t2:=by kernel_rfl
 a2:=fun w=>by kernel_rfl
 z2:=fun w=>by kernel_rfl
 v2:=fun w=>by kernel_rfl
 t3:=by kernel_rfl
 a3:=fun w=>by kernel_rfl
 z3:=fun w=>by kernel_rfl
 v3:=fun w=>by kernel_rfl
 t4:=by kernel_rfl
 a4:=fun w=>by kernel_rfl
 z4:=fun w=>by kernel_rfl
 v4:=fun w=>by kernel_rfl
 t5:=by kernel_rfl
 a5:=fun w=>by kernel_rfl
 z5:=fun w=>by kernel_rfl
 v5:=fun w=>by kernel_rfl
 t9:=by kernel_rfl
 a9:=fun w=>by kernel_rfl
 z9:=fun w=>by kernel_rfl
 v9:=fun w=>by kernel_rfl
 t20:=by kernel_rfl
 a20:=fun w=>by kernel_rfl
 z20:=fun w=>by kernel_rfl
 v20:=fun w=>by kernel_rfl
 t37:=by kernel_rfl
 a37:=fun w=>by kernel_rfl
 z37:=fun w=>by kernel_rfl
 v37:=fun w=>by kernel_rfl
 t46:=by kernel_rfl
 a46:=fun w=>by kernel_rfl
 z46:=fun w=>by kernel_rfl
 v46:=fun w=>by kernel_rfl
 t51:=by kernel_rfl
 a51:=fun w=>by kernel_rfl
 z51:=fun w=>by kernel_rfl
 v51:=fun w=>by kernel_rfl
 t53:=by kernel_rfl
 a53:=fun w=>by kernel_rfl
 z53:=fun w=>by kernel_rfl
 v53:=fun w=>by kernel_rfl
 t171:=by kernel_rfl
 a171:=fun w=>by kernel_rfl
 z171:=fun w=>by kernel_rfl
 v171:=fun w=>by kernel_rfl
 t173:=by kernel_rfl
 a173:=fun w=>by kernel_rfl
 z173:=fun w=>by kernel_rfl
 v173:=fun w=>by kernel_rfl
 t212:=by kernel_rfl
 a212:=fun w=>by kernel_rfl
 z212:=fun w=>by kernel_rfl
 v212:=fun w=>by kernel_rfl
 t213:=by kernel_rfl
 a213:=fun w=>by kernel_rfl
 z213:=fun w=>by kernel_rfl
 t232:=by kernel_rfl
 a232:=fun w=>by kernel_rfl
 z232:=fun w=>by kernel_rfl
 v232:=fun w=>by kernel_rfl
 t233:=by kernel_rfl
 a233:=fun w=>by kernel_rfl
 z233:=fun w=>by kernel_rfl
 v233:=fun w=>by kernel_rfl
 g17:=by kernel_rfl
 g18:=by kernel_rfl
 g19:=by kernel_rfl
 i0:=by kernel_rfl
 i2:=by kernel_rfl
 i3:=by kernel_rfl
 i4:=by kernel_rfl
 i5:=by kernel_rfl
 i9:=by kernel_rfl
 i20:=by kernel_rfl
 i37:=by kernel_rfl
 i46:=by kernel_rfl
 i51:=by kernel_rfl
 i53:=by kernel_rfl
 i171:=by kernel_rfl
 i173:=by kernel_rfl
 i212:=by kernel_rfl
 i232:=by kernel_rfl
 i233:=by kernel_rfl
 m17:=by kernel_rfl
 m18:=by kernel_rfl
 m19:=by kernel_rfl
theorem tP:LaysC.n174 Tryz.prog tR where
 mixed:=by kernel_rfl
 f129:=by kernel_rfl
 f171:=by kernel_rfl
 f174:=by kernel_rfl
 f205:=by kernel_rfl
 f243:=by kernel_rfl
 f245:=by kernel_rfl
 f246:=by kernel_rfl
 f247:=by kernel_rfl
 f279:=by kernel_rfl
 f280:=by kernel_rfl
 f281:=by kernel_rfl
 f282:=by kernel_rfl
 f283:=by kernel_rfl
 f284:=by kernel_rfl
 f285:=by kernel_rfl
 f286:=by kernel_rfl
 f287:=by kernel_rfl
 f316:=by kernel_rfl
 f317:=by kernel_rfl
 f318:=by kernel_rfl
 f319:=by kernel_rfl
 f320:=by kernel_rfl
 f321:=by kernel_rfl
 f322:=by kernel_rfl
 f337:=by kernel_rfl
 f338:=by kernel_rfl
 t0:=by kernel_rfl
 a0:=fun w=>by kernel_rfl
 z0:=fun w=>by kernel_rfl
 v0:=fun w=>by kernel_rfl
 t2:=by kernel_rfl
 a2:=fun w=>by kernel_rfl
 z2:=fun w=>by kernel_rfl
 v2:=fun w=>by kernel_rfl
 t3:=by kernel_rfl
 a3:=fun w=>by kernel_rfl
 z3:=fun w=>by kernel_rfl
 v3:=fun w=>by kernel_rfl
 t4:=by kernel_rfl
 a4:=fun w=>by kernel_rfl
 z4:=fun w=>by kernel_rfl
 v4:=fun w=>by kernel_rfl
 t5:=by kernel_rfl
 a5:=fun w=>by kernel_rfl
 z5:=fun w=>by kernel_rfl
 v5:=fun w=>by kernel_rfl
 t9:=by kernel_rfl
 a9:=fun w=>by kernel_rfl
 z9:=fun w=>by kernel_rfl
 v9:=fun w=>by kernel_rfl
 t20:=by kernel_rfl
 a20:=fun w=>by kernel_rfl
 z20:=fun w=>by kernel_rfl
 v20:=fun w=>by kernel_rfl
 t21:=by kernel_rfl
 a21:=fun w=>by kernel_rfl
 z21:=fun w=>by kernel_rfl
 v21:=fun w=>by kernel_rfl
 t37:=by kernel_rfl
 a37:=fun w=>by kernel_rfl
 z37:=fun w=>by kernel_rfl
 v37:=fun w=>by kernel_rfl
 t46:=by kernel_rfl
 a46:=fun w=>by kernel_rfl
 z46:=fun w=>by kernel_rfl
 v46:=fun w=>by kernel_rfl
 t51:=by kernel_rfl
 a51:=fun w=>by kernel_rfl
 z51:=fun w=>by kernel_rfl
 v51:=fun w=>by kernel_rfl
 t53:=by kernel_rfl
 a53:=fun w=>by kernel_rfl
 z53:=fun w=>by kernel_rfl
 v53:=fun w=>by kernel_rfl
 t75:=by kernel_rfl
 a75:=fun w=>by kernel_rfl
 z75:=fun w=>by kernel_rfl
 v75:=fun w=>by kernel_rfl
 t85:=by kernel_rfl
 a85:=fun w=>by kernel_rfl
 z85:=fun w=>by kernel_rfl
 v85:=fun w=>by kernel_rfl
 t127:=by kernel_rfl
 a127:=fun w=>by kernel_rfl
 z127:=fun w=>by kernel_rfl
 v127:=fun w=>by kernel_rfl
 t143:=by kernel_rfl
 a143:=fun w=>by kernel_rfl
 z143:=fun w=>by kernel_rfl
 v143:=fun w=>by kernel_rfl
 t145:=by kernel_rfl
 a145:=fun w=>by kernel_rfl
 z145:=fun w=>by kernel_rfl
 v145:=fun w=>by kernel_rfl
 t167:=by kernel_rfl
 a167:=fun w=>by kernel_rfl
 z167:=fun w=>by kernel_rfl
 v167:=fun w=>by kernel_rfl
 t168:=by kernel_rfl
 a168:=fun w=>by kernel_rfl
 z168:=fun w=>by kernel_rfl
 v168:=fun w=>by kernel_rfl
 t171:=by kernel_rfl
 a171:=fun w=>by kernel_rfl
 z171:=fun w=>by kernel_rfl
 v171:=fun w=>by kernel_rfl
 t173:=by kernel_rfl
 a173:=fun w=>by kernel_rfl
 z173:=fun w=>by kernel_rfl
 v173:=fun w=>by kernel_rfl
 t175:=by kernel_rfl
 a175:=fun w=>by kernel_rfl
 z175:=fun w=>by kernel_rfl
 v175:=fun w=>by kernel_rfl
 t210:=by kernel_rfl
 a210:=fun w=>by kernel_rfl
 z210:=fun w=>by kernel_rfl
 v210:=fun w=>by kernel_rfl
 t212:=by kernel_rfl
 a212:=fun w=>by kernel_rfl
 z212:=fun w=>by kernel_rfl
 v212:=fun w=>by kernel_rfl
 t213:=by kernel_rfl
 a213:=fun w=>by kernel_rfl
 z213:=fun w=>by kernel_rfl
 t232:=by kernel_rfl
 a232:=fun w=>by kernel_rfl
 z232:=fun w=>by kernel_rfl
 v232:=fun w=>by kernel_rfl
 t233:=by kernel_rfl
 a233:=fun w=>by kernel_rfl
 z233:=fun w=>by kernel_rfl
 v233:=fun w=>by kernel_rfl
 g15:=by kernel_rfl
 g16:=by kernel_rfl
 g17:=by kernel_rfl
 g18:=by kernel_rfl
 g19:=by kernel_rfl
 t80:=by kernel_rfl
 a80:=fun w=>by kernel_rfl
 z80:=fun w=>by kernel_rfl
 v80:=fun w=>by kernel_rfl
 i0:=by kernel_rfl
 i2:=by kernel_rfl
 i3:=by kernel_rfl
 i4:=by kernel_rfl
 i5:=by kernel_rfl
 i9:=by kernel_rfl
 i20:=by kernel_rfl
 i21:=by kernel_rfl
 i37:=by kernel_rfl
 i46:=by kernel_rfl
 i51:=by kernel_rfl
 i53:=by kernel_rfl
 i75:=by kernel_rfl
 i80:=by kernel_rfl
 i85:=by kernel_rfl
 i127:=by kernel_rfl
 i143:=by kernel_rfl
 i145:=by kernel_rfl
 i167:=by kernel_rfl
 i168:=by kernel_rfl
 i171:=by kernel_rfl
 i173:=by kernel_rfl
 i175:=by kernel_rfl
 i210:=by kernel_rfl
 i212:=by kernel_rfl
 i232:=by kernel_rfl
 i233:=by kernel_rfl
 m15:=by kernel_rfl
 m16:=by kernel_rfl
 m17:=by kernel_rfl
 m18:=by kernel_rfl
 m19:=by kernel_rfl
 c0:=by kernel_rfl
 c2:=by kernel_rfl
 c3:=by kernel_rfl
 c4:=by kernel_rfl
 c5:=by kernel_rfl
 c9:=by kernel_rfl
 c20:=by kernel_rfl
 c21:=by kernel_rfl
 c37:=by kernel_rfl
 c46:=by kernel_rfl
 c51:=by kernel_rfl
 c53:=by kernel_rfl
 c75:=by kernel_rfl
 c80:=by kernel_rfl
 c85:=by kernel_rfl
 c127:=by kernel_rfl
 c143:=by kernel_rfl
 c145:=by kernel_rfl
 c167:=by kernel_rfl
 c168:=by kernel_rfl
 c171:=by kernel_rfl
 c173:=by kernel_rfl
 c175:=by kernel_rfl
 c210:=by kernel_rfl
 c212:=by kernel_rfl
 c213:=by kernel_rfl
 c232:=by kernel_rfl
 c233:=by kernel_rfl
theorem tA:Lays.n172 Tryz.prog tR:=tAC.toM.ton172
theorem uP (p0 p1:List UInt8) (r:List (List UInt8)) (h:iv p0 p1=some r):Fn Tryz.prog 9 [.str p0,.str p1] (.sl (List.map aa r)) :=
 sa (ρ:=tR) (callable Tryz.func9 rfl (by kernel_rfl)) tS (by kernel_rfl) p0 p1 r h
theorem vH (p0:List UInt8) (r:Int) (h:atoiA p0=some r):Fn Tryz.prog 40 [.str p0] (.tup [.int .i64 r,.nili]) :=
 tq (ρ:=tR) (callable Tryz.func40 rfl (by kernel_rfl)) tAC p0 r h
theorem ev_of (w:World) (F:Nat->Prop) (h:Gd w F):EvAt w (tR.g 15)/\EvAt w (tR.g 16):=by
 have key:∀ g,g=1∨g=2->EvAt w g:=fun g hg=>by obtain ⟨_,o,h1,cs,t,fz,rfl,_,h3⟩:=h g (by rcases hg with rfl | rfl<;>simp [gvs]);obtain ⟨ev,h4,h5⟩:=h3 hg;exact ⟨ev,by simp [World.cell?,h1,h4],h5⟩
 exact ⟨key _ (.inl rfl),key _ (.inr rfl)⟩
theorem sI (p0 p1:List UInt8) (r:Int) (h:ir p0 p1=some r):Fn Tryz.prog 39 [.str p0,.str p1] (.int .i64 r) :=
 rP (ρ:=tR) (callable Tryz.func39 rfl (by kernel_rfl)) tX (by kernel_rfl) p0 p1 r h
theorem vk (p0:List UInt8) (r:Int) (h:atoiE p0=some r):Fn Tryz.prog 40 [.str p0] (.tup [.int .i64 r,.ifc 112 .any]) :=
 t7 (ρ:=tR) (callable Tryz.func40 rfl (by kernel_rfl)) tAC ev_of p0 r h
theorem tz (p0:List UInt8) (r:Int) (h:iB p0=some r):Fn Tryz.prog 21 [.str p0,.int .i64 10,.int .i64 64] (.tup [.int .i64 r,.nili]) :=
 si (ρ:=tR) (callable Tryz.func21 rfl (by kernel_rfl)) tP p0 r h
theorem ug (p0:List UInt8) (r:Int) (h:f3 p0=some r):Fn Tryz.prog 21 [.str p0,.int .i64 10,.int .i64 64] (.tup [.int .i64 r,.ifc 112 .any]) :=
 sD (ρ:=tR) (callable Tryz.func21 rfl (by kernel_rfl)) tP ev_of p0 r h
theorem tW (p0:Int) (r:List UInt8) (h:itoaS p0=some r):Fn Tryz.prog 22 [.int .i64 p0,.int .i64 10] (.str r) :=
 sv (ρ:=tR) (callable Tryz.func22 rfl (by kernel_rfl)) tF (fun w F h=>pR h) p0 r h
attribute [local go_sem] Oper.semAt_some
def AbB {β:Type} (B:Nat) (J:β->World->Prop):Prop:=∀ s W W' row,J s W->W.grownBy W' row->(∀ r,row=some r->r=B)->J s W'
def boxK (B m:Nat) (W W':World):Prop:=∀ k,B<=k->k<B+m->W'.heap[k]?=W.heap[k]?
theorem vG (n:Nat) (hn:1<=n) (b:UInt8) (s0:List UInt8) (hs0:s0.length<4294967281) (l B:Nat) (J:List (List UInt8)->World->Prop) (hJ:AbB B J)
  (hY:∀ pre x post W,aC b s0=pre++x::post->J pre W->YieldAt Fence.wide (n - 1) Tryz.prog l #[.string ⟨x.toArray⟩] W fun e W'=>e=.returned (.bool true)/\J (pre++[x]) W'/\boxK B 3 W W')
  (W:World) (h0:Boxed W B 9 (.string ⟨s0.toArray⟩)) (h1:Boxed W (B+1) 9 (.string ⟨#[b]⟩)) (h2:Boxed W (B+2) 3 (.int .i64 0)) (hj:J [] W) :
  CallsIn Fence.wide n Tryz.prog 112 #[.func (.yield l) #[] #[],.pointer (some ⟨B+1,0,none⟩),.pointer (some ⟨B,0,none⟩),.pointer (some ⟨B+2,0,none⟩)] W fun e W'=>(∃ v,e=.returned v)/\J (aC b s0) W':=by
 refine callsIn_of_wp Tryz.func112 rfl trivial ?_ rfl
 simp only [Tryz.ntmps112,zZ,y0,zj,Nat.reduceAdd,Nat.reduceSub,Array.replicate_succ,Array.replicate_zero,List.push_toArray,List.append_toArray,zN,zA]
 have hc1:=h1.cell
 have hc0:=h0.cell
 have hc2:=h2.cell
 gi_wp2
 gi_loopw [] (fun wr=>∃ pre s,aC b s0=pre++aC b s/\s.length<=s0.length/\Boxed wr B 9 (.string ⟨s.toArray⟩)/\Boxed wr (B+1) 9 (.string ⟨#[b]⟩)/\Boxed wr (B+2) 3 (.int .i64 0)/\J pre wr)
  (fun wr=>match wr.cell? ⟨B,0,none⟩ with | some (.string s)=>s.size | _=>0)
 case atStart=>exact ⟨[],s0,rfl,y5 _,h0,h1,h2,hj⟩
 case round =>
  obtain ⟨pre,s,hcut,hle,hb0,hb1,hb2,hJs⟩:=hrel
  have hd0:=hb0.cell
  have hd1:=hb1.cell
  have hd2:=hb2.cell
  have hf0:=hb0.frozen
  rcases oc s b with ⟨hneg,hno⟩ | ⟨p,q,rfl,hno,hix⟩
  ·obtain ⟨fn,tmps,assign,body,hy,hR⟩:=hY pre s [] _ (by rw [hcut,jH hno]) hJs
   gi_wp2_with (refine ⟨trivial,?_⟩;gi_at_call 58;refine (callsIn_wide.2 (Any.strings_Index_one (ρ:=tR) { tS with } ⟨s.toArray⟩ b _)).mono ?_;rintro e w' ⟨rfl,rfl⟩)
   refine hR.mono ?_
   rintro e W3 ⟨rfl,hJ3,_⟩
   gi_wp2
   go_end0
   exact ⟨⟨_,rfl⟩,by rw [hcut,jH hno];exact hJ3⟩
  ·have hlt:p.length<4294967281:=by simp at hle;omega
   have hI:∀ w,Calls Tryz.prog 58 #[.string ⟨(p++b::q).toArray⟩,.string ⟨#[b]⟩] w fun e w'=>e=.returned (.int .i64 p.length)/\w'=w:=fun w=>(Any.strings_Index_one (ρ:=tR) { tS with } ⟨(p++b::q).toArray⟩ b _).mono fun e w' ⟨h1,h2⟩=>⟨by rw [h1];simp [hix],h2⟩
   have hw:wrap64 (p.length:Int)=p.length:=by unfold wrap64;omega
   have hsz:(⟨(p++b::q).toArray⟩:ByteArray).size=p.length+(q.length+1):=by simp [ByteArray.size]
   obtain ⟨fn,tmps,assign,body,hy,hR⟩:=hY pre p (aC b q) _ (by rw [hcut,jQ q hno]) hJs
   have hpx:(⟨p.toArray⟩:ByteArray)=(⟨(p++b::q).toArray⟩:ByteArray).extract 0 p.length:=by apply ByteArray.ext;simp [ByteArray.data_extract]
   have hqx:(⟨(p++b::q).toArray⟩:ByteArray).extract (p.length+1) (p.length+(q.length+1))=⟨q.toArray⟩:=by apply ByteArray.ext;simp [ByteArray.data_extract];exact zm (by omega)
   rw [hpx] at hy
   gi_wp2_with (refine ⟨trivial,?_⟩;gi_at_call 58;refine (callsIn_wide.2 (hI _)).mono ?_;rintro e w' ⟨rfl,rfl⟩)
   refine hR.mono ?_
   rintro e W3 ⟨rfl,hJ3,hk3⟩
   have k0:Boxed W3 B 9 (.string ⟨(p++b::q).toArray⟩):=(hk3 B (y5 _) (by omega)).trans hb0
   have k1:Boxed W3 (B+1) 9 (.string ⟨#[b]⟩):=(hk3 (B+1) (by omega) (by omega)).trans hb1
   have k2:Boxed W3 (B+2) 3 (.int .i64 0):=(hk3 (B+2) (by omega) (by omega)).trans hb2
   have c0:=k0.cell
   have c1:=k1.cell
   have f0:=k0.frozen
   have hw1:wrap64 ((p.length:Int)+1)=p.length+1:=by unfold wrap64;omega
   gi_wp2
   go_roundw
   case rel =>
    exact ⟨pre++[p],q,by rw [hcut,jQ q hno];simp,by simp at hle;omega,k0.set _,k1.kept (grownBy_setCell' _ _ _) (by simp),k2.kept (grownBy_setCell' _ _ _) (by simp),hJ _ _ _ (some B) hJ3 (grownBy_setCell' _ _ _) (fun r e=>by cases e;rfl)⟩
   case measure =>
    rw [hd0,(k0.set (.string ⟨q.toArray⟩)).cell]
    simp [ByteArray.size]
    omega
theorem boxK.put {B m:Nat} {W W':World} (h:boxK B m W W') (l:Nat) (o:Obj) (hl:l<B∨B+m<=l):boxK B m W (W'.putObj l o):=fun k h1 h2=>(World.putObj_heap_other (by omega)).trans (h k h1 h2)
def bodyB (B D:Nat) (W:World) (K:World->Prop):Exit->Act->World->Prop:=fun e _ W'=>e=.normal/\boxK B 3 W W'/\boxK D 2 W W'/\K W'
theorem tH {P:Program} {α:Type} {n:Nat} {g:Operand} {ps:Array Tmp} {assign body:Code} {Q:Exit->Act->World->Prop} {a:Act} {w:World} {gf:Nat} {lb:Array Value} (h1:1<=n)
  (hg:a.eval g=.func (.func gf) #[] lb) (eg:∀ args w,(callFunc gf args).run P w=.ok (.enter gf args) w) (encs:α->Array Value) (hps:∀ x,(encs x).size=ps.size) (xs:List α) (B:Nat) (hB:B+3<=w.heap.size)
  (hseq:∀ (l:Nat) (J:List α->World->Prop) (W:World),AbB B J->boxK B 3 w W->(∀ pre x post W1,xs=pre++x::post->J pre W1->YieldAt Fence.wide (n - 1 - 1) P l (encs x) W1 fun e W'=>e=.returned (.bool true)/\J (pre++[x]) W'/\boxK B 3 W1 W') ->
   J [] W->CallsIn Fence.wide (n - 1) P gf (#[.func (.yield l) #[] #[]]++lb) W fun e W'=>(∃ v,e=.returned v)/\J xs W')
  (I:List α->World->Prop) (hI:∀ s W W' row,I s W->W.grownBy W' row->(∀ r,row=some r->r=B∨r=w.heap.size∨r=w.heap.size+1)->I s W') (h0:I [] w) (a1:α->Act)
  (hassign:∀ (l:Nat) (x:α) (W:World) (K:Act->World->Prop),K (a1 x) W->assign.wpIn (Fence.wide.inRound l) (n - 1 - 1) P (Exit.then K (fun _ _ _=>False)) { tmps:=(ps.zip (encs x)).foldl (fun t (p,v)=>t.setIfInBounds p v) a.tmps,defers:=[] } W)
  (hbody:∀ (l:Nat) (pre:List α) (x:α) (post:List α) (W:World),xs=pre++x::post->I pre W->w.heap.size+2<=W.heap.size->body.wpIn (Fence.wide.inRound l) (n - 1 - 1) P (bodyB B w.heap.size W (I (pre++[x]))) (a1 x) W)
  (hdone:∀ (W:World),I xs W->W.heap[w.heap.size]?=some (.deferred (some []))->Q .normal { a with defers:={ target:=.collected w.heap.size,args:=#[] }::a.defers } W) :
  (Code.rangeFunc g ps assign body).wpIn Fence.wide n P Q a w:=by
 refine wpIn_rangeFunc fun fn _=>?_
 obtain ⟨R,hR⟩:∃ R:LoopState->Go.Loop,R=fun st=>{ state:=st,pending:=none,fn,tmps:=a.tmps,params:=ps,assign,body,defers:=w.heap.size }:=⟨_,rfl⟩
 have hlay:(Instr.enterLoop fn a.tmps ps assign body Fence.wide.round).run P w=.ok (w.heap.size+1,[{ target:=.collected w.heap.size,args:=#[] }]) ((w.alloc (.deferred (some []))).alloc (.loop (R .ready))):=by rw [hR];exact run_enterLoop_outer _ _ _ _ _
 have hl:((w.alloc (.deferred (some []))).alloc (.loop (R .ready))).heap[w.heap.size+1]?=some (.loop (R .ready)):=by have:=World.alloc_heap_new (w.alloc (.deferred (some []))) (.loop (R .ready));rwa [World.size_alloc] at this
 have hd:((w.alloc (.deferred (some []))).alloc (.loop (R .ready))).heap[w.heap.size]?=some (.deferred (some [])):=(Below.heap_alloc _ _ _ (by simp)).trans (World.alloc_heap_new w _)
 have hi:I [] ((w.alloc (.deferred (some []))).alloc (.loop (R .ready))):=hI _ _ _ none (hI _ _ _ none h0 (World.grownBy_alloc _ _ _) (fun r e=>by cases e)) (World.grownBy_alloc _ _ _) (fun r e=>by cases e)
 have hbx:boxK B 3 w ((w.alloc (.deferred (some []))).alloc (.loop (R .ready))):=fun k _ h2=>(Below.heap_alloc _ _ _ (by simp;omega)).trans (Below.heap_alloc _ _ _ (by omega))
 generalize (w.alloc (.deferred (some []))).alloc (.loop (R .ready))=W1 at hlay hl hd hi hbx
 refine ⟨w.heap.size+1,_,W1,{ target:=.fn (.func gf) lb,args:=#[.func (.yield (w.heap.size+1)) #[] #[]] },W1,gf,#[.func (.yield (w.heap.size+1)) #[] #[]]++lb,W1,hlay,?_,fun _ _=>trivial,?_,fun _=>h1,?_⟩
 ·simp only [resolve,hg]
  simp [go_sem]
 ·simp [invoke,go_sem,eg]
 have put:∀ {pre:List α} {W:World} {l:Nat} {o:Obj} (o':Obj),I pre W->l=w.heap.size∨l=w.heap.size+1->I pre (W.putObj l o'):=fun o' h hl=>hI _ _ _ (some _) h (grownBy_putObj' _ _ o') (fun r e=>by cases e;omega)
 refine (hseq (w.heap.size+1) (fun pre W=>I pre W/\W.heap[w.heap.size+1]?=some (.loop (R .ready))/\W.heap[w.heap.size]?=some (.deferred (some []))) W1
  (fun s W W' row ⟨j1,j2,j3⟩ hgr hrow=>⟨hI _ _ _ row j1 hgr (fun r e=>.inl (hrow r e)),(hgr.block _ (zi.1 j2).1 (fun e=>by have:=hrow _ e.symm;omega)).trans j2,(hgr.block _ (zi.1 j3).1 (fun e=>by have:=hrow _ e.symm;omega)).trans j3⟩) hbx ?_ ⟨hi,hl,hd⟩).mono ?_
 ·rintro pre x post W hx ⟨j1,j2,j3⟩
  have hy:=run_yield (P:=P) (args:=encs x) j2 (by rw [hR];exact hps x)
  have hlt:=(zi.1 j2).1
  rw [hR] at hy
  refine ⟨fn,_,assign,body,hy,roundIn_of_wpIn trivial (hassign _ x W _ ⟨_,run_beginRound j2 (by rw [hR]),?_⟩)⟩
  refine wpIn_mono (hbody _ pre x post _ hx (put (o:=.loop (R .ready)) _ j1 (.inr rfl)) (by simp;omega)) ?_
  rintro e a3 W3 ⟨rfl,b1,b2,b3⟩
  have h3:W3.heap[w.heap.size+1]?=some (.loop { R .ready with state:=.busy }):=(b2 _ (by omega) (by omega)).trans (World.putObj_heap_same hlt)
  have h4:W3.heap[w.heap.size]?=some (.deferred (some [])):=(b2 _ (by omega) (by omega)).trans ((World.putObj_heap_other (by omega)).trans j3)
  have hlt3:=(zi.1 h3).1
  refine ⟨_,_,run_endRound none h3,rfl,⟨put (o:=.loop (R .ready)) _ b3 (.inr rfl),?_,(World.putObj_heap_other (by omega)).trans h4⟩,?_⟩
  ·rw [World.putObj_heap_same hlt3,hR];rfl
  ·exact (fun k h5 h6=>(World.putObj_heap_other (by omega)).trans ((b1 k h5 h6).trans (World.putObj_heap_other (by omega))))
 ·rintro e W2 ⟨⟨v,rfl⟩,j1,j2,j3⟩
  exact ⟨none,_,by rw [run_endLoop (P:=P) j2 (by rw [hR];simp),hR],hdone _ (put (o:=.loop (R .ready)) _ j1 (.inr rfl)) ((World.putObj_heap_other (by omega)).trans j3)⟩
theorem uX (w:World) (e:TypeId) (u:ByteArray):w.grownBy (Lib.bytesWorld w e u) none:=by
 refine ⟨?_,?_,?_,?_,fun b hb _=>?_⟩
 ·unfold Lib.bytesWorld World.freeze;split<;>rfl
 ·unfold Lib.bytesWorld World.freeze;split<;>rfl
 ·unfold Lib.bytesWorld World.freeze;split<;>rfl
 ·unfold Lib.bytesWorld World.freeze;simp
 ·unfold Lib.bytesWorld World.freeze;rw [if_neg (by decide)];show ((w.drew.alloc _).heap.modify w.heap.size _)[b]?=_;rw [zL,if_neg (by omega)];exact Below.heap_alloc w.drew _ b hb
theorem lf (n:Nat) (hn:1<=n) (t:List UInt8) (r:Int) (h:eu t=some r) (w:World):CallsIn Fence.wide n Tryz.prog 47 #[.string ⟨t.toArray⟩] w fun e w'=>e=.returned (.int .i64 r)/\∃ u,w'=Lib.bytesWorld w (tR.t 5) u:=by
  have ⟨hl, ha,h0,h100,hd⟩:t.length<=18/\Lib.atoi t=some r/\0<=r/\r<100/\Lib.decDigits r.toNat=t:=by
    unfold eu atoiS itoa100 at h;split at h
    · rename_i hl;cases ha:Lib.atoi t with
      | none=>rw [ha] at h;cases h
      | some m =>
        rw [ha] at h;simp only [yV] at h;split at h
        · cases h
        · split at h
          · rename_i h1 h2;simp only [yV] at h;split at h
            · cases h;exact ⟨hl,rfl,by omega,by omega,by assumption⟩
            · cases h
          · cases h
    · cases h
  obtain ⟨m,rfl⟩:=zV h0;have hi:∀ w,Calls Tryz.prog 19 #[.int .i64 m] w fun e w'=>e=.returned (.string ⟨t.toArray⟩)/\w'=w:=fun w=>by have:=Any.strconv_Itoa_small { iL with } m (by omega) w;rw [show Lib.decDigits m=t from hd] at this;exact this
  refine callsIn_of_wp Tryz.func47 rfl trivial ?_ rfl;simp only [Tryz.ntmps47,zZ,y0,zj,Nat.reduceAdd,Nat.reduceSub,Array.replicate_succ,Array.replicate_zero,List.push_toArray,List.append_toArray,zN,zA];gi_wp2_with (first | (refine ⟨trivial,?_⟩;gi_at_call 40;refine (callsIn_wide.2 (Any.strconv_Atoi tA ⟨t.toArray⟩ m (by simpa [ByteArray.size] using hl) (by simpa using ha) _)).mono ?_;rintro e w' ⟨rfl,u,rfl⟩) | (refine ⟨trivial,?_⟩;gi_at_call 19;refine (callsIn_wide.2 (hi _)).mono ?_;rintro e w' ⟨rfl,rfl⟩));go_ret;exact ⟨rfl,u,rfl⟩
theorem oq (b:UInt8):∀ s,(aC b s).length<=s.length+1
 | []=>y5 _
 | x::l=>by
  have ih:=oq b l;unfold aC;split
  ·simpa using ih
  ·split
   ·simp
   ·rename_i h;rw [h] at ih;simp at ih ⊢;omega
theorem qa:∀ {pre:List (List UInt8)} {x:List UInt8} {post:List (List UInt8)} {r:List Int},allT (pre++x::post)=some r->∃ y,eu x=some y
 | [],x,post,r,h=>by
  cases hx:eu x with
  | none=>simp [allT,hx] at h
  | some y=>exact ⟨y,rfl⟩
 | z::pre,x,post,r,h=>by
  simp only [zA,allT] at h;cases hz:eu z with
  | none=>simp [hz] at h
  | some y =>
   rw [hz] at h;simp only [yV,y8] at h;obtain ⟨r',h',_⟩:=h;exact qa h'
theorem nS {x:List UInt8} {y:Int} (hx:eu x=some y):∀ {pre:List (List UInt8)} {vs:List Int},allT pre=some vs->allT (pre++[x])=some (vs++[y])/\vs.length=pre.length
 | [],vs,h=>by cases h;exact ⟨by simp [allT,hx],rfl⟩
 | z::pre,vs,h=>by
  simp only [allT] at h;cases hz:eu z with
  | none=>simp [hz] at h
  | some k =>
   rw [hz] at h;simp only [yV,y8] at h;obtain ⟨r',h',rfl⟩:=h;have ih:=nS hx h';exact ⟨by simp [allT,hz,ih.1],by simp [ih.2]⟩
theorem iTI:(Tryz.prog.info? 3).map (fun i=>(i.zero,i.size,i.bytes))=some (some (.int .i64 0),1,8):=by kernel_rfl
theorem wX (n:Nat) (hn:3<=n) (s:List UInt8) (b:UInt8) (w:World):CallsIn Fence.wide n Tryz.prog 76 #[.string ⟨s.toArray⟩,.string ⟨#[b]⟩] w fun e w' =>
  e=.returned (.func (.func 112) #[] #[.pointer (some ⟨w.heap.size+1,0,none⟩),.pointer (some ⟨w.heap.size,0,none⟩),.pointer (some ⟨w.heap.size+2,0,none⟩)])/\w'=((w.alloc (.cells #[.string ⟨s.toArray⟩] 9)).alloc (.cells #[.string ⟨#[b]⟩] 9)).alloc (.cells #[.int .i64 0] 3):=by
 have hsp:∀ n,CallsIn Fence.wide n Tryz.prog 100 #[.string ⟨s.toArray⟩,.string ⟨#[b]⟩,.int .i64 0] w fun e w' =>
  e=.returned (.func (.func 112) #[] #[.pointer (some ⟨w.heap.size+1,0,none⟩),.pointer (some ⟨w.heap.size,0,none⟩),.pointer (some ⟨w.heap.size+2,0,none⟩)])/\w'=((w.alloc (.cells #[.string ⟨s.toArray⟩] 9)).alloc (.cells #[.string ⟨#[b]⟩] 9)).alloc (.cells #[.int .i64 0] 3):=fun n=>by
  refine callsIn_of_wp Tryz.func100 rfl trivial ?_ rfl
  simp only [Tryz.ntmps100,zZ,y0,zj,Nat.reduceAdd,Nat.reduceSub,Array.replicate_succ,Array.replicate_zero,List.push_toArray,List.append_toArray,zN,zA]
  gi_wp2
  go_ret
  exact ⟨by simp,rfl⟩
 have h1:1<=n:=by omega
 refine callsIn_of_wp Tryz.func76 rfl trivial ?_ rfl
 simp only [Tryz.ntmps76,zZ,y0,zj,Nat.reduceAdd,Nat.reduceSub,Array.replicate_succ,Array.replicate_zero,List.push_toArray,List.append_toArray,zN,zA]
 gi_wp2_with (refine ⟨trivial,?_⟩;gi_at_call 100;refine (hsp _).mono ?_;rintro e w' ⟨rfl,rfl⟩)
 go_ret
 exact ⟨rfl,rfl⟩
theorem jy {F:Fence} {n:Nat} {P:Program} {w w1:World} {o:Oper} {a:Act} {K:Act->World->Prop} {Q:Exit->Act->World->Prop} {s x:Operand} {t:TypeId} {v u v':Value}
  (hop:o.op=Op.call { callee:=Callee.builtin Builtin.append,args:=#[s,x],argTypes:=#[t,t] }) (hs:a.eval s=v) (hx:a.eval x=u) (_:o.guard=none) (hrun:(Builtin.append_ #[t,t] o.type #[v,u]).run P w=.ok v' w1) (hK:K (a.put o.dst v') w1):Oper.wpIn F n P o a w K Q:=by
 refine ⟨?_,?_⟩
 ·simp [Oper.about,hop,resolve,Target.leads,Sem.run_pure]
 ·rw [Oper.semAt_plain F _ _ (by rw [hop];intro c hc';cases hc')]
  simp [execOp,hop,resolve,invoke,builtin,hs,hx,hrun,Result.andThen]
  exact hK
theorem u0 {w:World} {b b':Nat} {e:TypeId} {size n:Nat} {v:Value} {xs:List Value} (hb:b'<=b) (h:w.ownsRow b e size v n xs):w.ownsRow b' e size v n xs :=
 ⟨h.1,h.2.imp id fun ⟨g,cap,cur,e1,e2,r⟩=>⟨g,cap,cur,e1,zP hb e2,r⟩⟩
theorem t8 (p0:List UInt8) (r:List Int) (h:jT p0=some r) (w:World) :
  Calls Tryz.prog 49 #[.string ⟨p0.toArray⟩] w fun e W'=>∃ v,e=.returned v/\W'.ownsRow w.heap.size 3 1 v r.length (r.map (Value.int .i64))/\Below w.heap.size w W':=by
 refine (callsIn_wide (n:=6)).1 ?_
 refine callsIn_of_wp_marks Tryz.func49 rfl trivial ?_ rfl
 simp only [Tryz.ntmps49,zZ,y0,zj,Nat.reduceAdd,Nat.reduceSub,Array.replicate_succ,Array.replicate_zero,List.push_toArray,List.append_toArray,zN,zA]
 unfold jT at h
 have h6:1<=6:=by omega
 split at h
 ·rename_i h45
  subst h45
  cases h
  gi_wp2
  exact ⟨_,results_tmp rfl _ _ _,_,rfl,World.ownsRow_nil _ _ _ _,Below.refl _ _⟩
 rename_i h45
 have h45':(p0==[45])=false:=by simp [h45]
 split at h
 case isFalse=>cases h
 rename_i hlen
 gi_wp2_with (refine ⟨trivial,?_⟩;gi_at_call 76;refine (wX _ (by omega) p0 44 _).mono ?_;rintro e w' ⟨rfl,rfl⟩)
 obtain ⟨W0,hW0⟩:∃ W0,(((w.alloc (.cells #[.slice none 0 0] 37)).alloc (.cells #[.string ⟨p0.toArray⟩] 9)).alloc (.cells #[.string ⟨#[44]⟩] 9)).alloc (.cells #[.int .i64 0] 3)=W0:=⟨_,rfl⟩
 have hsz:W0.heap.size=w.heap.size+4:=by rw [<- hW0];simp
 have bO:Boxed W0 w.heap.size 37 (.slice none 0 0):=by rw [<- hW0];exact (((Boxed.new w 37 _).alloc _).alloc _).alloc _
 have b0:Boxed W0 (w.heap.size+1) 9 (.string ⟨p0.toArray⟩):=by have:=((Boxed.new (w.alloc (.cells #[.slice none 0 0] 37)) 9 (.string ⟨p0.toArray⟩)).alloc (.cells #[.string ⟨#[44]⟩] 9)).alloc (.cells #[.int .i64 0] 3);rw [World.size_alloc,hW0] at this;exact this
 have b1:Boxed W0 (w.heap.size+1+1) 9 (.string ⟨#[44]⟩):=by have:=(Boxed.new ((w.alloc (.cells #[.slice none 0 0] 37)).alloc (.cells #[.string ⟨p0.toArray⟩] 9)) 9 (.string ⟨#[44]⟩)).alloc (.cells #[.int .i64 0] 3);rw [World.size_alloc,World.size_alloc,hW0] at this;exact this
 have b2:Boxed W0 (w.heap.size+1+2) 3 (.int .i64 0):=by have:=Boxed.new (((w.alloc (.cells #[.slice none 0 0] 37)).alloc (.cells #[.string ⟨p0.toArray⟩] 9)).alloc (.cells #[.string ⟨#[44]⟩] 9)) 3 (.int .i64 0);rw [World.size_alloc,World.size_alloc,World.size_alloc,hW0] at this;exact this
 have hB0:Below w.heap.size w W0:=by rw [<- hW0];exact ((((Below.refl _ w).alloc (y5 _) _).alloc (by simp) _).alloc (by simp;omega) _).alloc (by simp;omega) _
 rw [hW0]
 obtain ⟨i0,hi,hz0,hz1,hz2⟩:=info_parts iTI
 have hcl:=oq 44 p0
 refine tH (gf:=112) (lb:=#[.pointer (some ⟨w.heap.size+1+1,0,none⟩),.pointer (some ⟨w.heap.size+1,0,none⟩),.pointer (some ⟨w.heap.size+1+2,0,none⟩)]) (by omega) rfl (enters_of Tryz.func112 (by kernel_rfl) rfl) (fun x:List UInt8=>#[.string ⟨x.toArray⟩]) (fun _=>rfl) (aC 44 p0) (w.heap.size+1) (by omega)
  (fun l J W hJ hk hY hj=>vG _ (by omega) 44 p0 hlen l (w.heap.size+1) J hJ hY W ((hk _ (by omega) (by omega)).trans b0) ((hk _ (by omega) (by omega)).trans b1) ((hk _ (by omega) (by omega)).trans b2) hj)
  (fun pre W=>∃ vs v,allT pre=some vs/\vs.length=pre.length/\Boxed W w.heap.size 37 v/\W.ownsRow (W0.heap.size+2) 3 1 v vs.length (vs.map (Value.int .i64))/\Below w.heap.size w W)
  (fun pre W W' row ⟨vs,v,j1,j2,j3,j4,j5⟩ hg hr=>⟨vs,v,j1,j2,j3.kept hg (fun e=>by have:=hr _ e.symm;omega),j4.kept hg (by
   cases hvb:v.ownBlock with
   | none=>exact .inl rfl
   | some k=>exact .inr (fun e=>by have:=hr _ e.symm;have:=(j4.lt _ hvb).1;omega)),j5.grown hg j5.size (fun k e=>by have:=hr _ e;omega)⟩)
  ⟨[],_,rfl,rfl,bO,World.ownsRow_nil _ _ _ _,hB0⟩
  (fun x=>{ tmps:=#[.string ⟨p0.toArray⟩,undef,.slice none 0 0,.pointer (some ⟨w.heap.size,0,none⟩),.string ⟨x.toArray⟩,.string ⟨p0.toArray⟩,.bool false,.string ⟨p0.toArray⟩,.func (.func 112) #[] #[.pointer (some ⟨w.heap.size+1+1,0,none⟩),.pointer (some ⟨w.heap.size+1,0,none⟩),.pointer (some ⟨w.heap.size+1+2,0,none⟩)],.string ⟨x.toArray⟩,undef,undef,undef,undef,undef,undef],defers:=[] }) ?assign ?body ?done
 case assign =>
  intro l x W K hK
  gi_wp2
  exact hK
 case body =>
  rintro l pre x post W hx ⟨vs,v,j1,j2,hv,hrow,hB⟩ hWs
  rw [hx] at h hcl
  obtain ⟨y,hy⟩:=qa h
  have hsn:=nS hy j1
  have hbig:vs.length+1<=4294967290:=by simp at hcl;omega
  have hmx:Tryz.prog.follows .mixedOrders=true:=by kernel_rfl
  have hvD:Boxed W.drew w.heap.size 37 v:=hv
  have hcD:=hvD.cell
  have key:∀ u,(Lib.bytesWorld W.drew (tR.t 5) u).cell? ⟨w.heap.size,0,none⟩=some v/\((Lib.bytesWorld W.drew (tR.t 5) u).alloc (.cells #[.int .i64 y] 3)).cell? ⟨w.heap.size,0,none⟩=some v /\
    ∃ g' cap' w1,(Builtin.append_ #[37,37] 37 #[v,.slice (some ⟨(Lib.bytesWorld W.drew (tR.t 5) u).heap.size,0,none⟩) 1 1]).run Tryz.prog ((Lib.bytesWorld W.drew (tR.t 5) u).alloc (.cells #[.int .i64 y] 3))=.ok (.slice (some ⟨g',0,none⟩) (vs.length+1) cap') w1 /\
     w1.cell? ⟨w.heap.size,0,none⟩=some v/\w1.frozen? ⟨w.heap.size,0,none⟩=false/\boxK (w.heap.size+1) 3 W (w1.setCell ⟨w.heap.size,0,none⟩ (.slice (some ⟨g',0,none⟩) (vs.length+1) cap'))/\boxK W0.heap.size 2 W (w1.setCell ⟨w.heap.size,0,none⟩ (.slice (some ⟨g',0,none⟩) (vs.length+1) cap')) /\
     ∃ vs' v',allT (pre++[x])=some vs'/\vs'.length=(pre++[x]).length/\Boxed (w1.setCell ⟨w.heap.size,0,none⟩ (.slice (some ⟨g',0,none⟩) (vs.length+1) cap')) w.heap.size 37 v' /\
      (w1.setCell ⟨w.heap.size,0,none⟩ (.slice (some ⟨g',0,none⟩) (vs.length+1) cap')).ownsRow (W0.heap.size+2) 3 1 v' vs'.length (vs'.map (Value.int .i64))/\Below w.heap.size w (w1.setCell ⟨w.heap.size,0,none⟩ (.slice (some ⟨g',0,none⟩) (vs.length+1) cap')):=fun u=>by
   have hgd:=uX W.drew (tR.t 5) u
   have hgr:W.grownBy (Lib.bytesWorld W.drew (tR.t 5) u) none:=⟨hgd.os,hgd.tape,hgd.output,hgd.size,hgd.block⟩
   have hgr2:=World.grownBy_alloc (Lib.bytesWorld W.drew (tR.t 5) u) (.cells #[.int .i64 y] 3) none
   have hvA:Boxed (Lib.bytesWorld W.drew (tR.t 5) u) w.heap.size 37 v:=hv.kept hgr (by simp)
   have hrowA:(Lib.bytesWorld W.drew (tR.t 5) u).ownsRow (W0.heap.size+2) 3 1 v vs.length (vs.map (Value.int .i64)):=hrow.kept hgr (by cases v.ownBlock<;>simp)
   have hs1:=hgr.size
   obtain ⟨v',w1,hrun,hown',hgrow,_⟩:=run_append_own (P:=Tryz.prog) ((Lib.bytesWorld W.drew (tR.t 5) u).alloc (.cells #[.int .i64 y] 3)) (W0.heap.size+2) 37 37 3 i0 (.int .i64 0) 1 8 Tryz.underlying37 hi hz0 hz1 hz2 rfl (by decide) v vs.length _ (hrowA.alloc _) ⟨(Lib.bytesWorld W.drew (tR.t 5) u).heap.size,0,none⟩ 1 1 [.int .i64 y] rfl (cell_one_new _ _ _) (by simp [Value.oneCell']) (by unfold maxLen;omega) (by omega) (by simp;omega)
   obtain ⟨g',cap',rfl⟩:=ownsRow_succ hown'
   have hv1:Boxed w1 w.heap.size 37 v:=(hvA.alloc _).kept hgrow (hvA.not_row (by decide) hrowA)
   have hown:∀ k,v.ownBlock=some k->W0.heap.size+2<=k:=fun k hk=>(hrow.lt k hk).1
   have hkeep:∀ k,k<W0.heap.size+2->k≠w.heap.size->(w1.setCell ⟨w.heap.size,0,none⟩ (.slice (some ⟨g',0,none⟩) (vs.length+1) cap')).heap[k]?=W.heap[k]?:=fun k h1 h2 =>
    (Below.heap_setCell _ _ _ k (fun e=>h2 e)).trans ((hgrow.block k (by simp;omega) (fun e=>by have:=hown k e.symm;omega)).trans ((hgr2.block k (by omega) (by simp)).trans (hgr.block k (by omega) (by simp))))
   refine ⟨hvA.cell,(hvA.alloc _).cell,g',cap',w1,hrun,hv1.cell,hv1.frozen,fun k h1 h2=>hkeep k (by omega) (by omega),fun k h1 h2=>hkeep k (by omega) (by omega),vs++[y],_,hsn.1,by simp [hsn.2],hv1.set _,?_,?_⟩
   ·have:=hown'.kept (grownBy_setCell' w1 w.heap.size (.slice (some ⟨g',0,none⟩) (vs.length+1) cap')) (.inr (hv1.not_row (by decide) hown').symm)
    simpa using this
   ·exact ((((hB.grown hgr hB.size (fun k e=>by cases e)).grown hgr2 (by have:=hB.size;omega) (fun k e=>by cases e)).grown hgrow (by have:=hB.size;simp;omega) (fun k e=>by have:=hown k e;omega)).setCell (p:=⟨w.heap.size,0,none⟩) (y5 _) _)
  clear hsn j2
  gi_wp2
  refine wpIn_region_any (by assumption) ?_
  change wpAnyIn _ _ _ _ _ _ _ _ _ (World.drew _)
  refine wpAnyIn_ready (rs:=[0,1]) (by kernel_rfl) (by simp) ?_
  refine AllReadyIn.cons rfl (fun K hK=>?_) ?_
  ·go_simp
   refine hK _ _ ?_;clear hK K
   refine wpAnyIn_ready (rs:=[1]) (by kernel_rfl) (by simp) ?_
   refine AllReadyIn.cons rfl (fun K hK=>?_) AllReadyIn.nil
   go_simp
   refine hK _ _ ?_;clear hK K
   refine wpAnyIn_ready (rs:=[2]) (by kernel_rfl) (by simp) ?_
   refine AllReadyIn.cons rfl (fun K hK=>?_) AllReadyIn.nil
   go_simp
   gi_wp2_with (refine ⟨trivial,?_⟩;gi_at_call 47;refine (CallsIn.inRound l (lf _ (by omega) x y hy _)).mono ?_;rintro e w' ⟨rfl,u,rfl⟩;obtain ⟨hcA,hcB,g',cap',w1,hrun,hc1,hf1,q3,q4,q5⟩:=key u)
   refine wpAnyIn_ready (rs:=[3]) (by kernel_rfl) (by simp) ?_
   refine AllReadyIn.cons rfl (fun K hK=>?_) AllReadyIn.nil
   go_simp
   refine hK _ _ ?_;clear hK K
   refine wpAnyIn_ready (rs:=[4]) (by kernel_rfl) (by simp) ?_
   refine AllReadyIn.cons rfl (fun K hK=>?_) AllReadyIn.nil
   refine Eq.mpr (if_pos rfl) ?_
   refine jy rfl rfl rfl rfl hrun ?_
   refine hK _ _ ?_;clear hK K
   refine wpAnyIn_ready (rs:=[5]) (by kernel_rfl) (by simp) ?_
   refine AllReadyIn.cons rfl (fun K hK=>?_) AllReadyIn.nil
   go_simp
   refine hK _ _ ?_;clear hK K
   refine wpAnyIn_done (by kernel_rfl) ?_ _
   exact ⟨rfl,q3,q4,q5⟩
  refine AllReadyIn.cons rfl (fun K hK=>?_) AllReadyIn.nil
  go_simp
  refine hK _ _ ?_;clear hK K
  refine wpAnyIn_ready (rs:=[0,2]) (by kernel_rfl) (by simp) ?_
  refine AllReadyIn.cons rfl (fun K hK=>?_) ?_
  ·go_simp
   refine hK _ _ ?_;clear hK K
   refine wpAnyIn_ready (rs:=[2]) (by kernel_rfl) (by simp) ?_
   refine AllReadyIn.cons rfl (fun K hK=>?_) AllReadyIn.nil
   go_simp
   gi_wp2_with (refine ⟨trivial,?_⟩;gi_at_call 47;refine (CallsIn.inRound l (lf _ (by omega) x y hy _)).mono ?_;rintro e w' ⟨rfl,u,rfl⟩;obtain ⟨hcA,hcB,g',cap',w1,hrun,hc1,hf1,q3,q4,q5⟩:=key u)
   refine wpAnyIn_ready (rs:=[3]) (by kernel_rfl) (by simp) ?_
   refine AllReadyIn.cons rfl (fun K hK=>?_) AllReadyIn.nil
   go_simp
   refine hK _ _ ?_;clear hK K
   refine wpAnyIn_ready (rs:=[4]) (by kernel_rfl) (by simp) ?_
   refine AllReadyIn.cons rfl (fun K hK=>?_) AllReadyIn.nil
   refine Eq.mpr (if_pos rfl) ?_
   refine jy rfl rfl rfl rfl hrun ?_
   refine hK _ _ ?_;clear hK K
   refine wpAnyIn_ready (rs:=[5]) (by kernel_rfl) (by simp) ?_
   refine AllReadyIn.cons rfl (fun K hK=>?_) AllReadyIn.nil
   go_simp
   refine hK _ _ ?_;clear hK K
   refine wpAnyIn_done (by kernel_rfl) ?_ _
   exact ⟨rfl,q3,q4,q5⟩
  refine AllReadyIn.cons rfl (fun K hK=>?_) AllReadyIn.nil
  go_simp
  gi_wp2_with (refine ⟨trivial,?_⟩;gi_at_call 47;refine (CallsIn.inRound l (lf _ (by omega) x y hy _)).mono ?_;rintro e w' ⟨rfl,u,rfl⟩;obtain ⟨hcA,hcB,g',cap',w1,hrun,hc1,hf1,q3,q4,q5⟩:=key u)
  refine wpAnyIn_ready (rs:=[0,3]) (by kernel_rfl) (by simp) ?_
  refine AllReadyIn.cons rfl (fun K hK=>?_) ?_
  ·go_simp
   refine hK _ _ ?_;clear hK K
   refine wpAnyIn_ready (rs:=[3]) (by kernel_rfl) (by simp) ?_
   refine AllReadyIn.cons rfl (fun K hK=>?_) AllReadyIn.nil
   go_simp
   refine hK _ _ ?_;clear hK K
   refine wpAnyIn_ready (rs:=[4]) (by kernel_rfl) (by simp) ?_
   refine AllReadyIn.cons rfl (fun K hK=>?_) AllReadyIn.nil
   refine Eq.mpr (if_pos rfl) ?_
   refine jy rfl rfl rfl rfl hrun ?_
   refine hK _ _ ?_;clear hK K
   refine wpAnyIn_ready (rs:=[5]) (by kernel_rfl) (by simp) ?_
   refine AllReadyIn.cons rfl (fun K hK=>?_) AllReadyIn.nil
   go_simp
   refine hK _ _ ?_;clear hK K
   refine wpAnyIn_done (by kernel_rfl) ?_ _
   exact ⟨rfl,q3,q4,q5⟩
  refine AllReadyIn.cons rfl (fun K hK=>?_) AllReadyIn.nil
  go_simp
  refine hK _ _ ?_;clear hK K
  refine wpAnyIn_ready (rs:=[0]) (by kernel_rfl) (by simp) ?_
  refine AllReadyIn.cons rfl (fun K hK=>?_) AllReadyIn.nil
  go_simp
  refine hK _ _ ?_;clear hK K
  refine wpAnyIn_ready (rs:=[4]) (by kernel_rfl) (by simp) ?_
  refine AllReadyIn.cons rfl (fun K hK=>?_) AllReadyIn.nil
  refine Eq.mpr (if_pos rfl) ?_
  refine jy rfl rfl rfl rfl hrun ?_
  refine hK _ _ ?_;clear hK K
  refine wpAnyIn_ready (rs:=[5]) (by kernel_rfl) (by simp) ?_
  refine AllReadyIn.cons rfl (fun K hK=>?_) AllReadyIn.nil
  go_simp
  refine hK _ _ ?_;clear hK K
  refine wpAnyIn_done (by kernel_rfl) ?_ _
  exact ⟨rfl,q3,q4,q5⟩
 case done =>
  rintro W ⟨vs,v,j1,j2,hv,hrow,hB⟩ hK
  have hc:=hv.cell
  obtain rfl:vs=r:=by rw [j1] at h;exact yY h
  gi_wp2
  refine ⟨by simp,.inl ⟨_,_,rfl,run_takeDeferred hK,?_⟩⟩
  exact ⟨_,results_tmp rfl _ _ _,v,rfl,u0 (by omega) (ownsRow_putObj hrow _ hK rfl),hB.trans (belowK_b (w:=w) (y5 _) W _ _ _ (by omega) hK rfl rfl)⟩
theorem tT (p0:List UInt8) (r:List Int) (h:jT p0=some r):Fn Tryz.prog 49 [.str p0] (.sl (r.map ak)):=by
 refine ⟨callable Tryz.func49 rfl (by kernel_rfl),fun w F σ vs hs hr=>?_⟩;match vs,hr with
 | [v0],hr =>
  have r0:Rel σ w F (.str p0) v0:=hr.2 0 _ v0 rfl rfl
  cases r0
  refine (t8 p0 r h w).mono ?_
  rintro e w' ⟨v,rfl,hrow,hB⟩
  rcases hrow.2 with ⟨rfl,hn⟩ | ⟨g,cap,cur,rfl,hbg,hg,hnc,hcm,hcs,htake⟩
  ·obtain rfl:r=[]:=y7 hn
   exact ⟨_,_,[],σ,F,rfl,⟨rfl,rfl⟩,hs.grow (fun _ h=>h) (fun _ h=>.inl h) (fun b hb=>zk (hs.lt b hb) hB.size) hB.block,.slNil,.grow (fun _ h=>h) (fun _ h=>.inl h) hB.os hB.tape (drO hB.output) hB.size hB.block⟩
  ·have hgs:=(zi.1 hg).1
   have hc:=hrow.cells (g:=g) rfl
   refine ⟨_,_,[],σ,plus F g,rfl,⟨rfl,rfl⟩,hs.grow (fun _ h=>.inl h) (fun b hb=>hb.imp id (fun e=>by omega)) (fun b hb=>hb.elim (fun hb=>zk (hs.lt b hb) hB.size) (fun e=>by omega)) hB.block,?_,
    .grow (fun _ h=>.inl h) (fun b hb=>hb.imp id (fun e=>by omega)) hB.os hB.tape (drO hB.output) hB.size hB.block⟩
   have hl:(r.map ak).length=r.length:=by simp
   have:=Rel.sl (σ:=σ) (w:=w') (F:=plus F g) (r.map ak) 1 ⟨g,0,none⟩ cap (fun i _=>.int .i64 (r.getD i 0)) (fun _=>.inr rfl) (by rw [hl];exact hnc) hcm (fun row hm=>by obtain ⟨x,_,rfl⟩:=zt.1 hm;rfl) (fun _ _ _ _=>rfl)
    (fun i j hi hj=>by
     rw [hl] at hi;obtain rfl:j=0:=by omega
     refine hc _ _ ?_;rw [show i*1+0=i by omega,zb,yW hi,za,yW hi];rfl)
    (fun i row j x h1 h2=>by
     rw [zb] at h1;cases hx:r[i]? with
     | none=>rw [hx] at h1;cases h1
     | some y =>
      rw [hx] at h1;cases h1;match j,h2 with
      | 0,h2=>cases h2;simp only [za,hx];exact .int _ _)
   rw [hl] at this
   exact this
end
section
open Go.RowKit
set_option maxRecDepth 100000
set_option maxHeartbeats 4000000
set_option synthInstance.maxSize 100000
set_option synthInstance.maxHeartbeats 4000000
theorem oz {r:List (List UInt8 × Int)} (h:jU=some r):FnO Tryz.prog 37 [] (.mpr 0) [.mp (List.map kS (List.map Prod.fst r)) (List.map kI (List.map Prod.snd r))]:=by
 cases h;first
 | refine fT 0 2 Tryz.func37 Tryz.ntmps37 rfl (sO (d5 rfl rfl ?_))
 | refine fT 0 3 Tryz.func37 Tryz.ntmps37 rfl (sO (d5 rfl rfl ?_))
 | refine fT 0 4 Tryz.func37 Tryz.ntmps37 rfl (sO (d5 rfl rfl ?_))
 | refine fT 0 5 Tryz.func37 Tryz.ntmps37 rfl (sO (d5 rfl rfl ?_))
 | refine fT 0 6 Tryz.func37 Tryz.ntmps37 rfl (sO (d5 rfl rfl ?_))
 | refine fT 0 7 Tryz.func37 Tryz.ntmps37 rfl (sO (d5 rfl rfl ?_))
 | refine fT 0 8 Tryz.func37 Tryz.ntmps37 rfl (sO (d5 rfl rfl ?_))
 refine sO (dW (ek:=kS) (ks:=[]) (vs:=[]) (k:=[103,111]) (a:=iI 1) (o2:=.mp (List.map kS [[103,111]]) [iI 1]) (.inr rfl) Tryz.underlying80 (KeyT.str Tryz.underlying9) rfl rfl rfl rfl rfl rfl ?_);refine sO (dW (ek:=kS) (ks:=[[103,111]]) (vs:=[iI 1]) (k:=[119,114,105,116,101]) (a:=iI 2) (o2:=.mp (List.map kS [[103,111],[119,114,105,116,101]]) [iI 1,iI 2]) (.inr rfl) Tryz.underlying80 (KeyT.str Tryz.underlying9) rfl rfl rfl rfl rfl rfl ?_);refine sO (dW (ek:=kS) (ks:=[[103,111],[119,114,105,116,101]]) (vs:=[iI 1,iI 2]) (k:=[102,108,117,115,104]) (a:=iI 3) (o2:=.mp (List.map kS [[103,111],[119,114,105,116,101],[102,108,117,115,104]]) [iI 1,iI 2,iI 3]) (.inr rfl) Tryz.underlying80 (KeyT.str Tryz.underlying9) rfl rfl rfl rfl rfl rfl ?_);refine sO (dW (ek:=kS) (ks:=[[103,111],[119,114,105,116,101],[102,108,117,115,104]]) (vs:=[iI 1,iI 2,iI 3]) (k:=[116,101,108,108]) (a:=iI 4) (o2:=.mp (List.map kS [[103,111],[119,114,105,116,101],[102,108,117,115,104],[116,101,108,108]]) [iI 1,iI 2,iI 3,iI 4]) (.inr rfl) Tryz.underlying80 (KeyT.str Tryz.underlying9) rfl rfl rfl rfl rfl rfl ?_);refine sO (dW (ek:=kS) (ks:=[[103,111],[119,114,105,116,101],[102,108,117,115,104],[116,101,108,108]]) (vs:=[iI 1,iI 2,iI 3,iI 4]) (k:=[99,117,116]) (a:=iI 5) (o2:=.mp (List.map kS [[103,111],[119,114,105,116,101],[102,108,117,115,104],[116,101,108,108],[99,117,116]]) [iI 1,iI 2,iI 3,iI 4,iI 5]) (.inr rfl) Tryz.underlying80 (KeyT.str Tryz.underlying9) rfl rfl rfl rfl rfl rfl ?_);refine sO (dW (ek:=kS) (ks:=[[103,111],[119,114,105,116,101],[102,108,117,115,104],[116,101,108,108],[99,117,116]]) (vs:=[iI 1,iI 2,iI 3,iI 4,iI 5]) (k:=[117,112]) (a:=iI 6) (o2:=.mp (List.map kS [[103,111],[119,114,105,116,101],[102,108,117,115,104],[116,101,108,108],[99,117,116],[117,112]]) [iI 1,iI 2,iI 3,iI 4,iI 5,iI 6]) (.inr rfl) Tryz.underlying80 (KeyT.str Tryz.underlying9) rfl rfl rfl rfl rfl rfl ?_);refine sO (dW (ek:=kS) (ks:=[[103,111],[119,114,105,116,101],[102,108,117,115,104],[116,101,108,108],[99,117,116],[117,112]]) (vs:=[iI 1,iI 2,iI 3,iI 4,iI 5,iI 6]) (k:=[108,97,121]) (a:=iI 7) (o2:=.mp (List.map kS [[103,111],[119,114,105,116,101],[102,108,117,115,104],[116,101,108,108],[99,117,116],[117,112],[108,97,121]]) [iI 1,iI 2,iI 3,iI 4,iI 5,iI 6,iI 7]) (.inr rfl) Tryz.underlying80 (KeyT.str Tryz.underlying9) rfl rfl rfl rfl rfl rfl ?_);refine Y 3 1 ?_;exact tO [] [0] 1
theorem bf {p0:Int} {r:List UInt8} (h:cm p0=some r):Fn Tryz.prog 19 [.int .i64 p0] (.str r):=vM p0 r h
theorem kD {p0:List (List UInt8)} {p1 r:List UInt8} (h:strings_Join p0 p1=some r):Fn Tryz.prog 38 [.sl (List.map aa p0),.str p1] (.str r):=by
 unfold strings_Join joinB at h;split at h
 ·rename_i hc;cases h;exact vL p0 p1 hc.1 hc.2
 ·cases h
theorem rh {p0:List Happening} {r:(List UInt8) × Int} (h:gQ p0=some r):Fn Tryz.prog 16 [sL ah p0] (.tup [.str r.1,iI r.2]):=by
 unfold gQ at h;refine fT 0 9 Tryz.func16 Tryz.ntmps16 rfl (sQ (aA Ty.s46 rfl (Y 2 0 (T.ci h rfl (fun ai h=>?_) (fun ai h=>?_)))))
 ·refine X 5 0 ?_;cases h;exact tD
 refine X 3 0 (sO (d5 rfl rfl (Y 3 1 (rngM (fun ptr z2=>[(17,.cst ptr),(0,sL ah p0),(4,.mpr 0)]) (fun z2=>[.mp (List.map kI (List.map Prod.fst (bB z2))) (List.map kS (List.map Prod.snd (bB z2))),.dead]) bg 1 xh (xi _) rfl rfl Tryz.underlying80 rfl (cG [] 1 1 (FnX.of_fnO (oz rfl)) ⟨rfl,⟨rfl,rfl⟩⟩) (fun _=>rfl) (fun _ _=>rfl) (by decide) (fun ptr=>wkC 17 [0,1] 2 rfl) (fun ptr z2 k v=>?_) (fun ptr z2 hp=>?_)))))
 ·exact Y 9 2 (sO (u5 (ek:=kI) (ev:=kS) (xs:=bB z2) (k:=v) (a:=k) (.inl rfl) Tryz.underlying79 (KeyT.int Tryz.underlying3) rfl rfl rfl rfl rfl (Y 1 2 (⟨rfl,by simp only [nf];exact wkC 17 [0,1] 2 rfl⟩))))
 have h:=rx h z2 hp;refine X 8 2 (sQ (aA Ty.s46 rfl (Y 3 2 (itr (fun bj:Int × (List (List UInt8))=>mkA 56 [(4,.mpr 0),(7,.ref 1),(26,sL ah p0),(27,iI ((p0).length:Int)),(28,iI bj.1)]) (fun bj=>[.mp (List.map kI (List.map Prod.fst (bB z2))) (List.map kS (List.map Prod.snd (bB z2))),aR 9 1 aa bj.2]) h (wk [(7,9,1)] [0,2] 2 rfl) (fun bj v_9 h kj=>?_)))));obtain ⟨s3,s4⟩:=bj;replace h:c6 p0 z2 s3 s4=some v_9:=h;try dsimp only
 unfold c6 at h;refine X 5 2 (T.ci h rfl (fun fk h=>?_) (fun fk h=>?_))
 ·refine B h fun x6 hx6 h=>(X 5 2 (sQ (aP Ty.s46 (fun _=>rfl) rfl rfl hx6 (Y 9 2 (sO (m4 (ek:=kI) (ev:=kS) (xs:=(bB z2)) (k:=x6.Kind) (z0:=[]) Tryz.underlying79 (KeyT.int Tryz.underlying3) Ty.w9 (fun _ _ _=>.str []) rfl rfl rfl (Y 12 3 (T.ci h rfl (fun lX h=>?_) (fun lX h=>?_)))))))))
  ·refine X 5 3 ?_;replace h:=mi h kj;cases h;exact tD
  refine X 8 3 (T.ci h rfl (fun lY h=>?_) (fun lY h=>?_))
  ·exact B h fun x7 hx7 h=>(B h fun x8 hx8 h=>(X 4 3 (sO (cF (bf hx7) ⟨rfl,(sQ (iu rfl rfl hx8 (B h fun x9 hx9 h=>(Y 5 3 (sO (bC (rows:=List.map aa [x8]) (vs:=[.str x8]) Ty.s32 Ty.z9 rfl rfl rfl rfl rfl rfl (sO (eZ (en:=aa) (xs:=s4) (ys:=([x8]:List (List UInt8))) Ty.s32 (fun _=>rfl) rfl rfl rfl hx9 rfl rfl (Y 6 5 (lk h (wk [] [0,4] 5 rfl)))))))))))⟩))))
  exact B h fun x10 cB h=>(X 4 3 (sO (bC (rows:=List.map aa [((mget x6.Kind (bB z2)).getD [])]) (vs:=[.str ((mget x6.Kind (bB z2)).getD [])]) Ty.s32 Ty.z9 rfl rfl rfl rfl rfl rfl (sO (eZ (en:=aa) (xs:=s4) (ys:=([((mget x6.Kind (bB z2)).getD [])]:List (List UInt8))) Ty.s32 (fun _=>rfl) rfl rfl rfl cB rfl rfl (Y 6 5 (lk h (wk [] [0,4] 5 rfl))))))))
 refine X 1 2 ?_;replace h:=mi h kj;refine B h fun x12 cn h=>(X 3 2 (sO (cF (kD cn) ⟨rfl,(Y 3 2 ?_)⟩)))
 cases h;exact tD
theorem jz {p0 p1:List UInt8} {r:List (List UInt8)} (h:cR p0 p1=some r):Fn Tryz.prog 9 [.str p0,.str p1] (.sl (List.map aa r)):=uP p0 p1 r h
theorem uf {p0 p1:List UInt8} {r:Int} (h:jG p0 p1=some r):Fn Tryz.prog 39 [.str p0,.str p1] (.int .i64 r):=sI p0 p1 r h
theorem pA {p0:List UInt8} {r:Int} (h:atoiX p0=some r):Fn Tryz.prog 40 [.str p0] (.tup [.int .i64 r,.ifc 112 .any]):=vk p0 r h
theorem pB {p0:List UInt8} {r:Int} (h:atoiW p0=some r):Fn Tryz.prog 40 [.str p0] (.tup [.int .i64 r,.nili]):=vH p0 r h
theorem q7 {p0:List UInt8} {r:(List Happening) × Int × Int} (h:cH p0=some r):FnO Tryz.prog 17 [.str p0] (.tup [.ref 0,iI r.2.1,iI r.2.2]) [aR 52 2 ah r.1]:=by
 unfold cH at h;refine fT 0 13 Tryz.func17 Tryz.ntmps17 rfl (T.ci h rfl (fun ai h=>?_) (fun ai h=>?_))
 ·refine X 6 0 ?_;cases h;exact tO [(0,52,2)] [0] 0
 refine X 7 0 (T.ci h rfl (fun al h=>?_) (fun al h=>?_))
 ·refine X 6 0 ?_;cases h;exact tO [(0,52,2)] [0] 0
 refine B h fun x2 hx2 h=>(X 5 0 (sO (cD (jz hx2) ⟨rfl,(sQ (aA Ty.s32 rfl (Y 3 0 (itr (fun cV:Int × (List Happening)=>mkA 83 [(2,.ref 0),(19,sL aa x2),(20,iI ((x2).length:Int)),(21,iI cV.1)]) (fun cV=>[aR 52 2 ah cV.2]) h (wk [(2,52,2)] [0] 0 rfl) (fun cV v_40 h ql=>?_)))))⟩)))
 obtain ⟨s3,s4⟩:=cV;replace h:dP x2 s3 s4=some v_40:=h;try dsimp only
 unfold dP at h;refine X 5 1 (T.ci h rfl (fun yl h=>?_) (fun yl h=>?_))
 ·refine B h fun x6 hx6 h=>(X 6 1 (sQ (aP Ty.s32 (fun _=>rfl) rfl rfl hx6 (B h fun x8 hx8 h=>(Y 7 1 (sO (cF (uf hx8) ⟨rfl,(Y 2 1 (jn (Z:=Int) (fun gn=>mkA 83 [(2,.ref 0),(5,iI s3),(6,.str x6),(7,iI gn),(19,sL aa x2),(20,iI ((x2).length:Int)),(21,iI s3)]) (fun gn=>[aR 52 2 ah s4]) (fun gn=>eQ s3 s4 x6 gn=some v_40) (fun gn h=>?_) (fun hK2=>?_)))⟩)))))))
  ·revert h;revert gn;intro z9 h;replace h:eQ s3 s4 x6 z9=some v_40:=h;try dsimp only
   unfold eQ at h;refine B h fun x12 cn h=>(B h fun x13 bn h=>(X 1 1 (T.drawn mixed (k:=10) rfl (rq [1,2] 8 (r0 3 rfl (kJ Tryz.underlying9 rfl rfl rfl bn (ra1 0 (oO rfl (cG [] 1 1 (FnX.of_fnO (oz cn)) ⟨rfl,(ra1 4 (oO rfl (m4 (ek:=kS) (ev:=kI) (xs:=x12) (k:=x13) (z0:=0) Tryz.underlying80 (KeyT.str Tryz.underlying9) Ty.w3 (fun _ _ _=>.int _ _) rfl rfl rfl ?_)))⟩)))))))))
   refine rq [5,6,7,8,9] 0 (RA.done (by decide +kernel) (X 4 2 (jn (Z:=Bool × Int) (fun bI=>mkA 83 [(2,.ref 0),(5,iI s3),(8,iI ((mget x13 x12).getD 0)),(9,.bool bI.1),(10,iI bI.2),(19,sL aa x2),(20,iI ((x2).length:Int)),(21,iI s3)]) (fun bI=>[aR 52 2 ah s4]) (fun bI=>dt s3 s4 x12 x13 bI.1 bI.2=some v_40) (fun bI h=>?_) (fun hK1=>?_))))
   ·obtain ⟨z26,z27⟩:=bI;replace h:dt s3 s4 x12 x13 z26 z27=some v_40:=h;try dsimp only
    unfold dt at h;refine X 6 1 (T.ci h rfl (fun dJ h=>?_) (fun dJ h=>?_))
    ·refine X 7 1 ?_;replace h:=mi h ql;cases h;exact tO [(0,52,2)] [1] 1
    refine B h fun x28 yB h=>(X 6 1 (sO (bC (rows:=List.map ah [(⟨((mget x13 x12).getD 0),z27⟩:Happening)]) (vs:=[.agg [iI ((mget x13 x12).getD 0),iI z27]]) Ty.s46 Ty.z52 rfl rfl rfl rfl rfl rfl (sO (eZ (en:=ah) (xs:=s4) (ys:=([(⟨((mget x13 x12).getD 0),z27⟩:Happening)]:List Happening)) Ty.s46 (fun _=>rfl) rfl rfl rfl yB rfl rfl (Y 6 3 ?_))))))
    exact lk h (wk [] [2] 3 rfl)
   refine X 1 2 (j1 [(2,.ref 0),(5,iI s3),(6,.str x6),(7,iI z9),(8,iI ((mget x13 x12).getD 0)),(9,.bool ((mget x13 x12).isSome)),(10,iI 0),(19,sL aa x2),(20,iI ((x2).length:Int)),(21,iI s3),(46,.bool (((mget x13 x12).isSome) && decide (z9<((x6).length:Int))))] [aR 52 2 ah s4] ?_ (fun hK=>?_))
   ·refine T.ci h rfl (fun iK h=>?_) (fun iK h=>?_)
    ·refine B h fun x21 gy h=>(X 4 1 (sO (kH Tryz.underlying9 rfl rfl rfl gy ?_)))
     rcases aq (de x21) with iM | iM
     ·replace h:=bv h iM;refine B h fun x22 l5 h=>(sO (cD (pA l5) ⟨rfl,(Y 6 1 (T.drawn mixed (k:=17) rfl (rq [0,1] 15 (ra1 2 (oO rfl (nG Tryz.underlying57 rfl rfl (rq [3] 13 (r2 4 rfl rfl (r2 5 rfl rfl ?_)))))))))⟩))
      refine r0 6 rfl (aK (v:=.bool false) rfl rfl rfl (rq [7] 9 (r2 8 rfl rfl (r2 9 rfl rfl (r2 10 rfl rfl (r2 11 rfl rfl (r2 12 rfl rfl (r2 13 rfl rfl (r0 14 rfl (aK (v:=.bool false) rfl rfl rfl (rq [15,16] 0 ?_)))))))))));exact RA.done (by decide +kernel) (sx (hK1 (false,x22) h))
     replace h:=bw h iM;refine B h fun x23 iQ h=>(sO (cD (pB iQ) ⟨rfl,(Y 6 1 ?_)⟩))
     rcases aq (x23 != 0) with bb | bb
     ·replace h:=bv h bb;refine B h fun x24 iS h=>(B h fun x25 iT h=>(T.drawn mixed (k:=17) rfl (rq [0,1] 15 (ra1 2 (oO rfl (lw Tryz.underlying57 rfl (rq [3] 13 (ry 4 rfl rfl (ry 5 rfl rfl (r0 6 rfl (aS (v:=.bool (x23 != 0)) rfl rfl rfl ?_)))))))))))
      refine rq [7] 9 (ry 8 bb rfl (ry 10 bb rfl (ry 11 bb rfl (r1 12 rfl bb (kJ Tryz.underlying9 rfl rfl rfl iT (ra1 9 (oP rfl bb (cF (bf iS) ⟨rfl,(ry 13 bb rfl (r0 14 rfl (aS (v:=.bool (x24==x25)) rfl bb rfl (rq [15,16] 0 ?_))))⟩))))))));exact RA.done (by decide +kernel) (wu (hK1 (x24==x25,x23) h) [] [0] 1 rfl)
     replace h:=bw h bb;refine T.drawn mixed (k:=17) rfl (rq [0,1] 15 (ra1 2 (oO rfl (lw Tryz.underlying57 rfl (rq [3] 13 (ry 4 rfl rfl (ry 5 rfl rfl (r0 6 rfl (aS (v:=.bool (x23 != 0)) rfl rfl rfl (rq [7] 9 (r2 8 rfl bb ?_)))))))))));exact r2 9 rfl bb (r2 10 rfl bb (r2 11 rfl bb (r2 12 rfl bb (r2 13 rfl bb (r0 14 rfl (aK (v:=.bool false) rfl bb rfl (rq [15,16] 0 (RA.done (by decide +kernel) (sx (hK1 (false,x23) h))))))))))
    exact X 1 1 (wu (hK1 ((mget x13 x12).isSome,0) h) [] [0] 1 rfl)
   refine X 4 2 (gp 41 (fun eF=>?_) (fun eF=>?_))
   ·refine Yp 6 2 ?_;rw [eF] at hK ⊢;exact wu hK [] [0] 2 rfl
   refine Yp 6 2 ?_;rw [eF] at hK ⊢;exact wu hK [] [0] 2 rfl
  refine X 6 1 (T.ci h rfl (fun iN h=>?_) (fun iN h=>?_))
  ·exact X 5 1 (sx (hK2 ((x6).length:Int) h))
  exact X 1 1 (sx (hK2 x8 h))
 refine X 1 1 ?_;replace h:=mi h ql;refine X 4 1 (sQ (cJ (en:=ah) Ty.s46 rfl rfl (Y 2 1 (T.ci h rfl (fun ym h=>?_) (fun ym h=>?_)))))
 ·refine X 6 1 ?_;cases h;exact tO [(0,52,2)] [1] 1
 refine X 8 1 ?_;cases h;exact tO [] [0] 1
theorem kx {r:Net} (h:gN=some r):Fn Tryz.prog 27 [] (.agg (aJ r)):=by unfold gN at h;refine fT 0 6 Tryz.func27 Tryz.ntmps27 rfl (sO (bC (rows:=List.map ak [0]) (vs:=[iI 0]) Ty.s37 Ty.z3 rfl rfl rfl rfl rfl rfl (Y 1 2 (sO (bC (rows:=List.map ak [1]) (vs:=[iI 1]) Ty.s37 Ty.z3 rfl rfl rfl rfl rfl rfl (Y 1 3 (sO (bC (rows:=List.map ak [0,1]) (vs:=[iI 0,iI 1]) Ty.s37 Ty.z3 rfl rfl rfl rfl rfl rfl (sO (bC (rows:=List.map ak [2]) (vs:=[iI 2]) Ty.s37 Ty.z3 rfl rfl rfl rfl rfl rfl (Y 1 5 (sO (bC (rows:=List.map ak [2]) (vs:=[iI 2]) Ty.s37 Ty.z3 rfl rfl rfl rfl rfl rfl (Y 1 6 ?_))))))))))))));refine RS.fC 1 (RS.fC 2 (RS.fC 3 (RS.fC 4 (RS.fC 5 (sO (rj (rows:=List.map an [(⟨1,0,[],[0]⟩:Node),(⟨1,1,[],[1]⟩:Node),(⟨6,0,[0,1],[2]⟩:Node),(⟨8,0,[2],[]⟩:Node)]) (vs:=[.agg [iI 1,iI 0,.nils,sL ak [0]],.agg [iI 1,iI 1,.nils,sL ak [1]],.agg [iI 6,iI 0,sL ak [0,1],sL ak [2]],.agg [iI 8,iI 0,sL ak [2],.nils]]) (vs2:=[.agg [iI 1,iI 0,sL ak [],sL ak [0]],.agg [iI 1,iI 1,sL ak [],sL ak [1]],.agg [iI 6,iI 0,sL ak [0,1],sL ak [2]],.agg [iI 8,iI 0,sL ak [2],sL ak []]]) Ty.s22 Ty.z42 rfl rfl rfl rfl rfl rfl (Y 3 7 ?_)))))));cases h;exact tD
theorem qZ {p0 p1:Int} {r:Int × Int} (h:kz p0 p1=some r):Fn Tryz.prog 115 [.int .u64 p0,.int .u64 p1] (.tup [.int .u64 r.1,.int .u64 r.2]):=by
 unfold kz at h;refine fT 0 0 Tryz.func115 Tryz.ntmps115 rfl ?_;refine B h fun x2 hx2 h=>(X 14 0 (sQ (v_shr rfl rfl hx2 (B h fun x4 hx4 h=>(Y 11 0 (sQ (v_shr rfl rfl hx4 (B h fun x6 hx6 h=>(Y 15 0 (sQ (v_shr rfl rfl hx6 (B h fun x8 hx8 h=>?_))))))))))))
 refine Y 12 0 (sQ (v_shr rfl rfl hx8 (B h fun x10 cB h=>(Y 19 0 (sQ (v_shr rfl rfl cB (Y 10 0 ?_)))))));cases h;exact tD
theorem rf {p0 p1:Int} {r:Int × Int} (h:jb p0 p1=some r):Fn Tryz.prog 113 [.int .u64 p0,.int .u64 p1] (.tup [.int .u64 r.1,.int .u64 r.2]):=by
 unfold jb at h;refine fT 0 0 Tryz.func113 Tryz.ntmps113 rfl ?_;refine B h fun x2 hx2 h=>(X 12 0 (sO (cF (qZ hx2) ⟨rfl,(Y 13 0 ?_)⟩)))
 cases h;exact tD
theorem qU {p0:List Ends} {p1:Int} {r:List Ends} (h:gK p0 p1=some r):FnO Tryz.prog 101 [sL aj p0,iI p1] (.ref 0) [aR 129 2 aj r]:=by
 unfold gK at h;refine fT 0 10 Tryz.func101 Tryz.ntmps101 rfl (T.ci h rfl (fun ai h=>?_) (fun ai h=>?_))
 ·cases h
 refine B h fun x2 hx2 h=>(X 4 0 (sQ (aA Ty.s123 rfl (Y 3 0 (sO (cF (rf hx2) ⟨rfl,(Y 7 0 (j1 [(0,sL aj p0),(6,.int .u64 x2.2),(26,.bool ((decide (x2.1 > 0)) || decide (x2.2 > 9223372036854775807)))] [] ?_ (fun hK=>?_)))⟩))))))
 ·refine T.ci h rfl (fun bp h=>?_) (fun bp h=>?_)
  ·cases h
  refine B h fun x5 hx5 h=>(X 5 0 (sO (o_mk (en:=aj) (zr:=(⟨0,0⟩:Ends)) Ty.s123 Ty.z129 rfl rfl hx5 rfl rfl (Y 6 1 (sO (t6 (en:=aj) (xs:=x5) (ys:=p0) Ty.s123 (fun _=>rfl) rfl rfl rfl rfl (Y 4 1 (itr (fun bj:Int × (List Ends)=>mkA 48 [(7,.ref 0),(8,iI bj.1)]) (fun bj=>[aR 129 2 aj bj.2]) h (wk [] [0] 1 rfl) (fun bj v_9 h kj=>?_)))))))))
  obtain ⟨s6,s7⟩:=bj;replace h:dO s6 s7=some v_9:=h;try dsimp only
  unfold dO at h;refine X 5 1 (sQ (cJ (en:=aj) Ty.s123 rfl rfl (Y 2 1 (T.ci h rfl (fun fk h=>?_) (fun fk h=>?_)))))
  ·refine B h fun x8 hx8 h=>(B h fun x9 hx9 h=>(B h fun x10 cB h=>(B h fun x11 fq h=>(X 2 1 (T.drawn mixed (k:=10) rfl ?_)))))
   apply RA.jn 3 (bm 10 127);intro qx
   ·refine rq [0,1,2,4,5] 5 (ra2 3 6 ?_ ?_)
    ·exact oO rfl (jm (en:=aj) (xs:=s7) Ty.s123 rfl rfl rfl rfl hx8 (ra1 6 (oO rfl (jm (en:=aj) (xs:=s7) Ty.s123 rfl rfl rfl rfl hx9 (raE qx)))))
    ·exact oO rfl (jm (en:=aj) (xs:=s7) Ty.s123 rfl rfl rfl rfl hx9 (ra1 3 (oO rfl (jm (en:=aj) (xs:=s7) Ty.s123 rfl rfl rfl rfl hx8 (raT qx)))))
   exact ra1 7 (oO rfl (sY (en:=aj) (xs:=s7) Ty.s123 (fun _=>rfl) rfl rfl rfl cB fq rfl (rq [8,9] 0 (RA.done (by decide +kernel) (lk h (wk [] [0] 1 rfl))))))
  refine X 1 1 ?_;replace h:=mi h kj;refine X 5 1 ?_;cases h;exact tO [] [0] 1
 refine X 5 0 (gp 23 (fun al=>?_) (fun al=>?_))
 ·refine Yp 4 0 ?_;rw [al] at hK;exact sx hK
 refine Yp 4 0 ?_;rw [al] at hK;exact sx hK
theorem rZ {p0:Int} {r:Int × Int × Bool} (h:gY p0=some r):Fn Tryz.prog 102 [iI p0] (.tup [iI r.1,iI r.2.1,.bool r.2.2]):=by
 unfold gY at h;refine fT 0 17 Tryz.func102 Tryz.ntmps102 rfl (T.ci h rfl (fun ai h=>?_) (fun ai h=>?_))
 ·refine X 6 0 ?_;cases h;exact tD
 refine jn (Z:=Bool) (fun gz=>mkA 19 [(5,iI p0),(8,.bool gz)]) (fun gz=>[]) (fun gz=>eT p0 gz=some r) (fun gz h=>?_) (fun hK2=>?_)
 ·revert h;revert gz;intro z1 h;replace h:eT p0 z1=some r:=h;try dsimp only
  unfold eT at h;refine T.ci h rfl (fun fu h=>?_) (fun fu h=>?_)
  ·refine X 6 0 ?_;cases h;exact tD
  refine jn (Z:=Bool) (fun co=>mkA 19 [(5,iI p0),(12,.bool co)]) (fun co=>[]) (fun co=>fI p0 co=some r) (fun co h=>?_) (fun hK1=>?_)
  ·revert h;revert co;intro z2 h;replace h:fI p0 z2=some r:=h;try dsimp only
   unfold fI at h;refine T.ci h rfl (fun dL h=>?_) (fun dL h=>?_)
   ·refine X 6 0 ?_;cases h;exact tD
   refine X 5 0 (T.ci h rfl (fun cY h=>?_) (fun cY h=>?_))
   ·refine X 6 0 ?_;cases h;exact tD
   refine X 5 0 (T.ci h rfl (fun fk h=>?_) (fun fk h=>?_))
   ·refine X 6 0 ?_;cases h;exact tD
   refine X 7 0 ?_;cases h;exact tD
  refine X 6 0 (T.ci h rfl (fun lX h=>?_) (fun lX h=>?_))
  ·exact X 1 0 (wu (hK1 (p0==5) h) [] [] 0 rfl)
  exact X 4 0 (wu (hK1 (p0==7) h) [] [] 0 rfl)
 refine X 6 0 (T.ci h rfl (fun lZ h=>?_) (fun lZ h=>?_))
 ·exact X 1 0 (wu (hK2 (p0==2) h) [] [] 0 rfl)
 refine X 5 0 (T.ci h rfl (fun lY h=>?_) (fun lY h=>?_))
 ·exact X 1 0 (wu (hK2 (p0==3) h) [] [] 0 rfl)
 exact X 4 0 (wu (hK2 (p0==4) h) [] [] 0 rfl)
theorem na {p0 p1:Int} {r:Bool} (h:fQ p0 p1=some r):Fn Tryz.prog 103 [iI p0,iI p1] (.bool r):=by
 unfold fQ at h;refine fT 0 4 Tryz.func103 Tryz.ntmps103 rfl (j1 [(4,.bool ((p0==p1) || ((decide (p1<0)) && decide (p0 > 0))))] [] ?_ (fun hK=>?_))
 ·cases h;exact tD
 refine X 6 0 (gp 8 (fun ai=>?_) (fun ai=>?_))
 ·refine Yp 9 0 ?_;rw [ai] at hK;exact sx hK
 refine Y 3 0 (gp 11 (fun al=>?_) (fun al=>?_))
 ·refine Yp 6 0 ?_;rw [ai] at hK;rw [al] at hK;exact sx hK
 refine Yp 6 0 ?_;rw [ai] at hK;rw [al] at hK;exact sx hK
theorem sr {p0:Net} {r:(List Ends) × Int} (h:hO p0=some r):FnO Tryz.prog 77 [.agg (aJ p0)] (.tup [.ref 0,iI r.2]) [aR 129 2 aj r.1]:=by
 unfold hO at h;refine fT 0 7 Tryz.func77 Tryz.ntmps77 rfl (j1 [(1,.ptr 0 0),(36,.bool ((decide (((p0.Nodes).length:Int)<1)) || ((decide (((p0.Nodes).length:Int) > 12)) || ((decide (p0.Rings<0)) || decide (p0.Rings > 16)))))] [.box (aJ p0)] ?_ (fun hK=>?_))
 ·refine T.ci h rfl (fun bJ h=>?_) (fun bJ h=>?_)
  ·refine X 5 1 ?_;cases h;exact tO [(0,129,2)] [1] 1
  refine X 2 1 (j1 [(1,.ptr 0 0),(44,.bool ((decide (p0.Room<1)) || decide (p0.Room > 6)))] [.box (aJ p0)] ?_ (fun hK=>?_))
  ·refine T.ci h rfl (fun l6 h=>?_) (fun l6 h=>?_)
   ·refine X 5 1 ?_;cases h;exact tO [(0,129,2)] [1] 1
   refine B h fun x4 hx4 h=>(X 4 1 (sO (bC (rows:=List.map aj [(⟨(-1),(-1)⟩:Ends)]) (vs:=[.agg [iI (-1),iI (-1)]]) Ty.s123 Ty.z129 rfl rfl rfl rfl rfl rfl (Y 2 2 (sO (cO 2 (qU hx4) ⟨rfl,(Y 11 3 (sQ (aA Ty.s22 rfl (Y 3 3 (itr (fun di:Int × Int × (List Ends)=>mkA 197 [(1,.ptr 0 0),(4,.ref 1),(5,iI di.1),(51,sL an p0.Nodes),(52,iI ((p0.Nodes).length:Int)),(53,iI di.2.1)]) (fun di=>[.box (aJ p0),aR 129 2 aj di.2.2]) h (wk [] [0,2] 3 rfl) (fun di v_124 h eB=>?_))))))⟩))))))
   obtain ⟨s5,s6,s7⟩:=di;replace h:dX p0 s5 s6 s7=some v_124:=h;try dsimp only
   unfold dX at h;refine X 5 2 (T.ci h rfl (fun xy h=>?_) (fun xy h=>?_))
   ·refine B h fun x9 hx9 h=>(X 6 2 (sQ (aP Ty.s22 (fun _=>rfl) rfl rfl hx9 (B h fun x11 fq h=>(Y 9 2 (sO (cF (rZ fq) ⟨rfl,(Y 14 3 (T.ci h rfl (fun xz h=>?_) (fun xz h=>?_)))⟩)))))))
    ·refine X 5 3 ?_;replace h:=mi h eB;cases h;exact tO [(0,129,2)] [3] 3
    refine B h fun x12 cn h=>(X 2 3 ?_)
    obtain ⟨xA,hz,h⟩:=bind_some h;revert hz h;revert xA;intro c14 hz h;refine j1 [(1,.ptr 0 0),(4,.ref 1),(5,iI s5),(6,iI s6),(7,.ptr 2 0),(51,sL an p0.Nodes),(52,iI ((p0.Nodes).length:Int)),(53,iI s6),(80,.bool c14)] [.box (aJ p0),aR 129 2 aj s7,.box (an x9)] ?_ (fun hK=>?_)
    ·refine T.ci h rfl (fun xB h=>?_) (fun xB h=>?_)
     ·refine X 5 3 ?_;replace h:=mi h eB;cases h;exact tO [(0,129,2)] [3] 3
     refine X 2 3 (j1 [(1,.ptr 0 0),(4,.ref 1),(5,iI s5),(6,iI s6),(7,.ptr 2 0),(51,sL an p0.Nodes),(52,iI ((p0.Nodes).length:Int)),(53,iI s6),(118,.bool ((decide (x9.A<0)) || (if (x9.Kind==1)=true then ((decide (x9.A >= 4)) || (if (x9.Kind==2)=true then ((decide (x9.A > 3)) || ((x9.Kind != 1) && ((x9.Kind != 2) && x9.A != 0))) else ((x9.Kind != 1) && ((x9.Kind != 2) && x9.A != 0)))) else (if (x9.Kind==2)=true then ((decide (x9.A > 3)) || ((x9.Kind != 1) && ((x9.Kind != 2) && x9.A != 0))) else ((x9.Kind != 1) && ((x9.Kind != 2) && x9.A != 0))))))] [.box (aJ p0),aR 129 2 aj s7,.box (an x9)] ?_ (fun hK=>?_))
     ·refine T.ci h rfl (fun xC h=>?_) (fun xC h=>?_)
      ·refine X 5 3 ?_;replace h:=mi h eB;cases h;exact tO [(0,129,2)] [3] 3
      refine X 1 3 (jn (Z:=Int) (fun gh=>mkA 197 [(1,.ptr 0 0),(4,.ref 1),(5,iI gh),(6,iI s6),(7,.ptr 2 0),(51,sL an p0.Nodes),(52,iI ((p0.Nodes).length:Int)),(53,iI s6)]) (fun gh=>[.box (aJ p0),aR 129 2 aj s7,.box (an x9)]) (fun gh=>eW p0 s6 s7 x9 gh=some v_124) (fun gh h=>?_) (fun hK3=>?_))
      ·revert h;revert gh;intro z15 h;replace h:eW p0 s6 s7 x9 z15=some v_124:=h;try dsimp only
       unfold eW at h;refine X 5 3 (sQ (aA Ty.s37 rfl (Y 3 3 (itr (fun eA:Int × (List Ends)=>mkA 197 [(1,.ptr 0 0),(4,.ref 1),(5,iI z15),(6,iI s6),(7,.ptr 2 0),(51,sL an p0.Nodes),(52,iI ((p0.Nodes).length:Int)),(53,iI s6),(125,sL ak x9.In),(126,iI ((x9.In).length:Int)),(127,iI eA.1)]) (fun eA=>[.box (aJ p0),aR 129 2 aj eA.2,.box (an x9)]) h (wk [] [0,1,2] 3 rfl) (fun eA v_160 h lL=>?_)))));obtain ⟨s16,s17⟩:=eA;replace h:dV p0 s6 x9 z15 s16 s17=some v_160:=h;try dsimp only
       unfold dV at h;refine X 5 3 (T.ci h rfl (fun xD h=>?_) (fun xD h=>?_))
       ·refine B h fun x19 fw h=>(X 5 3 (sQ (aP Ty.s37 (fun _=>rfl) rfl rfl fw (Y 4 3 (j1 [(1,.ptr 0 0),(4,.ref 1),(5,iI z15),(6,iI s6),(7,.ptr 2 0),(12,iI x19),(51,sL an p0.Nodes),(52,iI ((p0.Nodes).length:Int)),(53,iI s6),(125,sL ak x9.In),(126,iI ((x9.In).length:Int)),(127,iI s16),(138,.bool ((decide (x19<0)) || decide (x19 >= p0.Rings)))] [.box (aJ p0),aR 129 2 aj s17,.box (an x9)] ?_ (fun hK=>?_))))))
        ·refine T.ci h rfl (fun xE h=>?_) (fun xE h=>?_)
         ·refine X 5 3 ?_;replace h:=mi h lL;replace h:=mi h eB;cases h;exact tO [(0,129,2)] [3] 3
         refine B h fun x23 iQ h=>(B h fun x24 iS h=>(X 6 3 (sQ (aG (en:=aj) Ty.s123 rfl rfl rfl iQ (Y 1 3 (sO (bE (en:=aj) (a:=x24) rfl rfl iS (bt Ty.k3 (c:=iI x24.dst) rfl (Y 2 3 (T.ci h rfl (fun xF h=>?_) (fun xF h=>?_)))))))))))
         ·refine X 5 3 ?_;replace h:=mi h lL;replace h:=mi h eB;cases h;exact tO [(0,129,2)] [3] 3
         exact B h fun x25 iT h=>(B h fun x26 yC h=>(X 5 3 (sQ (aG (en:=aj) Ty.s123 rfl rfl rfl iT (Y 1 3 (sO (kG (en:=aj) (a:=x26) (a':=(⟨x26.src,s6⟩:Ends)) Ty.c3 Ty.i3 rfl (vs:=[iI s6]) rfl rfl rfl yC rfl rfl rfl (Y 5 3 (lk h (wk [] [0,1,2] 3 rfl))))))))))
        refine X 5 3 (gp 133 (fun lM=>?_) (fun lM=>?_))
        ·refine Yp 6 3 ?_;rw [lM] at hK;exact sx hK
        refine Yp 6 3 ?_;rw [lM] at hK;exact sx hK
       refine X 1 3 ?_;replace h:=mi h lL;refine X 4 3 (sQ (aA Ty.s37 rfl (Y 3 3 (itr (fun ew:Int × (List Ends)=>mkA 197 [(1,.ptr 0 0),(4,.ref 1),(5,iI z15),(6,iI s6),(51,sL an p0.Nodes),(52,iI ((p0.Nodes).length:Int)),(53,iI s6),(152,sL ak x9.Out),(153,iI ((x9.Out).length:Int)),(154,iI ew.1)]) (fun ew=>[.box (aJ p0),aR 129 2 aj ew.2]) h (wk [] [0,1] 3 rfl) (fun ew v_179 h lN=>?_)))));obtain ⟨s27,s28⟩:=ew;replace h:dY p0 s6 x9 z15 s27 s28=some v_179:=h;try dsimp only
       unfold dY at h;refine X 5 2 (T.ci h rfl (fun xG h=>?_) (fun xG h=>?_))
       ·refine B h fun x30 cC h=>(X 5 2 (sQ (aP Ty.s37 (fun _=>rfl) rfl rfl cC (Y 4 2 (j1 [(1,.ptr 0 0),(4,.ref 1),(5,iI z15),(6,iI s6),(14,iI x30),(51,sL an p0.Nodes),(52,iI ((p0.Nodes).length:Int)),(53,iI s6),(152,sL ak x9.Out),(153,iI ((x9.Out).length:Int)),(154,iI s27),(165,.bool ((decide (x30<0)) || decide (x30 >= p0.Rings)))] [.box (aJ p0),aR 129 2 aj s28] ?_ (fun hK=>?_))))))
        ·refine T.ci h rfl (fun xH h=>?_) (fun xH h=>?_)
         ·refine X 5 2 ?_;replace h:=mi h lN;replace h:=mi h eB;cases h;exact tO [(0,129,2)] [2] 2
         refine B h fun x34 gB h=>(B h fun x35 l7 h=>(X 6 2 (sQ (aG (en:=aj) Ty.s123 rfl rfl rfl gB (Y 1 2 (sO (bE (en:=aj) (a:=x35) rfl rfl l7 (bt Ty.k3 (c:=iI x35.src) rfl (Y 2 2 (T.ci h rfl (fun xI h=>?_) (fun xI h=>?_)))))))))))
         ·refine X 5 2 ?_;replace h:=mi h lN;replace h:=mi h eB;cases h;exact tO [(0,129,2)] [2] 2
         exact B h fun x36 l8 h=>(B h fun x37 yD h=>(X 5 2 (sQ (aG (en:=aj) Ty.s123 rfl rfl rfl l8 (Y 1 2 (sO (kG (en:=aj) (a:=x37) (a':=(⟨s6,x37.dst⟩:Ends)) Ty.c3 Ty.i3 rfl (vs:=[iI s6]) rfl rfl rfl yD rfl rfl rfl (Y 5 2 (lk h (wk [] [0,1] 2 rfl))))))))))
        refine X 5 2 (gp 160 (fun lO=>?_) (fun lO=>?_))
        ·refine Yp 6 2 ?_;rw [lO] at hK;exact sx hK
        refine Yp 6 2 ?_;rw [lO] at hK;exact sx hK
       refine X 1 2 ?_;replace h:=mi h lN;exact X 4 2 (lk h (wk [] [0,1] 2 rfl))
      refine X 7 3 (T.ci h rfl (fun xJ h=>?_) (fun xJ h=>?_))
      ·exact X 5 3 (wu (hK3 (IntKind.i64.wrap (s5+1)) h) [] [0,1,2] 3 rfl)
      exact X 1 3 (sx (hK3 s5 h))
     refine X 6 3 ?_;rcases aq (decide (x9.A<0)) with aM | aM
     ·exact gT 84 aM (Yp 35 3 (T.sub hK ⟨rfl,rfl,rfl,rfl,rfl,rfl,rfl,rfl,(congrArg AV.bool (by simp only [aM,bz,if_true,if_false,y6])).symm,tqz⟩))
     refine yg 3 aM (yg 3 aM (yg 3 aM (yg 3 aM ?_)));rcases aq (x9.Kind==1) with aW | aW
     ·refine yg 3 aW (yg 3 aW (yg 3 aW (yQ aM (aS (v:=.bool (decide (x9.A >= 4))) rfl aW rfl (sQ (aK (v:=.bool (decide (x9.A >= 4))) rfl aM rfl (Y 1 3 ?_)))))));rcases aq (decide (x9.A >= 4)) with bA | bA
      ·exact gT 94 bA (Yp 25 3 (T.sub hK ⟨rfl,rfl,rfl,rfl,rfl,rfl,rfl,rfl,(congrArg AV.bool (by simp only [aM,aW,bA,bz,if_true,if_false,y6])).symm,tqz⟩))
      refine yg 3 bA (yg 3 bA (yg 3 bA (yg 3 bA ?_)));rcases aq (x9.Kind==2) with bM | bM
      ·refine yg 3 bM (yg 3 bM (yg 3 bM (yQ bA (aS (v:=.bool (decide (x9.A > 3))) rfl bM rfl (sQ (aK (v:=.bool (decide (x9.A > 3))) rfl bA rfl (Y 1 3 ?_)))))));rcases aq (decide (x9.A > 3)) with bR | bR
       ·exact gT 104 bR (Yp 15 3 (T.sub hK ⟨rfl,rfl,rfl,rfl,rfl,rfl,rfl,rfl,(congrArg AV.bool (by simp only [aM,aW,bA,bM,bR,bz,if_true,if_false,y6])).symm,tqz⟩))
       refine yg 3 bR (yg 3 bR (yg 3 bR (yg 3 bR ?_)));rcases aq (x9.Kind != 1) with dF | dF
       ·refine yg 3 dF (yg 3 dF (yg 3 dF (yQ bR (aS (v:=.bool (x9.Kind != 2)) rfl dF rfl (yg 3 bR ?_)))));rcases aq (x9.Kind != 2) with iD | iD
        ·exact gT 113 iD (Y 3 3 (gF 104 bR (Yp 3 3 (T.sub hK ⟨rfl,rfl,rfl,rfl,rfl,rfl,rfl,rfl,(congrArg AV.bool (by simp only [aM,aW,bA,bM,bR,dF,iD,bz,if_true,if_false,y6])).symm,tqz⟩))))
        exact gF 113 iD (Y 3 3 (gF 104 bR (Yp 3 3 (T.sub hK ⟨rfl,rfl,rfl,rfl,rfl,rfl,rfl,rfl,(congrArg AV.bool (by simp only [aM,aW,bA,bM,bR,dF,iD,bz,if_true,if_false,y6])).symm,tqz⟩))))
       exact gF 108 dF (Y 3 3 (gF 104 bR (Yp 8 3 (T.sub hK ⟨rfl,rfl,rfl,rfl,rfl,rfl,rfl,rfl,(congrArg AV.bool (by simp only [aM,aW,bA,bM,bR,dF,bz,if_true,if_false,y6])).symm,tqz⟩))))
      refine sN bM (sN bM (sN bM (yQ bA (aK (v:=.bool false) rfl bM rfl (sQ (aK (v:=.bool false) rfl bA rfl (Y 1 3 (yg 3 rfl (yg 3 rfl (yg 3 rfl (yg 3 rfl ?_)))))))))));rcases aq (x9.Kind != 1) with dG | dG
      ·refine yg 3 dG (yg 3 dG (yg 3 dG (yQ rfl (aS (v:=.bool (x9.Kind != 2)) rfl dG rfl (yg 3 rfl ?_)))));rcases aq (x9.Kind != 2) with iE | iE
       ·exact gT 113 iE (Yp 6 3 (T.sub hK ⟨rfl,rfl,rfl,rfl,rfl,rfl,rfl,rfl,(congrArg AV.bool (by simp only [aM,aW,bA,bM,dG,iE,bz,if_true,if_false,y6])).symm,tqz⟩))
       exact gF 113 iE (Yp 6 3 (T.sub hK ⟨rfl,rfl,rfl,rfl,rfl,rfl,rfl,rfl,(congrArg AV.bool (by simp only [aM,aW,bA,bM,dG,iE,bz,if_true,if_false,y6])).symm,tqz⟩))
      exact gF 108 dG (Yp 11 3 (T.sub hK ⟨rfl,rfl,rfl,rfl,rfl,rfl,rfl,rfl,(congrArg AV.bool (by simp only [aM,aW,bA,bM,dG,bz,if_true,if_false,y6])).symm,tqz⟩))
     refine sN aW (sN aW (sN aW (yQ aM (aK (v:=.bool false) rfl aW rfl (sQ (aK (v:=.bool false) rfl aM rfl (Y 1 3 (yg 3 rfl (yg 3 rfl (yg 3 rfl (yg 3 rfl ?_)))))))))));rcases aq (x9.Kind==2) with bN | bN
     ·refine yg 3 bN (yg 3 bN (yg 3 bN (yQ rfl (aS (v:=.bool (decide (x9.A > 3))) rfl bN rfl (sQ (aK (v:=.bool (decide (x9.A > 3))) rfl rfl rfl (Y 1 3 ?_)))))));rcases aq (decide (x9.A > 3)) with bS | bS
      ·exact gT 104 bS (Yp 15 3 (T.sub hK ⟨rfl,rfl,rfl,rfl,rfl,rfl,rfl,rfl,(congrArg AV.bool (by simp only [aM,aW,bN,bS,bz,if_true,if_false,y6])).symm,tqz⟩))
      refine yg 3 bS (yg 3 bS (yg 3 bS (yg 3 bS ?_)));rcases aq (x9.Kind != 1) with dH | dH
      ·refine yg 3 dH (yg 3 dH (yg 3 dH (yQ bS (aS (v:=.bool (x9.Kind != 2)) rfl dH rfl (yg 3 bS ?_)))));rcases aq (x9.Kind != 2) with iF | iF
       ·exact gT 113 iF (Y 3 3 (gF 104 bS (Yp 3 3 (T.sub hK ⟨rfl,rfl,rfl,rfl,rfl,rfl,rfl,rfl,(congrArg AV.bool (by simp only [aM,aW,bN,bS,dH,iF,bz,if_true,if_false,y6])).symm,tqz⟩))))
       exact gF 113 iF (Y 3 3 (gF 104 bS (Yp 3 3 (T.sub hK ⟨rfl,rfl,rfl,rfl,rfl,rfl,rfl,rfl,(congrArg AV.bool (by simp only [aM,aW,bN,bS,dH,iF,bz,if_true,if_false,y6])).symm,tqz⟩))))
      exact gF 108 dH (Y 3 3 (gF 104 bS (Yp 8 3 (T.sub hK ⟨rfl,rfl,rfl,rfl,rfl,rfl,rfl,rfl,(congrArg AV.bool (by simp only [aM,aW,bN,bS,dH,bz,if_true,if_false,y6])).symm,tqz⟩))))
     refine sN bN (sN bN (sN bN (yQ rfl (aK (v:=.bool false) rfl bN rfl (sQ (aK (v:=.bool false) rfl rfl rfl (Y 1 3 (yg 3 rfl (yg 3 rfl (yg 3 rfl (yg 3 rfl ?_)))))))))));rcases aq (x9.Kind != 1) with dI | dI
     ·refine yg 3 dI (yg 3 dI (yg 3 dI (yQ rfl (aS (v:=.bool (x9.Kind != 2)) rfl dI rfl (yg 3 rfl ?_)))));rcases aq (x9.Kind != 2) with iG | iG
      ·exact gT 113 iG (Yp 6 3 (T.sub hK ⟨rfl,rfl,rfl,rfl,rfl,rfl,rfl,rfl,(congrArg AV.bool (by simp only [aM,aW,bN,dI,iG,bz,if_true,if_false,y6])).symm,tqz⟩))
      exact gF 113 iG (Yp 6 3 (T.sub hK ⟨rfl,rfl,rfl,rfl,rfl,rfl,rfl,rfl,(congrArg AV.bool (by simp only [aM,aW,bN,dI,iG,bz,if_true,if_false,y6])).symm,tqz⟩))
     exact gF 108 dI (Yp 11 3 (T.sub hK ⟨rfl,rfl,rfl,rfl,rfl,rfl,rfl,rfl,(congrArg AV.bool (by simp only [aM,aW,bN,dI,bz,if_true,if_false,y6])).symm,tqz⟩))
    refine X 4 3 (sQ (aA Ty.s37 rfl (Y 1 3 (sO (cF (na cn) ⟨rfl,(Y 2 3 (gi 73 hz (fun xK hz=>?_) (fun xK hz=>?_)))⟩)))))
    ·refine Yp 8 3 ?_;cases hz;exact sx hK
    refine B hz fun x13 bn hz=>(Y 2 3 (yQ rfl (aA Ty.s37 rfl (Y 1 3 (yO rfl (cF (na bn) ⟨rfl,(Yp 3 3 ?_)⟩))))))
    cases hz;exact sx hK
   refine X 1 2 ?_;replace h:=mi h eB;refine X 4 2 (sQ (cJ (en:=aj) Ty.s123 rfl rfl (Y 3 2 (itr (fun gb:Int=>mkA 197 [(4,.ref 0),(5,iI s5),(179,.ref 0),(180,iI ((s7).length:Int)),(181,iI gb)]) (fun gb=>[aR 129 2 aj s7]) h (wk [] [1] 2 rfl) (fun gb v_198 h kb=>?_)))));revert kb h;revert gb;intro s38 h kb;replace h:eV s5 s7 s38=some v_198:=h;try dsimp only
   unfold eV at h;refine X 5 1 (T.ci h rfl (fun xL h=>?_) (fun xL h=>?_))
   ·refine B h fun x41 yE h=>(B h fun x42 l9 h=>(X 5 1 (sQ (aG (en:=aj) Ty.s123 rfl rfl rfl yE (sO (bE (en:=aj) (a:=x42) rfl rfl l9 (uC Ty.k129 Ty.c129 rfl (cs:=(aj x42)) rfl (Y 3 1 (j1 [(4,.ref 0),(5,iI s5),(179,.ref 0),(180,iI ((s7).length:Int)),(181,iI s38),(192,.bool ((decide (x42.src<0)) || decide (x42.dst<0)))] [aR 129 2 aj s7] ?_ (fun hK=>?_))))))))))
    ·refine T.ci h rfl (fun xM h=>?_) (fun xM h=>?_)
     ·refine X 5 1 ?_;replace h:=mi h kb;cases h;exact tO [(0,129,2)] [1] 1
     exact X 5 1 (lk h (wk [] [0] 1 rfl))
    refine X 6 2 (gp 188 (fun lP=>?_) (fun lP=>?_))
    ·refine Yp 5 2 ?_;rw [lP] at hK;exact wu hK [] [0] 2 rfl
    refine Yp 5 2 ?_;rw [lP] at hK;exact wu hK [] [0] 2 rfl
   refine X 1 1 ?_;replace h:=mi h kb;refine X 6 1 (T.ci h rfl (fun xN h=>?_) (fun xN h=>?_))
   ·refine X 5 1 ?_;cases h;exact tO [(0,129,2)] [1] 1
   refine X 7 1 ?_;cases h;exact tO [] [0] 1
  refine X 6 1 (gp 40 (fun fu=>?_) (fun fu=>?_))
  ·refine Yp 5 1 ?_;rw [fu] at hK;exact sx hK
  refine Yp 5 1 ?_;rw [fu] at hK;exact sx hK
 refine X 4 1 (sQ (aA Ty.s22 rfl (Y 2 1 (gp 21 (fun ai=>?_) (fun ai=>?_)))))
 ·refine Yp 16 1 ?_;rw [ai] at hK;exact sx hK
 refine Y 2 1 (yQ rfl (aA Ty.s22 rfl (Yp 3 1 (gp 27 (fun al=>?_) (fun al=>?_)))))
 ·refine Yp 10 1 ?_;rw [ai] at hK;rw [al] at hK;exact sx hK
 refine Yp 5 1 (gp 32 (fun bp=>?_) (fun bp=>?_))
 ·refine Yp 5 1 ?_;rw [ai] at hK;rw [al] at hK;rw [bp] at hK;exact sx hK
 refine Yp 5 1 ?_;rw [ai] at hK;rw [al] at hK;rw [bp] at hK;exact sx hK
theorem qV {p0:Int} {p1:List Bool} {p2:List Ends} {r:Bool} (h:gM p0 p1 p2=some r):FnX Tryz.prog 79 [iI p0,.ptr 0 0,.ptr 1 0] [.box [.ref 2],.box [.ref 3],aR 4 1 bc p1,aR 129 2 aj p2] (.bool r) [.box [.ref 2],.box [.ref 3],aR 4 1 bc p1,aR 129 2 aj p2]:=by
 unfold gM at h;refine fT 4 0 Tryz.func79 Tryz.ntmps79 rfl ?_;refine B h fun x5 hx5 h=>(B h fun x6 hx6 h=>(B h fun x7 hx7 h=>(B h fun x8 hx8 h=>(X 5 4 (T.drawn mixed (k:=10) rfl (rq [2] 9 (rL [1,3,4,5,6,7,8,9] 1 rfl (r0 3 rfl (aG (en:=aj) Ty.s123 rfl rfl rfl hx5 (rq [4] 6 ?_))))))))))
 refine rL [0,6,7,8,9] 0 rfl (ra1 5 (oO rfl (bE (en:=aj) (a:=x6) rfl rfl hx6 (bt Ty.k3 (c:=iI x6.src) rfl (r0 6 rfl (aG (en:=bc) Ty.s126 rfl rfl rfl hx7 (ra1 7 (oO rfl (bE (en:=bc) (a:=x8) rfl rfl hx8 (bt Ty.k4 (c:=.bool x8) rfl (rq [8,9] 0 (RA.done (by decide +kernel) ?_))))))))))));cases h;exact tN [0,1,2,3]
theorem qQ {p0:List Int} {p1:List Bool} {p2:List Ends} {r:Int} (h:iX p0 p1 p2=some r):FnX Tryz.prog 104 [sL ak p0,.func 79 [.ptr 0 0,.ptr 1 0]] [.box [.ref 2],.box [.ref 3],aR 4 1 bc p1,aR 129 2 aj p2] (iI r) [.box [.ref 2],.box [.ref 3],aR 4 1 bc p1,aR 129 2 aj p2]:=by
 unfold iX at h;refine fT 4 8 Tryz.func104 Tryz.ntmps104 rfl (sQ (aA Ty.s37 rfl (Y 3 4 (itr (fun gw:Int=>mkA 19 [(0,sL ak p0),(1,.func 79 [.ptr 0 0,.ptr 1 0]),(7,iI ((p0).length:Int)),(8,iI gw)]) (fun gw=>[.box [.ref 2],.box [.ref 3],aR 4 1 bc p1,aR 129 2 aj p2]) h (wk [] [0,1,2,3] 4 rfl) (fun gw v_6 h kk=>?_)))));revert kk h;revert gw;intro s1 h kk;replace h:fy p0 p1 p2 s1=some v_6:=h;try dsimp only
 unfold fy at h;refine X 5 4 (T.ci h rfl (fun ma h=>?_) (fun ma h=>?_))
 ·refine B h fun x4 hx4 h=>(B h fun x5 hx5 h=>(X 13 4 (sQ (aP Ty.s37 (fun _=>rfl) rfl rfl hx4 (Y 1 4 (sO (cG [0,1,2,3] 4 4 (qV hx5) ⟨rfl,(Y 1 4 (T.ci h rfl (fun dL h=>?_) (fun dL h=>?_)))⟩)))))))
  ·refine X 5 4 ?_;replace h:=mi h kk;cases h;exact tN [0,1,2,3]
  exact X 5 4 (lk h (wk [] [0,1,2,3] 4 rfl))
 refine X 1 4 ?_;replace h:=mi h kk;refine X 4 4 ?_;cases h;exact tN [0,1,2,3]
theorem qP {p0:List Int} {p1:List Bool} {p2:List Ends} {r:Bool} (h:fB p0 p1 p2=some r):FnX Tryz.prog 78 [sL ak p0,.func 79 [.ptr 0 0,.ptr 1 0]] [.box [.ref 2],.box [.ref 3],aR 4 1 bc p1,aR 129 2 aj p2] (.bool r) [.box [.ref 2],.box [.ref 3],aR 4 1 bc p1,aR 129 2 aj p2]:=by
 unfold fB at h;refine fT 4 0 Tryz.func78 Tryz.ntmps78 rfl ?_;refine B h fun x2 hx2 h=>(X 8 4 (sO (cG [0,1,2,3] 4 4 (qQ hx2) ⟨rfl,(Y 3 4 ?_)⟩)))
 cases h;exact tN [0,1,2,3]
theorem r4 {p0:Net} {r:(List Int) × Int} (h:g9 p0=some r):FnO Tryz.prog 50 [.agg (aJ p0)] (.tup [.ref 0,iI r.2]) [aR 3 1 ak r.1]:=by
 unfold g9 at h;refine fT 0 0 Tryz.func50 Tryz.ntmps50 rfl ?_;refine B h fun x2 hx2 h=>(X 9 0 (sO (cO 1 (sr hx2) ⟨rfl,(Y 13 2 (T.ci h rfl (fun ai h=>?_) (fun ai h=>?_)))⟩)))
 ·refine X 6 3 ?_;cases h;exact tO [(0,3,1)] [3] 3
 refine B h fun x4 hx4 h=>(X 9 3 (sQ (aA Ty.s22 rfl (sO (o_mk (en:=bc) (zr:=false) Ty.s126 Ty.z4 rfl rfl hx4 rfl rfl (Y 5 4 (itr (fun eD:(List Int) × (List Bool)=>mkA 61 [(1,.ptr 0 0),(4,.ptr 1 0),(6,.ref 2),(7,.ptr 3 0)]) (fun eD=>[.box (aJ p0),.box [.ref 4],aR 3 1 ak eD.1,.box [.ref 5],aR 129 2 aj x2.1,aR 4 1 bc eD.2]) h (wk [(6,3,1)] [0,2,5,4,1,3] 5 rfl) (fun eD v_73 h qm=>?_))))))))
 obtain ⟨s5,s6⟩:=eD;replace h:dU p0 x2 s5 s6=some v_73:=h;try dsimp only
 unfold dU at h;refine X 4 6 (sQ (cJ (en:=ak) Ty.s37 rfl rfl (Y 2 6 (sQ (aA Ty.s22 rfl (Y 2 6 (T.ci h rfl (fun yn h=>?_) (fun yn h=>?_))))))))
 ·refine X 6 6 (jn (Z:=Int) (fun gr=>mkA 61 [(1,.ptr 0 0),(4,.ptr 1 0),(6,.ref 2),(7,.ptr 3 0),(8,iI gr)]) (fun gr=>[.box (aJ p0),.box [.ref 4],aR 3 1 ak s5,.box [.ref 5],aR 129 2 aj x2.1,aR 4 1 bc s6]) (fun gr=>eS s5 s6 gr=some v_73) (fun gr h=>?_) (fun hK1=>?_))
  ·revert h;revert gr;intro z14 h;replace h:eS s5 s6 z14=some v_73:=h;try dsimp only
   unfold eS at h;refine X 6 6 (T.ci h rfl (fun yo h=>?_) (fun yo h=>?_))
   ·refine X 5 6 ?_;replace h:=mi h qm;cases h;exact tO [(0,3,1)] [6] 6
   refine B h fun x17 eG h=>(B h fun x18 fx h=>(X 5 6 (sQ (aG (en:=bc) Ty.s126 rfl rfl rfl eG (sO (kG (en:=bc) (a:=x18) (a':=true) Ty.c4 Ty.i4 rfl (vs:=[.bool true]) rfl rfl rfl fx rfl rfl rfl (B h fun x19 fw h=>(Y 4 6 (sO (bC (rows:=List.map ak [z14]) (vs:=[iI z14]) Ty.s37 Ty.z3 rfl rfl rfl rfl rfl rfl (sO (eZ (en:=ak) (xs:=s5) (ys:=([z14]:List Int)) Ty.s37 (fun _=>rfl) rfl rfl rfl fw rfl rfl (Y 2 8 ?_)))))))))))))
   exact lk h (wk [] [0,1,7,3,4,5] 8 rfl)
  refine X 5 6 (sQ (aA Ty.s22 rfl (Y 3 6 (itr (fun gc:Int=>mkA 61 [(1,.ptr 0 0),(4,.ptr 1 0),(6,.ref 2),(7,.ptr 3 0),(8,iI (-1)),(30,sL an p0.Nodes),(31,iI ((p0.Nodes).length:Int)),(32,iI gc)]) (fun gc=>[.box (aJ p0),.box [.ref 4],aR 3 1 ak s5,.box [.ref 5],aR 129 2 aj x2.1,aR 4 1 bc s6]) h (wk [] [0,1,2,3,4,5] 6 rfl) (fun gc v_103 h ke=>?_)))));revert ke h;revert gc;intro s7 h ke;replace h:dS p0 x2 s5 s6 s7=some v_103:=h;try dsimp only
  unfold dS at h;refine X 5 6 (T.ci h rfl (fun xO h=>?_) (fun xO h=>?_))
  ·refine B h fun x9 hx9 h=>(X 6 6 (sQ (aP Ty.s22 (fun _=>rfl) rfl rfl hx9 (B h fun x10 cB h=>(B h fun x11 fq h=>(Y 5 6 ?_))))))
   obtain ⟨xP,hz,h⟩:=bind_some h;revert hz h;revert xP;intro c13 hz h;refine j1 [(1,.ptr 0 0),(4,.ptr 1 0),(6,.ref 2),(7,.ptr 3 0),(8,iI (-1)),(9,iI s7),(30,sL an p0.Nodes),(31,iI ((p0.Nodes).length:Int)),(32,iI s7),(48,.bool c13)] [.box (aJ p0),.box [.ref 4],aR 3 1 ak s5,.box [.ref 5],aR 129 2 aj x2.1,aR 4 1 bc s6] ?_ (fun hK=>?_)
   ·refine T.ci h rfl (fun xQ h=>?_) (fun xQ h=>?_)
    ·refine X 6 6 ?_;replace h:=mi h ke;exact sx (hK1 s7 h)
    exact X 5 6 (lk h (wk [] [0,1,2,3,4,5] 6 rfl))
   refine X 4 7 (sQ (aG (en:=bc) Ty.s126 rfl rfl rfl cB (sO (bE (en:=bc) (a:=x11) rfl rfl fq (bt Ty.k4 (c:=.bool x11) rfl (Y 2 7 (gi 42 hz (fun xR hz=>?_) (fun xR hz=>?_))))))))
   ·refine B hz fun x12 cn hz=>(Y 3 7 (yO rfl (cG [3,1,5,4] 7 4 (qP cn) ⟨rfl,(Yp 3 7 ?_)⟩)))
    cases hz;exact wu hK [] [0,1,2,3,4,5] 7 rfl
   refine Yp 7 7 ?_;cases hz;exact wu hK [] [0,1,2,3,4,5] 7 rfl
  refine X 1 6 ?_;replace h:=mi h ke;exact sx (hK1 (-1) h)
 refine X 1 6 ?_;replace h:=mi h qm;refine X 6 6 ?_;cases h;exact tO [] [2] 6
theorem mY {p0:Net} {r:Int} (h:da p0=some r):Fn Tryz.prog 25 [.agg (aJ p0)] (iI r):=by
 unfold da at h;refine fT 0 0 Tryz.func25 Tryz.ntmps25 rfl ?_;refine B h fun x2 hx2 h=>(X 8 0 (sO (cO 1 (r4 hx2) ⟨rfl,(Y 11 2 ?_)⟩)))
 cases h;exact tD
theorem re {p0 r:List Int} (h:kF p0=some r):FnX Tryz.prog 80 [.ptr 0 0] [.boxB 93 [.np 0,.ref 1],aR 5 1 aH p0] (.tup []) [.boxB 93 [.np 0,.ref 1],aR 5 1 aH r]:=by cases h;exact rF _
theorem qM {p0:List UInt8} {p1:List Int} {r:Int × Unit × (List Int)} (h:iW p0 p1=some r):FnX Tryz.prog 52 [.ptr 0 0,.str p0] [.boxB 93 [.np 0,.ref 1],aR 5 1 aH p1] (.tup [iI r.1,.nili]) [.boxB 93 [.np 0,.ref 2],.dead,aR 5 1 aH r.2.2]:=by unfold iW at h;refine fT 2 0 Tryz.func52 Tryz.ntmps52 rfl ?_;refine T.mvBB 0 1 1 (cs:=[.np 0,.ref 1]) rfl rfl rfl rfl (cs':=[.np 0,.ref 2]) rfl rfl (B h fun x2 hx2 h=>(X 8 3 (sO (cG [0,2] 3 2 (re hx2) ⟨rfl,(B h fun x4 hx4 h=>(Y 7 3 (sO (rG rfl rfl (bt Ty.k91 (c:=.ref 2) rfl (Y 1 3 (sO (um (xs:=x2) (s:=p0) Ty.s91 Tryz.underlying9 (by kernel_rfl) rfl rfl rfl hx4 rfl rfl (Y 2 4 ?_)))))))))⟩))));refine sO (uV rfl rfl (vs:=[.ref 3]) rfl Tryz.underlying91 rfl (by decide) rfl (Y 8 4 ?_));cases h;exact tN [0,1,3]
theorem mF {p0:List (List UInt8)} {p1 r:List Int} (h:fE p0 p1=some r):FnX Tryz.prog 51 [.ref 0,.ptr 1 0] [aR 9 1 aa p0,.boxB 93 [.np 1,.ref 2],aR 5 1 aH p1] (.tup []) [aR 9 1 aa p0,.boxB 93 [.np 1,.ref 3],.dead,aR 5 1 aH r]:=by unfold fE at h;refine fT 3 0 Tryz.func51 Tryz.ntmps51 rfl ?_;refine T.mvBB 1 1 2 (cs:=[.np 1,.ref 2]) rfl rfl rfl rfl (cs':=[.np 1,.ref 3]) rfl rfl (B h fun x1 hx1 h=>(B h fun x2 hx2 h=>(B h fun x3 hx3 h=>(X 2 4 (sO (cF (kD hx1) ⟨rfl,(sQ (iu rfl rfl hx2 (sO (cG [1,3] 4 3 (qM hx3) ⟨rfl,(Y 1 5 ?_)⟩))))⟩))))));cases h;exact eN [0,1,2,4]
theorem bD {r:List (List UInt8)} (h:dZ=some r):FnO Tryz.prog 48 [] (.ref 0) [aR 9 1 aa r]:=by unfold dZ at h;refine fT 0 6 Tryz.func48 Tryz.ntmps48 rfl (sO (bC (rows:=List.map aa [[],[115,111,117,114,99,101],[109,97,112],[115,99,97,110],[99,111,117,110,116],[116,101,101],[109,101,114,103,101],[115,112,108,105,116],[115,105,110,107]]) (vs:=[.str [],.str [115,111,117,114,99,101],.str [109,97,112],.str [115,99,97,110],.str [99,111,117,110,116],.str [116,101,101],.str [109,101,114,103,101],.str [115,112,108,105,116],.str [115,105,110,107]]) Ty.s32 Ty.z9 rfl rfl rfl rfl rfl rfl (Y 2 1 ?_)));cases h;exact tO [] [0] 1
theorem dv {p0:List Int} {r:List UInt8} (h:gP p0=some r):Fn Tryz.prog 53 [sL ak p0] (.str r):=by
 unfold gP at h;refine fT 0 12 Tryz.func53 Tryz.ntmps53 rfl (sQ (aA Ty.s37 rfl (Y 3 0 (itr (fun cX:Int × (List (List UInt8))=>mkA 23 [(3,.ref 0),(6,sL ak p0),(7,iI ((p0).length:Int)),(8,iI cX.1)]) (fun cX=>[aR 9 1 aa cX.2]) h (wk [(3,9,1)] [0] 0 rfl) (fun cX v_4 h yF=>?_)))));obtain ⟨s1,s2⟩:=cX;replace h:dQ p0 s1 s2=some v_4:=h;try dsimp only
 unfold dQ at h;refine X 5 1 (T.ci h rfl (fun fu h=>?_) (fun fu h=>?_))
 ·refine B h fun x4 hx4 h=>(X 5 1 (sQ (aP Ty.s37 (fun _=>rfl) rfl rfl hx4 (B h fun x5 hx5 h=>(B h fun x6 hx6 h=>(Y 6 1 (sO (cF (bf hx5) ⟨rfl,(sO (bC (rows:=List.map aa [x5]) (vs:=[.str x5]) Ty.s32 Ty.z9 rfl rfl rfl rfl rfl rfl (sO (eZ (en:=aa) (xs:=s2) (ys:=([x5]:List (List UInt8))) Ty.s32 (fun _=>rfl) rfl rfl rfl hx6 rfl rfl (Y 6 3 ?_)))))⟩))))))))
  exact lk h (wk [] [2] 3 rfl)
 refine X 1 1 ?_;replace h:=mi h yF;refine X 4 1 (sQ (cJ (en:=aa) Ty.s32 rfl rfl (Y 2 1 (T.ci h rfl (fun ma h=>?_) (fun ma h=>?_)))))
 ·refine X 4 1 ?_;cases h;exact tD
 refine B h fun x8 hx8 h=>(X 4 1 (sO (cF (kD hx8) ⟨rfl,(Y 2 1 ?_)⟩)))
 cases h;exact tD
theorem rn {p0:List Int} {r:List UInt8} (h:kQ p0=some r):FnX Tryz.prog 54 [.ptr 0 0] [.boxB 93 [.np 0,.ref 1],aR 5 1 aH p0] (.str r) [.dead,.dead]:=sM p0 r h
theorem ro {p0:Net} {r:(List UInt8) × Int} (h:gV p0=some r):Fn Tryz.prog 26 [.agg (aJ p0)] (.tup [.str r.1,iI r.2]):=by
 unfold gV at h;refine fT 0 0 Tryz.func26 Tryz.ntmps26 rfl ?_;refine B h fun x2 hx2 h=>(X 10 0 (sO (cF (mY hx2) ⟨rfl,(Y 7 1 (T.ci h rfl (fun ai h=>?_) (fun ai h=>?_)))⟩)))
 ·refine X 6 1 ?_;cases h;exact tD
 refine X 3 1 (sO (vo (e:=5) (z:=1) Ty.z93 rfl rfl (B h fun x6 hx6 h=>(B h fun x7 hx7 h=>(B h fun x8 hx8 h=>(Y 7 3 (T.drawn mixed (k:=9) rfl ?_)))))));apply RA.jn 3 (bm 9 63);intro hS2
 ·refine rq [0,1,4] 6 (rL [2,3,6,7,8] 2 rfl (ra2 3 5 ?_ ?_))
  ·exact oO rfl (cF (bf hx6) ⟨rfl,(ra1 5 (og 3 ⟨rfl,(raE hS2)⟩))⟩)
  ·exact og 3 ⟨rfl,(ra1 3 (oO rfl (cF (bf hx6) ⟨rfl,(raT hS2)⟩)))⟩
 refine ra1 6 (oO rfl (cF (bf hx7) ⟨rfl,(ra1 7 (oO rfl (bC (rows:=List.map aa [[114,105,110,103,115],x6,x7]) (vs:=[.str [114,105,110,103,115],.str x6,.str x7]) Ty.s32 Ty.z9 rfl rfl rfl rfl rfl rfl (ra1 8 (oO rfl (cG [3,1,2] 4 4 (mF hx8) ⟨rfl,(RA.done (by decide +kernel) (X 5 5 (sQ (aA Ty.s22 rfl (Y 3 5 ?_)))))⟩))))))⟩));refine itr (fun cW:Int × (List Int)=>mkA 50 [(5,.ptr 0 0),(6,.func 51 [.ptr 0 0]),(25,sL an p0.Nodes),(26,iI ((p0.Nodes).length:Int)),(27,iI cW.1)]) (fun cW=>[.boxB 93 [.np 0,.ref 1],aR 5 1 aH cW.2]) h (wk [] [1,4] 5 rfl) (fun cW v_72 h yp=>?_);obtain ⟨s9,s10⟩:=cW;replace h:dR p0 s9 s10=some v_72:=h;try dsimp only
 unfold dR at h;refine X 5 2 (T.ci h rfl (fun yq h=>?_) (fun yq h=>?_))
 ·refine B h fun x12 cn h=>(X 5 2 (sQ (aP Ty.s22 (fun _=>rfl) rfl rfl cn (B h fun x13 bn h=>(B h fun x14 bq h=>(B h fun x15 eH h=>(B h fun x16 b6 h=>(B h fun x17 eG h=>(B h fun x18 fx h=>(B h fun x19 fw h=>?_))))))))))
  refine Y 4 2 (T.drawn mixed (k:=17) rfl ?_);apply RA.jn 2 (bm 17 32767);intro qy;apply RA.jn 3 (bm 17 16383);intro mc;apply RA.jn 3 (bm 17 32735);intro qz;apply RA.jn 4 (bm 17 14335);intro km;apply RA.jn 4 (bm 17 16351);intro me;apply RA.jn 5 (bm 17 14079);intro mf;apply RA.jn 5 (bm 17 14303);intro kn;apply RA.jn 5 (bm 17 6143);intro mh;apply RA.jn 6 (bm 17 14047);intro iU;apply RA.jn 6 (bm 17 16327);intro qA;apply RA.jn 6 (bm 17 13055);intro qC;apply RA.jn 6 (bm 17 5887);intro qD;apply RA.jn 6 (bm 17 6111);intro mj;apply RA.jn 7 (bm 17 14279);intro ml;apply RA.jn 7 (bm 17 13023);intro ko;apply RA.jn 7 (bm 17 5855);intro kp;apply RA.jn 8 (bm 17 14023);intro kq;apply RA.jn 8 (bm 17 14029);intro kr;apply RA.jn 8 (bm 17 6087);intro qE;apply RA.jn 8 (bm 17 4831);intro mm;apply RA.jn 9 (bm 17 12999);intro mo;apply RA.jn 9 (bm 17 13901);intro mq;apply RA.jn 9 (bm 17 14021);intro mr;apply RA.jn 9 (bm 17 13005);intro mu;apply RA.jn 9 (bm 17 5831);intro mw;apply RA.jn 9 (bm 17 5837);intro my;apply RA.jn 10 (bm 17 4807);intro qn;apply RA.jn 10 (bm 17 12877);intro qo;apply RA.jn 10 (bm 17 12997);intro qp;apply RA.jn 10 (bm 17 13893);intro qq;apply RA.jn 10 (bm 17 5709);intro qr;apply RA.jn 10 (bm 17 5829);intro qt;apply RA.jn 10 (bm 17 4813);intro qu
  ·refine rq [0,2,6,9,12] 12 (ra5 1 3 7 10 13 ?_ ?_ ?_ ?_ ?_)
   ·exact oO rfl (cO 3 (bD bn) ⟨rfl,(rL [7,8,11,14,15,16] 7 rfl (raE qn))⟩)
   ·refine og 3 ⟨rfl,(ra4 1 7 10 13 ?_ ?_ ?_ ?_)⟩
    ·exact oO rfl (cO 3 (bD bn) ⟨rfl,(r0 4 rfl (aG (en:=aa) Ty.s32 rfl rfl rfl bq (rL [7,8,11,14,15,16] 7 rfl (raE mm))))⟩)
    ·exact og 3 ⟨rfl,(raE qu)⟩
    ·exact og 3 ⟨rfl,(raE qr)⟩
    ·exact og 3 ⟨rfl,(raE qo)⟩
   ·refine og 3 ⟨rfl,(ra4 1 3 10 13 ?_ ?_ ?_ ?_)⟩
    ·exact oO rfl (cO 3 (bD bn) ⟨rfl,(raT qn)⟩)
    ·exact og 3 ⟨rfl,(raT qu)⟩
    ·exact og 3 ⟨rfl,(raE qt)⟩
    ·exact og 3 ⟨rfl,(raE qp)⟩
   ·refine og 3 ⟨rfl,(ra4 1 3 7 13 ?_ ?_ ?_ ?_)⟩
    ·exact oO rfl (cO 3 (bD bn) ⟨rfl,(rL [7,8,11,14,15,16] 7 rfl (raE mw))⟩)
    ·exact og 3 ⟨rfl,(raT qr)⟩
    ·exact og 3 ⟨rfl,(raT qt)⟩
    ·exact og 3 ⟨rfl,(raE qq)⟩
   ·refine og 3 ⟨rfl,(ra4 1 3 7 10 ?_ ?_ ?_ ?_)⟩
    ·exact oO rfl (cO 3 (bD bn) ⟨rfl,(rL [7,8,11,14,15,16] 7 rfl (raE mo))⟩)
    ·exact og 3 ⟨rfl,(raT qo)⟩
    ·exact og 3 ⟨rfl,(raT qp)⟩
    ·exact og 3 ⟨rfl,(raT qq)⟩
  ·refine ra3 1 10 13 ?_ ?_ ?_
   ·exact oO rfl (cO 3 (bD bn) ⟨rfl,(r0 4 rfl (aG (en:=aa) Ty.s32 rfl rfl rfl bq (raT mm)))⟩)
   ·exact og 3 ⟨rfl,(raE my)⟩
   ·exact og 3 ⟨rfl,(raE mu)⟩
  ·refine ra3 1 3 13 ?_ ?_ ?_
   ·exact oO rfl (cO 3 (bD bn) ⟨rfl,(raT mw)⟩)
   ·exact og 3 ⟨rfl,(raT my)⟩
   ·exact og 3 ⟨rfl,(raE mr)⟩
  ·refine ra3 1 7 13 ?_ ?_ ?_
   ·exact oO rfl (cO 3 (bD bn) ⟨rfl,(r0 4 rfl (aG (en:=aa) Ty.s32 rfl rfl rfl bq (rL [7,8,11,14,15,16] 7 rfl (raE kp))))⟩)
   ·exact og 3 ⟨rfl,(raT my)⟩
   ·exact og 3 ⟨rfl,(raE mq)⟩
  ·refine ra3 1 3 7 ?_ ?_ ?_
   ·exact oO rfl (cO 3 (bD bn) ⟨rfl,(rL [7,8,11,14,15,16] 7 rfl (raE kq))⟩)
   ·exact og 3 ⟨rfl,(raT mq)⟩
   ·exact og 3 ⟨rfl,(raT mr)⟩
  ·refine ra3 1 3 10 ?_ ?_ ?_
   ·exact oO rfl (cO 3 (bD bn) ⟨rfl,(raT mo)⟩)
   ·exact og 3 ⟨rfl,(raT mu)⟩
   ·exact og 3 ⟨rfl,(raT mr)⟩
  ·refine ra3 1 7 10 ?_ ?_ ?_
   ·exact oO rfl (cO 3 (bD bn) ⟨rfl,(r0 4 rfl (aG (en:=aa) Ty.s32 rfl rfl rfl bq (rL [7,8,11,14,15,16] 7 rfl (raE ko))))⟩)
   ·exact og 3 ⟨rfl,(raT mu)⟩
   ·exact og 3 ⟨rfl,(raT mq)⟩
  ·refine ra4 3 8 10 13 ?_ ?_ ?_ ?_
   ·exact og 4 ⟨rfl,(r0 4 rfl (aG (en:=aa) Ty.s32 rfl rfl rfl bq (raT mm)))⟩
   ·exact oO rfl (cF (bf b6) ⟨rfl,(rL [10,11,14,15,16] 10 rfl (raE qE))⟩)
   ·exact og 4 ⟨rfl,(raT mw)⟩
   ·exact og 4 ⟨rfl,(raT mo)⟩
  ·refine ra2 1 13 ?_ ?_
   ·exact oO rfl (cO 3 (bD bn) ⟨rfl,(r0 4 rfl (aG (en:=aa) Ty.s32 rfl rfl rfl bq (raT kp)))⟩)
   ·exact og 3 ⟨rfl,(raE kr)⟩
  ·refine ra3 3 8 13 ?_ ?_ ?_
   ·exact og 4 ⟨rfl,(r0 4 rfl (aG (en:=aa) Ty.s32 rfl rfl rfl bq (raT kp)))⟩
   ·exact oO rfl (cF (bf b6) ⟨rfl,(raT qE)⟩)
   ·exact og 4 ⟨rfl,(raT kq)⟩
  ·refine ra2 1 10 ?_ ?_
   ·exact oO rfl (cO 3 (bD bn) ⟨rfl,(r0 4 rfl (aG (en:=aa) Ty.s32 rfl rfl rfl bq (raT ko)))⟩)
   ·exact og 3 ⟨rfl,(raT kr)⟩
  ·refine ra2 1 3 ?_ ?_
   ·exact oO rfl (cO 3 (bD bn) ⟨rfl,(raT kq)⟩)
   ·exact og 3 ⟨rfl,(raT kr)⟩
  ·refine ra2 1 7 ?_ ?_
   ·exact oO rfl (cO 3 (bD bn) ⟨rfl,(r0 4 rfl (aG (en:=aa) Ty.s32 rfl rfl rfl bq (rL [7,8,11,14,15,16] 7 rfl (raE iU))))⟩)
   ·exact og 3 ⟨rfl,(raT kr)⟩
  ·refine ra3 3 8 10 ?_ ?_ ?_
   ·exact og 4 ⟨rfl,(r0 4 rfl (aG (en:=aa) Ty.s32 rfl rfl rfl bq (raT ko)))⟩
   ·exact oO rfl (cF (bf b6) ⟨rfl,(rL [10,11,14,15,16] 10 rfl (raE ml))⟩)
   ·exact og 4 ⟨rfl,(raT kq)⟩
  ·refine ra4 5 8 10 13 ?_ ?_ ?_ ?_
   ·refine oO rfl (bE (en:=aa) (a:=x15) rfl rfl eH (bt Ty.k9 (c:=.str x15) rfl (ra3 8 10 13 ?_ ?_ ?_)))
    ·exact oO rfl (cF (bf b6) ⟨rfl,(rL [10,11,14,15,16] 10 rfl (raE mh))⟩)
    ·exact og 4 ⟨rfl,(raE qD)⟩
    ·exact og 4 ⟨rfl,(raE qC)⟩
   ·exact oO rfl (cF (bf b6) ⟨rfl,(rL [10,11,14,15,16] 10 rfl (raE mj))⟩)
   ·exact og 4 ⟨rfl,(raT kp)⟩
   ·exact og 4 ⟨rfl,(raT ko)⟩
  ·refine ra3 3 11 13 ?_ ?_ ?_
   ·exact og 4 ⟨rfl,(r0 4 rfl (aG (en:=aa) Ty.s32 rfl rfl rfl bq (raT mj)))⟩
   ·exact oO rfl (cF (dv eG) ⟨rfl,(rL [13,14,15,16] 13 rfl (raE qA))⟩)
   ·exact og 4 ⟨rfl,(raT ml)⟩
  ·exact ra1 1 (oO rfl (cO 3 (bD bn) ⟨rfl,(r0 4 rfl (aG (en:=aa) Ty.s32 rfl rfl rfl bq (raT iU)))⟩))
  ·refine ra2 3 8 ?_ ?_
   ·exact og 4 ⟨rfl,(r0 4 rfl (aG (en:=aa) Ty.s32 rfl rfl rfl bq (raT iU)))⟩
   ·exact oO rfl (cF (bf b6) ⟨rfl,(raT ml)⟩)
  ·refine ra3 5 8 13 ?_ ?_ ?_
   ·exact oO rfl (bE (en:=aa) (a:=x15) rfl rfl eH (bt Ty.k9 (c:=.str x15) rfl (raT qD)))
   ·exact oO rfl (cF (bf b6) ⟨rfl,(raT mj)⟩)
   ·exact og 4 ⟨rfl,(raT iU)⟩
  ·refine ra3 5 8 10 ?_ ?_ ?_
   ·exact oO rfl (bE (en:=aa) (a:=x15) rfl rfl eH (bt Ty.k9 (c:=.str x15) rfl (raT qC)))
   ·exact oO rfl (cF (bf b6) ⟨rfl,(rL [10,11,14,15,16] 10 rfl (raE kn))⟩)
   ·exact og 4 ⟨rfl,(raT iU)⟩
  ·refine ra2 3 11 ?_ ?_
   ·exact og 4 ⟨rfl,(r0 4 rfl (aG (en:=aa) Ty.s32 rfl rfl rfl bq (raT kn)))⟩
   ·exact oO rfl (cF (dv eG) ⟨rfl,(raT qA)⟩)
  ·refine ra3 5 11 13 ?_ ?_ ?_
   ·exact oO rfl (bE (en:=aa) (a:=x15) rfl rfl eH (bt Ty.k9 (c:=.str x15) rfl (raT mh)))
   ·exact oO rfl (cF (dv eG) ⟨rfl,(rL [13,14,15,16] 13 rfl (raE me))⟩)
   ·exact og 4 ⟨rfl,(raT kn)⟩
  ·refine ra2 8 13 ?_ ?_
   ·exact oO rfl (cF (bf b6) ⟨rfl,(raT mh)⟩)
   ·exact og 4 ⟨rfl,(raE mf)⟩
  ·refine ra2 8 10 ?_ ?_
   ·exact oO rfl (cF (bf b6) ⟨rfl,(ra1 10 (og 4 ⟨rfl,(raE km)⟩))⟩)
   ·exact og 4 ⟨rfl,(raT mf)⟩
  ·refine ra2 3 14 ?_ ?_
   ·exact og 4 ⟨rfl,(r0 4 rfl (aG (en:=aa) Ty.s32 rfl rfl rfl bq (raT me)))⟩
   ·exact oO rfl (cF (dv fx) ⟨rfl,(ra1 3 (og 4 ⟨rfl,(r0 4 rfl (aG (en:=aa) Ty.s32 rfl rfl rfl bq (raE qz)))⟩))⟩)
  ·refine ra2 5 8 ?_ ?_
   ·exact oO rfl (bE (en:=aa) (a:=x15) rfl rfl eH (bt Ty.k9 (c:=.str x15) rfl (raT mf)))
   ·exact oO rfl (cF (bf b6) ⟨rfl,(raT kn)⟩)
  ·refine ra2 11 13 ?_ ?_
   ·exact oO rfl (cF (dv eG) ⟨rfl,(ra1 13 (og 4 ⟨rfl,(raE mc)⟩))⟩)
   ·exact og 4 ⟨rfl,(raT km)⟩
  ·refine ra2 5 11 ?_ ?_
   ·exact oO rfl (bE (en:=aa) (a:=x15) rfl rfl eH (bt Ty.k9 (c:=.str x15) rfl (raT km)))
   ·exact oO rfl (cF (dv eG) ⟨rfl,(raT me)⟩)
  ·exact ra1 8 (oO rfl (cF (bf b6) ⟨rfl,(raT km)⟩))
  ·refine ra2 5 14 ?_ ?_
   ·exact oO rfl (bE (en:=aa) (a:=x15) rfl rfl eH (bt Ty.k9 (c:=.str x15) rfl (raT mc)))
   ·exact oO rfl (cF (dv fx) ⟨rfl,(raT qz)⟩)
  ·exact ra1 11 (oO rfl (cF (dv eG) ⟨rfl,(raT mc)⟩))
  ·exact ra1 5 (oO rfl (bE (en:=aa) (a:=x15) rfl rfl eH (bt Ty.k9 (c:=.str x15) rfl (raE qy))))
  ·exact ra1 14 (oO rfl (cF (dv fx) ⟨rfl,(raT qy)⟩))
  exact ra1 15 (oO rfl (bC (rows:=List.map aa [x15,x16,x17,x18]) (vs:=[.str x15,.str x16,.str x17,.str x18]) Ty.s32 Ty.z9 rfl rfl rfl rfl rfl rfl (ra1 16 (oO rfl (cG [4,0,1] 5 4 (mF fw) ⟨rfl,(RA.done (by decide +kernel) (X 4 6 (lk h (wk [] [0,5] 6 rfl))))⟩)))))
 refine X 1 2 ?_;replace h:=mi h yp;refine B h fun x21 gy h=>(X 2 2 (sO (cG [0,1] 2 2 (rn gy) ⟨rfl,(Y 3 2 ?_)⟩)))
 cases h;exact tD
theorem cI {p0:List UInt8} {r:Int} (h:eX p0=some r):Fn Tryz.prog 47 [.str p0] (iI r):=by
 unfold eX at h;refine fT 0 4 Tryz.func47 Tryz.ntmps47 rfl (T.join1 (Z:=Int) (fun co=>mkA 25 [(3,iI co)]) (fun co=>[]) (fun co=>ja co=some r) (fun co h=>?_) (fun hK1=>?_))
 ·revert h;revert co;intro x6 h;replace h:ja x6=some r:=h;try dsimp only
  unfold ja at h;refine X 5 0 ?_;cases h;exact tD
 refine X 3 0 ?_;rcases aq (de p0) with cY | cY
 ·replace h:=bv h cY;refine B h fun x5 hx5 h=>(sO (cD (pA hx5) ⟨rfl,(Y 10 0 (sO (tC Tryz.underlying57 rfl rfl (Yp 12 0 ?_))))⟩))
  cases h
 replace h:=bw h cY;refine B h fun x6 hx6 h=>(sO (cD (pB hx6) ⟨rfl,(Y 7 0 ?_)⟩))
 obtain ⟨yr,hz,h⟩:=bind_some h;revert hz h;revert yr;intro c8 hz h;refine j1 [(3,iI x6),(21,.bool c8)] [] ?_ (fun hK=>?_)
 ·refine T.ci h rfl (fun lZ h=>?_) (fun lZ h=>?_)
  ·cases h
  exact X 1 0 (sx (hK1 x6 h))
 refine X 3 0 (sO (vX Tryz.underlying57 rfl (Yp 5 0 (gi 16 hz (fun fk hz=>?_) (fun fk hz=>?_)))))
 ·refine Yp 6 0 ?_;cases hz;exact sx hK
 refine B hz fun x7 hx7 hz=>(Y 1 0 (yO rfl (cF (bf hx7) ⟨rfl,(Yp 4 0 ?_)⟩)))
 cases hz;exact sx hK
theorem fN {p0:List UInt8} {r:List Int} (h:lq p0=some r):Fn Tryz.prog 49 [.str p0] (.sl (List.map ak r)):=tT p0 r h
theorem mH {p0:Int} {p1:List UInt8} {p2 p3:Int} {p4:List Node} {r:Bool × Int × Int × (List Node)} (h:eR p0 p1 p2 p3 p4=some r):FnX Tryz.prog 24 [.ptr 0 0,iI p0,.str p1] [.box [.ref 1,iI p2,iI p3],aR 42 4 an p4] (.bool r.1) [.box [.ref 2,iI r.2.1,iI r.2.2.1],.dead,aR 42 4 an r.2.2.2]:=by
 unfold eR at h;refine fnTD 2 Tryz.func24 Tryz.ntmps24 ?_;refine TD.seq (T.mvB 0 0 1 (cs:=[.ref 1,iI p2,iI p3]) rfl rfl rfl rfl (cs':=[.ref 2,iI p2,iI p3]) rfl rfl (T.region (go 1 3 (RS.nil (TD.defer 1 rfl (go 1 4 (RS.nil ⟨_,_,_,rfl,rfl,idleF,(T.seq ?_)⟩)))))));obtain ⟨x2,hx2,h⟩:=bind_some h;refine T.region (go 1 4 (sO (cD (jz hx2) ⟨rfl,(go 1 4 (RS.nil (T.seq (T.seq (T.region (go 2 4 (RS.nil ?_)))))))⟩)));refine T.ci h rfl (fun ai h=>?_) (fun ai h=>?_)
 ·refine T.seq ?_;obtain ⟨mz,hz,h⟩:=bind_some h;revert hz h;revert mz;intro c4 hz h;refine T.join (Z:=Unit) (fun _=>mkA 81 [(0,.ptr 0 0),(6,.ptr 2 0),(7,sL aa x2),(23,.bool c4)]) (fun _=>[.box [.ref 3,iI p2,iI p3],.dead,.box [.bool false],aR 42 4 an p4]) (fun _=>True) (fun _ _=>?_) (fun hK=>?_)
  ·refine T.ci h rfl (fun bJ h=>?_) (fun bJ h=>?_)
   ·refine T.seq (T.region (go 1 4 (RS.nil ?_)));cases h;exact tN [0,1,3]
   refine T.skip (T.seq ?_);obtain ⟨x9,hx9,h⟩:=bind_some h;obtain ⟨x10,cB,h⟩:=bind_some h;obtain ⟨x11,fq,h⟩:=bind_some h;obtain ⟨x12,cn,h⟩:=bind_some h;refine T.drawn mixed (k:=16) rfl ?_;apply RA.jn 7 (bm 16 511);intro hS5
   ·refine rq [0,1,2] 13 (r0 3 rfl (aP Ty.s32 (fun _=>rfl) rfl rfl hx9 (rq [6] 11 (r0 7 rfl (aP Ty.s32 (fun _=>rfl) rfl rfl fq (rL [4,5,9,10,11,12,13,14,15] 4 rfl (ra2 5 8 ?_ ?_)))))))
    ·exact oO rfl (cF (cI cB) ⟨rfl,(ra1 8 (og 4 ⟨rfl,(raE hS5)⟩))⟩)
    ·exact og 4 ⟨rfl,(ra1 5 (oO rfl (cF (cI cB) ⟨rfl,(raT hS5)⟩)))⟩
   refine ra1 9 (oO rfl (cF (cI cn) ⟨rfl,(rq [10,11] 4 (ra1 12 (og 4 ⟨rfl,(rq [13,14] 1 (ra1 15 (og 4 ⟨rfl,(RA.done (by decide +kernel) (T.seq ?_))⟩)))⟩)))⟩));refine T.region (go 1 4 (RS.nil ?_));cases h;exact tN [0,1,3]
  refine T.region (go 1 4 (sQ (aA Ty.s32 rfl (go 2 4 ?_))));rcases aq (((x2).length:Int) != 3) with al | al
  ·replace hz:=bv hz al;exact sN al (sN al (sN al (sN al (sQ (aS (v:=.bool true) rfl al rfl (RS.nil (T.weakR (hK () trivial) (Weak.mkN [] [0,1,3,2] (by decide) (by decide) rfl ⟨cu rfl,cu rfl,rn_s rfl,cc ((congrArg (fun p=>p) (yY hz)).symm),tqz⟩ (dC (cs:=[.ref 3,iI p2,iI p3]) (ds:=[.ref 2,iI p2,iI p3]) rfl ⟨dh rfl,au rfl,au rfl,tqz⟩ (pI rfl (rw_bs [.bool false] rfl (rw_ar rfl rfl (cg)))))))))))))
  replace hz:=bw hz al;obtain ⟨x3,hx3,hz⟩:=bind_some hz;exact yg 4 al (yQ al (aP Ty.s32 (fun _=>rfl) rfl rfl hx3 (yg 4 al (yg 4 al (sQ (aK (v:=.bool (!(x3==[114,105,110,103,115]))) rfl al rfl (RS.nil (T.weakR (hK () trivial) (Weak.mkN [] [0,1,3,2] (by decide) (by decide) rfl ⟨cu rfl,cu rfl,rn_s rfl,cc ((congrArg (fun p=>p) (yY hz)).symm),tqz⟩ (dC (cs:=[.ref 3,iI p2,iI p3]) (ds:=[.ref 2,iI p2,iI p3]) rfl ⟨dh rfl,au rfl,au rfl,tqz⟩ (pI rfl (rw_bs [.bool false] rfl (rw_ar rfl rfl (cg))))))))))))))
 refine T.skip (T.seq (T.seq (T.region (go 1 4 (sQ (aA Ty.s32 rfl (go 1 4 (RS.nil (T.ci h rfl (fun l6 h=>?_) (fun l6 h=>?_))))))))))
 ·refine T.seq (T.region (go 1 4 (RS.nil ?_)));cases h;exact tN [0,1,2]
 refine T.skip (T.seq (T.seq ?_));obtain ⟨x14,bq,h⟩:=bind_some h;refine T.region (sO (cO 4 (bD bq) ⟨rfl,(sQ (cJ (en:=aa) Ty.s32 rfl rfl (go 1 5 (RS.nil (T.block (T.iter (fun eE:Int=>mkA 81 [(0,.ptr 0 0),(6,.ptr 2 0),(7,sL aa x2),(41,.ref 3),(42,iI ((x14).length:Int)),(43,iI eE)]) (fun eE=>[.box [.ref 4,iI p2,iI p3],.dead,.box [.bool false],aR 9 1 aa x14,aR 42 4 an p4]) h (wk [] [0,1,3,4,2] 5 rfl) (fun eE v_38 h ki=>?_)))))))⟩));revert ki h;revert eE;intro s15 h ki;replace h:iZ p2 x2 p3 p4 x14 s15=some v_38:=h;try dsimp only
 unfold iZ at h;refine T.seq (T.region (go 1 5 (RS.nil (T.seq (T.ci h rfl (fun yu h=>?_) (fun yu h=>?_))))))
 ·refine T.skip (T.seq (T.block (T.seq ?_)));obtain ⟨x18,fx,h⟩:=bind_some h;obtain ⟨x19,fw,h⟩:=bind_some h;refine T.region (go 1 5 (sQ (aG (en:=aa) Ty.s32 rfl rfl rfl fx (sO (bE (en:=aa) (a:=x19) rfl rfl fw (bt Ty.k9 (c:=.str x19) rfl (go 2 5 (RS.nil ?_))))))));obtain ⟨yv,hz,h⟩:=bind_some h;revert hz h;revert yv;intro c21 hz h;refine T.join (Z:=Unit) (fun _=>mkA 81 [(0,.ptr 0 0),(6,.ptr 2 0),(7,sL aa x2),(8,iI s15),(41,.ref 3),(42,iI ((x14).length:Int)),(43,iI s15),(56,.bool c21)]) (fun _=>[.box [.ref 4,iI p2,iI p3],.dead,.box [.bool false],aR 9 1 aa x14,aR 42 4 an p4]) (fun _=>True) (fun _ _=>?_) (fun hK=>?_)
  ·refine T.ci h rfl (fun yw h=>?_) (fun yw h=>?_)
   ·refine T.seq ?_;obtain ⟨x29,yG,h⟩:=bind_some h;obtain ⟨x30,cC,h⟩:=bind_some h;obtain ⟨x31,yH,h⟩:=bind_some h;obtain ⟨x32,ku,h⟩:=bind_some h;obtain ⟨x33,yI,h⟩:=bind_some h;obtain ⟨x34,gB,h⟩:=bind_some h;obtain ⟨x35,l7,h⟩:=bind_some h;refine T.drawn mixed (k:=24) rfl ?_;apply RA.jn 5 (bm 24 524287);intro qF;apply RA.jn 7 (bm 24 131071);intro mA;apply RA.jn 8 (bm 24 122879);intro kv;apply RA.jn 8 (bm 24 131055);intro qG;apply RA.jn 9 (bm 24 122863);intro mC;apply RA.jn 9 (bm 24 122367);intro mD;apply RA.jn 9 (bm 24 57343);intro mE;apply RA.jn 10 (bm 24 57327);intro qH;apply RA.jn 10 (bm 24 118271);intro qI;apply RA.jn 10 (bm 24 122351);intro qJ;apply RA.jn 10 (bm 24 56831);intro qK
    ·refine rq [0,1,2,3,5,6] 18 (r0 7 rfl (aP Ty.s32 (fun _=>rfl) rfl rfl yG (rq [10] 16 (r0 11 rfl (aP Ty.s32 (fun _=>rfl) rfl rfl yH (rq [14] 14 (r0 15 rfl (aP Ty.s32 (fun _=>rfl) rfl rfl yI (rL [8,9,13,17,18,19,20,21,22,23] 8 rfl (ra4 4 9 12 16 ?_ ?_ ?_ ?_))))))))))
     ·refine og 5 ⟨rfl,(ra3 9 12 16 ?_ ?_ ?_)⟩
      ·exact oO rfl (cF (cI cC) ⟨rfl,(rL [12,13,17,18,19,20,21,22,23] 12 rfl (raE mE))⟩)
      ·exact og 5 ⟨rfl,(raE qK)⟩
      ·exact og 5 ⟨rfl,(raE qI)⟩
     ·exact oO rfl (cF (cI cC) ⟨rfl,(rL [12,13,17,18,19,20,21,22,23] 12 rfl (raE qH))⟩)
     ·refine og 5 ⟨rfl,(ra3 4 9 16 ?_ ?_ ?_)⟩
      ·exact og 5 ⟨rfl,(raT qK)⟩
      ·exact oO rfl (cF (cI cC) ⟨rfl,(raT qH)⟩)
      ·exact og 5 ⟨rfl,(raE qJ)⟩
     ·refine og 5 ⟨rfl,(ra3 4 9 12 ?_ ?_ ?_)⟩
      ·exact og 5 ⟨rfl,(raT qI)⟩
      ·exact oO rfl (cF (cI cC) ⟨rfl,(rL [12,13,17,18,19,20,21,22,23] 12 rfl (raE mC))⟩)
      ·exact og 5 ⟨rfl,(raT qJ)⟩
    ·refine ra2 9 16 ?_ ?_
     ·exact oO rfl (cF (cI cC) ⟨rfl,(raT mE)⟩)
     ·exact og 5 ⟨rfl,(raE mD)⟩
    ·refine ra2 4 9 ?_ ?_
     ·exact og 5 ⟨rfl,(raT mD)⟩
     ·exact oO rfl (cF (cI cC) ⟨rfl,(raT mC)⟩)
    ·refine ra2 9 12 ?_ ?_
     ·exact oO rfl (cF (cI cC) ⟨rfl,(ra1 12 (og 5 ⟨rfl,(raE kv)⟩))⟩)
     ·exact og 5 ⟨rfl,(raT mD)⟩
    ·refine ra3 4 13 16 ?_ ?_ ?_
     ·exact og 5 ⟨rfl,(raT mE)⟩
     ·exact oO rfl (cD (fN ku) ⟨rfl,(rL [16,17,18,19,20,21,22,23] 16 rfl (raE qG))⟩)
     ·exact og 5 ⟨rfl,(raT mC)⟩
    ·refine ra2 13 16 ?_ ?_
     ·exact oO rfl (cD (fN ku) ⟨rfl,(ra1 16 (og 5 ⟨rfl,(raE mA)⟩))⟩)
     ·exact og 5 ⟨rfl,(raT kv)⟩
    ·exact ra1 9 (oO rfl (cF (cI cC) ⟨rfl,(raT kv)⟩))
    ·refine ra2 4 13 ?_ ?_
     ·exact og 5 ⟨rfl,(raT kv)⟩
     ·exact oO rfl (cD (fN ku) ⟨rfl,(raT qG)⟩)
    ·refine ra2 4 17 ?_ ?_
     ·exact og 5 ⟨rfl,(raT mA)⟩
     ·exact oO rfl (cD (fN gB) ⟨rfl,(rq [18] 6 (rL [4,20,21,22,23] 4 rfl (raE qF)))⟩)
    ·exact ra1 13 (oO rfl (cD (fN ku) ⟨rfl,(raT mA)⟩))
    ·exact ra1 17 (oO rfl (cD (fN gB) ⟨rfl,(rq [18] 5 (raT qF))⟩))
    refine ra1 19 (oO rfl (bC (rows:=List.map an [(⟨s15,x30,x32,x34⟩:Node)]) (vs:=[.agg [iI s15,iI x30,sL ak x32,sL ak x34]]) Ty.s22 Ty.z42 rfl rfl rfl rfl rfl rfl (ra1 20 (oO rfl (eZ (en:=an) (xs:=p4) (ys:=([(⟨s15,x30,x32,x34⟩:Node)]:List Node)) Ty.s22 (fun _=>rfl) rfl rfl rfl l7 rfl rfl (rq [21,22] 1 (ra1 23 (og 7 ⟨rfl,(RA.done (by decide +kernel) (T.seq (T.region ?_)))⟩))))))));refine go 1 7 (RS.nil ?_);obtain ⟨w_54,h,hw_54⟩:=lr h;replace h:=h.trans (congrArg some (ki _ hw_54));cases h;exact tN [0,1,6]
   exact T.skip (T.region (go 2 5 (RS.nil (⟨IntKind.i64.wrap (s15+1),(yY h).symm,wk [] [0,1,2,3,4] 5 rfl⟩))))
  refine T.region (go 3 5 ?_);rcases aq (decide (s15 > 0)) with bT | bT
  ·replace hz:=bv hz bT;obtain ⟨x20,kw,hz⟩:=bind_some hz;exact yg 5 bT (yg 5 bT (yQ bT (aP Ty.s32 (fun _=>rfl) rfl rfl kw (yg 5 bT (yg 5 bT (sQ (aS (v:=.bool (x19==x20)) rfl bT rfl (RS.nil (T.sub (hK () trivial) ⟨rfl,rfl,rfl,rfl,rfl,rfl,rfl,(congrArg AV.bool ((congrArg (fun p=>p) (yY hz)).symm)).symm,tqz⟩)))))))))
  replace hz:=bw hz bT;exact sN bT (sN bT (sN bT (sN bT (sN bT (sQ (aK (v:=.bool false) rfl bT rfl (RS.nil (T.sub (hK () trivial) ⟨rfl,rfl,rfl,rfl,rfl,rfl,rfl,(congrArg AV.bool ((congrArg (fun p=>p) (yY hz)).symm)).symm,tqz⟩))))))))
 refine T.exit ?_;obtain ⟨w_55,h,hw_55⟩:=lr h;replace h:=h.trans (congrArg some (ki _ hw_55));refine T.seq (T.region (go 1 5 (RS.nil ?_)));cases h;exact tN [0,1,4]
end
section
open Go.RowKit
set_option maxRecDepth 100000
set_option maxHeartbeats 4000000
set_option synthInstance.maxSize 100000
set_option synthInstance.maxHeartbeats 4000000
theorem rp {p0:List UInt8} {r:Net × Int × Int} (h:gU p0=some r):Fn Tryz.prog 5 [.str p0] (.tup [.agg (aJ r.1),iI r.2.1,iI r.2.2]):=by
 unfold gU at h;refine fT 0 13 Tryz.func5 Tryz.ntmps5 rfl (T.ci h rfl (fun ai h=>?_) (fun ai h=>?_))
 ·refine X 7 1 ?_;cases h;exact tD
 refine B h fun x2 hx2 h=>(X 4 1 (sO (cD (jz hx2) ⟨rfl,(Y 6 1 (sQ (aA Ty.s32 rfl (Y 3 1 (nB 0 0 42 4 1 (itr (fun cA:Int × Int × Int × (List Node)=>mkA 57 [(2,.ptr 0 0),(5,sL aa x2),(16,sL aa x2),(17,iI ((x2).length:Int)),(18,iI cA.1)]) (fun cA=>[.box [.ref 1,iI cA.2.1,iI cA.2.2.1],aR 42 4 an cA.2.2.2]) h (wk [] [0,1] 2 rfl) (fun cA v_27 h qv=>?_)))))))⟩)))
 obtain ⟨s3,s4,s5,s6⟩:=cA;replace h:b8 x2 s3 s4 s5 s6=some v_27:=h;try dsimp only
 unfold b8 at h;refine X 5 2 (T.ci h rfl (fun yx h=>?_) (fun yx h=>?_))
 ·refine B h fun x8 hx8 h=>(X 6 2 (sQ (aP Ty.s32 (fun _=>rfl) rfl rfl hx8 (Y 8 2 (sQ (aA Ty.s32 rfl (Y 4 2 ?_)))))))
  obtain ⟨lW,hz,h⟩:=bind_some h;obtain ⟨c11,c12,c13,c14⟩:=lW;refine j1 [(2,.ptr 0 0),(5,sL aa x2),(6,iI s3),(16,sL aa x2),(17,iI ((x2).length:Int)),(18,iI s3),(46,.bool c11)] [.box [.ref 1,iI c12,iI c13],aR 42 4 an c14] ?_ (fun hK=>?_)
  ·refine T.ci h rfl (fun yy h=>?_) (fun yy h=>?_)
   ·refine X 8 2 ?_;replace h:=mi h qv;cases h;exact tD
   exact X 5 2 (lk h (wk [] [0,1] 2 rfl))
  refine X 4 2 ?_;rcases aq (s3==(IntKind.i64.wrap (((x2).length:Int) - 1))) with bZ | bZ
  ·replace hz:=bv hz bZ;refine yg 2 bZ (yg 2 bZ (yg 2 bZ ?_));rcases aq (!(x8==[])) with fo | fo
   ·replace hz:=bv hz fo;exact gT 32 fo (Y 2 2 (gT 29 bZ (Yp 13 2 (T.weakR hK (Weak.mkN [] [0,1] (by decide) (cK _) rfl ⟨cu rfl,rn_s rfl,au rfl,rn_s rfl,au rfl,au rfl,cc ((congrArg (fun p=>p.1) (yY hz)).symm),tqz⟩ (dC (cs:=[.ref 1,iI c12,iI c13]) (ds:=[.ref 1,iI s4,iI s5]) rfl ⟨dh rfl,au ((congrArg (fun p=>p.2.1) (yY hz)).symm),au ((congrArg (fun p=>p.2.2.1) (yY hz)).symm),tqz⟩ (rw_ar rfl ((congrArg (fun p=>p.2.2.2) (yY hz)).symm) (cg))))))))
   replace hz:=bw hz fo;refine yg 2 fo (yg 2 fo (yQ bZ (aK (v:=.bool (s3==0)) rfl fo rfl (sQ (aS (v:=.bool (s3==0)) rfl bZ rfl (Y 1 2 ?_))))));rcases aq (s3==0) with dK | dK
   ·replace hz:=bv hz dK;exact gT 37 dK (Yp 10 2 (T.weakR hK (Weak.mkN [] [0,1] (by decide) (cK _) rfl ⟨cu rfl,rn_s rfl,au rfl,rn_s rfl,au rfl,au rfl,cc ((congrArg (fun p=>p.1) (yY hz)).symm),tqz⟩ (dC (cs:=[.ref 1,iI c12,iI c13]) (ds:=[.ref 1,iI s4,iI s5]) rfl ⟨dh rfl,au ((congrArg (fun p=>p.2.1) (yY hz)).symm),au ((congrArg (fun p=>p.2.2.1) (yY hz)).symm),tqz⟩ (rw_ar rfl ((congrArg (fun p=>p.2.2.2) (yY hz)).symm) (cg))))))
   replace hz:=bw hz dK;refine yg 2 dK (yg 2 dK (yg 2 dK ?_));rcases aq (!(s3==(IntKind.i64.wrap (((x2).length:Int) - 1)))) with iO | iO
   ·replace hz:=bv hz iO;exact B hz fun x9 hx9 hz=>(gT 40 iO (Y 2 2 (yO rfl (cG [0,1] 2 3 (mH hx9) ⟨rfl,(Y 1 3 (gF 37 dK (Yp 3 3 (T.weakR hK (Weak.mkN [] [0,2] (by decide) (cK _) rfl ⟨cu rfl,rn_s rfl,au rfl,rn_s rfl,au rfl,au rfl,cc ((congrArg (fun p=>p.1) (yY hz)).symm),tqz⟩ (dC (cs:=[.ref 1,iI c12,iI c13]) (ds:=[.ref 2,iI x9.2.1,iI x9.2.2.1]) rfl ⟨dh rfl,au ((congrArg (fun p=>p.2.1) (yY hz)).symm),au ((congrArg (fun p=>p.2.2.1) (yY hz)).symm),tqz⟩ (rw_ar rfl ((congrArg (fun p=>p.2.2.2) (yY hz)).symm) (cg))))))))⟩))))
   replace hz:=bw hz iO;exact gF 40 iO (Y 4 2 (gF 37 dK (Yp 3 2 (T.weakR hK (Weak.mkN [] [0,1] (by decide) (cK _) rfl ⟨cu rfl,rn_s rfl,au rfl,rn_s rfl,au rfl,au rfl,cc ((congrArg (fun p=>p.1) (yY hz)).symm),tqz⟩ (dC (cs:=[.ref 1,iI c12,iI c13]) (ds:=[.ref 1,iI s4,iI s5]) rfl ⟨dh rfl,au ((congrArg (fun p=>p.2.1) (yY hz)).symm),au ((congrArg (fun p=>p.2.2.1) (yY hz)).symm),tqz⟩ (rw_ar rfl ((congrArg (fun p=>p.2.2.2) (yY hz)).symm) (cg))))))))
  replace hz:=bw hz bZ;refine sN bZ (sN bZ (sN bZ (sU (sU (sN bZ (sQ (aK (v:=.bool false) rfl bZ rfl (Y 1 2 (yg 2 rfl (yg 2 rfl ?_))))))))));refine yg 2 rfl ?_;rcases aq (!(s3==(IntKind.i64.wrap (((x2).length:Int) - 1)))) with iP | iP
  ·replace hz:=bv hz iP;exact B hz fun x10 cB hz=>(gT 40 iP (Y 2 2 (yO rfl (cG [0,1] 2 3 (mH cB) ⟨rfl,(Yp 4 3 (T.weakR hK (Weak.mkN [] [0,2] (by decide) (cK _) rfl ⟨cu rfl,rn_s rfl,au rfl,rn_s rfl,au rfl,au rfl,cc ((congrArg (fun p=>p.1) (yY hz)).symm),tqz⟩ (dC (cs:=[.ref 1,iI c12,iI c13]) (ds:=[.ref 2,iI x10.2.1,iI x10.2.2.1]) rfl ⟨dh rfl,au ((congrArg (fun p=>p.2.1) (yY hz)).symm),au ((congrArg (fun p=>p.2.2.1) (yY hz)).symm),tqz⟩ (rw_ar rfl ((congrArg (fun p=>p.2.2.2) (yY hz)).symm) (cg))))))⟩))))
  replace hz:=bw hz iP;exact gF 40 iP (Yp 7 2 (T.weakR hK (Weak.mkN [] [0,1] (by decide) (cK _) rfl ⟨cu rfl,rn_s rfl,au rfl,rn_s rfl,au rfl,au rfl,cc ((congrArg (fun p=>p.1) (yY hz)).symm),tqz⟩ (dC (cs:=[.ref 1,iI c12,iI c13]) (ds:=[.ref 1,iI s4,iI s5]) rfl ⟨dh rfl,au ((congrArg (fun p=>p.2.1) (yY hz)).symm),au ((congrArg (fun p=>p.2.2.1) (yY hz)).symm),tqz⟩ (rw_ar rfl ((congrArg (fun p=>p.2.2.2) (yY hz)).symm) (cg))))))
 refine X 1 2 ?_;replace h:=mi h qv;refine B h fun x16 b6 h=>(X 4 2 (sO (cF (mY b6) ⟨rfl,(Y 7 2 (T.ci h rfl (fun yz h=>?_) (fun yz h=>?_)))⟩)))
 ·refine X 8 2 ?_;cases h;exact tD
 refine X 8 2 ?_;cases h;exact tD
theorem mG {p0 p1:List Int} {r:Bool} (h:eP p0 p1=some r):Fn Tryz.prog 30 [sL ak p0,sL ak p1] (.bool r):=by
 unfold eP at h;refine fT 0 8 Tryz.func30 Tryz.ntmps30 rfl (sQ (aA Ty.s37 rfl (Y 1 0 (sQ (aA Ty.s37 rfl (Y 2 0 (T.ci h rfl (fun ai h=>?_) (fun ai h=>?_))))))))
 ·refine X 4 0 ?_;cases h;exact tD
 refine X 5 0 (sQ (aA Ty.s37 rfl (Y 3 0 (itr (fun bl:Int=>mkA 26 [(0,sL ak p0),(1,sL ak p1),(12,iI ((p0).length:Int)),(13,iI bl)]) (fun bl=>[]) h (wk [] [] 0 rfl) (fun bl v_7 h b7=>?_)))));revert b7 h;revert bl;intro s1 h b7;replace h:gH p0 p1 s1=some v_7:=h;try dsimp only
 unfold gH at h;refine X 5 0 (T.ci h rfl (fun dL h=>?_) (fun dL h=>?_))
 ·refine B h fun x4 hx4 h=>(B h fun x5 hx5 h=>(X 9 0 (T.drawn mixed (k:=9) rfl (rq [0,1] 7 (r0 2 rfl (aP Ty.s37 (fun _=>rfl) rfl rfl hx4 (rq [4,5] 4 (r0 6 rfl (aP Ty.s37 (fun _=>rfl) rfl rfl hx5 (rL [3,8] 3 rfl (ra1 7 ?_)))))))))))
  refine og 0 ⟨rfl,(rq [8] 0 (RA.done (by decide +kernel) (T.ci h rfl (fun cY h=>?_) (fun cY h=>?_))))⟩
  ·refine X 4 0 ?_;replace h:=mi h b7;cases h;exact tD
  exact X 5 0 (lk h (wk [] [] 0 rfl))
 refine X 1 0 ?_;replace h:=mi h b7;refine X 4 0 ?_;cases h;exact tD
theorem qT {p0 p1:Node} {r:Bool} (h:gJ p0 p1=some r):Fn Tryz.prog 29 [.agg (an p0),.agg (an p1)] (.bool r):=by
 unfold gJ at h;refine fT 0 6 Tryz.func29 Tryz.ntmps29 rfl ?_;obtain ⟨yJ,hz,h⟩:=bind_some h;revert hz h;revert yJ;intro c3 hz h;refine j1 [(4,.bool c3)] [] ?_ (fun hK=>?_)
 ·cases h;exact tD
 refine X 8 2 (gi 10 hz (fun ai hz=>?_) (fun ai hz=>?_))
 ·refine Yp 7 2 (gi 17 hz (fun al hz=>?_) (fun al hz=>?_))
  ·refine B hz fun x1 hx1 hz=>(Y 4 2 (yO rfl (cF (mG hx1) ⟨rfl,(Yp 2 2 (gi 24 hz (fun bp hz=>?_) (fun bp hz=>?_)))⟩)))
   ·refine B hz fun x2 hx2 hz=>(Y 4 2 (yO rfl (cF (mG hx2) ⟨rfl,(Yp 3 2 ?_)⟩)))
    cases hz;exact wu hK [] [] 2 rfl
   refine Yp 8 2 ?_;cases hz;exact wu hK [] [] 2 rfl
  refine Yp 15 2 ?_;cases hz;exact wu hK [] [] 2 rfl
 refine Yp 22 2 ?_;cases hz;exact wu hK [] [] 2 rfl
theorem qL {p0 p1:List Node} {r:Bool} (h:iV p0 p1=some r):Fn Tryz.prog 28 [sL an p0,sL an p1,.func 29 []] (.bool r):=by
 unfold iV at h;refine fT 0 8 Tryz.func28 Tryz.ntmps28 rfl (sQ (aA Ty.s22 rfl (Y 1 0 (sQ (aA Ty.s22 rfl (Y 2 0 (T.ci h rfl (fun ai h=>?_) (fun ai h=>?_))))))))
 ·refine X 4 0 ?_;cases h;exact tD
 refine X 5 0 (sQ (aA Ty.s22 rfl (Y 3 0 (itr (fun bl:Int=>mkA 32 [(1,sL an p1),(2,.func 29 []),(15,sL an p0),(16,iI ((p0).length:Int)),(17,iI bl)]) (fun bl=>[]) h (wk [] [] 0 rfl) (fun bl v_7 h b7=>?_)))));revert b7 h;revert bl;intro s1 h b7;replace h:dM p0 p1 s1=some v_7:=h;try dsimp only
 unfold dM at h;refine X 5 0 (T.ci h rfl (fun dL h=>?_) (fun dL h=>?_))
 ·refine B h fun x3 hx3 h=>(X 6 0 (sQ (aP Ty.s22 (fun _=>rfl) rfl rfl hx3 (B h fun x5 hx5 h=>(Y 9 0 (sQ (aP Ty.s22 (fun _=>rfl) rfl rfl hx5 (B h fun x7 hx7 h=>(Y 9 1 (sO (cF (qT hx7) ⟨rfl,(Y 2 2 ?_)⟩)))))))))))
  refine T.ci h rfl (fun cY h=>?_) (fun cY h=>?_)
  ·refine X 4 2 ?_;replace h:=mi h b7;cases h;exact tD
  exact X 5 2 (lk h (wk [] [] 2 rfl))
 refine X 1 0 ?_;replace h:=mi h b7;refine X 4 0 ?_;cases h;exact tD
theorem qX {p0 p1:Net} {r:Bool} (h:fF p0 p1=some r):Fn Tryz.prog 7 [.agg (aJ p0),.agg (aJ p1)] (.bool r):=by
 unfold fF at h;refine fT 0 6 Tryz.func7 Tryz.ntmps7 rfl ?_;obtain ⟨mz,hz,h⟩:=bind_some h;revert hz h;revert mz;intro c2 hz h;refine j1 [(4,.bool c2)] [] ?_ (fun hK=>?_)
 ·cases h;exact tD
 refine X 8 2 (gi 10 hz (fun ai hz=>?_) (fun ai hz=>?_))
 ·refine Yp 7 2 (gi 17 hz (fun al hz=>?_) (fun al hz=>?_))
  ·refine B hz fun x1 hx1 hz=>(Y 4 2 (yO rfl (cF (qL hx1) ⟨rfl,(Yp 3 2 ?_)⟩)))
   cases hz;exact wu hK [] [] 2 rfl
  refine Yp 8 2 ?_;cases hz;exact wu hK [] [] 2 rfl
 refine Yp 15 2 ?_;cases hz;exact wu hK [] [] 2 rfl
theorem rc {r:Bool} (h:fH=some r):Fn Tryz.prog 6 [] (.bool r):=by
 unfold fH at h;refine fT 0 0 Tryz.func6 Tryz.ntmps6 rfl ?_;refine B h fun x3 hx3 h=>(B h fun x4 hx4 h=>(X 6 0 (sO (cD (kx hx3) ⟨rfl,(sO (cF (ro hx4) ⟨rfl,(B h fun x6 hx6 h=>(Y 9 0 (sO (cD (rp hx6) ⟨rfl,(Y 9 0 ?_)⟩))))⟩))⟩))))
 obtain ⟨yK,hz,h⟩:=bind_some h;revert hz h;revert yK;intro c9 hz h;refine j1 [(0,.bool c9)] [] ?_ (fun hK=>?_)
 ·cases h;exact tD
 refine X 1 1 ?_;rcases aq (x4.2==0) with ai | ai
 ·replace hz:=bv hz ai;rcases aq (x6.2.2==0) with al | al
  ·replace hz:=bv hz al;rcases aq (x6.2.1==0) with bp | bp
   ·replace hz:=bv hz bp;rcases aq (x4.1==[114,105,110,103,115,32,51,32,49,10,115,111,117,114,99,101,32,48,32,45,32,48,10,115,111,117,114,99,101,32,49,32,45,32,49,10,109,101,114,103,101,32,48,32,48,44,49,32,50,10,115,105,110,107,32,48,32,50,32,45,10]) with bJ | bJ
    ·replace hz:=bv hz bJ;refine B hz fun x7 hx7 hz=>(B hz fun x8 hx8 hz=>(T.drawn mixed (k:=20) rfl ?_))
     apply RA.jn 3 (bm 20 131071);intro hS6
     ·refine rq [0,1,2] 17 (ry 3 ai rfl (ry 4 ai rfl (r0 5 rfl (aS (v:=.bool (x6.2.2==0)) rfl ai rfl (rq [6] 13 (ry 7 al rfl (ry 8 al rfl (r0 9 rfl (aS (v:=.bool (x6.2.1==0)) rfl al rfl (rq [10] 9 (ry 11 bp rfl ?_)))))))))));refine ry 12 bp rfl (r0 13 rfl (aS (v:=.bool (x4.1==[114,105,110,103,115,32,51,32,49,10,115,111,117,114,99,101,32,48,32,45,32,48,10,115,111,117,114,99,101,32,49,32,45,32,49,10,109,101,114,103,101,32,48,32,48,44,49,32,50,10,115,105,110,107,32,48,32,50,32,45,10])) rfl bp rfl (rq [14] 5 (ra2 15 16 ?_ ?_))))
      ·exact oy 1 bJ rfl (ra1 16 (oP rfl bJ (cD (kx hx7) ⟨rfl,(raE hS6)⟩)))
      ·exact oP rfl bJ (cD (kx hx7) ⟨rfl,(ra1 15 (oy 1 bJ rfl (raT hS6)))⟩)
     exact ra1 17 (oP rfl bJ (cF (qX hx8) ⟨rfl,(r0 18 rfl (aS (v:=.bool x8) rfl bJ rfl (rq [19] 0 (RA.done (by decide +kernel) (T.weakR hK (Weak.mkN [] [] (by decide) (cK _) rfl ⟨cc ((congrArg (fun p=>p) (yY hz)).symm),tqz⟩ (cg)))))))⟩))
    replace hz:=bw hz bJ;refine T.drawn mixed (k:=20) rfl (rq [0,1,2] 17 (ry 3 ai rfl (ry 4 ai rfl (r0 5 rfl (aS (v:=.bool (x6.2.2==0)) rfl ai rfl (rq [6] 13 (ry 7 al rfl (ry 8 al rfl (r0 9 rfl (aS (v:=.bool (x6.2.1==0)) rfl al rfl (rq [10] 9 ?_)))))))))));refine ry 11 bp rfl (ry 12 bp rfl (r0 13 rfl (aS (v:=.bool (x4.1==[114,105,110,103,115,32,51,32,49,10,115,111,117,114,99,101,32,48,32,45,32,48,10,115,111,117,114,99,101,32,49,32,45,32,49,10,109,101,114,103,101,32,48,32,48,44,49,32,50,10,115,105,110,107,32,48,32,50,32,45,10])) rfl bp rfl (rq [14] 5 (r2 15 rfl bJ (r2 16 rfl bJ (r2 17 rfl bJ (r0 18 rfl (aK (v:=.bool false) rfl bJ rfl (rq [19] 0 (RA.done (by decide +kernel) ?_)))))))))));exact T.weakR hK (Weak.mkN [] [] (by decide) (cK _) rfl ⟨cc ((congrArg (fun p=>p) (yY hz)).symm),tqz⟩ (cg))
   replace hz:=bw hz bp;refine T.drawn mixed (k:=20) rfl (rq [0,1,2] 17 (ry 3 ai rfl (ry 4 ai rfl (r0 5 rfl (aS (v:=.bool (x6.2.2==0)) rfl ai rfl (rq [6] 13 (ry 7 al rfl (ry 8 al rfl (r0 9 rfl (aS (v:=.bool (x6.2.1==0)) rfl al rfl (rq [10] 9 ?_)))))))))));exact r2 11 rfl bp (r2 12 rfl bp (r0 13 rfl (aK (v:=.bool false) rfl bp rfl (rq [14] 5 (r2 15 rfl rfl (r2 16 rfl rfl (r2 17 rfl rfl (r0 18 rfl (aK (v:=.bool false) rfl rfl rfl (rq [19] 0 (RA.done (by decide +kernel) (T.weakR hK (Weak.mkN [] [] (by decide) (cK _) rfl ⟨cc ((congrArg (fun p=>p) (yY hz)).symm),tqz⟩ (cg))))))))))))))
  replace hz:=bw hz al;refine T.drawn mixed (k:=20) rfl (rq [0,1,2] 17 (ry 3 ai rfl (ry 4 ai rfl (r0 5 rfl (aS (v:=.bool (x6.2.2==0)) rfl ai rfl (rq [6] 13 (r2 7 rfl al (r2 8 rfl al (r0 9 rfl (aK (v:=.bool false) rfl al rfl (rq [10] 9 ?_)))))))))));exact r2 11 rfl rfl (r2 12 rfl rfl (r0 13 rfl (aK (v:=.bool false) rfl rfl rfl (rq [14] 5 (r2 15 rfl rfl (r2 16 rfl rfl (r2 17 rfl rfl (r0 18 rfl (aK (v:=.bool false) rfl rfl rfl (rq [19] 0 (RA.done (by decide +kernel) (T.weakR hK (Weak.mkN [] [] (by decide) (cK _) rfl ⟨cc ((congrArg (fun p=>p) (yY hz)).symm),tqz⟩ (cg))))))))))))))
 replace hz:=bw hz ai;refine T.drawn mixed (k:=20) rfl (rq [0,1,2] 17 (r2 3 rfl ai (r2 4 rfl ai (r0 5 rfl (aK (v:=.bool false) rfl ai rfl (rq [6] 13 (r2 7 rfl rfl (r2 8 rfl rfl (r0 9 rfl (aK (v:=.bool false) rfl rfl rfl (rq [10] 9 ?_)))))))))));exact r2 11 rfl rfl (r2 12 rfl rfl (r0 13 rfl (aK (v:=.bool false) rfl rfl rfl (rq [14] 5 (r2 15 rfl rfl (r2 16 rfl rfl (r2 17 rfl rfl (r0 18 rfl (aK (v:=.bool false) rfl rfl rfl (rq [19] 0 (RA.done (by decide +kernel) (T.weakR hK (Weak.mkN [] [] (by decide) (cK _) rfl ⟨cc ((congrArg (fun p=>p) (yY hz)).symm),tqz⟩ (cg))))))))))))))
theorem ky {r:List (List UInt8)} (h:fG=some r):FnO Tryz.prog 18 [] (.ref 0) [aR 9 1 aa r]:=by unfold fG at h;refine fT 0 6 Tryz.func18 Tryz.ntmps18 rfl (sO (bC (rows:=List.map aa [[103,111],[119,114,105,116,101],[102,108,117,115,104],[116,101,108,108],[99,117,116],[117,112],[108,97,121]]) (vs:=[.str [103,111],.str [119,114,105,116,101],.str [102,108,117,115,104],.str [116,101,108,108],.str [99,117,116],.str [117,112],.str [108,97,121]]) Ty.s32 Ty.z9 rfl rfl rfl rfl rfl rfl (Y 2 1 ?_)));cases h;exact tO [] [0] 1
theorem qN {p0 p1:List UInt8} {r:Bool} (h:eI p0 p1=some r):Fn Tryz.prog 66 [.str p0,.str p1] (.bool r):=by
 unfold eI at h;refine fT 0 4 Tryz.func66 Tryz.ntmps66 rfl ?_;obtain ⟨yL,hz,h⟩:=bind_some h;revert hz h;revert yL;intro c2 hz h;refine j1 [(4,.bool c2)] [] ?_ (fun hK=>?_)
 ·cases h;exact tD
 refine X 8 0 (gi 10 hz (fun ai hz=>?_) (fun ai hz=>?_))
 ·refine B hz fun x1 hx1 hz=>(Y 3 0 (yO rfl (kH Tryz.underlying9 rfl rfl rfl hx1 (Yp 5 0 ?_))))
  cases hz;exact sx hK
 refine Yp 9 0 ?_;cases hz;exact sx hK
theorem qO {p0 p1:List UInt8} {r:(List UInt8) × Bool} (h:gD p0 p1=some r):Fn Tryz.prog 42 [.str p0,.str p1] (.tup [.str r.1,.bool r.2]):=by
 unfold gD at h;refine fT 0 0 Tryz.func42 Tryz.ntmps42 rfl ?_;refine B h fun x2 hx2 h=>(X 10 0 (sO (cF (qN hx2) ⟨rfl,(Y 2 0 (T.ci h rfl (fun ai h=>?_) (fun ai h=>?_)))⟩)))
 ·refine X 6 0 ?_;cases h;exact tD
 refine B h fun x4 hx4 h=>(X 6 0 (sO (kH Tryz.underlying9 rfl rfl rfl hx4 (Y 3 0 ?_))))
 cases h;exact tD
theorem qW {p0 p1:List UInt8} {r:(List UInt8) × Bool} (h:eO p0 p1=some r):Fn Tryz.prog 20 [.str p0,.str p1] (.tup [.str r.1,.bool r.2]):=by
 unfold eO at h;refine fT 0 0 Tryz.func20 Tryz.ntmps20 rfl ?_;refine B h fun x2 hx2 h=>(X 9 0 (sO (cF (qO hx2) ⟨rfl,(Y 5 0 ?_)⟩)))
 cases h;exact tD
theorem uJ {p0:List UInt8} {p1 p2 r:Int} (h:fg p0 p1 p2=some r):Fn Tryz.prog 21 [.str p0,.int .i64 p1,.int .i64 p2] (.tup [.int .i64 r,.ifc 112 .any]):=by
 unfold fg at h;split at h
 ·rename_i h0;obtain ⟨rfl,rfl⟩:=h0;exact ug p0 r h
 ·cases h
theorem uz {p0:List UInt8} {p1 p2 r:Int} (h:iz p0 p1 p2=some r):Fn Tryz.prog 21 [.str p0,.int .i64 p1,.int .i64 p2] (.tup [.int .i64 r,.nili]):=by
 unfold iz at h;split at h
 ·rename_i h0;obtain ⟨rfl,rfl⟩:=h0;exact tz p0 r h
 ·cases h
theorem td {p0 p1:Int} {r:List UInt8} (h:ij p0 p1=some r):Fn Tryz.prog 22 [.int .i64 p0,.int .i64 p1] (.str r):=by
 unfold ij at h;split at h
 ·rename_i h0;subst h0;exact tW p0 r h
 ·cases h
theorem qR {p0 p1:List Happening} {r:Bool} (h:gG p0 p1=some r):Fn Tryz.prog 23 [sL ah p0,sL ah p1] (.bool r):=by
 unfold gG at h;refine fT 0 8 Tryz.func23 Tryz.ntmps23 rfl (sQ (aA Ty.s46 rfl (Y 1 0 (sQ (aA Ty.s46 rfl (Y 2 0 (T.ci h rfl (fun ai h=>?_) (fun ai h=>?_))))))))
 ·refine X 4 0 ?_;cases h;exact tD
 refine X 5 0 (sQ (aA Ty.s46 rfl (Y 3 0 (itr (fun bl:Int=>mkA 26 [(0,sL ah p0),(1,sL ah p1),(12,iI ((p0).length:Int)),(13,iI bl)]) (fun bl=>[]) h (wk [] [] 0 rfl) (fun bl v_7 h b7=>?_)))));revert b7 h;revert bl;intro s1 h b7;replace h:gE p0 p1 s1=some v_7:=h;try dsimp only
 unfold gE at h;refine X 5 0 (T.ci h rfl (fun dL h=>?_) (fun dL h=>?_))
 ·refine B h fun x4 hx4 h=>(B h fun x5 hx5 h=>(X 9 0 (T.drawn mixed (k:=9) rfl (rq [0,1] 7 (r0 2 rfl (aP Ty.s46 (fun _=>rfl) rfl rfl hx4 (rq [4,5] 4 (r0 6 rfl (aP Ty.s46 (fun _=>rfl) rfl rfl hx5 (rL [3,8] 3 rfl (ra1 7 ?_)))))))))))
  refine og 0 ⟨rfl,(r0 8 rfl (wU (cs:=[iI x4.Kind,iI x4.N]) (ds:=[iI x5.Kind,iI x5.N]) (r:=x4==x5) Ty.q52 rfl rfl rfl rfl (ra x4 x5) (RA.done (by decide +kernel) (T.ci h rfl (fun cY h=>?_) (fun cY h=>?_)))))⟩
  ·refine X 4 0 ?_;replace h:=mi h b7;cases h;exact tD
  exact X 5 0 (lk h (wk [] [] 0 rfl))
 refine X 1 0 ?_;replace h:=mi h b7;refine X 4 0 ?_;cases h;exact tD
theorem qS {p0:List Happening} {p1:List UInt8} {r:Bool} (h:iY p0 p1=some r):Fn Tryz.prog 4 [sL ah p0,.str p1] (.bool r):=by
 unfold iY at h;refine fT 0 0 Tryz.func4 Tryz.ntmps4 rfl ?_;refine B h fun x2 hx2 h=>(X 7 0 (sO (cF (rh hx2) ⟨rfl,(B h fun x4 hx4 h=>(Y 9 0 (sO (cO 0 (q7 hx4) ⟨rfl,(B h fun x6 hx6 h=>(Y 11 1 (sO (cF (rc hx6) ⟨rfl,(Y 2 1 ?_)⟩))))⟩))))⟩)))
 refine T.ci h rfl (fun ai h=>?_) (fun ai h=>?_)
 ·refine X 4 1 ?_;cases h;exact tD
 refine X 6 1 (jn (Z:=Int) (fun gC=>mkA 209 [(0,sL ah p0),(1,.str p1),(5,.str x2.1),(6,iI x2.2),(7,.ref 0),(8,iI x4.2.1),(9,iI x4.2.2),(10,.str []),(11,iI gC)]) (fun gC=>[aR 52 2 ah x4.1]) (fun gC=>fD p0 p1 x2 x4 gC=some r) (fun gC h=>?_) (fun hK9=>?_))
 ·revert h;revert gC;intro z7 h;replace h:fD p0 p1 x2 x4 z7=some r:=h;try dsimp only
  unfold fD at h;refine jn (Z:=(List UInt8) × Int) (fun bI=>mkA 209 [(1,.str p1),(5,.str x2.1),(6,iI x2.2),(7,.ref 0),(8,iI x4.2.1),(9,iI x4.2.2),(10,.str bI.1),(11,iI bI.2)]) (fun bI=>[aR 52 2 ah x4.1]) (fun bI=>eJ p1 x2 x4 bI.1 bI.2=some r) (fun bI h=>?_) (fun hK5=>?_)
  ·obtain ⟨s8,z26⟩:=bI;replace h:eJ p1 x2 x4 s8 z26=some r:=h;try dsimp only
   unfold eJ at h;refine X 1 1 (j1 [(1,.str p1),(7,.ref 0),(8,iI x4.2.1),(9,iI x4.2.2),(101,.bool ((x2.2 != z26) || (if (z26 != 0)=true then ((!(x2.1==[])) || ((z26==0) && !(x2.1==s8))) else ((z26==0) && !(x2.1==s8)))))] [aR 52 2 ah x4.1] ?_ (fun hK=>?_))
   ·refine T.ci h rfl (fun yA h=>?_) (fun yA h=>?_)
    ·refine X 4 1 ?_;cases h;exact tD
    refine X 8 1 (T.ci h rfl (fun iM h=>?_) (fun iM h=>?_))
    ·refine j1 [(4,.bool ((x4.2.2==2) && ((x4.2.1==0) && ((x4.1).length:Int)==0)))] [] ?_ (fun hK=>?_)
     ·cases h;exact tD
     refine X 5 1 (gp 107 (fun bb=>?_) (fun bb=>?_))
     ·refine Yp 4 1 (gp 111 (fun iN=>?_) (fun iN=>?_))
      ·refine Y 1 1 (yQ rfl (cJ (en:=ah) Ty.s46 rfl rfl (Yp 4 1 ?_)));rw [bb] at hK;rw [iN] at hK;exact wu hK [] [] 1 rfl
      refine Yp 6 1 ?_;rw [bb] at hK;rw [iN] at hK;exact wu hK [] [] 1 rfl
     refine Yp 10 1 ?_;rw [bb] at hK;exact wu hK [] [] 1 rfl
    refine X 5 1 (jn (Z:=List Happening) (fun gj=>mkA 209 [(7,.ref 0),(8,iI x4.2.1),(9,iI x4.2.2),(14,.ref 1)]) (fun gj=>[aR 52 2 ah x4.1,aR 52 2 ah gj]) (fun gj=>eK x4 gj=some r) (fun gj h=>?_) (fun hK1=>?_))
    ·revert h;revert gj;intro s32 h;replace h:eK x4 s32=some r:=h;try dsimp only
     unfold eK at h;refine X 4 2 (sQ (cJ (en:=ah) Ty.s46 rfl rfl (Y 2 2 (T.ci h rfl (fun xS h=>?_) (fun xS h=>?_)))))
     ·refine j1 [(4,.bool ((x4.2.2==2) && ((x4.2.1==0) && ((x4.1).length:Int)==0)))] [] ?_ (fun hK=>?_)
      ·cases h;exact tD
      refine X 5 2 (gp 189 (fun kf=>?_) (fun kf=>?_))
      ·refine Yp 4 2 (gp 193 (fun lQ=>?_) (fun lQ=>?_))
       ·refine Y 1 2 (yQ rfl (cJ (en:=ah) Ty.s46 rfl rfl (Yp 4 2 ?_)));rw [kf] at hK;rw [lQ] at hK;exact wu hK [] [] 2 rfl
       refine Yp 6 2 ?_;rw [kf] at hK;rw [lQ] at hK;exact wu hK [] [] 2 rfl
      refine Yp 10 2 ?_;rw [kf] at hK;exact wu hK [] [] 2 rfl
     refine X 1 2 ?_;obtain ⟨xT,hz,h⟩:=bind_some h;revert hz h;revert xT;intro c60 hz h;refine j1 [(4,.bool c60)] [] ?_ (fun hK=>?_)
     ·cases h;exact tD
     refine X 5 2 (gi 200 hz (fun xU hz=>?_) (fun xU hz=>?_))
     ·refine Yp 4 2 (gi 204 hz (fun xV hz=>?_) (fun xV hz=>?_))
      ·refine B hz fun x59 yM hz=>(Y 2 2 (yO rfl (cF (qR yM) ⟨rfl,(Yp 3 2 ?_)⟩)))
       cases hz;exact wu hK [] [] 2 rfl
      refine Yp 6 2 ?_;cases hz;exact wu hK [] [] 2 rfl
     refine Yp 10 2 ?_;cases hz;exact wu hK [] [] 2 rfl
    refine B h fun x30 cC h=>(X 4 1 (sO (cD (jz cC) ⟨rfl,(sQ (aA Ty.s32 rfl (Y 3 1 (itr (fun cS:Int × (List Happening)=>mkA 209 [(1,.str p1),(7,.ref 0),(8,iI x4.2.1),(9,iI x4.2.2),(14,.ref 1),(117,sL aa x30),(118,iI ((x30).length:Int)),(119,iI cS.1)]) (fun cS=>[aR 52 2 ah x4.1,aR 52 2 ah cS.2]) h (wk [(14,52,2)] [0,1] 1 rfl) (fun cS v_368 h lR=>?_)))))⟩)))
    obtain ⟨s31,s32⟩:=cS;replace h:cE p1 x4 x30 s31 s32=some v_368:=h;try dsimp only
    unfold cE at h;refine X 5 2 (T.ci h rfl (fun xW h=>?_) (fun xW h=>?_))
    ·refine B h fun x34 gB h=>(X 6 2 (sQ (aP Ty.s32 (fun _=>rfl) rfl rfl gB (Y 10 2 (T.ci h rfl (fun xX h=>?_) (fun xX h=>?_))))))
     ·refine X 1 2 ?_;replace h:=mi h lR;exact sx (hK1 s32 h)
     refine B h fun x36 l8 h=>(X 8 2 (sO (cO 2 (ky l8) ⟨rfl,(sQ (cJ (en:=aa) Ty.s32 rfl rfl (Y 3 3 (itr (fun dj:Bool × Int × (List Happening)=>mkA 209 [(1,.str p1),(7,.ref 0),(8,iI x4.2.1),(9,iI x4.2.2),(14,.ref 1),(15,iI s31),(16,.str x34),(17,.bool dj.1),(117,sL aa x30),(118,iI ((x30).length:Int)),(119,iI s31),(126,.ref 2),(127,iI ((x36).length:Int)),(128,iI dj.2.1)]) (fun dj=>[aR 52 2 ah x4.1,aR 52 2 ah dj.2.2,aR 9 1 aa x36]) h (wk [] [0,1,2] 3 rfl) (fun dj v_407 h xY=>?_)))))⟩)))
     obtain ⟨s37,s38,s39⟩:=dj;replace h:cZ x4 s31 x34 x36 s37 s38 s39=some v_407:=h;try dsimp only
     unfold cZ at h;refine X 5 3 (T.ci h rfl (fun xZ h=>?_) (fun xZ h=>?_))
     ·refine B h fun x42 l9 h=>(B h fun x43 yN h=>(X 6 3 (sQ (aG (en:=aa) Ty.s32 rfl rfl rfl l9 (sO (bE (en:=aa) (a:=x43) rfl rfl yN (bt Ty.k9 (c:=.str x43) rfl (B h fun x45 yP h=>(Y 7 3 (sO (cF (qW yP) ⟨rfl,(Y 10 3 (T.ci h rfl (fun ya h=>?_) (fun ya h=>?_)))⟩)))))))))))
      ·refine T.join1 (Z:=Int × Bool) (fun eC=>mkA 209 [(1,.str p1),(7,.ref 0),(8,iI x4.2.1),(9,iI x4.2.2),(14,.ref 1),(15,iI s31),(16,.str x34),(17,.bool s37),(18,iI s38),(22,iI eC.1),(117,sL aa x30),(118,iI ((x30).length:Int)),(119,iI s31),(126,.ref 2),(127,iI ((x36).length:Int)),(128,iI s38),(160,.bool eC.2)]) (fun eC=>[aR 52 2 ah x4.1,aR 52 2 ah s39,aR 9 1 aa x36]) (fun eC=>eM s37 s38 s39 eC.1 eC.2=some v_407) (fun eC h=>?_) (fun hK2=>?_)
       ·obtain ⟨z55,z56⟩:=eC;replace h:eM s37 s38 s39 z55 z56=some v_407:=h;try dsimp only
        unfold eM at h;refine T.ci h rfl (fun yb h=>?_) (fun yb h=>?_)
        ·refine B h fun x57 yR h=>(X 10 3 (sO (bC (rows:=List.map ah [(⟨IntKind.i64.wrap (s38+1),z55⟩:Happening)]) (vs:=[.agg [iI (IntKind.i64.wrap (s38+1)),iI z55]]) Ty.s46 Ty.z52 rfl rfl rfl rfl rfl rfl (sO (eZ (en:=ah) (xs:=s39) (ys:=([(⟨IntKind.i64.wrap (s38+1),z55⟩:Happening)]:List Happening)) Ty.s46 (fun _=>rfl) rfl rfl rfl yR rfl rfl (Y 6 5 ?_))))))
         exact lk h (wk [] [0,4,2] 5 rfl)
        exact X 5 3 (lk h (wk [] [0,1,2] 3 rfl))
       refine X 3 3 ?_;rcases aq (ee x45.1) with lS | lS
       ·replace h:=bv h lS;refine B h fun x50 yS h=>(sO (cD (uJ yS) ⟨rfl,(Y 6 3 (j1 [(1,.str p1),(7,.ref 0),(8,iI x4.2.1),(9,iI x4.2.2),(14,.ref 1),(15,iI s31),(16,.str x34),(17,.bool s37),(18,iI s38),(22,iI x50),(117,sL aa x30),(118,iI ((x30).length:Int)),(119,iI s31),(126,.ref 2),(127,iI ((x36).length:Int)),(128,iI s38),(151,.tup []),(152,.tup []),(155,.tup []),(156,.tup []),(157,.tup []),(158,.tup []),(160,.bool ((x45.1==[]) || false))] [aR 52 2 ah x4.1,aR 52 2 ah s39,aR 9 1 aa x36] ?_ (fun hK=>?_)))⟩))
        ·exact sx (hK2 (x50,((x45.1==[]) || false)) h)
        refine X 5 3 (gp 147 (fun lT=>?_) (fun lT=>?_))
        ·refine Yp 14 3 ?_;rw [lT] at hK;exact sx hK
        refine Y 1 3 (yO rfl (nG Tryz.underlying57 rfl rfl (Yp 12 3 ?_)));rw [lT] at hK;exact sx hK
       replace h:=bw h lS;refine B h fun x51 yT h=>(sO (cD (uz yT) ⟨rfl,(Y 6 3 ?_)⟩))
       obtain ⟨yc,hz,h⟩:=bind_some h;revert hz h;revert yc;intro c54 hz h;refine j1 [(1,.str p1),(7,.ref 0),(8,iI x4.2.1),(9,iI x4.2.2),(14,.ref 1),(15,iI s31),(16,.str x34),(17,.bool s37),(18,iI s38),(22,iI x51),(117,sL aa x30),(118,iI ((x30).length:Int)),(119,iI s31),(126,.ref 2),(127,iI ((x36).length:Int)),(128,iI s38),(160,.bool c54)] [aR 52 2 ah x4.1,aR 52 2 ah s39,aR 9 1 aa x36] ?_ (fun hK=>?_)
       ·exact sx (hK2 (x51,c54) h)
       refine X 5 3 ?_;rcases aq (x45.1==[]) with cT | cT
       ·replace hz:=bv hz cT;exact gT 147 cT (Yp 14 3 (T.sub hK ⟨rfl,rfl,rfl,rfl,rfl,rfl,rfl,rfl,rfl,rfl,rfl,rfl,rfl,rfl,rfl,rfl,(congrArg AV.bool ((congrArg (fun p=>p) (yY hz)).symm)).symm,tqz⟩))
       replace hz:=bw hz cT;refine yg 3 cT (yO cT (lw Tryz.underlying57 rfl (yg 3 cT (yg 3 rfl (yg 3 rfl (yQ cT (aS (v:=.bool (x51 != 0)) rfl rfl rfl (yg 3 cT ?_))))))));rcases aq (x51 != 0) with iH | iH
       ·replace hz:=bv hz iH;exact B hz fun x53 yU hz=>(gT 154 iH (Y 1 3 (yO rfl (cF (td yU) ⟨rfl,(Y 2 3 (gF 147 cT (Yp 3 3 (T.sub hK ⟨rfl,rfl,rfl,rfl,rfl,rfl,rfl,rfl,rfl,rfl,rfl,rfl,rfl,rfl,rfl,rfl,(congrArg AV.bool ((congrArg (fun p=>p) (yY hz)).symm)).symm,tqz⟩))))⟩))))
       replace hz:=bw hz iH;exact gF 154 iH (Y 4 3 (gF 147 cT (Yp 3 3 (T.sub hK ⟨rfl,rfl,rfl,rfl,rfl,rfl,rfl,rfl,rfl,rfl,rfl,rfl,rfl,rfl,rfl,rfl,(congrArg AV.bool ((congrArg (fun p=>p) (yY hz)).symm)).symm,tqz⟩))))
      exact X 5 3 (lk h (wk [] [0,1,2] 3 rfl))
     refine X 1 3 ?_;replace h:=mi h xY;refine X 5 3 (T.ci h rfl (fun yd h=>?_) (fun yd h=>?_))
     ·refine j1 [(4,.bool ((x4.2.2==1) && ((x4.2.1==s31) && ((x4.1).length:Int)==0)))] [] ?_ (fun hK=>?_)
      ·replace h:=mi h lR;cases h;exact tD
      refine X 5 3 (gp 173 (fun kg=>?_) (fun kg=>?_))
      ·refine Yp 5 3 (gp 178 (fun lU=>?_) (fun lU=>?_))
       ·refine Y 1 3 (yQ rfl (cJ (en:=ah) Ty.s46 rfl rfl (Yp 4 3 ?_)));rw [kg] at hK;rw [lU] at hK;exact wu hK [] [] 3 rfl
       refine Yp 6 3 ?_;rw [kg] at hK;rw [lU] at hK;exact wu hK [] [] 3 rfl
      refine Yp 11 3 ?_;rw [kg] at hK;exact wu hK [] [] 3 rfl
     exact X 5 3 (lk h (wk [] [0,1] 3 rfl))
    refine X 1 2 ?_;replace h:=mi h lR;exact sx (hK1 s32 h)
   refine X 6 1 (gp 85 (fun dJ=>?_) (fun dJ=>?_))
   ·refine Yp 17 1 ?_;rw [dJ] at hK;exact sx hK
   refine Y 3 1 (gp 88 (fun gu=>?_) (fun gu=>?_))
   ·refine Yp 5 1 (gp 93 (fun eF=>?_) (fun eF=>?_))
    ·refine Yp 9 1 ?_;rw [dJ] at hK;rw [gu] at hK;rw [eF] at hK;exact sx hK
    refine Y 3 1 (gp 96 (fun iK=>?_) (fun iK=>?_))
    ·refine Yp 6 1 ?_;rw [dJ] at hK;rw [gu] at hK;rw [eF] at hK;rw [iK] at hK;exact sx hK
    refine Yp 6 1 ?_;rw [dJ] at hK;rw [gu] at hK;rw [eF] at hK;rw [iK] at hK;exact sx hK
   refine Yp 8 1 (gp 96 (fun l0=>?_) (fun l0=>?_))
   ·refine Yp 6 1 ?_;rw [dJ] at hK;rw [gu] at hK;rw [l0] at hK;exact sx hK
   refine Yp 6 1 ?_;rw [dJ] at hK;rw [gu] at hK;rw [l0] at hK;exact sx hK
  refine X 4 1 (sQ (aA Ty.s46 rfl (Y 3 1 (itr (fun bW:(List UInt8) × Int × Int=>mkA 209 [(1,.str p1),(5,.str x2.1),(6,iI x2.2),(7,.ref 0),(8,iI x4.2.1),(9,iI x4.2.2),(10,.str bW.1),(11,iI bW.2.1),(40,sL ah p0),(41,iI ((p0).length:Int)),(42,iI bW.2.2)]) (fun bW=>[aR 52 2 ah x4.1]) h (wk [] [0] 1 rfl) (fun bW v_460 h qk=>?_)))));obtain ⟨s8,s9,s10⟩:=bW;replace h:cq p0 p1 x2 x4 s8 s9 s10=some v_460:=h;try dsimp only
  unfold cq at h;refine X 5 1 (T.ci h rfl (fun ye h=>?_) (fun ye h=>?_))
  ·refine B h fun x12 cn h=>(X 6 1 (sQ (aP Ty.s46 (fun _=>rfl) rfl rfl cn (Y 5 1 (jn (Z:=Int) (fun gl=>mkA 209 [(1,.str p1),(5,.str x2.1),(6,iI x2.2),(7,.ref 0),(8,iI x4.2.1),(9,iI x4.2.2),(10,.str s8),(11,iI gl),(12,iI s10),(13,.ptr 1 0),(40,sL ah p0),(41,iI ((p0).length:Int)),(42,iI s10)]) (fun gl=>[aR 52 2 ah x4.1,.box (ah x12)]) (fun gl=>dN p1 x2 x4 s8 s10 x12 gl=some v_460) (fun gl h=>?_) (fun hK7=>?_))))))
   ·revert h;revert gl;intro z13 h;replace h:dN p1 x2 x4 s8 s10 x12 z13=some v_460:=h;try dsimp only
    unfold dN at h;refine X 6 2 (T.ci h rfl (fun yf h=>?_) (fun yf h=>?_))
    ·refine X 1 2 ?_;replace h:=mi h qk;exact wu (hK5 (s8,z13) h) [] [0] 2 rfl
    refine X 1 2 (jn (Z:=List UInt8) (fun gm=>mkA 209 [(1,.str p1),(5,.str x2.1),(6,iI x2.2),(7,.ref 0),(8,iI x4.2.1),(9,iI x4.2.2),(10,.str gm),(11,iI z13),(13,.ptr 1 0),(40,sL ah p0),(41,iI ((p0).length:Int)),(42,iI s10)]) (fun gm=>[aR 52 2 ah x4.1,.box (ah x12)]) (fun gm=>eL s10 x12 z13 gm=some v_460) (fun gm h=>?_) (fun hK6=>?_))
    ·revert h;revert gm;intro z15 h;replace h:eL s10 x12 z13 z15=some v_460:=h;try dsimp only
     unfold eL at h;refine B h fun x20 kw h=>(B h fun x21 gy h=>(B h fun x22 l5 h=>(B h fun x23 iQ h=>(X 1 2 (T.drawn mixed (k:=9) rfl ?_)))))
     apply RA.jn 3 (bm 9 63);intro qw
     ·refine rq [0,2] 7 (ra2 1 3 ?_ ?_)
      ·exact oO rfl (cO 2 (ky kw) ⟨rfl,(ra1 3 (og 3 ⟨rfl,(rq [4] 4 (r0 5 rfl (aG (en:=aa) Ty.s32 rfl rfl rfl gy (raE qw))))⟩))⟩)
      ·exact og 2 ⟨rfl,(rq [4] 5 (ra1 1 (oO rfl (cO 2 (ky kw) ⟨rfl,(r0 5 rfl (aG (en:=aa) Ty.s32 rfl rfl rfl gy (raT qw)))⟩))))⟩
     refine ra1 6 (oO rfl (bE (en:=aa) (a:=x22) rfl rfl l5 (bt Ty.k9 (c:=.str x22) rfl (r0 7 rfl (iu rfl rfl iQ (rq [8] 0 (RA.done (by decide +kernel) (X 6 3 (T.ci h rfl (fun yh h=>?_) (fun yh h=>?_))))))))))
     ·exact B h fun x24 iS h=>(B h fun x25 iT h=>(X 4 3 (sO (cF (bf iS) ⟨rfl,(sQ (iu rfl rfl iT (Y 6 3 (lk h (wk [] [0] 3 rfl)))))⟩))))
     exact X 5 3 (lk h (wk [] [0] 3 rfl))
    refine X 6 2 (T.ci h rfl (fun yi h=>?_) (fun yi h=>?_))
    ·exact B h fun x14 bq h=>(X 2 2 (sQ (iu rfl rfl bq (Y 2 2 (sx (hK6 x14 h))))))
    exact X 1 2 (sx (hK6 s8 h))
   refine X 1 2 (j1 [(1,.str p1),(5,.str x2.1),(6,iI x2.2),(7,.ref 0),(8,iI x4.2.1),(9,iI x4.2.2),(10,.str s8),(11,iI s9),(12,iI s10),(13,.ptr 1 0),(40,sL ah p0),(41,iI ((p0).length:Int)),(42,iI s10),(58,.bool ((s9==0) && ((decide (x12.Kind<1)) || decide (x12.Kind > 7))))] [aR 52 2 ah x4.1,.box (ah x12)] ?_ (fun hK=>?_))
   ·refine T.ci h rfl (fun yj h=>?_) (fun yj h=>?_)
    ·exact X 3 2 (sx (hK7 5 h))
    exact X 1 2 (sx (hK7 s9 h))
   refine X 5 2 ?_;rcases aq (s9==0) with cU | cU
   ·refine yg 2 cU (yg 2 cU (yg 2 cU (yg 2 cU ?_)));rcases aq (decide (x12.Kind<1)) with iJ | iJ
    ·exact gT 53 iJ (Y 3 2 (gT 49 cU (Yp 3 2 (T.sub hK ⟨rfl,rfl,rfl,rfl,rfl,rfl,rfl,rfl,rfl,rfl,rfl,rfl,rfl,(congrArg AV.bool (by simp only [cU,iJ,bz,if_true,if_false,y6])).symm,tqz⟩))))
    exact gF 53 iJ (Y 3 2 (gT 49 cU (Yp 3 2 (T.sub hK ⟨rfl,rfl,rfl,rfl,rfl,rfl,rfl,rfl,rfl,rfl,rfl,rfl,rfl,(congrArg AV.bool (by simp only [cU,iJ,bz,if_true,if_false,y6])).symm,tqz⟩))))
   exact gF 49 cU (Yp 10 2 (T.sub hK ⟨rfl,rfl,rfl,rfl,rfl,rfl,rfl,rfl,rfl,rfl,rfl,rfl,rfl,(congrArg AV.bool (by simp only [cU,bz,if_true,if_false,y6])).symm,tqz⟩))
  refine X 1 1 ?_;replace h:=mi h qk;exact sx (hK5 (s8,s9) h)
 refine X 4 1 (sQ (aA Ty.s46 rfl (Y 2 1 (T.ci h rfl (fun yk h=>?_) (fun yk h=>?_)))))
 ·exact X 3 1 (sx (hK9 2 h))
 exact X 1 1 (sx (hK9 0 h))
end
section
open Go.ChangeShapes Go.WideShapes Go.ChangeAt Go.RowKit
theorem mW {α:Type} {p:Nat->α->Prop}:∀ n:Nat,(∀ i,i<n->∃ x,p i x)->∃ l:List α,l.length=n/\∀ (i:Nat) x,l[i]?=some x->p i x
 | 0,_=>⟨[],rfl,fun i x h=>by simp at h⟩
 | n+1,h=>by
  obtain ⟨l,hl,hp⟩:=mW n (fun i hi=>h i (by omega));obtain ⟨y,hy⟩:=h n (by omega);refine ⟨l++[y],by simp [hl],fun i x hx=>?_⟩;rw [zp] at hx;split at hx
  ·exact hp i x hx
  ·have:i=n:=by
    have:=(yX.1 hx).1;simp at this;omega
   subst this;simp [hl] at hx;subst hx;exact hy
theorem n4 {H:Type} (d:DataW H):1<=Rows.uptoBulk d:=by
 cases d with
 | lit l=>cases l<;>simp [Rows.uptoBulk]
 | _=>simp [Rows.uptoBulk]
theorem oN {H α:Type} (m:α->Nat):∀ (l:List α) (ds:List (DataW H)),l.length=ds.length->(∀ (i:Nat) x d,l[i]?=some x->ds[i]?=some d->m x<=Rows.uptoBulk d)->(l.map m).sum<=Rows.uptoBulkAll ds
 | [],[],_,_=>by simp
 | [],_::_,h,_=>by simp at h
 | _::_,[],h,_=>by simp at h
 | x::l,d::ds,h,hp=>by have h0:=hp 0 x d rfl rfl;have h1:=oN m l ds (by simpa using h) (fun i y e hy he=>hp (i+1) y e (by simpa using hy) (by simpa using he));simp only [zh,List.sum_cons,Rows.uptoBulkAll];omega
structure Opn (P:Program) (t:TypeId) {α:Type} (en:α->List AV) (good:α->Prop) (m:α->Nat):Prop where
 opn:∀ {H:Type} {enc:TypeId × Value->H} {W:World} {fuel:Nat} {cs:List Value} {x:DataW H × List MemPlace},DataW.trod enc P W 0 (fun _=>true) true fuel t cs=some x ->
  ∃ a,RelL [] W (fun b=>b<W.heap.size) (en a) cs/\(∀ u,u∈cs->u.oneCell'=true)/\good a/\m a<=Rows.uptoBulk x.1
theorem Opn.map {P:Program} {t:TypeId} {α β:Type} {en:α->List AV} {good:α->Prop} {m:α->Nat} (h:Opn P t en good m) (f:α->β) {en':β->List AV} {good':β->Prop} {m':β->Nat}
  (he:∀ a,en' (f a)=en a) (hg:∀ a,good a->good' (f a)) (hm:∀ a,m' (f a)<=m a):Opn P t en' good' m' :=
 ⟨fun hx=>by obtain ⟨a,h1,h2,h3,h4⟩:=h.opn hx;exact ⟨f a,by rw [he];exact h1,h2,hg a h3,zP (hm a) h4⟩⟩
theorem ib {σ:List Value} {w:World} {F:Nat->Prop} {a:AV} {v:Value} (h:Rel σ w F a v):RelL σ w F [a] [v]:=.cons h .nil
theorem Opn.bool {P:Program} {t:TypeId} (ht:P.underlying t=some .bool):Opn P t (fun b:Bool=>[.bool b]) (fun _=>True) (fun _=>1) :=
 ⟨fun hx=>by obtain ⟨b,rfl,rfl⟩:=DataW.trod_bool ht hx;exact ⟨b,ib (.bool b),by simp [Value.oneCell'],trivial,n4 _⟩⟩
theorem Opn.int {P:Program} {t:TypeId} {k:IntKind} (ht:P.underlying t=some (.int k)):Opn P t (fun n:Int=>[.int k n]) (fun n=>k.min<=n/\n<=k.max) (fun _=>1) :=
 ⟨fun hx=>by obtain ⟨n,rfl,rfl,hw⟩:=DataW.trod_int ht hx;refine ⟨n,ib (.int k n),by simp [Value.oneCell'],?_,n4 _⟩;simpa only [Lit.wf,Aa,decide_eq_true_eq] using hw⟩
theorem Opn.str {P:Program} {t:TypeId} (ht:P.underlying t=some .string):Opn P t (fun s:List UInt8=>[.str s]) (fun s=>s.length<=maxLen) (fun s=>s.length+1) :=
 ⟨fun hx=>by
  obtain ⟨s,rfl,rfl,hw⟩:=DataW.trod_string ht hx;refine ⟨s.data.toList,ib (by simpa using Rel.str s.data.toList),by simp [Value.oneCell'],?_,by simp [Rows.uptoBulk]⟩;have e:s.data.toList.length=s.size:=by rw [Array.length_toList];rfl
  omega⟩
theorem Opn.slice {P:Program} {t e:TypeId} {α:Type} {en:α->List AV} {good:α->Prop} {m:α->Nat} {size:Nat} (ht:P.underlying t=some (.slice e)) (hc:P.cellsOf e=size+1) (h:Opn P e en good m) :
  Opn P t (fun l:List α=>[.sl (l.map en)]) (fun l=>∀ a,a∈l->good a) (fun l=>(l.map m).sum+1):=by
 refine ⟨fun {H enc W fuel cs x} hx=>?_⟩
 rcases DataW.trod_slice ht hx with ⟨rfl,rfl⟩ | ⟨a,len,cap,elems,rest,n,_,rfl,rfl,hb,hl,hm,hlen,hel,hsp,hns⟩
 ·exact ⟨[],ib .slNil,by simp [Value.oneCell'],by simp,by simp [Rows.uptoBulk]⟩
 rw [hc] at hel
 have hone:∀ i,i<len->∃ y:α × List Value × (DataW H × List MemPlace),elems[i]?=some y.2.2/\W.cells? 0 (a.add (i*(size+1))) (size+1)=some y.2.1/\RelL [] W (fun b=>b<W.heap.size) (en y.1) y.2.1/\(∀ u,u∈y.2.1->u.oneCell'=true)/\good y.1/\m y.1<=Rows.uptoBulk y.2.2.1:=by intro i hi;have h1:=hel i hi;rw [yW (by omega:i<elems.length)] at h1;obtain ⟨cs',hcs,ht'⟩:=Option.bind_eq_some_iff.1 h1;obtain ⟨y,g1,g2,g3,g4⟩:=h.opn ht';exact ⟨(y,cs',elems[i]),yW (by omega),hcs,g1,g2,g3,g4⟩
 obtain ⟨ys,hys,hp⟩:=mW len hone
 refine ⟨ys.map (·.1),ib ?_,by simp [Value.oneCell'],?_,?_⟩
 ·have hrl:((ys.map (·.1)).map en).length=len:=by simp [hys]
  have key:Rel [] W (fun b=>b<W.heap.size) (.sl ((ys.map (·.1)).map en)) (.slice (some a) ((ys.map (·.1)).map en).length cap):=by
   refine .sl _ (size+1) a cap (fun i j=>((ys[i]?).bind (fun y=>y.2.1[j]?)).getD .nilIface) (fun hne=>?_) (by omega) hm (fun row hrow=>?_) (fun i j hi hj=>?_) (fun i j hi hj=>?_) (fun i row j x hi hj=>?_)
   ·have hpos:0<len:=by
     rcases Nat.eq_zero_or_pos len with h0 | h0
     ·exfalso;apply hne;apply y7;omega
     ·exact h0
    obtain ⟨y,hy⟩:∃ y,ys[0]?=some y:=⟨ys[0],yW (by omega)⟩
    have:=World.cells?_block (hp 0 y hy).2.1 (by omega);rwa [fJ] at this
   ·simp only [z6,zt] at hrow;obtain ⟨y,hy,rfl⟩:=hrow;obtain ⟨i,hi,hi'⟩:=List.getElem_of_mem hy;have h1:=hp i y (by rw [yW hi,hi']);have h2:=(World.cells?_some h1.2.1).2.1;have h3:=h1.2.2.1.1;simp only [Function.comp];omega
   ·rw [hrl] at hi;obtain ⟨y,hy⟩:∃ y,ys[i]?=some y:=⟨ys[i],yW (by omega)⟩
    have h1:=hp i y hy;have h2:=(World.cells?_some h1.2.1).2.1;have h3:y.2.1[j]?=some y.2.1[j]:=yW (by omega);simp only [hy,yV,h3,zU];exact h1.2.2.2.1 _ (zq _)
   ·rw [hrl] at hi;obtain ⟨y,hy⟩:∃ y,ys[i]?=some y:=⟨ys[i],yW (by omega)⟩
    have h1:=hp i y hy;have h2:=World.cells?_some h1.2.1;have h3:y.2.1[j]?=some y.2.1[j]:=yW (by omega);simp only [hy,yV,h3,zU];rw [<- c7,h2.2.2 j hj,h3]
   ·simp only [z6,zb,y8] at hi;obtain ⟨y,hy,rfl⟩:=hi;have h1:=hp i y hy;obtain ⟨v,hv,hr⟩:=h1.2.2.1.get hj;simp only [hy,yV,hv,zU];exact hr
  rwa [hrl] at key
 ·intro z hz
  simp only [zt] at hz
  obtain ⟨y,hy,rfl⟩:=hz
  obtain ⟨i,hi,hi'⟩:=List.getElem_of_mem hy
  exact (hp i y (by rw [yW hi,hi'])).2.2.2.2.1
 ·have:=oN m (ys.map (·.1)) (elems.map (·.1)) (by simp [hys,hlen]) (fun i z d hz hd=>by
   simp only [zb,y8] at hz hd;obtain ⟨y,hy,rfl⟩:=hz;obtain ⟨el,he,rfl⟩:=hd;have h1:=hp i y hy;rw [h1.1] at he;obtain rfl:=yY he;exact h1.2.2.2.2.2)
  simp only [Rows.uptoBulk]
  omega
structure OpnF (P:Program) (fs:List Field) (off total:Nat) {α:Type} (en:α->List AV) (good:α->Prop) (m:α->Nat):Prop where
 opn:∀ {H:Type} {enc:TypeId × Value->H} {W:World} {fuel:Nat} {cs:List Value} {xs:List (DataW H × List MemPlace)},cs.length=total ->
  xs.length=fs.length->(∀ (i:Nat) (f:Field),fs[i]?=some f->DataW.trod enc P W 0 (fun _=>true) true fuel f.type ((cs.drop f.offset).take (P.cellsOf f.type))=xs[i]?) ->
  ∃ a,RelL [] W (fun b=>b<W.heap.size) (en a) (cs.drop off)/\(∀ u,u∈cs.drop off->u.oneCell'=true)/\good a/\m a<=Rows.uptoBulkAll (xs.map (·.1))
theorem OpnF.nil {P:Program} {total:Nat}:OpnF P [] total total (fun _:Unit=>[]) (fun _=>True) (fun _=>0) :=
 ⟨fun hl hx hp=>⟨(),by rw [zX (by omega)];exact .nil,by rw [zX (by omega)];simp,trivial,by simp⟩⟩
theorem OpnF.cons {P:Program} {f:Field} {fs:List Field} {off total:Nat} {α β:Type} {en1:α->List AV} {en2:β->List AV} {g1:α->Prop} {g2:β->Prop} {m1:α->Nat} {m2:β->Nat}
  (ho:f.offset=off) (c:Nat) (hc:P.cellsOf f.type=c) (h1:Opn P f.type en1 g1 m1) (h2:OpnF P fs (off+c) total en2 g2 m2) :
  OpnF P (f::fs) off total (fun p:α × β=>en1 p.1++en2 p.2) (fun p=>g1 p.1/\g2 p.2) (fun p=>m1 p.1+m2 p.2):=by
 refine ⟨fun {H enc W fuel cs xs} hl hx hp=>?_⟩
 match xs,hx with
 | x::xs,hx =>
  have h0:=hp 0 f rfl
  simp only [List.getElem?_cons_zero] at h0
  subst ho;subst hc
  obtain ⟨a,a1,a2,a3,a4⟩:=h1.opn h0
  obtain ⟨b,b1,b2,b3,b4⟩:=h2.opn (xs:=xs) hl (by simpa using hx) (fun i f' hf=>by simpa using hp (i+1) f' (by simpa using hf))
  have hs:cs.drop f.offset=(cs.drop f.offset).take (P.cellsOf f.type)++cs.drop (f.offset+P.cellsOf f.type):=by rw [<- z8];exact (zE _ _).symm
  refine ⟨(a,b),?_,fun u hu=>?_,⟨a3,b3⟩,?_⟩
  ·rw [hs];exact a1.append b1
  ·rw [hs,zn] at hu
   exact hu.elim (a2 u) (b2 u)
  ·simp only [zh,Rows.uptoBulkAll];omega
theorem Opn.struct {P:Program} {t:TypeId} {fs:Array Field} {total:Nat} {α:Type} {en:α->List AV} {good:α->Prop} {m:α->Nat} (ht:P.underlying t=some (.struct fs)) (hc:P.cellsOf t=total)
  (h:OpnF P fs.toList 0 total en good m):Opn P t en good m:=by
 refine ⟨fun {H enc W fuel cs x} hx=>?_⟩
 obtain ⟨xs,n,rfl,rfl,hl,hxl,hp⟩:=DataW.trod_struct ht hx
 obtain ⟨a,h1,h2,h3,h4⟩:=h.opn (enc:=enc) (W:=W) (fuel:=n) (cs:=cs) (xs:=xs) (by omega) (by simp [hxl]) (fun i f hf=>hp i f (by simpa using hf))
 exact ⟨a,by simpa using h1,by simpa using h2,h3,by simp only [Rows.uptoBulk];omega⟩
theorem Opn.arg {P:Program} {t:TypeId} {α:Type} {en:α->AV} {good:α->Prop} {m:α->Nat} (h:Opn P t (fun a=>[en a]) good m)
  (ht:(match P.underlying t with | some (.struct _) | some (.array _ _)=>false | _=>true)=true)
  {H:Type} {enc:TypeId × Value->H} {W:World} {base:Nat} {v:Value} {d:DataW H} {ps:List MemPlace} (hval:Value.okWide P W .any base t v) (hd:DataW.Trod enc P W 0 (fun _=>true) true t v d ps) :
  ∃ a,Rel [] W (fun b=>b<W.heap.size) (en a) v/\good a/\m a<=Rows.uptoBulk d:=by
 obtain ⟨fuel,hf⟩:=hd
 obtain ⟨a,h1,h2,h3,h4⟩:=h.opn hf
 have hv:v.cells=#[v]:=by
  cases v with
  | agg cs =>
   exfalso;unfold Value.okWide at hval;split at hval
   ·rename_i e;rw [e] at ht;simp at ht
   ·rename_i e;rw [e] at ht;simp at ht
   ·unfold Cell.okWide at hval;split at hval<;>simp_all [Cell.ok]
  | _=>rfl
 rw [hv] at h1
 exact ⟨a,h1.2 0 (en a) v rfl rfl,h3,h4⟩
theorem Opn.args {P:Program} {t:TypeId} {α:Type} {en:α->List AV} {good:α->Prop} {m:α->Nat} (h:Opn P t en good m)
  {fs:Array Field} (ht:P.underlying t=some (.struct fs))
  {H:Type} {enc:TypeId × Value->H} {W:World} {base:Nat} {v:Value} {d:DataW H} {ps:List MemPlace} (hval:Value.okWide P W .any base t v) (hd:DataW.Trod enc P W 0 (fun _=>true) true t v d ps) :
  ∃ a,Rel [] W (fun b=>b<W.heap.size) (.agg (en a)) v/\good a/\m a<=Rows.uptoBulk d:=by
 obtain ⟨fuel,hf⟩:=hd
 obtain ⟨a,h1,h2,h3,h4⟩:=h.opn hf
 unfold Value.okWide at hval
 rw [ht] at hval
 obtain ⟨cs,rfl,_,_⟩:=hval
 simp only [Value.cells] at h1 h2
 refine ⟨a,?_,h3,h4⟩
 have:=Rel.agg (σ:=[]) (w:=W) (F:=fun b=>b<W.heap.size) (en a) cs.toList h1.1 h2 h1.2
 simpa using this
theorem nM {H:Type} {enc:TypeId × Value->H} {P:Program} (hl:laidOutB P=true) {W W':World} (hb:Below W.heap.size W W') (sp:Nat->Bool) :
  ∀ {ts:List TypeId} {vs:List Value} {ds:List (DataW H)} {ps:List MemPlace},(ts.all fun t=>P.readableRec t && decide (t<P.types.size))=true->DataW.TrodAll enc P W 0 (fun _=>true) true ts vs ds ps ->
   (∀ x∈ps,x.block<W.heap.size)->(∀ x∈ps,sp x.block=true)->DataW.TrodAll enc P W' 0 sp true ts vs ds ps
 | [],[],[],_,_,h,_,_=>h
 | [],_::_,_,_,_,h,_,_=>h.elim
 | [],[],_::_,_,_,h,_,_=>h.elim
 | _::_,[],_,_,_,h,_,_=>h.elim
 | _::_,_::_,[],_,_,h,_,_=>h.elim
 | t::ts,v::vs,d::ds,ps,hr,h,hlt,hsp=>by
  obtain ⟨p,q,h1,h2,rfl⟩:=h;simp only [List.all_cons,Aa,decide_eq_true_eq] at hr;exact ⟨p,q,WideElems.Trod_stays hl hr.1.1 hr.1.2 h1 (fun x hx=>hb.same (hlt x (by simp [hx]))) (fun x hx=>hsp x (by simp [hx])),
   nM hl hb sp hr.2 h2 (fun x hx=>hlt x (by simp [hx])) (fun x hx=>hsp x (by simp [hx])),rfl⟩
section
variable {H:Type} {enc:TypeId × Value→H} {P:Program}
theorem ri {f:Func} {s:ChangeSpec} {apart fresh handsOn again:Bool} {W W':World} {args:Array Value} {v:Value} {ds gs:List (DataW H)} {before pa pv:List MemPlace}
  (hW:DataW.Whole enc P f.params.toList s.vars apart W args.toList ds gs before)
  (hres:∀ (b:Nat) (sp:Nat->Bool) (hd:Bool),DataW.TrodAll enc P W' b sp hd f.resultTypes.toList (v.resultList f.resultTypes.size) (s.fn H (ds++gs)).results [])
  (hargs:∀ sp:Nat->Bool,(∀ p∈before,sp p.block=true)->DataW.TrodAll enc P W' 0 sp true f.params.toList args.toList (s.fn H (ds++gs)).args pa)
  (hvars:∀ sp:Nat->Bool,(∀ p∈before,sp p.block=true)->DataW.TrodVars enc P W' sp s.vars (s.fn H (ds++gs)).vars pv)
  (hps:before=pa++pv) (hb:Below W.heap.size W W')
  (hok:∀ (j:Nat) (t:TypeId) (r:Value),f.resultTypes[j]?=some t->(v.resultList f.resultTypes.size)[j]?=some r->Value.okWide P W' .any 0 t r) :
  s.post enc P f apart fresh handsOn again W args v W':=by
 have hlt:∀ p∈before,p.block<W.heap.size:=fun p hp=>hW.lt p hp
 have hold:∀ p∈before,(fun b=>decide (b<W.heap.size)) p.block=true:=fun p hp=>by simpa using hlt p hp
 refine ⟨ds,gs,before,[],pa,pv,hW,hres _ _ _,hargs _ hold,hvars _ hold,World.keptBut_mono (fun p hp=>⟨hp,?_⟩) (hb.frame (·∈before)),fun _=>?_⟩
 ·rw [hps,zn] at hp
  exact Or.inr hp
 ·obtain ⟨_,_,_,_,_,hz,hn⟩:=hW
  refine ⟨hok,_,_,([]++pa)++pv,⟨[]++pa,pv,trodAll_append (hargs _ (fun _ _=>rfl)) (hres _ _ _),hvars _ (fun _ _=>rfl),rfl,?_,?_⟩,?_⟩
  ·intro b off hp
   have hin:MemPlace.cell b off∈before:=by rw [hps];simpa using hp
   rw [hb.frozen (hlt _ hin)]
   exact hz b off hin
  ·intro ha
   have:=hn ha
   rw [hps] at this
   simpa using this
  ·intro p hp _
   rw [hps]
   simpa using hp
end
theorem uH {H:Type} {enc:TypeId × Value->H} {P:Program} {id:FuncId} {f:Func} {s:ChangeSpec} {W:World} {args:Array Value} {ds gs:List (DataW H)} {before:List MemPlace} {av:List AV} {tb:TypeId}
  (hl:laidOutB P=true) (htb:P.underlying tb=some .bool) (hres:f.resultTypes=#[tb]) (hr:(f.params.toList.all fun t=>P.readableRec t && decide (t<P.types.size))=true) (hvars:s.vars=[])
  (hfn:(s.fn H (ds++gs)).results=[.lit (.bool true)]) (hfa:(s.fn H (ds++gs)).args=ds) (hfv:(s.fn H (ds++gs)).vars=[])
  (hW:DataW.Whole enc P f.params.toList s.vars false W args.toList ds gs before)
  (hrel:RelL [] W (fun b=>b<W.heap.size) av args.toList) (hc:ACalls P id av [] fun r aw'=>r=.bool true/\aw'=[]) (hG:Gd W (fun b=>b<W.heap.size):=by intro g h;simp [gvs] at h) :
  Calls P id args W fun e W'=>∃ v,e=.returned v/\s.post enc P f false true false false W args v W':=by
 have hs:Sim [] [] W (fun b=>b<W.heap.size):=⟨rfl,fun k o v h=>by simp at h,fun k k' o o' v v' g _ h=>by simp at h,fun b h=>h,hG⟩
 refine (hc.2 W _ [] args.toList hs hrel).mono fun e W' hx=>?_
 obtain ⟨v,r,aw',σ',F',he,⟨hr1,hr2⟩,_,hv,hm⟩:=hx
 subst hr1;subst hr2
 cases hv
 have hb:Below W.heap.size W W':=⟨hm.os,hm.tape,hm.output.1,hm.size,fun k hk=>hm.keep k hk (fun ⟨k',o,v,ho,_⟩=>by simp at ho)⟩
 refine ⟨.bool true,he,?_⟩
 have hW':=hW
 obtain ⟨p,q,hA,hV,rfl,hfz,hnd⟩:=hW'
 rw [hvars] at hV
 obtain ⟨rfl,rfl⟩:=trodVars_none hV
 have hlt:∀ x∈p++[],x.block<W.heap.size:=fun x hx=>hW.lt x hx
 refine ri (pa:=p) (pv:=[]) hW (fun b sp hd=>?_) (fun sp hsp=>?_) (fun sp hsp=>?_) rfl hb (ok_one hres rfl (okWide_bool_mk htb _))
 ·rw [hfn,hres]
  exact trodAll_cons_mk (shut_bool htb _) trodAll_mk0
 ·rw [hfa]
  exact nM hl hb sp hr hA (fun x hx=>hlt x (by simpa using hx)) (fun x hx=>hsp x (by simpa using hx))
 ·rw [hfv,hvars]
  exact rfl
end
def gI (n:Int):Prop := -9223372036854775808<=n/\n<=9223372036854775807
def gL {α:Type} (g:α->Prop) (l:List α):Prop:=∀ a,a∈l->g a
def gS (s:List UInt8):Prop:=True
def kO (a:Happening):Prop:=gI a.Kind/\gI a.N
def mI (n:Int):Nat:=1
def mB (b:Bool):Nat:=1
def mS (s:List UInt8):Nat:=s.length+1
def mL {α:Type} (m:α->Nat) (l:List α):Nat:=(l.map m).sum+1
def gW (a:Happening):Nat:=2
theorem qh {α:Type} {m:α->Nat} (h:∀ a,1<=m a):∀ l:List α,l.length<=mL m l
 | []=>by simp [mL]
 | a::l=>by have:=qh h l;grind [mL]
theorem ip {n:Int} (h0 : -9223372036854775808<=n) (h1:n<=9223372036854775807):IntKind.i64.wrap n=n:=IntWalk.i64_in n ⟨h0,h1⟩
theorem bi {k:Nat} (h:k<4611686018427387904):IntKind.i64.wrap ((k:Int)+1)=((k+1:Nat):Int):=by grind [ip]
theorem bG {α:Type} {xs:List α} {k:Nat} {x:α} (h:xs[k]?=some x):idx xs (k:Int)=some x:=by assumption
theorem j0 {α:Type} {xs:List α} {k:Nat} (h:k<xs.length):ixN xs (k:Int)=some k:=by simp_all [ixN]
theorem ff {α:Type} {xs ys:List α} (h:xs.length+ys.length<=1099511627776):app xs ys=some (xs++ys):=by unfold app;rw [if_pos h]
theorem iw {xs ys:List UInt8} (h:xs.length+ys.length<=4611686018427387904):cat xs ys=some (xs++ys):=by unfold cat;rw [if_pos h]
theorem pW {α:Type} {xs:List α} {i j:Nat} (h:i<=j) (h2:j<=xs.length):sub xs (i:Int) (j:Int)=some ((xs.take j).drop i):=by simp_all [sub]
theorem sub_0 {α:Type} {xs:List α} {j:Nat} (h2:j<=xs.length):sub xs 0 (j:Int)=some (xs.take j):=by have:=pW (xs:=xs) (i:=0) (j:=j) (by omega) h2;grind
theorem oS {α:Type} {xs:List α} {i:Nat} (h2:i<=xs.length):sub xs (i:Int) (xs.length:Int)=some (xs.drop i):=by simp_all [pW]
def dp {α σ ρ:Type} (f:Nat->α->σ->Option (σ ⊕ ρ)) (fin:σ->Option ρ):Nat->List α->σ->Option ρ
 | _,[],st=>fin st
 | k,x::xs,st=>match f k x st with
  | none=>none
  | some (.inl st')=>dp f fin (k+1) xs st'
  | some (.inr r)=>some r
theorem nO {α σ ρ τ:Type} (xs:List α) (hx:xs.length<=1099511627776) (e:Nat->σ->τ) {body:τ->Option (τ ⊕ ρ)} (f:Nat->α->σ->Option (σ ⊕ ρ)) (fin:σ->Option ρ)
  (h1:∀ (k:Nat) x st,xs[k]?=some x->k<xs.length->idx xs (k:Int)=some x->decide ((k:Int)<(xs.length:Int))=true->IntKind.i64.wrap ((k:Int)+1)=((k+1:Nat):Int) ->
   body (e k st)=match f k x st with
    | none=>none
    | some (.inl st')=>some (.inl (e (k+1) st'))
    | some (.inr r)=>some (.inr r))
  (h2:∀ st,decide ((xs.length:Int)<(xs.length:Int))=false->body (e xs.length st)=(fin st).map .inr) :
  ∀ (n k:Nat) st,k+n=xs.length->iter body (e k st)=dp f fin k (xs.drop k) st
 | 0,k,st,h=>by
  have hk:k=xs.length:=by omega
  subst hk;rw [am,h2 st (by simp),List.drop_length];unfold dp;cases fin st<;>rfl
 | n+1,k,st,h=>by
  have hlt:k<xs.length:=by omega
  have hg:xs[k]?=some xs[k]:=yW hlt;rw [am,h1 k xs[k] st hg hlt (bG hg) (by simp;omega) (bi (by omega)),zD hlt];unfold dp;cases f k xs[k] st with
  | none=>rfl
  | some v =>
   cases v with
   | inl st'=>exact nO xs hx e f fin h1 h2 n (k+1) st' (by omega)
   | inr r=>rfl
theorem nh {α σ ρ τ:Type} (xs:List α) (hx:xs.length<=1099511627776) (e:Nat->σ->τ) {body:τ->Option (τ ⊕ ρ)} (f:Nat->α->σ->Option (σ ⊕ ρ)) (fin:σ->Option ρ) (st:σ)
  (h1:∀ (k:Nat) x st,xs[k]?=some x->k<xs.length->idx xs (k:Int)=some x->decide ((k:Int)<(xs.length:Int))=true->IntKind.i64.wrap ((k:Int)+1)=((k+1:Nat):Int) ->
   body (e k st)=match f k x st with
    | none=>none
    | some (.inl st')=>some (.inl (e (k+1) st'))
    | some (.inr r)=>some (.inr r))
  (h2:∀ st,decide ((xs.length:Int)<(xs.length:Int))=false->body (e xs.length st)=(fin st).map .inr):iter body (e 0 st)=dp f fin 0 xs st:=by
 have:=nO xs hx e f fin h1 h2 xs.length 0 st (by omega)
 grind
theorem m7 {α:Type} [DecidableEq α] (a b:List α) (ha:a.length<=1099511627776) (hl:a.length=b.length) {body:Int->Option (Int ⊕ Bool)}
  (h1:∀ (k:Nat) x y,decide ((k:Int)<(a.length:Int))=true->idx a (k:Int)=some x->idx b (k:Int)=some y->IntKind.i64.wrap ((k:Int)+1)=((k+1:Nat):Int)->body k=if x=y then some (.inl ((k+1:Nat):Int)) else some (.inr false))
  (h2:decide ((a.length:Int)<(a.length:Int))=false->body a.length=some (.inr true)):iter body 0=some (decide (a=b)):=by
 have key:∀ (n k:Nat),k+n=a.length->iter body k=some (decide (a.drop k=b.drop k)):=by
  intro n;induction n with
  | zero =>
   grind [am]
  | succ n ih =>
   intro k hk;have hlt:k<a.length:=by omega
   have hlt2:k<b.length:=by omega
   have hd:(a.drop k=b.drop k) ↔ (a[k]=b[k]/\a.drop (k+1)=b.drop (k+1)):=by grind [List.drop_eq_getElem_cons]
   rw [am,h1 k a[k] b[k] (by simp;omega) (bG (yW hlt)) (bG (yW hlt2)) (bi (by omega))];grind
 have:=key a.length 0 (by omega)
 grind
section
open Go.RowKit
theorem on9:Opn Tryz.prog 9 (fun s:List UInt8=>[.str s]) gS mS :=
 (Opn.str Tryz.underlying9).map id (fun _=>rfl) (fun _ _=>trivial) (fun _=>y5 _)
theorem on3:Opn Tryz.prog 3 (fun n:Int=>[.int .i64 n]) gI mI :=
 (Opn.int Tryz.underlying3).map id (fun _=>rfl) (fun a h=>⟨h.1,h.2⟩) (fun _=>y5 _)
theorem on52:Opn Tryz.prog 52 ah kO gW :=
 (Opn.struct Tryz.underlying52 Ty.c52 (OpnF.cons rfl 1 Ty.c3 on3 (OpnF.cons rfl 1 Ty.c3 on3 OpnF.nil))).map (fun p=>(⟨p.1,p.2.1⟩:Happening)) (fun p=>rfl) (fun p h=>⟨h.1,h.2.1⟩) (fun p=>by simp only [gW,mI,mB];omega)
theorem on46:Opn Tryz.prog 46 (fun l=>[.sl (l.map ah)]) (gL kO) (mL gW) :=
 (Opn.slice (size:=1) Tryz.underlying46 Ty.c52 on52).map id (fun _=>rfl) (fun a h=>h) (fun _=>y5 _)
end
section
open Go
def dig (n:Int):List UInt8:=Go.Lib.decDigits n.toNat
theorem jC {n:Int} (h:0<=n/\n<100):cm n=some (dig n):=by
 unfold cm itoaS;first
 | (rw [if_pos h];rfl)
 | (rw [if_pos (by omega)];unfold Go.Lib.itoa;rw [if_neg (by omega)];rfl)
theorem jO {n:Int} (h:n<100):(dig n).length<=2/\dig n≠[]:=by
 unfold dig;unfold Go.Lib.decDigits;split
 ·exact ⟨by simp,by simp⟩
 ·unfold Go.Lib.decDigits;rw [dif_pos (by omega)];exact ⟨by simp,by simp⟩
def numT (l:List Int):List UInt8:=if l=[] then [45] else Go.Lib.join (l.map dig) [44]
theorem takeS {α:Type} {l:List α} {k:Nat} {x:α} (h:l[k]?=some x):l.take (k+1)=l.take k++[x]:=by rw [List.take_add_one,h];rfl
theorem pr:∀ xs:List (List UInt8),(∀ x,x∈xs->x.length<=2)->Go.Lib.lens xs<=2*xs.length
 | [],_=>by simp [Go.Lib.lens]
 | x::r,h=>by
  have h1:=h x zl;have h2:=pr r fun y hy=>h y (zd _ hy)
  simp only [Go.Lib.lens,zh,List.sum_cons,y0] at h2 ⊢;omega
theorem vU (xs:List (List UInt8)) (h:∀ x,x∈xs->x.length<=2):(Go.Lib.join xs [44]).length<=3*xs.length:=by
 cases xs with
 | nil=>rw [Go.Lib.join_nil];simp
 | cons x r =>
  have:=pr (x::r) h;rw [Go.Lib.join_length];simp only [y0,zj] at this ⊢;omega
section
variable {l:List Int} (hl:l.length≤1000) (h:∀ x,x∈l→0≤x∧x<100)
include hl h
theorem oZ (k:Nat):(Go.Lib.join ((l.take k).map dig) [44]).length<=3000:=by
 have:=vU ((l.take k).map dig) fun x hx=>by obtain ⟨y,hy,rfl⟩:=zt.1 hx;exact (jO (h y (zo hy)).2).1
 rw [zf,zO] at this;omega
theorem mQ:∀ (m k:Nat),k+m=l.length->iter (fun cX:Int × (List (List UInt8))=>dQ l cX.1 cX.2) ((k:Int),(l.take k).map dig)=some (numT l)
 | 0,k,hk=>by
  have e:dQ l (k:Int) ((l.take k).map dig)=some (.inr (numT l)):=by
   have hj:=oZ hl h l.length;unfold dQ;rw [zm (y5 _)] at hj;rw [if_neg (by simp;omega),zm (by omega)];unfold numT;by_cases h0:l=[]
   ·subst h0;rfl
   ·rw [if_neg (by simpa using h0),if_neg h0];unfold strings_Join joinB;rw [if_pos ⟨by simp;omega,by omega⟩];rfl
  rw [am];simp only [e]
 | m+1,k,hk=>by
  have hlt:k<l.length:=by omega
  have hx:l[k]?=some l[k]:=yW hlt;have hb:=h l[k] (zq hlt);generalize l[k]=x at hx hb;have e:dQ l (k:Int) ((l.take k).map dig)=some (.inl (((k+1:Nat):Int),(l.take (k+1)).map dig)):=by unfold dQ;rw [if_pos (by simp;omega),bG hx,yV,jC hb,yV,ff (by simp;omega),yV,bi (by omega),takeS hx,zH];rfl
  rw [am];simp only [e];exact mQ m (k+1) (by omega)
theorem nn:gP l=some (numT l):=mQ hl h l.length 0 (by omega)
end
end
section
open Go
def kindsL:List (List UInt8):=[[115,111,117,114,99,101],[109,97,112],[115,99,97,110],[99,111,117,110,116],[116,101,101],[109,101,114,103,101],[115,112,108,105,116],[115,105,110,107]]
def nameT (k:Int):List UInt8:=kindsL.getD (k - 1).toNat []
def dm (x:Node):List UInt8:=nameT x.Kind++[32]++dig x.A++[32]++numT x.In++[32]++numT x.Out++[10]
def dl (n:Net):List UInt8:=[114,105,110,103,115,32]++dig n.Rings++[32]++dig n.Room++[10]
def textT (n:Net):List UInt8:=dl n++(n.Nodes.map dm).flatten
structure TNode (x:Node):Prop where
 k:1<=x.Kind/\x.Kind<=8
 a:0<=x.A/\x.A<100
 i:x.In.length<=1000/\∀ r,r∈x.In->0<=r/\r<100
 o:x.Out.length<=1000/\∀ r,r∈x.Out->0<=r/\r<100
structure TN (n:Net):Prop where
 l:n.Nodes.length<=12
 r:0<=n.Rings/\n.Rings<100
 m:0<=n.Room/\n.Room<100
 x:∀ x,x∈n.Nodes->TNode x
theorem px {l:List Int} (hl:l.length<=1000) (h:∀ x,x∈l->0<=x/\x<100):(numT l).length<=3000:=by
 have:=oZ hl h l.length;rw [zm (y5 _)] at this;unfold numT;split
 ·simp
 ·exact this
theorem wH (k:Int):(nameT k).length<=6:=by
 unfold nameT;rw [za];cases h:kindsL[(k - 1).toNat]? with
 | none=>simp
 | some x =>
  have hall:∀ y,y∈kindsL->y.length<=6:=by decide
  exact hall x (yZ h)
theorem pm {x:Node} (t:TNode x):(dm x).length<=7000:=by have h1:=wH x.Kind;have h2:=(jO t.a.2).1;have h3:=px t.i.1 t.i.2;have h4:=px t.o.1 t.o.2;unfold dm;simp only [zc,y0,zj];omega
theorem ox:∀ l:List Node,(∀ x,x∈l->TNode x)->((l.map dm).flatten).length<=7000*l.length
 | [],_=>by simp
 | x::l,h=>by
  have h1:=pm (h x zl);have h2:=ox l fun y hy=>h y (zd _ hy)
  rw [zh,zC,zc,y0];omega
theorem pE {n:Net} (t:TN n):(dl n).length<=100:=by have h1:=(jO t.r.2).1;have h2:=(jO t.m.2).1;unfold dl;simp only [zc,y0,zj];omega
theorem sk (a b:List UInt8):aT (a++b)=aT a++aT b:=by unfold aT;rw [zH]
theorem nk (a:List UInt8):(aT a).length=a.length:=by unfold aT;rw [zf]
theorem rv (a:List UInt8):cy (aT a)=a:=by
 unfold cy aT;rw [z6];induction a with
 | nil=>rfl
 | cons b a ih=>rw [zh,ih];simp
theorem qc (ws:List (List UInt8)) (s:List UInt8) (hw:ws.length<=4) (hj:(Go.Lib.join ws [32]).length<=10000) (hp:s.length<=10000000):fE ws (aT s)=some (aT (s++Go.Lib.join ws [32]++[10])):=by unfold fE strings_Join joinB;rw [if_pos ⟨by omega,by omega⟩,yV,iw (by simp only [y0,zj];omega),yV];unfold iW kF;rw [yV,ff (by rw [nk,nk,zc];simp only [y0,zj];omega),yV,yV,<- sk,Ai]
theorem join4 (a b c d:List UInt8):Go.Lib.join [a,b,c,d] [32]=a++[32]++b++[32]++c++[32]++d:=by rw [Go.Lib.join_cons];simp [Go.Lib.joinTail]
theorem join3 (a b c:List UInt8):Go.Lib.join [a,b,c] [32]=a++[32]++b++[32]++c:=by rw [Go.Lib.join_cons];simp [Go.Lib.joinTail]
theorem uO {k:Int} (h:1<=k/\k<=8):∃ j:Nat,k=(j:Int)/\j<9/\([]::kindsL)[j]?=some (nameT k)/\j - 1<8/\kindsL[j - 1]?=some (nameT k):=by
 obtain ⟨j,rfl⟩:=zV (show 0<=k by omega);refine ⟨j,rfl,by omega,?_⟩;have:j=1∨j=2∨j=3∨j=4∨j=5∨j=6∨j=7∨j=8:=by omega
 rcases this with rfl | rfl | rfl | rfl | rfl | rfl | rfl | rfl<;>exact ⟨rfl,by decide,rfl⟩
section
variable {n:Net} (t:TN n)
include t
theorem nr:∀ (m k:Nat),k+m=n.Nodes.length->iter (fun cW:Int × (List Int)=>dR n cW.1 cW.2) ((k:Int),aT (dl n++((n.Nodes.take k).map dm).flatten))=some (textT n,0)
 | 0,k,hk=>by
  have e:dR n (k:Int) (aT (dl n++((n.Nodes.take k).map dm).flatten))=some (.inr (textT n,0)):=by
   unfold dR;rw [if_neg (by simp;omega),zm (by omega)];unfold kQ bldS;rw [if_pos ⟨by simp [aT,dl],fun x hx=>by obtain ⟨b,_,rfl⟩:=zt.1 hx;have:=b.toNat_lt;omega⟩,rv]
   rfl
  rw [am];simp only [e]
 | m+1,k,hk=>by
  have hlt:k<n.Nodes.length:=by omega
  have hx:n.Nodes[k]?=some n.Nodes[k]:=yW hlt;have tx:=t.x n.Nodes[k] (zq hlt);generalize n.Nodes[k]=x at hx tx;obtain ⟨j,hj,hj9,hjn,_⟩:=uO tx.k;have hl1:=ox (n.Nodes.take k) fun y hy=>t.x y (zo hy)
  have hl2:=pE t;have hl3:=pm tx;have htk:(n.Nodes.take k).length<=12:=by rw [zO];have:=t.l;omega
  have e:dR n (k:Int) (aT (dl n++((n.Nodes.take k).map dm).flatten))=some (.inl (((k+1:Nat):Int),aT (dl n++((n.Nodes.take (k+1)).map dm).flatten))):=by
   unfold dR;rw [if_pos (by simp;omega),bG hx,yV,show dZ=some ([]::kindsL) from rfl,yV,hj,j0 (show j<([]::kindsL).length from hj9),yV,hjn,yV,jC tx.a,yV,nn tx.i.1 tx.i.2,yV,nn tx.o.1 tx.o.2,yV,
    qc _ _ (by simp) (by rw [join4];unfold dm at hl3;simp only [zc,y0,zj] at hl3 ⊢;omega) (by rw [zc];omega),yV,bi (by have:=t.l;omega),takeS hx,zH,Ab,join4]
   unfold dm;simp only [zh,An,zC,List.flatten_nil,Ae,Ai]
  rw [am];simp only [e];exact nr m (k+1) (by omega)
theorem uS (hc:da n=some 0):gV n=some (textT n,0):=by
 have hl2:=pE t;unfold gV;rw [hc,yV,if_neg (by decide),jC t.r,yV,jC t.m,yV,show ([]:List Int)=aT [] from rfl,
  qc _ _ (by simp) (by rw [join3];unfold dl at hl2;simp only [zc,y0,zj] at hl2 ⊢;omega) (by simp),yV,join3]
 have:=nr t n.Nodes.length 0 (by omega);simp only [List.take_zero,An,List.flatten_nil,Ae] at this;rw [<- this];unfold dl;simp only [zN,zA,Ai];rfl
end
end
section
open Go
theorem pU {u:Nat} (h:u<10):Go.Lib.decDigits u=[UInt8.ofNat (48+u)]:=by rw [Go.Lib.decDigits,dif_pos h]
theorem xv {u:Nat} (h:¬ u<10):Go.Lib.decDigits u=Go.Lib.decDigits (u / 10)++[UInt8.ofNat (48+u % 10)]:=by rw [Go.Lib.decDigits,dif_neg h]
end
section
open Go
def verbsL:List (List UInt8):=[[103,111],[119,114,105,116,101],[102,108,117,115,104],[116,101,108,108],[99,117,116],[117,112],[108,97,121]]
def bH (k:Int):List UInt8:=verbsL.getD (k - 1).toNat []
def charsT:List UInt8:=[45,48,49,50,51,52,53,54,55,56,57]
def aU (x:Happening):List UInt8:=bH x.Kind++if x.N=0 then [] else Go.Lib.itoa x.N
def Int64 (n:Int):Prop := -9223372036854775808<=n/\n<=9223372036854775807
theorem sB (n:Int):∃ c r,Go.Lib.itoa n=c::r/\c∈charsT:=by
 unfold Go.Lib.itoa;split
 ·exact ⟨45,_,rfl,by decide⟩
 ·obtain ⟨c,r,e,h1,h2⟩:=tJ n.toNat;refine ⟨c,r,e,?_⟩;have hall:∀ k,k<10->UInt8.ofNat (48+k)∈charsT:=by decide
  have:=hall (c.toNat - 48) (by omega);rw [show 48+(c.toNat - 48)=c.toNat by omega,UInt8.ofNat_toNat] at this;exact this
theorem oH (k:Int):∀ x,x∈bH k->97<=x.toNat/\x.toNat<128:=by
 unfold bH;rw [za];cases h:verbsL[(k - 1).toNat]? with
 | none=>intro x hx;simp at hx
 | some l =>
  have hall:∀ y,y∈verbsL->∀ x,x∈y->97<=x.toNat/\x.toNat<128:=by decide
  exact hall l (yZ h)
theorem nD {l:List UInt8} (h:∀ x,x∈l->97<=x.toNat/\x.toNat<128):∀ x,x∈l->charsT.contains x=false:=by
 intro x hx;have hall:∀ y,y∈charsT->y.toNat<97:=by decide
 cases hc:charsT.contains x with
 | false=>rfl
 | true =>
  have h1:=hall x (by simpa using hc);have:=h x hx;omega
theorem m5:∀ l:List UInt8,(∀ x,x∈l->charsT.contains x=false)->Go.Lib.indexAny l charsT = -1
 | [],_=>rfl
 | x::l,h=>by unfold Go.Lib.indexAny;rw [if_neg (by rw [h x zl];decide),if_pos (by rw [m5 l fun y hy=>h y (zd _ hy)];rfl)]
theorem oD {c:UInt8} (hc:c∈charsT) (r:List UInt8):∀ l:List UInt8,(∀ x,x∈l->charsT.contains x=false)->Go.Lib.indexAny (l++c::r) charsT=l.length
 | [],_=>by
  show Go.Lib.indexAny (c::r) charsT=_;unfold Go.Lib.indexAny;rw [if_pos (by simpa using hc)];rfl
 | x::l,h=>by
  have ih:=oD hc r l fun y hy=>h y (zd _ hy)
  show Go.Lib.indexAny (x::(l++c::r)) charsT=_;unfold Go.Lib.indexAny;rw [if_neg (by rw [h x zl];decide),ih,if_neg (by simp)];simp
end
section
open Go
def eq (x:Happening):Prop:=1<=x.Kind/\x.Kind<=7
instance (x:Happening):Decidable (eq x):=by unfold eq;infer_instance
theorem o8 {k:Int} (h:1<=k/\k<=7):k=1∨k=2∨k=3∨k=4∨k=5∨k=6∨k=7:=by omega
theorem sm {k:Int} (h:1<=k/\k<=7):(bH k,k)∈bg:=by rcases o8 h with rfl | rfl | rfl | rfl | rfl | rfl | rfl<;>decide
theorem oQ {k:Int}:(bH k).length<=5:=by
 unfold bH;rw [za];cases h:verbsL[(k - 1).toNat]? with
 | none=>simp
 | some l =>
  have hall:∀ y,y∈verbsL->y.length<=5:=by decide
  exact hall l (yZ h)
theorem pC {zs:List (List UInt8 × Int)} (h:zs.Perm bg) (k:Int):mget k (bB zs)=if 1<=k/\k<=7 then some (bH k) else none:=by
 have hn:(zs.map (·.2)).Nodup:=(h.map (·.2)).nodup_iff.2 (by decide);split
 ·rename_i hk;exact (ni k zs hn).1 _ (h.mem_iff.2 (sm hk))
 ·rename_i hk;refine (ni k zs hn).2 fun v hv=>hk ?_
  have hall:∀ z,z∈bg->1<=z.2/\z.2<=7:=by decide
  exact hall _ (h.mem_iff.1 hv)
theorem lC:∀ k u:Nat,u<10 ^ (k+1)->(Go.Lib.decDigits u).length<=k+1
 | 0,u,h=>by rw [pU (by simpa using h)];simp
 | k+1,u,h=>by
  by_cases h1:u<10
  ·rw [pU h1];simp
  ·rw [xv h1];have:=lC k (u / 10) (by rw [Nat.pow_succ] at h;omega);simp only [zc,y0,zj];omega
theorem pn {n:Int} (h:Int64 n):(Go.Lib.itoa n).length<=20:=by
 unfold Go.Lib.itoa;split
 ·have:=lC 18 n.natAbs (by have:=h.1;omega);simp only [y0];omega
 ·have:=lC 18 n.toNat (by have:=h.2;omega);omega
theorem jP {x:Happening} (h:Int64 x.N):(aU x).length<=25:=by
 unfold aU;have h1:=oQ (k:=x.Kind);have h2:=pn h;rw [zc];split
 ·simp;omega
 ·omega
theorem k5 {n:Int} (h:Int64 n):cm n=some (Go.Lib.itoa n):=by unfold cm itoaS;exact if_pos h
theorem pg:∀ xs:List (List UInt8),(∀ x,x∈xs->x.length<=25)->Go.Lib.lens xs<=25*xs.length
 | [],_=>by simp [Go.Lib.lens]
 | x::r,h=>by
  have h1:=h x zl;have h2:=pg r fun y hy=>h y (zd _ hy)
  simp only [Go.Lib.lens,zh,List.sum_cons,y0] at h2 ⊢;omega
theorem pL (xs:List (List UInt8)) (h:∀ x,x∈xs->x.length<=25):(Go.Lib.join xs [32]).length<=26*xs.length:=by
 cases xs with
 | nil=>rw [Go.Lib.join_nil];simp
 | cons x r =>
  have:=pg (x::r) h;rw [Go.Lib.join_length];simp only [y0,zj] at this ⊢;omega
section
variable {l:List Happening} (hN:∀ x,x∈l→Int64 x.N) (hl:l.length≤60) {zs:List (List UInt8 × Int)} (hz:zs.Perm bg)
include hN hl hz
def cP (l:List Happening):List UInt8 × Int:=if ∀ x,x∈l->eq x then (Go.Lib.join (l.map aU) [32],0) else ([],5)
theorem mX:∀ m k:Nat,k+m=l.length->(∀ x,x∈l.take k->eq x)->iter (fun bj:Int × (List (List UInt8))=>c6 l zs bj.1 bj.2) ((k:Int),(l.take k).map aU)=some (cP l)
 | 0,k,h,hk=>by
  have ht:l.take k=l:=zm (by omega);rw [ht] at hk ⊢;rw [am];have e:c6 l zs (k:Int) (l.map aU)=some (.inr (cP l)):=by
   unfold c6;have hj:strings_Join (l.map aU) [32]=some (Go.Lib.join (l.map aU) [32]):=by
    unfold strings_Join joinB;have:=pL (l.map aU) fun w hw=>by obtain ⟨x,hx,rfl⟩:=zt.1 hw;exact jP (hN x hx)
    rw [zf] at this;exact if_pos ⟨by simp;omega,by omega⟩
   rw [if_neg (by simp;omega),hj,yV];unfold cP;rw [if_pos hk];rfl
  simp only [e]
 | m + 1,k,h,hk=>by
  have hlt:k<l.length:=by omega
  have hx:l[k]?=some l[k]:=yW hlt;have hm:l[k]∈l:=zq hlt;generalize l[k]=x at hx hm;rw [am];by_cases hok:eq x
  ·have e:c6 l zs (k:Int) ((l.take k).map aU)=some (.inl (((k+1:Nat):Int),(l.take (k+1)).map aU)):=by
    unfold c6;rw [if_pos (by simp;omega),bG hx,yV,(pC hz x.Kind).trans (if_pos hok),if_neg (by simp)];have hw:=jP (hN x hm);rw [takeS hx,zH];by_cases h0:x.N=0
    ·rw [if_neg (by simp [h0]),zU,ff (by simp;omega),yV,bi (by omega)];simp [aU,h0]
    ·rw [if_pos (by simp [h0]),k5 (hN x hm),yV,zU,iw (by unfold aU at hw;rw [if_neg h0,zc] at hw;omega),yV,ff (by simp;omega),yV,bi (by omega)];simp [aU,h0]
   simp only [e];exact mX m (k+1) (by omega) fun y hy=>by
    rw [takeS hx] at hy;rcases zn.1 hy with hy | hy
    ·exact hk y hy
    ·simp at hy;exact hy▸hok
  ·have e:c6 l zs (k:Int) ((l.take k).map aU)=some (.inr ([],5)):=by
    unfold c6;rw [if_pos (by simp;omega),bG hx,yV,(pC hz x.Kind).trans (if_neg hok),if_pos (by simp)];rfl
   simp only [e];unfold cP;rw [if_neg fun hh=>hok (hh x hm)]
end
theorem tv {l:List Happening} (hN:∀ x,x∈l->Int64 x.N) (hl:l.length<=1099511627776):gQ l=some (if l.length > 60 then ([],2) else cP l):=by
 unfold gQ;by_cases h:l.length > 60
 ·rw [if_pos (by simp;omega),if_pos h]
 ·rw [if_neg (by simp;omega),if_neg h];exact sw fun zs hz=>by have:=mX hN (by omega) hz l.length 0 (by omega) (by simp);simpa using this
end
noncomputable section
open Go
def iterF {α β:Type} (body:α->Option (α ⊕ β)):Nat->α->Option β
 | 0,_=>none
 | k+1,s=>match body s with
  | none=>none
  | some (.inr r)=>some r
  | some (.inl s')=>iterF body k s'
theorem o3 {α β:Type} {bF body:α->Option (α ⊕ β)} (hb:∀ s x,bF s=some x->body s=some x):∀ (k:Nat) (s:α) (r:β),iterF bF k s=some r->iter body s=some r
 | 0,s,r,h=>by cases h
 | k+1,s,r,h=>by
  unfold iterF at h;rw [am];cases e:bF s with
  | none=>rw [e] at h;cases h
  | some x =>
   rw [e] at h;simp only [hb s x e];cases x with
   | inr y=>cases h;rfl
   | inl s'=>exact o3 hb k s' r h
def lineF (p0:Int) (p1:List UInt8) (p2 p3:Int) (p4:List Node):Option (Bool × Int × Int × (List Node)) :=
 (Option.bind (cR p1 ([32]:List UInt8)) fun x2=>(if (p0==0)=true then (Option.bind (if (((x2).length:Int) != 3)=true then (some true) else (Option.bind (idx x2 0) fun x3=>(some (!(x3==[114,105,110,103,115]))))) fun c4=>(if c4=true then (some (false,p2,p3,p4)) else (Option.bind (idx x2 1) fun x9=>(Option.bind (eX x9) fun x10=>(Option.bind (idx x2 2) fun x11=>(Option.bind (eX x11) fun x12=>(some (true,x10,x12,p4)))))))) else (if (((x2).length:Int) != 4)=true then (some (false,p2,p3,p4)) else (Option.bind dZ fun x14=>(iterF (fun eE:Int=>iZ p2 x2 p3 p4 x14 eE) 20 0)))))
theorem il {p0:Int} {p1:List UInt8} {p2 p3:Int} {p4:List Node} {r:Bool × Int × Int × (List Node)} (h:lineF p0 p1 p2 p3 p4=some r):eR p0 p1 p2 p3 p4=some r:=by
 unfold lineF at h;unfold eR;cases hs:cR p1 [32] with
 | none=>rw [hs] at h;cases h
 | some x2 =>
  rw [hs,yV] at h;rw [yV];split at h
  ·rename_i h0;rw [if_pos h0];exact h
  ·rename_i h0;rw [if_neg h0];split at h
   ·rename_i h1;rw [if_pos h1];exact h
   ·rename_i h1;rw [if_neg h1,show dZ=some ([]::kindsL) from rfl,yV];rw [show dZ=some ([]::kindsL) from rfl,yV] at h;exact o3 (fun _ _ h=>h) 20 0 r h
theorem im {x2:List (List UInt8)} {k:Nat} {t:List UInt8} {a b:Int} {nd:List Node} {r:Int × Int × List Node} (h:x2[k]?=some t) (hk:k+1<x2.length) (hl:x2.length<=1000) (hr:eR (k:Int) t a b nd=some (true,r)) :
  b8 x2 (k:Int) a b nd=some (.inl (((k+1:Nat):Int),r.1,r.2.1,r.2.2)):=by
 unfold b8
 have hw:IntKind.i64.wrap ((x2.length:Int) - 1)=(x2.length:Int) - 1:=ip (by omega) (by omega)
 have hne:((k:Int)==(x2.length:Int) - 1)=false:=by rw [beq_eq_false_iff_ne];omega
 rw [if_pos (by simp;omega),bG h,yV,hw,hne,if_neg (by decide),if_pos (by decide),hr,yV,yV]
 simp only [Bool.not_true]
 rw [if_neg (by decide),bi (by omega)]
def meetL:List (List UInt8):=[[114,105,110,103,115,32,51,32,49],[115,111,117,114,99,101,32,48,32,45,32,48],[115,111,117,114,99,101,32,49,32,45,32,49],[109,101,114,103,101,32,48,32,48,44,49,32,50],[115,105,110,107,32,48,32,50,32,45],[]]
def meetT:Net:=⟨[⟨1,0,[],[0]⟩,⟨1,1,[],[1]⟩,⟨6,0,[0,1],[2]⟩,⟨8,0,[2],[]⟩],3,1⟩
theorem v6:TN meetT:=⟨by decide,by decide,by decide,fun x hx=>by simp only [meetT,zT,List.not_mem_nil,or_false] at hx;rcases hx with rfl | rfl | rfl | rfl<;>exact ⟨by decide,by decide,⟨by decide,by decide⟩,⟨by decide,by decide⟩⟩⟩
theorem sF (hc:da meetT=some 0):gU (textT meetT)=some (meetT,0,0):=by
 have hs:cR (textT meetT) [10]=some meetL:=by decide +kernel
 have s0:b8 meetL ((0:Nat):Int) 0 0 []=some (.inl (((0+1:Nat):Int),3,1,[])):=im (r:=(3,1,[])) rfl (by decide) (by decide) (il (by decide +kernel));have s1:b8 meetL ((0+1:Nat):Int) 3 1 []=some (.inl (((0+1+1:Nat):Int),3,1,meetT.Nodes.take 1)):=im (r:=(3,1,meetT.Nodes.take 1)) rfl (by decide) (by decide) (il (by decide +kernel));have s2:b8 meetL ((0+1+1:Nat):Int) 3 1 (meetT.Nodes.take 1)=some (.inl (((0+1+1+1:Nat):Int),3,1,meetT.Nodes.take 2)):=im (r:=(3,1,meetT.Nodes.take 2)) rfl (by decide) (by decide) (il (by decide +kernel));have s3:b8 meetL ((0+1+1+1:Nat):Int) 3 1 (meetT.Nodes.take 2)=some (.inl (((0+1+1+1+1:Nat):Int),3,1,meetT.Nodes.take 3)):=im (r:=(3,1,meetT.Nodes.take 3)) rfl (by decide) (by decide) (il (by decide +kernel));have s4:b8 meetL ((0+1+1+1+1:Nat):Int) 3 1 (meetT.Nodes.take 3)=some (.inl (((0+1+1+1+1+1:Nat):Int),3,1,meetT.Nodes)):=im (r:=(3,1,meetT.Nodes)) rfl (by decide) (by decide) (il (by decide +kernel));have s5:b8 meetL ((0+1+1+1+1+1:Nat):Int) 3 1 meetT.Nodes=some (.inl (6,3,1,meetT.Nodes)):=rfl;have s6:b8 meetL 6 3 1 meetT.Nodes=some (.inr (meetT,0,0)):=by unfold b8;rw [if_neg (by decide),show da (⟨meetT.Nodes,3,1⟩:Net)=some 0 from hc,yV,if_neg (by decide)];rfl
 unfold gU;rw [if_neg (by decide +kernel),hs,yV];rw [am];simp only [Ak] at s0;simp only [s0];rw [am];simp only [s1];rw [am];simp only [s2];rw [am];simp only [s3];rw [am];simp only [s4];rw [am];simp only [s5];rw [am];simp only [s6]
theorem wc (hc:da meetT=some 0) (hs:fF meetT meetT=some true):fH=some true:=by unfold fH;rw [show gN=some meetT from rfl,yV,uS v6 hc,yV,sF hc,yV,if_pos (by decide),if_pos (by decide),if_pos (by decide),if_pos (by decide +kernel),yV,hs];rfl
end
def er:Ends:=⟨-1, -1⟩
theorem oI (R:Nat) (hR:R<=16):∀ (n k:Nat) (xs:List Ends),R - k<=n->1<=k->k<=R->xs.length=R->xs.take k=List.replicate k er ->
  iter (fun ss:Int × List Ends=>dO ss.1 ss.2) ((k:Int),xs)=some (List.replicate R er)
 | n,k,xs,hn,h1,h2,hl,ht=>by
  rw [am];by_cases hk:k=R
  ·simp_all [dO,zm]
  ·have hkR:k<R:=by omega
   have v1:vwok xs.length (k:Int) (xs.length:Int)=some ():=by simp_all [vwok]
   have v2:vwok xs.length 0 (k:Int)=some ():=by simp_all [vwok]
   have v3:vwok xs.length ((((k:Int)).toNat:Nat):Int) ((((k:Int).toNat:Nat):Int)+((((xs.length:Int)).toNat - (k:Int).toNat:Nat):Int))=some ():=by grind
   have v4:vwok xs.length ((((0:Int)).toNat:Nat):Int) ((((0:Int).toNat:Nat):Int)+(((k:Int).toNat - (0:Int).toNat:Nat):Int))=some ():=by grind
   have hstep:dO (k:Int) xs=some (.inl (((k+min (R - k) k:Nat):Int),xs.take k++(xs.take k).take (R - k)++xs.drop (k+min (R - k) k))):=by
    unfold dO;rw [if_pos (by simp;omega),v1,yV,v2,yV,v3,yV,v4,yV];have e1:IntKind.i64.wrap ((k:Int)+((min (((xs.length:Int)).toNat - (k:Int).toNat) ((k:Int).toNat - (0:Int).toNat):Nat):Int))=((k+min (R - k) k:Nat):Int):=by grind [ip]
    simp_all [cpy]
   rw [hstep];simp only;have hm:1<=min (R - k) k:=by omega
   match n,hn with
   | 0,hn=>omega
   | n+1,hn =>
    refine oI R hR n (k+min (R - k) k) _ (by omega) (by omega) (by omega) (by simp;omega) ?_
    simp_all
theorem v7 (R:Nat) (hR:R<=16):jb (IntKind.u64.wrap (([(⟨(-1),(-1)⟩:Ends)]:List Ends).length:Int)) (IntKind.u64.wrap (R:Int))=some (0,(R:Int)):=by
 have:R=0∨R=1∨R=2∨R=3∨R=4∨R=5∨R=6∨R=7∨R=8∨R=9∨R=10∨R=11∨R=12∨R=13∨R=14∨R=15∨R=16:=by omega
 rcases this with rfl | rfl | rfl | rfl | rfl | rfl | rfl | rfl | rfl | rfl | rfl | rfl | rfl | rfl | rfl | rfl | rfl<;>rfl
theorem tu (R:Nat) (hR:R<=16):gK ([(⟨(-1),(-1)⟩:Ends)]:List Ends) (R:Int)=some (List.replicate R er):=by
 unfold gK;rw [if_neg (by simp),v7 R hR,yV,if_neg (by simp;omega),ip (show -9223372036854775808<=(R:Int) by omega) (show (R:Int)<=9223372036854775807 by omega)];have hmk:mk (R:Int) (⟨0,0⟩:Ends)=some (List.replicate R ⟨0,0⟩):=by unfold mk;grind
 rw [hmk,yV];simp only [List.length_replicate,List.length_singleton];by_cases h0:R=0
 ·grind [am,dO,cpy]
 ·have e:min R 1=1:=by omega
  rw [e];have hc:cpy (List.replicate R (⟨0,0⟩:Ends)) 0 R [(⟨(-1),(-1)⟩:Ends)]=er::(List.replicate R (⟨0,0⟩:Ends)).drop 1:=by grind [cpy,List.take_of_length_le,er]
  rw [hc];exact oI R hR R 1 _ (by omega) (by omega) (by omega) (by simp;omega) (by simp)
def jV (k:Int):Option (Int × Int):=if k=1 then some (0,1) else if k=2∨k=3∨k=4 then some (1,1) else if k=5∨k=7 then some (1, -1) else if k=6 then some (-1,1) else if k=8 then some (1,0) else none
def cw (n:Nat) (want:Int):Bool:=decide ((n:Int)=want∨want<0/\0<n)
def badA (x:Node):Bool:=decide (x.A<0∨x.Kind=1/\4<=x.A∨x.Kind=2/\3<x.A∨x.Kind≠1/\x.Kind≠2/\x.A≠0)
def ii (x:Node):Int:=match jV x.Kind with
 | none=>5
 | some (i,o)=>if (cw x.In.length i && cw x.Out.length o)=false then 4 else if badA x then 3 else 0
def cx (R i:Int):List Int->List Ends->Int ⊕ List Ends
 | [],l=>.inr l
 | r::rs,l=>if r<0∨R<=r then .inl 3 else match l[r.toNat]? with
  | none=>.inl 99
  | some e=>if 0<=e.dst then .inl 6 else cx R i rs (l.set r.toNat ⟨e.src,i⟩)
def bY (R i:Int):List Int->List Ends->Int ⊕ List Ends
 | [],l=>.inr l
 | r::rs,l=>if r<0∨R<=r then .inl 3 else match l[r.toNat]? with
  | none=>.inl 99
  | some e=>if 0<=e.src then .inl 6 else bY R i rs (l.set r.toNat ⟨i,e.dst⟩)
def oneN (R:Int) (i:Nat) (x:Node) (l:List Ends):Int ⊕ List Ends :=
 if ii x≠0 then .inl (ii x) else match cx R i x.In l with
  | .inl e=>.inl e
  | .inr l1=>bY R i x.Out l1
def dB (R:Int):Nat->List Node->Nat->List Ends->Int ⊕ (Nat × List Ends)
 | _,[],s,l=>.inr (s,l)
 | i,x::xs,s,l=>match oneN R i x l with
  | .inl e=>.inl e
  | .inr l1=>dB R (i+1) xs (if x.Kind=8 then s+1 else s) l1
def lookN (n:Net):Int ⊕ List Ends :=
 if n.Nodes.length<1∨12<n.Nodes.length∨n.Rings<0∨16<n.Rings then .inl 2
 else if n.Room<1∨6<n.Room then .inl 3
 else match dB n.Rings 0 n.Nodes 0 (List.replicate n.Rings.toNat er) with
  | .inl e=>.inl e
  | .inr (s,l)=>if l.any (fun e=>decide (e.src<0∨e.dst<0)) then .inl 9 else if s≠1 then .inl 4 else .inr l
theorem kT (R i:Int):∀ (rs:List Int) (l l1:List Ends),cx R i rs l=.inr l1->l1.length=l.length
 | [],l,l1,h=>by cases h;rfl
 | r::rs,l,l1,h=>by
  unfold cx at h;split at h
  ·cases h
  ·split at h
   ·cases h
   ·split at h
    ·cases h
    ·have:=kT R i rs _ l1 h;grind
theorem js (R i:Int):∀ (rs:List Int) (l l1:List Ends),bY R i rs l=.inr l1->l1.length=l.length
 | [],l,l1,h=>by cases h;rfl
 | r::rs,l,l1,h=>by
  unfold bY at h;split at h
  ·cases h
  ·split at h
   ·cases h
   ·split at h
    ·cases h
    ·have:=js R i rs _ l1 h;grind
theorem uK {R:Int} {i:Nat} {x:Node} {l l1:List Ends} (h:oneN R i x l=.inr l1):l1.length=l.length:=by
 unfold oneN at h;split at h
 ·cases h
 ·split at h
  ·cases h
  ·rename_i l2 h2;exact (js R i _ _ _ h).trans (kT R i _ _ _ h2)
theorem uv (k:Int):gY k=some (match jV k with | some (i,o)=>(i,o,true) | none=>(0,0,false)):=by grind [gY,eT,fI,jV]
theorem vZ (n:Nat) (w:Int):fQ (n:Int) w=some (cw n w):=by unfold fQ cw;congr 1;grind
theorem vO (n:Net) (s:Int) (i:Nat) (x:Node) (hR:n.Rings<=16) (k:Nat) (l:List Ends) (hlt:k<x.Out.length) (hx:x.Out.length<=1099511627776) (hl:(l.length:Int)=n.Rings) :
  dY n i x s k l=if x.Out[k]<0∨n.Rings<=x.Out[k] then some (.inr (.inr ([],3))) else match l[x.Out[k].toNat]? with
   | none=>none
   | some e=>if 0<=e.src then some (.inr (.inr ([],6))) else some (.inl (((k+1:Nat):Int),l.set x.Out[k].toNat ⟨i,e.dst⟩)):=by
 unfold dY
 rw [if_pos (by simp;omega),bG (yW hlt),yV]
 by_cases hr:x.Out[k]<0∨n.Rings<=x.Out[k]
 ·grind
 ·rw [if_neg (by simp;omega),if_neg hr]
  have hrl:x.Out[k].toNat<l.length:=by omega
  have hix:ixN l x.Out[k]=some x.Out[k].toNat:=by simp_all [ixN]
  have hg:=yW hrl
  simp only [hix,hg,yV,bi (show k<4611686018427387904 by omega)]
  simp
theorem wq (n:Net) (s:Int) (i:Nat) (x:Node) (hR:n.Rings<=16) (k:Nat) (l:List Ends) (hlt:k<x.In.length) (hx:x.In.length<=1099511627776) (hl:(l.length:Int)=n.Rings) :
  dV n i x s k l=if x.In[k]<0∨n.Rings<=x.In[k] then some (.inr (.inr ([],3))) else match l[x.In[k].toNat]? with
   | none=>none
   | some e=>if 0<=e.dst then some (.inr (.inr ([],6))) else some (.inl (((k+1:Nat):Int),l.set x.In[k].toNat ⟨e.src,i⟩)):=by
 unfold dV
 rw [if_pos (by simp;omega),bG (yW hlt),yV]
 by_cases hr:x.In[k]<0∨n.Rings<=x.In[k]
 ·grind
 ·rw [if_neg (by simp;omega),if_neg hr]
  have hrl:x.In[k].toNat<l.length:=by omega
  have hix:ixN l x.In[k]=some x.In[k].toNat:=by simp_all [ixN]
  have hg:=yW hrl
  simp only [hix,hg,yV,bi (show k<4611686018427387904 by omega)]
  simp
theorem oT (n:Net) (s:Int) (i:Nat) (x:Node) (hx:x.Out.length<=1099511627776) (hi:i<=12) (hR:n.Rings<=16) :
  ∀ (m k:Nat) (l:List Ends),k+m=x.Out.length->(l.length:Int)=n.Rings ->
  iter (fun ss:Int × List Ends=>dY n i x s ss.1 ss.2) ((k:Int),l)=match bY n.Rings i (x.Out.drop k) l with
   | .inl e=>some (.inr ([],e))
   | .inr l1=>some (.inl (s,((i+1:Nat):Int),l1))
 | 0,k,l,h,hl=>by
  have hk:k=x.Out.length:=by omega
  subst hk;have:dY n i x s (x.Out.length:Int) l=some (.inr (.inl (s,((i+1:Nat):Int),l))):=by unfold dY;rw [if_neg (by simp),bi (by omega)];rfl
  grind [am,bY]
 | m+1,k,l,h,hl=>by
  have hlt:k<x.Out.length:=by omega
  rw [am,zD hlt];simp only [bY,vO n s i x hR k l hlt hx hl];by_cases hr:x.Out[k]<0∨n.Rings<=x.Out[k]
  ·grind
  ·simp only [if_neg hr];have hrl:x.Out[k].toNat<l.length:=by omega
   simp only [yW hrl];by_cases he:0<=l[x.Out[k].toNat].src
   ·grind
   ·simp only [if_neg he];exact oT n s i x hx hi hR m (k+1) _ (by omega) (by grind)
theorem pH (n:Net) (s:Int) (i:Nat) (x:Node) (hx:x.Out.length<=1099511627776) (hx2:x.In.length<=1099511627776) (hi:i<=12) (hR:n.Rings<=16) :
  ∀ (m k:Nat) (l:List Ends),k+m=x.In.length->(l.length:Int)=n.Rings ->
  iter (fun ss:Int × List Ends=>dV n i x s ss.1 ss.2) ((k:Int),l)=match (match cx n.Rings i (x.In.drop k) l with | .inl e=>Sum.inl e | .inr l1=>bY n.Rings i x.Out l1) with
   | .inl e=>some (.inr ([],e))
   | .inr l1=>some (.inl (s,((i+1:Nat):Int),l1))
 | 0,k,l,h,hl=>by
  have hk:k=x.In.length:=by omega
  subst hk;have:=oT n s i x hx hi hR x.Out.length 0 l (by omega) hl;simp only [List.drop_zero,Ak] at this;have h2:dV n i x s (x.In.length:Int) l=Option.map Sum.inr (match bY n.Rings i x.Out l with | .inl e=>some (.inr ([],e)) | .inr l1=>some (.inl (s,((i+1:Nat):Int),l1))):=by simp_all [dV]
  grind [am,cx]
 | m+1,k,l,h,hl=>by
  have hlt:k<x.In.length:=by omega
  rw [am,zD hlt];simp only [cx,wq n s i x hR k l hlt hx2 hl];by_cases hr:x.In[k]<0∨n.Rings<=x.In[k]
  ·grind
  ·simp only [if_neg hr];have hrl:x.In[k].toNat<l.length:=by omega
   simp only [yW hrl];by_cases he:0<=l[x.In[k].toNat].dst
   ·grind
   ·simp only [if_neg he];exact pH n s i x hx hx2 hi hR m (k+1) _ (by omega) (by grind)
theorem wI (x:Node):((decide (x.A<0)) || (if (x.Kind==1)=true then ((decide (x.A >= 4)) || (if (x.Kind==2)=true then ((decide (x.A > 3)) || ((x.Kind != 1) && ((x.Kind != 2) && x.A != 0))) else ((x.Kind != 1) && ((x.Kind != 2) && x.A != 0)))) else (if (x.Kind==2)=true then ((decide (x.A > 3)) || ((x.Kind != 1) && ((x.Kind != 2) && x.A != 0))) else ((x.Kind != 1) && ((x.Kind != 2) && x.A != 0)))))=badA x:=by unfold badA;grind
theorem vT (s:Int) (l:List Ends) (hl:l.length<=16):iter (fun ss:Int=>eV s l ss) 0=some (if l.any (fun e=>decide (e.src<0∨e.dst<0)) then ([],9) else if s≠1 then ([],4) else (l,0)):=by
 have:=nh (σ:=Unit) l (by omega) (fun k _=>(k:Int)) (body:=fun ss=>eV s l ss)
  (fun k e _=>if e.src<0∨e.dst<0 then some (.inr ([],9)) else some (.inl ())) (fun _=>if s≠1 then some ([],4) else some (l,0)) ()
  (fun k e _ hk hlt _ h2 h3=>by unfold eV;rw [h2,j0 hlt,h3];grind)
  (fun _ h=>by simp [eV])
 refine Eq.trans this ?_;have key:∀ (ys:List Ends) (k:Nat),dp (σ:=Unit) (ρ:=List Ends × Int) (fun k e _=>if e.src<0∨e.dst<0 then some (.inr ([],9)) else some (.inl ())) (fun _=>if s≠1 then some ([],4) else some (l,0)) k ys ()=some (if ys.any (fun e=>decide (e.src<0∨e.dst<0)) then ([],9) else if s≠1 then ([],4) else (l,0)):=by
  intro ys;induction ys with
  | nil=>grind [dp]
  | cons y ys ih =>
   intro k;unfold dp;grind
 exact key l 0
theorem pc (n:Net) (hn:n.Nodes.length<=12) (hR0:0<=n.Rings) (hR:n.Rings<=16) (hio:∀ x∈n.Nodes,x.In.length<=1099511627776/\x.Out.length<=1099511627776) :
  ∀ (m k s:Nat) (l:List Ends),k+m=n.Nodes.length->s<=k->(l.length:Int)=n.Rings ->
  iter (fun ss:Int × Int × List Ends=>dX n ss.1 ss.2.1 ss.2.2) ((s:Int),(k:Int),l)=some (match dB n.Rings k (n.Nodes.drop k) s l with
   | .inl e=>([],e)
   | .inr (s,l)=>if l.any (fun e=>decide (e.src<0∨e.dst<0)) then ([],9) else if s≠1 then ([],4) else (l,0))
 | 0,k,s,l,h,hs,hl=>by
  have hk:k=n.Nodes.length:=by omega
  subst hk;have h5:dX n s (n.Nodes.length:Int) l=some (.inr (if l.any (fun e=>decide (e.src<0∨e.dst<0)) then ([],9) else if (s:Int)≠1 then ([],4) else (l,0))):=by unfold dX;rw [if_neg (by simp),vT _ _ (by omega)];rfl
  grind [am,dB]
 | m + 1,k,s,l,h,hs,hl=>by
  have hlt:k<n.Nodes.length:=by omega
  have hmem:n.Nodes[k]∈n.Nodes:=zq hlt;rw [am,zD hlt];simp only [dB];have step:dX n s k l=match oneN n.Rings k n.Nodes[k] l with
    | .inl e=>some (.inr ([],e))
    | .inr l1=>some (.inl (((if n.Nodes[k].Kind=8 then s+1 else s:Nat):Int),((k+1:Nat):Int),l1)):=by
   unfold dX
   rw [if_pos (by simp;omega),bG (yW hlt),yV,uv,yV]
   generalize n.Nodes[k]=x at hmem
   unfold oneN ii
   cases ha:jV x.Kind with
   | none=>simp
   | some io =>
    obtain ⟨i0,o0⟩:=io
    simp only [Bool.not_true,y6,if_false,vZ,yV]
    have hfit:(if (!cw x.In.length i0)=true then some true else some (!cw x.Out.length o0))=some (!(cw x.In.length i0 && cw x.Out.length o0)):=by grind
    rw [hfit,yV]
    by_cases hf:(cw x.In.length i0 && cw x.Out.length o0)=false
    ·grind
    ·have hf':(cw x.In.length i0 && cw x.Out.length o0)=true:=by grind
     rw [if_neg (by simp [hf']),wI]
     simp only [hf',Bool.true_eq_false,if_false]
     by_cases hb:badA x=true
     ·simp [hb]
     ·simp only [hb,if_false,y6,ne_eq,not_true_eq_false]
      obtain ⟨h1,h2⟩:=hio x hmem
      have k3:∀ s':Int,eW n k l x s'=match (match cx n.Rings k x.In l with | .inl e=>Sum.inl e | .inr l1=>bY n.Rings k x.Out l1) with
        | .inl e=>some (.inr ([],e))
        | .inr l1=>some (.inl (s',((k+1:Nat):Int),l1)):=fun s'=>by
       unfold eW
       have:=pH n s' k x h2 h1 (by omega) hR x.In.length 0 l (by omega) hl
       grind
      by_cases h8:x.Kind=8
      ·rw [if_pos (by simp [h8]),k3,bi (by omega)]
       grind
      grind
  simp only [step];cases ho:oneN n.Rings k n.Nodes[k] l with
  | inl e=>rfl
  | inr l1 =>
   simp only;exact pc n hn hR0 hR hio m (k+1) _ l1 (by omega) (by grind) (by grind [uK])
theorem rS (n:Net) (hio:∀ x∈n.Nodes,x.In.length<=1099511627776/\x.Out.length<=1099511627776):hO n=some (match lookN n with | .inl e=>([],e) | .inr l=>(l,0)):=by
 unfold hO lookN;by_cases h1:n.Nodes.length<1∨12<n.Nodes.length∨n.Rings<0∨16<n.Rings
 ·grind
 rw [if_neg (by simp;omega),if_neg h1];by_cases h2:n.Room<1∨6<n.Room
 ·grind
 rw [if_neg (by simp;omega),if_neg h2];have hRn:n.Rings=((n.Rings.toNat:Nat):Int):=by omega
 rw [hRn,tu _ (by omega),yV,<- hRn];have:=pc n (by omega) (by omega) (by omega) hio n.Nodes.length 0 0 (List.replicate n.Rings.toNat er) (by omega) (by omega) (by simp;omega);grind
theorem nt (R i:Int) (hi:0<=i):∀ (rs:List Int) (l l1:List Ends),(l.length:Int)=R->cx R i rs l=.inr l1 ->
  (∀ r∈rs,0<=r/\r<R/\∀ e,l[r.toNat]?=some e->e.dst<0)/\rs.Nodup/\∀ j:Nat,l1[j]?=if (j:Int)∈rs then (l[j]?).map (fun e=>⟨e.src,i⟩) else l[j]?
 | [],l,l1,hl,h=>by cases h;simp
 | r :: rs,l,l1,hl,h=>by
  unfold cx at h;split at h
  ·cases h
  ·rename_i hr;split at h
   ·cases h
   ·rename_i e he;split at h
    ·cases h
    ·rename_i hd;have hlt:r.toNat<l.length:=(yX.1 he).1;obtain ⟨h1,h2,h3⟩:=nt R i hi rs _ l1 (by grind) h;have hnot:r ∉ rs:=fun hm=>by
      grind
     refine ⟨fun q hq=>?_,Ao.2 ⟨hnot,h2⟩,fun j=>?_⟩
     ·rcases zT.1 hq with rfl | hq
      ·grind
      ·obtain ⟨a,b,c⟩:=h1 q hq;refine ⟨a,b,fun e' he'=>?_⟩;have hne:q≠r:=fun e=>hnot (e▸hq)
       exact c e' (by rw [ze,if_neg (by omega)];exact he')
     ·rw [h3 j,ze];by_cases hj:(j:Int)=r
      ·have hjr:r.toNat=j:=by omega
       grind
      ·have hjr:¬ r.toNat=j:=by omega
       simp_all
theorem nj (R i:Int) (hi:0<=i):∀ (rs:List Int) (l l1:List Ends),(l.length:Int)=R->bY R i rs l=.inr l1 ->
  (∀ r∈rs,0<=r/\r<R/\∀ e,l[r.toNat]?=some e->e.src<0)/\rs.Nodup/\∀ j:Nat,l1[j]?=if (j:Int)∈rs then (l[j]?).map (fun e=>⟨i,e.dst⟩) else l[j]?
 | [],l,l1,hl,h=>by cases h;simp
 | r :: rs,l,l1,hl,h=>by
  unfold bY at h;split at h
  ·cases h
  ·rename_i hr;split at h
   ·cases h
   ·rename_i e he;split at h
    ·cases h
    ·rename_i hd;have hlt:r.toNat<l.length:=(yX.1 he).1;obtain ⟨h1,h2,h3⟩:=nj R i hi rs _ l1 (by grind) h;have hnot:r ∉ rs:=fun hm=>by
      grind
     refine ⟨fun q hq=>?_,Ao.2 ⟨hnot,h2⟩,fun j=>?_⟩
     ·rcases zT.1 hq with rfl | hq
      ·grind
      ·obtain ⟨a,b,c⟩:=h1 q hq;refine ⟨a,b,fun e' he'=>?_⟩;have hne:q≠r:=fun e=>hnot (e▸hq)
       exact c e' (by rw [ze,if_neg (by omega)];exact he')
     ·rw [h3 j,ze];by_cases hj:(j:Int)=r
      ·have hjr:r.toNat=j:=by omega
       grind
      ·have hjr:¬ r.toNat=j:=by omega
       simp_all
structure Looked (ns:List Node) (R:Int) (k:Nat) (l:List Ends):Prop where
 len:(l.length:Int)=R
 src:∀ (j:Nat) e,l[j]?=some e->(e.src<0∨∃ (i:Nat) (x:Node),i<k/\ns[i]?=some x/\e.src=i/\(j:Int)∈x.Out)
 dst:∀ (j:Nat) e,l[j]?=some e->(e.dst<0∨∃ (i:Nat) (x:Node),i<k/\ns[i]?=some x/\e.dst=i/\(j:Int)∈x.In)
 node:∀ (i:Nat) x,i<k->ns[i]?=some x->ii x=0/\x.In.Nodup/\x.Out.Nodup /\
  (∀ r∈x.In,0<=r/\r<R/\∃ e,l[r.toNat]?=some e/\e.dst=i)/\(∀ r∈x.Out,0<=r/\r<R/\∃ e,l[r.toNat]?=some e/\e.src=i)
theorem Looked.one {ns:List Node} {R:Int} {k:Nat} {l l1:List Ends} {x:Node} (h:Looked ns R k l) (hx:ns[k]?=some x) (ho:oneN R k x l=.inr l1):Looked ns R (k+1) l1:=by
 unfold oneN at ho;split at ho
 ·cases ho
 ·rename_i hne;split at ho
  ·cases ho
  ·rename_i l2 h2;have hl2:(l2.length:Int)=R:=by rw [kT R k _ _ _ h2];exact h.len
   obtain ⟨a1,a2,a3⟩:=nt R k (by omega) _ _ _ h.len h2;obtain ⟨b1,b2,b3⟩:=nj R k (by omega) _ _ _ hl2 ho;have hent:∀ (j:Nat) e1,l1[j]?=some e1->∃ e,l[j]?=some e/\e1.src=(if (j:Int)∈x.Out then (k:Int) else e.src)/\e1.dst=(if (j:Int)∈x.In then (k:Int) else e.dst):=fun j e1 he1=>by
    rw [b3 j,a3 j] at he1;cases hj:l[j]? with
    | none=>simp_all
    | some e =>
     rw [hj] at he1;refine ⟨e,rfl,?_⟩;split at he1<;>split at he1<;>cases he1<;>simp_all
   have hent2:∀ (j:Nat) e,l[j]?=some e->∃ e1,l1[j]?=some e1/\e1.src=(if (j:Int)∈x.Out then (k:Int) else e.src)/\e1.dst=(if (j:Int)∈x.In then (k:Int) else e.dst):=fun j e he=>by
    have hlt:j<l1.length:=by grind [js]
    obtain ⟨e',h1,h3⟩:=hent j _ (yW hlt);rw [he] at h1;cases h1;grind
   refine ⟨by grind [js],fun j e1 he1=>?_,fun j e1 he1=>?_,fun i y hi hy=>?_⟩
   ·obtain ⟨e,he,hs,_⟩:=hent j e1 he1;by_cases hm:(j:Int)∈x.Out
    ·grind
    ·rw [if_neg hm] at hs;rw [hs];rcases h.src j e he with h1 | ⟨i,y,h1,h2,h3,h4⟩
     all_goals grind
   ·obtain ⟨e,he,_,hs⟩:=hent j e1 he1;by_cases hm:(j:Int)∈x.In
    ·grind
    ·rw [if_neg hm] at hs;rw [hs];rcases h.dst j e he with h1 | ⟨i,y,h1,h2,h3,h4⟩
     all_goals grind
   ·rcases Nat.lt_or_ge i k with hik | hik
    ·obtain ⟨c1,c2,c3,c4,c5⟩:=h.node i y hik hy;refine ⟨c1,c2,c3,fun r hr=>?_,fun r hr=>?_⟩
     ·obtain ⟨d1,d2,e,d3,d4⟩:=c4 r hr;refine ⟨d1,d2,?_⟩;obtain ⟨e1,f1,_,f2⟩:=hent2 _ e d3;have hnm:(r.toNat:Int) ∉ x.In:=fun hm=>by
       grind [Int.toNat_natCast]
      grind
     ·obtain ⟨d1,d2,e,d3,d4⟩:=c5 r hr;refine ⟨d1,d2,?_⟩;obtain ⟨e1,f1,f2,_⟩:=hent2 _ e d3;have hnm:(r.toNat:Int) ∉ x.Out:=fun hm=>by
       have hl2e:∃ e2,l2[r.toNat]?=some e2/\e2.src=e.src:=by rw [a3];split<;>simp [d3]
       obtain ⟨e2,g1,g2⟩:=hl2e;grind [Int.toNat_natCast]
      grind
    ·have hik:i=k:=by omega
     subst hik;rw [hx] at hy;cases hy;refine ⟨by omega,a2,b2,fun r hr=>?_,fun r hr=>?_⟩
     ·obtain ⟨d1,d2,_⟩:=a1 r hr;refine ⟨d1,d2,?_⟩;have hlt:r.toNat<l.length:=by have:=h.len;omega
      obtain ⟨e1,f1,_,f2⟩:=hent2 _ _ (yW hlt);rw [if_pos (by grind [Int.toNat_of_nonneg])] at f2;grind
     ·obtain ⟨d1,d2,_⟩:=b1 r hr;refine ⟨d1,d2,?_⟩;have hlt:r.toNat<l.length:=by have:=h.len;omega
      obtain ⟨e1,f1,f2,_⟩:=hent2 _ _ (yW hlt);rw [if_pos (by grind [Int.toNat_of_nonneg])] at f2;grind
theorem Looked.start (ns:List Node) (R:Nat):Looked ns R 0 (List.replicate R er) :=
 ⟨by simp,fun j e he=>by rw [zW] at he;split at he<;>cases he;exact .inl (by decide),fun j e he=>by rw [zW] at he;split at he<;>cases he;exact .inl (by decide),fun i x hi=>by omega⟩
theorem nH (ns:List Node) (R:Int):∀ (xs:List Node) (k s:Nat) (l:List Ends) (s1:Nat) (l1:List Ends),ns.drop k=xs->Looked ns R k l->dB R k xs s l=.inr (s1,l1) ->
  Looked ns R ns.length l1/\s1=s+(xs.filter (fun x=>decide (x.Kind=8))).length
 | [],k,s,l,s1,l1,hd,h,hn=>by
  cases hn;have hk:ns.length<=k:=List.drop_eq_nil_iff.1 hd;refine ⟨⟨h.len,fun j e he=>?_,fun j e he=>?_,fun i x hi hx=>h.node i x (by omega) hx⟩,by simp⟩
  ·rcases h.src j e he with h1 | ⟨i,y,h1,h2,h3⟩
   all_goals grind
  ·rcases h.dst j e he with h1 | ⟨i,y,h1,h2,h3⟩
   all_goals grind
 | x::xs,k,s,l,s1,l1,hd,h,hn=>by
  have hx:ns[k]?=some x:=by have:=congrArg (fun l=>l[0]?) hd;grind
  have hd2:ns.drop (k+1)=xs:=by have:=congrArg (List.drop 1) hd;grind [List.drop_drop]
  unfold dB at hn;split at hn
  ·cases hn
  ·rename_i l2 h2;obtain ⟨a,b⟩:=nH ns R xs (k+1) _ l2 s1 l1 hd2 (h.one hx h2) hn;grind
structure NetL (n:Net) (l:List Ends):Prop where
 n1:1<=n.Nodes.length
 n2:n.Nodes.length<=12
 r1:0<=n.Rings
 r2:n.Rings<=16
 m1:1<=n.Room
 m2:n.Room<=6
 len:(l.length:Int)=n.Rings
 src:∀ (j:Nat) e,l[j]?=some e->∃ (i:Nat) (x:Node),n.Nodes[i]?=some x/\e.src=i/\(j:Int)∈x.Out
 dst:∀ (j:Nat) e,l[j]?=some e->∃ (i:Nat) (x:Node),n.Nodes[i]?=some x/\e.dst=i/\(j:Int)∈x.In
 err:∀ (i:Nat) x,n.Nodes[i]?=some x->ii x=0
 ndI:∀ (i:Nat) x,n.Nodes[i]?=some x->x.In.Nodup
 ndO:∀ (i:Nat) x,n.Nodes[i]?=some x->x.Out.Nodup
 inn:∀ (i:Nat) x,n.Nodes[i]?=some x->∀ r∈x.In,0<=r/\r<n.Rings/\∃ e,l[r.toNat]?=some e/\e.dst=i
 out:∀ (i:Nat) x,n.Nodes[i]?=some x->∀ r∈x.Out,0<=r/\r<n.Rings/\∃ e,l[r.toNat]?=some e/\e.src=i
 sink:(n.Nodes.filter (fun x=>decide (x.Kind=8))).length=1
theorem u9 {n:Net} {l:List Ends} (h:lookN n=.inr l):NetL n l:=by
 unfold lookN at h;split at h
 ·cases h
 ·rename_i h1;split at h
  ·cases h
  ·rename_i h2;split at h
   ·cases h
   ·rename_i s l' hn;split at h
    ·cases h
    ·rename_i hany;split at h
     ·cases h
     ·rename_i hs;cases h;have hst:=Looked.start n.Nodes n.Rings.toNat;rw [Ac (by omega)] at hst;obtain ⟨a,b⟩:=nH n.Nodes n.Rings n.Nodes 0 0 _ s l (by simp) hst hn;have hpos:∀ (j:Nat) e,l[j]?=some e->¬ e.src<0/\¬ e.dst<0:=fun j e he=>by
       grind
      refine ⟨by omega,by omega,by omega,by omega,by omega,by omega,a.len,fun j e he=>?_,fun j e he=>?_,fun i x hx=>(a.node i x (yX.1 hx).1 hx).1,fun i x hx=>(a.node i x (yX.1 hx).1 hx).2.1,fun i x hx=>(a.node i x (yX.1 hx).1 hx).2.2.1,fun i x hx=>(a.node i x (yX.1 hx).1 hx).2.2.2.1,fun i x hx=>(a.node i x (yX.1 hx).1 hx).2.2.2.2,by omega⟩
      ·rcases a.src j e he with h3 | ⟨i,y,_,h4⟩
       all_goals grind
      ·rcases a.dst j e he with h3 | ⟨i,y,_,h4⟩
       all_goals grind
section
def f5 (ok:Nat->Bool):Nat->Nat->Option Nat
 | 0,_=>none
 | m+1,k=>if ok k then some k else f5 ok m (k+1)
def fedN (l:List Ends) (out:List Nat) (x:Node):Bool:=x.In.all fun r=>match l[r.toNat]? with | some e=>out.contains e.src.toNat | none=>false
def okN (l:List Ends) (out:List Nat) (ns:List Node) (i:Nat):Bool:=!(out.contains i) && (match ns[i]? with | some x=>fedN l out x | none=>false)
def ordN (l:List Ends) (ns:List Node):Nat->List Nat->Option (List Nat)
 | 0,out=>some out
 | m+1,out=>match f5 (okN l out ns) ns.length 0 with
  | none=>none
  | some i=>ordN l ns m (out++[i])
def netR (n:Net):List Int × Int:=match lookN n with
 | .inl e=>([],e)
 | .inr l=>match ordN l n.Nodes n.Nodes.length [] with
  | none=>([],7)
  | some out=>(out.map (fun i:Nat=>(i:Int)),0)
def aN (N:Nat) (out:List Nat):List Bool:=(List.range N).map fun i=>out.contains i
theorem fO {N:Nat} {out:List Nat} {i:Nat} (h:i<N):(aN N out)[i]?=some (out.contains i):=by grind [aN]
theorem g8 {N:Nat} {out:List Nat}:(aN N out).length=N:=by simp [aN]
theorem uh {N:Nat} {out:List Nat} {i:Nat} (h:i<N):(aN N out).set i true=aN N (out++[i]):=by
 apply zB;intro j;rw [ze,g8];by_cases hj:j<N
 ·rw [fO hj];by_cases hij:i=j
  ·simp_all [fO]
  ·rw [if_neg hij,fO hj];grind
 simp_all [g8]
theorem tI (N:Nat):List.replicate N false=aN N []:=by
 apply zB;intro j;rw [zW];by_cases hj:j<N
 ·simp_all [fO]
 simp_all [g8]
theorem uN {n:Net} (out:List Nat) (ho:out.length<=12) (z:Option Nat) (hz:∀ i,z=some i->i<n.Nodes.length):eS (out.map (fun i:Nat=>(i:Int))) (aN n.Nodes.length out) (match z with | some i=>(i:Int) | none => -1)=match z with
  | some i=>some (.inl ((out++[i]).map (fun i:Nat=>(i:Int)),aN n.Nodes.length (out++[i])))
  | none=>some (.inr ([],7)):=by
 unfold eS
 cases z with
 | none=>rfl
 | some i =>
  have hi:=hz i rfl
  simp only
  rw [if_neg (by simp)]
  have e1:ixN (aN n.Nodes.length out) (i:Int)=some i:=by simp_all [ixN,g8]
  grind [fO,ff,uh]
section
variable {n:Net} {l:List Ends} (hn:NetL n l)
include hn
theorem xw {j:Nat} {e:Ends} (h:l[j]?=some e):0<=e.src/\e.src.toNat<n.Nodes.length:=by obtain ⟨i,x,h1,h2,_⟩:=hn.src j e h;grind
theorem tr {i:Nat} {x:Node} (hx:n.Nodes[i]?=some x) (out:List Nat) {r:Int} (hr:r∈x.In) :
  gM r (aN n.Nodes.length out) l=some (!(match l[r.toNat]? with | some e=>out.contains e.src.toNat | none=>false)):=by
 obtain ⟨h1,h2,e,h3,_⟩:=hn.inn i x hx r hr
 have hlt:=(yX.1 h3).1
 obtain ⟨h4,h5⟩:=xw hn h3
 simp_all [ixN,aN,gM]
theorem sJ {i:Nat} {x:Node} (hx:n.Nodes[i]?=some x) (out:List Nat) (hl:x.In.length<=1099511627776):fB x.In (aN n.Nodes.length out) l=some (!fedN l out x):=by
 unfold fB iX;have:=nh (σ:=Unit) x.In hl (fun k _=>(k:Int)) (body:=fun ss=>fy x.In (aN n.Nodes.length out) l ss)
  (fun k r _=>if (match l[r.toNat]? with | some e=>out.contains e.src.toNat | none=>false)=false then some (.inr (k:Int)) else some (.inl ())) (fun _=>some (-1)) ()
  (fun k r _ hk hlt h1 h2 h3=>by unfold fy;rw [h2,h1,h3];simp only [if_true,yV];grind [tr])
  (fun _ h=>by simp [fy])
 simp only [Ak] at this;rw [this];have key:∀ (ys:List Int) (k:Nat),∃ v:Int,dp (σ:=Unit) (fun k r _=>if (match l[r.toNat]? with | some e=>out.contains e.src.toNat | none=>false)=false then some (.inr (k:Int)) else some (.inl ())) (fun _=>some (-1:Int)) k ys ()=some v /\
   decide (v >= 0)=!(ys.all fun r=>match l[r.toNat]? with | some e=>out.contains e.src.toNat | none=>false):=by
  intro ys
  induction ys with
  | nil=>intro k;exact ⟨-1,rfl,by simp⟩
  | cons y ys ih =>
   intro k
   unfold dp
   by_cases h:(match l[y.toNat]? with | some e=>out.contains e.src.toNat | none=>false)=false
   ·simp_all
   simp_all
 obtain ⟨v,h1,h2⟩:=key x.In 0;rw [h1,yV,h2];rfl
theorem nQ (hio:∀ x∈n.Nodes,x.In.length<=1099511627776) (q:Int) (out:List Nat) (ho:out.length<=12):∀ (m k:Nat),k+m=n.Nodes.length ->
  iter (fun ss:Int=>dS n (l,q) (out.map (fun i:Nat=>(i:Int))) (aN n.Nodes.length out) ss) (k:Int)=match f5 (okN l out n.Nodes) m k with
   | some i=>some (.inl ((out++[i]).map (fun i:Nat=>(i:Int)),aN n.Nodes.length (out++[i])))
   | none=>some (.inr ([],7))
 | 0,k,h=>by
  have hk:k=n.Nodes.length:=by omega
  subst hk;have:dS n (l,q) (out.map (fun i:Nat=>(i:Int))) (aN n.Nodes.length out) (n.Nodes.length:Int)=some (.inr (.inr ([],7))):=by unfold dS;rw [if_neg (by simp)];rfl
  rw [am,this];rfl
 | m+1,k,h=>by
  have hlt:k<n.Nodes.length:=by omega
  have hn2:=hn.n2;have hx:n.Nodes[k]?=some n.Nodes[k]:=yW hlt;have e1:ixN (aN n.Nodes.length out) (k:Int)=some k:=by simp_all [ixN,g8]
  have hstep:dS n (l,q) (out.map (fun i:Nat=>(i:Int))) (aN n.Nodes.length out) (k:Int)=if okN l out n.Nodes k then some (.inr (.inl ((out++[k]).map (fun i:Nat=>(i:Int)),aN n.Nodes.length (out++[k])))) else some (.inl ((k+1:Nat):Int)):=by
   unfold dS;rw [if_pos (by simp;omega),bG hx,yV];simp only [e1,yV,fO hlt];have hok:okN l out n.Nodes k=(!(out.contains k) && fedN l out n.Nodes[k]):=by unfold okN;rw [hx]
   have hin:(if (!(out.contains k))=true then (fB n.Nodes[k].In (aN n.Nodes.length out) l).bind fun x12=>some (!x12) else some false)=some (okN l out n.Nodes k):=by grind [sJ]
   rw [hin,yV,bi (by omega)];by_cases hb:okN l out n.Nodes k=true
   ·rw [if_pos hb,if_pos hb];have:=uN (n:=n) out ho (some k) (fun i e=>by grind);grind
   grind
  rw [am,hstep,f5];by_cases hb:okN l out n.Nodes k=true
  ·grind
  ·simp only [if_neg hb];exact nQ hio q out ho m (k+1) (by omega)
theorem ow (hio:∀ x∈n.Nodes,x.In.length<=1099511627776) (q:Int):∀ (m:Nat) (out:List Nat),out.length+m=n.Nodes.length ->
  iter (fun ss:List Int × List Bool=>dU n (l,q) ss.1 ss.2) (out.map (fun i:Nat=>(i:Int)),aN n.Nodes.length out)=some (match ordN l n.Nodes m out with
   | none=>([],7)
   | some out=>(out.map (fun i:Nat=>(i:Int)),0))
 | 0,out,h=>by
  have:dU n (l,q) (out.map (fun i:Nat=>(i:Int))) (aN n.Nodes.length out)=some (.inr (out.map (fun i:Nat=>(i:Int)),0)):=by simp_all [dU]
  grind [am,ordN]
 | m+1,out,h=>by
  have hstep:dU n (l,q) (out.map (fun i:Nat=>(i:Int))) (aN n.Nodes.length out)=match f5 (okN l out n.Nodes) n.Nodes.length 0 with
   | some i=>some (.inl ((out++[i]).map (fun i:Nat=>(i:Int)),aN n.Nodes.length (out++[i])))
   | none=>some (.inr ([],7)):=by
   unfold dU
   rw [if_pos (by simp;omega)]
   have:=nQ hn hio q out (by have:=hn.n2;omega) n.Nodes.length 0 (by omega)
   omega
  rw [am];simp only [hstep,ordN];cases f5 (okN l out n.Nodes) n.Nodes.length 0 with
  | none=>rfl
  | some i =>
   simp only;exact ow hio q m (out++[i]) (by simp;omega)
end
theorem ov (R i:Int):∀ (rs:List Int) (l:List Ends),cx R i rs l≠.inl 0
 | [],l,h=>by cases h
 | r::rs,l,h=>by
  unfold cx at h;split at h
  ·grind
  ·split at h
   ·grind
   ·split at h
    ·grind
    ·exact ov R i rs _ h
theorem oe (R i:Int):∀ (rs:List Int) (l:List Ends),bY R i rs l≠.inl 0
 | [],l,h=>by cases h
 | r::rs,l,h=>by
  unfold bY at h;split at h
  ·grind
  ·split at h
   ·grind
   ·split at h
    ·grind
    ·exact oe R i rs _ h
theorem vq (R:Int) (i:Nat) (x:Node) (l:List Ends):oneN R i x l≠.inl 0:=fun h=>by grind [oneN,ov,oe]
theorem nI (R:Int):∀ (xs:List Node) (k s:Nat) (l:List Ends),dB R k xs s l≠.inl 0
 | [],k,s,l,h=>by cases h
 | x::xs,k,s,l,h=>by
  unfold dB at h;split at h
  ·grind [vq]
  ·exact nI R xs _ _ _ h
theorem uB (n:Net):lookN n≠.inl 0:=fun h=>by grind [lookN,nI]
theorem rr (n:Net) (hio:∀ x∈n.Nodes,x.In.length<=1099511627776/\x.Out.length<=1099511627776):g9 n=some (netR n):=by
 unfold g9 netR;rw [rS n hio,yV];cases h:lookN n with
 | inl e =>
  simp only;have he:e≠0:=fun e0=>uB n (e0▸h)
  grind
 | inr l =>
  simp only;have hn:=u9 h;rw [if_neg (by simp)];have hmk:mk (n.Nodes.length:Int) false=some (aN n.Nodes.length []):=by unfold mk;rw [if_pos (by have:=hn.n2;omega),<- tI];rfl
  rw [hmk,yV];have:=ow hn (fun x hx=>(hio x hx).1) 0 n.Nodes.length [] (by simp);grind
theorem rA (n:Net) (hio:∀ x∈n.Nodes,x.In.length<=1099511627776/\x.Out.length<=1099511627776):da n=some (netR n).2:=by grind [da,rr]
end
section
theorem mJ {κ ν:Type} [DecidableEq κ] (k:κ) (v:ν):∀ m:List (κ × ν),mget k (mset k v m)=some v
 | []=>by simp [mset,mget]
 | p::r=>by
  unfold mset;split
  ·simp [mget]
  ·rename_i h;simp only [mget,if_neg h];exact mJ k v r
theorem mU {κ ν:Type} [DecidableEq κ] {k k':κ} (v:ν) (hk:k≠k'):∀ m:List (κ × ν),mget k (mset k' v m)=mget k m
 | []=>by simp [mset,mget,hk]
 | p::r=>by
  unfold mset;split
  ·simp_all [mget]
  ·simp only [mget];rw [mU v hk r]
theorem mT {κ ν:Type} [DecidableEq κ] {k:κ} (v:ν):∀ {m:List (κ × ν)},mget k m=none->(mset k v m).length=m.length+1
 | [],_=>rfl
 | p::r,h=>by
  simp only [mget] at h;split at h
  ·cases h
  ·rename_i hk;simp only [mset,if_neg hk,y0];rw [mT v h]
structure MRi (v:List Int) (m:List (Int × Int)):Prop where
 len:m.length=v.countP (fun x=>decide (0<=x))
 get:∀ (j:Nat) x,v[j]?=some x->mget (j:Int) m=if x<0 then none else some x
theorem MRi.set {v:List Int} {m:List (Int × Int)} (h:MRi v m) {j:Nat} {x y:Int} (hx:v[j]?=some x) (h0:x<0) (h1:0<=y):MRi (v.set j y) (mset (j:Int) y m):=by
 have hlt:=(yX.1 hx).1;have hv:v[j]=x:=(yX.1 hx).2;have hn:mget (j:Int) m=none:=by rw [h.get j x hx,if_pos h0]
 refine ⟨?_,fun k z hz=>?_⟩
 ·rw [mT y hn,h.len,List.countP_set hlt,hv];grind
 ·rw [ze] at hz;by_cases hjk:j=k
  ·simp_all [mJ]
  ·rw [if_neg hjk] at hz;rw [mU y (by omega)];exact h.get k z hz
theorem MRi.start (R:Nat):MRi (List.replicate R (-1)) []:=by
 refine ⟨?_,fun j x hx=>?_⟩
 ·grind
 ·rw [zW] at hx;split at hx<;>cases hx;rfl
section
variable {n:Net} {l:List Ends} (hn:NetL n l) {fr:List (Int × Int)} (hm:MRi (l.map Ends.src) fr)
include hn hm
end
end
theorem bnd {α β:Type} {o:Option α} {k:α->Option β} {x:α} {r:Option β} (h:o=some x) (h2:k x=r):Option.bind o k=r:=by grind
def good (l:List Keyed) (i:Nat):Prop:=∀ x,l[i]?=some x->1<=x.N/\∀ j y,i=j+1->l[j]?=some y->y.Key<x.Key
section
open Go
theorem uq (a b:List Int) (ha:a.length<=1099511627776) (hl:a.length=b.length):eP a b=some (decide (a=b)):=by
 unfold eP;rw [if_neg (by simp;omega)];exact m7 a b ha hl (fun k x y h1 h2 h3 h4=>by
  unfold gH;rw [h1,h2,h3,h4];by_cases h:x=y<;>simp [h]) (fun h=>by
  unfold gH;rw [h];simp)
theorem m8 (a:List Int) (ha:a.length<=1099511627776):eP a a=some true:=by rw [uq a a ha rfl];simp
theorem sW {x:Node} (h1:x.In.length<=1099511627776) (h2:x.Out.length<=1099511627776):gJ x x=some true:=by unfold gJ;rw [if_pos (by simp),if_pos (by simp),m8 x.In h1,m8 x.Out h2];simp
theorem mN {n:Net} (hl:n.Nodes.length<=1000) (hio:∀ x∈n.Nodes,x.In.length<=1099511627776/\x.Out.length<=1099511627776):∀ (m k:Nat),k+m=n.Nodes.length->iter (fun ss:Int=>dM n.Nodes n.Nodes ss) (k:Int)=some true
 | 0,k,h=>by
  rw [am];have e:dM n.Nodes n.Nodes (k:Int)=some (.inr true):=by unfold dM;rw [if_neg (by simp;omega)];rfl
  simp only [e]
 | m+1,k,h=>by
  have hlt:k<n.Nodes.length:=by omega
  have hx:n.Nodes[k]?=some n.Nodes[k]:=yW hlt;have hio':=hio n.Nodes[k] (zq hlt);generalize n.Nodes[k]=x at hx hio';rw [am];have e:dM n.Nodes n.Nodes (k:Int)=some (.inl ((k+1:Nat):Int)):=by unfold dM;rw [if_pos (by simp;omega),bG hx,yV,yV,sW hio'.1 hio'.2,yV,if_neg (by simp),bi (by omega)]
  simp only [e];exact mN hl hio m (k+1) (by omega)
theorem u6 {n:Net} (hl:n.Nodes.length<=1000) (hio:∀ x∈n.Nodes,x.In.length<=1099511627776/\x.Out.length<=1099511627776):fF n n=some true:=by unfold fF;rw [if_pos (by simp),if_pos (by simp)];unfold iV;rw [if_neg (by simp)];have:=mN hl hio n.Nodes.length 0 (by omega);rw [Ak] at this;rw [this];rfl
theorem nU:∀ x∈meetT.Nodes,x.In.length<=1099511627776/\x.Out.length<=1099511627776:=by decide
theorem tY:fH=some true:=wc (by rw [rA meetT nU];decide +kernel) (u6 (by decide) nU)
end
section
open Go
theorem nq {k:Int} (h:1<=k/\k<=7):mget (bH k) bg=some k:=by rcases o8 h with rfl | rfl | rfl | rfl | rfl | rfl | rfl<;>decide
theorem ob {w:List UInt8} {k:Int} (h:mget w bg=some k):1<=k/\k<=7/\w=bH k:=by
 have hall:∀ z,z∈bg->1<=z.2/\z.2<=7/\z.1=bH z.2:=by decide
 have hm:∀ (l:List (List UInt8 × Int)),mget w l=some k->(w,k)∈l:=by
  intro l;induction l with
  | nil=>intro h;cases h
  | cons p r ih =>
   intro h;simp only [mget] at h;split at h
   ·rename_i e;cases h;subst e;exact zl
   ·exact zd _ (ih h)
 exact hall _ (hm _ h)
def numW (r:List UInt8):Option Int:=match Go.Lib.atoiAll r with
 | .ok n=>if n≠0/\Go.Lib.itoa n=r then some n else none
 | _=>none
theorem kL {r:List UInt8} {n:Int} (h:Go.Lib.atoiAll r=.ok n):Int64 n:=by rw [<- Go.Lib.parseIntB_64] at h;have:=Go.Lib.parseIntB_bounds h;exact ⟨by have:=this.1;omega,by have:=this.2;omega⟩
theorem vi {r:List UInt8} {n:Int} (h:numW r=some n):n≠0/\Go.Lib.itoa n=r/\Int64 n/\Go.Lib.atoiAll r=.ok n:=by
 unfold numW at h;split at h
 ·rename_i m hm;split at h
  ·rename_i hc;cases h;exact ⟨hc.1,hc.2,kL hm,hm⟩
  ·cases h
 ·cases h
def Wd (w:List UInt8) (k n:Int):Prop:=1<=k/\k<=7/\((w=bH k/\n=0)∨∃ r,w=bH k++r/\numW r=some n)
def ap (w:List UInt8):Option (Int × Int) :=
 let i:=Go.Lib.indexAny w charsT
 if i<0 then (mget w bg).map fun k=>(k,0)
 else (mget (w.take i.toNat) bg).bind fun k=>(numW (w.drop i.toNat)).map fun n=>(k,n)
theorem wb {w:List UInt8} {k n:Int} (h:Wd w k n):ap w=some (k,n):=by
 obtain ⟨h1,h2,h⟩:=h;rcases h with ⟨rfl,rfl⟩ | ⟨r,rfl,hr⟩
 ·unfold ap;rw [m5 _ (nD (oH _)),if_pos (by decide),nq ⟨h1,h2⟩];rfl
 ·obtain ⟨_,hi,hn,_⟩:=vi hr;obtain ⟨c,r',e,hc⟩:=sB n;rw [hi] at e;subst e;unfold ap;rw [oD hc r' _ (nD (oH _)),if_neg (by omega),Aj,List.take_left,Ap,nq ⟨h1,h2⟩,hr];rfl
theorem m3:∀ {l:List UInt8} {i:Nat},Go.Lib.indexAny l charsT=(i:Int)->i<l.length
 | [],i,h=>by unfold Go.Lib.indexAny at h;omega
 | c::r,i,h=>by
  unfold Go.Lib.indexAny at h;split at h
  ·simp;omega
  ·split at h
   ·omega
   ·have hge:=Go.Lib.indexAny_ge charsT r;rename_i hne;have hne':Go.Lib.indexAny r charsT ≠ -1:=by simpa using hne
    have:=m3 (l:=r) (i:=(Go.Lib.indexAny r charsT).toNat) (by omega);simp only [y0];omega
theorem lv {w:List UInt8} {k n:Int} (h:ap w=some (k,n)):Wd w k n:=by
 unfold ap at h;by_cases hi:Go.Lib.indexAny w charsT<0
 ·rw [if_pos hi] at h;cases hm:mget w bg with
  | none=>rw [hm] at h;cases h
  | some k' =>
   rw [hm] at h;obtain ⟨h1,h2,h3⟩:=ob hm;simp only [zR,zY,Prod.mk.injEq] at h;obtain ⟨rfl,rfl⟩:=h;exact ⟨h1,h2,.inl ⟨h3,rfl⟩⟩
 ·rw [if_neg hi] at h;cases hm:mget (w.take (Go.Lib.indexAny w charsT).toNat) bg with
  | none=>rw [hm] at h;cases h
  | some k' =>
   rw [hm] at h;obtain ⟨h1,h2,h3⟩:=ob hm;cases hn:numW (w.drop (Go.Lib.indexAny w charsT).toNat) with
   | none=>rw [hn] at h;cases h
   | some n' =>
    rw [hn] at h;simp only [yV,zR,zY,Prod.mk.injEq] at h;obtain ⟨rfl,rfl⟩:=h;exact ⟨h1,h2,.inr ⟨_,by rw [<- h3,zE],hn⟩⟩
end
section
open Go
theorem nv {s:List UInt8} {b:UInt8} (h:s.length<4294967281):cR s [b]=some (aC b s):=by unfold cR iv;show f6 s b=_;rw [tf,if_pos h]
section
variable {n:Net} (t:TN n)
include t
end
end
section
open Go
theorem kV (b:UInt8):∀ s:List UInt8,(aC b s).length<=s.length+1/\(∀ w,w∈aC b s->w.length<=s.length)/\aC b s≠[]
 | []=>⟨by simp [aC],by simp [aC],by simp [aC]⟩
 | x::l=>by
  obtain ⟨h1,h2,h3⟩:=kV b l;unfold aC;split
  ·refine ⟨by simp only [y0];omega,fun w hw=>?_,by simp⟩;rcases zT.1 hw with rfl | hw
   ·simp
   ·have:=h2 w hw;simp only [y0];omega
  ·split
   ·rename_i e;exact absurd e h3
   ·rename_i p r e;rw [e] at h1 h2;refine ⟨by simp only [y0] at h1 ⊢;omega,fun w hw=>?_,by simp⟩;rcases zT.1 hw with rfl | hw
    ·have:=h2 p zl;simp only [y0];omega
    ·have:=h2 w (zd _ hw);simp only [y0];omega
theorem f7 {i:Nat} {acc:List Happening} {v:List UInt8} {b:Bool} {n:Int} (hi:i<5000) (ha:acc.length<=i) :
  dt (i:Int) acc bg v b n=if b=true then some (.inl (((i+1:Nat):Int),acc++[⟨(mget v bg).getD 0,n⟩])) else some (.inr ([],(i:Int),1)):=by
 unfold dt
 cases b with
 | false=>rfl
 | true=>rw [if_neg (by decide),if_pos rfl,ff (by simp;omega),yV,bi (by omega)]
def outW (i:Nat) (acc:List Happening):Option (Int × Int)->(Int × (List Happening)) ⊕ ((List Happening) × Int × Int)
 | some x=>.inl (((i+1:Nat):Int),acc++[⟨x.1,x.2⟩])
 | none=>.inr ([],(i:Int),1)
theorem tV {ws:List (List UInt8)} {i:Nat} {acc:List Happening} {w:List UInt8} (hx:ws[i]?=some w) (hw:w.length<=4000) (hi:i<5000) (ha:acc.length<=i) :
  dP ws (i:Int) acc=some (outW i acc (ap w)):=by
 have hlt:i<ws.length:=(yX.1 hx).1
 have hix:jG w [45,48,49,50,51,52,53,54,55,56,57]=some (Go.Lib.indexAny w charsT):=by unfold jG ir;exact if_pos ⟨by omega,by decide,by decide,by decide⟩
 unfold dP
 rw [if_pos (by simp;omega),bG hx,yV,hix,yV]
 unfold ap
 by_cases h0:Go.Lib.indexAny w charsT<0
 ·rw [if_pos (by simpa using h0)]
  simp only
  rw [if_pos h0]
  unfold eQ
  rw [show jU=some bg from rfl,yV,sub_0 (y5 _),yV,List.take_length,if_neg (by simp),f7 hi ha]
  cases hm:mget w bg with
  | none=>rfl
  | some k=>rfl
 ·rw [if_neg (by simpa using h0)]
  simp only
  rw [if_neg h0]
  obtain ⟨j,hj⟩:=zV (Int.not_lt.1 h0)
  have hjl:=m3 hj
  rw [hj]
  simp only [Aj]
  unfold eQ
  rw [show jU=some bg from rfl,yV,sub_0 (by omega),yV]
  cases hm:mget (w.take j) bg with
  | none =>
   rw [if_neg (by simp),f7 hi ha]
   rfl
  | some k =>
   have hd:(w.drop j).length<=4000:=by rw [List.length_drop];omega
   rw [if_pos (by simp;omega),oS (by omega),yV,yV]
   unfold numW
   cases he:Go.Lib.atoiAll (w.drop j) with
   | ok m =>
    have hE:de (w.drop j)=false:=by unfold de;rw [he];rfl
    have hA:atoiW (w.drop j)=some m:=by unfold atoiW atoiA;rw [if_pos (by omega),he]
    have hb:=kL he
    rw [if_neg (by rw [hE];decide),hA,yV]
    by_cases hm0:m=0
    ·rw [if_neg (by simpa using hm0),f7 hi ha,if_neg (by decide)]
     simp only
     rw [if_neg (fun h=>h.1 hm0)]
     rfl
    ·rw [if_pos (by simpa using hm0),k5 hb,yV,yV,f7 hi ha]
     simp only
     by_cases hc:Go.Lib.itoa m=w.drop j
     ·rw [if_pos (by simpa using hc),if_pos ⟨hm0,hc⟩,hm]
      rfl
     ·rw [if_neg (by simpa using hc),if_neg (fun h=>hc h.2)]
      rfl
   | range =>
    have hE:de (w.drop j)=true:=by unfold de;rw [he];rfl
    have hX:atoiX (w.drop j)=some (Go.Lib.atoiSat (w.drop j)):=by unfold atoiX atoiE;rw [if_pos (by omega),he]
    rw [if_pos hE,hX,yV,f7 hi ha]
    rfl
   | _ =>
    have hE:de (w.drop j)=true:=by unfold de;rw [he];rfl
    have hX:atoiX (w.drop j)=some 0:=by unfold atoiX atoiE;rw [if_pos (by omega),he]
    rw [if_pos hE,hX,yV,f7 hi ha]
    rfl
def runW:List (List UInt8)->Nat->List Happening->(List Happening) × Int × Int
 | [],i,acc=>if acc.length > 60 then ([],0,2) else (acc,0,0)
 | w::r,i,acc=>match ap w with
  | some x=>runW r (i+1) (acc++[⟨x.1,x.2⟩])
  | none=>([],(i:Int),1)
theorem pq {ws:List (List UInt8)} (hl:ws.length<=4001) (hw:∀ w,w∈ws->w.length<=4000):∀ (r:List (List UInt8)) (i:Nat) (acc:List Happening),ws.drop i=r->i<=ws.length->acc.length<=i ->
  iter (fun cV:Int × (List Happening)=>dP ws cV.1 cV.2) ((i:Int),acc)=some (runW r i acc)
 | [],i,acc,hr,hi,ha=>by
  have hil:i=ws.length:=by have:=List.drop_eq_nil_iff.1 hr;omega
  have e:dP ws (i:Int) acc=some (.inr (runW [] i acc)):=by
   unfold dP runW;rw [if_neg (by simp;omega)];by_cases h6:acc.length > 60
   ·rw [if_pos h6,if_pos (by simp;omega)];rfl
   ·rw [if_neg h6,if_neg (by simp;omega)];rfl
  rw [am];simp only [e]
 | w::r,i,acc,hr,hi,ha=>by
  have hlt:i<ws.length:=by
   by_cases h:i<ws.length
   ·exact h
   ·rw [zX (by omega)] at hr;cases hr
  have hx:ws[i]?=some w:=by have:=zx (xs:=ws) (i:=i) (j:=0);rw [hr] at this;simpa using this.symm
  have hr':ws.drop (i+1)=r:=by rw [<- z8,hr];rfl
  have e:=tV hx (hw w (yZ hx)) (by omega) ha;rw [am];simp only [e];unfold runW;cases hq:ap w with
  | none=>rfl
  | some x=>exact pq hl hw r (i+1) _ hr' (by omega) (by simp;omega)
theorem mR {s:List UInt8} (h:s.length<=4000):cH s=some (if s=[] then ([],0,0) else runW (aC 32 s) 0 []):=by
 unfold cH;rw [if_neg (by simp;omega)];by_cases h0:s=[]
 ·rw [if_pos (by simpa using h0),if_pos h0]
 ·obtain ⟨h1,h2,_⟩:=kV 32 s;rw [if_neg (by simpa using h0),if_neg h0,nv (by omega),yV];exact pq (by omega) (fun w hw=>by have:=h2 w hw;omega) (aC 32 s) 0 [] rfl (by omega) (by simp)
theorem mO {s:List UInt8} (h:s.length > 4000):cH s=some ([],0,2):=by unfold cH;rw [if_pos (by simp;omega)]
end
section
open Go
theorem uL (v r:List UInt8):eI (v++r) v=some true:=by unfold eI;rw [if_pos (by simp;omega),sub_0 (by simp),yV,List.take_left,yV];simp
theorem wg {w v:List UInt8} (h:∀ r,w≠v++r):eI w v=some false:=by
 unfold eI;by_cases hl:v.length<=w.length
 ·have hne:¬ w.take v.length=v:=fun e=>h (w.drop v.length) (by rw [<- e,zO,Ad hl,zE])
  rw [if_pos (by simp;omega),sub_0 hl,yV,yV];simp [hne]
 ·rw [if_neg (by simp;omega),yV]
theorem uT (v r:List UInt8):eO (v++r) v=some (r,true):=by unfold eO gD;rw [uL,yV,if_neg (by decide),oS (by simp),yV,Ap,yV]
theorem wm {w v:List UInt8} (h:∀ r,w≠v++r):eO w v=some (w,false):=by unfold eO gD;rw [wg h,yV,if_pos (by decide),yV]
def stpD (j:Nat) (b:Bool) (acc:List Happening):Option (Int × Int)->Bool × Int × List Happening
 | some x=>if x.1=((j+1:Nat):Int) then (true,((j+1:Nat):Int),acc++[⟨x.1,x.2⟩]) else (b,((j+1:Nat):Int),acc)
 | none=>(b,((j+1:Nat):Int),acc)
theorem pk {w:List UInt8} {j:Nat} {b:Bool} {acc:List Happening} {n:Int} (h:Wd w ((j+1:Nat):Int) n):stpD j b acc (ap w)=(true,((j+1:Nat):Int),acc++[⟨((j+1:Nat):Int),n⟩]):=by rw [wb h];exact if_pos rfl
theorem iy {w:List UInt8} {j:Nat} {b:Bool} {acc:List Happening} (h:∀ n,¬ Wd w ((j+1:Nat):Int) n):stpD j b acc (ap w)=(b,((j+1:Nat):Int),acc):=by
 cases hr:ap w with
 | none=>rfl
 | some x =>
  obtain ⟨k,n⟩:=x;unfold stpD;simp only;rw [if_neg (fun e=>h n (by have:=lv hr;rw [e] at this;exact this))]
theorem jZ {b:Bool} {j:Nat} {acc:List Happening} {n:Int} {c:Bool} (hj:j<7) (ha:acc.length<=5000) :
  eM b (j:Int) acc n c=some (.inl (if c=true then (true,((j+1:Nat):Int),acc++[⟨((j+1:Nat):Int),n⟩]) else (b,((j+1:Nat):Int),acc))):=by
 unfold eM
 cases c with
 | true=>rw [if_pos rfl,ff (by simp;omega),yV,bi (by omega)];rfl
 | false=>rw [if_neg (by decide),bi (by omega)];rfl
theorem ua {x4:(List Happening) × Int × Int} {i:Int} {w:List UInt8} {b:Bool} {j:Nat} {acc:List Happening} (hj:j<7) (hw:w.length<=4000) (ha:acc.length<=5000) :
  cZ x4 i w verbsL b (j:Int) acc=some (.inl (stpD j b acc (ap w))):=by
 have hv:verbsL[j]?=some (bH ((j+1:Nat):Int)):=by
  have hall:∀ j,j<7->verbsL[j]?=some (bH ((j+1:Nat):Int)):=by decide
  exact hall j hj
 have h7:(1:Int)<=((j+1:Nat):Int)/\((j+1:Nat):Int)<=7:=by omega
 have hvl:verbsL.length=7:=rfl
 unfold cZ
 rw [if_pos (by rw [hvl];simp;omega),j0 (by rw [hvl];exact hj),yV,hv,yV]
 generalize hV:bH ((j+1:Nat):Int)=v
 by_cases hp:∃ r,w=v++r
 ·obtain ⟨r,rfl⟩:=hp
  have hrl:r.length<=4000:=by simp at hw;omega
  rw [uT,yV,if_pos rfl]
  simp only
  have hpa:Go.Lib.parseIntB 64 r=Go.Lib.atoiAll r:=Go.Lib.parseIntB_64 r
  have hnum:∀ n,numW r=some n->Wd (v++r) ((j+1:Nat):Int) n:=fun n hn=>⟨h7.1,h7.2,.inr ⟨r,by rw [hV],hn⟩⟩
  have hno:r≠[]->numW r=none->∀ n,¬ Wd (v++r) ((j+1:Nat):Int) n:=fun h1 h2 n hw=>by
   obtain ⟨_,_,hw⟩:=hw;rcases hw with ⟨e,_⟩ | ⟨r',e,hn⟩
   ·rw [hV] at e;exact h1 (by simpa using e)
   ·rw [hV] at e;have:r=r':=List.append_cancel_left e;rw [<- this,h2] at hn;cases hn
  cases he:Go.Lib.atoiAll r with
  | ok m =>
   have hr0:r≠[]:=by intro e;subst e;cases he
   have hE:ee r=false:=by unfold ee;rw [hpa,he];rfl
   have hA:iz r 10 64=some m:=by unfold iz iB;rw [if_pos ⟨rfl,rfl⟩,if_pos (by omega),hpa,he]
   have hb:=kL he
   have hF:ij m 10=some (Go.Lib.itoa m):=by unfold ij itoaS;rw [if_pos rfl];exact if_pos hb
   rw [if_neg (by rw [hE];decide),hA,yV,if_neg (by simpa using hr0)]
   by_cases hm0:m=0
   ·rw [if_neg (by simpa using hm0),yV,jZ hj ha,if_neg (by decide),iy (hno hr0 (by unfold numW;rw [he];exact if_neg (fun h=>h.1 hm0)))]
   ·rw [if_pos (by simpa using hm0),hF,yV,yV,jZ hj ha]
    by_cases hc:Go.Lib.itoa m=r
    ·rw [if_pos (by simpa using hc),pk (hnum m (by unfold numW;rw [he];exact if_pos ⟨hm0,hc⟩))]
    ·rw [if_neg (by simpa using hc),iy (hno hr0 (by unfold numW;rw [he];exact if_neg (fun h=>hc h.2)))]
  | range =>
   have hr0:r≠[]:=by intro e;subst e;cases he
   have hE:ee r=true:=by unfold ee;rw [hpa,he];rfl
   have hX:fg r 10 64=some (Go.Lib.intSat 64 r):=by unfold fg f3;rw [if_pos ⟨rfl,rfl⟩,if_pos (by omega),hpa,he]
   rw [if_pos hE,hX,yV,jZ hj ha,if_neg (by simp [hr0]),iy (hno hr0 (by unfold numW;rw [he]))]
  | _ =>
   have hE:ee r=true:=by unfold ee;rw [hpa,he];rfl
   have hX:fg r 10 64=some 0:=by unfold fg f3;rw [if_pos ⟨rfl,rfl⟩,if_pos (by omega),hpa,he]
   rw [if_pos hE,hX,yV,jZ hj ha]
   by_cases hr0:r=[]
   ·rw [if_pos (by simp [hr0]),pk (n:=0) ⟨h7.1,h7.2,.inl ⟨by rw [hV,hr0,Ae],rfl⟩⟩]
   ·rw [if_neg (by simp [hr0]),iy (hno hr0 (by unfold numW;rw [he]))]
 ·have hp':∀ r,w≠v++r:=fun r e=>hp ⟨r,e⟩
  rw [wm hp',yV,if_neg (by simp),bi (by omega),iy]
  intro n hw
  obtain ⟨_,_,hw⟩:=hw
  rw [hV] at hw
  rcases hw with ⟨e,_⟩ | ⟨r',e,_⟩
  ·exact hp' [] (by rw [e,Ae])
  ·exact hp' r' e
def endD (x4:(List Happening) × Int × Int) (i:Nat) (acc:List Happening):Option (Int × Int)->(Int × (List Happening)) ⊕ Bool
 | some x=>.inl (((i+1:Nat):Int),acc++[⟨x.1,x.2⟩])
 | none=>.inr (x4.2.2==1 && (x4.2.1==(i:Int) && ((x4.1).length:Int)==0))
def stB (acc:List Happening) (j:Nat):Option (Int × Int)->Bool × Int × List Happening
 | some x=>if x.1<=(j:Int) then (true,(j:Int),acc++[⟨x.1,x.2⟩]) else (false,(j:Int),acc)
 | none=>(false,(j:Int),acc)
theorem uA {w:List UInt8} {acc:List Happening} {j:Nat}:stpD j (stB acc j (ap w)).1 (stB acc j (ap w)).2.2 (ap w)=stB acc (j+1) (ap w):=by
 cases ap w with
 | none=>rfl
 | some x =>
  unfold stB stpD;by_cases h1:x.1<=(j:Int)
  ·simp only [if_pos h1];rw [if_neg (by omega),if_pos (by omega)]
  ·simp only [if_neg h1];by_cases h2:x.1=((j+1:Nat):Int)
   ·rw [if_pos h2,if_pos (by omega)]
   ·rw [if_neg h2,if_neg (by omega)]
theorem stB_2 {acc:List Happening} {j:Nat} (q:Option (Int × Int)):(stB acc j q).2.1=(j:Int)/\(stB acc j q).2.2.length<=acc.length+1:=by
 cases q with
 | none=>exact ⟨rfl,by simp [stB]⟩
 | some x =>
  unfold stB;simp only;split
  ·exact ⟨rfl,by simp⟩
  ·exact ⟨rfl,by simp⟩
theorem od {x4:(List Happening) × Int × Int} {i:Nat} {w:List UInt8} {acc:List Happening} (hi:i<5000) (hw:w.length<=4000) (ha:acc.length<=4900):∀ m j:Nat,j+m=7 ->
  iter (fun ss:Bool × Int × (List Happening)=>cZ x4 (i:Int) w verbsL ss.1 ss.2.1 ss.2.2) (stB acc j (ap w))=some (endD x4 i acc (ap w))
 | 0,j,h=>by
  obtain rfl:j=7:=by omega
  have hk:∀ x,ap w=some x->x.1<=7:=fun x hx=>(lv (k:=x.1) (n:=x.2) hx).2.1
  have e:cZ x4 (i:Int) w verbsL (stB acc 7 (ap w)).1 (stB acc 7 (ap w)).2.1 (stB acc 7 (ap w)).2.2=some (.inr (endD x4 i acc (ap w))):=by
   cases hq:ap w with
   | none =>
    have hst:stB acc 7 none=(false,((7:Nat):Int),acc):=rfl;unfold cZ;rw [hst];simp only;rw [if_neg (by simp [verbsL])];rfl
   | some x =>
    have h7:=hk x hq;have hst:stB acc 7 (some x)=(true,((7:Nat):Int),acc++[⟨x.1,x.2⟩]):=if_pos h7;unfold cZ;rw [hst];simp only;rw [if_neg (by simp [verbsL]),if_neg (by decide),bi (by omega)];rfl
  rw [am];simp only [e]
 | m+1,j,h=>by
  have e:cZ x4 (i:Int) w verbsL (stB acc j (ap w)).1 (stB acc j (ap w)).2.1 (stB acc j (ap w)).2.2=some (.inl (stB acc (j+1) (ap w))):=by rw [(stB_2 (ap w)).1,ua (by omega) hw (by have:=(stB_2 (acc:=acc) (j:=j) (ap w)).2;omega),uA]
  rw [am];simp only [e];exact od hi hw ha m (j+1) (by omega)
theorem xa (l:List Happening) (h:l.length<=1099511627776):gG l l=some true:=by
 unfold gG;rw [if_neg (by simp)];rw [m7 l l h rfl (fun k x y h0 hx hy hw=>by
  cases hx.symm.trans hy;unfold gE;rw [if_pos h0,hx,yV,yV,hw];rw [if_neg (by simp),if_pos rfl]) (fun h0=>by
  unfold gE;rw [if_neg (by rw [h0];decide)];rfl)]
 simp
theorem qb {acc:List Happening} {i:Nat} (ha:acc.length<=5000):eK (runW [] i acc) acc=some true:=by
 unfold eK runW;by_cases h6:acc.length > 60
 ·rw [if_pos (by simp;omega),if_pos h6];rfl
 ·rw [if_neg (by simp;omega),if_neg h6];simp only;rw [if_pos (by decide),if_pos (by decide),xa acc (by omega)];rfl
theorem pt {p:List UInt8} (hp:p≠[]) {ws:List (List UInt8)} (hl:ws.length<=4001) (hw:∀ w,w∈ws->w.length<=4000):∀ (r:List (List UInt8)) (i:Nat) (acc:List Happening),ws.drop i=r->i<=ws.length->acc.length<=i ->
  iter (fun ss:Int × (List Happening)=>cE p (runW r i acc) ws ss.1 ss.2) ((i:Int),acc)=some true
 | [],i,acc,hr,hi,ha=>by
  have hil:i=ws.length:=by have:=List.drop_eq_nil_iff.1 hr;omega
  have e:cE p (runW [] i acc) ws (i:Int) acc=some (.inr true):=by unfold cE;rw [if_neg (by simp;omega),qb (by omega)];rfl
  rw [am];simp only [e]
 | w :: r,i,acc,hr,hi,ha=>by
  have hlt:i<ws.length:=by
   by_cases h:i<ws.length
   ·exact h
   ·rw [zX (by omega)] at hr;cases hr
  have hx:ws[i]?=some w:=by have:=zx (xs:=ws) (i:=i) (j:=0);rw [hr] at this;simpa using this.symm
  have hr':ws.drop (i+1)=r:=by rw [<- z8,hr];rfl
  have hw1:=hw w (yZ hx);have e:cE p (runW (w::r) i acc) ws (i:Int) acc=some (endD (runW (w::r) i acc) i acc (ap w)):=by
   unfold cE;rw [if_pos (by simp;omega),bG hx,yV,if_neg (by simpa using hp),show fG=some verbsL from rfl,yV];have h0:stB acc 0 (ap w)=(false,0,acc):=by
    cases hq:ap w with
    | none=>rfl
    | some x =>
     have:=(lv (k:=x.1) (n:=x.2) hq).1;exact if_neg (by omega)
   have:=od (x4:=runW (w::r) i acc) (i:=i) (w:=w) (acc:=acc) (by omega) hw1 (by omega) 7 0 rfl;rw [h0] at this;exact this
  rw [am];simp only [e];cases hq:ap w with
  | none =>
   have hrun:runW (w::r) i acc=([],(i:Int),1):=by unfold runW;rw [hq]
   rw [hrun];unfold endD;simp
  | some x =>
   have hrun:runW (w::r) i acc=runW r (i+1) (acc++[⟨x.1,x.2⟩]):=by rw [runW.eq_def];simp only [hq]
   rw [hrun];exact pt hp hl hw r (i+1) _ hr' (by omega) (by simp;omega)
end
section
open Go
theorem rH (xs:List (List UInt8)) (y:List UInt8) (h:xs≠[]):Go.Lib.join (xs++[y]) [32]=Go.Lib.join xs [32]++[32]++y:=by
 cases xs with
 | nil=>exact absurd rfl h
 | cons x r =>
  rw [zA,Go.Lib.join_cons,Go.Lib.join_cons];simp [Go.Lib.joinTail]
theorem n3 {p:List UInt8} {x4:(List Happening) × Int × Int} (h:cH p=some x4) :
  (if (decide (((p).length:Int) > 4000))=true then (some ((x4.2.2==2) && ((x4.2.1==0) && ((x4.1).length:Int)==0))) else (Option.bind (cR p ([32]:List UInt8)) fun x30=>(iter (fun cS:Int × (List Happening)=>cE p x4 x30 cS.1 cS.2) (0,[]))))=some true:=by
 by_cases hl:p.length > 4000
 ·rw [mO hl] at h
  cases h
  rw [if_pos (by simp;omega)]
  rfl
 ·rw [mR (by omega)] at h
  rw [if_neg (by simp;omega),nv (by omega),yV]
  by_cases h0:p=[]
  ·subst h0
   rw [if_pos rfl] at h
   cases h
   have e:cE [] ([],0,0) (aC 32 []) 0 []=some (.inr true):=by unfold cE;rw [if_pos (by simp [aC]),show idx (aC 32 []) 0=some [] from rfl,yV,if_pos (by decide)];have:=qb (acc:=[]) (i:=0) (by simp);have h2:runW [] 0 []=([],0,0):=rfl;rw [h2] at this;rw [this];rfl
   rw [am]
   simp only [e]
  ·rw [if_neg h0] at h
   cases h
   obtain ⟨h1,h2,_⟩:=kV 32 p
   exact pt h0 (by omega) (fun w hw=>by have:=h2 w hw;omega) (aC 32 p) 0 [] rfl (by omega) (by simp)
theorem lI {p:List UInt8} {x2:(List UInt8) × Int} {x4:(List Happening) × Int × Int} {s:List UInt8} {z:Int} (h:cH p=some x4) (hx:x2=(if z=0 then s else [],z)):eJ p x2 x4 s z=some true:=by
 subst hx;unfold eJ;by_cases hz:z=0
 ·subst hz;rw [if_neg (by simp)];exact n3 h
 ·rw [if_neg (by simp [hz])];exact n3 h
section
variable {l:List Happening} {p:List UInt8} {x4:(List Happening) × Int × Int} (hN:∀ x,x∈l→Int64 x.N) (hl:l.length≤60) (h4:cH p=some x4)
include hN hl h4
theorem nN:∀ m k:Nat,k+m=l.length->(∀ x,x∈l.take k->eq x) ->
  iter (fun bW:(List UInt8) × Int × Int=>cq l p (cP l) x4 bW.1 bW.2.1 bW.2.2) (Go.Lib.join ((l.take k).map aU) [32],0,(k:Int))=some true
 | 0,k,h,hk=>by
  have ht:l.take k=l:=zm (by omega);rw [ht] at hk ⊢;have e:cq l p (cP l) x4 (Go.Lib.join (l.map aU) [32]) 0 (k:Int)=some (.inr true):=by unfold cq;rw [if_neg (by simp;omega),lI h4 (by unfold cP;rw [if_pos hk,if_pos rfl])];rfl
  rw [am];simp only [e]
 | m + 1,k,h,hk=>by
  have hlt:k<l.length:=by omega
  have hx:l[k]?=some l[k]:=yW hlt;have hm:l[k]∈l:=zq hlt;have htk:=takeS hx;generalize l[k]=x at hx hm htk;rw [am];by_cases hok:eq x
  ·have hw:=jP (hN x hm);have hjl:=pL ((l.take k).map aU) fun w hw=>by
    obtain ⟨y,hy,rfl⟩:=zt.1 hw;exact jP (hN y (zo hy))
   have hjl2:(Go.Lib.join ((l.take k).map aU) [32]).length<=1600:=by rw [zf,zO] at hjl;omega
   have h1:=hok.1;have h2:=hok.2;have hk6:∀ z:List UInt8,z.length<=1700->eL (k:Int) x 0 z=some (.inl (z++aU x,0,((k+1:Nat):Int))):=by
    intro z hz;obtain ⟨j,hj⟩:=zV (show 0<=x.Kind - 1 by omega);have hj7:j<7:=by omega
    have hv:verbsL[j]?=some (bH x.Kind):=by
     have hall:∀ j:Nat,j<7->verbsL[j]?=some (bH ((j:Int)+1)):=by decide
     rw [hall j hj7,<- hj];congr 2;omega
    have hvl:=oQ (k:=x.Kind);unfold eL;rw [show fG=some verbsL from rfl,yV,ip (by omega) (by omega),hj,j0 (show j<verbsL.length from hj7),yV,hv,yV,iw (by omega),yV];unfold aU;by_cases h0:x.N=0
    ·rw [if_neg (by simp [h0]),if_pos h0,bi (by omega),Ae]
    ·have h20:=pn (hN x hm);rw [if_pos (by simp [h0]),k5 (hN x hm),yV,iw (by simp;omega),yV,if_neg h0,bi (by omega),Ai]
   have e:cq l p (cP l) x4 (Go.Lib.join ((l.take k).map aU) [32]) 0 (k:Int)=some (.inl (Go.Lib.join ((l.take (k+1)).map aU) [32],0,((k+1:Nat):Int))):=by
    unfold cq;rw [if_pos (by simp;omega),bG hx,yV,if_neg (by simp;omega)];unfold dN;rw [if_neg (by decide),htk,zH];by_cases hk0:k=0
    ·subst hk0;rw [if_neg (by simp),hk6 _ (by omega)];simp only [List.take_zero,An,zN,zh,Go.Lib.join_one,Go.Lib.join_nil]
    ·have hne:(l.take k).map aU≠[]:=by
      intro e;have h0:((l.take k).map aU).length=0:=by rw [e];rfl
      rw [zf,zO] at h0;omega
     rw [if_pos (by simp;omega),iw (by simp only [y0,zj];omega),yV,hk6 _ (by simp only [zc,y0,zj];omega),zh,An,rH _ _ hne]
   simp only [e];exact nN m (k+1) (by omega) fun y hy=>by
    rw [htk] at hy;rcases zn.1 hy with hy | hy
    ·exact hk y hy
    ·simp at hy;exact hy▸hok
  ·have hbad:((0:Int)==0 && (decide (x.Kind<1) || decide (x.Kind > 7)))=true:=by
    unfold eq at hok;simp;omega
   have e:cq l p (cP l) x4 (Go.Lib.join ((l.take k).map aU) [32]) 0 (k:Int)=some (.inr true):=by unfold cq;rw [if_pos (by simp;omega),bG hx,yV,if_pos hbad];unfold dN;rw [if_pos (by decide),lI h4 (by unfold cP;rw [if_neg (fun hh=>hok (hh x hm)),if_neg (by decide)])];rfl
   simp only [e]
end
theorem rb (script:List Happening) (s:List UInt8) (gs:gL kO script) (g1:gS s) (hb:mL gW script+(mS s+0)<=1048576):iY script s=some true:=by
 have hsl:script.length<=1048576:=by have:=qh (m:=gW) (fun _=>(by decide:1<=2)) script;omega
 have hN:∀ x,x∈script->Int64 x.N:=fun x hx=>(gs x hx).2
 obtain ⟨x4,h4⟩:∃ x4,cH s=some x4:=by
  by_cases hl:s.length > 4000
  ·exact ⟨_,mO hl⟩
  ·exact ⟨_,mR (by omega)⟩
 unfold iY;rw [tv hN (by omega),yV,h4,yV,tY,yV,if_neg (by decide)];unfold fD;by_cases h6:script.length > 60
 ·rw [if_pos (by simp;omega),if_pos h6];have hx:script[0]?=some script[0]:=yW (by omega);have e:cq script s ([],2) x4 [] 2 0=some (.inr true):=by
   unfold cq;rw [if_pos (by simp;omega),show idx script 0=some _ from hx,yV,if_neg (by simp)];unfold dN;rw [if_pos (by decide),lI h4 (by rw [if_neg (by decide)])];rfl
  rw [am];simp only [e]
 ·rw [if_neg (by simp;omega),if_neg h6];have:=nN hN (by omega) h4 script.length 0 (by omega) (by simp);simpa [Go.Lib.join_nil] using this
end
end Go.Proofs.YtbfncjgaklimlaaGreatDoor
namespace Go.Proofs.YtbfncjgaklimlaaGreatDoor.taleScriptLaw
open Go.ChangeShapes Go.WideShapes Go.ChangeAt Go.RowKit
theorem own:ownKnob Tryz.prog.godebug=none:=by kernel_rfl
theorem laid:laidOutB Tryz.prog=true:=by kernel_rfl
theorem ok:(Tryz.f4.params.toList.all fun t=>Tryz.prog.readableRec t && decide (t<Tryz.prog.types.size))=true:=by kernel_rfl
theorem gd_of {W:World} (h:laidMet Tryz.prog Rows.taleScriptUptoRow.laid W):Gd W fun b=>b<W.heap.size:=fun g hg=>by
 have hc:g=3∨g=1∨g=2:=by simpa [gvs] using hg
 rcases hc with rfl | rfl | rfl
 ·have hn:Tryz.prog.globalNamed "internal/strconv.uint64pow10" = some 3:=by kernel_rfl
  have ht:=Go.Lib.tabIs_of_head (k:=.u64) (zs:=Go.Lib.pow10Tab) (t:=143) (e:=108) (n:=20) hn (by kernel_rfl) (by kernel_rfl) (by kernel_rfl) (by kernel_rfl) (by kernel_rfl) h.tail.tail;unfold Go.Lib.TabIs World.var? at ht;rw [hn] at ht;simp only [yV] at ht;split at ht
  ·rename_i cs t fz ho;cases ht;exact ⟨(zi.1 ho).1,_,ho,_,_,_,rfl,fun _=>rfl,fun h=>absurd h (by decide)⟩
  ·cases ht
 ·have hn:Tryz.prog.globalNamed "strconv.ErrSyntax" = some 1:=by kernel_rfl
  have hst : "*" ++ "errors.errorString" = "*errors.errorString" := by decide
  have hrow:∀ u,Tryz.prog.typeName? 3 u=some "*errors.errorString" -> u=158:=fun u h=>typeName_ptr_named (nm := "errors.errorString") (by rw [hst];kernel_rfl) (by kernel_rfl) (by decide) u (by rw [hst];exact h)
  obtain ⟨a,s,hv,_⟩:=laid_sentinel (ti:=57) (te:=160) (ts:=9) h.tail.tail.tail.tail.tail hn (by kernel_rfl) Tryz.underlying57 hrow Tryz.underlying158 Tryz.underlying160 rfl rfl Tryz.underlying9 (by kernel_rfl) (by kernel_rfl);unfold World.var? at hv;rw [hn] at hv;simp only [yV] at hv;split at hv
  ·rename_i cs t fz ho;cases hv;exact ⟨(zi.1 ho).1,_,ho,_,_,_,rfl,fun h=>absurd h (by decide),fun _=>⟨_,rfl,.inr ⟨_,_,rfl⟩⟩⟩
  ·cases hv
 ·have hn:Tryz.prog.globalNamed "strconv.ErrRange" = some 2:=by kernel_rfl
  have hst : "*" ++ "errors.errorString" = "*errors.errorString" := by decide
  have hrow:∀ u,Tryz.prog.typeName? 3 u=some "*errors.errorString" -> u=158:=fun u h=>typeName_ptr_named (nm := "errors.errorString") (by rw [hst];kernel_rfl) (by kernel_rfl) (by decide) u (by rw [hst];exact h)
  obtain ⟨a,s,hv,_⟩:=laid_sentinel (ti:=57) (te:=160) (ts:=9) h.tail.tail.tail.tail hn (by kernel_rfl) Tryz.underlying57 hrow Tryz.underlying158 Tryz.underlying160 rfl rfl Tryz.underlying9 (by kernel_rfl) (by kernel_rfl);unfold World.var? at hv;rw [hn] at hv;simp only [yV] at hv;split at hv
  ·rename_i cs t fz ho;cases hv;exact ⟨(zi.1 ho).1,_,ho,_,_,_,rfl,fun h=>absurd h (by decide),fun _=>⟨_,rfl,.inr ⟨_,_,rfl⟩⟩⟩
  ·cases hv
set_option maxRecDepth 100000 in
theorem contract (H:Type) (enc:TypeId × Value->H) (W:World) (base:Nat) (args:Array Value) (ds gs:List (DataW H)) (before:List MemPlace)
  (hval:∀ (j:Nat) t v,Tryz.f4.params[j]?=some t->args[j]?=some v->Value.okWide Tryz.prog W .any base t v)
  (hW:DataW.Whole enc Tryz.prog Tryz.f4.params.toList Rows.taleScriptSpec.vars false W args.toList ds gs before) (hk:Rows.uptoSmall H (ds++gs)=true) (hG:Gd W fun b=>b<W.heap.size) :
  Calls Tryz.prog 4 args W fun e W'=>∃ v,e=.returned v/\Rows.taleScriptSpec.post enc Tryz.prog Tryz.f4 false true false false W args v W':=by
 have hW':=hW
 obtain ⟨p,q,hA0,hV,rfl,hfz,hnd⟩:=hW
 have hA:DataW.TrodAll enc Tryz.prog W 0 (fun _=>true) true Tryz.f4.params.toList args.toList ds p:=hA0
 rw [Tryz.params4] at hA hval
 obtain ⟨v0,vs0,d0,ds0,p0,q0,hargs,rfl,rfl,h0,r0⟩:=trodAll_cons hA
 obtain ⟨v1,vs1,d1,ds1,p1,q1,rfl,rfl,rfl,h1,r1⟩:=trodAll_cons r0
 obtain ⟨rfl,rfl,rfl⟩:=trodAll_nil r1
 obtain rfl:args=#[v0,v1]:=by cases args;simp_all
 obtain ⟨rfl,rfl⟩:=trodVars_none hV
 obtain ⟨x0,a0,g0,m0⟩:=Opn.arg on46 (by rw [Tryz.underlying46]) (hval 0 _ v0 rfl rfl) h0
 obtain ⟨x1,a1,g1,m1⟩:=Opn.arg on9 (by rw [Tryz.underlying9]) (hval 1 _ v1 rfl rfl) h1
 have hb:Rows.uptoBulkAll ([d0,d1]:List (DataW H))<=1048576:=of_decide_eq_true hk
 simp only [Rows.uptoBulkAll] at hb
 refine uH laid Tryz.underlying4 (by kernel_rfl) ok rfl rfl rfl rfl hW' (av:=[_,_]) (.cons a0 (.cons a1 (.nil))) (qS (rb x0 x1 g0 g1 (by omega))) hG
set_option maxRecDepth 100000 in
def flatV:Nat->DataW Unit->List Value
 | _,.lit (.int k x)=>[.int k x]
 | f+1,.agg l=>(l.map (flatV f)).flatten
 | _,_=>[]
def putC (d:DataW Unit):Go.Obj->Go.Obj
 | .cells c t frozen=>.cells (match d with | .agg l=>(flatV 4 (.agg l)).toArray | _=>c) t frozen
 | o=>o
def putI (ty:TypeId) (b:Nat):Go.Obj->Go.Obj
 | .cells _ t frozen=>.cells #[.iface ty (.pointer (some ⟨b,0,none⟩))] t frozen
 | o=>o
def strOf:DataW Unit->List UInt8
 | .iface _ (.ptr (.agg [.lit (.string b)]))=>b
 | _=>[]
def datum (x:String):DataW Unit:=((Rows.taleScriptUptoRow.laid.find? fun p=>p.1==x).map (·.2)).getD .nil
noncomputable def laidWorld (os:Os):World :=
 { World.holding Tryz.prog os ⟨#[],#[],[]⟩ with heap:=(((((((((((World.holding Tryz.prog os ⟨#[],#[],[]⟩).heap.modify 0 (putC (datum "internal/bytealg.MaxLen"))).modify 1 (putI 158 ((World.holding Tryz.prog os ⟨#[],#[],[]⟩).heap.size+0))).modify 2 (putI 158 ((World.holding Tryz.prog os ⟨#[],#[],[]⟩).heap.size+1))).modify 3 (putC (datum "internal/strconv.uint64pow10"))).modify 4 (putC (datum "unicode/utf8.first"))).modify 5 (putC (datum "unicode/utf8.acceptRanges"))).modify 6 (putC (datum "math/bits.deBruijn32tab"))).modify 7 (putC (datum "math/bits.deBruijn64tab"))).push (.cells #[.string ⟨(strOf (datum "strconv.ErrSyntax")).toArray⟩] 160 (0,0))).push (.cells #[.string ⟨(strOf (datum "strconv.ErrRange")).toArray⟩] 160 (0,0))) }
theorem laid_met (os:Os):laidMet Tryz.prog Rows.taleScriptUptoRow.laid ((laidWorld os).forCall (fun _ _=>0) ⟨#[],#[.slice none 0 0,.string ⟨#[]⟩],[]⟩).memory :=
 laidMet_of_run' 8 (by kernel_rfl) (by kernel_rfl)
theorem reads (os:Os) {H:Type} (enc:TypeId × Value->H):∃ places,DataW.whole enc Tryz.prog ((laidWorld os).forCall (fun _ _=>0) ⟨#[],#[.slice none 0 0,.string ⟨#[]⟩],[]⟩).memory Tryz.f4.params.toList Rows.taleScriptSpec.vars false #[.slice none 0 0,.string ⟨#[]⟩].toList 8=some ([.nil,.lit (.string [])],[],places) :=
 ⟨[],by kernel_rfl⟩
set_option maxRecDepth 100000 in
theorem lifted (os:Os) (started:os.Started) (H:Type) (enc:TypeId × Value->H) (F:Stop.Interp) :
  ReturnsInHanded {} Tryz.checked os 4 .any ((Rows.OpenSpec.upto Rows.taleScriptSpec).preRow enc Tryz.prog Tryz.f4 Rows.taleScriptUptoRow.domain false Rows.taleScriptUptoRow.laid) (((Rows.OpenSpec.upto Rows.taleScriptSpec).at F).post enc Tryz.prog Tryz.f4 false true false false):=by
 obtain ⟨places,hx⟩:=reads os enc
 refine returnsInHanded_of_row (C:=Tryz.checked) (s:=Rows.OpenSpec.upto Rows.taleScriptSpec) own started (by kernel_rfl) Tryz.func4
  (witness_row_at (enc:=enc) (C:=Tryz.checked) false (laidWorld os) #[.slice none 0 0,.string ⟨#[]⟩] rfl (by kernel_rfl) (by kernel_rfl) (by kernel_rfl)
   (OpenSpec.preRow_of_cond 8 hx (by kernel_rfl) (fun k hk=>by cases hk;kernel_rfl) (by kernel_rfl) (laid_met os))) ?_
 intro W base args ds gs before hval hW _ hk _ hL _ _
 exact contract H enc W base args ds gs before hval hW (hk _ rfl) (gd_of hL)
theorem said:Rows.TaleScriptUptoSaid :=
 OpenClaim.holds_of_cond 4 Tryz.f4 rfl rfl rfl rfl rfl rfl rfl ⟨rfl,rfl,rfl,rfl,rfl⟩ rfl rfl rfl rfl rfl (by kernel_rfl) Tryz.func4 (by kernel_rfl)
  (of_decide_eq_true (by kernel_rfl)) (by unfold Func.isWrapper;first | (rw [if_pos (by decide +kernel)];kernel_rfl) | (rw [if_neg (by decide +kernel)];exact ⟨rfl,rfl⟩))
  (fun os started H enc _ F=>by rw [OpenClaim.pre_eq_preRow];exact lifted os started H enc F)
theorem plain (f:FuncId) (fn:Func) (hf:Tryz.pinned.checked.prog.funcNamed "crossroads/crosslaw.TaleScript" = some f) (hfn:Tryz.pinned.checked.prog.funcs[f]?=some fn) :
  true=Tryz.pinned.checked.prog.looks []/\∀ (j:Nat) t,fn.params[j]?=some t->Tryz.pinned.checked.prog.wantsStandIn t=false:=by
 obtain rfl:f=4:=yY ((show Tryz.prog.funcNamed "crossroads/crosslaw.TaleScript" = some 4 by kernel_rfl).symm.trans hf) |>.symm
 obtain rfl:fn=Tryz.f4:=(yY (Tryz.func4.symm.trans hfn)).symm
 refine ⟨by kernel_rfl,fun j t ht=>?_⟩
 have h:(Tryz.f4.params.toList.all fun t=>!Tryz.prog.wantsStandIn t)=true:=by kernel_rfl
 have h:=zy.1 h t (by simpa using Array.mem_of_getElem? ht)
 exact (show Tryz.prog.wantsStandIn t=false by simpa using h)
theorem proved:Rows.TaleScriptUptoCardSaid :=
 Claim7.holds_tied_plain_at .later [] _ _ _ _ said (fun _ h=>by cases h) (by kernel_rfl) (fun _ h=>by cases h) taleScriptUpto_row_tie rfl ⟨rfl,rfl⟩ (by kernel_rfl) rfl plain (by kernel_rfl)
#print axioms proved
end Go.Proofs.YtbfncjgaklimlaaGreatDoor.taleScriptLaw
