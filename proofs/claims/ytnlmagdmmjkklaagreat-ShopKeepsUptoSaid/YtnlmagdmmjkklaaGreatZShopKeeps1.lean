/-
  Part 1 of the proof of shopKeepsLaw.proved: the code computes these functions, and the law holds of them, with no condition beyond the statement's own; put together by a program of ours (wip/decl.py) out of texts of ours.
-/
import Derived.WalkKit
import Derived.WalkSpells
import Derived.Maps.AppendAt
import Derived.Laws.MakeOwn
import Derived.Laws.OwnMore
import Derived.Laws.BytesArg
import Derived.Deep.LoopGhost
import Derived.OrdersHeld
import Derived.Laws.StructEq
import Derived.Lib.Join
import Derived.Lib.AppendZerosOnto
set_option linter.unusedVariables false
set_option linter.unusedSimpArgs false
namespace Go.Proofs.YtnlmagdmmjkklaaGreat
theorem tqz:True:=trivial
abbrev LF:=@Option.bind_some
abbrev LG:=@List.getElem?_eq_getElem
abbrev LH:=@List.getElem?_eq_some_iff
abbrev LI:=@List.length_append
abbrev LJ:=@List.mem_of_getElem?
abbrev LL:=@List.getD_eq_getElem?_getD
abbrev LM:=@Nat.le_refl
abbrev LN:=@List.append_assoc
abbrev LO:=@List.getElem?_append_left
abbrev LP:=@Option.some.inj
abbrev LR:=@List.eq_nil_of_length_eq_zero
abbrev LS:=@List.length_map
abbrev LT:=@List.getElem?_map
abbrev LU:=@List.drop_eq_getElem_cons
abbrev LV:=@Bool.false_eq_true
abbrev LW:=@List.length_cons
abbrev LX:=@List.mem_of_mem_take
abbrev LY:=@List.getElem?_set
abbrev LZ:=@List.mem_append
abbrev L0:=@List.mem_cons_self
abbrev L1:=@List.getElem?_of_mem
abbrev L2:=@List.mem_cons_of_mem
abbrev L3:=@List.append_nil
abbrev L4:=@Nat.mul_le_mul_right
abbrev L5:=@Option.isSome_iff_exists
abbrev L6:=@Option.map_eq_some_iff
abbrev L7:=@Int.toNat_natCast
abbrev L8:=@List.length_take
abbrev L9:=@List.mem_map
abbrev Ma:=@Nat.add_mul
abbrev Mb:=@List.getElem?_eq_none
abbrev Mc:=@List.getElem?_append_right
abbrev Md:=@List.mem_cons
abbrev Me:=@List.map_congr_left
abbrev Mf:=@Int.toNat_of_nonneg
abbrev Mg:=@List.length_drop
abbrev Mh:=@Int.le_refl
abbrev Mi:=@List.drop_of_length_le
abbrev Mj:=@List.flatten_append
abbrev Mk:=@List.getElem_mem
abbrev Ml:=@List.getElem?_drop
abbrev Mm:=@List.take_of_length_le
abbrev Mn:=@List.map_cons
abbrev Mo:=@List.getElem?_take
abbrev Mp:=@List.take_append_drop
abbrev Mq:=@List.mem_or_eq_of_mem_set
abbrev Mr:=@List.getElem?_append
abbrev Ms:=@List.eq_of_mem_replicate
abbrev Mt:=@Int.natCast_zero
abbrev Mu:=@List.flatten_cons
abbrev Mw:=@List.filter_cons_of_pos
abbrev Mx:=@List.map_eq_nil_iff
abbrev My:=@List.nil_append
abbrev Mz:=@List.all_eq_true
abbrev MA:=@Nat.zero_le
abbrev MB:=@Nat.add_zero
abbrev MC:=@Nat.eq_of_beq_eq_true
abbrev MD:=@List.drop_zero
abbrev ME:=@List.take_length
abbrev MF:=@Bool.and_eq_true
abbrev MG:=@Nat.zero_add
abbrev MH:=@List.mem_of_mem_drop
abbrev MI:=@Nat.min_eq_left
abbrev MJ:=@List.drop_length
abbrev MK:=@List.set_getElem_self
abbrev ML:=@List.flatMap_cons
abbrev MM:=@List.filter_cons_of_neg
abbrev MN:=@Array.getElem?_eq_some_iff
abbrev MO:=@Int.fdiv_eq_ediv_of_nonneg
abbrev MP:=@Nat.lt_of_lt_of_le
abbrev MQ:=@Option.map_some
abbrev MR:=@List.length_set
abbrev MT:=@List.mem_singleton
abbrev MU:=@Nat.le_of_ble_eq_true
abbrev MV:=@List.length_singleton
abbrev MW:=@List.map_append
abbrev MX:=@Nat.testBit_two_pow_mul_add
abbrev MY:=@List.getElem?_replicate
abbrev MZ:=@List.ext_getElem?
abbrev M0:=@Nat.le_trans
abbrev M1:=@Nat.mul_comm
abbrev M2:=@Int.eq_ofNat_of_zero_le
abbrev M3:=@Array.length_toList
abbrev M4:=@List.replicate_succ
abbrev M5:=@List.sum_cons
abbrev M6:=@Nat.mod_eq_of_lt
abbrev M7:=@List.mem_range
abbrev M8:=@List.mem_replicate
abbrev M9:=@List.singleton_append
abbrev Na:=@List.mem_of_find?_eq_some
abbrev Nb:=@Sum.inl.inj
abbrev Nc:=@List.map_map
abbrev Nd:=@Nat.div_lt_of_lt_mul
abbrev Ng:=@Option.some.injEq
abbrev Nh:=@List.map_take
abbrev Ni:=@List.getElem?_range
abbrev Nj:=@List.length_pos_iff
abbrev Nk:=@List.drop_left
abbrev Nl:=@List.cons.injEq
abbrev Nm:=@Array.getElem?_modify
abbrev Nn:=@Bool.or_eq_true
abbrev No:=@Bool.eq_iff_iff
abbrev Np:=@Nat.add_assoc
abbrev Nq:=@Array.getElem?_eq_getElem
abbrev Nr:=@List.drop_drop
abbrev Ns:=@Option.getD_some
abbrev Nt:=@List.cons_append
abbrev Nu:=@List.getElem?_cons_zero
abbrev Nv:=@Array.empty_append
abbrev Nw:=@List.nodup_cons
abbrev Nx:=@List.length_nil
abbrev Ny:=@List.size_toArray
abbrev Nz:=@Nat.sub_self
abbrev NA:=@List.take_left
abbrev NB:=@Nat.add_comm
abbrev NC:=@Array.getElem?_toList
abbrev ND:=@Nat.min_eq_right
abbrev NE:=@List.not_mem_nil
abbrev NG:=@Bool.not_true
abbrev NH:=@Nat.one_mul
abbrev NI:=@List.toList_toArray
abbrev NJ:=@List.mem_filter
abbrev NK:=@List.findIdx?_cons
abbrev NL:=@Nat.mul_le_mul
abbrev NM:=@List.nodup_nil
abbrev NN:=@Array.mem_def
abbrev NO:=@List.map_drop
abbrev NP:=@List.cons.inj
abbrev NQ:=@List.any_eq_true
abbrev NR:=@Nat.sub_zero
abbrev NS:=@List.map_nil
abbrev NT:=@Int.emod_nonneg
abbrev NU:=@List.take_take
abbrev NV:=@List.tail_drop
abbrev NW:=@Bool.false_or
abbrev NX:=@List.all_cons
abbrev NY:=@Nat.blt_eq
abbrev NZ:=@Nat.pow_succ
abbrev N2:=@Nat.le_succ
section
open Go.RowKit
inductive AV where
 | any
 | int (k:IntKind) (n:Int)
 | bool (b:Bool)
 | str (s:List UInt8)
 | agg (cs:List AV)
 | tup (vs:List AV)
 | nils
 | sl (rows:List (List AV))
 | ref (id:Nat)
 | ptr (id off:Nat)
 | elt (row:List AV) (off:Nat)
 | aptr (id size i off:Nat)
 | func (f:FuncId) (caps:List AV)
 | nilf
 | nilp
 | np (id:Nat)
 | nili
 | mpr (id:Nat)
 | ifc (t:TypeId) (a:AV)
 | cst (v:Value)
 | vw (id size lo n:Nat) (cap:Option Nat)
 | ref2 (id:Nat)
 | aptr2 (id i:Nat)
 | iref (id i:Nat)
 | bnd (f:FuncId) (firsts:List AV)
inductive Cell where
 | own (rows:List (List AV))
 | fz (rows:List (List AV))
 | hole
inductive Ob where
 | dead
 | box (cs:List AV)
 | arr (e:TypeId) (size:Nat) (rows:List (List AV))
 | mp (ks vs:List AV)
 | hd (e:TypeId) (k:Nat)
 | cl (e:TypeId) (size:Nat) (cells:List Cell)
 | arrU (e:TypeId) (size:Nat) (rows:List (List AV)) (x:Nat)
 | boxB (t:TypeId) (cs:List AV)
def Ob.live:Ob->Bool
 | .dead=>false
 | _=>true
inductive Rel (σ:List Value) (w:World) (F:Nat->Prop):AV->Value->Prop
 | any (v:Value):Rel σ w F .any v
 | int (k:IntKind) (n:Int):Rel σ w F (.int k n) (.int k n)
 | bool (b:Bool):Rel σ w F (.bool b) (.bool b)
 | str (s:List UInt8):Rel σ w F (.str s) (.string ⟨s.toArray⟩)
 | agg (cs:List AV) (vs:List Value) (h:vs.length=cs.length) (h1:∀ u,u∈vs->u.oneCell'=true) (hc:∀ (j:Nat) c u,cs[j]?=some c->vs[j]?=some u->Rel σ w F c u) :
  Rel σ w F (.agg cs) (.agg vs.toArray)
 | tup (cs:List AV) (vs:List Value) (h:vs.length=cs.length) (hc:∀ (j:Nat) c u,cs[j]?=some c->vs[j]?=some u->Rel σ w F c u) :
  Rel σ w F (.tup cs) (.tuple vs.toArray)
 | nils:Rel σ w F .nils (.slice none 0 0)
 | slNil:Rel σ w F (.sl []) (.slice none 0 0)
 | sl (rows:List (List AV)) (size:Nat) (ad:Addr) (c:Nat) (u:Nat->Nat->Value)
  (hF:rows≠[]->F ad.block) (hn:rows.length<=c) (hm:c<=maxLen)
  (hrow:∀ row,row∈rows->row.length=size) (hone:∀ i j:Nat,i<rows.length->j<size->(u i j).oneCell'=true)
  (hcell:∀ i j:Nat,i<rows.length->j<size->w.cell? (ad.add (i*size+j))=some (u i j))
  (hrel:∀ (i:Nat) row (j:Nat) x,rows[i]?=some row->row[j]?=some x->Rel σ w F x (u i j)) :
  Rel σ w F (.sl rows) (.slice (some ad) rows.length c)
 | ref (id:Nat) (a:Option Addr) (n c:Nat) (h:σ[id]?=some (.slice a n c)):Rel σ w F (.ref id) (.slice a n c)
 | ptr (id off g:Nat) (h:σ[id]?=some (.pointer (some ⟨g,0,none⟩))):Rel σ w F (.ptr id off) (.pointer (some ⟨g,off,none⟩))
 | elt (row:List AV) (off:Nat) (ad:Addr) (u:Nat->Value) (hF:row≠[]->F ad.block)
  (hone:∀ j:Nat,j<row.length->(u j).oneCell'=true)
  (hcell:∀ j:Nat,j<row.length->w.cell? (ad.add j)=some (u j))
  (hrel:∀ (j:Nat) x,row[j]?=some x->Rel σ w F x (u j)):Rel σ w F (.elt row off) (.pointer (some (ad.add off)))
 | aptr (id size i off g n c:Nat) (h:σ[id]?=some (.slice (some ⟨g,0,none⟩) n c)):Rel σ w F (.aptr id size i off) (.pointer (some ⟨g,i*size+off,none⟩))
 | func (f:FuncId) (cs:List AV) (vs:List Value) (h:vs.length=cs.length) (hc:∀ (j:Nat) c u,cs[j]?=some c->vs[j]?=some u->Rel σ w F c u) :
  Rel σ w F (.func f cs) (.func (.func f) #[] vs.toArray)
 | nilf:Rel σ w F .nilf .nilFunc
 | nilp:Rel σ w F .nilp (.pointer none)
 | np0 (id:Nat):Rel σ w F (.np id) (.pointer none)
 | npS (id g:Nat) (h:σ[id]?=some (.pointer (some ⟨g,0,none⟩))):Rel σ w F (.np id) (.pointer (some ⟨g,0,none⟩))
 | nili:Rel σ w F .nili .nilIface
 | mpr (id:Nat) (r:Option Nat) (h:σ[id]?=some (.map r)):Rel σ w F (.mpr id) (.map r)
 | ifc (t:TypeId) (a:AV) (v:Value) (h:Rel σ w F a v):Rel σ w F (.ifc t a) (.iface t v)
 | cst (v:Value):Rel σ w F (.cst v) v
 | vw (id size lo n N C:Nat) (cap:Option Nat) (A B:Option Addr) (h:σ[id]?=some (.slice B N C)) (hn:lo+n<=C) (hA:0<n->∃ g,B=some ⟨g,0,none⟩/\A=some ⟨g,lo*size,none⟩) (hc:∀ k,cap=some k->k+lo=C) (hz:lo=0->A=B) :
  Rel σ w F (.vw id size lo n cap) (.slice A n (C - lo))
 | ref2 (id:Nat) (a:Option Addr) (n c:Nat) (vs:Array Value) (h:σ[id]?=some (.tuple vs)) (h0:vs[0]?=some (.slice a n c)):Rel σ w F (.ref2 id) (.slice a n c)
 | aptr2 (id i g n c:Nat) (vs:Array Value) (h:σ[id]?=some (.tuple vs)) (h0:vs[0]?=some (.slice (some ⟨g,0,none⟩) n c)):Rel σ w F (.aptr2 id i) (.pointer (some ⟨g,i,none⟩))
 | iref (id i:Nat) (a:Option Addr) (n c:Nat) (vs:Array Value) (h:σ[id]?=some (.tuple vs)) (h0:vs[i]?=some (.slice a n c)):Rel σ w F (.iref id i) (.slice a n c)
 | bnd (f:FuncId) (cs:List AV) (vs:List Value) (h:vs.length=cs.length) (hc:∀ (j:Nat) c u,cs[j]?=some c->vs[j]?=some u->Rel σ w F c u) :
  Rel σ w F (.bnd f cs) (.func (.func f) vs.toArray #[])
theorem nz (a:Addr) (n:Nat):(a.add n).block=a.block:=by unfold Addr.add;split<;>rfl
theorem iz (a:Addr) (i j:Nat):(a.add i).add j=a.add (i+j):=by unfold Addr.add;by_cases hi:i=0<;>by_cases hj:j=0<;>simp [hi,hj,Np]
theorem Rel.mono {σ σ':List Value} {w w':World} {F F':Nat->Prop} (hσ:∀ (i:Nat) v,σ[i]?=some v->σ'[i]?=some v) (hF:∀ b,F b->F' b)
  (hw:∀ b,F b->w'.heap[b]?=w.heap[b]?) {a:AV} {v:Value} (h:Rel σ w F a v):Rel σ' w' F' a v:=by
 induction h with
 | any v=>exact .any v
 | int k n=>exact .int k n
 | bool b=>exact .bool b
 | str s=>exact .str s
 | agg cs vs h h1 _ ih=>exact .agg cs vs h h1 ih
 | tup cs vs h _ ih=>exact .tup cs vs h ih
 | nils=>exact .nils
 | slNil=>exact .slNil
 | sl rows size ad c u hFb hn hm hrow hone hcell _ ih =>
  refine .sl rows size ad c u (fun h=>hF _ (hFb h)) hn hm hrow hone (fun i j hi hj=>?_) ih
  have hne:rows≠[]:=by rintro rfl;simp at hi
  rw [World.cell?_of_block (w:=w) (by rw [nz];exact hw _ (hFb hne))]
  exact hcell i j hi hj
 | ref id a n c h=>exact .ref id a n c (hσ _ _ h)
 | ptr id off g h=>exact .ptr id off g (hσ _ _ h)
 | elt row off ad u hFb hone hcell _ ih =>
  refine .elt row off ad u (fun h=>hF _ (hFb h)) hone (fun j hj=>?_) ih
  have hne:row≠[]:=by rintro rfl;simp at hj
  rw [World.cell?_of_block (w:=w) (by rw [nz];exact hw _ (hFb hne))]
  exact hcell j hj
 | aptr id size i off g n c h=>exact .aptr id size i off g n c (hσ _ _ h)
 | func f cs vs h _ ih=>exact .func f cs vs h ih
 | bnd f cs vs h _ ih=>exact .bnd f cs vs h ih
 | nilf=>exact .nilf
 | nilp=>exact .nilp
 | np0 id=>exact .np0 id
 | npS id g h=>exact .npS id g (hσ _ _ h)
 | nili=>exact .nili
 | mpr id r h=>exact .mpr id r (hσ _ _ h)
 | ifc t a v _ ih=>exact .ifc t a v ih
 | cst v=>exact .cst v
 | vw id size lo n N C cap A B h hn hA hc hz=>exact .vw id size lo n N C cap A B (hσ _ _ h) hn hA hc hz
 | ref2 id a n c vs h h0=>exact .ref2 id a n c vs (hσ _ _ h) h0
 | aptr2 id i g n c vs h h0=>exact .aptr2 id i g n c vs (hσ _ _ h) h0
 | iref id i a n c vs h h0=>exact .iref id i a n c vs (hσ _ _ h) h0
def RelL (σ:List Value) (w:World) (F:Nat->Prop) (as₀:List AV) (vs:List Value):Prop :=
 vs.length=as₀.length/\∀ (j:Nat) a v,as₀[j]?=some a->vs[j]?=some v->Rel σ w F a v
theorem RelL.mono {σ σ':List Value} {w w':World} {F F':Nat->Prop} (hσ:∀ (i:Nat) v,σ[i]?=some v->σ'[i]?=some v) (hF:∀ b,F b->F' b)
  (hw:∀ b,F b->w'.heap[b]?=w.heap[b]?) {as₀:List AV} {vs:List Value} (h:RelL σ w F as₀ vs):RelL σ' w' F' as₀ vs :=
 ⟨h.1,fun j a v ha hv=>(h.2 j a v ha hv).mono hσ hF hw⟩
theorem RelL.nil {σ:List Value} {w:World} {F:Nat->Prop}:RelL σ w F [] []:=⟨rfl,fun j a v h=>by simp at h⟩
theorem RelL.cons {σ:List Value} {w:World} {F:Nat->Prop} {a:AV} {v:Value} {as₀:List AV} {vs:List Value} (h:Rel σ w F a v) (t:RelL σ w F as₀ vs):RelL σ w F (a::as₀) (v::vs):=by
 refine ⟨by simp [t.1],fun j a' v' ha hv=>?_⟩;cases j with
 | zero=>simp at ha hv;subst ha;subst hv;exact h
 | succ j=>simp at ha hv;exact t.2 j a' v' ha hv
theorem RelL.append {σ:List Value} {w:World} {F:Nat->Prop} {as₀ bs:List AV} {vs us:List Value} (h:RelL σ w F as₀ vs) (t:RelL σ w F bs us):RelL σ w F (as₀++bs) (vs++us):=by
 induction as₀ generalizing vs with
 | nil=>have:vs=[]:=LR h.1;subst this;simpa using t
 | cons a as₀ ih =>
  match vs,h with
  | [],h=>exact absurd h.1 (by simp)
  | v::vs,h =>
   have h1:Rel σ w F a v:=h.2 0 a v rfl rfl
   have h2:RelL σ w F as₀ vs:=⟨by simpa using h.1,fun j a v ha hv=>h.2 (j+1) a v (by simpa using ha) (by simpa using hv)⟩
   exact .cons h1 (ih h2)
theorem RelL.get {σ:List Value} {w:World} {F:Nat->Prop} {as₀:List AV} {vs:List Value} (h:RelL σ w F as₀ vs) {j:Nat} {a:AV} (ha:as₀[j]?=some a):∃ v,vs[j]?=some v/\Rel σ w F a v:=by
 have hj:j<vs.length:=by rw [h.1];exact (LH.1 ha).1
 exact ⟨vs[j],LG hj,h.2 j a _ ha (LG hj)⟩
theorem RelL.set {σ:List Value} {w:World} {F:Nat->Prop} {as₀:List AV} {vs:List Value} (h:RelL σ w F as₀ vs) (d:Nat) {a:AV} {v:Value} (hr:Rel σ w F a v):RelL σ w F (as₀.set d a) (vs.set d v):=by
 refine ⟨by simp [h.1],fun j a' v' ha hv=>?_⟩;rw [LY] at ha hv;by_cases hdj:d=j
 ·subst hdj;rw [if_pos rfl] at ha hv;split at ha
  ·split at hv
   ·simp at ha hv;subst ha;subst hv;exact hr
   ·simp at hv
  ·simp at ha
 ·rw [if_neg hdj] at ha hv;exact h.2 j a' v' ha hv
theorem RelL.sub {σ:List Value} {w:World} {F:Nat->Prop} {as₀:List AV} {vs:List Value} (h:RelL σ w F as₀ vs) (n m:Nat):RelL σ w F ((as₀.drop n).take m) ((vs.drop n).take m):=by
 refine ⟨by simp [h.1],fun j a v ha hv=>?_⟩;rw [Mo] at ha hv;split at ha
 ·rename_i hlt;rw [if_pos hlt] at hv;rw [Ml] at ha hv;exact h.2 _ a v ha hv
 ·simp at ha
def AV.ofVal1:Value->AV
 | .bool b=>.bool b
 | .int k n=>.int k n
 | .string s=>.str s.data.toList
 | .slice none 0 0=>.nils
 | .nilFunc=>.nilf
 | .nilIface=>.nili
 | .pointer none=>.nilp
 | _=>.any
def AV.ofVal:Value->AV
 | .agg cs=>if cs.toList.all (·.oneCell') then .agg (cs.toList.map AV.ofVal1) else .any
 | v=>AV.ofVal1 v
theorem Rel.ofVal1 (σ:List Value) (w:World) (F:Nat->Prop) (v:Value):Rel σ w F (AV.ofVal1 v) v:=by
 unfold AV.ofVal1;split
 ·exact .bool _
 ·exact .int _ _
 ·rename_i s;simpa using Rel.str (σ:=σ) (w:=w) (F:=F) s.data.toList
 ·exact .nils
 ·exact .nilf
 ·exact .nili
 ·exact .nilp
 ·exact .any _
theorem Rel.ofVal (σ:List Value) (w:World) (F:Nat->Prop) (v:Value):Rel σ w F (AV.ofVal v) v:=by
 unfold AV.ofVal;split
 ·rename_i cs;split
  ·rename_i h1;have h:=Rel.agg (σ:=σ) (w:=w) (F:=F) (cs.toList.map AV.ofVal1) cs.toList (by simp) (fun u hu=>Mz.1 h1 u hu) (fun j c u hc hu=>by
    rw [LT] at hc;rw [hu] at hc;simp at hc;subst hc;exact Rel.ofVal1 σ w F u)
   simpa using h
  ·exact .any _
 ·exact Rel.ofVal1 σ w F v
def ev (fr:List AV):Operand->AV
 | .tmp t=>fr.getD t .any
 | .const v=>AV.ofVal v
 | .global _=>.any
 | .func f=>.func f []
def ARel (σ:List Value) (w:World) (F:Nat->Prop) (fr:List AV) (a:Act):Prop:=RelL σ w F fr a.tmps.toList/\True
theorem ARel.ev {σ:List Value} {w:World} {F:Nat->Prop} {fr:List AV} {a:Act} (h:ARel σ w F fr a) (x:Operand):Rel σ w F (ev fr x) (a.eval x):=by
 cases x with
 | tmp t =>
  show Rel σ w F (fr.getD t .any) (a.tmps.getD t undef);rw [LL];cases hf:fr[t]? with
  | none=>exact .any _
  | some c =>
   obtain ⟨v,hv,hr⟩:=h.1.get hf;have hv':a.tmps[t]?=some v:=by simpa using hv
   simp [hv'];exact hr
 | const v=>exact Rel.ofVal σ w F v
 | global g=>exact .any _
 | func f=>exact .func f [] [] rfl (fun j c u hc=>by simp at hc)
theorem ARel.put {σ:List Value} {w:World} {F:Nat->Prop} {fr:List AV} {a:Act} (h:ARel σ w F fr a) {r:AV} {v:Value} (hr:Rel σ w F r v) (d:Option Tmp) :
  ARel σ w F (match d with | some t=>fr.set t r | none=>fr) (a.put d v):=by
 cases d with
 | none=>exact h
 | some t=>exact ⟨by simpa [Act.put] using h.1.set t hr,h.2⟩
end
section
open Go.RowKit
def blk:Value->Option Nat
 | .pointer (some a)=>some a.block
 | .slice (some a) _ _=>some a.block
 | .map (some r)=>some r
 | _=>none
theorem nS (v:Value) (a:Option Addr) (n c:Nat) (h:v=.slice a n c):blk v=v.ownBlock:=by subst h;cases a<;>rfl
def FlatRel (σ:List Value) (w:World) (F:Nat->Prop) (size:Nat) (rows:List (List AV)) (flat:List Value):Prop :=
 (∀ row,row∈rows->row.length=size)/\(∀ u,u∈flat->u.oneCell'=true)/\RelL σ w F rows.flatten flat
def CellRel (σ:List Value) (w:World) (F:Nat->Prop) (e2 size:Nat):Cell->Value->Prop
 | .own rows,u=>∃ flat,w.ownsRow 0 e2 size u rows.length flat/\FlatRel σ w F size rows flat/\(∀ g,u.ownBlock=some g->¬ F g)/\∃ a n c,u=.slice a n c
 | .fz rows,u=>Rel σ w F (.sl rows) u
 | .hole,_=>True
def Bk (o:Ob) (v:Value) (b:Nat):Prop :=
 match o with
 | .dead=>False
 | .box _ | .arr _ _ _ | .mp _ _ | .arrU _ _ _ _ | .hd _ _ | .boxB _ _=>blk v=some b
 | .cl _ _ cells=>∃ us:List Value,v=.tuple us.toArray/\∃ (i:Nat) (rows:List (List AV)) (x:Value),cells[i]?=some (.own rows)/\us[i]?=some x/\x.ownBlock=some b
def ORel (σ:List Value) (w:World) (F:Nat->Prop):Ob->Value->Prop
 | .dead,_=>True
 | .box cs,v=>∃ g vs ty,v=.pointer (some ⟨g,0,none⟩)/\w.heap[g]?=some (.cells vs ty (0,0))/\RelL σ w F cs vs.toList/\(∀ u,u∈vs->u.oneCell'=true)/\¬ F g
 | .boxB t cs,v=>∃ g vs,v=.pointer (some ⟨g,0,none⟩)/\w.heap[g]?=some (.cells vs t (0,0))/\RelL σ w F cs vs.toList/\(∀ u,u∈vs->u.oneCell'=true)/\¬ F g
 | .arr e size rows,v=>∃ flat,w.ownsRow 0 e size v rows.length flat/\FlatRel σ w F size rows flat/\(∀ g,v.ownBlock=some g->¬ F g)/\∃ a n c,v=.slice a n c
 | .arrU e size rows x,v=>∃ g C flat,v=.slice (some ⟨g,0,none⟩) (rows.length+x) C/\rows.length+x<=C/\w.ownsRow 0 e size (.slice (some ⟨g,0,none⟩) rows.length C) rows.length flat/\FlatRel σ w F size rows flat/\¬ F g
 | .mp ks vs,v=>∃ g es clock,v=.map (some g)/\w.heap[g]?=some (.map es clock)/\RelL σ w F ks (es.toList.map (·.key))/\RelL σ w F vs (es.toList.map (·.val))/\¬ F g
 | .hd e k,v=>∃ us:List Value,σ[k]?=some (.tuple us.toArray)/\w.ownsRow 0 e 1 v us.length us/\(∃ a n c,v=.slice a n c)/\(∀ u,u∈us->u.oneCell'=true)/\∀ g,v.ownBlock=some g->¬ F g
 | .cl e size cells,v=>∃ us:List Value,v=.tuple us.toArray/\us.length=cells.length/\(∀ (i:Nat) c x,cells[i]?=some c->us[i]?=some x->CellRel σ w F e size c x) /\
  (∀ (i j:Nat) rows rows' x y g,i≠j->cells[i]?=some (.own rows)->cells[j]?=some (.own rows')->us[i]?=some x->us[j]?=some y->x.ownBlock=some g->y.ownBlock=some g->False)
structure Sim (aw:List Ob) (σ:List Value) (w:World) (F:Nat->Prop):Prop where
 len:σ.length=aw.length
 obj:∀ (k:Nat) o v,aw[k]?=some o->σ[k]?=some v->ORel σ w F o v
 sep:∀ (k k':Nat) o o' v v' g,k≠k'->aw[k]?=some o->aw[k']?=some o'->o.live=true->o'.live=true ->
  σ[k]?=some v->σ[k']?=some v'->Bk o v g->Bk o' v' g->False
 lt:∀ b,F b->b<w.heap.size
def Dof (aw:List Ob) (σ:List Value) (b:Nat):Prop:=∃ (k:Nat) (o:Ob) (v:Value),aw[k]?=some o/\o.live=true/\σ[k]?=some v/\Bk o v b
theorem A8 {us us':List Value} (h:Value.tuple us.toArray=.tuple us'.toArray):us=us':=by
 injection h with h
 have:=congrArg Array.toList h;simpa using this
theorem Bk.slice {e s:Nat} {rows:List (List AV)} {a:Option Addr} {n c b:Nat} (h:(Value.slice a n c).ownBlock=some b):Bk (.arr e s rows) (.slice a n c) b:=(nS _ a n c rfl).trans h
theorem Bk.slice_inv {e s:Nat} {rows:List (List AV)} {a:Option Addr} {n c b:Nat} (h:Bk (.arr e s rows) (.slice a n c) b):(Value.slice a n c).ownBlock=some b:=(nS _ a n c rfl).symm.trans h
theorem Sim.free {aw:List Ob} {σ:List Value} {w:World} {F:Nat->Prop} (h:Sim aw σ w F) {b:Nat} (hb:Dof aw σ b):¬ F b:=by
 obtain ⟨k,o,v,ho,hl,hv,hbk⟩:=hb;have hr:=h.obj k o v ho hv;cases o with
 | dead=>simp [Ob.live] at hl
 | box cs =>
  obtain ⟨g,vs,ty,rfl,_,_,_,hf⟩:=hr;simp [Bk,blk] at hbk;subst hbk;exact hf
 | arr e size rows =>
  obtain ⟨flat,_,_,hf,a,n,c,rfl⟩:=hr;exact hf _ hbk.slice_inv
 | mp ks vs =>
  obtain ⟨g,es,clock,rfl,_,_,_,hf⟩:=hr;simp [Bk,blk] at hbk;subst hbk;exact hf
 | arrU e size rows x =>
  obtain ⟨g,C,flat,rfl,_,_,_,hf⟩:=hr;simp [Bk,blk] at hbk;subst hbk;exact hf
 | boxB t cs =>
  obtain ⟨g,vs,rfl,_,_,_,hf⟩:=hr;simp [Bk,blk] at hbk;subst hbk;exact hf
 | hd e k2 =>
  obtain ⟨us,_,_,⟨a,n,c,rfl⟩,_,hf⟩:=hr;exact hf _ ((nS _ a n c rfl).symm.trans hbk)
 | cl e size cells =>
  obtain ⟨us,rfl,_,hc,_⟩:=hr;obtain ⟨us',e1,i,rows,x,h2,h3,h4⟩:=hbk;have:=A8 e1;subst this;obtain ⟨flat,_,_,h5,_⟩:=hc i _ x h2 h3;exact h5 b h4
theorem Sim.lt_own {aw:List Ob} {σ:List Value} {w:World} {F:Nat->Prop} (h:Sim aw σ w F) {b:Nat} (hb:Dof aw σ b):b<w.heap.size:=by
 obtain ⟨k,o,v,ho,hl,hv,hbk⟩:=hb;have hr:=h.obj k o v ho hv;cases o with
 | dead=>simp [Ob.live] at hl
 | box cs =>
  obtain ⟨g,vs,ty,rfl,hg,_⟩:=hr;simp [Bk,blk] at hbk;subst hbk;exact (MN.1 hg).1
 | arr e size rows =>
  obtain ⟨flat,ho,_,_,a,n,c,rfl⟩:=hr;exact (ho.lt _ hbk.slice_inv).2
 | mp ks vs =>
  obtain ⟨g,es,clock,rfl,hg,_⟩:=hr;simp [Bk,blk] at hbk;subst hbk;exact (MN.1 hg).1
 | arrU e size rows x =>
  obtain ⟨g,C,flat,rfl,_,hown,_,_⟩:=hr;simp [Bk,blk] at hbk;subst hbk;exact (hown.lt _ rfl).2
 | boxB t cs =>
  obtain ⟨g,vs,rfl,hg,_⟩:=hr;simp [Bk,blk] at hbk;subst hbk;exact (MN.1 hg).1
 | hd e k2 =>
  obtain ⟨us,_,hown,⟨a,n,c,rfl⟩,_,_⟩:=hr;exact (hown.lt _ ((nS _ a n c rfl).symm.trans hbk)).2
 | cl e size cells =>
  obtain ⟨us,rfl,_,hc,_⟩:=hr;obtain ⟨us',e1,i,rows,x,h2,h3,h4⟩:=hbk;have:=A8 e1;subst this;obtain ⟨flat,h5,_⟩:=hc i _ x h2 h3;exact (h5.lt _ h4).2
theorem uy {α:Type}:∀ (a:Ask α) (w:World),w.drawn<=(w.ask a).2.drawn
 | .done a,w=>LM _
 | .ask what range k,w=>by
  unfold World.ask;simp only;split
  ·exact uy (k 0) w
  ·exact M0 (N2 w.drawn) (uy (k _) { w with drawn:=w.drawn+1 })
theorem FI (w:World) (c:Sys):w.drawn<=(w.sys c).2.drawn:=by
 unfold World.sys;have:=uy (Kernel.perform c w.os) w;split
 ·exact LM _
 ·rename_i h;rw [h] at this;exact this
theorem FE {p:Program} {w:World} {a:Addr} {v:Value} {b:Bool} {r:World × List Addr} (h:w.farStore p a v b=.ok r):r.1.drawn=w.drawn:=by
 unfold World.farStore at h;split at h
 ·split at h
  ·rename_i hv;injection h with h
   subst h;unfold World.viewStore at hv;simp only [bind,Except.bind,pure,Except.pure] at hv;(repeat' split at hv)<;>first | (cases hv;done) | (injection hv with hv;subst hv;rfl)
  ·cases h
 ·cases h
theorem uk {α:Type} {P:Program} (m:Sem α):∀ {w:World} {v:α} {w':World},m.run P w=.ok v w'->w.drawn<=w'.drawn:=by
 induction m with
 | pure a=>intro w v w' h;simp only [Sem.run] at h;injection h with _ h;subst h;exact LM _
 | load m a k ih =>
  intro w v w' h;simp only [Sem.run] at h;split at h
  ·exact ih _ h
  ·split at h
   ·exact ih _ h
   ·cases h
 | store m a u k ih =>
  intro w v w' h;cases u with
  | agg _=>simp only [Sem.run] at h;cases h
  | tuple _=>simp only [Sem.run] at h;cases h
  | _ =>
   simp only [Sem.run] at h;split at h
   ·split at h
    ·cases h
    ·exact ih (w:=w.setCell a _) h
   ·split at h
    ·rename_i hf;have h1:=FE hf;have h2:=ih h;simp only at h1;omega
    ·cases h
 | new o k ih=>intro w v w' h;simp only [Sem.run] at h;exact ih _ (w:={ w with heap:=w.heap.push o }) h
 | shape r k ih=>intro w v w' h;simp only [Sem.run] at h;exact ih _ h
 | freeze a n k ih =>
  intro w v w' h;simp only [Sem.run] at h;have:=ih h;have e:(w.freeze a n).drawn=w.drawn:=by unfold World.freeze;split<;>rfl
  omega
 | frozen a k ih=>intro w v w' h;simp only [Sem.run] at h;exact ih _ h
 | getObj r k ih =>
  intro w v w' h;simp only [Sem.run] at h;split at h
  ·cases h
  ·exact ih _ h
  ·cases h
 | setObj r o k ih =>
  intro w v w' h;simp only [Sem.run] at h;split at h
  ·cases h
  ·exact ih (w:={ w with heap:=w.heap.setIfInBounds r o }) h
  ·cases h
 | choose q k ih =>
  intro w v w' h;simp only [Sem.run] at h;split at h
  ·exact ih _ h
  ·have:=ih _ h;exact M0 (N2 _) this
 | sys c k ih =>
  intro w v w' h;simp only [Sem.run] at h;exact M0 (FI w c) (ih _ h)
 | program k ih=>intro w v w' h;simp only [Sem.run] at h;exact ih _ h
 | mark m k ih=>intro w v w' h;simp only [Sem.run] at h;exact ih h
 | _=>intro w v w' h;simp only [Sem.run] at h;cases h
def Drw (w w':World):Prop:=w'.output=w.output/\w.drawn<=w'.drawn
theorem drO {w w':World} (h:w'.output=w.output:=by rfl) (h2:w.drawn<=w'.drawn:=by first | exact LM _ | exact N2 _ | exact Nat.le_add_right _ _):Drw w w':=⟨h,h2⟩
structure Mv (aw:List Ob) (σ:List Value) (w:World) (F:Nat->Prop) (aw':List Ob) (σ':List Value) (w':World) (F':Nat->Prop):Prop where
 os:w'.os=w.os
 tape:w'.tape=w.tape
 output:Drw w w'
 size:w.heap.size<=w'.heap.size
 keep:∀ b,b<w.heap.size->¬ Dof aw σ b->w'.heap[b]?=w.heap[b]?
 pre:∀ (i:Nat) v,σ[i]?=some v->σ'[i]?=some v
 sub:∀ b,F b->F' b
 sup:∀ b,F' b->F b∨Dof aw σ b∨w.heap.size<=b
 own:∀ b,Dof aw' σ' b->Dof aw σ b∨w.heap.size<=b
theorem Mv.refl (aw:List Ob) (σ:List Value) (w:World) (F:Nat->Prop):Mv aw σ w F aw σ w F :=
 ⟨rfl,rfl,drO,LM _,fun _ _ _=>rfl,fun _ _ h=>h,fun _ h=>h,fun _ h=>.inl h,fun _ h=>.inl h⟩
theorem Mv.trans {aw aw1 aw2:List Ob} {σ σ1 σ2:List Value} {w w1 w2:World} {F F1 F2:Nat->Prop} (h:Mv aw σ w F aw1 σ1 w1 F1) (k:Mv aw1 σ1 w1 F1 aw2 σ2 w2 F2) :
  Mv aw σ w F aw2 σ2 w2 F2:=by
 refine ⟨k.os.trans h.os,k.tape.trans h.tape,⟨k.output.1.trans h.output.1,M0 h.output.2 k.output.2⟩,M0 h.size k.size,fun b hb hd=>?_,fun i v hv=>k.pre i v (h.pre i v hv),fun b hb=>k.sub b (h.sub b hb),fun b hb=>?_,fun b hb=>?_⟩
 ·rw [k.keep b (MP hb h.size) (fun hd1=>(h.own b hd1).elim hd (fun hge=>by omega))]
  exact h.keep b hb hd
 ·rcases k.sup b hb with h1 | h1 | h1
  ·exact h.sup b h1
  ·exact .inr (h.own b h1)
  ·exact .inr (.inr (M0 h.size h1))
 ·rcases k.own b hb with h1 | h1
  ·exact h.own b h1
  ·exact .inr (M0 h.size h1)
theorem Mv.same {aw aw':List Ob} {σ σ':List Value} {w w':World} {F F':Nat->Prop} (h:Mv aw σ w F aw' σ' w' F') (hs:Sim aw σ w F):∀ b,F b->w'.heap[b]?=w.heap[b]? :=
 fun b hb=>h.keep b (hs.lt b hb) (fun hd=>hs.free hd hb)
theorem Mv.rel {aw aw':List Ob} {σ σ':List Value} {w w':World} {F F':Nat->Prop} (h:Mv aw σ w F aw' σ' w' F') (hs:Sim aw σ w F) {a:AV} {v:Value} (hr:Rel σ w F a v):Rel σ' w' F' a v :=
 hr.mono h.pre h.sub (h.same hs)
theorem Mv.relL {aw aw':List Ob} {σ σ':List Value} {w w':World} {F F':Nat->Prop} (h:Mv aw σ w F aw' σ' w' F') (hs:Sim aw σ w F) {as₀:List AV} {vs:List Value} (hr:RelL σ w F as₀ vs):RelL σ' w' F' as₀ vs :=
 hr.mono h.pre h.sub (h.same hs)
theorem Mv.aRel {aw aw':List Ob} {σ σ':List Value} {w w':World} {F F':Nat->Prop} (h:Mv aw σ w F aw' σ' w' F') (hs:Sim aw σ w F) {fr:List AV} {a:Act} (hr:ARel σ w F fr a):ARel σ' w' F' fr a :=
 ⟨h.relL hs hr.1,hr.2⟩
theorem FlatRel.mono {σ σ':List Value} {w w':World} {F F':Nat->Prop} {size:Nat} {rows:List (List AV)} {flat:List Value} (h:FlatRel σ w F size rows flat)
  (hσ:∀ (i:Nat) v,σ[i]?=some v->σ'[i]?=some v) (hF:∀ b,F b->F' b) (hw:∀ b,F b->w'.heap[b]?=w.heap[b]?):FlatRel σ' w' F' size rows flat :=
 ⟨h.1,h.2.1,h.2.2.mono hσ hF hw⟩
theorem sy {w w':World} {e size n:Nat} {v:Value} {xs:List Value} (h:w.ownsRow 0 e size v n xs) (hb:∀ b,v.ownBlock=some b->w'.heap[b]?=w.heap[b]?):w'.ownsRow 0 e size v n xs:=by
 refine ⟨h.1,?_⟩;rcases h.2 with h2 | ⟨g,cap,cur,hv,h0,hh,r⟩
 ·exact .inl h2
 ·exact .inr ⟨g,cap,cur,hv,h0,by rw [hb g (by rw [hv];rfl)];exact hh,r⟩
theorem CellRel.mono {σ σ':List Value} {w w':World} {F F':Nat->Prop} {e2 size:Nat} {c:Cell} {x:Value} (h:CellRel σ w F e2 size c x)
  (hσ:∀ (i:Nat) v,σ[i]?=some v->σ'[i]?=some v) (hF:∀ b,F b->F' b) (hw:∀ b,F b->w'.heap[b]?=w.heap[b]?)
  (hb:∀ rows,c=.own rows->∀ b,x.ownBlock=some b->w'.heap[b]?=w.heap[b]?/\¬ F' b):CellRel σ' w' F' e2 size c x:=by
 cases c with
 | own rows =>
  obtain ⟨flat,h1,h2,h3,h4⟩:=h
  exact ⟨flat,sy h1 (fun b hb'=>(hb rows rfl b hb').1),h2.mono hσ hF hw,fun g hg=>(hb rows rfl g hg).2,h4⟩
 | fz rows=>exact Rel.mono hσ hF hw h
 | hole=>trivial
theorem ORel.mono {σ σ':List Value} {w w':World} {F F':Nat->Prop} {o:Ob} {v:Value} (h:ORel σ w F o v)
  (hσ:∀ (i:Nat) v,σ[i]?=some v->σ'[i]?=some v) (hF:∀ b,F b->F' b) (hw:∀ b,F b->w'.heap[b]?=w.heap[b]?)
  (hb:o.live=true->∀ b,Bk o v b->w'.heap[b]?=w.heap[b]?/\¬ F' b):ORel σ' w' F' o v:=by
 cases o with
 | dead=>trivial
 | box cs =>
  obtain ⟨g,vs,ty,rfl,hg,hr,h1,hf⟩:=h
  obtain ⟨e1,e2⟩:=hb rfl g rfl
  exact ⟨g,vs,ty,rfl,e1.trans hg,hr.mono hσ hF hw,h1,e2⟩
 | arr e size rows =>
  obtain ⟨flat,ho,hfl,hf,a,n,c,rfl⟩:=h
  exact ⟨flat,sy ho (fun b h=>(hb rfl b (.slice h)).1),hfl.mono hσ hF hw,fun g hg=>(hb rfl g (.slice hg)).2,a,n,c,rfl⟩
 | mp ks vs =>
  obtain ⟨g,es,clock,rfl,hg,hk,hv,hf⟩:=h
  obtain ⟨e1,e2⟩:=hb rfl g rfl
  exact ⟨g,es,clock,rfl,e1.trans hg,hk.mono hσ hF hw,hv.mono hσ hF hw,e2⟩
 | boxB t cs =>
  obtain ⟨g,vs,rfl,hg,hr,h1,hf⟩:=h
  obtain ⟨e1,e2⟩:=hb rfl g rfl
  exact ⟨g,vs,rfl,e1.trans hg,hr.mono hσ hF hw,h1,e2⟩
 | arrU e size rows x =>
  obtain ⟨g,C,flat,rfl,h1,hown,hfl,hf⟩:=h
  exact ⟨g,C,flat,rfl,h1,sy hown (fun b hb'=>(hb rfl b (by simpa [Bk,blk,Value.ownBlock] using hb')).1),hfl.mono hσ hF hw,(hb rfl g rfl).2⟩
 | hd e k2 =>
  obtain ⟨us,h1,hown,⟨a,n,c,rfl⟩,hone,hf⟩:=h
  exact ⟨us,hσ _ _ h1,sy hown (fun b h=>(hb rfl b ((nS _ a n c rfl).trans h)).1),⟨a,n,c,rfl⟩,hone,fun g hg=>(hb rfl g ((nS _ a n c rfl).trans hg)).2⟩
 | cl e size cells =>
  obtain ⟨us,rfl,hl,hc,hd⟩:=h
  exact ⟨us,rfl,hl,fun i c x h1 h2=>(hc i c x h1 h2).mono hσ hF hw (fun rows e b h3=>hb rfl b ⟨us,rfl,i,rows,x,by rw [h1,e],h2,h3⟩),hd⟩
theorem Sim.grow {aw:List Ob} {σ:List Value} {w w':World} {F F':Nat->Prop} (h:Sim aw σ w F) (hF:∀ b,F b->F' b) (hsup:∀ b,F' b->F b∨w.heap.size<=b) (hlt:∀ b,F' b->b<w'.heap.size)
  (hk:∀ b,b<w.heap.size->w'.heap[b]?=w.heap[b]?):Sim aw σ w' F':=by
 refine ⟨h.len,fun k o v ho hv=>?_,h.sep,hlt⟩
 refine (h.obj k o v ho hv).mono (fun _ _ e=>e) hF (fun b hb=>hk b (h.lt b hb)) (fun hl b hb=>?_)
 have hd:Dof aw σ b:=⟨k,o,v,ho,hl,hv,hb⟩
 refine ⟨hk b (h.lt_own hd),fun hf=>?_⟩
 rcases hsup b hf with h1 | h1
 ·exact h.free hd h1
 ·have:=h.lt_own hd;omega
theorem Mv.grow {aw:List Ob} {σ:List Value} {w w':World} {F F':Nat->Prop} (hF:∀ b,F b->F' b) (hsup:∀ b,F' b->F b∨w.heap.size<=b)
  (hos:w'.os=w.os) (ht:w'.tape=w.tape) (ho:Drw w w') (hs:w.heap.size<=w'.heap.size)
  (hk:∀ b,b<w.heap.size->w'.heap[b]?=w.heap[b]?):Mv aw σ w F aw σ w' F' :=
 ⟨hos,ht,ho,hs,fun b hb _=>hk b hb,fun _ _ h=>h,hF,fun b hb=>(hsup b hb).imp id .inr,fun _ h=>.inl h⟩
theorem Sim.drew {aw:List Ob} {σ:List Value} {w:World} {F:Nat->Prop} (h:Sim aw σ w F):Sim aw σ w.drew F:=h.grow (fun _ h=>h) (fun _ h=>.inl h) h.lt (fun _ _=>rfl)
theorem Mv.drew {aw:List Ob} {σ:List Value} {w:World} {F:Nat->Prop}:Mv aw σ w F aw σ w.drew F:=.grow (fun _ h=>h) (fun _ h=>.inl h) rfl rfl drO (LM _) (fun _ _=>rfl)
def plus (F:Nat->Prop) (n b:Nat):Prop:=F b∨b=n
theorem Sim.fresh {aw:List Ob} {σ:List Value} {w:World} {F:Nat->Prop} (h:Sim aw σ w F) (o:Obj):Sim aw σ (w.alloc o) (plus F w.heap.size):=by
 refine h.grow (fun _ h=>.inl h) (fun b hb=>hb.imp id (fun e=>by omega)) (fun b hb=>?_) (fun b hb=>Below.heap_alloc w o b hb);rcases hb with hb | rfl
 ·have:=h.lt b hb;simp;omega
 ·simp
theorem Mv.fresh {aw:List Ob} {σ:List Value} {w:World} {F:Nat->Prop} (o:Obj):Mv aw σ w F aw σ (w.alloc o) (plus F w.heap.size) :=
 .grow (fun _ h=>.inl h) (fun b hb=>hb.imp id (fun e=>by omega)) rfl rfl drO (by simp) (fun b hb=>Below.heap_alloc w o b hb)
theorem fI {α:Type} {l:List α} {x y:α} {k:Nat} (h:(l++[x])[k]?=some y):l[k]?=some y∨(k=l.length/\y=x):=by
 rw [Mr] at h;split at h
 ·exact .inl h
 ·rename_i hk;cases hd:k - l.length with
  | zero=>rw [hd] at h;simp at h;exact .inr ⟨by omega,h.symm⟩
  | succ n=>rw [hd] at h;simp at h
theorem eF {α:Type} {l:List α} {x y:α} {k:Nat} (h:l[k]?=some y):(l++[x])[k]?=some y:=by rw [LO (LH.1 h).1];exact h
theorem Sim.push {aw:List Ob} {σ:List Value} {w w':World} {F:Nat->Prop} (h:Sim aw σ w F) (o:Ob) (v:Value)
  (hk:∀ b,b<w.heap.size->w'.heap[b]?=w.heap[b]?) (hs:w.heap.size<=w'.heap.size) (ho:ORel (σ++[v]) w' F o v) (hnew:∀ b,Bk o v b->w.heap.size<=b) :
  Sim (aw++[o]) (σ++[v]) w' F:=by
 have h':Sim aw σ w' F:=h.grow (fun _ h=>h) (fun _ h=>.inl h) (fun b hb=>MP (h.lt b hb) hs) hk
 refine ⟨by simp [h.len],fun k o1 v1 ho1 hv1=>?_,fun k k' o1 o2 v1 v2 g hne ho1 ho2 hl1 hl2 hv1 hv2 hb1 hb2=>?_,h'.lt⟩
 ·rcases fI ho1 with h1 | ⟨rfl,rfl⟩
  ·have hv1':σ[k]?=some v1:=by
    have hlt:=(LH.1 h1).1;rw [LO (by rw [h.len];exact hlt)] at hv1;exact hv1
   exact (h'.obj k o1 v1 h1 hv1').mono (fun _ _ e=>eF e) (fun _ e=>e) (fun _ _=>rfl) (fun hl b hb=>⟨rfl,h'.free ⟨k,o1,v1,h1,hl,hv1',hb⟩⟩)
  ·rw [<- h.len] at hv1
   simp at hv1
   subst hv1
   exact ho
 ·have old:∀ (k:Nat) o1 v1,aw[k]?=some o1->(σ++[v])[k]?=some v1->σ[k]?=some v1:=fun k o1 v1 h1 hv1=>by
   have hlt:=(LH.1 h1).1;rw [LO (by rw [h.len];exact hlt)] at hv1;exact hv1
  have last:∀ (k:Nat) v1,k=aw.length->(σ++[v])[k]?=some v1->v1=v:=fun k v1 e hv1=>by rw [e,<- h.len] at hv1;simp at hv1;exact hv1.symm
  rcases fI ho1 with h1 | ⟨e1,rfl⟩
  ·rcases fI ho2 with h2 | ⟨e2,rfl⟩
   ·exact h.sep k k' o1 o2 v1 v2 g hne h1 h2 hl1 hl2 (old _ _ _ h1 hv1) (old _ _ _ h2 hv2) hb1 hb2
   ·have:=last _ _ e2 hv2;subst this
    have hlt:=h.lt_own ⟨k,o1,v1,h1,hl1,old _ _ _ h1 hv1,hb1⟩
    have:=hnew g hb2;omega
  ·have:=last _ _ e1 hv1;subst this
   rcases fI ho2 with h2 | ⟨e2,rfl⟩
   ·have hlt:=h.lt_own ⟨k',o2,v2,h2,hl2,old _ _ _ h2 hv2,hb2⟩
    have:=hnew g hb1;omega
   ·exact hne (e1.trans e2.symm)
theorem Mv.push {aw:List Ob} {σ:List Value} {w w':World} {F:Nat->Prop} (h:Sim aw σ w F) (o:Ob) (v:Value)
  (hos:w'.os=w.os) (ht:w'.tape=w.tape) (hou:Drw w w')
  (hk:∀ b,b<w.heap.size->w'.heap[b]?=w.heap[b]?) (hs:w.heap.size<=w'.heap.size) (hnew:∀ b,Bk o v b->w.heap.size<=b) :
  Mv aw σ w F (aw++[o]) (σ++[v]) w' F:=by
 refine ⟨hos,ht,hou,hs,fun b hb _=>hk b hb,fun i u hu=>eF hu,fun _ h=>h,fun _ h=>.inl h,fun b hb=>?_⟩
 obtain ⟨k,o1,v1,ho1,hl,hv1,hb1⟩:=hb
 rcases fI ho1 with h1 | ⟨rfl,rfl⟩
 ·have hlt:=(LH.1 h1).1
  rw [LO (by rw [h.len];exact hlt)] at hv1
  exact .inl ⟨k,o1,v1,h1,hl,hv1,hb1⟩
 ·rw [<- h.len] at hv1
  simp at hv1
  subst hv1
  exact .inr (hnew b hb1)
theorem eG {α:Type} {l:List α} {x y:α} {id k:Nat} (h:(l.set id x)[k]?=some y):(k=id/\y=x/\id<l.length)∨(k≠id/\l[k]?=some y):=by
 rw [LY] at h;split at h
 ·split at h
  ·rename_i e hlt;simp at h;exact .inl ⟨e.symm,h.symm,e▸hlt⟩
  ·simp at h
 ·rename_i e;exact .inr ⟨fun e'=>e e'.symm,h⟩
theorem Sim.drop {aw:List Ob} {σ:List Value} {w:World} {F:Nat->Prop} (h:Sim aw σ w F) (id:Nat) {o:Ob} {v:Value} (ho:aw[id]?=some o) (hl:o.live=true) (hv:σ[id]?=some v) :
  Sim (aw.set id .dead) σ w (fun b=>F b∨Bk o v b):=by
 refine ⟨by simp [h.len],fun k o1 v1 ho1 hv1=>?_,fun k k' o1 o2 v1 v2 g hne ho1 ho2 hl1 hl2 hv1 hv2 hb1 hb2=>?_,fun b hb=>?_⟩
 ·rcases eG ho1 with ⟨rfl,rfl,_⟩ | ⟨hne,h1⟩
  ·trivial
  ·refine (h.obj k o1 v1 h1 hv1).mono (fun _ _ e=>e) (fun _ e=>.inl e) (fun _ _=>rfl) (fun hl1 b hb=>⟨rfl,fun hf=>?_⟩)
   rcases hf with hf | hf
   ·exact h.free ⟨k,o1,v1,h1,hl1,hv1,hb⟩ hf
   ·exact h.sep k id o1 o v1 v b hne h1 ho hl1 hl hv1 hv hb hf
 ·rcases eG ho1 with ⟨rfl,rfl,_⟩ | ⟨_,h1⟩
  ·simp [Ob.live] at hl1
  ·rcases eG ho2 with ⟨rfl,rfl,_⟩ | ⟨_,h2⟩
   ·simp [Ob.live] at hl2
   ·exact h.sep k k' o1 o2 v1 v2 g hne h1 h2 hl1 hl2 hv1 hv2 hb1 hb2
 ·rcases hb with hb | hb
  ·exact h.lt b hb
  ·exact h.lt_own ⟨id,o,v,ho,hl,hv,hb⟩
theorem Dof.set_dead {aw:List Ob} {σ:List Value} {id b:Nat} (h:Dof (aw.set id .dead) σ b):Dof aw σ b:=by
 obtain ⟨k,o,v,ho,hl,hv,hb⟩:=h;rcases eG ho with ⟨rfl,rfl,_⟩ | ⟨_,h1⟩
 ·simp [Ob.live] at hl
 ·exact ⟨k,o,v,h1,hl,hv,hb⟩
theorem Mv.drop {aw:List Ob} {σ:List Value} {w:World} {F:Nat->Prop} (id:Nat) {o:Ob} {v:Value} (ho:aw[id]?=some o) (hl:o.live=true) (hv:σ[id]?=some v) :
  Mv aw σ w F (aw.set id .dead) σ w (fun b=>F b∨Bk o v b) :=
 ⟨rfl,rfl,drO,LM _,fun _ _ _=>rfl,fun _ _ h=>h,fun _ h=>.inl h,fun b hb=>hb.imp (fun h=>h) (fun e=>.inl ⟨id,o,v,ho,hl,hv,e⟩),fun _ h=>.inl h.set_dead⟩
theorem Sim.lose {aw:List Ob} {σ:List Value} {w:World} {F:Nat->Prop} (h:Sim aw σ w F) (id:Nat):Sim (aw.set id .dead) σ w F:=by
 refine ⟨by simp [h.len],fun k o1 v1 ho1 hv1=>?_,fun k k' o1 o2 v1 v2 g hne ho1 ho2 hl1 hl2 hv1 hv2 hb1 hb2=>?_,h.lt⟩
 ·rcases eG ho1 with ⟨rfl,rfl,_⟩ | ⟨hne,h1⟩
  ·trivial
  ·exact h.obj k o1 v1 h1 hv1
 ·rcases eG ho1 with ⟨rfl,rfl,_⟩ | ⟨_,h1⟩
  ·simp [Ob.live] at hl1
  ·rcases eG ho2 with ⟨rfl,rfl,_⟩ | ⟨_,h2⟩
   ·simp [Ob.live] at hl2
   ·exact h.sep k k' o1 o2 v1 v2 g hne h1 h2 hl1 hl2 hv1 hv2 hb1 hb2
theorem Sim.write {aw:List Ob} {σ:List Value} {w w':World} {F:Nat->Prop} (h:Sim aw σ w F) (id:Nat) {o:Ob} {v:Value} {b0:Nat} (ho:aw[id]?=some o) (hl:o.live=true) (hv:σ[id]?=some v) (hb0:Bk o v b0)
  (hk:∀ b,b≠b0->w'.heap[b]?=w.heap[b]?) (hs:w'.heap.size=w.heap.size) (o':Ob) (ho':ORel σ w' F o' v) (hsub:∀ b,Bk o' v b->Bk o v b):Sim (aw.set id o') σ w' F:=by
 have hF:∀ b,F b->w'.heap[b]?=w.heap[b]?:=fun b hb=>hk b (fun e=>h.free ⟨id,o,v,ho,hl,hv,hb0⟩ (e▸hb))
 refine ⟨by simp [h.len],fun k o1 v1 ho1 hv1=>?_,fun k k' o1 o2 v1 v2 g hne ho1 ho2 hl1 hl2 hv1 hv2 hb1 hb2=>?_,fun b hb=>by rw [hs];exact h.lt b hb⟩
 ·rcases eG ho1 with ⟨rfl,rfl,_⟩ | ⟨hne,h1⟩
  ·rw [hv] at hv1;cases hv1;exact ho'
  ·refine (h.obj k o1 v1 h1 hv1).mono (fun _ _ e=>e) (fun _ e=>e) hF (fun hl1 b hb=>⟨hk b (fun e=>?_),h.free ⟨k,o1,v1,h1,hl1,hv1,hb⟩⟩)
   subst e
   exact h.sep k id o1 o v1 v b hne h1 ho hl1 hl hv1 hv hb hb0
 ·have un:∀ (k:Nat) o1 v1,(aw.set id o')[k]?=some o1->o1.live=true->σ[k]?=some v1->∃ o2,aw[k]?=some o2/\o2.live=true/\∀ b,Bk o1 v1 b->Bk o2 v1 b:=fun k o1 v1 h1 hl1 hv1=>by
   rcases eG h1 with ⟨rfl,rfl,_⟩ | ⟨_,h2⟩
   ·rw [hv] at hv1;cases hv1;exact ⟨o,ho,hl,hsub⟩
   ·exact ⟨o1,h2,hl1,fun _ h=>h⟩
  obtain ⟨p1,q1,r1,z1⟩:=un k o1 v1 ho1 hl1 hv1
  obtain ⟨p2,q2,r2,z2⟩:=un k' o2 v2 ho2 hl2 hv2
  exact h.sep k k' p1 p2 v1 v2 g hne q1 q2 r1 r2 hv1 hv2 (z1 _ hb1) (z2 _ hb2)
theorem Mv.write {aw:List Ob} {σ:List Value} {w w':World} {F:Nat->Prop} (id:Nat) {o:Ob} {v:Value} {b0:Nat} (ho:aw[id]?=some o) (hl:o.live=true) (hv:σ[id]?=some v) (hb0:Bk o v b0)
  (hos:w'.os=w.os) (ht:w'.tape=w.tape) (hou:Drw w w')
  (hk:∀ b,b≠b0->w'.heap[b]?=w.heap[b]?) (hs:w'.heap.size=w.heap.size) (o':Ob) (hsub:∀ b,Bk o' v b->Bk o v b):Mv aw σ w F (aw.set id o') σ w' F:=by
 refine ⟨hos,ht,hou,by omega,fun b _ hd=>hk b (fun e=>hd (e▸⟨id,o,v,ho,hl,hv,hb0⟩)),fun _ _ h=>h,fun _ h=>h,fun _ h=>.inl h,fun b hb=>.inl ?_⟩
 obtain ⟨k,o1,v1,ho1,hl1,hv1,hb1⟩:=hb
 rcases eG ho1 with ⟨rfl,rfl,_⟩ | ⟨_,h2⟩
 ·rw [hv] at hv1;cases hv1;exact ⟨_,o,v,ho,hl,hv,hsub b hb1⟩
 ·exact ⟨k,o1,v1,h2,hl1,hv1,hb1⟩
structure St where
 aw:List Ob
 σ:List Value
 w:World
 F:Nat->Prop
 ds:List Deferred
structure Cur (s:St) (fr:List AV) (aw:List Ob) (σ:List Value) (w:World) (F:Nat->Prop) (a:Act):Prop where
 sim:Sim aw σ w F
 fr:ARel σ w F fr a
 mv:Mv s.aw s.σ s.w s.F aw σ w F
 ds:a.defers=s.ds
theorem Cur.step {s:St} {fr:List AV} {aw aw':List Ob} {σ σ':List Value} {w w':World} {F F':Nat->Prop} {a:Act} (h:Cur s fr aw σ w F a) (hs:Sim aw' σ' w' F') (hm:Mv aw σ w F aw' σ' w' F') :
 Cur s fr aw' σ' w' F' a:=⟨hs,hm.aRel h.sim h.fr,h.mv.trans hm,h.ds⟩
theorem Cur.put {s:St} {fr:List AV} {aw:List Ob} {σ:List Value} {w:World} {F:Nat->Prop} {a:Act} (h:Cur s fr aw σ w F a) {r:AV} {v:Value} (hr:Rel σ w F r v) (d:Option Tmp) :
 Cur s (match d with | some t=>fr.set t r | none=>fr) aw σ w F (a.put d v):=⟨h.sim,h.fr.put hr d,h.mv,by cases d<;>exact h.ds⟩
end
section
open Go.RowKit
def aT (P:Program) (t:TypeId):Option Bool:=(P.underlying t).map fun | .struct _ | .array _ _=>true | _=>false
def aI (P:Program) (t:TypeId):Option (List AV) :=
 ((P.info? t).bind (·.zero)).bind fun v=>if v.cells.toList.all (·.oneCell') then some (v.cells.toList.map AV.ofVal1) else none
def AV.cells:AV->Option (List AV)
 | .any | .tup _=>none
 | .agg cs=>some cs
 | .cst v=>if v.oneCell'=true then some [.cst v] else none
 | a=>some [a]
def splice (cs:List AV) (off:Nat) (vs:List AV):List AV:=cs.take off++vs++cs.drop (off+vs.length)
def pickV (t:Bool) (a b:AV):AV :=
 match a,b with
 | .bool x,.bool y=>.bool (if t then x else y)
 | .int k x,.int k' y=>if k=k' then .int k (if t then x else y) else if t then .int k x else .int k' y
 | a,b=>if t then a else b
def cj (P:Program) (t:TypeId) (row:List AV) (off:Nat) (K:AV->Prop):Prop :=
 match aT P t with
 | some true=>off+P.cellsOf t<=row.length/\K (.agg ((row.drop off).take (P.cellsOf t)))
 | some false=>(match row[off]? with | some c=>K c | none=>False)
 | none=>False
def dF (aw:List Ob):AV->AV × List Ob
 | .nils=>(.sl [],aw)
 | .ref id=>(match aw[id]? with | some (.arr _ _ rows)=>(.sl rows,aw.set id .dead) | _=>(.any,aw))
 | a=>(a,aw)
def norm0L (aw:List Ob):List AV->List AV × List Ob
 | []=>([],aw)
 | a::as₀=>let r:=dF aw a;let s:=norm0L r.2 as₀;(r.1::s.1,s.2)
def norm (aw:List Ob):AV->AV × List Ob
 | .agg cs=>(.agg (norm0L aw cs).1,(norm0L aw cs).2)
 | a=>dF aw a
def dE (aw:List Ob):List AV->List AV × List Ob
 | []=>([],aw)
 | a::as₀=>let r:=norm aw a;let s:=dE r.2 as₀;(r.1::s.1,s.2)
def vA:List AV->Bool
 | [.int .u8 _]=>true
 | _=>false
def qr:List AV->UInt8
 | [.int .u8 n]=>UInt8.ofNat n.toNat
 | _=>0
def gh:List AV->List AV->Option Bool
 | [],[]=>some true
 | .int _ a::l,.int _ b::m=>(gh l m).map fun r=>a==b && r
 | .str a::l,.str b::m=>(gh l m).map fun r=>a==b && r
 | .bool a::l,.bool b::m=>(gh l m).map fun r=>a==b && r
 | _,_=>none
def intBits (op:BinOp) (k:IntKind) (x y:Int):Int :=
 let a:=BitVec.ofInt k.bits x
 let b:=BitVec.ofInt k.bits y
 match op with
 | .and=>k.wrap (a &&& b).toNat
 | .or=>k.wrap (a ||| b).toNat
 | .xor=>k.wrap (a ^^^ b).toNat
 | _=>0
def AV.kd:AV->Nat
 | .int .i64 _=>1
 | .str _=>2
 | .bool _=>3
 | _=>0
def qj (P:Program) (t:TypeId) (ks:List Nat):Prop :=
 P.eqGuardType P.depth t=false/\∀ (σ:List Value) (w:World) (F:Nat->Prop) (x y:List AV) (vx vy:List Value) (r:Bool),x.map AV.kd=ks->y.map AV.kd=ks ->
  gh x y=some r->RelL σ w F x vx->RelL σ w F y vy->∀ w',(Op.equal t (.agg vx.toArray) (.agg vy.toArray)).run P w'=.ok r w'
def gC (P:Program) (op:BinOp) (t:TypeId) (a b:AV) (K:AV->Prop):Prop :=
 match a,b with
 | .int k x,.int k' y =>
  (match op with
  | .add=>k=k'/\K (.int k (k.wrap (x+y)))
  | .sub=>k=k'/\K (.int k (k.wrap (x - y)))
  | .mul=>k=k'/\K (.int k (k.wrap (x*y)))
  | .quo=>k=k'/\y≠0/\K (.int k (k.wrap (x.tdiv y)))
  | .rem=>k=k'/\y≠0/\K (.int k (x.tmod y))
  | .and=>k=k'/\K (.int k (intBits .and k x y))
  | .or=>k=k'/\K (.int k (intBits .or k x y))
  | .xor=>k=k'/\K (.int k (intBits .xor k x y))
  | .shl=>0<=y/\K (.int k (k.wrap (x*2 ^ (min y.toNat k.bits))))
  | .shr=>0<=y/\K (.int k (x.fdiv (2 ^ (min y.toNat k.bits))))
  | .eql=>k=k'/\K (.bool (x==y))
  | .neq=>k=k'/\K (.bool (x != y))
  | .lss=>k=k'/\K (.bool (decide (x<y)))
  | .leq=>k=k'/\K (.bool (decide (x<=y)))
  | .gtr=>k=k'/\K (.bool (decide (x > y)))
  | .geq=>k=k'/\K (.bool (decide (x >= y)))
  | _=>False)
 | .str x,.str y =>
  (match op with
  | .add=>x.length+y.length<=4611686018427387904/\K (.str (x++y))
  | .eql=>K (.bool (x==y))
  | .neq=>K (.bool (!(x==y)))
  | _=>False)
 | .bool x,.bool y =>
  (match op,P.underlying t with
  | .eql,some .bool=>K (.bool (x==y))
  | .neq,some .bool=>K (.bool (!(x==y)))
  | _,_=>False)
 | .nils,.nils=>(match op,P.underlying t with | .eql,some (.slice _)=>K (.bool true) | .neq,some (.slice _)=>K (.bool false) | _,_=>False)
 | .sl rows,.nils =>
  (match op,P.underlying t with
  | .eql,some (.slice _)=>∀ z:Bool,(z=true->rows=[])->K (.bool z)
  | .neq,some (.slice _)=>∀ z:Bool,(z=false->rows=[])->K (.bool z)
  | _,_=>False)
 | .agg x,.agg y =>
  (match op,gh x y with
  | .eql,some r=>x.map AV.kd=y.map AV.kd/\qj P t (x.map AV.kd)/\K (.bool r)
  | .neq,some r=>x.map AV.kd=y.map AV.kd/\qj P t (x.map AV.kd)/\K (.bool (!r))
  | _,_=>False)
 | .func _ _,.nilf=>(match op,P.underlying t with | .eql,some (.func _ _ _)=>K (.bool false) | .neq,some (.func _ _ _)=>K (.bool true) | _,_=>False)
 | .nilf,.nilf=>(match op,P.underlying t with | .eql,some (.func _ _ _)=>K (.bool true) | .neq,some (.func _ _ _)=>K (.bool false) | _,_=>False)
 | _,_=>False
def hJ (place:Nat->Option (Nat × Nat)) (cells:List AV):List (Nat × AV)->Option (List AV)
 | []=>some cells
 | (i,v)::rest =>
  match place i,v.cells with
  | some (off,size),some vs=>if vs.length=size/\off+size<=cells.length then hJ place (splice cells off vs) rest else none
  | _,_=>none
def cm (P:Program) (t:TypeId):Option (List (Nat × Nat)) :=
 match P.underlying t with
 | some (.struct fs)=>fs.toList.mapM fun f=>(P.info? f.type).map fun i=>(f.offset,i.size)
 | some (.array n e)=>(P.info? e).map fun i=>(List.range n).map fun k=>(k*i.size,i.size)
 | _=>none
def mc (P:Program) (size:Nat) (rows:List (List AV)):List (Nat × AV)->Option (List (List AV))
 | []=>some rows
 | (i,v)::rest =>
  match v.cells with
  | some vs=>if vs.length=size/\i<rows.length then mc P size (rows.set i vs) rest else none
  | none=>none
def vcB (P:Program) (fr:List AV) (aw:List Ob) (b:Builtin) (args:List Operand) (ats:List TypeId) (K:AV->Prop):Prop :=
 match b,args,ats with
 | .len,[x],[t] =>
  (match P.underlying t,ev fr x with
  | some .string,.str s=>K (.int .i64 s.length)
  | some (.slice _),.sl rows=>K (.int .i64 rows.length)
  | some (.slice _),.nils=>K (.int .i64 0)
  | some (.slice _),.ref id=>(match aw[id]? with | some (.arr _ _ rows)=>K (.int .i64 rows.length) | _=>False)
  | _,_=>False)
 | .min,[x,y],_=>(match ev fr x,ev fr y with | .int k a,.int _ b=>K (.int k (if b<a then b else a)) | _,_=>False)
 | .max,[x,y],_=>(match ev fr x,ev fr y with | .int k a,.int _ b=>K (.int k (if b > a then b else a)) | _,_=>False)
 | _,_,_=>False
def vcQ (P:Program) (fr:List AV) (aw:List Ob) (op:Op) (K:AV->Prop):Prop :=
 match op with
 | .move x | .assign x=>K (ev fr x)
 | .pick c a b=>(match ev fr c with | .bool t=>K (pickV t (ev fr a) (ev fr b)) | _=>False)
 | .load t x =>
  (match ev fr x with
  | .ptr id off=>(match aw[id]? with | some (.box cs)=>cj P t cs off K | _=>False)
  | .elt row off=>cj P t row off K
  | _=>False)
 | .fieldAddr t x k =>
  (match P.underlying t with
  | some (.struct fs)=>(match fs[k]? with
   | some f=>P.cellsOf f.type≠0/\(P.underlying f.type).isSome=true/\(match ev fr x with
    | .ptr id off=>K (.ptr id (off+f.offset))
    | .elt row off=>K (.elt row (off+f.offset))
    | .aptr id size i off=>K (.aptr id size i (off+f.offset))
    | _=>False)
   | none=>False)
  | _=>False)
 | .field t x k =>
  (match P.underlying t,ev fr x with
  | some (.struct fs),.agg cs=>(match fs[k]? with | some f=>cj P f.type cs f.offset K | none=>False)
  | _,_=>False)
 | .indexAddr t x i =>
  (match P.underlying t,ev fr x,ev fr i with
  | some (.slice e),.sl rows,.int _ n=>0<=n/\n<rows.length/\∀ row,rows[n.toNat]?=some row->row.length=P.cellsOf e/\(P.underlying e).isSome=true/\K (.elt row 0)
  | some (.slice e),.ref id,.int _ n=>(match aw[id]? with
   | some (.arr _ size rows)=>size=P.cellsOf e/\(P.underlying e).isSome=true/\0<=n/\n<rows.length/\K (.aptr id size n.toNat 0)
   | _=>False)
  | some (.array len e),.ptr id off,.int _ n=>(P.underlying e).isSome=true/\0<=n/\n<len/\1<len/\K (.ptr id (off+n.toNat*P.cellsOf e))
  | _,_,_=>False)
 | .index t x i =>
  (match P.underlying t,ev fr x,ev fr i with
  | some .string,.str s,.int _ n=>0<=n/\n<s.length/\∀ b,s[n.toNat]?=some b->K (.int .u8 b.toNat)
  | _,_,_=>False)
 | .slice t x lo hi none =>
  (match P.underlying t,ev fr x with
  | some .string,.str s =>
   (match (lo.map (ev fr)).getD (.int .i64 0),(hi.map (ev fr)).getD (.int .i64 s.length) with
   | .int _ l,.int _ h=>0<=l/\l<=h/\h<=s.length/\K (.str ((s.take h.toNat).drop l.toNat))
   | _,_=>False)
  | some (.slice e),.sl rows =>
   (match (lo.map (ev fr)).getD (.int .i64 0),(hi.map (ev fr)).getD (.int .i64 rows.length) with
   | .int _ l,.int _ h=>(P.underlying e).isSome=true/\(∀ row,row∈rows->row.length=P.cellsOf e)/\0<=l/\l<=h/\h<=rows.length/\K (.sl ((rows.take h.toNat).drop l.toNat))
   | _,_=>False)
  | _,_=>False)
 | .binOp op t x y _=>gC P op t (ev fr x) (ev fr y) K
 | .unOp op _ x =>
  (match op,ev fr x with
  | .not,.bool b=>K (.bool (!b))
  | .neg,.int k n=>K (.int k (k.wrap (0 - n)))
  | _,_=>False)
 | .convert s d x =>
  (match P.underlying s,P.underlying d,ev fr x with
  | some _,some (.int k),.int _ n=>K (.int k (k.wrap n))
  | _,_,_=>False)
 | .makeFunc (.func f) first caps=>(match first.toList with
  | []=>K (.func f (caps.toList.map (ev fr)))
  | x::xs=>caps.toList=[]/\K (.bnd f ((x::xs).map (ev fr))))
 | .build t parts=>(match aI P t,cm P t with
  | some z,some pl=>(match hJ (fun i=>pl[i]?) z (parts.toList.map fun p=>(p.1,ev fr p.2)) with | some cs=>K (.agg cs) | none=>False)
  | _,_=>False)
 | .extract x k=>(match ev fr x with | .tup vs=>(match vs[k]? with | some v=>K v | none=>False) | _=>False)
 | .nilCheck x=>(match ev fr x with | .ptr id off=>K (.ptr id off) | .elt row off=>K (.elt row off) | .aptr id s i off=>K (.aptr id s i off) | .func f cs=>K (.func f cs) | .bnd f cs=>K (.bnd f cs) | _=>False)
 | .call c=>(match c.callee with | .builtin b=>vcB P fr aw b c.args.toList c.argTypes.toList K | _=>False)
 | _=>False
def isQ (fr:List AV):Op->Bool
 | .move _ | .assign _ | .pick _ _ _ | .fieldAddr _ _ _ | .field _ _ _ | .indexAddr _ _ _ | .index _ _ _ | .binOp _ _ _ _ _ | .unOp _ _ _ | .makeFunc _ _ _ | .build _ _ | .extract _ _ | .nilCheck _=>true
 | .load _ x=>(match ev fr x with | .aptr _ _ _ _=>false | _=>true)
 | .slice _ x _ _ _=>(match ev fr x with | .ref _=>false | .nils=>false | _=>true)
 | .convert _ _ x=>(match ev fr x with | .int _ _=>true | _=>false)
 | .call { callee:=.builtin .len,.. } | .call { callee:=.builtin .min,.. } | .call { callee:=.builtin .max,.. }=>true
 | _=>false
def vcApp (P:Program) (fr:List AV) (aw:List Ob) (args:List Operand) (ats:List TypeId) (K:AV->List Ob->Prop):Prop :=
  match args,ats with
  | [x, y], [t,t'] =>
    t'=t/\(match P.underlying t with
    | some (.slice e)=>(match aI P e,ev fr x,norm aw (ev fr y) with
      | some z,.nils,(.sl rows,aw')=>z.length=P.cellsOf e/\0<P.cellsOf e/\(∀ row,row∈rows->row.length=P.cellsOf e)/\rows.length<=1099511627776/\P.bytesOf e<=128 /\
          K (.ref aw'.length) (aw'++[.arr e (P.cellsOf e) rows])
      | some z,.ref id,(.sl rows,aw')=>(match aw'[id]? with
        | some (.arr e' size old)=>e'=e/\size=P.cellsOf e/\z.length=P.cellsOf e/\0<P.cellsOf e/\(∀ row,row∈rows->row.length=P.cellsOf e)/\old.length+rows.length<=1099511627776/\P.bytesOf e<=128 /\
            K (.ref aw'.length) (aw'.set id .dead++[.arr e (P.cellsOf e) (old++rows)])
        | _=>False)
      | _,_,_=>False)
    | _=>False)
  | _,_=>False
def vcE (P:Program) (fr:List AV) (aw:List Ob) (op:Op) (K:AV->List Ob->Prop):Prop :=
 match op with
 | .alloc e=>(match aI P e with | some z=>K (.ptr aw.length 0) (aw++[.box z]) | none=>False)
 | .box _ x=>(match (ev fr x).cells with | some cs=>K (.ptr aw.length 0) (aw++[.box cs]) | none=>False)
 | .load t x =>
  (match ev fr x with
  | .aptr id size i off=>(match aw[id]? with
   | some (.arr _ size' rows)=>size'=size/\i<rows.length/\∀ row,rows[i]?=some row->cj P t row off fun r=>K r aw
   | _=>False)
  | _=>False)
 | .store t x y =>
  (match ev fr x,(ev fr y).cells with
  | .ptr id off,some vs=>(match aw[id]? with
   | some (.box cs)=>(P.underlying t).isSome=true/\vs.length=P.cellsOf t/\off+vs.length<=cs.length/\K .any (aw.set id (.box (splice cs off vs)))
   | _=>False)
  | .aptr id size i off,some vs=>(match aw[id]? with
   | some (.arr e size' rows)=>(P.underlying t).isSome=true/\size'=size/\vs.length=P.cellsOf t/\i<rows.length/\off+vs.length<=size /\
     ∀ row,rows[i]?=some row->K .any (aw.set id (.arr e size (rows.set i (splice row off vs))))
   | _=>False)
  | _,_=>False)
 | .slice t x lo hi none =>
  (match P.underlying t,norm aw (ev fr x) with
  | some (.slice e),(.sl rows,aw') =>
   (match (lo.map (ev fr)).getD (.int .i64 0),(hi.map (ev fr)).getD (.int .i64 rows.length) with
   | .int _ l,.int _ h=>(P.underlying e).isSome=true/\(∀ row,row∈rows->row.length=P.cellsOf e)/\0<=l/\l<=h/\h<=rows.length/\K (.sl ((rows.take h.toNat).drop l.toNat)) aw'
   | _,_=>False)
  | _,_=>False)
 | .convert s d x =>
  (match P.underlying s,P.underlying d,norm aw (ev fr x) with
  | some (.slice e),some .string,(.sl rows,aw')=>P.underlying e=some (.int .u8)/\rows.all vA=true/\K (.str (rows.map qr)) aw'
  | _,_,_=>False)
 | .buildSlice t len parts =>
  (match P.underlying t with
  | some (.slice e)=>(match aI P e with
   | some z=>z.length=P.cellsOf e/\0<P.cellsOf e/\len*P.cellsOf e<=2 ^ 24/\(match mc P (P.cellsOf e) (List.replicate len z) ((parts.toList.map (·.1)).zip (dE aw (parts.toList.map fun p=>ev fr p.2)).1) with
    | some rows=>K (.ref (dE aw (parts.toList.map fun p=>ev fr p.2)).2.length) ((dE aw (parts.toList.map fun p=>ev fr p.2)).2++[.arr e (P.cellsOf e) rows])
    | none=>False)
   | none=>False)
  | _=>False)
 | .makeSlice t l c =>
  (match P.underlying t,ev fr l,ev fr c with
  | some (.slice e),.int _ n,.int _ m=>(match aI P e with
   | some z=>z.length=P.cellsOf e/\0<P.cellsOf e/\0<=n/\n<=m/\(n=0∨n=m)/\P.bytesOf e*m.toNat<=281474976710656/\m.toNat<=maxLen /\
     K (.ref aw.length) (aw++[.arr e (P.cellsOf e) (List.replicate n.toNat z)])
   | none=>False)
  | _,_,_=>False)
 | .call c=>(match c.callee with | .builtin .append=>vcApp P fr aw c.args.toList c.argTypes.toList K | _=>False)
 | _=>False
def gB (P:Program) (fr:List AV) (aw:List Ob) (op:Op) (K:AV->List Ob->Prop):Prop :=
 if isQ fr op=true then vcQ P fr aw op (fun r=>K r aw) else vcE P fr aw op K
def Agr (aw:List Ob) (σ:List Value) (w:World) (F:Nat->Prop) (w':World):Prop :=
 ∀ b,(F b∨∃ (k:Nat) (cs:List AV) (v:Value),aw[k]?=some (Ob.box cs)/\σ[k]?=some v/\blk v=some b)->w'.heap[b]?=w.heap[b]?
def QOk (P:Program) (G:World->Prop) (σ:List Value) (w:World) (F:Nat->Prop) (c:Sem Value) (K:AV->Prop):Prop :=
 ∃ v r,(∀ w',G w'->c.run P w'=.ok v w')/\Rel σ w F r v/\K r
def OpOk (P:Program) (aw:List Ob) (σ:List Value) (w:World) (F:Nat->Prop) (c:Sem Next) (K:AV->List Ob->Prop):Prop :=
 ∃ v n w' aw' σ' F' r,c.run P w=.ok n w'/\(n=.value v∨(n=.skip/\v=undef))/\Sim aw' σ' w' F'/\Mv aw σ w F aw' σ' w' F'/\Rel σ' w' F' r v/\K r aw'
theorem run_v {P:Program} {w w':World} {s:Sem Value} {v:Value} (h:s.run P w=.ok v w'):(do let x <- s;pure (Next.value x):Sem Next).run P w=.ok (.value v) w':=by simp [Sem.run_bind,h]
end
section
open Go.RowKit
section
variable {P:Program} {σ:List Value} {w:World} {F:Nat→Prop} {aw:List Ob}
theorem DD {t:TypeId} {d:TypeDesc} (h:P.underlying t=some d):∃ i,P.info? t=some i/\P.cellsOf t=i.size/\P.bytesOf t=i.bytes:=by
 unfold Program.underlying at h;cases hi:P.info? t with
 | none=>rw [hi] at h;simp at h
 | some i=>exact ⟨i,rfl,by simp [Program.cellsOf,hi],by simp [Program.bytesOf,hi]⟩
theorem eg {t:TypeId} {d:TypeDesc} (h:P.underlying t=some d) (w:World):(sizeOf t).run P w=.ok (P.cellsOf t) w:=by obtain ⟨i,hi,hs,_⟩:=DD h;simp [sizeOf,typeInfo,hi,hs,Sem.run_bind]
theorem pV {t:TypeId} {b:Bool} (h:aT P t=some b):∃ d,P.underlying t=some d/\∀ w,(isAgg t).run P w=.ok b w:=by
 unfold aT at h;cases hu:P.underlying t with
 | none=>rw [hu] at h;simp at h
 | some d =>
  refine ⟨d,rfl,fun w=>?_⟩;rw [hu] at h;unfold isAgg;rw [Sem.run_bind,run_underlying hu w];cases d<;>simp_all
theorem nT {t:TypeId} {z:List AV} (h:aI P t=some z):∃ i v,P.info? t=some i/\i.zero=some v/\v.cells.toList.length=z.length/\(∀ u,u∈v.cells.toList->u.oneCell'=true) /\
  ∀ σ w F,RelL σ w F z v.cells.toList:=by
 unfold aI at h
 cases hi:P.info? t with
 | none=>rw [hi] at h;simp at h
 | some i =>
  rw [hi] at h
  cases hz:i.zero with
  | none=>simp [hz] at h
  | some v =>
   simp only [hz,LF] at h
   split at h
   ·rename_i h1
    simp at h
    subst h
    refine ⟨i,v,rfl,hz,by simp,fun u hu=>Mz.1 h1 u hu,fun σ w F=>⟨by simp,fun j a u ha hu=>?_⟩⟩
    rw [LT,hu] at ha
    simp at ha
    subst ha
    exact Rel.ofVal1 σ w F u
   ·simp at h
theorem tV {t:TypeId} {i:TypeInfo} {v:Value} (hi:P.info? t=some i) (hz:i.zero=some v) (w:World):(zeroValue t).run P w=.ok v w:=by simp [zeroValue,typeInfo,hi,hz,Sem.run_bind]
theorem Rel.cells {a:AV} {v:Value} {cs:List AV} (h:Rel σ w F a v) (hc:a.cells=some cs):RelL σ w F cs v.cells.toList/\∀ u,u∈v.cells.toList->u.oneCell'=true:=by
 have single:∀ (u:Value),Rel σ w F a u->u.cells=#[u]->u.oneCell'=true->cs=[a]->RelL σ w F cs u.cells.toList/\∀ x,x∈u.cells.toList->x.oneCell'=true:=by intro u hu e1 e2 e3;rw [e1,e3];exact ⟨.cons hu .nil,fun x hx=>by simp at hx;subst hx;exact e2⟩
 cases h with
 | any v=>simp [AV.cells] at hc
 | tup cs vs h hc'=>simp [AV.cells] at hc
 | agg cs' vs h h1 hc' =>
  simp [AV.cells] at hc;subst hc;exact ⟨⟨by simpa [Value.cells] using h,fun j a u ha hu=>hc' j a u ha (by simpa [Value.cells] using hu)⟩,by simpa [Value.cells] using h1⟩
 | int k n=>simp [AV.cells] at hc;exact single _ (.int k n) rfl rfl hc.symm
 | bool b=>simp [AV.cells] at hc;exact single _ (.bool b) rfl rfl hc.symm
 | str s=>simp [AV.cells] at hc;exact single _ (.str s) rfl rfl hc.symm
 | nils=>simp [AV.cells] at hc;exact single _ .nils rfl rfl hc.symm
 | slNil=>simp [AV.cells] at hc;exact single _ .slNil rfl rfl hc.symm
 | sl rows size ad c u hF hn hm hrow hone hcell hrel=>simp [AV.cells] at hc;exact single _ (.sl rows size ad c u hF hn hm hrow hone hcell hrel) rfl rfl hc.symm
 | ref id a n c h=>simp [AV.cells] at hc;exact single _ (.ref id a n c h) rfl rfl hc.symm
 | ptr id off g h=>simp [AV.cells] at hc;exact single _ (.ptr id off g h) rfl rfl hc.symm
 | elt row off ad u hF hone hcell hrel=>simp [AV.cells] at hc;exact single _ (.elt row off ad u hF hone hcell hrel) rfl rfl hc.symm
 | aptr id size i off g n c h=>simp [AV.cells] at hc;exact single _ (.aptr id size i off g n c h) rfl rfl hc.symm
 | func f cs' vs h hc'=>simp [AV.cells] at hc;exact single _ (.func f cs' vs h hc') rfl rfl hc.symm
 | bnd f cs' vs h hc'=>simp [AV.cells] at hc;exact single _ (.bnd f cs' vs h hc') rfl rfl hc.symm
 | nilf=>simp [AV.cells] at hc;exact single _ .nilf rfl rfl hc.symm
 | nilp=>simp [AV.cells] at hc;exact single _ .nilp rfl rfl hc.symm
 | nili=>simp [AV.cells] at hc;exact single _ .nili rfl rfl hc.symm
 | mpr id r h=>simp [AV.cells] at hc;exact single _ (.mpr id r h) rfl rfl hc.symm
 | np0 id=>simp [AV.cells] at hc;exact single _ (.np0 id) rfl rfl hc.symm
 | npS id g h=>simp [AV.cells] at hc;exact single _ (.npS id g h) rfl rfl hc.symm
 | ifc t a v h=>simp [AV.cells] at hc;exact single _ (.ifc t a v h) rfl rfl hc.symm
 | cst v =>
  simp only [AV.cells] at hc;split at hc
  ·rename_i h1;cases hc;have e1:v.cells=#[v]:=by cases v<;>first | rfl | simp [Value.oneCell'] at h1
   exact single v (.cst v) e1 h1 rfl
  ·cases hc
 | vw id size lo n N C cap A B h hn hA hk hz=>simp [AV.cells] at hc;exact single _ (.vw id size lo n N C cap A B h hn hA hk hz) rfl rfl hc.symm
 | ref2 id a n c vs h h0=>simp [AV.cells] at hc;exact single _ (.ref2 id a n c vs h h0) rfl rfl hc.symm
 | aptr2 id i g n c vs h h0=>simp [AV.cells] at hc;exact single _ (.aptr2 id i g n c vs h h0) rfl rfl hc.symm
 | iref id i a n c vs h h0=>simp [AV.cells] at hc;exact single _ (.iref id i a n c vs h h0) rfl rfl hc.symm
theorem Agr.cell {w':World} (h:Agr aw σ w F w') {ad:Addr} (hb:F ad.block) (j:Nat):w'.cell? (ad.add j)=w.cell? (ad.add j) :=
 World.cell?_of_block (w:=w) (by rw [nz];exact h _ (.inl hb))
theorem fc (g off:Nat):(⟨g,0,none⟩:Addr).add off=⟨g,off,none⟩:=by
 unfold Addr.add;split
 ·rename_i h;subst h;rfl
 ·simp
theorem ur {σ':List Value} {w0:World} {F':Nat->Prop} {t:TypeId} {row:List AV} {off:Nat} {K:AV->Prop} {ad:Addr} {u:Nat->Value} (hone:∀ j,j<row.length->(u j).oneCell'=true)
  (hcell:∀ w',Agr aw σ w F w'->∀ j,j<row.length->w'.cell? (ad.add j)=some (u j)) (hrel:∀ (j:Nat) x,row[j]?=some x->Rel σ' w0 F' x (u j)) (h:cj P t row off K) :
  ∃ v r,(∀ w',Agr aw σ w F w'->(loadVar t (ad.add off)).run P w'=.ok v w')/\Rel σ' w0 F' r v/\K r:=by
 unfold cj at h
 split at h
 ·rename_i hk
  obtain ⟨hlen,hK⟩:=h
  obtain ⟨d,hu,hagg⟩:=pV hk
  refine ⟨.agg ((List.range (P.cellsOf t)).map fun j=>u (off+j)).toArray,_,fun w' hw'=>?_,?_,hK⟩
  ·have hl:=run_loadCells_list (P:=P) w' (ad.add off) ((List.range (P.cellsOf t)).map fun j=>u (off+j)) (fun j v hj=>by
    rw [LT] at hj;cases hr:(List.range (P.cellsOf t))[j]? with
    | none=>rw [hr] at hj;simp at hj
    | some k =>
     rw [hr] at hj;obtain ⟨hlt,rfl⟩:=LH.1 hr;simp at hj hlt ⊢;subst hj;rw [iz];exact hcell w' hw' _ (by omega))
   simp only [LS,List.length_range] at hl
   simp [loadVar,Sem.run_bind,hagg,eg hu,hl]
  ·refine .agg _ _ (by simp;omega) (fun x hx=>?_) (fun j c x hc hx=>?_)
   ·simp at hx
    obtain ⟨j,hj,rfl⟩:=hx
    exact hone _ (by omega)
   ·rw [Mo] at hc
    split at hc
    ·rename_i hlt
     rw [Ml] at hc
     simp [LT,Ni hlt] at hx
     subst hx
     exact hrel _ _ hc
    ·simp at hc
 ·rename_i hk
  obtain ⟨d,hu,hagg⟩:=pV hk
  split at h
  ·rename_i c hc
   have hlt:=(LH.1 hc).1
   exact ⟨u off,c,fun w' hw'=>by simp [loadVar,Sem.run_bind,hagg,hcell w' hw' off hlt],hrel _ _ hc,h⟩
  ·exact h.elim
 ·exact h.elim
variable {G:World→Prop}
theorem FN {t:TypeId} {row:List AV} {off:Nat} {K:AV->Prop} {vs:List Value} (hone:∀ u,u∈vs->u.oneCell'=true) (hrel:RelL σ w F row vs) (h:cj P t row off K) :
  QOk P G σ w F (part t vs.toArray off) K:=by
 unfold cj at h
 split at h
 ·rename_i hk
  obtain ⟨hlen,hK⟩:=h
  obtain ⟨d,hu,hagg⟩:=pV hk
  refine ⟨.agg ((vs.drop off).take (P.cellsOf t)).toArray,_,fun w' _=>?_,?_,hK⟩
  ·simp [part,Sem.run_bind,hagg,eg hu,List.extract_eq_take_drop]
  ·have h2:=hrel.sub off (P.cellsOf t)
   exact .agg _ _ h2.1 (fun u hu'=>hone u (MH (LX hu'))) h2.2
 ·rename_i hk
  obtain ⟨d,hu,hagg⟩:=pV hk
  split at h
  ·rename_i c hc
   obtain ⟨u,hu1,hr⟩:=hrel.get hc
   exact ⟨u,c,fun w' _=>by simp [part,Sem.run_bind,hagg,hu1],hr,h⟩
  ·exact h.elim
 ·exact h.elim
theorem QOk.const {c:Sem Value} {K:AV->Prop} {v:Value} {r:AV} (hrun:∀ w',c.run P w'=.ok v w') (hr:Rel σ w F r v) (hK:K r):QOk P G σ w F c K:=⟨v,r,fun w' _=>hrun w',hr,hK⟩
theorem QOk.mk' {c:Sem Value} {K:AV->Prop} {v:Value} {r:AV} (hK:K r) (hr:Rel σ w F r v) (hrun:∀ w',c.run P w'=.ok v w'):QOk P G σ w F c K:=⟨v,r,fun w' _=>hrun w',hr,hK⟩
theorem pS (s:List UInt8):(ByteArray.mk s.toArray).size=s.length:=by simp [ByteArray.size]
theorem rS (s:List UInt8):(ByteArray.mk s.toArray).toList=s:=by rw [ByteArray.toList_eq]
theorem Gf (x y:List UInt8):ByteArray.mk x.toArray++ByteArray.mk y.toArray=ByteArray.mk (x++y).toArray:=by apply ByteArray.ext;simp
theorem G9 {x y:List UInt8} (h:x.length+y.length<=4611686018427387904):¬ (((ByteArray.mk x.toArray).size+(ByteArray.mk y.toArray).size:Nat):Int) > IntKind.i64.max:=by rw [pS,pS];simp [IntKind.max,IntKind.signed,IntKind.bits];omega
theorem HA (d:Nat) {t e:TypeId} (hu:P.underlying t=some (.slice e)) (a:Option Addr) (n c:Nat) (w:World):(Op.equalIn (d+1) t (.slice a n c) (.slice none 0 0)).run P w=.ok a.isNone w:=by cases a<;>simp [Op.equalIn,Sem.run_bind,run_underlying hu]
theorem IY (d:Nat) {t:TypeId} {p r:Array TypeId} {b:Bool} (hu:P.underlying t=some (.func p r b)) (f:Fn) (x y:Array Value) (w:World):(Op.equalIn (d+1) t (.func f x y) .nilFunc).run P w=.ok false w:=by simp [Op.equalIn,Sem.run_bind,run_underlying hu]
theorem Iu (d:Nat) {t:TypeId} {p r:Array TypeId} {b:Bool} (hu:P.underlying t=some (.func p r b)) (w:World):(Op.equalIn (d+1) t .nilFunc .nilFunc).run P w=.ok true w:=by simp [Op.equalIn,Sem.run_bind,run_underlying hu]
theorem BH {t:TypeId} (hu:P.underlying t=some .bool) (a b:Bool) (w:World):(Op.equal t (.bool a) (.bool b)).run P w=.ok (a==b) w:=run_equalIn_bool' w 9999 t a b hu
theorem ou {t e:TypeId} (hu:P.underlying t=some (.slice e)) (a:Option Addr) (n c:Nat) (w:World):(Op.equal t (.slice a n c) (.slice none 0 0)).run P w=.ok a.isNone w:=HA 9999 hu a n c w
theorem eq_fn {t:TypeId} {p r:Array TypeId} {b:Bool} (hu:P.underlying t=some (.func p r b)) (f:Fn) (x y:Array Value) (w:World):(Op.equal t (.func f x y) .nilFunc).run P w=.ok false w:=IY 9999 hu f x y w
theorem eq_nf {t:TypeId} {p r:Array TypeId} {b:Bool} (hu:P.underlying t=some (.func p r b)) (w:World):(Op.equal t .nilFunc .nilFunc).run P w=.ok true w:=Iu 9999 hu w
theorem Hz {op:BinOp} {t:TypeId} {x y:Operand} {a b:AV} {va vb:Value} {K:AV->Prop} (ha:Rel σ w F a va) (hb:Rel σ w F b vb) (h:gC P op t a b K) :
  QOk P G σ w F (do eqGuard op t x y va vb;binOp op t va vb) K:=by
 unfold gC at h
 split at h
 ·cases ha;cases hb
  split at h<;>(try exact h.elim)
  ·obtain ⟨rfl,h⟩:=h;exact .mk' h (.int _ _) (fun w'=>by simp [eqGuard,binOp,Op.intArith,Sem.run_bind])
  ·obtain ⟨rfl,h⟩:=h;exact .mk' h (.int _ _) (fun w'=>by simp [eqGuard,binOp,Op.intArith,Sem.run_bind])
  ·obtain ⟨rfl,h⟩:=h;exact .mk' h (.int _ _) (fun w'=>by simp [eqGuard,binOp,Op.intArith,Sem.run_bind])
  ·obtain ⟨rfl,h0,h⟩:=h;exact .mk' h (.int _ _) (fun w'=>by simp [eqGuard,binOp,Op.intDiv,Sem.run_bind,h0])
  ·obtain ⟨rfl,h0,h⟩:=h;exact .mk' h (.int _ _) (fun w'=>by simp [eqGuard,binOp,Op.intDiv,Sem.run_bind,h0])
  ·obtain ⟨rfl,h⟩:=h;exact .mk' h (.int _ _) (fun w'=>by simp [eqGuard,binOp,Op.intBits,intBits,Sem.run_bind])
  ·obtain ⟨rfl,h⟩:=h;exact .mk' h (.int _ _) (fun w'=>by simp [eqGuard,binOp,Op.intBits,intBits,Sem.run_bind])
  ·obtain ⟨rfl,h⟩:=h;exact .mk' h (.int _ _) (fun w'=>by simp [eqGuard,binOp,Op.intBits,intBits,Sem.run_bind])
  ·obtain ⟨h0,h⟩:=h;exact .mk' h (.int _ _) (fun w'=>by simp [eqGuard,binOp,Op.shift,Sem.run_bind,Int.not_lt.2 h0])
  ·obtain ⟨h0,h⟩:=h;exact .mk' h (.int _ _) (fun w'=>by simp [eqGuard,binOp,Op.shift,Sem.run_bind,Int.not_lt.2 h0])
  ·obtain ⟨rfl,h⟩:=h;exact .mk' h (.bool _) (fun w'=>by simp [eqGuard,binOp,Op.intCmp,Sem.run_bind])
  ·obtain ⟨rfl,h⟩:=h;exact .mk' h (.bool _) (fun w'=>by simp [eqGuard,binOp,Op.intCmp,Sem.run_bind])
  ·obtain ⟨rfl,h⟩:=h;exact .mk' h (.bool _) (fun w'=>by simp [eqGuard,binOp,Op.intCmp,Sem.run_bind])
  ·obtain ⟨rfl,h⟩:=h;exact .mk' h (.bool _) (fun w'=>by simp [eqGuard,binOp,Op.intCmp,Sem.run_bind])
  ·obtain ⟨rfl,h⟩:=h;exact .mk' h (.bool _) (fun w'=>by simp [eqGuard,binOp,Op.intCmp,Sem.run_bind])
  ·obtain ⟨rfl,h⟩:=h;exact .mk' h (.bool _) (fun w'=>by simp [eqGuard,binOp,Op.intCmp,Sem.run_bind])
 ·cases ha;cases hb
  split at h<;>(try exact h.elim)
  ·obtain ⟨h0,h⟩:=h
   exact .mk' h (.str _) (fun w'=>by simp only [eqGuard,binOp,Op.stringOp,Sem.run_bind,Sem.run_pure,Result.andThen_ok,if_neg (G9 h0),Gf];rfl)
  ·exact .mk' h (.bool _) (fun w'=>by simp [eqGuard,binOp,Op.stringOp,Sem.run_bind,rS])
  ·exact .mk' h (.bool _) (fun w'=>by simp [eqGuard,binOp,Op.stringOp,Sem.run_bind,rS])
 ·cases ha;cases hb
  split at h<;>(try exact h.elim)
  ·rename_i hu
   exact .mk' h (.bool _) (fun w'=>by simp [eqGuard,binOp,Sem.run_bind,BH hu])
  ·rename_i hu
   exact .mk' h (.bool _) (fun w'=>by simp [eqGuard,binOp,Sem.run_bind,BH hu])
 ·cases ha;cases hb
  split at h<;>(try exact h.elim)
  ·rename_i hu
   exact .mk' h (.bool _) (fun w'=>by simp [eqGuard,binOp,Sem.run_bind,ou hu])
  ·rename_i hu
   exact .mk' h (.bool _) (fun w'=>by simp [eqGuard,binOp,Sem.run_bind,ou hu])
 ·cases hb
  split at h<;>(try exact h.elim)
  ·rename_i hu
   cases ha with
   | slNil=>exact .mk' (h true (fun _=>rfl)) (.bool _) (fun w'=>by simp [eqGuard,binOp,Sem.run_bind,ou hu])
   | sl=>exact .mk' (h false (fun e=>by cases e)) (.bool _) (fun w'=>by simp [eqGuard,binOp,Sem.run_bind,ou hu])
  ·rename_i hu
   cases ha with
   | slNil=>exact .mk' (h false (fun _=>rfl)) (.bool _) (fun w'=>by simp [eqGuard,binOp,Sem.run_bind,ou hu])
   | sl=>exact .mk' (h true (fun e=>by cases e)) (.bool _) (fun w'=>by simp [eqGuard,binOp,Sem.run_bind,ou hu])
 ·cases ha with
  | agg cs vs hl h1 hc=>cases hb with
   | agg cs' vs' hl' h1' hc' =>
    split at h<;>(try exact h.elim)
    ·rename_i hq
     obtain ⟨hk,⟨hg,hS⟩,h⟩:=h
     exact .mk' h (.bool _) (fun w'=>by have:=hS σ w F _ _ vs vs' _ rfl hk.symm hq ⟨hl,hc⟩ ⟨hl',hc'⟩ w';simp [eqGuard,binOp,Sem.run_bind,hg,this])
    ·rename_i hq
     obtain ⟨hk,⟨hg,hS⟩,h⟩:=h
     exact .mk' h (.bool _) (fun w'=>by have:=hS σ w F _ _ vs vs' _ rfl hk.symm hq ⟨hl,hc⟩ ⟨hl',hc'⟩ w';simp [eqGuard,binOp,Sem.run_bind,hg,this])
 ·cases ha;cases hb
  split at h<;>(try exact h.elim)
  ·rename_i hu
   exact .mk' h (.bool _) (fun w'=>by simp [eqGuard,binOp,Sem.run_bind,eq_fn hu])
  ·rename_i hu
   exact .mk' h (.bool _) (fun w'=>by simp [eqGuard,binOp,Sem.run_bind,eq_fn hu])
 ·cases ha;cases hb
  split at h<;>(try exact h.elim)
  ·rename_i hu
   exact .mk' h (.bool _) (fun w'=>by simp [eqGuard,binOp,Sem.run_bind,eq_nf hu])
  ·rename_i hu
   exact .mk' h (.bool _) (fun w'=>by simp [eqGuard,binOp,Sem.run_bind,eq_nf hu])
 ·exact h.elim
theorem JB {fr:List AV} {a:Act} (ha:ARel σ w F fr a) (hs:Sim aw σ w F) {b:Builtin} {args:Array Operand} {ats:Array TypeId} {ty:TypeId} {K:AV->Prop} (h:vcB P fr aw b args.toList ats.toList K) :
  ∃ v r,(∀ cs w',(builtin b ats ty cs (args.map a.eval)).run P w'=.ok (.value v) w')/\Rel σ w F r v/\K r:=by
 obtain ⟨args⟩:=args
 obtain ⟨ats⟩:=ats
 simp only at h
 unfold vcB at h
 split at h
 ·rename_i x t
  have hx:=ha.ev x
  split at h
  ·rename_i hu hx'
   rw [hx'] at hx
   cases hv:a.eval x<;>rw [hv] at hx<;>cases hx
   refine ⟨_,_,fun cs w'=>?_,.int _ _,h⟩
   simp [builtin,Builtin.len_,Sem.run_bind,run_underlying hu,hv,goInt,pS]
  ·rename_i hu hx'
   rw [hx'] at hx
   cases hv:a.eval x<;>rw [hv] at hx<;>cases hx
   ·refine ⟨_,_,fun cs w'=>?_,.int _ _,h⟩
    simp [builtin,Builtin.len_,Sem.run_bind,run_underlying hu,hv,goInt]
   ·refine ⟨_,_,fun cs w'=>?_,.int _ _,h⟩
    simp [builtin,Builtin.len_,Sem.run_bind,run_underlying hu,hv,goInt]
  ·rename_i hu hx'
   rw [hx'] at hx
   cases hv:a.eval x<;>rw [hv] at hx<;>cases hx
   refine ⟨_,_,fun cs w'=>?_,.int _ _,h⟩
   simp [builtin,Builtin.len_,Sem.run_bind,run_underlying hu,hv,goInt]
  ·rename_i id hu hx'
   rw [hx'] at hx
   split at h
   ·rename_i e size rows ho
    cases hv:a.eval x<;>rw [hv] at hx<;>cases hx
    rename_i ad n c hσ
    obtain ⟨fl,hown,_,_⟩:=hs.obj id _ _ ho hσ
    have hn:n=rows.length:=by
     rcases hown.2 with ⟨e1,e2⟩ | ⟨g,cap,cur,e1,_⟩
     ·injection e1 with e3 e4;omega
     ·injection e1 with e3 e4
    subst hn
    refine ⟨_,_,fun cs w'=>?_,.int _ _,h⟩
    simp [builtin,Builtin.len_,Sem.run_bind,run_underlying hu,hv,goInt]
   ·exact h.elim
  ·exact h.elim
 ·rename_i _ x y
  split at h
  ·rename_i hx' hy'
   have hx:=ha.ev x
   have hy:=ha.ev y
   rw [hx'] at hx
   rw [hy'] at hy
   cases hv:a.eval x<;>rw [hv] at hx<;>cases hx
   cases hv':a.eval y<;>rw [hv'] at hy<;>cases hy
   refine ⟨_,_,fun cs w'=>?_,.int _ _,h⟩
   simp [builtin,Builtin.min_,Builtin.min2,Sem.run_bind,hv,hv']
  ·exact h.elim
 ·rename_i _ x y
  split at h
  ·rename_i hx' hy'
   have hx:=ha.ev x
   have hy:=ha.ev y
   rw [hx'] at hx
   rw [hy'] at hy
   cases hv:a.eval x<;>rw [hv] at hx<;>cases hx
   cases hv':a.eval y<;>rw [hv'] at hy<;>cases hy
   refine ⟨_,_,fun cs w'=>?_,.int _ _,h⟩
   simp [builtin,Builtin.max_,Builtin.max2,Sem.run_bind,hv,hv']
  ·exact h.elim
 ·exact h.elim
end
end
section
open Go.RowKit
section
variable {P:Program} {σ:List Value} {w:World} {F:Nat→Prop} {aw:List Ob} {G:World→Prop}
def NOk (P:Program) (G:World->Prop) (σ:List Value) (w:World) (F:Nat->Prop) (c:Sem Next) (K:AV->Prop):Prop :=
 ∃ v r,(∀ w',G w'->c.run P w'=.ok (.value v) w')/\Rel σ w F r v/\K r
theorem QOk.n {c:Sem Value} {K:AV->Prop} (h:QOk P G σ w F c K):NOk P G σ w F (do let x <- c;pure (Next.value x)) K:=by obtain ⟨v,r,h1,h2,h3⟩:=h;exact ⟨v,r,fun w' hw=>run_v (h1 w' hw),h2,h3⟩
theorem NOk.mk' {c:Sem Next} {K:AV->Prop} {v:Value} {r:AV} (hK:K r) (hr:Rel σ w F r v) (hrun:∀ w',c.run P w'=.ok (.value v) w'):NOk P G σ w F c K:=⟨v,r,fun w' _=>hrun w',hr,hK⟩
theorem QOk.of_run {c c':Sem Value} {K:AV->Prop} (h:QOk P G σ w F c K) (he:∀ w',c'.run P w'=c.run P w'):QOk P G σ w F c' K:=by obtain ⟨v,r,h1,h2,h3⟩:=h;exact ⟨v,r,fun w' hw=>(he w').trans (h1 w' hw),h2,h3⟩
theorem tX {ad:Addr} {f:Field} {d:TypeDesc} (hu:P.underlying f.type=some d) (h0:P.cellsOf f.type≠0) (w:World):(fieldPlace ad f).run P w=.ok (ad.add f.offset) w:=by simp [fieldPlace,Sem.run_bind,eg hu,h0]
theorem BT {fr:List AV} {a:Act} (ha:ARel σ w F fr a) (hs:Sim aw σ w F) {t:TypeId} {x:Operand} {K:AV->Prop} (h:vcQ P fr aw (.load t x) K):QOk P (Agr aw σ w F) σ w F (Instr.loadAt t (a.eval x)) K:=by
 simp only [vcQ] at h;have hx:=ha.ev x;split at h
 ·rename_i id off e;rw [e] at hx;split at h
  ·rename_i cs ho;cases hv:a.eval x<;>rw [hv] at hx<;>cases hx;rename_i g hσ;obtain ⟨g',vs,ty,e1,hg,hr,h1,hf⟩:=hs.obj id _ _ ho hσ;injection e1 with e1
   injection e1 with e1
   injection e1 with e1
   subst e1;have hq:QOk P (Agr aw σ w F) σ w F _ K:=ur (P:=P) (aw:=aw) (σ:=σ) (w:=w) (F:=F) (ad:=⟨g,0,none⟩) (u:=fun j=>vs.toList.getD j undef) (row:=cs) (fun j hj=>h1 _ (by
     have:j<vs.toList.length:=by rw [hr.1];exact hj
     rw [LL,LG this];simp only [Ns];exact NN.2 (Mk _)))
    (fun w' hw' j hj=>by
     have hlt:j<vs.toList.length:=by rw [hr.1];exact hj
     have hb:w'.heap[g]?=w.heap[g]?:=hw' g (.inr ⟨id,cs,_,ho,hσ,rfl⟩);rw [fc,cell_of_row w' g j vs ty (0,0) (hb.trans hg)];have:vs[j]?=some (vs.toList[j]):=by simp at hlt ⊢
     rw [this,LL,LG hlt,Ns])
    (fun j c hc=>by obtain ⟨v,hv,hrel⟩:=hr.get hc;rw [LL,hv];exact hrel) h
   rw [fc] at hq;exact hq.of_run (fun w'=>by simp [Instr.loadAt,Instr.sureAddr,Sem.run_bind])
  ·exact h.elim
 ·rename_i row off e;rw [e] at hx;cases hv:a.eval x<;>rw [hv] at hx<;>cases hx;rename_i ad u hF hone hcell hrel;have hq:QOk P (Agr aw σ w F) σ w F _ K:=ur (P:=P) (aw:=aw) (ad:=ad) (u:=u) hone (fun w' hw' j hj=>by
   rw [hw'.cell (hF (by rintro rfl;simp at hj)) j];exact hcell j hj) hrel h
  exact hq.of_run (fun w'=>by simp [Instr.loadAt,Instr.sureAddr,Sem.run_bind])
 ·exact h.elim
theorem EB {fr:List AV} {a:Act} (ha:ARel σ w F fr a) {t:TypeId} {x:Operand} {k:Nat} {K:AV->Prop} (h:vcQ P fr aw (.fieldAddr t x k) K):QOk P G σ w F (Instr.fieldAt t (a.eval x) k) K:=by
 simp only [vcQ] at h;have hx:=ha.ev x;split at h
 ·rename_i fs hu;split at h
  ·rename_i f hf;obtain ⟨h0,hs,h⟩:=h;obtain ⟨d,hd⟩:=L5.1 hs;split at h
   ·rename_i id off e;rw [e] at hx;cases hv:a.eval x<;>rw [hv] at hx<;>cases hx;rename_i g hσ;refine .mk' h (.ptr id (off+f.offset) g hσ) (fun w'=>?_);have e:(⟨g,off,none⟩:Addr).add f.offset=⟨g,off+f.offset,none⟩:=by rw [<- fc,iz,fc]
    simp [Instr.fieldAt,Instr.sureAddr,Sem.run_bind,run_underlying hu,hf,tX hd h0,e]
   ·rename_i row off e;rw [e] at hx;cases hv:a.eval x<;>rw [hv] at hx<;>cases hx;rename_i ad u hF hone hcell hrel;refine .mk' h (.elt row (off+f.offset) ad u hF hone hcell hrel) (fun w'=>?_);simp [Instr.fieldAt,Instr.sureAddr,Sem.run_bind,run_underlying hu,hf,tX hd h0,iz]
   ·rename_i id size i off e;rw [e] at hx;cases hv:a.eval x<;>rw [hv] at hx<;>cases hx;rename_i g n c hσ;refine .mk' h (.aptr id size i (off+f.offset) g n c hσ) (fun w'=>?_);have e:(⟨g,i*size+off,none⟩:Addr).add f.offset=⟨g,i*size+(off+f.offset),none⟩:=by rw [<- fc,iz,fc,Np]
    simp [Instr.fieldAt,Instr.sureAddr,Sem.run_bind,run_underlying hu,hf,tX hd h0,e]
   ·exact h.elim
  ·exact h.elim
 ·exact h.elim
theorem EP {fr:List AV} {a:Act} (ha:ARel σ w F fr a) (hs:Sim aw σ w F) {t:TypeId} {x i:Operand} {K:AV->Prop} (h:vcQ P fr aw (.indexAddr t x i) K):QOk P G σ w F (Instr.indexAt t (a.eval x) (a.eval i)) K:=by
 simp only [vcQ] at h;have hx:=ha.ev x;have hi:=ha.ev i;split at h
 ·rename_i e rows k n hu ex ei;rw [ex] at hx;rw [ei] at hi;obtain ⟨h0,h1,h⟩:=h;cases hvi:a.eval i<;>rw [hvi] at hi<;>cases hi;have hlt:n.toNat<rows.length:=by omega
  generalize a.eval x=vx at hx ⊢;cases hx with
  | slNil=>simp at hlt
  | sl _ size ad c u hF hn hm hrow hone hcell hrel =>
   obtain ⟨h2,h3,h⟩:=h rows[n.toNat] (LG hlt);obtain ⟨d,hd⟩:=L5.1 h3;have hsz:size=P.cellsOf e:=by rw [<- h2];exact (hrow _ (Mk _)).symm
   have hne:rows≠[]:=by rintro rfl;simp at hlt
   refine .mk' h (v:=.pointer (some ((ad.add (n.toNat*size)).add 0))) (.elt rows[n.toNat] 0 (ad.add (n.toNat*size)) (u n.toNat) (fun _=>by rw [nz];exact hF hne)
    (fun j hj=>hone _ _ hlt (by rw [h2] at hj;omega)) (fun j hj=>by rw [iz];exact hcell _ _ hlt (by rw [h2] at hj;omega)) (fun j y hy=>hrel _ _ _ _ (LG hlt) hy)) (fun w'=>?_)
   have e0:(ad.add (n.toNat*size)).add 0=ad.add (n.toNat*size):=by simp [Addr.add]
   rw [e0,hsz];simp [Instr.indexAt,asIntOf,Sem.run_bind,run_underlying hu,eg hd,h0,h1]
 ·rename_i e id k n hu ex ei;rw [ex] at hx;rw [ei] at hi;split at h
  ·rename_i e' size rows ho;obtain ⟨h2,h3,h0,h1,h⟩:=h;obtain ⟨d,hd⟩:=L5.1 h3;cases hvi:a.eval i<;>rw [hvi] at hi<;>cases hi;cases hv:a.eval x<;>rw [hv] at hx<;>cases hx;rename_i ad n' c hσ;obtain ⟨fl,hown,_,_⟩:=hs.obj id _ _ ho hσ;rcases hown.2 with ⟨e1,e2⟩ | ⟨g,cap,cur,e1,_⟩
   ·omega
   ·injection e1 with e1 e2 e3
    subst e1;subst e2;subst e3;refine .mk' h (.aptr id size n.toNat 0 g _ _ hσ) (fun w'=>?_);rw [MB];have e4:(⟨g,0,none⟩:Addr).add (n.toNat*size)=⟨g,n.toNat*size,none⟩:=fc _ _;rw [h2] at e4 ⊢;simp [Instr.indexAt,asIntOf,Sem.run_bind,run_underlying hu,eg hd,h0,h1,e4]
  ·exact h.elim
 ·rename_i len e id off k n hu ex ei;rw [ex] at hx;rw [ei] at hi;obtain ⟨h3,h0,h1,h2,h⟩:=h;obtain ⟨d,hd⟩:=L5.1 h3;cases hvi:a.eval i<;>rw [hvi] at hi<;>cases hi;cases hv:a.eval x<;>rw [hv] at hx<;>cases hx;rename_i g hσ;refine .mk' h (.ptr id (off+n.toNat*P.cellsOf e) g hσ) (fun w'=>?_);have e4:(⟨g,off,none⟩:Addr).add (n.toNat*P.cellsOf e)=⟨g,off+n.toNat*P.cellsOf e,none⟩:=by rw [<- fc,iz,fc]
  simp [Instr.indexAt,asIntOf,Sem.run_bind,run_underlying hu,eg hd,h0,h1,e4,Instr.sureAddr]
 ·exact h.elim
theorem Ij {fr:List AV} {a:Act} (ha:ARel σ w F fr a) {t:TypeId} {x i:Operand} {K:AV->Prop} (h:vcQ P fr aw (.index t x i) K):QOk P G σ w F (Instr.index t (a.eval x) (a.eval i)) K:=by
 simp only [vcQ] at h;have hx:=ha.ev x;have hi:=ha.ev i;split at h
 ·rename_i s k n hu ex ei;rw [ex] at hx;rw [ei] at hi;obtain ⟨h0,h1,h⟩:=h;have hlt:n.toNat<s.length:=by omega
  cases hvi:a.eval i<;>rw [hvi] at hi<;>cases hi;cases hv:a.eval x<;>rw [hv] at hx<;>cases hx;refine .mk' (h _ (LG hlt)) (.int _ _) (fun w'=>?_);have e:(ByteArray.mk s.toArray)[n.toNat]?=some s[n.toNat]:=by rw [getElem?_pos (ByteArray.mk s.toArray) n.toNat (by rw [pS];exact hlt)];rfl
  simp [Instr.index,asIntOf,Sem.run_bind,run_underlying hu,h0,e]
 ·exact h.elim
theorem nH {fr:List AV} {a:Act} (ha:ARel σ w F fr a) {lo hi:Option Operand} {b:Bool} {len cap:Nat} {kl kh:IntKind} {l h:Int} (el:(lo.map (ev fr)).getD (.int .i64 0)=.int kl l)
  (eh:(hi.map (ev fr)).getD (.int .i64 len)=.int kh h) (h0:0<=l) (h1:l<=h) (h2:h<=len) (h3:len<=cap) (w':World) :
  (Instr.sliceBounds b len cap (lo.map a.eval) (hi.map a.eval) none).run P w'=.ok (l.toNat,h.toNat,cap) w':=by
 have get:∀ (z:Operand) (k:IntKind) (n:Int),ev fr z=.int k n->a.eval z=.int k n:=by intro z k n e;have hz:=ha.ev z;rw [e] at hz;generalize a.eval z=vz at hz ⊢;cases hz;rfl
 cases hi with
 | none =>
  simp at eh
  obtain ⟨_,rfl⟩:=eh
  cases lo with
  | none =>
   simp at el
   obtain ⟨_,rfl⟩:=el
   simp [Instr.sliceBounds,Sem.run_bind]
  | some z =>
   simp at el
   simp [Instr.sliceBounds,Sem.run_bind,get z _ _ el,run_sliceBound,h0,h1]
 | some y =>
  simp at eh
  have b1:∀ code w',(Instr.sliceBound (.int kh h) cap code).run P w'=.ok h.toNat w':=fun code w'=>run_sliceBound (P:=P) w' kh h cap code (by omega) (by omega)
  cases lo with
  | none =>
   simp at el
   obtain ⟨_,rfl⟩:=el
   simp [Instr.sliceBounds,Sem.run_bind,get y _ _ eh,b1]
  | some z =>
   simp at el
   have b2:∀ code w',(Instr.sliceBound (.int kl l) h.toNat code).run P w'=.ok l.toNat w':=fun code w'=>run_sliceBound (P:=P) w' kl l h.toNat code h0 (by omega)
   simp [Instr.sliceBounds,Sem.run_bind,get y _ _ eh,get z _ _ el,b1,b2]
theorem Rel.piece {rows:List (List AV)} {e l h:Nat} {A:Option Addr} {n c:Nat} (hr:Rel σ w F (.sl rows) (.slice A n c)) (hsz:∀ row,row∈rows->row.length=e) (h1:l<=h) (h2:h<=rows.length) :
  n=rows.length/\n<=c/\Rel σ w F (.sl ((rows.take h).drop l)) (.slice (if c=l then A else A.map (·.add (l*e))) (h - l) (c - l)):=by
 cases hr with
 | slNil =>
  have:h=0:=by simpa using h2
  subst this
  have:l=0:=by omega
  subst this
  exact ⟨rfl,LM _,by simpa using Rel.slNil⟩
 | sl _ size ad _ u hF hn hm hrow hone hcell hrel =>
  refine ⟨rfl,hn,?_⟩
  have hlen:((rows.take h).drop l).length=h - l:=by simp;omega
  by_cases hcl:c=l
  ·have hz:h - l=0:=by omega
   have hnil:(rows.take h).drop l=[]:=LR (by rw [hlen,hz])
   rw [if_pos hcl,hnil,hz]
   exact .sl [] 0 ad (c - l) u (fun h=>absurd rfl h) (MA _) (by omega) (fun _ h=>by simp at h) (fun i j hi=>by simp at hi) (fun i j hi=>by simp at hi) (fun i row j x hi=>by simp at hi)
  ·rw [if_neg hcl,MQ]
   have hget:∀ (i:Nat) row,((rows.take h).drop l)[i]?=some row->rows[l+i]?=some row:=fun i row hi=>by
    rw [Ml,Mo] at hi;split at hi
    ·exact hi
    ·simp at hi
   have hh:=Rel.sl (σ:=σ) (w:=w) (F:=F) ((rows.take h).drop l) size (ad.add (l*e)) (c - l) (fun i j=>u (l+i) j)
    (fun hne=>by rw [nz];exact hF (by rintro rfl;simp at hne)) (by rw [hlen];omega) (by omega)
    (fun row hr=>hrow row (LX (MH hr)))
    (fun i j hi hj=>hone _ _ (by rw [hlen] at hi;omega) hj)
    (fun i j hi hj=>by
     rw [hlen] at hi;have hlt:l<rows.length:=by omega
     have:size=e:=(hrow _ (Mk hlt)).symm.trans (hsz _ (Mk hlt));subst this;rw [iz,<- Np,<- Ma];exact hcell _ _ (by omega) hj)
    (fun i row j x hi hx=>hrel _ _ _ _ (hget i row hi) hx)
   rw [hlen] at hh
   exact hh
theorem IK {fr:List AV} {a:Act} (ha:ARel σ w F fr a) {t:TypeId} {x:Operand} {lo hi:Option Operand} {K:AV->Prop} (h:vcQ P fr aw (.slice t x lo hi none) K) :
  QOk P G σ w F (Instr.sliceAt t (a.eval x) (lo.map a.eval) (hi.map a.eval) none) K:=by
 simp only [vcQ] at h
 have hx:=ha.ev x
 split at h
 ·rename_i s hu ex
  rw [ex] at hx
  split at h
  ·rename_i kl l kh hh el eh
   obtain ⟨h0,h1,h2,h⟩:=h
   generalize a.eval x=vx at hx ⊢
   cases hx
   refine .mk' h (.str _) (fun w'=>?_)
   have b:=fun w'=>nH (P:=P) ha (b:=false) (cap:=s.length) el eh h0 h1 h2 (LM _) w'
   have e:(ByteArray.mk s.toArray).extract l.toNat hh.toNat=ByteArray.mk ((s.take hh.toNat).drop l.toNat).toArray:=by apply ByteArray.ext;simp [List.extract_eq_take_drop,List.drop_take]
   simp [Instr.sliceAt,Instr.slice,Sem.run_bind,run_underlying hu,pS,b,e]
  ·exact h.elim
 ·rename_i e rows hu ex
  rw [ex] at hx
  split at h
  ·rename_i kl l kh hh el eh
   obtain ⟨hsome,hrow,h0,h1,h2,h⟩:=h
   obtain ⟨d,hd⟩:=L5.1 hsome
   generalize a.eval x=vx at hx ⊢
   have hform:∃ A n c,vx=.slice A n c:=by cases hx<;>exact ⟨_,_,_,rfl⟩
   obtain ⟨A,n,c,rfl⟩:=hform
   obtain ⟨hn,hnc,hr⟩:=hx.piece (l:=l.toNat) (h:=hh.toNat) hrow (by omega) (by omega)
   subst hn
   refine .mk' h hr (fun w'=>?_)
   have b:=fun w'=>nH (P:=P) ha (b:=true) (cap:=c) el eh h0 h1 h2 hnc w'
   simp [Instr.sliceAt,Instr.slice,Sem.run_bind,run_underlying hu,b,eg hd]
  ·exact h.elim
 ·exact h.elim
theorem IL {fr:List AV} {a:Act} (ha:ARel σ w F fr a) {t:TypeId} {x:Operand} {k:Nat} {K:AV->Prop} (h:vcQ P fr aw (.field t x k) K):QOk P G σ w F (Instr.field t (a.eval x) k) K:=by
 simp only [vcQ] at h;have hx:=ha.ev x;split at h
 ·rename_i fs cs hu ex;rw [ex] at hx;split at h
  ·rename_i f hf;generalize a.eval x=vx at hx ⊢;cases hx with
   | agg _ vs hl h1 hc =>
    exact (FN (P:=P) h1 ⟨hl,hc⟩ h).of_run (fun w'=>by simp [Instr.field,asAgg,Sem.run_bind,run_underlying hu,hf])
  ·exact h.elim
 ·exact h.elim
theorem Jy {fr:List AV} {a:Act} (ha:ARel σ w F fr a) {op:UnOp} {t:TypeId} {x:Operand} {K:AV->Prop} (h:vcQ P fr aw (.unOp op t x) K):QOk P G σ w F (Op.unary op (a.eval x)) K:=by
 simp only [vcQ] at h;have hx:=ha.ev x;split at h
 ·rename_i b ex;rw [ex] at hx;generalize a.eval x=vx at hx ⊢;cases hx;exact .mk' h (.bool _) (fun w'=>by simp [Op.unary])
 ·rename_i k n ex;rw [ex] at hx;generalize a.eval x=vx at hx ⊢;cases hx;exact .mk' h (.int _ _) (fun w'=>by simp [Op.unary,Op.intArith])
 ·exact h.elim
theorem GL {fr:List AV} {a:Act} (ha:ARel σ w F fr a) {s d:TypeId} {x:Operand} {K:AV->Prop} (h:vcQ P fr aw (.convert s d x) K):QOk P G σ w F (convert s d (a.eval x)) K:=by
 simp only [vcQ] at h;have hx:=ha.ev x;split at h
 ·rename_i ds k k' n hs hd ex;rw [ex] at hx;generalize a.eval x=vx at hx ⊢;cases hx;exact .mk' h (.int _ _) (fun w'=>by simp [convert,Sem.run_bind,run_underlying hs,run_underlying hd,Conv.intToInt])
 ·exact h.elim
theorem GF {fr:List AV} {a:Act} (ha:ARel σ w F fr a) {x:Operand} {k:Nat} {K:AV->Prop} (h:vcQ P fr aw (.extract x k) K):QOk P G σ w F (Instr.extract (a.eval x) k) K:=by
 simp only [vcQ] at h;have hx:=ha.ev x;split at h
 ·rename_i vs ex;rw [ex] at hx;split at h
  ·rename_i v hv;generalize a.eval x=vx at hx ⊢;cases hx with
   | tup _ us hl hc =>
    obtain ⟨u,hu,hr⟩:=RelL.get ⟨hl,hc⟩ hv;exact .mk' h hr (fun w'=>by simp [Instr.extract,hu])
  ·exact h.elim
 ·exact h.elim
theorem jm {fr:List AV} {a:Act} (ha:ARel σ w F fr a) (xs:List Operand):RelL σ w F (xs.map (ev fr)) (xs.map a.eval):=by
 induction xs with
 | nil=>exact .nil
 | cons x xs ih=>exact .cons (ha.ev x) ih
theorem Fz {fr:List AV} {a:Act} (ha:ARel σ w F fr a) {fn:Fn} {first caps:Array Operand} {K:AV->Prop} (h:vcQ P fr aw (.makeFunc fn first caps) K) :
  QOk P G σ w F (Instr.makeFunc fn (first.map a.eval) (caps.map a.eval)) K:=by
 cases fn<;>simp only [vcQ] at h<;>try exact h.elim
 obtain ⟨first⟩:=first
 obtain ⟨caps⟩:=caps
 cases first with
 | nil =>
  have hr:=jm ha caps
  refine .mk' h (.func _ _ (caps.map a.eval) hr.1 hr.2) (fun w'=>?_)
  simp [Instr.makeFunc]
 | cons x xs =>
  obtain ⟨h0,h⟩:=h
  simp only at h0
  subst h0
  have hr:=jm ha (x::xs)
  refine .mk' h (.bnd _ _ ((x::xs).map a.eval) hr.1 hr.2) (fun w'=>?_)
  simp [Instr.makeFunc]
theorem RelL.take {as₀:List AV} {vs:List Value} (h:RelL σ w F as₀ vs) (n:Nat):RelL σ w F (as₀.take n) (vs.take n):=by simpa using h.sub 0 n
theorem RelL.drop {as₀:List AV} {vs:List Value} (h:RelL σ w F as₀ vs) (n:Nat):RelL σ w F (as₀.drop n) (vs.drop n):=by refine ⟨by simp [h.1],fun j a v ha hv=>?_⟩;rw [Ml] at ha hv;exact h.2 _ a v ha hv
def cW (cs:List Value) (off:Nat) (vs:List Value):List Value:=cs.take off++vs++cs.drop (off+vs.length)
theorem RelL.splice {as₀ bs:List AV} {vs us:List Value} (h:RelL σ w F as₀ vs) (off:Nat) (k:RelL σ w F bs us):RelL σ w F (splice as₀ off bs) (cW vs off us):=by unfold Go.Proofs.YtnlmagdmmjkklaaGreat.splice cW;rw [k.1];exact ((h.take off).append k).append (h.drop _)
theorem rW {vs us:List Value} {off:Nat} (h1:∀ u,u∈vs->u.oneCell'=true) (h2:∀ u,u∈us->u.oneCell'=true):∀ u,u∈cW vs off us->u.oneCell'=true:=by
 intro u hu;simp only [cW,LZ] at hu;rcases hu with (hu | hu) | hu
 ·exact h1 u (LX hu)
 ·exact h2 u hu
 ·exact h1 u (MH hu)
theorem zk (off:Nat):∀ (vs:List Value) (k:Nat) (cells:Array Value),off+k+vs.length<=cells.size ->
  ((vs.zipIdx k).foldl (fun cs p=>cs.setIfInBounds (off+p.2) p.1) cells).toList=cW cells.toList (off+k) vs
 | [],k,cells,_=>by simp [cW]
 | v::vs,k,cells,h=>by
  simp only [List.zipIdx_cons,List.foldl_cons];rw [zk off vs (k+1) _ (by simp at h ⊢;omega)];simp only [cW,Array.toList_setIfInBounds,LW];apply MZ;intro j;simp only [LW] at h;rw [Mr,Mr,Mr,Mr];simp only [LI,L8,MR,LW,M3];rcases Nat.lt_trichotomy j (off+k) with hj | hj | hj
  ·rw [if_pos (by omega),if_pos (by omega),if_pos (by omega),if_pos (by omega),Mo,Mo,if_pos (by omega),if_pos (by omega),LY,if_neg (by omega)]
  ·rw [if_pos (by omega),if_pos (by omega),if_pos (by omega),if_neg (by omega),Mo,if_pos (by omega),LY];have hlt:off+k<cells.toList.length:=by simp;omega
   simp [hj,hlt,MI (show off+k<=cells.size by omega)];omega
  ·by_cases h2:j<off+k+1+vs.length
   ·rw [if_pos (by omega),if_neg (by omega),if_pos (by omega),if_neg (by omega)];rw [MI (show off+(k+1)<=cells.size by omega),MI (show off+k<=cells.size by omega)];have:j - (off+k)=(j - (off+(k+1)))+1:=by omega
    rw [this,List.getElem?_cons_succ]
   ·rw [if_neg (by omega),if_neg (by omega),Ml,Ml,LY,if_neg (by omega)];rw [MI (show off+(k+1)<=cells.size by omega),MI (show off+k<=cells.size by omega)];congr 1;omega
theorem u0 {pl place:Nat->Option (Nat × Nat)} (hp:∀ i x,pl i=some x->place i=some x):∀ (ps:List (Nat × AV)) (vs:List (Nat × Value)) (cs cs':List AV) (cells:Array Value),
  vs.map (·.1)=ps.map (·.1)->RelL σ w F (ps.map (·.2)) (vs.map (·.2))->RelL σ w F cs cells.toList->(∀ u,u∈cells.toList->u.oneCell'=true)->hJ pl cs ps=some cs' ->
  ∃ cells',Instr.fill place cells vs=some cells'/\RelL σ w F cs' cells'.toList/\(∀ u,u∈cells'.toList->u.oneCell'=true)
 | [],vs,cs,cs',cells,he,_,hr,h1,hf=>by
  have:vs=[]:=by simpa using he
  subst this;simp only [hJ,Ng] at hf;subst hf;exact ⟨cells,rfl,hr,h1⟩
 | (i,x)::ps,[],_,_,_,he,_,_,_,_=>by simp at he
 | (i,x)::ps,(i',v)::vs,cs,cs',cells,he,ha,hr,h1,hf=>by
  simp only [Mn,Nl] at he;obtain ⟨rfl,he⟩:=he;have hx:Rel σ w F x v:=ha.2 0 x v rfl rfl;have ha':RelL σ w F (ps.map (·.2)) (vs.map (·.2)):=⟨by simpa using ha.1,fun j a u hj hu=>ha.2 (j+1) a u (by simpa using hj) (by simpa using hu)⟩
  simp only [hJ] at hf;split at hf
  ·rename_i off size xs hpl hxs;split at hf
   ·rename_i hc;obtain ⟨hr2,h2⟩:=hx.cells hxs;have hsz:v.cells.size=size:=by have:=hr2.1;simp at this;omega
    have hcl:cells.size=cs.length:=by simpa using hr.1
    have hset:=zk off v.cells.toList 0 cells (by simp;omega);rw [MB] at hset;have e1:(v.cells.zipIdx.foldl (fun cs p=>cs.setIfInBounds (off+p.2) p.1) cells)=(v.cells.toList.zipIdx.foldl (fun cs p=>cs.setIfInBounds (off+p.2) p.1) cells):=by rw [<- Array.foldl_toList,Array.toList_zipIdx]
    obtain ⟨cells',hfill,hrel,hone⟩:=u0 hp ps vs (splice cs off xs) cs' (v.cells.zipIdx.foldl (fun cs p=>cs.setIfInBounds (off+p.2) p.1) cells) he ha'
     (by rw [e1,hset];exact hr.splice off hr2) (by rw [e1,hset];exact rW h1 h2) hf
    refine ⟨cells',?_,hrel,hone⟩;simp only [Instr.fill,hp _ _ hpl];rw [if_neg (by simp [hsz];omega)];exact hfill
   ·cases hf
  ·cases hf
theorem I1 {fr:List AV} {a:Act} (ha:ARel σ w F fr a) {t:TypeId} {parts:Array (Nat × Operand)} {K:AV->Prop} (h:vcQ P fr aw (.build t parts) K) :
  QOk P G σ w F (Instr.build t (parts.map fun p=>(p.1,a.eval p.2))) K:=by
 simp only [vcQ] at h
 split at h
 ·rename_i z pl hz hpl
  split at h
  ·rename_i cs hcs
   obtain ⟨i,v,hi,hiz,hzl,hz1,hzr⟩:=nT hz
   have hargs:RelL σ w F ((parts.toList.map fun p=>(p.1,ev fr p.2)).map (·.2)) ((parts.toList.map fun p=>(p.1,a.eval p.2)).map (·.2)):=by have:=jm ha (parts.toList.map (·.2));simpa [Nc,Function.comp_def] using this
   have done:∀ (place:Nat->Option (Nat × Nat)),(∀ i x,pl[i]?=some x->place i=some x)->(∀ cells,Instr.fill place v.cells (parts.toList.map fun p=>(p.1,a.eval p.2))=some cells->P.built t (parts.map fun p=>(p.1,a.eval p.2)).toList=some cells) ->
     QOk P G σ w F (Instr.build t (parts.map fun p=>(p.1,a.eval p.2))) K:=by
    intro place hp hb
    obtain ⟨cells,hf,hr,h1⟩:=u0 (σ:=σ) (w:=w) (F:=F) (place:=place) hp _ (parts.toList.map fun p=>(p.1,a.eval p.2)) z cs v.cells (by simp) hargs (hzr σ w F) hz1 hcs
    have hrel:=Rel.agg (σ:=σ) (w:=w) (F:=F) cs cells.toList hr.1 h1 hr.2
    rw [Array.toArray_toList] at hrel
    exact .mk' h hrel (fun w'=>run_build w' t _ cells (hb cells hf))
   unfold cm at hpl
   cases hu:P.underlying t with
   | none=>rw [hu] at hpl;simp at hpl
   | some d =>
    rw [hu] at hpl
    cases d<;>try (simp at hpl;done)
    ·rename_i n e
     simp only [L6] at hpl
     obtain ⟨ie,hie,rfl⟩:=hpl
     refine done (fun k=>some (k*ie.size,ie.size)) (fun k x hk=>?_) (fun cells hf=>?_)
     ·rw [LT] at hk
      cases hr:(List.range n)[k]? with
      | none=>rw [hr] at hk;simp at hk
      | some m =>
       obtain ⟨_,rfl⟩:=LH.1 hr
       rw [hr] at hk
       simpa using hk
     ·simpa [Program.built,hi,hu,hiz,hie] using hf
    ·rename_i fs
     simp only at hpl
     refine done (fun k=>pl[k]?) (fun k x hk=>hk) (fun cells hf=>?_)
     simpa [Program.built,hi,hu,hiz,hpl] using hf
  ·exact h.elim
 ·exact h.elim
theorem AY {fr:List AV} {a:Act} (ha:ARel σ w F fr a) (hs:Sim aw σ w F) (o:Oper) {K:AV->Prop} (hG:(∃ t x,o.op=.load t x)->∀ w',G w'->Agr aw σ w F w') (h:vcQ P fr aw o.op K):NOk P G σ w F (execOp a.eval o) K:=by
  obtain ⟨dst,op,type,pos,after,guard⟩:=o;simp only at h;cases op with
  | move x=>exact .mk' (show K _ from h) (ha.ev x) (fun w'=>by simp [execOp])
  | assign x=>exact .mk' (show K _ from h) (ha.ev x) (fun w'=>by simp [execOp])
  | pick c x y =>
    simp only [vcQ] at h;have hc:=ha.ev c;split at h
    · rename_i b ec;rw [ec] at hc;have hrun:∀ w',(execOp a.eval { dst,op:=.pick c x y,type,pos,after,guard }).run P w'=.ok (.value (if b then a.eval x else a.eval y)) w':=by
        generalize hvc:a.eval c=vc at hc;cases hc;intro w';cases b<;>simp [execOp,hvc,asBool,Sem.run_bind]
      refine .mk' h ?_ hrun;have hx:=ha.ev x;have hy:=ha.ev y;unfold pickV;split
      · rename_i e1 e2;rw [e1] at hx;rw [e2] at hy;generalize a.eval x=vx at hx ⊢;generalize a.eval y=vy at hy ⊢;cases hx;cases hy;cases b<;>exact .bool _
      · rename_i e1 e2;rw [e1] at hx;rw [e2] at hy;generalize a.eval x=vx at hx ⊢;generalize a.eval y=vy at hy ⊢;cases hx;cases hy;split
        · rename_i hk;subst hk;cases b<;>exact .int _ _
        · cases b<;>exact .int _ _
      · cases b
        · exact hy
        · exact hx
    · exact h.elim
  | load t x=>obtain ⟨v,r,h1,h2,h3⟩:=(BT ha hs h).n;exact ⟨v,r,fun w' hw=>h1 w' (hG ⟨t,x,rfl⟩ w' hw),h2,h3⟩
  | fieldAddr t x k=>exact (EB ha h).n
  | field t x k=>exact (IL ha h).n
  | indexAddr t x i=>exact (EP ha hs h).n
  | index t x i=>exact (Ij ha h).n
  | slice t x lo hi mx =>
    cases mx with
    | none=>exact (IK ha h).n
    | some m=>exact (show False from h).elim
  | binOp op t x y yt=>exact (Hz (x:=x) (y:=y) (ha.ev x) (ha.ev y) h).n
  | unOp op t x=>exact (Jy ha h).n
  | convert s d x=>exact (GL ha h).n
  | makeFunc fn first caps=>exact (Fz ha h).n
  | build t parts=>exact (I1 ha h).n
  | extract x k=>exact (GF ha h).n
  | nilCheck x =>
    simp only [vcQ] at h;have hx:=ha.ev x;split at h;all_goals
      first
      | exact h.elim
      | (rename_i e;rw [e] at hx
         refine .mk' h hx (fun w'=>?_)
         generalize hv:a.eval x=vx at hx
         cases hx
         simp [execOp,hv])
  | call c =>
    obtain ⟨callee,args,ats⟩:=c;cases callee with
    | builtin b =>
      obtain ⟨v,r,h1,h2,h3⟩:=JB (ty:=type) ha hs h;exact .mk' h3 h2 (fun w'=>by simpa [execOp,resolve,invoke,Sem.run_bind] using h1 _ w')
    | value f=>exact (show False from h).elim
    | invoke r m=>exact (show False from h).elim
  | _=>exact (show False from h).elim
theorem vu {fr:List AV} {a:Act} (ha:ARel σ w F fr a) (hs:Sim aw σ w F) (o:Oper) {K:AV->Prop} (h:vcQ P fr aw o.op K):NOk P (Agr aw σ w F) σ w F (execOp a.eval o) K:=AY ha hs o (fun _ _ h=>h) h
theorem IE {fr:List AV} {a:Act} (ha:ARel σ w F fr a) (hs:Sim aw σ w F) (o:Oper) {K:AV->Prop} (hn:∀ t x,o.op≠.load t x) (h:vcQ P fr aw o.op K):NOk P (fun _=>True) σ w F (execOp a.eval o) K :=
 AY ha hs o (fun ⟨t,x,e⟩=>absurd e (hn t x)) h
end
end
section
open Go.RowKit
section
variable {P:Program} {σ:List Value} {w:World} {F:Nat→Prop} {aw:List Ob}
theorem uM (hs:Sim aw σ w F) (cs:List AV) (vs:Array Value) (ty:TypeId) (hr:RelL σ w F cs vs.toList) (h1:∀ u,u∈vs.toList->u.oneCell'=true) :
  Sim (aw++[.box cs]) (σ++[.pointer (some ⟨w.heap.size,0,none⟩)]) (w.alloc (.cells vs ty)) F /\
  Mv aw σ w F (aw++[.box cs]) (σ++[.pointer (some ⟨w.heap.size,0,none⟩)]) (w.alloc (.cells vs ty)) F /\
  Rel (σ++[.pointer (some ⟨w.heap.size,0,none⟩)]) (w.alloc (.cells vs ty)) F (.ptr aw.length 0) (.pointer (some ⟨w.heap.size,0,none⟩)):=by
 have hk:∀ b,b<w.heap.size->(w.alloc (.cells vs ty)).heap[b]?=w.heap[b]?:=fun b hb=>Below.heap_alloc w _ b hb
 have hn:∀ b,Bk (.box cs) (.pointer (some ⟨w.heap.size,0,none⟩)) b->w.heap.size<=b:=fun b hb=>by simp [Bk,blk] at hb;omega
 refine ⟨hs.push _ _ hk (by simp) ?_ hn,.push hs _ _ rfl rfl drO hk (by simp) hn,.ptr _ _ _ (by rw [<- hs.len];simp)⟩
 refine ⟨w.heap.size,vs,ty,rfl,heap_alloc_new w _,hr.mono (fun _ _ e=>eF e) (fun _ h=>h) (fun b hb=>hk b (hs.lt b hb)),fun u hu=>h1 u (NN.1 hu),fun hF=>?_⟩
 have:=hs.lt _ hF;omega
theorem Ic {fr:List AV} {a:Act} {e:TypeId} (hs:Sim aw σ w F) {K:AV->List Ob->Prop} (h:vcE P fr aw (.alloc e) K) (o:Oper) (ho:o.op=.alloc e):OpOk P aw σ w F (execOp a.eval o) K:=by
 simp only [vcE] at h;split at h
 ·rename_i z hz;obtain ⟨i,v,hi,hiz,hzl,hz1,hzr⟩:=nT hz;obtain ⟨s1,m1,r1⟩:=uM hs z v.cells e (hzr σ w F) hz1;refine ⟨_,_,_,_,_,_,_,?_,.inl rfl,s1,m1,r1,h⟩;simp [execOp,ho,Instr.alloc,Sem.run_bind,tV hi hiz,newVar,newRow]
 ·exact h.elim
theorem e_box {fr:List AV} {a:Act} (ha:ARel σ w F fr a) {e:TypeId} {x:Operand} (hs:Sim aw σ w F) {K:AV->List Ob->Prop} (h:vcE P fr aw (.box e x) K) (o:Oper) (ho:o.op=.box e x):OpOk P aw σ w F (execOp a.eval o) K:=by
 simp only [vcE] at h;split at h
 ·rename_i cs hc;obtain ⟨hr,h1⟩:=(ha.ev x).cells hc;obtain ⟨s1,m1,r1⟩:=uM hs cs (a.eval x).cells e hr h1;refine ⟨_,_,_,_,_,_,_,?_,.inl rfl,s1,m1,r1,h⟩;simp [execOp,ho,Instr.box,Sem.run_bind,newVar,newRow]
 ·exact h.elim
theorem gb {id:Nat} {e:TypeId} {size:Nat} {rows:List (List AV)} (hs:Sim aw σ w F) (ho:aw[id]?=some (.arr e size rows)) {A:Option Addr} {n c:Nat} (hσ:σ[id]?=some (.slice A n c)) :
  n=rows.length/\∃ flat,w.ownsRow 0 e size (.slice A n c) n flat/\FlatRel σ w F size rows flat/\(rows=[]∨∃ g cur,A=some ⟨g,0,none⟩/\¬ F g/\w.heap[g]?=some (.cells cur e (0,0))/\n<=c/\c<=maxLen/\cur.size=c*size/\cur.toList.take (n*size)=flat):=by
 obtain ⟨fl,hown,hfl,hf,_⟩:=hs.obj id _ _ ho hσ
 have hn:n=rows.length:=by
  rcases hown.2 with ⟨e1,e2⟩ | ⟨g,cap,cur,e1,_⟩
  ·injection e1 with e3 e4;omega
  ·injection e1 with e3 e4
 subst hn
 refine ⟨rfl,fl,hown,hfl,?_⟩
 rcases hown.2 with ⟨e1,e2⟩ | ⟨g,cap,cur,e1,_,hg,h1,h2,h3,h4⟩
 ·exact .inl (LR e2)
 ·injection e1 with e3 e4 e5
  subst e3;subst e5
  exact .inr ⟨g,cur,rfl,hf g rfl,hg,h1,h2,h3,h4⟩
theorem pC {size:Nat}:∀ {rows:List (List AV)},(∀ row,row∈rows->row.length=size)->∀ (i j:Nat) row,rows[i]?=some row->j<size->rows.flatten[i*size+j]?=row[j]?
 | [],_,i,j,row,h,_=>by simp at h
 | r::rows,hl,0,j,row,h,hj=>by
  simp at h;subst h;have:=hl r (by simp);simp only [Mu,Nat.zero_mul,MG];rw [LO (by omega)]
 | r::rows,hl,i+1,j,row,h,hj=>by
  have hr:=hl r (by simp);simp only [Mu];rw [Mc (by rw [hr,Ma];omega),hr];have:(i+1)*size+j - size=i*size+j:=by rw [Ma];omega
  rw [this];exact pC (fun row h=>hl row (by simp [h])) i j row (by simpa using h) hj
theorem vn {size:Nat} {rows:List (List AV)} {flat:List Value} (hfl:FlatRel σ w F size rows flat) {i:Nat} {row:List AV} (hi:rows[i]?=some row) :
  row.length=size/\∀ (j:Nat) x,row[j]?=some x->∃ u,flat[i*size+j]?=some u/\Rel σ w F x u/\u.oneCell'=true:=by
 have hl:row.length=size:=hfl.1 row (LJ hi)
 refine ⟨hl,fun j x hx=>?_⟩
 have hj:j<size:=by rw [<- hl];exact (LH.1 hx).1
 have hf:=pC hfl.1 i j row hi hj
 rw [hx] at hf
 obtain ⟨u,hu,hr⟩:=hfl.2.2.get hf
 exact ⟨u,hu,hr,hfl.2.1 u (LJ hu)⟩
theorem I4 {fr:List AV} {a:Act} (ha:ARel σ w F fr a) {t:TypeId} {x:Operand} (hs:Sim aw σ w F) {K:AV->List Ob->Prop} (h:vcE P fr aw (.load t x) K) (o:Oper) (ho:o.op=.load t x):∃ v r,(execOp a.eval o).run P w=.ok (.value v) w/\Rel σ w F r v/\K r aw:=by
 simp only [vcE] at h;have hx:=ha.ev x;split at h
 ·rename_i id size i off ex;rw [ex] at hx;split at h
  ·rename_i e size' rows hob;obtain ⟨rfl,hi,h⟩:=h;have h:=h _ (LG hi);generalize hv:a.eval x=vx at hx;cases hx with
   | aptr _ _ _ _ g n c hσ =>
    obtain ⟨hn,flat,hown,hfl,hc⟩:=gb hs hob hσ;rcases hc with hc | ⟨g',cur,e1,hF,hg,h1,h2,h3,h4⟩
    ·subst hc;simp at hi
    ·injection e1 with e1
     injection e1 with e1
     subst e1;obtain ⟨hl,hrow⟩:=vn hfl (LG hi);have hu:∀ j:Nat,j<(rows[i]).length->∃ u,flat[i*size' + j]?=some u/\Rel σ w F (rows[i][j]?.getD .any) u/\u.oneCell'=true:=fun j hj=>by obtain ⟨u,a1,a2,a3⟩:=hrow j _ (LG hj);exact ⟨u,a1,by rw [LG hj];exact a2,a3⟩
     have hq:=ur (P:=P) (aw:=[]) (σ:=[]) (w:=w) (F:=fun b=>b=g) (σ':=σ) (F':=F) (w0:=w) (ad:=(⟨g,0,none⟩:Addr).add (i*size')) (u:=fun j=>flat.getD (i*size' + j) undef) (row:=rows[i])
      (fun j hj=>by obtain ⟨u,a1,_,a3⟩:=hu j hj;rw [LL,a1];exact a3)
      (fun w' hw' j hj=>by
       obtain ⟨u,a1,_,_⟩:=hu j hj;rw [iz,fc,cell_of_row w' g _ cur e (0,0) ((hw' g (.inl rfl)).trans hg),LL,a1];rw [<- h4,Mo] at a1;split at a1
       ·simpa using a1
       ·cases a1)
      (fun j x hx=>by obtain ⟨u,a1,a2,_⟩:=hrow j x hx;rw [LL,a1];exact a2) h
     obtain ⟨v,r,hrun,hr,hK⟩:=hq;refine ⟨v,r,?_,hr,hK⟩;have:=hrun w (fun b _=>rfl);rw [iz,fc] at this;simp [execOp,ho,hv,Instr.loadAt,Instr.sureAddr,Sem.run_bind,this]
  ·exact h.elim
 ·exact h.elim
theorem J7 {fr:List AV} {a:Act} (ha:ARel σ w F fr a) {t:TypeId} {x:Operand} (hs:Sim aw σ w F) {K:AV->List Ob->Prop} (h:vcE P fr aw (.load t x) K) (o:Oper) (ho:o.op=.load t x):OpOk P aw σ w F (execOp a.eval o) K:=by obtain ⟨v,r,h1,h2,h3⟩:=I4 ha hs h o ho;exact ⟨v,_,w,aw,σ,F,r,h1,.inl rfl,hs,.refl ..,h2,h3⟩
theorem xI {α:Type} (a b vs:List α) (off:Nat) (h:off+vs.length<=a.length):(a++b).take off++vs++(a++b).drop (off+vs.length)=(a.take off++vs++a.drop (off+vs.length))++b:=by rw [List.take_append_of_le_length (by omega),List.drop_append_of_le_length h];simp
theorem Eu {α:Type} (a b vs:List α) (off:Nat):(a++b).take (a.length+off)++vs++(a++b).drop (a.length+off+vs.length)=a++(b.take off++vs++b.drop (off+vs.length)):=by rw [List.take_length_add_append,Np,List.drop_length_add_append];simp
theorem t4 {size:Nat} {vs:List AV} {off:Nat} (h:off+vs.length<=size):∀ {rows:List (List AV)},(∀ row,row∈rows->row.length=size)->∀ (i:Nat) row,rows[i]?=some row ->
  (rows.set i (splice row off vs)).flatten=splice rows.flatten (i*size+off) vs
 | [],_,i,row,hi=>by simp at hi
 | r::rows,hl,0,row,hi=>by
  simp at hi;subst hi;have:=hl r (by simp);simp only [List.set_cons_zero,Mu,splice,Nat.zero_mul,MG];exact (xI r rows.flatten vs off (by omega)).symm
 | r::rows,hl,i+1,row,hi=>by
  have hr:=hl r (by simp);have ih:=t4 h (fun row h=>hl row (by simp [h])) i row (by simpa using hi) (rows:=rows);simp only [List.set_cons_succ,Mu,ih];have e:(i+1)*size+off=r.length+(i*size+off):=by rw [hr,Ma];omega
  rw [e];exact (Eu r rows.flatten vs (i*size+off)).symm
theorem xx (cur us:List Value) (k m:Nat) (h:k+us.length<=m) (hm:m<=cur.length):(cW cur k us).take m=cW (cur.take m) k us:=by unfold cW;have h1:cur=cur.take m++cur.drop m:=(Mp m cur).symm;have h2:=xI (cur.take m) (cur.drop m) us k (by simp;omega);rw [<- h1] at h2;rw [h2,List.take_append_of_le_length (by simp;omega)];exact Mm (by simp;omega)
theorem xd (cur us:List Value) (k:Nat) (h:k+us.length<=cur.length):(cW cur k us).length=cur.length:=by unfold cW;simp;omega
theorem Ja {fr:List AV} {a:Act} (ha:ARel σ w F fr a) {t:TypeId} {x y:Operand} (hs:Sim aw σ w F) {K:AV->List Ob->Prop} (h:vcE P fr aw (.store t x y) K) (o:Oper) (ho:o.op=.store t x y):OpOk P aw σ w F (execOp a.eval o) K:=by
 simp only [vcE] at h;have hx:=ha.ev x;split at h
 ·rename_i id off vs ex hvs;rw [ex] at hx;split at h
  ·rename_i cs hob;obtain ⟨hsome,hlen,hfit,h⟩:=h;obtain ⟨d,hd⟩:=L5.1 hsome;obtain ⟨hr,h1⟩:=(ha.ev y).cells hvs;generalize hv:a.eval x=vx at hx;cases hx with
   | ptr _ _ g hσ =>
    obtain ⟨g',cur,ty,e1,hg,hcr,hc1,hF⟩:=hs.obj id _ _ hob hσ;injection e1 with e1
    injection e1 with e1
    injection e1 with e1
    subst e1;have hcl:cur.size=cs.length:=by simpa using hcr.1
    have hul:(a.eval y).cells.toList.length=vs.length:=hr.1;have hst:=run_storeCells_at P g off ty (a.eval y).cells.toList 0 cur w hg (by rw [hul];omega) h1;have hk:∀ b,b≠g->(w.setRow g (cW cur.toList off (a.eval y).cells.toList).toArray).heap[b]?=w.heap[b]?:=fun b hb=>setRow_other w g b _ hb
    have hself:Sim (aw.set id (.box (splice cs off vs))) σ (w.setRow g (cW cur.toList off (a.eval y).cells.toList).toArray) F:=by
     refine hs.write (b0:=g) id hob rfl hσ rfl hk (by simp) (.box (splice cs off vs)) ⟨g,_,ty,rfl,setRow_heap w g cur _ ty (0,0) hg,?_,?_,hF⟩ (fun _ h=>h)
     ·have:=(hcr.splice off hr).mono (σ':=σ) (w':=w.setRow g (cW cur.toList off (a.eval y).cells.toList).toArray) (F':=F) (fun _ _ e=>e) (fun _ e=>e) (fun b hb=>hk b (fun e=>hF (e▸hb)));simpa using this
     ·intro u hu;exact rW (fun u hu=>hc1 u (NN.2 hu)) h1 u (by simpa using hu)
    refine ⟨undef,_,_,_,σ,F,.any,?_,.inr ⟨rfl,rfl⟩,hself,Mv.write (w:=w) (F:=F) (w':=w.setRow g _) (b0:=g) id hob rfl hσ rfl rfl rfl drO hk (by simp) (.box (splice cs off vs)) (fun _ h=>h),.any _,h⟩;have hsz:(a.eval y).cells.size=P.cellsOf t:=by simp at hul;omega
    simp only [MB] at hst;simp [execOp,ho,hv,Instr.storeAt,Instr.sureAddr,storeVar,Sem.run_bind,eg hd,hsz,hst,cW]
  ·exact h.elim
 ·rename_i id size i off vs ex hvs;rw [ex] at hx;split at h
  ·rename_i e size' rows hob;obtain ⟨hsome,rfl,hlen,hi,hfit,h⟩:=h;have h:=h _ (LG hi);obtain ⟨d,hd⟩:=L5.1 hsome;obtain ⟨hr,h1⟩:=(ha.ev y).cells hvs;generalize hv:a.eval x=vx at hx;cases hx with
   | aptr _ _ _ _ g n c hσ =>
    obtain ⟨hn,flat,hown,hfl,hc⟩:=gb hs hob hσ;rcases hc with hc | ⟨g',cur,e1,hF,hg,hnc,h2,h3,h4⟩
    ·subst hc;simp at hi
    ·injection e1 with e1
     injection e1 with e1
     subst e1;have hul:(a.eval y).cells.toList.length=vs.length:=hr.1;have hin:i*size' + off+vs.length<=n*size':=by have:(i+1)*size'<=n*size':=L4 _ (by omega);rw [Ma] at this;omega
     have hcap:n*size'<=cur.size:=by rw [h3];exact L4 _ hnc
     have hst:=run_storeCells_at P g (i*size' + off) e (a.eval y).cells.toList 0 cur w hg (by rw [hul];omega) h1;have hk:∀ b,b≠g->(w.setRow g (cW cur.toList (i*size' + off) (a.eval y).cells.toList).toArray).heap[b]?=w.heap[b]?:=fun b hb=>setRow_other w g b _ hb
     have hflat:flat.length=n*size':=hown.1;have hself:Sim (aw.set id (.arr e size' (rows.set i (splice rows[i] off vs)))) σ (w.setRow g (cW cur.toList (i*size' + off) (a.eval y).cells.toList).toArray) F:=by
      refine hs.write (b0:=g) id hob rfl hσ rfl hk (by simp) (.arr e size' (rows.set i (splice rows[i] off vs))) ⟨cW flat (i*size' + off) (a.eval y).cells.toList,⟨?_,.inr ⟨g,c,(cW cur.toList (i*size' + off) (a.eval y).cells.toList).toArray,?_,MA _,setRow_heap w g cur _ e (0,0) hg,?_,h2,?_,?_⟩⟩,⟨?_,?_,?_⟩,?_,_,_,_,rfl⟩ (fun _ h=>h)
      ·rw [xd _ _ _ (by rw [hul];omega),hflat,MR,hn]
      ·rw [MR,hn]
      ·rw [MR];omega
      ·simp only [Ny];rw [xd _ _ _ (by rw [hul];simp;omega)];simpa using h3
      ·simp only [NI,MR];rw [<- hn,xx _ _ _ _ (by rw [hul];omega) (by simpa using hcap),h4]
      ·intro row hrow;rcases Mq hrow with hm | rfl
       ·exact hfl.1 row hm
       ·have:=hfl.1 rows[i] (Mk hi);unfold splice;simp;omega
      ·exact rW hfl.2.1 h1
      ·rw [t4 hfit hfl.1 i rows[i] (LG hi)];exact (hfl.2.2.splice _ hr).mono (fun _ _ e=>e) (fun _ e=>e) (fun b hb=>hk b (fun e=>hF (e▸hb)))
      ·intro g' hg';simp [Value.ownBlock] at hg';subst hg';exact hF
     refine ⟨undef,_,_,_,σ,F,.any,?_,.inr ⟨rfl,rfl⟩,hself,Mv.write (w:=w) (F:=F) (w':=w.setRow g _) (b0:=g) id hob rfl hσ rfl rfl rfl drO hk (by simp) (.arr e size' (rows.set i (splice rows[i] off vs))) (fun _ h=>h),.any _,h⟩;have hsz:(a.eval y).cells.size=P.cellsOf t:=by simp at hul;omega
     simp only [MB] at hst;simp [execOp,ho,hv,Instr.storeAt,Instr.sureAddr,storeVar,Sem.run_bind,eg hd,hsz,hst,cW]
  ·exact h.elim
 ·exact h.elim
theorem B6 {F':Nat->Prop} (hFF:∀ b,F b->F' b) {id:Nat} {e:TypeId} {size:Nat} {rows:List (List AV)} (hs:Sim aw σ w F) (ho:aw[id]?=some (.arr e size rows)) {A:Option Addr} {n c:Nat} (hσ:σ[id]?=some (.slice A n c))
  (hF:∀ b,blk (.slice A n c)=some b->F' b):Rel σ w F' (.sl rows) (.slice A n c):=by
 obtain ⟨hn,flat,hown,hfl,hc⟩:=gb hs ho hσ
 by_cases hne:rows=[]
 ·subst hne
  simp at hn
  subst hn
  rcases hown.2 with ⟨e1,_⟩ | ⟨g,cap,cur,e1,_,_,_,h2,_⟩
  ·rw [e1];exact .slNil
  ·injection e1 with e3 e4 e5
   subst e3;subst e5
   exact .sl [] 0 ⟨g,0,none⟩ c (fun _ _=>undef) (fun h=>absurd rfl h) (MA _) h2 (fun _ h=>by simp at h) (fun i j hi=>by simp at hi) (fun i j hi=>by simp at hi) (fun i row j x hi=>by simp at hi)
 ·rcases hc with hc | ⟨g,cur,rfl,_,hg,h1,h2,h3,h4⟩
  ·exact absurd hc hne
  ·subst hn
   have key:∀ i j:Nat,i<rows.length->j<size->∃ x u,(rows[i]?.bind (·[j]?))=some x/\flat[i*size+j]?=some u/\Rel σ w F x u/\u.oneCell'=true:=fun i j hi hj=>by obtain ⟨hl,hrow⟩:=vn hfl (LG hi);obtain ⟨u,a1,a2,a3⟩:=hrow j _ (LG (by omega));exact ⟨_,u,by rw [LG hi];exact LG (by omega),a1,a2,a3⟩
   refine .sl rows size ⟨g,0,none⟩ c (fun i j=>flat.getD (i*size+j) undef) (fun _=>hF g rfl) h1 h2 hfl.1 (fun i j hi hj=>?_) (fun i j hi hj=>?_) (fun i row j x hi hx=>?_)
   ·obtain ⟨x,u,_,a1,_,a3⟩:=key i j hi hj
    rw [LL,a1];exact a3
   ·obtain ⟨x,u,_,a1,_,_⟩:=key i j hi hj
    rw [fc,cell_of_row w g _ cur e (0,0) hg,LL,a1]
    rw [<- h4,Mo] at a1
    split at a1
    ·simpa using a1
    ·cases a1
   ·obtain ⟨hl,hrow⟩:=vn hfl hi
    obtain ⟨u,a1,a2,_⟩:=hrow j x hx
    rw [LL,a1]
    exact a2.mono (fun _ _ e=>e) hFF (fun _ _=>rfl)
theorem Az (hs:Sim aw σ w F) {x:AV} {v:Value} (hr:Rel σ w F x v):∃ F',Sim (dF aw x).2 σ w F'/\Mv aw σ w F (dF aw x).2 σ w F'/\Rel σ w F' (dF aw x).1 v:=by
 have same:∀ {r:AV},Rel σ w F r v->dF aw x=(r,aw)->∃ F',Sim (dF aw x).2 σ w F'/\Mv aw σ w F (dF aw x).2 σ w F'/\Rel σ w F' (dF aw x).1 v:=by intro r h1 h2;rw [h2];exact ⟨F,hs,.refl ..,h1⟩
 cases hr with
 | nils=>exact same .slNil rfl
 | ref id A n c h =>
  cases ho:aw[id]? with
  | none=>exact same (.any _) (by simp [dF,ho])
  | some o =>
   cases o with
   | dead=>exact same (.any _) (by simp [dF,ho])
   | box cs=>exact same (.any _) (by simp [dF,ho])
   | mp ks vs=>exact same (.any _) (by simp [dF,ho])
   | hd e k2=>exact same (.any _) (by simp [dF,ho])
   | cl e s cs=>exact same (.any _) (by simp [dF,ho])
   | arrU e s rows x=>exact same (.any _) (by simp [dF,ho])
   | boxB t cs=>exact same (.any _) (by simp [dF,ho])
   | arr e size rows =>
    have e1:dF aw (.ref id)=(.sl rows,aw.set id .dead):=by simp [dF,ho]
    rw [e1];exact ⟨_,hs.drop id ho rfl h,.drop id ho rfl h,B6 (fun _ h=>.inl h) hs ho h (fun b hb=>.inr hb)⟩
 | any v=>exact same (.any _) rfl
 | int k n=>exact same (.int k n) rfl
 | bool b=>exact same (.bool b) rfl
 | str s=>exact same (.str s) rfl
 | agg cs vs h h1 hc=>exact same (.agg cs vs h h1 hc) rfl
 | tup cs vs h hc=>exact same (.tup cs vs h hc) rfl
 | slNil=>exact same .slNil rfl
 | sl rows size ad c u h1 h2 h3 h4 h5 h6 h7=>exact same (.sl rows size ad c u h1 h2 h3 h4 h5 h6 h7) rfl
 | ptr id off g h=>exact same (.ptr id off g h) rfl
 | elt row off ad u h1 h2 h3 h4=>exact same (.elt row off ad u h1 h2 h3 h4) rfl
 | aptr id size i off g n c h=>exact same (.aptr id size i off g n c h) rfl
 | func f cs vs h hc=>exact same (.func f cs vs h hc) rfl
 | bnd f cs vs h hc=>exact same (.bnd f cs vs h hc) rfl
 | nilf=>exact same .nilf rfl
 | nilp=>exact same .nilp rfl
 | nili=>exact same .nili rfl
 | mpr id r h=>exact same (.mpr id r h) rfl
 | np0 id=>exact same (.np0 id) rfl
 | npS id g h=>exact same (.npS id g h) rfl
 | ifc t a v h=>exact same (.ifc t a v h) rfl
 | cst v=>exact same (.cst v) rfl
 | vw id size lo n N C cap A B h hn hA hk hz=>exact same (.vw id size lo n N C cap A B h hn hA hk hz) rfl
 | ref2 id a n c vs h h0=>exact same (.ref2 id a n c vs h h0) rfl
 | aptr2 id i g n c vs h h0=>exact same (.aptr2 id i g n c vs h h0) rfl
 | iref id i a n c vs h h0=>exact same (.iref id i a n c vs h h0) rfl
theorem yM:∀ {xs:List AV} {vs:List Value} {aw:List Ob} {F:Nat->Prop},Sim aw σ w F->RelL σ w F xs vs->∃ F',Sim (norm0L aw xs).2 σ w F'/\Mv aw σ w F (norm0L aw xs).2 σ w F'/\RelL σ w F' (norm0L aw xs).1 vs
 | [],vs,aw,F,hs,hr=>by
  have:vs=[]:=LR hr.1;subst this;exact ⟨F,hs,.refl ..,.nil⟩
 | x::xs,[],aw,F,hs,hr=>absurd hr.1 (by simp)
 | x::xs,v::vs,aw,F,hs,hr=>by
  have h1:Rel σ w F x v:=hr.2 0 x v rfl rfl;have h2:RelL σ w F xs vs:=⟨by simpa using hr.1,fun j a v ha hv=>hr.2 (j+1) a v (by simpa using ha) (by simpa using hv)⟩
  obtain ⟨F1,s1,m1,r1⟩:=Az hs h1;obtain ⟨F2,s2,m2,r2⟩:=yM s1 (m1.relL hs h2);exact ⟨F2,s2,m1.trans m2,.cons (m2.rel s1 r1) r2⟩
theorem qv (hs:Sim aw σ w F) {x:AV} {v:Value} (hr:Rel σ w F x v):∃ F',Sim (norm aw x).2 σ w F'/\Mv aw σ w F (norm aw x).2 σ w F'/\Rel σ w F' (norm aw x).1 v:=by
 cases x with
 | agg cs =>
  cases hr with
  | agg _ vs h h1 hc =>
   obtain ⟨F',s1,m1,r1⟩:=yM hs ⟨h,hc⟩;exact ⟨F',s1,m1,.agg _ vs r1.1 h1 r1.2⟩
 | _=>exact Az hs hr
theorem sB:∀ {xs:List AV} {vs:List Value} {aw:List Ob} {F:Nat->Prop},Sim aw σ w F->RelL σ w F xs vs->∃ F',Sim (dE aw xs).2 σ w F'/\Mv aw σ w F (dE aw xs).2 σ w F'/\RelL σ w F' (dE aw xs).1 vs
 | [],vs,aw,F,hs,hr=>by
  have:vs=[]:=LR hr.1;subst this;exact ⟨F,hs,.refl ..,.nil⟩
 | x::xs,[],aw,F,hs,hr=>absurd hr.1 (by simp)
 | x::xs,v::vs,aw,F,hs,hr=>by
  have h1:Rel σ w F x v:=hr.2 0 x v rfl rfl;have h2:RelL σ w F xs vs:=⟨by simpa using hr.1,fun j a v ha hv=>hr.2 (j+1) a v (by simpa using ha) (by simpa using hv)⟩
  obtain ⟨F1,s1,m1,r1⟩:=qv hs h1;obtain ⟨F2,s2,m2,r2⟩:=sB s1 (m1.relL hs h2);exact ⟨F2,s2,m1.trans m2,.cons (m2.rel s1 r1) r2⟩
theorem yG:∀ {xs:List AV} {aw:List Ob},(dE aw xs).1.length=xs.length
 | [],_=>rfl
 | x::xs,aw=>by simp [dE,yG]
end
end
section
open Go.RowKit
section
variable {P:Program} {σ:List Value} {w:World} {F:Nat→Prop} {aw:List Ob}
theorem IR {fr:List AV} {a:Act} (ha:ARel σ w F fr a) {t:TypeId} {x:Operand} {lo hi mx:Option Operand} (hs:Sim aw σ w F) {K:AV->List Ob->Prop} (h:vcE P fr aw (.slice t x lo hi mx) K) (o:Oper) (ho:o.op=.slice t x lo hi mx):OpOk P aw σ w F (execOp a.eval o) K:=by
 cases mx with
 | some m=>exact (show False from h).elim
 | none =>
 simp only [vcE] at h;obtain ⟨F',s1,m1,r1⟩:=qv hs (ha.ev x);split at h
 ·rename_i e rows aw' hu en;rw [en] at s1 m1 r1;split at h
  ·rename_i kl l kh hh el eh;obtain ⟨hsome,hrow,h0,h1,h2,h⟩:=h;obtain ⟨d,hd⟩:=L5.1 hsome;generalize hv:a.eval x=vx at r1;have hform:∃ A n c,vx=.slice A n c:=by cases r1<;>exact ⟨_,_,_,rfl⟩
   obtain ⟨A,n,c,rfl⟩:=hform;obtain ⟨hn,hnc,hr⟩:=r1.piece (l:=l.toNat) (h:=hh.toNat) hrow (by omega) (by omega);subst hn;refine ⟨_,_,w,aw',σ,F',_,?_,.inl rfl,s1,m1,hr,h⟩;have b:=fun w'=>nH (P:=P) ha (b:=true) (cap:=c) el eh h0 h1 h2 hnc w'
   simp [execOp,ho,hv,Instr.sliceAt,Instr.slice,Sem.run_bind,run_underlying hu,b,eg hd]
  ·exact h.elim
 ·exact h.elim
theorem FSx {fr:List AV} {a:Act} (ha:ARel σ w F fr a) {s d:TypeId} {x:Operand} (hs:Sim aw σ w F) {K:AV->List Ob->Prop} (h:vcE P fr aw (.convert s d x) K) (o:Oper) (ho:o.op=.convert s d x):OpOk P aw σ w F (execOp a.eval o) K:=by
 simp only [vcE] at h;obtain ⟨F',s1,m1,r1⟩:=qv hs (ha.ev x);split at h
 ·rename_i e rows aw' hus hud en;rw [en] at s1 m1 r1;obtain ⟨hue,hall,h⟩:=h;generalize hv:a.eval x=vx at r1;have hrun:(convert s d vx).run P w=.ok (.string ⟨(rows.map qr).toArray⟩) w:=by
   cases r1 with
   | slNil =>
    rw [run_convert_bytes_nil w s e hus hue 0 0 d hud];rfl
   | sl _ size ad c u hF hn hm hrow hone hcell hrel =>
    rw [run_convert_bytes_string w s d e (some ad) rows.length c hus hue hud];have hb:∀ (i:Nat) row,rows[i]?=some row->∃ n,row=[.int .u8 n]/\w.cell? (ad.add i)=some (.int .u8 n):=fun i row hi=>by
     have h1:=Mz.1 hall row (LJ hi);match row,h1,hi with
     | [.int .u8 n],_,hi =>
      have hsz:=hrow _ (LJ hi)
      simp at hsz
      subst hsz
      have hlt:=(LH.1 hi).1
      have hc:=hcell i 0 hlt (by omega)
      have hr:=hrel i _ 0 _ hi rfl
      generalize u i 0=v at hc hr
      cases hr
      exact ⟨n,rfl,by simpa using hc⟩
    have hl:=run_loadCells_list (P:=P) w ad ((rows.map fun row=>match row with | [.int .u8 n]=>n | _=>0).map (Value.int .u8)) (fun j v hj=>by simp only [Nc,LT,L6] at hj;obtain ⟨row,hr,hv'⟩:=hj;obtain ⟨n,rfl,hc⟩:=hb j row hr;simp at hv';subst hv';exact hc)
    rw [LS,LS] at hl;rw [run_bytesToString w ad _ _ _ hl,foldl_push_bytes];congr 2;apply ByteArray.ext;simp only [Nc];apply Array.ext';simp only [ByteArray.empty,ByteArray.emptyWithCapacity,Array.toList_append,NI,Array.emptyWithCapacity,My];apply Me;intro row hr;obtain ⟨i,hi⟩:=L1 hr;obtain ⟨n,rfl,_⟩:=hb i row hi;rfl
  refine ⟨_,_,w,aw',σ,F',_,?_,.inl rfl,s1,m1,.str _,h⟩;simp [execOp,ho,hv,Sem.run_bind,hrun]
 ·exact h.elim
theorem uQ {z:List AV} {vc:Array Value} (hz:RelL σ w F z vc.toList) (h0:0<z.length) (len:Nat):RelL σ w F (List.replicate len z).flatten (madeCells vc (len*z.length)).toList:=by
 have hl:vc.size=z.length:=by simpa using hz.1
 have hlen:(List.replicate len z).flatten.length=len*z.length:=by simp
 refine ⟨by rw [hlen];simp [madeCells],fun k x v hx hv=>?_⟩;have hk:k<len*z.length:=by rw [<- hlen];exact (LH.1 hx).1
 have hdiv:k / z.length<len:=Nd (by rw [M1];exact hk);have hmod:k % z.length<z.length:=Nat.mod_lt _ h0;have e:k=k / z.length*z.length+k % z.length:=by rw [M1];exact (Nat.div_add_mod k z.length).symm
 have hf:=pC (size:=z.length) (rows:=List.replicate len z) (fun row hr=>by rw [Ms hr]) (k / z.length) (k % z.length) z (by rw [MY,if_pos hdiv]) hmod;rw [<- e] at hf;rw [hf] at hx;obtain ⟨u,hu,hr⟩:=hz.get hx;have:v=u:=by
  simp [madeCells,hk] at hv;have hlt:k % z.length<vc.size:=by omega
  rw [hl,getElem!_pos vc _ hlt] at hv;have hu':vc[k % z.length]?=some u:=by simpa using hu
  rw [Nq hlt] at hu';rw [<- hv];exact LP hu'
 rw [this];exact hr
theorem uF {vc:Array Value} (h1:∀ u,u∈vc.toList->u.oneCell'=true) (h0:0<vc.size) (n:Nat):∀ u,u∈(madeCells vc n).toList->u.oneCell'=true:=by intro u hu;simp [madeCells] at hu;obtain ⟨k,_,rfl⟩:=hu;have hlt:k % vc.size<vc.size:=Nat.mod_lt _ h0;rw [getElem!_pos vc _ hlt];exact h1 _ (NN.1 (Array.getElem_mem hlt))
theorem xQ {size:Nat}:∀ (ps:List (Nat × AV)) (rows rows':List (List AV)),(∀ row,row∈rows->row.length=size)->mc P size rows ps=some rows' ->
  hJ (fun i=>if i<rows.length then some (i*size,size) else none) rows.flatten ps=some rows'.flatten/\(∀ row,row∈rows'->row.length=size)/\rows'.length=rows.length
 | [],rows,rows',hl,h=>by
  simp only [mc,Ng] at h;subst h;exact ⟨rfl,hl,rfl⟩
 | (i,v)::ps,rows,rows',hl,h=>by
  simp only [mc] at h;split at h
  ·rename_i vs hvs;split at h
   ·rename_i hc;obtain ⟨hc1,hc2⟩:=hc;have hl':∀ row,row∈rows.set i vs->row.length=size:=fun row hr=>by
     rcases Mq hr with h | rfl
     ·exact hl row h
     ·exact hc1
    obtain ⟨h1,h2,h3⟩:=xQ ps (rows.set i vs) rows' hl' h;rw [MR] at h1 h3;refine ⟨?_,h2,h3⟩;have hflen:rows.flatten.length=rows.length*size:=by
     clear h h1 h2 h3 hl' hc2;induction rows with
     | nil=>simp
     | cons r rows ih=>simp [hl r (by simp),ih (fun row h=>hl row (by simp [h])),Ma];omega
    have hi1:i*size+size<=rows.length*size:=by have:(i+1)*size<=rows.length*size:=L4 _ hc2;rw [Ma] at this;omega
    have hsp:=t4 (size:=size) (vs:=vs) (off:=0) (by omega) hl i rows[i] (LG hc2);have hrow:splice rows[i] 0 vs=vs:=by have:=hl rows[i] (Mk hc2);unfold splice;simp;omega
    rw [hrow,MB] at hsp;simp only [hJ,if_pos hc2,hvs];rw [if_pos ⟨hc1,by omega⟩,<- hsp];exact h1
   ·cases h
  ·cases h
theorem Eg {fr:List AV} {a:Act} (ha:ARel σ w F fr a) {t:TypeId} {len:Nat} {parts:Array (Nat × Operand)} (hs:Sim aw σ w F) {K:AV->List Ob->Prop} (h:vcE P fr aw (.buildSlice t len parts) K) (o:Oper) (ho:o.op=.buildSlice t len parts):OpOk P aw σ w F (execOp a.eval o) K:=by
 simp only [vcE] at h;split at h
 ·rename_i e hu;split at h
  ·rename_i z hz;obtain ⟨hzl,h0,hbig,h⟩:=h;split at h
   ·rename_i rows hrows;obtain ⟨i,v,hi,hiz,hvl,hv1,hvr⟩:=nT hz;have hvsz:v.cells.size=z.length:=by simpa using hvl
    obtain ⟨hf,hl,hlen⟩:=xQ (P:=P) _ (List.replicate len z) rows (fun row hr=>by rw [Ms hr];exact hzl) hrows;have hargs0:RelL σ w F (parts.toList.map fun p=>ev fr p.2) (parts.toList.map fun p=>a.eval p.2):=by have:=jm ha (parts.toList.map (·.2));simpa [Nc,Function.comp_def] using this
    obtain ⟨F1,s1,m1,r1⟩:=sB hs hargs0;have hlen1:(dE aw (parts.toList.map fun p=>ev fr p.2)).1.length=parts.toList.length:=by rw [yG,LS]
    have hargs:RelL σ w F1 (((parts.toList.map (·.1)).zip (dE aw (parts.toList.map fun p=>ev fr p.2)).1).map (·.2)) ((parts.toList.map fun p=>(p.1,a.eval p.2)).map (·.2)):=by rw [List.map_snd_zip (by rw [hlen1,LS];exact LM _)];simpa [Nc,Function.comp_def] using r1
    have hinit:=uQ (hvr σ w F1) (by omega) len;have hone:=uF hv1 (by omega) (len*z.length);rw [hzl] at hinit hone;obtain ⟨cells,hfill,hr,h1⟩:=u0 (place:=fun i=>some (i*P.cellsOf e,P.cellsOf e)) (fun i x hx=>by split at hx;exact hx;cases hx) _ (parts.toList.map fun p=>(p.1,a.eval p.2)) _ _ _ (by rw [List.map_fst_zip (by rw [hlen1,LS];exact LM _)];simp [Nc,Function.comp_def]) hargs hinit hone hf
    have hfl:FlatRel σ w F1 (P.cellsOf e) rows cells.toList:=⟨hl,h1,hr⟩
    rw [List.length_replicate] at hlen;have hmx:rows.length<=maxLen:=by have:len*1<=len*P.cellsOf e:=Nat.mul_le_mul_left _ h0;rw [hlen];simp only [maxLen];omega
    have hsize:∀ w:World,(sizeOf e).run P w=.ok (P.cellsOf e) w:=fun w=>by simp [sizeOf,typeInfo,hi,Sem.run_bind,Program.cellsOf]
    have hrun:(Instr.buildSlice t len (parts.map fun p=>(p.1,a.eval p.2))).run P w=.ok (.slice (some ⟨w.heap.size,0,none⟩) len len) (w.alloc (.cells cells e)):=by
     by_cases hz0:len*P.cellsOf e=0
     ·have:madeCells v.cells (len*P.cellsOf e)=#[]:=Array.eq_empty_of_size_eq_zero (by rw [size_madeCells,hz0]);rw [this] at hfill;have e0:Array.range 0=#[]:=Array.eq_empty_of_size_eq_zero (by simp);simp [Instr.buildSlice,Sem.run_bind,run_underlying hu,hsize,hz0,e0,hfill,newRow]
     ·unfold madeCells at hfill;have hbig':¬ 2 ^ 24<len*P.cellsOf e:=by omega
      simp [Instr.buildSlice,Sem.run_bind,run_underlying hu,hsize,hz0,hbig',tV hi hiz,hfill,newRow]
    have hk:∀ b,b<w.heap.size->(w.alloc (.cells cells e)).heap[b]?=w.heap[b]?:=fun b hb=>Below.heap_alloc w _ b hb
    have hn:∀ (e s:Nat) (rows:List (List AV)) b,Bk (.arr e s rows) (.slice (some ⟨w.heap.size,0,none⟩) len len) b->w.heap.size<=b:=fun e s rows b hb=>by simp [Bk,blk] at hb;omega
    have hcl:cells.toList.length=rows.length*P.cellsOf e:=by
     rw [hr.1];have:∀ l:List (List AV),(∀ row,row∈l->row.length=P.cellsOf e)->l.flatten.length=l.length*P.cellsOf e:=by
      intro l;induction l with
      | nil=>simp
      | cons x l ih =>
       intro hx;rw [Mu,LI,ih (fun row hr=>hx row (L2 _ hr)),hx x L0,LW,Ma];omega
     exact this rows hl
    refine ⟨_,_,_,_,σ++[.slice (some ⟨w.heap.size,0,none⟩) len len],F1,_,?_,.inl rfl,s1.push (.arr e (P.cellsOf e) rows) _ hk (by simp) ?_ (hn _ _ _),m1.trans (.push s1 _ _ rfl rfl drO hk (by simp) (hn _ _ _)),.ref _ (some ⟨w.heap.size,0,none⟩) len len (by rw [<- s1.len];simp),h⟩
    ·simp [execOp,ho,Sem.run_bind,hrun]
    ·refine ⟨cells.toList,⟨hcl,.inr ⟨w.heap.size,len,cells,by rw [hlen],MA _,heap_alloc_new w _,by omega,by omega,by rw [hlen] at hcl;simpa using hcl,by rw [<- hcl];exact ME⟩⟩,
      ⟨hl,h1,hr.mono (fun _ _ e=>eF e) (fun _ e=>e) (fun b hb=>hk b (s1.lt b hb))⟩,fun g hg hF=>?_,_,_,_,rfl⟩
     simp [Value.ownBlock] at hg;have:=s1.lt g hF;omega
   ·exact h.elim
  ·exact h.elim
 ·exact h.elim
theorem Sim.push2 {w':World} (h:Sim aw σ w F) (o:Ob) (v:Value) (hk:∀ b,(F b∨Dof aw σ b)->w'.heap[b]?=w.heap[b]?) (hs:w.heap.size<=w'.heap.size)
  (ho:ORel (σ++[v]) w' F o v) (hnew:∀ b,Bk o v b->¬ Dof aw σ b):Sim (aw++[o]) (σ++[v]) w' F:=by
 have old:∀ (k:Nat) o1 v1,aw[k]?=some o1->(σ++[v])[k]?=some v1->σ[k]?=some v1:=fun k o1 v1 h1 hv1=>by have hlt:=(LH.1 h1).1;rw [LO (by rw [h.len];exact hlt)] at hv1;exact hv1
 have last:∀ (k:Nat) v1,k=aw.length->(σ++[v])[k]?=some v1->v1=v:=fun k v1 e hv1=>by rw [e,<- h.len] at hv1;simp at hv1;exact hv1.symm
 refine ⟨by simp [h.len],fun k o1 v1 ho1 hv1=>?_,fun k k' o1 o2 v1 v2 g hne ho1 ho2 hl1 hl2 hv1 hv2 hb1 hb2=>?_,fun b hb=>MP (h.lt b hb) hs⟩
 ·rcases fI ho1 with h1 | ⟨e,rfl⟩
  ·have hv1':=old k o1 v1 h1 hv1
   refine (h.obj k o1 v1 h1 hv1').mono (fun _ _ e=>eF e) (fun _ e=>e) (fun b hb=>hk b (.inl hb)) (fun hl b hb=>?_)
   have hd:Dof aw σ b:=⟨k,o1,v1,h1,hl,hv1',hb⟩
   exact ⟨hk b (.inr hd),h.free hd⟩
  ·have:=last _ _ e hv1;subst this;exact ho
 ·rcases fI ho1 with h1 | ⟨e1,rfl⟩
  ·rcases fI ho2 with h2 | ⟨e2,rfl⟩
   ·exact h.sep k k' o1 o2 v1 v2 g hne h1 h2 hl1 hl2 (old _ _ _ h1 hv1) (old _ _ _ h2 hv2) hb1 hb2
   ·have:=last _ _ e2 hv2;subst this
    exact hnew g hb2 ⟨k,o1,v1,h1,hl1,old _ _ _ h1 hv1,hb1⟩
  ·have:=last _ _ e1 hv1;subst this
   rcases fI ho2 with h2 | ⟨e2,rfl⟩
   ·exact hnew g hb1 ⟨k',o2,v2,h2,hl2,old _ _ _ h2 hv2,hb2⟩
   ·exact hne (e1.trans e2.symm)
theorem EH {fr:List AV} {a:Act} (ha:ARel σ w F fr a) {t:TypeId} {l c:Operand} (hs:Sim aw σ w F) {K:AV->List Ob->Prop} (h:vcE P fr aw (.makeSlice t l c) K) (o:Oper) (ho:o.op=.makeSlice t l c):OpOk P aw σ w F (execOp a.eval o) K:=by
 simp only [vcE] at h;have hl:=ha.ev l;have hc:=ha.ev c;split at h
 ·rename_i e kl n kc m hu el ec;rw [el] at hl;rw [ec] at hc;split at h
  ·rename_i z hz;obtain ⟨hzl,h0,hn0,hnm,_,hbytes,hmx,h⟩:=h;obtain ⟨i,v,hi,hiz,hvl,hv1,hvr⟩:=nT hz;generalize hvl':a.eval l=vl at hl;generalize hvc':a.eval c=vc at hc;cases hl;cases hc;have hvsz:v.cells.size=z.length:=by simpa using hvl
   have hsz:P.cellsOf e=i.size:=by simp [Program.cellsOf,hi]
   have hby:P.bytesOf e=i.bytes:=by simp [Program.bytesOf,hi]
   have hrun:=run_make (P:=P) w t e i v hu hi hiz kl kc n m hn0 hnm (by
    have:((P.bytesOf e*m.toNat:Nat):Int)<=281474976710656:=by omega
    rw [Int.natCast_mul,hby] at this;rwa [Mf (by omega)] at this) (by simp only [maxLen] at hmx;omega)
   rw [<- hsz] at hrun;have hk:∀ b,b<w.heap.size->(w.alloc (.cells (madeCells v.cells (m.toNat*P.cellsOf e)) e)).heap[b]?=w.heap[b]?:=fun b hb=>Below.heap_alloc w _ b hb
   have hn:∀ (e s:Nat) (rows:List (List AV)) b,Bk (.arr e s rows) (.slice (some ⟨w.heap.size,0,none⟩) n.toNat m.toNat) b->w.heap.size<=b:=fun e s rows b hb=>by simp [Bk,blk] at hb;omega
   have hle:n.toNat*P.cellsOf e<=m.toNat*P.cellsOf e:=L4 _ (by omega);have hinit:=uQ (hvr σ w F) (by omega) n.toNat;rw [hzl] at hinit;have htake:(madeCells v.cells (m.toNat*P.cellsOf e)).toList.take (n.toNat*P.cellsOf e)=(madeCells v.cells (n.toNat*P.cellsOf e)).toList:=by simp only [madeCells,Array.toList_map,Array.toList_range];rw [<- Nh,List.take_range,MI hle]
   refine ⟨_,_,_,aw++[.arr e (P.cellsOf e) (List.replicate n.toNat z)],σ++[.slice (some ⟨w.heap.size,0,none⟩) n.toNat m.toNat],F,_,?_,.inl rfl,hs.push (w':=w.alloc (.cells (madeCells v.cells (m.toNat*P.cellsOf e)) e)) (.arr e (P.cellsOf e) (List.replicate n.toNat z)) _ hk (by simp) ?_ (hn _ _ _),.push (w':=w.alloc (.cells (madeCells v.cells (m.toNat*P.cellsOf e)) e)) hs (.arr e (P.cellsOf e) (List.replicate n.toNat z)) _ rfl rfl drO hk (by simp) (hn _ _ _),.ref _ (some ⟨w.heap.size,0,none⟩) n.toNat m.toNat (by rw [<- hs.len];simp),h⟩
   ·simp [execOp,ho,hvl',hvc',Sem.run_bind,hrun]
   ·refine ⟨(madeCells v.cells (n.toNat*P.cellsOf e)).toList,⟨by simp [madeCells],.inr ⟨w.heap.size,m.toNat,_,by simp,MA _,heap_alloc_new w _,by simp;omega,hmx,size_madeCells _ _,by rw [List.length_replicate];exact htake⟩⟩,
     ⟨fun row hr=>by rw [Ms hr];exact hzl,uF hv1 (by omega) _,hinit.mono (fun _ _ e=>eF e) (fun _ e=>e) (fun b hb=>hk b (hs.lt b hb))⟩,fun g hg hF=>?_,_,_,_,rfl⟩
    simp [Value.ownBlock] at hg;have:=hs.lt g hF;omega
  ·exact h.elim
 ·exact h.elim
theorem EM {t ty e:TypeId} {size n:Nat} {v:Value} {xs:List Value} (ht:P.underlying t=some (.slice e)) (hi:(P.info? e).isSome=true) (hown:w.ownsRow 0 e size v n xs) :
  (Builtin.append_ #[t,t] ty #[v,.slice none 0 0]).run P w=.ok v w:=by
 obtain ⟨i,hi⟩:=L5.1 hi
 rcases hown.2 with ⟨rfl,rfl⟩ | ⟨g,cap,cur,rfl,_,_,hnc,_⟩
 ·simp [Builtin.append_,run_underlying ht,sizeOf,typeInfo,hi,Builtin.lenOf,Builtin.firstCells]
 ·simp [Builtin.append_,run_underlying ht,sizeOf,typeInfo,hi,Builtin.lenOf,Builtin.firstCells,hnc,storeCells]
theorem zD {t ty e:TypeId} {z:List AV} (hu:P.underlying t=some (.slice e)) (hz:aI P e=some z) (hzl:z.length=P.cellsOf e) (h0:0<P.cellsOf e) (hby:P.bytesOf e<=128)
    {old rows:List (List AV)} {v vy:Value} {flat:List Value} (hown:w.ownsRow 0 e (P.cellsOf e) v old.length flat) (hy:Rel σ w F (.sl rows) vy) (hrow:∀ row,row∈rows->row.length=P.cellsOf e) (hlen:old.length+rows.length<=1099511627776) :
    ∃ v' w' news,(Builtin.append_ #[t,t] ty #[v,vy]).run P w=.ok v' w'/\w'.ownsRow 0 e (P.cellsOf e) v' (old++rows).length (flat++news)/\w.grownBy w' v.ownBlock /\
      (v'.ownBlock=v.ownBlock∨v'.ownBlock=some w.heap.size)/\RelL σ w F rows.flatten news/\(∀ u,u∈news->u.oneCell'=true):=by
  obtain ⟨i,zv,hi,hiz,hvl,_,_⟩:=nT hz
  have hsz:i.size=P.cellsOf e:=by simp [Program.cellsOf,hi]
  have hbb:i.bytes=P.bytesOf e:=by simp [Program.bytesOf,hi]
  cases hy with
  | slNil =>
    refine ⟨v,w,[],EM hu (by simp [hi]) hown,by simpa using hown,World.grownBy.refl w _,.inl rfl,.nil,fun u hu=>by simp at hu⟩
  | sl _ size ad c u hF hn hm hr1 hone hcell hrel =>
    by_cases hne:rows=[]
    · subst hne
      obtain ⟨v',w',hrun,h2,h3,_,h5⟩:=run_append_own_at (P:=P) w 0 t ty e i zv (P.cellsOf e) (P.bytesOf e) hu hi hiz hsz hbb (by rw [<- hzl];simpa using hvl) h0 v old.length flat hown ad 0 c [] (by simp) (fun j x hx=>by simp at hx) (fun x hx=>by simp at hx)
        (by simp only [maxLen];omega) (by have:(old.length+0)*P.bytesOf e<=1099511627776*128:=NL (by simpa using hlen) hby;omega) (MA _)
      exact ⟨v',w',[],hrun,by simpa using h2,h3,h5,.nil,fun u hu=>by simp at hu⟩
    · have hsize:size=P.cellsOf e:=by
        obtain ⟨r,rs,rfl⟩:=List.exists_cons_of_ne_nil hne;exact (hr1 r (by simp)).symm.trans (hrow r (by simp))
      subst hsize
      have hflen:rows.flatten.length=rows.length*P.cellsOf e:=by
        have:∀ (l:List (List AV)),(∀ row,row∈l->row.length=P.cellsOf e)->l.flatten.length=l.length*P.cellsOf e:=by
          intro l hl;induction l with
          | nil=>simp
          | cons r l ih=>simp [hl r (by simp),ih (fun row h=>hl row (by simp [h])),Ma];omega
        exact this rows hrow
      have idx:∀ k,k<rows.length*P.cellsOf e->k / P.cellsOf e<rows.length/\k % P.cellsOf e<P.cellsOf e/\k / P.cellsOf e*P.cellsOf e+k % P.cellsOf e=k:=fun k hk =>
        ⟨Nd (by rw [M1];exact hk),Nat.mod_lt _ h0,by rw [M1];exact Nat.div_add_mod k _⟩
      have hget:∀ (k:Nat) x,((List.range (rows.length*P.cellsOf e)).map fun k=>u (k / P.cellsOf e) (k % P.cellsOf e))[k]?=some x->k<rows.length*P.cellsOf e/\x=u (k / P.cellsOf e) (k % P.cellsOf e):=fun k x hx=>by
        rw [LT] at hx;cases hr:(List.range (rows.length*P.cellsOf e))[k]? with
        | none=>rw [hr] at hx;simp at hx
        | some m =>
          obtain ⟨hlt,rfl⟩:=LH.1 hr;rw [hr] at hx;simp at hx hlt;exact ⟨hlt,by simpa using hx.symm⟩
      have hnews1:∀ x,x∈((List.range (rows.length*P.cellsOf e)).map fun k=>u (k / P.cellsOf e) (k % P.cellsOf e))->x.oneCell'=true:=fun x hx=>by obtain ⟨k,hk⟩:=L1 hx;obtain ⟨hlt,rfl⟩:=hget k x hk;obtain ⟨h1,h2,_⟩:=idx k hlt;exact hone _ _ h1 h2
      obtain ⟨v',w',hrun,h2,h3,_,h5⟩:=run_append_own_at (P:=P) w 0 t ty e i zv (P.cellsOf e) (P.bytesOf e) hu hi hiz hsz hbb (by rw [<- hzl];simpa using hvl) h0 v old.length flat hown ad rows.length c
        ((List.range (rows.length*P.cellsOf e)).map fun k=>u (k / P.cellsOf e) (k % P.cellsOf e)) (by simp) (fun k x hx=>by obtain ⟨hlt,rfl⟩:=hget k x hx;obtain ⟨h1,h2,h3⟩:=idx k hlt;have:=hcell _ _ h1 h2;rwa [h3] at this) hnews1
        (by simp only [maxLen];omega) (by have:(old.length+rows.length)*P.bytesOf e<=1099511627776*128:=NL hlen hby;omega) (MA _)
      refine ⟨v',w',_,hrun,by rw [LI];exact h2,h3,h5,⟨by simp [hflen],fun k x y hx hy=>?_⟩,hnews1⟩
      obtain ⟨hlt,rfl⟩:=hget k y hy
      obtain ⟨h1,h2,h3⟩:=idx k hlt
      have hf:=pC hrow (k / P.cellsOf e) (k % P.cellsOf e) _ (LG h1) h2
      rw [h3,hx] at hf
      exact hrel _ _ _ _ (LG h1) hf.symm
end
end
section
open Go.RowKit
section
variable {P:Program} {σ:List Value} {w:World} {F:Nat→Prop} {aw:List Ob}
theorem Ho {base:Nat} {e:TypeId} {size n:Nat} {v:Value} {xs:List Value} (h:w.ownsRow base e size v n xs):∃ a n c,v=.slice a n c:=by rcases h.2 with ⟨rfl,_⟩ | ⟨g,cap,cur,rfl,_⟩<;>exact ⟨_,_,_,rfl⟩
theorem uE {aw0:List Ob} {w':World} (h:Sim aw σ w F) (hd:∀ b,Dof aw σ b->Dof aw0 σ b) {vx v':Value} {e:TypeId} {size:Nat} {old rows:List (List AV)} {flat news:List Value}
  (hfl:FlatRel σ w F size old flat) (hrow:∀ row,row∈rows->row.length=size) (hr:RelL σ w F rows.flatten news) (h1:∀ u,u∈news->u.oneCell'=true)
  (hown:w'.ownsRow 0 e size v' (old++rows).length (flat++news)) (hg:w.grownBy w' vx.ownBlock) (hdr:w.drawn<=w'.drawn) (hat:v'.ownBlock=vx.ownBlock∨v'.ownBlock=some w.heap.size)
  (hfree:∀ b,vx.ownBlock=some b->¬ F b/\¬ Dof aw σ b/\Dof aw0 σ b) :
  Sim (aw++[.arr e size (old++rows)]) (σ++[v']) w' F/\Mv aw0 σ w F (aw++[.arr e size (old++rows)]) (σ++[v']) w' F/\Rel (σ++[v']) w' F (.ref aw.length) v':=by
 have hk:∀ b,(F b∨Dof aw σ b)->w'.heap[b]?=w.heap[b]?:=fun b hb=>hg.block b (hb.elim (h.lt b) h.lt_own) (fun e=>by obtain ⟨h1,h2,_⟩:=hfree b e.symm;exact hb.elim h1 h2)
 obtain ⟨a',n',c',hform⟩:=Ho hown
 have hblk:∀ (e s:Nat) (rows:List (List AV)) b,Bk (.arr e s rows) v' b->v'.ownBlock=some b:=fun e s rows b hb=>by rw [hform] at hb ⊢;exact hb.slice_inv
 have hnew:∀ b,v'.ownBlock=some b->¬ F b/\¬ Dof aw σ b:=fun b hb=>by
  rcases hat with e | e
  ·rw [e] at hb;exact ⟨(hfree b hb).1,(hfree b hb).2.1⟩
  ·rw [e] at hb;injection hb with hb
   subst hb;exact ⟨fun hf=>by have:=h.lt _ hf;omega,fun hf=>by have:=h.lt_own hf;omega⟩
 refine ⟨h.push2 _ _ hk hg.size ⟨flat++news,hown,⟨fun row hm=>?_,fun u hu=>?_,?_⟩,fun g hgb=>(hnew g hgb).1,a',n',c',hform⟩ (fun b hb=>(hnew b (hblk _ _ _ b hb)).2),⟨hg.os,hg.tape,⟨hg.output,hdr⟩,hg.size,fun b hb hdb=>?_,fun i v hv=>eF hv,fun _ h=>h,fun _ h=>.inl h,fun b hb=>?_⟩,?_⟩
 ·rcases LZ.1 hm with hm | hm
  ·exact hfl.1 row hm
  ·exact hrow row hm
 ·rcases LZ.1 hu with hu | hu
  ·exact hfl.2.1 u hu
  ·exact h1 u hu
 ·rw [Mj]
  exact (hfl.2.2.append hr).mono (fun _ _ e=>eF e) (fun _ e=>e) (fun b hb=>hk b (.inl hb))
 ·exact hg.block b hb (fun e=>hdb (hfree b e.symm).2.2)
 ·obtain ⟨k,o1,v1,ho1,hl,hv1,hb1⟩:=hb
  rcases fI ho1 with h2 | ⟨rfl,rfl⟩
  ·have hlt:=(LH.1 h2).1
   rw [LO (by rw [h.len];exact hlt)] at hv1
   exact .inl (hd b ⟨k,o1,v1,h2,hl,hv1,hb1⟩)
  ·rw [<- h.len] at hv1
   simp at hv1
   subst hv1
   have hb2:=hblk _ _ _ b hb1
   rcases hat with e | e
   ·rw [e] at hb2;exact .inl (hfree b hb2).2.2
   ·rw [e] at hb2;injection hb2 with hb2;exact .inr (by omega)
 ·rw [hform]
  exact .ref _ _ _ _ (by rw [<- h.len];simp)
theorem Aa {fr:List AV} {a:Act} (ha:ARel σ w F fr a) (hs:Sim aw σ w F) {args:Array Operand} {ats:Array TypeId} {K:AV->List Ob->Prop} (h:vcApp P fr aw args.toList ats.toList K) (o:Oper) (ho:o.op=.call { callee:=.builtin .append,args,argTypes:=ats }) :
  OpOk P aw σ w F (execOp a.eval o) K:=by
 obtain ⟨args⟩:=args
 obtain ⟨ats⟩:=ats
 simp only at h
 unfold vcApp at h
 split at h
 ·rename_i x y t t'
  obtain ⟨rfl,h⟩:=h
  have hx:=ha.ev x
  obtain ⟨F',s1,m1,r1⟩:=qv hs (ha.ev y)
  split at h
  ·rename_i e hu
   split at h
   ·rename_i z rows aw' hz ex en
    rw [en] at s1 m1 r1
    obtain ⟨hzl,h0,hrow,hlen,hby,h⟩:=h
    rw [ex] at hx
    generalize hvx:a.eval x=vx at hx
    cases hx
    obtain ⟨v',w',news,hrun,hown,hg,hat,hr,h1⟩:=zD (ty:=o.type) (old:=[]) (flat:=[]) hu hz hzl h0 hby (World.ownsRow_nil w 0 e (P.cellsOf e)) r1 hrow (by simpa using hlen)
    obtain ⟨s2,m2,r2⟩:=uE (aw0:=aw') (vx:=.slice none 0 0) (old:=[]) (flat:=[]) s1 (fun _ h=>h) ⟨fun _ h=>by simp at h,fun _ h=>by simp at h,.nil⟩ hrow hr h1 hown hg (uk _ hrun) hat (fun b hb=>by simp [Value.ownBlock] at hb)
    refine ⟨v',_,w',_,_,F',_,?_,.inl rfl,s2,m1.trans m2,r2,h⟩
    simp [execOp,ho,resolve,invoke,builtin,Sem.run_bind,hvx,hrun]
   ·rename_i z id rows aw' hz ex en
    rw [en] at s1 m1 r1
    split at h
    ·rename_i e' size old hob
     obtain ⟨rfl,rfl,hzl,h0,hrow,hlen,hby,h⟩:=h
     rw [ex] at hx
     generalize hvx:a.eval x=vx at hx
     cases hx with
     | ref _ A n c hσ =>
      obtain ⟨flat,hown0,hfl,hf,_⟩:=s1.obj id _ _ hob hσ
      obtain ⟨v',w',news,hrun,hown,hg,hat,hr,h1⟩:=zD (ty:=o.type) hu hz hzl h0 hby hown0 r1 hrow hlen
      have s3:=s1.lose id
      have hfree:∀ b,(Value.slice A n c).ownBlock=some b->¬ F' b/\¬ Dof (aw'.set id .dead) σ b/\Dof aw' σ b:=by
       intro b hb;refine ⟨hf b hb,fun hd=>?_,⟨id,_,_,hob,rfl,hσ,(Bk.slice hb)⟩⟩;obtain ⟨k,o1,v1,ho1,hl,hv1,hb1⟩:=hd;rcases eG ho1 with ⟨rfl,rfl,_⟩ | ⟨hne,h2⟩
       ·simp [Ob.live] at hl
       ·exact s1.sep k id o1 _ v1 _ b hne h2 hob hl rfl hv1 hσ hb1 ((Bk.slice hb))
      obtain ⟨s2,m2,r2⟩:=uE (aw0:=aw') (vx:=.slice A n c) s3 (fun _ h=>h.set_dead) hfl hrow hr h1 hown hg (uk _ hrun) hat hfree
      refine ⟨v',_,w',_,_,F',_,?_,.inl rfl,s2,m1.trans m2,by rw [MR] at r2;exact r2,h⟩
      simp [execOp,ho,resolve,invoke,builtin,Sem.run_bind,hvx,hrun]
    ·exact h.elim
   ·exact h.elim
  ·exact h.elim
 ·exact h.elim
theorem Ki {fr:List AV} {a:Act} (ha:ARel σ w F fr a) (hs:Sim aw σ w F) (o:Oper) {K:AV->List Ob->Prop} (h:vcE P fr aw o.op K):OpOk P aw σ w F (execOp a.eval o) K:=by
 cases ho:o.op with
 | alloc e=>rw [ho] at h;exact Ic hs h o ho
 | box e x=>rw [ho] at h;exact e_box ha hs h o ho
 | load t x=>rw [ho] at h;exact J7 ha hs h o ho
 | store t x y=>rw [ho] at h;exact Ja ha hs h o ho
 | slice t x lo hi mx=>rw [ho] at h;exact IR ha hs h o ho
 | convert s d x=>rw [ho] at h;exact FSx ha hs h o ho
 | buildSlice t len parts=>rw [ho] at h;exact Eg ha hs h o ho
 | makeSlice t l c=>rw [ho] at h;exact EH ha hs h o ho
 | call c =>
  rw [ho] at h;obtain ⟨callee,args,ats⟩:=c;simp only [vcE] at h;split at h
  ·exact Aa ha hs h o ho
  ·exact h.elim
 | _=>rw [ho] at h;exact (show False from h).elim
theorem Hx {fr:List AV} {a:Act} (ha:ARel σ w F fr a) (hs:Sim aw σ w F) (o:Oper) {K:AV->List Ob->Prop} (h:gB P fr aw o.op K):OpOk P aw σ w F (execOp a.eval o) K:=by
 unfold gB at h;split at h
 ·obtain ⟨v,r,h1,h2,h3⟩:=vu ha hs o h;exact ⟨v,_,w,aw,σ,F,r,h1 w (fun _ _=>rfl),.inl rfl,hs,.refl ..,h2,h3⟩
 ·exact Ki ha hs o h
end
end
section
open Go.RowKit
def ACalls (P:Program) (f:FuncId) (args:List AV) (aw:List Ob) (Q:AV->List Ob->Prop):Prop :=
 (∀ vs w,(callFunc f vs).run P w=.ok (.enter f vs) w) /\
 ∀ w F σ vs,Sim aw σ w F->RelL σ w F args vs->Calls P f vs.toArray w fun e w'=>∃ v r aw' σ' F',e=.returned v/\Q r aw'/\Sim aw' σ' w' F'/\Rel σ' w' F' r v/\Mv aw σ w F aw' σ' w' F'
theorem ACalls.mono {P:Program} {f:FuncId} {args:List AV} {aw:List Ob} {Q Q':AV->List Ob->Prop} (h:ACalls P f args aw Q) (hq:∀ r aw',Q r aw'->Q' r aw'):ACalls P f args aw Q' :=
 ⟨h.1,fun w F σ vs hs ha=>(h.2 w F σ vs hs ha).mono fun _ _ ⟨v,r,aw',σ',F',he,hQ,rest⟩=>⟨v,r,aw',σ',F',he,hq _ _ hQ,rest⟩⟩
def Pure (a:AV):Prop:=∀ σ w F v,Rel σ w F a v->∀ σ',Rel σ' w F a v
def flat0:AV->Bool
 | .int _ _ | .bool _ | .str _ | .nils | .nilp | .nilf | .nili=>true
 | _=>false
def flat1:AV->Bool
 | .agg cs=>cs.all flat0
 | a=>flat0 a
def flat:AV->Bool
 | .tup vs=>vs.all flat1
 | a=>flat1 a
def AV.shift (n:Nat):AV->AV
 | .ref k=>.ref (n+k)
 | .tup vs=>.tup (vs.map fun | .ref k=>.ref (n+k) | a=>a)
 | a=>a
def flatR:AV->Bool
 | .tup vs=>vs.all fun | .ref _=>true | a=>flat1 a
 | .ref _=>true
 | a=>flat1 a
def eH:Ob->Bool
 | .arr _ _ rows=>rows.all fun row=>row.all flat0
 | _=>false
def CallK (P:Program) (f:FuncId) (args:List AV) (aw aw1:List Ob) (K:AV->List Ob->Prop):Prop :=
 (∃ Q,ACalls P f args aw1 Q/\∀ r aw',Q r aw'->K r aw') ∨
 (∃ Q,ACalls P f args [] Q/\(∀ a,a∈args->Pure a)/\∀ r aw',Q r aw'->(flat r=true/\K r aw)∨(aw'=[]/\Pure r/\K r aw1) ∨
  (∃ e s rows,aw'=[.arr e s rows]/\(∀ row,row∈rows->∀ x,x∈row->Pure x)/\((∃ k,r=.ref k)∨∃ vs,r=.tup vs/\∀ x,x∈vs->Pure x∨∃ k,x=.ref k)/\K (r.shift aw1.length) (aw1++aw')) ∨
  (flatR r=true/\aw'.all eH=true/\K (r.shift aw.length) (aw++aw')))
def fe (P:Program) (o:Oper) (fr:List AV) (aw:List Ob) (K:AV->List Ob->Prop):Prop :=
 match o.op with
 | .call { callee:=.value f,args,.. } =>
  (match ev fr f with
  | .func g caps=>CallK P g ((dE aw (args.toList.map (ev fr))).1++caps) aw (dE aw (args.toList.map (ev fr))).2 K
  | _=>False)
 | op=>gB P fr aw op K
def putF (fr:List AV) (d:Option Tmp) (r:AV):List AV:=match d with | some t=>fr.set t r | none=>fr
def Cw (rest:List AV->List Ob->Prop) (fr:List AV) (dst:Option Tmp) (r:AV) (aw:List Ob):Prop:=rest (putF fr dst r) aw
def vcOps (P:Program) (ops:Array Oper):List Oper->(List AV->List Ob->Prop)->List AV->List Ob->Prop
  | [],K,fr,aw=>K fr aw
  | o :: rest,K,fr,aw =>
    match o.guard with
    | none=>fe P o fr aw (Cw (vcOps P ops rest K) fr o.dst)
    | some (j,want) =>
      match (ops[j]?).bind (·.dst) with
      | none=>False
      | some t=>match fr[t]? with
        | some (.bool b)=>if b=want then fe P o (fr.set t (.bool want)) aw (Cw (vcOps P ops rest K) (fr.set t (.bool want)) o.dst)
            else vcOps P ops rest K (putF (fr.set t (.bool !want)) o.dst .any) aw
        | _=>False
def Ren (ρ:List Nat) (a' a:AV):Prop:=∀ σ w F v,Rel σ w F a v->∀ σ',(∀ (k id:Nat),ρ[k]?=some id->σ'[k]?=σ[id]?)->Rel σ' w F a' v
def ck (ρ:List Nat):List AV->List AV->Prop
 | [],[]=>True
 | a'::as',a::as₀=>Ren ρ a' a/\ck ρ as' as₀
 | _,_=>False
def RenO (ρ:List Nat):Ob->Ob->Prop
 | .dead,_=>True
 | .box cs',.box cs=>ck ρ cs' cs
 | .boxB t' cs',.boxB t cs=>t'=t/\ck ρ cs' cs
 | .box cs',.boxB _ cs=>ck ρ cs' cs
 | .arr e' s' rows',.arr e s rows=>e'=e/\s'=s/\rows'=rows/\∀ row,row∈rows->∀ x,x∈row->Ren ρ x x
 | .mp ks' vs',.mp ks vs=>ck ρ ks' ks/\ck ρ vs' vs
 | .hd e' k',.hd e k=>e'=e/\ρ[k']?=some k
 | .cl e' s' cells',.cl e s cells=>e'=e/\s'=s/\cells'=cells/\∀ rows,(Cell.own rows∈cells∨Cell.fz rows∈cells)->∀ row,row∈rows->∀ x,x∈row->Pure x
 | _,_=>False
def bR (ρ:List Nat) (aw:List Ob):List Nat->List Ob->Prop
 | [],[]=>True
 | id::ids,o'::aw'=>(∃ o,aw[id]?=some o/\RenO ρ o' o)/\bR ρ aw ids aw'
 | _,_=>False
def nilify:List (Nat × TypeId × Nat)->List AV->List Ob->List AV × List Ob
 | [],fr,aw=>(fr,aw)
 | (s,e,z)::r,fr,aw =>
  match fr[s]? with
  | some .nils=>nilify r (fr.set s (.ref aw.length)) (aw++[.arr e z []])
  | _=>nilify r fr aw
def Weak (n:Nat) (fr:List AV) (aw:List Ob) (fr':List AV) (aw':List Ob):Prop :=
 ∃ (nl:List (Nat × TypeId × Nat)) (ρ:List Nat),ρ.Nodup/\(∀ k,k<n->ρ[k]?=some k)/\ck ρ fr' (nilify nl fr aw).1/\bR ρ (nilify nl fr aw).2 ρ aw'
def loopQ (n:Nat) (I:Nat->List AV->List Ob->Prop) (m:Nat) (Q:Exit->List AV->List Ob->Prop):Exit->List AV->List Ob->Prop
 | .normal,fr1,aw1=>∃ m' fr' aw',m' < m/\Weak n fr1 aw1 fr' aw'/\I m' fr' aw'
 | e,fr1,aw1=>Q e fr1 aw1
def Loop (n:Nat) (body:(Exit->List AV->List Ob->Prop)->List AV->List Ob->Prop) (Q:Exit->List AV->List Ob->Prop) (fr:List AV) (aw:List Ob):Prop :=
 ∃ I:Nat->List AV->List Ob->Prop,(∃ m fr' aw',Weak n fr aw fr' aw'/\I m fr' aw')/\∀ m fr aw,I m fr aw->body (loopQ n I m Q) fr aw
def thenA (K:List AV->List Ob->Prop) (Q:Exit->List AV->List Ob->Prop):Exit->List AV->List Ob->Prop
 | .normal,fr,aw=>K fr aw
 | e,fr,aw=>Q e fr aw
def lU (id:Nat) (Q:Exit->List AV->List Ob->Prop):Exit->List AV->List Ob->Prop
 | .exit id',fr,aw=>if id'=id then Q .normal fr aw else Q (.exit id') fr aw
 | e,fr,aw=>Q e fr aw
def onlyN (R:Act->World->Prop):Exit->Act->World->Prop
 | .normal,a,w=>R a w
 | _,_,_=>False
def Drawn (P:Program) (id:Nat) (ops:Array Oper) (K:List AV->List Ob->Prop) (s:List AV) (aw:List Ob):Prop :=
 ∀ (st:St) (R:Act->World->Prop) (σ:List Value) (w:World) (F:Nat->Prop) (a:Act),
  (∀ fr aw σ w F a,Cur st fr aw σ w F a->K fr aw->R a w)->Cur st s aw σ w F a->(Code.region id ops true).wp P (onlyN R) a w
def vc (P:Program) (n:Nat):Code->(Exit->List AV->List Ob->Prop)->List AV->List Ob->Prop
 | .skip,Q,fr,aw=>Q .normal fr aw
 | .region id ops draw,Q,fr,aw=>if draw=true then Drawn P id ops (Q .normal) fr aw else vcOps P ops ops.toList (Q .normal) fr aw
 | .seq x y,Q,fr,aw=>vc P n x (thenA (vc P n y Q) Q) fr aw
 | .cond c x y,Q,fr,aw=>(match ev fr c with
  | .bool b=>if b=true then vc P n x Q fr aw else vc P n y Q fr aw
  | _=>False)
 | .block id c,Q,fr,aw=>vc P n c (lU id Q) fr aw
 | .loop c,Q,fr,aw=>Loop n (vc P n c) Q fr aw
 | .exit id,Q,fr,aw=>Q (.exit id) fr aw
 | .ret,Q,fr,aw=>Q .ret fr aw
 | _,_,_,_=>False
def bN (P:Program) (fr:List AV) (aw:List Ob):List ResultVar->(List AV->Prop)->Prop
 | [],K=>K []
 | .tmp t::rs,K=>bN P fr aw rs fun vs=>K (fr.getD t .any::vs)
 | .cell a t::rs,K=>vcQ P fr aw (.load t (.tmp a)) fun v=>bN P fr aw rs fun vs=>K (v::vs)
def cZ:List AV->AV
 | [v]=>v
 | vs=>.tup vs
def fY (aw:List Ob):AV->AV × List Ob
 | .tup vs=>(.tup (dE aw vs).1,(dE aw vs).2)
 | a=>norm aw a
def WeakR (n:Nat) (r:AV) (aw:List Ob) (r':AV) (aw':List Ob):Prop :=
 ∃ ρ:List Nat,ρ.Nodup/\(∀ k,k<n->ρ[k]?=some k)/\Ren ρ r' r/\bR ρ aw ρ aw'
def Ret (n:Nat) (Q:AV->List Ob->Prop) (aw:List Ob) (vs:List AV):Prop :=
 ∃ (nl:List (Nat × TypeId × Nat)) (z:Bool) (r':AV) (aw':List Ob),
  WeakR n (if z=true then fY (nilify nl vs aw).2 (cZ (nilify nl vs aw).1) else (cZ (nilify nl vs aw).1,(nilify nl vs aw).2)).1
   (if z=true then fY (nilify nl vs aw).2 (cZ (nilify nl vs aw).1) else (cZ (nilify nl vs aw).1,(nilify nl vs aw).2)).2 r' aw'/\Q r' aw'
def retQ (P:Program) (fn:Func) (n:Nat) (Q:AV->List Ob->Prop):Exit->List AV->List Ob->Prop
 | .normal,fr,aw | .ret,fr,aw=>bN P fr aw fn.results.toList (Ret n Q aw)
 | _,_,_=>False
end
section
open Go.RowKit
section
variable {P:Program} {σ:List Value} {w:World} {F:Nat→Prop} {aw:List Ob}
theorem AQ {ρ:List Nat}:∀ {as' as₀:List AV},ck ρ as' as₀->as'.length=as₀.length/\∀ (j:Nat) a' a,as'[j]?=some a'->as₀[j]?=some a->Ren ρ a' a
 | [],[],_=>⟨rfl,fun j a' a h=>by simp at h⟩
 | a'::as',a::as₀,h=>by
  obtain ⟨h1,h2⟩:=AQ h.2;refine ⟨by simp [h1],fun j x y hx hy=>?_⟩;cases j with
  | zero=>simp at hx hy;subst hx;subst hy;exact h.1
  | succ j=>exact h2 j x y (by simpa using hx) (by simpa using hy)
 | [],_::_,h=>h.elim
 | _::_,[],h=>h.elim
theorem fa {ρ:List Nat} {as' as₀:List AV} {vs σ':List Value} (h:ck ρ as' as₀) (hr:RelL σ w F as₀ vs) (hσ:∀ (k id:Nat),ρ[k]?=some id->σ'[k]?=σ[id]?):RelL σ' w F as' vs:=by
 obtain ⟨h1,h2⟩:=AQ h;refine ⟨hr.1.trans h1.symm,fun j a v ha hv=>?_⟩;have hlt:j<as₀.length:=by rw [<- h1];exact (LH.1 ha).1
 exact h2 j a _ ha (LG hlt) σ w F v (hr.2 j _ v (LG hlt) hv) σ' hσ
theorem jp {ρ:List Nat}:∀ {ids:List Nat} {aw':List Ob},bR ρ aw ids aw'->aw'.length=ids.length/\∀ (k:Nat) o',aw'[k]?=some o'->∃ id o,ids[k]?=some id/\aw[id]?=some o/\RenO ρ o' o
 | [],[],_=>⟨rfl,fun k o' h=>by simp at h⟩
 | id::ids,o'::aw',h=>by
  obtain ⟨h1,h2⟩:=jp h.2;refine ⟨by simp [h1],fun k x hx=>?_⟩;cases k with
  | zero=>simp at hx;subst hx;obtain ⟨o,h3,h4⟩:=h.1;exact ⟨id,o,rfl,h3,h4⟩
  | succ k=>obtain ⟨i,o,h3,h4⟩:=h2 k x (by simpa using hx);exact ⟨i,o,by simpa using h3,h4⟩
 | [],_::_,h=>h.elim
 | _::_,[],h=>h.elim
theorem rU {σ':List Value}:∀ {rows:List (List AV)},(∀ row,row∈rows->∀ x,x∈row->∀ v,Rel σ w F x v->Rel σ' w F x v)->∀ {flat:List Value},RelL σ w F rows.flatten flat->RelL σ' w F rows.flatten flat:=by intro rows h flat hr;refine ⟨hr.1,fun j x v hx hv=>?_⟩;obtain ⟨row,hrow,hm⟩:=List.mem_flatten.1 (LJ hx);exact h row hrow x hm v (hr.2 j x v hx hv)
theorem zW {σ':List Value} {e2 size:Nat} {c:Cell} {x:Value} (h:CellRel σ w F e2 size c x) (hp:∀ rows,(Cell.own rows=c∨Cell.fz rows=c)->∀ row,row∈rows->∀ y,y∈row->Pure y):CellRel σ' w F e2 size c x:=by
 cases c with
 | own rows =>
  obtain ⟨flat,h1,h2,h3,h4⟩:=h;exact ⟨flat,h1,⟨h2.1,h2.2.1,rU (fun row hr y hy v hv=>hp rows (.inl rfl) row hr y hy σ w F v hv _) h2.2.2⟩,h3,h4⟩
 | fz rows =>
  have h:Rel σ w F (.sl rows) x:=h;cases h with
  | slNil=>exact Rel.slNil
  | sl _ sz ad c u h1 h2 h3 h4 h5 h6 h7=>exact Rel.sl rows sz ad c u h1 h2 h3 h4 h5 h6 (fun i row j y hi hj=>hp rows (.inr rfl) row (LJ hi) y (LJ hj) σ w F _ (h7 i row j y hi hj) _)
 | hole=>trivial
theorem sI {ρ:List Nat} {o' o:Ob} {v:Value} {b:Nat} (h:RenO ρ o' o) (hb:Bk o' v b):Bk o v b:=by
 cases o' with
 | dead=>exact hb.elim
 | cl e s cells =>
  cases o with
  | cl e' s' cells'=>obtain ⟨rfl,rfl,rfl,_⟩:=h;exact hb
  | _=>exact h.elim
 | _=>cases o<;>first | exact hb | exact h.elim
theorem gZ {ρ:List Nat} {aw':List Ob} (h:Sim aw σ w F) (hnd:ρ.Nodup) (hw:bR ρ aw ρ aw') :
  ∃ σ':List Value,(∀ (k id:Nat),ρ[k]?=some id->σ'[k]?=σ[id]?)/\Sim aw' σ' w F/\(∀ b,Dof aw' σ' b->Dof aw σ b):=by
 obtain ⟨hl,hg⟩:=jp hw
 have hσ:∀ (k id:Nat),ρ[k]?=some id->(ρ.map fun id=>σ.getD id undef)[k]?=σ[id]?:=fun k id hk=>by
  have hk1:k<aw'.length:=by rw [hl];exact (LH.1 hk).1
  obtain ⟨id',o,h1,h2,_⟩:=hg k _ (LG hk1);rw [hk] at h1;cases h1;have hid:id<σ.length:=by rw [h.len];exact (LH.1 h2).1
  rw [LT,hk];simp [LL,LG hid]
 have live:∀ {o' o:Ob},RenO ρ o' o->o'.live=true->o.live=true:=fun {o' o} hr hlv=>by cases o'<;>cases o<;>simp_all [RenO,Ob.live]
 refine ⟨ρ.map fun id=>σ.getD id undef,hσ,⟨by simp [hl],fun k o' v ho' hv=>?_,fun k k' o1 o2 v1 v2 g hne ho1 ho2 hl1 hl2 hv1 hv2 hb1 hb2=>?_,h.lt⟩,fun b hb=>?_⟩
 ·obtain ⟨id,o,h1,h2,h3⟩:=hg k o' ho'
  rw [hσ k id h1] at hv
  have hr:=h.obj id o v h2 hv
  cases o' with
  | dead=>trivial
  | mp ks' vs'=>cases o with
   | mp ks vs =>
    obtain ⟨g,es,clock,e1,hg1,hk,hv',hf⟩:=hr
    exact ⟨g,es,clock,e1,hg1,fa h3.1 hk hσ,fa h3.2 hv' hσ,hf⟩
   | _=>exact h3.elim
  | hd e' k'=>cases o with
   | hd e k2 =>
    obtain ⟨rfl,hk2⟩:=h3
    obtain ⟨us,g1,g2,g3,g4,g5⟩:=hr
    exact ⟨us,by rw [hσ _ _ hk2];exact g1,g2,g3,g4,g5⟩
   | _=>exact h3.elim
  | cl e' s' cells'=>cases o with
   | cl e s cells =>
    obtain ⟨rfl,rfl,rfl,hp⟩:=h3
    obtain ⟨us,e1,hl1,hc,hd⟩:=hr
    exact ⟨us,e1,hl1,fun i c x h1 h2=>zW (hc i c x h1 h2) (fun rows hrr=>hp rows (hrr.imp (fun (e:Cell.own rows=c)=>by rw [e];exact LJ h1) (fun (e:Cell.fz rows=c)=>by rw [e];exact LJ h1))),hd⟩
   | _=>exact h3.elim
  | arrU e' s' rows' x'=>cases o<;>exact h3.elim
  | boxB t' cs'=>cases o with
   | boxB t cs =>
    obtain ⟨rfl,h3⟩:=h3
    obtain ⟨g,vs,e1,hg1,hr1,h11,hf⟩:=hr
    exact ⟨g,vs,e1,hg1,fa h3 hr1 hσ,h11,hf⟩
   | _=>exact h3.elim
  | box cs'=>cases o with
   | boxB t cs =>
    obtain ⟨g,vs,e1,hg1,hr1,h11,hf⟩:=hr
    exact ⟨g,vs,t,e1,hg1,fa h3 hr1 hσ,h11,hf⟩
   | mp ks vs=>exact h3.elim
   | hd e k2=>exact h3.elim
   | cl e s cells=>exact h3.elim
   | arrU e s rows x=>exact h3.elim
   | dead=>exact h3.elim
   | arr e s rows=>exact h3.elim
   | box cs =>
    obtain ⟨g,vs,ty,e1,hg1,hr1,h11,hf⟩:=hr
    exact ⟨g,vs,ty,e1,hg1,fa h3 hr1 hσ,h11,hf⟩
  | arr e' s' rows'=>cases o with
   | boxB t cs=>exact h3.elim
   | mp ks vs=>exact h3.elim
   | hd e k2=>exact h3.elim
   | cl e s cells=>exact h3.elim
   | arrU e s rows x=>exact h3.elim
   | dead=>exact h3.elim
   | box cs=>exact h3.elim
   | arr e s rows =>
    obtain ⟨rfl,rfl,rfl,h4⟩:=h3
    obtain ⟨flat,hown,hfl,hf,hform⟩:=hr
    exact ⟨flat,hown,⟨hfl.1,hfl.2.1,rU (fun row hrow x hx v hxv=>h4 row hrow x hx σ w F v hxv _ hσ) hfl.2.2⟩,hf,hform⟩
 ·obtain ⟨id1,p1,a1,a2,a3⟩:=hg k o1 ho1
  obtain ⟨id2,p2,b1,b2,b3⟩:=hg k' o2 ho2
  rw [hσ k id1 a1] at hv1
  rw [hσ k' id2 b1] at hv2
  refine h.sep id1 id2 p1 p2 v1 v2 g (fun e=>hne ?_) a2 b2 (live a3 hl1) (live b3 hl2) hv1 hv2 (sI a3 hb1) (sI b3 hb2)
  subst e
  exact (List.getElem?_inj (LH.1 a1).1 hnd).1 (a1.trans b1.symm)
 ·obtain ⟨k,o',v,ho',hlv,hv,hbv⟩:=hb
  obtain ⟨id,o,h1,h2,h3⟩:=hg k o' ho'
  rw [hσ k id h1] at hv
  exact ⟨id,o,v,h2,live h3 hlv,hv,sI h3 hbv⟩
theorem Mv.ren {st:St} {ρ:List Nat} {aw':List Ob} {σ':List Value} (hl:st.σ.length=st.aw.length) (hm:Mv st.aw st.σ st.w st.F aw σ w F) (hρ:∀ k,k<st.aw.length->ρ[k]?=some k) (hσ:∀ (k id:Nat),ρ[k]?=some id->σ'[k]?=σ[id]?)
  (hd:∀ b,Dof aw' σ' b->Dof aw σ b):Mv st.aw st.σ st.w st.F aw' σ' w F:=by
 refine ⟨hm.os,hm.tape,hm.output,hm.size,hm.keep,fun i v hv=>?_,hm.sub,hm.sup,fun b hb=>hm.own b (hd b hb)⟩
 have hi:i<st.aw.length:=by rw [<- hl];exact (LH.1 hv).1
 rw [hσ i i (hρ i hi)]
 exact hm.pre i v hv
theorem sH (e:TypeId) (z:Nat) (h:Sim aw σ w F):Sim (aw++[.arr e z []]) (σ++[.slice none 0 0]) w F/\Mv aw σ w F (aw++[.arr e z []]) (σ++[.slice none 0 0]) w F/\Rel (σ++[.slice none 0 0]) w F (.ref aw.length) (.slice none 0 0):=by
 refine ⟨h.push2 _ _ (fun _ _=>rfl) (LM _) ⟨[],⟨by simp,.inl ⟨rfl,rfl⟩⟩,⟨by simp,by simp,.nil⟩,fun g hg=>(by cases hg),_,_,_,rfl⟩ (fun b hb=>by cases hb),
  ⟨rfl,rfl,drO,LM _,fun _ _ _=>rfl,fun i v hv=>eF hv,fun _ h=>h,fun _ h=>.inl h,fun b hb=>?_⟩,.ref _ _ _ _ (by rw [<- h.len];simp)⟩
 obtain ⟨k,o1,v1,ho1,hl,hv1,hb1⟩:=hb;rcases fI ho1 with h2 | ⟨rfl,rfl⟩
 ·have hlt:=(LH.1 h2).1;rw [LO (by rw [h.len];exact hlt)] at hv1;exact .inl ⟨k,o1,v1,h2,hl,hv1,hb1⟩
 ·rw [<- h.len] at hv1;simp at hv1;subst hv1;cases hb1
theorem nX:∀ (nl:List (Nat × TypeId × Nat)) {fr:List AV} {vs:List Value} {aw:List Ob} {σ:List Value},Sim aw σ w F->RelL σ w F fr vs ->
  ∃ σ',Sim (nilify nl fr aw).2 σ' w F/\RelL σ' w F (nilify nl fr aw).1 vs/\Mv aw σ w F (nilify nl fr aw).2 σ' w F
 | [],fr,vs,aw,σ,hs,hr=>⟨σ,hs,hr,.refl ..⟩
 | (s,e,z)::r,fr,vs,aw,σ,hs,hr=>by
  unfold nilify;split
  ·rename_i hn;obtain ⟨v,hv,hrv⟩:=hr.get hn;cases hrv;obtain ⟨s1,m1,r1⟩:=sH e z hs;have hr1:RelL (σ++[.slice none 0 0]) w F (fr.set s (.ref aw.length)) vs:=by
    have:=(m1.relL hs hr).set s r1;have e1:vs.set s (.slice none 0 0)=vs:=by obtain ⟨hlt,hvs⟩:=LH.1 hv;rw [<- hvs];exact MK hlt
    rwa [e1] at this
   obtain ⟨σ',s2,r2,m2⟩:=nX r s1 hr1;exact ⟨σ',s2,r2,m1.trans m2⟩
  ·exact nX r hs hr
theorem Cur.weak {st:St} {fr fr':List AV} {aw':List Ob} {a:Act} (hl:st.σ.length=st.aw.length) (h:Cur st fr aw σ w F a) (hw:Weak st.aw.length fr aw fr' aw'):∃ σ',Cur st fr' aw' σ' w F a:=by obtain ⟨nl,ρ,hnd,hρ,hf,hW⟩:=hw;obtain ⟨σ1,s1,r1,m1⟩:=nX nl h.sim h.fr.1;obtain ⟨σ',hσ,hs,hd⟩:=gZ s1 hnd hW;exact ⟨σ',hs,⟨fa hf r1 hσ,h.fr.2⟩,Mv.ren hl (h.mv.trans m1) hρ hσ hd,h.ds⟩
theorem uB {r:AV} {v:Value} {σ':List Value} {w':World} {F':Nat->Prop} (hf:flat0 r=true) (h:Rel σ w F r v):Rel σ' w' F' r v:=by
 cases h<;>simp [flat0] at hf
 ·exact .int _ _
 ·exact .bool _
 ·exact .str _
 ·exact .nils
 ·exact .nilf
 ·exact .nilp
 ·exact .nili
theorem sk {r:AV} {v:Value} {σ':List Value} {w':World} {F':Nat->Prop} (hf:flat1 r=true) (h:Rel σ w F r v):Rel σ' w' F' r v:=by
 cases r with
 | agg cs =>
  cases h with
  | agg _ vs hl h1 hc =>
   simp only [flat1,Mz] at hf;exact .agg cs vs hl h1 (fun j c u hcj hu=>uB (hf c (LJ hcj)) (hc j c u hcj hu))
 | _=>exact uB hf h
theorem sv {r:AV} {v:Value} {σ':List Value} {w':World} {F':Nat->Prop} (hf:flat r=true) (h:Rel σ w F r v):Rel σ' w' F' r v:=by
 cases r with
 | tup cs =>
  cases h with
  | tup _ vs hl hc =>
   simp only [flat,Mz] at hf;exact .tup cs vs hl (fun j c u hcj hu=>sk (hf c (LJ hcj)) (hc j c u hcj hu))
 | _=>exact sk hf h
theorem Sim.beside {w':World} {F':Nat->Prop} {σ':List Value} {aw':List Ob} (h:Sim aw σ w' F) (h':Sim aw' σ' w' F') (hF:∀ b,F b->F' b) (hfl:aw'.all eH=true)
  (hnew:∀ b,Dof aw σ b->¬ Dof aw' σ' b):Sim (aw++aw') (σ++σ') w' F:=by
 have old:∀ (k:Nat) o v,(aw++aw')[k]?=some o->(σ++σ')[k]?=some v->(aw[k]?=some o/\σ[k]?=some v)∨(aw.length<=k/\aw'[k - aw.length]?=some o/\σ'[k - aw.length]?=some v):=fun k o v ho hv=>by
  rw [Mr] at ho hv;rw [h.len] at hv;split at ho
  ·rename_i hlt;rw [if_pos hlt] at hv;exact .inl ⟨ho,hv⟩
  ·rename_i hlt;rw [if_neg hlt] at hv;exact .inr ⟨by omega,ho,hv⟩
 have hsep:∀ (k k':Nat) o o' v v' g,aw[k]?=some o->σ[k]?=some v->aw'[k']?=some o'->σ'[k']?=some v'->o.live=true->o'.live=true->Bk o v g->Bk o' v' g->False :=
  fun k k' o o' v v' g a1 a2 a3 a4 a5 a6 a7 a8=>hnew g ⟨k,o,v,a1,a5,a2,a7⟩ ⟨k',o',v',a3,a6,a4,a8⟩
 refine ⟨by simp [h.len,h'.len],fun k o v ho hv=>?_,fun k k' o o' v v' g hne ho ho' hl hl' hv hv' hb hb'=>?_,h.lt⟩
 ·rcases old k o v ho hv with ⟨h1,h2⟩ | ⟨_,h1,h2⟩
  ·refine (h.obj k o v h1 h2).mono (fun i u hu=>?_) (fun _ e=>e) (fun _ _=>rfl) (fun hl b hb=>⟨rfl,h.free ⟨k,o,v,h1,hl,h2,hb⟩⟩)
   rw [LO (LH.1 hu).1];exact hu
  ·have hob:=h'.obj _ o v h1 h2
   have hf:=Mz.1 hfl o (LJ h1)
   cases o with
   | dead=>simp [eH] at hf
   | box cs=>simp [eH] at hf
   | mp ks vs=>simp [eH] at hf
   | hd e k2=>simp [eH] at hf
   | cl e s cs=>simp [eH] at hf
   | arrU e s rows x=>simp [eH] at hf
   | boxB t cs=>simp [eH] at hf
   | arr e s rows =>
    simp only [eH,Mz] at hf
    obtain ⟨fl,hown,hfr,hnf,A,n,c,hform⟩:=hob
    exact ⟨fl,hown,⟨hfr.1,hfr.2.1,⟨hfr.2.2.1,fun j x v hx hv=>by obtain ⟨row,hrow,hm⟩:=List.mem_flatten.1 (LJ hx);exact uB (hf row hrow x hm) (hfr.2.2.2 j x v hx hv)⟩⟩,fun g hg hFg=>hnf g hg (hF g hFg),A,n,c,hform⟩
 ·rcases old k o v ho hv with ⟨h1,h2⟩ | ⟨h0,h1,h2⟩<;>rcases old k' o' v' ho' hv' with ⟨h3,h4⟩ | ⟨h5,h3,h4⟩
  ·exact h.sep k k' o o' v v' g hne h1 h3 hl hl' h2 h4 hb hb'
  ·exact hsep k _ o o' v v' g h1 h2 h3 h4 hl hl' hb hb'
  ·exact hsep k' _ o' o v' v g h3 h4 h1 h2 hl' hl hb' hb
  ·exact h'.sep _ _ o o' v v' g (by omega) h1 h3 hl hl' h2 h4 hb hb'
theorem HW {st:St} {fr:List AV} {a:Act} {f:FuncId} {xs:List AV} {vs:List Value} {K:AV->List Ob->Prop} (hc:Cur st fr aw σ w F a) {F1:Nat->Prop} {aw1:List Ob} (s1:Sim aw1 σ w F1) (m1:Mv aw σ w F aw1 σ w F1) (hr:RelL σ w F1 xs vs)
  (h:CallK P f xs aw aw1 K):(∀ vs w,(callFunc f vs).run P w=.ok (.enter f vs) w)/\Calls P f vs.toArray w fun e w'=>∃ v r aw' σ' F',e=.returned v/\K r aw'/\Cur st fr aw' σ' w' F' a/\Rel σ' w' F' r v:=by
 rcases h with ⟨Q,hA,hQ⟩ | ⟨Q,hA,hp,hQ⟩
 ·refine ⟨hA.1,(hA.2 w F1 σ vs s1 hr).mono ?_⟩
  rintro e w' ⟨v,r,aw',σ',F',rfl,hq,hs,hrel,hm⟩
  exact ⟨v,r,aw',σ',F',rfl,hQ r aw' hq,hc.step hs (m1.trans hm),hrel⟩
 ·have s0:Sim [] [] w F1:=⟨rfl,fun k o v ho=>by simp at ho,fun k k' o o' v v' g _ ho=>by simp at ho,s1.lt⟩
  have r0:RelL [] w F1 xs vs:=⟨hr.1,fun j x v hx hv=>hp x (LJ hx) σ w F1 v (hr.2 j x v hx hv) []⟩
  refine ⟨hA.1,(hA.2 w F1 [] vs s0 r0).mono ?_⟩
  rintro e w' ⟨v,r,aw',σ',F',rfl,hq,hs,hrel,hm⟩
  have hno:∀ b,¬ Dof [] [] b:=fun b ⟨k,o,v,ho,_⟩=>by simp at ho
  have hk:∀ b,b<w.heap.size->w'.heap[b]?=w.heap[b]?:=fun b hb=>hm.keep b hb (hno b)
  rcases hQ r aw' hq with ⟨hfl,hK⟩ | ⟨rfl,hpr,hK⟩ | ⟨e,sz,rows,rfl,hrows,hrr,hK⟩ | ⟨hfr,hfo,hK⟩
  ·refine ⟨v,r,aw,σ,F,rfl,hK,hc.step (hc.sim.grow (fun _ h=>h) (fun _ h=>.inl h) (fun b hb=>MP (hc.sim.lt b hb) hm.size) hk) (.grow (fun _ h=>h) (fun _ h=>.inl h) hm.os hm.tape hm.output hm.size hk),sv hfl hrel⟩
  ·have hsup:∀ b,F' b->F1 b∨w.heap.size<=b:=fun b hb=>(hm.sup b hb).imp (fun h=>h) (fun h=>h.elim (fun h=>absurd h (hno b)) (fun h=>h))
   refine ⟨v,r,aw1,σ,F',rfl,hK,hc.step (s1.grow hm.sub hsup hs.lt hk) (m1.trans (.grow hm.sub hsup hm.os hm.tape hm.output hm.size hk)),hpr _ _ _ _ hrel σ⟩
  ·have hsup:∀ b,F' b->F1 b∨w.heap.size<=b:=fun b hb=>(hm.sup b hb).imp (fun h=>h) (fun h=>h.elim (fun h=>absurd h (hno b)) (fun h=>h))
   have sg:Sim aw1 σ w' F':=s1.grow hm.sub hsup hs.lt hk
   have mg:Mv aw1 σ w F1 aw1 σ w' F':=.grow hm.sub hsup hm.os hm.tape hm.output hm.size hk
   match σ',hs.len with
   | [v0],_ =>
    obtain ⟨flat,hown,hfl,hf,A,n,c,hform⟩:=hs.obj 0 _ v0 rfl rfl
    have hnewb:∀ b,Bk (.arr e sz rows) v0 b->w.heap.size<=b:=fun b hb=>(hm.own b ⟨0,_,v0,rfl,rfl,rfl,hb⟩).elim (fun h=>absurd h (hno b)) (fun h=>h)
    have hpre:∀ x v,Pure x->Rel [v0] w' F' x v->Rel (σ++[v0]) w' F' x v:=fun x v hx hxv=>hx _ _ _ _ hxv _
    have hpush:Sim (aw1++[.arr e sz rows]) (σ++[v0]) w' F':=by refine sg.push2 _ _ (fun _ _=>rfl) (LM _) ⟨flat,hown,⟨hfl.1,hfl.2.1,rU (fun row hrow x hx v hxv=>hpre x v (hrows row hrow x hx) hxv) hfl.2.2⟩,hf,A,n,c,hform⟩ (fun b hb hd=>?_);have:=hnewb b hb;have:=s1.lt_own hd;omega
    have hmv:Mv aw1 σ w F1 (aw1++[.arr e sz rows]) (σ++[v0]) w' F':=by
     refine ⟨hm.os,hm.tape,hm.output,hm.size,fun b hb _=>hk b hb,fun i v hv=>eF hv,hm.sub,fun b hb=>(hsup b hb).imp (fun h=>h) .inr,fun b hb=>?_⟩;obtain ⟨k,o1,v1,ho1,hl1,hv1,hb1⟩:=hb;rcases fI ho1 with h2 | ⟨rfl,rfl⟩
     ·have hlt:=(LH.1 h2).1;rw [LO (by rw [s1.len];exact hlt)] at hv1;exact .inl ⟨k,o1,v1,h2,hl1,hv1,hb1⟩
     ·rw [<- s1.len] at hv1;simp at hv1;subst hv1;exact .inr (hnewb b hb1)
    have href:∀ k v,Rel [v0] w' F' (.ref k) v->Rel (σ++[v0]) w' F' (.ref (aw1.length+k)) v:=by
     intro k v hkv;cases hkv with
     | ref _ A n c h =>
      cases k with
      | succ k=>simp at h
      | zero =>
       refine .ref _ A n c ?_;rw [<- s1.len,MB];simpa using h
    refine ⟨v,r.shift aw1.length,_,_,F',rfl,hK,hc.step hpush (m1.trans hmv),?_⟩
    rcases hrr with ⟨k,rfl⟩ | ⟨ys,rfl,hys⟩
    ·exact href k v hrel
    ·cases hrel with
     | tup _ us hl hcs =>
      refine .tup _ us (by simpa using hl) (fun j c u hcj hu=>?_)
      rw [LT,L6] at hcj
      obtain ⟨y,hy,rfl⟩:=hcj
      have h1:=hcs j y u hy hu
      have h2:=hys y (LJ hy)
      split
      ·exact href _ u h1
      ·rename_i hno'
       rcases h2 with h2 | ⟨k,rfl⟩
       ·exact hpre _ _ h2 h1
       ·exact absurd rfl (hno' k)
  ·have sg:Sim aw σ w' F:=hc.sim.grow (fun _ h=>h) (fun _ h=>.inl h) (fun b hb=>MP (hc.sim.lt b hb) hm.size) hk
   have mg:Mv aw σ w F aw σ w' F:=.grow (fun _ h=>h) (fun _ h=>.inl h) hm.os hm.tape hm.output hm.size hk
   have hnewb:∀ b,Dof aw' σ' b->w.heap.size<=b:=fun b hb=>(hm.own b hb).elim (fun h=>absurd h (hno b)) (fun h=>h)
   have hFF:∀ b,F b->F' b:=fun b hb=>hm.sub b (m1.sub b hb)
   have sb:=sg.beside hs hFF hfo (fun b hb hb'=>by have:=hnewb b hb';have:=hc.sim.lt_own hb;omega)
   have mb:Mv aw σ w F (aw++aw') (σ++σ') w' F:=by
    refine ⟨hm.os,hm.tape,hm.output,hm.size,fun b hb _=>hk b hb,fun i u hu=>?_,fun _ h=>h,fun b hb=>.inl hb,fun b hb=>?_⟩
    ·rw [LO (LH.1 hu).1];exact hu
    ·obtain ⟨k,o,u,ho,hl,hu,hbk⟩:=hb;rw [Mr] at ho hu;rw [hc.sim.len] at hu;split at ho
     ·rename_i hlt;rw [if_pos hlt] at hu;exact .inl ⟨k,o,u,ho,hl,hu,hbk⟩
     ·rename_i hlt;rw [if_neg hlt] at hu;exact .inr (hnewb b ⟨_,o,u,ho,hl,hu,hbk⟩)
   have href:∀ k u,Rel σ' w' F' (.ref k) u->Rel (σ++σ') w' F (.ref (aw.length+k)) u:=by
    intro k u hku;cases hku with
    | ref _ A n c h =>
     refine .ref _ A n c ?_;rw [Mc (by rw [hc.sim.len];omega),hc.sim.len,Nat.add_sub_cancel_left];exact h
   refine ⟨v,r.shift aw.length,_,_,F,rfl,hK,hc.step sb mb,?_⟩
   cases r with
   | tup vs =>
    cases hrel with
    | tup _ us hl hcs =>
     refine .tup _ us (by simpa using hl) (fun j c u hcj hu=>?_)
     rw [LT,L6] at hcj
     obtain ⟨y,hy,rfl⟩:=hcj
     have h1:=hcs j y u hy hu
     simp only [flatR,Mz] at hfr
     have h2:=hfr y (LJ hy)
     split
     ·exact href _ u h1
     ·rename_i hno'
      cases y with
      | ref k=>exact absurd rfl (hno' k)
      | _=>exact sk h2 h1
   | ref k=>exact href k v hrel
   | _=>exact sk hfr hrel
theorem vk {st:St} {fr:List AV} {a:Act} {o:Oper} {K:AV->List Ob->Prop} {Kc:Act->World->Prop} {Q:Exit->Act->World->Prop} (hc:Cur st fr aw σ w F a) (h:fe P o fr aw K)
  (hk:∀ r aw' σ' w' F' v,K r aw'->Cur st fr aw' σ' w' F' a->Rel σ' w' F' r v->Kc (a.put o.dst v) w'):o.wp P a w Kc Q:=by
 have val:gB P fr aw o.op K->o.wp P a w Kc Q:=by
  intro h;obtain ⟨v,n,w',aw',σ',F',r,hrun,hn,hs,hm,hr,hK⟩:=Hx hc.fr hc.sim o h;unfold Oper.wp;rw [hrun];rcases hn with rfl | ⟨rfl,rfl⟩
  ·exact hk r aw' σ' w' F' v hK (hc.step hs hm) hr
  ·exact hk r aw' σ' w' F' undef hK (hc.step hs hm) hr
 unfold fe at h
 split at h
 ·rename_i f args ats hop
  split at h
  ·rename_i g caps ef
   have hf:=hc.fr.ev f
   rw [ef] at hf
   generalize hvf:a.eval f=vf at hf
   cases hf with
   | func _ _ cvs hl hcs =>
    obtain ⟨F1,s1,m1,r1⟩:=sB hc.sim (jm hc.fr args.toList)
    have r2:RelL σ w F1 caps cvs:=m1.relL hc.sim ⟨hl,hcs⟩
    obtain ⟨hcall,hC⟩:=HW hc s1 m1 (r1.append r2) h
    unfold Oper.wp
    have hrun:(execOp a.eval o).run P w=.ok (.enter g (args.toList.map a.eval++cvs).toArray) w:=by
     have e:args.map a.eval++cvs.toArray=(args.toList.map a.eval++cvs).toArray:=by obtain ⟨l⟩:=args;simp
     simp only [execOp,hop,resolve,Deferred.ofValue,hvf,Sem.run_bind,Sem.run_pure,Result.andThen_ok,invoke,Nv,e,hcall]
    rw [hrun]
    refine hC.mono ?_
    rintro e w' ⟨v,r,aw',σ',F',rfl,hK,hcur,hrel⟩
    exact hk r aw' σ' w' F' v hK hcur hrel
  ·exact h.elim
 ·rename_i op hno
  exact val h
theorem dv {st:St} {fr:List AV} {a:Act} {r:AV} {v:Value} (hc:Cur st fr aw σ w F a) (hr:Rel σ w F r v) (d:Option Tmp):Cur st (putF fr d r) aw σ w F (a.put d v):=hc.put hr d
theorem tv {st:St} {ops:Array Oper} {Q:Exit->Act->World->Prop} {K:List AV->List Ob->Prop} (hQ:∀ fr aw σ w F a,Cur st fr aw σ w F a->K fr aw->Q .normal a w) :
    ∀ (l:List Oper) (fr:List AV) (aw:List Ob) (σ:List Value) (w:World) (F:Nat->Prop) (a:Act),Cur st fr aw σ w F a->vcOps P ops l K fr aw->wpList P ops Q l a w
  | [],fr,aw,σ,w,F,a,hc,h=>hQ fr aw σ w F a hc h
  | o :: rest,fr,aw,σ,w,F,a,hc,h=>by
    unfold wpList;simp only [vcOps] at h;cases hg:o.guard with
    | none =>
      rw [hg] at h;rw [if_pos (by simp [Region.wanted,hg])];exact .inl (vk hc h fun r aw' σ' w' F' v hK hcur hrel=>tv hQ rest _ aw' σ' w' F' _ (dv hcur hrel o.dst) hK)
    | some jw =>
      obtain ⟨j,want⟩:=jw;rw [hg] at h;simp only at h;split at h
      · exact h.elim
      · rename_i t ht;split at h
        · rename_i b hb;obtain ⟨v,hv,hrel⟩:=hc.fr.1.get hb;cases hrel;have hy:yielded ops a.tmps j=some b:=by
            have:a.tmps[t]?=some (.bool b):=by simpa using hv
            simp [yielded,ht,this]
          have hself:∀ c,b=c->Cur st (fr.set t (.bool c)) aw σ w F a:=fun c e=>by
            subst e;have:fr.set t (.bool b)=fr:=by
              apply MZ;intro i;rw [LY];split
              · rename_i e;subst e;split
                · exact hb.symm
                · rename_i hlt;exact absurd (LH.1 hb).1 hlt
              · rfl
            rw [this];exact hc
          by_cases hbw:b=want
          · rw [if_pos hbw] at h;rw [if_pos (by simp [Region.wanted,hg,hy,hbw])];exact .inl (vk (hself want hbw) h fun r aw' σ' w' F' v hK hcur hrel=>tv hQ rest _ aw' σ' w' F' _ (dv hcur hrel o.dst) hK)
          · rw [if_neg hbw] at h;rw [if_neg (by simp [Region.wanted,hg,hy,hbw])];have hbn:b=!want:=by cases b<;>cases want<;>simp_all
            exact tv hQ rest _ aw σ w F _ (dv (hself _ hbn) (.any undef) o.dst) h
        · exact h.elim
def CQ (st:St) (Q:Exit->List AV->List Ob->Prop) (e:Exit) (a:Act) (w:World):Prop:=∃ fr aw σ F,Q e fr aw/\Cur st fr aw σ w F a
theorem zK {st:St} (hl:st.σ.length=st.aw.length):∀ (c:Code) (Q:Exit->List AV->List Ob->Prop) (fr:List AV) (aw:List Ob) (σ:List Value) (w:World) (F:Nat->Prop) (a:Act),
  vc P st.aw.length c Q fr aw->Cur st fr aw σ w F a->c.wp P (CQ st Q) a w:=by
 intro c
 induction c with
 | skip=>exact fun Q fr aw σ w F a h hc=>wp_skip ⟨fr,aw,σ,F,h,hc⟩
 | region id ops draw =>
  intro Q fr aw σ w F a h hc
  simp only [vc] at h
  cases draw with
  | true =>
   refine wp_mono (h st (fun a w=>CQ st Q .normal a w) σ w F a (fun fr aw σ w F a hc hK=>⟨fr,aw,σ,F,hK,hc⟩) hc) (fun e a w hq=>?_)
   cases e<;>first | exact hq | exact hq.elim
  | false =>
   simp only [LV,if_false] at h
   exact wp_region_list (tv (fun fr aw σ w F a hc hK=>⟨fr,aw,σ,F,hK,hc⟩) _ fr aw σ w F a hc h)
 | seq x y ihx ihy =>
  intro Q fr aw σ w F a h hc
  refine wp_seq (wp_mono (ihx _ fr aw σ w F a h hc) ?_)
  rintro e a' w' ⟨fr',aw',σ',F',hq,hcur⟩
  cases e with
  | normal=>exact ihy Q fr' aw' σ' w' F' a' hq hcur
  | _=>exact ⟨fr',aw',σ',F',hq,hcur⟩
 | cond c x y ihx ihy =>
  intro Q fr aw σ w F a h hc
  simp only [vc] at h
  have hcv:=hc.fr.ev c
  split at h
  ·rename_i b e
   rw [e] at hcv
   generalize hv:a.eval c=v at hcv
   cases hcv
   cases b with
   | true=>exact wp_cond_true hv (ihx Q fr aw σ w F a h hc)
   | false=>exact wp_cond_false hv (ihy Q fr aw σ w F a h hc)
  ·exact h.elim
 | block id c ih =>
  intro Q fr aw σ w F a h hc
  refine wp_block (wp_mono (ih _ fr aw σ w F a h hc) ?_)
  rintro e a' w' ⟨fr',aw',σ',F',hq,hcur⟩
  cases e with
  | exit id' =>
   simp only [Exit.inBlock,lU] at hq ⊢
   split
   ·rename_i he;rw [if_pos he] at hq;exact ⟨fr',aw',σ',F',hq,hcur⟩
   ·rename_i he;rw [if_neg he] at hq;exact ⟨fr',aw',σ',F',hq,hcur⟩
  | _=>exact ⟨fr',aw',σ',F',hq,hcur⟩
 | loop c ih =>
  intro Q fr aw σ w F a h hc
  obtain ⟨I,⟨m,fr',aw',hw,hI⟩,hround⟩:=h
  obtain ⟨σ',hc'⟩:=hc.weak hl hw
  refine wp_loop_ghost (fun m a w=>∃ fr aw σ F,I m fr aw/\Cur st fr aw σ w F a) m ⟨fr',aw',σ',F,hI,hc'⟩ ?_
  rintro m a w ⟨fr,aw,σ,F,hI,hc⟩
  refine wp_mono (ih _ fr aw σ w F a (hround m fr aw hI) hc) ?_
  rintro e a' w' ⟨fr1,aw1,σ1,F1,hq,hcur⟩
  cases e with
  | normal =>
   obtain ⟨m',fr',aw',hlt,hw,hI'⟩:=hq
   obtain ⟨σ',hc'⟩:=hcur.weak hl hw
   exact ⟨m',hlt,fr',aw',σ',F1,hI',hc'⟩
  | _=>exact ⟨fr1,aw1,σ1,F1,hq,hcur⟩
 | exit id=>exact fun Q fr aw σ w F a h hc=>wp_exit ⟨fr,aw,σ,F,h,hc⟩
 | ret=>exact fun Q fr aw σ w F a h hc=>wp_ret ⟨fr,aw,σ,F,h,hc⟩
 | _=>intros;exact (show False from by assumption).elim
end
end
section
open Go.RowKit
section
variable {P:Program} {σ:List Value} {w:World} {F:Nat→Prop} {aw:List Ob}
def resOf (tmps:Array Value):ResultVar->Sem Value
 | .tmp t=>pure (tmps.getD t undef)
 | .cell a t=>do loadVar t (<- asAddr (tmps.getD a undef))
theorem ud (fn:Func) (tmps:Array Value) (us:List Value) (h:(fn.results.toList.mapM (resOf tmps)).run P w=.ok us w):(results fn tmps).run P w=.ok (if h:us.length=1 then us[0] else .tuple us.toArray) w:=by
 have e:results fn tmps=(do let vs <- fn.results.mapM (resOf tmps);pure (if h:vs.size=1 then vs[0] else .tuple vs)):=by unfold results;congr 1
 rw [e,Array.mapM_eq_mapM_toList];simp only [Sem.run_bind,Sem.run_map,h,Result.andThen_ok];by_cases h1:us.length=1<;>simp [h1,Sem.run_bind,Result.andThen_ok]
theorem qH {fr:List AV} {a:Act} (ha:ARel σ w F fr a) (hs:Sim aw σ w F):∀ (rs:List ResultVar) (K:List AV->Prop),bN P fr aw rs K->∃ vs us,RelL σ w F vs us/\K vs/\(rs.mapM (resOf a.tmps)).run P w=.ok us w
 | [],K,h=>⟨[],[],.nil,h,by simp⟩
 | .tmp t::rs,K,h=>by
  obtain ⟨vs,us,h1,h2,h3⟩:=qH ha hs rs _ h;refine ⟨_,a.tmps.getD t undef::us,.cons (ha.ev (.tmp t)) h1,h2,?_⟩;simp only [List.mapM_cons,Sem.run_bind,resOf,Sem.run_pure,Result.andThen_ok,h3]
 | .cell x t::rs,K,h=>by
  obtain ⟨v,r,h1,h2,h3⟩:=BT ha hs h;obtain ⟨vs,us,h4,h5,h6⟩:=qH ha hs rs _ h3;refine ⟨_,v::us,.cons h2 h4,h5,?_⟩;have hrun:=h1 w (fun _ _=>rfl);have e:a.eval (.tmp x)=a.tmps.getD x undef:=rfl;rw [e] at hrun;have:(resOf a.tmps (.cell x t)).run P w=.ok v w:=by
   simp only [resOf];generalize a.tmps.getD x undef=p at hrun ⊢;cases p with
   | pointer ad=>cases ad with
    | none=>simp [Instr.loadAt,Instr.sureAddr,Sem.run_bind] at hrun
    | some ad=>simpa [Instr.loadAt,Instr.sureAddr,asAddr,Sem.run_bind] using hrun
   | _=>simp [Instr.loadAt,Instr.sureAddr,Sem.run_bind] at hrun
  simp only [List.mapM_cons,Sem.run_bind,this,Sem.run_pure,Result.andThen_ok,h6]
theorem u6 {vs:List AV} {us:List Value} (h:RelL σ w F vs us):Rel σ w F (cZ vs) (if h:us.length=1 then us[0] else .tuple us.toArray):=by
 match vs,us,h with
 | [v],[u],h=>exact h.2 0 v u rfl rfl
 | [],[],h=>exact .tup [] [] rfl (fun j c u hc=>by simp at hc)
 | v::v'::vs,u::u'::us,h =>
  rw [dif_neg (by simp)]
  exact .tup _ _ h.1 h.2
 | [],_::_,h=>exact absurd h.1 (by simp)
 | _::_,[],h=>exact absurd h.1 (by simp)
 | [_],_::_::_,h=>exact absurd h.1 (by simp)
 | _::_::_,[_],h=>exact absurd h.1 (by simp)
theorem uT {r:AV} {v:Value} (hs:Sim aw σ w F) (hr:Rel σ w F r v):∃ F',Sim (fY aw r).2 σ w F'/\Mv aw σ w F (fY aw r).2 σ w F'/\Rel σ w F' (fY aw r).1 v:=by
 cases r with
 | tup vs =>
  cases hr with
  | tup _ us hl hc =>
   obtain ⟨F',s1,m1,r1⟩:=sB hs ⟨hl,hc⟩;exact ⟨F',s1,m1,.tup _ us r1.1 r1.2⟩
 | _=>exact qv hs hr
theorem callable {f:FuncId} {fn:Func} (hf:P.funcs[f]?=some fn) (hb:fn.body.isSome=true) (hname:(fn.name == "runtime.NumGoroutine")=false) (vs:Array Value) (w:World):(callFunc f vs).run P w=.ok (.enter f vs) w:=by
 have hb':fn.body≠none:=by cases h:fn.body<;>simp_all
 have hn:fn.name ≠ "runtime.NumGoroutine" := by simpa using hname
 simp [callFunc,Sem.run_bind,hf,hn,hb']
theorem ACalls.of_vc {f:FuncId} {fn:Func} {c:Code} {args:List AV} {aw:List Ob} {Q:AV->List Ob->Prop} (hf:P.funcs[f]?=some fn) (hb:fn.body=some c) (hname:(fn.name == "runtime.NumGoroutine")=false)
  (h:vc P aw.length c (retQ P fn aw.length Q) (args++List.replicate (fn.ntmps - args.length) .any) aw):ACalls P f args aw Q:=by
 refine ⟨callable hf (by rw [hb];rfl) hname,fun w F σ vs hs hr=>?_⟩
 have hc:Cur ⟨aw,σ,w,F,[]⟩ (args++List.replicate (fn.ntmps - args.length) .any) aw σ w F { tmps:=vs.toArray++Array.replicate (fn.ntmps - vs.toArray.size) undef,defers:=[] }:=by
  refine ⟨hs,⟨?_,tqz⟩,.refl ..,rfl⟩;have h2:RelL σ w F (List.replicate (fn.ntmps - args.length) .any) (List.replicate (fn.ntmps - vs.length) undef) :=
   ⟨by simp [hr.1],fun j x v hx hv=>by rw [Ms (LJ hx)];exact .any v⟩
  simpa using hr.append h2
 refine calls_of_wp hf hb (wp_mono (zK (st:=⟨aw,σ,w,F,[]⟩) hs.len c _ _ aw σ w F _ h hc) ?_)
 rintro e a' w' ⟨fr',aw',σ',F',hq,hcur⟩
 have key:bN P fr' aw' fn.results.toList (Ret aw.length Q aw')->a'.defers=[]/\∃ v,(results fn a'.tmps).run P w'=.ok v w' /\
   (∃ v' r aw2 σ2 F2,Ending.returned v=.returned v'/\Q r aw2/\Sim aw2 σ2 w' F2/\Rel σ2 w' F2 r v'/\Mv aw σ w F aw2 σ2 w' F2):=by
  intro hq
  obtain ⟨rs,us,h1,⟨nl,z,r',aw2,hW,hQ⟩,h3⟩:=qH hcur.fr hcur.sim _ _ hq
  obtain ⟨σn,sn,h1n,mn⟩:=nX nl hcur.sim h1
  refine ⟨hcur.ds,_,ud fn a'.tmps us h3,?_⟩
  have hrel:=u6 h1n
  have fin:∀ (r1:AV) (aw1:List Ob) (F1:Nat->Prop),Sim aw1 σn w' F1->Mv aw σ w F aw1 σn w' F1->Rel σn w' F1 r1 (if h:us.length=1 then us[0] else .tuple us.toArray)->WeakR aw.length r1 aw1 r' aw2 ->
    ∃ v' r aw2 σ2 F2,Ending.returned (if h:us.length=1 then us[0] else .tuple us.toArray)=.returned v'/\Q r aw2/\Sim aw2 σ2 w' F2/\Rel σ2 w' F2 r v'/\Mv aw σ w F aw2 σ2 w' F2:=by
   intro r1 aw1 F1 s1 m1 hr1 ⟨ρ,hnd,hρ,hren,hRW⟩
   obtain ⟨σ2,hσ,s2,hd⟩:=gZ s1 hnd hRW
   exact ⟨_,r',aw2,σ2,F1,rfl,hQ,s2,hren σn w' F1 _ hr1 σ2 hσ,Mv.ren (st:=⟨aw,σ,w,F,[]⟩) hs.len m1 hρ hσ hd⟩
  cases z with
  | true =>
   obtain ⟨F1,s1,m1,r1⟩:=uT sn hrel
   exact fin _ _ F1 s1 ((hcur.mv.trans mn).trans m1) r1 hW
  | false=>exact fin _ _ F' sn (hcur.mv.trans mn) hrel hW
 cases e with
 | normal=>exact key hq
 | ret=>exact key hq
 | exit id=>exact hq.elim
 | goto l=>exact hq.elim
 | panic ch=>exact hq.elim
 | outgrown=>exact hq.elim
end
end
section
open Go.RowKit
section
variable {P:Program} {n:Nat} {Q:Exit→List AV→List Ob→Prop} {fr:List AV} {aw:List Ob} {K:AV→List Ob→Prop} {KK:List AV→List Ob→Prop}
 {d:Option Tmp} {ty:TypeId} {ps:String} {af:Array Edge} {g:Option (Nat × Bool)} {x y z:Operand} {t s:TypeId} {ops:Array Oper} {o:Oper} {l:List Oper}
theorem HH:fe P ⟨d,.alloc t,ty,ps,af,g⟩ fr aw K=(match aI P t with | some z=>K (.ptr aw.length 0) (aw++[.box z]) | none=>False):=rfl
theorem JX:fe P ⟨d,.box t x,ty,ps,af,g⟩ fr aw K=(match (ev fr x).cells with | some cs=>K (.ptr aw.length 0) (aw++[.box cs]) | none=>False):=rfl
theorem A7:fe P ⟨d,.load t x,ty,ps,af,g⟩ fr aw K =
  (match ev fr x with
  | .ptr id off=>(match aw[id]? with | some (.box cs)=>cj P t cs off fun r=>K r aw | _=>False)
  | .elt row off=>cj P t row off fun r=>K r aw
  | .aptr id size i off=>(match aw[id]? with
   | some (.arr _ size' rows)=>size'=size/\i<rows.length/\∀ row,rows[i]?=some row->cj P t row off fun r=>K r aw
   | _=>False)
  | _=>False):=by
 cases h:ev fr x<;>simp only [fe,gB,isQ,vcQ,vcE,h,if_true,LV,if_false]<;>rfl
theorem zU:fe P ⟨d,.store t x y,ty,ps,af,g⟩ fr aw K =
  (match ev fr x with
  | .ptr id off=>(match (ev fr y).cells with
   | some vs=>(match aw[id]? with
    | some (.box cs)=>(P.underlying t).isSome=true/\vs.length=P.cellsOf t/\off+vs.length<=cs.length/\K .any (aw.set id (.box (splice cs off vs)))
    | _=>False)
   | none=>False)
  | .aptr id size i off=>(match (ev fr y).cells with
   | some vs=>(match aw[id]? with
    | some (.arr e size' rows)=>(P.underlying t).isSome=true/\size'=size/\vs.length=P.cellsOf t/\i<rows.length/\off+vs.length<=size /\
     ∀ row,rows[i]?=some row->K .any (aw.set id (.arr e size (rows.set i (splice row off vs))))
    | _=>False)
   | none=>False)
  | _=>False):=by
 cases h:ev fr x<;>cases h2:(ev fr y).cells<;>simp only [fe,gB,isQ,vcQ,vcE,h,h2,if_true,LV,if_false]<;>rfl
theorem xr:fe P ⟨d,.makeSlice t x y,ty,ps,af,g⟩ fr aw K =
 (match P.underlying t,ev fr x,ev fr y with
 | some (.slice e),.int _ n,.int _ m=>(match aI P e with
  | some z=>z.length=P.cellsOf e/\0<P.cellsOf e/\0<=n/\n<=m/\(n=0∨n=m)/\P.bytesOf e*m.toNat<=281474976710656/\m.toNat<=maxLen /\
   K (.ref aw.length) (aw++[.arr e (P.cellsOf e) (List.replicate n.toNat z)])
  | none=>False)
 | _,_,_=>False):=rfl
theorem E9:fe P ⟨d,.convert s t x,ty,ps,af,g⟩ fr aw K =
 (if (match ev fr x with | .int _ _=>true | _=>false)=true then (match P.underlying s,P.underlying t,ev fr x with
  | some _,some (.int k),.int _ n=>K (.int k (k.wrap n)) aw
  | _,_,_=>False)
 else (match P.underlying s,P.underlying t,norm aw (ev fr x) with
  | some (.slice e),some .string,(.sl rows,aw')=>P.underlying e=some (.int .u8)/\rows.all vA=true/\K (.str (rows.map qr)) aw'
  | _,_,_=>False)):=rfl
end
end
section
open Go.RowKit
section
variable {P:Program} {σ:List Value} {w:World} {F:Nat→Prop} {aw:List Ob}
variable {d:Option Tmp} {ty:TypeId} {ps:String} {af:Array Edge} {ops:Array Oper} {l:List Oper} {fr:List AV} {KK:List AV→List Ob→Prop}
theorem aG (k:IntKind) (n:Int):Pure (.int k n):=fun σ w F v h σ'=>sv rfl h
theorem ji (b:Bool):Pure (.bool b):=fun σ w F v h σ'=>sv rfl h
theorem aY (s:List UInt8):Pure (.str s):=fun σ w F v h σ'=>sv rfl h
theorem bL:Pure .nils:=fun σ w F v h σ'=>by cases h;exact .nils
theorem pX:Pure .nilf:=fun σ w F v h σ'=>by cases h;exact .nilf
theorem zP (cs:List AV) (hp:∀ c,c∈cs->Pure c):Pure (.agg cs):=fun σ w F v h σ'=>by
 cases h with
 | agg _ vs hl h1 hc=>exact .agg cs vs hl h1 (fun j c u hcj hu=>hp c (LJ hcj) σ w F u (hc j c u hcj hu) σ')
theorem HF (cs:List AV) (hp:∀ c,c∈cs->Pure c):Pure (.tup cs):=fun σ w F v h σ'=>by
 cases h with
 | tup _ vs hl hc=>exact .tup cs vs hl (fun j c u hcj hu=>hp c (LJ hcj) σ w F u (hc j c u hcj hu) σ')
theorem FQ (f:FuncId) (cs:List AV) (hp:∀ c,c∈cs->Pure c):Pure (.func f cs):=fun σ w F v h σ'=>by
 cases h with
 | func _ _ vs hl hc=>exact .func f cs vs hl (fun j c u hcj hu=>hp c (LJ hcj) σ w F u (hc j c u hcj hu) σ')
theorem IM (rows:List (List AV)) (hp:∀ row,row∈rows->∀ c,c∈row->Pure c):Pure (.sl rows):=fun σ w F v h σ'=>by
 cases h with
 | slNil=>exact .slNil
 | sl _ size ad c u h1 h2 h3 h4 h5 h6 h7=>exact .sl rows size ad c u h1 h2 h3 h4 h5 h6 (fun i row j x hi hx=>hp row (LJ hi) x (LJ hx) σ w F _ (h7 i row j x hi hx) σ')
theorem zx (row:List AV) (off:Nat) (hp:∀ c,c∈row->Pure c):Pure (.elt row off):=fun σ w F v h σ'=>by
 cases h with
 | elt _ _ ad u h1 h2 h3 h4=>exact .elt row off ad u h1 h2 h3 (fun j x hx=>hp x (LJ hx) σ w F _ (h4 j x hx) σ')
theorem BJ (ρ:List Nat) (a:AV):Ren ρ .any a:=fun σ w F v h σ' _=>.any v
theorem gU {ρ:List Nat} {a:AV} (h:Pure a):Ren ρ a a:=fun σ w F v hr σ' _=>h σ w F v hr σ'
theorem IJ {ρ:List Nat} {k id off:Nat} (h:ρ[k]?=some id):Ren ρ (.ptr k off) (.ptr id off):=fun σ w F v hr σ' hσ=>by
 cases hr with
 | ptr _ _ g hg=>exact .ptr k off g (by rw [hσ k id h];exact hg)
theorem BG {ρ:List Nat} {k id:Nat} (h:ρ[k]?=some id):Ren ρ (.ref k) (.ref id):=fun σ w F v hr σ' hσ=>by
 cases hr with
 | ref _ A n c hg=>exact .ref k A n c (by rw [hσ k id h];exact hg)
def loopI {α:Type} (F:α->List AV) (A:α->List Ob) (μ:α->Nat) (inv:α->Prop) (m:Nat) (fr:List AV) (aw:List Ob):Prop:=∃ x,fr=F x/\aw=A x/\μ x=m/\inv x
theorem Loop.by {α:Type} {n:Nat} {body:(Exit->List AV->List Ob->Prop)->List AV->List Ob->Prop} {Q:Exit->List AV->List Ob->Prop} {aw:List Ob}
  (F:α->List AV) (A:α->List Ob) (μ:α->Nat) (inv:α->Prop) (x:α) (h0:inv x) (hw:Weak n fr aw (F x) (A x))
  (hr:∀ x,inv x->body (loopQ n (loopI F A μ inv) (μ x) Q) (F x) (A x)):Loop n body Q fr aw:=by
 refine ⟨loopI F A μ inv,⟨μ x,_,_,hw,x,rfl,rfl,rfl,h0⟩,?_⟩
 rintro m fr aw ⟨y,rfl,rfl,rfl,hy⟩
 exact hr y hy
theorem Loop.back {α:Type} {n:Nat} {Q:Exit->List AV->List Ob->Prop} {aw:List Ob} {F:α->List AV} {A:α->List Ob} {μ:α->Nat} {inv:α->Prop} {x:α} (y:α) (hlt:μ y<μ x) (hy:inv y) (hw:Weak n fr aw (F y) (A y)) :
 loopQ n (loopI F A μ inv) (μ x) Q .normal fr aw:=⟨_,_,_,hlt,hw,y,rfl,rfl,rfl,hy⟩
theorem Weak.by {n:Nat} {aw aw':List Ob} {fr':List AV} (ρ:List Nat) (h1:ρ.Nodup) (h2:∀ k,k<n->ρ[k]?=some k) (h3:ck ρ fr' fr) (h4:bR ρ aw ρ aw'):Weak n fr aw fr' aw':=⟨[],ρ,h1,h2,h3,h4⟩
theorem Ret.data {Q:AV->List Ob->Prop} {aw:List Ob} {vs:List AV} (hp:Pure (cZ vs)) (hQ:Q (cZ vs) []):Ret 0 Q aw vs :=
 ⟨[],false,cZ vs,[],⟨[],NM,fun k h=>by omega,gU hp,tqz⟩,hQ⟩
theorem Ret.norm {Q:AV->List Ob->Prop} {aw:List Ob} {vs:List AV} (hp:Pure (fY aw (cZ vs)).1) (hQ:Q (fY aw (cZ vs)).1 []):Ret 0 Q aw vs :=
 ⟨[],true,_,[],⟨[],NM,fun k h=>by omega,gU hp,tqz⟩,hQ⟩
theorem Ret.own {Q:AV->List Ob->Prop} {aw:List Ob} {k:Nat} {e:TypeId} {s:Nat} {rows:List (List AV)} (hk:aw[k]?=some (.arr e s rows)) (hp:∀ row,row∈rows->∀ x,x∈row->Pure x) (hQ:Q (.ref 0) [.arr e s rows]):Ret 0 Q aw [.ref k] :=
 ⟨[],false,.ref 0,[.arr e s rows],⟨[k],by simp,fun k h=>by omega,BG rfl,show bR [k] aw [k] [.arr e s rows] from ⟨⟨_,hk,rfl,rfl,rfl,fun row hr x hx=>gU (hp row hr x hx)⟩,tqz⟩⟩,hQ⟩
def Fn (P:Program) (f:FuncId) (args:List AV) (v:AV):Prop:=ACalls P f args [] fun r aw=>r=v/\aw=[]
theorem CallK.fn {f:FuncId} {args:List AV} {aw aw1:List Ob} {v:AV} {K:AV->List Ob->Prop} (h:Fn P f args v) (hp:∀ a,a∈args->Pure a) (hv:Pure v) (hK:K v aw1):CallK P f args aw aw1 K :=
 .inr ⟨_,h,hp,fun r aw' ⟨h1,h2⟩=>.inr (.inl ⟨h2,by rw [h1];exact hv,by rw [h1];exact hK⟩)⟩
theorem CallK.flat {f:FuncId} {args:List AV} {aw aw1:List Ob} {v:AV} {K:AV->List Ob->Prop} (h:Fn P f args v) (hp:∀ a,a∈args->Pure a) (hv:Go.Proofs.YtnlmagdmmjkklaaGreat.flat v=true) (hK:K v aw):CallK P f args aw aw1 K :=
 .inr ⟨_,h,hp,fun r aw' ⟨h1,h2⟩=>.inl ⟨by rw [h1];exact hv,by rw [h1];exact hK⟩⟩
end
end
noncomputable section
open Go.RowKit
def idx {α:Type} (xs:List α) (i:Int):Option α:=if 0<=i then xs[i.toNat]? else none
def sub {α:Type} (xs:List α) (lo hi:Int):Option (List α):=if 0<=lo/\lo<=hi/\hi<=xs.length then some ((xs.take hi.toNat).drop lo.toNat) else none
def app {α:Type} (xs ys:List α):Option (List α):=if xs.length+ys.length<=1099511627776 then some (xs++ys) else none
def cat (xs ys:List UInt8):Option (List UInt8):=if xs.length+ys.length<=4611686018427387904 then some (xs++ys) else none
def quo (k:IntKind) (a b:Int):Option Int:=if b=0 then none else some (k.wrap (a.tdiv b))
def rem (a b:Int):Option Int:=if b=0 then none else some (a.tmod b)
def shl (k:IntKind) (a b:Int):Option Int:=if 0<=b then some (k.wrap (a*2 ^ (min b.toNat k.bits))) else none
def shr (k:IntKind) (a b:Int):Option Int:=if 0<=b then some (a.fdiv (2 ^ (min b.toNat k.bits))) else none
def mk {α:Type} (n:Int) (z:α):Option (List α):=if 0<=n/\n<=1099511627776 then some (List.replicate n.toNat z) else none
def bV (l:List Int):List UInt8:=l.map fun n=>UInt8.ofNat n.toNat
def ixN {α:Type} (xs:List α) (i:Int):Option Nat:=if 0<=i/\i<xs.length then some i.toNat else none
def ibits (op:BinOp) (k:IntKind) (x y:Int):Int :=
 let a:=BitVec.ofInt k.bits x
 let b:=BitVec.ofInt k.bits y
 match op with
 | .and=>k.wrap (a &&& b).toNat
 | .or=>k.wrap (a ||| b).toNat
 | .xor=>k.wrap (a ^^^ b).toNat
 | _=>0
def isAt (i k:Int):Option Unit:=if i=k then some () else none
abbrev W (n:Int):Int:=IntKind.i64.wrap n
theorem Ay {α:Type} {xs:List α} {i:Int} {a:α} (h:idx xs i=some a):0<=i/\i<xs.length/\xs[i.toNat]?=some a:=by
 unfold idx at h;split at h
 ·rename_i h0;have:=(LH.1 h).1;exact ⟨h0,by omega,h⟩
 ·cases h
theorem bind_some {α β:Type} {o:Option α} {k:α->Option β} {r:β} (h:o.bind k=some r):∃ x,o=some x/\k x=some r:=Option.bind_eq_some_iff.1 h
theorem Ix {α β:Type} {o:Option β} {v:α ⊕ β} (h:o.map Sum.inr=some v):∃ w,o=some w/\v=.inr w:=by
 cases o with
 | none=>cases h
 | some w=>exact ⟨w,rfl,(LP h).symm⟩
inductive Steps {α β:Type} (body:α->Option (α ⊕ β)):Nat->α->β->Prop
 | done {s:α} {r:β}:body s=some (.inr r)->Steps body 0 s r
 | step {m:Nat} {s s':α} {r:β}:body s=some (.inl s')->Steps body m s' r->Steps body (m+1) s r
open Classical in
def iter {α β:Type} (body:α->Option (α ⊕ β)) (s:α):Option β :=
 if h:∃ p:Nat × β,Steps body p.1 s p.2 then some h.choose.2 else none
theorem Steps.det {α β:Type} {body:α->Option (α ⊕ β)} {m m':Nat} {s:α} {r r':β} (h:Steps body m s r) (h':Steps body m' s r'):m=m'/\r=r':=by
 induction h generalizing m' with
 | done e =>
  cases h' with
  | done e'=>rw [e] at e';cases e';exact ⟨rfl,rfl⟩
  | step e' _=>rw [e] at e';cases e'
 | step e _ ih =>
  cases h' with
  | done e'=>rw [e] at e';cases e'
  | step e' h'=>rw [e] at e';cases e';obtain ⟨h1,h2⟩:=ih h';exact ⟨by omega,h2⟩
theorem uA {α β:Type} {body:α->Option (α ⊕ β)} {s:α} {r:β}:iter body s=some r ↔ ∃ m,Steps body m s r:=by
 unfold iter;constructor
 ·intro h;split at h
  ·rename_i hp;exact ⟨_,by cases h;exact hp.choose_spec⟩
  ·cases h
 ·rintro ⟨m,h⟩;have hp:∃ p:Nat × β,Steps body p.1 s p.2:=⟨(m,r),h⟩
  rw [dif_pos hp,(hp.choose_spec.det h).2]
theorem aH {α β:Type} (body:α->Option (α ⊕ β)) (s:α):iter body s=match body s with | none=>none | some (.inl s')=>iter body s' | some (.inr r)=>some r:=by
 apply Option.ext;intro r;show iter body s=some r ↔ (match body s with | none=>none | some (.inl s')=>iter body s' | some (.inr r)=>some r)=some r;rw [uA];cases hb:body s with
 | none=>exact ⟨fun ⟨m,h⟩=>(by cases h<;>simp_all),fun h=>(by cases h)⟩
 | some v =>
  cases v with
  | inl s' =>
   simp only;rw [uA];constructor
   ·rintro ⟨m,h⟩;cases h with
    | done e=>rw [hb] at e;cases e
    | step e h=>rw [hb] at e;cases e;exact ⟨_,h⟩
   ·rintro ⟨m,h⟩;exact ⟨_,.step hb h⟩
  | inr r' =>
   simp only;constructor
   ·rintro ⟨m,h⟩;cases h with
    | done e=>rw [hb] at e;cases e;rfl
    | step e _=>rw [hb] at e;cases e
   ·intro h;cases h;exact ⟨0,.done hb⟩
theorem bW {α:Type} {b:Bool} {A B:Option α} {v:α} (h:(if b=true then A else B)=some v) (hb:b=true):A=some v:=by rwa [if_pos hb] at h
theorem bU {α:Type} {b:Bool} {A B:Option α} {v:α} (h:(if b=true then A else B)=some v) (hb:b=false):B=some v:=by subst hb;simpa using h
end
section
open Go.RowKit
def lkA:List (Nat × AV)->Nat->AV
 | [],_=>.any
 | (s,v)::r,t=>match Nat.beq s t with
  | true=>v
  | false=>lkA r t
def mkA (n:Nat) (l:List (Nat × AV)):List AV:=(List.range n).map (lkA l)
def evA (n:Nat) (l:List (Nat × AV)):Operand->AV
 | .tmp t=>match Nat.blt t n with
  | true=>lkA l t
  | false=>.any
 | .const v=>AV.ofVal v
 | .global _=>.any
 | .func f=>.func f []
def dA (l:List (Nat × AV)):Option Tmp->AV->List (Nat × AV)
 | none,_=>l
 | some t,r=>(t,r)::l
theorem jq (s:Nat) (v:AV) (r:List (Nat × AV)) (t:Nat):lkA ((s,v)::r) t=if s=t then v else lkA r t:=by
 show (match Nat.beq s t with | true=>v | false=>lkA r t)=_;by_cases h:s=t
 ·subst h;rw [Nat.beq_refl,if_pos rfl]
 ·have:Nat.beq s t=false:=by
   cases hb:Nat.beq s t
   ·rfl
   ·exact absurd (MC hb) h
  rw [this,if_neg h]
theorem gf {n:Nat} {l:List (Nat × AV)} {t:Nat}:(mkA n l)[t]?=if t<n then some (lkA l t) else none:=by
 unfold mkA;rw [LT];by_cases h:t<n
 ·rw [Ni h,if_pos h];rfl
 ·rw [if_neg h,Mb (by simpa using Nat.le_of_not_lt h)];rfl
theorem l6 {n:Nat} {l:List (Nat × AV)}:(mkA n l).length=n:=by simp [mkA]
theorem aD (n:Nat) (l:List (Nat × AV)) (x:Operand):ev (mkA n l) x=evA n l x:=by
 cases x with
 | tmp t =>
  show (mkA n l).getD t .any=(match Nat.blt t n with | true=>lkA l t | false=>.any)
  rw [LL,gf];by_cases h:t<n
  ·have:Nat.blt t n=true:=by rw [NY];exact h
   rw [if_pos h,this];rfl
  ·have:Nat.blt t n=false:=by
    cases hb:Nat.blt t n
    ·rfl
    ·exact absurd (by rw [NY] at hb;exact hb) h
   rw [if_neg h,this];rfl
 | _=>rfl
theorem dt (n:Nat) (l:List (Nat × AV)) (d:Option Tmp) (r:AV):putF (mkA n l) d r=mkA n (dA l d r):=by
 cases d with
 | none=>rfl
 | some t =>
  apply MZ;intro i;show ((mkA n l).set t r)[i]?=(mkA n ((t,r)::l))[i]?;rw [LY,gf,gf,l6,jq];by_cases h:t=i
  ·subst h;rw [if_pos rfl,if_pos rfl]
  ·rw [if_neg h,if_neg h]
def initA (k:Nat):List AV->List (Nat × AV)
 | []=>[]
 | a::as₀=>(k,a)::initA (k+1) as₀
theorem zV:∀ (as₀:List AV) (k t:Nat),k<=t->lkA (initA k as₀) t=as₀.getD (t - k) .any
 | [],k,t,_=>rfl
 | a::as₀,k,t,h=>by
  show lkA ((k,a)::initA (k+1) as₀) t=_;rw [jq];by_cases e:k=t
  ·subst e;simp
  ·rw [if_neg e,zV as₀ (k+1) t (by omega)];obtain ⟨m,hm⟩:∃ m,t - k=m+1:=⟨t - k - 1,by omega⟩
   rw [hm,show t - (k+1)=m by omega];rfl
theorem uY (n:Nat) (as₀:List AV) (h:as₀.length<=n):as₀++List.replicate (n - as₀.length) AV.any=mkA n (initA 0 as₀):=by
 apply MZ;intro i;rw [gf,zV as₀ 0 i (MA _),NR];by_cases h1:i<as₀.length
 ·rw [LO h1,if_pos (by omega),LL,LG h1];rfl
 ·rw [Mc (by omega),MY];by_cases h2:i<n
  ·rw [if_pos (by omega),if_pos h2,LL,Mb (by omega)];rfl
  ·rw [if_neg (by omega),if_neg h2]
section
variable {P:Program} {N n:Nat} {fr fr':List AV} {aw aw':List Ob} {l:List (Nat × AV)}
structure T (P:Program) (N:Nat) (c:Code) (Q:Exit->List AV->List Ob->Prop) (fr:List AV) (aw:List Ob):Prop where
 out:∀ st:St,st.aw.length=N->st.σ.length=st.aw.length->∀ σ w F a,Cur st fr aw σ w F a->c.wp P (CQ st Q) a w
structure OP (P:Program) (N:Nat) (o:Oper) (fr:List AV) (aw:List Ob) (K:AV->List Ob->Prop):Prop where
 out:∀ st:St,st.aw.length=N->st.σ.length=st.aw.length->∀ σ w F a,Cur st fr aw σ w F a->∀ (Kc:Act->World->Prop) (Q:Exit->Act->World->Prop),
  (∀ r aw' σ' w' F' v,K r aw'->Cur st fr aw' σ' w' F' a->Rel σ' w' F' r v->Kc (a.put o.dst v) w')->o.wp P a w Kc Q
structure RS (P:Program) (N:Nat) (ops:Array Oper) (l:List Oper) (K:List AV->List Ob->Prop) (fr:List AV) (aw:List Ob):Prop where
 out:∀ st:St,st.aw.length=N->st.σ.length=st.aw.length->∀ σ w F a,Cur st fr aw σ w F a->∀ (Q:Exit->Act->World->Prop),
  (∀ fr aw σ w F a,Cur st fr aw σ w F a->K fr aw->Q .normal a w)->wpList P ops Q l a w
structure RA (P:Program) (N:Nat) (ops:Array Oper) (k:Nat) (listed:Array Bool) (K:List AV->List Ob->Prop) (fr:List AV) (aw:List Ob):Prop where
 out:∀ st:St,st.aw.length=N->st.σ.length=st.aw.length->∀ σ w F a,Cur st fr aw σ w F a->∀ (R:Act->World->Prop),
  (∀ fr aw σ w F a,Cur st fr aw σ w F a->K fr aw->R a w)->wpAny P .any ops (onlyN R) k listed a w
theorem T.of_vc {c:Code} {Q:Exit->List AV->List Ob->Prop} (h:vc P N c Q fr aw):T P N c Q fr aw :=
 ⟨fun st h1 h2 σ w F a hc=>by subst h1;exact zK h2 c Q fr aw σ w F a h hc⟩
theorem T.weak {c:Code} {Q:Exit->List AV->List Ob->Prop} (hw:Weak N fr aw fr' aw') (h:T P N c Q fr' aw'):T P N c Q fr aw :=
 ⟨fun st h1 h2 σ w F a hc=>by subst h1;obtain ⟨σ',hc'⟩:=hc.weak h2 hw;exact h.out st rfl h2 σ' w F a hc'⟩
theorem RS.weak {ops:Array Oper} {l:List Oper} {K:List AV->List Ob->Prop} (hw:Weak N fr aw fr' aw') (h:RS P N ops l K fr' aw'):RS P N ops l K fr aw :=
 ⟨fun st h1 h2 σ w F a hc=>by subst h1;obtain ⟨σ',hc'⟩:=hc.weak h2 hw;exact h.out st rfl h2 σ' w F a hc'⟩
theorem RA.weak {ops:Array Oper} {k:Nat} {li:Array Bool} {K:List AV->List Ob->Prop} (hw:Weak N fr aw fr' aw') (h:RA P N ops k li K fr' aw'):RA P N ops k li K fr aw :=
 ⟨fun st h1 h2 σ w F a hc=>by subst h1;obtain ⟨σ',hc'⟩:=hc.weak h2 hw;exact h.out st rfl h2 σ' w F a hc'⟩
theorem T.skip {Q:Exit->List AV->List Ob->Prop} (h:Q .normal fr aw):T P N .skip Q fr aw:=⟨fun st _ _ σ w F a hc=>wp_skip ⟨fr,aw,σ,F,h,hc⟩⟩
theorem T.ret {Q:Exit->List AV->List Ob->Prop} (h:Q .ret fr aw):T P N .ret Q fr aw:=⟨fun st _ _ σ w F a hc=>wp_ret ⟨fr,aw,σ,F,h,hc⟩⟩
theorem T.exit {id:Nat} {Q:Exit->List AV->List Ob->Prop} (h:Q (.exit id) fr aw):T P N (.exit id) Q fr aw:=⟨fun st _ _ σ w F a hc=>wp_exit ⟨fr,aw,σ,F,h,hc⟩⟩
theorem T.seq {x y:Code} {Q:Exit->List AV->List Ob->Prop} (h:T P N x (thenA (T P N y Q) Q) fr aw):T P N (.seq x y) Q fr aw :=
 ⟨fun st h1 h2 σ w F a hc=>wp_seq (wp_mono (h.out st h1 h2 σ w F a hc) (by
  rintro e a' w' ⟨fr',aw',σ',F',hq,hcur⟩;cases e with
  | normal=>exact T.out hq st h1 h2 σ' w' F' a' hcur
  | _=>exact ⟨fr',aw',σ',F',hq,hcur⟩))⟩
theorem T.mono {c:Code} {Q Q':Exit->List AV->List Ob->Prop} (h:T P N c Q fr aw) (hq:∀ e fr aw,Q e fr aw->Q' e fr aw):T P N c Q' fr aw :=
 ⟨fun st h1 h2 σ w F a hc=>wp_mono (h.out st h1 h2 σ w F a hc) fun e a' w' ⟨fr',aw',σ',F',h3,h4⟩=>⟨fr',aw',σ',F',hq _ _ _ h3,h4⟩⟩
theorem T.cond {c:Operand} {x y:Code} {Q:Exit->List AV->List Ob->Prop} {b:Bool} (he:evA n l c=.bool b) (h1:b=true->T P N x Q (mkA n l) aw) (h0:b=false->T P N y Q (mkA n l) aw):T P N (.cond c x y) Q (mkA n l) aw :=
 ⟨fun st hN h2 σ w F a hc=>by
  have hcv:=hc.fr.ev c;rw [aD,he] at hcv;generalize hv:a.eval c=v at hcv;cases hcv;cases b with
  | true=>exact wp_cond_true hv ((h1 rfl).out st hN h2 σ w F a hc)
  | false=>exact wp_cond_false hv ((h0 rfl).out st hN h2 σ w F a hc)⟩
theorem T.block {id:Nat} {c:Code} {Q:Exit->List AV->List Ob->Prop} (h:T P N c (lU id Q) fr aw):T P N (.block id c) Q fr aw :=
 ⟨fun st h1 h2 σ w F a hc=>by
  refine wp_block (wp_mono (h.out st h1 h2 σ w F a hc) ?_);rintro e a' w' ⟨fr',aw',σ',F',hq,hcur⟩;cases e with
  | exit id' =>
   simp only [Exit.inBlock,lU] at hq ⊢;split
   ·rename_i he;rw [if_pos he] at hq;exact ⟨fr',aw',σ',F',hq,hcur⟩
   ·rename_i he;rw [if_neg he] at hq;exact ⟨fr',aw',σ',F',hq,hcur⟩
  | _=>exact ⟨fr',aw',σ',F',hq,hcur⟩⟩
theorem T.region {id:Nat} {ops:Array Oper} {Q:Exit->List AV->List Ob->Prop} (h:RS P N ops ops.toList (Q .normal) fr aw):T P N (.region id ops false) Q fr aw :=
 ⟨fun st h1 h2 σ w F a hc=>wp_region_list (h.out st h1 h2 σ w F a hc _ fun fr aw σ w F a hc hK=>⟨fr,aw,σ,F,hK,hc⟩)⟩
theorem T.drawn {id:Nat} {ops:Array Oper} {Q:Exit->List AV->List Ob->Prop} (hm:P.follows .mixedOrders=true) {k:Nat} (hk:ops.size=k) (h:RA P N ops k (Array.replicate k false) (Q .normal) fr aw):T P N (.region id ops true) Q fr aw :=
 ⟨fun st h1 h2 σ w F a hc=>by subst hk;have hc':Cur st fr aw σ w.drew F a:=hc.step hc.sim.drew .drew;refine wp_mono (wp_region_any hm (h.out st h1 h2 σ w.drew F a hc' (fun a w=>CQ st Q .normal a w) fun fr aw σ w F a hc hK=>⟨fr,aw,σ,F,hK,hc⟩)) (fun e a w hq=>?_);cases e<;>first | exact hq | exact hq.elim⟩
end
section
variable {P:Program} {N n:Nat} {fr fr':List AV} {aw aw':List Ob} {l:List (Nat × AV)}
def LQ {α β:Type} (N:Nat) (v:α ⊕ β) (F:α->List AV) (A:α->List Ob) (Q:Exit->List AV->List Ob->Prop):Exit->List AV->List Ob->Prop
 | .normal,fr,aw=>∃ s',v=.inl s'/\Weak N fr aw (F s') (A s')
 | e,fr,aw=>Q e fr aw
theorem T.iter {α β:Type} {body:α->Option (α ⊕ β)} {s:α} {r:β} {c:Code} {Q:Exit->List AV->List Ob->Prop} (F:α->List AV) (A:α->List Ob) (h:iter body s=some r) (hw:Weak N fr aw (F s) (A s))
  (hb:∀ s v,body s=some v->(∀ w,v=.inr w->w=r)->T P N c (LQ N v F A Q) (F s) (A s)):T P N (.loop c) Q fr aw:=by
 obtain ⟨m,hm⟩:=uA.1 h
 refine ⟨fun st h1 h2 σ w Fb a hc=>?_⟩
 subst h1
 obtain ⟨σ',hc'⟩:=hc.weak h2 hw
 refine wp_loop_ghost (fun m a w=>∃ s σ Fb,Steps body m s r/\Cur st (F s) (A s) σ w Fb a) m ⟨s,σ',Fb,hm,hc'⟩ ?_
 rintro m a w ⟨s,σ,Fb,hs,hc⟩
 cases hs with
 | done e =>
  refine wp_mono ((hb s _ e (fun w hw=>(Sum.inr.inj hw).symm)).out st rfl h2 σ w Fb a hc) ?_
  rintro e a' w' ⟨fr1,aw1,σ1,F1,hq,hcur⟩
  cases e with
  | normal=>obtain ⟨s',hv,_⟩:=hq;cases hv
  | _=>exact ⟨fr1,aw1,σ1,F1,hq,hcur⟩
 | @step m' _ s' _ e hs' =>
  refine wp_mono ((hb s _ e (fun w hw=>by cases hw)).out st rfl h2 σ w Fb a hc) ?_
  rintro e a' w' ⟨fr1,aw1,σ1,F1,hq,hcur⟩
  cases e with
  | normal =>
   obtain ⟨s'',hv,hw⟩:=hq
   cases hv
   obtain ⟨σ',hc'⟩:=hcur.weak h2 hw
   exact ⟨m',by omega,s',σ',F1,hs',hc'⟩
  | _=>exact ⟨fr1,aw1,σ1,F1,hq,hcur⟩
theorem OP.of_vc {o:Oper} {K:AV->List Ob->Prop} (h:fe P o fr aw K):OP P N o fr aw K :=
 ⟨fun st h1 h2 σ w F a hc Kc Q hk=>vk hc h hk⟩
theorem RS.nil {ops:Array Oper} {K:List AV->List Ob->Prop} (h:K fr aw):RS P N ops [] K fr aw:=⟨fun st h1 h2 σ w F a hc Q hQ=>hQ _ _ _ _ _ _ hc h⟩
theorem RS.op {ops:Array Oper} {o:Oper} {os:List Oper} {K:List AV->List Ob->Prop} (hg:o.guard=none) (h:OP P N o (mkA n l) aw fun r aw'=>RS P N ops os K (mkA n (dA l o.dst r)) aw'):RS P N ops (o::os) K (mkA n l) aw :=
 ⟨fun st h1 h2 σ w F a hc Q hQ=>by unfold wpList;rw [if_pos (by simp [Region.wanted,hg])];refine .inl (h.out st h1 h2 σ w F a hc _ _ fun r aw' σ' w' F' v hK hcur hrel=>RS.out hK st h1 h2 σ' w' F' _ ?_ Q hQ);have:=dv hcur hrel o.dst;rwa [dt] at this⟩
theorem kp {σ:List Value} {w:World} {F:Nat->Prop}:Rel σ w F (.tup []) undef:=.tup [] [] rfl (fun j c u hc=>by simp at hc)
theorem j9 {st:St} {ops:Array Oper} {j t:Nat} {b:Bool} {σ:List Value} {w:World} {F:Nat->Prop} {a:Act} (hc:Cur st (mkA n l) aw σ w F a) (ht:(ops[j]?).bind (·.dst)=some t) (hb:evA n l (.tmp t)=.bool b):yielded ops a.tmps j=some b:=by
 have hr:=hc.fr.ev (.tmp t);rw [aD,hb] at hr;have he:a.eval (.tmp t)=a.tmps.getD t undef:=rfl;rw [he] at hr;generalize hv:a.tmps.getD t undef=v at hr;cases hr;have:a.tmps[t]?=some (.bool b):=by
  cases hx:a.tmps[t]? with
  | none=>simp [hx,undef] at hv
  | some u=>simp [hx] at hv;rw [hv]
 simp [yielded,ht,this]
theorem RS.yes {ops:Array Oper} {o:Oper} {os:List Oper} {K:List AV->List Ob->Prop} {j t:Nat} {want b:Bool} (hg:o.guard=some (j,want)) (ht:(ops[j]?).bind (·.dst)=some t) (hb:evA n l (.tmp t)=.bool b) (hbw:b=want)
  (h:OP P N o (mkA n l) aw fun r aw'=>RS P N ops os K (mkA n (dA l o.dst r)) aw'):RS P N ops (o::os) K (mkA n l) aw :=
 ⟨fun st h1 h2 σ w F a hc Q hQ=>by unfold wpList;rw [if_pos (by simp [Region.wanted,hg,j9 hc ht hb,hbw])];refine .inl (h.out st h1 h2 σ w F a hc _ _ fun r aw' σ' w' F' v hK hcur hrel=>RS.out hK st h1 h2 σ' w' F' _ ?_ Q hQ);have:=dv hcur hrel o.dst;rwa [dt] at this⟩
theorem RS.no {ops:Array Oper} {o:Oper} {os:List Oper} {K:List AV->List Ob->Prop} {j t:Nat} {want b:Bool} (hg:o.guard=some (j,want)) (ht:(ops[j]?).bind (·.dst)=some t) (hb:evA n l (.tmp t)=.bool b) (hbw:b=!want)
  (h:RS P N ops os K (mkA n (dA l o.dst (.tup []))) aw):RS P N ops (o::os) K (mkA n l) aw :=
 ⟨fun st h1 h2 σ w F a hc Q hQ=>by unfold wpList;rw [if_neg (by simp [Region.wanted,hg,j9 hc ht hb,hbw])];refine h.out st h1 h2 σ w F _ ?_ Q hQ;have:=dv hc kp o.dst;rwa [dt] at this⟩
theorem ub {st:St} {ops:Array Oper} {j t:Nat} {σ:List Value} {w:World} {F:Nat->Prop} {a:Act} (hc:Cur st (mkA n l) aw σ w F a) (ht:(ops[j]?).bind (·.dst)=some t) (hb:evA n l (.tmp t)=.tup []):yielded ops a.tmps j=none:=by
 have hr:=hc.fr.ev (.tmp t);rw [aD,hb] at hr;have he:a.eval (.tmp t)=a.tmps.getD t undef:=rfl;rw [he] at hr;generalize hv:a.tmps.getD t undef=v at hr;cases hr with
 | tup _ vs hl _ =>
  have:vs=[]:=LR (by simpa using hl);subst this;simp only [yielded,ht,LF];cases hx:a.tmps[t]? with
  | none=>rfl
  | some u=>simp [hx] at hv;subst hv;rfl
theorem RS.nou {ops:Array Oper} {o:Oper} {os:List Oper} {K:List AV->List Ob->Prop} {j t:Nat} {want:Bool} (hg:o.guard=some (j,want)) (ht:(ops[j]?).bind (·.dst)=some t) (hb:evA n l (.tmp t)=.tup [])
  (h:RS P N ops os K (mkA n (dA l o.dst (.tup []))) aw):RS P N ops (o::os) K (mkA n l) aw :=
 ⟨fun st h1 h2 σ w F a hc Q hQ=>by unfold wpList;rw [if_neg (by simp [Region.wanted,hg,ub hc ht hb])];refine h.out st h1 h2 σ w F _ ?_ Q hQ;have:=dv hc kp o.dst;rwa [dt] at this⟩
theorem RS.join {ops:Array Oper} {os:List Oper} {K:List AV->List Ob->Prop} (m:Nat) (fr':List AV) (aw':List Ob) (h:RS P N ops (os.drop m) K fr' aw') (h2:RS P N ops (os.drop m) K fr' aw'->RS P N ops os K fr aw):RS P N ops os K fr aw:=h2 h
theorem RA.done {ops:Array Oper} {k:Nat} {li:Array Bool} {K:List AV->List Ob->Prop} (hr:Region.ready .any ops li=[]) (h:K fr aw):RA P N ops k li K fr aw :=
 ⟨fun st h1 h2 σ w F a hc R hR=>wpAny_done hr (hR _ _ _ _ _ _ hc h) k⟩
structure RO (P:Program) (N:Nat) (ops:Array Oper) (i:Nat) (K:List AV->List Ob->Prop) (fr:List AV) (aw:List Ob):Prop where
 out:∀ st:St,st.aw.length=N->st.σ.length=st.aw.length->∀ σ w F a,Cur st fr aw σ w F a->∀ (R Kc:Act->World->Prop),
  (∀ fr aw σ w F a,Cur st fr aw σ w F a->K fr aw->Kc a w)->wpOp P ops (onlyN R) i Kc a w
theorem RA.all {ops:Array Oper} {k:Nat} {li:Array Bool} {K:List AV->List Ob->Prop} {rs:List Nat} (hr:Region.ready .any ops li=rs) (hne:rs≠[]) (h:∀ i,i∈rs->RO P N ops i (RA P N ops k (li.setIfInBounds i true) K) fr aw):RA P N ops (k+1) li K fr aw :=
 ⟨fun st h1 h2 σ w F a hc R hR=>wpAny_all hr hne fun i hi=>(h i hi).out st h1 h2 σ w F a hc R _ fun fr aw σ w F a hc hK=>RA.out hK st h1 h2 σ w F a hc R hR⟩
theorem RO.op {ops:Array Oper} {i:Nat} {o:Oper} {K:List AV->List Ob->Prop} (hi:ops[i]?=some o) (hg:o.guard=none) (h:OP P N o (mkA n l) aw fun r aw'=>K (mkA n (dA l o.dst r)) aw'):RO P N ops i K (mkA n l) aw :=
 ⟨fun st h1 h2 σ w F a hc R Kc hK=>by unfold wpOp;simp only [hi];rw [if_pos (by simp [Region.wanted,hg])];refine .inl (h.out st h1 h2 σ w F a hc _ _ fun r aw' σ' w' F' v hk hcur hrel=>hK _ _ σ' w' F' _ ?_ hk);have:=dv hcur hrel o.dst;rwa [dt] at this⟩
theorem RO.yes {ops:Array Oper} {i:Nat} {o:Oper} {K:List AV->List Ob->Prop} {j t:Nat} {want b:Bool} (hi:ops[i]?=some o) (hg:o.guard=some (j,want)) (ht:(ops[j]?).bind (·.dst)=some t) (hb:evA n l (.tmp t)=.bool b) (hbw:b=want)
  (h:OP P N o (mkA n l) aw fun r aw'=>K (mkA n (dA l o.dst r)) aw'):RO P N ops i K (mkA n l) aw :=
 ⟨fun st h1 h2 σ w F a hc R Kc hK=>by unfold wpOp;simp only [hi];rw [if_pos (by simp [Region.wanted,hg,j9 hc ht hb,hbw])];refine .inl (h.out st h1 h2 σ w F a hc _ _ fun r aw' σ' w' F' v hk hcur hrel=>hK _ _ σ' w' F' _ ?_ hk);have:=dv hcur hrel o.dst;rwa [dt] at this⟩
theorem RO.no {ops:Array Oper} {i:Nat} {o:Oper} {K:List AV->List Ob->Prop} {j t:Nat} {want b:Bool} (hi:ops[i]?=some o) (hg:o.guard=some (j,want)) (ht:(ops[j]?).bind (·.dst)=some t) (hb:evA n l (.tmp t)=.bool b) (hbw:b=!want)
  (h:K (mkA n (dA l o.dst (.tup []))) aw):RO P N ops i K (mkA n l) aw :=
 ⟨fun st h1 h2 σ w F a hc R Kc hK=>by unfold wpOp;simp only [hi];rw [if_neg (by simp [Region.wanted,hg,j9 hc ht hb,hbw])];refine hK _ _ σ w F _ ?_ h;have:=dv hc kp o.dst;rwa [dt] at this⟩
theorem RO.nou {ops:Array Oper} {i:Nat} {o:Oper} {K:List AV->List Ob->Prop} {j t:Nat} {want:Bool} (hi:ops[i]?=some o) (hg:o.guard=some (j,want)) (ht:(ops[j]?).bind (·.dst)=some t) (hb:evA n l (.tmp t)=.tup [])
  (h:K (mkA n (dA l o.dst (.tup []))) aw):RO P N ops i K (mkA n l) aw :=
 ⟨fun st h1 h2 σ w F a hc R Kc hK=>by unfold wpOp;simp only [hi];rw [if_neg (by simp [Region.wanted,hg,ub hc ht hb])];refine hK _ _ σ w F _ ?_ h;have:=dv hc kp o.dst;rwa [dt] at this⟩
theorem RA.takeU {ops:Array Oper} {k i:Nat} {li:Array Bool} {o:Oper} {K:List AV->List Ob->Prop} {j t:Nat} {want:Bool} (hi:ops[i]?=some o) (hs:Region.noSelect ops=true) (hf:Region.free .any ops li i=true) (hr:(Region.ready .any ops li).contains i=true)
  (hg:o.guard=some (j,want)) (ht:(ops[j]?).bind (·.dst)=some t) (hb:evA n l (.tmp t)=.tup [])
  (h:RA P N ops k (li.setIfInBounds i true) K (mkA n (dA l o.dst (.tup []))) aw):RA P N ops (k+1) li K (mkA n l) aw :=
 ⟨fun st h1 h2 σ w F a hc R hR=>by refine wpAny_take hi hs hf hr (fun c a w hp=>hp) (.inr ⟨by simp [Region.wanted,hg,ub hc ht hb],rfl⟩) (h.out st h1 h2 σ w F _ ?_ R hR);have:=dv hc kp o.dst;rwa [dt] at this⟩
def gX:Op->Bool
 | .load _ _=>false
 | _=>true
theorem lX {st:St} {σ:List Value} {w:World} {F:Nat->Prop} {a:Act} {o:Oper} {K:AV->Prop} (hc:Cur st fr aw σ w F a) (hn:gX o.op=true) (h:vcQ P fr aw o.op K):∃ v r,(∀ w',(execOp a.eval o).run P w'=.ok (.value v) w')/\Rel σ w F r v/\K r:=by obtain ⟨v,r,h1,h2,h3⟩:=IE hc.fr hc.sim o (fun t x e=>by rw [e] at hn;cases hn) h;exact ⟨v,r,fun w'=>h1 w' trivial,h2,h3⟩
theorem RA.take {ops:Array Oper} {k i:Nat} {li:Array Bool} {o:Oper} {K:List AV->List Ob->Prop} (hi:ops[i]?=some o) (hs:Region.noSelect ops=true) (hf:Region.free .any ops li i=true) (hr:(Region.ready .any ops li).contains i=true) (hg:o.guard=none) (hn:gX o.op=true)
  (h:vcQ P (mkA n l) aw o.op fun r=>RA P N ops k (li.setIfInBounds i true) K (mkA n (dA l o.dst r)) aw):RA P N ops (k+1) li K (mkA n l) aw :=
 ⟨fun st h1 h2 σ w F a hc R hR=>by obtain ⟨v,r,hrun,hrel,hk⟩:=lX hc hn h;refine wpAny_take hi hs hf hr (fun c a w hp=>hp) (.inl ⟨by simp [Region.wanted,hg],hrun⟩) (RA.out hk st h1 h2 σ w F _ ?_ R hR);have:=dv hc hrel o.dst;rwa [dt] at this⟩
theorem RA.takeYes {ops:Array Oper} {k i:Nat} {li:Array Bool} {o:Oper} {K:List AV->List Ob->Prop} {j t:Nat} {want b:Bool} (hi:ops[i]?=some o) (hs:Region.noSelect ops=true) (hf:Region.free .any ops li i=true) (hr:(Region.ready .any ops li).contains i=true)
  (hg:o.guard=some (j,want)) (ht:(ops[j]?).bind (·.dst)=some t) (hb:evA n l (.tmp t)=.bool b) (hbw:b=want) (hn:gX o.op=true)
  (h:vcQ P (mkA n l) aw o.op fun r=>RA P N ops k (li.setIfInBounds i true) K (mkA n (dA l o.dst r)) aw):RA P N ops (k+1) li K (mkA n l) aw :=
 ⟨fun st h1 h2 σ w F a hc R hR=>by obtain ⟨v,r,hrun,hrel,hk⟩:=lX hc hn h;refine wpAny_take hi hs hf hr (fun c a w hp=>hp) (.inl ⟨by simp [Region.wanted,hg,j9 hc ht hb,hbw],hrun⟩) (RA.out hk st h1 h2 σ w F _ ?_ R hR);have:=dv hc hrel o.dst;rwa [dt] at this⟩
theorem RA.takeNo {ops:Array Oper} {k i:Nat} {li:Array Bool} {o:Oper} {K:List AV->List Ob->Prop} {j t:Nat} {want b:Bool} (hi:ops[i]?=some o) (hs:Region.noSelect ops=true) (hf:Region.free .any ops li i=true) (hr:(Region.ready .any ops li).contains i=true)
  (hg:o.guard=some (j,want)) (ht:(ops[j]?).bind (·.dst)=some t) (hb:evA n l (.tmp t)=.bool b) (hbw:b=!want)
  (h:RA P N ops k (li.setIfInBounds i true) K (mkA n (dA l o.dst (.tup []))) aw):RA P N ops (k+1) li K (mkA n l) aw :=
 ⟨fun st h1 h2 σ w F a hc R hR=>by refine wpAny_take hi hs hf hr (fun c a w hp=>hp) (.inr ⟨by simp [Region.wanted,hg,j9 hc ht hb,hbw],rfl⟩) (h.out st h1 h2 σ w F _ ?_ R hR);have:=dv hc kp o.dst;rwa [dt] at this⟩
end
end
section
open Go.RowKit
structure FieldAt (P:Program) (t:TypeId) (k:Nat) (ft:TypeId) (off:Nat):Prop where
 out:∃ fs f,P.underlying t=some (.struct fs)/\fs[k]?=some f/\f.type=ft/\f.offset=off/\P.cellsOf ft≠0/\(P.underlying ft).isSome=true
structure SliceOf (P:Program) (t e:TypeId) (m:Nat):Prop where
 u:P.underlying t=some (.slice e)
 c:P.cellsOf e=m
 s:(P.underlying e).isSome=true
 p:0<m
 b:P.bytesOf e<=128
 z:∃ z,aI P e=some z/\z.length=m
section
variable {P:Program} {N n:Nat} {aw aw':List Ob} {l:List (Nat × AV)} {t:TypeId} {x y z:Operand} {K:AV→Prop} {K2:AV→List Ob→Prop} {v u r:AV}
def ma:Op->Bool
 | .move _ | .assign _ | .pick _ _ _ | .fieldAddr _ _ _ | .field _ _ _ | .indexAddr _ _ _ | .index _ _ _ | .binOp _ _ _ _ _ | .unOp _ _ _ | .makeFunc _ _ _ | .build _ _ | .extract _ _ | .nilCheck _=>true
 | .call { callee:=.builtin .len,.. } | .call { callee:=.builtin .min,.. } | .call { callee:=.builtin .max,.. }=>true
 | _=>false
theorem OP.q {o:Oper} {fr:List AV} (hq:ma o.op=true) (h:vcQ P fr aw o.op fun r=>K2 r aw):OP P N o fr aw K2:=by
 refine OP.of_vc ?_;obtain ⟨d,op,ty,ps,af,g⟩:=o;cases op with
 | call c =>
  obtain ⟨cal,as₀,ts⟩:=c;cases cal with
  | builtin b=>cases b<;>first | exact h | exact absurd hq (by simp [ma])
  | _=>exact absurd hq (by simp [ma])
 | _=>first | exact h | exact absurd hq (by simp [ma])
theorem dZ (hx:evA n l x=v) (h:K v):vcQ P (mkA n l) aw (.move x) K:=by show K (ev (mkA n l) x);rw [aD,hx];exact h
theorem cz (hx:evA n l x=v) (h:K v):vcQ P (mkA n l) aw (.assign x) K:=by show K (ev (mkA n l) x);rw [aD,hx];exact h
theorem te {b:Bool} (hc:evA n l z=.bool b) (hr:pickV b (evA n l x) (evA n l y)=r) (h:K r):vcQ P (mkA n l) aw (.pick z x y) K:=by simp only [vcQ,aD,hc,hr];exact h
theorem bj {b:Bool} (hc:evA n l z=.bool b) (hb:b=true) (hx:evA n l x=v) (h:K v):vcQ P (mkA n l) aw (.pick z x y) K:=by refine te hc ?_ h;subst hb;rw [hx];unfold pickV;split<;>simp_all
theorem aZ {b:Bool} (hc:evA n l z=.bool b) (hb:b=false) (hx:evA n l y=v) (h:K v):vcQ P (mkA n l) aw (.pick z x y) K:=by refine te hc ?_ h;subst hb;rw [hx];unfold pickV;split<;>simp_all
section
variable {k:IntKind} {a b:Int} {yt:TypeId}
theorem v_quo {c:Int} (hx:evA n l x=.int k a) (hy:evA n l y=.int k b) (hc:quo k a b=some c) (h:K (.int k c)):vcQ P (mkA n l) aw (.binOp .quo t x y yt) K:=by
 unfold quo at hc;split at hc
 ·cases hc
 ·cases hc;simp only [vcQ,gC,aD,hx,hy];exact ⟨trivial,by assumption,h⟩
theorem v_rem {c:Int} (hx:evA n l x=.int k a) (hy:evA n l y=.int k b) (hc:rem a b=some c) (h:K (.int k c)):vcQ P (mkA n l) aw (.binOp .rem t x y yt) K:=by
 unfold rem at hc;split at hc
 ·cases hc
 ·cases hc;simp only [vcQ,gC,aD,hx,hy];exact ⟨trivial,by assumption,h⟩
theorem v_shl {k':IntKind} {c:Int} (hx:evA n l x=.int k a) (hy:evA n l y=.int k' b) (hc:shl k a b=some c) (h:K (.int k c)):vcQ P (mkA n l) aw (.binOp .shl t x y yt) K:=by
 unfold shl at hc;split at hc
 ·cases hc;simp only [vcQ,gC,aD,hx,hy];exact ⟨by assumption,h⟩
 ·cases hc
theorem iS {k':IntKind} {c:Int} (hx:evA n l x=.int k a) (hy:evA n l y=.int k' b) (hc:shr k a b=some c) (h:K (.int k c)):vcQ P (mkA n l) aw (.binOp .shr t x y yt) K:=by
 unfold shr at hc;split at hc
 ·cases hc;simp only [vcQ,gC,aD,hx,hy];exact ⟨by assumption,h⟩
 ·cases hc
theorem v_neg (hx:evA n l x=.int k a) (h:K (.int k (k.wrap (0 - a)))):vcQ P (mkA n l) aw (.unOp .neg t x) K:=by simp only [vcQ,aD,hx];exact h
end
section
variable {a b:List UInt8} {p q:Bool} {yt:TypeId}
theorem oo {c:List UInt8} (hx:evA n l x=.str a) (hy:evA n l y=.str b) (hc:cat a b=some c) (h:K (.str c)):vcQ P (mkA n l) aw (.binOp .add t x y yt) K:=by
 unfold cat at hc;split at hc
 ·cases hc;simp only [vcQ,gC,aD,hx,hy];exact ⟨by assumption,h⟩
 ·cases hc
theorem v_not (hx:evA n l x=.bool p) (h:K (.bool (!p))):vcQ P (mkA n l) aw (.unOp .not t x) K:=by simp only [vcQ,aD,hx];exact h
theorem Jv {cs ds:List AV} {ks:List Nat} {r:Bool} (hS:qj P t ks) (hx:evA n l x=.agg cs) (hy:evA n l y=.agg ds) (hk:cs.map AV.kd=ks) (hk':ds.map AV.kd=ks) (he:gh cs ds=some r) (h:K (.bool (!r))):vcQ P (mkA n l) aw (.binOp .neq t x y yt) K:=by simp only [vcQ,gC,aD,hx,hy,he];exact ⟨by rw [hk,hk'],by rw [hk];exact hS,h⟩
end
theorem DX {k id off o ft:Nat} (hF:FieldAt P t k ft o) (hx:evA n l x=.ptr id off) {off':Nat} (ho:off+o=off') (h:K (.ptr id off')):vcQ P (mkA n l) aw (.fieldAddr t x k) K:=by obtain ⟨fs,f,h1,h2,h3,h4,h5,h6⟩:=hF.out;subst h3 h4 ho;simp only [vcQ,aD,h1,h2,hx];exact ⟨h5,h6,h⟩
theorem DU {k off o ft:Nat} {row:List AV} (hF:FieldAt P t k ft o) (hx:evA n l x=.elt row off) {off':Nat} (ho:off+o=off') (h:K (.elt row off')):vcQ P (mkA n l) aw (.fieldAddr t x k) K:=by obtain ⟨fs,f,h1,h2,h3,h4,h5,h6⟩:=hF.out;subst h3 h4 ho;simp only [vcQ,aD,h1,h2,hx];exact ⟨h5,h6,h⟩
theorem DL {k id s i off o ft:Nat} (hF:FieldAt P t k ft o) (hx:evA n l x=.aptr id s i off) {off':Nat} (ho:off+o=off') (h:K (.aptr id s i off')):vcQ P (mkA n l) aw (.fieldAddr t x k) K:=by obtain ⟨fs,f,h1,h2,h3,h4,h5,h6⟩:=hF.out;subst h3 h4 ho;simp only [vcQ,aD,h1,h2,hx];exact ⟨h5,h6,h⟩
theorem aJ {row:List AV} {off:Nat} {c:AV} (hk:aT P t=some false) (hc:row[off]?=some c) (h:K c):cj P t row off K:=by simp only [cj,hk,hc];exact h
theorem iC {row cs:List AV} {off m:Nat} (hk:aT P t=some true) (hm:P.cellsOf t=m) (hl:Nat.ble (off+m) row.length=true) (hc:(row.drop off).take m=cs) (h:K (.agg cs)):cj P t row off K:=by simp only [cj,hk,hm,hc];exact ⟨MU hl,h⟩
theorem Jb {k ft o:Nat} {cs:List AV} (hF:FieldAt P t k ft o) (hx:evA n l x=.agg cs) (h:cj P ft cs o K):vcQ P (mkA n l) aw (.field t x k) K:=by obtain ⟨fs,f,h1,h2,h3,h4,h5,h6⟩:=hF.out;subst h3 h4;simp only [vcQ,aD,h1,h2,hx];exact h
theorem gQ {id off:Nat} {cs:List AV} (hx:evA n l x=.ptr id off) (ho:aw[id]?=some (.box cs)) (h:cj P t cs off K):vcQ P (mkA n l) aw (.load t x) K:=by simp only [vcQ,aD,hx,ho];exact h
theorem Fe {off:Nat} {row:List AV} (hx:evA n l x=.elt row off) (h:cj P t row off K):vcQ P (mkA n l) aw (.load t x) K:=by simp only [vcQ,aD,hx];exact h
theorem aF {α:Type} {en:α->List AV} {xs:List α} {e c:Nat} {k:IntKind} {i:Int} {a:α} (hS:SliceOf P t e c) (hl:∀ a,(en a).length=c) (hx:evA n l x=.sl (xs.map en)) (hy:evA n l y=.int k i) (hi:idx xs i=some a) (h:K (.elt (en a) 0)):vcQ P (mkA n l) aw (.indexAddr t x y) K:=by obtain ⟨h0,h1,h2⟩:=Ay hi;simp only [vcQ,aD,hS.u,hx,hy];refine ⟨h0,by simpa using h1,fun row hrow=>?_⟩;rw [LT,h2] at hrow;cases hrow;exact ⟨by rw [hS.c];exact hl a,hS.s,h⟩
theorem EN {id e c m:Nat} {rows:List (List AV)} {k:IntKind} {i:Int} (hS:SliceOf P t e c) (hx:evA n l x=.ref id) (hy:evA n l y=.int k i) (ho:aw[id]?=some (.arr e c rows)) (hm:rows.length=m) (h0:0<=i) (h1:i<m) (h:K (.aptr id c i.toNat 0)):vcQ P (mkA n l) aw (.indexAddr t x y) K:=by simp only [vcQ,aD,hS.u,hx,hy,ho];exact ⟨hS.c.symm,hS.s,h0,by rw [hm];exact h1,h⟩
theorem cT {s:List UInt8} {k:IntKind} {i:Int} {b:UInt8} (hu:P.underlying t=some .string) (hx:evA n l x=.str s) (hy:evA n l y=.int k i) (hi:idx s i=some b) (h:K (.int .u8 b.toNat)):vcQ P (mkA n l) aw (.index t x y) K:=by obtain ⟨h0,h1,h2⟩:=Ay hi;simp only [vcQ,aD,hu,hx,hy];exact ⟨h0,h1,fun b' hb=>by rw [h2] at hb;cases hb;exact h⟩
theorem jt {rows:List (List AV)} {e c:Nat} {yt:TypeId} (hS:SliceOf P t e c) (hx:evA n l x=.sl rows) (hy:evA n l y=.nils) (h:∀ z:Bool,(z=true->rows=[])->K (.bool z)):vcQ P (mkA n l) aw (.binOp .eql t x y yt) K:=by simp only [vcQ,gC,aD,hx,hy,hS.u];exact h
theorem Gb {vs:List AV} {k:Nat} (hx:evA n l x=.tup vs) (hv:vs[k]?=some v) (h:K v):vcQ P (mkA n l) aw (.extract x k) K:=by simp only [vcQ,aD,hx,hv];exact h
theorem F4 {id off:Nat} (hx:evA n l x=.ptr id off) (h:K (.ptr id off)):vcQ P (mkA n l) aw (.nilCheck x) K:=by simp only [vcQ,aD,hx];exact h
theorem Gm {row:List AV} {off:Nat} (hx:evA n l x=.elt row off) (h:K (.elt row off)):vcQ P (mkA n l) aw (.nilCheck x) K:=by simp only [vcQ,aD,hx];exact h
theorem Fy {id s i off:Nat} (hx:evA n l x=.aptr id s i off) (h:K (.aptr id s i off)):vcQ P (mkA n l) aw (.nilCheck x) K:=by simp only [vcQ,aD,hx];exact h
theorem E8 {f:Nat} {cs:List AV} (hx:evA n l x=.func f cs) (h:K (.func f cs)):vcQ P (mkA n l) aw (.nilCheck x) K:=by simp only [vcQ,aD,hx];exact h
theorem GI {f:Nat} {cs:List AV} (hx:evA n l x=.bnd f cs) (h:K (.bnd f cs)):vcQ P (mkA n l) aw (.nilCheck x) K:=by simp only [vcQ,aD,hx];exact h
theorem an {α:Type} {en:α->List AV} {xs:List α} {e c:Nat} (hS:SliceOf P t e c) (hx:evA n l x=.sl (xs.map en)) (h:K (.int .i64 xs.length)):vcQ P (mkA n l) aw (.call ⟨.builtin .len,#[x],#[t]⟩) K:=by show vcB P (mkA n l) aw .len [x] [t] K;simp only [vcB,aD,hS.u,hx,LS];exact h
theorem dH {α:Type} {en:α->List AV} {xs:List α} {id e c:Nat} (hS:SliceOf P t e c) (hx:evA n l x=.ref id) (ho:aw[id]?=some (.arr e c (xs.map en))) (h:K (.int .i64 xs.length)):vcQ P (mkA n l) aw (.call ⟨.builtin .len,#[x],#[t]⟩) K:=by show vcB P (mkA n l) aw .len [x] [t] K;simp only [vcB,aD,hS.u,hx,ho,LS];exact h
theorem rY {f:FuncId} {caps:Array Operand} {cs:List AV} (hc:caps.toList.map (evA n l)=cs) (h:K (.func f cs)):vcQ P (mkA n l) aw (.makeFunc (.func f) #[] caps) K:=by show K (.func f (caps.toList.map (ev (mkA n l))));rw [show caps.toList.map (ev (mkA n l))=cs from by rw [<- hc];exact Me fun x _=>aD n l x];exact h
theorem v_bnd {f:FuncId} {x0:Operand} {xs:List Operand} {cs:List AV} (hc:(x0::xs).map (evA n l)=cs) (h:K (.bnd f cs)):vcQ P (mkA n l) aw (.makeFunc (.func f) (x0::xs).toArray #[]) K:=by show []=[]/\K (.bnd f ((x0::xs).map (ev (mkA n l))));rw [show (x0::xs).map (ev (mkA n l))=cs from by rw [<- hc];exact Me fun x _=>aD n l x];exact ⟨rfl,h⟩
theorem AZ {parts:Array (Nat × Operand)} {z:List AV} {pl:List (Nat × Nat)} {cs:List AV} (hz:aI P t=some z) (hp:cm P t=some pl) (hc:hJ (fun i=>pl[i]?) z (parts.toList.map fun p=>(p.1,evA n l p.2))=some cs) (h:K (.agg cs)):vcQ P (mkA n l) aw (.build t parts) K:=by simp only [vcQ,hz,hp];rw [show (parts.toList.map fun p=>(p.1,ev (mkA n l) p.2))=parts.toList.map fun p=>(p.1,evA n l p.2) from Me fun p _=>by rw [aD],hc];exact h
theorem J0 {s:TypeId} {k k':IntKind} {a:Int} {ds:TypeDesc} (hs:P.underlying s=some ds) (ht:P.underlying t=some (.int k')) (hx:evA n l x=.int k a) (h:K (.int k' (k'.wrap a))):vcQ P (mkA n l) aw (.convert s t x) K:=by simp only [vcQ,hs,ht,aD,hx];exact h
theorem EF {s b:List UInt8} {lo hi:Option Operand} {i j:Int} {k k':IntKind} (hu:P.underlying t=some .string) (hx:evA n l x=.str s) (hl:(lo.map (evA n l)).getD (.int .i64 0)=.int k i) (hh:(hi.map (evA n l)).getD (.int .i64 s.length)=.int k' j) (hs:sub s i j=some b) (h:K (.str b)):vcQ P (mkA n l) aw (.slice t x lo hi none) K:=by
 unfold sub at hs;split at hs
 ·rename_i hc;cases hs;simp only [vcQ,hu,aD,hx];rw [show lo.map (ev (mkA n l))=lo.map (evA n l) from by cases lo<;>simp [aD],show hi.map (ev (mkA n l))=hi.map (evA n l) from by cases hi<;>simp [aD],hl,hh];exact ⟨hc.1,hc.2.1,hc.2.2,h⟩
 ·cases hs
theorem iu {α:Type} {en:α->List AV} {xs b:List α} {e c:Nat} {lo hi:Option Operand} {i j:Int} {k k':IntKind} (hS:SliceOf P t e c) (hen:∀ a,(en a).length=c) (hx:evA n l x=.sl (xs.map en)) (hl:(lo.map (evA n l)).getD (.int .i64 0)=.int k i) (hh:(hi.map (evA n l)).getD (.int .i64 xs.length)=.int k' j) (hs:sub xs i j=some b) (h:K (.sl (b.map en))):vcQ P (mkA n l) aw (.slice t x lo hi none) K:=by
 unfold sub at hs;split at hs
 ·rename_i hc;cases hs;simp only [vcQ,hS.u,aD,hx,LS];rw [show lo.map (ev (mkA n l))=lo.map (evA n l) from by cases lo<;>simp [aD],show hi.map (ev (mkA n l))=hi.map (evA n l) from by cases hi<;>simp [aD],hl,hh];refine ⟨hS.s,fun row hr=>?_,hc.1,hc.2.1,hc.2.2,?_⟩
  ·obtain ⟨a,_,rfl⟩:=L9.1 hr;rw [hS.c];exact hen a
  ·rw [<- Nh,<- NO];exact h
 ·cases hs
variable {d:Option Tmp} {ty:TypeId} {ps:String} {af:Array Edge} {g:Option (Nat × Bool)}
theorem cU {id off:Nat} {cs:List AV} (hx:evA n l x=.ptr id off) (ho:aw[id]?=some (.box cs)) (h:cj P t cs off fun r=>K2 r aw):OP P N ⟨d,.load t x,ty,ps,af,g⟩ (mkA n l) aw K2 :=
 OP.of_vc (by rw [A7,aD,hx];simp only [ho];exact h)
theorem EJ {id s i off e:Nat} {rows:List (List AV)} {row:List AV} (hx:evA n l x=.aptr id s i off) (ho:aw[id]?=some (.arr e s rows)) (hr:rows[i]?=some row) (h:cj P t row off fun r=>K2 r aw):OP P N ⟨d,.load t x,ty,ps,af,g⟩ (mkA n l) aw K2 :=
 OP.of_vc (by rw [A7,aD,hx];simp only [ho];exact ⟨trivial,(LH.1 hr).1,fun row' h'=>by rw [hr] at h';cases h';exact h⟩)
theorem EQ {id off:Nat} {cs vs cs':List AV} {m:Nat} (hm:P.cellsOf t=m) (hs:(P.underlying t).isSome=true) (hx:evA n l x=.ptr id off) (hy:(evA n l y).cells=some vs) (hv:vs.length=m) (ho:aw[id]?=some (.box cs)) (hl:Nat.ble (off+m) cs.length=true) (hc:splice cs off vs=cs') (ha:aw.set id (.box cs')=aw') (h:K2 .any aw'):OP P N ⟨d,.store t x y,ty,ps,af,g⟩ (mkA n l) aw K2 :=
 OP.of_vc (by subst ha hc;rw [zU,aD,aD,hx];simp only [hy,ho];exact ⟨hs,by rw [hv,hm],by rw [hv];exact MU hl,h⟩)
theorem Ee {id s i off e:Nat} {rows:List (List AV)} {row vs row':List AV} {m:Nat} (hm:P.cellsOf t=m) (hs:(P.underlying t).isSome=true) (hx:evA n l x=.aptr id s i off) (hy:(evA n l y).cells=some vs) (hv:vs.length=m) (ho:aw[id]?=some (.arr e s rows)) (hr:rows[i]?=some row) (hl:Nat.ble (off+m) s=true) (hc:splice row off vs=row') (ha:aw.set id (.arr e s (rows.set i row'))=aw') (h:K2 .any aw'):OP P N ⟨d,.store t x y,ty,ps,af,g⟩ (mkA n l) aw K2 :=
 OP.of_vc (by subst ha hc;rw [zU,aD,aD,hx];simp only [hy,ho];exact ⟨hs,trivial,by rw [hv,hm],(LH.1 hr).1,by rw [hv];exact MU hl,fun row'' h'=>by rw [hr] at h';cases h';exact h⟩)
theorem H5 {cs:List AV} {k:Nat} (hz:aI P t=some cs) (hk:aw.length=k) (ha:aw++[.box cs]=aw') (h:K2 (.ptr k 0) aw'):OP P N ⟨d,.alloc t,ty,ps,af,g⟩ (mkA n l) aw K2 :=
 OP.of_vc (by subst hk ha;rw [HH,hz];exact h)
theorem o_box {cs:List AV} {k:Nat} (hx:(evA n l x).cells=some cs) (hk:aw.length=k) (ha:aw++[.box cs]=aw') (h:K2 (.ptr k 0) aw'):OP P N ⟨d,.box t x,ty,ps,af,g⟩ (mkA n l) aw K2 :=
 OP.of_vc (by subst hk ha;rw [JX,aD,hx];exact h)
theorem lK {s b:List UInt8} {lo hi:Option Operand} {i j:Int} {k k':IntKind} (hu:P.underlying t=some .string) (hx:evA n l x=.str s) (hl:(lo.map (evA n l)).getD (.int .i64 0)=.int k i) (hh:(hi.map (evA n l)).getD (.int .i64 s.length)=.int k' j) (hs:sub s i j=some b) (h:K2 (.str b) aw):OP P N ⟨d,.slice t x lo hi none,ty,ps,af,g⟩ (mkA n l) aw K2 :=
 OP.of_vc (by have:=EF (P:=P) (aw:=aw) (K:=fun r=>K2 r aw) hu hx hl hh hs h;show gB P (mkA n l) aw (.slice t x lo hi none) K2;unfold gB;rw [if_pos (by simp only [isQ,aD,hx])];exact this)
theorem lN {α:Type} {en:α->List AV} {xs b:List α} {e c:Nat} {lo hi:Option Operand} {i j:Int} {k k':IntKind} (hS:SliceOf P t e c) (hen:∀ a,(en a).length=c) (hx:evA n l x=.sl (xs.map en)) (hl:(lo.map (evA n l)).getD (.int .i64 0)=.int k i) (hh:(hi.map (evA n l)).getD (.int .i64 xs.length)=.int k' j) (hs:sub xs i j=some b) (h:K2 (.sl (b.map en)) aw):OP P N ⟨d,.slice t x lo hi none,ty,ps,af,g⟩ (mkA n l) aw K2 :=
 OP.of_vc (by have:=iu (P:=P) (aw:=aw) (K:=fun r=>K2 r aw) hS hen hx hl hh hs h;show gB P (mkA n l) aw (.slice t x lo hi none) K2;unfold gB;rw [if_pos (by simp only [isQ,aD,hx])];exact this)
theorem o_mk {α:Type} {en:α->List AV} {e c k:Nat} {k1 k2:IntKind} {i:Int} {zr:α} {xs:List α} (hS:SliceOf P t e c) (hz:aI P e=some (en zr)) (hx:evA n l x=.int k1 i) (hy:evA n l y=.int k2 i) (hm:mk i zr=some xs) (hk:aw.length=k) (ha:aw++[.arr e c (xs.map en)]=aw') (h:K2 (.ref k) aw'):OP P N ⟨d,.makeSlice t x y,ty,ps,af,g⟩ (mkA n l) aw K2 :=
 OP.of_vc (by
  unfold mk at hm;split at hm
  ·rename_i hc;cases hm;subst hk ha;obtain ⟨z',hz1,hz2⟩:=hS.z;rw [hz] at hz1;cases hz1;rw [xr,hS.u];simp only [aD,hx,hy,hz];refine ⟨by rw [hS.c,hz2],by rw [hS.c];exact hS.p,hc.1,Mh _,.inr trivial,?_,by unfold maxLen;omega,by rw [hS.c];simpa using h⟩;have h1:i.toNat<=1099511627776:=by omega
   exact M0 (NL hS.b h1) (by decide)
  ·cases hm)
theorem bn {len:Nat} {parts:Array (Nat × Operand)} {e c k:Nat} {z:List AV} {rows:List (List AV)} {vs:List AV} (hS:SliceOf P t e c) (hz:aI P e=some z) (hl:Nat.ble (len*c) 16777216=true) (hv:parts.toList.map (fun p=>evA n l p.2)=vs) (hn:dE aw vs=(vs,aw)) (hr:mc P c (List.replicate len z) ((parts.toList.map (·.1)).zip vs)=some rows) (hk:aw.length=k) (ha:aw++[.arr e c rows]=aw') (h:K2 (.ref k) aw'):OP P N ⟨d,.buildSlice t len parts,ty,ps,af,g⟩ (mkA n l) aw K2 :=
 OP.of_vc (by subst hk ha;obtain ⟨z',hz1,hz2⟩:=hS.z;rw [hz] at hz1;cases hz1;show vcE P (mkA n l) aw (.buildSlice t len parts) K2;simp only [vcE,hS.u,hz,hS.c];rw [show (parts.toList.map fun p=>ev (mkA n l) p.2)=vs from by rw [<- hv];exact Me fun p _=>aD n l p.2,hn,hr];exact ⟨hz2,hS.p,MU hl,h⟩)
theorem cg {α:Type} {en:α->List AV} {xs ys r:List α} {id e c k:Nat} {aw1:List Ob} (hS:SliceOf P t e c) (hen:∀ a,(en a).length=c) (hx:evA n l x=.ref id) (hy:norm aw (evA n l y)=(.sl (ys.map en),aw1)) (ho:aw1[id]?=some (.arr e c (xs.map en))) (hr:app xs ys=some r) (hk:aw1.length=k) (ha:aw1.set id .dead++[.arr e c (r.map en)]=aw') (h:K2 (.ref k) aw'):OP P N ⟨d,.call ⟨.builtin .append,#[x,y],#[t,t]⟩,ty,ps,af,g⟩ (mkA n l) aw K2 :=
 OP.of_vc (by
  unfold app at hr;split at hr
  ·rename_i hc;cases hr;subst hk ha;obtain ⟨z',hz1,hz2⟩:=hS.z;show vcApp P (mkA n l) aw [x,y] [t,t] K2;simp only [vcApp,hS.u,hz1,aD,hx,hy,hS.c,LS,ho];exact ⟨trivial,trivial,trivial,hz2,hS.p,fun row hr=>by obtain ⟨a,_,rfl⟩:=L9.1 hr;exact hen a,hc,hS.b,by rw [<- MW];exact h⟩
  ·cases hr)
end
end
section
open Go.RowKit
section
variable {P:Program} {N n:Nat} {aw aw':List Ob} {l:List (Nat × AV)} {ρ:List Nat}
def RenA (ρ:List Nat):List (Nat × AV)->List (Nat × AV)->Prop
 | [],_=>True
 | (s,v)::r,l=>Ren ρ v (lkA l s)/\RenA ρ r l
theorem Bd:∀ {l' l:List (Nat × AV)},RenA ρ l' l->∀ t,Ren ρ (lkA l' t) (lkA l t)
 | [],l,_,t=>BJ ρ _
 | (s,v)::r,l,h,t=>by
  rw [jq];by_cases e:s=t
  ·subst e;rw [if_pos rfl];exact h.1
  ·rw [if_neg e];exact Bd h.2 t
theorem BD:∀ {as' as₀:List AV},as'.length=as₀.length->(∀ (j:Nat) a' a,as'[j]?=some a'->as₀[j]?=some a->Ren ρ a' a)->ck ρ as' as₀
 | [],[],_,_=>trivial
 | a'::as',a::as₀,h,k=>⟨k 0 a' a rfl rfl,BD (by simpa using h) fun j x y hx hy=>k (j+1) x y (by simpa using hx) (by simpa using hy)⟩
 | [],_::_,h,_=>by simp at h
 | _::_,[],h,_=>by simp at h
theorem Hq {l':List (Nat × AV)} (h:RenA ρ l' l):ck ρ (mkA n l') (mkA n l):=by
 refine BD (by rw [l6,l6]) fun j a' a h1 h2=>?_
 rw [gf] at h1 h2;split at h1
 ·rename_i hj;rw [if_pos hj] at h2;cases h1;cases h2;exact Bd h j
 ·cases h1
def nilA (n:Nat):List (Nat × TypeId × Nat)->List (Nat × AV)->List Ob->List (Nat × AV) × List Ob
 | [],l,aw=>(l,aw)
 | (s,e,z)::r,l,aw =>
  match Nat.blt s n,lkA l s with
  | true,.nils=>nilA n r ((s,.ref aw.length)::l) (aw++[.arr e z []])
  | _,_=>nilA n r l aw
theorem pN:∀ (nl:List (Nat × TypeId × Nat)) (l:List (Nat × AV)) (aw:List Ob),nilify nl (mkA n l) aw=(mkA n (nilA n nl l aw).1,(nilA n nl l aw).2)
 | [],l,aw=>rfl
 | (s,e,z)::r,l,aw=>by
  unfold nilify nilA;rw [gf];by_cases hs:s<n
  ·have hb:Nat.blt s n=true:=by rw [NY];exact hs
   rw [if_pos hs,hb];cases hv:lkA l s<;>simp only<;>first
    | exact pN r l aw
    | (rw [show (mkA n l).set s (.ref aw.length)=mkA n ((s,.ref aw.length)::l) from dt n l (some s) _];exact pN r _ _)
  ·have hb:Nat.blt s n=false:=by
    cases hb:Nat.blt s n
    ·rfl
    ·rw [NY] at hb;exact absurd hb hs
   rw [if_neg hs,hb];exact pN r l aw
theorem Weak.mkN {l' l1:List (Nat × AV)} {aw1:List Ob} (nl:List (Nat × TypeId × Nat)) (ρ:List Nat) (h1:ρ.Nodup) (h2:∀ k,k<N->ρ[k]?=some k) (hn:nilA n nl l aw=(l1,aw1)) (h3:RenA ρ l' l1) (h4:bR ρ aw1 ρ aw'):Weak N (mkA n l) aw (mkA n l') aw':=by
 refine ⟨nl,ρ,h1,h2,?_,?_⟩
 ·rw [pN,hn];exact Hq h3
 ·rw [pN,hn];exact h4
theorem Weak.mk {l':List (Nat × AV)} (ρ:List Nat) (h1:ρ.Nodup) (h2:∀ k,k<N->ρ[k]?=some k) (h3:RenA ρ l' l) (h4:bR ρ aw ρ aw'):Weak N (mkA n l) aw (mkA n l') aw':=Weak.mkN [] ρ h1 h2 rfl h3 h4
theorem dz {k:IntKind} {a b:Int} (h:a=b):Ren ρ (.int k a) (.int k b):=by rw [h];exact gU (aG _ _)
theorem fb {a b:Bool} (h:a=b):Ren ρ (.bool a) (.bool b):=by rw [h];exact gU (ji _)
theorem aE {a b:List UInt8} (h:a=b):Ren ρ (.str a) (.str b):=by rw [h];exact gU (aY _)
theorem cV {α:Type} {en:α->List AV} (hp:∀ a x,x∈en a->Pure x) (xs:List α):Pure (.sl (xs.map en)):=IM _ fun row hr c hc=>by obtain ⟨a,_,rfl⟩:=L9.1 hr;exact hp a c hc
theorem rn_sl {α:Type} {en:α->List AV} {xs ys:List α} (hp:∀ a x,x∈en a->Pure x) (h:xs=ys):Ren ρ (.sl (xs.map en)) (.sl (ys.map en)):=by rw [h];exact gU (cV hp _)
theorem JK {cs ds:List AV} (h:ck ρ cs ds):Ren ρ (.agg cs) (.agg ds):=fun σ w F v hr σ' hσ=>by
 cases hr with
 | agg _ vs hl h1 hc =>
  have:=fa h ⟨hl,hc⟩ hσ;exact .agg cs vs this.1 h1 this.2
theorem Kh {cs ds:List AV} (h:ck ρ cs ds):Ren ρ (.tup cs) (.tup ds):=fun σ w F v hr σ' hσ=>by
 cases hr with
 | tup _ vs hl hc =>
  have:=fa h ⟨hl,hc⟩ hσ;exact .tup cs vs this.1 this.2
theorem fS {f:FuncId} {cs ds:List AV} (h:ck ρ cs ds):Ren ρ (.func f cs) (.func f ds):=fun σ w F v hr σ' hσ=>by
 cases hr with
 | func _ _ vs hl hc =>
  have:=fa h ⟨hl,hc⟩ hσ;exact .func f cs vs this.1 this.2
theorem ml {f:FuncId} {cs ds:List AV} (h:ck ρ cs ds):Ren ρ (.bnd f cs) (.bnd f ds):=fun σ w F v hr σ' hσ=>by
 cases hr with
 | bnd _ _ vs hl hc =>
  have:=fa h ⟨hl,hc⟩ hσ;exact .bnd f cs vs this.1 this.2
theorem cn {k id:Nat} (h:ρ[k]?=some id):Ren ρ (.ref k) (.ref id):=BG h
theorem al {k id off:Nat} (h:ρ[k]?=some id):Ren ρ (.ptr k off) (.ptr id off):=IJ h
theorem AW {k id s i j off:Nat} (h:ρ[k]?=some id) (hi:i=j):Ren ρ (.aptr k s i off) (.aptr id s j off):=fun σ w F v hr σ' hσ=>by
 subst hi;cases hr with
 | aptr _ _ _ _ g n c hg=>exact .aptr k s i off g n c (by rw [hσ k id h];exact hg)
theorem ce {a:AV}:Ren ρ .any a:=BJ ρ a
theorem dy {a:AV} (h:Pure a):Ren ρ a a:=gU h
theorem ao {aw:List Ob}:bR ρ aw [] []:=trivial
theorem d5 {α:Type} {en:α->List AV} {xs ys:List α} {ids:List Nat} {id e s:Nat} (h:aw[id]?=some (.arr e s (ys.map en))) (hp:∀ a x,x∈en a->Pure x) (hx:xs=ys) (t:bR ρ aw ids aw'):bR ρ aw (id::ids) (.arr e s (xs.map en)::aw') :=
 ⟨⟨_,h,rfl,rfl,by rw [hx],fun row hr x hx=>by obtain ⟨a,_,rfl⟩:=L9.1 hr;exact gU (hp a x hx)⟩,t⟩
theorem au {ids:List Nat} {id:Nat} {cs ds:List AV} (h:aw[id]?=some (.box ds)) (hr:ck ρ cs ds) (t:bR ρ aw ids aw'):bR ρ aw (id::ids) (.box cs::aw'):=⟨⟨_,h,hr⟩,t⟩
theorem b8 (ρ:List Nat):∀ k,k<0->ρ[k]?=some k:=fun k h=>absurd h (Nat.not_lt_zero k)
theorem g8 {f:FuncId} {fn:Func} {c:Code} {args:List AV} {aw:List Ob} {Q:AV->List Ob->Prop} {m N:Nat} (hN:aw.length=N) (hf:P.funcs[f]?=some fn) (hb:fn.body=some c) (hname:(fn.name == "runtime.NumGoroutine")=false) (hm:fn.ntmps=m) (hl:Nat.ble args.length m=true)
  (h:T P N c (retQ P fn N Q) (mkA m (initA 0 args)) aw):ACalls P f args aw Q:=by
 subst hm hN
 refine ⟨callable hf (by rw [hb];rfl) hname,fun w F σ vs hs hr=>?_⟩
 have hc:Cur ⟨aw,σ,w,F,[]⟩ (args++List.replicate (fn.ntmps - args.length) .any) aw σ w F { tmps:=vs.toArray++Array.replicate (fn.ntmps - vs.toArray.size) undef,defers:=[] }:=by
  refine ⟨hs,⟨?_,tqz⟩,.refl ..,rfl⟩;have h2:RelL σ w F (List.replicate (fn.ntmps - args.length) .any) (List.replicate (fn.ntmps - vs.length) undef) :=
   ⟨by simp [hr.1],fun j x v hx hv=>by rw [Ms (LJ hx)];exact .any v⟩
  simpa using hr.append h2
 rw [uY _ _ (MU hl)] at hc
 refine calls_of_wp hf hb (wp_mono (h.out ⟨aw,σ,w,F,[]⟩ rfl hs.len σ w F _ hc) ?_)
 rintro e a' w' ⟨fr',aw',σ',F',hq,hcur⟩
 have key:bN P fr' aw' fn.results.toList (Ret aw.length Q aw')->a'.defers=[]/\∃ v,(results fn a'.tmps).run P w'=.ok v w' /\
   (∃ v' r aw2 σ2 F2,Ending.returned v=.returned v'/\Q r aw2/\Sim aw2 σ2 w' F2/\Rel σ2 w' F2 r v'/\Mv aw σ w F aw2 σ2 w' F2):=by
  intro hq
  obtain ⟨rs,us,h1,⟨nl,z,r',aw2,hW,hQ⟩,h3⟩:=qH hcur.fr hcur.sim _ _ hq
  obtain ⟨σn,sn,h1n,mn⟩:=nX nl hcur.sim h1
  refine ⟨hcur.ds,_,ud fn a'.tmps us h3,?_⟩
  have hrel:=u6 h1n
  have fin:∀ (r1:AV) (aw1:List Ob) (F1:Nat->Prop),Sim aw1 σn w' F1->Mv aw σ w F aw1 σn w' F1->Rel σn w' F1 r1 (if h:us.length=1 then us[0] else .tuple us.toArray)->WeakR aw.length r1 aw1 r' aw2 ->
    ∃ v' r aw2 σ2 F2,Ending.returned (if h:us.length=1 then us[0] else .tuple us.toArray)=.returned v'/\Q r aw2/\Sim aw2 σ2 w' F2/\Rel σ2 w' F2 r v'/\Mv aw σ w F aw2 σ2 w' F2:=by
   intro r1 aw1 F1 s1 m1 hr1 ⟨ρ,hnd,hρ,hren,hRW⟩
   obtain ⟨σ2,hσ,s2,hd⟩:=gZ s1 hnd hRW
   exact ⟨_,r',aw2,σ2,F1,rfl,hQ,s2,hren σn w' F1 _ hr1 σ2 hσ,Mv.ren (st:=⟨aw,σ,w,F,[]⟩) hs.len m1 hρ hσ hd⟩
  cases z with
  | true =>
   obtain ⟨F1,s1,m1,r1⟩:=uT sn hrel
   exact fin _ _ F1 s1 ((hcur.mv.trans mn).trans m1) r1 hW
  | false=>exact fin _ _ F' sn (hcur.mv.trans mn) hrel hW
 cases e with
 | normal=>exact key hq
 | ret=>exact key hq
 | exit id=>exact hq.elim
 | goto l=>exact hq.elim
 | panic ch=>exact hq.elim
 | outgrown=>exact hq.elim
theorem Ae {Q:AV->List Ob->Prop} {aw:List Ob} {vs:List AV} {v:AV} {aw1:List Ob} (hr:fY aw (cZ vs)=(v,aw1)) (hp:Pure v) (hQ:Q v []):Ret 0 Q aw vs :=
 Ret.norm (by rw [hr];exact hp) (by rw [hr];exact hQ)
theorem dX {M:Nat} {Q:AV->List Ob->Prop} {aw aw':List Ob} {vs:List AV} (r:AV) (nl:List (Nat × TypeId × Nat)) (ρ:List Nat) {vs1:List AV} {aw1:List Ob} (h1:ρ.Nodup) (h2:∀ k,k<M->ρ[k]?=some k) (hn:nilify nl vs aw=(vs1,aw1)) (hr:Ren ρ r (cZ vs1)) (hw:bR ρ aw1 ρ aw') (hQ:Q r aw'):Ret M Q aw vs :=
 ⟨nl,false,r,aw',by simp only [hn];exact ⟨ρ,h1,h2,hr,hw⟩,hQ⟩
theorem dV {n t:Nat} {l:List (Nat × AV)} {v:AV} {rs:List ResultVar} {K:List AV->Prop} (hx:evA n l (.tmp t)=v) (h:bN P (mkA n l) aw rs fun vs=>K (v::vs)):bN P (mkA n l) aw (.tmp t::rs) K:=by
 show bN P (mkA n l) aw rs fun vs=>K ((mkA n l).getD t .any::vs)
 have:(mkA n l).getD t .any=v:=by rw [<- hx];exact aD n l (.tmp t)
 rw [this];exact h
theorem FC {n a t:Nat} {l:List (Nat × AV)} {id off:Nat} {cs:List AV} {v:AV} {rs:List ResultVar} {K:List AV->Prop} (hx:evA n l (.tmp a)=.ptr id off) (ho:aw[id]?=some (.box cs)) (hl:∀ K:AV->Prop,K v->cj P t cs off K) (h:bN P (mkA n l) aw rs fun vs=>K (v::vs)):bN P (mkA n l) aw (.cell a t::rs) K:=by
 show vcQ P (mkA n l) aw (.load t (.tmp a)) fun v=>bN P (mkA n l) aw rs fun vs=>K (v::vs)
 exact gQ hx ho (hl _ h)
theorem dU {K:List AV->Prop} {fr:List AV} (h:K []):bN P fr aw [] K:=h
theorem BA {α:Type} {en:α->List AV} {xs:List α} {i:Nat} {a:α} (h:xs[i]?=some a):(xs.map en)[i]?=some (en a):=by rw [LT,h];rfl
theorem aX {α:Type} {en:α->List AV} {xs:List α} {a:α} {t:TypeId} {x:Operand} {id s i off e:Nat} {d:Option Tmp} {ty:TypeId} {ps:String} {af:Array Edge} {g:Option (Nat × Bool)} {K2:AV->List Ob->Prop} (hx:evA n l x=.aptr id s i off) (ho:aw[id]?=some (.arr e s (xs.map en))) (hr:xs[i]?=some a) (h:cj P t (en a) off fun r=>K2 r aw):OP P N ⟨d,.load t x,ty,ps,af,g⟩ (mkA n l) aw K2 :=
 EJ hx ho (BA hr) h
theorem eQ {α:Type} {en:α->List AV} {xs:List α} {a a':α} {t:TypeId} {x y:Operand} {id s i off e:Nat} {d:Option Tmp} {ty:TypeId} {ps:String} {af:Array Edge} {g:Option (Nat × Bool)} {K2:AV->List Ob->Prop} {vs:List AV} {m:Nat} (hm:P.cellsOf t=m) (hs:(P.underlying t).isSome=true) (hx:evA n l x=.aptr id s i off) (hy:(evA n l y).cells=some vs) (hv:vs.length=m) (ho:aw[id]?=some (.arr e s (xs.map en))) (hr:xs[i]?=some a) (hl:Nat.ble (off+m) s=true) (hc:splice (en a) off vs=en a') (ha:aw.set id (.arr e s ((xs.set i a').map en))=aw') (h:K2 .any aw'):OP P N ⟨d,.store t x y,ty,ps,af,g⟩ (mkA n l) aw K2 :=
 Ee hm hs hx hy hv ho (BA hr) hl hc (by rw [<- ha,List.map_set]) h
theorem rV {t:TypeId} {x y:Operand} {K:AV->Prop} {id off e c m q off':Nat} {k:IntKind} {i:Int} (hu:P.underlying t=some (.array m e)) (hc:P.cellsOf e=c) (hs:(P.underlying e).isSome=true) (hx:evA n l x=.ptr id off) (hy:evA n l y=.int k i) (hi:i=(q:Int)) (hq:Nat.blt q m=true) (h1:Nat.blt 1 m=true) (ho:off+q*c=off') (h:K (.ptr id off')):vcQ P (mkA n l) aw (.indexAddr t x y) K:=by subst hi ho;rw [NY] at hq h1;simp only [vcQ,aD,hu,hx,hy,hc];exact ⟨hs,by omega,by omega,h1,by simpa using h⟩
theorem FX {i k:Int} {u:Unit} (h:isAt i k=some u):i=k:=by
 unfold isAt at h;split at h
 ·assumption
 ·cases h
def Bo:AV->Bool
 | .int _ _=>true
 | _=>false
theorem nC {x:Operand} {s e t:TypeId} {xs:List Int} {d:Option Tmp} {ty:TypeId} {ps:String} {af:Array Edge} {g:Option (Nat × Bool)} {K2:AV->List Ob->Prop} {aw1:List Ob} (hs:P.underlying s=some (.slice e)) (he:P.underlying e=some (.int .u8)) (ht:P.underlying t=some .string)
  (hx:norm aw (evA n l x)=(.sl (xs.map fun n=>[.int .u8 n]),aw1)) (hni:Bo (evA n l x)=false) (h:K2 (.str (bV xs)) aw1):OP P N ⟨d,.convert s t x,ty,ps,af,g⟩ (mkA n l) aw K2 :=
 OP.of_vc (by
  rw [E9,if_neg (by rw [aD];revert hni;cases evA n l x<;>simp [Bo])];simp only [hs,ht,aD,hx,he];refine ⟨trivial,by simp [vA],?_⟩;have:(xs.map fun n=>([.int .u8 n]:List AV)).map qr=bV xs:=by simp [qr,bV]
  rw [this];exact h)
theorem aN {α:Type} {en:α->List AV} {xs:List α} {t:TypeId} {x y:Operand} {K:AV->Prop} {id e c m:Nat} {k:IntKind} {i:Int} (hS:SliceOf P t e c) (hx:evA n l x=.ref id) (hy:evA n l y=.int k i) (ho:aw[id]?=some (.arr e c (xs.map en))) (hm:ixN xs i=some m) (h:K (.aptr id c m 0)):vcQ P (mkA n l) aw (.indexAddr t x y) K:=by
 unfold ixN at hm;split at hm
 ·rename_i hc;cases hm;exact EN hS hx hy ho (by simp) hc.1 hc.2 h
 ·cases hm
structure RetIs (Q:Exit->List AV->List Ob->Prop) (R:List AV->List Ob->Prop):Prop where
 out:∀ fr aw,R fr aw->Q .ret fr aw
theorem RetIs.base {fn:Func} {M:Nat} {Q:AV->List Ob->Prop}:RetIs (retQ P fn M Q) (fun fr aw=>bN P fr aw fn.results.toList (Ret M Q aw)):=⟨fun _ _ h=>h⟩
theorem RetIs.blk {id:Nat} {Q:Exit->List AV->List Ob->Prop} {R:List AV->List Ob->Prop} (h:RetIs Q R):RetIs (lU id Q) R:=⟨h.out⟩
variable {d:Option Tmp} {ty:TypeId} {ps:String} {af:Array Edge} {g:Option (Nat × Bool)} {K2:AV→List Ob→Prop}
theorem J6 {f:Operand} {args:Array Operand} {ts:Array TypeId} {h:FuncId} {caps as0 as1:List AV} {aw1:List Ob} (hf:evA n l f=.func h caps) (ha:args.toList.map (evA n l)=as0) (hn:dE aw as0=(as1,aw1)) (hK:CallK P h (as1++caps) aw aw1 K2):OP P N ⟨d,.call ⟨.value f,args,ts⟩,ty,ps,af,g⟩ (mkA n l) aw K2 :=
 OP.of_vc (by show fe P ⟨d,.call ⟨.value f,args,ts⟩,ty,ps,af,g⟩ (mkA n l) aw K2;unfold fe;simp only [aD,hf];rw [show args.toList.map (ev (mkA n l))=as0 from by rw [<- ha];exact Me fun x _=>aD n l x,hn];exact hK)
def Pures:List AV->Prop
 | []=>True
 | a::as₀=>Pure a/\Pures as₀
theorem dc:∀ {ls:List AV},Pures ls->∀ a,a∈ls->Pure a
 | _::_,h,_,.head _=>h.1
 | _::_,h,_,.tail _ hm=>dc h.2 _ hm
theorem k_fn {f:FuncId} {args:List AV} {aw1:List Ob} {v:AV} (h:Fn P f args v) (hp:Pures args) (hv:Pure v) (hK:K2 v aw1):CallK P f args aw aw1 K2:=CallK.fn h (dc hp) hv hK
theorem JC {f:FuncId} {args:List AV} {aw1:List Ob} {v:AV} (h:Fn P f args v) (hp:Pures args) (hv:flat v=true) (hK:K2 v aw):CallK P f args aw aw1 K2:=CallK.flat h (dc hp) hv hK
def FnO (P:Program) (f:FuncId) (args:List AV) (v:AV) (obs:List Ob):Prop:=ACalls P f args [] fun r aw=>r=v/\aw=obs
theorem k_own {f:FuncId} {args:List AV} {aw1:List Ob} {v:AV} {obs:List Ob} (h:FnO P f args v obs) (hp:Pures args) (hv:flatR v=true) (ho:obs.all eH=true) (hK:K2 (v.shift aw.length) (aw++obs)):CallK P f args aw aw1 K2 :=
 .inr ⟨_,h,dc hp,fun r aw' ⟨h1,h2⟩=>.inr (.inr (.inr (by subst h1 h2;exact ⟨hv,ho,hK⟩)))⟩
theorem Kg {f:FuncId} {args:List AV} {aw1:List Ob} {v:AV} {e s:Nat} {rows:List (List AV)} (h:FnO P f args v [.arr e s rows]) (hp:Pures args) (hr:∀ row,row∈rows->∀ x,x∈row->Pure x) (hv:(∃ k,v=.ref k)∨∃ vs,v=.tup vs/\∀ x,x∈vs->Pure x∨∃ k,x=.ref k) (hK:K2 (v.shift aw1.length) (aw1++[.arr e s rows])):CallK P f args aw aw1 K2 :=
 .inr ⟨_,h,dc hp,fun r aw' ⟨h1,h2⟩=>.inr (.inr (.inl ⟨e,s,rows,h2,hr,by subst h1;exact hv,by subst h1 h2;exact hK⟩))⟩
theorem E3 {α:Type} {en:α->List AV} {xs:List α} {e s:Nat} (h:∀ a,(en a).all flat0=true):eH (.arr e s (xs.map en))=true:=by simp only [eH,List.all_map,Mz,Function.comp];intro a _;simpa using h a
theorem HD {o:Ob} {r:List Ob} (h:eH o=true) (t:r.all eH=true):(o::r).all eH=true:=by simp [h];simpa using t
theorem Ie {α:Type} {en:α->List AV} {xs:List α} {f:FuncId} {args:List AV} {aw1 aw':List Ob} {v v':AV} {e s:Nat} (h:FnO P f args v [.arr e s (xs.map en)]) (hp:Pures args) (hr:∀ a x,x∈en a->Pure x) (hv:(∃ k,v=.ref k)∨∃ vs,v=.tup vs/\∀ x,x∈vs->Pure x∨∃ k,x=.ref k) (hs:v.shift aw1.length=v') (ha:aw1++[.arr e s (xs.map en)]=aw') (hK:K2 v' aw'):CallK P f args aw aw1 K2 :=
 Kg h hp (fun row hrow x hx=>by obtain ⟨a,_,rfl⟩:=L9.1 hrow;exact hr a x hx) hv (by rw [hs,ha];exact hK)
end
section
variable {P:Program} {N n:Nat} {aw aw':List Ob} {l:List (Nat × AV)} {ops:Array Oper} {k:Nat} {li:Array Bool} {K:List AV→List Ob→Prop} {fr fr':List AV}
theorem RA.join (k':Nat) (li':Array Bool) (fr':List AV) (aw':List Ob) (h:RA P N ops k' li' K fr' aw') (h2:RA P N ops k' li' K fr' aw'->RA P N ops k li K fr aw):RA P N ops k li K fr aw:=h2 h
theorem RA.weakR (h:RA P N ops k li K fr' aw') (hw:Weak N fr aw fr' aw'):RA P N ops k li K fr aw:=RA.weak hw h
theorem RA.t0 {i:Nat} {li':Array Bool} {o:Oper} (hi:ops[i]?=some o) (hs:Region.noSelect ops=true) (hf:Region.free .any ops li i=true) (hr:(Region.ready .any ops li).contains i=true) (hl:li.setIfInBounds i true=li') (hg:o.guard=none) (hn:gX o.op=true)
 (h:vcQ P (mkA n l) aw o.op fun r=>RA P N ops k li' K (mkA n (dA l o.dst r)) aw):RA P N ops (k+1) li K (mkA n l) aw:=by subst hl;exact RA.take hi hs hf hr hg hn h
theorem RA.t1 {i:Nat} {li':Array Bool} {o:Oper} {j t:Nat} {want b:Bool} (hi:ops[i]?=some o) (hs:Region.noSelect ops=true) (hf:Region.free .any ops li i=true) (hr:(Region.ready .any ops li).contains i=true) (hl:li.setIfInBounds i true=li')
 (hg:o.guard=some (j,want)) (ht:(ops[j]?).bind (·.dst)=some t) (hb:evA n l (.tmp t)=.bool b) (hbw:b=want) (hn:gX o.op=true)
 (h:vcQ P (mkA n l) aw o.op fun r=>RA P N ops k li' K (mkA n (dA l o.dst r)) aw):RA P N ops (k+1) li K (mkA n l) aw:=by subst hl;exact RA.takeYes hi hs hf hr hg ht hb hbw hn h
theorem RA.t2 {i:Nat} {li':Array Bool} {o:Oper} {j t:Nat} {want b:Bool} (hi:ops[i]?=some o) (hs:Region.noSelect ops=true) (hf:Region.free .any ops li i=true) (hr:(Region.ready .any ops li).contains i=true) (hl:li.setIfInBounds i true=li')
 (hg:o.guard=some (j,want)) (ht:(ops[j]?).bind (·.dst)=some t) (hb:evA n l (.tmp t)=.bool b) (hbw:b=!want)
 (h:RA P N ops k li' K (mkA n (dA l o.dst (.tup []))) aw):RA P N ops (k+1) li K (mkA n l) aw:=by subst hl;exact RA.takeNo hi hs hf hr hg ht hb hbw h
theorem RA.t3 {i:Nat} {li':Array Bool} {o:Oper} {j t:Nat} {want:Bool} (hi:ops[i]?=some o) (hs:Region.noSelect ops=true) (hf:Region.free .any ops li i=true) (hr:(Region.ready .any ops li).contains i=true) (hl:li.setIfInBounds i true=li')
 (hg:o.guard=some (j,want)) (ht:(ops[j]?).bind (·.dst)=some t) (hb:evA n l (.tmp t)=.tup [])
 (h:RA P N ops k li' K (mkA n (dA l o.dst (.tup []))) aw):RA P N ops (k+1) li K (mkA n l) aw:=by subst hl;exact RA.takeU hi hs hf hr hg ht hb h
theorem RA.a1 {i1:Nat} {l1:Array Bool} (hr:Region.ready .any ops li=[i1]) (e1:li.setIfInBounds i1 true=l1) (h1:RO P N ops i1 (RA P N ops k l1 K) fr aw):RA P N ops (k+1) li K fr aw:=by subst e1;exact RA.all hr (by simp) fun i hi=>by simp at hi;subst hi;exact h1
theorem RA.a2 {i1 i2:Nat} {l1 l2:Array Bool} (hr:Region.ready .any ops li=[i1,i2]) (e1:li.setIfInBounds i1 true=l1) (e2:li.setIfInBounds i2 true=l2) (h1:RO P N ops i1 (RA P N ops k l1 K) fr aw) (h2:RO P N ops i2 (RA P N ops k l2 K) fr aw):RA P N ops (k+1) li K fr aw:=by subst e1 e2;exact RA.all hr (by simp) fun i hi=>by simp at hi;rcases hi with rfl | rfl<;>assumption
theorem RA.a3 {i1 i2 i3:Nat} {l1 l2 l3:Array Bool} (hr:Region.ready .any ops li=[i1,i2,i3]) (e1:li.setIfInBounds i1 true=l1) (e2:li.setIfInBounds i2 true=l2) (e3:li.setIfInBounds i3 true=l3) (h1:RO P N ops i1 (RA P N ops k l1 K) fr aw) (h2:RO P N ops i2 (RA P N ops k l2 K) fr aw) (h3:RO P N ops i3 (RA P N ops k l3 K) fr aw):RA P N ops (k+1) li K fr aw:=by subst e1 e2 e3;exact RA.all hr (by simp) fun i hi=>by simp at hi;rcases hi with rfl | rfl | rfl<;>assumption
theorem RA.a4 {i1 i2 i3 i4:Nat} {l1 l2 l3 l4:Array Bool} (hr:Region.ready .any ops li=[i1,i2,i3,i4]) (e1:li.setIfInBounds i1 true=l1) (e2:li.setIfInBounds i2 true=l2) (e3:li.setIfInBounds i3 true=l3) (e4:li.setIfInBounds i4 true=l4) (h1:RO P N ops i1 (RA P N ops k l1 K) fr aw) (h2:RO P N ops i2 (RA P N ops k l2 K) fr aw) (h3:RO P N ops i3 (RA P N ops k l3 K) fr aw) (h4:RO P N ops i4 (RA P N ops k l4 K) fr aw):RA P N ops (k+1) li K fr aw:=by subst e1 e2 e3 e4;exact RA.all hr (by simp) fun i hi=>by simp at hi;rcases hi with rfl | rfl | rfl | rfl<;>assumption
end
theorem T.weakR {P:Program} {N:Nat} {c:Code} {Q:Exit->List AV->List Ob->Prop} {fr fr':List AV} {aw aw':List Ob} (h:T P N c Q fr' aw') (hw:Weak N fr aw fr' aw'):T P N c Q fr aw:=T.weak hw h
theorem T.join {P:Program} {N:Nat} {x y:Code} {Q:Exit->List AV->List Ob->Prop} {fr:List AV} {aw:List Ob} {Z:Type} (F:Z->List AV) (A:Z->List Ob) (S:Z->Prop) (h:∀ z,S z->T P N y Q (F z) (A z))
 (h2:(∀ z,S z->T P N y Q (F z) (A z))->T P N x (thenA (T P N y Q) Q) fr aw):T P N (.seq x y) Q fr aw:=T.seq (h2 h)
end
section
open Go.RowKit
def uv (P:Program):List Field->Nat->List Nat->Prop
 | [],_,[]=>True
 | f::fs,off,k::ks=>f.name ≠ "_" /\ f.offset=off/\(match k with
  | 1=>P.underlying f.type=some (.int .i64)
  | 2=>P.underlying f.type=some .string
  | 3=>P.underlying f.type=some .bool
  | _=>False)/\uv P fs (off+1) ks
 | _,_,_=>False
section
variable {P:Program} {σ:List Value} {w:World} {F:Nat→Prop}
def vG:TypeDesc->Bool
 | .struct _ | .array _ _=>true
 | _=>false
theorem zZ {t:TypeId} {vs:Array Value} {off:Nat} {u:Value} {d:TypeDesc} (hu:P.underlying t=some d) (hd:vG d=false) (hv:vs[off]?=some u) (w':World):(part t vs off).run P w'=.ok u w':=by
 have hk:aT P t=some false:=by unfold aT;rw [hu];cases d<;>simp_all [vG]
 obtain ⟨d',hu',hagg⟩:=pV hk;simp [part,Sem.run_bind,hagg,hv]
theorem xF (n:Nat) (w':World):∀ (fs:List Field) (off:Nat) (ks:List Nat),uv P fs off ks->∀ (x y:List AV) (vx vy:Array Value) (r:Bool),x.map AV.kd=ks->y.map AV.kd=ks->gh x y=some r ->
  (∀ (j:Nat) c,x[j]?=some c->∃ u,vx[off+j]?=some u/\Rel σ w F c u)->(∀ (j:Nat) c,y[j]?=some c->∃ u,vy[off+j]?=some u/\Rel σ w F c u)->(Op.eqFields (n+1) vx vy fs).run P w'=.ok r w'
 | [],off,[],_,x,y,vx,vy,r,hx,hy,he,_,_=>by
  simp at hx hy;subst hx;subst hy;simp [gh] at he;subst he;simp [Op.eqFields]
 | f :: fs,off,k::ks,hf,x,y,vx,vy,r,hx,hy,he,hrx,hry=>by
  obtain ⟨hn,ho,hk,hf⟩:=hf;match x,y,hx,hy with
  | a :: x,b::y,hx,hy =>
   simp only [Mn,Nl] at hx hy
   obtain ⟨u,hu,hru⟩:=hrx 0 a rfl
   obtain ⟨v,hv,hrv⟩:=hry 0 b rfl
   rw [MB] at hu hv
   have next:=fun r' he'=>xF n w' fs (off+1) ks hf x y vx vy r' hx.2 hy.2 he' (fun j c hc=>by
    obtain ⟨u,h1,h2⟩:=hrx (j+1) c (by simpa using hc);exact ⟨u,by rw [show off+1+j=off+(j+1) by omega];exact h1,h2⟩) (fun j c hc=>by
    obtain ⟨u,h1,h2⟩:=hry (j+1) c (by simpa using hc);exact ⟨u,by rw [show off+1+j=off+(j+1) by omega];exact h1,h2⟩)
   unfold Op.eqFields
   rw [if_pos hn]
   subst ho
   have fin:∀ (d:TypeDesc) (q:Bool),P.underlying f.type=some d->vG d=false->(Op.equalIn (n+1) f.type u v).run P w'=.ok q w'->(∃ r',gh x y=some r'/\r=(q && r')) ->
     (do let a <- part f.type vx f.offset;let b <- part f.type vy f.offset;let r <- Op.equalIn (n+1) f.type a b;if (!r)=true then pure false else Op.eqFields (n+1) vx vy fs:Sem Bool).run P w'=.ok r w':=by
    rintro d q hd hnd hq ⟨r',h1,rfl⟩
    simp only [Sem.run_bind,zZ hd hnd hu,zZ hd hnd hv,Result.andThen_ok,hq]
    cases q
    ·simp
    ·simp;exact next r' h1
   cases a<;>cases b<;>simp only [gh,L6,reduceCtorEq] at he
   ·rename_i k1 p k2 q
    obtain ⟨r',h1,h2⟩:=he
    cases hru;cases hrv
    have hk1:k=1:=by
     cases k1<;>simp [AV.kd] at hx<;>first
      | exact hx.1.symm
      | (rw [<- hx.1] at hk;exact hk.elim)
    have hki:k1=.i64:=by subst hk1;cases k1<;>simp [AV.kd] at hx ⊢
    have hki2:k2=.i64:=by subst hk1;cases k2<;>simp [AV.kd] at hy ⊢
    subst hk1 hki hki2
    exact fin _ _ hk rfl (run_equalIn_int w' n f.type .i64 .i64 p q hk) ⟨r',h1,h2.symm⟩
   ·rename_i p q
    obtain ⟨r',h1,h2⟩:=he
    cases hru;cases hrv
    have hk3:k=3:=by simp [AV.kd] at hx;exact hx.1.symm
    subst hk3
    exact fin _ _ hk rfl (run_equalIn_bool' w' n f.type p q hk) ⟨r',h1,h2.symm⟩
   ·rename_i p q
    obtain ⟨r',h1,h2⟩:=he
    cases hru;cases hrv
    have hk2:k=2:=by simp [AV.kd] at hx;exact hx.1.symm
    subst hk2
    refine fin _ _ hk rfl ((run_equalIn_string w' n f.type _ _ hk).trans (by rw [rS,rS])) ⟨r',h1,h2.symm⟩
  | [],_,hx,_=>simp at hx
  | _::_,[],_,hy=>simp at hy
 | [],_,_::_,hf,_,_,_,_,_,_,_,_,_,_=>hf.elim
 | _::_,_,[],hf,_,_,_,_,_,_,_,_,_,_=>hf.elim
theorem EE {t:TypeId} {fs:Array Field} {ks:List Nat} (hg:P.eqGuardType P.depth t=false) (hu:P.underlying t=some (.struct fs)) (hp:P.stoodInHeld t=false) (hf:uv P fs.toList 0 ks):qj P t ks:=by
 refine ⟨hg,fun σ w F x y vx vy r hx hy he hrx hry w'=>?_⟩;have hfo:P.fieldsOf t=fs:=by unfold Program.fieldsOf;rw [hu]
 have h1:=run_equalIn_struct (P:=P) w' 9999 t vx.toArray vy.toArray (by rw [hfo];exact hu) hp;rw [hfo] at h1;show (Op.equalIn (9999+1) t _ _).run P w'=_;rw [h1];refine xF (σ:=σ) (w:=w) (F:=F) 9998 w' fs.toList 0 ks hf x y _ _ r hx hy he (fun j c hc=>?_) (fun j c hc=>?_)
 ·obtain ⟨u,h2,h3⟩:=hrx.get hc;exact ⟨u,by simpa using h2,h3⟩
 ·obtain ⟨u,h2,h3⟩:=hry.get hc;exact ⟨u,by simpa using h2,h3⟩
end
end
section
open Go.RowKit
def RenM (m:List (Nat × Nat)) (a' a:AV):Prop:=∀ σ w F v,Rel σ w F a v->∀ σ':List Value,(∀ p,p∈m->σ'[p.1]?=σ[p.2]?)->Rel σ' w F a' v
def fW (m:List (Nat × Nat)):List AV->List AV->Prop
 | [],[]=>True
 | a'::as',a::as₀=>RenM m a' a/\fW m as' as₀
 | _,_=>False
def iQ (m:List (Nat × Nat)):Ob->Ob->Prop
 | .dead,_=>True
 | .box cs',.box cs=>fW m cs' cs
 | .boxB t' cs',.boxB t cs=>t'=t/\fW m cs' cs
 | .arr e' s' rows',.arr e s rows=>e'=e/\s'=s/\rows'=rows/\∀ row,row∈rows->∀ x,x∈row->Pure x
 | .mp ks' vs',.mp ks vs=>fW m ks' ks/\fW m vs' vs
 | .hd e' k',.hd e k=>e'=e/\(k',k)∈m
 | .cl e' s' cells',.cl e s cells=>e'=e/\s'=s/\cells'=cells/\∀ rows,(Cell.own rows∈cells∨Cell.fz rows∈cells)->∀ row,row∈rows->∀ x,x∈row->Pure x
 | _,_=>False
section
variable {P:Program} {σ σ':List Value} {w w':World} {F F':Nat→Prop} {aw:List Ob} {m:List (Nat × Nat)}
theorem jj:∀ {as' as₀:List AV},fW m as' as₀->∀ {vs:List Value},RelL σ w F as₀ vs->(∀ p,p∈m->σ'[p.1]?=σ[p.2]?)->RelL σ' w F as' vs
 | [],[],_,vs,hr,_=>by
  have:vs=[]:=LR hr.1;subst this;exact .nil
 | a'::as',a::as₀,h,vs,hr,hσ=>by
  match vs,hr with
  | [],hr=>exact absurd hr.1 (by simp)
  | v::vs,hr =>
   have h1:Rel σ w F a v:=hr.2 0 a v rfl rfl
   have h2:RelL σ w F as₀ vs:=⟨by simpa using hr.1,fun j a v ha hv=>hr.2 (j+1) a v (by simpa using ha) (by simpa using hv)⟩
   exact .cons (h.1 σ w F v h1 σ' hσ) (jj h.2 h2 hσ)
 | [],_::_,h,_,_,_=>h.elim
 | _::_,[],h,_,_,_=>h.elim
theorem FA {o' o:Ob} {v:Value} (h:iQ m o' o) (hr:ORel σ w F o v) (hσ:∀ p,p∈m->σ'[p.1]?=σ[p.2]?):ORel σ' w F o' v:=by
 cases o' with
 | dead=>trivial
 | box cs' =>
  cases o with
  | box cs =>
   obtain ⟨g,vs,ty,rfl,hg,hc,h1,hf⟩:=hr;exact ⟨g,vs,ty,rfl,hg,jj h hc hσ,h1,hf⟩
  | _=>exact h.elim
 | arr e' s' rows' =>
  cases o with
  | arr e s rows =>
   obtain ⟨rfl,rfl,rfl,hp⟩:=h;obtain ⟨flat,ho,hfl,hf,A,n,c,rfl⟩:=hr;exact ⟨flat,ho,⟨hfl.1,hfl.2.1,rU (fun row hrow x hx v hv=>hp row hrow x hx σ w F v hv σ') hfl.2.2⟩,hf,A,n,c,rfl⟩
  | _=>exact h.elim
 | mp ks' vs' =>
  cases o with
  | mp ks vs =>
   obtain ⟨g,es,clock,rfl,hg,hk,hv,hf⟩:=hr;exact ⟨g,es,clock,rfl,hg,jj h.1 hk hσ,jj h.2 hv hσ,hf⟩
  | _=>exact h.elim
 | hd e' k' =>
  cases o with
  | hd e k =>
   obtain ⟨rfl,hk⟩:=h;obtain ⟨us,g1,g2,g3,g4,g5⟩:=hr;exact ⟨us,by rw [hσ _ hk];exact g1,g2,g3,g4,g5⟩
  | _=>exact h.elim
 | cl e' s' cells' =>
  cases o with
  | cl e s cells =>
   obtain ⟨rfl,rfl,rfl,hp⟩:=h;obtain ⟨us,e1,hl1,hc,hd⟩:=hr;exact ⟨us,e1,hl1,fun i c x h1 h2=>zW (hc i c x h1 h2) (fun rows hrr=>hp rows (hrr.imp (fun (e:Cell.own rows=c)=>by rw [e];exact LJ h1) (fun (e:Cell.fz rows=c)=>by rw [e];exact LJ h1))),hd⟩
  | _=>exact h.elim
 | arrU e' s' rows' x'=>cases o<;>exact h.elim
 | boxB t' cs' =>
  cases o with
  | boxB t cs =>
   obtain ⟨rfl,h⟩:=h;obtain ⟨g,vs,e1,hg1,hr1,h11,hf⟩:=hr;exact ⟨g,vs,e1,hg1,jj h hr1 hσ,h11,hf⟩
  | _=>exact h.elim
theorem qd {o' o:Ob} {v:Value} {b:Nat} (h:iQ m o' o) (hb:Bk o' v b):Bk o v b:=by
 cases o' with
 | dead=>exact hb.elim
 | cl e s cells =>
  cases o with
  | cl e' s' cells'=>obtain ⟨rfl,rfl,rfl,_⟩:=h;exact hb
  | _=>exact h.elim
 | _=>cases o<;>first | exact hb | exact h.elim
theorem EU {o' o:Ob} (hr:iQ m o' o) (hl:o'.live=true):o.live=true:=by cases o'<;>cases o<;>first | rfl | exact hr.elim | cases hl
theorem FU {ρ:List Nat} {o' o:Ob} (hr:RenO ρ o' o) (hl:o'.live=true):o.live=true:=by cases o'<;>cases o<;>first | rfl | exact hr.elim | cases hl
def bO (ρ:List Nat) (n0 n1:Nat):List (Nat × Nat):=(List.range n1).map fun k=>(if k<ρ.length then ρ.getD k 0 else n0+(k - ρ.length),k)
def eJ (m:List (Nat × Nat)) (ρ:List Nat) (aw aw1:List Ob):Nat->List Ob->Prop
 | _,[]=>True
 | j,o2::r=>((∃ k o1,(j,k)∈m/\aw1[k]?=some o1/\iQ m o2 o1)∨(ρ.contains j=false/\aw[j]?=some o2))/\eJ m ρ aw aw1 (j+1) r
theorem pW {ρ:List Nat} {aw1:List Ob}:∀ {l:List Ob} {j i:Nat} {o2:Ob},eJ m ρ aw aw1 j l->l[i]?=some o2 ->
  (∃ k o1,(j+i,k)∈m/\aw1[k]?=some o1/\iQ m o2 o1)∨(ρ.contains (j+i)=false/\aw[j+i]?=some o2)
 | [],j,i,o2,_,h=>by simp at h
 | o::r,j,0,o2,hb,h=>by simp at h;subst h;exact hb.1
 | o::r,j,i+1,o2,hb,h=>by have:=pW (j:=j+1) (i:=i) hb.2 (by simpa using h);rw [show j+1+i=j+(i+1) by omega] at this;exact this
theorem pP {ρ:List Nat} {aw0 aw1 aw2:List Ob} {σ0 σ1:List Value} (hs:Sim aw σ w F) (hnd:ρ.Nodup) (hW:bR ρ aw ρ aw0) (hσ0:∀ (k id:Nat),ρ[k]?=some id->σ0[k]?=σ[id]?) (hl0:σ0.length=ρ.length)
  (hs0:Sim aw0 σ0 w F) (hd0:∀ b,Dof aw0 σ0 b->Dof aw σ b) (hs1:Sim aw1 σ1 w' F') (hm:Mv aw0 σ0 w F aw1 σ1 w' F')
  (hl:aw2.length+ρ.length=aw.length+aw1.length) (hB:eJ (bO ρ aw.length aw1.length) ρ aw aw1 0 aw2) :
  ∃ σ2,Sim aw2 σ2 w' F'/\Mv aw σ w F aw2 σ2 w' F'/\∀ p,p∈bO ρ aw.length aw1.length->σ2[p.1]?=σ1[p.2]?:=by
 have hρ1:ρ.length<=aw1.length:=by
  rw [<- hs1.len];have hpre:=hm.pre;by_cases h0:ρ.length=0
  ·omega
  ·have hlt:ρ.length - 1<σ0.length:=by omega
   have:=(LH.1 (hpre _ _ (LG hlt))).1;omega
 have hin:∀ (k id:Nat),ρ[k]?=some id->id<aw.length:=fun k id h=>by
  obtain ⟨_,hg⟩:=jp hW;have hk:k<aw0.length:=by rw [<- hs0.len,hl0];exact (LH.1 h).1
  obtain ⟨id',o,e1,e2,_⟩:=hg k _ (LG hk);rw [h] at e1;cases e1;exact (LH.1 e2).1
 refine ⟨σ++σ1.drop ρ.length,?_⟩
 have hmem:∀ j k,(j,k)∈bO ρ aw.length aw1.length ↔ (k<aw1.length/\j=if k<ρ.length then ρ.getD k 0 else aw.length+(k - ρ.length)):=fun j k=>by
  unfold bO;simp only [L9,M7,Prod.mk.injEq];constructor
  ·rintro ⟨k',h1,h2,rfl⟩;exact ⟨h1,h2.symm⟩
  ·rintro ⟨h1,h2⟩;exact ⟨k,h1,h2.symm,rfl⟩
 have hσ2:∀ p,p∈bO ρ aw.length aw1.length->(σ++σ1.drop ρ.length)[p.1]?=σ1[p.2]?:=by
  rintro ⟨j,k⟩ hp;obtain ⟨hk,rfl⟩:=(hmem j k).1 hp;simp only;split
  ·rename_i hlt;have hg:ρ[k]?=some (ρ.getD k 0):=by rw [LL,LG hlt];rfl
   have hid:=hin k _ hg;rw [LO (by rw [hs.len];exact hid)];have h0:=hσ0 k _ hg;have hlt0:k<σ0.length:=by omega
   rw [<- h0,hm.pre k _ (LG hlt0),LG hlt0]
  ·rw [Mc (by rw [hs.len];omega),hs.len,Ml];congr 1;omega
 have apart:∀ (j:Nat) o v b,ρ.contains j=false->aw[j]?=some o->o.live=true->σ[j]?=some v->Bk o v b->¬ Dof aw0 σ0 b:=by
  rintro j o v b hj ho hlv hv hb ⟨k,o0,v0,hk,hl0',hv0,hb0⟩;obtain ⟨_,hg⟩:=jp hW;obtain ⟨id,o1,e1,e2,e3⟩:=hg k o0 hk;have hv1:σ[id]?=some v0:=by rw [<- hσ0 k id e1];exact hv0
  have hlv1:o1.live=true:=FU e3 hl0';refine hs.sep j id o o1 v v0 b ?_ ho e2 hlv hlv1 hv hv1 hb (sI e3 hb0);rintro rfl;have:ρ.contains j=true:=by simpa using LJ e1
  rw [hj] at this;cases this
 have own1:∀ (j k:Nat) o1 v b,(j,k)∈bO ρ aw.length aw1.length->aw1[k]?=some o1->o1.live=true->(σ++σ1.drop ρ.length)[j]?=some v->Bk o1 v b->Dof aw1 σ1 b:=fun j k o1 v b hp ho hlv hv hb=>by have:=hσ2 _ hp;simp only at this;exact ⟨k,o1,v,ho,hlv,by rw [<- this];exact hv,hb⟩
 have live:∀ {o' o:Ob},iQ (bO ρ aw.length aw1.length) o' o->o'.live=true->o.live=true:=fun hr hlv=>EU hr hlv
 have inold:∀ (j:Nat) o v,aw[j]?=some o->(σ++σ1.drop ρ.length)[j]?=some v->σ[j]?=some v:=fun j o v ho hv=>by rwa [LO (by rw [hs.len];exact (LH.1 ho).1)] at hv
 have hFw:∀ b,F b->w'.heap[b]?=w.heap[b]?:=hm.same hs0
 refine ⟨⟨?_,fun j o2 v ho hv=>?_,fun j j' o o' v v' b hne ho ho' hlv hlv' hv hv' hb hb'=>?_,hs1.lt⟩,⟨hm.os,hm.tape,hm.output,hm.size,fun b hb hd=>hm.keep b hb (fun h=>hd (hd0 b h)),fun i v hv=>by rw [LO (LH.1 hv).1];exact hv,hm.sub,fun b hb=>(hm.sup b hb).imp (fun h=>h) (fun h=>h.imp (hd0 b) (fun h=>h)),fun b hb=>?_⟩,hσ2⟩
 ·rw [LI,Mg,hs.len,hs1.len];omega
 ·have:=pW hB ho
  rw [MG] at this
  rcases this with ⟨k,o1,hp,ho1,hr⟩ | ⟨hj,ho2⟩
  ·have h1:=hσ2 _ hp
   simp only at h1
   exact FA hr (hs1.obj k o1 v ho1 (by rw [<- h1];exact hv)) hσ2
  ·have hv':=inold j o2 v ho2 hv
   refine (hs.obj j o2 v ho2 hv').mono (fun i v hv=>by rw [LO (LH.1 hv).1];exact hv) hm.sub hFw (fun hlv b hb=>?_)
   have hlt:=hs.lt_own ⟨j,o2,v,ho2,hlv,hv',hb⟩
   have hnd0:=apart j o2 v b hj ho2 hlv hv' hb
   refine ⟨hm.keep b hlt hnd0,fun hF'=>?_⟩
   rcases hm.sup b hF' with h | h | h
   ·exact hs.free ⟨j,o2,v,ho2,hlv,hv',hb⟩ h
   ·exact hnd0 h
   ·omega
 ·have c1:=pW hB ho
  have c2:=pW hB ho'
  rw [MG] at c1 c2
  rcases c1 with ⟨k,o1,hp,ho1,hr⟩ | ⟨hj,ho2⟩
  ·rcases c2 with ⟨k',o1',hp',ho1',hr'⟩ | ⟨hj',ho2'⟩
   ·have hkk:k≠k':=by
     rintro rfl;have a1:=((hmem j k).1 hp).2;have a2:=((hmem j' k).1 hp').2;exact hne (a1.trans a2.symm)
    have e1:=hσ2 _ hp
    have e2:=hσ2 _ hp'
    simp only at e1 e2
    exact hs1.sep k k' o1 o1' v v' b hkk ho1 ho1' (live hr hlv) (live hr' hlv') (by rw [<- e1];exact hv) (by rw [<- e2];exact hv') (qd hr hb) (qd hr' hb')
   ·have hv2:=inold j' o' v' ho2' hv'
    have hlt:=hs.lt_own ⟨j',o',v',ho2',hlv',hv2,hb'⟩
    rcases hm.own b (own1 j k o1 v b hp ho1 (live hr hlv) hv (qd hr hb)) with h | h
    ·exact apart j' o' v' b hj' ho2' hlv' hv2 hb' h
    ·omega
  ·have hv1:=inold j o v ho2 hv
   have hlt:=hs.lt_own ⟨j,o,v,ho2,hlv,hv1,hb⟩
   rcases c2 with ⟨k',o1',hp',ho1',hr'⟩ | ⟨hj',ho2'⟩
   ·rcases hm.own b (own1 j' k' o1' v' b hp' ho1' (live hr' hlv') hv' (qd hr' hb')) with h | h
    ·exact apart j o v b hj ho2 hlv hv1 hb h
    ·omega
   ·exact hs.sep j j' o o' v v' b hne ho2 ho2' hlv hlv' hv1 (inold j' o' v' ho2' hv') hb hb'
 ·obtain ⟨j,o2,v,ho2,hlv,hv,hb'⟩:=hb
  have c:=pW hB ho2
  rw [MG] at c
  rcases c with ⟨k,o1,hp,ho1,hr⟩ | ⟨hj,ho⟩
  ·exact (hm.own b (own1 j k o1 v b hp ho1 (live hr hlv) hv (qd hr hb'))).imp (hd0 b) (fun h=>h)
  ·exact .inl ⟨j,o2,v,ho,hlv,inold j o2 v ho hv,hb'⟩
end
section
variable {P:Program} {N n:Nat} {aw aw':List Ob} {l:List (Nat × AV)}
def FnX (P:Program) (f:FuncId) (args:List AV) (aw:List Ob) (v:AV) (aw':List Ob):Prop:=ACalls P f args aw fun r aw''=>r=v/\aw''=aw'
theorem FnX.of_fnO {f:FuncId} {args:List AV} {v:AV} {obs:List Ob} (h:FnO P f args v obs):FnX P f args [] v obs:=h
theorem A9 {d:Option Tmp} {ty:TypeId} {ps:String} {af:Array Edge} {g:Option (Nat × Bool)} {K2:AV->List Ob->Prop} {f:Operand} {args:Array Operand} {ts:Array TypeId} {h:FuncId} {caps ac as0:List AV} {aw0 aw1 aw2:List Ob} {v v':AV} {n0 n1:Nat} (ρ:List Nat) (hn0:aw.length=n0) (hn1:aw1.length=n1)
  (hf:evA n l f=.func h caps) (ha:args.toList.map (evA n l)++caps=ac) (hnd:ρ.Nodup) (hW:bR ρ aw ρ aw0) (hA:ck ρ as0 ac) (hC:FnX P h as0 aw0 v aw1) (hlen:aw2.length+ρ.length=n0+n1)
  (hv:RenM (bO ρ n0 n1) v' v) (hB:eJ (bO ρ n0 n1) ρ aw aw1 0 aw2) (hK:K2 v' aw2):OP P N ⟨d,.call ⟨.value f,args,ts⟩,ty,ps,af,g⟩ (mkA n l) aw K2 :=
 ⟨fun st h1 h2 σ w F a hc Kc Q hk=>by
  subst hn0 hn1;have hfv:=hc.fr.ev f;rw [aD,hf] at hfv;generalize hvf:a.eval f=vf at hfv;cases hfv with
  | func _ _ cvs hl hcs =>
   have hargs:RelL σ w F ac (args.toList.map a.eval++cvs):=by rw [<- ha];have:=jm hc.fr args.toList;rw [show args.toList.map (ev (mkA n l))=args.toList.map (evA n l) from Me fun x _=>aD n l x] at this;exact this.append ⟨hl,hcs⟩
   obtain ⟨hlW,hgW⟩:=jp hW;obtain ⟨σ0',hσ',hs0',hd0'⟩:=gZ hc.sim hnd hW;have hl0:σ0'.length=ρ.length:=by rw [hs0'.len,hlW]
   have hr0:RelL σ0' w F as0 (args.toList.map a.eval++cvs):=fa hA hargs hσ';have hrun:(execOp a.eval ⟨d,.call ⟨.value f,args,ts⟩,ty,ps,af,g⟩).run P w=.ok (.enter h (args.toList.map a.eval++cvs).toArray) w:=by
    have e:args.map a.eval++cvs.toArray=(args.toList.map a.eval++cvs).toArray:=by obtain ⟨l⟩:=args;simp
    simp only [execOp,resolve,Deferred.ofValue,hvf,Sem.run_bind,Sem.run_pure,Result.andThen_ok,invoke,Nv,e,hC.1]
   unfold Oper.wp;rw [hrun];refine (hC.2 w F σ0' _ hs0' hr0).mono ?_;rintro e w' ⟨u,r,aw'',σ1,F',rfl,⟨rfl,rfl⟩,hs1,hrel,hm⟩;obtain ⟨σ2,s2,m2,hσ2⟩:=pP hc.sim hnd hW hσ' hl0 hs0' hd0' hs1 hm hlen hB;exact hk v' aw2 σ2 w' F' u hK (hc.step s2 m2) (hv σ1 w' F' u hrel σ2 hσ2)⟩
theorem AP {d:Option Tmp} {ty:TypeId} {ps:String} {af:Array Edge} {g:Option (Nat × Bool)} {K2:AV->List Ob->Prop} {f:Operand} {args:Array Operand} {ts:Array TypeId} {h:FuncId} {caps ac as0:List AV} {aw0 aw1 aw2:List Ob} {v v':AV} {n0 n1:Nat} (ρ:List Nat) (hn0:aw.length=n0) (hn1:aw1.length=n1)
  (hf:evA n l f=.bnd h caps) (ha:caps++args.toList.map (evA n l)=ac) (hnd:ρ.Nodup) (hW:bR ρ aw ρ aw0) (hA:ck ρ as0 ac) (hC:FnX P h as0 aw0 v aw1) (hlen:aw2.length+ρ.length=n0+n1)
  (hv:RenM (bO ρ n0 n1) v' v) (hB:eJ (bO ρ n0 n1) ρ aw aw1 0 aw2) (hK:K2 v' aw2):OP P N ⟨d,.call ⟨.value f,args,ts⟩,ty,ps,af,g⟩ (mkA n l) aw K2 :=
 ⟨fun st h1 h2 σ w F a hc Kc Q hk=>by
  subst hn0 hn1;have hfv:=hc.fr.ev f;rw [aD,hf] at hfv;generalize hvf:a.eval f=vf at hfv;cases hfv with
  | bnd _ _ cvs hl hcs =>
   have hargs:RelL σ w F ac (cvs++args.toList.map a.eval):=by rw [<- ha];have:=jm hc.fr args.toList;rw [show args.toList.map (ev (mkA n l))=args.toList.map (evA n l) from Me fun x _=>aD n l x] at this;exact RelL.append ⟨hl,hcs⟩ this
   obtain ⟨hlW,hgW⟩:=jp hW;obtain ⟨σ0',hσ',hs0',hd0'⟩:=gZ hc.sim hnd hW;have hl0:σ0'.length=ρ.length:=by rw [hs0'.len,hlW]
   have hr0:RelL σ0' w F as0 (cvs++args.toList.map a.eval):=fa hA hargs hσ';have hrun:(execOp a.eval ⟨d,.call ⟨.value f,args,ts⟩,ty,ps,af,g⟩).run P w=.ok (.enter h (cvs++args.toList.map a.eval).toArray) w:=by
    have e:cvs.toArray++args.map a.eval++#[]=(cvs++args.toList.map a.eval).toArray:=by obtain ⟨l⟩:=args;simp
    simp only [execOp,resolve,Deferred.ofValue,hvf,Sem.run_bind,Sem.run_pure,Result.andThen_ok,invoke,e,hC.1]
   unfold Oper.wp;rw [hrun];refine (hC.2 w F σ0' _ hs0' hr0).mono ?_;rintro e w' ⟨u,r,aw'',σ1,F',rfl,⟨rfl,rfl⟩,hs1,hrel,hm⟩;obtain ⟨σ2,s2,m2,hσ2⟩:=pP hc.sim hnd hW hσ' hl0 hs0' hd0' hs1 hm hlen hB;exact hk v' aw2 σ2 w' F' u hK (hc.step s2 m2) (hv σ1 w' F' u hrel σ2 hσ2)⟩
theorem am {m:List (Nat × Nat)} {a:AV} (h:Pure a):RenM m a a:=fun σ w F v hr σ' _=>h σ w F v hr σ'
theorem B2 {m:List (Nat × Nat)} {a:AV}:RenM m .any a:=fun σ w F v hr σ' _=>.any v
theorem iM {m:List (Nat × Nat)} {k id:Nat} (h:(k,id)∈m):RenM m (.ref k) (.ref id):=fun σ w F v hr σ' hσ=>by
 cases hr with
 | ref _ A n c hg=>exact .ref k A n c (by have:=hσ _ h;simp only at this;rw [this];exact hg)
theorem kF {m:List (Nat × Nat)} {k id off:Nat} (h:(k,id)∈m):RenM m (.ptr k off) (.ptr id off):=fun σ w F v hr σ' hσ=>by
 cases hr with
 | ptr _ _ g hg=>exact .ptr k off g (by have:=hσ _ h;simp only at this;rw [this];exact hg)
theorem qC {m:List (Nat × Nat)} {cs ds:List AV} (h:fW m cs ds):RenM m (.agg cs) (.agg ds):=fun σ w F v hr σ' hσ=>by
 cases hr with
 | agg _ vs hl h1 hc=>have:=jj h ⟨hl,hc⟩ hσ;exact .agg cs vs this.1 h1 this.2
theorem JV {m:List (Nat × Nat)} {cs ds:List AV} (h:fW m cs ds):RenM m (.tup cs) (.tup ds):=fun σ w F v hr σ' hσ=>by
 cases hr with
 | tup _ vs hl hc=>have:=jj h ⟨hl,hc⟩ hσ;exact .tup cs vs this.1 this.2
theorem IV {m:List (Nat × Nat)} {f:FuncId} {cs ds:List AV} (h:fW m cs ds):RenM m (.func f cs) (.func f ds):=fun σ w F v hr σ' hσ=>by
 cases hr with
 | func _ _ vs hl hc=>have:=jj h ⟨hl,hc⟩ hσ;exact .func f cs vs this.1 this.2
theorem Ka {m:List (Nat × Nat)} {f:FuncId} {cs ds:List AV} (h:fW m cs ds):RenM m (.bnd f cs) (.bnd f ds):=fun σ w F v hr σ' hσ=>by
 cases hr with
 | bnd _ _ vs hl hc=>have:=jj h ⟨hl,hc⟩ hσ;exact .bnd f cs vs this.1 this.2
theorem aU {m:List (Nat × Nat)} {cs ds:List AV} (h:fW m cs ds):iQ m (.box cs) (.box ds):=h
theorem ky {m:List (Nat × Nat)} {α:Type} {en:α->List AV} {xs:List α} {e s:Nat} (hp:∀ a x,x∈en a->Pure x):iQ m (.arr e s (xs.map en)) (.arr e s (xs.map en)) :=
 ⟨rfl,rfl,rfl,fun row hr x hx=>by obtain ⟨a,_,rfl⟩:=L9.1 hr;exact hp a x hx⟩
theorem T.nilB {c:Code} {Q:Exit->List AV->List Ob->Prop} {fr:List AV} (id j e z:Nat) {cs cs':List AV} (ho:aw[id]?=some (.box cs)) (hj:cs[j]?=some .nils) (hc:cs.set j (.ref aw.length)=cs') (ha:aw.set id (.box cs')++[.arr e z []]=aw') (h:T P N c Q fr aw'):T P N c Q fr aw :=
 ⟨fun st h1 h2 σ w F a hcur=>by
  subst hc ha;obtain ⟨s1,m1,r1⟩:=sH e z hcur.sim;have hid:id<aw.length:=(LH.1 ho).1;refine h.out st h1 h2 (σ++[.slice none 0 0]) w F a ⟨⟨?_,fun k o v hk hv=>?_,fun k k' o o' v v' g hne hk hk' hl hl' hv hv' hb hb'=>?_,s1.lt⟩,m1.aRel hcur.sim hcur.fr,hcur.mv.trans ⟨m1.os,m1.tape,m1.output,m1.size,m1.keep,m1.pre,m1.sub,m1.sup,fun b hb=>?_⟩,hcur.ds⟩
  ·have:=s1.len;simpa using this
  ·rw [Mr] at hk;split at hk
   ·rename_i hlt;rw [MR] at hlt;rw [LY] at hk;split at hk
    ·rename_i e1;subst e1;cases hk;have hob:=s1.obj id _ v (by rw [LO hid];exact ho) hv;obtain ⟨g,vs,ty,rfl,hg,hr,h1c,hf⟩:=hob;refine ⟨g,vs,ty,rfl,hg,?_,h1c,hf⟩;obtain ⟨u,hu,hru⟩:=hr.get hj;cases hru;have:=hr.set j r1;have e2:vs.toList.set j (.slice none 0 0)=vs.toList:=by
      obtain ⟨hlt2,hvs⟩:=LH.1 hu;rw [<- hvs];exact MK hlt2
     rw [e2] at this;exact this
    ·exact s1.obj k o v (by rw [LO hlt];exact hk) hv
   ·rename_i hge;exact s1.obj k o v (by rw [Mc (by simpa using hge)];simpa using hk) hv
  ·have back:∀ (k:Nat) o,(aw.set id (.box (cs.set j (.ref aw.length)))++[.arr e z []])[k]?=some o->o.live=true->∃ o1,(aw++[.arr e z []])[k]?=some o1/\o1.live=true/\∀ v b,Bk o v b->Bk o1 v b:=fun k o hk hl=>by
    rw [Mr] at hk ⊢;rw [MR] at hk;split at hk
    ·rename_i hlt;rw [if_pos hlt];rw [LY] at hk;split at hk
     ·rename_i e1;subst e1;cases hk;exact ⟨_,ho,rfl,fun _ _ h=>h⟩
     ·exact ⟨o,hk,hl,fun _ _ h=>h⟩
    ·rename_i hge;rw [if_neg hge];exact ⟨o,hk,hl,fun _ _ h=>h⟩
   obtain ⟨o1,e1,l1,z1⟩:=back k o hk hl;obtain ⟨o2,e2,l2,z2⟩:=back k' o' hk' hl';exact s1.sep k k' o1 o2 v v' g hne e1 e2 l1 l2 hv hv' (z1 _ _ hb) (z2 _ _ hb')
  ·obtain ⟨k,o,v,hk,hl,hv,hb⟩:=hb;refine m1.own b ⟨k,?_⟩;rw [Mr] at hk;rw [MR] at hk;split at hk
   ·rename_i hlt;rw [LY] at hk;rw [LO hlt];split at hk
    ·rename_i e1;subst e1;cases hk;exact ⟨_,v,ho,rfl,hv,hb⟩
    ·exact ⟨o,v,hk,hl,hv,hb⟩
   ·rename_i hge;rw [Mc (by omega)];exact ⟨o,v,hk,hl,hv,hb⟩⟩
theorem vo {σ:List Value} {w:World} {F:Nat->Prop} {k e s:Nat} {rows:List (List AV)} {v:Value} (hs:Sim aw σ w F) (ho:aw[k]?=some (.arr e s rows)) (hv:σ[k]?=some v) :
  Sim (aw.set k .dead++[.arr e s rows]) (σ++[v]) w F/\Mv aw σ w F (aw.set k .dead++[.arr e s rows]) (σ++[v]) w F:=by
 have hmono:∀ (j:Nat) o u,aw[j]?=some o->σ[j]?=some u->ORel (σ++[v]) w F o u:=fun j o u h1 h2 =>
  (hs.obj j o u h1 h2).mono (fun i x hx=>eF hx) (fun _ h=>h) (fun _ _=>rfl) (fun hl b hb=>⟨rfl,hs.free ⟨j,o,u,h1,hl,h2,hb⟩⟩)
 have look:∀ (j:Nat) o u,(aw.set k .dead++[.arr e s rows])[j]?=some o->o.live=true->(σ++[v])[j]?=some u->∃ i,aw[i]?=some o/\σ[i]?=some u/\((i=j/\j≠k/\j<aw.length)∨(i=k/\j=aw.length)):=by
  intro j o u h1 hl h2;rw [Mr,MR] at h1;split at h1
  ·rename_i hlt;rw [LO (by rw [hs.len];exact hlt)] at h2;rw [LY] at h1;split at h1
   ·split at h1
    ·cases h1;cases hl
    ·cases h1
   ·rename_i hne;exact ⟨j,h1,h2,.inl ⟨rfl,fun e=>hne e.symm,hlt⟩⟩
  ·rename_i hge;have hj:j=aw.length:=by
    have:=(LH.1 h1).1;simp at this;omega
   subst hj;rw [Nz] at h1;cases h1;rw [Mc (by rw [hs.len];exact LM _),hs.len,Nz] at h2;cases h2;exact ⟨k,ho,hv,.inr ⟨rfl,rfl⟩⟩
 refine ⟨⟨by simp [hs.len],fun j o u h1 h2=>?_,fun j j' o o' u u' b hne h1 h1' hl hl' h2 h2' hb hb'=>?_,hs.lt⟩,⟨rfl,rfl,drO,LM _,fun _ _ _=>rfl,fun i x hx=>eF hx,fun _ h=>h,fun _ h=>.inl h,fun b hb=>?_⟩⟩
 ·by_cases hl:o.live=true
  ·obtain ⟨i,h3,h4,_⟩:=look j o u h1 hl h2
   exact hmono i o u h3 h4
  ·cases o with
   | dead=>trivial
   | _=>exact absurd rfl hl
 ·obtain ⟨i,h3,h4,c⟩:=look j o u h1 hl h2
  obtain ⟨i',h3',h4',c'⟩:=look j' o' u' h1' hl' h2'
  refine hs.sep i i' o o' u u' b ?_ h3 h3' hl hl' h4 h4' hb hb'
  rcases c with ⟨rfl,c1,c2⟩ | ⟨rfl,rfl⟩<;>rcases c' with ⟨rfl,c1',c2'⟩ | ⟨rfl,rfl⟩
  ·exact hne
  ·exact c1
  ·exact fun e=>c1' e.symm
  ·exact absurd rfl hne
 ·obtain ⟨j,o,u,h1,hl,h2,hb⟩:=hb
  obtain ⟨i,h3,h4,_⟩:=look j o u h1 hl h2
  exact .inl ⟨i,o,u,h3,hl,h4,hb⟩
theorem T.mvS {c:Code} {Q:Exit->List AV->List Ob->Prop} (t id:Nat) {e s n0:Nat} {rows:List (List AV)} (hx:evA n l (.tmp t)=.ref id) (ho:aw[id]?=some (.arr e s rows)) (hn:aw.length=n0) (ha:aw.set id .dead++[.arr e s rows]=aw') (h:T P N c Q (mkA n ((t,.ref n0)::l)) aw'):T P N c Q (mkA n l) aw :=
 ⟨fun st h1 h2 σ w F a hcur=>by
  subst ha hn;have hr:=hcur.fr.ev (.tmp t);rw [aD,hx] at hr;generalize hv:a.eval (.tmp t)=v at hr;cases hr with
  | ref _ A m c2 hg =>
   obtain ⟨s1,m1⟩:=vo hcur.sim ho hg;refine h.out st h1 h2 _ w F a ⟨s1,?_,hcur.mv.trans m1,hcur.ds⟩;have hfr:=m1.aRel hcur.sim hcur.fr;have hrn:Rel (σ++[.slice A m c2]) w F (.ref aw.length) (.slice A m c2):=.ref _ A m c2 (by rw [<- hcur.sim.len];simp);have e1:a.tmps.getD t undef=.slice A m c2:=hv;have hset:mkA n ((t,.ref aw.length)::l)=(mkA n l).set t (.ref aw.length):=(dt n l (some t) _).symm;rw [hset];refine ⟨?_,hfr.2⟩;have hlen:=hfr.1.1;by_cases ht:t<a.tmps.size
   ·have:=hfr.1.set t hrn;have e2:a.tmps.toList.set t (.slice A m c2)=a.tmps.toList:=by
     have e3:a.tmps.toList[t]?=some (.slice A m c2):=by
      have:a.tmps[t]?=some (.slice A m c2):=by rw [Nq ht];rw [<- e1];simp [ht]
      simpa using this
     obtain ⟨hlt2,hvs⟩:=LH.1 e3;rw [<- hvs];exact MK hlt2
    rwa [e2] at this
   ·have:(mkA n l).set t (.ref aw.length)=mkA n l:=List.set_eq_of_length_le (by rw [<- hlen];simpa using Nat.le_of_not_lt ht);rw [this];exact hfr.1⟩
theorem T.mvB {c:Code} {Q:Exit->List AV->List Ob->Prop} {fr:List AV} (b j id:Nat) {e s n0:Nat} {rows:List (List AV)} {cs cs':List AV} (hb:aw[b]?=some (.box cs)) (hj:cs[j]?=some (.ref id)) (ho:aw[id]?=some (.arr e s rows)) (hn:aw.length=n0) (hc:cs.set j (.ref n0)=cs') (ha:(aw.set id .dead).set b (.box cs')++[.arr e s rows]=aw') (h:T P N c Q fr aw'):T P N c Q fr aw :=
 ⟨fun st h1 h2 σ w F a hcur=>by
  subst hc ha hn;have hbl:b<aw.length:=(LH.1 hb).1;have hbσ:∃ vb,σ[b]?=some vb:=⟨_,LG (by rw [hcur.sim.len];exact hbl)⟩
  obtain ⟨vb,hvb⟩:=hbσ;obtain ⟨g,vs,ty,rfl,hg,hcr,h1c,hf⟩:=hcur.sim.obj b _ vb hb hvb;obtain ⟨u,hu,hru⟩:=hcr.get hj;cases hru with
  | ref _ A m c2 hgσ =>
   obtain ⟨s1,m1⟩:=vo hcur.sim ho hgσ;have hbid:b≠id:=by rintro rfl;rw [hb] at ho;cases ho
   have hb1:(aw.set id .dead++[.arr e s rows])[b]?=some (.box cs):=by rw [LO (by simpa using hbl),LY,if_neg (fun e=>hbid e.symm)];exact hb
   have hnew:ORel (σ++[.slice A m c2]) w F (.box (cs.set j (.ref aw.length))) (.pointer (some ⟨g,0,none⟩)):=by
    refine ⟨g,vs,ty,rfl,hg,?_,h1c,hf⟩;have hcr1:=m1.relL hcur.sim hcr;have:=hcr1.set j (Rel.ref (σ:=σ++[.slice A m c2]) (w:=w) (F:=F) aw.length A m c2 (by rw [<- hcur.sim.len];simp));have e2:vs.toList.set j (.slice A m c2)=vs.toList:=by obtain ⟨hlt2,hvs⟩:=LH.1 hu;rw [<- hvs];exact MK hlt2
    rwa [e2] at this
   have hvb1:(σ++[.slice A m c2])[b]?=some (.pointer (some ⟨g,0,none⟩)):=eF hvb;have hset:(aw.set id .dead).set b (.box (cs.set j (.ref aw.length)))++[Ob.arr e s rows]=(aw.set id .dead++[Ob.arr e s rows]).set b (.box (cs.set j (.ref aw.length))):=by rw [List.set_append_left _ _ (by simpa using hbl)]
   rw [hset] at h;have s2:=s1.write (b0:=g) b hb1 rfl hvb1 rfl (fun _ _=>rfl) rfl _ hnew (fun _ h=>h);have m2:=Mv.write (w:=w) (w':=w) (F:=F) (b0:=g) b hb1 rfl hvb1 rfl rfl rfl drO (fun _ _=>rfl) rfl (.box (cs.set j (.ref aw.length))) (fun _ h=>h);exact h.out st h1 h2 _ w F a ⟨s2,m2.aRel s1 (m1.aRel hcur.sim hcur.fr),(hcur.mv.trans m1).trans m2,hcur.ds⟩⟩
def fz1 (id:Nat) (rows:List (List AV)):AV->AV
 | .ref k=>(match Nat.beq k id with | true=>.sl rows | false=>.ref k)
 | a=>a
def fz2 (id:Nat) (rows:List (List AV)):AV->AV
 | .agg cs=>.agg (cs.map (fz1 id rows))
 | a=>fz1 id rows a
def fzV (id:Nat) (rows:List (List AV)):AV->AV
 | .tup cs=>.tup (cs.map (fz2 id rows))
 | .func f cs=>.func f (cs.map (fz2 id rows))
 | a=>fz2 id rows a
def fzA (id:Nat) (rows:List (List AV)) (l:List (Nat × AV)):List (Nat × AV):=l.map fun p=>(p.1,fzV id rows p.2)
def fzOb (id:Nat) (rows:List (List AV)):Ob->Ob
 | .box cs=>.box (cs.map (fz2 id rows))
 | o=>o
section
variable {σ:List Value} {w:World} {F:Nat→Prop} {id:Nat} {rows:List (List AV)}
theorem Bc (H:∀ v,Rel σ w F (.ref id) v->Rel σ w F (.sl rows) v) {a:AV} {v:Value} (h:Rel σ w F a v):Rel σ w F (fz1 id rows a) v:=by
 unfold fz1;split
 ·rename_i k;split
  ·rename_i hb;obtain rfl:=MC hb;exact H v h
  ·exact h
 ·exact h
theorem sX {f:AV->AV} (hf:∀ a v,Rel σ w F a v->Rel σ w F (f a) v) {cs:List AV} {vs:List Value} (h:RelL σ w F cs vs):RelL σ w F (cs.map f) vs:=by refine ⟨by simp [h.1],fun j a v ha hv=>?_⟩;rw [LT,L6] at ha;obtain ⟨b,hb,rfl⟩:=ha;exact hf b v (h.2 j b v hb hv)
theorem sS (H:∀ v,Rel σ w F (.ref id) v->Rel σ w F (.sl rows) v) {a:AV} {v:Value} (h:Rel σ w F a v):Rel σ w F (fz2 id rows a) v:=by
 unfold fz2;split
 ·cases h with
  | agg _ vs hl h1 hc =>
   have:=sX (fun a v=>Bc H) (⟨hl,hc⟩:RelL σ w F _ _);exact .agg _ vs this.1 h1 this.2
 ·exact Bc H h
theorem Ik (H:∀ v,Rel σ w F (.ref id) v->Rel σ w F (.sl rows) v) {a:AV} {v:Value} (h:Rel σ w F a v):Rel σ w F (fzV id rows a) v:=by
 unfold fzV;split
 ·cases h with
  | tup _ vs hl hc =>
   have:=sX (fun a v=>sS H) (⟨hl,hc⟩:RelL σ w F _ _);exact .tup _ vs this.1 this.2
 ·cases h with
  | func _ _ vs hl hc =>
   have:=sX (fun a v=>sS H) (⟨hl,hc⟩:RelL σ w F _ _);exact .func _ _ vs this.1 this.2
 ·exact sS H h
theorem Kb (hs:Sim aw σ w F) (H:∀ v,Rel σ w F (.ref id) v->Rel σ w F (.sl rows) v):Sim (aw.map (fzOb id rows)) σ w F/\Mv aw σ w F (aw.map (fzOb id rows)) σ w F:=by
 have look:∀ (k:Nat) o,(aw.map (fzOb id rows))[k]?=some o->∃ o1,aw[k]?=some o1/\o=fzOb id rows o1/\(o.live=true->o1.live=true)/\∀ v b,Bk o v b->Bk o1 v b:=fun k o h=>by rw [LT,L6] at h;obtain ⟨o1,h1,rfl⟩:=h;exact ⟨o1,h1,rfl,fun hl=>by cases o1<;>first | rfl | exact hl,fun v b hb=>by cases o1<;>exact hb⟩
 refine ⟨⟨by simp [hs.len],fun k o v h1 h2=>?_,fun k k' o o' v v' b hne h1 h1' hl hl' h2 h2' hb hb'=>?_,hs.lt⟩,⟨rfl,rfl,drO,LM _,fun _ _ _=>rfl,fun _ _ h=>h,fun _ h=>h,fun _ h=>.inl h,fun b hb=>?_⟩⟩
 ·obtain ⟨o1,h3,rfl,_,_⟩:=look k o h1;have:=hs.obj k o1 v h3 h2;cases o1 with
  | box cs =>
   obtain ⟨g,vs,ty,rfl,hg,hr,h4,hf⟩:=this;exact ⟨g,vs,ty,rfl,hg,sX (fun a v=>sS H) hr,h4,hf⟩
  | _=>exact this
 ·obtain ⟨o1,h3,_,l1,z1⟩:=look k o h1;obtain ⟨o1',h3',_,l1',z1'⟩:=look k' o' h1';exact hs.sep k k' o1 o1' v v' b hne h3 h3' (l1 hl) (l1' hl') h2 h2' (z1 _ _ hb) (z1' _ _ hb')
 ·obtain ⟨k,o,v,h1,hl,h2,hb⟩:=hb;obtain ⟨o1,h3,_,l1,z1⟩:=look k o h1;exact .inl ⟨k,o1,v,h3,l1 hl,h2,z1 _ _ hb⟩
theorem A6 (f:AV->AV) (hf:f .any=.any):∀ (l:List (Nat × AV)) (t:Nat),lkA (l.map fun p=>(p.1,f p.2)) t=f (lkA l t)
 | [],t=>hf.symm
 | (s,v)::r,t=>by
  rw [Mn,jq,jq];split
  ·rfl
  ·exact A6 f hf r t
theorem tg {st:St} {a:Act} {e s:Nat} (hc:Cur st (mkA n l) aw σ w F a) (ho:aw[id]?=some (.arr e s rows)):∃ F',Cur st (mkA n (fzA id rows l)) ((aw.set id .dead).map (fzOb id rows)) σ w F' a:=by
 have hlt:id<σ.length:=by rw [hc.sim.len];exact (LH.1 ho).1
 have hv:=LG hlt;have s1:=hc.sim.drop id ho rfl hv;have m1:Mv aw σ w F (aw.set id .dead) σ w _:=.drop id ho rfl hv;obtain ⟨flat,hown,hfl,hf,A,m,c,hform⟩:=hc.sim.obj id _ _ ho hv;have H:∀ v,Rel σ w (fun b=>F b∨Bk (.arr e s rows) σ[id] b) (.ref id) v->Rel σ w (fun b=>F b∨Bk (.arr e s rows) σ[id] b) (.sl rows) v:=fun v hr=>by
  cases hr with
  | ref _ A' m' c' h' =>
   have e1:σ[id]=.slice A' m' c':=by rw [hv] at h';exact LP h'
   have:=B6 (F':=fun b=>F b∨Bk (.arr e s rows) σ[id] b) (fun _ h=>.inl h) hc.sim ho h' (fun b hb=>.inr (by rw [e1];exact hb));exact this
 have c1:=hc.step s1 m1;obtain ⟨s2,m2⟩:=Kb (rows:=rows) s1 H;have c2:=c1.step s2 m2;refine ⟨_,s2,⟨⟨?_,fun j x v hx hv'=>?_⟩,c2.fr.2⟩,c2.mv,c2.ds⟩
 ·rw [l6];have:=c2.fr.1.1;rwa [l6] at this
 ·rw [gf] at hx;split at hx
  ·rename_i hj;cases hx;unfold fzA;rw [A6 _ rfl];exact Ik H (c2.fr.1.2 j _ v (by rw [gf,if_pos hj]) hv')
  ·cases hx
end
theorem T.fz {c:Code} {Q:Exit->List AV->List Ob->Prop} {l':List (Nat × AV)} (id:Nat) {e s:Nat} {rows:List (List AV)} (ho:aw[id]?=some (.arr e s rows)) (hl:fzA id rows l=l') (ha:(aw.set id .dead).map (fzOb id rows)=aw') (h:T P N c Q (mkA n l') aw'):T P N c Q (mkA n l) aw :=
 ⟨fun st h1 h2 σ w F a hc=>by subst hl ha;obtain ⟨F',hc'⟩:=tg hc ho;exact h.out st h1 h2 σ w F' a hc'⟩
theorem RS.fz {ops:Array Oper} {os:List Oper} {K:List AV->List Ob->Prop} {l':List (Nat × AV)} (id:Nat) {e s:Nat} {rows:List (List AV)} (ho:aw[id]?=some (.arr e s rows)) (hl:fzA id rows l=l') (ha:(aw.set id .dead).map (fzOb id rows)=aw') (h:RS P N ops os K (mkA n l') aw'):RS P N ops os K (mkA n l) aw :=
 ⟨fun st h1 h2 σ w F a hc=>by subst hl ha;obtain ⟨F',hc'⟩:=tg hc ho;exact h.out st h1 h2 σ w F' a hc'⟩
theorem RA.fz {ops:Array Oper} {k:Nat} {li:Array Bool} {K:List AV->List Ob->Prop} {l':List (Nat × AV)} (id:Nat) {e s:Nat} {rows:List (List AV)} (ho:aw[id]?=some (.arr e s rows)) (hl:fzA id rows l=l') (ha:(aw.set id .dead).map (fzOb id rows)=aw') (h:RA P N ops k li K (mkA n l') aw'):RA P N ops k li K (mkA n l) aw :=
 ⟨fun st h1 h2 σ w F a hc=>by subst hl ha;obtain ⟨F',hc'⟩:=tg hc ho;exact h.out st h1 h2 σ w F' a hc'⟩
theorem RO.fz {ops:Array Oper} {i:Nat} {K:List AV->List Ob->Prop} {l':List (Nat × AV)} (id:Nat) {e s:Nat} {rows:List (List AV)} (ho:aw[id]?=some (.arr e s rows)) (hl:fzA id rows l=l') (ha:(aw.set id .dead).map (fzOb id rows)=aw') (h:RO P N ops i K (mkA n l') aw'):RO P N ops i K (mkA n l) aw :=
 ⟨fun st h1 h2 σ w F a hc=>by subst hl ha;obtain ⟨F',hc'⟩:=tg hc ho;exact h.out st h1 h2 σ w F' a hc'⟩
theorem GS {M:Nat} {Q:AV->List Ob->Prop} {vs:List AV} {v:AV} {aw1:List Ob} (r:AV) (ρ:List Nat) (hr:fY aw (cZ vs)=(v,aw1)) (h1:ρ.Nodup) (h2:∀ k,k<M->ρ[k]?=some k) (hren:Ren ρ r v) (hw:bR ρ aw1 ρ aw') (hQ:Q r aw'):Ret M Q aw vs :=
 ⟨[],true,r,aw',by simp only [nilify,if_true];rw [hr];exact ⟨ρ,h1,h2,hren,hw⟩,hQ⟩
end
end
noncomputable section
def kix {κ:Type} [DecidableEq κ] (k:κ):List κ->Option Nat
 | []=>none
 | k'::r=>if k=k' then some 0 else (kix k r).map (· + 1)
def mget {κ ν:Type} [DecidableEq κ] (k:κ):List (κ × ν)->Option ν
 | []=>none
 | p::r=>if k=p.1 then some p.2 else mget k r
def mset {κ ν:Type} [DecidableEq κ] (k:κ) (v:ν):List (κ × ν)->List (κ × ν)
 | []=>[(k,v)]
 | p::r=>if k=p.1 then (k,v)::r else p::mset k v r
def cpy {α:Type} (xs:List α) (lo n:Nat) (ys:List α):List α:=xs.take lo++ys.take n++xs.drop (lo+min n ys.length)
def vwok (len:Nat) (i j:Int):Option Unit:=if 0<=i/\i<=j/\j<=len then some () else none
def allC {α:Type} (n:Nat) (f:Nat->Option α):Option α :=
 open Classical in if h:∃ r,∀ C,n<=C->f C=some r then some (Classical.choose h) else none
theorem F6 {α:Type} {n:Nat} {f:Nat->Option α} {r:α} (h:allC n f=some r):∀ C,n<=C->f C=some r:=by
 unfold allC at h;split at h
 ·rename_i hx;cases h;exact Classical.choose_spec hx
 ·cases h
theorem It {α:Type} {n:Nat} {f:Nat->Option α} {r:α} (h:∀ C,n<=C->f C=some r):allC n f=some r:=by
 have hx:∃ r,∀ C,n<=C->f C=some r:=⟨r,h⟩
 have h1:=Classical.choose_spec hx n (LM _);rw [h n (LM _)] at h1;unfold allC;rw [dif_pos hx];exact h1.symm
def roomx (len C:Nat) (j:Int):Option Nat:=if 0<len/\(len:Int)<=j/\j<=C then some (j.toNat - len) else none
def cpyU {α:Type} (xs:List α) (x lo m lo2 m2:Nat):Option (List α):=if 0<m/\m<=m2/\lo<=xs.length/\lo+m=xs.length+x/\lo2+m=xs.length then some (xs.take lo++xs.drop lo2) else none
def growz {α:Type} (xs:List α) (n K:Nat) (m:Int) (z:α):Option (List α):=if n<=xs.length/\(K:Int)<n+m/\0<m/\n+m.toNat<=1099511627776 then some (xs.take n++List.replicate m.toNat z) else none
def ovok {α:Type} (ys:List α) (m:Nat):Option Unit:=if 0<ys.length/\0<m then some () else none
end
section
open Go.RowKit Go.Lib
section
variable {P:Program} {N n:Nat} {aw aw':List Ob} {l:List (Nat × AV)}
theorem OP.of_ok {o:Oper} {fr:List AV} {K:AV->List Ob->Prop} (h:∀ σ w F a,ARel σ w F fr a->Sim aw σ w F->OpOk P aw σ w F (execOp a.eval o) K):OP P N o fr aw K :=
 ⟨fun st h1 h2 σ w F a hc Kc Q hk=>by
  obtain ⟨v,n,w',aw',σ',F',r,hrun,hn,hs,hm,hr,hK⟩:=h σ w F a hc.fr hc.sim;unfold Oper.wp;rw [hrun];rcases hn with rfl | ⟨rfl,rfl⟩
  ·exact hk r aw' σ' w' F' v hK (hc.step hs hm) hr
  ·exact hk r aw' σ' w' F' undef hK (hc.step hs hm) hr⟩
theorem Gh {σ:List Value} {w:World} {F:Nat->Prop} {t tn ty e:TypeId} {z:List AV} {kn kq:IntKind} (hu:P.underlying t=some (.slice e)) (htn:P.underlying tn=some (.int kn)) (hz:aI P e=some z) (hzl:z.length=P.cellsOf e) (h0:0<P.cellsOf e) (hby:P.bytesOf e<=128)
  {n m:Nat} {v:Value} {flat:List Value} (hown:w.ownsRow 0 e (P.cellsOf e) v n flat) (hm:0<m) (hlen:n+m<=1099511627776) :
  ∃ v' w' news,(Builtin.append_ #[t,tn] ty #[v,.int kq m]).run P w=.ok v' w'/\w'.ownsRow 0 e (P.cellsOf e) v' (n+m) (flat++news)/\w.grownBy w' v.ownBlock /\
   (v'.ownBlock=v.ownBlock∨v'.ownBlock=some w.heap.size)/\RelL σ w F (List.replicate m z).flatten news/\(∀ u,u∈news->u.oneCell'=true)/\(∀ A q cp,v=.slice A q cp->cp<n+m->v'.ownBlock=some w.heap.size/\w.grownBy w' none):=by
 obtain ⟨i,zv,hi,hiz,hvl,hv1,hvr⟩:=nT hz
 have hsz:i.size=P.cellsOf e:=by simp [Program.cellsOf,hi]
 have hbb:i.bytes=P.bytesOf e:=by simp [Program.bytesOf,hi]
 rw [<- hsz] at hown h0 hzl ⊢
 rw [<- hbb] at hby
 have hzs:zv.cells.size=i.size:=by rw [<- hzl];simpa using hvl
 have hinit:=uQ (hvr σ w F) (by omega) m
 have hone:=uF hv1 (by omega) (m*zv.cells.size)
 have hbytes:(n+m)*i.bytes<=140737488355328:=by have:(n+m)*i.bytes<=1099511627776*128:=NL hlen hby;omega
 have h63:n+m<=maxLen:=by simp only [maxLen];omega
 have hnl:(Builtin.zeroCells zv.cells m).toList.length=m*i.size:=by rw [M3,size_zeroCells,hzs]
 have hfl:(flat++(Builtin.zeroCells zv.cells m).toList).length=(n+m)*i.size:=by rw [LI,hown.1,hnl,Ma]
 have hrel:RelL σ w F (List.replicate m z).flatten (Builtin.zeroCells zv.cells m).toList:=by
  have e1:m*z.length=m*zv.cells.size:=by rw [hzl,hzs]
  rw [e1] at hinit;exact hinit
 have grown:∀ (old:Nat),old<n+m->∀ (row:Option Nat),
   (w.drew.alloc (.cells (flat.toArray++Builtin.zeroCells zv.cells m++Builtin.zeroCells zv.cells (grownCap w (n+m) old e - (n+m))) e)).ownsRow 0 e i.size
    (.slice (some ⟨w.heap.size,0,none⟩) (n+m) (grownCap w (n+m) old e)) (n+m) (flat++(Builtin.zeroCells zv.cells m).toList) /\
   w.grownBy (w.drew.alloc (.cells (flat.toArray++Builtin.zeroCells zv.cells m++Builtin.zeroCells zv.cells (grownCap w (n+m) old e - (n+m))) e)) row:=by
  intro old ho row
  have hge:=grownCap_ge w (n+m) old e
  have hcm:grownCap w (n+m) old e<=maxLen:=grownCap_le_maxLen w (n+m) old e h63
  refine ⟨⟨hfl,.inr ⟨w.heap.size,_,_,rfl,MA _,heap_alloc_new w.drew _,hge,hcm,?_,?_⟩⟩,⟨rfl,rfl,rfl,by simp,fun k hk _=>Below.heap_alloc w.drew _ k hk⟩⟩
  ·simp only [Array.size_append,Ny,size_zeroCells,hzs,hown.1,<- Ma]
   congr 1
   omega
  ·simp only [Array.toList_append]
   rw [<- hfl]
   exact NA
 rcases hown.2 with ⟨rfl,rfl⟩ | ⟨g,cap,cur,rfl,hbg,hg,hnc,hcm,hcs,htake⟩
 ·have hx:flat=[]:=LR (by simpa using hown.1)
  subst hx
  have hr:=run_append_nil_zeros (P:=P) w t tn ty e i zv kq kn hu htn hi hiz m hm h0 (by omega) (by
   have:m*i.bytes<=140737488355328:=by simpa using hbytes
   omega)
  have hgr:=grown 0 (by omega) none
  simp only [MG,My,Nv] at hgr ⊢
  exact ⟨_,_,_,hr,hgr.1,hgr.2,.inr rfl,hrel,hone,fun _ _ _ _ _=>⟨rfl,hgr.2⟩⟩
 ·by_cases hroom:n+m<=cap
  ·have hfit:n*i.size+(Builtin.zeroCells zv.cells m).toList.length<=cur.size:=by rw [hnl,hcs,<- Ma];exact L4 _ hroom
   have hst:=run_storeCells_at P g (n*i.size) e (Builtin.zeroCells zv.cells m).toList 0 cur w hg (by simpa using hfit) hone
   simp only [MB] at hst
   have hw:IntKind.i64.wrap (m:Int)=m:=by rw [IntKind.wrap_i64];omega
   have hneg:¬ ((m:Int)<0):=by omega
   have hns:¬ (m*i.size=0):=Nat.mul_ne_zero (by omega) (by omega)
   have h48i:¬ (281474976710656<(m:Int)*(i.bytes:Int)):=by rw [<- Int.natCast_mul];have:m*i.bytes<=(n+m)*i.bytes:=L4 _ (by omega);omega
   have hr:(Builtin.append_ #[t,tn] ty #[.slice (some ⟨g,0,none⟩) n cap,.int kq m]).run P w=.ok (.slice (some ⟨g,0,none⟩) (n+m) cap)
     (w.setRow g (cur.toList.take (n*i.size)++(Builtin.zeroCells zv.cells m).toList++cur.toList.drop (n*i.size+(Builtin.zeroCells zv.cells m).toList.length)).toArray):=by
    simp [Builtin.append_,run_underlying hu,run_underlying htn,sizeOf,typeInfo,zeroValue,hi,hiz,asInt,asIntOf,hw,hneg,hns,h48i,hroom,Addr.add_lit,hst]
   refine ⟨_,_,_,hr,⟨hfl,.inr ⟨g,cap,_,rfl,hbg,setRow_heap w g cur _ e _ hg,hroom,hcm,?_,?_⟩⟩,⟨rfl,rfl,rfl,by simp,fun k _ hk=>setRow_other w g k _ (fun e=>hk (by simp [Value.ownBlock,e]))⟩,.inl rfl,hrel,hone,fun A q cp e h=>by cases e;omega⟩
   ·simp only [Ny,LI,L8,Mg,M3]
    simp only [M3] at hfit
    omega
   ·rw [htake,<- hfl]
    exact NA
  ·have holds:∀ j u,flat[j]?=some u->w.drew.cell? ((⟨g,0,none⟩:Addr).add j)=some u:=hown.cells (g:=g) rfl
   have hold:=run_firstCells_some (P:=P) w.drew i.size n ⟨g,0,none⟩ n cap flat hown.1 holds
   have hr:=run_append_grow_zeros (P:=P) w t tn ty e i zv kq kn hu htn hi hiz (some ⟨g,0,none⟩) n cap flat hold m hm h0 (by omega) (by omega) (by have:m*i.bytes<=(n+m)*i.bytes:=L4 _ (by omega);omega) (growslice_fits (by omega) hbytes)
   have hgr:=grown cap (by omega) (Value.ownBlock (.slice (some ⟨g,0,none⟩) n cap))
   exact ⟨_,_,_,hr,hgr.1,hgr.2,.inr rfl,hrel,hone,fun _ _ _ _ _=>⟨rfl,(grown cap (by omega) none).2⟩⟩
end
end
end Go.Proofs.YtnlmagdmmjkklaaGreat
