/-
  Part 1 of the proof of taleParseLaw.proved: the code computes these functions, and the law holds of them, with no condition beyond the statement's own; put together by a program of ours (wip/decl.py) out of texts of ours.
-/
import Derived.WalkKit
import Derived.WalkSpells
import Derived.Lib.ItoaNum
import Derived.Maps.AppendAt
import Derived.Laws.MakeOwn
import Derived.Laws.OwnMore
import Derived.Laws.BytesArg
import Derived.Deep.LoopGhost
import Derived.OrdersHeld
import Derived.Lib.Join
import Derived.Lib.AppendZerosOnto
set_option linter.unusedVariables false
set_option linter.unusedSimpArgs false
namespace Go.Proofs.YtbfncjgaklimlaaGreatDoor
theorem tqz:True:=trivial
abbrev zI:=@Option.bind_some
abbrev zJ:=@List.getElem?_eq_getElem
abbrev zK:=@List.getElem?_eq_some_iff
abbrev zL:=@Option.some.inj
abbrev zM:=@List.mem_of_getElem?
abbrev zN:=@List.eq_nil_of_length_eq_zero
abbrev zO:=@Bool.false_eq_true
abbrev zP:=@Nat.le_refl
abbrev zQ:=@Option.map_eq_some_iff
abbrev zR:=@List.length_cons
abbrev zS:=@List.getElem?_append_left
abbrev zT:=@List.getElem?_map
abbrev zU:=@Option.isSome_iff_exists
abbrev zV:=@List.getElem?_set
abbrev zW:=@Array.getElem?_eq_some_iff
abbrev zX:=@Nat.lt_of_lt_of_le
abbrev zY:=@List.drop_eq_getElem_cons
abbrev zZ:=@List.length_map
abbrev z6:=@List.getElem?_append
abbrev z7:=@List.getElem?_drop
abbrev z8:=@List.getD_eq_getElem?_getD
abbrev Aa:=@List.getElem_mem
abbrev Ab:=@List.take_of_length_le
abbrev Ac:=@List.map_cons
abbrev Ad:=@List.set_getElem_self
abbrev Ae:=@Nat.zero_le
abbrev Af:=@List.mem_of_mem_take
abbrev Ag:=@List.length_append
abbrev Ah:=@List.mem_append
abbrev Ai:=@List.mem_cons_of_mem
abbrev Aj:=@List.mem_cons_self
abbrev Ak:=@List.all_eq_true
abbrev Al:=@Nat.eq_of_beq_eq_true
abbrev Am:=@List.mem_map
abbrev An:=@List.length_nil
abbrev Ao:=@Nat.mul_le_mul_right
abbrev Ap:=@List.ext_getElem?
abbrev Aq:=@List.flatten_cons
abbrev Ar:=@Nat.le_of_ble_eq_true
abbrev As:=@List.getElem?_take
abbrev Au:=@List.map_congr_left
abbrev Av:=@List.take_append_drop
abbrev Aw:=@List.mem_of_mem_drop
abbrev Ax:=@List.length_set
abbrev Ay:=@List.drop_drop
abbrev Az:=@Bool.and_eq_true
abbrev AA:=@List.cons_append
abbrev AB:=@Int.natCast_zero
abbrev AC:=@List.drop_of_length_le
abbrev AD:=@Array.getElem?_modify
abbrev AE:=@List.getElem?_append_right
abbrev AF:=@Nat.le_trans
abbrev AG:=@List.eq_of_mem_replicate
abbrev AH:=@Int.toNat_of_nonneg
abbrev AI:=@List.getElem?_replicate
abbrev AJ:=@List.nil_append
abbrev AK:=@Nat.add_zero
abbrev AL:=@List.flatten_append
abbrev AM:=@List.map_append
abbrev AN:=@Nat.zero_add
abbrev AO:=@List.map_map
abbrev AP:=@List.tail_drop
abbrev AQ:=@Option.some.injEq
abbrev AR:=@List.size_toArray
abbrev AS:=@Int.toNat_natCast
abbrev AT:=@List.mem_cons
abbrev AU:=@List.length_take
abbrev AW:=@Option.getD_some
abbrev AX:=@List.drop_length
abbrev AY:=@Array.getElem?_toList
abbrev AZ:=@Option.map_some
abbrev A0:=@Nat.min_eq_left
abbrev A1:=@List.getElem?_of_mem
abbrev A3:=@Nat.div_lt_of_lt_mul
abbrev A4:=@List.drop_zero
abbrev A5:=@List.all_cons
abbrev A6:=@List.append_assoc
abbrev A7:=@List.length_drop
abbrev A8:=@List.nodup_cons
abbrev A9:=@Nat.add_mul
section
open Go.RowKit
inductive AV where
 | any
 | int (k:IntKind) (n:Int)
 | bool (b:Bool)
 | str (s:List UInt8)
 | agg (cs:List AV)
 | tup (vs:List AV)
 | nils
 | sl (rows:List (List AV))
 | ref (id:Nat)
 | ptr (id off:Nat)
 | elt (row:List AV) (off:Nat)
 | aptr (id size i off:Nat)
 | func (f:FuncId) (caps:List AV)
 | nilf
 | nilp
 | np (id:Nat)
 | nili
 | mpr (id:Nat)
 | ifc (t:TypeId) (a:AV)
 | cst (v:Value)
 | vw (id size lo n:Nat) (cap:Option Nat)
 | ref2 (id:Nat)
 | aptr2 (id i:Nat)
 | iref (id i:Nat)
 | bnd (f:FuncId) (firsts:List AV)
inductive Cell where
 | own (rows:List (List AV))
 | fz (rows:List (List AV))
 | hole
inductive Ob where
 | dead
 | box (cs:List AV)
 | arr (e:TypeId) (size:Nat) (rows:List (List AV))
 | mp (ks vs:List AV)
 | hd (e:TypeId) (k:Nat)
 | cl (e:TypeId) (size:Nat) (cells:List Cell)
 | arrU (e:TypeId) (size:Nat) (rows:List (List AV)) (x:Nat)
 | boxB (t:TypeId) (cs:List AV)
def Ob.live:Ob->Bool
 | .dead=>false
 | _=>true
inductive Rel (σ:List Value) (w:World) (F:Nat->Prop):AV->Value->Prop
 | any (v:Value):Rel σ w F .any v
 | int (k:IntKind) (n:Int):Rel σ w F (.int k n) (.int k n)
 | bool (b:Bool):Rel σ w F (.bool b) (.bool b)
 | str (s:List UInt8):Rel σ w F (.str s) (.string ⟨s.toArray⟩)
 | agg (cs:List AV) (vs:List Value) (h:vs.length=cs.length) (h1:∀ u,u∈vs->u.oneCell'=true) (hc:∀ (j:Nat) c u,cs[j]?=some c->vs[j]?=some u->Rel σ w F c u) :
  Rel σ w F (.agg cs) (.agg vs.toArray)
 | tup (cs:List AV) (vs:List Value) (h:vs.length=cs.length) (hc:∀ (j:Nat) c u,cs[j]?=some c->vs[j]?=some u->Rel σ w F c u) :
  Rel σ w F (.tup cs) (.tuple vs.toArray)
 | nils:Rel σ w F .nils (.slice none 0 0)
 | slNil:Rel σ w F (.sl []) (.slice none 0 0)
 | sl (rows:List (List AV)) (size:Nat) (ad:Addr) (c:Nat) (u:Nat->Nat->Value)
  (hF:rows≠[]->F ad.block) (hn:rows.length<=c) (hm:c<=maxLen)
  (hrow:∀ row,row∈rows->row.length=size) (hone:∀ i j:Nat,i<rows.length->j<size->(u i j).oneCell'=true)
  (hcell:∀ i j:Nat,i<rows.length->j<size->w.cell? (ad.add (i*size+j))=some (u i j))
  (hrel:∀ (i:Nat) row (j:Nat) x,rows[i]?=some row->row[j]?=some x->Rel σ w F x (u i j)) :
  Rel σ w F (.sl rows) (.slice (some ad) rows.length c)
 | ref (id:Nat) (a:Option Addr) (n c:Nat) (h:σ[id]?=some (.slice a n c)):Rel σ w F (.ref id) (.slice a n c)
 | ptr (id off g:Nat) (h:σ[id]?=some (.pointer (some ⟨g,0,none⟩))):Rel σ w F (.ptr id off) (.pointer (some ⟨g,off,none⟩))
 | elt (row:List AV) (off:Nat) (ad:Addr) (u:Nat->Value) (hF:row≠[]->F ad.block)
  (hone:∀ j:Nat,j<row.length->(u j).oneCell'=true)
  (hcell:∀ j:Nat,j<row.length->w.cell? (ad.add j)=some (u j))
  (hrel:∀ (j:Nat) x,row[j]?=some x->Rel σ w F x (u j)):Rel σ w F (.elt row off) (.pointer (some (ad.add off)))
 | aptr (id size i off g n c:Nat) (h:σ[id]?=some (.slice (some ⟨g,0,none⟩) n c)):Rel σ w F (.aptr id size i off) (.pointer (some ⟨g,i*size+off,none⟩))
 | func (f:FuncId) (cs:List AV) (vs:List Value) (h:vs.length=cs.length) (hc:∀ (j:Nat) c u,cs[j]?=some c->vs[j]?=some u->Rel σ w F c u) :
  Rel σ w F (.func f cs) (.func (.func f) #[] vs.toArray)
 | nilf:Rel σ w F .nilf .nilFunc
 | nilp:Rel σ w F .nilp (.pointer none)
 | np0 (id:Nat):Rel σ w F (.np id) (.pointer none)
 | npS (id g:Nat) (h:σ[id]?=some (.pointer (some ⟨g,0,none⟩))):Rel σ w F (.np id) (.pointer (some ⟨g,0,none⟩))
 | nili:Rel σ w F .nili .nilIface
 | mpr (id:Nat) (r:Option Nat) (h:σ[id]?=some (.map r)):Rel σ w F (.mpr id) (.map r)
 | ifc (t:TypeId) (a:AV) (v:Value) (h:Rel σ w F a v):Rel σ w F (.ifc t a) (.iface t v)
 | cst (v:Value):Rel σ w F (.cst v) v
 | vw (id size lo n N C:Nat) (cap:Option Nat) (A B:Option Addr) (h:σ[id]?=some (.slice B N C)) (hn:lo+n<=C) (hA:0<n->∃ g,B=some ⟨g,0,none⟩/\A=some ⟨g,lo*size,none⟩) (hc:∀ k,cap=some k->k+lo=C) (hz:lo=0->A=B) :
  Rel σ w F (.vw id size lo n cap) (.slice A n (C - lo))
 | ref2 (id:Nat) (a:Option Addr) (n c:Nat) (vs:Array Value) (h:σ[id]?=some (.tuple vs)) (h0:vs[0]?=some (.slice a n c)):Rel σ w F (.ref2 id) (.slice a n c)
 | aptr2 (id i g n c:Nat) (vs:Array Value) (h:σ[id]?=some (.tuple vs)) (h0:vs[0]?=some (.slice (some ⟨g,0,none⟩) n c)):Rel σ w F (.aptr2 id i) (.pointer (some ⟨g,i,none⟩))
 | iref (id i:Nat) (a:Option Addr) (n c:Nat) (vs:Array Value) (h:σ[id]?=some (.tuple vs)) (h0:vs[i]?=some (.slice a n c)):Rel σ w F (.iref id i) (.slice a n c)
 | bnd (f:FuncId) (cs:List AV) (vs:List Value) (h:vs.length=cs.length) (hc:∀ (j:Nat) c u,cs[j]?=some c->vs[j]?=some u->Rel σ w F c u) :
  Rel σ w F (.bnd f cs) (.func (.func f) vs.toArray #[])
theorem gG (a:Addr) (n:Nat):(a.add n).block=a.block:=by grind [Addr.add]
theorem dI (a:Addr) (i j:Nat):(a.add i).add j=a.add (i+j):=by grind [Addr.add]
theorem Rel.mono {σ σ':List Value} {w w':World} {F F':Nat->Prop} (hσ:∀ (i:Nat) v,σ[i]?=some v->σ'[i]?=some v) (hF:∀ b,F b->F' b)
  (hw:∀ b,F b->w'.heap[b]?=w.heap[b]?) {a:AV} {v:Value} (h:Rel σ w F a v):Rel σ' w' F' a v:=by
 induction h with
 | any v=>exact .any v
 | int k n=>exact .int k n
 | bool b=>exact .bool b
 | str s=>exact .str s
 | agg cs vs h h1 _ ih=>exact .agg cs vs h h1 ih
 | tup cs vs h _ ih=>exact .tup cs vs h ih
 | nils=>exact .nils
 | slNil=>exact .slNil
 | sl rows size ad c u hFb hn hm hrow hone hcell _ ih =>
  refine .sl rows size ad c u (fun h=>hF _ (hFb h)) hn hm hrow hone (fun i j hi hj=>?_) ih
  grind [World.cell?_of_block,gG]
 | ref id a n c h=>exact .ref id a n c (hσ _ _ h)
 | ptr id off g h=>exact .ptr id off g (hσ _ _ h)
 | elt row off ad u hFb hone hcell _ ih =>
  refine .elt row off ad u (fun h=>hF _ (hFb h)) hone (fun j hj=>?_) ih
  grind [World.cell?_of_block,gG]
 | aptr id size i off g n c h=>exact .aptr id size i off g n c (hσ _ _ h)
 | func f cs vs h _ ih=>exact .func f cs vs h ih
 | bnd f cs vs h _ ih=>exact .bnd f cs vs h ih
 | nilf=>exact .nilf
 | nilp=>exact .nilp
 | np0 id=>exact .np0 id
 | npS id g h=>exact .npS id g (hσ _ _ h)
 | nili=>exact .nili
 | mpr id r h=>exact .mpr id r (hσ _ _ h)
 | ifc t a v _ ih=>exact .ifc t a v ih
 | cst v=>exact .cst v
 | vw id size lo n N C cap A B h hn hA hc hz=>exact .vw id size lo n N C cap A B (hσ _ _ h) hn hA hc hz
 | ref2 id a n c vs h h0=>exact .ref2 id a n c vs (hσ _ _ h) h0
 | aptr2 id i g n c vs h h0=>exact .aptr2 id i g n c vs (hσ _ _ h) h0
 | iref id i a n c vs h h0=>exact .iref id i a n c vs (hσ _ _ h) h0
def RelL (σ:List Value) (w:World) (F:Nat->Prop) (as₀:List AV) (vs:List Value):Prop :=
 vs.length=as₀.length/\∀ (j:Nat) a v,as₀[j]?=some a->vs[j]?=some v->Rel σ w F a v
theorem RelL.mono {σ σ':List Value} {w w':World} {F F':Nat->Prop} (hσ:∀ (i:Nat) v,σ[i]?=some v->σ'[i]?=some v) (hF:∀ b,F b->F' b)
  (hw:∀ b,F b->w'.heap[b]?=w.heap[b]?) {as₀:List AV} {vs:List Value} (h:RelL σ w F as₀ vs):RelL σ' w' F' as₀ vs :=
 ⟨h.1,fun j a v ha hv=>(h.2 j a v ha hv).mono hσ hF hw⟩
theorem RelL.nil {σ:List Value} {w:World} {F:Nat->Prop}:RelL σ w F [] []:=⟨rfl,fun j a v h=>by simp at h⟩
theorem RelL.cons {σ:List Value} {w:World} {F:Nat->Prop} {a:AV} {v:Value} {as₀:List AV} {vs:List Value} (h:Rel σ w F a v) (t:RelL σ w F as₀ vs):RelL σ w F (a::as₀) (v::vs):=by
 refine ⟨by simp [t.1],fun j a' v' ha hv=>?_⟩;cases j with
 | zero=>grind
 | succ j=>simp at ha hv;exact t.2 j a' v' ha hv
theorem RelL.append {σ:List Value} {w:World} {F:Nat->Prop} {as₀ bs:List AV} {vs us:List Value} (h:RelL σ w F as₀ vs) (t:RelL σ w F bs us):RelL σ w F (as₀++bs) (vs++us):=by grind [RelL]
theorem RelL.get {σ:List Value} {w:World} {F:Nat->Prop} {as₀:List AV} {vs:List Value} (h:RelL σ w F as₀ vs) {j:Nat} {a:AV} (ha:as₀[j]?=some a):∃ v,vs[j]?=some v/\Rel σ w F a v:=by
 have hj:j<vs.length:=by rw [h.1];grind
 exact ⟨vs[j],zJ hj,h.2 j a _ ha (zJ hj)⟩
theorem RelL.set {σ:List Value} {w:World} {F:Nat->Prop} {as₀:List AV} {vs:List Value} (h:RelL σ w F as₀ vs) (d:Nat) {a:AV} {v:Value} (hr:Rel σ w F a v):RelL σ w F (as₀.set d a) (vs.set d v):=by
 refine ⟨by simp [h.1],fun j a' v' ha hv=>?_⟩;rw [zV] at ha hv;by_cases hdj:d=j
 ·grind
 ·rw [if_neg hdj] at ha hv;exact h.2 j a' v' ha hv
theorem RelL.sub {σ:List Value} {w:World} {F:Nat->Prop} {as₀:List AV} {vs:List Value} (h:RelL σ w F as₀ vs) (n m:Nat):RelL σ w F ((as₀.drop n).take m) ((vs.drop n).take m):=by
 refine ⟨by simp [h.1],fun j a v ha hv=>?_⟩;rw [As] at ha hv;split at ha
 ·rename_i hlt;rw [if_pos hlt] at hv;rw [z7] at ha hv;exact h.2 _ a v ha hv
 ·simp at ha
def AV.ofVal1:Value->AV
 | .bool b=>.bool b
 | .int k n=>.int k n
 | .string s=>.str s.data.toList
 | .slice none 0 0=>.nils
 | .nilFunc=>.nilf
 | .nilIface=>.nili
 | .pointer none=>.nilp
 | _=>.any
def AV.ofVal:Value->AV
 | .agg cs=>if cs.toList.all (·.oneCell') then .agg (cs.toList.map AV.ofVal1) else .any
 | v=>AV.ofVal1 v
theorem Rel.ofVal1 (σ:List Value) (w:World) (F:Nat->Prop) (v:Value):Rel σ w F (AV.ofVal1 v) v:=by
 unfold AV.ofVal1;split
 ·exact .bool _
 ·exact .int _ _
 ·rename_i s;simpa using Rel.str (σ:=σ) (w:=w) (F:=F) s.data.toList
 ·exact .nils
 ·exact .nilf
 ·exact .nili
 ·exact .nilp
 ·exact .any _
theorem Rel.ofVal (σ:List Value) (w:World) (F:Nat->Prop) (v:Value):Rel σ w F (AV.ofVal v) v:=by
 unfold AV.ofVal;split
 ·rename_i cs;split
  ·rename_i h1;have h:=Rel.agg (σ:=σ) (w:=w) (F:=F) (cs.toList.map AV.ofVal1) cs.toList (by simp) (fun u hu=>Ak.1 h1 u hu) (fun j c u hc hu=>by
    grind [Rel.ofVal1])
   simpa using h
  ·exact .any _
 simp [Rel.ofVal1]
def ev (fr:List AV):Operand->AV
 | .tmp t=>fr.getD t .any
 | .const v=>AV.ofVal v
 | .global _=>.any
 | .func f=>.func f []
def ARel (σ:List Value) (w:World) (F:Nat->Prop) (fr:List AV) (a:Act):Prop:=RelL σ w F fr a.tmps.toList/\True
theorem ARel.ev {σ:List Value} {w:World} {F:Nat->Prop} {fr:List AV} {a:Act} (h:ARel σ w F fr a) (x:Operand):Rel σ w F (ev fr x) (a.eval x):=by
 cases x with
 | tmp t =>
  show Rel σ w F (fr.getD t .any) (a.tmps.getD t undef);rw [z8];cases hf:fr[t]? with
  | none=>exact .any _
  | some c =>
   obtain ⟨v,hv,hr⟩:=h.1.get hf;simp_all
 | const v=>exact Rel.ofVal σ w F v
 | global g=>exact .any _
 | func f=>exact .func f [] [] rfl (fun j c u hc=>by simp at hc)
theorem ARel.put {σ:List Value} {w:World} {F:Nat->Prop} {fr:List AV} {a:Act} (h:ARel σ w F fr a) {r:AV} {v:Value} (hr:Rel σ w F r v) (d:Option Tmp) :
  ARel σ w F (match d with | some t=>fr.set t r | none=>fr) (a.put d v):=by
 cases d with
 | none=>exact h
 | some t=>exact ⟨by simpa [Act.put] using h.1.set t hr,h.2⟩
end
section
open Go.RowKit
def blk:Value->Option Nat
 | .pointer (some a)=>some a.block
 | .slice (some a) _ _=>some a.block
 | .map (some r)=>some r
 | _=>none
theorem gL (v:Value) (a:Option Addr) (n c:Nat) (h:v=.slice a n c):blk v=v.ownBlock:=by subst h;cases a<;>rfl
def FlatRel (σ:List Value) (w:World) (F:Nat->Prop) (size:Nat) (rows:List (List AV)) (flat:List Value):Prop :=
 (∀ row,row∈rows->row.length=size)/\(∀ u,u∈flat->u.oneCell'=true)/\RelL σ w F rows.flatten flat
def CellRel (σ:List Value) (w:World) (F:Nat->Prop) (e2 size:Nat):Cell->Value->Prop
 | .own rows,u=>∃ flat,w.ownsRow 0 e2 size u rows.length flat/\FlatRel σ w F size rows flat/\(∀ g,u.ownBlock=some g->¬ F g)/\∃ a n c,u=.slice a n c
 | .fz rows,u=>Rel σ w F (.sl rows) u
 | .hole,_=>True
def Bk (o:Ob) (v:Value) (b:Nat):Prop :=
 match o with
 | .dead=>False
 | .box _ | .arr _ _ _ | .mp _ _ | .arrU _ _ _ _ | .hd _ _ | .boxB _ _=>blk v=some b
 | .cl _ _ cells=>∃ us:List Value,v=.tuple us.toArray/\∃ (i:Nat) (rows:List (List AV)) (x:Value),cells[i]?=some (.own rows)/\us[i]?=some x/\x.ownBlock=some b
def Born (es:Array MapEntry) (clock:Nat):Prop:=(∀ e,e∈es.toList->e.born<clock)/\(es.toList.map (·.born)).Nodup
def ORel (σ:List Value) (w:World) (F:Nat->Prop):Ob->Value->Prop
 | .dead,_=>True
 | .box cs,v=>∃ g vs ty,v=.pointer (some ⟨g,0,none⟩)/\w.heap[g]?=some (.cells vs ty (0,0))/\RelL σ w F cs vs.toList/\(∀ u,u∈vs->u.oneCell'=true)/\¬ F g
 | .boxB t cs,v=>∃ g vs,v=.pointer (some ⟨g,0,none⟩)/\w.heap[g]?=some (.cells vs t (0,0))/\RelL σ w F cs vs.toList/\(∀ u,u∈vs->u.oneCell'=true)/\¬ F g
 | .arr e size rows,v=>∃ flat,w.ownsRow 0 e size v rows.length flat/\FlatRel σ w F size rows flat/\(∀ g,v.ownBlock=some g->¬ F g)/\∃ a n c,v=.slice a n c
 | .arrU e size rows x,v=>∃ g C flat,v=.slice (some ⟨g,0,none⟩) (rows.length+x) C/\rows.length+x<=C/\w.ownsRow 0 e size (.slice (some ⟨g,0,none⟩) rows.length C) rows.length flat/\FlatRel σ w F size rows flat/\¬ F g
 | .mp ks vs,v=>∃ g es clock,v=.map (some g)/\w.heap[g]?=some (.map es clock)/\RelL σ w F ks (es.toList.map (·.key))/\RelL σ w F vs (es.toList.map (·.val))/\¬ F g/\Born es clock
 | .hd e k,v=>∃ us:List Value,σ[k]?=some (.tuple us.toArray)/\w.ownsRow 0 e 1 v us.length us/\(∃ a n c,v=.slice a n c)/\(∀ u,u∈us->u.oneCell'=true)/\∀ g,v.ownBlock=some g->¬ F g
 | .cl e size cells,v=>∃ us:List Value,v=.tuple us.toArray/\us.length=cells.length/\(∀ (i:Nat) c x,cells[i]?=some c->us[i]?=some x->CellRel σ w F e size c x) /\
  (∀ (i j:Nat) rows rows' x y g,i≠j->cells[i]?=some (.own rows)->cells[j]?=some (.own rows')->us[i]?=some x->us[j]?=some y->x.ownBlock=some g->y.ownBlock=some g->False)
def gvs:List Nat:=[3,1,2]
def GP:Nat->Obj->Prop:=fun g o=>∃ cs t fz,o=.cells cs t fz/\(g=3->cs=(Go.Lib.pow10Tab.map fun z=>Value.int .u64 z).toArray)/\(g=1∨g=2->∃ ev,cs[0]?=some ev/\(ev=.nilIface∨∃ te pe,ev=.iface te pe))
def Gd (w:World) (F:Nat->Prop):Prop:=∀ g,g∈gvs->F g/\∃ o,w.heap[g]?=some o/\GP g o
theorem Gd.mono {w w':World} {F F':Nat->Prop} (h:Gd w F) (hF:∀ b,F b->F' b) (hk:∀ b,F b->w'.heap[b]?=w.heap[b]?):Gd w' F':=fun g hg=>by obtain ⟨h1,o,h2,h3⟩:=h g hg;exact ⟨hF g h1,o,(hk g h1).trans h2,h3⟩
structure Sim (aw:List Ob) (σ:List Value) (w:World) (F:Nat->Prop):Prop where
 len:σ.length=aw.length
 obj:∀ (k:Nat) o v,aw[k]?=some o->σ[k]?=some v->ORel σ w F o v
 sep:∀ (k k':Nat) o o' v v' g,k≠k'->aw[k]?=some o->aw[k']?=some o'->o.live=true->o'.live=true ->
  σ[k]?=some v->σ[k']?=some v'->Bk o v g->Bk o' v' g->False
 lt:∀ b,F b->b<w.heap.size
 gd:Gd w F
def Dof (aw:List Ob) (σ:List Value) (b:Nat):Prop:=∃ (k:Nat) (o:Ob) (v:Value),aw[k]?=some o/\o.live=true/\σ[k]?=some v/\Bk o v b
theorem pY {us us':List Value} (h:Value.tuple us.toArray=.tuple us'.toArray):us=us':=by grind
theorem Bk.slice {e s:Nat} {rows:List (List AV)} {a:Option Addr} {n c b:Nat} (h:(Value.slice a n c).ownBlock=some b):Bk (.arr e s rows) (.slice a n c) b:=(gL _ a n c rfl).trans h
theorem Bk.slice_inv {e s:Nat} {rows:List (List AV)} {a:Option Addr} {n c b:Nat} (h:Bk (.arr e s rows) (.slice a n c) b):(Value.slice a n c).ownBlock=some b:=(gL _ a n c rfl).symm.trans h
theorem Sim.free {aw:List Ob} {σ:List Value} {w:World} {F:Nat->Prop} (h:Sim aw σ w F) {b:Nat} (hb:Dof aw σ b):¬ F b:=by
 obtain ⟨k,o,v,ho,hl,hv,hbk⟩:=hb;have hr:=h.obj k o v ho hv;cases o with
 | dead=>simp [Ob.live] at hl
 | box cs =>
  obtain ⟨g,vs,ty,rfl,_,_,_,hf⟩:=hr;grind [Bk,blk]
 | arr e size rows =>
  obtain ⟨flat,_,_,hf,a,n,c,rfl⟩:=hr;exact hf _ hbk.slice_inv
 | mp ks vs =>
  obtain ⟨g,es,clock,rfl,_,_,_,hf,_⟩:=hr;grind [Bk,blk]
 | arrU e size rows x =>
  obtain ⟨g,C,flat,rfl,_,_,_,hf⟩:=hr;grind [Bk,blk]
 | boxB t cs =>
  obtain ⟨g,vs,rfl,_,_,_,hf⟩:=hr;grind [Bk,blk]
 | hd e k2 =>
  obtain ⟨us,_,_,⟨a,n,c,rfl⟩,_,hf⟩:=hr;exact hf _ ((gL _ a n c rfl).symm.trans hbk)
 | cl e size cells =>
  obtain ⟨us,rfl,_,hc,_⟩:=hr;obtain ⟨us',e1,i,rows,x,h2,h3,h4⟩:=hbk;have:=pY e1;subst this;obtain ⟨flat,_,_,h5,_⟩:=hc i _ x h2 h3;exact h5 b h4
theorem Sim.lt_own {aw:List Ob} {σ:List Value} {w:World} {F:Nat->Prop} (h:Sim aw σ w F) {b:Nat} (hb:Dof aw σ b):b<w.heap.size:=by
 obtain ⟨k,o,v,ho,hl,hv,hbk⟩:=hb;have hr:=h.obj k o v ho hv;cases o with
 | dead=>simp [Ob.live] at hl
 | box cs =>
  obtain ⟨g,vs,ty,rfl,hg,_⟩:=hr;grind [Bk,blk]
 | arr e size rows =>
  obtain ⟨flat,ho,_,_,a,n,c,rfl⟩:=hr;exact (ho.lt _ hbk.slice_inv).2
 | mp ks vs =>
  obtain ⟨g,es,clock,rfl,hg,_⟩:=hr;grind [Bk,blk]
 | arrU e size rows x =>
  obtain ⟨g,C,flat,rfl,_,hown,_,_⟩:=hr;simp [Bk,blk] at hbk;subst hbk;exact (hown.lt _ rfl).2
 | boxB t cs =>
  obtain ⟨g,vs,rfl,hg,_⟩:=hr;grind [Bk,blk]
 | hd e k2 =>
  obtain ⟨us,_,hown,⟨a,n,c,rfl⟩,_,_⟩:=hr;exact (hown.lt _ ((gL _ a n c rfl).symm.trans hbk)).2
 | cl e size cells =>
  obtain ⟨us,rfl,_,hc,_⟩:=hr;obtain ⟨us',e1,i,rows,x,h2,h3,h4⟩:=hbk;have:=pY e1;subst this;obtain ⟨flat,h5,_⟩:=hc i _ x h2 h3;exact (h5.lt _ h4).2
theorem ll {α:Type}:∀ (a:Ask α) (w:World),w.drawn<=(w.ask a).2.drawn
 | .done a,w=>zP _
 | .ask what range k,w=>by
  unfold World.ask;simp only;split
  ·exact ll (k 0) w
  ·exact AF (Nat.le_succ w.drawn) (ll (k _) { w with drawn:=w.drawn+1 })
theorem tC (w:World) (c:Sys):w.drawn<=(w.sys c).2.drawn:=by unfold World.sys;have:=ll (Kernel.perform c w.os) w;grind
theorem tZ {p:Program} {w:World} {a:Addr} {v:Value} {b:Bool} {r:World × List Addr} (h:w.farStore p a v b=.ok r):r.1.drawn=w.drawn:=by
 unfold World.farStore at h;split at h
 ·split at h
  ·rename_i hv;injection h with h
   subst h;unfold World.viewStore at hv;simp only [bind,Except.bind,pure,Except.pure] at hv;(repeat' split at hv)<;>first | (cases hv;done) | (injection hv with hv;subst hv;rfl)
  ·cases h
 ·cases h
theorem tB {α:Type} {P:Program} (m:Sem α):∀ {w:World} {v:α} {w':World},m.run P w=.ok v w'->w.drawn<=w'.drawn:=by
 induction m with
 | pure a=>simp
 | load m a k ih =>
  grind [Sem.run]
 | store m a u k ih =>
  intro w v w' h;cases u with
  | agg _=>grind [Sem.run]
  | tuple _=>grind [Sem.run]
  | _ =>
   simp only [Sem.run] at h;split at h
   ·split at h
    ·cases h
    ·exact ih (w:=w.setCell a _) h
   ·split at h
    ·rename_i hf;have h1:=tZ hf;grind
    ·cases h
 | new o k ih=>grind [Sem.run]
 | shape r k ih=>grind [Sem.run]
 | freeze a n k ih =>
  grind [Sem.run,World.freeze]
 | frozen a k ih=>grind [Sem.run]
 | getObj r k ih =>
  grind [Sem.run]
 | setObj r o k ih =>
  grind [Sem.run]
 | choose q k ih =>
  intro w v w' h;simp only [Sem.run] at h;grind
 | sys c k ih =>
  grind [Sem.run,tC]
 | program k ih=>grind [Sem.run]
 | mark m k ih=>assumption
 | _=>simp
def dn (_:World):Nat:=0
theorem ly {α:Type} {P:Program} (m:Sem α) {w:World} {v:α} {w':World} (h:m.run P w=.ok v w'):dn w<=dn w':=by
 first
 | exact tB m h
 | exact zP _
def Drw (w w':World):Prop:=w'.output=w.output/\dn w<=dn w'
theorem drO {w w':World} (h:w'.output=w.output:=by rfl) (h2:dn w<=dn w':=by first | exact zP _ | exact Nat.le_succ _ | exact Nat.le_add_right _ _):Drw w w':=⟨h,h2⟩
structure Mv (aw:List Ob) (σ:List Value) (w:World) (F:Nat->Prop) (aw':List Ob) (σ':List Value) (w':World) (F':Nat->Prop):Prop where
 os:w'.os=w.os
 tape:w'.tape=w.tape
 output:Drw w w'
 size:w.heap.size<=w'.heap.size
 keep:∀ b,b<w.heap.size->¬ Dof aw σ b->w'.heap[b]?=w.heap[b]?
 pre:∀ (i:Nat) v,σ[i]?=some v->σ'[i]?=some v
 sub:∀ b,F b->F' b
 sup:∀ b,F' b->F b∨Dof aw σ b∨w.heap.size<=b
 own:∀ b,Dof aw' σ' b->Dof aw σ b∨w.heap.size<=b
theorem Mv.refl (aw:List Ob) (σ:List Value) (w:World) (F:Nat->Prop):Mv aw σ w F aw σ w F :=
 ⟨rfl,rfl,drO,zP _,fun _ _ _=>rfl,fun _ _ h=>h,fun _ h=>h,fun _ h=>.inl h,fun _ h=>.inl h⟩
theorem Mv.trans {aw aw1 aw2:List Ob} {σ σ1 σ2:List Value} {w w1 w2:World} {F F1 F2:Nat->Prop} (h:Mv aw σ w F aw1 σ1 w1 F1) (k:Mv aw1 σ1 w1 F1 aw2 σ2 w2 F2) :
  Mv aw σ w F aw2 σ2 w2 F2:=by
 refine ⟨k.os.trans h.os,k.tape.trans h.tape,⟨k.output.1.trans h.output.1,AF h.output.2 k.output.2⟩,AF h.size k.size,fun b hb hd=>?_,fun i v hv=>k.pre i v (h.pre i v hv),fun b hb=>k.sub b (h.sub b hb),fun b hb=>?_,fun b hb=>?_⟩
 ·rw [k.keep b (zX hb h.size) (fun hd1=>(h.own b hd1).elim hd (fun hge=>by omega))]
  exact h.keep b hb hd
 ·rcases k.sup b hb with h1 | h1 | h1
  ·exact h.sup b h1
  ·exact .inr (h.own b h1)
  ·exact .inr (.inr (AF h.size h1))
 ·rcases k.own b hb with h1 | h1
  ·exact h.own b h1
  ·exact .inr (AF h.size h1)
theorem Mv.same {aw aw':List Ob} {σ σ':List Value} {w w':World} {F F':Nat->Prop} (h:Mv aw σ w F aw' σ' w' F') (hs:Sim aw σ w F):∀ b,F b->w'.heap[b]?=w.heap[b]? :=
 fun b hb=>h.keep b (hs.lt b hb) (fun hd=>hs.free hd hb)
theorem Mv.rel {aw aw':List Ob} {σ σ':List Value} {w w':World} {F F':Nat->Prop} (h:Mv aw σ w F aw' σ' w' F') (hs:Sim aw σ w F) {a:AV} {v:Value} (hr:Rel σ w F a v):Rel σ' w' F' a v :=
 hr.mono h.pre h.sub (h.same hs)
theorem Mv.relL {aw aw':List Ob} {σ σ':List Value} {w w':World} {F F':Nat->Prop} (h:Mv aw σ w F aw' σ' w' F') (hs:Sim aw σ w F) {as₀:List AV} {vs:List Value} (hr:RelL σ w F as₀ vs):RelL σ' w' F' as₀ vs :=
 hr.mono h.pre h.sub (h.same hs)
theorem Mv.aRel {aw aw':List Ob} {σ σ':List Value} {w w':World} {F F':Nat->Prop} (h:Mv aw σ w F aw' σ' w' F') (hs:Sim aw σ w F) {fr:List AV} {a:Act} (hr:ARel σ w F fr a):ARel σ' w' F' fr a :=
 ⟨h.relL hs hr.1,hr.2⟩
theorem FlatRel.mono {σ σ':List Value} {w w':World} {F F':Nat->Prop} {size:Nat} {rows:List (List AV)} {flat:List Value} (h:FlatRel σ w F size rows flat)
  (hσ:∀ (i:Nat) v,σ[i]?=some v->σ'[i]?=some v) (hF:∀ b,F b->F' b) (hw:∀ b,F b->w'.heap[b]?=w.heap[b]?):FlatRel σ' w' F' size rows flat :=
 ⟨h.1,h.2.1,h.2.2.mono hσ hF hw⟩
theorem ke {w w':World} {e size n:Nat} {v:Value} {xs:List Value} (h:w.ownsRow 0 e size v n xs) (hb:∀ b,v.ownBlock=some b->w'.heap[b]?=w.heap[b]?):w'.ownsRow 0 e size v n xs:=by
 refine ⟨h.1,?_⟩;rcases h.2 with h2 | ⟨g,cap,cur,hv,h0,hh,r⟩
 ·exact .inl h2
 ·exact .inr ⟨g,cap,cur,hv,h0,by rw [hb g (by rw [hv];rfl)];exact hh,r⟩
theorem CellRel.mono {σ σ':List Value} {w w':World} {F F':Nat->Prop} {e2 size:Nat} {c:Cell} {x:Value} (h:CellRel σ w F e2 size c x)
  (hσ:∀ (i:Nat) v,σ[i]?=some v->σ'[i]?=some v) (hF:∀ b,F b->F' b) (hw:∀ b,F b->w'.heap[b]?=w.heap[b]?)
  (hb:∀ rows,c=.own rows->∀ b,x.ownBlock=some b->w'.heap[b]?=w.heap[b]?/\¬ F' b):CellRel σ' w' F' e2 size c x:=by
 cases c with
 | own rows =>
  obtain ⟨flat,h1,h2,h3,h4⟩:=h
  exact ⟨flat,ke h1 (fun b hb'=>(hb rows rfl b hb').1),h2.mono hσ hF hw,fun g hg=>(hb rows rfl g hg).2,h4⟩
 | fz rows=>exact Rel.mono hσ hF hw h
 | hole=>trivial
theorem ORel.mono {σ σ':List Value} {w w':World} {F F':Nat->Prop} {o:Ob} {v:Value} (h:ORel σ w F o v)
  (hσ:∀ (i:Nat) v,σ[i]?=some v->σ'[i]?=some v) (hF:∀ b,F b->F' b) (hw:∀ b,F b->w'.heap[b]?=w.heap[b]?)
  (hb:o.live=true->∀ b,Bk o v b->w'.heap[b]?=w.heap[b]?/\¬ F' b):ORel σ' w' F' o v:=by
 cases o with
 | dead=>trivial
 | box cs =>
  obtain ⟨g,vs,ty,rfl,hg,hr,h1,hf⟩:=h
  obtain ⟨e1,e2⟩:=hb rfl g rfl
  exact ⟨g,vs,ty,rfl,e1.trans hg,hr.mono hσ hF hw,h1,e2⟩
 | arr e size rows =>
  obtain ⟨flat,ho,hfl,hf,a,n,c,rfl⟩:=h
  exact ⟨flat,ke ho (fun b h=>(hb rfl b (.slice h)).1),hfl.mono hσ hF hw,fun g hg=>(hb rfl g (.slice hg)).2,a,n,c,rfl⟩
 | mp ks vs =>
  obtain ⟨g,es,clock,rfl,hg,hk,hv,hf,hbo⟩:=h
  obtain ⟨e1,e2⟩:=hb rfl g rfl
  exact ⟨g,es,clock,rfl,e1.trans hg,hk.mono hσ hF hw,hv.mono hσ hF hw,e2,hbo⟩
 | boxB t cs =>
  obtain ⟨g,vs,rfl,hg,hr,h1,hf⟩:=h
  obtain ⟨e1,e2⟩:=hb rfl g rfl
  exact ⟨g,vs,rfl,e1.trans hg,hr.mono hσ hF hw,h1,e2⟩
 | arrU e size rows x =>
  obtain ⟨g,C,flat,rfl,h1,hown,hfl,hf⟩:=h
  exact ⟨g,C,flat,rfl,h1,ke hown (fun b hb'=>(hb rfl b (by assumption)).1),hfl.mono hσ hF hw,(hb rfl g rfl).2⟩
 | hd e k2 =>
  obtain ⟨us,h1,hown,⟨a,n,c,rfl⟩,hone,hf⟩:=h
  exact ⟨us,hσ _ _ h1,ke hown (fun b h=>(hb rfl b ((gL _ a n c rfl).trans h)).1),⟨a,n,c,rfl⟩,hone,fun g hg=>(hb rfl g ((gL _ a n c rfl).trans hg)).2⟩
 | cl e size cells =>
  obtain ⟨us,rfl,hl,hc,hd⟩:=h
  exact ⟨us,rfl,hl,fun i c x h1 h2=>(hc i c x h1 h2).mono hσ hF hw (fun rows e b h3=>hb rfl b ⟨us,rfl,i,rows,x,by rw [h1,e],h2,h3⟩),hd⟩
theorem Sim.grow {aw:List Ob} {σ:List Value} {w w':World} {F F':Nat->Prop} (h:Sim aw σ w F) (hF:∀ b,F b->F' b) (hsup:∀ b,F' b->F b∨w.heap.size<=b) (hlt:∀ b,F' b->b<w'.heap.size)
  (hk:∀ b,b<w.heap.size->w'.heap[b]?=w.heap[b]?):Sim aw σ w' F':=by
 refine ⟨h.len,fun k o v ho hv=>?_,h.sep,hlt,h.gd.mono hF fun b hb=>hk b (h.lt b hb)⟩
 refine (h.obj k o v ho hv).mono (fun _ _ e=>e) hF (fun b hb=>hk b (h.lt b hb)) (fun hl b hb=>?_)
 have hd:Dof aw σ b:=⟨k,o,v,ho,hl,hv,hb⟩
 refine ⟨hk b (h.lt_own hd),fun hf=>?_⟩
 rcases hsup b hf with h1 | h1
 ·exact h.free hd h1
 ·have:=h.lt_own hd;omega
theorem Mv.grow {aw:List Ob} {σ:List Value} {w w':World} {F F':Nat->Prop} (hF:∀ b,F b->F' b) (hsup:∀ b,F' b->F b∨w.heap.size<=b)
  (hos:w'.os=w.os) (ht:w'.tape=w.tape) (ho:Drw w w') (hs:w.heap.size<=w'.heap.size)
  (hk:∀ b,b<w.heap.size->w'.heap[b]?=w.heap[b]?):Mv aw σ w F aw σ w' F' :=
 ⟨hos,ht,ho,hs,fun b hb _=>hk b hb,fun _ _ h=>h,hF,fun b hb=>(hsup b hb).imp id .inr,fun _ h=>.inl h⟩
theorem Sim.drew {aw:List Ob} {σ:List Value} {w:World} {F:Nat->Prop} (h:Sim aw σ w F):Sim aw σ w.drew F:=h.grow (fun _ h=>h) (fun _ h=>.inl h) h.lt (fun _ _=>rfl)
theorem Mv.drew {aw:List Ob} {σ:List Value} {w:World} {F:Nat->Prop}:Mv aw σ w F aw σ w.drew F:=.grow (fun _ h=>h) (fun _ h=>.inl h) rfl rfl drO (zP _) (fun _ _=>rfl)
def plus (F:Nat->Prop) (n b:Nat):Prop:=F b∨b=n
theorem Sim.fresh {aw:List Ob} {σ:List Value} {w:World} {F:Nat->Prop} (h:Sim aw σ w F) (o:Obj):Sim aw σ (w.alloc o) (plus F w.heap.size):=by
 refine h.grow (fun _ h=>.inl h) (fun b hb=>hb.imp id (fun e=>by omega)) (fun b hb=>?_) (fun b hb=>Below.heap_alloc w o b hb);rcases hb with hb | rfl
 ·have:=h.lt b hb;simp;omega
 ·simp
theorem Mv.fresh {aw:List Ob} {σ:List Value} {w:World} {F:Nat->Prop} (o:Obj):Mv aw σ w F aw σ (w.alloc o) (plus F w.heap.size) :=
 .grow (fun _ h=>.inl h) (fun b hb=>hb.imp id (fun e=>by omega)) rfl rfl drO (by simp) (fun b hb=>Below.heap_alloc w o b hb)
theorem cN {α:Type} {l:List α} {x y:α} {k:Nat} (h:(l++[x])[k]?=some y):l[k]?=some y∨(k=l.length/\y=x):=by grind
theorem cj {α:Type} {l:List α} {x y:α} {k:Nat} (h:l[k]?=some y):(l++[x])[k]?=some y:=by grind
theorem Sim.push {aw:List Ob} {σ:List Value} {w w':World} {F:Nat->Prop} (h:Sim aw σ w F) (o:Ob) (v:Value)
  (hk:∀ b,b<w.heap.size->w'.heap[b]?=w.heap[b]?) (hs:w.heap.size<=w'.heap.size) (ho:ORel (σ++[v]) w' F o v) (hnew:∀ b,Bk o v b->w.heap.size<=b) :
  Sim (aw++[o]) (σ++[v]) w' F:=by
 have h':Sim aw σ w' F:=h.grow (fun _ h=>h) (fun _ h=>.inl h) (fun b hb=>zX (h.lt b hb) hs) hk
 refine ⟨by simp [h.len],fun k o1 v1 ho1 hv1=>?_,fun k k' o1 o2 v1 v2 g hne ho1 ho2 hl1 hl2 hv1 hv2 hb1 hb2=>?_,h'.lt,h'.gd⟩
 ·rcases cN ho1 with h1 | ⟨rfl,rfl⟩
  ·have hv1':σ[k]?=some v1:=by
    have hlt:=(zK.1 h1).1;rw [zS (by rw [h.len];exact hlt)] at hv1;exact hv1
   exact (h'.obj k o1 v1 h1 hv1').mono (fun _ _ e=>cj e) (fun _ e=>e) (fun _ _=>rfl) (fun hl b hb=>⟨rfl,h'.free ⟨k,o1,v1,h1,hl,hv1',hb⟩⟩)
  ·rw [<- h.len] at hv1
   grind
 ·have old:∀ (k:Nat) o1 v1,aw[k]?=some o1->(σ++[v])[k]?=some v1->σ[k]?=some v1:=fun k o1 v1 h1 hv1=>by
   have hlt:=(zK.1 h1).1;rw [zS (by rw [h.len];exact hlt)] at hv1;exact hv1
  have last:∀ (k:Nat) v1,k=aw.length->(σ++[v])[k]?=some v1->v1=v:=fun k v1 e hv1=>by rw [e,<- h.len] at hv1;grind
  rcases cN ho1 with h1 | ⟨e1,rfl⟩
  ·rcases cN ho2 with h2 | ⟨e2,rfl⟩
   ·exact h.sep k k' o1 o2 v1 v2 g hne h1 h2 hl1 hl2 (old _ _ _ h1 hv1) (old _ _ _ h2 hv2) hb1 hb2
   ·have:=last _ _ e2 hv2;subst this
    have hlt:=h.lt_own ⟨k,o1,v1,h1,hl1,old _ _ _ h1 hv1,hb1⟩
    grind
  ·have:=last _ _ e1 hv1;subst this
   rcases cN ho2 with h2 | ⟨e2,rfl⟩
   ·have hlt:=h.lt_own ⟨k',o2,v2,h2,hl2,old _ _ _ h2 hv2,hb2⟩
    grind
   omega
theorem Mv.push {aw:List Ob} {σ:List Value} {w w':World} {F:Nat->Prop} (h:Sim aw σ w F) (o:Ob) (v:Value)
  (hos:w'.os=w.os) (ht:w'.tape=w.tape) (hou:Drw w w')
  (hk:∀ b,b<w.heap.size->w'.heap[b]?=w.heap[b]?) (hs:w.heap.size<=w'.heap.size) (hnew:∀ b,Bk o v b->w.heap.size<=b) :
  Mv aw σ w F (aw++[o]) (σ++[v]) w' F:=by
 refine ⟨hos,ht,hou,hs,fun b hb _=>hk b hb,fun i u hu=>cj hu,fun _ h=>h,fun _ h=>.inl h,fun b hb=>?_⟩
 obtain ⟨k,o1,v1,ho1,hl,hv1,hb1⟩:=hb
 rcases cN ho1 with h1 | ⟨rfl,rfl⟩
 ·have hlt:=(zK.1 h1).1
  rw [zS (by rw [h.len];exact hlt)] at hv1
  exact .inl ⟨k,o1,v1,h1,hl,hv1,hb1⟩
 ·rw [<- h.len] at hv1
  grind
theorem c6 {α:Type} {l:List α} {x y:α} {id k:Nat} (h:(l.set id x)[k]?=some y):(k=id/\y=x/\id<l.length)∨(k≠id/\l[k]?=some y):=by grind
theorem Sim.drop {aw:List Ob} {σ:List Value} {w:World} {F:Nat->Prop} (h:Sim aw σ w F) (id:Nat) {o:Ob} {v:Value} (ho:aw[id]?=some o) (hl:o.live=true) (hv:σ[id]?=some v) :
  Sim (aw.set id .dead) σ w (fun b=>F b∨Bk o v b):=by
 refine ⟨by simp [h.len],fun k o1 v1 ho1 hv1=>?_,fun k k' o1 o2 v1 v2 g hne ho1 ho2 hl1 hl2 hv1 hv2 hb1 hb2=>?_,fun b hb=>?_,h.gd.mono (fun _=>.inl) fun _ _=>rfl⟩
 ·rcases c6 ho1 with ⟨rfl,rfl,_⟩ | ⟨hne,h1⟩
  ·trivial
  ·refine (h.obj k o1 v1 h1 hv1).mono (fun _ _ e=>e) (fun _ e=>.inl e) (fun _ _=>rfl) (fun hl1 b hb=>⟨rfl,fun hf=>?_⟩)
   rcases hf with hf | hf
   ·exact h.free ⟨k,o1,v1,h1,hl1,hv1,hb⟩ hf
   ·exact h.sep k id o1 o v1 v b hne h1 ho hl1 hl hv1 hv hb hf
 ·rcases c6 ho1 with ⟨rfl,rfl,_⟩ | ⟨_,h1⟩
  ·assumption
  ·rcases c6 ho2 with ⟨rfl,rfl,_⟩ | ⟨_,h2⟩
   ·assumption
   ·exact h.sep k k' o1 o2 v1 v2 g hne h1 h2 hl1 hl2 hv1 hv2 hb1 hb2
 ·rcases hb with hb | hb
  ·exact h.lt b hb
  ·exact h.lt_own ⟨id,o,v,ho,hl,hv,hb⟩
theorem Dof.set_dead {aw:List Ob} {σ:List Value} {id b:Nat} (h:Dof (aw.set id .dead) σ b):Dof aw σ b:=by
 obtain ⟨k,o,v,ho,hl,hv,hb⟩:=h;rcases c6 ho with ⟨rfl,rfl,_⟩ | ⟨_,h1⟩
 ·simp [Ob.live] at hl
 ·exact ⟨k,o,v,h1,hl,hv,hb⟩
theorem Mv.drop {aw:List Ob} {σ:List Value} {w:World} {F:Nat->Prop} (id:Nat) {o:Ob} {v:Value} (ho:aw[id]?=some o) (hl:o.live=true) (hv:σ[id]?=some v) :
  Mv aw σ w F (aw.set id .dead) σ w (fun b=>F b∨Bk o v b) :=
 ⟨rfl,rfl,drO,zP _,fun _ _ _=>rfl,fun _ _ h=>h,fun _ h=>.inl h,fun b hb=>hb.imp (fun h=>h) (fun e=>.inl ⟨id,o,v,ho,hl,hv,e⟩),fun _ h=>.inl h.set_dead⟩
theorem Sim.lose {aw:List Ob} {σ:List Value} {w:World} {F:Nat->Prop} (h:Sim aw σ w F) (id:Nat):Sim (aw.set id .dead) σ w F:=by
 refine ⟨by simp [h.len],fun k o1 v1 ho1 hv1=>?_,fun k k' o1 o2 v1 v2 g hne ho1 ho2 hl1 hl2 hv1 hv2 hb1 hb2=>?_,h.lt,h.gd⟩
 ·rcases c6 ho1 with ⟨rfl,rfl,_⟩ | ⟨hne,h1⟩
  ·trivial
  ·exact h.obj k o1 v1 h1 hv1
 ·rcases c6 ho1 with ⟨rfl,rfl,_⟩ | ⟨_,h1⟩
  ·assumption
  ·rcases c6 ho2 with ⟨rfl,rfl,_⟩ | ⟨_,h2⟩
   ·assumption
   ·exact h.sep k k' o1 o2 v1 v2 g hne h1 h2 hl1 hl2 hv1 hv2 hb1 hb2
theorem Sim.write {aw:List Ob} {σ:List Value} {w w':World} {F:Nat->Prop} (h:Sim aw σ w F) (id:Nat) {o:Ob} {v:Value} {b0:Nat} (ho:aw[id]?=some o) (hl:o.live=true) (hv:σ[id]?=some v) (hb0:Bk o v b0)
  (hk:∀ b,b≠b0->w'.heap[b]?=w.heap[b]?) (hs:w'.heap.size=w.heap.size) (o':Ob) (ho':ORel σ w' F o' v) (hsub:∀ b,Bk o' v b->Bk o v b):Sim (aw.set id o') σ w' F:=by
 have hF:∀ b,F b->w'.heap[b]?=w.heap[b]?:=fun b hb=>hk b (fun e=>h.free ⟨id,o,v,ho,hl,hv,hb0⟩ (e▸hb))
 refine ⟨by simp [h.len],fun k o1 v1 ho1 hv1=>?_,fun k k' o1 o2 v1 v2 g hne ho1 ho2 hl1 hl2 hv1 hv2 hb1 hb2=>?_,fun b hb=>by rw [hs];exact h.lt b hb,h.gd.mono (fun _ hb=>hb) hF⟩
 ·rcases c6 ho1 with ⟨rfl,rfl,_⟩ | ⟨hne,h1⟩
  ·grind
  ·refine (h.obj k o1 v1 h1 hv1).mono (fun _ _ e=>e) (fun _ e=>e) hF (fun hl1 b hb=>⟨hk b (fun e=>?_),h.free ⟨k,o1,v1,h1,hl1,hv1,hb⟩⟩)
   subst e
   exact h.sep k id o1 o v1 v b hne h1 ho hl1 hl hv1 hv hb hb0
 ·have un:∀ (k:Nat) o1 v1,(aw.set id o')[k]?=some o1->o1.live=true->σ[k]?=some v1->∃ o2,aw[k]?=some o2/\o2.live=true/\∀ b,Bk o1 v1 b->Bk o2 v1 b:=fun k o1 v1 h1 hl1 hv1=>by
   grind
  obtain ⟨p1,q1,r1,z1⟩:=un k o1 v1 ho1 hl1 hv1
  obtain ⟨p2,q2,r2,z2⟩:=un k' o2 v2 ho2 hl2 hv2
  exact h.sep k k' p1 p2 v1 v2 g hne q1 q2 r1 r2 hv1 hv2 (z1 _ hb1) (z2 _ hb2)
theorem Mv.write {aw:List Ob} {σ:List Value} {w w':World} {F:Nat->Prop} (id:Nat) {o:Ob} {v:Value} {b0:Nat} (ho:aw[id]?=some o) (hl:o.live=true) (hv:σ[id]?=some v) (hb0:Bk o v b0)
  (hos:w'.os=w.os) (ht:w'.tape=w.tape) (hou:Drw w w')
  (hk:∀ b,b≠b0->w'.heap[b]?=w.heap[b]?) (hs:w'.heap.size=w.heap.size) (o':Ob) (hsub:∀ b,Bk o' v b->Bk o v b):Mv aw σ w F (aw.set id o') σ w' F:=by
 refine ⟨hos,ht,hou,by omega,fun b _ hd=>hk b (fun e=>hd (e▸⟨id,o,v,ho,hl,hv,hb0⟩)),fun _ _ h=>h,fun _ h=>h,fun _ h=>.inl h,fun b hb=>.inl ?_⟩
 obtain ⟨k,o1,v1,ho1,hl1,hv1,hb1⟩:=hb
 rcases c6 ho1 with ⟨rfl,rfl,_⟩ | ⟨_,h2⟩
 ·rw [hv] at hv1;cases hv1;exact ⟨_,o,v,ho,hl,hv,hsub b hb1⟩
 ·exact ⟨k,o1,v1,h2,hl1,hv1,hb1⟩
structure St where
 aw:List Ob
 σ:List Value
 w:World
 F:Nat->Prop
 ds:List Deferred
structure Cur (s:St) (fr:List AV) (aw:List Ob) (σ:List Value) (w:World) (F:Nat->Prop) (a:Act):Prop where
 sim:Sim aw σ w F
 fr:ARel σ w F fr a
 mv:Mv s.aw s.σ s.w s.F aw σ w F
 ds:a.defers=s.ds
theorem Cur.step {s:St} {fr:List AV} {aw aw':List Ob} {σ σ':List Value} {w w':World} {F F':Nat->Prop} {a:Act} (h:Cur s fr aw σ w F a) (hs:Sim aw' σ' w' F') (hm:Mv aw σ w F aw' σ' w' F') :
 Cur s fr aw' σ' w' F' a:=⟨hs,hm.aRel h.sim h.fr,h.mv.trans hm,h.ds⟩
theorem Cur.put {s:St} {fr:List AV} {aw:List Ob} {σ:List Value} {w:World} {F:Nat->Prop} {a:Act} (h:Cur s fr aw σ w F a) {r:AV} {v:Value} (hr:Rel σ w F r v) (d:Option Tmp) :
 Cur s (match d with | some t=>fr.set t r | none=>fr) aw σ w F (a.put d v):=⟨h.sim,h.fr.put hr d,h.mv,by cases d<;>exact h.ds⟩
end
section
open Go.RowKit
def bM (P:Program) (t:TypeId):Option Bool:=(P.underlying t).map fun | .struct _ | .array _ _=>true | _=>false
def aq (P:Program) (t:TypeId):Option (List AV) :=
 ((P.info? t).bind (·.zero)).bind fun v=>if v.cells.toList.all (·.oneCell') then some (v.cells.toList.map AV.ofVal1) else none
def AV.cells:AV->Option (List AV)
 | .any | .tup _=>none
 | .agg cs=>some cs
 | .cst v=>if v.oneCell'=true then some [.cst v] else none
 | a=>some [a]
def splice (cs:List AV) (off:Nat) (vs:List AV):List AV:=cs.take off++vs++cs.drop (off+vs.length)
def pickV (t:Bool) (a b:AV):AV :=
 match a,b with
 | .bool x,.bool y=>.bool (if t then x else y)
 | .int k x,.int k' y=>if k=k' then .int k (if t then x else y) else if t then .int k x else .int k' y
 | a,b=>if t then a else b
def aV (P:Program) (t:TypeId) (row:List AV) (off:Nat) (K:AV->Prop):Prop :=
 match bM P t with
 | some true=>off+P.cellsOf t<=row.length/\K (.agg ((row.drop off).take (P.cellsOf t)))
 | some false=>(match row[off]? with | some c=>K c | none=>False)
 | none=>False
def bB (aw:List Ob):AV->AV × List Ob
 | .nils=>(.sl [],aw)
 | .ref id=>(match aw[id]? with | some (.arr _ _ rows)=>(.sl rows,aw.set id .dead) | _=>(.any,aw))
 | a=>(a,aw)
def norm0L (aw:List Ob):List AV->List AV × List Ob
 | []=>([],aw)
 | a::as₀=>let r:=bB aw a;let s:=norm0L r.2 as₀;(r.1::s.1,s.2)
def norm (aw:List Ob):AV->AV × List Ob
 | .agg cs=>(.agg (norm0L aw cs).1,(norm0L aw cs).2)
 | a=>bB aw a
def bA (aw:List Ob):List AV->List AV × List Ob
 | []=>([],aw)
 | a::as₀=>let r:=norm aw a;let s:=bA r.2 as₀;(r.1::s.1,s.2)
def xx:List AV->Bool
 | [.int .u8 _]=>true
 | _=>false
def pP:List AV->UInt8
 | [.int .u8 n]=>UInt8.ofNat n.toNat
 | _=>0
def iX:List AV->List AV->Option Bool
 | [],[]=>some true
 | .int _ a::l,.int _ b::m=>(iX l m).map fun r=>a==b && r
 | .str a::l,.str b::m=>(iX l m).map fun r=>a==b && r
 | .bool a::l,.bool b::m=>(iX l m).map fun r=>a==b && r
 | _,_=>none
def intBits (op:BinOp) (k:IntKind) (x y:Int):Int :=
 let a:=BitVec.ofInt k.bits x
 let b:=BitVec.ofInt k.bits y
 match op with
 | .and=>k.wrap (a &&& b).toNat
 | .or=>k.wrap (a ||| b).toNat
 | .xor=>k.wrap (a ^^^ b).toNat
 | _=>0
def AV.kd:AV->Nat
 | .int .i64 _=>1
 | .str _=>2
 | .bool _=>3
 | _=>0
def pt (P:Program) (t:TypeId) (ks:List Nat):Prop :=
 P.eqGuardType P.depth t=false/\∀ (σ:List Value) (w:World) (F:Nat->Prop) (x y:List AV) (vx vy:List Value) (r:Bool),x.map AV.kd=ks->y.map AV.kd=ks ->
  iX x y=some r->RelL σ w F x vx->RelL σ w F y vy->∀ w',(Op.equal t (.agg vx.toArray) (.agg vy.toArray)).run P w'=.ok r w'
def vcBin (P:Program) (op:BinOp) (t:TypeId) (a b:AV) (K:AV->Prop):Prop :=
 match a,b with
 | .int k x,.int k' y =>
  (match op with
  | .add=>k=k'/\K (.int k (k.wrap (x+y)))
  | .sub=>k=k'/\K (.int k (k.wrap (x - y)))
  | .mul=>k=k'/\K (.int k (k.wrap (x*y)))
  | .quo=>k=k'/\y≠0/\K (.int k (k.wrap (x.tdiv y)))
  | .rem=>k=k'/\y≠0/\K (.int k (x.tmod y))
  | .and=>k=k'/\K (.int k (intBits .and k x y))
  | .or=>k=k'/\K (.int k (intBits .or k x y))
  | .xor=>k=k'/\K (.int k (intBits .xor k x y))
  | .shl=>0<=y/\K (.int k (k.wrap (x*2 ^ (min y.toNat k.bits))))
  | .shr=>0<=y/\K (.int k (x.fdiv (2 ^ (min y.toNat k.bits))))
  | .eql=>k=k'/\K (.bool (x==y))
  | .neq=>k=k'/\K (.bool (x != y))
  | .lss=>k=k'/\K (.bool (decide (x<y)))
  | .leq=>k=k'/\K (.bool (decide (x<=y)))
  | .gtr=>k=k'/\K (.bool (decide (x > y)))
  | .geq=>k=k'/\K (.bool (decide (x >= y)))
  | _=>False)
 | .str x,.str y =>
  (match op with
  | .add=>x.length+y.length<=4611686018427387904/\K (.str (x++y))
  | .eql=>K (.bool (x==y))
  | .neq=>K (.bool (!(x==y)))
  | _=>False)
 | .bool x,.bool y =>
  (match op,P.underlying t with
  | .eql,some .bool=>K (.bool (x==y))
  | .neq,some .bool=>K (.bool (!(x==y)))
  | _,_=>False)
 | .nils,.nils=>(match op,P.underlying t with | .eql,some (.slice _)=>K (.bool true) | .neq,some (.slice _)=>K (.bool false) | _,_=>False)
 | .sl rows,.nils =>
  (match op,P.underlying t with
  | .eql,some (.slice _)=>∀ z:Bool,(z=true->rows=[])->K (.bool z)
  | .neq,some (.slice _)=>∀ z:Bool,(z=false->rows=[])->K (.bool z)
  | _,_=>False)
 | .agg x,.agg y =>
  (match op,iX x y with
  | .eql,some r=>x.map AV.kd=y.map AV.kd/\pt P t (x.map AV.kd)/\K (.bool r)
  | .neq,some r=>x.map AV.kd=y.map AV.kd/\pt P t (x.map AV.kd)/\K (.bool (!r))
  | _,_=>False)
 | .func _ _,.nilf=>(match op,P.underlying t with | .eql,some (.func _ _ _)=>K (.bool false) | .neq,some (.func _ _ _)=>K (.bool true) | _,_=>False)
 | .nilf,.nilf=>(match op,P.underlying t with | .eql,some (.func _ _ _)=>K (.bool true) | .neq,some (.func _ _ _)=>K (.bool false) | _,_=>False)
 | _,_=>False
def dx (place:Nat->Option (Nat × Nat)) (cells:List AV):List (Nat × AV)->Option (List AV)
 | []=>some cells
 | (i,v)::rest =>
  match place i,v.cells with
  | some (off,size),some vs=>if vs.length=size/\off+size<=cells.length then dx place (splice cells off vs) rest else none
  | _,_=>none
def iK (P:Program) (t:TypeId):Option (List (Nat × Nat)) :=
 match P.underlying t with
 | some (.struct fs)=>fs.toList.mapM fun f=>(P.info? f.type).map fun i=>(f.offset,i.size)
 | some (.array n e)=>(P.info? e).map fun i=>(List.range n).map fun k=>(k*i.size,i.size)
 | _=>none
def f9 (P:Program) (size:Nat) (rows:List (List AV)):List (Nat × AV)->Option (List (List AV))
 | []=>some rows
 | (i,v)::rest =>
  match v.cells with
  | some vs=>if vs.length=size/\i<rows.length then f9 P size (rows.set i vs) rest else none
  | none=>none
def vcB (P:Program) (fr:List AV) (aw:List Ob) (b:Builtin) (args:List Operand) (ats:List TypeId) (K:AV->Prop):Prop :=
 match b,args,ats with
 | .len,[x],[t] =>
  (match P.underlying t,ev fr x with
  | some .string,.str s=>K (.int .i64 s.length)
  | some (.slice _),.sl rows=>K (.int .i64 rows.length)
  | some (.slice _),.nils=>K (.int .i64 0)
  | some (.slice _),.ref id=>(match aw[id]? with | some (.arr _ _ rows)=>K (.int .i64 rows.length) | _=>False)
  | _,_=>False)
 | .min,[x,y],_=>(match ev fr x,ev fr y with | .int k a,.int _ b=>K (.int k (if b<a then b else a)) | _,_=>False)
 | .max,[x,y],_=>(match ev fr x,ev fr y with | .int k a,.int _ b=>K (.int k (if b > a then b else a)) | _,_=>False)
 | _,_,_=>False
def vcQ (P:Program) (fr:List AV) (aw:List Ob) (op:Op) (K:AV->Prop):Prop :=
 match op with
 | .move x | .assign x=>K (ev fr x)
 | .pick c a b=>(match ev fr c with | .bool t=>K (pickV t (ev fr a) (ev fr b)) | _=>False)
 | .load t x =>
  (match ev fr x with
  | .ptr id off=>(match aw[id]? with | some (.box cs)=>aV P t cs off K | _=>False)
  | .elt row off=>aV P t row off K
  | _=>False)
 | .fieldAddr t x k =>
  (match P.underlying t with
  | some (.struct fs)=>(match fs[k]? with
   | some f=>P.cellsOf f.type≠0/\(P.underlying f.type).isSome=true/\(match ev fr x with
    | .ptr id off=>K (.ptr id (off+f.offset))
    | .elt row off=>K (.elt row (off+f.offset))
    | .aptr id size i off=>K (.aptr id size i (off+f.offset))
    | _=>False)
   | none=>False)
  | _=>False)
 | .field t x k =>
  (match P.underlying t,ev fr x with
  | some (.struct fs),.agg cs=>(match fs[k]? with | some f=>aV P f.type cs f.offset K | none=>False)
  | _,_=>False)
 | .indexAddr t x i =>
  (match P.underlying t,ev fr x,ev fr i with
  | some (.slice e),.sl rows,.int _ n=>0<=n/\n<rows.length/\∀ row,rows[n.toNat]?=some row->row.length=P.cellsOf e/\(P.underlying e).isSome=true/\K (.elt row 0)
  | some (.slice e),.ref id,.int _ n=>(match aw[id]? with
   | some (.arr _ size rows)=>size=P.cellsOf e/\(P.underlying e).isSome=true/\0<=n/\n<rows.length/\K (.aptr id size n.toNat 0)
   | _=>False)
  | some (.array len e),.ptr id off,.int _ n=>(P.underlying e).isSome=true/\0<=n/\n<len/\1<len/\K (.ptr id (off+n.toNat*P.cellsOf e))
  | _,_,_=>False)
 | .index t x i =>
  (match P.underlying t,ev fr x,ev fr i with
  | some .string,.str s,.int _ n=>0<=n/\n<s.length/\∀ b,s[n.toNat]?=some b->K (.int .u8 b.toNat)
  | _,_,_=>False)
 | .slice t x lo hi none =>
  (match P.underlying t,ev fr x with
  | some .string,.str s =>
   (match (lo.map (ev fr)).getD (.int .i64 0),(hi.map (ev fr)).getD (.int .i64 s.length) with
   | .int _ l,.int _ h=>0<=l/\l<=h/\h<=s.length/\K (.str ((s.take h.toNat).drop l.toNat))
   | _,_=>False)
  | some (.slice e),.sl rows =>
   (match (lo.map (ev fr)).getD (.int .i64 0),(hi.map (ev fr)).getD (.int .i64 rows.length) with
   | .int _ l,.int _ h=>(P.underlying e).isSome=true/\(∀ row,row∈rows->row.length=P.cellsOf e)/\0<=l/\l<=h/\h<=rows.length/\K (.sl ((rows.take h.toNat).drop l.toNat))
   | _,_=>False)
  | _,_=>False)
 | .binOp op t x y _=>vcBin P op t (ev fr x) (ev fr y) K
 | .unOp op _ x =>
  (match op,ev fr x with
  | .not,.bool b=>K (.bool (!b))
  | .neg,.int k n=>K (.int k (k.wrap (0 - n)))
  | _,_=>False)
 | .convert s d x =>
  (match P.underlying s,P.underlying d,ev fr x with
  | some _,some (.int k),.int _ n=>K (.int k (k.wrap n))
  | _,_,_=>False)
 | .makeFunc (.func f) first caps=>(match first.toList with
  | []=>K (.func f (caps.toList.map (ev fr)))
  | x::xs=>caps.toList=[]/\K (.bnd f ((x::xs).map (ev fr))))
 | .build t parts=>(match aq P t,iK P t with
  | some z,some pl=>(match dx (fun i=>pl[i]?) z (parts.toList.map fun p=>(p.1,ev fr p.2)) with | some cs=>K (.agg cs) | none=>False)
  | _,_=>False)
 | .extract x k=>(match ev fr x with | .tup vs=>(match vs[k]? with | some v=>K v | none=>False) | _=>False)
 | .nilCheck x=>(match ev fr x with | .ptr id off=>K (.ptr id off) | .elt row off=>K (.elt row off) | .aptr id s i off=>K (.aptr id s i off) | .func f cs=>K (.func f cs) | .bnd f cs=>K (.bnd f cs) | _=>False)
 | .call c=>(match c.callee with | .builtin b=>vcB P fr aw b c.args.toList c.argTypes.toList K | _=>False)
 | _=>False
def isQ (fr:List AV):Op->Bool
 | .move _ | .assign _ | .pick _ _ _ | .fieldAddr _ _ _ | .field _ _ _ | .indexAddr _ _ _ | .index _ _ _ | .binOp _ _ _ _ _ | .unOp _ _ _ | .makeFunc _ _ _ | .build _ _ | .extract _ _ | .nilCheck _=>true
 | .load _ x=>(match ev fr x with | .aptr _ _ _ _=>false | _=>true)
 | .slice _ x _ _ _=>(match ev fr x with | .ref _=>false | .nils=>false | _=>true)
 | .convert _ _ x=>(match ev fr x with | .int _ _=>true | _=>false)
 | .call { callee:=.builtin .len,.. } | .call { callee:=.builtin .min,.. } | .call { callee:=.builtin .max,.. }=>true
 | _=>false
def vcApp (P:Program) (fr:List AV) (aw:List Ob) (args:List Operand) (ats:List TypeId) (K:AV->List Ob->Prop):Prop :=
  match args,ats with
  | [x, y], [t,t'] =>
    t'=t/\(match P.underlying t with
    | some (.slice e)=>(match aq P e,ev fr x,norm aw (ev fr y) with
      | some z,.nils,(.sl rows,aw')=>z.length=P.cellsOf e/\0<P.cellsOf e/\(∀ row,row∈rows->row.length=P.cellsOf e)/\rows.length<=1099511627776/\P.bytesOf e<=128 /\
          K (.ref aw'.length) (aw'++[.arr e (P.cellsOf e) rows])
      | some z,.ref id,(.sl rows,aw')=>(match aw'[id]? with
        | some (.arr e' size old)=>e'=e/\size=P.cellsOf e/\z.length=P.cellsOf e/\0<P.cellsOf e/\(∀ row,row∈rows->row.length=P.cellsOf e)/\old.length+rows.length<=1099511627776/\P.bytesOf e<=128 /\
            K (.ref aw'.length) (aw'.set id .dead++[.arr e (P.cellsOf e) (old++rows)])
        | _=>False)
      | _,_,_=>False)
    | _=>False)
  | _,_=>False
def vcE (P:Program) (fr:List AV) (aw:List Ob) (op:Op) (K:AV->List Ob->Prop):Prop :=
 match op with
 | .alloc e=>(match aq P e with | some z=>K (.ptr aw.length 0) (aw++[.box z]) | none=>False)
 | .box _ x=>(match (ev fr x).cells with | some cs=>K (.ptr aw.length 0) (aw++[.box cs]) | none=>False)
 | .load t x =>
  (match ev fr x with
  | .aptr id size i off=>(match aw[id]? with
   | some (.arr _ size' rows)=>size'=size/\i<rows.length/\∀ row,rows[i]?=some row->aV P t row off fun r=>K r aw
   | _=>False)
  | _=>False)
 | .store t x y =>
  (match ev fr x,(ev fr y).cells with
  | .ptr id off,some vs=>(match aw[id]? with
   | some (.box cs)=>(P.underlying t).isSome=true/\vs.length=P.cellsOf t/\off+vs.length<=cs.length/\K .any (aw.set id (.box (splice cs off vs)))
   | _=>False)
  | .aptr id size i off,some vs=>(match aw[id]? with
   | some (.arr e size' rows)=>(P.underlying t).isSome=true/\size'=size/\vs.length=P.cellsOf t/\i<rows.length/\off+vs.length<=size /\
     ∀ row,rows[i]?=some row->K .any (aw.set id (.arr e size (rows.set i (splice row off vs))))
   | _=>False)
  | _,_=>False)
 | .slice t x lo hi none =>
  (match P.underlying t,norm aw (ev fr x) with
  | some (.slice e),(.sl rows,aw') =>
   (match (lo.map (ev fr)).getD (.int .i64 0),(hi.map (ev fr)).getD (.int .i64 rows.length) with
   | .int _ l,.int _ h=>(P.underlying e).isSome=true/\(∀ row,row∈rows->row.length=P.cellsOf e)/\0<=l/\l<=h/\h<=rows.length/\K (.sl ((rows.take h.toNat).drop l.toNat)) aw'
   | _,_=>False)
  | _,_=>False)
 | .convert s d x =>
  (match P.underlying s,P.underlying d,norm aw (ev fr x) with
  | some (.slice e),some .string,(.sl rows,aw')=>P.underlying e=some (.int .u8)/\rows.all xx=true/\K (.str (rows.map pP)) aw'
  | _,_,_=>False)
 | .buildSlice t len parts =>
  (match P.underlying t with
  | some (.slice e)=>(match aq P e with
   | some z=>z.length=P.cellsOf e/\0<P.cellsOf e/\len*P.cellsOf e<=2 ^ 24/\(match f9 P (P.cellsOf e) (List.replicate len z) ((parts.toList.map (·.1)).zip (bA aw (parts.toList.map fun p=>ev fr p.2)).1) with
    | some rows=>K (.ref (bA aw (parts.toList.map fun p=>ev fr p.2)).2.length) ((bA aw (parts.toList.map fun p=>ev fr p.2)).2++[.arr e (P.cellsOf e) rows])
    | none=>False)
   | none=>False)
  | _=>False)
 | .makeSlice t l c =>
  (match P.underlying t,ev fr l,ev fr c with
  | some (.slice e),.int _ n,.int _ m=>(match aq P e with
   | some z=>z.length=P.cellsOf e/\0<P.cellsOf e/\0<=n/\n<=m/\(n=0∨n=m)/\P.bytesOf e*m.toNat<=281474976710656/\m.toNat<=maxLen /\
     K (.ref aw.length) (aw++[.arr e (P.cellsOf e) (List.replicate n.toNat z)])
   | none=>False)
  | _,_,_=>False)
 | .call c=>(match c.callee with | .builtin .append=>vcApp P fr aw c.args.toList c.argTypes.toList K | _=>False)
 | _=>False
def vcVal (P:Program) (fr:List AV) (aw:List Ob) (op:Op) (K:AV->List Ob->Prop):Prop :=
 if isQ fr op=true then vcQ P fr aw op (fun r=>K r aw) else vcE P fr aw op K
def Agr (aw:List Ob) (σ:List Value) (w:World) (F:Nat->Prop) (w':World):Prop :=
 ∀ b,(F b∨∃ (k:Nat) (cs:List AV) (v:Value),aw[k]?=some (Ob.box cs)/\σ[k]?=some v/\blk v=some b)->w'.heap[b]?=w.heap[b]?
def QOk (P:Program) (G:World->Prop) (σ:List Value) (w:World) (F:Nat->Prop) (c:Sem Value) (K:AV->Prop):Prop :=
 ∃ v r,(∀ w',G w'->c.run P w'=.ok v w')/\Rel σ w F r v/\K r
def OpOk (P:Program) (aw:List Ob) (σ:List Value) (w:World) (F:Nat->Prop) (c:Sem Next) (K:AV->List Ob->Prop):Prop :=
 ∃ v n w' aw' σ' F' r,c.run P w=.ok n w'/\(n=.value v∨(n=.skip/\v=undef))/\Sim aw' σ' w' F'/\Mv aw σ w F aw' σ' w' F'/\Rel σ' w' F' r v/\K r aw'
theorem run_v {P:Program} {w w':World} {s:Sem Value} {v:Value} (h:s.run P w=.ok v w'):(do let x <- s;pure (Next.value x):Sem Next).run P w=.ok (.value v) w':=by simp_all
end
section
open Go.RowKit
section
variable {P:Program} {σ:List Value} {w:World} {F:Nat→Prop} {aw:List Ob}
theorem rI {t:TypeId} {d:TypeDesc} (h:P.underlying t=some d):∃ i,P.info? t=some i/\P.cellsOf t=i.size/\P.bytesOf t=i.bytes:=by grind [Program.underlying,Program.cellsOf,Program.bytesOf]
theorem cL {t:TypeId} {d:TypeDesc} (h:P.underlying t=some d) (w:World):(sizeOf t).run P w=.ok (P.cellsOf t) w:=by obtain ⟨i,hi,hs,_⟩:=rI h;simp_all [sizeOf,typeInfo]
theorem jS {t:TypeId} {b:Bool} (h:bM P t=some b):∃ d,P.underlying t=some d/\∀ w,(isAgg t).run P w=.ok b w:=by
 unfold bM at h;cases hu:P.underlying t with
 | none=>grind
 | some d =>
  refine ⟨d,rfl,fun w=>?_⟩;rw [hu] at h;unfold isAgg;rw [Sem.run_bind,run_underlying hu w];cases d<;>simp_all
theorem gK {t:TypeId} {z:List AV} (h:aq P t=some z):∃ i v,P.info? t=some i/\i.zero=some v/\v.cells.toList.length=z.length/\(∀ u,u∈v.cells.toList->u.oneCell'=true) /\
  ∀ σ w F,RelL σ w F z v.cells.toList:=by
 unfold aq at h
 cases hi:P.info? t with
 | none=>grind
 | some i =>
  rw [hi] at h
  cases hz:i.zero with
  | none=>grind
  | some v =>
   simp only [hz,zI] at h
   split at h
   ·rename_i h1
    simp at h
    subst h
    refine ⟨i,v,rfl,hz,by simp,fun u hu=>Ak.1 h1 u hu,fun σ w F=>⟨by simp,fun j a u ha hu=>?_⟩⟩
    grind [Rel.ofVal1]
   ·simp at h
theorem jy {t:TypeId} {i:TypeInfo} {v:Value} (hi:P.info? t=some i) (hz:i.zero=some v) (w:World):(zeroValue t).run P w=.ok v w:=by simp_all [zeroValue,typeInfo]
theorem Rel.cells {a:AV} {v:Value} {cs:List AV} (h:Rel σ w F a v) (hc:a.cells=some cs):RelL σ w F cs v.cells.toList/\∀ u,u∈v.cells.toList->u.oneCell'=true:=by
 have single:∀ (u:Value),Rel σ w F a u->u.cells=#[u]->u.oneCell'=true->cs=[a]->RelL σ w F cs u.cells.toList/\∀ x,x∈u.cells.toList->x.oneCell'=true:=by intro u hu e1 e2 e3;rw [e1,e3];exact ⟨.cons hu .nil,fun x hx=>by grind⟩
 cases h with
 | any v=>grind [AV.cells]
 | tup cs vs h hc'=>grind [AV.cells]
 | agg cs' vs h h1 hc' =>
  simp [AV.cells] at hc;subst hc;exact ⟨⟨by assumption,fun j a u ha hu=>hc' j a u ha (by assumption)⟩,by assumption⟩
 | int k n=>simp [AV.cells] at hc;exact single _ (.int k n) rfl rfl hc.symm
 | bool b=>simp [AV.cells] at hc;exact single _ (.bool b) rfl rfl hc.symm
 | str s=>simp [AV.cells] at hc;exact single _ (.str s) rfl rfl hc.symm
 | nils=>simp [AV.cells] at hc;exact single _ .nils rfl rfl hc.symm
 | slNil=>simp [AV.cells] at hc;exact single _ .slNil rfl rfl hc.symm
 | sl rows size ad c u hF hn hm hrow hone hcell hrel=>simp [AV.cells] at hc;exact single _ (.sl rows size ad c u hF hn hm hrow hone hcell hrel) rfl rfl hc.symm
 | ref id a n c h=>simp [AV.cells] at hc;exact single _ (.ref id a n c h) rfl rfl hc.symm
 | ptr id off g h=>simp [AV.cells] at hc;exact single _ (.ptr id off g h) rfl rfl hc.symm
 | elt row off ad u hF hone hcell hrel=>simp [AV.cells] at hc;exact single _ (.elt row off ad u hF hone hcell hrel) rfl rfl hc.symm
 | aptr id size i off g n c h=>simp [AV.cells] at hc;exact single _ (.aptr id size i off g n c h) rfl rfl hc.symm
 | func f cs' vs h hc'=>simp [AV.cells] at hc;exact single _ (.func f cs' vs h hc') rfl rfl hc.symm
 | bnd f cs' vs h hc'=>simp [AV.cells] at hc;exact single _ (.bnd f cs' vs h hc') rfl rfl hc.symm
 | nilf=>simp [AV.cells] at hc;exact single _ .nilf rfl rfl hc.symm
 | nilp=>simp [AV.cells] at hc;exact single _ .nilp rfl rfl hc.symm
 | nili=>simp [AV.cells] at hc;exact single _ .nili rfl rfl hc.symm
 | mpr id r h=>simp [AV.cells] at hc;exact single _ (.mpr id r h) rfl rfl hc.symm
 | np0 id=>simp [AV.cells] at hc;exact single _ (.np0 id) rfl rfl hc.symm
 | npS id g h=>simp [AV.cells] at hc;exact single _ (.npS id g h) rfl rfl hc.symm
 | ifc t a v h=>simp [AV.cells] at hc;exact single _ (.ifc t a v h) rfl rfl hc.symm
 | cst v =>
  simp only [AV.cells] at hc;split at hc
  ·rename_i h1;cases hc;have e1:v.cells=#[v]:=by cases v<;>first | rfl | grind [Value.oneCell']
   exact single v (.cst v) e1 h1 rfl
  ·cases hc
 | vw id size lo n N C cap A B h hn hA hk hz=>simp [AV.cells] at hc;exact single _ (.vw id size lo n N C cap A B h hn hA hk hz) rfl rfl hc.symm
 | ref2 id a n c vs h h0=>simp [AV.cells] at hc;exact single _ (.ref2 id a n c vs h h0) rfl rfl hc.symm
 | aptr2 id i g n c vs h h0=>simp [AV.cells] at hc;exact single _ (.aptr2 id i g n c vs h h0) rfl rfl hc.symm
 | iref id i a n c vs h h0=>simp [AV.cells] at hc;exact single _ (.iref id i a n c vs h h0) rfl rfl hc.symm
theorem Agr.cell {w':World} (h:Agr aw σ w F w') {ad:Addr} (hb:F ad.block) (j:Nat):w'.cell? (ad.add j)=w.cell? (ad.add j) :=
 World.cell?_of_block (w:=w) (by rw [gG];exact h _ (.inl hb))
theorem cP (g off:Nat):(⟨g,0,none⟩:Addr).add off=⟨g,off,none⟩:=by grind [Addr.add]
theorem lv {σ':List Value} {w0:World} {F':Nat->Prop} {t:TypeId} {row:List AV} {off:Nat} {K:AV->Prop} {ad:Addr} {u:Nat->Value} (hone:∀ j,j<row.length->(u j).oneCell'=true)
  (hcell:∀ w',Agr aw σ w F w'->∀ j,j<row.length->w'.cell? (ad.add j)=some (u j)) (hrel:∀ (j:Nat) x,row[j]?=some x->Rel σ' w0 F' x (u j)) (h:aV P t row off K) :
  ∃ v r,(∀ w',Agr aw σ w F w'->(loadVar t (ad.add off)).run P w'=.ok v w')/\Rel σ' w0 F' r v/\K r:=by
 unfold aV at h
 split at h
 ·rename_i hk
  obtain ⟨hlen,hK⟩:=h
  obtain ⟨d,hu,hagg⟩:=jS hk
  refine ⟨.agg ((List.range (P.cellsOf t)).map fun j=>u (off+j)).toArray,_,fun w' hw'=>?_,?_,hK⟩
  ·have hl:=run_loadCells_list (P:=P) w' (ad.add off) ((List.range (P.cellsOf t)).map fun j=>u (off+j)) (fun j v hj=>by
    grind [dI])
   simp_all [loadVar,cL]
  ·refine .agg _ _ (by simp;omega) (fun x hx=>?_) (fun j c x hc hx=>?_)
   all_goals grind
 ·rename_i hk
  obtain ⟨d,hu,hagg⟩:=jS hk
  split at h
  ·rename_i c hc
   have hlt:=(zK.1 hc).1
   exact ⟨u off,c,fun w' hw'=>by simp_all [loadVar],hrel _ _ hc,h⟩
  grind
 grind
variable {G:World→Prop}
theorem uF {t:TypeId} {row:List AV} {off:Nat} {K:AV->Prop} {vs:List Value} (hone:∀ u,u∈vs->u.oneCell'=true) (hrel:RelL σ w F row vs) (h:aV P t row off K) :
  QOk P G σ w F (part t vs.toArray off) K:=by
 unfold aV at h
 split at h
 ·rename_i hk
  obtain ⟨hlen,hK⟩:=h
  obtain ⟨d,hu,hagg⟩:=jS hk
  refine ⟨.agg ((vs.drop off).take (P.cellsOf t)).toArray,_,fun w' _=>?_,?_,hK⟩
  ·simp_all [part,cL]
  ·have h2:=hrel.sub off (P.cellsOf t)
   exact .agg _ _ h2.1 (fun u hu'=>hone u (Aw (Af hu'))) h2.2
 ·rename_i hk
  obtain ⟨d,hu,hagg⟩:=jS hk
  split at h
  ·rename_i c hc
   obtain ⟨u,hu1,hr⟩:=hrel.get hc
   exact ⟨u,c,fun w' _=>by simp_all [part],hr,h⟩
  grind
 grind
theorem QOk.const {c:Sem Value} {K:AV->Prop} {v:Value} {r:AV} (hrun:∀ w',c.run P w'=.ok v w') (hr:Rel σ w F r v) (hK:K r):QOk P G σ w F c K:=⟨v,r,fun w' _=>hrun w',hr,hK⟩
theorem QOk.mk' {c:Sem Value} {K:AV->Prop} {v:Value} {r:AV} (hK:K r) (hr:Rel σ w F r v) (hrun:∀ w',c.run P w'=.ok v w'):QOk P G σ w F c K:=⟨v,r,fun w' _=>hrun w',hr,hK⟩
theorem lp (s:List UInt8):(ByteArray.mk s.toArray).size=s.length:=by rfl
theorem tJ (x y:List UInt8):ByteArray.mk x.toArray++ByteArray.mk y.toArray=ByteArray.mk (x++y).toArray:=by rfl
theorem vF {x y:List UInt8} (h:x.length+y.length<=4611686018427387904):¬ (((ByteArray.mk x.toArray).size+(ByteArray.mk y.toArray).size:Nat):Int) > IntKind.i64.max:=by grind [lp,IntKind.max,IntKind.bits]
theorem uR (d:Nat) {t e:TypeId} (hu:P.underlying t=some (.slice e)) (a:Option Addr) (n c:Nat) (w:World):(Op.equalIn (d+1) t (.slice a n c) (.slice none 0 0)).run P w=.ok a.isNone w:=by cases a<;>simp [Op.equalIn,Sem.run_bind,run_underlying hu]
theorem wy (d:Nat) {t:TypeId} {p r:Array TypeId} {b:Bool} (hu:P.underlying t=some (.func p r b)) (f:Fn) (x y:Array Value) (w:World):(Op.equalIn (d+1) t (.func f x y) .nilFunc).run P w=.ok false w:=by simp [Op.equalIn,Sem.run_bind,run_underlying hu]
theorem wU (d:Nat) {t:TypeId} {p r:Array TypeId} {b:Bool} (hu:P.underlying t=some (.func p r b)) (w:World):(Op.equalIn (d+1) t .nilFunc .nilFunc).run P w=.ok true w:=by simp [Op.equalIn,Sem.run_bind,run_underlying hu]
theorem pK {t:TypeId} (hu:P.underlying t=some .bool) (a b:Bool) (w:World):(Op.equal t (.bool a) (.bool b)).run P w=.ok (a==b) w:=run_equalIn_bool' w 9999 t a b hu
theorem g7 {t e:TypeId} (hu:P.underlying t=some (.slice e)) (a:Option Addr) (n c:Nat) (w:World):(Op.equal t (.slice a n c) (.slice none 0 0)).run P w=.ok a.isNone w:=uR 9999 hu a n c w
theorem eq_fn {t:TypeId} {p r:Array TypeId} {b:Bool} (hu:P.underlying t=some (.func p r b)) (f:Fn) (x y:Array Value) (w:World):(Op.equal t (.func f x y) .nilFunc).run P w=.ok false w:=wy 9999 hu f x y w
theorem eq_nf {t:TypeId} {p r:Array TypeId} {b:Bool} (hu:P.underlying t=some (.func p r b)) (w:World):(Op.equal t .nilFunc .nilFunc).run P w=.ok true w:=wU 9999 hu w
theorem uL {op:BinOp} {t:TypeId} {x y:Operand} {a b:AV} {va vb:Value} {K:AV->Prop} (ha:Rel σ w F a va) (hb:Rel σ w F b vb) (h:vcBin P op t a b K) :
  QOk P G σ w F (do eqGuard op t x y va vb;binOp op t va vb) K:=by
 unfold vcBin at h
 split at h
 ·cases ha;cases hb
  split at h<;>(try exact h.elim)
  ·obtain ⟨rfl,h⟩:=h;exact .mk' h (.int _ _) (fun w'=>by simp [eqGuard,binOp,Op.intArith])
  ·obtain ⟨rfl,h⟩:=h;exact .mk' h (.int _ _) (fun w'=>by simp [eqGuard,binOp,Op.intArith])
  ·obtain ⟨rfl,h⟩:=h;exact .mk' h (.int _ _) (fun w'=>by simp [eqGuard,binOp,Op.intArith,Sem.run_bind])
  ·obtain ⟨rfl,h0,h⟩:=h;exact .mk' h (.int _ _) (fun w'=>by simp_all [eqGuard,binOp,Op.intDiv])
  ·obtain ⟨rfl,h0,h⟩:=h;exact .mk' h (.int _ _) (fun w'=>by simp_all [eqGuard,binOp,Op.intDiv])
  ·obtain ⟨rfl,h⟩:=h;exact .mk' h (.int _ _) (fun w'=>by simp [eqGuard,binOp,Op.intBits,intBits])
  ·obtain ⟨rfl,h⟩:=h;exact .mk' h (.int _ _) (fun w'=>by simp [eqGuard,binOp,Op.intBits,intBits])
  ·obtain ⟨rfl,h⟩:=h;exact .mk' h (.int _ _) (fun w'=>by simp [eqGuard,binOp,Op.intBits,intBits,Sem.run_bind])
  ·obtain ⟨h0,h⟩:=h;exact .mk' h (.int _ _) (fun w'=>by simp [eqGuard,binOp,Op.shift,Sem.run_bind,Int.not_lt.2 h0])
  ·obtain ⟨h0,h⟩:=h;exact .mk' h (.int _ _) (fun w'=>by simp [eqGuard,binOp,Op.shift,Sem.run_bind,Int.not_lt.2 h0])
  ·obtain ⟨rfl,h⟩:=h;exact .mk' h (.bool _) (fun w'=>by simp [eqGuard,binOp,Op.intCmp])
  ·obtain ⟨rfl,h⟩:=h;exact .mk' h (.bool _) (fun w'=>by simp [eqGuard,binOp,Op.intCmp])
  ·obtain ⟨rfl,h⟩:=h;exact .mk' h (.bool _) (fun w'=>by simp [eqGuard,binOp,Op.intCmp])
  ·obtain ⟨rfl,h⟩:=h;exact .mk' h (.bool _) (fun w'=>by simp [eqGuard,binOp,Op.intCmp])
  ·obtain ⟨rfl,h⟩:=h;exact .mk' h (.bool _) (fun w'=>by simp [eqGuard,binOp,Op.intCmp])
  ·obtain ⟨rfl,h⟩:=h;exact .mk' h (.bool _) (fun w'=>by simp [eqGuard,binOp,Op.intCmp,Sem.run_bind])
 ·cases ha;cases hb
  split at h<;>(try exact h.elim)
  ·obtain ⟨h0,h⟩:=h
   exact .mk' h (.str _) (fun w'=>by simp only [eqGuard,binOp,Op.stringOp,Sem.run_bind,Sem.run_pure,Result.andThen_ok,if_neg (vF h0),tJ];rfl)
  ·exact .mk' h (.bool _) (fun w'=>by simp [eqGuard,binOp,Op.stringOp])
  ·exact .mk' h (.bool _) (fun w'=>by simp [eqGuard,binOp,Op.stringOp])
 ·cases ha;cases hb
  split at h<;>(try exact h.elim)
  ·rename_i hu
   exact .mk' h (.bool _) (fun w'=>by simp_all [eqGuard,binOp,pK])
  ·rename_i hu
   exact .mk' h (.bool _) (fun w'=>by simp_all [eqGuard,binOp,pK])
 ·cases ha;cases hb
  split at h<;>(try exact h.elim)
  ·rename_i hu
   exact .mk' h (.bool _) (fun w'=>by simp_all [eqGuard,binOp,g7])
  ·rename_i hu
   exact .mk' h (.bool _) (fun w'=>by simp_all [eqGuard,binOp,g7])
 ·cases hb
  split at h<;>(try exact h.elim)
  ·rename_i hu
   cases ha with
   | slNil=>exact .mk' (h true (fun _=>rfl)) (.bool _) (fun w'=>by simp_all [eqGuard,binOp,g7])
   | sl=>exact .mk' (h false (fun e=>by cases e)) (.bool _) (fun w'=>by simp_all [eqGuard,binOp,g7])
  ·rename_i hu
   cases ha with
   | slNil=>exact .mk' (h false (fun _=>rfl)) (.bool _) (fun w'=>by simp_all [eqGuard,binOp,g7])
   | sl=>exact .mk' (h true (fun e=>by cases e)) (.bool _) (fun w'=>by simp_all [eqGuard,binOp,g7])
 ·cases ha with
  | agg cs vs hl h1 hc=>cases hb with
   | agg cs' vs' hl' h1' hc' =>
    split at h<;>(try exact h.elim)
    ·rename_i hq
     obtain ⟨hk,⟨hg,hS⟩,h⟩:=h
     exact .mk' h (.bool _) (fun w'=>by have:=hS σ w F _ _ vs vs' _ rfl hk.symm hq ⟨hl,hc⟩ ⟨hl',hc'⟩ w';simp_all [eqGuard,binOp])
    ·rename_i hq
     obtain ⟨hk,⟨hg,hS⟩,h⟩:=h
     exact .mk' h (.bool _) (fun w'=>by have:=hS σ w F _ _ vs vs' _ rfl hk.symm hq ⟨hl,hc⟩ ⟨hl',hc'⟩ w';simp_all [eqGuard,binOp])
 ·cases ha;cases hb
  split at h<;>(try exact h.elim)
  ·rename_i hu
   exact .mk' h (.bool _) (fun w'=>by simp [eqGuard,binOp,Sem.run_bind,eq_fn hu])
  ·rename_i hu
   exact .mk' h (.bool _) (fun w'=>by simp [eqGuard,binOp,Sem.run_bind,eq_fn hu])
 ·cases ha;cases hb
  split at h<;>(try exact h.elim)
  ·rename_i hu
   exact .mk' h (.bool _) (fun w'=>by simp [eqGuard,binOp,Sem.run_bind,eq_nf hu])
  ·rename_i hu
   exact .mk' h (.bool _) (fun w'=>by simp [eqGuard,binOp,Sem.run_bind,eq_nf hu])
 grind
theorem w9 {fr:List AV} {a:Act} (ha:ARel σ w F fr a) (hs:Sim aw σ w F) {b:Builtin} {args:Array Operand} {ats:Array TypeId} {ty:TypeId} {K:AV->Prop} (h:vcB P fr aw b args.toList ats.toList K) :
  ∃ v r,(∀ cs w',(builtin b ats ty cs (args.map a.eval)).run P w'=.ok (.value v) w')/\Rel σ w F r v/\K r:=by
 obtain ⟨args⟩:=args
 obtain ⟨ats⟩:=ats
 simp only at h
 unfold vcB at h
 split at h
 ·rename_i x t
  have hx:=ha.ev x
  split at h
  ·rename_i hu hx'
   rw [hx'] at hx
   cases hv:a.eval x<;>rw [hv] at hx<;>cases hx
   refine ⟨_,_,fun cs w'=>?_,.int _ _,h⟩
   simp_all [builtin,Builtin.len_,run_underlying,goInt,lp]
  ·rename_i hu hx'
   rw [hx'] at hx
   cases hv:a.eval x<;>rw [hv] at hx<;>cases hx
   ·refine ⟨_,_,fun cs w'=>?_,.int _ _,h⟩
    simp_all [builtin,Builtin.len_,run_underlying,goInt]
   ·refine ⟨_,_,fun cs w'=>?_,.int _ _,h⟩
    simp [builtin,Builtin.len_,Sem.run_bind,run_underlying hu,hv,goInt]
  ·rename_i hu hx'
   rw [hx'] at hx
   cases hv:a.eval x<;>rw [hv] at hx<;>cases hx
   refine ⟨_,_,fun cs w'=>?_,.int _ _,h⟩
   simp_all [builtin,Builtin.len_,run_underlying,goInt]
  ·rename_i id hu hx'
   rw [hx'] at hx
   split at h
   ·rename_i e size rows ho
    cases hv:a.eval x<;>rw [hv] at hx<;>cases hx
    rename_i ad n c hσ
    obtain ⟨fl,hown,_,_⟩:=hs.obj id _ _ ho hσ
    have hn:n=rows.length:=by
     rcases hown.2 with ⟨e1,e2⟩ | ⟨g,cap,cur,e1,_⟩
     all_goals grind
    subst hn
    refine ⟨_,_,fun cs w'=>?_,.int _ _,h⟩
    simp [builtin,Builtin.len_,Sem.run_bind,run_underlying hu,hv,goInt]
   grind
  grind
 ·rename_i _ x y
  split at h
  ·rename_i hx' hy'
   have hx:=ha.ev x
   have hy:=ha.ev y
   rw [hx'] at hx
   rw [hy'] at hy
   cases hv:a.eval x<;>rw [hv] at hx<;>cases hx
   cases hv':a.eval y<;>rw [hv'] at hy<;>cases hy
   refine ⟨_,_,fun cs w'=>?_,.int _ _,h⟩
   simp_all [builtin,Builtin.min_,Builtin.min2]
  grind
 ·rename_i _ x y
  split at h
  ·rename_i hx' hy'
   have hx:=ha.ev x
   have hy:=ha.ev y
   rw [hx'] at hx
   rw [hy'] at hy
   cases hv:a.eval x<;>rw [hv] at hx<;>cases hx
   cases hv':a.eval y<;>rw [hv'] at hy<;>cases hy
   refine ⟨_,_,fun cs w'=>?_,.int _ _,h⟩
   simp_all [builtin,Builtin.max_,Builtin.max2]
  grind
 grind
end
end
section
open Go.RowKit
section
variable {P:Program} {σ:List Value} {w:World} {F:Nat→Prop} {aw:List Ob} {G:World→Prop}
def NOk (P:Program) (G:World->Prop) (σ:List Value) (w:World) (F:Nat->Prop) (c:Sem Next) (K:AV->Prop):Prop :=
 ∃ v r,(∀ w',G w'->c.run P w'=.ok (.value v) w')/\Rel σ w F r v/\K r
theorem QOk.n {c:Sem Value} {K:AV->Prop} (h:QOk P G σ w F c K):NOk P G σ w F (do let x <- c;pure (Next.value x)) K:=by obtain ⟨v,r,h1,h2,h3⟩:=h;exact ⟨v,r,fun w' hw=>run_v (h1 w' hw),h2,h3⟩
theorem NOk.mk' {c:Sem Next} {K:AV->Prop} {v:Value} {r:AV} (hK:K r) (hr:Rel σ w F r v) (hrun:∀ w',c.run P w'=.ok (.value v) w'):NOk P G σ w F c K:=⟨v,r,fun w' _=>hrun w',hr,hK⟩
theorem QOk.of_run {c c':Sem Value} {K:AV->Prop} (h:QOk P G σ w F c K) (he:∀ w',c'.run P w'=c.run P w'):QOk P G σ w F c' K:=by obtain ⟨v,r,h1,h2,h3⟩:=h;exact ⟨v,r,fun w' hw=>(he w').trans (h1 w' hw),h2,h3⟩
theorem kZ {ad:Addr} {f:Field} {d:TypeDesc} (hu:P.underlying f.type=some d) (h0:P.cellsOf f.type≠0) (w:World):(fieldPlace ad f).run P w=.ok (ad.add f.offset) w:=by simp_all [fieldPlace,cL]
theorem qC {fr:List AV} {a:Act} (ha:ARel σ w F fr a) (hs:Sim aw σ w F) {t:TypeId} {x:Operand} {K:AV->Prop} (h:vcQ P fr aw (.load t x) K):QOk P (Agr aw σ w F) σ w F (Instr.loadAt t (a.eval x)) K:=by
 simp only [vcQ] at h;have hx:=ha.ev x;split at h
 ·rename_i id off e;rw [e] at hx;split at h
  ·rename_i cs ho;cases hv:a.eval x<;>rw [hv] at hx<;>cases hx;rename_i g hσ;obtain ⟨g',vs,ty,e1,hg,hr,h1,hf⟩:=hs.obj id _ _ ho hσ;injection e1 with e1
   injection e1 with e1
   injection e1 with e1
   subst e1;have hq:QOk P (Agr aw σ w F) σ w F _ K:=lv (P:=P) (aw:=aw) (σ:=σ) (w:=w) (F:=F) (ad:=⟨g,0,none⟩) (u:=fun j=>vs.toList.getD j undef) (row:=cs) (fun j hj=>h1 _ (by
     have:j<vs.toList.length:=by rw [hr.1];exact hj
     grind))
    (fun w' hw' j hj=>by
     have hlt:j<vs.toList.length:=by rw [hr.1];exact hj
     have hb:w'.heap[g]?=w.heap[g]?:=hw' g (.inr ⟨id,cs,_,ho,hσ,rfl⟩);grind [cP,cell_of_row])
    (fun j c hc=>by obtain ⟨v,hv,hrel⟩:=hr.get hc;grind) h
   grind [cP,Instr.loadAt,Instr.sureAddr]
  grind
 ·rename_i row off e;rw [e] at hx;cases hv:a.eval x<;>rw [hv] at hx<;>cases hx;rename_i ad u hF hone hcell hrel;have hq:QOk P (Agr aw σ w F) σ w F _ K:=lv (P:=P) (aw:=aw) (ad:=ad) (u:=u) hone (fun w' hw' j hj=>by
   rw [hw'.cell (hF (by grind)) j];grind) hrel h
  assumption
 grind
theorem sI {fr:List AV} {a:Act} (ha:ARel σ w F fr a) {t:TypeId} {x:Operand} {k:Nat} {K:AV->Prop} (h:vcQ P fr aw (.fieldAddr t x k) K):QOk P G σ w F (Instr.fieldAt t (a.eval x) k) K:=by
 simp only [vcQ] at h;have hx:=ha.ev x;split at h
 ·rename_i fs hu;split at h
  ·rename_i f hf;obtain ⟨h0,hs,h⟩:=h;obtain ⟨d,hd⟩:=zU.1 hs;split at h
   ·rename_i id off e;rw [e] at hx;cases hv:a.eval x<;>rw [hv] at hx<;>cases hx;rename_i g hσ;refine .mk' h (.ptr id (off+f.offset) g hσ) (fun w'=>?_);have e:(⟨g,off,none⟩:Addr).add f.offset=⟨g,off+f.offset,none⟩:=by rw [<- cP,dI,cP]
    simp_all [Instr.fieldAt,Instr.sureAddr,run_underlying,kZ]
   ·rename_i row off e;rw [e] at hx;cases hv:a.eval x<;>rw [hv] at hx<;>cases hx;rename_i ad u hF hone hcell hrel;refine .mk' h (.elt row (off+f.offset) ad u hF hone hcell hrel) (fun w'=>?_);simp_all [Instr.fieldAt,Instr.sureAddr,run_underlying,kZ,dI]
   ·rename_i id size i off e;rw [e] at hx;cases hv:a.eval x<;>rw [hv] at hx<;>cases hx;rename_i g n c hσ;refine .mk' h (.aptr id size i (off+f.offset) g n c hσ) (fun w'=>?_);have e:(⟨g,i*size+off,none⟩:Addr).add f.offset=⟨g,i*size+(off+f.offset),none⟩:=by rw [<- cP,dI,cP,Nat.add_assoc]
    simp_all [Instr.fieldAt,Instr.sureAddr,run_underlying,kZ]
   grind
  grind
 grind
theorem sE {fr:List AV} {a:Act} (ha:ARel σ w F fr a) (hs:Sim aw σ w F) {t:TypeId} {x i:Operand} {K:AV->Prop} (h:vcQ P fr aw (.indexAddr t x i) K):QOk P G σ w F (Instr.indexAt t (a.eval x) (a.eval i)) K:=by
 simp only [vcQ] at h;have hx:=ha.ev x;have hi:=ha.ev i;split at h
 ·rename_i e rows k n hu ex ei;rw [ex] at hx;rw [ei] at hi;obtain ⟨h0,h1,h⟩:=h;cases hvi:a.eval i<;>rw [hvi] at hi<;>cases hi;have hlt:n.toNat<rows.length:=by omega
  generalize a.eval x=vx at hx ⊢;cases hx with
  | slNil=>simp at hlt
  | sl _ size ad c u hF hn hm hrow hone hcell hrel =>
   obtain ⟨h2,h3,h⟩:=h rows[n.toNat] (zJ hlt);obtain ⟨d,hd⟩:=zU.1 h3;have hsz:size=P.cellsOf e:=by grind
   have hne:rows≠[]:=by grind
   refine .mk' h (v:=.pointer (some ((ad.add (n.toNat*size)).add 0))) (.elt rows[n.toNat] 0 (ad.add (n.toNat*size)) (u n.toNat) (fun _=>by grind [gG])
    (fun j hj=>hone _ _ hlt (by omega)) (fun j hj=>by grind [dI]) (fun j y hy=>hrel _ _ _ _ (zJ hlt) hy)) (fun w'=>?_)
   have e0:(ad.add (n.toNat*size)).add 0=ad.add (n.toNat*size):=by rfl
   rw [e0,hsz];simp [Instr.indexAt,asIntOf,Sem.run_bind,run_underlying hu,cL hd,h0,h1]
 ·rename_i e id k n hu ex ei;rw [ex] at hx;rw [ei] at hi;split at h
  ·rename_i e' size rows ho;obtain ⟨h2,h3,h0,h1,h⟩:=h;obtain ⟨d,hd⟩:=zU.1 h3;cases hvi:a.eval i<;>rw [hvi] at hi<;>cases hi;cases hv:a.eval x<;>rw [hv] at hx<;>cases hx;rename_i ad n' c hσ;obtain ⟨fl,hown,_,_⟩:=hs.obj id _ _ ho hσ;rcases hown.2 with ⟨e1,e2⟩ | ⟨g,cap,cur,e1,_⟩
   ·omega
   ·injection e1 with e1 e2 e3
    subst e1;subst e2;subst e3;refine .mk' h (.aptr id size n.toNat 0 g _ _ hσ) (fun w'=>?_);rw [AK];have e4:(⟨g,0,none⟩:Addr).add (n.toNat*size)=⟨g,n.toNat*size,none⟩:=cP _ _;rw [h2] at e4 ⊢;simp [Instr.indexAt,asIntOf,Sem.run_bind,run_underlying hu,cL hd,h0,h1,e4]
  grind
 ·rename_i len e id off k n hu ex ei;rw [ex] at hx;rw [ei] at hi;obtain ⟨h3,h0,h1,h2,h⟩:=h;obtain ⟨d,hd⟩:=zU.1 h3;cases hvi:a.eval i<;>rw [hvi] at hi<;>cases hi;cases hv:a.eval x<;>rw [hv] at hx<;>cases hx;rename_i g hσ;refine .mk' h (.ptr id (off+n.toNat*P.cellsOf e) g hσ) (fun w'=>?_);have e4:(⟨g,off,none⟩:Addr).add (n.toNat*P.cellsOf e)=⟨g,off+n.toNat*P.cellsOf e,none⟩:=by rw [<- cP,dI,cP]
  simp [Instr.indexAt,asIntOf,Sem.run_bind,run_underlying hu,cL hd,h0,h1,e4,Instr.sureAddr]
 grind
theorem wi {fr:List AV} {a:Act} (ha:ARel σ w F fr a) {t:TypeId} {x i:Operand} {K:AV->Prop} (h:vcQ P fr aw (.index t x i) K):QOk P G σ w F (Instr.index t (a.eval x) (a.eval i)) K:=by
 simp only [vcQ] at h;have hx:=ha.ev x;have hi:=ha.ev i;split at h
 ·rename_i s k n hu ex ei;rw [ex] at hx;rw [ei] at hi;obtain ⟨h0,h1,h⟩:=h;have hlt:n.toNat<s.length:=by omega
  cases hvi:a.eval i<;>rw [hvi] at hi<;>cases hi;cases hv:a.eval x<;>rw [hv] at hx<;>cases hx;refine .mk' (h _ (zJ hlt)) (.int _ _) (fun w'=>?_);have e:(ByteArray.mk s.toArray)[n.toNat]?=some s[n.toNat]:=by rw [getElem?_pos (ByteArray.mk s.toArray) n.toNat (by assumption)];rfl
  simp_all [Instr.index,asIntOf,run_underlying]
 grind
theorem jG {fr:List AV} {a:Act} (ha:ARel σ w F fr a) {lo hi:Option Operand} {b:Bool} {len cap:Nat} {kl kh:IntKind} {l h:Int} (el:(lo.map (ev fr)).getD (.int .i64 0)=.int kl l)
  (eh:(hi.map (ev fr)).getD (.int .i64 len)=.int kh h) (h0:0<=l) (h1:l<=h) (h2:h<=len) (h3:len<=cap) (w':World) :
  (Instr.sliceBounds b len cap (lo.map a.eval) (hi.map a.eval) none).run P w'=.ok (l.toNat,h.toNat,cap) w':=by
 have get:∀ (z:Operand) (k:IntKind) (n:Int),ev fr z=.int k n->a.eval z=.int k n:=by intro z k n e;have hz:=ha.ev z;rw [e] at hz;generalize a.eval z=vz at hz ⊢;cases hz;rfl
 cases hi with
 | none =>
  simp at eh
  obtain ⟨_,rfl⟩:=eh
  cases lo with
  | none =>
   simp at el
   obtain ⟨_,rfl⟩:=el
   rfl
  | some z =>
   simp at el
   simp [Instr.sliceBounds,Sem.run_bind,get z _ _ el,run_sliceBound,h0,h1]
 | some y =>
  simp at eh
  have b1:∀ code w',(Instr.sliceBound (.int kh h) cap code).run P w'=.ok h.toNat w':=fun code w'=>run_sliceBound (P:=P) w' kh h cap code (by omega) (by omega)
  cases lo with
  | none =>
   simp at el
   obtain ⟨_,rfl⟩:=el
   simp [Instr.sliceBounds,Sem.run_bind,get y _ _ eh,b1]
  | some z =>
   simp at el
   have b2:∀ code w',(Instr.sliceBound (.int kl l) h.toNat code).run P w'=.ok l.toNat w':=fun code w'=>run_sliceBound (P:=P) w' kl l h.toNat code h0 (by omega)
   simp [Instr.sliceBounds,Sem.run_bind,get y _ _ eh,get z _ _ el,b1,b2]
theorem Rel.piece {rows:List (List AV)} {e l h:Nat} {A:Option Addr} {n c:Nat} (hr:Rel σ w F (.sl rows) (.slice A n c)) (hsz:∀ row,row∈rows->row.length=e) (h1:l<=h) (h2:h<=rows.length) :
  n=rows.length/\n<=c/\Rel σ w F (.sl ((rows.take h).drop l)) (.slice (if c=l then A else A.map (·.add (l*e))) (h - l) (c - l)):=by
 cases hr with
 | slNil =>
  have:h=0:=by grind
  subst this
  have:l=0:=by omega
  subst this
  exact ⟨rfl,zP _,by simpa using Rel.slNil⟩
 | sl _ size ad _ u hF hn hm hrow hone hcell hrel =>
  refine ⟨rfl,hn,?_⟩
  have hlen:((rows.take h).drop l).length=h - l:=by simp;omega
  by_cases hcl:c=l
  ·have hz:h - l=0:=by omega
   have hnil:(rows.take h).drop l=[]:=zN (by rw [hlen,hz])
   rw [if_pos hcl,hnil,hz]
   exact .sl [] 0 ad (c - l) u (fun h=>absurd rfl h) (Ae _) (by omega) (fun _ h=>by simp at h) (fun i j hi=>by simp at hi) (fun i j hi=>by simp at hi) (fun i row j x hi=>by simp at hi)
  ·rw [if_neg hcl,AZ]
   have hget:∀ (i:Nat) row,((rows.take h).drop l)[i]?=some row->rows[l+i]?=some row:=fun i row hi=>by grind
   have hh:=Rel.sl (σ:=σ) (w:=w) (F:=F) ((rows.take h).drop l) size (ad.add (l*e)) (c - l) (fun i j=>u (l+i) j)
    (fun hne=>by grind [gG]) (by omega) (by omega)
    (fun row hr=>hrow row (Af (Aw hr)))
    (fun i j hi hj=>hone _ _ (by omega) hj)
    (fun i j hi hj=>by
     rw [hlen] at hi;have hlt:l<rows.length:=by omega
     have:size=e:=(hrow _ (Aa hlt)).symm.trans (hsz _ (Aa hlt));subst this;grind [dI])
    (fun i row j x hi hx=>hrel _ _ _ _ (hget i row hi) hx)
   grind
theorem v6 {fr:List AV} {a:Act} (ha:ARel σ w F fr a) {t:TypeId} {x:Operand} {lo hi:Option Operand} {K:AV->Prop} (h:vcQ P fr aw (.slice t x lo hi none) K) :
  QOk P G σ w F (Instr.sliceAt t (a.eval x) (lo.map a.eval) (hi.map a.eval) none) K:=by
 simp only [vcQ] at h
 have hx:=ha.ev x
 split at h
 ·rename_i s hu ex
  rw [ex] at hx
  split at h
  ·rename_i kl l kh hh el eh
   obtain ⟨h0,h1,h2,h⟩:=h
   generalize a.eval x=vx at hx ⊢
   cases hx
   refine .mk' h (.str _) (fun w'=>?_)
   have b:=fun w'=>jG (P:=P) ha (b:=false) (cap:=s.length) el eh h0 h1 h2 (zP _) w'
   have e:(ByteArray.mk s.toArray).extract l.toNat hh.toNat=ByteArray.mk ((s.take hh.toNat).drop l.toNat).toArray:=by apply ByteArray.ext;simp [List.drop_take]
   simp_all [Instr.sliceAt,Instr.slice,run_underlying,lp]
  grind
 ·rename_i e rows hu ex
  rw [ex] at hx
  split at h
  ·rename_i kl l kh hh el eh
   obtain ⟨hsome,hrow,h0,h1,h2,h⟩:=h
   obtain ⟨d,hd⟩:=zU.1 hsome
   generalize a.eval x=vx at hx ⊢
   have hform:∃ A n c,vx=.slice A n c:=by cases hx<;>exact ⟨_,_,_,rfl⟩
   obtain ⟨A,n,c,rfl⟩:=hform
   obtain ⟨hn,hnc,hr⟩:=hx.piece (l:=l.toNat) (h:=hh.toNat) hrow (by omega) (by omega)
   subst hn
   refine .mk' h hr (fun w'=>?_)
   have b:=fun w'=>jG (P:=P) ha (b:=true) (cap:=c) el eh h0 h1 h2 hnc w'
   simp [Instr.sliceAt,Instr.slice,Sem.run_bind,run_underlying hu,b,cL hd]
  grind
 grind
theorem wn {fr:List AV} {a:Act} (ha:ARel σ w F fr a) {t:TypeId} {x:Operand} {k:Nat} {K:AV->Prop} (h:vcQ P fr aw (.field t x k) K):QOk P G σ w F (Instr.field t (a.eval x) k) K:=by
 simp only [vcQ] at h;have hx:=ha.ev x;split at h
 ·rename_i fs cs hu ex;rw [ex] at hx;split at h
  ·rename_i f hf;generalize a.eval x=vx at hx ⊢;cases hx with
   | agg _ vs hl h1 hc =>
    exact (uF (P:=P) h1 ⟨hl,hc⟩ h).of_run (fun w'=>by simp_all [Instr.field,asAgg,run_underlying])
  grind
 grind
theorem w7 {fr:List AV} {a:Act} (ha:ARel σ w F fr a) {op:UnOp} {t:TypeId} {x:Operand} {K:AV->Prop} (h:vcQ P fr aw (.unOp op t x) K):QOk P G σ w F (Op.unary op (a.eval x)) K:=by
 simp only [vcQ] at h;have hx:=ha.ev x;split at h
 ·rename_i b ex;rw [ex] at hx;generalize a.eval x=vx at hx ⊢;cases hx;exact .mk' h (.bool _) (fun w'=>by rfl)
 ·rename_i k n ex;rw [ex] at hx;generalize a.eval x=vx at hx ⊢;cases hx;exact .mk' h (.int _ _) (fun w'=>by rfl)
 grind
theorem ui {fr:List AV} {a:Act} (ha:ARel σ w F fr a) {s d:TypeId} {x:Operand} {K:AV->Prop} (h:vcQ P fr aw (.convert s d x) K):QOk P G σ w F (convert s d (a.eval x)) K:=by
 simp only [vcQ] at h;have hx:=ha.ev x;split at h
 ·rename_i ds k k' n hs hd ex;rw [ex] at hx;generalize a.eval x=vx at hx ⊢;cases hx;exact .mk' h (.int _ _) (fun w'=>by simp_all [convert,run_underlying,Conv.intToInt])
 grind
theorem uu {fr:List AV} {a:Act} (ha:ARel σ w F fr a) {x:Operand} {k:Nat} {K:AV->Prop} (h:vcQ P fr aw (.extract x k) K):QOk P G σ w F (Instr.extract (a.eval x) k) K:=by
 simp only [vcQ] at h;have hx:=ha.ev x;split at h
 ·rename_i vs ex;rw [ex] at hx;split at h
  ·rename_i v hv;generalize a.eval x=vx at hx ⊢;cases hx with
   | tup _ us hl hc =>
    obtain ⟨u,hu,hr⟩:=RelL.get ⟨hl,hc⟩ hv;exact .mk' h hr (fun w'=>by simp [Instr.extract,hu])
  grind
 grind
theorem e6 {fr:List AV} {a:Act} (ha:ARel σ w F fr a) (xs:List Operand):RelL σ w F (xs.map (ev fr)) (xs.map a.eval):=by
 induction xs with
 | nil=>exact .nil
 | cons x xs ih=>exact .cons (ha.ev x) ih
theorem sP {fr:List AV} {a:Act} (ha:ARel σ w F fr a) {fn:Fn} {first caps:Array Operand} {K:AV->Prop} (h:vcQ P fr aw (.makeFunc fn first caps) K) :
  QOk P G σ w F (Instr.makeFunc fn (first.map a.eval) (caps.map a.eval)) K:=by
 cases fn<;>simp only [vcQ] at h<;>try exact h.elim
 obtain ⟨first⟩:=first
 obtain ⟨caps⟩:=caps
 cases first with
 | nil =>
  have hr:=e6 ha caps
  refine .mk' h (.func _ _ (caps.map a.eval) hr.1 hr.2) (fun w'=>?_)
  simp [Instr.makeFunc]
 | cons x xs =>
  obtain ⟨h0,h⟩:=h
  simp only at h0
  subst h0
  have hr:=e6 ha (x::xs)
  refine .mk' h (.bnd _ _ ((x::xs).map a.eval) hr.1 hr.2) (fun w'=>?_)
  simp [Instr.makeFunc]
theorem RelL.take {as₀:List AV} {vs:List Value} (h:RelL σ w F as₀ vs) (n:Nat):RelL σ w F (as₀.take n) (vs.take n):=by simpa using h.sub 0 n
theorem RelL.drop {as₀:List AV} {vs:List Value} (h:RelL σ w F as₀ vs) (n:Nat):RelL σ w F (as₀.drop n) (vs.drop n):=by refine ⟨by simp [h.1],fun j a v ha hv=>?_⟩;rw [z7] at ha hv;exact h.2 _ a v ha hv
def bf (cs:List Value) (off:Nat) (vs:List Value):List Value:=cs.take off++vs++cs.drop (off+vs.length)
theorem RelL.splice {as₀ bs:List AV} {vs us:List Value} (h:RelL σ w F as₀ vs) (off:Nat) (k:RelL σ w F bs us):RelL σ w F (splice as₀ off bs) (bf vs off us):=by unfold Go.Proofs.YtbfncjgaklimlaaGreatDoor.splice bf;rw [k.1];exact ((h.take off).append k).append (h.drop _)
theorem jM {vs us:List Value} {off:Nat} (h1:∀ u,u∈vs->u.oneCell'=true) (h2:∀ u,u∈us->u.oneCell'=true):∀ u,u∈bf vs off us->u.oneCell'=true:=by grind [bf]
theorem oa (off:Nat):∀ (vs:List Value) (k:Nat) (cells:Array Value),off+k+vs.length<=cells.size ->
  ((vs.zipIdx k).foldl (fun cs p=>cs.setIfInBounds (off+p.2) p.1) cells).toList=bf cells.toList (off+k) vs
 | [],k,cells,_=>by simp [bf]
 | v::vs,k,cells,h=>by
  simp only [List.zipIdx_cons,List.foldl_cons];rw [oa off vs (k+1) _ (by grind)];simp only [bf,Array.toList_setIfInBounds,zR];apply Ap;intro j;simp only [zR] at h;rw [z6,z6,z6,z6];simp only [Ag,AU,Ax,zR,Array.length_toList];rcases Nat.lt_trichotomy j (off+k) with hj | hj | hj
  ·rw [if_pos (by omega),if_pos (by omega),if_pos (by omega),if_pos (by omega),As,As,if_pos (by omega),if_pos (by omega),zV,if_neg (by omega)]
  ·rw [if_pos (by omega),if_pos (by omega),if_pos (by omega),if_neg (by omega),As,if_pos (by omega),zV];grind
  ·by_cases h2:j<off+k+1+vs.length
   ·grind
   ·rw [if_neg (by omega),if_neg (by omega),z7,z7,zV,if_neg (by omega)];rw [A0 (show off+(k+1)<=cells.size by omega),A0 (show off+k<=cells.size by omega)];grind
theorem lN {pl place:Nat->Option (Nat × Nat)} (hp:∀ i x,pl i=some x->place i=some x):∀ (ps:List (Nat × AV)) (vs:List (Nat × Value)) (cs cs':List AV) (cells:Array Value),
  vs.map (·.1)=ps.map (·.1)->RelL σ w F (ps.map (·.2)) (vs.map (·.2))->RelL σ w F cs cells.toList->(∀ u,u∈cells.toList->u.oneCell'=true)->dx pl cs ps=some cs' ->
  ∃ cells',Instr.fill place cells vs=some cells'/\RelL σ w F cs' cells'.toList/\(∀ u,u∈cells'.toList->u.oneCell'=true)
 | [],vs,cs,cs',cells,he,_,hr,h1,hf=>by
  have:vs=[]:=by simp_all
  subst this;simp only [dx,AQ] at hf;subst hf;exact ⟨cells,rfl,hr,h1⟩
 | (i,x)::ps,[],_,_,_,he,_,_,_,_=>by simp at he
 | (i,x)::ps,(i',v)::vs,cs,cs',cells,he,ha,hr,h1,hf=>by
  simp only [Ac,List.cons.injEq] at he;obtain ⟨rfl,he⟩:=he;have hx:Rel σ w F x v:=ha.2 0 x v rfl rfl;have ha':RelL σ w F (ps.map (·.2)) (vs.map (·.2)):=⟨by simpa using ha.1,fun j a u hj hu=>ha.2 (j+1) a u (by grind) (by grind)⟩
  simp only [dx] at hf;split at hf
  ·rename_i off size xs hpl hxs;split at hf
   ·rename_i hc;obtain ⟨hr2,h2⟩:=hx.cells hxs;have hsz:v.cells.size=size:=by have:=hr2.1;grind
    have hcl:cells.size=cs.length:=by simpa using hr.1
    have hset:=oa off v.cells.toList 0 cells (by simp;omega);rw [AK] at hset;have e1:(v.cells.zipIdx.foldl (fun cs p=>cs.setIfInBounds (off+p.2) p.1) cells)=(v.cells.toList.zipIdx.foldl (fun cs p=>cs.setIfInBounds (off+p.2) p.1) cells):=by grind [Array.toList_zipIdx]
    obtain ⟨cells',hfill,hrel,hone⟩:=lN hp ps vs (splice cs off xs) cs' (v.cells.zipIdx.foldl (fun cs p=>cs.setIfInBounds (off+p.2) p.1) cells) he ha'
     (by rw [e1,hset];exact hr.splice off hr2) (by grind [jM]) hf
    refine ⟨cells',?_,hrel,hone⟩;simp only [Instr.fill,hp _ _ hpl];grind
   ·cases hf
  ·cases hf
theorem wA {fr:List AV} {a:Act} (ha:ARel σ w F fr a) {t:TypeId} {parts:Array (Nat × Operand)} {K:AV->Prop} (h:vcQ P fr aw (.build t parts) K) :
  QOk P G σ w F (Instr.build t (parts.map fun p=>(p.1,a.eval p.2))) K:=by
 simp only [vcQ] at h
 split at h
 ·rename_i z pl hz hpl
  split at h
  ·rename_i cs hcs
   obtain ⟨i,v,hi,hiz,hzl,hz1,hzr⟩:=gK hz
   have hargs:RelL σ w F ((parts.toList.map fun p=>(p.1,ev fr p.2)).map (·.2)) ((parts.toList.map fun p=>(p.1,a.eval p.2)).map (·.2)):=by have:=e6 ha (parts.toList.map (·.2));grind [Function.comp_def]
   have done:∀ (place:Nat->Option (Nat × Nat)),(∀ i x,pl[i]?=some x->place i=some x)->(∀ cells,Instr.fill place v.cells (parts.toList.map fun p=>(p.1,a.eval p.2))=some cells->P.built t (parts.map fun p=>(p.1,a.eval p.2)).toList=some cells) ->
     QOk P G σ w F (Instr.build t (parts.map fun p=>(p.1,a.eval p.2))) K:=by
    intro place hp hb
    obtain ⟨cells,hf,hr,h1⟩:=lN (σ:=σ) (w:=w) (F:=F) (place:=place) hp _ (parts.toList.map fun p=>(p.1,a.eval p.2)) z cs v.cells (by simp) hargs (hzr σ w F) hz1 hcs
    have hrel:=Rel.agg (σ:=σ) (w:=w) (F:=F) cs cells.toList hr.1 h1 hr.2
    rw [Array.toArray_toList] at hrel
    exact .mk' h hrel (fun w'=>run_build w' t _ cells (hb cells hf))
   unfold iK at hpl
   cases hu:P.underlying t with
   | none=>grind
   | some d =>
    rw [hu] at hpl
    cases d<;>try grind
    ·rename_i n e
     simp only [zQ] at hpl
     obtain ⟨ie,hie,rfl⟩:=hpl
     simp_all [zK,Program.built]
    ·rename_i fs
     simp only at hpl
     refine done (fun k=>pl[k]?) (fun k x hk=>hk) (fun cells hf=>?_)
     simp_all [Program.built]
  grind
 grind
theorem qa {fr:List AV} {a:Act} (ha:ARel σ w F fr a) (hs:Sim aw σ w F) (o:Oper) {K:AV->Prop} (hG:(∃ t x,o.op=.load t x)->∀ w',G w'->Agr aw σ w F w') (h:vcQ P fr aw o.op K):NOk P G σ w F (execOp a.eval o) K:=by
  obtain ⟨dst,op,type,pos,after,guard⟩:=o;simp only at h;cases op with
  | move x=>exact .mk' (show K _ from h) (ha.ev x) (fun w'=>by simp [execOp])
  | assign x=>exact .mk' (show K _ from h) (ha.ev x) (fun w'=>by simp [execOp])
  | pick c x y =>
    simp only [vcQ] at h;have hc:=ha.ev c;split at h
    · rename_i b ec;rw [ec] at hc;have hrun:∀ w',(execOp a.eval { dst,op:=.pick c x y,type,pos,after,guard }).run P w'=.ok (.value (if b then a.eval x else a.eval y)) w':=by
        generalize hvc:a.eval c=vc at hc;cases hc;simp_all [execOp,asBool]
      refine .mk' h ?_ hrun;have hx:=ha.ev x;have hy:=ha.ev y;unfold pickV;grind
    grind
  | load t x=>obtain ⟨v,r,h1,h2,h3⟩:=(qC ha hs h).n;exact ⟨v,r,fun w' hw=>h1 w' (hG ⟨t,x,rfl⟩ w' hw),h2,h3⟩
  | fieldAddr t x k=>exact (sI ha h).n
  | field t x k=>exact (wn ha h).n
  | indexAddr t x i=>exact (sE ha hs h).n
  | index t x i=>exact (wi ha h).n
  | slice t x lo hi mx =>
    cases mx with
    | none=>exact (v6 ha h).n
    | some m=>exact (show False from h).elim
  | binOp op t x y yt=>exact (uL (x:=x) (y:=y) (ha.ev x) (ha.ev y) h).n
  | unOp op t x=>exact (w7 ha h).n
  | convert s d x=>exact (ui ha h).n
  | makeFunc fn first caps=>exact (sP ha h).n
  | build t parts=>exact (wA ha h).n
  | extract x k=>exact (uu ha h).n
  | nilCheck x =>
    simp only [vcQ] at h;have hx:=ha.ev x;split at h;all_goals
      first
      | exact h.elim
      | (rename_i e;rw [e] at hx
         refine .mk' h hx (fun w'=>?_)
         generalize hv:a.eval x=vx at hx
         cases hx
         simp [execOp,hv])
  | call c =>
    obtain ⟨callee,args,ats⟩:=c;cases callee with
    | builtin b =>
      obtain ⟨v,r,h1,h2,h3⟩:=w9 (ty:=type) ha hs h;exact .mk' h3 h2 (fun w'=>by grind [execOp,resolve,invoke])
    | value f=>exact (show False from h).elim
    | invoke r m=>exact (show False from h).elim
  | _=>exact (show False from h).elim
theorem lX {fr:List AV} {a:Act} (ha:ARel σ w F fr a) (hs:Sim aw σ w F) (o:Oper) {K:AV->Prop} (h:vcQ P fr aw o.op K):NOk P (Agr aw σ w F) σ w F (execOp a.eval o) K:=qa ha hs o (fun _ _ h=>h) h
theorem vQ {fr:List AV} {a:Act} (ha:ARel σ w F fr a) (hs:Sim aw σ w F) (o:Oper) {K:AV->Prop} (hn:∀ t x,o.op≠.load t x) (h:vcQ P fr aw o.op K):NOk P (fun _=>True) σ w F (execOp a.eval o) K :=
 qa ha hs o (fun ⟨t,x,e⟩=>absurd e (hn t x)) h
end
end
section
open Go.RowKit
section
variable {P:Program} {σ:List Value} {w:World} {F:Nat→Prop} {aw:List Ob}
theorem lE (hs:Sim aw σ w F) (cs:List AV) (vs:Array Value) (ty:TypeId) (hr:RelL σ w F cs vs.toList) (h1:∀ u,u∈vs.toList->u.oneCell'=true) :
  Sim (aw++[.box cs]) (σ++[.pointer (some ⟨w.heap.size,0,none⟩)]) (w.alloc (.cells vs ty)) F /\
  Mv aw σ w F (aw++[.box cs]) (σ++[.pointer (some ⟨w.heap.size,0,none⟩)]) (w.alloc (.cells vs ty)) F /\
  Rel (σ++[.pointer (some ⟨w.heap.size,0,none⟩)]) (w.alloc (.cells vs ty)) F (.ptr aw.length 0) (.pointer (some ⟨w.heap.size,0,none⟩)):=by
 have hk:∀ b,b<w.heap.size->(w.alloc (.cells vs ty)).heap[b]?=w.heap[b]?:=fun b hb=>Below.heap_alloc w _ b hb
 have hn:∀ b,Bk (.box cs) (.pointer (some ⟨w.heap.size,0,none⟩)) b->w.heap.size<=b:=fun b hb=>by grind [Bk,blk]
 refine ⟨hs.push _ _ hk (by simp) ?_ hn,.push hs _ _ rfl rfl drO hk (by simp) hn,.ptr _ _ _ (by rw [<- hs.len];simp)⟩
 refine ⟨w.heap.size,vs,ty,rfl,heap_alloc_new w _,hr.mono (fun _ _ e=>cj e) (fun _ h=>h) (fun b hb=>hk b (hs.lt b hb)),fun u hu=>h1 u (Array.mem_def.1 hu),fun hF=>?_⟩
 have:=hs.lt _ hF;omega
theorem wd {fr:List AV} {a:Act} {e:TypeId} (hs:Sim aw σ w F) {K:AV->List Ob->Prop} (h:vcE P fr aw (.alloc e) K) (o:Oper) (ho:o.op=.alloc e):OpOk P aw σ w F (execOp a.eval o) K:=by
 simp only [vcE] at h;split at h
 ·rename_i z hz;obtain ⟨i,v,hi,hiz,hzl,hz1,hzr⟩:=gK hz;obtain ⟨s1,m1,r1⟩:=lE hs z v.cells e (hzr σ w F) hz1;refine ⟨_,_,_,_,_,_,_,?_,.inl rfl,s1,m1,r1,h⟩;simp_all [execOp,Instr.alloc,jy,newVar,newRow]
 grind
theorem e_box {fr:List AV} {a:Act} (ha:ARel σ w F fr a) {e:TypeId} {x:Operand} (hs:Sim aw σ w F) {K:AV->List Ob->Prop} (h:vcE P fr aw (.box e x) K) (o:Oper) (ho:o.op=.box e x):OpOk P aw σ w F (execOp a.eval o) K:=by
 simp only [vcE] at h;split at h
 ·rename_i cs hc;obtain ⟨hr,h1⟩:=(ha.ev x).cells hc;obtain ⟨s1,m1,r1⟩:=lE hs cs (a.eval x).cells e hr h1;refine ⟨_,_,_,_,_,_,_,?_,.inl rfl,s1,m1,r1,h⟩;simp_all [execOp,Instr.box,newVar,newRow]
 grind
theorem e7 {id:Nat} {e:TypeId} {size:Nat} {rows:List (List AV)} (hs:Sim aw σ w F) (ho:aw[id]?=some (.arr e size rows)) {A:Option Addr} {n c:Nat} (hσ:σ[id]?=some (.slice A n c)) :
  n=rows.length/\∃ flat,w.ownsRow 0 e size (.slice A n c) n flat/\FlatRel σ w F size rows flat/\(rows=[]∨∃ g cur,A=some ⟨g,0,none⟩/\¬ F g/\w.heap[g]?=some (.cells cur e (0,0))/\n<=c/\c<=maxLen/\cur.size=c*size/\cur.toList.take (n*size)=flat):=by
 obtain ⟨fl,hown,hfl,hf,_⟩:=hs.obj id _ _ ho hσ
 have hn:n=rows.length:=by
  rcases hown.2 with ⟨e1,e2⟩ | ⟨g,cap,cur,e1,_⟩
  all_goals grind
 subst hn
 refine ⟨rfl,fl,hown,hfl,?_⟩
 rcases hown.2 with ⟨e1,e2⟩ | ⟨g,cap,cur,e1,_,hg,h1,h2,h3,h4⟩
 ·grind
 ·injection e1 with e3 e4 e5
  subst e3;subst e5
  exact .inr ⟨g,cur,rfl,hf g rfl,hg,h1,h2,h3,h4⟩
theorem iw {size:Nat}:∀ {rows:List (List AV)},(∀ row,row∈rows->row.length=size)->∀ (i j:Nat) row,rows[i]?=some row->j<size->rows.flatten[i*size+j]?=row[j]?
 | [],_,i,j,row,h,_=>by simp at h
 | r::rows,hl,0,j,row,h,hj=>by
  grind
 | r::rows,hl,i+1,j,row,h,hj=>by
  have hr:=hl r (by simp);simp only [Aq];rw [AE (by grind),hr];have:(i+1)*size+j - size=i*size+j:=by grind
  rw [this];exact iw (fun row h=>hl row (by simp [h])) i j row (by simpa using h) hj
theorem lP {size:Nat} {rows:List (List AV)} {flat:List Value} (hfl:FlatRel σ w F size rows flat) {i:Nat} {row:List AV} (hi:rows[i]?=some row) :
  row.length=size/\∀ (j:Nat) x,row[j]?=some x->∃ u,flat[i*size+j]?=some u/\Rel σ w F x u/\u.oneCell'=true:=by
 have hl:row.length=size:=hfl.1 row (zM hi)
 refine ⟨hl,fun j x hx=>?_⟩
 have hj:j<size:=by grind
 have hf:=iw hfl.1 i j row hi hj
 rw [hx] at hf
 obtain ⟨u,hu,hr⟩:=hfl.2.2.get hf
 exact ⟨u,hu,hr,hfl.2.1 u (zM hu)⟩
theorem ww {fr:List AV} {a:Act} (ha:ARel σ w F fr a) {t:TypeId} {x:Operand} (hs:Sim aw σ w F) {K:AV->List Ob->Prop} (h:vcE P fr aw (.load t x) K) (o:Oper) (ho:o.op=.load t x):∃ v r,(execOp a.eval o).run P w=.ok (.value v) w/\Rel σ w F r v/\K r aw:=by
 simp only [vcE] at h;have hx:=ha.ev x;split at h
 ·rename_i id size i off ex;rw [ex] at hx;split at h
  ·rename_i e size' rows hob;obtain ⟨rfl,hi,h⟩:=h;have h:=h _ (zJ hi);generalize hv:a.eval x=vx at hx;cases hx with
   | aptr _ _ _ _ g n c hσ =>
    obtain ⟨hn,flat,hown,hfl,hc⟩:=e7 hs hob hσ;rcases hc with hc | ⟨g',cur,e1,hF,hg,h1,h2,h3,h4⟩
    ·grind
    ·injection e1 with e1
     injection e1 with e1
     subst e1;obtain ⟨hl,hrow⟩:=lP hfl (zJ hi);have hu:∀ j:Nat,j<(rows[i]).length->∃ u,flat[i*size' + j]?=some u/\Rel σ w F (rows[i][j]?.getD .any) u/\u.oneCell'=true:=fun j hj=>by grind
     have hq:=lv (P:=P) (aw:=[]) (σ:=[]) (w:=w) (F:=fun b=>b=g) (σ':=σ) (F':=F) (w0:=w) (ad:=(⟨g,0,none⟩:Addr).add (i*size')) (u:=fun j=>flat.getD (i*size' + j) undef) (row:=rows[i])
      (fun j hj=>by grind)
      (fun w' hw' j hj=>by obtain ⟨u,a1,_,_⟩:=hu j hj;rw [dI,cP,cell_of_row w' g _ cur e (0,0) ((hw' g (.inl rfl)).trans hg),z8,a1];grind)
      (fun j x hx=>by grind) h
     obtain ⟨v,r,hrun,hr,hK⟩:=hq;refine ⟨v,r,?_,hr,hK⟩;have:=hrun w (fun b _=>rfl);rw [dI,cP] at this;simp_all [execOp,Instr.loadAt,Instr.sureAddr]
  grind
 grind
theorem xz {fr:List AV} {a:Act} (ha:ARel σ w F fr a) {t:TypeId} {x:Operand} (hs:Sim aw σ w F) {K:AV->List Ob->Prop} (h:vcE P fr aw (.load t x) K) (o:Oper) (ho:o.op=.load t x):OpOk P aw σ w F (execOp a.eval o) K:=by obtain ⟨v,r,h1,h2,h3⟩:=ww ha hs h o ho;exact ⟨v,_,w,aw,σ,F,r,h1,.inl rfl,hs,.refl ..,h2,h3⟩
theorem sv {α:Type} (a b vs:List α) (off:Nat) (h:off+vs.length<=a.length):(a++b).take off++vs++(a++b).drop (off+vs.length)=(a.take off++vs++a.drop (off+vs.length))++b:=by grind
theorem r6 {α:Type} (a b vs:List α) (off:Nat):(a++b).take (a.length+off)++vs++(a++b).drop (a.length+off+vs.length)=a++(b.take off++vs++b.drop (off+vs.length)):=by simp [List.take_length_add_append,Nat.add_assoc]
theorem kY {size:Nat} {vs:List AV} {off:Nat} (h:off+vs.length<=size):∀ {rows:List (List AV)},(∀ row,row∈rows->row.length=size)->∀ (i:Nat) row,rows[i]?=some row ->
  (rows.set i (splice row off vs)).flatten=splice rows.flatten (i*size+off) vs
 | [],_,i,row,hi=>by simp at hi
 | r::rows,hl,0,row,hi=>by
  simp at hi;subst hi;have:=hl r (by simp);simp only [List.set_cons_zero,Aq,splice,Nat.zero_mul,AN];grind
 | r::rows,hl,i+1,row,hi=>by
  have hr:=hl r (by simp);have ih:=kY h (fun row h=>hl row (by simp [h])) i row (by grind) (rows:=rows);simp only [List.set_cons_succ,Aq,ih];have e:(i+1)*size+off=r.length+(i*size+off):=by grind
  rw [e];exact (r6 r rows.flatten vs (i*size+off)).symm
theorem nk (cur us:List Value) (k m:Nat) (h:k+us.length<=m) (hm:m<=cur.length):(bf cur k us).take m=bf (cur.take m) k us:=by unfold bf;have h1:cur=cur.take m++cur.drop m:=(Av m cur).symm;have h2:=sv (cur.take m) (cur.drop m) us k (by simp;omega);rw [<- h1] at h2;rw [h2,List.take_append_of_le_length (by simp;omega)];exact Ab (by simp;omega)
theorem m8 (cur us:List Value) (k:Nat) (h:k+us.length<=cur.length):(bf cur k us).length=cur.length:=by grind [bf]
theorem wN {fr:List AV} {a:Act} (ha:ARel σ w F fr a) {t:TypeId} {x y:Operand} (hs:Sim aw σ w F) {K:AV->List Ob->Prop} (h:vcE P fr aw (.store t x y) K) (o:Oper) (ho:o.op=.store t x y):OpOk P aw σ w F (execOp a.eval o) K:=by
 simp only [vcE] at h;have hx:=ha.ev x;split at h
 ·rename_i id off vs ex hvs;rw [ex] at hx;split at h
  ·rename_i cs hob;obtain ⟨hsome,hlen,hfit,h⟩:=h;obtain ⟨d,hd⟩:=zU.1 hsome;obtain ⟨hr,h1⟩:=(ha.ev y).cells hvs;generalize hv:a.eval x=vx at hx;cases hx with
   | ptr _ _ g hσ =>
    obtain ⟨g',cur,ty,e1,hg,hcr,hc1,hF⟩:=hs.obj id _ _ hob hσ;injection e1 with e1
    injection e1 with e1
    injection e1 with e1
    subst e1;have hcl:cur.size=cs.length:=by simpa using hcr.1
    have hul:(a.eval y).cells.toList.length=vs.length:=hr.1;have hst:=run_storeCells_at P g off ty (a.eval y).cells.toList 0 cur w hg (by omega) h1;have hk:∀ b,b≠g->(w.setRow g (bf cur.toList off (a.eval y).cells.toList).toArray).heap[b]?=w.heap[b]?:=fun b hb=>setRow_other w g b _ hb
    have hself:Sim (aw.set id (.box (splice cs off vs))) σ (w.setRow g (bf cur.toList off (a.eval y).cells.toList).toArray) F:=by
     refine hs.write (b0:=g) id hob rfl hσ rfl hk (by simp) (.box (splice cs off vs)) ⟨g,_,ty,rfl,setRow_heap w g cur _ ty (0,0) hg,?_,?_,hF⟩ (fun _ h=>h)
     ·have:=(hcr.splice off hr).mono (σ':=σ) (w':=w.setRow g (bf cur.toList off (a.eval y).cells.toList).toArray) (F':=F) (fun _ _ e=>e) (fun _ e=>e) (fun b hb=>hk b (fun e=>hF (e▸hb)));omega
     grind [jM]
    refine ⟨undef,_,_,_,σ,F,.any,?_,.inr ⟨rfl,rfl⟩,hself,Mv.write (w:=w) (F:=F) (w':=w.setRow g _) (b0:=g) id hob rfl hσ rfl rfl rfl drO hk (by simp) (.box (splice cs off vs)) (fun _ h=>h),.any _,h⟩;simp_all [execOp,Instr.storeAt,Instr.sureAddr,storeVar,cL,bf]
  grind
 ·rename_i id size i off vs ex hvs;rw [ex] at hx;split at h
  ·rename_i e size' rows hob;obtain ⟨hsome,rfl,hlen,hi,hfit,h⟩:=h;have h:=h _ (zJ hi);obtain ⟨d,hd⟩:=zU.1 hsome;obtain ⟨hr,h1⟩:=(ha.ev y).cells hvs;generalize hv:a.eval x=vx at hx;cases hx with
   | aptr _ _ _ _ g n c hσ =>
    obtain ⟨hn,flat,hown,hfl,hc⟩:=e7 hs hob hσ;rcases hc with hc | ⟨g',cur,e1,hF,hg,hnc,h2,h3,h4⟩
    ·grind
    ·injection e1 with e1
     injection e1 with e1
     subst e1;have hul:(a.eval y).cells.toList.length=vs.length:=hr.1;have hin:i*size' + off+vs.length<=n*size':=by have:(i+1)*size'<=n*size':=Ao _ (by omega);grind
     have hcap:n*size'<=cur.size:=by simp_all [Ao]
     have hst:=run_storeCells_at P g (i*size' + off) e (a.eval y).cells.toList 0 cur w hg (by omega) h1;have hk:∀ b,b≠g->(w.setRow g (bf cur.toList (i*size' + off) (a.eval y).cells.toList).toArray).heap[b]?=w.heap[b]?:=fun b hb=>setRow_other w g b _ hb
     have hflat:flat.length=n*size':=hown.1;have hself:Sim (aw.set id (.arr e size' (rows.set i (splice rows[i] off vs)))) σ (w.setRow g (bf cur.toList (i*size' + off) (a.eval y).cells.toList).toArray) F:=by
      refine hs.write (b0:=g) id hob rfl hσ rfl hk (by simp) (.arr e size' (rows.set i (splice rows[i] off vs))) ⟨bf flat (i*size' + off) (a.eval y).cells.toList,⟨?_,.inr ⟨g,c,(bf cur.toList (i*size' + off) (a.eval y).cells.toList).toArray,?_,Ae _,setRow_heap w g cur _ e (0,0) hg,?_,h2,?_,?_⟩⟩,⟨?_,?_,?_⟩,?_,_,_,_,rfl⟩ (fun _ h=>h)
      ·grind [m8]
      ·grind
      ·grind
      ·grind [m8]
      ·simp_all [nk]
      ·intro row hrow;rcases List.mem_or_eq_of_mem_set hrow with hm | rfl
       ·exact hfl.1 row hm
       ·have:=hfl.1 rows[i] (Aa hi);grind [splice]
      ·exact jM hfl.2.1 h1
      ·rw [kY hfit hfl.1 i rows[i] (zJ hi)];exact (hfl.2.2.splice _ hr).mono (fun _ _ e=>e) (fun _ e=>e) (fun b hb=>hk b (fun e=>hF (e▸hb)))
      grind [Value.ownBlock]
     refine ⟨undef,_,_,_,σ,F,.any,?_,.inr ⟨rfl,rfl⟩,hself,Mv.write (w:=w) (F:=F) (w':=w.setRow g _) (b0:=g) id hob rfl hσ rfl rfl rfl drO hk (by simp) (.arr e size' (rows.set i (splice rows[i] off vs))) (fun _ h=>h),.any _,h⟩;simp_all [execOp,Instr.storeAt,Instr.sureAddr,storeVar,cL,bf]
  grind
 grind
theorem qf {F':Nat->Prop} (hFF:∀ b,F b->F' b) {id:Nat} {e:TypeId} {size:Nat} {rows:List (List AV)} (hs:Sim aw σ w F) (ho:aw[id]?=some (.arr e size rows)) {A:Option Addr} {n c:Nat} (hσ:σ[id]?=some (.slice A n c))
  (hF:∀ b,blk (.slice A n c)=some b->F' b):Rel σ w F' (.sl rows) (.slice A n c):=by
 obtain ⟨hn,flat,hown,hfl,hc⟩:=e7 hs ho hσ
 by_cases hne:rows=[]
 ·subst hne
  simp at hn
  subst hn
  rcases hown.2 with ⟨e1,_⟩ | ⟨g,cap,cur,e1,_,_,_,h2,_⟩
  ·rw [e1];exact .slNil
  ·injection e1 with e3 e4 e5
   subst e3;subst e5
   exact .sl [] 0 ⟨g,0,none⟩ c (fun _ _=>undef) (fun h=>absurd rfl h) (Ae _) h2 (fun _ h=>by simp at h) (fun i j hi=>by simp at hi) (fun i j hi=>by simp at hi) (fun i row j x hi=>by simp at hi)
 ·rcases hc with hc | ⟨g,cur,rfl,_,hg,h1,h2,h3,h4⟩
  ·grind
  ·subst hn
   have key:∀ i j:Nat,i<rows.length->j<size->∃ x u,(rows[i]?.bind (·[j]?))=some x/\flat[i*size+j]?=some u/\Rel σ w F x u/\u.oneCell'=true:=fun i j hi hj=>by obtain ⟨hl,hrow⟩:=lP hfl (zJ hi);simp_all
   refine .sl rows size ⟨g,0,none⟩ c (fun i j=>flat.getD (i*size+j) undef) (fun _=>hF g rfl) h1 h2 hfl.1 (fun i j hi hj=>?_) (fun i j hi hj=>?_) (fun i row j x hi hx=>?_)
   ·grind
   ·grind [cP,cell_of_row]
   ·obtain ⟨hl,hrow⟩:=lP hfl hi
    obtain ⟨u,a1,a2,_⟩:=hrow j x hx
    rw [z8,a1]
    exact a2.mono (fun _ _ e=>e) hFF (fun _ _=>rfl)
theorem oB (hs:Sim aw σ w F) {x:AV} {v:Value} (hr:Rel σ w F x v):∃ F',Sim (bB aw x).2 σ w F'/\Mv aw σ w F (bB aw x).2 σ w F'/\Rel σ w F' (bB aw x).1 v:=by
 have same:∀ {r:AV},Rel σ w F r v->bB aw x=(r,aw)->∃ F',Sim (bB aw x).2 σ w F'/\Mv aw σ w F (bB aw x).2 σ w F'/\Rel σ w F' (bB aw x).1 v:=by intro r h1 h2;rw [h2];exact ⟨F,hs,.refl ..,h1⟩
 cases hr with
 | nils=>exact same .slNil rfl
 | ref id A n c h =>
  cases ho:aw[id]? with
  | none=>exact same (.any _) (by simp [bB,ho])
  | some o =>
   cases o with
   | dead=>exact same (.any _) (by simp [bB,ho])
   | box cs=>exact same (.any _) (by simp [bB,ho])
   | mp ks vs=>exact same (.any _) (by simp [bB,ho])
   | hd e k2=>exact same (.any _) (by simp [bB,ho])
   | cl e s cs=>exact same (.any _) (by simp [bB,ho])
   | arrU e s rows x=>exact same (.any _) (by simp [bB,ho])
   | boxB t cs=>exact same (.any _) (by simp [bB,ho])
   | arr e size rows =>
    have e1:bB aw (.ref id)=(.sl rows,aw.set id .dead):=by simp [bB,ho]
    rw [e1];exact ⟨_,hs.drop id ho rfl h,.drop id ho rfl h,qf (fun _ h=>.inl h) hs ho h (fun b hb=>.inr hb)⟩
 | any v=>exact same (.any _) rfl
 | int k n=>exact same (.int k n) rfl
 | bool b=>exact same (.bool b) rfl
 | str s=>exact same (.str s) rfl
 | agg cs vs h h1 hc=>exact same (.agg cs vs h h1 hc) rfl
 | tup cs vs h hc=>exact same (.tup cs vs h hc) rfl
 | slNil=>exact same .slNil rfl
 | sl rows size ad c u h1 h2 h3 h4 h5 h6 h7=>exact same (.sl rows size ad c u h1 h2 h3 h4 h5 h6 h7) rfl
 | ptr id off g h=>exact same (.ptr id off g h) rfl
 | elt row off ad u h1 h2 h3 h4=>exact same (.elt row off ad u h1 h2 h3 h4) rfl
 | aptr id size i off g n c h=>exact same (.aptr id size i off g n c h) rfl
 | func f cs vs h hc=>exact same (.func f cs vs h hc) rfl
 | bnd f cs vs h hc=>exact same (.bnd f cs vs h hc) rfl
 | nilf=>exact same .nilf rfl
 | nilp=>exact same .nilp rfl
 | nili=>exact same .nili rfl
 | mpr id r h=>exact same (.mpr id r h) rfl
 | np0 id=>exact same (.np0 id) rfl
 | npS id g h=>exact same (.npS id g h) rfl
 | ifc t a v h=>exact same (.ifc t a v h) rfl
 | cst v=>exact same (.cst v) rfl
 | vw id size lo n N C cap A B h hn hA hk hz=>exact same (.vw id size lo n N C cap A B h hn hA hk hz) rfl
 | ref2 id a n c vs h h0=>exact same (.ref2 id a n c vs h h0) rfl
 | aptr2 id i g n c vs h h0=>exact same (.aptr2 id i g n c vs h h0) rfl
 | iref id i a n c vs h h0=>exact same (.iref id i a n c vs h h0) rfl
theorem nW:∀ {xs:List AV} {vs:List Value} {aw:List Ob} {F:Nat->Prop},Sim aw σ w F->RelL σ w F xs vs->∃ F',Sim (norm0L aw xs).2 σ w F'/\Mv aw σ w F (norm0L aw xs).2 σ w F'/\RelL σ w F' (norm0L aw xs).1 vs
 | [],vs,aw,F,hs,hr=>by
  have:vs=[]:=zN hr.1;subst this;exact ⟨F,hs,.refl ..,.nil⟩
 | x::xs,[],aw,F,hs,hr=>absurd hr.1 (by simp)
 | x::xs,v::vs,aw,F,hs,hr=>by
  have h1:Rel σ w F x v:=hr.2 0 x v rfl rfl;have h2:RelL σ w F xs vs:=⟨by simpa using hr.1,fun j a v ha hv=>hr.2 (j+1) a v (by grind) (by grind)⟩
  obtain ⟨F1,s1,m1,r1⟩:=oB hs h1;obtain ⟨F2,s2,m2,r2⟩:=nW s1 (m1.relL hs h2);exact ⟨F2,s2,m1.trans m2,.cons (m2.rel s1 r1) r2⟩
theorem iU (hs:Sim aw σ w F) {x:AV} {v:Value} (hr:Rel σ w F x v):∃ F',Sim (norm aw x).2 σ w F'/\Mv aw σ w F (norm aw x).2 σ w F'/\Rel σ w F' (norm aw x).1 v:=by
 cases x with
 | agg cs =>
  cases hr with
  | agg _ vs h h1 hc =>
   obtain ⟨F',s1,m1,r1⟩:=nW hs ⟨h,hc⟩;exact ⟨F',s1,m1,.agg _ vs r1.1 h1 r1.2⟩
 | _=>exact oB hs hr
theorem kb:∀ {xs:List AV} {vs:List Value} {aw:List Ob} {F:Nat->Prop},Sim aw σ w F->RelL σ w F xs vs->∃ F',Sim (bA aw xs).2 σ w F'/\Mv aw σ w F (bA aw xs).2 σ w F'/\RelL σ w F' (bA aw xs).1 vs
 | [],vs,aw,F,hs,hr=>by
  have:vs=[]:=zN hr.1;subst this;exact ⟨F,hs,.refl ..,.nil⟩
 | x::xs,[],aw,F,hs,hr=>absurd hr.1 (by simp)
 | x::xs,v::vs,aw,F,hs,hr=>by
  have h1:Rel σ w F x v:=hr.2 0 x v rfl rfl;have h2:RelL σ w F xs vs:=⟨by simpa using hr.1,fun j a v ha hv=>hr.2 (j+1) a v (by grind) (by grind)⟩
  obtain ⟨F1,s1,m1,r1⟩:=iU hs h1;obtain ⟨F2,s2,m2,r2⟩:=kb s1 (m1.relL hs h2);exact ⟨F2,s2,m1.trans m2,.cons (m2.rel s1 r1) r2⟩
theorem n5:∀ {xs:List AV} {aw:List Ob},(bA aw xs).1.length=xs.length
 | [],_=>rfl
 | x::xs,aw=>by simp [bA,n5]
end
end
section
open Go.RowKit
section
variable {P:Program} {σ:List Value} {w:World} {F:Nat→Prop} {aw:List Ob}
theorem vY {fr:List AV} {a:Act} (ha:ARel σ w F fr a) {t:TypeId} {x:Operand} {lo hi mx:Option Operand} (hs:Sim aw σ w F) {K:AV->List Ob->Prop} (h:vcE P fr aw (.slice t x lo hi mx) K) (o:Oper) (ho:o.op=.slice t x lo hi mx):OpOk P aw σ w F (execOp a.eval o) K:=by
 cases mx with
 | some m=>exact (show False from h).elim
 | none =>
 simp only [vcE] at h;obtain ⟨F',s1,m1,r1⟩:=iU hs (ha.ev x);split at h
 ·rename_i e rows aw' hu en;rw [en] at s1 m1 r1;split at h
  ·rename_i kl l kh hh el eh;obtain ⟨hsome,hrow,h0,h1,h2,h⟩:=h;obtain ⟨d,hd⟩:=zU.1 hsome;generalize hv:a.eval x=vx at r1;have hform:∃ A n c,vx=.slice A n c:=by cases r1<;>exact ⟨_,_,_,rfl⟩
   obtain ⟨A,n,c,rfl⟩:=hform;obtain ⟨hn,hnc,hr⟩:=r1.piece (l:=l.toNat) (h:=hh.toNat) hrow (by omega) (by omega);subst hn;refine ⟨_,_,w,aw',σ,F',_,?_,.inl rfl,s1,m1,hr,h⟩;have b:=fun w'=>jG (P:=P) ha (b:=true) (cap:=c) el eh h0 h1 h2 hnc w'
   simp [execOp,ho,hv,Instr.sliceAt,Instr.slice,Sem.run_bind,run_underlying hu,b,cL hd]
  grind
 grind
theorem uf {fr:List AV} {a:Act} (ha:ARel σ w F fr a) {s d:TypeId} {x:Operand} (hs:Sim aw σ w F) {K:AV->List Ob->Prop} (h:vcE P fr aw (.convert s d x) K) (o:Oper) (ho:o.op=.convert s d x):OpOk P aw σ w F (execOp a.eval o) K:=by
 simp only [vcE] at h;obtain ⟨F',s1,m1,r1⟩:=iU hs (ha.ev x);split at h
 ·rename_i e rows aw' hus hud en;rw [en] at s1 m1 r1;obtain ⟨hue,hall,h⟩:=h;generalize hv:a.eval x=vx at r1;have hrun:(convert s d vx).run P w=.ok (.string ⟨(rows.map pP).toArray⟩) w:=by
   cases r1 with
   | slNil =>
    rw [run_convert_bytes_nil w s e hus hue 0 0 d hud];rfl
   | sl _ size ad c u hF hn hm hrow hone hcell hrel =>
    rw [run_convert_bytes_string w s d e (some ad) rows.length c hus hue hud];have hb:∀ (i:Nat) row,rows[i]?=some row->∃ n,row=[.int .u8 n]/\w.cell? (ad.add i)=some (.int .u8 n):=fun i row hi=>by
     have h1:=Ak.1 hall row (zM hi);match row,h1,hi with
     | [.int .u8 n],_,hi =>
      have hsz:=hrow _ (zM hi)
      simp at hsz
      subst hsz
      have hlt:=(zK.1 hi).1
      have hc:=hcell i 0 hlt (by omega)
      have hr:=hrel i _ 0 _ hi rfl
      generalize u i 0=v at hc hr
      cases hr
      grind
    have hl:=run_loadCells_list (P:=P) w ad ((rows.map fun row=>match row with | [.int .u8 n]=>n | _=>0).map (Value.int .u8)) (fun j v hj=>by grind)
    rw [zZ,zZ] at hl;rw [run_bytesToString w ad _ _ _ hl,foldl_push_bytes];congr 2;apply ByteArray.ext;simp only [AO];apply Array.ext';simp only [ByteArray.empty,ByteArray.emptyWithCapacity,Array.toList_append,List.toList_toArray,Array.emptyWithCapacity,AJ];apply Au;intro row hr;obtain ⟨i,hi⟩:=A1 hr;obtain ⟨n,rfl,_⟩:=hb i row hi;rfl
  refine ⟨_,_,w,aw',σ,F',_,?_,.inl rfl,s1,m1,.str _,h⟩;simp_all [execOp]
 grind
theorem pp {z:List AV} {vc:Array Value} (hz:RelL σ w F z vc.toList) (h0:0<z.length) (len:Nat):RelL σ w F (List.replicate len z).flatten (madeCells vc (len*z.length)).toList:=by
 have hl:vc.size=z.length:=by simpa using hz.1
 have hlen:(List.replicate len z).flatten.length=len*z.length:=by simp
 refine ⟨by simp [madeCells],fun k x v hx hv=>?_⟩;have hk:k<len*z.length:=by grind
 have hdiv:k / z.length<len:=A3 (by grind);have hmod:k % z.length<z.length:=Nat.mod_lt _ h0;have e:k=k / z.length*z.length+k % z.length:=by simp [Nat.mul_comm,Nat.div_add_mod]
 have hf:=iw (size:=z.length) (rows:=List.replicate len z) (fun row hr=>by grind) (k / z.length) (k % z.length) z (by grind) hmod;rw [<- e] at hf;rw [hf] at hx;obtain ⟨u,hu,hr⟩:=hz.get hx;grind [madeCells]
theorem oY {vc:Array Value} (h1:∀ u,u∈vc.toList->u.oneCell'=true) (h0:0<vc.size) (n:Nat):∀ u,u∈(madeCells vc n).toList->u.oneCell'=true:=by grind [madeCells,Nat.mod_lt]
theorem nr {size:Nat}:∀ (ps:List (Nat × AV)) (rows rows':List (List AV)),(∀ row,row∈rows->row.length=size)->f9 P size rows ps=some rows' ->
  dx (fun i=>if i<rows.length then some (i*size,size) else none) rows.flatten ps=some rows'.flatten/\(∀ row,row∈rows'->row.length=size)/\rows'.length=rows.length
 | [],rows,rows',hl,h=>by
  simp only [f9,AQ] at h;subst h;exact ⟨rfl,hl,rfl⟩
 | (i,v)::ps,rows,rows',hl,h=>by
  simp only [f9] at h;split at h
  ·rename_i vs hvs;split at h
   ·rename_i hc;obtain ⟨hc1,hc2⟩:=hc;have hl':∀ row,row∈rows.set i vs->row.length=size:=fun row hr=>by
     grind
    obtain ⟨h1,h2,h3⟩:=nr ps (rows.set i vs) rows' hl' h;rw [Ax] at h1 h3;refine ⟨?_,h2,h3⟩;have hflen:rows.flatten.length=rows.length*size:=by
     clear h h1 h2 h3 hl' hc2;induction rows with
     | nil=>simp
     | cons r rows ih=>grind
    have hi1:i*size+size<=rows.length*size:=by have:(i+1)*size<=rows.length*size:=Ao _ hc2;grind
    have hsp:=kY (size:=size) (vs:=vs) (off:=0) (by omega) hl i rows[i] (zJ hc2);have hrow:splice rows[i] 0 vs=vs:=by grind [splice]
    simp_all [dx]
   ·cases h
  ·cases h
theorem sa {fr:List AV} {a:Act} (ha:ARel σ w F fr a) {t:TypeId} {len:Nat} {parts:Array (Nat × Operand)} (hs:Sim aw σ w F) {K:AV->List Ob->Prop} (h:vcE P fr aw (.buildSlice t len parts) K) (o:Oper) (ho:o.op=.buildSlice t len parts):OpOk P aw σ w F (execOp a.eval o) K:=by
 simp only [vcE] at h;split at h
 ·rename_i e hu;split at h
  ·rename_i z hz;obtain ⟨hzl,h0,hbig,h⟩:=h;split at h
   ·rename_i rows hrows;obtain ⟨i,v,hi,hiz,hvl,hv1,hvr⟩:=gK hz;have hvsz:v.cells.size=z.length:=by omega
    obtain ⟨hf,hl,hlen⟩:=nr (P:=P) _ (List.replicate len z) rows (fun row hr=>by grind) hrows;have hargs0:RelL σ w F (parts.toList.map fun p=>ev fr p.2) (parts.toList.map fun p=>a.eval p.2):=by have:=e6 ha (parts.toList.map (·.2));grind [Function.comp_def]
    obtain ⟨F1,s1,m1,r1⟩:=kb hs hargs0;have hlen1:(bA aw (parts.toList.map fun p=>ev fr p.2)).1.length=parts.toList.length:=by simp [n5]
    have hargs:RelL σ w F1 (((parts.toList.map (·.1)).zip (bA aw (parts.toList.map fun p=>ev fr p.2)).1).map (·.2)) ((parts.toList.map fun p=>(p.1,a.eval p.2)).map (·.2)):=by simp_all [List.map_snd_zip,Function.comp_def]
    have hinit:=pp (hvr σ w F1) (by omega) len;have hone:=oY hv1 (by omega) (len*z.length);rw [hzl] at hinit hone;obtain ⟨cells,hfill,hr,h1⟩:=lN (place:=fun i=>some (i*P.cellsOf e,P.cellsOf e)) (fun i x hx=>by grind) _ (parts.toList.map fun p=>(p.1,a.eval p.2)) _ _ _ (by simp_all [List.map_fst_zip]) hargs hinit hone hf
    have hfl:FlatRel σ w F1 (P.cellsOf e) rows cells.toList:=⟨hl,h1,hr⟩
    rw [List.length_replicate] at hlen;have hmx:rows.length<=maxLen:=by have:len*1<=len*P.cellsOf e:=Nat.mul_le_mul_left _ h0;grind [maxLen]
    have hsize:∀ w:World,(sizeOf e).run P w=.ok (P.cellsOf e) w:=fun w=>by simp_all [sizeOf,typeInfo,Program.cellsOf]
    have hrun:(Instr.buildSlice t len (parts.map fun p=>(p.1,a.eval p.2))).run P w=.ok (.slice (some ⟨w.heap.size,0,none⟩) len len) (w.alloc (.cells cells e)):=by
     by_cases hz0:len*P.cellsOf e=0
     ·have:madeCells v.cells (len*P.cellsOf e)=#[]:=Array.eq_empty_of_size_eq_zero (by grind [size_madeCells]);rw [this] at hfill;have e0:Array.range 0=#[]:=Array.eq_empty_of_size_eq_zero (by simp);simp [Instr.buildSlice,Sem.run_bind,run_underlying hu,hsize,hz0,e0,hfill,newRow]
     ·unfold madeCells at hfill;have hbig':¬ 2 ^ 24<len*P.cellsOf e:=by omega
      simp [Instr.buildSlice,Sem.run_bind,run_underlying hu,hsize,hz0,hbig',jy hi hiz,hfill,newRow]
    have hk:∀ b,b<w.heap.size->(w.alloc (.cells cells e)).heap[b]?=w.heap[b]?:=fun b hb=>Below.heap_alloc w _ b hb
    have hn:∀ (e s:Nat) (rows:List (List AV)) b,Bk (.arr e s rows) (.slice (some ⟨w.heap.size,0,none⟩) len len) b->w.heap.size<=b:=fun e s rows b hb=>by grind [Bk,blk]
    have hcl:cells.toList.length=rows.length*P.cellsOf e:=by
     rw [hr.1];have:∀ l:List (List AV),(∀ row,row∈l->row.length=P.cellsOf e)->l.flatten.length=l.length*P.cellsOf e:=by
      intro l;induction l with
      | nil=>simp
      | cons x l ih =>
       grind
     grind
    refine ⟨_,_,_,_,σ++[.slice (some ⟨w.heap.size,0,none⟩) len len],F1,_,?_,.inl rfl,s1.push (.arr e (P.cellsOf e) rows) _ hk (by simp) ?_ (hn _ _ _),m1.trans (.push s1 _ _ rfl rfl drO hk (by simp) (hn _ _ _)),.ref _ (some ⟨w.heap.size,0,none⟩) len len (by rw [<- s1.len];simp),h⟩
    ·simp_all [execOp]
    ·refine ⟨cells.toList,⟨hcl,.inr ⟨w.heap.size,len,cells,by rw [hlen],Ae _,heap_alloc_new w _,by omega,by omega,by grind,by grind⟩⟩,
      ⟨hl,h1,hr.mono (fun _ _ e=>cj e) (fun _ e=>e) (fun b hb=>hk b (s1.lt b hb))⟩,fun g hg hF=>?_,_,_,_,rfl⟩
     simp [Value.ownBlock] at hg;have:=s1.lt g hF;omega
   grind
  grind
 grind
theorem Sim.push2 {w':World} (h:Sim aw σ w F) (o:Ob) (v:Value) (hk:∀ b,(F b∨Dof aw σ b)->w'.heap[b]?=w.heap[b]?) (hs:w.heap.size<=w'.heap.size)
  (ho:ORel (σ++[v]) w' F o v) (hnew:∀ b,Bk o v b->¬ Dof aw σ b):Sim (aw++[o]) (σ++[v]) w' F:=by
 have old:∀ (k:Nat) o1 v1,aw[k]?=some o1->(σ++[v])[k]?=some v1->σ[k]?=some v1:=fun k o1 v1 h1 hv1=>by have hlt:=(zK.1 h1).1;rw [zS (by rw [h.len];exact hlt)] at hv1;exact hv1
 have last:∀ (k:Nat) v1,k=aw.length->(σ++[v])[k]?=some v1->v1=v:=fun k v1 e hv1=>by rw [e,<- h.len] at hv1;grind
 refine ⟨by simp [h.len],fun k o1 v1 ho1 hv1=>?_,fun k k' o1 o2 v1 v2 g hne ho1 ho2 hl1 hl2 hv1 hv2 hb1 hb2=>?_,fun b hb=>zX (h.lt b hb) hs,h.gd.mono (fun _ hb=>hb) fun b hb=>hk b (.inl hb)⟩
 ·rcases cN ho1 with h1 | ⟨e,rfl⟩
  ·have hv1':=old k o1 v1 h1 hv1
   refine (h.obj k o1 v1 h1 hv1').mono (fun _ _ e=>cj e) (fun _ e=>e) (fun b hb=>hk b (.inl hb)) (fun hl b hb=>?_)
   have hd:Dof aw σ b:=⟨k,o1,v1,h1,hl,hv1',hb⟩
   exact ⟨hk b (.inr hd),h.free hd⟩
  grind
 ·rcases cN ho1 with h1 | ⟨e1,rfl⟩
  ·rcases cN ho2 with h2 | ⟨e2,rfl⟩
   ·exact h.sep k k' o1 o2 v1 v2 g hne h1 h2 hl1 hl2 (old _ _ _ h1 hv1) (old _ _ _ h2 hv2) hb1 hb2
   ·have:=last _ _ e2 hv2;subst this
    exact hnew g hb2 ⟨k,o1,v1,h1,hl1,old _ _ _ h1 hv1,hb1⟩
  ·have:=last _ _ e1 hv1;subst this
   rcases cN ho2 with h2 | ⟨e2,rfl⟩
   ·exact hnew g hb1 ⟨k',o2,v2,h2,hl2,old _ _ _ h2 hv2,hb2⟩
   omega
theorem sH {fr:List AV} {a:Act} (ha:ARel σ w F fr a) {t:TypeId} {l c:Operand} (hs:Sim aw σ w F) {K:AV->List Ob->Prop} (h:vcE P fr aw (.makeSlice t l c) K) (o:Oper) (ho:o.op=.makeSlice t l c):OpOk P aw σ w F (execOp a.eval o) K:=by
 simp only [vcE] at h;have hl:=ha.ev l;have hc:=ha.ev c;split at h
 ·rename_i e kl n kc m hu el ec;rw [el] at hl;rw [ec] at hc;split at h
  ·rename_i z hz;obtain ⟨hzl,h0,hn0,hnm,_,hbytes,hmx,h⟩:=h;obtain ⟨i,v,hi,hiz,hvl,hv1,hvr⟩:=gK hz;generalize hvl':a.eval l=vl at hl;generalize hvc':a.eval c=vc at hc;cases hl;cases hc;have hvsz:v.cells.size=z.length:=by omega
   have hsz:P.cellsOf e=i.size:=by grind [Program.cellsOf]
   have hby:P.bytesOf e=i.bytes:=by grind [Program.bytesOf]
   have hrun:=run_make (P:=P) w t e i v hu hi hiz kl kc n m hn0 hnm (by grind) (by grind [maxLen])
   rw [<- hsz] at hrun;have hk:∀ b,b<w.heap.size->(w.alloc (.cells (madeCells v.cells (m.toNat*P.cellsOf e)) e)).heap[b]?=w.heap[b]?:=fun b hb=>Below.heap_alloc w _ b hb
   have hn:∀ (e s:Nat) (rows:List (List AV)) b,Bk (.arr e s rows) (.slice (some ⟨w.heap.size,0,none⟩) n.toNat m.toNat) b->w.heap.size<=b:=fun e s rows b hb=>by grind [Bk,blk]
   have hle:n.toNat*P.cellsOf e<=m.toNat*P.cellsOf e:=Ao _ (by omega);have hinit:=pp (hvr σ w F) (by omega) n.toNat;rw [hzl] at hinit;have htake:(madeCells v.cells (m.toNat*P.cellsOf e)).toList.take (n.toNat*P.cellsOf e)=(madeCells v.cells (n.toNat*P.cellsOf e)).toList:=by simp only [madeCells,Array.toList_map,Array.toList_range];rw [<- List.map_take,List.take_range,A0 hle]
   refine ⟨_,_,_,aw++[.arr e (P.cellsOf e) (List.replicate n.toNat z)],σ++[.slice (some ⟨w.heap.size,0,none⟩) n.toNat m.toNat],F,_,?_,.inl rfl,hs.push (w':=w.alloc (.cells (madeCells v.cells (m.toNat*P.cellsOf e)) e)) (.arr e (P.cellsOf e) (List.replicate n.toNat z)) _ hk (by simp) ?_ (hn _ _ _),.push (w':=w.alloc (.cells (madeCells v.cells (m.toNat*P.cellsOf e)) e)) hs (.arr e (P.cellsOf e) (List.replicate n.toNat z)) _ rfl rfl drO hk (by simp) (hn _ _ _),.ref _ (some ⟨w.heap.size,0,none⟩) n.toNat m.toNat (by rw [<- hs.len];simp),h⟩
   ·simp_all [execOp]
   ·refine ⟨(madeCells v.cells (n.toNat*P.cellsOf e)).toList,⟨by simp [madeCells],.inr ⟨w.heap.size,m.toNat,_,by simp,Ae _,heap_alloc_new w _,by simp;omega,hmx,size_madeCells _ _,by grind⟩⟩,
     ⟨fun row hr=>by grind,oY hv1 (by omega) _,hinit.mono (fun _ _ e=>cj e) (fun _ e=>e) (fun b hb=>hk b (hs.lt b hb))⟩,fun g hg hF=>?_,_,_,_,rfl⟩
    simp [Value.ownBlock] at hg;have:=hs.lt g hF;omega
  grind
 grind
theorem sA {t ty e:TypeId} {size n:Nat} {v:Value} {xs:List Value} (ht:P.underlying t=some (.slice e)) (hi:(P.info? e).isSome=true) (hown:w.ownsRow 0 e size v n xs) :
  (Builtin.append_ #[t,t] ty #[v,.slice none 0 0]).run P w=.ok v w:=by
 obtain ⟨i,hi⟩:=zU.1 hi
 rcases hown.2 with ⟨rfl,rfl⟩ | ⟨g,cap,cur,rfl,_,_,hnc,_⟩
 ·simp [Builtin.append_,run_underlying ht,sizeOf,typeInfo,hi,Builtin.lenOf,Builtin.firstCells]
 ·simp [Builtin.append_,run_underlying ht,sizeOf,typeInfo,hi,Builtin.lenOf,Builtin.firstCells,hnc,storeCells]
theorem pk {t ty e:TypeId} {z:List AV} (hu:P.underlying t=some (.slice e)) (hz:aq P e=some z) (hzl:z.length=P.cellsOf e) (h0:0<P.cellsOf e) (hby:P.bytesOf e<=128)
    {old rows:List (List AV)} {v vy:Value} {flat:List Value} (hown:w.ownsRow 0 e (P.cellsOf e) v old.length flat) (hy:Rel σ w F (.sl rows) vy) (hrow:∀ row,row∈rows->row.length=P.cellsOf e) (hlen:old.length+rows.length<=1099511627776) :
    ∃ v' w' news,(Builtin.append_ #[t,t] ty #[v,vy]).run P w=.ok v' w'/\w'.ownsRow 0 e (P.cellsOf e) v' (old++rows).length (flat++news)/\w.grownBy w' v.ownBlock /\
      (v'.ownBlock=v.ownBlock∨v'.ownBlock=some w.heap.size)/\RelL σ w F rows.flatten news/\(∀ u,u∈news->u.oneCell'=true):=by
  obtain ⟨i,zv,hi,hiz,hvl,_,_⟩:=gK hz
  have hsz:i.size=P.cellsOf e:=by grind [Program.cellsOf]
  have hbb:i.bytes=P.bytesOf e:=by grind [Program.bytesOf]
  cases hy with
  | slNil =>
    refine ⟨v,w,[],sA hu (by simp [hi]) hown,by grind,World.grownBy.refl w _,.inl rfl,.nil,fun u hu=>by simp at hu⟩
  | sl _ size ad c u hF hn hm hr1 hone hcell hrel =>
    by_cases hne:rows=[]
    · subst hne
      obtain ⟨v',w',hrun,h2,h3,_,h5⟩:=run_append_own_at (P:=P) w 0 t ty e i zv (P.cellsOf e) (P.bytesOf e) hu hi hiz hsz hbb (by grind) h0 v old.length flat hown ad 0 c [] (by simp) (fun j x hx=>by simp at hx) (fun x hx=>by simp at hx)
        (by grind [maxLen]) (by have:(old.length+0)*P.bytesOf e<=1099511627776*128:=Nat.mul_le_mul (by omega) hby;omega) (Ae _)
      exact ⟨v',w',[],hrun,by grind,h3,h5,.nil,fun u hu=>by simp at hu⟩
    · have hsize:size=P.cellsOf e:=by
        obtain ⟨r,rs,rfl⟩:=List.exists_cons_of_ne_nil hne;simp_all
      subst hsize
      have hflen:rows.flatten.length=rows.length*P.cellsOf e:=by
        have:∀ (l:List (List AV)),(∀ row,row∈l->row.length=P.cellsOf e)->l.flatten.length=l.length*P.cellsOf e:=by
          intro l hl;induction l with
          | nil=>simp
          | cons r l ih=>grind
        grind
      have idx:∀ k,k<rows.length*P.cellsOf e->k / P.cellsOf e<rows.length/\k % P.cellsOf e<P.cellsOf e/\k / P.cellsOf e*P.cellsOf e+k % P.cellsOf e=k:=fun k hk =>
        ⟨A3 (by grind),Nat.mod_lt _ h0,by simp [Nat.mul_comm,Nat.div_add_mod]⟩
      have hget:∀ (k:Nat) x,((List.range (rows.length*P.cellsOf e)).map fun k=>u (k / P.cellsOf e) (k % P.cellsOf e))[k]?=some x->k<rows.length*P.cellsOf e/\x=u (k / P.cellsOf e) (k % P.cellsOf e):=fun k x hx=>by grind
      have hnews1:∀ x,x∈((List.range (rows.length*P.cellsOf e)).map fun k=>u (k / P.cellsOf e) (k % P.cellsOf e))->x.oneCell'=true:=fun x hx=>by grind
      obtain ⟨v',w',hrun,h2,h3,_,h5⟩:=run_append_own_at (P:=P) w 0 t ty e i zv (P.cellsOf e) (P.bytesOf e) hu hi hiz hsz hbb (by grind) h0 v old.length flat hown ad rows.length c
        ((List.range (rows.length*P.cellsOf e)).map fun k=>u (k / P.cellsOf e) (k % P.cellsOf e)) (by simp) (fun k x hx=>by grind) hnews1
        (by grind [maxLen]) (by have:(old.length+rows.length)*P.bytesOf e<=1099511627776*128:=Nat.mul_le_mul hlen hby;omega) (Ae _)
      refine ⟨v',w',_,hrun,by grind,h3,h5,⟨by simp [hflen],fun k x y hx hy=>?_⟩,hnews1⟩
      obtain ⟨hlt,rfl⟩:=hget k y hy
      obtain ⟨h1,h2,h3⟩:=idx k hlt
      have hf:=iw hrow (k / P.cellsOf e) (k % P.cellsOf e) _ (zJ h1) h2
      grind
end
end
section
open Go.RowKit
section
variable {P:Program} {σ:List Value} {w:World} {F:Nat→Prop} {aw:List Ob}
theorem uZ {base:Nat} {e:TypeId} {size n:Nat} {v:Value} {xs:List Value} (h:w.ownsRow base e size v n xs):∃ a n c,v=.slice a n c:=by rcases h.2 with ⟨rfl,_⟩ | ⟨g,cap,cur,rfl,_⟩<;>exact ⟨_,_,_,rfl⟩
theorem lB {aw0:List Ob} {w':World} (h:Sim aw σ w F) (hd:∀ b,Dof aw σ b->Dof aw0 σ b) {vx v':Value} {e:TypeId} {size:Nat} {old rows:List (List AV)} {flat news:List Value}
  (hfl:FlatRel σ w F size old flat) (hrow:∀ row,row∈rows->row.length=size) (hr:RelL σ w F rows.flatten news) (h1:∀ u,u∈news->u.oneCell'=true)
  (hown:w'.ownsRow 0 e size v' (old++rows).length (flat++news)) (hg:w.grownBy w' vx.ownBlock) (hdr:dn w<=dn w') (hat:v'.ownBlock=vx.ownBlock∨v'.ownBlock=some w.heap.size)
  (hfree:∀ b,vx.ownBlock=some b->¬ F b/\¬ Dof aw σ b/\Dof aw0 σ b) :
  Sim (aw++[.arr e size (old++rows)]) (σ++[v']) w' F/\Mv aw0 σ w F (aw++[.arr e size (old++rows)]) (σ++[v']) w' F/\Rel (σ++[v']) w' F (.ref aw.length) v':=by
 have hk:∀ b,(F b∨Dof aw σ b)->w'.heap[b]?=w.heap[b]?:=fun b hb=>hg.block b (hb.elim (h.lt b) h.lt_own) (fun e=>by grind)
 obtain ⟨a',n',c',hform⟩:=uZ hown
 have hblk:∀ (e s:Nat) (rows:List (List AV)) b,Bk (.arr e s rows) v' b->v'.ownBlock=some b:=fun e s rows b hb=>by rw [hform] at hb ⊢;exact hb.slice_inv
 have hnew:∀ b,v'.ownBlock=some b->¬ F b/\¬ Dof aw σ b:=fun b hb=>by
  rcases hat with e | e
  ·grind
  ·rw [e] at hb;injection hb with hb
   subst hb;exact ⟨fun hf=>by have:=h.lt _ hf;omega,fun hf=>by have:=h.lt_own hf;omega⟩
 refine ⟨h.push2 _ _ hk hg.size ⟨flat++news,hown,⟨fun row hm=>?_,fun u hu=>?_,?_⟩,fun g hgb=>(hnew g hgb).1,a',n',c',hform⟩ (fun b hb=>(hnew b (hblk _ _ _ b hb)).2),⟨hg.os,hg.tape,⟨hg.output,hdr⟩,hg.size,fun b hb hdb=>?_,fun i v hv=>cj hv,fun _ h=>h,fun _ h=>.inl h,fun b hb=>?_⟩,?_⟩
 ·rcases Ah.1 hm with hm | hm
  ·exact hfl.1 row hm
  grind
 ·rcases Ah.1 hu with hu | hu
  ·exact hfl.2.1 u hu
  grind
 ·rw [AL]
  exact (hfl.2.2.append hr).mono (fun _ _ e=>cj e) (fun _ e=>e) (fun b hb=>hk b (.inl hb))
 ·exact hg.block b hb (fun e=>hdb (hfree b e.symm).2.2)
 ·obtain ⟨k,o1,v1,ho1,hl,hv1,hb1⟩:=hb
  rcases cN ho1 with h2 | ⟨rfl,rfl⟩
  ·have hlt:=(zK.1 h2).1
   rw [zS (by rw [h.len];exact hlt)] at hv1
   exact .inl (hd b ⟨k,o1,v1,h2,hl,hv1,hb1⟩)
  ·rw [<- h.len] at hv1
   grind
 ·rw [hform]
  exact .ref _ _ _ _ (by rw [<- h.len];simp)
theorem u5 {fr:List AV} {a:Act} (ha:ARel σ w F fr a) (hs:Sim aw σ w F) {args:Array Operand} {ats:Array TypeId} {K:AV->List Ob->Prop} (h:vcApp P fr aw args.toList ats.toList K) (o:Oper) (ho:o.op=.call { callee:=.builtin .append,args,argTypes:=ats }) :
  OpOk P aw σ w F (execOp a.eval o) K:=by
 obtain ⟨args⟩:=args
 obtain ⟨ats⟩:=ats
 simp only at h
 unfold vcApp at h
 split at h
 ·rename_i x y t t'
  obtain ⟨rfl,h⟩:=h
  have hx:=ha.ev x
  obtain ⟨F',s1,m1,r1⟩:=iU hs (ha.ev y)
  split at h
  ·rename_i e hu
   split at h
   ·rename_i z rows aw' hz ex en
    rw [en] at s1 m1 r1
    obtain ⟨hzl,h0,hrow,hlen,hby,h⟩:=h
    rw [ex] at hx
    generalize hvx:a.eval x=vx at hx
    cases hx
    obtain ⟨v',w',news,hrun,hown,hg,hat,hr,h1⟩:=pk (ty:=o.type) (old:=[]) (flat:=[]) hu hz hzl h0 hby (World.ownsRow_nil w 0 e (P.cellsOf e)) r1 hrow (by grind)
    obtain ⟨s2,m2,r2⟩:=lB (aw0:=aw') (vx:=.slice none 0 0) (old:=[]) (flat:=[]) s1 (fun _ h=>h) ⟨fun _ h=>by simp at h,fun _ h=>by simp at h,.nil⟩ hrow hr h1 hown hg (ly _ hrun) hat (fun b hb=>by grind [Value.ownBlock])
    refine ⟨v',_,w',_,_,F',_,?_,.inl rfl,s2,m1.trans m2,r2,h⟩
    simp_all [execOp,resolve,invoke,builtin]
   ·rename_i z id rows aw' hz ex en
    rw [en] at s1 m1 r1
    split at h
    ·rename_i e' size old hob
     obtain ⟨rfl,rfl,hzl,h0,hrow,hlen,hby,h⟩:=h
     rw [ex] at hx
     generalize hvx:a.eval x=vx at hx
     cases hx with
     | ref _ A n c hσ =>
      obtain ⟨flat,hown0,hfl,hf,_⟩:=s1.obj id _ _ hob hσ
      obtain ⟨v',w',news,hrun,hown,hg,hat,hr,h1⟩:=pk (ty:=o.type) hu hz hzl h0 hby hown0 r1 hrow hlen
      have s3:=s1.lose id
      have hfree:∀ b,(Value.slice A n c).ownBlock=some b->¬ F' b/\¬ Dof (aw'.set id .dead) σ b/\Dof aw' σ b:=by
       intro b hb;refine ⟨hf b hb,fun hd=>?_,⟨id,_,_,hob,rfl,hσ,(Bk.slice hb)⟩⟩;obtain ⟨k,o1,v1,ho1,hl,hv1,hb1⟩:=hd;rcases c6 ho1 with ⟨rfl,rfl,_⟩ | ⟨hne,h2⟩
       ·assumption
       ·exact s1.sep k id o1 _ v1 _ b hne h2 hob hl rfl hv1 hσ hb1 ((Bk.slice hb))
      obtain ⟨s2,m2,r2⟩:=lB (aw0:=aw') (vx:=.slice A n c) s3 (fun _ h=>h.set_dead) hfl hrow hr h1 hown hg (ly _ hrun) hat hfree
      refine ⟨v',_,w',_,_,F',_,?_,.inl rfl,s2,m1.trans m2,by grind,h⟩
      simp_all [execOp,resolve,invoke,builtin]
    grind
   grind
  grind
 grind
theorem w8 {fr:List AV} {a:Act} (ha:ARel σ w F fr a) (hs:Sim aw σ w F) (o:Oper) {K:AV->List Ob->Prop} (h:vcE P fr aw o.op K):OpOk P aw σ w F (execOp a.eval o) K:=by
 cases ho:o.op with
 | alloc e=>grind [wd]
 | box e x=>grind [e_box]
 | load t x=>grind [xz]
 | store t x y=>grind [wN]
 | slice t x lo hi mx=>grind [vY]
 | convert s d x=>grind [uf]
 | buildSlice t len parts=>grind [sa]
 | makeSlice t l c=>grind [sH]
 | call c =>
  rw [ho] at h;obtain ⟨callee,args,ats⟩:=c;grind [vcE,u5]
 | _=>rw [ho] at h;exact (show False from h).elim
theorem u6 {fr:List AV} {a:Act} (ha:ARel σ w F fr a) (hs:Sim aw σ w F) (o:Oper) {K:AV->List Ob->Prop} (h:vcVal P fr aw o.op K):OpOk P aw σ w F (execOp a.eval o) K:=by
 unfold vcVal at h;split at h
 ·obtain ⟨v,r,h1,h2,h3⟩:=lX ha hs o h;exact ⟨v,_,w,aw,σ,F,r,h1 w (fun _ _=>rfl),.inl rfl,hs,.refl ..,h2,h3⟩
 grind [w8]
end
end
section
open Go.RowKit
def ACalls (P:Program) (f:FuncId) (args:List AV) (aw:List Ob) (Q:AV->List Ob->Prop):Prop :=
 (∀ vs w,(callFunc f vs).run P w=.ok (.enter f vs) w) /\
 ∀ w F σ vs,Sim aw σ w F->RelL σ w F args vs->Calls P f vs.toArray w fun e w'=>∃ v r aw' σ' F',e=.returned v/\Q r aw'/\Sim aw' σ' w' F'/\Rel σ' w' F' r v/\Mv aw σ w F aw' σ' w' F'
theorem ACalls.mono {P:Program} {f:FuncId} {args:List AV} {aw:List Ob} {Q Q':AV->List Ob->Prop} (h:ACalls P f args aw Q) (hq:∀ r aw',Q r aw'->Q' r aw'):ACalls P f args aw Q' :=
 ⟨h.1,fun w F σ vs hs ha=>(h.2 w F σ vs hs ha).mono fun _ _ ⟨v,r,aw',σ',F',he,hQ,rest⟩=>⟨v,r,aw',σ',F',he,hq _ _ hQ,rest⟩⟩
def Pure (a:AV):Prop:=∀ σ w F v,Rel σ w F a v->∀ σ',Rel σ' w F a v
def flat0:AV->Bool
 | .int _ _ | .bool _ | .str _ | .nils | .nilp | .nilf | .nili=>true
 | _=>false
def flat1:AV->Bool
 | .agg cs=>cs.all flat0
 | a=>flat0 a
def flat:AV->Bool
 | .tup vs=>vs.all flat1
 | a=>flat1 a
def AV.shift (n:Nat):AV->AV
 | .ref k=>.ref (n+k)
 | .tup vs=>.tup (vs.map fun | .ref k=>.ref (n+k) | a=>a)
 | a=>a
def flatR:AV->Bool
 | .tup vs=>vs.all fun | .ref _=>true | a=>flat1 a
 | .ref _=>true
 | a=>flat1 a
def b7:Ob->Bool
 | .arr _ _ rows=>rows.all fun row=>row.all flat0
 | _=>false
def CallK (P:Program) (f:FuncId) (args:List AV) (aw aw1:List Ob) (K:AV->List Ob->Prop):Prop :=
 (∃ Q,ACalls P f args aw1 Q/\∀ r aw',Q r aw'->K r aw') ∨
 (∃ Q,ACalls P f args [] Q/\(∀ a,a∈args->Pure a)/\∀ r aw',Q r aw'->(flat r=true/\K r aw)∨(aw'=[]/\Pure r/\K r aw1) ∨
  (∃ e s rows,aw'=[.arr e s rows]/\(∀ row,row∈rows->∀ x,x∈row->Pure x)/\((∃ k,r=.ref k)∨∃ vs,r=.tup vs/\∀ x,x∈vs->Pure x∨∃ k,x=.ref k)/\K (r.shift aw1.length) (aw1++aw')) ∨
  (flatR r=true/\aw'.all b7=true/\K (r.shift aw.length) (aw++aw')))
def cR (P:Program) (o:Oper) (fr:List AV) (aw:List Ob) (K:AV->List Ob->Prop):Prop :=
 match o.op with
 | .call { callee:=.value f,args,.. } =>
  (match ev fr f with
  | .func g caps=>CallK P g ((bA aw (args.toList.map (ev fr))).1++caps) aw (bA aw (args.toList.map (ev fr))).2 K
  | _=>False)
 | op=>vcVal P fr aw op K
def putF (fr:List AV) (d:Option Tmp) (r:AV):List AV:=match d with | some t=>fr.set t r | none=>fr
def qK (rest:List AV->List Ob->Prop) (fr:List AV) (dst:Option Tmp) (r:AV) (aw:List Ob):Prop:=rest (putF fr dst r) aw
def vcOps (P:Program) (ops:Array Oper):List Oper->(List AV->List Ob->Prop)->List AV->List Ob->Prop
  | [],K,fr,aw=>K fr aw
  | o :: rest,K,fr,aw =>
    match o.guard with
    | none=>cR P o fr aw (qK (vcOps P ops rest K) fr o.dst)
    | some (j,want) =>
      match (ops[j]?).bind (·.dst) with
      | none=>False
      | some t=>match fr[t]? with
        | some (.bool b)=>if b=want then cR P o (fr.set t (.bool want)) aw (qK (vcOps P ops rest K) (fr.set t (.bool want)) o.dst)
            else vcOps P ops rest K (putF (fr.set t (.bool !want)) o.dst .any) aw
        | _=>False
def Ren (ρ:List Nat) (a' a:AV):Prop:=∀ σ w F v,Rel σ w F a v->∀ σ',(∀ (k id:Nat),ρ[k]?=some id->σ'[k]?=σ[id]?)->Rel σ' w F a' v
def bd (ρ:List Nat):List AV->List AV->Prop
 | [],[]=>True
 | a'::as',a::as₀=>Ren ρ a' a/\bd ρ as' as₀
 | _,_=>False
def RenO (ρ:List Nat):Ob->Ob->Prop
 | .dead,_=>True
 | .box cs',.box cs=>bd ρ cs' cs
 | .boxB t' cs',.boxB t cs=>t'=t/\bd ρ cs' cs
 | .box cs',.boxB _ cs=>bd ρ cs' cs
 | .arr e' s' rows',.arr e s rows=>e'=e/\s'=s/\rows'=rows/\∀ row,row∈rows->∀ x,x∈row->Ren ρ x x
 | .mp ks' vs',.mp ks vs=>bd ρ ks' ks/\bd ρ vs' vs
 | .hd e' k',.hd e k=>e'=e/\ρ[k']?=some k
 | .cl e' s' cells',.cl e s cells=>e'=e/\s'=s/\cells'=cells/\∀ rows,(Cell.own rows∈cells∨Cell.fz rows∈cells)->∀ row,row∈rows->∀ x,x∈row->Pure x
 | _,_=>False
def ba (ρ:List Nat) (aw:List Ob):List Nat->List Ob->Prop
 | [],[]=>True
 | id::ids,o'::aw'=>(∃ o,aw[id]?=some o/\RenO ρ o' o)/\ba ρ aw ids aw'
 | _,_=>False
def nilify:List (Nat × TypeId × Nat)->List AV->List Ob->List AV × List Ob
 | [],fr,aw=>(fr,aw)
 | (s,e,z)::r,fr,aw =>
  match fr[s]? with
  | some .nils=>nilify r (fr.set s (.ref aw.length)) (aw++[.arr e z []])
  | _=>nilify r fr aw
def Weak (n:Nat) (fr:List AV) (aw:List Ob) (fr':List AV) (aw':List Ob):Prop :=
 ∃ (nl:List (Nat × TypeId × Nat)) (ρ:List Nat),ρ.Nodup/\(∀ k,k<n->ρ[k]?=some k)/\bd ρ fr' (nilify nl fr aw).1/\ba ρ (nilify nl fr aw).2 ρ aw'
def loopQ (n:Nat) (I:Nat->List AV->List Ob->Prop) (m:Nat) (Q:Exit->List AV->List Ob->Prop):Exit->List AV->List Ob->Prop
 | .normal,fr1,aw1=>∃ m' fr' aw',m' < m/\Weak n fr1 aw1 fr' aw'/\I m' fr' aw'
 | e,fr1,aw1=>Q e fr1 aw1
def Loop (n:Nat) (body:(Exit->List AV->List Ob->Prop)->List AV->List Ob->Prop) (Q:Exit->List AV->List Ob->Prop) (fr:List AV) (aw:List Ob):Prop :=
 ∃ I:Nat->List AV->List Ob->Prop,(∃ m fr' aw',Weak n fr aw fr' aw'/\I m fr' aw')/\∀ m fr aw,I m fr aw->body (loopQ n I m Q) fr aw
def thenA (K:List AV->List Ob->Prop) (Q:Exit->List AV->List Ob->Prop):Exit->List AV->List Ob->Prop
 | .normal,fr,aw=>K fr aw
 | e,fr,aw=>Q e fr aw
def fP (id:Nat) (Q:Exit->List AV->List Ob->Prop):Exit->List AV->List Ob->Prop
 | .exit id',fr,aw=>if id'=id then Q .normal fr aw else Q (.exit id') fr aw
 | e,fr,aw=>Q e fr aw
def onlyN (R:Act->World->Prop):Exit->Act->World->Prop
 | .normal,a,w=>R a w
 | _,_,_=>False
def Drawn (P:Program) (id:Nat) (ops:Array Oper) (K:List AV->List Ob->Prop) (s:List AV) (aw:List Ob):Prop :=
 ∀ (st:St) (R:Act->World->Prop) (σ:List Value) (w:World) (F:Nat->Prop) (a:Act),
  (∀ fr aw σ w F a,Cur st fr aw σ w F a->K fr aw->R a w)->Cur st s aw σ w F a->(Code.region id ops true).wp P (onlyN R) a w
def vc (P:Program) (n:Nat):Code->(Exit->List AV->List Ob->Prop)->List AV->List Ob->Prop
 | .skip,Q,fr,aw=>Q .normal fr aw
 | .region id ops draw,Q,fr,aw=>if draw=true then Drawn P id ops (Q .normal) fr aw else vcOps P ops ops.toList (Q .normal) fr aw
 | .seq x y,Q,fr,aw=>vc P n x (thenA (vc P n y Q) Q) fr aw
 | .cond c x y,Q,fr,aw=>(match ev fr c with
  | .bool b=>if b=true then vc P n x Q fr aw else vc P n y Q fr aw
  | _=>False)
 | .block id c,Q,fr,aw=>vc P n c (fP id Q) fr aw
 | .loop c,Q,fr,aw=>Loop n (vc P n c) Q fr aw
 | .exit id,Q,fr,aw=>Q (.exit id) fr aw
 | .ret,Q,fr,aw=>Q .ret fr aw
 | _,_,_,_=>False
def aT (P:Program) (fr:List AV) (aw:List Ob):List ResultVar->(List AV->Prop)->Prop
 | [],K=>K []
 | .tmp t::rs,K=>aT P fr aw rs fun vs=>K (fr.getD t .any::vs)
 | .cell a t::rs,K=>vcQ P fr aw (.load t (.tmp a)) fun v=>aT P fr aw rs fun vs=>K (v::vs)
def bl:List AV->AV
 | [v]=>v
 | vs=>.tup vs
def dh (aw:List Ob):AV->AV × List Ob
 | .tup vs=>(.tup (bA aw vs).1,(bA aw vs).2)
 | a=>norm aw a
def WeakR (n:Nat) (r:AV) (aw:List Ob) (r':AV) (aw':List Ob):Prop :=
 ∃ ρ:List Nat,ρ.Nodup/\(∀ k,k<n->ρ[k]?=some k)/\Ren ρ r' r/\ba ρ aw ρ aw'
def Ret (n:Nat) (Q:AV->List Ob->Prop) (aw:List Ob) (vs:List AV):Prop :=
 ∃ (nl:List (Nat × TypeId × Nat)) (z:Bool) (r':AV) (aw':List Ob),
  WeakR n (if z=true then dh (nilify nl vs aw).2 (bl (nilify nl vs aw).1) else (bl (nilify nl vs aw).1,(nilify nl vs aw).2)).1
   (if z=true then dh (nilify nl vs aw).2 (bl (nilify nl vs aw).1) else (bl (nilify nl vs aw).1,(nilify nl vs aw).2)).2 r' aw'/\Q r' aw'
def retQ (P:Program) (fn:Func) (n:Nat) (Q:AV->List Ob->Prop):Exit->List AV->List Ob->Prop
 | .normal,fr,aw | .ret,fr,aw=>aT P fr aw fn.results.toList (Ret n Q aw)
 | _,_,_=>False
end
section
open Go.RowKit
section
variable {P:Program} {σ:List Value} {w:World} {F:Nat→Prop} {aw:List Ob}
theorem o5 {ρ:List Nat}:∀ {as' as₀:List AV},bd ρ as' as₀->as'.length=as₀.length/\∀ (j:Nat) a' a,as'[j]?=some a'->as₀[j]?=some a->Ren ρ a' a
 | [],[],_=>⟨rfl,fun j a' a h=>by simp at h⟩
 | a'::as',a::as₀,h=>by
  obtain ⟨h1,h2⟩:=o5 h.2;refine ⟨by simp [h1],fun j x y hx hy=>?_⟩;cases j with
  | zero=>simp at hx hy;subst hx;subst hy;exact h.1
  | succ j=>grind
 | [],_::_,h=>h.elim
 | _::_,[],h=>h.elim
theorem cA {ρ:List Nat} {as' as₀:List AV} {vs σ':List Value} (h:bd ρ as' as₀) (hr:RelL σ w F as₀ vs) (hσ:∀ (k id:Nat),ρ[k]?=some id->σ'[k]?=σ[id]?):RelL σ' w F as' vs:=by
 obtain ⟨h1,h2⟩:=o5 h;refine ⟨hr.1.trans h1.symm,fun j a v ha hv=>?_⟩;have hlt:j<as₀.length:=by grind
 exact h2 j a _ ha (zJ hlt) σ w F v (hr.2 j _ v (zJ hlt) hv) σ' hσ
theorem fa {ρ:List Nat}:∀ {ids:List Nat} {aw':List Ob},ba ρ aw ids aw'->aw'.length=ids.length/\∀ (k:Nat) o',aw'[k]?=some o'->∃ id o,ids[k]?=some id/\aw[id]?=some o/\RenO ρ o' o
 | [],[],_=>⟨rfl,fun k o' h=>by simp at h⟩
 | id::ids,o'::aw',h=>by
  obtain ⟨h1,h2⟩:=fa h.2;refine ⟨by simp [h1],fun k x hx=>?_⟩;cases k with
  | zero=>simp at hx;subst hx;obtain ⟨o,h3,h4⟩:=h.1;grind
  | succ k=>grind
 | [],_::_,h=>h.elim
 | _::_,[],h=>h.elim
theorem jC {σ':List Value}:∀ {rows:List (List AV)},(∀ row,row∈rows->∀ x,x∈row->∀ v,Rel σ w F x v->Rel σ' w F x v)->∀ {flat:List Value},RelL σ w F rows.flatten flat->RelL σ' w F rows.flatten flat:=by intro rows h flat hr;refine ⟨hr.1,fun j x v hx hv=>?_⟩;obtain ⟨row,hrow,hm⟩:=List.mem_flatten.1 (zM hx);exact h row hrow x hm v (hr.2 j x v hx hv)
theorem pc {σ':List Value} {e2 size:Nat} {c:Cell} {x:Value} (h:CellRel σ w F e2 size c x) (hp:∀ rows,(Cell.own rows=c∨Cell.fz rows=c)->∀ row,row∈rows->∀ y,y∈row->Pure y):CellRel σ' w F e2 size c x:=by
 cases c with
 | own rows =>
  obtain ⟨flat,h1,h2,h3,h4⟩:=h;exact ⟨flat,h1,⟨h2.1,h2.2.1,jC (fun row hr y hy v hv=>hp rows (.inl rfl) row hr y hy σ w F v hv _) h2.2.2⟩,h3,h4⟩
 | fz rows =>
  have h:Rel σ w F (.sl rows) x:=h;cases h with
  | slNil=>exact Rel.slNil
  | sl _ sz ad c u h1 h2 h3 h4 h5 h6 h7=>exact Rel.sl rows sz ad c u h1 h2 h3 h4 h5 h6 (fun i row j y hi hj=>hp rows (.inr rfl) row (zM hi) y (zM hj) σ w F _ (h7 i row j y hi hj) _)
 | hole=>trivial
theorem kp {ρ:List Nat} {o' o:Ob} {v:Value} {b:Nat} (h:RenO ρ o' o) (hb:Bk o' v b):Bk o v b:=by
 cases o' with
 | dead=>exact hb.elim
 | cl e s cells =>
  cases o with
  | cl e' s' cells'=>obtain ⟨rfl,rfl,rfl,_⟩:=h;exact hb
  | _=>exact h.elim
 | _=>cases o<;>first | exact hb | exact h.elim
theorem dM {ρ:List Nat} {aw':List Ob} (h:Sim aw σ w F) (hnd:ρ.Nodup) (hw:ba ρ aw ρ aw') :
  ∃ σ':List Value,(∀ (k id:Nat),ρ[k]?=some id->σ'[k]?=σ[id]?)/\Sim aw' σ' w F/\(∀ b,Dof aw' σ' b->Dof aw σ b):=by
 obtain ⟨hl,hg⟩:=fa hw
 have hσ:∀ (k id:Nat),ρ[k]?=some id->(ρ.map fun id=>σ.getD id undef)[k]?=σ[id]?:=fun k id hk=>by
  have hk1:k<aw'.length:=by grind
  obtain ⟨id',o,h1,h2,_⟩:=hg k _ (zJ hk1);rw [hk] at h1;cases h1;have hid:id<σ.length:=by rw [h.len];grind
  grind
 have live:∀ {o' o:Ob},RenO ρ o' o->o'.live=true->o.live=true:=fun {o' o} hr hlv=>by grind [RenO,Ob.live]
 refine ⟨ρ.map fun id=>σ.getD id undef,hσ,⟨by simp [hl],fun k o' v ho' hv=>?_,fun k k' o1 o2 v1 v2 g hne ho1 ho2 hl1 hl2 hv1 hv2 hb1 hb2=>?_,h.lt,h.gd⟩,fun b hb=>?_⟩
 ·obtain ⟨id,o,h1,h2,h3⟩:=hg k o' ho'
  rw [hσ k id h1] at hv
  have hr:=h.obj id o v h2 hv
  cases o' with
  | dead=>trivial
  | mp ks' vs'=>cases o with
   | mp ks vs =>
    obtain ⟨g,es,clock,e1,hg1,hk,hv',hf⟩:=hr
    exact ⟨g,es,clock,e1,hg1,cA h3.1 hk hσ,cA h3.2 hv' hσ,hf⟩
   | _=>exact h3.elim
  | hd e' k'=>cases o with
   | hd e k2 =>
    obtain ⟨rfl,hk2⟩:=h3
    obtain ⟨us,g1,g2,g3,g4,g5⟩:=hr
    exact ⟨us,by grind,g2,g3,g4,g5⟩
   | _=>exact h3.elim
  | cl e' s' cells'=>cases o with
   | cl e s cells =>
    obtain ⟨rfl,rfl,rfl,hp⟩:=h3
    obtain ⟨us,e1,hl1,hc,hd⟩:=hr
    exact ⟨us,e1,hl1,fun i c x h1 h2=>pc (hc i c x h1 h2) (fun rows hrr=>hp rows (hrr.imp (fun (e:Cell.own rows=c)=>by grind) (fun (e:Cell.fz rows=c)=>by grind))),hd⟩
   | _=>exact h3.elim
  | arrU e' s' rows' x'=>cases o<;>exact h3.elim
  | boxB t' cs'=>cases o with
   | boxB t cs =>
    obtain ⟨rfl,h3⟩:=h3
    obtain ⟨g,vs,e1,hg1,hr1,h11,hf⟩:=hr
    exact ⟨g,vs,e1,hg1,cA h3 hr1 hσ,h11,hf⟩
   | _=>exact h3.elim
  | box cs'=>cases o with
   | boxB t cs =>
    obtain ⟨g,vs,e1,hg1,hr1,h11,hf⟩:=hr
    exact ⟨g,vs,t,e1,hg1,cA h3 hr1 hσ,h11,hf⟩
   | mp ks vs=>exact h3.elim
   | hd e k2=>exact h3.elim
   | cl e s cells=>exact h3.elim
   | arrU e s rows x=>exact h3.elim
   | dead=>exact h3.elim
   | arr e s rows=>exact h3.elim
   | box cs =>
    obtain ⟨g,vs,ty,e1,hg1,hr1,h11,hf⟩:=hr
    exact ⟨g,vs,ty,e1,hg1,cA h3 hr1 hσ,h11,hf⟩
  | arr e' s' rows'=>cases o with
   | boxB t cs=>exact h3.elim
   | mp ks vs=>exact h3.elim
   | hd e k2=>exact h3.elim
   | cl e s cells=>exact h3.elim
   | arrU e s rows x=>exact h3.elim
   | dead=>exact h3.elim
   | box cs=>exact h3.elim
   | arr e s rows =>
    obtain ⟨rfl,rfl,rfl,h4⟩:=h3
    obtain ⟨flat,hown,hfl,hf,hform⟩:=hr
    exact ⟨flat,hown,⟨hfl.1,hfl.2.1,jC (fun row hrow x hx v hxv=>h4 row hrow x hx σ w F v hxv _ hσ) hfl.2.2⟩,hf,hform⟩
 ·obtain ⟨id1,p1,a1,a2,a3⟩:=hg k o1 ho1
  obtain ⟨id2,p2,b1,b2,b3⟩:=hg k' o2 ho2
  rw [hσ k id1 a1] at hv1
  rw [hσ k' id2 b1] at hv2
  refine h.sep id1 id2 p1 p2 v1 v2 g (fun e=>hne ?_) a2 b2 (live a3 hl1) (live b3 hl2) hv1 hv2 (kp a3 hb1) (kp b3 hb2)
  grind [List.getElem?_inj]
 ·obtain ⟨k,o',v,ho',hlv,hv,hbv⟩:=hb
  obtain ⟨id,o,h1,h2,h3⟩:=hg k o' ho'
  rw [hσ k id h1] at hv
  exact ⟨id,o,v,h2,live h3 hlv,hv,kp h3 hbv⟩
theorem Mv.ren {st:St} {ρ:List Nat} {aw':List Ob} {σ':List Value} (hl:st.σ.length=st.aw.length) (hm:Mv st.aw st.σ st.w st.F aw σ w F) (hρ:∀ k,k<st.aw.length->ρ[k]?=some k) (hσ:∀ (k id:Nat),ρ[k]?=some id->σ'[k]?=σ[id]?)
  (hd:∀ b,Dof aw' σ' b->Dof aw σ b):Mv st.aw st.σ st.w st.F aw' σ' w F:=by
 refine ⟨hm.os,hm.tape,hm.output,hm.size,hm.keep,fun i v hv=>?_,hm.sub,hm.sup,fun b hb=>hm.own b (hd b hb)⟩
 have hi:i<st.aw.length:=by grind
 rw [hσ i i (hρ i hi)]
 exact hm.pre i v hv
theorem j8 (e:TypeId) (z:Nat) (h:Sim aw σ w F):Sim (aw++[.arr e z []]) (σ++[.slice none 0 0]) w F/\Mv aw σ w F (aw++[.arr e z []]) (σ++[.slice none 0 0]) w F/\Rel (σ++[.slice none 0 0]) w F (.ref aw.length) (.slice none 0 0):=by
 refine ⟨h.push2 _ _ (fun _ _=>rfl) (zP _) ⟨[],⟨by simp,.inl ⟨rfl,rfl⟩⟩,⟨by simp,by simp,.nil⟩,fun g hg=>(by cases hg),_,_,_,rfl⟩ (fun b hb=>by cases hb),
  ⟨rfl,rfl,drO,zP _,fun _ _ _=>rfl,fun i v hv=>cj hv,fun _ h=>h,fun _ h=>.inl h,fun b hb=>?_⟩,.ref _ _ _ _ (by rw [<- h.len];simp)⟩
 obtain ⟨k,o1,v1,ho1,hl,hv1,hb1⟩:=hb;rcases cN ho1 with h2 | ⟨rfl,rfl⟩
 ·have hlt:=(zK.1 h2).1;rw [zS (by rw [h.len];exact hlt)] at hv1;exact .inl ⟨k,o1,v1,h2,hl,hv1,hb1⟩
 ·rw [<- h.len] at hv1;simp at hv1;subst hv1;cases hb1
theorem gJ:∀ (nl:List (Nat × TypeId × Nat)) {fr:List AV} {vs:List Value} {aw:List Ob} {σ:List Value},Sim aw σ w F->RelL σ w F fr vs ->
  ∃ σ',Sim (nilify nl fr aw).2 σ' w F/\RelL σ' w F (nilify nl fr aw).1 vs/\Mv aw σ w F (nilify nl fr aw).2 σ' w F
 | [],fr,vs,aw,σ,hs,hr=>⟨σ,hs,hr,.refl ..⟩
 | (s,e,z)::r,fr,vs,aw,σ,hs,hr=>by
  unfold nilify;split
  ·rename_i hn;obtain ⟨v,hv,hrv⟩:=hr.get hn;cases hrv;obtain ⟨s1,m1,r1⟩:=j8 e z hs;have hr1:RelL (σ++[.slice none 0 0]) w F (fr.set s (.ref aw.length)) vs:=by
    have:=(m1.relL hs hr).set s r1;grind [List.set_getElem_self]
   obtain ⟨σ',s2,r2,m2⟩:=gJ r s1 hr1;exact ⟨σ',s2,r2,m1.trans m2⟩
  ·exact gJ r hs hr
theorem Cur.weak {st:St} {fr fr':List AV} {aw':List Ob} {a:Act} (hl:st.σ.length=st.aw.length) (h:Cur st fr aw σ w F a) (hw:Weak st.aw.length fr aw fr' aw'):∃ σ',Cur st fr' aw' σ' w F a:=by obtain ⟨nl,ρ,hnd,hρ,hf,hW⟩:=hw;obtain ⟨σ1,s1,r1,m1⟩:=gJ nl h.sim h.fr.1;obtain ⟨σ',hσ,hs,hd⟩:=dM s1 hnd hW;exact ⟨σ',hs,⟨cA hf r1 hσ,h.fr.2⟩,Mv.ren hl (h.mv.trans m1) hρ hσ hd,h.ds⟩
theorem lu {r:AV} {v:Value} {σ':List Value} {w':World} {F':Nat->Prop} (hf:flat0 r=true) (h:Rel σ w F r v):Rel σ' w' F' r v:=by
 cases h<;>simp [flat0] at hf
 ·exact .int _ _
 ·exact .bool _
 ·exact .str _
 ·exact .nils
 ·exact .nilf
 ·exact .nilp
 ·exact .nili
theorem jU {r:AV} {v:Value} {σ':List Value} {w':World} {F':Nat->Prop} (hf:flat1 r=true) (h:Rel σ w F r v):Rel σ' w' F' r v:=by
 cases r with
 | agg cs =>
  cases h with
  | agg _ vs hl h1 hc =>
   simp only [flat1,Ak] at hf;exact .agg cs vs hl h1 (fun j c u hcj hu=>lu (hf c (zM hcj)) (hc j c u hcj hu))
 | _=>exact lu hf h
theorem kf {r:AV} {v:Value} {σ':List Value} {w':World} {F':Nat->Prop} (hf:flat r=true) (h:Rel σ w F r v):Rel σ' w' F' r v:=by
 cases r with
 | tup cs =>
  cases h with
  | tup _ vs hl hc =>
   simp only [flat,Ak] at hf;exact .tup cs vs hl (fun j c u hcj hu=>jU (hf c (zM hcj)) (hc j c u hcj hu))
 | _=>exact jU hf h
theorem Sim.beside {w':World} {F':Nat->Prop} {σ':List Value} {aw':List Ob} (h:Sim aw σ w' F) (h':Sim aw' σ' w' F') (hF:∀ b,F b->F' b) (hfl:aw'.all b7=true)
  (hnew:∀ b,Dof aw σ b->¬ Dof aw' σ' b):Sim (aw++aw') (σ++σ') w' F:=by
 have old:∀ (k:Nat) o v,(aw++aw')[k]?=some o->(σ++σ')[k]?=some v->(aw[k]?=some o/\σ[k]?=some v)∨(aw.length<=k/\aw'[k - aw.length]?=some o/\σ'[k - aw.length]?=some v):=fun k o v ho hv=>by rw [z6] at ho hv;rw [h.len] at hv;grind
 have hsep:∀ (k k':Nat) o o' v v' g,aw[k]?=some o->σ[k]?=some v->aw'[k']?=some o'->σ'[k']?=some v'->o.live=true->o'.live=true->Bk o v g->Bk o' v' g->False :=
  fun k k' o o' v v' g a1 a2 a3 a4 a5 a6 a7 a8=>hnew g ⟨k,o,v,a1,a5,a2,a7⟩ ⟨k',o',v',a3,a6,a4,a8⟩
 refine ⟨by simp [h.len,h'.len],fun k o v ho hv=>?_,fun k k' o o' v v' g hne ho ho' hl hl' hv hv' hb hb'=>?_,h.lt,h.gd⟩
 ·rcases old k o v ho hv with ⟨h1,h2⟩ | ⟨_,h1,h2⟩
  ·refine (h.obj k o v h1 h2).mono (fun i u hu=>?_) (fun _ e=>e) (fun _ _=>rfl) (fun hl b hb=>⟨rfl,h.free ⟨k,o,v,h1,hl,h2,hb⟩⟩)
   grind
  ·have hob:=h'.obj _ o v h1 h2
   have hf:=Ak.1 hfl o (zM h1)
   cases o with
   | dead=>assumption
   | box cs=>simp [b7] at hf
   | mp ks vs=>simp [b7] at hf
   | hd e k2=>simp [b7] at hf
   | cl e s cs=>simp [b7] at hf
   | arrU e s rows x=>simp [b7] at hf
   | boxB t cs=>simp [b7] at hf
   | arr e s rows =>
    simp only [b7,Ak] at hf
    obtain ⟨fl,hown,hfr,hnf,A,n,c,hform⟩:=hob
    exact ⟨fl,hown,⟨hfr.1,hfr.2.1,⟨hfr.2.2.1,fun j x v hx hv=>by obtain ⟨row,hrow,hm⟩:=List.mem_flatten.1 (zM hx);exact lu (hf row hrow x hm) (hfr.2.2.2 j x v hx hv)⟩⟩,fun g hg hFg=>hnf g hg (hF g hFg),A,n,c,hform⟩
 ·rcases old k o v ho hv with ⟨h1,h2⟩ | ⟨h0,h1,h2⟩<;>rcases old k' o' v' ho' hv' with ⟨h3,h4⟩ | ⟨h5,h3,h4⟩
  ·exact h.sep k k' o o' v v' g hne h1 h3 hl hl' h2 h4 hb hb'
  ·grind
  ·grind
  ·exact h'.sep _ _ o o' v v' g (by omega) h1 h3 hl hl' h2 h4 hb hb'
theorem vo {st:St} {fr:List AV} {a:Act} {f:FuncId} {xs:List AV} {vs:List Value} {K:AV->List Ob->Prop} (hc:Cur st fr aw σ w F a) {F1:Nat->Prop} {aw1:List Ob} (s1:Sim aw1 σ w F1) (m1:Mv aw σ w F aw1 σ w F1) (hr:RelL σ w F1 xs vs)
  (h:CallK P f xs aw aw1 K):(∀ vs w,(callFunc f vs).run P w=.ok (.enter f vs) w)/\Calls P f vs.toArray w fun e w'=>∃ v r aw' σ' F',e=.returned v/\K r aw'/\Cur st fr aw' σ' w' F' a/\Rel σ' w' F' r v:=by
 rcases h with ⟨Q,hA,hQ⟩ | ⟨Q,hA,hp,hQ⟩
 ·refine ⟨hA.1,(hA.2 w F1 σ vs s1 hr).mono ?_⟩
  rintro e w' ⟨v,r,aw',σ',F',rfl,hq,hs,hrel,hm⟩
  exact ⟨v,r,aw',σ',F',rfl,hQ r aw' hq,hc.step hs (m1.trans hm),hrel⟩
 ·have s0:Sim [] [] w F1:=⟨rfl,fun k o v ho=>by simp at ho,fun k k' o o' v v' g _ ho=>by simp at ho,s1.lt,s1.gd⟩
  have r0:RelL [] w F1 xs vs:=⟨hr.1,fun j x v hx hv=>hp x (zM hx) σ w F1 v (hr.2 j x v hx hv) []⟩
  refine ⟨hA.1,(hA.2 w F1 [] vs s0 r0).mono ?_⟩
  rintro e w' ⟨v,r,aw',σ',F',rfl,hq,hs,hrel,hm⟩
  have hno:∀ b,¬ Dof [] [] b:=fun b ⟨k,o,v,ho,_⟩=>by simp at ho
  have hk:∀ b,b<w.heap.size->w'.heap[b]?=w.heap[b]?:=fun b hb=>hm.keep b hb (hno b)
  rcases hQ r aw' hq with ⟨hfl,hK⟩ | ⟨rfl,hpr,hK⟩ | ⟨e,sz,rows,rfl,hrows,hrr,hK⟩ | ⟨hfr,hfo,hK⟩
  ·refine ⟨v,r,aw,σ,F,rfl,hK,hc.step (hc.sim.grow (fun _ h=>h) (fun _ h=>.inl h) (fun b hb=>zX (hc.sim.lt b hb) hm.size) hk) (.grow (fun _ h=>h) (fun _ h=>.inl h) hm.os hm.tape hm.output hm.size hk),kf hfl hrel⟩
  ·have hsup:∀ b,F' b->F1 b∨w.heap.size<=b:=fun b hb=>(hm.sup b hb).imp (fun h=>h) (fun h=>h.elim (fun h=>absurd h (hno b)) (fun h=>h))
   refine ⟨v,r,aw1,σ,F',rfl,hK,hc.step (s1.grow hm.sub hsup hs.lt hk) (m1.trans (.grow hm.sub hsup hm.os hm.tape hm.output hm.size hk)),hpr _ _ _ _ hrel σ⟩
  ·have hsup:∀ b,F' b->F1 b∨w.heap.size<=b:=fun b hb=>(hm.sup b hb).imp (fun h=>h) (fun h=>h.elim (fun h=>absurd h (hno b)) (fun h=>h))
   have sg:Sim aw1 σ w' F':=s1.grow hm.sub hsup hs.lt hk
   have mg:Mv aw1 σ w F1 aw1 σ w' F':=.grow hm.sub hsup hm.os hm.tape hm.output hm.size hk
   match σ',hs.len with
   | [v0],_ =>
    obtain ⟨flat,hown,hfl,hf,A,n,c,hform⟩:=hs.obj 0 _ v0 rfl rfl
    have hnewb:∀ b,Bk (.arr e sz rows) v0 b->w.heap.size<=b:=fun b hb=>(hm.own b ⟨0,_,v0,rfl,rfl,rfl,hb⟩).elim (fun h=>absurd h (hno b)) (fun h=>h)
    have hpre:∀ x v,Pure x->Rel [v0] w' F' x v->Rel (σ++[v0]) w' F' x v:=fun x v hx hxv=>hx _ _ _ _ hxv _
    have hpush:Sim (aw1++[.arr e sz rows]) (σ++[v0]) w' F':=by refine sg.push2 _ _ (fun _ _=>rfl) (zP _) ⟨flat,hown,⟨hfl.1,hfl.2.1,jC (fun row hrow x hx v hxv=>hpre x v (hrows row hrow x hx) hxv) hfl.2.2⟩,hf,A,n,c,hform⟩ (fun b hb hd=>?_);have:=hnewb b hb;have:=s1.lt_own hd;omega
    have hmv:Mv aw1 σ w F1 (aw1++[.arr e sz rows]) (σ++[v0]) w' F':=by
     refine ⟨hm.os,hm.tape,hm.output,hm.size,fun b hb _=>hk b hb,fun i v hv=>cj hv,hm.sub,fun b hb=>(hsup b hb).imp (fun h=>h) .inr,fun b hb=>?_⟩;obtain ⟨k,o1,v1,ho1,hl1,hv1,hb1⟩:=hb;rcases cN ho1 with h2 | ⟨rfl,rfl⟩
     ·have hlt:=(zK.1 h2).1;rw [zS (by rw [s1.len];exact hlt)] at hv1;exact .inl ⟨k,o1,v1,h2,hl1,hv1,hb1⟩
     ·rw [<- s1.len] at hv1;grind
    have href:∀ k v,Rel [v0] w' F' (.ref k) v->Rel (σ++[v0]) w' F' (.ref (aw1.length+k)) v:=by
     intro k v hkv;cases hkv with
     | ref _ A n c h =>
      cases k with
      | succ k=>simp at h
      | zero =>
       refine .ref _ A n c ?_;rw [<- s1.len,AK];simpa using h
    refine ⟨v,r.shift aw1.length,_,_,F',rfl,hK,hc.step hpush (m1.trans hmv),?_⟩
    rcases hrr with ⟨k,rfl⟩ | ⟨ys,rfl,hys⟩
    ·exact href k v hrel
    ·cases hrel with
     | tup _ us hl hcs =>
      refine .tup _ us (by grind) (fun j c u hcj hu=>?_)
      grind
  ·have sg:Sim aw σ w' F:=hc.sim.grow (fun _ h=>h) (fun _ h=>.inl h) (fun b hb=>zX (hc.sim.lt b hb) hm.size) hk
   have mg:Mv aw σ w F aw σ w' F:=.grow (fun _ h=>h) (fun _ h=>.inl h) hm.os hm.tape hm.output hm.size hk
   have hnewb:∀ b,Dof aw' σ' b->w.heap.size<=b:=fun b hb=>(hm.own b hb).elim (fun h=>absurd h (hno b)) (fun h=>h)
   have hFF:∀ b,F b->F' b:=fun b hb=>hm.sub b (m1.sub b hb)
   have sb:=sg.beside hs hFF hfo (fun b hb hb'=>by have:=hnewb b hb';have:=hc.sim.lt_own hb;omega)
   have mb:Mv aw σ w F (aw++aw') (σ++σ') w' F:=by
    refine ⟨hm.os,hm.tape,hm.output,hm.size,fun b hb _=>hk b hb,fun i u hu=>?_,fun _ h=>h,fun b hb=>.inl hb,fun b hb=>?_⟩
    ·grind
    ·obtain ⟨k,o,u,ho,hl,hu,hbk⟩:=hb;rw [z6] at ho hu;rw [hc.sim.len] at hu;split at ho
     ·rename_i hlt;rw [if_pos hlt] at hu;exact .inl ⟨k,o,u,ho,hl,hu,hbk⟩
     ·rename_i hlt;rw [if_neg hlt] at hu;exact .inr (hnewb b ⟨_,o,u,ho,hl,hu,hbk⟩)
   have href:∀ k u,Rel σ' w' F' (.ref k) u->Rel (σ++σ') w' F (.ref (aw.length+k)) u:=by
    intro k u hku;cases hku with
    | ref _ A n c h =>
     refine .ref _ A n c ?_;rw [AE (by rw [hc.sim.len];omega),hc.sim.len,Nat.add_sub_cancel_left];exact h
   refine ⟨v,r.shift aw.length,_,_,F,rfl,hK,hc.step sb mb,?_⟩
   cases r with
   | tup vs =>
    cases hrel with
    | tup _ us hl hcs =>
     refine .tup _ us (by grind) (fun j c u hcj hu=>?_)
     rw [zT,zQ] at hcj
     obtain ⟨y,hy,rfl⟩:=hcj
     have h1:=hcs j y u hy hu
     simp only [flatR,Ak] at hfr
     have h2:=hfr y (zM hy)
     grind [jU]
   | ref k=>exact href k v hrel
   | _=>exact jU hfr hrel
theorem lR {st:St} {fr:List AV} {a:Act} {o:Oper} {K:AV->List Ob->Prop} {Kc:Act->World->Prop} {Q:Exit->Act->World->Prop} (hc:Cur st fr aw σ w F a) (h:cR P o fr aw K)
  (hk:∀ r aw' σ' w' F' v,K r aw'->Cur st fr aw' σ' w' F' a->Rel σ' w' F' r v->Kc (a.put o.dst v) w'):o.wp P a w Kc Q:=by
 have val:vcVal P fr aw o.op K->o.wp P a w Kc Q:=by
  intro h;obtain ⟨v,n,w',aw',σ',F',r,hrun,hn,hs,hm,hr,hK⟩:=u6 hc.fr hc.sim o h;unfold Oper.wp;rw [hrun];rcases hn with rfl | ⟨rfl,rfl⟩
  ·exact hk r aw' σ' w' F' v hK (hc.step hs hm) hr
  ·exact hk r aw' σ' w' F' undef hK (hc.step hs hm) hr
 unfold cR at h
 split at h
 ·rename_i f args ats hop
  split at h
  ·rename_i g caps ef
   have hf:=hc.fr.ev f
   rw [ef] at hf
   generalize hvf:a.eval f=vf at hf
   cases hf with
   | func _ _ cvs hl hcs =>
    obtain ⟨F1,s1,m1,r1⟩:=kb hc.sim (e6 hc.fr args.toList)
    have r2:RelL σ w F1 caps cvs:=m1.relL hc.sim ⟨hl,hcs⟩
    obtain ⟨hcall,hC⟩:=vo hc s1 m1 (r1.append r2) h
    unfold Oper.wp
    have hrun:(execOp a.eval o).run P w=.ok (.enter g (args.toList.map a.eval++cvs).toArray) w:=by simp_all [execOp,resolve,Deferred.ofValue,invoke]
    rw [hrun]
    refine hC.mono ?_
    grind
  grind
 grind
theorem bv {st:St} {fr:List AV} {a:Act} {r:AV} {v:Value} (hc:Cur st fr aw σ w F a) (hr:Rel σ w F r v) (d:Option Tmp):Cur st (putF fr d r) aw σ w F (a.put d v):=hc.put hr d
theorem kv {st:St} {ops:Array Oper} {Q:Exit->Act->World->Prop} {K:List AV->List Ob->Prop} (hQ:∀ fr aw σ w F a,Cur st fr aw σ w F a->K fr aw->Q .normal a w) :
  ∀ (l:List Oper) (fr:List AV) (aw:List Ob) (σ:List Value) (w:World) (F:Nat->Prop) (a:Act),Cur st fr aw σ w F a->vcOps P ops l K fr aw->wpList P ops Q l a w
 | [],fr,aw,σ,w,F,a,hc,h=>hQ fr aw σ w F a hc h
 | o :: rest,fr,aw,σ,w,F,a,hc,h=>by
  unfold wpList;simp only [vcOps] at h;cases hg:o.guard with
  | none =>
   rw [hg] at h;rw [if_pos (by grind [Region.wanted])];exact .inl (lR hc h fun r aw' σ' w' F' v hK hcur hrel=>kv hQ rest _ aw' σ' w' F' _ (bv hcur hrel o.dst) hK)
  | some jw =>
   obtain ⟨j,want⟩:=jw;rw [hg] at h;simp only at h;split at h
   ·exact h.elim
   ·rename_i t ht;split at h
    ·rename_i b hb;obtain ⟨v,hv,hrel⟩:=hc.fr.1.get hb;cases hrel;have hy:yielded ops a.tmps j=some b:=by
      grind [yielded]
     have hself:∀ c,b=c->Cur st (fr.set t (.bool c)) aw σ w F a:=fun c e=>by
      subst e;have:fr.set t (.bool b)=fr:=by apply Ap;grind
      grind
     by_cases hbw:b=want
     ·rw [if_pos hbw] at h;rw [if_pos (by grind [Region.wanted])];exact .inl (lR (hself want hbw) h fun r aw' σ' w' F' v hK hcur hrel=>kv hQ rest _ aw' σ' w' F' _ (bv hcur hrel o.dst) hK)
     ·rw [if_neg hbw] at h;rw [if_neg (by grind [Region.wanted])];have hbn:b=!want:=by cases b<;>cases want<;>simp_all
      exact kv hQ rest _ aw σ w F _ (bv (hself _ hbn) (.any undef) o.dst) h
    grind
def CQ (st:St) (Q:Exit->List AV->List Ob->Prop) (e:Exit) (a:Act) (w:World):Prop:=∃ fr aw σ F,Q e fr aw/\Cur st fr aw σ w F a
theorem oX {st:St} (hl:st.σ.length=st.aw.length):∀ (c:Code) (Q:Exit->List AV->List Ob->Prop) (fr:List AV) (aw:List Ob) (σ:List Value) (w:World) (F:Nat->Prop) (a:Act),
  vc P st.aw.length c Q fr aw->Cur st fr aw σ w F a->c.wp P (CQ st Q) a w:=by
 intro c
 induction c with
 | skip=>exact fun Q fr aw σ w F a h hc=>wp_skip ⟨fr,aw,σ,F,h,hc⟩
 | region id ops draw =>
  intro Q fr aw σ w F a h hc
  simp only [vc] at h
  cases draw with
  | true =>
   refine wp_mono (h st (fun a w=>CQ st Q .normal a w) σ w F a (fun fr aw σ w F a hc hK=>⟨fr,aw,σ,F,hK,hc⟩) hc) (fun e a w hq=>?_)
   cases e<;>first | exact hq | exact hq.elim
  | false =>
   simp only [zO,if_false] at h
   exact wp_region_list (kv (fun fr aw σ w F a hc hK=>⟨fr,aw,σ,F,hK,hc⟩) _ fr aw σ w F a hc h)
 | seq x y ihx ihy =>
  intro Q fr aw σ w F a h hc
  refine wp_seq (wp_mono (ihx _ fr aw σ w F a h hc) ?_)
  rintro e a' w' ⟨fr',aw',σ',F',hq,hcur⟩
  cases e with
  | normal=>exact ihy Q fr' aw' σ' w' F' a' hq hcur
  | _=>exact ⟨fr',aw',σ',F',hq,hcur⟩
 | cond c x y ihx ihy =>
  intro Q fr aw σ w F a h hc
  simp only [vc] at h
  have hcv:=hc.fr.ev c
  split at h
  ·rename_i b e
   rw [e] at hcv
   generalize hv:a.eval c=v at hcv
   cases hcv
   grind [wp_cond_true,wp_cond_false]
  grind
 | block id c ih =>
  intro Q fr aw σ w F a h hc
  refine wp_block (wp_mono (ih _ fr aw σ w F a h hc) ?_)
  rintro e a' w' ⟨fr',aw',σ',F',hq,hcur⟩
  cases e with
  | exit id' =>
   simp only [Exit.inBlock,fP] at hq ⊢
   split
   ·rename_i he;rw [if_pos he] at hq;exact ⟨fr',aw',σ',F',hq,hcur⟩
   ·rename_i he;rw [if_neg he] at hq;exact ⟨fr',aw',σ',F',hq,hcur⟩
  | _=>exact ⟨fr',aw',σ',F',hq,hcur⟩
 | loop c ih =>
  intro Q fr aw σ w F a h hc
  obtain ⟨I,⟨m,fr',aw',hw,hI⟩,hround⟩:=h
  obtain ⟨σ',hc'⟩:=hc.weak hl hw
  refine wp_loop_ghost (fun m a w=>∃ fr aw σ F,I m fr aw/\Cur st fr aw σ w F a) m ⟨fr',aw',σ',F,hI,hc'⟩ ?_
  rintro m a w ⟨fr,aw,σ,F,hI,hc⟩
  refine wp_mono (ih _ fr aw σ w F a (hround m fr aw hI) hc) ?_
  rintro e a' w' ⟨fr1,aw1,σ1,F1,hq,hcur⟩
  cases e with
  | normal =>
   obtain ⟨m',fr',aw',hlt,hw,hI'⟩:=hq
   obtain ⟨σ',hc'⟩:=hcur.weak hl hw
   exact ⟨m',hlt,fr',aw',σ',F1,hI',hc'⟩
  | _=>exact ⟨fr1,aw1,σ1,F1,hq,hcur⟩
 | exit id=>exact fun Q fr aw σ w F a h hc=>wp_exit ⟨fr,aw,σ,F,h,hc⟩
 | ret=>exact fun Q fr aw σ w F a h hc=>wp_ret ⟨fr,aw,σ,F,h,hc⟩
 | _=>intros;exact (show False from by assumption).elim
end
end
section
open Go.RowKit
section
variable {P:Program} {σ:List Value} {w:World} {F:Nat→Prop} {aw:List Ob}
def resOf (tmps:Array Value):ResultVar->Sem Value
 | .tmp t=>pure (tmps.getD t undef)
 | .cell a t=>do loadVar t (<- asAddr (tmps.getD a undef))
theorem k8 (fn:Func) (tmps:Array Value) (us:List Value) (h:(fn.results.toList.mapM (resOf tmps)).run P w=.ok us w):(results fn tmps).run P w=.ok (if h:us.length=1 then us[0] else .tuple us.toArray) w:=by
 have e:results fn tmps=(do let vs <- fn.results.mapM (resOf tmps);pure (if h:vs.size=1 then vs[0] else .tuple vs)):=by rfl
 simp_all [Array.mapM_eq_mapM_toList]
theorem i7 {fr:List AV} {a:Act} (ha:ARel σ w F fr a) (hs:Sim aw σ w F):∀ (rs:List ResultVar) (K:List AV->Prop),aT P fr aw rs K->∃ vs us,RelL σ w F vs us/\K vs/\(rs.mapM (resOf a.tmps)).run P w=.ok us w
 | [],K,h=>⟨[],[],.nil,h,by simp⟩
 | .tmp t::rs,K,h=>by
  obtain ⟨vs,us,h1,h2,h3⟩:=i7 ha hs rs _ h;refine ⟨_,a.tmps.getD t undef::us,.cons (ha.ev (.tmp t)) h1,h2,?_⟩;grind [Sem.run_bind,resOf,Sem.run_pure,Result.andThen_ok]
 | .cell x t::rs,K,h=>by
  obtain ⟨v,r,h1,h2,h3⟩:=qC ha hs h;obtain ⟨vs,us,h4,h5,h6⟩:=i7 ha hs rs _ h3;refine ⟨_,v::us,.cons h2 h4,h5,?_⟩;have hrun:=h1 w (fun _ _=>rfl);have e:a.eval (.tmp x)=a.tmps.getD x undef:=rfl;rw [e] at hrun;have:(resOf a.tmps (.cell x t)).run P w=.ok v w:=by
   simp only [resOf];generalize a.tmps.getD x undef=p at hrun ⊢;cases p with
   | pointer ad=>cases ad with
    | none=>simp_all [Instr.loadAt,Instr.sureAddr]
    | some ad=>assumption
   | _=>simp_all [Instr.loadAt,Instr.sureAddr]
  simp_all
theorem lL {vs:List AV} {us:List Value} (h:RelL σ w F vs us):Rel σ w F (bl vs) (if h:us.length=1 then us[0] else .tuple us.toArray):=by
 match vs,us,h with
 | [v],[u],h=>exact h.2 0 v u rfl rfl
 | [],[],h=>exact .tup [] [] rfl (fun j c u hc=>by simp at hc)
 | v::v'::vs,u::u'::us,h =>
  rw [dif_neg (by simp)]
  exact .tup _ _ h.1 h.2
 | [],_::_,h=>exact absurd h.1 (by simp)
 | _::_,[],h=>exact absurd h.1 (by simp)
 | [_],_::_::_,h=>exact absurd h.1 (by simp)
 | _::_::_,[_],h=>exact absurd h.1 (by simp)
theorem lC {r:AV} {v:Value} (hs:Sim aw σ w F) (hr:Rel σ w F r v):∃ F',Sim (dh aw r).2 σ w F'/\Mv aw σ w F (dh aw r).2 σ w F'/\Rel σ w F' (dh aw r).1 v:=by
 cases r with
 | tup vs =>
  cases hr with
  | tup _ us hl hc =>
   obtain ⟨F',s1,m1,r1⟩:=kb hs ⟨hl,hc⟩;exact ⟨F',s1,m1,.tup _ us r1.1 r1.2⟩
 | _=>exact iU hs hr
theorem callable {f:FuncId} {fn:Func} (hf:P.funcs[f]?=some fn) (hb:fn.body.isSome=true) (hname:(fn.name == "runtime.NumGoroutine")=false) (vs:Array Value) (w:World):(callFunc f vs).run P w=.ok (.enter f vs) w:=by
 have hb':fn.body≠none:=by grind
 simp_all [callFunc]
theorem ACalls.of_vc {f:FuncId} {fn:Func} {c:Code} {args:List AV} {aw:List Ob} {Q:AV->List Ob->Prop} (hf:P.funcs[f]?=some fn) (hb:fn.body=some c) (hname:(fn.name == "runtime.NumGoroutine")=false)
  (h:vc P aw.length c (retQ P fn aw.length Q) (args++List.replicate (fn.ntmps - args.length) .any) aw):ACalls P f args aw Q:=by
 refine ⟨callable hf (by rw [hb];rfl) hname,fun w F σ vs hs hr=>?_⟩
 have hc:Cur ⟨aw,σ,w,F,[]⟩ (args++List.replicate (fn.ntmps - args.length) .any) aw σ w F { tmps:=vs.toArray++Array.replicate (fn.ntmps - vs.toArray.size) undef,defers:=[] }:=by
  refine ⟨hs,⟨?_,tqz⟩,.refl ..,rfl⟩;have h2:RelL σ w F (List.replicate (fn.ntmps - args.length) .any) (List.replicate (fn.ntmps - vs.length) undef) :=
   ⟨by simp [hr.1],fun j x v hx hv=>by rw [AG (zM hx)];exact .any v⟩
  simpa using hr.append h2
 refine calls_of_wp hf hb (wp_mono (oX (st:=⟨aw,σ,w,F,[]⟩) hs.len c _ _ aw σ w F _ h hc) ?_)
 rintro e a' w' ⟨fr',aw',σ',F',hq,hcur⟩
 have key:aT P fr' aw' fn.results.toList (Ret aw.length Q aw')->a'.defers=[]/\∃ v,(results fn a'.tmps).run P w'=.ok v w' /\
   (∃ v' r aw2 σ2 F2,Ending.returned v=.returned v'/\Q r aw2/\Sim aw2 σ2 w' F2/\Rel σ2 w' F2 r v'/\Mv aw σ w F aw2 σ2 w' F2):=by
  intro hq
  obtain ⟨rs,us,h1,⟨nl,z,r',aw2,hW,hQ⟩,h3⟩:=i7 hcur.fr hcur.sim _ _ hq
  obtain ⟨σn,sn,h1n,mn⟩:=gJ nl hcur.sim h1
  refine ⟨hcur.ds,_,k8 fn a'.tmps us h3,?_⟩
  have hrel:=lL h1n
  have fin:∀ (r1:AV) (aw1:List Ob) (F1:Nat->Prop),Sim aw1 σn w' F1->Mv aw σ w F aw1 σn w' F1->Rel σn w' F1 r1 (if h:us.length=1 then us[0] else .tuple us.toArray)->WeakR aw.length r1 aw1 r' aw2 ->
    ∃ v' r aw2 σ2 F2,Ending.returned (if h:us.length=1 then us[0] else .tuple us.toArray)=.returned v'/\Q r aw2/\Sim aw2 σ2 w' F2/\Rel σ2 w' F2 r v'/\Mv aw σ w F aw2 σ2 w' F2:=by
   intro r1 aw1 F1 s1 m1 hr1 ⟨ρ,hnd,hρ,hren,hRW⟩
   obtain ⟨σ2,hσ,s2,hd⟩:=dM s1 hnd hRW
   exact ⟨_,r',aw2,σ2,F1,rfl,hQ,s2,hren σn w' F1 _ hr1 σ2 hσ,Mv.ren (st:=⟨aw,σ,w,F,[]⟩) hs.len m1 hρ hσ hd⟩
  cases z with
  | true =>
   obtain ⟨F1,s1,m1,r1⟩:=lC sn hrel
   exact fin _ _ F1 s1 ((hcur.mv.trans mn).trans m1) r1 hW
  | false=>exact fin _ _ F' sn (hcur.mv.trans mn) hrel hW
 cases e with
 | normal=>exact key hq
 | ret=>exact key hq
 | exit id=>exact hq.elim
 | goto l=>exact hq.elim
 | panic ch=>exact hq.elim
 | outgrown=>exact hq.elim
end
end
section
open Go.RowKit
section
variable {P:Program} {n:Nat} {Q:Exit→List AV→List Ob→Prop} {fr:List AV} {aw:List Ob} {K:AV→List Ob→Prop} {KK:List AV→List Ob→Prop}
 {d:Option Tmp} {ty:TypeId} {ps:String} {af:Array Edge} {g:Option (Nat × Bool)} {x y z:Operand} {t s:TypeId} {ops:Array Oper} {o:Oper} {l:List Oper}
theorem vq:cR P ⟨d,.alloc t,ty,ps,af,g⟩ fr aw K=(match aq P t with | some z=>K (.ptr aw.length 0) (aw++[.box z]) | none=>False):=rfl
theorem xc:cR P ⟨d,.box t x,ty,ps,af,g⟩ fr aw K=(match (ev fr x).cells with | some cs=>K (.ptr aw.length 0) (aw++[.box cs]) | none=>False):=rfl
theorem lM:cR P ⟨d,.load t x,ty,ps,af,g⟩ fr aw K =
  (match ev fr x with
  | .ptr id off=>(match aw[id]? with | some (.box cs)=>aV P t cs off fun r=>K r aw | _=>False)
  | .elt row off=>aV P t row off fun r=>K r aw
  | .aptr id size i off=>(match aw[id]? with
   | some (.arr _ size' rows)=>size'=size/\i<rows.length/\∀ row,rows[i]?=some row->aV P t row off fun r=>K r aw
   | _=>False)
  | _=>False):=by
 cases h:ev fr x<;>simp only [cR,vcVal,isQ,vcQ,vcE,h,if_true,zO,if_false]<;>rfl
theorem o6:cR P ⟨d,.store t x y,ty,ps,af,g⟩ fr aw K =
  (match ev fr x with
  | .ptr id off=>(match (ev fr y).cells with
   | some vs=>(match aw[id]? with
    | some (.box cs)=>(P.underlying t).isSome=true/\vs.length=P.cellsOf t/\off+vs.length<=cs.length/\K .any (aw.set id (.box (splice cs off vs)))
    | _=>False)
   | none=>False)
  | .aptr id size i off=>(match (ev fr y).cells with
   | some vs=>(match aw[id]? with
    | some (.arr e size' rows)=>(P.underlying t).isSome=true/\size'=size/\vs.length=P.cellsOf t/\i<rows.length/\off+vs.length<=size /\
     ∀ row,rows[i]?=some row->K .any (aw.set id (.arr e size (rows.set i (splice row off vs))))
    | _=>False)
   | none=>False)
  | _=>False):=by
 cases h:ev fr x<;>cases h2:(ev fr y).cells<;>simp only [cR,vcVal,isQ,vcQ,vcE,h,h2,if_true,zO,if_false]<;>rfl
theorem se:cR P ⟨d,.makeSlice t x y,ty,ps,af,g⟩ fr aw K =
 (match P.underlying t,ev fr x,ev fr y with
 | some (.slice e),.int _ n,.int _ m=>(match aq P e with
  | some z=>z.length=P.cellsOf e/\0<P.cellsOf e/\0<=n/\n<=m/\(n=0∨n=m)/\P.bytesOf e*m.toNat<=281474976710656/\m.toNat<=maxLen /\
   K (.ref aw.length) (aw++[.arr e (P.cellsOf e) (List.replicate n.toNat z)])
  | none=>False)
 | _,_,_=>False):=rfl
end
end
section
open Go.RowKit
section
variable {P:Program} {σ:List Value} {w:World} {F:Nat→Prop} {aw:List Ob}
variable {d:Option Tmp} {ty:TypeId} {ps:String} {af:Array Edge} {ops:Array Oper} {l:List Oper} {fr:List AV} {KK:List AV→List Ob→Prop}
theorem an (k:IntKind) (n:Int):Pure (.int k n):=fun σ w F v h σ'=>kf rfl h
theorem cz (b:Bool):Pure (.bool b):=fun σ w F v h σ'=>kf rfl h
theorem ea (s:List UInt8):Pure (.str s):=fun σ w F v h σ'=>kf rfl h
theorem iG:Pure .nils:=fun σ w F v h σ'=>by cases h;exact .nils
theorem iJ:Pure .nilf:=fun σ w F v h σ'=>by cases h;exact .nilf
theorem oH (cs:List AV) (hp:∀ c,c∈cs->Pure c):Pure (.agg cs):=fun σ w F v h σ'=>by
 cases h with
 | agg _ vs hl h1 hc=>exact .agg cs vs hl h1 (fun j c u hcj hu=>hp c (zM hcj) σ w F u (hc j c u hcj hu) σ')
theorem vk (cs:List AV) (hp:∀ c,c∈cs->Pure c):Pure (.tup cs):=fun σ w F v h σ'=>by
 cases h with
 | tup _ vs hl hc=>exact .tup cs vs hl (fun j c u hcj hu=>hp c (zM hcj) σ w F u (hc j c u hcj hu) σ')
theorem tX (f:FuncId) (cs:List AV) (hp:∀ c,c∈cs->Pure c):Pure (.func f cs):=fun σ w F v h σ'=>by
 cases h with
 | func _ _ vs hl hc=>exact .func f cs vs hl (fun j c u hcj hu=>hp c (zM hcj) σ w F u (hc j c u hcj hu) σ')
theorem vX (rows:List (List AV)) (hp:∀ row,row∈rows->∀ c,c∈row->Pure c):Pure (.sl rows):=fun σ w F v h σ'=>by
 cases h with
 | slNil=>exact .slNil
 | sl _ size ad c u h1 h2 h3 h4 h5 h6 h7=>exact .sl rows size ad c u h1 h2 h3 h4 h5 h6 (fun i row j x hi hx=>hp row (zM hi) x (zM hx) σ w F _ (h7 i row j x hi hx) σ')
theorem oJ (row:List AV) (off:Nat) (hp:∀ c,c∈row->Pure c):Pure (.elt row off):=fun σ w F v h σ'=>by
 cases h with
 | elt _ _ ad u h1 h2 h3 h4=>exact .elt row off ad u h1 h2 h3 (fun j x hx=>hp x (zM hx) σ w F _ (h4 j x hx) σ')
theorem pM (ρ:List Nat) (a:AV):Ren ρ .any a:=fun σ w F v h σ' _=>.any v
theorem dr {ρ:List Nat} {a:AV} (h:Pure a):Ren ρ a a:=fun σ w F v hr σ' _=>h σ w F v hr σ'
theorem wI {ρ:List Nat} {k id off:Nat} (h:ρ[k]?=some id):Ren ρ (.ptr k off) (.ptr id off):=fun σ w F v hr σ' hσ=>by
 cases hr with
 | ptr _ _ g hg=>exact .ptr k off g (by grind)
theorem pR {ρ:List Nat} {k id:Nat} (h:ρ[k]?=some id):Ren ρ (.ref k) (.ref id):=fun σ w F v hr σ' hσ=>by
 cases hr with
 | ref _ A n c hg=>exact .ref k A n c (by grind)
def loopI {α:Type} (F:α->List AV) (A:α->List Ob) (μ:α->Nat) (inv:α->Prop) (m:Nat) (fr:List AV) (aw:List Ob):Prop:=∃ x,fr=F x/\aw=A x/\μ x=m/\inv x
theorem Loop.by {α:Type} {n:Nat} {body:(Exit->List AV->List Ob->Prop)->List AV->List Ob->Prop} {Q:Exit->List AV->List Ob->Prop} {aw:List Ob}
  (F:α->List AV) (A:α->List Ob) (μ:α->Nat) (inv:α->Prop) (x:α) (h0:inv x) (hw:Weak n fr aw (F x) (A x))
  (hr:∀ x,inv x->body (loopQ n (loopI F A μ inv) (μ x) Q) (F x) (A x)):Loop n body Q fr aw:=by
 refine ⟨loopI F A μ inv,⟨μ x,_,_,hw,x,rfl,rfl,rfl,h0⟩,?_⟩
 rintro m fr aw ⟨y,rfl,rfl,rfl,hy⟩
 exact hr y hy
theorem Loop.back {α:Type} {n:Nat} {Q:Exit->List AV->List Ob->Prop} {aw:List Ob} {F:α->List AV} {A:α->List Ob} {μ:α->Nat} {inv:α->Prop} {x:α} (y:α) (hlt:μ y<μ x) (hy:inv y) (hw:Weak n fr aw (F y) (A y)) :
 loopQ n (loopI F A μ inv) (μ x) Q .normal fr aw:=⟨_,_,_,hlt,hw,y,rfl,rfl,rfl,hy⟩
theorem Weak.by {n:Nat} {aw aw':List Ob} {fr':List AV} (ρ:List Nat) (h1:ρ.Nodup) (h2:∀ k,k<n->ρ[k]?=some k) (h3:bd ρ fr' fr) (h4:ba ρ aw ρ aw'):Weak n fr aw fr' aw':=⟨[],ρ,h1,h2,h3,h4⟩
theorem Ret.data {Q:AV->List Ob->Prop} {aw:List Ob} {vs:List AV} (hp:Pure (bl vs)) (hQ:Q (bl vs) []):Ret 0 Q aw vs :=
 ⟨[],false,bl vs,[],⟨[],List.nodup_nil,fun k h=>by omega,dr hp,tqz⟩,hQ⟩
theorem Ret.norm {Q:AV->List Ob->Prop} {aw:List Ob} {vs:List AV} (hp:Pure (dh aw (bl vs)).1) (hQ:Q (dh aw (bl vs)).1 []):Ret 0 Q aw vs :=
 ⟨[],true,_,[],⟨[],List.nodup_nil,fun k h=>by omega,dr hp,tqz⟩,hQ⟩
theorem Ret.own {Q:AV->List Ob->Prop} {aw:List Ob} {k:Nat} {e:TypeId} {s:Nat} {rows:List (List AV)} (hk:aw[k]?=some (.arr e s rows)) (hp:∀ row,row∈rows->∀ x,x∈row->Pure x) (hQ:Q (.ref 0) [.arr e s rows]):Ret 0 Q aw [.ref k] :=
 ⟨[],false,.ref 0,[.arr e s rows],⟨[k],by simp,fun k h=>by omega,pR rfl,show ba [k] aw [k] [.arr e s rows] from ⟨⟨_,hk,rfl,rfl,rfl,fun row hr x hx=>dr (hp row hr x hx)⟩,tqz⟩⟩,hQ⟩
def Fn (P:Program) (f:FuncId) (args:List AV) (v:AV):Prop:=ACalls P f args [] fun r aw=>r=v/\aw=[]
theorem CallK.fn {f:FuncId} {args:List AV} {aw aw1:List Ob} {v:AV} {K:AV->List Ob->Prop} (h:Fn P f args v) (hp:∀ a,a∈args->Pure a) (hv:Pure v) (hK:K v aw1):CallK P f args aw aw1 K :=
 .inr ⟨_,h,hp,fun r aw' ⟨h1,h2⟩=>.inr (.inl ⟨h2,by grind,by grind⟩)⟩
theorem CallK.flat {f:FuncId} {args:List AV} {aw aw1:List Ob} {v:AV} {K:AV->List Ob->Prop} (h:Fn P f args v) (hp:∀ a,a∈args->Pure a) (hv:Go.Proofs.YtbfncjgaklimlaaGreatDoor.flat v=true) (hK:K v aw):CallK P f args aw aw1 K :=
 .inr ⟨_,h,hp,fun r aw' ⟨h1,h2⟩=>.inl ⟨by grind,by grind⟩⟩
end
end
noncomputable section
open Go.RowKit
def idx {α:Type} (xs:List α) (i:Int):Option α:=if 0<=i then xs[i.toNat]? else none
def sub {α:Type} (xs:List α) (lo hi:Int):Option (List α):=if 0<=lo/\lo<=hi/\hi<=xs.length then some ((xs.take hi.toNat).drop lo.toNat) else none
def app {α:Type} (xs ys:List α):Option (List α):=if xs.length+ys.length<=1099511627776 then some (xs++ys) else none
def cat (xs ys:List UInt8):Option (List UInt8):=if xs.length+ys.length<=4611686018427387904 then some (xs++ys) else none
def quo (k:IntKind) (a b:Int):Option Int:=if b=0 then none else some (k.wrap (a.tdiv b))
def rem (a b:Int):Option Int:=if b=0 then none else some (a.tmod b)
def shl (k:IntKind) (a b:Int):Option Int:=if 0<=b then some (k.wrap (a*2 ^ (min b.toNat k.bits))) else none
def shr (k:IntKind) (a b:Int):Option Int:=if 0<=b then some (a.fdiv (2 ^ (min b.toNat k.bits))) else none
def mk {α:Type} (n:Int) (z:α):Option (List α):=if 0<=n/\n<=1099511627776 then some (List.replicate n.toNat z) else none
def dj (l:List Int):List UInt8:=l.map fun n=>UInt8.ofNat n.toNat
def ixN {α:Type} (xs:List α) (i:Int):Option Nat:=if 0<=i/\i<xs.length then some i.toNat else none
def ibits (op:BinOp) (k:IntKind) (x y:Int):Int :=
 let a:=BitVec.ofInt k.bits x
 let b:=BitVec.ofInt k.bits y
 match op with
 | .and=>k.wrap (a &&& b).toNat
 | .or=>k.wrap (a ||| b).toNat
 | .xor=>k.wrap (a ^^^ b).toNat
 | _=>0
abbrev W (n:Int):Int:=IntKind.i64.wrap n
theorem uH {α:Type} {xs:List α} {i:Int} {a:α} (h:idx xs i=some a):0<=i/\i<xs.length/\xs[i.toNat]?=some a:=by grind [idx]
theorem bind_some {α β:Type} {o:Option α} {k:α->Option β} {r:β} (h:o.bind k=some r):∃ x,o=some x/\k x=some r:=Option.bind_eq_some_iff.1 h
theorem gY {α β:Type} {o:Option β} {v:α ⊕ β} (h:o.map Sum.inr=some v):∃ w,o=some w/\v=.inr w:=by
 cases o with
 | none=>cases h
 | some w=>grind
inductive Steps {α β:Type} (body:α->Option (α ⊕ β)):Nat->α->β->Prop
 | done {s:α} {r:β}:body s=some (.inr r)->Steps body 0 s r
 | step {m:Nat} {s s':α} {r:β}:body s=some (.inl s')->Steps body m s' r->Steps body (m+1) s r
open Classical in
def iter {α β:Type} (body:α->Option (α ⊕ β)) (s:α):Option β :=
 if h:∃ p:Nat × β,Steps body p.1 s p.2 then some h.choose.2 else none
theorem Steps.det {α β:Type} {body:α->Option (α ⊕ β)} {m m':Nat} {s:α} {r r':β} (h:Steps body m s r) (h':Steps body m' s r'):m=m'/\r=r':=by
 induction h generalizing m' with
 | done e =>
  cases h' with
  | done e'=>grind
  | step e' _=>grind
 | step e _ ih =>
  cases h' with
  | done e'=>grind
  | step e' h'=>grind
theorem ln {α β:Type} {body:α->Option (α ⊕ β)} {s:α} {r:β}:iter body s=some r ↔ ∃ m,Steps body m s r:=by
 unfold iter;constructor
 ·intro h;split at h;all_goals grind
 ·rintro ⟨m,h⟩;have hp:∃ p:Nat × β,Steps body p.1 s p.2:=⟨(m,r),h⟩
  rw [dif_pos hp,(hp.choose_spec.det h).2]
theorem aL {α β:Type} (body:α->Option (α ⊕ β)) (s:α):iter body s=match body s with | none=>none | some (.inl s')=>iter body s' | some (.inr r)=>some r:=by
 apply Option.ext;intro r;show iter body s=some r ↔ (match body s with | none=>none | some (.inl s')=>iter body s' | some (.inr r)=>some r)=some r;rw [ln];cases hb:body s with
 | none=>exact ⟨fun ⟨m,h⟩=>(by cases h<;>simp_all),fun h=>(by cases h)⟩
 | some v =>
  cases v with
  | inl s' =>
   simp only;rw [ln];constructor
   ·rintro ⟨m,h⟩;cases h with
    | done e=>grind
    | step e h=>grind
   ·rintro ⟨m,h⟩;exact ⟨_,.step hb h⟩
  | inr r' =>
   simp only;constructor
   ·rintro ⟨m,h⟩;cases h with
    | done e=>grind
    | step e _=>grind
   ·intro h;cases h;exact ⟨0,.done hb⟩
theorem bu {α:Type} {b:Bool} {A B:Option α} {v:α} (h:(if b=true then A else B)=some v) (hb:b=true):A=some v:=by grind
theorem bt {α:Type} {b:Bool} {A B:Option α} {v:α} (h:(if b=true then A else B)=some v) (hb:b=false):B=some v:=by grind
end
section
open Go.RowKit
def lkA:List (Nat × AV)->Nat->AV
 | [],_=>.any
 | (s,v)::r,t=>match Nat.beq s t with
  | true=>v
  | false=>lkA r t
def mkA (n:Nat) (l:List (Nat × AV)):List AV:=(List.range n).map (lkA l)
def evA (n:Nat) (l:List (Nat × AV)):Operand->AV
 | .tmp t=>match Nat.blt t n with
  | true=>lkA l t
  | false=>.any
 | .const v=>AV.ofVal v
 | .global _=>.any
 | .func f=>.func f []
def bI (l:List (Nat × AV)):Option Tmp->AV->List (Nat × AV)
 | none,_=>l
 | some t,r=>(t,r)::l
theorem dJ (s:Nat) (v:AV) (r:List (Nat × AV)) (t:Nat):lkA ((s,v)::r) t=if s=t then v else lkA r t:=by
 show (match Nat.beq s t with | true=>v | false=>lkA r t)=_;by_cases h:s=t
 ·simp_all
 ·have:Nat.beq s t=false:=by
   grind [Nat.eq_of_beq_eq_true]
  grind
theorem db {n:Nat} {l:List (Nat × AV)} {t:Nat}:(mkA n l)[t]?=if t<n then some (lkA l t) else none:=by unfold mkA;grind
theorem gX {n:Nat} {l:List (Nat × AV)}:(mkA n l).length=n:=by simp [mkA]
theorem am (n:Nat) (l:List (Nat × AV)) (x:Operand):ev (mkA n l) x=evA n l x:=by
 cases x with
 | tmp t =>
  show (mkA n l).getD t .any=(match Nat.blt t n with | true=>lkA l t | false=>.any)
  rw [z8,db];by_cases h:t<n
  ·have:Nat.blt t n=true:=by simp_all
   grind
  ·have:Nat.blt t n=false:=by
    grind [Nat.blt_eq]
   grind
 | _=>rfl
theorem bG (n:Nat) (l:List (Nat × AV)) (d:Option Tmp) (r:AV):putF (mkA n l) d r=mkA n (bI l d r):=by
 cases d with
 | none=>rfl
 | some t =>
  apply Ap;intro i;show ((mkA n l).set t r)[i]?=(mkA n ((t,r)::l))[i]?;rw [zV,db,db,gX,dJ];grind
def initA (k:Nat):List AV->List (Nat × AV)
 | []=>[]
 | a::as₀=>(k,a)::initA (k+1) as₀
theorem po:∀ (as₀:List AV) (k t:Nat),k<=t->lkA (initA k as₀) t=as₀.getD (t - k) .any
 | [],k,t,_=>rfl
 | a::as₀,k,t,h=>by
  show lkA ((k,a)::initA (k+1) as₀) t=_;rw [dJ];by_cases e:k=t
  ·subst e;simp
  ·rw [if_neg e,po as₀ (k+1) t (by omega)];grind
theorem lI (n:Nat) (as₀:List AV) (h:as₀.length<=n):as₀++List.replicate (n - as₀.length) AV.any=mkA n (initA 0 as₀):=by apply Ap;intro i;rw [db,po as₀ 0 i (Ae _),Nat.sub_zero];grind
section
variable {P:Program} {N n:Nat} {fr fr':List AV} {aw aw':List Ob} {l:List (Nat × AV)}
structure T (P:Program) (N:Nat) (c:Code) (Q:Exit->List AV->List Ob->Prop) (fr:List AV) (aw:List Ob):Prop where
 out:∀ st:St,st.aw.length=N->st.σ.length=st.aw.length->∀ σ w F a,Cur st fr aw σ w F a->c.wp P (CQ st Q) a w
structure OP (P:Program) (N:Nat) (o:Oper) (fr:List AV) (aw:List Ob) (K:AV->List Ob->Prop):Prop where
 out:∀ st:St,st.aw.length=N->st.σ.length=st.aw.length->∀ σ w F a,Cur st fr aw σ w F a->∀ (Kc:Act->World->Prop) (Q:Exit->Act->World->Prop),
  (∀ r aw' σ' w' F' v,K r aw'->Cur st fr aw' σ' w' F' a->Rel σ' w' F' r v->Kc (a.put o.dst v) w')->o.wp P a w Kc Q
structure RS (P:Program) (N:Nat) (ops:Array Oper) (l:List Oper) (K:List AV->List Ob->Prop) (fr:List AV) (aw:List Ob):Prop where
 out:∀ st:St,st.aw.length=N->st.σ.length=st.aw.length->∀ σ w F a,Cur st fr aw σ w F a->∀ (Q:Exit->Act->World->Prop),
  (∀ fr aw σ w F a,Cur st fr aw σ w F a->K fr aw->Q .normal a w)->wpList P ops Q l a w
structure RA (P:Program) (N:Nat) (ops:Array Oper) (k:Nat) (listed:Array Bool) (K:List AV->List Ob->Prop) (fr:List AV) (aw:List Ob):Prop where
 out:∀ st:St,st.aw.length=N->st.σ.length=st.aw.length->∀ σ w F a,Cur st fr aw σ w F a->∀ (R:Act->World->Prop),
  (∀ fr aw σ w F a,Cur st fr aw σ w F a->K fr aw->R a w)->wpAny P .any ops (onlyN R) k listed a w
theorem T.of_vc {c:Code} {Q:Exit->List AV->List Ob->Prop} (h:vc P N c Q fr aw):T P N c Q fr aw :=
 ⟨fun st h1 h2 σ w F a hc=>by grind [oX]⟩
theorem T.weak {c:Code} {Q:Exit->List AV->List Ob->Prop} (hw:Weak N fr aw fr' aw') (h:T P N c Q fr' aw'):T P N c Q fr aw :=
 ⟨fun st h1 h2 σ w F a hc=>by subst h1;obtain ⟨σ',hc'⟩:=hc.weak h2 hw;exact h.out st rfl h2 σ' w F a hc'⟩
theorem RS.weak {ops:Array Oper} {l:List Oper} {K:List AV->List Ob->Prop} (hw:Weak N fr aw fr' aw') (h:RS P N ops l K fr' aw'):RS P N ops l K fr aw :=
 ⟨fun st h1 h2 σ w F a hc=>by subst h1;obtain ⟨σ',hc'⟩:=hc.weak h2 hw;exact h.out st rfl h2 σ' w F a hc'⟩
theorem RA.weak {ops:Array Oper} {k:Nat} {li:Array Bool} {K:List AV->List Ob->Prop} (hw:Weak N fr aw fr' aw') (h:RA P N ops k li K fr' aw'):RA P N ops k li K fr aw :=
 ⟨fun st h1 h2 σ w F a hc=>by subst h1;obtain ⟨σ',hc'⟩:=hc.weak h2 hw;exact h.out st rfl h2 σ' w F a hc'⟩
theorem T.skip {Q:Exit->List AV->List Ob->Prop} (h:Q .normal fr aw):T P N .skip Q fr aw:=⟨fun st _ _ σ w F a hc=>wp_skip ⟨fr,aw,σ,F,h,hc⟩⟩
theorem T.ret {Q:Exit->List AV->List Ob->Prop} (h:Q .ret fr aw):T P N .ret Q fr aw:=⟨fun st _ _ σ w F a hc=>wp_ret ⟨fr,aw,σ,F,h,hc⟩⟩
theorem T.exit {id:Nat} {Q:Exit->List AV->List Ob->Prop} (h:Q (.exit id) fr aw):T P N (.exit id) Q fr aw:=⟨fun st _ _ σ w F a hc=>wp_exit ⟨fr,aw,σ,F,h,hc⟩⟩
theorem T.seq {x y:Code} {Q:Exit->List AV->List Ob->Prop} (h:T P N x (thenA (T P N y Q) Q) fr aw):T P N (.seq x y) Q fr aw :=
 ⟨fun st h1 h2 σ w F a hc=>wp_seq (wp_mono (h.out st h1 h2 σ w F a hc) (by
  rintro e a' w' ⟨fr',aw',σ',F',hq,hcur⟩;cases e with
  | normal=>exact T.out hq st h1 h2 σ' w' F' a' hcur
  | _=>exact ⟨fr',aw',σ',F',hq,hcur⟩))⟩
theorem T.mono {c:Code} {Q Q':Exit->List AV->List Ob->Prop} (h:T P N c Q fr aw) (hq:∀ e fr aw,Q e fr aw->Q' e fr aw):T P N c Q' fr aw :=
 ⟨fun st h1 h2 σ w F a hc=>wp_mono (h.out st h1 h2 σ w F a hc) fun e a' w' ⟨fr',aw',σ',F',h3,h4⟩=>⟨fr',aw',σ',F',hq _ _ _ h3,h4⟩⟩
theorem T.cond {c:Operand} {x y:Code} {Q:Exit->List AV->List Ob->Prop} {b:Bool} (he:evA n l c=.bool b) (h1:b=true->T P N x Q (mkA n l) aw) (h0:b=false->T P N y Q (mkA n l) aw):T P N (.cond c x y) Q (mkA n l) aw :=
 ⟨fun st hN h2 σ w F a hc=>by
  have hcv:=hc.fr.ev c;rw [am,he] at hcv;generalize hv:a.eval c=v at hcv;cases hcv;cases b with
  | true=>grind [wp_cond_true,out]
  | false=>grind [wp_cond_false,out]⟩
theorem T.block {id:Nat} {c:Code} {Q:Exit->List AV->List Ob->Prop} (h:T P N c (fP id Q) fr aw):T P N (.block id c) Q fr aw :=
 ⟨fun st h1 h2 σ w F a hc=>by
  refine wp_block (wp_mono (h.out st h1 h2 σ w F a hc) ?_);rintro e a' w' ⟨fr',aw',σ',F',hq,hcur⟩;cases e with
  | exit id' =>
   simp only [Exit.inBlock,fP] at hq ⊢;split
   ·rename_i he;rw [if_pos he] at hq;exact ⟨fr',aw',σ',F',hq,hcur⟩
   ·rename_i he;rw [if_neg he] at hq;exact ⟨fr',aw',σ',F',hq,hcur⟩
  | _=>exact ⟨fr',aw',σ',F',hq,hcur⟩⟩
theorem T.region {id:Nat} {ops:Array Oper} {Q:Exit->List AV->List Ob->Prop} (h:RS P N ops ops.toList (Q .normal) fr aw):T P N (.region id ops false) Q fr aw :=
 ⟨fun st h1 h2 σ w F a hc=>wp_region_list (h.out st h1 h2 σ w F a hc _ fun fr aw σ w F a hc hK=>⟨fr,aw,σ,F,hK,hc⟩)⟩
theorem T.drawn {id:Nat} {ops:Array Oper} {Q:Exit->List AV->List Ob->Prop} (hm:P.follows .mixedOrders=true) {k:Nat} (hk:ops.size=k) (h:RA P N ops k (Array.replicate k false) (Q .normal) fr aw):T P N (.region id ops true) Q fr aw :=
 ⟨fun st h1 h2 σ w F a hc=>by subst hk;have hc':Cur st fr aw σ w.drew F a:=hc.step hc.sim.drew .drew;refine wp_mono (wp_region_any hm (h.out st h1 h2 σ w.drew F a hc' (fun a w=>CQ st Q .normal a w) fun fr aw σ w F a hc hK=>⟨fr,aw,σ,F,hK,hc⟩)) (fun e a w hq=>?_);cases e<;>first | exact hq | exact hq.elim⟩
end
section
variable {P:Program} {N n:Nat} {fr fr':List AV} {aw aw':List Ob} {l:List (Nat × AV)}
def LQ {α β:Type} (N:Nat) (v:α ⊕ β) (F:α->List AV) (A:α->List Ob) (Q:Exit->List AV->List Ob->Prop):Exit->List AV->List Ob->Prop
 | .normal,fr,aw=>∃ s',v=.inl s'/\Weak N fr aw (F s') (A s')
 | e,fr,aw=>Q e fr aw
theorem T.iter {α β:Type} {body:α->Option (α ⊕ β)} {s:α} {r:β} {c:Code} {Q:Exit->List AV->List Ob->Prop} (F:α->List AV) (A:α->List Ob) (h:iter body s=some r) (hw:Weak N fr aw (F s) (A s))
  (hb:∀ s v,body s=some v->(∀ w,v=.inr w->w=r)->T P N c (LQ N v F A Q) (F s) (A s)):T P N (.loop c) Q fr aw:=by
 obtain ⟨m,hm⟩:=ln.1 h
 refine ⟨fun st h1 h2 σ w Fb a hc=>?_⟩
 subst h1
 obtain ⟨σ',hc'⟩:=hc.weak h2 hw
 refine wp_loop_ghost (fun m a w=>∃ s σ Fb,Steps body m s r/\Cur st (F s) (A s) σ w Fb a) m ⟨s,σ',Fb,hm,hc'⟩ ?_
 rintro m a w ⟨s,σ,Fb,hs,hc⟩
 cases hs with
 | done e =>
  refine wp_mono ((hb s _ e (fun w hw=>(Sum.inr.inj hw).symm)).out st rfl h2 σ w Fb a hc) ?_
  rintro e a' w' ⟨fr1,aw1,σ1,F1,hq,hcur⟩
  cases e with
  | normal=>obtain ⟨s',hv,_⟩:=hq;cases hv
  | _=>exact ⟨fr1,aw1,σ1,F1,hq,hcur⟩
 | @step m' _ s' _ e hs' =>
  refine wp_mono ((hb s _ e (fun w hw=>by cases hw)).out st rfl h2 σ w Fb a hc) ?_
  rintro e a' w' ⟨fr1,aw1,σ1,F1,hq,hcur⟩
  cases e with
  | normal =>
   obtain ⟨s'',hv,hw⟩:=hq
   cases hv
   obtain ⟨σ',hc'⟩:=hcur.weak h2 hw
   exact ⟨m',by omega,s',σ',F1,hs',hc'⟩
  | _=>exact ⟨fr1,aw1,σ1,F1,hq,hcur⟩
theorem OP.of_vc {o:Oper} {K:AV->List Ob->Prop} (h:cR P o fr aw K):OP P N o fr aw K :=
 ⟨fun st h1 h2 σ w F a hc Kc Q hk=>lR hc h hk⟩
theorem RS.nil {ops:Array Oper} {K:List AV->List Ob->Prop} (h:K fr aw):RS P N ops [] K fr aw:=⟨fun st h1 h2 σ w F a hc Q hQ=>hQ _ _ _ _ _ _ hc h⟩
theorem RS.op {ops:Array Oper} {o:Oper} {os:List Oper} {K:List AV->List Ob->Prop} (hg:o.guard=none) (h:OP P N o (mkA n l) aw fun r aw'=>RS P N ops os K (mkA n (bI l o.dst r)) aw'):RS P N ops (o::os) K (mkA n l) aw :=
 ⟨fun st h1 h2 σ w F a hc Q hQ=>by unfold wpList;rw [if_pos (by grind [Region.wanted])];refine .inl (h.out st h1 h2 σ w F a hc _ _ fun r aw' σ' w' F' v hK hcur hrel=>RS.out hK st h1 h2 σ' w' F' _ ?_ Q hQ);have:=bv hcur hrel o.dst;grind [bG]⟩
theorem eY {σ:List Value} {w:World} {F:Nat->Prop}:Rel σ w F (.tup []) undef:=.tup [] [] rfl (fun j c u hc=>by simp at hc)
theorem fM {st:St} {ops:Array Oper} {j t:Nat} {b:Bool} {σ:List Value} {w:World} {F:Nat->Prop} {a:Act} (hc:Cur st (mkA n l) aw σ w F a) (ht:(ops[j]?).bind (·.dst)=some t) (hb:evA n l (.tmp t)=.bool b):yielded ops a.tmps j=some b:=by
 have hr:=hc.fr.ev (.tmp t);rw [am,hb] at hr;have he:a.eval (.tmp t)=a.tmps.getD t undef:=rfl;rw [he] at hr;generalize hv:a.tmps.getD t undef=v at hr;cases hr;have:a.tmps[t]?=some (.bool b):=by
  cases hx:a.tmps[t]? with
  | none=>grind [undef]
  | some u=>simp_all
 grind [yielded]
theorem RS.yes {ops:Array Oper} {o:Oper} {os:List Oper} {K:List AV->List Ob->Prop} {j t:Nat} {want b:Bool} (hg:o.guard=some (j,want)) (ht:(ops[j]?).bind (·.dst)=some t) (hb:evA n l (.tmp t)=.bool b) (hbw:b=want)
  (h:OP P N o (mkA n l) aw fun r aw'=>RS P N ops os K (mkA n (bI l o.dst r)) aw'):RS P N ops (o::os) K (mkA n l) aw :=
 ⟨fun st h1 h2 σ w F a hc Q hQ=>by unfold wpList;rw [if_pos (by grind [Region.wanted,fM])];refine .inl (h.out st h1 h2 σ w F a hc _ _ fun r aw' σ' w' F' v hK hcur hrel=>RS.out hK st h1 h2 σ' w' F' _ ?_ Q hQ);have:=bv hcur hrel o.dst;grind [bG]⟩
theorem RS.no {ops:Array Oper} {o:Oper} {os:List Oper} {K:List AV->List Ob->Prop} {j t:Nat} {want b:Bool} (hg:o.guard=some (j,want)) (ht:(ops[j]?).bind (·.dst)=some t) (hb:evA n l (.tmp t)=.bool b) (hbw:b=!want)
  (h:RS P N ops os K (mkA n (bI l o.dst (.tup []))) aw):RS P N ops (o::os) K (mkA n l) aw :=
 ⟨fun st h1 h2 σ w F a hc Q hQ=>by unfold wpList;rw [if_neg (by simp [Region.wanted,hg,fM hc ht hb,hbw])];refine h.out st h1 h2 σ w F _ ?_ Q hQ;have:=bv hc eY o.dst;grind [bG]⟩
theorem lc {st:St} {ops:Array Oper} {j t:Nat} {σ:List Value} {w:World} {F:Nat->Prop} {a:Act} (hc:Cur st (mkA n l) aw σ w F a) (ht:(ops[j]?).bind (·.dst)=some t) (hb:evA n l (.tmp t)=.tup []):yielded ops a.tmps j=none:=by
 have hr:=hc.fr.ev (.tmp t);rw [am,hb] at hr;have he:a.eval (.tmp t)=a.tmps.getD t undef:=rfl;rw [he] at hr;generalize hv:a.tmps.getD t undef=v at hr;cases hr with
 | tup _ vs hl _ =>
  have:vs=[]:=zN (by omega);subst this;simp only [yielded,ht,zI];cases hx:a.tmps[t]? with
  | none=>rfl
  | some u=>simp_all
theorem RS.nou {ops:Array Oper} {o:Oper} {os:List Oper} {K:List AV->List Ob->Prop} {j t:Nat} {want:Bool} (hg:o.guard=some (j,want)) (ht:(ops[j]?).bind (·.dst)=some t) (hb:evA n l (.tmp t)=.tup [])
  (h:RS P N ops os K (mkA n (bI l o.dst (.tup []))) aw):RS P N ops (o::os) K (mkA n l) aw :=
 ⟨fun st h1 h2 σ w F a hc Q hQ=>by unfold wpList;rw [if_neg (by grind [Region.wanted,lc])];refine h.out st h1 h2 σ w F _ ?_ Q hQ;have:=bv hc eY o.dst;grind [bG]⟩
theorem RS.join {ops:Array Oper} {os:List Oper} {K:List AV->List Ob->Prop} (m:Nat) (fr':List AV) (aw':List Ob) (h:RS P N ops (os.drop m) K fr' aw') (h2:RS P N ops (os.drop m) K fr' aw'->RS P N ops os K fr aw):RS P N ops os K fr aw:=h2 h
theorem RA.done {ops:Array Oper} {k:Nat} {li:Array Bool} {K:List AV->List Ob->Prop} (hr:Region.ready .any ops li=[]) (h:K fr aw):RA P N ops k li K fr aw :=
 ⟨fun st h1 h2 σ w F a hc R hR=>wpAny_done hr (hR _ _ _ _ _ _ hc h) k⟩
structure RO (P:Program) (N:Nat) (ops:Array Oper) (i:Nat) (K:List AV->List Ob->Prop) (fr:List AV) (aw:List Ob):Prop where
 out:∀ st:St,st.aw.length=N->st.σ.length=st.aw.length->∀ σ w F a,Cur st fr aw σ w F a->∀ (R Kc:Act->World->Prop),
  (∀ fr aw σ w F a,Cur st fr aw σ w F a->K fr aw->Kc a w)->wpOp P ops (onlyN R) i Kc a w
theorem RA.all {ops:Array Oper} {k:Nat} {li:Array Bool} {K:List AV->List Ob->Prop} {rs:List Nat} (hr:Region.ready .any ops li=rs) (hne:rs≠[]) (h:∀ i,i∈rs->RO P N ops i (RA P N ops k (li.setIfInBounds i true) K) fr aw):RA P N ops (k+1) li K fr aw :=
 ⟨fun st h1 h2 σ w F a hc R hR=>wpAny_all hr hne fun i hi=>(h i hi).out st h1 h2 σ w F a hc R _ fun fr aw σ w F a hc hK=>RA.out hK st h1 h2 σ w F a hc R hR⟩
theorem RO.op {ops:Array Oper} {i:Nat} {o:Oper} {K:List AV->List Ob->Prop} (hi:ops[i]?=some o) (hg:o.guard=none) (h:OP P N o (mkA n l) aw fun r aw'=>K (mkA n (bI l o.dst r)) aw'):RO P N ops i K (mkA n l) aw :=
 ⟨fun st h1 h2 σ w F a hc R Kc hK=>by unfold wpOp;simp only [hi];rw [if_pos (by grind [Region.wanted])];refine .inl (h.out st h1 h2 σ w F a hc _ _ fun r aw' σ' w' F' v hk hcur hrel=>hK _ _ σ' w' F' _ ?_ hk);have:=bv hcur hrel o.dst;grind [bG]⟩
theorem RO.yes {ops:Array Oper} {i:Nat} {o:Oper} {K:List AV->List Ob->Prop} {j t:Nat} {want b:Bool} (hi:ops[i]?=some o) (hg:o.guard=some (j,want)) (ht:(ops[j]?).bind (·.dst)=some t) (hb:evA n l (.tmp t)=.bool b) (hbw:b=want)
  (h:OP P N o (mkA n l) aw fun r aw'=>K (mkA n (bI l o.dst r)) aw'):RO P N ops i K (mkA n l) aw :=
 ⟨fun st h1 h2 σ w F a hc R Kc hK=>by unfold wpOp;simp only [hi];rw [if_pos (by grind [Region.wanted,fM])];refine .inl (h.out st h1 h2 σ w F a hc _ _ fun r aw' σ' w' F' v hk hcur hrel=>hK _ _ σ' w' F' _ ?_ hk);have:=bv hcur hrel o.dst;grind [bG]⟩
theorem RO.no {ops:Array Oper} {i:Nat} {o:Oper} {K:List AV->List Ob->Prop} {j t:Nat} {want b:Bool} (hi:ops[i]?=some o) (hg:o.guard=some (j,want)) (ht:(ops[j]?).bind (·.dst)=some t) (hb:evA n l (.tmp t)=.bool b) (hbw:b=!want)
  (h:K (mkA n (bI l o.dst (.tup []))) aw):RO P N ops i K (mkA n l) aw :=
 ⟨fun st h1 h2 σ w F a hc R Kc hK=>by unfold wpOp;simp only [hi];rw [if_neg (by simp [Region.wanted,hg,fM hc ht hb,hbw])];refine hK _ _ σ w F _ ?_ h;have:=bv hc eY o.dst;grind [bG]⟩
theorem RO.nou {ops:Array Oper} {i:Nat} {o:Oper} {K:List AV->List Ob->Prop} {j t:Nat} {want:Bool} (hi:ops[i]?=some o) (hg:o.guard=some (j,want)) (ht:(ops[j]?).bind (·.dst)=some t) (hb:evA n l (.tmp t)=.tup [])
  (h:K (mkA n (bI l o.dst (.tup []))) aw):RO P N ops i K (mkA n l) aw :=
 ⟨fun st h1 h2 σ w F a hc R Kc hK=>by unfold wpOp;simp only [hi];rw [if_neg (by grind [Region.wanted,lc])];refine hK _ _ σ w F _ ?_ h;have:=bv hc eY o.dst;grind [bG]⟩
theorem RA.takeU {ops:Array Oper} {k i:Nat} {li:Array Bool} {o:Oper} {K:List AV->List Ob->Prop} {j t:Nat} {want:Bool} (hi:ops[i]?=some o) (hs:Region.noSelect ops=true) (hf:Region.free .any ops li i=true) (hr:(Region.ready .any ops li).contains i=true)
  (hg:o.guard=some (j,want)) (ht:(ops[j]?).bind (·.dst)=some t) (hb:evA n l (.tmp t)=.tup [])
  (h:RA P N ops k (li.setIfInBounds i true) K (mkA n (bI l o.dst (.tup []))) aw):RA P N ops (k+1) li K (mkA n l) aw :=
 ⟨fun st h1 h2 σ w F a hc R hR=>by refine wpAny_take hi hs hf hr (fun c a w hp=>hp) (.inr ⟨by grind [Region.wanted,lc],rfl⟩) (h.out st h1 h2 σ w F _ ?_ R hR);have:=bv hc eY o.dst;grind [bG]⟩
def ed:Op->Bool
 | .load _ _=>false
 | _=>true
theorem gN {st:St} {σ:List Value} {w:World} {F:Nat->Prop} {a:Act} {o:Oper} {K:AV->Prop} (hc:Cur st fr aw σ w F a) (hn:ed o.op=true) (h:vcQ P fr aw o.op K):∃ v r,(∀ w',(execOp a.eval o).run P w'=.ok (.value v) w')/\Rel σ w F r v/\K r:=by obtain ⟨v,r,h1,h2,h3⟩:=vQ hc.fr hc.sim o (fun t x e=>by rw [e] at hn;cases hn) h;grind
theorem RA.take {ops:Array Oper} {k i:Nat} {li:Array Bool} {o:Oper} {K:List AV->List Ob->Prop} (hi:ops[i]?=some o) (hs:Region.noSelect ops=true) (hf:Region.free .any ops li i=true) (hr:(Region.ready .any ops li).contains i=true) (hg:o.guard=none) (hn:ed o.op=true)
  (h:vcQ P (mkA n l) aw o.op fun r=>RA P N ops k (li.setIfInBounds i true) K (mkA n (bI l o.dst r)) aw):RA P N ops (k+1) li K (mkA n l) aw :=
 ⟨fun st h1 h2 σ w F a hc R hR=>by obtain ⟨v,r,hrun,hrel,hk⟩:=gN hc hn h;refine wpAny_take hi hs hf hr (fun c a w hp=>hp) (.inl ⟨by grind [Region.wanted],hrun⟩) (RA.out hk st h1 h2 σ w F _ ?_ R hR);have:=bv hc hrel o.dst;grind [bG]⟩
theorem RA.takeNo {ops:Array Oper} {k i:Nat} {li:Array Bool} {o:Oper} {K:List AV->List Ob->Prop} {j t:Nat} {want b:Bool} (hi:ops[i]?=some o) (hs:Region.noSelect ops=true) (hf:Region.free .any ops li i=true) (hr:(Region.ready .any ops li).contains i=true)
  (hg:o.guard=some (j,want)) (ht:(ops[j]?).bind (·.dst)=some t) (hb:evA n l (.tmp t)=.bool b) (hbw:b=!want)
  (h:RA P N ops k (li.setIfInBounds i true) K (mkA n (bI l o.dst (.tup []))) aw):RA P N ops (k+1) li K (mkA n l) aw :=
 ⟨fun st h1 h2 σ w F a hc R hR=>by refine wpAny_take hi hs hf hr (fun c a w hp=>hp) (.inr ⟨by simp [Region.wanted,hg,fM hc ht hb,hbw],rfl⟩) (h.out st h1 h2 σ w F _ ?_ R hR);have:=bv hc eY o.dst;grind [bG]⟩
end
end
section
open Go.RowKit
structure FieldAt (P:Program) (t:TypeId) (k:Nat) (ft:TypeId) (off:Nat):Prop where
 out:∃ fs f,P.underlying t=some (.struct fs)/\fs[k]?=some f/\f.type=ft/\f.offset=off/\P.cellsOf ft≠0/\(P.underlying ft).isSome=true
structure SliceOf (P:Program) (t e:TypeId) (m:Nat):Prop where
 u:P.underlying t=some (.slice e)
 c:P.cellsOf e=m
 s:(P.underlying e).isSome=true
 p:0<m
 b:P.bytesOf e<=128
 z:∃ z,aq P e=some z/\z.length=m
section
variable {P:Program} {N n:Nat} {aw aw':List Ob} {l:List (Nat × AV)} {t:TypeId} {x y z:Operand} {K:AV→Prop} {K2:AV→List Ob→Prop} {v u r:AV}
def fU:Op->Bool
 | .move _ | .assign _ | .pick _ _ _ | .fieldAddr _ _ _ | .field _ _ _ | .indexAddr _ _ _ | .index _ _ _ | .binOp _ _ _ _ _ | .unOp _ _ _ | .makeFunc _ _ _ | .build _ _ | .extract _ _ | .nilCheck _=>true
 | .call { callee:=.builtin .len,.. } | .call { callee:=.builtin .min,.. } | .call { callee:=.builtin .max,.. }=>true
 | _=>false
theorem OP.q {o:Oper} {fr:List AV} (hq:fU o.op=true) (h:vcQ P fr aw o.op fun r=>K2 r aw):OP P N o fr aw K2:=by
 refine OP.of_vc ?_;obtain ⟨d,op,ty,ps,af,g⟩:=o;cases op with
 | call c =>
  obtain ⟨cal,as₀,ts⟩:=c;cases cal with
  | builtin b=>cases b<;>first | exact h | grind [fU]
  | _=>grind [fU]
 | _=>first | exact h | exact absurd hq (by simp [fU])
theorem bc (hx:evA n l x=v) (h:K v):vcQ P (mkA n l) aw (.move x) K:=by show K (ev (mkA n l) x);grind [am]
theorem uY (hx:evA n l x=v) (h:K v):vcQ P (mkA n l) aw (.assign x) K:=by show K (ev (mkA n l) x);grind [am]
theorem kD {b:Bool} (hc:evA n l z=.bool b) (hr:pickV b (evA n l x) (evA n l y)=r) (h:K r):vcQ P (mkA n l) aw (.pick z x y) K:=by simp_all [vcQ,am]
theorem bH {b:Bool} (hc:evA n l z=.bool b) (hb:b=true) (hx:evA n l x=v) (h:K v):vcQ P (mkA n l) aw (.pick z x y) K:=by refine kD hc ?_ h;subst hb;rw [hx];unfold pickV;grind
theorem bp {b:Bool} (hc:evA n l z=.bool b) (hb:b=false) (hx:evA n l y=v) (h:K v):vcQ P (mkA n l) aw (.pick z x y) K:=by refine kD hc ?_ h;subst hb;rw [hx];unfold pickV;grind
section
variable {k:IntKind} {a b:Int} {yt:TypeId}
theorem v_shr {k':IntKind} {c:Int} (hx:evA n l x=.int k a) (hy:evA n l y=.int k' b) (hc:shr k a b=some c) (h:K (.int k c)):vcQ P (mkA n l) aw (.binOp .shr t x y yt) K:=by simp_all [shr,vcQ,vcBin,am]
theorem v_neg (hx:evA n l x=.int k a) (h:K (.int k (k.wrap (0 - a)))):vcQ P (mkA n l) aw (.unOp .neg t x) K:=by simp_all [vcQ,am]
end
section
variable {a b:List UInt8} {p q:Bool} {yt:TypeId}
theorem xt {c:List UInt8} (hx:evA n l x=.str a) (hy:evA n l y=.str b) (hc:cat a b=some c) (h:K (.str c)):vcQ P (mkA n l) aw (.binOp .add t x y yt) K:=by simp_all [cat,vcQ,vcBin,am]
theorem v_not (hx:evA n l x=.bool p) (h:K (.bool (!p))):vcQ P (mkA n l) aw (.unOp .not t x) K:=by simp_all [vcQ,am]
end
theorem jv {k id off o ft:Nat} (hF:FieldAt P t k ft o) (hx:evA n l x=.ptr id off) {off':Nat} (ho:off+o=off') (h:K (.ptr id off')):vcQ P (mkA n l) aw (.fieldAddr t x k) K:=by obtain ⟨fs,f,h1,h2,h3,h4,h5,h6⟩:=hF.out;simp_all [vcQ,am]
theorem rR {k off o ft:Nat} {row:List AV} (hF:FieldAt P t k ft o) (hx:evA n l x=.elt row off) {off':Nat} (ho:off+o=off') (h:K (.elt row off')):vcQ P (mkA n l) aw (.fieldAddr t x k) K:=by obtain ⟨fs,f,h1,h2,h3,h4,h5,h6⟩:=hF.out;simp_all [vcQ,am]
theorem rQ {k id s i off o ft:Nat} (hF:FieldAt P t k ft o) (hx:evA n l x=.aptr id s i off) {off':Nat} (ho:off+o=off') (h:K (.aptr id s i off')):vcQ P (mkA n l) aw (.fieldAddr t x k) K:=by obtain ⟨fs,f,h1,h2,h3,h4,h5,h6⟩:=hF.out;simp_all [vcQ,am]
theorem ai {row:List AV} {off:Nat} {c:AV} (hk:bM P t=some false) (hc:row[off]?=some c) (h:K c):aV P t row off K:=by grind [aV]
theorem uT {row cs:List AV} {off m:Nat} (hk:bM P t=some true) (hm:P.cellsOf t=m) (hl:Nat.ble (off+m) row.length=true) (hc:(row.drop off).take m=cs) (h:K (.agg cs)):aV P t row off K:=by grind [aV,Nat.le_of_ble_eq_true]
theorem v7 {k ft o:Nat} {cs:List AV} (hF:FieldAt P t k ft o) (hx:evA n l x=.agg cs) (h:aV P ft cs o K):vcQ P (mkA n l) aw (.field t x k) K:=by obtain ⟨fs,f,h1,h2,h3,h4,h5,h6⟩:=hF.out;simp_all [vcQ,am]
theorem nJ {id off:Nat} {cs:List AV} (hx:evA n l x=.ptr id off) (ho:aw[id]?=some (.box cs)) (h:aV P t cs off K):vcQ P (mkA n l) aw (.load t x) K:=by simp_all [vcQ,am]
theorem cy {off:Nat} {row:List AV} (hx:evA n l x=.elt row off) (h:aV P t row off K):vcQ P (mkA n l) aw (.load t x) K:=by simp_all [vcQ,am]
theorem aJ {α:Type} {en:α->List AV} {xs:List α} {e c:Nat} {k:IntKind} {i:Int} {a:α} (hS:SliceOf P t e c) (hl:∀ a,(en a).length=c) (hx:evA n l x=.sl (xs.map en)) (hy:evA n l y=.int k i) (hi:idx xs i=some a) (h:K (.elt (en a) 0)):vcQ P (mkA n l) aw (.indexAddr t x y) K:=by obtain ⟨h0,h1,h2⟩:=uH hi;simp only [vcQ,am,hS.u,hx,hy];refine ⟨h0,by grind,fun row hrow=>?_⟩;rw [zT,h2] at hrow;cases hrow;exact ⟨by rw [hS.c];exact hl a,hS.s,h⟩
theorem sm {id e c m:Nat} {rows:List (List AV)} {k:IntKind} {i:Int} (hS:SliceOf P t e c) (hx:evA n l x=.ref id) (hy:evA n l y=.int k i) (ho:aw[id]?=some (.arr e c rows)) (hm:rows.length=m) (h0:0<=i) (h1:i<m) (h:K (.aptr id c i.toNat 0)):vcQ P (mkA n l) aw (.indexAddr t x y) K:=by simp only [vcQ,am,hS.u,hx,hy,ho];exact ⟨hS.c.symm,hS.s,h0,by omega,h⟩
theorem uv {vs:List AV} {k:Nat} (hx:evA n l x=.tup vs) (hv:vs[k]?=some v) (h:K v):vcQ P (mkA n l) aw (.extract x k) K:=by simp_all [vcQ,am]
theorem jW {id off:Nat} (hx:evA n l x=.ptr id off) (h:K (.ptr id off)):vcQ P (mkA n l) aw (.nilCheck x) K:=by simp_all [vcQ,am]
theorem tH {row:List AV} {off:Nat} (hx:evA n l x=.elt row off) (h:K (.elt row off)):vcQ P (mkA n l) aw (.nilCheck x) K:=by simp_all [vcQ,am]
theorem sT {id s i off:Nat} (hx:evA n l x=.aptr id s i off) (h:K (.aptr id s i off)):vcQ P (mkA n l) aw (.nilCheck x) K:=by simp_all [vcQ,am]
theorem sZ {f:Nat} {cs:List AV} (hx:evA n l x=.func f cs) (h:K (.func f cs)):vcQ P (mkA n l) aw (.nilCheck x) K:=by simp_all [vcQ,am]
theorem uh {f:Nat} {cs:List AV} (hx:evA n l x=.bnd f cs) (h:K (.bnd f cs)):vcQ P (mkA n l) aw (.nilCheck x) K:=by simp_all [vcQ,am]
theorem aH {α:Type} {en:α->List AV} {xs:List α} {e c:Nat} (hS:SliceOf P t e c) (hx:evA n l x=.sl (xs.map en)) (h:K (.int .i64 xs.length)):vcQ P (mkA n l) aw (.call ⟨.builtin .len,#[x],#[t]⟩) K:=by show vcB P (mkA n l) aw .len [x] [t] K;simp only [vcB,am,hS.u,hx,zZ];exact h
theorem iH {α:Type} {en:α->List AV} {xs:List α} {id e c:Nat} (hS:SliceOf P t e c) (hx:evA n l x=.ref id) (ho:aw[id]?=some (.arr e c (xs.map en))) (h:K (.int .i64 xs.length)):vcQ P (mkA n l) aw (.call ⟨.builtin .len,#[x],#[t]⟩) K:=by show vcB P (mkA n l) aw .len [x] [t] K;simp only [vcB,am,hS.u,hx,ho,zZ];exact h
theorem sK {f:FuncId} {caps:Array Operand} {cs:List AV} (hc:caps.toList.map (evA n l)=cs) (h:K (.func f cs)):vcQ P (mkA n l) aw (.makeFunc (.func f) #[] caps) K:=by show K (.func f (caps.toList.map (ev (mkA n l))));grind [List.map_congr_left,am]
theorem v_bnd {f:FuncId} {x0:Operand} {xs:List Operand} {cs:List AV} (hc:(x0::xs).map (evA n l)=cs) (h:K (.bnd f cs)):vcQ P (mkA n l) aw (.makeFunc (.func f) (x0::xs).toArray #[]) K:=by show []=[]/\K (.bnd f ((x0::xs).map (ev (mkA n l))));grind [List.map_congr_left,am]
theorem w4 {parts:Array (Nat × Operand)} {z:List AV} {pl:List (Nat × Nat)} {cs:List AV} (hz:aq P t=some z) (hp:iK P t=some pl) (hc:dx (fun i=>pl[i]?) z (parts.toList.map fun p=>(p.1,evA n l p.2))=some cs) (h:K (.agg cs)):vcQ P (mkA n l) aw (.build t parts) K:=by simp only [vcQ,hz,hp];grind [am]
theorem xk {s:TypeId} {k k':IntKind} {a:Int} {ds:TypeDesc} (hs:P.underlying s=some ds) (ht:P.underlying t=some (.int k')) (hx:evA n l x=.int k a) (h:K (.int k' (k'.wrap a))):vcQ P (mkA n l) aw (.convert s t x) K:=by simp_all [vcQ,am]
theorem nn {s b:List UInt8} {lo hi:Option Operand} {i j:Int} {k k':IntKind} (hu:P.underlying t=some .string) (hx:evA n l x=.str s) (hl:(lo.map (evA n l)).getD (.int .i64 0)=.int k i) (hh:(hi.map (evA n l)).getD (.int .i64 s.length)=.int k' j) (hs:sub s i j=some b) (h:K (.str b)):vcQ P (mkA n l) aw (.slice t x lo hi none) K:=by
 unfold sub at hs;split at hs
 ·rename_i hc;cases hs;simp only [vcQ,hu,am,hx];rw [show lo.map (ev (mkA n l))=lo.map (evA n l) from by cases lo<;>simp [am],show hi.map (ev (mkA n l))=hi.map (evA n l) from by cases hi<;>simp [am],hl,hh];grind
 ·cases hs
variable {d:Option Tmp} {ty:TypeId} {ps:String} {af:Array Edge} {g:Option (Nat × Bool)}
theorem aQ {id off:Nat} {cs:List AV} (hx:evA n l x=.ptr id off) (ho:aw[id]?=some (.box cs)) (h:aV P t cs off fun r=>K2 r aw):OP P N ⟨d,.load t x,ty,ps,af,g⟩ (mkA n l) aw K2 :=
 OP.of_vc (by grind [lM,am])
theorem aE {off:Nat} {row:List AV} (hx:evA n l x=.elt row off) (h:aV P t row off fun r=>K2 r aw):OP P N ⟨d,.load t x,ty,ps,af,g⟩ (mkA n l) aw K2 :=
 OP.of_vc (by grind [lM,am])
theorem sw {id s i off e:Nat} {rows:List (List AV)} {row:List AV} (hx:evA n l x=.aptr id s i off) (ho:aw[id]?=some (.arr e s rows)) (hr:rows[i]?=some row) (h:aV P t row off fun r=>K2 r aw):OP P N ⟨d,.load t x,ty,ps,af,g⟩ (mkA n l) aw K2 :=
 OP.of_vc (by rw [lM,am,hx];grind)
theorem sj {id off:Nat} {cs vs cs':List AV} {m:Nat} (hm:P.cellsOf t=m) (hs:(P.underlying t).isSome=true) (hx:evA n l x=.ptr id off) (hy:(evA n l y).cells=some vs) (hv:vs.length=m) (ho:aw[id]?=some (.box cs)) (hl:Nat.ble (off+m) cs.length=true) (hc:splice cs off vs=cs') (ha:aw.set id (.box cs')=aw') (h:K2 .any aw'):OP P N ⟨d,.store t x y,ty,ps,af,g⟩ (mkA n l) aw K2 :=
 OP.of_vc (by grind [o6,am,Nat.le_of_ble_eq_true])
theorem r7 {id s i off e:Nat} {rows:List (List AV)} {row vs row':List AV} {m:Nat} (hm:P.cellsOf t=m) (hs:(P.underlying t).isSome=true) (hx:evA n l x=.aptr id s i off) (hy:(evA n l y).cells=some vs) (hv:vs.length=m) (ho:aw[id]?=some (.arr e s rows)) (hr:rows[i]?=some row) (hl:Nat.ble (off+m) s=true) (hc:splice row off vs=row') (ha:aw.set id (.arr e s (rows.set i row'))=aw') (h:K2 .any aw'):OP P N ⟨d,.store t x y,ty,ps,af,g⟩ (mkA n l) aw K2 :=
 OP.of_vc (by subst ha hc;rw [o6,am,am,hx];simp only [hy,ho];exact ⟨hs,trivial,by rw [hv,hm],(zK.1 hr).1,by simp_all,fun row'' h'=>by grind⟩)
theorem wZ {cs:List AV} {k:Nat} (hz:aq P t=some cs) (hk:aw.length=k) (ha:aw++[.box cs]=aw') (h:K2 (.ptr k 0) aw'):OP P N ⟨d,.alloc t,ty,ps,af,g⟩ (mkA n l) aw K2 :=
 OP.of_vc (by grind [vq])
theorem o_box {cs:List AV} {k:Nat} (hx:(evA n l x).cells=some cs) (hk:aw.length=k) (ha:aw++[.box cs]=aw') (h:K2 (.ptr k 0) aw'):OP P N ⟨d,.box t x,ty,ps,af,g⟩ (mkA n l) aw K2 :=
 OP.of_vc (by grind [xc,am])
theorem o_mk {α:Type} {en:α->List AV} {e c k:Nat} {k1 k2:IntKind} {i:Int} {zr:α} {xs:List α} (hS:SliceOf P t e c) (hz:aq P e=some (en zr)) (hx:evA n l x=.int k1 i) (hy:evA n l y=.int k2 i) (hm:mk i zr=some xs) (hk:aw.length=k) (ha:aw++[.arr e c (xs.map en)]=aw') (h:K2 (.ref k) aw'):OP P N ⟨d,.makeSlice t x y,ty,ps,af,g⟩ (mkA n l) aw K2 :=
 OP.of_vc (by
  unfold mk at hm;split at hm
  ·rename_i hc;cases hm;subst hk ha;obtain ⟨z',hz1,hz2⟩:=hS.z;rw [hz] at hz1;cases hz1;rw [se,hS.u];simp only [am,hx,hy,hz];refine ⟨by rw [hS.c,hz2],by rw [hS.c];exact hS.p,hc.1,Int.le_refl _,.inr trivial,?_,by unfold maxLen;omega,by rw [hS.c];simpa using h⟩;have h1:i.toNat<=1099511627776:=by omega
   exact AF (Nat.mul_le_mul hS.b h1) (by decide)
  ·cases hm)
theorem b6 {len:Nat} {parts:Array (Nat × Operand)} {e c k:Nat} {z:List AV} {rows:List (List AV)} {vs:List AV} (hS:SliceOf P t e c) (hz:aq P e=some z) (hl:Nat.ble (len*c) 16777216=true) (hv:parts.toList.map (fun p=>evA n l p.2)=vs) (hn:bA aw vs=(vs,aw)) (hr:f9 P c (List.replicate len z) ((parts.toList.map (·.1)).zip vs)=some rows) (hk:aw.length=k) (ha:aw++[.arr e c rows]=aw') (h:K2 (.ref k) aw'):OP P N ⟨d,.buildSlice t len parts,ty,ps,af,g⟩ (mkA n l) aw K2 :=
 OP.of_vc (by subst hk ha;obtain ⟨z',hz1,hz2⟩:=hS.z;rw [hz] at hz1;cases hz1;show vcE P (mkA n l) aw (.buildSlice t len parts) K2;simp only [vcE,hS.u,hz,hS.c];rw [show (parts.toList.map fun p=>ev (mkA n l) p.2)=vs from by grind [am],hn,hr];exact ⟨hz2,hS.p,Ar hl,h⟩)
theorem gM {α:Type} {en:α->List AV} {xs ys r:List α} {id e c k:Nat} {aw1:List Ob} (hS:SliceOf P t e c) (hen:∀ a,(en a).length=c) (hx:evA n l x=.ref id) (hy:norm aw (evA n l y)=(.sl (ys.map en),aw1)) (ho:aw1[id]?=some (.arr e c (xs.map en))) (hr:app xs ys=some r) (hk:aw1.length=k) (ha:aw1.set id .dead++[.arr e c (r.map en)]=aw') (h:K2 (.ref k) aw'):OP P N ⟨d,.call ⟨.builtin .append,#[x,y],#[t,t]⟩,ty,ps,af,g⟩ (mkA n l) aw K2 :=
 OP.of_vc (by
  unfold app at hr;split at hr
  ·rename_i hc;cases hr;subst hk ha;obtain ⟨z',hz1,hz2⟩:=hS.z;show vcApp P (mkA n l) aw [x,y] [t,t] K2;simp only [vcApp,hS.u,hz1,am,hx,hy,hS.c,zZ,ho];exact ⟨trivial,trivial,trivial,hz2,hS.p,fun row hr=>by grind,hc,hS.b,by grind⟩
  ·cases hr)
end
end
section
open Go.RowKit
section
variable {P:Program} {N n:Nat} {aw aw':List Ob} {l:List (Nat × AV)} {ρ:List Nat}
def RenA (ρ:List Nat):List (Nat × AV)->List (Nat × AV)->Prop
 | [],_=>True
 | (s,v)::r,l=>Ren ρ v (lkA l s)/\RenA ρ r l
theorem pz:∀ {l' l:List (Nat × AV)},RenA ρ l' l->∀ t,Ren ρ (lkA l' t) (lkA l t)
 | [],l,_,t=>pM ρ _
 | (s,v)::r,l,h,t=>by
  rw [dJ];by_cases e:s=t
  ·subst e;rw [if_pos rfl];exact h.1
  ·rw [if_neg e];exact pz h.2 t
theorem pC:∀ {as' as₀:List AV},as'.length=as₀.length->(∀ (j:Nat) a' a,as'[j]?=some a'->as₀[j]?=some a->Ren ρ a' a)->bd ρ as' as₀
 | [],[],_,_=>trivial
 | a'::as',a::as₀,h,k=>⟨k 0 a' a rfl rfl,pC (by simpa using h) fun j x y hx hy=>k (j+1) x y (by grind) (by grind)⟩
 | [],_::_,h,_=>by simp at h
 | _::_,[],h,_=>by simp at h
theorem vB {l':List (Nat × AV)} (h:RenA ρ l' l):bd ρ (mkA n l') (mkA n l):=by
 refine pC (by simp [gX]) fun j a' a h1 h2=>?_
 rw [db] at h1 h2;split at h1
 ·rename_i hj;rw [if_pos hj] at h2;grind [pz]
 ·cases h1
def nilA (n:Nat):List (Nat × TypeId × Nat)->List (Nat × AV)->List Ob->List (Nat × AV) × List Ob
 | [],l,aw=>(l,aw)
 | (s,e,z)::r,l,aw =>
  match Nat.blt s n,lkA l s with
  | true,.nils=>nilA n r ((s,.ref aw.length)::l) (aw++[.arr e z []])
  | _,_=>nilA n r l aw
theorem jK:∀ (nl:List (Nat × TypeId × Nat)) (l:List (Nat × AV)) (aw:List Ob),nilify nl (mkA n l) aw=(mkA n (nilA n nl l aw).1,(nilA n nl l aw).2)
 | [],l,aw=>rfl
 | (s,e,z)::r,l,aw=>by
  unfold nilify nilA;rw [db];by_cases hs:s<n
  ·have hb:Nat.blt s n=true:=by simp_all
   rw [if_pos hs,hb];cases hv:lkA l s<;>simp only<;>first
    | exact jK r l aw
    | (rw [show (mkA n l).set s (.ref aw.length)=mkA n ((s,.ref aw.length)::l) from bG n l (some s) _];exact jK r _ _)
  ·have hb:Nat.blt s n=false:=by
    grind [Nat.blt_eq]
   rw [if_neg hs,hb];exact jK r l aw
theorem Weak.mkN {l' l1:List (Nat × AV)} {aw1:List Ob} (nl:List (Nat × TypeId × Nat)) (ρ:List Nat) (h1:ρ.Nodup) (h2:∀ k,k<N->ρ[k]?=some k) (hn:nilA n nl l aw=(l1,aw1)) (h3:RenA ρ l' l1) (h4:ba ρ aw1 ρ aw'):Weak N (mkA n l) aw (mkA n l') aw':=by refine ⟨nl,ρ,h1,h2,?_,?_⟩;all_goals (grind [jK,vB])
theorem Weak.mk {l':List (Nat × AV)} (ρ:List Nat) (h1:ρ.Nodup) (h2:∀ k,k<N->ρ[k]?=some k) (h3:RenA ρ l' l) (h4:ba ρ aw ρ aw'):Weak N (mkA n l) aw (mkA n l') aw':=Weak.mkN [] ρ h1 h2 rfl h3 h4
theorem aW {k:IntKind} {a b:Int} (h:a=b):Ren ρ (.int k a) (.int k b):=by grind [dr,an]
theorem da {a b:Bool} (h:a=b):Ren ρ (.bool a) (.bool b):=by grind [dr,cz]
theorem ah {a b:List UInt8} (h:a=b):Ren ρ (.str a) (.str b):=by grind [dr,ea]
theorem aC {α:Type} {en:α->List AV} (hp:∀ a x,x∈en a->Pure x) (xs:List α):Pure (.sl (xs.map en)):=vX _ fun row hr c hc=>by grind
theorem rn_sl {α:Type} {en:α->List AV} {xs ys:List α} (hp:∀ a x,x∈en a->Pure x) (h:xs=ys):Ren ρ (.sl (xs.map en)) (.sl (ys.map en)):=by grind [dr,aC]
theorem xm {cs ds:List AV} (h:bd ρ cs ds):Ren ρ (.agg cs) (.agg ds):=fun σ w F v hr σ' hσ=>by
 cases hr with
 | agg _ vs hl h1 hc =>
  have:=cA h ⟨hl,hc⟩ hσ;exact .agg cs vs this.1 h1 this.2
theorem xd {cs ds:List AV} (h:bd ρ cs ds):Ren ρ (.tup cs) (.tup ds):=fun σ w F v hr σ' hσ=>by
 cases hr with
 | tup _ vs hl hc =>
  have:=cA h ⟨hl,hc⟩ hσ;exact .tup cs vs this.1 this.2
theorem wW {f:FuncId} {cs ds:List AV} (h:bd ρ cs ds):Ren ρ (.func f cs) (.func f ds):=fun σ w F v hr σ' hσ=>by
 cases hr with
 | func _ _ vs hl hc =>
  have:=cA h ⟨hl,hc⟩ hσ;exact .func f cs vs this.1 this.2
theorem xu {f:FuncId} {cs ds:List AV} (h:bd ρ cs ds):Ren ρ (.bnd f cs) (.bnd f ds):=fun σ w F v hr σ' hσ=>by
 cases hr with
 | bnd _ _ vs hl hc =>
  have:=cA h ⟨hl,hc⟩ hσ;exact .bnd f cs vs this.1 this.2
theorem fe {k id:Nat} (h:ρ[k]?=some id):Ren ρ (.ref k) (.ref id):=pR h
theorem cQ {k id off:Nat} (h:ρ[k]?=some id):Ren ρ (.ptr k off) (.ptr id off):=wI h
theorem pF {k id s i j off:Nat} (h:ρ[k]?=some id) (hi:i=j):Ren ρ (.aptr k s i off) (.aptr id s j off):=fun σ w F v hr σ' hσ=>by
 subst hi;cases hr with
 | aptr _ _ _ _ g n c hg=>exact .aptr k s i off g n c (by grind)
theorem fY {a:AV}:Ren ρ .any a:=pM ρ a
theorem bP {a:AV} (h:Pure a):Ren ρ a a:=dr h
theorem ae {aw:List Ob}:ba ρ aw [] []:=trivial
theorem xp {α:Type} {en:α->List AV} {xs ys:List α} {ids:List Nat} {id e s:Nat} (h:aw[id]?=some (.arr e s (ys.map en))) (hp:∀ a x,x∈en a->Pure x) (hx:xs=ys) (t:ba ρ aw ids aw'):ba ρ aw (id::ids) (.arr e s (xs.map en)::aw') :=
 ⟨⟨_,h,rfl,rfl,by rw [hx],fun row hr x hx=>by grind [dr]⟩,t⟩
theorem de {ids:List Nat} {id:Nat} {cs ds:List AV} (h:aw[id]?=some (.box ds)) (hr:bd ρ cs ds) (t:ba ρ aw ids aw'):ba ρ aw (id::ids) (.box cs::aw'):=⟨⟨_,h,hr⟩,t⟩
theorem dq (ρ:List Nat):∀ k,k<0->ρ[k]?=some k:=fun k h=>absurd h (Nat.not_lt_zero k)
theorem pH {f:FuncId} {fn:Func} {c:Code} {args:List AV} {aw:List Ob} {Q:AV->List Ob->Prop} {m N:Nat} (hN:aw.length=N) (hf:P.funcs[f]?=some fn) (hb:fn.body=some c) (hname:(fn.name == "runtime.NumGoroutine")=false) (hm:fn.ntmps=m) (hl:Nat.ble args.length m=true)
  (h:T P N c (retQ P fn N Q) (mkA m (initA 0 args)) aw):ACalls P f args aw Q:=by
 subst hm hN
 refine ⟨callable hf (by rw [hb];rfl) hname,fun w F σ vs hs hr=>?_⟩
 have hc:Cur ⟨aw,σ,w,F,[]⟩ (args++List.replicate (fn.ntmps - args.length) .any) aw σ w F { tmps:=vs.toArray++Array.replicate (fn.ntmps - vs.toArray.size) undef,defers:=[] }:=by
  refine ⟨hs,⟨?_,tqz⟩,.refl ..,rfl⟩;have h2:RelL σ w F (List.replicate (fn.ntmps - args.length) .any) (List.replicate (fn.ntmps - vs.length) undef) :=
   ⟨by simp [hr.1],fun j x v hx hv=>by rw [AG (zM hx)];exact .any v⟩
  simpa using hr.append h2
 rw [lI _ _ (Ar hl)] at hc
 refine calls_of_wp hf hb (wp_mono (h.out ⟨aw,σ,w,F,[]⟩ rfl hs.len σ w F _ hc) ?_)
 rintro e a' w' ⟨fr',aw',σ',F',hq,hcur⟩
 have key:aT P fr' aw' fn.results.toList (Ret aw.length Q aw')->a'.defers=[]/\∃ v,(results fn a'.tmps).run P w'=.ok v w' /\
   (∃ v' r aw2 σ2 F2,Ending.returned v=.returned v'/\Q r aw2/\Sim aw2 σ2 w' F2/\Rel σ2 w' F2 r v'/\Mv aw σ w F aw2 σ2 w' F2):=by
  intro hq
  obtain ⟨rs,us,h1,⟨nl,z,r',aw2,hW,hQ⟩,h3⟩:=i7 hcur.fr hcur.sim _ _ hq
  obtain ⟨σn,sn,h1n,mn⟩:=gJ nl hcur.sim h1
  refine ⟨hcur.ds,_,k8 fn a'.tmps us h3,?_⟩
  have hrel:=lL h1n
  have fin:∀ (r1:AV) (aw1:List Ob) (F1:Nat->Prop),Sim aw1 σn w' F1->Mv aw σ w F aw1 σn w' F1->Rel σn w' F1 r1 (if h:us.length=1 then us[0] else .tuple us.toArray)->WeakR aw.length r1 aw1 r' aw2 ->
    ∃ v' r aw2 σ2 F2,Ending.returned (if h:us.length=1 then us[0] else .tuple us.toArray)=.returned v'/\Q r aw2/\Sim aw2 σ2 w' F2/\Rel σ2 w' F2 r v'/\Mv aw σ w F aw2 σ2 w' F2:=by
   intro r1 aw1 F1 s1 m1 hr1 ⟨ρ,hnd,hρ,hren,hRW⟩
   obtain ⟨σ2,hσ,s2,hd⟩:=dM s1 hnd hRW
   exact ⟨_,r',aw2,σ2,F1,rfl,hQ,s2,hren σn w' F1 _ hr1 σ2 hσ,Mv.ren (st:=⟨aw,σ,w,F,[]⟩) hs.len m1 hρ hσ hd⟩
  cases z with
  | true =>
   obtain ⟨F1,s1,m1,r1⟩:=lC sn hrel
   exact fin _ _ F1 s1 ((hcur.mv.trans mn).trans m1) r1 hW
  | false=>exact fin _ _ F' sn (hcur.mv.trans mn) hrel hW
 cases e with
 | normal=>exact key hq
 | ret=>exact key hq
 | exit id=>exact hq.elim
 | goto l=>exact hq.elim
 | panic ch=>exact hq.elim
 | outgrown=>exact hq.elim
theorem vh {Q:AV->List Ob->Prop} {aw:List Ob} {vs:List AV} {v:AV} {aw1:List Ob} (hr:dh aw (bl vs)=(v,aw1)) (hp:Pure v) (hQ:Q v []):Ret 0 Q aw vs :=
 Ret.norm (by grind) (by grind)
theorem wL {M:Nat} {Q:AV->List Ob->Prop} {aw aw':List Ob} {vs:List AV} (r:AV) (nl:List (Nat × TypeId × Nat)) (ρ:List Nat) {vs1:List AV} {aw1:List Ob} (h1:ρ.Nodup) (h2:∀ k,k<M->ρ[k]?=some k) (hn:nilify nl vs aw=(vs1,aw1)) (hr:Ren ρ r (bl vs1)) (hw:ba ρ aw1 ρ aw') (hQ:Q r aw'):Ret M Q aw vs :=
 ⟨nl,false,r,aw',by simp only [hn];exact ⟨ρ,h1,h2,hr,hw⟩,hQ⟩
theorem uO {n t:Nat} {l:List (Nat × AV)} {v:AV} {rs:List ResultVar} {K:List AV->Prop} (hx:evA n l (.tmp t)=v) (h:aT P (mkA n l) aw rs fun vs=>K (v::vs)):aT P (mkA n l) aw (.tmp t::rs) K:=by
 show aT P (mkA n l) aw rs fun vs=>K ((mkA n l).getD t .any::vs)
 have:(mkA n l).getD t .any=v:=by rw [<- hx];exact am n l (.tmp t)
 grind
theorem tG {n a t:Nat} {l:List (Nat × AV)} {id off:Nat} {cs:List AV} {v:AV} {rs:List ResultVar} {K:List AV->Prop} (hx:evA n l (.tmp a)=.ptr id off) (ho:aw[id]?=some (.box cs)) (hl:∀ K:AV->Prop,K v->aV P t cs off K) (h:aT P (mkA n l) aw rs fun vs=>K (v::vs)):aT P (mkA n l) aw (.cell a t::rs) K:=by
 show vcQ P (mkA n l) aw (.load t (.tmp a)) fun v=>aT P (mkA n l) aw rs fun vs=>K (v::vs)
 grind [nJ]
theorem uQ {K:List AV->Prop} {fr:List AV} (h:K []):aT P fr aw [] K:=h
theorem pI {α:Type} {en:α->List AV} {xs:List α} {i:Nat} {a:α} (h:xs[i]?=some a):(xs.map en)[i]?=some (en a):=by grind
theorem cg {α:Type} {en:α->List AV} {xs:List α} {a:α} {t:TypeId} {x:Operand} {id s i off e:Nat} {d:Option Tmp} {ty:TypeId} {ps:String} {af:Array Edge} {g:Option (Nat × Bool)} {K2:AV->List Ob->Prop} (hx:evA n l x=.aptr id s i off) (ho:aw[id]?=some (.arr e s (xs.map en))) (hr:xs[i]?=some a) (h:aV P t (en a) off fun r=>K2 r aw):OP P N ⟨d,.load t x,ty,ps,af,g⟩ (mkA n l) aw K2 :=
 sw hx ho (pI hr) h
theorem k6 {α:Type} {en:α->List AV} {xs:List α} {a a':α} {t:TypeId} {x y:Operand} {id s i off e:Nat} {d:Option Tmp} {ty:TypeId} {ps:String} {af:Array Edge} {g:Option (Nat × Bool)} {K2:AV->List Ob->Prop} {vs:List AV} {m:Nat} (hm:P.cellsOf t=m) (hs:(P.underlying t).isSome=true) (hx:evA n l x=.aptr id s i off) (hy:(evA n l y).cells=some vs) (hv:vs.length=m) (ho:aw[id]?=some (.arr e s (xs.map en))) (hr:xs[i]?=some a) (hl:Nat.ble (off+m) s=true) (hc:splice (en a) off vs=en a') (ha:aw.set id (.arr e s ((xs.set i a').map en))=aw') (h:K2 .any aw'):OP P N ⟨d,.store t x y,ty,ps,af,g⟩ (mkA n l) aw K2 :=
 r7 hm hs hx hy hv ho (pI hr) hl hc (by simp_all) h
theorem be {α:Type} {en:α->List AV} {xs:List α} {t:TypeId} {x y:Operand} {K:AV->Prop} {id e c m:Nat} {k:IntKind} {i:Int} (hS:SliceOf P t e c) (hx:evA n l x=.ref id) (hy:evA n l y=.int k i) (ho:aw[id]?=some (.arr e c (xs.map en))) (hm:ixN xs i=some m) (h:K (.aptr id c m 0)):vcQ P (mkA n l) aw (.indexAddr t x y) K:=by grind [ixN,sm]
structure RetIs (Q:Exit->List AV->List Ob->Prop) (R:List AV->List Ob->Prop):Prop where
 out:∀ fr aw,R fr aw->Q .ret fr aw
theorem RetIs.base {fn:Func} {M:Nat} {Q:AV->List Ob->Prop}:RetIs (retQ P fn M Q) (fun fr aw=>aT P fr aw fn.results.toList (Ret M Q aw)):=⟨fun _ _ h=>h⟩
theorem RetIs.blk {id:Nat} {Q:Exit->List AV->List Ob->Prop} {R:List AV->List Ob->Prop} (h:RetIs Q R):RetIs (fP id Q) R:=⟨h.out⟩
variable {d:Option Tmp} {ty:TypeId} {ps:String} {af:Array Edge} {g:Option (Nat × Bool)} {K2:AV→List Ob→Prop}
theorem xl {f:Operand} {args:Array Operand} {ts:Array TypeId} {h:FuncId} {caps as0 as1:List AV} {aw1:List Ob} (hf:evA n l f=.func h caps) (ha:args.toList.map (evA n l)=as0) (hn:bA aw as0=(as1,aw1)) (hK:CallK P h (as1++caps) aw aw1 K2):OP P N ⟨d,.call ⟨.value f,args,ts⟩,ty,ps,af,g⟩ (mkA n l) aw K2 :=
 OP.of_vc (by grind [cR,am,List.map_congr_left])
def Pures:List AV->Prop
 | []=>True
 | a::as₀=>Pure a/\Pures as₀
theorem bn:∀ {ls:List AV},Pures ls->∀ a,a∈ls->Pure a
 | _::_,h,_,.head _=>h.1
 | _::_,h,_,.tail _ hm=>bn h.2 _ hm
theorem k_fn {f:FuncId} {args:List AV} {aw1:List Ob} {v:AV} (h:Fn P f args v) (hp:Pures args) (hv:Pure v) (hK:K2 v aw1):CallK P f args aw aw1 K2:=CallK.fn h (bn hp) hv hK
theorem xC {f:FuncId} {args:List AV} {aw1:List Ob} {v:AV} (h:Fn P f args v) (hp:Pures args) (hv:flat v=true) (hK:K2 v aw):CallK P f args aw aw1 K2:=CallK.flat h (bn hp) hv hK
def FnO (P:Program) (f:FuncId) (args:List AV) (v:AV) (obs:List Ob):Prop:=ACalls P f args [] fun r aw=>r=v/\aw=obs
theorem k_own {f:FuncId} {args:List AV} {aw1:List Ob} {v:AV} {obs:List Ob} (h:FnO P f args v obs) (hp:Pures args) (hv:flatR v=true) (ho:obs.all b7=true) (hK:K2 (v.shift aw.length) (aw++obs)):CallK P f args aw aw1 K2 :=
 .inr ⟨_,h,bn hp,fun r aw' ⟨h1,h2⟩=>.inr (.inr (.inr (by grind)))⟩
theorem tq {α:Type} {en:α->List AV} {xs:List α} {e s:Nat} (h:∀ a,(en a).all flat0=true):b7 (.arr e s (xs.map en))=true:=by grind [b7]
theorem uG {o:Ob} {r:List Ob} (h:b7 o=true) (t:r.all b7=true):(o::r).all b7=true:=by grind
end
section
variable {P:Program} {N n:Nat} {aw aw':List Ob} {l:List (Nat × AV)} {ops:Array Oper} {k:Nat} {li:Array Bool} {K:List AV→List Ob→Prop} {fr fr':List AV}
theorem RA.join (k':Nat) (li':Array Bool) (fr':List AV) (aw':List Ob) (h:RA P N ops k' li' K fr' aw') (h2:RA P N ops k' li' K fr' aw'->RA P N ops k li K fr aw):RA P N ops k li K fr aw:=h2 h
theorem RA.weakR (h:RA P N ops k li K fr' aw') (hw:Weak N fr aw fr' aw'):RA P N ops k li K fr aw:=RA.weak hw h
theorem RA.t0 {i:Nat} {li':Array Bool} {o:Oper} (hi:ops[i]?=some o) (hs:Region.noSelect ops=true) (hf:Region.free .any ops li i=true) (hr:(Region.ready .any ops li).contains i=true) (hl:li.setIfInBounds i true=li') (hg:o.guard=none) (hn:ed o.op=true)
 (h:vcQ P (mkA n l) aw o.op fun r=>RA P N ops k li' K (mkA n (bI l o.dst r)) aw):RA P N ops (k+1) li K (mkA n l) aw:=by grind [RA.take]
theorem RA.t2 {i:Nat} {li':Array Bool} {o:Oper} {j t:Nat} {want b:Bool} (hi:ops[i]?=some o) (hs:Region.noSelect ops=true) (hf:Region.free .any ops li i=true) (hr:(Region.ready .any ops li).contains i=true) (hl:li.setIfInBounds i true=li')
 (hg:o.guard=some (j,want)) (ht:(ops[j]?).bind (·.dst)=some t) (hb:evA n l (.tmp t)=.bool b) (hbw:b=!want)
 (h:RA P N ops k li' K (mkA n (bI l o.dst (.tup []))) aw):RA P N ops (k+1) li K (mkA n l) aw:=by grind [RA.takeNo]
theorem RA.t3 {i:Nat} {li':Array Bool} {o:Oper} {j t:Nat} {want:Bool} (hi:ops[i]?=some o) (hs:Region.noSelect ops=true) (hf:Region.free .any ops li i=true) (hr:(Region.ready .any ops li).contains i=true) (hl:li.setIfInBounds i true=li')
 (hg:o.guard=some (j,want)) (ht:(ops[j]?).bind (·.dst)=some t) (hb:evA n l (.tmp t)=.tup [])
 (h:RA P N ops k li' K (mkA n (bI l o.dst (.tup []))) aw):RA P N ops (k+1) li K (mkA n l) aw:=by grind [RA.takeU]
theorem RA.a1 {i1:Nat} {l1:Array Bool} (hr:Region.ready .any ops li=[i1]) (e1:li.setIfInBounds i1 true=l1) (h1:RO P N ops i1 (RA P N ops k l1 K) fr aw):RA P N ops (k+1) li K fr aw:=by simp_all [RA.all]
theorem RA.a2 {i1 i2:Nat} {l1 l2:Array Bool} (hr:Region.ready .any ops li=[i1,i2]) (e1:li.setIfInBounds i1 true=l1) (e2:li.setIfInBounds i2 true=l2) (h1:RO P N ops i1 (RA P N ops k l1 K) fr aw) (h2:RO P N ops i2 (RA P N ops k l2 K) fr aw):RA P N ops (k+1) li K fr aw:=by simp_all [RA.all]
theorem RA.a3 {i1 i2 i3:Nat} {l1 l2 l3:Array Bool} (hr:Region.ready .any ops li=[i1,i2,i3]) (e1:li.setIfInBounds i1 true=l1) (e2:li.setIfInBounds i2 true=l2) (e3:li.setIfInBounds i3 true=l3) (h1:RO P N ops i1 (RA P N ops k l1 K) fr aw) (h2:RO P N ops i2 (RA P N ops k l2 K) fr aw) (h3:RO P N ops i3 (RA P N ops k l3 K) fr aw):RA P N ops (k+1) li K fr aw:=by simp_all [RA.all]
theorem RA.a4 {i1 i2 i3 i4:Nat} {l1 l2 l3 l4:Array Bool} (hr:Region.ready .any ops li=[i1,i2,i3,i4]) (e1:li.setIfInBounds i1 true=l1) (e2:li.setIfInBounds i2 true=l2) (e3:li.setIfInBounds i3 true=l3) (e4:li.setIfInBounds i4 true=l4) (h1:RO P N ops i1 (RA P N ops k l1 K) fr aw) (h2:RO P N ops i2 (RA P N ops k l2 K) fr aw) (h3:RO P N ops i3 (RA P N ops k l3 K) fr aw) (h4:RO P N ops i4 (RA P N ops k l4 K) fr aw):RA P N ops (k+1) li K fr aw:=by simp_all [RA.all]
end
theorem T.weakR {P:Program} {N:Nat} {c:Code} {Q:Exit->List AV->List Ob->Prop} {fr fr':List AV} {aw aw':List Ob} (h:T P N c Q fr' aw') (hw:Weak N fr aw fr' aw'):T P N c Q fr aw:=T.weak hw h
theorem T.join {P:Program} {N:Nat} {x y:Code} {Q:Exit->List AV->List Ob->Prop} {fr:List AV} {aw:List Ob} {Z:Type} (F:Z->List AV) (A:Z->List Ob) (S:Z->Prop) (h:∀ z,S z->T P N y Q (F z) (A z))
 (h2:(∀ z,S z->T P N y Q (F z) (A z))->T P N x (thenA (T P N y Q) Q) fr aw):T P N (.seq x y) Q fr aw:=T.seq (h2 h)
end
section
open Go.RowKit
def RenM (m:List (Nat × Nat)) (a' a:AV):Prop:=∀ σ w F v,Rel σ w F a v->∀ σ':List Value,(∀ p,p∈m->σ'[p.1]?=σ[p.2]?)->Rel σ' w F a' v
def cU (m:List (Nat × Nat)):List AV->List AV->Prop
 | [],[]=>True
 | a'::as',a::as₀=>RenM m a' a/\cU m as' as₀
 | _,_=>False
def RenOM (m:List (Nat × Nat)):Ob->Ob->Prop
 | .dead,_=>True
 | .box cs',.box cs=>cU m cs' cs
 | .boxB t' cs',.boxB t cs=>t'=t/\cU m cs' cs
 | .arr e' s' rows',.arr e s rows=>e'=e/\s'=s/\rows'=rows/\∀ row,row∈rows->∀ x,x∈row->Pure x
 | .mp ks' vs',.mp ks vs=>cU m ks' ks/\cU m vs' vs
 | .hd e' k',.hd e k=>e'=e/\(k',k)∈m
 | .cl e' s' cells',.cl e s cells=>e'=e/\s'=s/\cells'=cells/\∀ rows,(Cell.own rows∈cells∨Cell.fz rows∈cells)->∀ row,row∈rows->∀ x,x∈row->Pure x
 | _,_=>False
section
variable {P:Program} {σ σ':List Value} {w w':World} {F F':Nat→Prop} {aw:List Ob} {m:List (Nat × Nat)}
theorem d8:∀ {as' as₀:List AV},cU m as' as₀->∀ {vs:List Value},RelL σ w F as₀ vs->(∀ p,p∈m->σ'[p.1]?=σ[p.2]?)->RelL σ' w F as' vs
 | [],[],_,vs,hr,_=>by
  have:vs=[]:=zN hr.1;subst this;exact .nil
 | a'::as',a::as₀,h,vs,hr,hσ=>by
  match vs,hr with
  | [],hr=>exact absurd hr.1 (by simp)
  | v::vs,hr =>
   have h1:Rel σ w F a v:=hr.2 0 a v rfl rfl
   have h2:RelL σ w F as₀ vs:=⟨by simpa using hr.1,fun j a v ha hv=>hr.2 (j+1) a v (by grind) (by grind)⟩
   exact .cons (h.1 σ w F v h1 σ' hσ) (d8 h.2 h2 hσ)
 | [],_::_,h,_,_,_=>h.elim
 | _::_,[],h,_,_,_=>h.elim
theorem up {o' o:Ob} {v:Value} (h:RenOM m o' o) (hr:ORel σ w F o v) (hσ:∀ p,p∈m->σ'[p.1]?=σ[p.2]?):ORel σ' w F o' v:=by
 cases o' with
 | dead=>trivial
 | box cs' =>
  cases o with
  | box cs =>
   obtain ⟨g,vs,ty,rfl,hg,hc,h1,hf⟩:=hr;exact ⟨g,vs,ty,rfl,hg,d8 h hc hσ,h1,hf⟩
  | _=>exact h.elim
 | arr e' s' rows' =>
  cases o with
  | arr e s rows =>
   obtain ⟨rfl,rfl,rfl,hp⟩:=h;obtain ⟨flat,ho,hfl,hf,A,n,c,rfl⟩:=hr;exact ⟨flat,ho,⟨hfl.1,hfl.2.1,jC (fun row hrow x hx v hv=>hp row hrow x hx σ w F v hv σ') hfl.2.2⟩,hf,A,n,c,rfl⟩
  | _=>exact h.elim
 | mp ks' vs' =>
  cases o with
  | mp ks vs =>
   obtain ⟨g,es,clock,rfl,hg,hk,hv,hf⟩:=hr;exact ⟨g,es,clock,rfl,hg,d8 h.1 hk hσ,d8 h.2 hv hσ,hf⟩
  | _=>exact h.elim
 | hd e' k' =>
  cases o with
  | hd e k =>
   obtain ⟨rfl,hk⟩:=h;obtain ⟨us,g1,g2,g3,g4,g5⟩:=hr;exact ⟨us,by grind,g2,g3,g4,g5⟩
  | _=>exact h.elim
 | cl e' s' cells' =>
  cases o with
  | cl e s cells =>
   obtain ⟨rfl,rfl,rfl,hp⟩:=h;obtain ⟨us,e1,hl1,hc,hd⟩:=hr;exact ⟨us,e1,hl1,fun i c x h1 h2=>pc (hc i c x h1 h2) (fun rows hrr=>hp rows (hrr.imp (fun (e:Cell.own rows=c)=>by grind) (fun (e:Cell.fz rows=c)=>by grind))),hd⟩
  | _=>exact h.elim
 | arrU e' s' rows' x'=>cases o<;>exact h.elim
 | boxB t' cs' =>
  cases o with
  | boxB t cs =>
   obtain ⟨rfl,h⟩:=h;obtain ⟨g,vs,e1,hg1,hr1,h11,hf⟩:=hr;exact ⟨g,vs,e1,hg1,d8 h hr1 hσ,h11,hf⟩
  | _=>exact h.elim
theorem iN {o' o:Ob} {v:Value} {b:Nat} (h:RenOM m o' o) (hb:Bk o' v b):Bk o v b:=by
 cases o' with
 | dead=>exact hb.elim
 | cl e s cells =>
  cases o with
  | cl e' s' cells'=>obtain ⟨rfl,rfl,rfl,_⟩:=h;exact hb
  | _=>exact h.elim
 | _=>cases o<;>first | exact hb | exact h.elim
theorem td {o' o:Ob} (hr:RenOM m o' o) (hl:o'.live=true):o.live=true:=by cases o'<;>cases o<;>first | rfl | exact hr.elim | cases hl
theorem um {ρ:List Nat} {o' o:Ob} (hr:RenO ρ o' o) (hl:o'.live=true):o.live=true:=by cases o'<;>cases o<;>first | rfl | exact hr.elim | cases hl
def aX (ρ:List Nat) (n0 n1:Nat):List (Nat × Nat):=(List.range n1).map fun k=>(if k<ρ.length then ρ.getD k 0 else n0+(k - ρ.length),k)
def cT (m:List (Nat × Nat)) (ρ:List Nat) (aw aw1:List Ob):Nat->List Ob->Prop
 | _,[]=>True
 | j,o2::r=>((∃ k o1,(j,k)∈m/\aw1[k]?=some o1/\RenOM m o2 o1)∨(ρ.contains j=false/\aw[j]?=some o2))/\cT m ρ aw aw1 (j+1) r
theorem iE {ρ:List Nat} {aw1:List Ob}:∀ {l:List Ob} {j i:Nat} {o2:Ob},cT m ρ aw aw1 j l->l[i]?=some o2 ->
  (∃ k o1,(j+i,k)∈m/\aw1[k]?=some o1/\RenOM m o2 o1)∨(ρ.contains (j+i)=false/\aw[j+i]?=some o2)
 | [],j,i,o2,_,h=>by simp at h
 | o::r,j,0,o2,hb,h=>by simp at h;subst h;exact hb.1
 | o::r,j,i+1,o2,hb,h=>by have:=iE (j:=j+1) (i:=i) hb.2 (by simpa using h);grind
theorem jO {ρ:List Nat} {aw0 aw1 aw2:List Ob} {σ0 σ1:List Value} (hs:Sim aw σ w F) (hnd:ρ.Nodup) (hW:ba ρ aw ρ aw0) (hσ0:∀ (k id:Nat),ρ[k]?=some id->σ0[k]?=σ[id]?) (hl0:σ0.length=ρ.length)
  (hs0:Sim aw0 σ0 w F) (hd0:∀ b,Dof aw0 σ0 b->Dof aw σ b) (hs1:Sim aw1 σ1 w' F') (hm:Mv aw0 σ0 w F aw1 σ1 w' F')
  (hl:aw2.length+ρ.length=aw.length+aw1.length) (hB:cT (aX ρ aw.length aw1.length) ρ aw aw1 0 aw2) :
  ∃ σ2,Sim aw2 σ2 w' F'/\Mv aw σ w F aw2 σ2 w' F'/\∀ p,p∈aX ρ aw.length aw1.length->σ2[p.1]?=σ1[p.2]?:=by
 have hρ1:ρ.length<=aw1.length:=by
  rw [<- hs1.len];have hpre:=hm.pre;by_cases h0:ρ.length=0
  ·omega
  ·have hlt:ρ.length - 1<σ0.length:=by omega
   have:=(zK.1 (hpre _ _ (zJ hlt))).1;omega
 have hin:∀ (k id:Nat),ρ[k]?=some id->id<aw.length:=fun k id h=>by
  obtain ⟨_,hg⟩:=fa hW;have hk:k<aw0.length:=by grind
  obtain ⟨id',o,e1,e2,_⟩:=hg k _ (zJ hk);grind
 refine ⟨σ++σ1.drop ρ.length,?_⟩
 have hmem:∀ j k,(j,k)∈aX ρ aw.length aw1.length ↔ (k<aw1.length/\j=if k<ρ.length then ρ.getD k 0 else aw.length+(k - ρ.length)):=fun j k=>by grind [aX]
 have hσ2:∀ p,p∈aX ρ aw.length aw1.length->(σ++σ1.drop ρ.length)[p.1]?=σ1[p.2]?:=by
  rintro ⟨j,k⟩ hp;obtain ⟨hk,rfl⟩:=(hmem j k).1 hp;simp only;split
  ·rename_i hlt;have hg:ρ[k]?=some (ρ.getD k 0):=by grind
   have hid:=hin k _ hg;rw [zS (by grind)];have h0:=hσ0 k _ hg;have hlt0:k<σ0.length:=by omega
   rw [<- h0,hm.pre k _ (zJ hlt0),zJ hlt0]
  ·rw [AE (by rw [hs.len];omega),hs.len,z7];grind
 have apart:∀ (j:Nat) o v b,ρ.contains j=false->aw[j]?=some o->o.live=true->σ[j]?=some v->Bk o v b->¬ Dof aw0 σ0 b:=by
  rintro j o v b hj ho hlv hv hb ⟨k,o0,v0,hk,hl0',hv0,hb0⟩;obtain ⟨_,hg⟩:=fa hW;obtain ⟨id,o1,e1,e2,e3⟩:=hg k o0 hk;have hv1:σ[id]?=some v0:=by grind
  have hlv1:o1.live=true:=um e3 hl0';refine hs.sep j id o o1 v v0 b ?_ ho e2 hlv hlv1 hv hv1 hb (kp e3 hb0);grind
 have own1:∀ (j k:Nat) o1 v b,(j,k)∈aX ρ aw.length aw1.length->aw1[k]?=some o1->o1.live=true->(σ++σ1.drop ρ.length)[j]?=some v->Bk o1 v b->Dof aw1 σ1 b:=fun j k o1 v b hp ho hlv hv hb=>by have:=hσ2 _ hp;simp only at this;exact ⟨k,o1,v,ho,hlv,by grind,hb⟩
 have live:∀ {o' o:Ob},RenOM (aX ρ aw.length aw1.length) o' o->o'.live=true->o.live=true:=fun hr hlv=>td hr hlv
 have inold:∀ (j:Nat) o v,aw[j]?=some o->(σ++σ1.drop ρ.length)[j]?=some v->σ[j]?=some v:=fun j o v ho hv=>by rwa [zS (by rw [hs.len];grind)] at hv
 have hFw:∀ b,F b->w'.heap[b]?=w.heap[b]?:=hm.same hs0
 refine ⟨⟨?_,fun j o2 v ho hv=>?_,fun j j' o o' v v' b hne ho ho' hlv hlv' hv hv' hb hb'=>?_,hs1.lt,hs1.gd⟩,⟨hm.os,hm.tape,hm.output,hm.size,fun b hb hd=>hm.keep b hb (fun h=>hd (hd0 b h)),fun i v hv=>by grind,hm.sub,fun b hb=>(hm.sup b hb).imp (fun h=>h) (fun h=>h.imp (hd0 b) (fun h=>h)),fun b hb=>?_⟩,hσ2⟩
 ·rw [Ag,A7,hs.len,hs1.len];omega
 ·have:=iE hB ho
  rw [AN] at this
  rcases this with ⟨k,o1,hp,ho1,hr⟩ | ⟨hj,ho2⟩
  ·have h1:=hσ2 _ hp
   simp only at h1
   exact up hr (hs1.obj k o1 v ho1 (by grind)) hσ2
  ·have hv':=inold j o2 v ho2 hv
   refine (hs.obj j o2 v ho2 hv').mono (fun i v hv=>by grind) hm.sub hFw (fun hlv b hb=>?_)
   have hlt:=hs.lt_own ⟨j,o2,v,ho2,hlv,hv',hb⟩
   have hnd0:=apart j o2 v b hj ho2 hlv hv' hb
   refine ⟨hm.keep b hlt hnd0,fun hF'=>?_⟩
   rcases hm.sup b hF' with h | h | h
   ·exact hs.free ⟨j,o2,v,ho2,hlv,hv',hb⟩ h
   all_goals grind
 ·have c1:=iE hB ho
  have c2:=iE hB ho'
  rw [AN] at c1 c2
  rcases c1 with ⟨k,o1,hp,ho1,hr⟩ | ⟨hj,ho2⟩
  ·rcases c2 with ⟨k',o1',hp',ho1',hr'⟩ | ⟨hj',ho2'⟩
   ·have hkk:k≠k':=by
     grind
    have e1:=hσ2 _ hp
    have e2:=hσ2 _ hp'
    simp only at e1 e2
    exact hs1.sep k k' o1 o1' v v' b hkk ho1 ho1' (live hr hlv) (live hr' hlv') (by grind) (by grind) (iN hr hb) (iN hr' hb')
   ·have hv2:=inold j' o' v' ho2' hv'
    have hlt:=hs.lt_own ⟨j',o',v',ho2',hlv',hv2,hb'⟩
    rcases hm.own b (own1 j k o1 v b hp ho1 (live hr hlv) hv (iN hr hb)) with h | h
    all_goals grind
  ·have hv1:=inold j o v ho2 hv
   have hlt:=hs.lt_own ⟨j,o,v,ho2,hlv,hv1,hb⟩
   rcases c2 with ⟨k',o1',hp',ho1',hr'⟩ | ⟨hj',ho2'⟩
   ·rcases hm.own b (own1 j' k' o1' v' b hp' ho1' (live hr' hlv') hv' (iN hr' hb')) with h | h
    all_goals grind
   ·exact hs.sep j j' o o' v v' b hne ho2 ho2' hlv hlv' hv1 (inold j' o' v' ho2' hv') hb hb'
 ·obtain ⟨j,o2,v,ho2,hlv,hv,hb'⟩:=hb
  have c:=iE hB ho2
  rw [AN] at c
  rcases c with ⟨k,o1,hp,ho1,hr⟩ | ⟨hj,ho⟩
  ·exact (hm.own b (own1 j k o1 v b hp ho1 (live hr hlv) hv (iN hr hb'))).imp (hd0 b) (fun h=>h)
  ·exact .inl ⟨j,o2,v,ho,hlv,inold j o2 v ho hv,hb'⟩
end
section
variable {P:Program} {N n:Nat} {aw aw':List Ob} {l:List (Nat × AV)}
def FnX (P:Program) (f:FuncId) (args:List AV) (aw:List Ob) (v:AV) (aw':List Ob):Prop:=ACalls P f args aw fun r aw''=>r=v/\aw''=aw'
theorem pG {d:Option Tmp} {ty:TypeId} {ps:String} {af:Array Edge} {g:Option (Nat × Bool)} {K2:AV->List Ob->Prop} {f:Operand} {args:Array Operand} {ts:Array TypeId} {h:FuncId} {caps ac as0:List AV} {aw0 aw1 aw2:List Ob} {v v':AV} {n0 n1:Nat} (ρ:List Nat) (hn0:aw.length=n0) (hn1:aw1.length=n1)
  (hf:evA n l f=.func h caps) (ha:args.toList.map (evA n l)++caps=ac) (hnd:ρ.Nodup) (hW:ba ρ aw ρ aw0) (hA:bd ρ as0 ac) (hC:FnX P h as0 aw0 v aw1) (hlen:aw2.length+ρ.length=n0+n1)
  (hv:RenM (aX ρ n0 n1) v' v) (hB:cT (aX ρ n0 n1) ρ aw aw1 0 aw2) (hK:K2 v' aw2):OP P N ⟨d,.call ⟨.value f,args,ts⟩,ty,ps,af,g⟩ (mkA n l) aw K2 :=
 ⟨fun st h1 h2 σ w F a hc Kc Q hk=>by
  subst hn0 hn1;have hfv:=hc.fr.ev f;rw [am,hf] at hfv;generalize hvf:a.eval f=vf at hfv;cases hfv with
  | func _ _ cvs hl hcs =>
   have hargs:RelL σ w F ac (args.toList.map a.eval++cvs):=by rw [<- ha];have:=e6 hc.fr args.toList;rw [show args.toList.map (ev (mkA n l))=args.toList.map (evA n l) from Au fun x _=>am n l x] at this;exact this.append ⟨hl,hcs⟩
   obtain ⟨hlW,hgW⟩:=fa hW;obtain ⟨σ0',hσ',hs0',hd0'⟩:=dM hc.sim hnd hW;have hl0:σ0'.length=ρ.length:=by rw [hs0'.len,hlW]
   have hr0:RelL σ0' w F as0 (args.toList.map a.eval++cvs):=cA hA hargs hσ';have hrun:(execOp a.eval ⟨d,.call ⟨.value f,args,ts⟩,ty,ps,af,g⟩).run P w=.ok (.enter h (args.toList.map a.eval++cvs).toArray) w:=by
    have e:args.map a.eval++cvs.toArray=(args.toList.map a.eval++cvs).toArray:=by simp
    simp only [execOp,resolve,Deferred.ofValue,hvf,Sem.run_bind,Sem.run_pure,Result.andThen_ok,invoke,Array.empty_append,e,hC.1]
   unfold Oper.wp;rw [hrun];refine (hC.2 w F σ0' _ hs0' hr0).mono ?_;rintro e w' ⟨u,r,aw'',σ1,F',rfl,⟨rfl,rfl⟩,hs1,hrel,hm⟩;obtain ⟨σ2,s2,m2,hσ2⟩:=jO hc.sim hnd hW hσ' hl0 hs0' hd0' hs1 hm hlen hB;exact hk v' aw2 σ2 w' F' u hK (hc.step s2 m2) (hv σ1 w' F' u hrel σ2 hσ2)⟩
theorem uK {d:Option Tmp} {ty:TypeId} {ps:String} {af:Array Edge} {g:Option (Nat × Bool)} {K2:AV->List Ob->Prop} {f:Operand} {args:Array Operand} {ts:Array TypeId} {h:FuncId} {caps ac as0:List AV} {aw0 aw1 aw2:List Ob} {v v':AV} {n0 n1:Nat} (ρ:List Nat) (hn0:aw.length=n0) (hn1:aw1.length=n1)
  (hf:evA n l f=.bnd h caps) (ha:caps++args.toList.map (evA n l)=ac) (hnd:ρ.Nodup) (hW:ba ρ aw ρ aw0) (hA:bd ρ as0 ac) (hC:FnX P h as0 aw0 v aw1) (hlen:aw2.length+ρ.length=n0+n1)
  (hv:RenM (aX ρ n0 n1) v' v) (hB:cT (aX ρ n0 n1) ρ aw aw1 0 aw2) (hK:K2 v' aw2):OP P N ⟨d,.call ⟨.value f,args,ts⟩,ty,ps,af,g⟩ (mkA n l) aw K2 :=
 ⟨fun st h1 h2 σ w F a hc Kc Q hk=>by
  subst hn0 hn1;have hfv:=hc.fr.ev f;rw [am,hf] at hfv;generalize hvf:a.eval f=vf at hfv;cases hfv with
  | bnd _ _ cvs hl hcs =>
   have hargs:RelL σ w F ac (cvs++args.toList.map a.eval):=by rw [<- ha];have:=e6 hc.fr args.toList;rw [show args.toList.map (ev (mkA n l))=args.toList.map (evA n l) from Au fun x _=>am n l x] at this;exact RelL.append ⟨hl,hcs⟩ this
   obtain ⟨hlW,hgW⟩:=fa hW;obtain ⟨σ0',hσ',hs0',hd0'⟩:=dM hc.sim hnd hW;have hl0:σ0'.length=ρ.length:=by rw [hs0'.len,hlW]
   have hr0:RelL σ0' w F as0 (cvs++args.toList.map a.eval):=cA hA hargs hσ';have hrun:(execOp a.eval ⟨d,.call ⟨.value f,args,ts⟩,ty,ps,af,g⟩).run P w=.ok (.enter h (cvs++args.toList.map a.eval).toArray) w:=by
    have e:cvs.toArray++args.map a.eval++#[]=(cvs++args.toList.map a.eval).toArray:=by simp
    simp only [execOp,resolve,Deferred.ofValue,hvf,Sem.run_bind,Sem.run_pure,Result.andThen_ok,invoke,e,hC.1]
   unfold Oper.wp;rw [hrun];refine (hC.2 w F σ0' _ hs0' hr0).mono ?_;rintro e w' ⟨u,r,aw'',σ1,F',rfl,⟨rfl,rfl⟩,hs1,hrel,hm⟩;obtain ⟨σ2,s2,m2,hσ2⟩:=jO hc.sim hnd hW hσ' hl0 hs0' hd0' hs1 hm hlen hB;exact hk v' aw2 σ2 w' F' u hK (hc.step s2 m2) (hv σ1 w' F' u hrel σ2 hσ2)⟩
theorem ak {m:List (Nat × Nat)} {a:AV} (h:Pure a):RenM m a a:=fun σ w F v hr σ' _=>h σ w F v hr σ'
theorem qh {m:List (Nat × Nat)} {a:AV}:RenM m .any a:=fun σ w F v hr σ' _=>.any v
theorem qp {m:List (Nat × Nat)} {k id:Nat} (h:(k,id)∈m):RenM m (.ref k) (.ref id):=fun σ w F v hr σ' hσ=>by
 cases hr with
 | ref _ A n c hg=>exact .ref k A n c (by grind)
theorem qI {m:List (Nat × Nat)} {k id off:Nat} (h:(k,id)∈m):RenM m (.ptr k off) (.ptr id off):=fun σ w F v hr σ' hσ=>by
 cases hr with
 | ptr _ _ g hg=>exact .ptr k off g (by grind)
theorem xy {m:List (Nat × Nat)} {cs ds:List AV} (h:cU m cs ds):RenM m (.agg cs) (.agg ds):=fun σ w F v hr σ' hσ=>by
 cases hr with
 | agg _ vs hl h1 hc=>have:=d8 h ⟨hl,hc⟩ hσ;exact .agg cs vs this.1 h1 this.2
theorem xr {m:List (Nat × Nat)} {cs ds:List AV} (h:cU m cs ds):RenM m (.tup cs) (.tup ds):=fun σ w F v hr σ' hσ=>by
 cases hr with
 | tup _ vs hl hc=>have:=d8 h ⟨hl,hc⟩ hσ;exact .tup cs vs this.1 this.2
theorem we {m:List (Nat × Nat)} {f:FuncId} {cs ds:List AV} (h:cU m cs ds):RenM m (.func f cs) (.func f ds):=fun σ w F v hr σ' hσ=>by
 cases hr with
 | func _ _ vs hl hc=>have:=d8 h ⟨hl,hc⟩ hσ;exact .func f cs vs this.1 this.2
theorem xA {m:List (Nat × Nat)} {f:FuncId} {cs ds:List AV} (h:cU m cs ds):RenM m (.bnd f cs) (.bnd f ds):=fun σ w F v hr σ' hσ=>by
 cases hr with
 | bnd _ _ vs hl hc=>have:=d8 h ⟨hl,hc⟩ hσ;exact .bnd f cs vs this.1 this.2
theorem iW {m:List (Nat × Nat)} {cs ds:List AV} (h:cU m cs ds):RenOM m (.box cs) (.box ds):=h
theorem T.nilB {c:Code} {Q:Exit->List AV->List Ob->Prop} {fr:List AV} (id j e z:Nat) {cs cs':List AV} (ho:aw[id]?=some (.box cs)) (hj:cs[j]?=some .nils) (hc:cs.set j (.ref aw.length)=cs') (ha:aw.set id (.box cs')++[.arr e z []]=aw') (h:T P N c Q fr aw'):T P N c Q fr aw :=
 ⟨fun st h1 h2 σ w F a hcur=>by
  subst hc ha;obtain ⟨s1,m1,r1⟩:=j8 e z hcur.sim;have hid:id<aw.length:=(zK.1 ho).1;refine h.out st h1 h2 (σ++[.slice none 0 0]) w F a ⟨⟨?_,fun k o v hk hv=>?_,fun k k' o o' v v' g hne hk hk' hl hl' hv hv' hb hb'=>?_,s1.lt,s1.gd⟩,m1.aRel hcur.sim hcur.fr,hcur.mv.trans ⟨m1.os,m1.tape,m1.output,m1.size,m1.keep,m1.pre,m1.sub,m1.sup,fun b hb=>?_⟩,hcur.ds⟩
  ·have:=s1.len;grind
  ·rw [z6] at hk;split at hk
   ·rename_i hlt;rw [Ax] at hlt;rw [zV] at hk;split at hk
    ·rename_i e1;subst e1;cases hk;have hob:=s1.obj id _ v (by rw [zS hid];exact ho) hv;obtain ⟨g,vs,ty,rfl,hg,hr,h1c,hf⟩:=hob;refine ⟨g,vs,ty,rfl,hg,?_,h1c,hf⟩;obtain ⟨u,hu,hru⟩:=hr.get hj;cases hru;have:=hr.set j r1;grind [List.set_getElem_self]
    ·exact s1.obj k o v (by grind) hv
   ·rename_i hge;exact s1.obj k o v (by grind) hv
  ·have back:∀ (k:Nat) o,(aw.set id (.box (cs.set j (.ref aw.length)))++[.arr e z []])[k]?=some o->o.live=true->∃ o1,(aw++[.arr e z []])[k]?=some o1/\o1.live=true/\∀ v b,Bk o v b->Bk o1 v b:=fun k o hk hl=>by
    rw [z6] at hk ⊢;rw [Ax] at hk;split at hk
    ·rename_i hlt;rw [if_pos hlt];rw [zV] at hk;split at hk
     ·rename_i e1;subst e1;cases hk;exact ⟨_,ho,rfl,fun _ _ h=>h⟩
     grind
    grind
   obtain ⟨o1,e1,l1,z1⟩:=back k o hk hl;obtain ⟨o2,e2,l2,z2⟩:=back k' o' hk' hl';exact s1.sep k k' o1 o2 v v' g hne e1 e2 l1 l2 hv hv' (z1 _ _ hb) (z2 _ _ hb')
  ·obtain ⟨k,o,v,hk,hl,hv,hb⟩:=hb;refine m1.own b ⟨k,?_⟩;rw [z6] at hk;rw [Ax] at hk;split at hk
   ·rename_i hlt;rw [zV] at hk;rw [zS hlt];split at hk
    ·rename_i e1;subst e1;cases hk;exact ⟨_,v,ho,rfl,hv,hb⟩
    grind
   grind⟩
theorem pJ {σ:List Value} {w:World} {F:Nat->Prop} {k e s:Nat} {rows:List (List AV)} {v:Value} (hs:Sim aw σ w F) (ho:aw[k]?=some (.arr e s rows)) (hv:σ[k]?=some v) :
  Sim (aw.set k .dead++[.arr e s rows]) (σ++[v]) w F/\Mv aw σ w F (aw.set k .dead++[.arr e s rows]) (σ++[v]) w F:=by
 have hmono:∀ (j:Nat) o u,aw[j]?=some o->σ[j]?=some u->ORel (σ++[v]) w F o u:=fun j o u h1 h2 =>
  (hs.obj j o u h1 h2).mono (fun i x hx=>cj hx) (fun _ h=>h) (fun _ _=>rfl) (fun hl b hb=>⟨rfl,hs.free ⟨j,o,u,h1,hl,h2,hb⟩⟩)
 have look:∀ (j:Nat) o u,(aw.set k .dead++[.arr e s rows])[j]?=some o->o.live=true->(σ++[v])[j]?=some u->∃ i,aw[i]?=some o/\σ[i]?=some u/\((i=j/\j≠k/\j<aw.length)∨(i=k/\j=aw.length)):=by
  intro j o u h1 hl h2;rw [z6,Ax] at h1;split at h1
  ·rename_i hlt;rw [zS (by rw [hs.len];exact hlt)] at h2;rw [zV] at h1;split at h1
   ·split at h1
    ·cases h1;cases hl
    ·cases h1
   grind
  ·rename_i hge;have hj:j=aw.length:=by
    grind
   subst hj;rw [Nat.sub_self] at h1;cases h1;rw [AE (by rw [hs.len];omega),hs.len,Nat.sub_self] at h2;grind
 refine ⟨⟨by simp [hs.len],fun j o u h1 h2=>?_,fun j j' o o' u u' b hne h1 h1' hl hl' h2 h2' hb hb'=>?_,hs.lt,hs.gd⟩,⟨rfl,rfl,drO,zP _,fun _ _ _=>rfl,fun i x hx=>cj hx,fun _ h=>h,fun _ h=>.inl h,fun b hb=>?_⟩⟩
 ·by_cases hl:o.live=true
  ·grind
  ·cases o with
   | dead=>trivial
   | _=>exact absurd rfl hl
 ·obtain ⟨i,h3,h4,c⟩:=look j o u h1 hl h2
  obtain ⟨i',h3',h4',c'⟩:=look j' o' u' h1' hl' h2'
  refine hs.sep i i' o o' u u' b ?_ h3 h3' hl hl' h4 h4' hb hb'
  omega
 ·obtain ⟨j,o,u,h1,hl,h2,hb⟩:=hb
  obtain ⟨i,h3,h4,_⟩:=look j o u h1 hl h2
  exact .inl ⟨i,o,u,h3,hl,h4,hb⟩
theorem T.mvB {c:Code} {Q:Exit->List AV->List Ob->Prop} {fr:List AV} (b j id:Nat) {e s n0:Nat} {rows:List (List AV)} {cs cs':List AV} (hb:aw[b]?=some (.box cs)) (hj:cs[j]?=some (.ref id)) (ho:aw[id]?=some (.arr e s rows)) (hn:aw.length=n0) (hc:cs.set j (.ref n0)=cs') (ha:(aw.set id .dead).set b (.box cs')++[.arr e s rows]=aw') (h:T P N c Q fr aw'):T P N c Q fr aw :=
 ⟨fun st h1 h2 σ w F a hcur=>by
  subst hc ha hn;have hbl:b<aw.length:=(zK.1 hb).1;have hbσ:∃ vb,σ[b]?=some vb:=⟨_,zJ (by rw [hcur.sim.len];exact hbl)⟩
  obtain ⟨vb,hvb⟩:=hbσ;obtain ⟨g,vs,ty,rfl,hg,hcr,h1c,hf⟩:=hcur.sim.obj b _ vb hb hvb;obtain ⟨u,hu,hru⟩:=hcr.get hj;cases hru with
  | ref _ A m c2 hgσ =>
   obtain ⟨s1,m1⟩:=pJ hcur.sim ho hgσ;have hbid:b≠id:=by grind
   have hb1:(aw.set id .dead++[.arr e s rows])[b]?=some (.box cs):=by grind
   have hnew:ORel (σ++[.slice A m c2]) w F (.box (cs.set j (.ref aw.length))) (.pointer (some ⟨g,0,none⟩)):=by refine ⟨g,vs,ty,rfl,hg,?_,h1c,hf⟩;have hcr1:=m1.relL hcur.sim hcr;have:=hcr1.set j (Rel.ref (σ:=σ++[.slice A m c2]) (w:=w) (F:=F) aw.length A m c2 (by rw [<- hcur.sim.len];simp));grind [List.set_getElem_self]
   have hvb1:(σ++[.slice A m c2])[b]?=some (.pointer (some ⟨g,0,none⟩)):=cj hvb;have hset:(aw.set id .dead).set b (.box (cs.set j (.ref aw.length)))++[Ob.arr e s rows]=(aw.set id .dead++[Ob.arr e s rows]).set b (.box (cs.set j (.ref aw.length))):=by grind
   rw [hset] at h;have s2:=s1.write (b0:=g) b hb1 rfl hvb1 rfl (fun _ _=>rfl) rfl _ hnew (fun _ h=>h);have m2:=Mv.write (w:=w) (w':=w) (F:=F) (b0:=g) b hb1 rfl hvb1 rfl rfl rfl drO (fun _ _=>rfl) rfl (.box (cs.set j (.ref aw.length))) (fun _ h=>h);exact h.out st h1 h2 _ w F a ⟨s2,m2.aRel s1 (m1.aRel hcur.sim hcur.fr),(hcur.mv.trans m1).trans m2,hcur.ds⟩⟩
def fz1 (id:Nat) (rows:List (List AV)):AV->AV
 | .ref k=>(match Nat.beq k id with | true=>.sl rows | false=>.ref k)
 | a=>a
def fz2 (id:Nat) (rows:List (List AV)):AV->AV
 | .agg cs=>.agg (cs.map (fz1 id rows))
 | a=>fz1 id rows a
def fzV (id:Nat) (rows:List (List AV)):AV->AV
 | .tup cs=>.tup (cs.map (fz2 id rows))
 | .func f cs=>.func f (cs.map (fz2 id rows))
 | a=>fz2 id rows a
def fzA (id:Nat) (rows:List (List AV)) (l:List (Nat × AV)):List (Nat × AV):=l.map fun p=>(p.1,fzV id rows p.2)
def fzOb (id:Nat) (rows:List (List AV)):Ob->Ob
 | .box cs=>.box (cs.map (fz2 id rows))
 | o=>o
section
variable {σ:List Value} {w:World} {F:Nat→Prop} {id:Nat} {rows:List (List AV)}
theorem pZ (H:∀ v,Rel σ w F (.ref id) v->Rel σ w F (.sl rows) v) {a:AV} {v:Value} (h:Rel σ w F a v):Rel σ w F (fz1 id rows a) v:=by unfold fz1;grind [Nat.eq_of_beq_eq_true]
theorem kr {f:AV->AV} (hf:∀ a v,Rel σ w F a v->Rel σ w F (f a) v) {cs:List AV} {vs:List Value} (h:RelL σ w F cs vs):RelL σ w F (cs.map f) vs:=by refine ⟨by simp [h.1],fun j a v ha hv=>?_⟩;rw [zT,zQ] at ha;obtain ⟨b,hb,rfl⟩:=ha;exact hf b v (h.2 j b v hb hv)
theorem ku (H:∀ v,Rel σ w F (.ref id) v->Rel σ w F (.sl rows) v) {a:AV} {v:Value} (h:Rel σ w F a v):Rel σ w F (fz2 id rows a) v:=by
 unfold fz2;split
 ·cases h with
  | agg _ vs hl h1 hc =>
   have:=kr (fun a v=>pZ H) (⟨hl,hc⟩:RelL σ w F _ _);exact .agg _ vs this.1 h1 this.2
 ·exact pZ H h
theorem wg (H:∀ v,Rel σ w F (.ref id) v->Rel σ w F (.sl rows) v) {a:AV} {v:Value} (h:Rel σ w F a v):Rel σ w F (fzV id rows a) v:=by
 unfold fzV;split
 ·cases h with
  | tup _ vs hl hc =>
   have:=kr (fun a v=>ku H) (⟨hl,hc⟩:RelL σ w F _ _);exact .tup _ vs this.1 this.2
 ·cases h with
  | func _ _ vs hl hc =>
   have:=kr (fun a v=>ku H) (⟨hl,hc⟩:RelL σ w F _ _);exact .func _ _ vs this.1 this.2
 ·exact ku H h
theorem xa (hs:Sim aw σ w F) (H:∀ v,Rel σ w F (.ref id) v->Rel σ w F (.sl rows) v):Sim (aw.map (fzOb id rows)) σ w F/\Mv aw σ w F (aw.map (fzOb id rows)) σ w F:=by
 have look:∀ (k:Nat) o,(aw.map (fzOb id rows))[k]?=some o->∃ o1,aw[k]?=some o1/\o=fzOb id rows o1/\(o.live=true->o1.live=true)/\∀ v b,Bk o v b->Bk o1 v b:=fun k o h=>by rw [zT,zQ] at h;obtain ⟨o1,h1,rfl⟩:=h;exact ⟨o1,h1,rfl,fun hl=>by cases o1<;>first | rfl | exact hl,fun v b hb=>by cases o1<;>exact hb⟩
 refine ⟨⟨by simp [hs.len],fun k o v h1 h2=>?_,fun k k' o o' v v' b hne h1 h1' hl hl' h2 h2' hb hb'=>?_,hs.lt,hs.gd⟩,⟨rfl,rfl,drO,zP _,fun _ _ _=>rfl,fun _ _ h=>h,fun _ h=>h,fun _ h=>.inl h,fun b hb=>?_⟩⟩
 ·obtain ⟨o1,h3,rfl,_,_⟩:=look k o h1;have:=hs.obj k o1 v h3 h2;cases o1 with
  | box cs =>
   obtain ⟨g,vs,ty,rfl,hg,hr,h4,hf⟩:=this;exact ⟨g,vs,ty,rfl,hg,kr (fun a v=>ku H) hr,h4,hf⟩
  | _=>exact this
 ·obtain ⟨o1,h3,_,l1,z1⟩:=look k o h1;obtain ⟨o1',h3',_,l1',z1'⟩:=look k' o' h1';exact hs.sep k k' o1 o1' v v' b hne h3 h3' (l1 hl) (l1' hl') h2 h2' (z1 _ _ hb) (z1' _ _ hb')
 ·obtain ⟨k,o,v,h1,hl,h2,hb⟩:=hb;obtain ⟨o1,h3,_,l1,z1⟩:=look k o h1;exact .inl ⟨k,o1,v,h3,l1 hl,h2,z1 _ _ hb⟩
theorem pE (f:AV->AV) (hf:f .any=.any):∀ (l:List (Nat × AV)) (t:Nat),lkA (l.map fun p=>(p.1,f p.2)) t=f (lkA l t)
 | [],t=>hf.symm
 | (s,v)::r,t=>by
  rw [Ac,dJ,dJ];split
  ·rfl
  ·exact pE f hf r t
theorem kz {st:St} {a:Act} {e s:Nat} (hc:Cur st (mkA n l) aw σ w F a) (ho:aw[id]?=some (.arr e s rows)):∃ F',Cur st (mkA n (fzA id rows l)) ((aw.set id .dead).map (fzOb id rows)) σ w F' a:=by
 have hlt:id<σ.length:=by rw [hc.sim.len];grind
 have hv:=zJ hlt;have s1:=hc.sim.drop id ho rfl hv;have m1:Mv aw σ w F (aw.set id .dead) σ w _:=.drop id ho rfl hv;obtain ⟨flat,hown,hfl,hf,A,m,c,hform⟩:=hc.sim.obj id _ _ ho hv;have H:∀ v,Rel σ w (fun b=>F b∨Bk (.arr e s rows) σ[id] b) (.ref id) v->Rel σ w (fun b=>F b∨Bk (.arr e s rows) σ[id] b) (.sl rows) v:=fun v hr=>by
  cases hr with
  | ref _ A' m' c' h' =>
   have e1:σ[id]=.slice A' m' c':=by grind
   have:=qf (F':=fun b=>F b∨Bk (.arr e s rows) σ[id] b) (fun _ h=>.inl h) hc.sim ho h' (fun b hb=>.inr (by rw [e1];exact hb));exact this
 have c1:=hc.step s1 m1;obtain ⟨s2,m2⟩:=xa (rows:=rows) s1 H;have c2:=c1.step s2 m2;refine ⟨_,s2,⟨⟨?_,fun j x v hx hv'=>?_⟩,c2.fr.2⟩,c2.mv,c2.ds⟩
 ·rw [gX];have:=c2.fr.1.1;grind [gX]
 ·rw [db] at hx;split at hx
  ·rename_i hj;cases hx;unfold fzA;rw [pE _ rfl];exact wg H (c2.fr.1.2 j _ v (by rw [db,if_pos hj]) hv')
  ·cases hx
end
theorem T.fz {c:Code} {Q:Exit->List AV->List Ob->Prop} {l':List (Nat × AV)} (id:Nat) {e s:Nat} {rows:List (List AV)} (ho:aw[id]?=some (.arr e s rows)) (hl:fzA id rows l=l') (ha:(aw.set id .dead).map (fzOb id rows)=aw') (h:T P N c Q (mkA n l') aw'):T P N c Q (mkA n l) aw :=
 ⟨fun st h1 h2 σ w F a hc=>by subst hl ha;obtain ⟨F',hc'⟩:=kz hc ho;exact h.out st h1 h2 σ w F' a hc'⟩
theorem RS.fz {ops:Array Oper} {os:List Oper} {K:List AV->List Ob->Prop} {l':List (Nat × AV)} (id:Nat) {e s:Nat} {rows:List (List AV)} (ho:aw[id]?=some (.arr e s rows)) (hl:fzA id rows l=l') (ha:(aw.set id .dead).map (fzOb id rows)=aw') (h:RS P N ops os K (mkA n l') aw'):RS P N ops os K (mkA n l) aw :=
 ⟨fun st h1 h2 σ w F a hc=>by subst hl ha;obtain ⟨F',hc'⟩:=kz hc ho;exact h.out st h1 h2 σ w F' a hc'⟩
theorem RA.fz {ops:Array Oper} {k:Nat} {li:Array Bool} {K:List AV->List Ob->Prop} {l':List (Nat × AV)} (id:Nat) {e s:Nat} {rows:List (List AV)} (ho:aw[id]?=some (.arr e s rows)) (hl:fzA id rows l=l') (ha:(aw.set id .dead).map (fzOb id rows)=aw') (h:RA P N ops k li K (mkA n l') aw'):RA P N ops k li K (mkA n l) aw :=
 ⟨fun st h1 h2 σ w F a hc=>by subst hl ha;obtain ⟨F',hc'⟩:=kz hc ho;exact h.out st h1 h2 σ w F' a hc'⟩
theorem RO.fz {ops:Array Oper} {i:Nat} {K:List AV->List Ob->Prop} {l':List (Nat × AV)} (id:Nat) {e s:Nat} {rows:List (List AV)} (ho:aw[id]?=some (.arr e s rows)) (hl:fzA id rows l=l') (ha:(aw.set id .dead).map (fzOb id rows)=aw') (h:RO P N ops i K (mkA n l') aw'):RO P N ops i K (mkA n l) aw :=
 ⟨fun st h1 h2 σ w F a hc=>by subst hl ha;obtain ⟨F',hc'⟩:=kz hc ho;exact h.out st h1 h2 σ w F' a hc'⟩
theorem vH {M:Nat} {Q:AV->List Ob->Prop} {vs:List AV} {v:AV} {aw1:List Ob} (r:AV) (ρ:List Nat) (hr:dh aw (bl vs)=(v,aw1)) (h1:ρ.Nodup) (h2:∀ k,k<M->ρ[k]?=some k) (hren:Ren ρ r v) (hw:ba ρ aw1 ρ aw') (hQ:Q r aw'):Ret M Q aw vs :=
 ⟨[],true,r,aw',by simp only [nilify,if_true];rw [hr];exact ⟨ρ,h1,h2,hren,hw⟩,hQ⟩
end
end
def kix {κ:Type} [DecidableEq κ] (k:κ):List κ->Option Nat
 | []=>none
 | k'::r=>if k=k' then some 0 else (kix k r).map (· + 1)
def mget {κ ν:Type} [DecidableEq κ] (k:κ):List (κ × ν)->Option ν
 | []=>none
 | p::r=>if k=p.1 then some p.2 else mget k r
def mset {κ ν:Type} [DecidableEq κ] (k:κ) (v:ν):List (κ × ν)->List (κ × ν)
 | []=>[(k,v)]
 | p::r=>if k=p.1 then (k,v)::r else p::mset k v r
def cpy {α:Type} (xs:List α) (lo n:Nat) (ys:List α):List α:=xs.take lo++ys.take n++xs.drop (lo+min n ys.length)
def joinB (xs:List (List UInt8)) (sep:List UInt8):Option (List UInt8):=if xs.length<=1099511627776/\(Lib.join xs sep).length<=140737488355328 then some (Lib.join xs sep) else none
def vwok (len:Nat) (i j:Int):Option Unit:=if 0<=i/\i<=j/\j<=len then some () else none
section
open Go.RowKit Go.Lib
section
variable {P:Program} {N n:Nat} {aw aw':List Ob} {l:List (Nat × AV)}
theorem OP.of_ok {o:Oper} {fr:List AV} {K:AV->List Ob->Prop} (h:∀ σ w F a,ARel σ w F fr a->Sim aw σ w F->OpOk P aw σ w F (execOp a.eval o) K):OP P N o fr aw K :=
 ⟨fun st h1 h2 σ w F a hc Kc Q hk=>by
  obtain ⟨v,n,w',aw',σ',F',r,hrun,hn,hs,hm,hr,hK⟩:=h σ w F a hc.fr hc.sim;unfold Oper.wp;rw [hrun];rcases hn with rfl | ⟨rfl,rfl⟩
  ·exact hk r aw' σ' w' F' v hK (hc.step hs hm) hr
  ·exact hk r aw' σ' w' F' undef hK (hc.step hs hm) hr⟩
end
end
section
open Go.RowKit
theorem ko {κ:Type} [DecidableEq κ] {k:κ}:∀ {ks:List κ} {i:Nat},kix k ks=some i->ks[i]?=some k
 | [],i,h=>by cases h
 | k'::r,i,h=>by
  unfold kix at h;split at h
  ·grind
  ·rw [zQ] at h;obtain ⟨j,hj,rfl⟩:=h;simpa using ko hj
theorem lz {κ ν:Type} [DecidableEq κ] {k:κ}:∀ (xs:List (κ × ν)),mget k xs=(kix k (xs.map (·.1))).bind fun i=>(xs.map (·.2))[i]?
 | []=>rfl
 | p::r=>by
  simp only [mget,Ac,kix];split
  ·rfl
  ·rw [lz r];cases kix k (r.map (·.1))<;>simp
theorem ov {κ ν:Type} [DecidableEq κ] {k:κ} {v:ν}:∀ {xs:List (κ × ν)} {i:Nat},kix k (xs.map (·.1))=some i->(mset k v xs).map (·.1)=xs.map (·.1)/\(mset k v xs).map (·.2)=(xs.map (·.2)).set i v
 | [],i,h=>by cases h
 | p::r,i,h=>by
  simp only [Ac,kix] at h;simp only [mset];split at h
  ·grind
  ·rename_i e;rw [if_neg e];rw [zQ] at h;obtain ⟨j,hj,rfl⟩:=h;obtain ⟨h1,h2⟩:=ov (v:=v) hj;simp [h1,h2]
theorem n8 {κ ν:Type} [DecidableEq κ] {k:κ} {v:ν}:∀ {xs:List (κ × ν)},kix k (xs.map (·.1))=none->mset k v xs=xs++[(k,v)]
 | [],h=>rfl
 | p::r,h=>by
  simp only [Ac,kix] at h;simp only [mset];split at h
  ·cases h
  ·rename_i e;rw [if_neg e];rw [Option.map_eq_none_iff] at h;rw [n8 h];rfl
structure KeyT (P:Program) (kt:TypeId) {κ:Type} [DecidableEq κ] (ek:κ->AV):Prop where
 out:∃ d,P.underlying kt=some d/\(∀ (b:Bool) (k:κ) σ w F v,Rel σ w F (ek k) v->∀ w',(Instr.checkKey b 10000 kt v).run P w'=.ok () w') /\
  (∀ (k k':κ) σ w F v v',Rel σ w F (ek k) v->Rel σ w F (ek k') v'->Instr.sameNow d v v'=some (decide (k=k'))/\(k=k'->Instr.sameBits 10000 v' v=true/\v'=v))
theorem wG {P:Program} {kt:TypeId} {q k:IntKind} (hu:P.underlying kt=some (.int q)) (b:Bool) (m:Nat) (x:Int) (w:World):(Instr.checkKey b (m+1) kt (.int k x)).run P w=.ok () w:=by simp_all [Instr.checkKey,run_underlying]
theorem vU {P:Program} {kt:TypeId} (hu:P.underlying kt=some .string) (b:Bool) (m:Nat) (x:ByteArray) (w:World):(Instr.checkKey b (m+1) kt (.string x)).run P w=.ok () w:=by simp_all [Instr.checkKey,run_underlying]
theorem oh (x y:List UInt8):(ByteArray.mk x.toArray==ByteArray.mk y.toArray)=decide (x=y):=by show (x.toArray==y.toArray)=decide (x=y);grind
theorem uW (m:Nat) (k:IntKind) (a:Int):Instr.sameBits m (.int k a) (.int k a)=true:=by simp [Instr.sameBits]
theorem vn (m:Nat) (a:List UInt8):Instr.sameBits m (.string ⟨a.toArray⟩) (.string ⟨a.toArray⟩)=true:=by simp [Instr.sameBits,oh]
theorem KeyT.int {P:Program} {kt:TypeId} {q:IntKind} (hu:P.underlying kt=some (.int q)):KeyT P kt (fun n:Int=>.int .i64 n):=by
 refine ⟨_,hu,fun b k σ w F v h w'=>?_,fun k k' σ w F v v' h h'=>?_⟩
 ·cases h;grind [wG]
 ·cases h;cases h';simp_all [Instr.sameNow,Bool.beq_eq_decide_eq,uW]
theorem KeyT.str {P:Program} {kt:TypeId} (hu:P.underlying kt=some .string):KeyT P kt (fun s:List UInt8=>.str s):=by
 refine ⟨_,hu,fun b k σ w F v h w'=>?_,fun k k' σ w F v v' h h'=>?_⟩
 ·cases h;grind [vU]
 ·cases h;cases h';grind [Instr.sameNow,oh,vn]
section
variable {P:Program} {N n:Nat} {aw aw':List Ob} {l:List (Nat × AV)} {σ:List Value} {w:World} {F:Nat→Prop}
def wput (w:World) (r:Nat) (o:Obj):World:={ w with heap:=w.heap.setIfInBounds r o }
theorem ug {w:World} {r:Nat} {o:Obj} (h:r<w.heap.size):(wput w r o).heap[r]?=some o:=by simp [wput,h]
theorem tv {w:World} {r k:Nat} {o:Obj} (h:k≠r):(wput w r o).heap[k]?=w.heap[k]?:=by simp_all [wput,Ne.symm]
theorem nV {w:World} {r:Nat} {o:Obj}:(wput w r o).heap.size=w.heap.size:=by simp [wput]
theorem iB {w:World} {r:Nat} {es:Array MapEntry} {clock:Nat} (hb:w.heap[r]?=some (.map es clock)):(getObj r).run P w=.ok (.map es clock) w:=by grind [getObj,Sem.run]
theorem ub {w:World} {r:Nat} {es:Array MapEntry} {clock:Nat} (o:Obj) (hb:w.heap[r]?=some (.map es clock)):(setObj r o).run P w=.ok () (wput w r o):=by grind [setObj,Sem.run,wput]
theorem nA {κ:Type} [DecidableEq κ] {d:TypeDesc} {k:κ} {v:Value}:∀ (es:List MapEntry) (ks:List κ) (i0:Nat),es.length=ks.length ->
  (∀ (j:Nat) k' e,ks[j]?=some k'->es[j]?=some e->Instr.sameNow d v e.key=some (decide (k=k'))) ->
  Instr.findNow d v es i0=some ((kix k ks).bind fun i=>(es[i]?).map fun e=>(i0+i,e.val))
 | [],[],i0,_,_=>rfl
 | e::es,k'::ks,i0,hl,h=>by
  have h0:=h 0 k' e rfl rfl;simp only [Instr.findNow,h0,kix];by_cases hk:k=k'
  ·simp [hk]
  ·simp only [hk,decide_false,if_false];rw [nA es ks (i0+1) (by grind) (fun j k2 e2 h1 h2=>h (j+1) k2 e2 (by grind) (by grind))];cases kix k ks with
   | none=>rfl
   | some i=>grind
 | [],_::_,_,hl,_=>by simp at hl
 | _::_,[],_,hl,_=>by simp at hl
theorem nE {κ:Type} [DecidableEq κ] {ek:κ->AV} {kt:TypeId} (hK:KeyT P kt ek) {k:κ} {ks:List κ} {es:Array MapEntry} {v:Value} (hr:RelL σ w F (ks.map ek) (es.toList.map (·.key))) (hv:Rel σ w F (ek k) v) (w':World) :
  (Instr.findKey kt v es.toList).run P w'=.ok ((kix k ks).bind fun i=>(es[i]?).map fun e=>(i,e.val)) w':=by
 obtain ⟨d,hu,hc,hs⟩:=hK.out
 have hl:es.toList.length=ks.length:=by simpa using hr.1
 have h:=nA (d:=d) (k:=k) (v:=v) es.toList ks 0 hl (fun j k' e h1 h2=>by refine (hs k k' σ w F v e.key hv (hr.2 j _ _ (by grind) (by grind))).1)
 simp_all [Instr.findKey,run_underlying]
theorem qD {vs:List AV} {es:Array MapEntry} (hv:RelL σ w F vs (es.toList.map (·.val))) {i:Nat} {a:AV} (h:vs[i]?=some a):∃ e,es[i]?=some e/\Rel σ w F a e.val:=by obtain ⟨u,hu,hr⟩:=hv.get h;grind
theorem lQ {id:Nat} {ks vs:List AV} (hs:Sim aw σ w F) (ho:aw[id]?=some (.mp ks vs)) {r:Option Nat} (hσ:σ[id]?=some (.map r)) :
  ∃ g es clock,r=some g/\w.heap[g]?=some (.map es clock)/\RelL σ w F ks (es.toList.map (·.key))/\RelL σ w F vs (es.toList.map (·.val))/\¬ F g/\Born es clock:=by
 obtain ⟨g,es,clock,e1,h1,h2,h3,h4,h5⟩:=hs.obj id _ _ ho hσ
 cases e1
 exact ⟨g,es,clock,rfl,h1,h2,h3,h4,h5⟩
variable {d:Option Tmp} {ty:TypeId} {ps:String} {af:Array Edge} {g:Option (Nat × Bool)} {K2:AV→List Ob→Prop}
theorem jV {t:TypeId} {k:Nat} (hk:aw.length=k) (ha:aw++[.mp [] []]=aw') (h:K2 (.mpr k) aw'):OP P N ⟨d,.makeMap t none,ty,ps,af,g⟩ (mkA n l) aw K2 :=
 OP.of_ok (fun σ w F a har hs=>by
  subst hk ha;have hk:∀ b,b<w.heap.size->(w.alloc (.map #[] 0)).heap[b]?=w.heap[b]?:=fun b hb=>Below.heap_alloc w _ b hb
  have hn:∀ b,Bk (.mp [] []) (.map (some w.heap.size)) b->w.heap.size<=b:=fun b hb=>by grind [Bk,blk]
  refine ⟨.map (some w.heap.size),_,w.alloc (.map #[] 0),_,σ++[.map (some w.heap.size)],F,_,?_,.inl rfl,hs.push (.mp [] []) _ hk (by simp) ⟨w.heap.size,#[],0,rfl,heap_alloc_new w _,.nil,.nil,fun hF=>?_,fun _ h=>by simp at h,by simp⟩ hn,
   .push hs (.mp [] []) _ rfl rfl drO hk (by simp) hn,.mpr _ (some w.heap.size) (by rw [<- hs.len];simp),h⟩
  ·rfl
  ·have:=hs.lt _ hF;omega)
def pickA (vs:List AV) (az:AV):Option Nat->Option AV
 | some i=>vs[i]?
 | none=>some az
theorem la {κ:Type} [DecidableEq κ] {ek:κ->AV} {ks:List κ} {vs:List AV} {t kt et:TypeId} {x y:Operand} {id:Nat} {k:κ} {b:Bool} {z:Value} {az a:AV}
  (hm:P.underlying t=some (.map kt et)) (hK:KeyT P kt ek) (hz:(P.info? et).bind (·.zero)=some z) (hza:∀ σ w F,Rel σ w F az z) (hx:evA n l x=.mpr id) (hy:evA n l y=ek k) (ho:aw[id]?=some (.mp (ks.map ek) vs))
  (hr:pickA vs az (kix k ks)=some a)
  (h:K2 (if b=true then .tup [a,.bool (kix k ks).isSome] else a) aw):OP P N ⟨d,.lookup t x y b,ty,ps,af,g⟩ (mkA n l) aw K2 :=
 OP.of_ok (fun σ w F ac har hs=>by
  have ex:=har.ev x;have ey:=har.ev y;rw [am,hx] at ex;rw [am,hy] at ey;generalize hvx:ac.eval x=vx at ex;generalize hvy:ac.eval y=vy at ey;cases ex with
  | mpr _ r hσ =>
   obtain ⟨g0,es,clock,rfl,hg,hks,hvs,hF,hbo⟩:=lQ hs ho hσ;obtain ⟨dd,hu,hc,_⟩:=hK.out;have hf:=nE hK hks ey w;have hzr:(zeroValue et).run P w=.ok z w:=by grind [Option.bind_eq_some_iff,jy]
   have hchk:=hc es.isEmpty k σ w F vy ey w;cases hkx:kix k ks with
   | none =>
    rw [hkx] at hf hr h;change some az=some a at hr;cases hr;have hrun:(Instr.lookup t (.map (some g0)) vy b).run P w=.ok (if b=true then .tuple #[z,.bool false] else z) w:=by simp only [Instr.lookup,Sem.run_bind,run_underlying hm,Result.andThen_ok,iB hg,Sem.run_pure,hchk,hf,Option.bind_none,hzr]
    refine ⟨if b=true then .tuple #[z,.bool false] else z,_,w,aw,σ,F,_,?_,.inl rfl,hs,.refl ..,?_,h⟩
    ·grind [execOp,Sem.run_bind,Result.andThen_ok,Sem.run_pure]
    ·cases b with
     | true=>exact .tup [az,.bool false] [z,.bool false] rfl (fun j c u hc hu=>by
      match j with
      | 0=>grind
      | 1=>simp at hc hu;subst hc hu;exact .bool _
      | j+2=>simp at hc)
     | false=>grind
   | some i =>
    rw [hkx] at hf hr h;change vs[i]?=some a at hr;obtain ⟨e,he,hrel⟩:=qD hvs hr;have hf':(Instr.findKey kt vy es.toList).run P w=.ok (some (i,e.val)) w:=by grind
    have hrun:(Instr.lookup t (.map (some g0)) vy b).run P w=.ok (if b=true then .tuple #[e.val,.bool true] else e.val) w:=by simp only [Instr.lookup,Sem.run_bind,run_underlying hm,Result.andThen_ok,iB hg,Sem.run_pure,hchk,hf']
    refine ⟨if b=true then .tuple #[e.val,.bool true] else e.val,_,w,aw,σ,F,_,?_,.inl rfl,hs,.refl ..,?_,h⟩
    ·grind [execOp,Sem.run_bind,Result.andThen_ok,Sem.run_pure]
    ·cases b with
     | true=>exact .tup [a,.bool true] [e.val,.bool true] rfl (fun j c u hc hu=>by
      match j with
      | 0=>grind
      | 1=>simp at hc hu;subst hc hu;exact .bool _
      | j+2=>simp at hc)
     | false=>exact hrel)
theorem vI {es:Array MapEntry} {ks:List AV} {e:MapEntry} {a:AV} (h:RelL σ w F ks (es.toList.map (·.key))) (hr:Rel σ w F a e.key):RelL σ w F (ks++[a]) ((es.push e).toList.map (·.key)):=by
 have:(es.push e).toList.map (·.key)=es.toList.map (·.key)++[e.key]:=by simp
 rw [this];exact h.append (.cons hr .nil)
theorem vE {es:Array MapEntry} {ks:List AV} {e:MapEntry} {a:AV} (h:RelL σ w F ks (es.toList.map (·.val))) (hr:Rel σ w F a e.val):RelL σ w F (ks++[a]) ((es.push e).toList.map (·.val)):=by
 have:(es.push e).toList.map (·.val)=es.toList.map (·.val)++[e.val]:=by simp
 rw [this];exact h.append (.cons hr .nil)
theorem Born.push {es:Array MapEntry} {c:Nat} (h:Born es c) (k v:Value):Born (es.push { key:=k,val:=v,born:=c }) (c+1):=by
 refine ⟨fun e he=>?_,?_⟩
 ·simp only [Array.toList_push,Ah,List.mem_singleton] at he;rcases he with he | rfl
  ·have:=h.1 e he;omega
  ·exact Nat.lt_succ_self _
 ·simp only [Array.toList_push,AM,Ac,List.map_nil];refine List.nodup_append.2 ⟨h.2,by simp,fun a ha b hb=>?_⟩;obtain ⟨e,he,rfl⟩:=Am.1 ha;obtain rfl:=List.mem_singleton.1 hb;have:=h.1 e he;omega
theorem Born.modify {es:Array MapEntry} {c i:Nat} (h:Born es c) (k v:Value):Born (es.modify i fun e=>{ e with key:=k,val:=v }) c:=by
 have e1:(es.modify i fun e=>{ e with key:=k,val:=v }).toList.map (·.born)=es.toList.map (·.born):=by
  apply Ap;intro j;simp only [zT,AY,AD];split
  ·cases es[j]?<;>rfl
  ·rfl
 refine ⟨fun e he=>?_,by rw [e1];exact h.2⟩;have:e.born∈(es.modify i fun e=>{ e with key:=k,val:=v }).toList.map (·.born):=Am.2 ⟨e,he,rfl⟩;rw [e1] at this;obtain ⟨e0,he0,hb⟩:=Am.1 this;have:=h.1 e0 he0;omega
theorem oU {id g0 clock c2:Nat} {es es':Array MapEntry} {ks vs ks' vs':List AV} (hs:Sim aw σ w F) (ho:aw[id]?=some (.mp ks vs)) (hσ:σ[id]?=some (.map (some g0))) (hg:w.heap[g0]?=some (.map es clock)) (hF:¬ F g0)
  (hk:RelL σ w F ks' (es'.toList.map (·.key))) (hv:RelL σ w F vs' (es'.toList.map (·.val))) (hbo:Born es' c2) :
  Sim (aw.set id (.mp ks' vs')) σ (wput w g0 (.map es' c2)) F/\Mv aw σ w F (aw.set id (.mp ks' vs')) σ (wput w g0 (.map es' c2)) F:=by
 have hlt:g0<w.heap.size:=(zW.1 hg).1
 have hoth:∀ b,b≠g0->(wput w g0 (.map es' c2)).heap[b]?=w.heap[b]?:=fun b hb=>tv hb
 have hFw:∀ b,F b->(wput w g0 (.map es' c2)).heap[b]?=w.heap[b]?:=fun b hb=>hoth b (fun e=>hF (e▸hb))
 refine ⟨hs.write (b0:=g0) id ho rfl hσ rfl hoth nV (.mp ks' vs') ⟨g0,es',c2,rfl,ug hlt,hk.mono (fun _ _ e=>e) (fun _ e=>e) hFw,hv.mono (fun _ _ e=>e) (fun _ e=>e) hFw,hF,hbo⟩ (fun _ h=>h),
  Mv.write (w:=w) (w':=wput w g0 (.map es' c2)) (F:=F) (b0:=g0) id ho rfl hσ rfl rfl rfl drO hoth nV (.mp ks' vs') (fun _ h=>h)⟩
theorem tg {es:Array MapEntry} {i:Nat} {e:MapEntry} (he:es[i]?=some e) (k v:Value) (hk:e.key=k):(es.modify i fun e=>{ e with key:=k,val:=v }).toList.map (·.key)=es.toList.map (·.key):=by apply Ap;grind
theorem th {es:Array MapEntry} {i:Nat} {e:MapEntry} (he:es[i]?=some e) (k v:Value):(es.modify i fun e=>{ e with key:=k,val:=v }).toList.map (·.val)=(es.toList.map (·.val)).set i v:=by apply Ap;grind
theorem sd {κ:Type} [DecidableEq κ] {ek:κ->AV} {ks:List κ} {vs:List AV} {t kt et:TypeId} {id:Nat} {k:κ} {a:AV} {r:Option Nat} {vy vz:Value}
  (hm:P.underlying t=some (.map kt et)) (hK:KeyT P kt ek) (hs:Sim aw σ w F) (ho:aw[id]?=some (.mp (ks.map ek) vs)) (hσ:σ[id]?=some (.map r)) (hy:Rel σ w F (ek k) vy) (hz:Rel σ w F a vz) :
  ∃ w',(Instr.mapUpdate t (.map r) vy vz).run P w=.ok () w' /\
   (match kix k ks with
    | some i=>Sim (aw.set id (.mp (ks.map ek) (vs.set i a))) σ w' F/\Mv aw σ w F (aw.set id (.mp (ks.map ek) (vs.set i a))) σ w' F
    | none=>Sim (aw.set id (.mp ((ks++[k]).map ek) (vs++[a]))) σ w' F/\Mv aw σ w F (aw.set id (.mp ((ks++[k]).map ek) (vs++[a]))) σ w' F):=by
 obtain ⟨g0,es,clock,rfl,hg,hks,hvs,hF,hbo⟩:=lQ hs ho hσ
 obtain ⟨dd,hu,hc,hsame⟩:=hK.out
 have hf:=nE hK hks hy w
 have hchk:=hc false k σ w F vy hy w
 have hput:∀ o:Obj,(setObj g0 o).run P w=.ok () (wput w g0 o):=fun o=>ub o hg
 cases hkx:kix k ks with
 | none =>
  rw [hkx] at hf
  obtain ⟨h1,h2⟩:=oU (c2:=clock+1) hs ho hσ hg hF (vI (e:={ key:=vy,val:=vz,born:=clock }) hks hy) (vE (e:={ key:=vy,val:=vz,born:=clock }) hvs hz) (hbo.push vy vz)
  refine ⟨wput w g0 (.map (es.push { key:=vy,val:=vz,born:=clock }) (clock+1)),?_,by grind,by grind⟩
  simp only [Instr.mapUpdate,Sem.run_bind,run_underlying hm,Result.andThen_ok,iB hg,hchk,hf,Option.bind_none,hput]
 | some i =>
  rw [hkx] at hf
  have hik:=ko hkx
  have hiv:i<vs.length:=by have e1:=hks.1;have e2:=hvs.1;grind
  obtain ⟨e,he,_⟩:=qD hvs (zJ hiv)
  have hrk:Rel σ w F (ek k) e.key:=hks.2 i _ _ (by grind) (by grind)
  obtain ⟨hb,hkeq⟩:=(hsame k k σ w F vy e.key hy hrk).2 rfl
  have hf':(Instr.findKey kt vy es.toList).run P w=.ok (some (i,e.val)) w:=by grind
  have hstay:(Instr.keyThatStays e.key vy).run P w=.ok vy w:=by simp [Instr.keyThatStays,hb]
  obtain ⟨h1,h2⟩:=oU (es':=es.modify i fun e=>{ e with key:=vy,val:=vz }) (c2:=clock) (ks':=ks.map ek) (vs':=vs.set i a) hs ho hσ hg hF (by rw [tg he vy vz hkeq];exact hks) (by rw [th he vy vz];exact hvs.set i hz) (hbo.modify vy vz)
  refine ⟨wput w g0 (.map (es.modify i fun e=>{ e with key:=vy,val:=vz }) clock),?_,h1,h2⟩
  simp only [Instr.mapUpdate,Sem.run_bind,run_underlying hm,Result.andThen_ok,iB hg,hchk,hf',he,AZ,AW,hstay,hput]
theorem dZ {κ:Type} [DecidableEq κ] {ek:κ->AV} {ks:List κ} {vs:List AV} {t kt et:TypeId} {op:Op} {x y z:Operand} {id:Nat} {k:κ} {a:AV} {o2:Ob}
  (hop:op=.mapUpdate t x y z∨op=.insert t x y z) (hm:P.underlying t=some (.map kt et)) (hK:KeyT P kt ek) (hx:evA n l x=.mpr id) (hy:evA n l y=ek k) (hz:evA n l z=a) (ho:aw[id]?=some (.mp (ks.map ek) vs))
  (hr:(match kix k ks with | some i=>Ob.mp (ks.map ek) (vs.set i a) | none=>.mp ((ks++[k]).map ek) (vs++[a]))=o2) (ha:aw.set id o2=aw') (h:K2 .any aw'):OP P N ⟨d,op,ty,ps,af,g⟩ (mkA n l) aw K2 :=
 OP.of_ok (fun σ w F ac har hs=>by
  subst ha;have ex:=har.ev x;have ey:=har.ev y;have ez:=har.ev z;rw [am,hx] at ex;rw [am,hy] at ey;rw [am,hz] at ez;generalize hvx:ac.eval x=vx at ex;cases ex with
  | mpr _ r hσ =>
   obtain ⟨w',hrun,hm'⟩:=sd hm hK hs ho hσ ey ez;have hexec:(execOp ac.eval ⟨d,op,ty,ps,af,g⟩).run P w=.ok .skip w':=by grind [execOp,Sem.run_bind,Result.andThen_ok,Sem.run_pure]
   cases hkx:kix k ks with
   | none =>
    rw [hkx] at hr hm';subst hr;exact ⟨undef,_,w',_,σ,F,.any,hexec,.inr ⟨rfl,rfl⟩,hm'.1,hm'.2,.any _,h⟩
   | some i =>
    rw [hkx] at hr hm';subst hr;exact ⟨undef,_,w',_,σ,F,.any,hexec,.inr ⟨rfl,rfl⟩,hm'.1,hm'.2,.any _,h⟩)
variable {κ ν:Type} [DecidableEq κ] {ek:κ→AV} {ev:ν→AV} {xs:List (κ × ν)}
theorem ph {t kt et:TypeId} {x y:Operand} {id:Nat} {k:κ} {z:Value} {z0:ν} (hm:P.underlying t=some (.map kt et)) (hK:KeyT P kt ek) (hz:(P.info? et).bind (·.zero)=some z) (hza:∀ σ w F,Rel σ w F (ev z0) z)
  (hx:evA n l x=.mpr id) (hy:evA n l y=ek k) (ho:aw[id]?=some (.mp ((xs.map (·.1)).map ek) ((xs.map (·.2)).map ev))) (h:K2 (ev ((mget k xs).getD z0)) aw):OP P N ⟨d,.lookup t x y false,ty,ps,af,g⟩ (mkA n l) aw K2:=by
 refine la (az:=ev z0) (a:=ev ((mget k xs).getD z0)) hm hK hz hza hx hy ho ?_ h
 rw [lz]
 cases hk:kix k (xs.map (·.1)) with
 | none=>rfl
 | some i =>
  have hi:=(zK.1 (ko hk)).1
  grind [pickA]
theorem nw {t kt et:TypeId} {x y:Operand} {id:Nat} {k:κ} {z:Value} {z0:ν} (hm:P.underlying t=some (.map kt et)) (hK:KeyT P kt ek) (hz:(P.info? et).bind (·.zero)=some z) (hza:∀ σ w F,Rel σ w F (ev z0) z)
  (hx:evA n l x=.mpr id) (hy:evA n l y=ek k) (ho:aw[id]?=some (.mp ((xs.map (·.1)).map ek) ((xs.map (·.2)).map ev))) (h:K2 (.tup [ev ((mget k xs).getD z0),.bool (mget k xs).isSome]) aw):OP P N ⟨d,.lookup t x y true,ty,ps,af,g⟩ (mkA n l) aw K2:=by
 have key:pickA ((xs.map (·.2)).map ev) (ev z0) (kix k (xs.map (·.1)))=some (ev ((mget k xs).getD z0))/\(kix k (xs.map (·.1))).isSome=(mget k xs).isSome:=by
  rw [lz];cases hk:kix k (xs.map (·.1)) with
  | none=>exact ⟨rfl,rfl⟩
  | some i =>
   have hi:=(zK.1 (ko hk)).1;grind [pickA]
 exact la (az:=ev z0) (a:=ev ((mget k xs).getD z0)) hm hK hz hza hx hy ho key.1 (by grind)
theorem jY {t kt et:TypeId} {op:Op} {x y z:Operand} {id:Nat} {k:κ} {a:ν} (hop:op=.mapUpdate t x y z∨op=.insert t x y z) (hm:P.underlying t=some (.map kt et)) (hK:KeyT P kt ek)
  (hx:evA n l x=.mpr id) (hy:evA n l y=ek k) (hz:evA n l z=ev a) (ho:aw[id]?=some (.mp ((xs.map (·.1)).map ek) ((xs.map (·.2)).map ev)))
  (ha:aw.set id (.mp (((mset k a xs).map (·.1)).map ek) (((mset k a xs).map (·.2)).map ev))=aw') (h:K2 .any aw'):OP P N ⟨d,op,ty,ps,af,g⟩ (mkA n l) aw K2:=by
 refine dZ hop hm hK hx hy hz ho ?_ ha h
 cases hk:kix k (xs.map (·.1)) with
 | none=>grind [n8]
 | some i =>
  simp_all [ov]
theorem ux {x:Operand} {t kt et:TypeId} {id:Nat} {ks vs:List AV} {m:Nat} (hm:P.underlying t=some (.map kt et)) (hx:evA n l x=.mpr id) (ho:aw[id]?=some (.mp ks vs)) (hl:ks.length=m) (h:K2 (.int .i64 m) aw) :
  OP P N ⟨d,.call ⟨.builtin .len,#[x],#[t]⟩,ty,ps,af,g⟩ (mkA n l) aw K2 :=
 OP.of_ok (fun σ w F ac har hs=>by
  have ex:=har.ev x;rw [am,hx] at ex;generalize hvx:ac.eval x=vx at ex;cases ex with
  | mpr _ r hσ =>
   obtain ⟨g0,es,clock,rfl,hg,hks,hvs,hF,hbo⟩:=lQ hs ho hσ;have e1:es.size=m:=by have:=hks.1;grind
   refine ⟨.int .i64 m,_,w,aw,σ,F,_,?_,.inl rfl,hs,.refl ..,.int _ _,h⟩;simp [execOp,resolve,invoke,builtin,Sem.run_bind,hvx,Builtin.len_,run_underlying hm,iB hg,goInt,e1])
end
section
variable {P:Program} {aw aw':List Ob} {κ ν:Type} {ek:κ→AV} {ev:ν→AV} {xs:List (κ × ν)}
theorem lj {ρ:List Nat}:∀ {as₀:List AV},(∀ a,a∈as₀->Pure a)->bd ρ as₀ as₀
 | [],_=>trivial
 | a::as₀,h=>⟨dr (h a (.head _)),lj fun b hb=>h b (.tail _ hb)⟩
theorem rn_np {ρ:List Nat} {k id:Nat} (h:ρ[k]?=some id):Ren ρ (.np k) (.np id):=fun σ w F v hr σ' hσ=>by
 cases hr with
 | np0 _=>exact .np0 k
 | npS _ g hg=>exact .npS k g (by grind)
theorem rm_np {m:List (Nat × Nat)} {k id:Nat} (h:(k,id)∈m):RenM m (.np k) (.np id):=fun σ w F v hr σ' hσ=>by
 cases hr with
 | np0 _=>exact .np0 k
 | npS _ g hg=>exact .npS k g (by grind)
theorem qj {ρ:List Nat} {k id:Nat} (h:ρ[k]?=some id):Ren ρ (.mpr k) (.mpr id):=fun σ w F v hr σ' hσ=>by
 cases hr with
 | mpr _ r hg=>exact .mpr k r (by grind)
theorem qM {m:List (Nat × Nat)} {k id:Nat} (h:(k,id)∈m):RenM m (.mpr k) (.mpr id):=fun σ w F v hr σ' hσ=>by
 cases hr with
 | mpr _ r hg=>exact .mpr k r (by grind)
theorem lh {m:List (Nat × Nat)}:∀ {as₀:List AV},(∀ a,a∈as₀->Pure a)->cU m as₀ as₀
 | [],_=>trivial
 | a::as₀,h=>⟨ak (h a (.head _)),lh fun b hb=>h b (.tail _ hb)⟩
end
abbrev kI (n:Int):AV:=.int .i64 n
abbrev kS (s:List UInt8):AV:=.str s
abbrev kB (b:Bool):AV:=.bool b
abbrev kU (_:Unit):AV:=.agg []
theorem ee {σ:List Value} {w:World} {F:Nat->Prop} {cs:List AV} {vs:List Value} (h:RelL σ w F cs vs) (h1:vs.all (·.oneCell')=true):Rel σ w F (.agg cs) (.agg vs.toArray) :=
 .agg cs vs h.1 (fun u hu=>Ak.1 h1 u hu) h.2
theorem vS {κ:Type} [DecidableEq κ] {k:κ}:kix k ([]:List κ)=none:=rfl
theorem fd {κ:Type} [DecidableEq κ] {k k':κ} {r:List κ} (h:k=k'):kix k (k'::r)=some 0:=if_pos h
theorem aS {κ:Type} [DecidableEq κ] {k k':κ} {r:List κ} {o:Option Nat} (h:k≠k') (h2:kix k r=o):kix k (k'::r)=o.map (· + 1):=by rw [<- h2];exact if_neg h
section
variable {P:Program} {N n:Nat} {aw aw':List Ob} {l:List (Nat × AV)} {d:Option Tmp} {ty:TypeId} {ps:String} {af:Array Edge} {g:Option (Nat × Bool)} {K2:AV→List Ob→Prop}
theorem dX {κ:Type} [DecidableEq κ] {ek:κ->AV} {ks:List κ} {vs:List AV} {t kt et:TypeId} {x y:Operand} {id:Nat} {k:κ} {z:Value} {az a:AV} {r:Option Nat}
  (hm:P.underlying t=some (.map kt et)) (hK:KeyT P kt ek) (hz:(P.info? et).bind (·.zero)=some z) (hza:∀ σ w F,Rel σ w F az z) (hx:evA n l x=.mpr id) (hy:evA n l y=ek k) (ho:aw[id]?=some (.mp (ks.map ek) vs))
  (hk:kix k ks=r) (hr:pickA vs az r=some a) (h:K2 (.tup [a,.bool r.isSome]) aw):OP P N ⟨d,.lookup t x y true,ty,ps,af,g⟩ (mkA n l) aw K2:=by
 subst hk;exact la hm hK hz hza hx hy ho hr (by grind)
theorem oQ {κ ν:Type} {ek:κ->AV} {ev:ν->AV} {xs:List (κ × ν)} {x:Operand} {t kt et:TypeId} {id:Nat} (hm:P.underlying t=some (.map kt et)) (hx:evA n l x=.mpr id)
  (ho:aw[id]?=some (.mp ((xs.map (·.1)).map ek) ((xs.map (·.2)).map ev))) (h:K2 (.int .i64 xs.length) aw):OP P N ⟨d,.call ⟨.builtin .len,#[x],#[t]⟩,ty,ps,af,g⟩ (mkA n l) aw K2 :=
 ux hm hx ho (by simp) h
theorem T.join1 {x y1 y:Code} {Q:Exit->List AV->List Ob->Prop} {fr:List AV} {Z:Type} (F:Z->List AV) (A:Z->List Ob) (S:Z->Prop) (h:∀ z,S z->T P N y Q (F z) (A z))
 (h2:(∀ z,S z->T P N y Q (F z) (A z))->T P N (.seq x (.seq y1 y)) Q fr aw):T P N (.seq x (.seq y1 y)) Q fr aw:=h2 h
theorem T.join2 {x y1 y2 y:Code} {Q:Exit->List AV->List Ob->Prop} {fr:List AV} {Z:Type} (F:Z->List AV) (A:Z->List Ob) (S:Z->Prop) (h:∀ z,S z->T P N y Q (F z) (A z))
 (h2:(∀ z,S z->T P N y Q (F z) (A z))->T P N (.seq x (.seq y1 (.seq y2 y))) Q fr aw):T P N (.seq x (.seq y1 (.seq y2 y))) Q fr aw:=h2 h
theorem T.join3 {x y1 y2 y3 y:Code} {Q:Exit->List AV->List Ob->Prop} {fr:List AV} {Z:Type} (F:Z->List AV) (A:Z->List Ob) (S:Z->Prop) (h:∀ z,S z->T P N y Q (F z) (A z))
 (h2:(∀ z,S z->T P N y Q (F z) (A z))->T P N (.seq x (.seq y1 (.seq y2 (.seq y3 y)))) Q fr aw):T P N (.seq x (.seq y1 (.seq y2 (.seq y3 y)))) Q fr aw:=h2 h
theorem T.join4 {x y1 y2 y3 y4 y:Code} {Q:Exit->List AV->List Ob->Prop} {fr:List AV} {Z:Type} (F:Z->List AV) (A:Z->List Ob) (S:Z->Prop) (h:∀ z,S z->T P N y Q (F z) (A z))
 (h2:(∀ z,S z->T P N y Q (F z) (A z))->T P N (.seq x (.seq y1 (.seq y2 (.seq y3 (.seq y4 y))))) Q fr aw):T P N (.seq x (.seq y1 (.seq y2 (.seq y3 (.seq y4 y))))) Q fr aw:=h2 h
theorem nZ {t:TypeId} {x:Operand} {dd:TypeDesc} {a:AV} (hu:P.underlying t=some dd) (hd:(match dd with | .interface _=>false | _=>true)=true) (hx:evA n l x=a) (h:K2 (.ifc t a) aw):OP P N ⟨d,.makeInterface t x,ty,ps,af,g⟩ (mkA n l) aw K2 :=
 OP.of_ok (fun σ w F ac har hs=>by have ex:=har.ev x;rw [am,hx] at ex;refine ⟨.iface t (ac.eval x),_,w,aw,σ,F,_,?_,.inl rfl,hs,.refl ..,.ifc _ _ _ ex,h⟩;cases dd<;>simp_all [execOp,Instr.makeInterface,Sem.run_bind,run_underlying hu])
theorem rY {t:TypeId} {len:Nat} {parts:Array (Nat × Operand)} {e c k:Nat} {z:List AV} {rows:List (List AV)} {vs vs2:List AV} (hS:SliceOf P t e c) (hz:aq P e=some z) (hl:Nat.ble (len*c) 16777216=true) (hv:parts.toList.map (fun p=>evA n l p.2)=vs) (hn:bA aw vs=(vs2,aw)) (hr:f9 P c (List.replicate len z) ((parts.toList.map (·.1)).zip vs2)=some rows) (hk:aw.length=k) (ha:aw++[.arr e c rows]=aw') (h:K2 (.ref k) aw'):OP P N ⟨d,.buildSlice t len parts,ty,ps,af,g⟩ (mkA n l) aw K2 :=
 OP.of_vc (by subst hk ha;obtain ⟨z',hz1,hz2⟩:=hS.z;rw [hz] at hz1;cases hz1;show vcE P (mkA n l) aw (.buildSlice t len parts) K2;simp only [vcE,hS.u,hz,hS.c];rw [show (parts.toList.map fun p=>ev (mkA n l) p.2)=vs from by grind [am],hn,hr];exact ⟨hz2,hS.p,Ar hl,h⟩)
end
end
section
open Go.RowKit Go.Lib
section
variable {P:Program} {N n:Nat} {aw aw':List Ob} {l:List (Nat × AV)}
theorem jB {size:Nat}:∀ (rows:List (List AV)) (j:Nat),(∀ row,row∈rows->row.length=size)->(rows.take j).flatten=rows.flatten.take (j*size)
 | [],j,_=>by simp
 | r::rows,0,_=>by simp
 | r::rows,j+1,h=>by
  have hr:=h r (by simp);have e:(j+1)*size=r.length+j*size:=by grind
  rw [List.take_succ_cons,Aq,Aq,jB rows j (fun x hx=>h x (by simp [hx])),e,List.take_length_add_append]
end
end
end Go.Proofs.YtbfncjgaklimlaaGreatDoor
