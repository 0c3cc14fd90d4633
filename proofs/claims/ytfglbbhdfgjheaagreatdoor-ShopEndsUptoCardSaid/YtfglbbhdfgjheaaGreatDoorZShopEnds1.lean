/-
  Part 1 of the proof of shopEndsLaw.proved: the code computes these functions, and the law holds of them, with no condition beyond the statement's own; put together by a program of ours (wip/decl.py) out of texts of ours.
-/
import Derived.WalkKit
import Derived.WalkSpells
import Derived.Maps.AppendAt
import Derived.Laws.MakeOwn
import Derived.Laws.OwnMore
import Derived.Laws.BytesArg
import Derived.Deep.LoopGhost
import Derived.OrdersHeld
import Derived.Lib.Join
import Derived.Lib.AppendZerosOnto
import Derived.Laws.IdiomCopy
import Derived.Test.YtfglbbhdfgjheaaGreatDoorRows
set_option linter.unusedVariables false
set_option linter.unusedSimpArgs false
namespace Go.Proofs.YtfglbbhdfgjheaaGreatDoor
theorem tqz:True:=trivial
abbrev RF:=@Option.bind_some
abbrev RG:=@List.getElem?_eq_getElem
abbrev RH:=@List.getElem?_eq_some_iff
abbrev RI:=@List.mem_of_getElem?
abbrev RJ:=@Nat.le_refl
abbrev RL:=@List.drop_eq_getElem_cons
abbrev RM:=@List.mem_cons_self
abbrev RN:=@List.length_append
abbrev RP:=@List.eq_nil_of_length_eq_zero
abbrev RQ:=@List.mem_cons_of_mem
abbrev RR:=@Option.some.inj
abbrev RT:=@List.append_assoc
abbrev RU:=@Bool.false_eq_true
abbrev RV:=@List.mem_of_mem_take
abbrev RW:=@List.mem_singleton
abbrev RX:=@List.getElem?_of_mem
abbrev RY:=@List.mem_append
abbrev RZ:=@List.length_map
abbrev R0:=@Option.isSome_iff_exists
abbrev R1:=@List.getD_eq_getElem?_getD
abbrev R2:=@List.getElem?_append_left
abbrev R3:=@List.mem_map
abbrev R4:=@Nat.mul_le_mul_right
abbrev R5:=@List.getElem?_set
abbrev R6:=@List.getElem_mem
abbrev R7:=@Int.toNat_natCast
abbrev R8:=@List.length_cons
abbrev R9:=@List.getElem?_map
abbrev Sa:=@List.mem_cons
abbrev Sb:=@Nat.zero_le
abbrev Sc:=@List.all_eq_true
abbrev Sd:=@List.not_mem_nil
abbrev Se:=@List.map_cons
abbrev Sf:=@Option.map_eq_some_iff
abbrev Sg:=@List.append_nil
abbrev Sh:=@Int.toNat_of_nonneg
abbrev Si:=@List.map_congr_left
abbrev Sj:=@Int.le_refl
abbrev Sk:=@List.getElem?_append
abbrev Sl:=@List.flatMap_cons
abbrev Sm:=@List.getElem?_take
abbrev Sn:=@List.getElem?_append_right
abbrev So:=@List.take_append_drop
abbrev Sp:=@List.set_getElem_self
abbrev Sq:=@List.map_eq_nil_iff
abbrev Sr:=@List.drop_length
abbrev Ss:=@Int.natCast_zero
abbrev Su:=@Nat.eq_of_beq_eq_true
abbrev Sv:=@Int.eq_ofNat_of_zero_le
abbrev Sw:=@List.ext_getElem?
abbrev Sx:=@Nat.lt_of_lt_of_le
abbrev Sy:=@List.drop_zero
abbrev Sz:=@List.getElem?_drop
abbrev SA:=@Nat.le_trans
abbrev SB:=@List.mem_of_mem_drop
abbrev SC:=@List.map_append
abbrev SD:=@List.take_of_length_le
abbrev SE:=@List.flatten_cons
abbrev SF:=@List.getElem?_eq_none
abbrev SG:=@List.nil_append
abbrev SH:=@Nat.add_mul
abbrev SI:=@Nat.testBit_two_pow_mul_add
abbrev SJ:=@Option.map_some
abbrev SK:=@List.mem_or_eq_of_mem_set
abbrev SL:=@List.mem_filter
abbrev SM:=@List.mem_of_find?_eq_some
abbrev SN:=@Nat.le_of_ble_eq_true
abbrev SO:=@Array.getElem?_modify
abbrev SP:=@Nat.zero_add
abbrev SQ:=@List.map_map
abbrev SR:=@Bool.and_eq_true
abbrev SS:=@List.take_length
abbrev SU:=@List.filter_cons_of_neg
abbrev SV:=@Option.some.injEq
abbrev SW:=@List.length_set
abbrev SX:=@List.length_pos_iff
abbrev SY:=@Nat.add_zero
abbrev SZ:=@List.drop_of_length_le
abbrev S0:=@List.sum_cons
abbrev S2:=@List.length_take
abbrev S3:=@Nat.mod_eq_of_lt
abbrev S4:=@List.length_singleton
abbrev S5:=@List.eq_of_mem_replicate
abbrev S6:=@List.filter_cons_of_pos
abbrev S7:=@List.flatten_append
abbrev S8:=@List.nodup_cons
abbrev S9:=@List.replicate_succ
abbrev Ta:=@List.mem_replicate
abbrev Tb:=@Nat.mul_le_mul
abbrev Tc:=@Nat.sub_self
abbrev Td:=@Array.getElem?_toList
abbrev Te:=@List.drop_drop
abbrev Tf:=@List.cons_append
abbrev Tg:=@List.map_take
abbrev Th:=@Bool.not_true
abbrev Ti:=@Nat.min_eq_left
abbrev Tj:=@List.cons.injEq
abbrev Tk:=@Int.emod_nonneg
abbrev Tl:=@List.drop_left
abbrev Tm:=@List.tail_drop
abbrev Tn:=@List.getElem?_cons_zero
abbrev Tp:=@List.getElem?_replicate
abbrev Tq:=@Nat.one_mul
abbrev Tr:=@Option.getD_some
abbrev Ts:=@List.singleton_append
abbrev Tt:=@Nat.div_lt_of_lt_mul
abbrev Tu:=@Nat.add_comm
abbrev Tv:=@List.mem_range
abbrev Tw:=@Array.empty_append
abbrev Tx:=@Array.getElem?_eq_some_iff
abbrev Tz:=@List.all_cons
abbrev TA:=@Int.fdiv_eq_ediv_of_nonneg
abbrev TB:=@List.size_toArray
abbrev TC:=@Nat.mul_comm
abbrev TD:=@Nat.sub_zero
abbrev TF:=@List.length_drop
abbrev We:=@Tryz.underlying9
abbrev Wf:=@Tryz.underlying3
abbrev Wg:=@Tryz.underlying62
abbrev Wh:=@Tryz.underlying150
abbrev Wi:=@Tryz.underlying200
abbrev Wj:=@Tryz.underlying63
abbrev Wl:=@Tryz.underlying5
abbrev Wm:=@Tryz.underlying4
abbrev Wn:=@Tryz.underlying252
abbrev Wo:=@Tryz.func117
abbrev Wp:=@Tryz.func3
abbrev Wq:=@Tryz.underlying27
abbrev Wr:=@Tryz.underlying30
abbrev Ws:=@Tryz.underlying25
abbrev Wt:=@Tryz.underlying26
abbrev Wu:=@Tryz.func152
abbrev Wv:=@Tryz.underlying165
abbrev Ww:=@Tryz.func95
abbrev Wx:=@Tryz.ntmps95
abbrev Wy:=@Tryz.underlying47
abbrev Wz:=@Tryz.underlying68
abbrev WA:=@Tryz.underlying93
abbrev WB:=@Tryz.underlying22
abbrev WL:=@Tryz.underlying261
abbrev WO:=@Tryz.underlying141
abbrev WP:=@Tryz.underlying24
noncomputable abbrev QbP:=Tryz.prog
theorem J.{u} {α:Sort u} {a:α}:a=a:=.refl a
abbrev U:=List.{0}
abbrev QbQ:=Option.{0}
section
open Go.RowKit
inductive AV where
 |any
 |int (k:IntKind) (n:Int)
 |bool (b:Bool)
 |str (s:List UInt8)
 |agg (cs:List AV)
 |tup (vs:List AV)
 |nils
 |sl (rows:List (List AV))
 |ref (id:Nat)
 |ptr (id off:Nat)
 |elt (row:List AV) (off:Nat)
 |aptr (id size i off:Nat)
 |func (f:FuncId) (caps:List AV)
 |nilf
 |nilp
 |np (id:Nat)
 |nili
 |mpr (id:Nat)
 |ifc (t:TypeId) (a:AV)
 |cst (v:Value)
 |vw (id size lo n:Nat) (cap:Option Nat)
 |ref2 (id:Nat)
 |aptr2 (id i:Nat)
 |iref (id i:Nat)
 |bnd (f:FuncId) (firsts:List AV)
inductive Cell where
 |own (rows:List (List AV))
 |fz (rows:List (List AV))
 |hole
inductive Ob where
 |dead
 |box (cs:List AV)
 |arr (e:TypeId) (size:Nat) (rows:List (List AV))
 |mp (ks vs:List AV)
 |hd (e:TypeId) (k:Nat)
 |cl (e:TypeId) (size:Nat) (cells:List Cell)
 |arrU (e:TypeId) (size:Nat) (rows:List (List AV)) (x:Nat)
 |boxB (t:TypeId) (cs:List AV)
def Ob.live:Ob->Bool
 | .dead=>false
 |_=>true
inductive Rel (σ:List Value) (w:World) (F:Nat->Prop):AV->Value->Prop
 |any (v:Value):Rel σ w F .any v
 |int (k:IntKind) (n:Int):Rel σ w F (.int k n) (.int k n)
 |bool (b:Bool):Rel σ w F (.bool b) (.bool b)
 |str (s:List UInt8):Rel σ w F (.str s) (.string ⟨s.toArray⟩)
 |agg (cs:List AV) (vs:List Value) (h:vs.length=cs.length) (h1:∀u,u∈vs->u.oneCell'=true) (hc:∀(j:Nat) c u,cs[j]?=some c->vs[j]?=some u->Rel σ w F c u):
  Rel σ w F (.agg cs) (.agg vs.toArray)
 |tup (cs:List AV) (vs:List Value) (h:vs.length=cs.length) (hc:∀(j:Nat) c u,cs[j]?=some c->vs[j]?=some u->Rel σ w F c u):
  Rel σ w F (.tup cs) (.tuple vs.toArray)
 |nils:Rel σ w F .nils (.slice none 0 0)
 |slNil:Rel σ w F (.sl []) (.slice none 0 0)
 |sl (rows:List (List AV)) (size:Nat) (ad:Addr) (c:Nat) (u:Nat->Nat->Value)
  (hF:rows≠[]->F ad.block) (hn:rows.length<=c) (hm:c<=maxLen)
  (hrow:∀row,row∈rows->row.length=size) (hone:∀i j:Nat,i<rows.length->j<size->(u i j).oneCell'=true)
  (hcell:∀i j:Nat,i<rows.length->j<size->w.cell? (ad.add (i*size+j))=some (u i j))
  (hrel:∀(i:Nat) row (j:Nat) x,rows[i]?=some row->row[j]?=some x->Rel σ w F x (u i j)):
  Rel σ w F (.sl rows) (.slice (some ad) rows.length c)
 |ref (id:Nat) (a:Option Addr) (n c:Nat) (h:σ[id]?=some (.slice a n c)):Rel σ w F (.ref id) (.slice a n c)
 |ptr (id off g:Nat) (h:σ[id]?=some (.pointer (some ⟨g,0,none⟩))):Rel σ w F (.ptr id off) (.pointer (some ⟨g,off,none⟩))
 |elt (row:List AV) (off:Nat) (ad:Addr) (u:Nat->Value) (hF:row≠[]->F ad.block)
  (hone:∀j:Nat,j<row.length->(u j).oneCell'=true)
  (hcell:∀j:Nat,j<row.length->w.cell? (ad.add j)=some (u j))
  (hrel:∀(j:Nat) x,row[j]?=some x->Rel σ w F x (u j)):Rel σ w F (.elt row off) (.pointer (some (ad.add off)))
 |aptr (id size i off g n c:Nat) (h:σ[id]?=some (.slice (some ⟨g,0,none⟩) n c)):Rel σ w F (.aptr id size i off) (.pointer (some ⟨g,i*size+off,none⟩))
 |func (f:FuncId) (cs:List AV) (vs:List Value) (h:vs.length=cs.length) (hc:∀(j:Nat) c u,cs[j]?=some c->vs[j]?=some u->Rel σ w F c u):
  Rel σ w F (.func f cs) (.func (.func f) #[] vs.toArray)
 |nilf:Rel σ w F .nilf .nilFunc
 |nilp:Rel σ w F .nilp (.pointer none)
 |np0 (id:Nat):Rel σ w F (.np id) (.pointer none)
 |npS (id g:Nat) (h:σ[id]?=some (.pointer (some ⟨g,0,none⟩))):Rel σ w F (.np id) (.pointer (some ⟨g,0,none⟩))
 |nili:Rel σ w F .nili .nilIface
 |mpr (id:Nat) (r:Option Nat) (h:σ[id]?=some (.map r)):Rel σ w F (.mpr id) (.map r)
 |ifc (t:TypeId) (a:AV) (v:Value) (h:Rel σ w F a v):Rel σ w F (.ifc t a) (.iface t v)
 |cst (v:Value):Rel σ w F (.cst v) v
 |vw (id size lo n N C:Nat) (cap:Option Nat) (A B:Option Addr) (h:σ[id]?=some (.slice B N C)) (hn:lo+n<=C) (hA:0<n->∃g,B=some ⟨g,0,none⟩/\A=some ⟨g,lo*size,none⟩) (hc:∀k,cap=some k->k+lo=C) (hz:lo=0->A=B):
  Rel σ w F (.vw id size lo n cap) (.slice A n (C- lo))
 |ref2 (id:Nat) (a:Option Addr) (n c:Nat) (vs:Array Value) (h:σ[id]?=some (.tuple vs)) (h0:vs[0]?=some (.slice a n c)):Rel σ w F (.ref2 id) (.slice a n c)
 |aptr2 (id i g n c:Nat) (vs:Array Value) (h:σ[id]?=some (.tuple vs)) (h0:vs[0]?=some (.slice (some ⟨g,0,none⟩) n c)):Rel σ w F (.aptr2 id i) (.pointer (some ⟨g,i,none⟩))
 |iref (id i:Nat) (a:Option Addr) (n c:Nat) (vs:Array Value) (h:σ[id]?=some (.tuple vs)) (h0:vs[i]?=some (.slice a n c)):Rel σ w F (.iref id i) (.slice a n c)
 |bnd (f:FuncId) (cs:List AV) (vs:List Value) (h:vs.length=cs.length) (hc:∀(j:Nat) c u,cs[j]?=some c->vs[j]?=some u->Rel σ w F c u):
  Rel σ w F (.bnd f cs) (.func (.func f) vs.toArray #[])
theorem pi (a:Addr)(n:Nat):(a.add n).block=a.block:=by grind[Addr.add]
theorem jF (a:Addr)(i j:Nat):(a.add i).add j=a.add (i+j):=by grind[Addr.add]
section
variable {σ σ' vs:U Value}{w w':World}{F F':Nat->Prop}{a:AV}{v:Value}{as₀ fr:U AV}
theorem Rel.mono (hσ:∀(i:Nat) v,σ[i]?=some v->σ'[i]?=some v)(hF:∀b,F b->F' b)(hw:∀b,F b->w'.heap[b]?=w.heap[b]?)(h:Rel σ w F a v):Rel σ' w' F' a v:=by
 induction h with
 |any v=>exact .any v
 |int k n=>exact .int k n
 |bool b=>exact .bool b
 |str s=>exact .str s
 |agg cs vs h h1 _ ih=>exact .agg cs vs h h1 ih
 |tup cs vs h _ ih=>exact .tup cs vs h ih
 |nils=>exact .nils
 |slNil=>exact .slNil
 |sl rows size ad c u hFb hn hm hrow hone hcell _ ih=>
  refine .sl rows size ad c u (λh=>hF _ (hFb h)) hn hm hrow hone (λi j hi hj=>?_) ih
  grind[World.cell?_of_block,pi]
 |ref id a n c h=>exact .ref id a n c (hσ _ _ h)
 |ptr id off g h=>exact .ptr id off g (hσ _ _ h)
 |elt row off ad u hFb hone hcell _ ih=>
  refine .elt row off ad u (λh=>hF _ (hFb h)) hone (λj hj=>?_) ih
  grind[World.cell?_of_block,pi]
 |aptr id size i off g n c h=>exact .aptr id size i off g n c (hσ _ _ h)
 |func f cs vs h _ ih=>exact .func f cs vs h ih
 |bnd f cs vs h _ ih=>exact .bnd f cs vs h ih
 |nilf=>exact .nilf
 |nilp=>exact .nilp
 |np0 id=>exact .np0 id
 |npS id g h=>exact .npS id g (hσ _ _ h)
 |nili=>exact .nili
 |mpr id r h=>exact .mpr id r (hσ _ _ h)
 |ifc t a v _ ih=>exact .ifc t a v ih
 |cst v=>exact .cst v
 |vw id size lo n N C cap A B h hn hA hc hz=>exact .vw id size lo n N C cap A B (hσ _ _ h) hn hA hc hz
 |ref2 id a n c vs h h0=>exact .ref2 id a n c vs (hσ _ _ h) h0
 |aptr2 id i g n c vs h h0=>exact .aptr2 id i g n c vs (hσ _ _ h) h0
 |iref id i a n c vs h h0=>exact .iref id i a n c vs (hσ _ _ h) h0
def RelL(σ:List Value)(w:World)(F:Nat->Prop)(as₀:List AV)(vs:List Value):Prop:=
 vs.length=as₀.length/\∀(j:Nat) a v,as₀[j]?=some a->vs[j]?=some v->Rel σ w F a v
theorem RelL.mono (hσ:∀(i:Nat) v,σ[i]?=some v->σ'[i]?=some v)(hF:∀b,F b->F' b)(hw:∀b,F b->w'.heap[b]?=w.heap[b]?)(h:RelL σ w F as₀ vs):RelL σ' w' F' as₀ vs:=
 ⟨h.1,λj a v ha hv=>(h.2 j a v ha hv).mono hσ hF hw⟩
theorem RelL.nil:RelL σ w F [] []:=⟨J,λj a v h=>by simp at h⟩
theorem RelL.cons (h:Rel σ w F a v)(t:RelL σ w F as₀ vs):RelL σ w F (a::as₀) (v::vs):=by
 refine⟨by simp[t.1],λj a' v' ha hv=>?_⟩;cases j with
 |zero=>grind
 |succ j=>simp at ha hv;exact t.2 j a' v' ha hv
theorem RelL.append {bs:U AV}{us:U Value}(h:RelL σ w F as₀ vs)(t:RelL σ w F bs us):RelL σ w F (as₀++bs) (vs++us):=by grind[RelL]
theorem RelL.get (h:RelL σ w F as₀ vs){j:Nat}(ha:as₀[j]?=some a):∃v,vs[j]?=some v/\Rel σ w F a v:=by
 have hj:j<vs.length:=by rw[h.1];grind
 exact⟨vs[j],RG hj,h.2 j a _ ha (RG hj)⟩
theorem RelL.set (h:RelL σ w F as₀ vs)(d:Nat)(hr:Rel σ w F a v):RelL σ w F (as₀.set d a) (vs.set d v):=by
 refine⟨by simp[h.1],λj a' v' ha hv=>?_⟩;rw[R5]at ha hv;by_cases hdj:d=j
 .grind
 .rw[if_neg hdj]at ha hv;exact h.2 j a' v' ha hv
theorem RelL.sub (h:RelL σ w F as₀ vs)(n m:Nat):RelL σ w F ((as₀.drop n).take m) ((vs.drop n).take m):=by
 refine⟨by simp[h.1],λj a v ha hv=>?_⟩;rw[Sm]at ha hv;split at ha
 .rename_i hlt;rw[if_pos hlt]at hv;rw[Sz]at ha hv;exact h.2 _ a v ha hv
 .simp at ha
def AV.ofVal1:Value->AV
 | .bool b=>.bool b
 | .int k n=>.int k n
 | .string s=>.str s.data.toList
 | .slice none 0 0=>.nils
 | .nilFunc=>.nilf
 | .nilIface=>.nili
 | .pointer none=>.nilp
 |_=>.any
def AV.ofVal:Value->AV
 | .agg cs=>if cs.toList.all (·.oneCell')then .agg (cs.toList.map AV.ofVal1)else .any
 |v=>AV.ofVal1 v
theorem Rel.ofVal1 (σ:U Value)(w:World)(F:Nat->Prop)(v:Value):Rel σ w F (AV.ofVal1 v) v:=by
 unfold AV.ofVal1;split
 .exact .bool _
 .exact .int _ _
 .rename_i s;simpa using Rel.str (σ:=σ) (w:=w) (F:=F) s.data.toList
 .exact .nils
 .exact .nilf
 .exact .nili
 .exact .nilp
 .exact .any _
theorem Rel.ofVal (σ:U Value)(w:World)(F:Nat->Prop)(v:Value):Rel σ w F (AV.ofVal v) v:=by
 unfold AV.ofVal;split
 .rename_i cs;split
  .rename_i h1;have h:=Rel.agg (σ:=σ) (w:=w) (F:=F) (cs.toList.map AV.ofVal1) cs.toList (by simp) (λu hu=>Sc.1 h1 u hu) (λj c u hc hu=>by
    grind[Rel.ofVal1])
   simpa using h
  .exact .any _
 simp[Rel.ofVal1]
def ev(fr:List AV):Operand->AV
 | .tmp t=>fr.getD t .any
 | .const v=>AV.ofVal v
 | .global _=>.any
 | .func f=>.func f []
def ARel(σ:List Value)(w:World)(F:Nat->Prop)(fr:List AV)(a:Act):Prop:=RelL σ w F fr a.tmps.toList/\True
theorem ARel.ev {a:Act}(h:ARel σ w F fr a)(x:Operand):Rel σ w F (ev fr x) (a.eval x):=by
 cases x with
 | tmp t=>
  show Rel σ w F (fr.getD t .any) (a.tmps.getD t undef);rw[R1];cases hf:fr[t]? with
  |none=>exact .any _
  |some c=>
   obtain⟨v,hv,hr⟩:=h.1.get hf;simp_all
 |const v=>exact Rel.ofVal σ w F v
 |global g=>exact .any _
 |func f=>exact .func f [] [] J (λj c u hc=>by simp at hc)
theorem ARel.put {a:Act}(h:ARel σ w F fr a){r:AV}(hr:Rel σ w F r v)(d:QbQ Tmp):
  ARel σ w F (match d with|some t=>fr.set t r|none=>fr) (a.put d v):=by
 cases d with
 |none=>exact h
 |some t=>exact⟨by simpa [Act.put]using h.1.set t hr,h.2⟩
end
end
section
open Go.RowKit
def blk:Value->Option Nat
 | .pointer (some a)=>some a.block
 | .slice (some a) _ _=>some a.block
 | .map (some r)=>some r
 |_=>none
theorem pC (v:Value)(a:QbQ Addr)(n c:Nat)(h:v=.slice a n c):blk v=v.ownBlock:=by subst h;cases a<;>rfl
def FlatRel(σ:List Value)(w:World)(F:Nat->Prop)(size:Nat)(rows:List (List AV))(flat:List Value):Prop:=
 (∀row,row∈rows->row.length=size)/\(∀u,u∈flat->u.oneCell'=true)/\RelL σ w F rows.flatten flat
def CellRel(σ:List Value)(w:World)(F:Nat->Prop)(e2 size:Nat):Cell->Value->Prop
 | .own rows,u=>∃flat,w.ownsRow 0 e2 size u rows.length flat/\FlatRel σ w F size rows flat/\(∀g,u.ownBlock=some g->¬F g)/\∃a n c,u=.slice a n c
 | .fz rows,u=>Rel σ w F (.sl rows) u
 | .hole,_=>True
def Bk(o:Ob)(v:Value)(b:Nat):Prop:=
 match o with
 | .dead=>False
 | .box _| .arr _ _ _| .mp _ _| .arrU _ _ _ _| .hd _ _| .boxB _ _=>blk v=some b
 | .cl _ _ cells=>∃us:List Value,v=.tuple us.toArray/\∃(i:Nat) (rows:List (List AV)) (x:Value),cells[i]?=some (.own rows)/\us[i]?=some x/\x.ownBlock=some b
def Born(es:Array MapEntry)(clock:Nat):Prop:=(∀e,e∈es.toList->e.born<clock)/\(es.toList.map (·.born)).Nodup
def ORel(σ:List Value)(w:World)(F:Nat->Prop):Ob->Value->Prop
 | .dead,_=>True
 | .box cs,v=>∃g vs ty,v=.pointer (some ⟨g,0,none⟩)/\w.heap[g]?=some (.cells vs ty (0,0))/\RelL σ w F cs vs.toList/\(∀u,u∈vs->u.oneCell'=true)/\¬F g
 | .boxB t cs,v=>∃g vs,v=.pointer (some ⟨g,0,none⟩)/\w.heap[g]?=some (.cells vs t (0,0))/\RelL σ w F cs vs.toList/\(∀u,u∈vs->u.oneCell'=true)/\¬F g
 | .arr e size rows,v=>∃flat,w.ownsRow 0 e size v rows.length flat/\FlatRel σ w F size rows flat/\(∀g,v.ownBlock=some g->¬F g)/\∃a n c,v=.slice a n c
 | .arrU e size rows x,v=>∃g C flat,v=.slice (some ⟨g,0,none⟩) (rows.length+x) C/\rows.length+x<=C/\w.ownsRow 0 e size (.slice (some ⟨g,0,none⟩) rows.length C) rows.length flat/\FlatRel σ w F size rows flat/\¬F g
 | .mp ks vs,v=>∃g es clock,v=.map (some g)/\w.heap[g]?=some (.map es clock)/\RelL σ w F ks (es.toList.map (·.key))/\RelL σ w F vs (es.toList.map (·.val))/\¬F g/\Born es clock
 | .hd e k,v=>∃us:List Value,σ[k]?=some (.tuple us.toArray)/\w.ownsRow 0 e 1 v us.length us/\(∃a n c,v=.slice a n c)/\(∀u,u∈us->u.oneCell'=true)/\∀g,v.ownBlock=some g->¬F g
 | .cl e size cells,v=>∃us:List Value,v=.tuple us.toArray/\us.length=cells.length/\(∀(i:Nat) c x,cells[i]?=some c->us[i]?=some x->CellRel σ w F e size c x) /\
  (∀(i j:Nat) rows rows' x y g,i≠j->cells[i]?=some (.own rows)->cells[j]?=some (.own rows')->us[i]?=some x->us[j]?=some y->x.ownBlock=some g->y.ownBlock=some g->False)
def gvs:List Nat:=[]
def GP:Nat->Obj->Prop:=λ_ _=>True
def Gd(w:World)(F:Nat->Prop):Prop:=∀g,g∈gvs->F g/\∃o,w.heap[g]?=some o/\GP g o
section
variable {w w':World}{F F':Nat->Prop}{e s n c b size k b0:Nat}{rows:U (U AV)}{a:Act}{aw aw':U Ob}{σ σ':U Value}{α:Type}{v:Value}{P:Program}{fr:U AV}{o:Ob}{x y:α}{l:U α}
theorem Gd.mono (h:Gd w F)(hF:∀b,F b->F' b)(hk:∀b,F b->w'.heap[b]?=w.heap[b]?):Gd w' F':=λg hg=>by obtain⟨h1,o,h2,h3⟩:=h g hg;exact⟨hF g h1,o,(hk g h1).trans h2,h3⟩
structure Sim (aw:List Ob) (σ:List Value) (w:World) (F:Nat->Prop):Prop where
 len:σ.length=aw.length
 obj:∀(k:Nat) o v,aw[k]?=some o->σ[k]?=some v->ORel σ w F o v
 sep:∀(k k':Nat) o o' v v' g,k≠k'->aw[k]?=some o->aw[k']?=some o'->o.live=true->o'.live=true ->
  σ[k]?=some v->σ[k']?=some v'->Bk o v g->Bk o' v' g->False
 lt:∀b,F b->b<w.heap.size
 gd:Gd w F
def Dof(aw:List Ob)(σ:List Value)(b:Nat):Prop:=∃(k:Nat) (o:Ob) (v:Value),aw[k]?=some o/\o.live=true/\σ[k]?=some v/\Bk o v b
theorem pZ {us us':U Value}(h:Value.tuple us.toArray=.tuple us'.toArray):us=us':=by grind
theorem Bk.slice {a:QbQ Addr}(h:(Value.slice a n c).ownBlock=some b):Bk (.arr e s rows) (.slice a n c) b:=(pC _ a n c J).trans h
theorem Bk.slice_inv {a:QbQ Addr}(h:Bk (.arr e s rows) (.slice a n c) b):(Value.slice a n c).ownBlock=some b:=(pC _ a n c J).symm.trans h
theorem Sim.free (h:Sim aw σ w F)(hb:Dof aw σ b):¬F b:=by
 obtain⟨k,o,v,ho,hl,hv,hbk⟩:=hb;have hr:=h.obj k o v ho hv;cases o with
 |dead=>simp[Ob.live]at hl
 |box cs=>
  obtain⟨g,vs,ty,rfl,_,_,_,hf⟩:=hr;grind[Bk,blk]
 |arr e size rows=>
  obtain⟨flat,_,_,hf,a,n,c,rfl⟩:=hr;exact hf _ hbk.slice_inv
 |mp ks vs=>
  obtain⟨g,es,clock,rfl,_,_,_,hf,_⟩:=hr;grind[Bk,blk]
 |arrU e size rows x=>
  obtain⟨g,C,flat,rfl,_,_,_,hf⟩:=hr;grind[Bk,blk]
 |boxB t cs=>
  obtain⟨g,vs,rfl,_,_,_,hf⟩:=hr;grind[Bk,blk]
 |hd e k2=>
  obtain⟨us,_,_,⟨a,n,c,rfl⟩,_,hf⟩:=hr;exact hf _ ((pC _ a n c J).symm.trans hbk)
 |cl e size cells=>
  obtain⟨us,rfl,_,hc,_⟩:=hr;obtain⟨us',e1,i,rows,x,h2,h3,h4⟩:=hbk;have:=pZ e1;subst this;obtain⟨flat,_,_,h5,_⟩:=hc i _ x h2 h3;exact h5 b h4
theorem Sim.lt_own (h:Sim aw σ w F)(hb:Dof aw σ b):b<w.heap.size:=by
 obtain⟨k,o,v,ho,hl,hv,hbk⟩:=hb;have hr:=h.obj k o v ho hv;cases o with
 |dead=>simp[Ob.live]at hl
 |box cs=>
  obtain⟨g,vs,ty,rfl,hg,_⟩:=hr;grind[Bk,blk]
 |arr e size rows=>
  obtain⟨flat,ho,_,_,a,n,c,rfl⟩:=hr;exact(ho.lt _ hbk.slice_inv).2
 |mp ks vs=>
  obtain⟨g,es,clock,rfl,hg,_⟩:=hr;grind[Bk,blk]
 |arrU e size rows x=>
  obtain⟨g,C,flat,rfl,_,hown,_,_⟩:=hr;simp[Bk,blk]at hbk;subst hbk;exact(hown.lt _ J).2
 |boxB t cs=>
  obtain⟨g,vs,rfl,hg,_⟩:=hr;grind[Bk,blk]
 |hd e k2=>
  obtain⟨us,_,hown,⟨a,n,c,rfl⟩,_,_⟩:=hr;exact(hown.lt _ ((pC _ a n c J).symm.trans hbk)).2
 |cl e size cells=>
  obtain⟨us,rfl,_,hc,_⟩:=hr;obtain⟨us',e1,i,rows,x,h2,h3,h4⟩:=hbk;have:=pZ e1;subst this;obtain⟨flat,h5,_⟩:=hc i _ x h2 h3;exact(h5.lt _ h4).2
theorem xQ:∀(a:Ask α) (w:World),w.drawn<=(w.ask a).2.drawn
 | .done a,w=>RJ _
 | .ask what range k,w=>by
  unfold World.ask;simp only;split
  .exact xQ (k 0) w
  .exact SA (Nat.le_succ w.drawn) (xQ (k _) { w with drawn:=w.drawn+1 })
theorem K1 (w:World)(c:Sys):w.drawn<=(w.sys c).2.drawn:=by unfold World.sys;have:=xQ (Kernel.perform c w.os) w;grind
theorem KA {p:Program}{a:Addr}{b:Bool}{r:World×U Addr}(h:w.farStore p a v b=.ok r):r.1.drawn=w.drawn:=by
 unfold World.farStore at h;split at h
 .split at h
  .rename_i hv;injection h with h
   subst h;unfold World.viewStore at hv;simp only[bind,Except.bind,pure,Except.pure]at hv;(repeat' split at hv)<;>first|(cases hv;done)|(injection hv with hv;subst hv;rfl)
  .cases h
 .cases h
theorem JW (m:Sem α):∀{w:World} {v:α} {w':World},m.run P w=.ok v w'->w.drawn<=w'.drawn:=by
 induction m with
 |pure a=>simp
 |load m a k ih=>
  grind[Sem.run]
 | store m a u k ih=>
  intro w v w' h;cases u with
  |agg _=>grind[Sem.run]
  |tuple _=>grind[Sem.run]
  | _=>
   simp only[Sem.run]at h;split at h
   .split at h
    .cases h
    .exact ih (w:=w.setCell a _) h
   .split at h
    .rename_i hf;have h1:=KA hf;grind
    .cases h
 |new o k ih=>grind[Sem.run]
 |shape r k ih=>grind[Sem.run]
 |freeze a n k ih=>
  grind[Sem.run,World.freeze]
 |frozen a k ih=>grind[Sem.run]
 |getObj r k ih=>
  grind[Sem.run]
 |setObj r o k ih=>
  grind[Sem.run]
 |choose q k ih=>
  intro w v w' h;simp only[Sem.run]at h;grind
 |sys c k ih=>
  grind[Sem.run,K1]
 |program k ih=>grind[Sem.run]
 |mark m k ih=>assumption
 |_=>simp
def dn(w:World):Nat:=w.drawn
theorem xA (m:Sem α){v:α}(h:m.run P w=.ok v w'):dn w<=dn w':=by
 first
 |exact JW m h
 |exact RJ _
def Drw(w w':World):Prop:=w'.output=w.output/\dn w<=dn w'
theorem drO (h:w'.output=w.output:=by rfl)(h2:dn w<=dn w':=by first|exact RJ _|exact Nat.le_succ _|exact Nat.le_add_right _ _):Drw w w':=⟨h,h2⟩
structure Mv (aw:List Ob) (σ:List Value) (w:World) (F:Nat->Prop) (aw':List Ob) (σ':List Value) (w':World) (F':Nat->Prop):Prop where
 os:w'.os=w.os
 tape:w'.tape=w.tape
 output:Drw w w'
 size:w.heap.size<=w'.heap.size
 keep:∀b,b<w.heap.size->¬Dof aw σ b->w'.heap[b]?=w.heap[b]?
 pre:∀(i:Nat) v,σ[i]?=some v->σ'[i]?=some v
 sub:∀b,F b->F' b
 sup:∀b,F' b->F b∨Dof aw σ b∨w.heap.size<=b
 own:∀b,Dof aw' σ' b->Dof aw σ b∨w.heap.size<=b
theorem Mv.refl (aw:U Ob)(σ:U Value)(w:World)(F:Nat->Prop):Mv aw σ w F aw σ w F:=
 ⟨J,J,drO,RJ _,λ_ _ _=>J,λ_ _ h=>h,λ_ h=>h,λ_ h=>.inl h,λ_ h=>.inl h⟩
theorem Mv.trans {aw1 aw2:U Ob}{σ1 σ2:U Value}{w1 w2:World}{F1 F2:Nat->Prop}(h:Mv aw σ w F aw1 σ1 w1 F1)(k:Mv aw1 σ1 w1 F1 aw2 σ2 w2 F2):
  Mv aw σ w F aw2 σ2 w2 F2:=by
 refine⟨k.os.trans h.os,k.tape.trans h.tape,⟨k.output.1.trans h.output.1,SA h.output.2 k.output.2⟩,SA h.size k.size,λb hb hd=>?_,λi v hv=>k.pre i v (h.pre i v hv),λb hb=>k.sub b (h.sub b hb),λb hb=>?_,λb hb=>?_⟩
 .rw[k.keep b (Sx hb h.size) (λhd1=>(h.own b hd1).elim hd (λhge=>by omega))]
  exact h.keep b hb hd
 .rcases k.sup b hb with h1|h1|h1
  .exact h.sup b h1
  .exact .inr (h.own b h1)
  .exact .inr (.inr (SA h.size h1))
 .rcases k.own b hb with h1|h1
  .exact h.own b h1
  .exact .inr (SA h.size h1)
theorem Mv.same (h:Mv aw σ w F aw' σ' w' F')(hs:Sim aw σ w F):∀b,F b->w'.heap[b]?=w.heap[b]? :=
 λb hb=>h.keep b (hs.lt b hb) (λhd=>hs.free hd hb)
theorem Mv.rel (h:Mv aw σ w F aw' σ' w' F')(hs:Sim aw σ w F){a:AV}(hr:Rel σ w F a v):Rel σ' w' F' a v:=
 hr.mono h.pre h.sub (h.same hs)
theorem Mv.relL (h:Mv aw σ w F aw' σ' w' F')(hs:Sim aw σ w F){as₀:U AV}{vs:U Value}(hr:RelL σ w F as₀ vs):RelL σ' w' F' as₀ vs:=
 hr.mono h.pre h.sub (h.same hs)
theorem Mv.aRel (h:Mv aw σ w F aw' σ' w' F')(hs:Sim aw σ w F)(hr:ARel σ w F fr a):ARel σ' w' F' fr a:=
 ⟨h.relL hs hr.1,hr.2⟩
theorem FlatRel.mono {flat:U Value}(h:FlatRel σ w F size rows flat)(hσ:∀(i:Nat) v,σ[i]?=some v->σ'[i]?=some v)(hF:∀b,F b->F' b)(hw:∀b,F b->w'.heap[b]?=w.heap[b]?):FlatRel σ' w' F' size rows flat:=
 ⟨h.1,h.2.1,h.2.2.mono hσ hF hw⟩
theorem vL {xs:U Value}(h:w.ownsRow 0 e size v n xs)(hb:∀b,v.ownBlock=some b->w'.heap[b]?=w.heap[b]?):w'.ownsRow 0 e size v n xs:=by
 refine⟨h.1,?_⟩;rcases h.2 with h2|⟨g,cap,cur,hv,h0,hh,r⟩
 .exact .inl h2
 .exact .inr ⟨g,cap,cur,hv,h0,by rw[hb g (by rw[hv];rfl)];exact hh,r⟩
theorem CellRel.mono {e2:Nat}{c:Cell}{x:Value}(h:CellRel σ w F e2 size c x)(hσ:∀(i:Nat) v,σ[i]?=some v->σ'[i]?=some v)(hF:∀b,F b->F' b)(hw:∀b,F b->w'.heap[b]?=w.heap[b]?)(hb:∀rows,c=.own rows->∀b,x.ownBlock=some b->w'.heap[b]?=w.heap[b]?/\¬F' b):CellRel σ' w' F' e2 size c x:=by
 cases c with
 |own rows=>
  obtain⟨flat,h1,h2,h3,h4⟩:=h
  exact⟨flat,vL h1 (λb hb'=>(hb rows J b hb').1),h2.mono hσ hF hw,λg hg=>(hb rows J g hg).2,h4⟩
 |fz rows=>exact Rel.mono hσ hF hw h
 |hole=>trivial
theorem ORel.mono (h:ORel σ w F o v)(hσ:∀(i:Nat) v,σ[i]?=some v->σ'[i]?=some v)(hF:∀b,F b->F' b)(hw:∀b,F b->w'.heap[b]?=w.heap[b]?)(hb:o.live=true->∀b,Bk o v b->w'.heap[b]?=w.heap[b]?/\¬F' b):ORel σ' w' F' o v:=by
 cases o with
 |dead=>trivial
 |box cs=>
  obtain⟨g,vs,ty,rfl,hg,hr,h1,hf⟩:=h
  obtain⟨e1,e2⟩:=hb J g J
  exact⟨g,vs,ty,J,e1.trans hg,hr.mono hσ hF hw,h1,e2⟩
 |arr e size rows=>
  obtain⟨flat,ho,hfl,hf,a,n,c,rfl⟩:=h
  exact⟨flat,vL ho (λb h=>(hb J b (.slice h)).1),hfl.mono hσ hF hw,λg hg=>(hb J g (.slice hg)).2,a,n,c,J⟩
 |mp ks vs=>
  obtain⟨g,es,clock,rfl,hg,hk,hv,hf,hbo⟩:=h
  obtain⟨e1,e2⟩:=hb J g J
  exact⟨g,es,clock,J,e1.trans hg,hk.mono hσ hF hw,hv.mono hσ hF hw,e2,hbo⟩
 |boxB t cs=>
  obtain⟨g,vs,rfl,hg,hr,h1,hf⟩:=h
  obtain⟨e1,e2⟩:=hb J g J
  exact⟨g,vs,J,e1.trans hg,hr.mono hσ hF hw,h1,e2⟩
 |arrU e size rows x=>
  obtain⟨g,C,flat,rfl,h1,hown,hfl,hf⟩:=h
  exact⟨g,C,flat,J,h1,vL hown (λb hb'=>(hb J b (by assumption)).1),hfl.mono hσ hF hw,(hb J g J).2⟩
 |hd e k2=>
  obtain⟨us,h1,hown,⟨a,n,c,rfl⟩,hone,hf⟩:=h
  exact⟨us,hσ _ _ h1,vL hown (λb h=>(hb J b ((pC _ a n c J).trans h)).1),⟨a,n,c,J⟩,hone,λg hg=>(hb J g ((pC _ a n c J).trans hg)).2⟩
 |cl e size cells=>
  obtain⟨us,rfl,hl,hc,hd⟩:=h
  exact⟨us,J,hl,λi c x h1 h2=>(hc i c x h1 h2).mono hσ hF hw (λrows e b h3=>hb J b ⟨us,J,i,rows,x,by rw[h1,e],h2,h3⟩),hd⟩
theorem Sim.grow (h:Sim aw σ w F)(hF:∀b,F b->F' b)(hsup:∀b,F' b->F b∨w.heap.size<=b)(hlt:∀b,F' b->b<w'.heap.size)(hk:∀b,b<w.heap.size->w'.heap[b]?=w.heap[b]?):Sim aw σ w' F':=by
 refine⟨h.len,λk o v ho hv=>?_,h.sep,hlt,h.gd.mono hF λb hb=>hk b (h.lt b hb)⟩
 refine(h.obj k o v ho hv).mono (λ_ _ e=>e) hF (λb hb=>hk b (h.lt b hb)) (λhl b hb=>?_)
 have hd:Dof aw σ b:=⟨k,o,v,ho,hl,hv,hb⟩
 refine⟨hk b (h.lt_own hd),λhf=>?_⟩
 rcases hsup b hf with h1|h1
 .exact h.free hd h1
 .have:=h.lt_own hd;omega
theorem Mv.grow (hF:∀b,F b->F' b)(hsup:∀b,F' b->F b∨w.heap.size<=b)(hos:w'.os=w.os)(ht:w'.tape=w.tape)(ho:Drw w w')(hs:w.heap.size<=w'.heap.size)(hk:∀b,b<w.heap.size->w'.heap[b]?=w.heap[b]?):Mv aw σ w F aw σ w' F':=
 ⟨hos,ht,ho,hs,λb hb _=>hk b hb,λ_ _ h=>h,hF,λb hb=>(hsup b hb).imp id .inr,λ_ h=>.inl h⟩
theorem Sim.drew (h:Sim aw σ w F):Sim aw σ w.drew F:=h.grow (λ_ h=>h) (λ_ h=>.inl h) h.lt (λ_ _=>J)
theorem Mv.drew:Mv aw σ w F aw σ w.drew F:=.grow (λ_ h=>h) (λ_ h=>.inl h) J J drO (RJ _) (λ_ _=>J)
theorem gP (h:(l++[x])[k]?=some y):l[k]?=some y∨(k=l.length/\y=x):=by grind
theorem eB (h:l[k]?=some y):(l++[x])[k]?=some y:=by grind
theorem Sim.push (h:Sim aw σ w F)(o:Ob)(v:Value)(hk:∀b,b<w.heap.size->w'.heap[b]?=w.heap[b]?)(hs:w.heap.size<=w'.heap.size)(ho:ORel (σ++[v]) w' F o v)(hnew:∀b,Bk o v b->w.heap.size<=b):
  Sim (aw++[o]) (σ++[v]) w' F:=by
 have h':Sim aw σ w' F:=h.grow (λ_ h=>h) (λ_ h=>.inl h) (λb hb=>Sx (h.lt b hb) hs) hk
 refine⟨by simp[h.len],λk o1 v1 ho1 hv1=>?_,λk k' o1 o2 v1 v2 g hne ho1 ho2 hl1 hl2 hv1 hv2 hb1 hb2=>?_,h'.lt,h'.gd⟩
 .rcases gP ho1 with h1|⟨rfl,rfl⟩
  .have hv1':σ[k]?=some v1:=by
    have hlt:=(RH.1 h1).1;rw[R2 (by rw[h.len];exact hlt)]at hv1;exact hv1
   exact(h'.obj k o1 v1 h1 hv1').mono (λ_ _ e=>eB e) (λ_ e=>e) (λ_ _=>J) (λhl b hb=>⟨J,h'.free ⟨k,o1,v1,h1,hl,hv1',hb⟩⟩)
  .rw[<- h.len]at hv1
   grind
 .have old:∀(k:Nat) o1 v1,aw[k]?=some o1->(σ++[v])[k]?=some v1->σ[k]?=some v1:=λk o1 v1 h1 hv1=>by
   have hlt:=(RH.1 h1).1;rw[R2 (by rw[h.len];exact hlt)]at hv1;exact hv1
  have last:∀(k:Nat) v1,k=aw.length->(σ++[v])[k]?=some v1->v1=v:=λk v1 e hv1=>by rw[e,<- h.len]at hv1;grind
  rcases gP ho1 with h1|⟨e1,rfl⟩
  .rcases gP ho2 with h2|⟨e2,rfl⟩
   .exact h.sep k k' o1 o2 v1 v2 g hne h1 h2 hl1 hl2 (old _ _ _ h1 hv1) (old _ _ _ h2 hv2) hb1 hb2
   .have:=last _ _ e2 hv2;subst this
    have hlt:=h.lt_own ⟨k,o1,v1,h1,hl1,old _ _ _ h1 hv1,hb1⟩
    grind
  .have:=last _ _ e1 hv1;subst this
   rcases gP ho2 with h2|⟨e2,rfl⟩
   .have hlt:=h.lt_own ⟨k',o2,v2,h2,hl2,old _ _ _ h2 hv2,hb2⟩
    grind
   omega
theorem Mv.push (h:Sim aw σ w F)(o:Ob)(v:Value)(hos:w'.os=w.os)(ht:w'.tape=w.tape)(hou:Drw w w')(hk:∀b,b<w.heap.size->w'.heap[b]?=w.heap[b]?)(hs:w.heap.size<=w'.heap.size)(hnew:∀b,Bk o v b->w.heap.size<=b):
  Mv aw σ w F (aw++[o]) (σ++[v]) w' F:=by
 refine⟨hos,ht,hou,hs,λb hb _=>hk b hb,λi u hu=>eB hu,λ_ h=>h,λ_ h=>.inl h,λb hb=>?_⟩
 obtain⟨k,o1,v1,ho1,hl,hv1,hb1⟩:=hb
 rcases gP ho1 with h1|⟨rfl,rfl⟩
 .have hlt:=(RH.1 h1).1
  rw[R2 (by rw[h.len];exact hlt)]at hv1
  exact .inl ⟨k,o1,v1,h1,hl,hv1,hb1⟩
 .rw[<- h.len]at hv1
  grind
theorem ca {id:Nat}(h:(l.set id x)[k]?=some y):(k=id/\y=x/\id<l.length)∨(k≠id/\l[k]?=some y):=by grind
theorem Sim.drop (h:Sim aw σ w F)(id:Nat)(ho:aw[id]?=some o)(hl:o.live=true)(hv:σ[id]?=some v):
  Sim (aw.set id .dead) σ w (λb=>F b∨Bk o v b):=by
 refine⟨by simp[h.len],λk o1 v1 ho1 hv1=>?_,λk k' o1 o2 v1 v2 g hne ho1 ho2 hl1 hl2 hv1 hv2 hb1 hb2=>?_,λb hb=>?_,h.gd.mono (λ_=>.inl) λ_ _=>J⟩
 .rcases ca ho1 with⟨rfl,rfl,_⟩|⟨hne,h1⟩
  .trivial
  .refine(h.obj k o1 v1 h1 hv1).mono (λ_ _ e=>e) (λ_ e=>.inl e) (λ_ _=>J) (λhl1 b hb=>⟨J,λhf=>?_⟩)
   rcases hf with hf|hf
   .exact h.free ⟨k,o1,v1,h1,hl1,hv1,hb⟩ hf
   .exact h.sep k id o1 o v1 v b hne h1 ho hl1 hl hv1 hv hb hf
 .rcases ca ho1 with⟨rfl,rfl,_⟩|⟨_,h1⟩
  .assumption
  .rcases ca ho2 with⟨rfl,rfl,_⟩|⟨_,h2⟩
   .assumption
   .exact h.sep k k' o1 o2 v1 v2 g hne h1 h2 hl1 hl2 hv1 hv2 hb1 hb2
 .rcases hb with hb|hb
  .exact h.lt b hb
  .exact h.lt_own ⟨id,o,v,ho,hl,hv,hb⟩
theorem Dof.set_dead {id:Nat}(h:Dof (aw.set id .dead) σ b):Dof aw σ b:=by
 obtain⟨k,o,v,ho,hl,hv,hb⟩:=h;rcases ca ho with⟨rfl,rfl,_⟩|⟨_,h1⟩
 .simp[Ob.live]at hl
 .exact⟨k,o,v,h1,hl,hv,hb⟩
theorem Mv.drop (id:Nat)(ho:aw[id]?=some o)(hl:o.live=true)(hv:σ[id]?=some v):
  Mv aw σ w F (aw.set id .dead) σ w (λb=>F b∨Bk o v b):=
 ⟨J,J,drO,RJ _,λ_ _ _=>J,λ_ _ h=>h,λ_ h=>.inl h,λb hb=>hb.imp (λh=>h) (λe=>.inl ⟨id,o,v,ho,hl,hv,e⟩),λ_ h=>.inl h.set_dead⟩
theorem Sim.lose (h:Sim aw σ w F)(id:Nat):Sim (aw.set id .dead) σ w F:=by
 refine⟨by simp[h.len],λk o1 v1 ho1 hv1=>?_,λk k' o1 o2 v1 v2 g hne ho1 ho2 hl1 hl2 hv1 hv2 hb1 hb2=>?_,h.lt,h.gd⟩
 .rcases ca ho1 with⟨rfl,rfl,_⟩|⟨hne,h1⟩
  .trivial
  .exact h.obj k o1 v1 h1 hv1
 .rcases ca ho1 with⟨rfl,rfl,_⟩|⟨_,h1⟩
  .assumption
  .rcases ca ho2 with⟨rfl,rfl,_⟩|⟨_,h2⟩
   .assumption
   .exact h.sep k k' o1 o2 v1 v2 g hne h1 h2 hl1 hl2 hv1 hv2 hb1 hb2
theorem Sim.write (h:Sim aw σ w F)(id:Nat)(ho:aw[id]?=some o)(hl:o.live=true)(hv:σ[id]?=some v)(hb0:Bk o v b0)(hk:∀b,b≠b0->w'.heap[b]?=w.heap[b]?)(hs:w'.heap.size=w.heap.size)(o':Ob)(ho':ORel σ w' F o' v)(hsub:∀b,Bk o' v b->Bk o v b):Sim (aw.set id o') σ w' F:=by
 have hF:∀b,F b->w'.heap[b]?=w.heap[b]?:=λb hb=>hk b (λe=>h.free ⟨id,o,v,ho,hl,hv,hb0⟩ (e▸hb))
 refine⟨by simp[h.len],λk o1 v1 ho1 hv1=>?_,λk k' o1 o2 v1 v2 g hne ho1 ho2 hl1 hl2 hv1 hv2 hb1 hb2=>?_,λb hb=>by rw[hs];exact h.lt b hb,h.gd.mono (λ_ hb=>hb) hF⟩
 .rcases ca ho1 with⟨rfl,rfl,_⟩|⟨hne,h1⟩
  .grind
  .refine(h.obj k o1 v1 h1 hv1).mono (λ_ _ e=>e) (λ_ e=>e) hF (λhl1 b hb=>⟨hk b (λe=>?_),h.free ⟨k,o1,v1,h1,hl1,hv1,hb⟩⟩)
   subst e
   exact h.sep k id o1 o v1 v b hne h1 ho hl1 hl hv1 hv hb hb0
 .have un:∀(k:Nat) o1 v1,(aw.set id o')[k]?=some o1->o1.live=true->σ[k]?=some v1->∃o2,aw[k]?=some o2/\o2.live=true/\∀b,Bk o1 v1 b->Bk o2 v1 b:=λk o1 v1 h1 hl1 hv1=>by
   grind
  obtain⟨p1,q1,r1,z1⟩:=un k o1 v1 ho1 hl1 hv1
  obtain⟨p2,q2,r2,z2⟩:=un k' o2 v2 ho2 hl2 hv2
  exact h.sep k k' p1 p2 v1 v2 g hne q1 q2 r1 r2 hv1 hv2 (z1 _ hb1) (z2 _ hb2)
theorem Mv.write (id:Nat)(ho:aw[id]?=some o)(hl:o.live=true)(hv:σ[id]?=some v)(hb0:Bk o v b0)(hos:w'.os=w.os)(ht:w'.tape=w.tape)(hou:Drw w w')(hk:∀b,b≠b0->w'.heap[b]?=w.heap[b]?)(hs:w'.heap.size=w.heap.size)(o':Ob)(hsub:∀b,Bk o' v b->Bk o v b):Mv aw σ w F (aw.set id o') σ w' F:=by
 refine⟨hos,ht,hou,by omega,λb _ hd=>hk b (λe=>hd (e▸⟨id,o,v,ho,hl,hv,hb0⟩)),λ_ _ h=>h,λ_ h=>h,λ_ h=>.inl h,λb hb=>.inl ?_⟩
 obtain⟨k,o1,v1,ho1,hl1,hv1,hb1⟩:=hb
 rcases ca ho1 with⟨rfl,rfl,_⟩|⟨_,h2⟩
 .rw[hv]at hv1;cases hv1;exact⟨_,o,v,ho,hl,hv,hsub b hb1⟩
 .exact⟨k,o1,v1,h2,hl1,hv1,hb1⟩
structure St where
 aw:List Ob
 σ:List Value
 w:World
 F:Nat->Prop
 ds:List Deferred
structure Cur (s:St) (fr:List AV) (aw:List Ob) (σ:List Value) (w:World) (F:Nat->Prop) (a:Act):Prop where
 sim:Sim aw σ w F
 fr:ARel σ w F fr a
 mv:Mv s.aw s.σ s.w s.F aw σ w F
 ds:a.defers=s.ds
theorem Cur.step {s:St}(h:Cur s fr aw σ w F a)(hs:Sim aw' σ' w' F')(hm:Mv aw σ w F aw' σ' w' F'):
 Cur s fr aw' σ' w' F' a:=⟨hs,hm.aRel h.sim h.fr,h.mv.trans hm,h.ds⟩
theorem Cur.put {s:St}(h:Cur s fr aw σ w F a){r:AV}(hr:Rel σ w F r v)(d:QbQ Tmp):
 Cur s (match d with|some t=>fr.set t r|none=>fr) aw σ w F (a.put d v):=⟨h.sim,h.fr.put hr d,h.mv,by cases d<;>exact h.ds⟩
end
end
section
open Go.RowKit
def dN(P:Program)(t:TypeId):Option Bool:=(P.underlying t).map λ| .struct _| .array _ _=>true|_=>false
def bu(P:Program)(t:TypeId):Option (List AV):=
 ((P.info? t).bind (·.zero)).bind λv=>if v.cells.toList.all (·.oneCell')then some (v.cells.toList.map AV.ofVal1)else none
def AV.cells:AV->Option (List AV)
 | .any| .tup _=>none
 | .agg cs=>some cs
 | .cst v=>if v.oneCell'=true then some [.cst v]else none
 |a=>some [a]
def splice(cs:List AV)(off:Nat)(vs:List AV):List AV:=cs.take off++vs++cs.drop (off+vs.length)
def pickV(t:Bool)(a b:AV):AV:=
 match a,b with
 | .bool x,.bool y=>.bool (if t then x else y)
 | .int k x,.int k' y=>if k=k' then .int k (if t then x else y)else if t then .int k x else .int k' y
 |a,b=>if t then a else b
def co(P:Program)(t:TypeId)(row:List AV)(off:Nat)(K:AV->Prop):Prop:=
 match dN P t with
 |some true=>off+P.cellsOf t<=row.length/\K (.agg ((row.drop off).take (P.cellsOf t)))
 |some false=>(match row[off]? with|some c=>K c|none=>False)
 |none=>False
def d6(aw:List Ob):AV->AV×List Ob
 | .nils=>(.sl [],aw)
 | .ref id=>(match aw[id]? with|some (.arr _ _ rows)=>(.sl rows,aw.set id .dead)|_=>(.any,aw))
 |a=>(a,aw)
def norm0L(aw:List Ob):List AV->List AV×List Ob
 |[]=>([],aw)
 |a::as₀=>let r:=d6 aw a;let s:=norm0L r.2 as₀;(r.1::s.1,s.2)
def norm(aw:List Ob):AV->AV×List Ob
 | .agg cs=>(.agg (norm0L aw cs).1,(norm0L aw cs).2)
 |a=>d6 aw a
def d7(aw:List Ob):List AV->List AV×List Ob
 |[]=>([],aw)
 |a::as₀=>let r:=norm aw a;let s:=d7 r.2 as₀;(r.1::s.1,s.2)
def y9:List AV->Bool
 |[.int .u8 _]=>true
 |_=>false
def sZ:List AV->UInt8
 |[.int .u8 n]=>UInt8.ofNat n.toNat
 |_=>0
def tk:List AV->List AV->Option Bool
 |[],[]=>some true
 | .int _ a::l,.int _ b::m=>(tk l m).map λr=>a==b&&r
 | .str a::l,.str b::m=>(tk l m).map λr=>a==b&&r
 | .bool a::l,.bool b::m=>(tk l m).map λr=>a==b&&r
 |_,_=>none
def intBits(op:BinOp)(k:IntKind)(x y:Int):Int:=
 let a:=BitVec.ofInt k.bits x
 let b:=BitVec.ofInt k.bits y
 match op with
 | .and=>k.wrap (a &&& b).toNat
 | .or=>k.wrap (a ||| b).toNat
 | .xor=>k.wrap (a ^^^ b).toNat
 |_=>0
def Uv:AV->Nat
 | .int .i64 _=>1
 | .str _=>2
 | .bool _=>3
 |_=>0
def Dg(P:Program)(t:TypeId)(ks:List Nat):Prop:=
 P.eqGuardType P.depth t=false/\∀(σ:List Value) (w:World) (F:Nat->Prop) (x y:List AV) (vx vy:List Value) (r:Bool),x.map Uv=ks->y.map Uv=ks ->
  tk x y=some r->RelL σ w F x vx->RelL σ w F y vy->∀w',(Op.equal t (.agg vx.toArray) (.agg vy.toArray)).run P w'=.ok r w'
def jd(P:Program)(op:BinOp)(t:TypeId)(a b:AV)(K:AV->Prop):Prop:=
 match a,b with
 | .int k x,.int k' y=>
  (match op with
  | .add=>k=k'/\K (.int k (k.wrap (x+y)))
  | .sub=>k=k'/\K (.int k (k.wrap (x- y)))
  | .mul=>k=k'/\K (.int k (k.wrap (x*y)))
  | .quo=>k=k'/\y≠0/\K (.int k (k.wrap (x.tdiv y)))
  | .rem=>k=k'/\y≠0/\K (.int k (x.tmod y))
  | .and=>k=k'/\K (.int k (intBits .and k x y))
  | .or=>k=k'/\K (.int k (intBits .or k x y))
  | .xor=>k=k'/\K (.int k (intBits .xor k x y))
  | .shl=>0<=y/\K (.int k (k.wrap (x*2 ^ (min y.toNat k.bits))))
  | .shr=>0<=y/\K (.int k (x.fdiv (2 ^ (min y.toNat k.bits))))
  | .eql=>k=k'/\K (.bool (x==y))
  | .neq=>k=k'/\K (.bool (x !=y))
  | .lss=>k=k'/\K (.bool (decide (x<y)))
  | .leq=>k=k'/\K (.bool (decide (x<=y)))
  | .gtr=>k=k'/\K (.bool (decide (x> y)))
  | .geq=>k=k'/\K (.bool (decide (x>=y)))
  |_=>False)
 | .str x,.str y=>
  (match op with
  | .add=>x.length+y.length<=4611686018427387904/\K (.str (x++y))
  | .eql=>K (.bool (x==y))
  | .neq=>K (.bool (!(x==y)))
  |_=>False)
 | .bool x,.bool y=>
  (match op,P.underlying t with
  | .eql,some .bool=>K (.bool (x==y))
  | .neq,some .bool=>K (.bool (!(x==y)))
  |_,_=>False)
 | .nils,.nils=>(match op,P.underlying t with| .eql,some (.slice _)=>K (.bool true)| .neq,some (.slice _)=>K (.bool false)|_,_=>False)
 | .sl rows,.nils=>
  (match op,P.underlying t with
  | .eql,some (.slice _)=>∀z:Bool,(z=true->rows=[])->K (.bool z)
  | .neq,some (.slice _)=>∀z:Bool,(z=false->rows=[])->K (.bool z)
  |_,_=>False)
 | .agg x,.agg y=>
  (match op,tk x y with
  | .eql,some r=>x.map Uv=y.map Uv/\Dg P t (x.map Uv)/\K (.bool r)
  | .neq,some r=>x.map Uv=y.map Uv/\Dg P t (x.map Uv)/\K (.bool (!r))
  |_,_=>False)
 | .func _ _,.nilf=>(match op,P.underlying t with| .eql,some (.func _ _ _)=>K (.bool false)| .neq,some (.func _ _ _)=>K (.bool true)|_,_=>False)
 | .nilf,.nilf=>(match op,P.underlying t with| .eql,some (.func _ _ _)=>K (.bool true)| .neq,some (.func _ _ _)=>K (.bool false)|_,_=>False)
 |_,_=>False
def i7(place:Nat->Option (Nat×Nat))(cells:List AV):List (Nat×AV)->Option (List AV)
 |[]=>some cells
 |(i,v)::rest=>
  match place i,v.cells with
  |some (off,size),some vs=>if vs.length=size/\off+size<=cells.length then i7 place (splice cells off vs) rest else none
  |_,_=>none
def pP(P:Program)(t:TypeId):Option (List (Nat×Nat)):=
 match P.underlying t with
 |some (.struct fs)=>fs.toList.mapM λf=>(P.info? f.type).map λi=>(f.offset,i.size)
 |some (.array n e)=>(P.info? e).map λi=>(List.range n).map λk=>(k*i.size,i.size)
 |_=>none
def nZ(P:Program)(size:Nat)(rows:List (List AV)):List (Nat×AV)->Option (List (List AV))
 |[]=>some rows
 |(i,v)::rest=>
  match v.cells with
  |some vs=>if vs.length=size/\i<rows.length then nZ P size (rows.set i vs) rest else none
  |none=>none
def vcB(P:Program)(fr:List AV)(aw:List Ob)(b:Builtin)(args:List Operand)(ats:List TypeId)(K:AV->Prop):Prop:=
 match b,args,ats with
 | .len,[x],[t]=>
  (match P.underlying t,ev fr x with
  |some .string,.str s=>K (.int .i64 s.length)
  |some (.slice _),.sl rows=>K (.int .i64 rows.length)
  |some (.slice _),.nils=>K (.int .i64 0)
  |some (.slice _),.ref id=>(match aw[id]? with|some (.arr _ _ rows)=>K (.int .i64 rows.length)|_=>False)
  |_,_=>False)
 | .min,[x,y],_=>(match ev fr x,ev fr y with| .int k a,.int _ b=>K (.int k (if b<a then b else a))|_,_=>False)
 | .max,[x,y],_=>(match ev fr x,ev fr y with| .int k a,.int _ b=>K (.int k (if b> a then b else a))|_,_=>False)
 |_,_,_=>False
def vcQ(P:Program)(fr:List AV)(aw:List Ob)(op:Op)(K:AV->Prop):Prop:=
 match op with
 | .move x| .assign x=>K (ev fr x)
 | .pick c a b=>(match ev fr c with| .bool t=>K (pickV t (ev fr a) (ev fr b))|_=>False)
 | .load t x=>
  (match ev fr x with
  | .ptr id off=>(match aw[id]? with|some (.box cs)=>co P t cs off K|_=>False)
  | .elt row off=>co P t row off K
  |_=>False)
 | .fieldAddr t x k=>
  (match P.underlying t with
  | some (.struct fs)=>(match fs[k]? with
   |some f=>P.cellsOf f.type≠0/\(P.underlying f.type).isSome=true/\(match ev fr x with
    | .ptr id off=>K (.ptr id (off+f.offset))
    | .elt row off=>K (.elt row (off+f.offset))
    | .aptr id size i off=>K (.aptr id size i (off+f.offset))
    |_=>False)
   |none=>False)
  |_=>False)
 | .field t x k=>
  (match P.underlying t,ev fr x with
  |some (.struct fs),.agg cs=>(match fs[k]? with|some f=>co P f.type cs f.offset K|none=>False)
  |_,_=>False)
 | .indexAddr t x i=>
  (match P.underlying t,ev fr x,ev fr i with
  |some (.slice e),.sl rows,.int _ n=>0<=n/\n<rows.length/\∀row,rows[n.toNat]?=some row->row.length=P.cellsOf e/\(P.underlying e).isSome=true/\K (.elt row 0)
  |some (.slice e),.ref id,.int _ n=>(match aw[id]? with
   |some (.arr _ size rows)=>size=P.cellsOf e/\(P.underlying e).isSome=true/\0<=n/\n<rows.length/\K (.aptr id size n.toNat 0)
   |_=>False)
  |some (.array len e),.ptr id off,.int _ n=>(P.underlying e).isSome=true/\0<=n/\n<len/\1<len/\K (.ptr id (off+n.toNat*P.cellsOf e))
  |_,_,_=>False)
 | .index t x i=>
  (match P.underlying t,ev fr x,ev fr i with
  |some .string,.str s,.int _ n=>0<=n/\n<s.length/\∀b,s[n.toNat]?=some b->K (.int .u8 b.toNat)
  |_,_,_=>False)
 | .slice t x lo hi none=>
  (match P.underlying t,ev fr x with
  |some .string,.str s=>
   (match(lo.map (ev fr)).getD (.int .i64 0),(hi.map (ev fr)).getD (.int .i64 s.length)with
   | .int _ l,.int _ h=>0<=l/\l<=h/\h<=s.length/\K (.str ((s.take h.toNat).drop l.toNat))
   |_,_=>False)
  |some (.slice e),.sl rows=>
   (match(lo.map (ev fr)).getD (.int .i64 0),(hi.map (ev fr)).getD (.int .i64 rows.length)with
   | .int _ l,.int _ h=>(P.underlying e).isSome=true/\(∀row,row∈rows->row.length=P.cellsOf e)/\0<=l/\l<=h/\h<=rows.length/\K (.sl ((rows.take h.toNat).drop l.toNat))
   |_,_=>False)
  |_,_=>False)
 | .binOp op t x y _=>jd P op t (ev fr x) (ev fr y) K
 | .unOp op _ x=>
  (match op,ev fr x with
  | .not,.bool b=>K (.bool (!b))
  | .neg,.int k n=>K (.int k (k.wrap (0- n)))
  |_,_=>False)
 | .convert s d x=>
  (match P.underlying s,P.underlying d,ev fr x with
  |some _,some (.int k),.int _ n=>K (.int k (k.wrap n))
  |_,_,_=>False)
 | .makeFunc (.func f) first caps=>(match first.toList with
  |[]=>K (.func f (caps.toList.map (ev fr)))
  |x::xs=>caps.toList=[]/\K (.bnd f ((x::xs).map (ev fr))))
 | .build t parts=>(match bu P t,pP P t with
  |some z,some pl=>(match i7 (λi=>pl[i]?) z (parts.toList.map λp=>(p.1,ev fr p.2))with|some cs=>K (.agg cs)|none=>False)
  |_,_=>False)
 | .extract x k=>(match ev fr x with| .tup vs=>(match vs[k]? with|some v=>K v|none=>False)|_=>False)
 | .nilCheck x=>(match ev fr x with| .ptr id off=>K (.ptr id off)| .elt row off=>K (.elt row off)| .aptr id s i off=>K (.aptr id s i off)| .func f cs=>K (.func f cs)| .bnd f cs=>K (.bnd f cs)|_=>False)
 | .call c=>(match c.callee with| .builtin b=>vcB P fr aw b c.args.toList c.argTypes.toList K|_=>False)
 |_=>False
def isQ(fr:List AV):Op->Bool
 | .move _| .assign _| .pick _ _ _| .fieldAddr _ _ _| .field _ _ _| .indexAddr _ _ _| .index _ _ _| .binOp _ _ _ _ _| .unOp _ _ _| .makeFunc _ _ _| .build _ _| .extract _ _| .nilCheck _=>true
 | .load _ x=>(match ev fr x with| .aptr _ _ _ _=>false|_=>true)
 | .slice _ x _ _ _=>(match ev fr x with| .ref _=>false| .nils=>false|_=>true)
 | .convert _ _ x=>(match ev fr x with| .int _ _=>true|_=>false)
 | .call { callee:=.builtin .len,.. }| .call { callee:=.builtin .min,.. }| .call { callee:=.builtin .max,.. }=>true
 |_=>false
def vcApp(P:Program)(fr:List AV)(aw:List Ob)(args:List Operand)(ats:List TypeId)(K:AV->List Ob->Prop):Prop:=
  match args,ats with
  | [x, y], [t,t']=>
    t'=t/\(match P.underlying t with
    | some (.slice e)=>(match bu P e,ev fr x,norm aw (ev fr y)with
      |some z,.nils,(.sl rows,aw')=>z.length=P.cellsOf e/\0<P.cellsOf e/\(∀row,row∈rows->row.length=P.cellsOf e)/\rows.length<=1099511627776/\P.bytesOf e<=128 /\
          K (.ref aw'.length) (aw'++[.arr e (P.cellsOf e) rows])
      | some z,.ref id,(.sl rows,aw')=>(match aw'[id]? with
        |some (.arr e' size old)=>e'=e/\size=P.cellsOf e/\z.length=P.cellsOf e/\0<P.cellsOf e/\(∀row,row∈rows->row.length=P.cellsOf e)/\old.length+rows.length<=1099511627776/\P.bytesOf e<=128 /\
            K (.ref aw'.length) (aw'.set id .dead++[.arr e (P.cellsOf e) (old++rows)])
        |_=>False)
      |_,_,_=>False)
    |_=>False)
  |_,_=>False
def vcE(P:Program)(fr:List AV)(aw:List Ob)(op:Op)(K:AV->List Ob->Prop):Prop:=
 match op with
 | .alloc e=>(match bu P e with|some z=>K (.ptr aw.length 0) (aw++[.box z])|none=>False)
 | .box _ x=>(match(ev fr x).cells with|some cs=>K (.ptr aw.length 0) (aw++[.box cs])|none=>False)
 | .load t x=>
  (match ev fr x with
  | .aptr id size i off=>(match aw[id]? with
   |some (.arr _ size' rows)=>size'=size/\i<rows.length/\∀row,rows[i]?=some row->co P t row off λr=>K r aw
   |_=>False)
  |_=>False)
 | .store t x y=>
  (match ev fr x,(ev fr y).cells with
  | .ptr id off,some vs=>(match aw[id]? with
   |some (.box cs)=>(P.underlying t).isSome=true/\vs.length=P.cellsOf t/\off+vs.length<=cs.length/\K .any (aw.set id (.box (splice cs off vs)))
   |_=>False)
  | .aptr id size i off,some vs=>(match aw[id]? with
   | some (.arr e size' rows)=>(P.underlying t).isSome=true/\size'=size/\vs.length=P.cellsOf t/\i<rows.length/\off+vs.length<=size /\
     ∀row,rows[i]?=some row->K .any (aw.set id (.arr e size (rows.set i (splice row off vs))))
   |_=>False)
  |_,_=>False)
 | .slice t x lo hi none=>
  (match P.underlying t,norm aw (ev fr x)with
  |some (.slice e),(.sl rows,aw')=>
   (match(lo.map (ev fr)).getD (.int .i64 0),(hi.map (ev fr)).getD (.int .i64 rows.length)with
   | .int _ l,.int _ h=>(P.underlying e).isSome=true/\(∀row,row∈rows->row.length=P.cellsOf e)/\0<=l/\l<=h/\h<=rows.length/\K (.sl ((rows.take h.toNat).drop l.toNat)) aw'
   |_,_=>False)
  |_,_=>False)
 | .convert s d x=>
  (match P.underlying s,P.underlying d,norm aw (ev fr x)with
  |some (.slice e),some .string,(.sl rows,aw')=>P.underlying e=some (.int .u8)/\rows.all y9=true/\K (.str (rows.map sZ)) aw'
  |_,_,_=>False)
 | .buildSlice t len parts=>
  (match P.underlying t with
  | some (.slice e)=>(match bu P e with
   |some z=>z.length=P.cellsOf e/\0<P.cellsOf e/\len*P.cellsOf e<=2 ^ 24/\(match nZ P (P.cellsOf e) (List.replicate len z) ((parts.toList.map (·.1)).zip (d7 aw (parts.toList.map λp=>ev fr p.2)).1)with
    |some rows=>K (.ref (d7 aw (parts.toList.map λp=>ev fr p.2)).2.length) ((d7 aw (parts.toList.map λp=>ev fr p.2)).2++[.arr e (P.cellsOf e) rows])
    |none=>False)
   |none=>False)
  |_=>False)
 | .makeSlice t l c=>
  (match P.underlying t,ev fr l,ev fr c with
  |some (.slice e),.int _ n,.int _ m=>(match bu P e with
   | some z=>z.length=P.cellsOf e/\0<P.cellsOf e/\0<=n/\n<=m/\(n=0∨n=m)/\P.bytesOf e*m.toNat<=281474976710656/\m.toNat<=maxLen /\
     K (.ref aw.length) (aw++[.arr e (P.cellsOf e) (List.replicate n.toNat z)])
   |none=>False)
  |_,_,_=>False)
 | .call c=>(match c.callee with| .builtin .append=>vcApp P fr aw c.args.toList c.argTypes.toList K|_=>False)
 |_=>False
def iH(P:Program)(fr:List AV)(aw:List Ob)(op:Op)(K:AV->List Ob->Prop):Prop:=
 if isQ fr op=true then vcQ P fr aw op (λr=>K r aw)else vcE P fr aw op K
def Agr(aw:List Ob)(σ:List Value)(w:World)(F:Nat->Prop)(w':World):Prop:=
 ∀b,(F b∨∃(k:Nat) (cs:List AV) (v:Value),aw[k]?=some (Ob.box cs)/\σ[k]?=some v/\blk v=some b)->w'.heap[b]?=w.heap[b]?
def QOk(P:Program)(G:World->Prop)(σ:List Value)(w:World)(F:Nat->Prop)(c:Sem Value)(K:AV->Prop):Prop:=
 ∃v r,(∀w',G w'->c.run P w'=.ok v w')/\Rel σ w F r v/\K r
def OpOk(P:Program)(aw:List Ob)(σ:List Value)(w:World)(F:Nat->Prop)(c:Sem Next)(K:AV->List Ob->Prop):Prop:=
 ∃v n w' aw' σ' F' r,c.run P w=.ok n w'/\(n=.value v∨(n=.skip/\v=undef))/\Sim aw' σ' w' F'/\Mv aw σ w F aw' σ' w' F'/\Rel σ' w' F' r v/\K r aw'
theorem run_v{P:Program}{w w':World}{s:Sem Value}{v:Value}(h:s.run P w=.ok v w'):(do let x<- s;pure (Next.value x):Sem Next).run P w=.ok (.value v) w':=by simp_all
end
section
open Go.RowKit
section
variable {P:Program} {σ:List Value} {w:World} {F:Nat→Prop} {aw:List Ob}
variable {t:TypeId}{d:TypeDesc}{v:Value}{ad:Addr}
theorem HX (h:P.underlying t=some d):∃i,P.info? t=some i/\P.cellsOf t=i.size/\P.bytesOf t=i.bytes:=by grind[Program.underlying,Program.cellsOf,Program.bytesOf]
theorem eo (h:P.underlying t=some d)(w:World):(sizeOf t).run P w=.ok (P.cellsOf t) w:=by obtain⟨i,hi,hs,_⟩:=HX h;simp_all[sizeOf,typeInfo]
theorem vm {b:Bool}(h:dN P t=some b):∃d,P.underlying t=some d/\∀w,(isAgg t).run P w=.ok b w:=by
 unfold dN at h;cases hu:P.underlying t with
 |none=>grind
 |some d=>
  refine⟨d,J,λw=>?_⟩;rw[hu]at h;unfold isAgg;rw[Sem.run_bind,run_underlying hu w];cases d<;>simp_all
theorem lW {z:U AV}(h:bu P t=some z):∃i v,P.info? t=some i/\i.zero=some v/\v.cells.toList.length=z.length/\(∀u,u∈v.cells.toList->u.oneCell'=true) /\
  ∀σ w F,RelL σ w F z v.cells.toList:=by
 unfold bu at h
 cases hi:P.info? t with
 |none=>grind
 | some i=>
  rw[hi]at h
  cases hz:i.zero with
  |none=>grind
  | some v=>
   simp only[hz,RF]at h
   split at h
   .rename_i h1
    simp at h
    subst h
    refine⟨i,v,J,hz,by simp,λu hu=>Sc.1 h1 u hu,λσ w F=>⟨by simp,λj a u ha hu=>?_⟩⟩
    grind[Rel.ofVal1]
   .simp at h
theorem rA {i:TypeInfo}(hi:P.info? t=some i)(hz:i.zero=some v)(w:World):(zeroValue t).run P w=.ok v w:=by simp_all[zeroValue,typeInfo]
theorem Rel.cells {a:AV}{cs:U AV}(h:Rel σ w F a v)(hc:a.cells=some cs):RelL σ w F cs v.cells.toList/\∀u,u∈v.cells.toList->u.oneCell'=true:=by
 have single:∀(u:Value),Rel σ w F a u->u.cells=#[u]->u.oneCell'=true->cs=[a]->RelL σ w F cs u.cells.toList/\∀x,x∈u.cells.toList->x.oneCell'=true:=by intro u hu e1 e2 e3;rw[e1,e3];exact⟨.cons hu .nil,λx hx=>by grind⟩
 cases h with
 |any v=>grind[AV.cells]
 |tup cs vs h hc'=>grind[AV.cells]
 |agg cs' vs h h1 hc'=>
  simp[AV.cells]at hc;subst hc;exact⟨⟨by assumption,λj a u ha hu=>hc' j a u ha (by assumption)⟩,by assumption⟩
 |int k n=>simp[AV.cells]at hc;exact single _ (.int k n) J J hc.symm
 |bool b=>simp[AV.cells]at hc;exact single _ (.bool b) J J hc.symm
 |str s=>simp[AV.cells]at hc;exact single _ (.str s) J J hc.symm
 |nils=>simp[AV.cells]at hc;exact single _ .nils J J hc.symm
 |slNil=>simp[AV.cells]at hc;exact single _ .slNil J J hc.symm
 |sl rows size ad c u hF hn hm hrow hone hcell hrel=>simp[AV.cells]at hc;exact single _ (.sl rows size ad c u hF hn hm hrow hone hcell hrel) J J hc.symm
 |ref id a n c h=>simp[AV.cells]at hc;exact single _ (.ref id a n c h) J J hc.symm
 |ptr id off g h=>simp[AV.cells]at hc;exact single _ (.ptr id off g h) J J hc.symm
 |elt row off ad u hF hone hcell hrel=>simp[AV.cells]at hc;exact single _ (.elt row off ad u hF hone hcell hrel) J J hc.symm
 |aptr id size i off g n c h=>simp[AV.cells]at hc;exact single _ (.aptr id size i off g n c h) J J hc.symm
 |func f cs' vs h hc'=>simp[AV.cells]at hc;exact single _ (.func f cs' vs h hc') J J hc.symm
 |bnd f cs' vs h hc'=>simp[AV.cells]at hc;exact single _ (.bnd f cs' vs h hc') J J hc.symm
 |nilf=>simp[AV.cells]at hc;exact single _ .nilf J J hc.symm
 |nilp=>simp[AV.cells]at hc;exact single _ .nilp J J hc.symm
 |nili=>simp[AV.cells]at hc;exact single _ .nili J J hc.symm
 |mpr id r h=>simp[AV.cells]at hc;exact single _ (.mpr id r h) J J hc.symm
 |np0 id=>simp[AV.cells]at hc;exact single _ (.np0 id) J J hc.symm
 |npS id g h=>simp[AV.cells]at hc;exact single _ (.npS id g h) J J hc.symm
 |ifc t a v h=>simp[AV.cells]at hc;exact single _ (.ifc t a v h) J J hc.symm
 | cst v=>
  simp only[AV.cells]at hc;split at hc
  .rename_i h1;cases hc;have e1:v.cells=#[v]:=by cases v<;>first|rfl|grind[Value.oneCell']
   exact single v (.cst v) e1 h1 J
  .cases hc
 |vw id size lo n N C cap A B h hn hA hk hz=>simp[AV.cells]at hc;exact single _ (.vw id size lo n N C cap A B h hn hA hk hz) J J hc.symm
 |ref2 id a n c vs h h0=>simp[AV.cells]at hc;exact single _ (.ref2 id a n c vs h h0) J J hc.symm
 |aptr2 id i g n c vs h h0=>simp[AV.cells]at hc;exact single _ (.aptr2 id i g n c vs h h0) J J hc.symm
 |iref id i a n c vs h h0=>simp[AV.cells]at hc;exact single _ (.iref id i a n c vs h h0) J J hc.symm
theorem Agr.cell {w':World}(h:Agr aw σ w F w')(hb:F ad.block)(j:Nat):w'.cell? (ad.add j)=w.cell? (ad.add j):=
 World.cell?_of_block (w:=w) (by rw[pi];exact h _ (.inl hb))
theorem f8 (g off:Nat):(⟨g,0,none⟩:Addr).add off=⟨g,off,none⟩:=by grind[Addr.add]
theorem xJ {σ':U Value}{w0:World}{F':Nat->Prop}{row:U AV}{off:Nat}{K:AV->Prop}{u:Nat->Value}(hone:∀j,j<row.length->(u j).oneCell'=true)(hcell:∀w',Agr aw σ w F w'->∀j,j<row.length->w'.cell? (ad.add j)=some (u j))(hrel:∀(j:Nat) x,row[j]?=some x->Rel σ' w0 F' x (u j))(h:co P t row off K):
  ∃v r,(∀w',Agr aw σ w F w'->(loadVar t (ad.add off)).run P w'=.ok v w')/\Rel σ' w0 F' r v/\K r:=by
 unfold co at h
 split at h
 .rename_i hk
  obtain⟨hlen,hK⟩:=h
  obtain⟨d,hu,hagg⟩:=vm hk
  refine⟨.agg ((List.range (P.cellsOf t)).map λj=>u (off+j)).toArray,_,λw' hw'=>?_,?_,hK⟩
  .have hl:=run_loadCells_list (P:=P) w' (ad.add off) ((List.range (P.cellsOf t)).map λj=>u (off+j)) (λj v hj=>by
    grind[jF])
   simp_all[loadVar,eo]
  .refine .agg _ _ (by simp;omega) (λx hx=>?_) (λj c x hc hx=>?_)
   all_goals grind
 .rename_i hk
  obtain⟨d,hu,hagg⟩:=vm hk
  split at h
  .rename_i c hc
   have hlt:=(RH.1 hc).1
   exact⟨u off,c,λw' hw'=>by simp_all[loadVar],hrel _ _ hc,h⟩
  grind
 grind
variable {G:World→Prop}
variable {K:AV->Prop}{r p:Array TypeId}{e:TypeId}{b:Bool}
theorem Lo {row:U AV}{off:Nat}{vs:U Value}(hone:∀u,u∈vs->u.oneCell'=true)(hrel:RelL σ w F row vs)(h:co P t row off K):
  QOk P G σ w F (part t vs.toArray off) K:=by
 unfold co at h
 split at h
 .rename_i hk
  obtain⟨hlen,hK⟩:=h
  obtain⟨d,hu,hagg⟩:=vm hk
  refine⟨.agg ((vs.drop off).take (P.cellsOf t)).toArray,_,λw' _=>?_,?_,hK⟩
  .simp_all[part,eo]
  .have h2:=hrel.sub off (P.cellsOf t)
   exact .agg _ _ h2.1 (λu hu'=>hone u (SB (RV hu'))) h2.2
 .rename_i hk
  obtain⟨d,hu,hagg⟩:=vm hk
  split at h
  .rename_i c hc
   obtain⟨u,hu1,hr⟩:=hrel.get hc
   exact⟨u,c,λw' _=>by simp_all[part],hr,h⟩
  grind
 grind
theorem QOk.mk' {c:Sem Value}{r:AV}(hK:K r)(hr:Rel σ w F r v)(hrun:∀w',c.run P w'=.ok v w'):QOk P G σ w F c K:=⟨v,r,λw' _=>hrun w',hr,hK⟩
theorem xG (s:U UInt8):(ByteArray.mk s.toArray).size=s.length:=by rfl
theorem Kl (x y:U UInt8):ByteArray.mk x.toArray++ByteArray.mk y.toArray=ByteArray.mk (x++y).toArray:=by rfl
theorem Ml {x y:U UInt8}(h:x.length+y.length<=4611686018427387904):¬(((ByteArray.mk x.toArray).size+(ByteArray.mk y.toArray).size:Nat):Int)> IntKind.i64.max:=by grind[xG,IntKind.max,IntKind.bits]
theorem MX (d:Nat)(hu:P.underlying t=some (.slice e))(a:QbQ Addr)(n c:Nat)(w:World):(Op.equalIn (d+1) t (.slice a n c) (.slice none 0 0)).run P w=.ok a.isNone w:=by cases a<;>simp[Op.equalIn,Sem.run_bind,run_underlying hu]
theorem Ns (d:Nat)(hu:P.underlying t=some (.func p r b))(f:Fn)(x y:Array Value)(w:World):(Op.equalIn (d+1) t (.func f x y) .nilFunc).run P w=.ok false w:=by simp[Op.equalIn,Sem.run_bind,run_underlying hu]
theorem OA (d:Nat)(hu:P.underlying t=some (.func p r b))(w:World):(Op.equalIn (d+1) t .nilFunc .nilFunc).run P w=.ok true w:=by simp[Op.equalIn,Sem.run_bind,run_underlying hu]
theorem E9 (hu:P.underlying t=some .bool)(a b:Bool)(w:World):(Op.equal t (.bool a) (.bool b)).run P w=.ok (a==b) w:=run_equalIn_bool' w 9999 t a b hu
theorem qi (hu:P.underlying t=some (.slice e))(a:QbQ Addr)(n c:Nat)(w:World):(Op.equal t (.slice a n c) (.slice none 0 0)).run P w=.ok a.isNone w:=MX 9999 hu a n c w
theorem eq_fn (hu:P.underlying t=some (.func p r b))(f:Fn)(x y:Array Value)(w:World):(Op.equal t (.func f x y) .nilFunc).run P w=.ok false w:=Ns 9999 hu f x y w
theorem eq_nf (hu:P.underlying t=some (.func p r b))(w:World):(Op.equal t .nilFunc .nilFunc).run P w=.ok true w:=OA 9999 hu w
theorem MY {op:BinOp}{x y:Operand}{a b:AV}{va vb:Value}(ha:Rel σ w F a va)(hb:Rel σ w F b vb)(h:jd P op t a b K):
  QOk P G σ w F (do eqGuard op t x y va vb;binOp op t va vb) K:=by
 unfold jd at h
 split at h
 .cases ha;cases hb
  split at h<;>(try exact h.elim)
  .obtain⟨rfl,h⟩:=h;exact .mk' h (.int _ _) (λw'=>by simp[eqGuard,binOp,Op.intArith])
  .obtain⟨rfl,h⟩:=h;exact .mk' h (.int _ _) (λw'=>by simp[eqGuard,binOp,Op.intArith])
  .obtain⟨rfl,h⟩:=h;exact .mk' h (.int _ _) (λw'=>by simp[eqGuard,binOp,Op.intArith,Sem.run_bind])
  .obtain⟨rfl,h0,h⟩:=h;exact .mk' h (.int _ _) (λw'=>by simp_all[eqGuard,binOp,Op.intDiv])
  .obtain⟨rfl,h0,h⟩:=h;exact .mk' h (.int _ _) (λw'=>by simp_all[eqGuard,binOp,Op.intDiv])
  .obtain⟨rfl,h⟩:=h;exact .mk' h (.int _ _) (λw'=>by simp[eqGuard,binOp,Op.intBits,intBits])
  .obtain⟨rfl,h⟩:=h;exact .mk' h (.int _ _) (λw'=>by simp[eqGuard,binOp,Op.intBits,intBits])
  .obtain⟨rfl,h⟩:=h;exact .mk' h (.int _ _) (λw'=>by simp[eqGuard,binOp,Op.intBits,intBits,Sem.run_bind])
  .obtain⟨h0,h⟩:=h;exact .mk' h (.int _ _) (λw'=>by simp[eqGuard,binOp,Op.shift,Sem.run_bind,Int.not_lt.2 h0])
  .obtain⟨h0,h⟩:=h;exact .mk' h (.int _ _) (λw'=>by simp[eqGuard,binOp,Op.shift,Sem.run_bind,Int.not_lt.2 h0])
  .obtain⟨rfl,h⟩:=h;exact .mk' h (.bool _) (λw'=>by simp[eqGuard,binOp,Op.intCmp])
  .obtain⟨rfl,h⟩:=h;exact .mk' h (.bool _) (λw'=>by simp[eqGuard,binOp,Op.intCmp])
  .obtain⟨rfl,h⟩:=h;exact .mk' h (.bool _) (λw'=>by simp[eqGuard,binOp,Op.intCmp])
  .obtain⟨rfl,h⟩:=h;exact .mk' h (.bool _) (λw'=>by simp[eqGuard,binOp,Op.intCmp])
  .obtain⟨rfl,h⟩:=h;exact .mk' h (.bool _) (λw'=>by simp[eqGuard,binOp,Op.intCmp])
  .obtain⟨rfl,h⟩:=h;exact .mk' h (.bool _) (λw'=>by simp[eqGuard,binOp,Op.intCmp,Sem.run_bind])
 .cases ha;cases hb
  split at h<;>(try exact h.elim)
  .obtain⟨h0,h⟩:=h
   exact .mk' h (.str _) (λw'=>by simp only[eqGuard,binOp,Op.stringOp,Sem.run_bind,Sem.run_pure,Result.andThen_ok,if_neg (Ml h0),Kl];rfl)
  .exact .mk' h (.bool _) (λw'=>by simp[eqGuard,binOp,Op.stringOp])
  .exact .mk' h (.bool _) (λw'=>by simp[eqGuard,binOp,Op.stringOp])
 .cases ha;cases hb
  split at h<;>(try exact h.elim)
  .rename_i hu
   exact .mk' h (.bool _) (λw'=>by simp_all[eqGuard,binOp,E9])
  .rename_i hu
   exact .mk' h (.bool _) (λw'=>by simp_all[eqGuard,binOp,E9])
 .cases ha;cases hb
  split at h<;>(try exact h.elim)
  .rename_i hu
   exact .mk' h (.bool _) (λw'=>by simp_all[eqGuard,binOp,qi])
  .rename_i hu
   exact .mk' h (.bool _) (λw'=>by simp_all[eqGuard,binOp,qi])
 .cases hb
  split at h<;>(try exact h.elim)
  .rename_i hu
   cases ha with
   |slNil=>exact .mk' (h true (λ_=>J)) (.bool _) (λw'=>by simp_all[eqGuard,binOp,qi])
   |sl=>exact .mk' (h false (λe=>by cases e)) (.bool _) (λw'=>by simp_all[eqGuard,binOp,qi])
  .rename_i hu
   cases ha with
   |slNil=>exact .mk' (h false (λ_=>J)) (.bool _) (λw'=>by simp_all[eqGuard,binOp,qi])
   |sl=>exact .mk' (h true (λe=>by cases e)) (.bool _) (λw'=>by simp_all[eqGuard,binOp,qi])
 .cases ha with
  | agg cs vs hl h1 hc=>cases hb with
   | agg cs' vs' hl' h1' hc'=>
    split at h<;>(try exact h.elim)
    .rename_i hq
     obtain⟨hk,⟨hg,hS⟩,h⟩:=h
     exact .mk' h (.bool _) (λw'=>by have:=hS σ w F _ _ vs vs' _ J hk.symm hq ⟨hl,hc⟩ ⟨hl',hc'⟩ w';simp_all[eqGuard,binOp])
    .rename_i hq
     obtain⟨hk,⟨hg,hS⟩,h⟩:=h
     exact .mk' h (.bool _) (λw'=>by have:=hS σ w F _ _ vs vs' _ J hk.symm hq ⟨hl,hc⟩ ⟨hl',hc'⟩ w';simp_all[eqGuard,binOp])
 .cases ha;cases hb
  split at h<;>(try exact h.elim)
  .rename_i hu
   exact .mk' h (.bool _) (λw'=>by simp[eqGuard,binOp,Sem.run_bind,eq_fn hu])
  .rename_i hu
   exact .mk' h (.bool _) (λw'=>by simp[eqGuard,binOp,Sem.run_bind,eq_fn hu])
 .cases ha;cases hb
  split at h<;>(try exact h.elim)
  .rename_i hu
   exact .mk' h (.bool _) (λw'=>by simp[eqGuard,binOp,Sem.run_bind,eq_nf hu])
  .rename_i hu
   exact .mk' h (.bool _) (λw'=>by simp[eqGuard,binOp,Sem.run_bind,eq_nf hu])
 grind
theorem PU {fr:U AV}{a:Act}(ha:ARel σ w F fr a)(hs:Sim aw σ w F){b:Builtin}{args:Array Operand}{ats:Array TypeId}{ty:TypeId}(h:vcB P fr aw b args.toList ats.toList K):
  ∃v r,(∀cs w',(builtin b ats ty cs (args.map a.eval)).run P w'=.ok (.value v) w')/\Rel σ w F r v/\K r:=by
 obtain⟨args⟩:=args
 obtain⟨ats⟩:=ats
 simp only at h
 unfold vcB at h
 split at h
 .rename_i x t
  have hx:=ha.ev x
  split at h
  .rename_i hu hx'
   rw[hx']at hx
   cases hv:a.eval x<;>rw[hv]at hx<;>cases hx
   refine⟨_,_,λcs w'=>?_,.int _ _,h⟩
   simp_all[builtin,Builtin.len_,run_underlying,goInt,xG]
  .rename_i hu hx'
   rw[hx']at hx
   cases hv:a.eval x<;>rw[hv]at hx<;>cases hx
   .refine⟨_,_,λcs w'=>?_,.int _ _,h⟩
    simp_all[builtin,Builtin.len_,run_underlying,goInt]
   .refine⟨_,_,λcs w'=>?_,.int _ _,h⟩
    simp[builtin,Builtin.len_,Sem.run_bind,run_underlying hu,hv,goInt]
  .rename_i hu hx'
   rw[hx']at hx
   cases hv:a.eval x<;>rw[hv]at hx<;>cases hx
   refine⟨_,_,λcs w'=>?_,.int _ _,h⟩
   simp_all[builtin,Builtin.len_,run_underlying,goInt]
  .rename_i id hu hx'
   rw[hx']at hx
   split at h
   .rename_i e size rows ho
    cases hv:a.eval x<;>rw[hv]at hx<;>cases hx
    rename_i ad n c hσ
    obtain⟨fl,hown,_,_⟩:=hs.obj id _ _ ho hσ
    have hn:n=rows.length:=by
     rcases hown.2 with⟨e1,e2⟩|⟨g,cap,cur,e1,_⟩
     all_goals grind
    subst hn
    refine⟨_,_,λcs w'=>?_,.int _ _,h⟩
    simp[builtin,Builtin.len_,Sem.run_bind,run_underlying hu,hv,goInt]
   grind
  grind
 .rename_i _ x y
  split at h
  .rename_i hx' hy'
   have hx:=ha.ev x
   have hy:=ha.ev y
   rw[hx']at hx
   rw[hy']at hy
   cases hv:a.eval x<;>rw[hv]at hx<;>cases hx
   cases hv':a.eval y<;>rw[hv']at hy<;>cases hy
   refine⟨_,_,λcs w'=>?_,.int _ _,h⟩
   simp_all[builtin,Builtin.min_,Builtin.min2]
  grind
 .rename_i _ x y
  split at h
  .rename_i hx' hy'
   have hx:=ha.ev x
   have hy:=ha.ev y
   rw[hx']at hx
   rw[hy']at hy
   cases hv:a.eval x<;>rw[hv]at hx<;>cases hx
   cases hv':a.eval y<;>rw[hv']at hy<;>cases hy
   refine⟨_,_,λcs w'=>?_,.int _ _,h⟩
   simp_all[builtin,Builtin.max_,Builtin.max2]
  grind
 grind
end
end
section
open Go.RowKit
section
variable {P:Program} {σ:List Value} {w:World} {F:Nat→Prop} {aw:List Ob} {G:World→Prop}
def NOk(P:Program)(G:World->Prop)(σ:List Value)(w:World)(F:Nat->Prop)(c:Sem Next)(K:AV->Prop):Prop:=
 ∃v r,(∀w',G w'->c.run P w'=.ok (.value v) w')/\Rel σ w F r v/\K r
variable {c:Sem Value}{K:AV->Prop}{fr as₀:U AV}{a:Act}{t:TypeId}{x i:Operand}{k:Nat}{lo hi:QbQ Operand}{vs us:U Value}
theorem QOk.n (h:QOk P G σ w F c K):NOk P G σ w F (do let x<- c;pure (Next.value x)) K:=by obtain⟨v,r,h1,h2,h3⟩:=h;exact⟨v,r,λw' hw=>run_v (h1 w' hw),h2,h3⟩
theorem NOk.mk' {c:Sem Next}{v:Value}{r:AV}(hK:K r)(hr:Rel σ w F r v)(hrun:∀w',c.run P w'=.ok (.value v) w'):NOk P G σ w F c K:=⟨v,r,λw' _=>hrun w',hr,hK⟩
theorem QOk.of_run {c':Sem Value}(h:QOk P G σ w F c K)(he:∀w',c'.run P w'=c.run P w'):QOk P G σ w F c' K:=by obtain⟨v,r,h1,h2,h3⟩:=h;exact⟨v,r,λw' hw=>(he w').trans (h1 w' hw),h2,h3⟩
theorem xc {ad:Addr}{f:Field}{d:TypeDesc}(hu:P.underlying f.type=some d)(h0:P.cellsOf f.type≠0)(w:World):(fieldPlace ad f).run P w=.ok (ad.add f.offset) w:=by simp_all[fieldPlace,eo]
theorem Gb (ha:ARel σ w F fr a)(hs:Sim aw σ w F)(h:vcQ P fr aw (.load t x) K):QOk P (Agr aw σ w F) σ w F (Instr.loadAt t (a.eval x)) K:=by
 simp only[vcQ]at h;have hx:=ha.ev x;split at h
 .rename_i id off e;rw[e]at hx;split at h
  .rename_i cs ho;cases hv:a.eval x<;>rw[hv]at hx<;>cases hx;rename_i g hσ;obtain⟨g',vs,ty,e1,hg,hr,h1,hf⟩:=hs.obj id _ _ ho hσ;injection e1 with e1
   injection e1 with e1
   injection e1 with e1
   subst e1;have hq:QOk P (Agr aw σ w F) σ w F _ K:=xJ (P:=P) (aw:=aw) (σ:=σ) (w:=w) (F:=F) (ad:=⟨g,0,none⟩) (u:=λj=>vs.toList.getD j undef) (row:=cs) (λj hj=>h1 _ (by
     have:j<vs.toList.length:=by rw[hr.1];exact hj
     grind))
    (λw' hw' j hj=>by
     have hlt:j<vs.toList.length:=by rw[hr.1];exact hj
     have hb:w'.heap[g]?=w.heap[g]?:=hw' g (.inr ⟨id,cs,_,ho,hσ,J⟩);grind[f8,cell_of_row])
    (λj c hc=>by obtain⟨v,hv,hrel⟩:=hr.get hc;grind) h
   grind[f8,Instr.loadAt,Instr.sureAddr]
  grind
 .rename_i row off e;rw[e]at hx;cases hv:a.eval x<;>rw[hv]at hx<;>cases hx;rename_i ad u hF hone hcell hrel;have hq:QOk P (Agr aw σ w F) σ w F _ K:=xJ (P:=P) (aw:=aw) (ad:=ad) (u:=u) hone (λw' hw' j hj=>by
   rw[hw'.cell (hF (by grind)) j];grind) hrel h
  assumption
 grind
theorem I9 (ha:ARel σ w F fr a)(h:vcQ P fr aw (.fieldAddr t x k) K):QOk P G σ w F (Instr.fieldAt t (a.eval x) k) K:=by
 simp only[vcQ]at h;have hx:=ha.ev x;split at h
 .rename_i fs hu;split at h
  .rename_i f hf;obtain⟨h0,hs,h⟩:=h;obtain⟨d,hd⟩:=R0.1 hs;split at h
   .rename_i id off e;rw[e]at hx;cases hv:a.eval x<;>rw[hv]at hx<;>cases hx;rename_i g hσ;refine .mk' h (.ptr id (off+f.offset) g hσ) (λw'=>?_);have e:(⟨g,off,none⟩:Addr).add f.offset=⟨g,off+f.offset,none⟩:=by rw[<- f8,jF,f8]
    simp_all[Instr.fieldAt,Instr.sureAddr,run_underlying,xc]
   .rename_i row off e;rw[e]at hx;cases hv:a.eval x<;>rw[hv]at hx<;>cases hx;rename_i ad u hF hone hcell hrel;refine .mk' h (.elt row (off+f.offset) ad u hF hone hcell hrel) (λw'=>?_);simp_all[Instr.fieldAt,Instr.sureAddr,run_underlying,xc,jF]
   .rename_i id size i off e;rw[e]at hx;cases hv:a.eval x<;>rw[hv]at hx<;>cases hx;rename_i g n c hσ;refine .mk' h (.aptr id size i (off+f.offset) g n c hσ) (λw'=>?_);have e:(⟨g,i*size+off,none⟩:Addr).add f.offset=⟨g,i*size+(off+f.offset),none⟩:=by rw[<- f8,jF,f8,Nat.add_assoc]
    simp_all[Instr.fieldAt,Instr.sureAddr,run_underlying,xc]
   grind
  grind
 grind
theorem I1 (ha:ARel σ w F fr a)(hs:Sim aw σ w F)(h:vcQ P fr aw (.indexAddr t x i) K):QOk P G σ w F (Instr.indexAt t (a.eval x) (a.eval i)) K:=by
 simp only[vcQ]at h;have hx:=ha.ev x;have hi:=ha.ev i;split at h
 .rename_i e rows k n hu ex ei;rw[ex]at hx;rw[ei]at hi;obtain⟨h0,h1,h⟩:=h;cases hvi:a.eval i<;>rw[hvi]at hi<;>cases hi;have hlt:n.toNat<rows.length:=by omega
  generalize a.eval x=vx at hx ⊢;cases hx with
  |slNil=>simp at hlt
  | sl _ size ad c u hF hn hm hrow hone hcell hrel=>
   obtain⟨h2,h3,h⟩:=h rows[n.toNat] (RG hlt);obtain⟨d,hd⟩:=R0.1 h3;have hsz:size=P.cellsOf e:=by grind
   have hne:rows≠[]:=by grind
   refine .mk' h (v:=.pointer (some ((ad.add (n.toNat*size)).add 0))) (.elt rows[n.toNat] 0 (ad.add (n.toNat*size)) (u n.toNat) (λ_=>by grind[pi])
    (λj hj=>hone _ _ hlt (by omega)) (λj hj=>by grind[jF]) (λj y hy=>hrel _ _ _ _ (RG hlt) hy)) (λw'=>?_)
   have e0:(ad.add (n.toNat*size)).add 0=ad.add (n.toNat*size):=by rfl
   rw[e0,hsz];simp[Instr.indexAt,asIntOf,Sem.run_bind,run_underlying hu,eo hd,h0,h1]
 .rename_i e id k n hu ex ei;rw[ex]at hx;rw[ei]at hi;split at h
  .rename_i e' size rows ho;obtain⟨h2,h3,h0,h1,h⟩:=h;obtain⟨d,hd⟩:=R0.1 h3;cases hvi:a.eval i<;>rw[hvi]at hi<;>cases hi;cases hv:a.eval x<;>rw[hv]at hx<;>cases hx;rename_i ad n' c hσ;obtain⟨fl,hown,_,_⟩:=hs.obj id _ _ ho hσ;rcases hown.2 with⟨e1,e2⟩|⟨g,cap,cur,e1,_⟩
   .omega
   .injection e1 with e1 e2 e3
    subst e1;subst e2;subst e3;refine .mk' h (.aptr id size n.toNat 0 g _ _ hσ) (λw'=>?_);rw[SY];have e4:(⟨g,0,none⟩:Addr).add (n.toNat*size)=⟨g,n.toNat*size,none⟩:=f8 _ _;rw[h2]at e4 ⊢;simp[Instr.indexAt,asIntOf,Sem.run_bind,run_underlying hu,eo hd,h0,h1,e4]
  grind
 .rename_i len e id off k n hu ex ei;rw[ex]at hx;rw[ei]at hi;obtain⟨h3,h0,h1,h2,h⟩:=h;obtain⟨d,hd⟩:=R0.1 h3;cases hvi:a.eval i<;>rw[hvi]at hi<;>cases hi;cases hv:a.eval x<;>rw[hv]at hx<;>cases hx;rename_i g hσ;refine .mk' h (.ptr id (off+n.toNat*P.cellsOf e) g hσ) (λw'=>?_);have e4:(⟨g,off,none⟩:Addr).add (n.toNat*P.cellsOf e)=⟨g,off+n.toNat*P.cellsOf e,none⟩:=by rw[<- f8,jF,f8]
  simp[Instr.indexAt,asIntOf,Sem.run_bind,run_underlying hu,eo hd,h0,h1,e4,Instr.sureAddr]
 grind
theorem Nu (ha:ARel σ w F fr a)(h:vcQ P fr aw (.index t x i) K):QOk P G σ w F (Instr.index t (a.eval x) (a.eval i)) K:=by
 simp only[vcQ]at h;have hx:=ha.ev x;have hi:=ha.ev i;split at h
 .rename_i s k n hu ex ei;rw[ex]at hx;rw[ei]at hi;obtain⟨h0,h1,h⟩:=h;have hlt:n.toNat<s.length:=by omega
  cases hvi:a.eval i<;>rw[hvi]at hi<;>cases hi;cases hv:a.eval x<;>rw[hv]at hx<;>cases hx;refine .mk' (h _ (RG hlt)) (.int _ _) (λw'=>?_);have e:(ByteArray.mk s.toArray)[n.toNat]?=some s[n.toNat]:=by rw[getElem?_pos (ByteArray.mk s.toArray) n.toNat (by assumption)];rfl
  simp_all[Instr.index,asIntOf,run_underlying]
 grind
theorem ny (ha:ARel σ w F fr a){b:Bool}{len cap:Nat}{kl kh:IntKind}{l h:Int}(el:(lo.map (ev fr)).getD (.int .i64 0)=.int kl l)(eh:(hi.map (ev fr)).getD (.int .i64 len)=.int kh h)(h0:0<=l)(h1:l<=h)(h2:h<=len)(h3:len<=cap)(w':World):
  (Instr.sliceBounds b len cap (lo.map a.eval) (hi.map a.eval) none).run P w'=.ok (l.toNat,h.toNat,cap) w':=by
 have get:∀(z:Operand) (k:IntKind) (n:Int),ev fr z=.int k n->a.eval z=.int k n:=by intro z k n e;have hz:=ha.ev z;rw[e]at hz;generalize a.eval z=vz at hz ⊢;cases hz;rfl
 cases hi with
 | none=>
  simp at eh
  obtain⟨_,rfl⟩:=eh
  cases lo with
  |none=>
   simp at el
   obtain⟨_,rfl⟩:=el
   rfl
  |some z=>
   simp at el
   simp[Instr.sliceBounds,Sem.run_bind,get z _ _ el,run_sliceBound,h0,h1]
 | some y=>
  simp at eh
  have b1:∀code w',(Instr.sliceBound (.int kh h) cap code).run P w'=.ok h.toNat w':=λcode w'=>run_sliceBound (P:=P) w' kh h cap code (by omega) (by omega)
  cases lo with
  |none=>
   simp at el
   obtain⟨_,rfl⟩:=el
   simp[Instr.sliceBounds,Sem.run_bind,get y _ _ eh,b1]
  |some z=>
   simp at el
   have b2:∀code w',(Instr.sliceBound (.int kl l) h.toNat code).run P w'=.ok l.toNat w':=λcode w'=>run_sliceBound (P:=P) w' kl l h.toNat code h0 (by omega)
   simp[Instr.sliceBounds,Sem.run_bind,get y _ _ eh,get z _ _ el,b1,b2]
theorem Rel.piece {rows:U (U AV)}{e l h:Nat}{A:QbQ Addr}{n c:Nat}(hr:Rel σ w F (.sl rows) (.slice A n c))(hsz:∀row,row∈rows->row.length=e)(h1:l<=h)(h2:h<=rows.length):
  n=rows.length/\n<=c/\Rel σ w F (.sl ((rows.take h).drop l)) (.slice (if c=l then A else A.map (·.add (l*e))) (h- l) (c- l)):=by
 cases hr with
 |slNil=>
  have:h=0:=by grind
  subst this
  have:l=0:=by omega
  subst this
  exact⟨J,RJ _,by simpa using Rel.slNil⟩
 | sl _ size ad _ u hF hn hm hrow hone hcell hrel=>
  refine⟨J,hn,?_⟩
  have hlen:((rows.take h).drop l).length=h- l:=by simp;omega
  by_cases hcl:c=l
  .have hz:h- l=0:=by omega
   have hnil:(rows.take h).drop l=[]:=RP (by rw[hlen,hz])
   rw[if_pos hcl,hnil,hz]
   exact .sl [] 0 ad (c- l) u (λh=>absurd J h) (Sb _) (by omega) (λ_ h=>by simp at h) (λi j hi=>by simp at hi) (λi j hi=>by simp at hi) (λi row j x hi=>by simp at hi)
  .rw[if_neg hcl,SJ]
   have hget:∀(i:Nat) row,((rows.take h).drop l)[i]?=some row->rows[l+i]?=some row:=λi row hi=>by grind
   have hh:=Rel.sl (σ:=σ) (w:=w) (F:=F) ((rows.take h).drop l) size (ad.add (l*e)) (c- l) (λi j=>u (l+i) j)
    (λhne=>by grind[pi]) (by omega) (by omega)
    (λrow hr=>hrow row (RV (SB hr)))
    (λi j hi hj=>hone _ _ (by omega) hj)
    (λi j hi hj=>by
     rw[hlen]at hi;have hlt:l<rows.length:=by omega
     have:size=e:=(hrow _ (R6 hlt)).symm.trans (hsz _ (R6 hlt));subst this;grind[jF])
    (λi row j x hi hx=>hrel _ _ _ _ (hget i row hi) hx)
   grind
theorem Nn (ha:ARel σ w F fr a)(h:vcQ P fr aw (.slice t x lo hi none) K):
  QOk P G σ w F (Instr.sliceAt t (a.eval x) (lo.map a.eval) (hi.map a.eval) none) K:=by
 simp only[vcQ]at h
 have hx:=ha.ev x
 split at h
 .rename_i s hu ex
  rw[ex]at hx
  split at h
  .rename_i kl l kh hh el eh
   obtain⟨h0,h1,h2,h⟩:=h
   generalize a.eval x=vx at hx⊢
   cases hx
   refine .mk' h (.str _) (λw'=>?_)
   have b:=λw'=>ny (P:=P) ha (b:=false) (cap:=s.length) el eh h0 h1 h2 (RJ _) w'
   have e:(ByteArray.mk s.toArray).extract l.toNat hh.toNat=ByteArray.mk ((s.take hh.toNat).drop l.toNat).toArray:=by apply ByteArray.ext;simp[List.drop_take]
   simp_all[Instr.sliceAt,Instr.slice,run_underlying,xG]
  grind
 .rename_i e rows hu ex
  rw[ex]at hx
  split at h
  .rename_i kl l kh hh el eh
   obtain⟨hsome,hrow,h0,h1,h2,h⟩:=h
   obtain⟨d,hd⟩:=R0.1 hsome
   generalize a.eval x=vx at hx⊢
   have hform:∃A n c,vx=.slice A n c:=by cases hx<;>exact⟨_,_,_,rfl⟩
   obtain⟨A,n,c,rfl⟩:=hform
   obtain⟨hn,hnc,hr⟩:=hx.piece (l:=l.toNat) (h:=hh.toNat) hrow (by omega) (by omega)
   subst hn
   refine .mk' h hr (λw'=>?_)
   have b:=λw'=>ny (P:=P) ha (b:=true) (cap:=c) el eh h0 h1 h2 hnc w'
   simp[Instr.sliceAt,Instr.slice,Sem.run_bind,run_underlying hu,b,eo hd]
  grind
 grind
theorem NK (ha:ARel σ w F fr a)(h:vcQ P fr aw (.field t x k) K):QOk P G σ w F (Instr.field t (a.eval x) k) K:=by
 simp only[vcQ]at h;have hx:=ha.ev x;split at h
 .rename_i fs cs hu ex;rw[ex]at hx;split at h
  .rename_i f hf;generalize a.eval x=vx at hx ⊢;cases hx with
   |agg _ vs hl h1 hc=>
    exact(Lo (P:=P) h1 ⟨hl,hc⟩ h).of_run (λw'=>by simp_all[Instr.field,asAgg,run_underlying])
  grind
 grind
theorem PH (ha:ARel σ w F fr a){op:UnOp}(h:vcQ P fr aw (.unOp op t x) K):QOk P G σ w F (Op.unary op (a.eval x)) K:=by
 simp only[vcQ]at h;have hx:=ha.ev x;split at h
 .rename_i b ex;rw[ex]at hx;generalize a.eval x=vx at hx ⊢;cases hx;exact .mk' h (.bool _) (λw'=>by rfl)
 .rename_i k n ex;rw[ex]at hx;generalize a.eval x=vx at hx ⊢;cases hx;exact .mk' h (.int _ _) (λw'=>by rfl)
 grind
theorem Ks (ha:ARel σ w F fr a){s d:TypeId}(h:vcQ P fr aw (.convert s d x) K):QOk P G σ w F (convert s d (a.eval x)) K:=by
 simp only[vcQ]at h;have hx:=ha.ev x;split at h
 .rename_i ds k k' n hs hd ex;rw[ex]at hx;generalize a.eval x=vx at hx ⊢;cases hx;exact .mk' h (.int _ _) (λw'=>by simp_all[convert,run_underlying,Conv.intToInt])
 grind
theorem La (ha:ARel σ w F fr a)(h:vcQ P fr aw (.extract x k) K):QOk P G σ w F (Instr.extract (a.eval x) k) K:=by
 simp only[vcQ]at h;have hx:=ha.ev x;split at h
 .rename_i vs ex;rw[ex]at hx;split at h
  .rename_i v hv;generalize a.eval x=vx at hx ⊢;cases hx with
   |tup _ us hl hc=>
    obtain⟨u,hu,hr⟩:=RelL.get ⟨hl,hc⟩ hv;exact .mk' h hr (λw'=>by simp[Instr.extract,hu])
  grind
 grind
theorem kF (ha:ARel σ w F fr a)(xs:U Operand):RelL σ w F (xs.map (ev fr)) (xs.map a.eval):=by
 induction xs with
 |nil=>exact .nil
 |cons x xs ih=>exact .cons (ha.ev x) ih
theorem JD (ha:ARel σ w F fr a){fn:Fn}{first caps:Array Operand}(h:vcQ P fr aw (.makeFunc fn first caps) K):
  QOk P G σ w F (Instr.makeFunc fn (first.map a.eval) (caps.map a.eval)) K:=by
 cases fn<;>simp only[vcQ]at h<;>try exact h.elim
 obtain⟨first⟩:=first
 obtain⟨caps⟩:=caps
 cases first with
 |nil=>
  have hr:=kF ha caps
  refine .mk' h (.func _ _ (caps.map a.eval) hr.1 hr.2) (λw'=>?_)
  simp[Instr.makeFunc]
 |cons x xs=>
  obtain⟨h0,h⟩:=h
  simp only at h0
  subst h0
  have hr:=kF ha (x::xs)
  refine .mk' h (.bnd _ _ ((x::xs).map a.eval) hr.1 hr.2) (λw'=>?_)
  simp[Instr.makeFunc]
theorem RelL.take (h:RelL σ w F as₀ vs)(n:Nat):RelL σ w F (as₀.take n) (vs.take n):=by simpa using h.sub 0 n
theorem RelL.drop (h:RelL σ w F as₀ vs)(n:Nat):RelL σ w F (as₀.drop n) (vs.drop n):=by refine⟨by simp[h.1],λj a v ha hv=>?_⟩;rw[Sz]at ha hv;exact h.2 _ a v ha hv
def dv(cs:List Value)(off:Nat)(vs:List Value):List Value:=cs.take off++vs++cs.drop (off+vs.length)
theorem RelL.splice {bs:U AV}(h:RelL σ w F as₀ vs)(off:Nat)(k:RelL σ w F bs us):RelL σ w F (splice as₀ off bs) (dv vs off us):=by unfold Go.Proofs.YtfglbbhdfgjheaaGreatDoor.splice dv;rw[k.1];exact((h.take off).append k).append (h.drop _)
theorem uZ {off:Nat}(h1:∀u,u∈vs->u.oneCell'=true)(h2:∀u,u∈us->u.oneCell'=true):∀u,u∈dv vs off us->u.oneCell'=true:=by grind[dv]
theorem B5 (off:Nat):∀(vs:U Value) (k:Nat) (cells:Array Value),off+k+vs.length<=cells.size ->
  ((vs.zipIdx k).foldl (λcs p=>cs.setIfInBounds (off+p.2) p.1) cells).toList=dv cells.toList (off+k) vs
 |[],k,cells,_=>by simp[dv]
 | v::vs,k,cells,h=>by
  simp only[List.zipIdx_cons,List.foldl_cons];rw[B5 off vs (k+1) _ (by grind)];simp only[dv,Array.toList_setIfInBounds,R8];apply Sw;intro j;simp only[R8]at h;rw[Sk,Sk,Sk,Sk];simp only[RN,S2,SW,R8,Array.length_toList];rcases Nat.lt_trichotomy j (off+k)with hj|hj|hj
  .rw[if_pos (by omega),if_pos (by omega),if_pos (by omega),if_pos (by omega),Sm,Sm,if_pos (by omega),if_pos (by omega),R5,if_neg (by omega)]
  .rw[if_pos (by omega),if_pos (by omega),if_pos (by omega),if_neg (by omega),Sm,if_pos (by omega),R5];grind
  .by_cases h2:j<off+k+1+vs.length
   .grind
   .rw[if_neg (by omega),if_neg (by omega),Sz,Sz,R5,if_neg (by omega)];rw[Ti (show off+(k+1)<=cells.size by omega),Ti (show off+k<=cells.size by omega)];grind
theorem yy {pl place:Nat->QbQ (Nat×Nat)}(hp:∀i x,pl i=some x->place i=some x):∀(ps:U (Nat×AV)) (vs:U (Nat×Value)) (cs cs':U AV) (cells:Array Value),
  vs.map (·.1)=ps.map (·.1)->RelL σ w F (ps.map (·.2)) (vs.map (·.2))->RelL σ w F cs cells.toList->(∀u,u∈cells.toList->u.oneCell'=true)->i7 pl cs ps=some cs' ->
  ∃cells',Instr.fill place cells vs=some cells'/\RelL σ w F cs' cells'.toList/\(∀u,u∈cells'.toList->u.oneCell'=true)
 |[],vs,cs,cs',cells,he,_,hr,h1,hf=>by
  have:vs=[]:=by simp_all
  subst this;simp only[i7,SV]at hf;subst hf;exact⟨cells,J,hr,h1⟩
 |(i,x)::ps,[],_,_,_,he,_,_,_,_=>by simp at he
 | (i,x)::ps,(i',v)::vs,cs,cs',cells,he,ha,hr,h1,hf=>by
  simp only[Se,Tj]at he;obtain⟨rfl,he⟩:=he;have hx:Rel σ w F x v:=ha.2 0 x v J J;have ha':RelL σ w F (ps.map (·.2)) (vs.map (·.2)):=⟨by simpa using ha.1,λj a u hj hu=>ha.2 (j+1) a u (by grind) (by grind)⟩
  simp only[i7]at hf;split at hf
  .rename_i off size xs hpl hxs;split at hf
   .rename_i hc;obtain⟨hr2,h2⟩:=hx.cells hxs;have hsz:v.cells.size=size:=by have:=hr2.1;grind
    have hcl:cells.size=cs.length:=by simpa using hr.1
    have hset:=B5 off v.cells.toList 0 cells (by simp;omega);rw[SY]at hset;have e1:(v.cells.zipIdx.foldl (λcs p=>cs.setIfInBounds (off+p.2) p.1) cells)=(v.cells.toList.zipIdx.foldl (λcs p=>cs.setIfInBounds (off+p.2) p.1) cells):=by grind[Array.toList_zipIdx]
    obtain⟨cells',hfill,hrel,hone⟩:=yy hp ps vs (splice cs off xs) cs' (v.cells.zipIdx.foldl (λcs p=>cs.setIfInBounds (off+p.2) p.1) cells) he ha'
     (by rw[e1,hset];exact hr.splice off hr2) (by grind[uZ]) hf
    refine⟨cells',?_,hrel,hone⟩;simp only[Instr.fill,hp _ _ hpl];grind
   .cases hf
  .cases hf
theorem NT (ha:ARel σ w F fr a){parts:Array (Nat×Operand)}(h:vcQ P fr aw (.build t parts) K):
  QOk P G σ w F (Instr.build t (parts.map λp=>(p.1,a.eval p.2))) K:=by
 simp only[vcQ]at h
 split at h
 .rename_i z pl hz hpl
  split at h
  .rename_i cs hcs
   obtain⟨i,v,hi,hiz,hzl,hz1,hzr⟩:=lW hz
   have hargs:RelL σ w F ((parts.toList.map λp=>(p.1,ev fr p.2)).map (·.2)) ((parts.toList.map λp=>(p.1,a.eval p.2)).map (·.2)):=by have:=kF ha (parts.toList.map (·.2));grind[Function.comp_def]
   have done:∀(place:Nat->QbQ (Nat×Nat)),(∀i x,pl[i]?=some x->place i=some x)->(∀cells,Instr.fill place v.cells (parts.toList.map λp=>(p.1,a.eval p.2))=some cells->P.built t (parts.map λp=>(p.1,a.eval p.2)).toList=some cells) ->
     QOk P G σ w F (Instr.build t (parts.map λp=>(p.1,a.eval p.2))) K:=by
    intro place hp hb
    obtain⟨cells,hf,hr,h1⟩:=yy (σ:=σ) (w:=w) (F:=F) (place:=place) hp _ (parts.toList.map λp=>(p.1,a.eval p.2)) z cs v.cells (by simp) hargs (hzr σ w F) hz1 hcs
    have hrel:=Rel.agg (σ:=σ) (w:=w) (F:=F) cs cells.toList hr.1 h1 hr.2
    rw[Array.toArray_toList]at hrel
    exact .mk' h hrel (λw'=>run_build w' t _ cells (hb cells hf))
   unfold pP at hpl
   cases hu:P.underlying t with
   |none=>grind
   | some d=>
    rw[hu]at hpl
    cases d<;>try grind
    .rename_i n e
     simp only[Sf]at hpl
     obtain⟨ie,hie,rfl⟩:=hpl
     simp_all[RH,Program.built]
    .rename_i fs
     simp only at hpl
     refine done (λk=>pl[k]?) (λk x hk=>hk) (λcells hf=>?_)
     simp_all[Program.built]
  grind
 grind
theorem FB (ha:ARel σ w F fr a)(hs:Sim aw σ w F)(o:Oper)(hG:(∃t x,o.op=.load t x)->∀w',G w'->Agr aw σ w F w')(h:vcQ P fr aw o.op K):NOk P G σ w F (execOp a.eval o) K:=by
  obtain⟨dst,op,type,pos,after,guard⟩:=o;simp only at h;cases op with
  |move x=>exact .mk' (show K _ from h) (ha.ev x) (λw'=>by simp[execOp])
  |assign x=>exact .mk' (show K _ from h) (ha.ev x) (λw'=>by simp[execOp])
  | pick c x y=>
    simp only[vcQ]at h;have hc:=ha.ev c;split at h
    · rename_i b ec;rw[ec]at hc;have hrun:∀w',(execOp a.eval { dst,op:=.pick c x y,type,pos,after,guard }).run P w'=.ok (.value (if b then a.eval x else a.eval y)) w':=by
        generalize hvc:a.eval c=vc at hc;cases hc;simp_all[execOp,asBool]
      refine .mk' h ?_ hrun;have hx:=ha.ev x;have hy:=ha.ev y;unfold pickV;grind
    grind
  |load t x=>obtain⟨v,r,h1,h2,h3⟩:=(Gb ha hs h).n;exact⟨v,r,λw' hw=>h1 w' (hG ⟨t,x,J⟩ w' hw),h2,h3⟩
  |fieldAddr t x k=>exact(I9 ha h).n
  |field t x k=>exact(NK ha h).n
  |indexAddr t x i=>exact(I1 ha hs h).n
  |index t x i=>exact(Nu ha h).n
  | slice t x lo hi mx=>
    cases mx with
    |none=>exact(Nn ha h).n
    |some m=>exact(show False from h).elim
  |binOp op t x y yt=>exact(MY (x:=x) (y:=y) (ha.ev x) (ha.ev y) h).n
  |unOp op t x=>exact(PH ha h).n
  |convert s d x=>exact(Ks ha h).n
  |makeFunc fn first caps=>exact(JD ha h).n
  |build t parts=>exact(NT ha h).n
  |extract x k=>exact(La ha h).n
  | nilCheck x=>
    simp only[vcQ]at h;have hx:=ha.ev x;split at h;all_goals
      first
      |exact h.elim
      | (rename_i e;rw[e]at hx
         refine .mk' h hx (λw'=>?_)
         generalize hv:a.eval x=vx at hx
         cases hx
         simp[execOp,hv])
  | call c=>
    obtain⟨callee,args,ats⟩:=c;cases callee with
    | builtin b=>
      obtain⟨v,r,h1,h2,h3⟩:=PU (ty:=type) ha hs h;exact .mk' h3 h2 (λw'=>by grind[execOp,resolve,invoke])
    |value f=>exact(show False from h).elim
    |invoke r m=>exact(show False from h).elim
  |_=>exact(show False from h).elim
theorem wt (ha:ARel σ w F fr a)(hs:Sim aw σ w F)(o:Oper)(h:vcQ P fr aw o.op K):NOk P (Agr aw σ w F) σ w F (execOp a.eval o) K:=FB ha hs o (λ_ _ h=>h) h
theorem OL (ha:ARel σ w F fr a)(hs:Sim aw σ w F)(o:Oper)(hn:∀t x,o.op≠.load t x)(h:vcQ P fr aw o.op K):NOk P (λ_=>True) σ w F (execOp a.eval o) K:=
 FB ha hs o (λ⟨t,x,e⟩=>absurd e (hn t x)) h
end
end
section
open Go.RowKit
section
variable {P:Program} {σ:List Value} {w:World} {F:Nat→Prop} {aw:List Ob}
theorem yb (hs:Sim aw σ w F)(cs:U AV)(vs:Array Value)(ty:TypeId)(hr:RelL σ w F cs vs.toList)(h1:∀u,u∈vs.toList->u.oneCell'=true):
  Sim (aw++[.box cs]) (σ++[.pointer (some ⟨w.heap.size,0,none⟩)]) (w.alloc (.cells vs ty)) F /\
  Mv aw σ w F (aw++[.box cs]) (σ++[.pointer (some ⟨w.heap.size,0,none⟩)]) (w.alloc (.cells vs ty)) F /\
  Rel (σ++[.pointer (some ⟨w.heap.size,0,none⟩)]) (w.alloc (.cells vs ty)) F (.ptr aw.length 0) (.pointer (some ⟨w.heap.size,0,none⟩)):=by
 have hk:∀b,b<w.heap.size->(w.alloc (.cells vs ty)).heap[b]?=w.heap[b]?:=λb hb=>Below.heap_alloc w _ b hb
 have hn:∀b,Bk (.box cs) (.pointer (some ⟨w.heap.size,0,none⟩)) b->w.heap.size<=b:=λb hb=>by grind[Bk,blk]
 refine⟨hs.push _ _ hk (by simp) ?_ hn,.push hs _ _ J J drO hk (by simp) hn,.ptr _ _ _ (by rw[<- hs.len];simp)⟩
 refine⟨w.heap.size,vs,ty,J,heap_alloc_new w _,hr.mono (λ_ _ e=>eB e) (λ_ h=>h) (λb hb=>hk b (hs.lt b hb)),λu hu=>h1 u (Array.mem_def.1 hu),λhF=>?_⟩
 have:=hs.lt _ hF;omega
variable {fr:U AV}{a:Act}{e t:TypeId}{K:AV->U Ob->Prop}{x:Operand}{size n c:Nat}{rows:U (U AV)}{A:QbQ Addr}{α:Type}{v:Value}
theorem N2 (hs:Sim aw σ w F)(h:vcE P fr aw (.alloc e) K)(o:Oper)(ho:o.op=.alloc e):OpOk P aw σ w F (execOp a.eval o) K:=by
 simp only[vcE]at h;split at h
 .rename_i z hz;obtain⟨i,v,hi,hiz,hzl,hz1,hzr⟩:=lW hz;obtain⟨s1,m1,r1⟩:=yb hs z v.cells e (hzr σ w F) hz1;refine⟨_,_,_,_,_,_,_,?_,.inl J,s1,m1,r1,h⟩;simp_all[execOp,Instr.alloc,rA,newVar,newRow]
 grind
theorem e_box (ha:ARel σ w F fr a)(hs:Sim aw σ w F)(h:vcE P fr aw (.box e x) K)(o:Oper)(ho:o.op=.box e x):OpOk P aw σ w F (execOp a.eval o) K:=by
 simp only[vcE]at h;split at h
 .rename_i cs hc;obtain⟨hr,h1⟩:=(ha.ev x).cells hc;obtain⟨s1,m1,r1⟩:=yb hs cs (a.eval x).cells e hr h1;refine⟨_,_,_,_,_,_,_,?_,.inl J,s1,m1,r1,h⟩;simp_all[execOp,Instr.box,newVar,newRow]
 grind
theorem hZ {id:Nat}(hs:Sim aw σ w F)(ho:aw[id]?=some (.arr e size rows))(hσ:σ[id]?=some (.slice A n c)):
  n=rows.length/\∃flat,w.ownsRow 0 e size (.slice A n c) n flat/\FlatRel σ w F size rows flat/\(rows=[]∨∃g cur,A=some ⟨g,0,none⟩/\¬F g/\w.heap[g]?=some (.cells cur e (0,0))/\n<=c/\c<=maxLen/\cur.size=c*size/\cur.toList.take (n*size)=flat):=by
 obtain⟨fl,hown,hfl,hf,_⟩:=hs.obj id _ _ ho hσ
 have hn:n=rows.length:=by
  rcases hown.2 with⟨e1,e2⟩|⟨g,cap,cur,e1,_⟩
  all_goals grind
 subst hn
 refine⟨J,fl,hown,hfl,?_⟩
 rcases hown.2 with⟨e1,e2⟩|⟨g,cap,cur,e1,_,hg,h1,h2,h3,h4⟩
 .grind
 .injection e1 with e3 e4 e5
  subst e3;subst e5
  exact .inr ⟨g,cur,J,hf g J,hg,h1,h2,h3,h4⟩
theorem rR:∀{rows:U (U AV)},(∀row,row∈rows->row.length=size)->∀(i j:Nat) row,rows[i]?=some row->j<size->rows.flatten[i*size+j]?=row[j]?
 |[],_,i,j,row,h,_=>by simp at h
 |r::rows,hl,0,j,row,h,hj=>by
  grind
 |r::rows,hl,i+1,j,row,h,hj=>by
  have hr:=hl r (by simp);simp only[SE];rw[Sn (by grind),hr];have:(i+1)*size+j- size=i*size+j:=by grind
  rw[this];exact rR (λrow h=>hl row (by simp[h])) i j row (by simpa using h) hj
theorem ta {flat:U Value}(hfl:FlatRel σ w F size rows flat){i:Nat}{row:U AV}(hi:rows[i]?=some row):
  row.length=size/\∀(j:Nat) x,row[j]?=some x->∃u,flat[i*size+j]?=some u/\Rel σ w F x u/\u.oneCell'=true:=by
 have hl:row.length=size:=hfl.1 row (RI hi)
 refine⟨hl,λj x hx=>?_⟩
 have hj:j<size:=by grind
 have hf:=rR hfl.1 i j row hi hj
 rw[hx]at hf
 obtain⟨u,hu,hr⟩:=hfl.2.2.get hf
 exact⟨u,hu,hr,hfl.2.1 u (RI hu)⟩
theorem Fc (ha:ARel σ w F fr a)(hs:Sim aw σ w F)(h:vcE P fr aw (.load t x) K)(o:Oper)(ho:o.op=.load t x):∃v r,(execOp a.eval o).run P w=.ok (.value v) w/\Rel σ w F r v/\K r aw:=by
 simp only[vcE]at h;have hx:=ha.ev x;split at h
 .rename_i id size i off ex;rw[ex]at hx;split at h
  .rename_i e size' rows hob;obtain⟨rfl,hi,h⟩:=h;have h:=h _ (RG hi);generalize hv:a.eval x=vx at hx;cases hx with
   | aptr _ _ _ _ g n c hσ=>
    obtain⟨hn,flat,hown,hfl,hc⟩:=hZ hs hob hσ;rcases hc with hc|⟨g',cur,e1,hF,hg,h1,h2,h3,h4⟩
    .grind
    .injection e1 with e1
     injection e1 with e1
     subst e1;obtain⟨hl,hrow⟩:=ta hfl (RG hi);have hu:∀j:Nat,j<(rows[i]).length->∃u,flat[i*size'+ j]?=some u/\Rel σ w F (rows[i][j]?.getD .any) u/\u.oneCell'=true:=λj hj=>by grind
     have hq:=xJ (P:=P) (aw:=[]) (σ:=[]) (w:=w) (F:=λb=>b=g) (σ':=σ) (F':=F) (w0:=w) (ad:=(⟨g,0,none⟩:Addr).add (i*size')) (u:=λj=>flat.getD (i*size'+ j) undef) (row:=rows[i])
      (λj hj=>by grind)
      (λw' hw' j hj=>by obtain⟨u,a1,_,_⟩:=hu j hj;rw[jF,f8,cell_of_row w' g _ cur e (0,0) ((hw' g (.inl J)).trans hg),R1,a1];grind)
      (λj x hx=>by grind) h
     obtain⟨v,r,hrun,hr,hK⟩:=hq;refine⟨v,r,?_,hr,hK⟩;have:=hrun w (λb _=>J);rw[jF,f8]at this;simp_all[execOp,Instr.loadAt,Instr.sureAddr]
  grind
 grind
theorem Qp (ha:ARel σ w F fr a)(hs:Sim aw σ w F)(h:vcE P fr aw (.load t x) K)(o:Oper)(ho:o.op=.load t x):OpOk P aw σ w F (execOp a.eval o) K:=by obtain⟨v,r,h1,h2,h3⟩:=Fc ha hs h o ho;exact⟨v,_,w,aw,σ,F,r,h1,.inl J,hs,.refl ..,h2,h3⟩
theorem Jf (a b vs:U α)(off:Nat)(h:off+vs.length<=a.length):(a++b).take off++vs++(a++b).drop (off+vs.length)=(a.take off++vs++a.drop (off+vs.length))++b:=by grind
theorem IM (a b vs:U α)(off:Nat):(a++b).take (a.length+off)++vs++(a++b).drop (a.length+off+vs.length)=a++(b.take off++vs++b.drop (off+vs.length)):=by simp[List.take_length_add_append,Nat.add_assoc]
theorem w7 {vs:U AV}{off:Nat}(h:off+vs.length<=size):∀{rows:U (U AV)},(∀row,row∈rows->row.length=size)->∀(i:Nat) row,rows[i]?=some row ->
  (rows.set i (splice row off vs)).flatten=splice rows.flatten (i*size+off) vs
 |[],_,i,row,hi=>by simp at hi
 |r::rows,hl,0,row,hi=>by
  simp at hi;subst hi;have:=hl r (by simp);simp only[List.set_cons_zero,SE,splice,Nat.zero_mul,SP];grind
 |r::rows,hl,i+1,row,hi=>by
  have hr:=hl r (by simp);have ih:=w7 h (λrow h=>hl row (by simp[h])) i row (by grind) (rows:=rows);simp only[List.set_cons_succ,SE,ih];have e:(i+1)*size+off=r.length+(i*size+off):=by grind
  rw[e];exact(IM r rows.flatten vs (i*size+off)).symm
theorem AM (cur us:U Value)(k m:Nat)(h:k+us.length<=m)(hm:m<=cur.length):(dv cur k us).take m=dv (cur.take m) k us:=by unfold dv;have h1:cur=cur.take m++cur.drop m:=(So m cur).symm;have h2:=Jf (cur.take m) (cur.drop m) us k (by simp;omega);rw[<- h1]at h2;rw[h2,List.take_append_of_le_length (by simp;omega)];exact SD (by simp;omega)
theorem Az (cur us:U Value)(k:Nat)(h:k+us.length<=cur.length):(dv cur k us).length=cur.length:=by grind[dv]
theorem ED (ha:ARel σ w F fr a){y:Operand}(hs:Sim aw σ w F)(h:vcE P fr aw (.store t x y) K)(o:Oper)(ho:o.op=.store t x y):OpOk P aw σ w F (execOp a.eval o) K:=by
 simp only[vcE]at h;have hx:=ha.ev x;split at h
 .rename_i id off vs ex hvs;rw[ex]at hx;split at h
  .rename_i cs hob;obtain⟨hsome,hlen,hfit,h⟩:=h;obtain⟨d,hd⟩:=R0.1 hsome;obtain⟨hr,h1⟩:=(ha.ev y).cells hvs;generalize hv:a.eval x=vx at hx;cases hx with
   | ptr _ _ g hσ=>
    obtain⟨g',cur,ty,e1,hg,hcr,hc1,hF⟩:=hs.obj id _ _ hob hσ;injection e1 with e1
    injection e1 with e1
    injection e1 with e1
    subst e1;have hcl:cur.size=cs.length:=by simpa using hcr.1
    have hul:(a.eval y).cells.toList.length=vs.length:=hr.1;have hst:=run_storeCells_at P g off ty (a.eval y).cells.toList 0 cur w hg (by omega) h1;have hk:∀b,b≠g->(w.setRow g (dv cur.toList off (a.eval y).cells.toList).toArray).heap[b]?=w.heap[b]?:=λb hb=>setRow_other w g b _ hb
    have hself:Sim (aw.set id (.box (splice cs off vs))) σ (w.setRow g (dv cur.toList off (a.eval y).cells.toList).toArray) F:=by
     refine hs.write (b0:=g) id hob J hσ J hk (by simp) (.box (splice cs off vs)) ⟨g,_,ty,J,setRow_heap w g cur _ ty (0,0) hg,?_,?_,hF⟩ (λ_ h=>h)
     .have:=(hcr.splice off hr).mono (σ':=σ) (w':=w.setRow g (dv cur.toList off (a.eval y).cells.toList).toArray) (F':=F) (λ_ _ e=>e) (λ_ e=>e) (λb hb=>hk b (λe=>hF (e▸hb)));omega
     grind[uZ]
    refine⟨undef,_,_,_,σ,F,.any,?_,.inr ⟨J,J⟩,hself,Mv.write (w:=w) (F:=F) (w':=w.setRow g _) (b0:=g) id hob J hσ J J J drO hk (by simp) (.box (splice cs off vs)) (λ_ h=>h),.any _,h⟩;simp_all[execOp,Instr.storeAt,Instr.sureAddr,storeVar,eo,dv]
  grind
 .rename_i id size i off vs ex hvs;rw[ex]at hx;split at h
  .rename_i e size' rows hob;obtain⟨hsome,rfl,hlen,hi,hfit,h⟩:=h;have h:=h _ (RG hi);obtain⟨d,hd⟩:=R0.1 hsome;obtain⟨hr,h1⟩:=(ha.ev y).cells hvs;generalize hv:a.eval x=vx at hx;cases hx with
   | aptr _ _ _ _ g n c hσ=>
    obtain⟨hn,flat,hown,hfl,hc⟩:=hZ hs hob hσ;rcases hc with hc|⟨g',cur,e1,hF,hg,hnc,h2,h3,h4⟩
    .grind
    .injection e1 with e1
     injection e1 with e1
     subst e1;have hul:(a.eval y).cells.toList.length=vs.length:=hr.1;have hin:i*size'+ off+vs.length<=n*size':=by have:(i+1)*size'<=n*size':=R4 _ (by omega);grind
     have hcap:n*size'<=cur.size:=by simp_all[R4]
     have hst:=run_storeCells_at P g (i*size'+ off) e (a.eval y).cells.toList 0 cur w hg (by omega) h1;have hk:∀b,b≠g->(w.setRow g (dv cur.toList (i*size'+ off) (a.eval y).cells.toList).toArray).heap[b]?=w.heap[b]?:=λb hb=>setRow_other w g b _ hb
     have hflat:flat.length=n*size':=hown.1;have hself:Sim (aw.set id (.arr e size' (rows.set i (splice rows[i] off vs)))) σ (w.setRow g (dv cur.toList (i*size'+ off) (a.eval y).cells.toList).toArray) F:=by
      refine hs.write (b0:=g) id hob J hσ J hk (by simp) (.arr e size' (rows.set i (splice rows[i] off vs))) ⟨dv flat (i*size'+ off) (a.eval y).cells.toList,⟨?_,.inr ⟨g,c,(dv cur.toList (i*size'+ off) (a.eval y).cells.toList).toArray,?_,Sb _,setRow_heap w g cur _ e (0,0) hg,?_,h2,?_,?_⟩⟩,⟨?_,?_,?_⟩,?_,_,_,_,J⟩ (λ_ h=>h)
      .grind[Az]
      .grind
      .grind
      .grind[Az]
      .simp_all[AM]
      .intro row hrow;rcases SK hrow with hm|rfl
       .exact hfl.1 row hm
       .have:=hfl.1 rows[i] (R6 hi);grind[splice]
      .exact uZ hfl.2.1 h1
      .rw[w7 hfit hfl.1 i rows[i] (RG hi)];exact(hfl.2.2.splice _ hr).mono (λ_ _ e=>e) (λ_ e=>e) (λb hb=>hk b (λe=>hF (e▸hb)))
      grind[Value.ownBlock]
     refine⟨undef,_,_,_,σ,F,.any,?_,.inr ⟨J,J⟩,hself,Mv.write (w:=w) (F:=F) (w':=w.setRow g _) (b0:=g) id hob J hσ J J J drO hk (by simp) (.arr e size' (rows.set i (splice rows[i] off vs))) (λ_ h=>h),.any _,h⟩;simp_all[execOp,Instr.storeAt,Instr.sureAddr,storeVar,eo,dv]
  grind
 grind
theorem Gm {F':Nat->Prop}(hFF:∀b,F b->F' b){id:Nat}(hs:Sim aw σ w F)(ho:aw[id]?=some (.arr e size rows))(hσ:σ[id]?=some (.slice A n c))(hF:∀b,blk (.slice A n c)=some b->F' b):Rel σ w F' (.sl rows) (.slice A n c):=by
 obtain⟨hn,flat,hown,hfl,hc⟩:=hZ hs ho hσ
 by_cases hne:rows=[]
 .subst hne
  simp at hn
  subst hn
  rcases hown.2 with⟨e1,_⟩|⟨g,cap,cur,e1,_,_,_,h2,_⟩
  .rw[e1];exact .slNil
  .injection e1 with e3 e4 e5
   subst e3;subst e5
   exact .sl [] 0 ⟨g,0,none⟩ c (λ_ _=>undef) (λh=>absurd J h) (Sb _) h2 (λ_ h=>by simp at h) (λi j hi=>by simp at hi) (λi j hi=>by simp at hi) (λi row j x hi=>by simp at hi)
 .rcases hc with hc|⟨g,cur,rfl,_,hg,h1,h2,h3,h4⟩
  .grind
  .subst hn
   have key:∀i j:Nat,i<rows.length->j<size->∃x u,(rows[i]?.bind (·[j]?))=some x/\flat[i*size+j]?=some u/\Rel σ w F x u/\u.oneCell'=true:=λi j hi hj=>by obtain⟨hl,hrow⟩:=ta hfl (RG hi);simp_all
   refine .sl rows size ⟨g,0,none⟩ c (λi j=>flat.getD (i*size+j) undef) (λ_=>hF g J) h1 h2 hfl.1 (λi j hi hj=>?_) (λi j hi hj=>?_) (λi row j x hi hx=>?_)
   .grind
   .grind[f8,cell_of_row]
   .obtain⟨hl,hrow⟩:=ta hfl hi
    obtain⟨u,a1,a2,_⟩:=hrow j x hx
    rw[R1,a1]
    exact a2.mono (λ_ _ e=>e) hFF (λ_ _=>J)
theorem Dc (hs:Sim aw σ w F){x:AV}(hr:Rel σ w F x v):∃F',Sim (d6 aw x).2 σ w F'/\Mv aw σ w F (d6 aw x).2 σ w F'/\Rel σ w F' (d6 aw x).1 v:=by
 have same:∀{r:AV},Rel σ w F r v->d6 aw x=(r,aw)->∃F',Sim (d6 aw x).2 σ w F'/\Mv aw σ w F (d6 aw x).2 σ w F'/\Rel σ w F' (d6 aw x).1 v:=by intro r h1 h2;rw[h2];exact⟨F,hs,.refl ..,h1⟩
 cases hr with
 |nils=>exact same .slNil J
 | ref id A n c h=>
  cases ho:aw[id]? with
  |none=>exact same (.any _) (by simp[d6,ho])
  | some o=>
   cases o with
   |dead=>exact same (.any _) (by simp[d6,ho])
   |box cs=>exact same (.any _) (by simp[d6,ho])
   |mp ks vs=>exact same (.any _) (by simp[d6,ho])
   |hd e k2=>exact same (.any _) (by simp[d6,ho])
   |cl e s cs=>exact same (.any _) (by simp[d6,ho])
   |arrU e s rows x=>exact same (.any _) (by simp[d6,ho])
   |boxB t cs=>exact same (.any _) (by simp[d6,ho])
   |arr e size rows=>
    have e1:d6 aw (.ref id)=(.sl rows,aw.set id .dead):=by simp[d6,ho]
    rw[e1];exact⟨_,hs.drop id ho J h,.drop id ho J h,Gm (λ_ h=>.inl h) hs ho h (λb hb=>.inr hb)⟩
 |any v=>exact same (.any _) J
 |int k n=>exact same (.int k n) J
 |bool b=>exact same (.bool b) J
 |str s=>exact same (.str s) J
 |agg cs vs h h1 hc=>exact same (.agg cs vs h h1 hc) J
 |tup cs vs h hc=>exact same (.tup cs vs h hc) J
 |slNil=>exact same .slNil J
 |sl rows size ad c u h1 h2 h3 h4 h5 h6 h7=>exact same (.sl rows size ad c u h1 h2 h3 h4 h5 h6 h7) J
 |ptr id off g h=>exact same (.ptr id off g h) J
 |elt row off ad u h1 h2 h3 h4=>exact same (.elt row off ad u h1 h2 h3 h4) J
 |aptr id size i off g n c h=>exact same (.aptr id size i off g n c h) J
 |func f cs vs h hc=>exact same (.func f cs vs h hc) J
 |bnd f cs vs h hc=>exact same (.bnd f cs vs h hc) J
 |nilf=>exact same .nilf J
 |nilp=>exact same .nilp J
 |nili=>exact same .nili J
 |mpr id r h=>exact same (.mpr id r h) J
 |np0 id=>exact same (.np0 id) J
 |npS id g h=>exact same (.npS id g h) J
 |ifc t a v h=>exact same (.ifc t a v h) J
 |cst v=>exact same (.cst v) J
 |vw id size lo n N C cap A B h hn hA hk hz=>exact same (.vw id size lo n N C cap A B h hn hA hk hz) J
 |ref2 id a n c vs h h0=>exact same (.ref2 id a n c vs h h0) J
 |aptr2 id i g n c vs h h0=>exact same (.aptr2 id i g n c vs h h0) J
 |iref id i a n c vs h h0=>exact same (.iref id i a n c vs h h0) J
theorem Cu:∀{xs:U AV} {vs:U Value} {aw:U Ob} {F:Nat->Prop},Sim aw σ w F->RelL σ w F xs vs->∃F',Sim (norm0L aw xs).2 σ w F'/\Mv aw σ w F (norm0L aw xs).2 σ w F'/\RelL σ w F' (norm0L aw xs).1 vs
 |[],vs,aw,F,hs,hr=>by
  have:vs=[]:=RP hr.1;subst this;exact⟨F,hs,.refl ..,.nil⟩
 |x::xs,[],aw,F,hs,hr=>absurd hr.1 (by simp)
 |x::xs,v::vs,aw,F,hs,hr=>by
  have h1:Rel σ w F x v:=hr.2 0 x v J J;have h2:RelL σ w F xs vs:=⟨by simpa using hr.1,λj a v ha hv=>hr.2 (j+1) a v (by grind) (by grind)⟩
  obtain⟨F1,s1,m1,r1⟩:=Dc hs h1;obtain⟨F2,s2,m2,r2⟩:=Cu s1 (m1.relL hs h2);exact⟨F2,s2,m1.trans m2,.cons (m2.rel s1 r1) r2⟩
theorem tg (hs:Sim aw σ w F){x:AV}(hr:Rel σ w F x v):∃F',Sim (norm aw x).2 σ w F'/\Mv aw σ w F (norm aw x).2 σ w F'/\Rel σ w F' (norm aw x).1 v:=by
 cases x with
 | agg cs=>
  cases hr with
  |agg _ vs h h1 hc=>
   obtain⟨F',s1,m1,r1⟩:=Cu hs ⟨h,hc⟩;exact⟨F',s1,m1,.agg _ vs r1.1 h1 r1.2⟩
 |_=>exact Dc hs hr
theorem vJ:∀{xs:U AV} {vs:U Value} {aw:U Ob} {F:Nat->Prop},Sim aw σ w F->RelL σ w F xs vs->∃F',Sim (d7 aw xs).2 σ w F'/\Mv aw σ w F (d7 aw xs).2 σ w F'/\RelL σ w F' (d7 aw xs).1 vs
 |[],vs,aw,F,hs,hr=>by
  have:vs=[]:=RP hr.1;subst this;exact⟨F,hs,.refl ..,.nil⟩
 |x::xs,[],aw,F,hs,hr=>absurd hr.1 (by simp)
 |x::xs,v::vs,aw,F,hs,hr=>by
  have h1:Rel σ w F x v:=hr.2 0 x v J J;have h2:RelL σ w F xs vs:=⟨by simpa using hr.1,λj a v ha hv=>hr.2 (j+1) a v (by grind) (by grind)⟩
  obtain⟨F1,s1,m1,r1⟩:=tg hs h1;obtain⟨F2,s2,m2,r2⟩:=vJ s1 (m1.relL hs h2);exact⟨F2,s2,m1.trans m2,.cons (m2.rel s1 r1) r2⟩
theorem B7:∀{xs:U AV} {aw:U Ob},(d7 aw xs).1.length=xs.length
 |[],_=>rfl
 |x::xs,aw=>by simp[d7,B7]
end
end
section
open Go.RowKit
section
variable {P:Program} {σ:List Value} {w:World} {F:Nat→Prop} {aw:List Ob}
variable {fr z:U AV}{a:Act}{t ty e:TypeId}{x:Operand}{K:AV->U Ob->Prop}{size:Nat}{v:Value}
theorem OZ (ha:ARel σ w F fr a){lo hi mx:QbQ Operand}(hs:Sim aw σ w F)(h:vcE P fr aw (.slice t x lo hi mx) K)(o:Oper)(ho:o.op=.slice t x lo hi mx):OpOk P aw σ w F (execOp a.eval o) K:=by
 cases mx with
 |some m=>exact(show False from h).elim
 |none=>
 simp only[vcE]at h;obtain⟨F',s1,m1,r1⟩:=tg hs (ha.ev x);split at h
 .rename_i e rows aw' hu en;rw[en]at s1 m1 r1;split at h
  .rename_i kl l kh hh el eh;obtain⟨hsome,hrow,h0,h1,h2,h⟩:=h;obtain⟨d,hd⟩:=R0.1 hsome;generalize hv:a.eval x=vx at r1;have hform:∃A n c,vx=.slice A n c:=by cases r1<;>exact⟨_,_,_,rfl⟩
   obtain⟨A,n,c,rfl⟩:=hform;obtain⟨hn,hnc,hr⟩:=r1.piece (l:=l.toNat) (h:=hh.toNat) hrow (by omega) (by omega);subst hn;refine⟨_,_,w,aw',σ,F',_,?_,.inl J,s1,m1,hr,h⟩;have b:=λw'=>ny (P:=P) ha (b:=true) (cap:=c) el eh h0 h1 h2 hnc w'
   simp[execOp,ho,hv,Instr.sliceAt,Instr.slice,Sem.run_bind,run_underlying hu,b,eo hd]
  grind
 grind
theorem Ke (ha:ARel σ w F fr a){s d:TypeId}(hs:Sim aw σ w F)(h:vcE P fr aw (.convert s d x) K)(o:Oper)(ho:o.op=.convert s d x):OpOk P aw σ w F (execOp a.eval o) K:=by
 simp only[vcE]at h;obtain⟨F',s1,m1,r1⟩:=tg hs (ha.ev x);split at h
 .rename_i e rows aw' hus hud en;rw[en]at s1 m1 r1;obtain⟨hue,hall,h⟩:=h;generalize hv:a.eval x=vx at r1;have hrun:(convert s d vx).run P w=.ok (.string ⟨(rows.map sZ).toArray⟩) w:=by
   cases r1 with
   |slNil=>
    rw[run_convert_bytes_nil w s e hus hue 0 0 d hud];rfl
   | sl _ size ad c u hF hn hm hrow hone hcell hrel=>
    rw[run_convert_bytes_string w s d e (some ad) rows.length c hus hue hud];have hb:∀(i:Nat) row,rows[i]?=some row->∃n,row=[.int .u8 n]/\w.cell? (ad.add i)=some (.int .u8 n):=λi row hi=>by
     have h1:=Sc.1 hall row (RI hi);match row,h1,hi with
     |[.int .u8 n],_,hi=>
      have hsz:=hrow _ (RI hi)
      simp at hsz
      subst hsz
      have hlt:=(RH.1 hi).1
      have hc:=hcell i 0 hlt (by omega)
      have hr:=hrel i _ 0 _ hi J
      generalize u i 0=v at hc hr
      cases hr
      grind
    have hl:=run_loadCells_list (P:=P) w ad ((rows.map λrow=>match row with|[.int .u8 n]=>n|_=>0).map (Value.int .u8)) (λj v hj=>by grind)
    rw[RZ,RZ]at hl;rw[run_bytesToString w ad _ _ _ hl,foldl_push_bytes];congr 2;apply ByteArray.ext;simp only[SQ];apply Array.ext';simp only[ByteArray.empty,ByteArray.emptyWithCapacity,Array.toList_append,List.toList_toArray,Array.emptyWithCapacity,SG];apply Si;intro row hr;obtain⟨i,hi⟩:=RX hr;obtain⟨n,rfl,_⟩:=hb i row hi;rfl
  refine⟨_,_,w,aw',σ,F',_,?_,.inl J,s1,m1,.str _,h⟩;simp_all[execOp]
 grind
theorem sF {vc:Array Value}(hz:RelL σ w F z vc.toList)(h0:0<z.length)(len:Nat):RelL σ w F (List.replicate len z).flatten (madeCells vc (len*z.length)).toList:=by
 have hl:vc.size=z.length:=by simpa using hz.1
 have hlen:(List.replicate len z).flatten.length=len*z.length:=by simp
 refine⟨by simp[madeCells],λk x v hx hv=>?_⟩;have hk:k<len*z.length:=by grind
 have hdiv:k/ z.length<len:=Tt (by grind);have hmod:k% z.length<z.length:=Nat.mod_lt _ h0;have e:k=k/ z.length*z.length+k% z.length:=by simp[TC,Nat.div_add_mod]
 have hf:=rR (size:=z.length) (rows:=List.replicate len z) (λrow hr=>by grind) (k/ z.length) (k% z.length) z (by grind) hmod;rw[<- e]at hf;rw[hf]at hx;obtain⟨u,hu,hr⟩:=hz.get hx;grind[madeCells]
theorem sH {vc:Array Value}(h1:∀u,u∈vc.toList->u.oneCell'=true)(h0:0<vc.size)(n:Nat):∀u,u∈(madeCells vc n).toList->u.oneCell'=true:=by grind[madeCells,Nat.mod_lt]
theorem Bd {size:Nat}:∀(ps:U (Nat×AV)) (rows rows':U (U AV)),(∀row,row∈rows->row.length=size)->nZ P size rows ps=some rows' ->
  i7 (λi=>if i<rows.length then some (i*size,size)else none) rows.flatten ps=some rows'.flatten/\(∀row,row∈rows'->row.length=size)/\rows'.length=rows.length
 |[],rows,rows',hl,h=>by
  simp only[nZ,SV]at h;subst h;exact⟨J,hl,J⟩
 | (i,v)::ps,rows,rows',hl,h=>by
  simp only[nZ]at h;split at h
  .rename_i vs hvs;split at h
   .rename_i hc;obtain⟨hc1,hc2⟩:=hc;have hl':∀row,row∈rows.set i vs->row.length=size:=λrow hr=>by
     grind
    obtain⟨h1,h2,h3⟩:=Bd ps (rows.set i vs) rows' hl' h;rw[SW]at h1 h3;refine⟨?_,h2,h3⟩;have hflen:rows.flatten.length=rows.length*size:=by
     clear h h1 h2 h3 hl' hc2;induction rows with
     |nil=>simp
     |cons r rows ih=>grind
    have hi1:i*size+size<=rows.length*size:=by have:(i+1)*size<=rows.length*size:=R4 _ hc2;grind
    have hsp:=w7 (size:=size) (vs:=vs) (off:=0) (by omega) hl i rows[i] (RG hc2);have hrow:splice rows[i] 0 vs=vs:=by grind[splice]
    simp_all[i7]
   .cases h
  .cases h
theorem II (ha:ARel σ w F fr a){len:Nat}{parts:Array (Nat×Operand)}(hs:Sim aw σ w F)(h:vcE P fr aw (.buildSlice t len parts) K)(o:Oper)(ho:o.op=.buildSlice t len parts):OpOk P aw σ w F (execOp a.eval o) K:=by
 simp only[vcE]at h;split at h
 .rename_i e hu;split at h
  .rename_i z hz;obtain⟨hzl,h0,hbig,h⟩:=h;split at h
   .rename_i rows hrows;obtain⟨i,v,hi,hiz,hvl,hv1,hvr⟩:=lW hz;have hvsz:v.cells.size=z.length:=by omega
    obtain⟨hf,hl,hlen⟩:=Bd (P:=P) _ (List.replicate len z) rows (λrow hr=>by grind) hrows;have hargs0:RelL σ w F (parts.toList.map λp=>ev fr p.2) (parts.toList.map λp=>a.eval p.2):=by have:=kF ha (parts.toList.map (·.2));grind[Function.comp_def]
    obtain⟨F1,s1,m1,r1⟩:=vJ hs hargs0;have hlen1:(d7 aw (parts.toList.map λp=>ev fr p.2)).1.length=parts.toList.length:=by simp[B7]
    have hargs:RelL σ w F1 (((parts.toList.map (·.1)).zip (d7 aw (parts.toList.map λp=>ev fr p.2)).1).map (·.2)) ((parts.toList.map λp=>(p.1,a.eval p.2)).map (·.2)):=by simp_all[List.map_snd_zip,Function.comp_def]
    have hinit:=sF (hvr σ w F1) (by omega) len;have hone:=sH hv1 (by omega) (len*z.length);rw[hzl]at hinit hone;obtain⟨cells,hfill,hr,h1⟩:=yy (place:=λi=>some (i*P.cellsOf e,P.cellsOf e)) (λi x hx=>by grind) _ (parts.toList.map λp=>(p.1,a.eval p.2)) _ _ _ (by simp_all[List.map_fst_zip]) hargs hinit hone hf
    have hfl:FlatRel σ w F1 (P.cellsOf e) rows cells.toList:=⟨hl,h1,hr⟩
    rw[List.length_replicate]at hlen;have hmx:rows.length<=maxLen:=by have:len*1<=len*P.cellsOf e:=Nat.mul_le_mul_left _ h0;grind[maxLen]
    have hsize:∀w:World,(sizeOf e).run P w=.ok (P.cellsOf e) w:=λw=>by simp_all[sizeOf,typeInfo,Program.cellsOf]
    have hrun:(Instr.buildSlice t len (parts.map λp=>(p.1,a.eval p.2))).run P w=.ok (.slice (some ⟨w.heap.size,0,none⟩) len len) (w.alloc (.cells cells e)):=by
     by_cases hz0:len*P.cellsOf e=0
     .have:madeCells v.cells (len*P.cellsOf e)=#[]:=Array.eq_empty_of_size_eq_zero (by grind[size_madeCells]);rw[this]at hfill;have e0:Array.range 0=#[]:=Array.eq_empty_of_size_eq_zero (by simp);simp[Instr.buildSlice,Sem.run_bind,run_underlying hu,hsize,hz0,e0,hfill,newRow]
     .unfold madeCells at hfill;have hbig':¬2 ^ 24<len*P.cellsOf e:=by omega
      simp[Instr.buildSlice,Sem.run_bind,run_underlying hu,hsize,hz0,hbig',rA hi hiz,hfill,newRow]
    have hk:∀b,b<w.heap.size->(w.alloc (.cells cells e)).heap[b]?=w.heap[b]?:=λb hb=>Below.heap_alloc w _ b hb
    have hn:∀(e s:Nat) (rows:U (U AV)) b,Bk (.arr e s rows) (.slice (some ⟨w.heap.size,0,none⟩) len len) b->w.heap.size<=b:=λe s rows b hb=>by grind[Bk,blk]
    have hcl:cells.toList.length=rows.length*P.cellsOf e:=by
     rw[hr.1];have:∀l:U (U AV),(∀row,row∈l->row.length=P.cellsOf e)->l.flatten.length=l.length*P.cellsOf e:=by
      intro l;induction l with
      |nil=>simp
      |cons x l ih=>
       grind
     grind
    refine⟨_,_,_,_,σ++[.slice (some ⟨w.heap.size,0,none⟩) len len],F1,_,?_,.inl J,s1.push (.arr e (P.cellsOf e) rows) _ hk (by simp) ?_ (hn _ _ _),m1.trans (.push s1 _ _ J J drO hk (by simp) (hn _ _ _)),.ref _ (some ⟨w.heap.size,0,none⟩) len len (by rw[<- s1.len];simp),h⟩
    .simp_all[execOp]
    .refine⟨cells.toList,⟨hcl,.inr ⟨w.heap.size,len,cells,by rw[hlen],Sb _,heap_alloc_new w _,by omega,by omega,by grind,by grind⟩⟩,
      ⟨hl,h1,hr.mono (λ_ _ e=>eB e) (λ_ e=>e) (λb hb=>hk b (s1.lt b hb))⟩,λg hg hF=>?_,_,_,_,J⟩
     simp[Value.ownBlock]at hg;have:=s1.lt g hF;omega
   grind
  grind
 grind
theorem Sim.push2 {w':World}(h:Sim aw σ w F)(o:Ob)(v:Value)(hk:∀b,(F b∨Dof aw σ b)->w'.heap[b]?=w.heap[b]?)(hs:w.heap.size<=w'.heap.size)(ho:ORel (σ++[v]) w' F o v)(hnew:∀b,Bk o v b->¬Dof aw σ b):Sim (aw++[o]) (σ++[v]) w' F:=by
 have old:∀(k:Nat) o1 v1,aw[k]?=some o1->(σ++[v])[k]?=some v1->σ[k]?=some v1:=λk o1 v1 h1 hv1=>by have hlt:=(RH.1 h1).1;rw[R2 (by rw[h.len];exact hlt)]at hv1;exact hv1
 have last:∀(k:Nat) v1,k=aw.length->(σ++[v])[k]?=some v1->v1=v:=λk v1 e hv1=>by rw[e,<- h.len]at hv1;grind
 refine⟨by simp[h.len],λk o1 v1 ho1 hv1=>?_,λk k' o1 o2 v1 v2 g hne ho1 ho2 hl1 hl2 hv1 hv2 hb1 hb2=>?_,λb hb=>Sx (h.lt b hb) hs,h.gd.mono (λ_ hb=>hb) λb hb=>hk b (.inl hb)⟩
 .rcases gP ho1 with h1|⟨e,rfl⟩
  .have hv1':=old k o1 v1 h1 hv1
   refine(h.obj k o1 v1 h1 hv1').mono (λ_ _ e=>eB e) (λ_ e=>e) (λb hb=>hk b (.inl hb)) (λhl b hb=>?_)
   have hd:Dof aw σ b:=⟨k,o1,v1,h1,hl,hv1',hb⟩
   exact⟨hk b (.inr hd),h.free hd⟩
  grind
 .rcases gP ho1 with h1|⟨e1,rfl⟩
  .rcases gP ho2 with h2|⟨e2,rfl⟩
   .exact h.sep k k' o1 o2 v1 v2 g hne h1 h2 hl1 hl2 (old _ _ _ h1 hv1) (old _ _ _ h2 hv2) hb1 hb2
   .have:=last _ _ e2 hv2;subst this
    exact hnew g hb2 ⟨k,o1,v1,h1,hl1,old _ _ _ h1 hv1,hb1⟩
  .have:=last _ _ e1 hv1;subst this
   rcases gP ho2 with h2|⟨e2,rfl⟩
   .exact hnew g hb1 ⟨k',o2,v2,h2,hl2,old _ _ _ h2 hv2,hb2⟩
   omega
theorem A8 (ha:ARel σ w F fr a){l c:Operand}(hs:Sim aw σ w F)(h:vcE P fr aw (.makeSlice t l c) K)(o:Oper)(ho:o.op=.makeSlice t l c):OpOk P aw σ w F (execOp a.eval o) K:=by
 simp only[vcE]at h;have hl:=ha.ev l;have hc:=ha.ev c;split at h
 .rename_i e kl n kc m hu el ec;rw[el]at hl;rw[ec]at hc;split at h
  .rename_i z hz;obtain⟨hzl,h0,hn0,hnm,_,hbytes,hmx,h⟩:=h;obtain⟨i,v,hi,hiz,hvl,hv1,hvr⟩:=lW hz;generalize hvl':a.eval l=vl at hl;generalize hvc':a.eval c=vc at hc;cases hl;cases hc;have hvsz:v.cells.size=z.length:=by omega
   have hsz:P.cellsOf e=i.size:=by grind[Program.cellsOf]
   have hby:P.bytesOf e=i.bytes:=by grind[Program.bytesOf]
   have hrun:=run_make (P:=P) w t e i v hu hi hiz kl kc n m hn0 hnm (by grind) (by grind[maxLen])
   rw[<- hsz]at hrun;have hk:∀b,b<w.heap.size->(w.alloc (.cells (madeCells v.cells (m.toNat*P.cellsOf e)) e)).heap[b]?=w.heap[b]?:=λb hb=>Below.heap_alloc w _ b hb
   have hn:∀(e s:Nat) (rows:U (U AV)) b,Bk (.arr e s rows) (.slice (some ⟨w.heap.size,0,none⟩) n.toNat m.toNat) b->w.heap.size<=b:=λe s rows b hb=>by grind[Bk,blk]
   have hle:n.toNat*P.cellsOf e<=m.toNat*P.cellsOf e:=R4 _ (by omega);have hinit:=sF (hvr σ w F) (by omega) n.toNat;rw[hzl]at hinit;have htake:(madeCells v.cells (m.toNat*P.cellsOf e)).toList.take (n.toNat*P.cellsOf e)=(madeCells v.cells (n.toNat*P.cellsOf e)).toList:=by simp only[madeCells,Array.toList_map,Array.toList_range];rw[<- Tg,List.take_range,Ti hle]
   refine⟨_,_,_,aw++[.arr e (P.cellsOf e) (List.replicate n.toNat z)],σ++[.slice (some ⟨w.heap.size,0,none⟩) n.toNat m.toNat],F,_,?_,.inl J,hs.push (w':=w.alloc (.cells (madeCells v.cells (m.toNat*P.cellsOf e)) e)) (.arr e (P.cellsOf e) (List.replicate n.toNat z)) _ hk (by simp) ?_ (hn _ _ _),.push (w':=w.alloc (.cells (madeCells v.cells (m.toNat*P.cellsOf e)) e)) hs (.arr e (P.cellsOf e) (List.replicate n.toNat z)) _ J J drO hk (by simp) (hn _ _ _),.ref _ (some ⟨w.heap.size,0,none⟩) n.toNat m.toNat (by rw[<- hs.len];simp),h⟩
   .simp_all[execOp]
   .refine⟨(madeCells v.cells (n.toNat*P.cellsOf e)).toList,⟨by simp[madeCells],.inr ⟨w.heap.size,m.toNat,_,by simp,Sb _,heap_alloc_new w _,by simp;omega,hmx,size_madeCells _ _,by grind⟩⟩,
     ⟨λrow hr=>by grind,sH hv1 (by omega) _,hinit.mono (λ_ _ e=>eB e) (λ_ e=>e) (λb hb=>hk b (hs.lt b hb))⟩,λg hg hF=>?_,_,_,_,J⟩
    simp[Value.ownBlock]at hg;have:=hs.lt g hF;omega
  grind
 grind
theorem Je {n:Nat}{xs:U Value}(ht:P.underlying t=some (.slice e))(hi:(P.info? e).isSome=true)(hown:w.ownsRow 0 e size v n xs):
  (Builtin.append_ #[t,t] ty #[v,.slice none 0 0]).run P w=.ok v w:=by
 obtain⟨i,hi⟩:=R0.1 hi
 rcases hown.2 with⟨rfl,rfl⟩|⟨g,cap,cur,rfl,_,_,hnc,_⟩
 .simp[Builtin.append_,run_underlying ht,sizeOf,typeInfo,hi,Builtin.lenOf,Builtin.firstCells]
 .simp[Builtin.append_,run_underlying ht,sizeOf,typeInfo,hi,Builtin.lenOf,Builtin.firstCells,hnc,storeCells]
theorem Eb (hu:P.underlying t=some (.slice e))(hz:bu P e=some z)(hzl:z.length=P.cellsOf e)(h0:0<P.cellsOf e)(hby:P.bytesOf e<=128){old rows:U (U AV)}{vy:Value}{flat:U Value}(hown:w.ownsRow 0 e (P.cellsOf e) v old.length flat)(hy:Rel σ w F (.sl rows) vy)(hrow:∀row,row∈rows->row.length=P.cellsOf e)(hlen:old.length+rows.length<=1099511627776):
    ∃ v' w' news,(Builtin.append_ #[t,t] ty #[v,vy]).run P w=.ok v' w'/\w'.ownsRow 0 e (P.cellsOf e) v' (old++rows).length (flat++news)/\w.grownBy w' v.ownBlock /\
      (v'.ownBlock=v.ownBlock∨v'.ownBlock=some w.heap.size)/\RelL σ w F rows.flatten news/\(∀u,u∈news->u.oneCell'=true):=by
  obtain⟨i,zv,hi,hiz,hvl,_,_⟩:=lW hz
  have hsz:i.size=P.cellsOf e:=by grind[Program.cellsOf]
  have hbb:i.bytes=P.bytesOf e:=by grind[Program.bytesOf]
  cases hy with
  | slNil=>
    refine⟨v,w,[],Je hu (by simp[hi]) hown,by grind,World.grownBy.refl w _,.inl J,.nil,λu hu=>by simp at hu⟩
  | sl _ size ad c u hF hn hm hr1 hone hcell hrel=>
    by_cases hne:rows=[]
    · subst hne
      obtain⟨v',w',hrun,h2,h3,_,h5⟩:=run_append_own_at (P:=P) w 0 t ty e i zv (P.cellsOf e) (P.bytesOf e) hu hi hiz hsz hbb (by grind) h0 v old.length flat hown ad 0 c [] (by simp) (λj x hx=>by simp at hx) (λx hx=>by simp at hx)
        (by grind[maxLen]) (by have:(old.length+0)*P.bytesOf e<=1099511627776*128:=Tb (by omega) hby;omega) (Sb _)
      exact⟨v',w',[],hrun,by grind,h3,h5,.nil,λu hu=>by simp at hu⟩
    · have hsize:size=P.cellsOf e:=by
        obtain⟨r,rs,rfl⟩:=List.exists_cons_of_ne_nil hne;simp_all
      subst hsize
      have hflen:rows.flatten.length=rows.length*P.cellsOf e:=by
        have:∀(l:U (U AV)),(∀row,row∈l->row.length=P.cellsOf e)->l.flatten.length=l.length*P.cellsOf e:=by
          intro l hl;induction l with
          |nil=>simp
          |cons r l ih=>grind
        grind
      have idx:∀k,k<rows.length*P.cellsOf e->k/ P.cellsOf e<rows.length/\k% P.cellsOf e<P.cellsOf e/\k/ P.cellsOf e*P.cellsOf e+k% P.cellsOf e=k:=λk hk=>
        ⟨Tt (by grind),Nat.mod_lt _ h0,by simp[TC,Nat.div_add_mod]⟩
      have hget:∀(k:Nat) x,((List.range (rows.length*P.cellsOf e)).map λk=>u (k/ P.cellsOf e) (k% P.cellsOf e))[k]?=some x->k<rows.length*P.cellsOf e/\x=u (k/ P.cellsOf e) (k% P.cellsOf e):=λk x hx=>by grind
      have hnews1:∀x,x∈((List.range (rows.length*P.cellsOf e)).map λk=>u (k/ P.cellsOf e) (k% P.cellsOf e))->x.oneCell'=true:=λx hx=>by grind
      obtain⟨v',w',hrun,h2,h3,_,h5⟩:=run_append_own_at (P:=P) w 0 t ty e i zv (P.cellsOf e) (P.bytesOf e) hu hi hiz hsz hbb (by grind) h0 v old.length flat hown ad rows.length c
        ((List.range (rows.length*P.cellsOf e)).map λk=>u (k/ P.cellsOf e) (k% P.cellsOf e)) (by simp) (λk x hx=>by grind) hnews1
        (by grind[maxLen]) (by have:(old.length+rows.length)*P.bytesOf e<=1099511627776*128:=Tb hlen hby;omega) (Sb _)
      refine⟨v',w',_,hrun,by grind,h3,h5,⟨by simp[hflen],λk x y hx hy=>?_⟩,hnews1⟩
      obtain⟨hlt,rfl⟩:=hget k y hy
      obtain⟨h1,h2,h3⟩:=idx k hlt
      have hf:=rR hrow (k/ P.cellsOf e) (k% P.cellsOf e) _ (RG h1) h2
      grind
end
end
section
open Go.RowKit
section
variable {P:Program} {σ:List Value} {w:World} {F:Nat→Prop} {aw:List Ob}
variable {e:TypeId}{size:Nat}{fr:U AV}{a:Act}{K:AV->U Ob->Prop}
theorem LW {base:Nat}{n:Nat}{v:Value}{xs:U Value}(h:w.ownsRow base e size v n xs):∃a n c,v=.slice a n c:=by rcases h.2 with⟨rfl,_⟩|⟨g,cap,cur,rfl,_⟩<;>exact⟨_,_,_,rfl⟩
theorem vQ {aw0:U Ob}{w':World}(h:Sim aw σ w F)(hd:∀b,Dof aw σ b->Dof aw0 σ b){vx v':Value}{old rows:U (U AV)}{flat news:U Value}(hfl:FlatRel σ w F size old flat)(hrow:∀row,row∈rows->row.length=size)(hr:RelL σ w F rows.flatten news)(h1:∀u,u∈news->u.oneCell'=true)(hown:w'.ownsRow 0 e size v' (old++rows).length (flat++news))(hg:w.grownBy w' vx.ownBlock)(hdr:dn w<=dn w')(hat:v'.ownBlock=vx.ownBlock∨v'.ownBlock=some w.heap.size)(hfree:∀b,vx.ownBlock=some b->¬F b/\¬Dof aw σ b/\Dof aw0 σ b):
  Sim (aw++[.arr e size (old++rows)]) (σ++[v']) w' F/\Mv aw0 σ w F (aw++[.arr e size (old++rows)]) (σ++[v']) w' F/\Rel (σ++[v']) w' F (.ref aw.length) v':=by
 have hk:∀b,(F b∨Dof aw σ b)->w'.heap[b]?=w.heap[b]?:=λb hb=>hg.block b (hb.elim (h.lt b) h.lt_own) (λe=>by grind)
 obtain⟨a',n',c',hform⟩:=LW hown
 have hblk:∀(e s:Nat) (rows:U (U AV)) b,Bk (.arr e s rows) v' b->v'.ownBlock=some b:=λe s rows b hb=>by rw[hform]at hb ⊢;exact hb.slice_inv
 have hnew:∀b,v'.ownBlock=some b->¬F b/\¬Dof aw σ b:=λb hb=>by
  rcases hat with e|e
  .grind
  .rw[e]at hb;injection hb with hb
   subst hb;exact⟨λhf=>by have:=h.lt _ hf;omega,λhf=>by have:=h.lt_own hf;omega⟩
 refine⟨h.push2 _ _ hk hg.size ⟨flat++news,hown,⟨λrow hm=>?_,λu hu=>?_,?_⟩,λg hgb=>(hnew g hgb).1,a',n',c',hform⟩ (λb hb=>(hnew b (hblk _ _ _ b hb)).2),⟨hg.os,hg.tape,⟨hg.output,hdr⟩,hg.size,λb hb hdb=>?_,λi v hv=>eB hv,λ_ h=>h,λ_ h=>.inl h,λb hb=>?_⟩,?_⟩
 .rcases RY.1 hm with hm|hm
  .exact hfl.1 row hm
  grind
 .rcases RY.1 hu with hu|hu
  .exact hfl.2.1 u hu
  grind
 .rw[S7]
  exact(hfl.2.2.append hr).mono (λ_ _ e=>eB e) (λ_ e=>e) (λb hb=>hk b (.inl hb))
 .exact hg.block b hb (λe=>hdb (hfree b e.symm).2.2)
 .obtain⟨k,o1,v1,ho1,hl,hv1,hb1⟩:=hb
  rcases gP ho1 with h2|⟨rfl,rfl⟩
  .have hlt:=(RH.1 h2).1
   rw[R2 (by rw[h.len];exact hlt)]at hv1
   exact .inl (hd b ⟨k,o1,v1,h2,hl,hv1,hb1⟩)
  .rw[<- h.len]at hv1
   grind
 .rw[hform]
  exact .ref _ _ _ _ (by rw[<- h.len];simp)
theorem Es (ha:ARel σ w F fr a)(hs:Sim aw σ w F){args:Array Operand}{ats:Array TypeId}(h:vcApp P fr aw args.toList ats.toList K)(o:Oper)(ho:o.op=.call { callee:=.builtin .append,args,argTypes:=ats }):
  OpOk P aw σ w F (execOp a.eval o) K:=by
 obtain⟨args⟩:=args
 obtain⟨ats⟩:=ats
 simp only at h
 unfold vcApp at h
 split at h
 .rename_i x y t t'
  obtain⟨rfl,h⟩:=h
  have hx:=ha.ev x
  obtain⟨F',s1,m1,r1⟩:=tg hs (ha.ev y)
  split at h
  .rename_i e hu
   split at h
   .rename_i z rows aw' hz ex en
    rw[en]at s1 m1 r1
    obtain⟨hzl,h0,hrow,hlen,hby,h⟩:=h
    rw[ex]at hx
    generalize hvx:a.eval x=vx at hx
    cases hx
    obtain⟨v',w',news,hrun,hown,hg,hat,hr,h1⟩:=Eb (ty:=o.type) (old:=[]) (flat:=[]) hu hz hzl h0 hby (World.ownsRow_nil w 0 e (P.cellsOf e)) r1 hrow (by grind)
    obtain⟨s2,m2,r2⟩:=vQ (aw0:=aw') (vx:=.slice none 0 0) (old:=[]) (flat:=[]) s1 (λ_ h=>h) ⟨λ_ h=>by simp at h,λ_ h=>by simp at h,.nil⟩ hrow hr h1 hown hg (xA _ hrun) hat (λb hb=>by grind[Value.ownBlock])
    refine⟨v',_,w',_,_,F',_,?_,.inl J,s2,m1.trans m2,r2,h⟩
    simp_all[execOp,resolve,invoke,builtin]
   .rename_i z id rows aw' hz ex en
    rw[en]at s1 m1 r1
    split at h
    .rename_i e' size old hob
     obtain⟨rfl,rfl,hzl,h0,hrow,hlen,hby,h⟩:=h
     rw[ex]at hx
     generalize hvx:a.eval x=vx at hx
     cases hx with
     | ref _ A n c hσ=>
      obtain⟨flat,hown0,hfl,hf,_⟩:=s1.obj id _ _ hob hσ
      obtain⟨v',w',news,hrun,hown,hg,hat,hr,h1⟩:=Eb (ty:=o.type) hu hz hzl h0 hby hown0 r1 hrow hlen
      have s3:=s1.lose id
      have hfree:∀b,(Value.slice A n c).ownBlock=some b->¬F' b/\¬Dof (aw'.set id .dead) σ b/\Dof aw' σ b:=by
       intro b hb;refine⟨hf b hb,λhd=>?_,⟨id,_,_,hob,J,hσ,(Bk.slice hb)⟩⟩;obtain⟨k,o1,v1,ho1,hl,hv1,hb1⟩:=hd;rcases ca ho1 with⟨rfl,rfl,_⟩|⟨hne,h2⟩
       .assumption
       .exact s1.sep k id o1 _ v1 _ b hne h2 hob hl J hv1 hσ hb1 ((Bk.slice hb))
      obtain⟨s2,m2,r2⟩:=vQ (aw0:=aw') (vx:=.slice A n c) s3 (λ_ h=>h.set_dead) hfl hrow hr h1 hown hg (xA _ hrun) hat hfree
      refine⟨v',_,w',_,_,F',_,?_,.inl J,s2,m1.trans m2,by grind,h⟩
      simp_all[execOp,resolve,invoke,builtin]
    grind
   grind
  grind
 grind
theorem PS (ha:ARel σ w F fr a)(hs:Sim aw σ w F)(o:Oper)(h:vcE P fr aw o.op K):OpOk P aw σ w F (execOp a.eval o) K:=by
 cases ho:o.op with
 |alloc e=>grind[N2]
 |box e x=>grind[e_box]
 |load t x=>grind[Qp]
 |store t x y=>grind[ED]
 |slice t x lo hi mx=>grind[OZ]
 |convert s d x=>grind[Ke]
 |buildSlice t len parts=>grind[II]
 |makeSlice t l c=>grind[A8]
 |call c=>
  rw[ho]at h;obtain⟨callee,args,ats⟩:=c;grind[vcE,Es]
 |_=>rw[ho]at h;exact(show False from h).elim
theorem M3 (ha:ARel σ w F fr a)(hs:Sim aw σ w F)(o:Oper)(h:iH P fr aw o.op K):OpOk P aw σ w F (execOp a.eval o) K:=by
 unfold iH at h;split at h
 .obtain⟨v,r,h1,h2,h3⟩:=wt ha hs o h;exact⟨v,_,w,aw,σ,F,r,h1 w (λ_ _=>J),.inl J,hs,.refl ..,h2,h3⟩
 grind[PS]
end
end
section
open Go.RowKit
def ACalls(P:Program)(f:FuncId)(args:List AV)(aw:List Ob)(Q:AV->List Ob->Prop):Prop:=
 (∀vs w,(callFunc f vs).run P w=.ok (.enter f vs) w) /\
 ∀w F σ vs,Sim aw σ w F->RelL σ w F args vs->Calls P f vs.toArray w λe w'=>∃v r aw' σ' F',e=.returned v/\Q r aw'/\Sim aw' σ' w' F'/\Rel σ' w' F' r v/\Mv aw σ w F aw' σ' w' F'
def Pure(a:AV):Prop:=∀σ w F v,Rel σ w F a v->∀σ',Rel σ' w F a v
def flat0:AV->Bool
 | .int _ _| .bool _| .str _| .nils| .nilp| .nilf| .nili=>true
 |_=>false
def flat1:AV->Bool
 | .agg cs=>cs.all flat0
 |a=>flat0 a
def flat:AV->Bool
 | .tup vs=>vs.all flat1
 |a=>flat1 a
def AV.shift(n:Nat):AV->AV
 | .ref k=>.ref (n+k)
 | .tup vs=>.tup (vs.map λ| .ref k=>.ref (n+k)|a=>a)
 |a=>a
def flatR:AV->Bool
 | .tup vs=>vs.all λ| .ref _=>true|a=>flat1 a
 | .ref _=>true
 |a=>flat1 a
def fQ:Ob->Bool
 | .arr _ _ rows=>rows.all λrow=>row.all flat0
 |_=>false
def CallK(P:Program)(f:FuncId)(args:List AV)(aw aw1:List Ob)(K:AV->List Ob->Prop):Prop:=
 (∃Q,ACalls P f args aw1 Q/\∀r aw',Q r aw'->K r aw')∨
 (∃Q,ACalls P f args [] Q/\(∀a,a∈args->Pure a)/\∀r aw',Q r aw'->(flat r=true/\K r aw)∨(aw'=[]/\Pure r/\K r aw1)∨
  (∃e s rows,aw'=[.arr e s rows]/\(∀row,row∈rows->∀x,x∈row->Pure x)/\((∃k,r=.ref k)∨∃vs,r=.tup vs/\∀x,x∈vs->Pure x∨∃k,x=.ref k)/\K (r.shift aw1.length) (aw1++aw'))∨
  (flatR r=true/\aw'.all fQ=true/\K (r.shift aw.length) (aw++aw')))
def gV(P:Program)(o:Oper)(fr:List AV)(aw:List Ob)(K:AV->List Ob->Prop):Prop:=
 match o.op with
 | .call { callee:=.value f,args,.. }=>
  (match ev fr f with
  | .func g caps=>CallK P g ((d7 aw (args.toList.map (ev fr))).1++caps) aw (d7 aw (args.toList.map (ev fr))).2 K
  |_=>False)
 |op=>iH P fr aw op K
def putF(fr:List AV)(d:Option Tmp)(r:AV):List AV:=match d with|some t=>fr.set t r|none=>fr
def Gz(rest:List AV->List Ob->Prop)(fr:List AV)(dst:Option Tmp)(r:AV)(aw:List Ob):Prop:=rest (putF fr dst r) aw
def vcOps(P:Program)(ops:Array Oper):List Oper->(List AV->List Ob->Prop)->List AV->List Ob->Prop
  |[],K,fr,aw=>K fr aw
  | o ::rest,K,fr,aw=>
    match o.guard with
    |none=>gV P o fr aw (Gz (vcOps P ops rest K) fr o.dst)
    | some (j,want)=>
      match(ops[j]?).bind (·.dst)with
      |none=>False
      | some t=>match fr[t]? with
        |some (.bool b)=>if b=want then gV P o (fr.set t (.bool want)) aw (Gz (vcOps P ops rest K) (fr.set t (.bool want)) o.dst)
            else vcOps P ops rest K (putF (fr.set t (.bool !want)) o.dst .any) aw
        |_=>False
def Ren(ρ:List Nat)(a' a:AV):Prop:=∀σ w F v,Rel σ w F a v->∀σ',(∀(k id:Nat),ρ[k]?=some id->σ'[k]?=σ[id]?)->Rel σ' w F a' v
def cK(ρ:List Nat):List AV->List AV->Prop
 |[],[]=>True
 |a'::as',a::as₀=>Ren ρ a' a/\cK ρ as' as₀
 |_,_=>False
def RenO(ρ:List Nat):Ob->Ob->Prop
 | .dead,_=>True
 | .box cs',.box cs=>cK ρ cs' cs
 | .boxB t' cs',.boxB t cs=>t'=t/\cK ρ cs' cs
 | .box cs',.boxB _ cs=>cK ρ cs' cs
 | .arr e' s' rows',.arr e s rows=>e'=e/\s'=s/\rows'=rows/\∀row,row∈rows->∀x,x∈row->Ren ρ x x
 | .mp ks' vs',.mp ks vs=>cK ρ ks' ks/\cK ρ vs' vs
 | .hd e' k',.hd e k=>e'=e/\ρ[k']?=some k
 | .cl e' s' cells',.cl e s cells=>e'=e/\s'=s/\cells'=cells/\∀rows,(Cell.own rows∈cells∨Cell.fz rows∈cells)->∀row,row∈rows->∀x,x∈row->Pure x
 |_,_=>False
def b7(ρ:List Nat)(aw:List Ob):List Nat->List Ob->Prop
 |[],[]=>True
 |id::ids,o'::aw'=>(∃o,aw[id]?=some o/\RenO ρ o' o)/\b7 ρ aw ids aw'
 |_,_=>False
def nilify:List (Nat×TypeId×Nat)->List AV->List Ob->List AV×List Ob
 |[],fr,aw=>(fr,aw)
 |(s,e,z)::r,fr,aw=>
  match fr[s]? with
  |some .nils=>nilify r (fr.set s (.ref aw.length)) (aw++[.arr e z []])
  |_=>nilify r fr aw
def Weak(n:Nat)(fr:List AV)(aw:List Ob)(fr':List AV)(aw':List Ob):Prop:=
 ∃(nl:List (Nat×TypeId×Nat)) (ρ:List Nat),ρ.Nodup/\(∀k,k<n->ρ[k]?=some k)/\cK ρ fr' (nilify nl fr aw).1/\b7 ρ (nilify nl fr aw).2 ρ aw'
def loopQ(n:Nat)(I:Nat->List AV->List Ob->Prop)(m:Nat)(Q:Exit->List AV->List Ob->Prop):Exit->List AV->List Ob->Prop
 | .normal,fr1,aw1=>∃m' fr' aw',m'< m/\Weak n fr1 aw1 fr' aw'/\I m' fr' aw'
 |e,fr1,aw1=>Q e fr1 aw1
def Loop(n:Nat)(body:(Exit->List AV->List Ob->Prop)->List AV->List Ob->Prop)(Q:Exit->List AV->List Ob->Prop)(fr:List AV)(aw:List Ob):Prop:=
 ∃I:Nat->List AV->List Ob->Prop,(∃m fr' aw',Weak n fr aw fr' aw'/\I m fr' aw')/\∀m fr aw,I m fr aw->body (loopQ n I m Q) fr aw
def thenA(K:List AV->List Ob->Prop)(Q:Exit->List AV->List Ob->Prop):Exit->List AV->List Ob->Prop
 | .normal,fr,aw=>K fr aw
 |e,fr,aw=>Q e fr aw
def sG(id:Nat)(Q:Exit->List AV->List Ob->Prop):Exit->List AV->List Ob->Prop
 | .exit id',fr,aw=>if id'=id then Q .normal fr aw else Q (.exit id') fr aw
 |e,fr,aw=>Q e fr aw
def onlyN(R:Act->World->Prop):Exit->Act->World->Prop
 | .normal,a,w=>R a w
 |_,_,_=>False
def Drawn(P:Program)(id:Nat)(ops:Array Oper)(K:List AV->List Ob->Prop)(s:List AV)(aw:List Ob):Prop:=
 ∀(st:St) (R:Act->World->Prop) (σ:List Value) (w:World) (F:Nat->Prop) (a:Act),
  (∀fr aw σ w F a,Cur st fr aw σ w F a->K fr aw->R a w)->Cur st s aw σ w F a->(Code.region id ops true).wp P (onlyN R) a w
def vc(P:Program)(n:Nat):Code->(Exit->List AV->List Ob->Prop)->List AV->List Ob->Prop
 | .skip,Q,fr,aw=>Q .normal fr aw
 | .region id ops draw,Q,fr,aw=>if draw=true then Drawn P id ops (Q .normal) fr aw else vcOps P ops ops.toList (Q .normal) fr aw
 | .seq x y,Q,fr,aw=>vc P n x (thenA (vc P n y Q) Q) fr aw
 | .cond c x y,Q,fr,aw=>(match ev fr c with
  | .bool b=>if b=true then vc P n x Q fr aw else vc P n y Q fr aw
  |_=>False)
 | .block id c,Q,fr,aw=>vc P n c (sG id Q) fr aw
 | .loop c,Q,fr,aw=>Loop n (vc P n c) Q fr aw
 | .exit id,Q,fr,aw=>Q (.exit id) fr aw
 | .ret,Q,fr,aw=>Q .ret fr aw
 |_,_,_,_=>False
def cq(P:Program)(fr:List AV)(aw:List Ob):List ResultVar->(List AV->Prop)->Prop
 |[],K=>K []
 | .tmp t::rs,K=>cq P fr aw rs λvs=>K (fr.getD t .any::vs)
 | .cell a t::rs,K=>vcQ P fr aw (.load t (.tmp a)) λv=>cq P fr aw rs λvs=>K (v::vs)
def dT:List AV->AV
 |[v]=>v
 |vs=>.tup vs
def il(aw:List Ob):AV->AV×List Ob
 | .tup vs=>(.tup (d7 aw vs).1,(d7 aw vs).2)
 |a=>norm aw a
def WeakR(n:Nat)(r:AV)(aw:List Ob)(r':AV)(aw':List Ob):Prop:=
 ∃ρ:List Nat,ρ.Nodup/\(∀k,k<n->ρ[k]?=some k)/\Ren ρ r' r/\b7 ρ aw ρ aw'
def Ret(n:Nat)(Q:AV->List Ob->Prop)(aw:List Ob)(vs:List AV):Prop:=
 ∃ (nl:List (Nat×TypeId×Nat)) (z:Bool) (r':AV) (aw':List Ob),
  WeakR n (if z=true then il (nilify nl vs aw).2 (dT (nilify nl vs aw).1)else(dT (nilify nl vs aw).1,(nilify nl vs aw).2)).1
   (if z=true then il (nilify nl vs aw).2 (dT (nilify nl vs aw).1)else(dT (nilify nl vs aw).1,(nilify nl vs aw).2)).2 r' aw'/\Q r' aw'
def retQ(P:Program)(fn:Func)(n:Nat)(Q:AV->List Ob->Prop):Exit->List AV->List Ob->Prop
 | .normal,fr,aw| .ret,fr,aw=>cq P fr aw fn.results.toList (Ret n Q aw)
 |_,_,_=>False
end
section
open Go.RowKit
section
variable {P:Program} {σ:List Value} {w:World} {F:Nat→Prop} {aw:List Ob}
variable {ρ:U Nat}{vs σ':U Value}{v:Value}{aw':U Ob}{st:St}{fr:U AV}{a:Act}{r:AV}{w':World}{F':Nat->Prop}{K:AV->U Ob->Prop}
theorem Dr:∀{as' as₀:U AV},cK ρ as' as₀->as'.length=as₀.length/\∀(j:Nat) a' a,as'[j]?=some a'->as₀[j]?=some a->Ren ρ a' a
 |[],[],_=>⟨J,λj a' a h=>by simp at h⟩
 |a'::as',a::as₀,h=>by
  obtain⟨h1,h2⟩:=Dr h.2;refine⟨by simp[h1],λj x y hx hy=>?_⟩;cases j with
  |zero=>simp at hx hy;subst hx;subst hy;exact h.1
  |succ j=>grind
 |[],_::_,h=>h.elim
 |_::_,[],h=>h.elim
theorem f5 {as' as₀:U AV}(h:cK ρ as' as₀)(hr:RelL σ w F as₀ vs)(hσ:∀(k id:Nat),ρ[k]?=some id->σ'[k]?=σ[id]?):RelL σ' w F as' vs:=by
 obtain⟨h1,h2⟩:=Dr h;refine⟨hr.1.trans h1.symm,λj a v ha hv=>?_⟩;have hlt:j<as₀.length:=by grind
 exact h2 j a _ ha (RG hlt) σ w F v (hr.2 j _ v (RG hlt) hv) σ' hσ
theorem kK:∀{ids:U Nat} {aw':U Ob},b7 ρ aw ids aw'->aw'.length=ids.length/\∀(k:Nat) o',aw'[k]?=some o'->∃id o,ids[k]?=some id/\aw[id]?=some o/\RenO ρ o' o
 |[],[],_=>⟨J,λk o' h=>by simp at h⟩
 |id::ids,o'::aw',h=>by
  obtain⟨h1,h2⟩:=kK h.2;refine⟨by simp[h1],λk x hx=>?_⟩;cases k with
  |zero=>simp at hx;subst hx;obtain⟨o,h3,h4⟩:=h.1;grind
  |succ k=>grind
 |[],_::_,h=>h.elim
 |_::_,[],h=>h.elim
theorem uR:∀{rows:U (U AV)},(∀row,row∈rows->∀x,x∈row->∀v,Rel σ w F x v->Rel σ' w F x v)->∀{flat:U Value},RelL σ w F rows.flatten flat->RelL σ' w F rows.flatten flat:=by intro rows h flat hr;refine⟨hr.1,λj x v hx hv=>?_⟩;obtain⟨row,hrow,hm⟩:=List.mem_flatten.1 (RI hx);exact h row hrow x hm v (hr.2 j x v hx hv)
theorem DB {e2 size:Nat}{c:Cell}{x:Value}(h:CellRel σ w F e2 size c x)(hp:∀rows,(Cell.own rows=c∨Cell.fz rows=c)->∀row,row∈rows->∀y,y∈row->Pure y):CellRel σ' w F e2 size c x:=by
 cases c with
 |own rows=>
  obtain⟨flat,h1,h2,h3,h4⟩:=h;exact⟨flat,h1,⟨h2.1,h2.2.1,uR (λrow hr y hy v hv=>hp rows (.inl J) row hr y hy σ w F v hv _) h2.2.2⟩,h3,h4⟩
 |fz rows=>
  have h:Rel σ w F (.sl rows) x:=h;cases h with
  |slNil=>exact Rel.slNil
  |sl _ sz ad c u h1 h2 h3 h4 h5 h6 h7=>exact Rel.sl rows sz ad c u h1 h2 h3 h4 h5 h6 (λi row j y hi hj=>hp rows (.inr J) row (RI hi) y (RI hj) σ w F _ (h7 i row j y hi hj) _)
 |hole=>trivial
theorem v8 {o' o:Ob}{b:Nat}(h:RenO ρ o' o)(hb:Bk o' v b):Bk o v b:=by
 cases o' with
 |dead=>exact hb.elim
 |cl e s cells=>
  cases o with
  |cl e' s' cells'=>obtain⟨rfl,rfl,rfl,_⟩:=h;exact hb
  |_=>exact h.elim
 |_=>cases o<;>first|exact hb|exact h.elim
theorem jI (h:Sim aw σ w F)(hnd:ρ.Nodup)(hw:b7 ρ aw ρ aw'):
  ∃σ':U Value,(∀(k id:Nat),ρ[k]?=some id->σ'[k]?=σ[id]?)/\Sim aw' σ' w F/\(∀b,Dof aw' σ' b->Dof aw σ b):=by
 obtain⟨hl,hg⟩:=kK hw
 have hσ:∀(k id:Nat),ρ[k]?=some id->(ρ.map λid=>σ.getD id undef)[k]?=σ[id]?:=λk id hk=>by
  have hk1:k<aw'.length:=by grind
  obtain⟨id',o,h1,h2,_⟩:=hg k _ (RG hk1);rw[hk]at h1;cases h1;have hid:id<σ.length:=by rw[h.len];grind
  grind
 have live:∀{o' o:Ob},RenO ρ o' o->o'.live=true->o.live=true:=λ{o' o} hr hlv=>by grind[RenO,Ob.live]
 refine⟨ρ.map λid=>σ.getD id undef,hσ,⟨by simp[hl],λk o' v ho' hv=>?_,λk k' o1 o2 v1 v2 g hne ho1 ho2 hl1 hl2 hv1 hv2 hb1 hb2=>?_,h.lt,h.gd⟩,λb hb=>?_⟩
 .obtain⟨id,o,h1,h2,h3⟩:=hg k o' ho'
  rw[hσ k id h1]at hv
  have hr:=h.obj id o v h2 hv
  cases o' with
  |dead=>trivial
  | mp ks' vs'=>cases o with
   |mp ks vs=>
    obtain⟨g,es,clock,e1,hg1,hk,hv',hf⟩:=hr
    exact⟨g,es,clock,e1,hg1,f5 h3.1 hk hσ,f5 h3.2 hv' hσ,hf⟩
   |_=>exact h3.elim
  | hd e' k'=>cases o with
   |hd e k2=>
    obtain⟨rfl,hk2⟩:=h3
    obtain⟨us,g1,g2,g3,g4,g5⟩:=hr
    exact⟨us,by grind,g2,g3,g4,g5⟩
   |_=>exact h3.elim
  | cl e' s' cells'=>cases o with
   |cl e s cells=>
    obtain⟨rfl,rfl,rfl,hp⟩:=h3
    obtain⟨us,e1,hl1,hc,hd⟩:=hr
    exact⟨us,e1,hl1,λi c x h1 h2=>DB (hc i c x h1 h2) (λrows hrr=>hp rows (hrr.imp (λ(e:Cell.own rows=c)=>by grind) (λ(e:Cell.fz rows=c)=>by grind))),hd⟩
   |_=>exact h3.elim
  |arrU e' s' rows' x'=>cases o<;>exact h3.elim
  | boxB t' cs'=>cases o with
   |boxB t cs=>
    obtain⟨rfl,h3⟩:=h3
    obtain⟨g,vs,e1,hg1,hr1,h11,hf⟩:=hr
    exact⟨g,vs,e1,hg1,f5 h3 hr1 hσ,h11,hf⟩
   |_=>exact h3.elim
  | box cs'=>cases o with
   |boxB t cs=>
    obtain⟨g,vs,e1,hg1,hr1,h11,hf⟩:=hr
    exact⟨g,vs,t,e1,hg1,f5 h3 hr1 hσ,h11,hf⟩
   |mp ks vs=>exact h3.elim
   |hd e k2=>exact h3.elim
   |cl e s cells=>exact h3.elim
   |arrU e s rows x=>exact h3.elim
   |dead=>exact h3.elim
   |arr e s rows=>exact h3.elim
   |box cs=>
    obtain⟨g,vs,ty,e1,hg1,hr1,h11,hf⟩:=hr
    exact⟨g,vs,ty,e1,hg1,f5 h3 hr1 hσ,h11,hf⟩
  | arr e' s' rows'=>cases o with
   |boxB t cs=>exact h3.elim
   |mp ks vs=>exact h3.elim
   |hd e k2=>exact h3.elim
   |cl e s cells=>exact h3.elim
   |arrU e s rows x=>exact h3.elim
   |dead=>exact h3.elim
   |box cs=>exact h3.elim
   |arr e s rows=>
    obtain⟨rfl,rfl,rfl,h4⟩:=h3
    obtain⟨flat,hown,hfl,hf,hform⟩:=hr
    exact⟨flat,hown,⟨hfl.1,hfl.2.1,uR (λrow hrow x hx v hxv=>h4 row hrow x hx σ w F v hxv _ hσ) hfl.2.2⟩,hf,hform⟩
 .obtain⟨id1,p1,a1,a2,a3⟩:=hg k o1 ho1
  obtain⟨id2,p2,b1,b2,b3⟩:=hg k' o2 ho2
  rw[hσ k id1 a1]at hv1
  rw[hσ k' id2 b1]at hv2
  refine h.sep id1 id2 p1 p2 v1 v2 g (λe=>hne ?_) a2 b2 (live a3 hl1) (live b3 hl2) hv1 hv2 (v8 a3 hb1) (v8 b3 hb2)
  grind[List.getElem?_inj]
 .obtain⟨k,o',v,ho',hlv,hv,hbv⟩:=hb
  obtain⟨id,o,h1,h2,h3⟩:=hg k o' ho'
  rw[hσ k id h1]at hv
  exact⟨id,o,v,h2,live h3 hlv,hv,v8 h3 hbv⟩
theorem UB (hl:st.σ.length=st.aw.length)(hm:Mv st.aw st.σ st.w st.F aw σ w F)(hρ:∀k,k<st.aw.length->ρ[k]?=some k)(hσ:∀(k id:Nat),ρ[k]?=some id->σ'[k]?=σ[id]?)(hd:∀b,Dof aw' σ' b->Dof aw σ b):Mv st.aw st.σ st.w st.F aw' σ' w F:=by
 refine⟨hm.os,hm.tape,hm.output,hm.size,hm.keep,λi v hv=>?_,hm.sub,hm.sup,λb hb=>hm.own b (hd b hb)⟩
 have hi:i<st.aw.length:=by grind
 rw[hσ i i (hρ i hi)]
 exact hm.pre i v hv
theorem yh (e:TypeId)(z:Nat)(h:Sim aw σ w F):Sim (aw++[.arr e z []]) (σ++[.slice none 0 0]) w F/\Mv aw σ w F (aw++[.arr e z []]) (σ++[.slice none 0 0]) w F/\Rel (σ++[.slice none 0 0]) w F (.ref aw.length) (.slice none 0 0):=by
 refine⟨h.push2 _ _ (λ_ _=>J) (RJ _) ⟨[],⟨by simp,.inl ⟨J,J⟩⟩,⟨by simp,by simp,.nil⟩,λg hg=>(by cases hg),_,_,_,rfl⟩ (λb hb=>by cases hb),
  ⟨J,J,drO,RJ _,λ_ _ _=>J,λi v hv=>eB hv,λ_ h=>h,λ_ h=>.inl h,λb hb=>?_⟩,.ref _ _ _ _ (by rw[<- h.len];simp)⟩
 obtain⟨k,o1,v1,ho1,hl,hv1,hb1⟩:=hb;rcases gP ho1 with h2|⟨rfl,rfl⟩
 .have hlt:=(RH.1 h2).1;rw[R2 (by rw[h.len];exact hlt)]at hv1;exact .inl ⟨k,o1,v1,h2,hl,hv1,hb1⟩
 .rw[<- h.len]at hv1;simp at hv1;subst hv1;cases hb1
theorem sv:∀(nl:U (Nat×TypeId×Nat)) {fr:U AV} {vs:U Value} {aw:U Ob} {σ:U Value},Sim aw σ w F->RelL σ w F fr vs ->
  ∃σ',Sim (nilify nl fr aw).2 σ' w F/\RelL σ' w F (nilify nl fr aw).1 vs/\Mv aw σ w F (nilify nl fr aw).2 σ' w F
 |[],fr,vs,aw,σ,hs,hr=>⟨σ,hs,hr,.refl ..⟩
 | (s,e,z)::r,fr,vs,aw,σ,hs,hr=>by
  unfold nilify;split
  .rename_i hn;obtain⟨v,hv,hrv⟩:=hr.get hn;cases hrv;obtain⟨s1,m1,r1⟩:=yh e z hs;have hr1:RelL (σ++[.slice none 0 0]) w F (fr.set s (.ref aw.length)) vs:=by
    have:=(m1.relL hs hr).set s r1;grind[List.set_getElem_self]
   obtain⟨σ',s2,r2,m2⟩:=sv r s1 hr1;exact⟨σ',s2,r2,m1.trans m2⟩
  .exact sv r hs hr
theorem Cur.weak {fr':U AV}(hl:st.σ.length=st.aw.length)(h:Cur st fr aw σ w F a)(hw:Weak st.aw.length fr aw fr' aw'):∃σ',Cur st fr' aw' σ' w F a:=by obtain⟨nl,ρ,hnd,hρ,hf,hW⟩:=hw;obtain⟨σ1,s1,r1,m1⟩:=sv nl h.sim h.fr.1;obtain⟨σ',hσ,hs,hd⟩:=jI s1 hnd hW;exact⟨σ',hs,⟨f5 hf r1 hσ,h.fr.2⟩,UB hl (h.mv.trans m1) hρ hσ hd,h.ds⟩
theorem xL (hf:flat0 r=true)(h:Rel σ w F r v):Rel σ' w' F' r v:=by
 cases h<;>simp[flat0]at hf
 .exact .int _ _
 .exact .bool _
 .exact .str _
 .exact .nils
 .exact .nilf
 .exact .nilp
 .exact .nili
theorem vq (hf:flat1 r=true)(h:Rel σ w F r v):Rel σ' w' F' r v:=by
 cases r with
 | agg cs=>
  cases h with
  |agg _ vs hl h1 hc=>
   simp only[flat1,Sc]at hf;exact .agg cs vs hl h1 (λj c u hcj hu=>xL (hf c (RI hcj)) (hc j c u hcj hu))
 |_=>exact xL hf h
theorem vE (hf:flat r=true)(h:Rel σ w F r v):Rel σ' w' F' r v:=by
 cases r with
 | tup cs=>
  cases h with
  |tup _ vs hl hc=>
   simp only[flat,Sc]at hf;exact .tup cs vs hl (λj c u hcj hu=>vq (hf c (RI hcj)) (hc j c u hcj hu))
 |_=>exact vq hf h
theorem Sim.beside (h:Sim aw σ w' F)(h':Sim aw' σ' w' F')(hF:∀b,F b->F' b)(hfl:aw'.all fQ=true)(hnew:∀b,Dof aw σ b->¬Dof aw' σ' b):Sim (aw++aw') (σ++σ') w' F:=by
 have old:∀(k:Nat) o v,(aw++aw')[k]?=some o->(σ++σ')[k]?=some v->(aw[k]?=some o/\σ[k]?=some v)∨(aw.length<=k/\aw'[k- aw.length]?=some o/\σ'[k- aw.length]?=some v):=λk o v ho hv=>by rw[Sk]at ho hv;rw[h.len]at hv;grind
 have hsep:∀(k k':Nat) o o' v v' g,aw[k]?=some o->σ[k]?=some v->aw'[k']?=some o'->σ'[k']?=some v'->o.live=true->o'.live=true->Bk o v g->Bk o' v' g->False:=
  λk k' o o' v v' g a1 a2 a3 a4 a5 a6 a7 a8=>hnew g ⟨k,o,v,a1,a5,a2,a7⟩ ⟨k',o',v',a3,a6,a4,a8⟩
 refine⟨by simp[h.len,h'.len],λk o v ho hv=>?_,λk k' o o' v v' g hne ho ho' hl hl' hv hv' hb hb'=>?_,h.lt,h.gd⟩
 .rcases old k o v ho hv with⟨h1,h2⟩|⟨_,h1,h2⟩
  .refine(h.obj k o v h1 h2).mono (λi u hu=>?_) (λ_ e=>e) (λ_ _=>J) (λhl b hb=>⟨J,h.free ⟨k,o,v,h1,hl,h2,hb⟩⟩)
   grind
  .have hob:=h'.obj _ o v h1 h2
   have hf:=Sc.1 hfl o (RI h1)
   cases o with
   |dead=>assumption
   |box cs=>simp[fQ]at hf
   |mp ks vs=>simp[fQ]at hf
   |hd e k2=>simp[fQ]at hf
   |cl e s cs=>simp[fQ]at hf
   |arrU e s rows x=>simp[fQ]at hf
   |boxB t cs=>simp[fQ]at hf
   |arr e s rows=>
    simp only[fQ,Sc]at hf
    obtain⟨fl,hown,hfr,hnf,A,n,c,hform⟩:=hob
    exact⟨fl,hown,⟨hfr.1,hfr.2.1,⟨hfr.2.2.1,λj x v hx hv=>by obtain⟨row,hrow,hm⟩:=List.mem_flatten.1 (RI hx);exact xL (hf row hrow x hm) (hfr.2.2.2 j x v hx hv)⟩⟩,λg hg hFg=>hnf g hg (hF g hFg),A,n,c,hform⟩
 .rcases old k o v ho hv with⟨h1,h2⟩|⟨h0,h1,h2⟩<;>rcases old k' o' v' ho' hv' with⟨h3,h4⟩|⟨h5,h3,h4⟩
  .exact h.sep k k' o o' v v' g hne h1 h3 hl hl' h2 h4 hb hb'
  .grind
  .grind
  .exact h'.sep _ _ o o' v v' g (by omega) h1 h3 hl hl' h2 h4 hb hb'
theorem MV {f:FuncId}{xs:U AV}(hc:Cur st fr aw σ w F a){F1:Nat->Prop}{aw1:U Ob}(s1:Sim aw1 σ w F1)(m1:Mv aw σ w F aw1 σ w F1)(hr:RelL σ w F1 xs vs)(h:CallK P f xs aw aw1 K):(∀vs w,(callFunc f vs).run P w=.ok (.enter f vs) w)/\Calls P f vs.toArray w λe w'=>∃v r aw' σ' F',e=.returned v/\K r aw'/\Cur st fr aw' σ' w' F' a/\Rel σ' w' F' r v:=by
 rcases h with⟨Q,hA,hQ⟩|⟨Q,hA,hp,hQ⟩
 .refine⟨hA.1,(hA.2 w F1 σ vs s1 hr).mono ?_⟩
  rintro e w' ⟨v,r,aw',σ',F',rfl,hq,hs,hrel,hm⟩
  exact⟨v,r,aw',σ',F',J,hQ r aw' hq,hc.step hs (m1.trans hm),hrel⟩
 .have s0:Sim [] [] w F1:=⟨J,λk o v ho=>by simp at ho,λk k' o o' v v' g _ ho=>by simp at ho,s1.lt,s1.gd⟩
  have r0:RelL [] w F1 xs vs:=⟨hr.1,λj x v hx hv=>hp x (RI hx) σ w F1 v (hr.2 j x v hx hv) []⟩
  refine⟨hA.1,(hA.2 w F1 [] vs s0 r0).mono ?_⟩
  rintro e w' ⟨v,r,aw',σ',F',rfl,hq,hs,hrel,hm⟩
  have hno:∀b,¬Dof [] [] b:=λb ⟨k,o,v,ho,_⟩=>by simp at ho
  have hk:∀b,b<w.heap.size->w'.heap[b]?=w.heap[b]?:=λb hb=>hm.keep b hb (hno b)
  rcases hQ r aw' hq with⟨hfl,hK⟩|⟨rfl,hpr,hK⟩|⟨e,sz,rows,rfl,hrows,hrr,hK⟩|⟨hfr,hfo,hK⟩
  .refine⟨v,r,aw,σ,F,J,hK,hc.step (hc.sim.grow (λ_ h=>h) (λ_ h=>.inl h) (λb hb=>Sx (hc.sim.lt b hb) hm.size) hk) (.grow (λ_ h=>h) (λ_ h=>.inl h) hm.os hm.tape hm.output hm.size hk),vE hfl hrel⟩
  .have hsup:∀b,F' b->F1 b∨w.heap.size<=b:=λb hb=>(hm.sup b hb).imp (λh=>h) (λh=>h.elim (λh=>absurd h (hno b)) (λh=>h))
   refine⟨v,r,aw1,σ,F',J,hK,hc.step (s1.grow hm.sub hsup hs.lt hk) (m1.trans (.grow hm.sub hsup hm.os hm.tape hm.output hm.size hk)),hpr _ _ _ _ hrel σ⟩
  .have hsup:∀b,F' b->F1 b∨w.heap.size<=b:=λb hb=>(hm.sup b hb).imp (λh=>h) (λh=>h.elim (λh=>absurd h (hno b)) (λh=>h))
   have sg:Sim aw1 σ w' F':=s1.grow hm.sub hsup hs.lt hk
   have mg:Mv aw1 σ w F1 aw1 σ w' F':=.grow hm.sub hsup hm.os hm.tape hm.output hm.size hk
   match σ',hs.len with
   | [v0],_=>
    obtain⟨flat,hown,hfl,hf,A,n,c,hform⟩:=hs.obj 0 _ v0 J J
    have hnewb:∀b,Bk (.arr e sz rows) v0 b->w.heap.size<=b:=λb hb=>(hm.own b ⟨0,_,v0,J,J,J,hb⟩).elim (λh=>absurd h (hno b)) (λh=>h)
    have hpre:∀x v,Pure x->Rel [v0] w' F' x v->Rel (σ++[v0]) w' F' x v:=λx v hx hxv=>hx _ _ _ _ hxv _
    have hpush:Sim (aw1++[.arr e sz rows]) (σ++[v0]) w' F':=by refine sg.push2 _ _ (λ_ _=>J) (RJ _) ⟨flat,hown,⟨hfl.1,hfl.2.1,uR (λrow hrow x hx v hxv=>hpre x v (hrows row hrow x hx) hxv) hfl.2.2⟩,hf,A,n,c,hform⟩ (λb hb hd=>?_);have:=hnewb b hb;have:=s1.lt_own hd;omega
    have hmv:Mv aw1 σ w F1 (aw1++[.arr e sz rows]) (σ++[v0]) w' F':=by
     refine⟨hm.os,hm.tape,hm.output,hm.size,λb hb _=>hk b hb,λi v hv=>eB hv,hm.sub,λb hb=>(hsup b hb).imp (λh=>h) .inr,λb hb=>?_⟩;obtain⟨k,o1,v1,ho1,hl1,hv1,hb1⟩:=hb;rcases gP ho1 with h2|⟨rfl,rfl⟩
     .have hlt:=(RH.1 h2).1;rw[R2 (by rw[s1.len];exact hlt)]at hv1;exact .inl ⟨k,o1,v1,h2,hl1,hv1,hb1⟩
     .rw[<- s1.len]at hv1;grind
    have href:∀k v,Rel [v0] w' F' (.ref k) v->Rel (σ++[v0]) w' F' (.ref (aw1.length+k)) v:=by
     intro k v hkv;cases hkv with
     | ref _ A n c h=>
      cases k with
      |succ k=>simp at h
      |zero=>
       refine .ref _ A n c ?_;rw[<- s1.len,SY];simpa using h
    refine⟨v,r.shift aw1.length,_,_,F',J,hK,hc.step hpush (m1.trans hmv),?_⟩
    rcases hrr with⟨k,rfl⟩|⟨ys,rfl,hys⟩
    .exact href k v hrel
    .cases hrel with
     |tup _ us hl hcs=>
      refine .tup _ us (by grind) (λj c u hcj hu=>?_)
      grind
  .have sg:Sim aw σ w' F:=hc.sim.grow (λ_ h=>h) (λ_ h=>.inl h) (λb hb=>Sx (hc.sim.lt b hb) hm.size) hk
   have mg:Mv aw σ w F aw σ w' F:=.grow (λ_ h=>h) (λ_ h=>.inl h) hm.os hm.tape hm.output hm.size hk
   have hnewb:∀b,Dof aw' σ' b->w.heap.size<=b:=λb hb=>(hm.own b hb).elim (λh=>absurd h (hno b)) (λh=>h)
   have hFF:∀b,F b->F' b:=λb hb=>hm.sub b (m1.sub b hb)
   have sb:=sg.beside hs hFF hfo (λb hb hb'=>by have:=hnewb b hb';have:=hc.sim.lt_own hb;omega)
   have mb:Mv aw σ w F (aw++aw') (σ++σ') w' F:=by
    refine⟨hm.os,hm.tape,hm.output,hm.size,λb hb _=>hk b hb,λi u hu=>?_,λ_ h=>h,λb hb=>.inl hb,λb hb=>?_⟩
    .grind
    .obtain⟨k,o,u,ho,hl,hu,hbk⟩:=hb;rw[Sk]at ho hu;rw[hc.sim.len]at hu;split at ho
     .rename_i hlt;rw[if_pos hlt]at hu;exact .inl ⟨k,o,u,ho,hl,hu,hbk⟩
     .rename_i hlt;rw[if_neg hlt]at hu;exact .inr (hnewb b ⟨_,o,u,ho,hl,hu,hbk⟩)
   have href:∀k u,Rel σ' w' F' (.ref k) u->Rel (σ++σ') w' F (.ref (aw.length+k)) u:=by
    intro k u hku;cases hku with
    |ref _ A n c h=>
     refine .ref _ A n c ?_;rw[Sn (by rw[hc.sim.len];omega),hc.sim.len,Nat.add_sub_cancel_left];exact h
   refine⟨v,r.shift aw.length,_,_,F,J,hK,hc.step sb mb,?_⟩
   cases r with
   | tup vs=>
    cases hrel with
    |tup _ us hl hcs=>
     refine .tup _ us (by grind) (λj c u hcj hu=>?_)
     rw[R9,Sf]at hcj
     obtain⟨y,hy,rfl⟩:=hcj
     have h1:=hcs j y u hy hu
     simp only[flatR,Sc]at hfr
     have h2:=hfr y (RI hy)
     grind[vq]
   |ref k=>exact href k v hrel
   |_=>exact vq hfr hrel
theorem O2 {o:Oper}{Kc:Act->World->Prop}{Q:Exit->Act->World->Prop}(hc:Cur st fr aw σ w F a)(h:gV P o fr aw K)(hk:∀r aw' σ' w' F' v,K r aw'->Cur st fr aw' σ' w' F' a->Rel σ' w' F' r v->Kc (a.put o.dst v) w'):o.wp P a w Kc Q:=by
 have val:iH P fr aw o.op K->o.wp P a w Kc Q:=by
  intro h;obtain⟨v,n,w',aw',σ',F',r,hrun,hn,hs,hm,hr,hK⟩:=M3 hc.fr hc.sim o h;unfold Oper.wp;rw[hrun];rcases hn with rfl|⟨rfl,rfl⟩
  .exact hk r aw' σ' w' F' v hK (hc.step hs hm) hr
  .exact hk r aw' σ' w' F' undef hK (hc.step hs hm) hr
 unfold gV at h
 split at h
 .rename_i f args ats hop
  split at h
  .rename_i g caps ef
   have hf:=hc.fr.ev f
   rw[ef]at hf
   generalize hvf:a.eval f=vf at hf
   cases hf with
   |func _ _ cvs hl hcs=>
    obtain⟨F1,s1,m1,r1⟩:=vJ hc.sim (kF hc.fr args.toList)
    have r2:RelL σ w F1 caps cvs:=m1.relL hc.sim ⟨hl,hcs⟩
    obtain⟨hcall,hC⟩:=MV hc s1 m1 (r1.append r2) h
    unfold Oper.wp
    have hrun:(execOp a.eval o).run P w=.ok (.enter g (args.toList.map a.eval++cvs).toArray) w:=by simp_all[execOp,resolve,Deferred.ofValue,invoke]
    rw[hrun]
    refine hC.mono ?_
    grind
  grind
 grind
theorem fI (hc:Cur st fr aw σ w F a)(hr:Rel σ w F r v)(d:QbQ Tmp):Cur st (putF fr d r) aw σ w F (a.put d v):=hc.put hr d
def CQ(st:St)(Q:Exit->List AV->List Ob->Prop)(e:Exit)(a:Act)(w:World):Prop:=∃fr aw σ F,Q e fr aw/\Cur st fr aw σ w F a
end
end
section
open Go.RowKit
section
variable {P:Program} {σ:List Value} {w:World} {F:Nat→Prop} {aw:List Ob}
def resOf(tmps:Array Value):ResultVar->Sem Value
 | .tmp t=>pure (tmps.getD t undef)
 | .cell a t=>do loadVar t (<- asAddr (tmps.getD a undef))
theorem Bg(fn:Func)(tmps:Array Value)(us:U Value)(h:(fn.results.toList.mapM (resOf tmps)).run P w=.ok us w):(results fn tmps).run P w=.ok (if h:us.length=1 then us[0]else .tuple us.toArray) w:=by
 have e:results fn tmps=(do let vs<- fn.results.mapM (resOf tmps);pure (if h:vs.size=1 then vs[0]else .tuple vs)):=by rfl
 simp_all[Array.mapM_eq_mapM_toList]
theorem wn{fr:U AV}{a:Act}(ha:ARel σ w F fr a)(hs:Sim aw σ w F):∀(rs:U ResultVar) (K:U AV->Prop),cq P fr aw rs K->∃vs us,RelL σ w F vs us/\K vs/\(rs.mapM (resOf a.tmps)).run P w=.ok us w
 |[],K,h=>⟨[],[],.nil,h,by simp⟩
 | .tmp t::rs,K,h=>by
  obtain⟨vs,us,h1,h2,h3⟩:=wn ha hs rs _ h;refine⟨_,a.tmps.getD t undef::us,.cons (ha.ev (.tmp t)) h1,h2,?_⟩;grind[Sem.run_bind,resOf,Sem.run_pure,Result.andThen_ok]
 | .cell x t::rs,K,h=>by
  obtain⟨v,r,h1,h2,h3⟩:=Gb ha hs h;obtain⟨vs,us,h4,h5,h6⟩:=wn ha hs rs _ h3;refine⟨_,v::us,.cons h2 h4,h5,?_⟩;have hrun:=h1 w (λ_ _=>J);have e:a.eval (.tmp x)=a.tmps.getD x undef:=rfl;rw[e]at hrun;have:(resOf a.tmps (.cell x t)).run P w=.ok v w:=by
   simp only[resOf];generalize a.tmps.getD x undef=p at hrun ⊢;cases p with
   |pointer ad=>cases ad with
    |none=>simp_all[Instr.loadAt,Instr.sureAddr]
    |some ad=>assumption
   |_=>simp_all[Instr.loadAt,Instr.sureAddr]
  simp_all
theorem EZ{vs:U AV}{us:U Value}(h:RelL σ w F vs us):Rel σ w F (dT vs) (if h:us.length=1 then us[0]else .tuple us.toArray):=by
 match vs,us,h with
 |[v],[u],h=>exact h.2 0 v u J J
 |[],[],h=>exact .tup [] [] J (λj c u hc=>by simp at hc)
 |v::v'::vs,u::u'::us,h=>
  rw[dif_neg (by simp)]
  exact .tup _ _ h.1 h.2
 |[],_::_,h=>exact absurd h.1 (by simp)
 |_::_,[],h=>exact absurd h.1 (by simp)
 |[_],_::_::_,h=>exact absurd h.1 (by simp)
 |_::_::_,[_],h=>exact absurd h.1 (by simp)
theorem Df{r:AV}{v:Value}(hs:Sim aw σ w F)(hr:Rel σ w F r v):∃F',Sim (il aw r).2 σ w F'/\Mv aw σ w F (il aw r).2 σ w F'/\Rel σ w F' (il aw r).1 v:=by
 cases r with
 | tup vs=>
  cases hr with
  |tup _ us hl hc=>
   obtain⟨F',s1,m1,r1⟩:=vJ hs ⟨hl,hc⟩;exact⟨F',s1,m1,.tup _ us r1.1 r1.2⟩
 |_=>exact tg hs hr
theorem callable{f:FuncId}{fn:Func}(hf:P.funcs[f]?=some fn)(hb:fn.body.isSome=true)(hname:(fn.name== "runtime.NumGoroutine")=false)(vs:Array Value)(w:World):(callFunc f vs).run P w=.ok (.enter f vs) w:=by
 have hb':fn.body≠none:=by grind
 simp_all[callFunc]
end
end
section
open Go.RowKit
section
variable {P:Program} {n:Nat} {Q:Exit→List AV→List Ob→Prop} {fr:List AV} {aw:List Ob} {K:AV→List Ob→Prop} {KK:List AV→List Ob→Prop}
 {d:Option Tmp} {ty:TypeId} {ps:String} {af:Array Edge} {g:Option (Nat×Bool)} {x y z:Operand} {t s:TypeId} {ops:Array Oper} {o:Oper} {l:List Oper}
theorem MM:gV P ⟨d,.alloc t,ty,ps,af,g⟩ fr aw K=(match bu P t with|some z=>K (.ptr aw.length 0) (aw++[.box z])|none=>False):=rfl
theorem PG:gV P ⟨d,.box t x,ty,ps,af,g⟩ fr aw K=(match(ev fr x).cells with|some cs=>K (.ptr aw.length 0) (aw++[.box cs])|none=>False):=rfl
theorem FJ:gV P ⟨d,.load t x,ty,ps,af,g⟩ fr aw K=
  (match ev fr x with
  | .ptr id off=>(match aw[id]? with|some (.box cs)=>co P t cs off λr=>K r aw|_=>False)
  | .elt row off=>co P t row off λr=>K r aw
  | .aptr id size i off=>(match aw[id]? with
   |some (.arr _ size' rows)=>size'=size/\i<rows.length/\∀row,rows[i]?=some row->co P t row off λr=>K r aw
   |_=>False)
  |_=>False):=by
 cases h:ev fr x<;>simp only[gV,iH,isQ,vcQ,vcE,h,if_true,RU,if_false]<;>rfl
theorem Ed:gV P ⟨d,.store t x y,ty,ps,af,g⟩ fr aw K=
  (match ev fr x with
  | .ptr id off=>(match(ev fr y).cells with
   |some vs=>(match aw[id]? with
    |some (.box cs)=>(P.underlying t).isSome=true/\vs.length=P.cellsOf t/\off+vs.length<=cs.length/\K .any (aw.set id (.box (splice cs off vs)))
    |_=>False)
   |none=>False)
  | .aptr id size i off=>(match(ev fr y).cells with
   | some vs=>(match aw[id]? with
    |some (.arr e size' rows)=>(P.underlying t).isSome=true/\size'=size/\vs.length=P.cellsOf t/\i<rows.length/\off+vs.length<=size /\
     ∀row,rows[i]?=some row->K .any (aw.set id (.arr e size (rows.set i (splice row off vs))))
    |_=>False)
   |none=>False)
  |_=>False):=by
 cases h:ev fr x<;>cases h2:(ev fr y).cells<;>simp only[gV,iH,isQ,vcQ,vcE,h,h2,if_true,RU,if_false]<;>rfl
theorem AJ:gV P ⟨d,.makeSlice t x y,ty,ps,af,g⟩ fr aw K=
 (match P.underlying t,ev fr x,ev fr y with
 | some (.slice e),.int _ n,.int _ m=>(match bu P e with
  |some z=>z.length=P.cellsOf e/\0<P.cellsOf e/\0<=n/\n<=m/\(n=0∨n=m)/\P.bytesOf e*m.toNat<=281474976710656/\m.toNat<=maxLen /\
   K (.ref aw.length) (aw++[.arr e (P.cellsOf e) (List.replicate n.toNat z)])
  |none=>False)
 |_,_,_=>False):=rfl
theorem JB:gV P ⟨d,.convert s t x,ty,ps,af,g⟩ fr aw K=
 (if(match ev fr x with| .int _ _=>true|_=>false)=true then(match P.underlying s,P.underlying t,ev fr x with
  |some _,some (.int k),.int _ n=>K (.int k (k.wrap n)) aw
  |_,_,_=>False)
 else(match P.underlying s,P.underlying t,norm aw (ev fr x)with
  |some (.slice e),some .string,(.sl rows,aw')=>P.underlying e=some (.int .u8)/\rows.all y9=true/\K (.str (rows.map sZ)) aw'
  |_,_,_=>False)):=rfl
end
end
section
open Go.RowKit
section
variable {P:Program} {σ:List Value} {w:World} {F:Nat→Prop} {aw:List Ob}
variable {d:Option Tmp} {ty:TypeId} {ps:String} {af:Array Edge} {ops:Array Oper} {l:List Oper} {fr:List AV} {KK:List AV→List Ob→Prop}
theorem aL (k:IntKind)(n:Int):Pure (.int k n):=λσ w F v h σ'=>vE J h
theorem kE (b:Bool):Pure (.bool b):=λσ w F v h σ'=>vE J h
theorem bc (s:U UInt8):Pure (.str s):=λσ w F v h σ'=>vE J h
theorem bT:Pure .nils:=λσ w F v h σ'=>by cases h;exact .nils
theorem se:Pure .nilf:=λσ w F v h σ'=>by cases h;exact .nilf
theorem Dw (cs:U AV)(hp:∀c,c∈cs->Pure c):Pure (.agg cs):=λσ w F v h σ'=>by
 cases h with
 |agg _ vs hl h1 hc=>exact .agg cs vs hl h1 (λj c u hcj hu=>hp c (RI hcj) σ w F u (hc j c u hcj hu) σ')
theorem Mf (cs:U AV)(hp:∀c,c∈cs->Pure c):Pure (.tup cs):=λσ w F v h σ'=>by
 cases h with
 |tup _ vs hl hc=>exact .tup cs vs hl (λj c u hcj hu=>hp c (RI hcj) σ w F u (hc j c u hcj hu) σ')
theorem KR (f:FuncId)(cs:U AV)(hp:∀c,c∈cs->Pure c):Pure (.func f cs):=λσ w F v h σ'=>by
 cases h with
 |func _ _ vs hl hc=>exact .func f cs vs hl (λj c u hcj hu=>hp c (RI hcj) σ w F u (hc j c u hcj hu) σ')
theorem OR (rows:U (U AV))(hp:∀row,row∈rows->∀c,c∈row->Pure c):Pure (.sl rows):=λσ w F v h σ'=>by
 cases h with
 |slNil=>exact .slNil
 |sl _ size ad c u h1 h2 h3 h4 h5 h6 h7=>exact .sl rows size ad c u h1 h2 h3 h4 h5 h6 (λi row j x hi hx=>hp row (RI hi) x (RI hx) σ w F _ (h7 i row j x hi hx) σ')
theorem Eh (row:U AV)(off:Nat)(hp:∀c,c∈row->Pure c):Pure (.elt row off):=λσ w F v h σ'=>by
 cases h with
 |elt _ _ ad u h1 h2 h3 h4=>exact .elt row off ad u h1 h2 h3 (λj x hx=>hp x (RI hx) σ w F _ (h4 j x hx) σ')
theorem EC (ρ:U Nat)(a:AV):Ren ρ .any a:=λσ w F v h σ' _=>.any v
variable {ρ:U Nat}{k:Nat}{f:FuncId}{args:U AV}{aw1:U Ob}{v:AV}{K:AV->U Ob->Prop}
theorem kL {a:AV}(h:Pure a):Ren ρ a a:=λσ w F v hr σ' _=>h σ w F v hr σ'
theorem OX {id off:Nat}(h:ρ[k]?=some id):Ren ρ (.ptr k off) (.ptr id off):=λσ w F v hr σ' hσ=>by
 cases hr with
 |ptr _ _ g hg=>exact .ptr k off g (by grind)
theorem O7 {id:Nat}(h:ρ[k]?=some id):Ren ρ (.ref k) (.ref id):=λσ w F v hr σ' hσ=>by
 cases hr with
 |ref _ A n c hg=>exact .ref k A n c (by grind)
theorem U6 {Q:AV->U Ob->Prop}{aw:U Ob}{vs:U AV}(hp:Pure (il aw (dT vs)).1)(hQ:Q (il aw (dT vs)).1 []):Ret 0 Q aw vs:=
 ⟨[],true,_,[],⟨[],List.nodup_nil,λk h=>by omega,kL hp,tqz⟩,hQ⟩
def Fn(P:Program)(f:FuncId)(args:List AV)(v:AV):Prop:=ACalls P f args [] λr aw=>r=v/\aw=[]
theorem CallK.fn {aw:U Ob}(h:Fn P f args v)(hp:∀a,a∈args->Pure a)(hv:Pure v)(hK:K v aw1):CallK P f args aw aw1 K:=
 .inr ⟨_,h,hp,λr aw' ⟨h1,h2⟩=>.inr (.inl ⟨h2,by grind,by grind⟩)⟩
theorem CallK.flat {aw:U Ob}(h:Fn P f args v)(hp:∀a,a∈args->Pure a)(hv:Go.Proofs.YtfglbbhdfgjheaaGreatDoor.flat v=true)(hK:K v aw):CallK P f args aw aw1 K:=
 .inr ⟨_,h,hp,λr aw' ⟨h1,h2⟩=>.inl ⟨by grind,by grind⟩⟩
end
end
noncomputable section
open Go.RowKit
def idx{α:Type}(xs:List α)(i:Int):Option α:=if 0<=i then xs[i.toNat]? else none
def sub{α:Type}(xs:List α)(lo hi:Int):Option (List α):=if 0<=lo/\lo<=hi/\hi<=xs.length then some ((xs.take hi.toNat).drop lo.toNat)else none
def app{α:Type}(xs ys:List α):Option (List α):=if xs.length+ys.length<=1099511627776 then some (xs++ys)else none
def cat(xs ys:List UInt8):Option (List UInt8):=if xs.length+ys.length<=4611686018427387904 then some (xs++ys)else none
def quo(k:IntKind)(a b:Int):Option Int:=if b=0 then none else some (k.wrap (a.tdiv b))
def rem(a b:Int):Option Int:=if b=0 then none else some (a.tmod b)
def shl(k:IntKind)(a b:Int):Option Int:=if 0<=b then some (k.wrap (a*2 ^ (min b.toNat k.bits)))else none
def shr(k:IntKind)(a b:Int):Option Int:=if 0<=b then some (a.fdiv (2 ^ (min b.toNat k.bits)))else none
def mk{α:Type}(n:Int)(z:α):Option (List α):=if 0<=n/\n<=1099511627776 then some (List.replicate n.toNat z)else none
def ce(l:List Int):List UInt8:=l.map λn=>UInt8.ofNat n.toNat
def ixN{α:Type}(xs:List α)(i:Int):Option Nat:=if 0<=i/\i<xs.length then some i.toNat else none
def ibits(op:BinOp)(k:IntKind)(x y:Int):Int:=
 let a:=BitVec.ofInt k.bits x
 let b:=BitVec.ofInt k.bits y
 match op with
 | .and=>k.wrap (a &&& b).toNat
 | .or=>k.wrap (a ||| b).toNat
 | .xor=>k.wrap (a ^^^ b).toNat
 |_=>0
def isAt(i k:Int):Option Unit:=if i=k then some ()else none
abbrev W(n:Int):Int:=IntKind.i64.wrap n
section
variable {α β:Type}{b:Bool}{v s:α}{body:α->QbQ (α⊕β)}{A:QbQ α}
theorem CX {xs:U α}{i:Int}{a:α}(h:idx xs i=some a):0<=i/\i<xs.length/\xs[i.toNat]?=some a:=by grind[idx]
theorem bind_some {o:QbQ α}{k:α->QbQ β}{r:β}(h:o.bind k=some r):∃x,o=some x/\k x=some r:=Option.bind_eq_some_iff.1 h
theorem OQ {o:QbQ β}{v:α⊕β}(h:o.map Sum.inr=some v):∃w,o=some w/\v=.inr w:=by
 cases o with
 |none=>cases h
 |some w=>grind
inductive Steps {α β:Type} (body:α->Option (α⊕β)):Nat->α->β->Prop
 |done {s:α} {r:β}:body s=some (.inr r)->Steps body 0 s r
 |step {m:Nat} {s s':α} {r:β}:body s=some (.inl s')->Steps body m s' r->Steps body (m+1) s r
open Classical in
def iter{α β:Type}(body:α->Option (α⊕β))(s:α):Option β:=
 if h:∃p:Nat×β,Steps body p.1 s p.2 then some h.choose.2 else none
theorem Steps.det {m m':Nat}{r r':β}(h:Steps body m s r)(h':Steps body m' s r'):m=m'/\r=r':=by
 induction h generalizing m' with
 |done e=>
  cases h' with
  |done e'=>grind
  |step e' _=>grind
 |step e _ ih=>
  cases h' with
  |done e'=>grind
  |step e' h'=>grind
theorem sB {r:β}:iter body s=some r↔ ∃m,Steps body m s r:=by
 unfold iter;constructor
 .intro h;split at h;all_goals grind
 .rintro⟨m,h⟩;have hp:∃p:Nat×β,Steps body p.1 s p.2:=⟨(m,r),h⟩
  rw[dif_pos hp,(hp.choose_spec.det h).2]
theorem aE (body:α->QbQ (α⊕β))(s:α):iter body s=match body s with|none=>none|some (.inl s')=>iter body s'|some (.inr r)=>some r:=by
 apply Option.ext;intro r;show iter body s=some r↔(match body s with|none=>none|some (.inl s')=>iter body s'|some (.inr r)=>some r)=some r;rw[sB];cases hb:body s with
 |none=>exact⟨λ⟨m,h⟩=>(by cases h<;>simp_all),λh=>(by cases h)⟩
 | some v=>
  cases v with
  | inl s'=>
   simp only;rw[sB];constructor
   .rintro⟨m,h⟩;cases h with
    |done e=>grind
    |step e h=>grind
   .rintro⟨m,h⟩;exact⟨_,.step hb h⟩
  | inr r'=>
   simp only;constructor
   .rintro⟨m,h⟩;cases h with
    |done e=>grind
    |step e _=>grind
   .intro h;cases h;exact⟨0,.done hb⟩
theorem cb {B:QbQ α}(h:(if b=true then A else B)=some v)(hb:b=true):A=some v:=by grind
theorem cg {B:QbQ α}(h:(if b=true then A else B)=some v)(hb:b=false):B=some v:=by grind
end
end
section
open Go.RowKit
def lkA:List (Nat×AV)->Nat->AV
 |[],_=>.any
 |(s,v)::r,t=>match Nat.beq s t with
  |true=>v
  |false=>lkA r t
def mkA(n:Nat)(l:List (Nat×AV)):List AV:=(List.range n).map (lkA l)
def evA(n:Nat)(l:List (Nat×AV)):Operand->AV
 | .tmp t=>match Nat.blt t n with
  |true=>lkA l t
  |false=>.any
 | .const v=>AV.ofVal v
 | .global _=>.any
 | .func f=>.func f []
def putA(l:List (Nat×AV)):Option Tmp->AV->List (Nat×AV)
 |none,_=>l
 |some t,r=>(t,r)::l
theorem kH (s:Nat)(v:AV)(r:U (Nat×AV))(t:Nat):lkA ((s,v)::r) t=if s=t then v else lkA r t:=by
 show(match Nat.beq s t with|true=>v|false=>lkA r t)=_;by_cases h:s=t
 .simp_all
 .have:Nat.beq s t=false:=by
   grind[Nat.eq_of_beq_eq_true]
  grind
section
variable {n:Nat}{l:U (Nat×AV)}
theorem iC {t:Nat}:(mkA n l)[t]?=if t<n then some (lkA l t)else none:=by unfold mkA;grind
theorem qa:(mkA n l).length=n:=by simp[mkA]
theorem aF (n:Nat)(l:U (Nat×AV))(x:Operand):ev (mkA n l) x=evA n l x:=by
 cases x with
 | tmp t=>
  show(mkA n l).getD t .any=(match Nat.blt t n with|true=>lkA l t|false=>.any)
  rw[R1,iC];by_cases h:t<n
  .have:Nat.blt t n=true:=by simp_all
   grind
  .have:Nat.blt t n=false:=by
    grind[Nat.blt_eq]
   grind
 |_=>rfl
theorem eR (n:Nat)(l:U (Nat×AV))(d:QbQ Tmp)(r:AV):putF (mkA n l) d r=mkA n (putA l d r):=by
 cases d with
 |none=>rfl
 |some t=>
  apply Sw;intro i;show((mkA n l).set t r)[i]?=(mkA n ((t,r)::l))[i]?;rw[R5,iC,iC,qa,kH];grind
def initA(k:Nat):List AV->List (Nat×AV)
 |[]=>[]
 |a::as₀=>(k,a)::initA (k+1) as₀
theorem DZ:∀(as₀:U AV) (k t:Nat),k<=t->lkA (initA k as₀) t=as₀.getD (t- k) .any
 |[],k,t,_=>rfl
 |a::as₀,k,t,h=>by
  show lkA ((k,a)::initA (k+1) as₀) t=_;rw[kH];by_cases e:k=t
  .subst e;simp
  .rw[if_neg e,DZ as₀ (k+1) t (by omega)];grind
theorem xT (n:Nat)(as₀:U AV)(h:as₀.length<=n):as₀++List.replicate (n- as₀.length) AV.any=mkA n (initA 0 as₀):=by apply Sw;intro i;rw[iC,DZ as₀ 0 i (Sb _),TD];grind
end
section
variable {P:Program} {N n:Nat} {fr fr':List AV} {aw aw':List Ob} {l:List (Nat×AV)}
structure T (P:Program) (N:Nat) (c:Code) (Q:Exit->List AV->List Ob->Prop) (fr:List AV) (aw:List Ob):Prop where
 out:∀st:St,st.aw.length=N->st.σ.length=st.aw.length->∀σ w F a,Cur st fr aw σ w F a->c.wp P (CQ st Q) a w
structure OP (P:Program) (N:Nat) (o:Oper) (fr:List AV) (aw:List Ob) (K:AV->List Ob->Prop):Prop where
 out:∀st:St,st.aw.length=N->st.σ.length=st.aw.length->∀σ w F a,Cur st fr aw σ w F a->∀(Kc:Act->World->Prop) (Q:Exit->Act->World->Prop),
  (∀r aw' σ' w' F' v,K r aw'->Cur st fr aw' σ' w' F' a->Rel σ' w' F' r v->Kc (a.put o.dst v) w')->o.wp P a w Kc Q
structure RS (P:Program) (N:Nat) (ops:Array Oper) (l:List Oper) (K:List AV->List Ob->Prop) (fr:List AV) (aw:List Ob):Prop where
 out:∀st:St,st.aw.length=N->st.σ.length=st.aw.length->∀σ w F a,Cur st fr aw σ w F a->∀(Q:Exit->Act->World->Prop),
  (∀fr aw σ w F a,Cur st fr aw σ w F a->K fr aw->Q .normal a w)->wpList P ops Q l a w
structure RA (P:Program) (N:Nat) (ops:Array Oper) (k:Nat) (listed:Array Bool) (K:List AV->List Ob->Prop) (fr:List AV) (aw:List Ob):Prop where
 out:∀st:St,st.aw.length=N->st.σ.length=st.aw.length->∀σ w F a,Cur st fr aw σ w F a->∀(R:Act->World->Prop),
  (∀fr aw σ w F a,Cur st fr aw σ w F a->K fr aw->R a w)->wpAny P .any ops (onlyN R) k listed a w
variable {c x y:Code}{Q:Exit->U AV->U Ob->Prop}{ops:Array Oper}{k:Nat}
theorem T.weak (hw:Weak N fr aw fr' aw')(h:T P N c Q fr' aw'):T P N c Q fr aw:=
 ⟨λst h1 h2 σ w F a hc=>by subst h1;obtain⟨σ',hc'⟩:=hc.weak h2 hw;exact h.out st J h2 σ' w F a hc'⟩
theorem RA.weak {li:Array Bool}{K:U AV->U Ob->Prop}(hw:Weak N fr aw fr' aw')(h:RA P N ops k li K fr' aw'):RA P N ops k li K fr aw:=
 ⟨λst h1 h2 σ w F a hc=>by subst h1;obtain⟨σ',hc'⟩:=hc.weak h2 hw;exact h.out st J h2 σ' w F a hc'⟩
theorem T.skip (h:Q .normal fr aw):T P N .skip Q fr aw:=⟨λst _ _ σ w F a hc=>wp_skip ⟨fr,aw,σ,F,h,hc⟩⟩
theorem T.ret (h:Q .ret fr aw):T P N .ret Q fr aw:=⟨λst _ _ σ w F a hc=>wp_ret ⟨fr,aw,σ,F,h,hc⟩⟩
theorem T.exit {id:Nat}(h:Q (.exit id) fr aw):T P N (.exit id) Q fr aw:=⟨λst _ _ σ w F a hc=>wp_exit ⟨fr,aw,σ,F,h,hc⟩⟩
theorem T.seq (h:T P N x (thenA (T P N y Q) Q) fr aw):T P N (.seq x y) Q fr aw:=
 ⟨λst h1 h2 σ w F a hc=>wp_seq (wp_mono (h.out st h1 h2 σ w F a hc) (by
  rintro e a' w' ⟨fr',aw',σ',F',hq,hcur⟩;cases e with
  |normal=>exact T.out hq st h1 h2 σ' w' F' a' hcur
  |_=>exact⟨fr',aw',σ',F',hq,hcur⟩))⟩
theorem T.mono {Q':Exit->U AV->U Ob->Prop}(h:T P N c Q fr aw)(hq:∀e fr aw,Q e fr aw->Q' e fr aw):T P N c Q' fr aw:=
 ⟨λst h1 h2 σ w F a hc=>wp_mono (h.out st h1 h2 σ w F a hc) λe a' w' ⟨fr',aw',σ',F',h3,h4⟩=>⟨fr',aw',σ',F',hq _ _ _ h3,h4⟩⟩
theorem T.cond {c:Operand}{b:Bool}(he:evA n l c=.bool b)(h1:b=true->T P N x Q (mkA n l) aw)(h0:b=false->T P N y Q (mkA n l) aw):T P N (.cond c x y) Q (mkA n l) aw:=
 ⟨λst hN h2 σ w F a hc=>by
  have hcv:=hc.fr.ev c;rw[aF,he]at hcv;generalize hv:a.eval c=v at hcv;cases hcv;cases b with
  |true=>grind[wp_cond_true,out]
  |false=>grind[wp_cond_false,out]⟩
theorem T.block {id:Nat}(h:T P N c (sG id Q) fr aw):T P N (.block id c) Q fr aw:=
 ⟨λst h1 h2 σ w F a hc=>by
  refine wp_block (wp_mono (h.out st h1 h2 σ w F a hc) ?_);rintro e a' w' ⟨fr',aw',σ',F',hq,hcur⟩;cases e with
  |exit id'=>
   simp only[Exit.inBlock,sG]at hq ⊢;split
   .rename_i he;rw[if_pos he]at hq;exact⟨fr',aw',σ',F',hq,hcur⟩
   .rename_i he;rw[if_neg he]at hq;exact⟨fr',aw',σ',F',hq,hcur⟩
  |_=>exact⟨fr',aw',σ',F',hq,hcur⟩⟩
theorem T.region {id:Nat}(h:RS P N ops ops.toList (Q .normal) fr aw):T P N (.region id ops false) Q fr aw:=
 ⟨λst h1 h2 σ w F a hc=>wp_region_list (h.out st h1 h2 σ w F a hc _ λfr aw σ w F a hc hK=>⟨fr,aw,σ,F,hK,hc⟩)⟩
theorem T.drawn {id:Nat}(hm:P.follows .mixedOrders=true)(hk:ops.size=k)(h:RA P N ops k (Array.replicate k false) (Q .normal) fr aw):T P N (.region id ops true) Q fr aw:=
 ⟨λst h1 h2 σ w F a hc=>by subst hk;have hc':Cur st fr aw σ w.drew F a:=hc.step hc.sim.drew .drew;refine wp_mono (wp_region_any hm (h.out st h1 h2 σ w.drew F a hc' (λa w=>CQ st Q .normal a w) λfr aw σ w F a hc hK=>⟨fr,aw,σ,F,hK,hc⟩)) (λe a w hq=>?_);cases e<;>first|exact hq|exact hq.elim⟩
end
section
variable {P:Program} {N n:Nat} {fr fr':List AV} {aw aw':List Ob} {l:List (Nat×AV)}
def LQ{α β:Type}(N:Nat)(v:α⊕β)(F:α->List AV)(A:α->List Ob)(Q:Exit->List AV->List Ob->Prop):Exit->List AV->List Ob->Prop
 | .normal,fr,aw=>∃s',v=.inl s'/\Weak N fr aw (F s') (A s')
 |e,fr,aw=>Q e fr aw
theorem VO {α β:Type}{body:α->QbQ (α⊕β)}{s:α}{r:β}{c:Code}{Q:Exit->U AV->U Ob->Prop}(F:α->U AV)(A:α->U Ob)(h:iter body s=some r)(hw:Weak N fr aw (F s) (A s))(hb:∀s v,body s=some v->(∀w,v=.inr w->w=r)->T P N c (LQ N v F A Q) (F s) (A s)):T P N (.loop c) Q fr aw:=by
 obtain⟨m,hm⟩:=sB.1 h
 refine⟨λst h1 h2 σ w Fb a hc=>?_⟩
 subst h1
 obtain⟨σ',hc'⟩:=hc.weak h2 hw
 refine wp_loop_ghost (λm a w=>∃s σ Fb,Steps body m s r/\Cur st (F s) (A s) σ w Fb a) m ⟨s,σ',Fb,hm,hc'⟩ ?_
 rintro m a w ⟨s,σ,Fb,hs,hc⟩
 cases hs with
 |done e=>
  refine wp_mono ((hb s _ e (λw hw=>(Sum.inr.inj hw).symm)).out st J h2 σ w Fb a hc) ?_
  rintro e a' w' ⟨fr1,aw1,σ1,F1,hq,hcur⟩
  cases e with
  |normal=>obtain⟨s',hv,_⟩:=hq;cases hv
  |_=>exact⟨fr1,aw1,σ1,F1,hq,hcur⟩
 | @step m' _ s' _ e hs'=>
  refine wp_mono ((hb s _ e (λw hw=>by cases hw)).out st rfl h2 σ w Fb a hc) ?_
  rintro e a' w' ⟨fr1,aw1,σ1,F1,hq,hcur⟩
  cases e with
  |normal=>
   obtain⟨s'',hv,hw⟩:=hq
   cases hv
   obtain⟨σ',hc'⟩:=hcur.weak h2 hw
   exact⟨m',by omega,s',σ',F1,hs',hc'⟩
  |_=>exact⟨fr1,aw1,σ1,F1,hq,hcur⟩
variable {o:Oper}{K:U AV->U Ob->Prop}{ops:Array Oper}{os:U Oper}{σ:U Value}{w:World}{F:Nat->Prop}{st:St}{j t k i:Nat}{b want:Bool}{a:Act}{li:Array Bool}
theorem T1 {K:AV->U Ob->Prop}(h:gV P o fr aw K):OP P N o fr aw K:=
 ⟨λst h1 h2 σ w F a hc Kc Q hk=>O2 hc h hk⟩
theorem RS.nil (h:K fr aw):RS P N ops [] K fr aw:=⟨λst h1 h2 σ w F a hc Q hQ=>hQ _ _ _ _ _ _ hc h⟩
theorem RS.op (hg:o.guard=none)(h:OP P N o (mkA n l) aw λr aw'=>RS P N ops os K (mkA n (putA l o.dst r)) aw'):RS P N ops (o::os) K (mkA n l) aw:=
 ⟨λst h1 h2 σ w F a hc Q hQ=>by unfold wpList;rw[if_pos (by grind[Region.wanted])];refine .inl (h.out st h1 h2 σ w F a hc _ _ λr aw' σ' w' F' v hK hcur hrel=>RS.out hK st h1 h2 σ' w' F' _ ?_ Q hQ);have:=fI hcur hrel o.dst;grind[eR]⟩
theorem iz:Rel σ w F (.tup []) undef:=.tup [] [] J (λj c u hc=>by simp at hc)
theorem po (hc:Cur st (mkA n l) aw σ w F a)(ht:(ops[j]?).bind (·.dst)=some t)(hb:evA n l (.tmp t)=.bool b):yielded ops a.tmps j=some b:=by
 have hr:=hc.fr.ev (.tmp t);rw[aF,hb]at hr;have he:a.eval (.tmp t)=a.tmps.getD t undef:=rfl;rw[he]at hr;generalize hv:a.tmps.getD t undef=v at hr;cases hr;have:a.tmps[t]?=some (.bool b):=by
  cases hx:a.tmps[t]? with
  |none=>grind[undef]
  |some u=>simp_all
 grind[yielded]
theorem RS.yes (hg:o.guard=some (j,want))(ht:(ops[j]?).bind (·.dst)=some t)(hb:evA n l (.tmp t)=.bool b)(hbw:b=want)(h:OP P N o (mkA n l) aw λr aw'=>RS P N ops os K (mkA n (putA l o.dst r)) aw'):RS P N ops (o::os) K (mkA n l) aw:=
 ⟨λst h1 h2 σ w F a hc Q hQ=>by unfold wpList;rw[if_pos (by grind[Region.wanted,po])];refine .inl (h.out st h1 h2 σ w F a hc _ _ λr aw' σ' w' F' v hK hcur hrel=>RS.out hK st h1 h2 σ' w' F' _ ?_ Q hQ);have:=fI hcur hrel o.dst;grind[eR]⟩
theorem RS.no (hg:o.guard=some (j,want))(ht:(ops[j]?).bind (·.dst)=some t)(hb:evA n l (.tmp t)=.bool b)(hbw:b=!want)(h:RS P N ops os K (mkA n (putA l o.dst (.tup []))) aw):RS P N ops (o::os) K (mkA n l) aw:=
 ⟨λst h1 h2 σ w F a hc Q hQ=>by unfold wpList;rw[if_neg (by simp[Region.wanted,hg,po hc ht hb,hbw])];refine h.out st h1 h2 σ w F _ ?_ Q hQ;have:=fI hc iz o.dst;grind[eR]⟩
theorem A6 (hc:Cur st (mkA n l) aw σ w F a)(ht:(ops[j]?).bind (·.dst)=some t)(hb:evA n l (.tmp t)=.tup []):yielded ops a.tmps j=none:=by
 have hr:=hc.fr.ev (.tmp t);rw[aF,hb]at hr;have he:a.eval (.tmp t)=a.tmps.getD t undef:=rfl;rw[he]at hr;generalize hv:a.tmps.getD t undef=v at hr;cases hr with
 |tup _ vs hl _=>
  have:vs=[]:=RP (by omega);subst this;simp only[yielded,ht,RF];cases hx:a.tmps[t]? with
  |none=>rfl
  |some u=>simp_all
theorem U7 (hg:o.guard=some (j,want))(ht:(ops[j]?).bind (·.dst)=some t)(hb:evA n l (.tmp t)=.tup [])(h:RS P N ops os K (mkA n (putA l o.dst (.tup []))) aw):RS P N ops (o::os) K (mkA n l) aw:=
 ⟨λst h1 h2 σ w F a hc Q hQ=>by unfold wpList;rw[if_neg (by grind[Region.wanted,A6])];refine h.out st h1 h2 σ w F _ ?_ Q hQ;have:=fI hc iz o.dst;grind[eR]⟩
theorem RA.done (hr:Region.ready .any ops li=[])(h:K fr aw):RA P N ops k li K fr aw:=
 ⟨λst h1 h2 σ w F a hc R hR=>wpAny_done hr (hR _ _ _ _ _ _ hc h) k⟩
structure RO (P:Program) (N:Nat) (ops:Array Oper) (i:Nat) (K:List AV->List Ob->Prop) (fr:List AV) (aw:List Ob):Prop where
 out:∀st:St,st.aw.length=N->st.σ.length=st.aw.length->∀σ w F a,Cur st fr aw σ w F a->∀(R Kc:Act->World->Prop),
  (∀fr aw σ w F a,Cur st fr aw σ w F a->K fr aw->Kc a w)->wpOp P ops (onlyN R) i Kc a w
theorem RA.all {rs:U Nat}(hr:Region.ready .any ops li=rs)(hne:rs≠[])(h:∀i,i∈rs->RO P N ops i (RA P N ops k (li.setIfInBounds i true) K) fr aw):RA P N ops (k+1) li K fr aw:=
 ⟨λst h1 h2 σ w F a hc R hR=>wpAny_all hr hne λi hi=>(h i hi).out st h1 h2 σ w F a hc R _ λfr aw σ w F a hc hK=>RA.out hK st h1 h2 σ w F a hc R hR⟩
theorem RO.op (hi:ops[i]?=some o)(hg:o.guard=none)(h:OP P N o (mkA n l) aw λr aw'=>K (mkA n (putA l o.dst r)) aw'):RO P N ops i K (mkA n l) aw:=
 ⟨λst h1 h2 σ w F a hc R Kc hK=>by unfold wpOp;simp only[hi];rw[if_pos (by grind[Region.wanted])];refine .inl (h.out st h1 h2 σ w F a hc _ _ λr aw' σ' w' F' v hk hcur hrel=>hK _ _ σ' w' F' _ ?_ hk);have:=fI hcur hrel o.dst;grind[eR]⟩
theorem RO.yes (hi:ops[i]?=some o)(hg:o.guard=some (j,want))(ht:(ops[j]?).bind (·.dst)=some t)(hb:evA n l (.tmp t)=.bool b)(hbw:b=want)(h:OP P N o (mkA n l) aw λr aw'=>K (mkA n (putA l o.dst r)) aw'):RO P N ops i K (mkA n l) aw:=
 ⟨λst h1 h2 σ w F a hc R Kc hK=>by unfold wpOp;simp only[hi];rw[if_pos (by grind[Region.wanted,po])];refine .inl (h.out st h1 h2 σ w F a hc _ _ λr aw' σ' w' F' v hk hcur hrel=>hK _ _ σ' w' F' _ ?_ hk);have:=fI hcur hrel o.dst;grind[eR]⟩
theorem U8 (hi:ops[i]?=some o)(hs:Region.noSelect ops=true)(hf:Region.free .any ops li i=true)(hr:(Region.ready .any ops li).contains i=true)(hg:o.guard=some (j,want))(ht:(ops[j]?).bind (·.dst)=some t)(hb:evA n l (.tmp t)=.tup [])(h:RA P N ops k (li.setIfInBounds i true) K (mkA n (putA l o.dst (.tup []))) aw):RA P N ops (k+1) li K (mkA n l) aw:=
 ⟨λst h1 h2 σ w F a hc R hR=>by refine wpAny_take hi hs hf hr (λc a w hp=>hp) (.inr ⟨by grind[Region.wanted,A6],J⟩) (h.out st h1 h2 σ w F _ ?_ R hR);have:=fI hc iz o.dst;grind[eR]⟩
def nR:Op->Bool
 | .load _ _=>false
 |_=>true
theorem sJ {K:AV->Prop}(hc:Cur st fr aw σ w F a)(hn:nR o.op=true)(h:vcQ P fr aw o.op K):∃v r,(∀w',(execOp a.eval o).run P w'=.ok (.value v) w')/\Rel σ w F r v/\K r:=by obtain⟨v,r,h1,h2,h3⟩:=OL hc.fr hc.sim o (λt x e=>by rw[e]at hn;cases hn) h;grind
theorem UW (hi:ops[i]?=some o)(hs:Region.noSelect ops=true)(hf:Region.free .any ops li i=true)(hr:(Region.ready .any ops li).contains i=true)(hg:o.guard=some (j,want))(ht:(ops[j]?).bind (·.dst)=some t)(hb:evA n l (.tmp t)=.bool b)(hbw:b=!want)(h:RA P N ops k (li.setIfInBounds i true) K (mkA n (putA l o.dst (.tup []))) aw):RA P N ops (k+1) li K (mkA n l) aw:=
 ⟨λst h1 h2 σ w F a hc R hR=>by refine wpAny_take hi hs hf hr (λc a w hp=>hp) (.inr ⟨by simp[Region.wanted,hg,po hc ht hb,hbw],J⟩) (h.out st h1 h2 σ w F _ ?_ R hR);have:=fI hc iz o.dst;grind[eR]⟩
end
end
section
open Go.RowKit
structure FieldAt (P:Program) (t:TypeId) (k:Nat) (ft:TypeId) (off:Nat):Prop where
 out:∃fs f,P.underlying t=some (.struct fs)/\fs[k]?=some f/\f.type=ft/\f.offset=off/\P.cellsOf ft≠0/\(P.underlying ft).isSome=true
structure SliceOf (P:Program) (t e:TypeId) (m:Nat):Prop where
 u:P.underlying t=some (.slice e)
 c:P.cellsOf e=m
 s:(P.underlying e).isSome=true
 p:0<m
 b:P.bytesOf e<=128
 z:∃z,bu P e=some z/\z.length=m
section
variable {P:Program} {N n:Nat} {aw aw':List Ob} {l:List (Nat×AV)} {t:TypeId} {x y z:Operand} {K:AV→Prop} {K2:AV→List Ob→Prop} {v u r:AV}
def nQ:Op->Bool
 | .move _| .assign _| .pick _ _ _| .fieldAddr _ _ _| .field _ _ _| .indexAddr _ _ _| .index _ _ _| .binOp _ _ _ _ _| .unOp _ _ _| .makeFunc _ _ _| .build _ _| .extract _ _| .nilCheck _=>true
 | .call { callee:=.builtin .len,.. }| .call { callee:=.builtin .min,.. }| .call { callee:=.builtin .max,.. }=>true
 |_=>false
theorem TV {o:Oper}{fr:U AV}(hq:nQ o.op=true)(h:vcQ P fr aw o.op λr=>K2 r aw):OP P N o fr aw K2:=by
 refine T1 ?_;obtain⟨d,op,ty,ps,af,g⟩:=o;cases op with
 |call c=>
  obtain⟨cal,as₀,ts⟩:=c;cases cal with
  |builtin b=>cases b<;>first|exact h|grind[nQ]
  |_=>grind[nQ]
 |_=>first|exact h|exact absurd hq (by simp[nQ])
theorem eE (hx:evA n l x=v)(h:K v):vcQ P (mkA n l) aw (.move x) K:=by show K (ev (mkA n l) x);grind[aF]
theorem cA (hx:evA n l x=v)(h:K v):vcQ P (mkA n l) aw (.assign x) K:=by show K (ev (mkA n l) x);grind[aF]
variable {b:Bool}
theorem wq (hc:evA n l z=.bool b)(hr:pickV b (evA n l x) (evA n l y)=r)(h:K r):vcQ P (mkA n l) aw (.pick z x y) K:=by simp_all[vcQ,aF]
theorem br (hc:evA n l z=.bool b)(hb:b=true)(hx:evA n l x=v)(h:K v):vcQ P (mkA n l) aw (.pick z x y) K:=by refine wq hc ?_ h;subst hb;rw[hx];unfold pickV;grind
theorem bd (hc:evA n l z=.bool b)(hb:b=false)(hx:evA n l y=v)(h:K v):vcQ P (mkA n l) aw (.pick z x y) K:=by refine wq hc ?_ h;subst hb;rw[hx];unfold pickV;grind
section
variable {k:IntKind} {a b:Int} {yt:TypeId}
variable {c:Int}{k':IntKind}
theorem v_quo (hx:evA n l x=.int k a)(hy:evA n l y=.int k b)(hc:quo k a b=some c)(h:K (.int k c)):vcQ P (mkA n l) aw (.binOp .quo t x y yt) K:=by simp_all[quo,vcQ,jd,aF]
theorem jh (hx:evA n l x=.int k a)(hy:evA n l y=.int k b)(hc:rem a b=some c)(h:K (.int k c)):vcQ P (mkA n l) aw (.binOp .rem t x y yt) K:=by simp_all[rem,vcQ,jd,aF]
theorem v_shl (hx:evA n l x=.int k a)(hy:evA n l y=.int k' b)(hc:shl k a b=some c)(h:K (.int k c)):vcQ P (mkA n l) aw (.binOp .shl t x y yt) K:=by simp_all[shl,vcQ,jd,aF]
theorem jf (hx:evA n l x=.int k a)(hy:evA n l y=.int k' b)(hc:shr k a b=some c)(h:K (.int k c)):vcQ P (mkA n l) aw (.binOp .shr t x y yt) K:=by simp_all[shr,vcQ,jd,aF]
theorem v_neg (hx:evA n l x=.int k a)(h:K (.int k (k.wrap (0- a)))):vcQ P (mkA n l) aw (.unOp .neg t x) K:=by simp_all[vcQ,aF]
end
section
variable {a b:List UInt8} {p q:Bool} {yt:TypeId}
theorem kW{c:U UInt8}(hx:evA n l x=.str a)(hy:evA n l y=.str b)(hc:cat a b=some c)(h:K (.str c)):vcQ P (mkA n l) aw (.binOp .add t x y yt) K:=by simp_all[cat,vcQ,jd,aF]
theorem v_not(hx:evA n l x=.bool p)(h:K (.bool (!p))):vcQ P (mkA n l) aw (.unOp .not t x) K:=by simp_all[vcQ,aF]
end
variable {k k':IntKind}{off o ft off' s c m e f:Nat}{row cs:U AV}{i j:Int}{α:Type}{rows:U (U AV)}{lo hi:QbQ Operand}{en:α->U AV}{xs:U α}
theorem If {k id:Nat}(hF:FieldAt P t k ft o)(hx:evA n l x=.ptr id off)(ho:off+o=off')(h:K (.ptr id off')):vcQ P (mkA n l) aw (.fieldAddr t x k) K:=by obtain⟨fs,f,h1,h2,h3,h4,h5,h6⟩:=hF.out;simp_all[vcQ,aF]
theorem Il {k:Nat}(hF:FieldAt P t k ft o)(hx:evA n l x=.elt row off)(ho:off+o=off')(h:K (.elt row off')):vcQ P (mkA n l) aw (.fieldAddr t x k) K:=by obtain⟨fs,f,h1,h2,h3,h4,h5,h6⟩:=hF.out;simp_all[vcQ,aF]
theorem H9 {k id i:Nat}(hF:FieldAt P t k ft o)(hx:evA n l x=.aptr id s i off)(ho:off+o=off')(h:K (.aptr id s i off')):vcQ P (mkA n l) aw (.fieldAddr t x k) K:=by obtain⟨fs,f,h1,h2,h3,h4,h5,h6⟩:=hF.out;simp_all[vcQ,aF]
theorem aI {c:AV}(hk:dN P t=some false)(hc:row[off]?=some c)(h:K c):co P t row off K:=by grind[co]
theorem eS (hk:dN P t=some true)(hm:P.cellsOf t=m)(hl:Nat.ble (off+m) row.length=true)(hc:(row.drop off).take m=cs)(h:K (.agg cs)):co P t row off K:=by grind[co,Nat.le_of_ble_eq_true]
theorem OE {k:Nat}(hF:FieldAt P t k ft o)(hx:evA n l x=.agg cs)(h:co P ft cs o K):vcQ P (mkA n l) aw (.field t x k) K:=by obtain⟨fs,f,h1,h2,h3,h4,h5,h6⟩:=hF.out;simp_all[vcQ,aF]
theorem iU {id:Nat}(hx:evA n l x=.ptr id off)(ho:aw[id]?=some (.box cs))(h:co P t cs off K):vcQ P (mkA n l) aw (.load t x) K:=by simp_all[vcQ,aF]
theorem Jz (hx:evA n l x=.elt row off)(h:co P t row off K):vcQ P (mkA n l) aw (.load t x) K:=by simp_all[vcQ,aF]
theorem aG {a:α}(hS:SliceOf P t e c)(hl:∀a,(en a).length=c)(hx:evA n l x=.sl (xs.map en))(hy:evA n l y=.int k i)(hi:idx xs i=some a)(h:K (.elt (en a) 0)):vcQ P (mkA n l) aw (.indexAddr t x y) K:=by obtain⟨h0,h1,h2⟩:=CX hi;simp only[vcQ,aF,hS.u,hx,hy];refine⟨h0,by grind,λrow hrow=>?_⟩;rw[R9,h2]at hrow;cases hrow;exact⟨by rw[hS.c];exact hl a,hS.s,h⟩
theorem Bc {id:Nat}(hS:SliceOf P t e c)(hx:evA n l x=.ref id)(hy:evA n l y=.int k i)(ho:aw[id]?=some (.arr e c rows))(hm:rows.length=m)(h0:0<=i)(h1:i<m)(h:K (.aptr id c i.toNat 0)):vcQ P (mkA n l) aw (.indexAddr t x y) K:=by simp only[vcQ,aF,hS.u,hx,hy,ho];exact⟨hS.c.symm,hS.s,h0,by omega,h⟩
theorem dq {s:U UInt8}{b:UInt8}(hu:P.underlying t=some .string)(hx:evA n l x=.str s)(hy:evA n l y=.int k i)(hi:idx s i=some b)(h:K (.int .u8 b.toNat)):vcQ P (mkA n l) aw (.index t x y) K:=by obtain⟨h0,h1,h2⟩:=CX hi;simp_all[vcQ,aF]
theorem jN {yt:TypeId}(hS:SliceOf P t e c)(hx:evA n l x=.sl rows)(hy:evA n l y=.nils)(h:∀z:Bool,(z=true->rows=[])->K (.bool z)):vcQ P (mkA n l) aw (.binOp .eql t x y yt) K:=by simp only[vcQ,jd,aF,hx,hy,hS.u];exact h
theorem LA {vs:U AV}{k:Nat}(hx:evA n l x=.tup vs)(hv:vs[k]?=some v)(h:K v):vcQ P (mkA n l) aw (.extract x k) K:=by simp_all[vcQ,aF]
theorem Ku {id:Nat}(hx:evA n l x=.ptr id off)(h:K (.ptr id off)):vcQ P (mkA n l) aw (.nilCheck x) K:=by simp_all[vcQ,aF]
theorem Kj (hx:evA n l x=.elt row off)(h:K (.elt row off)):vcQ P (mkA n l) aw (.nilCheck x) K:=by simp_all[vcQ,aF]
theorem Jy {id i:Nat}(hx:evA n l x=.aptr id s i off)(h:K (.aptr id s i off)):vcQ P (mkA n l) aw (.nilCheck x) K:=by simp_all[vcQ,aF]
theorem J5 (hx:evA n l x=.func f cs)(h:K (.func f cs)):vcQ P (mkA n l) aw (.nilCheck x) K:=by simp_all[vcQ,aF]
theorem Lx (hx:evA n l x=.bnd f cs)(h:K (.bnd f cs)):vcQ P (mkA n l) aw (.nilCheck x) K:=by simp_all[vcQ,aF]
theorem al (hS:SliceOf P t e c)(hx:evA n l x=.sl (xs.map en))(h:K (.int .i64 xs.length)):vcQ P (mkA n l) aw (.call ⟨.builtin .len,#[x],#[t]⟩) K:=by show vcB P (mkA n l) aw .len [x] [t] K;simp only[vcB,aF,hS.u,hx,RZ];exact h
theorem cn {id:Nat}(hS:SliceOf P t e c)(hx:evA n l x=.ref id)(ho:aw[id]?=some (.arr e c (xs.map en)))(h:K (.int .i64 xs.length)):vcQ P (mkA n l) aw (.call ⟨.builtin .len,#[x],#[t]⟩) K:=by show vcB P (mkA n l) aw .len [x] [t] K;simp only[vcB,aF,hS.u,hx,ho,RZ];exact h
theorem u3 {f:FuncId}{caps:Array Operand}(hc:caps.toList.map (evA n l)=cs)(h:K (.func f cs)):vcQ P (mkA n l) aw (.makeFunc (.func f) #[] caps) K:=by show K (.func f (caps.toList.map (ev (mkA n l))));grind[List.map_congr_left,aF]
theorem v_bnd {f:FuncId}{x0:Operand}{xs:U Operand}(hc:(x0::xs).map (evA n l)=cs)(h:K (.bnd f cs)):vcQ P (mkA n l) aw (.makeFunc (.func f) (x0::xs).toArray #[]) K:=by show[]=[]/\K (.bnd f ((x0::xs).map (ev (mkA n l))));grind[List.map_congr_left,aF]
theorem E7 {parts:Array (Nat×Operand)}{z:U AV}{pl:U (Nat×Nat)}(hz:bu P t=some z)(hp:pP P t=some pl)(hc:i7 (λi=>pl[i]?) z (parts.toList.map λp=>(p.1,evA n l p.2))=some cs)(h:K (.agg cs)):vcQ P (mkA n l) aw (.build t parts) K:=by simp only[vcQ,hz,hp];grind[aF]
theorem Pj {s:TypeId}{a:Int}{ds:TypeDesc}(hs:P.underlying s=some ds)(ht:P.underlying t=some (.int k'))(hx:evA n l x=.int k a)(h:K (.int k' (k'.wrap a))):vcQ P (mkA n l) aw (.convert s t x) K:=by simp_all[vcQ,aF]
theorem Jb {s b:U UInt8}(hu:P.underlying t=some .string)(hx:evA n l x=.str s)(hl:(lo.map (evA n l)).getD (.int .i64 0)=.int k i)(hh:(hi.map (evA n l)).getD (.int .i64 s.length)=.int k' j)(hs:sub s i j=some b)(h:K (.str b)):vcQ P (mkA n l) aw (.slice t x lo hi none) K:=by
 unfold sub at hs;split at hs
 .rename_i hc;cases hs;simp only[vcQ,hu,aF,hx];rw[show lo.map (ev (mkA n l))=lo.map (evA n l)from by cases lo<;>simp[aF],show hi.map (ev (mkA n l))=hi.map (evA n l)from by cases hi<;>simp[aF],hl,hh];grind
 .cases hs
theorem pB {b:U α}(hS:SliceOf P t e c)(hen:∀a,(en a).length=c)(hx:evA n l x=.sl (xs.map en))(hl:(lo.map (evA n l)).getD (.int .i64 0)=.int k i)(hh:(hi.map (evA n l)).getD (.int .i64 xs.length)=.int k' j)(hs:sub xs i j=some b)(h:K (.sl (b.map en))):vcQ P (mkA n l) aw (.slice t x lo hi none) K:=by
 unfold sub at hs;split at hs
 .rename_i hc;cases hs;simp only[vcQ,hS.u,aF,hx,RZ];rw[show lo.map (ev (mkA n l))=lo.map (evA n l)from by cases lo<;>simp[aF],show hi.map (ev (mkA n l))=hi.map (evA n l)from by cases hi<;>simp[aF],hl,hh];refine⟨hS.s,λrow hr=>?_,hc.1,hc.2.1,hc.2.2,?_⟩
  .obtain⟨a,_,rfl⟩:=R3.1 hr;rw[hS.c];exact hen a
  simp_all
 .cases hs
variable {d:Option Tmp} {ty:TypeId} {ps:String} {af:Array Edge} {g:Option (Nat×Bool)}
variable {vs:U AV}
theorem dt {id:Nat}(hx:evA n l x=.ptr id off)(ho:aw[id]?=some (.box cs))(h:co P t cs off λr=>K2 r aw):OP P N ⟨d,.load t x,ty,ps,af,g⟩ (mkA n l) aw K2:=
 T1 (by grind[FJ,aF])
theorem Jh {id i:Nat}(hx:evA n l x=.aptr id s i off)(ho:aw[id]?=some (.arr e s rows))(hr:rows[i]?=some row)(h:co P t row off λr=>K2 r aw):OP P N ⟨d,.load t x,ty,ps,af,g⟩ (mkA n l) aw K2:=
 T1 (by rw[FJ,aF,hx];grind)
theorem I4 {id:Nat}{cs':U AV}(hm:P.cellsOf t=m)(hs:(P.underlying t).isSome=true)(hx:evA n l x=.ptr id off)(hy:(evA n l y).cells=some vs)(hv:vs.length=m)(ho:aw[id]?=some (.box cs))(hl:Nat.ble (off+m) cs.length=true)(hc:splice cs off vs=cs')(ha:aw.set id (.box cs')=aw')(h:K2 .any aw'):OP P N ⟨d,.store t x y,ty,ps,af,g⟩ (mkA n l) aw K2:=
 T1 (by grind[Ed,aF,Nat.le_of_ble_eq_true])
theorem IK {id i:Nat}{row':U AV}(hm:P.cellsOf t=m)(hs:(P.underlying t).isSome=true)(hx:evA n l x=.aptr id s i off)(hy:(evA n l y).cells=some vs)(hv:vs.length=m)(ho:aw[id]?=some (.arr e s rows))(hr:rows[i]?=some row)(hl:Nat.ble (off+m) s=true)(hc:splice row off vs=row')(ha:aw.set id (.arr e s (rows.set i row'))=aw')(h:K2 .any aw'):OP P N ⟨d,.store t x y,ty,ps,af,g⟩ (mkA n l) aw K2:=
 T1 (by subst ha hc;rw[Ed,aF,aF,hx];simp only[hy,ho];exact⟨hs,trivial,by rw[hv,hm],(RH.1 hr).1,by simp_all,λrow'' h'=>by grind⟩)
theorem ON {k:Nat}(hz:bu P t=some cs)(hk:aw.length=k)(ha:aw++[.box cs]=aw')(h:K2 (.ptr k 0) aw'):OP P N ⟨d,.alloc t,ty,ps,af,g⟩ (mkA n l) aw K2:=
 T1 (by grind[MM])
theorem o_box {k:Nat}(hx:(evA n l x).cells=some cs)(hk:aw.length=k)(ha:aw++[.box cs]=aw')(h:K2 (.ptr k 0) aw'):OP P N ⟨d,.box t x,ty,ps,af,g⟩ (mkA n l) aw K2:=
 T1 (by grind[PG,aF])
theorem ng {s b:U UInt8}(hu:P.underlying t=some .string)(hx:evA n l x=.str s)(hl:(lo.map (evA n l)).getD (.int .i64 0)=.int k i)(hh:(hi.map (evA n l)).getD (.int .i64 s.length)=.int k' j)(hs:sub s i j=some b)(h:K2 (.str b) aw):OP P N ⟨d,.slice t x lo hi none,ty,ps,af,g⟩ (mkA n l) aw K2:=
 T1 (by have:=Jb (P:=P) (aw:=aw) (K:=λr=>K2 r aw) hu hx hl hh hs h;show iH P (mkA n l) aw (.slice t x lo hi none) K2;simp_all[iH,isQ,aF])
theorem nA {b:U α}(hS:SliceOf P t e c)(hen:∀a,(en a).length=c)(hx:evA n l x=.sl (xs.map en))(hl:(lo.map (evA n l)).getD (.int .i64 0)=.int k i)(hh:(hi.map (evA n l)).getD (.int .i64 xs.length)=.int k' j)(hs:sub xs i j=some b)(h:K2 (.sl (b.map en)) aw):OP P N ⟨d,.slice t x lo hi none,ty,ps,af,g⟩ (mkA n l) aw K2:=
 T1 (by have:=pB (P:=P) (aw:=aw) (K:=λr=>K2 r aw) hS hen hx hl hh hs h;show iH P (mkA n l) aw (.slice t x lo hi none) K2;simp_all[iH,isQ,aF])
theorem o_mk {k:Nat}{k1 k2:IntKind}{zr:α}(hS:SliceOf P t e c)(hz:bu P e=some (en zr))(hx:evA n l x=.int k1 i)(hy:evA n l y=.int k2 i)(hm:mk i zr=some xs)(hk:aw.length=k)(ha:aw++[.arr e c (xs.map en)]=aw')(h:K2 (.ref k) aw'):OP P N ⟨d,.makeSlice t x y,ty,ps,af,g⟩ (mkA n l) aw K2:=
 T1 (by
  unfold mk at hm;split at hm
  .rename_i hc;cases hm;subst hk ha;obtain⟨z',hz1,hz2⟩:=hS.z;rw[hz]at hz1;cases hz1;rw[AJ,hS.u];simp only[aF,hx,hy,hz];refine⟨by rw[hS.c,hz2],by rw[hS.c];exact hS.p,hc.1,Sj _,.inr trivial,?_,by unfold maxLen;omega,by rw[hS.c];simpa using h⟩;have h1:i.toNat<=1099511627776:=by omega
   exact SA (Tb hS.b h1) (by decide)
  .cases hm)
theorem bi {len:Nat}{parts:Array (Nat×Operand)}{k:Nat}{z:U AV}(hS:SliceOf P t e c)(hz:bu P e=some z)(hl:Nat.ble (len*c) 16777216=true)(hv:parts.toList.map (λp=>evA n l p.2)=vs)(hn:d7 aw vs=(vs,aw))(hr:nZ P c (List.replicate len z) ((parts.toList.map (·.1)).zip vs)=some rows)(hk:aw.length=k)(ha:aw++[.arr e c rows]=aw')(h:K2 (.ref k) aw'):OP P N ⟨d,.buildSlice t len parts,ty,ps,af,g⟩ (mkA n l) aw K2:=
 T1 (by subst hk ha;obtain⟨z',hz1,hz2⟩:=hS.z;rw[hz]at hz1;cases hz1;show vcE P (mkA n l) aw (.buildSlice t len parts) K2;simp only[vcE,hS.u,hz,hS.c];rw[show(parts.toList.map λp=>ev (mkA n l) p.2)=vs from by grind[aF],hn,hr];exact⟨hz2,hS.p,SN hl,h⟩)
theorem bU {ys r:U α}{id k:Nat}{aw1:U Ob}(hS:SliceOf P t e c)(hen:∀a,(en a).length=c)(hx:evA n l x=.ref id)(hy:norm aw (evA n l y)=(.sl (ys.map en),aw1))(ho:aw1[id]?=some (.arr e c (xs.map en)))(hr:app xs ys=some r)(hk:aw1.length=k)(ha:aw1.set id .dead++[.arr e c (r.map en)]=aw')(h:K2 (.ref k) aw'):OP P N ⟨d,.call ⟨.builtin .append,#[x,y],#[t,t]⟩,ty,ps,af,g⟩ (mkA n l) aw K2:=
 T1 (by
  unfold app at hr;split at hr
  .rename_i hc;cases hr;subst hk ha;obtain⟨z',hz1,hz2⟩:=hS.z;show vcApp P (mkA n l) aw [x,y] [t,t] K2;simp only[vcApp,hS.u,hz1,aF,hx,hy,hS.c,RZ,ho];exact⟨trivial,trivial,trivial,hz2,hS.p,λrow hr=>by grind,hc,hS.b,by grind⟩
  .cases hr)
end
end
section
open Go.RowKit
section
variable {P:Program} {N n:Nat} {aw aw':List Ob} {l:List (Nat×AV)} {ρ:List Nat}
def RenA(ρ:List Nat):List (Nat×AV)->List (Nat×AV)->Prop
 |[],_=>True
 |(s,v)::r,l=>Ren ρ v (lkA l s)/\RenA ρ r l
theorem Fz:∀{l' l:U (Nat×AV)},RenA ρ l' l->∀t,Ren ρ (lkA l' t) (lkA l t)
 |[],l,_,t=>EC ρ _
 |(s,v)::r,l,h,t=>by
  rw[kH];by_cases e:s=t
  .subst e;rw[if_pos J];exact h.1
  .rw[if_neg e];exact Fz h.2 t
theorem Ev:∀{as' as₀:U AV},as'.length=as₀.length->(∀(j:Nat) a' a,as'[j]?=some a'->as₀[j]?=some a->Ren ρ a' a)->cK ρ as' as₀
 |[],[],_,_=>trivial
 |a'::as',a::as₀,h,k=>⟨k 0 a' a J J,Ev (by simpa using h) λj x y hx hy=>k (j+1) x y (by grind) (by grind)⟩
 |[],_::_,h,_=>by simp at h
 |_::_,[],h,_=>by simp at h
variable {l':U (Nat×AV)}{aw1:U Ob}{k:IntKind}{α:Type}{cs ds vs:U AV}{f:FuncId}{off s i e c m:Nat}{ids:U Nat}{Q K2:AV->U Ob->Prop}{v:AV}{t ty:TypeId}{rs:U ResultVar}{K:U AV->Prop}{x y:Operand}{d:QbQ Tmp}{ps:String}{af:Array Edge}{g:QbQ (Nat×Bool)}{a:α}{en:α->U AV}{xs ys:U α}
theorem MQ (h:RenA ρ l' l):cK ρ (mkA n l') (mkA n l):=by
 refine Ev (by simp[qa]) λj a' a h1 h2=>?_
 rw[iC]at h1 h2;split at h1
 .rename_i hj;rw[if_pos hj]at h2;grind[Fz]
 .cases h1
def nilA(n:Nat):List (Nat×TypeId×Nat)->List (Nat×AV)->List Ob->List (Nat×AV)×List Ob
 |[],l,aw=>(l,aw)
 |(s,e,z)::r,l,aw=>
  match Nat.blt s n,lkA l s with
  |true,.nils=>nilA n r ((s,.ref aw.length)::l) (aw++[.arr e z []])
  |_,_=>nilA n r l aw
theorem uT:∀(nl:U (Nat×TypeId×Nat)) (l:U (Nat×AV)) (aw:U Ob),nilify nl (mkA n l) aw=(mkA n (nilA n nl l aw).1,(nilA n nl l aw).2)
 |[],l,aw=>rfl
 | (s,e,z)::r,l,aw=>by
  unfold nilify nilA;rw[iC];by_cases hs:s<n
  .have hb:Nat.blt s n=true:=by simp_all
   rw[if_pos hs,hb];cases hv:lkA l s<;>simp only<;>first
    |exact uT r l aw
    |(rw[show(mkA n l).set s (.ref aw.length)=mkA n ((s,.ref aw.length)::l)from eR n l (some s) _];exact uT r _ _)
  .have hb:Nat.blt s n=false:=by
    grind[Nat.blt_eq]
   rw[if_neg hs,hb];exact uT r l aw
theorem TS {l1:U (Nat×AV)}(nl:U (Nat×TypeId×Nat))(ρ:U Nat)(h1:ρ.Nodup)(h2:∀k,k<N->ρ[k]?=some k)(hn:nilA n nl l aw=(l1,aw1))(h3:RenA ρ l' l1)(h4:b7 ρ aw1 ρ aw'):Weak N (mkA n l) aw (mkA n l') aw':=by refine⟨nl,ρ,h1,h2,?_,?_⟩;all_goals (grind[uT,MQ])
theorem Weak.mk (ρ:U Nat)(h1:ρ.Nodup)(h2:∀k,k<N->ρ[k]?=some k)(h3:RenA ρ l' l)(h4:b7 ρ aw ρ aw'):Weak N (mkA n l) aw (mkA n l') aw':=TS [] ρ h1 h2 J h3 h4
theorem cS {a b:Int}(h:a=b):Ren ρ (.int k a) (.int k b):=by grind[kL,aL]
theorem f7 {a b:Bool}(h:a=b):Ren ρ (.bool a) (.bool b):=by grind[kL,kE]
theorem aJ {a b:U UInt8}(h:a=b):Ren ρ (.str a) (.str b):=by grind[kL,bc]
theorem de (hp:∀a x,x∈en a->Pure x)(xs:U α):Pure (.sl (xs.map en)):=OR _ λrow hr c hc=>by grind
theorem rn_sl (hp:∀a x,x∈en a->Pure x)(h:xs=ys):Ren ρ (.sl (xs.map en)) (.sl (ys.map en)):=by grind[kL,de]
theorem Pr (h:cK ρ cs ds):Ren ρ (.agg cs) (.agg ds):=λσ w F v hr σ' hσ=>by
 cases hr with
 |agg _ vs hl h1 hc=>
  have:=f5 h ⟨hl,hc⟩ hσ;exact .agg cs vs this.1 h1 this.2
theorem P2 (h:cK ρ cs ds):Ren ρ (.tup cs) (.tup ds):=λσ w F v hr σ' hσ=>by
 cases hr with
 |tup _ vs hl hc=>
  have:=f5 h ⟨hl,hc⟩ hσ;exact .tup cs vs this.1 this.2
theorem eT (h:cK ρ cs ds):Ren ρ (.func f cs) (.func f ds):=λσ w F v hr σ' hσ=>by
 cases hr with
 |func _ _ vs hl hc=>
  have:=f5 h ⟨hl,hc⟩ hσ;exact .func f cs vs this.1 this.2
theorem nT (h:cK ρ cs ds):Ren ρ (.bnd f cs) (.bnd f ds):=λσ w F v hr σ' hσ=>by
 cases hr with
 |bnd _ _ vs hl hc=>
  have:=f5 h ⟨hl,hc⟩ hσ;exact .bnd f cs vs this.1 this.2
theorem bX {k id:Nat}(h:ρ[k]?=some id):Ren ρ (.ref k) (.ref id):=O7 h
theorem am {k id:Nat}(h:ρ[k]?=some id):Ren ρ (.ptr k off) (.ptr id off):=OX h
theorem Fp {k id j:Nat}(h:ρ[k]?=some id)(hi:i=j):Ren ρ (.aptr k s i off) (.aptr id s j off):=λσ w F v hr σ' hσ=>by
 subst hi;cases hr with
 |aptr _ _ _ _ g n c hg=>exact .aptr k s i off g n c (by grind)
theorem cz {a:AV}:Ren ρ .any a:=EC ρ a
theorem dR {a:AV}(h:Pure a):Ren ρ a a:=kL h
theorem au {aw:U Ob}:b7 ρ aw [] []:=trivial
theorem yE {id:Nat}{o:Ob}(h:aw[id]?=some o)(t:b7 ρ aw ids aw'):b7 ρ aw (id::ids) (.dead::aw'):=⟨⟨o,h,tqz⟩,t⟩
theorem eD {id:Nat}(h:aw[id]?=some (.arr e s (ys.map en)))(hp:∀a x,x∈en a->Pure x)(hx:xs=ys)(t:b7 ρ aw ids aw'):b7 ρ aw (id::ids) (.arr e s (xs.map en)::aw'):=
 ⟨⟨_,h,J,J,by rw[hx],λrow hr x hx=>by grind[kL]⟩,t⟩
theorem aA {id:Nat}(h:aw[id]?=some (.box ds))(hr:cK ρ cs ds)(t:b7 ρ aw ids aw'):b7 ρ aw (id::ids) (.box cs::aw'):=⟨⟨_,h,hr⟩,t⟩
theorem b8 (ρ:U Nat):∀k,k<0->ρ[k]?=some k:=λk h=>absurd h (Nat.not_lt_zero k)
theorem iE {fn:Func}{c:Code}{args:U AV}{aw:U Ob}(hN:aw.length=N)(hf:P.funcs[f]?=some fn)(hb:fn.body=some c)(hname:(fn.name== "runtime.NumGoroutine")=false)(hm:fn.ntmps=m)(hl:Nat.ble args.length m=true)(h:T P N c (retQ P fn N Q) (mkA m (initA 0 args)) aw):ACalls P f args aw Q:=by
 subst hm hN
 refine⟨callable hf (by rw[hb];rfl) hname,λw F σ vs hs hr=>?_⟩
 have hc:Cur ⟨aw,σ,w,F,[]⟩ (args++List.replicate (fn.ntmps- args.length) .any) aw σ w F { tmps:=vs.toArray++Array.replicate (fn.ntmps- vs.toArray.size) undef,defers:=[] }:=by
  refine⟨hs,⟨?_,tqz⟩,.refl ..,J⟩;have h2:RelL σ w F (List.replicate (fn.ntmps- args.length) .any) (List.replicate (fn.ntmps- vs.length) undef):=
   ⟨by simp[hr.1],λj x v hx hv=>by rw[S5 (RI hx)];exact .any v⟩
  simpa using hr.append h2
 rw[xT _ _ (SN hl)]at hc
 refine calls_of_wp hf hb (wp_mono (h.out ⟨aw,σ,w,F,[]⟩ J hs.len σ w F _ hc) ?_)
 rintro e a' w' ⟨fr',aw',σ',F',hq,hcur⟩
 have key:cq P fr' aw' fn.results.toList (Ret aw.length Q aw')->a'.defers=[]/\∃v,(results fn a'.tmps).run P w'=.ok v w' /\
   (∃v' r aw2 σ2 F2,Ending.returned v=.returned v'/\Q r aw2/\Sim aw2 σ2 w' F2/\Rel σ2 w' F2 r v'/\Mv aw σ w F aw2 σ2 w' F2):=by
  intro hq
  obtain⟨rs,us,h1,⟨nl,z,r',aw2,hW,hQ⟩,h3⟩:=wn hcur.fr hcur.sim _ _ hq
  obtain⟨σn,sn,h1n,mn⟩:=sv nl hcur.sim h1
  refine⟨hcur.ds,_,Bg fn a'.tmps us h3,?_⟩
  have hrel:=EZ h1n
  have fin:∀(r1:AV) (aw1:U Ob) (F1:Nat->Prop),Sim aw1 σn w' F1->Mv aw σ w F aw1 σn w' F1->Rel σn w' F1 r1 (if h:us.length=1 then us[0]else .tuple us.toArray)->WeakR aw.length r1 aw1 r' aw2 ->
    ∃v' r aw2 σ2 F2,Ending.returned (if h:us.length=1 then us[0]else .tuple us.toArray)=.returned v'/\Q r aw2/\Sim aw2 σ2 w' F2/\Rel σ2 w' F2 r v'/\Mv aw σ w F aw2 σ2 w' F2:=by
   intro r1 aw1 F1 s1 m1 hr1 ⟨ρ,hnd,hρ,hren,hRW⟩
   obtain⟨σ2,hσ,s2,hd⟩:=jI s1 hnd hRW
   exact⟨_,r',aw2,σ2,F1,J,hQ,s2,hren σn w' F1 _ hr1 σ2 hσ,UB (st:=⟨aw,σ,w,F,[]⟩) hs.len m1 hρ hσ hd⟩
  cases z with
  |true=>
   obtain⟨F1,s1,m1,r1⟩:=Df sn hrel
   exact fin _ _ F1 s1 ((hcur.mv.trans mn).trans m1) r1 hW
  |false=>exact fin _ _ F' sn (hcur.mv.trans mn) hrel hW
 cases e with
 |normal=>exact key hq
 |ret=>exact key hq
 |exit id=>exact hq.elim
 |goto l=>exact hq.elim
 |panic ch=>exact hq.elim
 |outgrown=>exact hq.elim
theorem DT {aw:U Ob}(hr:il aw (dT vs)=(v,aw1))(hp:Pure v)(hQ:Q v []):Ret 0 Q aw vs:=
 U6 (by grind) (by grind)
theorem eC {M:Nat}{aw aw':U Ob}(r:AV)(nl:U (Nat×TypeId×Nat))(ρ:U Nat){vs1:U AV}(h1:ρ.Nodup)(h2:∀k,k<M->ρ[k]?=some k)(hn:nilify nl vs aw=(vs1,aw1))(hr:Ren ρ r (dT vs1))(hw:b7 ρ aw1 ρ aw')(hQ:Q r aw'):Ret M Q aw vs:=
 ⟨nl,false,r,aw',by simp only[hn];exact⟨ρ,h1,h2,hr,hw⟩,hQ⟩
theorem eA {t:Nat}{l:U (Nat×AV)}(hx:evA n l (.tmp t)=v)(h:cq P (mkA n l) aw rs λvs=>K (v::vs)):cq P (mkA n l) aw (.tmp t::rs) K:=by
 show cq P (mkA n l) aw rs λvs=>K ((mkA n l).getD t .any::vs)
 have:(mkA n l).getD t .any=v:=by rw[<- hx];exact aF n l (.tmp t)
 grind
theorem KQ {a t:Nat}{l:U (Nat×AV)}{id:Nat}(hx:evA n l (.tmp a)=.ptr id off)(ho:aw[id]?=some (.box cs))(hl:∀K:AV->Prop,K v->co P t cs off K)(h:cq P (mkA n l) aw rs λvs=>K (v::vs)):cq P (mkA n l) aw (.cell a t::rs) K:=by
 show vcQ P (mkA n l) aw (.load t (.tmp a)) λv=>cq P (mkA n l) aw rs λvs=>K (v::vs)
 grind[iU]
theorem eu {fr:U AV}(h:K []):cq P fr aw [] K:=h
theorem EH (h:xs[i]?=some a):(xs.map en)[i]?=some (en a):=by grind
theorem aO {id:Nat}(hx:evA n l x=.aptr id s i off)(ho:aw[id]?=some (.arr e s (xs.map en)))(hr:xs[i]?=some a)(h:co P t (en a) off λr=>K2 r aw):OP P N ⟨d,.load t x,ty,ps,af,g⟩ (mkA n l) aw K2:=
 Jh hx ho (EH hr) h
theorem e9 {a':α}{id:Nat}(hm:P.cellsOf t=m)(hs:(P.underlying t).isSome=true)(hx:evA n l x=.aptr id s i off)(hy:(evA n l y).cells=some vs)(hv:vs.length=m)(ho:aw[id]?=some (.arr e s (xs.map en)))(hr:xs[i]?=some a)(hl:Nat.ble (off+m) s=true)(hc:splice (en a) off vs=en a')(ha:aw.set id (.arr e s ((xs.set i a').map en))=aw')(h:K2 .any aw'):OP P N ⟨d,.store t x y,ty,ps,af,g⟩ (mkA n l) aw K2:=
 IK hm hs hx hy hv ho (EH hr) hl hc (by simp_all) h
theorem uQ {K:AV->Prop}{id q off':Nat}{i:Int}(hu:P.underlying t=some (.array m e))(hc:P.cellsOf e=c)(hs:(P.underlying e).isSome=true)(hx:evA n l x=.ptr id off)(hy:evA n l y=.int k i)(hi:i=(q:Int))(hq:Nat.blt q m=true)(h1:Nat.blt 1 m=true)(ho:off+q*c=off')(h:K (.ptr id off')):vcQ P (mkA n l) aw (.indexAddr t x y) K:=by simp_all[vcQ,aF]
theorem KB {i k:Int}{u:Unit}(h:isAt i k=some u):i=k:=by grind[isAt]
def ES:AV->Bool
 | .int _ _=>true
 |_=>false
theorem pn {s e:TypeId}{xs:U Int}(hs:P.underlying s=some (.slice e))(he:P.underlying e=some (.int .u8))(ht:P.underlying t=some .string)(hx:norm aw (evA n l x)=(.sl (xs.map λn=>[.int .u8 n]),aw1))(hni:ES (evA n l x)=false)(h:K2 (.str (ce xs)) aw1):OP P N ⟨d,.convert s t x,ty,ps,af,g⟩ (mkA n l) aw K2:=
 T1 (by
  rw[JB,if_neg (by grind[aF,ES])];simp only[hs,ht,aF,hx,he];refine⟨trivial,by simp[y9],?_⟩;have:(xs.map λn=>([.int .u8 n]:U AV)).map sZ=ce xs:=by simp[sZ,ce]
  grind)
theorem aM {K:AV->Prop}{id:Nat}{i:Int}(hS:SliceOf P t e c)(hx:evA n l x=.ref id)(hy:evA n l y=.int k i)(ho:aw[id]?=some (.arr e c (xs.map en)))(hm:ixN xs i=some m)(h:K (.aptr id c m 0)):vcQ P (mkA n l) aw (.indexAddr t x y) K:=by grind[ixN,Bc]
variable {d:Option Tmp} {ty:TypeId} {ps:String} {af:Array Edge} {g:Option (Nat×Bool)} {K2:AV→List Ob→Prop}
variable {args:U AV}
theorem Po {f:Operand}{args:Array Operand}{ts:Array TypeId}{h:FuncId}{caps as0 as1:U AV}(hf:evA n l f=.func h caps)(ha:args.toList.map (evA n l)=as0)(hn:d7 aw as0=(as1,aw1))(hK:CallK P h (as1++caps) aw aw1 K2):OP P N ⟨d,.call ⟨.value f,args,ts⟩,ty,ps,af,g⟩ (mkA n l) aw K2:=
 T1 (by grind[gV,aF,List.map_congr_left])
def Pures:List AV->Prop
 |[]=>True
 |a::as₀=>Pure a/\Pures as₀
theorem dC:∀{ls:U AV},Pures ls->∀a,a∈ls->Pure a
 |_::_,h,_,.head _=>h.1
 |_::_,h,_,.tail _ hm=>dC h.2 _ hm
theorem k_fn (h:Fn P f args v)(hp:Pures args)(hv:Pure v)(hK:K2 v aw1):CallK P f args aw aw1 K2:=CallK.fn h (dC hp) hv hK
theorem Qi (h:Fn P f args v)(hp:Pures args)(hv:flat v=true)(hK:K2 v aw):CallK P f args aw aw1 K2:=CallK.flat h (dC hp) hv hK
def FnO(P:Program)(f:FuncId)(args:List AV)(v:AV)(obs:List Ob):Prop:=ACalls P f args [] λr aw=>r=v/\aw=obs
theorem k_own {obs:U Ob}(h:FnO P f args v obs)(hp:Pures args)(hv:flatR v=true)(ho:obs.all fQ=true)(hK:K2 (v.shift aw.length) (aw++obs)):CallK P f args aw aw1 K2:=
 .inr ⟨_,h,dC hp,λr aw' ⟨h1,h2⟩=>.inr (.inr (.inr (by grind)))⟩
theorem Qf {rows:U (U AV)}(h:FnO P f args v [.arr e s rows])(hp:Pures args)(hr:∀row,row∈rows->∀x,x∈row->Pure x)(hv:(∃k,v=.ref k)∨∃vs,v=.tup vs/\∀x,x∈vs->Pure x∨∃k,x=.ref k)(hK:K2 (v.shift aw1.length) (aw1++[.arr e s rows])):CallK P f args aw aw1 K2:=
 .inr ⟨_,h,dC hp,λr aw' ⟨h1,h2⟩=>.inr (.inr (.inl ⟨e,s,rows,h2,hr,by grind,by grind⟩))⟩
theorem Js (h:∀a,(en a).all flat0=true):fQ (.arr e s (xs.map en))=true:=by grind[fQ]
theorem LY {o:Ob}{r:U Ob}(h:fQ o=true)(t:r.all fQ=true):(o::r).all fQ=true:=by grind
theorem Pi {aw':U Ob}{v':AV}(h:FnO P f args v [.arr e s (xs.map en)])(hp:Pures args)(hr:∀a x,x∈en a->Pure x)(hv:(∃k,v=.ref k)∨∃vs,v=.tup vs/\∀x,x∈vs->Pure x∨∃k,x=.ref k)(hs:v.shift aw1.length=v')(ha:aw1++[.arr e s (xs.map en)]=aw')(hK:K2 v' aw'):CallK P f args aw aw1 K2:=
 Qf h hp (λrow hrow x hx=>by grind) hv (by grind)
end
section
variable {P:Program} {N n:Nat} {aw aw':List Ob} {l:List (Nat×AV)} {ops:Array Oper} {k:Nat} {li:Array Bool} {K:List AV→List Ob→Prop} {fr fr':List AV}
theorem RA.weakR (h:RA P N ops k li K fr' aw')(hw:Weak N fr aw fr' aw'):RA P N ops k li K fr aw:=RA.weak hw h
variable {i j t i1 i2 i3:Nat}{li' l1 l2 l3:Array Bool}{o:Oper}{want:Bool}
theorem VZ {b:Bool}(hi:ops[i]?=some o)(hs:Region.noSelect ops=true)(hf:Region.free .any ops li i=true)(hr:(Region.ready .any ops li).contains i=true)(hl:li.setIfInBounds i true=li')(hg:o.guard=some (j,want))(ht:(ops[j]?).bind (·.dst)=some t)(hb:evA n l (.tmp t)=.bool b)(hbw:b=!want)(h:RA P N ops k li' K (mkA n (putA l o.dst (.tup []))) aw):RA P N ops (k+1) li K (mkA n l) aw:=by grind[UW]
theorem VY (hi:ops[i]?=some o)(hs:Region.noSelect ops=true)(hf:Region.free .any ops li i=true)(hr:(Region.ready .any ops li).contains i=true)(hl:li.setIfInBounds i true=li')(hg:o.guard=some (j,want))(ht:(ops[j]?).bind (·.dst)=some t)(hb:evA n l (.tmp t)=.tup [])(h:RA P N ops k li' K (mkA n (putA l o.dst (.tup []))) aw):RA P N ops (k+1) li K (mkA n l) aw:=by grind[U8]
theorem V5 (hr:Region.ready .any ops li=[i1])(e1:li.setIfInBounds i1 true=l1)(h1:RO P N ops i1 (RA P N ops k l1 K) fr aw):RA P N ops (k+1) li K fr aw:=by simp_all[RA.all]
theorem V4 (hr:Region.ready .any ops li=[i1,i2])(e1:li.setIfInBounds i1 true=l1)(e2:li.setIfInBounds i2 true=l2)(h1:RO P N ops i1 (RA P N ops k l1 K) fr aw)(h2:RO P N ops i2 (RA P N ops k l2 K) fr aw):RA P N ops (k+1) li K fr aw:=by simp_all[RA.all]
theorem V3 (hr:Region.ready .any ops li=[i1,i2,i3])(e1:li.setIfInBounds i1 true=l1)(e2:li.setIfInBounds i2 true=l2)(e3:li.setIfInBounds i3 true=l3)(h1:RO P N ops i1 (RA P N ops k l1 K) fr aw)(h2:RO P N ops i2 (RA P N ops k l2 K) fr aw)(h3:RO P N ops i3 (RA P N ops k l3 K) fr aw):RA P N ops (k+1) li K fr aw:=by simp_all[RA.all]
theorem V0 {i4:Nat}{l4:Array Bool}(hr:Region.ready .any ops li=[i1,i2,i3,i4])(e1:li.setIfInBounds i1 true=l1)(e2:li.setIfInBounds i2 true=l2)(e3:li.setIfInBounds i3 true=l3)(e4:li.setIfInBounds i4 true=l4)(h1:RO P N ops i1 (RA P N ops k l1 K) fr aw)(h2:RO P N ops i2 (RA P N ops k l2 K) fr aw)(h3:RO P N ops i3 (RA P N ops k l3 K) fr aw)(h4:RO P N ops i4 (RA P N ops k l4 K) fr aw):RA P N ops (k+1) li K fr aw:=by simp_all[RA.all]
end
section
variable {P:Program}{N:Nat}{Q:Exit->U AV->U Ob->Prop}{fr:U AV}{aw:U Ob}
theorem T.weakR {c:Code}{fr':U AV}{aw':U Ob}(h:T P N c Q fr' aw')(hw:Weak N fr aw fr' aw'):T P N c Q fr aw:=T.weak hw h
theorem VN {x y:Code}{Z:Type}(F:Z->U AV)(A:Z->U Ob)(S:Z->Prop)(h:∀z,S z->T P N y Q (F z) (A z))(h2:(∀z,S z->T P N y Q (F z) (A z))->T P N x (thenA (T P N y Q) Q) fr aw):T P N (.seq x y) Q fr aw:=T.seq (h2 h)
end
end
section
open Go.RowKit
def RenM(m:List (Nat×Nat))(a' a:AV):Prop:=∀σ w F v,Rel σ w F a v->∀σ':List Value,(∀p,p∈m->σ'[p.1]?=σ[p.2]?)->Rel σ' w F a' v
def ij(m:List (Nat×Nat)):List AV->List AV->Prop
 |[],[]=>True
 |a'::as',a::as₀=>RenM m a' a/\ij m as' as₀
 |_,_=>False
def jW(m:List (Nat×Nat)):Ob->Ob->Prop
 | .dead,_=>True
 | .box cs',.box cs=>ij m cs' cs
 | .boxB t' cs',.boxB t cs=>t'=t/\ij m cs' cs
 | .arr e' s' rows',.arr e s rows=>e'=e/\s'=s/\rows'=rows/\∀row,row∈rows->∀x,x∈row->Pure x
 | .mp ks' vs',.mp ks vs=>ij m ks' ks/\ij m vs' vs
 | .hd e' k',.hd e k=>e'=e/\(k',k)∈m
 | .cl e' s' cells',.cl e s cells=>e'=e/\s'=s/\cells'=cells/\∀rows,(Cell.own rows∈cells∨Cell.fz rows∈cells)->∀row,row∈rows->∀x,x∈row->Pure x
 |_,_=>False
section
variable {P:Program} {σ σ':List Value} {w w':World} {F F':Nat→Prop} {aw:List Ob} {m:List (Nat×Nat)}
theorem kz:∀{as' as₀:U AV},ij m as' as₀->∀{vs:U Value},RelL σ w F as₀ vs->(∀p,p∈m->σ'[p.1]?=σ[p.2]?)->RelL σ' w F as' vs
 |[],[],_,vs,hr,_=>by
  have:vs=[]:=RP hr.1;subst this;exact .nil
 | a'::as',a::as₀,h,vs,hr,hσ=>by
  match vs,hr with
  |[],hr=>exact absurd hr.1 (by simp)
  |v::vs,hr=>
   have h1:Rel σ w F a v:=hr.2 0 a v J J
   have h2:RelL σ w F as₀ vs:=⟨by simpa using hr.1,λj a v ha hv=>hr.2 (j+1) a v (by grind) (by grind)⟩
   exact .cons (h.1 σ w F v h1 σ' hσ) (kz h.2 h2 hσ)
 |[],_::_,h,_,_,_=>h.elim
 |_::_,[],h,_,_,_=>h.elim
variable {o' o:Ob}{v:Value}{ρ:U Nat}{aw1:U Ob}
theorem KN (h:jW m o' o)(hr:ORel σ w F o v)(hσ:∀p,p∈m->σ'[p.1]?=σ[p.2]?):ORel σ' w F o' v:=by
 cases o' with
 |dead=>trivial
 | box cs'=>
  cases o with
  |box cs=>
   obtain⟨g,vs,ty,rfl,hg,hc,h1,hf⟩:=hr;exact⟨g,vs,ty,J,hg,kz h hc hσ,h1,hf⟩
  |_=>exact h.elim
 | arr e' s' rows'=>
  cases o with
  |arr e s rows=>
   obtain⟨rfl,rfl,rfl,hp⟩:=h;obtain⟨flat,ho,hfl,hf,A,n,c,rfl⟩:=hr;exact⟨flat,ho,⟨hfl.1,hfl.2.1,uR (λrow hrow x hx v hv=>hp row hrow x hx σ w F v hv σ') hfl.2.2⟩,hf,A,n,c,J⟩
  |_=>exact h.elim
 | mp ks' vs'=>
  cases o with
  |mp ks vs=>
   obtain⟨g,es,clock,rfl,hg,hk,hv,hf⟩:=hr;exact⟨g,es,clock,J,hg,kz h.1 hk hσ,kz h.2 hv hσ,hf⟩
  |_=>exact h.elim
 | hd e' k'=>
  cases o with
  |hd e k=>
   obtain⟨rfl,hk⟩:=h;obtain⟨us,g1,g2,g3,g4,g5⟩:=hr;exact⟨us,by grind,g2,g3,g4,g5⟩
  |_=>exact h.elim
 | cl e' s' cells'=>
  cases o with
  |cl e s cells=>
   obtain⟨rfl,rfl,rfl,hp⟩:=h;obtain⟨us,e1,hl1,hc,hd⟩:=hr;exact⟨us,e1,hl1,λi c x h1 h2=>DB (hc i c x h1 h2) (λrows hrr=>hp rows (hrr.imp (λ(e:Cell.own rows=c)=>by grind) (λ(e:Cell.fz rows=c)=>by grind))),hd⟩
  |_=>exact h.elim
 |arrU e' s' rows' x'=>cases o<;>exact h.elim
 | boxB t' cs'=>
  cases o with
  |boxB t cs=>
   obtain⟨rfl,h⟩:=h;obtain⟨g,vs,e1,hg1,hr1,h11,hf⟩:=hr;exact⟨g,vs,e1,hg1,kz h hr1 hσ,h11,hf⟩
  |_=>exact h.elim
theorem sD {b:Nat}(h:jW m o' o)(hb:Bk o' v b):Bk o v b:=by
 cases o' with
 |dead=>exact hb.elim
 |cl e s cells=>
  cases o with
  |cl e' s' cells'=>obtain⟨rfl,rfl,rfl,_⟩:=h;exact hb
  |_=>exact h.elim
 |_=>cases o<;>first|exact hb|exact h.elim
theorem J1 (hr:jW m o' o)(hl:o'.live=true):o.live=true:=by cases o'<;>cases o<;>first|rfl|exact hr.elim|cases hl
theorem Kw (hr:RenO ρ o' o)(hl:o'.live=true):o.live=true:=by cases o'<;>cases o<;>first|rfl|exact hr.elim|cases hl
def bY(ρ:List Nat)(n0 n1:Nat):List (Nat×Nat):=(List.range n1).map λk=>(if k<ρ.length then ρ.getD k 0 else n0+(k- ρ.length),k)
def fD(m:List (Nat×Nat))(ρ:List Nat)(aw aw1:List Ob):Nat->List Ob->Prop
 |_,[]=>True
 |j,o2::r=>((∃k o1,(j,k)∈m/\aw1[k]?=some o1/\jW m o2 o1)∨(ρ.contains j=false/\aw[j]?=some o2))/\fD m ρ aw aw1 (j+1) r
theorem sA:∀{l:U Ob} {j i:Nat} {o2:Ob},fD m ρ aw aw1 j l->l[i]?=some o2 ->
  (∃k o1,(j+i,k)∈m/\aw1[k]?=some o1/\jW m o2 o1)∨(ρ.contains (j+i)=false/\aw[j+i]?=some o2)
 |[],j,i,o2,_,h=>by simp at h
 |o::r,j,0,o2,hb,h=>by simp at h;subst h;exact hb.1
 |o::r,j,i+1,o2,hb,h=>by have:=sA (j:=j+1) (i:=i) hb.2 (by simpa using h);grind
theorem r6 {aw0 aw2:U Ob}{σ0 σ1:U Value}(hs:Sim aw σ w F)(hnd:ρ.Nodup)(hW:b7 ρ aw ρ aw0)(hσ0:∀(k id:Nat),ρ[k]?=some id->σ0[k]?=σ[id]?)(hl0:σ0.length=ρ.length)(hs0:Sim aw0 σ0 w F)(hd0:∀b,Dof aw0 σ0 b->Dof aw σ b)(hs1:Sim aw1 σ1 w' F')(hm:Mv aw0 σ0 w F aw1 σ1 w' F')(hl:aw2.length+ρ.length=aw.length+aw1.length)(hB:fD (bY ρ aw.length aw1.length) ρ aw aw1 0 aw2):
  ∃σ2,Sim aw2 σ2 w' F'/\Mv aw σ w F aw2 σ2 w' F'/\∀p,p∈bY ρ aw.length aw1.length->σ2[p.1]?=σ1[p.2]?:=by
 have hρ1:ρ.length<=aw1.length:=by
  rw[<- hs1.len];have hpre:=hm.pre;by_cases h0:ρ.length=0
  .omega
  .have hlt:ρ.length- 1<σ0.length:=by omega
   have:=(RH.1 (hpre _ _ (RG hlt))).1;omega
 have hin:∀(k id:Nat),ρ[k]?=some id->id<aw.length:=λk id h=>by
  obtain⟨_,hg⟩:=kK hW;have hk:k<aw0.length:=by grind
  obtain⟨id',o,e1,e2,_⟩:=hg k _ (RG hk);grind
 refine⟨σ++σ1.drop ρ.length,?_⟩
 have hmem:∀j k,(j,k)∈bY ρ aw.length aw1.length↔(k<aw1.length/\j=if k<ρ.length then ρ.getD k 0 else aw.length+(k- ρ.length)):=λj k=>by grind[bY]
 have hσ2:∀p,p∈bY ρ aw.length aw1.length->(σ++σ1.drop ρ.length)[p.1]?=σ1[p.2]?:=by
  rintro⟨j,k⟩ hp;obtain⟨hk,rfl⟩:=(hmem j k).1 hp;simp only;split
  .rename_i hlt;have hg:ρ[k]?=some (ρ.getD k 0):=by grind
   have hid:=hin k _ hg;rw[R2 (by grind)];have h0:=hσ0 k _ hg;have hlt0:k<σ0.length:=by omega
   rw[<- h0,hm.pre k _ (RG hlt0),RG hlt0]
  .rw[Sn (by rw[hs.len];omega),hs.len,Sz];grind
 have apart:∀(j:Nat) o v b,ρ.contains j=false->aw[j]?=some o->o.live=true->σ[j]?=some v->Bk o v b->¬Dof aw0 σ0 b:=by
  rintro j o v b hj ho hlv hv hb ⟨k,o0,v0,hk,hl0',hv0,hb0⟩;obtain⟨_,hg⟩:=kK hW;obtain⟨id,o1,e1,e2,e3⟩:=hg k o0 hk;have hv1:σ[id]?=some v0:=by grind
  have hlv1:o1.live=true:=Kw e3 hl0';refine hs.sep j id o o1 v v0 b ?_ ho e2 hlv hlv1 hv hv1 hb (v8 e3 hb0);grind
 have own1:∀(j k:Nat) o1 v b,(j,k)∈bY ρ aw.length aw1.length->aw1[k]?=some o1->o1.live=true->(σ++σ1.drop ρ.length)[j]?=some v->Bk o1 v b->Dof aw1 σ1 b:=λj k o1 v b hp ho hlv hv hb=>by have:=hσ2 _ hp;simp only at this;exact⟨k,o1,v,ho,hlv,by grind,hb⟩
 have live:∀{o' o:Ob},jW (bY ρ aw.length aw1.length) o' o->o'.live=true->o.live=true:=λhr hlv=>J1 hr hlv
 have inold:∀(j:Nat) o v,aw[j]?=some o->(σ++σ1.drop ρ.length)[j]?=some v->σ[j]?=some v:=λj o v ho hv=>by rwa [R2 (by rw[hs.len];grind)]at hv
 have hFw:∀b,F b->w'.heap[b]?=w.heap[b]?:=hm.same hs0
 refine⟨⟨?_,λj o2 v ho hv=>?_,λj j' o o' v v' b hne ho ho' hlv hlv' hv hv' hb hb'=>?_,hs1.lt,hs1.gd⟩,⟨hm.os,hm.tape,hm.output,hm.size,λb hb hd=>hm.keep b hb (λh=>hd (hd0 b h)),λi v hv=>by grind,hm.sub,λb hb=>(hm.sup b hb).imp (λh=>h) (λh=>h.imp (hd0 b) (λh=>h)),λb hb=>?_⟩,hσ2⟩
 .rw[RN,TF,hs.len,hs1.len];omega
 .have:=sA hB ho
  rw[SP]at this
  rcases this with⟨k,o1,hp,ho1,hr⟩|⟨hj,ho2⟩
  .have h1:=hσ2 _ hp
   simp only at h1
   exact KN hr (hs1.obj k o1 v ho1 (by grind)) hσ2
  .have hv':=inold j o2 v ho2 hv
   refine(hs.obj j o2 v ho2 hv').mono (λi v hv=>by grind) hm.sub hFw (λhlv b hb=>?_)
   have hlt:=hs.lt_own ⟨j,o2,v,ho2,hlv,hv',hb⟩
   have hnd0:=apart j o2 v b hj ho2 hlv hv' hb
   refine⟨hm.keep b hlt hnd0,λhF'=>?_⟩
   rcases hm.sup b hF' with h|h|h
   .exact hs.free ⟨j,o2,v,ho2,hlv,hv',hb⟩ h
   all_goals grind
 .have c1:=sA hB ho
  have c2:=sA hB ho'
  rw[SP]at c1 c2
  rcases c1 with⟨k,o1,hp,ho1,hr⟩|⟨hj,ho2⟩
  .rcases c2 with⟨k',o1',hp',ho1',hr'⟩|⟨hj',ho2'⟩
   .have hkk:k≠k':=by
     grind
    have e1:=hσ2 _ hp
    have e2:=hσ2 _ hp'
    simp only at e1 e2
    exact hs1.sep k k' o1 o1' v v' b hkk ho1 ho1' (live hr hlv) (live hr' hlv') (by grind) (by grind) (sD hr hb) (sD hr' hb')
   .have hv2:=inold j' o' v' ho2' hv'
    have hlt:=hs.lt_own ⟨j',o',v',ho2',hlv',hv2,hb'⟩
    rcases hm.own b (own1 j k o1 v b hp ho1 (live hr hlv) hv (sD hr hb))with h|h
    all_goals grind
  .have hv1:=inold j o v ho2 hv
   have hlt:=hs.lt_own ⟨j,o,v,ho2,hlv,hv1,hb⟩
   rcases c2 with⟨k',o1',hp',ho1',hr'⟩|⟨hj',ho2'⟩
   .rcases hm.own b (own1 j' k' o1' v' b hp' ho1' (live hr' hlv') hv' (sD hr' hb'))with h|h
    all_goals grind
   .exact hs.sep j j' o o' v v' b hne ho2 ho2' hlv hlv' hv1 (inold j' o' v' ho2' hv') hb hb'
 .obtain⟨j,o2,v,ho2,hlv,hv,hb'⟩:=hb
  have c:=sA hB ho2
  rw[SP]at c
  rcases c with⟨k,o1,hp,ho1,hr⟩|⟨hj,ho⟩
  .exact(hm.own b (own1 j k o1 v b hp ho1 (live hr hlv) hv (sD hr hb'))).imp (hd0 b) (λh=>h)
  .exact .inl ⟨j,o2,v,ho,hlv,inold j o2 v ho hv,hb'⟩
end
section
variable {P:Program} {N n:Nat} {aw aw':List Ob} {l:List (Nat×AV)}
def FnX(P:Program)(f:FuncId)(args:List AV)(aw:List Ob)(v:AV)(aw':List Ob):Prop:=ACalls P f args aw λr aw''=>r=v/\aw''=aw'
variable {f h:FuncId}{args:Array Operand}{v v' a:AV}{d:QbQ Tmp}{ty:TypeId}{ps:String}{af:Array Edge}{g:QbQ (Nat×Bool)}{K2:AV->U Ob->Prop}{ts:Array TypeId}{caps ac as0 cs ds fr cs':U AV}{aw0 aw1 aw2:U Ob}{n0 n1 k e s:Nat}{m:U (Nat×Nat)}{c:Code}{Q:Exit->U AV->U Ob->Prop}{rows:U (U AV)}
theorem TR {args:U AV}{obs:U Ob}(h:FnO P f args v obs):FnX P f args [] v obs:=h
theorem EQ {f:Operand}(ρ:U Nat)(hn0:aw.length=n0)(hn1:aw1.length=n1)(hf:evA n l f=.func h caps)(ha:args.toList.map (evA n l)++caps=ac)(hnd:ρ.Nodup)(hW:b7 ρ aw ρ aw0)(hA:cK ρ as0 ac)(hC:FnX P h as0 aw0 v aw1)(hlen:aw2.length+ρ.length=n0+n1)(hv:RenM (bY ρ n0 n1) v' v)(hB:fD (bY ρ n0 n1) ρ aw aw1 0 aw2)(hK:K2 v' aw2):OP P N ⟨d,.call ⟨.value f,args,ts⟩,ty,ps,af,g⟩ (mkA n l) aw K2:=
 ⟨λst h1 h2 σ w F a hc Kc Q hk=>by
  subst hn0 hn1;have hfv:=hc.fr.ev f;rw[aF,hf]at hfv;generalize hvf:a.eval f=vf at hfv;cases hfv with
  | func _ _ cvs hl hcs=>
   have hargs:RelL σ w F ac (args.toList.map a.eval++cvs):=by rw[<- ha];have:=kF hc.fr args.toList;rw[show args.toList.map (ev (mkA n l))=args.toList.map (evA n l)from Si λx _=>aF n l x]at this;exact this.append ⟨hl,hcs⟩
   obtain⟨hlW,hgW⟩:=kK hW;obtain⟨σ0',hσ',hs0',hd0'⟩:=jI hc.sim hnd hW;have hl0:σ0'.length=ρ.length:=by rw[hs0'.len,hlW]
   have hr0:RelL σ0' w F as0 (args.toList.map a.eval++cvs):=f5 hA hargs hσ';have hrun:(execOp a.eval ⟨d,.call ⟨.value f,args,ts⟩,ty,ps,af,g⟩).run P w=.ok (.enter h (args.toList.map a.eval++cvs).toArray) w:=by
    have e:args.map a.eval++cvs.toArray=(args.toList.map a.eval++cvs).toArray:=by simp
    simp only[execOp,resolve,Deferred.ofValue,hvf,Sem.run_bind,Sem.run_pure,Result.andThen_ok,invoke,Tw,e,hC.1]
   unfold Oper.wp;rw[hrun];refine(hC.2 w F σ0' _ hs0' hr0).mono ?_;rintro e w' ⟨u,r,aw'',σ1,F',rfl,⟨rfl,rfl⟩,hs1,hrel,hm⟩;obtain⟨σ2,s2,m2,hσ2⟩:=r6 hc.sim hnd hW hσ' hl0 hs0' hd0' hs1 hm hlen hB;exact hk v' aw2 σ2 w' F' u hK (hc.step s2 m2) (hv σ1 w' F' u hrel σ2 hσ2)⟩
theorem DO {f:Operand}(ρ:U Nat)(hn0:aw.length=n0)(hn1:aw1.length=n1)(hf:evA n l f=.bnd h caps)(ha:caps++args.toList.map (evA n l)=ac)(hnd:ρ.Nodup)(hW:b7 ρ aw ρ aw0)(hA:cK ρ as0 ac)(hC:FnX P h as0 aw0 v aw1)(hlen:aw2.length+ρ.length=n0+n1)(hv:RenM (bY ρ n0 n1) v' v)(hB:fD (bY ρ n0 n1) ρ aw aw1 0 aw2)(hK:K2 v' aw2):OP P N ⟨d,.call ⟨.value f,args,ts⟩,ty,ps,af,g⟩ (mkA n l) aw K2:=
 ⟨λst h1 h2 σ w F a hc Kc Q hk=>by
  subst hn0 hn1;have hfv:=hc.fr.ev f;rw[aF,hf]at hfv;generalize hvf:a.eval f=vf at hfv;cases hfv with
  | bnd _ _ cvs hl hcs=>
   have hargs:RelL σ w F ac (cvs++args.toList.map a.eval):=by rw[<- ha];have:=kF hc.fr args.toList;rw[show args.toList.map (ev (mkA n l))=args.toList.map (evA n l)from Si λx _=>aF n l x]at this;exact RelL.append ⟨hl,hcs⟩ this
   obtain⟨hlW,hgW⟩:=kK hW;obtain⟨σ0',hσ',hs0',hd0'⟩:=jI hc.sim hnd hW;have hl0:σ0'.length=ρ.length:=by rw[hs0'.len,hlW]
   have hr0:RelL σ0' w F as0 (cvs++args.toList.map a.eval):=f5 hA hargs hσ';have hrun:(execOp a.eval ⟨d,.call ⟨.value f,args,ts⟩,ty,ps,af,g⟩).run P w=.ok (.enter h (cvs++args.toList.map a.eval).toArray) w:=by
    have e:cvs.toArray++args.map a.eval++#[]=(cvs++args.toList.map a.eval).toArray:=by simp
    simp only[execOp,resolve,Deferred.ofValue,hvf,Sem.run_bind,Sem.run_pure,Result.andThen_ok,invoke,e,hC.1]
   unfold Oper.wp;rw[hrun];refine(hC.2 w F σ0' _ hs0' hr0).mono ?_;rintro e w' ⟨u,r,aw'',σ1,F',rfl,⟨rfl,rfl⟩,hs1,hrel,hm⟩;obtain⟨σ2,s2,m2,hσ2⟩:=r6 hc.sim hnd hW hσ' hl0 hs0' hd0' hs1 hm hlen hB;exact hk v' aw2 σ2 w' F' u hK (hc.step s2 m2) (hv σ1 w' F' u hrel σ2 hσ2)⟩
theorem ap (h:Pure a):RenM m a a:=λσ w F v hr σ' _=>h σ w F v hr σ'
theorem Gs:RenM m .any a:=λσ w F v hr σ' _=>.any v
theorem jQ {id:Nat}(h:(k,id)∈m):RenM m (.ref k) (.ref id):=λσ w F v hr σ' hσ=>by
 cases hr with
 |ref _ A n c hg=>exact .ref k A n c (by grind)
theorem mc {id off:Nat}(h:(k,id)∈m):RenM m (.ptr k off) (.ptr id off):=λσ w F v hr σ' hσ=>by
 cases hr with
 |ptr _ _ g hg=>exact .ptr k off g (by grind)
theorem tv (h:ij m cs ds):RenM m (.agg cs) (.agg ds):=λσ w F v hr σ' hσ=>by
 cases hr with
 |agg _ vs hl h1 hc=>have:=kz h ⟨hl,hc⟩ hσ;exact .agg cs vs this.1 h1 this.2
theorem Qk (h:ij m cs ds):RenM m (.tup cs) (.tup ds):=λσ w F v hr σ' hσ=>by
 cases hr with
 |tup _ vs hl hc=>have:=kz h ⟨hl,hc⟩ hσ;exact .tup cs vs this.1 this.2
theorem OB (h:ij m cs ds):RenM m (.func f cs) (.func f ds):=λσ w F v hr σ' hσ=>by
 cases hr with
 |func _ _ vs hl hc=>have:=kz h ⟨hl,hc⟩ hσ;exact .func f cs vs this.1 this.2
theorem Qj (h:ij m cs ds):RenM m (.bnd f cs) (.bnd f ds):=λσ w F v hr σ' hσ=>by
 cases hr with
 |bnd _ _ vs hl hc=>have:=kz h ⟨hl,hc⟩ hσ;exact .bnd f cs vs this.1 this.2
theorem aZ (h:ij m cs ds):jW m (.box cs) (.box ds):=h
theorem lY {α:Type}{en:α->U AV}{xs:U α}(hp:∀a x,x∈en a->Pure x):jW m (.arr e s (xs.map en)) (.arr e s (xs.map en)):=
 ⟨J,J,J,λrow hr x hx=>by grind⟩
theorem VM (id j e z:Nat)(ho:aw[id]?=some (.box cs))(hj:cs[j]?=some .nils)(hc:cs.set j (.ref aw.length)=cs')(ha:aw.set id (.box cs')++[.arr e z []]=aw')(h:T P N c Q fr aw'):T P N c Q fr aw:=
 ⟨λst h1 h2 σ w F a hcur=>by
  subst hc ha;obtain⟨s1,m1,r1⟩:=yh e z hcur.sim;have hid:id<aw.length:=(RH.1 ho).1;refine h.out st h1 h2 (σ++[.slice none 0 0]) w F a ⟨⟨?_,λk o v hk hv=>?_,λk k' o o' v v' g hne hk hk' hl hl' hv hv' hb hb'=>?_,s1.lt,s1.gd⟩,m1.aRel hcur.sim hcur.fr,hcur.mv.trans ⟨m1.os,m1.tape,m1.output,m1.size,m1.keep,m1.pre,m1.sub,m1.sup,λb hb=>?_⟩,hcur.ds⟩
  .have:=s1.len;grind
  .rw[Sk]at hk;split at hk
   .rename_i hlt;rw[SW]at hlt;rw[R5]at hk;split at hk
    .rename_i e1;subst e1;cases hk;have hob:=s1.obj id _ v (by rw[R2 hid];exact ho) hv;obtain⟨g,vs,ty,rfl,hg,hr,h1c,hf⟩:=hob;refine⟨g,vs,ty,J,hg,?_,h1c,hf⟩;obtain⟨u,hu,hru⟩:=hr.get hj;cases hru;have:=hr.set j r1;grind[List.set_getElem_self]
    .exact s1.obj k o v (by grind) hv
   .rename_i hge;exact s1.obj k o v (by grind) hv
  .have back:∀(k:Nat) o,(aw.set id (.box (cs.set j (.ref aw.length)))++[.arr e z []])[k]?=some o->o.live=true->∃o1,(aw++[.arr e z []])[k]?=some o1/\o1.live=true/\∀v b,Bk o v b->Bk o1 v b:=λk o hk hl=>by
    rw[Sk]at hk ⊢;rw[SW]at hk;split at hk
    .rename_i hlt;rw[if_pos hlt];rw[R5]at hk;split at hk
     .rename_i e1;subst e1;cases hk;exact⟨_,ho,J,λ_ _ h=>h⟩
     grind
    grind
   obtain⟨o1,e1,l1,z1⟩:=back k o hk hl;obtain⟨o2,e2,l2,z2⟩:=back k' o' hk' hl';exact s1.sep k k' o1 o2 v v' g hne e1 e2 l1 l2 hv hv' (z1 _ _ hb) (z2 _ _ hb')
  .obtain⟨k,o,v,hk,hl,hv,hb⟩:=hb;refine m1.own b ⟨k,?_⟩;rw[Sk]at hk;rw[SW]at hk;split at hk
   .rename_i hlt;rw[R5]at hk;rw[R2 hlt];split at hk
    .rename_i e1;subst e1;cases hk;exact⟨_,v,ho,J,hv,hb⟩
    grind
   grind⟩
theorem yu {σ:U Value}{w:World}{F:Nat->Prop}{v:Value}(hs:Sim aw σ w F)(ho:aw[k]?=some (.arr e s rows))(hv:σ[k]?=some v):
  Sim (aw.set k .dead++[.arr e s rows]) (σ++[v]) w F/\Mv aw σ w F (aw.set k .dead++[.arr e s rows]) (σ++[v]) w F:=by
 have hmono:∀(j:Nat) o u,aw[j]?=some o->σ[j]?=some u->ORel (σ++[v]) w F o u:=λj o u h1 h2=>
  (hs.obj j o u h1 h2).mono (λi x hx=>eB hx) (λ_ h=>h) (λ_ _=>J) (λhl b hb=>⟨J,hs.free ⟨j,o,u,h1,hl,h2,hb⟩⟩)
 have look:∀(j:Nat) o u,(aw.set k .dead++[.arr e s rows])[j]?=some o->o.live=true->(σ++[v])[j]?=some u->∃i,aw[i]?=some o/\σ[i]?=some u/\((i=j/\j≠k/\j<aw.length)∨(i=k/\j=aw.length)):=by
  intro j o u h1 hl h2;rw[Sk,SW]at h1;split at h1
  .rename_i hlt;rw[R2 (by rw[hs.len];exact hlt)]at h2;rw[R5]at h1;split at h1
   .split at h1
    .cases h1;cases hl
    .cases h1
   grind
  .rename_i hge;have hj:j=aw.length:=by
    grind
   subst hj;rw[Tc]at h1;cases h1;rw[Sn (by rw[hs.len];omega),hs.len,Tc]at h2;grind
 refine⟨⟨by simp[hs.len],λj o u h1 h2=>?_,λj j' o o' u u' b hne h1 h1' hl hl' h2 h2' hb hb'=>?_,hs.lt,hs.gd⟩,⟨J,J,drO,RJ _,λ_ _ _=>J,λi x hx=>eB hx,λ_ h=>h,λ_ h=>.inl h,λb hb=>?_⟩⟩
 .by_cases hl:o.live=true
  .grind
  .cases o with
   |dead=>trivial
   |_=>exact absurd J hl
 .obtain⟨i,h3,h4,c⟩:=look j o u h1 hl h2
  obtain⟨i',h3',h4',c'⟩:=look j' o' u' h1' hl' h2'
  refine hs.sep i i' o o' u u' b ?_ h3 h3' hl hl' h4 h4' hb hb'
  omega
 .obtain⟨j,o,u,h1,hl,h2,hb⟩:=hb
  obtain⟨i,h3,h4,_⟩:=look j o u h1 hl h2
  exact .inl ⟨i,o,u,h3,hl,h4,hb⟩
theorem US (t id:Nat)(hx:evA n l (.tmp t)=.ref id)(ho:aw[id]?=some (.arr e s rows))(hn:aw.length=n0)(ha:aw.set id .dead++[.arr e s rows]=aw')(h:T P N c Q (mkA n ((t,.ref n0)::l)) aw'):T P N c Q (mkA n l) aw:=
 ⟨λst h1 h2 σ w F a hcur=>by
  subst ha hn;have hr:=hcur.fr.ev (.tmp t);rw[aF,hx]at hr;generalize hv:a.eval (.tmp t)=v at hr;cases hr with
  | ref _ A m c2 hg=>
   obtain⟨s1,m1⟩:=yu hcur.sim ho hg;refine h.out st h1 h2 _ w F a ⟨s1,?_,hcur.mv.trans m1,hcur.ds⟩;have hfr:=m1.aRel hcur.sim hcur.fr;have hrn:Rel (σ++[.slice A m c2]) w F (.ref aw.length) (.slice A m c2):=.ref _ A m c2 (by rw[<- hcur.sim.len];simp);have e1:a.tmps.getD t undef=.slice A m c2:=hv;have hset:mkA n ((t,.ref aw.length)::l)=(mkA n l).set t (.ref aw.length):=(eR n l (some t) _).symm;rw[hset];refine⟨?_,hfr.2⟩;have hlen:=hfr.1.1;by_cases ht:t<a.tmps.size
   .have:=hfr.1.set t hrn;have e2:a.tmps.toList.set t (.slice A m c2)=a.tmps.toList:=by
     have e3:a.tmps.toList[t]?=some (.slice A m c2):=by simp_all
     grind[List.set_getElem_self]
    grind
   .have:(mkA n l).set t (.ref aw.length)=mkA n l:=List.set_eq_of_length_le (by grind);rw[this];exact hfr.1⟩
theorem VX (b j id:Nat)(hb:aw[b]?=some (.box cs))(hj:cs[j]?=some (.ref id))(ho:aw[id]?=some (.arr e s rows))(hn:aw.length=n0)(hc:cs.set j (.ref n0)=cs')(ha:(aw.set id .dead).set b (.box cs')++[.arr e s rows]=aw')(h:T P N c Q fr aw'):T P N c Q fr aw:=
 ⟨λst h1 h2 σ w F a hcur=>by
  subst hc ha hn;have hbl:b<aw.length:=(RH.1 hb).1;have hbσ:∃vb,σ[b]?=some vb:=⟨_,RG (by rw[hcur.sim.len];exact hbl)⟩
  obtain⟨vb,hvb⟩:=hbσ;obtain⟨g,vs,ty,rfl,hg,hcr,h1c,hf⟩:=hcur.sim.obj b _ vb hb hvb;obtain⟨u,hu,hru⟩:=hcr.get hj;cases hru with
  |ref _ A m c2 hgσ=>
   obtain⟨s1,m1⟩:=yu hcur.sim ho hgσ;have hbid:b≠id:=by grind
   have hb1:(aw.set id .dead++[.arr e s rows])[b]?=some (.box cs):=by grind
   have hnew:ORel (σ++[.slice A m c2]) w F (.box (cs.set j (.ref aw.length))) (.pointer (some ⟨g,0,none⟩)):=by refine⟨g,vs,ty,J,hg,?_,h1c,hf⟩;have hcr1:=m1.relL hcur.sim hcr;have:=hcr1.set j (Rel.ref (σ:=σ++[.slice A m c2]) (w:=w) (F:=F) aw.length A m c2 (by rw[<- hcur.sim.len];simp));grind[List.set_getElem_self]
   have hvb1:(σ++[.slice A m c2])[b]?=some (.pointer (some ⟨g,0,none⟩)):=eB hvb;have hset:(aw.set id .dead).set b (.box (cs.set j (.ref aw.length)))++[Ob.arr e s rows]=(aw.set id .dead++[Ob.arr e s rows]).set b (.box (cs.set j (.ref aw.length))):=by grind
   rw[hset]at h;have s2:=s1.write (b0:=g) b hb1 J hvb1 J (λ_ _=>J) J _ hnew (λ_ h=>h);have m2:=Mv.write (w:=w) (w':=w) (F:=F) (b0:=g) b hb1 J hvb1 J J J drO (λ_ _=>J) J (.box (cs.set j (.ref aw.length))) (λ_ h=>h);exact h.out st h1 h2 _ w F a ⟨s2,m2.aRel s1 (m1.aRel hcur.sim hcur.fr),(hcur.mv.trans m1).trans m2,hcur.ds⟩⟩
def fz1(id:Nat)(rows:List (List AV)):AV->AV
 | .ref k=>(match Nat.beq k id with|true=>.sl rows|false=>.ref k)
 |a=>a
def fz2(id:Nat)(rows:List (List AV)):AV->AV
 | .agg cs=>.agg (cs.map (fz1 id rows))
 |a=>fz1 id rows a
def fzV(id:Nat)(rows:List (List AV)):AV->AV
 | .tup cs=>.tup (cs.map (fz2 id rows))
 | .func f cs=>.func f (cs.map (fz2 id rows))
 |a=>fz2 id rows a
def fzA(id:Nat)(rows:List (List AV))(l:List (Nat×AV)):List (Nat×AV):=l.map λp=>(p.1,fzV id rows p.2)
def fzOb(id:Nat)(rows:List (List AV)):Ob->Ob
 | .box cs=>.box (cs.map (fz2 id rows))
 |o=>o
section
variable {σ:List Value} {w:World} {F:Nat→Prop} {id:Nat} {rows:List (List AV)}
theorem Fg (H:∀v,Rel σ w F (.ref id) v->Rel σ w F (.sl rows) v){v:Value}(h:Rel σ w F a v):Rel σ w F (fz1 id rows a) v:=by unfold fz1;grind[Nat.eq_of_beq_eq_true]
theorem vR {f:AV->AV}(hf:∀a v,Rel σ w F a v->Rel σ w F (f a) v){vs:U Value}(h:RelL σ w F cs vs):RelL σ w F (cs.map f) vs:=by refine⟨by simp[h.1],λj a v ha hv=>?_⟩;rw[R9,Sf]at ha;obtain⟨b,hb,rfl⟩:=ha;exact hf b v (h.2 j b v hb hv)
theorem wc (H:∀v,Rel σ w F (.ref id) v->Rel σ w F (.sl rows) v){v:Value}(h:Rel σ w F a v):Rel σ w F (fz2 id rows a) v:=by
 unfold fz2;split
 .cases h with
  |agg _ vs hl h1 hc=>
   have:=vR (λa v=>Fg H) (⟨hl,hc⟩:RelL σ w F _ _);exact .agg _ vs this.1 h1 this.2
 .exact Fg H h
theorem OW (H:∀v,Rel σ w F (.ref id) v->Rel σ w F (.sl rows) v){v:Value}(h:Rel σ w F a v):Rel σ w F (fzV id rows a) v:=by
 unfold fzV;split
 .cases h with
  |tup _ vs hl hc=>
   have:=vR (λa v=>wc H) (⟨hl,hc⟩:RelL σ w F _ _);exact .tup _ vs this.1 this.2
 .cases h with
  |func _ _ vs hl hc=>
   have:=vR (λa v=>wc H) (⟨hl,hc⟩:RelL σ w F _ _);exact .func _ _ vs this.1 this.2
 .exact wc H h
theorem Qh (hs:Sim aw σ w F)(H:∀v,Rel σ w F (.ref id) v->Rel σ w F (.sl rows) v):Sim (aw.map (fzOb id rows)) σ w F/\Mv aw σ w F (aw.map (fzOb id rows)) σ w F:=by
 have look:∀(k:Nat) o,(aw.map (fzOb id rows))[k]?=some o->∃o1,aw[k]?=some o1/\o=fzOb id rows o1/\(o.live=true->o1.live=true)/\∀v b,Bk o v b->Bk o1 v b:=λk o h=>by rw[R9,Sf]at h;obtain⟨o1,h1,rfl⟩:=h;exact⟨o1,h1,J,λhl=>by cases o1<;>first|rfl|exact hl,λv b hb=>by cases o1<;>exact hb⟩
 refine⟨⟨by simp[hs.len],λk o v h1 h2=>?_,λk k' o o' v v' b hne h1 h1' hl hl' h2 h2' hb hb'=>?_,hs.lt,hs.gd⟩,⟨J,J,drO,RJ _,λ_ _ _=>J,λ_ _ h=>h,λ_ h=>h,λ_ h=>.inl h,λb hb=>?_⟩⟩
 .obtain⟨o1,h3,rfl,_,_⟩:=look k o h1;have:=hs.obj k o1 v h3 h2;cases o1 with
  |box cs=>
   obtain⟨g,vs,ty,rfl,hg,hr,h4,hf⟩:=this;exact⟨g,vs,ty,J,hg,vR (λa v=>wc H) hr,h4,hf⟩
  |_=>exact this
 .obtain⟨o1,h3,_,l1,z1⟩:=look k o h1;obtain⟨o1',h3',_,l1',z1'⟩:=look k' o' h1';exact hs.sep k k' o1 o1' v v' b hne h3 h3' (l1 hl) (l1' hl') h2 h2' (z1 _ _ hb) (z1' _ _ hb')
 .obtain⟨k,o,v,h1,hl,h2,hb⟩:=hb;obtain⟨o1,h3,_,l1,z1⟩:=look k o h1;exact .inl ⟨k,o1,v,h3,l1 hl,h2,z1 _ _ hb⟩
theorem EE (f:AV->AV)(hf:f .any=.any):∀(l:U (Nat×AV)) (t:Nat),lkA (l.map λp=>(p.1,f p.2)) t=f (lkA l t)
 |[],t=>hf.symm
 |(s,v)::r,t=>by
  rw[Se,kH,kH];split
  .rfl
  .exact EE f hf r t
theorem yP {st:St}{a:Act}(hc:Cur st (mkA n l) aw σ w F a)(ho:aw[id]?=some (.arr e s rows)):∃F',Cur st (mkA n (fzA id rows l)) ((aw.set id .dead).map (fzOb id rows)) σ w F' a:=by
 have hlt:id<σ.length:=by rw[hc.sim.len];grind
 have hv:=RG hlt;have s1:=hc.sim.drop id ho J hv;have m1:Mv aw σ w F (aw.set id .dead) σ w _:=.drop id ho J hv;obtain⟨flat,hown,hfl,hf,A,m,c,hform⟩:=hc.sim.obj id _ _ ho hv;have H:∀v,Rel σ w (λb=>F b∨Bk (.arr e s rows) σ[id] b) (.ref id) v->Rel σ w (λb=>F b∨Bk (.arr e s rows) σ[id] b) (.sl rows) v:=λv hr=>by
  cases hr with
  |ref _ A' m' c' h'=>
   have e1:σ[id]=.slice A' m' c':=by grind
   have:=Gm (F':=λb=>F b∨Bk (.arr e s rows) σ[id] b) (λ_ h=>.inl h) hc.sim ho h' (λb hb=>.inr (by rw[e1];exact hb));exact this
 have c1:=hc.step s1 m1;obtain⟨s2,m2⟩:=Qh (rows:=rows) s1 H;have c2:=c1.step s2 m2;refine⟨_,s2,⟨⟨?_,λj x v hx hv'=>?_⟩,c2.fr.2⟩,c2.mv,c2.ds⟩
 .rw[qa];have:=c2.fr.1.1;grind[qa]
 .rw[iC]at hx;split at hx
  .rename_i hj;cases hx;unfold fzA;rw[EE _ J];exact OW H (c2.fr.1.2 j _ v (by rw[iC,if_pos hj]) hv')
  .cases hx
end
variable {l':U (Nat×AV)}{ops:Array Oper}{K:U AV->U Ob->Prop}
theorem T.fz (id:Nat)(ho:aw[id]?=some (.arr e s rows))(hl:fzA id rows l=l')(ha:(aw.set id .dead).map (fzOb id rows)=aw')(h:T P N c Q (mkA n l') aw'):T P N c Q (mkA n l) aw:=
 ⟨λst h1 h2 σ w F a hc=>by subst hl ha;obtain⟨F',hc'⟩:=yP hc ho;exact h.out st h1 h2 σ w F' a hc'⟩
theorem RS.fz {os:U Oper}(id:Nat)(ho:aw[id]?=some (.arr e s rows))(hl:fzA id rows l=l')(ha:(aw.set id .dead).map (fzOb id rows)=aw')(h:RS P N ops os K (mkA n l') aw'):RS P N ops os K (mkA n l) aw:=
 ⟨λst h1 h2 σ w F a hc=>by subst hl ha;obtain⟨F',hc'⟩:=yP hc ho;exact h.out st h1 h2 σ w F' a hc'⟩
theorem RO.fz {i:Nat}(id:Nat)(ho:aw[id]?=some (.arr e s rows))(hl:fzA id rows l=l')(ha:(aw.set id .dead).map (fzOb id rows)=aw')(h:RO P N ops i K (mkA n l') aw'):RO P N ops i K (mkA n l) aw:=
 ⟨λst h1 h2 σ w F a hc=>by subst hl ha;obtain⟨F',hc'⟩:=yP hc ho;exact h.out st h1 h2 σ w F' a hc'⟩
theorem Ms {M:Nat}{Q:AV->U Ob->Prop}{vs:U AV}(r:AV)(ρ:U Nat)(hr:il aw (dT vs)=(v,aw1))(h1:ρ.Nodup)(h2:∀k,k<M->ρ[k]?=some k)(hren:Ren ρ r v)(hw:b7 ρ aw1 ρ aw')(hQ:Q r aw'):Ret M Q aw vs:=
 ⟨[],true,r,aw',by simp only[nilify,if_true];rw[hr];exact⟨ρ,h1,h2,hren,hw⟩,hQ⟩
end
end
noncomputable section
def kix{κ:Type}[DecidableEq κ](k:κ):List κ->Option Nat
 |[]=>none
 |k'::r=>if k=k' then some 0 else(kix k r).map (· + 1)
def mget{κ ν:Type}[DecidableEq κ](k:κ):List (κ×ν)->Option ν
 |[]=>none
 |p::r=>if k=p.1 then some p.2 else mget k r
def mset{κ ν:Type}[DecidableEq κ](k:κ)(v:ν):List (κ×ν)->List (κ×ν)
 |[]=>[(k,v)]
 |p::r=>if k=p.1 then(k,v)::r else p::mset k v r
def cpy{α:Type}(xs:List α)(lo n:Nat)(ys:List α):List α:=xs.take lo++ys.take n++xs.drop (lo+min n ys.length)
def vwok(len:Nat)(i j:Int):Option Unit:=if 0<=i/\i<=j/\j<=len then some ()else none
def clr{α:Type}(xs:List α)(lo n:Nat)(z:α):List α:=xs.take lo++List.replicate n z++xs.drop (lo+n)
def allC{α:Type}(n:Nat)(f:Nat->Option α):Option α:=
 open Classical in if h:∃r,∀C,n<=C->f C=some r then some (Classical.choose h)else none
section
variable {α:Type}{n:Nat}{f:Nat->QbQ α}{r:α}
theorem K8 (h:allC n f=some r):∀C,n<=C->f C=some r:=by unfold allC at h;split at h;all_goals grind
theorem OM (h:∀C,n<=C->f C=some r):allC n f=some r:=by
 have hx:∃r,∀C,n<=C->f C=some r:=⟨r,h⟩
 have h1:=Classical.choose_spec hx n (RJ _);rw[h n (RJ _)]at h1;unfold allC;grind
def roomx(len C:Nat)(j:Int):Option Nat:=if 0<len/\(len:Int)<=j/\j<=C then some (j.toNat- len)else none
def cpyU{α:Type}(xs:List α)(x lo m lo2 m2:Nat):Option (List α):=if 0<m/\m<=m2/\lo<=xs.length/\lo+m=xs.length+x/\lo2+m=xs.length then some (xs.take lo++xs.drop lo2)else none
def growz{α:Type}(xs:List α)(n K:Nat)(m:Int)(z:α):Option (List α):=if n<=xs.length/\(K:Int)<n+m/\0<m/\n+m.toNat<=1099511627776 then some (xs.take n++List.replicate m.toNat z)else none
def ovok{α:Type}(ys:List α)(m:Nat):Option Unit:=if 0<ys.length/\0<m then some ()else none
end
end
section
open Go.RowKit Go.Lib
section
variable {P:Program} {N n:Nat} {aw aw':List Ob} {l:List (Nat×AV)}
theorem TP {o:Oper}{fr:U AV}{K:AV->U Ob->Prop}(h:∀σ w F a,ARel σ w F fr a->Sim aw σ w F->OpOk P aw σ w F (execOp a.eval o) K):OP P N o fr aw K:=
 ⟨λst h1 h2 σ w F a hc Kc Q hk=>by
  obtain⟨v,n,w',aw',σ',F',r,hrun,hn,hs,hm,hr,hK⟩:=h σ w F a hc.fr hc.sim;unfold Oper.wp;rw[hrun];rcases hn with rfl|⟨rfl,rfl⟩
  .exact hk r aw' σ' w' F' v hK (hc.step hs hm) hr
  .exact hk r aw' σ' w' F' undef hK (hc.step hs hm) hr⟩
theorem KD {σ:U Value}{w:World}{F:Nat->Prop}{t tn ty e:TypeId}{z:U AV}{kn kq:IntKind}(hu:P.underlying t=some (.slice e))(htn:P.underlying tn=some (.int kn))(hz:bu P e=some z)(hzl:z.length=P.cellsOf e)(h0:0<P.cellsOf e)(hby:P.bytesOf e<=128){m:Nat}{v:Value}{flat:U Value}(hown:w.ownsRow 0 e (P.cellsOf e) v n flat)(hm:0<m)(hlen:n+m<=1099511627776):
  ∃v' w' news,(Builtin.append_ #[t,tn] ty #[v,.int kq m]).run P w=.ok v' w'/\w'.ownsRow 0 e (P.cellsOf e) v' (n+m) (flat++news)/\w.grownBy w' v.ownBlock /\
   (v'.ownBlock=v.ownBlock∨v'.ownBlock=some w.heap.size)/\RelL σ w F (List.replicate m z).flatten news/\(∀u,u∈news->u.oneCell'=true)/\(∀A q cp,v=.slice A q cp->cp<n+m->v'.ownBlock=some w.heap.size/\w.grownBy w' none):=by
 obtain⟨i,zv,hi,hiz,hvl,hv1,hvr⟩:=lW hz
 have hsz:i.size=P.cellsOf e:=by grind[Program.cellsOf]
 have hbb:i.bytes=P.bytesOf e:=by grind[Program.bytesOf]
 rw[<- hsz]at hown h0 hzl⊢
 rw[<- hbb]at hby
 have hzs:zv.cells.size=i.size:=by grind
 have hinit:=sF (hvr σ w F) (by omega) m
 have hone:=sH hv1 (by omega) (m*zv.cells.size)
 have hbytes:(n+m)*i.bytes<=140737488355328:=by have:(n+m)*i.bytes<=1099511627776*128:=Tb hlen hby;omega
 have h63:n+m<=maxLen:=by grind[maxLen]
 have hnl:(Builtin.zeroCells zv.cells m).toList.length=m*i.size:=by grind[size_zeroCells]
 have hfl:(flat++(Builtin.zeroCells zv.cells m).toList).length=(n+m)*i.size:=by rw[RN,hown.1,hnl,SH]
 have hrel:RelL σ w F (List.replicate m z).flatten (Builtin.zeroCells zv.cells m).toList:=by
  have e1:m*z.length=m*zv.cells.size:=by rw[hzl,hzs]
  rw[e1]at hinit;exact hinit
 have grown:∀(old:Nat),old<n+m->∀(row:QbQ Nat),
   (w.drew.alloc (.cells (flat.toArray++Builtin.zeroCells zv.cells m++Builtin.zeroCells zv.cells (grownCap w (n+m) old e- (n+m))) e)).ownsRow 0 e i.size
    (.slice (some ⟨w.heap.size,0,none⟩) (n+m) (grownCap w (n+m) old e)) (n+m) (flat++(Builtin.zeroCells zv.cells m).toList) /\
   w.grownBy (w.drew.alloc (.cells (flat.toArray++Builtin.zeroCells zv.cells m++Builtin.zeroCells zv.cells (grownCap w (n+m) old e- (n+m))) e)) row:=by
  intro old ho row
  have hge:=grownCap_ge w (n+m) old e
  have hcm:grownCap w (n+m) old e<=maxLen:=grownCap_le_maxLen w (n+m) old e h63
  refine⟨⟨hfl,.inr ⟨w.heap.size,_,_,J,Sb _,heap_alloc_new w.drew _,hge,hcm,?_,?_⟩⟩,⟨J,J,J,by simp,λk hk _=>Below.heap_alloc w.drew _ k hk⟩⟩
  .simp only[Array.size_append,TB,size_zeroCells,hzs,hown.1,<- SH]
   grind
  grind
 rcases hown.2 with⟨rfl,rfl⟩|⟨g,cap,cur,rfl,hbg,hg,hnc,hcm,hcs,htake⟩
 .have hx:flat=[]:=RP (by grind)
  subst hx
  have hr:=run_append_nil_zeros (P:=P) w t tn ty e i zv kq kn hu htn hi hiz m hm h0 (by omega) (by grind)
  have hgr:=grown 0 (by omega) none
  simp only[SP,SG,Tw]at hgr⊢
  exact⟨_,_,_,hr,hgr.1,hgr.2,.inr J,hrel,hone,λ_ _ _ _ _=>⟨J,hgr.2⟩⟩
 .by_cases hroom:n+m<=cap
  .have hfit:n*i.size+(Builtin.zeroCells zv.cells m).toList.length<=cur.size:=by rw[hnl,hcs,<- SH];simp_all[R4]
   have hst:=run_storeCells_at P g (n*i.size) e (Builtin.zeroCells zv.cells m).toList 0 cur w hg (by omega) hone
   simp only[SY]at hst
   have hw:IntKind.i64.wrap (m:Int)=m:=by grind[IntKind.wrap_i64]
   have hneg:¬((m:Int)<0):=by omega
   have hns:¬(m*i.size=0):=Nat.mul_ne_zero (by omega) (by omega)
   have h48i:¬(281474976710656<(m:Int)*(i.bytes:Int)):=by grind
   have hr:(Builtin.append_ #[t,tn] ty #[.slice (some ⟨g,0,none⟩) n cap,.int kq m]).run P w=.ok (.slice (some ⟨g,0,none⟩) (n+m) cap)
     (w.setRow g (cur.toList.take (n*i.size)++(Builtin.zeroCells zv.cells m).toList++cur.toList.drop (n*i.size+(Builtin.zeroCells zv.cells m).toList.length)).toArray):=by
    simp[Builtin.append_,run_underlying hu,run_underlying htn,sizeOf,typeInfo,zeroValue,hi,hiz,asInt,asIntOf,hw,hneg,hns,h48i,hroom,Addr.add_lit,hst]
   refine⟨_,_,_,hr,⟨hfl,.inr ⟨g,cap,_,J,hbg,setRow_heap w g cur _ e _ hg,hroom,hcm,?_,?_⟩⟩,⟨J,J,J,by simp,λk _ hk=>setRow_other w g k _ (λe=>hk (by grind[Value.ownBlock]))⟩,.inl J,hrel,hone,λA q cp e h=>by grind⟩
   all_goals grind
  .have holds:∀j u,flat[j]?=some u->w.drew.cell? ((⟨g,0,none⟩:Addr).add j)=some u:=hown.cells (g:=g) J
   have hold:=run_firstCells_some (P:=P) w.drew i.size n ⟨g,0,none⟩ n cap flat hown.1 holds
   have hr:=run_append_grow_zeros (P:=P) w t tn ty e i zv kq kn hu htn hi hiz (some ⟨g,0,none⟩) n cap flat hold m hm h0 (by omega) (by omega) (by grind) (growslice_fits (by omega) hbytes)
   have hgr:=grown cap (by omega) (Value.ownBlock (.slice (some ⟨g,0,none⟩) n cap))
   exact⟨_,_,_,hr,hgr.1,hgr.2,.inr J,hrel,hone,λ_ _ _ _ _=>⟨J,(grown cap (by omega) none).2⟩⟩
end
end
section
open Go.RowKit
theorem yF{κ:Type}[DecidableEq κ]{k:κ}:∀{ks:U κ} {i:Nat},kix k ks=some i->ks[i]?=some k
 |[],i,h=>by cases h
 |k'::r,i,h=>by
  unfold kix at h;split at h
  .grind
  .rw[Sf]at h;obtain⟨j,hj,rfl⟩:=h;simpa using yF hj
theorem CV{κ ν:Type}[DecidableEq κ]{k:κ}:∀(xs:U (κ×ν)),mget k xs=(kix k (xs.map (·.1))).bind λi=>(xs.map (·.2))[i]?
 |[]=>rfl
 |p::r=>by
  simp only[mget,Se,kix];split
  .rfl
  .rw[CV r];cases kix k (r.map (·.1))<;>simp
theorem Ch{κ ν:Type}[DecidableEq κ]{k:κ}{v:ν}:∀{xs:U (κ×ν)} {i:Nat},kix k (xs.map (·.1))=some i->(mset k v xs).map (·.1)=xs.map (·.1)/\(mset k v xs).map (·.2)=(xs.map (·.2)).set i v
 |[],i,h=>by cases h
 |p::r,i,h=>by
  simp only[Se,kix]at h;simp only[mset];split at h
  .grind
  .rename_i e;rw[if_neg e];rw[Sf]at h;obtain⟨j,hj,rfl⟩:=h;obtain⟨h1,h2⟩:=Ch (v:=v) hj;simp[h1,h2]
theorem Cy{κ ν:Type}[DecidableEq κ]{k:κ}{v:ν}:∀{xs:U (κ×ν)},kix k (xs.map (·.1))=none->mset k v xs=xs++[(k,v)]
 |[],h=>rfl
 |p::r,h=>by
  simp only[Se,kix]at h;simp only[mset];split at h
  .cases h
  .rename_i e;rw[if_neg e];rw[Option.map_eq_none_iff]at h;rw[Cy h];rfl
structure KeyT (P:Program) (kt:TypeId) {κ:Type} [DecidableEq κ] (ek:κ->AV):Prop where
 out:∃d,P.underlying kt=some d/\(∀(b:Bool) (k:κ) σ w F v,Rel σ w F (ek k) v->∀w',(Instr.checkKey b 10000 kt v).run P w'=.ok () w') /\
  (∀(k k':κ) σ w F v v',Rel σ w F (ek k) v->Rel σ w F (ek k') v'->Instr.sameNow d v v'=some (decide (k=k'))/\(k=k'->Instr.sameBits 10000 v' v=true/\v'=v))
theorem OH{P:Program}{kt:TypeId}{q k:IntKind}(hu:P.underlying kt=some (.int q))(b:Bool)(m:Nat)(x:Int)(w:World):(Instr.checkKey b (m+1) kt (.int k x)).run P w=.ok () w:=by simp_all[Instr.checkKey,run_underlying]
theorem O8{P:Program}{kt:TypeId}(hu:P.underlying kt=some .string)(b:Bool)(m:Nat)(x:ByteArray)(w:World):(Instr.checkKey b (m+1) kt (.string x)).run P w=.ok () w:=by simp_all[Instr.checkKey,run_underlying]
theorem CN(x y:U UInt8):(ByteArray.mk x.toArray==ByteArray.mk y.toArray)=decide (x=y):=by show(x.toArray==y.toArray)=decide (x=y);grind
theorem M2(m:Nat)(k:IntKind)(a:Int):Instr.sameBits m (.int k a) (.int k a)=true:=by simp[Instr.sameBits]
theorem L1(m:Nat)(a:U UInt8):Instr.sameBits m (.string ⟨a.toArray⟩) (.string ⟨a.toArray⟩)=true:=by simp[Instr.sameBits,CN]
theorem KeyT.int{P:Program}{kt:TypeId}{q:IntKind}(hu:P.underlying kt=some (.int q)):KeyT P kt (λn:Int=>.int .i64 n):=by
 refine⟨_,hu,λb k σ w F v h w'=>?_,λk k' σ w F v v' h h'=>?_⟩
 .cases h;grind[OH]
 .cases h;cases h';simp_all[Instr.sameNow,Bool.beq_eq_decide_eq,M2]
theorem KeyT.str{P:Program}{kt:TypeId}(hu:P.underlying kt=some .string):KeyT P kt (λs:U UInt8=>.str s):=by
 refine⟨_,hu,λb k σ w F v h w'=>?_,λk k' σ w F v v' h h'=>?_⟩
 .cases h;grind[O8]
 .cases h;cases h';grind[Instr.sameNow,CN,L1]
section
variable {P:Program} {N n:Nat} {aw aw':List Ob} {l:List (Nat×AV)} {σ:List Value} {w:World} {F:Nat→Prop}
def wput(w:World)(r:Nat)(o:Obj):World:={ w with heap:=w.heap.setIfInBounds r o }
theorem Lr{w:World}{r:Nat}{o:Obj}(h:r<w.heap.size):(wput w r o).heap[r]?=some o:=by simp[wput,h]
theorem JV{w:World}{r k:Nat}{o:Obj}(h:k≠r):(wput w r o).heap[k]?=w.heap[k]?:=by simp_all[wput,Ne.symm]
theorem CJ{w:World}{r:Nat}{o:Obj}:(wput w r o).heap.size=w.heap.size:=by simp[wput]
theorem vj{w:World}{r:Nat}{es:Array MapEntry}{clock:Nat}(hb:w.heap[r]?=some (.map es clock)):(getObj r).run P w=.ok (.map es clock) w:=by grind[getObj,Sem.run]
theorem K5{w:World}{r:Nat}{es:Array MapEntry}{clock:Nat}(o:Obj)(hb:w.heap[r]?=some (.map es clock)):(setObj r o).run P w=.ok () (wput w r o):=by grind[setObj,Sem.run,wput]
theorem BC{κ:Type}[DecidableEq κ]{d:TypeDesc}{k:κ}{v:Value}:∀(es:U MapEntry) (ks:U κ) (i0:Nat),es.length=ks.length ->
  (∀(j:Nat) k' e,ks[j]?=some k'->es[j]?=some e->Instr.sameNow d v e.key=some (decide (k=k'))) ->
  Instr.findNow d v es i0=some ((kix k ks).bind λi=>(es[i]?).map λe=>(i0+i,e.val))
 |[],[],i0,_,_=>rfl
 | e::es,k'::ks,i0,hl,h=>by
  have h0:=h 0 k' e J J;simp only[Instr.findNow,h0,kix];by_cases hk:k=k'
  .simp[hk]
  .simp only[hk,decide_false,if_false];rw[BC es ks (i0+1) (by grind) (λj k2 e2 h1 h2=>h (j+1) k2 e2 (by grind) (by grind))];cases kix k ks with
   |none=>rfl
   |some i=>grind
 |[],_::_,_,hl,_=>by simp at hl
 |_::_,[],_,hl,_=>by simp at hl
theorem Bz{κ:Type}[DecidableEq κ]{ek:κ->AV}{kt:TypeId}(hK:KeyT P kt ek){k:κ}{ks:U κ}{es:Array MapEntry}{v:Value}(hr:RelL σ w F (ks.map ek) (es.toList.map (·.key)))(hv:Rel σ w F (ek k) v)(w':World):
  (Instr.findKey kt v es.toList).run P w'=.ok ((kix k ks).bind λi=>(es[i]?).map λe=>(i,e.val)) w':=by
 obtain⟨d,hu,hc,hs⟩:=hK.out
 have hl:es.toList.length=ks.length:=by simpa using hr.1
 have h:=BC (d:=d) (k:=k) (v:=v) es.toList ks 0 hl (λj k' e h1 h2=>by refine(hs k k' σ w F v e.key hv (hr.2 j _ _ (by grind) (by grind))).1)
 simp_all[Instr.findKey,run_underlying]
theorem F8{vs:U AV}{es:Array MapEntry}(hv:RelL σ w F vs (es.toList.map (·.val))){i:Nat}{a:AV}(h:vs[i]?=some a):∃e,es[i]?=some e/\Rel σ w F a e.val:=by obtain⟨u,hu,hr⟩:=hv.get h;grind
theorem EI{id:Nat}{ks vs:U AV}(hs:Sim aw σ w F)(ho:aw[id]?=some (.mp ks vs)){r:QbQ Nat}(hσ:σ[id]?=some (.map r)):
  ∃g es clock,r=some g/\w.heap[g]?=some (.map es clock)/\RelL σ w F ks (es.toList.map (·.key))/\RelL σ w F vs (es.toList.map (·.val))/\¬F g/\Born es clock:=by
 obtain⟨g,es,clock,e1,h1,h2,h3,h4,h5⟩:=hs.obj id _ _ ho hσ
 cases e1
 exact⟨g,es,clock,J,h1,h2,h3,h4,h5⟩
variable {d:Option Tmp} {ty:TypeId} {ps:String} {af:Array Edge} {g:Option (Nat×Bool)} {K2:AV→List Ob→Prop}
theorem Cb{t:TypeId}{k:Nat}(hk:aw.length=k)(ha:aw++[.mp [] []]=aw')(h:K2 (.mpr k) aw'):OP P N ⟨d,.makeMap t none,ty,ps,af,g⟩ (mkA n l) aw K2:=
 TP (λσ w F a har hs=>by
  subst hk ha;have hk:∀b,b<w.heap.size->(w.alloc (.map #[] 0)).heap[b]?=w.heap[b]?:=λb hb=>Below.heap_alloc w _ b hb
  have hn:∀b,Bk (.mp [] []) (.map (some w.heap.size)) b->w.heap.size<=b:=λb hb=>by grind[Bk,blk]
  refine⟨.map (some w.heap.size),_,w.alloc (.map #[] 0),_,σ++[.map (some w.heap.size)],F,_,?_,.inl J,hs.push (.mp [] []) _ hk (by simp) ⟨w.heap.size,#[],0,J,heap_alloc_new w _,.nil,.nil,λhF=>?_,λ_ h=>by simp at h,by simp⟩ hn,
   .push hs (.mp [] []) _ J J drO hk (by simp) hn,.mpr _ (some w.heap.size) (by rw[<- hs.len];simp),h⟩
  .rfl
  .have:=hs.lt _ hF;omega)
def pickA(vs:List AV)(az:AV):Option Nat->Option AV
 |some i=>vs[i]?
 |none=>some az
theorem A3{κ:Type}[DecidableEq κ]{ek:κ->AV}{ks:U κ}{vs:U AV}{t kt et:TypeId}{x y:Operand}{id:Nat}{k:κ}{b:Bool}{z:Value}{az a:AV}
  (hm:P.underlying t=some (.map kt et)) (hK:KeyT P kt ek) (hz:(P.info? et).bind (·.zero)=some z) (hza:∀σ w F,Rel σ w F az z) (hx:evA n l x=.mpr id) (hy:evA n l y=ek k) (ho:aw[id]?=some (.mp (ks.map ek) vs))
  (hr:pickA vs az (kix k ks)=some a)
  (h:K2 (if b=true then .tup [a,.bool (kix k ks).isSome]else a) aw):OP P N ⟨d,.lookup t x y b,ty,ps,af,g⟩ (mkA n l) aw K2:=
 TP (λσ w F ac har hs=>by
  have ex:=har.ev x;have ey:=har.ev y;rw[aF,hx]at ex;rw[aF,hy]at ey;generalize hvx:ac.eval x=vx at ex;generalize hvy:ac.eval y=vy at ey;cases ex with
  | mpr _ r hσ=>
   obtain⟨g0,es,clock,rfl,hg,hks,hvs,hF,hbo⟩:=EI hs ho hσ;obtain⟨dd,hu,hc,_⟩:=hK.out;have hf:=Bz hK hks ey w;have hzr:(zeroValue et).run P w=.ok z w:=by grind[Option.bind_eq_some_iff,rA]
   have hchk:=hc es.isEmpty k σ w F vy ey w;cases hkx:kix k ks with
   | none=>
    rw[hkx]at hf hr h;change some az=some a at hr;cases hr;have hrun:(Instr.lookup t (.map (some g0)) vy b).run P w=.ok (if b=true then .tuple #[z,.bool false]else z) w:=by simp only[Instr.lookup,Sem.run_bind,run_underlying hm,Result.andThen_ok,vj hg,Sem.run_pure,hchk,hf,Option.bind_none,hzr]
    refine⟨if b=true then .tuple #[z,.bool false]else z,_,w,aw,σ,F,_,?_,.inl J,hs,.refl ..,?_,h⟩
    .grind[execOp,Sem.run_bind,Result.andThen_ok,Sem.run_pure]
    .cases b with
     |true=>exact .tup [az,.bool false] [z,.bool false] J (λj c u hc hu=>by
      match j with
      |0=>grind
      |1=>simp at hc hu;subst hc hu;exact .bool _
      |j+2=>simp at hc)
     |false=>grind
   | some i=>
    rw[hkx]at hf hr h;change vs[i]?=some a at hr;obtain⟨e,he,hrel⟩:=F8 hvs hr;have hf':(Instr.findKey kt vy es.toList).run P w=.ok (some (i,e.val)) w:=by grind
    have hrun:(Instr.lookup t (.map (some g0)) vy b).run P w=.ok (if b=true then .tuple #[e.val,.bool true]else e.val) w:=by simp only[Instr.lookup,Sem.run_bind,run_underlying hm,Result.andThen_ok,vj hg,Sem.run_pure,hchk,hf']
    refine⟨if b=true then .tuple #[e.val,.bool true]else e.val,_,w,aw,σ,F,_,?_,.inl J,hs,.refl ..,?_,h⟩
    .grind[execOp,Sem.run_bind,Result.andThen_ok,Sem.run_pure]
    .cases b with
     |true=>exact .tup [a,.bool true] [e.val,.bool true] J (λj c u hc hu=>by
      match j with
      |0=>grind
      |1=>simp at hc hu;subst hc hu;exact .bool _
      |j+2=>simp at hc)
     |false=>exact hrel)
theorem MR{es:Array MapEntry}{ks:U AV}{e:MapEntry}{a:AV}(h:RelL σ w F ks (es.toList.map (·.key)))(hr:Rel σ w F a e.key):RelL σ w F (ks++[a]) ((es.push e).toList.map (·.key)):=by
 have:(es.push e).toList.map (·.key)=es.toList.map (·.key)++[e.key]:=by simp
 rw[this];exact h.append (.cons hr .nil)
theorem LI{es:Array MapEntry}{ks:U AV}{e:MapEntry}{a:AV}(h:RelL σ w F ks (es.toList.map (·.val)))(hr:Rel σ w F a e.val):RelL σ w F (ks++[a]) ((es.push e).toList.map (·.val)):=by
 have:(es.push e).toList.map (·.val)=es.toList.map (·.val)++[e.val]:=by simp
 rw[this];exact h.append (.cons hr .nil)
theorem Born.push{es:Array MapEntry}{c:Nat}(h:Born es c)(k v:Value):Born (es.push { key:=k,val:=v,born:=c }) (c+1):=by
 refine⟨λe he=>?_,?_⟩
 .simp only[Array.toList_push,RY,RW]at he;rcases he with he|rfl
  .have:=h.1 e he;omega
  .exact Nat.lt_succ_self _
 .simp only[Array.toList_push,SC,Se,List.map_nil];refine List.nodup_append.2 ⟨h.2,by simp,λa ha b hb=>?_⟩;obtain⟨e,he,rfl⟩:=R3.1 ha;obtain rfl:=RW.1 hb;have:=h.1 e he;omega
theorem Born.modify{es:Array MapEntry}{c i:Nat}(h:Born es c)(k v:Value):Born (es.modify i λe=>{ e with key:=k,val:=v }) c:=by
 have e1:(es.modify i λe=>{ e with key:=k,val:=v }).toList.map (·.born)=es.toList.map (·.born):=by
  apply Sw;intro j;simp only[R9,Td,SO];split
  .cases es[j]?<;>rfl
  .rfl
 refine⟨λe he=>?_,by rw[e1];exact h.2⟩;have:e.born∈(es.modify i λe=>{ e with key:=k,val:=v }).toList.map (·.born):=R3.2 ⟨e,he,rfl⟩;rw[e1]at this;obtain⟨e0,he0,hb⟩:=R3.1 this;have:=h.1 e0 he0;omega
theorem CY{id g0 clock c2:Nat}{es es':Array MapEntry}{ks vs ks' vs':U AV}(hs:Sim aw σ w F)(ho:aw[id]?=some (.mp ks vs))(hσ:σ[id]?=some (.map (some g0)))(hg:w.heap[g0]?=some (.map es clock))(hF:¬F g0)
  (hk:RelL σ w F ks' (es'.toList.map (·.key))) (hv:RelL σ w F vs' (es'.toList.map (·.val))) (hbo:Born es' c2):
  Sim (aw.set id (.mp ks' vs')) σ (wput w g0 (.map es' c2)) F/\Mv aw σ w F (aw.set id (.mp ks' vs')) σ (wput w g0 (.map es' c2)) F:=by
 have hlt:g0<w.heap.size:=(Tx.1 hg).1
 have hoth:∀b,b≠g0->(wput w g0 (.map es' c2)).heap[b]?=w.heap[b]?:=λb hb=>JV hb
 have hFw:∀b,F b->(wput w g0 (.map es' c2)).heap[b]?=w.heap[b]?:=λb hb=>hoth b (λe=>hF (e▸hb))
 refine⟨hs.write (b0:=g0) id ho J hσ J hoth CJ (.mp ks' vs') ⟨g0,es',c2,J,Lr hlt,hk.mono (λ_ _ e=>e) (λ_ e=>e) hFw,hv.mono (λ_ _ e=>e) (λ_ e=>e) hFw,hF,hbo⟩ (λ_ h=>h),
  Mv.write (w:=w) (w':=wput w g0 (.map es' c2)) (F:=F) (b0:=g0) id ho J hσ J J J drO hoth CJ (.mp ks' vs') (λ_ h=>h)⟩
theorem J2{es:Array MapEntry}{i:Nat}{e:MapEntry}(he:es[i]?=some e)(k v:Value)(hk:e.key=k):(es.modify i λe=>{ e with key:=k,val:=v }).toList.map (·.key)=es.toList.map (·.key):=by apply Sw;grind
theorem J8{es:Array MapEntry}{i:Nat}{e:MapEntry}(he:es[i]?=some e)(k v:Value):(es.modify i λe=>{ e with key:=k,val:=v }).toList.map (·.val)=(es.toList.map (·.val)).set i v:=by apply Sw;grind
theorem IF{κ:Type}[DecidableEq κ]{ek:κ->AV}{ks:U κ}{vs:U AV}{t kt et:TypeId}{id:Nat}{k:κ}{a:AV}{r:QbQ Nat}{vy vz:Value}
  (hm:P.underlying t=some (.map kt et)) (hK:KeyT P kt ek) (hs:Sim aw σ w F) (ho:aw[id]?=some (.mp (ks.map ek) vs)) (hσ:σ[id]?=some (.map r)) (hy:Rel σ w F (ek k) vy) (hz:Rel σ w F a vz):
  ∃ w',(Instr.mapUpdate t (.map r) vy vz).run P w=.ok () w' /\
   (match kix k ks with
    |some i=>Sim (aw.set id (.mp (ks.map ek) (vs.set i a))) σ w' F/\Mv aw σ w F (aw.set id (.mp (ks.map ek) (vs.set i a))) σ w' F
    |none=>Sim (aw.set id (.mp ((ks++[k]).map ek) (vs++[a]))) σ w' F/\Mv aw σ w F (aw.set id (.mp ((ks++[k]).map ek) (vs++[a]))) σ w' F):=by
 obtain⟨g0,es,clock,rfl,hg,hks,hvs,hF,hbo⟩:=EI hs ho hσ
 obtain⟨dd,hu,hc,hsame⟩:=hK.out
 have hf:=Bz hK hks hy w
 have hchk:=hc false k σ w F vy hy w
 have hput:∀o:Obj,(setObj g0 o).run P w=.ok () (wput w g0 o):=λo=>K5 o hg
 cases hkx:kix k ks with
 |none=>
  rw[hkx]at hf
  obtain⟨h1,h2⟩:=CY (c2:=clock+1) hs ho hσ hg hF (MR (e:={ key:=vy,val:=vz,born:=clock }) hks hy) (LI (e:={ key:=vy,val:=vz,born:=clock }) hvs hz) (hbo.push vy vz)
  refine⟨wput w g0 (.map (es.push { key:=vy,val:=vz,born:=clock }) (clock+1)),?_,by grind,by grind⟩
  simp only[Instr.mapUpdate,Sem.run_bind,run_underlying hm,Result.andThen_ok,vj hg,hchk,hf,Option.bind_none,hput]
 |some i=>
  rw[hkx]at hf
  have hik:=yF hkx
  have hiv:i<vs.length:=by have e1:=hks.1;have e2:=hvs.1;grind
  obtain⟨e,he,_⟩:=F8 hvs (RG hiv)
  have hrk:Rel σ w F (ek k) e.key:=hks.2 i _ _ (by grind) (by grind)
  obtain⟨hb,hkeq⟩:=(hsame k k σ w F vy e.key hy hrk).2 J
  have hf':(Instr.findKey kt vy es.toList).run P w=.ok (some (i,e.val)) w:=by grind
  have hstay:(Instr.keyThatStays e.key vy).run P w=.ok vy w:=by simp[Instr.keyThatStays,hb]
  obtain⟨h1,h2⟩:=CY (es':=es.modify i λe=>{ e with key:=vy,val:=vz }) (c2:=clock) (ks':=ks.map ek) (vs':=vs.set i a) hs ho hσ hg hF (by rw[J2 he vy vz hkeq];exact hks) (by rw[J8 he vy vz];exact hvs.set i hz) (hbo.modify vy vz)
  refine⟨wput w g0 (.map (es.modify i λe=>{ e with key:=vy,val:=vz }) clock),?_,h1,h2⟩
  simp only[Instr.mapUpdate,Sem.run_bind,run_underlying hm,Result.andThen_ok,vj hg,hchk,hf',he,SJ,Tr,hstay,hput]
theorem lO{κ:Type}[DecidableEq κ]{ek:κ->AV}{ks:U κ}{vs:U AV}{t kt et:TypeId}{op:Op}{x y z:Operand}{id:Nat}{k:κ}{a:AV}{o2:Ob}
  (hop:op=.mapUpdate t x y z∨op=.insert t x y z) (hm:P.underlying t=some (.map kt et)) (hK:KeyT P kt ek) (hx:evA n l x=.mpr id) (hy:evA n l y=ek k) (hz:evA n l z=a) (ho:aw[id]?=some (.mp (ks.map ek) vs))
  (hr:(match kix k ks with|some i=>Ob.mp (ks.map ek) (vs.set i a)|none=>.mp ((ks++[k]).map ek) (vs++[a]))=o2) (ha:aw.set id o2=aw') (h:K2 .any aw'):OP P N ⟨d,op,ty,ps,af,g⟩ (mkA n l) aw K2:=
 TP (λσ w F ac har hs=>by
  subst ha;have ex:=har.ev x;have ey:=har.ev y;have ez:=har.ev z;rw[aF,hx]at ex;rw[aF,hy]at ey;rw[aF,hz]at ez;generalize hvx:ac.eval x=vx at ex;cases ex with
  | mpr _ r hσ=>
   obtain⟨w',hrun,hm'⟩:=IF hm hK hs ho hσ ey ez;have hexec:(execOp ac.eval ⟨d,op,ty,ps,af,g⟩).run P w=.ok .skip w':=by grind[execOp,Sem.run_bind,Result.andThen_ok,Sem.run_pure]
   cases hkx:kix k ks with
   |none=>
    rw[hkx]at hr hm';subst hr;exact⟨undef,_,w',_,σ,F,.any,hexec,.inr ⟨J,J⟩,hm'.1,hm'.2,.any _,h⟩
   |some i=>
    rw[hkx]at hr hm';subst hr;exact⟨undef,_,w',_,σ,F,.any,hexec,.inr ⟨J,J⟩,hm'.1,hm'.2,.any _,h⟩)
variable {κ ν:Type} [DecidableEq κ] {ek:κ→AV} {ev:ν→AV} {xs:List (κ×ν)}
theorem Jj{t kt et:TypeId}{x y:Operand}{id:Nat}{k:κ}{z:Value}{z0:ν}(hm:P.underlying t=some (.map kt et))(hK:KeyT P kt ek)(hz:(P.info? et).bind (·.zero)=some z)(hza:∀σ w F,Rel σ w F (ev z0) z)
  (hx:evA n l x=.mpr id) (hy:evA n l y=ek k) (ho:aw[id]?=some (.mp ((xs.map (·.1)).map ek) ((xs.map (·.2)).map ev))) (h:K2 (.tup [ev ((mget k xs).getD z0),.bool (mget k xs).isSome]) aw):OP P N ⟨d,.lookup t x y true,ty,ps,af,g⟩ (mkA n l) aw K2:=by
 have key:pickA ((xs.map (·.2)).map ev) (ev z0) (kix k (xs.map (·.1)))=some (ev ((mget k xs).getD z0))/\(kix k (xs.map (·.1))).isSome=(mget k xs).isSome:=by
  rw[CV];cases hk:kix k (xs.map (·.1))with
  |none=>exact⟨J,J⟩
  |some i=>
   have hi:=(RH.1 (yF hk)).1;grind[pickA]
 exact A3 (az:=ev z0) (a:=ev ((mget k xs).getD z0)) hm hK hz hza hx hy ho key.1 (by grind)
theorem Mq{t kt et:TypeId}{op:Op}{x y z:Operand}{id:Nat}{k:κ}{a:ν}(hop:op=.mapUpdate t x y z∨op=.insert t x y z)(hm:P.underlying t=some (.map kt et))(hK:KeyT P kt ek)
  (hx:evA n l x=.mpr id) (hy:evA n l y=ek k) (hz:evA n l z=ev a) (ho:aw[id]?=some (.mp ((xs.map (·.1)).map ek) ((xs.map (·.2)).map ev)))
  (ha:aw.set id (.mp (((mset k a xs).map (·.1)).map ek) (((mset k a xs).map (·.2)).map ev))=aw') (h:K2 .any aw'):OP P N ⟨d,op,ty,ps,af,g⟩ (mkA n l) aw K2:=by
 refine lO hop hm hK hx hy hz ho ?_ ha h
 cases hk:kix k (xs.map (·.1))with
 |none=>grind[Cy]
 |some i=>
  simp_all[Ch]
end
section
variable {P:Program} {aw aw':List Ob} {κ ν:Type} {ek:κ→AV} {ev:ν→AV} {xs:List (κ×ν)}
theorem vn{ρ:U Nat}:∀{as₀:U AV},(∀a,a∈as₀->Pure a)->cK ρ as₀ as₀
 |[],_=>trivial
 |a::as₀,h=>⟨kL (h a (.head _)),vn λb hb=>h b (.tail _ hb)⟩
theorem rn_np{ρ:U Nat}{k id:Nat}(h:ρ[k]?=some id):Ren ρ (.np k) (.np id):=λσ w F v hr σ' hσ=>by
 cases hr with
 |np0 _=>exact .np0 k
 |npS _ g hg=>exact .npS k g (by grind)
theorem rm_np{m:U (Nat×Nat)}{k id:Nat}(h:(k,id)∈m):RenM m (.np k) (.np id):=λσ w F v hr σ' hσ=>by
 cases hr with
 |np0 _=>exact .np0 k
 |npS _ g hg=>exact .npS k g (by grind)
theorem Ga{ρ:U Nat}{k id:Nat}(h:ρ[k]?=some id):Ren ρ (.mpr k) (.mpr id):=λσ w F v hr σ' hσ=>by
 cases hr with
 |mpr _ r hg=>exact .mpr k r (by grind)
theorem FN{m:U (Nat×Nat)}{k id:Nat}(h:(k,id)∈m):RenM m (.mpr k) (.mpr id):=λσ w F v hr σ' hσ=>by
 cases hr with
 |mpr _ r hg=>exact .mpr k r (by grind)
theorem xt{m:U (Nat×Nat)}:∀{as₀:U AV},(∀a,a∈as₀->Pure a)->ij m as₀ as₀
 |[],_=>trivial
 |a::as₀,h=>⟨ap (h a (.head _)),xt λb hb=>h b (.tail _ hb)⟩
end
abbrev kI(n:Int):AV:=.int .i64 n
abbrev kS(s:List UInt8):AV:=.str s
abbrev kB(b:Bool):AV:=.bool b
abbrev kU(_:Unit):AV:=.agg []
theorem Nk{σ:U Value}{w:World}{F:Nat->Prop}{cs:U AV}{vs:U Value}(h:RelL σ w F cs vs)(h1:vs.all (·.oneCell')=true):Rel σ w F (.agg cs) (.agg vs.toArray):=
 .agg cs vs h.1 (λu hu=>Sc.1 h1 u hu) h.2
theorem LU{σ:U Value}{w:World}{F:Nat->Prop}:Rel σ w F (.agg []) (.agg #[]):=Nk (vs:=[]) .nil J
theorem Ny{κ:Type}[DecidableEq κ]{k:κ}:kix k ([]:U κ)=none:=rfl
theorem n8{κ:Type}[DecidableEq κ]{k k':κ}{r:U κ}(h:k=k'):kix k (k'::r)=some 0:=if_pos h
theorem cX{κ:Type}[DecidableEq κ]{k k':κ}{r:U κ}{o:QbQ Nat}(h:k≠k')(h2:kix k r=o):kix k (k'::r)=o.map (· + 1):=by rw[<- h2];exact if_neg h
section
variable {P:Program} {N n:Nat} {aw aw':List Ob} {l:List (Nat×AV)} {d:Option Tmp} {ty:TypeId} {ps:String} {af:Array Edge} {g:Option (Nat×Bool)} {K2:AV→List Ob→Prop}
theorem lR{κ:Type}[DecidableEq κ]{ek:κ->AV}{ks:U κ}{vs:U AV}{t kt et:TypeId}{x y:Operand}{id:Nat}{k:κ}{z:Value}{az a:AV}{r:QbQ Nat}
  (hm:P.underlying t=some (.map kt et)) (hK:KeyT P kt ek) (hz:(P.info? et).bind (·.zero)=some z) (hza:∀σ w F,Rel σ w F az z) (hx:evA n l x=.mpr id) (hy:evA n l y=ek k) (ho:aw[id]?=some (.mp (ks.map ek) vs))
  (hk:kix k ks=r) (hr:pickA vs az r=some a) (h:K2 a aw):OP P N ⟨d,.lookup t x y false,ty,ps,af,g⟩ (mkA n l) aw K2:=by
 grind[A3]
theorem Vs{x y1 y2 y3 y4 y:Code}{Q:Exit->U AV->U Ob->Prop}{fr:U AV}{Z:Type}(F:Z->U AV)(A:Z->U Ob)(S:Z->Prop)(h:∀z,S z->T P N y Q (F z) (A z))
 (h2:(∀z,S z->T P N y Q (F z) (A z))->T P N (.seq x (.seq y1 (.seq y2 (.seq y3 (.seq y4 y))))) Q fr aw):T P N (.seq x (.seq y1 (.seq y2 (.seq y3 (.seq y4 y))))) Q fr aw:=h2 h
theorem nF{t:TypeId}{x:Operand}{dd:TypeDesc}{a:AV}(hu:P.underlying t=some dd)(hd:(match dd with| .interface _=>false|_=>true)=true)(hx:evA n l x=a)(h:K2 (.ifc t a) aw):OP P N ⟨d,.makeInterface t x,ty,ps,af,g⟩ (mkA n l) aw K2:=
 TP (λσ w F ac har hs=>by have ex:=har.ev x;rw[aF,hx]at ex;refine⟨.iface t (ac.eval x),_,w,aw,σ,F,_,?_,.inl J,hs,.refl ..,.ifc _ _ _ ex,h⟩;cases dd<;>simp_all[execOp,Instr.makeInterface,Sem.run_bind,run_underlying hu])
theorem Iz{t:TypeId}{len:Nat}{parts:Array (Nat×Operand)}{e c k:Nat}{z:U AV}{rows:U (U AV)}{vs vs2:U AV}(hS:SliceOf P t e c)(hz:bu P e=some z)(hl:Nat.ble (len*c) 16777216=true)(hv:parts.toList.map (λp=>evA n l p.2)=vs)(hn:d7 aw vs=(vs2,aw))(hr:nZ P c (List.replicate len z) ((parts.toList.map (·.1)).zip vs2)=some rows)(hk:aw.length=k)(ha:aw++[.arr e c rows]=aw')(h:K2 (.ref k) aw'):OP P N ⟨d,.buildSlice t len parts,ty,ps,af,g⟩ (mkA n l) aw K2:=
 T1 (by subst hk ha;obtain⟨z',hz1,hz2⟩:=hS.z;rw[hz]at hz1;cases hz1;show vcE P (mkA n l) aw (.buildSlice t len parts) K2;simp only[vcE,hS.u,hz,hS.c];rw[show(parts.toList.map λp=>ev (mkA n l) p.2)=vs from by grind[aF],hn,hr];exact⟨hz2,hS.p,SN hl,h⟩)
end
end
section
open Go.RowKit Go.Lib
section
variable {P:Program} {N n:Nat} {aw aw':List Ob} {l:List (Nat×AV)}
theorem na{size:Nat}:∀(rows:U (U AV)) (j:Nat),(∀row,row∈rows->row.length=size)->(rows.take j).flatten=rows.flatten.take (j*size)
 |[],j,_=>by simp
 |r::rows,0,_=>by simp
 |r::rows,j+1,h=>by
  have hr:=h r (by simp);have e:(j+1)*size=r.length+j*size:=by grind
  rw[List.take_succ_cons,SE,SE,na rows j (λx hx=>h x (by simp[hx])),e,List.take_length_add_append]
theorem A0{α:Type}{en:α->U AV}{xs b:U α}{t:TypeId}{x y:Operand}{id e c k:Nat}{j:Int}{kq:IntKind}{d:QbQ Tmp}{ty:TypeId}{ps:String}{af:Array Edge}{g:QbQ (Nat×Bool)}{K2:AV->U Ob->Prop}
    (hS:SliceOf P t e c) (hx:evA n l x=.ref id) (hy:evA n l y=.int kq j) (ho:aw[id]?=some (.arr e c (xs.map en))) (hs':sub xs 0 j=some b) (hk:aw.length=k)
    (ha:aw.set id .dead++[.arr e c (b.map en)]=aw') (h:K2 (.ref k) aw'):OP P N ⟨d,.slice t x none (some y) none,ty,ps,af,g⟩ (mkA n l) aw K2:=
  TP (fun σ w F a har hs=>by
    unfold sub at hs';split at hs'
    · rename_i hc;cases hs';subst hk ha;have ex:=har.ev x;rw[aF,hx]at ex;generalize hvx:a.eval x=vx at ex;cases ex with
      | ref _ A q cp hσ=>
        obtain⟨flat,hown0,hfl,hf,_⟩:=hs.obj id _ _ ho hσ;obtain⟨ds,hd⟩:=R0.1 hS.s;have hlen:(xs.map en).length=xs.length:=by simp
        have hq:q=xs.length/\q<=cp:=by
          rcases hown0.2 with⟨h1,h2⟩|⟨g0,cap,cur,h1,_,_,h2,_⟩
          all_goals grind
        have b:=λw'=>ny (P:=P) har (lo:=none) (hi:=some y) (b:=true) (len:=q) (cap:=cp) (kl:=.i64) (l:=0) J (by show ev (mkA n l) y=_;rw[aF,hy]) (by omega) hc.2.1 (by omega) hq.2 w'
        simp only[Option.map_none,SJ]at b;have hrun:(execOp a.eval ⟨d,.slice t x none (some y) none,ty,ps,af,g⟩).run P w=.ok (.value (.slice A j.toNat cp)) w:=by
          cases A with
          |none=>simp[execOp,hvx,Instr.sliceAt,Instr.slice,Sem.run_bind,run_underlying hS.u,b,eo hd]
          | some A=>
            have h0:A.add 0=A:=by rfl
            simp[execOp,hvx,Instr.sliceAt,Instr.slice,Sem.run_bind,run_underlying hS.u,b,eo hd,h0]
        have s3:=hs.lose id;have hfree:∀b,(Value.slice A q cp).ownBlock=some b->¬F b/\¬Dof (aw.set id .dead) σ b/\Dof aw σ b:=by
          intro b hb;refine⟨hf b hb,λhd=>?_,⟨id,_,_,ho,J,hσ,(Bk.slice hb)⟩⟩;obtain⟨k,o1,v1,ho1,hl,hv1,hb1⟩:=hd;rcases ca ho1 with⟨rfl,rfl,_⟩|⟨hne,h2⟩
          · assumption
          · exact hs.sep k id o1 _ v1 _ b hne h2 ho hl J hv1 hσ hb1 ((Bk.slice hb))
        have hjl:j.toNat<=xs.length:=by omega
        have hcut:(j.toNat)*c<=xs.length*c:=R4 _ hjl;have hown:w.ownsRow 0 e c (.slice A j.toNat cp) ((xs.map en).take j.toNat++[]).length (flat.take (j.toNat*c)++[]):=by
          rw[Sg,Sg,S2,hlen,Ti hjl];have h1:=hown0.1;rw[hlen]at h1;refine⟨by grind,?_⟩;rcases hown0.2 with⟨h2,h3⟩|⟨g0,cap,cur,h2,h3,h4,h5,h6,h7,h8⟩
          all_goals grind
        have hfl2:FlatRel σ w F c ((xs.map en).take j.toNat) (flat.take (j.toNat*c)):=
          ⟨λrow hr=>hfl.1 row (RV hr),λu hu=>hfl.2.1 u (RV hu),by rw[na _ _ hfl.1];exact hfl.2.2.take _⟩
        obtain⟨s2,m2,r2⟩:=vQ (aw0:=aw) (vx:=.slice A q cp) (old:=(xs.map en).take j.toNat) (rows:=[]) (news:=[]) s3 (λ_ h=>h.set_dead) hfl2 (λrow hr=>by simp at hr) .nil (λu hu=>by simp at hu) hown (World.grownBy.refl w _) (RJ _) (.inl (by cases A<;>rfl)) hfree;rw[SW]at r2;have e2:(xs.map en).take j.toNat++[]=((xs.take j.toNat).drop (Int.toNat 0)).map en:=by simp
        rw[e2]at s2 m2;exact⟨_,_,w,_,_,F,_,hrun,.inl J,s2,m2,r2,h⟩
    · cases hs')
end
end
section
open Go.RowKit
section
variable {P:Program} {N n:Nat} {aw aw':List Ob} {l:List (Nat×AV)} {σ:List Value} {w:World} {F:Nat→Prop}
structure IsV (σ:List Value) (id c lo n:Nat) (v:Value):Prop where
 out:∃(N C K:Nat) (A B:Option Addr),σ[id]?=some (.slice B N C)/\v=.slice A n K/\lo+n<=C/\(0<n->∃g,B=some ⟨g,0,none⟩/\A=some ⟨g,lo*c,none⟩)
structure Src (w:World) (c m:Nat) (flat:List Value) (v:Value):Prop where
 out:∃(A:Option Addr) (K:Nat),v=.slice A m K/\flat.length=m*c/\(A=none->flat=[])/\∀ad,A=some ad->∀j u,flat[j]?=some u->w.cell? (ad.add j)=some u
variable {e c lo m k:Nat}{rows news:U (U AV)}{v:Value}
theorem wa {id:Nat}(hs:Sim aw σ w F)(ho:aw[id]?=some (.arr e c rows)){A:QbQ Addr}{q cp:Nat}(hσ:σ[id]?=some (.slice A q cp)):q=rows.length/\q<=cp:=by
 obtain⟨flat,hown,_⟩:=hs.obj id _ _ ho hσ;rcases hown.2 with⟨h1,h2⟩|⟨g,cap,cur,h1,_,_,h2,_⟩
 all_goals grind
theorem oe {id:Nat}{cap:QbQ Nat}(h:Rel σ w F (.vw id c lo m cap) v):IsV σ id c lo m v:=by
 cases h with
 |vw _ _ _ _ N C _ A B h hn hA hc _=>exact⟨N,C,_,A,B,h,J,hn,hA⟩
theorem EB {id:Nat}(hs:Sim aw σ w F)(ho:aw[id]?=some (.arr e c rows))(h:Rel σ w F (.ref id) v):IsV σ id c 0 rows.length v:=by
 cases h with
 |ref _ A q cp hσ=>
  obtain⟨h1,h2⟩:=wa hs ho hσ;subst h1;obtain⟨_,flat,_,_,hc⟩:=hZ hs ho hσ;refine⟨_,cp,cp,A,A,hσ,J,by omega,λh0=>?_⟩;grind
theorem yH {id:Nat}(hs:Sim aw σ w F)(ho:aw[id]?=some (.arr e c rows))(hv:IsV σ id c lo m v)(hlo:lo+m<=rows.length):
  ∃flat,Src w c m flat v/\RelL σ w F ((rows.drop lo).take m).flatten flat/\(∀u,u∈flat->u.oneCell'=true)/\∀row,row∈rows->row.length=c:=by
 obtain⟨N0,C,K,A,B,hσ,rfl,hn,hA⟩:=hv.out
 obtain⟨h1,flat,hown,hfl,hc⟩:=hZ hs ho hσ
 have hfr:(((rows.drop lo).take m).flatten)=((rows.flatten.drop (lo*c)).take (m*c)):=by
  rw [na _ _ (λrow hr=>hfl.1 row (SB hr))];congr 1;have:∀(k:Nat) (l:U (U AV)),(∀row,row∈l->row.length=c)->(l.drop k).flatten=l.flatten.drop (k*c):=by
   intro k;induction k with
   |zero=>simp
   | succ k ih=>
    intro l hl;cases l with
    |nil=>simp
    |cons x l=>
     rw[List.drop_succ_cons,ih l (λrow hr=>hl row (RQ _ hr)),SE,SH,Tq,<- hl x RM,Tu (k*x.length),<- Te,Tl]
  exact this lo rows hfl.1
 refine⟨(flat.drop (lo*c)).take (m*c),⟨A,K,J,?_,λhA0=>?_,λad had j u hj=>?_⟩,?_,λu hu=>hfl.2.1 u (SB (RV hu)),hfl.1⟩
 .have h2:=hown.1
  have:lo*c+m*c<=N0*c:=by rw[<- SH];simp_all[R4]
  grind
 .simp_all
 .have hj':j<m*c:=by
   grind
  by_cases hm:m=0
  .grind
  .obtain⟨g,e1,e2⟩:=hA (by omega)
   rw[had]at e2;cases e2
   rcases hc with hc|⟨g',cur,e3,_⟩
   .grind
   .rw[e1]at e3;cases e3
    rw[e1]at hown
    rw[Sm,if_pos hj',Sz]at hj
    have:=hown.cells (g:=g) J (lo*c+j) u hj
    grind[Addr.add]
 .rw[hfr];exact hfl.2.2.sub _ _
theorem Qm (h:Rel σ w F (.sl rows) v)(hrow:∀row,row∈rows->row.length=c):
  ∃flat,Src w c rows.length flat v/\RelL σ w F rows.flatten flat/\(∀u,u∈flat->u.oneCell'=true):=by
 cases h with
 |slNil=>exact⟨[],⟨none,0,J,by simp,λ_=>J,λad h=>by cases h⟩,.nil,λu hu=>by simp at hu⟩
 | sl _ size ad cp u hF hn hm hr1 hone hcell hrel=>
  by_cases hne:rows=[]
  .subst hne
   exact⟨[],⟨some ad,cp,J,by simp,λ_=>J,λ_ _ j u hj=>by simp at hj⟩,.nil,λu hu=>by simp at hu⟩
  .have hsize:size=c:=by
    obtain⟨r,rs,rfl⟩:=List.exists_cons_of_ne_nil hne;simp_all
   subst hsize
   have hlen:rows.flatten.length=rows.length*size:=by
    have:∀l:U (U AV),(∀row,row∈l->row.length=size)->l.flatten.length=l.length*size:=by
     intro l;induction l with
     |nil=>simp
     |cons x l ih=>
      grind
    grind
   by_cases h0:size=0
   .subst h0
    refine⟨[],⟨some ad,cp,J,by simp,(λ_=>J),(λ_ _ j u hj=>by simp at hj)⟩,?_,λu hu=>by simp at hu⟩
    have:rows.flatten=[]:=RP (by omega)
    rw[this];exact .nil
   .have idx:∀k,k<rows.length*size->k/ size<rows.length/\k% size<size/\k/ size*size+k% size=k:=λk hk=>
     ⟨Tt (by grind),Nat.mod_lt _ (by omega),by simp[TC,Nat.div_add_mod]⟩
    have hget:∀(k:Nat) x,((List.range (rows.length*size)).map λk=>u (k/ size) (k% size))[k]?=some x->k<rows.length*size/\x=u (k/ size) (k% size):=λk x hx=>by grind
    refine⟨(List.range (rows.length*size)).map λk=>u (k/ size) (k% size),⟨some ad,cp,J,by simp,λh=>(by cases h),λad' e j x hj=>?_⟩,⟨by simp[hlen],λj x y hx hy=>?_⟩,λx hx=>?_⟩
    .grind
    .obtain⟨h1,rfl⟩:=hget j y hy
     obtain⟨h2,h3,h4⟩:=idx j h1
     have hf:=rR hr1 (j/ size) (j% size) rows[j/ size] (RG h2) h3
     grind
    grind
theorem xw {id:Nat}{B:QbQ Addr}{N0 C g:Nat}{vs:U Value}(hs:Sim aw σ w F)(ho:aw[id]?=some (.arr e c rows))(hσ:σ[id]?=some (.slice (some ⟨g,0,none⟩) N0 C))(hk:news.length=k)(hlo:lo+k<=rows.length)(hrow:∀row,row∈news->row.length=c)(hvl:vs.length=k*c)(hr:RelL σ w F news.flatten vs)(h1:∀u,u∈vs->u.oneCell'=true):
  ∃w',(storeCells ⟨g,lo*c,none⟩ vs).run P w=.ok () w'/\Sim (aw.set id (.arr e c (rows.take lo++news++rows.drop (lo+k)))) σ w' F/\Mv aw σ w F (aw.set id (.arr e c (rows.take lo++news++rows.drop (lo+k)))) σ w' F:=by
 obtain⟨hn,flat,hown,hfl,hc⟩:=hZ hs ho hσ
 have hdrop:∀(k:Nat) (l:U (U AV)),(∀row,row∈l->row.length=c)->(l.drop k).flatten=l.flatten.drop (k*c):=by
  intro k;induction k with
  |zero=>simp
  | succ k ih=>
   intro l hl;cases l with
   |nil=>simp
   |cons x l=>
    rw[List.drop_succ_cons,ih l (λrow hr=>hl row (RQ _ hr)),SE,SH,Tq,<- hl x RM,Tu (k*x.length),<- Te,Tl]
 rcases hc with hc|⟨g',cur,e1,hF,hg,hnc,h2,h3,h4⟩
 .subst hc
  have h0:k=0:=by grind
  have hl0:lo=0:=by grind
  subst h0 hl0
  have hv0:vs=[]:=RP (by omega)
  have hn0:news=[]:=RP hk
  subst hv0 hn0
  have hset:aw.set id (.arr e c (([]:U (U AV)).take 0++[]++([]:U (U AV)).drop (0+0)))=aw:=by grind[List.set_getElem_self]
  rw[hset]
  exact⟨w,by rfl,hs,.refl ..⟩
 .cases e1
  have hin:lo*c+k*c<=N0*c:=by rw[<- SH];simp_all[R4]
  have hcap:N0*c<=cur.size:=by simp_all[R4]
  have hst:=run_storeCells_at P g (lo*c) e vs 0 cur w hg (by omega) h1
  simp only[SY]at hst
  have hkk:∀b,b≠g->(w.setRow g (cur.toList.take (lo*c)++vs++cur.toList.drop (lo*c+vs.length)).toArray).heap[b]?=w.heap[b]?:=λb hb=>setRow_other w g b _ hb
  have hflat:flat.length=N0*c:=hown.1
  have hlen2:(rows.take lo++news++rows.drop (lo+k)).length=N0:=by simp;omega
  have hORel:ORel σ (w.setRow g (cur.toList.take (lo*c)++vs++cur.toList.drop (lo*c+vs.length)).toArray) F (.arr e c (rows.take lo++news++rows.drop (lo+k))) (.slice (some ⟨g,0,none⟩) N0 C):=by
   refine⟨flat.take (lo*c)++vs++flat.drop (lo*c+vs.length),⟨?_,.inr ⟨g,C,_,by rw[hlen2],Sb _,setRow_heap w g cur _ e (0,0) hg,by omega,h2,?_,?_⟩⟩,⟨λrow hr=>?_,λu hu=>?_,?_⟩,λg2 hg2=>?_,_,_,_,J⟩
   .grind
   .grind
   .rw[hlen2];simp only[List.toList_toArray];have h5:=AM cur.toList vs (lo*c) (N0*c) (by omega) (by omega);grind[dv]
   .rcases RY.1 hr with hr|hr
    .rcases RY.1 hr with hr|hr
     .exact hfl.1 row (RV hr)
     grind
    .exact hfl.1 row (SB hr)
   .rcases RY.1 hu with hu|hu
    .rcases RY.1 hu with hu|hu
     .exact hfl.2.1 u (RV hu)
     grind
    .exact hfl.2.1 u (SB hu)
   .rw[S7,S7,na _ _ hfl.1,hdrop _ _ hfl.1];rw[show lo*c+vs.length=(lo+k)*c from by grind]at hkk ⊢;have hd2:RelL σ w F (rows.flatten.drop ((lo+k)*c)) (flat.drop ((lo+k)*c)):=by
     refine⟨by simp[hfl.2.2.1],λj a v ha hv=>?_⟩;rw[Sz]at ha hv;exact hfl.2.2.2 _ a v ha hv
    exact(((hfl.2.2.take _).append hr).append hd2).mono (λ_ _ e=>e) (λ_ e=>e) (λb hb=>hkk b (λe=>hF (e▸hb)))
   grind[Value.ownBlock]
  exact⟨_,hst,hs.write (b0:=g) id ho J hσ J hkk (by simp) _ hORel (λ_ h=>h),Mv.write (w:=w) (w':=w.setRow g _) (F:=F) (b0:=g) id ho J hσ J J J drO hkk (by simp) _ (λ_ h=>h)⟩
theorem M1 {t ts ty id:Nat}{vd vs:Value}{flat:U Value}(hu:P.underlying t=some (.slice e))(hc:P.cellsOf e=c)(hsm:(P.underlying e).isSome=true)(hs:Sim aw σ w F)(ho:aw[id]?=some (.arr e c rows))(hd:IsV σ id c lo m vd)(hsrc:Src w c news.length flat vs)(hr:RelL σ w F news.flatten flat)(h1:∀u,u∈flat->u.oneCell'=true)(hrow:∀row,row∈news->row.length=c)(hk:min m news.length=k)(hlo:lo+k<=rows.length):
  ∃w',(Builtin.copy_ #[t,ts] ty #[vd,vs]).run P w=.ok (goInt k) w'/\Sim (aw.set id (.arr e c (rows.take lo++news.take k++rows.drop (lo+k)))) σ w' F/\Mv aw σ w F (aw.set id (.arr e c (rows.take lo++news.take k++rows.drop (lo+k)))) σ w' F:=by
 obtain⟨N0,C,K,A,B,hσ,rfl,hn,hA⟩:=hd.out
 obtain⟨A2,K2,rfl,hfl,hnone,hcell⟩:=hsrc.out
 obtain⟨ds,hds⟩:=R0.1 hsm
 have hmin:Nat.min news.length m=k:=by grind
 have htk:k*c<=flat.length:=by rw[hfl];exact R4 _ (by omega)
 have hfirst:(Builtin.firstCells c k (.slice A2 news.length K2)).run P w=.ok (flat.take (k*c)).toArray w:=by
  cases A2 with
  |none=>simp_all[Builtin.firstCells]
  |some ad=>grind[run_firstCells_some]
 have hsz:=eo hds
 rw[hc]at hsz
 have hset:aw.set id (.arr e c (rows.take lo++([]:U (U AV))++rows.drop (lo+0)))=aw:=by obtain⟨hlt,hvs⟩:=RH.1 ho;have:aw.set id aw[id]=aw:=Sp hlt;simp_all
 by_cases h0:k=0
 .subst h0
  simp only[List.take_zero]
  rw[hset]
  refine⟨w,?_,hs,.refl ..⟩
  have he:(flat.take (0*c)).toArray=#[]:=by simp
  rw[he]at hfirst
  cases A with
  |none=>simp_all[Builtin.copy_,run_underlying,Builtin.lenOf]
  |some a=>simp[Builtin.copy_,Sem.run_bind,run_underlying hu,Builtin.lenOf,hmin,hsz,hfirst,storeCells]
 .obtain⟨g,rfl,rfl⟩:=hA (by omega)
  have hrt:RelL σ w F (news.take k).flatten (flat.take (k*c)):=by rw[na _ _ hrow];exact hr.take _
  obtain⟨w',hst,s2,m2⟩:=xw (P:=P) (B:=none) (news:=news.take k) (vs:=flat.take (k*c)) (lo:=lo) (k:=k) hs ho hσ (by simp;omega) hlo (λrow hr=>hrow row (RV hr)) (by grind) hrt (λu hu=>h1 u (RV hu))
  simp_all[Builtin.copy_,run_underlying,Builtin.lenOf]
variable {d:Option Tmp} {ty:TypeId} {ps:String} {af:Array Edge} {g:Option (Nat×Bool)} {K2:AV→List Ob→Prop} {α:Type} {en:α→List AV} {xs ys:List α}
theorem qe (lo:QbQ Operand):lo.map (ev (mkA n l))=lo.map (evA n l):=by cases lo<;>simp[aF]
variable {t ts:Nat}{x y:Operand}{u:Unit}{cap:QbQ Nat}
theorem iV {t:TypeId}{lo hi:QbQ Operand}{id:Nat}{i j:Int}{k k':IntKind}(hS:SliceOf P t e c)(hx:evA n l x=.ref id)(ho:aw[id]?=some (.arr e c (xs.map en)))(hl:(lo.map (evA n l)).getD (.int .i64 0)=.int k i)(hh:(hi.map (evA n l)).getD (.int .i64 xs.length)=.int k' j)(hv:vwok xs.length i j=some u)(h:K2 (.vw id c i.toNat (j.toNat- i.toNat) none) aw):
    OP P N ⟨d,.slice t x lo hi none,ty,ps,af,g⟩ (mkA n l) aw K2:=
  TP (fun σ w F a har hs=>by
    unfold vwok at hv;split at hv
    · rename_i hc;have ex:=har.ev x;rw[aF,hx]at ex;generalize hvx:a.eval x=vx at ex;cases ex with
      | ref _ A q cp hσ=>
        obtain⟨h1,h2⟩:=wa hs ho hσ;rw[RZ]at h1;subst h1;obtain⟨ds,hd⟩:=R0.1 hS.s;have hsz:=eo hd;rw[hS.c]at hsz;have b:=λw'=>ny (P:=P) har (lo:=lo) (hi:=hi) (b:=true) (len:=xs.length) (cap:=cp) (by rw[qe];exact hl) (by rw[qe];exact hh) hc.1 hc.2.1 hc.2.2 h2 w'
        have hfm:∃g,xs≠[]->A=some ⟨g,0,none⟩:=by
          obtain⟨_,_,_,_,hc2⟩:=hZ hs ho hσ;rcases hc2 with hc2|⟨g,cur,e1,_⟩
          · simp_all
          grind
        obtain⟨g0,hg0⟩:=hfm;refine⟨.slice (if cp=i.toNat then A else A.map (·.add (i.toNat*c))) (j.toNat- i.toNat) (cp- i.toNat),_,w,aw,σ,F,_,?_,.inl J,hs,.refl ..,?_,h⟩
        · simp[execOp,hvx,Instr.sliceAt,Instr.slice,Sem.run_bind,run_underlying hS.u,b,hsz]
        · refine .vw id c _ _ _ cp none _ A hσ (by omega) (λhpos=>?_) (λk hk=>by cases hk) ?_
          · have hne:xs≠[]:=by grind
            refine⟨g0,hg0 hne,?_⟩;have:¬cp=i.toNat:=by omega
            simp_all[f8]
          · intro h0;rw[h0];simp[Addr.add]
    · cases hv)
theorem uU {id:Nat}{ax ay:AV}(hS:SliceOf P t e c)(hx:evA n l x=ax)(hy:evA n l y=ay)(ho:aw[id]?=some (.arr e c rows))(hd:∀σ w F v,Sim aw σ w F->Rel σ w F ax v->IsV σ id c lo m v)(hsrc:∀σ w F v,Sim aw σ w F->Rel σ w F ay v->∃flat,Src w c news.length flat v/\RelL σ w F news.flatten flat/\(∀u,u∈flat->u.oneCell'=true))(hrow:∀row,row∈news->row.length=c)(hk:min m news.length=k)(hlo:lo+k<=rows.length)(ha:aw.set id (.arr e c (rows.take lo++news.take k++rows.drop (lo+k)))=aw')(h:K2 (.int .i64 k) aw'):
  OP P N ⟨d,.call ⟨.builtin .copy,#[x,y],#[t,ts]⟩,ty,ps,af,g⟩ (mkA n l) aw K2:=
 TP (λσ w F a har hs=>by subst ha;have ex:=har.ev x;have ey:=har.ev y;rw[aF,hx]at ex;rw[aF,hy]at ey;obtain⟨flat,h1,h2,h3⟩:=hsrc σ w F _ hs ey;obtain⟨w',hrun,s2,m2⟩:=M1 (P:=P) (t:=t) (ts:=ts) (ty:=ty) hS.u hS.c hS.s hs ho (hd σ w F _ hs ex) h1 h2 h3 hrow hk hlo;refine⟨goInt k,_,w',_,σ,F,_,?_,.inl J,s2,m2,.int _ _,h⟩;simp_all[execOp,resolve,invoke,builtin])
theorem vZ (lo m:Nat):(cpy xs lo m ys).map en=(xs.map en).take lo++(ys.map en).take (min m ys.length)++(xs.map en).drop (lo+min m ys.length):=by simp[cpy]
theorem Ll {id:Nat}(hS:SliceOf P t e c)(hen:∀a,(en a).length=c)(hx:evA n l x=.ref id)(hy:evA n l y=.sl (ys.map en))(ho:aw[id]?=some (.arr e c (xs.map en)))(ha:aw.set id (.arr e c ((cpy xs 0 xs.length ys).map en))=aw')(h:K2 (.int .i64 (min xs.length ys.length:Nat)) aw'):OP P N ⟨d,.call ⟨.builtin .copy,#[x,y],#[t,ts]⟩,ty,ps,af,g⟩ (mkA n l) aw K2:=by
 have hrow:∀row,row∈ys.map en->row.length=c:=λrow hr=>by grind
 rw[vZ]at ha
 exact uU (lo:=0) (m:=xs.length) (news:=ys.map en) (k:=min xs.length ys.length) hS hx hy ho (λσ w F v hs hr=>by grind[EB,List.length_map]) (λσ w F v _ hr=>Qm hr hrow) hrow (by simp) (by simp;omega) ha h
theorem K4 {id lo2 m2:Nat}{cap2:QbQ Nat}{u2:Unit}(hS:SliceOf P t e c)(hen:∀a,(en a).length=c)(hx:evA n l x=.vw id c lo m cap)(hy:evA n l y=.vw id c lo2 m2 cap2)(ho:aw[id]?=some (.arr e c (xs.map en)))(hv:vwok xs.length lo ((lo:Int)+m)=some u)(hv2:vwok xs.length lo2 ((lo2:Int)+m2)=some u2)(ha:aw.set id (.arr e c ((cpy xs lo m ((xs.drop lo2).take m2)).map en))=aw')(h:K2 (.int .i64 (min m m2:Nat)) aw'):OP P N ⟨d,.call ⟨.builtin .copy,#[x,y],#[t,ts]⟩,ty,ps,af,g⟩ (mkA n l) aw K2:=by
 unfold vwok at hv hv2
 split at hv<;>split at hv2
 .rename_i hc hc2
  have hl2:((xs.drop lo2).take m2).length=m2:=by grind
  have hrow:∀row,row∈((xs.drop lo2).take m2).map en->row.length=c:=λrow hr=>by grind
  rw[vZ,hl2]at ha
  refine uU (news:=((xs.drop lo2).take m2).map en) (k:=min m m2) hS hx hy ho (λσ w F v _ hr=>oe hr) (λσ w F v hs hr=>?_) hrow (by grind) (by simp;omega) ha h
  obtain⟨flat,h1,h2,h3,_⟩:=yH hs ho (oe hr) (by simp;omega)
  grind[List.map_drop,List.map_take]
 all_goals grind
theorem Jr {id:Nat}{z0:α}(hS:SliceOf P t e c)(hz:bu P e=some (en z0))(hen:∀a,(en a).length=c)(hx:evA n l x=.vw id c lo m cap)(ho:aw[id]?=some (.arr e c (xs.map en)))(hv:vwok xs.length lo ((lo:Int)+m)=some u)(ha:aw.set id (.arr e c ((clr xs lo m z0).map en))=aw')(h:K2 (.tup []) aw'):OP P N ⟨d,.call ⟨.builtin .clear,#[x],#[t]⟩,ty,ps,af,g⟩ (mkA n l) aw K2:=
 TP (λσ w F a har hs=>by
  subst ha;unfold vwok at hv;split at hv
  .rename_i hc;have ex:=har.ev x;rw[aF,hx]at ex;obtain⟨N0,C,K,A,B,hσ,hval,hn,hA⟩:=(oe ex).out;obtain⟨i,zv,hi,hiz,hzl,hz1,hzr⟩:=lW hz;have hrel:=sF (hzr σ w F) (by rw[hen];exact hS.p) m;have hcm:(clr xs lo m z0).map en=(xs.map en).take lo++List.replicate m (en z0)++(xs.map en).drop (lo+m):=by
    simp[clr]
   rw[hcm]at h;by_cases h0:m=0
   .subst h0;have hset:aw.set id (.arr e c ((xs.map en).take lo++List.replicate 0 (en z0)++(xs.map en).drop (lo+0)))=aw:=by
     obtain⟨hlt,hvs⟩:=RH.1 ho;have:aw.set id aw[id]=aw:=Sp hlt;simp_all
    rw[hset]at h;refine⟨.tuple #[],_,w,aw,σ,F,_,?_,.inl J,hs,.refl ..,iz,h⟩;cases A<;>simp[execOp,resolve,invoke,builtin,Sem.run_bind,hval,Builtin.clear_,run_underlying hS.u]
   .obtain⟨g0,rfl,rfl⟩:=hA (by omega);have hzs:zv.cells.size=c:=by grind
    have hcells:(Builtin.zeroCells zv.cells m).toList=(madeCells zv.cells (m*c)).toList:=by grind[Builtin.zeroCells,madeCells]
    rw[hen]at hrel;obtain⟨w',hst,s2,m2⟩:=xw (P:=P) (B:=none) (news:=List.replicate m (en z0)) (vs:=(Builtin.zeroCells zv.cells m).toList) (lo:=lo) (k:=m) hs ho hσ (by simp) (by simp;omega) (λrow hr=>by grind) (by grind[size_zeroCells]) (by grind) (λu hu=>by rw[hcells]at hu;exact sH hz1 (by rw[hzs];exact hS.p) _ u hu);refine⟨.tuple #[],_,w',_,σ,F,_,?_,.inl J,s2,m2,iz,h⟩;have hzr':=rA (P:=P) hi hiz w;have hm0:m≠0:=h0;cases m with
    |zero=>omega
    |succ m=>simp[execOp,resolve,invoke,builtin,Sem.run_bind,hval,Builtin.clear_,run_underlying hS.u,hzr',hst]
  .cases hv)
theorem CR {id:Nat}(hS:SliceOf P t e c)(hx:evA n l x=.vw id c lo m cap)(h:K2 (.int .i64 m) aw):OP P N ⟨d,.call ⟨.builtin .len,#[x],#[t]⟩,ty,ps,af,g⟩ (mkA n l) aw K2:=
 TP (λσ w F a har hs=>by
  have ex:=har.ev x;rw[aF,hx]at ex;generalize hvx:a.eval x=vx at ex;cases ex with
  |vw _ _ _ _ N0 C _ A B hσ hn hA hc _=>
   refine⟨.int .i64 m,_,w,aw,σ,F,_,?_,.inl J,hs,.refl ..,.int _ _,h⟩;simp[execOp,resolve,invoke,builtin,Sem.run_bind,hvx,Builtin.len_,run_underlying hS.u,goInt])
theorem rn_vw {ρ:U Nat}{id lo' m':Nat}(h:ρ[k]?=some id)(h1:lo=lo')(h2:m=m'):Ren ρ (.vw k c lo m cap) (.vw id c lo' m' cap):=λσ w F v hr σ' hσ=>by
 subst h1 h2;cases hr with
 |vw _ _ _ _ N0 C _ A B hg hn hA hc hz=>exact .vw k c lo m N0 C cap A B (by grind) hn hA hc hz
end
end
end Go.Proofs.YtfglbbhdfgjheaaGreatDoor
