/-
  Part 3 of the proof of saveBytesLaw.proved: the code computes these functions, and the law holds of them, with no condition beyond the statement's own; put together by a program of ours (wip/decl.py) out of texts of ours.
-/
import Derived.Test.YtchmpaaofmihcaaGreatZSaveBytes2
namespace Go.Proofs.YtchmpaaofmihcaaGreat
open Go.RowKit
set_option linter.unusedVariables false
set_option linter.unusedSimpArgs false
inductive TI where
 | no
 | s0
 | sc (z:AV)
 | it (k:IntKind)
 | bo
 | str
 | sl (e c:Nat)
 | ag (z:List AV) (m:Nat) (fs:List (Nat × Nat × Nat))
 | ar (z:List AV) (m:Nat)
inductive TT where
 | l (t:Nat) (i:TI)
 | n (k:Nat) (a b:TT)
def TT.get:TT→Nat→TI
 | .l t i,u=>match Nat.beq t u with
  | true=>i
  | false=>.no
 | .n k a b,u=>match Nat.blt u k with
  | true=>a.get u
  | false=>b.get u
def TI.zero:TI→Option (List AV)
 | .sc z=>some [z]
 | .it k=>some [.int k 0]
 | .bo=>some [.bool false]
 | .str=>some [.str []]
 | .sl _ _=>some [.nils]
 | .ag z _ _=>some z
 | .ar z _=>some z
 | _=>none
def TI.size:TI→Option Nat
 | .no=>none
 | .ag _ m _=>some m
 | .ar _ m=>some m
 | _=>some 1
def TOne (P:Program) (t:Nat):Prop:=kindT P t=some false∧P.cellsOf t=1∧(P.underlying t).isSome=true
def FsOk (P:Program) (t:Nat):Nat→List (Nat × Nat × Nat)→Prop
 | _,[]=>True
 | k,(o,_,ft)::r=>FieldAt P t k ft o∧FsOk P t (k+1) r
def TAgg (P:Program) (t:Nat) (z:List AV) (m:Nat):Prop:=kindT P t=some true∧P.cellsOf t=m∧(P.underlying t).isSome=true∧Jja P t=some z∧z.length=m
def TOk (P:Program) (t:Nat):TI→Prop
 | .no=>True
 | .s0=>TOne P t
 | .sc z=>TOne P t∧Jja P t=some [z]
 | .it k=>TOne P t∧Jja P t=some [.int k 0]∧P.underlying t=some (.int k)
 | .bo=>TOne P t∧Jja P t=some [.bool false]∧P.underlying t=some .bool
 | .str=>TOne P t∧Jja P t=some [.str []]∧P.underlying t=some .string
 | .sl e c=>TOne P t∧Jja P t=some [.nils]∧SliceOf P t e c
 | .ag z m fs=>TAgg P t z m∧Vha P t=some (fs.map fun q=>(q.1,q.2.1))∧FsOk P t 0 fs
 | .ar z m=>TAgg P t z m
def TT.Ok (P:Program):TT→Prop
 | .l t i=>TOk P t i
 | .n _ a b=>a.Ok P∧b.Ok P
section
variable {P:Program} {N n:Nat} {aw aw':List Ob} {l:List (Nat × AV)} {tt:TT}
theorem TT.get_ok:∀ {tt:TT},tt.Ok P→∀ u,TOk P u (tt.get u)
 | .l t i,h,u=>by
  show TOk P u (match Nat.beq t u with | true=>i | false=>.no)
  cases hb:Nat.beq t u
  ·trivial
  ·have:=Nat.eq_of_beq_eq_true hb;subst this;exact h
 | .n k a b,h,u=>by
  show TOk P u (match Nat.blt u k with | true=>a.get u | false=>b.get u)
  cases Nat.blt u k
  ·exact TT.get_ok h.2 u
  ·exact TT.get_ok h.1 u
theorem TI.zero_ok {t:Nat} {i:TI} {z:List AV} (h:TOk P t i) (hz:i.zero=some z):Jja P t=some z:=by
 cases i<;>simp only [TI.zero] at hz<;>first | (cases hz;done) | (cases hz;first | exact h.2 | exact h.2.1 | exact h.1.2.2.2.1 | exact h.2.2.2.1)
theorem TI.size_ok {t m:Nat} {i:TI} (h:TOk P t i) (hm:i.size=some m):P.cellsOf t=m∧(P.underlying t).isSome=true:=by
 cases i<;>simp only [TI.size] at hm<;>first | (cases hm;done) | (cases hm;first | exact ⟨h.2.1,h.2.2⟩ | exact ⟨h.1.2.1,h.1.2.2.1⟩ | exact ⟨h.1.2.1,h.1.2.2⟩ | exact ⟨h.2.1,h.2.2.1⟩)
theorem Jpf {t:Nat}:∀ {fs:List (Nat × Nat × Nat)} {k i:Nat} {q:Nat × Nat × Nat},FsOk P t k fs→fs[i]?=some q→FieldAt P t (k+i) q.2.2 q.1
 | q'::r,k,0,q,h,e=>by simp at e;subst e;exact h.1
 | q'::r,k,i+1,q,h,e=>by
  have:=Jpf (k:=k+1) (i:=i) h.2 (by simpa using e)
  rwa [show k+1+i=k+(i+1) by omega] at this
 | [],k,i,q,h,e=>by simp at e
section
variable {α:Type}
def getC:List α→Nat→(α→Prop)→Prop
 | [],_,_=>False
 | a::l,k,K=>match k with
  | 0=>K a
  | k+1=>getC l k K
def setC:List α→Nat→α→(List α→Prop)→Prop
 | [],_,_,_=>False
 | a::l,k,b,K=>match k with
  | 0=>K (b::l)
  | k+1=>setC l k b fun l=>K (a::l)
def pushC:List α→α→(List α→Prop)→Prop
 | [],b,K=>K [b]
 | a::l,b,K=>pushC l b fun l=>K (a::l)
def lenC:List α→Nat→Prop→Prop
 | [],k,K=>match k with
  | 0=>K
  | _+1=>False
 | _::l,k,K=>match k with
  | 0=>False
  | k+1=>lenC l k K
def dropC:List α→Nat→(List α→Prop)→Prop
 | l,0,K=>K l
 | [],_+1,_=>False
 | _::l,k+1,K=>dropC l k K
def takeC:List α→Nat→(List α→Prop)→Prop
 | _,0,K=>K []
 | [],_+1,_=>False
 | a::l,k+1,K=>takeC l k fun l=>K (a::l)
def overC:List α→List α→(List α→Prop)→Prop
 | l,[],K=>K l
 | [],_::_,_=>False
 | _::l,b::bs,K=>overC l bs fun l=>K (b::l)
def splC:List α→Nat→List α→(List α→Prop)→Prop
 | l,0,bs,K=>overC l bs K
 | [],_+1,_,_=>False
 | a::l,k+1,bs,K=>splC l k bs fun l=>K (a::l)
def lenB:List α→Nat→Bool
 | [],k=>(match k with
  | 0=>true
  | _+1=>false)
 | _::l,k=>(match k with
  | 0=>false
  | k+1=>lenB l k)
def sameB:List α→List α→Bool
 | [],[]=>true
 | _::l,_::m=>sameB l m
 | _,_=>false
def aggC (row:List α) (off m:Nat) (K:List α→Prop):Prop :=
 match off with
 | 0=>(match lenB row m with
  | true=>K row
  | false=>takeC row m K)
 | off=>dropC row off fun r=>takeC r m K
def putC (l:List α) (off:Nat) (bs:List α) (K:List α→Prop):Prop :=
 match off with
 | 0=>(match sameB l bs with
  | true=>K bs
  | false=>splC l 0 bs K)
 | off=>splC l off bs K
theorem Yue:∀ {l:List α} {k:Nat},lenB l k=true→l.length=k
 | [],0,_=>rfl
 | [],_+1,h=>by cases h
 | _::_,0,h=>by cases h
 | _::l,k+1,h=>by have:=Yue (l:=l) (k:=k) h;simp [this]
theorem Zee:∀ {l m:List α},sameB l m=true→l.length=m.length
 | [],[],_=>rfl
 | [],_::_,h=>by cases h
 | _::_,[],h=>by cases h
 | _::l,_::m,h=>by have:=Zee (l:=l) (m:=m) h;simp [this]
theorem Vua:∀ {l:List α} {k:Nat} {K:α→Prop},getC l k K→∃ a,l[k]?=some a∧K a
 | [],_,_,h=>h.elim
 | a::l,0,K,h=>⟨a,rfl,h⟩
 | a::l,k+1,K,h=>by obtain ⟨b,h1,h2⟩:=Vua (l:=l) (k:=k) (K:=K) h;exact ⟨b,by simpa using h1,h2⟩
theorem Y2c:∀ {l:List α} {k:Nat} {b:α} {K:List α→Prop},setC l k b K→K (l.set k b)
 | [],_,_,_,h=>h.elim
 | a::l,0,b,K,h=>h
 | a::l,k+1,b,K,h=>Y2c (l:=l) (k:=k) (K:=fun l=>K (a::l)) h
theorem Vlc:∀ {l:List α} {b:α} {K:List α→Prop},pushC l b K→K (l++[b])
 | [],_,_,h=>h
 | a::l,b,K,h=>Vlc (l:=l) (K:=fun l=>K (a::l)) h
theorem Zid:∀ {l:List α} {k:Nat} {K:Prop},lenC l k K→l.length=k∧K
 | [],0,K,h=>⟨rfl,h⟩
 | [],_+1,_,h=>h.elim
 | _::_,0,_,h=>h.elim
 | _::l,k+1,K,h=>by have:=Zid (l:=l) (k:=k) (K:=K) h;exact ⟨by simp [this.1],this.2⟩
theorem Jre:∀ {l:List α} {k:Nat} {K:List α→Prop},dropC l k K→k≤l.length∧K (l.drop k)
 | l,0,K,h=>⟨Nat.zero_le _,by cases l<;>exact h⟩
 | [],_+1,_,h=>h.elim
 | _::l,k+1,K,h=>by have:=Jre (l:=l) (k:=k) (K:=K) h;exact ⟨by simp [this.1],by simpa using this.2⟩
theorem Z5d:∀ {l:List α} {k:Nat} {K:List α→Prop},takeC l k K→k≤l.length∧K (l.take k)
 | l,0,K,h=>⟨Nat.zero_le _,by cases l<;>exact h⟩
 | [],_+1,_,h=>h.elim
 | a::l,k+1,K,h=>by have:=Z5d (l:=l) (k:=k) (K:=fun l=>K (a::l)) h;exact ⟨by simp [this.1],by simpa using this.2⟩
theorem Z0e:∀ {l bs:List α} {K:List α→Prop},overC l bs K→bs.length≤l.length∧K (bs++l.drop bs.length)
 | l,[],K,h=>⟨Nat.zero_le _,by cases l<;>exact h⟩
 | [],_::_,_,h=>h.elim
 | _::l,b::bs,K,h=>by have:=Z0e (l:=l) (bs:=bs) (K:=fun l=>K (b::l)) h;exact ⟨by simp [this.1],by simpa using this.2⟩
theorem Zkd:∀ {l:List α} {k:Nat} {bs:List α} {K:List α→Prop},splC l k bs K→k+bs.length≤l.length∧K (l.take k++bs++l.drop (k+bs.length))
 | l,0,bs,K,h=>by have:=Z0e (l:=l) (bs:=bs) (K:=K) (by cases l<;>exact h);exact ⟨by omega,by simpa using this.2⟩
 | [],_+1,_,_,h=>h.elim
 | a::l,k+1,bs,K,h=>by
  have:=Zkd (l:=l) (k:=k) (bs:=bs) (K:=fun l=>K (a::l)) h
  refine ⟨by simp;omega,?_⟩
  rw [show k+1+bs.length=(k+bs.length)+1 by omega]
  simpa using this.2
theorem Qxf {row:List α} {off m:Nat} {K:List α→Prop} (h:aggC row off m K):off+m≤row.length∧K ((row.drop off).take m):=by
 have key:∀ {o:Nat},(dropC row o fun r=>takeC r m K)→o+m≤row.length∧K ((row.drop o).take m):=fun {o} h=>by
  obtain ⟨h1,h2⟩:=Jre h
  obtain ⟨h3,h4⟩:=Z5d h2
  exact ⟨by rw [List.length_drop] at h3;omega,h4⟩
 unfold aggC at h
 split at h
 ·split at h
  ·rename_i hb
   have:=Yue hb
   subst this
   exact ⟨by omega,by simpa using h⟩
  ·obtain ⟨h3,h4⟩:=Z5d h
   exact ⟨by omega,by simpa using h4⟩
 ·exact key h
theorem putC_ok {l:List α} {k:Nat} {bs:List α} {K:List α→Prop} (h:putC l k bs K):k+bs.length≤l.length∧K (l.take k++bs++l.drop (k+bs.length)):=by
 unfold putC at h
 split at h
 ·split at h
  ·rename_i hb
   have:=Zee hb
   exact ⟨by omega,by rw [Nat.zero_add,← this];simpa using h⟩
  ·exact Zkd h
 ·exact Zkd h
end
def fA (a:AV) (K:AV→Prop):Prop :=
 match a with
 | .any=>K .any
 | .int k n=>K (.int k n)
 | .bool b=>K (.bool b)
 | .str s=>K (.str s)
 | .agg cs=>K (.agg cs)
 | .tup vs=>K (.tup vs)
 | .nils=>K .nils
 | .sl rows=>K (.sl rows)
 | .ref id=>K (.ref id)
 | .ptr id off=>K (.ptr id off)
 | .elt row off=>K (.elt row off)
 | .aptr id size i off=>K (.aptr id size i off)
 | .func f caps=>K (.func f caps)
 | .nilf=>K .nilf
 | .nilp=>K .nilp
 | .nili=>K .nili
 | .mpr id=>K (.mpr id)
 | .np id=>K (.np id)
 | .ifc t a=>K (.ifc t a)
 | .cst v=>K (.cst v)
 | .vw id size lo n cap=>K (.vw id size lo n cap)
 | .ref2 id=>K (.ref2 id)
 | .aptr2 id i=>K (.aptr2 id i)
 | .iref id i=>K (.iref id i)
 | .bnd f cs=>K (.bnd f cs)
theorem fA_ok {a:AV} {K:AV→Prop} (h:fA a K):K a:=by cases a<;>exact h
def Vcd (a:AV) (K:List AV→Prop):Prop :=
 match a with
 | .any | .tup _ | .cst _=>False
 | .agg cs=>K cs
 | a=>fA a fun a=>K [a]
theorem Qhd {a:AV} {K:List AV→Prop} (h:Vcd a K):∃ cs,a.cells=some cs∧K cs:=by
 cases a<;>first | exact h.elim | exact ⟨_,rfl,h⟩
def evsC (n:Nat) (l:List (Nat × AV)):List Operand→(List AV→Prop)→Prop
 | [],K=>K []
 | x::xs,K=>fA (evA n l x) fun a=>evsC n l xs fun as₀=>K (a::as₀)
theorem Q1e:∀ {xs:List Operand} {K:List AV→Prop},evsC n l xs K→K (xs.map (evA n l))
 | [],K,h=>h
 | x::xs,K,h=>Q1e (xs:=xs) (K:=fun as₀=>K (evA n l x::as₀)) (fA_ok (a:=evA n l x) (K:=fun a=>evsC n l xs fun as₀=>K (a::as₀)) h)
def ikN:IntKind→Nat
 | .i8=>0
 | .i16=>1
 | .i32=>2
 | .i64=>3
 | .u8=>4
 | .u16=>5
 | .u32=>6
 | .u64=>7
theorem Vrf {a b:IntKind} (h:Nat.beq (ikN a) (ikN b)=true):a=b:=by cases a<;>cases b<;>first | rfl | cases h
def wLd (i:TI) (row:List AV) (off:Nat) (K:AV→Prop):Prop :=
 match i with
 | .no=>False
 | .ag _ m _=>aggC row off m fun cs=>K (.agg cs)
 | .ar _ m=>aggC row off m fun cs=>K (.agg cs)
 | _=>getC row off fun c=>fA c K
theorem ldA {t m:Nat} {row:List AV} {off:Nat} {K:AV→Prop} (hk:kindT P t=some true) (hm:P.cellsOf t=m) (h:aggC row off m fun cs=>K (.agg cs)):Via P t row off K:=by
 obtain ⟨h1,h2⟩:=Qxf h
 simp only [Via,hk,hm]
 exact ⟨h1,h2⟩
theorem ld1 {t:Nat} {row:List AV} {off:Nat} {K:AV→Prop} (hk:kindT P t=some false) (h:getC row off fun c=>fA c K):Via P t row off K:=by
 obtain ⟨c,h1,h2⟩:=Vua h
 exact Qra hk h1 (fA_ok h2)
theorem Qcf {t:Nat} {i:TI} {row:List AV} {off:Nat} {K:AV→Prop} (ht:TOk P t i) (h:wLd i row off K):Via P t row off K:=by
 cases i with
 | no=>exact h.elim
 | ag z m fs=>exact ldA ht.1.1 ht.1.2.1 h
 | ar z m=>exact ldA ht.1 ht.2.1 h
 | s0=>exact ld1 ht.1 h
 | _=>exact ld1 ht.1.1 h
def wBin (tt:TT) (op:BinOp) (t:Nat) (a b:AV) (K:AV→Prop):Prop :=
 match a,b with
 | .int k x,.int k' y=>(match Nat.beq (ikN k) (ikN k') with
  | true=>(match op with
   | .add=>K (.int k (k.wrap (x+y)))
   | .sub=>K (.int k (k.wrap (x - y)))
   | .mul=>K (.int k (k.wrap (x*y)))
   | .and=>K (.int k (intBits .and k x y))
   | .or=>K (.int k (intBits .or k x y))
   | .xor=>K (.int k (intBits .xor k x y))
   | .eql=>K (.bool (x==y))
   | .neq=>K (.bool (x != y))
   | .lss=>K (.bool (decide (x<y)))
   | .leq=>K (.bool (decide (x≤y)))
   | .gtr=>K (.bool (decide (x > y)))
   | .geq=>K (.bool (decide (x ≥ y)))
   | _=>False)
  | false=>False)
 | .str x,.str y=>(match op with
  | .eql=>K (.bool (x==y))
  | .neq=>K (.bool (!(x==y)))
  | _=>False)
 | .bool x,.bool y=>(match tt.get t with
  | .bo=>(match op with
   | .eql=>K (.bool (x==y))
   | .neq=>K (.bool (!(x==y)))
   | _=>False)
  | _=>False)
 | _,_=>False
theorem wBin_ok {op:BinOp} {t:Nat} {a b:AV} {K:AV→Prop} (ht:tt.Ok P) (h:wBin tt op t a b K):vcBin P op t a b K:=by
 unfold wBin at h
 split at h
 ·split at h
  ·rename_i hk
   have:=Vrf hk
   subst this
   split at h<;>first | exact ⟨trivial,h⟩ | exact ⟨rfl,h⟩ | exact h.elim
  ·exact h.elim
 ·split at h<;>first | exact h.elim | exact h
 ·split at h
  ·rename_i hb
   have hu:=TT.get_ok ht t
   rw [hb] at hu
   have hu:=hu.2.2
   split at h<;>first | exact h.elim | (simp only [vcBin,hu];exact h)
  ·exact h.elim
 ·exact h.elim
def fillC (n:Nat) (l:List (Nat × AV)) (fs:List (Nat × Nat × Nat)):List AV→List (Nat × Operand)→(List AV→Prop)→Prop
 | cells,[],K=>K cells
 | cells,(i,x)::ps,K=>getC fs i fun (o,sz,_)=>Vcd (evA n l x) fun vs=>lenC vs sz (splC cells o vs fun cs=>fillC n l fs cs ps K)
theorem Zse {fs:List (Nat × Nat × Nat)}:∀ {ps:List (Nat × Operand)} {cells:List AV} {K:List AV→Prop},fillC n l fs cells ps K →
  ∃ cs,Jpc (fun i=>(fs.map fun q=>(q.1,q.2.1))[i]?) cells (ps.map fun p=>(p.1,evA n l p.2))=some cs∧K cs
 | [],cells,K,h=>⟨cells,rfl,by cases cells<;>exact h⟩
 | (i,x)::ps,cells,K,h=>by
  have h:getC fs i fun q=>Vcd (evA n l x) fun vs=>lenC vs q.2.1 (splC cells q.1 vs fun cs=>fillC n l fs cs ps K):=by cases cells<;>exact h
  obtain ⟨q,h1,h⟩:=Vua h
  obtain ⟨vs,h2,h⟩:=Qhd h
  obtain ⟨h3,h⟩:=Zid h
  obtain ⟨h4,h⟩:=Zkd h
  obtain ⟨cs,h5,h6⟩:=Zse h
  refine ⟨cs,?_,h6⟩
  show Jpc _ cells ((i,evA n l x)::ps.map fun p=>(p.1,evA n l p.2))=_
  have e1:(fs.map fun q=>(q.1,q.2.1))[i]?=some (q.1,q.2.1):=by rw [List.getElem?_map,h1];rfl
  unfold Jpc
  simp only [e1,h2]
  rw [if_pos ⟨h3,by omega⟩]
  exact h5
def wB (tt:TT) (n:Nat) (l:List (Nat × AV)) (b:Builtin) (args:List Operand) (ats:List TypeId) (K:AV→Prop):Prop :=
 match b,args,ats with
 | .len,[x],[t]=>(match tt.get t,evA n l x with
  | .str,.str s=>K (.int .i64 s.length)
  | .sl _ _,.nils=>K (.int .i64 0)
  | _,_=>False)
 | .min,[x,y],_=>(match evA n l x,evA n l y with
  | .int k a,.int _ b=>K (.int k (if b<a then b else a))
  | _,_=>False)
 | .max,[x,y],_=>(match evA n l x,evA n l y with
  | .int k a,.int _ b=>K (.int k (if b > a then b else a))
  | _,_=>False)
 | _,_,_=>False
theorem wB_ok {b:Builtin} {args:List Operand} {ats:List TypeId} {K:AV→Prop} (ht:tt.Ok P) (h:wB tt n l b args ats K):vcB P (mkA n l) aw b args ats K:=by
 unfold wB at h
 split at h
 ·rename_i x t
  have hu:=TT.get_ok ht t
  split at h
  ·rename_i s h1 h2
   rw [h1] at hu
   simp only [vcB,Jea,hu.2.2,h2];exact h
  ·rename_i e c h1 h2
   rw [h1] at hu
   simp only [vcB,Jea,hu.2.2.u,h2];exact h
  ·exact h.elim
 ·split at h
  ·rename_i h1 h2
   simp only [vcB,Jea,h1,h2];exact h
  ·exact h.elim
 ·split at h
  ·rename_i h1 h2
   simp only [vcB,Jea,h1,h2];exact h
  ·exact h.elim
 ·exact h.elim
def wV (tt:TT) (n:Nat) (l:List (Nat × AV)) (aw:List Ob) (op:Op) (K:AV→Prop):Prop :=
 match op with
 | .move x=>fA (evA n l x) K
 | .assign x=>fA (evA n l x) K
 | .pick c a b=>(match evA n l c,evA n l a,evA n l b with
  | .bool t,.bool x,.bool y=>K (.bool (if t then x else y))
  | .bool t,.int k x,.int k' y=>(match Nat.beq (ikN k) (ikN k') with
   | true=>K (.int k (if t then x else y))
   | false=>False)
  | _,_,_=>False)
 | .load t x=>(match evA n l x with
  | .ptr id off=>getC aw id fun o=>(match o with
   | .box cs=>wLd (tt.get t) cs off K
   | _=>False)
  | .elt row off=>wLd (tt.get t) row off K
  | _=>False)
 | .fieldAddr t x k=>(match tt.get t with
  | .ag _ _ fs=>getC fs k fun (o,_,_)=>(match evA n l x with
   | .ptr id off=>K (.ptr id (off+o))
   | .elt row off=>K (.elt row (off+o))
   | .aptr id s i off=>K (.aptr id s i (off+o))
   | _=>False)
  | _=>False)
 | .field t x k=>(match tt.get t,evA n l x with
  | .ag _ _ fs,.agg cs=>getC fs k fun (o,_,ft)=>wLd (tt.get ft) cs o K
  | _,_=>False)
 | .binOp op t x y _=>wBin tt op t (evA n l x) (evA n l y) K
 | .unOp op _ x=>(match op,evA n l x with
  | .not,.bool b=>K (.bool (!b))
  | .neg,.int k a=>K (.int k (k.wrap (0 - a)))
  | _,_=>False)
 | .convert s t x=>(match evA n l x with
  | .int _ a=>(match tt.get s,tt.get t with
   | .it _,.it k=>K (.int k (k.wrap a))
   | _,_=>False)
  | _=>False)
 | .makeFunc (.func f) first caps=>(match first.toList with
  | []=>evsC n l caps.toList fun cs=>K (.func f cs)
  | x::xs=>(match caps.toList with
   | []=>evsC n l (x::xs) fun cs=>K (.bnd f cs)
   | _=>False))
 | .build t parts=>(match tt.get t with
  | .ag z _ fs=>fillC n l fs z parts.toList fun cs=>K (.agg cs)
  | _=>False)
 | .extract x k=>(match evA n l x with
  | .tup vs=>getC vs k fun v=>fA v K
  | _=>False)
 | .nilCheck x=>(match evA n l x with
  | .ptr id off=>K (.ptr id off)
  | .elt row off=>K (.elt row off)
  | .aptr id s i off=>K (.aptr id s i off)
  | .func f cs=>K (.func f cs)
  | .bnd f cs=>K (.bnd f cs)
  | _=>False)
 | .call c=>(match c.callee with
  | .builtin b=>wB tt n l b c.args.toList c.argTypes.toList K
  | _=>False)
 | _=>False
theorem wV_ok {op:Op} {K:AV→Prop} (ht:tt.Ok P) (h:wV tt n l aw op K):vcQ P (mkA n l) aw op K:=by
 cases op with
 | move x=>exact Vqc rfl (fA_ok h)
 | assign x=>exact Jzb rfl (fA_ok h)
 | pick c a b =>
  simp only [wV] at h
  split at h
  ·rename_i h1 h2 h3
   exact Q7e h1 (by rw [h2,h3];rfl) h
  ·rename_i h1 h2 h3
   split at h
   ·rename_i hk
    have:=Vrf hk
    subst this
    exact Q7e h1 (by rw [h2,h3];simp only [pickV,if_true]) h
   ·exact h.elim
  ·exact h.elim
 | load t x =>
  simp only [wV] at h
  split at h
  ·rename_i h1
   obtain ⟨o,h2,h⟩:=Vua h
   split at h
   ·exact Jud h1 h2 (Qcf (TT.get_ok ht t) h)
   ·exact h.elim
  ·rename_i h1
   exact Vfe h1 (Qcf (TT.get_ok ht t) h)
  ·exact h.elim
 | fieldAddr t x k =>
  simp only [wV] at h
  have hu:=TT.get_ok ht t
  split at h
  ·rename_i z m fs h0
   rw [h0] at hu
   obtain ⟨q,h1,h⟩:=Vua h
   have hF:=Jpf hu.2.2 h1
   rw [Nat.zero_add] at hF
   split at h
   ·rename_i h2;exact Qpd hF h2 rfl h
   ·rename_i h2;exact Y9c hF h2 rfl h
   ·rename_i h2;exact Ymc hF h2 rfl h
   ·exact h.elim
  ·exact h.elim
 | field t x k =>
  simp only [wV] at h
  have hu:=TT.get_ok ht t
  split at h
  ·rename_i z m fs cs h0 h2
   rw [h0] at hu
   obtain ⟨q,h1,h⟩:=Vua h
   have hF:=Jpf hu.2.2 h1
   rw [Nat.zero_add] at hF
   exact v_field hF h2 (Qcf (TT.get_ok ht _) h)
  ·exact h.elim
 | binOp op t x y yt =>
  have:=wBin_ok ht h
  simp only [vcQ,Jea];exact this
 | unOp op t x =>
  simp only [wV] at h
  split at h
  ·rename_i h1;exact v_not h1 h
  ·rename_i h1;exact v_neg h1 h
  ·exact h.elim
 | convert s t x =>
  simp only [wV] at h
  split at h
  ·rename_i h1
   have hu:=TT.get_ok ht t
   have hs:=TT.get_ok ht s
   split at h
   ·rename_i h2 h3
    rw [h2] at hs
    rw [h3] at hu
    exact v_conv hs.2.2 hu.2.2 h1 h
   ·exact h.elim
  ·exact h.elim
 | makeFunc f first caps =>
  cases f with
  | func f =>
   simp only [wV] at h
   split at h
   ·rename_i h1
    have:first=#[]:=by cases first;simp at h1;subst h1;rfl
    subst this
    exact Zgc rfl (Q1e h)
   ·rename_i x xs h1
    split at h
    ·rename_i h2
     have h3:first=(x::xs).toArray:=by cases first;simp at h1;subst h1;rfl
     have h4:caps=#[]:=by cases caps;simp at h2;subst h2;rfl
     subst h3 h4
     exact v_bnd rfl (Q1e h)
    ·exact h.elim
  | _=>exact h.elim
 | build t parts =>
  simp only [wV] at h
  have hu:=TT.get_ok ht t
  split at h
  ·rename_i z m fs h0
   rw [h0] at hu
   obtain ⟨cs,h1,h2⟩:=Zse h
   exact Qnf hu.1.2.2.2.1 hu.2.1 h1 h2
  ·exact h.elim
 | extract x k =>
  simp only [wV] at h
  split at h
  ·rename_i h1
   obtain ⟨v,h2,h⟩:=Vua h
   exact Qdf h1 h2 (fA_ok h)
  ·exact h.elim
 | nilCheck x =>
  simp only [wV] at h
  split at h
  ·rename_i h1;exact V4e h1 h
  ·rename_i h1;exact V2e h1 h
  ·rename_i h1;exact Z8e h1 h
  ·rename_i h1;exact Vze h1 h
  ·rename_i h1;exact Jsf h1 h
  ·exact h.elim
 | call c =>
  obtain ⟨cal,as₀,ts⟩:=c
  cases cal with
  | builtin b=>exact wB_ok ht h
  | _=>exact h.elim
 | _=>exact h.elim
theorem wV_isQ {op:Op} {K:AV→Prop} (h:wV tt n l aw op K):isQ (mkA n l) op=true:=by
 cases op with
 | load t x =>
  simp only [wV] at h
  simp only [isQ,Jea]
  split at h
  ·rename_i h1;rw [h1]
  ·rename_i h1;rw [h1]
  ·exact h.elim
 | convert s t x =>
  simp only [wV] at h
  simp only [isQ,Jea]
  split at h
  ·rename_i h1;rw [h1]
  ·exact h.elim
 | call c =>
  obtain ⟨cal,as₀,ts⟩:=c
  cases cal with
  | builtin b =>
   simp only [wV,wB] at h
   split at h<;>first | rfl | exact h.elim
  | _=>exact h.elim
 | _=>first | rfl | exact h.elim
theorem OP.wV {o:Oper} {K:AV→List Ob→Prop} (ht:tt.Ok P) (h:wV tt n l aw o.op fun r=>K r aw):OP P N o (mkA n l) aw K:=by
 refine OP.of_vc ?_
 have h1:=wV_isQ h
 have h2:=wV_ok ht h
 obtain ⟨d,op,ty,ps,af,g⟩:=o
 have key:vcVal P (mkA n l) aw op K:=by unfold vcVal;rw [if_pos h1];exact h2
 cases op with
 | call c =>
  obtain ⟨cal,as₀,ts⟩:=c
  cases cal with
  | builtin b=>exact key
  | _=>exact (show False from h).elim
 | _=>exact key
def wE (tt:TT) (n:Nat) (l:List (Nat × AV)) (aw:List Ob) (c:Nat) (op:Op) (K:AV→List Ob→Nat→Prop):Prop :=
  match op with
  | .alloc e=>(match (tt.get e).zero with
    | some z=>pushC aw (.box z) fun aw=>K (.ptr c 0) aw (c+1)
    | none=>False)
  | .box _ x=>Vcd (evA n l x) fun cs=>pushC aw (.box cs) fun aw=>K (.ptr c 0) aw (c+1)
  | .store t x y=>(match evA n l x with
    | .ptr id off=>(match (tt.get t).size with
      | some m=>Vcd (evA n l y) fun vs=>lenC vs m (getC aw id fun o=>(match o with
        | .box cs=>putC cs off vs fun cs=>setC aw id (.box cs) fun aw=>K .any aw c
        | _=>False))
      | none=>False)
    | _=>False)
  | op=>wV tt n l aw op fun r=>K r aw c
theorem OP.mono {o:Oper} {fr:List AV} {K K':AV→List Ob→Prop} (h:OP P N o fr aw K) (hm:∀ r aw',K r aw'→K' r aw'):OP P N o fr aw K' :=
 ⟨fun st h1 h2 σ w F a hc Kc Q hk=>h.out st h1 h2 σ w F a hc Kc Q fun r aw' σ' w' F' v hK=>hk r aw' σ' w' F' v (hm r aw' hK)⟩
theorem wE_ok {o:Oper} {c:Nat} {K:AV→List Ob→Nat→Prop} (ht:tt.Ok P) (hc:aw.length=c) (h:wE tt n l aw c o.op K):OP P N o (mkA n l) aw fun r aw'=>K r aw' aw'.length:=by
 obtain ⟨d,op,ty,ps,af,g⟩:=o
 subst hc
 have q:wV tt n l aw op (fun r=>K r aw aw.length)→OP P N ⟨d,op,ty,ps,af,g⟩ (mkA n l) aw fun r aw'=>K r aw' aw'.length:=fun h=>OP.wV ht h
 cases op with
 | alloc e =>
  simp only [wE] at h
  split at h
  ·rename_i z hz
   have:=Vlc h
   exact o_alloc (TI.zero_ok (TT.get_ok ht e) hz) rfl rfl (by simpa using this)
  ·exact h.elim
 | box e x =>
  obtain ⟨cs,h1,h2⟩:=Qhd h
  have:=Vlc h2
  exact o_box h1 rfl rfl (by simpa using this)
 | store t x y =>
  simp only [wE] at h
  split at h
  ·rename_i h1
   split at h
   ·rename_i m hm
    obtain ⟨vs,h2,h⟩:=Qhd h
    obtain ⟨h3,h⟩:=Zid h
    obtain ⟨o,h4,h⟩:=Vua h
    split at h
    ·obtain ⟨h5,h⟩:=putC_ok h
     have h:=Y2c h
     have hs:=TI.size_ok (TT.get_ok ht t) hm
     exact Qie hs.1 hs.2 h1 h2 h3 h4 (Nat.ble_eq_true_of_le (by omega)) rfl rfl (by simpa [splice] using h)
    ·exact h.elim
   ·exact h.elim
  ·exact h.elim
 | _=>exact q h
def wR (tt:TT) (n:Nat):Nat→List Oper→List (Nat × AV)→List Ob→Nat→(List Oper→List (Nat × AV)→List Ob→Prop)→Prop
 | 0,os,l,aw,_,K=>K os l aw
 | _+1,[],_,_,_,_=>False
 | m+1,o::os,l,aw,c,K=>(match o.guard with
  | none=>wE tt n l aw c o.op fun r aw c=>(match o.dst with
   | some t=>wR tt n m os ((t,r)::l) aw c K
   | none=>wR tt n m os l aw c K)
  | some _=>False)
theorem RS.go (ht:tt.Ok P) {ops:Array Oper} {K:List AV→List Ob→Prop}:∀ {m:Nat} {os:List Oper} {l:List (Nat × AV)} {aw:List Ob} {c:Nat},aw.length=c→wR tt n m os l aw c (fun os l aw=>RS P N ops os K (mkA n l) aw)→RS P N ops os K (mkA n l) aw
 | 0,os,l,aw,c,hc,h=>by cases os<;>exact h
 | _+1,[],_,_,_,_,h=>h.elim
 | m+1,o::os,l,aw,c,hc,h=>by
  simp only [wR] at h
  split at h
  ·rename_i hg
   refine RS.op hg ((wE_ok ht hc h).mono fun r aw' h=>?_)
   split at h
   ·rename_i t hd
    rw [hd]
    exact RS.go ht rfl h
   ·rename_i hd
    rw [hd]
    exact RS.go ht rfl h
  ·exact h.elim
def okQ (ops:Array Oper):Array Bool→List Nat→Bool
 | _,[]=>true
 | li,i::is=>Region.free .any ops li i && (Region.ready .any ops li).contains i && (match ops.toList[i]? with
  | some o=>Jbc o.op && o.guard.isNone
  | none=>false) && okQ ops (li.setIfInBounds i true) is
def lisQ:Array Bool→List Nat→Array Bool
 | li,[]=>li
 | li,i::is=>lisQ (li.setIfInBounds i true) is
def wQ (tt:TT) (n:Nat) (ops:List Oper):List Nat→List (Nat × AV)→List Ob→(List (Nat × AV)→Prop)→Prop
 | [],l,aw,K=>K l
 | i::is,l,aw,K=>getC ops i fun o=>wV tt n l aw o.op fun r=>(match o.dst with
  | some t=>wQ tt n ops is ((t,r)::l) aw K
  | none=>wQ tt n ops is l aw K)
theorem RA.qs (ht:tt.Ok P) {ops:Array Oper} {K:List AV→List Ob→Prop} (hs:Region.noSelect ops=true) {k':Nat}:∀ {is:List Nat} {k:Nat} {li:Array Bool} {l:List (Nat × AV)},k=k' + is.length→okQ ops li is=true →
  wQ tt n ops.toList is l aw (fun l=>RA P N ops k' (lisQ li is) K (mkA n l) aw)→RA P N ops k li K (mkA n l) aw
 | [],k,li,l,hk,_,h=>by have:k=k':=hk;subst this;exact h
 | i::is,k,li,l,hk,ho,h=>by
  obtain ⟨o,h1,h⟩:=Vua h
  have h1':ops[i]?=some o:=by simpa using h1
  unfold okQ at ho
  rw [h1] at ho
  simp only [Bool.and_eq_true] at ho
  obtain ⟨⟨⟨ho1,ho2⟩,ho3,ho4⟩,ho5⟩:=ho
  have hg:o.guard=none:=by cases hg:o.guard<;>simp_all
  have hk:k=(k' + is.length)+1:=by rw [hk,List.length_cons];omega
  subst hk
  refine ⟨fun st e1 e2 σ w F a hc R hR=>?_⟩
  obtain ⟨v,r,hrun,hrel,hk⟩:=Zdc hc ho3 (wV_ok ht h)
  refine wpAny_take h1' hs ho1 ho2 (fun c a w hp=>hp) (.inl ⟨by simp [Region.wanted,hg],hrun⟩) ?_
  have hput:=Yfa hc hrel o.dst
  rw [Yha] at hput
  refine RA.out ?_ st e1 e2 σ w F _ hput R hR
  split at hk
  ·rename_i t hd
   rw [hd]
   exact RA.qs ht hs rfl ho5 hk
  ·rename_i hd
   rw [hd]
   exact RA.qs ht hs rfl ho5 hk
theorem RO.g (ht:tt.Ok P) {ops:Array Oper} {i c:Nat} {K:List AV→List Ob→Prop} (hc:aw.length=c)
  (h:getC ops.toList i fun o=>o.guard=none∧wE tt n l aw c o.op fun r aw c=>(match o.dst with
   | some t=>K (mkA n ((t,r)::l)) aw
   | none=>K (mkA n l) aw)):RO P N ops i K (mkA n l) aw:=by
 obtain ⟨o,h1,hg,h⟩:=Vua h
 refine RO.op (by simpa using h1) hg ((wE_ok ht hc h).mono fun r aw' h=>?_)
 split at h
 ·rename_i t hd
  rw [hd];exact h
 ·rename_i hd
  rw [hd];exact h
end
end Go.Proofs.YtchmpaaofmihcaaGreat
namespace Go.Proofs.YtchmpaaofmihcaaGreat
open Go.RowKit
set_option linter.unusedVariables false
set_option linter.unusedSimpArgs false
instance (a:Item):PureCs (Qca a):=⟨Jia a⟩
instance (a:Node):PureCs (Q5a a):=⟨Yrb a⟩
instance (a:Net):PureCs (Qxa a):=⟨Zme a⟩
instance (a:Keyed):PureCs (Qwa a):=⟨Qqb a⟩
instance (a:Memory):PureCs (Qla a):=⟨Zga a⟩
instance (a:Choice):PureCs (Qta a):=⟨Zha a⟩
instance (a:State):PureCs (Q2a a):=⟨Jmd a⟩
instance (a:Move):PureCs (Vfa a):=⟨Yxd a⟩
instance (a:Write):PureCs (J8a a):=⟨Zub a⟩
instance (a:Disk):PureCs (Vaa a):=⟨Vgd a⟩
instance (a:Shop):PureCs (V1c a):=⟨V2d a⟩
instance (a:Happening):PureCs (Jmb a):=⟨Zxc a⟩
instance (a:Ends):PureCs (Jpa a):=⟨Vyb a⟩
instance {f:FuncId} {cs:List AV} [h:PureCs cs]:PureC (.func f cs):=⟨Ype _ _ h.out⟩
instance {α:Type} {en:α→List AV} {a:α} {off:Nat} [h:EnP en]:PureC (.elt (en a) off):=⟨Zge _ _ (h.out a)⟩
class EnF {α:Type} (en:α→List AV):Prop where
 out:∀ a,(en a).all flat0=true
instance:EnF encI:=⟨fun _=>rfl⟩
instance:EnF enc8:=⟨fun _=>rfl⟩
instance:EnF encU:=⟨fun _=>rfl⟩
instance:EnF encB:=⟨fun _=>rfl⟩
instance:EnF encS:=⟨fun _=>rfl⟩
instance:EnF Qca:=⟨fun _=>rfl⟩
instance:EnF Qwa:=⟨fun _=>rfl⟩
instance:EnF Qta:=⟨fun _=>rfl⟩
instance:EnF Vfa:=⟨fun _=>rfl⟩
instance:EnF J8a:=⟨fun _=>rfl⟩
instance:EnF Jmb:=⟨fun _=>rfl⟩
instance:EnF Jpa:=⟨fun _=>rfl⟩
class FlatObs (os:List Ob):Prop where
 out:os.all Vtb=true
instance:FlatObs []:=⟨rfl⟩
instance {α:Type} {en:α→List AV} {xs:List α} {e s:Nat} {os:List Ob} [h:EnF en] [t:FlatObs os]:FlatObs (.arr e s (xs.map en)::os):=⟨Vaf (Vse h.out) t.out⟩
class OwnV (v:AV):Prop where
 out:(∃ k,v=.ref k)∨∃ vs,v=.tup vs∧∀ x,x∈vs→Pure x∨∃ k,x=.ref k
class OwnVs (vs:List AV):Prop where
 out:∀ x,x∈vs→Pure x∨∃ k,x=.ref k
instance:OwnVs []:=⟨fun x h=>by cases h⟩
instance {k:Nat} {vs:List AV} [t:OwnVs vs]:OwnVs (.ref k::vs):=⟨fun x h=>by
 cases h with
 | head=>exact .inr ⟨_,rfl⟩
 | tail _ h=>exact t.out x h⟩
instance (priority:=low) {v:AV} {vs:List AV} [h:PureC v] [t:OwnVs vs]:OwnVs (v::vs):=⟨fun x hx=>by
 cases hx with
 | head=>exact .inl h.out
 | tail _ hx=>exact t.out x hx⟩
instance {k:Nat}:OwnV (.ref k):=⟨.inl ⟨_,rfl⟩⟩
instance {vs:List AV} [h:OwnVs vs]:OwnV (.tup vs):=⟨.inr ⟨_,rfl,h.out⟩⟩
theorem Vfc:∀ {es:List AV},(∀ a,a∈es→Pure a)→Pures es
 | [],_=>trivial
 | a::es,h=>⟨h a (.head _),Vfc fun b hb=>h b (.tail _ hb)⟩
section
variable {P:Program} {N n:Nat} {aw aw':List Ob} {l:List (Nat × AV)} {tt:TT}
def appC {α:Type}:List α→List α→(List α→Prop)→Prop
 | [],bs,K=>K bs
 | a::l,bs,K=>appC l bs fun l=>K (a::l)
theorem Qde {α:Type}:∀ {l bs:List α} {K:List α→Prop},appC l bs K→K (l++bs)
 | [],_,_,h=>h
 | a::l,bs,K,h=>Qde (l:=l) (K:=fun l=>K (a::l)) h
def nrm0C (aw:List Ob) (a:AV) (K:AV→List Ob→Prop):Prop :=
 match a with
 | .nils=>K (.sl []) aw
 | .ref id=>getC aw id fun o=>(match o with
  | .arr _ _ rows=>setC aw id .dead fun aw=>K (.sl rows) aw
  | _=>False)
 | a=>fA a fun a=>K a aw
theorem Jle {a:AV} {K:AV→List Ob→Prop} (h:nrm0C aw a K):K (norm0 aw a).1 (norm0 aw a).2:=by
 cases a with
 | nils=>exact h
 | ref id =>
  obtain ⟨o,h1,h⟩:=Vua h
  split at h
  ·have:=Y2c h
   simpa only [norm0,h1] using this
  ·exact h.elim
 | _=>exact h
def nrm0LC:List AV→List Ob→(List AV→List Ob→Prop)→Prop
 | [],aw,K=>K [] aw
 | a::es,aw,K=>nrm0C aw a fun a aw=>nrm0LC es aw fun es aw=>K (a::es) aw
theorem V7d:∀ {es:List AV} {aw:List Ob} {K:List AV→List Ob→Prop},nrm0LC es aw K→K (norm0L aw es).1 (norm0L aw es).2
 | [],aw,K,h=>h
 | a::es,aw,K,h=>V7d (es:=es) (K:=fun es aw=>K (_::es) aw) (Jle h)
def nrmC (aw:List Ob) (a:AV) (K:AV→List Ob→Prop):Prop :=
 match a with
 | .agg cs=>nrm0LC cs aw fun cs aw=>K (.agg cs) aw
 | a=>nrm0C aw a K
theorem Qge {a:AV} {K:AV→List Ob→Prop} (h:nrmC aw a K):K (norm aw a).1 (norm aw a).2:=by
 cases a with
 | agg cs=>exact V7d (K:=fun cs aw=>K (.agg cs) aw) h
 | _=>exact Jle h
def nrmLC:List AV→List Ob→(List AV→List Ob→Prop)→Prop
 | [],aw,K=>K [] aw
 | a::es,aw,K=>nrmC aw a fun a aw=>nrmLC es aw fun es aw=>K (a::es) aw
theorem Jte:∀ {es:List AV} {aw:List Ob} {K:List AV→List Ob→Prop},nrmLC es aw K→K (normL aw es).1 (normL aw es).2
 | [],aw,K,h=>h
 | a::es,aw,K,h=>Jte (es:=es) (K:=fun es aw=>K (_::es) aw) (Qge h)
def nrmRC (aw:List Ob) (a:AV) (K:AV→List Ob→Prop):Prop :=
 match a with
 | .tup vs=>nrmLC vs aw fun vs aw=>K (.tup vs) aw
 | a=>nrmC aw a K
theorem Ztd {a:AV} {K:AV→List Ob→Prop} (h:nrmRC aw a K):K (normR aw a).1 (normR aw a).2:=by
 cases a with
 | tup vs=>exact Jte (K:=fun vs aw=>K (.tup vs) aw) h
 | _=>exact Qge h
def argC (n:Nat) (l:List (Nat × AV)):List Operand→List Ob→(List AV→List Ob→Prop)→Prop
 | [],aw,K=>K [] aw
 | x::xs,aw,K=>nrmC aw (evA n l x) fun a aw=>argC n l xs aw fun es aw=>K (a::es) aw
theorem J2f:∀ {xs:List Operand} {aw:List Ob} {K:List AV→List Ob→Prop},argC n l xs aw K→K (normL aw (xs.map (evA n l))).1 (normL aw (xs.map (evA n l))).2
 | [],aw,K,h=>h
 | x::xs,aw,K,h=>J2f (xs:=xs) (K:=fun es aw=>K (_::es) aw) (Qge h)
def calC (n:Nat) (l:List (Nat × AV)) (aw:List Ob) (f:Operand) (args:List Operand) (g:Nat) (es:List AV) (K:List Ob→Prop):Prop :=
 match evA n l f with
 | .func g' caps=>(match Nat.beq g' g with
  | true=>argC n l args aw fun es' aw'=>es'++caps=es∧K aw'
  | false=>False)
 | _=>False
section
variable {d:Option Tmp} {ty:TypeId} {ps:String} {af:Array Edge} {gd:Option (Nat × Bool)} {K2:AV→List Ob→Prop} {f:Operand} {args:Array Operand} {ts:Array TypeId} {g:FuncId} {es:List AV} {v:AV} {obs:List Ob}
theorem Vdc {K:List Ob→Prop} (h:calC n l aw f args.toList g es K) (hk:∀ aw1,K aw1→CallK P g es aw aw1 K2):OP P N ⟨d,.call ⟨.value f,args,ts⟩,ty,ps,af,gd⟩ (mkA n l) aw K2:=by
 unfold calC at h
 split at h
 ·rename_i g' caps hf
  split at h
  ·rename_i hb
   have:=Nat.eq_of_beq_eq_true hb
   subst this
   obtain ⟨h1,h2⟩:=J2f h
   exact o_call hf rfl rfl (by rw [h1];exact hk _ h2)
  ·exact h.elim
 ·exact h.elim
theorem cD (hc:Fn P g es v) (h:calC n l aw f args.toList g es fun aw1=>K2 v aw1) [hp:PureCs es] [hv:PureC v]:OP P N ⟨d,.call ⟨.value f,args,ts⟩,ty,ps,af,gd⟩ (mkA n l) aw K2 :=
 Vdc h fun aw1 hK=>k_fn hc (Vfc hp.out) hv.out hK
theorem cF (hc:Fn P g es v) (h:calC n l aw f args.toList g es fun _=>K2 v aw) [hp:PureCs es] (hv:flat v=true:=by rfl):OP P N ⟨d,.call ⟨.value f,args,ts⟩,ty,ps,af,gd⟩ (mkA n l) aw K2 :=
 Vdc h fun aw1 hK=>k_flat hc (Vfc hp.out) hv hK
theorem cO (c:Nat) (hc:FnO P g es v obs) (h:calC n l aw f args.toList g es fun _=>fA (v.shift c) fun v=>appC aw obs fun aw=>K2 v aw) [hp:PureCs es] [ho:FlatObs obs] (hv:flatR v=true:=by rfl) (hl:aw.length=c:=by rfl) :
  OP P N ⟨d,.call ⟨.value f,args,ts⟩,ty,ps,af,gd⟩ (mkA n l) aw K2 :=
 Vdc h fun aw1 hK=>by subst hl;exact k_own hc (Vfc hp.out) hv ho.out (Qde (fA_ok (K:=fun v=>appC aw obs fun aw=>K2 v aw) hK))
theorem cQ {α:Type} {en:α→List AV} {xs:List α} {e s:Nat} (c:Nat) (hc:FnO P g es v [.arr e s (xs.map en)]) (h:calC n l aw f args.toList g es fun aw=>fA (v.shift c) fun v=>lenC aw c (appC aw [.arr e s (xs.map en)] fun aw=>K2 v aw)) [hp:PureCs es] [he:EnP en] [ho:OwnV v] :
  OP P N ⟨d,.call ⟨.value f,args,ts⟩,ty,ps,af,gd⟩ (mkA n l) aw K2 :=
 Vdc h fun aw1 hK=>by
  have h1:=fA_ok (K:=fun v=>lenC aw1 c (appC aw1 [.arr e s (xs.map en)] fun aw=>K2 v aw)) hK
  obtain ⟨h2,h3⟩:=Zid h1
  subst h2
  exact k_own1' hc (Vfc hp.out) he.out ho.out rfl rfl (Qde h3)
end
theorem ld_ex {t:Nat} {i:TI} {row:List AV} {off:Nat} {K:AV→Prop} (ht:TOk P t i) (h:wLd i row off K):∃ v,K v∧∀ K':AV→Prop,K' v→Via P t row off K':=by
 have kA:∀ {m:Nat},kindT P t=some true→P.cellsOf t=m→(aggC row off m fun cs=>K (.agg cs))→∃ v,K v∧∀ K':AV→Prop,K' v→Via P t row off K':=fun {m} hk hm h=>by
  obtain ⟨h1,h2⟩:=Qxf h
  refine ⟨_,h2,fun K' hK'=>?_⟩
  simp only [Via,hk,hm]
  exact ⟨h1,hK'⟩
 have k1:kindT P t=some false→(getC row off fun c=>fA c K)→∃ v,K v∧∀ K':AV→Prop,K' v→Via P t row off K':=fun hk h=>by
  obtain ⟨c,h1,h2⟩:=Vua h
  exact ⟨c,fA_ok h2,fun K' hK'=>Qra hk h1 hK'⟩
 cases i with
 | no=>exact h.elim
 | ag z m fs=>exact kA ht.1.1 ht.1.2.1 h
 | ar z m=>exact kA ht.1 ht.2.1 h
 | s0=>exact k1 ht.1 h
 | _=>exact k1 ht.1.1 h
def resC (tt:TT) (n:Nat) (l:List (Nat × AV)) (aw:List Ob):List ResultVar→(List AV→Prop)→Prop
 | [],K=>K []
 | .tmp t::rs,K=>fA (evA n l (.tmp t)) fun v=>resC tt n l aw rs fun vs=>K (v::vs)
 | .cell a t::rs,K=>(match evA n l (.tmp a) with
  | .ptr id off=>getC aw id fun o=>(match o with
   | .box cs=>wLd (tt.get t) cs off fun v=>resC tt n l aw rs fun vs=>K (v::vs)
   | _=>False)
  | _=>False)
theorem V6c (ht:tt.Ok P):∀ {rs:List ResultVar} {K K':List AV→Prop},(∀ vs,K vs→K' vs)→resC tt n l aw rs K→vcRes P (mkA n l) aw rs K'
 | [],K,K',hm,h=>J1b (hm _ h)
 | .tmp t::rs,K,K',hm,h=>Vob rfl (V6c ht (K:=fun vs=>K (_::vs)) (fun vs hv=>hm _ hv) (fA_ok h))
 | .cell a t::rs,K,K',hm,h=>by
  unfold resC at h
  split at h
  ·rename_i h1
   obtain ⟨o,h2,h⟩:=Vua h
   split at h
   ·obtain ⟨v,h3,h4⟩:=ld_ex (TT.get_ok ht t) h
    exact Jgf h1 h2 h4 (V6c ht (K:=fun vs=>K (v::vs)) (fun vs hv=>hm _ hv) h3)
   ·exact h.elim
  ·exact h.elim
theorem T.rD (ht:tt.Ok P) {Q:Exit→List AV→List Ob→Prop} {rs:List ResultVar} {V:AV} (h:resC tt n l aw rs fun vs=>nrmRC aw (retAV vs) fun v _=>v=V)
  [hq:RetI Q (fun fr aw=>vcRes P fr aw rs (Ret 0 (fun r aw'=>r=V∧aw'=[]) aw))] [hV:PureC V]:T P N .ret Q (mkA n l) aw:=by
 refine T.rt (R:=fun fr aw=>vcRes P fr aw rs (Ret 0 (fun r aw'=>r=V∧aw'=[]) aw)) (V6c ht (fun vs hv=>?_) h)
 have h1:=Ztd hv
 exact Jxe (v:=V) (aw1:=(normR aw (retAV vs)).2) (by rw [← h1]) hV.out ⟨rfl,rfl⟩
def gA:Nat→AV→Prop
 | k,a=>match a with
  | .sl rows=>Pure (.sl rows)
  | .elt row off=>Pure (.elt row off)
  | .cst _ | .vw _ _ _ _ _ | .ref2 _ | .aptr2 _ _ | .ifc _ _=>False
  | .agg cs=>(match k with
   | 0=>False
   | k+1=>∀ c,c∈cs→gA k c)
  | .tup cs=>(match k with
   | 0=>False
   | k+1=>∀ c,c∈cs→gA k c)
  | .func _ cs=>(match k with
   | 0=>False
   | k+1=>∀ c,c∈cs→gA k c)
  | .bnd _ cs=>(match k with
   | 0=>False
   | k+1=>∀ c,c∈cs→gA k c)
  | _=>True
class GoodA (k:Nat) (a:AV):Prop where
 out:gA k a
class GoodAs (k:Nat) (es:List AV):Prop where
 out:∀ a,a∈es→gA k a
section
variable {k:Nat}
instance:GoodA k .any:=⟨by unfold gA;trivial⟩
instance {q:IntKind} {x:Int}:GoodA k (.int q x):=⟨by unfold gA;trivial⟩
instance {b:Bool}:GoodA k (.bool b):=⟨by unfold gA;trivial⟩
instance {s:List UInt8}:GoodA k (.str s):=⟨by unfold gA;trivial⟩
instance:GoodA k .nils:=⟨by unfold gA;trivial⟩
instance:GoodA k .nilf:=⟨by unfold gA;trivial⟩
instance:GoodA k .nilp:=⟨by unfold gA;trivial⟩
instance:GoodA k .nili:=⟨by unfold gA;trivial⟩
instance {i:Nat}:GoodA k (.ref i):=⟨by unfold gA;trivial⟩
instance {i o:Nat}:GoodA k (.ptr i o):=⟨by unfold gA;trivial⟩
instance {i s j o:Nat}:GoodA k (.aptr i s j o):=⟨by unfold gA;trivial⟩
instance {i:Nat}:GoodA k (.mpr i):=⟨by unfold gA;trivial⟩
instance {i:Nat}:GoodA k (.np i):=⟨by unfold gA;trivial⟩
instance {i j:Nat}:GoodA k (.iref i j):=⟨by unfold gA;trivial⟩
instance {α:Type} {en:α→List AV} {xs:List α} [h:EnP en]:GoodA k (.sl (xs.map en)):=⟨by unfold gA;exact Q3a h.out _⟩
instance {α:Type} {en:α→List AV} {a:α} {off:Nat} [h:EnP en]:GoodA k (.elt (en a) off):=⟨by unfold gA;exact Zge _ _ (h.out a)⟩
instance:GoodAs k []:=⟨fun a h=>by cases h⟩
instance {a:AV} {es:List AV} [h:GoodA k a] [t:GoodAs k es]:GoodAs k (a::es):=⟨fun b hb=>by
 cases hb with
 | head=>exact h.out
 | tail _ hb=>exact t.out b hb⟩
instance {es:List AV} [h:GoodAs k es]:GoodA (k+1) (.agg es):=⟨by unfold gA;exact h.out⟩
instance {es:List AV} [h:GoodAs k es]:GoodA (k+1) (.tup es):=⟨by unfold gA;exact h.out⟩
instance {f:FuncId} {es:List AV} [h:GoodAs k es]:GoodA (k+1) (.func f es):=⟨by unfold gA;exact h.out⟩
instance {f:FuncId} {es:List AV} [h:GoodAs k es]:GoodA (k+1) (.bnd f es):=⟨by unfold gA;exact h.out⟩
instance (a:Item):GoodAs k (Qca a):=by unfold Qca;infer_instance
instance (a:Node):GoodAs k (Q5a a):=by unfold Q5a;infer_instance
instance (a:Net):GoodAs k (Qxa a):=by unfold Qxa;infer_instance
instance (a:Keyed):GoodAs k (Qwa a):=by unfold Qwa;infer_instance
instance (a:Memory):GoodAs k (Qla a):=by unfold Qla;infer_instance
instance (a:Choice):GoodAs k (Qta a):=by unfold Qta;infer_instance
instance (a:State):GoodAs k (Q2a a):=by unfold Q2a;infer_instance
instance (a:Move):GoodAs k (Vfa a):=by unfold Vfa;infer_instance
instance (a:Write):GoodAs k (J8a a):=by unfold J8a;infer_instance
instance (a:Disk):GoodAs k (Vaa a):=by unfold Vaa;infer_instance
instance (a:Shop):GoodAs k (V1c a):=by unfold V1c;infer_instance
instance (a:Happening):GoodAs k (Jmb a):=by unfold Jmb;infer_instance
instance (a:Ends):GoodAs k (Jpa a):=by unfold Jpa;infer_instance
end
theorem Zue {ρ:List Nat} {k id i:Nat} (h:ρ[k]?=some id):Ren ρ (.iref k i) (.iref id i):=fun σ w F v hr σ' hσ=>by
 cases hr with
 | iref _ _ a n c vs hg h0=>exact .iref k i a n c vs (by rw [hσ k id h];exact hg) h0
theorem Jwd:Pure .nilp:=fun σ w F v hr σ'=>by cases hr;exact .nilp
theorem Jcd:Pure .nili:=fun σ w F v hr σ'=>by cases hr;exact .nili
def mpC (f:AV→AV→(AV→Prop)→Prop):List AV→List AV→(List AV→Prop)→Prop
 | [],_,K=>K []
 | a'::es',es,K=>(match es with
  | []=>False
  | a::es=>f a' a fun b=>mpC f es' es fun bs=>K (b::bs))
def mpA (ρ:List Nat):Nat→AV→AV→(AV→Prop)→Prop
 | k,a',a,K=>match a' with
  | .any=>K a
  | .ref i=>getC ρ i fun i=>K (.ref i)
  | .ptr i o=>getC ρ i fun i=>K (.ptr i o)
  | .aptr i s j o=>getC ρ i fun i=>K (.aptr i s j o)
  | .mpr i=>getC ρ i fun i=>K (.mpr i)
  | .np i=>getC ρ i fun i=>K (.np i)
  | .iref i j=>getC ρ i fun i=>K (.iref i j)
  | .agg cs=>(match k with
   | 0=>False
   | k+1=>(match a with
    | .agg ds=>mpC (mpA ρ k) cs ds fun cs=>K (.agg cs)
    | _=>False))
  | .tup cs=>(match k with
   | 0=>False
   | k+1=>(match a with
    | .tup ds=>mpC (mpA ρ k) cs ds fun cs=>K (.tup cs)
    | _=>False))
  | .func f cs=>(match k with
   | 0=>False
   | k+1=>(match a with
    | .func _ ds=>mpC (mpA ρ k) cs ds fun cs=>K (.func f cs)
    | _=>False))
  | .bnd f cs=>(match k with
   | 0=>False
   | k+1=>(match a with
    | .bnd _ ds=>mpC (mpA ρ k) cs ds fun cs=>K (.bnd f cs)
    | _=>False))
  | a'=>fA a' K
theorem Jnd {ρ:List Nat} {k:Nat} (ih:∀ {a' a:AV} {K:AV→Prop},mpA ρ k a' a K→∃ b,K b∧(gA k a'→b=a→Ren ρ a' a)):∀ {es' es:List AV} {K:List AV→Prop},mpC (mpA ρ k) es' es K →
  ∃ bs,K bs∧((∀ a,a∈es'→gA k a)→bs=es→RenL ρ es' es)
 | [],es,K,h=>⟨[],h,fun _ e=>by subst e;trivial⟩
 | a'::es',[],K,h=>h.elim
 | a'::es',a::es,K,h=>by
  obtain ⟨b,h1,h2⟩:=ih h
  obtain ⟨bs,h3,h4⟩:=Jnd ih h1
  refine ⟨b::bs,h3,fun hg e=>?_⟩
  injection e with e1 e2
  exact ⟨h2 (hg _ (.head _)) e1,h4 (fun x hx=>hg x (.tail _ hx)) e2⟩
theorem Jse {ρ:List Nat}:∀ {k:Nat} {a' a:AV} {K:AV→Prop},mpA ρ k a' a K→∃ b,K b∧(gA k a'→b=a→Ren ρ a' a):=by
 intro k
 induction k with
 | zero =>
  intro a' a K h
  cases a' with
  | any=>exact ⟨a,h,fun _ _=>Yua⟩
  | ref i=>obtain ⟨j,h1,h2⟩:=Vua h;exact ⟨_,h2,fun _ e=>by subst e;exact Jha h1⟩
  | ptr i o=>obtain ⟨j,h1,h2⟩:=Vua h;exact ⟨_,h2,fun _ e=>by subst e;exact Qda h1⟩
  | aptr i s j o=>obtain ⟨j,h1,h2⟩:=Vua h;exact ⟨_,h2,fun _ e=>by subst e;exact Y0e h1 rfl⟩
  | mpr i=>obtain ⟨j,h1,h2⟩:=Vua h;exact ⟨_,h2,fun _ e=>by subst e;exact J0a h1⟩
  | np i=>obtain ⟨j,h1,h2⟩:=Vua h;exact ⟨_,h2,fun _ e=>by subst e;exact rn_np h1⟩
  | iref i j=>obtain ⟨j,h1,h2⟩:=Vua h;exact ⟨_,h2,fun _ e=>by subst e;exact Zue h1⟩
  | agg cs=>exact h.elim
  | tup cs=>exact h.elim
  | func f cs=>exact h.elim
  | bnd f cs=>exact h.elim
  | int q x=>exact ⟨_,h,fun _ e=>by subst e;exact Yta (Qba _ _)⟩
  | bool b=>exact ⟨_,h,fun _ e=>by subst e;exact Yta (V4a _)⟩
  | str s=>exact ⟨_,h,fun _ e=>by subst e;exact Yta (Q1a _)⟩
  | nils=>exact ⟨_,h,fun _ e=>by subst e;exact Yta Jya⟩
  | nilf=>exact ⟨_,h,fun _ e=>by subst e;exact Yta Yyc⟩
  | nilp=>exact ⟨_,h,fun _ e=>by subst e;exact Yta Jwd⟩
  | nili=>exact ⟨_,h,fun _ e=>by subst e;exact Yta Jcd⟩
  | sl rows=>exact ⟨_,h,fun g e=>by subst e;exact Yta (by unfold gA at g;exact g)⟩
  | elt row off=>exact ⟨_,h,fun g e=>by subst e;exact Yta (by unfold gA at g;exact g)⟩
  | cst v=>exact ⟨_,h,fun g e=>by unfold gA at g;exact g.elim⟩
  | vw a1 a2 a3 a4 a5=>exact ⟨_,h,fun g e=>by unfold gA at g;exact g.elim⟩
  | ref2 i=>exact ⟨_,h,fun g e=>by unfold gA at g;exact g.elim⟩
  | aptr2 i j=>exact ⟨_,h,fun g e=>by unfold gA at g;exact g.elim⟩
  | ifc t a1=>exact ⟨_,h,fun g e=>by unfold gA at g;exact g.elim⟩
 | succ k ih =>
  intro a' a K h
  cases a' with
  | any=>exact ⟨a,h,fun _ _=>Yua⟩
  | ref i=>obtain ⟨j,h1,h2⟩:=Vua h;exact ⟨_,h2,fun _ e=>by subst e;exact Jha h1⟩
  | ptr i o=>obtain ⟨j,h1,h2⟩:=Vua h;exact ⟨_,h2,fun _ e=>by subst e;exact Qda h1⟩
  | aptr i s j o=>obtain ⟨j,h1,h2⟩:=Vua h;exact ⟨_,h2,fun _ e=>by subst e;exact Y0e h1 rfl⟩
  | mpr i=>obtain ⟨j,h1,h2⟩:=Vua h;exact ⟨_,h2,fun _ e=>by subst e;exact J0a h1⟩
  | np i=>obtain ⟨j,h1,h2⟩:=Vua h;exact ⟨_,h2,fun _ e=>by subst e;exact rn_np h1⟩
  | iref i j=>obtain ⟨j,h1,h2⟩:=Vua h;exact ⟨_,h2,fun _ e=>by subst e;exact Zue h1⟩
  | agg cs =>
   cases a with
   | agg ds =>
    obtain ⟨bs,h1,h2⟩:=Jnd (ρ:=ρ) ih h
    exact ⟨_,h1,fun g e=>by injection e with e;exact Qnd (h2 (by unfold gA at g;exact g) e)⟩
   | _=>exact h.elim
  | tup cs =>
   cases a with
   | tup ds =>
    obtain ⟨bs,h1,h2⟩:=Jnd (ρ:=ρ) ih h
    exact ⟨_,h1,fun g e=>by injection e with e;exact Jbe (h2 (by unfold gA at g;exact g) e)⟩
   | _=>exact h.elim
  | func f cs =>
   cases a with
   | func f' ds =>
    obtain ⟨bs,h1,h2⟩:=Jnd (ρ:=ρ) ih h
    exact ⟨_,h1,fun g e=>by injection e with e0 e;subst e0;exact Vka (h2 (by unfold gA at g;exact g) e)⟩
   | _=>exact h.elim
  | bnd f cs =>
   cases a with
   | bnd f' ds =>
    obtain ⟨bs,h1,h2⟩:=Jnd (ρ:=ρ) ih h
    exact ⟨_,h1,fun g e=>by injection e with e0 e;subst e0;exact Qbd (h2 (by unfold gA at g;exact g) e)⟩
   | _=>exact h.elim
  | int q x=>exact ⟨_,h,fun _ e=>by subst e;exact Yta (Qba _ _)⟩
  | bool b=>exact ⟨_,h,fun _ e=>by subst e;exact Yta (V4a _)⟩
  | str s=>exact ⟨_,h,fun _ e=>by subst e;exact Yta (Q1a _)⟩
  | nils=>exact ⟨_,h,fun _ e=>by subst e;exact Yta Jya⟩
  | nilf=>exact ⟨_,h,fun _ e=>by subst e;exact Yta Yyc⟩
  | nilp=>exact ⟨_,h,fun _ e=>by subst e;exact Yta Jwd⟩
  | nili=>exact ⟨_,h,fun _ e=>by subst e;exact Yta Jcd⟩
  | sl rows=>exact ⟨_,h,fun g e=>by subst e;exact Yta (by unfold gA at g;exact g)⟩
  | elt row off=>exact ⟨_,h,fun g e=>by subst e;exact Yta (by unfold gA at g;exact g)⟩
  | cst v=>exact ⟨_,h,fun g e=>by unfold gA at g;exact g.elim⟩
  | vw a1 a2 a3 a4 a5=>exact ⟨_,h,fun g e=>by unfold gA at g;exact g.elim⟩
  | ref2 i=>exact ⟨_,h,fun g e=>by unfold gA at g;exact g.elim⟩
  | aptr2 i j=>exact ⟨_,h,fun g e=>by unfold gA at g;exact g.elim⟩
  | ifc t a1=>exact ⟨_,h,fun g e=>by unfold gA at g;exact g.elim⟩
def gO:Ob→Prop
 | .dead=>True
 | .box cs=>∀ c,c∈cs→gA 3 c
 | .arr _ _ rows=>∀ row,row∈rows→∀ x,x∈row→Pure x
 | .mp ks vs=>∀ c,c∈ks++vs→Pure c
 | .hd _ _=>True
 | .cl _ _ cells=>∀ rows,(Cell.own rows∈cells∨Cell.fz rows∈cells)→∀ row,row∈rows→∀ x,x∈row→Pure x
 | _=>False
class GoodO (o:Ob):Prop where
 out:gO o
class GoodOs (os:List Ob):Prop where
 out:∀ o,o∈os→gO o
instance:GoodO .dead:=⟨trivial⟩
instance {cs:List AV} [h:GoodAs 3 cs]:GoodO (.box cs):=⟨h.out⟩
instance {α:Type} {en:α→List AV} {xs:List α} {e s:Nat} [h:EnP en]:GoodO (.arr e s (xs.map en)):=⟨fun row hr x hx=>by obtain ⟨a,_,rfl⟩:=List.mem_map.1 hr;exact h.out a x hx⟩
instance {e s:Nat}:GoodO (.arr e s []):=⟨fun row hr=>by cases hr⟩
instance {e k:Nat}:GoodO (.hd e k):=⟨trivial⟩
instance:GoodOs []:=⟨fun o h=>by cases h⟩
instance {o:Ob} {os:List Ob} [h:GoodO o] [t:GoodOs os]:GoodOs (o::os):=⟨fun b hb=>by
 cases hb with
 | head=>exact h.out
 | tail _ hb=>exact t.out b hb⟩
instance {zs bs:List Ob} [h:GoodOs zs] [t:GoodOs bs]:GoodOs (zs++bs):=⟨fun o ho=>(List.mem_append.1 ho).elim (h.out o) (t.out o)⟩
instance {zs:List Ob} {i:Nat} {o:Ob} [h:GoodOs zs] [t:GoodO o]:GoodOs (zs.set i o):=⟨fun b hb=>(List.mem_or_eq_of_mem_set hb).elim (h.out b) (fun e=>by rw [e];exact t.out)⟩
def mpO (ρ:List Nat) (o' o:Ob) (K:Ob→Prop):Prop :=
 match o' with
 | .dead=>K o
 | .box cs=>(match o with
  | .box ds=>mpC (mpA ρ 3) cs ds fun cs=>K (.box cs)
  | _=>False)
 | .hd e k=>getC ρ k fun k=>K (.hd e k)
 | .arr e s rows=>K (.arr e s rows)
 | .mp ks vs=>K (.mp ks vs)
 | .cl e s cells=>K (.cl e s cells)
 | _=>False
def mpOs (ρ:List Nat) (aw:List Ob):List Nat→List Ob→(List Ob→List Ob→Prop)→Prop
 | [],[],K=>K [] []
 | id::ids,o'::os',K=>getC aw id fun o=>mpO ρ o' o fun b=>mpOs ρ aw ids os' fun bs os=>K (b::bs) (o::os)
 | _,_,_=>False
theorem mpO_ok {ρ:List Nat} {o' o:Ob} {K:Ob→Prop} (h:mpO ρ o' o K):∃ b,K b∧(gO o'→b=o→RenO ρ o' o):=by
 cases o' with
 | dead=>exact ⟨o,h,fun _ _=>trivial⟩
 | box cs =>
  cases o with
  | box ds =>
   obtain ⟨bs,h1,h2⟩:=Jnd (ρ:=ρ) Jse h
   exact ⟨_,h1,fun g e=>by injection e with e;exact h2 g e⟩
  | _=>exact h.elim
 | hd e k =>
  obtain ⟨j,h1,h2⟩:=Vua h
  exact ⟨_,h2,fun _ e=>by subst e;exact ⟨rfl,h1⟩⟩
 | arr e s rows=>exact ⟨_,h,fun g e=>by subst e;exact ⟨rfl,rfl,rfl,fun row hr x hx=>Z7b (g row hr x hx)⟩⟩
 | mp ks vs=>exact ⟨_,h,fun g e=>by subst e;exact ⟨Qqc fun c hc=>g c (List.mem_append_left _ hc),Qqc fun c hc=>g c (List.mem_append_right _ hc)⟩⟩
 | cl e s cells=>exact ⟨_,h,fun g e=>by subst e;exact ⟨rfl,rfl,rfl,g⟩⟩
 | arrU e s rows x=>exact h.elim
 | boxB t cs=>exact h.elim
theorem Q4d {ρ:List Nat}:∀ {ids:List Nat} {os':List Ob} {K:List Ob→List Ob→Prop},mpOs ρ aw ids os' K→∃ bs os,K bs os∧((∀ o,o∈os'→gO o)→bs=os→RenW ρ aw ids os')
 | [],[],K,h=>⟨[],[],h,fun _ _=>trivial⟩
 | id::ids,o'::os',K,h=>by
  obtain ⟨o,h1,h⟩:=Vua h
  obtain ⟨b,h2,h3⟩:=mpO_ok h
  obtain ⟨bs,os,h4,h5⟩:=Q4d h2
  refine ⟨b::bs,o::os,h4,fun hg e=>?_⟩
  injection e with e1 e2
  exact ⟨⟨o,h1,h3 (hg _ (.head _)) e1⟩,h5 (fun x hx=>hg x (.tail _ hx)) e2⟩
 | [],_::_,K,h=>h.elim
 | _::_,[],K,h=>h.elim
def mpF (ρ:List Nat):List (Nat × AV)→List (Nat × AV)→(List AV→List AV→Prop)→Prop
 | [],_,K=>K [] []
 | (s,v)::r,l,K=>fA (lkA l s) fun a=>mpA ρ 3 v a fun b=>mpF ρ r l fun bs es=>K (b::bs) (a::es)
class GoodF (l:List (Nat × AV)):Prop where
 out:∀ s v,(s,v)∈l→gA 3 v
instance:GoodF []:=⟨fun s v h=>by cases h⟩
instance {s:Nat} {v:AV} {r:List (Nat × AV)} [h:GoodA 3 v] [t:GoodF r]:GoodF ((s,v)::r):=⟨fun s' v' hb=>by
 cases hb with
 | head=>exact h.out
 | tail _ hb=>exact t.out s' v' hb⟩
theorem Jxf {ρ:List Nat}:∀ {l' l:List (Nat × AV)} {K:List AV→List AV→Prop},mpF ρ l' l K→∃ bs es,K bs es∧((∀ s v,(s,v)∈l'→gA 3 v)→bs=es→RenA ρ l' l)
 | [],l,K,h=>⟨[],[],h,fun _ _=>trivial⟩
 | (s,v)::r,l,K,h=>by
  have h:=fA_ok (a:=lkA l s) (K:=fun a=>mpA ρ 3 v a fun b=>mpF ρ r l fun bs es=>K (b::bs) (a::es)) h
  obtain ⟨b,h1,h2⟩:=Jse h
  obtain ⟨bs,es,h3,h4⟩:=Jxf h1
  refine ⟨b::bs,lkA l s::es,h3,fun hg e=>?_⟩
  injection e with e1 e2
  exact ⟨h2 (hg _ _ (.head _)) e1,h4 (fun s v hv=>hg s v (.tail _ hv)) e2⟩
def nilC:List (Nat × TypeId × Nat)→List (Nat × AV)→List Ob→Nat→(List (Nat × AV)→List Ob→Prop)→Prop
 | [],l,aw,_,K=>K l aw
 | (s,e,z)::r,l,aw,c,K=>(match lkA l s with
  | .nils=>pushC aw (.arr e z []) fun aw=>nilC r ((s,.ref c)::l) aw (c+1) K
  | _=>False)
theorem Jif:∀ {nl:List (Nat × TypeId × Nat)} {l:List (Nat × AV)} {aw:List Ob} {c:Nat} {K:List (Nat × AV)→List Ob→Prop},aw.length=c→(nl.all fun p=>Nat.blt p.1 n)=true→nilC nl l aw c K→K (nilA n nl l aw).1 (nilA n nl l aw).2
 | [],l,aw,c,K,_,_,h=>h
 | (s,e,z)::r,l,aw,c,K,hc,hn,h=>by
  subst hc
  unfold nilC at h
  rw [List.all_cons,Bool.and_eq_true] at hn
  split at h
  ·rename_i hv
   have h:=Jif (nl:=r) (by simp) hn.2 (Vlc h)
   unfold nilA
   simp only [hn.1,hv]
   exact h
  ·exact h.elim
theorem wk (nl:List (Nat × TypeId × Nat)) (ρ:List Nat) (c:Nat) {l':List (Nat × AV)} (h:nilC nl l aw c fun l aw=>mpF ρ l' l fun bs es=>mpOs ρ aw ρ aw' fun bs' es'=>(bs,bs')=(es,es')) [g:GoodF l'] [g':GoodOs aw'] (hc:aw.length=c:=by rfl) (hn:(nl.all fun p=>Nat.blt p.1 n)=true:=by rfl)
  (h1:ρ.Nodup:=by decide) (h2:∀ k,k<N→ρ[k]?=some k:=by decide):Weak N (mkA n l) aw (mkA n l') aw':=by
 have h:=Jif hc hn h
 obtain ⟨bs,es,h,h3⟩:=Jxf h
 obtain ⟨bs',es',h,h4⟩:=Q4d h
 injection h with e1 e2
 exact Weak.mkN nl ρ h1 h2 rfl (h3 g.out e1) (h4 g'.out e2)
def nilVC:List (Nat × TypeId × Nat)→List AV→List Ob→Nat→(List AV→List Ob→Prop)→Prop
 | [],vs,aw,_,K=>K vs aw
 | (s,e,z)::r,vs,aw,c,K=>getC vs s fun v=>(match v with
  | .nils=>setC vs s (.ref c) fun vs=>pushC aw (.arr e z []) fun aw=>nilVC r vs aw (c+1) K
  | _=>False)
theorem Zne:∀ {nl:List (Nat × TypeId × Nat)} {vs:List AV} {aw:List Ob} {c:Nat} {K:List AV→List Ob→Prop},aw.length=c→nilVC nl vs aw c K→K (nilify nl vs aw).1 (nilify nl vs aw).2
 | [],vs,aw,c,K,_,h=>h
 | (s,e,z)::r,vs,aw,c,K,hc,h=>by
  subst hc
  obtain ⟨v,h1,h⟩:=Vua h
  split at h
  ·have h:=Zne (nl:=r) (by simp) (Vlc (Y2c h))
   unfold nilify
   simp only [h1]
   exact h
  ·exact h.elim
section
variable {Q:Exit→List AV→List Ob→Prop} {rs:List ResultVar} {V:AV} {obs:List Ob} {M:Nat}
theorem T.rO (ht:tt.Ok P) (nl:List (Nat × TypeId × Nat)) (ρ:List Nat) (c:Nat)
  (h:resC tt n l aw rs fun vs=>nilVC nl vs aw c fun vs aw=>fA (retAV vs) fun a=>mpA ρ 3 V a fun b=>mpOs ρ aw ρ obs fun bs es=>(b,bs)=(a,es))
  [hq:RetI Q (fun fr aw=>vcRes P fr aw rs (Ret M (fun r aw'=>r=V∧aw'=obs) aw))] [g:GoodA 3 V] [g':GoodOs obs] (hc:aw.length=c:=by rfl) (h1:ρ.Nodup:=by decide) (h2:∀ k,k<M→ρ[k]?=some k:=by decide):T P N .ret Q (mkA n l) aw:=by
 refine T.rt (R:=fun fr aw=>vcRes P fr aw rs (Ret M (fun r aw'=>r=V∧aw'=obs) aw)) (V6c ht (fun vs hv=>?_) h)
 have h:=Zne hc hv
 have h:=fA_ok (K:=fun a=>mpA ρ 3 V a fun b=>mpOs ρ (nilify nl vs aw).2 ρ obs fun bs es=>(b,bs)=(a,es)) h
 obtain ⟨b,h,h3⟩:=Jse h
 obtain ⟨bs,es,h,h4⟩:=Q4d h
 injection h with e1 e2
 exact Q1c V nl ρ h1 h2 rfl (h3 g.out e1) (h4 g'.out e2) ⟨rfl,rfl⟩
theorem T.rN (ht:tt.Ok P) (ρ:List Nat) (h:resC tt n l aw rs fun vs=>nrmRC aw (retAV vs) fun a aw=>mpA ρ 3 V a fun b=>mpOs ρ aw ρ obs fun bs es=>(b,bs)=(a,es))
  [hq:RetI Q (fun fr aw=>vcRes P fr aw rs (Ret M (fun r aw'=>r=V∧aw'=obs) aw))] [g:GoodA 3 V] [g':GoodOs obs] (h1:ρ.Nodup:=by decide) (h2:∀ k,k<M→ρ[k]?=some k:=by decide):T P N .ret Q (mkA n l) aw:=by
 refine T.rt (R:=fun fr aw=>vcRes P fr aw rs (Ret M (fun r aw'=>r=V∧aw'=obs) aw)) (V6c ht (fun vs hv=>?_) h)
 have h:=Ztd hv
 obtain ⟨b,h,h3⟩:=Jse h
 obtain ⟨bs,es,h,h4⟩:=Q4d h
 injection h with e1 e2
 exact Vgc V ρ rfl h1 h2 (h3 g.out e1) (h4 g'.out e2) ⟨rfl,rfl⟩
end
def stD (l:List (Nat × AV)) (d:Option Tmp) (r:AV) (K:List (Nat × AV)→Prop):Prop :=
 match d with
 | some t=>K ((t,r)::l)
 | none=>K l
theorem Yub {d:Option Tmp} {r:AV} {K:List (Nat × AV)→Prop} (h:stD l d r K):K (putA l d r):=by cases d<;>exact h
section
variable {ops:Array Oper} {os:List Oper} {K:List AV→List Ob→Prop} {k:Nat} {li li':Array Bool} {o:Oper} {fr fr':List AV}
theorem yg' (ht:tt.Ok P) (c:Nat) {j t:Nat} {want b:Bool} (hbw:b=want) (h:wE tt n l aw c o.op fun r aw _=>stD l o.dst r fun l=>RS P N ops os K (mkA n l) aw)
  (hg:o.guard=some (j,want)) (hj:(ops[j]?).bind (·.dst)=some t) (hb:evA n l (.tmp t)=.bool b) (hc:aw.length=c):RS P N ops (o::os) K (mkA n l) aw :=
 RS.yes hg hj hb hbw ((wE_ok ht hc h).mono fun r aw' h=>Yub (K:=fun l=>RS P N ops os K (mkA n l) aw') h)
theorem oy' (ht:tt.Ok P) {i:Nat} (c:Nat) {j t:Nat} {want b:Bool} (hbw:b=want) (hi:ops[i]?=some o) (h:wE tt n l aw c o.op fun r aw _=>stD l o.dst r fun l=>K (mkA n l) aw)
  (hg:o.guard=some (j,want)) (hj:(ops[j]?).bind (·.dst)=some t) (hb:evA n l (.tmp t)=.bool b) (hc:aw.length=c):RO P N ops i K (mkA n l) aw :=
 RO.yes hi hg hj hb hbw ((wE_ok ht hc h).mono fun r aw' h=>Yub (K:=fun l=>K (mkA n l) aw') h)
theorem ry' (ht:tt.Ok P) (i:Nat) {j t:Nat} {want b:Bool} (hbw:b=want) (hi:ops[i]?=some o) (h:wV tt n l aw o.op fun r=>stD l o.dst r fun l=>RA P N ops k (li.setIfInBounds i true) K (mkA n l) aw)
  (hs:Region.noSelect ops=true) (hf:Region.free .any ops li i=true) (hr:(Region.ready .any ops li).contains i=true)
  (hg:o.guard=some (j,want)) (hj:(ops[j]?).bind (·.dst)=some t) (hb:evA n l (.tmp t)=.bool b) (hn:Jbc o.op=true):RA P N ops (k+1) li K (mkA n l) aw :=
 ⟨fun st e1 e2 σ w F a hc R hR=>by
  obtain ⟨v,r,hrun,hrel,hk⟩:=Zdc hc hn (wV_ok ht h)
  refine wpAny_take hi hs hf hr (fun c a w hp=>hp) (.inl ⟨by simp [Region.wanted,hg,Znb hc hj hb,hbw],hrun⟩) (RA.out (Yub (K:=fun l=>RA P N ops k (li.setIfInBounds i true) K (mkA n l) aw) hk) st e1 e2 σ w F _ ?_ R hR)
  have:=Yfa hc hrel o.dst
  rwa [Yha] at this⟩
open RK in
theorem rL' (ht:tt.Ok P) (D:List Nat) (i:Nat) (hi:ops[i]?=some o) (h:wV tt n l aw o.op fun r=>stD l o.dst r fun l=>RA P N ops k (li.setIfInBounds i true) K (mkA n l) aw)
  (hs:Region.noSelect ops=true) (hf:loadFree ops li D i=true) (hr:(Region.ready .any ops li).contains i=true) (hg:o.guard=none):RA P N ops (k+1) li K (mkA n l) aw :=
 ⟨fun st e1 e2 σ w F a hc R hR=>by
  obtain ⟨v,r,hrun,hrel,hk⟩:=Yte hc (wV_ok ht h)
  refine Q5d D hi hs hf hr (fun c a w hp=>hp) (.inl ⟨by simp [Region.wanted,hg],hrun⟩) (RA.out (Yub (K:=fun l=>RA P N ops k (li.setIfInBounds i true) K (mkA n l) aw) hk) st e1 e2 σ w F _ ?_ R hR)
  have:=Yfa hc hrel o.dst
  rwa [Yha] at this⟩
theorem sO (h:OP P N o (mkA n l) aw fun r aw=>stD l o.dst r fun l=>RS P N ops os K (mkA n l) aw) (hg:o.guard=none:=by rfl):RS P N ops (o::os) K (mkA n l) aw :=
 RS.op hg (h.mono fun r aw' h=>Yub (K:=fun l=>RS P N ops os K (mkA n l) aw') h)
theorem sQ (h:vcQ P (mkA n l) aw o.op fun r=>stD l o.dst r fun l=>RS P N ops os K (mkA n l) aw) (hg:o.guard=none:=by rfl) (hq:V0c o.op=true:=by rfl):RS P N ops (o::os) K (mkA n l) aw :=
 sO (OP.q (K2:=fun r aw=>stD l o.dst r fun l=>RS P N ops os K (mkA n l) aw) hq h) hg
theorem yO {j t:Nat} {want b:Bool} (hbw:b=want) (h:OP P N o (mkA n l) aw fun r aw=>stD l o.dst r fun l=>RS P N ops os K (mkA n l) aw) (hg:o.guard=some (j,want):=by rfl) (hj:(ops[j]?).bind (·.dst)=some t:=by rfl) (hb:evA n l (.tmp t)=.bool b:=by rfl) :
 RS P N ops (o::os) K (mkA n l) aw:=RS.yes hg hj hb hbw (h.mono fun r aw' h=>Yub (K:=fun l=>RS P N ops os K (mkA n l) aw') h)
theorem yQ {j t:Nat} {want b:Bool} (hbw:b=want) (h:vcQ P (mkA n l) aw o.op fun r=>stD l o.dst r fun l=>RS P N ops os K (mkA n l) aw) (hg:o.guard=some (j,want):=by rfl) (hj:(ops[j]?).bind (·.dst)=some t:=by rfl) (hb:evA n l (.tmp t)=.bool b:=by rfl) (hq:V0c o.op=true:=by rfl) :
 RS P N ops (o::os) K (mkA n l) aw:=yO hbw (OP.q (K2:=fun r aw=>stD l o.dst r fun l=>RS P N ops os K (mkA n l) aw) hq h) hg hj hb
theorem sN {j t:Nat} {want b:Bool} (hbw:b=!want) (h:stD l o.dst (.tup []) fun l=>RS P N ops os K (mkA n l) aw) (hg:o.guard=some (j,want):=by rfl) (hj:(ops[j]?).bind (·.dst)=some t:=by rfl) (hb:evA n l (.tmp t)=.bool b:=by rfl) :
 RS P N ops (o::os) K (mkA n l) aw:=RS.no hg hj hb hbw (Yub (K:=fun l=>RS P N ops os K (mkA n l) aw) h)
theorem sU {j t:Nat} {want:Bool} (h:stD l o.dst (.tup []) fun l=>RS P N ops os K (mkA n l) aw) (hg:o.guard=some (j,want):=by rfl) (hj:(ops[j]?).bind (·.dst)=some t:=by rfl) (hb:evA n l (.tmp t)=.tup []:=by rfl) :
 RS P N ops (o::os) K (mkA n l) aw:=RS.nou hg hj hb (Yub (K:=fun l=>RS P N ops os K (mkA n l) aw) h)
theorem oO {i:Nat} (hi:ops[i]?=some o) (h:OP P N o (mkA n l) aw fun r aw=>stD l o.dst r fun l=>K (mkA n l) aw) (hg:o.guard=none:=by rfl):RO P N ops i K (mkA n l) aw :=
 RO.op hi hg (h.mono fun r aw' h=>Yub (K:=fun l=>K (mkA n l) aw') h)
theorem r0 (i:Nat) (hi:ops[i]?=some o) (h:vcQ P (mkA n l) aw o.op fun r=>stD l o.dst r fun l=>RA P N ops k (li.setIfInBounds i true) K (mkA n l) aw) (hs:Region.noSelect ops=true:=by decide +kernel) (hf:Region.free .any ops li i=true:=by decide +kernel)
  (hr:(Region.ready .any ops li).contains i=true:=by decide +kernel) (hg:o.guard=none:=by rfl) (hn:Jbc o.op=true:=by rfl):RA P N ops (k+1) li K (mkA n l) aw :=
 ⟨fun st e1 e2 σ w F a hc R hR=>by
  obtain ⟨v,r,hrun,hrel,hk⟩:=Zdc hc hn h
  refine wpAny_take hi hs hf hr (fun c a w hp=>hp) (.inl ⟨by simp [Region.wanted,hg],hrun⟩) (RA.out (Yub (K:=fun l=>RA P N ops k (li.setIfInBounds i true) K (mkA n l) aw) hk) st e1 e2 σ w F _ ?_ R hR)
  have:=Yfa hc hrel o.dst
  rwa [Yha] at this⟩
theorem r1 (i:Nat) (hi:ops[i]?=some o) {j t:Nat} {want b:Bool} (hbw:b=want) (h:vcQ P (mkA n l) aw o.op fun r=>stD l o.dst r fun l=>RA P N ops k (li.setIfInBounds i true) K (mkA n l) aw) (hs:Region.noSelect ops=true:=by decide +kernel) (hf:Region.free .any ops li i=true:=by decide +kernel)
  (hr:(Region.ready .any ops li).contains i=true:=by decide +kernel) (hg:o.guard=some (j,want):=by rfl) (hj:(ops[j]?).bind (·.dst)=some t:=by rfl) (hb:evA n l (.tmp t)=.bool b:=by rfl) (hn:Jbc o.op=true:=by rfl):RA P N ops (k+1) li K (mkA n l) aw :=
 ⟨fun st e1 e2 σ w F a hc R hR=>by
  obtain ⟨v,r,hrun,hrel,hk⟩:=Zdc hc hn h
  refine wpAny_take hi hs hf hr (fun c a w hp=>hp) (.inl ⟨by simp [Region.wanted,hg,Znb hc hj hb,hbw],hrun⟩) (RA.out (Yub (K:=fun l=>RA P N ops k (li.setIfInBounds i true) K (mkA n l) aw) hk) st e1 e2 σ w F _ ?_ R hR)
  have:=Yfa hc hrel o.dst
  rwa [Yha] at this⟩
theorem r2 (i:Nat) (hi:ops[i]?=some o) {j t:Nat} {want b:Bool} (hbw:b=!want) (h:stD l o.dst (.tup []) fun l=>RA P N ops k (li.setIfInBounds i true) K (mkA n l) aw) (hs:Region.noSelect ops=true:=by decide +kernel) (hf:Region.free .any ops li i=true:=by decide +kernel)
  (hr:(Region.ready .any ops li).contains i=true:=by decide +kernel) (hg:o.guard=some (j,want):=by rfl) (hj:(ops[j]?).bind (·.dst)=some t:=by rfl) (hb:evA n l (.tmp t)=.bool b:=by rfl):RA P N ops (k+1) li K (mkA n l) aw :=
 RA.t2 hi hs hf hr rfl hg hj hb hbw (Yub (K:=fun l=>RA P N ops k (li.setIfInBounds i true) K (mkA n l) aw) h)
theorem r3 (i:Nat) (hi:ops[i]?=some o) {j t:Nat} {want:Bool} (h:stD l o.dst (.tup []) fun l=>RA P N ops k (li.setIfInBounds i true) K (mkA n l) aw) (hs:Region.noSelect ops=true:=by decide +kernel) (hf:Region.free .any ops li i=true:=by decide +kernel)
  (hr:(Region.ready .any ops li).contains i=true:=by decide +kernel) (hg:o.guard=some (j,want):=by rfl) (hj:(ops[j]?).bind (·.dst)=some t:=by rfl) (hb:evA n l (.tmp t)=.tup []:=by rfl):RA P N ops (k+1) li K (mkA n l) aw :=
 RA.t3 hi hs hf hr rfl hg hj hb (Yub (K:=fun l=>RA P N ops k (li.setIfInBounds i true) K (mkA n l) aw) h)
def nfL (f:AV→(AV→Prop)→Prop):List AV→(List AV→Prop)→Prop
 | [],K=>K []
 | a::es,K=>f a fun a=>nfL f es fun es=>K (a::es)
def nfA:Nat→AV→(AV→Prop)→Prop
 | 0,a,K=>fA a K
 | k+1,a,K=>(match a with
  | .agg cs=>nfL (nfA k) cs fun cs=>K (.agg cs)
  | .tup cs=>nfL (nfA k) cs fun cs=>K (.tup cs)
  | .func f cs=>nfL (nfA k) cs fun cs=>K (.func f cs)
  | .bnd f cs=>nfL (nfA k) cs fun cs=>K (.bnd f cs)
  | a=>fA a K)
theorem Jgd {f:AV→(AV→Prop)→Prop} (hf:∀ {a:AV} {K:AV→Prop},f a K→K a):∀ {es:List AV} {K:List AV→Prop},nfL f es K→K es
 | [],K,h=>h
 | a::es,K,h=>Jgd hf (es:=es) (K:=fun es=>K (a::es)) (hf h)
theorem V3f:∀ {k:Nat} {a:AV} {K:AV→Prop},nfA k a K→K a:=by
 intro k
 induction k with
 | zero=>exact fun h=>fA_ok h
 | succ k ih =>
  intro a K h
  cases a<;>first | exact fA_ok h | exact Jgd ih (K:=fun cs=>K (.agg cs)) h | exact Jgd ih (K:=fun cs=>K (.tup cs)) h | exact Jgd ih (K:=fun cs=>K (.func _ cs)) h | exact Jgd ih (K:=fun cs=>K (.bnd _ cs)) h
def nfF (g:AV→AV):List (Nat × AV)→(List (Nat × AV)→Prop)→Prop
 | [],K=>K []
 | (s,v)::r,K=>nfA 2 (g v) fun v=>nfF g r fun r=>K ((s,v)::r)
theorem V4f {g:AV→AV}:∀ {l:List (Nat × AV)} {K:List (Nat × AV)→Prop},nfF g l K→K (l.map fun p=>(p.1,g p.2))
 | [],K,h=>h
 | (s,v)::r,K,h=>V4f (l:=r) (K:=fun r=>K ((s,g v)::r)) (V3f (K:=fun v=>nfF g r fun r=>K ((s,v)::r)) h)
def nfO (g:AV→AV):List Ob→(List Ob→Prop)→Prop
 | [],K=>K []
 | o::os,K=>(match o with
  | .box cs=>nfL (nfA 1) (cs.map g) fun cs=>nfO g os fun os=>K (.box cs::os)
  | o=>nfO g os fun os=>K (o::os))
theorem Yce {id:Nat} {rows:List (List AV)}:∀ {os:List Ob} {K:List Ob→Prop},nfO (fz2 id rows) os K→K (os.map (fzOb id rows))
 | [],K,h=>h
 | o::os,K,h=>by
  cases o with
  | box cs=>exact Yce (os:=os) (K:=fun os=>K (.box (cs.map (fz2 id rows))::os)) (Jgd V3f (K:=fun cs=>nfO (fz2 id rows) os fun os=>K (.box cs::os)) h)
  | _=>exact Yce (os:=os) (K:=fun os=>K (_::os)) h
def fzC (aw:List Ob) (l:List (Nat × AV)) (id:Nat) (K:List (Nat × AV)→List Ob→Prop):Prop :=
 getC aw id fun o=>(match o with
  | .arr _ _ rows=>nfF (fzV id rows) l fun l=>setC aw id .dead fun aw=>nfO (fz2 id rows) aw fun aw=>K l aw
  | _=>False)
theorem Q8e {id:Nat} {K:List (Nat × AV)→List Ob→Prop} (h:fzC aw l id K):∃ e s rows,aw[id]?=some (.arr e s rows)∧K (fzA id rows l) ((aw.set id .dead).map (fzOb id rows)):=by
 obtain ⟨o,h1,h⟩:=Vua h
 split at h
 ·exact ⟨_,_,_,h1,Yce (Y2c (V4f h))⟩
 ·exact h.elim
theorem T.fC (id:Nat) {c:Code} {Q:Exit→List AV→List Ob→Prop} (h:fzC aw l id fun l aw=>T P N c Q (mkA n l) aw):T P N c Q (mkA n l) aw:=by
 obtain ⟨e,s,rows,h1,h2⟩:=Q8e h
 exact T.fz id h1 rfl rfl h2
theorem RS.fC (id:Nat) (h:fzC aw l id fun l aw=>RS P N ops os K (mkA n l) aw):RS P N ops os K (mkA n l) aw:=by
 obtain ⟨e,s,rows,h1,h2⟩:=Q8e h
 exact RS.fz id h1 rfl rfl h2
theorem RA.fC (id:Nat) (h:fzC aw l id fun l aw=>RA P N ops k li K (mkA n l) aw):RA P N ops k li K (mkA n l) aw:=by
 obtain ⟨e,s,rows,h1,h2⟩:=Q8e h
 exact RA.fz id h1 rfl rfl h2
theorem RO.fC {i:Nat} (id:Nat) (h:fzC aw l id fun l aw=>RO P N ops i K (mkA n l) aw):RO P N ops i K (mkA n l) aw:=by
 obtain ⟨e,s,rows,h1,h2⟩:=Q8e h
 exact RO.fz id h1 rfl rfl h2
theorem RA.jn (k':Nat) (li':Array Bool) {fr':List AV} {aw':List Ob} (h2:RA P N ops k' li' K fr' aw'→RA P N ops k li K fr aw) (h:RA P N ops k' li' K fr' aw'):RA P N ops k li K fr aw:=h2 h
theorem raE (h:RA P N ops k li' K fr aw) (hl:li=li':=by decide +kernel):RA P N ops k li K fr aw:=by subst hl;exact h
theorem subF_ok {l':List (Nat × AV)} (h:l'.map (fun p=>lkA l p.1)=l'.map (fun p=>lkA l' p.1)) (t:Nat):lkA l' t=.any∨lkA l' t=lkA l t:=by
 have key:∀ (q:List (Nat × AV)),q.map (fun p=>lkA l p.1)=q.map (fun p=>lkA l' p.1)→lkA q t=.any∨lkA l' t=lkA l t:=by
  intro q
  induction q with
  | nil=>intro _;exact .inl rfl
  | cons p q ih =>
   intro h
   simp only [List.map_cons,List.cons.injEq] at h
   obtain ⟨s,v⟩:=p
   rw [Y4b]
   by_cases e:s=t
   ·subst e;exact .inr h.1.symm
   ·rw [if_neg e];exact ih h.2
 exact key l' h
theorem Jve {l':List (Nat × AV)} {st:St} {σ:List Value} {w:World} {F:Nat→Prop} {a:Act} (h:l'.map (fun p=>lkA l p.1)=l'.map (fun p=>lkA l' p.1)) (hc:Cur st (mkA n l) aw σ w F a):Cur st (mkA n l') aw σ w F a:=by
 refine ⟨hc.sim,⟨⟨?_,fun j x v hx hv=>?_⟩,hc.fr.2⟩,hc.mv,hc.ds⟩
 ·have:=hc.fr.1.1
  rw [Z3c] at this ⊢
  exact this
 ·rw [V0b] at hx
  split at hx
  ·rename_i hj
   cases hx
   rcases subF_ok h j with e | e
   ·rw [e];exact .any _
   ·rw [e];exact hc.fr.1.2 j _ v (by rw [V0b,if_pos hj]) hv
  ·cases hx
theorem raT {l':List (Nat × AV)} (h:RA P N ops k li' K (mkA n l') aw) (hs:l'.map (fun p=>lkA l p.1)=l'.map (fun p=>lkA l' p.1):=by rfl) (hl:li=li':=by decide +kernel):RA P N ops k li K (mkA n l) aw:=by
 subst hl
 exact ⟨fun st h1 h2 σ w F a hc=>h.out st h1 h2 σ w F a (Jve hs hc)⟩
theorem raV {l':List (Nat × AV)} {aw1:List Ob} (h:RA P N ops k li' K (mkA n l') aw1) (ρ:List Nat) (hw:mpF ρ l' l fun bs es=>mpOs ρ aw ρ aw1 fun bs' es'=>(bs,bs')=(es,es')) [g:GoodF l'] [g':GoodOs aw1]
  (h1:ρ.Nodup:=by decide) (h2:∀ k,k<N→ρ[k]?=some k:=by decide) (hl:li=li':=by decide +kernel):RA P N ops k li K (mkA n l) aw:=by
 subst hl
 obtain ⟨bs,es,hw,h3⟩:=Jxf hw
 obtain ⟨bs',es',hw,h4⟩:=Q4d hw
 injection hw with e1 e2
 exact RA.weakR h (Weak.mk ρ h1 h2 (h3 g.out e1) (h4 g'.out e2))
theorem T.su {l':List (Nat × AV)} {c:Code} {Q:Exit→List AV→List Ob→Prop} (h:T P N c Q (mkA n l') aw) (hs:l'.map (fun p=>lkA l p.1)=l'.map (fun p=>lkA l' p.1):=by rfl):T P N c Q (mkA n l) aw:=⟨fun st h1 h2 σ w F a hc=>h.out st h1 h2 σ w F a (Jve hs hc)⟩
end
section
variable {Q:Exit→List AV→List Ob→Prop} {c1 c2:Code} {x:Operand}
theorem T.ci {α:Type} {b:Bool} {u v:Option α} {r:α} (h:(if b=true then u else v)=some r) (hx:evA n l x=.bool b) (ht:b=true→u=some r→T P N c1 Q (mkA n l) aw) (he:b=false→v=some r→T P N c2 Q (mkA n l) aw):T P N (.cond x c1 c2) Q (mkA n l) aw :=
 T.cond hx (fun hb=>ht hb (ite_T h hb)) (fun hb=>he hb (ite_F h hb))
theorem T.ct (hx:evA n l x=.bool true) (h:T P N c1 Q (mkA n l) aw):T P N (.cond x c1 c2) Q (mkA n l) aw:=T.cond hx (fun _=>h) (fun hb=>by cases hb)
theorem T.cf (hx:evA n l x=.bool false) (h:T P N c2 Q (mkA n l) aw):T P N (.cond x c1 c2) Q (mkA n l) aw:=T.cond hx (fun hb=>by cases hb) (fun _=>h)
def iniC:Nat→List AV→(List (Nat × AV)→Prop)→Prop
 | _,[],K=>K []
 | k,a::es,K=>iniC (k+1) es fun l=>K ((k,a)::l)
theorem Zfd:∀ {es:List AV} {k:Nat} {K:List (Nat × AV)→Prop},iniC k es K→K (initA k es)
 | [],k,K,h=>h
 | a::es,k,K,h=>Zfd (es:=es) (K:=fun l=>K ((k,a)::l)) h
theorem fnT {f:FuncId} {fn:Func} {c:Code} {args:List AV} {Q:AV→List Ob→Prop} {m:Nat} (N:Nat) (hf:P.funcs[f]?=some fn) (hm:fn.ntmps=m) (h:iniC 0 args fun l=>T P N c (retQ P fn N Q) (mkA m l) aw)
  (hb:fn.body=some c:=by rfl) (hN:aw.length=N:=by rfl) (hname:(fn.name == "runtime.NumGoroutine")=false:=by kernel_rfl) (hl:Nat.ble args.length m=true:=by rfl):ACalls P f args aw Q :=
 V3c hN hf hb hname hm hl (Zfd (K:=fun l=>T P N c (retQ P fn N Q) (mkA m l) aw) h)
end
end
theorem Qza {P:Program} {N n:Nat} {aw:List Ob} {l:List (Nat × AV)} {d:Option Tmp} {ty:TypeId} {ps:String} {af:Array Edge} {g:Option (Nat × Bool)} {K2:AV→List Ob→Prop} {f:Operand} {args:Array Operand} {ts:Array TypeId} {h:FuncId} {caps ac as0:List AV} {aw0 aw1 aw2:List Ob} {v v':AV} {n0 n1:Nat} (ρ:List Nat)
  (hf:evA n l f=.func h caps) (ha:args.toList.map (evA n l)++caps=ac) (hC:FnX P h as0 aw0 v aw1) (hW:RenW ρ aw ρ aw0) (hA:RenL ρ as0 ac)
  (hv:RenM (backM ρ n0 n1) v' v) (hB:BackW (backM ρ n0 n1) ρ aw aw1 0 aw2) (hK:K2 v' aw2) (hn0:aw.length=n0:=by rfl) (hn1:aw1.length=n1:=by rfl) (hnd:ρ.Nodup:=by decide) (hlen:aw2.length+ρ.length=n0+n1:=by rfl):OP P N ⟨d,.call ⟨.value f,args,ts⟩,ty,ps,af,g⟩ (mkA n l) aw K2 :=
 o_callF ρ hn0 hn1 hf ha hnd hW hA hC hlen hv hB hK
theorem Zpd {P:Program} {N n:Nat} {aw:List Ob} {l:List (Nat × AV)} {d:Option Tmp} {ty:TypeId} {ps:String} {af:Array Edge} {g:Option (Nat × Bool)} {K2:AV→List Ob→Prop} {f:Operand} {args:Array Operand} {ts:Array TypeId} {h:FuncId} {caps ac as0:List AV} {aw0 aw1 aw2:List Ob} {v v':AV} {n0 n1:Nat} (ρ:List Nat)
  (hf:evA n l f=.bnd h caps) (ha:caps++args.toList.map (evA n l)=ac) (hC:FnX P h as0 aw0 v aw1) (hW:RenW ρ aw ρ aw0) (hA:RenL ρ as0 ac)
  (hv:RenM (backM ρ n0 n1) v' v) (hB:BackW (backM ρ n0 n1) ρ aw aw1 0 aw2) (hK:K2 v' aw2) (hn0:aw.length=n0:=by rfl) (hn1:aw1.length=n1:=by rfl) (hnd:ρ.Nodup:=by decide) (hlen:aw2.length+ρ.length=n0+n1:=by rfl):OP P N ⟨d,.call ⟨.value f,args,ts⟩,ty,ps,af,g⟩ (mkA n l) aw K2 :=
 Z8f ρ hn0 hn1 hf ha hnd hW hA hC hlen hv hB hK
end Go.Proofs.YtchmpaaofmihcaaGreat
namespace Go.Proofs.YtchmpaaofmihcaaGreat
open Go.RowKit
set_option maxRecDepth 100000
set_option linter.unusedVariables false
def tyT:TT:=.n 64 (.n 26 (.n 12 (.n 8 (.n 5 (.l 3 (.it .i64)) (.n 7 (.l 5 (.it .u8)) (.l 7 (.ag [.int .i64 0,.int .i64 0,.bool false,.int .u8 0] 4 [(0,1,2),(1,1,3),(2,1,4),(3,1,6)])))) (.n 9 (.l 8 (.ag [.int .i64 0,.int .i64 0,.bool false,.int .u8 0] 4 [(0,1,2),(1,1,3),(2,1,4),(3,1,6)])) (.n 10 (.l 9 (.str)) (.l 10 (.str))))) (.n 22 (.n 16 (.l 12 (.it .u64)) (.n 18 (.l 16 (.sc (.nilp))) (.l 18 (.ag [.nilp] 1 [(0,1,17)])))) (.n 24 (.n 23 (.l 22 (.sl 9 1)) (.l 23 (.sl 34 2))) (.n 25 (.l 24 (.ag [.nils,.nils] 2 [(0,1,22),(1,1,23)])) (.l 25 (.ag [.nils,.nils] 2 [(0,1,22),(1,1,23)])))))) (.n 47 (.n 35 (.n 28 (.l 26 (.it .i64)) (.n 34 (.l 28 (.sc (.nilf))) (.l 34 (.ag [.int .i64 0,.str []] 2 [(0,1,3),(1,1,9)])))) (.n 44 (.n 38 (.l 35 (.sl 5 1)) (.l 38 (.sc (.nilf)))) (.n 45 (.l 44 (.sc (.nilf))) (.l 45 (.sl 118 4))))) (.n 50 (.n 48 (.l 47 (.ag [.nils,.int .i64 0,.int .i64 0] 3 [(0,1,45),(1,1,3),(2,1,3)])) (.n 49 (.l 48 (.sl 52 1)) (.l 49 (.sl 3 1)))) (.n 52 (.n 51 (.l 50 (.sl 90 3)) (.l 51 (.sl 94 2))) (.n 54 (.l 52 (.sl 115 3)) (.l 54 (.ag [.nils,.nils,.nils,.nils,.nils] 5 [(0,1,49),(1,1,48),(2,1,50),(3,1,51),(4,1,52)]))))))) (.n 101 (.n 85 (.n 69 (.n 67 (.l 64 (.sc (.nilf))) (.n 68 (.l 67 (.sc (.nilf))) (.l 68 (.sc (.nilf))))) (.n 79 (.n 74 (.l 69 (.sc (.nilf))) (.l 74 (.sc (.nilf)))) (.n 83 (.l 79 (.sc (.nilf))) (.l 83 (.ag [.nilp,.nils] 2 [(0,1,81),(1,1,35)]))))) (.n 92 (.n 88 (.l 85 (.ag [.nilp,.nils] 2 [(0,2,83)])) (.n 90 (.l 88 (.sl 92 2)) (.l 90 (.ag [.int .i64 0,.nils,.int .i64 0] 3 [(0,1,3),(1,1,88),(2,1,3)])))) (.n 97 (.n 94 (.l 92 (.ag [.int .i64 0,.int .i64 0] 2 [(0,1,3),(1,1,3)])) (.l 94 (.ag [.int .i64 0,.int .i64 0] 2 [(0,1,3),(1,1,3)]))) (.n 99 (.l 97 (.ag [] 0 [])) (.l 99 (.sc (.nilp))))))) (.n 146 (.n 118 (.n 106 (.l 101 (.ag [.str []] 1 [(0,1,9)])) (.n 115 (.l 106 (.sc (.nilf))) (.l 115 (.ag [.int .i64 0,.int .i64 0,.int .i64 0] 3 [(0,1,3),(1,1,3),(2,1,3)])))) (.n 135 (.n 128 (.l 118 (.ag [.int .i64 0,.int .i64 0,.nils,.nils] 4 [(0,1,3),(1,1,3),(2,1,49),(3,1,49)])) (.l 128 (.it .u64))) (.n 140 (.l 135 (.ag [.int .i64 0,.int .i64 0] 2 [(0,1,3),(1,1,3)])) (.l 140 (.it .u64))))) (.n 182 (.n 149 (.l 146 (.sl 4 1)) (.n 151 (.l 149 (.sc (.nilf))) (.l 151 (.ag [.nilf,.nilf] 2 [(0,1,149),(1,1,149)])))) (.n 189 (.n 186 (.l 182 (.sl 186 2)) (.l 186 (.ag [.int .i64 0,.int .i64 0] 2 [(0,1,3),(1,1,3)]))) (.n 190 (.l 189 (.sc (.nilf))) (.l 190 (.ar [.nilf,.nilf,.nilf,.nilf] 4)))))))
theorem J4c:tyT.Ok Tryz.prog:=⟨⟨⟨⟨⟨⟨⟨Ty.k3,Ty.c3,Ty.i3⟩,Ty.z3,Tryz.underlying3⟩,⟨⟨⟨Ty.k5,Ty.c5,Ty.i5⟩,Ty.z5,Tryz.underlying5⟩,⟨⟨Ty.k7,Ty.c7,Ty.i7,Ty.z7,rfl⟩,Ty.p7,⟨Ty.f7_0,Ty.f7_1,Ty.f7_2,Ty.f7_3,trivial⟩⟩⟩⟩,⟨⟨⟨Ty.k8,Ty.c8,Ty.i8,Ty.z8,rfl⟩,Ty.p8,⟨Ty.f8_0,Ty.f8_1,Ty.f8_2,Ty.f8_3,trivial⟩⟩,⟨⟨⟨Ty.k9,Ty.c9,Ty.i9⟩,Ty.z9,Tryz.underlying9⟩,⟨⟨Ty.k10,Ty.c10,Ty.i10⟩,Ty.z10,Tryz.underlying10⟩⟩⟩⟩,⟨⟨⟨⟨Ty.k12,Ty.c12,Ty.i12⟩,Ty.z12,Tryz.underlying12⟩,⟨⟨⟨Ty.k16,Ty.c16,Ty.i16⟩,Ty.z16⟩,⟨⟨Ty.k18,Ty.c18,Ty.i18,Ty.z18,rfl⟩,Ty.p18,⟨Ty.f18_0,trivial⟩⟩⟩⟩,⟨⟨⟨⟨Ty.k22,Ty.c22,Ty.i22⟩,Ty.z22,Ty.s22⟩,⟨⟨Ty.k23,Ty.c23,Ty.i23⟩,Ty.z23,Ty.s23⟩⟩,⟨⟨⟨Ty.k24,Ty.c24,Ty.i24,Ty.z24,rfl⟩,Ty.p24,⟨Ty.f24_0,Ty.f24_1,trivial⟩⟩,⟨⟨Ty.k25,Ty.c25,Ty.i25,Ty.z25,rfl⟩,Ty.p25,⟨Ty.f25_0,Ty.f25_1,trivial⟩⟩⟩⟩⟩⟩,⟨⟨⟨⟨⟨Ty.k26,Ty.c26,Ty.i26⟩,Ty.z26,Tryz.underlying26⟩,⟨⟨⟨Ty.k28,Ty.c28,Ty.i28⟩,Ty.z28⟩,⟨⟨Ty.k34,Ty.c34,Ty.i34,Ty.z34,rfl⟩,Ty.p34,⟨Ty.f34_0,Ty.f34_1,trivial⟩⟩⟩⟩,⟨⟨⟨⟨Ty.k35,Ty.c35,Ty.i35⟩,Ty.z35,Ty.s35⟩,⟨⟨Ty.k38,Ty.c38,Ty.i38⟩,Ty.z38⟩⟩,⟨⟨⟨Ty.k44,Ty.c44,Ty.i44⟩,Ty.z44⟩,⟨⟨Ty.k45,Ty.c45,Ty.i45⟩,Ty.z45,Ty.s45⟩⟩⟩⟩,⟨⟨⟨⟨Ty.k47,Ty.c47,Ty.i47,Ty.z47,rfl⟩,Ty.p47,⟨Ty.f47_0,Ty.f47_1,Ty.f47_2,trivial⟩⟩,⟨⟨⟨Ty.k48,Ty.c48,Ty.i48⟩,Ty.z48,Ty.s48⟩,⟨⟨Ty.k49,Ty.c49,Ty.i49⟩,Ty.z49,Ty.s49⟩⟩⟩,⟨⟨⟨⟨Ty.k50,Ty.c50,Ty.i50⟩,Ty.z50,Ty.s50⟩,⟨⟨Ty.k51,Ty.c51,Ty.i51⟩,Ty.z51,Ty.s51⟩⟩,⟨⟨⟨Ty.k52,Ty.c52,Ty.i52⟩,Ty.z52,Ty.s52⟩,⟨⟨Ty.k54,Ty.c54,Ty.i54,Ty.z54,rfl⟩,Ty.p54,⟨Ty.f54_0,Ty.f54_1,Ty.f54_2,Ty.f54_3,Ty.f54_4,trivial⟩⟩⟩⟩⟩⟩⟩,⟨⟨⟨⟨⟨⟨Ty.k64,Ty.c64,Ty.i64⟩,Ty.z64⟩,⟨⟨⟨Ty.k67,Ty.c67,Ty.i67⟩,Ty.z67⟩,⟨⟨Ty.k68,Ty.c68,Ty.i68⟩,Ty.z68⟩⟩⟩,⟨⟨⟨⟨Ty.k69,Ty.c69,Ty.i69⟩,Ty.z69⟩,⟨⟨Ty.k74,Ty.c74,Ty.i74⟩,Ty.z74⟩⟩,⟨⟨⟨Ty.k79,Ty.c79,Ty.i79⟩,Ty.z79⟩,⟨⟨Ty.k83,Ty.c83,Ty.i83,Ty.z83,rfl⟩,Ty.p83,⟨Ty.f83_0,Ty.f83_1,trivial⟩⟩⟩⟩⟩,⟨⟨⟨⟨Ty.k85,Ty.c85,Ty.i85,Ty.z85,rfl⟩,Ty.p85,⟨Ty.f85_0,trivial⟩⟩,⟨⟨⟨Ty.k88,Ty.c88,Ty.i88⟩,Ty.z88,Ty.s88⟩,⟨⟨Ty.k90,Ty.c90,Ty.i90,Ty.z90,rfl⟩,Ty.p90,⟨Ty.f90_0,Ty.f90_1,Ty.f90_2,trivial⟩⟩⟩⟩,⟨⟨⟨⟨Ty.k92,Ty.c92,Ty.i92,Ty.z92,rfl⟩,Ty.p92,⟨Ty.f92_0,Ty.f92_1,trivial⟩⟩,⟨⟨Ty.k94,Ty.c94,Ty.i94,Ty.z94,rfl⟩,Ty.p94,⟨Ty.f94_0,Ty.f94_1,trivial⟩⟩⟩,⟨⟨⟨Ty.k97,Ty.c97,Ty.i97,Ty.z97,rfl⟩,Ty.p97,trivial⟩,⟨⟨Ty.k99,Ty.c99,Ty.i99⟩,Ty.z99⟩⟩⟩⟩⟩,⟨⟨⟨⟨⟨Ty.k101,Ty.c101,Ty.i101,Ty.z101,rfl⟩,Ty.p101,⟨Ty.f101_0,trivial⟩⟩,⟨⟨⟨Ty.k106,Ty.c106,Ty.i106⟩,Ty.z106⟩,⟨⟨Ty.k115,Ty.c115,Ty.i115,Ty.z115,rfl⟩,Ty.p115,⟨Ty.f115_0,Ty.f115_1,Ty.f115_2,trivial⟩⟩⟩⟩,⟨⟨⟨⟨Ty.k118,Ty.c118,Ty.i118,Ty.z118,rfl⟩,Ty.p118,⟨Ty.f118_0,Ty.f118_1,Ty.f118_2,Ty.f118_3,trivial⟩⟩,⟨⟨Ty.k128,Ty.c128,Ty.i128⟩,Ty.z128,Tryz.underlying128⟩⟩,⟨⟨⟨Ty.k135,Ty.c135,Ty.i135,Ty.z135,rfl⟩,Ty.p135,⟨Ty.f135_0,Ty.f135_1,trivial⟩⟩,⟨⟨Ty.k140,Ty.c140,Ty.i140⟩,Ty.z140,Tryz.underlying140⟩⟩⟩⟩,⟨⟨⟨⟨Ty.k146,Ty.c146,Ty.i146⟩,Ty.z146,Ty.s146⟩,⟨⟨⟨Ty.k149,Ty.c149,Ty.i149⟩,Ty.z149⟩,⟨⟨Ty.k151,Ty.c151,Ty.i151,Ty.z151,rfl⟩,Ty.p151,⟨Ty.f151_0,Ty.f151_1,trivial⟩⟩⟩⟩,⟨⟨⟨⟨Ty.k182,Ty.c182,Ty.i182⟩,Ty.z182,Ty.s182⟩,⟨⟨Ty.k186,Ty.c186,Ty.i186,Ty.z186,rfl⟩,Ty.p186,⟨Ty.f186_0,Ty.f186_1,trivial⟩⟩⟩,⟨⟨⟨Ty.k189,Ty.c189,Ty.i189⟩,Ty.z189⟩,⟨Ty.k190,Ty.c190,Ty.i190,Ty.z190,rfl⟩⟩⟩⟩⟩⟩⟩
section
variable {N n:Nat} {aw aw':List Ob} {l:List (Nat × AV)} {ops:Array Oper} {os:List Oper} {K:List AV→List Ob→Prop} {k:Nat} {li:Array Bool}
theorem go (m c:Nat) (h:wR tyT n m os l aw c fun os l aw=>RS Tryz.prog N ops os K (mkA n l) aw) (hc:aw.length=c:=by rfl):RS Tryz.prog N ops os K (mkA n l) aw:=RS.go J4c hc h
theorem rq (is:List Nat) (k':Nat) (h:wQ tyT n ops.toList is l aw fun l=>RA Tryz.prog N ops k' (lisQ li is) K (mkA n l) aw) (hk:k=k' + is.length:=by rfl) (hs:Region.noSelect ops=true:=by decide +kernel) (ho:okQ ops li is=true:=by decide +kernel):RA Tryz.prog N ops k li K (mkA n l) aw:=RA.qs J4c hs hk ho h
theorem og {i:Nat} (c:Nat) (h:getC ops.toList i fun o=>o.guard=none∧wE tyT n l aw c o.op fun r aw c=>(match o.dst with
 | some t=>K (mkA n ((t,r)::l)) aw
 | none=>K (mkA n l) aw)) (hc:aw.length=c:=by rfl):RO Tryz.prog N ops i K (mkA n l) aw:=RO.g J4c hc h
variable {o:Oper} {Q:Exit→List AV→List Ob→Prop} {rs:List ResultVar} {V:AV} {obs:List Ob} {M:Nat}
theorem yg (c:Nat) {j t:Nat} {want b:Bool} (hbw:b=want) (h:wE tyT n l aw c o.op fun r aw _=>stD l o.dst r fun l=>RS Tryz.prog N ops os K (mkA n l) aw) (hg:o.guard=some (j,want):=by rfl) (hj:(ops[j]?).bind (·.dst)=some t:=by rfl) (hb:evA n l (.tmp t)=.bool b:=by rfl) (hc:aw.length=c:=by rfl):RS Tryz.prog N ops (o::os) K (mkA n l) aw:=yg' J4c c hbw h hg hj hb hc
theorem oy {i:Nat} (c:Nat) {j t:Nat} {want b:Bool} (hbw:b=want) (hi:ops[i]?=some o) (h:wE tyT n l aw c o.op fun r aw _=>stD l o.dst r fun l=>K (mkA n l) aw) (hg:o.guard=some (j,want):=by rfl) (hj:(ops[j]?).bind (·.dst)=some t:=by rfl) (hb:evA n l (.tmp t)=.bool b:=by rfl) (hc:aw.length=c:=by rfl):RO Tryz.prog N ops i K (mkA n l) aw:=oy' J4c c hbw hi h hg hj hb hc
theorem ry (i:Nat) {j t:Nat} {want b:Bool} (hbw:b=want) (hi:ops[i]?=some o) (h:wV tyT n l aw o.op fun r=>stD l o.dst r fun l=>RA Tryz.prog N ops k (li.setIfInBounds i true) K (mkA n l) aw) (hs:Region.noSelect ops=true:=by decide +kernel) (hf:Region.free .any ops li i=true:=by decide +kernel) (hr:(Region.ready .any ops li).contains i=true:=by decide +kernel) (hg:o.guard=some (j,want):=by rfl) (hj:(ops[j]?).bind (·.dst)=some t:=by rfl) (hb:evA n l (.tmp t)=.bool b:=by rfl) (hn:Jbc o.op=true:=by rfl):RA Tryz.prog N ops (k+1) li K (mkA n l) aw:=ry' J4c i hbw hi h hs hf hr hg hj hb hn
theorem rL (D:List Nat) (i:Nat) (hi:ops[i]?=some o) (h:wV tyT n l aw o.op fun r=>stD l o.dst r fun l=>RA Tryz.prog N ops k (li.setIfInBounds i true) K (mkA n l) aw) (hs:Region.noSelect ops=true:=by decide +kernel) (hf:RK.loadFree ops li D i=true:=by decide +kernel) (hr:(Region.ready .any ops li).contains i=true:=by decide +kernel) (hg:o.guard=none:=by rfl):RA Tryz.prog N ops (k+1) li K (mkA n l) aw:=rL' J4c D i hi h hs hf hr hg
theorem tD [hq:RetI Q (fun fr aw=>vcRes Tryz.prog fr aw rs (Ret 0 (fun r aw'=>r=V∧aw'=[]) aw))] [hV:PureC V] (h:resC tyT n l aw rs fun vs=>nrmRC aw (retAV vs) fun v _=>v=V:=by rfl):T Tryz.prog N .ret Q (mkA n l) aw:=T.rD J4c h
theorem tO (nl:List (Nat × TypeId × Nat)) (ρ:List Nat) (c:Nat) [hq:RetI Q (fun fr aw=>vcRes Tryz.prog fr aw rs (Ret M (fun r aw'=>r=V∧aw'=obs) aw))] [g:GoodA 3 V] [g':GoodOs obs] (h:resC tyT n l aw rs fun vs=>nilVC nl vs aw c fun vs aw=>fA (retAV vs) fun a=>mpA ρ 3 V a fun b=>mpOs ρ aw ρ obs fun bs es=>(b,bs)=(a,es):=by rfl) (hc:aw.length=c:=by rfl) (h1:ρ.Nodup:=by decide) (h2:∀ k,k<M→ρ[k]?=some k:=by decide):T Tryz.prog N .ret Q (mkA n l) aw:=T.rO J4c nl ρ c h hc h1 h2
theorem tN (ρ:List Nat) [hq:RetI Q (fun fr aw=>vcRes Tryz.prog fr aw rs (Ret M (fun r aw'=>r=V∧aw'=obs) aw))] [g:GoodA 3 V] [g':GoodOs obs] (h:resC tyT n l aw rs fun vs=>nrmRC aw (retAV vs) fun a aw=>mpA ρ 3 V a fun b=>mpOs ρ aw ρ obs fun bs es=>(b,bs)=(a,es):=by rfl) (h1:ρ.Nodup:=by decide) (h2:∀ k,k<M→ρ[k]?=some k:=by decide):T Tryz.prog N .ret Q (mkA n l) aw:=T.rN J4c ρ h h1 h2
end
end Go.Proofs.YtchmpaaofmihcaaGreat
namespace Go.Proofs.YtchmpaaofmihcaaGreat
open Go.RowKit
set_option linter.unusedVariables false
set_option linter.unusedSimpArgs false
set_option maxRecDepth 100000
set_option maxHeartbeats 4000000
set_option synthInstance.maxSize 100000
set_option synthInstance.maxHeartbeats 4000000
theorem Yyb (p0:Disk) (r:Int) (h:Q3b p0=some r):Fn Tryz.prog 23 [.agg (Vaa p0)] (iI r):=by
 unfold Q3b at h
 refine fnT 0 Tryz.func23 Tryz.ntmps23 ?_
 refine T.seq (T.region (go 2 0 (RS.nil (T.seq (T.join (Z:=Unit) (fun _=>mkA 48 [(1,.ptr 0 0),(16,.bool ((decide (((p0.Sectors).length:Int) > 200)) || decide (((p0.Wait).length:Int) > 300)))]) (fun _=>[.box (Vaa p0)]) (fun _=>True) (fun _ _=>?_) (fun hK=>?_))))))
 ·refine T.ci h rfl (fun hb_2 h=>?_) (fun hb_2 h=>?_)
  ·refine T.seq (T.region (go 1 1 (RS.nil ?_)))
   cases h
   exact tD
  refine T.skip (T.seq (T.seq (T.region (go 2 1 (sQ (Qia Ty.s22 rfl (go 1 1 (RS.nil (T.block (T.iter (fun ss_7:Int=>mkA 48 [(1,.ptr 0 0),(18,sL encS p0.Sectors),(19,iI ((p0.Sectors).length:Int)),(20,iI ss_7)]) (fun ss_7=>[.box (Vaa p0)]) h (wk [] [0] 1 rfl) (fun ss_7 v_8 h hv_8=>?_)))))))))))
  revert hv_8 h;revert ss_7;intro s2 h hv_8
  replace h:Ysa p0 s2=some v_8:=h
  try dsimp only
  unfold Ysa at h
  refine T.seq (T.region (go 1 1 (RS.nil (T.seq (T.ci h rfl (fun hb_9 h=>?_) (fun hb_9 h=>?_))))))
  ·refine T.skip (T.seq (T.block (T.seq ?_)))
   obtain ⟨x4,hx4,h⟩:=bind_some h
   refine T.region (sQ (Qka Ty.s22 (fun _=>rfl) rfl rfl hx4 (go 2 1 (RS.nil (T.seq (T.region (go 3 1 (RS.nil (T.ci h rfl (fun hb_10 h=>?_) (fun hb_10 h=>?_))))))))))
   ·refine T.seq (T.region (go 1 1 (RS.nil ?_)))
    obtain ⟨w_11,h,hw_11⟩:=Qpa h
    replace h:=h.trans (congrArg some (hv_8 _ hw_11))
    cases h
    exact tD
   refine T.skip (T.region (go 2 1 (RS.nil ?_)))
   exact ⟨IntKind.i64.wrap (s2+1),(Option.some.inj h).symm,wk [] [0] 1 rfl⟩
  refine T.exit ?_
  obtain ⟨w_12,h,hw_12⟩:=Qpa h
  replace h:=h.trans (congrArg some (hv_8 _ hw_12))
  refine T.seq (T.seq (T.region (go 2 1 (sQ (Qia Ty.s23 rfl (go 1 1 (RS.nil (T.block (T.iter (fun ss_21:Int=>mkA 48 [(29,sL J8a p0.Wait),(30,iI ((p0.Wait).length:Int)),(31,iI ss_21)]) (fun ss_21=>[]) h (wk [] [] 1 rfl) (fun ss_21 v_22 h hv_22=>?_))))))))))
  revert hv_22 h;revert ss_21;intro s5 h hv_22
  replace h:Qcb p0 s5=some v_22:=h
  try dsimp only
  unfold Qcb at h
  refine T.seq (T.region (go 1 0 (RS.nil (T.seq (T.ci h rfl (fun hb_23 h=>?_) (fun hb_23 h=>?_))))))
  ·refine T.skip (T.seq (T.block (T.seq ?_)))
   obtain ⟨x7,hx7,h⟩:=bind_some h
   refine T.region (sQ (Qka Ty.s23 (fun _=>rfl) rfl rfl hx7 (go 3 0 (RS.nil (T.seq (T.join (Z:=Unit) (fun _=>mkA 48 [(6,.ptr 0 0),(29,sL J8a p0.Wait),(30,iI ((p0.Wait).length:Int)),(31,iI s5),(42,.bool ((decide (x7.At<0)) || decide (x7.At ≥ 200)))]) (fun _=>[.box (J8a x7)]) (fun _=>True) (fun _ _=>?_) (fun hK=>?_)))))))
   ·refine T.ci h rfl (fun hb_25 h=>?_) (fun hb_25 h=>?_)
    ·refine T.seq (T.region (go 1 1 (RS.nil ?_)))
     obtain ⟨w_26,h,hw_26⟩:=Qpa h
     replace h:=h.trans (congrArg some (hv_22 _ hw_26))
     cases h
     exact tD
    refine T.skip (T.seq (T.region (go 4 1 (RS.nil (T.ci h rfl (fun hb_27 h=>?_) (fun hb_27 h=>?_))))))
    ·refine T.seq (T.region (go 1 1 (RS.nil ?_)))
     obtain ⟨w_28,h,hw_28⟩:=Qpa h
     replace h:=h.trans (congrArg some (hv_22 _ hw_28))
     cases h
     exact tD
    refine T.skip (T.region (go 2 1 (RS.nil ?_)))
    exact ⟨IntKind.i64.wrap (s5+1),(Option.some.inj h).symm,wk [] [] 1 rfl⟩
   refine T.region (go 4 1 ?_)
   rcases Qga (decide (x7.At<0)) with hb_24 | hb_24
   ·refine sN hb_24 (sN hb_24 (sN hb_24 (sQ (Qna (v:=.bool true) rfl hb_24 rfl (RS.nil ?_)))))
    exact T.sub (hK () trivial) ⟨rfl,rfl,rfl,rfl,(congrArg AV.bool (by simp only [hb_24,bz,if_true,if_false,Bool.false_eq_true])).symm,trivial⟩
   refine yg 1 hb_24 (yg 1 hb_24 (yg 1 hb_24 (sQ (Qha (v:=.bool (decide (x7.At ≥ 200))) rfl hb_24 rfl (RS.nil ?_)))))
   exact T.sub (hK () trivial) ⟨rfl,rfl,rfl,rfl,(congrArg AV.bool (by simp only [hb_24,bz,if_true,if_false,Bool.false_eq_true])).symm,trivial⟩
  refine T.exit ?_
  obtain ⟨w_29,h,hw_29⟩:=Qpa h
  replace h:=h.trans (congrArg some (hv_22 _ hw_29))
  refine T.seq (T.region (go 1 0 (RS.nil ?_)))
  cases h
  exact tD
 refine T.region (go 2 1 (sQ (Qia Ty.s22 rfl (go 2 1 ?_))))
 rcases Qga (decide (((p0.Sectors).length:Int) > 200)) with hb_1 | hb_1
 ·refine sN hb_1 (sN hb_1 (sN hb_1 (sN hb_1 (sQ (Qna (v:=.bool true) rfl hb_1 rfl (RS.nil ?_))))))
  exact T.sub (hK () trivial) ⟨rfl,(congrArg AV.bool (by simp only [hb_1,bz,if_true,if_false,Bool.false_eq_true])).symm,trivial⟩
 refine yg 1 hb_1 (yg 1 hb_1 (yQ hb_1 (Qia Ty.s23 rfl (yg 1 hb_1 (sQ (Qha (v:=.bool (decide (((p0.Wait).length:Int) > 300))) rfl hb_1 rfl (RS.nil ?_)))))))
 exact T.sub (hK () trivial) ⟨rfl,(congrArg AV.bool (by simp only [hb_1,bz,if_true,if_false,Bool.false_eq_true])).symm,trivial⟩
theorem Qod (p0:List UInt8) (r:Int) (h:Qsc p0=some r):Fn Tryz.prog 62 [.str p0] (iI r):=by
 unfold Qsc at h
 refine fnT 0 Tryz.func62 Tryz.ntmps62 ?_
 refine T.seq (T.region (go 1 0 (RS.nil (T.seq (T.region (go 1 0 (RS.nil (T.seq (T.seq ?_)))))))))
 refine T.region (go 3 0 (RS.nil (T.block (T.iter (fun ss_21:Int × Int=>mkA 29 [(0,.str p0),(3,iI ss_21.1),(6,iI ((p0).length:Int)),(7,iI ss_21.2)]) (fun ss_21=>[]) h (wk [] [] 0 rfl) (fun ss_21 v_22 h hv_22=>?_)))))
 obtain ⟨s1,s2⟩:=ss_21
 replace h:Qsb p0 s1 s2=some v_22:=h
 try dsimp only
 unfold Qsb at h
 refine T.seq (T.region (go 1 0 (RS.nil (T.seq (T.ci h rfl (fun hb_23 h=>?_) (fun hb_23 h=>?_))))))
 ·refine T.skip (T.seq (T.block (T.seq (T.region (go 2 0 (RS.nil (T.seq ?_)))))))
  obtain ⟨x5,hx5,h⟩:=bind_some h
  obtain ⟨x6,hx6,h⟩:=bind_some h
  refine T.region (go 3 0 (sQ (J9a Tryz.underlying9 rfl rfl hx5 (go 1 0 (sQ (v_shl rfl rfl hx6 (go 2 0 (RS.nil (T.seq (T.region (go 1 0 ?_)))))))))))
  refine RS.nil (T.block (T.iter (fun ss_28:Int × Int=>mkA 29 [(0,.str p0),(3,iI ss_28.1),(6,iI ((p0).length:Int)),(7,iI s2),(17,iI ss_28.2)]) (fun ss_28=>[]) h (wk [] [] 0 rfl) (fun ss_28 v_29 h hv_29=>?_)))
  obtain ⟨s7,s8⟩:=ss_28
  replace h:Qwb s2 s7 s8=some v_29:=h
  try dsimp only
  unfold Qwb at h
  refine T.seq (T.region (go 1 0 (RS.nil (T.seq (T.ci h rfl (fun hb_30 h=>?_) (fun hb_30 h=>?_))))))
  ·refine T.skip (T.seq (T.block (T.seq ?_)))
   obtain ⟨x10,hx10,h⟩:=bind_some h
   refine T.region (go 1 0 (sQ (v_shl rfl rfl hx10 (go 1 0 (RS.nil (T.seq (T.region (go 3 0 (RS.nil (T.ci h rfl (fun hb_31 h=>?_) (fun hb_31 h=>?_)))))))))))
   ·refine T.region (go 3 0 (RS.nil (T.region (go 2 0 (RS.nil ?_)))))
    exact ⟨(ibits .xor .i64 x10 69665,IntKind.i64.wrap (s8+1)),(Option.some.inj h).symm,wk [] [] 0 rfl⟩
   refine T.skip (T.region (go 2 0 (RS.nil ?_)))
   exact ⟨(x10,IntKind.i64.wrap (s8+1)),(Option.some.inj h).symm,wk [] [] 0 rfl⟩
  refine T.exit ?_
  obtain ⟨w_32,h,hw_32⟩:=Qpa h
  replace h:=h.trans (congrArg some (hv_29 _ hw_32))
  refine T.region (go 2 0 (RS.nil ?_))
  exact ⟨(s7,IntKind.i64.wrap (s2+1)),(Option.some.inj h).symm,wk [] [] 0 rfl⟩
 refine T.exit ?_
 obtain ⟨w_33,h,hw_33⟩:=Qpa h
 replace h:=h.trans (congrArg some (hv_22 _ hw_33))
 refine T.seq (T.region (go 2 0 (RS.nil ?_)))
 cases h
 exact tD
theorem Q0e (p0:List UInt8) (r:(List UInt8) × Int) (h:J1c p0=some r):Fn Tryz.prog 24 [.str p0] (.tup [.str r.1,iI r.2]):=by
 unfold J1c at h
 refine fnT 0 Tryz.func24 Tryz.ntmps24 ?_
 refine T.seq (T.region (go 2 0 (RS.nil (T.seq (T.seq (T.region (go 2 0 (RS.nil (T.ci h rfl (fun hb_1 h=>?_) (fun hb_1 h=>?_))))))))))
 ·refine T.seq (T.region (go 2 0 (RS.nil ?_)))
  cases h
  exact tD
 refine T.skip (T.seq (T.seq (T.region (go 3 0 (RS.nil (T.ci h rfl (fun hb_2 h=>?_) (fun hb_2 h=>?_)))))))
 ·refine T.seq (T.region (go 2 0 (RS.nil ?_)))
  cases h
  exact tD
 refine T.skip (T.seq ?_)
 obtain ⟨x3,hx3,h⟩:=bind_some h
 obtain ⟨x4,hx4,h⟩:=bind_some h
 refine T.region (go 3 0 (sO (Q9a (rows:=List.map enc8 [IntKind.u8.wrap ((p0).length:Int)]) (vs:=[.int .u8 (IntKind.u8.wrap ((p0).length:Int))]) Ty.s35 Ty.z5 rfl rfl rfl rfl rfl rfl (sO (Y0b (xs:=[IntKind.u8.wrap ((p0).length:Int)]) Tryz.underlying35 Tryz.underlying5 Tryz.underlying9 rfl rfl (go 1 1 (sQ (Ved rfl rfl hx3 (sO (cF (Qod x3 x4 hx4) ⟨rfl,(go 1 1 (RS.nil (T.seq ?_)))⟩))))))))))
 obtain ⟨x8,hx8,h⟩:=bind_some h
 obtain ⟨x9,hx9,h⟩:=bind_some h
 obtain ⟨x10,hx10,h⟩:=bind_some h
 refine T.region (go 3 1 (sO (Q9a (rows:=List.map enc8 [IntKind.u8.wrap ((p0).length:Int)]) (vs:=[.int .u8 (IntKind.u8.wrap ((p0).length:Int))]) Ty.s35 Ty.z5 rfl rfl rfl rfl rfl rfl (sO (Y0b (xs:=[IntKind.u8.wrap ((p0).length:Int)]) Tryz.underlying35 Tryz.underlying5 Tryz.underlying9 rfl rfl (go 1 2 (sQ (Ved rfl rfl hx8 (go 1 2 (sQ (v_shr rfl rfl hx9 (go 3 2 (sO (Q9a (rows:=List.map enc8 [IntKind.u8.wrap x9,IntKind.u8.wrap x4]) (vs:=[.int .u8 (IntKind.u8.wrap x9),.int .u8 (IntKind.u8.wrap x4)]) Ty.s35 Ty.z5 rfl rfl rfl rfl rfl rfl ?_))))))))))))))
 refine sO (Y0b (xs:=[IntKind.u8.wrap x9,IntKind.u8.wrap x4]) Tryz.underlying35 Tryz.underlying5 Tryz.underlying9 rfl rfl (sQ (Ved rfl rfl hx10 (go 2 3 (RS.nil ?_)))))
 cases h
 exact tD
theorem Vla (p0 r:List (List UInt8)) (h:V8a p0=some r):FnO Tryz.prog 63 [.sl (List.map encS p0)] (.ref 0) [.arr 9 1 (List.map encS r)]:=by
 have hr:p0=r:=by
  unfold V8a app at h
  split at h
  ·simpa using h
  ·cases h
 refine V3c (N:=0) rfl Tryz.func63 rfl (by kernel_rfl) Tryz.ntmps63 rfl ?_
 show T _ _ _ _ (mkA 8 [(0,.sl (List.map encS p0))]) []
 refine T.seq ?_
 refine T.region ?_
 refine RS.op rfl (OP.q rfl (Jzb (v:=.nils) rfl ?_))
 refine RS.nil ?_
 refine T.seq ?_
 refine T.seq ?_
 refine T.region ?_
 refine RS.op rfl (OP.q rfl (Vqc (v:=.sl (List.map encS p0)) rfl ?_))
 refine RS.op rfl (OP.q rfl (Zrd Ty.s22 rfl rfl (fun z hz=>?_)))
 refine RS.nil ?_
 refine T.cond (b:=z) rfl (fun hb=>?_) (fun hb=>?_)
 ·refine T.seq ?_
  refine T.region ?_
  refine RS.op rfl (OP.q rfl (Jzb (v:=.nils) rfl ?_))
  refine RS.nil ?_
  refine T.ret ?_
  refine Vob (v:=.nils) rfl ?_
  refine J1b ?_
  have h0:p0=[]:=List.map_eq_nil_iff.1 (hz hb)
  exact Q1c (.ref 0) [(0,9,1)] [0] (by decide) (Qma _) rfl (Jha rfl) (Zia (en:=encS) (ys:=[]) rfl Vvc (by rw [← hr,h0]) (Qfa)) ⟨rfl,rfl⟩
 ·refine T.skip ?_
  refine T.seq ?_
  refine T.region ?_
  refine RS.op rfl (Q9a (rows:=List.map encS []) (vs:=[]) Ty.s22 Ty.z9 rfl rfl rfl rfl rfl (aw':=[.arr 9 1 (List.map encS [])]) rfl ?_)
  refine RS.op rfl (OP.q rfl (Vqc (v:=.sl (List.map encS p0)) rfl ?_))
  refine RS.op rfl (Voa (en:=encS) (xs:=([]:List (List UInt8))) (ys:=p0) (r:=r) Ty.s22 (fun _=>rfl) rfl rfl rfl h rfl (aw':=[.dead,.arr 9 1 (List.map encS r)]) rfl ?_)
  refine RS.op rfl (OP.q rfl (Jzb (v:=.ref 1) rfl ?_))
  refine RS.nil ?_
  refine T.ret ?_
  refine Vob (v:=.ref 1) rfl ?_
  refine J1b ?_
  exact Q1c (.ref 0) [] [1] (by decide) (Qma _) rfl (Jha rfl) (Zia rfl Vvc rfl (Qfa)) ⟨rfl,rfl⟩
theorem V3b (p0 r:List Write) (h:Qhb p0=some r):FnO Tryz.prog 10 [.sl (List.map J8a p0)] (.ref 0) [.arr 34 2 (List.map J8a r)]:=by
 have hr:p0=r:=by
  unfold Qhb app at h
  split at h
  ·simpa using h
  ·cases h
 refine V3c (N:=0) rfl Tryz.func10 rfl (by kernel_rfl) Tryz.ntmps10 rfl ?_
 show T _ _ _ _ (mkA 8 [(0,.sl (List.map J8a p0))]) []
 refine T.seq ?_
 refine T.region ?_
 refine RS.op rfl (OP.q rfl (Jzb (v:=.nils) rfl ?_))
 refine RS.nil ?_
 refine T.seq ?_
 refine T.seq ?_
 refine T.region ?_
 refine RS.op rfl (OP.q rfl (Vqc (v:=.sl (List.map J8a p0)) rfl ?_))
 refine RS.op rfl (OP.q rfl (Zrd Ty.s23 rfl rfl (fun z hz=>?_)))
 refine RS.nil ?_
 refine T.cond (b:=z) rfl (fun hb=>?_) (fun hb=>?_)
 ·refine T.seq ?_
  refine T.region ?_
  refine RS.op rfl (OP.q rfl (Jzb (v:=.nils) rfl ?_))
  refine RS.nil ?_
  refine T.ret ?_
  refine Vob (v:=.nils) rfl ?_
  refine J1b ?_
  have h0:p0=[]:=List.map_eq_nil_iff.1 (hz hb)
  exact Q1c (.ref 0) [(0,34,2)] [0] (by decide) (Qma _) rfl (Jha rfl) (Zia (en:=J8a) (ys:=[]) rfl Zub (by rw [← hr,h0]) (Qfa)) ⟨rfl,rfl⟩
 ·refine T.skip ?_
  refine T.seq ?_
  refine T.region ?_
  refine RS.op rfl (Q9a (rows:=List.map J8a []) (vs:=[]) Ty.s23 Ty.z34 rfl rfl rfl rfl rfl (aw':=[.arr 34 2 (List.map J8a [])]) rfl ?_)
  refine RS.op rfl (OP.q rfl (Vqc (v:=.sl (List.map J8a p0)) rfl ?_))
  refine RS.op rfl (Voa (en:=J8a) (xs:=([]:List Write)) (ys:=p0) (r:=r) Ty.s23 (fun _=>rfl) rfl rfl rfl h rfl (aw':=[.dead,.arr 34 2 (List.map J8a r)]) rfl ?_)
  refine RS.op rfl (OP.q rfl (Jzb (v:=.ref 1) rfl ?_))
  refine RS.nil ?_
  refine T.ret ?_
  refine Vob (v:=.ref 1) rfl ?_
  refine J1b ?_
  exact Q1c (.ref 0) [] [1] (by decide) (Qma _) rfl (Jha rfl) (Zia rfl Zub rfl (Qfa)) ⟨rfl,rfl⟩
theorem Vsd (p0:Disk) (p1:Int) (p2:List UInt8) (r:Disk × Int) (h:Vgb p0 p1 p2=some r):Fn Tryz.prog 25 [.agg (Vaa p0),iI p1,.str p2] (.tup [.agg (Vaa r.1),iI r.2]):=by
 unfold Vgb at h
 refine fnT 0 Tryz.func25 Tryz.ntmps25 ?_
 refine T.seq (T.region (go 3 0 (RS.nil (T.seq (T.seq ?_)))))
 obtain ⟨x2,hx2,h⟩:=bind_some h
 refine T.region (go 1 2 (sO (cF (Yyb p0 x2 hx2) ⟨rfl,(go 1 2 (RS.nil (T.seq (T.region (go 2 2 (RS.nil (T.ci h rfl (fun hb_1 h=>?_) (fun hb_1 h=>?_))))))))⟩)))
 ·refine T.seq (T.region (go 4 2 (RS.nil ?_)))
  cases h
  exact tD
 refine T.skip (T.seq (T.join (Z:=Unit) (fun _=>mkA 43 [(1,iI p1),(2,.str p2),(3,.ptr 0 0),(6,.ptr 1 0),(20,.bool ((decide (p1<0)) || decide (p1 ≥ 200)))]) (fun _=>[.box (Vaa p0),.box [.nils,.nils]]) (fun _=>True) (fun _ _=>?_) (fun hK=>?_)))
 ·refine T.ci h rfl (fun hb_3 h=>?_) (fun hb_3 h=>?_)
  ·refine T.seq (T.region (go 3 2 (RS.nil ?_)))
   cases h
   exact tD
  refine T.skip (T.seq (T.seq (T.region (go 3 2 (RS.nil (T.ci h rfl (fun hb_4 h=>?_) (fun hb_4 h=>?_)))))))
  ·refine T.seq (T.region (go 3 2 (RS.nil ?_)))
   cases h
   exact tD
  refine T.skip (T.seq (T.seq (T.region (go 2 2 (sQ (Qia Ty.s23 rfl (go 1 2 (RS.nil (T.ci h rfl (fun hb_5 h=>?_) (fun hb_5 h=>?_))))))))))
  ·refine T.seq (T.region (go 3 2 (RS.nil ?_)))
   cases h
   exact tD
  refine T.skip (T.seq ?_)
  obtain ⟨x7,hx7,h⟩:=bind_some h
  obtain ⟨x8,hx8,h⟩:=bind_some h
  obtain ⟨x9,hx9,h⟩:=bind_some h
  refine T.drawn mixed (k:=14) rfl ?_
  apply RA.jn 4 #[true,true,true,true,true,true,true,true,true,true,false,false,false,false];intro hS6
  apply RA.jn 5 #[true,true,true,true,true,false,true,true,true,true,false,false,false,false];intro hS7
  apply RA.jn 6 #[true,true,true,true,true,false,true,true,true,false,false,false,false,false];intro hS8
  apply RA.jn 6 #[true,true,false,true,true,false,true,true,true,true,false,false,false,false];intro hS9
  ·refine rq [0,3,6,7,8] 9 (rL [1,2,5,10,11,12,13] 1 rfl (ra3 2 4 9 ?_ ?_ ?_))
   ·refine oO rfl (cO 2 (Vla p0.Sectors x7 hx7) ⟨rfl,(rL [4,5,10,11,12,13] 4 rfl ?_)⟩)
    exact raE hS8
   ·refine og 2 ⟨rfl,(ra2 2 9 ?_ ?_)⟩
    ·refine oO rfl (cO 2 (Vla p0.Sectors x7 hx7) ⟨rfl,?_⟩)
     exact raT hS8
    ·refine oO rfl (Q9a (rows:=List.map J8a [(⟨p1,p2⟩:Write)]) (vs:=[.agg [iI p1,.str p2]]) Ty.s23 Ty.z34 rfl rfl rfl rfl rfl rfl ?_)
     exact raE hS9
   ·refine oO rfl (Q9a (rows:=List.map J8a [(⟨p1,p2⟩:Write)]) (vs:=[.agg [iI p1,.str p2]]) Ty.s23 Ty.z34 rfl rfl rfl rfl rfl rfl (ra2 2 4 ?_ ?_))
    ·refine oO rfl (cO 3 (Vla p0.Sectors x7 hx7) ⟨rfl,(ra1 4 (og 4 ⟨rfl,?_⟩))⟩)
     exact raE hS7
    ·refine og 3 ⟨rfl,?_⟩
     exact raT hS9
  ·refine ra1 2 (oO rfl (cO 3 (Vla p0.Sectors x7 hx7) ⟨rfl,?_⟩))
   exact raT hS7
  ·refine ra2 5 9 ?_ ?_
   ·refine oO rfl (cO 3 (V3b p0.Wait x8 hx8) ⟨rfl,(ra1 9 (oO rfl (Q9a (rows:=List.map J8a [(⟨p1,p2⟩:Write)]) (vs:=[.agg [iI p1,.str p2]]) Ty.s23 Ty.z34 rfl rfl rfl rfl rfl rfl ?_)))⟩)
    exact raE hS6
   ·refine oO rfl (Q9a (rows:=List.map J8a [(⟨p1,p2⟩:Write)]) (vs:=[.agg [iI p1,.str p2]]) Ty.s23 Ty.z34 rfl rfl rfl rfl rfl rfl ?_)
    exact raV hS7 [0,1,3,2] rfl
  ·refine ra1 5 (oO rfl (cO 4 (V3b p0.Wait x8 hx8) ⟨rfl,?_⟩))
   exact raV hS6 [0,1,3,4,2] rfl
  refine ra1 10 (oO rfl (Voa (en:=J8a) (xs:=x8) (ys:=([(⟨p1,p2⟩:Write)]:List Write)) Ty.s23 (fun _=>rfl) rfl rfl rfl hx9 rfl rfl (rq [11] 2 (ra1 12 (og 6 ⟨rfl,(rq [13] 0 (RA.done (by decide +kernel) ?_))⟩)))))
  cases h
  exact tD
 refine T.region (go 3 2 ?_)
 rcases Qga (decide (p1<0)) with hb_2 | hb_2
 ·refine sN hb_2 (sN hb_2 (sQ (Qna (v:=.bool true) rfl hb_2 rfl (RS.nil ?_))))
  exact T.sub (hK () trivial) ⟨rfl,rfl,rfl,rfl,(congrArg AV.bool (by simp only [hb_2,bz,if_true,if_false,Bool.false_eq_true])).symm,trivial⟩
 refine yg 2 hb_2 (yg 2 hb_2 (sQ (Qha (v:=.bool (decide (p1 ≥ 200))) rfl hb_2 rfl (RS.nil ?_))))
 exact T.sub (hK () trivial) ⟨rfl,rfl,rfl,rfl,(congrArg AV.bool (by simp only [hb_2,bz,if_true,if_false,Bool.false_eq_true])).symm,trivial⟩
theorem Z2e (p0:Disk) (p1:Int) (p2:Int) (p3:List UInt8) (r:Disk × Int) (h:Vcc p0 p1 p2 p3=some r):Fn Tryz.prog 6 [.agg (Vaa p0),iI p1,iI p2,.str p3] (.tup [.agg (Vaa r.1),iI r.2]):=by
 unfold Vcc at h
 refine fnT 0 Tryz.func6 Tryz.ntmps6 ?_
 refine T.seq (T.region (go 3 0 (RS.nil (T.seq (T.seq ?_)))))
 obtain ⟨x2,hx2,h⟩:=bind_some h
 refine T.region (go 1 2 (sO (cF (Yyb p0 x2 hx2) ⟨rfl,(go 1 2 (RS.nil (T.seq (T.region (go 2 2 (RS.nil (T.ci h rfl (fun hb_1 h=>?_) (fun hb_1 h=>?_))))))))⟩)))
 ·refine T.seq (T.region (go 4 2 (RS.nil ?_)))
  cases h
  exact tD
 refine T.skip (T.seq (T.join (Z:=Unit) (fun _=>mkA 93 [(1,iI p1),(2,iI p2),(3,.str p3),(4,.ptr 0 0),(8,.ptr 1 0),(36,.bool ((decide (p1<0)) || ((decide (p1 > 1)) || ((decide (p2<0)) || decide (p2 > 200)))))]) (fun _=>[.box (Vaa p0),.box [.nils,.nils]]) (fun _=>True) (fun _ _=>?_) (fun hK=>?_)))
 ·refine T.ci h rfl (fun hb_5 h=>?_) (fun hb_5 h=>?_)
  ·refine T.seq (T.region (go 3 2 (RS.nil ?_)))
   cases h
   exact tD
  refine T.skip (T.seq ?_)
  obtain ⟨x5,hx5,h⟩:=bind_some h
  refine T.region (go 4 2 (sQ (v_quo rfl rfl hx5 (go 1 2 (RS.nil (T.seq (T.seq (T.region (go 2 2 (RS.nil ?_))))))))))
  refine T.ci h rfl (fun hb_6 h=>?_) (fun hb_6 h=>?_)
  ·refine T.seq (T.region (go 3 2 (RS.nil ?_)))
   cases h
   exact tD
  refine T.skip (T.seq (T.seq (T.region (go 2 2 (RS.nil (T.block (T.iter (fun ss_17:Int × (List (List UInt8)) × (List Write)=>mkA 93 [(1,iI p1),(2,iI p2),(3,.str p3),(4,.ptr 0 0),(8,.ptr 1 0),(11,iI x5),(12,iI ss_17.1)]) (fun ss_17=>[.box [sL encS ss_17.2.1,sL J8a ss_17.2.2],.box [.nils,.nils]]) h (wk [] [0,1] 2 rfl) (fun ss_17 v_18 h hv_18=>?_))))))))
  obtain ⟨s6,s7,s8⟩:=ss_17
  replace h:Zpb p1 p2 p3 x5 s6 s7 s8=some v_18:=h
  try dsimp only
  unfold Zpb at h
  refine T.seq (T.seq (T.region (go 2 2 (RS.nil (T.ci h rfl (fun hb_19 h=>?_) (fun hb_19 h=>?_))))))
  ·refine T.skip (T.seq (T.block (T.seq (T.region (go 6 2 (sO (Q9a (rows:=List.map enc8 [IntKind.u8.wrap p2,IntKind.u8.wrap s6,IntKind.u8.wrap x5]) (vs:=[.int .u8 (IntKind.u8.wrap p2),.int .u8 (IntKind.u8.wrap s6),.int .u8 (IntKind.u8.wrap x5)]) Ty.s35 Ty.z5 rfl rfl rfl rfl rfl rfl (sO (Y0b (xs:=[IntKind.u8.wrap p2,IntKind.u8.wrap s6,IntKind.u8.wrap x5]) Tryz.underlying35 Tryz.underlying5 Tryz.underlying9 rfl rfl (go 1 3 (RS.nil ?_)))))))))))
   refine T.join (Z:=List UInt8) (fun zz_21=>mkA 93 [(1,iI p1),(2,iI p2),(3,.str p3),(4,.ptr 0 0),(8,.ptr 1 0),(11,iI x5),(12,iI s6),(13,.str zz_21)]) (fun zz_21=>[.box [sL encS s7,sL J8a s8],.box [.nils,.nils]]) (fun zz_21=>Zkb p1 s6 s7 s8 zz_21=some v_18) (fun zz_21 h=>?_) (fun hK1=>?_)
   ·revert h;revert zz_21;intro z11 h
    replace h:Zkb p1 s6 s7 s8 z11=some v_18:=h
    try dsimp only
    unfold Zkb at h
    refine T.seq ?_
    obtain ⟨x13,hx13,h⟩:=bind_some h
    refine T.region (go 1 2 (sO (cF (Q0e z11 x13 hx13) ⟨rfl,(go 5 2 (RS.nil (T.seq (T.region (go 1 2 (RS.nil (T.seq ?_)))))))⟩)))
    obtain ⟨x15,hx15,h⟩:=bind_some h
    refine T.region (go 6 2 (sO (cD (Vsd (⟨s7,s8⟩:Disk) (IntKind.i64.wrap ((IntKind.i64.wrap (p1*60))+s6)) x13.1 x15 hx15) ⟨rfl,(go 5 2 (RS.nil (T.seq (T.region (go 2 2 (RS.nil (T.ci h rfl (fun hb_22 h=>?_) (fun hb_22 h=>?_))))))))⟩)))
    ·refine T.seq (T.region (go 4 2 (RS.nil ?_)))
     obtain ⟨w_23,h,hw_23⟩:=Qpa h
     replace h:=h.trans (congrArg some (hv_18 _ hw_23))
     cases h
     exact tD
    refine T.skip (T.region (go 3 2 (RS.nil ?_)))
    exact ⟨(IntKind.i64.wrap (s6 - 1),x15.1.Sectors,x15.1.Wait),(Option.some.inj h).symm,wk [] [0,1] 2 rfl⟩
   refine T.seq (T.region (go 2 3 (RS.nil (T.ci h rfl (fun hb_24 h=>?_) (fun hb_24 h=>?_)))))
   ·obtain ⟨x9,hx9,h⟩:=bind_some h
    obtain ⟨x10,hx10,h⟩:=bind_some h
    refine T.region (go 10 3 (sO (Vfb Tryz.underlying9 rfl rfl rfl hx9 (sQ (Ved rfl rfl hx10 (go 1 3 (RS.nil ?_)))))))
    exact T.weakR (hK1 x10 h) (wk [] [0,1] 3 rfl)
   refine T.skip ?_
   exact T.weakR (hK1 (toStr [IntKind.u8.wrap p2,IntKind.u8.wrap s6,IntKind.u8.wrap x5]) h) (wk [] [0,1] 3 rfl)
  refine T.exit ?_
  obtain ⟨w_25,h,hw_25⟩:=Qpa h
  replace h:=h.trans (congrArg some (hv_18 _ hw_25))
  refine T.seq (T.region (go 3 2 (RS.nil ?_)))
  cases h
  exact tD
 refine T.region (go 3 2 ?_)
 rcases Qga (decide (p1<0)) with hb_2 | hb_2
 ·refine sN hb_2 (sN hb_2 (sQ (Qna (v:=.bool true) rfl hb_2 rfl (go 1 2 (sN rfl (sN rfl (sQ (Qna (v:=.bool true) rfl rfl rfl (go 1 2 (sN rfl (sN rfl ?_)))))))))))
  refine sQ (Qna (v:=.bool true) rfl rfl rfl (RS.nil ?_))
  exact T.sub (hK () trivial) ⟨rfl,rfl,rfl,rfl,rfl,(congrArg AV.bool (by simp only [hb_2,bz,if_true,if_false,Bool.false_eq_true])).symm,trivial⟩
 refine yg 2 hb_2 (yg 2 hb_2 (sQ (Qha (v:=.bool (decide (p1 > 1))) rfl hb_2 rfl (go 1 2 ?_))))
 rcases Qga (decide (p1 > 1)) with hb_3 | hb_3
 ·refine sN hb_3 (sN hb_3 (sQ (Qna (v:=.bool true) rfl hb_3 rfl (go 1 2 (sN rfl (sN rfl (sQ (Qna (v:=.bool true) rfl rfl rfl (RS.nil ?_)))))))))
  exact T.sub (hK () trivial) ⟨rfl,rfl,rfl,rfl,rfl,(congrArg AV.bool (by simp only [hb_2,hb_3,bz,if_true,if_false,Bool.false_eq_true])).symm,trivial⟩
 refine yg 2 hb_3 (yg 2 hb_3 (sQ (Qha (v:=.bool (decide (p2<0))) rfl hb_3 rfl (go 1 2 ?_))))
 rcases Qga (decide (p2<0)) with hb_4 | hb_4
 ·refine sN hb_4 (sN hb_4 (sQ (Qna (v:=.bool true) rfl hb_4 rfl (RS.nil ?_))))
  exact T.sub (hK () trivial) ⟨rfl,rfl,rfl,rfl,rfl,(congrArg AV.bool (by simp only [hb_2,hb_3,hb_4,bz,if_true,if_false,Bool.false_eq_true])).symm,trivial⟩
 refine yg 2 hb_4 (yg 2 hb_4 (sQ (Qha (v:=.bool (decide (p2 > 200))) rfl hb_4 rfl (RS.nil ?_))))
 exact T.sub (hK () trivial) ⟨rfl,rfl,rfl,rfl,rfl,(congrArg AV.bool (by simp only [hb_2,hb_3,hb_4,bz,if_true,if_false,Bool.false_eq_true])).symm,trivial⟩
theorem Jcb (r:Net) (h:Qab=some r):Fn Tryz.prog 27 [] (.agg (Qxa r)):=by
 unfold Qab at h
 refine fnT 0 Tryz.func27 Tryz.ntmps27 ?_
 refine T.seq (T.region (go 1 0 (RS.nil (T.seq (T.region (sO (Q9a (rows:=List.map encI [0]) (vs:=[iI 0]) Ty.s49 Ty.z3 rfl rfl rfl rfl rfl rfl (go 1 2 (sO (Q9a (rows:=List.map encI [1]) (vs:=[iI 1]) Ty.s49 Ty.z3 rfl rfl rfl rfl rfl rfl (go 1 3 ?_)))))))))))
 refine sO (Q9a (rows:=List.map encI [0,1]) (vs:=[iI 0,iI 1]) Ty.s49 Ty.z3 rfl rfl rfl rfl rfl rfl (sO (Q9a (rows:=List.map encI [2]) (vs:=[iI 2]) Ty.s49 Ty.z3 rfl rfl rfl rfl rfl rfl (go 1 5 (sO (Q9a (rows:=List.map encI [2]) (vs:=[iI 2]) Ty.s49 Ty.z3 rfl rfl rfl rfl rfl rfl (go 1 6 (RS.fC 1 (RS.fC 2 (RS.fC 3 (RS.fC 4 (RS.fC 5 ?_))))))))))))
 refine sO (Z7d (rows:=List.map Q5a [(⟨1,0,[],[0]⟩:Node),(⟨1,1,[],[1]⟩:Node),(⟨6,0,[0,1],[2]⟩:Node),(⟨8,0,[2],[]⟩:Node)]) (vs:=[.agg [iI 1,iI 0,.nils,sL encI [0]],.agg [iI 1,iI 1,.nils,sL encI [1]],.agg [iI 6,iI 0,sL encI [0,1],sL encI [2]],.agg [iI 8,iI 0,sL encI [2],.nils]]) (vs2:=[.agg [iI 1,iI 0,sL encI [],sL encI [0]],.agg [iI 1,iI 1,sL encI [],sL encI [1]],.agg [iI 6,iI 0,sL encI [0,1],sL encI [2]],.agg [iI 8,iI 0,sL encI [2],sL encI []]]) Ty.s45 Ty.z118 rfl rfl rfl rfl rfl rfl (go 2 7 (RS.nil ?_)))
 cases h
 exact tD
theorem Joc (p0:Int) (p1:Int) (r:Item) (h:Ydb p0 p1=some r):Fn Tryz.prog 67 [iI p0,iI p1] (.agg (Qca r)):=by
 unfold Ydb at h
 refine fnT 0 Tryz.func67 Tryz.ntmps67 ?_
 refine T.seq (T.region (go 1 0 (RS.nil (T.seq (T.region (go 4 1 (RS.nil ?_)))))))
 cases h
 exact tD
theorem Vnb (r:List (List Item)) (h:Zwb=some r):FnO Tryz.prog 28 [] (.ref 0) [aR 52 1 (encL Qca) r]:=by
 unfold Zwb at h
 refine fnT 0 Tryz.func28 Tryz.ntmps28 ?_
 refine T.seq (T.region (go 1 0 (RS.nil (T.seq ?_))))
 obtain ⟨x3,hx3,h⟩:=bind_some h
 obtain ⟨x4,hx4,h⟩:=bind_some h
 refine T.region (sO (cF (Joc (1:Int) (1:Int) x3 hx3) ⟨rfl,(sO (Q9a (rows:=List.map Qca [x3]) (vs:=[.agg (Qca x3)]) Ty.s52 Ty.z115 rfl rfl rfl rfl rfl rfl (sO (cF (Joc (2:Int) (2:Int) x4 hx4) ⟨rfl,(sO (Q9a (rows:=List.map Qca [x4]) (vs:=[.agg (Qca x4)]) Ty.s52 Ty.z115 rfl rfl rfl rfl rfl rfl (RS.fC 0 (RS.fC 1 (sO (Q9a (rows:=List.map (encL Qca) [[x3],[x4]]) (vs:=[sL Qca [x3],sL Qca [x4]]) Ty.s48 Ty.z52 rfl rfl rfl rfl rfl rfl (go 1 3 (RS.nil ?_))))))))⟩))))⟩))
 cases h
 exact tO [] [2] 3
theorem V7c (p0:Int) (p1:Int) (r:Int × Int) (h:Yib p0 p1=some r):Fn Tryz.prog 123 [.int .u64 p0,.int .u64 p1] (.tup [.int .u64 r.1,.int .u64 r.2]):=by
 unfold Yib at h
 refine fnT 0 Tryz.func123 Tryz.ntmps123 ?_
 refine T.seq (T.region (go 2 0 (RS.nil (T.seq (T.region (go 3 0 (RS.nil (T.seq ?_))))))))
 obtain ⟨x2,hx2,h⟩:=bind_some h
 refine T.region (go 1 0 (sQ (v_shr rfl rfl hx2 (go 1 0 (RS.nil (T.seq (T.region (go 3 0 (RS.nil (T.seq ?_))))))))))
 obtain ⟨x4,hx4,h⟩:=bind_some h
 refine T.region (go 1 0 (sQ (v_shr rfl rfl hx4 (go 1 0 (RS.nil (T.seq (T.region (go 4 0 (RS.nil (T.seq ?_))))))))))
 obtain ⟨x6,hx6,h⟩:=bind_some h
 refine T.region (go 4 0 (sQ (v_shr rfl rfl hx6 (go 2 0 (RS.nil (T.seq (T.region (go 3 0 (RS.nil (T.seq ?_))))))))))
 obtain ⟨x8,hx8,h⟩:=bind_some h
 refine T.region (go 1 0 (sQ (v_shr rfl rfl hx8 (go 1 0 (RS.nil (T.seq (T.region (go 6 0 (RS.nil (T.seq ?_))))))))))
 obtain ⟨x10,hx10,h⟩:=bind_some h
 refine T.region (go 6 0 (sQ (v_shr rfl rfl hx10 (go 2 0 (RS.nil (T.seq (T.region (go 4 0 (RS.nil ?_)))))))))
 cases h
 exact tD
theorem Yzc (p0:Int) (p1:Int) (r:Int × Int) (h:V8b p0 p1=some r):Fn Tryz.prog 120 [.int .u64 p0,.int .u64 p1] (.tup [.int .u64 r.1,.int .u64 r.2]):=by
 unfold V8b at h
 refine fnT 0 Tryz.func120 Tryz.ntmps120 ?_
 refine T.seq (T.region (go 2 0 (RS.nil (T.seq (T.cf rfl (T.skip (T.seq ?_)))))))
 obtain ⟨x2,hx2,h⟩:=bind_some h
 refine T.region (go 2 0 (sO (cF (V7c p0 p1 x2 hx2) ⟨rfl,(go 5 0 (RS.nil (T.seq (T.region (go 4 0 (RS.nil ?_))))))⟩)))
 cases h
 exact tD
theorem Zuc (p0:List Ends) (p1:Int) (r:List Ends) (h:Qgb p0 p1=some r):FnO Tryz.prog 116 [sL Jpa p0,iI p1] (.ref 0) [aR 186 2 Jpa r]:=by
 unfold Qgb at h
 refine fnT 0 Tryz.func116 Tryz.ntmps116 ?_
 refine T.seq (T.region (go 1 0 (RS.nil (T.seq (T.seq (T.region (go 2 0 (RS.nil (T.ci h rfl (fun hb_1 h=>?_) (fun hb_1 h=>?_))))))))))
 ·cases h
 refine T.skip (T.seq ?_)
 obtain ⟨x2,hx2,h⟩:=bind_some h
 refine T.region (go 1 0 (sQ (Qia Ty.s182 rfl (go 3 0 (sO (cF (Yzc (IntKind.u64.wrap ((p0).length:Int)) (IntKind.u64.wrap p1) x2 hx2) ⟨rfl,(go 5 0 (RS.nil (T.seq (T.join (Z:=Unit) (fun _=>mkA 48 [(0,sL Jpa p0),(6,.int .u64 x2.2),(26,.bool ((decide (x2.1 > 0)) || decide (x2.2 > 9223372036854775807)))]) (fun _=>[]) (fun _=>True) (fun _ _=>?_) (fun hK=>?_)))))⟩))))))
 ·refine T.ci h rfl (fun hb_3 h=>?_) (fun hb_3 h=>?_)
  ·cases h
  refine T.skip (T.seq ?_)
  obtain ⟨x5,hx5,h⟩:=bind_some h
  refine T.region (go 2 0 (sO (o_mk (en:=Jpa) (zr:=(⟨0,0⟩:Ends)) Ty.s182 Ty.z186 rfl rfl hx5 rfl rfl (go 1 1 (RS.nil (T.seq (T.region (go 2 1 (sO (Q1f (en:=Jpa) (xs:=x5) (ys:=p0) Ty.s182 (fun _=>rfl) rfl rfl rfl rfl (go 1 1 ?_)))))))))))
  refine RS.nil (T.seq (T.block (T.iter (fun ss_8:Int × (List Ends)=>mkA 48 [(7,.ref 0),(8,iI ss_8.1)]) (fun ss_8=>[aR 186 2 Jpa ss_8.2]) h (wk [] [0] 1 rfl) (fun ss_8 v_9 h hv_9=>?_))))
  obtain ⟨s6,s7⟩:=ss_8
  replace h:Zja s6 s7=some v_9:=h
  try dsimp only
  unfold Zja at h
  refine T.seq (T.seq (T.region (go 2 1 (sQ (Q0b (en:=Jpa) Ty.s182 rfl rfl (go 1 1 (RS.nil (T.ci h rfl (fun hb_10 h=>?_) (fun hb_10 h=>?_)))))))))
  ·refine T.skip (T.block ?_)
   obtain ⟨x8,hx8,h⟩:=bind_some h
   obtain ⟨x9,hx9,h⟩:=bind_some h
   obtain ⟨x10,hx10,h⟩:=bind_some h
   obtain ⟨x11,hx11,h⟩:=bind_some h
   refine T.drawn mixed (k:=10) rfl ?_
   apply RA.jn 3 #[true,true,true,true,true,true,true,false,false,false];intro hS11
   ·refine rq [0,1,2,4,5] 5 (ra2 3 6 ?_ ?_)
    ·refine oO rfl (Ztb (en:=Jpa) (xs:=s7) Ty.s182 rfl rfl rfl rfl hx8 (ra1 6 (oO rfl (Ztb (en:=Jpa) (xs:=s7) Ty.s182 rfl rfl rfl rfl hx9 ?_))))
     exact raE hS11
    ·refine oO rfl (Ztb (en:=Jpa) (xs:=s7) Ty.s182 rfl rfl rfl rfl hx9 (ra1 3 (oO rfl (Ztb (en:=Jpa) (xs:=s7) Ty.s182 rfl rfl rfl rfl hx8 ?_))))
     exact raT hS11
   refine ra1 7 (oO rfl (Qbf (en:=Jpa) (xs:=s7) Ty.s182 (fun _=>rfl) rfl rfl rfl hx10 hx11 rfl (rq [8,9] 0 (RA.done (by decide +kernel) ?_))))
   exact ⟨(IntKind.i64.wrap (s6+((min ((((s7).length:Int)).toNat - (s6).toNat) ((s6).toNat - ((0:Int)).toNat):Nat):Int)),(cpy s7 ((s6).toNat) ((((s7).length:Int)).toNat - (s6).toNat) ((s7.drop (((0:Int)).toNat)).take ((s6).toNat - ((0:Int)).toNat)))),(Option.some.inj h).symm,wk [] [0] 1 rfl⟩
  refine T.exit ?_
  obtain ⟨w_12,h,hw_12⟩:=Qpa h
  replace h:=h.trans (congrArg some (hv_9 _ hw_12))
  refine T.seq (T.region (go 2 1 (RS.nil ?_)))
  cases h
  exact tO [] [0] 1
 refine T.region (go 3 0 ?_)
 rcases Qga (decide (x2.1 > 0)) with hb_2 | hb_2
 ·refine sN hb_2 (sN hb_2 (sQ (Qna (v:=.bool true) rfl hb_2 rfl (RS.nil ?_))))
  exact T.sub (hK () trivial) ⟨rfl,rfl,(congrArg AV.bool (by simp only [hb_2,bz,if_true,if_false,Bool.false_eq_true])).symm,trivial⟩
 refine yg 0 hb_2 (yg 0 hb_2 (sQ (Qha (v:=.bool (decide (x2.2 > 9223372036854775807))) rfl hb_2 rfl (RS.nil ?_))))
 exact T.sub (hK () trivial) ⟨rfl,rfl,(congrArg AV.bool (by simp only [hb_2,bz,if_true,if_false,Bool.false_eq_true])).symm,trivial⟩
theorem Y9d (p0:Int) (r:Int × Int × Bool) (h:Jnc p0=some r):Fn Tryz.prog 117 [iI p0] (.tup [iI r.1,iI r.2.1,.bool r.2.2]):=by
 unfold Jnc at h
 refine fnT 0 Tryz.func117 Tryz.ntmps117 ?_
 refine T.seq (T.region (go 3 0 (RS.nil (T.seq (T.seq (T.region (go 1 0 (RS.nil (T.block ?_)))))))))
 refine T.seq (T.region (go 2 0 (RS.nil (T.ci h rfl (fun hb_1 h=>?_) (fun hb_1 h=>?_)))))
 ·refine T.seq (T.region (go 3 0 (RS.nil ?_)))
  cases h
  exact tD
 refine T.join (Z:=Bool) (fun zz_4=>mkA 19 [(5,iI p0),(8,.bool zz_4)]) (fun zz_4=>[]) (fun zz_4=>Jjb p0 zz_4=some r) (fun zz_4 h=>?_) (fun hK2=>?_)
 ·revert h;revert zz_4;intro z1 h
  replace h:Jjb p0 z1=some r:=h
  try dsimp only
  unfold Jjb at h
  refine T.ci h rfl (fun hb_5 h=>?_) (fun hb_5 h=>?_)
  ·refine T.seq (T.region (go 3 0 (RS.nil ?_)))
   cases h
   exact tD
  refine T.join (Z:=Bool) (fun zz_7=>mkA 19 [(5,iI p0),(12,.bool zz_7)]) (fun zz_7=>[]) (fun zz_7=>Zzb p0 zz_7=some r) (fun zz_7 h=>?_) (fun hK1=>?_)
  ·revert h;revert zz_7;intro z2 h
   replace h:Zzb p0 z2=some r:=h
   try dsimp only
   unfold Zzb at h
   refine T.ci h rfl (fun hb_8 h=>?_) (fun hb_8 h=>?_)
   ·refine T.seq (T.region (go 3 0 (RS.nil ?_)))
    cases h
    exact tD
   refine T.seq (T.region (go 2 0 (RS.nil (T.ci h rfl (fun hb_9 h=>?_) (fun hb_9 h=>?_)))))
   ·refine T.seq (T.region (go 3 0 (RS.nil ?_)))
    cases h
    exact tD
   refine T.seq (T.region (go 2 0 (RS.nil (T.ci h rfl (fun hb_10 h=>?_) (fun hb_10 h=>?_)))))
   ·refine T.seq (T.region (go 3 0 (RS.nil ?_)))
    cases h
    exact tD
   refine T.skip (T.seq (T.region (go 3 0 (RS.nil ?_))))
   cases h
   exact tD
  refine T.seq (T.region (go 2 0 (RS.nil (T.ci h rfl (fun hb_11 h=>?_) (fun hb_11 h=>?_)))))
  ·refine T.skip ?_
   exact T.weakR (hK1 (p0==5) h) (wk [] [] 0 rfl)
  refine T.region (go 2 0 (RS.nil ?_))
  exact T.weakR (hK1 (p0==7) h) (wk [] [] 0 rfl)
 refine T.seq (T.region (go 2 0 (RS.nil (T.ci h rfl (fun hb_12 h=>?_) (fun hb_12 h=>?_)))))
 ·refine T.skip ?_
  exact T.weakR (hK2 (p0==2) h) (wk [] [] 0 rfl)
 refine T.seq (T.region (go 2 0 (RS.nil (T.ci h rfl (fun hb_13 h=>?_) (fun hb_13 h=>?_)))))
 ·refine T.skip ?_
  exact T.weakR (hK2 (p0==3) h) (wk [] [] 0 rfl)
 refine T.region (go 2 0 (RS.nil ?_))
 exact T.weakR (hK2 (p0==4) h) (wk [] [] 0 rfl)
theorem J0d (p0:Int) (p1:Int) (r:Bool) (h:Zkc p0 p1=some r):Fn Tryz.prog 118 [iI p0,iI p1] (.bool r):=by
 unfold Zkc at h
 refine fnT 0 Tryz.func118 Tryz.ntmps118 ?_
 refine T.seq (T.region (go 1 0 (RS.nil (T.join (Z:=Unit) (fun _=>mkA 16 [(4,.bool ((p0==p1) || ((decide (p1<0)) && decide (p0 > 0))))]) (fun _=>[]) (fun _=>True) (fun _ _=>?_) (fun hK=>?_)))))
 ·cases h
  exact tD
 refine T.region (go 4 0 ?_)
 rcases Qga (p0==p1) with hb_1 | hb_1
 ·refine sN hb_1 (sN hb_1 (sN hb_1 (sU (sU (sN hb_1 (sQ (Qna (v:=.bool true) rfl hb_1 rfl (go 1 0 (RS.nil ?_)))))))))
  exact T.sub (hK () trivial) ⟨(congrArg AV.bool (by simp only [hb_1,bz,if_true,if_false,Bool.false_eq_true])).symm,trivial⟩
 refine yg 0 hb_1 (yg 0 hb_1 (yg 0 hb_1 ?_))
 rcases Qga (decide (p1<0)) with hb_2 | hb_2
 ·refine yg 0 hb_2 (yg 0 hb_2 (yQ hb_1 (Qna (v:=.bool (decide (p0 > 0))) rfl hb_2 rfl (sQ (Qha (v:=.bool (decide (p0 > 0))) rfl hb_1 rfl (go 1 0 (RS.nil ?_)))))))
  exact T.sub (hK () trivial) ⟨(congrArg AV.bool (by simp only [hb_1,hb_2,bz,if_true,if_false,Bool.false_eq_true])).symm,trivial⟩
 refine sN hb_2 (sN hb_2 (yQ hb_1 (Qha (v:=.bool false) rfl hb_2 rfl (sQ (Qha (v:=.bool false) rfl hb_1 rfl (go 1 0 (RS.nil ?_)))))))
 exact T.sub (hK () trivial) ⟨(congrArg AV.bool (by simp only [hb_1,hb_2,bz,if_true,if_false,Bool.false_eq_true])).symm,trivial⟩
theorem Vme (p0:Net) (r:(List Ends) × Int) (h:Vmc p0=some r):FnO Tryz.prog 106 [.agg (Qxa p0)] (.tup [.ref 0,iI r.2]) [aR 186 2 Jpa r.1]:=by
 unfold Vmc at h
 refine fnT 0 Tryz.func106 Tryz.ntmps106 ?_
 refine T.seq (T.region (go 3 0 (RS.nil (T.seq (T.join (Z:=Unit) (fun _=>mkA 197 [(1,.ptr 0 0),(36,.bool ((decide (((p0.Nodes).length:Int)<1)) || ((decide (((p0.Nodes).length:Int) > 12)) || ((decide (p0.Rings<0)) || decide (p0.Rings > 16)))))]) (fun _=>[.box (Qxa p0)]) (fun _=>True) (fun _ _=>?_) (fun hK=>?_))))))
 ·refine T.ci h rfl (fun hb_4 h=>?_) (fun hb_4 h=>?_)
  ·refine T.seq (T.region (go 2 1 (RS.nil ?_)))
   cases h
   exact tO [(0,186,2)] [1] 1
  refine T.skip (T.seq (T.join (Z:=Unit) (fun _=>mkA 197 [(1,.ptr 0 0),(44,.bool ((decide (p0.Room<1)) || decide (p0.Room > 6)))]) (fun _=>[.box (Qxa p0)]) (fun _=>True) (fun _ _=>?_) (fun hK=>?_)))
  ·refine T.ci h rfl (fun hb_6 h=>?_) (fun hb_6 h=>?_)
   ·refine T.seq (T.region (go 2 1 (RS.nil ?_)))
    cases h
    exact tO [(0,186,2)] [1] 1
   refine T.skip (T.seq ?_)
   obtain ⟨x4,hx4,h⟩:=bind_some h
   refine T.region (go 1 1 (sO (Q9a (rows:=List.map Jpa [(⟨(-1),(-1)⟩:Ends)]) (vs:=[.agg [iI (-1),iI (-1)]]) Ty.s182 Ty.z186 rfl rfl rfl rfl rfl rfl (go 2 2 (sO (cO 2 (Zuc ([(⟨(-1),(-1)⟩:Ends)]:List Ends) p0.Rings x4 hx4) ⟨rfl,(go 1 3 (RS.nil (T.seq (T.region (go 1 3 ?_)))))⟩))))))
   refine RS.nil (T.seq (T.seq (T.region (go 2 3 (sQ (Qia Ty.s45 rfl (go 1 3 (RS.nil (T.block (T.iter (fun ss_123:Int × Int × (List Ends)=>mkA 197 [(1,.ptr 0 0),(4,.ref 1),(5,iI ss_123.1),(51,sL Q5a p0.Nodes),(52,iI ((p0.Nodes).length:Int)),(53,iI ss_123.2.1)]) (fun ss_123=>[.box (Qxa p0),aR 186 2 Jpa ss_123.2.2]) h (wk [] [0,2] 3 rfl) (fun ss_123 v_124 h hv_124=>?_)))))))))))
   obtain ⟨s5,s6,s7⟩:=ss_123
   replace h:Jrb p0 s5 s6 s7=some v_124:=h
   try dsimp only
   unfold Jrb at h
   refine T.seq (T.region (go 1 2 (RS.nil (T.seq (T.ci h rfl (fun hb_125 h=>?_) (fun hb_125 h=>?_))))))
   ·refine T.skip (T.seq (T.block (T.seq ?_)))
    obtain ⟨x9,hx9,h⟩:=bind_some h
    refine T.region (go 1 2 (sQ (Qka Ty.s45 (fun _=>rfl) rfl rfl hx9 (go 4 2 (RS.nil (T.seq ?_))))))
    obtain ⟨x11,hx11,h⟩:=bind_some h
    refine T.region (go 2 3 (sO (cF (Y9d x9.Kind x11 hx11) ⟨rfl,(go 7 3 (RS.nil (T.seq (T.seq (T.region (go 2 3 (RS.nil ?_)))))))⟩)))
    refine T.ci h rfl (fun hb_126 h=>?_) (fun hb_126 h=>?_)
    ·refine T.seq (T.region (go 2 3 (RS.nil ?_)))
     obtain ⟨w_127,h,hw_127⟩:=Qpa h
     replace h:=h.trans (congrArg some (hv_124 _ hw_127))
     cases h
     exact tO [(0,186,2)] [3] 3
    refine T.skip (T.seq ?_)
    obtain ⟨x12,hx12,h⟩:=bind_some h
    obtain ⟨zt_129,hz,h⟩:=bind_some h
    revert hz h;revert zt_129;intro c14 hz h
    refine T.join (Z:=Unit) (fun _=>mkA 197 [(1,.ptr 0 0),(4,.ref 1),(5,iI s5),(6,iI s6),(7,.ptr 2 0),(51,sL Q5a p0.Nodes),(52,iI ((p0.Nodes).length:Int)),(53,iI s6),(80,.bool c14)]) (fun _=>[.box (Qxa p0),aR 186 2 Jpa s7,.box (Q5a x9)]) (fun _=>True) (fun _ _=>?_) (fun hK=>?_)
    ·refine T.ci h rfl (fun hb_130 h=>?_) (fun hb_130 h=>?_)
     ·refine T.seq (T.region (go 2 3 (RS.nil ?_)))
      obtain ⟨w_131,h,hw_131⟩:=Qpa h
      replace h:=h.trans (congrArg some (hv_124 _ hw_131))
      cases h
      exact tO [(0,186,2)] [3] 3
     refine T.skip (T.seq (T.join (Z:=Unit) (fun _=>mkA 197 [(1,.ptr 0 0),(4,.ref 1),(5,iI s5),(6,iI s6),(7,.ptr 2 0),(51,sL Q5a p0.Nodes),(52,iI ((p0.Nodes).length:Int)),(53,iI s6),(118,.bool ((decide (x9.A<0)) || (if (x9.Kind==1)=true then ((decide (x9.A ≥ 4)) || (if (x9.Kind==2)=true then ((decide (x9.A > 3)) || ((x9.Kind != 1) && ((x9.Kind != 2) && x9.A != 0))) else ((x9.Kind != 1) && ((x9.Kind != 2) && x9.A != 0)))) else (if (x9.Kind==2)=true then ((decide (x9.A > 3)) || ((x9.Kind != 1) && ((x9.Kind != 2) && x9.A != 0))) else ((x9.Kind != 1) && ((x9.Kind != 2) && x9.A != 0))))))]) (fun _=>[.box (Qxa p0),aR 186 2 Jpa s7,.box (Q5a x9)]) (fun _=>True) (fun _ _=>?_) (fun hK=>?_)))
     ·refine T.ci h rfl (fun hb_147 h=>?_) (fun hb_147 h=>?_)
      ·refine T.seq (T.region (go 2 3 (RS.nil ?_)))
       obtain ⟨w_148,h,hw_148⟩:=Qpa h
       replace h:=h.trans (congrArg some (hv_124 _ hw_148))
       cases h
       exact tO [(0,186,2)] [3] 3
      refine T.skip (T.join (Z:=Int) (fun zz_150=>mkA 197 [(1,.ptr 0 0),(4,.ref 1),(5,iI zz_150),(6,iI s6),(7,.ptr 2 0),(51,sL Q5a p0.Nodes),(52,iI ((p0.Nodes).length:Int)),(53,iI s6)]) (fun zz_150=>[.box (Qxa p0),aR 186 2 Jpa s7,.box (Q5a x9)]) (fun zz_150=>Zlb p0 s6 s7 x9 zz_150=some v_124) (fun zz_150 h=>?_) (fun hK3=>?_))
      ·revert h;revert zz_150;intro z15 h
       replace h:Zlb p0 s6 s7 x9 z15=some v_124:=h
       try dsimp only
       unfold Zlb at h
       refine T.seq (T.seq (T.region (go 2 3 (sQ (Qia Ty.s49 rfl (go 1 3 (RS.nil (T.block (T.iter (fun ss_159:Int × (List Ends)=>mkA 197 [(1,.ptr 0 0),(4,.ref 1),(5,iI z15),(6,iI s6),(7,.ptr 2 0),(51,sL Q5a p0.Nodes),(52,iI ((p0.Nodes).length:Int)),(53,iI s6),(125,sL encI x9.In),(126,iI ((x9.In).length:Int)),(127,iI ss_159.1)]) (fun ss_159=>[.box (Qxa p0),aR 186 2 Jpa ss_159.2,.box (Q5a x9)]) h (wk [] [0,1,2] 3 rfl) (fun ss_159 v_160 h hv_160=>?_))))))))))
       obtain ⟨s16,s17⟩:=ss_159
       replace h:Job p0 s6 x9 z15 s16 s17=some v_160:=h
       try dsimp only
       unfold Job at h
       refine T.seq (T.region (go 1 3 (RS.nil (T.seq (T.ci h rfl (fun hb_161 h=>?_) (fun hb_161 h=>?_))))))
       ·refine T.skip (T.seq (T.block (T.seq ?_)))
        obtain ⟨x19,hx19,h⟩:=bind_some h
        refine T.region (sQ (Qka Ty.s49 (fun _=>rfl) rfl rfl hx19 (go 2 3 (RS.nil (T.seq (T.join (Z:=Unit) (fun _=>mkA 197 [(1,.ptr 0 0),(4,.ref 1),(5,iI z15),(6,iI s6),(7,.ptr 2 0),(12,iI x19),(51,sL Q5a p0.Nodes),(52,iI ((p0.Nodes).length:Int)),(53,iI s6),(125,sL encI x9.In),(126,iI ((x9.In).length:Int)),(127,iI s16),(138,.bool ((decide (x19<0)) || decide (x19 ≥ p0.Rings)))]) (fun _=>[.box (Qxa p0),aR 186 2 Jpa s17,.box (Q5a x9)]) (fun _=>True) (fun _ _=>?_) (fun hK=>?_)))))))
        ·refine T.ci h rfl (fun hb_163 h=>?_) (fun hb_163 h=>?_)
         ·refine T.seq (T.region (go 2 3 (RS.nil ?_)))
          obtain ⟨w_164,h,hw_164⟩:=Qpa h
          replace h:=h.trans (congrArg some (hv_160 _ hw_164))
          obtain ⟨w_165,h,hw_165⟩:=Qpa h
          replace h:=h.trans (congrArg some (hv_124 _ hw_165))
          cases h
          exact tO [(0,186,2)] [3] 3
         refine T.skip (T.seq (T.seq ?_))
         obtain ⟨x23,hx23,h⟩:=bind_some h
         obtain ⟨x24,hx24,h⟩:=bind_some h
         refine T.region (go 2 3 (sQ (Q6a (en:=Jpa) Ty.s182 rfl rfl rfl hx23 (go 1 3 (sO (Jga (en:=Jpa) (a:=x24) rfl rfl hx24 (Qra Ty.k3 (c:=iI x24.dst) rfl (go 1 3 (RS.nil (T.ci h rfl (fun hb_166 h=>?_) (fun hb_166 h=>?_)))))))))))
         ·refine T.seq (T.region (go 2 3 (RS.nil ?_)))
          obtain ⟨w_167,h,hw_167⟩:=Qpa h
          replace h:=h.trans (congrArg some (hv_160 _ hw_167))
          obtain ⟨w_168,h,hw_168⟩:=Qpa h
          replace h:=h.trans (congrArg some (hv_124 _ hw_168))
          cases h
          exact tO [(0,186,2)] [3] 3
         refine T.skip ?_
         obtain ⟨x25,hx25,h⟩:=bind_some h
         obtain ⟨x26,hx26,h⟩:=bind_some h
         refine T.region (go 3 3 (sQ (Q6a (en:=Jpa) Ty.s182 rfl rfl rfl hx25 (go 1 3 (sO (Yda (en:=Jpa) (a:=x26) (a':=(⟨x26.src,s6⟩:Ends)) Ty.c3 Ty.i3 rfl (vs:=[iI s6]) rfl rfl rfl hx26 rfl rfl rfl (RS.nil (T.region (go 2 3 (RS.nil ?_))))))))))
         exact ⟨(IntKind.i64.wrap (s16+1),(List.set s17 x25 (⟨x26.src,s6⟩:Ends))),(Option.some.inj h).symm,wk [] [0,1,2] 3 rfl⟩
        refine T.region (go 3 3 ?_)
        rcases Qga (decide (x19<0)) with hb_162 | hb_162
        ·refine sN hb_162 (sN hb_162 (sN hb_162 (sN hb_162 (sQ (Qna (v:=.bool true) rfl hb_162 rfl (RS.nil ?_))))))
         exact T.sub (hK () trivial) ⟨rfl,rfl,rfl,rfl,rfl,rfl,rfl,rfl,rfl,rfl,rfl,rfl,(congrArg AV.bool (by simp only [hb_162,bz,if_true,if_false,Bool.false_eq_true])).symm,trivial⟩
        refine yg 3 hb_162 (yg 3 hb_162 (yg 3 hb_162 (yg 3 hb_162 (sQ (Qha (v:=.bool (decide (x19 ≥ p0.Rings))) rfl hb_162 rfl (RS.nil ?_))))))
        exact T.sub (hK () trivial) ⟨rfl,rfl,rfl,rfl,rfl,rfl,rfl,rfl,rfl,rfl,rfl,rfl,(congrArg AV.bool (by simp only [hb_162,bz,if_true,if_false,Bool.false_eq_true])).symm,trivial⟩
       refine T.exit ?_
       obtain ⟨w_169,h,hw_169⟩:=Qpa h
       replace h:=h.trans (congrArg some (hv_160 _ hw_169))
       refine T.seq (T.region (go 2 3 (sQ (Qia Ty.s49 rfl (go 1 3 (RS.nil (T.block (T.iter (fun ss_178:Int × (List Ends)=>mkA 197 [(1,.ptr 0 0),(4,.ref 1),(5,iI z15),(6,iI s6),(51,sL Q5a p0.Nodes),(52,iI ((p0.Nodes).length:Int)),(53,iI s6),(152,sL encI x9.Out),(153,iI ((x9.Out).length:Int)),(154,iI ss_178.1)]) (fun ss_178=>[.box (Qxa p0),aR 186 2 Jpa ss_178.2]) h (wk [] [0,1] 3 rfl) (fun ss_178 v_179 h hv_179=>?_)))))))))
       obtain ⟨s27,s28⟩:=ss_178
       replace h:Jpb p0 s6 x9 z15 s27 s28=some v_179:=h
       try dsimp only
       unfold Jpb at h
       refine T.seq (T.region (go 1 2 (RS.nil (T.seq (T.ci h rfl (fun hb_180 h=>?_) (fun hb_180 h=>?_))))))
       ·refine T.skip (T.seq (T.block (T.seq ?_)))
        obtain ⟨x30,hx30,h⟩:=bind_some h
        refine T.region (sQ (Qka Ty.s49 (fun _=>rfl) rfl rfl hx30 (go 2 2 (RS.nil (T.seq (T.join (Z:=Unit) (fun _=>mkA 197 [(1,.ptr 0 0),(4,.ref 1),(5,iI z15),(6,iI s6),(14,iI x30),(51,sL Q5a p0.Nodes),(52,iI ((p0.Nodes).length:Int)),(53,iI s6),(152,sL encI x9.Out),(153,iI ((x9.Out).length:Int)),(154,iI s27),(165,.bool ((decide (x30<0)) || decide (x30 ≥ p0.Rings)))]) (fun _=>[.box (Qxa p0),aR 186 2 Jpa s28]) (fun _=>True) (fun _ _=>?_) (fun hK=>?_)))))))
        ·refine T.ci h rfl (fun hb_182 h=>?_) (fun hb_182 h=>?_)
         ·refine T.seq (T.region (go 2 2 (RS.nil ?_)))
          obtain ⟨w_183,h,hw_183⟩:=Qpa h
          replace h:=h.trans (congrArg some (hv_179 _ hw_183))
          obtain ⟨w_184,h,hw_184⟩:=Qpa h
          replace h:=h.trans (congrArg some (hv_124 _ hw_184))
          cases h
          exact tO [(0,186,2)] [2] 2
         refine T.skip (T.seq (T.seq ?_))
         obtain ⟨x34,hx34,h⟩:=bind_some h
         obtain ⟨x35,hx35,h⟩:=bind_some h
         refine T.region (go 2 2 (sQ (Q6a (en:=Jpa) Ty.s182 rfl rfl rfl hx34 (go 1 2 (sO (Jga (en:=Jpa) (a:=x35) rfl rfl hx35 (Qra Ty.k3 (c:=iI x35.src) rfl (go 1 2 (RS.nil (T.ci h rfl (fun hb_185 h=>?_) (fun hb_185 h=>?_)))))))))))
         ·refine T.seq (T.region (go 2 2 (RS.nil ?_)))
          obtain ⟨w_186,h,hw_186⟩:=Qpa h
          replace h:=h.trans (congrArg some (hv_179 _ hw_186))
          obtain ⟨w_187,h,hw_187⟩:=Qpa h
          replace h:=h.trans (congrArg some (hv_124 _ hw_187))
          cases h
          exact tO [(0,186,2)] [2] 2
         refine T.skip ?_
         obtain ⟨x36,hx36,h⟩:=bind_some h
         obtain ⟨x37,hx37,h⟩:=bind_some h
         refine T.region (go 3 2 (sQ (Q6a (en:=Jpa) Ty.s182 rfl rfl rfl hx36 (go 1 2 (sO (Yda (en:=Jpa) (a:=x37) (a':=(⟨s6,x37.dst⟩:Ends)) Ty.c3 Ty.i3 rfl (vs:=[iI s6]) rfl rfl rfl hx37 rfl rfl rfl (RS.nil (T.region (go 2 2 (RS.nil ?_))))))))))
         exact ⟨(IntKind.i64.wrap (s27+1),(List.set s28 x36 (⟨s6,x37.dst⟩:Ends))),(Option.some.inj h).symm,wk [] [0,1] 2 rfl⟩
        refine T.region (go 3 2 ?_)
        rcases Qga (decide (x30<0)) with hb_181 | hb_181
        ·refine sN hb_181 (sN hb_181 (sN hb_181 (sN hb_181 (sQ (Qna (v:=.bool true) rfl hb_181 rfl (RS.nil ?_))))))
         exact T.sub (hK () trivial) ⟨rfl,rfl,rfl,rfl,rfl,rfl,rfl,rfl,rfl,rfl,rfl,(congrArg AV.bool (by simp only [hb_181,bz,if_true,if_false,Bool.false_eq_true])).symm,trivial⟩
        refine yg 2 hb_181 (yg 2 hb_181 (yg 2 hb_181 (yg 2 hb_181 (sQ (Qha (v:=.bool (decide (x30 ≥ p0.Rings))) rfl hb_181 rfl (RS.nil ?_))))))
        exact T.sub (hK () trivial) ⟨rfl,rfl,rfl,rfl,rfl,rfl,rfl,rfl,rfl,rfl,rfl,(congrArg AV.bool (by simp only [hb_181,bz,if_true,if_false,Bool.false_eq_true])).symm,trivial⟩
       refine T.exit ?_
       obtain ⟨w_188,h,hw_188⟩:=Qpa h
       replace h:=h.trans (congrArg some (hv_179 _ hw_188))
       refine T.region (go 2 2 (RS.nil ?_))
       exact ⟨(z15,IntKind.i64.wrap (s6+1),s28),(Option.some.inj h).symm,wk [] [0,1] 2 rfl⟩
      refine T.seq (T.region (go 3 3 (RS.nil (T.ci h rfl (fun hb_189 h=>?_) (fun hb_189 h=>?_)))))
      ·refine T.region (go 3 3 (RS.nil ?_))
       exact T.weakR (hK3 (IntKind.i64.wrap (s5+1)) h) (wk [] [0,1,2] 3 rfl)
      refine T.skip ?_
      exact T.su (hK3 s5 h)
     refine T.region (go 4 3 ?_)
     rcases Qga (decide (x9.A<0)) with hb_132 | hb_132
     ·refine sN hb_132 (sN hb_132 (sN hb_132 (sN hb_132 (sU (sU (sU (sN hb_132 (sQ (Qna (v:=.bool true) rfl hb_132 rfl (go 1 3 ?_))))))))))
      refine sN rfl (sN rfl (sN rfl (sN rfl (sU (sU (sU (sN rfl (sQ (Qna (v:=.bool true) rfl rfl rfl (go 1 3 ?_))))))))))
      refine sN rfl (sN rfl (sN rfl (sN rfl (sU (sU (sU (sN rfl (sN rfl (sU ?_)))))))))
      refine sU (sU (sN rfl (sQ (Qna (v:=.bool true) rfl rfl rfl (RS.nil ?_)))))
      exact T.sub (hK () trivial) ⟨rfl,rfl,rfl,rfl,rfl,rfl,rfl,rfl,(congrArg AV.bool (by simp only [hb_132,bz,if_true,if_false,Bool.false_eq_true])).symm,trivial⟩
     refine yg 3 hb_132 (yg 3 hb_132 (yg 3 hb_132 (yg 3 hb_132 ?_)))
     rcases Qga (x9.Kind==1) with hb_133 | hb_133
     ·refine yg 3 hb_133 (yg 3 hb_133 (yg 3 hb_133 (yQ hb_132 (Qna (v:=.bool (decide (x9.A ≥ 4))) rfl hb_133 rfl (sQ (Qha (v:=.bool (decide (x9.A ≥ 4))) rfl hb_132 rfl (go 1 3 ?_)))))))
      rcases Qga (decide (x9.A ≥ 4)) with hb_134 | hb_134
      ·refine sN hb_134 (sN hb_134 (sN hb_134 (sN hb_134 (sU (sU (sU (sN hb_134 (sQ (Qna (v:=.bool true) rfl hb_134 rfl (go 1 3 ?_))))))))))
       refine sN rfl (sN rfl (sN rfl (sN rfl (sU (sU (sU (sN rfl (sN rfl (sU ?_)))))))))
       refine sU (sU (sN rfl (sQ (Qna (v:=.bool true) rfl rfl rfl (RS.nil ?_)))))
       exact T.sub (hK () trivial) ⟨rfl,rfl,rfl,rfl,rfl,rfl,rfl,rfl,(congrArg AV.bool (by simp only [hb_132,hb_133,hb_134,bz,if_true,if_false,Bool.false_eq_true])).symm,trivial⟩
      refine yg 3 hb_134 (yg 3 hb_134 (yg 3 hb_134 (yg 3 hb_134 ?_)))
      rcases Qga (x9.Kind==2) with hb_135 | hb_135
      ·refine yg 3 hb_135 (yg 3 hb_135 (yg 3 hb_135 (yQ hb_134 (Qna (v:=.bool (decide (x9.A > 3))) rfl hb_135 rfl (sQ (Qha (v:=.bool (decide (x9.A > 3))) rfl hb_134 rfl (go 1 3 ?_)))))))
       rcases Qga (decide (x9.A > 3)) with hb_136 | hb_136
       ·refine sN hb_136 (sN hb_136 (sN hb_136 (sN hb_136 (sU (sU (sU (sN hb_136 (sN hb_136 (sU ?_)))))))))
        refine sU (sU (sN hb_136 (sQ (Qna (v:=.bool true) rfl hb_136 rfl (RS.nil ?_)))))
        exact T.sub (hK () trivial) ⟨rfl,rfl,rfl,rfl,rfl,rfl,rfl,rfl,(congrArg AV.bool (by simp only [hb_132,hb_133,hb_134,hb_135,hb_136,bz,if_true,if_false,Bool.false_eq_true])).symm,trivial⟩
       refine yg 3 hb_136 (yg 3 hb_136 (yg 3 hb_136 (yg 3 hb_136 ?_)))
       rcases Qga (x9.Kind != 1) with hb_137 | hb_137
       ·refine yg 3 hb_137 (yg 3 hb_137 (yg 3 hb_137 (yQ hb_136 (Qna (v:=.bool (x9.Kind != 2)) rfl hb_137 rfl (yg 3 hb_136 ?_)))))
        rcases Qga (x9.Kind != 2) with hb_138 | hb_138
        ·refine yg 3 hb_138 (yg 3 hb_138 (yg 3 hb_138 (yQ hb_136 (Qna (v:=.bool (x9.A != 0)) rfl hb_138 rfl (sQ (Qha (v:=.bool (x9.A != 0)) rfl hb_136 rfl (RS.nil ?_)))))))
         exact T.sub (hK () trivial) ⟨rfl,rfl,rfl,rfl,rfl,rfl,rfl,rfl,(congrArg AV.bool (by simp only [hb_132,hb_133,hb_134,hb_135,hb_136,hb_137,hb_138,bz,if_true,if_false,Bool.false_eq_true])).symm,trivial⟩
        refine sN hb_138 (sN hb_138 (sN hb_138 (yQ hb_136 (Qha (v:=.bool false) rfl hb_138 rfl (sQ (Qha (v:=.bool false) rfl hb_136 rfl (RS.nil ?_)))))))
        exact T.sub (hK () trivial) ⟨rfl,rfl,rfl,rfl,rfl,rfl,rfl,rfl,(congrArg AV.bool (by simp only [hb_132,hb_133,hb_134,hb_135,hb_136,hb_137,hb_138,bz,if_true,if_false,Bool.false_eq_true])).symm,trivial⟩
       refine sN hb_137 (sN hb_137 (sN hb_137 (yQ hb_136 (Qha (v:=.bool false) rfl hb_137 rfl (yg 3 hb_136 (sN rfl (sN rfl (sN rfl (yQ hb_136 (Qha (v:=.bool false) rfl rfl rfl (sQ (Qha (v:=.bool false) rfl hb_136 rfl ?_))))))))))))
       refine RS.nil ?_
       exact T.sub (hK () trivial) ⟨rfl,rfl,rfl,rfl,rfl,rfl,rfl,rfl,(congrArg AV.bool (by simp only [hb_132,hb_133,hb_134,hb_135,hb_136,hb_137,bz,if_true,if_false,Bool.false_eq_true])).symm,trivial⟩
      refine sN hb_135 (sN hb_135 (sN hb_135 (yQ hb_134 (Qha (v:=.bool false) rfl hb_135 rfl (sQ (Qha (v:=.bool false) rfl hb_134 rfl (go 1 3 (yg 3 rfl (yg 3 rfl (yg 3 rfl (yg 3 rfl ?_)))))))))))
      rcases Qga (x9.Kind != 1) with hb_139 | hb_139
      ·refine yg 3 hb_139 (yg 3 hb_139 (yg 3 hb_139 (yQ rfl (Qna (v:=.bool (x9.Kind != 2)) rfl hb_139 rfl (yg 3 rfl ?_)))))
       rcases Qga (x9.Kind != 2) with hb_140 | hb_140
       ·refine yg 3 hb_140 (yg 3 hb_140 (yg 3 hb_140 (yQ rfl (Qna (v:=.bool (x9.A != 0)) rfl hb_140 rfl (sQ (Qha (v:=.bool (x9.A != 0)) rfl rfl rfl (RS.nil ?_)))))))
        exact T.sub (hK () trivial) ⟨rfl,rfl,rfl,rfl,rfl,rfl,rfl,rfl,(congrArg AV.bool (by simp only [hb_132,hb_133,hb_134,hb_135,hb_139,hb_140,bz,if_true,if_false,Bool.false_eq_true])).symm,trivial⟩
       refine sN hb_140 (sN hb_140 (sN hb_140 (yQ rfl (Qha (v:=.bool false) rfl hb_140 rfl (sQ (Qha (v:=.bool false) rfl rfl rfl (RS.nil ?_)))))))
       exact T.sub (hK () trivial) ⟨rfl,rfl,rfl,rfl,rfl,rfl,rfl,rfl,(congrArg AV.bool (by simp only [hb_132,hb_133,hb_134,hb_135,hb_139,hb_140,bz,if_true,if_false,Bool.false_eq_true])).symm,trivial⟩
      refine sN hb_139 (sN hb_139 (sN hb_139 (yQ rfl (Qha (v:=.bool false) rfl hb_139 rfl (yg 3 rfl (sN rfl (sN rfl (sN rfl (yQ rfl (Qha (v:=.bool false) rfl rfl rfl (sQ (Qha (v:=.bool false) rfl rfl rfl ?_))))))))))))
      refine RS.nil ?_
      exact T.sub (hK () trivial) ⟨rfl,rfl,rfl,rfl,rfl,rfl,rfl,rfl,(congrArg AV.bool (by simp only [hb_132,hb_133,hb_134,hb_135,hb_139,bz,if_true,if_false,Bool.false_eq_true])).symm,trivial⟩
     refine sN hb_133 (sN hb_133 (sN hb_133 (yQ hb_132 (Qha (v:=.bool false) rfl hb_133 rfl (sQ (Qha (v:=.bool false) rfl hb_132 rfl (go 1 3 (yg 3 rfl (yg 3 rfl (yg 3 rfl (yg 3 rfl ?_)))))))))))
     rcases Qga (x9.Kind==2) with hb_141 | hb_141
     ·refine yg 3 hb_141 (yg 3 hb_141 (yg 3 hb_141 (yQ rfl (Qna (v:=.bool (decide (x9.A > 3))) rfl hb_141 rfl (sQ (Qha (v:=.bool (decide (x9.A > 3))) rfl rfl rfl (go 1 3 ?_)))))))
      rcases Qga (decide (x9.A > 3)) with hb_142 | hb_142
      ·refine sN hb_142 (sN hb_142 (sN hb_142 (sN hb_142 (sU (sU (sU (sN hb_142 (sN hb_142 (sU ?_)))))))))
       refine sU (sU (sN hb_142 (sQ (Qna (v:=.bool true) rfl hb_142 rfl (RS.nil ?_)))))
       exact T.sub (hK () trivial) ⟨rfl,rfl,rfl,rfl,rfl,rfl,rfl,rfl,(congrArg AV.bool (by simp only [hb_132,hb_133,hb_141,hb_142,bz,if_true,if_false,Bool.false_eq_true])).symm,trivial⟩
      refine yg 3 hb_142 (yg 3 hb_142 (yg 3 hb_142 (yg 3 hb_142 ?_)))
      rcases Qga (x9.Kind != 1) with hb_143 | hb_143
      ·refine yg 3 hb_143 (yg 3 hb_143 (yg 3 hb_143 (yQ hb_142 (Qna (v:=.bool (x9.Kind != 2)) rfl hb_143 rfl (yg 3 hb_142 ?_)))))
       rcases Qga (x9.Kind != 2) with hb_144 | hb_144
       ·refine yg 3 hb_144 (yg 3 hb_144 (yg 3 hb_144 (yQ hb_142 (Qna (v:=.bool (x9.A != 0)) rfl hb_144 rfl (sQ (Qha (v:=.bool (x9.A != 0)) rfl hb_142 rfl (RS.nil ?_)))))))
        exact T.sub (hK () trivial) ⟨rfl,rfl,rfl,rfl,rfl,rfl,rfl,rfl,(congrArg AV.bool (by simp only [hb_132,hb_133,hb_141,hb_142,hb_143,hb_144,bz,if_true,if_false,Bool.false_eq_true])).symm,trivial⟩
       refine sN hb_144 (sN hb_144 (sN hb_144 (yQ hb_142 (Qha (v:=.bool false) rfl hb_144 rfl (sQ (Qha (v:=.bool false) rfl hb_142 rfl (RS.nil ?_)))))))
       exact T.sub (hK () trivial) ⟨rfl,rfl,rfl,rfl,rfl,rfl,rfl,rfl,(congrArg AV.bool (by simp only [hb_132,hb_133,hb_141,hb_142,hb_143,hb_144,bz,if_true,if_false,Bool.false_eq_true])).symm,trivial⟩
      refine sN hb_143 (sN hb_143 (sN hb_143 (yQ hb_142 (Qha (v:=.bool false) rfl hb_143 rfl (yg 3 hb_142 (sN rfl (sN rfl (sN rfl (yQ hb_142 (Qha (v:=.bool false) rfl rfl rfl (sQ (Qha (v:=.bool false) rfl hb_142 rfl ?_))))))))))))
      refine RS.nil ?_
      exact T.sub (hK () trivial) ⟨rfl,rfl,rfl,rfl,rfl,rfl,rfl,rfl,(congrArg AV.bool (by simp only [hb_132,hb_133,hb_141,hb_142,hb_143,bz,if_true,if_false,Bool.false_eq_true])).symm,trivial⟩
     refine sN hb_141 (sN hb_141 (sN hb_141 (yQ rfl (Qha (v:=.bool false) rfl hb_141 rfl (sQ (Qha (v:=.bool false) rfl rfl rfl (go 1 3 (yg 3 rfl (yg 3 rfl (yg 3 rfl (yg 3 rfl ?_)))))))))))
     rcases Qga (x9.Kind != 1) with hb_145 | hb_145
     ·refine yg 3 hb_145 (yg 3 hb_145 (yg 3 hb_145 (yQ rfl (Qna (v:=.bool (x9.Kind != 2)) rfl hb_145 rfl (yg 3 rfl ?_)))))
      rcases Qga (x9.Kind != 2) with hb_146 | hb_146
      ·refine yg 3 hb_146 (yg 3 hb_146 (yg 3 hb_146 (yQ rfl (Qna (v:=.bool (x9.A != 0)) rfl hb_146 rfl (sQ (Qha (v:=.bool (x9.A != 0)) rfl rfl rfl (RS.nil ?_)))))))
       exact T.sub (hK () trivial) ⟨rfl,rfl,rfl,rfl,rfl,rfl,rfl,rfl,(congrArg AV.bool (by simp only [hb_132,hb_133,hb_141,hb_145,hb_146,bz,if_true,if_false,Bool.false_eq_true])).symm,trivial⟩
      refine sN hb_146 (sN hb_146 (sN hb_146 (yQ rfl (Qha (v:=.bool false) rfl hb_146 rfl (sQ (Qha (v:=.bool false) rfl rfl rfl (RS.nil ?_)))))))
      exact T.sub (hK () trivial) ⟨rfl,rfl,rfl,rfl,rfl,rfl,rfl,rfl,(congrArg AV.bool (by simp only [hb_132,hb_133,hb_141,hb_145,hb_146,bz,if_true,if_false,Bool.false_eq_true])).symm,trivial⟩
     refine sN hb_145 (sN hb_145 (sN hb_145 (yQ rfl (Qha (v:=.bool false) rfl hb_145 rfl (yg 3 rfl (sN rfl (sN rfl (sN rfl (yQ rfl (Qha (v:=.bool false) rfl rfl rfl (sQ (Qha (v:=.bool false) rfl rfl rfl ?_))))))))))))
     refine RS.nil ?_
     exact T.sub (hK () trivial) ⟨rfl,rfl,rfl,rfl,rfl,rfl,rfl,rfl,(congrArg AV.bool (by simp only [hb_132,hb_133,hb_141,hb_145,bz,if_true,if_false,Bool.false_eq_true])).symm,trivial⟩
    refine T.region (go 2 3 (sQ (Qia Ty.s49 rfl (go 1 3 (sO (cF (J0d ((x9.In).length:Int) x11.1 x12 hx12) ⟨rfl,(go 2 3 ?_)⟩))))))
    rcases Qga (!x12) with hb_128 | hb_128
    ·replace hz:=ite_T hz hb_128
     refine sN hb_128 (sN hb_128 (sN hb_128 (sN hb_128 (sN hb_128 (sN hb_128 (sQ (Qna (v:=.bool true) rfl hb_128 rfl (RS.nil ?_))))))))
     exact T.sub (hK () trivial) ⟨rfl,rfl,rfl,rfl,rfl,rfl,rfl,rfl,(congrArg AV.bool ((congrArg (fun p=>p) (Option.some.inj hz)).symm)).symm,trivial⟩
    replace hz:=ite_F hz hb_128
    obtain ⟨x13,hx13,hz⟩:=bind_some hz
    refine yg 3 hb_128 (yg 3 hb_128 (yQ hb_128 (Qia Ty.s49 rfl (yg 3 hb_128 (yO hb_128 (cF (J0d ((x9.Out).length:Int) x11.2.1 x13 hx13) ⟨rfl,(yg 3 hb_128 (sQ (Qha (v:=.bool (!x13)) rfl hb_128 rfl (RS.nil ?_))))⟩))))))
    exact T.sub (hK () trivial) ⟨rfl,rfl,rfl,rfl,rfl,rfl,rfl,rfl,(congrArg AV.bool ((congrArg (fun p=>p) (Option.some.inj hz)).symm)).symm,trivial⟩
   refine T.exit ?_
   obtain ⟨w_190,h,hw_190⟩:=Qpa h
   replace h:=h.trans (congrArg some (hv_124 _ hw_190))
   refine T.seq (T.seq (T.region (go 1 2 (sQ (Q0b (en:=Jpa) Ty.s182 rfl rfl (go 1 2 (RS.nil (T.block (T.iter (fun ss_197:Int=>mkA 197 [(4,.ref 0),(5,iI s5),(179,.ref 0),(180,iI ((s7).length:Int)),(181,iI ss_197)]) (fun ss_197=>[aR 186 2 Jpa s7]) h (wk [] [1] 2 rfl) (fun ss_197 v_198 h hv_198=>?_))))))))))
   revert hv_198 h;revert ss_197;intro s38 h hv_198
   replace h:Zjb s5 s7 s38=some v_198:=h
   try dsimp only
   unfold Zjb at h
   refine T.seq (T.region (go 1 1 (RS.nil (T.seq (T.ci h rfl (fun hb_199 h=>?_) (fun hb_199 h=>?_))))))
   ·refine T.skip (T.seq (T.block (T.seq ?_)))
    obtain ⟨x41,hx41,h⟩:=bind_some h
    obtain ⟨x42,hx42,h⟩:=bind_some h
    refine T.region (sQ (Q6a (en:=Jpa) Ty.s182 rfl rfl rfl hx41 (sO (Jga (en:=Jpa) (a:=x42) rfl rfl hx42 (Zic Ty.k186 Ty.c186 rfl (cs:=(Jpa x42)) rfl (go 2 1 (RS.nil (T.join (Z:=Unit) (fun _=>mkA 197 [(4,.ref 0),(5,iI s5),(179,.ref 0),(180,iI ((s7).length:Int)),(181,iI s38),(192,.bool ((decide (x42.src<0)) || decide (x42.dst<0)))]) (fun _=>[aR 186 2 Jpa s7]) (fun _=>True) (fun _ _=>?_) (fun hK=>?_)))))))))
    ·refine T.ci h rfl (fun hb_201 h=>?_) (fun hb_201 h=>?_)
     ·refine T.seq (T.region (go 2 1 (RS.nil ?_)))
      obtain ⟨w_202,h,hw_202⟩:=Qpa h
      replace h:=h.trans (congrArg some (hv_198 _ hw_202))
      cases h
      exact tO [(0,186,2)] [1] 1
     refine T.skip (T.region (go 2 1 (RS.nil ?_)))
     exact ⟨IntKind.i64.wrap (s38+1),(Option.some.inj h).symm,wk [] [0] 1 rfl⟩
    refine T.region (go 4 2 ?_)
    rcases Qga (decide (x42.src<0)) with hb_200 | hb_200
    ·refine sN hb_200 (sN hb_200 (sN hb_200 (sQ (Qna (v:=.bool true) rfl hb_200 rfl (RS.nil ?_)))))
     exact T.weakR (hK () trivial) (Weak.mkN [] [0] (by decide) (Qma _) rfl ⟨Jha rfl,Qja rfl,Jha rfl,Qja rfl,Qja rfl,Jca (by simp only [hb_200,bz,if_true,if_false,Bool.false_eq_true]),trivial⟩ (rw_ar rfl rfl (Qfa)))
    refine yg 2 hb_200 (yg 2 hb_200 (yg 2 hb_200 (sQ (Qha (v:=.bool (decide (x42.dst<0))) rfl hb_200 rfl (RS.nil ?_)))))
    exact T.weakR (hK () trivial) (Weak.mkN [] [0] (by decide) (Qma _) rfl ⟨Jha rfl,Qja rfl,Jha rfl,Qja rfl,Qja rfl,Jca (by simp only [hb_200,bz,if_true,if_false,Bool.false_eq_true]),trivial⟩ (rw_ar rfl rfl (Qfa)))
   refine T.exit ?_
   obtain ⟨w_203,h,hw_203⟩:=Qpa h
   replace h:=h.trans (congrArg some (hv_198 _ hw_203))
   refine T.seq (T.seq (T.region (go 2 1 (RS.nil (T.ci h rfl (fun hb_204 h=>?_) (fun hb_204 h=>?_))))))
   ·refine T.seq (T.region (go 2 1 (RS.nil ?_)))
    cases h
    exact tO [(0,186,2)] [1] 1
   refine T.skip (T.seq (T.region (go 3 1 (RS.nil ?_))))
   cases h
   exact tO [] [0] 1
  refine T.region (go 4 1 ?_)
  rcases Qga (decide (p0.Room<1)) with hb_5 | hb_5
  ·refine sN hb_5 (sN hb_5 (sN hb_5 (sQ (Qna (v:=.bool true) rfl hb_5 rfl (RS.nil ?_)))))
   exact T.sub (hK () trivial) ⟨rfl,(congrArg AV.bool (by simp only [hb_5,bz,if_true,if_false,Bool.false_eq_true])).symm,trivial⟩
  refine yg 1 hb_5 (yg 1 hb_5 (yg 1 hb_5 (sQ (Qha (v:=.bool (decide (p0.Room > 6))) rfl hb_5 rfl (RS.nil ?_)))))
  exact T.sub (hK () trivial) ⟨rfl,(congrArg AV.bool (by simp only [hb_5,bz,if_true,if_false,Bool.false_eq_true])).symm,trivial⟩
 refine T.region (go 2 1 (sQ (Qia Ty.s45 rfl (go 2 1 ?_))))
 rcases Qga (decide (((p0.Nodes).length:Int)<1)) with hb_1 | hb_1
 ·refine sN hb_1 (sN hb_1 (sN hb_1 (sN hb_1 (sQ (Qna (v:=.bool true) rfl hb_1 rfl (go 1 1 (sN rfl (sN rfl (sN rfl (sQ (Qna (v:=.bool true) rfl rfl rfl ?_)))))))))))
  refine go 1 1 (sN rfl (sN rfl (sN rfl (sQ (Qna (v:=.bool true) rfl rfl rfl (RS.nil ?_))))))
  exact T.sub (hK () trivial) ⟨rfl,(congrArg AV.bool (by simp only [hb_1,bz,if_true,if_false,Bool.false_eq_true])).symm,trivial⟩
 refine yg 1 hb_1 (yg 1 hb_1 (yQ hb_1 (Qia Ty.s45 rfl (yg 1 hb_1 (sQ (Qha (v:=.bool (decide (((p0.Nodes).length:Int) > 12))) rfl hb_1 rfl (go 1 1 ?_)))))))
 rcases Qga (decide (((p0.Nodes).length:Int) > 12)) with hb_2 | hb_2
 ·refine sN hb_2 (sN hb_2 (sN hb_2 (sQ (Qna (v:=.bool true) rfl hb_2 rfl (go 1 1 (sN rfl (sN rfl (sN rfl (sQ (Qna (v:=.bool true) rfl rfl rfl (RS.nil ?_)))))))))))
  exact T.sub (hK () trivial) ⟨rfl,(congrArg AV.bool (by simp only [hb_1,hb_2,bz,if_true,if_false,Bool.false_eq_true])).symm,trivial⟩
 refine yg 1 hb_2 (yg 1 hb_2 (yg 1 hb_2 (sQ (Qha (v:=.bool (decide (p0.Rings<0))) rfl hb_2 rfl (go 1 1 ?_)))))
 rcases Qga (decide (p0.Rings<0)) with hb_3 | hb_3
 ·refine sN hb_3 (sN hb_3 (sN hb_3 (sQ (Qna (v:=.bool true) rfl hb_3 rfl (RS.nil ?_)))))
  exact T.sub (hK () trivial) ⟨rfl,(congrArg AV.bool (by simp only [hb_1,hb_2,hb_3,bz,if_true,if_false,Bool.false_eq_true])).symm,trivial⟩
 refine yg 1 hb_3 (yg 1 hb_3 (yg 1 hb_3 (sQ (Qha (v:=.bool (decide (p0.Rings > 16))) rfl hb_3 rfl (RS.nil ?_)))))
 exact T.sub (hK () trivial) ⟨rfl,(congrArg AV.bool (by simp only [hb_1,hb_2,hb_3,bz,if_true,if_false,Bool.false_eq_true])).symm,trivial⟩
theorem Z1c (p0:Int) (p1:List Bool) (p2:List Ends) (r:Bool) (h:Qnb p0 p1 p2=some r):FnX Tryz.prog 107 [iI p0,.ptr 0 0,.ptr 1 0] [.box [.ref 2],.box [.ref 3],aR 4 1 encB p1,aR 186 2 Jpa p2] (.bool r) [.box [.ref 2],.box [.ref 3],aR 4 1 encB p1,aR 186 2 Jpa p2]:=by
 unfold Qnb at h
 refine fnT 4 Tryz.func107 Tryz.ntmps107 ?_
 refine T.seq (T.region (go 1 4 (RS.nil (T.seq ?_))))
 obtain ⟨x5,hx5,h⟩:=bind_some h
 obtain ⟨x6,hx6,h⟩:=bind_some h
 obtain ⟨x7,hx7,h⟩:=bind_some h
 obtain ⟨x8,hx8,h⟩:=bind_some h
 refine T.drawn mixed (k:=10) rfl (rq [2] 9 (rL [1,3,4,5,6,7,8,9] 1 rfl (r0 3 rfl (Q6a (en:=Jpa) Ty.s182 rfl rfl rfl hx5 (rq [4] 6 (rL [0,6,7,8,9] 0 rfl (ra1 5 (oO rfl (Jga (en:=Jpa) (a:=x6) rfl rfl hx6 (Qra Ty.k3 (c:=iI x6.src) rfl (r0 6 rfl (Q6a (en:=encB) Ty.s146 rfl rfl rfl hx7 (ra1 7 ?_)))))))))))))
 refine oO rfl (Jga (en:=encB) (a:=x8) rfl rfl hx8 (Qra Ty.k4 (c:=.bool x8) rfl (rq [8,9] 0 (RA.done (by decide +kernel) ?_))))
 cases h
 exact tN [0,1,2,3]
theorem Yab (p0:List Int) (p1:List Bool) (p2:List Ends) (r:Int) (h:Vza p0 p1 p2=some r):FnX Tryz.prog 108 [sL encI p0,.func 107 [.ptr 0 0,.ptr 1 0]] [.box [.ref 2],.box [.ref 3],aR 4 1 encB p1,aR 186 2 Jpa p2] (iI r) [.box [.ref 2],.box [.ref 3],aR 4 1 encB p1,aR 186 2 Jpa p2]:=by
 unfold Vza at h
 refine fnT 4 Tryz.func108 Tryz.ntmps108 ?_
 refine T.seq (T.region (go 1 4 (RS.nil (T.seq (T.seq (T.region (go 1 4 (sQ (Qia Ty.s49 rfl (go 1 4 ?_))))))))))
 refine RS.nil (T.block (T.iter (fun ss_5:Int=>mkA 19 [(0,sL encI p0),(1,.func 107 [.ptr 0 0,.ptr 1 0]),(7,iI ((p0).length:Int)),(8,iI ss_5)]) (fun ss_5=>[.box [.ref 2],.box [.ref 3],aR 4 1 encB p1,aR 186 2 Jpa p2]) h (wk [] [0,1,2,3] 4 rfl) (fun ss_5 v_6 h hv_6=>?_)))
 revert hv_6 h;revert ss_5;intro s1 h hv_6
 replace h:Zba p0 p1 p2 s1=some v_6:=h
 try dsimp only
 unfold Zba at h
 refine T.seq (T.region (go 1 4 (RS.nil (T.seq (T.ci h rfl (fun hb_7 h=>?_) (fun hb_7 h=>?_))))))
 ·refine T.skip (T.seq (T.block (T.seq (T.region (go 2 4 (RS.nil (T.seq ?_)))))))
  obtain ⟨x4,hx4,h⟩:=bind_some h
  obtain ⟨x5,hx5,h⟩:=bind_some h
  refine T.region (go 3 4 (sQ (Qka Ty.s49 (fun _=>rfl) rfl rfl hx4 (go 1 4 (sO (Qza (aw2:=[.box [.ref 2],.box [.ref 3],aR 4 1 encB p1,aR 186 2 Jpa p2]) (v':=.bool x5) (n0:=4) (n1:=4) [0,1,2,3] rfl rfl (Z1c x4 p1 p2 x5 hx5) (Qoa rfl ⟨Jha rfl,trivial⟩ (Qoa rfl ⟨Jha rfl,trivial⟩ (Zia rfl Y1c rfl (Zia rfl Vyb rfl Qfa)))) ⟨Qja rfl,Qda rfl,Qda rfl,trivial⟩ (Qea (V4a _)) ⟨.inl ⟨0,_,by decide,rfl,Qya ⟨Zla (by decide),trivial⟩⟩,.inl ⟨1,_,by decide,rfl,Qya ⟨Zla (by decide),trivial⟩⟩,.inl ⟨2,_,by decide,rfl,Jva Y1c⟩,.inl ⟨3,_,by decide,rfl,Jva Vyb⟩,trivial⟩ (RS.nil (T.ci h rfl (fun hb_8 h=>?_) (fun hb_8 h=>?_)))))))))
  ·refine T.seq (T.region (go 2 4 (RS.nil ?_)))
   obtain ⟨w_9,h,hw_9⟩:=Qpa h
   replace h:=h.trans (congrArg some (hv_6 _ hw_9))
   cases h
   exact tN [0,1,2,3]
  refine T.skip (T.region (go 2 4 (RS.nil ?_)))
  exact ⟨IntKind.i64.wrap (s1+1),(Option.some.inj h).symm,wk [] [0,1,2,3] 4 rfl⟩
 refine T.exit ?_
 obtain ⟨w_10,h,hw_10⟩:=Qpa h
 replace h:=h.trans (congrArg some (hv_6 _ hw_10))
 refine T.seq (T.region (go 1 4 (RS.nil ?_)))
 cases h
 exact tN [0,1,2,3]
theorem Vjb (p0:List Int) (p1:List Bool) (p2:List Ends) (r:Bool) (h:Zaa p0 p1 p2=some r):FnX Tryz.prog 96 [sL encI p0,.func 107 [.ptr 0 0,.ptr 1 0]] [.box [.ref 2],.box [.ref 3],aR 4 1 encB p1,aR 186 2 Jpa p2] (.bool r) [.box [.ref 2],.box [.ref 3],aR 4 1 encB p1,aR 186 2 Jpa p2]:=by
 unfold Zaa at h
 refine fnT 4 Tryz.func96 Tryz.ntmps96 ?_
 refine T.seq (T.region (go 1 4 (RS.nil (T.seq ?_))))
 obtain ⟨x2,hx2,h⟩:=bind_some h
 refine T.region (go 2 4 (sO (Qza (aw2:=[.box [.ref 2],.box [.ref 3],aR 4 1 encB p1,aR 186 2 Jpa p2]) (v':=iI x2) (n0:=4) (n1:=4) [0,1,2,3] rfl rfl (Yab p0 p1 p2 x2 hx2) (Qoa rfl ⟨Jha rfl,trivial⟩ (Qoa rfl ⟨Jha rfl,trivial⟩ (Zia rfl Y1c rfl (Zia rfl Vyb rfl Qfa)))) ⟨rn_s rfl,Vka ⟨Qda rfl,Qda rfl,trivial⟩,trivial⟩ (Qea (Qba _ _)) ⟨.inl ⟨0,_,by decide,rfl,Qya ⟨Zla (by decide),trivial⟩⟩,.inl ⟨1,_,by decide,rfl,Qya ⟨Zla (by decide),trivial⟩⟩,.inl ⟨2,_,by decide,rfl,Jva Y1c⟩,.inl ⟨3,_,by decide,rfl,Jva Vyb⟩,trivial⟩ (go 2 4 (RS.nil ?_)))))
 cases h
 exact tN [0,1,2,3]
theorem Qbe (p0:Net) (r:(List Int) × Int) (h:Jsc p0=some r):FnO Tryz.prog 94 [.agg (Qxa p0)] (.tup [.ref 0,iI r.2]) [aR 3 1 encI r.1]:=by
 unfold Jsc at h
 refine fnT 0 Tryz.func94 Tryz.ntmps94 ?_
 refine T.seq (T.region (go 3 0 (RS.nil (T.seq ?_))))
 obtain ⟨x2,hx2,h⟩:=bind_some h
 refine T.region (go 1 1 (sO (cO 1 (Vme p0 x2 hx2) ⟨rfl,(go 6 2 (RS.nil (T.seq (T.seq (T.region (go 2 3 (RS.nil ?_)))))))⟩)))
 refine T.ci h rfl (fun hb_1 h=>?_) (fun hb_1 h=>?_)
 ·refine T.seq (T.region (go 3 3 (RS.nil ?_)))
  cases h
  exact tO [(0,3,1)] [3] 3
 refine T.skip (T.seq (T.region (go 1 3 (RS.nil (T.seq ?_)))))
 obtain ⟨x4,hx4,h⟩:=bind_some h
 refine T.region (go 2 3 (sQ (Qia Ty.s45 rfl (sO (o_mk (en:=encB) (zr:=false) Ty.s146 Ty.z4 rfl rfl hx4 rfl rfl (go 2 4 (RS.nil (T.seq (T.block (T.iter (fun ss_72:(List Int) × (List Bool)=>mkA 61 [(1,.ptr 0 0),(4,.ptr 1 0),(6,.ref 2),(7,.ptr 3 0)]) (fun ss_72=>[.box (Qxa p0),.box [.ref 4],aR 3 1 encI ss_72.1,.box [.ref 5],aR 186 2 Jpa x2.1,aR 4 1 encB ss_72.2]) h (wk [(6,3,1)] [0,2,5,4,1,3] 5 rfl) (fun ss_72 v_73 h hv_73=>?_)))))))))))
 obtain ⟨s5,s6⟩:=ss_72
 replace h:Qvb p0 x2 s5 s6=some v_73:=h
 try dsimp only
 unfold Qvb at h
 refine T.seq (T.seq (T.region (go 1 6 (sQ (Q0b (en:=encI) Ty.s49 rfl rfl (go 2 6 (sQ (Qia Ty.s45 rfl (go 1 6 (RS.nil (T.ci h rfl (fun hb_74 h=>?_) (fun hb_74 h=>?_))))))))))))
 ·refine T.skip (T.block (T.seq (T.region (go 1 6 (RS.nil (T.join (Z:=Int) (fun zz_91=>mkA 61 [(1,.ptr 0 0),(4,.ptr 1 0),(6,.ref 2),(7,.ptr 3 0),(8,iI zz_91)]) (fun zz_91=>[.box (Qxa p0),.box [.ref 4],aR 3 1 encI s5,.box [.ref 5],aR 186 2 Jpa x2.1,aR 4 1 encB s6]) (fun zz_91=>Jlb s5 s6 zz_91=some v_73) (fun zz_91 h=>?_) (fun hK1=>?_)))))))
  ·revert h;revert zz_91;intro z14 h
   replace h:Jlb s5 s6 z14=some v_73:=h
   try dsimp only
   unfold Jlb at h
   refine T.seq (T.seq (T.region (go 2 6 (RS.nil (T.ci h rfl (fun hb_92 h=>?_) (fun hb_92 h=>?_))))))
   ·refine T.seq (T.region (go 2 6 (RS.nil ?_)))
    obtain ⟨w_93,h,hw_93⟩:=Qpa h
    replace h:=h.trans (congrArg some (hv_73 _ hw_93))
    cases h
    exact tO [(0,3,1)] [6] 6
   refine T.skip (T.seq ?_)
   obtain ⟨x17,hx17,h⟩:=bind_some h
   obtain ⟨x18,hx18,h⟩:=bind_some h
   refine T.region (go 2 6 (sQ (Q6a (en:=encB) Ty.s146 rfl rfl rfl hx17 (sO (Yda (en:=encB) (a:=x18) (a':=true) Ty.c4 Ty.i4 rfl (vs:=[.bool true]) rfl rfl rfl hx18 rfl rfl rfl (RS.nil ?_))))))
   obtain ⟨x19,hx19,h⟩:=bind_some h
   refine T.region (go 2 6 (sO (Q9a (rows:=List.map encI [z14]) (vs:=[iI z14]) Ty.s49 Ty.z3 rfl rfl rfl rfl rfl rfl (sO (Voa (en:=encI) (xs:=s5) (ys:=([z14]:List Int)) Ty.s49 (fun _=>rfl) rfl rfl rfl hx19 rfl rfl (go 1 8 (RS.nil ?_)))))))
   exact ⟨(x19,(List.set s6 x17 true)),(Option.some.inj h).symm,wk [] [0,1,7,3,4,5] 8 rfl⟩
  refine T.seq (T.region (go 2 6 (sQ (Qia Ty.s45 rfl (go 1 6 (RS.nil (T.block (T.iter (fun ss_102:Int=>mkA 61 [(1,.ptr 0 0),(4,.ptr 1 0),(6,.ref 2),(7,.ptr 3 0),(8,iI (-1)),(30,sL Q5a p0.Nodes),(31,iI ((p0.Nodes).length:Int)),(32,iI ss_102)]) (fun ss_102=>[.box (Qxa p0),.box [.ref 4],aR 3 1 encI s5,.box [.ref 5],aR 186 2 Jpa x2.1,aR 4 1 encB s6]) h (wk [] [0,1,2,3,4,5] 6 rfl) (fun ss_102 v_103 h hv_103=>?_)))))))))
  revert hv_103 h;revert ss_102;intro s7 h hv_103
  replace h:Qrb p0 x2 s5 s6 s7=some v_103:=h
  try dsimp only
  unfold Qrb at h
  refine T.seq (T.region (go 1 6 (RS.nil (T.seq (T.ci h rfl (fun hb_104 h=>?_) (fun hb_104 h=>?_))))))
  ·refine T.skip (T.seq (T.block (T.seq ?_)))
   obtain ⟨x9,hx9,h⟩:=bind_some h
   refine T.region (go 1 6 (sQ (Qka Ty.s45 (fun _=>rfl) rfl rfl hx9 (go 4 6 (RS.nil ?_)))))
   obtain ⟨x10,hx10,h⟩:=bind_some h
   obtain ⟨x11,hx11,h⟩:=bind_some h
   obtain ⟨zt_106,hz,h⟩:=bind_some h
   revert hz h;revert zt_106;intro c13 hz h
   refine T.join (Z:=Unit) (fun _=>mkA 61 [(1,.ptr 0 0),(4,.ptr 1 0),(6,.ref 2),(7,.ptr 3 0),(8,iI (-1)),(9,iI s7),(30,sL Q5a p0.Nodes),(31,iI ((p0.Nodes).length:Int)),(32,iI s7),(48,.bool c13)]) (fun _=>[.box (Qxa p0),.box [.ref 4],aR 3 1 encI s5,.box [.ref 5],aR 186 2 Jpa x2.1,aR 4 1 encB s6]) (fun _=>True) (fun _ _=>?_) (fun hK=>?_)
   ·refine T.ci h rfl (fun hb_107 h=>?_) (fun hb_107 h=>?_)
    ·refine T.seq (T.region (go 2 6 (RS.nil (T.exit ?_))))
     obtain ⟨w_108,h,hw_108⟩:=Qpa h
     replace h:=h.trans (congrArg some (hv_103 _ hw_108))
     exact T.su (hK1 s7 h)
    refine T.skip (T.region (go 2 6 (RS.nil ?_)))
    exact ⟨IntKind.i64.wrap (s7+1),(Option.some.inj h).symm,wk [] [0,1,2,3,4,5] 6 rfl⟩
   refine T.region (go 2 7 (sQ (Q6a (en:=encB) Ty.s146 rfl rfl rfl hx10 (sO (Jga (en:=encB) (a:=x11) rfl rfl hx11 (Qra Ty.k4 (c:=.bool x11) rfl (go 2 7 ?_)))))))
   rcases Qga (!x11) with hb_105 | hb_105
   ·replace hz:=ite_T hz hb_105
    obtain ⟨x12,hx12,hz⟩:=bind_some hz
    refine yg 7 hb_105 (yg 7 hb_105 (yg 7 hb_105 (yO hb_105 (Qza (aw2:=[.box (Qxa p0),.box [.ref 4],aR 3 1 encI s5,.box [.ref 5],aR 186 2 Jpa x2.1,aR 4 1 encB s6,.box (Q5a x9)]) (v':=.bool x12) (n0:=7) (n1:=4) [3,1,5,4] rfl rfl (Vjb x9.In s6 x2.1 x12 hx12) (Qoa rfl ⟨Jha rfl,trivial⟩ (Qoa rfl ⟨Jha rfl,trivial⟩ (Zia rfl Y1c rfl (Zia rfl Vyb rfl Qfa)))) ⟨rn_s rfl,Vka ⟨Qda rfl,Qda rfl,trivial⟩,trivial⟩ (Qea (V4a _)) ⟨.inr ⟨rfl,rfl⟩,.inl ⟨1,_,by decide,rfl,Qya ⟨Zla (by decide),trivial⟩⟩,.inr ⟨rfl,rfl⟩,.inl ⟨0,_,by decide,rfl,Qya ⟨Zla (by decide),trivial⟩⟩,.inl ⟨3,_,by decide,rfl,Jva Vyb⟩,.inl ⟨2,_,by decide,rfl,Jva Y1c⟩,.inr ⟨rfl,rfl⟩,trivial⟩ (yg 7 hb_105 (sQ (Qna (v:=.bool (!x12)) rfl hb_105 rfl (RS.nil ?_))))))))
    exact T.weakR (hK () trivial) (Weak.mkN [] [0,1,2,3,4,5] (by decide) (Qma _) rfl ⟨Qda rfl,Qda rfl,Jha rfl,Qda rfl,Qja rfl,Qja rfl,rn_s rfl,Qja rfl,Qja rfl,Jca ((congrArg (fun p=>p) (Option.some.inj hz)).symm),trivial⟩ (rw_bs (Qxa p0) rfl (Qoa (cs:=[.ref 4]) (ds:=[.ref 4]) rfl ⟨Jha rfl,trivial⟩ (rw_ar rfl rfl (Qoa (cs:=[.ref 5]) (ds:=[.ref 5]) rfl ⟨Jha rfl,trivial⟩ (rw_ar rfl rfl (rw_ar rfl rfl (Qfa))))))))
   replace hz:=ite_F hz hb_105
   refine sN hb_105 (sN hb_105 (sN hb_105 (sN hb_105 (sN hb_105 (sQ (Qha (v:=.bool false) rfl hb_105 rfl (RS.nil ?_)))))))
   exact T.weakR (hK () trivial) (Weak.mkN [] [0,1,2,3,4,5] (by decide) (Qma _) rfl ⟨Qda rfl,Qda rfl,Jha rfl,Qda rfl,Qja rfl,Qja rfl,rn_s rfl,Qja rfl,Qja rfl,Jca ((congrArg (fun p=>p) (Option.some.inj hz)).symm),trivial⟩ (rw_bs (Qxa p0) rfl (Qoa (cs:=[.ref 4]) (ds:=[.ref 4]) rfl ⟨Jha rfl,trivial⟩ (rw_ar rfl rfl (Qoa (cs:=[.ref 5]) (ds:=[.ref 5]) rfl ⟨Jha rfl,trivial⟩ (rw_ar rfl rfl (rw_ar rfl rfl (Qfa))))))))
  refine T.exit ?_
  obtain ⟨w_109,h,hw_109⟩:=Qpa h
  replace h:=h.trans (congrArg some (hv_103 _ hw_109))
  exact T.su (hK1 (-1) h)
 refine T.exit ?_
 obtain ⟨w_110,h,hw_110⟩:=Qpa h
 replace h:=h.trans (congrArg some (hv_73 _ hw_110))
 refine T.seq (T.region (go 3 6 (RS.nil ?_)))
 cases h
 exact tO [] [2] 6
theorem Qwe (p0:Net) (r:Int) (h:Zac p0=some r):Fn Tryz.prog 75 [.agg (Qxa p0)] (iI r):=by
 unfold Zac at h
 refine fnT 0 Tryz.func75 Tryz.ntmps75 ?_
 refine T.seq (T.region (go 2 0 (RS.nil (T.seq ?_))))
 obtain ⟨x2,hx2,h⟩:=bind_some h
 refine T.region (go 1 1 (sO (cO 1 (Qbe p0 x2 hx2) ⟨rfl,(go 5 2 (RS.nil (T.seq (T.region (go 2 2 (RS.nil ?_))))))⟩)))
 cases h
 exact tD
end Go.Proofs.YtchmpaaofmihcaaGreat
namespace Go.Proofs.YtchmpaaofmihcaaGreat
open Go.RowKit
set_option linter.unusedVariables false
set_option linter.unusedSimpArgs false
set_option maxRecDepth 100000
set_option maxHeartbeats 4000000
set_option synthInstance.maxSize 100000
set_option synthInstance.maxHeartbeats 4000000
theorem Jac (p0:Net) (p1:List (List Item)) (r:Int) (h:Jnb p0 p1=some r):Fn Tryz.prog 40 [.agg (Qxa p0),sL (encL Qca) p1] (iI r):=by
 unfold Jnb at h
 refine fnT 0 Tryz.func40 Tryz.ntmps40 ?_
 refine T.seq (T.region (go 2 0 (RS.nil (T.seq (T.seq ?_)))))
 obtain ⟨x2,hx2,h⟩:=bind_some h
 refine T.region (go 1 1 (sO (cF (Qwe p0 x2 hx2) ⟨rfl,(go 1 1 (RS.nil (T.seq (T.region (go 2 1 (RS.nil (T.ci h rfl (fun hb_1 h=>?_) (fun hb_1 h=>?_))))))))⟩)))
 ·refine T.seq (T.region (go 2 1 (RS.nil ?_)))
  cases h
  exact tD
 refine T.skip (T.seq (T.seq (T.region (go 1 1 (sQ (Qia Ty.s48 rfl (go 1 1 (RS.nil (T.ci h rfl (fun hb_2 h=>?_) (fun hb_2 h=>?_))))))))))
 ·refine T.seq (T.region (go 1 1 (RS.nil ?_)))
  cases h
  exact tD
 refine T.skip (T.seq (T.seq (T.region (go 1 1 (sQ (Qia Ty.s48 rfl (go 1 1 (RS.nil (T.block (T.iter (fun ss_27:Int=>mkA 69 [(1,sL (encL Qca) p1),(2,.ptr 0 0),(21,sL (encL Qca) p1),(22,iI ((p1).length:Int)),(23,iI ss_27)]) (fun ss_27=>[.box (Qxa p0)]) h (wk [] [0] 1 rfl) (fun ss_27 v_28 h hv_28=>?_)))))))))))
 revert hv_28 h;revert ss_27;intro s3 h hv_28
 replace h:Q5b p0 p1 s3=some v_28:=h
 try dsimp only
 unfold Q5b at h
 refine T.seq (T.region (go 1 1 (RS.nil (T.seq (T.ci h rfl (fun hb_29 h=>?_) (fun hb_29 h=>?_))))))
 ·refine T.skip (T.seq (T.block (T.seq ?_)))
  obtain ⟨x5,hx5,h⟩:=bind_some h
  refine T.region (sQ (Qka Ty.s48 (fun _=>rfl) rfl rfl hx5 (go 2 1 (RS.nil (T.seq (T.seq (T.region (go 1 1 (sQ (Qia Ty.s52 rfl (go 1 1 ?_)))))))))))
  refine RS.nil (T.ci h rfl (fun hb_30 h=>?_) (fun hb_30 h=>?_))
  ·refine T.seq (T.region (go 1 1 (RS.nil ?_)))
   obtain ⟨w_31,h,hw_31⟩:=Qpa h
   replace h:=h.trans (congrArg some (hv_28 _ hw_31))
   cases h
   exact tD
  refine T.skip (T.seq (T.region (go 1 1 (sQ (Qia Ty.s52 rfl (go 1 1 (RS.nil (T.block (T.iter (fun ss_36:Int=>mkA 69 [(1,sL (encL Qca) p1),(2,.ptr 0 0),(21,sL (encL Qca) p1),(22,iI ((p1).length:Int)),(23,iI s3),(30,sL Qca x5),(31,iI ((x5).length:Int)),(32,iI ss_36)]) (fun ss_36=>[.box (Qxa p0)]) h (wk [] [0] 1 rfl) (fun ss_36 v_37 h hv_37=>?_))))))))))
  revert hv_37 h;revert ss_36;intro s6 h hv_37
  replace h:Q4b s3 x5 s6=some v_37:=h
  try dsimp only
  unfold Q4b at h
  refine T.seq (T.region (go 1 1 (RS.nil (T.seq (T.ci h rfl (fun hb_38 h=>?_) (fun hb_38 h=>?_))))))
  ·refine T.skip (T.seq (T.block (T.seq ?_)))
   obtain ⟨x8,hx8,h⟩:=bind_some h
   refine T.region (sQ (Qka Ty.s52 (fun _=>rfl) rfl rfl hx8 (go 3 1 (RS.nil (T.seq (T.region (go 3 2 (RS.nil (T.ci h rfl (fun hb_39 h=>?_) (fun hb_39 h=>?_))))))))))
   ·refine T.seq (T.region (go 1 2 (RS.nil ?_)))
    obtain ⟨w_40,h,hw_40⟩:=Qpa h
    replace h:=h.trans (congrArg some (hv_37 _ hw_40))
    obtain ⟨w_41,h,hw_41⟩:=Qpa h
    replace h:=h.trans (congrArg some (hv_28 _ hw_41))
    cases h
    exact tD
   refine T.skip (T.region (go 2 2 (RS.nil ?_)))
   exact ⟨IntKind.i64.wrap (s6+1),(Option.some.inj h).symm,wk [] [0] 2 rfl⟩
  refine T.exit ?_
  obtain ⟨w_42,h,hw_42⟩:=Qpa h
  replace h:=h.trans (congrArg some (hv_37 _ hw_42))
  refine T.region (go 2 1 (RS.nil ?_))
  exact ⟨IntKind.i64.wrap (s3+1),(Option.some.inj h).symm,wk [] [0] 1 rfl⟩
 refine T.exit ?_
 obtain ⟨w_43,h,hw_43⟩:=Qpa h
 replace h:=h.trans (congrArg some (hv_28 _ hw_43))
 refine T.seq ?_
 obtain ⟨x10,hx10,h⟩:=bind_some h
 refine T.region (go 1 1 (sQ (Qia Ty.s48 rfl (sO (o_mk (en:=encB) (zr:=false) Ty.s146 Ty.z4 rfl rfl hx10 rfl rfl (go 1 2 (RS.nil (T.seq (T.seq (T.region (go 2 2 ?_)))))))))))
 refine sQ (Qia Ty.s45 rfl (go 1 2 (RS.nil (T.block (T.iter (fun ss_52:Int × (List Bool)=>mkA 69 [(1,sL (encL Qca) p1),(10,.ref 0),(45,sL Q5a p0.Nodes),(46,iI ((p0.Nodes).length:Int)),(47,iI ss_52.1)]) (fun ss_52=>[aR 4 1 encB ss_52.2]) h (wk [] [1] 2 rfl) (fun ss_52 v_53 h hv_53=>?_))))))
 obtain ⟨s11,s12⟩:=ss_52
 replace h:Yva p0 p1 s11 s12=some v_53:=h
 try dsimp only
 unfold Yva at h
 refine T.seq (T.region (go 1 1 (RS.nil (T.seq (T.ci h rfl (fun hb_54 h=>?_) (fun hb_54 h=>?_))))))
 ·refine T.skip (T.seq (T.block (T.seq ?_)))
  obtain ⟨x14,hx14,h⟩:=bind_some h
  refine T.region (sQ (Qka Ty.s45 (fun _=>rfl) rfl rfl hx14 (go 3 1 (RS.nil (T.seq (T.seq (T.region (go 3 2 (RS.nil (T.ci h rfl (fun hb_55 h=>?_) (fun hb_55 h=>?_)))))))))))
  ·refine T.exit (T.region (go 2 2 (RS.nil ?_)))
   exact ⟨(IntKind.i64.wrap (s11+1),s12),(Option.some.inj h).symm,wk [] [0] 2 rfl⟩
  refine T.skip (T.seq (T.seq (T.region (go 3 2 (sQ (Qia Ty.s48 rfl (go 1 2 (RS.nil (T.ci h rfl (fun hb_56 h=>?_) (fun hb_56 h=>?_))))))))))
  ·refine T.seq (T.region (go 1 2 (RS.nil ?_)))
   obtain ⟨w_57,h,hw_57⟩:=Qpa h
   replace h:=h.trans (congrArg some (hv_53 _ hw_57))
   cases h
   exact tD
  refine T.skip (T.seq (T.seq ?_))
  obtain ⟨x17,hx17,h⟩:=bind_some h
  obtain ⟨x18,hx18,h⟩:=bind_some h
  refine T.region (go 3 2 (sQ (Q6a (en:=encB) Ty.s146 rfl rfl rfl hx17 (sO (Jga (en:=encB) (a:=x18) rfl rfl hx18 (Qra Ty.k4 (c:=.bool x18) rfl (RS.nil (T.ci h rfl (fun hb_58 h=>?_) (fun hb_58 h=>?_)))))))))
  ·refine T.seq (T.region (go 1 2 (RS.nil ?_)))
   obtain ⟨w_59,h,hw_59⟩:=Qpa h
   replace h:=h.trans (congrArg some (hv_53 _ hw_59))
   cases h
   exact tD
  refine T.skip ?_
  obtain ⟨x19,hx19,h⟩:=bind_some h
  obtain ⟨x20,hx20,h⟩:=bind_some h
  refine T.region (go 3 2 (sQ (Q6a (en:=encB) Ty.s146 rfl rfl rfl hx19 (sO (Yda (en:=encB) (a:=x20) (a':=true) Ty.c4 Ty.i4 rfl (vs:=[.bool true]) rfl rfl rfl hx20 rfl rfl rfl (RS.nil (T.region (go 2 2 (RS.nil ?_)))))))))
  exact ⟨(IntKind.i64.wrap (s11+1),(List.set s12 x19 true)),(Option.some.inj h).symm,wk [] [0] 2 rfl⟩
 refine T.exit ?_
 obtain ⟨w_60,h,hw_60⟩:=Qpa h
 replace h:=h.trans (congrArg some (hv_53 _ hw_60))
 refine T.seq (T.region (go 1 1 (RS.nil ?_)))
 cases h
 exact tD
theorem Vmd (p0:Net) (p1:List (List Item)) (r:State) (h:Qrc p0 p1=some r):FnO Tryz.prog 84 [.agg (Qxa p0),sL (encL Qca) p1] (.agg [.ref 0,.ref 1,.ref 2,.ref 3,.ref 4]) [aR 3 1 encI r.At,aR 52 1 (encL Qca) r.Rings,aR 90 3 Qla r.Memory,aR 94 2 Qta r.Choices,aR 115 3 Qca r.Out]:=by
 unfold Qrc at h
 refine fnT 0 Tryz.func84 Tryz.ntmps84 ?_
 refine T.seq (T.region (go 2 0 (RS.nil (T.seq ?_))))
 obtain ⟨x4,hx4,h⟩:=bind_some h
 obtain ⟨x5,hx5,h⟩:=bind_some h
 obtain ⟨x6,hx6,h⟩:=bind_some h
 refine T.drawn mixed (k:=12) rfl ?_
 apply RA.jn 1 #[true,true,true,true,true,true,true,true,true,true,true,false];intro hS1
 apply RA.jn 3 #[true,true,true,true,true,false,true,true,true,true,false,false];intro hS2
 apply RA.jn 3 #[true,true,false,true,true,true,true,true,true,true,false,false];intro hS3
 apply RA.jn 3 #[true,true,true,true,true,true,true,true,true,false,false,false];intro hS4
 apply RA.jn 4 #[true,true,true,true,false,false,true,true,true,true,false,false];intro hS5
 apply RA.jn 4 #[true,true,false,true,true,false,true,true,true,true,false,false];intro hS6
 apply RA.jn 4 #[true,true,true,true,true,false,true,true,true,false,false,false];intro hS7
 apply RA.jn 4 #[true,true,false,true,true,true,true,true,true,false,false,false];intro hS8
 apply RA.jn 5 #[true,true,true,true,false,false,true,true,true,false,false,false];intro hS9
 apply RA.jn 5 #[true,true,false,true,true,false,true,true,true,false,false,false];intro hS10
 apply RA.jn 5 #[true,true,true,true,true,true,true,false,false,false,false,false];intro hS11
 apply RA.jn 6 #[true,true,true,true,true,false,true,false,false,false,false,false];intro hS12
 ·refine rq [0] 11 (r0 1 rfl (Qia Ty.s48 rfl (rq [3,6] 8 (ra3 2 4 7 ?_ ?_ ?_))))
  ·refine oO rfl (o_mk (en:=encI) (zr:=0) Ty.s49 Ty.z3 rfl rfl hx4 rfl rfl (ra2 4 7 ?_ ?_))
   ·refine og 3 ⟨rfl,?_⟩
    exact raE hS12
   ·refine og 3 ⟨rfl,(r0 8 rfl (Qia Ty.s45 rfl ?_))⟩
    exact raE hS9
  ·refine og 2 ⟨rfl,(ra3 2 5 7 ?_ ?_ ?_)⟩
   ·refine oO rfl (o_mk (en:=encI) (zr:=0) Ty.s49 Ty.z3 rfl rfl hx4 rfl rfl ?_)
    exact raT hS12
   ·refine oO rfl (o_mkN (en:=(encL Qca)) (zr:=([]:List Item)) Ty.s48 Ty.z52 ⟨.inr ⟨rfl,rfl⟩,trivial⟩ rfl rfl hx5 rfl rfl (ra2 2 7 ?_ ?_))
    ·refine oO rfl (o_mk (en:=encI) (zr:=0) Ty.s49 Ty.z3 rfl rfl hx4 rfl rfl ?_)
     exact raE hS11
    ·refine og 3 ⟨rfl,(r0 8 rfl (Qia Ty.s45 rfl ?_))⟩
     exact raE hS8
   ·refine og 2 ⟨rfl,(r0 8 rfl (Qia Ty.s45 rfl ?_))⟩
    exact raE hS10
  ·refine og 2 ⟨rfl,(r0 8 rfl (Qia Ty.s45 rfl (ra3 2 4 9 ?_ ?_ ?_)))⟩
   ·refine oO rfl (o_mk (en:=encI) (zr:=0) Ty.s49 Ty.z3 rfl rfl hx4 rfl rfl ?_)
    exact raT hS9
   ·refine og 2 ⟨rfl,?_⟩
    exact raT hS10
   ·refine oO rfl (o_mkN (en:=Qla) (zr:=(⟨0,[],0⟩:Memory)) Ty.s50 Ty.z90 ⟨.inl rfl,.inr ⟨rfl,rfl⟩,.inl rfl,trivial⟩ rfl rfl hx6 rfl rfl (ra2 2 4 ?_ ?_))
    ·refine oO rfl (o_mk (en:=encI) (zr:=0) Ty.s49 Ty.z3 rfl rfl hx4 rfl rfl ?_)
     exact raE hS5
    ·refine og 3 ⟨rfl,?_⟩
     exact raE hS6
 ·refine ra2 5 7 ?_ ?_
  ·refine oO rfl (o_mkN (en:=(encL Qca)) (zr:=([]:List Item)) Ty.s48 Ty.z52 ⟨.inr ⟨rfl,rfl⟩,trivial⟩ rfl rfl hx5 rfl rfl ?_)
   exact raV hS11 [0,1,3,2] rfl
  ·refine og 3 ⟨rfl,(r0 8 rfl (Qia Ty.s45 rfl ?_))⟩
   exact raE hS7
 ·refine ra1 7 (og 4 ⟨rfl,(r0 8 rfl (Qia Ty.s45 rfl ?_))⟩)
  exact raE hS4
 ·refine ra3 2 5 9 ?_ ?_ ?_
  ·refine oO rfl (o_mk (en:=encI) (zr:=0) Ty.s49 Ty.z3 rfl rfl hx4 rfl rfl ?_)
   exact raT hS7
  ·refine oO rfl (o_mkN (en:=(encL Qca)) (zr:=([]:List Item)) Ty.s48 Ty.z52 ⟨.inr ⟨rfl,rfl⟩,trivial⟩ rfl rfl hx5 rfl rfl ?_)
   exact raT hS8
  ·refine oO rfl (o_mkN (en:=Qla) (zr:=(⟨0,[],0⟩:Memory)) Ty.s50 Ty.z90 ⟨.inl rfl,.inr ⟨rfl,rfl⟩,.inl rfl,trivial⟩ rfl rfl hx6 rfl rfl ?_)
   exact raT hS6
 ·refine ra2 4 9 ?_ ?_
  ·refine og 3 ⟨rfl,?_⟩
   exact raT hS7
  ·refine oO rfl (o_mkN (en:=Qla) (zr:=(⟨0,[],0⟩:Memory)) Ty.s50 Ty.z90 ⟨.inl rfl,.inr ⟨rfl,rfl⟩,.inl rfl,trivial⟩ rfl rfl hx6 rfl rfl ?_)
   exact raV hS5 [0,1,3,2] rfl
 ·refine ra2 2 9 ?_ ?_
  ·refine oO rfl (o_mk (en:=encI) (zr:=0) Ty.s49 Ty.z3 rfl rfl hx4 rfl rfl ?_)
   exact raT hS4
  ·refine oO rfl (o_mkN (en:=Qla) (zr:=(⟨0,[],0⟩:Memory)) Ty.s50 Ty.z90 ⟨.inl rfl,.inr ⟨rfl,rfl⟩,.inl rfl,trivial⟩ rfl rfl hx6 rfl rfl ?_)
   exact raE hS3
 ·refine ra2 5 9 ?_ ?_
  ·refine oO rfl (o_mkN (en:=(encL Qca)) (zr:=([]:List Item)) Ty.s48 Ty.z52 ⟨.inr ⟨rfl,rfl⟩,trivial⟩ rfl rfl hx5 rfl rfl ?_)
   exact raV hS4 [0,1,3,2] rfl
  ·refine oO rfl (o_mkN (en:=Qla) (zr:=(⟨0,[],0⟩:Memory)) Ty.s50 Ty.z90 ⟨.inl rfl,.inr ⟨rfl,rfl⟩,.inl rfl,trivial⟩ rfl rfl hx6 rfl rfl ?_)
   exact raE hS2
 ·refine ra2 2 5 ?_ ?_
  ·refine oO rfl (o_mk (en:=encI) (zr:=0) Ty.s49 Ty.z3 rfl rfl hx4 rfl rfl ?_)
   exact raV hS2 [0,1,3,2] rfl
  ·refine oO rfl (o_mkN (en:=(encL Qca)) (zr:=([]:List Item)) Ty.s48 Ty.z52 ⟨.inr ⟨rfl,rfl⟩,trivial⟩ rfl rfl hx5 rfl rfl ?_)
   exact raV hS3 [0,1,3,2] rfl
 ·refine ra1 4 (og 4 ⟨rfl,?_⟩)
  exact raV hS2 [0,1,3,2] rfl
 ·refine ra1 9 (oO rfl (o_mkN (en:=Qla) (zr:=(⟨0,[],0⟩:Memory)) Ty.s50 Ty.z90 ⟨.inl rfl,.inr ⟨rfl,rfl⟩,.inl rfl,trivial⟩ rfl rfl hx6 rfl rfl (rq [10] 1 ?_)))
  exact raE hS1
 ·refine ra1 2 (oO rfl (o_mk (en:=encI) (zr:=0) Ty.s49 Ty.z3 rfl rfl hx4 rfl rfl (rq [10] 1 ?_)))
  exact raV hS1 [0,1,2,4,3] rfl
 ·refine ra1 5 (oO rfl (o_mkN (en:=(encL Qca)) (zr:=([]:List Item)) Ty.s48 Ty.z52 ⟨.inr ⟨rfl,rfl⟩,trivial⟩ rfl rfl hx5 rfl rfl (rq [10] 1 ?_)))
  exact raV hS1 [0,1,4,2,3] rfl
 refine ra1 11 (og 5 ⟨rfl,(RA.done (by decide +kernel) (T.nilB 1 3 94 2 (cs:=[.ref 3,.ref 2,.ref 4,.nils,.nils]) rfl rfl (cs':=[.ref 3,.ref 2,.ref 4,.ref 5,.nils]) rfl rfl (T.nilB 1 4 115 3 (cs:=[.ref 3,.ref 2,.ref 4,.ref 5,.nils]) rfl rfl (cs':=[.ref 3,.ref 2,.ref 4,.ref 5,.ref 6]) rfl rfl ?_)))⟩)
 cases h
 exact tO [] [3,2,4,5,6] 7
theorem Yyd (p0:Net) (p1:List (List Item)) (r:State × Int) (h:Zmc p0 p1=some r):FnO Tryz.prog 64 [.agg (Qxa p0),sL (encL Qca) p1] (.tup [.agg [.ref 0,.ref 1,.ref 2,.ref 3,.ref 4],iI r.2]) [aR 3 1 encI r.1.At,aR 52 1 (encL Qca) r.1.Rings,aR 90 3 Qla r.1.Memory,aR 94 2 Qta r.1.Choices,aR 115 3 Qca r.1.Out]:=by
 unfold Zmc at h
 refine fnT 0 Tryz.func64 Tryz.ntmps64 ?_
 refine T.seq (T.region (go 3 0 (RS.nil (T.seq (T.seq ?_)))))
 obtain ⟨x2,hx2,h⟩:=bind_some h
 refine T.region (go 2 2 (sO (cF (Jac p0 p1 x2 hx2) ⟨rfl,(go 1 2 (RS.nil (T.seq (T.region (go 2 2 (RS.nil (T.ci h rfl (fun hb_1 h=>?_) (fun hb_1 h=>?_))))))))⟩)))
 ·refine T.seq (T.region (go 4 2 (RS.nil (T.nilB 1 0 3 1 (cs:=[.nils,.nils,.nils,.nils,.nils]) rfl rfl (cs':=[.ref 2,.nils,.nils,.nils,.nils]) rfl rfl (T.nilB 1 1 52 1 (cs:=[.ref 2,.nils,.nils,.nils,.nils]) rfl rfl (cs':=[.ref 2,.ref 3,.nils,.nils,.nils]) rfl rfl (T.nilB 1 2 90 3 (cs:=[.ref 2,.ref 3,.nils,.nils,.nils]) rfl rfl (cs':=[.ref 2,.ref 3,.ref 4,.nils,.nils]) rfl rfl (T.nilB 1 3 94 2 (cs:=[.ref 2,.ref 3,.ref 4,.nils,.nils]) rfl rfl (cs':=[.ref 2,.ref 3,.ref 4,.ref 5,.nils]) rfl rfl (T.nilB 1 4 115 3 (cs:=[.ref 2,.ref 3,.ref 4,.ref 5,.nils]) rfl rfl (cs':=[.ref 2,.ref 3,.ref 4,.ref 5,.ref 6]) rfl rfl ?_))))))))
  cases h
  exact tO [] [2,3,4,5,6] 7
 refine T.skip (T.seq ?_)
 obtain ⟨x4,hx4,h⟩:=bind_some h
 refine T.region (go 2 2 (sO (Qza (aw2:=[.box (Qxa p0),.box [.nils,.nils,.nils,.nils,.nils],aR 3 1 encI x4.At,aR 52 1 (encL Qca) x4.Rings,aR 90 3 Qla x4.Memory,aR 94 2 Qta x4.Choices,aR 115 3 Qca x4.Out]) (v':=.agg [.ref 2,.ref 3,.ref 4,.ref 5,.ref 6]) (n0:=2) (n1:=5) [] rfl rfl (FnX.of_fnO (Vmd p0 p1 x4 hx4)) (Qfa) ⟨Qnd ⟨rn_s rfl,Qja rfl,Qja rfl,trivial⟩,rn_s rfl,trivial⟩ (Q0d ⟨Zla (by decide),Zla (by decide),Zla (by decide),Zla (by decide),Zla (by decide),trivial⟩) ⟨.inr ⟨rfl,rfl⟩,.inr ⟨rfl,rfl⟩,.inl ⟨0,_,by decide,rfl,Jva J7b⟩,.inl ⟨1,_,by decide,rfl,Jva (Zyb Jia)⟩,.inl ⟨2,_,by decide,rfl,Jva Zga⟩,.inl ⟨3,_,by decide,rfl,Jva Zha⟩,.inl ⟨4,_,by decide,rfl,Jva Jia⟩,trivial⟩ (go 2 7 (RS.nil ?_)))))
 cases h
 exact tO [] [2,3,4,5,6] 7
theorem Zzc (p0:Net) (p1:List (List Item)) (p2:State) (p3:Move) (r:Item × Bool) (h:Qxc p0 p1 p2 p3=some r):Fn Tryz.prog 86 [.agg (Qxa p0),sL (encL Qca) p1,.agg (Q2a p2),.agg (Vfa p3)] (.tup [.agg (Qca r.1),.bool r.2]):=by
 unfold Qxc at h
 refine fnT 0 Tryz.func86 Tryz.ntmps86 ?_
 refine T.seq (T.region (go 5 0 (RS.nil (T.seq ?_))))
 obtain ⟨x2,hx2,h⟩:=bind_some h
 refine T.region (go 4 4 (sQ (Qka Ty.s45 (fun _=>rfl) rfl rfl hx2 (go 3 4 (RS.nil (T.seq (T.seq (T.region (go 3 5 (RS.nil ?_))))))))))
 refine T.ci h rfl (fun hb_1 h=>?_) (fun hb_1 h=>?_)
 ·refine T.seq (T.seq ?_)
  obtain ⟨x5,hx5,h⟩:=bind_some h
  obtain ⟨x6,hx6,h⟩:=bind_some h
  refine T.drawn mixed (k:=13) rfl (rq [0,2,6,7] 9 (rL [8,9,10,11,12] 8 rfl (r0 9 rfl (Qka Ty.s48 (fun _=>rfl) rfl rfl hx6 (rL [10,11,12] 10 rfl (r0 11 rfl (Qia Ty.s52 rfl (rL [1,4,5,12] 1 rfl (ra1 3 (og 5 ⟨rfl,(r0 4 rfl (Qka Ty.s49 (fun _=>rfl) rfl rfl hx5 ?_))⟩))))))))))
  refine ra1 5 (og 5 ⟨rfl,(rq [12] 0 (RA.done (by decide +kernel) (T.ci h rfl (fun hb_2 h=>?_) (fun hb_2 h=>?_))))⟩)
  ·refine T.seq (T.region (go 3 5 (RS.nil ?_)))
   cases h
   exact tD
  refine T.skip (T.seq ?_)
  obtain ⟨x10,hx10,h⟩:=bind_some h
  obtain ⟨x11,hx11,h⟩:=bind_some h
  obtain ⟨x12,hx12,h⟩:=bind_some h
  refine T.drawn mixed (k:=15) rfl (rq [0,1,5,7] 11 (rL [2,3,4,11,12,13,14] 2 rfl (r0 3 rfl (Qka Ty.s48 (fun _=>rfl) rfl rfl hx10 (rL [4,11,12,13,14] 4 rfl (rL [6,9,10,11,12,13,14] 6 rfl (ra1 8 (og 5 ⟨rfl,(r0 9 rfl (Qka Ty.s49 (fun _=>rfl) rfl rfl hx11 (ra1 10 ?_)))⟩))))))))
  refine og 5 ⟨rfl,(r0 11 rfl (Qka Ty.s52 (fun _=>rfl) rfl rfl hx12 (ra1 12 (og 5 ⟨rfl,(ra1 13 (og 5 ⟨rfl,(rq [14] 0 (RA.done (by decide +kernel) ?_))⟩))⟩))))⟩
  cases h
  exact tD
 refine T.skip (T.seq ?_)
 obtain ⟨x15,hx15,h⟩:=bind_some h
 obtain ⟨x16,hx16,h⟩:=bind_some h
 refine T.drawn mixed (k:=11) rfl (rq [0,2,4] 8 (rL [1,8,9,10] 1 rfl (rL [3,6,7,8,9,10] 3 rfl (ra1 5 (og 5 ⟨rfl,(r0 6 rfl (Qka Ty.s49 (fun _=>rfl) rfl rfl hx15 (ra1 7 (og 5 ⟨rfl,(r0 8 rfl (Qka Ty.s48 (fun _=>rfl) rfl rfl hx16 ?_))⟩))))⟩)))))
 refine ra1 9 (og 5 ⟨rfl,(rq [10] 0 (RA.done (by decide +kernel) (T.seq (T.seq (T.region (go 1 5 (sQ (Qia Ty.s52 rfl (go 1 5 ?_)))))))))⟩)
 refine RS.nil (T.ci h rfl (fun hb_3 h=>?_) (fun hb_3 h=>?_))
 ·refine T.seq (T.region (go 3 5 (RS.nil ?_)))
  cases h
  exact tD
 refine T.skip (T.seq ?_)
 obtain ⟨x18,hx18,h⟩:=bind_some h
 refine T.region (go 1 5 (sQ (Qka Ty.s52 (fun _=>rfl) rfl rfl hx18 (go 3 5 (RS.nil ?_)))))
 cases h
 exact tD
theorem Ydd (p0:Item) (p1:Int) (r:Int × Int) (h:Qic p0 p1=some r):Fn Tryz.prog 99 [.agg (Qca p0),iI p1] (.tup [iI r.1,iI r.2]):=by
 unfold Qic at h
 refine fnT 0 Tryz.func99 Tryz.ntmps99 ?_
 refine T.seq (T.region (go 3 0 (RS.nil (T.seq (T.join (Z:=Unit) (fun _=>mkA 20 [(1,iI p1),(2,.ptr 0 0),(11,.bool ((decide (p1<1)) || decide (p1 > 16)))]) (fun _=>[.box (Qca p0)]) (fun _=>True) (fun _ _=>?_) (fun hK=>?_))))))
 ·refine T.ci h rfl (fun hb_2 h=>?_) (fun hb_2 h=>?_)
  ·refine T.seq (T.region (go 2 1 (RS.nil ?_)))
   cases h
   exact tD
  refine T.skip (T.seq ?_)
  obtain ⟨x4,hx4,h⟩:=bind_some h
  obtain ⟨x5,hx5,h⟩:=bind_some h
  refine T.region (go 3 1 (sQ (v_rem rfl rfl hx4 (go 3 1 (sQ (v_rem rfl rfl hx5 (go 2 1 (RS.nil ?_))))))))
  cases h
  exact tD
 refine T.region (go 3 1 ?_)
 rcases Qga (decide (p1<1)) with hb_1 | hb_1
 ·refine sN hb_1 (sN hb_1 (sQ (Qna (v:=.bool true) rfl hb_1 rfl (RS.nil ?_))))
  exact T.sub (hK () trivial) ⟨rfl,rfl,(congrArg AV.bool (by simp only [hb_1,bz,if_true,if_false,Bool.false_eq_true])).symm,trivial⟩
 refine yg 1 hb_1 (yg 1 hb_1 (sQ (Qha (v:=.bool (decide (p1 > 16))) rfl hb_1 rfl (RS.nil ?_))))
 exact T.sub (hK () trivial) ⟨rfl,rfl,(congrArg AV.bool (by simp only [hb_1,bz,if_true,if_false,Bool.false_eq_true])).symm,trivial⟩
theorem Qtd (p0:Node) (p1:Item) (r:List Int) (h:Qkc p0 p1=some r):Fn Tryz.prog 88 [.agg (Q5a p0),.agg (Qca p1)] (sL encI r):=by
 unfold Qkc at h
 refine fnT 0 Tryz.func88 Tryz.ntmps88 ?_
 refine T.seq (T.region (go 3 0 (RS.nil (T.seq (T.seq (T.region (go 3 2 (RS.nil (T.ci h rfl (fun hb_1 h=>?_) (fun hb_1 h=>?_))))))))))
 ·refine T.seq (T.region (go 3 2 (RS.nil ?_)))
  cases h
  exact tD
 refine T.skip (T.seq ?_)
 obtain ⟨x2,hx2,h⟩:=bind_some h
 refine T.region (go 3 2 (sQ (Qia Ty.s49 rfl (sO (cF (Ydd p1 ((p0.Out).length:Int) x2 hx2) ⟨rfl,(go 5 2 (RS.nil (T.seq ?_)))⟩)))))
 obtain ⟨x4,hx4,h⟩:=bind_some h
 refine T.region (go 5 2 (sO (V0e Ty.s49 (fun _=>rfl) rfl rfl rfl hx4 (go 1 2 (RS.nil ?_)))))
 cases h
 exact tD
theorem Vnc (p0:Int) (p1:List Int) (p2:List (List Item)) (p3:List Memory) (p4:List Choice) (p5:List Item) (p6:List Node) (p7:Int) (p8:Int) (r:Bool) (h:Zgb p0 p1 p2 p3 p4 p5 p6 p7 p8=some r):FnX Tryz.prog 97 [iI p0,.ptr 0 0,.ptr 1 0] [.box [sL encI p1,sL (encL Qca) p2,sL Qla p3,sL Qta p4,sL Qca p5],.box [sL Q5a p6,iI p7,iI p8]] (.bool r) [.box [sL encI p1,sL (encL Qca) p2,sL Qla p3,sL Qta p4,sL Qca p5],.box [sL Q5a p6,iI p7,iI p8]]:=by
 unfold Zgb at h
 refine fnT 2 Tryz.func97 Tryz.ntmps97 ?_
 refine T.seq (T.region (go 1 2 (RS.nil (T.seq ?_))))
 obtain ⟨x2,hx2,h⟩:=bind_some h
 refine T.drawn mixed (k:=10) rfl (rq [0,2,6] 7 (rL [1,3,4,5,8,9] 1 rfl (r0 3 rfl (Qka Ty.s48 (fun _=>rfl) rfl rfl hx2 (rL [4,5,8,9] 4 rfl (r0 5 rfl (Qia Ty.s52 rfl (ra1 7 (og 2 ⟨rfl,(rq [8,9] 0 (RA.done (by decide +kernel) ?_))⟩)))))))))
 cases h
 exact tN [0,1]
theorem Ybb (p0:List Int) (p1:List Int) (p2:List (List Item)) (p3:List Memory) (p4:List Choice) (p5:List Item) (p6:List Node) (p7:Int) (p8:Int) (r:Int) (h:V0a p0 p1 p2 p3 p4 p5 p6 p7 p8=some r):FnX Tryz.prog 108 [sL encI p0,.func 97 [.ptr 0 0,.ptr 1 0]] [.box [sL encI p1,sL (encL Qca) p2,sL Qla p3,sL Qta p4,sL Qca p5],.box [sL Q5a p6,iI p7,iI p8]] (iI r) [.box [sL encI p1,sL (encL Qca) p2,sL Qla p3,sL Qta p4,sL Qca p5],.box [sL Q5a p6,iI p7,iI p8]]:=by
 unfold V0a at h
 refine fnT 2 Tryz.func108 Tryz.ntmps108 ?_
 refine T.seq (T.region (go 1 2 (RS.nil (T.seq (T.seq (T.region (go 1 2 (sQ (Qia Ty.s49 rfl (go 1 2 ?_))))))))))
 refine RS.nil (T.block (T.iter (fun ss_5:Int=>mkA 19 [(0,sL encI p0),(1,.func 97 [.ptr 0 0,.ptr 1 0]),(7,iI ((p0).length:Int)),(8,iI ss_5)]) (fun ss_5=>[.box [sL encI p1,sL (encL Qca) p2,sL Qla p3,sL Qta p4,sL Qca p5],.box [sL Q5a p6,iI p7,iI p8]]) h (wk [] [0,1] 2 rfl) (fun ss_5 v_6 h hv_6=>?_)))
 revert hv_6 h;revert ss_5;intro s1 h hv_6
 replace h:Zsa p0 p1 p2 p3 p4 p5 p6 p7 p8 s1=some v_6:=h
 try dsimp only
 unfold Zsa at h
 refine T.seq (T.region (go 1 2 (RS.nil (T.seq (T.ci h rfl (fun hb_7 h=>?_) (fun hb_7 h=>?_))))))
 ·refine T.skip (T.seq (T.block (T.seq (T.region (go 2 2 (RS.nil (T.seq ?_)))))))
  obtain ⟨x4,hx4,h⟩:=bind_some h
  obtain ⟨x5,hx5,h⟩:=bind_some h
  refine T.region (go 3 2 (sQ (Qka Ty.s49 (fun _=>rfl) rfl rfl hx4 (go 1 2 (sO (Qza (aw2:=[.box [sL encI p1,sL (encL Qca) p2,sL Qla p3,sL Qta p4,sL Qca p5],.box [sL Q5a p6,iI p7,iI p8]]) (v':=.bool x5) (n0:=2) (n1:=2) [0,1] rfl rfl (Vnc x4 p1 p2 p3 p4 p5 p6 p7 p8 x5 hx5) (Qoa rfl ⟨rn_s rfl,rn_s rfl,rn_s rfl,rn_s rfl,rn_s rfl,trivial⟩ (Qoa rfl ⟨rn_s rfl,Qja rfl,Qja rfl,trivial⟩ Qfa)) ⟨Qja rfl,Qda rfl,Qda rfl,trivial⟩ (Qea (V4a _)) ⟨.inl ⟨0,_,by decide,rfl,Qya ⟨Qea (Q3a J7b _),Qea (Q3a (Zyb Jia) _),Qea (Q3a Zga _),Qea (Q3a Zha _),Qea (Q3a Jia _),trivial⟩⟩,.inl ⟨1,_,by decide,rfl,Qya ⟨Qea (Q3a Yrb _),Qea (Qba _ _),Qea (Qba _ _),trivial⟩⟩,trivial⟩ (RS.nil (T.ci h rfl (fun hb_8 h=>?_) (fun hb_8 h=>?_)))))))))
  ·refine T.seq (T.region (go 2 2 (RS.nil ?_)))
   obtain ⟨w_9,h,hw_9⟩:=Qpa h
   replace h:=h.trans (congrArg some (hv_6 _ hw_9))
   cases h
   exact tN [0,1]
  refine T.skip (T.region (go 2 2 (RS.nil ?_)))
  exact ⟨IntKind.i64.wrap (s1+1),(Option.some.inj h).symm,wk [] [0,1] 2 rfl⟩
 refine T.exit ?_
 obtain ⟨w_10,h,hw_10⟩:=Qpa h
 replace h:=h.trans (congrArg some (hv_6 _ hw_10))
 refine T.seq (T.region (go 1 2 (RS.nil ?_)))
 cases h
 exact tN [0,1]
theorem Vhb (p0:List Int) (p1:List Int) (p2:List (List Item)) (p3:List Memory) (p4:List Choice) (p5:List Item) (p6:List Node) (p7:Int) (p8:Int) (r:Bool) (h:Zta p0 p1 p2 p3 p4 p5 p6 p7 p8=some r):FnX Tryz.prog 96 [sL encI p0,.func 97 [.ptr 0 0,.ptr 1 0]] [.box [sL encI p1,sL (encL Qca) p2,sL Qla p3,sL Qta p4,sL Qca p5],.box [sL Q5a p6,iI p7,iI p8]] (.bool r) [.box [sL encI p1,sL (encL Qca) p2,sL Qla p3,sL Qta p4,sL Qca p5],.box [sL Q5a p6,iI p7,iI p8]]:=by
 unfold Zta at h
 refine fnT 2 Tryz.func96 Tryz.ntmps96 ?_
 refine T.seq (T.region (go 1 2 (RS.nil (T.seq ?_))))
 obtain ⟨x2,hx2,h⟩:=bind_some h
 refine T.region (go 2 2 (sO (Qza (aw2:=[.box [sL encI p1,sL (encL Qca) p2,sL Qla p3,sL Qta p4,sL Qca p5],.box [sL Q5a p6,iI p7,iI p8]]) (v':=iI x2) (n0:=2) (n1:=2) [0,1] rfl rfl (Ybb p0 p1 p2 p3 p4 p5 p6 p7 p8 x2 hx2) (Qoa rfl ⟨rn_s rfl,rn_s rfl,rn_s rfl,rn_s rfl,rn_s rfl,trivial⟩ (Qoa rfl ⟨rn_s rfl,Qja rfl,Qja rfl,trivial⟩ Qfa)) ⟨rn_s rfl,Vka ⟨Qda rfl,Qda rfl,trivial⟩,trivial⟩ (Qea (Qba _ _)) ⟨.inl ⟨0,_,by decide,rfl,Qya ⟨Qea (Q3a J7b _),Qea (Q3a (Zyb Jia) _),Qea (Q3a Zga _),Qea (Q3a Zha _),Qea (Q3a Jia _),trivial⟩⟩,.inl ⟨1,_,by decide,rfl,Qya ⟨Qea (Q3a Yrb _),Qea (Qba _ _),Qea (Qba _ _),trivial⟩⟩,trivial⟩ (go 2 2 (RS.nil ?_)))))
 cases h
 exact tN [0,1]
theorem Vbc (p0:Memory) (r:Int) (h:Qjb p0=some r):Fn Tryz.prog 72 [.agg (Qla p0)] (iI r):=by
 unfold Qjb at h
 refine fnT 0 Tryz.func72 Tryz.ntmps72 ?_
 refine T.seq (T.region (go 2 0 (RS.nil (T.seq (T.seq (T.region (go 2 1 (sQ (Qia Ty.s88 rfl (go 1 1 ?_))))))))))
 refine RS.nil (T.ci h rfl (fun hb_1 h=>?_) (fun hb_1 h=>?_))
 ·refine T.seq (T.region (go 1 1 (RS.nil ?_)))
  cases h
  exact tD
 refine T.skip (T.seq (T.seq (T.region (go 2 1 (sQ (Qia Ty.s88 rfl (go 1 1 (RS.nil (T.block (T.iter (fun ss_16:Int=>mkA 40 [(1,.ptr 0 0),(10,sL Qwa p0.Keys),(11,iI ((p0.Keys).length:Int)),(12,iI ss_16)]) (fun ss_16=>[.box (Qla p0)]) h (wk [] [0] 1 rfl) (fun ss_16 v_17 h hv_17=>?_)))))))))))
 revert hv_17 h;revert ss_16;intro s1 h hv_17
 replace h:Z7a p0 s1=some v_17:=h
 try dsimp only
 unfold Z7a at h
 refine T.seq (T.region (go 1 1 (RS.nil (T.seq (T.ci h rfl (fun hb_18 h=>?_) (fun hb_18 h=>?_))))))
 ·refine T.skip (T.seq (T.block (T.seq ?_)))
  obtain ⟨x3,hx3,h⟩:=bind_some h
  refine T.region (go 1 1 (sQ (Qka Ty.s88 (fun _=>rfl) rfl rfl hx3 (go 4 1 (RS.nil ?_)))))
  obtain ⟨zt_21,hz,h⟩:=bind_some h
  revert hz h;revert zt_21;intro c5 hz h
  refine T.join (Z:=Unit) (fun _=>mkA 40 [(1,.ptr 0 0),(10,sL Qwa p0.Keys),(11,iI ((p0.Keys).length:Int)),(12,iI s1),(35,.bool c5)]) (fun _=>[.box (Qla p0)]) (fun _=>True) (fun _ _=>?_) (fun hK=>?_)
  ·refine T.ci h rfl (fun hb_22 h=>?_) (fun hb_22 h=>?_)
   ·refine T.seq (T.region (go 1 1 (RS.nil ?_)))
    obtain ⟨w_23,h,hw_23⟩:=Qpa h
    replace h:=h.trans (congrArg some (hv_17 _ hw_23))
    cases h
    exact tD
   refine T.skip (T.region (go 2 1 (RS.nil ?_)))
   exact ⟨IntKind.i64.wrap (s1+1),(Option.some.inj h).symm,wk [] [0] 1 rfl⟩
  rcases Qga (decide (x3.N<1)) with hb_19 | hb_19
  ·replace hz:=ite_T hz hb_19
   refine T.drawn mixed (k:=19) rfl (rq [0] 18 (ra1 1 (og 2 ⟨rfl,(rq [2,3] 15 (r2 4 rfl hb_19 (r2 5 rfl hb_19 (r2 6 rfl hb_19 (r3 7 rfl (r3 8 rfl ?_))))))⟩)))
   refine r3 9 rfl (r3 10 rfl (r3 11 rfl (r3 12 rfl (r3 13 rfl (r3 14 rfl (r3 15 rfl (r3 16 rfl (r2 17 rfl hb_19 (r0 18 rfl (Qna (v:=.bool true) rfl hb_19 rfl ?_))))))))))
   refine RA.done (by decide +kernel) ?_
   exact T.weakR (hK () trivial) (Weak.mkN [] [0] (by decide) (Qma _) rfl ⟨Qda rfl,rn_s rfl,Qja rfl,Qja rfl,Jca ((congrArg (fun p=>p) (Option.some.inj hz)).symm),trivial⟩ (rw_bs (Qla p0) rfl (Qfa)))
  replace hz:=ite_F hz hb_19
  rcases Qga (decide (s1 > 0)) with hb_20 | hb_20
  ·replace hz:=ite_T hz hb_20
   obtain ⟨x4,hx4,hz⟩:=bind_some hz
   refine T.drawn mixed (k:=19) rfl ?_
   apply RA.jn 0 #[true,true,true,true,true,true,true,true,true,true,true,true,true,true,true,true,true,true,true];intro hS24
   apply RA.jn 4 #[true,true,true,true,true,true,true,true,true,true,true,true,true,false,true,true,false,false,false];intro hS25
   ·refine rq [0] 18 (ra1 1 (og 2 ⟨rfl,(rq [2,3] 15 (ry 4 hb_19 rfl (ry 5 hb_19 rfl (ry 6 hb_19 rfl (ry 7 hb_20 rfl (ry 9 hb_20 rfl (ry 10 hb_20 rfl ?_)))))))⟩))
    refine ry 14 hb_20 rfl (ra2 8 15 ?_ ?_)
    ·refine oy 2 hb_20 rfl (r1 11 rfl hb_20 (Qka Ty.s88 (fun _=>rfl) rfl rfl hx4 (ry 12 hb_20 rfl (ra2 13 15 ?_ ?_))))
     ·refine oy 2 hb_20 rfl (ra1 15 (oy 2 hb_20 rfl (ry 16 hb_20 rfl (r1 17 rfl hb_19 (Qna (v:=.bool (decide (x4.Key ≥ x3.Key))) rfl hb_20 rfl (r0 18 rfl (Qha (v:=.bool (decide (x4.Key ≥ x3.Key))) rfl hb_19 rfl ?_)))))))
      exact raE hS24
     ·refine oy 2 hb_20 rfl ?_
      exact raE hS25
    ·refine oy 2 hb_20 rfl (ra1 8 (oy 2 hb_20 rfl (r1 11 rfl hb_20 (Qka Ty.s88 (fun _=>rfl) rfl rfl hx4 (ry 12 hb_20 rfl ?_)))))
     exact raT hS25
   ·refine ra1 13 (oy 2 hb_20 rfl (ry 16 hb_20 rfl (r1 17 rfl hb_19 (Qna (v:=.bool (decide (x4.Key ≥ x3.Key))) rfl hb_20 rfl (r0 18 rfl (Qha (v:=.bool (decide (x4.Key ≥ x3.Key))) rfl hb_19 rfl ?_))))))
    exact raT hS24
   refine RA.done (by decide +kernel) ?_
   exact T.weakR (hK () trivial) (Weak.mkN [] [0] (by decide) (Qma _) rfl ⟨Qda rfl,rn_s rfl,Qja rfl,Qja rfl,Jca ((congrArg (fun p=>p) (Option.some.inj hz)).symm),trivial⟩ (rw_bs (Qla p0) rfl (Qfa)))
  replace hz:=ite_F hz hb_20
  refine T.drawn mixed (k:=19) rfl (rq [0] 18 (ra1 1 (og 2 ⟨rfl,(rq [2,3] 15 (ry 4 hb_19 rfl (ry 5 hb_19 rfl (ry 6 hb_19 rfl (r2 7 rfl hb_20 (r2 8 rfl hb_20 ?_))))))⟩)))
  refine r2 9 rfl hb_20 (r2 10 rfl hb_20 (r2 11 rfl hb_20 (r2 12 rfl hb_20 (r2 13 rfl hb_20 (r2 14 rfl hb_20 (r2 15 rfl hb_20 (r2 16 rfl hb_20 (r1 17 rfl hb_19 (Qha (v:=.bool false) rfl hb_20 rfl (r0 18 rfl (Qha (v:=.bool false) rfl hb_19 rfl ?_)))))))))))
  refine RA.done (by decide +kernel) ?_
  exact T.weakR (hK () trivial) (Weak.mkN [] [0] (by decide) (Qma _) rfl ⟨Qda rfl,rn_s rfl,Qja rfl,Qja rfl,Jca ((congrArg (fun p=>p) (Option.some.inj hz)).symm),trivial⟩ (rw_bs (Qla p0) rfl (Qfa)))
 refine T.exit ?_
 obtain ⟨w_26,h,hw_26⟩:=Qpa h
 replace h:=h.trans (congrArg some (hv_17 _ hw_26))
 refine T.seq (T.seq (T.region (go 3 1 (RS.nil (T.ci h rfl (fun hb_27 h=>?_) (fun hb_27 h=>?_))))))
 ·refine T.seq (T.region (go 1 1 (RS.nil ?_)))
  cases h
  exact tD
 refine T.skip (T.seq (T.region (go 1 1 (RS.nil ?_))))
 cases h
 exact tD
theorem Zrc (p0 r:List Keyed) (h:Jeb p0=some r):FnO Tryz.prog 109 [.sl (List.map Qwa p0)] (.ref 0) [.arr 92 2 (List.map Qwa r)]:=by
 have hr:p0=r:=by
  unfold Jeb app at h
  split at h
  ·simpa using h
  ·cases h
 refine V3c (N:=0) rfl Tryz.func109 rfl (by kernel_rfl) Tryz.ntmps109 rfl ?_
 show T _ _ _ _ (mkA 8 [(0,.sl (List.map Qwa p0))]) []
 refine T.seq ?_
 refine T.region ?_
 refine RS.op rfl (OP.q rfl (Jzb (v:=.nils) rfl ?_))
 refine RS.nil ?_
 refine T.seq ?_
 refine T.seq ?_
 refine T.region ?_
 refine RS.op rfl (OP.q rfl (Vqc (v:=.sl (List.map Qwa p0)) rfl ?_))
 refine RS.op rfl (OP.q rfl (Zrd Ty.s88 rfl rfl (fun z hz=>?_)))
 refine RS.nil ?_
 refine T.cond (b:=z) rfl (fun hb=>?_) (fun hb=>?_)
 ·refine T.seq ?_
  refine T.region ?_
  refine RS.op rfl (OP.q rfl (Jzb (v:=.nils) rfl ?_))
  refine RS.nil ?_
  refine T.ret ?_
  refine Vob (v:=.nils) rfl ?_
  refine J1b ?_
  have h0:p0=[]:=List.map_eq_nil_iff.1 (hz hb)
  exact Q1c (.ref 0) [(0,92,2)] [0] (by decide) (Qma _) rfl (Jha rfl) (Zia (en:=Qwa) (ys:=[]) rfl Qqb (by rw [← hr,h0]) (Qfa)) ⟨rfl,rfl⟩
 ·refine T.skip ?_
  refine T.seq ?_
  refine T.region ?_
  refine RS.op rfl (Q9a (rows:=List.map Qwa []) (vs:=[]) Ty.s88 Ty.z92 rfl rfl rfl rfl rfl (aw':=[.arr 92 2 (List.map Qwa [])]) rfl ?_)
  refine RS.op rfl (OP.q rfl (Vqc (v:=.sl (List.map Qwa p0)) rfl ?_))
  refine RS.op rfl (Voa (en:=Qwa) (xs:=([]:List Keyed)) (ys:=p0) (r:=r) Ty.s88 (fun _=>rfl) rfl rfl rfl h rfl (aw':=[.dead,.arr 92 2 (List.map Qwa r)]) rfl ?_)
  refine RS.op rfl (OP.q rfl (Jzb (v:=.ref 1) rfl ?_))
  refine RS.nil ?_
  refine T.ret ?_
  refine Vob (v:=.ref 1) rfl ?_
  refine J1b ?_
  exact Q1c (.ref 0) [] [1] (by decide) (Qma _) rfl (Jha rfl) (Zia rfl Qqb rfl (Qfa)) ⟨rfl,rfl⟩
theorem Vkd (p0:Memory) (r:Memory) (h:Qec p0=some r):FnO Tryz.prog 100 [.agg (Qla p0)] (.agg [iI r.Sum,.ref 0,iI r.Dep]) [aR 92 2 Qwa r.Keys]:=by
 unfold Qec at h
 refine fnT 0 Tryz.func100 Tryz.ntmps100 ?_
 refine T.seq (T.region (go 2 0 (RS.nil (T.seq ?_))))
 obtain ⟨x2,hx2,h⟩:=bind_some h
 refine T.region (go 2 2 (sO (cO 2 (Zrc p0.Keys x2 hx2) ⟨rfl,(go 2 3 (RS.nil (T.seq (T.region (go 2 3 (RS.nil ?_))))))⟩)))
 cases h
 exact tO [] [2] 3
theorem Ykc (p0:Item) (r:Int) (h:Qcc p0=some r):Fn Tryz.prog 110 [.agg (Qca p0)] (iI r):=by
 unfold Qcc at h
 refine fnT 0 Tryz.func110 Tryz.ntmps110 ?_
 refine T.seq (T.region (go 2 0 (RS.nil (T.seq (T.region (go 4 1 (RS.nil ?_)))))))
 cases h
 exact tD
theorem Yhc (p0:Item) (r:Int) (h:Y7b p0=some r):Fn Tryz.prog 111 [.agg (Qca p0)] (iI r):=by
 unfold Y7b at h
 refine fnT 0 Tryz.func111 Tryz.ntmps111 ?_
 refine T.seq (T.region (go 2 0 (RS.nil (T.seq (T.region (go 4 1 (RS.nil ?_)))))))
 cases h
 exact tD
theorem Yjc (p0:Item) (r:Int) (h:Qac p0=some r):Fn Tryz.prog 112 [.agg (Qca p0)] (iI r):=by
 unfold Qac at h
 refine fnT 0 Tryz.func112 Tryz.ntmps112 ?_
 refine T.seq (T.region (go 2 0 (RS.nil (T.seq (T.region (go 4 1 (RS.nil ?_)))))))
 cases h
 exact tD
theorem Ync (p0:Item) (r:Int) (h:Qbc p0=some r):Fn Tryz.prog 113 [.agg (Qca p0)] (iI r):=by
 unfold Qbc at h
 refine fnT 0 Tryz.func113 Tryz.ntmps113 ?_
 refine T.seq (T.region (go 2 0 (RS.nil (T.seq (T.region (go 6 1 (RS.nil ?_)))))))
 cases h
 exact tD
theorem Zvc (p0:Int) (p1:Item) (r:Item) (h:Jyc p0 p1=some r):Fn Tryz.prog 101 [iI p0,.agg (Qca p1)] (.agg (Qca r)):=by
 unfold Jyc at h
 refine fnT 0 Tryz.func101 Tryz.ntmps101 ?_
 refine T.seq (T.region (go 2 0 (RS.nil (T.seq (T.region (sQ (Qnf (cs:=[.func 110 [],.func 111 [],.func 112 [],.func 113 []]) Ty.z190 Ty.p190 rfl (go 2 2 (RS.nil ?_)))))))))
 obtain ⟨zt_4,hz,h⟩:=bind_some h
 revert hz h;revert zt_4;intro c6 hz h
 refine T.join (Z:=Unit) (fun _=>mkA 14 [(3,.ptr 0 0),(4,.ptr 1 0)]) (fun _=>[.box [iI p1.Key,iI c6,iI p1.Dep],.box [iI 0,iI 0,iI 0]]) (fun _=>True) (fun _ _=>?_) (fun hK=>?_)
 ·refine T.seq (T.region (go 2 2 (RS.nil ?_)))
  cases h
  exact tD
 rcases Qga (p0==0) with hb_1 | hb_1
 ·replace hz:=ite_T hz hb_1
  obtain ⟨x1,hx1,hz⟩:=bind_some hz
  refine T.drawn mixed (k:=7) rfl (rq [0] 6 (r0 1 rfl (Q3c (q:=0) Tryz.underlying190 Ty.c189 Ty.i189 rfl rfl (by simpa using hb_1) rfl rfl (off':=0) rfl (rL [2,4,5,6] 2 rfl (ra1 3 (og 3 ⟨rfl,(ra1 4 (oO rfl (cF (Ykc p1 x1 hx1) ⟨rfl,(rq [5] 1 (ra1 6 ?_))⟩)))⟩))))))
  refine og 3 ⟨rfl,(RA.done (by decide +kernel) ?_)⟩
  exact T.weakR (hK () trivial) (Weak.mkN [] [0,1] (by decide) (Qma _) rfl ⟨Qda rfl,Qda rfl,trivial⟩ (Qoa (cs:=[iI p1.Key,iI c6,iI p1.Dep]) (ds:=[iI p1.Key,iI x1,iI p1.Dep]) rfl ⟨Qja rfl,Qja ((congrArg (fun p=>p) (Option.some.inj hz)).symm),Qja rfl,trivial⟩ (rw_bs [iI 0,iI 0,iI 0] rfl (Qfa))))
 replace hz:=ite_F hz hb_1
 rcases Qga (p0==1) with hb_2 | hb_2
 ·replace hz:=ite_T hz hb_2
  obtain ⟨x2,hx2,hz⟩:=bind_some hz
  refine T.drawn mixed (k:=7) rfl (rq [0] 6 (r0 1 rfl (Q3c (q:=1) Tryz.underlying190 Ty.c189 Ty.i189 rfl rfl (by simpa using hb_2) rfl rfl (off':=1) rfl (rL [2,4,5,6] 2 rfl (ra1 3 (og 3 ⟨rfl,(ra1 4 (oO rfl (cF (Yhc p1 x2 hx2) ⟨rfl,(rq [5] 1 (ra1 6 ?_))⟩)))⟩))))))
  refine og 3 ⟨rfl,(RA.done (by decide +kernel) ?_)⟩
  exact T.weakR (hK () trivial) (Weak.mkN [] [0,1] (by decide) (Qma _) rfl ⟨Qda rfl,Qda rfl,trivial⟩ (Qoa (cs:=[iI p1.Key,iI c6,iI p1.Dep]) (ds:=[iI p1.Key,iI x2,iI p1.Dep]) rfl ⟨Qja rfl,Qja ((congrArg (fun p=>p) (Option.some.inj hz)).symm),Qja rfl,trivial⟩ (rw_bs [iI 0,iI 0,iI 0] rfl (Qfa))))
 replace hz:=ite_F hz hb_2
 rcases Qga (p0==2) with hb_3 | hb_3
 ·replace hz:=ite_T hz hb_3
  obtain ⟨x3,hx3,hz⟩:=bind_some hz
  refine T.drawn mixed (k:=7) rfl (rq [0] 6 (r0 1 rfl (Q3c (q:=2) Tryz.underlying190 Ty.c189 Ty.i189 rfl rfl (by simpa using hb_3) rfl rfl (off':=2) rfl (rL [2,4,5,6] 2 rfl (ra1 3 (og 3 ⟨rfl,(ra1 4 (oO rfl (cF (Yjc p1 x3 hx3) ⟨rfl,(rq [5] 1 (ra1 6 ?_))⟩)))⟩))))))
  refine og 3 ⟨rfl,(RA.done (by decide +kernel) ?_)⟩
  exact T.weakR (hK () trivial) (Weak.mkN [] [0,1] (by decide) (Qma _) rfl ⟨Qda rfl,Qda rfl,trivial⟩ (Qoa (cs:=[iI p1.Key,iI c6,iI p1.Dep]) (ds:=[iI p1.Key,iI x3,iI p1.Dep]) rfl ⟨Qja rfl,Qja ((congrArg (fun p=>p) (Option.some.inj hz)).symm),Qja rfl,trivial⟩ (rw_bs [iI 0,iI 0,iI 0] rfl (Qfa))))
 replace hz:=ite_F hz hb_3
 obtain ⟨x4,hx4,hz⟩:=bind_some hz
 obtain ⟨x5,hx5,hz⟩:=bind_some hz
 refine T.drawn mixed (k:=7) rfl (rq [0] 6 (r0 1 rfl (Q3c (q:=3) Tryz.underlying190 Ty.c189 Ty.i189 rfl rfl (Qef hx4) rfl rfl (off':=3) rfl (rL [2,4,5,6] 2 rfl (ra1 3 (og 3 ⟨rfl,(ra1 4 (oO rfl (cF (Ync p1 x5 hx5) ⟨rfl,(rq [5] 1 (ra1 6 ?_))⟩)))⟩))))))
 refine og 3 ⟨rfl,(RA.done (by decide +kernel) ?_)⟩
 exact T.weakR (hK () trivial) (Weak.mkN [] [0,1] (by decide) (Qma _) rfl ⟨Qda rfl,Qda rfl,trivial⟩ (Qoa (cs:=[iI p1.Key,iI c6,iI p1.Dep]) (ds:=[iI p1.Key,iI x5,iI p1.Dep]) rfl ⟨Qja rfl,Qja ((congrArg (fun p=>p) (Option.some.inj hz)).symm),Qja rfl,trivial⟩ (rw_bs [iI 0,iI 0,iI 0] rfl (Qfa))))
theorem Zyc (p0:Keyed) (p1:Int) (r:Int) (h:Z0b p0 p1=some r):Fn Tryz.prog 103 [.agg (Qwa p0),iI p1] (iI r):=by
 unfold Z0b at h
 refine fnT 0 Tryz.func103 Tryz.ntmps103 ?_
 refine T.seq (T.region (go 2 0 (RS.nil (T.seq (T.block (T.seq (T.region (go 5 1 (RS.nil ?_)))))))))
 refine T.ci h rfl (fun hb_1 h=>?_) (fun hb_1 h=>?_)
 ·refine T.seq (T.region (go 1 1 (RS.nil ?_)))
  cases h
  exact tD
 refine T.seq (T.region (go 5 1 (RS.nil (T.ci h rfl (fun hb_2 h=>?_) (fun hb_2 h=>?_)))))
 ·refine T.seq (T.region (go 1 1 (RS.nil ?_)))
  cases h
  exact tD
 refine T.skip (T.seq (T.region (go 1 1 (RS.nil ?_))))
 cases h
 exact tD
theorem Zab (p0:List Keyed) (p1:Int) (r:Int × Bool) (h:J3a p0 p1=some r):Fn Tryz.prog 102 [sL Qwa p0,iI p1,.func 103 []] (.tup [iI r.1,.bool r.2]):=by
 unfold J3a at h
 refine fnT 0 Tryz.func102 Tryz.ntmps102 ?_
 refine T.seq (T.region (go 2 0 (RS.nil (T.seq (T.region (go 1 0 (sQ (Qia Ty.s88 rfl (go 1 0 (RS.nil ?_))))))))))
 refine T.seq (T.region (go 3 0 (RS.nil (T.seq (T.block (T.iter (fun ss_5:Int × Int=>mkA 49 [(0,sL Qwa p0),(1,iI p1),(2,.func 103 []),(8,iI ((p0).length:Int)),(9,iI ss_5.1),(10,iI ss_5.2)]) (fun ss_5=>[]) h (wk [] [] 0 rfl) (fun ss_5 v_6 h hv_6=>?_)))))))
 obtain ⟨s1,s2⟩:=ss_5
 replace h:Jwa p0 p1 s1 s2=some v_6:=h
 try dsimp only
 unfold Jwa at h
 refine T.seq (T.seq (T.region (go 3 0 (RS.nil (T.ci h rfl (fun hb_7 h=>?_) (fun hb_7 h=>?_))))))
 ·refine T.skip (T.block (T.seq ?_))
  obtain ⟨x4,hx4,h⟩:=bind_some h
  refine T.region (go 4 0 (sQ (v_shr rfl rfl hx4 (go 2 0 (RS.nil (T.seq ?_))))))
  obtain ⟨x7,hx7,h⟩:=bind_some h
  obtain ⟨x8,hx8,h⟩:=bind_some h
  refine T.region (go 3 0 (sQ (Qka Ty.s88 (fun _=>rfl) rfl rfl hx7 (go 2 0 (sO (cF (Zyc x7 p1 x8 hx8) ⟨rfl,(go 1 0 (RS.nil (T.ci h rfl (fun hb_8 h=>?_) (fun hb_8 h=>?_))))⟩))))))
  ·refine T.region (go 3 0 (RS.nil ?_))
   exact ⟨(IntKind.i64.wrap ((IntKind.i64.wrap x4)+1),s2),(Option.some.inj h).symm,wk [] [] 0 rfl⟩
  refine T.region (go 2 0 (RS.nil ?_))
  exact ⟨(s1,IntKind.i64.wrap x4),(Option.some.inj h).symm,wk [] [] 0 rfl⟩
 refine T.exit ?_
 obtain ⟨w_9,h,hw_9⟩:=Qpa h
 replace h:=h.trans (congrArg some (hv_6 _ hw_9))
 obtain ⟨zt_11,hz,h⟩:=bind_some h
 revert hz h;revert zt_11;intro c11 hz h
 refine T.join (Z:=Unit) (fun _=>mkA 49 [(6,iI s1),(7,.bool c11)]) (fun _=>[]) (fun _=>True) (fun _ _=>?_) (fun hK=>?_)
 ·cases h
  exact tD
 refine T.region (go 5 0 ?_)
 rcases Qga (decide (s1<((p0).length:Int))) with hb_10 | hb_10
 ·replace hz:=ite_T hz hb_10
  obtain ⟨x9,hx9,hz⟩:=bind_some hz
  obtain ⟨x10,hx10,hz⟩:=bind_some hz
  refine yg 0 hb_10 (yg 0 hb_10 (yg 0 hb_10 (yQ hb_10 (Qka Ty.s88 (fun _=>rfl) rfl rfl hx9 (yg 0 hb_10 (yg 0 hb_10 (yO hb_10 (cF (Zyc x9 p1 x10 hx10) ⟨rfl,(yg 0 hb_10 (sQ (Qna (v:=.bool (x10==0)) rfl hb_10 rfl (go 2 0 ?_))))⟩))))))))
  refine RS.nil ?_
  exact T.sub (hK () trivial) ⟨rfl,(congrArg AV.bool ((congrArg (fun p=>p) (Option.some.inj hz)).symm)).symm,trivial⟩
 replace hz:=ite_F hz hb_10
 refine sN hb_10 (sN hb_10 (sN hb_10 (sN hb_10 (sN hb_10 (sN hb_10 (sN hb_10 (sN hb_10 (sQ (Qha (v:=.bool false) rfl hb_10 rfl (go 2 0 ?_))))))))))
 refine RS.nil ?_
 exact T.sub (hK () trivial) ⟨rfl,(congrArg AV.bool ((congrArg (fun p=>p) (Option.some.inj hz)).symm)).symm,trivial⟩
theorem Ylb (p0:Int) (p1:List Keyed) (p2:List Keyed) (r:List Keyed) (h:Vga p0 p1 p2=some r):FnX Tryz.prog 104 [.ref 0,iI p0,.ref 1] [aR 92 2 Qwa p1,aR 92 2 Qwa p2] (.ref 2) [.dead,.dead,aR 92 2 Qwa r]:=by
 unfold Vga at h
 refine fnT 2 Tryz.func104 Tryz.ntmps104 ?_
 refine T.mvS 0 0 rfl rfl rfl rfl (T.exposeM 0 2 (xs:=p1) rfl rfl (fun C hC=>?_))
 have h:=Jrf h C hC
 unfold Y5a at h
 refine T.seq (T.region (go 1 3 (RS.nil (T.seq ?_))))
 obtain ⟨x2,hx2,h⟩:=bind_some h
 refine T.region (go 2 3 (sO (Zlc Ty.s88 rfl rfl rfl hx2 (RS.nil (T.seq (T.region (go 1 3 (sQ (Q0b (en:=Qwa) Ty.s88 rfl rfl (go 1 3 (RS.nil ?_)))))))))))
 refine T.seq (T.seq (T.region (go 2 3 (RS.nil (T.ci h rfl (fun hb_1 h=>?_) (fun hb_1 h=>?_))))))
 ·cases h
 refine T.skip (T.seq (T.region (go 1 3 (sO (Vof Ty.s88 rfl (go 1 3 (RS.nil (T.seq (T.seq (T.region ?_))))))))))
 refine go 3 3 (RS.nil (T.ci h rfl (fun hb_2 h=>?_) (fun hb_2 h=>?_)))
 ·refine T.seq ?_
  obtain ⟨x4,hx4,h⟩:=bind_some h
  refine T.region (go 2 3 (sO (Zhf (en:=Qwa) (xs:=p1) (ys:=p2) Ty.s88 (fun _=>rfl) rfl rfl rfl rfl rfl rfl hx4 rfl rfl (go 1 4 (RS.nil ?_)))))
  cases h
  exact tO [] [0,1,3] 4
 refine T.skip (T.seq (T.seq (T.region (go 4 3 (sO (Zef Ty.s88 rfl (go 1 3 (RS.nil (T.ci h rfl (fun hb_3 h=>?_) (fun hb_3 h=>?_))))))))))
 ·refine T.seq ?_
  obtain ⟨x7,hx7,h⟩:=bind_some h
  obtain ⟨x8,hx8,h⟩:=bind_some h
  refine T.region (go 2 3 (sO (Vde Ty.s88 rfl rfl hx7 (go 5 3 (sO (J9f (en:=Qwa) (z0:=(⟨0,0⟩:Keyed)) (xs:=p1) Ty.s88 Tryz.underlying3 Ty.z92 (fun _=>rfl) rfl rfl rfl hx8 rfl rfl (go 1 4 (RS.nil (T.seq ?_)))))))))
  obtain ⟨x11,hx11,h⟩:=bind_some h
  obtain ⟨x12,hx12,h⟩:=bind_some h
  refine T.region (go 2 4 (sO (Ztb (en:=Qwa) (xs:=x8) Ty.s88 rfl rfl rfl rfl hx11 (go 1 4 (sO (Vtd (en:=Qwa) (xs:=x8) (ys:=p2) Ty.s88 (fun _=>rfl) rfl rfl rfl rfl hx12 rfl (RS.nil (T.seq ?_))))))))
  obtain ⟨x17,hx17,h⟩:=bind_some h
  obtain ⟨x18,hx18,h⟩:=bind_some h
  obtain ⟨x19,hx19,h⟩:=bind_some h
  obtain ⟨x20,hx20,h⟩:=bind_some h
  refine T.drawn mixed (k:=9) rfl ?_
  apply RA.jn 1 #[true,true,true,true,true,true,true,true,false];intro hS4
  ·refine rq [0,1,2,3,5,6] 3 (ra2 4 7 ?_ ?_)
   ·refine oO rfl (Ztb (en:=Qwa) (xs:=(cpy x8 ((p0).toNat) ((((x8).length:Int)).toNat - (p0).toNat) p2)) Ty.s88 rfl rfl rfl rfl hx17 (ra1 7 (oO rfl (Zlc Ty.s88 rfl rfl rfl hx18 ?_))))
    exact raE hS4
   ·refine oO rfl (Zlc Ty.s88 rfl rfl rfl hx18 (ra1 4 (oO rfl (Ztb (en:=Qwa) (xs:=(cpy x8 ((p0).toNat) ((((x8).length:Int)).toNat - (p0).toNat) p2)) Ty.s88 rfl rfl rfl rfl hx17 ?_))))
    exact raT hS4
  refine ra1 8 (oO rfl (Yve (en:=Qwa) (xs:=(cpy x8 ((p0).toNat) ((((x8).length:Int)).toNat - (p0).toNat) p2)) (ys:=p1) Ty.s88 (fun _=>rfl) rfl rfl rfl rfl hx19 hx20 rfl (RA.done (by decide +kernel) (T.seq (T.region (go 2 4 (RS.nil ?_)))))))
  cases h
  exact tO [] [0,1,3] 4
 refine T.skip (T.seq ?_)
 obtain ⟨x22,hx22,h⟩:=bind_some h
 refine T.region (go 4 3 (sO (o_room (en:=Qwa) (xs:=p1) Ty.s88 rfl rfl rfl rfl hx22 rfl rfl (go 1 4 (RS.nil (T.seq (T.seq ?_)))))))
 obtain ⟨x25,hx25,h⟩:=bind_some h
 obtain ⟨x26,hx26,h⟩:=bind_some h
 refine T.region (go 5 4 (sO (J7c (en:=Qwa) (xs:=p1) Ty.s88 rfl rfl rfl rfl hx25 (sO (Vqe (fn:=Tryz.f114) (tS:=88) (tR:=4) (en:=Qwa) (xs:=p1) (ys:=p2) Tryz.func114 (by kernel_rfl) (by kernel_rfl) (by kernel_rfl) (by kernel_rfl) Ty.s88 rfl rfl rfl rfl hx26 (go 1 4 (RS.nil (T.ct rfl (T.seq ?_)))))))))
 obtain ⟨x30,hx30,h⟩:=bind_some h
 obtain ⟨x31,hx31,h⟩:=bind_some h
 obtain ⟨x32,hx32,h⟩:=bind_some h
 refine T.drawn mixed (k:=9) rfl ?_
 apply RA.jn 1 #[true,true,true,true,true,true,true,true,false];intro hS5
 ·refine rq [0,1,2,3,5,6] 3 (ra2 4 7 ?_ ?_)
  ·refine oO rfl (J7c (en:=Qwa) (xs:=p1) Ty.s88 rfl rfl rfl rfl hx30 (ra1 7 (oO rfl (J7c (en:=Qwa) (xs:=p1) Ty.s88 rfl rfl rfl rfl hx31 ?_))))
   exact raE hS5
  ·refine oO rfl (J7c (en:=Qwa) (xs:=p1) Ty.s88 rfl rfl rfl rfl hx31 (ra1 4 (oO rfl (J7c (en:=Qwa) (xs:=p1) Ty.s88 rfl rfl rfl rfl hx30 ?_))))
   exact raT hS5
 refine ra1 8 (oO rfl (Zbf (en:=Qwa) (xs:=p1) Ty.s88 (fun _=>rfl) rfl rfl rfl hx32 rfl (RA.done (by decide +kernel) (T.seq ?_))))
 obtain ⟨x35,hx35,h⟩:=bind_some h
 obtain ⟨x36,hx36,h⟩:=bind_some h
 refine T.region (go 2 4 (sO (Ztb (en:=Qwa) (xs:=x32) Ty.s88 rfl rfl rfl rfl hx35 (go 1 4 (sO (Vtd (en:=Qwa) (xs:=x32) (ys:=p2) Ty.s88 (fun _=>rfl) rfl rfl rfl rfl hx36 rfl (RS.nil (T.seq (T.region (go 2 4 (RS.nil ?_)))))))))))
 cases h
 exact tO [] [0,1,3] 4
theorem Qtb (p0:Int) (p1:Int) (p2:Memory) (p3:Item) (r:Memory × Item × Int) (h:Jwb p0 p1 p2 p3=some r):Fn Tryz.prog 89 [iI p0,iI p1,.agg (Qla p2),.agg (Qca p3)] (.tup [.agg (Qla r.1),.agg (Qca r.2.1),iI r.2.2]):=by
 unfold Jwb at h
 refine fnT 0 Tryz.func89 Tryz.ntmps89 ?_
 refine T.seq (T.region (go 5 0 (RS.nil (T.seq (T.seq ?_)))))
 obtain ⟨x2,hx2,h⟩:=bind_some h
 refine T.region (go 1 4 (sO (cF (Vbc p2 x2 hx2) ⟨rfl,(go 1 4 (RS.nil (T.seq (T.region (go 2 4 (RS.nil (T.ci h rfl (fun hb_1 h=>?_) (fun hb_1 h=>?_))))))))⟩)))
 ·refine T.seq (T.region (go 6 4 (RS.nil ?_)))
  cases h
  exact tD
 refine T.skip (T.seq (T.seq (T.region (go 3 4 (RS.nil (T.ci h rfl (fun hb_2 h=>?_) (fun hb_2 h=>?_)))))))
 ·refine T.seq (T.region (go 5 4 (RS.nil ?_)))
  cases h
  exact tD
 refine T.skip (T.seq ?_)
 obtain ⟨x4,hx4,h⟩:=bind_some h
 refine T.region (go 1 4 (sO (Qza (aw2:=[.box (Qla p2),.box (Qca p3),.box [iI 0,.nils,iI 0],.box [iI 0,iI 0,iI 0],aR 92 2 Qwa x4.Keys]) (v':=.agg [iI x4.Sum,.ref 4,iI x4.Dep]) (n0:=4) (n1:=1) [] rfl rfl (FnX.of_fnO (Vkd p2 x4 hx4)) (Qfa) ⟨Qnd ⟨Qja rfl,rn_s rfl,Qja rfl,trivial⟩,trivial⟩ (Q0d ⟨Qea (Qba _ _),Zla (by decide),Qea (Qba _ _),trivial⟩) ⟨.inr ⟨rfl,rfl⟩,.inr ⟨rfl,rfl⟩,.inr ⟨rfl,rfl⟩,.inr ⟨rfl,rfl⟩,.inl ⟨0,_,by decide,rfl,Jva Qqb⟩,trivial⟩ (go 1 5 (RS.nil (T.seq (T.seq (T.region (go 1 5 (RS.nil ?_))))))))))
 refine T.block (T.seq (T.region (go 2 5 (RS.nil (T.ci h rfl (fun hb_3 h=>?_) (fun hb_3 h=>?_))))))
 ·refine T.seq (T.join (Z:=Unit) (fun _=>mkA 137 [(1,iI p1),(6,.ptr 0 0),(7,.ptr 1 0),(8,.ptr 2 0),(9,.ptr 3 0),(36,.bool ((decide (p1<0)) || decide (p1 > 3)))]) (fun _=>[.box [iI x4.Sum,.ref 4,iI x4.Dep],.box (Qca p3),.box [iI 0,.nils,iI 0],.box [iI 0,iI 0,iI 0],aR 92 2 Qwa x4.Keys]) (fun _=>True) (fun _ _=>?_) (fun hK=>?_))
  ·refine T.ci h rfl (fun hb_5 h=>?_) (fun hb_5 h=>?_)
   ·refine T.seq (T.region (go 5 5 (RS.nil ?_)))
    cases h
    exact tD
   refine T.skip (T.seq ?_)
   obtain ⟨x7,hx7,h⟩:=bind_some h
   refine T.drawn mixed (k:=7) rfl ?_
   apply RA.jn 3 #[true,true,true,true,false,false,false];intro hS6
   ·refine rq [1] 6 (rL [2,3,4,5,6] 2 rfl (ra2 0 3 ?_ ?_))
    ·refine og 5 ⟨rfl,(ra1 3 (oO rfl (cF (Zvc p1 p3 x7 hx7) ⟨rfl,?_⟩)))⟩
     exact raE hS6
    ·refine oO rfl (cF (Zvc p1 p3 x7 hx7) ⟨rfl,(ra1 0 (og 5 ⟨rfl,?_⟩))⟩)
     exact raT hS6
   refine ra1 4 (og 5 ⟨rfl,(ra1 5 (og 5 ⟨rfl,(rq [6] 0 (RA.done (by decide +kernel) ?_))⟩))⟩)
   cases h
   exact tD
  refine T.region (go 3 5 ?_)
  rcases Qga (decide (p1<0)) with hb_4 | hb_4
  ·refine sN hb_4 (sN hb_4 (sQ (Qna (v:=.bool true) rfl hb_4 rfl (RS.nil ?_))))
   exact T.sub (hK () trivial) ⟨rfl,rfl,rfl,rfl,rfl,(congrArg AV.bool (by simp only [hb_4,bz,if_true,if_false,Bool.false_eq_true])).symm,trivial⟩
  refine yg 5 hb_4 (yg 5 hb_4 (sQ (Qha (v:=.bool (decide (p1 > 3))) rfl hb_4 rfl (RS.nil ?_))))
  exact T.sub (hK () trivial) ⟨rfl,rfl,rfl,rfl,rfl,(congrArg AV.bool (by simp only [hb_4,bz,if_true,if_false,Bool.false_eq_true])).symm,trivial⟩
 refine T.seq (T.region (go 2 5 (RS.nil (T.ci h rfl (fun hb_7 h=>?_) (fun hb_7 h=>?_)))))
 ·refine T.seq (T.region (go 7 5 (RS.nil (T.seq (T.region (go 7 5 (RS.nil (T.seq (T.drawn mixed (k:=11) rfl ?_)))))))))
  apply RA.jn 2 #[true,true,true,true,true,true,true,true,true,false,false];intro hS8
  apply RA.jn 3 #[true,true,true,true,true,true,true,true,false,false,false];intro hS9
  apply RA.jn 4 #[true,true,true,true,true,true,false,false,true,false,false];intro hS10
  apply RA.jn 4 #[true,true,true,true,false,true,true,false,true,false,false];intro hS11
  apply RA.jn 5 #[true,true,true,true,false,true,true,false,false,false,false];intro hS12
  apply RA.jn 5 #[true,true,false,true,true,true,true,false,false,false,false];intro hS13
  apply RA.jn 5 #[true,true,true,true,true,true,false,false,false,false,false];intro hS14
  ·refine rq [1,3,5] 8 (rL [0,8,9,10] 0 rfl (ra4 2 4 6 8 ?_ ?_ ?_ ?_))
   ·refine og 5 ⟨rfl,(ra3 4 6 8 ?_ ?_ ?_)⟩
    ·refine og 5 ⟨rfl,?_⟩
     exact raE hS14
    ·refine og 5 ⟨rfl,?_⟩
     exact raE hS12
    ·refine og 5 ⟨rfl,(rL [4,7,9,10] 4 rfl ?_)⟩
     exact raE hS10
   ·refine og 5 ⟨rfl,(ra3 2 6 8 ?_ ?_ ?_)⟩
    ·refine og 5 ⟨rfl,?_⟩
     exact raT hS14
    ·refine og 5 ⟨rfl,?_⟩
     exact raE hS13
    ·refine og 5 ⟨rfl,(rL [2,7,9,10] 2 rfl ?_)⟩
     exact raT hS10
   ·refine og 5 ⟨rfl,(ra3 2 4 8 ?_ ?_ ?_)⟩
    ·refine og 5 ⟨rfl,?_⟩
     exact raT hS12
    ·refine og 5 ⟨rfl,?_⟩
     exact raT hS13
    ·refine og 5 ⟨rfl,(rL [2,7,9,10] 2 rfl ?_)⟩
     exact raE hS11
   ·refine og 5 ⟨rfl,(rL [2,7,9,10] 2 rfl (rL [4,7,9,10] 4 rfl ?_))⟩
    exact raT hS10
  ·refine ra2 6 8 ?_ ?_
   ·refine og 5 ⟨rfl,(rq [7] 3 ?_)⟩
    exact raE hS9
   ·refine og 5 ⟨rfl,?_⟩
    exact raT hS10
  ·refine ra2 2 8 ?_ ?_
   ·refine og 5 ⟨rfl,(rq [7] 3 ?_)⟩
    exact raT hS9
   ·refine og 5 ⟨rfl,(ra1 2 (og 5 ⟨rfl,(rq [7] 2 ?_)⟩))⟩
    exact raE hS8
  ·refine ra2 4 8 ?_ ?_
   ·refine og 5 ⟨rfl,(rq [7] 3 ?_)⟩
    exact raT hS9
   ·refine og 5 ⟨rfl,?_⟩
    exact raT hS11
  ·refine ra1 4 (og 5 ⟨rfl,(rq [7] 2 ?_)⟩)
   exact raT hS8
  ·refine ra1 6 (og 5 ⟨rfl,(rq [7] 2 ?_)⟩)
   exact raT hS8
  ·refine ra1 8 (og 5 ⟨rfl,?_⟩)
   exact raT hS8
  refine ra1 9 (og 5 ⟨rfl,(rq [10] 0 (RA.done (by decide +kernel) ?_))⟩)
  cases h
  exact tD
 refine T.seq (T.region (go 2 5 (RS.nil (T.ci h rfl (fun hb_15 h=>?_) (fun hb_15 h=>?_)))))
 ·refine T.seq ?_
  obtain ⟨x9,hx9,h⟩:=bind_some h
  refine T.region (go 4 5 (sO (cF (Zab x4.Keys p3.Key x9 hx9) ⟨rfl,(go 5 5 (RS.nil (T.seq (T.region (go 7 5 (RS.nil (T.seq ?_)))))))⟩)))
  refine T.join (Z:=Unit) (fun _=>mkA 137 [(6,.ptr 0 0),(7,.ptr 1 0),(8,.ptr 2 0),(9,.ptr 3 0),(12,iI x9.1),(13,.bool x9.2),(88,.bool ((!x9.2) && ((x4.Keys).length:Int)==6))]) (fun _=>[.box [iI x4.Sum,.ref 4,iI (if p3.Dep > x4.Dep then p3.Dep else x4.Dep)],.box (Qca p3),.box [iI 0,.nils,iI 0],.box [iI 0,iI 0,iI 0],aR 92 2 Qwa x4.Keys]) (fun _=>True) (fun _ _=>?_) (fun hK=>?_)
  ·refine T.ci h rfl (fun hb_17 h=>?_) (fun hb_17 h=>?_)
   ·refine T.seq (T.drawn mixed (k:=9) rfl ?_)
    apply RA.jn 2 #[true,true,true,true,true,true,true,false,false];intro hS18
    apply RA.jn 3 #[true,true,true,true,true,true,false,false,false];intro hS19
    apply RA.jn 4 #[true,true,true,true,false,false,true,false,false];intro hS20
    ·refine rq [1,3] 7 (rL [0,6,7,8] 0 rfl (ra3 2 4 6 ?_ ?_ ?_))
     ·refine og 5 ⟨rfl,(ra2 4 6 ?_ ?_)⟩
      ·refine og 5 ⟨rfl,(rq [5] 3 ?_)⟩
       exact raE hS19
      ·refine og 5 ⟨rfl,?_⟩
       exact raE hS20
     ·refine og 5 ⟨rfl,(ra2 2 6 ?_ ?_)⟩
      ·refine og 5 ⟨rfl,(rq [5] 3 ?_)⟩
       exact raT hS19
      ·refine og 5 ⟨rfl,(ra1 2 (og 5 ⟨rfl,(rq [5] 2 ?_)⟩))⟩
       exact raE hS18
     ·refine og 5 ⟨rfl,(rL [2,5,7,8] 2 rfl ?_)⟩
      exact raT hS20
    ·refine ra1 4 (og 5 ⟨rfl,(rq [5] 2 ?_)⟩)
     exact raT hS18
    ·refine ra1 6 (og 5 ⟨rfl,?_⟩)
     exact raT hS18
    refine ra1 7 (og 5 ⟨rfl,(rq [8] 0 (RA.done (by decide +kernel) ?_))⟩)
    cases h
    exact tD
   refine T.skip (T.join (Z:=List Keyed) (fun zz_22=>mkA 137 [(6,.ptr 0 0),(7,.ptr 1 0),(8,.ptr 2 0),(9,.ptr 3 0),(12,iI x9.1)]) (fun zz_22=>[.box [iI x4.Sum,.ref 4,iI (if p3.Dep > x4.Dep then p3.Dep else x4.Dep)],.box (Qca p3),.box [iI 0,.nils,iI 0],.box [iI 0,iI 0,iI 0],aR 92 2 Qwa zz_22]) (fun zz_22=>Qzb p3 x4 x9 zz_22=some r) (fun zz_22 h=>?_) (fun hK1=>?_))
   ·revert h;revert zz_22;intro z12 h
    replace h:Qzb p3 x4 x9 z12=some r:=h
    try dsimp only
    unfold Qzb at h
    refine T.seq ?_
    obtain ⟨x17,hx17,h⟩:=bind_some h
    obtain ⟨x18,hx18,h⟩:=bind_some h
    obtain ⟨x19,hx19,h⟩:=bind_some h
    obtain ⟨x20,hx20,h⟩:=bind_some h
    refine T.region (go 3 5 (sQ (Q6a (en:=Qwa) Ty.s88 rfl rfl rfl hx17 (go 1 5 (sO (Jga (en:=Qwa) (a:=x18) rfl rfl hx18 (Qra Ty.k3 (c:=iI x18.N) rfl (go 1 5 (sQ (Q6a (en:=Qwa) Ty.s88 rfl rfl rfl hx19 (go 1 5 (sO (Yda (en:=Qwa) (a:=x20) (a':=(⟨x20.Key,IntKind.i64.wrap (x18.N+1)⟩:Keyed)) Ty.c3 Ty.i3 rfl (vs:=[iI (IntKind.i64.wrap (x18.N+1))]) rfl rfl rfl hx20 rfl rfl rfl (RS.nil ?_))))))))))))))
    refine T.seq ?_
    obtain ⟨x23,hx23,h⟩:=bind_some h
    obtain ⟨x24,hx24,h⟩:=bind_some h
    refine T.drawn mixed (k:=15) rfl ?_
    apply RA.jn 2 #[true,true,true,true,true,true,true,true,true,true,true,true,true,false,false];intro hS23
    apply RA.jn 3 #[true,true,true,true,true,true,true,true,true,true,true,true,false,false,false];intro hS24
    apply RA.jn 4 #[true,true,true,true,true,true,true,true,false,true,true,false,true,false,false];intro hS25
    apply RA.jn 4 #[true,true,true,true,true,true,true,true,true,true,false,false,true,false,false];intro hS26
    apply RA.jn 5 #[true,true,true,true,true,true,true,true,false,true,true,false,false,false,false];intro hS27
    apply RA.jn 5 #[true,true,false,true,true,true,true,true,true,true,true,false,false,false,false];intro hS28
    apply RA.jn 5 #[true,true,true,true,true,true,true,true,true,true,false,false,false,false,false];intro hS29
    apply RA.jn 6 #[true,true,false,true,true,true,true,true,false,true,true,false,false,false,false];intro hS30
    apply RA.jn 6 #[true,true,true,true,true,true,true,true,false,true,false,false,false,false,false];intro hS31
    apply RA.jn 7 #[true,true,false,true,true,true,true,true,false,true,false,false,false,false,false];intro hS32
    apply RA.jn 8 #[true,true,true,true,false,true,false,false,false,true,true,false,false,false,false];intro hS33
    apply RA.jn 9 #[true,true,false,true,false,true,false,false,false,true,true,false,false,false,false];intro hS34
    apply RA.jn 9 #[false,true,true,true,false,true,false,false,false,true,true,false,false,false,false];intro hS35
    apply RA.jn 9 #[true,true,true,true,false,true,false,false,false,true,false,false,false,false,false];intro hS36
    ·refine rq [1,3,5,9] 11 (ra4 0 2 4 10 ?_ ?_ ?_ ?_)
     ·refine og 5 ⟨rfl,(ra4 2 4 10 12 ?_ ?_ ?_ ?_)⟩
      ·refine og 5 ⟨rfl,?_⟩
       exact raE hS36
      ·refine og 5 ⟨rfl,(r0 6 rfl (Q6a (en:=Qwa) Ty.s88 rfl rfl rfl hx23 (rq [7] 7 ?_)))⟩
       exact raE hS32
      ·refine og 5 ⟨rfl,?_⟩
       exact raE hS34
      ·refine og 5 ⟨rfl,(rL [4,6,7,8,11,13,14] 4 rfl (r0 6 rfl (Q6a (en:=Qwa) Ty.s88 rfl rfl rfl hx23 (rq [7] 6 (rL [2,11,13,14] 2 rfl (rL [10,11,13,14] 10 rfl ?_))))))⟩
       exact raE hS25
     ·refine og 5 ⟨rfl,(ra3 0 4 10 ?_ ?_ ?_)⟩
      ·refine og 5 ⟨rfl,?_⟩
       exact raT hS36
      ·refine og 5 ⟨rfl,(r0 6 rfl (Q6a (en:=Qwa) Ty.s88 rfl rfl rfl hx23 (rq [7] 7 (rL [0,12,13,14] 0 rfl ?_))))⟩
       exact raE hS31
      ·refine og 5 ⟨rfl,?_⟩
       exact raE hS35
     ·refine og 5 ⟨rfl,(r0 6 rfl (Q6a (en:=Qwa) Ty.s88 rfl rfl rfl hx23 (rq [7] 8 (rL [0,12,13,14] 0 rfl ?_))))⟩
      exact raT hS32
     ·refine og 5 ⟨rfl,(ra3 0 2 4 ?_ ?_ ?_)⟩
      ·refine og 5 ⟨rfl,?_⟩
       exact raT hS34
      ·refine og 5 ⟨rfl,?_⟩
       exact raT hS35
      ·refine og 5 ⟨rfl,(r0 6 rfl (Q6a (en:=Qwa) Ty.s88 rfl rfl rfl hx23 (rq [7] 7 (rL [0,12,13,14] 0 rfl ?_))))⟩
       exact raE hS30
    ·refine ra3 4 10 12 ?_ ?_ ?_
     ·refine og 5 ⟨rfl,(r0 6 rfl (Q6a (en:=Qwa) Ty.s88 rfl rfl rfl hx23 (rq [7] 6 ?_)))⟩
      exact raT hS31
     ·refine og 5 ⟨rfl,?_⟩
      exact raE hS33
     ·refine og 5 ⟨rfl,(rL [4,6,7,8,11,13,14] 4 rfl (r0 6 rfl (Q6a (en:=Qwa) Ty.s88 rfl rfl rfl hx23 (rq [7] 5 (rL [10,11,13,14] 10 rfl ?_)))))⟩
      exact raT hS25
    ·refine ra2 0 4 ?_ ?_
     ·refine og 5 ⟨rfl,?_⟩
      exact raT hS33
     ·refine og 5 ⟨rfl,(r0 6 rfl (Q6a (en:=Qwa) Ty.s88 rfl rfl rfl hx23 (rq [7] 6 (rL [0,12,13,14] 0 rfl ?_))))⟩
      exact raE hS27
    ·refine ra3 2 4 12 ?_ ?_ ?_
     ·refine og 5 ⟨rfl,?_⟩
      exact raT hS33
     ·refine og 5 ⟨rfl,(r0 6 rfl (Q6a (en:=Qwa) Ty.s88 rfl rfl rfl hx23 (rq [7] 6 ?_)))⟩
      exact raT hS30
     ·refine og 5 ⟨rfl,(rL [4,6,7,8,11,13,14] 4 rfl (r0 6 rfl (Q6a (en:=Qwa) Ty.s88 rfl rfl rfl hx23 (rq [7] 5 (rL [2,11,13,14] 2 rfl ?_)))))⟩
      exact raT hS25
    ·refine ra2 4 12 ?_ ?_
     ·refine og 5 ⟨rfl,(r0 6 rfl (Q6a (en:=Qwa) Ty.s88 rfl rfl rfl hx23 (rq [7] 5 ?_)))⟩
      exact raT hS27
     ·refine og 5 ⟨rfl,(ra1 4 (og 5 ⟨rfl,(r0 6 rfl (Q6a (en:=Qwa) Ty.s88 rfl rfl rfl hx23 (rq [7] 4 ?_)))⟩))⟩
      exact raT hS25
    ·refine ra4 2 8 10 12 ?_ ?_ ?_ ?_
     ·refine og 5 ⟨rfl,?_⟩
      exact raT hS31
     ·refine oO rfl (Jga (en:=Qwa) (a:=x24) rfl rfl hx24 (Qra Ty.k3 (c:=iI x24.N) rfl (ra3 2 10 12 ?_ ?_ ?_)))
      ·refine og 5 ⟨rfl,?_⟩
       exact raE hS29
      ·refine og 5 ⟨rfl,?_⟩
       exact raE hS28
      ·refine og 5 ⟨rfl,(rL [2,11,13,14] 2 rfl ?_)⟩
       exact raE hS26
     ·refine og 5 ⟨rfl,?_⟩
      exact raT hS30
     ·refine og 5 ⟨rfl,(rL [2,11,13,14] 2 rfl (rL [10,11,13,14] 10 rfl ?_))⟩
      exact raT hS25
    ·refine ra3 8 10 12 ?_ ?_ ?_
     ·refine oO rfl (Jga (en:=Qwa) (a:=x24) rfl rfl hx24 (Qra Ty.k3 (c:=iI x24.N) rfl ?_))
      exact raT hS29
     ·refine og 5 ⟨rfl,?_⟩
      exact raT hS27
     ·refine og 5 ⟨rfl,(rL [10,11,13,14] 10 rfl ?_)⟩
      exact raT hS25
    ·refine ra3 2 8 12 ?_ ?_ ?_
     ·refine og 5 ⟨rfl,?_⟩
      exact raT hS27
     ·refine oO rfl (Jga (en:=Qwa) (a:=x24) rfl rfl hx24 (Qra Ty.k3 (c:=iI x24.N) rfl ?_))
      exact raT hS28
     ·refine og 5 ⟨rfl,(rL [2,11,13,14] 2 rfl ?_)⟩
      exact raT hS25
    ·refine ra2 10 12 ?_ ?_
     ·refine og 5 ⟨rfl,(rq [11] 3 ?_)⟩
      exact raE hS24
     ·refine og 5 ⟨rfl,?_⟩
      exact raT hS26
    ·refine ra2 2 12 ?_ ?_
     ·refine og 5 ⟨rfl,(rq [11] 3 ?_)⟩
      exact raT hS24
     ·refine og 5 ⟨rfl,(ra1 2 (og 5 ⟨rfl,(rq [11] 2 ?_)⟩))⟩
      exact raE hS23
    ·refine ra2 8 12 ?_ ?_
     ·refine oO rfl (Jga (en:=Qwa) (a:=x24) rfl rfl hx24 (Qra Ty.k3 (c:=iI x24.N) rfl (rq [11] 3 ?_)))
      exact raT hS24
     ·refine og 5 ⟨rfl,?_⟩
      exact raT hS25
    ·refine ra1 10 (og 5 ⟨rfl,(rq [11] 2 ?_)⟩)
     exact raT hS23
    ·refine ra1 8 (oO rfl (Jga (en:=Qwa) (a:=x24) rfl rfl hx24 (Qra Ty.k3 (c:=iI x24.N) rfl (rq [11] 2 ?_))))
     exact raT hS23
    ·refine ra1 12 (og 5 ⟨rfl,?_⟩)
     exact raT hS23
    refine ra1 13 (og 5 ⟨rfl,(rq [14] 0 (RA.done (by decide +kernel) ?_))⟩)
    cases h
    exact tD
   refine T.seq (T.region (go 2 5 (RS.nil (T.ci h rfl (fun hb_37 h=>?_) (fun hb_37 h=>?_)))))
   ·obtain ⟨x11,hx11,h⟩:=bind_some h
    refine T.region (go 6 5 (sO (Q9a (rows:=List.map Qwa [(⟨p3.Key,0⟩:Keyed)]) (vs:=[.agg [iI p3.Key,iI 0]]) Ty.s88 Ty.z92 rfl rfl rfl rfl rfl rfl (sO (Qza (aw2:=[.box [iI x4.Sum,.ref 4,iI (if p3.Dep > x4.Dep then p3.Dep else x4.Dep)],.box (Qca p3),.box [iI 0,.nils,iI 0],.box [iI 0,iI 0,iI 0],.dead,.dead,aR 92 2 Qwa x11]) (v':=.ref 6) (n0:=6) (n1:=3) [4,5] rfl rfl (Ylb x9.1 x4.Keys ([(⟨p3.Key,0⟩:Keyed)]:List Keyed) x11 hx11) (Zia rfl Qqb rfl (Zia rfl Qqb rfl Qfa)) ⟨Jha rfl,Qja rfl,Jha rfl,trivial⟩ (Zla (by decide)) ⟨.inr ⟨rfl,rfl⟩,.inr ⟨rfl,rfl⟩,.inr ⟨rfl,rfl⟩,.inr ⟨rfl,rfl⟩,.inl ⟨0,_,by decide,rfl,trivial⟩,.inl ⟨1,_,by decide,rfl,trivial⟩,.inl ⟨2,_,by decide,rfl,Jva Qqb⟩,trivial⟩ (go 2 7 (RS.nil ?_)))))))
    exact T.weakR (hK1 x11 h) (wk [] [0,1,2,3,6] 7 rfl)
   refine T.skip ?_
   exact T.su (hK1 x4.Keys h)
  refine T.region (go 3 5 ?_)
  rcases Qga (!x9.2) with hb_16 | hb_16
  ·refine yg 5 hb_16 (yg 5 hb_16 (yQ hb_16 (Q0b (en:=Qwa) Ty.s88 rfl rfl (yg 5 hb_16 (sQ (Qna (v:=.bool (((x4.Keys).length:Int)==6)) rfl hb_16 rfl (RS.nil ?_)))))))
   exact T.sub (hK () trivial) ⟨rfl,rfl,rfl,rfl,rfl,rfl,(congrArg AV.bool (by simp only [hb_16,bz,if_true,if_false,Bool.false_eq_true])).symm,trivial⟩
  refine sN hb_16 (sN hb_16 (sN hb_16 (sN hb_16 (sQ (Qha (v:=.bool false) rfl hb_16 rfl (RS.nil ?_))))))
  exact T.sub (hK () trivial) ⟨rfl,rfl,rfl,rfl,rfl,rfl,(congrArg AV.bool (by simp only [hb_16,bz,if_true,if_false,Bool.false_eq_true])).symm,trivial⟩
 refine T.seq (T.seq (T.region (go 2 5 (RS.nil (T.ci h rfl (fun hb_38 h=>?_) (fun hb_38 h=>?_))))))
 ·refine T.skip (T.ci h rfl (fun hb_39 h=>?_) (fun hb_39 h=>?_))
  ·refine T.seq (T.drawn mixed (k:=5) rfl ?_)
   apply RA.jn 2 #[true,true,true,false,false];intro hS40
   ·refine rL [0,2,3,4] 0 rfl (ra2 1 2 ?_ ?_)
    ·refine og 5 ⟨rfl,(ra1 2 (og 5 ⟨rfl,?_⟩))⟩
     exact raE hS40
    ·refine og 5 ⟨rfl,(ra1 1 (og 5 ⟨rfl,?_⟩))⟩
     exact raT hS40
   refine ra1 3 (og 5 ⟨rfl,(rq [4] 0 (RA.done (by decide +kernel) ?_))⟩)
   cases h
   exact tD
  refine T.skip (T.seq (T.region (go 5 5 (RS.nil ?_))))
  cases h
  exact tD
 refine T.seq (T.region (go 2 5 (RS.nil (T.ci h rfl (fun hb_41 h=>?_) (fun hb_41 h=>?_)))))
 ·refine T.skip (T.ci h rfl (fun hb_42 h=>?_) (fun hb_42 h=>?_))
  ·refine T.seq (T.drawn mixed (k:=5) rfl ?_)
   apply RA.jn 2 #[true,true,true,false,false];intro hS43
   ·refine rL [0,2,3,4] 0 rfl (ra2 1 2 ?_ ?_)
    ·refine og 5 ⟨rfl,(ra1 2 (og 5 ⟨rfl,?_⟩))⟩
     exact raE hS43
    ·refine og 5 ⟨rfl,(ra1 1 (og 5 ⟨rfl,?_⟩))⟩
     exact raT hS43
   refine ra1 3 (og 5 ⟨rfl,(rq [4] 0 (RA.done (by decide +kernel) ?_))⟩)
   cases h
   exact tD
  refine T.skip (T.seq (T.region (go 5 5 (RS.nil ?_))))
  cases h
  exact tD
 refine T.seq (T.region (go 2 5 (RS.nil (T.ci h rfl (fun hb_44 h=>?_) (fun hb_44 h=>?_)))))
 ·refine T.skip (T.ci h rfl (fun hb_45 h=>?_) (fun hb_45 h=>?_))
  ·refine T.seq (T.drawn mixed (k:=5) rfl ?_)
   apply RA.jn 2 #[true,true,true,false,false];intro hS46
   ·refine rL [0,2,3,4] 0 rfl (ra2 1 2 ?_ ?_)
    ·refine og 5 ⟨rfl,(ra1 2 (og 5 ⟨rfl,?_⟩))⟩
     exact raE hS46
    ·refine og 5 ⟨rfl,(ra1 1 (og 5 ⟨rfl,?_⟩))⟩
     exact raT hS46
   refine ra1 3 (og 5 ⟨rfl,(rq [4] 0 (RA.done (by decide +kernel) ?_))⟩)
   cases h
   exact tD
  refine T.skip (T.seq (T.region (go 5 5 (RS.nil ?_))))
  cases h
  exact tD
 refine T.seq (T.region (go 2 5 (RS.nil (T.ci h rfl (fun hb_47 h=>?_) (fun hb_47 h=>?_)))))
 ·refine T.skip (T.ci h rfl (fun hb_48 h=>?_) (fun hb_48 h=>?_))
  ·refine T.seq (T.drawn mixed (k:=5) rfl ?_)
   apply RA.jn 2 #[true,true,true,false,false];intro hS49
   ·refine rL [0,2,3,4] 0 rfl (ra2 1 2 ?_ ?_)
    ·refine og 5 ⟨rfl,(ra1 2 (og 5 ⟨rfl,?_⟩))⟩
     exact raE hS49
    ·refine og 5 ⟨rfl,(ra1 1 (og 5 ⟨rfl,?_⟩))⟩
     exact raT hS49
   refine ra1 3 (og 5 ⟨rfl,(rq [4] 0 (RA.done (by decide +kernel) ?_))⟩)
   cases h
   exact tD
  refine T.skip (T.seq (T.region (go 5 5 (RS.nil ?_))))
  cases h
  exact tD
 refine T.region (go 2 5 (RS.nil (T.ci h rfl (fun hb_50 h=>?_) (fun hb_50 h=>?_))))
 ·refine T.seq (T.drawn mixed (k:=5) rfl ?_)
  apply RA.jn 2 #[true,true,true,false,false];intro hS51
  ·refine rL [0,2,3,4] 0 rfl (ra2 1 2 ?_ ?_)
   ·refine og 5 ⟨rfl,(ra1 2 (og 5 ⟨rfl,?_⟩))⟩
    exact raE hS51
   ·refine og 5 ⟨rfl,(ra1 1 (og 5 ⟨rfl,?_⟩))⟩
    exact raT hS51
  refine ra1 3 (og 5 ⟨rfl,(rq [4] 0 (RA.done (by decide +kernel) ?_))⟩)
  cases h
  exact tD
 refine T.skip (T.seq (T.region (go 5 5 (RS.nil ?_))))
 cases h
 exact tD
theorem Vce (p0:Net) (p1:List (List Item)) (p2:State) (p3:Move) (r:Bool) (h:Vpc p0 p1 p2 p3=some r):Fn Tryz.prog 85 [.agg (Qxa p0),sL (encL Qca) p1,.agg (Q2a p2),.agg (Vfa p3)] (.bool r):=by
 unfold Vpc at h
 refine fnT 0 Tryz.func85 Tryz.ntmps85 ?_
 refine T.seq (T.region (go 4 0 (RS.nil (T.seq ?_))))
 obtain ⟨x2,hx2,h⟩:=bind_some h
 refine T.region (go 4 3 (sQ (Qka Ty.s45 (fun _=>rfl) rfl rfl hx2 (go 3 3 (RS.nil (T.seq ?_))))))
 obtain ⟨x4,hx4,h⟩:=bind_some h
 refine T.region (go 4 4 (sO (cF (Zzc p0 p1 p2 p3 x4 hx4) ⟨rfl,(go 6 4 (RS.nil (T.seq ?_)))⟩)))
 obtain ⟨zt_2,hz,h⟩:=bind_some h
 revert hz h;revert zt_2;intro c7 hz h
 refine T.join (Z:=Unit) (fun _=>mkA 76 [(6,.ptr 0 0),(7,.ptr 1 0),(9,.ptr 2 0),(10,.ptr 3 0),(37,.bool c7)]) (fun _=>[.box (Q2a p2),.box (Vfa p3),.box (Q5a x2),.box (Qca x4.1)]) (fun _=>True) (fun _ _=>?_) (fun hK=>?_)
 ·refine T.ci h rfl (fun hb_3 h=>?_) (fun hb_3 h=>?_)
  ·refine T.seq (T.region (go 1 4 (RS.nil ?_)))
   cases h
   exact tD
  refine T.skip (T.seq (T.join (Z:=Unit) (fun _=>mkA 76 [(6,.ptr 0 0),(7,.ptr 1 0),(9,.ptr 2 0),(10,.ptr 3 0),(57,.bool (if (x2.Kind==6)=true then ((((p2.Choices).length:Int)==500) || ((x2.Kind==8) && ((p2.Out).length:Int)==2000)) else ((x2.Kind==8) && ((p2.Out).length:Int)==2000)))]) (fun _=>[.box (Q2a p2),.box (Vfa p3),.box (Q5a x2),.box (Qca x4.1)]) (fun _=>True) (fun _ _=>?_) (fun hK=>?_)))
  ·refine T.ci h rfl (fun hb_8 h=>?_) (fun hb_8 h=>?_)
   ·refine T.seq (T.region (go 1 4 (RS.nil ?_)))
    cases h
    exact tD
   refine T.skip (T.seq ?_)
   obtain ⟨x11,hx11,h⟩:=bind_some h
   obtain ⟨x12,hx12,h⟩:=bind_some h
   refine T.drawn mixed (k:=21) rfl ?_
   apply RA.jn 3 #[true,true,true,true,true,true,true,true,true,true,true,true,true,true,true,true,true,true,false,false,false];intro hS9
   apply RA.jn 4 #[true,true,true,true,true,true,true,true,true,true,true,true,true,true,true,true,false,true,false,false,false];intro hS10
   apply RA.jn 4 #[true,true,true,true,true,true,true,true,true,true,true,true,true,true,true,true,true,false,false,false,false];intro hS11
   apply RA.jn 8 #[true,true,true,true,true,true,true,true,true,true,true,false,false,false,false,false,true,true,false,false,false];intro hS12
   ·refine rq [0,2,4,6] 17 (rL [1,11,12,13,14,15,18,19,20] 1 rfl (rL [3,11,12,13,14,15,18,19,20] 3 rfl (rL [5,8,9,11,12,13,14,15,18,19,20] 5 rfl (rL [7,8,9,11,12,13,14,15,18,19,20] 7 rfl (r0 8 rfl (Qka Ty.s50 (fun _=>rfl) rfl rfl hx11 (rL [9,11,12,13,14,15,18,19,20] 9 rfl (rL [10,11,12,13,14,15,18,19,20] 10 rfl (ra3 11 16 17 ?_ ?_ ?_)))))))))
    ·refine oO rfl (cD (Qtb x2.Kind x2.A x11 x4.1 x12 hx12) ⟨rfl,(rq [12,13,14,15] 5 (ra2 16 17 ?_ ?_))⟩)
     ·refine og 4 ⟨rfl,?_⟩
      exact raE hS11
     ·refine og 4 ⟨rfl,?_⟩
      exact raE hS10
    ·refine og 4 ⟨rfl,(ra2 11 17 ?_ ?_)⟩
     ·refine oO rfl (cD (Qtb x2.Kind x2.A x11 x4.1 x12 hx12) ⟨rfl,(rq [12,13,14,15] 4 ?_)⟩)
      exact raT hS11
     ·refine og 5 ⟨rfl,?_⟩
      exact raE hS12
    ·refine og 4 ⟨rfl,(ra2 11 16 ?_ ?_)⟩
     ·refine oO rfl (cD (Qtb x2.Kind x2.A x11 x4.1 x12 hx12) ⟨rfl,(rq [12,13,14,15] 4 ?_)⟩)
      exact raT hS10
     ·refine og 5 ⟨rfl,?_⟩
      exact raV hS12 [0,1,2,3,5,4] rfl
   ·refine ra1 11 (oO rfl (cD (Qtb x2.Kind x2.A x11 x4.1 x12 hx12) ⟨rfl,(rq [12,13,14,15] 3 ?_)⟩))
    exact raE hS9
   ·refine ra1 17 (og 5 ⟨rfl,?_⟩)
    exact raT hS9
   ·refine ra1 16 (og 5 ⟨rfl,?_⟩)
    exact raV hS9 [0,1,2,3,5,4] rfl
   refine ra1 18 (og 6 ⟨rfl,(ra1 19 (og 6 ⟨rfl,(rq [20] 0 (RA.done (by decide +kernel) (T.seq (T.region (go 3 6 (RS.nil ?_))))))⟩))⟩)
   cases h
   exact tD
  refine T.region (go 4 4 ?_)
  rcases Qga (x2.Kind==6) with hb_4 | hb_4
  ·refine yg 4 hb_4 (yg 4 hb_4 (yQ hb_4 (Qia Ty.s51 rfl (yg 4 hb_4 (sQ (Qna (v:=.bool (((p2.Choices).length:Int)==500)) rfl hb_4 rfl (go 1 4 ?_)))))))
   rcases Qga (((p2.Choices).length:Int)==500) with hb_5 | hb_5
   ·refine sN hb_5 (sN hb_5 (sN hb_5 (sN hb_5 (sU (sU (sU (sU (sN hb_5 (sQ (Qna (v:=.bool true) rfl hb_5 rfl ?_))))))))))
    refine RS.nil ?_
    exact T.sub (hK () trivial) ⟨rfl,rfl,rfl,rfl,(congrArg AV.bool (by simp only [hb_4,hb_5,bz,if_true,if_false,Bool.false_eq_true])).symm,trivial⟩
   refine yg 4 hb_5 (yg 4 hb_5 (yg 4 hb_5 (yg 4 hb_5 ?_)))
   rcases Qga (x2.Kind==8) with hb_6 | hb_6
   ·refine yg 4 hb_6 (yg 4 hb_6 (yQ hb_6 (Qia Ty.s52 rfl (yg 4 hb_6 (yQ hb_5 (Qna (v:=.bool (((p2.Out).length:Int)==2000)) rfl hb_6 rfl (sQ (Qha (v:=.bool (((p2.Out).length:Int)==2000)) rfl hb_5 rfl (RS.nil ?_)))))))))
    exact T.sub (hK () trivial) ⟨rfl,rfl,rfl,rfl,(congrArg AV.bool (by simp only [hb_4,hb_5,hb_6,bz,if_true,if_false,Bool.false_eq_true])).symm,trivial⟩
   refine sN hb_6 (sN hb_6 (sN hb_6 (sN hb_6 (yQ hb_5 (Qha (v:=.bool false) rfl hb_6 rfl (sQ (Qha (v:=.bool false) rfl hb_5 rfl (RS.nil ?_))))))))
   exact T.sub (hK () trivial) ⟨rfl,rfl,rfl,rfl,(congrArg AV.bool (by simp only [hb_4,hb_5,hb_6,bz,if_true,if_false,Bool.false_eq_true])).symm,trivial⟩
  refine sN hb_4 (sN hb_4 (sN hb_4 (sN hb_4 (sQ (Qha (v:=.bool false) rfl hb_4 rfl (go 1 4 (yg 4 rfl (yg 4 rfl (yg 4 rfl (yg 4 rfl ?_))))))))))
  rcases Qga (x2.Kind==8) with hb_7 | hb_7
  ·refine yg 4 hb_7 (yg 4 hb_7 (yQ hb_7 (Qia Ty.s52 rfl (yg 4 hb_7 (yQ rfl (Qna (v:=.bool (((p2.Out).length:Int)==2000)) rfl hb_7 rfl (sQ (Qha (v:=.bool (((p2.Out).length:Int)==2000)) rfl rfl rfl (RS.nil ?_)))))))))
   exact T.sub (hK () trivial) ⟨rfl,rfl,rfl,rfl,(congrArg AV.bool (by simp only [hb_4,hb_7,bz,if_true,if_false,Bool.false_eq_true])).symm,trivial⟩
  refine sN hb_7 (sN hb_7 (sN hb_7 (sN hb_7 (yQ rfl (Qha (v:=.bool false) rfl hb_7 rfl (sQ (Qha (v:=.bool false) rfl rfl rfl (RS.nil ?_))))))))
  exact T.sub (hK () trivial) ⟨rfl,rfl,rfl,rfl,(congrArg AV.bool (by simp only [hb_4,hb_7,bz,if_true,if_false,Bool.false_eq_true])).symm,trivial⟩
 refine T.region (go 3 5 ?_)
 rcases Qga (!x4.2) with hb_1 | hb_1
 ·replace hz:=ite_T hz hb_1
  refine sN hb_1 (sN hb_1 (sN hb_1 (sN hb_1 (sN hb_1 (sQ (Qna (v:=.bool true) rfl hb_1 rfl (RS.nil ?_)))))))
  exact T.weakR (hK () trivial) (Weak.mkN [] [1,2,3,4] (by decide) (Qma _) rfl ⟨Qda rfl,Qda rfl,Qda rfl,Qda rfl,Jca ((congrArg (fun p=>p) (Option.some.inj hz)).symm),trivial⟩ (rw_bs (Q2a p2) rfl (rw_bs (Vfa p3) rfl (rw_bs (Q5a x2) rfl (rw_bs (Qca x4.1) rfl (Qfa))))))
 replace hz:=ite_F hz hb_1
 obtain ⟨x5,hx5,hz⟩:=bind_some hz
 obtain ⟨x6,hx6,hz⟩:=bind_some hz
 refine yg 5 hb_1 (yg 5 hb_1 (yO hb_1 (cD (Qtd x2 x4.1 x5 hx5) ⟨rfl,(yg 5 hb_1 (yO hb_1 (Qza (aw2:=[.box (Qxa p0),.box (Q2a p2),.box (Vfa p3),.box (Q5a x2),.box (Qca x4.1)]) (v':=.bool x6) (n0:=5) (n1:=2) [1,0] rfl rfl (Vhb x5 p2.At p2.Rings p2.Memory p2.Choices p2.Out p0.Nodes p0.Rings p0.Room x6 hx6) (Qoa rfl ⟨rn_s rfl,rn_s rfl,rn_s rfl,rn_s rfl,rn_s rfl,trivial⟩ (Qoa rfl ⟨rn_s rfl,Qja rfl,Qja rfl,trivial⟩ Qfa)) ⟨rn_s rfl,Vka ⟨Qda rfl,Qda rfl,trivial⟩,trivial⟩ (Qea (V4a _)) ⟨.inl ⟨1,_,by decide,rfl,Qya ⟨Qea (Q3a Yrb _),Qea (Qba _ _),Qea (Qba _ _),trivial⟩⟩,.inl ⟨0,_,by decide,rfl,Qya ⟨Qea (Q3a J7b _),Qea (Q3a (Zyb Jia) _),Qea (Q3a Zga _),Qea (Q3a Zha _),Qea (Q3a Jia _),trivial⟩⟩,.inr ⟨rfl,rfl⟩,.inr ⟨rfl,rfl⟩,.inr ⟨rfl,rfl⟩,trivial⟩ (sQ (Qha (v:=.bool x6) rfl hb_1 rfl (RS.nil ?_))))))⟩)))
 exact T.weakR (hK () trivial) (Weak.mkN [] [1,2,3,4] (by decide) (Qma _) rfl ⟨Qda rfl,Qda rfl,Qda rfl,Qda rfl,Jca ((congrArg (fun p=>p) (Option.some.inj hz)).symm),trivial⟩ (rw_bs (Q2a p2) rfl (rw_bs (Vfa p3) rfl (rw_bs (Q5a x2) rfl (rw_bs (Qca x4.1) rfl (Qfa))))))
theorem Ytd (p0:Net) (p1:List (List Item)) (p2:State) (r:List Move) (h:Yfb p0 p1 p2=some r):FnO Tryz.prog 65 [.agg (Qxa p0),sL (encL Qca) p1,.agg (Q2a p2)] (.ref 0) [aR 135 2 Vfa r]:=by
 unfold Yfb at h
 refine fnT 0 Tryz.func65 Tryz.ntmps65 ?_
 refine T.seq (T.region (go 3 0 (RS.nil (T.seq (T.region (go 1 2 (RS.nil (T.seq (T.seq ?_)))))))))
 refine T.region (go 2 2 (sQ (Qia Ty.s45 rfl (go 1 2 (RS.nil (T.block (T.iter (fun ss_27:Int × (List Move)=>mkA 46 [(1,sL (encL Qca) p1),(3,.ptr 0 0),(5,.ptr 1 0),(7,.ref 2),(14,sL Q5a p0.Nodes),(15,iI ((p0.Nodes).length:Int)),(16,iI ss_27.1)]) (fun ss_27=>[.box (Qxa p0),.box (Q2a p2),aR 135 2 Vfa ss_27.2]) h (wk [(7,135,2)] [0,1,2] 2 rfl) (fun ss_27 v_28 h hv_28=>?_))))))))
 obtain ⟨s1,s2⟩:=ss_27
 replace h:Qdb p0 p1 p2 s1 s2=some v_28:=h
 try dsimp only
 unfold Qdb at h
 refine T.seq (T.region (go 1 3 (RS.nil (T.seq (T.ci h rfl (fun hb_29 h=>?_) (fun hb_29 h=>?_))))))
 ·refine T.skip (T.seq (T.block (T.seq ?_)))
  obtain ⟨x4,hx4,h⟩:=bind_some h
  refine T.region (go 1 3 (sQ (Qka Ty.s45 (fun _=>rfl) rfl rfl hx4 (go 4 3 (RS.nil (T.seq (T.region (go 1 4 (RS.nil (T.join (Z:=Int) (fun zz_31=>mkA 46 [(1,sL (encL Qca) p1),(3,.ptr 0 0),(5,.ptr 1 0),(7,.ref 2),(8,iI s1),(10,iI zz_31),(14,sL Q5a p0.Nodes),(15,iI ((p0.Nodes).length:Int)),(16,iI s1)]) (fun zz_31=>[.box (Qxa p0),.box (Q2a p2),aR 135 2 Vfa s2]) (fun zz_31=>Jvb p0 p1 s1 p2 s2 zz_31=some v_28) (fun zz_31 h=>?_) (fun hK2=>?_)))))))))))
  ·revert h;revert zz_31;intro z5 h
   replace h:Jvb p0 p1 s1 p2 s2 z5=some v_28:=h
   try dsimp only
   unfold Jvb at h
   refine T.seq (T.region (go 2 3 (RS.nil (T.block (T.iter (fun ss_36:Int × (List Move)=>mkA 46 [(1,sL (encL Qca) p1),(3,.ptr 0 0),(5,.ptr 1 0),(7,.ref 2),(8,iI s1),(14,sL Q5a p0.Nodes),(15,iI ((p0.Nodes).length:Int)),(16,iI s1),(27,iI z5),(28,iI ss_36.1)]) (fun ss_36=>[.box (Qxa p0),.box (Q2a p2),aR 135 2 Vfa ss_36.2]) h (wk [] [0,1,2] 3 rfl) (fun ss_36 v_37 h hv_37=>?_))))))
   obtain ⟨s6,s7⟩:=ss_36
   replace h:Vra p0 p1 s1 p2 z5 s6 s7=some v_37:=h
   try dsimp only
   unfold Vra at h
   refine T.seq (T.region (go 1 3 (RS.nil (T.seq (T.ci h rfl (fun hb_38 h=>?_) (fun hb_38 h=>?_))))))
   ·refine T.skip (T.seq (T.block (T.seq (T.region (go 2 3 (RS.nil (T.seq (T.region (go 5 3 ?_)))))))))
    refine RS.nil (T.seq ?_)
    obtain ⟨x9,hx9,h⟩:=bind_some h
    refine T.region (go 4 4 (sO (cF (Vce p0 p1 p2 (⟨s1,s6⟩:Move) x9 hx9) ⟨rfl,(RS.nil (T.ci h rfl (fun hb_39 h=>?_) (fun hb_39 h=>?_)))⟩)))
    ·obtain ⟨x10,hx10,h⟩:=bind_some h
     refine T.region (go 2 4 (sO (Q9a (rows:=List.map Vfa [(⟨s1,s6⟩:Move)]) (vs:=[.agg [iI s1,iI s6]]) Ty.s131 Ty.z135 rfl rfl rfl rfl rfl rfl (sO (Voa (en:=Vfa) (xs:=s7) (ys:=([(⟨s1,s6⟩:Move)]:List Move)) Ty.s131 (fun _=>rfl) rfl rfl rfl hx10 rfl rfl (go 1 6 (RS.nil (T.region (go 2 6 (RS.nil ?_))))))))))
     exact ⟨(IntKind.i64.wrap (s6+1),x10),(Option.some.inj h).symm,wk [] [0,1,5] 6 rfl⟩
    refine T.skip (T.region (go 2 4 (RS.nil ?_)))
    exact ⟨(IntKind.i64.wrap (s6+1),s7),(Option.some.inj h).symm,wk [] [0,1,2] 4 rfl⟩
   refine T.exit ?_
   obtain ⟨w_40,h,hw_40⟩:=Qpa h
   replace h:=h.trans (congrArg some (hv_37 _ hw_40))
   refine T.region (go 2 3 (RS.nil ?_))
   exact ⟨(IntKind.i64.wrap (s1+1),s7),(Option.some.inj h).symm,wk [] [0,1,2] 3 rfl⟩
  refine T.seq (T.region (go 3 4 (RS.nil (T.ci h rfl (fun hb_41 h=>?_) (fun hb_41 h=>?_)))))
  ·refine T.region (go 2 4 (sQ (Qia Ty.s49 rfl (go 1 4 (RS.nil ?_)))))
   exact T.weakR (hK2 ((x4.In).length:Int) h) (wk [] [0,1,2] 4 rfl)
  refine T.skip ?_
  exact T.weakR (hK2 1 h) (wk [] [0,1,2] 4 rfl)
 refine T.exit ?_
 obtain ⟨w_42,h,hw_42⟩:=Qpa h
 replace h:=h.trans (congrArg some (hv_28 _ hw_42))
 refine T.seq (T.region (go 2 3 (RS.nil ?_)))
 cases h
 exact tO [] [2] 3
theorem Yza (p0 r:List Item) (h:Yxa p0=some r):FnO Tryz.prog 98 [.sl (List.map Qca p0)] (.ref 0) [.arr 115 3 (List.map Qca r)]:=by
 have hr:p0=r:=by
  unfold Yxa app at h
  split at h
  ·simpa using h
  ·cases h
 refine V3c (N:=0) rfl Tryz.func98 rfl (by kernel_rfl) Tryz.ntmps98 rfl ?_
 show T _ _ _ _ (mkA 8 [(0,.sl (List.map Qca p0))]) []
 refine T.seq ?_
 refine T.region ?_
 refine RS.op rfl (OP.q rfl (Jzb (v:=.nils) rfl ?_))
 refine RS.nil ?_
 refine T.seq ?_
 refine T.seq ?_
 refine T.region ?_
 refine RS.op rfl (OP.q rfl (Vqc (v:=.sl (List.map Qca p0)) rfl ?_))
 refine RS.op rfl (OP.q rfl (Zrd Ty.s52 rfl rfl (fun z hz=>?_)))
 refine RS.nil ?_
 refine T.cond (b:=z) rfl (fun hb=>?_) (fun hb=>?_)
 ·refine T.seq ?_
  refine T.region ?_
  refine RS.op rfl (OP.q rfl (Jzb (v:=.nils) rfl ?_))
  refine RS.nil ?_
  refine T.ret ?_
  refine Vob (v:=.nils) rfl ?_
  refine J1b ?_
  have h0:p0=[]:=List.map_eq_nil_iff.1 (hz hb)
  exact Q1c (.ref 0) [(0,115,3)] [0] (by decide) (Qma _) rfl (Jha rfl) (Zia (en:=Qca) (ys:=[]) rfl Jia (by rw [← hr,h0]) (Qfa)) ⟨rfl,rfl⟩
 ·refine T.skip ?_
  refine T.seq ?_
  refine T.region ?_
  refine RS.op rfl (Q9a (rows:=List.map Qca []) (vs:=[]) Ty.s52 Ty.z115 rfl rfl rfl rfl rfl (aw':=[.arr 115 3 (List.map Qca [])]) rfl ?_)
  refine RS.op rfl (OP.q rfl (Vqc (v:=.sl (List.map Qca p0)) rfl ?_))
  refine RS.op rfl (Voa (en:=Qca) (xs:=([]:List Item)) (ys:=p0) (r:=r) Ty.s52 (fun _=>rfl) rfl rfl rfl h rfl (aw':=[.dead,.arr 115 3 (List.map Qca r)]) rfl ?_)
  refine RS.op rfl (OP.q rfl (Jzb (v:=.ref 1) rfl ?_))
  refine RS.nil ?_
  refine T.ret ?_
  refine Vob (v:=.ref 1) rfl ?_
  refine J1b ?_
  exact Q1c (.ref 0) [] [1] (by decide) (Qma _) rfl (Jha rfl) (Zia rfl Jia rfl (Qfa)) ⟨rfl,rfl⟩
theorem Qib (p0:List Item) (r:Item × (List Item) × Int) (h:J8c p0=some r):FnO Tryz.prog 87 [sL Qca p0] (.tup [.agg (Qca r.1),.ref 0,iI r.2.2]) [aR 115 3 Qca r.2.1]:=by
 unfold J8c at h
 refine fnT 0 Tryz.func87 Tryz.ntmps87 ?_
 refine T.seq (T.region (go 3 0 (RS.nil (T.seq (T.seq (T.region (go 1 1 (sQ (Qia Ty.s52 rfl (go 1 1 ?_))))))))))
 refine RS.nil (T.ci h rfl (fun hb_1 h=>?_) (fun hb_1 h=>?_))
 ·refine T.seq (T.region (go 4 1 (RS.nil ?_)))
  cases h
  exact tO [(1,115,3)] [1] 1
 refine T.skip (T.seq (T.seq (T.region (go 1 1 (sQ (Qia Ty.s52 rfl (go 1 1 (RS.nil (T.ci h rfl (fun hb_2 h=>?_) (fun hb_2 h=>?_))))))))))
 ·refine T.seq (T.region (go 4 1 (RS.nil ?_)))
  cases h
  exact tO [(1,115,3)] [1] 1
 refine T.skip (T.seq ?_)
 obtain ⟨x4,hx4,h⟩:=bind_some h
 obtain ⟨x5,hx5,h⟩:=bind_some h
 obtain ⟨x6,hx6,h⟩:=bind_some h
 refine T.drawn mixed (k:=9) rfl ?_
 apply RA.jn 3 #[true,true,true,true,true,true,false,false,false];intro hS3
 ·refine rq [0] 8 (r0 1 rfl (Qka Ty.s52 (fun _=>rfl) rfl rfl hx4 (rq [3] 6 (r0 4 rfl (Qoc Ty.s52 (fun _=>rfl) rfl rfl rfl hx5 (ra2 2 5 ?_ ?_))))))
  ·refine og 1 ⟨rfl,(ra1 5 (oO rfl (cO 1 (Yza x5 x6 hx6) ⟨rfl,?_⟩)))⟩
   exact raE hS3
  ·refine oO rfl (cO 1 (Yza x5 x6 hx6) ⟨rfl,(ra1 2 (og 2 ⟨rfl,?_⟩))⟩)
   exact raT hS3
 refine ra1 6 (og 2 ⟨rfl,(rq [7,8] 0 (RA.done (by decide +kernel) ?_))⟩)
 cases h
 exact tO [] [1] 2
end Go.Proofs.YtchmpaaofmihcaaGreat
namespace Go.Proofs.YtchmpaaofmihcaaGreat
open Go.RowKit
set_option linter.unusedVariables false
set_option linter.unusedSimpArgs false
section
variable {P:Program} {N n:Nat} {aw aw':List Ob} {l:List (Nat × AV)} {σ:List Value} {w:World} {F:Nat→Prop}
theorem Mv.lose (id:Nat):Mv aw σ w F (aw.set id .dead) σ w F :=
 ⟨rfl,rfl,rfl,Nat.le_refl _,fun _ _ _=>rfl,fun _ _ h=>h,fun _ h=>h,fun _ h=>.inl h,fun _ hb=>.inl hb.set_dead⟩
theorem Sim.take (h:Sim aw σ w F) (o:Ob) (v:Value) (ho:ORel (σ++[v]) w F o v) (hn:∀ b,Bk o v b→¬ Dof aw σ b):Sim (aw++[o]) (σ++[v]) w F :=
 h.push2 o v (fun _ _=>rfl) (Nat.le_refl _) ho hn
theorem Mv.take {aw0:List Ob} {σ0:List Value} (h:Sim aw σ w F) (m:Mv aw0 σ0 w F aw σ w F) (o:Ob) (v:Value) (hb:∀ b,Bk o v b→Dof aw0 σ0 b):Mv aw0 σ0 w F (aw++[o]) (σ++[v]) w F:=by
 refine ⟨rfl,rfl,rfl,Nat.le_refl _,fun _ _ _=>rfl,fun i u hu=>Jhb (m.pre i u hu),fun _ h=>h,fun _ h=>.inl h,fun b hb1=>?_⟩
 obtain ⟨k,o1,v1,ho1,hl,hv1,hb2⟩:=hb1
 rcases Z3b ho1 with h1 | ⟨rfl,rfl⟩
 ·have hlt:=(List.getElem?_eq_some_iff.1 h1).1
  rw [List.getElem?_append_left (by rw [h.len];exact hlt)] at hv1
  exact m.own b ⟨k,o1,v1,h1,hl,hv1,hb2⟩
 ·rw [← h.len] at hv1
  simp at hv1
  subst hv1
  exact .inl (hb b hb2)
end
end Go.Proofs.YtchmpaaofmihcaaGreat
namespace Go.Proofs.YtchmpaaofmihcaaGreat
open Go.RowKit
set_option linter.unusedVariables false
set_option linter.unusedSimpArgs false
def PanX (P:Program) (V:Value) (f:FuncId) (args:List AV) (aw:List Ob):Prop :=
 (∀ vs w,(callFunc f vs).run P w=.ok (.enter f vs) w) ∧
 ∀ w F σ vs,Sim aw σ w F→RelL σ w F args vs→Calls P f vs.toArray w fun e w'=>∃ σ' F',e=.panicked [{ v:=V,recovered:=false }]∧Sim (aw.map fun _=>Ob.dead) σ' w' F'∧Mv aw σ w F (aw.map fun _=>Ob.dead) σ' w' F'
section
variable {P:Program} {V:Value} {N n:Nat} {fr:List AV} {aw aw':List Ob} {l:List (Nat × AV)}
structure PP (P:Program) (V:Value) (N:Nat) (o:Oper) (fr:List AV) (aw:List Ob) (Kp:List AV→List Ob→Prop):Prop where
 out:∀ st:St,st.aw.length=N→st.σ.length=st.aw.length→∀ σ w F a,Cur st fr aw σ w F a→∀ (Kc:Act→World→Prop) (Q:Exit→Act→World→Prop),
  (∀ aw' σ' w' F',Kp fr aw'→Cur st fr aw' σ' w' F' a→Q (.panic [{ v:=V,recovered:=false }]) a w')→o.wp P a w Kc Q
theorem Qff {o:Oper} {a:Act} {next next':Act→World→Prop} {Q Q':Exit→Act→World→Prop} (hn:∀ a w,next a w→next' a w) (hp:∀ ch a w,Q (.panic ch) a w→Q' (.panic ch) a w) (hl:LetsOut Q→LetsOut Q') :
  ∀ r,o.upon P a next Q r→o.upon P a next' Q' r:=by
 intro r h
 unfold Oper.upon at h ⊢
 split at h
 ·exact hn _ _ h
 ·exact hn _ _ h
 ·exact hn _ _ h
 ·refine Calls.mono h ?_
  intro e w he
  cases e with
  | returned v=>exact hn _ _ he
  | panicked ch=>exact hp _ _ _ he
  | outgrown=>exact hl he
 ·exact Rows.mono h fun v w hv=>hn _ _ hv
 ·exact hp _ _ _ h
 ·exact h.elim
def thenL (P:Program) (ops:Array Oper) (rest:List Oper) (Q:Exit→Act→World→Prop):Exit→Act→World→Prop
 | .normal,a,w=>wpList P ops Q rest a w
 | e,a,w=>Q e a w
theorem Q0c {ops:Array Oper} {Q:Exit→Act→World→Prop} {rest:List Oper}:∀ (pre:List Oper) (a:Act) (w:World),wpList P ops (thenL P ops rest Q) pre a w→wpList P ops Q (pre++rest) a w
 | [],a,w,h=>h
 | o::pre,a,w,h=>by
  rw [List.cons_append]
  unfold wpList at h ⊢
  split at h
  ·rename_i hw
   rw [if_pos hw]
   rcases h with h | ⟨h1,h2⟩
   ·exact .inl (Qff (fun a w h=>Q0c pre a w h) (fun _ _ _ h=>h) (fun h=>h) _ h)
   ·exact .inr ⟨h1,h2⟩
  ·rename_i hw
   rw [if_neg hw]
   exact Q0c pre _ w h
theorem T.regionP {id:Nat} {ops:Array Oper} {Q:Exit→List AV→List Ob→Prop} {pre rest:List Oper} {o:Oper} (ho:ops.toList=pre++o::rest) (hg:o.guard=none)
  (h:RS P N ops pre (fun fr aw=>PP P V N o fr aw (Q (.panic [{ v:=V,recovered:=false }]))) fr aw):T P N (.region id ops false) Q fr aw :=
 ⟨fun st h1 h2 σ w F a hc=>by
  refine wp_region_list ?_
  rw [ho]
  refine Q0c _ _ _ (h.out st h1 h2 σ w F a hc _ fun fr aw σ w F a hc hK=>?_)
  show wpList P ops _ (o::rest) a w
  unfold wpList
  rw [if_pos (by simp [Region.wanted,hg])]
  exact .inl (hK.out st h1 h2 σ w F a hc _ _ fun aw' σ' w' F' hKp hcur=>⟨fr,aw',σ',F',hKp,hcur⟩)⟩
theorem PP.call {d:Option Tmp} {ty:TypeId} {ps:String} {af:Array Edge} {g:Option (Nat × Bool)} {Kp:List AV→List Ob→Prop} {f:Operand} {args:Array Operand} {ts:Array TypeId} {h:FuncId} {caps ac as0:List AV} {aw0 aw2:List Ob} {n0:Nat} (ρ:List Nat) (hn0:aw.length=n0)
  (hf:evA n l f=.func h caps) (ha:args.toList.map (evA n l)++caps=ac) (hnd:ρ.Nodup) (hW:RenW ρ aw ρ aw0) (hA:RenL ρ as0 ac) (hC:PanX P V h as0 aw0) (hlen:aw2.length+ρ.length=n0+aw0.length)
  (hB:BackW (backM ρ n0 aw0.length) ρ aw (aw0.map fun _=>Ob.dead) 0 aw2) (hK:Kp (mkA n l) aw2):PP P V N ⟨d,.call ⟨.value f,args,ts⟩,ty,ps,af,g⟩ (mkA n l) aw Kp :=
 ⟨fun st h1 h2 σ w F a hc Kc Q hk=>by
  subst hn0
  have hfv:=hc.fr.ev f
  rw [Jea,hf] at hfv
  generalize hvf:a.eval f=vf at hfv
  cases hfv with
  | func _ _ cvs hl hcs =>
   have hargs:RelL σ w F ac (args.toList.map a.eval++cvs):=by
    rw [← ha]
    have:=Yeb hc.fr args.toList
    rw [show args.toList.map (ev (mkA n l))=args.toList.map (evA n l) from List.map_congr_left fun x _=>Jea n l x] at this
    exact this.append ⟨hl,hcs⟩
   obtain ⟨hlW,hgW⟩:=V9b hW
   obtain ⟨σ0',hσ',hs0',hd0'⟩:=Ywb hc.sim hnd hW
   have hl0:σ0'.length=ρ.length:=by rw [hs0'.len,hlW]
   have hr0:RelL σ0' w F as0 (args.toList.map a.eval++cvs):=Qyb hA hargs hσ'
   have hrun:(execOp a.eval ⟨d,.call ⟨.value f,args,ts⟩,ty,ps,af,g⟩).run P w=.ok (.enter h (args.toList.map a.eval++cvs).toArray) w:=by
    have e:args.map a.eval++cvs.toArray=(args.toList.map a.eval++cvs).toArray:=by
     obtain ⟨l⟩:=args
     simp
    simp only [execOp,resolve,Deferred.ofValue,hvf,Sem.run_bind,Sem.run_pure,Result.andThen_ok,invoke,Array.empty_append,e,hC.1]
   unfold Oper.wp
   rw [hrun]
   refine (hC.2 w F σ0' _ hs0' hr0).mono ?_
   rintro e w' ⟨σ1,F',rfl,hs1,hm⟩
   obtain ⟨σ2,s2,m2,hσ2⟩:=Qwc (aw2:=aw2) hc.sim hnd hW hσ' hl0 hs0' hd0' hs1 hm (by rw [List.length_map];exact hlen) (by rw [List.length_map];exact hB)
   exact hk aw2 σ2 w' F' hK (hc.step s2 m2)⟩
theorem PP.callb {d:Option Tmp} {ty:TypeId} {ps:String} {af:Array Edge} {g:Option (Nat × Bool)} {Kp:List AV→List Ob→Prop} {f:Operand} {args:Array Operand} {ts:Array TypeId} {h:FuncId} {caps ac as0:List AV} {aw0 aw2:List Ob} {n0:Nat} (ρ:List Nat) (hn0:aw.length=n0)
  (hf:evA n l f=.bnd h caps) (ha:caps++args.toList.map (evA n l)=ac) (hnd:ρ.Nodup) (hW:RenW ρ aw ρ aw0) (hA:RenL ρ as0 ac) (hC:PanX P V h as0 aw0) (hlen:aw2.length+ρ.length=n0+aw0.length)
  (hB:BackW (backM ρ n0 aw0.length) ρ aw (aw0.map fun _=>Ob.dead) 0 aw2) (hK:Kp (mkA n l) aw2):PP P V N ⟨d,.call ⟨.value f,args,ts⟩,ty,ps,af,g⟩ (mkA n l) aw Kp :=
 ⟨fun st h1 h2 σ w F a hc Kc Q hk=>by
  subst hn0
  have hfv:=hc.fr.ev f
  rw [Jea,hf] at hfv
  generalize hvf:a.eval f=vf at hfv
  cases hfv with
  | bnd _ _ cvs hl hcs =>
   have hargs:RelL σ w F ac (cvs++args.toList.map a.eval):=by
    rw [← ha]
    have:=Yeb hc.fr args.toList
    rw [show args.toList.map (ev (mkA n l))=args.toList.map (evA n l) from List.map_congr_left fun x _=>Jea n l x] at this
    exact RelL.append ⟨hl,hcs⟩ this
   obtain ⟨hlW,hgW⟩:=V9b hW
   obtain ⟨σ0',hσ',hs0',hd0'⟩:=Ywb hc.sim hnd hW
   have hl0:σ0'.length=ρ.length:=by rw [hs0'.len,hlW]
   have hr0:RelL σ0' w F as0 (cvs++args.toList.map a.eval):=Qyb hA hargs hσ'
   have hrun:(execOp a.eval ⟨d,.call ⟨.value f,args,ts⟩,ty,ps,af,g⟩).run P w=.ok (.enter h (cvs++args.toList.map a.eval).toArray) w:=by
    have e:cvs.toArray++args.map a.eval++#[]=(cvs++args.toList.map a.eval).toArray:=by
     obtain ⟨l⟩:=args
     simp
    simp only [execOp,resolve,Deferred.ofValue,hvf,Sem.run_bind,Sem.run_pure,Result.andThen_ok,invoke,e,hC.1]
   unfold Oper.wp
   rw [hrun]
   refine (hC.2 w F σ0' _ hs0' hr0).mono ?_
   rintro e w' ⟨σ1,F',rfl,hs1,hm⟩
   obtain ⟨σ2,s2,m2,hσ2⟩:=Qwc (aw2:=aw2) hc.sim hnd hW hσ' hl0 hs0' hd0' hs1 hm (by rw [List.length_map];exact hlen) (by rw [List.length_map];exact hB)
   exact hk aw2 σ2 w' F' hK (hc.step s2 m2)⟩
def panQ (V:Value):Exit→List AV→List Ob→Prop
 | .panic ch,_,_=>ch=[{ v:=V,recovered:=false }]
 | _,_,_=>False
theorem V6d {ρ:List Nat} {aw0:List Ob}:∀ (ids:List Nat) (aw:List Ob),ids.length=aw.length→(∀ id,id∈ids→id<aw0.length)→RenW ρ aw0 ids (aw.map fun _=>Ob.dead)
 | [],[],_,_=>trivial
 | [],_::_,h,_=>by simp at h
 | _::_,[],h,_=>by simp at h
 | id::ids,o::aw,h,hi=>⟨⟨_,List.getElem?_eq_getElem (hi id List.mem_cons_self),trivial⟩,V6d ids aw (by simpa using h) fun j hj=>hi j (List.mem_cons_of_mem _ hj)⟩
theorem V7e {f:FuncId} {fn:Func} {c:Code} {args:List AV} {aw:List Ob} {m N:Nat} (hN:aw.length=N) (hf:P.funcs[f]?=some fn) (hb:fn.body=some c) (hname:(fn.name == "runtime.NumGoroutine")=false) (hm:fn.ntmps=m) (hl:Nat.ble args.length m=true)
  (h:T P N c (panQ V) (mkA m (initA 0 args)) aw):PanX P V f args aw:=by
 subst hm hN
 refine ⟨callable hf (by rw [hb];rfl) hname,fun w F σ vs hs hr=>?_⟩
 have hc:Cur ⟨aw,σ,w,F,[]⟩ (args++List.replicate (fn.ntmps - args.length) .any) aw σ w F { tmps:=vs.toArray++Array.replicate (fn.ntmps - vs.toArray.size) undef,defers:=[] }:=by
  refine ⟨hs,⟨?_,trivial⟩,.refl ..,rfl⟩
  have h2:RelL σ w F (List.replicate (fn.ntmps - args.length) .any) (List.replicate (fn.ntmps - vs.length) undef) :=
   ⟨by simp [hr.1],fun j x v hx hv=>by rw [List.eq_of_mem_replicate (List.mem_of_getElem? hx)];exact .any v⟩
  simpa using hr.append h2
 rw [Z0d _ _ (Nat.le_of_ble_eq_true hl)] at hc
 refine calls_of_wp hf hb (wp_mono (h.out ⟨aw,σ,w,F,[]⟩ rfl hs.len σ w F _ hc) ?_)
 rintro e a' w' ⟨fr',aw',σ',F',hq,hcur⟩
 cases e with
 | panic ch =>
  have hq:ch=_:=hq
  subst hq
  have hlen:aw.length≤aw'.length:=by
   have h1:=hcur.sim.len
   have h2:=hcur.mv.pre
   have h3:=hs.len
   by_cases h0:aw.length=0
   ·omega
   ·have:=(List.getElem?_eq_some_iff.1 (h2 (aw.length - 1) _ (List.getElem?_eq_getElem (by show _<σ.length;omega)))).1
    omega
  obtain ⟨σ2,hσ,s2,hd⟩:=Ywb (aw':=aw.map fun _=>Ob.dead) (ρ:=List.range aw.length) hcur.sim List.nodup_range (V6d _ _ (by simp) fun id hid=>by have:=List.mem_range.1 hid;omega)
  exact ⟨hcur.ds,σ2,F',rfl,s2,Mv.ren (st:=⟨aw,σ,w,F,[]⟩) hs.len hcur.mv (fun k hk=>by rw [List.getElem?_range hk]) hσ hd⟩
 | normal=>exact hq.elim
 | ret=>exact hq.elim
 | exit id=>exact hq.elim
 | goto l=>exact hq.elim
 | outgrown=>exact hq.elim
end
end Go.Proofs.YtchmpaaofmihcaaGreat
namespace Go.Proofs.YtchmpaaofmihcaaGreat
open Go.RowKit
set_option linter.unusedVariables false
set_option linter.unusedSimpArgs false
section
variable {P:Program} {N n:Nat} {σ:List Value} {w:World} {F:Nat→Prop} {aw aw':List Ob} {l:List (Nat × AV)} {K2:AV→List Ob→Prop} {d:Option Tmp} {ty:TypeId} {ps:String} {af:Array Edge} {g:Option (Nat × Bool)}
theorem sim_upd {id:Nat} {o o':Ob} {v:Value} (h:Sim aw σ w F) (ho:aw[id]?=some o) (hl:o.live=true) (hv:σ[id]?=some v) (hr:ORel σ w F o' v) (hb:∀ b,Bk o' v b→Bk o v b) :
  Sim (aw.set id o') σ w F∧∀ b,Dof (aw.set id o') σ b→Dof aw σ b:=by
 have old:∀ (k:Nat) p u b,(aw.set id o')[k]?=some p→p.live=true→σ[k]?=some u→Bk p u b→∃ q,aw[k]?=some q∧q.live=true∧Bk q u b:=fun k p u b hp hpl hu hbk=>by
  rcases Jsb hp with ⟨rfl,rfl,_⟩ | ⟨_,h2⟩
  ·rw [hv] at hu;cases hu;exact ⟨o,ho,hl,hb b hbk⟩
  ·exact ⟨p,h2,hpl,hbk⟩
 refine ⟨⟨by rw [List.length_set];exact h.len,fun k p u hp hu=>?_,fun k k' p p' u u' b hne hp hp' hpl hpl' hu hu' hbk hbk'=>?_,h.lt⟩,fun b hd=>?_⟩
 ·rcases Jsb hp with ⟨rfl,rfl,_⟩ | ⟨_,h2⟩
  ·rw [hv] at hu;cases hu;exact hr
  ·exact h.obj k p u h2 hu
 ·obtain ⟨q,h1,h2,h3⟩:=old k p u b hp hpl hu hbk
  obtain ⟨q',h1',h2',h3'⟩:=old k' p' u' b hp' hpl' hu' hbk'
  exact h.sep k k' q q' u u' b hne h1 h1' h2 h2' hu hu' h3 h3'
 ·obtain ⟨k,p,u,hp,hpl,hu,hbk⟩:=hd
  obtain ⟨q,h1,h2,h3⟩:=old k p u b hp hpl hu hbk
  exact ⟨k,q,u,h1,h2,hu,h3⟩
theorem mv_upd {aw0 aw2:List Ob} {σ0:List Value} {w0:World} {F0:Nat→Prop} (h:Mv aw0 σ0 w0 F0 aw σ w F) (hd:∀ b,Dof aw2 σ b→Dof aw σ b):Mv aw0 σ0 w0 F0 aw2 σ w F :=
 ⟨h.os,h.tape,h.output,h.size,h.keep,h.pre,h.sub,h.sup,fun b hb=>h.own b (hd b hb)⟩
def unB:Ob→Ob
 | .boxB _ cs=>.box cs
 | o=>o
theorem Jde (o:Ob):(unB o).live=o.live:=by cases o<;>rfl
theorem Vzf {o:Ob} {v:Value} {b:Nat}:Bk (unB o) v b ↔ Bk o v b:=by cases o<;>exact Iff.rfl
theorem sim_unB (h:Sim aw σ w F):Sim (aw.map unB) σ w F:=by
 have old:∀ (k:Nat) p,(aw.map unB)[k]?=some p→∃ q,aw[k]?=some q∧p=unB q:=fun k p hp=>by
  rw [List.getElem?_map] at hp
  obtain ⟨q,h1,h2⟩:=Option.map_eq_some_iff.1 hp
  exact ⟨q,h1,h2.symm⟩
 refine ⟨by rw [List.length_map];exact h.len,fun k p u hp hu=>?_,fun k k' p p' u u' b hne hp hp' hpl hpl' hu hu' hbk hbk'=>?_,h.lt⟩
 ·obtain ⟨q,h1,rfl⟩:=old k p hp
  have hr:=h.obj k q u h1 hu
  cases q with
  | boxB t cs =>
   obtain ⟨g,vs,e1,hg,hr1,h11,hf⟩:=hr
   exact ⟨g,vs,t,e1,hg,hr1,h11,hf⟩
  | _=>exact hr
 ·obtain ⟨q,h1,rfl⟩:=old k p hp
  obtain ⟨q',h1',rfl⟩:=old k' p' hp'
  exact h.sep k k' q q' u u' b hne h1 h1' (by rw [← Jde];exact hpl) (by rw [← Jde];exact hpl') hu hu' (Vzf.1 hbk) (Vzf.1 hbk')
theorem OP.qB {o:Oper} (hq:∀ K:AV→Prop,vcQ P (mkA n l) (aw.map unB) o.op K→∀ σ w F a,ARel σ w F (mkA n l) a→Sim (aw.map unB) σ w F→∃ v r,(execOp a.eval o).run P w=.ok (.value v) w∧Rel σ w F r v∧K r)
  (h:vcQ P (mkA n l) (aw.map unB) o.op fun r=>K2 r aw):OP P N o (mkA n l) aw K2 :=
 OP.of_ok fun σ w F a ha hs=>by
  obtain ⟨v,r,h1,h2,h3⟩:=hq _ h σ w F a ha (sim_unB hs)
  exact ⟨v,_,w,aw,σ,F,r,h1,.inl rfl,hs,.refl _ _ _ _,h2,h3⟩
theorem OP.qB' {o:Oper} (h:vcQ P (mkA n l) (aw.map unB) o.op fun r=>K2 r aw):OP P N o (mkA n l) aw K2 :=
 OP.qB (fun K hK σ w F a ha hs=>by
  obtain ⟨v,r,h1,h2,h3⟩:=Jtf ha hs o hK
  exact ⟨v,r,h1 w (fun _ _=>rfl),h2,h3⟩) h
theorem J4f {t:TypeId} {x y:Operand} {id off T:Nat} {cs vs:List AV} (hx:evA n l x=.ptr id off) (hob:aw[id]?=some (.boxB T cs)) (hvs:(evA n l y).cells=some vs) {du:TypeDesc} (hsome:P.underlying t=some du) (hlen:vs.length=P.cellsOf t) (hfit:off+vs.length≤cs.length)
  (haw:aw.set id (.boxB T (splice cs off vs))=aw') (h:K2 .any aw'):OP P N ⟨d,.store t x y,ty,ps,af,g⟩ (mkA n l) aw K2 :=
 OP.of_ok fun σ w F a ha hs=>by
  subst haw
  have hex:=ha.ev x
  rw [Jea,hx] at hex
  obtain ⟨hr,h1⟩:=(ha.ev y).cells (by rw [Jea];exact hvs)
  generalize hv:a.eval x=vx at hex
  cases hex with
  | ptr _ _ gg hσ =>
   obtain ⟨g',cur,e1,hg,hcr,hc1,hF⟩:=hs.obj id _ _ hob hσ
   injection e1 with e1
   injection e1 with e1
   injection e1 with e1
   subst e1
   have hcl:cur.size=cs.length:=by simpa using hcr.1
   have hul:(a.eval y).cells.toList.length=vs.length:=hr.1
   have hst:=run_storeCells_at P gg off T (a.eval y).cells.toList 0 cur w hg (by rw [hul];omega) h1
   have hk:∀ b,b≠gg→(w.setRow gg (Yka cur.toList off (a.eval y).cells.toList).toArray).heap[b]?=w.heap[b]?:=fun b hb=>setRow_other w gg b _ hb
   have hself:Sim (aw.set id (.boxB T (splice cs off vs))) σ (w.setRow gg (Yka cur.toList off (a.eval y).cells.toList).toArray) F:=by
    refine hs.write (b0:=gg) id hob rfl hσ rfl hk (by simp) (.boxB T (splice cs off vs)) ⟨gg,_,rfl,setRow_heap w gg cur _ T (0,0) hg,?_,?_,hF⟩ (fun _ h=>h)
    ·have:=(hcr.splice off hr).mono (σ':=σ) (w':=w.setRow gg (Yka cur.toList off (a.eval y).cells.toList).toArray) (F':=F) (fun _ _ e=>e) (fun _ e=>e) (fun b hb=>hk b (fun e=>hF (e▸hb)))
     simpa using this
    ·intro u hu
     exact Zec (fun u hu=>hc1 u (Array.mem_def.2 hu)) h1 u (by simpa using hu)
   refine ⟨undef,_,_,_,σ,F,.any,?_,.inr ⟨rfl,rfl⟩,hself,Mv.write (w:=w) (F:=F) (w':=w.setRow gg _) (b0:=gg) id hob rfl hσ rfl rfl rfl rfl hk (by simp) (.boxB T (splice cs off vs)) (fun _ h=>h),.any _,h⟩
   have hsz:(a.eval y).cells.size=P.cellsOf t:=by simp at hul;omega
   simp only [Nat.add_zero] at hst
   simp [execOp,hv,Instr.storeAt,Instr.sureAddr,storeVar,Sem.run_bind,Zya hsome,hsz,hst,Yka]
theorem o_boxW {t e z k:Nat} {x:Operand} (hx:(evA n l x).cells=some [.nilp,.nils]) (hk:aw.length=k) (haw:aw++[.boxB t [.np k,.ref (k+1)],.arr e z []]=aw') (h:K2 (.ptr k 0) aw'):OP P N ⟨d,.box t x,ty,ps,af,g⟩ (mkA n l) aw K2 :=
 OP.of_ok fun σ w F a ha hs=>by
  subst hk haw
  obtain ⟨hrx,h1x⟩:=(ha.ev x).cells (by rw [Jea];exact hx)
  obtain ⟨s1,m1,r1⟩:=Zld hs [.nilp,.nils] (a.eval x).cells t hrx h1x
  obtain ⟨s2,m2,r2⟩:=Yoc e z s1
  have hlen:=hs.len
  have hσ:(σ++[Value.pointer (some ⟨w.heap.size,0,none⟩)]++[Value.slice none 0 0])[aw.length]?=some (Value.pointer (some ⟨w.heap.size,0,none⟩)):=by simp [← hlen]
  have hσ2:(σ++[Value.pointer (some ⟨w.heap.size,0,none⟩)]++[Value.slice none 0 0])[aw.length+1]?=some (Value.slice none 0 0):=by simp [← hlen]
  have hid:(aw++[Ob.box [.nilp,.nils]]++[Ob.arr e z []])[aw.length]?=some (Ob.box [.nilp,.nils]):=by simp
  obtain ⟨gq,vs,tyq,e1,hg,hcr,hc1,hF⟩:=s2.obj _ _ _ hid hσ
  injection e1 with e1
  injection e1 with e1
  injection e1 with e1
  subst e1
  have hty:(w.alloc (.cells (a.eval x).cells t)).heap[w.heap.size]?=some (.cells (a.eval x).cells t (0,0)):=by
   show (w.heap.push _)[w.heap.size]?=_
   simp
  rw [hty] at hg
  cases hg
  have hnew:RelL (σ++[Value.pointer (some ⟨w.heap.size,0,none⟩)]++[Value.slice none 0 0]) (w.alloc (.cells (a.eval x).cells t)) F [.np aw.length,.ref (aw.length+1)] (a.eval x).cells.toList:=by
   obtain ⟨hl2,hc⟩:=hcr
   refine ⟨hl2,fun j x u hx hu=>?_⟩
   match j,hx with
   | 0,hx =>
    cases hx
    have:=hc 0 _ u rfl hu
    cases this
    exact .np0 _
   | 1,hx =>
    cases hx
    have:=hc 1 _ u rfl hu
    cases this
    exact .ref _ _ _ _ hσ2
  obtain ⟨s3,hd3⟩:=sim_upd s2 hid rfl hσ (o':=.boxB t [.np aw.length,.ref (aw.length+1)]) ⟨_,_,rfl,hty,hnew,hc1,hF⟩ (fun _ h=>h)
  have e3:(aw++[Ob.box [.nilp,.nils]]++[Ob.arr e z []]).set aw.length (.boxB t [.np aw.length,.ref (aw.length+1)])=aw++[.boxB t [.np aw.length,.ref (aw.length+1)],.arr e z []]:=by simp
  rw [e3] at s3 hd3
  refine ⟨_,_,_,_,_,F,.ptr aw.length 0,?_,.inl rfl,s3,mv_upd (m1.trans m2) hd3,.ptr _ _ _ hσ,h⟩
  simp [execOp,Instr.box,Sem.run_bind,newVar,newRow]
theorem T.mvBB {T0:Nat} {c:Code} {Q:Exit→List AV→List Ob→Prop} {fr:List AV} (b j id:Nat) {e s n0:Nat} {rows:List (List AV)} {cs cs':List AV} (hb:aw[b]?=some (.boxB T0 cs)) (hj:cs[j]?=some (.ref id)) (ho:aw[id]?=some (.arr e s rows)) (hn:aw.length=n0) (hc:cs.set j (.ref n0)=cs') (ha:(aw.set id .dead).set b (.boxB T0 cs')++[.arr e s rows]=aw') (h:T P N c Q fr aw'):T P N c Q fr aw :=
 ⟨fun st h1 h2 σ w F a hcur=>by
  subst hc ha hn
  have hbl:b<aw.length:=(List.getElem?_eq_some_iff.1 hb).1
  have hbσ:∃ vb,σ[b]?=some vb:=⟨_,List.getElem?_eq_getElem (by rw [hcur.sim.len];exact hbl)⟩
  obtain ⟨vb,hvb⟩:=hbσ
  obtain ⟨g,vs,rfl,hg,hcr,h1c,hf⟩:=hcur.sim.obj b _ vb hb hvb
  obtain ⟨u,hu,hru⟩:=hcr.get hj
  cases hru with
  | ref _ A m c2 hgσ =>
   obtain ⟨s1,m1⟩:=Y1d hcur.sim ho hgσ
   have hbid:b≠id:=by rintro rfl;rw [hb] at ho;cases ho
   have hb1:(aw.set id .dead++[.arr e s rows])[b]?=some (.boxB T0 cs):=by
    rw [List.getElem?_append_left (by simpa using hbl),List.getElem?_set,if_neg (fun e=>hbid e.symm)];exact hb
   have hnew:ORel (σ++[.slice A m c2]) w F (.boxB T0 (cs.set j (.ref aw.length))) (.pointer (some ⟨g,0,none⟩)):=by
    refine ⟨g,vs,rfl,hg,?_,h1c,hf⟩
    have hcr1:=m1.relL hcur.sim hcr
    have:=hcr1.set j (Rel.ref (σ:=σ++[.slice A m c2]) (w:=w) (F:=F) aw.length A m c2 (by rw [← hcur.sim.len];simp))
    have e2:vs.toList.set j (.slice A m c2)=vs.toList:=by
     obtain ⟨hlt2,hvs⟩:=List.getElem?_eq_some_iff.1 hu
     rw [← hvs];exact List.set_getElem_self hlt2
    rwa [e2] at this
   have hvb1:(σ++[.slice A m c2])[b]?=some (.pointer (some ⟨g,0,none⟩)):=Jhb hvb
   have hset:(aw.set id .dead).set b (.boxB T0 (cs.set j (.ref aw.length)))++[Ob.arr e s rows]=(aw.set id .dead++[Ob.arr e s rows]).set b (.boxB T0 (cs.set j (.ref aw.length))):=by
    rw [List.set_append_left _ _ (by simpa using hbl)]
   rw [hset] at h
   have s2:=s1.write (b0:=g) b hb1 rfl hvb1 rfl (fun _ _=>rfl) rfl _ hnew (fun _ h=>h)
   have m2:=Mv.write (w:=w) (w':=w) (F:=F) (b0:=g) b hb1 rfl hvb1 rfl rfl rfl rfl (fun _ _=>rfl) rfl (.boxB T0 (cs.set j (.ref aw.length))) (fun _ h=>h)
   exact h.out st h1 h2 _ w F a ⟨s2,m2.aRel s1 (m1.aRel hcur.sim hcur.fr),(hcur.mv.trans m1).trans m2,hcur.ds⟩⟩
theorem Y3c:Pure .nili:=fun σ w F v h σ'=>by cases h;exact .nili
theorem Zqa {ρ:List Nat} {ids:List Nat} {id t:Nat} {cs ds:List AV} (h:aw[id]?=some (.boxB t ds)) (hr:RenL ρ cs ds) (tl:RenW ρ aw ids aw'):RenW ρ aw (id::ids) (.boxB t cs::aw'):=⟨⟨_,h,rfl,hr⟩,tl⟩
theorem Yia {m:List (Nat × Nat)} {t:Nat} {cs ds:List AV} (h:RenLM m cs ds):RenOM m (.boxB t cs) (.boxB t ds):=⟨rfl,h⟩
theorem Q5e {t id off T:Nat} {x:Operand} {cs:List AV} (hx:evA n l x=.ptr id off) (ho:aw[id]?=some (.boxB T cs)) (h:Via P t cs off fun r=>K2 r aw):OP P N ⟨d,.load t x,ty,ps,af,g⟩ (mkA n l) aw K2 :=
 OP.qB' (by
  have ho':(aw.map unB)[id]?=some (.box cs):=by rw [List.getElem?_map,ho];rfl
  simp only [vcQ,Jea,hx,ho']
  exact h)
end
end Go.Proofs.YtchmpaaofmihcaaGreat
namespace Go.Proofs.YtchmpaaofmihcaaGreat
open Go.RowKit
set_option linter.unusedVariables false
set_option linter.unusedSimpArgs false
def Idle (P:Program) (d:Deferred):Prop:=∃ fv cap f args,d.target=.fn fv cap∧(∀ w,(invoke d.target d.args).run P w=.ok (.enter f args) w) ∧
 ∀ w,CallsD P f args .returning w fun e u' w'=>(∃ v,e=.returned v)∧u'=.returning∧w'=w
def IdleF (P:Program) (g:FuncId) (k:Nat):Prop:=∀ cvs:List Value,cvs.length=k→Idle P ⟨.fn (.func g) cvs.toArray,#[]⟩
section
variable {P:Program} {N n:Nat} {fr:List AV} {aw:List Ob} {l:List (Nat × AV)} {Q:Exit→List AV→List Ob→Prop}
def CQD (P:Program) (st:St) (Q:Exit→List AV→List Ob→Prop) (e:Exit) (a:Act) (w:World):Prop:=CQ st Q e a w∨∃ d,Idle P d∧CQ { st with ds:=[d] } Q e a w
structure TD (P:Program) (N:Nat) (c:Code) (Q:Exit→List AV→List Ob→Prop) (fr:List AV) (aw:List Ob):Prop where
 out:∀ st:St,st.aw.length=N→st.σ.length=st.aw.length→st.ds=[]→∀ σ w F a,Cur st fr aw σ w F a→c.wp P (CQD P st Q) a w
theorem TD.seq {x y:Code} (h:T P N x (thenA (TD P N y Q) Q) fr aw):TD P N (.seq x y) Q fr aw :=
 ⟨fun st h1 h2 h3 σ w F a hc=>wp_seq (wp_mono (h.out st h1 h2 σ w F a hc) (by
  rintro e a' w' ⟨fr',aw',σ',F',hq,hcur⟩
  cases e with
  | normal=>exact TD.out hq st h1 h2 h3 σ' w' F' a' hcur
  | _=>exact .inl ⟨fr',aw',σ',F',hq,hcur⟩))⟩
theorem TD.defer {id:Nat} {ops:Array Oper} {y:Code} {ty:TypeId} {ps:String} {af:Array Edge} {f:Operand} {ts:Array TypeId} (i:Nat) (ho:ops.toList.drop i=[⟨none,.defer ⟨.value f,#[],ts⟩,ty,ps,af,none⟩])
  (h:RS P N ops (ops.toList.take i) (fun fr aw=>∃ l caps g,fr=mkA n l∧evA n l f=.func g caps∧IdleF P g caps.length∧T P N y Q (mkA n l) aw) fr aw):TD P N (.seq (.region id ops false) y) Q fr aw :=
 ⟨fun st h1 h2 h3 σ w F a hc=>by
  refine wp_seq (wp_region_list ?_)
  rw [← List.take_append_drop i ops.toList,ho]
  refine Q0c _ _ _ (h.out st h1 h2 σ w F a hc _ fun fr aw σ w F a hc hK=>?_)
  obtain ⟨l,caps,g,rfl,hf,hI,hT⟩:=hK
  show wpList P ops _ (_::[]) a w
  unfold wpList
  rw [if_pos (by simp [Region.wanted])]
  refine .inl ?_
  have hfv:=hc.fr.ev f
  rw [Jea,hf] at hfv
  generalize hvf:a.eval f=vf at hfv
  cases hfv with
  | func _ _ cvs hl hcs =>
   have hrun:(execOp a.eval ⟨none,.defer ⟨.value f,#[],ts⟩,ty,ps,af,none⟩).run P w=.ok (.defer ⟨.fn (.func g) cvs.toArray,#[]⟩) w:=by
    simp [execOp,resolve,Deferred.ofValue,hvf,Sem.run_bind]
   unfold Oper.wp
   rw [hrun,Oper.upon_defer]
   show wpList P ops _ [] _ w
   unfold wpList
   refine wp_mono (hT.out { st with ds:=[⟨.fn (.func g) cvs.toArray,#[]⟩] } h1 h2 σ w F _ ?_) fun _ _ _ h=>.inr ⟨_,hI cvs hl,h⟩
   refine ⟨hc.sim,hc.fr,hc.mv,?_⟩
   have hds:=hc.ds
   rw [h3] at hds
   show _::a.defers=_
   rw [hds]⟩
end
end Go.Proofs.YtchmpaaofmihcaaGreat
namespace Go.Proofs.YtchmpaaofmihcaaGreat
open Go.RowKit
set_option maxRecDepth 100000
set_option maxHeartbeats 4000000
theorem cc_used (b:Nat) (w:World) (h0:w.cell? ⟨b,0,none⟩=some (.pointer (some ⟨b,0,none⟩))) :
  Calls Tryz.prog 93 #[.pointer (some ⟨b,0,none⟩)] w fun e w'=>e=.returned (.tuple #[])∧w'=w:=by
 obtain ⟨j,hj,hjs⟩:=Option.map_eq_some_iff.1 (show (Tryz.prog.info? 83).map (·.size)=some 2 by kernel_rfl)
 go_enter Tryz.func93,Tryz.ntmps93
 go_wp2
 rw [Lib.run_neq_ptr_same w _ Tryz.underlying81 hj]
 go_wp2
 go_end0
 exact ⟨rfl,rfl⟩
theorem Z7f (b:Nat) (w:World) (h0:w.cell? ⟨b,0,none⟩=some (.pointer none)) (hsh:w.shape? b=some (85,2)) (hfz:w.frozen? ⟨b,0,none⟩=false) :
  Calls Tryz.prog 93 #[.pointer (some ⟨b,0,none⟩)] w fun e w'=>e=.returned (.tuple #[])∧w'=w.setCell ⟨b,0,none⟩ (.pointer (some ⟨b,0,none⟩)):=by
 obtain ⟨j,hj,hjs⟩:=Option.map_eq_some_iff.1 (show (Tryz.prog.info? 83).map (·.size)=some 2 by kernel_rfl)
 go_enter Tryz.func93,Tryz.ntmps93
 go_wp2
 rw [Lib.run_to_unsafe w ⟨b,0,none⟩ Tryz.underlying81 Tryz.underlying180 hj (by rw [hjs];decide) hsh (Nat.zero_lt_succ 1)]
 simp only [Result.andThen]
 rw [Oper.upon_value]
 go_wp2
 rw [run_callFunc_extern Tryz.func105 (by kernel_rfl) (by kernel_rfl) (by kernel_rfl) (e:=Extern.AbiNoEscape.same) (by kernel_rfl)]
 rw [Lib.run_noEscape]
 simp only [Result.andThen]
 rw [Oper.upon_value]
 go_wp2
 rw [Lib.run_from_unsafe w ⟨b,0,none⟩ Tryz.underlying180 Tryz.underlying81 hj hsh (by kernel_rfl)]
 simp only [Result.andThen]
 rw [Oper.upon_value]
 go_wp2
 go_end0
 exact ⟨rfl,rfl⟩
theorem Yed (rows:List (List AV)):FnX Tryz.prog 93 [.ptr 0 0] [.boxB 85 [.np 0,.ref 1],.arr 5 1 rows] (.tup []) [.boxB 85 [.np 0,.ref 1],.arr 5 1 rows]:=by
 refine ⟨callable Tryz.func93 rfl (by kernel_rfl),fun w F σ vs hs hr=>?_⟩
 match vs,hr with
 | [v0],hr =>
  have r0:Rel σ w F (.ptr 0 0) v0:=hr.2 0 _ v0 rfl rfl
  cases r0 with
  | ptr _ _ g hσ =>
  obtain ⟨g',us,e1,hg,hcr,hc1,hF⟩:=hs.obj 0 _ _ rfl hσ
  injection e1 with e1
  injection e1 with e1
  injection e1 with e1
  subst e1
  have hlen:us.size=2:=by simpa using hcr.1
  obtain ⟨p,hp,hrp⟩:=hcr.get (j:=0) (a:=.np 0) rfl
  have hp':us[0]?=some p:=by simpa using hp
  have hcell:w.cell? ⟨g,0,none⟩=some p:=by
   rw [World.cell?]
   simp [hg,hp']
  cases hrp with
  | np0 _ =>
   have hsh:w.shape? g=some (85,2):=by simp [World.shape?,hg,hlen]
   have hfz:w.frozen? ⟨g,0,none⟩=false:=by simp [World.frozen?,hg]
   refine (Z7f g w hcell hsh hfz).mono ?_
   rintro e w' ⟨rfl,rfl⟩
   have hk:∀ b,b≠g→(w.setCell ⟨g,0,none⟩ (.pointer (some ⟨g,0,none⟩))).heap[b]?=w.heap[b]?:=fun b hb=>by
    have:¬ g=b:=fun e=>hb e.symm
    rw [Go.Sort.setCell_eq]
    simp [Go.Sort.mapBlock,Array.getElem?_modify,this]
   have hsz:(w.setCell ⟨g,0,none⟩ (.pointer (some ⟨g,0,none⟩))).heap.size=w.heap.size:=by
    rw [Go.Sort.setCell_eq]
    simp [Go.Sort.mapBlock]
   have hg':(w.setCell ⟨g,0,none⟩ (.pointer (some ⟨g,0,none⟩))).heap[g]?=some (.cells (us.setIfInBounds 0 (.pointer (some ⟨g,0,none⟩))) 85 (0,0)):=by
    rw [Go.Sort.setCell_eq]
    simp [Go.Sort.mapBlock,Array.getElem?_modify,hg,Go.Sort.onCells]
   have hnew:RelL σ (w.setCell ⟨g,0,none⟩ (.pointer (some ⟨g,0,none⟩))) F [.np 0,.ref 1] (us.setIfInBounds 0 (.pointer (some ⟨g,0,none⟩))).toList:=by
    refine ⟨by simp [hlen],fun j x u hx hu=>?_⟩
    match j,hx with
    | 0,hx =>
     cases hx
     simp [hlen] at hu
     subst hu
     exact .npS 0 g hσ
    | 1,hx =>
     cases hx
     have hu2:us[1]?=some u:=by simpa using hu
     have:=hcr.2 1 _ u rfl (by simpa using hu2)
     cases this with
     | ref _ A q cp h9=>exact .ref 1 A q cp h9
   have hone:∀ u,u∈us.setIfInBounds 0 (.pointer (some ⟨g,0,none⟩))→u.oneCell'=true:=fun u hu=>by
    rcases Array.mem_or_eq_of_mem_setIfInBounds hu with h | h
    ·exact hc1 u h
    ·subst h;rfl
   have s1:=hs.write (b0:=g) 0 rfl rfl hσ rfl hk hsz (.boxB 85 [.np 0,.ref 1]) ⟨g,_,rfl,hg',hnew,hone,hF⟩ (fun _ h=>h)
   have m1:Mv [.boxB 85 [.np 0,.ref 1],.arr 5 1 rows] σ w F ([Ob.boxB 85 [.np 0,.ref 1],.arr 5 1 rows].set 0 (.boxB 85 [.np 0,.ref 1])) σ (w.setCell ⟨g,0,none⟩ (.pointer (some ⟨g,0,none⟩))) F :=
    Mv.write (aw:=[.boxB 85 [.np 0,.ref 1],.arr 5 1 rows]) (w:=w) (w':=w.setCell ⟨g,0,none⟩ (.pointer (some ⟨g,0,none⟩))) (F:=F) (o:=.boxB 85 [.np 0,.ref 1]) (b0:=g) 0 rfl rfl hσ rfl rfl rfl rfl hk hsz (.boxB 85 [.np 0,.ref 1]) (fun _ h=>h)
   exact ⟨_,_,_,σ,F,rfl,⟨rfl,rfl⟩,s1,Vvb,m1⟩
  | npS _ g2 h2 =>
   rw [hσ] at h2
   cases h2
   refine (cc_used g w hcell).mono ?_
   rintro e w' ⟨rfl,rfl⟩
   exact ⟨_,_,_,σ,F,rfl,⟨rfl,rfl⟩,hs,Vvb,.refl _ _ _ _⟩
theorem S_some (b g cap:Nat) (cur:Array Value) (l:List UInt8) (w:World) (c0:w.cell? ⟨b,1,none⟩=some (.slice (some ⟨g,0,none⟩) l.length cap)) (h0:l≠[]) (hg:w.heap[g]?=some (.cells cur 5 (0,0))) (hnc:l.length≤cap) (hcm:cap≤maxLen) (hcs:cur.size=cap)
  (hx:∀ (j:Nat) x,l[j]?=some x→w.cell? ⟨g,j,none⟩=some (.int .u8 x.toNat)) :
  Calls Tryz.prog 39 #[.pointer (some ⟨b,0,none⟩)] w fun e w'=>e=.returned (.string ⟨l.toArray⟩)∧w'=w.drew.freeze ⟨g,0,none⟩ l.length:=by
 have hl0:l.length≠0:=by simpa using h0
 have c1:w.drew.cell? ⟨b,1,none⟩=some (.slice (some ⟨g,0,none⟩) l.length cap):=c0
 have hSD:(Builtin.unsafeSliceData_ #[35] 144 #[.slice (some ⟨g,0,none⟩) l.length cap]).run Tryz.prog w.drew=.ok (.pointer (some ⟨g,0,none⟩)) w.drew :=
  Lib.run_unsafeSliceData_row _ _ _ _ _ _ (by omega)
 have hUS:(Builtin.unsafeString_ #[144,3] 9 #[.pointer (some ⟨g,0,none⟩),.int .i64 l.length]).run Tryz.prog w.drew=.ok (.string ⟨l.toArray⟩) (w.drew.freeze ⟨g,0,none⟩ l.length):=by
  refine Lib.run_unsafeString_row w.drew 144 3 9 5 Tryz.underlying144 (by kernel_rfl) g cur.size (by have hg':w.drew.heap[g]?=some (.cells cur 5 (0,0)):=hg;simp [World.shape?,hg']) l h0 (by omega) (by unfold maxLen at hcm;omega) ?_
  intro j x hj
  show w.cell? _=_
  have e:(⟨g,0,none⟩:Addr).add j=⟨g,j,none⟩:=by
   unfold Addr.add
   simp
   intro h;exact h.symm
  rw [e]
  exact hx j x hj
 have mixed:=mixed
 clear c0 hx hg
 go_enter Tryz.func39,Tryz.ntmps39
 go_wp2
 go_region_o
 all_goals (go_wp2;go_ret;exact ⟨rfl,rfl⟩)
theorem V5f {σ:List Value} {w:World} {F:Nat→Prop}:∀ (xs:List Int) (flat:List Value),RelL σ w F (xs.map enc8).flatten flat→flat=xs.map fun n=>Value.int .u8 n
 | [],flat,h=>List.eq_nil_of_length_eq_zero h.1
 | x::xs,flat,h=>by
  match flat,h with
  | [],h=>exact absurd h.1 (by simp [enc8])
  | a::r,h =>
   have h1:Rel σ w F (.int .u8 x) a:=h.2 0 _ a rfl rfl
   have h3:=V5f xs r ⟨by have:=h.1;simp [enc8] at this ⊢;omega,fun j y v hy hv=>h.2 (j+1) y v (by simpa [enc8] using hy) (by simpa using hv)⟩
   cases h1
   rw [h3];rfl
theorem Qsf (xs:List Int) (r:List UInt8) (h:bldS xs=some r):FnX Tryz.prog 39 [.ptr 0 0] [.boxB 85 [.np 0,.ref 1],.arr 5 1 (List.map enc8 xs)] (.str r) [.dead,.dead]:=by
 unfold bldS at h
 split at h
 rotate_left
 ·cases h
 rename_i hc
 cases h
 refine ⟨callable Tryz.func39 rfl (by kernel_rfl),fun w F σ vs hs hr=>?_⟩
 match vs,hr with
 | [v0],hr =>
  have r0:Rel σ w F (.ptr 0 0) v0:=hr.2 0 _ v0 rfl rfl
  cases r0 with
  | ptr _ _ b hσ =>
  obtain ⟨b',us,e1,hb,hcr,hc1,hF⟩:=hs.obj 0 _ _ rfl hσ
  injection e1 with e1
  injection e1 with e1
  injection e1 with e1
  subst e1
  have hlen:us.size=2:=by simpa using hcr.1
  obtain ⟨p,hp,hrp⟩:=hcr.get (j:=1) (a:=.ref 1) rfl
  have hp':us[1]?=some p:=by simpa using hp
  have hcell:w.cell? ⟨b,1,none⟩=some p:=by
   rw [World.cell?]
   simp [hb,hp']
  cases hrp with
  | ref _ A q cp hσ1 =>
  obtain ⟨hq,flat,hown,hfl,hcase⟩:=Zib hs (id:=1) rfl hσ1
  rw [List.length_map] at hq
  subst hq
  rcases hcase with hcase | ⟨g,cur,rfl,hFa,hga,hnc,hcm,hsz,htk⟩
  ·exact absurd (List.map_eq_nil_iff.1 hcase) hc.1
  ·have hflat:=V5f xs flat hfl.2.2
   have hlt:(toStr xs).length=xs.length:=by simp [toStr]
   have hx:∀ (j:Nat) x,(toStr xs)[j]?=some x→w.cell? ⟨g,j,none⟩=some (.int .u8 x.toNat):=fun j x hj=>by
    have hj2:j<xs.length:=by rw [← hlt];exact (List.getElem?_eq_some_iff.1 hj).1
    have h1:cur.toList[j]?=some (.int .u8 xs[j]):=by
     have:(cur.toList.take (xs.length*1))[j]?=flat[j]?:=by rw [htk]
     rw [List.getElem?_take,if_pos (by omega),hflat] at this
     rw [this]
     simp [hj2]
    have h2:x=UInt8.ofNat (xs[j]).toNat:=by
     unfold toStr at hj
     rw [List.getElem?_map,List.getElem?_eq_getElem hj2] at hj
     exact (Option.some.inj hj).symm
    have h3:=hc.2 xs[j] (List.getElem_mem hj2)
    have h4:((UInt8.ofNat (xs[j]).toNat).toNat:Int)=xs[j]:=by
     rw [UInt8.toNat_ofNat',Nat.mod_eq_of_lt (by omega)]
     omega
    rw [World.cell?]
    rw [h2,h4]
    have h5:cur[j]?=some (.int .u8 xs[j]):=by simpa using h1
    simp [hga,h5]
   have hne:toStr xs≠[]:=fun e=>hc.1 (List.eq_nil_of_length_eq_zero (by rw [← hlt,e];rfl))
   have hS:=S_some b g cp cur (toStr xs) w (by rw [hlt];exact hcell) hne hga (by rw [hlt];exact hnc) hcm (by omega) hx
   refine hS.mono ?_
   rintro e w' ⟨rfl,rfl⟩
   have hn0:(toStr xs).length≠0:=by simpa using hne
   have hfz:∀ k,k≠g→(w.drew.freeze ⟨g,0,none⟩ (toStr xs).length).heap[k]?=w.heap[k]?:=fun k hk=>by
    have:¬ g=k:=fun e=>hk e.symm
    unfold World.freeze
    rw [if_neg hn0]
    show (w.heap.modify g _)[k]?=_
    rw [Array.getElem?_modify,if_neg this]
   have hsize:(w.drew.freeze ⟨g,0,none⟩ (toStr xs).length).heap.size=w.heap.size:=by
    unfold World.freeze
    rw [if_neg hn0]
    show (w.heap.modify g _).size=_
    simp
   have hD:Dof [Ob.boxB 85 [.np 0,.ref 1],.arr 5 1 (List.map enc8 xs)] σ g:=⟨1,_,_,rfl,rfl,hσ1,rfl⟩
   refine ⟨_,_,_,σ,F,rfl,⟨rfl,rfl⟩,⟨by have:=hs.len;simpa using this,fun k o v ho hv=>?_,fun k k' o o' v v' gg hne ho ho' hl=>?_,fun k hk=>by rw [hsize];exact hs.lt k hk⟩,.str _,⟨by unfold World.freeze;rw [if_neg hn0];rfl,by unfold World.freeze;rw [if_neg hn0];rfl,by unfold World.freeze;rw [if_neg hn0];rfl,Nat.le_of_eq hsize.symm,fun k hk hd=>hfz k (fun e=>hd (e▸hD)),fun _ _ h=>h,fun _ h=>h,fun _ h=>.inl h,fun k hd=>?_⟩⟩
   ·match k,ho with
    | 0,ho=>cases ho;trivial
    | 1,ho=>cases ho;trivial
   ·match k,ho with
    | 0,ho=>cases ho;cases hl
    | 1,ho=>cases ho;cases hl
   ·obtain ⟨j,o,v,ho,hl,_⟩:=hd
    match j,ho with
    | 0,ho=>cases ho;cases hl
    | 1,ho=>cases ho;cases hl
end Go.Proofs.YtchmpaaofmihcaaGreat
