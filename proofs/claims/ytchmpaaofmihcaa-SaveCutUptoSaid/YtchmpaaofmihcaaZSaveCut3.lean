/-
  Part 3 of the proof of saveCutLaw.proved: the code computes these functions, and the law holds of them, with no condition beyond the statement's own; put together by a program of ours (wip/decl.py) out of texts of ours.
-/
import Derived.Test.YtchmpaaofmihcaaZSaveCut2
namespace Go.Proofs.Ytchmpaaofmihcaa
open Go.RowKit
set_option linter.unusedVariables false
set_option linter.unusedSimpArgs false
instance (a:Item):PureCs (Qaa a):=⟨Jba a⟩
instance (a:Node):PureCs (Jda a):=⟨encNode_p a⟩
instance (a:Net):PureCs (Jca a):=⟨encNet_p a⟩
instance (a:Keyed):PureCs (Qla a):=⟨Yba a⟩
instance (a:Memory):PureCs (Qba a):=⟨J7a a⟩
instance (a:Choice):PureCs (Qea a):=⟨J6a a⟩
instance (a:State):PureCs (Qra a):=⟨encState_p a⟩
instance (a:Move):PureCs (Zda a):=⟨encMove_p a⟩
instance (a:Write):PureCs (Jka a):=⟨Q9b a⟩
instance (a:Disk):PureCs (Q3a a):=⟨encDisk_p a⟩
instance (a:Shop):PureCs (encShop a):=⟨encShop_p a⟩
instance (a:Happening):PureCs (Y6a a):=⟨encHappening_p a⟩
instance (a:Ends):PureCs (Q7a a):=⟨encEnds_p a⟩
instance {f:FuncId} {cs:List AV} [h:PureCs cs]:PureC (.func f cs):=⟨pure_func _ _ h.out⟩
instance {α:Type} {en:α→List AV} {a:α} {off:Nat} [h:EnP en]:PureC (.elt (en a) off):=⟨pure_elt _ _ (h.out a)⟩
class EnF {α:Type} (en:α→List AV):Prop where
  out:∀ a,(en a).all flat0=true
instance:EnF encI:=⟨fun _=>rfl⟩
instance:EnF enc8:=⟨fun _=>rfl⟩
instance:EnF encU:=⟨fun _=>rfl⟩
instance:EnF encB:=⟨fun _=>rfl⟩
instance:EnF encS:=⟨fun _=>rfl⟩
instance:EnF Qaa:=⟨fun _=>rfl⟩
instance:EnF Qla:=⟨fun _=>rfl⟩
instance:EnF Qea:=⟨fun _=>rfl⟩
instance:EnF Zda:=⟨fun _=>rfl⟩
instance:EnF Jka:=⟨fun _=>rfl⟩
instance:EnF Y6a:=⟨fun _=>rfl⟩
instance:EnF Q7a:=⟨fun _=>rfl⟩
class FlatObs (os:List Ob):Prop where
  out:os.all flatOb=true
instance:FlatObs []:=⟨rfl⟩
instance {α:Type} {en:α→List AV} {xs:List α} {e s:Nat} {os:List Ob} [h:EnF en] [t:FlatObs os]:FlatObs (.arr e s (xs.map en)::os):=⟨obs_cons (flatOb_map h.out) t.out⟩
class OwnV (v:AV):Prop where
  out:(∃ k,v=.ref k)∨∃ vs,v=.tup vs∧∀ x,x∈vs→Pure x∨∃ k,x=.ref k
class OwnVs (vs:List AV):Prop where
  out:∀ x,x∈vs→Pure x∨∃ k,x=.ref k
instance:OwnVs []:=⟨fun x h=>by cases h⟩
instance {k:Nat} {vs:List AV} [t:OwnVs vs]:OwnVs (.ref k::vs):=⟨fun x h=>by
  cases h with
  | head=>exact .inr ⟨_,rfl⟩
  | tail _ h=>exact t.out x h⟩
instance (priority:=low) {v:AV} {vs:List AV} [h:PureC v] [t:OwnVs vs]:OwnVs (v::vs):=⟨fun x hx=>by
  cases hx with
  | head=>exact .inl h.out
  | tail _ hx=>exact t.out x hx⟩
instance {k:Nat}:OwnV (.ref k):=⟨.inl ⟨_,rfl⟩⟩
instance {vs:List AV} [h:OwnVs vs]:OwnV (.tup vs):=⟨.inr ⟨_,rfl,h.out⟩⟩
theorem pures_of:∀ {es:List AV},(∀ a,a∈es→Pure a)→Pures es
  | [],_=>trivial
  | a::es,h=>⟨h a (.head _),pures_of fun b hb=>h b (.tail _ hb)⟩
section
variable {P:Program} {N n:Nat} {aw aw':List Ob} {l:List (Nat × AV)} {tt:TT}
def appC {α:Type}:List α→List α→(List α→Prop)→Prop
  | [],bs,K=>K bs
  | a::l,bs,K=>appC l bs fun l=>K (a::l)
theorem appC_ok {α:Type}:∀ {l bs:List α} {K:List α→Prop},appC l bs K→K (l++bs)
  | [],_,_,h=>h
  | a::l,bs,K,h=>appC_ok (l:=l) (K:=fun l=>K (a::l)) h
def nrm0C (aw:List Ob) (a:AV) (K:AV→List Ob→Prop):Prop :=
  match a with
  | .nils=>K (.sl []) aw
  | .ref id=>getC aw id fun o=>(match o with
    | .arr _ _ rows=>setC aw id .dead fun aw=>K (.sl rows) aw
    | _=>False)
  | a=>fA a fun a=>K a aw
theorem nrm0C_ok {a:AV} {K:AV→List Ob→Prop} (h:nrm0C aw a K):K (norm0 aw a).1 (norm0 aw a).2:=by
  cases a with
  | nils=>exact h
  | ref id =>
    obtain ⟨o,h1,h⟩:=Zva h
    split at h
    · have:=setC_ok h
      simpa only [norm0,h1] using this
    · exact h.elim
  | _=>exact h
def nrm0LC:List AV→List Ob→(List AV→List Ob→Prop)→Prop
  | [],aw,K=>K [] aw
  | a::es,aw,K=>nrm0C aw a fun a aw=>nrm0LC es aw fun es aw=>K (a::es) aw
theorem nrm0LC_ok:∀ {es:List AV} {aw:List Ob} {K:List AV→List Ob→Prop},nrm0LC es aw K→K (norm0L aw es).1 (norm0L aw es).2
  | [],aw,K,h=>h
  | a::es,aw,K,h=>nrm0LC_ok (es:=es) (K:=fun es aw=>K (_::es) aw) (nrm0C_ok h)
def nrmC (aw:List Ob) (a:AV) (K:AV→List Ob→Prop):Prop :=
  match a with
  | .agg cs=>nrm0LC cs aw fun cs aw=>K (.agg cs) aw
  | a=>nrm0C aw a K
theorem nrmC_ok {a:AV} {K:AV→List Ob→Prop} (h:nrmC aw a K):K (norm aw a).1 (norm aw a).2:=by
  cases a with
  | agg cs=>exact nrm0LC_ok (K:=fun cs aw=>K (.agg cs) aw) h
  | _=>exact nrm0C_ok h
def nrmLC:List AV→List Ob→(List AV→List Ob→Prop)→Prop
  | [],aw,K=>K [] aw
  | a::es,aw,K=>nrmC aw a fun a aw=>nrmLC es aw fun es aw=>K (a::es) aw
theorem nrmLC_ok:∀ {es:List AV} {aw:List Ob} {K:List AV→List Ob→Prop},nrmLC es aw K→K (normL aw es).1 (normL aw es).2
  | [],aw,K,h=>h
  | a::es,aw,K,h=>nrmLC_ok (es:=es) (K:=fun es aw=>K (_::es) aw) (nrmC_ok h)
def nrmRC (aw:List Ob) (a:AV) (K:AV→List Ob→Prop):Prop :=
  match a with
  | .tup vs=>nrmLC vs aw fun vs aw=>K (.tup vs) aw
  | a=>nrmC aw a K
theorem nrmRC_ok {a:AV} {K:AV→List Ob→Prop} (h:nrmRC aw a K):K (normR aw a).1 (normR aw a).2:=by
  cases a with
  | tup vs=>exact nrmLC_ok (K:=fun vs aw=>K (.tup vs) aw) h
  | _=>exact nrmC_ok h
def argC (n:Nat) (l:List (Nat × AV)):List Operand→List Ob→(List AV→List Ob→Prop)→Prop
  | [],aw,K=>K [] aw
  | x::xs,aw,K=>nrmC aw (evA n l x) fun a aw=>argC n l xs aw fun es aw=>K (a::es) aw
theorem argC_ok:∀ {xs:List Operand} {aw:List Ob} {K:List AV→List Ob→Prop},argC n l xs aw K→K (normL aw (xs.map (evA n l))).1 (normL aw (xs.map (evA n l))).2
  | [],aw,K,h=>h
  | x::xs,aw,K,h=>argC_ok (xs:=xs) (K:=fun es aw=>K (_::es) aw) (nrmC_ok h)
def calC (n:Nat) (l:List (Nat × AV)) (aw:List Ob) (f:Operand) (args:List Operand) (g:Nat) (es:List AV) (K:List Ob→Prop):Prop :=
  match evA n l f with
  | .func g' caps=>(match Nat.beq g' g with
    | true=>argC n l args aw fun es' aw'=>es'++caps=es∧K aw'
    | false=>False)
  | _=>False
section
variable {d:Option Tmp} {ty:TypeId} {ps:String} {af:Array Edge} {gd:Option (Nat × Bool)} {K2:AV→List Ob→Prop} {f:Operand} {args:Array Operand} {ts:Array TypeId} {g:FuncId} {es:List AV} {v:AV} {obs:List Ob}
theorem calC_call {K:List Ob→Prop} (h:calC n l aw f args.toList g es K) (hk:∀ aw1,K aw1→CallK P g es aw aw1 K2):OP P N ⟨d,.call ⟨.value f,args,ts⟩,ty,ps,af,gd⟩ (mkA n l) aw K2:=by
  unfold calC at h
  split at h
  · rename_i g' caps hf
    split at h
    · rename_i hb
      have:=Nat.eq_of_beq_eq_true hb
      subst this
      obtain ⟨h1,h2⟩:=argC_ok h
      exact o_call hf rfl rfl (by rw [h1];exact hk _ h2)
    · exact h.elim
  · exact h.elim
theorem cD (hc:Fn P g es v) (h:calC n l aw f args.toList g es fun aw1=>K2 v aw1) [hp:PureCs es] [hv:PureC v]:OP P N ⟨d,.call ⟨.value f,args,ts⟩,ty,ps,af,gd⟩ (mkA n l) aw K2 :=
  calC_call h fun aw1 hK=>k_fn hc (pures_of hp.out) hv.out hK
theorem cF (hc:Fn P g es v) (h:calC n l aw f args.toList g es fun _=>K2 v aw) [hp:PureCs es] (hv:flat v=true:=by rfl):OP P N ⟨d,.call ⟨.value f,args,ts⟩,ty,ps,af,gd⟩ (mkA n l) aw K2 :=
  calC_call h fun aw1 hK=>k_flat hc (pures_of hp.out) hv hK
theorem cO (c:Nat) (hc:FnO P g es v obs) (h:calC n l aw f args.toList g es fun _=>fA (v.shift c) fun v=>appC aw obs fun aw=>K2 v aw) [hp:PureCs es] [ho:FlatObs obs] (hv:flatR v=true:=by rfl) (hl:aw.length=c:=by rfl) :
    OP P N ⟨d,.call ⟨.value f,args,ts⟩,ty,ps,af,gd⟩ (mkA n l) aw K2 :=
  calC_call h fun aw1 hK=>by subst hl;exact k_own hc (pures_of hp.out) hv ho.out (appC_ok (fA_ok (K:=fun v=>appC aw obs fun aw=>K2 v aw) hK))
theorem cQ {α:Type} {en:α→List AV} {xs:List α} {e s:Nat} (c:Nat) (hc:FnO P g es v [.arr e s (xs.map en)]) (h:calC n l aw f args.toList g es fun aw=>fA (v.shift c) fun v=>lenC aw c (appC aw [.arr e s (xs.map en)] fun aw=>K2 v aw)) [hp:PureCs es] [he:EnP en] [ho:OwnV v] :
    OP P N ⟨d,.call ⟨.value f,args,ts⟩,ty,ps,af,gd⟩ (mkA n l) aw K2 :=
  calC_call h fun aw1 hK=>by
    have h1:=fA_ok (K:=fun v=>lenC aw1 c (appC aw1 [.arr e s (xs.map en)] fun aw=>K2 v aw)) hK
    obtain ⟨h2,h3⟩:=lenC_ok h1
    subst h2
    exact k_own1' hc (pures_of hp.out) he.out ho.out rfl rfl (appC_ok h3)
end
theorem ld_ex {t:Nat} {i:TI} {row:List AV} {off:Nat} {K:AV→Prop} (ht:TOk P t i) (h:wLd i row off K):∃ v,K v∧∀ K':AV→Prop,K' v→Zpa P t row off K':=by
  have kA:∀ {m:Nat},kindT P t=some true→P.cellsOf t=m→(aggC row off m fun cs=>K (.agg cs))→∃ v,K v∧∀ K':AV→Prop,K' v→Zpa P t row off K':=fun {m} hk hm h=>by
    obtain ⟨h1,h2⟩:=aggC_ok h
    refine ⟨_,h2,fun K' hK'=>?_⟩
    simp only [Zpa,hk,hm]
    exact ⟨h1,hK'⟩
  have k1:kindT P t=some false→(getC row off fun c=>fA c K)→∃ v,K v∧∀ K':AV→Prop,K' v→Zpa P t row off K':=fun hk h=>by
    obtain ⟨c,h1,h2⟩:=Zva h
    exact ⟨c,fA_ok h2,fun K' hK'=>J3a hk h1 hK'⟩
  cases i with
  | no=>exact h.elim
  | ag z m fs=>exact kA ht.1.1 ht.1.2.1 h
  | ar z m=>exact kA ht.1 ht.2.1 h
  | s0=>exact k1 ht.1 h
  | _=>exact k1 ht.1.1 h
def resC (tt:TT) (n:Nat) (l:List (Nat × AV)) (aw:List Ob):List ResultVar→(List AV→Prop)→Prop
  | [],K=>K []
  | .tmp t::rs,K=>fA (evA n l (.tmp t)) fun v=>resC tt n l aw rs fun vs=>K (v::vs)
  | .cell a t::rs,K=>(match evA n l (.tmp a) with
    | .ptr id off=>getC aw id fun o=>(match o with
      | .box cs=>wLd (tt.get t) cs off fun v=>resC tt n l aw rs fun vs=>K (v::vs)
      | _=>False)
    | _=>False)
theorem resC_ok (ht:tt.Ok P):∀ {rs:List ResultVar} {K K':List AV→Prop},(∀ vs,K vs→K' vs)→resC tt n l aw rs K→vcRes P (mkA n l) aw rs K'
  | [],K,K',hm,h=>Qmb (hm _ h)
  | .tmp t::rs,K,K',hm,h=>res_tmpA rfl (resC_ok ht (K:=fun vs=>K (_::vs)) (fun vs hv=>hm _ hv) (fA_ok h))
  | .cell a t::rs,K,K',hm,h=>by
    unfold resC at h
    split at h
    · rename_i h1
      obtain ⟨o,h2,h⟩:=Zva h
      split at h
      · obtain ⟨v,h3,h4⟩:=ld_ex (TT.get_ok ht t) h
        exact res_cellA h1 h2 h4 (resC_ok ht (K:=fun vs=>K (v::vs)) (fun vs hv=>hm _ hv) h3)
      · exact h.elim
    · exact h.elim
theorem T.rD (ht:tt.Ok P) {Q:Exit→List AV→List Ob→Prop} {rs:List ResultVar} {V:AV} (h:resC tt n l aw rs fun vs=>nrmRC aw (retAV vs) fun v _=>v=V)
    [hq:RetI Q (fun fr aw=>vcRes P fr aw rs (Ret 0 (fun r aw'=>r=V∧aw'=[]) aw))] [hV:PureC V]:T P N .ret Q (mkA n l) aw:=by
  refine T.rt (R:=fun fr aw=>vcRes P fr aw rs (Ret 0 (fun r aw'=>r=V∧aw'=[]) aw)) (resC_ok ht (fun vs hv=>?_) h)
  have h1:=nrmRC_ok hv
  exact ret_data (v:=V) (aw1:=(normR aw (retAV vs)).2) (by rw [← h1]) hV.out ⟨rfl,rfl⟩
def gA:Nat→AV→Prop
  | k,a=>match a with
    | .sl rows=>Pure (.sl rows)
    | .elt row off=>Pure (.elt row off)
    | .cst _ | .vw _ _ _ _ _ | .ref2 _ | .aptr2 _ _ | .ifc _ _=>False
    | .agg cs=>(match k with
      | 0=>False
      | k+1=>∀ c,c∈cs→gA k c)
    | .tup cs=>(match k with
      | 0=>False
      | k+1=>∀ c,c∈cs→gA k c)
    | .func _ cs=>(match k with
      | 0=>False
      | k+1=>∀ c,c∈cs→gA k c)
    | .bnd _ cs=>(match k with
      | 0=>False
      | k+1=>∀ c,c∈cs→gA k c)
    | _=>True
class GoodA (k:Nat) (a:AV):Prop where
  out:gA k a
class GoodAs (k:Nat) (es:List AV):Prop where
  out:∀ a,a∈es→gA k a
section
variable {k:Nat}
instance:GoodA k .any:=⟨by unfold gA;trivial⟩
instance {q:IntKind} {x:Int}:GoodA k (.int q x):=⟨by unfold gA;trivial⟩
instance {b:Bool}:GoodA k (.bool b):=⟨by unfold gA;trivial⟩
instance {s:List UInt8}:GoodA k (.str s):=⟨by unfold gA;trivial⟩
instance:GoodA k .nils:=⟨by unfold gA;trivial⟩
instance:GoodA k .nilf:=⟨by unfold gA;trivial⟩
instance:GoodA k .nilp:=⟨by unfold gA;trivial⟩
instance:GoodA k .nili:=⟨by unfold gA;trivial⟩
instance {i:Nat}:GoodA k (.ref i):=⟨by unfold gA;trivial⟩
instance {i o:Nat}:GoodA k (.ptr i o):=⟨by unfold gA;trivial⟩
instance {i s j o:Nat}:GoodA k (.aptr i s j o):=⟨by unfold gA;trivial⟩
instance {i:Nat}:GoodA k (.mpr i):=⟨by unfold gA;trivial⟩
instance {i:Nat}:GoodA k (.np i):=⟨by unfold gA;trivial⟩
instance {i j:Nat}:GoodA k (.iref i j):=⟨by unfold gA;trivial⟩
instance {α:Type} {en:α→List AV} {xs:List α} [h:EnP en]:GoodA k (.sl (xs.map en)):=⟨by unfold gA;exact Qwa h.out _⟩
instance {α:Type} {en:α→List AV} {a:α} {off:Nat} [h:EnP en]:GoodA k (.elt (en a) off):=⟨by unfold gA;exact pure_elt _ _ (h.out a)⟩
instance:GoodAs k []:=⟨fun a h=>by cases h⟩
instance {a:AV} {es:List AV} [h:GoodA k a] [t:GoodAs k es]:GoodAs k (a::es):=⟨fun b hb=>by
  cases hb with
  | head=>exact h.out
  | tail _ hb=>exact t.out b hb⟩
instance {es:List AV} [h:GoodAs k es]:GoodA (k+1) (.agg es):=⟨by unfold gA;exact h.out⟩
instance {es:List AV} [h:GoodAs k es]:GoodA (k+1) (.tup es):=⟨by unfold gA;exact h.out⟩
instance {f:FuncId} {es:List AV} [h:GoodAs k es]:GoodA (k+1) (.func f es):=⟨by unfold gA;exact h.out⟩
instance {f:FuncId} {es:List AV} [h:GoodAs k es]:GoodA (k+1) (.bnd f es):=⟨by unfold gA;exact h.out⟩
instance (a:Item):GoodAs k (Qaa a):=by unfold Qaa;infer_instance
instance (a:Node):GoodAs k (Jda a):=by unfold Jda;infer_instance
instance (a:Net):GoodAs k (Jca a):=by unfold Jca;infer_instance
instance (a:Keyed):GoodAs k (Qla a):=by unfold Qla;infer_instance
instance (a:Memory):GoodAs k (Qba a):=by unfold Qba;infer_instance
instance (a:Choice):GoodAs k (Qea a):=by unfold Qea;infer_instance
instance (a:State):GoodAs k (Qra a):=by unfold Qra;infer_instance
instance (a:Move):GoodAs k (Zda a):=by unfold Zda;infer_instance
instance (a:Write):GoodAs k (Jka a):=by unfold Jka;infer_instance
instance (a:Disk):GoodAs k (Q3a a):=by unfold Q3a;infer_instance
instance (a:Shop):GoodAs k (encShop a):=by unfold encShop;infer_instance
instance (a:Happening):GoodAs k (Y6a a):=by unfold Y6a;infer_instance
instance (a:Ends):GoodAs k (Q7a a):=by unfold Q7a;infer_instance
end
theorem rnq_iref {ρ:List Nat} {k id i:Nat} (h:ρ[k]?=some id):Ren ρ (.iref k i) (.iref id i):=fun σ w F v hr σ' hσ=>by
  cases hr with
  | iref _ _ a n c vs hg h0=>exact .iref k i a n c vs (by rw [hσ k id h];exact hg) h0
theorem pureq_nilp:Pure .nilp:=fun σ w F v hr σ'=>by cases hr;exact .nilp
theorem pureq_nili:Pure .nili:=fun σ w F v hr σ'=>by cases hr;exact .nili
def mpC (f:AV→AV→(AV→Prop)→Prop):List AV→List AV→(List AV→Prop)→Prop
  | [],_,K=>K []
  | a'::es',es,K=>(match es with
    | []=>False
    | a::es=>f a' a fun b=>mpC f es' es fun bs=>K (b::bs))
def mpA (ρ:List Nat):Nat→AV→AV→(AV→Prop)→Prop
  | k,a',a,K=>match a' with
    | .any=>K a
    | .ref i=>getC ρ i fun i=>K (.ref i)
    | .ptr i o=>getC ρ i fun i=>K (.ptr i o)
    | .aptr i s j o=>getC ρ i fun i=>K (.aptr i s j o)
    | .mpr i=>getC ρ i fun i=>K (.mpr i)
    | .np i=>getC ρ i fun i=>K (.np i)
    | .iref i j=>getC ρ i fun i=>K (.iref i j)
    | .agg cs=>(match k with
      | 0=>False
      | k+1=>(match a with
        | .agg ds=>mpC (mpA ρ k) cs ds fun cs=>K (.agg cs)
        | _=>False))
    | .tup cs=>(match k with
      | 0=>False
      | k+1=>(match a with
        | .tup ds=>mpC (mpA ρ k) cs ds fun cs=>K (.tup cs)
        | _=>False))
    | .func f cs=>(match k with
      | 0=>False
      | k+1=>(match a with
        | .func _ ds=>mpC (mpA ρ k) cs ds fun cs=>K (.func f cs)
        | _=>False))
    | .bnd f cs=>(match k with
      | 0=>False
      | k+1=>(match a with
        | .bnd _ ds=>mpC (mpA ρ k) cs ds fun cs=>K (.bnd f cs)
        | _=>False))
    | a'=>fA a' K
theorem mpC_ok {ρ:List Nat} {k:Nat} (ih:∀ {a' a:AV} {K:AV→Prop},mpA ρ k a' a K→∃ b,K b∧(gA k a'→b=a→Ren ρ a' a)):∀ {es' es:List AV} {K:List AV→Prop},mpC (mpA ρ k) es' es K →
    ∃ bs,K bs∧((∀ a,a∈es'→gA k a)→bs=es→RenL ρ es' es)
  | [],es,K,h=>⟨[],h,fun _ e=>by subst e;trivial⟩
  | a'::es',[],K,h=>h.elim
  | a'::es',a::es,K,h=>by
    obtain ⟨b,h1,h2⟩:=ih h
    obtain ⟨bs,h3,h4⟩:=mpC_ok ih h1
    refine ⟨b::bs,h3,fun hg e=>?_⟩
    injection e with e1 e2
    exact ⟨h2 (hg _ (.head _)) e1,h4 (fun x hx=>hg x (.tail _ hx)) e2⟩
theorem mpA_ok {ρ:List Nat}:∀ {k:Nat} {a' a:AV} {K:AV→Prop},mpA ρ k a' a K→∃ b,K b∧(gA k a'→b=a→Ren ρ a' a):=by
  intro k
  induction k with
  | zero =>
    intro a' a K h
    cases a' with
    | any=>exact ⟨a,h,fun _ _=>rn_any⟩
    | ref i=>obtain ⟨j,h1,h2⟩:=Zva h;exact ⟨_,h2,fun _ e=>by subst e;exact Q6a h1⟩
    | ptr i o=>obtain ⟨j,h1,h2⟩:=Zva h;exact ⟨_,h2,fun _ e=>by subst e;exact Qma h1⟩
    | aptr i s j o=>obtain ⟨j,h1,h2⟩:=Zva h;exact ⟨_,h2,fun _ e=>by subst e;exact rn_aptr h1 rfl⟩
    | mpr i=>obtain ⟨j,h1,h2⟩:=Zva h;exact ⟨_,h2,fun _ e=>by subst e;exact rn_mpr h1⟩
    | np i=>obtain ⟨j,h1,h2⟩:=Zva h;exact ⟨_,h2,fun _ e=>by subst e;exact rn_np h1⟩
    | iref i j=>obtain ⟨j,h1,h2⟩:=Zva h;exact ⟨_,h2,fun _ e=>by subst e;exact rnq_iref h1⟩
    | agg cs=>exact h.elim
    | tup cs=>exact h.elim
    | func f cs=>exact h.elim
    | bnd f cs=>exact h.elim
    | int q x=>exact ⟨_,h,fun _ e=>by subst e;exact Yma (Qsa _ _)⟩
    | bool b=>exact ⟨_,h,fun _ e=>by subst e;exact Yma (Vfa _)⟩
    | str s=>exact ⟨_,h,fun _ e=>by subst e;exact Yma (Jfa _)⟩
    | nils=>exact ⟨_,h,fun _ e=>by subst e;exact Yma pure_nils⟩
    | nilf=>exact ⟨_,h,fun _ e=>by subst e;exact Yma pure_nilf⟩
    | nilp=>exact ⟨_,h,fun _ e=>by subst e;exact Yma pureq_nilp⟩
    | nili=>exact ⟨_,h,fun _ e=>by subst e;exact Yma pureq_nili⟩
    | sl rows=>exact ⟨_,h,fun g e=>by subst e;exact Yma (by unfold gA at g;exact g)⟩
    | elt row off=>exact ⟨_,h,fun g e=>by subst e;exact Yma (by unfold gA at g;exact g)⟩
    | cst v=>exact ⟨_,h,fun g e=>by unfold gA at g;exact g.elim⟩
    | vw a1 a2 a3 a4 a5=>exact ⟨_,h,fun g e=>by unfold gA at g;exact g.elim⟩
    | ref2 i=>exact ⟨_,h,fun g e=>by unfold gA at g;exact g.elim⟩
    | aptr2 i j=>exact ⟨_,h,fun g e=>by unfold gA at g;exact g.elim⟩
    | ifc t a1=>exact ⟨_,h,fun g e=>by unfold gA at g;exact g.elim⟩
  | succ k ih =>
    intro a' a K h
    cases a' with
    | any=>exact ⟨a,h,fun _ _=>rn_any⟩
    | ref i=>obtain ⟨j,h1,h2⟩:=Zva h;exact ⟨_,h2,fun _ e=>by subst e;exact Q6a h1⟩
    | ptr i o=>obtain ⟨j,h1,h2⟩:=Zva h;exact ⟨_,h2,fun _ e=>by subst e;exact Qma h1⟩
    | aptr i s j o=>obtain ⟨j,h1,h2⟩:=Zva h;exact ⟨_,h2,fun _ e=>by subst e;exact rn_aptr h1 rfl⟩
    | mpr i=>obtain ⟨j,h1,h2⟩:=Zva h;exact ⟨_,h2,fun _ e=>by subst e;exact rn_mpr h1⟩
    | np i=>obtain ⟨j,h1,h2⟩:=Zva h;exact ⟨_,h2,fun _ e=>by subst e;exact rn_np h1⟩
    | iref i j=>obtain ⟨j,h1,h2⟩:=Zva h;exact ⟨_,h2,fun _ e=>by subst e;exact rnq_iref h1⟩
    | agg cs =>
      cases a with
      | agg ds =>
        obtain ⟨bs,h1,h2⟩:=mpC_ok (ρ:=ρ) ih h
        exact ⟨_,h1,fun g e=>by injection e with e;exact rn_agg (h2 (by unfold gA at g;exact g) e)⟩
      | _=>exact h.elim
    | tup cs =>
      cases a with
      | tup ds =>
        obtain ⟨bs,h1,h2⟩:=mpC_ok (ρ:=ρ) ih h
        exact ⟨_,h1,fun g e=>by injection e with e;exact rn_tup (h2 (by unfold gA at g;exact g) e)⟩
      | _=>exact h.elim
    | func f cs =>
      cases a with
      | func f' ds =>
        obtain ⟨bs,h1,h2⟩:=mpC_ok (ρ:=ρ) ih h
        exact ⟨_,h1,fun g e=>by injection e with e0 e;subst e0;exact rn_func (h2 (by unfold gA at g;exact g) e)⟩
      | _=>exact h.elim
    | bnd f cs =>
      cases a with
      | bnd f' ds =>
        obtain ⟨bs,h1,h2⟩:=mpC_ok (ρ:=ρ) ih h
        exact ⟨_,h1,fun g e=>by injection e with e0 e;subst e0;exact rn_bnd (h2 (by unfold gA at g;exact g) e)⟩
      | _=>exact h.elim
    | int q x=>exact ⟨_,h,fun _ e=>by subst e;exact Yma (Qsa _ _)⟩
    | bool b=>exact ⟨_,h,fun _ e=>by subst e;exact Yma (Vfa _)⟩
    | str s=>exact ⟨_,h,fun _ e=>by subst e;exact Yma (Jfa _)⟩
    | nils=>exact ⟨_,h,fun _ e=>by subst e;exact Yma pure_nils⟩
    | nilf=>exact ⟨_,h,fun _ e=>by subst e;exact Yma pure_nilf⟩
    | nilp=>exact ⟨_,h,fun _ e=>by subst e;exact Yma pureq_nilp⟩
    | nili=>exact ⟨_,h,fun _ e=>by subst e;exact Yma pureq_nili⟩
    | sl rows=>exact ⟨_,h,fun g e=>by subst e;exact Yma (by unfold gA at g;exact g)⟩
    | elt row off=>exact ⟨_,h,fun g e=>by subst e;exact Yma (by unfold gA at g;exact g)⟩
    | cst v=>exact ⟨_,h,fun g e=>by unfold gA at g;exact g.elim⟩
    | vw a1 a2 a3 a4 a5=>exact ⟨_,h,fun g e=>by unfold gA at g;exact g.elim⟩
    | ref2 i=>exact ⟨_,h,fun g e=>by unfold gA at g;exact g.elim⟩
    | aptr2 i j=>exact ⟨_,h,fun g e=>by unfold gA at g;exact g.elim⟩
    | ifc t a1=>exact ⟨_,h,fun g e=>by unfold gA at g;exact g.elim⟩
def gO:Ob→Prop
  | .dead=>True
  | .box cs=>∀ c,c∈cs→gA 3 c
  | .arr _ _ rows=>∀ row,row∈rows→∀ x,x∈row→Pure x
  | .mp ks vs=>∀ c,c∈ks++vs→Pure c
  | .hd _ _=>True
  | .cl _ _ cells=>∀ rows,(Cell.own rows∈cells∨Cell.fz rows∈cells)→∀ row,row∈rows→∀ x,x∈row→Pure x
  | _=>False
class GoodO (o:Ob):Prop where
  out:gO o
class GoodOs (os:List Ob):Prop where
  out:∀ o,o∈os→gO o
instance:GoodO .dead:=⟨trivial⟩
instance {cs:List AV} [h:GoodAs 3 cs]:GoodO (.box cs):=⟨h.out⟩
instance {α:Type} {en:α→List AV} {xs:List α} {e s:Nat} [h:EnP en]:GoodO (.arr e s (xs.map en)):=⟨fun row hr x hx=>by obtain ⟨a,_,rfl⟩:=List.mem_map.1 hr;exact h.out a x hx⟩
instance {e s:Nat}:GoodO (.arr e s []):=⟨fun row hr=>by cases hr⟩
instance {e k:Nat}:GoodO (.hd e k):=⟨trivial⟩
instance:GoodOs []:=⟨fun o h=>by cases h⟩
instance {o:Ob} {os:List Ob} [h:GoodO o] [t:GoodOs os]:GoodOs (o::os):=⟨fun b hb=>by
  cases hb with
  | head=>exact h.out
  | tail _ hb=>exact t.out b hb⟩
instance {zs bs:List Ob} [h:GoodOs zs] [t:GoodOs bs]:GoodOs (zs++bs):=⟨fun o ho=>(List.mem_append.1 ho).elim (h.out o) (t.out o)⟩
instance {zs:List Ob} {i:Nat} {o:Ob} [h:GoodOs zs] [t:GoodO o]:GoodOs (zs.set i o):=⟨fun b hb=>(List.mem_or_eq_of_mem_set hb).elim (h.out b) (fun e=>by rw [e];exact t.out)⟩
def mpO (ρ:List Nat) (o' o:Ob) (K:Ob→Prop):Prop :=
  match o' with
  | .dead=>K o
  | .box cs=>(match o with
    | .box ds=>mpC (mpA ρ 3) cs ds fun cs=>K (.box cs)
    | _=>False)
  | .hd e k=>getC ρ k fun k=>K (.hd e k)
  | .arr e s rows=>K (.arr e s rows)
  | .mp ks vs=>K (.mp ks vs)
  | .cl e s cells=>K (.cl e s cells)
  | _=>False
def mpOs (ρ:List Nat) (aw:List Ob):List Nat→List Ob→(List Ob→List Ob→Prop)→Prop
  | [],[],K=>K [] []
  | id::ids,o'::os',K=>getC aw id fun o=>mpO ρ o' o fun b=>mpOs ρ aw ids os' fun bs os=>K (b::bs) (o::os)
  | _,_,_=>False
theorem mpO_ok {ρ:List Nat} {o' o:Ob} {K:Ob→Prop} (h:mpO ρ o' o K):∃ b,K b∧(gO o'→b=o→RenO ρ o' o):=by
  cases o' with
  | dead=>exact ⟨o,h,fun _ _=>trivial⟩
  | box cs =>
    cases o with
    | box ds =>
      obtain ⟨bs,h1,h2⟩:=mpC_ok (ρ:=ρ) mpA_ok h
      exact ⟨_,h1,fun g e=>by injection e with e;exact h2 g e⟩
    | _=>exact h.elim
  | hd e k =>
    obtain ⟨j,h1,h2⟩:=Zva h
    exact ⟨_,h2,fun _ e=>by subst e;exact ⟨rfl,h1⟩⟩
  | arr e s rows=>exact ⟨_,h,fun g e=>by subst e;exact ⟨rfl,rfl,rfl,fun row hr x hx=>ren_pure (g row hr x hx)⟩⟩
  | mp ks vs=>exact ⟨_,h,fun g e=>by subst e;exact ⟨renL_same fun c hc=>g c (List.mem_append_left _ hc),renL_same fun c hc=>g c (List.mem_append_right _ hc)⟩⟩
  | cl e s cells=>exact ⟨_,h,fun g e=>by subst e;exact ⟨rfl,rfl,rfl,g⟩⟩
  | arrU e s rows x=>exact h.elim
  | boxB t cs=>exact h.elim
theorem mpOs_ok {ρ:List Nat}:∀ {ids:List Nat} {os':List Ob} {K:List Ob→List Ob→Prop},mpOs ρ aw ids os' K→∃ bs os,K bs os∧((∀ o,o∈os'→gO o)→bs=os→RenW ρ aw ids os')
  | [],[],K,h=>⟨[],[],h,fun _ _=>trivial⟩
  | id::ids,o'::os',K,h=>by
    obtain ⟨o,h1,h⟩:=Zva h
    obtain ⟨b,h2,h3⟩:=mpO_ok h
    obtain ⟨bs,os,h4,h5⟩:=mpOs_ok h2
    refine ⟨b::bs,o::os,h4,fun hg e=>?_⟩
    injection e with e1 e2
    exact ⟨⟨o,h1,h3 (hg _ (.head _)) e1⟩,h5 (fun x hx=>hg x (.tail _ hx)) e2⟩
  | [],_::_,K,h=>h.elim
  | _::_,[],K,h=>h.elim
def mpF (ρ:List Nat):List (Nat × AV)→List (Nat × AV)→(List AV→List AV→Prop)→Prop
  | [],_,K=>K [] []
  | (s,v)::r,l,K=>fA (lkA l s) fun a=>mpA ρ 3 v a fun b=>mpF ρ r l fun bs es=>K (b::bs) (a::es)
class GoodF (l:List (Nat × AV)):Prop where
  out:∀ s v,(s,v)∈l→gA 3 v
instance:GoodF []:=⟨fun s v h=>by cases h⟩
instance {s:Nat} {v:AV} {r:List (Nat × AV)} [h:GoodA 3 v] [t:GoodF r]:GoodF ((s,v)::r):=⟨fun s' v' hb=>by
  cases hb with
  | head=>exact h.out
  | tail _ hb=>exact t.out s' v' hb⟩
theorem mpF_ok {ρ:List Nat}:∀ {l' l:List (Nat × AV)} {K:List AV→List AV→Prop},mpF ρ l' l K→∃ bs es,K bs es∧((∀ s v,(s,v)∈l'→gA 3 v)→bs=es→RenA ρ l' l)
  | [],l,K,h=>⟨[],[],h,fun _ _=>trivial⟩
  | (s,v)::r,l,K,h=>by
    have h:=fA_ok (a:=lkA l s) (K:=fun a=>mpA ρ 3 v a fun b=>mpF ρ r l fun bs es=>K (b::bs) (a::es)) h
    obtain ⟨b,h1,h2⟩:=mpA_ok h
    obtain ⟨bs,es,h3,h4⟩:=mpF_ok h1
    refine ⟨b::bs,lkA l s::es,h3,fun hg e=>?_⟩
    injection e with e1 e2
    exact ⟨h2 (hg _ _ (.head _)) e1,h4 (fun s v hv=>hg s v (.tail _ hv)) e2⟩
def nilC:List (Nat × TypeId × Nat)→List (Nat × AV)→List Ob→Nat→(List (Nat × AV)→List Ob→Prop)→Prop
  | [],l,aw,_,K=>K l aw
  | (s,e,z)::r,l,aw,c,K=>(match lkA l s with
    | .nils=>pushC aw (.arr e z []) fun aw=>nilC r ((s,.ref c)::l) aw (c+1) K
    | _=>False)
theorem nilC_ok:∀ {nl:List (Nat × TypeId × Nat)} {l:List (Nat × AV)} {aw:List Ob} {c:Nat} {K:List (Nat × AV)→List Ob→Prop},aw.length=c→(nl.all fun p=>Nat.blt p.1 n)=true→nilC nl l aw c K→K (nilA n nl l aw).1 (nilA n nl l aw).2
  | [],l,aw,c,K,_,_,h=>h
  | (s,e,z)::r,l,aw,c,K,hc,hn,h=>by
    subst hc
    unfold nilC at h
    rw [List.all_cons,Bool.and_eq_true] at hn
    split at h
    · rename_i hv
      have h:=nilC_ok (nl:=r) (by simp) hn.2 (pushC_ok h)
      unfold nilA
      simp only [hn.1,hv]
      exact h
    · exact h.elim
theorem wk (nl:List (Nat × TypeId × Nat)) (ρ:List Nat) (c:Nat) {l':List (Nat × AV)} (h:nilC nl l aw c fun l aw=>mpF ρ l' l fun bs es=>mpOs ρ aw ρ aw' fun bs' es'=>(bs,bs')=(es,es')) [g:GoodF l'] [g':GoodOs aw'] (hc:aw.length=c:=by rfl) (hn:(nl.all fun p=>Nat.blt p.1 n)=true:=by rfl)
    (h1:ρ.Nodup:=by decide) (h2:∀ k,k<N→ρ[k]?=some k:=by decide):Weak N (mkA n l) aw (mkA n l') aw':=by
  have h:=nilC_ok hc hn h
  obtain ⟨bs,es,h,h3⟩:=mpF_ok h
  obtain ⟨bs',es',h,h4⟩:=mpOs_ok h
  injection h with e1 e2
  exact Weak.mkN nl ρ h1 h2 rfl (h3 g.out e1) (h4 g'.out e2)
def nilVC:List (Nat × TypeId × Nat)→List AV→List Ob→Nat→(List AV→List Ob→Prop)→Prop
  | [],vs,aw,_,K=>K vs aw
  | (s,e,z)::r,vs,aw,c,K=>getC vs s fun v=>(match v with
    | .nils=>setC vs s (.ref c) fun vs=>pushC aw (.arr e z []) fun aw=>nilVC r vs aw (c+1) K
    | _=>False)
theorem nilVC_ok:∀ {nl:List (Nat × TypeId × Nat)} {vs:List AV} {aw:List Ob} {c:Nat} {K:List AV→List Ob→Prop},aw.length=c→nilVC nl vs aw c K→K (nilify nl vs aw).1 (nilify nl vs aw).2
  | [],vs,aw,c,K,_,h=>h
  | (s,e,z)::r,vs,aw,c,K,hc,h=>by
    subst hc
    obtain ⟨v,h1,h⟩:=Zva h
    split at h
    · have h:=nilVC_ok (nl:=r) (by simp) (pushC_ok (setC_ok h))
      unfold nilify
      simp only [h1]
      exact h
    · exact h.elim
section
variable {Q:Exit→List AV→List Ob→Prop} {rs:List ResultVar} {V:AV} {obs:List Ob} {M:Nat}
theorem T.rO (ht:tt.Ok P) (nl:List (Nat × TypeId × Nat)) (ρ:List Nat) (c:Nat)
    (h:resC tt n l aw rs fun vs=>nilVC nl vs aw c fun vs aw=>fA (retAV vs) fun a=>mpA ρ 3 V a fun b=>mpOs ρ aw ρ obs fun bs es=>(b,bs)=(a,es))
    [hq:RetI Q (fun fr aw=>vcRes P fr aw rs (Ret M (fun r aw'=>r=V∧aw'=obs) aw))] [g:GoodA 3 V] [g':GoodOs obs] (hc:aw.length=c:=by rfl) (h1:ρ.Nodup:=by decide) (h2:∀ k,k<M→ρ[k]?=some k:=by decide):T P N .ret Q (mkA n l) aw:=by
  refine T.rt (R:=fun fr aw=>vcRes P fr aw rs (Ret M (fun r aw'=>r=V∧aw'=obs) aw)) (resC_ok ht (fun vs hv=>?_) h)
  have h:=nilVC_ok hc hv
  have h:=fA_ok (K:=fun a=>mpA ρ 3 V a fun b=>mpOs ρ (nilify nl vs aw).2 ρ obs fun bs es=>(b,bs)=(a,es)) h
  obtain ⟨b,h,h3⟩:=mpA_ok h
  obtain ⟨bs,es,h,h4⟩:=mpOs_ok h
  injection h with e1 e2
  exact ret_own V nl ρ h1 h2 rfl (h3 g.out e1) (h4 g'.out e2) ⟨rfl,rfl⟩
theorem T.rN (ht:tt.Ok P) (ρ:List Nat) (h:resC tt n l aw rs fun vs=>nrmRC aw (retAV vs) fun a aw=>mpA ρ 3 V a fun b=>mpOs ρ aw ρ obs fun bs es=>(b,bs)=(a,es))
    [hq:RetI Q (fun fr aw=>vcRes P fr aw rs (Ret M (fun r aw'=>r=V∧aw'=obs) aw))] [g:GoodA 3 V] [g':GoodOs obs] (h1:ρ.Nodup:=by decide) (h2:∀ k,k<M→ρ[k]?=some k:=by decide):T P N .ret Q (mkA n l) aw:=by
  refine T.rt (R:=fun fr aw=>vcRes P fr aw rs (Ret M (fun r aw'=>r=V∧aw'=obs) aw)) (resC_ok ht (fun vs hv=>?_) h)
  have h:=nrmRC_ok hv
  obtain ⟨b,h,h3⟩:=mpA_ok h
  obtain ⟨bs,es,h,h4⟩:=mpOs_ok h
  injection h with e1 e2
  exact ret_norm V ρ rfl h1 h2 (h3 g.out e1) (h4 g'.out e2) ⟨rfl,rfl⟩
end
def stD (l:List (Nat × AV)) (d:Option Tmp) (r:AV) (K:List (Nat × AV)→Prop):Prop :=
  match d with
  | some t=>K ((t,r)::l)
  | none=>K l
theorem stD_ok {d:Option Tmp} {r:AV} {K:List (Nat × AV)→Prop} (h:stD l d r K):K (putA l d r):=by cases d<;>exact h
section
variable {ops:Array Oper} {os:List Oper} {K:List AV→List Ob→Prop} {k:Nat} {li li':Array Bool} {o:Oper} {fr fr':List AV}
theorem yg' (ht:tt.Ok P) (c:Nat) {j t:Nat} {want b:Bool} (hbw:b=want) (h:wE tt n l aw c o.op fun r aw _=>stD l o.dst r fun l=>RS P N ops os K (mkA n l) aw)
    (hg:o.guard=some (j,want)) (hj:(ops[j]?).bind (·.dst)=some t) (hb:evA n l (.tmp t)=.bool b) (hc:aw.length=c):RS P N ops (o::os) K (mkA n l) aw :=
  RS.yes hg hj hb hbw ((wE_ok ht hc h).mono fun r aw' h=>stD_ok (K:=fun l=>RS P N ops os K (mkA n l) aw') h)
theorem oy' (ht:tt.Ok P) {i:Nat} (c:Nat) {j t:Nat} {want b:Bool} (hbw:b=want) (hi:ops[i]?=some o) (h:wE tt n l aw c o.op fun r aw _=>stD l o.dst r fun l=>K (mkA n l) aw)
    (hg:o.guard=some (j,want)) (hj:(ops[j]?).bind (·.dst)=some t) (hb:evA n l (.tmp t)=.bool b) (hc:aw.length=c):RO P N ops i K (mkA n l) aw :=
  RO.yes hi hg hj hb hbw ((wE_ok ht hc h).mono fun r aw' h=>stD_ok (K:=fun l=>K (mkA n l) aw') h)
theorem ry' (ht:tt.Ok P) (i:Nat) {j t:Nat} {want b:Bool} (hbw:b=want) (hi:ops[i]?=some o) (h:wV tt n l aw o.op fun r=>stD l o.dst r fun l=>RA P N ops k (li.setIfInBounds i true) K (mkA n l) aw)
    (hs:Region.noSelect ops=true) (hf:Region.free .any ops li i=true) (hr:(Region.ready .any ops li).contains i=true)
    (hg:o.guard=some (j,want)) (hj:(ops[j]?).bind (·.dst)=some t) (hb:evA n l (.tmp t)=.bool b) (hn:quietOp o.op=true):RA P N ops (k+1) li K (mkA n l) aw :=
  ⟨fun st e1 e2 σ w F a hc R hR=>by
    obtain ⟨v,r,hrun,hrel,hk⟩:=oper_all hc hn (wV_ok ht h)
    refine wpAny_take hi hs hf hr (fun c a w hp=>hp) (.inl ⟨by simp [Region.wanted,hg,Q2b hc hj hb,hbw],hrun⟩) (RA.out (stD_ok (K:=fun l=>RA P N ops k (li.setIfInBounds i true) K (mkA n l) aw) hk) st e1 e2 σ w F _ ?_ R hR)
    have:=Vka hc hrel o.dst
    rwa [Vla] at this⟩
open RK in
theorem rL' (ht:tt.Ok P) (D:List Nat) (i:Nat) (hi:ops[i]?=some o) (h:wV tt n l aw o.op fun r=>stD l o.dst r fun l=>RA P N ops k (li.setIfInBounds i true) K (mkA n l) aw)
    (hs:Region.noSelect ops=true) (hf:loadFree ops li D i=true) (hr:(Region.ready .any ops li).contains i=true) (hg:o.guard=none):RA P N ops (k+1) li K (mkA n l) aw :=
  ⟨fun st e1 e2 σ w F a hc R hR=>by
    obtain ⟨v,r,hrun,hrel,hk⟩:=oper_over hc (wV_ok ht h)
    refine wpAny_takeLoad D hi hs hf hr (fun c a w hp=>hp) (.inl ⟨by simp [Region.wanted,hg],hrun⟩) (RA.out (stD_ok (K:=fun l=>RA P N ops k (li.setIfInBounds i true) K (mkA n l) aw) hk) st e1 e2 σ w F _ ?_ R hR)
    have:=Vka hc hrel o.dst
    rwa [Vla] at this⟩
theorem sO (h:OP P N o (mkA n l) aw fun r aw=>stD l o.dst r fun l=>RS P N ops os K (mkA n l) aw) (hg:o.guard=none:=by rfl):RS P N ops (o::os) K (mkA n l) aw :=
  RS.op hg (h.mono fun r aw' h=>stD_ok (K:=fun l=>RS P N ops os K (mkA n l) aw') h)
theorem sQ (h:vcQ P (mkA n l) aw o.op fun r=>stD l o.dst r fun l=>RS P N ops os K (mkA n l) aw) (hg:o.guard=none:=by rfl) (hq:alwaysQ o.op=true:=by rfl):RS P N ops (o::os) K (mkA n l) aw :=
  sO (OP.q (K2:=fun r aw=>stD l o.dst r fun l=>RS P N ops os K (mkA n l) aw) hq h) hg
theorem yO {j t:Nat} {want b:Bool} (hbw:b=want) (h:OP P N o (mkA n l) aw fun r aw=>stD l o.dst r fun l=>RS P N ops os K (mkA n l) aw) (hg:o.guard=some (j,want):=by rfl) (hj:(ops[j]?).bind (·.dst)=some t:=by rfl) (hb:evA n l (.tmp t)=.bool b:=by rfl) :
    RS P N ops (o::os) K (mkA n l) aw:=RS.yes hg hj hb hbw (h.mono fun r aw' h=>stD_ok (K:=fun l=>RS P N ops os K (mkA n l) aw') h)
theorem yQ {j t:Nat} {want b:Bool} (hbw:b=want) (h:vcQ P (mkA n l) aw o.op fun r=>stD l o.dst r fun l=>RS P N ops os K (mkA n l) aw) (hg:o.guard=some (j,want):=by rfl) (hj:(ops[j]?).bind (·.dst)=some t:=by rfl) (hb:evA n l (.tmp t)=.bool b:=by rfl) (hq:alwaysQ o.op=true:=by rfl) :
    RS P N ops (o::os) K (mkA n l) aw:=yO hbw (OP.q (K2:=fun r aw=>stD l o.dst r fun l=>RS P N ops os K (mkA n l) aw) hq h) hg hj hb
theorem sN {j t:Nat} {want b:Bool} (hbw:b=!want) (h:stD l o.dst (.tup []) fun l=>RS P N ops os K (mkA n l) aw) (hg:o.guard=some (j,want):=by rfl) (hj:(ops[j]?).bind (·.dst)=some t:=by rfl) (hb:evA n l (.tmp t)=.bool b:=by rfl) :
    RS P N ops (o::os) K (mkA n l) aw:=RS.no hg hj hb hbw (stD_ok (K:=fun l=>RS P N ops os K (mkA n l) aw) h)
theorem sU {j t:Nat} {want:Bool} (h:stD l o.dst (.tup []) fun l=>RS P N ops os K (mkA n l) aw) (hg:o.guard=some (j,want):=by rfl) (hj:(ops[j]?).bind (·.dst)=some t:=by rfl) (hb:evA n l (.tmp t)=.tup []:=by rfl) :
    RS P N ops (o::os) K (mkA n l) aw:=RS.nou hg hj hb (stD_ok (K:=fun l=>RS P N ops os K (mkA n l) aw) h)
theorem oO {i:Nat} (hi:ops[i]?=some o) (h:OP P N o (mkA n l) aw fun r aw=>stD l o.dst r fun l=>K (mkA n l) aw) (hg:o.guard=none:=by rfl):RO P N ops i K (mkA n l) aw :=
  RO.op hi hg (h.mono fun r aw' h=>stD_ok (K:=fun l=>K (mkA n l) aw') h)
theorem r0 (i:Nat) (hi:ops[i]?=some o) (h:vcQ P (mkA n l) aw o.op fun r=>stD l o.dst r fun l=>RA P N ops k (li.setIfInBounds i true) K (mkA n l) aw) (hs:Region.noSelect ops=true:=by decide +kernel) (hf:Region.free .any ops li i=true:=by decide +kernel)
    (hr:(Region.ready .any ops li).contains i=true:=by decide +kernel) (hg:o.guard=none:=by rfl) (hn:quietOp o.op=true:=by rfl):RA P N ops (k+1) li K (mkA n l) aw :=
  ⟨fun st e1 e2 σ w F a hc R hR=>by
    obtain ⟨v,r,hrun,hrel,hk⟩:=oper_all hc hn h
    refine wpAny_take hi hs hf hr (fun c a w hp=>hp) (.inl ⟨by simp [Region.wanted,hg],hrun⟩) (RA.out (stD_ok (K:=fun l=>RA P N ops k (li.setIfInBounds i true) K (mkA n l) aw) hk) st e1 e2 σ w F _ ?_ R hR)
    have:=Vka hc hrel o.dst
    rwa [Vla] at this⟩
theorem r1 (i:Nat) (hi:ops[i]?=some o) {j t:Nat} {want b:Bool} (hbw:b=want) (h:vcQ P (mkA n l) aw o.op fun r=>stD l o.dst r fun l=>RA P N ops k (li.setIfInBounds i true) K (mkA n l) aw) (hs:Region.noSelect ops=true:=by decide +kernel) (hf:Region.free .any ops li i=true:=by decide +kernel)
    (hr:(Region.ready .any ops li).contains i=true:=by decide +kernel) (hg:o.guard=some (j,want):=by rfl) (hj:(ops[j]?).bind (·.dst)=some t:=by rfl) (hb:evA n l (.tmp t)=.bool b:=by rfl) (hn:quietOp o.op=true:=by rfl):RA P N ops (k+1) li K (mkA n l) aw :=
  ⟨fun st e1 e2 σ w F a hc R hR=>by
    obtain ⟨v,r,hrun,hrel,hk⟩:=oper_all hc hn h
    refine wpAny_take hi hs hf hr (fun c a w hp=>hp) (.inl ⟨by simp [Region.wanted,hg,Q2b hc hj hb,hbw],hrun⟩) (RA.out (stD_ok (K:=fun l=>RA P N ops k (li.setIfInBounds i true) K (mkA n l) aw) hk) st e1 e2 σ w F _ ?_ R hR)
    have:=Vka hc hrel o.dst
    rwa [Vla] at this⟩
theorem r2 (i:Nat) (hi:ops[i]?=some o) {j t:Nat} {want b:Bool} (hbw:b=!want) (h:stD l o.dst (.tup []) fun l=>RA P N ops k (li.setIfInBounds i true) K (mkA n l) aw) (hs:Region.noSelect ops=true:=by decide +kernel) (hf:Region.free .any ops li i=true:=by decide +kernel)
    (hr:(Region.ready .any ops li).contains i=true:=by decide +kernel) (hg:o.guard=some (j,want):=by rfl) (hj:(ops[j]?).bind (·.dst)=some t:=by rfl) (hb:evA n l (.tmp t)=.bool b:=by rfl):RA P N ops (k+1) li K (mkA n l) aw :=
  RA.t2 hi hs hf hr rfl hg hj hb hbw (stD_ok (K:=fun l=>RA P N ops k (li.setIfInBounds i true) K (mkA n l) aw) h)
theorem r3 (i:Nat) (hi:ops[i]?=some o) {j t:Nat} {want:Bool} (h:stD l o.dst (.tup []) fun l=>RA P N ops k (li.setIfInBounds i true) K (mkA n l) aw) (hs:Region.noSelect ops=true:=by decide +kernel) (hf:Region.free .any ops li i=true:=by decide +kernel)
    (hr:(Region.ready .any ops li).contains i=true:=by decide +kernel) (hg:o.guard=some (j,want):=by rfl) (hj:(ops[j]?).bind (·.dst)=some t:=by rfl) (hb:evA n l (.tmp t)=.tup []:=by rfl):RA P N ops (k+1) li K (mkA n l) aw :=
  RA.t3 hi hs hf hr rfl hg hj hb (stD_ok (K:=fun l=>RA P N ops k (li.setIfInBounds i true) K (mkA n l) aw) h)
def nfL (f:AV→(AV→Prop)→Prop):List AV→(List AV→Prop)→Prop
  | [],K=>K []
  | a::es,K=>f a fun a=>nfL f es fun es=>K (a::es)
def nfA:Nat→AV→(AV→Prop)→Prop
  | 0,a,K=>fA a K
  | k+1,a,K=>(match a with
    | .agg cs=>nfL (nfA k) cs fun cs=>K (.agg cs)
    | .tup cs=>nfL (nfA k) cs fun cs=>K (.tup cs)
    | .func f cs=>nfL (nfA k) cs fun cs=>K (.func f cs)
    | .bnd f cs=>nfL (nfA k) cs fun cs=>K (.bnd f cs)
    | a=>fA a K)
theorem nfL_ok {f:AV→(AV→Prop)→Prop} (hf:∀ {a:AV} {K:AV→Prop},f a K→K a):∀ {es:List AV} {K:List AV→Prop},nfL f es K→K es
  | [],K,h=>h
  | a::es,K,h=>nfL_ok hf (es:=es) (K:=fun es=>K (a::es)) (hf h)
theorem nfA_ok:∀ {k:Nat} {a:AV} {K:AV→Prop},nfA k a K→K a:=by
  intro k
  induction k with
  | zero=>exact fun h=>fA_ok h
  | succ k ih =>
    intro a K h
    cases a<;>first | exact fA_ok h | exact nfL_ok ih (K:=fun cs=>K (.agg cs)) h | exact nfL_ok ih (K:=fun cs=>K (.tup cs)) h | exact nfL_ok ih (K:=fun cs=>K (.func _ cs)) h | exact nfL_ok ih (K:=fun cs=>K (.bnd _ cs)) h
def nfF (g:AV→AV):List (Nat × AV)→(List (Nat × AV)→Prop)→Prop
  | [],K=>K []
  | (s,v)::r,K=>nfA 2 (g v) fun v=>nfF g r fun r=>K ((s,v)::r)
theorem nfF_ok {g:AV→AV}:∀ {l:List (Nat × AV)} {K:List (Nat × AV)→Prop},nfF g l K→K (l.map fun p=>(p.1,g p.2))
  | [],K,h=>h
  | (s,v)::r,K,h=>nfF_ok (l:=r) (K:=fun r=>K ((s,g v)::r)) (nfA_ok (K:=fun v=>nfF g r fun r=>K ((s,v)::r)) h)
def nfO (g:AV→AV):List Ob→(List Ob→Prop)→Prop
  | [],K=>K []
  | o::os,K=>(match o with
    | .box cs=>nfL (nfA 1) (cs.map g) fun cs=>nfO g os fun os=>K (.box cs::os)
    | o=>nfO g os fun os=>K (o::os))
theorem nfO_ok {id:Nat} {rows:List (List AV)}:∀ {os:List Ob} {K:List Ob→Prop},nfO (fz2 id rows) os K→K (os.map (fzOb id rows))
  | [],K,h=>h
  | o::os,K,h=>by
    cases o with
    | box cs=>exact nfO_ok (os:=os) (K:=fun os=>K (.box (cs.map (fz2 id rows))::os)) (nfL_ok nfA_ok (K:=fun cs=>nfO (fz2 id rows) os fun os=>K (.box cs::os)) h)
    | _=>exact nfO_ok (os:=os) (K:=fun os=>K (_::os)) h
def fzC (aw:List Ob) (l:List (Nat × AV)) (id:Nat) (K:List (Nat × AV)→List Ob→Prop):Prop :=
  getC aw id fun o=>(match o with
    | .arr _ _ rows=>nfF (fzV id rows) l fun l=>setC aw id .dead fun aw=>nfO (fz2 id rows) aw fun aw=>K l aw
    | _=>False)
theorem fzC_ok {id:Nat} {K:List (Nat × AV)→List Ob→Prop} (h:fzC aw l id K):∃ e s rows,aw[id]?=some (.arr e s rows)∧K (fzA id rows l) ((aw.set id .dead).map (fzOb id rows)):=by
  obtain ⟨o,h1,h⟩:=Zva h
  split at h
  · exact ⟨_,_,_,h1,nfO_ok (setC_ok (nfF_ok h))⟩
  · exact h.elim
theorem T.fC (id:Nat) {c:Code} {Q:Exit→List AV→List Ob→Prop} (h:fzC aw l id fun l aw=>T P N c Q (mkA n l) aw):T P N c Q (mkA n l) aw:=by
  obtain ⟨e,s,rows,h1,h2⟩:=fzC_ok h
  exact T.fz id h1 rfl rfl h2
theorem RS.fC (id:Nat) (h:fzC aw l id fun l aw=>RS P N ops os K (mkA n l) aw):RS P N ops os K (mkA n l) aw:=by
  obtain ⟨e,s,rows,h1,h2⟩:=fzC_ok h
  exact RS.fz id h1 rfl rfl h2
theorem RA.fC (id:Nat) (h:fzC aw l id fun l aw=>RA P N ops k li K (mkA n l) aw):RA P N ops k li K (mkA n l) aw:=by
  obtain ⟨e,s,rows,h1,h2⟩:=fzC_ok h
  exact RA.fz id h1 rfl rfl h2
theorem RO.fC {i:Nat} (id:Nat) (h:fzC aw l id fun l aw=>RO P N ops i K (mkA n l) aw):RO P N ops i K (mkA n l) aw:=by
  obtain ⟨e,s,rows,h1,h2⟩:=fzC_ok h
  exact RO.fz id h1 rfl rfl h2
theorem RA.jn (k':Nat) (li':Array Bool) {fr':List AV} {aw':List Ob} (h2:RA P N ops k' li' K fr' aw'→RA P N ops k li K fr aw) (h:RA P N ops k' li' K fr' aw'):RA P N ops k li K fr aw:=h2 h
theorem raE (h:RA P N ops k li' K fr aw) (hl:li=li':=by decide +kernel):RA P N ops k li K fr aw:=by subst hl;exact h
theorem subF_ok {l':List (Nat × AV)} (h:l'.map (fun p=>lkA l p.1)=l'.map (fun p=>lkA l' p.1)) (t:Nat):lkA l' t=.any∨lkA l' t=lkA l t:=by
  have key:∀ (q:List (Nat × AV)),q.map (fun p=>lkA l p.1)=q.map (fun p=>lkA l' p.1)→lkA q t=.any∨lkA l' t=lkA l t:=by
    intro q
    induction q with
    | nil=>intro _;exact .inl rfl
    | cons p q ih =>
      intro h
      simp only [List.map_cons,List.cons.injEq] at h
      obtain ⟨s,v⟩:=p
      rw [lkA_cons]
      by_cases e:s=t
      · subst e;exact .inr h.1.symm
      · rw [if_neg e];exact ih h.2
  exact key l' h
theorem cur_subF {l':List (Nat × AV)} {st:St} {σ:List Value} {w:World} {F:Nat→Prop} {a:Act} (h:l'.map (fun p=>lkA l p.1)=l'.map (fun p=>lkA l' p.1)) (hc:Cur st (mkA n l) aw σ w F a):Cur st (mkA n l') aw σ w F a:=by
  refine ⟨hc.sim,⟨⟨?_,fun j x v hx hv=>?_⟩,hc.fr.2⟩,hc.mv,hc.ds⟩
  · have:=hc.fr.1.1
    rw [len_mkA] at this ⊢
    exact this
  · rw [get_mkA] at hx
    split at hx
    · rename_i hj
      cases hx
      rcases subF_ok h j with e | e
      · rw [e];exact .any _
      · rw [e];exact hc.fr.1.2 j _ v (by rw [get_mkA,if_pos hj]) hv
    · cases hx
theorem raT {l':List (Nat × AV)} (h:RA P N ops k li' K (mkA n l') aw) (hs:l'.map (fun p=>lkA l p.1)=l'.map (fun p=>lkA l' p.1):=by rfl) (hl:li=li':=by decide +kernel):RA P N ops k li K (mkA n l) aw:=by
  subst hl
  exact ⟨fun st h1 h2 σ w F a hc=>h.out st h1 h2 σ w F a (cur_subF hs hc)⟩
theorem raV {l':List (Nat × AV)} {aw1:List Ob} (h:RA P N ops k li' K (mkA n l') aw1) (ρ:List Nat) (hw:mpF ρ l' l fun bs es=>mpOs ρ aw ρ aw1 fun bs' es'=>(bs,bs')=(es,es')) [g:GoodF l'] [g':GoodOs aw1]
    (h1:ρ.Nodup:=by decide) (h2:∀ k,k<N→ρ[k]?=some k:=by decide) (hl:li=li':=by decide +kernel):RA P N ops k li K (mkA n l) aw:=by
  subst hl
  obtain ⟨bs,es,hw,h3⟩:=mpF_ok hw
  obtain ⟨bs',es',hw,h4⟩:=mpOs_ok hw
  injection hw with e1 e2
  exact RA.weakR h (Weak.mk ρ h1 h2 (h3 g.out e1) (h4 g'.out e2))
theorem T.su {l':List (Nat × AV)} {c:Code} {Q:Exit→List AV→List Ob→Prop} (h:T P N c Q (mkA n l') aw) (hs:l'.map (fun p=>lkA l p.1)=l'.map (fun p=>lkA l' p.1):=by rfl):T P N c Q (mkA n l) aw:=⟨fun st h1 h2 σ w F a hc=>h.out st h1 h2 σ w F a (cur_subF hs hc)⟩
end
section
variable {Q:Exit→List AV→List Ob→Prop} {c1 c2:Code} {x:Operand}
theorem T.ci {α:Type} {b:Bool} {u v:Option α} {r:α} (h:(if b=true then u else v)=some r) (hx:evA n l x=.bool b) (ht:b=true→u=some r→T P N c1 Q (mkA n l) aw) (he:b=false→v=some r→T P N c2 Q (mkA n l) aw):T P N (.cond x c1 c2) Q (mkA n l) aw :=
  T.cond hx (fun hb=>ht hb (ite_T h hb)) (fun hb=>he hb (ite_F h hb))
theorem T.ct (hx:evA n l x=.bool true) (h:T P N c1 Q (mkA n l) aw):T P N (.cond x c1 c2) Q (mkA n l) aw:=T.cond hx (fun _=>h) (fun hb=>by cases hb)
theorem T.cf (hx:evA n l x=.bool false) (h:T P N c2 Q (mkA n l) aw):T P N (.cond x c1 c2) Q (mkA n l) aw:=T.cond hx (fun hb=>by cases hb) (fun _=>h)
def iniC:Nat→List AV→(List (Nat × AV)→Prop)→Prop
  | _,[],K=>K []
  | k,a::es,K=>iniC (k+1) es fun l=>K ((k,a)::l)
theorem iniC_ok:∀ {es:List AV} {k:Nat} {K:List (Nat × AV)→Prop},iniC k es K→K (initA k es)
  | [],k,K,h=>h
  | a::es,k,K,h=>iniC_ok (es:=es) (K:=fun l=>K ((k,a)::l)) h
theorem fnT {f:FuncId} {fn:Func} {c:Code} {args:List AV} {Q:AV→List Ob→Prop} {m:Nat} (N:Nat) (hf:P.funcs[f]?=some fn) (hm:fn.ntmps=m) (h:iniC 0 args fun l=>T P N c (retQ P fn N Q) (mkA m l) aw)
    (hb:fn.body=some c:=by rfl) (hN:aw.length=N:=by rfl) (hname:(fn.name == "runtime.NumGoroutine")=false:=by kernel_rfl) (hl:Nat.ble args.length m=true:=by rfl):ACalls P f args aw Q :=
  fn_of_T hN hf hb hname hm hl (iniC_ok (K:=fun l=>T P N c (retQ P fn N Q) (mkA m l) aw) h)
end
end
end Go.Proofs.Ytchmpaaofmihcaa
namespace Go.Proofs.Ytchmpaaofmihcaa
open Go.RowKit
set_option maxRecDepth 100000
set_option linter.unusedVariables false
def tyT:TT:=.n 54 (.n 25 (.n 12 (.n 8 (.n 5 (.l 3 (.it .i64)) (.n 7 (.l 5 (.it .u8)) (.l 7 (.ag [.int .i64 0,.int .i64 0,.bool false,.int .u8 0] 4 [(0,1,2),(1,1,3),(2,1,4),(3,1,6)])))) (.n 9 (.l 8 (.ag [.int .i64 0,.int .i64 0,.bool false,.int .u8 0] 4 [(0,1,2),(1,1,3),(2,1,4),(3,1,6)])) (.n 10 (.l 9 (.str)) (.l 10 (.str))))) (.n 22 (.n 16 (.l 12 (.it .u64)) (.n 18 (.l 16 (.sc (.nilp))) (.l 18 (.ag [.nilp] 1 [(0,1,17)])))) (.n 23 (.l 22 (.sl 112 4)) (.n 24 (.l 23 (.ag [.nils,.int .i64 0,.int .i64 0] 3 [(0,1,22),(1,1,3),(2,1,3)])) (.l 24 (.ag [.nils,.int .i64 0,.int .i64 0] 3 [(0,1,22),(1,1,3),(2,1,3)])))))) (.n 32 (.n 28 (.n 26 (.l 25 (.sl 29 1)) (.n 27 (.l 26 (.sl 3 1)) (.l 27 (.sl 63 3)))) (.n 29 (.l 28 (.sl 67 2)) (.n 31 (.l 29 (.sl 94 3)) (.l 31 (.ag [.nils,.nils,.nils,.nils,.nils] 5 [(0,1,26),(1,1,25),(2,1,27),(3,1,28),(4,1,29)]))))) (.n 39 (.n 35 (.l 32 (.it .i64)) (.n 38 (.l 35 (.sc (.nilf))) (.l 38 (.sl 9 1)))) (.n 44 (.n 41 (.l 39 (.sl 88 2)) (.l 41 (.ag [.nils,.nils] 2 [(0,1,38),(1,1,39)]))) (.n 52 (.l 44 (.sc (.nilf))) (.l 52 (.sc (.nilp)))))))) (.n 88 (.n 65 (.n 61 (.n 56 (.l 54 (.sl 5 1)) (.n 58 (.l 56 (.ag [.nilp,.nils] 2 [(0,1,53),(1,1,54)])) (.l 58 (.ag [.nilp,.nils] 2 [(0,2,56)])))) (.n 63 (.l 61 (.sl 65 2)) (.n 64 (.l 63 (.ag [.int .i64 0,.nils,.int .i64 0] 3 [(0,1,3),(1,1,61),(2,1,3)])) (.l 64 (.ag [.int .i64 0,.int .i64 0] 2 [(0,1,3),(1,1,3)]))))) (.n 74 (.n 67 (.l 65 (.ag [.int .i64 0,.int .i64 0] 2 [(0,1,3),(1,1,3)])) (.n 68 (.l 67 (.ag [.int .i64 0,.int .i64 0] 2 [(0,1,3),(1,1,3)])) (.l 68 (.sc (.nilf))))) (.n 78 (.n 76 (.l 74 (.sc (.nilf))) (.l 76 (.sc (.nilf)))) (.n 79 (.l 78 (.sc (.nilf))) (.l 79 (.sc (.nilf))))))) (.n 117 (.n 100 (.n 94 (.l 88 (.ag [.int .i64 0,.str []] 2 [(0,1,3),(1,1,9)])) (.n 99 (.l 94 (.ag [.int .i64 0,.int .i64 0,.int .i64 0] 3 [(0,1,3),(1,1,3),(2,1,3)])) (.l 99 (.it .u64)))) (.n 110 (.l 100 (.it .u64)) (.n 112 (.l 110 (.ag [.int .i64 0,.int .i64 0] 2 [(0,1,3),(1,1,3)])) (.l 112 (.ag [.int .i64 0,.int .i64 0,.nils,.nils] 4 [(0,1,3),(1,1,3),(2,1,26),(3,1,26)]))))) (.n 164 (.n 119 (.l 117 (.sc (.nilp))) (.n 134 (.l 119 (.ag [.str []] 1 [(0,1,9)])) (.l 134 (.sl 4 1)))) (.n 171 (.n 168 (.l 164 (.sl 168 2)) (.l 168 (.ag [.int .i64 0,.int .i64 0] 2 [(0,1,3),(1,1,3)]))) (.n 172 (.l 171 (.sc (.nilf))) (.l 172 (.ar [.nilf,.nilf,.nilf,.nilf] 4)))))))
theorem tyT_ok:tyT.Ok Try.prog:=⟨⟨⟨⟨⟨⟨⟨Ty.k3,Ty.c3,Ty.i3⟩,Ty.z3,Try.underlying3⟩,⟨⟨⟨Ty.k5,Ty.c5,Ty.i5⟩,Ty.z5,Try.underlying5⟩,⟨⟨Ty.k7,Ty.c7,Ty.i7,Ty.z7,rfl⟩,Ty.p7,⟨Ty.f7_0,Ty.f7_1,Ty.f7_2,Ty.f7_3,trivial⟩⟩⟩⟩,⟨⟨⟨Ty.k8,Ty.c8,Ty.i8,Ty.z8,rfl⟩,Ty.p8,⟨Ty.f8_0,Ty.f8_1,Ty.f8_2,Ty.f8_3,trivial⟩⟩,⟨⟨⟨Ty.k9,Ty.c9,Ty.i9⟩,Ty.z9,Try.underlying9⟩,⟨⟨Ty.k10,Ty.c10,Ty.i10⟩,Ty.z10,Try.underlying10⟩⟩⟩⟩,⟨⟨⟨⟨Ty.k12,Ty.c12,Ty.i12⟩,Ty.z12,Try.underlying12⟩,⟨⟨⟨Ty.k16,Ty.c16,Ty.i16⟩,Ty.z16⟩,⟨⟨Ty.k18,Ty.c18,Ty.i18,Ty.z18,rfl⟩,Ty.p18,⟨Ty.f18_0,trivial⟩⟩⟩⟩,⟨⟨⟨Ty.k22,Ty.c22,Ty.i22⟩,Ty.z22,Ty.s22⟩,⟨⟨⟨Ty.k23,Ty.c23,Ty.i23,Ty.z23,rfl⟩,Ty.p23,⟨Ty.f23_0,Ty.f23_1,Ty.f23_2,trivial⟩⟩,⟨⟨Ty.k24,Ty.c24,Ty.i24,Ty.z24,rfl⟩,Ty.p24,⟨Ty.f24_0,Ty.f24_1,Ty.f24_2,trivial⟩⟩⟩⟩⟩⟩,⟨⟨⟨⟨⟨Ty.k25,Ty.c25,Ty.i25⟩,Ty.z25,Ty.s25⟩,⟨⟨⟨Ty.k26,Ty.c26,Ty.i26⟩,Ty.z26,Ty.s26⟩,⟨⟨Ty.k27,Ty.c27,Ty.i27⟩,Ty.z27,Ty.s27⟩⟩⟩,⟨⟨⟨Ty.k28,Ty.c28,Ty.i28⟩,Ty.z28,Ty.s28⟩,⟨⟨⟨Ty.k29,Ty.c29,Ty.i29⟩,Ty.z29,Ty.s29⟩,⟨⟨Ty.k31,Ty.c31,Ty.i31,Ty.z31,rfl⟩,Ty.p31,⟨Ty.f31_0,Ty.f31_1,Ty.f31_2,Ty.f31_3,Ty.f31_4,trivial⟩⟩⟩⟩⟩,⟨⟨⟨⟨Ty.k32,Ty.c32,Ty.i32⟩,Ty.z32,Try.underlying32⟩,⟨⟨⟨Ty.k35,Ty.c35,Ty.i35⟩,Ty.z35⟩,⟨⟨Ty.k38,Ty.c38,Ty.i38⟩,Ty.z38,Ty.s38⟩⟩⟩,⟨⟨⟨⟨Ty.k39,Ty.c39,Ty.i39⟩,Ty.z39,Ty.s39⟩,⟨⟨Ty.k41,Ty.c41,Ty.i41,Ty.z41,rfl⟩,Ty.p41,⟨Ty.f41_0,Ty.f41_1,trivial⟩⟩⟩,⟨⟨⟨Ty.k44,Ty.c44,Ty.i44⟩,Ty.z44⟩,⟨⟨Ty.k52,Ty.c52,Ty.i52⟩,Ty.z52⟩⟩⟩⟩⟩⟩,⟨⟨⟨⟨⟨⟨Ty.k54,Ty.c54,Ty.i54⟩,Ty.z54,Ty.s54⟩,⟨⟨⟨Ty.k56,Ty.c56,Ty.i56,Ty.z56,rfl⟩,Ty.p56,⟨Ty.f56_0,Ty.f56_1,trivial⟩⟩,⟨⟨Ty.k58,Ty.c58,Ty.i58,Ty.z58,rfl⟩,Ty.p58,⟨Ty.f58_0,trivial⟩⟩⟩⟩,⟨⟨⟨Ty.k61,Ty.c61,Ty.i61⟩,Ty.z61,Ty.s61⟩,⟨⟨⟨Ty.k63,Ty.c63,Ty.i63,Ty.z63,rfl⟩,Ty.p63,⟨Ty.f63_0,Ty.f63_1,Ty.f63_2,trivial⟩⟩,⟨⟨Ty.k64,Ty.c64,Ty.i64,Ty.z64,rfl⟩,Ty.p64,⟨Ty.f64_0,Ty.f64_1,trivial⟩⟩⟩⟩⟩,⟨⟨⟨⟨Ty.k65,Ty.c65,Ty.i65,Ty.z65,rfl⟩,Ty.p65,⟨Ty.f65_0,Ty.f65_1,trivial⟩⟩,⟨⟨⟨Ty.k67,Ty.c67,Ty.i67,Ty.z67,rfl⟩,Ty.p67,⟨Ty.f67_0,Ty.f67_1,trivial⟩⟩,⟨⟨Ty.k68,Ty.c68,Ty.i68⟩,Ty.z68⟩⟩⟩,⟨⟨⟨⟨Ty.k74,Ty.c74,Ty.i74⟩,Ty.z74⟩,⟨⟨Ty.k76,Ty.c76,Ty.i76⟩,Ty.z76⟩⟩,⟨⟨⟨Ty.k78,Ty.c78,Ty.i78⟩,Ty.z78⟩,⟨⟨Ty.k79,Ty.c79,Ty.i79⟩,Ty.z79⟩⟩⟩⟩⟩,⟨⟨⟨⟨⟨Ty.k88,Ty.c88,Ty.i88,Ty.z88,rfl⟩,Ty.p88,⟨Ty.f88_0,Ty.f88_1,trivial⟩⟩,⟨⟨⟨Ty.k94,Ty.c94,Ty.i94,Ty.z94,rfl⟩,Ty.p94,⟨Ty.f94_0,Ty.f94_1,Ty.f94_2,trivial⟩⟩,⟨⟨Ty.k99,Ty.c99,Ty.i99⟩,Ty.z99,Try.underlying99⟩⟩⟩,⟨⟨⟨Ty.k100,Ty.c100,Ty.i100⟩,Ty.z100,Try.underlying100⟩,⟨⟨⟨Ty.k110,Ty.c110,Ty.i110,Ty.z110,rfl⟩,Ty.p110,⟨Ty.f110_0,Ty.f110_1,trivial⟩⟩,⟨⟨Ty.k112,Ty.c112,Ty.i112,Ty.z112,rfl⟩,Ty.p112,⟨Ty.f112_0,Ty.f112_1,Ty.f112_2,Ty.f112_3,trivial⟩⟩⟩⟩⟩,⟨⟨⟨⟨Ty.k117,Ty.c117,Ty.i117⟩,Ty.z117⟩,⟨⟨⟨Ty.k119,Ty.c119,Ty.i119,Ty.z119,rfl⟩,Ty.p119,⟨Ty.f119_0,trivial⟩⟩,⟨⟨Ty.k134,Ty.c134,Ty.i134⟩,Ty.z134,Ty.s134⟩⟩⟩,⟨⟨⟨⟨Ty.k164,Ty.c164,Ty.i164⟩,Ty.z164,Ty.s164⟩,⟨⟨Ty.k168,Ty.c168,Ty.i168,Ty.z168,rfl⟩,Ty.p168,⟨Ty.f168_0,Ty.f168_1,trivial⟩⟩⟩,⟨⟨⟨Ty.k171,Ty.c171,Ty.i171⟩,Ty.z171⟩,⟨Ty.k172,Ty.c172,Ty.i172,Ty.z172,rfl⟩⟩⟩⟩⟩⟩⟩
section
variable {N n:Nat} {aw aw':List Ob} {l:List (Nat × AV)} {ops:Array Oper} {os:List Oper} {K:List AV→List Ob→Prop} {k:Nat} {li:Array Bool}
theorem go (m c:Nat) (h:wR tyT n m os l aw c fun os l aw=>RS Try.prog N ops os K (mkA n l) aw) (hc:aw.length=c:=by rfl):RS Try.prog N ops os K (mkA n l) aw:=RS.go tyT_ok hc h
theorem rq (is:List Nat) (k':Nat) (h:wQ tyT n ops.toList is l aw fun l=>RA Try.prog N ops k' (lisQ li is) K (mkA n l) aw) (hk:k=k' + is.length:=by rfl) (hs:Region.noSelect ops=true:=by decide +kernel) (ho:okQ ops li is=true:=by decide +kernel):RA Try.prog N ops k li K (mkA n l) aw:=RA.qs tyT_ok hs hk ho h
theorem og {i:Nat} (c:Nat) (h:getC ops.toList i fun o=>o.guard=none∧wE tyT n l aw c o.op fun r aw c=>(match o.dst with
  | some t=>K (mkA n ((t,r)::l)) aw
  | none=>K (mkA n l) aw)) (hc:aw.length=c:=by rfl):RO Try.prog N ops i K (mkA n l) aw:=RO.g tyT_ok hc h
variable {o:Oper} {Q:Exit→List AV→List Ob→Prop} {rs:List ResultVar} {V:AV} {obs:List Ob} {M:Nat}
theorem yg (c:Nat) {j t:Nat} {want b:Bool} (hbw:b=want) (h:wE tyT n l aw c o.op fun r aw _=>stD l o.dst r fun l=>RS Try.prog N ops os K (mkA n l) aw) (hg:o.guard=some (j,want):=by rfl) (hj:(ops[j]?).bind (·.dst)=some t:=by rfl) (hb:evA n l (.tmp t)=.bool b:=by rfl) (hc:aw.length=c:=by rfl):RS Try.prog N ops (o::os) K (mkA n l) aw:=yg' tyT_ok c hbw h hg hj hb hc
theorem oy {i:Nat} (c:Nat) {j t:Nat} {want b:Bool} (hbw:b=want) (hi:ops[i]?=some o) (h:wE tyT n l aw c o.op fun r aw _=>stD l o.dst r fun l=>K (mkA n l) aw) (hg:o.guard=some (j,want):=by rfl) (hj:(ops[j]?).bind (·.dst)=some t:=by rfl) (hb:evA n l (.tmp t)=.bool b:=by rfl) (hc:aw.length=c:=by rfl):RO Try.prog N ops i K (mkA n l) aw:=oy' tyT_ok c hbw hi h hg hj hb hc
theorem ry (i:Nat) {j t:Nat} {want b:Bool} (hbw:b=want) (hi:ops[i]?=some o) (h:wV tyT n l aw o.op fun r=>stD l o.dst r fun l=>RA Try.prog N ops k (li.setIfInBounds i true) K (mkA n l) aw) (hs:Region.noSelect ops=true:=by decide +kernel) (hf:Region.free .any ops li i=true:=by decide +kernel) (hr:(Region.ready .any ops li).contains i=true:=by decide +kernel) (hg:o.guard=some (j,want):=by rfl) (hj:(ops[j]?).bind (·.dst)=some t:=by rfl) (hb:evA n l (.tmp t)=.bool b:=by rfl) (hn:quietOp o.op=true:=by rfl):RA Try.prog N ops (k+1) li K (mkA n l) aw:=ry' tyT_ok i hbw hi h hs hf hr hg hj hb hn
theorem rL (D:List Nat) (i:Nat) (hi:ops[i]?=some o) (h:wV tyT n l aw o.op fun r=>stD l o.dst r fun l=>RA Try.prog N ops k (li.setIfInBounds i true) K (mkA n l) aw) (hs:Region.noSelect ops=true:=by decide +kernel) (hf:RK.loadFree ops li D i=true:=by decide +kernel) (hr:(Region.ready .any ops li).contains i=true:=by decide +kernel) (hg:o.guard=none:=by rfl):RA Try.prog N ops (k+1) li K (mkA n l) aw:=rL' tyT_ok D i hi h hs hf hr hg
theorem tD [hq:RetI Q (fun fr aw=>vcRes Try.prog fr aw rs (Ret 0 (fun r aw'=>r=V∧aw'=[]) aw))] [hV:PureC V] (h:resC tyT n l aw rs fun vs=>nrmRC aw (retAV vs) fun v _=>v=V:=by rfl):T Try.prog N .ret Q (mkA n l) aw:=T.rD tyT_ok h
theorem tO (nl:List (Nat × TypeId × Nat)) (ρ:List Nat) (c:Nat) [hq:RetI Q (fun fr aw=>vcRes Try.prog fr aw rs (Ret M (fun r aw'=>r=V∧aw'=obs) aw))] [g:GoodA 3 V] [g':GoodOs obs] (h:resC tyT n l aw rs fun vs=>nilVC nl vs aw c fun vs aw=>fA (retAV vs) fun a=>mpA ρ 3 V a fun b=>mpOs ρ aw ρ obs fun bs es=>(b,bs)=(a,es):=by rfl) (hc:aw.length=c:=by rfl) (h1:ρ.Nodup:=by decide) (h2:∀ k,k<M→ρ[k]?=some k:=by decide):T Try.prog N .ret Q (mkA n l) aw:=T.rO tyT_ok nl ρ c h hc h1 h2
theorem tN (ρ:List Nat) [hq:RetI Q (fun fr aw=>vcRes Try.prog fr aw rs (Ret M (fun r aw'=>r=V∧aw'=obs) aw))] [g:GoodA 3 V] [g':GoodOs obs] (h:resC tyT n l aw rs fun vs=>nrmRC aw (retAV vs) fun a aw=>mpA ρ 3 V a fun b=>mpOs ρ aw ρ obs fun bs es=>(b,bs)=(a,es):=by rfl) (h1:ρ.Nodup:=by decide) (h2:∀ k,k<M→ρ[k]?=some k:=by decide):T Try.prog N .ret Q (mkA n l) aw:=T.rN tyT_ok ρ h h1 h2
end
end Go.Proofs.Ytchmpaaofmihcaa
namespace Go.Proofs.Ytchmpaaofmihcaa
open Go.RowKit
set_option linter.unusedVariables false
set_option linter.unusedSimpArgs false
set_option maxRecDepth 100000
set_option maxHeartbeats 4000000
set_option synthInstance.maxSize 100000
set_option synthInstance.maxHeartbeats 4000000
theorem math_bits_Mul64_c (p0:Int) (p1:Int) (r:Int × Int) (h:math_bits_Mul64 p0 p1=some r):Fn Try.prog 101 [.int .u64 p0,.int .u64 p1] (.tup [.int .u64 r.1,.int .u64 r.2]):=by
  unfold math_bits_Mul64 at h
  refine fnT 0 Try.func101 Try.ntmps101 ?_
  refine T.seq (T.region (go 2 0 (RS.nil (T.seq (T.region (go 3 0 (RS.nil (T.seq ?_))))))))
  obtain ⟨x2,hx2,h⟩:=bind_some h
  refine T.region (go 1 0 (sQ (v_shr rfl rfl hx2 (go 1 0 (RS.nil (T.seq (T.region (go 3 0 (RS.nil (T.seq ?_))))))))))
  obtain ⟨x4,hx4,h⟩:=bind_some h
  refine T.region (go 1 0 (sQ (v_shr rfl rfl hx4 (go 1 0 (RS.nil (T.seq (T.region (go 4 0 (RS.nil (T.seq ?_))))))))))
  obtain ⟨x6,hx6,h⟩:=bind_some h
  refine T.region (go 4 0 (sQ (v_shr rfl rfl hx6 (go 2 0 (RS.nil (T.seq (T.region (go 3 0 (RS.nil (T.seq ?_))))))))))
  obtain ⟨x8,hx8,h⟩:=bind_some h
  refine T.region (go 1 0 (sQ (v_shr rfl rfl hx8 (go 1 0 (RS.nil (T.seq (T.region (go 6 0 (RS.nil (T.seq ?_))))))))))
  obtain ⟨x10,hx10,h⟩:=bind_some h
  refine T.region (go 6 0 (sQ (v_shr rfl rfl hx10 (go 2 0 (RS.nil (T.seq (T.region (go 4 0 (RS.nil ?_)))))))))
  cases h
  exact tD
theorem math_bits_Mul_c (p0:Int) (p1:Int) (r:Int × Int) (h:math_bits_Mul p0 p1=some r):Fn Try.prog 98 [.int .u64 p0,.int .u64 p1] (.tup [.int .u64 r.1,.int .u64 r.2]):=by
  unfold math_bits_Mul at h
  refine fnT 0 Try.func98 Try.ntmps98 ?_
  refine T.seq (T.region (go 2 0 (RS.nil (T.seq (T.cf rfl (T.skip (T.seq ?_)))))))
  obtain ⟨x2,hx2,h⟩:=bind_some h
  refine T.region (go 2 0 (sO (cF (math_bits_Mul64_c p0 p1 x2 hx2) ⟨rfl,(go 5 0 (RS.nil (T.seq (T.region (go 4 0 (RS.nil ?_))))))⟩)))
  cases h
  exact tD
theorem slices_Repeat_ends_c (p0:List Ends) (p1:Int) (r:List Ends) (h:V0a p0 p1=some r):FnO Try.prog 94 [sL Q7a p0,iI p1] (.ref 0) [aR 168 2 Q7a r]:=by
  unfold V0a at h
  refine fnT 0 Try.func94 Try.ntmps94 ?_
  refine T.seq (T.region (go 1 0 (RS.nil (T.seq (T.seq (T.region (go 2 0 (RS.nil (T.ci h rfl (fun hb_1 h=>?_) (fun hb_1 h=>?_))))))))))
  ·cases h
  refine T.skip (T.seq ?_)
  obtain ⟨x2,hx2,h⟩:=bind_some h
  refine T.region (go 1 0 (sQ (Qha Ty.s164 rfl (go 3 0 (sO (cF (math_bits_Mul_c (IntKind.u64.wrap ((p0).length:Int)) (IntKind.u64.wrap p1) x2 hx2) ⟨rfl,(go 5 0 (RS.nil (T.seq (T.join (Z:=Unit) (fun _=>mkA 48 [(0,sL Q7a p0),(6,.int .u64 x2.2),(26,.bool ((decide (x2.1 > 0)) || decide (x2.2 > 9223372036854775807)))]) (fun _=>[]) (fun _=>True) (fun _ _=>?_) (fun hK=>?_)))))⟩))))))
  ·refine T.ci h rfl (fun hb_3 h=>?_) (fun hb_3 h=>?_)
   ·cases h
   refine T.skip (T.seq ?_)
   obtain ⟨x5,hx5,h⟩:=bind_some h
   refine T.region (go 2 0 (sO (o_mk (en:=Q7a) (zr:=(⟨0,0⟩:Ends)) Ty.s164 Ty.z168 rfl rfl hx5 rfl rfl (go 1 1 (RS.nil (T.seq (T.region (go 2 1 (sO (o_copy_rs (en:=Q7a) (xs:=x5) (ys:=p0) Ty.s164 (fun _=>rfl) rfl rfl rfl rfl (go 1 1 ?_)))))))))))
   refine RS.nil (T.seq (T.block (T.iter (fun ss_8:Int × (List Ends)=>mkA 48 [(7,.ref 0),(8,iI ss_8.1)]) (fun ss_8=>[aR 168 2 Q7a ss_8.2]) h (wk [] [0] 1 rfl) (fun ss_8 v_9 h hv_9=>?_))))
   obtain ⟨s6,s7⟩:=ss_8
   replace h:Jxa s6 s7=some v_9:=h
   try dsimp only
   unfold Jxa at h
   refine T.seq (T.seq (T.region (go 2 1 (sQ (Yoa (en:=Q7a) Ty.s164 rfl rfl (go 1 1 (RS.nil (T.ci h rfl (fun hb_10 h=>?_) (fun hb_10 h=>?_)))))))))
   ·refine T.skip (T.block ?_)
    obtain ⟨x8,hx8,h⟩:=bind_some h
    obtain ⟨x9,hx9,h⟩:=bind_some h
    obtain ⟨x10,hx10,h⟩:=bind_some h
    obtain ⟨x11,hx11,h⟩:=bind_some h
    refine T.drawn mixed (k:=10) rfl ?_
    apply RA.jn 3 #[true,true,true,true,true,true,true,false,false,false];intro hS11
    ·refine rq [0,1,2,4,5] 5 (ra2 3 6 ?_ ?_)
     ·refine oO rfl (Q8b (en:=Q7a) (xs:=s7) Ty.s164 rfl rfl rfl rfl hx8 (ra1 6 (oO rfl (Q8b (en:=Q7a) (xs:=s7) Ty.s164 rfl rfl rfl rfl hx9 ?_))))
      exact raE hS11
     ·refine oO rfl (Q8b (en:=Q7a) (xs:=s7) Ty.s164 rfl rfl rfl rfl hx9 (ra1 3 (oO rfl (Q8b (en:=Q7a) (xs:=s7) Ty.s164 rfl rfl rfl rfl hx8 ?_))))
      exact raT hS11
    refine ra1 7 (oO rfl (o_copy_vv (en:=Q7a) (xs:=s7) Ty.s164 (fun _=>rfl) rfl rfl rfl hx10 hx11 rfl (rq [8,9] 0 (RA.done (by decide +kernel) ?_))))
    exact ⟨(IntKind.i64.wrap (s6+((min ((((s7).length:Int)).toNat - (s6).toNat) ((s6).toNat - ((0:Int)).toNat):Nat):Int)),(cpy s7 ((s6).toNat) ((((s7).length:Int)).toNat - (s6).toNat) ((s7.drop (((0:Int)).toNat)).take ((s6).toNat - ((0:Int)).toNat)))),(Option.some.inj h).symm,wk [] [0] 1 rfl⟩
   refine T.exit ?_
   obtain ⟨w_12,h,hw_12⟩:=Qua h
   replace h:=h.trans (congrArg some (hv_9 _ hw_12))
   refine T.seq (T.region (go 2 1 (RS.nil ?_)))
   cases h
   exact tO [] [0] 1
  refine T.region (go 3 0 ?_)
  rcases Qca (decide (x2.1 > 0)) with hb_2 | hb_2
  ·refine sN hb_2 (sN hb_2 (sQ (Qfa (v:=.bool true) rfl hb_2 rfl (RS.nil ?_))))
   exact T.sub (hK () trivial) ⟨rfl,rfl,(congrArg AV.bool (by simp only [hb_2,bz,if_true,if_false,Bool.false_eq_true])).symm,trivial⟩
  refine yg 0 hb_2 (yg 0 hb_2 (sQ (Qda (v:=.bool (decide (x2.2 > 9223372036854775807))) rfl hb_2 rfl (RS.nil ?_))))
  exact T.sub (hK () trivial) ⟨rfl,rfl,(congrArg AV.bool (by simp only [hb_2,bz,if_true,if_false,Bool.false_eq_true])).symm,trivial⟩
theorem net_arity_c (p0:Int) (r:Int × Int × Bool) (h:net_arity p0=some r):Fn Try.prog 95 [iI p0] (.tup [iI r.1,iI r.2.1,.bool r.2.2]):=by
  unfold net_arity at h
  refine fnT 0 Try.func95 Try.ntmps95 ?_
  refine T.seq (T.region (go 3 0 (RS.nil (T.seq (T.seq (T.region (go 1 0 (RS.nil (T.block ?_)))))))))
  refine T.seq (T.region (go 2 0 (RS.nil (T.ci h rfl (fun hb_1 h=>?_) (fun hb_1 h=>?_)))))
  ·refine T.seq (T.region (go 3 0 (RS.nil ?_)))
   cases h
   exact tD
  refine T.join (Z:=Bool) (fun zz_4=>mkA 19 [(5,iI p0),(8,.bool zz_4)]) (fun zz_4=>[]) (fun zz_4=>Qab p0 zz_4=some r) (fun zz_4 h=>?_) (fun hK2=>?_)
  ·revert h;revert zz_4;intro z1 h
   replace h:Qab p0 z1=some r:=h
   try dsimp only
   unfold Qab at h
   refine T.ci h rfl (fun hb_5 h=>?_) (fun hb_5 h=>?_)
   ·refine T.seq (T.region (go 3 0 (RS.nil ?_)))
    cases h
    exact tD
   refine T.join (Z:=Bool) (fun zz_7=>mkA 19 [(5,iI p0),(12,.bool zz_7)]) (fun zz_7=>[]) (fun zz_7=>Q6b p0 zz_7=some r) (fun zz_7 h=>?_) (fun hK1=>?_)
   ·revert h;revert zz_7;intro z2 h
    replace h:Q6b p0 z2=some r:=h
    try dsimp only
    unfold Q6b at h
    refine T.ci h rfl (fun hb_8 h=>?_) (fun hb_8 h=>?_)
    ·refine T.seq (T.region (go 3 0 (RS.nil ?_)))
     cases h
     exact tD
    refine T.seq (T.region (go 2 0 (RS.nil (T.ci h rfl (fun hb_9 h=>?_) (fun hb_9 h=>?_)))))
    ·refine T.seq (T.region (go 3 0 (RS.nil ?_)))
     cases h
     exact tD
    refine T.seq (T.region (go 2 0 (RS.nil (T.ci h rfl (fun hb_10 h=>?_) (fun hb_10 h=>?_)))))
    ·refine T.seq (T.region (go 3 0 (RS.nil ?_)))
     cases h
     exact tD
    refine T.skip (T.seq (T.region (go 3 0 (RS.nil ?_))))
    cases h
    exact tD
   refine T.seq (T.region (go 2 0 (RS.nil (T.ci h rfl (fun hb_11 h=>?_) (fun hb_11 h=>?_)))))
   ·refine T.skip ?_
    exact T.weakR (hK1 (p0==5) h) (wk [] [] 0 rfl)
   refine T.region (go 2 0 (RS.nil ?_))
   exact T.weakR (hK1 (p0==7) h) (wk [] [] 0 rfl)
  refine T.seq (T.region (go 2 0 (RS.nil (T.ci h rfl (fun hb_12 h=>?_) (fun hb_12 h=>?_)))))
  ·refine T.skip ?_
   exact T.weakR (hK2 (p0==2) h) (wk [] [] 0 rfl)
  refine T.seq (T.region (go 2 0 (RS.nil (T.ci h rfl (fun hb_13 h=>?_) (fun hb_13 h=>?_)))))
  ·refine T.skip ?_
   exact T.weakR (hK2 (p0==3) h) (wk [] [] 0 rfl)
  refine T.region (go 2 0 (RS.nil ?_))
  exact T.weakR (hK2 (p0==4) h) (wk [] [] 0 rfl)
theorem net_fits_c (p0:Int) (p1:Int) (r:Bool) (h:net_fits p0 p1=some r):Fn Try.prog 96 [iI p0,iI p1] (.bool r):=by
  unfold net_fits at h
  refine fnT 0 Try.func96 Try.ntmps96 ?_
  refine T.seq (T.region (go 1 0 (RS.nil (T.join (Z:=Unit) (fun _=>mkA 16 [(4,.bool ((p0==p1) || ((decide (p1<0)) && decide (p0 > 0))))]) (fun _=>[]) (fun _=>True) (fun _ _=>?_) (fun hK=>?_)))))
  ·cases h
   exact tD
  refine T.region (go 4 0 ?_)
  rcases Qca (p0==p1) with hb_1 | hb_1
  ·refine sN hb_1 (sN hb_1 (sN hb_1 (sU (sU (sN hb_1 (sQ (Qfa (v:=.bool true) rfl hb_1 rfl (go 1 0 (RS.nil ?_)))))))))
   exact T.sub (hK () trivial) ⟨(congrArg AV.bool (by simp only [hb_1,bz,if_true,if_false,Bool.false_eq_true])).symm,trivial⟩
  refine yg 0 hb_1 (yg 0 hb_1 (yg 0 hb_1 ?_))
  rcases Qca (decide (p1<0)) with hb_2 | hb_2
  ·refine yg 0 hb_2 (yg 0 hb_2 (yQ hb_1 (Qfa (v:=.bool (decide (p0 > 0))) rfl hb_2 rfl (sQ (Qda (v:=.bool (decide (p0 > 0))) rfl hb_1 rfl (go 1 0 (RS.nil ?_)))))))
   exact T.sub (hK () trivial) ⟨(congrArg AV.bool (by simp only [hb_1,hb_2,bz,if_true,if_false,Bool.false_eq_true])).symm,trivial⟩
  refine sN hb_2 (sN hb_2 (yQ hb_1 (Qda (v:=.bool false) rfl hb_2 rfl (sQ (Qda (v:=.bool false) rfl hb_1 rfl (go 1 0 (RS.nil ?_)))))))
  exact T.sub (hK () trivial) ⟨(congrArg AV.bool (by simp only [hb_1,hb_2,bz,if_true,if_false,Bool.false_eq_true])).symm,trivial⟩
theorem net_look_c (p0:Net) (r:(List Ends) × Int) (h:net_look p0=some r):FnO Try.prog 84 [.agg (Jca p0)] (.tup [.ref 0,iI r.2]) [aR 168 2 Q7a r.1]:=by
  unfold net_look at h
  refine fnT 0 Try.func84 Try.ntmps84 ?_
  refine T.seq (T.region (go 3 0 (RS.nil (T.seq (T.join (Z:=Unit) (fun _=>mkA 197 [(1,.ptr 0 0),(36,.bool ((decide (((p0.Nodes).length:Int)<1)) || ((decide (((p0.Nodes).length:Int) > 12)) || ((decide (p0.Rings<0)) || decide (p0.Rings > 16)))))]) (fun _=>[.box (Jca p0)]) (fun _=>True) (fun _ _=>?_) (fun hK=>?_))))))
  ·refine T.ci h rfl (fun hb_4 h=>?_) (fun hb_4 h=>?_)
   ·refine T.seq (T.region (go 2 1 (RS.nil ?_)))
    cases h
    exact tO [(0,168,2)] [1] 1
   refine T.skip (T.seq (T.join (Z:=Unit) (fun _=>mkA 197 [(1,.ptr 0 0),(44,.bool ((decide (p0.Room<1)) || decide (p0.Room > 6)))]) (fun _=>[.box (Jca p0)]) (fun _=>True) (fun _ _=>?_) (fun hK=>?_)))
   ·refine T.ci h rfl (fun hb_6 h=>?_) (fun hb_6 h=>?_)
    ·refine T.seq (T.region (go 2 1 (RS.nil ?_)))
     cases h
     exact tO [(0,168,2)] [1] 1
    refine T.skip (T.seq ?_)
    obtain ⟨x4,hx4,h⟩:=bind_some h
    refine T.region (go 1 1 (sO (Qya (rows:=List.map Q7a [(⟨(-1),(-1)⟩:Ends)]) (vs:=[.agg [iI (-1),iI (-1)]]) Ty.s164 Ty.z168 rfl rfl rfl rfl rfl rfl (go 2 2 (sO (cO 2 (slices_Repeat_ends_c ([(⟨(-1),(-1)⟩:Ends)]:List Ends) p0.Rings x4 hx4) ⟨rfl,(go 1 3 (RS.nil (T.seq (T.region (go 1 3 ?_)))))⟩))))))
    refine RS.nil (T.seq (T.seq (T.region (go 2 3 (sQ (Qha Ty.s22 rfl (go 1 3 (RS.nil (T.block (T.iter (fun ss_123:Int × Int × (List Ends)=>mkA 197 [(1,.ptr 0 0),(4,.ref 1),(5,iI ss_123.1),(51,sL Jda p0.Nodes),(52,iI ((p0.Nodes).length:Int)),(53,iI ss_123.2.1)]) (fun ss_123=>[.box (Jca p0),aR 168 2 Q7a ss_123.2.2]) h (wk [] [0,2] 3 rfl) (fun ss_123 v_124 h hv_124=>?_)))))))))))
    obtain ⟨s5,s6,s7⟩:=ss_123
    replace h:Y2a p0 s5 s6 s7=some v_124:=h
    try dsimp only
    unfold Y2a at h
    refine T.seq (T.region (go 1 2 (RS.nil (T.seq (T.ci h rfl (fun hb_125 h=>?_) (fun hb_125 h=>?_))))))
    ·refine T.skip (T.seq (T.block (T.seq ?_)))
     obtain ⟨x9,hx9,h⟩:=bind_some h
     refine T.region (go 1 2 (sQ (Qga Ty.s22 (fun _=>rfl) rfl rfl hx9 (go 4 2 (RS.nil (T.seq ?_))))))
     obtain ⟨x11,hx11,h⟩:=bind_some h
     refine T.region (go 2 3 (sO (cF (net_arity_c x9.Kind x11 hx11) ⟨rfl,(go 7 3 (RS.nil (T.seq (T.seq (T.region (go 2 3 (RS.nil ?_)))))))⟩)))
     refine T.ci h rfl (fun hb_126 h=>?_) (fun hb_126 h=>?_)
     ·refine T.seq (T.region (go 2 3 (RS.nil ?_)))
      obtain ⟨w_127,h,hw_127⟩:=Qua h
      replace h:=h.trans (congrArg some (hv_124 _ hw_127))
      cases h
      exact tO [(0,168,2)] [3] 3
     refine T.skip (T.seq ?_)
     obtain ⟨x12,hx12,h⟩:=bind_some h
     obtain ⟨zt_129,hz,h⟩:=bind_some h
     revert hz h;revert zt_129;intro c14 hz h
     refine T.join (Z:=Unit) (fun _=>mkA 197 [(1,.ptr 0 0),(4,.ref 1),(5,iI s5),(6,iI s6),(7,.ptr 2 0),(51,sL Jda p0.Nodes),(52,iI ((p0.Nodes).length:Int)),(53,iI s6),(80,.bool c14)]) (fun _=>[.box (Jca p0),aR 168 2 Q7a s7,.box (Jda x9)]) (fun _=>True) (fun _ _=>?_) (fun hK=>?_)
     ·refine T.ci h rfl (fun hb_130 h=>?_) (fun hb_130 h=>?_)
      ·refine T.seq (T.region (go 2 3 (RS.nil ?_)))
       obtain ⟨w_131,h,hw_131⟩:=Qua h
       replace h:=h.trans (congrArg some (hv_124 _ hw_131))
       cases h
       exact tO [(0,168,2)] [3] 3
      refine T.skip (T.seq (T.join (Z:=Unit) (fun _=>mkA 197 [(1,.ptr 0 0),(4,.ref 1),(5,iI s5),(6,iI s6),(7,.ptr 2 0),(51,sL Jda p0.Nodes),(52,iI ((p0.Nodes).length:Int)),(53,iI s6),(118,.bool ((decide (x9.A<0)) || (if (x9.Kind==1)=true then ((decide (x9.A ≥ 4)) || (if (x9.Kind==2)=true then ((decide (x9.A > 3)) || ((x9.Kind != 1) && ((x9.Kind != 2) && x9.A != 0))) else ((x9.Kind != 1) && ((x9.Kind != 2) && x9.A != 0)))) else (if (x9.Kind==2)=true then ((decide (x9.A > 3)) || ((x9.Kind != 1) && ((x9.Kind != 2) && x9.A != 0))) else ((x9.Kind != 1) && ((x9.Kind != 2) && x9.A != 0))))))]) (fun _=>[.box (Jca p0),aR 168 2 Q7a s7,.box (Jda x9)]) (fun _=>True) (fun _ _=>?_) (fun hK=>?_)))
      ·refine T.ci h rfl (fun hb_147 h=>?_) (fun hb_147 h=>?_)
       ·refine T.seq (T.region (go 2 3 (RS.nil ?_)))
        obtain ⟨w_148,h,hw_148⟩:=Qua h
        replace h:=h.trans (congrArg some (hv_124 _ hw_148))
        cases h
        exact tO [(0,168,2)] [3] 3
       refine T.skip (T.join (Z:=Int) (fun zz_150=>mkA 197 [(1,.ptr 0 0),(4,.ref 1),(5,iI zz_150),(6,iI s6),(7,.ptr 2 0),(51,sL Jda p0.Nodes),(52,iI ((p0.Nodes).length:Int)),(53,iI s6)]) (fun zz_150=>[.box (Jca p0),aR 168 2 Q7a s7,.box (Jda x9)]) (fun zz_150=>Q4b p0 s6 s7 x9 zz_150=some v_124) (fun zz_150 h=>?_) (fun hK3=>?_))
       ·revert h;revert zz_150;intro z15 h
        replace h:Q4b p0 s6 s7 x9 z15=some v_124:=h
        try dsimp only
        unfold Q4b at h
        refine T.seq (T.seq (T.region (go 2 3 (sQ (Qha Ty.s26 rfl (go 1 3 (RS.nil (T.block (T.iter (fun ss_159:Int × (List Ends)=>mkA 197 [(1,.ptr 0 0),(4,.ref 1),(5,iI z15),(6,iI s6),(7,.ptr 2 0),(51,sL Jda p0.Nodes),(52,iI ((p0.Nodes).length:Int)),(53,iI s6),(125,sL encI x9.In),(126,iI ((x9.In).length:Int)),(127,iI ss_159.1)]) (fun ss_159=>[.box (Jca p0),aR 168 2 Q7a ss_159.2,.box (Jda x9)]) h (wk [] [0,1,2] 3 rfl) (fun ss_159 v_160 h hv_160=>?_))))))))))
        obtain ⟨s16,s17⟩:=ss_159
        replace h:Y3a p0 s6 x9 z15 s16 s17=some v_160:=h
        try dsimp only
        unfold Y3a at h
        refine T.seq (T.region (go 1 3 (RS.nil (T.seq (T.ci h rfl (fun hb_161 h=>?_) (fun hb_161 h=>?_))))))
        ·refine T.skip (T.seq (T.block (T.seq ?_)))
         obtain ⟨x19,hx19,h⟩:=bind_some h
         refine T.region (sQ (Qga Ty.s26 (fun _=>rfl) rfl rfl hx19 (go 2 3 (RS.nil (T.seq (T.join (Z:=Unit) (fun _=>mkA 197 [(1,.ptr 0 0),(4,.ref 1),(5,iI z15),(6,iI s6),(7,.ptr 2 0),(12,iI x19),(51,sL Jda p0.Nodes),(52,iI ((p0.Nodes).length:Int)),(53,iI s6),(125,sL encI x9.In),(126,iI ((x9.In).length:Int)),(127,iI s16),(138,.bool ((decide (x19<0)) || decide (x19 ≥ p0.Rings)))]) (fun _=>[.box (Jca p0),aR 168 2 Q7a s17,.box (Jda x9)]) (fun _=>True) (fun _ _=>?_) (fun hK=>?_)))))))
         ·refine T.ci h rfl (fun hb_163 h=>?_) (fun hb_163 h=>?_)
          ·refine T.seq (T.region (go 2 3 (RS.nil ?_)))
           obtain ⟨w_164,h,hw_164⟩:=Qua h
           replace h:=h.trans (congrArg some (hv_160 _ hw_164))
           obtain ⟨w_165,h,hw_165⟩:=Qua h
           replace h:=h.trans (congrArg some (hv_124 _ hw_165))
           cases h
           exact tO [(0,168,2)] [3] 3
          refine T.skip (T.seq (T.seq ?_))
          obtain ⟨x23,hx23,h⟩:=bind_some h
          obtain ⟨x24,hx24,h⟩:=bind_some h
          refine T.region (go 2 3 (sQ (Qta (en:=Q7a) Ty.s164 rfl rfl rfl hx23 (go 1 3 (sO (Q2a (en:=Q7a) (a:=x24) rfl rfl hx24 (J3a Ty.k3 (c:=iI x24.dst) rfl (go 1 3 (RS.nil (T.ci h rfl (fun hb_166 h=>?_) (fun hb_166 h=>?_)))))))))))
          ·refine T.seq (T.region (go 2 3 (RS.nil ?_)))
           obtain ⟨w_167,h,hw_167⟩:=Qua h
           replace h:=h.trans (congrArg some (hv_160 _ hw_167))
           obtain ⟨w_168,h,hw_168⟩:=Qua h
           replace h:=h.trans (congrArg some (hv_124 _ hw_168))
           cases h
           exact tO [(0,168,2)] [3] 3
          refine T.skip ?_
          obtain ⟨x25,hx25,h⟩:=bind_some h
          obtain ⟨x26,hx26,h⟩:=bind_some h
          refine T.region (go 3 3 (sQ (Qta (en:=Q7a) Ty.s164 rfl rfl rfl hx25 (go 1 3 (sO (Z6a (en:=Q7a) (a:=x26) (a':=(⟨x26.src,s6⟩:Ends)) Ty.c3 Ty.i3 rfl (vs:=[iI s6]) rfl rfl rfl hx26 rfl rfl rfl (RS.nil (T.region (go 2 3 (RS.nil ?_))))))))))
          exact ⟨(IntKind.i64.wrap (s16+1),(List.set s17 x25 (⟨x26.src,s6⟩:Ends))),(Option.some.inj h).symm,wk [] [0,1,2] 3 rfl⟩
         refine T.region (go 3 3 ?_)
         rcases Qca (decide (x19<0)) with hb_162 | hb_162
         ·refine sN hb_162 (sN hb_162 (sN hb_162 (sN hb_162 (sQ (Qfa (v:=.bool true) rfl hb_162 rfl (RS.nil ?_))))))
          exact T.sub (hK () trivial) ⟨rfl,rfl,rfl,rfl,rfl,rfl,rfl,rfl,rfl,rfl,rfl,rfl,(congrArg AV.bool (by simp only [hb_162,bz,if_true,if_false,Bool.false_eq_true])).symm,trivial⟩
         refine yg 3 hb_162 (yg 3 hb_162 (yg 3 hb_162 (yg 3 hb_162 (sQ (Qda (v:=.bool (decide (x19 ≥ p0.Rings))) rfl hb_162 rfl (RS.nil ?_))))))
         exact T.sub (hK () trivial) ⟨rfl,rfl,rfl,rfl,rfl,rfl,rfl,rfl,rfl,rfl,rfl,rfl,(congrArg AV.bool (by simp only [hb_162,bz,if_true,if_false,Bool.false_eq_true])).symm,trivial⟩
        refine T.exit ?_
        obtain ⟨w_169,h,hw_169⟩:=Qua h
        replace h:=h.trans (congrArg some (hv_160 _ hw_169))
        refine T.seq (T.region (go 2 3 (sQ (Qha Ty.s26 rfl (go 1 3 (RS.nil (T.block (T.iter (fun ss_178:Int × (List Ends)=>mkA 197 [(1,.ptr 0 0),(4,.ref 1),(5,iI z15),(6,iI s6),(51,sL Jda p0.Nodes),(52,iI ((p0.Nodes).length:Int)),(53,iI s6),(152,sL encI x9.Out),(153,iI ((x9.Out).length:Int)),(154,iI ss_178.1)]) (fun ss_178=>[.box (Jca p0),aR 168 2 Q7a ss_178.2]) h (wk [] [0,1] 3 rfl) (fun ss_178 v_179 h hv_179=>?_)))))))))
        obtain ⟨s27,s28⟩:=ss_178
        replace h:Y5a p0 s6 x9 z15 s27 s28=some v_179:=h
        try dsimp only
        unfold Y5a at h
        refine T.seq (T.region (go 1 2 (RS.nil (T.seq (T.ci h rfl (fun hb_180 h=>?_) (fun hb_180 h=>?_))))))
        ·refine T.skip (T.seq (T.block (T.seq ?_)))
         obtain ⟨x30,hx30,h⟩:=bind_some h
         refine T.region (sQ (Qga Ty.s26 (fun _=>rfl) rfl rfl hx30 (go 2 2 (RS.nil (T.seq (T.join (Z:=Unit) (fun _=>mkA 197 [(1,.ptr 0 0),(4,.ref 1),(5,iI z15),(6,iI s6),(14,iI x30),(51,sL Jda p0.Nodes),(52,iI ((p0.Nodes).length:Int)),(53,iI s6),(152,sL encI x9.Out),(153,iI ((x9.Out).length:Int)),(154,iI s27),(165,.bool ((decide (x30<0)) || decide (x30 ≥ p0.Rings)))]) (fun _=>[.box (Jca p0),aR 168 2 Q7a s28]) (fun _=>True) (fun _ _=>?_) (fun hK=>?_)))))))
         ·refine T.ci h rfl (fun hb_182 h=>?_) (fun hb_182 h=>?_)
          ·refine T.seq (T.region (go 2 2 (RS.nil ?_)))
           obtain ⟨w_183,h,hw_183⟩:=Qua h
           replace h:=h.trans (congrArg some (hv_179 _ hw_183))
           obtain ⟨w_184,h,hw_184⟩:=Qua h
           replace h:=h.trans (congrArg some (hv_124 _ hw_184))
           cases h
           exact tO [(0,168,2)] [2] 2
          refine T.skip (T.seq (T.seq ?_))
          obtain ⟨x34,hx34,h⟩:=bind_some h
          obtain ⟨x35,hx35,h⟩:=bind_some h
          refine T.region (go 2 2 (sQ (Qta (en:=Q7a) Ty.s164 rfl rfl rfl hx34 (go 1 2 (sO (Q2a (en:=Q7a) (a:=x35) rfl rfl hx35 (J3a Ty.k3 (c:=iI x35.src) rfl (go 1 2 (RS.nil (T.ci h rfl (fun hb_185 h=>?_) (fun hb_185 h=>?_)))))))))))
          ·refine T.seq (T.region (go 2 2 (RS.nil ?_)))
           obtain ⟨w_186,h,hw_186⟩:=Qua h
           replace h:=h.trans (congrArg some (hv_179 _ hw_186))
           obtain ⟨w_187,h,hw_187⟩:=Qua h
           replace h:=h.trans (congrArg some (hv_124 _ hw_187))
           cases h
           exact tO [(0,168,2)] [2] 2
          refine T.skip ?_
          obtain ⟨x36,hx36,h⟩:=bind_some h
          obtain ⟨x37,hx37,h⟩:=bind_some h
          refine T.region (go 3 2 (sQ (Qta (en:=Q7a) Ty.s164 rfl rfl rfl hx36 (go 1 2 (sO (Z6a (en:=Q7a) (a:=x37) (a':=(⟨s6,x37.dst⟩:Ends)) Ty.c3 Ty.i3 rfl (vs:=[iI s6]) rfl rfl rfl hx37 rfl rfl rfl (RS.nil (T.region (go 2 2 (RS.nil ?_))))))))))
          exact ⟨(IntKind.i64.wrap (s27+1),(List.set s28 x36 (⟨s6,x37.dst⟩:Ends))),(Option.some.inj h).symm,wk [] [0,1] 2 rfl⟩
         refine T.region (go 3 2 ?_)
         rcases Qca (decide (x30<0)) with hb_181 | hb_181
         ·refine sN hb_181 (sN hb_181 (sN hb_181 (sN hb_181 (sQ (Qfa (v:=.bool true) rfl hb_181 rfl (RS.nil ?_))))))
          exact T.sub (hK () trivial) ⟨rfl,rfl,rfl,rfl,rfl,rfl,rfl,rfl,rfl,rfl,rfl,(congrArg AV.bool (by simp only [hb_181,bz,if_true,if_false,Bool.false_eq_true])).symm,trivial⟩
         refine yg 2 hb_181 (yg 2 hb_181 (yg 2 hb_181 (yg 2 hb_181 (sQ (Qda (v:=.bool (decide (x30 ≥ p0.Rings))) rfl hb_181 rfl (RS.nil ?_))))))
         exact T.sub (hK () trivial) ⟨rfl,rfl,rfl,rfl,rfl,rfl,rfl,rfl,rfl,rfl,rfl,(congrArg AV.bool (by simp only [hb_181,bz,if_true,if_false,Bool.false_eq_true])).symm,trivial⟩
        refine T.exit ?_
        obtain ⟨w_188,h,hw_188⟩:=Qua h
        replace h:=h.trans (congrArg some (hv_179 _ hw_188))
        refine T.region (go 2 2 (RS.nil ?_))
        exact ⟨(z15,IntKind.i64.wrap (s6+1),s28),(Option.some.inj h).symm,wk [] [0,1] 2 rfl⟩
       refine T.seq (T.region (go 3 3 (RS.nil (T.ci h rfl (fun hb_189 h=>?_) (fun hb_189 h=>?_)))))
       ·refine T.region (go 3 3 (RS.nil ?_))
        exact T.weakR (hK3 (IntKind.i64.wrap (s5+1)) h) (wk [] [0,1,2] 3 rfl)
       refine T.skip ?_
       exact T.su (hK3 s5 h)
      refine T.region (go 4 3 ?_)
      rcases Qca (decide (x9.A<0)) with hb_132 | hb_132
      ·refine sN hb_132 (sN hb_132 (sN hb_132 (sN hb_132 (sU (sU (sU (sN hb_132 (sQ (Qfa (v:=.bool true) rfl hb_132 rfl (go 1 3 ?_))))))))))
       refine sN rfl (sN rfl (sN rfl (sN rfl (sU (sU (sU (sN rfl (sQ (Qfa (v:=.bool true) rfl rfl rfl (go 1 3 ?_))))))))))
       refine sN rfl (sN rfl (sN rfl (sN rfl (sU (sU (sU (sN rfl (sN rfl (sU ?_)))))))))
       refine sU (sU (sN rfl (sQ (Qfa (v:=.bool true) rfl rfl rfl (RS.nil ?_)))))
       exact T.sub (hK () trivial) ⟨rfl,rfl,rfl,rfl,rfl,rfl,rfl,rfl,(congrArg AV.bool (by simp only [hb_132,bz,if_true,if_false,Bool.false_eq_true])).symm,trivial⟩
      refine yg 3 hb_132 (yg 3 hb_132 (yg 3 hb_132 (yg 3 hb_132 ?_)))
      rcases Qca (x9.Kind==1) with hb_133 | hb_133
      ·refine yg 3 hb_133 (yg 3 hb_133 (yg 3 hb_133 (yQ hb_132 (Qfa (v:=.bool (decide (x9.A ≥ 4))) rfl hb_133 rfl (sQ (Qda (v:=.bool (decide (x9.A ≥ 4))) rfl hb_132 rfl (go 1 3 ?_)))))))
       rcases Qca (decide (x9.A ≥ 4)) with hb_134 | hb_134
       ·refine sN hb_134 (sN hb_134 (sN hb_134 (sN hb_134 (sU (sU (sU (sN hb_134 (sQ (Qfa (v:=.bool true) rfl hb_134 rfl (go 1 3 ?_))))))))))
        refine sN rfl (sN rfl (sN rfl (sN rfl (sU (sU (sU (sN rfl (sN rfl (sU ?_)))))))))
        refine sU (sU (sN rfl (sQ (Qfa (v:=.bool true) rfl rfl rfl (RS.nil ?_)))))
        exact T.sub (hK () trivial) ⟨rfl,rfl,rfl,rfl,rfl,rfl,rfl,rfl,(congrArg AV.bool (by simp only [hb_132,hb_133,hb_134,bz,if_true,if_false,Bool.false_eq_true])).symm,trivial⟩
       refine yg 3 hb_134 (yg 3 hb_134 (yg 3 hb_134 (yg 3 hb_134 ?_)))
       rcases Qca (x9.Kind==2) with hb_135 | hb_135
       ·refine yg 3 hb_135 (yg 3 hb_135 (yg 3 hb_135 (yQ hb_134 (Qfa (v:=.bool (decide (x9.A > 3))) rfl hb_135 rfl (sQ (Qda (v:=.bool (decide (x9.A > 3))) rfl hb_134 rfl (go 1 3 ?_)))))))
        rcases Qca (decide (x9.A > 3)) with hb_136 | hb_136
        ·refine sN hb_136 (sN hb_136 (sN hb_136 (sN hb_136 (sU (sU (sU (sN hb_136 (sN hb_136 (sU ?_)))))))))
         refine sU (sU (sN hb_136 (sQ (Qfa (v:=.bool true) rfl hb_136 rfl (RS.nil ?_)))))
         exact T.sub (hK () trivial) ⟨rfl,rfl,rfl,rfl,rfl,rfl,rfl,rfl,(congrArg AV.bool (by simp only [hb_132,hb_133,hb_134,hb_135,hb_136,bz,if_true,if_false,Bool.false_eq_true])).symm,trivial⟩
        refine yg 3 hb_136 (yg 3 hb_136 (yg 3 hb_136 (yg 3 hb_136 ?_)))
        rcases Qca (x9.Kind != 1) with hb_137 | hb_137
        ·refine yg 3 hb_137 (yg 3 hb_137 (yg 3 hb_137 (yQ hb_136 (Qfa (v:=.bool (x9.Kind != 2)) rfl hb_137 rfl (yg 3 hb_136 ?_)))))
         rcases Qca (x9.Kind != 2) with hb_138 | hb_138
         ·refine yg 3 hb_138 (yg 3 hb_138 (yg 3 hb_138 (yQ hb_136 (Qfa (v:=.bool (x9.A != 0)) rfl hb_138 rfl (sQ (Qda (v:=.bool (x9.A != 0)) rfl hb_136 rfl (RS.nil ?_)))))))
          exact T.sub (hK () trivial) ⟨rfl,rfl,rfl,rfl,rfl,rfl,rfl,rfl,(congrArg AV.bool (by simp only [hb_132,hb_133,hb_134,hb_135,hb_136,hb_137,hb_138,bz,if_true,if_false,Bool.false_eq_true])).symm,trivial⟩
         refine sN hb_138 (sN hb_138 (sN hb_138 (yQ hb_136 (Qda (v:=.bool false) rfl hb_138 rfl (sQ (Qda (v:=.bool false) rfl hb_136 rfl (RS.nil ?_)))))))
         exact T.sub (hK () trivial) ⟨rfl,rfl,rfl,rfl,rfl,rfl,rfl,rfl,(congrArg AV.bool (by simp only [hb_132,hb_133,hb_134,hb_135,hb_136,hb_137,hb_138,bz,if_true,if_false,Bool.false_eq_true])).symm,trivial⟩
        refine sN hb_137 (sN hb_137 (sN hb_137 (yQ hb_136 (Qda (v:=.bool false) rfl hb_137 rfl (yg 3 hb_136 (sN rfl (sN rfl (sN rfl (yQ hb_136 (Qda (v:=.bool false) rfl rfl rfl (sQ (Qda (v:=.bool false) rfl hb_136 rfl ?_))))))))))))
        refine RS.nil ?_
        exact T.sub (hK () trivial) ⟨rfl,rfl,rfl,rfl,rfl,rfl,rfl,rfl,(congrArg AV.bool (by simp only [hb_132,hb_133,hb_134,hb_135,hb_136,hb_137,bz,if_true,if_false,Bool.false_eq_true])).symm,trivial⟩
       refine sN hb_135 (sN hb_135 (sN hb_135 (yQ hb_134 (Qda (v:=.bool false) rfl hb_135 rfl (sQ (Qda (v:=.bool false) rfl hb_134 rfl (go 1 3 (yg 3 rfl (yg 3 rfl (yg 3 rfl (yg 3 rfl ?_)))))))))))
       rcases Qca (x9.Kind != 1) with hb_139 | hb_139
       ·refine yg 3 hb_139 (yg 3 hb_139 (yg 3 hb_139 (yQ rfl (Qfa (v:=.bool (x9.Kind != 2)) rfl hb_139 rfl (yg 3 rfl ?_)))))
        rcases Qca (x9.Kind != 2) with hb_140 | hb_140
        ·refine yg 3 hb_140 (yg 3 hb_140 (yg 3 hb_140 (yQ rfl (Qfa (v:=.bool (x9.A != 0)) rfl hb_140 rfl (sQ (Qda (v:=.bool (x9.A != 0)) rfl rfl rfl (RS.nil ?_)))))))
         exact T.sub (hK () trivial) ⟨rfl,rfl,rfl,rfl,rfl,rfl,rfl,rfl,(congrArg AV.bool (by simp only [hb_132,hb_133,hb_134,hb_135,hb_139,hb_140,bz,if_true,if_false,Bool.false_eq_true])).symm,trivial⟩
        refine sN hb_140 (sN hb_140 (sN hb_140 (yQ rfl (Qda (v:=.bool false) rfl hb_140 rfl (sQ (Qda (v:=.bool false) rfl rfl rfl (RS.nil ?_)))))))
        exact T.sub (hK () trivial) ⟨rfl,rfl,rfl,rfl,rfl,rfl,rfl,rfl,(congrArg AV.bool (by simp only [hb_132,hb_133,hb_134,hb_135,hb_139,hb_140,bz,if_true,if_false,Bool.false_eq_true])).symm,trivial⟩
       refine sN hb_139 (sN hb_139 (sN hb_139 (yQ rfl (Qda (v:=.bool false) rfl hb_139 rfl (yg 3 rfl (sN rfl (sN rfl (sN rfl (yQ rfl (Qda (v:=.bool false) rfl rfl rfl (sQ (Qda (v:=.bool false) rfl rfl rfl ?_))))))))))))
       refine RS.nil ?_
       exact T.sub (hK () trivial) ⟨rfl,rfl,rfl,rfl,rfl,rfl,rfl,rfl,(congrArg AV.bool (by simp only [hb_132,hb_133,hb_134,hb_135,hb_139,bz,if_true,if_false,Bool.false_eq_true])).symm,trivial⟩
      refine sN hb_133 (sN hb_133 (sN hb_133 (yQ hb_132 (Qda (v:=.bool false) rfl hb_133 rfl (sQ (Qda (v:=.bool false) rfl hb_132 rfl (go 1 3 (yg 3 rfl (yg 3 rfl (yg 3 rfl (yg 3 rfl ?_)))))))))))
      rcases Qca (x9.Kind==2) with hb_141 | hb_141
      ·refine yg 3 hb_141 (yg 3 hb_141 (yg 3 hb_141 (yQ rfl (Qfa (v:=.bool (decide (x9.A > 3))) rfl hb_141 rfl (sQ (Qda (v:=.bool (decide (x9.A > 3))) rfl rfl rfl (go 1 3 ?_)))))))
       rcases Qca (decide (x9.A > 3)) with hb_142 | hb_142
       ·refine sN hb_142 (sN hb_142 (sN hb_142 (sN hb_142 (sU (sU (sU (sN hb_142 (sN hb_142 (sU ?_)))))))))
        refine sU (sU (sN hb_142 (sQ (Qfa (v:=.bool true) rfl hb_142 rfl (RS.nil ?_)))))
        exact T.sub (hK () trivial) ⟨rfl,rfl,rfl,rfl,rfl,rfl,rfl,rfl,(congrArg AV.bool (by simp only [hb_132,hb_133,hb_141,hb_142,bz,if_true,if_false,Bool.false_eq_true])).symm,trivial⟩
       refine yg 3 hb_142 (yg 3 hb_142 (yg 3 hb_142 (yg 3 hb_142 ?_)))
       rcases Qca (x9.Kind != 1) with hb_143 | hb_143
       ·refine yg 3 hb_143 (yg 3 hb_143 (yg 3 hb_143 (yQ hb_142 (Qfa (v:=.bool (x9.Kind != 2)) rfl hb_143 rfl (yg 3 hb_142 ?_)))))
        rcases Qca (x9.Kind != 2) with hb_144 | hb_144
        ·refine yg 3 hb_144 (yg 3 hb_144 (yg 3 hb_144 (yQ hb_142 (Qfa (v:=.bool (x9.A != 0)) rfl hb_144 rfl (sQ (Qda (v:=.bool (x9.A != 0)) rfl hb_142 rfl (RS.nil ?_)))))))
         exact T.sub (hK () trivial) ⟨rfl,rfl,rfl,rfl,rfl,rfl,rfl,rfl,(congrArg AV.bool (by simp only [hb_132,hb_133,hb_141,hb_142,hb_143,hb_144,bz,if_true,if_false,Bool.false_eq_true])).symm,trivial⟩
        refine sN hb_144 (sN hb_144 (sN hb_144 (yQ hb_142 (Qda (v:=.bool false) rfl hb_144 rfl (sQ (Qda (v:=.bool false) rfl hb_142 rfl (RS.nil ?_)))))))
        exact T.sub (hK () trivial) ⟨rfl,rfl,rfl,rfl,rfl,rfl,rfl,rfl,(congrArg AV.bool (by simp only [hb_132,hb_133,hb_141,hb_142,hb_143,hb_144,bz,if_true,if_false,Bool.false_eq_true])).symm,trivial⟩
       refine sN hb_143 (sN hb_143 (sN hb_143 (yQ hb_142 (Qda (v:=.bool false) rfl hb_143 rfl (yg 3 hb_142 (sN rfl (sN rfl (sN rfl (yQ hb_142 (Qda (v:=.bool false) rfl rfl rfl (sQ (Qda (v:=.bool false) rfl hb_142 rfl ?_))))))))))))
       refine RS.nil ?_
       exact T.sub (hK () trivial) ⟨rfl,rfl,rfl,rfl,rfl,rfl,rfl,rfl,(congrArg AV.bool (by simp only [hb_132,hb_133,hb_141,hb_142,hb_143,bz,if_true,if_false,Bool.false_eq_true])).symm,trivial⟩
      refine sN hb_141 (sN hb_141 (sN hb_141 (yQ rfl (Qda (v:=.bool false) rfl hb_141 rfl (sQ (Qda (v:=.bool false) rfl rfl rfl (go 1 3 (yg 3 rfl (yg 3 rfl (yg 3 rfl (yg 3 rfl ?_)))))))))))
      rcases Qca (x9.Kind != 1) with hb_145 | hb_145
      ·refine yg 3 hb_145 (yg 3 hb_145 (yg 3 hb_145 (yQ rfl (Qfa (v:=.bool (x9.Kind != 2)) rfl hb_145 rfl (yg 3 rfl ?_)))))
       rcases Qca (x9.Kind != 2) with hb_146 | hb_146
       ·refine yg 3 hb_146 (yg 3 hb_146 (yg 3 hb_146 (yQ rfl (Qfa (v:=.bool (x9.A != 0)) rfl hb_146 rfl (sQ (Qda (v:=.bool (x9.A != 0)) rfl rfl rfl (RS.nil ?_)))))))
        exact T.sub (hK () trivial) ⟨rfl,rfl,rfl,rfl,rfl,rfl,rfl,rfl,(congrArg AV.bool (by simp only [hb_132,hb_133,hb_141,hb_145,hb_146,bz,if_true,if_false,Bool.false_eq_true])).symm,trivial⟩
       refine sN hb_146 (sN hb_146 (sN hb_146 (yQ rfl (Qda (v:=.bool false) rfl hb_146 rfl (sQ (Qda (v:=.bool false) rfl rfl rfl (RS.nil ?_)))))))
       exact T.sub (hK () trivial) ⟨rfl,rfl,rfl,rfl,rfl,rfl,rfl,rfl,(congrArg AV.bool (by simp only [hb_132,hb_133,hb_141,hb_145,hb_146,bz,if_true,if_false,Bool.false_eq_true])).symm,trivial⟩
      refine sN hb_145 (sN hb_145 (sN hb_145 (yQ rfl (Qda (v:=.bool false) rfl hb_145 rfl (yg 3 rfl (sN rfl (sN rfl (sN rfl (yQ rfl (Qda (v:=.bool false) rfl rfl rfl (sQ (Qda (v:=.bool false) rfl rfl rfl ?_))))))))))))
      refine RS.nil ?_
      exact T.sub (hK () trivial) ⟨rfl,rfl,rfl,rfl,rfl,rfl,rfl,rfl,(congrArg AV.bool (by simp only [hb_132,hb_133,hb_141,hb_145,bz,if_true,if_false,Bool.false_eq_true])).symm,trivial⟩
     refine T.region (go 2 3 (sQ (Qha Ty.s26 rfl (go 1 3 (sO (cF (net_fits_c ((x9.In).length:Int) x11.1 x12 hx12) ⟨rfl,(go 2 3 ?_)⟩))))))
     rcases Qca (!x12) with hb_128 | hb_128
     ·replace hz:=ite_T hz hb_128
      refine sN hb_128 (sN hb_128 (sN hb_128 (sN hb_128 (sN hb_128 (sN hb_128 (sQ (Qfa (v:=.bool true) rfl hb_128 rfl (RS.nil ?_))))))))
      exact T.sub (hK () trivial) ⟨rfl,rfl,rfl,rfl,rfl,rfl,rfl,rfl,(congrArg AV.bool ((congrArg (fun p=>p) (Option.some.inj hz)).symm)).symm,trivial⟩
     replace hz:=ite_F hz hb_128
     obtain ⟨x13,hx13,hz⟩:=bind_some hz
     refine yg 3 hb_128 (yg 3 hb_128 (yQ hb_128 (Qha Ty.s26 rfl (yg 3 hb_128 (yO hb_128 (cF (net_fits_c ((x9.Out).length:Int) x11.2.1 x13 hx13) ⟨rfl,(yg 3 hb_128 (sQ (Qda (v:=.bool (!x13)) rfl hb_128 rfl (RS.nil ?_))))⟩))))))
     exact T.sub (hK () trivial) ⟨rfl,rfl,rfl,rfl,rfl,rfl,rfl,rfl,(congrArg AV.bool ((congrArg (fun p=>p) (Option.some.inj hz)).symm)).symm,trivial⟩
    refine T.exit ?_
    obtain ⟨w_190,h,hw_190⟩:=Qua h
    replace h:=h.trans (congrArg some (hv_124 _ hw_190))
    refine T.seq (T.seq (T.region (go 1 2 (sQ (Yoa (en:=Q7a) Ty.s164 rfl rfl (go 1 2 (RS.nil (T.block (T.iter (fun ss_197:Int=>mkA 197 [(4,.ref 0),(5,iI s5),(179,.ref 0),(180,iI ((s7).length:Int)),(181,iI ss_197)]) (fun ss_197=>[aR 168 2 Q7a s7]) h (wk [] [1] 2 rfl) (fun ss_197 v_198 h hv_198=>?_))))))))))
    revert hv_198 h;revert ss_197;intro s38 h hv_198
    replace h:Q0b s5 s7 s38=some v_198:=h
    try dsimp only
    unfold Q0b at h
    refine T.seq (T.region (go 1 1 (RS.nil (T.seq (T.ci h rfl (fun hb_199 h=>?_) (fun hb_199 h=>?_))))))
    ·refine T.skip (T.seq (T.block (T.seq ?_)))
     obtain ⟨x41,hx41,h⟩:=bind_some h
     obtain ⟨x42,hx42,h⟩:=bind_some h
     refine T.region (sQ (Qta (en:=Q7a) Ty.s164 rfl rfl rfl hx41 (sO (Q2a (en:=Q7a) (a:=x42) rfl rfl hx42 (loadRowA Ty.k168 Ty.c168 rfl (cs:=(Q7a x42)) rfl (go 2 1 (RS.nil (T.join (Z:=Unit) (fun _=>mkA 197 [(4,.ref 0),(5,iI s5),(179,.ref 0),(180,iI ((s7).length:Int)),(181,iI s38),(192,.bool ((decide (x42.src<0)) || decide (x42.dst<0)))]) (fun _=>[aR 168 2 Q7a s7]) (fun _=>True) (fun _ _=>?_) (fun hK=>?_)))))))))
     ·refine T.ci h rfl (fun hb_201 h=>?_) (fun hb_201 h=>?_)
      ·refine T.seq (T.region (go 2 1 (RS.nil ?_)))
       obtain ⟨w_202,h,hw_202⟩:=Qua h
       replace h:=h.trans (congrArg some (hv_198 _ hw_202))
       cases h
       exact tO [(0,168,2)] [1] 1
      refine T.skip (T.region (go 2 1 (RS.nil ?_)))
      exact ⟨IntKind.i64.wrap (s38+1),(Option.some.inj h).symm,wk [] [0] 1 rfl⟩
     refine T.region (go 4 2 ?_)
     rcases Qca (decide (x42.src<0)) with hb_200 | hb_200
     ·refine sN hb_200 (sN hb_200 (sN hb_200 (sQ (Qfa (v:=.bool true) rfl hb_200 rfl (RS.nil ?_)))))
      exact T.weakR (hK () trivial) (Weak.mkN [] [0] (by decide) (Qpa _) rfl ⟨Q6a rfl,Qqa rfl,Q6a rfl,Qqa rfl,Qqa rfl,Jla (by simp only [hb_200,bz,if_true,if_false,Bool.false_eq_true]),trivial⟩ (rw_ar rfl rfl (Qna)))
     refine yg 2 hb_200 (yg 2 hb_200 (yg 2 hb_200 (sQ (Qda (v:=.bool (decide (x42.dst<0))) rfl hb_200 rfl (RS.nil ?_)))))
     exact T.weakR (hK () trivial) (Weak.mkN [] [0] (by decide) (Qpa _) rfl ⟨Q6a rfl,Qqa rfl,Q6a rfl,Qqa rfl,Qqa rfl,Jla (by simp only [hb_200,bz,if_true,if_false,Bool.false_eq_true]),trivial⟩ (rw_ar rfl rfl (Qna)))
    refine T.exit ?_
    obtain ⟨w_203,h,hw_203⟩:=Qua h
    replace h:=h.trans (congrArg some (hv_198 _ hw_203))
    refine T.seq (T.seq (T.region (go 2 1 (RS.nil (T.ci h rfl (fun hb_204 h=>?_) (fun hb_204 h=>?_))))))
    ·refine T.seq (T.region (go 2 1 (RS.nil ?_)))
     cases h
     exact tO [(0,168,2)] [1] 1
    refine T.skip (T.seq (T.region (go 3 1 (RS.nil ?_))))
    cases h
    exact tO [] [0] 1
   refine T.region (go 4 1 ?_)
   rcases Qca (decide (p0.Room<1)) with hb_5 | hb_5
   ·refine sN hb_5 (sN hb_5 (sN hb_5 (sQ (Qfa (v:=.bool true) rfl hb_5 rfl (RS.nil ?_)))))
    exact T.sub (hK () trivial) ⟨rfl,(congrArg AV.bool (by simp only [hb_5,bz,if_true,if_false,Bool.false_eq_true])).symm,trivial⟩
   refine yg 1 hb_5 (yg 1 hb_5 (yg 1 hb_5 (sQ (Qda (v:=.bool (decide (p0.Room > 6))) rfl hb_5 rfl (RS.nil ?_)))))
   exact T.sub (hK () trivial) ⟨rfl,(congrArg AV.bool (by simp only [hb_5,bz,if_true,if_false,Bool.false_eq_true])).symm,trivial⟩
  refine T.region (go 2 1 (sQ (Qha Ty.s22 rfl (go 2 1 ?_))))
  rcases Qca (decide (((p0.Nodes).length:Int)<1)) with hb_1 | hb_1
  ·refine sN hb_1 (sN hb_1 (sN hb_1 (sN hb_1 (sQ (Qfa (v:=.bool true) rfl hb_1 rfl (go 1 1 (sN rfl (sN rfl (sN rfl (sQ (Qfa (v:=.bool true) rfl rfl rfl ?_)))))))))))
   refine go 1 1 (sN rfl (sN rfl (sN rfl (sQ (Qfa (v:=.bool true) rfl rfl rfl (RS.nil ?_))))))
   exact T.sub (hK () trivial) ⟨rfl,(congrArg AV.bool (by simp only [hb_1,bz,if_true,if_false,Bool.false_eq_true])).symm,trivial⟩
  refine yg 1 hb_1 (yg 1 hb_1 (yQ hb_1 (Qha Ty.s22 rfl (yg 1 hb_1 (sQ (Qda (v:=.bool (decide (((p0.Nodes).length:Int) > 12))) rfl hb_1 rfl (go 1 1 ?_)))))))
  rcases Qca (decide (((p0.Nodes).length:Int) > 12)) with hb_2 | hb_2
  ·refine sN hb_2 (sN hb_2 (sN hb_2 (sQ (Qfa (v:=.bool true) rfl hb_2 rfl (go 1 1 (sN rfl (sN rfl (sN rfl (sQ (Qfa (v:=.bool true) rfl rfl rfl (RS.nil ?_)))))))))))
   exact T.sub (hK () trivial) ⟨rfl,(congrArg AV.bool (by simp only [hb_1,hb_2,bz,if_true,if_false,Bool.false_eq_true])).symm,trivial⟩
  refine yg 1 hb_2 (yg 1 hb_2 (yg 1 hb_2 (sQ (Qda (v:=.bool (decide (p0.Rings<0))) rfl hb_2 rfl (go 1 1 ?_)))))
  rcases Qca (decide (p0.Rings<0)) with hb_3 | hb_3
  ·refine sN hb_3 (sN hb_3 (sN hb_3 (sQ (Qfa (v:=.bool true) rfl hb_3 rfl (RS.nil ?_)))))
   exact T.sub (hK () trivial) ⟨rfl,(congrArg AV.bool (by simp only [hb_1,hb_2,hb_3,bz,if_true,if_false,Bool.false_eq_true])).symm,trivial⟩
  refine yg 1 hb_3 (yg 1 hb_3 (yg 1 hb_3 (sQ (Qda (v:=.bool (decide (p0.Rings > 16))) rfl hb_3 rfl (RS.nil ?_)))))
  exact T.sub (hK () trivial) ⟨rfl,(congrArg AV.bool (by simp only [hb_1,hb_2,hb_3,bz,if_true,if_false,Bool.false_eq_true])).symm,trivial⟩
theorem net_Order_1_x523f_c (p0:Int) (p1:List Bool) (p2:List Ends) (r:Bool) (h:Yaa p0 p1 p2=some r):FnX Try.prog 85 [iI p0,.ptr 0 0,.ptr 1 0] [.box [.ref 2],.box [.ref 3],aR 4 1 encB p1,aR 168 2 Q7a p2] (.bool r) [.box [.ref 2],.box [.ref 3],aR 4 1 encB p1,aR 168 2 Q7a p2]:=by
  unfold Yaa at h
  refine fnT 4 Try.func85 Try.ntmps85 ?_
  refine T.seq (T.region (go 1 4 (RS.nil (T.seq ?_))))
  obtain ⟨x5,hx5,h⟩:=bind_some h
  obtain ⟨x6,hx6,h⟩:=bind_some h
  obtain ⟨x7,hx7,h⟩:=bind_some h
  obtain ⟨x8,hx8,h⟩:=bind_some h
  refine T.drawn mixed (k:=10) rfl (rq [2] 9 (rL [1,3,4,5,6,7,8,9] 1 rfl (r0 3 rfl (Qta (en:=Q7a) Ty.s164 rfl rfl rfl hx5 (rq [4] 6 (rL [0,6,7,8,9] 0 rfl (ra1 5 (oO rfl (Q2a (en:=Q7a) (a:=x6) rfl rfl hx6 (J3a Ty.k3 (c:=iI x6.src) rfl (r0 6 rfl (Qta (en:=encB) Ty.s134 rfl rfl rfl hx7 (ra1 7 ?_)))))))))))))
  refine oO rfl (Q2a (en:=encB) (a:=x8) rfl rfl hx8 (J3a Ty.k4 (c:=.bool x8) rfl (rq [8,9] 0 (RA.done (by decide +kernel) ?_))))
  cases h
  exact tN [0,1,2,3]
theorem slices_IndexFunc_int_x5d6b_c (p0:List Int) (p1:List Bool) (p2:List Ends) (r:Int) (h:Zza p0 p1 p2=some r):FnX Try.prog 86 [sL encI p0,.func 85 [.ptr 0 0,.ptr 1 0]] [.box [.ref 2],.box [.ref 3],aR 4 1 encB p1,aR 168 2 Q7a p2] (iI r) [.box [.ref 2],.box [.ref 3],aR 4 1 encB p1,aR 168 2 Q7a p2]:=by
  unfold Zza at h
  refine fnT 4 Try.func86 Try.ntmps86 ?_
  refine T.seq (T.region (go 1 4 (RS.nil (T.seq (T.seq (T.region (go 1 4 (sQ (Qha Ty.s26 rfl (go 1 4 ?_))))))))))
  refine RS.nil (T.block (T.iter (fun ss_5:Int=>mkA 19 [(0,sL encI p0),(1,.func 85 [.ptr 0 0,.ptr 1 0]),(7,iI ((p0).length:Int)),(8,iI ss_5)]) (fun ss_5=>[.box [.ref 2],.box [.ref 3],aR 4 1 encB p1,aR 168 2 Q7a p2]) h (wk [] [0,1,2,3] 4 rfl) (fun ss_5 v_6 h hv_6=>?_)))
  revert hv_6 h;revert ss_5;intro s1 h hv_6
  replace h:Jra p0 p1 p2 s1=some v_6:=h
  try dsimp only
  unfold Jra at h
  refine T.seq (T.region (go 1 4 (RS.nil (T.seq (T.ci h rfl (fun hb_7 h=>?_) (fun hb_7 h=>?_))))))
  ·refine T.skip (T.seq (T.block (T.seq (T.region (go 2 4 (RS.nil (T.seq ?_)))))))
   obtain ⟨x4,hx4,h⟩:=bind_some h
   obtain ⟨x5,hx5,h⟩:=bind_some h
   refine T.region (go 3 4 (sQ (Qga Ty.s26 (fun _=>rfl) rfl rfl hx4 (go 1 4 (sO (Q5a (ac:=[iI x4,.ptr 0 0,.ptr 1 0]) (as0:=[iI x4,.ptr 0 0,.ptr 1 0]) (aw0:=[.box [.ref 2],.box [.ref 3],aR 4 1 encB p1,aR 168 2 Q7a p2]) (aw1:=[.box [.ref 2],.box [.ref 3],aR 4 1 encB p1,aR 168 2 Q7a p2]) (aw2:=[.box [.ref 2],.box [.ref 3],aR 4 1 encB p1,aR 168 2 Q7a p2]) (v:=.bool x5) (v':=.bool x5) (n0:=4) (n1:=4) [0,1,2,3] rfl rfl rfl rfl (by decide) (Jea (cs:=[.ref 2]) (ds:=[.ref 2]) rfl ⟨Q6a rfl,trivial⟩ (Jea (cs:=[.ref 3]) (ds:=[.ref 3]) rfl ⟨Q6a rfl,trivial⟩ (Jwa rfl encB_p rfl (Jwa rfl encEnds_p rfl (Qna))))) ⟨Qqa rfl,Qma rfl,Qma rfl,trivial⟩ (net_Order_1_x523f_c x4 p1 p2 x5 hx5) rfl (Qia (Vfa _)) ⟨.inl ⟨0,_,by decide,rfl,Jaa (cs:=[.ref 2]) (ds:=[.ref 2]) ⟨Jya (by decide),trivial⟩⟩,.inl ⟨1,_,by decide,rfl,Jaa (cs:=[.ref 3]) (ds:=[.ref 3]) ⟨Jya (by decide),trivial⟩⟩,.inl ⟨2,_,by decide,rfl,Jia encB_p⟩,.inl ⟨3,_,by decide,rfl,Jia encEnds_p⟩,trivial⟩ (RS.nil (T.ci h rfl (fun hb_8 h=>?_) (fun hb_8 h=>?_)))))))))
   ·refine T.seq (T.region (go 2 4 (RS.nil ?_)))
    obtain ⟨w_9,h,hw_9⟩:=Qua h
    replace h:=h.trans (congrArg some (hv_6 _ hw_9))
    cases h
    exact tN [0,1,2,3]
   refine T.skip (T.region (go 2 4 (RS.nil ?_)))
   exact ⟨IntKind.i64.wrap (s1+1),(Option.some.inj h).symm,wk [] [0,1,2,3] 4 rfl⟩
  refine T.exit ?_
  obtain ⟨w_10,h,hw_10⟩:=Qua h
  replace h:=h.trans (congrArg some (hv_6 _ hw_10))
  refine T.seq (T.region (go 1 4 (RS.nil ?_)))
  cases h
  exact tN [0,1,2,3]
theorem slices_ContainsFunc_int_x5d6b_c (p0:List Int) (p1:List Bool) (p2:List Ends) (r:Bool) (h:Jsa p0 p1 p2=some r):FnX Try.prog 75 [sL encI p0,.func 85 [.ptr 0 0,.ptr 1 0]] [.box [.ref 2],.box [.ref 3],aR 4 1 encB p1,aR 168 2 Q7a p2] (.bool r) [.box [.ref 2],.box [.ref 3],aR 4 1 encB p1,aR 168 2 Q7a p2]:=by
  unfold Jsa at h
  refine fnT 4 Try.func75 Try.ntmps75 ?_
  refine T.seq (T.region (go 1 4 (RS.nil (T.seq ?_))))
  obtain ⟨x2,hx2,h⟩:=bind_some h
  refine T.region (go 2 4 (sO (Q5a (ac:=[sL encI p0,.func 85 [.ptr 0 0,.ptr 1 0]]) (as0:=[sL encI p0,.func 85 [.ptr 0 0,.ptr 1 0]]) (aw0:=[.box [.ref 2],.box [.ref 3],aR 4 1 encB p1,aR 168 2 Q7a p2]) (aw1:=[.box [.ref 2],.box [.ref 3],aR 4 1 encB p1,aR 168 2 Q7a p2]) (aw2:=[.box [.ref 2],.box [.ref 3],aR 4 1 encB p1,aR 168 2 Q7a p2]) (v:=iI x2) (v':=iI x2) (n0:=4) (n1:=4) [0,1,2,3] rfl rfl rfl rfl (by decide) (Jea (cs:=[.ref 2]) (ds:=[.ref 2]) rfl ⟨Q6a rfl,trivial⟩ (Jea (cs:=[.ref 3]) (ds:=[.ref 3]) rfl ⟨Q6a rfl,trivial⟩ (Jwa rfl encB_p rfl (Jwa rfl encEnds_p rfl (Qna))))) ⟨rn_s rfl,rn_func ⟨Qma rfl,Qma rfl,trivial⟩,trivial⟩ (slices_IndexFunc_int_x5d6b_c p0 p1 p2 x2 hx2) rfl (Qia (Qsa _ _)) ⟨.inl ⟨0,_,by decide,rfl,Jaa (cs:=[.ref 2]) (ds:=[.ref 2]) ⟨Jya (by decide),trivial⟩⟩,.inl ⟨1,_,by decide,rfl,Jaa (cs:=[.ref 3]) (ds:=[.ref 3]) ⟨Jya (by decide),trivial⟩⟩,.inl ⟨2,_,by decide,rfl,Jia encB_p⟩,.inl ⟨3,_,by decide,rfl,Jia encEnds_p⟩,trivial⟩ (go 2 4 (RS.nil ?_)))))
  cases h
  exact tN [0,1,2,3]
theorem net_Order_c (p0:Net) (r:(List Int) × Int) (h:net_Order p0=some r):FnO Try.prog 73 [.agg (Jca p0)] (.tup [.ref 0,iI r.2]) [aR 3 1 encI r.1]:=by
  unfold net_Order at h
  refine fnT 0 Try.func73 Try.ntmps73 ?_
  refine T.seq (T.region (go 3 0 (RS.nil (T.seq ?_))))
  obtain ⟨x2,hx2,h⟩:=bind_some h
  refine T.region (go 1 1 (sO (cO 1 (net_look_c p0 x2 hx2) ⟨rfl,(go 6 2 (RS.nil (T.seq (T.seq (T.region (go 2 3 (RS.nil ?_)))))))⟩)))
  refine T.ci h rfl (fun hb_1 h=>?_) (fun hb_1 h=>?_)
  ·refine T.seq (T.region (go 3 3 (RS.nil ?_)))
   cases h
   exact tO [(0,3,1)] [3] 3
  refine T.skip (T.seq (T.region (go 1 3 (RS.nil (T.seq ?_)))))
  obtain ⟨x4,hx4,h⟩:=bind_some h
  refine T.region (go 2 3 (sQ (Qha Ty.s22 rfl (sO (o_mk (en:=encB) (zr:=false) Ty.s134 Ty.z4 rfl rfl hx4 rfl rfl (go 2 4 (RS.nil (T.seq (T.block (T.iter (fun ss_72:(List Int) × (List Bool)=>mkA 61 [(1,.ptr 0 0),(4,.ptr 1 0),(6,.ref 2),(7,.ptr 3 0)]) (fun ss_72=>[.box (Jca p0),.box [.ref 4],aR 3 1 encI ss_72.1,.box [.ref 5],aR 168 2 Q7a x2.1,aR 4 1 encB ss_72.2]) h (wk [(6,3,1)] [0,2,5,4,1,3] 5 rfl) (fun ss_72 v_73 h hv_73=>?_)))))))))))
  obtain ⟨s5,s6⟩:=ss_72
  replace h:Yea p0 x2 s5 s6=some v_73:=h
  try dsimp only
  unfold Yea at h
  refine T.seq (T.seq (T.region (go 1 6 (sQ (Yoa (en:=encI) Ty.s26 rfl rfl (go 2 6 (sQ (Qha Ty.s22 rfl (go 1 6 (RS.nil (T.ci h rfl (fun hb_74 h=>?_) (fun hb_74 h=>?_))))))))))))
  ·refine T.skip (T.block (T.seq (T.region (go 1 6 (RS.nil (T.join (Z:=Int) (fun zz_91=>mkA 61 [(1,.ptr 0 0),(4,.ptr 1 0),(6,.ref 2),(7,.ptr 3 0),(8,iI zz_91)]) (fun zz_91=>[.box (Jca p0),.box [.ref 4],aR 3 1 encI s5,.box [.ref 5],aR 168 2 Q7a x2.1,aR 4 1 encB s6]) (fun zz_91=>Y1a s5 s6 zz_91=some v_73) (fun zz_91 h=>?_) (fun hK1=>?_)))))))
   ·revert h;revert zz_91;intro z14 h
    replace h:Y1a s5 s6 z14=some v_73:=h
    try dsimp only
    unfold Y1a at h
    refine T.seq (T.seq (T.region (go 2 6 (RS.nil (T.ci h rfl (fun hb_92 h=>?_) (fun hb_92 h=>?_))))))
    ·refine T.seq (T.region (go 2 6 (RS.nil ?_)))
     obtain ⟨w_93,h,hw_93⟩:=Qua h
     replace h:=h.trans (congrArg some (hv_73 _ hw_93))
     cases h
     exact tO [(0,3,1)] [6] 6
    refine T.skip (T.seq ?_)
    obtain ⟨x17,hx17,h⟩:=bind_some h
    obtain ⟨x18,hx18,h⟩:=bind_some h
    refine T.region (go 2 6 (sQ (Qta (en:=encB) Ty.s134 rfl rfl rfl hx17 (sO (Z6a (en:=encB) (a:=x18) (a':=true) Ty.c4 Ty.i4 rfl (vs:=[.bool true]) rfl rfl rfl hx18 rfl rfl rfl (RS.nil ?_))))))
    obtain ⟨x19,hx19,h⟩:=bind_some h
    refine T.region (go 2 6 (sO (Qya (rows:=List.map encI [z14]) (vs:=[iI z14]) Ty.s26 Ty.z3 rfl rfl rfl rfl rfl rfl (sO (Zta (en:=encI) (xs:=s5) (ys:=([z14]:List Int)) Ty.s26 (fun _=>rfl) rfl rfl rfl hx19 rfl rfl (go 1 8 (RS.nil ?_)))))))
    exact ⟨(x19,(List.set s6 x17 true)),(Option.some.inj h).symm,wk [] [0,1,7,3,4,5] 8 rfl⟩
   refine T.seq (T.region (go 2 6 (sQ (Qha Ty.s22 rfl (go 1 6 (RS.nil (T.block (T.iter (fun ss_102:Int=>mkA 61 [(1,.ptr 0 0),(4,.ptr 1 0),(6,.ref 2),(7,.ptr 3 0),(8,iI (-1)),(30,sL Jda p0.Nodes),(31,iI ((p0.Nodes).length:Int)),(32,iI ss_102)]) (fun ss_102=>[.box (Jca p0),.box [.ref 4],aR 3 1 encI s5,.box [.ref 5],aR 168 2 Q7a x2.1,aR 4 1 encB s6]) h (wk [] [0,1,2,3,4,5] 6 rfl) (fun ss_102 v_103 h hv_103=>?_)))))))))
   revert hv_103 h;revert ss_102;intro s7 h hv_103
   replace h:Yga p0 x2 s5 s6 s7=some v_103:=h
   try dsimp only
   unfold Yga at h
   refine T.seq (T.region (go 1 6 (RS.nil (T.seq (T.ci h rfl (fun hb_104 h=>?_) (fun hb_104 h=>?_))))))
   ·refine T.skip (T.seq (T.block (T.seq ?_)))
    obtain ⟨x9,hx9,h⟩:=bind_some h
    refine T.region (go 1 6 (sQ (Qga Ty.s22 (fun _=>rfl) rfl rfl hx9 (go 4 6 (RS.nil ?_)))))
    obtain ⟨x10,hx10,h⟩:=bind_some h
    obtain ⟨x11,hx11,h⟩:=bind_some h
    obtain ⟨zt_106,hz,h⟩:=bind_some h
    revert hz h;revert zt_106;intro c13 hz h
    refine T.join (Z:=Unit) (fun _=>mkA 61 [(1,.ptr 0 0),(4,.ptr 1 0),(6,.ref 2),(7,.ptr 3 0),(8,iI (-1)),(9,iI s7),(30,sL Jda p0.Nodes),(31,iI ((p0.Nodes).length:Int)),(32,iI s7),(48,.bool c13)]) (fun _=>[.box (Jca p0),.box [.ref 4],aR 3 1 encI s5,.box [.ref 5],aR 168 2 Q7a x2.1,aR 4 1 encB s6]) (fun _=>True) (fun _ _=>?_) (fun hK=>?_)
    ·refine T.ci h rfl (fun hb_107 h=>?_) (fun hb_107 h=>?_)
     ·refine T.seq (T.region (go 2 6 (RS.nil (T.exit ?_))))
      obtain ⟨w_108,h,hw_108⟩:=Qua h
      replace h:=h.trans (congrArg some (hv_103 _ hw_108))
      exact T.su (hK1 s7 h)
     refine T.skip (T.region (go 2 6 (RS.nil ?_)))
     exact ⟨IntKind.i64.wrap (s7+1),(Option.some.inj h).symm,wk [] [0,1,2,3,4,5] 6 rfl⟩
    refine T.region (go 2 7 (sQ (Qta (en:=encB) Ty.s134 rfl rfl rfl hx10 (sO (Q2a (en:=encB) (a:=x11) rfl rfl hx11 (J3a Ty.k4 (c:=.bool x11) rfl (go 2 7 ?_)))))))
    rcases Qca (!x11) with hb_105 | hb_105
    ·replace hz:=ite_T hz hb_105
     obtain ⟨x12,hx12,hz⟩:=bind_some hz
     refine yg 7 hb_105 (yg 7 hb_105 (yg 7 hb_105 (yO hb_105 (Q5a (ac:=[sL encI x9.In,.func 85 [.ptr 3 0,.ptr 1 0]]) (as0:=[sL encI x9.In,.func 85 [.ptr 0 0,.ptr 1 0]]) (aw0:=[.box [.ref 2],.box [.ref 3],aR 4 1 encB s6,aR 168 2 Q7a x2.1]) (aw1:=[.box [.ref 2],.box [.ref 3],aR 4 1 encB s6,aR 168 2 Q7a x2.1]) (aw2:=[.box (Jca p0),.box [.ref 4],aR 3 1 encI s5,.box [.ref 5],aR 168 2 Q7a x2.1,aR 4 1 encB s6,.box (Jda x9)]) (v:=.bool x12) (v':=.bool x12) (n0:=7) (n1:=4) [3,1,5,4] rfl rfl rfl rfl (by decide) (Jea (cs:=[.ref 2]) (ds:=[.ref 5]) rfl ⟨Q6a rfl,trivial⟩ (Jea (cs:=[.ref 3]) (ds:=[.ref 4]) rfl ⟨Q6a rfl,trivial⟩ (Jwa rfl encB_p rfl (Jwa rfl encEnds_p rfl (Qna))))) ⟨rn_s rfl,rn_func ⟨Qma rfl,Qma rfl,trivial⟩,trivial⟩ (slices_ContainsFunc_int_x5d6b_c x9.In s6 x2.1 x12 hx12) rfl (Qia (Vfa _)) ⟨.inr ⟨rfl,rfl⟩,.inl ⟨1,_,by decide,rfl,Jaa (cs:=[.ref 4]) (ds:=[.ref 3]) ⟨Jya (by decide),trivial⟩⟩,.inr ⟨rfl,rfl⟩,.inl ⟨0,_,by decide,rfl,Jaa (cs:=[.ref 5]) (ds:=[.ref 2]) ⟨Jya (by decide),trivial⟩⟩,.inl ⟨3,_,by decide,rfl,Jia encEnds_p⟩,.inl ⟨2,_,by decide,rfl,Jia encB_p⟩,.inr ⟨rfl,rfl⟩,trivial⟩ (yg 7 hb_105 (sQ (Qfa (v:=.bool (!x12)) rfl hb_105 rfl (RS.nil ?_))))))))
     exact T.weakR (hK () trivial) (Weak.mkN [] [0,1,2,3,4,5] (by decide) (Qpa _) rfl ⟨Qma rfl,Qma rfl,Q6a rfl,Qma rfl,Qqa rfl,Qqa rfl,rn_s rfl,Qqa rfl,Qqa rfl,Jla ((congrArg (fun p=>p) (Option.some.inj hz)).symm),trivial⟩ (rw_bs (Jca p0) rfl (Jea (cs:=[.ref 4]) (ds:=[.ref 4]) rfl ⟨Q6a rfl,trivial⟩ (rw_ar rfl rfl (Jea (cs:=[.ref 5]) (ds:=[.ref 5]) rfl ⟨Q6a rfl,trivial⟩ (rw_ar rfl rfl (rw_ar rfl rfl (Qna))))))))
    replace hz:=ite_F hz hb_105
    refine sN hb_105 (sN hb_105 (sN hb_105 (sN hb_105 (sN hb_105 (sQ (Qda (v:=.bool false) rfl hb_105 rfl (RS.nil ?_)))))))
    exact T.weakR (hK () trivial) (Weak.mkN [] [0,1,2,3,4,5] (by decide) (Qpa _) rfl ⟨Qma rfl,Qma rfl,Q6a rfl,Qma rfl,Qqa rfl,Qqa rfl,rn_s rfl,Qqa rfl,Qqa rfl,Jla ((congrArg (fun p=>p) (Option.some.inj hz)).symm),trivial⟩ (rw_bs (Jca p0) rfl (Jea (cs:=[.ref 4]) (ds:=[.ref 4]) rfl ⟨Q6a rfl,trivial⟩ (rw_ar rfl rfl (Jea (cs:=[.ref 5]) (ds:=[.ref 5]) rfl ⟨Q6a rfl,trivial⟩ (rw_ar rfl rfl (rw_ar rfl rfl (Qna))))))))
   refine T.exit ?_
   obtain ⟨w_109,h,hw_109⟩:=Qua h
   replace h:=h.trans (congrArg some (hv_103 _ hw_109))
   exact T.su (hK1 (-1) h)
  refine T.exit ?_
  obtain ⟨w_110,h,hw_110⟩:=Qua h
  replace h:=h.trans (congrArg some (hv_73 _ hw_110))
  refine T.seq (T.region (go 3 6 (RS.nil ?_)))
  cases h
  exact tO [] [2] 6
theorem net_Check_c (p0:Net) (r:Int) (h:net_Check p0=some r):Fn Try.prog 61 [.agg (Jca p0)] (iI r):=by
  unfold net_Check at h
  refine fnT 0 Try.func61 Try.ntmps61 ?_
  refine T.seq (T.region (go 2 0 (RS.nil (T.seq ?_))))
  obtain ⟨x2,hx2,h⟩:=bind_some h
  refine T.region (go 1 1 (sO (cO 1 (net_Order_c p0 x2 hx2) ⟨rfl,(go 5 2 (RS.nil (T.seq (T.region (go 2 2 (RS.nil ?_))))))⟩)))
  cases h
  exact tD
theorem net_Sources_c (p0:Net) (p1:List (List Item)) (r:Int) (h:Y9a p0 p1=some r):Fn Try.prog 35 [.agg (Jca p0),sL (encL Qaa) p1] (iI r):=by
  unfold Y9a at h
  refine fnT 0 Try.func35 Try.ntmps35 ?_
  refine T.seq (T.region (go 2 0 (RS.nil (T.seq (T.seq ?_)))))
  obtain ⟨x2,hx2,h⟩:=bind_some h
  refine T.region (go 1 1 (sO (cF (net_Check_c p0 x2 hx2) ⟨rfl,(go 1 1 (RS.nil (T.seq (T.region (go 2 1 (RS.nil (T.ci h rfl (fun hb_1 h=>?_) (fun hb_1 h=>?_))))))))⟩)))
  ·refine T.seq (T.region (go 2 1 (RS.nil ?_)))
   cases h
   exact tD
  refine T.skip (T.seq (T.seq (T.region (go 1 1 (sQ (Qha Ty.s25 rfl (go 1 1 (RS.nil (T.ci h rfl (fun hb_2 h=>?_) (fun hb_2 h=>?_))))))))))
  ·refine T.seq (T.region (go 1 1 (RS.nil ?_)))
   cases h
   exact tD
  refine T.skip (T.seq (T.seq (T.region (go 1 1 (sQ (Qha Ty.s25 rfl (go 1 1 (RS.nil (T.block (T.iter (fun ss_27:Int=>mkA 69 [(1,sL (encL Qaa) p1),(2,.ptr 0 0),(21,sL (encL Qaa) p1),(22,iI ((p1).length:Int)),(23,iI ss_27)]) (fun ss_27=>[.box (Jca p0)]) h (wk [] [0] 1 rfl) (fun ss_27 v_28 h hv_28=>?_)))))))))))
  revert hv_28 h;revert ss_27;intro s3 h hv_28
  replace h:Yqa p0 p1 s3=some v_28:=h
  try dsimp only
  unfold Yqa at h
  refine T.seq (T.region (go 1 1 (RS.nil (T.seq (T.ci h rfl (fun hb_29 h=>?_) (fun hb_29 h=>?_))))))
  ·refine T.skip (T.seq (T.block (T.seq ?_)))
   obtain ⟨x5,hx5,h⟩:=bind_some h
   refine T.region (sQ (Qga Ty.s25 (fun _=>rfl) rfl rfl hx5 (go 2 1 (RS.nil (T.seq (T.seq (T.region (go 1 1 (sQ (Qha Ty.s29 rfl (go 1 1 ?_)))))))))))
   refine RS.nil (T.ci h rfl (fun hb_30 h=>?_) (fun hb_30 h=>?_))
   ·refine T.seq (T.region (go 1 1 (RS.nil ?_)))
    obtain ⟨w_31,h,hw_31⟩:=Qua h
    replace h:=h.trans (congrArg some (hv_28 _ hw_31))
    cases h
    exact tD
   refine T.skip (T.seq (T.region (go 1 1 (sQ (Qha Ty.s29 rfl (go 1 1 (RS.nil (T.block (T.iter (fun ss_36:Int=>mkA 69 [(1,sL (encL Qaa) p1),(2,.ptr 0 0),(21,sL (encL Qaa) p1),(22,iI ((p1).length:Int)),(23,iI s3),(30,sL Qaa x5),(31,iI ((x5).length:Int)),(32,iI ss_36)]) (fun ss_36=>[.box (Jca p0)]) h (wk [] [0] 1 rfl) (fun ss_36 v_37 h hv_37=>?_))))))))))
   revert hv_37 h;revert ss_36;intro s6 h hv_37
   replace h:Yta s3 x5 s6=some v_37:=h
   try dsimp only
   unfold Yta at h
   refine T.seq (T.region (go 1 1 (RS.nil (T.seq (T.ci h rfl (fun hb_38 h=>?_) (fun hb_38 h=>?_))))))
   ·refine T.skip (T.seq (T.block (T.seq ?_)))
    obtain ⟨x8,hx8,h⟩:=bind_some h
    refine T.region (sQ (Qga Ty.s29 (fun _=>rfl) rfl rfl hx8 (go 3 1 (RS.nil (T.seq (T.region (go 3 2 (RS.nil (T.ci h rfl (fun hb_39 h=>?_) (fun hb_39 h=>?_))))))))))
    ·refine T.seq (T.region (go 1 2 (RS.nil ?_)))
     obtain ⟨w_40,h,hw_40⟩:=Qua h
     replace h:=h.trans (congrArg some (hv_37 _ hw_40))
     obtain ⟨w_41,h,hw_41⟩:=Qua h
     replace h:=h.trans (congrArg some (hv_28 _ hw_41))
     cases h
     exact tD
    refine T.skip (T.region (go 2 2 (RS.nil ?_)))
    exact ⟨IntKind.i64.wrap (s6+1),(Option.some.inj h).symm,wk [] [0] 2 rfl⟩
   refine T.exit ?_
   obtain ⟨w_42,h,hw_42⟩:=Qua h
   replace h:=h.trans (congrArg some (hv_37 _ hw_42))
   refine T.region (go 2 1 (RS.nil ?_))
   exact ⟨IntKind.i64.wrap (s3+1),(Option.some.inj h).symm,wk [] [0] 1 rfl⟩
  refine T.exit ?_
  obtain ⟨w_43,h,hw_43⟩:=Qua h
  replace h:=h.trans (congrArg some (hv_28 _ hw_43))
  refine T.seq ?_
  obtain ⟨x10,hx10,h⟩:=bind_some h
  refine T.region (go 1 1 (sQ (Qha Ty.s25 rfl (sO (o_mk (en:=encB) (zr:=false) Ty.s134 Ty.z4 rfl rfl hx10 rfl rfl (go 1 2 (RS.nil (T.seq (T.seq (T.region (go 2 2 ?_)))))))))))
  refine sQ (Qha Ty.s22 rfl (go 1 2 (RS.nil (T.block (T.iter (fun ss_52:Int × (List Bool)=>mkA 69 [(1,sL (encL Qaa) p1),(10,.ref 0),(45,sL Jda p0.Nodes),(46,iI ((p0.Nodes).length:Int)),(47,iI ss_52.1)]) (fun ss_52=>[aR 4 1 encB ss_52.2]) h (wk [] [1] 2 rfl) (fun ss_52 v_53 h hv_53=>?_))))))
  obtain ⟨s11,s12⟩:=ss_52
  replace h:Vma p0 p1 s11 s12=some v_53:=h
  try dsimp only
  unfold Vma at h
  refine T.seq (T.region (go 1 1 (RS.nil (T.seq (T.ci h rfl (fun hb_54 h=>?_) (fun hb_54 h=>?_))))))
  ·refine T.skip (T.seq (T.block (T.seq ?_)))
   obtain ⟨x14,hx14,h⟩:=bind_some h
   refine T.region (sQ (Qga Ty.s22 (fun _=>rfl) rfl rfl hx14 (go 3 1 (RS.nil (T.seq (T.seq (T.region (go 3 2 (RS.nil (T.ci h rfl (fun hb_55 h=>?_) (fun hb_55 h=>?_)))))))))))
   ·refine T.exit (T.region (go 2 2 (RS.nil ?_)))
    exact ⟨(IntKind.i64.wrap (s11+1),s12),(Option.some.inj h).symm,wk [] [0] 2 rfl⟩
   refine T.skip (T.seq (T.seq (T.region (go 3 2 (sQ (Qha Ty.s25 rfl (go 1 2 (RS.nil (T.ci h rfl (fun hb_56 h=>?_) (fun hb_56 h=>?_))))))))))
   ·refine T.seq (T.region (go 1 2 (RS.nil ?_)))
    obtain ⟨w_57,h,hw_57⟩:=Qua h
    replace h:=h.trans (congrArg some (hv_53 _ hw_57))
    cases h
    exact tD
   refine T.skip (T.seq (T.seq ?_))
   obtain ⟨x17,hx17,h⟩:=bind_some h
   obtain ⟨x18,hx18,h⟩:=bind_some h
   refine T.region (go 3 2 (sQ (Qta (en:=encB) Ty.s134 rfl rfl rfl hx17 (sO (Q2a (en:=encB) (a:=x18) rfl rfl hx18 (J3a Ty.k4 (c:=.bool x18) rfl (RS.nil (T.ci h rfl (fun hb_58 h=>?_) (fun hb_58 h=>?_)))))))))
   ·refine T.seq (T.region (go 1 2 (RS.nil ?_)))
    obtain ⟨w_59,h,hw_59⟩:=Qua h
    replace h:=h.trans (congrArg some (hv_53 _ hw_59))
    cases h
    exact tD
   refine T.skip ?_
   obtain ⟨x19,hx19,h⟩:=bind_some h
   obtain ⟨x20,hx20,h⟩:=bind_some h
   refine T.region (go 3 2 (sQ (Qta (en:=encB) Ty.s134 rfl rfl rfl hx19 (sO (Z6a (en:=encB) (a:=x20) (a':=true) Ty.c4 Ty.i4 rfl (vs:=[.bool true]) rfl rfl rfl hx20 rfl rfl rfl (RS.nil (T.region (go 2 2 (RS.nil ?_)))))))))
   exact ⟨(IntKind.i64.wrap (s11+1),(List.set s12 x19 true)),(Option.some.inj h).symm,wk [] [0] 2 rfl⟩
  refine T.exit ?_
  obtain ⟨w_60,h,hw_60⟩:=Qua h
  replace h:=h.trans (congrArg some (hv_53 _ hw_60))
  refine T.seq (T.region (go 1 1 (RS.nil ?_)))
  cases h
  exact tD
theorem move_Check_1_1_xa01a_c (p0:Item) (p1:List Int) (p2:List (List Item)) (p3:List Memory) (p4:List Choice) (p5:List Item) (r:Bool) (h:V8a p0 p1 p2 p3 p4 p5=some r):FnX Try.prog 38 [.agg (Qaa p0),.ptr 0 0] [.box [sL encI p1,sL (encL Qaa) p2,sL Qba p3,sL Qea p4,sL Qaa p5]] (.bool r) [.box [sL encI p1,sL (encL Qaa) p2,sL Qba p3,sL Qea p4,sL Qaa p5]]:=by
  unfold V8a at h
  refine fnT 1 Try.func38 Try.ntmps38 ?_
  refine T.seq (T.region (go 2 1 (RS.nil (T.join (Z:=Unit) (fun _=>mkA 15 [(3,.bool ((decide (p0.Dep<0)) || decide (p0.Dep > ((p4).length:Int))))]) (fun _=>[.box [sL encI p1,sL (encL Qaa) p2,sL Qba p3,sL Qea p4,sL Qaa p5]]) (fun _=>True) (fun _ _=>?_) (fun hK=>?_)))))
  ·cases h
   exact tN [0]
  refine T.region (go 4 2 ?_)
  rcases Qca (decide (p0.Dep<0)) with hb_1 | hb_1
  ·refine sN hb_1 (sN hb_1 (sN hb_1 (sN hb_1 (sN hb_1 (sN hb_1 (sQ (Qfa (v:=.bool true) rfl hb_1 rfl (go 1 2 (RS.nil ?_)))))))))
   exact T.weakR (hK () trivial) (Weak.mkN [] [0] (by decide) (by decide) rfl ⟨Jla (by simp only [hb_1,bz,if_true,if_false,Bool.false_eq_true]),trivial⟩ (rw_bs [sL encI p1,sL (encL Qaa) p2,sL Qba p3,sL Qea p4,sL Qaa p5] rfl (Qna)))
  refine yg 2 hb_1 (yg 2 hb_1 (yg 2 hb_1 (yg 2 hb_1 (yQ hb_1 (Qha Ty.s28 rfl (yg 2 hb_1 (sQ (Qda (v:=.bool (decide (p0.Dep > ((p4).length:Int)))) rfl hb_1 rfl (go 1 2 (RS.nil ?_))))))))))
  exact T.weakR (hK () trivial) (Weak.mkN [] [0] (by decide) (by decide) rfl ⟨Jla (by simp only [hb_1,bz,if_true,if_false,Bool.false_eq_true]),trivial⟩ (rw_bs [sL encI p1,sL (encL Qaa) p2,sL Qba p3,sL Qea p4,sL Qaa p5] rfl (Qna)))
theorem slices_IndexFunc_Item_xd8db_c (p0:List Item) (p1:List Int) (p2:List (List Item)) (p3:List Memory) (p4:List Choice) (p5:List Item) (r:Int) (h:Zwa p0 p1 p2 p3 p4 p5=some r):FnX Try.prog 62 [sL Qaa p0,.func 38 [.ptr 0 0]] [.box [sL encI p1,sL (encL Qaa) p2,sL Qba p3,sL Qea p4,sL Qaa p5]] (iI r) [.box [sL encI p1,sL (encL Qaa) p2,sL Qba p3,sL Qea p4,sL Qaa p5]]:=by
  unfold Zwa at h
  refine fnT 1 Try.func62 Try.ntmps62 ?_
  refine T.seq (T.region (go 1 1 (RS.nil (T.seq (T.seq (T.region (go 1 1 (sQ (Qha Ty.s29 rfl (go 1 1 ?_))))))))))
  refine RS.nil (T.block (T.iter (fun ss_5:Int=>mkA 19 [(0,sL Qaa p0),(1,.func 38 [.ptr 0 0]),(7,iI ((p0).length:Int)),(8,iI ss_5)]) (fun ss_5=>[.box [sL encI p1,sL (encL Qaa) p2,sL Qba p3,sL Qea p4,sL Qaa p5]]) h (wk [] [0] 1 rfl) (fun ss_5 v_6 h hv_6=>?_)))
  revert hv_6 h;revert ss_5;intro s1 h hv_6
  replace h:Jza p0 p1 p2 p3 p4 p5 s1=some v_6:=h
  try dsimp only
  unfold Jza at h
  refine T.seq (T.region (go 1 1 (RS.nil (T.seq (T.ci h rfl (fun hb_7 h=>?_) (fun hb_7 h=>?_))))))
  ·refine T.skip (T.seq (T.block (T.seq (T.region (go 2 1 (RS.nil (T.seq ?_)))))))
   obtain ⟨x4,hx4,h⟩:=bind_some h
   obtain ⟨x5,hx5,h⟩:=bind_some h
   refine T.region (go 3 1 (sQ (Qga Ty.s29 (fun _=>rfl) rfl rfl hx4 (go 1 1 (sO (Q5a (ac:=[.agg (Qaa x4),.ptr 0 0]) (as0:=[.agg (Qaa x4),.ptr 0 0]) (aw0:=[.box [sL encI p1,sL (encL Qaa) p2,sL Qba p3,sL Qea p4,sL Qaa p5]]) (aw1:=[.box [sL encI p1,sL (encL Qaa) p2,sL Qba p3,sL Qea p4,sL Qaa p5]]) (aw2:=[.box [sL encI p1,sL (encL Qaa) p2,sL Qba p3,sL Qea p4,sL Qaa p5]]) (v:=.bool x5) (v':=.bool x5) (n0:=1) (n1:=1) [0] rfl rfl rfl rfl (by decide) (Jea (cs:=[sL encI p1,sL (encL Qaa) p2,sL Qba p3,sL Qea p4,sL Qaa p5]) (ds:=[sL encI p1,sL (encL Qaa) p2,sL Qba p3,sL Qea p4,sL Qaa p5]) rfl ⟨rn_s rfl,rn_s rfl,rn_s rfl,rn_s rfl,rn_s rfl,trivial⟩ (Qna)) ⟨rn_agg ⟨Qqa rfl,Qqa rfl,Qqa rfl,trivial⟩,Qma rfl,trivial⟩ (move_Check_1_1_xa01a_c x4 p1 p2 p3 p4 p5 x5 hx5) rfl (Qia (Vfa _)) ⟨.inl ⟨0,_,by decide,rfl,Jaa (cs:=[sL encI p1,sL (encL Qaa) p2,sL Qba p3,sL Qea p4,sL Qaa p5]) (ds:=[sL encI p1,sL (encL Qaa) p2,sL Qba p3,sL Qea p4,sL Qaa p5]) ⟨Qia (Qwa encI_p _),Qia (Qwa (encL_p Jba) _),Qia (Qwa J7a _),Qia (Qwa J6a _),Qia (Qwa Jba _),trivial⟩⟩,trivial⟩ (RS.nil (T.ci h rfl (fun hb_8 h=>?_) (fun hb_8 h=>?_)))))))))
   ·refine T.seq (T.region (go 2 1 (RS.nil ?_)))
    obtain ⟨w_9,h,hw_9⟩:=Qua h
    replace h:=h.trans (congrArg some (hv_6 _ hw_9))
    cases h
    exact tN [0]
   refine T.skip (T.region (go 2 1 (RS.nil ?_)))
   exact ⟨IntKind.i64.wrap (s1+1),(Option.some.inj h).symm,wk [] [0] 1 rfl⟩
  refine T.exit ?_
  obtain ⟨w_10,h,hw_10⟩:=Qua h
  replace h:=h.trans (congrArg some (hv_6 _ hw_10))
  refine T.seq (T.region (go 1 1 (RS.nil ?_)))
  cases h
  exact tN [0]
theorem slices_ContainsFunc_Item_xd8db_c (p0:List Item) (p1:List Int) (p2:List (List Item)) (p3:List Memory) (p4:List Choice) (p5:List Item) (r:Bool) (h:Zia p0 p1 p2 p3 p4 p5=some r):FnX Try.prog 37 [sL Qaa p0,.func 38 [.ptr 0 0]] [.box [sL encI p1,sL (encL Qaa) p2,sL Qba p3,sL Qea p4,sL Qaa p5]] (.bool r) [.box [sL encI p1,sL (encL Qaa) p2,sL Qba p3,sL Qea p4,sL Qaa p5]]:=by
  unfold Zia at h
  refine fnT 1 Try.func37 Try.ntmps37 ?_
  refine T.seq (T.region (go 1 1 (RS.nil (T.seq ?_))))
  obtain ⟨x2,hx2,h⟩:=bind_some h
  refine T.region (go 2 1 (sO (Q5a (ac:=[sL Qaa p0,.func 38 [.ptr 0 0]]) (as0:=[sL Qaa p0,.func 38 [.ptr 0 0]]) (aw0:=[.box [sL encI p1,sL (encL Qaa) p2,sL Qba p3,sL Qea p4,sL Qaa p5]]) (aw1:=[.box [sL encI p1,sL (encL Qaa) p2,sL Qba p3,sL Qea p4,sL Qaa p5]]) (aw2:=[.box [sL encI p1,sL (encL Qaa) p2,sL Qba p3,sL Qea p4,sL Qaa p5]]) (v:=iI x2) (v':=iI x2) (n0:=1) (n1:=1) [0] rfl rfl rfl rfl (by decide) (Jea (cs:=[sL encI p1,sL (encL Qaa) p2,sL Qba p3,sL Qea p4,sL Qaa p5]) (ds:=[sL encI p1,sL (encL Qaa) p2,sL Qba p3,sL Qea p4,sL Qaa p5]) rfl ⟨rn_s rfl,rn_s rfl,rn_s rfl,rn_s rfl,rn_s rfl,trivial⟩ (Qna)) ⟨rn_s rfl,rn_func ⟨Qma rfl,trivial⟩,trivial⟩ (slices_IndexFunc_Item_xd8db_c p0 p1 p2 p3 p4 p5 x2 hx2) rfl (Qia (Qsa _ _)) ⟨.inl ⟨0,_,by decide,rfl,Jaa (cs:=[sL encI p1,sL (encL Qaa) p2,sL Qba p3,sL Qea p4,sL Qaa p5]) (ds:=[sL encI p1,sL (encL Qaa) p2,sL Qba p3,sL Qea p4,sL Qaa p5]) ⟨Qia (Qwa encI_p _),Qia (Qwa (encL_p Jba) _),Qia (Qwa J7a _),Qia (Qwa J6a _),Qia (Qwa Jba _),trivial⟩⟩,trivial⟩ (go 2 1 (RS.nil ?_)))))
  cases h
  exact tN [0]
theorem move_Check_1_xa01a_c (p0:List Item) (p1:List Int) (p2:List (List Item)) (p3:List Memory) (p4:List Choice) (p5:List Item) (r:Bool) (h:Vca p0 p1 p2 p3 p4 p5=some r):FnX Try.prog 36 [sL Qaa p0,.ptr 0 0] [.box [sL encI p1,sL (encL Qaa) p2,sL Qba p3,sL Qea p4,sL Qaa p5]] (.bool r) [.box [sL encI p1,sL (encL Qaa) p2,sL Qba p3,sL Qea p4,sL Qaa p5]]:=by
  unfold Vca at h
  refine fnT 1 Try.func36 Try.ntmps36 ?_
  refine T.seq (T.region (go 1 1 (RS.nil (T.seq ?_))))
  obtain ⟨x2,hx2,h⟩:=bind_some h
  refine T.region (go 2 1 (sO (Q5a (ac:=[sL Qaa p0,.func 38 [.ptr 0 0]]) (as0:=[sL Qaa p0,.func 38 [.ptr 0 0]]) (aw0:=[.box [sL encI p1,sL (encL Qaa) p2,sL Qba p3,sL Qea p4,sL Qaa p5]]) (aw1:=[.box [sL encI p1,sL (encL Qaa) p2,sL Qba p3,sL Qea p4,sL Qaa p5]]) (aw2:=[.box [sL encI p1,sL (encL Qaa) p2,sL Qba p3,sL Qea p4,sL Qaa p5]]) (v:=.bool x2) (v':=.bool x2) (n0:=1) (n1:=1) [0] rfl rfl rfl rfl (by decide) (Jea (cs:=[sL encI p1,sL (encL Qaa) p2,sL Qba p3,sL Qea p4,sL Qaa p5]) (ds:=[sL encI p1,sL (encL Qaa) p2,sL Qba p3,sL Qea p4,sL Qaa p5]) rfl ⟨rn_s rfl,rn_s rfl,rn_s rfl,rn_s rfl,rn_s rfl,trivial⟩ (Qna)) ⟨rn_s rfl,rn_func ⟨Qma rfl,trivial⟩,trivial⟩ (slices_ContainsFunc_Item_xd8db_c p0 p1 p2 p3 p4 p5 x2 hx2) rfl (Qia (Vfa _)) ⟨.inl ⟨0,_,by decide,rfl,Jaa (cs:=[sL encI p1,sL (encL Qaa) p2,sL Qba p3,sL Qea p4,sL Qaa p5]) (ds:=[sL encI p1,sL (encL Qaa) p2,sL Qba p3,sL Qea p4,sL Qaa p5]) ⟨Qia (Qwa encI_p _),Qia (Qwa (encL_p Jba) _),Qia (Qwa J7a _),Qia (Qwa J6a _),Qia (Qwa Jba _),trivial⟩⟩,trivial⟩ (go 2 1 (RS.nil ?_)))))
  cases h
  exact tN [0]
theorem stage_Check_c (p0:Memory) (r:Int) (h:Y4a p0=some r):Fn Try.prog 39 [.agg (Qba p0)] (iI r):=by
  unfold Y4a at h
  refine fnT 0 Try.func39 Try.ntmps39 ?_
  refine T.seq (T.region (go 2 0 (RS.nil (T.seq (T.seq (T.region (go 2 1 (sQ (Qha Ty.s61 rfl (go 1 1 ?_))))))))))
  refine RS.nil (T.ci h rfl (fun hb_1 h=>?_) (fun hb_1 h=>?_))
  ·refine T.seq (T.region (go 1 1 (RS.nil ?_)))
   cases h
   exact tD
  refine T.skip (T.seq (T.seq (T.region (go 2 1 (sQ (Qha Ty.s61 rfl (go 1 1 (RS.nil (T.block (T.iter (fun ss_16:Int=>mkA 40 [(1,.ptr 0 0),(10,sL Qla p0.Keys),(11,iI ((p0.Keys).length:Int)),(12,iI ss_16)]) (fun ss_16=>[.box (Qba p0)]) h (wk [] [0] 1 rfl) (fun ss_16 v_17 h hv_17=>?_)))))))))))
  revert hv_17 h;revert ss_16;intro s1 h hv_17
  replace h:Zqa p0 s1=some v_17:=h
  try dsimp only
  unfold Zqa at h
  refine T.seq (T.region (go 1 1 (RS.nil (T.seq (T.ci h rfl (fun hb_18 h=>?_) (fun hb_18 h=>?_))))))
  ·refine T.skip (T.seq (T.block (T.seq ?_)))
   obtain ⟨x3,hx3,h⟩:=bind_some h
   refine T.region (go 1 1 (sQ (Qga Ty.s61 (fun _=>rfl) rfl rfl hx3 (go 4 1 (RS.nil ?_)))))
   obtain ⟨zt_21,hz,h⟩:=bind_some h
   revert hz h;revert zt_21;intro c5 hz h
   refine T.join (Z:=Unit) (fun _=>mkA 40 [(1,.ptr 0 0),(10,sL Qla p0.Keys),(11,iI ((p0.Keys).length:Int)),(12,iI s1),(35,.bool c5)]) (fun _=>[.box (Qba p0)]) (fun _=>True) (fun _ _=>?_) (fun hK=>?_)
   ·refine T.ci h rfl (fun hb_22 h=>?_) (fun hb_22 h=>?_)
    ·refine T.seq (T.region (go 1 1 (RS.nil ?_)))
     obtain ⟨w_23,h,hw_23⟩:=Qua h
     replace h:=h.trans (congrArg some (hv_17 _ hw_23))
     cases h
     exact tD
    refine T.skip (T.region (go 2 1 (RS.nil ?_)))
    exact ⟨IntKind.i64.wrap (s1+1),(Option.some.inj h).symm,wk [] [0] 1 rfl⟩
   rcases Qca (decide (x3.N<1)) with hb_19 | hb_19
   ·replace hz:=ite_T hz hb_19
    refine T.drawn mixed (k:=19) rfl (rq [0] 18 (ra1 1 (og 2 ⟨rfl,(rq [2,3] 15 (r2 4 rfl hb_19 (r2 5 rfl hb_19 (r2 6 rfl hb_19 (r3 7 rfl (r3 8 rfl ?_))))))⟩)))
    refine r3 9 rfl (r3 10 rfl (r3 11 rfl (r3 12 rfl (r3 13 rfl (r3 14 rfl (r3 15 rfl (r3 16 rfl (r2 17 rfl hb_19 (r0 18 rfl (Qfa (v:=.bool true) rfl hb_19 rfl ?_))))))))))
    refine RA.done (by decide +kernel) ?_
    exact T.weakR (hK () trivial) (Weak.mkN [] [0] (by decide) (Qpa _) rfl ⟨Qma rfl,rn_s rfl,Qqa rfl,Qqa rfl,Jla ((congrArg (fun p=>p) (Option.some.inj hz)).symm),trivial⟩ (rw_bs (Qba p0) rfl (Qna)))
   replace hz:=ite_F hz hb_19
   rcases Qca (decide (s1 > 0)) with hb_20 | hb_20
   ·replace hz:=ite_T hz hb_20
    obtain ⟨x4,hx4,hz⟩:=bind_some hz
    refine T.drawn mixed (k:=19) rfl ?_
    apply RA.jn 0 #[true,true,true,true,true,true,true,true,true,true,true,true,true,true,true,true,true,true,true];intro hS24
    apply RA.jn 4 #[true,true,true,true,true,true,true,true,true,true,true,true,true,false,true,true,false,false,false];intro hS25
    ·refine rq [0] 18 (ra1 1 (og 2 ⟨rfl,(rq [2,3] 15 (ry 4 hb_19 rfl (ry 5 hb_19 rfl (ry 6 hb_19 rfl (ry 7 hb_20 rfl (ry 9 hb_20 rfl (ry 10 hb_20 rfl ?_)))))))⟩))
     refine ry 14 hb_20 rfl (ra2 8 15 ?_ ?_)
     ·refine oy 2 hb_20 rfl (r1 11 rfl hb_20 (Qga Ty.s61 (fun _=>rfl) rfl rfl hx4 (ry 12 hb_20 rfl (ra2 13 15 ?_ ?_))))
      ·refine oy 2 hb_20 rfl (ra1 15 (oy 2 hb_20 rfl (ry 16 hb_20 rfl (r1 17 rfl hb_19 (Qfa (v:=.bool (decide (x4.Key ≥ x3.Key))) rfl hb_20 rfl (r0 18 rfl (Qda (v:=.bool (decide (x4.Key ≥ x3.Key))) rfl hb_19 rfl ?_)))))))
       exact raE hS24
      ·refine oy 2 hb_20 rfl ?_
       exact raE hS25
     ·refine oy 2 hb_20 rfl (ra1 8 (oy 2 hb_20 rfl (r1 11 rfl hb_20 (Qga Ty.s61 (fun _=>rfl) rfl rfl hx4 (ry 12 hb_20 rfl ?_)))))
      exact raT hS25
    ·refine ra1 13 (oy 2 hb_20 rfl (ry 16 hb_20 rfl (r1 17 rfl hb_19 (Qfa (v:=.bool (decide (x4.Key ≥ x3.Key))) rfl hb_20 rfl (r0 18 rfl (Qda (v:=.bool (decide (x4.Key ≥ x3.Key))) rfl hb_19 rfl ?_))))))
     exact raT hS24
    refine RA.done (by decide +kernel) ?_
    exact T.weakR (hK () trivial) (Weak.mkN [] [0] (by decide) (Qpa _) rfl ⟨Qma rfl,rn_s rfl,Qqa rfl,Qqa rfl,Jla ((congrArg (fun p=>p) (Option.some.inj hz)).symm),trivial⟩ (rw_bs (Qba p0) rfl (Qna)))
   replace hz:=ite_F hz hb_20
   refine T.drawn mixed (k:=19) rfl (rq [0] 18 (ra1 1 (og 2 ⟨rfl,(rq [2,3] 15 (ry 4 hb_19 rfl (ry 5 hb_19 rfl (ry 6 hb_19 rfl (r2 7 rfl hb_20 (r2 8 rfl hb_20 ?_))))))⟩)))
   refine r2 9 rfl hb_20 (r2 10 rfl hb_20 (r2 11 rfl hb_20 (r2 12 rfl hb_20 (r2 13 rfl hb_20 (r2 14 rfl hb_20 (r2 15 rfl hb_20 (r2 16 rfl hb_20 (r1 17 rfl hb_19 (Qda (v:=.bool false) rfl hb_20 rfl (r0 18 rfl (Qda (v:=.bool false) rfl hb_19 rfl ?_)))))))))))
   refine RA.done (by decide +kernel) ?_
   exact T.weakR (hK () trivial) (Weak.mkN [] [0] (by decide) (Qpa _) rfl ⟨Qma rfl,rn_s rfl,Qqa rfl,Qqa rfl,Jla ((congrArg (fun p=>p) (Option.some.inj hz)).symm),trivial⟩ (rw_bs (Qba p0) rfl (Qna)))
  refine T.exit ?_
  obtain ⟨w_26,h,hw_26⟩:=Qua h
  replace h:=h.trans (congrArg some (hv_17 _ hw_26))
  refine T.seq (T.seq (T.region (go 3 1 (RS.nil (T.ci h rfl (fun hb_27 h=>?_) (fun hb_27 h=>?_))))))
  ·refine T.seq (T.region (go 1 1 (RS.nil ?_)))
   cases h
   exact tD
  refine T.skip (T.seq (T.region (go 1 1 (RS.nil ?_))))
  cases h
  exact tD
end Go.Proofs.Ytchmpaaofmihcaa
namespace Go.Proofs.Ytchmpaaofmihcaa
open Go.RowKit
set_option linter.unusedVariables false
set_option linter.unusedSimpArgs false
section
variable {P:Program} {N n:Nat} {aw aw':List Ob} {l:List (Nat × AV)} {σ:List Value} {w:World} {F:Nat→Prop}
theorem Mv.lose (id:Nat):Mv aw σ w F (aw.set id .dead) σ w F :=
  ⟨rfl,rfl,rfl,Nat.le_refl _,fun _ _ _=>rfl,fun _ _ h=>h,fun _ h=>h,fun _ h=>.inl h,fun _ hb=>.inl hb.set_dead⟩
theorem Sim.take (h:Sim aw σ w F) (o:Ob) (v:Value) (ho:ORel (σ++[v]) w F o v) (hn:∀ b,Bk o v b→¬ Dof aw σ b):Sim (aw++[o]) (σ++[v]) w F :=
  h.push2 o v (fun _ _=>rfl) (Nat.le_refl _) ho hn
theorem Mv.take {aw0:List Ob} {σ0:List Value} (h:Sim aw σ w F) (m:Mv aw0 σ0 w F aw σ w F) (o:Ob) (v:Value) (hb:∀ b,Bk o v b→Dof aw0 σ0 b):Mv aw0 σ0 w F (aw++[o]) (σ++[v]) w F:=by
  refine ⟨rfl,rfl,rfl,Nat.le_refl _,fun _ _ _=>rfl,fun i u hu=>Yza (m.pre i u hu),fun _ h=>h,fun _ h=>.inl h,fun b hb1=>?_⟩
  obtain ⟨k,o1,v1,ho1,hl,hv1,hb2⟩:=hb1
  rcases get_app ho1 with h1 | ⟨rfl,rfl⟩
  · have hlt:=(List.getElem?_eq_some_iff.1 h1).1
    rw [List.getElem?_append_left (by rw [h.len];exact hlt)] at hv1
    exact m.own b ⟨k,o1,v1,h1,hl,hv1,hb2⟩
  · rw [← h.len] at hv1
    simp at hv1
    subst hv1
    exact .inl (hb b hb2)
end
end Go.Proofs.Ytchmpaaofmihcaa
namespace Go.Proofs.Ytchmpaaofmihcaa
open Go.RowKit
set_option linter.unusedVariables false
set_option linter.unusedSimpArgs false
def PanX (P:Program) (V:Value) (f:FuncId) (args:List AV) (aw:List Ob):Prop :=
  (∀ vs w,(callFunc f vs).run P w=.ok (.enter f vs) w) ∧
  ∀ w F σ vs,Sim aw σ w F→RelL σ w F args vs→Calls P f vs.toArray w fun e w'=>∃ σ' F',e=.panicked [{ v:=V,recovered:=false }]∧Sim (aw.map fun _=>Ob.dead) σ' w' F'∧Mv aw σ w F (aw.map fun _=>Ob.dead) σ' w' F'
section
variable {P:Program} {V:Value} {N n:Nat} {fr:List AV} {aw aw':List Ob} {l:List (Nat × AV)}
structure PP (P:Program) (V:Value) (N:Nat) (o:Oper) (fr:List AV) (aw:List Ob) (Kp:List AV→List Ob→Prop):Prop where
  out:∀ st:St,st.aw.length=N→st.σ.length=st.aw.length→∀ σ w F a,Cur st fr aw σ w F a→∀ (Kc:Act→World→Prop) (Q:Exit→Act→World→Prop),
    (∀ aw' σ' w' F',Kp fr aw'→Cur st fr aw' σ' w' F' a→Q (.panic [{ v:=V,recovered:=false }]) a w')→o.wp P a w Kc Q
theorem upon_mono {o:Oper} {a:Act} {next next':Act→World→Prop} {Q Q':Exit→Act→World→Prop} (hn:∀ a w,next a w→next' a w) (hp:∀ ch a w,Q (.panic ch) a w→Q' (.panic ch) a w) (hl:LetsOut Q→LetsOut Q') :
    ∀ r,o.upon P a next Q r→o.upon P a next' Q' r:=by
  intro r h
  unfold Oper.upon at h ⊢
  split at h
  · exact hn _ _ h
  · exact hn _ _ h
  · exact hn _ _ h
  · refine Calls.mono h ?_
    intro e w he
    cases e with
    | returned v=>exact hn _ _ he
    | panicked ch=>exact hp _ _ _ he
    | outgrown=>exact hl he
  · exact Rows.mono h fun v w hv=>hn _ _ hv
  · exact hp _ _ _ h
  · exact h.elim
def thenL (P:Program) (ops:Array Oper) (rest:List Oper) (Q:Exit→Act→World→Prop):Exit→Act→World→Prop
  | .normal,a,w=>wpList P ops Q rest a w
  | e,a,w=>Q e a w
theorem wpList_app {ops:Array Oper} {Q:Exit→Act→World→Prop} {rest:List Oper}:∀ (pre:List Oper) (a:Act) (w:World),wpList P ops (thenL P ops rest Q) pre a w→wpList P ops Q (pre++rest) a w
  | [],a,w,h=>h
  | o :: pre,a,w,h=>by
    rw [List.cons_append]
    unfold wpList at h ⊢
    split at h
    · rename_i hw
      rw [if_pos hw]
      rcases h with h | ⟨h1,h2⟩
      · exact .inl (upon_mono (fun a w h=>wpList_app pre a w h) (fun _ _ _ h=>h) (fun h=>h) _ h)
      · exact .inr ⟨h1,h2⟩
    · rename_i hw
      rw [if_neg hw]
      exact wpList_app pre _ w h
theorem PP.call {d:Option Tmp} {ty:TypeId} {ps:String} {af:Array Edge} {g:Option (Nat × Bool)} {Kp:List AV→List Ob→Prop} {f:Operand} {args:Array Operand} {ts:Array TypeId} {h:FuncId} {caps ac as0:List AV} {aw0 aw2:List Ob} {n0:Nat} (ρ:List Nat) (hn0:aw.length=n0)
    (hf:evA n l f=.func h caps) (ha:args.toList.map (evA n l)++caps=ac) (hnd:ρ.Nodup) (hW:RenW ρ aw ρ aw0) (hA:RenL ρ as0 ac) (hC:PanX P V h as0 aw0) (hlen:aw2.length+ρ.length=n0+aw0.length)
    (hB:BackW (backM ρ n0 aw0.length) ρ aw (aw0.map fun _=>Ob.dead) 0 aw2) (hK:Kp (mkA n l) aw2):PP P V N ⟨d,.call ⟨.value f,args,ts⟩,ty,ps,af,g⟩ (mkA n l) aw Kp :=
  ⟨fun st h1 h2 σ w F a hc Kc Q hk=>by
    subst hn0
    have hfv:=hc.fr.ev f
    rw [Q4a,hf] at hfv
    generalize hvf:a.eval f=vf at hfv
    cases hfv with
    | func _ _ cvs hl hcs =>
      have hargs:RelL σ w F ac (args.toList.map a.eval++cvs):=by
        rw [← ha]
        have:=relL_map hc.fr args.toList
        rw [show args.toList.map (ev (mkA n l))=args.toList.map (evA n l) from List.map_congr_left fun x _=>Q4a n l x] at this
        exact this.append ⟨hl,hcs⟩
      obtain ⟨hlW,hgW⟩:=renW_get hW
      obtain ⟨σ0',hσ',hs0',hd0'⟩:=sim_ren hc.sim hnd hW
      have hl0:σ0'.length=ρ.length:=by rw [hs0'.len,hlW]
      have hr0:RelL σ0' w F as0 (args.toList.map a.eval++cvs):=Qbb hA hargs hσ'
      have hrun:(execOp a.eval ⟨d,.call ⟨.value f,args,ts⟩,ty,ps,af,g⟩).run P w=.ok (.enter h (args.toList.map a.eval++cvs).toArray) w:=by
        have e:args.map a.eval++cvs.toArray=(args.toList.map a.eval++cvs).toArray:=by
          obtain ⟨l⟩:=args
          simp
        simp only [execOp,resolve,Deferred.ofValue,hvf,Sem.run_bind,Sem.run_pure,Result.andThen_ok,invoke,Array.empty_append,e,hC.1]
      unfold Oper.wp
      rw [hrun]
      refine (hC.2 w F σ0' _ hs0' hr0).mono ?_
      rintro e w' ⟨σ1,F',rfl,hs1,hm⟩
      obtain ⟨σ2,s2,m2,hσ2⟩:=frame_call (aw2:=aw2) hc.sim hnd hW hσ' hl0 hs0' hd0' hs1 hm (by rw [List.length_map];exact hlen) (by rw [List.length_map];exact hB)
      exact hk aw2 σ2 w' F' hK (hc.step s2 m2)⟩
end
end Go.Proofs.Ytchmpaaofmihcaa
namespace Go.Proofs.Ytchmpaaofmihcaa
open Go.RowKit
set_option linter.unusedVariables false
set_option linter.unusedSimpArgs false
section
variable {P:Program} {N n:Nat} {σ:List Value} {w:World} {F:Nat→Prop} {aw aw':List Ob} {l:List (Nat × AV)} {K2:AV→List Ob→Prop} {d:Option Tmp} {ty:TypeId} {ps:String} {af:Array Edge} {g:Option (Nat × Bool)}
theorem sim_upd {id:Nat} {o o':Ob} {v:Value} (h:Sim aw σ w F) (ho:aw[id]?=some o) (hl:o.live=true) (hv:σ[id]?=some v) (hr:ORel σ w F o' v) (hb:∀ b,Bk o' v b→Bk o v b) :
    Sim (aw.set id o') σ w F∧∀ b,Dof (aw.set id o') σ b→Dof aw σ b:=by
  have old:∀ (k:Nat) p u b,(aw.set id o')[k]?=some p→p.live=true→σ[k]?=some u→Bk p u b→∃ q,aw[k]?=some q∧q.live=true∧Bk q u b:=fun k p u b hp hpl hu hbk=>by
    rcases Y7a hp with ⟨rfl,rfl,_⟩ | ⟨_,h2⟩
    · rw [hv] at hu;cases hu;exact ⟨o,ho,hl,hb b hbk⟩
    · exact ⟨p,h2,hpl,hbk⟩
  refine ⟨⟨by rw [List.length_set];exact h.len,fun k p u hp hu=>?_,fun k k' p p' u u' b hne hp hp' hpl hpl' hu hu' hbk hbk'=>?_,h.lt⟩,fun b hd=>?_⟩
  · rcases Y7a hp with ⟨rfl,rfl,_⟩ | ⟨_,h2⟩
    · rw [hv] at hu;cases hu;exact hr
    · exact h.obj k p u h2 hu
  · obtain ⟨q,h1,h2,h3⟩:=old k p u b hp hpl hu hbk
    obtain ⟨q',h1',h2',h3'⟩:=old k' p' u' b hp' hpl' hu' hbk'
    exact h.sep k k' q q' u u' b hne h1 h1' h2 h2' hu hu' h3 h3'
  · obtain ⟨k,p,u,hp,hpl,hu,hbk⟩:=hd
    obtain ⟨q,h1,h2,h3⟩:=old k p u b hp hpl hu hbk
    exact ⟨k,q,u,h1,h2,hu,h3⟩
theorem mv_upd {aw0 aw2:List Ob} {σ0:List Value} {w0:World} {F0:Nat→Prop} (h:Mv aw0 σ0 w0 F0 aw σ w F) (hd:∀ b,Dof aw2 σ b→Dof aw σ b):Mv aw0 σ0 w0 F0 aw2 σ w F :=
  ⟨h.os,h.tape,h.output,h.size,h.keep,h.pre,h.sub,h.sup,fun b hb=>h.own b (hd b hb)⟩
def unB:Ob→Ob
  | .boxB _ cs=>.box cs
  | o=>o
theorem unB_live (o:Ob):(unB o).live=o.live:=by cases o<;>rfl
theorem unB_bk {o:Ob} {v:Value} {b:Nat}:Bk (unB o) v b ↔ Bk o v b:=by cases o<;>exact Iff.rfl
theorem sim_unB (h:Sim aw σ w F):Sim (aw.map unB) σ w F:=by
  have old:∀ (k:Nat) p,(aw.map unB)[k]?=some p→∃ q,aw[k]?=some q∧p=unB q:=fun k p hp=>by
    rw [List.getElem?_map] at hp
    obtain ⟨q,h1,h2⟩:=Option.map_eq_some_iff.1 hp
    exact ⟨q,h1,h2.symm⟩
  refine ⟨by rw [List.length_map];exact h.len,fun k p u hp hu=>?_,fun k k' p p' u u' b hne hp hp' hpl hpl' hu hu' hbk hbk'=>?_,h.lt⟩
  · obtain ⟨q,h1,rfl⟩:=old k p hp
    have hr:=h.obj k q u h1 hu
    cases q with
    | boxB t cs =>
      obtain ⟨g,vs,e1,hg,hr1,h11,hf⟩:=hr
      exact ⟨g,vs,t,e1,hg,hr1,h11,hf⟩
    | _=>exact hr
  · obtain ⟨q,h1,rfl⟩:=old k p hp
    obtain ⟨q',h1',rfl⟩:=old k' p' hp'
    exact h.sep k k' q q' u u' b hne h1 h1' (by rw [← unB_live];exact hpl) (by rw [← unB_live];exact hpl') hu hu' (unB_bk.1 hbk) (unB_bk.1 hbk')
theorem OP.qB {o:Oper} (hq:∀ K:AV→Prop,vcQ P (mkA n l) (aw.map unB) o.op K→∀ σ w F a,ARel σ w F (mkA n l) a→Sim (aw.map unB) σ w F→∃ v r,(execOp a.eval o).run P w=.ok (.value v) w∧Rel σ w F r v∧K r)
    (h:vcQ P (mkA n l) (aw.map unB) o.op fun r=>K2 r aw):OP P N o (mkA n l) aw K2 :=
  OP.of_ok fun σ w F a ha hs=>by
    obtain ⟨v,r,h1,h2,h3⟩:=hq _ h σ w F a ha (sim_unB hs)
    exact ⟨v,_,w,aw,σ,F,r,h1,.inl rfl,hs,.refl _ _ _ _,h2,h3⟩
theorem OP.qB' {o:Oper} (h:vcQ P (mkA n l) (aw.map unB) o.op fun r=>K2 r aw):OP P N o (mkA n l) aw K2 :=
  OP.qB (fun K hK σ w F a ha hs=>by
    obtain ⟨v,r,h1,h2,h3⟩:=vcQ_ok ha hs o hK
    exact ⟨v,r,h1 w (fun _ _=>rfl),h2,h3⟩) h
theorem o_storeB {t:TypeId} {x y:Operand} {id off T:Nat} {cs vs:List AV} (hx:evA n l x=.ptr id off) (hob:aw[id]?=some (.boxB T cs)) (hvs:(evA n l y).cells=some vs) {du:TypeDesc} (hsome:P.underlying t=some du) (hlen:vs.length=P.cellsOf t) (hfit:off+vs.length≤cs.length)
    (haw:aw.set id (.boxB T (splice cs off vs))=aw') (h:K2 .any aw'):OP P N ⟨d,.store t x y,ty,ps,af,g⟩ (mkA n l) aw K2 :=
  OP.of_ok fun σ w F a ha hs=>by
    subst haw
    have hex:=ha.ev x
    rw [Q4a,hx] at hex
    obtain ⟨hr,h1⟩:=(ha.ev y).cells (by rw [Q4a];exact hvs)
    generalize hv:a.eval x=vx at hex
    cases hex with
    | ptr _ _ gg hσ =>
      obtain ⟨g',cur,e1,hg,hcr,hc1,hF⟩:=hs.obj id _ _ hob hσ
      injection e1 with e1
      injection e1 with e1
      injection e1 with e1
      subst e1
      have hcl:cur.size=cs.length:=by simpa using hcr.1
      have hul:(a.eval y).cells.toList.length=vs.length:=hr.1
      have hst:=run_storeCells_at P gg off T (a.eval y).cells.toList 0 cur w hg (by rw [hul];omega) h1
      have hk:∀ b,b≠gg→(w.setRow gg (Z8a cur.toList off (a.eval y).cells.toList).toArray).heap[b]?=w.heap[b]?:=fun b hb=>setRow_other w gg b _ hb
      have hself:Sim (aw.set id (.boxB T (splice cs off vs))) σ (w.setRow gg (Z8a cur.toList off (a.eval y).cells.toList).toArray) F:=by
        refine hs.write (b0:=gg) id hob rfl hσ rfl hk (by simp) (.boxB T (splice cs off vs)) ⟨gg,_,rfl,setRow_heap w gg cur _ T (0,0) hg,?_,?_,hF⟩ (fun _ h=>h)
        · have:=(hcr.splice off hr).mono (σ':=σ) (w':=w.setRow gg (Z8a cur.toList off (a.eval y).cells.toList).toArray) (F':=F) (fun _ _ e=>e) (fun _ e=>e) (fun b hb=>hk b (fun e=>hF (e▸hb)))
          simpa using this
        · intro u hu
          exact one_splice (fun u hu=>hc1 u (Array.mem_def.2 hu)) h1 u (by simpa using hu)
      refine ⟨undef,_,_,_,σ,F,.any,?_,.inr ⟨rfl,rfl⟩,hself,Mv.write (w:=w) (F:=F) (w':=w.setRow gg _) (b0:=gg) id hob rfl hσ rfl rfl rfl rfl hk (by simp) (.boxB T (splice cs off vs)) (fun _ h=>h),.any _,h⟩
      have hsz:(a.eval y).cells.size=P.cellsOf t:=by simp at hul;omega
      simp only [Nat.add_zero] at hst
      simp [execOp,hv,Instr.storeAt,Instr.sureAddr,storeVar,Sem.run_bind,J8a hsome,hsz,hst,Z8a]
theorem o_boxW {t e z k:Nat} {x:Operand} (hx:(evA n l x).cells=some [.nilp,.nils]) (hk:aw.length=k) (haw:aw++[.boxB t [.np k,.ref (k+1)],.arr e z []]=aw') (h:K2 (.ptr k 0) aw'):OP P N ⟨d,.box t x,ty,ps,af,g⟩ (mkA n l) aw K2 :=
  OP.of_ok fun σ w F a ha hs=>by
    subst hk haw
    obtain ⟨hrx,h1x⟩:=(ha.ev x).cells (by rw [Q4a];exact hx)
    obtain ⟨s1,m1,r1⟩:=push_box hs [.nilp,.nils] (a.eval x).cells t hrx h1x
    obtain ⟨s2,m2,r2⟩:=nil_push e z s1
    have hlen:=hs.len
    have hσ:(σ++[Value.pointer (some ⟨w.heap.size,0,none⟩)]++[Value.slice none 0 0])[aw.length]?=some (Value.pointer (some ⟨w.heap.size,0,none⟩)):=by simp [← hlen]
    have hσ2:(σ++[Value.pointer (some ⟨w.heap.size,0,none⟩)]++[Value.slice none 0 0])[aw.length+1]?=some (Value.slice none 0 0):=by simp [← hlen]
    have hid:(aw++[Ob.box [.nilp,.nils]]++[Ob.arr e z []])[aw.length]?=some (Ob.box [.nilp,.nils]):=by simp
    obtain ⟨gq,vs,tyq,e1,hg,hcr,hc1,hF⟩:=s2.obj _ _ _ hid hσ
    injection e1 with e1
    injection e1 with e1
    injection e1 with e1
    subst e1
    have hty:(w.alloc (.cells (a.eval x).cells t)).heap[w.heap.size]?=some (.cells (a.eval x).cells t (0,0)):=by
      show (w.heap.push _)[w.heap.size]?=_
      simp
    rw [hty] at hg
    cases hg
    have hnew:RelL (σ++[Value.pointer (some ⟨w.heap.size,0,none⟩)]++[Value.slice none 0 0]) (w.alloc (.cells (a.eval x).cells t)) F [.np aw.length,.ref (aw.length+1)] (a.eval x).cells.toList:=by
      obtain ⟨hl2,hc⟩:=hcr
      refine ⟨hl2,fun j x u hx hu=>?_⟩
      match j,hx with
      | 0,hx =>
        cases hx
        have:=hc 0 _ u rfl hu
        cases this
        exact .np0 _
      | 1,hx =>
        cases hx
        have:=hc 1 _ u rfl hu
        cases this
        exact .ref _ _ _ _ hσ2
    obtain ⟨s3,hd3⟩:=sim_upd s2 hid rfl hσ (o':=.boxB t [.np aw.length,.ref (aw.length+1)]) ⟨_,_,rfl,hty,hnew,hc1,hF⟩ (fun _ h=>h)
    have e3:(aw++[Ob.box [.nilp,.nils]]++[Ob.arr e z []]).set aw.length (.boxB t [.np aw.length,.ref (aw.length+1)])=aw++[.boxB t [.np aw.length,.ref (aw.length+1)],.arr e z []]:=by simp
    rw [e3] at s3 hd3
    refine ⟨_,_,_,_,_,F,.ptr aw.length 0,?_,.inl rfl,s3,mv_upd (m1.trans m2) hd3,.ptr _ _ _ hσ,h⟩
    simp [execOp,Instr.box,Sem.run_bind,newVar,newRow]
theorem T.mvBB {T0:Nat} {c:Code} {Q:Exit→List AV→List Ob→Prop} {fr:List AV} (b j id:Nat) {e s n0:Nat} {rows:List (List AV)} {cs cs':List AV} (hb:aw[b]?=some (.boxB T0 cs)) (hj:cs[j]?=some (.ref id)) (ho:aw[id]?=some (.arr e s rows)) (hn:aw.length=n0) (hc:cs.set j (.ref n0)=cs') (ha:(aw.set id .dead).set b (.boxB T0 cs')++[.arr e s rows]=aw') (h:T P N c Q fr aw'):T P N c Q fr aw :=
  ⟨fun st h1 h2 σ w F a hcur=>by
    subst hc ha hn
    have hbl:b<aw.length:=(List.getElem?_eq_some_iff.1 hb).1
    have hbσ:∃ vb,σ[b]?=some vb:=⟨_,List.getElem?_eq_getElem (by rw [hcur.sim.len];exact hbl)⟩
    obtain ⟨vb,hvb⟩:=hbσ
    obtain ⟨g,vs,rfl,hg,hcr,h1c,hf⟩:=hcur.sim.obj b _ vb hb hvb
    obtain ⟨u,hu,hru⟩:=hcr.get hj
    cases hru with
    | ref _ A m c2 hgσ =>
      obtain ⟨s1,m1⟩:=mv_push hcur.sim ho hgσ
      have hbid:b≠id:=by rintro rfl;rw [hb] at ho;cases ho
      have hb1:(aw.set id .dead++[.arr e s rows])[b]?=some (.boxB T0 cs):=by
        rw [List.getElem?_append_left (by simpa using hbl),List.getElem?_set,if_neg (fun e=>hbid e.symm)];exact hb
      have hnew:ORel (σ++[.slice A m c2]) w F (.boxB T0 (cs.set j (.ref aw.length))) (.pointer (some ⟨g,0,none⟩)):=by
        refine ⟨g,vs,rfl,hg,?_,h1c,hf⟩
        have hcr1:=m1.relL hcur.sim hcr
        have:=hcr1.set j (Rel.ref (σ:=σ++[.slice A m c2]) (w:=w) (F:=F) aw.length A m c2 (by rw [← hcur.sim.len];simp))
        have e2:vs.toList.set j (.slice A m c2)=vs.toList:=by
          obtain ⟨hlt2,hvs⟩:=List.getElem?_eq_some_iff.1 hu
          rw [← hvs];exact List.set_getElem_self hlt2
        rwa [e2] at this
      have hvb1:(σ++[.slice A m c2])[b]?=some (.pointer (some ⟨g,0,none⟩)):=Yza hvb
      have hset:(aw.set id .dead).set b (.boxB T0 (cs.set j (.ref aw.length)))++[Ob.arr e s rows]=(aw.set id .dead++[Ob.arr e s rows]).set b (.boxB T0 (cs.set j (.ref aw.length))):=by
        rw [List.set_append_left _ _ (by simpa using hbl)]
      rw [hset] at h
      have s2:=s1.write (b0:=g) b hb1 rfl hvb1 rfl (fun _ _=>rfl) rfl _ hnew (fun _ h=>h)
      have m2:=Mv.write (w:=w) (w':=w) (F:=F) (b0:=g) b hb1 rfl hvb1 rfl rfl rfl rfl (fun _ _=>rfl) rfl (.boxB T0 (cs.set j (.ref aw.length))) (fun _ h=>h)
      exact h.out st h1 h2 _ w F a ⟨s2,m2.aRel s1 (m1.aRel hcur.sim hcur.fr),(hcur.mv.trans m1).trans m2,hcur.ds⟩⟩
theorem pure_nili:Pure .nili:=fun σ w F v h σ'=>by cases h;exact .nili
theorem J2a {ρ:List Nat} {ids:List Nat} {id t:Nat} {cs ds:List AV} (h:aw[id]?=some (.boxB t ds)) (hr:RenL ρ cs ds) (tl:RenW ρ aw ids aw'):RenW ρ aw (id::ids) (.boxB t cs::aw'):=⟨⟨_,h,rfl,hr⟩,tl⟩
theorem Z7a {m:List (Nat × Nat)} {t:Nat} {cs ds:List AV} (h:RenLM m cs ds):RenOM m (.boxB t cs) (.boxB t ds):=⟨rfl,h⟩
theorem o_load_ptrB {t id off T:Nat} {x:Operand} {cs:List AV} (hx:evA n l x=.ptr id off) (ho:aw[id]?=some (.boxB T cs)) (h:Zpa P t cs off fun r=>K2 r aw):OP P N ⟨d,.load t x,ty,ps,af,g⟩ (mkA n l) aw K2 :=
  OP.qB' (by
    have ho':(aw.map unB)[id]?=some (.box cs):=by rw [List.getElem?_map,ho];rfl
    simp only [vcQ,Q4a,hx,ho']
    exact h)
end
end Go.Proofs.Ytchmpaaofmihcaa
namespace Go.Proofs.Ytchmpaaofmihcaa
open Go.RowKit
set_option linter.unusedVariables false
set_option linter.unusedSimpArgs false
def Idle (P:Program) (d:Deferred):Prop:=∃ fv cap f args,d.target=.fn fv cap∧(∀ w,(invoke d.target d.args).run P w=.ok (.enter f args) w) ∧
  ∀ w,CallsD P f args .returning w fun e u' w'=>(∃ v,e=.returned v)∧u'=.returning∧w'=w
def IdleF (P:Program) (g:FuncId) (k:Nat):Prop:=∀ cvs:List Value,cvs.length=k→Idle P ⟨.fn (.func g) cvs.toArray,#[]⟩
section
variable {P:Program} {N n:Nat} {fr:List AV} {aw:List Ob} {l:List (Nat × AV)} {Q:Exit→List AV→List Ob→Prop}
def CQD (P:Program) (st:St) (Q:Exit→List AV→List Ob→Prop) (e:Exit) (a:Act) (w:World):Prop:=CQ st Q e a w∨∃ d,Idle P d∧CQ { st with ds:=[d] } Q e a w
structure TD (P:Program) (N:Nat) (c:Code) (Q:Exit→List AV→List Ob→Prop) (fr:List AV) (aw:List Ob):Prop where
  out:∀ st:St,st.aw.length=N→st.σ.length=st.aw.length→st.ds=[]→∀ σ w F a,Cur st fr aw σ w F a→c.wp P (CQD P st Q) a w
theorem TD.seq {x y:Code} (h:T P N x (thenA (TD P N y Q) Q) fr aw):TD P N (.seq x y) Q fr aw :=
  ⟨fun st h1 h2 h3 σ w F a hc=>wp_seq (wp_mono (h.out st h1 h2 σ w F a hc) (by
    rintro e a' w' ⟨fr',aw',σ',F',hq,hcur⟩
    cases e with
    | normal=>exact TD.out hq st h1 h2 h3 σ' w' F' a' hcur
    | _=>exact .inl ⟨fr',aw',σ',F',hq,hcur⟩))⟩
theorem TD.defer {id:Nat} {ops:Array Oper} {y:Code} {ty:TypeId} {ps:String} {af:Array Edge} {f:Operand} {ts:Array TypeId} (i:Nat) (ho:ops.toList.drop i=[⟨none,.defer ⟨.value f,#[],ts⟩,ty,ps,af,none⟩])
    (h:RS P N ops (ops.toList.take i) (fun fr aw=>∃ l caps g,fr=mkA n l∧evA n l f=.func g caps∧IdleF P g caps.length∧T P N y Q (mkA n l) aw) fr aw):TD P N (.seq (.region id ops false) y) Q fr aw :=
  ⟨fun st h1 h2 h3 σ w F a hc=>by
    refine wp_seq (wp_region_list ?_)
    rw [← List.take_append_drop i ops.toList,ho]
    refine wpList_app _ _ _ (h.out st h1 h2 σ w F a hc _ fun fr aw σ w F a hc hK=>?_)
    obtain ⟨l,caps,g,rfl,hf,hI,hT⟩:=hK
    show wpList P ops _ (_::[]) a w
    unfold wpList
    rw [if_pos (by simp [Region.wanted])]
    refine .inl ?_
    have hfv:=hc.fr.ev f
    rw [Q4a,hf] at hfv
    generalize hvf:a.eval f=vf at hfv
    cases hfv with
    | func _ _ cvs hl hcs =>
      have hrun:(execOp a.eval ⟨none,.defer ⟨.value f,#[],ts⟩,ty,ps,af,none⟩).run P w=.ok (.defer ⟨.fn (.func g) cvs.toArray,#[]⟩) w:=by
        simp [execOp,resolve,Deferred.ofValue,hvf,Sem.run_bind]
      unfold Oper.wp
      rw [hrun,Oper.upon_defer]
      show wpList P ops _ [] _ w
      unfold wpList
      refine wp_mono (hT.out { st with ds:=[⟨.fn (.func g) cvs.toArray,#[]⟩] } h1 h2 σ w F _ ?_) fun _ _ _ h=>.inr ⟨_,hI cvs hl,h⟩
      refine ⟨hc.sim,hc.fr,hc.mv,?_⟩
      have hds:=hc.ds
      rw [h3] at hds
      show _::a.defers=_
      rw [hds]⟩
theorem fn_of_TD {f:FuncId} {fn:Func} {c:Code} {args:List AV} {aw:List Ob} {Q:AV→List Ob→Prop} {m N:Nat} (hN:aw.length=N) (hf:P.funcs[f]?=some fn) (hb:fn.body=some c) (hname:(fn.name == "runtime.NumGoroutine")=false) (hm:fn.ntmps=m) (hl:Nat.ble args.length m=true)
    (h:TD P N c (retQ P fn N Q) (mkA m (initA 0 args)) aw):ACalls P f args aw Q:=by
  subst hm hN
  refine ⟨callable hf (by rw [hb];rfl) hname,fun w F σ vs hs hr=>?_⟩
  have hc:Cur ⟨aw,σ,w,F,[]⟩ (args++List.replicate (fn.ntmps - args.length) .any) aw σ w F { tmps:=vs.toArray++Array.replicate (fn.ntmps - vs.toArray.size) undef,defers:=[] }:=by
    refine ⟨hs,⟨?_,trivial⟩,.refl ..,rfl⟩
    have h2:RelL σ w F (List.replicate (fn.ntmps - args.length) .any) (List.replicate (fn.ntmps - vs.length) undef) :=
      ⟨by simp [hr.1],fun j x v hx hv=>by rw [List.eq_of_mem_replicate (List.mem_of_getElem? hx)];exact .any v⟩
    simpa using hr.append h2
  rw [init_mkA _ _ (Nat.le_of_ble_eq_true hl)] at hc
  refine calls_of_wp_defers hf hb (wp_mono (h.out ⟨aw,σ,w,F,[]⟩ rfl hs.len rfl σ w F _ hc) ?_)
  have key:∀ (ds:List Deferred) (a':Act) (w':World) (fr':List AV) (aw':List Ob) (σ':List Value) (F':Nat→Prop),Cur ⟨aw,σ,w,F,ds⟩ fr' aw' σ' w' F' a'→vcRes P fr' aw' fn.results.toList (Ret aw.length Q aw')→∃ v,(results fn a'.tmps).run P w'=.ok v w' ∧
      (∃ v' r aw2 σ2 F2,Ending.returned v=.returned v'∧Q r aw2∧Sim aw2 σ2 w' F2∧Rel σ2 w' F2 r v'∧Mv aw σ w F aw2 σ2 w' F2):=by
    intro ds a' w' fr' aw' σ' F' hcur hq
    obtain ⟨rs,us,h1,⟨nl,z,r',aw2,hW,hQ⟩,h3⟩:=res_ok hcur.fr hcur.sim _ _ hq
    obtain ⟨σn,sn,h1n,mn⟩:=nilify_ok nl hcur.sim h1
    refine ⟨_,run_results fn a'.tmps us h3,?_⟩
    have hrel:=ret_rel h1n
    have fin:∀ (r1:AV) (aw1:List Ob) (F1:Nat→Prop),Sim aw1 σn w' F1→Mv aw σ w F aw1 σn w' F1→Rel σn w' F1 r1 (if h:us.length=1 then us[0] else .tuple us.toArray)→WeakR aw.length r1 aw1 r' aw2 →
        ∃ v' r aw2 σ2 F2,Ending.returned (if h:us.length=1 then us[0] else .tuple us.toArray)=.returned v'∧Q r aw2∧Sim aw2 σ2 w' F2∧Rel σ2 w' F2 r v'∧Mv aw σ w F aw2 σ2 w' F2:=by
      intro r1 aw1 F1 s1 m1 hr1 ⟨ρ,hnd,hρ,hren,hRW⟩
      obtain ⟨σ2,hσ,s2,hd⟩:=sim_ren s1 hnd hRW
      exact ⟨_,r',aw2,σ2,F1,rfl,hQ,s2,hren σn w' F1 _ hr1 σ2 hσ,Mv.ren (st:=⟨aw,σ,w,F,[]⟩) hs.len m1 hρ hσ hd⟩
    cases z with
    | true =>
      obtain ⟨F1,s1,m1,r1⟩:=normR_ok sn hrel
      exact fin _ _ F1 s1 ((hcur.mv.trans mn).trans m1) r1 hW
    | false=>exact fin _ _ F' sn (hcur.mv.trans mn) hrel hW
  have leave:∀ (a':Act) (w':World) (fr':List AV) (aw':List Ob) (σ':List Value) (F':Nat→Prop) (ds:List Deferred),(ds=[]∨∃ d,Idle P d∧ds=[d])→Cur ⟨aw,σ,w,F,ds⟩ fr' aw' σ' w' F' a'→vcRes P fr' aw' fn.results.toList (Ret aw.length Q aw') →
      Leaves P fn a'.tmps (fun e w'=>∃ v r aw' σ' F',e=.returned v∧Q r aw'∧Sim aw' σ' w' F'∧Rel σ' w' F' r v∧Mv aw σ w F aw' σ' w' F') a'.defers .returning w':=by
    intro a' w' fr' aw' σ' F' ds hds hcur hq
    have hk:=key ds a' w' fr' aw' σ' F' hcur hq
    have hd:=hcur.ds
    rcases hds with rfl | ⟨d,⟨fv,cap,g,gargs,e1,e2,e3⟩,rfl⟩
    · rw [hd];exact hk
    · rw [hd]
      refine ⟨by simp,fv,cap,g,gargs,e1,e2 w',(e3 w').mono ?_⟩
      rintro e u' w'' ⟨⟨v,rfl⟩,rfl,rfl⟩
      exact hk
  rintro e a' w' (⟨fr',aw',σ',F',hq,hcur⟩ | ⟨d,hI,fr',aw',σ',F',hq,hcur⟩)
  · cases e with
    | normal=>exact leave _ _ _ _ _ _ _ (.inl rfl) hcur hq
    | ret=>exact leave _ _ _ _ _ _ _ (.inl rfl) hcur hq
    | exit id=>exact hq.elim
    | goto l=>exact hq.elim
    | panic ch=>exact hq.elim
    | outgrown=>exact hq.elim
  · cases e with
    | normal=>exact leave _ _ _ _ _ _ _ (.inr ⟨d,hI,rfl⟩) hcur hq
    | ret=>exact leave _ _ _ _ _ _ _ (.inr ⟨d,hI,rfl⟩) hcur hq
    | exit id=>exact hq.elim
    | goto l=>exact hq.elim
    | panic ch=>exact hq.elim
    | outgrown=>exact hq.elim
end
end Go.Proofs.Ytchmpaaofmihcaa
namespace Go.Proofs.Ytchmpaaofmihcaa
open Go.RowKit
set_option maxRecDepth 100000
set_option maxHeartbeats 4000000
theorem cc_used (b:Nat) (w:World) (h0:w.cell? ⟨b,0,none⟩=some (.pointer (some ⟨b,0,none⟩))) :
    Calls Try.prog 63 #[.pointer (some ⟨b,0,none⟩)] w fun e w'=>e=.returned (.tuple #[])∧w'=w:=by
  obtain ⟨j,hj,hjs⟩:=Option.map_eq_some_iff.1 (show (Try.prog.info? 56).map (·.size)=some 2 by kernel_rfl)
  go_enter Try.func63,Try.ntmps63
  go_wp2
  rw [Lib.run_neq_ptr_same w _ Try.underlying53 hj]
  go_wp2
  go_end0
  exact ⟨rfl,rfl⟩
theorem cc_fresh (b:Nat) (w:World) (h0:w.cell? ⟨b,0,none⟩=some (.pointer none)) (hsh:w.shape? b=some (58,2)) (hfz:w.frozen? ⟨b,0,none⟩=false) :
    Calls Try.prog 63 #[.pointer (some ⟨b,0,none⟩)] w fun e w'=>e=.returned (.tuple #[])∧w'=w.setCell ⟨b,0,none⟩ (.pointer (some ⟨b,0,none⟩)):=by
  obtain ⟨j,hj,hjs⟩:=Option.map_eq_some_iff.1 (show (Try.prog.info? 56).map (·.size)=some 2 by kernel_rfl)
  go_enter Try.func63,Try.ntmps63
  go_wp2
  rw [Lib.run_to_unsafe w ⟨b,0,none⟩ Try.underlying53 Try.underlying151 hj (by rw [hjs];decide) hsh (Nat.zero_lt_succ 1)]
  simp only [Result.andThen]
  rw [Oper.upon_value]
  go_wp2
  rw [run_callFunc_extern Try.func74 (by kernel_rfl) (by kernel_rfl) (by kernel_rfl) (e:=Extern.AbiNoEscape.same) (by kernel_rfl)]
  rw [Lib.run_noEscape]
  simp only [Result.andThen]
  rw [Oper.upon_value]
  go_wp2
  rw [Lib.run_from_unsafe w ⟨b,0,none⟩ Try.underlying151 Try.underlying53 hj hsh (by kernel_rfl)]
  simp only [Result.andThen]
  rw [Oper.upon_value]
  go_wp2
  go_end0
  exact ⟨rfl,rfl⟩
theorem copyCheck_fn (rows:List (List AV)):FnX Try.prog 63 [.ptr 0 0] [.boxB 58 [.np 0,.ref 1],.arr 5 1 rows] (.tup []) [.boxB 58 [.np 0,.ref 1],.arr 5 1 rows]:=by
  refine ⟨callable Try.func63 rfl (by kernel_rfl),fun w F σ vs hs hr=>?_⟩
  match vs,hr with
  | [v0], hr =>
    have r0:Rel σ w F (.ptr 0 0) v0:=hr.2 0 _ v0 rfl rfl
    cases r0 with
    | ptr _ _ g hσ =>
    obtain ⟨g',us,e1,hg,hcr,hc1,hF⟩:=hs.obj 0 _ _ rfl hσ
    injection e1 with e1
    injection e1 with e1
    injection e1 with e1
    subst e1
    have hlen:us.size=2:=by simpa using hcr.1
    obtain ⟨p,hp,hrp⟩:=hcr.get (j:=0) (a:=.np 0) rfl
    have hp':us[0]?=some p:=by simpa using hp
    have hcell:w.cell? ⟨g,0,none⟩=some p:=by
      rw [World.cell?]
      simp [hg,hp']
    cases hrp with
    | np0 _ =>
      have hsh:w.shape? g=some (58,2):=by simp [World.shape?,hg,hlen]
      have hfz:w.frozen? ⟨g,0,none⟩=false:=by simp [World.frozen?,hg]
      refine (cc_fresh g w hcell hsh hfz).mono ?_
      rintro e w' ⟨rfl,rfl⟩
      have hk:∀ b,b≠g→(w.setCell ⟨g,0,none⟩ (.pointer (some ⟨g,0,none⟩))).heap[b]?=w.heap[b]?:=fun b hb=>by
        have:¬ g=b:=fun e=>hb e.symm
        rw [Go.Sort.setCell_eq]
        simp [Go.Sort.mapBlock,Array.getElem?_modify,this]
      have hsz:(w.setCell ⟨g,0,none⟩ (.pointer (some ⟨g,0,none⟩))).heap.size=w.heap.size:=by
        rw [Go.Sort.setCell_eq]
        simp [Go.Sort.mapBlock]
      have hg':(w.setCell ⟨g,0,none⟩ (.pointer (some ⟨g,0,none⟩))).heap[g]?=some (.cells (us.setIfInBounds 0 (.pointer (some ⟨g,0,none⟩))) 58 (0,0)):=by
        rw [Go.Sort.setCell_eq]
        simp [Go.Sort.mapBlock,Array.getElem?_modify,hg,Go.Sort.onCells]
      have hnew:RelL σ (w.setCell ⟨g,0,none⟩ (.pointer (some ⟨g,0,none⟩))) F [.np 0,.ref 1] (us.setIfInBounds 0 (.pointer (some ⟨g,0,none⟩))).toList:=by
        refine ⟨by simp [hlen],fun j x u hx hu=>?_⟩
        match j,hx with
        | 0,hx =>
          cases hx
          simp [hlen] at hu
          subst hu
          exact .npS 0 g hσ
        | 1,hx =>
          cases hx
          have hu2:us[1]?=some u:=by simpa using hu
          have:=hcr.2 1 _ u rfl (by simpa using hu2)
          cases this with
          | ref _ A q cp h9=>exact .ref 1 A q cp h9
      have hone:∀ u,u∈us.setIfInBounds 0 (.pointer (some ⟨g,0,none⟩))→u.oneCell'=true:=fun u hu=>by
        rcases Array.mem_or_eq_of_mem_setIfInBounds hu with h | h
        · exact hc1 u h
        · subst h;rfl
      have s1:=hs.write (b0:=g) 0 rfl rfl hσ rfl hk hsz (.boxB 58 [.np 0,.ref 1]) ⟨g,_,rfl,hg',hnew,hone,hF⟩ (fun _ h=>h)
      have m1:Mv [.boxB 58 [.np 0,.ref 1],.arr 5 1 rows] σ w F ([Ob.boxB 58 [.np 0,.ref 1],.arr 5 1 rows].set 0 (.boxB 58 [.np 0,.ref 1])) σ (w.setCell ⟨g,0,none⟩ (.pointer (some ⟨g,0,none⟩))) F :=
        Mv.write (aw:=[.boxB 58 [.np 0,.ref 1],.arr 5 1 rows]) (w:=w) (w':=w.setCell ⟨g,0,none⟩ (.pointer (some ⟨g,0,none⟩))) (F:=F) (o:=.boxB 58 [.np 0,.ref 1]) (b0:=g) 0 rfl rfl hσ rfl rfl rfl rfl hk hsz (.boxB 58 [.np 0,.ref 1]) (fun _ h=>h)
      exact ⟨_,_,_,σ,F,rfl,⟨rfl,rfl⟩,s1,rel_undef,m1⟩
    | npS _ g2 h2 =>
      rw [hσ] at h2
      cases h2
      refine (cc_used g w hcell).mono ?_
      rintro e w' ⟨rfl,rfl⟩
      exact ⟨_,_,_,σ,F,rfl,⟨rfl,rfl⟩,hs,rel_undef,.refl _ _ _ _⟩
theorem S_some (b g cap:Nat) (cur:Array Value) (l:List UInt8) (w:World) (c0:w.cell? ⟨b,1,none⟩=some (.slice (some ⟨g,0,none⟩) l.length cap)) (h0:l≠[]) (hg:w.heap[g]?=some (.cells cur 5 (0,0))) (hnc:l.length≤cap) (hcm:cap≤maxLen) (hcs:cur.size=cap)
    (hx:∀ (j:Nat) x,l[j]?=some x→w.cell? ⟨g,j,none⟩=some (.int .u8 x.toNat)) :
    Calls Try.prog 17 #[.pointer (some ⟨b,0,none⟩)] w fun e w'=>e=.returned (.string ⟨l.toArray⟩)∧w'=w.drew.freeze ⟨g,0,none⟩ l.length:=by
  have hl0:l.length≠0:=by simpa using h0
  have c1:w.drew.cell? ⟨b,1,none⟩=some (.slice (some ⟨g,0,none⟩) l.length cap):=c0
  have hSD:(Builtin.unsafeSliceData_ #[54] 104 #[.slice (some ⟨g,0,none⟩) l.length cap]).run Try.prog w.drew=.ok (.pointer (some ⟨g,0,none⟩)) w.drew :=
    Lib.run_unsafeSliceData_row _ _ _ _ _ _ (by omega)
  have hUS:(Builtin.unsafeString_ #[104,3] 9 #[.pointer (some ⟨g,0,none⟩),.int .i64 l.length]).run Try.prog w.drew=.ok (.string ⟨l.toArray⟩) (w.drew.freeze ⟨g,0,none⟩ l.length):=by
    refine Lib.run_unsafeString_row w.drew 104 3 9 5 Try.underlying104 (by kernel_rfl) g cur.size (by have hg':w.drew.heap[g]?=some (.cells cur 5 (0,0)):=hg;simp [World.shape?,hg']) l h0 (by omega) (by unfold maxLen at hcm;omega) ?_
    intro j x hj
    show w.cell? _=_
    have e:(⟨g,0,none⟩:Addr).add j=⟨g,j,none⟩:=by
      unfold Addr.add
      simp
      intro h;exact h.symm
    rw [e]
    exact hx j x hj
  have mixed:=mixed
  clear c0 hx hg
  go_enter Try.func17,Try.ntmps17
  go_wp2
  go_region_o
  all_goals (go_wp2;go_ret;exact ⟨rfl,rfl⟩)
theorem S_flat {σ:List Value} {w:World} {F:Nat→Prop}:∀ (xs:List Int) (flat:List Value),RelL σ w F (xs.map enc8).flatten flat→flat=xs.map fun n=>Value.int .u8 n
  | [],flat,h=>List.eq_nil_of_length_eq_zero h.1
  | x :: xs,flat,h=>by
    match flat,h with
    | [],h=>exact absurd h.1 (by simp [enc8])
    | a::r,h =>
      have h1:Rel σ w F (.int .u8 x) a:=h.2 0 _ a rfl rfl
      have h3:=S_flat xs r ⟨by have:=h.1;simp [enc8] at this ⊢;omega,fun j y v hy hv=>h.2 (j+1) y v (by simpa [enc8] using hy) (by simpa using hv)⟩
      cases h1
      rw [h3];rfl
theorem string_fn (xs:List Int) (r:List UInt8) (h:bldS xs=some r):FnX Try.prog 17 [.ptr 0 0] [.boxB 58 [.np 0,.ref 1],.arr 5 1 (List.map enc8 xs)] (.str r) [.dead,.dead]:=by
  unfold bldS at h
  split at h
  rotate_left
  · cases h
  rename_i hc
  cases h
  refine ⟨callable Try.func17 rfl (by kernel_rfl),fun w F σ vs hs hr=>?_⟩
  match vs,hr with
  | [v0], hr =>
    have r0:Rel σ w F (.ptr 0 0) v0:=hr.2 0 _ v0 rfl rfl
    cases r0 with
    | ptr _ _ b hσ =>
    obtain ⟨b',us,e1,hb,hcr,hc1,hF⟩:=hs.obj 0 _ _ rfl hσ
    injection e1 with e1
    injection e1 with e1
    injection e1 with e1
    subst e1
    have hlen:us.size=2:=by simpa using hcr.1
    obtain ⟨p,hp,hrp⟩:=hcr.get (j:=1) (a:=.ref 1) rfl
    have hp':us[1]?=some p:=by simpa using hp
    have hcell:w.cell? ⟨b,1,none⟩=some p:=by
      rw [World.cell?]
      simp [hb,hp']
    cases hrp with
    | ref _ A q cp hσ1 =>
    obtain ⟨hq,flat,hown,hfl,hcase⟩:=Qxb hs (id:=1) rfl hσ1
    rw [List.length_map] at hq
    subst hq
    rcases hcase with hcase | ⟨g,cur,rfl,hFa,hga,hnc,hcm,hsz,htk⟩
    · exact absurd (List.map_eq_nil_iff.1 hcase) hc.1
    · have hflat:=S_flat xs flat hfl.2.2
      have hlt:(toStr xs).length=xs.length:=by simp [toStr]
      have hx:∀ (j:Nat) x,(toStr xs)[j]?=some x→w.cell? ⟨g,j,none⟩=some (.int .u8 x.toNat):=fun j x hj=>by
        have hj2:j<xs.length:=by rw [← hlt];exact (List.getElem?_eq_some_iff.1 hj).1
        have h1:cur.toList[j]?=some (.int .u8 xs[j]):=by
          have:(cur.toList.take (xs.length*1))[j]?=flat[j]?:=by rw [htk]
          rw [List.getElem?_take,if_pos (by omega),hflat] at this
          rw [this]
          simp [hj2]
        have h2:x=UInt8.ofNat (xs[j]).toNat:=by
          unfold toStr at hj
          rw [List.getElem?_map,List.getElem?_eq_getElem hj2] at hj
          exact (Option.some.inj hj).symm
        have h3:=hc.2 xs[j] (List.getElem_mem hj2)
        have h4:((UInt8.ofNat (xs[j]).toNat).toNat:Int)=xs[j]:=by
          rw [UInt8.toNat_ofNat',Nat.mod_eq_of_lt (by omega)]
          omega
        rw [World.cell?]
        rw [h2,h4]
        have h5:cur[j]?=some (.int .u8 xs[j]):=by simpa using h1
        simp [hga,h5]
      have hne:toStr xs≠[]:=fun e=>hc.1 (List.eq_nil_of_length_eq_zero (by rw [← hlt,e];rfl))
      have hS:=S_some b g cp cur (toStr xs) w (by rw [hlt];exact hcell) hne hga (by rw [hlt];exact hnc) hcm (by omega) hx
      refine hS.mono ?_
      rintro e w' ⟨rfl,rfl⟩
      have hn0:(toStr xs).length≠0:=by simpa using hne
      have hfz:∀ k,k≠g→(w.drew.freeze ⟨g,0,none⟩ (toStr xs).length).heap[k]?=w.heap[k]?:=fun k hk=>by
        have:¬ g=k:=fun e=>hk e.symm
        unfold World.freeze
        rw [if_neg hn0]
        show (w.heap.modify g _)[k]?=_
        rw [Array.getElem?_modify,if_neg this]
      have hsize:(w.drew.freeze ⟨g,0,none⟩ (toStr xs).length).heap.size=w.heap.size:=by
        unfold World.freeze
        rw [if_neg hn0]
        show (w.heap.modify g _).size=_
        simp
      have hD:Dof [Ob.boxB 58 [.np 0,.ref 1],.arr 5 1 (List.map enc8 xs)] σ g:=⟨1,_,_,rfl,rfl,hσ1,rfl⟩
      refine ⟨_,_,_,σ,F,rfl,⟨rfl,rfl⟩,⟨by have:=hs.len;simpa using this,fun k o v ho hv=>?_,fun k k' o o' v v' gg hne ho ho' hl=>?_,fun k hk=>by rw [hsize];exact hs.lt k hk⟩,.str _,⟨by unfold World.freeze;rw [if_neg hn0];rfl,by unfold World.freeze;rw [if_neg hn0];rfl,by unfold World.freeze;rw [if_neg hn0];rfl,Nat.le_of_eq hsize.symm,fun k hk hd=>hfz k (fun e=>hd (e▸hD)),fun _ _ h=>h,fun _ h=>h,fun _ h=>.inl h,fun k hd=>?_⟩⟩
      · match k,ho with
        | 0,ho=>cases ho;trivial
        | 1,ho=>cases ho;trivial
      · match k,ho with
        | 0,ho=>cases ho;cases hl
        | 1,ho=>cases ho;cases hl
      · obtain ⟨j,o,v,ho,hl,_⟩:=hd
        match j,ho with
        | 0,ho=>cases ho;cases hl
        | 1,ho=>cases ho;cases hl
end Go.Proofs.Ytchmpaaofmihcaa
namespace Go.Proofs.Ytchmpaaofmihcaa
open Go.RowKit
set_option linter.unusedVariables false
set_option linter.unusedSimpArgs false
set_option maxRecDepth 100000
set_option maxHeartbeats 4000000
set_option synthInstance.maxSize 100000
set_option synthInstance.maxHeartbeats 4000000
theorem move_choice_c (p0:Net) (p1:Choice) (r:Bool) (h:move_choice p0 p1=some r):Fn Try.prog 40 [.agg (Jca p0),.agg (Qea p1)] (.bool r):=by
  unfold move_choice at h
  refine fnT 0 Try.func40 Try.ntmps40 ?_
  refine T.seq (T.region (go 3 0 (RS.nil ?_)))
  obtain ⟨zt_5,hz,h⟩:=bind_some h
  revert hz h;revert zt_5;intro c3 hz h
  refine T.join (Z:=Unit) (fun _=>mkA 44 [(4,.bool c3)]) (fun _=>[]) (fun _=>True) (fun _ _=>?_) (fun hK=>?_)
  ·cases h
   exact tD
  rcases Qca (decide (p1.Node ≥ 0)) with hb_1 | hb_1
  ·replace hz:=ite_T hz hb_1
   rcases Qca (decide (p1.Node<((p0.Nodes).length:Int))) with hb_2 | hb_2
   ·replace hz:=ite_T hz hb_2
    obtain ⟨x1,hx1,hz⟩:=bind_some hz
    rcases Qca (x1.Kind==6) with hb_3 | hb_3
    ·replace hz:=ite_T hz hb_3
     rcases Qca (decide (p1.Lane ≥ 0)) with hb_4 | hb_4
     ·replace hz:=ite_T hz hb_4
      obtain ⟨x2,hx2,hz⟩:=bind_some hz
      refine T.drawn mixed (k:=40) rfl ?_
      apply RA.jn 0 #[true,true,true,true,true,true,true,true,true,true,true,true,true,true,true,true,true,true,true,true,true,true,true,true,true,true,true,true,true,true,true,true,true,true,true,true,true,true,true,true];intro hS6
      apply RA.jn 5 #[true,true,true,true,true,true,true,true,true,true,true,true,true,true,true,true,true,true,true,true,true,true,true,true,true,true,true,true,true,true,true,true,true,true,true,false,false,false,false,false];intro hS7
      apply RA.jn 6 #[true,true,true,true,true,true,true,true,true,true,true,true,true,true,true,true,true,true,true,true,true,true,true,true,true,true,true,true,false,true,true,true,true,true,true,false,false,false,false,false];intro hS8
      apply RA.jn 8 #[true,true,true,true,true,true,true,true,true,true,true,true,true,true,true,true,true,true,true,true,true,true,true,true,true,true,true,true,true,true,false,true,true,false,false,false,false,false,false,false];intro hS9
      apply RA.jn 8 #[true,true,true,true,true,true,true,true,true,true,true,true,true,true,true,true,true,true,true,true,true,true,true,true,true,true,true,true,true,true,true,true,false,false,false,false,false,false,false,false];intro hS10
      apply RA.jn 22 #[true,true,true,true,true,true,true,true,true,true,true,true,true,true,true,true,true,true,false,false,false,false,false,false,false,false,false,false,false,false,false,false,false,false,false,false,false,false,false,false];intro hS11
      apply RA.jn 26 #[true,true,true,true,true,true,true,true,true,true,true,true,true,false,true,false,false,false,false,false,false,false,false,false,false,false,false,false,false,false,false,false,false,false,false,false,false,false,false,false];intro hS12
      ·refine rq [0] 39 (ra1 1 (og 2 ⟨rfl,(rq [2,3] 36 (ry 4 hb_1 rfl (ry 6 hb_1 rfl (ra2 5 7 ?_ ?_))))⟩))
       ·refine oy 2 hb_1 rfl (ra1 7 (oy 2 hb_1 rfl (r1 8 rfl hb_1 (Qha Ty.s22 rfl (ry 9 hb_1 rfl (r0 10 rfl (Qfa (v:=.bool (decide (p1.Node<((p0.Nodes).length:Int)))) rfl hb_1 rfl (rq [11] 28 (ry 12 hb_2 rfl (ry 14 hb_2 rfl ?_))))))))))
        exact raE hS12
       ·refine oy 2 hb_1 rfl (r1 8 rfl hb_1 (Qha Ty.s22 rfl (ra1 5 (oy 2 hb_1 rfl (ry 9 hb_1 rfl (r0 10 rfl (Qfa (v:=.bool (decide (p1.Node<((p0.Nodes).length:Int)))) rfl hb_1 rfl (rq [11] 28 (ry 12 hb_2 rfl (ry 14 hb_2 rfl ?_))))))))))
        exact raT hS12
      ·refine ra2 13 15 ?_ ?_
       ·refine oy 2 hb_2 rfl (ra1 15 (oy 2 hb_2 rfl (r1 16 rfl hb_2 (Qga Ty.s22 (fun _=>rfl) rfl rfl hx1 (ry 17 hb_2 rfl ?_)))))
        exact raE hS11
       ·refine oy 2 hb_2 rfl (ra1 13 (oy 2 hb_2 rfl (r1 16 rfl hb_2 (Qga Ty.s22 (fun _=>rfl) rfl rfl hx1 (ry 17 hb_2 rfl ?_)))))
        exact raT hS11
      ·refine ra1 18 (oy 2 hb_2 rfl (ry 19 hb_2 rfl (r0 20 rfl (Qfa (v:=.bool (x1.Kind==6)) rfl hb_2 rfl (rq [21] 18 (ry 22 hb_3 rfl (ra1 23 (oy 2 hb_3 rfl (ry 24 hb_3 rfl (r0 25 rfl (Qfa (v:=.bool (decide (p1.Lane ≥ 0))) rfl hb_3 rfl ?_)))))))))))
       refine rq [26] 13 (ry 27 hb_4 rfl (ry 29 hb_4 rfl (ry 31 hb_4 rfl (ra3 28 30 32 ?_ ?_ ?_))))
       ·refine oy 2 hb_4 rfl (ra2 30 32 ?_ ?_)
        ·refine oy 2 hb_4 rfl ?_
         exact raE hS10
        ·refine oy 2 hb_4 rfl ?_
         exact raE hS9
       ·refine oy 2 hb_4 rfl (ra2 28 32 ?_ ?_)
        ·refine oy 2 hb_4 rfl ?_
         exact raT hS10
        ·refine oy 2 hb_4 rfl (r1 33 rfl hb_4 (Qga Ty.s22 (fun _=>rfl) rfl rfl hx2 (ry 34 hb_4 rfl ?_)))
         exact raE hS8
       ·refine oy 2 hb_4 rfl (ra2 28 30 ?_ ?_)
        ·refine oy 2 hb_4 rfl ?_
         exact raT hS9
        ·refine oy 2 hb_4 rfl (r1 33 rfl hb_4 (Qga Ty.s22 (fun _=>rfl) rfl rfl hx2 (ry 34 hb_4 rfl ?_)))
         exact raT hS8
      ·refine ra1 32 (oy 2 hb_4 rfl (r1 33 rfl hb_4 (Qga Ty.s22 (fun _=>rfl) rfl rfl hx2 (ry 34 hb_4 rfl ?_))))
       exact raE hS7
      ·refine ra1 30 (oy 2 hb_4 rfl (r1 33 rfl hb_4 (Qga Ty.s22 (fun _=>rfl) rfl rfl hx2 (ry 34 hb_4 rfl ?_))))
       exact raT hS7
      ·refine ra2 28 35 ?_ ?_
       ·refine oy 2 hb_4 rfl ?_
        exact raT hS7
       ·refine oy 2 hb_4 rfl (r1 36 rfl hb_4 (Qha Ty.s26 rfl (ra1 28 (oy 2 hb_4 rfl (ry 37 hb_4 rfl (r0 38 rfl (Qfa (v:=.bool (decide (p1.Lane<((x2.In).length:Int)))) rfl hb_4 rfl (rq [39] 0 ?_))))))))
        exact raE hS6
      ·refine ra1 35 (oy 2 hb_4 rfl (r1 36 rfl hb_4 (Qha Ty.s26 rfl (ry 37 hb_4 rfl (r0 38 rfl (Qfa (v:=.bool (decide (p1.Lane<((x2.In).length:Int)))) rfl hb_4 rfl (rq [39] 0 ?_)))))))
       exact raT hS6
      refine RA.done (by decide +kernel) ?_
      exact T.weakR (hK () trivial) (Weak.mkN [] [] (by decide) (Qpa _) rfl ⟨Jla ((congrArg (fun p=>p) (Option.some.inj hz)).symm),trivial⟩ (Qna))
     replace hz:=ite_F hz hb_4
     refine T.drawn mixed (k:=40) rfl ?_
     apply RA.jn 22 #[true,true,true,true,true,true,true,true,true,true,true,true,true,true,true,true,true,true,false,false,false,false,false,false,false,false,false,false,false,false,false,false,false,false,false,false,false,false,false,false];intro hS13
     apply RA.jn 26 #[true,true,true,true,true,true,true,true,true,true,true,true,true,false,true,false,false,false,false,false,false,false,false,false,false,false,false,false,false,false,false,false,false,false,false,false,false,false,false,false];intro hS14
     ·refine rq [0] 39 (ra1 1 (og 2 ⟨rfl,(rq [2,3] 36 (ry 4 hb_1 rfl (ry 6 hb_1 rfl (ra2 5 7 ?_ ?_))))⟩))
      ·refine oy 2 hb_1 rfl (ra1 7 (oy 2 hb_1 rfl (r1 8 rfl hb_1 (Qha Ty.s22 rfl (ry 9 hb_1 rfl (r0 10 rfl (Qfa (v:=.bool (decide (p1.Node<((p0.Nodes).length:Int)))) rfl hb_1 rfl (rq [11] 28 (ry 12 hb_2 rfl (ry 14 hb_2 rfl ?_))))))))))
       exact raE hS14
      ·refine oy 2 hb_1 rfl (r1 8 rfl hb_1 (Qha Ty.s22 rfl (ra1 5 (oy 2 hb_1 rfl (ry 9 hb_1 rfl (r0 10 rfl (Qfa (v:=.bool (decide (p1.Node<((p0.Nodes).length:Int)))) rfl hb_1 rfl (rq [11] 28 (ry 12 hb_2 rfl (ry 14 hb_2 rfl ?_))))))))))
       exact raT hS14
     ·refine ra2 13 15 ?_ ?_
      ·refine oy 2 hb_2 rfl (ra1 15 (oy 2 hb_2 rfl (r1 16 rfl hb_2 (Qga Ty.s22 (fun _=>rfl) rfl rfl hx1 (ry 17 hb_2 rfl ?_)))))
       exact raE hS13
      ·refine oy 2 hb_2 rfl (ra1 13 (oy 2 hb_2 rfl (r1 16 rfl hb_2 (Qga Ty.s22 (fun _=>rfl) rfl rfl hx1 (ry 17 hb_2 rfl ?_)))))
       exact raT hS13
     refine ra1 18 (oy 2 hb_2 rfl (ry 19 hb_2 rfl (r0 20 rfl (Qfa (v:=.bool (x1.Kind==6)) rfl hb_2 rfl (rq [21] 18 (ry 22 hb_3 rfl (ra1 23 (oy 2 hb_3 rfl (ry 24 hb_3 rfl (r0 25 rfl (Qfa (v:=.bool (decide (p1.Lane ≥ 0))) rfl hb_3 rfl ?_)))))))))))
     refine rq [26] 13 (r2 27 rfl hb_4 (r2 28 rfl hb_4 (r2 29 rfl hb_4 (r2 30 rfl hb_4 (r2 31 rfl hb_4 (r2 32 rfl hb_4 (r2 33 rfl hb_4 (r2 34 rfl hb_4 (r2 35 rfl hb_4 ?_)))))))))
     refine r2 36 rfl hb_4 (r2 37 rfl hb_4 (r0 38 rfl (Qda (v:=.bool false) rfl hb_4 rfl (rq [39] 0 (RA.done (by decide +kernel) ?_)))))
     exact T.weakR (hK () trivial) (Weak.mkN [] [] (by decide) (Qpa _) rfl ⟨Jla ((congrArg (fun p=>p) (Option.some.inj hz)).symm),trivial⟩ (Qna))
    replace hz:=ite_F hz hb_3
    refine T.drawn mixed (k:=40) rfl ?_
    apply RA.jn 22 #[true,true,true,true,true,true,true,true,true,true,true,true,true,true,true,true,true,true,false,false,false,false,false,false,false,false,false,false,false,false,false,false,false,false,false,false,false,false,false,false];intro hS15
    apply RA.jn 26 #[true,true,true,true,true,true,true,true,true,true,true,true,true,false,true,false,false,false,false,false,false,false,false,false,false,false,false,false,false,false,false,false,false,false,false,false,false,false,false,false];intro hS16
    ·refine rq [0] 39 (ra1 1 (og 2 ⟨rfl,(rq [2,3] 36 (ry 4 hb_1 rfl (ry 6 hb_1 rfl (ra2 5 7 ?_ ?_))))⟩))
     ·refine oy 2 hb_1 rfl (ra1 7 (oy 2 hb_1 rfl (r1 8 rfl hb_1 (Qha Ty.s22 rfl (ry 9 hb_1 rfl (r0 10 rfl (Qfa (v:=.bool (decide (p1.Node<((p0.Nodes).length:Int)))) rfl hb_1 rfl (rq [11] 28 (ry 12 hb_2 rfl (ry 14 hb_2 rfl ?_))))))))))
      exact raE hS16
     ·refine oy 2 hb_1 rfl (r1 8 rfl hb_1 (Qha Ty.s22 rfl (ra1 5 (oy 2 hb_1 rfl (ry 9 hb_1 rfl (r0 10 rfl (Qfa (v:=.bool (decide (p1.Node<((p0.Nodes).length:Int)))) rfl hb_1 rfl (rq [11] 28 (ry 12 hb_2 rfl (ry 14 hb_2 rfl ?_))))))))))
      exact raT hS16
    ·refine ra2 13 15 ?_ ?_
     ·refine oy 2 hb_2 rfl (ra1 15 (oy 2 hb_2 rfl (r1 16 rfl hb_2 (Qga Ty.s22 (fun _=>rfl) rfl rfl hx1 (ry 17 hb_2 rfl ?_)))))
      exact raE hS15
     ·refine oy 2 hb_2 rfl (ra1 13 (oy 2 hb_2 rfl (r1 16 rfl hb_2 (Qga Ty.s22 (fun _=>rfl) rfl rfl hx1 (ry 17 hb_2 rfl ?_)))))
      exact raT hS15
    refine ra1 18 (oy 2 hb_2 rfl (ry 19 hb_2 rfl (r0 20 rfl (Qfa (v:=.bool (x1.Kind==6)) rfl hb_2 rfl (rq [21] 18 (r2 22 rfl hb_3 (r2 23 rfl hb_3 (r2 24 rfl hb_3 (r0 25 rfl (Qda (v:=.bool false) rfl hb_3 rfl (rq [26] 13 ?_)))))))))))
    refine r2 27 rfl rfl (r2 28 rfl rfl (r2 29 rfl rfl (r2 30 rfl rfl (r2 31 rfl rfl (r2 32 rfl rfl (r2 33 rfl rfl (r2 34 rfl rfl (r2 35 rfl rfl (r2 36 rfl rfl ?_)))))))))
    refine r2 37 rfl rfl (r0 38 rfl (Qda (v:=.bool false) rfl rfl rfl (rq [39] 0 (RA.done (by decide +kernel) ?_))))
    exact T.weakR (hK () trivial) (Weak.mkN [] [] (by decide) (Qpa _) rfl ⟨Jla ((congrArg (fun p=>p) (Option.some.inj hz)).symm),trivial⟩ (Qna))
   replace hz:=ite_F hz hb_2
   refine T.drawn mixed (k:=40) rfl ?_
   apply RA.jn 0 #[true,true,true,true,true,true,true,true,true,true,true,true,true,true,true,true,true,true,true,true,true,true,true,true,true,true,true,true,true,true,true,true,true,true,true,true,true,true,true,true];intro hS17
   ·refine rq [0] 39 (ra1 1 (og 2 ⟨rfl,(rq [2,3] 36 (ry 4 hb_1 rfl (ry 6 hb_1 rfl (ra2 5 7 ?_ ?_))))⟩))
    ·refine oy 2 hb_1 rfl (ra1 7 (oy 2 hb_1 rfl (r1 8 rfl hb_1 (Qha Ty.s22 rfl (ry 9 hb_1 rfl (r0 10 rfl (Qfa (v:=.bool (decide (p1.Node<((p0.Nodes).length:Int)))) rfl hb_1 rfl (rq [11] 28 (r2 12 rfl hb_2 (r2 13 rfl hb_2 (r2 14 rfl hb_2 ?_)))))))))))
     refine r2 15 rfl hb_2 (r2 16 rfl hb_2 (r2 17 rfl hb_2 (r2 18 rfl hb_2 (r2 19 rfl hb_2 (r0 20 rfl (Qda (v:=.bool false) rfl hb_2 rfl (rq [21] 18 (r2 22 rfl rfl (r2 23 rfl rfl (r2 24 rfl rfl ?_))))))))))
     refine r0 25 rfl (Qda (v:=.bool false) rfl rfl rfl (rq [26] 13 (r2 27 rfl rfl (r2 28 rfl rfl (r2 29 rfl rfl (r2 30 rfl rfl (r2 31 rfl rfl (r2 32 rfl rfl (r2 33 rfl rfl (r2 34 rfl rfl ?_))))))))))
     refine r2 35 rfl rfl (r2 36 rfl rfl (r2 37 rfl rfl (r0 38 rfl (Qda (v:=.bool false) rfl rfl rfl (rq [39] 0 ?_)))))
     exact raE hS17
    ·refine oy 2 hb_1 rfl (r1 8 rfl hb_1 (Qha Ty.s22 rfl (ra1 5 (oy 2 hb_1 rfl (ry 9 hb_1 rfl (r0 10 rfl (Qfa (v:=.bool (decide (p1.Node<((p0.Nodes).length:Int)))) rfl hb_1 rfl (rq [11] 28 (r2 12 rfl hb_2 (r2 13 rfl hb_2 (r2 14 rfl hb_2 ?_)))))))))))
     refine r2 15 rfl hb_2 (r2 16 rfl hb_2 (r2 17 rfl hb_2 (r2 18 rfl hb_2 (r2 19 rfl hb_2 (r0 20 rfl (Qda (v:=.bool false) rfl hb_2 rfl (rq [21] 18 (r2 22 rfl rfl (r2 23 rfl rfl (r2 24 rfl rfl ?_))))))))))
     refine r0 25 rfl (Qda (v:=.bool false) rfl rfl rfl (rq [26] 13 (r2 27 rfl rfl (r2 28 rfl rfl (r2 29 rfl rfl (r2 30 rfl rfl (r2 31 rfl rfl (r2 32 rfl rfl (r2 33 rfl rfl (r2 34 rfl rfl ?_))))))))))
     refine r2 35 rfl rfl (r2 36 rfl rfl (r2 37 rfl rfl (r0 38 rfl (Qda (v:=.bool false) rfl rfl rfl (rq [39] 0 ?_)))))
     exact raT hS17
   refine RA.done (by decide +kernel) ?_
   exact T.weakR (hK () trivial) (Weak.mkN [] [] (by decide) (Qpa _) rfl ⟨Jla ((congrArg (fun p=>p) (Option.some.inj hz)).symm),trivial⟩ (Qna))
  replace hz:=ite_F hz hb_1
  refine T.drawn mixed (k:=40) rfl (rq [0] 39 (ra1 1 (og 2 ⟨rfl,(rq [2,3] 36 (r2 4 rfl hb_1 (r2 5 rfl hb_1 (r2 6 rfl hb_1 (r2 7 rfl hb_1 (r2 8 rfl hb_1 ?_))))))⟩)))
  refine r2 9 rfl hb_1 (r0 10 rfl (Qda (v:=.bool false) rfl hb_1 rfl (rq [11] 28 (r2 12 rfl rfl (r2 13 rfl rfl (r2 14 rfl rfl (r2 15 rfl rfl (r2 16 rfl rfl (r2 17 rfl rfl (r2 18 rfl rfl ?_))))))))))
  refine r2 19 rfl rfl (r0 20 rfl (Qda (v:=.bool false) rfl rfl rfl (rq [21] 18 (r2 22 rfl rfl (r2 23 rfl rfl (r2 24 rfl rfl (r0 25 rfl (Qda (v:=.bool false) rfl rfl rfl (rq [26] 13 (r2 27 rfl rfl (r2 28 rfl rfl ?_)))))))))))
  refine r2 29 rfl rfl (r2 30 rfl rfl (r2 31 rfl rfl (r2 32 rfl rfl (r2 33 rfl rfl (r2 34 rfl rfl (r2 35 rfl rfl (r2 36 rfl rfl (r2 37 rfl rfl (r0 38 rfl (Qda (v:=.bool false) rfl rfl rfl ?_))))))))))
  refine rq [39] 0 (RA.done (by decide +kernel) ?_)
  exact T.weakR (hK () trivial) (Weak.mkN [] [] (by decide) (Qpa _) rfl ⟨Jla ((congrArg (fun p=>p) (Option.some.inj hz)).symm),trivial⟩ (Qna))
theorem move_Check_c (p0:Net) (p1:List (List Item)) (p2:State) (r:Int) (h:move_Check p0 p1 p2=some r):Fn Try.prog 14 [.agg (Jca p0),sL (encL Qaa) p1,.agg (Qra p2)] (iI r):=by
  unfold move_Check at h
  refine fnT 0 Try.func14 Try.ntmps14 ?_
  refine T.seq (T.region (go 3 0 (RS.nil (T.seq (T.seq ?_)))))
  obtain ⟨x2,hx2,h⟩:=bind_some h
  refine T.region (go 2 2 (sO (cF (net_Sources_c p0 p1 x2 hx2) ⟨rfl,(go 1 2 (RS.nil (T.seq (T.region (go 2 2 (RS.nil (T.ci h rfl (fun hb_1 h=>?_) (fun hb_1 h=>?_))))))))⟩)))
  ·refine T.seq (T.region (go 2 2 (RS.nil ?_)))
   cases h
   exact tD
  refine T.skip (T.seq (T.join (Z:=Unit) (fun _=>mkA 131 [(1,sL (encL Qaa) p1),(3,.ptr 0 0),(5,.ptr 1 0),(46,.bool ((((p2.At).length:Int) != ((p1).length:Int)) || ((((p2.Rings).length:Int) != p0.Rings) || ((p2.Memory).length:Int) != ((p0.Nodes).length:Int))))]) (fun _=>[.box (Jca p0),.box (Qra p2)]) (fun _=>True) (fun _ _=>?_) (fun hK=>?_)))
  ·refine T.ci h rfl (fun hb_4 h=>?_) (fun hb_4 h=>?_)
   ·refine T.seq (T.region (go 1 2 (RS.nil ?_)))
    cases h
    exact tD
   refine T.skip (T.seq (T.join (Z:=Unit) (fun _=>mkA 131 [(1,sL (encL Qaa) p1),(3,.ptr 0 0),(5,.ptr 1 0),(56,.bool ((decide (((p2.Choices).length:Int) > 500)) || decide (((p2.Out).length:Int) > 2000)))]) (fun _=>[.box (Jca p0),.box (Qra p2)]) (fun _=>True) (fun _ _=>?_) (fun hK=>?_)))
   ·refine T.ci h rfl (fun hb_6 h=>?_) (fun hb_6 h=>?_)
    ·refine T.seq (T.region (go 1 2 (RS.nil ?_)))
     cases h
     exact tD
    refine T.skip (T.seq (T.seq (T.region (go 2 2 (sQ (Qha Ty.s26 rfl (go 1 2 (RS.nil (T.block (T.iter (fun ss_15:Int=>mkA 131 [(1,sL (encL Qaa) p1),(3,.ptr 0 0),(5,.ptr 1 0),(58,sL encI p2.At),(59,iI ((p2.At).length:Int)),(60,iI ss_15)]) (fun ss_15=>[.box (Jca p0),.box (Qra p2)]) h (wk [] [0,1] 2 rfl) (fun ss_15 v_16 h hv_16=>?_)))))))))))
    revert hv_16 h;revert ss_15;intro s5 h hv_16
    replace h:move_Check_l4 p0 p1 p2 s5=some v_16:=h
    try dsimp only
    unfold move_Check_l4 at h
    refine T.seq (T.region (go 1 2 (RS.nil (T.seq (T.ci h rfl (fun hb_17 h=>?_) (fun hb_17 h=>?_))))))
    ·refine T.skip (T.seq (T.block (T.seq ?_)))
     obtain ⟨x7,hx7,h⟩:=bind_some h
     refine T.region (go 1 2 (sQ (Qga Ty.s26 (fun _=>rfl) rfl rfl hx7 (go 3 2 (RS.nil ?_)))))
     obtain ⟨zt_19,hz,h⟩:=bind_some h
     revert hz h;revert zt_19;intro c9 hz h
     refine T.join (Z:=Unit) (fun _=>mkA 131 [(1,sL (encL Qaa) p1),(3,.ptr 0 0),(5,.ptr 1 0),(58,sL encI p2.At),(59,iI ((p2.At).length:Int)),(60,iI s5),(75,.bool c9)]) (fun _=>[.box (Jca p0),.box (Qra p2)]) (fun _=>True) (fun _ _=>?_) (fun hK=>?_)
     ·refine T.ci h rfl (fun hb_20 h=>?_) (fun hb_20 h=>?_)
      ·refine T.seq (T.region (go 1 2 (RS.nil ?_)))
       obtain ⟨w_21,h,hw_21⟩:=Qua h
       replace h:=h.trans (congrArg some (hv_16 _ hw_21))
       cases h
       exact tD
      refine T.skip (T.region (go 2 2 (RS.nil ?_)))
      exact ⟨IntKind.i64.wrap (s5+1),(Option.some.inj h).symm,wk [] [0,1] 2 rfl⟩
     refine T.region (go 3 2 ?_)
     rcases Qca (decide (x7<0)) with hb_18 | hb_18
     ·replace hz:=ite_T hz hb_18
      refine sN hb_18 (sN hb_18 (sN hb_18 (sN hb_18 (sN hb_18 (sN hb_18 (sN hb_18 (sQ (Qfa (v:=.bool true) rfl hb_18 rfl (RS.nil ?_)))))))))
      exact T.sub (hK () trivial) ⟨rfl,rfl,rfl,rfl,rfl,rfl,(congrArg AV.bool ((congrArg (fun p=>p) (Option.some.inj hz)).symm)).symm,trivial⟩
     replace hz:=ite_F hz hb_18
     obtain ⟨x8,hx8,hz⟩:=bind_some hz
     refine yg 2 hb_18 (yg 2 hb_18 (yg 2 hb_18 (yQ hb_18 (Qga Ty.s25 (fun _=>rfl) rfl rfl hx8 (yg 2 hb_18 (yQ hb_18 (Qha Ty.s29 rfl (yg 2 hb_18 (sQ (Qda (v:=.bool (decide (x7 > ((x8).length:Int)))) rfl hb_18 rfl (RS.nil ?_)))))))))))
     exact T.sub (hK () trivial) ⟨rfl,rfl,rfl,rfl,rfl,rfl,(congrArg AV.bool ((congrArg (fun p=>p) (Option.some.inj hz)).symm)).symm,trivial⟩
    refine T.exit ?_
    obtain ⟨w_22,h,hw_22⟩:=Qua h
    replace h:=h.trans (congrArg some (hv_16 _ hw_22))
    refine T.seq (T.region (go 2 2 (RS.nil (T.seq (T.seq (T.region (go 2 2 (sQ (Qha Ty.s25 rfl (go 1 2 ?_))))))))))
    refine RS.nil (T.block (T.iter (fun ss_29:Int=>mkA 131 [(3,.ptr 0 0),(5,.ptr 1 0),(10,.func 36 [.ptr 1 0]),(79,sL (encL Qaa) p2.Rings),(80,iI ((p2.Rings).length:Int)),(81,iI ss_29)]) (fun ss_29=>[.box (Jca p0),.box (Qra p2)]) h (wk [] [0,1] 2 rfl) (fun ss_29 v_30 h hv_30=>?_)))
    revert hv_30 h;revert ss_29;intro s10 h hv_30
    replace h:Qcb p0 p2 s10=some v_30:=h
    try dsimp only
    unfold Qcb at h
    refine T.seq (T.region (go 1 2 (RS.nil (T.seq (T.ci h rfl (fun hb_31 h=>?_) (fun hb_31 h=>?_))))))
    ·refine T.skip (T.seq (T.block (T.seq ?_)))
     obtain ⟨x12,hx12,h⟩:=bind_some h
     refine T.region (sQ (Qga Ty.s25 (fun _=>rfl) rfl rfl hx12 (go 2 2 (RS.nil (T.seq (T.seq (T.region (go 1 2 (sQ (Qha Ty.s29 rfl (go 3 2 ?_)))))))))))
     refine RS.nil (T.ci h rfl (fun hb_32 h=>?_) (fun hb_32 h=>?_))
     ·refine T.seq (T.region (go 1 2 (RS.nil ?_)))
      obtain ⟨w_33,h,hw_33⟩:=Qua h
      replace h:=h.trans (congrArg some (hv_30 _ hw_33))
      cases h
      exact tD
     refine T.skip (T.seq ?_)
     obtain ⟨x14,hx14,h⟩:=bind_some h
     refine T.region (go 2 2 (sO (Q5a (ac:=[sL Qaa x12,.ptr 1 0]) (as0:=[sL Qaa x12,.ptr 0 0]) (aw0:=[.box (Qra p2)]) (aw1:=[.box (Qra p2)]) (aw2:=[.box (Jca p0),.box (Qra p2)]) (v:=.bool x14) (v':=.bool x14) (n0:=2) (n1:=1) [1] rfl rfl rfl rfl (by decide) (Jea (cs:=(Qra p2)) (ds:=(Qra p2)) rfl ⟨rn_s rfl,rn_s rfl,rn_s rfl,rn_s rfl,rn_s rfl,trivial⟩ (Qna)) ⟨rn_s rfl,Qma rfl,trivial⟩ (move_Check_1_xa01a_c x12 p2.At p2.Rings p2.Memory p2.Choices p2.Out x14 hx14) rfl (Qia (Vfa _)) ⟨.inr ⟨rfl,rfl⟩,.inl ⟨0,_,by decide,rfl,Jaa (cs:=(Qra p2)) (ds:=(Qra p2)) ⟨Qia (Qwa encI_p _),Qia (Qwa (encL_p Jba) _),Qia (Qwa J7a _),Qia (Qwa J6a _),Qia (Qwa Jba _),trivial⟩⟩,trivial⟩ (go 1 2 (RS.nil (T.ci h rfl (fun hb_34 h=>?_) (fun hb_34 h=>?_)))))))
     ·refine T.seq (T.region (go 1 2 (RS.nil ?_)))
      obtain ⟨w_35,h,hw_35⟩:=Qua h
      replace h:=h.trans (congrArg some (hv_30 _ hw_35))
      cases h
      exact tD
     refine T.skip (T.region (go 2 2 (RS.nil ?_)))
     exact ⟨IntKind.i64.wrap (s10+1),(Option.some.inj h).symm,wk [] [0,1] 2 rfl⟩
    refine T.exit ?_
    obtain ⟨w_36,h,hw_36⟩:=Qua h
    replace h:=h.trans (congrArg some (hv_30 _ hw_36))
    refine T.seq (T.seq (T.region (go 2 2 (sQ (Qha Ty.s27 rfl (go 1 2 (RS.nil (T.block (T.iter (fun ss_43:Int=>mkA 131 [(3,.ptr 0 0),(5,.ptr 1 0),(10,.func 36 [.ptr 1 0]),(96,sL Qba p2.Memory),(97,iI ((p2.Memory).length:Int)),(98,iI ss_43)]) (fun ss_43=>[.box (Jca p0),.box (Qra p2)]) h (wk [] [0,1] 2 rfl) (fun ss_43 v_44 h hv_44=>?_))))))))))
    revert hv_44 h;revert ss_43;intro s15 h hv_44
    replace h:Qeb p0 p2 s15=some v_44:=h
    try dsimp only
    unfold Qeb at h
    refine T.seq (T.region (go 1 2 (RS.nil (T.seq (T.ci h rfl (fun hb_45 h=>?_) (fun hb_45 h=>?_))))))
    ·refine T.skip (T.seq (T.block (T.seq ?_)))
     obtain ⟨x17,hx17,h⟩:=bind_some h
     refine T.region (sQ (Qga Ty.s27 (fun _=>rfl) rfl rfl hx17 (go 3 2 (RS.nil (T.seq (T.seq ?_))))))
     obtain ⟨x19,hx19,h⟩:=bind_some h
     refine T.region (go 1 3 (sO (cF (stage_Check_c x17 x19 hx19) ⟨rfl,(go 1 3 (RS.nil (T.seq (T.region (go 2 3 (RS.nil (T.ci h rfl (fun hb_46 h=>?_) (fun hb_46 h=>?_))))))))⟩)))
     ·refine T.seq (T.region (go 2 3 (RS.nil ?_)))
      obtain ⟨w_47,h,hw_47⟩:=Qua h
      replace h:=h.trans (congrArg some (hv_44 _ hw_47))
      cases h
      exact tD
     refine T.skip (T.seq (T.region (go 4 3 (sQ (Qha Ty.s28 rfl (go 1 3 (RS.nil (T.ci h rfl (fun hb_48 h=>?_) (fun hb_48 h=>?_)))))))))
     ·refine T.seq (T.region (go 1 3 (RS.nil ?_)))
      obtain ⟨w_49,h,hw_49⟩:=Qua h
      replace h:=h.trans (congrArg some (hv_44 _ hw_49))
      cases h
      exact tD
     refine T.skip (T.region (go 2 3 (RS.nil ?_)))
     exact ⟨IntKind.i64.wrap (s15+1),(Option.some.inj h).symm,wk [] [0,1] 3 rfl⟩
    refine T.exit ?_
    obtain ⟨w_50,h,hw_50⟩:=Qua h
    replace h:=h.trans (congrArg some (hv_44 _ hw_50))
    refine T.seq (T.seq (T.region (go 2 2 (sQ (Qha Ty.s28 rfl (go 1 2 (RS.nil (T.block (T.iter (fun ss_55:Int=>mkA 131 [(3,.ptr 0 0),(5,.ptr 1 0),(10,.func 36 [.ptr 1 0]),(115,sL Qea p2.Choices),(116,iI ((p2.Choices).length:Int)),(117,iI ss_55)]) (fun ss_55=>[.box (Jca p0),.box (Qra p2)]) h (wk [] [0,1] 2 rfl) (fun ss_55 v_56 h hv_56=>?_))))))))))
    revert hv_56 h;revert ss_55;intro s20 h hv_56
    replace h:Qkb p0 p2 s20=some v_56:=h
    try dsimp only
    unfold Qkb at h
    refine T.seq (T.region (go 1 2 (RS.nil (T.seq (T.ci h rfl (fun hb_57 h=>?_) (fun hb_57 h=>?_))))))
    ·refine T.skip (T.seq (T.block (T.seq ?_)))
     obtain ⟨x22,hx22,h⟩:=bind_some h
     refine T.region (sQ (Qga Ty.s28 (fun _=>rfl) rfl rfl hx22 (go 3 2 (RS.nil (T.seq ?_)))))
     obtain ⟨x24,hx24,h⟩:=bind_some h
     refine T.region (go 2 3 (sO (cF (move_choice_c p0 x22 x24 hx24) ⟨rfl,(go 1 3 (RS.nil (T.ci h rfl (fun hb_58 h=>?_) (fun hb_58 h=>?_))))⟩)))
     ·refine T.seq (T.region (go 1 3 (RS.nil ?_)))
      obtain ⟨w_59,h,hw_59⟩:=Qua h
      replace h:=h.trans (congrArg some (hv_56 _ hw_59))
      cases h
      exact tD
     refine T.skip (T.region (go 2 3 (RS.nil ?_)))
     exact ⟨IntKind.i64.wrap (s20+1),(Option.some.inj h).symm,wk [] [0,1] 3 rfl⟩
    refine T.exit ?_
    obtain ⟨w_60,h,hw_60⟩:=Qua h
    replace h:=h.trans (congrArg some (hv_56 _ hw_60))
    refine T.seq (T.seq ?_)
    obtain ⟨x26,hx26,h⟩:=bind_some h
    refine T.region (go 3 2 (sO (Q5a (ac:=[sL Qaa p2.Out,.ptr 1 0]) (as0:=[sL Qaa p2.Out,.ptr 0 0]) (aw0:=[.box (Qra p2)]) (aw1:=[.box (Qra p2)]) (aw2:=[.box (Jca p0),.box (Qra p2)]) (v:=.bool x26) (v':=.bool x26) (n0:=2) (n1:=1) [1] rfl rfl rfl rfl (by decide) (Jea (cs:=(Qra p2)) (ds:=(Qra p2)) rfl ⟨rn_s rfl,rn_s rfl,rn_s rfl,rn_s rfl,rn_s rfl,trivial⟩ (Qna)) ⟨rn_s rfl,Qma rfl,trivial⟩ (move_Check_1_xa01a_c p2.Out p2.At p2.Rings p2.Memory p2.Choices p2.Out x26 hx26) rfl (Qia (Vfa _)) ⟨.inr ⟨rfl,rfl⟩,.inl ⟨0,_,by decide,rfl,Jaa (cs:=(Qra p2)) (ds:=(Qra p2)) ⟨Qia (Qwa encI_p _),Qia (Qwa (encL_p Jba) _),Qia (Qwa J7a _),Qia (Qwa J6a _),Qia (Qwa Jba _),trivial⟩⟩,trivial⟩ (go 1 2 (RS.nil (T.ci h rfl (fun hb_61 h=>?_) (fun hb_61 h=>?_)))))))
    ·refine T.seq (T.region (go 1 2 (RS.nil ?_)))
     cases h
     exact tD
    refine T.skip (T.seq (T.region (go 1 2 (RS.nil ?_))))
    cases h
    exact tD
   refine T.region (go 2 2 (sQ (Qha Ty.s28 rfl (go 2 2 ?_))))
   rcases Qca (decide (((p2.Choices).length:Int) > 500)) with hb_5 | hb_5
   ·refine sN hb_5 (sN hb_5 (sN hb_5 (sN hb_5 (sQ (Qfa (v:=.bool true) rfl hb_5 rfl (RS.nil ?_))))))
    exact T.sub (hK () trivial) ⟨rfl,rfl,rfl,(congrArg AV.bool (by simp only [hb_5,bz,if_true,if_false,Bool.false_eq_true])).symm,trivial⟩
   refine yg 2 hb_5 (yg 2 hb_5 (yQ hb_5 (Qha Ty.s29 rfl (yg 2 hb_5 (sQ (Qda (v:=.bool (decide (((p2.Out).length:Int) > 2000))) rfl hb_5 rfl (RS.nil ?_)))))))
   exact T.sub (hK () trivial) ⟨rfl,rfl,rfl,(congrArg AV.bool (by simp only [hb_5,bz,if_true,if_false,Bool.false_eq_true])).symm,trivial⟩
  refine T.region (go 2 2 (sQ (Qha Ty.s26 rfl (go 1 2 (sQ (Qha Ty.s25 rfl (go 2 2 ?_)))))))
  rcases Qca (((p2.At).length:Int) != ((p1).length:Int)) with hb_2 | hb_2
  ·refine sN hb_2 (sN hb_2 (sN hb_2 (sN hb_2 (sN hb_2 (sN hb_2 (sQ (Qfa (v:=.bool true) rfl hb_2 rfl (go 1 2 (sN rfl (sN rfl ?_))))))))))
   refine sN rfl (sN rfl (sN rfl (sN rfl (sN rfl (sQ (Qfa (v:=.bool true) rfl rfl rfl (RS.nil ?_)))))))
   exact T.sub (hK () trivial) ⟨rfl,rfl,rfl,(congrArg AV.bool (by simp only [hb_2,bz,if_true,if_false,Bool.false_eq_true])).symm,trivial⟩
  refine yg 2 hb_2 (yg 2 hb_2 (yQ hb_2 (Qha Ty.s25 rfl (yg 2 hb_2 (yg 2 hb_2 (yg 2 hb_2 (sQ (Qda (v:=.bool (((p2.Rings).length:Int) != p0.Rings)) rfl hb_2 rfl (go 1 2 ?_)))))))))
  rcases Qca (((p2.Rings).length:Int) != p0.Rings) with hb_3 | hb_3
  ·refine sN hb_3 (sN hb_3 (sN hb_3 (sN hb_3 (sN hb_3 (sN hb_3 (sN hb_3 (sQ (Qfa (v:=.bool true) rfl hb_3 rfl (RS.nil ?_)))))))))
   exact T.sub (hK () trivial) ⟨rfl,rfl,rfl,(congrArg AV.bool (by simp only [hb_2,hb_3,bz,if_true,if_false,Bool.false_eq_true])).symm,trivial⟩
  refine yg 2 hb_3 (yg 2 hb_3 (yQ hb_3 (Qha Ty.s27 rfl (yg 2 hb_3 (yg 2 hb_3 (yQ hb_3 (Qha Ty.s22 rfl (yg 2 hb_3 (sQ (Qda (v:=.bool (((p2.Memory).length:Int) != ((p0.Nodes).length:Int))) rfl hb_3 rfl (RS.nil ?_)))))))))))
  exact T.sub (hK () trivial) ⟨rfl,rfl,rfl,(congrArg AV.bool (by simp only [hb_2,hb_3,bz,if_true,if_false,Bool.false_eq_true])).symm,trivial⟩
theorem bld_copyCheck_c (p0 r:List Int) (h:bld_copyCheck p0=some r):FnX Try.prog 63 [.ptr 0 0] [.boxB 58 [.np 0,.ref 1],aR 5 1 enc8 p0] (.tup []) [.boxB 58 [.np 0,.ref 1],aR 5 1 enc8 r]:=by
  cases h
  exact copyCheck_fn _
theorem V5a (p0:Int) (p1:List Int) (r:Unit × (List Int)) (h:Jma p0 p1=some r):FnX Try.prog 41 [.ptr 0 0,.int .u8 p0] [.boxB 58 [.np 0,.ref 1],aR 5 1 enc8 p1] (.nili) [.boxB 58 [.np 0,.ref 2],.dead,aR 5 1 enc8 r.2]:=by
  unfold Jma at h
  refine fnT 2 Try.func41 Try.ntmps41 ?_
  refine T.mvBB 0 1 1 (cs:=[.np 0,.ref 1]) rfl rfl rfl rfl (cs':=[.np 0,.ref 2]) rfl rfl (T.seq (T.region (go 1 3 (RS.nil (T.seq ?_)))))
  obtain ⟨x2,hx2,h⟩:=bind_some h
  refine T.region (go 1 3 (sO (Q5a (ac:=[.ptr 0 0]) (as0:=[.ptr 0 0]) (aw0:=[.boxB 58 [.np 0,.ref 1],aR 5 1 enc8 p1]) (aw1:=[.boxB 58 [.np 0,.ref 1],aR 5 1 enc8 x2]) (aw2:=[.boxB 58 [.np 0,.ref 2],.dead,aR 5 1 enc8 x2]) (v:=.tup []) (v':=.tup []) (n0:=3) (n1:=2) [0,2] rfl rfl rfl rfl (by decide) (J2a (cs:=[.np 0,.ref 1]) (ds:=[.np 0,.ref 2]) rfl ⟨rn_np rfl,Q6a rfl,trivial⟩ (Jwa rfl Zaa rfl (Qna))) ⟨Qma rfl,trivial⟩ (bld_copyCheck_c p1 x2 hx2) rfl (Yxa (cs:=[]) (ds:=[]) trivial) ⟨.inl ⟨0,_,by decide,rfl,Z7a (cs:=[.np 0,.ref 2]) (ds:=[.np 0,.ref 1]) ⟨rm_np (by decide),Jya (by decide),trivial⟩⟩,.inr ⟨rfl,rfl⟩,.inl ⟨1,_,by decide,rfl,Jia Zaa⟩,trivial⟩ (RS.nil (T.seq ?_)))))
  obtain ⟨x4,hx4,h⟩:=bind_some h
  refine T.region (go 4 3 (sO (o_load_ptrB rfl rfl (J3a Ty.k54 (c:=.ref 2) rfl (go 1 3 (sO (Qya (rows:=List.map enc8 [p0]) (vs:=[.int .u8 p0]) Ty.s54 Ty.z5 rfl rfl rfl rfl rfl rfl (sO (Zta (en:=enc8) (xs:=x2) (ys:=([p0]:List Int)) Ty.s54 (fun _=>rfl) rfl rfl rfl hx4 rfl rfl (go 2 5 (sO (o_storeB rfl rfl (vs:=[.ref 4]) rfl Try.underlying54 rfl (by decide) rfl (RS.nil (T.seq ?_))))))))))))))
  refine T.region (go 1 5 (RS.nil (T.rt (res_tmpA (v:=.nili) rfl (Qmb ?_)))))
  exact ret_norm (v:=.nili) (aw1:=[.boxB 58 [.np 0,.ref 4],.dead,.dead,.dead,aR 5 1 enc8 x4]) (.nili) [0,1,4] rfl (by decide) (by decide) (Yma pure_nili) (J2a (cs:=[.np 0,.ref 2]) (ds:=[.np 0,.ref 4]) rfl ⟨rn_np rfl,Q6a rfl,trivial⟩ (rw_dead rfl (Jwa rfl Zaa (congrArg (fun r:Unit × (List Int)=>r.2) (Option.some.inj h)).symm (Qna)))) ⟨rfl,rfl⟩
theorem Qva (p0:Int) (p1:List Int) (r:List Int) (h:Qka p0 p1=some r):FnX Try.prog 15 [.ptr 0 0,iI p0] [.boxB 58 [.np 0,.ref 1],aR 5 1 enc8 p1] (.tup []) [.boxB 58 [.np 0,.ref 2],.dead,aR 5 1 enc8 r]:=by
  unfold Qka at h
  refine fnT 2 Try.func15 Try.ntmps15 ?_
  refine T.mvBB 0 1 1 (cs:=[.np 0,.ref 1]) rfl rfl rfl rfl (cs':=[.np 0,.ref 2]) rfl rfl (T.seq ?_)
  obtain ⟨x3,hx3,h⟩:=bind_some h
  obtain ⟨x4,hx4,h⟩:=bind_some h
  refine T.region (go 2 3 (sQ (v_shl rfl rfl hx3 (go 1 3 (sQ (v_shr rfl rfl hx4 (go 3 3 (RS.nil (T.seq (T.block (T.iter (fun ss_3:Int × (List Int)=>mkA 29 [(0,.ptr 0 0),(4,.int .u64 ss_3.1)]) (fun ss_3=>[.boxB 58 [.np 0,.ref 2],.dead,aR 5 1 enc8 ss_3.2]) h (Weak.mkN [] [0,1,2] (by decide) (by decide) rfl ⟨Qma rfl,Qqa rfl,trivial⟩ (J2a (cs:=[.np 0,.ref 2]) (ds:=[.np 0,.ref 2]) rfl ⟨rn_np rfl,Q6a rfl,trivial⟩ (rw_dead rfl (rw_ar rfl rfl (Qna))))) (fun ss_3 v_4 h hv_4=>?_))))))))))))
  obtain ⟨s5,s6⟩:=ss_3
  replace h:Jha s5 s6=some v_4:=h
  try dsimp only
  unfold Jha at h
  refine T.seq (T.seq (T.region (go 2 3 (RS.nil (T.ci h rfl (fun hb_5 h=>?_) (fun hb_5 h=>?_))))))
  ·refine T.skip (T.seq (T.block ?_))
   obtain ⟨x7,hx7,h⟩:=bind_some h
   refine T.region (go 6 3 (sO (Q5a (ac:=[.ptr 0 0,.int .u8 (ibits .or .u8 (IntKind.u8.wrap s5) 128)]) (as0:=[.ptr 0 0,.int .u8 (ibits .or .u8 (IntKind.u8.wrap s5) 128)]) (aw0:=[.boxB 58 [.np 0,.ref 1],aR 5 1 enc8 s6]) (aw1:=[.boxB 58 [.np 0,.ref 2],.dead,aR 5 1 enc8 x7.2]) (aw2:=[.boxB 58 [.np 0,.ref 3],.dead,.dead,aR 5 1 enc8 x7.2]) (v:=.nili) (v':=.nili) (n0:=3) (n1:=3) [0,2] rfl rfl rfl rfl (by decide) (J2a (cs:=[.np 0,.ref 1]) (ds:=[.np 0,.ref 2]) rfl ⟨rn_np rfl,Q6a rfl,trivial⟩ (Jwa rfl Zaa rfl (Qna))) ⟨Qma rfl,Qqa rfl,trivial⟩ (V5a (ibits .or .u8 (IntKind.u8.wrap s5) 128) s6 x7 hx7) rfl (Qia (pure_nili)) ⟨.inl ⟨0,_,by decide,rfl,Z7a (cs:=[.np 0,.ref 3]) (ds:=[.np 0,.ref 2]) ⟨rm_np (by decide),Jya (by decide),trivial⟩⟩,.inr ⟨rfl,rfl⟩,.inl ⟨1,_,by decide,rfl,trivial⟩,.inl ⟨2,_,by decide,rfl,Jia Zaa⟩,trivial⟩ (RS.nil ?_))))
   obtain ⟨x8,hx8,h⟩:=bind_some h
   refine T.region (go 1 4 (sQ (v_shr rfl rfl hx8 (go 1 4 (RS.nil ?_)))))
   exact ⟨(x8,x7.2),(Option.some.inj h).symm,Weak.mkN [] [0,1,3] (by decide) (by decide) rfl ⟨Qma rfl,Qqa rfl,trivial⟩ (J2a (cs:=[.np 0,.ref 2]) (ds:=[.np 0,.ref 3]) rfl ⟨rn_np rfl,Q6a rfl,trivial⟩ (rw_dead rfl (rw_ar rfl rfl (Qna))))⟩
  refine T.exit ?_
  obtain ⟨w_6,h,hw_6⟩:=Qua h
  replace h:=h.trans (congrArg some (hv_4 _ hw_6))
  obtain ⟨x9,hx9,h⟩:=bind_some h
  refine T.region (go 5 3 (sO (Q5a (ac:=[.ptr 0 0,.int .u8 (IntKind.u8.wrap s5)]) (as0:=[.ptr 0 0,.int .u8 (IntKind.u8.wrap s5)]) (aw0:=[.boxB 58 [.np 0,.ref 1],aR 5 1 enc8 s6]) (aw1:=[.boxB 58 [.np 0,.ref 2],.dead,aR 5 1 enc8 x9.2]) (aw2:=[.boxB 58 [.np 0,.ref 3],.dead,.dead,aR 5 1 enc8 x9.2]) (v:=.nili) (v':=.nili) (n0:=3) (n1:=3) [0,2] rfl rfl rfl rfl (by decide) (J2a (cs:=[.np 0,.ref 1]) (ds:=[.np 0,.ref 2]) rfl ⟨rn_np rfl,Q6a rfl,trivial⟩ (Jwa rfl Zaa rfl (Qna))) ⟨Qma rfl,Qqa rfl,trivial⟩ (V5a (IntKind.u8.wrap s5) s6 x9 hx9) rfl (Qia (pure_nili)) ⟨.inl ⟨0,_,by decide,rfl,Z7a (cs:=[.np 0,.ref 3]) (ds:=[.np 0,.ref 2]) ⟨rm_np (by decide),Jya (by decide),trivial⟩⟩,.inr ⟨rfl,rfl⟩,.inl ⟨1,_,by decide,rfl,trivial⟩,.inl ⟨2,_,by decide,rfl,Jia Zaa⟩,trivial⟩ (RS.nil (exN (Qmb ?_))))))
  exact ret_norm (v:=.tup []) (aw1:=[.boxB 58 [.np 0,.ref 3],.dead,.dead,aR 5 1 enc8 x9.2]) (.tup []) [0,1,3] rfl (by decide) (by decide) (rn_tup trivial) (J2a (cs:=[.np 0,.ref 2]) (ds:=[.np 0,.ref 3]) rfl ⟨rn_np rfl,Q6a rfl,trivial⟩ (rw_dead rfl (Jwa rfl Zaa (congrArg (fun r:List Int=>r) (Option.some.inj h)).symm (Qna)))) ⟨rfl,rfl⟩
theorem Qtb (p0:List Item) (p1:List Int) (r:List Int) (h:J0a p0 p1=some r):FnX Try.prog 16 [.ptr 0 0,sL Qaa p0] [.boxB 58 [.np 0,.ref 1],aR 5 1 enc8 p1] (.tup []) [.boxB 58 [.np 0,.ref 2],.dead,aR 5 1 enc8 r]:=by
  unfold J0a at h
  refine fnT 2 Try.func16 Try.ntmps16 ?_
  refine T.mvBB 0 1 1 (cs:=[.np 0,.ref 1]) rfl rfl rfl rfl (cs':=[.np 0,.ref 2]) rfl rfl (T.seq ?_)
  obtain ⟨x2,hx2,h⟩:=bind_some h
  refine T.region (go 2 3 (sQ (Qha Ty.s29 rfl (sO (Q5a (ac:=[.ptr 0 0,iI ((p0).length:Int)]) (as0:=[.ptr 0 0,iI ((p0).length:Int)]) (aw0:=[.boxB 58 [.np 0,.ref 1],aR 5 1 enc8 p1]) (aw1:=[.boxB 58 [.np 0,.ref 2],.dead,aR 5 1 enc8 x2]) (aw2:=[.boxB 58 [.np 0,.ref 3],.dead,.dead,aR 5 1 enc8 x2]) (v:=.tup []) (v':=.tup []) (n0:=3) (n1:=3) [0,2] rfl rfl rfl rfl (by decide) (J2a (cs:=[.np 0,.ref 1]) (ds:=[.np 0,.ref 2]) rfl ⟨rn_np rfl,Q6a rfl,trivial⟩ (Jwa rfl Zaa rfl (Qna))) ⟨Qma rfl,Qqa rfl,trivial⟩ (Qva ((p0).length:Int) p1 x2 hx2) rfl (Yxa (cs:=[]) (ds:=[]) trivial) ⟨.inl ⟨0,_,by decide,rfl,Z7a (cs:=[.np 0,.ref 3]) (ds:=[.np 0,.ref 2]) ⟨rm_np (by decide),Jya (by decide),trivial⟩⟩,.inr ⟨rfl,rfl⟩,.inl ⟨1,_,by decide,rfl,trivial⟩,.inl ⟨2,_,by decide,rfl,Jia Zaa⟩,trivial⟩ (RS.nil (T.seq (T.region (go 1 4 (sQ (Qha Ty.s29 rfl (go 1 4 ?_))))))))))))
  refine RS.nil (T.block (T.iter (fun ss_3:Int × (List Int)=>mkA 29 [(0,.ptr 0 0),(10,sL Qaa p0),(11,iI ((p0).length:Int)),(12,iI ss_3.1)]) (fun ss_3=>[.boxB 58 [.np 0,.ref 2],.dead,aR 5 1 enc8 ss_3.2]) h (Weak.mkN [] [0,1,3] (by decide) (by decide) rfl ⟨Qma rfl,rn_s rfl,Qqa rfl,Qqa rfl,trivial⟩ (J2a (cs:=[.np 0,.ref 2]) (ds:=[.np 0,.ref 3]) rfl ⟨rn_np rfl,Q6a rfl,trivial⟩ (rw_dead rfl (rw_ar rfl rfl (Qna))))) (fun ss_3 v_4 h hv_4=>?_)))
  obtain ⟨s3,s4⟩:=ss_3
  replace h:Zga p0 s3 s4=some v_4:=h
  try dsimp only
  unfold Zga at h
  refine T.seq (T.region (go 1 3 (RS.nil (T.seq (T.ci h rfl (fun hb_5 h=>?_) (fun hb_5 h=>?_))))))
  ·refine T.skip (T.seq (T.block (T.seq ?_)))
   obtain ⟨x6,hx6,h⟩:=bind_some h
   refine T.region (sQ (Qga Ty.s29 (fun _=>rfl) rfl rfl hx6 (go 3 3 (RS.nil (T.seq ?_)))))
   obtain ⟨x8,hx8,h⟩:=bind_some h
   refine T.region (go 3 4 (sO (Q5a (ac:=[.ptr 0 0,iI x6.Key]) (as0:=[.ptr 0 0,iI x6.Key]) (aw0:=[.boxB 58 [.np 0,.ref 1],aR 5 1 enc8 s4]) (aw1:=[.boxB 58 [.np 0,.ref 2],.dead,aR 5 1 enc8 x8]) (aw2:=[.boxB 58 [.np 0,.ref 4],.dead,.dead,.box (Qaa x6),aR 5 1 enc8 x8]) (v:=.tup []) (v':=.tup []) (n0:=4) (n1:=3) [0,2] rfl rfl rfl rfl (by decide) (J2a (cs:=[.np 0,.ref 1]) (ds:=[.np 0,.ref 2]) rfl ⟨rn_np rfl,Q6a rfl,trivial⟩ (Jwa rfl Zaa rfl (Qna))) ⟨Qma rfl,Qqa rfl,trivial⟩ (Qva x6.Key s4 x8 hx8) rfl (Yxa (cs:=[]) (ds:=[]) trivial) ⟨.inl ⟨0,_,by decide,rfl,Z7a (cs:=[.np 0,.ref 4]) (ds:=[.np 0,.ref 2]) ⟨rm_np (by decide),Jya (by decide),trivial⟩⟩,.inr ⟨rfl,rfl⟩,.inl ⟨1,_,by decide,rfl,trivial⟩,.inr ⟨rfl,rfl⟩,.inl ⟨2,_,by decide,rfl,Jia Zaa⟩,trivial⟩ (RS.nil (T.seq ?_)))))
   obtain ⟨x10,hx10,h⟩:=bind_some h
   refine T.region (go 3 5 (sO (Q5a (ac:=[.ptr 0 0,iI x6.Val]) (as0:=[.ptr 0 0,iI x6.Val]) (aw0:=[.boxB 58 [.np 0,.ref 1],aR 5 1 enc8 x8]) (aw1:=[.boxB 58 [.np 0,.ref 2],.dead,aR 5 1 enc8 x10]) (aw2:=[.boxB 58 [.np 0,.ref 5],.dead,.dead,.box (Qaa x6),.dead,aR 5 1 enc8 x10]) (v:=.tup []) (v':=.tup []) (n0:=5) (n1:=3) [0,4] rfl rfl rfl rfl (by decide) (J2a (cs:=[.np 0,.ref 1]) (ds:=[.np 0,.ref 4]) rfl ⟨rn_np rfl,Q6a rfl,trivial⟩ (Jwa rfl Zaa rfl (Qna))) ⟨Qma rfl,Qqa rfl,trivial⟩ (Qva x6.Val x8 x10 hx10) rfl (Yxa (cs:=[]) (ds:=[]) trivial) ⟨.inl ⟨0,_,by decide,rfl,Z7a (cs:=[.np 0,.ref 5]) (ds:=[.np 0,.ref 2]) ⟨rm_np (by decide),Jya (by decide),trivial⟩⟩,.inr ⟨rfl,rfl⟩,.inr ⟨rfl,rfl⟩,.inr ⟨rfl,rfl⟩,.inl ⟨1,_,by decide,rfl,trivial⟩,.inl ⟨2,_,by decide,rfl,Jia Zaa⟩,trivial⟩ (RS.nil ?_))))
   obtain ⟨x11,hx11,h⟩:=bind_some h
   refine T.region (go 3 6 (sO (Q5a (ac:=[.ptr 0 0,iI x6.Dep]) (as0:=[.ptr 0 0,iI x6.Dep]) (aw0:=[.boxB 58 [.np 0,.ref 1],aR 5 1 enc8 x10]) (aw1:=[.boxB 58 [.np 0,.ref 2],.dead,aR 5 1 enc8 x11]) (aw2:=[.boxB 58 [.np 0,.ref 6],.dead,.dead,.box (Qaa x6),.dead,.dead,aR 5 1 enc8 x11]) (v:=.tup []) (v':=.tup []) (n0:=6) (n1:=3) [0,5] rfl rfl rfl rfl (by decide) (J2a (cs:=[.np 0,.ref 1]) (ds:=[.np 0,.ref 5]) rfl ⟨rn_np rfl,Q6a rfl,trivial⟩ (Jwa rfl Zaa rfl (Qna))) ⟨Qma rfl,Qqa rfl,trivial⟩ (Qva x6.Dep x10 x11 hx11) rfl (Yxa (cs:=[]) (ds:=[]) trivial) ⟨.inl ⟨0,_,by decide,rfl,Z7a (cs:=[.np 0,.ref 6]) (ds:=[.np 0,.ref 2]) ⟨rm_np (by decide),Jya (by decide),trivial⟩⟩,.inr ⟨rfl,rfl⟩,.inr ⟨rfl,rfl⟩,.inr ⟨rfl,rfl⟩,.inr ⟨rfl,rfl⟩,.inl ⟨1,_,by decide,rfl,trivial⟩,.inl ⟨2,_,by decide,rfl,Jia Zaa⟩,trivial⟩ (RS.nil (T.region (go 2 7 (RS.nil ?_)))))))
   exact ⟨(IntKind.i64.wrap (s3+1),x11),(Option.some.inj h).symm,Weak.mkN [] [0,1,6] (by decide) (by decide) rfl ⟨Qma rfl,rn_s rfl,Qqa rfl,Qqa rfl,trivial⟩ (J2a (cs:=[.np 0,.ref 2]) (ds:=[.np 0,.ref 6]) rfl ⟨rn_np rfl,Q6a rfl,trivial⟩ (rw_dead rfl (rw_ar rfl rfl (Qna))))⟩
  refine T.exit ?_
  obtain ⟨w_6,h,hw_6⟩:=Qua h
  replace h:=h.trans (congrArg some (hv_4 _ hw_6))
  refine exN (Qmb ?_)
  exact ret_norm (v:=.tup []) (aw1:=[.boxB 58 [.np 0,.ref 2],.dead,aR 5 1 enc8 s4]) (.tup []) [0,1,2] rfl (by decide) (by decide) (rn_tup trivial) (J2a (cs:=[.np 0,.ref 2]) (ds:=[.np 0,.ref 2]) rfl ⟨rn_np rfl,Q6a rfl,trivial⟩ (rw_dead rfl (Jwa rfl Zaa (congrArg (fun r:List Int=>r) (Option.some.inj h)).symm (Qna)))) ⟨rfl,rfl⟩
theorem bld_String_c (p0:List Int) (r:List UInt8) (h:bld_String p0=some r):FnX Try.prog 17 [.ptr 0 0] [.boxB 58 [.np 0,.ref 1],aR 5 1 enc8 p0] (.str r) [.dead,.dead]:=string_fn p0 r h
theorem save_Bytes_c (p0:Net) (p1:List (List Item)) (p2:State) (r:(List UInt8) × Int) (h:save_Bytes p0 p1 p2=some r):Fn Try.prog 5 [.agg (Jca p0),sL (encL Qaa) p1,.agg (Qra p2)] (.tup [.str r.1,iI r.2]):=by
  unfold save_Bytes at h
  refine fnT 0 Try.func5 Try.ntmps5 ?_
  refine T.seq (T.region (go 4 0 (RS.nil (T.seq (T.seq ?_)))))
  obtain ⟨x2,hx2,h⟩:=bind_some h
  refine T.region (go 3 2 (sO (cF (move_Check_c p0 p1 p2 x2 hx2) ⟨rfl,(go 1 2 (RS.nil (T.seq (T.region (go 2 2 (RS.nil (T.ci h rfl (fun hb_1 h=>?_) (fun hb_1 h=>?_))))))))⟩)))
  ·refine T.seq (T.region (go 3 2 (RS.nil ?_)))
   cases h
   exact tD
  refine T.skip (T.seq (T.region (go 1 2 (sO (o_boxW (e:=5) (z:=1) rfl rfl rfl (go 1 4 (RS.nil (T.seq ?_))))))))
  obtain ⟨x4,hx4,h⟩:=bind_some h
  refine T.region (go 3 4 (sQ (Qha Ty.s26 rfl (sO (Q5a (ac:=[.ptr 2 0,iI ((p2.At).length:Int)]) (as0:=[.ptr 0 0,iI ((p2.At).length:Int)]) (aw0:=[.boxB 58 [.np 0,.ref 1],aR 5 1 enc8 ([]:List Int)]) (aw1:=[.boxB 58 [.np 0,.ref 2],.dead,aR 5 1 enc8 x4]) (aw2:=[.box (Jca p0),.box (Qra p2),.boxB 58 [.np 2,.ref 4],.dead,aR 5 1 enc8 x4]) (v:=.tup []) (v':=.tup []) (n0:=4) (n1:=3) [2,3] rfl rfl rfl rfl (by decide) (J2a (cs:=[.np 0,.ref 1]) (ds:=[.np 2,.ref 3]) rfl ⟨rn_np rfl,Q6a rfl,trivial⟩ (Jwa rfl Zaa rfl (Qna))) ⟨Qma rfl,Qqa rfl,trivial⟩ (Qva ((p2.At).length:Int) ([]:List Int) x4 hx4) rfl (Yxa (cs:=[]) (ds:=[]) trivial) ⟨.inr ⟨rfl,rfl⟩,.inr ⟨rfl,rfl⟩,.inl ⟨0,_,by decide,rfl,Z7a (cs:=[.np 2,.ref 4]) (ds:=[.np 0,.ref 2]) ⟨rm_np (by decide),Jya (by decide),trivial⟩⟩,.inl ⟨1,_,by decide,rfl,trivial⟩,.inl ⟨2,_,by decide,rfl,Jia Zaa⟩,trivial⟩ (RS.nil (T.seq (T.seq (T.region (go 2 5 (sQ (Qha Ty.s26 rfl ?_))))))))))))
  refine go 1 5 (RS.nil (T.block (T.iter (fun ss_4:Int × (List Int)=>mkA 132 [(5,.ptr 0 0),(9,.ptr 1 0),(35,sL encI p2.At),(36,iI ((p2.At).length:Int)),(37,iI ss_4.1)]) (fun ss_4=>[.box (Qra p2),.boxB 58 [.np 1,.ref 2],aR 5 1 enc8 ss_4.2]) h (Weak.mkN [] [1,2,4] (by decide) (Qpa _) rfl ⟨Qma rfl,Qma rfl,rn_s rfl,Qqa rfl,Qqa rfl,trivial⟩ (rw_bs (Qra p2) rfl (J2a (cs:=[.np 1,.ref 2]) (ds:=[.np 2,.ref 4]) rfl ⟨rn_np rfl,Q6a rfl,trivial⟩ (rw_ar rfl rfl (Qna))))) (fun ss_4 v_5 h hv_5=>?_))))
  obtain ⟨s5,s6⟩:=ss_4
  replace h:Qlb p2 s5 s6=some v_5:=h
  try dsimp only
  unfold Qlb at h
  refine T.seq (T.region (go 1 3 (RS.nil (T.seq (T.ci h rfl (fun hb_6 h=>?_) (fun hb_6 h=>?_))))))
  ·refine T.skip (T.seq (T.block (T.seq ?_)))
   obtain ⟨x8,hx8,h⟩:=bind_some h
   refine T.region (sQ (Qga Ty.s26 (fun _=>rfl) rfl rfl hx8 (go 2 3 (RS.nil ?_))))
   obtain ⟨x9,hx9,h⟩:=bind_some h
   refine T.region (go 2 3 (sO (Q5a (ac:=[.ptr 1 0,iI x8]) (as0:=[.ptr 0 0,iI x8]) (aw0:=[.boxB 58 [.np 0,.ref 1],aR 5 1 enc8 s6]) (aw1:=[.boxB 58 [.np 0,.ref 2],.dead,aR 5 1 enc8 x9]) (aw2:=[.box (Qra p2),.boxB 58 [.np 1,.ref 3],.dead,aR 5 1 enc8 x9]) (v:=.tup []) (v':=.tup []) (n0:=3) (n1:=3) [1,2] rfl rfl rfl rfl (by decide) (J2a (cs:=[.np 0,.ref 1]) (ds:=[.np 1,.ref 2]) rfl ⟨rn_np rfl,Q6a rfl,trivial⟩ (Jwa rfl Zaa rfl (Qna))) ⟨Qma rfl,Qqa rfl,trivial⟩ (Qva x8 s6 x9 hx9) rfl (Yxa (cs:=[]) (ds:=[]) trivial) ⟨.inr ⟨rfl,rfl⟩,.inl ⟨0,_,by decide,rfl,Z7a (cs:=[.np 1,.ref 3]) (ds:=[.np 0,.ref 2]) ⟨rm_np (by decide),Jya (by decide),trivial⟩⟩,.inl ⟨1,_,by decide,rfl,trivial⟩,.inl ⟨2,_,by decide,rfl,Jia Zaa⟩,trivial⟩ (RS.nil (T.region (go 2 4 (RS.nil ?_)))))))
   exact ⟨(IntKind.i64.wrap (s5+1),x9),(Option.some.inj h).symm,Weak.mkN [] [0,1,3] (by decide) (Qpa _) rfl ⟨Qma rfl,Qma rfl,rn_s rfl,Qqa rfl,Qqa rfl,trivial⟩ (rw_bs (Qra p2) rfl (J2a (cs:=[.np 1,.ref 2]) (ds:=[.np 1,.ref 3]) rfl ⟨rn_np rfl,Q6a rfl,trivial⟩ (rw_ar rfl rfl (Qna))))⟩
  refine T.exit ?_
  obtain ⟨w_7,h,hw_7⟩:=Qua h
  replace h:=h.trans (congrArg some (hv_5 _ hw_7))
  refine T.seq ?_
  obtain ⟨x11,hx11,h⟩:=bind_some h
  refine T.region (go 3 3 (sQ (Qha Ty.s25 rfl (sO (Q5a (ac:=[.ptr 1 0,iI ((p2.Rings).length:Int)]) (as0:=[.ptr 0 0,iI ((p2.Rings).length:Int)]) (aw0:=[.boxB 58 [.np 0,.ref 1],aR 5 1 enc8 s6]) (aw1:=[.boxB 58 [.np 0,.ref 2],.dead,aR 5 1 enc8 x11]) (aw2:=[.box (Qra p2),.boxB 58 [.np 1,.ref 3],.dead,aR 5 1 enc8 x11]) (v:=.tup []) (v':=.tup []) (n0:=3) (n1:=3) [1,2] rfl rfl rfl rfl (by decide) (J2a (cs:=[.np 0,.ref 1]) (ds:=[.np 1,.ref 2]) rfl ⟨rn_np rfl,Q6a rfl,trivial⟩ (Jwa rfl Zaa rfl (Qna))) ⟨Qma rfl,Qqa rfl,trivial⟩ (Qva ((p2.Rings).length:Int) s6 x11 hx11) rfl (Yxa (cs:=[]) (ds:=[]) trivial) ⟨.inr ⟨rfl,rfl⟩,.inl ⟨0,_,by decide,rfl,Z7a (cs:=[.np 1,.ref 3]) (ds:=[.np 0,.ref 2]) ⟨rm_np (by decide),Jya (by decide),trivial⟩⟩,.inl ⟨1,_,by decide,rfl,trivial⟩,.inl ⟨2,_,by decide,rfl,Jia Zaa⟩,trivial⟩ (RS.nil (T.seq (T.seq (T.region (go 2 4 (sQ (Qha Ty.s25 rfl ?_))))))))))))
  refine go 1 4 (RS.nil (T.block (T.iter (fun ss_10:Int × (List Int)=>mkA 132 [(5,.ptr 0 0),(9,.ptr 1 0),(51,sL (encL Qaa) p2.Rings),(52,iI ((p2.Rings).length:Int)),(53,iI ss_10.1)]) (fun ss_10=>[.box (Qra p2),.boxB 58 [.np 1,.ref 2],aR 5 1 enc8 ss_10.2]) h (Weak.mkN [] [0,1,3] (by decide) (Qpa _) rfl ⟨Qma rfl,Qma rfl,rn_s rfl,Qqa rfl,Qqa rfl,trivial⟩ (rw_bs (Qra p2) rfl (J2a (cs:=[.np 1,.ref 2]) (ds:=[.np 1,.ref 3]) rfl ⟨rn_np rfl,Q6a rfl,trivial⟩ (rw_ar rfl rfl (Qna))))) (fun ss_10 v_11 h hv_11=>?_))))
  obtain ⟨s12,s13⟩:=ss_10
  replace h:Qdb p2 s12 s13=some v_11:=h
  try dsimp only
  unfold Qdb at h
  refine T.seq (T.region (go 1 3 (RS.nil (T.seq (T.ci h rfl (fun hb_12 h=>?_) (fun hb_12 h=>?_))))))
  ·refine T.skip (T.seq (T.block (T.seq ?_)))
   obtain ⟨x15,hx15,h⟩:=bind_some h
   refine T.region (sQ (Qga Ty.s25 (fun _=>rfl) rfl rfl hx15 (go 2 3 (RS.nil ?_))))
   obtain ⟨x16,hx16,h⟩:=bind_some h
   refine T.region (go 2 3 (sO (Q5a (ac:=[.ptr 1 0,sL Qaa x15]) (as0:=[.ptr 0 0,sL Qaa x15]) (aw0:=[.boxB 58 [.np 0,.ref 1],aR 5 1 enc8 s13]) (aw1:=[.boxB 58 [.np 0,.ref 2],.dead,aR 5 1 enc8 x16]) (aw2:=[.box (Qra p2),.boxB 58 [.np 1,.ref 3],.dead,aR 5 1 enc8 x16]) (v:=.tup []) (v':=.tup []) (n0:=3) (n1:=3) [1,2] rfl rfl rfl rfl (by decide) (J2a (cs:=[.np 0,.ref 1]) (ds:=[.np 1,.ref 2]) rfl ⟨rn_np rfl,Q6a rfl,trivial⟩ (Jwa rfl Zaa rfl (Qna))) ⟨Qma rfl,rn_s rfl,trivial⟩ (Qtb x15 s13 x16 hx16) rfl (Yxa (cs:=[]) (ds:=[]) trivial) ⟨.inr ⟨rfl,rfl⟩,.inl ⟨0,_,by decide,rfl,Z7a (cs:=[.np 1,.ref 3]) (ds:=[.np 0,.ref 2]) ⟨rm_np (by decide),Jya (by decide),trivial⟩⟩,.inl ⟨1,_,by decide,rfl,trivial⟩,.inl ⟨2,_,by decide,rfl,Jia Zaa⟩,trivial⟩ (RS.nil (T.region (go 2 4 (RS.nil ?_)))))))
   exact ⟨(IntKind.i64.wrap (s12+1),x16),(Option.some.inj h).symm,Weak.mkN [] [0,1,3] (by decide) (Qpa _) rfl ⟨Qma rfl,Qma rfl,rn_s rfl,Qqa rfl,Qqa rfl,trivial⟩ (rw_bs (Qra p2) rfl (J2a (cs:=[.np 1,.ref 2]) (ds:=[.np 1,.ref 3]) rfl ⟨rn_np rfl,Q6a rfl,trivial⟩ (rw_ar rfl rfl (Qna))))⟩
  refine T.exit ?_
  obtain ⟨w_13,h,hw_13⟩:=Qua h
  replace h:=h.trans (congrArg some (hv_11 _ hw_13))
  refine T.seq ?_
  obtain ⟨x18,hx18,h⟩:=bind_some h
  refine T.region (go 3 3 (sQ (Qha Ty.s27 rfl (sO (Q5a (ac:=[.ptr 1 0,iI ((p2.Memory).length:Int)]) (as0:=[.ptr 0 0,iI ((p2.Memory).length:Int)]) (aw0:=[.boxB 58 [.np 0,.ref 1],aR 5 1 enc8 s13]) (aw1:=[.boxB 58 [.np 0,.ref 2],.dead,aR 5 1 enc8 x18]) (aw2:=[.box (Qra p2),.boxB 58 [.np 1,.ref 3],.dead,aR 5 1 enc8 x18]) (v:=.tup []) (v':=.tup []) (n0:=3) (n1:=3) [1,2] rfl rfl rfl rfl (by decide) (J2a (cs:=[.np 0,.ref 1]) (ds:=[.np 1,.ref 2]) rfl ⟨rn_np rfl,Q6a rfl,trivial⟩ (Jwa rfl Zaa rfl (Qna))) ⟨Qma rfl,Qqa rfl,trivial⟩ (Qva ((p2.Memory).length:Int) s13 x18 hx18) rfl (Yxa (cs:=[]) (ds:=[]) trivial) ⟨.inr ⟨rfl,rfl⟩,.inl ⟨0,_,by decide,rfl,Z7a (cs:=[.np 1,.ref 3]) (ds:=[.np 0,.ref 2]) ⟨rm_np (by decide),Jya (by decide),trivial⟩⟩,.inl ⟨1,_,by decide,rfl,trivial⟩,.inl ⟨2,_,by decide,rfl,Jia Zaa⟩,trivial⟩ (RS.nil (T.seq (T.seq (T.region (go 2 4 (sQ (Qha Ty.s27 rfl ?_))))))))))))
  refine go 1 4 (RS.nil (T.block (T.iter (fun ss_28:Int × (List Int)=>mkA 132 [(5,.ptr 0 0),(9,.ptr 1 0),(67,sL Qba p2.Memory),(68,iI ((p2.Memory).length:Int)),(69,iI ss_28.1)]) (fun ss_28=>[.box (Qra p2),.boxB 58 [.np 1,.ref 2],aR 5 1 enc8 ss_28.2]) h (Weak.mkN [] [0,1,3] (by decide) (Qpa _) rfl ⟨Qma rfl,Qma rfl,rn_s rfl,Qqa rfl,Qqa rfl,trivial⟩ (rw_bs (Qra p2) rfl (J2a (cs:=[.np 1,.ref 2]) (ds:=[.np 1,.ref 3]) rfl ⟨rn_np rfl,Q6a rfl,trivial⟩ (rw_ar rfl rfl (Qna))))) (fun ss_28 v_29 h hv_29=>?_))))
  obtain ⟨s19,s20⟩:=ss_28
  replace h:Qfb p2 s19 s20=some v_29:=h
  try dsimp only
  unfold Qfb at h
  refine T.seq (T.region (go 1 3 (RS.nil (T.seq (T.ci h rfl (fun hb_30 h=>?_) (fun hb_30 h=>?_))))))
  ·refine T.skip (T.seq (T.block (T.seq ?_)))
   obtain ⟨x22,hx22,h⟩:=bind_some h
   refine T.region (sQ (Qga Ty.s27 (fun _=>rfl) rfl rfl hx22 (go 3 3 (RS.nil (T.seq ?_)))))
   obtain ⟨x24,hx24,h⟩:=bind_some h
   refine T.region (go 3 4 (sO (Q5a (ac:=[.ptr 1 0,iI x22.Sum]) (as0:=[.ptr 0 0,iI x22.Sum]) (aw0:=[.boxB 58 [.np 0,.ref 1],aR 5 1 enc8 s20]) (aw1:=[.boxB 58 [.np 0,.ref 2],.dead,aR 5 1 enc8 x24]) (aw2:=[.box (Qra p2),.boxB 58 [.np 1,.ref 4],.dead,.box (Qba x22),aR 5 1 enc8 x24]) (v:=.tup []) (v':=.tup []) (n0:=4) (n1:=3) [1,2] rfl rfl rfl rfl (by decide) (J2a (cs:=[.np 0,.ref 1]) (ds:=[.np 1,.ref 2]) rfl ⟨rn_np rfl,Q6a rfl,trivial⟩ (Jwa rfl Zaa rfl (Qna))) ⟨Qma rfl,Qqa rfl,trivial⟩ (Qva x22.Sum s20 x24 hx24) rfl (Yxa (cs:=[]) (ds:=[]) trivial) ⟨.inr ⟨rfl,rfl⟩,.inl ⟨0,_,by decide,rfl,Z7a (cs:=[.np 1,.ref 4]) (ds:=[.np 0,.ref 2]) ⟨rm_np (by decide),Jya (by decide),trivial⟩⟩,.inl ⟨1,_,by decide,rfl,trivial⟩,.inr ⟨rfl,rfl⟩,.inl ⟨2,_,by decide,rfl,Jia Zaa⟩,trivial⟩ (RS.nil (T.seq ?_)))))
   obtain ⟨x26,hx26,h⟩:=bind_some h
   refine T.region (go 3 5 (sO (Q5a (ac:=[.ptr 1 0,iI x22.Dep]) (as0:=[.ptr 0 0,iI x22.Dep]) (aw0:=[.boxB 58 [.np 0,.ref 1],aR 5 1 enc8 x24]) (aw1:=[.boxB 58 [.np 0,.ref 2],.dead,aR 5 1 enc8 x26]) (aw2:=[.box (Qra p2),.boxB 58 [.np 1,.ref 5],.dead,.box (Qba x22),.dead,aR 5 1 enc8 x26]) (v:=.tup []) (v':=.tup []) (n0:=5) (n1:=3) [1,4] rfl rfl rfl rfl (by decide) (J2a (cs:=[.np 0,.ref 1]) (ds:=[.np 1,.ref 4]) rfl ⟨rn_np rfl,Q6a rfl,trivial⟩ (Jwa rfl Zaa rfl (Qna))) ⟨Qma rfl,Qqa rfl,trivial⟩ (Qva x22.Dep x24 x26 hx26) rfl (Yxa (cs:=[]) (ds:=[]) trivial) ⟨.inr ⟨rfl,rfl⟩,.inl ⟨0,_,by decide,rfl,Z7a (cs:=[.np 1,.ref 5]) (ds:=[.np 0,.ref 2]) ⟨rm_np (by decide),Jya (by decide),trivial⟩⟩,.inr ⟨rfl,rfl⟩,.inr ⟨rfl,rfl⟩,.inl ⟨1,_,by decide,rfl,trivial⟩,.inl ⟨2,_,by decide,rfl,Jia Zaa⟩,trivial⟩ (RS.nil (T.seq ?_)))))
   obtain ⟨x28,hx28,h⟩:=bind_some h
   refine T.region (go 3 6 (sQ (Qha Ty.s61 rfl (sO (Q5a (ac:=[.ptr 1 0,iI ((x22.Keys).length:Int)]) (as0:=[.ptr 0 0,iI ((x22.Keys).length:Int)]) (aw0:=[.boxB 58 [.np 0,.ref 1],aR 5 1 enc8 x26]) (aw1:=[.boxB 58 [.np 0,.ref 2],.dead,aR 5 1 enc8 x28]) (aw2:=[.box (Qra p2),.boxB 58 [.np 1,.ref 6],.dead,.box (Qba x22),.dead,.dead,aR 5 1 enc8 x28]) (v:=.tup []) (v':=.tup []) (n0:=6) (n1:=3) [1,5] rfl rfl rfl rfl (by decide) (J2a (cs:=[.np 0,.ref 1]) (ds:=[.np 1,.ref 5]) rfl ⟨rn_np rfl,Q6a rfl,trivial⟩ (Jwa rfl Zaa rfl (Qna))) ⟨Qma rfl,Qqa rfl,trivial⟩ (Qva ((x22.Keys).length:Int) x26 x28 hx28) rfl (Yxa (cs:=[]) (ds:=[]) trivial) ⟨.inr ⟨rfl,rfl⟩,.inl ⟨0,_,by decide,rfl,Z7a (cs:=[.np 1,.ref 6]) (ds:=[.np 0,.ref 2]) ⟨rm_np (by decide),Jya (by decide),trivial⟩⟩,.inr ⟨rfl,rfl⟩,.inr ⟨rfl,rfl⟩,.inr ⟨rfl,rfl⟩,.inl ⟨1,_,by decide,rfl,trivial⟩,.inl ⟨2,_,by decide,rfl,Jia Zaa⟩,trivial⟩ (RS.nil (T.seq (T.region (go 2 7 (sQ (Qha Ty.s61 rfl (go 1 7 ?_))))))))))))
   refine RS.nil (T.block (T.iter (fun ss_33:Int × (List Int)=>mkA 132 [(5,.ptr 0 0),(9,.ptr 1 0),(67,sL Qba p2.Memory),(68,iI ((p2.Memory).length:Int)),(69,iI s19),(87,sL Qla x22.Keys),(88,iI ((x22.Keys).length:Int)),(89,iI ss_33.1)]) (fun ss_33=>[.box (Qra p2),.boxB 58 [.np 1,.ref 2],aR 5 1 enc8 ss_33.2]) h (Weak.mkN [] [0,1,6] (by decide) (Qpa _) rfl ⟨Qma rfl,Qma rfl,rn_s rfl,Qqa rfl,Qqa rfl,rn_s rfl,Qqa rfl,Qqa rfl,trivial⟩ (rw_bs (Qra p2) rfl (J2a (cs:=[.np 1,.ref 2]) (ds:=[.np 1,.ref 6]) rfl ⟨rn_np rfl,Q6a rfl,trivial⟩ (rw_ar rfl rfl (Qna))))) (fun ss_33 v_34 h hv_34=>?_)))
   obtain ⟨s29,s30⟩:=ss_33
   replace h:save_Bytes_l1 s19 x22 s29 s30=some v_34:=h
   try dsimp only
   unfold save_Bytes_l1 at h
   refine T.seq (T.region (go 1 3 (RS.nil (T.seq (T.ci h rfl (fun hb_35 h=>?_) (fun hb_35 h=>?_))))))
   ·refine T.skip (T.seq (T.block (T.seq ?_)))
    obtain ⟨x32,hx32,h⟩:=bind_some h
    refine T.region (sQ (Qga Ty.s61 (fun _=>rfl) rfl rfl hx32 (go 3 3 (RS.nil (T.seq ?_)))))
    obtain ⟨x34,hx34,h⟩:=bind_some h
    refine T.region (go 3 4 (sO (Q5a (ac:=[.ptr 1 0,iI x32.Key]) (as0:=[.ptr 0 0,iI x32.Key]) (aw0:=[.boxB 58 [.np 0,.ref 1],aR 5 1 enc8 s30]) (aw1:=[.boxB 58 [.np 0,.ref 2],.dead,aR 5 1 enc8 x34]) (aw2:=[.box (Qra p2),.boxB 58 [.np 1,.ref 4],.dead,.box (Qla x32),aR 5 1 enc8 x34]) (v:=.tup []) (v':=.tup []) (n0:=4) (n1:=3) [1,2] rfl rfl rfl rfl (by decide) (J2a (cs:=[.np 0,.ref 1]) (ds:=[.np 1,.ref 2]) rfl ⟨rn_np rfl,Q6a rfl,trivial⟩ (Jwa rfl Zaa rfl (Qna))) ⟨Qma rfl,Qqa rfl,trivial⟩ (Qva x32.Key s30 x34 hx34) rfl (Yxa (cs:=[]) (ds:=[]) trivial) ⟨.inr ⟨rfl,rfl⟩,.inl ⟨0,_,by decide,rfl,Z7a (cs:=[.np 1,.ref 4]) (ds:=[.np 0,.ref 2]) ⟨rm_np (by decide),Jya (by decide),trivial⟩⟩,.inl ⟨1,_,by decide,rfl,trivial⟩,.inr ⟨rfl,rfl⟩,.inl ⟨2,_,by decide,rfl,Jia Zaa⟩,trivial⟩ (RS.nil ?_))))
    obtain ⟨x35,hx35,h⟩:=bind_some h
    refine T.region (go 3 5 (sO (Q5a (ac:=[.ptr 1 0,iI x32.N]) (as0:=[.ptr 0 0,iI x32.N]) (aw0:=[.boxB 58 [.np 0,.ref 1],aR 5 1 enc8 x34]) (aw1:=[.boxB 58 [.np 0,.ref 2],.dead,aR 5 1 enc8 x35]) (aw2:=[.box (Qra p2),.boxB 58 [.np 1,.ref 5],.dead,.box (Qla x32),.dead,aR 5 1 enc8 x35]) (v:=.tup []) (v':=.tup []) (n0:=5) (n1:=3) [1,4] rfl rfl rfl rfl (by decide) (J2a (cs:=[.np 0,.ref 1]) (ds:=[.np 1,.ref 4]) rfl ⟨rn_np rfl,Q6a rfl,trivial⟩ (Jwa rfl Zaa rfl (Qna))) ⟨Qma rfl,Qqa rfl,trivial⟩ (Qva x32.N x34 x35 hx35) rfl (Yxa (cs:=[]) (ds:=[]) trivial) ⟨.inr ⟨rfl,rfl⟩,.inl ⟨0,_,by decide,rfl,Z7a (cs:=[.np 1,.ref 5]) (ds:=[.np 0,.ref 2]) ⟨rm_np (by decide),Jya (by decide),trivial⟩⟩,.inr ⟨rfl,rfl⟩,.inr ⟨rfl,rfl⟩,.inl ⟨1,_,by decide,rfl,trivial⟩,.inl ⟨2,_,by decide,rfl,Jia Zaa⟩,trivial⟩ (RS.nil (T.region (go 2 6 (RS.nil ?_)))))))
    exact ⟨(IntKind.i64.wrap (s29+1),x35),(Option.some.inj h).symm,Weak.mkN [] [0,1,5] (by decide) (Qpa _) rfl ⟨Qma rfl,Qma rfl,rn_s rfl,Qqa rfl,Qqa rfl,rn_s rfl,Qqa rfl,Qqa rfl,trivial⟩ (rw_bs (Qra p2) rfl (J2a (cs:=[.np 1,.ref 2]) (ds:=[.np 1,.ref 5]) rfl ⟨rn_np rfl,Q6a rfl,trivial⟩ (rw_ar rfl rfl (Qna))))⟩
   refine T.exit ?_
   obtain ⟨w_36,h,hw_36⟩:=Qua h
   replace h:=h.trans (congrArg some (hv_34 _ hw_36))
   refine T.region (go 2 3 (RS.nil ?_))
   exact ⟨(IntKind.i64.wrap (s19+1),s30),(Option.some.inj h).symm,Weak.mkN [] [0,1,2] (by decide) (Qpa _) rfl ⟨Qma rfl,Qma rfl,rn_s rfl,Qqa rfl,Qqa rfl,trivial⟩ (rw_bs (Qra p2) rfl (J2a (cs:=[.np 1,.ref 2]) (ds:=[.np 1,.ref 2]) rfl ⟨rn_np rfl,Q6a rfl,trivial⟩ (rw_ar rfl rfl (Qna))))⟩
  refine T.exit ?_
  obtain ⟨w_37,h,hw_37⟩:=Qua h
  replace h:=h.trans (congrArg some (hv_29 _ hw_37))
  refine T.seq ?_
  obtain ⟨x37,hx37,h⟩:=bind_some h
  refine T.region (go 3 3 (sQ (Qha Ty.s28 rfl (sO (Q5a (ac:=[.ptr 1 0,iI ((p2.Choices).length:Int)]) (as0:=[.ptr 0 0,iI ((p2.Choices).length:Int)]) (aw0:=[.boxB 58 [.np 0,.ref 1],aR 5 1 enc8 s20]) (aw1:=[.boxB 58 [.np 0,.ref 2],.dead,aR 5 1 enc8 x37]) (aw2:=[.box (Qra p2),.boxB 58 [.np 1,.ref 3],.dead,aR 5 1 enc8 x37]) (v:=.tup []) (v':=.tup []) (n0:=3) (n1:=3) [1,2] rfl rfl rfl rfl (by decide) (J2a (cs:=[.np 0,.ref 1]) (ds:=[.np 1,.ref 2]) rfl ⟨rn_np rfl,Q6a rfl,trivial⟩ (Jwa rfl Zaa rfl (Qna))) ⟨Qma rfl,Qqa rfl,trivial⟩ (Qva ((p2.Choices).length:Int) s20 x37 hx37) rfl (Yxa (cs:=[]) (ds:=[]) trivial) ⟨.inr ⟨rfl,rfl⟩,.inl ⟨0,_,by decide,rfl,Z7a (cs:=[.np 1,.ref 3]) (ds:=[.np 0,.ref 2]) ⟨rm_np (by decide),Jya (by decide),trivial⟩⟩,.inl ⟨1,_,by decide,rfl,trivial⟩,.inl ⟨2,_,by decide,rfl,Jia Zaa⟩,trivial⟩ (RS.nil (T.seq (T.seq (T.region (go 2 4 (sQ (Qha Ty.s28 rfl ?_))))))))))))
  refine go 1 4 (RS.nil (T.block (T.iter (fun ss_40:Int × (List Int)=>mkA 132 [(5,.ptr 0 0),(9,.ptr 1 0),(109,sL Qea p2.Choices),(110,iI ((p2.Choices).length:Int)),(111,iI ss_40.1)]) (fun ss_40=>[.box (Qra p2),.boxB 58 [.np 1,.ref 2],aR 5 1 enc8 ss_40.2]) h (Weak.mkN [] [0,1,3] (by decide) (Qpa _) rfl ⟨Qma rfl,Qma rfl,rn_s rfl,Qqa rfl,Qqa rfl,trivial⟩ (rw_bs (Qra p2) rfl (J2a (cs:=[.np 1,.ref 2]) (ds:=[.np 1,.ref 3]) rfl ⟨rn_np rfl,Q6a rfl,trivial⟩ (rw_ar rfl rfl (Qna))))) (fun ss_40 v_41 h hv_41=>?_))))
  obtain ⟨s38,s39⟩:=ss_40
  replace h:Qhb p2 s38 s39=some v_41:=h
  try dsimp only
  unfold Qhb at h
  refine T.seq (T.region (go 1 3 (RS.nil (T.seq (T.ci h rfl (fun hb_42 h=>?_) (fun hb_42 h=>?_))))))
  ·refine T.skip (T.seq (T.block (T.seq ?_)))
   obtain ⟨x41,hx41,h⟩:=bind_some h
   refine T.region (sQ (Qga Ty.s28 (fun _=>rfl) rfl rfl hx41 (go 3 3 (RS.nil (T.seq ?_)))))
   obtain ⟨x43,hx43,h⟩:=bind_some h
   refine T.region (go 3 4 (sO (Q5a (ac:=[.ptr 1 0,iI x41.Node]) (as0:=[.ptr 0 0,iI x41.Node]) (aw0:=[.boxB 58 [.np 0,.ref 1],aR 5 1 enc8 s39]) (aw1:=[.boxB 58 [.np 0,.ref 2],.dead,aR 5 1 enc8 x43]) (aw2:=[.box (Qra p2),.boxB 58 [.np 1,.ref 4],.dead,.box (Qea x41),aR 5 1 enc8 x43]) (v:=.tup []) (v':=.tup []) (n0:=4) (n1:=3) [1,2] rfl rfl rfl rfl (by decide) (J2a (cs:=[.np 0,.ref 1]) (ds:=[.np 1,.ref 2]) rfl ⟨rn_np rfl,Q6a rfl,trivial⟩ (Jwa rfl Zaa rfl (Qna))) ⟨Qma rfl,Qqa rfl,trivial⟩ (Qva x41.Node s39 x43 hx43) rfl (Yxa (cs:=[]) (ds:=[]) trivial) ⟨.inr ⟨rfl,rfl⟩,.inl ⟨0,_,by decide,rfl,Z7a (cs:=[.np 1,.ref 4]) (ds:=[.np 0,.ref 2]) ⟨rm_np (by decide),Jya (by decide),trivial⟩⟩,.inl ⟨1,_,by decide,rfl,trivial⟩,.inr ⟨rfl,rfl⟩,.inl ⟨2,_,by decide,rfl,Jia Zaa⟩,trivial⟩ (RS.nil ?_))))
   obtain ⟨x44,hx44,h⟩:=bind_some h
   refine T.region (go 3 5 (sO (Q5a (ac:=[.ptr 1 0,iI x41.Lane]) (as0:=[.ptr 0 0,iI x41.Lane]) (aw0:=[.boxB 58 [.np 0,.ref 1],aR 5 1 enc8 x43]) (aw1:=[.boxB 58 [.np 0,.ref 2],.dead,aR 5 1 enc8 x44]) (aw2:=[.box (Qra p2),.boxB 58 [.np 1,.ref 5],.dead,.box (Qea x41),.dead,aR 5 1 enc8 x44]) (v:=.tup []) (v':=.tup []) (n0:=5) (n1:=3) [1,4] rfl rfl rfl rfl (by decide) (J2a (cs:=[.np 0,.ref 1]) (ds:=[.np 1,.ref 4]) rfl ⟨rn_np rfl,Q6a rfl,trivial⟩ (Jwa rfl Zaa rfl (Qna))) ⟨Qma rfl,Qqa rfl,trivial⟩ (Qva x41.Lane x43 x44 hx44) rfl (Yxa (cs:=[]) (ds:=[]) trivial) ⟨.inr ⟨rfl,rfl⟩,.inl ⟨0,_,by decide,rfl,Z7a (cs:=[.np 1,.ref 5]) (ds:=[.np 0,.ref 2]) ⟨rm_np (by decide),Jya (by decide),trivial⟩⟩,.inr ⟨rfl,rfl⟩,.inr ⟨rfl,rfl⟩,.inl ⟨1,_,by decide,rfl,trivial⟩,.inl ⟨2,_,by decide,rfl,Jia Zaa⟩,trivial⟩ (RS.nil (T.region (go 2 6 (RS.nil ?_)))))))
   exact ⟨(IntKind.i64.wrap (s38+1),x44),(Option.some.inj h).symm,Weak.mkN [] [0,1,5] (by decide) (Qpa _) rfl ⟨Qma rfl,Qma rfl,rn_s rfl,Qqa rfl,Qqa rfl,trivial⟩ (rw_bs (Qra p2) rfl (J2a (cs:=[.np 1,.ref 2]) (ds:=[.np 1,.ref 5]) rfl ⟨rn_np rfl,Q6a rfl,trivial⟩ (rw_ar rfl rfl (Qna))))⟩
  refine T.exit ?_
  obtain ⟨w_43,h,hw_43⟩:=Qua h
  replace h:=h.trans (congrArg some (hv_41 _ hw_43))
  refine T.seq ?_
  obtain ⟨x46,hx46,h⟩:=bind_some h
  refine T.region (go 3 3 (sO (Q5a (ac:=[.ptr 1 0,sL Qaa p2.Out]) (as0:=[.ptr 0 0,sL Qaa p2.Out]) (aw0:=[.boxB 58 [.np 0,.ref 1],aR 5 1 enc8 s39]) (aw1:=[.boxB 58 [.np 0,.ref 2],.dead,aR 5 1 enc8 x46]) (aw2:=[.box (Qra p2),.boxB 58 [.np 1,.ref 3],.dead,aR 5 1 enc8 x46]) (v:=.tup []) (v':=.tup []) (n0:=3) (n1:=3) [1,2] rfl rfl rfl rfl (by decide) (J2a (cs:=[.np 0,.ref 1]) (ds:=[.np 1,.ref 2]) rfl ⟨rn_np rfl,Q6a rfl,trivial⟩ (Jwa rfl Zaa rfl (Qna))) ⟨Qma rfl,rn_s rfl,trivial⟩ (Qtb p2.Out s39 x46 hx46) rfl (Yxa (cs:=[]) (ds:=[]) trivial) ⟨.inr ⟨rfl,rfl⟩,.inl ⟨0,_,by decide,rfl,Z7a (cs:=[.np 1,.ref 3]) (ds:=[.np 0,.ref 2]) ⟨rm_np (by decide),Jya (by decide),trivial⟩⟩,.inl ⟨1,_,by decide,rfl,trivial⟩,.inl ⟨2,_,by decide,rfl,Jia Zaa⟩,trivial⟩ (RS.nil (T.seq ?_)))))
  obtain ⟨x48,hx48,h⟩:=bind_some h
  refine T.region (go 3 4 (sO (Q5a (ac:=[.ptr 1 0]) (as0:=[.ptr 0 0]) (aw0:=[.boxB 58 [.np 0,.ref 1],aR 5 1 enc8 x46]) (aw1:=[.dead,.dead]) (aw2:=[.box (Qra p2),.dead,.dead,.dead]) (v:=.str x48) (v':=.str x48) (n0:=4) (n1:=2) [1,3] rfl rfl rfl rfl (by decide) (J2a (cs:=[.np 0,.ref 1]) (ds:=[.np 1,.ref 3]) rfl ⟨rn_np rfl,Q6a rfl,trivial⟩ (Jwa rfl Zaa rfl (Qna))) ⟨Qma rfl,trivial⟩ (bld_String_c x46 x48 hx48) rfl (Qia (Jfa _)) ⟨.inr ⟨rfl,rfl⟩,.inl ⟨0,_,by decide,rfl,trivial⟩,.inr ⟨rfl,rfl⟩,.inl ⟨1,_,by decide,rfl,trivial⟩,trivial⟩ (go 2 4 (RS.nil ?_)))))
  cases h
  exact tD
theorem Ywa (r:Net) (h:Vya=some r):Fn Try.prog 19 [] (.agg (Jca r)):=by
  unfold Vya at h
  refine fnT 0 Try.func19 Try.ntmps19 ?_
  refine T.seq (T.region (go 1 0 (RS.nil (T.seq (T.region (sO (Qya (rows:=List.map encI [0]) (vs:=[iI 0]) Ty.s26 Ty.z3 rfl rfl rfl rfl rfl rfl (go 1 2 (sO (Qya (rows:=List.map encI [1]) (vs:=[iI 1]) Ty.s26 Ty.z3 rfl rfl rfl rfl rfl rfl (go 1 3 ?_)))))))))))
  refine sO (Qya (rows:=List.map encI [0,1]) (vs:=[iI 0,iI 1]) Ty.s26 Ty.z3 rfl rfl rfl rfl rfl rfl (sO (Qya (rows:=List.map encI [2]) (vs:=[iI 2]) Ty.s26 Ty.z3 rfl rfl rfl rfl rfl rfl (go 1 5 (sO (Qya (rows:=List.map encI [2]) (vs:=[iI 2]) Ty.s26 Ty.z3 rfl rfl rfl rfl rfl rfl (go 1 6 (RS.fC 1 (RS.fC 2 (RS.fC 3 (RS.fC 4 (RS.fC 5 ?_))))))))))))
  refine sO (o_buildSliceN (rows:=List.map Jda [(⟨1,0,[],[0]⟩:Node),(⟨1,1,[],[1]⟩:Node),(⟨6,0,[0,1],[2]⟩:Node),(⟨8,0,[2],[]⟩:Node)]) (vs:=[.agg [iI 1,iI 0,.nils,sL encI [0]],.agg [iI 1,iI 1,.nils,sL encI [1]],.agg [iI 6,iI 0,sL encI [0,1],sL encI [2]],.agg [iI 8,iI 0,sL encI [2],.nils]]) (vs2:=[.agg [iI 1,iI 0,sL encI [],sL encI [0]],.agg [iI 1,iI 1,sL encI [],sL encI [1]],.agg [iI 6,iI 0,sL encI [0,1],sL encI [2]],.agg [iI 8,iI 0,sL encI [2],sL encI []]]) Ty.s22 Ty.z112 rfl rfl rfl rfl rfl rfl (go 2 7 (RS.nil ?_)))
  cases h
  exact tD
theorem crosslaw_item_c (p0:Int) (p1:Int) (r:Item) (h:crosslaw_item p0 p1=some r):Fn Try.prog 45 [iI p0,iI p1] (.agg (Qaa r)):=by
  unfold crosslaw_item at h
  refine fnT 0 Try.func45 Try.ntmps45 ?_
  refine T.seq (T.region (go 1 0 (RS.nil (T.seq (T.region (go 4 1 (RS.nil ?_)))))))
  cases h
  exact tD
theorem crosslaw_two_c (r:List (List Item)) (h:Jcb=some r):FnO Try.prog 20 [] (.ref 0) [aR 29 1 (encL Qaa) r]:=by
  unfold Jcb at h
  refine fnT 0 Try.func20 Try.ntmps20 ?_
  refine T.seq (T.region (go 1 0 (RS.nil (T.seq ?_))))
  obtain ⟨x3,hx3,h⟩:=bind_some h
  obtain ⟨x4,hx4,h⟩:=bind_some h
  refine T.region (sO (cF (crosslaw_item_c (1:Int) (1:Int) x3 hx3) ⟨rfl,(sO (Qya (rows:=List.map Qaa [x3]) (vs:=[.agg (Qaa x3)]) Ty.s29 Ty.z94 rfl rfl rfl rfl rfl rfl (sO (cF (crosslaw_item_c (2:Int) (2:Int) x4 hx4) ⟨rfl,(sO (Qya (rows:=List.map Qaa [x4]) (vs:=[.agg (Qaa x4)]) Ty.s29 Ty.z94 rfl rfl rfl rfl rfl rfl (RS.fC 0 (RS.fC 1 (sO (Qya (rows:=List.map (encL Qaa) [[x3],[x4]]) (vs:=[sL Qaa [x3],sL Qaa [x4]]) Ty.s25 Ty.z29 rfl rfl rfl rfl rfl rfl (go 1 3 (RS.nil ?_))))))))⟩))))⟩))
  cases h
  exact tO [] [2] 3
theorem move_start_c (p0:Net) (p1:List (List Item)) (r:State) (h:move_start p0 p1=some r):FnO Try.prog 64 [.agg (Jca p0),sL (encL Qaa) p1] (.agg [.ref 0,.ref 1,.ref 2,.ref 3,.ref 4]) [aR 3 1 encI r.At,aR 29 1 (encL Qaa) r.Rings,aR 63 3 Qba r.Memory,aR 67 2 Qea r.Choices,aR 94 3 Qaa r.Out]:=by
  unfold move_start at h
  refine fnT 0 Try.func64 Try.ntmps64 ?_
  refine T.seq (T.region (go 2 0 (RS.nil (T.seq ?_))))
  obtain ⟨x4,hx4,h⟩:=bind_some h
  obtain ⟨x5,hx5,h⟩:=bind_some h
  obtain ⟨x6,hx6,h⟩:=bind_some h
  refine T.drawn mixed (k:=12) rfl ?_
  apply RA.jn 1 #[true,true,true,true,true,true,true,true,true,true,true,false];intro hS1
  apply RA.jn 3 #[true,true,true,true,true,false,true,true,true,true,false,false];intro hS2
  apply RA.jn 3 #[true,true,false,true,true,true,true,true,true,true,false,false];intro hS3
  apply RA.jn 3 #[true,true,true,true,true,true,true,true,true,false,false,false];intro hS4
  apply RA.jn 4 #[true,true,true,true,false,false,true,true,true,true,false,false];intro hS5
  apply RA.jn 4 #[true,true,false,true,true,false,true,true,true,true,false,false];intro hS6
  apply RA.jn 4 #[true,true,true,true,true,false,true,true,true,false,false,false];intro hS7
  apply RA.jn 4 #[true,true,false,true,true,true,true,true,true,false,false,false];intro hS8
  apply RA.jn 5 #[true,true,true,true,false,false,true,true,true,false,false,false];intro hS9
  apply RA.jn 5 #[true,true,false,true,true,false,true,true,true,false,false,false];intro hS10
  apply RA.jn 5 #[true,true,true,true,true,true,true,false,false,false,false,false];intro hS11
  apply RA.jn 6 #[true,true,true,true,true,false,true,false,false,false,false,false];intro hS12
  ·refine rq [0] 11 (r0 1 rfl (Qha Ty.s25 rfl (rq [3,6] 8 (ra3 2 4 7 ?_ ?_ ?_))))
   ·refine oO rfl (o_mk (en:=encI) (zr:=0) Ty.s26 Ty.z3 rfl rfl hx4 rfl rfl (ra2 4 7 ?_ ?_))
    ·refine og 3 ⟨rfl,?_⟩
     exact raE hS12
    ·refine og 3 ⟨rfl,(r0 8 rfl (Qha Ty.s22 rfl ?_))⟩
     exact raE hS9
   ·refine og 2 ⟨rfl,(ra3 2 5 7 ?_ ?_ ?_)⟩
    ·refine oO rfl (o_mk (en:=encI) (zr:=0) Ty.s26 Ty.z3 rfl rfl hx4 rfl rfl ?_)
     exact raT hS12
    ·refine oO rfl (o_mkN (en:=(encL Qaa)) (zr:=([]:List Item)) Ty.s25 Ty.z29 ⟨.inr ⟨rfl,rfl⟩,trivial⟩ rfl rfl hx5 rfl rfl (ra2 2 7 ?_ ?_))
     ·refine oO rfl (o_mk (en:=encI) (zr:=0) Ty.s26 Ty.z3 rfl rfl hx4 rfl rfl ?_)
      exact raE hS11
     ·refine og 3 ⟨rfl,(r0 8 rfl (Qha Ty.s22 rfl ?_))⟩
      exact raE hS8
    ·refine og 2 ⟨rfl,(r0 8 rfl (Qha Ty.s22 rfl ?_))⟩
     exact raE hS10
   ·refine og 2 ⟨rfl,(r0 8 rfl (Qha Ty.s22 rfl (ra3 2 4 9 ?_ ?_ ?_)))⟩
    ·refine oO rfl (o_mk (en:=encI) (zr:=0) Ty.s26 Ty.z3 rfl rfl hx4 rfl rfl ?_)
     exact raT hS9
    ·refine og 2 ⟨rfl,?_⟩
     exact raT hS10
    ·refine oO rfl (o_mkN (en:=Qba) (zr:=(⟨0,[],0⟩:Memory)) Ty.s27 Ty.z63 ⟨.inl rfl,.inr ⟨rfl,rfl⟩,.inl rfl,trivial⟩ rfl rfl hx6 rfl rfl (ra2 2 4 ?_ ?_))
     ·refine oO rfl (o_mk (en:=encI) (zr:=0) Ty.s26 Ty.z3 rfl rfl hx4 rfl rfl ?_)
      exact raE hS5
     ·refine og 3 ⟨rfl,?_⟩
      exact raE hS6
  ·refine ra2 5 7 ?_ ?_
   ·refine oO rfl (o_mkN (en:=(encL Qaa)) (zr:=([]:List Item)) Ty.s25 Ty.z29 ⟨.inr ⟨rfl,rfl⟩,trivial⟩ rfl rfl hx5 rfl rfl ?_)
    exact raV hS11 [0,1,3,2] rfl
   ·refine og 3 ⟨rfl,(r0 8 rfl (Qha Ty.s22 rfl ?_))⟩
    exact raE hS7
  ·refine ra1 7 (og 4 ⟨rfl,(r0 8 rfl (Qha Ty.s22 rfl ?_))⟩)
   exact raE hS4
  ·refine ra3 2 5 9 ?_ ?_ ?_
   ·refine oO rfl (o_mk (en:=encI) (zr:=0) Ty.s26 Ty.z3 rfl rfl hx4 rfl rfl ?_)
    exact raT hS7
   ·refine oO rfl (o_mkN (en:=(encL Qaa)) (zr:=([]:List Item)) Ty.s25 Ty.z29 ⟨.inr ⟨rfl,rfl⟩,trivial⟩ rfl rfl hx5 rfl rfl ?_)
    exact raT hS8
   ·refine oO rfl (o_mkN (en:=Qba) (zr:=(⟨0,[],0⟩:Memory)) Ty.s27 Ty.z63 ⟨.inl rfl,.inr ⟨rfl,rfl⟩,.inl rfl,trivial⟩ rfl rfl hx6 rfl rfl ?_)
    exact raT hS6
  ·refine ra2 4 9 ?_ ?_
   ·refine og 3 ⟨rfl,?_⟩
    exact raT hS7
   ·refine oO rfl (o_mkN (en:=Qba) (zr:=(⟨0,[],0⟩:Memory)) Ty.s27 Ty.z63 ⟨.inl rfl,.inr ⟨rfl,rfl⟩,.inl rfl,trivial⟩ rfl rfl hx6 rfl rfl ?_)
    exact raV hS5 [0,1,3,2] rfl
  ·refine ra2 2 9 ?_ ?_
   ·refine oO rfl (o_mk (en:=encI) (zr:=0) Ty.s26 Ty.z3 rfl rfl hx4 rfl rfl ?_)
    exact raT hS4
   ·refine oO rfl (o_mkN (en:=Qba) (zr:=(⟨0,[],0⟩:Memory)) Ty.s27 Ty.z63 ⟨.inl rfl,.inr ⟨rfl,rfl⟩,.inl rfl,trivial⟩ rfl rfl hx6 rfl rfl ?_)
    exact raE hS3
  ·refine ra2 5 9 ?_ ?_
   ·refine oO rfl (o_mkN (en:=(encL Qaa)) (zr:=([]:List Item)) Ty.s25 Ty.z29 ⟨.inr ⟨rfl,rfl⟩,trivial⟩ rfl rfl hx5 rfl rfl ?_)
    exact raV hS4 [0,1,3,2] rfl
   ·refine oO rfl (o_mkN (en:=Qba) (zr:=(⟨0,[],0⟩:Memory)) Ty.s27 Ty.z63 ⟨.inl rfl,.inr ⟨rfl,rfl⟩,.inl rfl,trivial⟩ rfl rfl hx6 rfl rfl ?_)
    exact raE hS2
  ·refine ra2 2 5 ?_ ?_
   ·refine oO rfl (o_mk (en:=encI) (zr:=0) Ty.s26 Ty.z3 rfl rfl hx4 rfl rfl ?_)
    exact raV hS2 [0,1,3,2] rfl
   ·refine oO rfl (o_mkN (en:=(encL Qaa)) (zr:=([]:List Item)) Ty.s25 Ty.z29 ⟨.inr ⟨rfl,rfl⟩,trivial⟩ rfl rfl hx5 rfl rfl ?_)
    exact raV hS3 [0,1,3,2] rfl
  ·refine ra1 4 (og 4 ⟨rfl,?_⟩)
   exact raV hS2 [0,1,3,2] rfl
  ·refine ra1 9 (oO rfl (o_mkN (en:=Qba) (zr:=(⟨0,[],0⟩:Memory)) Ty.s27 Ty.z63 ⟨.inl rfl,.inr ⟨rfl,rfl⟩,.inl rfl,trivial⟩ rfl rfl hx6 rfl rfl (rq [10] 1 ?_)))
   exact raE hS1
  ·refine ra1 2 (oO rfl (o_mk (en:=encI) (zr:=0) Ty.s26 Ty.z3 rfl rfl hx4 rfl rfl (rq [10] 1 ?_)))
   exact raV hS1 [0,1,2,4,3] rfl
  ·refine ra1 5 (oO rfl (o_mkN (en:=(encL Qaa)) (zr:=([]:List Item)) Ty.s25 Ty.z29 ⟨.inr ⟨rfl,rfl⟩,trivial⟩ rfl rfl hx5 rfl rfl (rq [10] 1 ?_)))
   exact raV hS1 [0,1,4,2,3] rfl
  refine ra1 11 (og 5 ⟨rfl,(RA.done (by decide +kernel) (T.nilB 1 3 67 2 (cs:=[.ref 3,.ref 2,.ref 4,.nils,.nils]) rfl rfl (cs':=[.ref 3,.ref 2,.ref 4,.ref 5,.nils]) rfl rfl (T.nilB 1 4 94 3 (cs:=[.ref 3,.ref 2,.ref 4,.ref 5,.nils]) rfl rfl (cs':=[.ref 3,.ref 2,.ref 4,.ref 5,.ref 6]) rfl rfl ?_)))⟩)
  cases h
  exact tO [] [3,2,4,5,6] 7
theorem move_Start_c (p0:Net) (p1:List (List Item)) (r:State × Int) (h:move_Start p0 p1=some r):FnO Try.prog 42 [.agg (Jca p0),sL (encL Qaa) p1] (.tup [.agg [.ref 0,.ref 1,.ref 2,.ref 3,.ref 4],iI r.2]) [aR 3 1 encI r.1.At,aR 29 1 (encL Qaa) r.1.Rings,aR 63 3 Qba r.1.Memory,aR 67 2 Qea r.1.Choices,aR 94 3 Qaa r.1.Out]:=by
  unfold move_Start at h
  refine fnT 0 Try.func42 Try.ntmps42 ?_
  refine T.seq (T.region (go 3 0 (RS.nil (T.seq (T.seq ?_)))))
  obtain ⟨x2,hx2,h⟩:=bind_some h
  refine T.region (go 2 2 (sO (cF (net_Sources_c p0 p1 x2 hx2) ⟨rfl,(go 1 2 (RS.nil (T.seq (T.region (go 2 2 (RS.nil (T.ci h rfl (fun hb_1 h=>?_) (fun hb_1 h=>?_))))))))⟩)))
  ·refine T.seq (T.region (go 4 2 (RS.nil (T.nilB 1 0 3 1 (cs:=[.nils,.nils,.nils,.nils,.nils]) rfl rfl (cs':=[.ref 2,.nils,.nils,.nils,.nils]) rfl rfl (T.nilB 1 1 29 1 (cs:=[.ref 2,.nils,.nils,.nils,.nils]) rfl rfl (cs':=[.ref 2,.ref 3,.nils,.nils,.nils]) rfl rfl (T.nilB 1 2 63 3 (cs:=[.ref 2,.ref 3,.nils,.nils,.nils]) rfl rfl (cs':=[.ref 2,.ref 3,.ref 4,.nils,.nils]) rfl rfl (T.nilB 1 3 67 2 (cs:=[.ref 2,.ref 3,.ref 4,.nils,.nils]) rfl rfl (cs':=[.ref 2,.ref 3,.ref 4,.ref 5,.nils]) rfl rfl (T.nilB 1 4 94 3 (cs:=[.ref 2,.ref 3,.ref 4,.ref 5,.nils]) rfl rfl (cs':=[.ref 2,.ref 3,.ref 4,.ref 5,.ref 6]) rfl rfl ?_))))))))
   cases h
   exact tO [] [2,3,4,5,6] 7
  refine T.skip (T.seq ?_)
  obtain ⟨x4,hx4,h⟩:=bind_some h
  refine T.region (go 2 2 (sO (Q5a (ac:=[.agg (Jca p0),sL (encL Qaa) p1]) (as0:=[.agg (Jca p0),sL (encL Qaa) p1]) (aw0:=[]) (aw1:=[aR 3 1 encI x4.At,aR 29 1 (encL Qaa) x4.Rings,aR 63 3 Qba x4.Memory,aR 67 2 Qea x4.Choices,aR 94 3 Qaa x4.Out]) (aw2:=[.box (Jca p0),.box [.nils,.nils,.nils,.nils,.nils],aR 3 1 encI x4.At,aR 29 1 (encL Qaa) x4.Rings,aR 63 3 Qba x4.Memory,aR 67 2 Qea x4.Choices,aR 94 3 Qaa x4.Out]) (v:=.agg [.ref 0,.ref 1,.ref 2,.ref 3,.ref 4]) (v':=.agg [.ref 2,.ref 3,.ref 4,.ref 5,.ref 6]) (n0:=2) (n1:=5) [] rfl rfl rfl rfl (by decide) (Qna) ⟨rn_agg ⟨rn_s rfl,Qqa rfl,Qqa rfl,trivial⟩,rn_s rfl,trivial⟩ (FnX.of_fnO (move_start_c p0 p1 x4 hx4)) rfl (rm_agg (cs:=[.ref 2,.ref 3,.ref 4,.ref 5,.ref 6]) (ds:=[.ref 0,.ref 1,.ref 2,.ref 3,.ref 4]) ⟨Jya (by decide),Jya (by decide),Jya (by decide),Jya (by decide),Jya (by decide),trivial⟩) ⟨.inr ⟨rfl,rfl⟩,.inr ⟨rfl,rfl⟩,.inl ⟨0,_,by decide,rfl,Jia encI_p⟩,.inl ⟨1,_,by decide,rfl,Jia (encL_p Jba)⟩,.inl ⟨2,_,by decide,rfl,Jia J7a⟩,.inl ⟨3,_,by decide,rfl,Jia J6a⟩,.inl ⟨4,_,by decide,rfl,Jia Jba⟩,trivial⟩ (go 2 7 (RS.nil ?_)))))
  cases h
  exact tO [] [2,3,4,5,6] 7
theorem move_head_c (p0:Net) (p1:List (List Item)) (p2:State) (p3:Move) (r:Item × Bool) (h:move_head p0 p1 p2 p3=some r):Fn Try.prog 66 [.agg (Jca p0),sL (encL Qaa) p1,.agg (Qra p2),.agg (Zda p3)] (.tup [.agg (Qaa r.1),.bool r.2]):=by
  unfold move_head at h
  refine fnT 0 Try.func66 Try.ntmps66 ?_
  refine T.seq (T.region (go 5 0 (RS.nil (T.seq ?_))))
  obtain ⟨x2,hx2,h⟩:=bind_some h
  refine T.region (go 4 4 (sQ (Qga Ty.s22 (fun _=>rfl) rfl rfl hx2 (go 3 4 (RS.nil (T.seq (T.seq (T.region (go 3 5 (RS.nil ?_))))))))))
  refine T.ci h rfl (fun hb_1 h=>?_) (fun hb_1 h=>?_)
  ·refine T.seq (T.seq ?_)
   obtain ⟨x5,hx5,h⟩:=bind_some h
   obtain ⟨x6,hx6,h⟩:=bind_some h
   refine T.drawn mixed (k:=13) rfl (rq [0,2,6,7] 9 (rL [8,9,10,11,12] 8 rfl (r0 9 rfl (Qga Ty.s25 (fun _=>rfl) rfl rfl hx6 (rL [10,11,12] 10 rfl (r0 11 rfl (Qha Ty.s29 rfl (rL [1,4,5,12] 1 rfl (ra1 3 (og 5 ⟨rfl,(r0 4 rfl (Qga Ty.s26 (fun _=>rfl) rfl rfl hx5 ?_))⟩))))))))))
   refine ra1 5 (og 5 ⟨rfl,(rq [12] 0 (RA.done (by decide +kernel) (T.ci h rfl (fun hb_2 h=>?_) (fun hb_2 h=>?_))))⟩)
   ·refine T.seq (T.region (go 3 5 (RS.nil ?_)))
    cases h
    exact tD
   refine T.skip (T.seq ?_)
   obtain ⟨x10,hx10,h⟩:=bind_some h
   obtain ⟨x11,hx11,h⟩:=bind_some h
   obtain ⟨x12,hx12,h⟩:=bind_some h
   refine T.drawn mixed (k:=15) rfl (rq [0,1,5,7] 11 (rL [2,3,4,11,12,13,14] 2 rfl (r0 3 rfl (Qga Ty.s25 (fun _=>rfl) rfl rfl hx10 (rL [4,11,12,13,14] 4 rfl (rL [6,9,10,11,12,13,14] 6 rfl (ra1 8 (og 5 ⟨rfl,(r0 9 rfl (Qga Ty.s26 (fun _=>rfl) rfl rfl hx11 (ra1 10 ?_)))⟩))))))))
   refine og 5 ⟨rfl,(r0 11 rfl (Qga Ty.s29 (fun _=>rfl) rfl rfl hx12 (ra1 12 (og 5 ⟨rfl,(ra1 13 (og 5 ⟨rfl,(rq [14] 0 (RA.done (by decide +kernel) ?_))⟩))⟩))))⟩
   cases h
   exact tD
  refine T.skip (T.seq ?_)
  obtain ⟨x15,hx15,h⟩:=bind_some h
  obtain ⟨x16,hx16,h⟩:=bind_some h
  refine T.drawn mixed (k:=11) rfl (rq [0,2,4] 8 (rL [1,8,9,10] 1 rfl (rL [3,6,7,8,9,10] 3 rfl (ra1 5 (og 5 ⟨rfl,(r0 6 rfl (Qga Ty.s26 (fun _=>rfl) rfl rfl hx15 (ra1 7 (og 5 ⟨rfl,(r0 8 rfl (Qga Ty.s25 (fun _=>rfl) rfl rfl hx16 ?_))⟩))))⟩)))))
  refine ra1 9 (og 5 ⟨rfl,(rq [10] 0 (RA.done (by decide +kernel) (T.seq (T.seq (T.region (go 1 5 (sQ (Qha Ty.s29 rfl (go 1 5 ?_)))))))))⟩)
  refine RS.nil (T.ci h rfl (fun hb_3 h=>?_) (fun hb_3 h=>?_))
  ·refine T.seq (T.region (go 3 5 (RS.nil ?_)))
   cases h
   exact tD
  refine T.skip (T.seq ?_)
  obtain ⟨x18,hx18,h⟩:=bind_some h
  refine T.region (go 1 5 (sQ (Qga Ty.s29 (fun _=>rfl) rfl rfl hx18 (go 3 5 (RS.nil ?_)))))
  cases h
  exact tD
theorem stage_Lane_c (p0:Item) (p1:Int) (r:Int × Int) (h:stage_Lane p0 p1=some r):Fn Try.prog 78 [.agg (Qaa p0),iI p1] (.tup [iI r.1,iI r.2]):=by
  unfold stage_Lane at h
  refine fnT 0 Try.func78 Try.ntmps78 ?_
  refine T.seq (T.region (go 3 0 (RS.nil (T.seq (T.join (Z:=Unit) (fun _=>mkA 20 [(1,iI p1),(2,.ptr 0 0),(11,.bool ((decide (p1<1)) || decide (p1 > 16)))]) (fun _=>[.box (Qaa p0)]) (fun _=>True) (fun _ _=>?_) (fun hK=>?_))))))
  ·refine T.ci h rfl (fun hb_2 h=>?_) (fun hb_2 h=>?_)
   ·refine T.seq (T.region (go 2 1 (RS.nil ?_)))
    cases h
    exact tD
   refine T.skip (T.seq ?_)
   obtain ⟨x4,hx4,h⟩:=bind_some h
   obtain ⟨x5,hx5,h⟩:=bind_some h
   refine T.region (go 3 1 (sQ (v_rem rfl rfl hx4 (go 3 1 (sQ (v_rem rfl rfl hx5 (go 2 1 (RS.nil ?_))))))))
   cases h
   exact tD
  refine T.region (go 3 1 ?_)
  rcases Qca (decide (p1<1)) with hb_1 | hb_1
  ·refine sN hb_1 (sN hb_1 (sQ (Qfa (v:=.bool true) rfl hb_1 rfl (RS.nil ?_))))
   exact T.sub (hK () trivial) ⟨rfl,rfl,(congrArg AV.bool (by simp only [hb_1,bz,if_true,if_false,Bool.false_eq_true])).symm,trivial⟩
  refine yg 1 hb_1 (yg 1 hb_1 (sQ (Qda (v:=.bool (decide (p1 > 16))) rfl hb_1 rfl (RS.nil ?_))))
  exact T.sub (hK () trivial) ⟨rfl,rfl,(congrArg AV.bool (by simp only [hb_1,bz,if_true,if_false,Bool.false_eq_true])).symm,trivial⟩
theorem move_outs_c (p0:Node) (p1:Item) (r:List Int) (h:move_outs p0 p1=some r):Fn Try.prog 68 [.agg (Jda p0),.agg (Qaa p1)] (sL encI r):=by
  unfold move_outs at h
  refine fnT 0 Try.func68 Try.ntmps68 ?_
  refine T.seq (T.region (go 3 0 (RS.nil (T.seq (T.seq (T.region (go 3 2 (RS.nil (T.ci h rfl (fun hb_1 h=>?_) (fun hb_1 h=>?_))))))))))
  ·refine T.seq (T.region (go 3 2 (RS.nil ?_)))
   cases h
   exact tD
  refine T.skip (T.seq ?_)
  obtain ⟨x2,hx2,h⟩:=bind_some h
  refine T.region (go 3 2 (sQ (Qha Ty.s26 rfl (sO (cF (stage_Lane_c p1 ((p0.Out).length:Int) x2 hx2) ⟨rfl,(go 5 2 (RS.nil (T.seq ?_)))⟩)))))
  obtain ⟨x4,hx4,h⟩:=bind_some h
  refine T.region (go 5 2 (sO (o_slice_sl Ty.s26 (fun _=>rfl) rfl rfl rfl hx4 (go 1 2 (RS.nil ?_)))))
  cases h
  exact tD
theorem move_can_1_xbf12_c (p0:Int) (p1:List Int) (p2:List (List Item)) (p3:List Memory) (p4:List Choice) (p5:List Item) (p6:List Node) (p7:Int) (p8:Int) (r:Bool) (h:Qvb p0 p1 p2 p3 p4 p5 p6 p7 p8=some r):FnX Try.prog 76 [iI p0,.ptr 0 0,.ptr 1 0] [.box [sL encI p1,sL (encL Qaa) p2,sL Qba p3,sL Qea p4,sL Qaa p5],.box [sL Jda p6,iI p7,iI p8]] (.bool r) [.box [sL encI p1,sL (encL Qaa) p2,sL Qba p3,sL Qea p4,sL Qaa p5],.box [sL Jda p6,iI p7,iI p8]]:=by
  unfold Qvb at h
  refine fnT 2 Try.func76 Try.ntmps76 ?_
  refine T.seq (T.region (go 1 2 (RS.nil (T.seq ?_))))
  obtain ⟨x2,hx2,h⟩:=bind_some h
  refine T.drawn mixed (k:=10) rfl (rq [0,2,6] 7 (rL [1,3,4,5,8,9] 1 rfl (r0 3 rfl (Qga Ty.s25 (fun _=>rfl) rfl rfl hx2 (rL [4,5,8,9] 4 rfl (r0 5 rfl (Qha Ty.s29 rfl (ra1 7 (og 2 ⟨rfl,(rq [8,9] 0 (RA.done (by decide +kernel) ?_))⟩)))))))))
  cases h
  exact tN [0,1]
theorem slices_IndexFunc_int_x9c8e_c (p0:List Int) (p1:List Int) (p2:List (List Item)) (p3:List Memory) (p4:List Choice) (p5:List Item) (p6:List Node) (p7:Int) (p8:Int) (r:Int) (h:Z0a p0 p1 p2 p3 p4 p5 p6 p7 p8=some r):FnX Try.prog 86 [sL encI p0,.func 76 [.ptr 0 0,.ptr 1 0]] [.box [sL encI p1,sL (encL Qaa) p2,sL Qba p3,sL Qea p4,sL Qaa p5],.box [sL Jda p6,iI p7,iI p8]] (iI r) [.box [sL encI p1,sL (encL Qaa) p2,sL Qba p3,sL Qea p4,sL Qaa p5],.box [sL Jda p6,iI p7,iI p8]]:=by
  unfold Z0a at h
  refine fnT 2 Try.func86 Try.ntmps86 ?_
  refine T.seq (T.region (go 1 2 (RS.nil (T.seq (T.seq (T.region (go 1 2 (sQ (Qha Ty.s26 rfl (go 1 2 ?_))))))))))
  refine RS.nil (T.block (T.iter (fun ss_5:Int=>mkA 19 [(0,sL encI p0),(1,.func 76 [.ptr 0 0,.ptr 1 0]),(7,iI ((p0).length:Int)),(8,iI ss_5)]) (fun ss_5=>[.box [sL encI p1,sL (encL Qaa) p2,sL Qba p3,sL Qea p4,sL Qaa p5],.box [sL Jda p6,iI p7,iI p8]]) h (wk [] [0,1] 2 rfl) (fun ss_5 v_6 h hv_6=>?_)))
  revert hv_6 h;revert ss_5;intro s1 h hv_6
  replace h:J5a p0 p1 p2 p3 p4 p5 p6 p7 p8 s1=some v_6:=h
  try dsimp only
  unfold J5a at h
  refine T.seq (T.region (go 1 2 (RS.nil (T.seq (T.ci h rfl (fun hb_7 h=>?_) (fun hb_7 h=>?_))))))
  ·refine T.skip (T.seq (T.block (T.seq (T.region (go 2 2 (RS.nil (T.seq ?_)))))))
   obtain ⟨x4,hx4,h⟩:=bind_some h
   obtain ⟨x5,hx5,h⟩:=bind_some h
   refine T.region (go 3 2 (sQ (Qga Ty.s26 (fun _=>rfl) rfl rfl hx4 (go 1 2 (sO (Q5a (ac:=[iI x4,.ptr 0 0,.ptr 1 0]) (as0:=[iI x4,.ptr 0 0,.ptr 1 0]) (aw0:=[.box [sL encI p1,sL (encL Qaa) p2,sL Qba p3,sL Qea p4,sL Qaa p5],.box [sL Jda p6,iI p7,iI p8]]) (aw1:=[.box [sL encI p1,sL (encL Qaa) p2,sL Qba p3,sL Qea p4,sL Qaa p5],.box [sL Jda p6,iI p7,iI p8]]) (aw2:=[.box [sL encI p1,sL (encL Qaa) p2,sL Qba p3,sL Qea p4,sL Qaa p5],.box [sL Jda p6,iI p7,iI p8]]) (v:=.bool x5) (v':=.bool x5) (n0:=2) (n1:=2) [0,1] rfl rfl rfl rfl (by decide) (Jea (cs:=[sL encI p1,sL (encL Qaa) p2,sL Qba p3,sL Qea p4,sL Qaa p5]) (ds:=[sL encI p1,sL (encL Qaa) p2,sL Qba p3,sL Qea p4,sL Qaa p5]) rfl ⟨rn_s rfl,rn_s rfl,rn_s rfl,rn_s rfl,rn_s rfl,trivial⟩ (Jea (cs:=[sL Jda p6,iI p7,iI p8]) (ds:=[sL Jda p6,iI p7,iI p8]) rfl ⟨rn_s rfl,Qqa rfl,Qqa rfl,trivial⟩ (Qna))) ⟨Qqa rfl,Qma rfl,Qma rfl,trivial⟩ (move_can_1_xbf12_c x4 p1 p2 p3 p4 p5 p6 p7 p8 x5 hx5) rfl (Qia (Vfa _)) ⟨.inl ⟨0,_,by decide,rfl,Jaa (cs:=[sL encI p1,sL (encL Qaa) p2,sL Qba p3,sL Qea p4,sL Qaa p5]) (ds:=[sL encI p1,sL (encL Qaa) p2,sL Qba p3,sL Qea p4,sL Qaa p5]) ⟨Qia (Qwa encI_p _),Qia (Qwa (encL_p Jba) _),Qia (Qwa J7a _),Qia (Qwa J6a _),Qia (Qwa Jba _),trivial⟩⟩,.inl ⟨1,_,by decide,rfl,Jaa (cs:=[sL Jda p6,iI p7,iI p8]) (ds:=[sL Jda p6,iI p7,iI p8]) ⟨Qia (Qwa encNode_p _),Qia (Qsa _ _),Qia (Qsa _ _),trivial⟩⟩,trivial⟩ (RS.nil (T.ci h rfl (fun hb_8 h=>?_) (fun hb_8 h=>?_)))))))))
   ·refine T.seq (T.region (go 2 2 (RS.nil ?_)))
    obtain ⟨w_9,h,hw_9⟩:=Qua h
    replace h:=h.trans (congrArg some (hv_6 _ hw_9))
    cases h
    exact tN [0,1]
   refine T.skip (T.region (go 2 2 (RS.nil ?_)))
   exact ⟨IntKind.i64.wrap (s1+1),(Option.some.inj h).symm,wk [] [0,1] 2 rfl⟩
  refine T.exit ?_
  obtain ⟨w_10,h,hw_10⟩:=Qua h
  replace h:=h.trans (congrArg some (hv_6 _ hw_10))
  refine T.seq (T.region (go 1 2 (RS.nil ?_)))
  cases h
  exact tN [0,1]
end Go.Proofs.Ytchmpaaofmihcaa
