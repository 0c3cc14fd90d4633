/-
  Part 6 of the proof of saveGetLaw.proved: the code computes these functions, and the law holds of them, with no condition beyond the statement's own; put together by a program of ours (wip/decl.py) out of texts of ours.
-/
import Derived.Test.YtchmpaaofmihcaaGreatZSaveGet5
namespace Go.Proofs.YtchmpaaofmihcaaGreat
set_option linter.unusedVariables false
set_option linter.unusedSimpArgs false
def bval (l:List Bool):Nat:=l.foldl (fun n b=>2*n+b.toNat) 0
theorem bval_go (l:List Bool):∀ n:Nat,l.foldl (fun n b=>2*n+b.toNat) n=2 ^ l.length*n+bval l:=by
  induction l with
  | nil=>intro n;simp [bval]
  | cons b l ih =>
    intro n
    unfold bval
    rw [List.foldl_cons,List.foldl_cons,ih,ih (2*0+b.toNat),List.length_cons,Nat.pow_succ]
    simp only [Nat.mul_zero,Nat.zero_add,Nat.mul_add]
    rw [Nat.mul_assoc];omega
theorem bval_cons (b:Bool) (l:List Bool):bval (b::l)=2 ^ l.length*b.toNat+bval l:=by
  show (b::l).foldl _ 0=_
  rw [List.foldl_cons,bval_go];simp
theorem bval_snoc (l:List Bool) (b:Bool):bval (l++[b])=2*bval l+b.toNat:=by
  unfold bval;rw [List.foldl_append];rfl
theorem bval_lt (l:List Bool):bval l<2 ^ l.length:=by
  induction l with
  | nil=>simp [bval]
  | cons b l ih=>rw [bval_cons,List.length_cons,Nat.pow_succ];cases b<;>simp<;>omega
def onto:List Bool→List Bool→List Bool
  | [],ms=>ms
  | _::_,[]=>[]
  | a::as₀,m::ms=>(a ^^ m)::onto as₀ ms
theorem onto_len (as₀:List Bool):∀ ms,(onto as₀ ms).length=ms.length:=by
  induction as₀ with
  | nil=>intro ms;rfl
  | cons a as₀ ih=>intro ms;cases ms<;>simp [onto,ih]
theorem xor_two (a b:Nat) (x y:Bool):(2*a+x.toNat) ^^^ (2*b+y.toNat)=2*(a ^^^ b)+(x ^^ y).toNat:=by
  apply Nat.eq_of_testBit_eq
  intro i
  have h1:∀ (n:Nat) (z:Bool) (i:Nat),(2*n+z.toNat).testBit i=if i=0 then z else n.testBit (i - 1):=by
    intro n z i
    cases i with
    | zero=>cases z<;>simp [Nat.testBit_zero]<;>omega
    | succ i =>
      rw [Nat.testBit_succ,if_neg (by omega)]
      have:(2*n+z.toNat) / 2=n:=by cases z<;>simp<;>omega
      rw [this];rfl
  rw [Nat.testBit_xor,h1,h1,h1]
  split<;>simp [Nat.testBit_xor]
theorem xor_hi_lo (k a b r s:Nat) (hr:r<2 ^ k) (hs:s<2 ^ k):(2 ^ k*a+r) ^^^ (2 ^ k*b+s)=2 ^ k*(a ^^^ b)+(r ^^^ s):=by
  apply Nat.eq_of_testBit_eq
  intro i
  have hx:r ^^^ s<2 ^ k:=Nat.xor_lt_two_pow hr hs
  rw [Nat.testBit_xor,Nat.testBit_two_pow_mul_add a hr,Nat.testBit_two_pow_mul_add b hs,Nat.testBit_two_pow_mul_add _ hx]
  split<;>simp [Nat.testBit_xor]
theorem bval_onto (as₀:List Bool):∀ ms:List Bool,as₀.length=ms.length→bval (onto as₀ ms)=bval as₀ ^^^ bval ms:=by
  induction as₀ with
  | nil=>intro ms h;cases ms;simp [onto,bval];simp at h
  | cons a as₀ ih =>
    intro ms h
    cases ms with
    | nil=>simp at h
    | cons m ms =>
      have h':as₀.length=ms.length:=by simpa using h
      show bval ((a ^^ m)::onto as₀ ms)=_
      rw [bval_cons,bval_cons,bval_cons,onto_len,h',ih ms h']
      have h1:=bval_lt as₀
      have h2:=bval_lt ms
      rw [h'] at h1
      rw [xor_hi_lo _ _ _ _ _ h1 h2]
      cases a<;>cases m<;>rfl
theorem onto_onto (as₀ bs ms:List Bool) (h:as₀.length=bs.length):onto as₀ (onto bs ms)=onto (onto as₀ bs) ms:=by
  induction as₀ generalizing bs ms with
  | nil=>cases bs;rfl;simp at h
  | cons a as₀ ih =>
    cases bs with
    | nil=>simp at h
    | cons b bs =>
      cases ms with
      | nil=>rfl
      | cons m ms=>simp [onto,ih bs ms (by simpa using h)]
def ptail:List Bool:=[false,false,false,true,false,false,false,false,false,false,true,false,false,false,false,true]
def dstep:List Bool→List Bool
  | []=>[]
  | b::r=>if b then onto ptail r else r
def rstep (D:List Bool) (m:Bool):List Bool :=
  match D with
  | []=>[]
  | d::D'=>if d ^^ m then onto ptail (D'++[false]) else D'++[false]
theorem onto_pad:∀ (as₀ ms:List Bool),onto (as₀++[false]) ms=onto as₀ ms
  | [],[]=>rfl
  | [],m::ms=>by simp [onto]
  | a::as₀,[]=>rfl
  | a::as₀,m::ms=>by
    show (a ^^ m)::onto (as₀++[false]) ms=(a ^^ m)::onto as₀ ms
    rw [onto_pad as₀ ms]
theorem dstep_onto (d m:Bool) (D M:List Bool) (hD:D.length=15):dstep (onto (d::D) (m::M))=onto (rstep (d::D) m) M:=by
  show (if (d ^^ m)=true then onto ptail (onto D M) else onto D M)=onto (if (d ^^ m)=true then onto ptail (D++[false]) else D++[false]) M
  by_cases h:(d ^^ m)=true
  · rw [if_pos h,if_pos h,← onto_onto _ _ _ (by simp [ptail,hD]),onto_pad]
  · rw [if_neg h,if_neg h,onto_pad]
theorem rstep_len (D:List Bool) (m:Bool) (h:D.length=16):(rstep D m).length=16:=by
  cases D with
  | nil=>simp at h
  | cons d D =>
    have hD:D.length=15:=by simpa using h
    show (if (d ^^ m)=true then onto ptail (D++[false]) else D++[false]).length=16
    split
    · rw [onto_len];simp [hD]
    · simp [hD]
theorem rstep_val (D:List Bool) (m:Bool) (h:D.length=16):bval (rstep D m)=crc1 (bval D ^^^ (32768*m.toNat)):=by
  cases D with
  | nil=>simp at h
  | cons d D =>
    have hD:D.length=15:=by simpa using h
    have hv:=bval_lt D
    rw [hD] at hv
    have e1:bval (d::D) ^^^ (32768*m.toNat)=32768*(d ^^ m).toNat+bval D:=by
      rw [bval_cons,hD]
      have:=xor_hi_lo 15 d.toNat m.toNat (bval D) 0 hv (by omega)
      simp only [Nat.add_zero,Nat.xor_zero] at this
      rw [show (32768:Nat)=2 ^ 15 from rfl,this]
      cases d<;>cases m<;>rfl
    rw [e1]
    have e2:bval (D++[false])=2*bval D:=by rw [bval_snoc];rfl
    show bval (if (d ^^ m)=true then onto ptail (D++[false]) else D++[false])=_
    by_cases hc:(d ^^ m)=true
    · rw [if_pos hc,bval_onto _ _ (by simp [ptail,hD]),e2,hc]
      have hp:bval ptail=4129:=by decide
      have hq:(32768*Bool.toNat true+bval D)*2 - 65536=2*bval D:=by
        have gen:∀ z:Nat,(32768*1+z)*2 - 65536=2*z:=by intro z;omega
        exact gen _
      rw [hp,crc1_hi (by simp) (by simp;omega),hq,Nat.xor_comm]
    · rw [if_neg hc,e2,(Bool.not_eq_true _).mp hc,crc1_lo (by simp;omega)]
      simp;omega
def bitsN:Nat→Nat→List Bool
  | 0,_=>[]
  | k+1,n=>n.testBit k::bitsN k n
def bitsB (b:UInt8):List Bool:=bitsN 8 b.toNat
theorem crc1_lin (x y:Nat) (hx:x<65536) (hy:y<32768):crc1 (x ^^^ y)=crc1 x ^^^ (2*y):=by
  have hxl:x % 32768<2 ^ 15:=Nat.mod_lt _ (by omega)
  have e:x ^^^ y=32768*(x / 32768)+(x % 32768 ^^^ y):=by
    have:=xor_hi_lo 15 (x / 32768) 0 (x % 32768) y hxl hy
    simp only [Nat.mul_zero,Nat.zero_add,Nat.xor_zero,Nat.reducePow] at this
    rw [← this,Nat.div_add_mod]
  have hz:x % 32768 ^^^ y<2 ^ 15:=Nat.xor_lt_two_pow hxl hy
  have d2:∀ a b:Nat,(2*a) ^^^ (2*b)=2*(a ^^^ b):=fun a b=>by simpa using xor_two a b false false
  by_cases h:x<32768
  · rw [crc1_lo h,crc1_lo (by omega),Nat.mul_comm _ 2,Nat.mul_comm x 2,d2]
  · have hd:x / 32768=1:=by omega
    rw [hd] at e
    rw [crc1_hi (by omega) hx,crc1_hi (by omega) (by omega)]
    have e3:(x ^^^ y)*2 - 65536=(x*2 - 65536) ^^^ (2*y):=by
      have gen:∀ q z:Nat,q=32768*1+z→q*2 - 65536=2*z:=by intro q z h;omega
      have h1:(x ^^^ y)*2 - 65536=2*(x % 32768 ^^^ y):=gen _ _ e
      have h2:x*2 - 65536=2*(x % 32768):=gen _ _ (by have:=Nat.div_add_mod x 32768;rw [hd] at this;exact this.symm)
      rw [h1,h2,d2]
    rw [e3,Nat.xor_assoc,Nat.xor_comm (2*y),← Nat.xor_assoc]
theorem feed:∀ (k:Nat) (D:List Bool) (r:Nat),D.length=16→k≤8→r<2 ^ k→bval ((bitsN k r).foldl rstep D)=crcN k (bval D ^^^ (r*2 ^ (16 - k)))
  | 0,D,r,h,_,hr=>by
    have:r=0:=by simpa using hr
    subst this;simp [bitsN,crcN]
  | k + 1,D,r,h,hk,hr=>by
    have hD:=bval_lt D
    rw [h] at hD
    have hm:r % 2 ^ k<2 ^ k:=Nat.mod_lt _ (Nat.two_pow_pos k)
    have hsp:r=2 ^ k*(r.testBit k).toNat+r % 2 ^ k:=by
      have h1:=Nat.div_add_mod r (2 ^ k)
      have h2:r / 2 ^ k<2:=Nat.div_lt_of_lt_mul (by rw [Nat.pow_succ] at hr;omega)
      have h3:(r.testBit k).toNat=r / 2 ^ k:=by
        rw [Nat.testBit_eq_decide_div_mod_eq]
        rcases Nat.lt_or_ge (r / 2 ^ k) 1 with h4 | h4
        · have:r / 2 ^ k=0:=Nat.lt_one_iff.1 h4
          rw [this];rfl
        · have:r / 2 ^ k=1:=Nat.le_antisymm (Nat.lt_succ_iff.1 h2) h4
          rw [this];rfl
      rw [h3];omega
    have hb:∀ j,j≤k→bitsN j r=bitsN j (r % 2 ^ k):=by
      intro j
      induction j with
      | zero=>intro _;rfl
      | succ j ih =>
        intro hj
        simp only [bitsN]
        rw [ih (by omega),Nat.testBit_mod_two_pow]
        simp;omega
    show bval ((bitsN k r).foldl rstep (rstep D (r.testBit k)))=_
    rw [hb k (Nat.le_refl _),feed k _ (r % 2 ^ k) (rstep_len D _ h) (by omega) hm,rstep_val D _ h]
    have hpw:(2:Nat) ^ k*2 ^ (16 - (k+1))=32768:=by rw [← Nat.pow_add,show k+(16 - (k+1))=15 by omega]
    have hpw2:(2:Nat) ^ (16 - k)=2*2 ^ (16 - (k+1)):=by rw [show 16 - k=(16 - (k+1))+1 by omega,Nat.pow_succ];omega
    have hlow:r % 2 ^ k*2 ^ (16 - (k+1))<32768:=by rw [← hpw];exact Nat.mul_lt_mul_of_pos_right hm (Nat.two_pow_pos _)
    have hx:bval D ^^^ (32768*(r.testBit k).toNat)<65536:=Nat.xor_lt_two_pow (n:=16) hD (by cases r.testBit k<;>simp)
    have e1:r*2 ^ (16 - (k+1))=32768*(r.testBit k).toNat ^^^ (r % 2 ^ k*2 ^ (16 - (k+1))):=by
      have:=xor_hi_lo 15 (r.testBit k).toNat 0 0 (r % 2 ^ k*2 ^ (16 - (k+1))) (by omega) hlow
      simp only [Nat.mul_zero,Nat.zero_add,Nat.xor_zero,Nat.add_zero,Nat.zero_xor] at this
      rw [show (32768:Nat)=2 ^ 15 from rfl,this,← (show 2 ^ k*2 ^ (16 - (k+1))=2 ^ 15 from hpw)]
      conv=>lhs;rw [hsp]
      rw [Nat.add_mul,Nat.mul_assoc,Nat.mul_comm (r.testBit k).toNat,← Nat.mul_assoc]
    have e2:∀ (k m:Nat),crcN (k+1) m=crcN k (crc1 m):=fun k m=>rfl
    rw [e2,e1,← Nat.xor_assoc,crc1_lin _ _ hx hlow]
    congr 2
    rw [hpw2,Nat.mul_left_comm]
theorem feedB (D:List Bool) (b:UInt8) (h:D.length=16):bval ((bitsB b).foldl rstep D)=crcB (bval D) b:=by
  unfold bitsB crcB
  rw [feed 8 D b.toNat h (by omega) b.toNat_lt]
theorem foldr_len (l:List Bool):∀ D:List Bool,D.length=16→(l.foldl rstep D).length=16:=by
  induction l with
  | nil=>intro D h;exact h
  | cons b l ih=>intro D h;exact ih _ (rstep_len D b h)
theorem feedL (bs:List UInt8):∀ (D:List Bool),D.length=16→bval ((bs.flatMap bitsB).foldl rstep D)=bs.foldl crcB (bval D):=by
  induction bs with
  | nil=>intro D h;rfl
  | cons b bs ih =>
    intro D h
    rw [List.flatMap_cons,List.foldl_append,List.foldl_cons,ih _ (foldr_len _ _ h),feedB D b h]
theorem divide:∀ (M:List Bool) (D:List Bool),D.length=16→(Nat.repeat dstep M.length (onto D (M++List.replicate 16 false)))=M.foldl rstep D
  | [],D,h=>by
    show onto D (List.replicate 16 false)=D
    have:∀ (D:List Bool),onto D (List.replicate D.length false)=D:=by
      intro D
      induction D with
      | nil=>rfl
      | cons d D ih=>simp [List.replicate_succ,onto,ih]
    rw [← h];exact this D
  | m :: M,D,h=>by
    cases D with
    | nil=>simp at h
    | cons d D =>
      have hc:∀ (n:Nat) (x:List Bool),Nat.repeat dstep (n+1) x=Nat.repeat dstep n (dstep x):=by
        intro n
        induction n with
        | zero=>intro x;rfl
        | succ n ih=>intro x;show dstep (Nat.repeat dstep (n+1) x)=dstep (Nat.repeat dstep n (dstep x));rw [ih]
      rw [List.length_cons,hc]
      show Nat.repeat dstep M.length (dstep (onto (d::D) (m::(M++List.replicate 16 false))))=M.foldl rstep (rstep (d::D) m)
      rw [dstep_onto d m D _ (by simpa using h)]
      exact divide M _ (rstep_len _ m h)
theorem ones_val:bval (List.replicate 16 true)=65535:=by decide
theorem sum_divide (bs:List UInt8):bval (Nat.repeat dstep (bs.flatMap bitsB).length (onto (List.replicate 16 true) (bs.flatMap bitsB++List.replicate 16 false)))=crc bs:=by
  rw [divide _ _ (by simp),feedL bs _ (by simp),ones_val];rfl
end Go.Proofs.YtchmpaaofmihcaaGreat
namespace Go.Proofs.YtchmpaaofmihcaaGreat
set_option linter.unusedVariables false
set_option linter.unusedSimpArgs false
def bI (b:Bool):Int:=if b then 1 else 0
theorem bI_byte:∀ (x:Fin 256) (k:Fin 8),(shr .u8 (x.val:Int) (k.val:Int)).map (fun y=>ibits .and .u8 y 1)=some (bI (x.val.testBit k.val)):=by decide +kernel
theorem bI_xor (a b:Bool):ibits .xor .u8 (bI a) (bI b)=bI (a ^^ b):=by cases a<;>cases b<;>decide
theorem bI_at (pre:List Bool) (b:Bool) (r:List Bool):((pre++b::r).map bI)[pre.length]?=some (bI b):=by simp
theorem bI_set (pre:List Bool) (b c:Bool) (r:List Bool):((pre++b::r).map bI).set pre.length (bI c)=(pre++c::r).map bI:=by simp
theorem bI_ix (pre:List Bool) (b:Bool) (r:List Bool):ixN ((pre++b::r).map bI) (pre.length:Int)=some pre.length:=ixN_at (by simp)
theorem sumof_l1 (p:List UInt8) (i:Nat) (x:UInt8) (hx:idx p (i:Int)=some x) (hi:i≤1099511627776):∀ (k:Nat) (acc:List Int),k≤8→acc.length+k≤1099511627776 →
    iter (fun ss:Int × List Int=>Z5a p (i:Int) ss.1 ss.2) ((k:Int) - 1,acc)=some (.inl (((i+1:Nat):Int),acc++(bitsN k x.toNat).map bI))
  | 0,acc,_,_=>by
    have e:Z5a p (i:Int) (((0:Nat):Int) - 1) acc=some (.inr (.inl (((i+1:Nat):Int),acc))):=by
      unfold Z5a
      rw [if_neg (by decide),Vwa (by omega)];rfl
    rw [Q4a];simp only [e];simp [bitsN]
  | k + 1,acc,hk,ha=>by
    have hb:=bI_byte ⟨x.toNat,x.toNat_lt⟩ ⟨k,by omega⟩
    simp only at hb
    have e:Z5a p (i:Int) (((k+1:Nat):Int) - 1) acc=some (.inl ((k:Int) - 1,acc++[bI (x.toNat.testBit k)])):=by
      unfold Z5a
      have hk1:((k+1:Nat):Int) - 1=(k:Int):=by omega
      rw [hk1,if_pos (by simp),hx]
      simp only [Option.bind_some]
      cases hs:shr .u8 (x.toNat:Int) (k:Int) with
      | none=>rw [hs] at hb;simp at hb
      | some y =>
        rw [hs] at hb
        simp only [Option.map_some,Option.some.injEq] at hb
        simp only [Option.bind_some]
        rw [hb,app_ok (by simp;omega),Jqa (by omega) (by omega)]
        rfl
    rw [Q4a];simp only [e]
    rw [sumof_l1 p i x hx hi k _ (by omega) (by simp;omega)]
    simp [bitsN]
theorem sumof_l3:∀ (suf pre:List Bool),(pre++suf).length=16→iter (fun ss:Int × Int=>Z2a ((pre++suf).map bI) ss.1 ss.2) ((bval pre:Int),(pre.length:Int))=some ((bval (pre++suf):Nat):Int)
  | [],pre,h=>by
    have e:Z2a ((pre++[]).map bI) (bval pre:Int) (pre.length:Int)=some (.inr (bval pre:Int)):=by
      unfold Z2a
      rw [if_neg (by simp)];rfl
    rw [Q4a];simp only [e];simp
  | b :: suf,pre,h=>by
    have hl:pre.length<16:=by simp at h;omega
    have hv:=bval_lt pre
    have hv2:bval pre<65536:=Nat.lt_of_lt_of_le hv (by
      have:=Nat.pow_le_pow_right (n:=2) (by omega) (by omega:pre.length≤16)
      simpa using this)
    have e:Z2a ((pre++b::suf).map bI) (bval pre:Int) (pre.length:Int)=some (.inl ((bval (pre++[b]):Int),((pre++[b]).length:Int))):=by
      unfold Z2a
      rw [if_pos (by simp;omega),Z7a (bI_at pre b suf)]
      simp only [Option.bind_some]
      rw [Vwa (by omega),bval_snoc]
      have hbI:bI b=((b.toNat:Nat):Int):=by cases b<;>rfl
      have hbn:b.toNat≤1:=by cases b<;>simp
      rw [hbI,Jqa (n:=2*(bval pre:Int)) (by omega) (by omega),Jqa (n:=((b.toNat:Nat):Int)) (by omega) (by omega),Jqa (by omega) (by omega)]
      simp
    rw [Q4a];simp only [e]
    have:=sumof_l3 suf (pre++[b]) (by simpa using h)
    simpa using this
def polyB:List Bool:=true::ptail
theorem poly_eq:([1,0,0,0,1,0,0,0,0,0,0,1,0,0,0,0,1]:List Int)=polyB.map bI:=by decide
theorem sumof_l2 (i:Nat) (hi:i≤1099511627776):∀ (ps done:List Bool) (pre cur:List Bool),polyB=done++ps→pre.length=i+done.length→ps.length≤cur.length →
    iter (fun ss:Int × List Int=>Z0a (i:Int) ss.1 ss.2) ((done.length:Int),(pre++cur).map bI)=some (.inl (((i+1:Nat):Int),(pre++onto ps cur).map bI))
  | [], done,pre,cur,hd,hp,hc=>by
    have e:Z0a (i:Int) (done.length:Int) ((pre++cur).map bI)=some (.inr (.inl (((i+1:Nat):Int),(pre++cur).map bI))):=by
      have hl:done.length=17:=by
        have:=congrArg List.length hd
        simp [polyB,ptail] at this
        omega
      unfold Z0a
      rw [if_neg (by simp;omega),Vwa (by omega)];rfl
    rw [Q4a];simp only [e];rfl
  | p::ps,done,pre,[],hd,hp,hc=>by simp at hc
  | p :: ps,done,pre,c::cur,hd,hp,hc=>by
    have hl:done.length+ps.length+1=17:=by
      have:=congrArg List.length hd
      simp [polyB,ptail] at this
      omega
    have e:Z0a (i:Int) (done.length:Int) ((pre++c::cur).map bI)=some (.inl (((done++[p]).length:Int),((pre++[c ^^ p])++cur).map bI)):=by
      unfold Z0a
      have hxn:ixN ([1,0,0,0,1,0,0,0,0,0,0,1,0,0,0,0,1]:List Nat) (done.length:Int)=some done.length:=ixN_at (by simp;omega)
      rw [if_pos (by simp;omega),hxn,Jqa (n:=(i:Int)+(done.length:Int)) (by omega) (by omega)]
      simp only [Option.bind_some]
      rw [poly_eq,hd,bI_at]
      simp only [Option.bind_some]
      have hix:(i:Int)+(done.length:Int)=(pre.length:Int):=by omega
      rw [hix,bI_ix]
      simp only [Option.bind_some]
      rw [bI_at]
      simp only [Option.bind_some]
      rw [bI_xor,bI_set,Vwa (by omega)]
      simp
    rw [Q4a];simp only [e]
    rw [sumof_l2 i hi ps (done++[p]) (pre++[c ^^ p]) cur (by simp [hd]) (by simp;omega) (by simpa using hc)]
    simp [onto,Bool.xor_comm]
theorem repeat_in (n:Nat) (x:List Bool):Nat.repeat dstep (n+1) x=Nat.repeat dstep n (dstep x):=by
  induction n generalizing x with
  | zero=>rfl
  | succ n ih=>show dstep (Nat.repeat dstep (n+1) x)=dstep (Nat.repeat dstep n (dstep x));rw [ih]
theorem sumof_l4:∀ (n:Nat) (pre cur:List Bool),cur.length=16+n→pre.length+n≤1099511627776 →
    iter (fun ss:Int × List Int=>Jsa ss.1 ss.2) ((pre.length:Int),(pre++cur).map bI)=some ((bval (Nat.repeat dstep n cur):Nat):Int)
  | 0,pre,cur,h,hb=>by
    have e:Jsa (pre.length:Int) ((pre++cur).map bI)=some (.inr ((bval cur:Nat):Int)):=by
      unfold Jsa
      rw [Jqa (n:=(pre.length:Int)+16) (by omega) (by omega),if_neg (by simp;omega)]
      have hl:(((pre++cur).map bI).length:Int) - 16=(pre.length:Int):=by simp;omega
      rw [hl,Jqa (by omega) (by omega),sub_end (by simp)]
      simp only [Option.bind_some]
      have hd:((pre++cur).map bI).drop pre.length=([]++cur).map bI:=by simp
      rw [hd]
      have:=sumof_l3 cur [] (by simpa using h)
      have h0:((bval []:Nat):Int)=0:=rfl
      have h1:(([]:List Bool).length:Int)=0:=rfl
      rw [h0,h1] at this
      rw [this];rfl
    rw [Q4a];simp only [e];rfl
  | n+1,pre,[],h,hb=>by simp at h
  | n + 1,pre,b::r,h,hb=>by
    have hr:r.length=16+n:=by simp at h;omega
    have w16:IntKind.i64.wrap ((pre.length:Int)+16)=(pre.length:Int)+16:=Jqa (by omega) (by omega)
    rw [repeat_in]
    cases b with
    | false =>
      have e:Jsa (pre.length:Int) ((pre++false::r).map bI)=some (.inl (((pre++[false]).length:Int),((pre++[false])++r).map bI)):=by
        unfold Jsa
        rw [w16,if_pos (by simp;omega),bI_ix]
        simp only [Option.bind_some]
        rw [bI_at]
        simp only [Option.bind_some]
        rw [if_neg (by decide),Vwa (by omega)]
        simp
      rw [Q4a];simp only [e]
      exact sumof_l4 n (pre++[false]) r hr (by simp;omega)
    | true =>
      have hl2:=sumof_l2 pre.length (by omega) polyB [] pre (true::r) rfl rfl (by simp [polyB,ptail,hr])
      have e:Jsa (pre.length:Int) ((pre++true::r).map bI)=some (.inl (((pre++[false]).length:Int),((pre++[false])++onto ptail r).map bI)):=by
        unfold Jsa
        rw [w16,if_pos (by simp;omega),bI_ix]
        simp only [Option.bind_some]
        rw [bI_at]
        simp only [Option.bind_some]
        rw [if_pos (by decide)]
        refine Eq.trans hl2 ?_
        simp [polyB,onto]
      rw [Q4a];simp only [e]
      exact sumof_l4 n (pre++[false]) (onto ptail r) (by rw [onto_len];exact hr) (by simp;omega)
theorem sumof_l5:∀ (n:Nat) (pre cur:List Bool),pre.length+n=16→n≤cur.length→pre.length+cur.length≤1099511627776 →
    iter (fun ss:Int × List Int=>Z1a ss.1 ss.2) ((pre.length:Int),(pre++cur).map bI)=iter (fun ss:Int × List Int=>Jsa ss.1 ss.2) (0,(pre++onto (List.replicate n true) cur).map bI)
  | 0,pre,cur,h,_,_=>by
    have e:Z1a (pre.length:Int) ((pre++cur).map bI)=(iter (fun ss:Int × List Int=>Jsa ss.1 ss.2) (0,(pre++cur).map bI)).map .inr:=by
      unfold Z1a
      rw [if_neg (by simp;omega)]
    rw [Q4a];simp only [e]
    show _=iter _ (0,(pre++cur).map bI)
    cases iter (fun ss:Int × List Int=>Jsa ss.1 ss.2) (0,(pre++cur).map bI)<;>rfl
  | n+1,pre,[],h,hn,_=>by simp at hn
  | n + 1,pre,c::cur,h,hn,hb=>by
    have e:Z1a (pre.length:Int) ((pre++c::cur).map bI)=some (.inl (((pre++[c ^^ true]).length:Int),((pre++[c ^^ true])++cur).map bI)):=by
      unfold Z1a
      rw [if_pos (by simp;omega),bI_ix]
      simp only [Option.bind_some]
      rw [bI_at]
      simp only [Option.bind_some]
      have:ibits .xor .u8 (bI c) 1=bI (c ^^ true):=bI_xor c true
      rw [this,bI_set,Vwa (by omega)]
      simp
    rw [Q4a];simp only [e]
    rw [sumof_l5 n (pre++[c ^^ true]) cur (by simp;omega) (by simpa using hn) (by simp at hb ⊢;omega)]
    simp [List.replicate_succ,onto]
theorem SumOf_eq (p:List UInt8) (hp:p.length≤1073741824):Jcb p=some ((crc p:Nat):Int):=by
  have hbl:∀ x:UInt8,(bitsB x).length=8:=fun x=>by simp [bitsB,bitsN]
  have hfl:∀ l:List UInt8,(l.flatMap bitsB).length=8*l.length:=by
    intro l
    induction l with
    | nil=>rfl
    | cons x l ih=>rw [List.flatMap_cons,List.length_append,hbl,ih,List.length_cons];omega
  have key:∀ (n k:Nat),k+n=p.length→iter (fun ss:Int × List Int=>Z3a p ss.1 ss.2) ((k:Int),((p.take k).flatMap bitsB).map bI)=some ((crc p:Nat):Int):=by
    intro n
    induction n with
    | zero =>
      intro k hk
      have hk:k=p.length:=by omega
      subst hk
      have e:Z3a p (p.length:Int) (((p.take p.length).flatMap bitsB).map bI)=some (.inr ((crc p:Nat):Int)):=by
        unfold Z3a
        rw [if_neg (by simp),List.take_length]
        have hz:appz ((p.flatMap bitsB).map bI) 16 0=some ((p.flatMap bitsB++List.replicate 16 false).map bI):=by
          unfold appz
          rw [if_pos (by simp only [List.length_map,hfl];omega),List.map_append];rfl
        rw [hz]
        simp only [Option.bind_some]
        have h5:=sumof_l5 16 [] (p.flatMap bitsB++List.replicate 16 false) rfl (by simp) (by simp only [List.length_nil,List.length_append,hfl,List.length_replicate];omega)
        have h4:=sumof_l4 (p.flatMap bitsB).length [] (onto (List.replicate 16 true) (p.flatMap bitsB++List.replicate 16 false)) (by rw [onto_len,List.length_append,List.length_replicate];omega) (by simp only [List.length_nil,hfl];omega)
        rw [sum_divide] at h4
        simp only [List.nil_append,List.length_nil,Int.natCast_zero] at h5 h4
        rw [h5,h4];rfl
      rw [Q4a];simp only [e]
    | succ n ih =>
      intro k hk
      have hlt:k<p.length:=by omega
      obtain ⟨x,hx⟩:∃ x,p[k]?=some x:=⟨_,List.getElem?_eq_getElem hlt⟩
      have h1:=sumof_l1 p k x (Z7a hx) (by omega) 8 (((p.take k).flatMap bitsB).map bI) (by omega) (by simp only [List.length_map,hfl,List.length_take];omega)
      have e:Z3a p (k:Int) (((p.take k).flatMap bitsB).map bI)=some (.inl (((k+1:Nat):Int),((p.take (k+1)).flatMap bitsB).map bI)):=by
        unfold Z3a
        rw [if_pos (by simp;omega)]
        have h7:((8:Nat):Int) - 1=7:=rfl
        rw [h7] at h1
        refine Eq.trans h1 ?_
        rw [List.take_add_one,hx]
        simp [bitsB]
      rw [Q4a];simp only [e]
      exact ih (k+1) (by omega)
  unfold Jcb
  have hm:mk0 (α:=Int) (IntKind.i64.wrap ((IntKind.i64.wrap (8*((p).length:Int)))+16))=some []:=by
    rw [Jqa (n:=8*(p.length:Int)) (by omega) (by omega),Jqa (by omega) (by omega)]
    unfold mk0;rw [if_pos (by omega)]
  rw [hm]
  simp only [Option.bind_some]
  exact key p.length 0 (by omega)
end Go.Proofs.YtchmpaaofmihcaaGreat
namespace Go.Proofs.YtchmpaaofmihcaaGreat
set_option linter.unusedVariables false
set_option linter.unusedSimpArgs false
theorem quo256 (n:Nat) (h:n<65536):quo .i64 (n:Int) 256=some ((n / 256:Nat):Int):=by
  unfold quo
  rw [if_neg (by decide)]
  have:(n:Int).tdiv 256=((n / 256:Nat):Int):=rfl
  rw [this,Jqa (by omega) (by omega)]
theorem rem256 (n:Nat):rem (n:Int) 256=some ((n % 256:Nat):Int):=by
  unfold rem
  rw [if_neg (by decide)];rfl
theorem u8_ofNat_mod (n:Nat):UInt8.ofNat (n % 256)=UInt8.ofNat n:=by
  apply UInt8.toNat_inj.1
  simp
theorem Framed_eq (b:List UInt8) (h:b.length≤1048576):Qpb b=some (frm b):=by
  unfold Qpb
  rw [str_1,cat_ok (by simp;omega)]
  simp only [Option.bind_some,List.singleton_append]
  rw [SumOf_eq _ (by simp;omega)]
  simp only [Option.bind_some]
  have hc:=crc_lt (UInt8.ofNat b.length::b)
  rw [quo256 _ hc,rem256]
  simp only [Option.bind_some]
  rw [str_2,cat_ok (by simp;omega),u8_ofNat_mod]
  simp [frm]
theorem sum_iff (C:Nat) (hC:C<65536) (x y:UInt8):x.toNat*256+y.toNat=C ↔ (x=UInt8.ofNat (C / 256)∧y=UInt8.ofNat C):=by
  have hx:=x.toNat_lt
  have hy:=y.toNat_lt
  constructor
  · intro h
    constructor
    · apply UInt8.toNat_inj.1;simp;omega
    · apply UInt8.toNat_inj.1;simp;omega
  · rintro ⟨rfl,rfl⟩;simp;omega
theorem frm_take (h x y:UInt8) (t:List UInt8) (hh:1≤h.toNat) (hl:h.toNat+3≤t.length+1) (hx:t[h.toNat]?=some x) (hy:t[h.toNat+1]?=some y) :
    (frm (t.take h.toNat)=(h::t).take (h.toNat+3)) ↔ x.toNat*256+y.toNat=crc (h::t.take h.toNat):=by
  have hC:=crc_lt (h::t.take h.toNat)
  rw [sum_iff _ hC]
  have hlen:(t.take h.toNat).length=h.toNat:=by simp;omega
  have e1:(h::t).take (h.toNat+3)=h::(t.take h.toNat++[x,y]):=by
    rw [List.take_succ_cons]
    congr 1
    rw [show h.toNat+2=(h.toNat+1)+1 by omega,List.take_add_one,hy,List.take_add_one,hx]
    simp
  have e2:frm (t.take h.toNat)=h::(t.take h.toNat++[UInt8.ofNat (crc (h::t.take h.toNat) / 256),UInt8.ofNat (crc (h::t.take h.toNat))]):=by
    unfold frm
    rw [hlen]
    have:UInt8.ofNat h.toNat=h:=by apply UInt8.toNat_inj.1;simp
    rw [this];rfl
  rw [e1,e2]
  simp only [List.cons.injEq,true_and,List.append_cancel_left_eq,and_true]
  constructor
  · rintro ⟨a,b⟩;exact ⟨a.symm,b.symm⟩
  · rintro ⟨a,b⟩;exact ⟨a.symm,b.symm⟩
theorem Unframe_eq (b:List UInt8) (hb:b.length≤1073741824):Yga b=some ((records b.length b).1,((records b.length b).2:Int)):=by
  unfold Yga
  have key:∀ (n u:Nat) (acc:List (List UInt8)),u≤b.length→acc.length≤u→b.length≤u+n →
      iter (fun ss_17:Int × (List (List UInt8))=>Jka b ss_17.1 ss_17.2) ((u:Int),acc)=some (acc++(records n (b.drop u)).1,((u+(records n (b.drop u)).2:Nat):Int)):=by
    intro n
    induction n with
    | zero =>
      intro u acc hu ha hn
      have e:Jka b (u:Int) acc=some (.inr (acc,(u:Int))):=by
        unfold Jka
        rw [sub_end hu]
        simp only [Option.bind_some]
        rw [if_pos (by simp;omega)];rfl
      rw [Q4a];simp only [e];simp [records]
    | succ n ih =>
      intro u acc hu ha hn
      have stop:recAt (b.drop u)=none→Jka b (u:Int) acc=some (.inr (acc,(u:Int)))→iter (fun ss_17:Int × (List (List UInt8))=>Jka b ss_17.1 ss_17.2) ((u:Int),acc)=some (acc++(records (n+1) (b.drop u)).1,((u+(records (n+1) (b.drop u)).2:Nat):Int)):=by
        intro h1 h2
        rw [Q4a];simp only [h2];simp [records,h1]
      have hs:=sub_end (xs:=b) hu
      have hdl:(b.drop u).length=b.length - u:=by simp
      generalize hr:b.drop u=r at hs stop hdl ⊢
      by_cases h4:r.length<4
      · refine stop ?_ ?_
        · cases r with
          | nil=>rfl
          | cons c t =>
            simp only [recAt]
            rw [if_pos (by simp at h4;omega)]
        · unfold Jka
          rw [hs]
          simp only [Option.bind_some]
          rw [if_pos (by simp;omega)];rfl
      cases r with
      | nil=>simp at h4
      | cons c t =>
        have hlen:t.length+1+u=b.length:=by simp at hdl;omega
        have hcl:=c.toNat_lt
        have w1:IntKind.i64.wrap ((c.toNat:Int)+1)=((c.toNat+1:Nat):Int):=by rw [Jqa (by omega) (by omega)];rfl
        have w3:IntKind.i64.wrap ((c.toNat:Int)+3)=((c.toNat+3:Nat):Int):=by rw [Jqa (by omega) (by omega)];rfl
        have e2:idx (c::t) 0=some c:=by simp [idx]
        by_cases hbad:c.toNat<1∨60<c.toNat∨t.length+1<c.toNat+3
        · refine stop (by simp only [recAt];rw [if_pos hbad]) ?_
          unfold Jka
          rw [hs]
          simp only [Option.bind_some]
          rw [if_neg (by simp at h4 ⊢;omega),e2]
          simp only [Option.bind_some,wrap_b,w1,w3]
          by_cases b1:c.toNat<1
          · rw [if_pos (by simp;omega)];rfl
          rw [if_neg (by simp;omega)]
          by_cases b2:60<c.toNat
          · rw [if_pos (by simp;omega)];rfl
          rw [if_neg (by simp;omega),if_pos (by simp;omega)];rfl
        have e3:sub (c::t) 0 ((c.toNat+3:Nat):Int)=some ((c::t).take (c.toNat+3)):=sub_0 (by simp;omega)
        have e4:sub (c::t) 1 ((c.toNat+1:Nat):Int)=some (t.take c.toNat):=by
          have:=sub_ok (xs:=c::t) (i:=1) (j:=c.toNat+1) (by omega) (by simp;omega)
          simpa using this
        have hp:(t.take c.toNat).length=c.toNat:=by simp;omega
        have hF:=Framed_eq (t.take c.toNat) (by omega)
        obtain ⟨x,hx⟩:∃ x,t[c.toNat]?=some x:=⟨_,List.getElem?_eq_getElem (by omega)⟩
        obtain ⟨y,hy⟩:∃ y,t[c.toNat+1]?=some y:=⟨_,List.getElem?_eq_getElem (by omega)⟩
        have hft:=frm_take c x y t (by omega) (by omega) hx hy
        have hx':t.getD c.toNat 0=x:=by rw [List.getD_eq_getElem?_getD,hx];rfl
        have hy':t.getD (c.toNat+1) 0=y:=by rw [List.getD_eq_getElem?_getD,hy];rfl
        by_cases hsum:x.toNat*256+y.toNat=crc (c::t.take c.toNat)
        · have hsome:recAt (c::t)=some (t.take c.toNat):=by simp only [recAt,hx',hy'];rw [if_neg hbad,if_neg (by omega)]
          have e:Jka b (u:Int) acc=some (.inl (((u+(c.toNat+3):Nat):Int),acc++[t.take c.toNat])):=by
            unfold Jka
            rw [hs]
            simp only [Option.bind_some]
            rw [if_neg (by simp at h4 ⊢;omega),e2]
            simp only [Option.bind_some,wrap_b,w1,w3]
            rw [if_neg (by simp;omega),if_neg (by simp;omega),if_neg (by simp;omega),e4]
            simp only [Option.bind_some]
            rw [hF]
            simp only [Option.bind_some]
            rw [e3]
            simp only [Option.bind_some]
            rw [if_neg (by simp [hft.2 hsum]),app_ok (by simp;omega)]
            simp only [Option.bind_some]
            rw [show (u:Int)+((c.toNat+3:Nat):Int)=((u+(c.toNat+3):Nat):Int) by omega,wrap_n (by omega)]
          rw [Q4a];simp only [e]
          have hdrop:(c::t).drop (c.toNat+3)=b.drop (u+(c.toNat+3)):=by rw [← hr,List.drop_drop]
          rw [ih (u+(c.toNat+3)) (acc++[t.take c.toNat]) (by omega) (by simp;omega) (by omega)]
          have hstep:records (n+1) (c::t)=(t.take c.toNat::(records n (b.drop (u+(c.toNat+3)))).1,c.toNat+3+(records n (b.drop (u+(c.toNat+3)))).2):=by
            simp only [records,hsome,hp,hdrop]
          rw [hstep]
          simp;omega
        · refine stop (by simp only [recAt,hx',hy'];rw [if_neg hbad,if_pos hsum]) ?_
          unfold Jka
          rw [hs]
          simp only [Option.bind_some]
          rw [if_neg (by simp at h4 ⊢;omega),e2]
          simp only [Option.bind_some,wrap_b,w1,w3]
          rw [if_neg (by simp;omega),if_neg (by simp;omega),if_neg (by simp;omega),e4]
          simp only [Option.bind_some]
          rw [hF]
          simp only [Option.bind_some]
          rw [e3]
          simp only [Option.bind_some]
          have hne:(frm (t.take c.toNat)==(c::t).take (c.toNat+3))=false:=by
            rw [beq_eq_false_iff_ne];exact fun h=>hsum (hft.1 h)
          rw [hne];rfl
  have:=key b.length 0 [] (by omega) (by simp) (by omega)
  simpa using this
end Go.Proofs.YtchmpaaofmihcaaGreat
namespace Go.Proofs.YtchmpaaofmihcaaGreat
set_option linter.unusedVariables false
set_option linter.unusedSimpArgs false
theorem slot_sector (S:List (List UInt8)) (W:List Write) (slot k:Nat) (hsl:slot≤1) (hk:k≤1000) (hS:S.length≤200):Jya (k:Int) (slot:Int) S W=some (gt S (60*slot+k)):=by
  have e0:IntKind.i64.wrap (60*(slot:Int))=60*(slot:Int):=Jqa (by omega) (by omega)
  have e2:IntKind.i64.wrap (60*(slot:Int)+(k:Int))=((60*slot+k:Nat):Int):=by rw [Jqa (by omega) (by omega)];omega
  unfold Jya
  rw [e0,e2]
  by_cases hi:60*slot+k<S.length
  · have hx:S[60*slot+k]?=some (gt S (60*slot+k)):=by unfold gt;rw [List.getD_eq_getElem?_getD,List.getElem?_eq_getElem hi];rfl
    rw [if_pos (by simp only [decide_eq_true_eq];omega),Z7a hx,Option.bind_some]
  · rw [if_neg (by simp only [decide_eq_true_eq];omega)]
    unfold gt
    rw [List.getD_eq_getElem?_getD,List.getElem?_eq_none (by omega)]
    rfl
theorem gt_len {S:List (List UInt8)} (hs:∀ s,s∈S→okS s) (i:Nat):(gt S i).length≤64:=by
  unfold gt
  rw [List.getD_eq_getElem?_getD]
  by_cases hi:i<S.length
  · rw [List.getElem?_eq_getElem hi]
    exact hs _ (List.getElem_mem hi)
  · rw [List.getElem?_eq_none (by omega)]
    simp
theorem slot_step {d:Disk} (hd:Y1a d) (slot:Nat) (hsl:slot≤1) (h0 h1 h2:UInt8) (u0:Int) (hh:h2.toNat<60) (m k:Nat) (acc:List UInt8) (hk:k+(m+1)=h2.toNat+1) (ha:acc.length≤100*k) :
    Zra d (slot:Int) ([[h0,h1,h2]],u0) h2 acc (k:Int)=some (match secP (gt d.Sectors (60*slot+k)) k with
      | none=>.inr ([],0,false)
      | some p=>if p.getD 0 0=h0∧p.getD 2 0=h2∧(p.length=53∨(m=0∧3<p.length∧p.length<53)) then .inl (acc++p.drop 3,((k+1:Nat):Int)) else .inr ([],0,false)):=by
  have hl64:=gt_len hd.2.2.1 (60*slot+k)
  unfold Zra
  rw [wrap_b,if_pos (by simp only [decide_eq_true_eq];omega),slot_sector _ _ slot k hsl (by omega) hd.1,Option.bind_some]
  generalize gt d.Sectors (60*slot+k)=s at hl64
  rw [Unframe_eq s (by omega),Option.bind_some]
  unfold secP one
  rcases hr:records s.length s with ⟨l,u⟩
  simp only
  match l with
  | []=>rfl
  | p::q::l =>
    have hne:((p::q::l).length:Int)≠1:=by simp only [List.length_cons];omega
    rw [if_pos (by simpa using hne),Option.bind_some,if_pos rfl]
    rfl
  | [p] =>
    have i0:ixN [p] 0=some 0:=rfl
    have j0:ixN [[h0,h1,h2]] 0=some 0:=rfl
    have jh:idx [h0,h1,h2] 0=some h0:=rfl
    rw [if_neg (by simp),Option.bind_some]
    by_cases hu:u=s.length
    · rw [if_neg (by simp [hu]),i0,Option.bind_some]
      simp only [List.getElem?_cons_zero,Option.bind_some,j0,jh]
      rw [if_pos hu]
      simp only
      by_cases hp:4≤p.length
      · rw [if_neg (by simp only [decide_eq_true_eq];omega)]
        obtain ⟨a,b,c,t,rfl⟩:∃ a b c t,p=a::b::c::t:=by
          match p,hp with
          | a::b::c::t,_=>exact ⟨a,b,c,t,rfl⟩
          | [],h=>simp at h
          | [_],h=>simp at h
          | [_,_],h=>simp at h
        have hsub:sub (a::b::c::t) 0 3=some [a,b,c]:=sub_0 (j:=3) (by omega)
        have hsub2:sub (a::b::c::t) 3 ((a::b::c::t).length:Int)=some t:=sub_end (xs:=a::b::c::t) (i:=3) (by omega)
        have hts:toStr [(h0.toNat:Int),IntKind.u8.wrap (k:Int),IntKind.u8.wrap (h2.toNat:Int)]=[h0,UInt8.ofNat k,h2]:=by
          have h1:=str_2 k h2.toNat
          unfold toStr at h1 ⊢
          simp only [List.map_cons,List.map_nil] at h1 ⊢
          rw [h1]
          simp
        rw [hsub,Option.bind_some,hts]
        simp only [hsub2,Option.bind_some]
        have hb2:b=UInt8.ofNat k ↔ b.toNat=k:=⟨fun e=>by rw [e];simp;omega,fun e=>by rw [← e];simp⟩
        by_cases h3:a=h0∧b.toNat=k∧c=h2
        · obtain ⟨rfl,q2,rfl⟩:=h3
          rw [if_neg (by rw [hb2.2 q2];simp),if_pos (show 3≤(a::b::c::t).length∧((a::b::c::t).getD 1 0).toNat=k from ⟨by omega,q2⟩)]
          simp only
          generalize hL:(a::b::c::t).length=L at hp
          have hLt:L=t.length+3:=by rw [← hL];simp
          by_cases g1:L≤53
          · rw [if_neg (by simp only [decide_eq_true_eq];omega)]
            by_cases g2:k<c.toNat
            · rw [if_pos (by simp only [decide_eq_true_eq];omega),Option.bind_some]
              by_cases g3:L<53
              · rw [if_pos (by simp only [decide_eq_true_eq];omega),if_neg (fun h=>by have:=h.2.2;omega)];rfl
              · rw [if_neg (by simp only [decide_eq_true_eq];omega),cat_ok (by omega),Option.bind_some,Vwa (by omega),if_pos ⟨rfl,rfl,by omega⟩];rfl
            · rw [if_neg (by simp only [decide_eq_true_eq];omega),Option.bind_some,if_neg (by decide),cat_ok (by omega),Option.bind_some,Vwa (by omega),if_pos ⟨rfl,rfl,by omega⟩];rfl
          · rw [if_pos (by simp only [decide_eq_true_eq];omega),Option.bind_some,if_pos rfl,if_neg (fun h=>by have:=h.2.2;omega)];rfl
        · have hne:¬ ([a,b,c]=[h0,UInt8.ofNat k,h2]):=fun e=>by
            injection e with e1 e
            injection e with e2 e
            injection e with e3 e
            exact h3 ⟨e1,hb2.1 e2,e3⟩
          rw [if_pos (by rw [Bool.not_eq_true'];exact beq_eq_false_iff_ne.2 hne),Option.bind_some,if_pos rfl]
          by_cases g:3≤(a::b::c::t).length∧((a::b::c::t).getD 1 0).toNat=k
          · rw [if_pos g]
            simp only
            rw [if_neg (fun h=>h3 ⟨h.1,g.2,h.2.1⟩)]
            rfl
          · rw [if_neg g]
            rfl
      · rw [if_pos (by simp only [decide_eq_true_eq];omega),Option.bind_some,if_pos rfl]
        by_cases g:3≤p.length∧(p.getD 1 0).toNat=k
        · rw [if_pos g]
          simp only
          rw [if_neg (fun h=>by have:=h.2.2;omega)]
          rfl
        · rw [if_neg g]
          rfl
    · rw [if_pos (by simp;omega),Option.bind_some,if_pos rfl]
      simp only
      rw [if_neg hu]
      rfl
theorem slot_loop {d:Disk} (hd:Y1a d) (slot:Nat) (hsl:slot≤1) (h0 h1 h2:UInt8) (u0:Int) (hh:h2.toNat<60):∀ (m k:Nat) (acc:List UInt8),k+m=h2.toNat+1→1≤k→acc.length≤100*k →
    iter (fun ss_50:(List UInt8) × Int=>Zra d (slot:Int) ([[h0,h1,h2]],u0) h2 ss_50.1 ss_50.2) (acc,(k:Int))=some (match col d.Sectors slot [h0,h1,h2] m k acc with | some b=>(b,(h0.toNat:Int),true) | none=>([],0,false)):=by
  intro m
  induction m with
  | zero =>
    intro k acc hk h1k ha
    have step:Zra d (slot:Int) ([[h0,h1,h2]],u0) h2 acc (k:Int)=some (.inr (acc,(h0.toNat:Int),true)):=by
      unfold Zra
      have j0:ixN [[h0,h1,h2]] 0=some 0:=rfl
      have jh:idx [h0,h1,h2] 0=some h0:=rfl
      rw [wrap_b,if_neg (by simp only [decide_eq_true_eq];omega),j0,Option.bind_some]
      simp only [List.getElem?_cons_zero,Option.bind_some,jh,wrap_b]
      rfl
    rw [Q4a]
    simp only [step]
    rfl
  | succ m ih =>
    intro k acc hk h1k ha
    rw [Q4a]
    simp only [slot_step hd slot hsl h0 h1 h2 u0 hh m k acc hk ha]
    unfold col
    cases hsec:secP (gt d.Sectors (60*slot+k)) k with
    | none=>rfl
    | some p =>
      simp only
      by_cases hc:p.getD 0 0=h0∧p.getD 2 0=h2∧(p.length=53∨(m=0∧3<p.length∧p.length<53))
      · have hc':p.getD 0 0=[h0,h1,h2].getD 0 0∧p.getD 2 0=[h0,h1,h2].getD 2 0∧(p.length=53∨(m=0∧3<p.length∧p.length<53)):=hc
        rw [if_pos hc,if_pos hc']
        simp only
        rw [ih (k+1) _ (by omega) (by omega) (by rw [List.length_append,List.length_drop];omega)]
      · have hc':¬ (p.getD 0 0=[h0,h1,h2].getD 0 0∧p.getD 2 0=[h0,h1,h2].getD 2 0∧(p.length=53∨(m=0∧3<p.length∧p.length<53))):=hc
        rw [if_neg hc,if_neg hc']
theorem SlotOf_eq {d:Disk} (hd:Y1a d) (slot:Nat) (hsl:slot≤1):Qkb d (slot:Int)=some (match getM d.Sectors slot with | some x=>(x.1,(x.2:Int),true) | none=>([],0,false)):=by
  have hl64:=gt_len hd.2.2.1 (60*slot)
  have hsec:=slot_sector d.Sectors d.Wait slot 0 hsl (by omega) hd.1
  rw [Int.natCast_zero,Nat.add_zero] at hsec
  unfold Qkb
  rw [hsec,Option.bind_some]
  unfold getM
  generalize gt d.Sectors (60*slot)=s at hl64
  rw [Unframe_eq s (by omega),Option.bind_some]
  unfold secP one
  rcases hr:records s.length s with ⟨l,u⟩
  simp only
  match l with
  | []=>rfl
  | p::q::l =>
    have hne:((p::q::l).length:Int)≠1:=by simp only [List.length_cons];omega
    rw [if_pos (by simpa using hne),Option.bind_some,if_pos rfl]
  | [p] =>
    have i0:ixN [p] 0=some 0:=rfl
    rw [if_neg (by simp),Option.bind_some]
    by_cases hu:u=s.length
    · rw [if_neg (by simp [hu]),i0,Option.bind_some]
      simp only [List.getElem?_cons_zero,Option.bind_some]
      rw [if_pos hu]
      simp only
      by_cases hp:p.length=3
      · obtain ⟨a,b,c,rfl⟩:∃ a b c,p=[a,b,c]:=by
          match p,hp with
          | [a,b,c],_=>exact ⟨a,b,c,rfl⟩
        have k0:idx [a,b,c] 0=some a:=rfl
        have k1:idx [a,b,c] 1=some b:=rfl
        have k2:idx [a,b,c] 2=some c:=rfl
        rw [if_neg (by simp)]
        simp only [k0,k1,k2,Option.bind_some]
        have g1:[a,b,c].getD 1 0=b:=rfl
        by_cases q1:b.toNat=0
        · rw [if_pos (show 3≤[a,b,c].length∧([a,b,c].getD 1 0).toNat=0 from ⟨Nat.le_refl _,q1⟩)]
          simp only
          by_cases q0:a.toNat≤200
          · rw [if_neg (by simp only [decide_eq_true_eq];omega),if_neg (by simp [q1]),Option.bind_some]
            by_cases q2:c.toNat<60
            · rw [if_neg (by simp only [decide_eq_true_eq];omega)]
              have hc:([a,b,c].length=3∧([a,b,c].getD 0 0).toNat≤200∧([a,b,c].getD 2 0).toNat<60):=⟨rfl,q0,q2⟩
              rw [if_pos hc]
              have:=slot_loop hd slot hsl a b c (u:Int) q2 c.toNat 1 [] (by omega) (by omega) (by simp)
              refine this.trans ?_
              rw [show [a,b,c].getD 0 0=a from rfl,show [a,b,c].getD 2 0=c from rfl]
              cases col d.Sectors slot [a,b,c] c.toNat 1 []<;>rfl
            · have hc:¬ ([a,b,c].length=3∧([a,b,c].getD 0 0).toNat≤200∧([a,b,c].getD 2 0).toNat<60):=fun h=>q2 h.2.2
              rw [if_pos (by simp only [decide_eq_true_eq];omega),if_neg hc]
          · have hc:¬ ([a,b,c].length=3∧([a,b,c].getD 0 0).toNat≤200∧([a,b,c].getD 2 0).toNat<60):=fun h=>q0 h.2.1
            rw [if_pos (by simp only [decide_eq_true_eq];omega),Option.bind_some,if_pos rfl,if_neg hc]
        · rw [if_neg (show ¬ (3≤[a,b,c].length∧([a,b,c].getD 1 0).toNat=0) from fun h=>q1 h.2)]
          by_cases q0:a.toNat≤200
          · rw [if_neg (by simp only [decide_eq_true_eq];omega),if_pos (by simp;omega),Option.bind_some,if_pos rfl]
          · rw [if_pos (by simp only [decide_eq_true_eq];omega),Option.bind_some,if_pos rfl]
      · rw [if_pos (by simp;omega),Option.bind_some,if_pos rfl]
        by_cases g:3≤p.length∧(p.getD 1 0).toNat=0
        · rw [if_pos g]
          simp only
          rw [if_neg (fun h=>hp h.1)]
        · rw [if_neg g]
    · rw [if_pos (by simp;omega),Option.bind_some,if_pos rfl]
      simp only
      rw [if_neg hu]
theorem SaveGet_true (d:Disk) (slot:Int) (gd:gDisk d) (gs:gI slot) (hb:mDisk d+(mI slot+0)≤1048576):Jhb d slot=some true:=by
  obtain ⟨e,h1,h2⟩:=Check_ex d
  have bad:∀ z:Int,z≠0→Zha d slot ([],0,z) z=some true:=fun z hz=>by
    unfold Zha
    rw [saved_true,Option.bind_some,if_pos (by simpa using hz),Option.bind_some]
    simp
  unfold Jhb
  rw [CheckDisk_eq,h1]
  by_cases he:e=0
  · subst he
    have hok:=h2.1 rfl
    by_cases hr:slot<0∨1<slot
    · have hg:save_Get d slot=some ([],0,3):=by
        unfold save_Get
        rw [h1,Option.bind_some,if_neg (by decide),if_pos (by simp only [Bool.or_eq_true,decide_eq_true_eq];omega)]
      rw [hg,Option.bind_some,Option.bind_some,if_pos (by simp;omega)]
      exact bad 3 (by decide)
    · obtain ⟨sl,rfl⟩:=Int.eq_ofNat_of_zero_le (show 0≤slot by omega)
      rw [Get_eq hok sl (by omega),Option.bind_some,Option.bind_some,if_neg (by simp only [Bool.and_eq_true,Bool.or_eq_true,decide_eq_true_eq,beq_iff_eq];omega)]
      unfold Zha
      rw [saved_true,Option.bind_some,if_neg (by decide),SlotOf_eq hok sl (by omega),Option.bind_some]
      unfold getR
      cases getM d.Sectors sl with
      | none=>rfl
      | some x=>simp
  · have hg:save_Get d slot=some ([],0,e):=by
      unfold save_Get
      rw [h1,Option.bind_some,if_pos (by simpa using he)]
    rw [hg,Option.bind_some,Option.bind_some,if_neg (by simp [he])]
    exact bad e he
end Go.Proofs.YtchmpaaofmihcaaGreat
namespace Go.Proofs.YtchmpaaofmihcaaGreat.saveGetLaw
open Go.ChangeShapes Go.WideShapes Go.ChangeAt Go.RowKit
set_option linter.unusedVariables false
theorem own:ownKnob Tryz.prog.godebug=none:=by kernel_rfl
theorem laid:laidOutB Tryz.prog=true:=by kernel_rfl
theorem ok:(Tryz.f4.params.toList.all fun t=>Tryz.prog.readableRec t && decide (t<Tryz.prog.types.size))=true:=by kernel_rfl
set_option maxRecDepth 100000 in
theorem contract (H:Type) (enc:TypeId × Value→H) (W:World) (base:Nat) (args:Array Value) (ds gs:List (DataW H)) (before:List MemPlace)
    (hval:∀ (j:Nat) t v,Tryz.f4.params[j]?=some t→args[j]?=some v→Value.okWide Tryz.prog W .any base t v)
    (hW:DataW.Whole enc Tryz.prog Tryz.f4.params.toList Rows.saveGetSpec.vars false W args.toList ds gs before) (hk:Rows.uptoSmall H (ds++gs)=true) :
    Calls Tryz.prog 4 args W fun e W'=>∃ v,e=.returned v∧Rows.saveGetSpec.post enc Tryz.prog Tryz.f4 false true false false W args v W':=by
  have hW':=hW
  obtain ⟨p,q,hA0,hV,rfl,hfz,hnd⟩:=hW
  have hA:DataW.TrodAll enc Tryz.prog W 0 (fun _=>true) true Tryz.f4.params.toList args.toList ds p:=hA0
  rw [Tryz.params4] at hA hval
  obtain ⟨v0,vs0,d0,ds0,p0,q0,hargs,rfl,rfl,h0,r0⟩:=trodAll_cons hA
  obtain ⟨v1,vs1,d1,ds1,p1,q1,rfl,rfl,rfl,h1,r1⟩:=trodAll_cons r0
  obtain ⟨rfl,rfl,rfl⟩:=trodAll_nil r1
  obtain rfl:args=#[v0,v1]:=by cases args;simp_all
  obtain ⟨rfl,rfl⟩:=trodVars_none hV
  obtain ⟨x0,a0,g0,m0⟩:=Opn.args on25 Tryz.underlying25 (hval 0 _ v0 rfl rfl) h0
  obtain ⟨x1,a1,g1,m1⟩:=Opn.arg on3 (by rw [Tryz.underlying3]) (hval 1 _ v1 rfl rfl) h1
  have hb:Rows.uptoBulkAll ([d0,d1]:List (DataW H))≤1048576:=of_decide_eq_true hk
  simp only [Rows.uptoBulkAll] at hb
  refine law_post laid Tryz.underlying4 (by kernel_rfl) ok rfl rfl rfl rfl hW' (av:=[_,_]) (.cons a0 (.cons a1 (.nil))) (crosslaw_SaveGet_c x0 x1 true (SaveGet_true x0 x1 g0 g1 (by omega)))
set_option maxRecDepth 100000 in
theorem lifted (os:Os) (started:os.Started) (H:Type) (enc:TypeId × Value→H) (F:Stop.Interp) :
    ReturnsInHanded {} Tryz.checked os 4 .any ((Rows.OpenSpec.upto Rows.saveGetSpec).pre6 enc Tryz.prog Tryz.f4 Rows.saveGetUptoRow.domain false) (((Rows.OpenSpec.upto Rows.saveGetSpec).at F).post enc Tryz.prog Tryz.f4 false true false false):=by
  refine returnsInHanded_of_cond (C:=Tryz.checked) (s:=Rows.OpenSpec.upto Rows.saveGetSpec) (k:=Rows.uptoSmall) rfl own started (by kernel_rfl) Tryz.func4
    (OpenSpec.witness (enc:=enc) (C:=Tryz.checked) (s:=Rows.OpenSpec.upto Rows.saveGetSpec) (k:=Rows.uptoSmall) rfl false ⟨#[],#[.agg #[.slice none 0 0,.slice none 0 0],.int .i64 0],[]⟩ 8 (by kernel_rfl) (by kernel_rfl) (by kernel_rfl)
      (x:=([.agg [.nil,.nil],.lit (.int .i64 0)],[],[])) (by kernel_rfl) rfl (by kernel_rfl)) ?_
  intro W base args ds gs before hval hW _ hk _
  exact contract H enc W base args ds gs before hval hW hk
theorem proved:Rows.SaveGetUptoSaid :=
  OpenClaim.holds_of_cond 4 Tryz.f4 rfl rfl rfl rfl rfl rfl rfl ⟨rfl,rfl,rfl,rfl,rfl⟩ rfl rfl rfl rfl rfl (by kernel_rfl) Tryz.func4 (by kernel_rfl)
    (of_decide_eq_true (by kernel_rfl)) (by unfold Func.isWrapper;first | (rw [if_pos (by decide +kernel)];kernel_rfl) | (rw [if_neg (by decide +kernel)];exact ⟨rfl,rfl⟩))
    (fun os started H enc _ F=>lifted os started H enc F)
#print axioms proved
end Go.Proofs.YtchmpaaofmihcaaGreat.saveGetLaw
