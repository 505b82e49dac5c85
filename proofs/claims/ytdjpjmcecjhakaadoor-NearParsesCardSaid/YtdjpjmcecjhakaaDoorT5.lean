/- Texts of my own, one behind the other: NrP2, NrV, NrN1, NrP3, NrP4, NrP5, NrP6, NrP7, NrP8, NrP9, NrP10, NrP11, NrP12, NrP13, NrP14, NrP15, NrP16, NrN2, NrN3, NrN4, NrE1, NrE2, NrR1, NrR2, NrN5. -/
import Derived.Test.YtdjpjmcecjhakaaDoorT4
set_option linter.unusedVariables false
set_option linter.unusedSimpArgs false
namespace Go.Eng
open Go.IntWalk
theorem len8_list:([0,1,2,2,3,3,3,3,4,4,4,4,4,4,4,4,5,5,5,5,5,5,5,5,5,5,5,5,5,5,5,5,6,6,6,6,6,6,6,6,6,6,6,6,6,6,6,6,6,6,6,6,6,6,6,6,6,6,6,6,6,6,6,6,7,7,7,7,7,7,7,7,7,7,7,7,7,7,7,7,7,7,7,7,7,7,7,7,7,7,7,7,7,7,7,7,7,7,7,7,7,7,7,7,7,7,7,7,7,7,7,7,7,7,7,7,7,7,7,7,7,7,7,7,7,7,7,7,8,8,8,8,8,8,8,8,8,8,8,8,8,8,8,8,8,8,8,8,8,8,8,8,8,8,8,8,8,8,8,8,8,8,8,8,8,8,8,8,8,8,8,8,8,8,8,8,8,8,8,8,8,8,8,8,8,8,8,8,8,8,8,8,8,8,8,8,8,8,8,8,8,8,8,8,8,8,8,8,8,8,8,8,8,8,8,8,8,8,8,8,8,8,8,8,8,8,8,8,8,8,8,8,8,8,8,8,8,8,8,8,8,8,8,8,8,8,8,8,8,8,8,8,8,8,8,8]:Str)=len8:=by decide +kernel
theorem len8_len:len8.length=256:=by decide +kernel
theorem bits_Len16.j1_ok (x0:UInt16) (x1:Int) (h:x0.toNat<256) (h1:0≤x1) (h2:x1≤1000):bits_Len16.j1 x0 x1=some [.i .i64 (x1+Nt.bits x0.toNat)]:=by
 refine bits_Len16.j1_in _ _ ?_
 intro v1 h1 v2 h2 v3 h3
 rw [len8_list] at h2 ⊢
 have e1:v1.toNat=x0.toNat:=by rw [h1,u8_nat,Nat.mod_eq_of_lt h]
 have hb:=Nt.bits_lt (n:=x0.toNat) (k:=8) h
 rw [Int.toNat_natCast,e1] at h2
 have e2:=len8_ok _ h
 rw [←h2] at e2
 have e3:v3=(Nt.bits x0.toNat:Int):=by rw [h3,i64_in _ (by omega),e2]
 rw [ck_of (idx_ok (by omega) (by rw [len8_len];omega)),e3,i64_in _ (by omega)]
theorem bits_Len16.goal (x:UInt16):bits_Len16.F x=some [.i .i64 (Nt.bits x.toNat)]:=by
 refine bits_Len16.F_in _ ?_
 intro v1 h1
 have hx:=x.toNat_lt
 by_cases c:x.toNat<256
 ·rw [decide_eq_false (by rw [UInt16.le_iff_toNat_le];show ¬256≤x.toNat;omega),cond_false,bits_Len16.j1_ok _ _ c (by omega) (by omega),Int.zero_add]
 ·have e1:v1.toNat=x.toNat / 2 ^ 8:=by
   rw [h1,shr16,UInt16.toNat_ofNat',show (8:UInt64).toNat=8 from rfl];omega
  rw [decide_eq_true (by rw [UInt16.le_iff_toNat_le];show 256≤x.toNat;omega),cond_true,bits_Len16.j1_ok _ _ (by omega) (by omega) (by omega),e1,Nt.bits_shift (n:=x.toNat) (k:=8) (by omega)]
  exact congrArg (fun z:Int=>some [TV.i .i64 z]) (by omega)
theorem bits_Len64.j3_ok (x0:UInt64) (x1:Int) (h:x0.toNat<256) (h1:0≤x1) (h2:x1≤1000):bits_Len64.j3 x0 x1=some [.i .i64 (x1+Nt.bits x0.toNat)]:=by
 refine bits_Len64.j3_in _ _ ?_
 intro v1 h1 v2 h2 v3 h3
 rw [len8_list] at h2 ⊢
 have e1:v1.toNat=x0.toNat:=by rw [h1,u8_nat,Nat.mod_eq_of_lt h]
 have hb:=Nt.bits_lt (n:=x0.toNat) (k:=8) h
 rw [Int.toNat_natCast,e1] at h2
 have e2:=len8_ok _ h
 rw [←h2] at e2
 have e3:v3=(Nt.bits x0.toNat:Int):=by rw [h3,i64_in _ (by omega),e2]
 rw [ck_of (idx_ok (by omega) (by rw [len8_len];omega)),e3,i64_in _ (by omega)]
theorem shr64_toNat (x:UInt64) (k:Nat):(shr64 x k).toNat=x.toNat / 2 ^ k:=by
 rw [shr64,UInt64.toNat_ofNat']
 exact Nat.mod_eq_of_lt (Nat.lt_of_le_of_lt (Nat.div_le_self _ _) x.toNat_lt)
theorem bits_Len64.j2_ok (x0:UInt64) (x1:Int) (h:x0.toNat<65536) (h1:0≤x1) (h2:x1≤900):bits_Len64.j2 x0 x1=some [.i .i64 (x1+Nt.bits x0.toNat)]:=by
 refine bits_Len64.j2_in _ _ ?_
 intro v1 h1 v2 h2
 by_cases c:x0.toNat<256
 ·rw [decide_eq_false (by rw [UInt64.le_iff_toNat_le];show ¬256≤x0.toNat;omega),cond_false,bits_Len64.j3_ok _ _ c (by omega) (by omega)]
 ·have e1:v1.toNat=x0.toNat / 2 ^ 8:=by rw [h1];exact shr64_toNat _ _
  have e2:v2=x1+8:=by rw [h2,i64_in _ (by omega)]
  rw [decide_eq_true (by rw [UInt64.le_iff_toNat_le];show 256≤x0.toNat;omega),cond_true,bits_Len64.j3_ok _ _ (by omega) (by omega) (by omega),e1,e2,Nt.bits_shift (n:=x0.toNat) (k:=8) (by omega)]
  exact congrArg (fun z:Int=>some [TV.i .i64 z]) (by omega)
theorem bits_Len64.j1_ok (x0:UInt64) (x1:Int) (h:x0.toNat<4294967296) (h1:0≤x1) (h2:x1≤800):bits_Len64.j1 x0 x1=some [.i .i64 (x1+Nt.bits x0.toNat)]:=by
 refine bits_Len64.j1_in _ _ ?_
 intro v1 h1 v2 h2
 by_cases c:x0.toNat<65536
 ·rw [decide_eq_false (by rw [UInt64.le_iff_toNat_le];show ¬65536≤x0.toNat;omega),cond_false,bits_Len64.j2_ok _ _ c (by omega) (by omega)]
 ·have e1:v1.toNat=x0.toNat / 2 ^ 16:=by rw [h1];exact shr64_toNat _ _
  have e2:v2=x1+16:=by rw [h2,i64_in _ (by omega)]
  rw [decide_eq_true (by rw [UInt64.le_iff_toNat_le];show 65536≤x0.toNat;omega),cond_true,bits_Len64.j2_ok _ _ (by omega) (by omega) (by omega),e1,e2,Nt.bits_shift (n:=x0.toNat) (k:=16) (by omega)]
  exact congrArg (fun z:Int=>some [TV.i .i64 z]) (by omega)
theorem bits_Len64.goal (x:UInt64):bits_Len64.F x=some [.i .i64 (Nt.bits x.toNat)]:=by
 refine bits_Len64.F_in _ ?_
 intro v1 h1
 have hx:=x.toNat_lt
 by_cases c:x.toNat<4294967296
 ·rw [decide_eq_false (by rw [UInt64.le_iff_toNat_le];show ¬4294967296≤x.toNat;omega),cond_false,bits_Len64.j1_ok _ _ c (by omega) (by omega),Int.zero_add]
 ·have e1:v1.toNat=x.toNat / 2 ^ 32:=by rw [h1];exact shr64_toNat _ _
  rw [decide_eq_true (by rw [UInt64.le_iff_toNat_le];show 4294967296≤x.toNat;omega),cond_true,bits_Len64.j1_ok _ _ (by rw [e1];omega) (by omega) (by omega),e1,Nt.bits_shift (n:=x.toNat) (k:=32) (by omega)]
  exact congrArg (fun z:Int=>some [TV.i .i64 z]) (by omega)
theorem val_take_succ (a:List UInt16) (i:Nat) (h:i<a.length):Nt.val (a.take (i+1))=Nt.val (a.take i)+65536 ^ i * (a.getD i 0).toNat:=by
 rw [List.take_add_one,Nt.val_append,List.getElem?_eq_getElem h,List.length_take,Nat.min_eq_left (by omega),List.getD_eq_getElem?_getD,List.getElem?_eq_getElem h]
 simp [Nt.val]
theorem u64_of_u16 (d:UInt16):(UInt64.ofInt (d.toNat:Int)).toNat=d.toNat:=by
 rw [u64_nat,Nat.mod_eq_of_lt (by have:=d.toNat_lt;omega)]
theorem bg_Small.l1_ok (a:List UInt16) (h4:a.length≤4):∀(m i:Nat) (v:UInt64),i+m=a.length→v.toNat=Nt.val (a.take i)→bg_Small.l1 v a a.length i=some [.u64 (UInt64.ofNat (Nt.val a)),.b true]:=by
 intro m
 induction m with
 | zero =>
  intro i v hi hv
  refine bg_Small.l1_in _ _ _ _ ?_
  intro v1 h1 v2 h2 v3 h3 v4 h4 v5 h5
  rw [decide_eq_false (by omega),cond_false]
  rw [List.take_of_length_le (by omega)] at hv
  rw [←hv,UInt64.ofNat_toNat]
 | succ m ih =>
  intro i v hi hv
  refine bg_Small.l1_in _ _ _ _ ?_
  intro v1 h1 v2 h2 v3 h3 v4 h4 v5 h5
  rw [Int.toNat_natCast] at h1
  have e3:v3=((16 * i:Nat):Int):=by rw [h3,i64_in _ (by omega)];omega
  have e5:v5=((i+1:Nat):Int):=by rw [h5,i64_in _ (by omega)];omega
  rw [decide_eq_true (by omega),cond_true,ck_of (idx_ok (by omega) (by omega)),ck_of (decide_eq_true (by omega)),e5]
  refine ih (i+1) v4 (by omega) ?_
  rw [val_take_succ a i (by omega),←h1,h4,e3,Int.toNat_natCast,UInt64.toNat_or,shl64,UInt64.toNat_ofNat',h2,u64_of_u16,hv]
  have hlt:Nt.val (a.take i)<2 ^ (16 * i):=by
   have:=Nt.val_lt (a.take i)
   rw [List.length_take,Nat.min_eq_left (by omega),show (65536:Nat)=2 ^ 16 by decide,←Nat.pow_mul] at this
   exact this
  have hd:=v1.toNat_lt
  have hi4:i≤3:=by omega
  have hm:v1.toNat * 2 ^ (16 * i)<2 ^ 64:=by
   have:2 ^ (16 * i)≤2 ^ 48:=Nat.pow_le_pow_right (by omega) (by omega)
   have h1:v1.toNat * 2 ^ (16 * i)≤v1.toNat * 2 ^ 48:=Nat.mul_le_mul_left _ this
   omega
  rw [Nat.mod_eq_of_lt hm,Nat.or_comm,or_add hlt,show (65536:Nat)=2 ^ 16 by decide,←Nat.pow_mul,Nat.mul_comm (2 ^ (16 * i)),Nat.add_comm]
theorem bg_Small.goal (a:List UInt16) (hp:decide (Nt.is a=true∧a.length≤4)=true):bg_Small.F a=some [.u64 (UInt64.ofNat (Nt.val a)),.b true]:=by
 obtain ⟨h1,h2⟩:=of_decide_eq_true hp
 refine bg_Small.F_in _ ?_
 intro v1 hv
 have e1:v1=false:=by rw [hv,h1,Bool.not_true,cond_false];exact decide_eq_false (by omega)
 rw [ck_of (decide_eq_true (by omega)),h1,e1]
 exact bg_Small.l1_ok a h2 a.length 0 0 (by omega) rfl
theorem norm_last {a:List UInt16} (h:Nt.norm a=true) (h0:a≠[]):1≤(a.getD (a.length - 1) 0).toNat∧Nt.val a=Nt.val (a.take (a.length - 1))+65536 ^ (a.length - 1) * (a.getD (a.length - 1) 0).toNat:=by
 have hl:=List.length_pos_iff.2 h0
 rw [norm_getD h0] at h
 simp only [Bool.not_eq_true',decide_eq_false_iff_not] at h
 refine ⟨Nat.pos_of_ne_zero fun e=>h (UInt16.toNat_inj.1 e),?_⟩
 have:=val_take_succ a (a.length - 1) (by omega)
 rwa [show a.length - 1+1=a.length by omega,List.take_length] at this
theorem bits_top {a:List UInt16} (h:Nt.norm a=true) (h0:a≠[]):Nt.bits (Nt.val a)=16 * (a.length - 1)+Nt.bits (a.getD (a.length - 1) 0).toNat:=by
 obtain ⟨h1,h2⟩:=norm_last h h0
 generalize (a.getD (a.length - 1) 0).toNat=t at h1 h2 ⊢
 have hlt:=Nt.val_lt (a.take (a.length - 1))
 rw [List.length_take,Nat.min_eq_left (by omega)] at hlt
 rw [show (65536:Nat)=2 ^ 16 by decide,←Nat.pow_mul] at h2 hlt
 generalize 16 * (a.length - 1)=k at *
 have hd:Nt.val a / 2 ^ k=t:=by
  rw [h2,Nat.add_mul_div_left _ _ (Nat.two_pow_pos k),Nat.div_eq_of_lt hlt,Nat.zero_add]
 rw [Nt.bits_shift (k:=k) (by rw [h2];have:=Nat.mul_le_mul_left (2 ^ k) h1;omega),hd,Nat.add_comm]
theorem bg_Bits.goal (a:List UInt16) (hp:(Nt.is a)=true):bg_Bits.F a=some [.i .i64 (Nt.bits (Nt.val a))]:=by
 have hl:=Nt.is_len hp
 refine bg_Bits.F_in _ ?_
 intro v1 h1 v2 h2 v3 h3 v4 h4 v5 h5
 rw [hp,Bool.not_true,cond_false] at h1
 rw [ck_of (decide_eq_true (by omega)),hp]
 by_cases c:a=[]
 ·subst c
  have e1:v1=true:=by rw [h1];rfl
  rw [e1];rfl
 ·have hl0:=List.length_pos_iff.2 c
  have e1:v1=false:=by rw [h1];exact decide_eq_false (by omega)
  rw [i64_in _ (by omega)] at h2
  have e2:v2=((a.length - 1:Nat):Int):=by omega
  have e3:v3=((16 * (a.length - 1):Nat):Int):=by rw [h3,i64_in _ (by omega)];omega
  rw [e2,Int.toNat_natCast] at h4
  have hb:=Nt.bits_lt (n:=v4.toNat) (k:=16) v4.toNat_lt
  have e5:v5=(Nt.bits (Nt.val a):Int):=by
   rw [h5,i64_in _ (by omega),e3,bits_top (Nt.is_norm hp) c,←h4];omega
  rw [e1,e5]
  show ck true (ck true (ck true (ck (idxOK v2 a.length) _)))=_
  rw [ck_true,ck_true,ck_true,ck_of (idx_ok (by omega) (by omega))]
end Go.Eng
namespace Go.Eng
open Go.IntWalk
namespace Nr
def V (p:Nat):Nat:=man p * 2 ^ sh p
theorem man_lt (p:Nat):man p<9007199254740992:=by unfold man;split <;> omega
theorem V_succ (p:Nat):V (p+1)=(man p+1) * 2 ^ sh p:=by
 by_cases c0:p=4503599627370495
 ·subst c0;decide +kernel
 unfold V man sh
 by_cases c:p<4503599627370496
 ·have e1:p / 4503599627370496=0:=by omega
  rw [if_pos c,if_pos (show p+1<4503599627370496 by omega),e1,show (p+1) / 4503599627370496=0 by omega]
 ·rw [if_neg c,if_neg (show ¬p+1<4503599627370496 by omega)]
  by_cases d:(p+1) % 4503599627370496=0
  ·rw [d,show (p+1) / 4503599627370496 - 1=(p / 4503599627370496 - 1)+1 by omega,show p % 4503599627370496=4503599627370495 by omega,Nat.pow_succ]
   generalize 2 ^ (p / 4503599627370496 - 1)=t
   omega
  ·have e:(p+1) % 4503599627370496+4503599627370496=p % 4503599627370496+4503599627370496+1:=by omega
   rw [show (p+1) / 4503599627370496=p / 4503599627370496 by omega,e]
theorem V_step (p:Nat):V (p+1)=V p+2 ^ sh p:=by rw [V_succ,Nat.add_mul,Nat.one_mul];rfl
theorem V_lt_succ (p:Nat):V p<V (p+1):=by rw [V_step];have:=Nat.two_pow_pos (sh p);omega
theorem V_lt {p q:Nat} (h:p<q):V p<V q:=by
 induction q with
 | zero=>omega
 | succ q ih =>
  have:=V_lt_succ q
  by_cases c:p=q
  ·subst c;exact this
  ·have:=ih (by omega);omega
theorem V_le {p q:Nat} (h:p≤q):V p≤V q:=by
 rcases Nat.lt_or_eq_of_le h with c | c
 ·exact Nat.le_of_lt (V_lt c)
 ·rw [c];exact Nat.le_refl _
theorem V_inj {p q:Nat} (h:V p=V q):p=q:=by
 rcases Nat.lt_trichotomy p q with c | c | c
 ·have:=V_lt c;omega
 ·exact c
 ·have:=V_lt c;omega
theorem mid_eq (p:Nat):mid p=V p+V (p+1):=by
 rw [V_step];unfold mid V;rw [Nat.add_mul,Nat.mul_assoc,Nat.one_mul];omega
theorem V_norm {M E:Nat} (h1:4503599627370496≤M) (h2:M<9007199254740992):man ((E+1) * 4503599627370496+(M - 4503599627370496))=M∧sh ((E+1) * 4503599627370496+(M - 4503599627370496))=E:=by
 unfold man sh
 rw [if_neg (by omega),show ((E+1) * 4503599627370496+(M - 4503599627370496)) % 4503599627370496=M - 4503599627370496 by omega,show ((E+1) * 4503599627370496+(M - 4503599627370496)) / 4503599627370496=E+1 by omega]
 omega
theorem V_sub {M:Nat} (h:M<4503599627370496):V M=M:=by
 unfold V man sh
 rw [if_pos h,show M / 4503599627370496=0 by omega];simp
theorem sh_top {p:Nat} (h:p≤top):sh p≤2045:=by unfold sh;unfold top at h;omega
theorem join_some {p m:Nat} {e:Int} (neg:Bool) (hp:p≤top) (h:V p * 2 ^ (-(e+1074)).toNat=m * 2 ^ (e+1074).toNat):join neg m e=some (p+if neg then 9223372036854775808 else 0):=by
 classical
 have hx:∃p,p≤top∧man p * 2 ^ sh p * 2 ^ (-(e+1074)).toNat=m * 2 ^ (e+1074).toNat:=⟨p,hp,h⟩
 unfold join
 rw [dif_pos hx]
 have hc:=hx.choose_spec.2
 have:hx.choose=p:=V_inj (Nat.eq_of_mul_eq_mul_right (Nat.two_pow_pos _) (hc.trans h.symm))
 rw [this]
theorem join_none {m:Nat} {e:Int} (neg:Bool) (h:∀p,p≤top→V p * 2 ^ (-(e+1074)).toNat≠m * 2 ^ (e+1074).toNat):join neg m e=none:=by
 classical
 unfold join
 rw [dif_neg]
 rintro ⟨p,h1,h2⟩
 exact h p h1 h2
theorem join_0 (neg:Bool) (e:Int):join neg 0 e=some (0+if neg then 9223372036854775808 else 0):=join_some neg (Nat.zero_le _) (by rw [V_sub (by omega),Nat.zero_mul,Nat.zero_mul])
def enc (m' k:Nat):Nat:=if k+Nt.bits m'≤52 then m' * 2 ^ k else (k - (53 - Nt.bits m')+1) * 4503599627370496+(m' * 2 ^ (53 - Nt.bits m') - 4503599627370496)
theorem bits_mul {m':Nat} (h0:0<m') (j:Nat):2 ^ (Nt.bits m' - 1+j)≤m' * 2 ^ j∧m' * 2 ^ j<2 ^ (Nt.bits m'+j):=by
 obtain ⟨h1,h2,h3⟩:=Nt.bits_pos h0
 rw [Nat.pow_add,Nat.pow_add]
 exact ⟨Nat.mul_le_mul_right _ h1,Nat.mul_lt_mul_of_pos_right h2 (Nat.two_pow_pos j)⟩
theorem bits_53 {m':Nat} (h0:0<m') (hL:Nt.bits m'≤53):4503599627370496≤m' * 2 ^ (53 - Nt.bits m')∧m' * 2 ^ (53 - Nt.bits m')<9007199254740992:=by
 obtain ⟨h1,h2⟩:=bits_mul h0 (53 - Nt.bits m')
 obtain ⟨_,_,h3⟩:=Nt.bits_pos h0
 rw [show Nt.bits m' - 1+(53 - Nt.bits m')=52 by omega] at h1
 rw [show Nt.bits m'+(53 - Nt.bits m')=53 by omega] at h2
 exact ⟨h1,h2⟩
theorem enc_ok {m' k:Nat} (h0:0<m') (hL:Nt.bits m'≤53) (hk:k+Nt.bits m'≤2098):enc m' k≤top∧V (enc m' k)=m' * 2 ^ k:=by
 obtain ⟨b1,b2⟩:=bits_53 h0 hL
 unfold enc
 split
 ·rename_i c
  have:=(bits_mul h0 k).2
  have h52:m' * 2 ^ k<4503599627370496:=Nat.lt_of_lt_of_le this (by
   rw [show (4503599627370496:Nat)=2 ^ 52 by decide];exact Nat.pow_le_pow_right (by omega) (by omega))
  exact ⟨by unfold top;omega,V_sub h52⟩
 ·rename_i c
  obtain ⟨v1,v2⟩:=V_norm (E:=k - (53 - Nt.bits m')) b1 b2
  refine ⟨by unfold top;omega,?_⟩
  unfold V
  rw [v1,v2,Nat.mul_assoc,←Nat.pow_add,show 53 - Nt.bits m'+(k - (53 - Nt.bits m'))=k by omega]
theorem join_enc {m m' n k:Nat} {e:Int} (neg:Bool) (hm:m=m' * 2 ^ n) (h0:0<m') (hk:e+n+1074=k) (hL:Nt.bits m'≤53) (hk2:k+Nt.bits m'≤2098):join neg m e=some (enc m' k+if neg then 9223372036854775808 else 0):=by
 obtain ⟨h1,h2⟩:=enc_ok h0 hL hk2
 refine join_some neg h1 ?_
 rw [h2,hm,Nat.mul_assoc,Nat.mul_assoc,←Nat.pow_add,←Nat.pow_add,show k+(-(e+1074)).toNat=n+(e+1074).toNat by omega]
theorem odd_pow {a b x y:Nat} (ha:a % 2=1) (h:a * 2 ^ x=b * 2 ^ y):y≤x∧b=a * 2 ^ (x - y):=by
 have hyx:y≤x:=by
  rcases Nat.lt_or_ge x y with c | c
  ·have e:y=x+(y - x - 1)+1:=by omega
   rw [e,Nat.pow_succ,Nat.pow_add,←Nat.mul_assoc,←Nat.mul_assoc] at h
   have h2:a=b * 2 ^ (y - x - 1) * 2:=by
    refine Nat.eq_of_mul_eq_mul_right (Nat.two_pow_pos x) ?_
    rw [h,Nat.mul_right_comm b,Nat.mul_right_comm (b * _)]
   omega
  ·exact c
 refine ⟨hyx,Nat.eq_of_mul_eq_mul_right (Nat.two_pow_pos y) ?_⟩
 rw [←h,Nat.mul_assoc,←Nat.pow_add,show x - y+y=x by omega]
theorem join_not {m m' n:Nat} {e:Int} (neg:Bool) (hm:m=m' * 2 ^ n) (ho:m' % 2=1) (h:e+n+1074<0∨53<Nt.bits m'∨2098<e+n+1074+Nt.bits m'):join neg m e=none:=by
 refine join_none neg fun p hp hv=>?_
 have h0:0<m':=by omega
 rw [hm,Nat.mul_assoc,←Nat.pow_add] at hv
 unfold V at hv
 rw [Nat.mul_assoc,←Nat.pow_add] at hv
 obtain ⟨q1,q2⟩:=odd_pow ho hv.symm
 have hs:=sh_top hp
 have hml:=man_lt p
 obtain ⟨r1,r2⟩:=bits_mul h0 (n+(e+1074).toNat - (sh p+(-(e+1074)).toNat))
 obtain ⟨_,_,r3⟩:=Nt.bits_pos h0
 rw [←q2] at r1 r2
 have r4:2 ^ (Nt.bits m' - 1+(n+(e+1074).toNat - (sh p+(-(e+1074)).toNat)))<2 ^ 53:=Nat.lt_of_le_of_lt r1 (by rw [show (2:Nat) ^ 53=9007199254740992 by decide];exact hml)
 have r5:=(Nat.pow_lt_pow_iff_right (by omega:1<2)).1 r4
 omega
theorem enc_lt (m' k:Nat) (h:enc m' k≤top):enc m' k<9223372036854775808:=by unfold top at h;omega
end Nr
theorem shl64_toNat (x:UInt64) (k:Nat):(shl64 x k).toNat=x.toNat * 2 ^ k % 18446744073709551616:=by unfold shl64;simp
theorem u64_eq {a b:UInt64} (h:a.toNat=b.toNat):a=b:=UInt64.toNat_inj.1 h
theorem u64_of (n:Nat):(UInt64.ofNat n).toNat=n % 18446744073709551616:=by simp
theorem mask52 (x:UInt64):(x &&& (4503599627370495:UInt64)).toNat=x.toNat % 4503599627370496:=by
 rw [UInt64.toNat_and]
 exact Nat.and_two_pow_sub_one_eq_mod x.toNat 52
def sgn (n:Bool):UInt64:=cond n 9223372036854775808 0
theorem sgn_toNat (n:Bool):(sgn n).toNat=if n then 9223372036854775808 else 0:=by cases n <;> rfl
theorem sgn_or (n:Bool) (x:UInt64) (h:x.toNat<9223372036854775808):(sgn n ||| x).toNat=x.toNat+(sgn n).toNat:=by
 rw [UInt64.toNat_or,sgn_toNat]
 cases n
 ·simp
 ·have:=or_add (a:=1) (k:=63) (b:=x.toNat) h
  rw [if_pos rfl]
  rw [show (9223372036854775808:Nat)=1 * 2 ^ 63 by decide,this];omega
theorem pat_some (p:Nat) (n:Bool) (h:p<9223372036854775808):Nr.pat (some (p+if n then 9223372036854775808 else 0))=UInt64.ofNat (p+(sgn n).toNat):=by rw [sgn_toNat];rfl
theorem db_Join.j1_ok (n:Bool) (m:UInt64) (e:Int) (he : -1100≤e∧e≤2000):db_Join.j1 m e (sgn n)=some [.u64 (Nr.pat (Nr.join n m.toNat e)),.b (Nr.join n m.toNat e).isSome]:=by
 refine db_Join.j1_in _ _ _ ?_
 intro v1 h1 v2 h2 v3 h3 v4 h4 v5 h5 v6 h6 v7 h7 v8 h8 v9 h9 v10 h10 v11 h11 v12 h12 v13 h13 v14 h14 v15 h15
 by_cases c0:m=0
 ·subst c0
  rw [decide_eq_true rfl,cond_true]
  have:(0:UInt64).toNat=0:=rfl
  rw [this,Nr.join_0,pat_some _ _ (by omega)]
  congr 2
  cases n <;> rfl
 ·have hm0:0<m.toNat:=by
   have:m.toNat≠0:=fun h=>c0 (u64_eq h)
   omega
  have hlt:=m.toNat_lt
  obtain ⟨q,hq,hc⟩:=Lib.ctzFrom_spec 64 m.toNat hm0 (by rw [show (2:Nat) ^ 64=18446744073709551616 by decide];exact hlt)
  have hct:Lib.ctz 64 m.toNat=Lib.ctzFrom 64 m.toNat:=by unfold Lib.ctz;rw [if_neg (by omega)]
  generalize hz:Lib.ctzFrom 64 m.toNat=z at *
  rw [hct] at h2
  have hm':m.toNat=(2 * q+1) * 2 ^ z:=by rw [hq,Nat.mul_comm]
  have hsh:(shr64 m v2.toNat).toNat=2 * q+1:=by
   rw [shr64_toNat,h2,Int.toNat_natCast,hm',Nat.mul_div_cancel _ (Nat.two_pow_pos z)]
  have hL:=Nt.bits_lt (n:=2 * q+1) (k:=64) (by rw [←hsh];exact (shr64 m v2.toNat).toNat_lt)
  obtain ⟨_,_,hL0⟩:=Nt.bits_pos (n:=2 * q+1) (by omega)
  rw [hsh] at h3
  generalize hLL:Nt.bits (2 * q+1)=L at *
  have ew:IntKind.i64.wrap (e+v2)=e+z:=by rw [h2,i64_in _ (by omega)]
  rw [ew] at h4 h5 h8 h12
  have e5:v5=e+z+L:=by rw [h5,h3,i64_in _ (by omega)]
  have e7:v7=e+z+L - 1:=by rw [h7,e5,i64_in _ (by omega)]
  have e8:v8=e+z+1074:=by rw [h8,i64_in _ (by omega)]
  have e10:v10=53 - L:=by rw [h10,h3,i64_in _ (by omega)]
  have e12:v12=e+z - (53 - L):=by rw [h12,e10,i64_in _ (by omega)]
  have e13:v13=e+z - (53 - L)+1075:=by rw [h13,e12,i64_in _ (by omega)]
  have e1:v1=false:=by rw [h1,decide_eq_false (show ¬e < -2000 by omega),decide_eq_false (show ¬2000<e by omega)];rfl
  have e4:v4=decide (53<L∨e+z < -1074):=by
   rw [h4,h3,Bool.decide_or]
   have:decide ((53:Int)<(L:Int))=decide (53<L):=by
    by_cases c:53<L
    ·rw [decide_eq_true c,decide_eq_true (by omega)]
    ·rw [decide_eq_false c,decide_eq_false (by omega)]
   rw [this];cases decide (53<L) <;> rfl
  have e6:v6=decide (53<L∨e+z < -1074∨1024<e+z+L):=by
   rw [h6,e4,e5]
   by_cases c:53<L∨e+z < -1074
   ·rw [decide_eq_true c,cond_true,decide_eq_true (by omega)]
   ·rw [decide_eq_false c,cond_false]
    by_cases d:1024<e+z+L
    ·rw [decide_eq_true d,decide_eq_true (by omega)]
    ·rw [decide_eq_false d,decide_eq_false (by omega)]
  have hcc:∀b:Bool,(!(!b) || !b)=true∧(b || !b)=true∧(!(!b) || (!b&&!b))=true:=by decide
  rw [decide_eq_false c0,cond_false,e1,ck_of (hcc _).1,ck_of (hcc _).2.1,cond_false,ck_of (decide_eq_true (by omega)),ck_of (hcc _).1,ck_of (hcc _).2.1,ck_of (hcc _).2.2,ck_of (hcc _).1,ck_of (hcc _).2.1,e6]
  by_cases c:53<L∨e+z < -1074∨1024<e+z+L
  ·rw [decide_eq_true c,cond_true,Nr.join_not (m':=2 * q+1) (n:=z) n hm' (by omega) (by omega)];rfl
  ·rw [decide_eq_false c,cond_false]
   obtain ⟨k,hk⟩:=Int.eq_ofNat_of_zero_le (show 0≤e+z+1074 by omega)
   obtain ⟨t1,t2⟩:=Nr.enc_ok (m':=2 * q+1) (k:=k) (by omega) (by omega) (by omega)
   have t3:=Nr.enc_lt _ _ t1
   rw [Nr.join_enc (m':=2 * q+1) (n:=z) (k:=k) n hm' (by omega) hk (by omega) (by omega),pat_some _ _ t3]
   by_cases d:e+z+L - 1 < -1022
   ·rw [e7,decide_eq_true d,cond_true,ck_of (decide_eq_true (by omega))]
    have he9:Nr.enc (2 * q+1) k=(2 * q+1) * 2 ^ k:=by unfold Nr.enc;rw [if_pos (by omega)]
    rw [he9] at t3 ⊢
    have e9:v9.toNat=(2 * q+1) * 2 ^ k:=by
     rw [h9,shl64_toNat,hsh,e8,hk,Int.toNat_natCast];omega
    have:sgn n ||| v9=UInt64.ofNat ((2 * q+1) * 2 ^ k+(sgn n).toNat):=by
     apply u64_eq
     rw [sgn_or _ _ (by omega),e9,u64_of,sgn_toNat]
     cases n
     ·simp;omega
     ·simp;omega
    rw [this];rfl
   ·rw [e7,decide_eq_false d,cond_false,ck_of (decide_eq_true (by omega))]
    obtain ⟨b1,b2⟩:=Nr.bits_53 (m':=2 * q+1) (by omega) (by omega)
    have he9:Nr.enc (2 * q+1) k=(k - (53 - L)+1) * 4503599627370496+((2 * q+1) * 2 ^ (53 - L) - 4503599627370496):=by unfold Nr.enc;rw [if_neg (by omega),hLL]
    rw [hLL] at b1 b2
    have e10':v10.toNat=53 - L:=by omega
    have e11:v11.toNat=(2 * q+1) * 2 ^ (53 - L):=by rw [h11,shl64_toNat,hsh,e10'];omega
    have e15:v15.toNat=(2 * q+1) * 2 ^ (53 - L) - 4503599627370496:=by rw [h15,mask52,e11];omega
    have e13':v13=((k - (53 - L)+1:Nat):Int):=by omega
    have e14:v14.toNat=(k - (53 - L)+1) * 4503599627370496:=by
     rw [h14,shl64_toNat,e13',u64_nat]
     have:(k - (53 - L)+1)<2048:=by omega
     show (k - (53 - L)+1) % 18446744073709551616 * 4503599627370496 % 18446744073709551616=_
     omega
    have h9':(v14 ||| v15).toNat=Nr.enc (2 * q+1) k:=by
     rw [UInt64.toNat_or,e14,e15,he9]
     exact or_add (k:=52) (by omega)
    have:(sgn n ||| v14) ||| v15=UInt64.ofNat (Nr.enc (2 * q+1) k+(sgn n).toNat):=by
     apply u64_eq
     rw [UInt64.or_assoc,sgn_or _ _ (by omega),h9',u64_of,sgn_toNat]
     cases n
     ·simp;omega
     ·simp;omega
    rw [this];rfl
theorem db_Join.goal (n:Bool) (m:UInt64) (e:Int) (hp:decide (-1100≤e∧e≤2000)=true):db_Join.F n m e=some [.u64 (Nr.pat (Nr.join n m.toNat e)),.b (Nr.join n m.toNat e).isSome]:=by
 rw [db_Join.F_eq]
 cases n
 ·exact db_Join.j1_ok false m e (of_decide_eq_true hp)
 ·exact db_Join.j1_ok true m e (of_decide_eq_true hp)
end Go.Eng
namespace Go.Eng
namespace Nr
theorem mid_lt {p q:Nat} (h:p<q):mid p<mid q:=by
 rw [mid_eq,mid_eq]
 have h1:=V_lt h
 have h2:=V_lt (show p+1<q+1 by omega)
 omega
theorem above_down {a b p q:Nat} (hb:0<b) (h:Above a b p) (hq:q<p):Above a b q:=by
 have h1:mid q * b<mid p * b:=Nat.mul_lt_mul_of_pos_right (mid_lt hq) hb
 rcases h with h | ⟨h,_⟩
 ·exact .inl (Nat.lt_trans h1 h)
 ·exact .inl (by omega)
theorem near_some {a b p:Nat} (hb:0<b) (hp:p≤top) (h1:¬Above a b p) (h2:p=0∨Above a b (p - 1)):near a b=some p:=by
 classical
 have hall:∀q,q<p→Above a b q:=fun q hq=>by
  rcases h2 with h2 | h2
  ·omega
  ·by_cases c:q=p - 1
   ·rw [c];exact h2
   ·exact above_down hb h2 (by omega)
 have hx:∃p,p≤top∧¬Above a b p∧∀q,q<p→Above a b q:=⟨p,hp,h1,hall⟩
 unfold near
 rw [dif_pos hx]
 obtain ⟨_,c2,c3⟩:=hx.choose_spec
 congr 1
 rcases Nat.lt_trichotomy hx.choose p with c | c | c
 ·exact (c2 (hall _ c)).elim
 ·exact c
 ·exact (h1 (c3 _ c)).elim
theorem near_none {a b:Nat} (hb:0<b) (h:Above a b top):near a b=none:=by
 classical
 unfold near
 rw [dif_neg]
 rintro ⟨p,h1,h2,_⟩
 rcases Nat.lt_or_eq_of_le h1 with c | c
 ·exact h2 (above_down hb h c)
 ·exact h2 (by rw [c];exact h)
theorem above_scale {a b c p:Nat} (hc:0<c):Above (a * c) (b * c) p ↔ Above a b p:=by
 unfold Above
 rw [←Nat.mul_assoc,Nat.mul_right_comm a c]
 constructor
 ·rintro (h | ⟨h,o⟩)
  ·exact .inl (Nat.lt_of_mul_lt_mul_right h)
  ·exact .inr ⟨Nat.eq_of_mul_eq_mul_right hc h,o⟩
 ·rintro (h | ⟨h,o⟩)
  ·exact .inl (Nat.mul_lt_mul_of_pos_right h hc)
  ·exact .inr ⟨by rw [h],o⟩
theorem near_scale {a b c:Nat} (hc:0<c):near (a * c) (b * c)=near a b:=by
 have e:Above (a * c) (b * c)=Above a b:=funext fun p=>propext (above_scale hc)
 unfold near
 rw [e]
theorem near_cross {a b c d:Nat} (hb:0<b) (hd:0<d) (h:a * d=c * b):near a b=near c d:=by
 rw [←near_scale (a:=a) (b:=b) hd,h,Nat.mul_comm b d,near_scale hb]
theorem pw_split {a b c d:Nat} (h:a+b=c+d):2 ^ a * 2 ^ b=2 ^ c * 2 ^ d:=by rw [←Nat.pow_add,h,Nat.pow_add]
theorem mul_two {a T U:Nat} (h:U=2 * T):a * U=2 * (a * T):=by rw [h,Nat.mul_left_comm]
theorem pw_six (k:Nat):2 ^ (6+k)=64 * 2 ^ k:=by rw [Nat.pow_add]
theorem mul_four {n b p q r s:Nat} (h:p * q=r * s):n * p * b * q=n * (b * r) * s:=by
 rw [Nat.mul_assoc n p,Nat.mul_assoc n,Nat.mul_right_comm p,h,Nat.mul_assoc n,Nat.mul_comm (r * s),Nat.mul_assoc b]
theorem two1075_eq:two1075=2 * 2 ^ 1074:=by decide +kernel
theorem mul_three {p q b a:Nat} (h:p * b≤a):p * q * b≤a * q:=by
 rw [Nat.mul_right_comm];exact Nat.mul_le_mul_right _ h
theorem hv_le {v p q b a:Nat} (hv:v=p * q) (h:p * b≤a):v * b≤a * q:=by subst hv;exact mul_three h
theorem near_of {a b p:Nat} (hb:0<b) (h1:V p * b≤a * 2 ^ 1074) (h2:a * 2 ^ 1074<V (p+1) * b) (hp:p≤top) [Decidable (Above a b p)] :
  near a b=if Above a b p then (if p+1≤top then some (p+1) else none) else some p:=by
 have e:a * two1075=2 * (a * 2 ^ 1074):=mul_two two1075_eq
 split
 ·rename_i h
  split
  ·rename_i ht
   refine near_some hb ht ?_ (.inr h)
   unfold Above
   rw [e,mid_eq,Nat.add_mul]
   have:=Nat.mul_lt_mul_of_pos_right (V_lt_succ (p+1)) hb
   omega
  ·rename_i ht
   have:p=top:=by omega
   exact near_none hb (this ▸ h)
 ·rename_i h
  refine near_some hb hp h ?_
  by_cases c:p=0
  ·exact .inl c
  ·refine .inr (.inl ?_)
   rw [e,mid_eq,Nat.add_mul,show p - 1+1=p by omega]
   have:=Nat.mul_lt_mul_of_pos_right (V_lt (show p - 1<p by omega)) hb
   omega
theorem near_big {a b p:Nat} (hb:0<b) (h1:V p * b≤a * 2 ^ 1074) (hp:top<p):near a b=none:=by
 refine near_none hb (.inl ?_)
 have e:a * two1075=2 * (a * 2 ^ 1074):=mul_two two1075_eq
 rw [e,mid_eq,Nat.add_mul]
 have h3:=Nat.mul_lt_mul_of_pos_right (V_lt (show top<p by omega)) hb
 have h4:=Nat.mul_le_mul_right b (V_le (show top+1≤p by omega))
 omega
theorem near_zero (b:Nat) (hb:0<b):near 0 b=some 0:=by
 refine near_some hb (Nat.zero_le _) ?_ (.inl rfl)
 unfold Above
 rw [Nat.zero_mul]
 have:0<mid 0 * b:=Nat.mul_pos (by decide) hb
 omega
theorem near_low {a b:Nat} (hb:0<b) (h:a * two1075≤b):near a b=some 0:=by
 refine near_some hb (Nat.zero_le _) ?_ (.inl rfl)
 unfold Above
 have e:mid 0 * b=b:=by rw [show mid 0=1 by decide,Nat.one_mul]
 rw [e]
 omega
def two1024:Nat:=2 ^ 1024
theorem V_top2:V (top+1)=two1024 * 2 ^ 1074:=by decide +kernel
theorem near_high {a b:Nat} (hb:0<b) (h:two1024 * b≤a):near a b=none:=by
 refine near_none hb (.inl ?_)
 rw [mid_eq,Nat.add_mul]
 have h3:=Nat.mul_lt_mul_of_pos_right (V_lt_succ top) hb
 have h4:V (top+1) * b≤a * 2 ^ 1074:=by
  exact hv_le V_top2 h
 have e:a * two1075=2 * (a * 2 ^ 1074):=mul_two two1075_eq
 omega
theorem near_le {a b p:Nat} (h:near a b=some p):p≤top:=by
 unfold near at h
 split at h
 ·rename_i hx
  have:=hx.choose_spec.1
  injection h with h
  rw [h] at this;exact this
 ·cases h
end Nr
end Go.Eng
namespace Go.Eng
open Go.IntWalk
theorem take_cmp {a b:List UInt16} (i:Nat) (ha:i<a.length) (hb:i<b.length) (h:(a.getD i 0).toNat<(b.getD i 0).toNat):Nt.val (a.take (i+1))<Nt.val (b.take (i+1)):=by
 rw [val_take_succ a i ha,val_take_succ b i hb]
 have h1:=Nt.val_lt (a.take i)
 rw [List.length_take,Nat.min_eq_left (by omega)] at h1
 generalize (a.getD i 0).toNat=x at *
 generalize (b.getD i 0).toNat=y at *
 have:65536 ^ i * x+65536 ^ i≤65536 ^ i * y:=by
  rw [←Nat.mul_succ];exact Nat.mul_le_mul_left _ (by omega)
 omega
theorem drop_eq_take {a b:List UInt16} (hl:a.length=b.length) (i:Nat) (h:a.drop i=b.drop i):(Nt.val a<Nt.val b ↔ Nt.val (a.take i)<Nt.val (b.take i))∧(Nt.val a=Nt.val b ↔ Nt.val (a.take i)=Nt.val (b.take i)):=by
 have e1:Nt.val a=Nt.val (a.take i)+65536 ^ (a.take i).length * Nt.val (a.drop i):=by rw [←Nt.val_append,List.take_append_drop]
 have e2:Nt.val b=Nt.val (b.take i)+65536 ^ (b.take i).length * Nt.val (b.drop i):=by rw [←Nt.val_append,List.take_append_drop]
 have e3:(b.take i).length=(a.take i).length:=by rw [List.length_take,List.length_take,hl]
 rw [e3,←h] at e2
 omega
theorem bg_cmp.l1_ok (a b:List UInt16) (hl:a.length=b.length) (hb:a.length≤1099511627776):∀(n:Nat),n≤a.length→a.drop n=b.drop n→bg_cmp.l1 a b ((n:Int) - 1)=some [.i .i64 (Nt.cmp (Nt.val a) (Nt.val b))]:=by
 intro n
 induction n with
 | zero =>
  intro hn hd
  refine bg_cmp.l1_in _ _ _ ?_
  intro v1 h1 v2 h2 v3 h3
  simp only [List.drop_zero] at hd
  rw [decide_eq_false (by omega),cond_false,hd,Nt.cmp,if_neg (by omega),if_pos rfl]
 | succ n ih =>
  intro hn hd
  refine bg_cmp.l1_in _ _ _ ?_
  intro v1 h1 v2 h2 v3 h3
  have e:((n+1:Nat):Int) - 1=(n:Int):=by omega
  rw [e] at h1 h2 h3 ⊢
  rw [Int.toNat_natCast] at h1 h2
  rw [decide_eq_true (by omega),cond_true,ck_of (idx_ok (by omega) (by omega)),ck_of (idx_ok (by omega) (by omega))]
  obtain ⟨d1,d2⟩:=drop_eq_take hl (n+1) hd
  by_cases c:v1=v2
  ·rw [decide_eq_true c,Bool.not_true,cond_false,h3,i64_in _ (by omega)]
   refine ih (by omega) ?_
   rw [drop_cons (show n<a.length by omega) 0,drop_cons (show n<b.length by omega) 0,hd,←h1,←h2,c]
  ·rw [decide_eq_false c,Bool.not_false,cond_true,ck_of (idx_ok (by omega) (by omega)),ck_of (idx_ok (by omega) (by omega))]
   by_cases c2:v1<v2
   ·have:=take_cmp (a:=a) (b:=b) n (by omega) (by omega) (by rw [←h1,←h2];exact UInt16.lt_iff_toNat_lt.1 c2)
    rw [decide_eq_true c2,cond_true,Nt.cmp,if_pos (d1.2 this)]
   ·have h4:v2.toNat<v1.toNat:=by
     have h5:v1.toNat≠v2.toNat:=fun e=>c (UInt16.toNat_inj.1 e)
     rw [UInt16.lt_iff_toNat_lt] at c2;omega
    have:=take_cmp (a:=b) (b:=a) n (by omega) (by omega) (by rw [←h1,←h2];exact h4)
    rw [decide_eq_false c2,cond_false,Nt.cmp,if_neg (fun e=>by have:=d1.1 e;omega),if_neg (fun e=>by have:=d2.1 e;omega)]
theorem bg_cmp.goal (a b:List UInt16) (hp:(decide (a.length≤1099511627776∧b.length≤1099511627776)&&(Nt.norm a&&Nt.norm b))=true):bg_cmp.F a b=some [.i .i64 (Nt.cmp (Nt.val a) (Nt.val b))]:=by
 simp only [Bool.and_eq_true,decide_eq_true_eq] at hp
 obtain ⟨⟨l1,l2⟩,n1,n2⟩:=hp
 refine bg_cmp.F_in _ _ ?_
 intro v1 h1
 rcases Nat.lt_trichotomy a.length b.length with c | c | c
 ·have:=Nt.lt_of_len n2 c
  rw [decide_eq_false (show ¬(a.length:Int)=b.length by omega),Bool.not_false,cond_true,decide_eq_true (by omega),cond_true,Nt.cmp,if_pos this]
 ·rw [decide_eq_true (show (a.length:Int)=b.length by omega),Bool.not_true,cond_false,h1,len_i64 l1]
  exact bg_cmp.l1_ok a b c l1 a.length (Nat.le_refl _) (by rw [List.drop_length,c,List.drop_length])
 ·have:=Nt.lt_of_len n1 c
  rw [decide_eq_false (show ¬(a.length:Int)=b.length by omega),Bool.not_false,cond_true,decide_eq_false (by omega),cond_false,Nt.cmp,if_neg (by omega),if_neg (by omega)]
theorem bg_Cmp.goal (a b:List UInt16) (hp:(Nt.is a&&Nt.is b)=true):bg_Cmp.F a b=some [.i .i64 (Nt.cmp (Nt.val a) (Nt.val b))]:=by
 simp only [Bool.and_eq_true] at hp
 have l1:=Nt.is_len hp.1
 have l2:=Nt.is_len hp.2
 refine bg_Cmp.F_in _ _ ?_
 intro v1 h1 v2 h2
 rw [hp.1,hp.2] at h1
 rw [hp.1]
 have e1:v1=false:=h1
 have d1:decide (a.length≤1099511627776)=true:=decide_eq_true (by omega)
 have d2:decide (b.length≤1099511627776)=true:=decide_eq_true (by omega)
 have d3:decide (a.length≤1099511627776∧b.length≤1099511627776)=true:=decide_eq_true ⟨by omega,by omega⟩
 rw [d1,d2,d3,e1,h2,Nt.is_norm hp.1,Nt.is_norm hp.2]
 rfl
theorem bg_numbers.l1_ok (a:List UInt16) (ha:a.length≤256):∀(m i:Nat) (acc:List Int),i+m=a.length→acc.length=a.length→(acc.take i)=(a.take i).map (fun d=>(d.toNat:Int))→bg_numbers.l1 a a.length i acc=some [.sl .is (a.map fun d=>(d.toNat:Int))]:=by
 intro m
 induction m with
 | zero =>
  intro i acc hi hl ht
  refine bg_numbers.l1_in _ _ _ _ ?_
  intro v1 h1 v2 h2 v3 h3 v4 h4
  rw [List.take_of_length_le (by omega),List.take_of_length_le (by omega)] at ht
  rw [decide_eq_false (by omega),cond_false,ht]
 | succ m ih =>
  intro i acc hi hl ht
  refine bg_numbers.l1_in _ _ _ _ ?_
  intro v1 h1 v2 h2 v3 h3 v4 h4
  rw [Int.toNat_natCast] at h1 h3
  have hv:=v1.toNat_lt
  rw [i64_in _ (by omega)] at h2
  have e4:v4=((i+1:Nat):Int):=by rw [h4,i64_in _ (by omega)];omega
  rw [decide_eq_true (by omega),cond_true,ck_of (idx_ok (by omega) (by omega)),ck_of (idx_ok (by omega) (by omega)),ck_of (decide_eq_true (by rw [Int.toNat_natCast];omega)),e4]
  refine ih (i+1) v3 (by omega) (by rw [h3,List.length_set];exact hl) ?_
  have hia:i<a.length:=by omega
  rw [h3,List.take_set,List.take_add_one,List.take_add_one,List.map_append,ht.symm]
  have hil:i<acc.length:=by omega
  rw [List.getElem?_eq_getElem hil,List.getElem?_eq_getElem hia]
  have hlt:(acc.take i).length=i:=by rw [List.length_take];omega
  simp only [Option.toList_some,List.map_cons,List.map_nil]
  rw [List.set_append_right _ _ (by omega),hlt,Nat.sub_self,List.set_cons_zero,h2,h1,List.getD_eq_getElem?_getD,List.getElem?_eq_getElem hia]
  rfl
theorem bg_numbers.goal (a:List UInt16) (hp:decide (a.length≤256)=true):bg_numbers.F a=some [.sl .is (a.map fun d=>(d.toNat:Int))]:=by
 have h:=of_decide_eq_true hp
 refine bg_numbers.F_in _ ?_
 intro v1 h1
 rw [Int.toNat_natCast] at h1
 rw [ck_of (mkOK_iff.2 ⟨by omega,by omega,by omega,by rw [maxLen_eq];omega⟩)]
 exact bg_numbers.l1_ok a h a.length 0 v1 (by omega) (by rw [h1];simp) (by simp)
end Go.Eng
namespace Go.Eng
open Go.IntWalk
theorem Nt.fix_succ (k n:Nat):Nt.fix (k+1) n=Nt.fix k n++[UInt16.ofNat (n / 65536 ^ k)]:=by
 induction k generalizing n with
 | zero=>simp [Nt.fix]
 | succ k ih =>
  rw [Nt.fix,ih (n / 65536),Nt.fix,List.cons_append,Nat.div_div_eq_div_mul,Nat.pow_succ,Nat.mul_comm 65536]
theorem Nt.of_fix {k n:Nat} (h1:n<65536 ^ k) (h2:k=0∨65536 ^ (k - 1)≤n):Nt.of n=Nt.fix k n:=by
 have e:Nt.val (Nt.fix k n)=n:=by rw [Nt.val_fix,Nat.mod_eq_of_lt h1]
 conv=>lhs;rw [←e]
 refine Nt.of_val ?_
 rcases h2 with rfl | h2
 ·rfl
 ·cases k with
  | zero=>rfl
  | succ k =>
   rw [Nt.fix_succ,Nt.norm_snoc]
   rw [Nat.add_sub_cancel] at h2
   refine decide_eq_true fun e0=>?_
   have:=congrArg UInt16.toNat e0
   rw [Nt.u16_ofNat] at this
   have h3:n / 65536 ^ k<65536:=(Nat.div_lt_iff_lt_mul (Nat.pow_pos (by omega))).2 (by rw [Nat.pow_succ,Nat.mul_comm] at h1;exact h1)
   have h4:0<n / 65536 ^ k:=Nat.div_pos h2 (Nat.pow_pos (by omega))
   have e0:(0:UInt16).toNat=0:=rfl
   omega
theorem u16_wrap (n:Nat):UInt16.ofInt (n:Int)=UInt16.ofNat n:=u16_of_u64 n
theorem fdiv16 (n:Nat):Int.fdiv (n:Int) (2 ^ (min (16:UInt64).toNat IntKind.i64.bits))=((n / 65536:Nat):Int):=by
 rw [show (2:Int) ^ (min (16:UInt64).toNat IntKind.i64.bits)=65536 by decide,Int.fdiv_eq_ediv_of_nonneg _ (by omega)]
 omega
theorem bg_more.l1_ok (a:List UInt16) (b c:Nat) (ha:a.length≤1000000) (hb:1≤b∧b≤65535) (hc:c≤65535) (hn:Nt.norm a=true):∀(m i:Nat) (acc:List UInt16) (k:Nat),i+m=a.length→acc.length=i→k≤65535→Nt.val acc+65536 ^ i * k=Nt.val (a.take i) * b+c →
  bg_more.l1 b acc k a a.length i=some [.sl .ws (Nt.of (Nt.val a * b+c))]:=by
 intro m
 induction m with
 | zero =>
  intro i acc k hi hl hk hv
  refine bg_more.l1_in _ _ _ _ _ _ ?_
  intro v1 h1 v2 h2 v3 h3 v4 h4 v5 h5 v6 h6 v7 h7
  rw [List.take_of_length_le (by omega)] at hv
  rw [decide_eq_false (by omega),cond_false]
  have hia:i=a.length:=by omega
  by_cases c0:k=0
  ·subst c0
   rw [decide_eq_false (by omega),cond_false,bg_more.j2_eq,←hv,Nat.mul_zero,Nat.add_zero,Nt.of_val]
   by_cases h0:a=[]
   ·subst h0
    have:acc=[]:=List.eq_nil_of_length_eq_zero (by rw [hl,hia];rfl)
    rw [this];rfl
   ·-- the last digit is no nought
    have hpos:=norm_last hn h0
    have hl0:=List.length_pos_iff.2 h0
    have h0':acc≠[]:=by intro e;subst e;simp at hl;omega
    rw [norm_getD h0']
    simp only [Bool.not_eq_true',decide_eq_false_iff_not]
    intro e0
    have hva:=val_take_succ acc (acc.length - 1) (by omega)
    rw [show acc.length - 1+1=acc.length by omega,List.take_length,e0] at hva
    have hlt:=Nt.val_lt (acc.take (acc.length - 1))
    rw [List.length_take,Nat.min_eq_left (by omega),hl,hia] at hlt
    rw [hl,hia] at hva
    have h5:65536 ^ (a.length - 1) * 1≤65536 ^ (a.length - 1) * (a.getD (a.length - 1) 0).toNat:=Nat.mul_le_mul_left _ hpos.1
    have h6:Nt.val a * 1≤Nt.val a * b:=Nat.mul_le_mul_left _ hb.1
    have e0':(0:UInt16).toNat=0:=rfl
    rw [e0'] at hva
    omega
  ·have e7:v7=[UInt16.ofNat k]:=by rw [h7,u16_wrap]
   rw [decide_eq_true (by omega),cond_true,ck_of (big_ap (by rw [e7,List.length_singleton];omega) (by rw [e7,List.length_singleton];omega)),bg_more.j2_eq,e7,←hv]
   have e8:Nt.val (acc++[UInt16.ofNat k])=Nt.val acc+65536 ^ i * k:=by
    rw [Nt.val_append,hl];simp only [Nt.val,Nat.mul_zero,Nat.add_zero,Nt.u16_ofNat];rw [Nat.mod_eq_of_lt (by omega)]
   rw [←e8,Nt.of_val]
   rw [Nt.norm_snoc]
   refine decide_eq_true fun e=>?_
   have:=congrArg UInt16.toNat e
   rw [Nt.u16_ofNat] at this
   have e0:(0:UInt16).toNat=0:=rfl
   omega
 | succ m ih =>
  intro i acc k hi hl hk hv
  refine bg_more.l1_in _ _ _ _ _ _ ?_
  intro v1 h1 v2 h2 v3 h3 v4 h4 v5 h5 v6 h6 v7 h7
  rw [Int.toNat_natCast] at h1
  have hd:=v1.toNat_lt
  rw [i64_in _ (by omega)] at h2
  have hm:v1.toNat * b≤65535 * 65535:=Nat.mul_le_mul (by omega) hb.2
  have e3:v3=((k+v1.toNat * b:Nat):Int):=by
   have e:v2 * (b:Int)=((v1.toNat * b:Nat):Int):=by rw [h2,Int.natCast_mul]
   rw [h3,e,i64_in ((v1.toNat * b:Nat):Int) (by omega),i64_in _ (by omega)];omega
  have e4:v4=[UInt16.ofNat (k+v1.toNat * b)]:=by rw [h4,e3,u16_wrap]
  have e5:v5=(((k+v1.toNat * b) / 65536:Nat):Int):=by rw [h5,e3,fdiv16]
  have e6:v6=((i+1:Nat):Int):=by rw [h6,i64_in _ (by omega)];omega
  rw [decide_eq_true (by omega),cond_true,ck_of (idx_ok (by omega) (by omega)),ck_of (big_ap (by rw [e4,List.length_singleton];omega) (by rw [e4,List.length_singleton];omega)),e5,e6,e4]
  refine ih (i+1) _ _ (by omega) (by rw [List.length_append,hl];rfl) (by omega) ?_
  rw [val_take_succ a i (by omega),←h1,Nt.val_append,hl]
  simp only [Nt.val,Nat.mul_zero,Nat.add_zero,Nt.u16_ofNat]
  generalize hq:k+v1.toNat * b=q
  rw [Nat.pow_succ,Nat.mul_assoc,Nat.add_assoc,←Nat.mul_add]
  have:q % 65536+65536 * (q / 65536)=q:=Nat.mod_add_div q 65536
  rw [this,←hq,Nat.mul_add,Nat.add_mul,←Nat.mul_assoc]
  omega
theorem bg_more.goal (a:List UInt16) (b c:Int) (hp:(decide (a.length≤1000000∧1≤b∧b≤65535∧0≤c∧c≤65535)&&Nt.norm a)=true):bg_more.F a b c=some [.sl .ws (Nt.of (Nt.val a * b.toNat+c.toNat))]:=by
 simp only [Bool.and_eq_true,decide_eq_true_eq] at hp
 obtain ⟨⟨l1,b1,b2,c1,c2⟩,n1⟩:=hp
 refine bg_more.F_in _ _ _ ?_
 intro v1 h1 v2 h2
 have e1:v1=((a.length+1:Nat):Int):=by rw [h1,i64_in _ (by omega)];omega
 rw [e1,ck_of (mkOK_iff.2 ⟨by omega,by omega,by omega,by rw [maxLen_eq];omega⟩)]
 have eb:(b.toNat:Int)=b:=by omega
 have ec:(c.toNat:Int)=c:=by omega
 have:=bg_more.l1_ok a b.toNat c.toNat l1 ⟨by omega,by omega⟩ (by omega) n1 a.length 0 v2 c.toNat (by omega) (by rw [h2];rfl) (by omega) (by rw [h2];simp [Nt.val])
 rw [eb,ec] at this
 exact this
end Go.Eng
namespace Go.Eng
open Go.IntWalk
theorem bg_Power.l1_ok (b E:Nat) (hb:2≤b∧b≤65535) (hE:E≤1000) (hlt:b ^ E<2 ^ 4096):∀(m:Nat),m≤E→bg_Power.l1 b m (Nt.of (b ^ (E - m)))=some [.sl .ws (Nt.of (b ^ E)),.b true]:=by
 intro m
 induction m with
 | zero =>
  intro hm
  refine bg_Power.l1_in _ _ _ ?_
  intro v1 h1 v2 h2
  rw [decide_eq_false (by omega),cond_false,Nat.sub_zero]
 | succ m ih =>
  intro hm
  refine bg_Power.l1_in _ _ _ ?_
  intro v1 h1 v2 h2
  have hle:∀j,j≤E→b ^ j<2 ^ 4096:=fun j hj=>Nat.lt_of_le_of_lt (Nat.pow_le_pow_right (by omega) hj) hlt
  have hi:=Nt.is_of (hle (E - (m+1)) (by omega))
  have hl:=Nt.is_len hi
  have e1:v1=Nt.of (b ^ (E - m)):=by
   rw [h1,Nt.val_of,Int.toNat_natCast,show (0:Int).toNat=0 from rfl,Nat.add_zero,←Nat.pow_succ]
   congr 2;omega
  have hi2:=Nt.is_of (hle (E - m) (by omega))
  have hl2:=Nt.is_len hi2
  rw [decide_eq_true (by omega),cond_true,Nt.norm_of,ck_of (by rw [Bool.and_true];exact decide_eq_true (by omega)),e1,ck_of (decide_eq_true (by omega)),hi2,Bool.not_true,cond_false,h2,i64_in _ (by omega)]
  rw [show ((m+1:Nat):Int) - 1=(m:Int) by omega]
  exact ih (by omega)
theorem bg_Power.goal (b e:Int) (hp:decide (2≤b∧b≤65535∧0≤e∧e≤1000∧b.toNat ^ e.toNat<2 ^ 4096)=true):bg_Power.F b e=some [.sl .ws (Nt.of (b.toNat ^ e.toNat)),.b true]:=by
 obtain ⟨b1,b2,e1,e2,hlt⟩:=of_decide_eq_true hp
 refine bg_Power.F_in _ _ ?_
 intro v1 h1 v2 h2 v3 h3 v4 h4
 have d1:v1=false:=by rw [h1,decide_eq_false (by omega),cond_false];exact decide_eq_false (by omega)
 have d2:v2=false:=by rw [h2,d1,cond_false];exact decide_eq_false (by omega)
 simp only [Bool.not_or_self,Bool.or_not_self,Bool.not_not,ck_true]
 rw [d2,cond_false]
 by_cases c:e=0
 ·have d3:v3=true:=by rw [h3,decide_eq_true c,cond_true]
  rw [d3,cond_true,c,h4,show (0:Int).toNat=0 from rfl,Nat.pow_zero];rfl
 ·have d3:v3=false:=by rw [h3,decide_eq_false c,cond_false];exact decide_eq_false (by omega)
  rw [d3,cond_false,decide_eq_false (by omega),cond_false]
  have:=bg_Power.l1_ok b.toNat e.toNat ⟨by omega,by omega⟩ (by omega) hlt e.toNat (Nat.le_refl _)
  rw [Nat.sub_self,Nat.pow_zero,show ((b.toNat:Nat):Int)=b by omega,show ((e.toNat:Nat):Int)=e by omega] at this
  rw [h4];exact this
theorem Nr.num_snoc (d:Str) (c:UInt8):Nr.num (d++[c])=10 * Nr.num d+(c.toNat - 48):=by
 unfold Nr.num;rw [List.foldl_append];rfl
theorem Nr.isDig_iff {c:UInt8}:Nr.isDig c=true ↔ 48≤c.toNat∧c.toNat≤57:=by
 simp only [Nr.isDig,decide_eq_true_eq,UInt8.le_iff_toNat_le];exact Iff.rfl
theorem Nr.num_go (d:Str) (h:d.all Nr.isDig=true):∀n:Nat,d.foldl (fun n c=>10 * n+(c.toNat - 48)) n<(n+1) * 10 ^ d.length:=by
 induction d with
 | nil=>intro n;simp
 | cons c d ih =>
  intro n
  rw [List.all_cons,Bool.and_eq_true,Nr.isDig_iff] at h
  rw [List.foldl_cons,List.length_cons,Nat.pow_succ]
  refine Nat.lt_of_lt_of_le (ih h.2 _) ?_
  rw [Nat.mul_comm (10 ^ d.length),←Nat.mul_assoc]
  exact Nat.mul_le_mul_right _ (by omega)
theorem Nr.num_lt (d:Str) (h:d.all Nr.isDig=true):Nr.num d<10 ^ d.length:=by
 have:=Nr.num_go d h 0
 rwa [Nat.zero_add,Nat.one_mul] at this
theorem take_snoc {s:Str} {i:Nat} (h:i<s.length):s.take (i+1)=s.take i++[s.getD i 0]:=by
 rw [List.take_add_one,List.getElem?_eq_getElem h,List.getD_eq_getElem?_getD,List.getElem?_eq_getElem h];rfl
theorem all_getD {s:Str} {i:Nat} (hs:s.all Nr.isDig=true) (h:i<s.length):48≤(s.getD i 0).toNat∧(s.getD i 0).toNat≤57:=by
 rw [List.getD_eq_getElem?_getD,List.getElem?_eq_getElem h]
 have:=List.all_eq_true.1 hs _ (List.getElem_mem h)
 simp only [Nr.isDig,decide_eq_true_eq] at this
 exact ⟨UInt8.le_iff_toNat_le.1 this.1,UInt8.le_iff_toNat_le.1 this.2⟩
theorem ten300 (k:Nat) (h:k≤300):10 ^ k<2 ^ 4096:=by
 have hk:∀n:Nat,n=300→10 ^ k≤10 ^ n:=fun n hn=>Nat.pow_le_pow_right (by omega) (by omega)
 exact Nat.lt_of_le_of_lt (hk 300 rfl) (by decide +kernel)
theorem bg_Parse.l1_ok (s:Str) (hs:s.all Nr.isDig=true) (hl:s.length≤300):∀(m i:Nat),i+m=s.length→bg_Parse.l1 s (Nt.of (Nr.num (s.take i))) s.length i=some [.sl .ws (Nt.of (Nr.num s)),.b true]:=by
 have hlt:∀i,Nr.num (s.take i)<2 ^ 4096:=fun i=>by
  have h1:=Nr.num_lt (s.take i) (by rw [List.all_eq_true] at hs ⊢;exact fun x hx=>hs x (List.mem_of_mem_take hx))
  have h2:(s.take i).length≤300:=by rw [List.length_take];omega
  exact Nat.lt_of_lt_of_le h1 (Nat.le_of_lt (ten300 _ h2))
 intro m
 induction m with
 | zero =>
  intro i hi
  have hii:=Nt.is_of (hlt i)
  refine bg_Parse.l1_in _ _ _ _ ?_
  intro v1 h1 v2 h2 v3 h3 v4 h4 v5 h5
  have hll:=Nt.is_len hii
  rw [decide_eq_false (by omega),cond_false,ck_of (decide_eq_true (by omega)),hii,Bool.not_true,cond_false,List.take_of_length_le (by omega)]
 | succ m ih =>
  intro i hi
  have hii:=Nt.is_of (hlt i)
  refine bg_Parse.l1_in _ _ _ _ ?_
  intro v1 h1 v2 h2 v3 h3 v4 h4 v5 h5
  have hll:=Nt.is_len hii
  rw [Int.toNat_natCast] at h1
  obtain ⟨c1,c2⟩:=all_getD hs (show i<s.length by omega)
  rw [←h1] at c1 c2
  have f1:decide (v1<(48:UInt8))=false:=decide_eq_false fun e=>by
   have:=UInt8.lt_iff_toNat_lt.1 e
   have e0:(48:UInt8).toNat=48:=rfl
   omega
  have f2:decide ((57:UInt8)<v1)=false:=decide_eq_false fun e=>by
   have:=UInt8.lt_iff_toNat_lt.1 e
   have e0:(57:UInt8).toNat=57:=rfl
   omega
  have e2:v2=false:=by rw [h2,f1,cond_false,f2]
  have e3:v3=((v1.toNat - 48:Nat):Int):=by
   have e:(v1 - 48).toNat=v1.toNat - 48:=UInt8.toNat_sub_of_le v1 48 (UInt8.le_iff_toNat_le.2 c1)
   rw [h3,e,i64_in _ (by omega)]
  have e5:v5=((i+1:Nat):Int):=by rw [h5,i64_in _ (by omega)];omega
  have e4:v4=Nt.of (Nr.num (s.take (i+1))):=by
   rw [h4,Nt.val_of,take_snoc (by omega),Nr.num_snoc,←h1,e3,Int.toNat_natCast,show (10:Int).toNat=10 from rfl,Nat.mul_comm]
  have hx:idxOK (i:Int) s.length=true:=idx_ok (by omega) (by omega)
  have hc:decide ((Nt.of (Nr.num (s.take i))).length≤1000000∧1≤(10:Int)∧(10:Int)≤65535∧0≤v3∧v3≤65535)=true:=decide_eq_true (by omega)
  rw [decide_eq_true (show (i:Int)<s.length by omega)]
  simp only [f1,e2,hx,hc,Nt.norm_of,Bool.not_false,Bool.not_true,Bool.false_or,Bool.or_true,Bool.true_or,Bool.and_self,ck_true,cond_false,cond_true]
  rw [e4,e5]
  exact ih (i+1) (by omega)
theorem bg_Parse.goal (s:Str) (hp:(decide (1≤s.length∧s.length≤300∧s.getD 0 0≠48)&&s.all Nr.isDig)=true):bg_Parse.F s=some [.sl .ws (Nt.of (Nr.num s)),.b true]:=by
 simp only [Bool.and_eq_true,decide_eq_true_eq] at hp
 obtain ⟨⟨l1,l2,l3⟩,hs⟩:=hp
 refine bg_Parse.F_in _ ?_
 intro v1 h1 v2 h2 v3 h3 v4 h4
 have hne:s≠[]:=by intro e;subst e;simp at l1
 have d0:decide (s=([]:Str))=false:=decide_eq_false hne
 have d1:v1=false:=by rw [h1,d0,cond_false];exact decide_eq_false (by omega)
 have d2:decide (v2=(48:UInt8))=false:=by rw [h2];exact decide_eq_false l3
 rw [d2] at h3 h4 ⊢
 have d3:v3=false:=by rw [h3,d1];rfl
 have d4:v4=false:=h4
 have hx:idxOK 0 s.length=true:=idx_ok (by omega) (by omega)
 simp only [d0,d1,d3,d4,hx,Bool.not_false,Bool.not_true,Bool.false_or,Bool.or_true,Bool.true_or,Bool.and_self,ck_true,cond_false,cond_true]
 have:=bg_Parse.l1_ok s hs l2 s.length 0 (by omega)
 rw [List.take_zero,show Nr.num []=0 from rfl,Nt.of_zero] at this
 exact this
theorem lay_end {a acc:List UInt16} {b c k:Nat} (hn:Nt.norm a=true) (hl:acc.length=a.length) (hb:1≤b) (hk:k≤65535) (hv:Nt.val acc+65536 ^ a.length * k=Nt.val a * b+c) :
  (k=0→Nt.of (Nt.val a * b+c)=acc)∧(k≠0→Nt.of (Nt.val a * b+c)=acc++[UInt16.ofNat k]):=by
 refine ⟨fun c0=>?_,fun c0=>?_⟩
 ·subst c0
  rw [←hv,Nat.mul_zero,Nat.add_zero,Nt.of_val]
  by_cases h0:a=[]
  ·subst h0
   have:acc=[]:=List.eq_nil_of_length_eq_zero hl
   rw [this];rfl
  ·have hpos:=norm_last hn h0
   have hl0:=List.length_pos_iff.2 h0
   have h0':acc≠[]:=by intro e;subst e;simp at hl;omega
   rw [norm_getD h0']
   simp only [Bool.not_eq_true',decide_eq_false_iff_not]
   intro e0
   have hva:=val_take_succ acc (acc.length - 1) (by omega)
   rw [show acc.length - 1+1=acc.length by omega,List.take_length,e0] at hva
   have hlt:=Nt.val_lt (acc.take (acc.length - 1))
   rw [List.length_take,Nat.min_eq_left (by omega),hl] at hlt
   rw [hl] at hva
   have h5:65536 ^ (a.length - 1) * 1≤65536 ^ (a.length - 1) * (a.getD (a.length - 1) 0).toNat:=Nat.mul_le_mul_left _ hpos.1
   have h6:Nt.val a * 1≤Nt.val a * b:=Nat.mul_le_mul_left _ hb
   have e0':(0:UInt16).toNat=0:=rfl
   rw [e0'] at hva
   omega
 ·have e8:Nt.val (acc++[UInt16.ofNat k])=Nt.val acc+65536 ^ a.length * k:=by
   rw [Nt.val_append,hl];simp only [Nt.val,Nat.mul_zero,Nat.add_zero,Nt.u16_ofNat];rw [Nat.mod_eq_of_lt (by omega)]
  rw [←hv,←e8,Nt.of_val]
  rw [Nt.norm_snoc]
  refine decide_eq_true fun e=>?_
  have:=congrArg UInt16.toNat e
  rw [Nt.u16_ofNat] at this
  have e0:(0:UInt16).toNat=0:=rfl
  omega
theorem u32_of_u16 (d:UInt16):(UInt32.ofInt (d.toNat:Int)).toNat=d.toNat:=by
 have h:=u32_ofInt (d.toNat:Int)
 rw [wrap_u32'] at h
 have:=d.toNat_lt
 omega
theorem u16_of_u32 (x:UInt32):UInt16.ofInt (x.toNat:Int)=UInt16.ofNat x.toNat:=u16_of_u64 _
theorem bg_up.l1_ok (a:List UInt16) (n:Nat) (ha:a.length≤1000000) (hn:Nt.norm a=true) (hn16:n<16):∀(m i:Nat) (acc:List UInt16) (k:UInt32),i+m=a.length→acc.length=i→k.toNat<2 ^ n→Nt.val acc+65536 ^ i * k.toNat=Nt.val (a.take i) * 2 ^ n →
  bg_up.l1 n acc k a a.length i=some [.sl .ws (Nt.of (Nt.val a * 2 ^ n))]:=by
 have hp16:2 ^ n≤32768:=Nat.pow_le_pow_right (n:=2) (by omega) (show n≤15 by omega)
 have hp0:=Nat.two_pow_pos n
 intro m
 induction m with
 | zero =>
  intro i acc k hi hl hk hv
  refine bg_up.l1_in _ _ _ _ _ _ ?_
  intro v1 h1 v2 h2 v3 h3 v4 h4 v5 h5 v6 h6 v7 h7
  rw [List.take_of_length_le (by omega)] at hv
  rw [decide_eq_false (by omega),cond_false]
  have hia:i=a.length:=by omega
  have he:=lay_end (a:=a) (acc:=acc) (b:=2 ^ n) (c:=0) (k:=k.toNat) hn (by omega) hp0 (by omega) (by rw [←hia,Nat.add_zero];exact hv)
  rw [Nat.add_zero] at he
  by_cases c0:k=0
  ·rw [c0,decide_eq_false (by decide),cond_false,bg_up.j2_eq,he.1 (by rw [c0];rfl)]
  ·have hk0:k.toNat≠0:=fun e=>c0 (UInt32.toNat_inj.1 e)
   have e7:v7=UInt16.ofNat k.toNat:=by rw [h7,u16_of_u32]
   rw [decide_eq_true (by rw [UInt32.lt_iff_toNat_lt];show 0<k.toNat;omega),cond_true,ck_of (big_ap (by rw [List.length_singleton];omega) (by rw [List.length_singleton];omega)),bg_up.j2_eq,e7,he.2 hk0]
 | succ m ih =>
  intro i acc k hi hl hk hv
  refine bg_up.l1_in _ _ _ _ _ _ ?_
  intro v1 h1 v2 h2 v3 h3 v4 h4 v5 h5 v6 h6 v7 h7
  rw [Int.toNat_natCast] at h1 h3
  have hd:=v1.toNat_lt
  have hm:v1.toNat * 2 ^ n≤65535 * 32768:=Nat.mul_le_mul (by omega) hp16
  have e3:v3.toNat=k.toNat+v1.toNat * 2 ^ n:=by
   rw [h3,UInt32.toNat_or,shl32,UInt32.toNat_ofNat',h2,u32_of_u16,Nat.mod_eq_of_lt (by omega),Nat.or_comm,or_add hk,Nat.add_comm]
  have e4:v4=UInt16.ofNat (k.toNat+v1.toNat * 2 ^ n):=by rw [h4,u16_of_u32,e3]
  have e5:v5.toNat=(k.toNat+v1.toNat * 2 ^ n) / 65536:=by
   rw [h5,shr32,UInt32.toNat_ofNat',e3,show (16:UInt64).toNat=16 from rfl];omega
  have e6:v6=((i+1:Nat):Int):=by rw [h6,i64_in _ (by omega)];omega
  rw [decide_eq_true (by omega),cond_true,ck_of (idx_ok (by omega) (by omega)),ck_of (decide_eq_true (by omega)),ck_of (big_ap (by rw [List.length_singleton];omega) (by rw [List.length_singleton];omega)),e6,e4]
  refine ih (i+1) _ v5 (by omega) (by rw [List.length_append,hl];rfl) ?_ ?_
  ·rw [e5]
   have:(k.toNat+v1.toNat * 2 ^ n)<65536 * 2 ^ n:=by
    have:v1.toNat * 2 ^ n≤65535 * 2 ^ n:=Nat.mul_le_mul_right _ (by omega)
    omega
   exact (Nat.div_lt_iff_lt_mul (by omega)).2 (by rw [Nat.mul_comm (2 ^ n) 65536];exact this)
  ·rw [val_take_succ a i (by omega),←h1,Nt.val_append,hl,e5]
   simp only [Nt.val,Nat.mul_zero,Nat.add_zero,Nt.u16_ofNat]
   generalize hq:k.toNat+v1.toNat * 2 ^ n=q
   rw [Nat.pow_succ,Nat.mul_assoc,Nat.add_assoc,←Nat.mul_add]
   have:q % 65536+65536 * (q / 65536)=q:=Nat.mod_add_div q 65536
   rw [this,←hq,Nat.mul_add,Nat.add_mul,←Nat.mul_assoc]
   omega
theorem bg_up.goal (a:List UInt16) (n:Int) (hp:(decide (a.length≤1000000∧0≤n∧n<16)&&Nt.norm a)=true):bg_up.F a n=some [.sl .ws (Nt.of (Nt.val a * 2 ^ n.toNat))]:=by
 simp only [Bool.and_eq_true,decide_eq_true_eq] at hp
 obtain ⟨⟨l1,n1,n2⟩,hn⟩:=hp
 rw [bg_up.F_eq]
 have:=bg_up.l1_ok a n.toNat l1 hn (by omega) a.length 0 [] 0 (by omega) rfl (by show 0<2 ^ n.toNat;exact Nat.two_pow_pos _) (by simp [Nt.val])
 rw [show ((n.toNat:Nat):Int)=n by omega] at this
 exact this
end Go.Eng
namespace Go.Eng
open Go.IntWalk
theorem pw257:(65536:Nat) ^ 257=65536 ^ 256 * 65536:=by decide +kernel
theorem val_replicate0:∀k,Nt.val (List.replicate k 0)=0
 | 0=>rfl
 | k+1=>by rw [List.replicate_succ,Nt.val,val_replicate0 k];rfl
theorem bg_Up.goal (a:List UInt16) (n:Int) (hp:(decide (0≤n∧n≤4096)&&Nt.is a)=true):bg_Up.F a n=some [.sl .ws (Nt.of (Nt.val a * 2 ^ n.toNat))]:=by
 simp only [Bool.and_eq_true,decide_eq_true_eq] at hp
 obtain ⟨⟨n1,n2⟩,ha⟩:=hp
 have hl:=Nt.is_len ha
 have hn:=Nt.is_norm ha
 refine bg_Up.F_in _ _ ?_
 intro v1 h1 v2 h2 v3 h3 v4 h4 v5 h5 v6 h6
 have d1:v1=false:=by rw [h1,ha,Bool.not_true,cond_false];exact decide_eq_false (by omega)
 have d2:v2=false:=by rw [h2,d1,cond_false];exact decide_eq_false (by omega)
 rw [d2,cond_false] at h3
 obtain ⟨N,rfl⟩:∃N:Nat,n=N:=⟨n.toNat,by omega⟩
 have e4:v4=((N / 16:Nat):Int):=by
  rw [h4,i64_in _ (by rw [Int.tdiv_eq_ediv_of_nonneg (by omega)];omega),Int.tdiv_eq_ediv_of_nonneg (by omega)];omega
 have em:Int.tmod (N:Int) 16=((N % 16:Nat):Int):=by rw [Int.tmod_eq_emod_of_nonneg (by omega)];omega
 rw [em,Int.toNat_natCast] at h6
 rw [em]
 rw [e4,Int.toNat_natCast] at h5
 have hlen6:v6.length≤257:=by
  rw [h6]
  refine (Nt.of_length _ 257).2 ?_
  have h7:=Nt.val_lt a
  have h8:65536 ^ a.length≤65536 ^ 256:=Nat.pow_le_pow_right (by omega) hl
  have h9:2 ^ (N % 16)≤65536:=Nat.pow_le_pow_right (n:=2) (by omega) (show N % 16≤16 by omega)
  rewrite [pw257]
  have h10:Nt.val a * 2 ^ (N % 16)≤Nt.val a * 65536:=Nat.mul_le_mul_left _ h9
  omega
 have m1:mkOK v4 v4 2=true:=mkOK_iff.2 ⟨by omega,by omega,by omega,by rw [maxLen_eq];omega⟩
 have m2:decide (a.length≤1000000∧0≤((N % 16:Nat):Int)∧((N % 16:Nat):Int)<16)=true:=decide_eq_true (by omega)
 have m3:apOK (v5.length+v6.length) 2=true:=big_ap (by rw [h5,List.length_replicate];omega) (by rw [h5,List.length_replicate];omega)
 have m4:decide (a.length≤1099511627776)=true:=decide_eq_true (by omega)
 simp only [d1,d2,ha,m1,m2,m3,m4,hn,Bool.not_false,Bool.not_true,Bool.false_or,Bool.or_true,Bool.true_or,Bool.and_self,ck_true,Int.toNat_natCast]
 by_cases c:a=[]
 ·have d3:v3=true:=by rw [h3,c];rfl
  rw [d3,cond_true,c,show Nt.val []=0 from rfl,Nat.zero_mul,Nt.of_zero]
 ·have hl0:=List.length_pos_iff.2 c
  have d3:v3=false:=by rw [h3];exact decide_eq_false (by omega)
  rw [d3,cond_false,show (!decide ((16:Int)=0))=true from rfl,ck_true,ck_true]
  have e:Nt.val (v5++v6)=Nt.val a * 2 ^ N:=by
   rw [Nt.val_append,h5,val_replicate0,List.length_replicate,h6,Nt.val_of,Nat.zero_add,show (65536:Nat)=2 ^ 16 by decide,←Nat.pow_mul,Nat.mul_left_comm,←Nat.pow_add]
   congr 2;omega
  rw [←e,Nt.of_val]
  have hpos:=norm_pos' hn c
  have h6n:v6≠[]:=by
   rw [h6,Nt.of_pos]
   ·simp
   ·exact Nat.mul_pos hpos (Nat.two_pow_pos _)
  have:∀x y:List UInt16,y≠[]→Nt.norm (x++y)=Nt.norm y:=by
   intro x y hy
   induction x with
   | nil=>rfl
   | cons d x ih=>rw [List.cons_append,Nt.norm_cons (by simp [hy]),ih]
  rw [this _ _ h6n,h6,Nt.norm_of]
where
 norm_pos' {a:List UInt16} (h:Nt.norm a=true) (h0:a≠[]):0<Nt.val a:=Nt.norm_pos h h0
def downL (n:Nat):List UInt16→List UInt16
 | []=>[]
 | d :: r=>UInt16.ofNat (d.toNat / 2 ^ n+(r.getD 0 0).toNat * 2 ^ (16 - n)) :: downL n r
theorem downL_length (n:Nat):∀a,(downL n a).length=a.length
 | []=>rfl
 | d :: r=>by rw [downL,List.length_cons,List.length_cons,downL_length n r]
theorem downL_val {n:Nat} (hn:n<16):∀a,Nt.val (downL n a)=Nt.val a / 2 ^ n
 | []=>by simp [downL,Nt.val]
 | d :: r=>by
  have ih:=downL_val hn r
  rw [downL,Nt.val,ih,Nt.val,Nt.u16_ofNat]
  have hp:=Nat.two_pow_pos n
  have hd:=d.toNat_lt
  have hP:(2:Nat) ^ n * 2 ^ (16 - n)=65536:=by rw [←Nat.pow_add,show n+(16 - n)=16 by omega]
  have hR:∃h R,Nt.val r=h+65536 * R∧(r.getD 0 0).toNat=h∧h<65536:=by
   cases r with
   | nil=>exact ⟨0,0,rfl,rfl,by omega⟩
   | cons e s=>exact ⟨e.toNat,Nt.val s,rfl,rfl,e.toNat_lt⟩
  obtain ⟨h,R,e1,e2,e3⟩:=hR
  rw [e1,e2]
  generalize d.toNat=x at *
  have hq:x / 2 ^ n<2 ^ (16 - n):=(Nat.div_lt_iff_lt_mul hp).2 (by rw [Nat.mul_comm,hP];omega)
  have hP2:=Nat.two_pow_pos (16 - n)
  generalize hA:(2:Nat) ^ n=A at *
  generalize hB:(2:Nat) ^ (16 - n)=B at *
  -- left: ((x / A+h * B) % 65536)+65536 * ((h+65536 * R) / A)
  have k1:(h+65536 * R) / A=h / A+B * R:=by
   rw [←hP,Nat.mul_assoc,Nat.add_mul_div_left _ _ hp]
  have k2:(x+65536 * (h+65536 * R)) / A=x / A+B * (h+65536 * R):=by
   conv=>lhs;rw [←hP,Nat.mul_assoc]
   rw [Nat.add_mul_div_left _ _ hp,hP]
  have k3:(x / A+h * B) % 65536+65536 * (h / A)=x / A+h * B:=by
   have h1:h=A * (h / A)+h % A:=(Nat.div_add_mod h A).symm
   have h2:=Nat.mod_lt h hp
   have h3:h * B=65536 * (h / A)+(h % A) * B:=by
    conv=>lhs;rw [h1]
    rw [Nat.add_mul,Nat.mul_right_comm,hP]
   have h4:(h % A+1) * B≤A * B:=Nat.mul_le_mul_right _ h2
   rw [hP,Nat.succ_mul] at h4
   rw [h3,←Nat.add_assoc,Nat.add_right_comm,Nat.add_mul_mod_self_left,Nat.mod_eq_of_lt (by omega)]
  rw [k1,k2,Nat.mul_add,Nat.mul_add,←Nat.add_assoc,k3,Nat.mul_comm h B,Nat.mul_left_comm 65536 B R]
  omega
theorem downL_get {n:Nat}:∀(a:List UInt16) (i:Nat),i<a.length→(downL n a).getD i 0=UInt16.ofNat ((a.getD i 0).toNat / 2 ^ n+(a.getD (i+1) 0).toNat * 2 ^ (16 - n))
 | [],i,h=>by simp at h
 | d :: r,0,h=>by simp [downL]
 | d :: r,i+1,h=>by
  have:=downL_get (n:=n) r i (by simpa using h)
  simpa [downL] using this
theorem getD_set_ne {α:Type} (l:List α) (i:Nat) (x d:α) (h:i<l.length):(l.set i x).getD i d=x:=by
 simp [List.getD_eq_getElem?_getD,h]
theorem take_set_succ {α:Type} (l:List α) (i:Nat) (x d:α) (h:i<l.length):(l.set i x).take (i+1)=l.take i++[x]:=by
 rw [List.take_add_one,List.take_set_of_le (Nat.le_refl _)]
 simp [h]
theorem bg_down.l1_ok (a:List UInt16) (n:Nat) (ha:a.length≤1000000) (hn:n<16):∀(m i:Nat) (acc:List UInt16),i+m=a.length→acc.length=a.length→acc.take i=(downL n a).take i →
  bg_down.l1 a n a a.length i acc=some [.sl .ws (Nt.of (Nt.val a / 2 ^ n))]:=by
 intro m
 induction m with
 | zero =>
  intro i acc hi hl ht
  refine bg_down.l1_in _ _ _ _ _ _ ?_
  intro v1 h1 v2 h2 v3 h3 v4 h4 v5 h5 v6 h6 v7 h7 v8 h8 v9 h9
  rw [List.take_of_length_le (by omega),List.take_of_length_le (by rw [downL_length];omega)] at ht
  rw [decide_eq_false (by omega),cond_false,ck_of (decide_eq_true (by omega)),ht,downL_val hn]
 | succ m ih =>
  intro i acc hi hl ht
  refine bg_down.l1_in _ _ _ _ _ _ ?_
  intro v1 h1 v2 h2 v3 h3 v4 h4 v5 h5 v6 h6 v7 h7 v8 h8 v9 h9
  rw [Int.toNat_natCast] at h1 h2 h4 h9
  rw [Int.toNat_natCast] at h2
  have e3:v3=((i+1:Nat):Int):=by rw [h3,i64_in _ (by omega)];omega
  have e7:v7=((16 - n:Nat):Int):=by rw [h7,i64_in _ (by omega)];omega
  rw [e3,Int.toNat_natCast] at h5
  rw [e7,Int.toNat_natCast] at h8
  have hl2:v2.length=a.length:=by rw [h2,List.length_set];exact hl
  have e4:v4=shr16 v1 n:=by rw [h4,h2,getD_set_ne _ _ _ _ (by omega)]
  have hx:∀l:List UInt16,l.length=a.length→idxOK (i:Int) l.length=true:=fun l h=>idx_ok (by omega) (by omega)
  rw [decide_eq_true (show (i:Int)<(a.length:Int) by omega),cond_true,ck_of (hx a rfl),ck_of (decide_eq_true (by omega)),ck_of (hx acc hl),ck_of (decide_eq_true (by rw [Int.toNat_natCast];omega))]
  have hd1:=v1.toNat_lt
  have hs:(shr16 v1 n).toNat=v1.toNat / 2 ^ n:=by
   rw [shr16,UInt16.toNat_ofNat']
   exact Nat.mod_eq_of_lt (Nat.lt_of_le_of_lt (Nat.div_le_self _ _) hd1)
  have hget:=downL_get (n:=n) a i (by omega)
  rw [←h1] at hget
  have htk:∀(l:List UInt16) (x:UInt16),l.length=a.length→l.take i=acc.take i→x=(downL n a).getD i 0→(l.set i x).take (i+1)=(downL n a).take (i+1):=by
   intro l x h1 h2 h3
   rw [take_set_succ l i x 0 (by omega),h2,ht,List.take_add_one (l:=downL n a),List.getElem?_eq_getElem (by rw [downL_length];omega),h3,List.getD_eq_getElem?_getD,List.getElem?_eq_getElem (by rw [downL_length];omega)]
   rfl
  by_cases c:i+1<a.length
  ·rw [e3,decide_eq_true (show ((i+1:Nat):Int)<(a.length:Int) by omega),cond_true,ck_of (hx v2 hl2),ck_of (decide_eq_true (by rw [Int.toNat_natCast];omega)),ck_of (idx_ok (by omega) (by omega)),ck_of (decide_eq_true (by omega)),ck_of (hx v2 hl2),ck_of (decide_eq_true (by rw [Int.toNat_natCast];omega))]
   refine bg_down.j2_in _ _ _ _ _ _ ?_
   intro u1 g1
   rw [g1,i64_in _ (by omega),show (i:Int)+1=((i+1:Nat):Int) by omega]
   refine ih (i+1) v9 (by omega) (by rw [h9,List.length_set,hl2]) ?_
   rw [h9]
   refine htk v2 _ hl2 (by rw [h2,List.take_set_of_le (Nat.le_refl _)]) ?_
   rw [hget,←h5,e4]
   apply UInt16.toNat_inj.1
   have hq:v1.toNat / 2 ^ n<2 ^ (16 - n):=(Nat.div_lt_iff_lt_mul (Nat.two_pow_pos n)).2 (by rw [←Nat.pow_add,show 16 - n+n=16 by omega];exact hd1)
   have e8:v8.toNat=v5.toNat * 2 ^ (16 - n) % 65536:=by
    rw [h8,u16_of_u32,Nt.u16_ofNat,shl32,UInt32.toNat_ofNat',h6,u32_of_u16];omega
   rw [UInt16.toNat_or,hs,e8,Nt.u16_ofNat]
   have e9:v5.toNat * 2 ^ (16 - n) % 65536=(v5.toNat % 2 ^ n) * 2 ^ (16 - n):=by
    conv=>lhs;rw [show (65536:Nat)=2 ^ n * 2 ^ (16 - n) by rw [←Nat.pow_add,show n+(16 - n)=16 by omega]]
    rw [Nat.mul_mod_mul_right]
   have e10:(v5.toNat % 2 ^ n) * 2 ^ (16 - n)+v1.toNat / 2 ^ n<65536:=by
    have h1:=Nat.mod_lt v5.toNat (Nat.two_pow_pos n)
    have h2:(v5.toNat % 2 ^ n+1) * 2 ^ (16 - n)≤2 ^ n * 2 ^ (16 - n):=Nat.mul_le_mul_right _ h1
    rw [←Nat.pow_add,show n+(16 - n)=16 by omega,Nat.succ_mul] at h2
    omega
   have h11:v1.toNat / 2 ^ n % 65536=v1.toNat / 2 ^ n:=Nat.mod_eq_of_lt (by omega)
   have e12:(v1.toNat / 2 ^ n+v5.toNat * 2 ^ (16 - n)) % 65536=(v5.toNat % 2 ^ n) * 2 ^ (16 - n)+v1.toNat / 2 ^ n:=by
    rw [Nat.add_mod,h11,e9,Nat.add_comm,Nat.mod_eq_of_lt e10]
   rw [e12,e9,Nat.or_comm,or_add hq]
  ·rw [e3,decide_eq_false (show ¬((i+1:Nat):Int)<(a.length:Int) by omega),cond_false]
   refine bg_down.j2_in _ _ _ _ _ _ ?_
   intro u1 g1
   rw [g1,i64_in _ (by omega),show (i:Int)+1=((i+1:Nat):Int) by omega]
   refine ih (i+1) v2 (by omega) hl2 ?_
   rw [h2]
   refine htk acc _ hl rfl ?_
   rw [hget]
   apply UInt16.toNat_inj.1
   have:a.getD (i+1) 0=0:=by rw [List.getD_eq_getElem?_getD,List.getElem?_eq_none (by omega)];rfl
   rw [hs,this,Nt.u16_ofNat,show (0:UInt16).toNat=0 from rfl,Nat.zero_mul,Nat.add_zero,Nat.mod_eq_of_lt (Nat.lt_of_le_of_lt (Nat.div_le_self _ _) hd1)]
theorem bg_down.goal (a:List UInt16) (n:Int) (hp:decide (a.length≤1000000∧0≤n∧n<16)=true):bg_down.F a n=some [.sl .ws (Nt.of (Nt.val a / 2 ^ n.toNat))]:=by
 obtain ⟨l1,n1,n2⟩:=of_decide_eq_true hp
 refine bg_down.F_in _ _ ?_
 intro v1 h1
 rw [Int.toNat_natCast] at h1
 rw [ck_of (mkOK_iff.2 ⟨by omega,by omega,by omega,by rw [maxLen_eq];omega⟩)]
 have:=bg_down.l1_ok a n.toNat l1 (by omega) a.length 0 v1 (by omega) (by rw [h1];simp) (by simp)
 rw [show ((n.toNat:Nat):Int)=n by omega] at this
 exact this
end Go.Eng
namespace Go.Eng
open Go.IntWalk
theorem val_drop (a:List UInt16) (i:Nat) (h:i<a.length):Nt.val (a.drop i)=(a.getD i 0).toNat+65536 * Nt.val (a.drop (i+1)):=by
 rw [drop_cons h 0,Nt.val]
theorem bg_few.l1_ok (a:List UInt16) (d:UInt16) (ha:a.length≤1000000) (hd:0<d.toNat):∀(n:Nat) (q:List UInt16) (r:UInt32),n≤a.length→q.length=a.length→Nt.val (q.drop n)=Nt.val (a.drop n) / d.toNat→r.toNat=Nt.val (a.drop n) % d.toNat →
  bg_few.l1 a d r ((n:Int) - 1) q=some [.sl .ws (Nt.of (Nt.val a / d.toNat)),.u16 (UInt16.ofNat (Nt.val a % d.toNat))]:=by
 intro n
 induction n with
 | zero =>
  intro q r hn hl hq hr
  refine bg_few.l1_in _ _ _ _ _ ?_
  intro v1 h1 v2 h2 v3 h3 v4 h4 v5 h5 v6 h6 v7 h7 v8 h8
  rw [List.drop_zero,List.drop_zero] at hq
  rw [List.drop_zero] at hr
  rw [decide_eq_false (by omega),cond_false,ck_of (decide_eq_true (by omega)),hq,h8,u16_of_u32,hr]
 | succ n ih =>
  intro q r hn hl hq hr
  refine bg_few.l1_in _ _ _ _ _ ?_
  intro v1 h1 v2 h2 v3 h3 v4 h4 v5 h5 v6 h6 v7 h7 v8 h8
  have e:((n+1:Nat):Int) - 1=(n:Int):=by omega
  rw [e] at h2 h6 h7 ⊢
  rw [Int.toNat_natCast] at h2 h6
  have hd2:=d.toNat_lt
  have hv2:=v2.toNat_lt
  have hrd:r.toNat<d.toNat:=by rw [hr];exact Nat.mod_lt _ hd
  have e4:v4.toNat=d.toNat:=by rw [h4,u32_of_u16]
  have e3:v3.toNat=v2.toNat:=by rw [h3,u32_of_u16]
  have e1:v1.toNat=r.toNat * 65536:=by
   rw [h1,shl32,UInt32.toNat_ofNat',show (16:UInt64).toNat=16 from rfl];omega
  have e13:(v1 ||| v3).toNat=r.toNat * 65536+v2.toNat:=by
   rw [UInt32.toNat_or,e1,e3]
   exact or_add (a:=r.toNat) (b:=v2.toNat) (k:=16) hv2
  have hv4:v4≠0:=fun e0=>by
   have:=congrArg UInt32.toNat e0
   rw [e4] at this
   have e00:(0:UInt32).toNat=0:=rfl
   omega
  have eq5:v5.toNat=(r.toNat * 65536+v2.toNat) / d.toNat:=by
   rw [h5,u16_of_u32,Nt.u16_ofNat,UInt32.toNat_div,e13,e4]
   refine Nat.mod_eq_of_lt ((Nat.div_lt_iff_lt_mul hd).2 ?_)
   have:(r.toNat+1) * 65536≤d.toNat * 65536:=Nat.mul_le_mul_right _ hrd
   rw [Nat.mul_comm d.toNat 65536] at this
   omega
  have er:((v1 ||| v3) % v4).toNat=(r.toNat * 65536+v2.toNat) % d.toNat:=by
   rw [UInt32.toNat_mod,e13,e4]
  have hx:idxOK (n:Int) a.length=true:=idx_ok (by omega) (by omega)
  have hx2:idxOK (n:Int) q.length=true:=idx_ok (by omega) (by omega)
  rw [decide_eq_true (by omega),cond_true,ck_of hx,decide_eq_false hv4,Bool.not_false,ck_true,ck_of hx2,ck_of (decide_eq_true (by rw [Int.toNat_natCast];omega)),ck_true,h7,i64_in _ (by omega)]
  have hH:=val_drop a n (by omega)
  rw [←h2] at hH
  generalize Nt.val (a.drop (n+1))=H at hq hr hH
  have hHd:H=d.toNat * (H / d.toNat)+r.toNat:=by rw [hr];exact (Nat.div_add_mod H d.toNat).symm
  have hsum:v2.toNat+65536 * H=(r.toNat * 65536+v2.toNat)+d.toNat * (65536 * (H / d.toNat)):=by
   conv=>lhs;rw [hHd]
   rw [Nat.mul_add,Nat.mul_left_comm];omega
  refine ih v6 _ (by omega) (by rw [h6,List.length_set];exact hl) ?_ ?_
  ·rw [val_drop v6 n (by rw [h6,List.length_set];omega),h6,getD_set_ne _ _ _ _ (by omega),eq5,List.drop_set_of_lt (by omega),hq,hH,hsum,Nat.add_mul_div_left _ _ hd]
  ·rw [er,hH,hsum,Nat.add_mul_mod_self_left]
theorem bg_few.goal (a:List UInt16) (d:UInt16) (hp:decide (a.length≤1000000∧d≠0)=true):bg_few.F a d=some [.sl .ws (Nt.of (Nt.val a / d.toNat)),.u16 (UInt16.ofNat (Nt.val a % d.toNat))]:=by
 obtain ⟨l1,d0⟩:=of_decide_eq_true hp
 have hd:0<d.toNat:=Nat.pos_of_ne_zero fun e=>d0 (UInt16.toNat_inj.1 e)
 refine bg_few.F_in _ _ ?_
 intro v1 h1 v2 h2
 rw [Int.toNat_natCast] at h1
 rw [ck_of (mkOK_iff.2 ⟨by omega,by omega,by omega,by rw [maxLen_eq];omega⟩),h2,i64_in _ (by omega)]
 exact bg_few.l1_ok a d l1 hd a.length v1 0 (Nat.le_refl _) (by rw [h1];simp) (by simp [Nt.val,h1]) (by simp [Nt.val])
theorem bg_Div.goal (a b:List UInt16) (hp:(Nt.is a&&Nt.is b&&decide (b≠[]))=true):bg_Div.F a b=some [.sl .ws (Nt.of (Nt.val a / Nt.val b)),.sl .ws (Nt.of (Nt.val a % Nt.val b)),.b true]:=by
 simp only [Bool.and_eq_true,decide_eq_true_eq] at hp
 obtain ⟨⟨ha,hb⟩,hb0⟩:=hp
 have la:=Nt.is_len ha
 have lb:=Nt.is_len hb
 have na:=Nt.is_norm ha
 have nb:=Nt.is_norm hb
 have lb0:=List.length_pos_iff.2 hb0
 have pb:=Nt.norm_pos nb hb0
 refine bg_Div.F_in _ _ ?_
 intro v1 h1 v2 h2 v3 h3 v4 h4 v5 h5 v6 h6 v7 h7 v8 h8 v9 h9 v10 h10 v11 h11 v12 h12 v13 h13 v14 h14 v15 h15
 rw [ha,hb] at h1
 have d1:v1=false:=h1
 have d2:v2=false:=by rw [h2,d1,cond_false];exact decide_eq_false (by omega)
 have m1:decide (a.length≤1099511627776)=true:=decide_eq_true (by omega)
 have m2:decide (b.length≤1099511627776)=true:=decide_eq_true (by omega)
 have m3:decide (a.length≤1099511627776∧b.length≤1099511627776)=true:=decide_eq_true ⟨by omega,by omega⟩
 simp only [d1,d2,ha,m1,m2,m3,na,nb,Bool.not_false,Bool.not_true,Bool.false_or,Bool.or_true,Bool.true_or,Bool.and_self,ck_true,cond_false]
 by_cases c1:Nt.val a<Nt.val b
 ·have e3:v3=-1:=by rw [h3,Nt.cmp,if_pos c1]
  rw [e3,decide_eq_true (by omega),cond_true,ck_of (big_ap (by omega) (by omega)),Nat.div_eq_of_lt c1,Nt.of_zero,Nat.mod_eq_of_lt c1,Nt.of_val na]
 ·have e3:¬v3<0:=by rw [h3,Nt.cmp,if_neg c1];split <;> omega
  rw [decide_eq_false e3,cond_false]
  by_cases c2:b.length=1
  ·obtain ⟨d,rfl⟩:∃d,b=[d]:=List.length_eq_one_iff.1 c2
   have hd0:d≠0:=by simpa [Nt.norm] using nb
   have e4:v4=d:=by rw [h4];rfl
   have ev:Nt.val [d]=d.toNat:=by simp [Nt.val]
   rw [decide_eq_true (by rw [c2];rfl),cond_true,ck_of (idx_ok (by omega) (by rw [c2];omega)),e4,ck_of (decide_eq_true ⟨by omega,hd0⟩),h5,h7,h6,e4,ev,u64_of_u16,Nt.u16_ofNat]
   have hm:Nt.val a % d.toNat<d.toNat:=Nat.mod_lt _ (Nat.pos_of_ne_zero fun e=>hd0 (UInt16.toNat_inj.1 e))
   have:=d.toNat_lt
   rw [Nat.mod_eq_of_lt (show Nt.val a % d.toNat<65536 by omega)]
  ·have l2:2≤b.length:=by omega
   rw [decide_eq_false (by omega),cond_false]
   rw [i64_in _ (by omega)] at h8
   have e8:v8=((b.length - 1:Nat):Int):=by omega
   rw [e8,Int.toNat_natCast] at h9
   obtain ⟨t1,t2⟩:=norm_last nb hb0
   rw [←h9] at t1 t2
   have hv9:=v9.toNat_lt
   obtain ⟨p1,p2,p3⟩:=Nt.bits_pos (n:=v9.toNat) (by omega)
   have pl:=Nt.bits_lt (n:=v9.toNat) (k:=16) hv9
   obtain ⟨s,hs⟩:∃s,s=16 - Nt.bits v9.toNat:=⟨_,rfl⟩
   have e10:v10=(s:Int):=by rw [h10,i64_in _ (by omega)];omega
   have hs16:s<16:=by omega
   rw [e10,Int.toNat_natCast] at h11 h12 h15
   -- the lengths
   have hbt:v9.toNat * 2 ^ s<65536:=by
    have:v9.toNat * 2 ^ s<2 ^ Nt.bits v9.toNat * 2 ^ s:=Nat.mul_lt_mul_of_pos_right p2 (Nat.two_pow_pos s)
    rw [←Nat.pow_add,show Nt.bits v9.toNat+s=16 by omega] at this
    exact this
   have hbt2:32768≤v9.toNat * 2 ^ s:=by
    have:2 ^ (Nt.bits v9.toNat - 1) * 2 ^ s≤v9.toNat * 2 ^ s:=Nat.mul_le_mul_right _ p1
    rw [←Nat.pow_add,show Nt.bits v9.toNat - 1+s=15 by omega] at this
    exact this
   have hlo:=Nt.val_lt (b.take (b.length - 1))
   rw [List.length_take,Nat.min_eq_left (by omega)] at hlo
   generalize hP:65536 ^ (b.length - 1)=P at t2 hlo
   have hPs:65536 ^ b.length=65536 * P:=by rw [←hP,Nat.mul_comm,←Nat.pow_succ];congr 1;omega
   generalize hL:Nt.val (b.take (b.length - 1))=Lo at t2 hlo
   have hVb:Nt.val b * 2 ^ s=Lo * 2 ^ s+P * (v9.toNat * 2 ^ s):=by rw [t2,Nat.add_mul,Nat.mul_assoc]
   have hVlt:Nt.val b * 2 ^ s<65536 ^ b.length:=by
    have h1:(v9.toNat+1) * 2 ^ s≤65536:=by
     have:(v9.toNat+1) * 2 ^ s≤2 ^ Nt.bits v9.toNat * 2 ^ s:=Nat.mul_le_mul_right _ p2
     rw [←Nat.pow_add,show Nt.bits v9.toNat+s=16 by omega] at this
     exact this
    have h2:Lo * 2 ^ s+P * (v9.toNat * 2 ^ s)<P * ((v9.toNat+1) * 2 ^ s):=by
     rw [Nat.add_mul,Nat.one_mul,Nat.mul_add]
     have:Lo * 2 ^ s<P * 2 ^ s:=Nat.mul_lt_mul_of_pos_right hlo (Nat.two_pow_pos s)
     omega
    have h3:P * ((v9.toNat+1) * 2 ^ s)≤P * 65536:=Nat.mul_le_mul_left _ h1
    rw [hVb,hPs,Nat.mul_comm 65536 P]
    omega
   have hVge:32768 * P≤Nt.val b * 2 ^ s:=by
    have:P * 32768≤P * (v9.toNat * 2 ^ s):=Nat.mul_le_mul_left _ hbt2
    rw [hVb,Nat.mul_comm 32768 P];omega
   have hfix:v12=Nt.fix b.length (Nt.val b * 2 ^ s):=by
    rw [h12]
    refine Nt.of_fix hVlt (.inr ?_)
    rw [hP];omega
   have hl12:v12.length=b.length:=by rw [hfix,Nt.fix_length]
   have hv12:Nt.val v12=Nt.val b * 2 ^ s:=by rw [h12,Nt.val_of]
   have hv11:Nt.val v11=Nt.val a * 2 ^ s:=by rw [h11,Nt.val_of]
   have hge:Nt.val v12≤Nt.val v11:=by rw [hv12,hv11];exact Nat.mul_le_mul_right _ (by omega)
   have hl11:v12.length≤v11.length:=by
    rcases Nat.lt_or_ge v11.length v12.length with h | h
    ·have:=Nt.lt_of_len (a:=v11) (b:=v12) (by rw [h12];exact Nt.norm_of _) h
     omega
    ·exact h
   have hl11b:v11.length≤257:=by
    rw [h11]
    refine (Nt.of_length _ 257).2 ?_
    have h7:=Nt.val_lt a
    have h8:65536 ^ a.length≤65536 ^ 256:=Nat.pow_le_pow_right (by omega) la
    have h9:2 ^ s≤65536:=Nat.pow_le_pow_right (n:=2) (by omega) (show s≤16 by omega)
    rewrite [pw257]
    have h10:Nt.val a * 2 ^ s≤Nt.val a * 65536:=Nat.mul_le_mul_left _ h9
    omega
   have htop:32768≤(v12.getLast?.getD 0).toNat:=by
    have:v12.getLast?.getD 0=UInt16.ofNat (Nt.val b * 2 ^ s / 65536 ^ (b.length - 1)):=by
     rw [hfix]
     conv=>lhs;rw [show b.length=b.length - 1+1 by omega]
     rw [Nt.fix_succ]
     simp
    rw [this,Nt.u16_ofNat,hP]
    have h1:Nt.val b * 2 ^ s / P<65536:=(Nat.div_lt_iff_lt_mul (by rw [←hP];exact Nat.pow_pos (by omega))).2 (by rw [←hPs];exact hVlt)
    have h2:32768≤Nt.val b * 2 ^ s / P:=(Nat.le_div_iff_mul_le (by rw [←hP];exact Nat.pow_pos (by omega))).2 hVge
    rw [Nat.mod_eq_of_lt h1];exact h2
   have m4:idxOK v8 b.length=true:=idx_ok (by omega) (by omega)
   have m5:decide (a.length≤1000000∧0≤v10∧v10<16)=true:=decide_eq_true (by omega)
   have m6:decide (b.length≤1000000∧0≤v10∧v10<16)=true:=decide_eq_true (by omega)
   have m7:decide (v11.length≤1000000∧2≤v12.length∧v12.length≤v11.length∧32768≤(v12.getLast?.getD 0).toNat)=true:=decide_eq_true ⟨by omega,by omega,hl11,htop⟩
   have l13:v13.length=v11.length+1 - v12.length:=by rw [h13,Nt.fix_length]
   have l14:v14.length=v12.length:=by rw [h14,Nt.fix_length]
   have m8:decide (v13.length≤1099511627776)=true:=decide_eq_true (by omega)
   have m9:decide (v14.length≤1099511627776)=true:=decide_eq_true (by omega)
   have hq:Nt.val v11 / Nt.val v12=Nt.val a / Nt.val b:=by rw [hv11,hv12,Nat.mul_div_mul_right _ _ (Nat.two_pow_pos s)]
   have hr:Nt.val v11 % Nt.val v12=Nt.val a % Nt.val b * 2 ^ s:=by rw [hv11,hv12,Nat.mul_mod_mul_right]
   have e14:Nt.val v14=Nt.val a % Nt.val b * 2 ^ s:=by
    rw [h14,Nt.val_fix,hr,Nat.mod_eq_of_lt]
    have h1:Nt.val a % Nt.val b * 2 ^ s<Nt.val b * 2 ^ s:=Nat.mul_lt_mul_of_pos_right (Nat.mod_lt _ pb) (Nat.two_pow_pos s)
    rw [hl12];omega
   have e13:Nt.val v13=Nt.val a / Nt.val b:=by
    rw [h13,Nt.val_fix,hq,Nat.mod_eq_of_lt]
    have h1:=Nt.val_lt v11
    rw [←hq]
    refine (Nat.div_lt_iff_lt_mul (by rw [hv12];exact Nat.mul_pos pb (Nat.two_pow_pos s))).2 ?_
    have h2:65536 ^ (v11.length+1 - v12.length) * P≤65536 ^ (v11.length+1 - v12.length) * Nt.val v12:=Nat.mul_le_mul_left _ (by rw [hv12];omega)
    rw [←hP,←Nat.pow_add,show v11.length+1 - v12.length+(b.length - 1)=v11.length by omega] at h2
    omega
   have m10:decide ((Nt.of (Nt.val v14)).length≤1000000∧0≤v10∧v10<16)=true:=by
    refine decide_eq_true ⟨?_,by omega,by omega⟩
    have:=(Nt.of_length (Nt.val v14) v14.length).2 (Nt.val_lt v14)
    omega
   rw [ck_of m4,ck_of (by rw [m5];rfl),ck_of (by rw [m6];rfl),ck_of m7,ck_of m8,ck_of m9,ck_of m10,e13,h15,Nt.val_of,e14,Nat.mul_div_cancel _ (Nat.two_pow_pos s)]
end Go.Eng
namespace Go.Eng
open Go.IntWalk
theorem guess_low {B v1 v2 top u2 g r V T P:Nat} (hP:0<P) (htop:top=g * v1+r) (h:r * B+u2<g * v2) (hV:(v1 * B+v2) * P≤V) (hT:T<(top * B+u2+1) * P):T / V<g:=by
 have h1:top * B+u2+1≤g * (v1 * B+v2):=by
  rw [htop,Nat.add_mul,Nat.mul_add,Nat.mul_assoc];omega
 have h2:(top * B+u2+1) * P≤g * V:=by
  have:=Nat.mul_le_mul_right P h1
  rw [Nat.mul_assoc] at this
  exact Nat.le_trans this (Nat.mul_le_mul_left _ hV)
 have hV0:0<V:=by
  rcases Nat.eq_zero_or_pos V with e | e
  ·subst e;simp at h2;omega
  ·exact e
 exact (Nat.div_lt_iff_lt_mul hV0).2 (by omega)
theorem guess_exit {B v1 v2 top u2 g r V T P:Nat} (hB:g≤B) (htop:top=g * v1+r) (h:g * v2≤r * B+u2) (hV1:V<(v1 * B+v2+1) * P) (hV2:B * P≤V) (hT:(top * B+u2) * P≤T) (hV0:0<V):g≤T / V+1:=by
 rcases Nat.eq_zero_or_pos g with e | hg
 ·rw [e];exact Nat.zero_le _
 have h1:g * (v1 * B+v2)≤top * B+u2:=by
  rw [htop,Nat.add_mul,Nat.mul_add,Nat.mul_assoc];omega
 have h2:g * V<(g * (v1 * B+v2)+g) * P:=by
  have:=Nat.mul_lt_mul_of_pos_left hV1 hg
  rw [←Nat.mul_assoc,Nat.mul_add,Nat.mul_one] at this
  exact this
 have h3:(g * (v1 * B+v2)) * P≤(top * B+u2) * P:=Nat.mul_le_mul_right _ h1
 have h4:g * P≤B * P:=Nat.mul_le_mul_right _ hB
 rw [Nat.add_mul] at h2
 have h5:g * V<T+V:=by omega
 have h6:(g - 1) * V≤T:=by
  have:g * V=(g - 1) * V+V:=by rw [←Nat.succ_mul];congr 1;omega
  omega
 have:=(Nat.le_div_iff_mul_le hV0).2 h6
 omega
theorem guess_break {B v1 top g r V T P:Nat} (hg:g≤B) (htop:top=g * v1+r) (hr:B≤r) (hV:V≤(v1+1) * P) (hV0:0<V) (hT:top * P≤T):g≤T / V:=by
 refine (Nat.le_div_iff_mul_le hV0).2 ?_
 have h1:g * V≤g * ((v1+1) * P):=Nat.mul_le_mul_left _ hV
 have h2:g * ((v1+1) * P)=(g * v1+g) * P:=by rw [←Nat.mul_assoc,Nat.mul_add,Nat.mul_one]
 have h3:(g * v1+g) * P≤top * P:=Nat.mul_le_mul_right _ (by omega)
 omega
theorem shl64_16 {x:UInt64} (h:x.toNat<65536 * 65536):(shl64 x 16).toNat=x.toNat * 65536:=by
 rw [shl64,UInt64.toNat_ofNat'];omega
theorem or16 {a b:UInt64} {x:Nat} (ha:a.toNat=x * 65536) (hb:b.toNat<65536):(a ||| b).toNat=x * 65536+b.toNat:=by
 rw [UInt64.toNat_or,ha];exact or_add (a:=x) (b:=b.toNat) (k:=16) hb
theorem u64_sub1 {g:UInt64} (h:0<g.toNat):(g - 1).toNat=g.toNat - 1:=by
 have:=UInt64.toNat_sub_of_le g 1 (UInt64.le_iff_toNat_le.2 h)
 exact this
theorem bg_long.l2_ok (v w qs:List UInt16) (n j:Nat) (hn:n=v.length) (h2:2≤n) (hj:j+n<w.length) (hl:w.length≤1000001) {V T P top:Nat} (hP:0<P)
  (hv1:32768≤(v.getD (n - 1) 0).toNat) (htop:top=(w.getD (j+n) 0).toNat * 65536+(w.getD (j+n - 1) 0).toNat)
  (hVl:((v.getD (n - 1) 0).toNat * 65536+(v.getD (n - 2) 0).toNat) * P≤V) (hVu:V<((v.getD (n - 1) 0).toNat * 65536+(v.getD (n - 2) 0).toNat+1) * P)
  (hTl:(top * 65536+(w.getD (j+n - 2) 0).toNat) * P≤T) (hTu:T<(top * 65536+(w.getD (j+n - 2) 0).toNat+1) * P) (hq:T / V≤65535) :
  ∀(m:Nat) (g r:UInt64),g.toNat≤m→g.toNat≤65537→top=g.toNat * (v.getD (n - 1) 0).toNat+r.toNat→r.toNat≤65535→T / V≤g.toNat →
   ∃g':UInt64,T / V≤g'.toNat∧g'.toNat≤T / V+1∧g'.toNat≤65535∧bg_long.l2 v n j g r w qs=bg_long.j3 v n j g' w qs:=by
 intro m
 induction m with
 | zero =>
  intro g r hg hg2 ht hr hqg
  -- nothing is left to take away
  have g0:g.toNat=0:=by omega
  refine ⟨g,hqg,by rw [g0];exact Nat.zero_le _,by omega,?_⟩
  refine bg_long.l2_in _ _ _ _ _ _ _ ?_
  intro u1 h1 u2 h2' u3 h3 u4 h4 u5 h5 u6 h6 u7 h7 u8 h8 u9 h9 u10 h10 u11 h11 u12 h12
  have f1:decide ((65535:UInt64)<g)=false:=decide_eq_false fun e=>by
   have:=UInt64.lt_iff_toNat_lt.1 e
   have e0:(65535:UInt64).toNat=65535:=rfl
   omega
  have e1:u1=((n - 2:Nat):Int):=by rw [h1,i64_in _ (by omega)];omega
  have e5:u5=((j+n - 2:Nat):Int):=by rw [h5,i64_in ((j:Int)+n) (by omega),i64_in _ (by omega)];omega
  have x1:idxOK u1 v.length=true:=idx_ok (by omega) (by omega)
  have x2:idxOK u5 w.length=true:=idx_ok (by omega) (by omega)
  have x3:decide (u5.toNat<w.length)=true:=decide_eq_true (by omega)
  have e8:u8=false:=by
   rw [h8]
   refine decide_eq_false fun e=>?_
   have:=UInt64.lt_iff_toNat_lt.1 e
   rw [UInt64.toNat_mul,g0,Nat.zero_mul,Nat.zero_mod] at this
   omega
  have e9:u9=false:=by rw [h9,f1,cond_false,e8]
  simp only [f1,e9,x1,x2,x3,Bool.not_false,Bool.not_true,Bool.false_or,Bool.or_true,Bool.true_or,Bool.and_self,ck_true,cond_false]
 | succ m ih =>
  intro g r hg hg2 ht hr hqg
  have hB:(65535:UInt64).toNat=65535:=rfl
  have w1:=(v.getD (n - 1) 0).toNat_lt
  have w2:=(v.getD (n - 2) 0).toNat_lt
  have w3:=(w.getD (j+n - 2) 0).toNat_lt
  have step:∀ρ:OT,(∀(u9:Bool),u9=decide (65535<g.toNat∨r.toNat * 65536+(w.getD (j+n - 2) 0).toNat<g.toNat * (v.getD (n - 2) 0).toNat)→∀u12:UInt64,u12.toNat=(v.getD (n - 1) 0).toNat →
    cond u9 (cond (decide ((65535:UInt64)<(r+u12))) (bg_long.j3 v n j (g - 1) w qs) (bg_long.l2 v n j (g - 1) (r+u12) w qs)) (bg_long.j3 v n j g w qs)=ρ)→bg_long.l2 v n j g r w qs=ρ:=by
   intro ρ hρ
   refine bg_long.l2_in _ _ _ _ _ _ _ ?_
   intro u1 h1 u2 h2' u3 h3 u4 h4 u5 h5 u6 h6 u7 h7 u8 h8 u9 h9 u10 h10 u11 h11 u12 h12
   have e1:u1=((n - 2:Nat):Int):=by rw [h1,i64_in _ (by omega)];omega
   have e5:u5=((j+n - 2:Nat):Int):=by rw [h5,i64_in ((j:Int)+n) (by omega),i64_in _ (by omega)];omega
   have e10:u10=((n - 1:Nat):Int):=by rw [h10,i64_in _ (by omega)];omega
   rw [e1,Int.toNat_natCast] at h2'
   rw [e5,Int.toNat_natCast] at h6
   rw [e10,Int.toNat_natCast] at h11
   have x1:idxOK u1 v.length=true:=idx_ok (by omega) (by omega)
   have x2:idxOK u5 w.length=true:=idx_ok (by omega) (by omega)
   have x3:decide (u5.toNat<w.length)=true:=decide_eq_true (by omega)
   have x4:idxOK u10 v.length=true:=idx_ok (by omega) (by omega)
   have f3:u3.toNat=(v.getD (n - 2) 0).toNat:=by rw [h3,u64_of_u16,h2']
   have f7:u7.toNat=(w.getD (j+n - 2) 0).toNat:=by rw [h7,u64_of_u16,h6]
   have f12:u12.toNat=(v.getD (n - 1) 0).toNat:=by rw [h12,u64_of_u16,h11]
   have f4:u4.toNat=r.toNat * 65536:=by rw [h4];exact shl64_16 (by omega)
   have f47:=or16 f4 (b:=u7) (by omega)
   have hm:g.toNat * (v.getD (n - 2) 0).toNat≤65537 * 65535:=Nat.mul_le_mul hg2 (by omega)
   have fm:(g * u3).toNat=g.toNat * (v.getD (n - 2) 0).toNat:=by rw [UInt64.toNat_mul,f3,Nat.mod_eq_of_lt (by omega)]
   have hr9:=hρ u9 (by
    rw [h9,h8,Bool.eq_iff_iff]
    simp only [UInt64.lt_iff_toNat_lt,hB,f47,fm,f7]
    by_cases c:65535<g.toNat
    ·simp [c]
    ·simp [c]) u12 f12
   cases hb:decide ((65535:UInt64)<g) with
   | true =>
    rw [hb,cond_true] at h9
    simp only [x1,x2,x3,x4,Bool.not_false,Bool.not_true,Bool.false_or,Bool.or_true,Bool.true_or,Bool.and_self,Bool.or_self,Bool.not_or_self,Bool.or_not_self,ck_true]
    exact hr9
   | false =>
    simp only [x1,x2,x3,x4,Bool.not_false,Bool.not_true,Bool.false_or,Bool.or_true,Bool.true_or,Bool.and_self,Bool.or_self,Bool.not_or_self,Bool.or_not_self,ck_true]
    exact hr9
  by_cases c:65535<g.toNat∨r.toNat * 65536+(w.getD (j+n - 2) 0).toNat<g.toNat * (v.getD (n - 2) 0).toNat
  ·have hlt:T / V<g.toNat:=by
    rcases c with c | c
    ·omega
    ·exact guess_low hP ht c hVl hTu
   have hg0:0<g.toNat:=Nat.lt_of_le_of_lt (Nat.zero_le _) hlt
   have gs:=u64_sub1 (g:=g) hg0
   have ht':top=(g.toNat - 1) * (v.getD (n - 1) 0).toNat+(r.toNat+(v.getD (n - 1) 0).toNat):=by
    have:g.toNat * (v.getD (n - 1) 0).toNat=(g.toNat - 1) * (v.getD (n - 1) 0).toNat+(v.getD (n - 1) 0).toNat:=by rw [←Nat.succ_mul];congr 1;omega
    omega
   by_cases c2:65535<r.toNat+(v.getD (n - 1) 0).toNat
   ·have hV0:0<V:=Nat.lt_of_lt_of_le (Nat.mul_pos (by omega) hP) hVl
    have hle:g.toNat - 1≤T / V:=by
     refine guess_break (B:=65536) (P:=65536 * P) (by omega) ht' (by omega) ?_ hV0 ?_
     ·have e:((v.getD (n - 1) 0).toNat+1) * (65536 * P)=(((v.getD (n - 1) 0).toNat+1) * 65536) * P:=by rw [Nat.mul_assoc]
      rw [e]
      refine Nat.le_trans (Nat.le_of_lt hVu) (Nat.mul_le_mul_right _ (by omega))
     ·have e:top * (65536 * P)=(top * 65536) * P:=by rw [Nat.mul_assoc]
      rw [e]
      exact Nat.le_trans (Nat.mul_le_mul_right _ (by omega)) hTl
    refine ⟨g - 1,by omega,by rw [gs];exact Nat.le_succ_of_le hle,by omega,step _ fun u9 h9 u12 h12=>?_⟩
    have e:(r+u12).toNat=r.toNat+(v.getD (n - 1) 0).toNat:=by rw [UInt64.toNat_add,h12,Nat.mod_eq_of_lt (by omega)]
    rw [h9,decide_eq_true c,cond_true,decide_eq_true (by rw [UInt64.lt_iff_toNat_lt,e,hB];exact c2),cond_true]
   ·have e:∀u12:UInt64,u12.toNat=(v.getD (n - 1) 0).toNat→(r+u12).toNat=r.toNat+(v.getD (n - 1) 0).toNat:=fun u12 h12=>by rw [UInt64.toNat_add,h12,Nat.mod_eq_of_lt (by omega)]
    obtain ⟨g',i1,i2,i3,i4⟩:=ih (g - 1) (r+UInt64.ofInt ((v.getD (n - 1) 0).toNat:Int)) (by omega) (by omega) (by rw [gs,e _ (u64_of_u16 _)];exact ht') (by rw [e _ (u64_of_u16 _)];omega) (by omega)
    refine ⟨g',i1,i2,i3,step _ fun u9 h9 u12 h12=>?_⟩
    have e12:u12=UInt64.ofInt ((v.getD (n - 1) 0).toNat:Int):=UInt64.toNat_inj.1 (by rw [h12,u64_of_u16])
    rw [h9,decide_eq_true c,cond_true,decide_eq_false (by rw [UInt64.lt_iff_toNat_lt,e _ h12,hB];exact c2),cond_false,e12]
    exact i4
  ·have c1:g.toNat≤65535:=by omega
   refine ⟨g,hqg,guess_exit (B:=65536) (by omega) ht (by omega) hVu ?_ hTl (Nat.lt_of_lt_of_le (Nat.mul_pos (by omega) hP) hVl),c1,step _ fun u9 h9 u12 h12=>?_⟩
   ·refine Nat.le_trans (Nat.mul_le_mul_right _ ?_) hVl
    omega
   ·rw [h9,decide_eq_false c,cond_false]
end Go.Eng
namespace Go.Eng
open Go.IntWalk
theorem drop_set_ge {α:Type} (l:List α) (j i:Nat) (x:α):(l.set (j+i) x).drop j=(l.drop j).set i x:=by
 rw [List.drop_set,if_neg (by omega)];congr 1;omega
theorem win_succ (w:List UInt16) (j i:Nat) (h:j+i<w.length):Nt.val ((w.drop j).take (i+1))=Nt.val ((w.drop j).take i)+65536 ^ i * (w.getD (j+i) 0).toNat:=by
 have:=val_take_succ (w.drop j) i (by rw [List.length_drop];omega)
 rw [this]
 congr 3
 simp [List.getD_eq_getElem?_getD]
theorem win_set (w:List UInt16) (j i:Nat) (d:UInt16) (h:j+i<w.length):Nt.val (((w.set (j+i) d).drop j).take (i+1))=Nt.val ((w.drop j).take i)+65536 ^ i * d.toNat:=by
 rw [win_succ _ _ _ (by rw [List.length_set];exact h),getD_set_ne _ _ _ _ h,drop_set_ge,List.take_set_of_le (Nat.le_refl _)]
theorem win_lt (w:List UInt16) (j i:Nat):Nt.val ((w.drop j).take i)<65536 ^ i:=by
 refine Nat.lt_of_lt_of_le (Nt.val_lt _) (Nat.pow_le_pow_right (by omega) ?_)
 rw [List.length_take];omega
theorem fdiv16i (x:Int):Int.fdiv x (2 ^ (min (16:UInt64).toNat IntKind.i64.bits))=x / 65536:=by
 rw [show (2:Int) ^ (min (16:UInt64).toNat IntKind.i64.bits)=65536 by decide,Int.fdiv_eq_ediv_of_nonneg _ (by omega)]
theorem and_one_i64 (x:Int) (h:x=0∨x=-1∨x=-2):intBitsV .and .i64 x 1=x % 2:=by
 rcases h with rfl | rfl | rfl <;> decide
theorem u16_ofInt_nat (x:Int):(UInt16.ofInt x).toNat=(x % 65536).toNat:=by
 have h:=u16_ofInt x
 rw [wrap_u16'] at h
 omega
theorem bg_long.l5_ok (v w0 qs:List UInt16) (n j:Nat) (g:UInt64) (hn:n=v.length) (hj:j+n<w0.length) (hl:w0.length≤1000001):∀(m i:Nat) (c:UInt32) (w:List UInt16),i+m=n→c.toNat≤1→w.length=w0.length→w.take j=w0.take j→w.drop (j+i)=w0.drop (j+i) →
   Nt.val ((w0.drop j).take i)+Nt.val (v.take i)=Nt.val ((w.drop j).take i)+65536 ^ i * c.toNat →
   ∃(c':Nat) (w':List UInt16),c'≤1∧w'.length=w0.length∧w'.take j=w0.take j∧w'.drop (j+n+1)=w0.drop (j+n+1)∧Nt.val ((w0.drop j).take n)+Nt.val v=Nt.val ((w'.drop j).take n)+65536 ^ n * c' ∧
    (w'.getD (j+n) 0).toNat=((w0.getD (j+n) 0).toNat+c') % 65536∧bg_long.l5 v n j g c n i w qs=bg_long.j6 v n j g w' qs:=by
 intro m
 induction m with
 | zero =>
  intro i c w hi hc hwl ht hd hv
  obtain rfl:i=n:=by omega
  rw [List.take_of_length_le (l:=v) (by omega)] at hv
  have hlt:j+i<w.length:=by omega
  refine ⟨c.toNat,w.set (j+i) (w.getD (j+i) 0+UInt16.ofNat c.toNat),hc,by rw [List.length_set];exact hwl,by rw [List.take_set_of_le (by omega)];exact ht,?_,?_,?_,?_⟩
  ·rw [List.drop_set_of_lt (by omega),show j+i+1=(j+i)+1 from rfl,←List.drop_drop (l:=w),hd,List.drop_drop]
  ·rw [drop_set_ge,List.take_set_of_le (Nat.le_refl _)];exact hv
  ·rw [getD_set_ne _ _ _ _ hlt,UInt16.toNat_add,Nt.u16_ofNat,Nat.add_mod_mod]
   congr 3
   have e1:w.getD (j+i) 0=(w.drop (j+i)).getD 0 0:=by simp [List.getD_eq_getElem?_getD]
   have e2:w0.getD (j+i) 0=(w0.drop (j+i)).getD 0 0:=by simp [List.getD_eq_getElem?_getD]
   rw [e1,e2,hd]
  ·refine bg_long.l5_in _ _ _ _ _ _ _ _ _ ?_
   intro v1 h1 v2 h2 v3 h3 v4 h4 v5 h5 v6 h6 v7 h7 v8 h8 v9 h9 v10 h10 v11 h11 v12 h12
   have eji:IntKind.i64.wrap ((j:Int)+(i:Int))=((j+i:Nat):Int):=by rw [i64_in _ (by omega)];omega
   rw [eji,Int.toNat_natCast] at h9
   rw [h9] at h10 h12
   rw [decide_eq_false (by omega),cond_false,eji,ck_of (idx_ok (by omega) (by omega)),ck_of (decide_eq_true (by omega)),ck_of (idx_ok (by omega) (by omega)),ck_of (decide_eq_true (by omega)),h12,h10,h11,u16_of_u32]
 | succ m ih =>
  intro i c w hi hc hwl ht hd hv
  have hlt:j+i<w.length:=by omega
  have w1:=(w.getD (j+i) 0).toNat_lt
  have w2:=(v.getD i 0).toNat_lt
  have ew:w.getD (j+i) 0=w0.getD (j+i) 0:=by
   have e1:w.getD (j+i) 0=(w.drop (j+i)).getD 0 0:=by simp [List.getD_eq_getElem?_getD]
   have e2:w0.getD (j+i) 0=(w0.drop (j+i)).getD 0 0:=by simp [List.getD_eq_getElem?_getD]
   rw [e1,e2,hd]
  obtain ⟨s,hs⟩:∃s,s=c.toNat+((w.getD (j+i) 0).toNat+(v.getD i 0).toNat):=⟨_,rfl⟩
  obtain ⟨c',w',r1,r2,r3,r4,r5,r6,r7⟩:=ih (i+1) (UInt32.ofNat (s / 65536)) (w.set (j+i) (UInt16.ofNat s)) (by omega) (by simp;omega) (by rw [List.length_set];exact hwl) (by rw [List.take_set_of_le (by omega)];exact ht)
   (by rw [List.drop_set_of_lt (by omega),show j+(i+1)=(j+i)+1 from rfl,←List.drop_drop (l:=w),hd,List.drop_drop]) (by
    rw [win_succ w0 j i (by omega),win_set w j i _ hlt,val_take_succ v i (by omega),Nt.u16_ofNat]
    have e:(UInt32.ofNat (s / 65536)).toNat=s / 65536:=by simp;omega
    rw [e,Nat.pow_succ,Nat.mul_assoc,Nat.add_assoc (Nt.val ((w.drop j).take i)),←Nat.mul_add,Nat.mod_add_div,hs,←ew,Nat.mul_add,Nat.mul_add]
    omega)
  refine ⟨c',w',r1,r2,r3,r4,r5,r6,?_⟩
  rw [←r7]
  refine bg_long.l5_in _ _ _ _ _ _ _ _ _ ?_
  intro v1 h1 v2 h2 v3 h3 v4 h4 v5 h5 v6 h6 v7 h7 v8 h8 v9 h9 v10 h10 v11 h11 v12 h12
  have eji:IntKind.i64.wrap ((i:Int)+(j:Int))=((j+i:Nat):Int):=by rw [i64_in _ (by omega)];omega
  rw [eji,Int.toNat_natCast] at h1
  rw [h1] at h2
  rw [Int.toNat_natCast] at h4
  have es:(c+(v3+v5)).toNat=s:=by
   rw [UInt32.toNat_add,UInt32.toNat_add,h3,h5,u32_of_u16,u32_of_u16,h2,h4,hs];omega
  have e6:v6=UInt16.ofNat s:=by rw [h6,u16_of_u32,es]
  have e7:v7=UInt32.ofNat (s / 65536):=by
   apply UInt32.toNat_inj.1
   rw [h7,shr32,es,show (16:UInt64).toNat=16 from rfl]
  have e8:v8=((i+1:Nat):Int):=by rw [h8,i64_in _ (by omega)];omega
  rw [decide_eq_true (by omega),cond_true,eji,ck_of (idx_ok (by omega) (by omega)),ck_of (decide_eq_true (by omega)),ck_of (idx_ok (by omega) (by omega)),ck_of (idx_ok (by omega) (by omega)),ck_of (decide_eq_true (by omega)),e6,e7,e8,h1]
end Go.Eng
namespace Go.Eng
open Go.IntWalk
theorem and16 (x:UInt64):(x &&& 65535).toNat=x.toNat % 65536:=by
 rw [UInt64.toNat_and,show (65535:UInt64).toNat=2 ^ 16 - 1 from rfl,Nat.and_two_pow_sub_one_eq_mod]
theorem getD_of_drop {w w0:List UInt16} {k:Nat} (h:w.drop k=w0.drop k):w.getD k 0=w0.getD k 0:=by
 have e1:w.getD k 0=(w.drop k).getD 0 0:=by simp [List.getD_eq_getElem?_getD]
 have e2:w0.getD k 0=(w0.drop k).getD 0 0:=by simp [List.getD_eq_getElem?_getD]
 rw [e1,e2,h]
theorem drop_more {w w0:List UInt16} {k:Nat} (x:UInt16) (h:w.drop k=w0.drop k):(w.set k x).drop (k+1)=w0.drop (k+1):=by
 rw [List.drop_set_of_lt (by omega),←List.drop_drop (l:=w),h,List.drop_drop]
theorem bg_long.l4_ok (v w0 qs:List UInt16) (n j:Nat) (g:UInt64) (hn:n=v.length) (hj:j+n<w0.length) (hl:w0.length≤1000001) (hg:g.toNat≤65535) {T:Nat} (hT:T=Nt.val ((w0.drop j).take (n+1))) (hV0:0<Nt.val v) (hg1:T / Nt.val v≤g.toNat) (hg2:g.toNat≤T / Nt.val v+1) :
  ∀(m i b:Nat) (c:UInt64) (w:List UInt16),i+m=n→b≤1→c.toNat≤65535→w.length=w0.length→w.take j=w0.take j→w.drop (j+i)=w0.drop (j+i) →
   Nt.val ((w0.drop j).take i)+65536 ^ i * (b+c.toNat)=Nt.val ((w.drop j).take i)+g.toNat * Nt.val (v.take i) →
   ∃(q:UInt64) (w':List UInt16),q.toNat=T / Nt.val v∧w'.length=w0.length∧w'.take j=w0.take j∧w'.drop (j+n+1)=w0.drop (j+n+1)∧Nt.val ((w'.drop j).take (n+1))=T % Nt.val v∧bg_long.l4 v n j g b c n i w qs=bg_long.j6 v n j q w' qs:=by
 have hVn:Nt.val v<65536 ^ n:=by rw [hn];exact Nt.val_lt v
 intro m
 induction m with
 | zero =>
  intro i b c w hi hb hc hwl ht hd hv
  obtain rfl:i=n:=by omega
  rw [List.take_of_length_le (l:=v) (by omega)] at hv
  have hlt:j+i<w.length:=by omega
  have hwin:=win_lt w j i
  have ew:=getD_of_drop hd
  have hTe:=win_succ w0 j i (by omega)
  rw [←hT,←ew] at hTe
  have w1:=(w.getD (j+i) 0).toNat_lt
  have hdm:=Nat.div_add_mod T (Nt.val v)
  have hR:=Nat.mod_lt T hV0
  generalize T / Nt.val v=q at *
  generalize hRR:T % Nt.val v=R at *
  generalize hVV:Nt.val v=V at *
  generalize hBB:65536 ^ i=P at *
  generalize hx:Nt.val ((w.drop j).take i)=X at *
  generalize hx0:Nt.val ((w0.drop j).take i)=X0 at *
  generalize hy:(w.getD (j+i) 0).toNat=y at *
  -- the top digit,less what is taken
  have hmain:(V * q+R)+P * (b+c.toNat)=X+g.toNat * V+P * y:=by rw [hdm,hTe];omega
  have step:∀ρ:OT,(∀v20:List UInt16,v20=w.set (j+i) (UInt16.ofInt ((y:Int) - b - c.toNat))→cond (decide ((y:Int) - b - c.toNat<0)) (bg_long.l5 v i j (g - 1) 0 i 0 v20 qs) (bg_long.j6 v i j g v20 qs)=ρ)→bg_long.l4 v i j g b c i i w qs=ρ:=by
   intro ρ hρ
   refine bg_long.l4_in _ _ _ _ _ _ _ _ _ _ ?_
   intro v1 h1 v2 h2 v3 h3 v4 h4 v5 h5 v6 h6 v7 h7 v8 h8 v9 h9 v10 h10 v11 h11 v12 h12 v13 h13 v14 h14 v15 h15 v16 h16 v17 h17 v18 h18 v19 h19 v20 h20
   have eji:IntKind.i64.wrap ((j:Int)+(i:Int))=((j+i:Nat):Int):=by rw [i64_in _ (by omega)];omega
   rw [eji,Int.toNat_natCast] at h14
   rw [h14] at h15 h20
   rw [h15,hy,i64_in _ (by omega)] at h16
   have e18:v18=(c.toNat:Int):=by rw [h18,i64_in _ (by omega)]
   have e17:v17=(y:Int) - b:=by rw [h17,i64_in _ (by omega),h16]
   have e19:v19=(y:Int) - b - c.toNat:=by rw [h19,i64_in _ (by omega),e17,e18]
   rw [decide_eq_false (by omega),cond_false,eji,ck_of (idx_ok (by omega) (by omega)),ck_of (decide_eq_true (by omega)),ck_of (idx_ok (by omega) (by omega)),ck_of (decide_eq_true (by omega)),e19]
   exact hρ v20 (by rw [h20,e19])
  by_cases cg:g.toNat=q
  ·-- the guess is right
   have e0:y=b+c.toNat:=by
    rw [cg,Nat.mul_comm q V] at hmain
    rcases Nat.lt_trichotomy y (b+c.toNat) with h | h | h
    ·have:P * (y+1)≤P * (b+c.toNat):=Nat.mul_le_mul_left _ h
     rw [Nat.mul_add,Nat.mul_one] at this
     omega
    ·exact h
    ·have:P * (b+c.toNat+1)≤P * y:=Nat.mul_le_mul_left _ h
     rw [Nat.mul_add,Nat.mul_one] at this
     omega
   have eR:X=R:=by
    rw [cg,Nat.mul_comm q V,e0] at hmain
    omega
   refine ⟨g,w.set (j+i) 0,cg,by rw [List.length_set];exact hwl,by rw [List.take_set_of_le (by omega)];exact ht,drop_more 0 hd,?_,step _ fun v20 h20=>?_⟩
   ·rw [win_set w j i 0 hlt,hx,eR];simp
   ·rw [decide_eq_false (by omega),cond_false,h20,show (y:Int) - b - c.toNat=0 by omega];rfl
  ·-- the guess is one too great
   have cg':g.toNat=q+1:=by omega
   have hq1:g.toNat * V=V * q+V:=by rw [cg',Nat.succ_mul,Nat.mul_comm]
   rw [hq1] at hmain
   have e0:y+1=b+c.toNat:=by
    rcases Nat.lt_trichotomy (y+1) (b+c.toNat) with h | h | h
    ·have:P * (y+2)≤P * (b+c.toNat):=Nat.mul_le_mul_left _ h
     rw [Nat.mul_add] at this
     omega
    ·exact h
    ·have:P * (b+c.toNat)≤P * y:=Nat.mul_le_mul_left _ (by omega)
     omega
   have eX:X+V=R+P:=by
    have:P * (b+c.toNat)=P * y+P:=by rw [←e0,Nat.mul_add,Nat.mul_one]
    omega
   have hs0:(w.set (j+i) (65535:UInt16)).length=w.length:=List.length_set
   obtain ⟨c',w',r1,r2,r3,r4,r5,r6,r7⟩:=bg_long.l5_ok v (w.set (j+i) 65535) qs i j (g - 1) hn (by omega) (by omega) i 0 0 (w.set (j+i) 65535) (by omega) (by decide) rfl rfl rfl (by simp [Nt.val])
   rw [drop_set_ge,List.take_set_of_le (Nat.le_refl _),hx,hVV,hBB] at r5
   have hwin':=win_lt w' j i
   rw [hBB] at hwin'
   have ec:c'=1:=by
    rcases Nat.lt_or_ge c' 1 with h | h
    ·obtain rfl:c'=0:=by omega
     rw [Nat.mul_zero] at r5;omega
    ·omega
   rw [ec,Nat.mul_one] at r5
   rw [getD_set_ne _ _ _ _ hlt,ec,show ((65535:UInt16).toNat+1) % 65536=0 from rfl] at r6
   refine ⟨g - 1,w',by rw [u64_sub1 (by omega)];omega,by omega,by rw [r3,List.take_set_of_le (by omega)];exact ht,by rw [r4];exact drop_more _ hd,?_,step _ fun v20 h20=>?_⟩
   ·rw [win_succ w' j i (by omega),r6,Nat.mul_zero,Nat.add_zero];omega
   ·rw [decide_eq_true (by omega),cond_true,h20,show (y:Int) - b - c.toNat=-1 by omega]
    exact r7
 | succ m ih =>
  intro i b c w hi hb hc hwl ht hd hv
  have hlt:j+i<w.length:=by omega
  have w1:=(w.getD (j+i) 0).toNat_lt
  have w2:=(v.getD i 0).toNat_lt
  have ew:=getD_of_drop hd
  have hm:g.toNat * (v.getD i 0).toNat≤65535 * 65535:=Nat.mul_le_mul hg (by omega)
  obtain ⟨p,hp⟩:∃p,p=g.toNat * (v.getD i 0).toNat+c.toNat:=⟨_,rfl⟩
  obtain ⟨y,hy⟩:∃y,y=(w.getD (j+i) 0).toNat:=⟨_,rfl⟩
  obtain ⟨z,hz⟩:∃z:Int,z=(y:Int) - b - ((p % 65536:Nat):Int):=⟨_,rfl⟩
  obtain ⟨b',hb'⟩:∃b':Nat,b'=if z<0 then 1 else 0:=⟨_,rfl⟩
  have hzd:((z % 65536).toNat:Int)=z+65536 * b':=by
   rw [hb'];split <;> omega
  have hb1:b'≤1:=by rw [hb'];split <;> omega
  have ec:(UInt64.ofNat (p / 65536)).toNat=p / 65536:=by rw [UInt64.toNat_ofNat'];omega
  obtain ⟨q,w',r1,r2,r3,r4,r5,r6⟩:=ih (i+1) b' (UInt64.ofNat (p / 65536)) (w.set (j+i) (UInt16.ofInt z)) (by omega) hb1 (by rw [ec];omega) (by rw [List.length_set];exact hwl) (by rw [List.take_set_of_le (by omega)];exact ht) (drop_more _ hd) (by
   rw [win_succ w0 j i (by omega),win_set w j i _ hlt,val_take_succ v i (by omega),ec,u16_ofInt_nat,←ew,←hy,Nat.pow_succ,Nat.mul_assoc]
   have e1:y+65536 * b'=(z % 65536).toNat+b+p % 65536:=by omega
   have e2:p % 65536+65536 * (p / 65536)=p:=Nat.mod_add_div p 65536
   have e3:y+65536 * (b'+p / 65536)=(z % 65536).toNat+b+p:=by omega
   rw [Nat.add_assoc,←Nat.mul_add,e3,Nat.mul_add,Nat.mul_add,hp,Nat.mul_add]
   have e4:65536 ^ i * (b+c.toNat)=65536 ^ i * b+65536 ^ i * c.toNat:=Nat.mul_add _ _ _
   have e5:g.toNat * (Nt.val (v.take i)+65536 ^ i * (v.getD i 0).toNat)=g.toNat * Nt.val (v.take i)+65536 ^ i * (g.toNat * (v.getD i 0).toNat):=by rw [Nat.mul_add,Nat.mul_left_comm]
   omega)
  refine ⟨q,w',r1,r2,r3,r4,r5,?_⟩
  rw [←r6]
  refine bg_long.l4_in _ _ _ _ _ _ _ _ _ _ ?_
  intro v1 h1 v2 h2 v3 h3 v4 h4 v5 h5 v6 h6 v7 h7 v8 h8 v9 h9 v10 h10 v11 h11 v12 h12 v13 h13 v14 h14 v15 h15 v16 h16 v17 h17 v18 h18 v19 h19 v20 h20
  have eji:IntKind.i64.wrap ((i:Int)+(j:Int))=((j+i:Nat):Int):=by rw [i64_in _ (by omega)];omega
  rw [eji,Int.toNat_natCast] at h4
  rw [h4] at h5 h12
  rw [Int.toNat_natCast] at h1
  have f2:v2.toNat=(v.getD i 0).toNat:=by rw [h2,u64_of_u16,h1]
  have fp:(g * v2+c).toNat=p:=by rw [UInt64.toNat_add,UInt64.toNat_mul,f2,hp];omega
  have f3:v3=UInt64.ofNat (p / 65536):=by
   apply UInt64.toNat_inj.1
   rw [h3,ec]
   exact (shr64_16 _).trans (by rw [fp])
  have f6:v6=(y:Int):=by rw [h6,h5,i64_in _ (by omega),hy]
  have f7:v7.toNat=p % 65536:=by rw [h7,and16,fp]
  have f8:v8=((p % 65536:Nat):Int):=by rw [h8,f7,i64_in _ (by omega)]
  have f9:v9=z:=by rw [h9,f6,f8,i64_in ((y:Int) - b) (by omega),i64_in _ (by omega),hz]
  have f10:v10=-(b':Int):=by rw [h10,f9,fdiv16i,hb'];split <;> omega
  have f11:v11=(b':Int):=by rw [h11,f10,and_one_i64 _ (by omega)];omega
  have f13:v13=((i+1:Nat):Int):=by rw [h13,i64_in _ (by omega)];omega
  rw [decide_eq_true (by omega),cond_true,eji,ck_of (idx_ok (by omega) (by omega)),ck_of (idx_ok (by omega) (by omega)),ck_of (decide_eq_true (by omega)),ck_of (idx_ok (by omega) (by omega)),ck_of (decide_eq_true (by omega)),f11,f3,f13,h12,f9]
end Go.Eng
namespace Go.Eng
open Go.IntWalk
theorem getLast_getD {v:List UInt16} (h:v≠[]):v.getLast?.getD 0=v.getD (v.length - 1) 0:=by
 obtain ⟨b,d,rfl⟩:∃b d,v=b++[d]:=⟨v.dropLast,v.getLast h,(List.dropLast_concat_getLast _).symm⟩
 rw [List.length_append,List.length_singleton,Nat.add_sub_cancel,getD_snoc];simp
theorem val_split (w:List UInt16) (k:Nat):Nt.val w=Nt.val (w.take k)+65536 ^ (w.take k).length * Nt.val (w.drop k):=by
 rw [←Nt.val_append,List.take_append_drop]
theorem getD_of_take {w u:List UInt16} {k i:Nat} (h:w.take k=u.take k) (hi:i<k):w.getD i 0=u.getD i 0:=by
 have:=congrArg (fun l=>l.getD i 0) h
 simpa [List.getD_eq_getElem?_getD,List.getElem?_take,hi] using this
theorem take_less {w u:List UInt16} {k j:Nat} (h:w.take k=u.take k) (hj:j≤k):w.take j=u.take j:=by
 have:=congrArg (fun l=>l.take j) h
 simpa [List.take_take,Nat.min_eq_left hj] using this
theorem bg_long.l1_ok (v U:List UInt16) (n:Nat) (hn:n=v.length) (h2:2≤n) (hU:n<U.length) (hl:U.length≤1000001) (hv1:32768≤(v.getD (n - 1) 0).toNat) :
  ∀(k:Nat) (w qs:List UInt16),k+n≤U.length→w.length=U.length→qs.length=U.length - n→w.take k=U.take k→Nt.val (w.drop k)=Nt.val (U.drop k) % Nt.val v→Nt.val (qs.drop k)=Nt.val (U.drop k) / Nt.val v →
   bg_long.l1 v n ((k:Int) - 1) w qs=some [.sl .ws (Nt.fix (U.length - n) (Nt.val U / Nt.val v)),.sl .ws (Nt.fix n (Nt.val U % Nt.val v))]:=by
 -- the divisor's two highest digits
 have e1:=val_take_succ v (n - 1) (by omega)
 have e2:=val_take_succ v (n - 2) (by omega)
 rw [show n - 1+1=n by omega,List.take_of_length_le (by omega)] at e1
 rw [show n - 2+1=n - 1 by omega] at e2
 have hlo:=Nt.val_lt (v.take (n - 2))
 rw [List.length_take,Nat.min_eq_left (by omega)] at hlo
 have hPP:65536 ^ (n - 1)=65536 ^ (n - 2) * 65536:=by rw [←Nat.pow_succ];congr 1;omega
 have hP0:0<65536 ^ (n - 2):=Nat.pow_pos (by omega)
 rw [hPP] at e1
 have hVe:Nt.val v=Nt.val (v.take (n - 2))+65536 ^ (n - 2) * ((v.getD (n - 1) 0).toNat * 65536+(v.getD (n - 2) 0).toNat):=by
  rw [e1,e2,Nat.mul_add,Nat.mul_assoc,Nat.mul_comm (v.getD (n - 1) 0).toNat 65536];omega
 have hVl:((v.getD (n - 1) 0).toNat * 65536+(v.getD (n - 2) 0).toNat) * 65536 ^ (n - 2)≤Nt.val v:=by rw [hVe,Nat.mul_comm];omega
 have hVu:Nt.val v<((v.getD (n - 1) 0).toNat * 65536+(v.getD (n - 2) 0).toNat+1) * 65536 ^ (n - 2):=by
  rw [hVe,Nat.add_mul _ 1,Nat.one_mul,Nat.mul_comm ((v.getD (n - 1) 0).toNat * 65536+(v.getD (n - 2) 0).toNat)];omega
 have hV0:0<Nt.val v:=Nat.lt_of_lt_of_le (Nat.mul_pos (by omega) hP0) hVl
 have hVn:Nt.val v<65536 ^ n:=by rw [hn];exact Nt.val_lt v
 intro k
 induction k with
 | zero =>
  intro w qs hk hwl hql ht hw hq
  refine bg_long.l1_in _ _ _ _ _ ?_
  intro v1 h1 v2 h2 v3 h3 v4 h4 v5 h5 v6 h6 v7 h7 v8 h8 v9 h9 v10 h10
  rw [List.drop_zero,List.drop_zero] at hw hq
  rw [decide_eq_false (by omega),cond_false,ck_of (cut_ok (by omega) (by omega) (by omega)),Int.toNat_natCast]
  have eq:qs=Nt.fix (U.length - n) (Nt.val U / Nt.val v):=Nt.val_inj (by rw [Nt.fix_length,hql]) (by
   rw [Nt.val_fix,hq,Nat.mod_eq_of_lt]
   rw [←hq,←hql];exact Nt.val_lt qs)
  have er:w.take n=Nt.fix n (Nt.val U % Nt.val v):=Nt.val_inj (by rw [Nt.fix_length,List.length_take];omega) (by
   have hm:=Nat.mod_lt (Nt.val U) hV0
   have hs:=val_split w n
   have hwn:(w.take n).length=n:=by rw [List.length_take];omega
   rw [hwn] at hs
   have h0:Nt.val (w.drop n)=0:=by
    rcases Nat.eq_zero_or_pos (Nt.val (w.drop n)) with e | e
    ·exact e
    ·have:=Nat.mul_le_mul_left (65536 ^ n) e
     rw [Nat.mul_one] at this
     omega
   rw [h0,Nat.mul_zero,Nat.add_zero] at hs
   rw [Nt.val_fix,Nat.mod_eq_of_lt (by omega),←hs,hw])
  rw [eq,er]
 | succ j ih =>
  intro w qs hk hwl hql ht hw hq
  have ek:((j+1:Nat):Int) - 1=(j:Int):=by omega
  rw [ek]
  -- what is divided now
  have hm:=Nat.mod_lt (Nt.val (U.drop (j+1))) hV0
  have hs:=val_split (w.drop (j+1)) n
  have hwn:((w.drop (j+1)).take n).length=n:=by rw [List.length_take,List.length_drop];omega
  rw [hwn] at hs
  have h0:Nt.val ((w.drop (j+1)).drop n)=0:=by
   rcases Nat.eq_zero_or_pos (Nt.val ((w.drop (j+1)).drop n)) with e | e
   ·exact e
   ·have:=Nat.mul_le_mul_left (65536 ^ n) e
    rw [Nat.mul_one] at this
    omega
  have hs:Nt.val (w.drop (j+1))=Nt.val ((w.drop (j+1)).take n):=by rw [h0,Nat.mul_zero] at hs;exact hs
  have hd:w.drop j=w.getD j 0 :: w.drop (j+1):=drop_cons (by omega) 0
  obtain ⟨T,hT⟩:∃T,T=Nt.val ((w.drop j).take (n+1)):=⟨_,rfl⟩
  have hTv:T=(w.getD j 0).toNat+65536 * Nt.val (w.drop (j+1)):=by
   rw [hT,hd,List.take_succ_cons,Nt.val,←hs]
  have wj:=(w.getD j 0).toNat_lt
  have hTV:T / Nt.val v≤65535:=by
   have:T<65536 * Nt.val v:=by rw [hTv,hw];omega
   have:=(Nat.div_lt_iff_lt_mul hV0).2 this
   omega
  -- its highest digits
  have t1:=win_succ w j n (by omega)
  have t2:=win_succ w j (n - 1) (by omega)
  have t3:=win_succ w j (n - 2) (by omega)
  rw [show n - 1+1=n by omega,show j+(n - 1)=j+n - 1 by omega] at t2
  rw [show n - 2+1=n - 1 by omega,show j+(n - 2)=j+n - 2 by omega] at t3
  have hw3:=win_lt w j (n - 2)
  have hPn:65536 ^ n=65536 ^ (n - 2) * (65536 * 65536):=by rw [show (65536 * 65536:Nat)=65536 ^ 2 by decide,←Nat.pow_add];congr 1;omega
  obtain ⟨top,htop⟩:∃top,top=(w.getD (j+n) 0).toNat * 65536+(w.getD (j+n - 1) 0).toNat:=⟨_,rfl⟩
  have hTe:T=Nt.val ((w.drop j).take (n - 2))+65536 ^ (n - 2) * (top * 65536+(w.getD (j+n - 2) 0).toNat):=by
   rw [hT,t1,t2,t3,hPn,hPP,htop]
   generalize (w.getD (j+n) 0).toNat=a
   generalize (w.getD (j+n - 1) 0).toNat=b
   generalize (w.getD (j+n - 2) 0).toNat=c
   generalize 65536 ^ (n - 2)=P
   rw [Nat.mul_add,Nat.mul_assoc,Nat.mul_assoc,Nat.add_mul,Nat.mul_add,Nat.mul_comm b 65536,show a * 65536 * 65536=65536 * 65536 * a by rw [Nat.mul_assoc,Nat.mul_comm a]]
   omega
  have hTl:(top * 65536+(w.getD (j+n - 2) 0).toNat) * 65536 ^ (n - 2)≤T:=by rw [hTe,Nat.mul_comm];omega
  have hTu:T<(top * 65536+(w.getD (j+n - 2) 0).toNat+1) * 65536 ^ (n - 2):=by
   rw [hTe,Nat.add_mul _ 1,Nat.one_mul,Nat.mul_comm (top * 65536+(w.getD (j+n - 2) 0).toNat)];omega
  have a1:=(w.getD (j+n) 0).toNat_lt
  have a2:=(w.getD (j+n - 1) 0).toNat_lt
  have a3:=(v.getD (n - 1) 0).toNat_lt
  -- the highest digit is at most the divisor's
  have htle:(w.getD (j+n) 0).toNat≤(v.getD (n - 1) 0).toNat:=by
   have hA:T<65536 * Nt.val v:=by rw [hTv,hw];omega
   rcases Nat.lt_or_ge (v.getD (n - 1) 0).toNat (w.getD (j+n) 0).toNat with h | h
   ·have g1:65536 ^ n * ((v.getD (n - 1) 0).toNat+1)≤65536 ^ n * (w.getD (j+n) 0).toNat:=Nat.mul_le_mul_left _ h
    have g2:65536 * Nt.val v<65536 ^ n * ((v.getD (n - 1) 0).toNat+1):=by
     have g3:Nt.val v<65536 ^ (n - 1) * ((v.getD (n - 1) 0).toNat+1):=by
      have:=Nt.val_lt (v.take (n - 1))
      rw [List.length_take,Nat.min_eq_left (by omega),hPP] at this
      rw [e1,hPP,Nat.mul_add,Nat.mul_one];omega
     have g4:=Nat.mul_lt_mul_of_pos_left g3 (show 0<65536 by omega)
     have g5:65536 * (65536 ^ (n - 1) * ((v.getD (n - 1) 0).toNat+1))=65536 ^ n * ((v.getD (n - 1) 0).toNat+1):=by
      rw [←Nat.mul_assoc,Nat.mul_comm 65536,←Nat.pow_succ];congr 2;omega
     omega
    omega
   ·exact h
  obtain ⟨d,hdd⟩:∃d,d=(v.getD (n - 1) 0).toNat:=⟨_,rfl⟩
  have hguess:top / d≤65537:=by
   have:top<65538 * d:=by rw [htop];omega
   have:=(Nat.div_lt_iff_lt_mul (show 0<d by omega)).2 this
   omega
  have hfirst:T / Nt.val v≤top / d:=by
   -- T<(top+1) * B^(n-1),and the divisor is at least d * B^(n-1)
   have g1:T<(top+1) * 65536 ^ (n - 1):=by
    refine Nat.lt_of_lt_of_le hTu ?_
    rw [hPP,Nat.mul_comm (65536 ^ (n - 2)) 65536,←Nat.mul_assoc]
    refine Nat.mul_le_mul_right _ ?_
    have:=(w.getD (j+n - 2) 0).toNat_lt
    omega
   have g2:d * 65536 ^ (n - 1)≤Nt.val v:=by
    have h9:=e1
    rw [←hdd,←hPP] at h9
    rw [h9,Nat.mul_comm d];exact Nat.le_add_left _ _
   have g3:T / Nt.val v≤T / (d * 65536 ^ (n - 1)):=Nat.div_le_div_left g2 (Nat.mul_pos (by omega) (Nat.pow_pos (by omega)))
   have g4:T / (d * 65536 ^ (n - 1))=T / 65536 ^ (n - 1) / d:=by rw [Nat.mul_comm,Nat.div_div_eq_div_mul]
   have g5:T / 65536 ^ (n - 1)≤top:=by
    have:=(Nat.div_lt_iff_lt_mul (show 0<65536 ^ (n - 1) from Nat.pow_pos (by omega))).2 g1
    omega
   rw [g4] at g3
   exact Nat.le_trans g3 (Nat.div_le_div_right g5)
  have htop32:top<65536 * 65536:=by rw [htop];omega
  -- the operands
  have key:∀(g r:UInt64),g.toNat=top / d→r.toNat=top % d→bg_long.l2 v n j g r w qs=some [.sl .ws (Nt.fix (U.length - n) (Nt.val U / Nt.val v)),.sl .ws (Nt.fix n (Nt.val U % Nt.val v))]:=by
   intro g r hg hr
   have hdm:=Nat.div_add_mod top d
   have hmd:=Nat.mod_lt top (show 0<d by omega)
   obtain ⟨g',i1,i2,i3,i4⟩:=bg_long.l2_ok v w qs n j hn (by omega) (by omega) (by omega) (V:=Nt.val v) (T:=T) (P:=65536 ^ (n - 2)) (top:=top) hP0 hv1 htop hVl hVu hTl hTu hTV (top / d) g r (by omega) (by omega) (by rw [hg,hr,←hdd,Nat.mul_comm];omega) (by omega) (by rw [hg];exact hfirst)
   rw [i4,bg_long.j3_eq]
   obtain ⟨q,w',r1,r2,r3,r4,r5,r6⟩:=bg_long.l4_ok v w qs n j g' hn (by omega) (by omega) i3 hT hV0 i1 i2 n 0 0 0 w (by omega) (by omega) (by decide) rfl rfl rfl (by simp [Nt.val])
   refine r6.trans ?_
   refine bg_long.j6_in _ _ _ _ _ _ ?_
   intro u1 k1 u2 k2 u3 k3
   rw [Int.toNat_natCast] at k2
   rw [ck_of (idx_ok (by omega) (by omega)),ck_of (decide_eq_true (by omega)),k3,i64_in _ (by omega)]
   have hUj:=val_drop U j (by omega)
   have ewj:w.getD j 0=U.getD j 0:=getD_of_take ht (by omega)
   rw [←ewj] at hUj
   have hUm:Nt.val (U.drop j)=T+Nt.val v * (65536 * (Nt.val (U.drop (j+1)) / Nt.val v)):=by
    have:=Nat.div_add_mod (Nt.val (U.drop (j+1))) (Nt.val v)
    rw [hUj,hTv,hw]
    conv=>lhs;rw [←this]
    rw [Nat.mul_add,Nat.mul_left_comm];omega
   refine ih w' u2 (by omega) (by omega) (by rw [k2,List.length_set];exact hql) (by rw [r3];exact take_less ht (by omega)) ?_ ?_
   ·have hs2:=val_split (w'.drop j) (n+1)
    have hwn2:((w'.drop j).take (n+1)).length=n+1:=by rw [List.length_take,List.length_drop];omega
    have e3:(w'.drop j).drop (n+1)=(w.drop (j+1)).drop n:=by
     rw [List.drop_drop,List.drop_drop,show j+(n+1)=j+n+1 by omega,r4];congr 1;omega
    rw [hwn2,e3,h0,Nat.mul_zero,Nat.add_zero,r5] at hs2
    rw [hs2,hUm,Nat.add_mul_mod_self_left]
   ·have e4:(u2.getD j 0).toNat=T / Nt.val v:=by
     rw [k2,getD_set_ne _ _ _ _ (by omega),k1,u16_of_u64,Nt.u16_ofNat,r1,Nat.mod_eq_of_lt (by omega)]
    rw [val_drop u2 j (by rw [k2,List.length_set];omega),e4,k2,List.drop_set_of_lt (by omega),hq,hUm,Nat.add_mul_div_left _ _ hV0]
  refine bg_long.l1_in _ _ _ _ _ ?_
  intro v1 h1 v2 h2' v3 h3 v4 h4 v5 h5 v6 h6 v7 h7 v8 h8 v9 h9 v10 h10
  have ejn:IntKind.i64.wrap ((j:Int)+(n:Int))=((j+n:Nat):Int):=by rw [i64_in _ (by omega)];omega
  rw [ejn] at h1 h5 ⊢
  rw [Int.toNat_natCast] at h1
  have e5:v5=((j+n - 1:Nat):Int):=by rw [h5,i64_in _ (by omega)];omega
  have e8:v8=((n - 1:Nat):Int):=by rw [h8,i64_in _ (by omega)];omega
  rw [h1] at h2'
  rw [e5,Int.toNat_natCast] at h6
  rw [e8,Int.toNat_natCast] at h9
  have f10:v10.toNat=d:=by rw [h10,u64_of_u16,h9,hdd]
  have f3:v3.toNat=(w.getD (j+n) 0).toNat:=by rw [h3,u64_of_u16,h2']
  have f7:v7.toNat=(w.getD (j+n - 1) 0).toNat:=by rw [h7,u64_of_u16,h6]
  have f4:v4.toNat=(w.getD (j+n) 0).toNat * 65536:=by rw [h4,←f3];exact shl64_16 (by omega)
  have f47:(v4 ||| v7).toNat=top:=by rw [or16 f4 (by omega),f7,htop]
  have n10:v10≠0:=fun e=>by
   have:=congrArg UInt64.toNat e
   rw [f10] at this
   have e0:(0:UInt64).toNat=0:=rfl
   omega
  rw [decide_eq_true (by omega),cond_true,ck_of (idx_ok (by omega) (by omega)),ck_of (decide_eq_true (by omega)),ck_of (idx_ok (by omega) (by omega)),ck_of (decide_eq_true (by omega)),ck_of (idx_ok (by omega) (by omega)),decide_eq_false n10,Bool.not_false,ck_true,ck_of (idx_ok (by omega) (by omega)),ck_true]
  exact key _ _ (by rw [UInt64.toNat_div,f47,f10]) (by rw [UInt64.toNat_mod,f47,f10])
theorem bg_long.goal (u v:List UInt16) (hp:decide (u.length≤1000000∧2≤v.length∧v.length≤u.length∧32768≤(v.getLast?.getD 0).toNat)=true):bg_long.F u v=some [.sl .ws (Nt.fix (u.length+1 - v.length) (Nt.val u / Nt.val v)),.sl .ws (Nt.fix v.length (Nt.val u % Nt.val v))]:=by
 obtain ⟨l1,l2,l3,l4⟩:=of_decide_eq_true hp
 rw [getLast_getD (by intro e;subst e;simp at l2)] at l4
 refine bg_long.F_in _ _ ?_
 intro v1 h1 v2 h2 v3 h3 v4 h4
 subst h1
 have hl:(u++[(0:UInt16)]).length=u.length+1:=by simp
 have e2:v2=((u.length+1 - v.length:Nat):Int):=by rw [h2,hl,i64_in _ (by omega)];omega
 have e4:v4=((u.length+1 - v.length:Nat):Int) - 1:=by rw [h4,e2,i64_in _ (by omega)]
 have hU:Nt.val (u++[0])=Nt.val u:=Nt.val_snoc0 u
 have hV0:0<Nt.val v:=by
  have:=val_take_succ v (v.length - 1) (by omega)
  rw [show v.length - 1+1=v.length by omega,List.take_length] at this
  have h5:=Nat.mul_pos (show 0<65536 ^ (v.length - 1) from Nat.pow_pos (by omega)) (show 0<(v.getD (v.length - 1) 0).toNat by omega)
  omega
 have hlow:Nt.val ((u++[(0:UInt16)]).drop (u.length+1 - v.length))<Nt.val v:=by
  rw [List.drop_append_of_le_length (by omega),Nt.val_snoc0]
  have h6:=Nt.val_lt (u.drop (u.length+1 - v.length))
  rw [List.length_drop,show u.length - (u.length+1 - v.length)=v.length - 1 by omega] at h6
  have:=val_take_succ v (v.length - 1) (by omega)
  rw [show v.length - 1+1=v.length by omega,List.take_length] at this
  have h5:=Nat.mul_le_mul_left (65536 ^ (v.length - 1)) (show 1≤(v.getD (v.length - 1) 0).toNat by omega)
  omega
 have:=bg_long.l1_ok v (u++[0]) v.length rfl l2 (by omega) (by omega) l4 (u.length+1 - v.length) (u++[0]) v3 (by omega) rfl (by rw [h3,e2];simp) rfl (Nat.mod_eq_of_lt hlow).symm (by
  rw [Nat.div_eq_of_lt hlow,h3,e2];simp [Nt.val])
 rw [hU,hl] at this
 rw [ck_of (big_ap (by rw [List.length_singleton];omega) (by rw [List.length_singleton];omega)),ck_of (mkOK_iff.2 ⟨by omega,by omega,by omega,by rw [maxLen_eq];omega⟩),e4]
 exact this
end Go.Eng
namespace Go.Eng
open Go.IntWalk Ieee
namespace Fl
theorem cut_zero {s:Bool} {X N d:Nat} (h:X=N * 2 ^ d):Toward.zero.cut s X d=N:=by
 have e:Toward.zero.cut s X d=X / (1 <<< min d (X.log2+2)):=by
  unfold Toward.cut
  simp
 rw [e,Nat.one_shiftLeft]
 rcases Nat.eq_zero_or_pos N with rfl | hN
 ·rw [h];simp
 ·have hl:X.log2=N.log2+d:=by rw [h];exact log2_mul_pow N d (by omega)
  rw [Nat.min_eq_left (by omega),h,Nat.mul_div_cancel _ (Nat.two_pow_pos d)]
theorem WD.integral {d:Datum} {n:Int} (h:WD d n):∃s,d.integral .zero = .number s n.natAbs 0∧(n<0→s=true)∧(0<n→s=false):=by
 obtain ⟨s,m,p,rfl,hv,h1,h2⟩:=h
 refine ⟨s,?_,h1,h2⟩
 show Datum.number s (Toward.zero.cut s (m <<< p.toNat) (-p).toNat) 0=_
 rw [Nat.shiftLeft_eq,cut_zero hv]
theorem WD.whole {s:Bool} {n:Int} (h1:n<0→s=true) (h2:0<n→s=false):WD (.number s n.natAbs 0) n:=⟨s,_,_,rfl,by unfold Val;simp,h1,h2⟩
theorem W.num {b:Nat} {n:Int} (h:W b n):Fl.num b=true:=by
 obtain ⟨s,m,p,hr,_⟩:=h
 show (!(double.read b).isNaN)=true
 rw [hr];rfl
theorem W.trunc {b:Nat} {n:Int} (h:W b n) (hn:n.natAbs≤9007199254740992):W (Fl.trunc b) n:=by
 obtain ⟨s,e,h1,h2⟩:=WD.integral h
 have e':(FloatKind.f64.decode b).integral .zero = .number s n.natAbs 0:=e
 unfold Fl.trunc
 rw [e']
 exact (WD.whole h1 h2).write hn
theorem W.toInt {b:Nat} {n:Int} (h:W b n) (hn:n.natAbs≤9007199254740992):Fl.toIntOK b=true∧Fl.toInt b=n:=by
 obtain ⟨s,e,h1,h2⟩:=WD.integral h
 have e':(FloatKind.f64.decode b).integral .zero = .number s n.natAbs 0:=e
 have e2:floatToIntVal .f64 b .i64=some n:=by
  unfold floatToIntVal Datum.toInt
  rw [e']
  have e3:signed s n.natAbs 0=n:=by
   have:=signed_val (s:=s) (m:=n.natAbs) (i:=0) (base:=0) (x:=n) (by unfold Val;simp) h1 h2 (by omega)
   simpa using this
  simp only [e3]
  have e4:IntKind.i64.min=-9223372036854775808:=by decide
  have e5:IntKind.i64.max=9223372036854775807:=by decide
  rw [e4,e5,if_pos (by omega)]
 unfold Fl.toIntOK Fl.toInt
 rw [e2]
 exact ⟨rfl,rfl⟩
theorem W.ofInt {n:Int} (hn:n.natAbs≤9007199254740992):W (Fl.ofInt n) n:=ofInt_whole n hn
theorem W.add {a b:Nat} {x y:Int} (ha:W a x) (hb:W b y) (h:(x+y).natAbs≤9007199254740992):Fl.addOK a b=true∧W (Fl.add a b) (x+y):=by
 obtain ⟨r,e,hr⟩:=add_whole ha hb h
 unfold Fl.addOK Fl.add
 rw [e];exact ⟨rfl,hr⟩
theorem W.sub {a b:Nat} {x y:Int} (ha:W a x) (hb:W b y) (h:(x - y).natAbs≤9007199254740992):Fl.subOK a b=true∧W (Fl.sub a b) (x - y):=by
 obtain ⟨r,e,hr⟩:=sub_whole ha hb h
 unfold Fl.subOK Fl.sub
 rw [e];exact ⟨rfl,hr⟩
theorem W.mul {a b:Nat} {x y:Int} (ha:W a x) (hb:W b y) (h:(x * y).natAbs≤9007199254740992):Fl.mulOK a b=true∧W (Fl.mul a b) (x * y):=by
 obtain ⟨r,e,hr⟩:=mul_whole ha hb h
 unfold Fl.mulOK Fl.mul
 rw [e];exact ⟨rfl,hr⟩
theorem W.eq {a b:Nat} {x y:Int} (ha:W a x) (hb:W b y):Fl.eq a b=decide (x=y):=by
 unfold Fl.eq
 rw [order_whole ha hb]
 rcases Int.lt_trichotomy x y with c | c | c
 ·rw [Int.compare_eq_lt.2 c,decide_eq_false (by omega)];rfl
 ·subst c;simp
 ·rw [Int.compare_eq_gt.2 c,decide_eq_false (by omega)];rfl
theorem W.lt {a b:Nat} {x y:Int} (ha:W a x) (hb:W b y):Fl.lt a b=decide (x<y):=by
 unfold Fl.lt
 rw [order_whole ha hb]
 rcases Int.lt_trichotomy x y with c | c | c
 ·rw [Int.compare_eq_lt.2 c,decide_eq_true c];rfl
 ·subst c;simp
 ·rw [Int.compare_eq_gt.2 c,decide_eq_false (by omega)];rfl
theorem W.gt {a b:Nat} {x y:Int} (ha:W a x) (hb:W b y):Fl.gt a b=decide (y<x):=by
 unfold Fl.gt
 rw [order_whole ha hb]
 rcases Int.lt_trichotomy x y with c | c | c
 ·rw [Int.compare_eq_lt.2 c,decide_eq_false (by omega)];rfl
 ·subst c;simp
 ·rw [Int.compare_eq_gt.2 c,decide_eq_true c];rfl
theorem W_25:W 4719772409484279808 33554432:=by
 have e:Fl.ofInt 33554432=4719772409484279808:=by decide +kernel
 rw [←e];exact W.ofInt (by decide)
theorem W_52:W 4841369599423283200 4503599627370496:=by
 have e:Fl.ofInt 4503599627370496=4841369599423283200:=by decide +kernel
 rw [←e];exact W.ofInt (by decide)
theorem W_50:W 4832362400168542208 1125899906842624:=by
 have e:Fl.ofInt 1125899906842624=4832362400168542208:=by decide +kernel
 rw [←e];exact W.ofInt (by decide)
theorem W_m50:W 14055734437023318016 (-1125899906842624):=by
 have e:Fl.ofInt (-1125899906842624)=14055734437023318016:=by decide +kernel
 rw [←e];exact W.ofInt (by decide)
theorem W_0:W 0 0:=by
 have e:Fl.ofInt 0=0:=by decide +kernel
 rw [←e];exact W.ofInt (by decide)
theorem W_1:W 4607182418800017408 1:=by
 have e:Fl.ofInt 1=4607182418800017408:=by decide +kernel
 rw [←e];exact W.ofInt (by decide)
theorem W_m1:W 13830554455654793216 (-1):=by
 have e:Fl.ofInt (-1)=13830554455654793216:=by decide +kernel
 rw [←e];exact W.ofInt (by decide)
end Fl
namespace Gz
theorem inB_iff {z:Cx} {M:Nat}:inB z M=true ↔ In z M:=by classical exact (by unfold inB;exact decide_eq_true_iff)
theorem inQ_iff {l:Qd} {M:Nat}:inQ l M=true ↔ InQ l M:=by classical exact (by unfold inQ;exact decide_eq_true_iff)
theorem in4_iff {l:Qd}:in4 l=true ↔ ∀k,k<4→In4 (part l (-1) k 4):=by unfold in4;simp only [decide_eq_true_eq]
theorem inM_of {z:Cx} {b M:Nat} (h:In z M) (hb:Fl.W b (M:Int)) (hM:M≤9007199254740992):inM z b=true:=by
 classical
 unfold inM
 obtain ⟨x,y,h1,h2,h3⟩:=h
 exact decide_eq_true ⟨x,y,M,h1,hb,by omega,by omega,by omega⟩
theorem In.le {z:Cx} {M N:Nat} (h:In z M) (hn:M≤N):In z N:=by
 obtain ⟨x,y,h1,h2,h3⟩:=h
 exact ⟨x,y,h1,by omega,by omega⟩
theorem mul_is {z w:Cx} {x y u v:Int} (hz:Is z x y) (hw:Is w u v) (h1:(x * u).natAbs≤2251799813685248) (h2:(y * v).natAbs≤2251799813685248) (h3:(x * v).natAbs≤2251799813685248) (h4:(y * u).natAbs≤2251799813685248) :
  Fl.cmulOK z.1 z.2 w.1 w.2=true∧Is (mul z w) (x * u - y * v) (x * v+y * u):=by
 obtain ⟨a1,b1⟩:=Fl.W.mul hz.1 hw.1 (by omega)
 obtain ⟨a2,b2⟩:=Fl.W.mul hz.2 hw.2 (by omega)
 obtain ⟨a3,b3⟩:=Fl.W.sub b1 b2 (by omega)
 obtain ⟨a4,b4⟩:=Fl.W.mul hz.1 hw.2 (by omega)
 obtain ⟨a5,b5⟩:=Fl.W.mul hz.2 hw.1 (by omega)
 obtain ⟨a6,b6⟩:=Fl.W.add b4 b5 (by omega)
 refine ⟨?_,b3,b6⟩
 unfold Fl.cmulOK
 rw [a1,a2,a3,a4,a5,a6];rfl
theorem add_is {z w:Cx} {x y u v:Int} (hz:Is z x y) (hw:Is w u v) (h1:(x+u).natAbs≤9007199254740992) (h2:(y+v).natAbs≤9007199254740992):(Fl.addOK z.1 w.1&&Fl.addOK z.2 w.2)=true∧Is (add z w) (x+u) (y+v):=by
 obtain ⟨a1,b1⟩:=Fl.W.add hz.1 hw.1 h1
 obtain ⟨a2,b2⟩:=Fl.W.add hz.2 hw.2 h2
 rw [a1,a2]
 exact ⟨rfl,b1,b2⟩
def ure (k:Int):Int:=if k % 4=0 then 1 else if k % 4=2 then -1 else 0
def uim (k:Int):Int:=if k % 4=1 then 1 else if k % 4=3 then -1 else 0
theorem ure_cases (k:Int):ure k=0∨ure k=1∨ure k=-1:=by
 unfold ure
 split
 ·simp
 ·split <;> simp
theorem uim_cases (k:Int):uim k=0∨uim k=1∨uim k=-1:=by
 unfold uim
 split
 ·simp
 ·split <;> simp
theorem unit_is (k:Int):Is (unit k) (ure k) (uim k):=by
 have h:k % 4=0∨k % 4=1∨k % 4=2∨k % 4=3:=by omega
 unfold unit ure uim
 rcases h with h | h | h | h <;> rw [h]
 ·exact ⟨Fl.W_1,Fl.W_0⟩
 ·exact ⟨Fl.W_0,Fl.W_1⟩
 ·exact ⟨Fl.W_m1,Fl.W_0⟩
 ·exact ⟨Fl.W_0,Fl.W_m1⟩
theorem turn_is {z:Cx} {x y:Int} (k:Int) (hz:Is z x y) (hx:x.natAbs≤1125899906842624) (hy:y.natAbs≤1125899906842624) :
  Fl.cmulOK z.1 z.2 (unit k).1 (unit k).2=true∧Is (turn z k) (x * ure k - y * uim k) (x * uim k+y * ure k):=by
 have hu:=unit_is k
 have h1:ure k=0∨ure k=1∨ure k=-1:=ure_cases k
 have h2:uim k=0∨uim k=1∨uim k=-1:=uim_cases k
 refine mul_is hz hu ?_ ?_ ?_ ?_
 ·rcases h1 with e | e | e <;> rw [e] <;> omega
 ·rcases h2 with e | e | e <;> rw [e] <;> omega
 ·rcases h2 with e | e | e <;> rw [e] <;> omega
 ·rcases h1 with e | e | e <;> rw [e] <;> omega
theorem turn_in {z:Cx} {k:Int} (h:In z 1125899906842624):In (turn z k) 2251799813685248:=by
 obtain ⟨x,y,hz,hx,hy⟩:=h
 refine ⟨_,_,(turn_is k hz hx hy).2,?_,?_⟩
 all_goals
  have h1:ure k=0∨ure k=1∨ure k=-1:=ure_cases k
  have h2:uim k=0∨uim k=1∨uim k=-1:=uim_cases k
  rcases h1 with e | e | e <;> rcases h2 with f | f | f <;> rw [e,f] <;> omega
end Gz
theorem math_Trunc.goal (x:Nat) (hp:(Fl.num x)=true):math_Trunc.F x=some [.c (.float .f64 (Fl.trunc x))]:=by
 rw [math_Trunc.F_eq,cond_true,hp];rfl
theorem gz_small.goal (z:Cx) (hp:(Gz.inB z 33554432)=true):gz_small.F z=some [.b true]:=by
 rw [gz_small.F_eq,Gz.inM_of (Gz.inB_iff.1 hp) Fl.W_25 (by omega)];rfl
theorem gz_Of.goal (x y:Int) (hp:decide (-33554432≤x∧x≤33554432∧-33554432≤y∧y≤33554432)=true):gz_Of.F x y=some [.c (.complex .f64 ((Fl.ofInt x,Fl.ofInt y):Cx).1 ((Fl.ofInt x,Fl.ofInt y):Cx).2)]:=by
 obtain ⟨h1,h2,h3,h4⟩:=of_decide_eq_true hp
 refine gz_Of.F_in _ _ ?_
 intro v1 e1 v2 e2 v3 e3 v4 e4
 have d1:v1=false:=by rw [e1,decide_eq_false (by omega),cond_false];exact decide_eq_false (by omega)
 have d2:v2=false:=by rw [e2,d1,cond_false];exact decide_eq_false (by omega)
 have d3:v3=false:=by rw [e3,d2,cond_false];exact decide_eq_false (by omega)
 simp only [Bool.not_or_self,Bool.or_not_self,Bool.not_not,ck_true]
 rw [d3,cond_false,e4]
theorem gz_Parts.goal (z:Cx) (hp:(Gz.inB z 4503599627370496)=true):gz_Parts.F z=some [.i .i64 (Fl.toInt z.1),.i .i64 (Fl.toInt z.2),.b true]:=by
 have h:=Gz.inB_iff.1 hp
 have hm:=Gz.inM_of h Fl.W_52 (by omega)
 obtain ⟨x,y,hz,hx,hy⟩:=h
 rw [gz_Parts.F_eq,hm,(hz.1.toInt (by omega)).1,(hz.2.toInt (by omega)).1];rfl
theorem and3_i64 (k:Int) (h1 : -100≤k) (h2:k≤100):intBitsV .and .i64 k 3=k % 4:=by
 have:∀n:Nat,n<201→intBitsV .and .i64 ((n:Int) - 100) 3=((n:Int) - 100) % 4:=by decide +kernel
 have:=this (k+100).toNat (by omega)
 rwa [show (((k+100).toNat:Nat):Int) - 100=k by omega] at this
theorem gz_Turn.goal (z:Cx) (k:Int) (hp:(Gz.inB z 1125899906842624&&decide (-100≤k∧k≤100))=true):gz_Turn.F z k=some [.c (.complex .f64 (Gz.turn z k).1 (Gz.turn z k).2)]:=by
 simp only [Bool.and_eq_true,decide_eq_true_eq] at hp
 obtain ⟨h,k1,k2⟩:=hp
 have h:=Gz.inB_iff.1 h
 have hm:=Gz.inM_of (h.le (show 1125899906842624≤4503599627370496 by omega)) Fl.W_52 (by omega)
 obtain ⟨x,y,hz,hx,hy⟩:=h
 obtain ⟨c1,_⟩:=Gz.turn_is k hz hx hy
 refine gz_Turn.F_in _ _ ?_
 intro v1 h1 v2 h2 v3 h3 v4 h4 v5 h5 v6 h6 v7 h7
 rw [and3_i64 k k1 k2] at h5
 have e6:v6=Gz.unit k:=by rw [h6,h1,h2,h3,h4,h5];rfl
 rw [hm,ck_true,Bool.not_true,cond_false,ck_of (idx_ok (by omega) (by omega)),ck_of (decide_eq_true (by omega)),e6,c1,ck_true,h7,e6]
 rfl
theorem gz_Times.goal (z w:Cx) (hp:(Gz.inB z 33554432&&Gz.inB w 33554432)=true):gz_Times.F z w=some [.c (.complex .f64 (Gz.mul z w).1 (Gz.mul z w).2)]:=by
 simp only [Bool.and_eq_true] at hp
 obtain ⟨x,y,hz,hx,hy⟩:=Gz.inB_iff.1 hp.1
 obtain ⟨u,v,hw,hu,hv⟩:=Gz.inB_iff.1 hp.2
 have hm:∀a b:Int,a.natAbs≤33554432→b.natAbs≤33554432→(a * b).natAbs≤2251799813685248:=fun a b h1 h2=>by
  rw [Int.natAbs_mul]
  exact Nat.le_trans (Nat.mul_le_mul h1 h2) (by omega)
 obtain ⟨c1,_⟩:=Gz.mul_is hz hw (hm _ _ hx hu) (hm _ _ hy hv) (hm _ _ hx hv) (hm _ _ hy hu)
 refine gz_Times.F_in _ _ ?_
 intro v1 h1 v2 h2
 have e1:v1=false:=h1
 rw [hp.1,hp.2,c1,e1,h2]
 rfl
theorem wv_fit1.goal (x:Nat) (hp:(Gz.inR x)=true):wv_fit1.F x=some [.b true]:=by
 classical
 unfold Gz.inR at hp
 obtain ⟨n,hn,hb⟩:=of_decide_eq_true hp
 refine wv_fit1.F_in _ ?_
 intro v1 h1 v2 h2 v3 h3
 have e1:v1=true:=by
  rw [h1,hn.gt Fl.W_m50,hn.eq Fl.W_m50]
  rcases Int.lt_or_eq_of_le (show (-1125899906842624:Int)≤n by omega) with c | c
  ·rw [decide_eq_true c];rfl
  ·rw [decide_eq_true c.symm,Bool.or_true]
 have e2:v2=true:=by
  rw [h2,hn.lt Fl.W_50,hn.eq Fl.W_50]
  rcases Int.lt_or_eq_of_le (show n≤(1125899906842624:Int) by omega) with c | c
  ·rw [decide_eq_true c];rfl
  ·rw [decide_eq_true c,Bool.or_true]
 have e3:v3=true:=by rw [h3,e1,e2,cond_true,cond_true,hn.eq (hn.trunc (by omega)),decide_eq_true rfl]
 rw [e1,e2,e3,hn.num]
 rfl
theorem Gz.In.parts {z:Cx} (h:Gz.In z 1125899906842624):Gz.inR z.1=true∧Gz.inR z.2=true:=by
 obtain ⟨x,y,h1,h2,h3⟩:=h
 classical
 unfold Gz.inR
 exact ⟨decide_eq_true ⟨x,h1.1,h2⟩,decide_eq_true ⟨y,h1.2,h3⟩⟩
theorem Gz.InQ.get {l:Qd} {M:Nat} (h:Gz.InQ l M) (i:Nat) (hi:i<4):Gz.In (l.get i) M:=by
 obtain ⟨a,b,c,d⟩:=h
 have:i=0∨i=1∨i=2∨i=3:=by omega
 rcases this with rfl | rfl | rfl | rfl
 ·exact a
 ·exact b
 ·exact c
 ·exact d
theorem wv_fit.l1_ok (l:Qd) (h:Gz.InQ l 1125899906842624):∀(m i:Nat),i+m=4→wv_fit.l1 l i=some [.b true]:=by
 intro m
 induction m with
 | zero =>
  intro i hi
  refine wv_fit.l1_in _ _ ?_
  intro v1 h1 v2 h2
  rw [decide_eq_false (by omega),cond_false]
 | succ m ih =>
  intro i hi
  refine wv_fit.l1_in _ _ ?_
  intro v1 h1 v2 h2
  have e1:v1=false:=h1
  have e2:v2=((i+1:Nat):Int):=by rw [h2,i64_in _ (by omega)];omega
  obtain ⟨p1,p2⟩:=(h.get i (by omega)).parts
  rw [decide_eq_true (by omega),cond_true,ck_of (idx_ok (by omega) (by omega)),Int.toNat_natCast,p1,p2,e1,e2]
  exact ih (i+1) (by omega)
theorem wv_fit.goal (l:Qd) (hp:(Gz.inQ l 1125899906842624)=true):wv_fit.F l=some [.b true]:=by
 rw [wv_fit.F_eq];exact wv_fit.l1_ok l (Gz.inQ_iff.1 hp) 4 0 (by omega)
theorem wv_Four.goal (l:Qd) (hp:(Gz.inQ l 1125899906842624)=true):wv_Four.F l=some [.ag (Qd.cells (Gz.sums l 1))]:=by
 rw [wv_Four.F_eq,hp];rfl
end Go.Eng
namespace Go.Eng
open Go.IntWalk
theorem Qd.get_set (q:Qd) (k:Nat) (x:Cx) (hk:k<4):(q.set k x).get k=x:=by
 have:k=0∨k=1∨k=2∨k=3:=by omega
 rcases this with rfl | rfl | rfl | rfl <;> rfl
theorem Qd.set_set (q:Qd) (k:Nat) (x y:Cx) (hk:k<4):(q.set k x).set k y=q.set k y:=by
 have:k=0∨k=1∨k=2∨k=3:=by omega
 rcases this with rfl | rfl | rfl | rfl <;> rfl
theorem Qd.set_get (q:Qd) (k:Nat) (hk:k<4):q.set k (q.get k)=q:=by
 have:k=0∨k=1∨k=2∨k=3:=by omega
 rcases this with rfl | rfl | rfl | rfl <;> rfl
theorem Gz.part_in {l:Qd} (h:Gz.InQ l 1125899906842624) (w:Int) (k:Nat):∀j,j≤4→Gz.In (Gz.part l w k j) (j * 2251799813685248)
 | 0,_=>⟨0,0,⟨Fl.W_0,Fl.W_0⟩,by omega,by omega⟩
 | j+1,hj=>by
  obtain ⟨x,y,h1,h2,h3⟩:=Gz.part_in h w k j (by omega)
  obtain ⟨u,v,g1,g2,g3⟩:=Gz.turn_in (k:=j * k * w) (h.get j (by omega))
  obtain ⟨_,e⟩:=Gz.add_is h1 g1 (by omega) (by omega)
  exact ⟨_,_,e,by omega,by omega⟩
theorem wv_sums.l2_ok (l:Qd) (w:Int) (h:Gz.InQ l 1125899906842624) (hw:w=1∨w=-1) (k:Nat) (hk:k<4) (Z:Qd):∀(m j:Nat) (acc:Qd),j+m=4→acc.get k=Gz.part l w k j →
  wv_sums.l2 w k k l j l Z acc=wv_sums.l1 w ((k+1:Nat):Int) l Z (acc.set k (Gz.part l w k 4)):=by
 intro m
 induction m with
 | zero =>
  intro j acc hj ha
  refine wv_sums.l2_in _ _ _ _ _ _ _ _ ?_
  intro v1 h1 v2 h2 v3 h3 v4 h4 v5 h5
  obtain rfl:j=4:=by omega
  rw [decide_eq_false (by omega),cond_false,←ha,Qd.set_get _ _ hk,h5,i64_in _ (by omega)];rfl
 | succ m ih =>
  intro j acc hj ha
  refine wv_sums.l2_in _ _ _ _ _ _ _ _ ?_
  intro v1 h1 v2 h2 v3 h3 v4 h4 v5 h5
  rw [Int.toNat_natCast] at h2 h3
  have hjk:((j:Int) * (k:Int))=((j * k:Nat):Int):=by rw [Int.natCast_mul]
  have hjk2:j * k≤3 * 3:=Nat.mul_le_mul (by omega) (by omega)
  have e1:v1=(j:Int) * k * w:=by
   rw [h1,hjk,i64_in ((j * k:Nat):Int) (by omega)]
   rcases hw with rfl | rfl <;> rw [i64_in _ (by omega)]
  have b1 : -100≤v1∧v1≤100:=by
   rw [e1,hjk]
   rcases hw with rfl | rfl <;> omega
  have e2:v2=Gz.turn (l.get j) ((j:Int) * k * w):=by rw [h2,e1]
  rw [ha] at h3
  obtain ⟨x,y,p1,p2,p3⟩:=Gz.part_in h w k j (by omega)
  obtain ⟨u,v,g1,g2,g3⟩:=Gz.turn_in (k:=(j:Int) * k * w) (h.get j (by omega))
  obtain ⟨c1,_⟩:=Gz.add_is p1 g1 (by omega) (by omega)
  have e3:v3=Gz.part l w k (j+1):=by rw [h3,e2];rfl
  have e4:v4=((j+1:Nat):Int):=by rw [h4,i64_in _ (by omega)];omega
  have x1:idxOK (j:Int) 4=true:=idx_ok (by omega) (by omega)
  have x2:idxOK (k:Int) 4=true:=idx_ok (by omega) (by omega)
  have x3:decide ((k:Int).toNat<4)=true:=decide_eq_true (by omega)
  rw [decide_eq_true (show (j:Int)<4 by omega),cond_true,x1,x2,x3,Int.toNat_natCast,Int.toNat_natCast,Gz.inB_iff.2 (h.get j (by omega)),decide_eq_true b1,ha,e2,c1,e3,e4]
  simp only [Bool.and_self,ck_true]
  rw [ih (j+1) (acc.set k (Gz.part l w k (j+1))) (by omega) (Qd.get_set _ _ _ hk),Qd.set_set _ _ _ _ hk]
theorem wv_sums.goal (l:Qd) (w:Int) (hp:(Gz.inQ l 1125899906842624&&decide (w=1∨w=-1))=true):wv_sums.F l w=some [.ag (Qd.cells (Gz.sums l w))]:=by
 simp only [Bool.and_eq_true,decide_eq_true_eq] at hp
 obtain ⟨h,hw⟩:=hp
 have h:=Gz.inQ_iff.1 h
 have st:∀(k:Nat) (Z acc:Qd),k<4→acc.get k=(0,0)→wv_sums.l1 w k l Z acc=wv_sums.l1 w ((k+1:Nat):Int) l Z (acc.set k (Gz.part l w k 4)):=fun k Z acc hk ha=>by
  rw [wv_sums.l1_eq,decide_eq_true (by omega),cond_true]
  exact wv_sums.l2_ok l w h hw k hk Z 4 0 acc (by omega) (by rw [ha];rfl)
 rw [wv_sums.F_eq]
 refine (st 0 _ _ (by omega) rfl).trans ?_
 refine (st 1 _ _ (by omega) rfl).trans ?_
 refine (st 2 _ _ (by omega) rfl).trans ?_
 refine (st 3 _ _ (by omega) rfl).trans ?_
 rw [wv_sums.l1_eq,decide_eq_false (by decide),cond_false]
 rfl
theorem Gz.sums_get (l:Qd) (w:Int) (k:Nat) (hk:k<4):(Gz.sums l w).get k=Gz.part l w k 4:=by
 have:k=0∨k=1∨k=2∨k=3:=by omega
 rcases this with rfl | rfl | rfl | rfl <;> rfl
theorem wv_Back.goal (l:Qd) (hp:(Gz.inQ l 1125899906842624&&Gz.in4 l)=true):wv_Back.F l=some [.ag (Qd.cells (Gz.back l)),.b true]:=by
 simp only [Bool.and_eq_true] at hp
 obtain ⟨h,h4⟩:=hp
 have hq:=h
 have h4:=Gz.in4_iff.1 h4
 rw [wv_Back.F_eq,hq,ck_true,Bool.not_true,cond_false,Bool.true_and,ck_of (decide_eq_true (.inr rfl))]
 have st:∀(k:Nat) (Y acc:Qd),k<4→wv_Back.l1 (Gz.sums l (-1)) k Y acc=wv_Back.l1 (Gz.sums l (-1)) ((k+1:Nat):Int) Y (acc.set k (Gz.quarter (Gz.part l (-1) k 4))):=fun k Y acc hk=>by
  refine wv_Back.l1_in _ _ _ _ ?_
  intro v1 h1 v2 h2 v3 h3 v4 h4' v5 h5 v6 h6 v7 h7 v8 h8
  rw [Int.toNat_natCast,Gz.sums_get l _ k hk] at h1 h2
  obtain ⟨x,y,p1,p2,p3⟩:=h4 k hk
  have e1:v1=4 * x:=by rw [h1];exact (p1.1.toInt (by omega)).2
  have e2:v2=4 * y:=by rw [h2];exact (p1.2.toInt (by omega)).2
  have m1:Int.tmod v1 4=0:=by rw [e1];exact Int.mul_tmod_right _ _
  have m2:Int.tmod v2 4=0:=by rw [e2];exact Int.mul_tmod_right _ _
  have e3:v3=false:=by rw [h3,m1];rfl
  have e4:v4=false:=by rw [h4',e3,m2];rfl
  have d1:Int.tdiv v1 4=x:=by rw [e1];exact Int.mul_tdiv_cancel_left _ (by omega)
  have d2:Int.tdiv v2 4=y:=by rw [e2];exact Int.mul_tdiv_cancel_left _ (by omega)
  have e5:v5=Int.tdiv v1 4:=by rw [h5,i64_in _ (by rw [d1];omega)]
  have e6:v6=Int.tdiv v2 4:=by rw [h6,i64_in _ (by rw [d2];omega)]
  have e8:v8=((k+1:Nat):Int):=by rw [h8,i64_in _ (by omega)];omega
  have e7:v7=Gz.quarter (Gz.part l (-1) k 4):=by rw [h7,e5,e6,h1,h2];rfl
  have x1:idxOK (k:Int) 4=true:=idx_ok (by omega) (by omega)
  have x2:decide ((k:Int).toNat<4)=true:=decide_eq_true (by omega)
  have b1:Gz.inB (Gz.part l (-1) k 4) 4503599627370496=true:=Gz.inB_iff.2 ⟨_,_,p1,by omega,by omega⟩
  rw [decide_eq_true (show (k:Int)<4 by omega),cond_true,x1,x2,Int.toNat_natCast,Gz.sums_get l _ k hk,b1,e3,e4,e7,e8]
  rfl
 refine (st 0 _ _ (by omega)).trans ?_
 refine (st 1 _ _ (by omega)).trans ?_
 refine (st 2 _ _ (by omega)).trans ?_
 refine (st 3 _ _ (by omega)).trans ?_
 refine wv_Back.l1_in _ _ _ _ ?_
 intro v1 h1 v2 h2 v3 h3 v4 h4' v5 h5 v6 h6 v7 h7 v8 h8
 rw [decide_eq_false (by decide),cond_false]
 rfl
theorem Gz.digs_get {l:List Int} (h:Gz.digs l=true) (i:Nat) (hi:i<l.length):0≤l.getD i 0∧l.getD i 0≤65535:=by
 unfold Gz.digs at h
 rw [List.getD_eq_getElem?_getD,List.getElem?_eq_getElem hi]
 simpa using List.all_eq_true.1 h _ (List.getElem_mem hi)
theorem wv_digits.l1_ok (l:List Int) (h:Gz.digs l=true) (hl:l.length≤256):∀(m i:Nat),i+m=l.length→wv_digits.l1 l l l.length i=some [.b true]:=by
 intro m
 induction m with
 | zero =>
  intro i hi
  refine wv_digits.l1_in _ _ _ _ ?_
  intro v1 h1 v2 h2 v3 h3
  rw [decide_eq_false (by omega),cond_false,decide_eq_true (by omega)]
 | succ m ih =>
  intro i hi
  refine wv_digits.l1_in _ _ _ _ ?_
  intro v1 h1 v2 h2 v3 h3
  rw [Int.toNat_natCast] at h1
  have hd:=Gz.digs_get h i (by omega)
  rw [←h1] at hd
  have e2:v2=false:=by rw [h2,decide_eq_false (by omega),cond_false];exact decide_eq_false (by omega)
  have e3:v3=((i+1:Nat):Int):=by rw [h3,i64_in _ (by omega)];omega
  simp only [Bool.not_or_self,Bool.or_not_self,Bool.not_not,ck_true]
  rw [decide_eq_true (by omega),cond_true,ck_of (idx_ok (by omega) (by omega)),e2,cond_false,e3]
  exact ih (i+1) (by omega)
theorem wv_digits.goal (l:List Int) (hp:(decide (l.length≤256)&&Gz.digs l)=true):wv_digits.F l=some [.b true]:=by
 simp only [Bool.and_eq_true,decide_eq_true_eq] at hp
 rw [wv_digits.F_eq];exact wv_digits.l1_ok l hp.2 hp.1 l.length 0 (by omega)
theorem Gz.ofI_is {a:Int} (h:0≤a∧a≤65535):Gz.Is (Gz.ofI a) a 0:=⟨Fl.W.ofInt (by omega),Fl.W.ofInt (n:=0) (by decide)⟩
theorem Gz.ofI_in {a:Int} (h:0≤a∧a≤65535):Gz.In (Gz.ofI a) 1125899906842624:=⟨_,_,Gz.ofI_is h,by omega,by omega⟩
theorem Gz.zero_is:Gz.Is (0,0) 0 0:=⟨Fl.W_0,Fl.W_0⟩
theorem Gz.zero_in:Gz.In (0,0) 1125899906842624:=⟨_,_,Gz.zero_is,by omega,by omega⟩
theorem Gz.pairs_drop (l:List Int) (i:Nat) (h:i<l.length):Gz.pairs (l.drop i)=(if i+1<l.length then Gz.sums ⟨Gz.ofI (l.getD i 0),Gz.ofI (l.getD (i+1) 0),(0,0),(0,0)⟩ 1 else Gz.sums ⟨Gz.ofI (l.getD i 0),(0,0),(0,0),(0,0)⟩ 1) :: Gz.pairs (l.drop (i+2)):=by
 rw [drop_cons h 0]
 by_cases c:i+1<l.length
 ·rw [drop_cons c 0,Gz.pairs,if_pos c]
 ·rw [List.drop_of_length_le (i:=i+1) (by omega),List.drop_of_length_le (i:=i+2) (by omega),Gz.pairs,if_neg c];rfl
theorem wv_pairs.l1_ok (l:List Int) (h:Gz.digs l=true) (hl:l.length≤256):∀(m i:Nat) (acc:List Qd),l.length≤i+2 * m→i≤300→acc.length≤i→wv_pairs.l1 l acc i=some [.sl .qd (acc++Gz.pairs (l.drop i))]:=by
 intro m
 induction m with
 | zero =>
  intro i acc hi hi2 ha
  refine wv_pairs.l1_in _ _ _ ?_
  intro v1 h1 v2 h2 v3 h3 v4 h4 v5 h5 v6 h6
  rw [decide_eq_false (by omega),cond_false,List.drop_of_length_le (by omega),Gz.pairs,List.append_nil]
 | succ m ih =>
  intro i acc hi hi2 ha
  refine wv_pairs.l1_in _ _ _ ?_
  intro v1 h1 v2 h2 v3 h3 v4 h4 v5 h5 v6 h6
  by_cases c0:i<l.length
  ·rw [Int.toNat_natCast] at h1
   have e3:v3=((i+1:Nat):Int):=by rw [h3,i64_in _ (by omega)];omega
   rw [e3,Int.toNat_natCast] at h4
   have hd:=Gz.digs_get h i (by omega)
   rw [←h1] at hd
   have jn:∀q:Qd,Gz.InQ q 1125899906842624→wv_pairs.j2 l acc i q=some [.sl .qd (acc++[Gz.sums q 1]++Gz.pairs (l.drop (i+2)))]:=fun q hq=>by
    refine wv_pairs.j2_in _ _ _ _ ?_
    intro u1 g1 u2 g2
    have e2:u2=((i+2:Nat):Int):=by rw [g2,i64_in _ (by omega)];omega
    rw [Gz.inQ_iff.2 hq,ck_true,ck_of (big_ap (by rw [List.length_singleton];omega) (by rw [List.length_singleton];omega)),g1,e2]
    exact ih (i+2) _ (by omega) (by omega) (by rw [List.length_append,List.length_singleton];omega)
   rw [decide_eq_true (by omega),cond_true,ck_of (idx_ok (by omega) (by omega)),ck_of (decide_eq_true (by omega)),Gz.pairs_drop l i c0]
   by_cases c:i+1<l.length
   ·have hd2:=Gz.digs_get h (i+1) c
    rw [←h4] at hd2
    rw [e3,decide_eq_true (by omega),cond_true,ck_of (idx_ok (by omega) (by omega)),ck_of (decide_eq_true (by omega)),ck_of (idx_ok (by omega) (by omega)),ck_of (by decide),if_pos c]
    have e6:v6=⟨Gz.ofI v1,Gz.ofI v4,(0,0),(0,0)⟩:=by rw [h6,h5,h2];rfl
    rw [e6,jn _ ⟨Gz.ofI_in hd,Gz.ofI_in hd2,Gz.zero_in,Gz.zero_in⟩,←h1,←h4,List.append_assoc];rfl
   ·rw [e3,decide_eq_false (by omega),cond_false,if_neg c]
    have e6:(Qd.mk v2 (0,0) (0,0) (0,0))=⟨Gz.ofI v1,(0,0),(0,0),(0,0)⟩:=by rw [h2];rfl
    rw [e6,jn _ ⟨Gz.ofI_in hd,Gz.zero_in,Gz.zero_in,Gz.zero_in⟩,←h1,List.append_assoc];rfl
  ·rw [decide_eq_false (by omega),cond_false,List.drop_of_length_le (by omega),Gz.pairs,List.append_nil]
theorem wv_pairs.goal (l:List Int) (hp:(decide (l.length≤256)&&Gz.digs l)=true):wv_pairs.F l=some [.sl .qd (Gz.pairs l)]:=by
 simp only [Bool.and_eq_true,decide_eq_true_eq] at hp
 rw [wv_pairs.F_eq]
 have:=wv_pairs.l1_ok l hp.2 hp.1 l.length 0 [] (by omega) (by omega) (by simp)
 rw [List.drop_zero,List.nil_append] at this
 exact this
end Go.Eng
namespace Go.Eng
open Go.IntWalk
namespace Gz
def pre (X Y:Nat→Int) (w:Int) (k:Nat):Nat→Int
 | 0=>0
 | j+1=>pre X Y w k j+(X j * ure (j * k * w) - Y j * uim (j * k * w))
def pim (X Y:Nat→Int) (w:Int) (k:Nat):Nat→Int
 | 0=>0
 | j+1=>pim X Y w k j+(X j * uim (j * k * w)+Y j * ure (j * k * w))
theorem part_is {l:Qd} {X Y:Nat→Int} {w:Int} {k:Nat} (h:∀j,j<4→Is (l.get j) (X j) (Y j)∧(X j).natAbs≤1125899906842624∧(Y j).natAbs≤1125899906842624) :
  ∀j,j≤4→Is (part l w k j) (pre X Y w k j) (pim X Y w k j)∧(pre X Y w k j).natAbs≤j * 2251799813685248∧(pim X Y w k j).natAbs≤j * 2251799813685248
 | 0,_=>⟨zero_is,by show (0:Int).natAbs≤_;omega,by show (0:Int).natAbs≤_;omega⟩
 | j+1,hj=>by
  obtain ⟨i1,i2,i3⟩:=part_is (w:=w) (k:=k) h j (by omega)
  obtain ⟨g1,g2,g3⟩:=h j (by omega)
  have t:=(turn_is (j * k * w) g1 g2 g3).2
  have b1:(X j * ure (j * k * w) - Y j * uim (j * k * w)).natAbs≤2251799813685248:=by
   rcases ure_cases (j * k * w) with e | e | e <;> rcases uim_cases (j * k * w) with f | f | f <;> rw [e,f] <;> omega
  have b2:(X j * uim (j * k * w)+Y j * ure (j * k * w)).natAbs≤2251799813685248:=by
   rcases ure_cases (j * k * w) with e | e | e <;> rcases uim_cases (j * k * w) with f | f | f <;> rw [e,f] <;> omega
  show Is (add (part l w k j) (turn (l.get j) (j * k * w))) (pre X Y w k j+(X j * ure (j * k * w) - Y j * uim (j * k * w))) (pim X Y w k j+(X j * uim (j * k * w)+Y j * ure (j * k * w)))∧(pre X Y w k j+(X j * ure (j * k * w) - Y j * uim (j * k * w))).natAbs≤_∧(pim X Y w k j+(X j * uim (j * k * w)+Y j * ure (j * k * w))).natAbs≤_
  generalize X j * ure (j * k * w) - Y j * uim (j * k * w)=A at *
  generalize X j * uim (j * k * w)+Y j * ure (j * k * w)=B at *
  exact ⟨(add_is i1 t (by omega) (by omega)).2,by omega,by omega⟩
def dg (x:Int):Prop:=0≤x∧x≤65535
def two (a b:Int):Qd:=sums ⟨ofI a,ofI b,(0,0),(0,0)⟩ 1
def rx (a b:Int) (k:Nat):Int:=a+b * ure k
def ry (b:Int) (k:Nat):Int:=b * uim k
theorem two_is {a b:Int} (ha:dg a) (hb:dg b) (k:Nat) (hk:k<4):Is ((two a b).get k) (rx a b k) (ry b k):=by
 unfold two
 rw [sums_get _ _ _ hk]
 have h:=(part_is (l:=⟨ofI a,ofI b,(0,0),(0,0)⟩) (w:=1) (k:=k) (X:=fun j=>[a,b].getD j 0) (Y:=fun _=>0) (fun j hj=>by
  have:j=0∨j=1∨j=2∨j=3:=by omega
  obtain ⟨a1,a2⟩:=ha
  obtain ⟨b1,b2⟩:=hb
  rcases this with rfl | rfl | rfl | rfl
  ·exact ⟨ofI_is ⟨a1,a2⟩,by show a.natAbs≤_;omega,by decide⟩
  ·exact ⟨ofI_is ⟨b1,b2⟩,by show b.natAbs≤_;omega,by decide⟩
  ·exact ⟨zero_is,by show (0:Int).natAbs≤_;omega,by show (0:Int).natAbs≤_;omega⟩
  ·exact ⟨zero_is,by show (0:Int).natAbs≤_;omega,by show (0:Int).natAbs≤_;omega⟩) 4 (by omega)).1
 have e1:pre (fun j=>[a,b].getD j 0) (fun _=>0) 1 k 4=rx a b k:=by simp [pre,rx,ure]
 have e2:pim (fun j=>[a,b].getD j 0) (fun _=>0) 1 k 4=ry b k:=by simp [pim,ry,uim]
 rw [e1,e2] at h
 exact h
theorem rx_le {a b:Int} (ha:dg a) (hb:dg b) (k:Nat):(rx a b k).natAbs≤131070:=by
 obtain ⟨a1,a2⟩:=ha
 obtain ⟨b1,b2⟩:=hb
 unfold rx
 rcases ure_cases k with e | e | e <;> rw [e] <;> omega
theorem ry_le {b:Int} (hb:dg b) (k:Nat):(ry b k).natAbs≤65535:=by
 obtain ⟨b1,b2⟩:=hb
 unfold ry
 rcases uim_cases k with e | e | e <;> rw [e] <;> omega
def prodq (x y:Qd):Qd:=⟨mul (x.get 0) (y.get 0),mul (x.get 1) (y.get 1),mul (x.get 2) (y.get 2),mul (x.get 3) (y.get 3)⟩
def zx (a b c d:Int) (k:Nat):Int:=rx a b k * rx c d k - ry b k * ry d k
def zy (a b c d:Int) (k:Nat):Int:=rx a b k * ry d k+ry b k * rx c d k
theorem prodq_get (x y:Qd) (k:Nat) (hk:k<4):(prodq x y).get k=mul (x.get k) (y.get k):=by
 have:k=0∨k=1∨k=2∨k=3:=by omega
 rcases this with rfl | rfl | rfl | rfl <;> rfl
theorem mul_le {a b:Int} {m n:Nat} (h1:a.natAbs≤m) (h2:b.natAbs≤n):(a * b).natAbs≤m * n:=by
 rw [Int.natAbs_mul];exact Nat.mul_le_mul h1 h2
theorem two_in {a b:Int} (ha:dg a) (hb:dg b) (k:Nat) (hk:k<4):In ((two a b).get k) 33554432 :=
 ⟨_,_,two_is ha hb k hk,by have:=rx_le ha hb k;omega,by have:=ry_le hb k;omega⟩
theorem prod_is {a b c d:Int} (ha:dg a) (hb:dg b) (hc:dg c) (hd:dg d) (k:Nat) (hk:k<4) :
  Is ((prodq (two a b) (two c d)).get k) (zx a b c d k) (zy a b c d k)∧(zx a b c d k).natAbs≤1125899906842624∧(zy a b c d k).natAbs≤1125899906842624:=by
 have x1:=rx_le ha hb k
 have x2:=ry_le hb k
 have x3:=rx_le hc hd k
 have x4:=ry_le hd k
 have y1:=mul_le x1 x3
 have y2:=mul_le x2 x4
 have y3:=mul_le x1 x4
 have y4:=mul_le x2 x3
 rw [prodq_get _ _ _ hk]
 refine ⟨(mul_is (two_is ha hb k hk) (two_is hc hd k hk) (by omega) (by omega) (by omega) (by omega)).2,?_,?_⟩
 ·unfold zx;omega
 ·unfold zy;omega
def co (a b c d:Int) (k:Nat):Int:=if k=0 then a * c else if k=1 then a * d+b * c else if k=2 then b * d else 0
theorem back_sum (a b c d:Int) (k:Nat) (hk:k<4):pre (zx a b c d) (zy a b c d) (-1) k 4=4 * co a b c d k∧pim (zx a b c d) (zy a b c d) (-1) k 4=4 * 0:=by
 have:k=0∨k=1∨k=2∨k=3:=by omega
 rcases this with rfl | rfl | rfl | rfl <;> constructor <;> simp [pre,pim,co,zx,zy,rx,ry,ure,uim,Int.add_mul,Int.mul_add,Int.sub_mul,Int.mul_sub,Int.neg_mul,Int.mul_neg] <;> omega
theorem co_le {a b c d:Int} (ha:dg a) (hb:dg b) (hc:dg c) (hd:dg d) (k:Nat):0≤co a b c d k∧co a b c d k≤8589672450:=by
 have m:∀{x y:Int},dg x→dg y→0≤x * y∧x * y≤4294836225:=fun {x y} h1 h2=>by
  have:=mul_le (a:=x) (b:=y) (m:=65535) (n:=65535) (by obtain ⟨_,_⟩:=h1;omega) (by obtain ⟨_,_⟩:=h2;omega)
  have h0:=Int.mul_nonneg h1.1 h2.1
  omega
 have m1:=m ha hc
 have m2:=m ha hd
 have m3:=m hb hc
 have m4:=m hb hd
 unfold co
 split
 ·omega
 ·split
  ·omega
  ·split <;> omega
theorem prod_in4 {a b c d:Int} (ha:dg a) (hb:dg b) (hc:dg c) (hd:dg d) (k:Nat) (hk:k<4):Is (part (prodq (two a b) (two c d)) (-1) k 4) (4 * co a b c d k) (4 * 0):=by
 have h:=(part_is (w:=-1) (k:=k) (fun j hj=>prod_is ha hb hc hd j hj) 4 (by omega)).1
 rw [(back_sum a b c d k hk).1,(back_sum a b c d k hk).2] at h
 exact h
theorem back_get (l:Qd) (k:Nat) (hk:k<4):(back l).get k=quarter (part l (-1) k 4):=by
 have:k=0∨k=1∨k=2∨k=3:=by omega
 rcases this with rfl | rfl | rfl | rfl <;> rfl
theorem quarter_is {z:Cx} {x y:Int} (h:Is z (4 * x) (4 * y)) (hx:x.natAbs≤562949953421312) (hy:y.natAbs≤562949953421312):Is (quarter z) x y:=by
 unfold quarter
 rw [(h.1.toInt (by omega)).2,(h.2.toInt (by omega)).2,Int.mul_tdiv_cancel_left _ (by omega),Int.mul_tdiv_cancel_left _ (by omega)]
 exact ⟨Fl.W.ofInt (by omega),Fl.W.ofInt (by omega)⟩
theorem back_is {a b c d:Int} (ha:dg a) (hb:dg b) (hc:dg c) (hd:dg d) (k:Nat) (hk:k<4):Is ((back (prodq (two a b) (two c d))).get k) (co a b c d k) 0:=by
 rw [back_get _ _ hk]
 have:=co_le ha hb hc hd k
 exact quarter_is (prod_in4 ha hb hc hd k hk) (by omega) (by omega)
theorem prod_ok {a b c d:Int} (ha:dg a) (hb:dg b) (hc:dg c) (hd:dg d):(inQ (prodq (two a b) (two c d)) 1125899906842624&&in4 (prodq (two a b) (two c d)))=true:=by
 have h:∀k,k<4→In ((prodq (two a b) (two c d)).get k) 1125899906842624:=fun k hk=>by
  obtain ⟨h1,h2,h3⟩:=prod_is ha hb hc hd k hk
  exact ⟨_,_,h1,h2,h3⟩
 rw [inQ_iff.2 ⟨h 0 (by omega),h 1 (by omega),h 2 (by omega),h 3 (by omega)⟩,in4_iff.2 fun k hk=>?_]
 ·rfl
 ·have:=co_le ha hb hc hd k
  exact ⟨_,_,prod_in4 ha hb hc hd k hk,by omega,by omega⟩
theorem pairs_length:∀l:List Int,(pairs l).length=(l.length+1) / 2
 | []=>rfl
 | [a]=>by simp [pairs]
 | a :: b :: r=>by rw [pairs,List.length_cons,pairs_length r,List.length_cons,List.length_cons];omega
theorem ofI_0:ofI 0=(0,0):=by
 have e:Fl.ofInt 0=0:=by decide +kernel
 unfold ofI;rw [e]
theorem pairs_get (e:Qd):∀(l:List Int) (i:Nat),i<(l.length+1) / 2→(pairs l).getD i e=two (l.getD (2 * i) 0) (l.getD (2 * i+1) 0)
 | [],i,h=>by simp at h
 | [a],i,h=>by
  obtain rfl:i=0:=by simp at h;omega
  show sums ⟨ofI a,(0,0),(0,0),(0,0)⟩ 1=two a 0
  unfold two;rw [ofI_0]
 | a :: b :: r,0,h=>rfl
 | a :: b :: r,i+1,h=>by
  rw [List.length_cons,List.length_cons] at h
  have:=pairs_get e r i (by omega)
  rw [show 2 * (i+1)=2 * i+2 by omega]
  exact this
theorem digs_dg {l:List Int} (h:digs l=true) (i:Nat):dg (l.getD i 0):=by
 by_cases c:i<l.length
 ·exact digs_get h i c
 ·rw [List.getD_eq_getElem?_getD,List.getElem?_eq_none (by omega)];exact ⟨by decide,by decide⟩
end Gz
end Go.Eng
namespace Go.Eng
open Go.IntWalk
namespace Gz
def T (f g:Nat→Int) (m:Nat):Nat→Int
 | 0=>0
 | n+1=>T f g m n+if n≤m then f n * g (m - n) else 0
def U (f g:Nat→Int) (i n m:Nat):Int:=(if i≤m∧m - i<n then f i * g (m - i) else 0)+if i+1≤m∧m - (i+1)<n then f (i+1) * g (m - (i+1)) else 0
theorem dmul {x y:Int} (h1:dg x) (h2:dg y):0≤x * y∧x * y≤4294836225:=by
 have:=mul_le (a:=x) (b:=y) (m:=65535) (n:=65535) (by obtain ⟨_,_⟩:=h1;omega) (by obtain ⟨_,_⟩:=h2;omega)
 have h0:=Int.mul_nonneg h1.1 h2.1
 omega
theorem T_le {f g:Nat→Int} (hf:∀i,dg (f i)) (hg:∀i,dg (g i)) (m:Nat):∀n,0≤T f g m n∧T f g m n≤n * 4294836225
 | 0=>⟨Int.le_refl _,by show (0:Int)≤_;omega⟩
 | n+1=>by
  have h:=T_le hf hg m n
  have h2:=dmul (hf n) (hg (m - n))
  rw [T]
  split <;> omega
theorem U_le {f g:Nat→Int} (hf:∀i,dg (f i)) (hg:∀i,dg (g i)) (i n m:Nat):0≤U f g i n m∧U f g i n m≤8589672450:=by
 have h1:=dmul (hf i) (hg (m - i))
 have h2:=dmul (hf (i+1)) (hg (m - (i+1)))
 unfold U
 split <;> split <;> omega
theorem U_0 (f g:Nat→Int) (i m:Nat):U f g i 0 m=0:=by
 unfold U
 rw [if_neg (by omega),if_neg (by omega)];rfl
theorem U_step (f g:Nat→Int) (i n m:Nat):U f g i (n+2) m=U f g i n m+if m=i+n then co (f i) (f (i+1)) (g n) (g (n+1)) 0 else if m=i+n+1 then co (f i) (f (i+1)) (g n) (g (n+1)) 1 else if m=i+n+2 then co (f i) (f (i+1)) (g n) (g (n+1)) 2 else 0:=by
 unfold U co
 by_cases c0:m=i+n
 ·subst c0
  rw [if_pos (by omega),if_pos rfl,if_pos rfl,if_neg (show ¬(i≤i+n∧i+n - i<n) by omega),show i+n - i=n by omega]
  by_cases c:n=0
  ·rw [if_neg (by omega),if_neg (by omega)];omega
  ·rw [if_pos (by omega),if_pos (by omega)];omega
 ·rw [if_neg c0]
  by_cases c1:m=i+n+1
  ·subst c1
   rw [if_pos (by omega),if_pos (by omega),if_pos rfl,if_neg (show ¬(i≤i+n+1∧i+n+1 - i<n) by omega),if_neg (show ¬(i+1≤i+n+1∧i+n+1 - (i+1)<n) by omega),show i+n+1 - i=n+1 by omega,show i+n+1 - (i+1)=n by omega,if_neg (by omega),if_pos rfl];omega
  ·rw [if_neg c1]
   by_cases c2:m=i+n+2
   ·subst c2
    rw [if_neg (by omega),if_pos (by omega),if_pos rfl,if_neg (show ¬(i≤i+n+2∧i+n+2 - i<n) by omega),if_neg (show ¬(i+1≤i+n+2∧i+n+2 - (i+1)<n) by omega),show i+n+2 - (i+1)=n+1 by omega,if_neg (by omega),if_neg (by omega),if_pos rfl];omega
   ·rw [if_neg c2]
    have e1:(i≤m∧m - i<n+2) ↔ (i≤m∧m - i<n):=by omega
    have e2:(i+1≤m∧m - (i+1)<n+2) ↔ (i+1≤m∧m - (i+1)<n):=by omega
    simp only [e1,e2,Int.add_zero]
theorem T_row {f g:Nat→Int} {n:Nat} (hg:∀i,n≤i→g i=0) (i m:Nat):T f g m (i+2)=T f g m i+U f g i n m:=by
 rw [T,T,U]
 have e:∀k,(if k≤m then f k * g (m - k) else 0)=if k≤m∧m - k<n then f k * g (m - k) else 0:=fun k=>by
  by_cases c:k≤m
  ·by_cases d:m - k<n
   ·rw [if_pos c,if_pos ⟨c,d⟩]
   ·rw [if_pos c,if_neg (by omega),hg _ (by omega),Int.mul_zero]
  ·rw [if_neg c,if_neg (by omega)]
 rw [e,e];omega
theorem T_end {f g:Nat→Int} {m n:Nat} (h:∀i,n≤i→i≤m→f i=0):∀k,T f g m (n+k)=T f g m n
 | 0=>rfl
 | k+1=>by
  rw [←Nat.add_assoc,T,T_end h k]
  split
  ·rw [h _ (by omega) (by omega),Int.zero_mul,Int.add_zero]
  ·rw [Int.add_zero]
theorem coef_eq (a b:List Int) (m:Nat):coef a b m=T (a.getD · 0) (b.getD · 0) m (m+1):=by
 unfold coef
 have:∀n,n≤m+1→(List.range n).foldl (fun s i=>s+a.getD i 0 * b.getD (m - i) 0) 0=T (a.getD · 0) (b.getD · 0) m n:=by
  intro n
  induction n with
  | zero=>intro _;rfl
  | succ n ih =>
   intro h
   rw [List.range_succ,List.foldl_append,ih (by omega),T,if_pos (by omega)];rfl
 exact this _ (Nat.le_refl _)
theorem coef_T (a b:List Int) (m n:Nat) (hn:a.length≤n):T (a.getD · 0) (b.getD · 0) m n=coef a b m:=by
 rw [coef_eq,←T_end (n:=n) (k:=m+1) (fun i h1 _=>by
  show a.getD i 0=0
  rw [List.getD_eq_getElem?_getD,List.getElem?_eq_none (by omega)];rfl),Nat.add_comm n (m+1),T_end (fun i h1 h2=>by omega)]
theorem lset {l:List Int} {n:Nat} (x:Int) (m:Nat) (h:n<l.length):(l.set n x).getD m 0=if m=n then x else l.getD m 0:=by
 rw [List.getD_eq_getElem?_getD,List.getElem?_set]
 by_cases c:n=m
 ·subst c;rw [if_pos rfl,if_pos h,if_pos rfl];rfl
 ·rw [if_neg c,if_neg (fun e=>c e.symm),List.getD_eq_getElem?_getD]
def grow (o:List Int) (p:Nat) (x y z:Int):List Int :=
 let o1:=o.set p (o.getD p 0+x)
 let o2:=o1.set (p+1) (o1.getD (p+1) 0+y)
 o2.set (p+2) (o2.getD (p+2) 0+z)
theorem grow_get {o:List Int} {p:Nat} (x y z:Int) (h:p+2<o.length) (m:Nat):(grow o p x y z).getD m 0=o.getD m 0+if m=p then x else if m=p+1 then y else if m=p+2 then z else 0:=by
 unfold grow
 simp only
 have hl:∀(o:List Int) (n:Nat) (x:Int),p+2<o.length→p+2<(o.set n x).length:=fun o n x h=>by rw [List.length_set];exact h
 have q1:=hl o p (o.getD p 0+x) h
 rw [lset (n:=p+2) _ m (hl _ _ _ q1),lset (n:=p+1) _ m (by omega),lset (n:=p+1) _ (p+2) (by omega),lset (n:=p) _ m (by omega),lset (n:=p) _ (p+1) (by omega),lset (n:=p) _ (p+2) (by omega)]
 by_cases c0:m=p
 ·subst c0
  rw [if_neg (by omega),if_neg (by omega),if_pos rfl,if_pos rfl]
 ·by_cases c1:m=p+1
  ·subst c1
   rw [if_neg (by omega),if_pos rfl,if_neg (by omega),if_neg (by omega),if_pos rfl]
  ·by_cases c2:m=p+2
   ·subst c2
    rw [if_pos rfl,if_neg (by omega),if_neg (by omega),if_neg c0,if_neg c1,if_pos rfl]
   ·rw [if_neg c2,if_neg c1,if_neg c0,if_neg c0,if_neg c1,if_neg c2,Int.add_zero]
theorem grow_length (o:List Int) (p:Nat) (x y z:Int):(grow o p x y z).length=o.length:=by
 unfold grow;simp
end Gz
open Gz
theorem wv_Fold.l3_ok (x0 x1:List Int) (x2:List Qd) (x3 x4:Int) (x5:List Qd) (x6 x7:Int) (x8:List Qd) (x9 x10:Int) (o:List Int) (x y:Qd) (hx:∀k,k<4→In (x.get k) 33554432) (hy:∀k,k<4→In (y.get k) 33554432) (ho:(inQ (prodq x y) 1125899906842624&&in4 (prodq x y))=true) :
  wv_Fold.l3 x0 x1 x2 x3 x4 x5 x6 x7 x8 x9 x10 0 x y ⟨(0,0),(0,0),(0,0),(0,0)⟩ o=wv_Fold.l4 x0 x1 x2 x3 x4 x5 x6 x7 x8 x9 x10 0 x (back (prodq x y)) o:=by
 have st:∀(k:Nat) (z:Qd),k<4→wv_Fold.l3 x0 x1 x2 x3 x4 x5 x6 x7 x8 x9 x10 k x y z o=wv_Fold.l3 x0 x1 x2 x3 x4 x5 x6 x7 x8 x9 x10 ((k+1:Nat):Int) x y (z.set k (mul (x.get k) (y.get k))) o:=fun k z hk=>by
  refine wv_Fold.l3_in _ _ _ _ _ _ _ _ _ _ _ _ _ _ _ _ ?_
  intro v1 h1 v2 h2 v3 h3
  have e3:v3=((k+1:Nat):Int):=by rw [h3,i64_in _ (by omega)];omega
  rw [Int.toNat_natCast] at h1 h2
  rw [decide_eq_true (by omega),cond_true,ck_of (idx_ok (by omega) (by omega)),ck_of (decide_eq_true (by omega)),ck_of (idx_ok (by omega) (by omega)),ck_of (decide_eq_true (by omega)),Int.toNat_natCast,inB_iff.2 (hx k hk),inB_iff.2 (hy k hk),Bool.and_self,ck_true,ck_of (idx_ok (by omega) (by omega)),ck_of (decide_eq_true (by omega)),e3,h2,h1]
 refine (st 0 _ (by omega)).trans ?_
 refine (st 1 _ (by omega)).trans ?_
 refine (st 2 _ (by omega)).trans ?_
 refine (st 3 _ (by omega)).trans ?_
 refine wv_Fold.l3_in _ _ _ _ _ _ _ _ _ _ _ _ _ _ _ _ ?_
 intro v1 h1 v2 h2 v3 h3
 rw [decide_eq_false (by decide),cond_false]
 exact ck_of ho
theorem wv_Fold.l4_ok (x0 x1:List Int) (x2:List Qd) (x3:Int) (i j:Nat) (x5:List Qd) (x6 x7:Int) (x8:List Qd) (x9:Int) (o:List Int) (x y:Qd) (c:Nat→Int) (hc:∀k,k<4→Is (y.get k) (c k) 0∧0≤c k∧c k≤8589672450) (hi:i≤128) (hj:j≤128) (ho:2 * i+2 * j+2<o.length) (hb:∀m,0≤o.getD m 0∧o.getD m 0≤1125899906842624) (hx3:x3=i) :
  wv_Fold.l4 x0 x1 x2 x3 j x5 x6 x7 x8 x9 j 0 x y o=wv_Fold.l2 x0 x1 x2 x3 x5 x6 x7 x8 x9 ((j+1:Nat):Int) x (grow o (2 * i+2 * j) (c 0) (c 1) (c 2)):=by
 have st:∀(k:Nat) (o:List Int),k<3→2 * i+2 * j+2<o.length→(0≤o.getD (2 * i+2 * j+k) 0∧o.getD (2 * i+2 * j+k) 0≤1125899906842624)→wv_Fold.l4 x0 x1 x2 x3 j x5 x6 x7 x8 x9 j k x y o=wv_Fold.l4 x0 x1 x2 x3 j x5 x6 x7 x8 x9 j ((k+1:Nat):Int) x y (o.set (2 * i+2 * j+k) (o.getD (2 * i+2 * j+k) 0+c k)):=fun k o hk ho hb=>by
  refine wv_Fold.l4_in _ _ _ _ _ _ _ _ _ _ _ _ _ _ _ ?_
  intro v1 h1 v2 h2 v3 h3 v4 h4 v5 h5 v6 h6 v7 h7 v8 h8 v9 h9
  obtain ⟨q1,q2,q3⟩:=hc k (by omega)
  rw [Int.toNat_natCast] at h1 h2
  have e1:v1=c k:=by rw [h1];exact (q1.1.toInt (by omega)).2
  have e3:v3=2 * i:=by rw [h3,hx3,i64_in _ (by omega)]
  have e4:v4=2 * j:=by rw [h4,i64_in _ (by omega)]
  have e5:v5=((2 * i+2 * j+k:Nat):Int):=by rw [h5,e3,e4,i64_in (2 * (i:Int)+2 * j) (by omega),i64_in _ (by omega)];omega
  rw [e5,Int.toNat_natCast] at h6 h7
  have e7:v7=o.set (2 * i+2 * j+k) (o.getD (2 * i+2 * j+k) 0+c k):=by rw [h7,h6,e1,i64_in _ (by omega)]
  have e8:v8=((k+1:Nat):Int):=by rw [h8,i64_in _ (by omega)];omega
  have b1:inB (y.get k) 4503599627370496=true:=inB_iff.2 ⟨_,_,q1,by omega,by omega⟩
  rw [decide_eq_true (by omega),cond_true,ck_of (idx_ok (by omega) (by omega)),ck_of (decide_eq_true (by omega)),Int.toNat_natCast,ck_of b1,e5,ck_of (idx_ok (by omega) (by omega)),Int.toNat_natCast,ck_of (decide_eq_true (by omega)),ck_of (idx_ok (by omega) (by omega)),ck_of (decide_eq_true (by omega)),e7,e8]
 refine (st 0 _ (by omega) ho (hb _)).trans ?_
 refine (st 1 _ (by omega) (by rw [List.length_set];exact ho) (by rw [lset _ _ (by omega),if_neg (by omega)];exact hb _)).trans ?_
 refine (st 2 _ (by omega) (by rw [List.length_set,List.length_set];exact ho) (by rw [lset _ _ (by rw [List.length_set];omega),if_neg (by omega),lset _ _ (by omega),if_neg (by omega)];exact hb _)).trans ?_
 refine wv_Fold.l4_in _ _ _ _ _ _ _ _ _ _ _ _ _ _ _ ?_
 intro v1 h1 v2 h2 v3 h3 v4 h4 v5 h5 v6 h6 v7 h7 v8 h8 v9 h9
 have e9:v9=((j+1:Nat):Int):=by rw [h9,i64_in _ (by omega)];omega
 rw [decide_eq_false (by decide),cond_false,e9]
 rfl
theorem wv_Fold.l2_ok (a b:List Int) (ha:Gz.digs a=true) (hb:Gz.digs b=true) (la:a.length≤256) (lb:b.length≤256) (i:Nat) (hi:i<(a.length+1) / 2):∀(m j:Nat) (o:List Int),j+m=(b.length+1) / 2→o.length=a.length+b.length+2→(∀q,o.getD q 0=T (a.getD · 0) (b.getD · 0) q (2 * i)+U (a.getD · 0) (b.getD · 0) (2 * i) (2 * j) q) →
  ∃o':List Int,wv_Fold.l2 a b (pairs b) i (pairs a) ((pairs a).length:Int) i (pairs b) ((pairs b).length:Int) j (two (a.getD (2 * i) 0) (a.getD (2 * i+1) 0)) o=wv_Fold.l1 a b (pairs b) (pairs a) ((pairs a).length:Int) ((i+1:Nat):Int) o'∧o'.length=a.length+b.length+2∧∀q,o'.getD q 0=T (a.getD · 0) (b.getD · 0) q (2 * (i+1)):=by
 intro m
 induction m with
 | zero =>
  intro j o hj ho hv
  refine ⟨o,?_,ho,?_⟩
  ·refine wv_Fold.l2_in _ _ _ _ _ _ _ _ _ _ _ _ ?_
   intro v1 h1 v2 h2
   have e2:v2=((i+1:Nat):Int):=by rw [h2,i64_in _ (by omega)];omega
   rw [pairs_length,decide_eq_false (by omega),cond_false,e2]
  ·intro q
   rw [hv q,show 2 * (i+1)=2 * i+2 by omega,T_row (n:=2 * j) (fun k hk=>by
    show b.getD k 0=0
    rw [List.getD_eq_getElem?_getD,List.getElem?_eq_none (by omega)];rfl)]
 | succ m ih =>
  intro j o hj ho hv
  have hf:=digs_dg ha
  have hg:=digs_dg hb
  have f0:=hf (2 * i)
  have f1:=hf (2 * i+1)
  have g0:=hg (2 * j)
  have g1:=hg (2 * j+1)
  obtain ⟨o',h1,h2,h3⟩:=ih (j+1) (grow o (2 * i+2 * j) (co (a.getD (2 * i) 0) (a.getD (2 * i+1) 0) (b.getD (2 * j) 0) (b.getD (2 * j+1) 0) 0) (co (a.getD (2 * i) 0) (a.getD (2 * i+1) 0) (b.getD (2 * j) 0) (b.getD (2 * j+1) 0) 1) (co (a.getD (2 * i) 0) (a.getD (2 * i+1) 0) (b.getD (2 * j) 0) (b.getD (2 * j+1) 0) 2)) (by omega) (by rw [grow_length];exact ho) (fun q=>by
   rw [grow_get _ _ _ (by omega),hv q,show 2 * (j+1)=2 * j+2 by omega,U_step,Int.add_assoc])
  refine ⟨o',Eq.trans ?_ h1,h2,h3⟩
  refine wv_Fold.l2_in _ _ _ _ _ _ _ _ _ _ _ _ ?_
  intro v1 h1 v2 h2
  rw [Int.toNat_natCast,pairs_get _ _ _ (by omega)] at h1
  have hp:=pairs_length b
  rw [decide_eq_true (by omega),cond_true,ck_of (idx_ok (by omega) (by omega)),h1]
  rw [wv_Fold.l3_ok _ _ _ _ _ _ _ _ _ _ _ _ _ _ (fun k hk=>two_in f0 f1 k hk) (fun k hk=>two_in g0 g1 k hk) (prod_ok f0 f1 g0 g1)]
  exact wv_Fold.l4_ok _ _ _ _ i j _ _ _ _ _ _ _ _ (co (a.getD (2 * i) 0) (a.getD (2 * i+1) 0) (b.getD (2 * j) 0) (b.getD (2 * j+1) 0)) (fun k hk=>⟨back_is f0 f1 g0 g1 k hk,co_le f0 f1 g0 g1 k⟩) (by omega) (by omega) (by omega) (fun q=>by
   rw [hv q]
   have t1:=T_le (f:=(a.getD · 0)) (g:=(b.getD · 0)) hf hg q (2 * i)
   have t2:=U_le (f:=(a.getD · 0)) (g:=(b.getD · 0)) hf hg (2 * i) (2 * j) q
   omega) rfl
theorem list_of (o:List Int) (f:Nat→Int) (n:Nat) (hn:n≤o.length) (h:∀q,o.getD q 0=f q):o.take n=(List.range n).map f:=by
 apply List.ext_getElem
 ·rw [List.length_take,List.length_map,List.length_range];omega
 ·intro i h1 h2
  rw [List.length_take] at h1
  have:=h i
  rw [List.getD_eq_getElem?_getD,List.getElem?_eq_getElem (by omega)] at this
  rw [List.getElem_take,List.getElem_map,List.getElem_range]
  exact this
theorem wv_Fold.l1_ok (a b:List Int) (ha:Gz.digs a=true) (hb:Gz.digs b=true) (la:a.length≤256) (lb:b.length≤256) (na:a≠[]) (nb:b≠[]):∀(m i:Nat) (o:List Int),i+m=(a.length+1) / 2→o.length=a.length+b.length+2→(∀q,o.getD q 0=T (a.getD · 0) (b.getD · 0) q (2 * i)) →
  wv_Fold.l1 a b (pairs b) (pairs a) ((pairs a).length:Int) i o=some [.sl .is (conv a b),.b true]:=by
 have pa:=List.length_pos_iff.2 na
 have pb:=List.length_pos_iff.2 nb
 intro m
 induction m with
 | zero =>
  intro i o hi ho hv
  refine wv_Fold.l1_in _ _ _ _ _ _ _ ?_
  intro v1 h1 v2 h2 v3 h3
  have e2:v2=a.length+b.length:=by rw [h2,i64_in _ (by omega)]
  have e3:v3=((a.length+b.length - 1:Nat):Int):=by rw [h3,e2,i64_in _ (by omega)];omega
  have e:o.take (a.length+b.length - 1)=conv a b:=by
   rw [list_of o (coef a b) _ (by omega) (fun q=>by rw [hv q,coef_T a b q _ (by omega)])]
   unfold conv
   rw [if_neg (by simp [na,nb])]
  rw [pairs_length,decide_eq_false (by omega),cond_false,e3,Int.toNat_natCast,ck_of (cut_ok (by omega) (by omega) (by omega)),ck_of (big_ap (by rw [List.length_take];omega) (by rw [List.length_take];omega)),e]
 | succ m ih =>
  intro i o hi ho hv
  refine wv_Fold.l1_in _ _ _ _ _ _ _ ?_
  intro v1 h1 v2 h2 v3 h3
  have hp:=pairs_length a
  rw [Int.toNat_natCast,pairs_get _ _ _ (by omega)] at h1
  obtain ⟨o',q1,q2,q3⟩:=wv_Fold.l2_ok a b ha hb la lb i (by omega) ((b.length+1) / 2) 0 o (by omega) ho (fun q=>by rw [hv q,Nat.mul_zero,U_0,Int.add_zero])
  rw [decide_eq_true (by omega),cond_true,ck_of (idx_ok (by omega) (by omega)),h1]
  exact Eq.trans q1 (ih (i+1) o' (by omega) q2 q3)
theorem wv_Fold.goal (a b:List Int) (hp:(decide (a.length≤256∧b.length≤256)&&(Gz.digs a&&Gz.digs b))=true):wv_Fold.F a b=some [.sl .is (Gz.conv a b),.b true]:=by
 simp only [Bool.and_eq_true,decide_eq_true_eq] at hp
 obtain ⟨⟨la,lb⟩,ha,hb⟩:=hp
 refine wv_Fold.F_in _ _ ?_
 intro v1 h1 v2 h2 v3 h3 v4 h4 v5 h5 v6 h6
 have e1:v1=false:=h1
 have ca:(decide (a.length≤256)&&Gz.digs a)=true:=by rw [ha,decide_eq_true la];rfl
 have cb:(decide (b.length≤256)&&Gz.digs b)=true:=by rw [hb,decide_eq_true lb];rfl
 simp only [Bool.not_or_self,Bool.or_not_self,Bool.not_not,Bool.not_true,Bool.true_and,Bool.false_or,Bool.or_self,ck_true,ca,cb,e1,cond_false]
 by_cases na:a=[]
 ·subst na
  have e2:v2=true:=h2
  rw [e2,cond_true];unfold conv;rw [if_pos (Or.inl rfl)];rfl
 ·by_cases nb:b=[]
  ·subst nb
   have e2:v2=true:=by
    rw [h2]
    cases decide ((a.length:Int)=0) <;> rfl
   rw [e2,cond_true];unfold conv;rw [if_pos (Or.inr rfl)];rfl
  ·have pa:=List.length_pos_iff.2 na
   have pb:=List.length_pos_iff.2 nb
   have e2:v2=false:=by rw [h2,decide_eq_false (by omega),cond_false];exact decide_eq_false (by omega)
   have e3:v3=a.length+b.length:=by rw [h3,i64_in _ (by omega)]
   have e4:v4=((a.length+b.length+2:Nat):Int):=by rw [h4,e3,i64_in _ (by omega)];omega
   rw [e4,Int.toNat_natCast] at h5
   rw [e2,cond_false,e4]
   refine Eq.trans (ck_of rfl) ?_
   rw [ck_of (mkOK_iff.2 ⟨by omega,by omega,by omega,by rw [maxLen_eq];omega⟩),h6]
   exact wv_Fold.l1_ok a b ha hb la lb na nb ((a.length+1) / 2) 0 v5 (by omega) (by rw [h5,List.length_replicate]) (fun q=>by
    rw [h5]
    show _=(0:Int)
    rw [List.getD_eq_getElem?_getD,List.getElem?_replicate]
    split <;> rfl)
end Go.Eng
namespace Go.Eng
open Go.IntWalk
namespace Gz
def evI:List Int→Int
 | []=>0
 | x :: r=>x+65536 * evI r
def evN (h:Nat→Int):Nat→Int
 | 0=>0
 | n+1=>evN h n+h n * 65536 ^ n
theorem evI_snoc:∀(l:List Int) (x:Int),evI (l++[x])=evI l+x * 65536 ^ l.length
 | [],x=>by simp [evI]
 | y :: r,x=>by
  rw [List.cons_append,evI,evI_snoc r x,evI,List.length_cons,Int.pow_succ,Int.mul_add,←Int.mul_assoc x,Int.mul_comm 65536 (x * _),Int.add_assoc]
theorem evI_range (f:Nat→Int):∀n,evI ((List.range n).map f)=evN f n
 | 0=>rfl
 | n+1=>by rw [List.range_succ,List.map_append,List.map_singleton,evI_snoc,evI_range f n,List.length_map,List.length_range];rfl
theorem evI_eq (l:List Int):evI l=evN (l.getD · 0) l.length:=by
 rw [←evI_range,←list_of l _ l.length (Nat.le_refl _) (fun _=>rfl),List.take_length]
theorem evN_congr {f g:Nat→Int}:∀n,(∀i,i<n→f i=g i)→evN f n=evN g n
 | 0,_=>rfl
 | n+1,h=>by rw [evN,evN,evN_congr n (fun i hi=>h i (by omega)),h n (by omega)]
theorem evN_add (f g:Nat→Int):∀n,evN (fun i=>f i+g i) n=evN f n+evN g n
 | 0=>rfl
 | n+1=>by
  simp only [evN]
  rw [evN_add f g n,Int.add_mul];omega
theorem evN_zero:∀n,evN (fun _=>0) n=0
 | 0=>rfl
 | n+1=>by
  simp only [evN]
  rw [evN_zero n,Int.zero_mul];rfl
theorem evN_end {g:Nat→Int} {n:Nat} (h:∀i,n≤i→g i=0):∀k,evN g (n+k)=evN g n
 | 0=>rfl
 | k+1=>by rw [←Nat.add_assoc,evN,evN_end h k,h _ (by omega),Int.zero_mul,Int.add_zero]
theorem evN_shift (c:Int) (g:Nat→Int) (n:Nat):∀k,evN (fun m=>if n≤m then c * g (m - n) else 0) (n+k)=c * 65536 ^ n * evN g k
 | 0=>by
  rw [Nat.add_zero,evN_congr (g:=fun _=>0) n (fun i hi=>if_neg (by omega)),evN_zero,evN,Int.mul_zero]
 | k+1=>by
  rw [←Nat.add_assoc,evN,evN_shift c g n k,evN]
  rw [if_pos (by omega),show n+k - n=k by omega,Int.mul_add,Int.pow_add,Int.mul_assoc c (g k),Int.mul_assoc c (65536 ^ n) (g k * 65536 ^ k),←Int.mul_assoc (g k),Int.mul_comm (g k) (65536 ^ n),Int.mul_assoc (65536 ^ n) (g k)]
theorem evN_T {f g:Nat→Int} {L:Nat} (hg:∀i,L≤i→g i=0) (N:Nat):∀n,n+L≤N+1→n≤N→evN (fun m=>T f g m n) N=evN f n * evN g L
 | 0,_,_=>by
  rw [evN,Int.zero_mul];exact evN_zero N
 | n+1,h,h2=>by
  have e:=evN_shift (f n) g n (N - n)
  rw [show n+(N - n)=N by omega] at e
  have e2:evN g (N - n)=evN g L:=by
   rw [show N - n=L+(N - n - L) by omega];exact evN_end hg _
  have:=evN_add (fun m=>T f g m n) (fun m=>if n≤m then f n * g (m - n) else 0) N
  rw [e,e2,evN_T hg N n (by omega) (by omega),←Int.add_mul] at this
  exact this
theorem evI_conv (a b:List Int):evI (conv a b)=evI a * evI b:=by
 by_cases na:a=[]
 ·subst na;unfold conv;rw [if_pos (Or.inl rfl)];simp [evI]
 ·by_cases nb:b=[]
  ·subst nb;unfold conv;rw [if_pos (Or.inr rfl)];simp [evI]
  ·have pa:=List.length_pos_iff.2 na
   have pb:=List.length_pos_iff.2 nb
   unfold conv
   rw [if_neg (by simp [na,nb]),evI_range,evI_eq a,evI_eq b]
   rw [evN_congr (g:=fun m=>T (a.getD · 0) (b.getD · 0) m a.length) _ (fun i _=>(coef_T a b i _ (Nat.le_refl _)).symm)]
   exact evN_T (fun i hi=>by
    show b.getD i 0=0
    rw [List.getD_eq_getElem?_getD,List.getElem?_eq_none (by omega)];rfl) _ _ (by omega) (by omega)
theorem evI_val:∀a:List UInt16,evI (a.map fun d=>(d.toNat:Int))=(Nt.val a:Int)
 | []=>rfl
 | d :: r=>by rw [List.map_cons,evI,evI_val r,Nt.val];omega
theorem conv_length (a b:List Int):(conv a b).length=if a=[]∨b=[] then 0 else a.length+b.length - 1:=by
 unfold conv
 split
 ·rfl
 ·rw [List.length_map,List.length_range]
theorem conv_get (a b:List Int) (ha:digs a=true) (hb:digs b=true) (la:a.length≤256) (i:Nat):0≤(conv a b).getD i 0∧(conv a b).getD i 0≤1099478073600:=by
 by_cases h:i<(conv a b).length
 ·have hl:=conv_length a b
  by_cases c:a=[]∨b=[]
  ·rw [hl,if_pos c] at h;omega
  ·have e:(conv a b).getD i 0=coef a b i:=by
    rw [List.getD_eq_getElem?_getD,List.getElem?_eq_getElem h]
    unfold conv
    simp only [if_neg c,List.getElem_map,List.getElem_range,Option.getD_some]
   rw [e,←coef_T a b i _ (Nat.le_refl _)]
   have:=T_le (f:=(a.getD · 0)) (g:=(b.getD · 0)) (digs_dg ha) (digs_dg hb) i a.length
   omega
 ·rw [List.getD_eq_getElem?_getD,List.getElem?_eq_none (by omega)];exact ⟨by decide,by decide⟩
end Gz
open Gz
theorem val_more (acc:List UInt16) (c:Nat):Nt.val (acc++[UInt16.ofNat c])+65536 ^ (acc.length+1) * (c / 65536)=Nt.val acc+65536 ^ acc.length * c:=by
 rw [Nt.val_append]
 simp only [Nt.val,Nat.mul_zero,Nat.add_zero,Nt.u16_ofNat]
 rw [Nat.pow_succ,Nat.mul_assoc,Nat.add_assoc,←Nat.mul_add,Nat.mod_add_div]
theorem bg_Mul.l2_ok (R:Nat):∀(k:Nat) (acc:List UInt16) (c:Nat),c<65536 ^ k→acc.length+k≤10000→Nt.val acc+65536 ^ acc.length * c=R→bg_Mul.l2 acc c=some [.sl .ws (Nt.of R)]:=by
 intro k
 induction k with
 | zero =>
  intro acc c hc hl hv
  obtain rfl:c=0:=by simpa using hc
  refine bg_Mul.l2_in _ _ ?_
  intro v1 h1 v2 h2
  rw [decide_eq_false (by omega),cond_false,ck_of (decide_eq_true (by omega)),←hv,Nat.mul_zero,Nat.add_zero]
 | succ k ih =>
  intro acc c hc hl hv
  refine bg_Mul.l2_in _ _ ?_
  intro v1 h1 v2 h2
  by_cases c0:c=0
  ·subst c0
   rw [decide_eq_false (by omega),cond_false,ck_of (decide_eq_true (by omega)),←hv,Nat.mul_zero,Nat.add_zero]
  ·rw [u16_wrap] at h1
   rw [fdiv16] at h2
   rw [decide_eq_true (by omega),cond_true,h1,h2,ck_of (big_ap (by rw [List.length_singleton];omega) (by rw [List.length_singleton];omega))]
   exact ih _ _ (by rw [Nat.pow_succ] at hc;exact Nat.div_lt_of_lt_mul (by rw [Nat.mul_comm];exact hc)) (by rw [List.length_append,List.length_singleton];omega) (by
    rw [List.length_append,List.length_singleton,val_more];exact hv)
theorem bg_Mul.l1_ok (l:List Int) (hl:l.length≤600) (hb:∀i,0≤l.getD i 0∧l.getD i 0≤1099478073600) (R:Nat):∀(m i:Nat) (acc:List UInt16) (c:Nat),i+m=l.length→acc.length=i→c≤1099511627776→((Nt.val acc:Nat):Int)+65536 ^ i * (c+evI (l.drop i))=R→bg_Mul.l1 acc c l l.length i=some [.sl .ws (Nt.of R)]:=by
 intro m
 induction m with
 | zero =>
  intro i acc c hi ha hc hv
  refine bg_Mul.l1_in _ _ _ _ _ ?_
  intro v1 h1 v2 h2 v3 h3 v4 h4
  rw [List.drop_of_length_le (by omega),evI,Int.add_zero] at hv
  rw [decide_eq_false (by omega),cond_false]
  refine bg_Mul.l2_ok R 3 acc c (by omega) (by omega) ?_
  rw [ha]
  have e:((65536 ^ i * c:Nat):Int)=65536 ^ i * (c:Int):=by rw [Int.natCast_mul,Int.natCast_pow];rfl
  omega
 | succ m ih =>
  intro i acc c hi ha hc hv
  refine bg_Mul.l1_in _ _ _ _ _ ?_
  intro v1 h1 v2 h2 v3 h3 v4 h4
  rw [Int.toNat_natCast] at h1
  have hx:=hb i
  rw [←h1] at hx
  obtain ⟨x,rfl⟩:=Int.eq_ofNat_of_zero_le hx.1
  have e0:IntKind.i64.wrap ((c:Int)+(x:Int))=((c+x:Nat):Int):=by rw [i64_in _ (by omega)];omega
  rw [e0] at h2 h3
  rw [u16_wrap] at h2
  rw [fdiv16] at h3
  have e4:v4=((i+1:Nat):Int):=by rw [h4,i64_in _ (by omega)];omega
  rw [decide_eq_true (by omega),cond_true,ck_of (idx_ok (by omega) (by omega)),ck_of (big_ap (by rw [List.length_singleton];omega) (by rw [List.length_singleton];omega)),h2,h3,e4]
  refine ih (i+1) _ _ (by omega) (by rw [List.length_append,List.length_singleton];omega) (by omega) ?_
  rw [drop_cons (show i<l.length by omega) 0,evI,←h1] at hv
  have hm:=val_more acc (c+x)
  rw [ha] at hm
  have hm2:((Nt.val (acc++[UInt16.ofNat (c+x)]):Nat):Int)+65536 ^ (i+1) * (((c+x) / 65536:Nat):Int)=(Nt.val acc:Int)+65536 ^ i * ((c+x:Nat):Int):=by
   have:=congrArg (Nat.cast:Nat→Int) hm
   rw [Int.natCast_add,Int.natCast_add,Int.natCast_mul,Int.natCast_mul,Int.natCast_pow,Int.natCast_pow] at this
   exact this
  generalize evI (l.drop (i+1))=E at *
  rw [Int.mul_add,←Int.add_assoc,hm2,←hv,Int.pow_succ,Int.mul_assoc,Int.add_assoc,←Int.mul_add]
  congr 2
  omega
theorem bg_Mul.goal (a b:List UInt16) (hp:(Nt.is a&&Nt.is b)=true):bg_Mul.F a b=some [.sl .ws (Nt.of (Nt.val a * Nt.val b))]:=by
 simp only [Bool.and_eq_true] at hp
 obtain ⟨ha,hb⟩:=hp
 have la:=Nt.is_len ha
 have lb:=Nt.is_len hb
 have hd:∀a:List UInt16,Gz.digs (a.map fun d=>(d.toNat:Int))=true:=fun a=>by
  unfold Gz.digs
  rw [List.all_eq_true]
  intro x hx
  obtain ⟨d,_,rfl⟩:=List.mem_map.1 hx
  have:=d.toNat_lt
  exact decide_eq_true (by omega)
 refine bg_Mul.F_in _ _ ?_
 intro v1 h1 v2 h2 v3 h3 v4 h4
 have e1:v1=false:=by rw [h1,ha,hb];rfl
 have l2:v2.length=a.length:=by rw [h2,List.length_map]
 have l3:v3.length=b.length:=by rw [h3,List.length_map]
 have d2:Gz.digs v2=true:=by rw [h2];exact hd a
 have d3:Gz.digs v3=true:=by rw [h3];exact hd b
 have c1:(decide (v2.length≤256∧v3.length≤256)&&(Gz.digs v2&&Gz.digs v3))=true:=by rw [d2,d3,decide_eq_true ⟨by omega,by omega⟩];rfl
 rw [e1,ha,h4,ck_of c1,decide_eq_true (show a.length≤1099511627776 by omega),decide_eq_true (show b.length≤1099511627776 by omega),decide_eq_true (show a.length≤256 by omega),decide_eq_true (show b.length≤256 by omega)]
 refine Eq.trans (b:=bg_Mul.l1 [] 0 (Gz.conv v2 v3) (Gz.conv v2 v3).length 0) rfl ?_
 have hl:(Gz.conv v2 v3).length≤600:=by
  rw [Gz.conv_length]
  split <;> omega
 refine bg_Mul.l1_ok _ hl (Gz.conv_get _ _ d2 d3 (by omega)) _ (Gz.conv v2 v3).length 0 [] 0 (by omega) rfl (by omega) ?_
 rw [List.drop_zero,Gz.evI_conv,h2,h3,Gz.evI_val,Gz.evI_val,Int.natCast_mul]
 simp [Nt.val]
end Go.Eng
namespace Go.Eng
open Go.IntWalk
namespace Nr
theorem scB_pos {a:Nat} (h:0<a) (e:Int):0<scB a e:=Nat.mul_pos h (Nat.two_pow_pos _)
def pt (Q F:Nat):Nat:=if Q<4503599627370496 then Q else (F+1) * 4503599627370496+(Q - 4503599627370496)
theorem pt_ok {Q F:Nat} (h:4503599627370496≤Q∨F=0) (h2:Q<9007199254740992):man (pt Q F)=Q∧sh (pt Q F)=F:=by
 unfold pt
 split
 ·rename_i c
  obtain rfl:F=0:=by omega
  unfold man sh
  rw [if_pos c,show Q / 4503599627370496=0 by omega];exact ⟨rfl,rfl⟩
 ·rename_i c
  exact V_norm (by omega) h2
theorem pt_odd (Q F:Nat):pt Q F % 2=Q % 2:=by
 unfold pt
 split <;> omega
theorem above_pt {a b Q:Nat} {E:Int} {F:Nat} (hb:0<b) (hE:E+1074=F) (hQ:Q=scA a E / scB b E) (h:4503599627370496≤Q∨F=0) (h2:Q<9007199254740992) :
  (V (pt Q F) * b≤a * 2 ^ 1074∧a * 2 ^ 1074<V (pt Q F+1) * b)∧(Above a b (pt Q F) ↔ (scB b E<2 * (scA a E % scB b E)∨(scB b E=2 * (scA a E % scB b E)∧Q % 2=1))):=by
 obtain ⟨m1,m2⟩:=pt_ok h h2
 have hB:=scB_pos hb E
 have hdm:=Nat.div_add_mod (scA a E) (scB b E)
 have hr:=Nat.mod_lt (scA a E) hB
 rw [←hQ] at hdm
 generalize hR:scA a E % scB b E=R at *
 have hV1:V (pt Q F)=Q * 2 ^ F:=by unfold V;rw [m1,m2]
 have hV2:V (pt Q F+1)=(Q+1) * 2 ^ F:=by rw [V_succ,m1,m2]
 -- both sides times 2^(-E)
 have k1:∀n:Nat,n * 2 ^ F * b * 2 ^ (-E).toNat=n * scB b E * 2 ^ 1074:=fun n=>by
  unfold scB
  exact mul_four (pw_split (a:=F) (b:=(-E).toNat) (c:=E.toNat) (d:=1074) (by omega))
 have k2:a * 2 ^ 1074 * 2 ^ (-E).toNat=scA a E * 2 ^ 1074:=by unfold scA;rw [Nat.mul_right_comm]
 have hp:=Nat.two_pow_pos (-E).toNat
 have hp2:=Nat.two_pow_pos 1074
 refine ⟨⟨?_,?_⟩,?_⟩
 ·refine Nat.le_of_mul_le_mul_right ?_ hp
  rw [hV1,k1,k2]
  refine Nat.mul_le_mul_right _ ?_
  rw [Nat.mul_comm];omega
 ·refine Nat.lt_of_mul_lt_mul_right (a:=2 ^ (-E).toNat) ?_
  rw [hV2,k1,k2]
  refine Nat.mul_lt_mul_of_pos_right ?_ hp2
  rw [Nat.add_mul,Nat.mul_comm Q];omega
 ·unfold Above
  rw [mid_eq,hV1,hV2,pt_odd,←Nat.add_mul]
  have e:a * two1075 * 2 ^ (-E).toNat=2 * scA a E * 2 ^ 1074:=by
   rw [mul_two (a:=a) two1075_eq,Nat.mul_assoc 2,k2,←Nat.mul_assoc]
  have k3:=k1 (Q+(Q+1))
  have g1:((Q+(Q+1)) * 2 ^ F * b<a * two1075) ↔ (Q+(Q+1)) * scB b E<2 * scA a E:=by
   constructor
   ·intro h
    have:=Nat.mul_lt_mul_of_pos_right h hp
    rw [k3,e] at this
    exact Nat.lt_of_mul_lt_mul_right this
   ·intro h
    refine Nat.lt_of_mul_lt_mul_right (a:=2 ^ (-E).toNat) ?_
    rw [k3,e]
    exact Nat.mul_lt_mul_of_pos_right h hp2
  have g2:((Q+(Q+1)) * 2 ^ F * b=a * two1075) ↔ (Q+(Q+1)) * scB b E=2 * scA a E:=by
   constructor
   ·intro h
    have this:(Q+(Q+1)) * 2 ^ F * b * 2 ^ (-E).toNat=a * two1075 * 2 ^ (-E).toNat:=by rw [h]
    rw [k3,e] at this
    exact Nat.eq_of_mul_eq_mul_right hp2 this
   ·intro h
    refine Nat.eq_of_mul_eq_mul_right hp ?_
    rw [k3,e,h]
  rw [g1,g2,Nat.add_mul,Nat.add_mul,Nat.one_mul]
  have hc:Q * scB b E=scB b E * Q:=Nat.mul_comm _ _
  omega
theorem rnd_cases (A B:Nat):(rnd A B=A / B+1∧(B<2 * (A % B)∨(B=2 * (A % B)∧A / B % 2=1)))∨(rnd A B=A / B∧¬(B<2 * (A % B)∨(B=2 * (A % B)∧A / B % 2=1))):=by
 unfold rnd
 split
 ·rename_i h;exact .inl ⟨rfl,h⟩
 ·rename_i h;exact .inr ⟨rfl,h⟩
theorem near_join {a b:Nat} {E:Int} (hb:0<b) (hE : -1074≤E) (h:4503599627370496≤scA a E / scB b E∨E=-1074) (h2:scA a E / scB b E<9007199254740992):near a b=join false (rnd (scA a E) (scB b E)) E:=by
 classical
 obtain ⟨F,hF⟩:=Int.eq_ofNat_of_zero_le (show 0≤E+1074 by omega)
 generalize hQ:scA a E / scB b E=Q at *
 have hQF:4503599627370496≤Q∨F=0:=by omega
 obtain ⟨⟨a1,a2⟩,a3⟩:=above_pt hb hF hQ.symm hQF h2
 obtain ⟨m1,m2⟩:=pt_ok hQF h2
 have hV1:V (pt Q F)=Q * 2 ^ F:=by unfold V;rw [m1,m2]
 have hV2:V (pt Q F+1)=(Q+1) * 2 ^ F:=by rw [V_succ,m1,m2]
 have ex:(-(E+1074)).toNat=0:=by omega
 have ey:(E+1074).toNat=F:=by omega
 have hj:∀p M,V p=M * 2 ^ F→join false M E=if p≤top then some p else none:=fun p M hv=>by
  split
  ·rename_i ht
   exact join_some false ht (by rw [ex,ey,Nat.pow_zero,Nat.mul_one,hv])
  ·rename_i ht
   refine join_none false fun q hq e=>ht ?_
   rw [ex,ey,Nat.pow_zero,Nat.mul_one,←hv] at e
   exact V_inj e ▸ hq
 have hr:=rnd_cases (scA a E) (scB b E)
 rw [hQ] at hr
 by_cases hp:pt Q F≤top
 ·rw [near_of hb a1 a2 hp]
  rcases hr with ⟨r1,r2⟩ | ⟨r1,r2⟩
  ·rw [if_pos (a3.2 r2),r1,hj _ _ hV2]
  ·rw [if_neg (fun h=>r2 (a3.1 h)),r1,hj _ _ hV1,if_pos hp]
 ·rw [near_big hb a1 (by omega)]
  rcases hr with ⟨r1,r2⟩ | ⟨r1,r2⟩
  ·rw [r1,hj _ _ hV2,if_neg (by omega)]
  ·rw [r1,hj _ _ hV1,if_neg hp]
end Nr
theorem cmp_cases (a b:Nat):(Nt.cmp a b=-1∧a<b)∨(Nt.cmp a b=0∧a=b)∨(Nt.cmp a b=1∧b<a):=by
 unfold Nt.cmp
 by_cases c:a<b
 ·rw [if_pos c];exact .inl ⟨rfl,c⟩
 ·rw [if_neg c]
  by_cases d:a=b
  ·rw [if_pos d];exact .inr (.inl ⟨rfl,d⟩)
  ·rw [if_neg d];exact .inr (.inr ⟨rfl,by omega⟩)
theorem of_len4 {n:Nat} (h:n<2 ^ 64):(Nt.of n).length≤4:=(Nt.of_length n 4).2 (by rw [show (65536:Nat) ^ 4=2 ^ 64 by decide];exact h)
theorem nr_rounded.j1_ok (A B:Nat) (hB:0<B) (hA:A<2 ^ 4090) (hB2:B<2 ^ 4090) (hAB:A<2 ^ 60 * B):nr_rounded.j1 (Nt.of A) (Nt.of B)=some [.u64 (UInt64.ofNat (Nr.rnd A B)),.b (Nr.rndUp A B)]:=by
 have hpw:(2:Nat) ^ (6+4090)=64 * 2 ^ 4090:=Nr.pw_six 4090
 refine nr_rounded.j1_in _ _ ?_
 intro v1 h1 v2 h2 v3 h3 v4 h4 v5 h5 v6 h6 v7 h7 v8 h8 v9 h9
 rw [Nt.val_of,Nt.val_of] at h1 h2
 have hr:=Nat.mod_lt A hB
 have hq:A / B<2 ^ 60:=(Nat.div_lt_iff_lt_mul hB).2 hAB
 have e1:Nt.val v1=A / B:=by rw [h1,Nt.val_of]
 have e2:Nt.val v2=A % B:=by rw [h2,Nt.val_of]
 have e3:Nt.val v3=2 * (A % B):=by rw [h3,Nt.val_of,e2];exact Nat.mul_comm ..
 rw [e3,Nt.val_of] at h4
 have i1:Nt.is (Nt.of A)=true:=Nt.is_of (by omega)
 have i2:Nt.is (Nt.of B)=true:=Nt.is_of (by omega)
 have i3:Nt.is v1=true:=by rw [h1];exact Nt.is_of (by omega)
 have i4:Nt.is v2=true:=by rw [h2];exact Nt.is_of (by omega)
 have i5:Nt.is v3=true:=by rw [h3];exact Nt.is_of (by rw [e2];show A % B * 2 ^ 1<_;omega)
 have nb:Nt.of B≠[]:=by rw [Nt.of_pos hB];simp
 have l4:v1.length≤4:=by rw [h1];exact of_len4 (Nat.lt_of_lt_of_le hq (Nat.pow_le_pow_right (by omega) (by omega)))
 rw [i1,i2,i3,i4,i5,decide_eq_true nb]
 refine (ck_of (by rfl)).trans ?_
 rw [ck_of (decide_eq_true ⟨rfl,l4⟩)]
 refine (ck_of (by rfl)).trans ?_
 refine (ck_of (by rfl)).trans ?_
 rw [e1] at h6 h9 ⊢
 have hb60:(2:Nat) ^ 60=1152921504606846976:=by decide
 have e6:decide (v6=1)=decide (A / B % 2=1):=by
  have e6:v6.toNat=A / B % 2:=by
   rw [h6,UInt64.toNat_mod,u64_of]
   show A / B % 18446744073709551616 % 2=_
   omega
  by_cases c:A / B % 2=1
  ·rw [decide_eq_true c,decide_eq_true (u64_eq (by rw [e6,c];rfl))]
  ·rw [decide_eq_false c,decide_eq_false (fun h=>c (by rw [←e6,h];rfl))]
 have e9:v9=UInt64.ofNat (A / B+1):=u64_eq (by
  rw [h9,UInt64.toNat_add,u64_of,u64_of]
  show (A / B % 18446744073709551616+1) % 18446744073709551616=_
  omega)
 have e9':decide (v9=9007199254740992)=decide (A / B+1=9007199254740992):=by
  by_cases c:A / B+1=9007199254740992
  ·rw [decide_eq_true c,e9,c];rfl
  ·rw [decide_eq_false c,decide_eq_false (fun h=>c (by
    have:=congrArg UInt64.toNat h
    rw [e9,u64_of] at this
    have e0:(9007199254740992:UInt64).toNat=9007199254740992:=rfl
    omega))]
 rw [e6] at h7
 rcases cmp_cases (2 * (A % B)) B with ⟨q1,q2⟩ | ⟨q1,q2⟩ | ⟨q1,q2⟩
 ·rw [q1] at h4
  subst h4
  have e7:v7=false:=h7
  have e8:v8=false:=by rw [h8,e7];rfl
  have e5:v5=false:=h5
  have hn:Nr.rnd A B=A / B:=by unfold Nr.rnd;rw [if_neg (by omega)]
  have hu:Nr.rndUp A B=false:=by unfold Nr.rndUp;rw [hn];exact decide_eq_false (by omega)
  rw [e8,e5,hn,hu];rfl
 ·rw [q1] at h4
  subst h4
  have e7:v7=decide (A / B % 2=1):=h7
  have e8:v8=decide (A / B % 2=1):=by rw [h8,e7];rfl
  have e5:v5=true:=h5
  rw [e8,e5]
  refine Eq.trans (b:=cond (decide (A / B % 2=1)) (some [.u64 v9,.b (decide (v9=9007199254740992))]) (some [.u64 (UInt64.ofNat (A / B)),.b false])) rfl ?_
  by_cases c:A / B % 2=1
  ·have hn:Nr.rnd A B=A / B+1:=by unfold Nr.rnd;rw [if_pos (.inr ⟨q2.symm,c⟩)]
   have hu:Nr.rndUp A B=decide (A / B+1=9007199254740992):=by
    unfold Nr.rndUp;rw [hn]
    by_cases d:A / B+1=9007199254740992
    ·rw [decide_eq_true d,decide_eq_true ⟨rfl,d⟩]
    ·rw [decide_eq_false d,decide_eq_false (fun h=>d h.2)]
   rw [decide_eq_true c,cond_true,e9',e9,hn,hu]
  ·have hn:Nr.rnd A B=A / B:=by unfold Nr.rnd;rw [if_neg (by omega)]
   have hu:Nr.rndUp A B=false:=by unfold Nr.rndUp;rw [hn];exact decide_eq_false (by omega)
   rw [decide_eq_false c,cond_false,hn,hu]
 ·rw [q1] at h4
  subst h4
  have e7:v7=false:=h7
  have e8:v8=true:=by rw [h8];rfl
  have e5:v5=false:=h5
  have hn:Nr.rnd A B=A / B+1:=by unfold Nr.rnd;rw [if_pos (.inl q2)]
  have hu:Nr.rndUp A B=decide (A / B+1=9007199254740992):=by
   unfold Nr.rndUp;rw [hn]
   by_cases d:A / B+1=9007199254740992
   ·rw [decide_eq_true d,decide_eq_true ⟨rfl,d⟩]
   ·rw [decide_eq_false d,decide_eq_false (fun h=>d h.2)]
  rw [e8,e5]
  refine Eq.trans (b:=some [.u64 v9,.b (decide (v9=9007199254740992))]) rfl ?_
  rw [e9',e9,hn,hu]
theorem nr_rounded.goal (a b:List UInt16) (e:Int) (hp:(Nt.is a&&Nt.is b&&decide (-4096≤e∧e≤4096∧0<Nt.val b∧Nr.scA (Nt.val a) e<2 ^ 4090∧Nr.scB (Nt.val b) e<2 ^ 4090∧Nr.scA (Nt.val a) e<2 ^ 60 * Nr.scB (Nt.val b) e))=true) :
  nr_rounded.F a b e=some [.u64 (UInt64.ofNat (Nr.rnd (Nr.scA (Nt.val a) e) (Nr.scB (Nt.val b) e))),.b (Nr.rndUp (Nr.scA (Nt.val a) e) (Nr.scB (Nt.val b) e))]:=by
 simp only [Bool.and_eq_true,decide_eq_true_eq] at hp
 obtain ⟨⟨ha,hb⟩,p1,p2,p3,p4,p5,p6⟩:=hp
 have key:=nr_rounded.j1_ok (Nr.scA (Nt.val a) e) (Nr.scB (Nt.val b) e) (Nr.scB_pos p3 e) p4 p5 p6
 refine nr_rounded.F_in _ _ _ ?_
 intro v1 h1 v2 h2
 by_cases c:e<0
 ·have ew:IntKind.i64.wrap (0 - e)=-e:=by rw [i64_in _ (by omega)];omega
  rw [ew] at h1
  have eB:Nr.scB (Nt.val b) e=Nt.val b:=by unfold Nr.scB;rw [show e.toNat=0 by omega,Nat.pow_zero,Nat.mul_one]
  rw [decide_eq_true c,cond_true,ew,ha,decide_eq_true (show 0≤-e∧-e≤4096 by omega)]
  refine (ck_of (by rfl)).trans ?_
  rw [h1,←Nt.of_val (Nt.is_norm hb)]
  rw [eB] at key
  rw [Nt.val_of,eB]
  exact key
 ·have eA:Nr.scA (Nt.val a) e=Nt.val a:=by unfold Nr.scA;rw [show (-e).toNat=0 by omega,Nat.pow_zero,Nat.mul_one]
  rw [decide_eq_false c,cond_false,hb,decide_eq_true (show 0≤e∧e≤4096 by omega)]
  refine (ck_of (by rfl)).trans ?_
  rw [h2,←Nt.of_val (Nt.is_norm ha)]
  rw [eA] at key
  rw [Nt.val_of,eA]
  exact key
end Go.Eng
namespace Go.Eng
open Go.IntWalk
namespace Nr
theorem sc_lt {a b i j t:Nat} {E:Int} (ha:a<2 ^ i) (hb:2 ^ (j - 1)≤b) (hj:0<j) (h:(i:Int) - j+1 - E≤t):scA a E<2 ^ t * scB b E:=by
 unfold scA scB
 have h1:a * 2 ^ (-E).toNat<2 ^ (i+(-E).toNat):=by rw [Nat.pow_add];exact Nat.mul_lt_mul_of_pos_right ha (Nat.two_pow_pos _)
 have h2:2 ^ (t+(j - 1)+E.toNat)≤2 ^ t * (b * 2 ^ E.toNat):=by
  rw [Nat.pow_add,Nat.pow_add,Nat.mul_assoc];exact Nat.mul_le_mul_left _ (Nat.mul_le_mul_right _ hb)
 have h3:2 ^ (i+(-E).toNat)≤2 ^ (t+(j - 1)+E.toNat):=Nat.pow_le_pow_right (by omega) (by omega)
 exact Nat.lt_of_lt_of_le h1 (Nat.le_trans h3 h2)
theorem sc_ge {a b i j t:Nat} {E:Int} (ha:2 ^ (i - 1)≤a) (hi:0<i) (hb:b<2 ^ j) (h:(t:Int)≤(i:Int) - 1 - j - E):2 ^ t * scB b E≤scA a E:=by
 unfold scA scB
 have h1:2 ^ (i - 1+(-E).toNat)≤a * 2 ^ (-E).toNat:=by rw [Nat.pow_add];exact Nat.mul_le_mul_right _ ha
 have h2:2 ^ t * (b * 2 ^ E.toNat)≤2 ^ (t+j+E.toNat):=by
  rw [Nat.pow_add,Nat.pow_add,Nat.mul_assoc];exact Nat.mul_le_mul_left _ (Nat.mul_le_mul_right _ (Nat.le_of_lt hb))
 have h3:2 ^ (t+j+E.toNat)≤2 ^ (i - 1+(-E).toNat):=Nat.pow_le_pow_right (by omega) (by omega)
 exact Nat.le_trans h2 (Nat.le_trans h3 h1)
theorem sc_next (a b:Nat) (E:Int):(scA a (E+1)=scA a E∧scB b (E+1)=2 * scB b E)∨(scA a E=2 * scA a (E+1)∧scB b (E+1)=scB b E):=by
 unfold scA scB
 by_cases c:0≤E
 ·left
  rw [show (-(E+1)).toNat=0 by omega,show (-E).toNat=0 by omega,show (E+1).toNat=E.toNat+1 by omega,Nat.pow_succ,←Nat.mul_assoc,Nat.mul_comm _ 2]
  exact ⟨rfl,rfl⟩
 ·right
  rw [show (-E).toNat=(-(E+1)).toNat+1 by omega,show (E+1).toNat=0 by omega,show E.toNat=0 by omega,Nat.pow_succ,←Nat.mul_assoc,Nat.mul_comm _ 2]
  exact ⟨rfl,rfl⟩
end Nr
theorem pow_lt_of {a i k:Nat} (h:a<2 ^ i) (hk:i≤k):a<2 ^ k:=Nat.lt_of_lt_of_le h (Nat.pow_le_pow_right (by omega) hk)
theorem pow_lt_sum {a i j k:Nat} (h:a<2 ^ i) (hk:i+j≤k):a * 2 ^ j<2 ^ k:=by
 refine pow_lt_of (i:=i+j) ?_ hk
 rw [Nat.pow_add];exact Nat.mul_lt_mul_of_pos_right h (Nat.two_pow_pos _)
theorem nr_ratio.j1_ok (E : Int) (M : Nat) (hM : M < 2 ^ 64) (hE : -1074 ≤ E ∧ E ≤ 2000) (a b : Nat) (h : Nr.near a b = Nr.join false M E) : nr_ratio.j1 E (UInt64.ofNat M) = some [.u64 (Nr.pat (Nr.near a b)), .b (Nr.near a b).isSome] := by
  refine nr_ratio.j1_in _ _ ?_
  intro v1 h1 v2 h2
  have e : (UInt64.ofNat M).toNat = M := by rw [u64_of]; have : (2 : Nat) ^ 64 = 18446744073709551616 := by decide
                                            omega
  rw [e, ← h] at h1 h2
  rw [ck_of (decide_eq_true (by omega)), h1, h2]
theorem nr_ratio.goal (a b:List UInt16) (hp:(Nt.is a&&Nt.is b&&decide (0<Nt.val a∧0<Nt.val b∧Nt.val a<2 ^ 1100∧Nt.val b<2 ^ 2200))=true):nr_ratio.F a b=some [.u64 (Nr.pat (Nr.near (Nt.val a) (Nt.val b))),.b (Nr.near (Nt.val a) (Nt.val b)).isSome]:=by
 simp only [Bool.and_eq_true,decide_eq_true_eq] at hp
 obtain ⟨⟨ha,hb⟩,p1,p2,p3,p4⟩:=hp
 refine nr_ratio.F_in _ _ ?_
 intro v1 h1 v2 h2 v3 h3 v4 h4 v5 h5 v6 h6 v7 h7 v8 h8
 obtain ⟨i1,i2,i3⟩:=Nt.bits_pos p1
 obtain ⟨j1,j2,j3⟩:=Nt.bits_pos p2
 have i4:=Nt.bits_lt p3
 have j4:=Nt.bits_lt p4
 generalize Nt.bits (Nt.val a)=i at *
 generalize Nt.bits (Nt.val b)=j at *
 generalize Nt.val a=A at *
 generalize Nt.val b=B at *
 have e1:v1=(i:Int) - j:=by rw [h1,i64_in _ (by omega)]
 have e2:v2=(i:Int) - j - 53:=by rw [h2,e1,i64_in _ (by omega)]
 have em:maxI v2 (-1074)=max ((i:Int) - j - 53) (-1074):=by rw [e2];unfold maxI;split <;> omega
 rw [em] at h3 h4 h6 ⊢
 generalize hE:max ((i:Int) - j - 53) (-1074)=E at *
 have hEb : -1074≤E∧E≤1046:=by omega
 have e6:v6=E+1:=by rw [h6,i64_in _ (by omega)]
 rw [e6] at h7 h8
 have hAb:∀E:Int,-1074≤E→E≤1047→Nr.scA A E<2 ^ 4090∧Nr.scB B E<2 ^ 4090:=fun E h1 h2=>by
  unfold Nr.scA Nr.scB
  constructor
  ·exact pow_lt_sum (k:=4090) i2 (by omega)
  ·exact pow_lt_sum (k:=4090) j2 (by omega)
 obtain ⟨a1,a2⟩:=hAb E (by omega) (by omega)
 obtain ⟨a3,a4⟩:=hAb (E+1) (by omega) (by omega)
 have t54:Nr.scA A E<2 ^ 54 * Nr.scB B E:=Nr.sc_lt i2 j1 j3 (by omega)
 have t60:Nr.scA A E<2 ^ 60 * Nr.scB B E:=Nr.sc_lt i2 j1 j3 (by omega)
 have t60':Nr.scA A (E+1)<2 ^ 60 * Nr.scB B (E+1):=Nr.sc_lt i2 j1 j3 (by omega)
 have hB:=Nr.scB_pos p2 E
 have hB1:=Nr.scB_pos p2 (E+1)
 have hn:=Nr.sc_next A B E
 have q54:Nr.scA A E / Nr.scB B E<2 ^ 54:=(Nat.div_lt_iff_lt_mul hB).2 t54
 have hd54:(2:Nat) ^ 54=18014398509481984:=by decide
 have hd64:(2:Nat) ^ 64=18446744073709551616:=by decide
 rw [ha,hb,ck_of rfl,ck_of rfl,e6,decide_eq_true (show -4096≤E∧E≤4096∧0<B∧Nr.scA A E<2 ^ 4090∧Nr.scB B E<2 ^ 4090∧Nr.scA A E<2 ^ 60 * Nr.scB B E from ⟨by omega,by omega,p2,a1,a2,t60⟩),decide_eq_true (show -4096≤E+1∧E+1≤4096∧0<B∧Nr.scA A (E+1)<2 ^ 4090∧Nr.scB B (E+1)<2 ^ 4090∧Nr.scA A (E+1)<2 ^ 60 * Nr.scB B (E+1) from ⟨by omega,by omega,p2,a3,a4,t60'⟩)]
 refine (ck_of (by rfl)).trans ?_
 have hcc:∀b:Bool,(!b || b)=true:=by decide
 rw [ck_of (hcc _),ck_of (hcc _)]
 have hr:=Nr.rnd_cases (Nr.scA A E) (Nr.scB B E)
 have hup:Nr.rndUp (Nr.scA A E) (Nr.scB B E)=decide (Nr.rnd (Nr.scA A E) (Nr.scB B E)=Nr.scA A E / Nr.scB B E+1∧Nr.rnd (Nr.scA A E) (Nr.scB B E)=9007199254740992):=rfl
 rw [hup] at h4
 generalize hQ:Nr.scA A E / Nr.scB B E=Q at *
 generalize hM:Nr.rnd (Nr.scA A E) (Nr.scB B E)=M at *
 have e3:decide ((9007199254740992:UInt64)≤v3)=decide (9007199254740992≤M):=by
  have ev:v3.toNat=M:=by rw [h3,u64_of];omega
  by_cases c:9007199254740992≤M
  ·rw [decide_eq_true c,decide_eq_true (UInt64.le_iff_toNat_le.2 (by rw [ev];exact c))]
  ·rw [decide_eq_false c,decide_eq_false (fun h=>c (by have:=UInt64.le_iff_toNat_le.1 h;rw [ev] at this;exact this))]
 have e5:v5=decide (9007199254740992≤M∧¬(M=Q+1∧M=9007199254740992)):=by
  rw [h5,e3,h4]
  by_cases c:9007199254740992≤M
  ·rw [decide_eq_true c,cond_true]
   by_cases d:M=Q+1∧M=9007199254740992
   ·rw [decide_eq_true d,decide_eq_false (fun h=>h.2 d)];rfl
   ·rw [decide_eq_false d,decide_eq_true ⟨c,d⟩];rfl
  ·rw [decide_eq_false c,cond_false,decide_eq_false (fun h=>c h.1)]
 by_cases c:9007199254740992≤M∧¬(M=Q+1∧M=9007199254740992)
 ·have hQ53:9007199254740992≤Q:=by omega
  rw [e5,decide_eq_true c,cond_true]
  refine (ck_of (by rfl)).trans ?_
  have g1:9007199254740992 * Nr.scB B E≤Nr.scA A E:=(Nat.le_div_iff_mul_le hB).1 (by rw [hQ];exact hQ53)
  have g2:4503599627370496≤Nr.scA A (E+1) / Nr.scB B (E+1):=(Nat.le_div_iff_mul_le hB1).2 (by rcases hn with ⟨n1,n2⟩ | ⟨n1,n2⟩ <;> rw [n2] <;> omega)
  have g3:Nr.scA A (E+1) / Nr.scB B (E+1)<9007199254740992:=(Nat.div_lt_iff_lt_mul hB1).2 (by rw [hd54] at t54;rcases hn with ⟨n1,n2⟩ | ⟨n1,n2⟩ <;> rw [n2] <;> omega)
  have hr1:=Nr.rnd_cases (Nr.scA A (E+1)) (Nr.scB B (E+1))
  rw [h7]
  exact nr_ratio.j1_ok (E+1) _ (by omega) (by omega) A B (Nr.near_join p2 (by omega) (.inl g2) g3)
 ·rw [e5,decide_eq_false c,cond_false,h3]
  have g3:Q<9007199254740992:=by omega
  refine nr_ratio.j1_ok E M (by omega) (by omega) A B ?_
  rw [←hM]
  refine Nr.near_join p2 (by omega) ?_ (by rw [hQ];exact g3)
  by_cases d:E=-1074
  ·exact .inr d
  ·left
   refine (Nat.le_div_iff_mul_le hB).2 ?_
   have:=Nr.sc_ge (t:=52) (E:=E) i1 i3 j2 (by omega)
   rw [show (2:Nat) ^ 52=4503599627370496 by decide] at this
   exact this
end Go.Eng
namespace Go.Eng
open Go.IntWalk
namespace Nr
theorem num_go2 (b:Str):∀n:Nat,b.foldl (fun n c=>10 * n+(c.toNat - 48)) n=n * 10 ^ b.length+num b:=by
 induction b with
 | nil=>intro n;simp [num]
 | cons c r ih =>
  intro n
  unfold num
  rw [List.foldl_cons,List.foldl_cons,ih,ih,List.length_cons,Nat.pow_succ,Nat.mul_zero,Nat.zero_add,Nat.add_mul,Nat.mul_comm 10 n,Nat.mul_assoc,Nat.mul_comm 10 (10 ^ _)]
  omega
theorem num_append (a b:Str):num (a++b)=num a * 10 ^ b.length+num b:=by
 unfold num
 rw [List.foldl_append,num_go2];rfl
theorem num_cons (c:UInt8) (r:Str):num (c :: r)=(c.toNat - 48) * 10 ^ r.length+num r:=by
 have:=num_append [c] r
 rw [List.singleton_append] at this
 rw [this];simp [num]
theorem num_zeros (t:Nat):num (List.replicate t 48)=0:=by
 induction t with
 | zero=>rfl
 | succ t ih=>rw [List.replicate_succ,num_cons,ih];simp
theorem dropWhile_split (p:UInt8→Bool):∀d:Str,∃a,d=a++d.dropWhile p∧a.all p=true∧(d.dropWhile p=[]∨p ((d.dropWhile p).getD 0 0)=false)
 | []=>⟨[],rfl,rfl,.inl rfl⟩
 | c :: r=>by
  rw [List.dropWhile_cons]
  cases h:p c
  ·rw [if_neg (by simp)]
   exact ⟨[],rfl,rfl,.inr h⟩
  ·rw [if_pos rfl]
   obtain ⟨a,h1,h2,h3⟩:=dropWhile_split p r
   exact ⟨c :: a,by rw [List.cons_append,←h1],by rw [List.all_cons,h,h2];rfl,h3⟩
theorem all_48:∀{a:Str},(a.all (· == 48))=true→a=List.replicate a.length 48
 | [],_=>rfl
 | c :: r,h=>by
  rw [List.all_cons,Bool.and_eq_true] at h
  rw [List.length_cons,List.replicate_succ,←all_48 h.2]
  congr 1
  simpa using h.1
theorem lstrip_split (d:Str):∃z,d=List.replicate z 48++lstrip d∧(lstrip d=[]∨(lstrip d).getD 0 0≠48):=by
 obtain ⟨a,h1,h2,h3⟩:=dropWhile_split (· == 48) d
 refine ⟨a.length,?_,?_⟩
 ·rw [←all_48 h2];exact h1
 ·rcases h3 with h3 | h3
  ·exact .inl h3
  ·exact .inr (by unfold lstrip;simpa using h3)
theorem rstrip_split (d:Str):∃t,d=rstrip d++List.replicate t 48∧(rstrip d=[]∨(rstrip d).getLast?≠some 48):=by
 obtain ⟨a,h1,h2,h3⟩:=dropWhile_split (· == 48) d.reverse
 refine ⟨a.length,?_,?_⟩
 ·have e:d=(a++d.reverse.dropWhile (· == 48)).reverse:=by rw [←h1,List.reverse_reverse]
  rw [List.reverse_append,all_48 h2,List.reverse_replicate] at e
  exact e
 ·rcases h3 with h3 | h3
  ·left;unfold rstrip;rw [h3];rfl
  ·right
   unfold rstrip
   rw [List.getLast?_reverse]
   intro h
   cases hd:d.reverse.dropWhile (· == 48) with
   | nil=>rw [hd] at h;cases h
   | cons c r =>
    rw [hd] at h h3
    have:c=48:=by simpa using h
    subst this
    simp at h3
theorem digs_contains (b:UInt8):([48,49,50,51,52,53,54,55,56,57]:Str).contains b=isDig b:=by
 have h:∀n,n<256→([48,49,50,51,52,53,54,55,56,57]:Str).contains (UInt8.ofNat n)=isDig (UInt8.ofNat n):=by decide +kernel
 have:=h b.toNat b.toNat_lt
 rwa [UInt8.ofNat_toNat] at this
theorem trimL_eq (d:Str):Lib.trimLeftS d [48]=lstrip d:=by
 rw [Lib.trimLeftS_one];rfl
theorem trimR_eq (d:Str):Lib.trimRightS d [48]=rstrip d:=by
 rw [Lib.trimRightS_one];rfl
theorem dropWhile_nil {p:UInt8→Bool}:∀{l:Str},l.dropWhile p=[] ↔ l.all p=true
 | []=>by simp
 | c :: r=>by
  rw [List.dropWhile_cons,List.all_cons]
  cases h:p c
  ·simp
  ·rw [if_pos rfl,dropWhile_nil];simp
theorem trim_digits (d:Str):(Lib.trimS d [48,49,50,51,52,53,54,55,56,57]=[]) ↔ d.all isDig=true:=by
 have e:(fun b=>([48,49,50,51,52,53,54,55,56,57]:Str).contains b)=isDig:=funext digs_contains
 have h1:∀l:Str,Lib.trimLeftS l [48,49,50,51,52,53,54,55,56,57]=l.dropWhile isDig:=fun l=>by unfold Lib.trimLeftS;rw [e]
 have h2:∀l:Str,Lib.trimRightS l [48,49,50,51,52,53,54,55,56,57]=(l.reverse.dropWhile isDig).reverse:=fun l=>by unfold Lib.trimRightS;rw [e]
 unfold Lib.trimS
 rw [h1,h2,dropWhile_nil,List.all_reverse]
 constructor
 ·intro h
  obtain ⟨a,q1,q2,q3⟩:=dropWhile_split isDig d.reverse
  have hn:d.reverse.dropWhile isDig=[]:=by
   rcases q3 with q3 | q3
   ·exact q3
   ·cases hd:d.reverse.dropWhile isDig with
    | nil=>rfl
    | cons c r =>
     rw [hd] at h q3
     rw [List.all_cons,Bool.and_eq_true] at h
     have:isDig c=false:=q3
     rw [this] at h;cases h.1
  rw [dropWhile_nil,List.all_reverse] at hn
  exact hn
 ·intro h
  rw [(dropWhile_nil (l:=d.reverse)).2 (by rw [List.all_reverse];exact h)];rfl
theorem num_ge {d:Str} (h:d.all isDig=true) (h0:d≠[]) (h1:d.getD 0 0≠48):10 ^ (d.length - 1)≤num d:=by
 cases d with
 | nil=>exact (h0 rfl).elim
 | cons c r =>
  rw [List.all_cons,Bool.and_eq_true] at h
  have hc:=isDig_iff.1 h.1
  have h1:c≠48:=h1
  have hc2:c.toNat≠48:=fun e=>h1 (UInt8.toNat_inj.1 e)
  rw [num_cons,List.length_cons,Nat.add_sub_cancel]
  have:1 * 10 ^ r.length≤(c.toNat - 48) * 10 ^ r.length:=Nat.mul_le_mul_right _ (by omega)
  omega
theorem two1075_le:two1075≤10 ^ 324:=by decide +kernel
theorem two1024_le:two1024≤10 ^ 309:=by decide +kernel
theorem ten_pos (k:Nat):0<10 ^ k:=Nat.pow_pos (by omega)
theorem ten_le {a b:Nat} (h:a≤b):10 ^ a≤10 ^ b:=Nat.pow_le_pow_right (by omega) h
theorem ten_mul {a b i j k:Nat} (h1:a≤10 ^ i) (h2:b≤10 ^ j) (h:i+j≤k):a * b≤10 ^ k:=by
 refine Nat.le_trans (Nat.mul_le_mul h1 h2) ?_
 rw [←Nat.pow_add];exact ten_le h
theorem ten_mul2 {a b i j k l:Nat} (h1:a≤10 ^ i) (h2:10 ^ k≤b) (h:i+j≤k+l):a * 10 ^ j≤b * 10 ^ l:=by
 refine Nat.le_trans (Nat.mul_le_mul_right _ h1) (Nat.le_trans ?_ (Nat.mul_le_mul_right _ h2))
 rw [←Nat.pow_add,←Nat.pow_add];exact ten_le h
theorem rd_low {N L:Nat} {k:Int} (hN:N<10 ^ L) (h:k+L≤-324):rd N k=some 0:=by
 unfold rd
 refine near_low (ten_pos _) ?_
 rw [show k.toNat=0 by omega,Nat.pow_zero,Nat.mul_one]
 exact ten_mul (Nat.le_of_lt hN) two1075_le (by omega)
theorem rd_high {N L:Nat} {k:Int} (hN:10 ^ (L - 1)≤N) (hL:0<L) (h:310≤k+L):rd N k=none:=by
 unfold rd
 refine near_high (ten_pos _) ?_
 exact ten_mul2 two1024_le hN (by omega)
theorem rd_zero (k:Int):rd 0 k=some 0:=by
 unfold rd
 rw [Nat.zero_mul];exact near_zero _ (ten_pos _)
theorem rd_shift (N t:Nat) (k:Int):rd (N * 10 ^ t) k=rd N (k+t):=by
 unfold rd
 refine near_cross (ten_pos _) (ten_pos _) ?_
 rw [Nat.mul_assoc,Nat.mul_assoc,Nat.mul_assoc,←Nat.pow_add,←Nat.pow_add,←Nat.pow_add]
 congr 2
 omega
theorem all_append_of {p:UInt8→Bool} {d a b:Str} (h:d.all p=true) (e:d=a++b):a.all p=true∧b.all p=true:=by
 rw [e,List.all_append,Bool.and_eq_true] at h
 exact h
end Nr
theorem is_of2 {n i:Nat} (h:n<2 ^ i) (hi:i≤4096):Nt.is (Nt.of n)=true:=Nt.is_of (pow_lt_of (k:=4096) h hi)
theorem nr_Read.j1_ok (A B:Nat) (hA:0<A) (hB:0<B) (hA2:A<2 ^ 1100) (hB2:B<2 ^ 2200):nr_Read.j1 (Nt.of A) (Nt.of B)=some [.u64 (Nr.pat (Nr.near A B)),.b (Nr.near A B).isSome]:=by
 refine nr_Read.j1_in _ _ ?_
 intro v1 h1 v2 h2
 rw [Nt.val_of,Nt.val_of] at h1 h2
 rw [Nt.val_of,Nt.val_of,is_of2 hA2 (by omega),is_of2 hB2 (by omega),decide_eq_true ⟨hA,hB,hA2,hB2⟩]
 refine (ck_of (by rfl)).trans ?_
 rw [h1,h2]
theorem ten_two:(10:Nat) ^ 310<2 ^ 1100∧(10:Nat) ^ 631<2 ^ 2200:=by decide +kernel
theorem nr_Read.goal (d:Str) (x:Int):nr_Read.F d x=some [.u64 (Nr.pat (Nr.read d x)),.b (Nr.read d x).isSome]:=by
 refine nr_Read.F_in _ _ ?_
 intro v1 h1 v2 h2 v3 h3 v4 h4 v5 h5 v6 h6 v7 h7 v8 h8 v9 h9 v10 h10 v11 h11 v12 h12
 have hcc:∀b:Bool,(!(!b) || !b)=true∧(b || !b)=true:=by decide
 have e1:v1=!decide (1≤d.length∧d.length≤300):=by
  rw [h1]
  by_cases c:1≤d.length∧d.length≤300
  ·rw [decide_eq_true c,decide_eq_false (by omega),cond_false,decide_eq_false (by omega)];rfl
  ·rw [decide_eq_false c]
   by_cases d0:(d.length:Int)<1
   ·rw [decide_eq_true d0];rfl
   ·rw [decide_eq_false d0,cond_false,decide_eq_true (by omega)];rfl
 have e3:v3=!Nr.valid d:=by
  unfold Nr.valid
  rw [h3,e1,h2]
  have:decide (Lib.trimS d [48,49,50,51,52,53,54,55,56,57]=[])=d.all Nr.isDig:=by
   by_cases c:d.all Nr.isDig=true
   ·rw [c,decide_eq_true ((Nr.trim_digits d).2 c)]
   ·rw [decide_eq_false (fun h=>c ((Nr.trim_digits d).1 h))];exact (Bool.eq_false_iff.2 c).symm
  rw [this]
  cases decide (1≤d.length∧d.length≤300) <;> cases d.all Nr.isDig <;> rfl
 rw [ck_of (hcc _).1,ck_of (hcc _).1,ck_of (hcc _).2]
 have c4:(!(!v1) || ((!v1)&&(decide (d.length≤1099511627776∧([48,49,50,51,52,53,54,55,56,57]:Str).length≤100)&&([48,49,50,51,52,53,54,55,56,57]:Str).all (fun b=>decide (b.toNat<128)))))=true:=by
  rw [e1]
  by_cases c:1≤d.length∧d.length≤300
  ·rw [decide_eq_true c,decide_eq_true (show d.length≤1099511627776∧([48,49,50,51,52,53,54,55,56,57]:Str).length≤100 from ⟨by omega,by decide⟩)];rfl
  ·rw [decide_eq_false c];rfl
 rw [ck_of c4,ck_of (hcc _).1,ck_of (hcc _).2,e3]
 unfold Nr.read
 cases hv:Nr.valid d
 ·rfl
 ·rw [if_pos rfl]
  refine Eq.trans (b:=_) (cond_false _ _) ?_
  unfold Nr.valid at hv
  rw [Bool.and_eq_true] at hv
  obtain ⟨hl,hd⟩:=hv
  obtain ⟨l1,l2⟩:=of_decide_eq_true hl
  rw [Nr.trimL_eq] at h4
  rw [Nr.trimR_eq] at h7
  obtain ⟨z,z1,z2⟩:=Nr.lstrip_split d
  rw [←h4] at z1 z2
  obtain ⟨t,t1,t2⟩:=Nr.rstrip_split v4
  rw [←h7] at t1 t2
  have hd4:=(Nr.all_append_of hd z1).2
  have hd7:=(Nr.all_append_of hd4 t1).1
  have lz:d.length=z+v4.length:=by
   have:=congrArg List.length z1
   rw [List.length_append,List.length_replicate] at this
   exact this
  have lt:v4.length=v7.length+t:=by
   have:=congrArg List.length t1
   rw [List.length_append,List.length_replicate] at this
   exact this
  have nz:Nr.num d=Nr.num v4:=by
   have:=congrArg Nr.num z1
   rw [Nr.num_append,Nr.num_zeros,Nat.zero_mul,Nat.zero_add] at this
   exact this
  have nt:Nr.num v4=Nr.num v7 * 10 ^ t:=by
   have:=congrArg Nr.num t1
   rw [Nr.num_append,Nr.num_zeros,List.length_replicate,Nat.add_zero] at this
   exact this
  have ck48:∀s:Str,s.length≤300→(decide (s.length≤1099511627776∧([48]:Str).length≤100)&&([48]:Str).all (fun b=>decide (b.toNat<128)))=true:=fun s hs=>by
   rw [decide_eq_true (show s.length≤1099511627776∧([48]:Str).length≤100 from ⟨by omega,by decide⟩)];rfl
  rw [ck_of (ck48 d l2),ck_of (hcc _).1,ck_of (hcc _).2,nz]
  by_cases c0:v4=[]
  ·have e5:v5=true:=by rw [h5,decide_eq_true c0];rfl
   rw [e5,cond_true,c0]
   rw [show Nr.num []=0 from rfl,Nr.rd_zero];rfl
  ·rw [decide_eq_false c0,cond_false] at h5
   have z2:v4.getD 0 0≠48:=z2.resolve_left c0
   have p4:0<v4.length:=List.length_pos_iff.2 c0
   have b1:=Nr.num_lt v4 hd4
   have b2:=Nr.num_ge hd4 c0 z2
   by_cases c1:x < -1000
   ·rw [h5,decide_eq_true c1,cond_true,Nr.rd_low b1 (by omega)];rfl
   ·rw [h5,decide_eq_false c1,cond_false]
    by_cases c2:1000<x
    ·rw [decide_eq_true c2,cond_true,Nr.rd_high b2 p4 (by omega)];rfl
    ·have e6:v6=z:=by rw [h6,i64_in _ (by omega)];omega
     have ex:IntKind.i64.wrap (x - v6)=x - z:=by rw [e6,i64_in _ (by omega)]
     rw [decide_eq_false c2,cond_false,ck_of (ck48 v4 (by omega)),ex]
     by_cases c3:x - z < -330
     ·rw [decide_eq_true c3,cond_true,Nr.rd_low b1 (by omega)];rfl
     ·rw [decide_eq_false c3,cond_false]
      by_cases c4:310<x - (z:Int)
      ·rw [decide_eq_true c4,cond_true,Nr.rd_high b2 p4 (by omega)];rfl
      ·rw [decide_eq_false c4,cond_false]
       have n7:v7≠[]:=by
        intro e
        rw [e] at nt
        have:=Nr.ten_pos (v4.length - 1)
        rw [show Nr.num []=0 from rfl,Nat.zero_mul] at nt
        omega
       have p7:0<v7.length:=List.length_pos_iff.2 n7
       have g7:v7.getD 0 0=v4.getD 0 0:=by
        rw [t1,List.getD_eq_getElem?_getD,List.getD_eq_getElem?_getD,List.getElem?_append_left (by omega)]
       have e9:v9=x - z - v7.length:=by rw [h9,ex,i64_in _ (by omega)]
       have w7:=Nr.num_lt v7 hd7
       have w7':=Nr.num_ge hd7 n7 (by rw [g7];exact z2)
       have w7p:0<Nr.num v7:=Nat.lt_of_lt_of_le (Nr.ten_pos _) w7'
       have hrd:Nr.rd (Nr.num v4) (x - (d.length:Int))=Nr.rd (Nr.num v7) v9:=by
        rw [nt,Nr.rd_shift];congr 1;omega
       rw [hrd,ck_of (by rw [decide_eq_true (show 1≤v7.length∧v7.length≤300∧v7.getD 0 0≠48 from ⟨by omega,by omega,by rw [g7];exact z2⟩),hd7];rfl)]
       have hB:∀k:Nat,k≤631→(10:Nat) ^ k<2 ^ 2200:=fun k hk=>Nat.lt_of_le_of_lt (Nr.ten_le hk) ten_two.2
       have hA:∀k:Nat,k≤310→(10:Nat) ^ k<2 ^ 1100:=fun k hk=>Nat.lt_of_le_of_lt (Nr.ten_le hk) ten_two.1
       by_cases c5:0≤v9
       ·have ep:Nr.num v7 * 10 ^ v9.toNat<10 ^ (v7.length+v9.toNat):=by
         rw [Nat.pow_add];exact Nat.mul_lt_mul_of_pos_right w7 (Nr.ten_pos _)
        have e10:v10=Nt.of (10 ^ v9.toNat):=h10
        have e11:v11=Nt.of (Nr.num v7 * 10 ^ v9.toNat):=by rw [h11,e10,Nt.val_of,Nt.val_of]
        have e8:v8=Nt.of 1:=h8
        rw [decide_eq_true c5,cond_true,ck_of (decide_eq_true ⟨by omega,by omega,by omega,by omega,pow_lt_of (k:=4096) (hB v9.toNat (by omega)) (by omega)⟩),e10,is_of2 (hB v9.toNat (by omega)) (by omega),is_of2 (Nat.lt_trans w7 (hB v7.length (by omega))) (by omega)]
        refine (ck_of (by rfl)).trans ?_
        rw [e11,e8,nr_Read.j1_ok _ 1 (Nat.mul_pos w7p (Nr.ten_pos _)) (by omega) (Nat.lt_trans ep (hA _ (by omega))) (hB 0 (by omega))]
        unfold Nr.rd
        rw [show (-v9).toNat=0 by omega,Nat.pow_zero]
       ·have ew:IntKind.i64.wrap (0 - v9)=-v9:=by rw [i64_in _ (by omega)];omega
        rw [ew] at h12
        have e12:v12=Nt.of (10 ^ (-v9).toNat):=h12
        rw [decide_eq_false c5,cond_false,ew,ck_of (decide_eq_true ⟨by omega,by omega,by omega,by omega,pow_lt_of (k:=4096) (hB (-v9).toNat (by omega)) (by omega)⟩),e12]
        rw [nr_Read.j1_ok _ _ w7p (Nr.ten_pos _) (Nat.lt_trans w7 (hA v7.length (by omega))) (hB _ (by omega))]
        unfold Nr.rd
        rw [show v9.toNat=0 by omega,Nat.pow_zero,Nat.mul_one]
end Go.Eng
namespace Go.Eng
open Go.IntWalk
namespace Nr
def valU:List UInt64→Nat
 | []=>0
 | a :: r=>a.toNat+100000000 * valU r
def smU (a:List UInt64):Bool:=a.all fun x=>decide (x.toNat<100000000)
theorem times_ok (m:UInt64) (hm:m.toNat≤100000000):∀(a:List UInt64) (c:UInt64),smU a=true→c.toNat<100000000 →
  valU (times a m c)=valU a * m.toNat+c.toNat∧smU (times a m c)=true∧(times a m c).length≤a.length+1
 | [],c,_,hc=>by
  unfold times
  by_cases h:c > 0
  ·rw [if_pos h];simp [valU,smU,hc]
  ·have h0:c.toNat=0:=by
    have:¬0<c.toNat:=fun h1=>h (UInt64.lt_iff_toNat_lt.2 h1)
    omega
   rw [if_neg h];simp [valU,smU,h0]
 | a :: r,c,ha,hc=>by
  unfold smU at ha
  rw [List.all_cons,Bool.and_eq_true] at ha
  have h1:=of_decide_eq_true ha.1
  have hmul:a.toNat * m.toNat≤99999999 * 100000000:=Nat.mul_le_mul (by omega) hm
  have e:(c+a * m).toNat=c.toNat+a.toNat * m.toNat:=by
   rw [UInt64.toNat_add,UInt64.toNat_mul]
   show (c.toNat+a.toNat * m.toNat % 18446744073709551616) % 18446744073709551616=_
   omega
  have ed:((c+a * m) / 100000000).toNat=(c.toNat+a.toNat * m.toNat) / 100000000:=by rw [UInt64.toNat_div,e];rfl
  have em:((c+a * m) % 100000000).toNat=(c.toNat+a.toNat * m.toNat) % 100000000:=by rw [UInt64.toNat_mod,e];rfl
  obtain ⟨i1,i2,i3⟩:=times_ok m hm r ((c+a * m) / 100000000) ha.2 (by rw [ed];omega)
  rw [times]
  refine ⟨?_,?_,?_⟩
  ·rw [valU,valU,i1,ed,em,Nat.add_mul,Nat.mul_add,←Nat.mul_assoc]
   omega
  ·unfold smU
   rw [List.all_cons,Bool.and_eq_true]
   exact ⟨decide_eq_true (by rw [em];omega),i2⟩
  ·rw [List.length_cons,List.length_cons];omega
end Nr
theorem take_set_same {α:Type} (l:List α) (i:Nat) (x:α) (h:i<l.length):(l.set i x).take (i+1)=l.take i++[x]∧(l.set i x).drop (i+1)=l.drop (i+1):=by
 refine ⟨take_set_succ l i x x h,?_⟩
 rw [List.drop_set_of_lt (by omega)]
theorem r9_times.l1_ok (m:UInt64):∀(k:Nat) (i:Nat) (c:UInt64) (a:List UInt64),i+k=a.length→a.length≤1000→r9_times.l1 m c i a=some [.sl .us (a.take i++Nr.times (a.drop i) m c)]:=by
 intro k
 induction k with
 | zero =>
  intro i c a hi hl
  refine r9_times.l1_in _ _ _ _ ?_
  intro v1 h1 v2 h2 v3 h3 v4 h4 v5 h5
  rw [decide_eq_false (by omega),cond_false,List.drop_of_length_le (by omega),List.take_of_length_le (by omega),Nr.times]
  by_cases hc:(0:UInt64)<c
  ·rw [decide_eq_true hc,cond_true,ck_of (big_ap (by simp;omega) (by simp;omega)),r9_times.j2_eq,if_pos hc]
  ·rw [decide_eq_false hc,cond_false,r9_times.j2_eq,if_neg hc,List.append_nil]
 | succ k ih =>
  intro i c a hi hl
  refine r9_times.l1_in _ _ _ _ ?_
  intro v1 h1 v2 h2 v3 h3 v4 h4 v5 h5
  rw [Int.toNat_natCast] at h1 h3
  have e5:v5=((i+1:Nat):Int):=by rw [h5,i64_in _ (by omega)];omega
  have hx:idxOK (i:Int) a.length=true:=idx_ok (by omega) (by omega)
  rw [decide_eq_true (by omega),cond_true,ck_of hx,ck_of (decide_eq_true (by omega)),ck_of (by rfl),ck_of hx,ck_of (decide_eq_true (by omega)),ck_of (by rfl),e5,ih (i+1) _ _ (by rw [h3,List.length_set];omega) (by rw [h3,List.length_set];exact hl),h3]
  obtain ⟨t1,t2⟩:=take_set_same a i v2 (by omega)
  rw [t1,t2,drop_cons (show i<a.length by omega) 0,←h1,Nr.times,←h2,←h4,List.append_assoc];rfl
theorem r9_times.goal (a:List UInt64) (m:UInt64) (hp:(decide (a.length≤1000∧m.toNat≤100000000)&&a.all (fun x=>decide (x.toNat<100000000)))=true):r9_times.F a m=some [.sl .us (Nr.times a m 0)]:=by
 simp only [Bool.and_eq_true,decide_eq_true_eq] at hp
 rw [r9_times.F_eq]
 have:=r9_times.l1_ok m a.length 0 0 a (by omega) hp.1.1
 rw [List.take_zero,List.drop_zero,List.nil_append] at this
 exact this
namespace Nr
theorem rstrip_nil:rstrip []=[]:=rfl
theorem rstrip_snoc (s:Str) (c:UInt8):rstrip (s++[c])=if c=48 then rstrip s else s++[c]:=by
 unfold rstrip
 rw [List.reverse_append,List.reverse_singleton,List.singleton_append,List.dropWhile_cons]
 by_cases h:c=48
 ·rw [if_pos (by simp [h]),if_pos h]
 ·rw [if_neg (by simp [h]),if_neg h];simp
theorem snoc_cases (s:Str):s=[]∨∃a c,s=a++[c]:=by
 cases h:s.reverse with
 | nil=>left;simpa using h
 | cons c r=>right;exact ⟨r.reverse,c,by have:=congrArg List.reverse h;simpa using this⟩
theorem isDig_of_val {c:UInt8} (h:isDig c=true):c=UInt8.ofNat (48+(c.toNat - 48)):=by
 have:=isDig_iff.1 h
 rw [show 48+(c.toNat - 48)=c.toNat by omega,UInt8.ofNat_toNat]
theorem dec_unique:∀(n:Nat) (s:Str),s.length=n→s.all isDig=true→s≠[]→s.getD 0 0≠48→s=dec (num s):=by
 intro n
 induction n with
 | zero=>intro s hs _ h0 _;exact (h0 (List.length_eq_zero_iff.1 hs)).elim
 | succ n ih =>
  intro s hs hd h0 h1
  rcases snoc_cases s with h | ⟨a,c,rfl⟩
  ·exact (h0 h).elim
  ·obtain ⟨d1,d2⟩:=all_append_of hd rfl
   rw [List.all_cons,Bool.and_eq_true] at d2
   have hc:=isDig_iff.1 d2.1
   rw [num_snoc]
   by_cases ha:a=[]
   ·subst ha
    rw [show num []=0 from rfl,dec_small (by omega)]
    rw [Nat.mul_zero,Nat.zero_add,←isDig_of_val d2.1];rfl
   ·have ha1:a.getD 0 0≠48:=by
     have hl:=List.length_pos_iff.2 ha
     rw [List.getD_eq_getElem?_getD,List.getElem?_append_left hl,←List.getD_eq_getElem?_getD] at h1
     exact h1
    have hg:=num_ge d1 ha ha1
    have:=ten_pos (a.length - 1)
    rw [dec_big (by omega),show (10 * num a+(c.toNat - 48)) / 10=num a by omega,show (10 * num a+(c.toNat - 48)) % 10=c.toNat - 48 by omega,←isDig_of_val d2.1]
    rw [List.length_append,List.length_singleton] at hs
    rw [←ih a (by omega) d1 ha ha1]
theorem dec_ok (n:Nat):(dec n).all isDig=true∧num (dec n)=n∧(dec n≠[])∧(0<n→(dec n).getD 0 0≠48):=by
 induction n using Nat.strongRecOn with
 | _ n ih =>
  have hdig:∀k,k<10→isDig (UInt8.ofNat (48+k))=true∧(UInt8.ofNat (48+k)).toNat=48+k:=fun k hk=>by
   have:(UInt8.ofNat (48+k)).toNat=48+k:=by simp;omega
   exact ⟨isDig_iff.2 (by omega),this⟩
  by_cases c:n<10
  ·rw [dec_small c]
   obtain ⟨h1,h2⟩:=hdig n c
   refine ⟨by rw [List.all_cons,h1];rfl,by simp only [num,List.foldl_cons,List.foldl_nil,h2];omega,by simp,fun h e=>?_⟩
   have:=congrArg UInt8.toNat e
   have e2:([UInt8.ofNat (48+n)].getD 0 0).toNat=48+n:=h2
   rw [e2] at this
   have e3:(48:UInt8).toNat=48:=rfl
   omega
  ·obtain ⟨i1,i2,i3,i4⟩:=ih (n / 10) (by omega)
   obtain ⟨h1,h2⟩:=hdig (n % 10) (by omega)
   rw [dec_big c]
   refine ⟨by rw [List.all_append,i1,List.all_cons,h1];rfl,by rw [num_snoc,i2,h2];omega,by simp,fun _=>?_⟩
   rw [List.getD_eq_getElem?_getD,List.getElem?_append_left (List.length_pos_iff.2 i3),←List.getD_eq_getElem?_getD]
   exact i4 (by omega)
end Nr
end Go.Eng
namespace Go.Eng
open Go.IntWalk
open Nr (valU smU)
structure ExOK (a:List UInt64) (N b:Nat):Prop where
 v:valU a=N
 s:smU a=true
 l:a.length+b≤999
 n:a≠[]
theorem ExOK.times {a:List UInt64} {N b:Nat} (h:ExOK a N (b+1)) (m:UInt64) (hm:m.toNat≤100000000):ExOK (Nr.times a m 0) (N * m.toNat) b:=by
 obtain ⟨t1,t2,t3⟩:=Nr.times_ok m hm a 0 h.s (by decide)
 refine ⟨by rw [t1,h.v];rfl,t2,by have:=h.l;omega,?_⟩
 intro e
 have hn:=h.n
 cases a with
 | nil=>exact hn rfl
 | cons c r=>unfold Nr.times at e;simp at e
theorem ExOK.pre {a:List UInt64} {N b:Nat} (h:ExOK a N b) (m:UInt64) (hm:m.toNat≤100000000):(decide (a.length≤1000∧m.toNat≤100000000)&&a.all (fun x=>decide (x.toNat<100000000)))=true:=by
 have hs:a.all (fun x=>decide (x.toNat<100000000))=true:=h.s
 rw [hs,decide_eq_true ⟨by have:=h.l;omega,hm⟩];rfl
theorem ExOK.le {a:List UInt64} {N b c:Nat} (h:ExOK a N b) (hc:c≤b):ExOK a N c:=⟨h.v,h.s,by have:=h.l;omega,h.n⟩
theorem r9_Exact.l10_ok (x:Int):∀(n:Nat) (s:Str),s.length=n→n≤100000→r9_Exact.l10 x s=some [.s (Nr.rstrip s),.i .i64 x]:=by
 intro n
 induction n with
 | zero =>
  intro s hs _
  obtain rfl:=List.length_eq_zero_iff.1 hs
  refine r9_Exact.l10_in _ _ ?_
  intro v1 h1 v2 h2 v3 h3
  have e3:v3=false:=h3
  rw [e3];rfl
 | succ n ih =>
  intro s hs hn
  refine r9_Exact.l10_in _ _ ?_
  intro v1 h1 v2 h2 v3 h3
  rcases Nr.snoc_cases s with h | ⟨a,c,rfl⟩
  ·rw [h] at hs;simp at hs
  ·rw [List.length_append,List.length_singleton] at hs
   have e1:v1=(a.length:Int):=by rw [h1,List.length_append,List.length_singleton,i64_in _ (by omega)];omega
   have e2:v2=c:=by rw [h2,e1,Int.toNat_natCast];exact getD_snoc a c 0
   have ht:decide ((0:Int)<((a++[c]).length:Int))=true:=decide_eq_true (by rw [List.length_append,List.length_singleton];omega)
   have hx:idxOK v1 (a++[c]).length=true:=by rw [e1];exact idx_ok (by omega) (by rw [List.length_append,List.length_singleton];omega)
   rw [ht,cond_true,e2] at h3
   rw [ht,hx,ck_of (by rfl),ck_of (by rfl),ck_of (by rfl),ck_of (by rfl),ck_of (by rfl),ck_of (by rfl),h3,Nr.rstrip_snoc]
   by_cases hc:c=48
   ·rw [decide_eq_true hc,cond_true,if_pos hc,e1,ck_of (cut_ok (by omega) (by omega) (by rw [List.length_append,List.length_singleton];omega)),Int.toNat_natCast,List.take_left]
    exact ih a (by omega) (by omega)
   ·rw [decide_eq_false hc,cond_false,if_neg hc]
theorem r9_Exact.l9_ok (x:Int) (s:Str) (hs:s.length≤100000):∀(k:Nat) (acc:Str),k≤s.length→acc.length+k=s.length→r9_Exact.l9 s x acc ((k:Int) - 1)=some [.s (Nr.rstrip (acc++(s.take k).reverse)),.i .i64 x]:=by
 intro k
 induction k with
 | zero =>
  intro acc hk hl
  refine r9_Exact.l9_in _ _ _ _ ?_
  intro v1 h1 v2 h2
  rw [decide_eq_false (by omega),cond_false,r9_Exact.l10_ok x acc.length acc rfl (by omega)]
  simp
 | succ k ih =>
  intro acc hk hl
  refine r9_Exact.l9_in _ _ _ _ ?_
  intro v1 h1 v2 h2
  have ei:((k+1:Nat):Int) - 1=(k:Int):=by omega
  rw [ei] at h1 h2 ⊢
  rw [Int.toNat_natCast] at h1
  have e2:v2=(k:Int) - 1:=by rw [h2,i64_in _ (by omega)]
  rw [decide_eq_true (by omega),cond_true,ck_of (idx_ok (by omega) (by omega)),ck_of (big_ap (by simp;omega) (by simp;omega)),e2,ih _ (by omega) (by simp;omega),take_snoc (show k<s.length by omega),←h1]
  simp
theorem r9_Exact.l8_ok (e:Int) (he : -2000≤e∧e≤2000):∀(n:Nat) (s:Str),s.length=n→n≤100000→r9_Exact.l8 e s=some [.s (Nr.rstrip (Nr.rstrip s).reverse),.i .i64 ((Nr.rstrip s).length+min e 0)]:=by
 intro n
 induction n with
 | zero =>
  intro s hs _
  obtain rfl:=List.length_eq_zero_iff.1 hs
  refine r9_Exact.l8_in _ _ ?_
  intro v1 h1 v2 h2 v3 h3 v4 h4
  have e3:v3=false:=h3
  have e1:v1=((0:Nat):Int) - 1:=by rw [h1];exact i64_in _ (by simp)
  have em:minI e 0=min e 0:=by unfold minI;split <;> omega
  have e4:v4=min e 0:=by rw [h4,em,i64_in _ (by simp only [List.length_nil];omega)];simp
  rw [e3]
  refine Eq.trans (b:=r9_Exact.l9 [] v4 [] v1) rfl ?_
  rw [e1,r9_Exact.l9_ok v4 [] (by simp) 0 [] (by simp) (by simp),e4]
  simp [Nr.rstrip_nil]
 | succ n ih =>
  intro s hs hn
  refine r9_Exact.l8_in _ _ ?_
  intro v1 h1 v2 h2 v3 h3 v4 h4
  rcases Nr.snoc_cases s with h | ⟨a,c,rfl⟩
  ·rw [h] at hs;simp at hs
  ·have hs1:a.length=n:=by rw [List.length_append,List.length_singleton] at hs;omega
   have e1:v1=(a.length:Int):=by rw [h1,List.length_append,List.length_singleton,i64_in _ (by omega)];omega
   have e2:v2=c:=by rw [h2,e1,Int.toNat_natCast];exact getD_snoc a c 0
   have ht:decide ((0:Int)<((a++[c]).length:Int))=true:=decide_eq_true (by rw [List.length_append,List.length_singleton];omega)
   have hx:idxOK v1 (a++[c]).length=true:=by rw [e1];exact idx_ok (by omega) (by rw [List.length_append,List.length_singleton];omega)
   rw [ht,cond_true,e2] at h3
   rw [ht,hx,ck_of (by rfl),ck_of (by rfl),ck_of (by rfl),ck_of (by rfl),ck_of (by rfl),ck_of (by rfl),h3,Nr.rstrip_snoc]
   by_cases hc:c=48
   ·rw [decide_eq_true hc,cond_true,if_pos hc,e1,ck_of (cut_ok (by omega) (by omega) (by rw [List.length_append,List.length_singleton];omega)),Int.toNat_natCast,List.take_left]
    exact ih a (by omega) (by omega)
   ·have em:minI e 0=min e 0:=by unfold minI;split <;> omega
    have e4:v4=((a++[c]).length:Int)+min e 0:=by rw [h4,em,i64_in _ (by omega)]
    have e1':v1=((a++[c]).length:Int) - 1:=by rw [e1,List.length_append,List.length_singleton];omega
    rw [decide_eq_false hc,cond_false,if_neg hc,e1',r9_Exact.l9_ok v4 (a++[c]) (by omega) (a++[c]).length [] (Nat.le_refl _) (by simp),List.take_length,List.nil_append,e4]
def lowDigs:Nat→Nat→Str
 | 0,_=>[]
 | k+1,n=>UInt8.ofNat (48+n % 10) :: lowDigs k (n / 10)
theorem dig_of {k:Nat} (hk:k<10):Nr.isDig (UInt8.ofNat (48+k))=true∧(UInt8.ofNat (48+k)).toNat=48+k:=by
 have:(UInt8.ofNat (48+k)).toNat=48+k:=by simp;omega
 exact ⟨Nr.isDig_iff.2 (by omega),this⟩
theorem lowDigs_ok:∀(k n:Nat),(lowDigs k n).length=k∧(lowDigs k n).all Nr.isDig=true∧Nr.num (lowDigs k n).reverse=n % 10 ^ k
 | 0,n=>⟨rfl,rfl,by rw [Nat.pow_zero,Nat.mod_one];rfl⟩
 | k+1,n=>by
  obtain ⟨i1,i2,i3⟩:=lowDigs_ok k (n / 10)
  obtain ⟨d1,d2⟩:=dig_of (Nat.mod_lt n (show 0<10 by omega))
  refine ⟨by rw [lowDigs,List.length_cons,i1],by rw [lowDigs,List.all_cons,d1,i2];rfl,?_⟩
  rw [lowDigs,List.reverse_cons,Nr.num_snoc,i3,d2,Nat.pow_succ,Nat.mul_comm (10 ^ k),Nat.mod_mul]
  omega
theorem num_rev_append (a b:Str):Nr.num (a++b).reverse=Nr.num a.reverse+10 ^ a.length * Nr.num b.reverse:=by
 rw [List.reverse_append,Nr.num_append,List.length_reverse,Nat.mul_comm];omega
theorem r9_Exact.l7_ok (e:Int) (i:Nat) (a:List UInt64) (hi:i≤1000):∀(k j:Nat),j+k=8→∀(out:Str) (v:UInt64),out.length≤8 * i+j→r9_Exact.l7 e out i v j a=r9_Exact.l6 e (out++lowDigs k v.toNat) ((i+1:Nat):Int) a:=by
 intro k
 induction k with
 | zero =>
  intro j hj out v hl
  refine r9_Exact.l7_in _ _ _ _ _ _ ?_
  intro v1 h1 v2 h2 v3 h3 v4 h4
  have e4:v4=((i+1:Nat):Int):=by rw [h4,i64_in _ (by omega)];omega
  rw [decide_eq_false (by omega),cond_false,e4,lowDigs,List.append_nil]
 | succ k ih =>
  intro j hj out v hl
  refine r9_Exact.l7_in _ _ _ _ _ _ ?_
  intro v1 h1 v2 h2 v3 h3 v4 h4
  have hv:=v.toNat_lt
  have e3:v3=((j+1:Nat):Int):=by rw [h3,i64_in _ (by omega)];omega
  have em:(v % 10).toNat=v.toNat % 10:=UInt64.toNat_mod ..
  have ed:(v / 10).toNat=v.toNat / 10:=UInt64.toNat_div ..
  have e1:v1.toNat=48+v.toNat % 10:=by
   rw [h1,UInt64.toNat_add,em];show (48+v.toNat % 10) % 18446744073709551616=_;omega
  have e2:v2=UInt8.ofNat (48+v.toNat % 10):=by rw [h2,u8_of_u64 _ (by omega),e1]
  rw [decide_eq_true (by omega),cond_true,ck_of (by rfl),ck_of (big_ap (by simp;omega) (by simp;omega)),ck_of (by rfl),e3,ih (j+1) (by omega) _ _ (by simp;omega),ed,lowDigs,e2,List.append_assoc];rfl
theorem valU_take (a:List UInt64) (i:Nat) (h:i<a.length):valU (a.take (i+1))=valU (a.take i)+100000000 ^ i * (a.getD i 0).toNat:=by
 induction a generalizing i with
 | nil=>simp at h
 | cons c r ih =>
  cases i with
  | zero=>simp [valU]
  | succ i =>
   rw [List.length_cons] at h
   rw [List.take_succ_cons,valU,ih i (by omega),List.take_succ_cons,valU,List.getD_cons_succ,Nat.pow_succ,Nat.mul_add]
   have:100000000 * (100000000 ^ i * (r.getD i 0).toNat)=100000000 ^ i * 100000000 * (r.getD i 0).toNat:=by rw [←Nat.mul_assoc,Nat.mul_comm 100000000 (100000000 ^ i)]
   omega
theorem ten8 (i:Nat):(10:Nat) ^ (8 * i)=100000000 ^ i:=by rw [Nat.pow_mul]
def exRes (e:Int) (N:Nat):OT:=some [.s (Nr.rstrip (Nr.dec N)),.i .i64 ((Nr.dec N).length+min e 0)]
theorem rstrip_rev_dec {s:Str} (hd:s.all Nr.isDig=true) (h0:0<Nr.num s.reverse):(Nr.rstrip s).reverse=Nr.dec (Nr.num s.reverse):=by
 obtain ⟨t,h1,h2⟩:=Nr.rstrip_split s
 have hd2:=(Nr.all_append_of hd h1).1
 have hn:Nr.num s.reverse=Nr.num (Nr.rstrip s).reverse:=by
  have:=congrArg (fun l:Str=>Nr.num l.reverse) h1
  simp only [List.reverse_append,List.reverse_replicate] at this
  rw [Nr.num_append,Nr.num_zeros,Nat.zero_mul,Nat.zero_add] at this
  exact this
 rw [hn]
 have hne:Nr.rstrip s≠[]:=by
  intro e;rw [hn,e] at h0;simp [Nr.num] at h0
 refine Nr.dec_unique _ _ rfl (by rw [List.all_reverse];exact hd2) (by simpa using hne) ?_
 have h3:=h2.resolve_left hne
 intro hc
 rcases Nr.snoc_cases (Nr.rstrip s) with h | ⟨a,c,h⟩
 ·exact hne h
 ·rw [h] at h3 hc
  rw [List.reverse_append,List.reverse_singleton] at hc
  have:c=48:=hc
  subst this
  simp at h3
theorem r9_Exact.l6_ok (e:Int) (he : -2000≤e∧e≤2000) (a:List UInt64) (N:Nat) (hN:0<N) (h:ExOK a N 0):∀(k i:Nat) (out:Str),i+k=a.length→out.length=8 * i→out.all Nr.isDig=true→Nr.num out.reverse=valU (a.take i)→r9_Exact.l6 e out i a=exRes e N:=by
 intro k
 induction k with
 | zero =>
  intro i out hi hl hd hv
  refine r9_Exact.l6_in _ _ _ _ ?_
  intro v1 h1
  have hla:=h.l
  rw [List.take_of_length_le (by omega),h.v] at hv
  have hr:=rstrip_rev_dec hd (by rw [hv];exact hN)
  rw [hv] at hr
  rw [decide_eq_false (by omega),cond_false,r9_Exact.l8_ok e he out.length out rfl (by omega),hr]
  unfold exRes
  have:(Nr.rstrip out).length=(Nr.dec N).length:=by rw [←hr,List.length_reverse]
  rw [this]
 | succ k ih =>
  intro i out hi hl hd hv
  have hla:=h.l
  refine r9_Exact.l6_in _ _ _ _ ?_
  intro v1 h1
  rw [Int.toNat_natCast] at h1
  rw [decide_eq_true (by omega),cond_true,ck_of (idx_ok (by omega) (by omega)),ck_of (decide_eq_true (by omega))]
  obtain ⟨d1,d2,d3⟩:=lowDigs_ok 8 v1.toNat
  have hv1:v1.toNat<100000000:=by
   have:=List.all_eq_true.1 h.s (a.getD i 0) (by
    rw [List.getD_eq_getElem?_getD,List.getElem?_eq_getElem (by omega)];exact List.getElem_mem _)
   rw [h1];exact of_decide_eq_true this
  refine Eq.trans (r9_Exact.l7_ok e i a (by omega) 8 0 (by omega) out v1 (by omega)) ?_
  refine ih (i+1) _ (by omega) (by rw [List.length_append,d1];omega) (by rw [List.all_append,hd,d2];rfl) ?_
  rw [num_rev_append,d3,hv,hl,ten8,valU_take a i (by omega),←h1,Nat.mod_eq_of_lt (show v1.toNat<10 ^ 8 from hv1)]
theorem r9_Exact.l5_ok (e:Int) (he : -2000≤e∧e≤2000):∀(r j:Nat) (a:List UInt64) (N:Nat),(e<0→e=-(j:Int) - r)→(0≤e→r=0∧j=0)→0<N→ExOK a N r→r9_Exact.l5 e (-(j:Int)) a=exRes e (N * 5 ^ r):=by
 intro r
 induction r with
 | zero =>
  intro j a N h1 h2 hN h
  refine r9_Exact.l5_in _ _ _ ?_
  intro v1 g1 v2 g2
  rw [decide_eq_false (by omega),cond_false,Nat.pow_zero,Nat.mul_one]
  exact r9_Exact.l6_ok e he a N hN h a.length 0 [] (by omega) rfl rfl rfl
 | succ r ih =>
  intro j a N h1 h2 hN h
  refine r9_Exact.l5_in _ _ _ ?_
  intro v1 g1 v2 g2
  have hneg:e<0:=by
   by_cases c:e<0
   ·exact c
   ·have:=h2 (by omega);omega
  have e2:v2=-((j+1:Nat):Int):=by rw [g2,i64_in _ (by have:=h1 hneg;omega)];omega
  have e1:v1=Nr.times a 5 0:=g1
  rw [decide_eq_true (by have:=h1 hneg;omega),cond_true,ck_of (h.pre 5 (by decide)),e1,e2]
  rw [ih (j+1) _ (N * 5) (fun hn=>by have:=h1 hneg;omega) (fun hn=>by omega) (by omega) (h.times 5 (by decide)),Nat.pow_succ,Nat.mul_assoc,Nat.mul_comm 5]
theorem r9_Exact.l4_ok (e:Int) (he : -2000≤e∧e≤2000):∀(t j r:Nat) (a:List UInt64) (N:Nat),r<10→(e<0→e=-(j:Int) - 10 * t - r)→(0≤e→t=0∧r=0∧j=0)→0<N→ExOK a N (t+10)→r9_Exact.l4 e (-(j:Int)) a=exRes e (N * 5 ^ (10 * t+r)):=by
 intro t
 induction t with
 | zero =>
  intro j r a N hr h1 h2 hN h
  refine r9_Exact.l4_in _ _ _ ?_
  intro v1 g1 v2 g2
  have e1:v1=-(j:Int) - 10:=by
   rw [g1,i64_in _ (by by_cases c:e<0;(have:=h1 c;omega);(have:=h2 (by omega);omega))]
  rw [e1,decide_eq_false (by by_cases c:e<0;(have:=h1 c;omega);(have:=h2 (by omega);omega)),cond_false,r9_Exact.l5_ok e he r j a N (fun c=>by have:=h1 c;omega) (fun c=>by have:=h2 c;omega) hN (h.le (by omega)),Nat.mul_zero,Nat.zero_add]
 | succ t ih =>
  intro j r a N hr h1 h2 hN h
  refine r9_Exact.l4_in _ _ _ ?_
  intro v1 g1 v2 g2
  have hneg:e<0:=by
   by_cases c:e<0
   ·exact c
   ·have:=h2 (by omega);omega
  have e1:v1=-((j+10:Nat):Int):=by rw [g1,i64_in _ (by have:=h1 hneg;omega)];omega
  have e2:v2=Nr.times a 9765625 0:=g2
  rw [e1,decide_eq_true (by have:=h1 hneg;omega),cond_true,ck_of (h.pre 9765625 (by decide)),e2]
  have hm:ExOK (Nr.times a 9765625 0) (N * 9765625) (t+10):=ExOK.times (b:=t+10) (h.le (by omega)) 9765625 (by decide)
  rw [ih (j+10) r _ (N * 9765625) hr (fun c=>by have:=h1 c;omega) (fun c=>by omega) (by omega) hm]
  have e5:(9765625:Nat)=5 ^ 10:=by decide
  rw [e5,Nat.mul_assoc,←Nat.pow_add,show 10+(10 * t+r)=10 * (t+1)+r by omega]
theorem r9_Exact.l4_all (e:Int) (he : -1075≤e∧e≤971) (a:List UInt64) (N:Nat) (hN:0<N) (h:ExOK a N 130):r9_Exact.l4 e 0 a=exRes e (N * 5 ^ (-e).toNat):=by
 have:=r9_Exact.l4_ok e (by omega) ((-e).toNat / 10) 0 ((-e).toNat % 10) a N (by omega) (fun c=>by omega) (fun c=>by omega) hN (h.le (by omega))
 rw [show 10 * ((-e).toNat / 10)+(-e).toNat % 10=(-e).toNat by omega] at this
 exact this
theorem r9_Exact.l3_ok (e:Int) (he : -1075≤e∧e≤971):∀(r k:Nat) (a:List UInt64) (N:Nat),(0≤e→e=(k:Int)+r)→(e<0→r=0∧k=0)→0<N→ExOK a N (r+130)→r9_Exact.l3 e k a=exRes e (N * 2 ^ r * 5 ^ (-e).toNat):=by
 intro r
 induction r with
 | zero =>
  intro k a N h1 h2 hN h
  refine r9_Exact.l3_in _ _ _ ?_
  intro v1 g1 v2 g2
  rw [decide_eq_false (by by_cases c:e<0;(have:=h2 c;omega);(have:=h1 (by omega);omega)),cond_false,Nat.pow_zero,Nat.mul_one]
  exact r9_Exact.l4_all e he a N hN (h.le (by omega))
 | succ r ih =>
  intro k a N h1 h2 hN h
  refine r9_Exact.l3_in _ _ _ ?_
  intro v1 g1 v2 g2
  have hpos:0≤e:=by
   by_cases c:e<0
   ·have:=h2 c;omega
   ·omega
  have e2:v2=((k+1:Nat):Int):=by rw [g2,i64_in _ (by have:=h1 hpos;omega)];omega
  have e1:v1=Nr.times a 2 0:=g1
  have hm:ExOK (Nr.times a 2 0) (N * 2) (r+130):=ExOK.times (b:=r+130) (h.le (by omega)) 2 (by decide)
  rw [decide_eq_true (by have:=h1 hpos;omega),cond_true,ck_of (h.pre 2 (by decide)),e1,e2,ih (k+1) _ (N * 2) (fun c=>by have:=h1 c;omega) (fun c=>by omega) (by omega) hm,Nat.pow_succ,Nat.mul_assoc N,Nat.mul_comm 2]
theorem r9_Exact.l2_ok (e:Int) (he : -1075≤e∧e≤971):∀(t k r:Nat) (a:List UInt64) (N:Nat),r<20→(0≤e→e=(k:Int)+20 * t+r)→(e<0→t=0∧r=0∧k=0)→0<N→ExOK a N (t+150)→r9_Exact.l2 e k a=exRes e (N * 2 ^ (20 * t+r) * 5 ^ (-e).toNat):=by
 intro t
 induction t with
 | zero =>
  intro k r a N hr h1 h2 hN h
  refine r9_Exact.l2_in _ _ _ ?_
  intro v1 g1 v2 g2
  have e1:v1=(k:Int)+20:=by
   rw [g1,i64_in _ (by by_cases c:e<0;(have:=h2 c;omega);(have:=h1 (by omega);omega))]
  rw [e1,decide_eq_false (by by_cases c:e<0;(have:=h2 c;omega);(have:=h1 (by omega);omega)),cond_false,r9_Exact.l3_ok e he r k a N (fun c=>by have:=h1 c;omega) (fun c=>by have:=h2 c;omega) hN (h.le (by omega)),Nat.mul_zero,Nat.zero_add]
 | succ t ih =>
  intro k r a N hr h1 h2 hN h
  refine r9_Exact.l2_in _ _ _ ?_
  intro v1 g1 v2 g2
  have hpos:0≤e:=by
   by_cases c:e<0
   ·have:=h2 c;omega
   ·omega
  have e1:v1=((k+20:Nat):Int):=by rw [g1,i64_in _ (by have:=h1 hpos;omega)];omega
  have e2:v2=Nr.times a 1048576 0:=g2
  have hm:ExOK (Nr.times a 1048576 0) (N * 1048576) (t+150):=ExOK.times (b:=t+150) (h.le (by omega)) 1048576 (by decide)
  rw [e1,decide_eq_true (by have:=h1 hpos;omega),cond_true,ck_of (h.pre 1048576 (by decide)),e2,ih (k+20) r _ (N * 1048576) hr (fun c=>by have:=h1 c;omega) (fun c=>by omega) (by omega) hm]
  have e5:(1048576:Nat)=2 ^ 20:=by decide
  rw [e5,Nat.mul_assoc N,←Nat.pow_add,show 20+(20 * t+r)=20 * (t+1)+r by omega]
theorem valU_snoc0 (a:List UInt64) (c:UInt64):valU (a++[c])=valU a+100000000 ^ a.length * c.toNat:=by
 have:=valU_take (a++[c]) a.length (by simp)
 rw [List.take_left,List.take_of_length_le (by simp),getD_snoc] at this
 exact this
theorem r9_Exact.l1_ok (e:Int) (he : -1075≤e∧e≤971) (N:Nat) (hN:0<N):∀(n:Nat) (a:List UInt64),a.length=n→ExOK a N 300→r9_Exact.l1 e a=exRes e (N * 2 ^ e.toNat * 5 ^ (-e).toNat):=by
 intro n
 induction n with
 | zero=>intro a ha h;exact (h.n (List.length_eq_zero_iff.1 ha)).elim
 | succ n ih =>
  intro a ha h
  have hl:=h.l
  refine r9_Exact.l1_in _ _ ?_
  intro v1 h1 v2 h2 v3 h3
  have next:r9_Exact.l2 e 0 a=exRes e (N * 2 ^ e.toNat * 5 ^ (-e).toNat):=by
   have:=r9_Exact.l2_ok e he (e.toNat / 20) 0 (e.toNat % 20) a N (by omega) (fun c=>by omega) (fun c=>by omega) hN (h.le (by omega))
   rw [show 20 * (e.toNat / 20)+e.toNat % 20=e.toNat by omega] at this
   exact this
  have hcc:∀b:Bool,(!b || b)=true:=by decide
  by_cases c:1<a.length
  ·have ht:decide ((1:Int)<(a.length:Int))=true:=decide_eq_true (by omega)
   have e1:v1=((a.length - 1:Nat):Int):=by rw [h1,i64_in _ (by omega)];omega
   have hx:idxOK v1 a.length=true:=by rw [e1];exact idx_ok (by omega) (by omega)
   rw [ht,cond_true] at h3
   rw [ht,hx,decide_eq_true (show v1.toNat<a.length by omega),ck_of (by rfl),ck_of (by rfl),ck_of (by rfl),ck_of (by rfl),ck_of (by rfl),ck_of (by rfl),h3]
   by_cases c2:v2=0
   ·rw [decide_eq_true c2,cond_true,e1,ck_of (cut_ok (by omega) (by omega) (by omega)),Int.toNat_natCast]
    have hsp:a=a.take (a.length - 1)++[0]:=by
     have:=take_drop_last a v2 (by omega) (by rw [h2,e1,Int.toNat_natCast])
     rw [c2] at this;exact this
    refine ih _ (by rw [List.length_take];omega) ⟨?_,?_,by rw [List.length_take];omega,?_⟩
    ·have:=congrArg valU hsp
     rw [valU_snoc0,h.v] at this
     rw [this];simp
    ·have hs:=h.s
     unfold smU at hs ⊢
     exact List.all_eq_true.2 fun x hx=>List.all_eq_true.1 hs x (List.mem_of_mem_take hx)
    ·intro e0
     have:=congrArg List.length e0
     rw [List.length_take] at this;simp at this;omega
   ·rw [decide_eq_false c2,cond_false];exact next
  ·have ht:decide ((1:Int)<(a.length:Int))=false:=decide_eq_false (by omega)
   rw [ht] at h3
   have e3:v3=false:=h3
   rw [ht,e3];exact next
where
 take_drop_last (a:List UInt64) (v:UInt64) (h:0<a.length) (hv:v=a.getD (a.length - 1) 0):a=a.take (a.length - 1)++[v]:=by
  have:=(List.take_append_drop (a.length - 1) a).symm
  rw [drop_cons (show a.length - 1<a.length by omega) 0,←hv,List.drop_of_length_le (by omega)] at this
  exact this
theorem r9_Exact.goal (m:UInt64) (e:Int) (hp:decide (1≤m.toNat∧m.toNat<2 ^ 55∧-1075≤e∧e≤971)=true):r9_Exact.F m e=some [.s (Nr.exD m.toNat e),.i .i64 (Nr.exX m.toNat e)]:=by
 obtain ⟨p1,p2,p3,p4⟩:=of_decide_eq_true hp
 have p2:m.toNat<36028797018963968:=p2
 refine r9_Exact.F_in _ _ ?_
 intro v1 h1 v2 h2 v3 h3
 have e0:(m % 100000000).toNat=m.toNat % 100000000:=UInt64.toNat_mod ..
 have e1:v1.toNat=m.toNat / 100000000 % 100000000:=by rw [h1,UInt64.toNat_mod,UInt64.toNat_div];rfl
 have e2:v2.toNat=m.toNat / 10000000000000000:=by rw [h2,UInt64.toNat_div];rfl
 rw [ck_of (by rfl),ck_of (by rfl),ck_of (by rfl),ck_of (by rfl)]
 refine r9_Exact.l1_ok e ⟨p3,p4⟩ m.toNat (by omega) 3 v3 (by rw [h3];rfl) ⟨?_,?_,by rw [h3];simp,by rw [h3];simp⟩
 ·rw [h3];simp only [valU];rw [e0,e1,e2];omega
 ·rw [h3];unfold smU
  simp only [List.all_cons,List.all_nil,Bool.and_true,Bool.and_eq_true,decide_eq_true_eq]
  rw [e0,e1,e2]
  omega
end Go.Eng
namespace Go.Eng
open Go.IntWalk
namespace Nr
def Fin0 (d:Str):Prop:=d.all isDig=true∧(d=[]∨d.getLast?≠some 48)
theorem Fin0.tail {c:UInt8} {r:Str} (h:Fin0 (c :: r)):isDig c=true∧Fin0 r:=by
 obtain ⟨h1,h2⟩:=h
 rw [List.all_cons,Bool.and_eq_true] at h1
 refine ⟨h1.1,h1.2,?_⟩
 cases r with
 | nil=>exact .inl rfl
 | cons d r =>
  refine .inr ?_
  have:=h2.resolve_left (by simp)
  rw [List.getLast?_cons_cons] at this
  exact this
theorem fin0_pos:∀{d:Str},Fin0 d→d≠[]→0<num d:=by
 intro d h h0
 rcases snoc_cases d with e | ⟨a,c,e⟩
 ·exact (h0 e).elim
 ·subst e
  have h2:=h.2.resolve_left h0
  have hc:c≠48:=fun e=>h2 (by rw [e];simp)
  have hd:=isDig_iff.1 (List.all_eq_true.1 h.1 c (by simp))
  rw [num_snoc]
  have:c.toNat≠48:=fun e=>hc (UInt8.toNat_inj.1 e)
  omega
theorem lex_ok:∀(a b:Str) (p q:Nat),Fin0 a→Fin0 b→a.length+p=b.length+q →
  (Op.bytesLess a b=true ↔ num a * 10 ^ p<num b * 10 ^ q)∧(a=b ↔ num a * 10 ^ p=num b * 10 ^ q)
 | [],[],p,q,_,_,_=>by simp [Op.bytesLess,num]
 | [],d :: r,p,q,_,hb,_=>by
  have:=Nat.mul_pos (fin0_pos hb (by simp)) (ten_pos q)
  rw [show num ([]:Str)=0 from rfl,Nat.zero_mul]
  refine ⟨⟨fun _=>this,fun _=>rfl⟩,⟨fun h=>by simp at h,fun h=>by omega⟩⟩
 | c :: r,[],p,q,ha,_,_=>by
  have:=Nat.mul_pos (fin0_pos ha (by simp)) (ten_pos p)
  rw [show num ([]:Str)=0 from rfl,Nat.zero_mul]
  refine ⟨⟨fun h=>by simp [Op.bytesLess] at h,fun h=>by omega⟩,⟨fun h=>by simp at h,fun h=>by omega⟩⟩
 | c :: a,d :: b,p,q,ha,hb,h=>by
  obtain ⟨hc,ha2⟩:=ha.tail
  obtain ⟨hd,hb2⟩:=hb.tail
  rw [List.length_cons,List.length_cons] at h
  obtain ⟨i1,i2⟩:=lex_ok a b p q ha2 hb2 (by omega)
  have na:=num_lt a ha2.1
  have nb:=num_lt b hb2.1
  have ea:num (c :: a) * 10 ^ p=(c.toNat - 48) * 10 ^ (a.length+p)+num a * 10 ^ p:=by
   rw [num_cons,Nat.add_mul,Nat.mul_assoc,←Nat.pow_add]
  have eb:num (d :: b) * 10 ^ q=(d.toNat - 48) * 10 ^ (a.length+p)+num b * 10 ^ q:=by
   rw [num_cons,Nat.add_mul,Nat.mul_assoc,←Nat.pow_add,show b.length+q=a.length+p by omega]
  have la:num a * 10 ^ p<10 ^ (a.length+p):=by
   rw [Nat.pow_add];exact Nat.mul_lt_mul_of_pos_right na (ten_pos p)
  have lb:num b * 10 ^ q<10 ^ (a.length+p):=by
   rw [show a.length+p=b.length+q by omega,Nat.pow_add];exact Nat.mul_lt_mul_of_pos_right nb (ten_pos q)
  have hc:=isDig_iff.1 hc
  have hd:=isDig_iff.1 hd
  rw [ea,eb]
  generalize 10 ^ (a.length+p)=T at la lb
  generalize num a * 10 ^ p=x at *
  generalize num b * 10 ^ q=y at *
  have cd:c=d ↔ c.toNat=d.toNat:=UInt8.toNat_inj.symm
  rw [Op.bytesLess]
  rcases Nat.lt_trichotomy c.toNat d.toNat with k | k | k
  ·have hlt:decide (c<d)=true:=decide_eq_true (UInt8.lt_iff_toNat_lt.2 k)
   have hne:c≠d:=fun e=>by rw [e] at k;omega
   have hm:(c.toNat - 48+1) * T≤(d.toNat - 48) * T:=Nat.mul_le_mul_right T (by omega)
   rw [Nat.add_mul,Nat.one_mul] at hm
   refine ⟨⟨fun _=>by omega,fun _=>by rw [hlt];rfl⟩,⟨fun e=>?_,fun e=>by omega⟩⟩
   injection e with e1 e2;exact (hne e1).elim
  ·have e:=cd.2 k
   subst e
   have hlt:decide (c<c)=false:=decide_eq_false (by rw [UInt8.lt_iff_toNat_lt];omega)
   rw [hlt,Bool.false_or,beq_self_eq_true,Bool.true_and]
   refine ⟨by rw [i1];omega,?_⟩
   rw [List.cons.injEq]
   constructor
   ·intro h;have:=i2.1 h.2;omega
   ·intro h;exact ⟨rfl,i2.2 (by omega)⟩
  ·have hlt:decide (c<d)=false:=decide_eq_false (by rw [UInt8.lt_iff_toNat_lt];omega)
   have hne:c≠d:=fun e=>by rw [e] at k;omega
   have hm:(d.toNat - 48+1) * T≤(c.toNat - 48) * T:=Nat.mul_le_mul_right T (by omega)
   rw [Nat.add_mul,Nat.one_mul] at hm
   refine ⟨⟨fun h=>?_,fun h=>by omega⟩,⟨fun e=>?_,fun e=>by omega⟩⟩
   ·rw [hlt,beq_false_of_ne hne] at h;exact (Bool.false_ne_true h).elim
   ·injection e with e1 e2;exact (hne e1).elim
structure Cano (d:Str):Prop where
 f:Fin0 d
 n:d≠[]
 h:d.getD 0 0≠48
theorem Cano.lo {d:Str} (h:Cano d) (p:Nat):10 ^ (d.length+p - 1)≤num d * 10 ^ p:=by
 have h1:=num_ge h.f.1 h.n h.h
 have:=List.length_pos_iff.2 h.n
 rw [show d.length+p - 1=d.length - 1+p by omega,Nat.pow_add]
 exact Nat.mul_le_mul_right _ h1
theorem Cano.hi {d:Str} (h:Cano d) (p:Nat):num d * 10 ^ p<10 ^ (d.length+p):=by
 rw [Nat.pow_add];exact Nat.mul_lt_mul_of_pos_right (num_lt d h.f.1) (ten_pos p)
theorem cmpDec_ok {a b:Str} {x y:Int} (p q:Nat) (ha:Cano a) (hb:Cano b) (h:x - y=((a.length+p:Nat):Int) - ((b.length+q:Nat):Int)) :
  cmpDec a x b y=Nt.cmp (num a * 10 ^ p) (num b * 10 ^ q):=by
 have a1:=ha.lo p
 have a2:=ha.hi p
 have b1:=hb.lo q
 have b2:=hb.hi q
 have la:=List.length_pos_iff.2 ha.n
 have lb:=List.length_pos_iff.2 hb.n
 unfold cmpDec Nt.cmp
 rcases Int.lt_trichotomy x y with k | k | k
 ·have:=ten_le (show a.length+p≤b.length+q - 1 by omega)
  rw [decide_eq_true k,Bool.true_or,if_pos rfl,if_pos (by omega)]
 ·obtain ⟨i1,i2⟩:=lex_ok a b p q ha.f hb.f (by omega)
  rw [decide_eq_false (show ¬x<y by omega),decide_eq_true k,Bool.false_or,Bool.true_and]
  by_cases c:Op.bytesLess a b=true
  ·rw [if_pos c,if_pos (i1.1 c)]
  ·rw [if_neg c,if_neg (fun h=>c (i1.2 h))]
   by_cases c2:a=b
   ·rw [decide_eq_true c2,if_pos (by rfl),if_pos (i2.1 c2)]
   ·rw [decide_eq_false c2,if_neg (by decide),if_neg (fun h=>c2 (i2.2 h))]
 ·have:=ten_le (show b.length+q≤a.length+p - 1 by omega)
  rw [decide_eq_false (show ¬x<y by omega),decide_eq_false (show ¬x=y by omega),if_neg (by simp),if_neg (by simp),if_neg (by omega),if_neg (by omega)]
theorem cmp_scale {a b c:Nat} (hc:0<c):Nt.cmp (a * c) (b * c)=Nt.cmp a b:=by
 unfold Nt.cmp
 have h1:a * c<b * c ↔ a<b:=Nat.mul_lt_mul_right hc
 have h2:a * c=b * c ↔ a=b:=⟨fun h=>Nat.eq_of_mul_eq_mul_right hc h,fun h=>by rw [h]⟩
 simp only [h1,h2]
theorem exN_pos {m:Nat} (h:0<m) (e:Int):0<exN m e:=Nat.mul_pos (Nat.mul_pos h (Nat.two_pow_pos _)) (Nat.pow_pos (by omega))
theorem ex_can {m:Nat} (h:0<m) (e:Int):Cano (exD m e)∧∃t,num (exD m e) * 10 ^ t=exN m e∧exX m e=((exD m e).length+t:Nat)+min e 0:=by
 obtain ⟨d1,d2,d3,d4⟩:=dec_ok (exN m e)
 obtain ⟨t,t1,t2⟩:=rstrip_split (dec (exN m e))
 have hp:=exN_pos h e
 have hn:=congrArg num t1
 rw [num_append,num_zeros,List.length_replicate,Nat.add_zero,d2] at hn
 have hl:=congrArg List.length t1
 rw [List.length_append,List.length_replicate] at hl
 have ne:rstrip (dec (exN m e))≠[]:=by
  intro e0;rw [e0,show num []=0 from rfl,Nat.zero_mul] at hn;omega
 refine ⟨⟨⟨(all_append_of d1 t1).1,t2⟩,ne,?_⟩,t,hn.symm,?_⟩
 ·have:=d4 hp
  rw [t1,List.getD_eq_getElem?_getD,List.getElem?_append_left (List.length_pos_iff.2 ne),←List.getD_eq_getElem?_getD] at this
  exact this
 ·unfold exX;rw [hl];rfl
def nA (d:Str) (x:Int):Nat:=num d * 10 ^ (x - d.length).toNat
def nB (d:Str) (x:Int):Nat:=10 ^ (-(x - d.length)).toNat
theorem nB_pos (d:Str) (x:Int):0<nB d x:=ten_pos _
theorem exN_scale (m:Nat) (e:Int) (he : -1075≤e) (j:Nat):exN m e * 10 ^ (min e 0+1075+j).toNat=m * 2 ^ (e+1075).toNat * 10 ^ j * 5 ^ 1075:=by
 have t5:∀k:Nat,(10:Nat) ^ k=2 ^ k * 5 ^ k:=fun k=>by rw [←Nat.mul_pow]
 unfold exN
 by_cases c:0≤e
 ·rw [show (min e 0+1075+j).toNat=1075+j by omega,show (-e).toNat=0 by omega,show (e+1075).toNat=e.toNat+1075 by omega,Nat.pow_add 10,t5 1075,Nat.pow_add 2,Nat.pow_zero,Nat.mul_one]
  simp only [Nat.mul_assoc,Nat.mul_comm,Nat.mul_left_comm]
 ·rw [show (min e 0+1075+j).toNat=(e+1075).toNat+j by omega,show e.toNat=0 by omega,Nat.pow_add 10,t5 (e+1075).toNat,Nat.pow_zero,Nat.mul_one]
  have:(5:Nat) ^ 1075=5 ^ (-e).toNat * 5 ^ (e+1075).toNat:=by
   rw [←Nat.pow_add];congr 1;omega
  rw [this]
  simp only [Nat.mul_assoc,Nat.mul_comm,Nat.mul_left_comm]
theorem ten_parts {N a k K M:Nat} {U:Nat} (hU:U=2 * 2 ^ K) (hM:M=K+1) (h:k=a+(K+1)):N * 10 ^ k=N * 10 ^ a * U * 5 ^ M:=by
 rw [hM,h,hU,Nat.pow_add 10,Nat.mul_assoc (N * _),←Nat.mul_assoc N,show 2 * 2 ^ K=2 ^ (K+1) by rw [Nat.pow_succ,Nat.mul_comm],←Nat.mul_pow]
theorem five_pos (k:Nat):0<5 ^ k:=Nat.pow_pos (by omega)
theorem nA_scale (d:Str) (x:Int):num d * 10 ^ (x - d.length+1075+(-(x - d.length)).toNat).toNat=nA d x * two1075 * 5 ^ 1075:=by
 unfold nA
 exact ten_parts (M:=1075) (K:=1074) two1075_eq (by decide) (by omega)
theorem cmp_ex {m:Nat} {e:Int} (h:0<m) (he : -1075≤e) {d:Str} (hd:Cano d) (x:Int) :
  cmpDec (exD m e) (exX m e) d x=Nt.cmp (m * 2 ^ (e+1075).toNat * nB d x) (nA d x * two1075) ∧
  cmpDec d x (exD m e) (exX m e)=Nt.cmp (nA d x * two1075) (m * 2 ^ (e+1075).toNat * nB d x):=by
 obtain ⟨hc,t,t1,t2⟩:=ex_can h e
 have hp:0<(5:Nat) ^ 1075:=five_pos 1075
 have s1:=exN_scale m e he (-(x - d.length)).toNat
 have s2:=nA_scale d x
 have e1:num (exD m e) * 10 ^ (t+(min e 0+1075+(-(x - d.length)).toNat).toNat)=m * 2 ^ (e+1075).toNat * nB d x * 5 ^ 1075:=by
  rw [Nat.pow_add,←Nat.mul_assoc,t1,s1];rfl
 constructor
 ·rw [cmpDec_ok (t+(min e 0+1075+(-(x - d.length)).toNat).toNat) (x - d.length+1075+(-(x - d.length)).toNat).toNat hc hd (by omega),e1,s2,cmp_scale hp]
 ·rw [cmpDec_ok (x - d.length+1075+(-(x - d.length)).toNat).toNat (t+(min e 0+1075+(-(x - d.length)).toNat).toNat) hd hc (by omega),e1,s2,cmp_scale hp]
end Nr
end Go.Eng
namespace Go.Eng
open Go.IntWalk
theorem dec_t {p:Prop} {i:Decidable p} (h:p):true=@decide p i:=(decide_eq_true h).symm
theorem dec_f {p:Prop} {i:Decidable p} (h:¬p):false=@decide p i:=(decide_eq_false h).symm
namespace Nr
theorem split_pos {u:UInt64} (h0:0<u.toNat) (h1:u.toNat≤top):(split u).2.2.1.toNat=man u.toNat∧(split u).2.2.2=(sh u.toNat:Int) - 1074:=by
 unfold top at h1
 have hm:u.toNat / 4503599627370496 % 2048=u.toNat / 4503599627370496:=Nat.mod_eq_of_lt (by omega)
 unfold split man sh
 simp only [hm]
 rw [if_neg (show ¬u.toNat / 4503599627370496=2047 by omega)]
 by_cases c:u.toNat<4503599627370496
 ·rw [if_pos (show u.toNat / 4503599627370496=0 by omega),if_neg (show ¬u.toNat % 4503599627370496=0 by omega),if_pos c]
  refine ⟨?_,by show (-1074:Int)=_;omega⟩
  show (UInt64.ofNat _).toNat=_
  rw [u64_of];omega
 ·rw [if_neg (show ¬u.toNat / 4503599627370496=0 by omega),if_neg c]
  refine ⟨?_,?_⟩
  ·show (UInt64.ofNat _).toNat=_
   rw [u64_of];omega
  ·show ((u.toNat / 4503599627370496:Nat):Int) - 1075=_
   omega
theorem split_zero:(split 0).2.2.1.toNat=0:=by rfl
theorem near_fin {a b p:Nat} (hb:0<b) (h1:V p * b≤a * 2 ^ 1074) (h2:p=top∨a * 2 ^ 1074<V (p+1) * b) (hp:p≤top) [Decidable (Above a b p)] :
  near a b=if Above a b p then (if p+1≤top then some (p+1) else none) else some p:=by
 rcases h2 with h2 | h2
 ·subst h2
  split
  ·rename_i h
   rw [if_neg (by omega)];exact near_none hb h
  ·rename_i h
   refine near_some hb hp h (.inr (.inl ?_))
   rw [two1075_eq,mid_eq,Nat.add_mul,show top - 1+1=top by unfold top;omega]
   have:=Nat.mul_lt_mul_of_pos_right (V_lt (show top - 1<top by unfold top;omega)) hb
   generalize (2:Nat) ^ 1074=T at *
   rw [Nat.mul_left_comm]
   omega
 ·exact near_of hb h1 h2 hp
noncomputable def res (A B:Nat):OT:=some [.u64 (pat (near A B)),.b (near A B).isSome]
end Nr
open Nr (Cano nA nB V top man sh)
theorem r9_Read.j6_ok (u:UInt64):r9_Read.j6 u=if u.toNat≤top then some [.u64 u,.b true] else some [.u64 0,.b false]:=by
 rw [r9_Read.j6_eq]
 by_cases c:u.toNat≤top
 ·rw [if_pos c,decide_eq_false]
  ·rfl
  ·rw [UInt64.lt_iff_toNat_lt];show ¬9218868437227405311<u.toNat;unfold top at c;omega
 ·rw [if_neg c,decide_eq_true]
  ·rfl
  ·rw [UInt64.lt_iff_toNat_lt];show 9218868437227405311<u.toNat;unfold top at c;omega
theorem r9_Read.j5_ok (s:Str) (x:Int) (hs:Cano s) (u m:UInt64) (e:Int) (hm:m.toNat=man u.toNat) (he:e=(sh u.toNat:Int) - 1074) (hu:u.toNat≤top)
  (h1:V u.toNat * nB s x≤nA s x * 2 ^ 1074) (h2:u.toNat=top∨nA s x * 2 ^ 1074<V (u.toNat+1) * nB s x):r9_Read.j5 s x u m e=Nr.res (nA s x) (nB s x):=by
 classical
 have hml:=Nr.man_lt u.toNat
 have hsh:=Nr.sh_top hu
 refine r9_Read.j5_in _ _ _ _ _ ?_
 intro v1 g1 v2 g2 v3 g3 v4 g4 v5 g5 v6 g6
 have e1:v1.toNat=2 * man u.toNat+1:=by
  rw [g1,UInt64.toNat_add,UInt64.toNat_mul,hm]
  show (2 * man u.toNat % 18446744073709551616+1) % 18446744073709551616=_
  omega
 have e2:v2=(sh u.toNat:Int) - 1075:=by rw [g2,he,i64_in _ (by omega)];omega
 have e3:v3=Nt.cmp (nA s x * Nr.two1075) (Nr.mid u.toNat * nB s x):=by
  rw [g3,e1,e2,(Nr.cmp_ex (show 0<2 * man u.toNat+1 by omega) (by omega) hs x).2,show ((sh u.toNat:Int) - 1075+1075).toNat=sh u.toNat by omega];rfl
 have e6:v6=decide (Nr.Above (nA s x) (nB s x) u.toNat):=by
  rw [g6,g5]
  have ho:decide (u % 2=(1:UInt64))=decide (u.toNat % 2=1):=by
   refine decide_eq_decide.2 ⟨fun h=>?_,fun h=>UInt64.toNat_inj.1 ?_⟩
   ·have:=congrArg UInt64.toNat h
    rw [UInt64.toNat_mod] at this;exact this
   ·rw [UInt64.toNat_mod];exact h
  rw [ho,e3]
  unfold Nr.Above
  generalize nA s x * Nr.two1075=P
  generalize Nr.mid u.toNat * nB s x=Q
  rcases cmp_cases P Q with ⟨k,l⟩ | ⟨k,l⟩ | ⟨k,l⟩
  ·rw [k,decide_eq_false (show ¬(0:Int) < -1 by decide),decide_eq_false (show ¬(-1:Int)=0 by decide),cond_false,cond_false]
   exact dec_f (by rintro (h | h) <;> omega)
  ·rw [k,decide_eq_false (show ¬(0:Int)<0 by decide),decide_eq_true (show (0:Int)=0 by rfl),cond_false,cond_true]
   refine decide_eq_decide.2 ⟨fun h => .inr ⟨l.symm,h⟩,fun h=>?_⟩
   rcases h with h | h
   ·omega
   ·exact h.2
  ·rw [k,decide_eq_true (show (0:Int)<1 by decide),cond_true];exact dec_t (.inl l)
 have hcc:∀b:Bool,(!b || b)=true∧(b || !b)=true:=by decide
 have hq:(!v4 || (v4&&(!decide ((2:UInt64)=0))))=true:=by cases v4 <;> rfl
 have hr:(!(!(decide ((0:Int)<v3))) || ((!(decide ((0:Int)<v3)))&&(!(decide (v3=(0:Int))) || v4)))=true:=by
  rw [g4];cases decide ((0:Int)<v3) <;> cases decide (v3=(0:Int)) <;> rfl
 rw [ck_of (decide_eq_true (show 1≤v1.toNat∧v1.toNat<36028797018963968∧-1075≤v2∧v2≤971 by omega)),ck_of (hcc _).1,ck_of (hcc _).1,ck_of hq,ck_of (hcc _).1,ck_of hr,ck_of (hcc _).2,e6]
 unfold Nr.res
 rw [Nr.near_fin (Nr.nB_pos s x) h1 h2 hu]
 have ht:u.toNat≤9218868437227405311:=hu
 by_cases c:Nr.Above (nA s x) (nB s x) u.toNat
 ·have ea:(u+1).toNat=u.toNat+1:=by
   rw [UInt64.toNat_add];show (u.toNat+1) % 18446744073709551616=_;omega
  rw [decide_eq_true c,cond_true,if_pos c,r9_Read.j6_ok,ea]
  by_cases c2:u.toNat+1≤top
  ·rw [if_pos c2,if_pos c2]
   have:Nr.pat (some (u.toNat+1))=u+1:=UInt64.toNat_inj.1 (by rw [ea];show (UInt64.ofNat _).toNat=_;rw [u64_of];show (u.toNat+1) % _=_;omega)
   rw [this];rfl
  ·rw [if_neg c2,if_neg c2];rfl
 ·rw [decide_eq_false c,cond_false,if_neg c,r9_Read.j6_ok,if_pos hu]
  have:Nr.pat (some u.toNat)=u:=UInt64.toNat_inj.1 (by show (UInt64.ofNat _).toNat=_;rw [u64_of];show u.toNat % _=_;omega)
  rw [this];rfl
theorem cmp_two {a b c d U:Nat} (hU:U=2 * d) (h:a=b * 2):Nt.cmp a (c * U)=Nt.cmp b (c * d):=by
 rw [h,hU,Nat.mul_left_comm,Nat.mul_comm 2,Nr.cmp_scale (by omega)]
theorem r9_Read.l4_ok (s:Str) (x:Int) (hs:Cano s):∀(k:Nat) (lo hi:UInt64),hi.toNat - lo.toNat≤k→lo.toNat≤hi.toNat→hi.toNat≤top →
  V lo.toNat * nB s x≤nA s x * 2 ^ 1074→(hi.toNat=top∨nA s x * 2 ^ 1074<V (hi.toNat+1) * nB s x)→r9_Read.l4 s x lo hi=Nr.res (nA s x) (nB s x):=by
 intro k
 induction k with
 | zero =>
  intro lo hi h1 h2 h3 h4 h5
  exact fin lo hi (UInt64.toNat_inj.1 (by omega)) h3 h4 h5
 | succ k ih =>
  intro lo hi h1 h2 h3 h4 h5
  have ht:hi.toNat≤9218868437227405311:=h3
  by_cases c:lo=hi
  ·exact fin lo hi c h3 h4 h5
  ·have hlt:lo.toNat<hi.toNat:=by
    rcases Nat.lt_or_eq_of_le h2 with h | h
    ·exact h
    ·exact (c (UInt64.toNat_inj.1 h)).elim
   refine r9_Read.l4_in _ _ _ _ ?_
   intro v1 g1 v2 g2 v3 g3 v4 g4
   have e1:v1.toNat=(hi.toNat - lo.toNat+1) / 2:=by
    rw [g1,UInt64.toNat_div,UInt64.toNat_add,UInt64.toNat_sub_of_le _ _ (UInt64.le_iff_toNat_le.2 h2)]
    show (hi.toNat - lo.toNat+1) % 18446744073709551616 / 2=_
    rw [Nat.mod_eq_of_lt (by omega)]
   have ep:(lo+v1).toNat=lo.toNat+(hi.toNat - lo.toNat+1) / 2:=by
    rw [UInt64.toNat_add,e1];show _ % 18446744073709551616=_;omega
   have ep1:(lo+v1 - 1).toNat=(lo+v1).toNat - 1:=by
    rw [UInt64.toNat_sub_of_le]
    ·rfl
    ·rw [UInt64.le_iff_toNat_le,ep];show 1≤_;omega
   obtain ⟨p1,p2⟩:=Nr.split_pos (u:=lo+v1) (by omega) (by omega)
   have hml:=Nr.man_lt (lo+v1).toNat
   have hmp:0<man (lo+v1).toNat:=by
    unfold man;split <;> omega
   have hsh:=Nr.sh_top (p:=(lo+v1).toNat) (by omega)
   have e2:v2.toNat=man (lo+v1).toNat:=by rw [g2,p1]
   have e3:v3=(sh (lo+v1).toNat:Int) - 1074:=by rw [g3,p2]
   have e4:v4=Nt.cmp (V (lo+v1).toNat * nB s x) (nA s x * 2 ^ 1074):=by
    rw [g4,e2,e3,(Nr.cmp_ex hmp (by omega) hs x).1,show ((sh (lo+v1).toNat:Int) - 1074+1075).toNat=sh (lo+v1).toNat+1 by omega]
    have q1:man (lo+v1).toNat * 2 ^ (sh (lo+v1).toNat+1) * nB s x=V (lo+v1).toNat * nB s x * 2:=by
     unfold V
     rw [Nat.pow_succ]
     simp only [Nat.mul_assoc,Nat.mul_comm,Nat.mul_left_comm]
    exact cmp_two Nr.two1075_eq q1
   rw [decide_eq_true (UInt64.lt_iff_toNat_lt.2 hlt),cond_true,ck_of (by rfl),ck_of (decide_eq_true (show 1≤v2.toNat∧v2.toNat<36028797018963968∧-1075≤v3∧v3≤971 by omega)),e4]
   rcases cmp_cases (V (lo+v1).toNat * nB s x) (nA s x * 2 ^ 1074) with ⟨k1,l⟩ | ⟨k1,l⟩ | ⟨k1,l⟩
   ·rw [k1,decide_eq_true (show (-1:Int)≤0 by decide),cond_true]
    exact ih _ _ (by omega) (by omega) h3 (Nat.le_of_lt l) h5
   ·rw [k1,decide_eq_true (show (0:Int)≤0 by decide),cond_true]
    exact ih _ _ (by omega) (by omega) h3 (Nat.le_of_eq l) h5
   ·rw [k1,decide_eq_false (show ¬(1:Int)≤0 by decide),cond_false]
    refine ih _ _ (by omega) (by omega) (by omega) h4 (.inr ?_)
    rw [ep1,show (lo+v1).toNat - 1+1=(lo+v1).toNat by omega];exact l
where
 fin (lo hi:UInt64) (e:lo=hi) (h3:hi.toNat≤top) (h4:V lo.toNat * nB s x≤nA s x * 2 ^ 1074) (h5:hi.toNat=top∨nA s x * 2 ^ 1074<V (hi.toNat+1) * nB s x):r9_Read.l4 s x lo hi=Nr.res (nA s x) (nB s x):=by
  subst e
  refine r9_Read.l4_in _ _ _ _ ?_
  intro v1 g1 v2 g2 v3 g3 v4 g4
  rw [decide_eq_false (by rw [UInt64.lt_iff_toNat_lt];omega),cond_false]
  by_cases c:lo=0
  ·rw [decide_eq_true c,cond_true]
   refine r9_Read.j5_ok s x hs _ _ _ ?_ ?_ h3 h4 h5
   ·rw [c];exact Nr.split_zero
   ·rw [c];rfl
  ·have hp:0<lo.toNat:=by
    rcases Nat.eq_zero_or_pos lo.toNat with h | h
    ·exact (c (UInt64.toNat_inj.1 h)).elim
    ·exact h
   obtain ⟨p1,p2⟩:=Nr.split_pos hp h3
   rw [decide_eq_false c,cond_false]
   exact r9_Read.j5_ok s x hs _ _ _ p1 p2 h3 h4 h5
theorem r9_Read.l3_ok (x:Int):∀(n:Nat) (s:Str),s.length=n→n≤300→r9_Read.l3 s x =
  if Nr.rstrip s=[] then some [.u64 0,.b true] else if 400<x then some [.u64 0,.b false] else if x < -400 then some [.u64 0,.b true] else r9_Read.l4 (Nr.rstrip s) x 0 9218868437227405311:=by
 have hcc:∀b:Bool,(!b || b)=true:=by decide
 intro n
 induction n with
 | zero =>
  intro s hs _
  obtain rfl:=List.length_eq_zero_iff.1 hs
  refine r9_Read.l3_in _ _ ?_
  intro v1 h1 v2 h2 v3 h3
  have e3:v3=false:=h3
  rw [e3,ck_of (by rfl),ck_of (by rfl),ck_of (by rfl),ck_of (by rfl),ck_of (by rfl),cond_false,decide_eq_true (show ([]:Str)=[] by rfl),cond_true,if_pos (show Nr.rstrip []=[] by rfl)]
 | succ n ih =>
  intro s hs hn
  refine r9_Read.l3_in _ _ ?_
  intro v1 h1 v2 h2 v3 h3
  rcases Nr.snoc_cases s with h | ⟨a,c,rfl⟩
  ·rw [h] at hs;simp at hs
  ·rw [List.length_append,List.length_singleton] at hs
   have e1:v1=(a.length:Int):=by rw [h1,List.length_append,List.length_singleton,i64_in _ (by omega)];omega
   have e2:v2=c:=by rw [h2,e1,Int.toNat_natCast];exact getD_snoc a c 0
   have ht:decide ((0:Int)<((a++[c]).length:Int))=true:=decide_eq_true (by rw [List.length_append,List.length_singleton];omega)
   have hx:idxOK v1 (a++[c]).length=true:=by rw [e1];exact idx_ok (by omega) (by rw [List.length_append,List.length_singleton];omega)
   rw [ht,cond_true,e2] at h3
   rw [ht,hx,ck_of (by rfl),ck_of (by rfl),ck_of (by rfl),ck_of (by rfl),ck_of (by rfl),h3,Nr.rstrip_snoc]
   by_cases hc:c=48
   ·rw [decide_eq_true hc,cond_true,if_pos hc,e1,ck_of (cut_ok (by omega) (by omega) (by rw [List.length_append,List.length_singleton];omega)),Int.toNat_natCast,List.take_left]
    exact ih a (by omega) (by omega)
   ·rw [decide_eq_false hc,cond_false,if_neg hc,decide_eq_false (show ¬a++[c]=[] by simp),cond_false,if_neg (show ¬a++[c]=[] by simp)]
    by_cases c1:400<x
    ·rw [decide_eq_true c1,if_pos c1];rfl
    ·rw [decide_eq_false c1,if_neg c1,cond_false]
     by_cases c2:x < -400
     ·rw [decide_eq_true c2,if_pos c2];rfl
     ·rw [decide_eq_false c2,if_neg c2];rfl
theorem Nr.lstrip_cons (c:UInt8) (r:Str):Nr.lstrip (c :: r)=if c=48 then Nr.lstrip r else c :: r:=by
 unfold Nr.lstrip
 rw [List.dropWhile_cons]
 by_cases h:c=48
 ·rw [if_pos (by simp [h]),if_pos h]
 ·rw [if_neg (by simp [h]),if_neg h]
theorem r9_Read.l2_ok:∀(d:Str) (x:Int),d.length≤300→-5000≤x - d.length→x≤5000→r9_Read.l2 d x=r9_Read.l3 (Nr.lstrip d) (x - d.length+(Nr.lstrip d).length):=by
 intro d
 induction d with
 | nil =>
  intro x _ _ _
  refine r9_Read.l2_in _ _ ?_
  intro v1 h1 v2 h2 v3 h3 v4 h4
  have e2:v2=false:=h2
  rw [e2,ck_of (by rfl),ck_of (by rfl),ck_of (by rfl),cond_false,show Nr.lstrip []=[] by rfl]
  congr 1
  simp
 | cons c r ih =>
  intro x hl h5 h6
  rw [List.length_cons] at hl h5
  refine r9_Read.l2_in _ _ ?_
  intro v1 h1 v2 h2 v3 h3 v4 h4
  have e1:v1=c:=h1
  have e3:v3=r:=h3
  have e4:v4=x - 1:=by rw [h4,i64_in _ (by omega)]
  have ht:decide ((0:Int)<((c :: r).length:Int))=true:=decide_eq_true (by rw [List.length_cons];omega)
  rw [ht,cond_true,e1] at h2
  rw [ht,idx_ok (show (0:Int)≤0 by omega) (show (0:Int)<((c :: r).length:Nat) by rw [List.length_cons];omega),ck_of (by rfl),ck_of (by rfl),ck_of (by rfl),h2,Nr.lstrip_cons]
  by_cases hc:c=48
  ·rw [decide_eq_true hc,cond_true,if_pos hc,ck_of (cut_ok (by omega) (by rw [List.length_cons];omega) (by omega)),e3,e4,ih _ (by omega) (by omega) (by omega),List.length_cons]
   congr 1;omega
  ·rw [decide_eq_false hc,cond_false,if_neg hc]
   congr 1;omega
theorem r9_Read.l1_ok (d:Str) (x:Int) (hl:d.length≤300):∀(k i:Nat),i+k=d.length→r9_Read.l1 d x i=if (d.drop i).all Nr.isDig=true then r9_Read.l2 d (minI (maxI x (-3000)) 3000) else some [.u64 0,.b false]:=by
 have hcc:∀b:Bool,(!b || b)=true∧(b || !b)=true:=by decide
 intro k
 induction k with
 | zero =>
  intro i hi
  refine r9_Read.l1_in _ _ _ ?_
  intro v1 h1 v2 h2 v3 h3 v4 h4
  rw [decide_eq_false (by omega),cond_false,List.drop_of_length_le (by omega),if_pos (by rfl),h4]
 | succ k ih =>
  intro i hi
  refine r9_Read.l1_in _ _ _ ?_
  intro v1 h1 v2 h2 v3 h3 v4 h4
  rw [Int.toNat_natCast] at h1
  have hx:idxOK (i:Int) d.length=true:=idx_ok (by omega) (by omega)
  have e3:v3=((i+1:Nat):Int):=by rw [h3,i64_in _ (by omega)];omega
  have e2:v2=!Nr.isDig v1:=by
   rw [h2]
   have hi:=@Nr.isDig_iff v1
   by_cases c1:v1<48
   ·have c1':=UInt8.lt_iff_toNat_lt.1 c1
    have c1':v1.toNat<48:=c1'
    rw [decide_eq_true c1,cond_true]
    have:Nr.isDig v1=false:=Bool.eq_false_iff.2 fun h=>by have:=hi.1 h;omega
    rw [this];rfl
   ·have c1':¬v1.toNat<48:=fun h=>c1 (UInt8.lt_iff_toNat_lt.2 h)
    rw [decide_eq_false c1,cond_false]
    by_cases c2:57<v1
    ·have c2':57<v1.toNat:=UInt8.lt_iff_toNat_lt.1 c2
     have:Nr.isDig v1=false:=Bool.eq_false_iff.2 fun h=>by have:=hi.1 h;omega
     rw [decide_eq_true c2,this];rfl
    ·have c2':¬57<v1.toNat:=fun h=>c2 (UInt8.lt_iff_toNat_lt.2 h)
     have:Nr.isDig v1=true:=hi.2 (by omega)
     rw [decide_eq_false c2,this];rfl
  have hz:(!(!(decide (v1<(48:UInt8)))) || (((!(decide (v1<(48:UInt8))))&&(!(decide (v1<(48:UInt8)))))&&true))=true:=by
   cases decide (v1<(48:UInt8)) <;> rfl
  rw [decide_eq_true (by omega),cond_true,hx,ck_of (by rfl),ck_of hz,ck_of (hcc _).1,ck_of (hcc _).2,e2,e3,ih (i+1) (by omega),drop_cons (show i<d.length by omega) 0,←h1,List.all_cons]
  cases Nr.isDig v1 <;> rfl
theorem Nr.lstrip_rstrip {d:Str} (hd:d.all Nr.isDig=true) (h:Nr.rstrip (Nr.lstrip d)≠[]):Cano (Nr.rstrip (Nr.lstrip d)):=by
 obtain ⟨z,z1,z2⟩:=Nr.lstrip_split d
 obtain ⟨t,t1,t2⟩:=Nr.rstrip_split (Nr.lstrip d)
 have hd4:=(Nr.all_append_of hd z1).2
 have hd7:=(Nr.all_append_of hd4 t1).1
 have ne:Nr.lstrip d≠[]:=by intro e;rw [e] at h;exact h rfl
 refine ⟨⟨hd7,t2⟩,h,?_⟩
 have:=z2.resolve_left ne
 rw [t1,List.getD_eq_getElem?_getD,List.getElem?_append_left (List.length_pos_iff.2 h),←List.getD_eq_getElem?_getD] at this
 exact this
theorem r9_Read.goal (d:Str) (x:Int):r9_Read.F d x=some [.u64 (Nr.pat (Nr.read d x)),.b (Nr.read d x).isSome]:=by
 refine r9_Read.F_in _ _ ?_
 intro v1 h1
 have hcc:∀b:Bool,(!(!b) || !b)=true∧(b || !b)=true:=by decide
 have e1:v1=!decide (1≤d.length∧d.length≤300):=by
  rw [h1]
  by_cases c:1≤d.length∧d.length≤300
  ·rw [decide_eq_true c,decide_eq_false (by omega),cond_false,decide_eq_false (by omega)];rfl
  ·rw [decide_eq_false c]
   by_cases d0:(d.length:Int)<1
   ·rw [decide_eq_true d0];rfl
   ·rw [decide_eq_false d0,cond_false,decide_eq_true (by omega)];rfl
 rw [ck_of (hcc _).1,ck_of (hcc _).1,ck_of (hcc _).2,e1]
 unfold Nr.read Nr.valid
 by_cases hl:1≤d.length∧d.length≤300
 ·rw [decide_eq_true hl,Bool.true_and]
  refine Eq.trans (b:=_) (cond_false _ _) ?_
  refine (r9_Read.l1_ok d x hl.2 d.length 0 (by omega)).trans ?_
  rw [List.drop_zero]
  by_cases hd:d.all Nr.isDig=true
  ·rw [if_pos hd,if_pos hd]
   have hm:minI (maxI x (-3000)) 3000=min (max x (-3000)) 3000:=by
    unfold minI maxI;(repeat' split) <;> omega
   obtain ⟨z,z1,z2⟩:=Nr.lstrip_split d
   obtain ⟨t,t1,t2⟩:=Nr.rstrip_split (Nr.lstrip d)
   have hd4:=(Nr.all_append_of hd z1).2
   have hd7:=(Nr.all_append_of hd4 t1).1
   have lz:d.length=z+(Nr.lstrip d).length:=by
    have:=congrArg List.length z1
    rw [List.length_append,List.length_replicate] at this
    exact this
   have lt:(Nr.lstrip d).length=(Nr.rstrip (Nr.lstrip d)).length+t:=by
    have:=congrArg List.length t1
    rw [List.length_append,List.length_replicate] at this
    exact this
   have nz:Nr.num d=Nr.num (Nr.lstrip d):=by
    have:=congrArg Nr.num z1
    rw [Nr.num_append,Nr.num_zeros,Nat.zero_mul,Nat.zero_add] at this
    exact this
   have nt:Nr.num (Nr.lstrip d)=Nr.num (Nr.rstrip (Nr.lstrip d)) * 10 ^ t:=by
    have:=congrArg Nr.num t1
    rw [Nr.num_append,Nr.num_zeros,List.length_replicate,Nat.add_zero] at this
    exact this
   rw [hm,r9_Read.l2_ok d _ hl.2 (by omega) (by omega),r9_Read.l3_ok _ _ _ rfl (by omega)]
   rw [nz]
   by_cases c0:Nr.rstrip (Nr.lstrip d)=[]
   ·rw [if_pos c0]
    rw [c0,show Nr.num []=0 from rfl,Nat.zero_mul] at nt
    rw [nt,Nr.rd_zero];rfl
   ·have hc:=Nr.lstrip_rstrip hd c0
    have ne:Nr.lstrip d≠[]:=by intro e;rw [e] at c0;exact c0 rfl
    have p4:0<(Nr.lstrip d).length:=List.length_pos_iff.2 ne
    have b1:=Nr.num_lt (Nr.lstrip d) hd4
    have b2:=Nr.num_ge hd4 ne (z2.resolve_left ne)
    rw [if_neg c0]
    by_cases c1:400<min (max x (-3000)) 3000 - (d.length:Int)+(Nr.lstrip d).length
    ·rw [if_pos c1,Nr.rd_high b2 p4 (by omega)];rfl
    ·rw [if_neg c1]
     by_cases c2:min (max x (-3000)) 3000 - (d.length:Int)+(Nr.lstrip d).length < -400
     ·rw [if_pos c2,Nr.rd_low b1 (by omega)];rfl
     ·rw [if_neg c2]
      have ex:min (max x (-3000)) 3000=x:=by omega
      rw [ex]
      have hrd:Nr.rd (Nr.num (Nr.lstrip d)) (x - (d.length:Int))=Nr.near (nA (Nr.rstrip (Nr.lstrip d)) (x - (d.length:Int)+(Nr.lstrip d).length)) (nB (Nr.rstrip (Nr.lstrip d)) (x - (d.length:Int)+(Nr.lstrip d).length)):=by
       rw [nt,Nr.rd_shift]
       unfold Nr.rd nA nB
       rw [show x - (d.length:Int)+(t:Int)=x - (d.length:Int)+(Nr.lstrip d).length - (Nr.rstrip (Nr.lstrip d)).length by omega]
      rw [hrd]
      refine r9_Read.l4_ok _ _ hc 9218868437227405311 0 9218868437227405311 (by decide) (by decide) (by decide) ?_ (.inl rfl)
      rw [show (0:UInt64).toNat=0 by rfl,show V 0=0 by decide,Nat.zero_mul];exact Nat.zero_le _
  ·rw [if_neg hd,if_neg hd];rfl
 ·rw [decide_eq_false hl,Bool.false_and,if_neg (by decide)]
  rfl
end Go.Eng
namespace Go.Eng
open Go.IntWalk
namespace Nr
theorem run_split (t:Str):t=t.take (run t)++t.drop (run t)∧(t.take (run t)).all isDig=true∧(t.take (run t)).length=run t:=by
 have e:t.takeWhile isDig=t.take (run t):=by
  unfold run
  exact List.prefix_iff_eq_take.1 (List.takeWhile_prefix isDig)
 refine ⟨(List.take_append_drop _ _).symm,?_,?_⟩
 ·rw [←e];exact List.all_takeWhile
 ·rw [List.length_take,Nat.min_eq_left (run_le t)]
structure Shape (t a b fr ex e:Str):Prop where
 eq:t=a++fr++ex
 a0:a≠[]
 ad:a.all isDig=true
 fr:(fr=[]∧b=[])∨(fr=46 :: b∧b≠[])
 bd:b.all isDig=true
 ex:(ex=[]∧e=[])∨(∃c,isE c=true∧ex=c :: e∧signed e≠[])
 ed:(signed e).all isDig=true
theorem lexExp_shape {x:Str} {k:Int} (h:lexExp x k≠0):∃e,((x=[]∧e=[])∨(∃c,isE c=true∧x=c :: e∧signed e≠[]))∧(signed e).all isDig=true:=by
 cases x with
 | nil=>exact ⟨[],.inl ⟨rfl,rfl⟩,rfl⟩
 | cons c r =>
  rw [lexExp_cons] at h
  by_cases hc:c=101∨c=69
  ·rw [if_pos hc] at h
   by_cases hr:run (signed r)=0∨run (signed r)<(signed r).length
   ·rw [if_pos hr] at h;exact (h rfl).elim
   ·obtain ⟨h1,h2,h3⟩:=run_split (signed r)
    have hl:=run_le (signed r)
    refine ⟨r,.inr ⟨c,decide_eq_true hc,rfl,?_⟩,?_⟩
    ·intro e;rw [e] at hr;exact hr (.inl rfl)
    ·rw [List.take_of_length_le (by omega)] at h2;exact h2
  ·rw [if_neg hc] at h;exact (h rfl).elim
theorem lex_shape {s:Str} (h:lexeme s≠0):∃a b fr ex e,Shape (body s) a b fr ex e:=by
 have h2:¬(run (body s)=0∨((body s).getD 0 0=48∧1<run (body s)))∧lexFrac ((body s).drop (run (body s)))≠0:=by
  have e:lexeme s=if run (body s)=0∨((body s).getD 0 0=48∧1<run (body s)) then 0 else lexFrac ((body s).drop (run (body s))):=rfl
  rw [e] at h
  by_cases c:run (body s)=0∨((body s).getD 0 0=48∧1<run (body s))
  ·rw [if_pos c] at h;exact (h rfl).elim
  ·rw [if_neg c] at h;exact ⟨c,h⟩
 obtain ⟨h2,h3⟩:=h2
 generalize body s=t at *
 obtain ⟨r1,r2,r3⟩:=run_split t
 have ha:t.take (run t)≠[]:=fun e=>by
  rw [e] at r3;exact h2 (.inl r3.symm)
 by_cases hdot:0<(t.drop (run t)).length∧(t.drop (run t)).getD 0 0=46
 ·cases hx:t.drop (run t) with
  | nil=>rw [hx] at hdot;simp at hdot
  | cons c r =>
   rw [hx] at hdot h3 r1
   have:c=46:=hdot.2
   subst this
   rw [lexFrac_dot] at h3
   by_cases hr:run r=0
   ·rw [if_pos hr] at h3;exact (h3 rfl).elim
   ·rw [if_neg hr] at h3
    obtain ⟨s1,s2,s3⟩:=run_split r
    obtain ⟨e,e1,e2⟩:=lexExp_shape h3
    refine ⟨t.take (run t),r.take (run r),46 :: r.take (run r),r.drop (run r),e,?_,ha,r2,.inr ⟨rfl,?_⟩,s2,e1,e2⟩
    ·rw [List.append_assoc,List.cons_append,←s1];exact r1
    ·intro e;rw [e] at s3;exact hr s3.symm
 ·rw [lexFrac_other hdot] at h3
  obtain ⟨e,e1,e2⟩:=lexExp_shape h3
  refine ⟨t.take (run t),[],[],t.drop (run t),e,?_,ha,r2,.inl ⟨rfl,rfl⟩,rfl,e1,e2⟩
  rw [List.append_nil];exact r1
theorem dig_noE {c:UInt8} (h:isDig c=true):isE c=false∧c≠46∧c.toNat<128∧([101,69]:Str).contains c=false:=by
 have h1:=isDig_iff.1 h
 have hne:∀d:UInt8,d.toNat<48∨57<d.toNat→c≠d:=fun d hd e=>by subst e;omega
 have n1:=hne 101 (by decide)
 have n2:=hne 69 (by decide)
 have n3:=hne 46 (by decide)
 refine ⟨decide_eq_false (by simp [n1,n2]),n3,by omega,by simp [n1,n2]⟩
theorem takeWhile_all {p:UInt8→Bool} {a b:Str} (ha:a.all p=true) (hb:b=[]∨p (b.getD 0 0)=false):(a++b).takeWhile p=a∧(a++b).dropWhile p=b:=by
 induction a with
 | nil =>
  cases b with
  | nil=>exact ⟨rfl,rfl⟩
  | cons c r =>
   have hc:p c=false:=hb.resolve_left (by simp)
   rw [List.nil_append,List.takeWhile_cons,List.dropWhile_cons,if_neg (by rw [hc];simp),if_neg (by rw [hc];simp)]
   exact ⟨rfl,rfl⟩
 | cons c r ih =>
  rw [List.all_cons,Bool.and_eq_true] at ha
  obtain ⟨i1,i2⟩:=ih ha.2
  rw [List.cons_append,List.takeWhile_cons,List.dropWhile_cons,if_pos ha.1,if_pos ha.1,i1,i2]
  exact ⟨rfl,rfl⟩
section
variable {s a b fr ex e:Str} (h:Shape (body s) a b fr ex e)
include h
theorem Shape.noE:(a++fr).all (fun c=>!isE c)=true:=by
 rw [List.all_append,Bool.and_eq_true]
 constructor
 ·exact List.all_eq_true.2 fun x hx=>by rw [(dig_noE (List.all_eq_true.1 h.ad x hx)).1];rfl
 ·rcases h.fr with ⟨h1,_⟩ | ⟨h1,_⟩
  ·rw [h1];rfl
  ·rw [h1,List.all_cons,Bool.and_eq_true]
   exact ⟨by decide,List.all_eq_true.2 fun x hx=>by rw [(dig_noE (List.all_eq_true.1 h.bd x hx)).1];rfl⟩
theorem Shape.parts:mant s=a++fr∧tail s=e∧ahead s=a∧behind s=b:=by
 have hx:ex=[]∨(!isE (ex.getD 0 0))=false:=by
  rcases h.ex with ⟨h1,_⟩ | ⟨c,h1,h2,_⟩
  ·exact .inl h1
  ·right;rw [h2];show (!isE c)=false;rw [h1];rfl
 obtain ⟨t1,t2⟩:=takeWhile_all h.noE hx
 rw [←h.eq] at t1 t2
 have hm:mant s=a++fr:=t1
 have ht:tail s=ex.drop 1:=by unfold tail;rw [t2]
 have hf:fr=[]∨(fr.getD 0 0 != 46)=false:=by
  rcases h.fr with ⟨h1,_⟩ | ⟨h1,_⟩
  ·exact .inl h1
  ·right;rw [h1];rfl
 have had:a.all (· != 46)=true:=List.all_eq_true.2 fun x hx=>by
  have:=(dig_noE (List.all_eq_true.1 h.ad x hx)).2.1
  simpa using this
 obtain ⟨u1,u2⟩:=takeWhile_all had hf
 refine ⟨hm,?_,?_,?_⟩
 ·rw [ht]
  rcases h.ex with ⟨h1,h2⟩ | ⟨c,h1,h2,_⟩
  ·rw [h1,h2];rfl
  ·rw [h2];rfl
 ·unfold ahead;rw [hm];exact u1
 ·unfold behind;rw [hm,u2]
  rcases h.fr with ⟨h1,h2⟩ | ⟨h1,_⟩
  ·rw [h1,h2];rfl
  ·rw [h1];rfl
theorem Shape.ascii:(body s).all (fun c=>decide (c.toNat<128))=true:=by
 have hd:∀l:Str,l.all isDig=true→l.all (fun c=>decide (c.toNat<128))=true:=fun l hl=>List.all_eq_true.2 fun x hx=>decide_eq_true (dig_noE (List.all_eq_true.1 hl x hx)).2.2.1
 rw [h.eq,List.all_append,List.all_append,Bool.and_eq_true,Bool.and_eq_true]
 refine ⟨⟨hd a h.ad,?_⟩,?_⟩
 ·rcases h.fr with ⟨h1,_⟩ | ⟨h1,_⟩
  ·rw [h1];rfl
  ·rw [h1,List.all_cons,hd b h.bd];rfl
 ·rcases h.ex with ⟨h1,_⟩ | ⟨c,h1,h2,_⟩
  ·rw [h1];rfl
  ·rw [h2,List.all_cons,Bool.and_eq_true]
   have hc:c=101∨c=69:=of_decide_eq_true h1
   refine ⟨by rcases hc with rfl | rfl <;> decide,?_⟩
   have he:=h.ed
   cases e with
   | nil=>rfl
   | cons d r =>
    rw [signed_cons] at he
    rw [List.all_cons]
    by_cases k:d=43∨d=45
    ·rw [if_pos k] at he
     rw [hd r he];rcases k with rfl | rfl <;> rfl
    ·rw [if_neg k] at he
     have:=hd _ he
     rw [List.all_cons] at this;exact this
theorem Shape.index:Lib.indexAny (body s) [101,69]=if ex=[] then -1 else ((a++fr).length:Int):=by
 have hno:∀(j:Nat) x,j<(a++fr).length→(body s)[j]?=some x→([101,69]:Str).contains x=false:=fun j x hj hx=>by
  rw [h.eq,List.getElem?_append_left hj] at hx
  have:=List.all_eq_true.1 h.noE x (List.mem_of_getElem? hx)
  simp only [Bool.not_eq_true'] at this
  have h2:¬(x=101∨x=69):=of_decide_eq_false this
  simp only [not_or] at h2
  simp [h2.1,h2.2]
 rcases h.ex with ⟨h1,_⟩ | ⟨c,h1,h2,_⟩
 ·rw [if_pos h1]
  refine Lib.indexAny_none fun j x hj hx=>hno j x ?_ (by assumption)
  rw [h.eq,h1,List.append_nil] at *
  first | exact hj | exact hx
 ·rw [if_neg (by rw [h2];simp)]
  refine Lib.indexAny_hit (i:=(a++fr).length) (x:=c) (fun j x hj hx=>?_) ?_ ?_
  ·first | exact hno j x hj hx | exact hno j x hx hj
  ·rw [h.eq,h2,List.getElem?_append_right (Nat.le_refl _),Nat.sub_self];rfl
  ·have hc:c=101∨c=69:=of_decide_eq_true h1
   rcases hc with rfl | rfl <;> rfl
end
theorem rd_clamp {N L:Nat} {k j:Int} (hN:N<10 ^ L) (h:k=j∨(310≤k∧310≤j)∨(k+L≤-324∧j+L≤-324)):rd N k=rd N j:=by
 rcases h with h | ⟨h1,h2⟩ | ⟨h1,h2⟩
 ·rw [h]
 ·by_cases c:N=0
  ·subst c;rw [rd_zero,rd_zero]
  ·rw [rd_high (L:=1) (by simp;omega) (by omega) (by omega),rd_high (L:=1) (by simp;omega) (by omega) (by omega)]
 ·rw [rd_low hN h1,rd_low hN h2]
theorem read_clamp {D t:Str} {L M:Nat} (hL:L≤300) (hM:5000≤M):read D (L+(if t.getD 0 0=45 then -((min (num (signed t)) M:Nat):Int) else ((min (num (signed t)) M:Nat):Int)))=read D (L+expo t):=by
 unfold read
 cases hv:valid D
 ·rw [if_neg (by simp),if_neg (by simp)]
 ·rw [if_pos rfl,if_pos rfl]
  unfold valid at hv
  rw [Bool.and_eq_true] at hv
  have hl:=of_decide_eq_true hv.1
  refine rd_clamp (num_lt D hv.2) ?_
  unfold expo
  simp only
  by_cases c:t.getD 0 0=45
  ·rw [if_pos c,if_pos c];omega
  ·rw [if_neg c,if_neg c];omega
end Nr
theorem trim_sign {s:Str} (h1:1≤(Nr.signed s).length) (h2:(Nr.signed s).all Nr.isDig=true):Lib.trimLeftS s [43,45]=Nr.signed s:=by
 have hk:∀(c:UInt8) (r:Str),Nr.isDig c=true→List.dropWhile (fun b=>([43,45]:Str).contains b) (c :: r)=c :: r:=fun c r hc=>by
  rw [List.dropWhile_cons,if_neg]
  have hd:=Nr.isDig_iff.1 hc
  have n1:c≠43:=fun e=>by subst e;simp at hd
  have n2:c≠45:=fun e=>by subst e;simp at hd
  simp [n1,n2]
 unfold Lib.trimLeftS
 cases s with
 | nil=>simp [Nr.signed] at h1
 | cons c r =>
  rw [Nr.signed_cons] at h1 h2 ⊢
  by_cases k:c=43∨c=45
  ·rw [if_pos k] at h1 h2 ⊢
   rw [List.dropWhile_cons,if_pos (by rcases k with rfl | rfl <;> rfl)]
   cases r with
   | nil=>simp at h1
   | cons d q =>
    rw [List.all_cons,Bool.and_eq_true] at h2
    exact hk d q h2.1
  ·rw [if_neg k] at h1 h2 ⊢
   rw [List.all_cons,Bool.and_eq_true] at h2
   exact hk c r h2.1
theorem dig_val (c:UInt8) (h:Nr.isDig c=true):(c - 48).toNat=c.toNat - 48:=by
 have h1:=Nr.isDig_iff.1 h
 rw [UInt8.toNat_sub]
 show (256 - 48+c.toNat) % 256=_
 omega
theorem min_step (a b M:Nat) (hM:10≤M):min (10 * min a M+b) M=min (10 * a+b) M:=by omega
theorem nr_power.l1_ok (s t:Str) (ht:t.all Nr.isDig=true) (hl:t.length≤300) (hs:1≤s.length):∀(m i:Nat),i+m=t.length→nr_power.l1 s t ((min (Nr.num (t.take i)) 1000000:Nat):Int) t.length i=some [.i .i64 (if s.getD 0 0=45 then -((min (Nr.num t) 1000000:Nat):Int) else ((min (Nr.num t) 1000000:Nat):Int))]:=by
 intro m
 induction m with
 | zero =>
  intro i hi
  refine nr_power.l1_in _ _ _ _ _ ?_
  intro v1 h1 v2 h2 v3 h3 v4 h4 v5 h5 v6 h6
  have h6:v6=s.getD 0 0:=h6
  rw [List.take_of_length_le (by omega),decide_eq_false (by omega),cond_false,ck_of (idx_ok (by omega) (by omega)),h6]
  by_cases c:s.getD 0 0=45
  ·rw [decide_eq_true c,cond_true,if_pos c,i64_in _ (by omega)];simp
  ·rw [decide_eq_false c,cond_false,if_neg c]
 | succ m ih =>
  intro i hi
  refine nr_power.l1_in _ _ _ _ _ ?_
  intro v1 h1 v2 h2 v3 h3 v4 h4 v5 h5 v6 h6
  rw [Int.toNat_natCast] at h2
  have hd:=all_getD ht (show i<t.length by omega)
  rw [←h2] at hd
  have e1:v1=((10 * min (Nr.num (t.take i)) 1000000:Nat):Int):=by rw [h1,i64_in _ (by omega)];omega
  have e3:v3=((v2.toNat - 48:Nat):Int):=by rw [h3,dig_val v2 (Nr.isDig_iff.2 hd),i64_in _ (by omega)]
  have e4:v4=((min (Nr.num (t.take (i+1))) 1000000:Nat):Int):=by
   rw [take_snoc (show i<t.length by omega),Nr.num_snoc,←h2,←min_step _ _ _ (by omega),h4,e1,e3,i64_in _ (by omega)]
   unfold minI
   split <;> omega
  have e5:v5=((i+1:Nat):Int):=by rw [h5,i64_in _ (by omega)];omega
  rw [decide_eq_true (by omega),cond_true,ck_of (idx_ok (by omega) (by omega)),e4,e5]
  exact ih (i+1) (by omega)
theorem nr_power.goal (s:Str) (hp:(decide (1≤(Nr.signed s).length∧s.length≤300)&&(Nr.signed s).all Nr.isDig)=true):nr_power.F s=some [.i .i64 (Nr.power s)]:=by
 simp only [Bool.and_eq_true,decide_eq_true_eq] at hp
 obtain ⟨⟨p1,p2⟩,p3⟩:=hp
 have hl:=Nr.signed_len s
 refine nr_power.F_in _ ?_
 intro v1 h1
 rw [trim_sign p1 p3] at h1
 rw [decide_eq_true (show s.length≤1099511627776∧([43,45]:Str).length≤100 from ⟨by omega,by decide⟩)]
 refine (ck_of (by rfl)).trans ?_
 rw [h1]
 have:=nr_power.l1_ok s (Nr.signed s) p3 (by omega) (by omega) (Nr.signed s).length 0 (by omega)
 unfold Nr.power
 rw [←this];rfl
theorem or_63 (x:UInt64) (h:x.toNat<9223372036854775808):x ||| 9223372036854775808=UInt64.ofNat (x.toNat+9223372036854775808):=by
 apply u64_eq
 rw [UInt64.toNat_or,u64_of]
 have:=or_add (a:=1) (k:=63) (b:=x.toNat) h
 rw [Nat.or_comm] at this
 show x.toNat ||| 9223372036854775808=_
 rw [show (9223372036854775808:Nat)=1 * 2 ^ 63 by decide,this]
 have:(1:Nat) * 2 ^ 63=9223372036854775808:=by decide
 omega
theorem Nr.read_le {d:Str} {x:Int} {p:Nat} (h:Nr.read d x=some p):p≤Nr.top:=by
 unfold Nr.read at h
 split at h
 ·exact Nr.near_le h
 ·cases h
theorem nr_Parse.j1_ok (s:Str) (hs:s.length≤300) (hx:Nr.lexeme s≠0) (x:Int) (hx2 : -1000000≤x∧x≤1000000) (hr:Nr.read (Nr.ahead s++Nr.behind s) ((Nr.ahead s).length+x)=Nr.read (Nr.ahead s++Nr.behind s) ((Nr.ahead s).length+Nr.expo (Nr.tail s))) (neg:Bool) (hneg:neg=decide (s.getD 0 0=45)) (hm:(Nr.mant s).length≤300) :
  nr_Parse.j1 (Nr.mant s) neg x=some [.u64 (Nr.parse s).1,.i .i64 (Nr.parse s).2]:=by
 refine nr_Parse.j1_in _ _ _ ?_
 intro v1 h1 v2 h2 v3 h3 v4 h4 v5 h5 v6 h6
 have e1:v1=Nr.behind s:=h1
 have e2:v2=Nr.ahead s++Nr.behind s:=by rw [h2,e1];rfl
 have e3:v3=(Nr.ahead s).length:=h3
 have l1:(Nr.ahead s).length≤(Nr.mant s).length:=(List.takeWhile_sublist _).length_le
 have l2:(Nr.behind s).length≤(Nr.mant s).length:=by unfold Nr.behind;rw [List.length_drop];have:=(List.dropWhile_sublist (l:=Nr.mant s) (· != 46)).length_le;omega
 rw [e2,e3,i64_in _ (by omega),hr] at h4 h5
 have ep:Nr.parse s=match Nr.read (Nr.ahead s++Nr.behind s) ((Nr.ahead s).length+Nr.expo (Nr.tail s)) with
  | none=>(0,10)
  | some p=>(UInt64.ofNat (p+if s.getD 0 0=45 then 9223372036854775808 else 0),0):=by
  rw [Nr.parse_eq];unfold Nr.parse0
  rw [if_neg hx,if_neg (by omega)]
  rfl
 rw [ck_of (decide_eq_true ⟨by omega,rfl⟩),ck_of (decide_eq_true (by
  have:((Nr.mant s).takeWhile (· != 46)).length=(Nr.ahead s).length:=rfl
  rw [e1];omega)),ep]
 cases hq:Nr.read (Nr.ahead s++Nr.behind s) ((Nr.ahead s).length+Nr.expo (Nr.tail s)) with
 | none =>
  rw [hq] at h5
  have e5:v5=false:=h5
  rw [e5];rfl
 | some p =>
  have hp:=Nr.read_le hq
  rw [hq] at h4 h5
  have e5:v5=true:=h5
  have e4:v4=UInt64.ofNat p:=h4
  have e4':v4.toNat=p:=by rw [e4,u64_of];unfold Nr.top at hp;omega
  rw [e5,hneg]
  refine Eq.trans (b:=cond (decide (s.getD 0 0=45)) (nr_Parse.j2 v6) (nr_Parse.j2 v4)) rfl ?_
  by_cases c:s.getD 0 0=45
  ·rw [decide_eq_true c,cond_true,nr_Parse.j2_eq,h6,or_63 _ (by rw [e4'];unfold Nr.top at hp;omega),e4',if_pos c]
  ·rw [decide_eq_false c,cond_false,nr_Parse.j2_eq,if_neg c,e4];rfl
theorem Nr.body_eq (s:Str):(if ([45]:Str).isPrefixOf s then s.drop ([45]:Str).length else s)=Nr.body s∧([45]:Str).isPrefixOf s=decide (s.getD 0 0=45):=by
 cases s with
 | nil=>exact ⟨rfl,rfl⟩
 | cons c r =>
  by_cases h:c=45
  ·subst h;exact ⟨by simp [Nr.body],by simp⟩
  ·have hb:(45 == c)=false:=by simp [Ne.symm h]
   refine ⟨?_,?_⟩
   ·have:Nr.body (c :: r)=c :: r:=by
     unfold Nr.body
     split
     ·rename_i heq;injection heq with h1 _;exact (h h1).elim
     ·rfl
    rw [this];simp [List.isPrefixOf,hb]
   ·simp [List.isPrefixOf,hb,h]
theorem Nr.body_len (s:Str):(Nr.body s).length≤s.length:=by
 unfold Nr.body
 split
 ·simp
 ·exact Nat.le_refl _
theorem nr_Parse.goal (s:Str) (hp:decide (s.length≤1099511627776)=true):nr_Parse.F s=some [.u64 (Nr.parse s).1,.i .i64 (Nr.parse s).2]:=by
 refine nr_Parse.F_in _ ?_
 intro v1 h1 v2 h2 v3 h3 v4 h4 v5 h5
 obtain ⟨b1,b2⟩:=Nr.body_eq s
 rw [b1] at h1
 rw [b2] at h2
 rw [ck_of hp]
 by_cases hx:Nr.lexeme s=0
 ·rw [decide_eq_true hx,cond_true];rw [Nr.parse_eq];unfold Nr.parse0;rw [if_pos hx]
 ·rw [decide_eq_false hx,cond_false]
  by_cases hl:300<s.length
  ·rw [decide_eq_true (by omega),cond_true];rw [Nr.parse_eq];unfold Nr.parse0;rw [if_neg hx,if_pos hl]
  ·rw [decide_eq_false (by omega),cond_false]
   obtain ⟨a,b,fr,ex,e,sh⟩:=Nr.lex_shape hx
   obtain ⟨q1,q2,q3,q4⟩:=sh.parts
   have hbl:=Nr.body_len s
   have hml:(Nr.mant s).length≤300:=by
    have:(Nr.mant s).length≤(Nr.body s).length:=(List.takeWhile_sublist _).length_le
    omega
   have hel:e.length≤300:=by
    have h:=congrArg List.length sh.eq
    rw [List.length_append] at h
    rcases sh.ex with ⟨x1,x2⟩ | ⟨c,x1,x2,x3⟩
    ·rw [x2];simp
    ·rw [x2,List.length_cons] at h;omega
   have hi:=sh.index
   rw [←h1] at hi
   rw [hi] at h3
   rw [h1,decide_eq_true (show (Nr.body s).length≤4294967280∧([101,69]:Str).length≤100 from ⟨by omega,by decide⟩),List.all_append,sh.ascii]
   refine (ck_of (by rfl)).trans ?_
   rcases sh.ex with ⟨x1,x2⟩ | ⟨c,x1,x2,x3⟩
   ·rw [if_pos x1] at h3
    have hbm:Nr.body s=Nr.mant s:=by rw [sh.eq,x1,List.append_nil,q1]
    have ht0:Nr.expo (Nr.tail s)=0:=by rw [q2,x2];rfl
    rw [h3,decide_eq_false (by decide),cond_false,hbm]
    exact nr_Parse.j1_ok s (by omega) hx 0 (by omega) (by rw [ht0]) v2 h2 hml
   ·rw [if_neg (by rw [x2];simp)] at h3
    have e4:v4=(((a++fr).length+1:Nat):Int):=by
     have:(a++fr).length≤300:=by rw [←q1];exact hml
     rw [h4,h3,i64_in _ (by omega)];omega
    have hlen:(Nr.body s).length=(a++fr).length+(e.length+1):=by rw [sh.eq,x2,List.length_append,List.length_cons]
    have hdr:(Nr.body s).drop ((a++fr).length+1)=e:=by
     rw [sh.eq,x2,←List.drop_drop,List.drop_left];rfl
    have htk:(Nr.body s).take (a++fr).length=Nr.mant s:=by rw [sh.eq,List.take_left,q1]
    rw [e4,Int.toNat_natCast,h1,hdr] at h5
    rw [h3,decide_eq_true (by omega),cond_true,e4,ck_of (cut_ok (by omega) (by omega) (by omega)),Int.toNat_natCast,hdr,ck_of (by
     rw [sh.ed,decide_eq_true (show 1≤(Nr.signed e).length∧e.length≤300 from ⟨List.length_pos_iff.2 x3,hel⟩)];rfl),ck_of (cut_ok (by omega) (by omega) (by omega)),Int.toNat_natCast,htk]
    refine nr_Parse.j1_ok s (by omega) hx v5 ?_ ?_ v2 h2 hml
    ·rw [h5];unfold Nr.power;split <;> omega
    ·rw [h5,q2]
     unfold Nr.power
     exact Nr.read_clamp (by
      have:(Nr.ahead s).length≤(Nr.mant s).length:=(List.takeWhile_sublist _).length_le
      omega) (by omega)
end Go.Eng
