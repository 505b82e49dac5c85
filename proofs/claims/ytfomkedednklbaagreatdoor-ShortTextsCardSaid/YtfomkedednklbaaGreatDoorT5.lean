/- Texts of my own, one behind the other: SnV, SnJ, SnN1, SnP3, SnP4, SnP5, SnP6, SnP7, SnP8, SnP9, SnP10, SnP11, SnP12, SnP13, SnP14, SnP15, SnP16, SnN2, SnN3, SnN4, SnE1, SnE2, SnR1, ShM1, ShM2, ShM3, ShM4, ShM5, SnN5, ShM6. -/
import Derived.Test.YtfomkedednklbaaGreatDoorT4
set_option linter.unusedVariables false
set_option linter.unusedSimpArgs false
namespace Go.Eng
open Go.IntWalk
namespace Nr
def V (p:Nat):Nat:=iI p * 2 ^ sh p
theorem qk (p:Nat):iI p<9007199254740992:=by unfold iI;split <;> omega
theorem xY (p:Nat):V (p+1)=(iI p+1) * 2 ^ sh p:=by
 by_cases c0:p=4503599627370495
 ·subst c0;decide +kernel
 unfold V iI sh
 by_cases c:p<4503599627370496
 ·have e1:p / 4503599627370496=0:=by omega
  rw [aG c,aG (show p+1<4503599627370496 by omega),e1,show (p+1) / 4503599627370496=0 by omega]
 ·rw [aE c,aE (show ¬p+1<4503599627370496 by omega)]
  by_cases d:(p+1) % 4503599627370496=0
  ·rw [d,show (p+1) / 4503599627370496 - 1=(p / 4503599627370496 - 1)+1 by omega,show p % 4503599627370496=4503599627370495 by omega,Nat.pow_succ]
   generalize 2 ^ (p / 4503599627370496 - 1)=t
   omega
  ·have e:(p+1) % 4503599627370496+4503599627370496=p % 4503599627370496+4503599627370496+1:=by omega
   rw [show (p+1) / 4503599627370496=p / 4503599627370496 by omega,e]
theorem vk (p:Nat):V (p+1)=V p+2 ^ sh p:=by rw [xY,Nat.add_mul,Nat.one_mul];rfl
theorem lC (p:Nat):V p<V (p+1):=by rw [vk];have:=Nat.two_pow_pos (sh p);omega
theorem Aj {p q:Nat} (h:p<q):V p<V q:=by
 induction q with
 | zero=>omega
 | succ q ih =>
  have:=lC q
  by_cases c:p=q
  ·subst c;exact this
  ·have:=ih (by omega);omega
theorem Qq {p q:Nat} (h:p≤q):V p≤V q:=by
 rcases Nat.lt_or_eq_of_le h with c | c
 ·exact Nat.le_of_lt (Aj c)
 ·rw [c];exact Nat.le_refl _
theorem KA {p q:Nat} (h:V p=V q):p=q:=by
 rcases Nat.lt_trichotomy p q with c | c | c
 ·have:=Aj c;omega
 ·exact c
 ·have:=Aj c;omega
theorem lL (p:Nat):nC p=V p+V (p+1):=by
 rw [vk];unfold nC V;rw [Nat.add_mul,Nat.mul_assoc,Nat.one_mul];omega
theorem Ho {M E:Nat} (h1:4503599627370496≤M) (h2:M<9007199254740992):iI ((E+1) * 4503599627370496+(M - 4503599627370496))=M∧sh ((E+1) * 4503599627370496+(M - 4503599627370496))=E:=by
 unfold iI sh
 rw [aE (by omega),show ((E+1) * 4503599627370496+(M - 4503599627370496)) % 4503599627370496=M - 4503599627370496 by omega,show ((E+1) * 4503599627370496+(M - 4503599627370496)) / 4503599627370496=E+1 by omega]
 omega
theorem Kz {M:Nat} (h:M<4503599627370496):V M=M:=by
 unfold V iI sh
 rw [aG h,show M / 4503599627370496=0 by omega];simp
theorem uv {p:Nat} (h:p≤top):sh p≤2045:=by unfold sh;unfold top at h;omega
theorem join_some {p m:Nat} {e:Int} (neg:Bool) (hp:p≤top) (h:V p * 2 ^ (-(e+1074)).toNat=m * 2 ^ (e+1074).toNat):join neg m e=some (p+if neg then 9223372036854775808 else 0):=by
 classical
 have hx:∃p,p≤top∧iI p * 2 ^ sh p * 2 ^ (-(e+1074)).toNat=m * 2 ^ (e+1074).toNat:=⟨p,hp,h⟩
 unfold join
 rw [dif_pos hx]
 have hc:=hx.choose_spec.2
 have:hx.choose=p:=KA (Nat.eq_of_mul_eq_mul_right (Nat.two_pow_pos _) (hc.trans h.symm))
 rw [this]
theorem join_none {m:Nat} {e:Int} (neg:Bool) (h:∀p,p≤top→V p * 2 ^ (-(e+1074)).toNat≠m * 2 ^ (e+1074).toNat):join neg m e=none:=by
 classical
 unfold join
 rw [dif_neg]
 rintro ⟨p,h1,h2⟩
 exact h p h1 h2
theorem LM (neg:Bool) (e:Int):join neg 0 e=some (0+if neg then 9223372036854775808 else 0):=join_some neg (Nat.zero_le _) (by rw [Kz (by omega),Nat.zero_mul,Nat.zero_mul])
def enc (m' k:Nat):Nat:=if k+Nt.bits m'≤52 then m' * 2 ^ k else (k - (53 - Nt.bits m')+1) * 4503599627370496+(m' * 2 ^ (53 - Nt.bits m') - 4503599627370496)
theorem vf {m':Nat} (h0:0<m') (j:Nat):2 ^ (Nt.bits m' - 1+j)≤m' * 2 ^ j∧m' * 2 ^ j<2 ^ (Nt.bits m'+j):=by
 obtain ⟨h1,h2,h3⟩:=Nt.iT h0
 rw [Nat.pow_add,Nat.pow_add]
 exact ⟨ar _ h1,Nat.mul_lt_mul_of_pos_right h2 (Nat.two_pow_pos j)⟩
theorem CB {m':Nat} (h0:0<m') (hL:Nt.bits m'≤53):4503599627370496≤m' * 2 ^ (53 - Nt.bits m')∧m' * 2 ^ (53 - Nt.bits m')<9007199254740992:=by
 obtain ⟨h1,h2⟩:=vf h0 (53 - Nt.bits m')
 obtain ⟨_,_,h3⟩:=Nt.iT h0
 rw [show Nt.bits m' - 1+(53 - Nt.bits m')=52 by omega] at h1
 rw [show Nt.bits m'+(53 - Nt.bits m')=53 by omega] at h2
 exact ⟨h1,h2⟩
theorem Gw {m' k:Nat} (h0:0<m') (hL:Nt.bits m'≤53) (hk:k+Nt.bits m'≤2098):enc m' k≤top∧V (enc m' k)=m' * 2 ^ k:=by
 obtain ⟨b1,b2⟩:=CB h0 hL
 unfold enc
 split
 ·rename_i c
  have:=(vf h0 k).2
  have Xm:m' * 2 ^ k<4503599627370496:=Nat.lt_of_lt_of_le this (by
   rw [show (4503599627370496:Nat)=2 ^ 52 by decide];exact Nat.pow_le_pow_right (by omega) (by omega))
  exact ⟨by unfold top;omega,Kz Xm⟩
 ·rename_i c
  obtain ⟨v1,v2⟩:=Ho (E:=k - (53 - Nt.bits m')) b1 b2
  refine ⟨by unfold top;omega,?_⟩
  unfold V
  rw [v1,v2,Nat.mul_assoc,←Nat.pow_add,show 53 - Nt.bits m'+(k - (53 - Nt.bits m'))=k by omega]
theorem FI {m m' n k:Nat} {e:Int} (neg:Bool) (hm:m=m' * 2 ^ n) (h0:0<m') (hk:e+n+1074=k) (hL:Nt.bits m'≤53) (gM:k+Nt.bits m'≤2098):join neg m e=some (enc m' k+if neg then 9223372036854775808 else 0):=by
 obtain ⟨h1,h2⟩:=Gw h0 hL gM
 refine join_some neg h1 ?_
 rw [h2,hm,Nat.mul_assoc,Nat.mul_assoc,←Nat.pow_add,←Nat.pow_add,show k+(-(e+1074)).toNat=n+(e+1074).toNat by omega]
theorem Ig {a b x y:Nat} (ha:a % 2=1) (h:a * 2 ^ x=b * 2 ^ y):y≤x∧b=a * 2 ^ (x - y):=by
 have V8:y≤x:=by
  rcases Nat.lt_or_ge x y with c | c
  ·have e:y=x+(y - x - 1)+1:=by omega
   rw [e,Nat.pow_succ,Nat.pow_add,←Nat.mul_assoc,←Nat.mul_assoc] at h
   have h2:a=b * 2 ^ (y - x - 1) * 2:=by
    refine Nat.eq_of_mul_eq_mul_right (Nat.two_pow_pos x) ?_
    rw [h,Nat.mul_right_comm b,Nat.mul_right_comm (b * _)]
   omega
  ·exact c
 refine ⟨V8,Nat.eq_of_mul_eq_mul_right (Nat.two_pow_pos y) ?_⟩
 rw [←h,Nat.mul_assoc,←Nat.pow_add,show x - y+y=x by omega]
theorem FH {m m' n:Nat} {e:Int} (neg:Bool) (hm:m=m' * 2 ^ n) (ho:m' % 2=1) (h:e+n+1074<0∨53<Nt.bits m'∨2098<e+n+1074+Nt.bits m'):join neg m e=none:=by
 refine join_none neg fun p hp hv=>?_
 have h0:0<m':=by omega
 rw [hm,Nat.mul_assoc,←Nat.pow_add] at hv
 unfold V at hv
 rw [Nat.mul_assoc,←Nat.pow_add] at hv
 obtain ⟨q1,q2⟩:=Ig ho hv.symm
 have hs:=uv hp
 have Pv:=qk p
 obtain ⟨r1,r2⟩:=vf h0 (n+(e+1074).toNat - (sh p+(-(e+1074)).toNat))
 obtain ⟨_,_,r3⟩:=Nt.iT h0
 rw [←q2] at r1 r2
 have r4:2 ^ (Nt.bits m' - 1+(n+(e+1074).toNat - (sh p+(-(e+1074)).toNat)))<2 ^ 53:=Nat.lt_of_le_of_lt r1 (by rw [show (2:Nat) ^ 53=9007199254740992 by decide];exact Pv)
 have r5:=(Nat.pow_lt_pow_iff_right (by omega:1<2)).1 r4
 omega
theorem Mv (m' k:Nat) (h:enc m' k≤top):enc m' k<9223372036854775808:=by unfold top at h;omega
end Nr
theorem ma (x:UInt64) (k:Nat):(kV x k).toNat=x.toNat * 2 ^ k % 18446744073709551616:=by unfold kV;simp
theorem jr {a b:UInt64} (h:a.toNat=b.toNat):a=b:=bt.1 h
theorem jq (n:Nat):(UInt64.ofNat n).toNat=n % 18446744073709551616:=by simp
theorem A4 (x:UInt64):(x &&& (4503599627370495:UInt64)).toNat=x.toNat % 4503599627370496:=by
 rw [UInt64.toNat_and]
 exact Nat.and_two_pow_sub_one_eq_mod x.toNat 52
def HY (n:Bool):UInt64:=cond n 9223372036854775808 0
theorem pB (n:Bool):(HY n).toNat=if n then 9223372036854775808 else 0:=by cases n <;> rfl
theorem Ev (n:Bool) (x:UInt64) (h:x.toNat<9223372036854775808):(HY n ||| x).toNat=x.toNat+(HY n).toNat:=by
 rw [UInt64.toNat_or,pB]
 cases n
 ·simp
 ·have:=ov (a:=1) (k:=63) (b:=x.toNat) h
  rw [aG rfl]
  rw [show (9223372036854775808:Nat)=1 * 2 ^ 63 by decide,this];omega
theorem yP (p:Nat) (n:Bool) (h:p<9223372036854775808):Nr.pat (some (p+if n then 9223372036854775808 else 0))=UInt64.ofNat (p+(HY n).toNat):=by rw [pB];rfl
theorem cZ.gw (n:Bool) (m:UInt64) (e:Int) (he : -1100≤e∧e≤2000):cZ.j1 m e (HY n)=some [.u64 (Nr.pat (Nr.join n m.toNat e)),.b (Nr.join n m.toNat e).isSome]:=by
 refine cZ.jR _ _ _ ?_
 intro v1 h1 v2 h2 v3 h3 v4 h4 v5 h5 v6 h6 v7 h7 v8 h8 v9 h9 v10 kP v11 mf v12 lT pR Au mL zA mM Bj
 by_cases c0:m=0
 ·subst c0
  rw [ae rfl,aD]
  have:(0:UInt64).toNat=0:=rfl
  rw [this,Nr.LM,yP _ _ (by omega)]
  congr 2
  cases n <;> rfl
 ·have SM:0<m.toNat:=by
   have:m.toNat≠0:=fun h=>c0 (jr h)
   omega
  have eW:=m.toNat_lt
  obtain ⟨q,hq,hc⟩:=Lib.ctzFrom_spec 64 m.toNat SM (by rw [show (2:Nat) ^ 64=18446744073709551616 by decide];exact eW)
  have WX:Lib.ctz 64 m.toNat=Lib.ctzFrom 64 m.toNat:=by unfold Lib.ctz;rw [aE (by omega)]
  generalize hz:Lib.ctzFrom 64 m.toNat=z at *
  rw [WX] at h2
  have jI:m.toNat=(2 * q+1) * 2 ^ z:=by rw [hq,Nat.mul_comm]
  have FU:(iN m v2.toNat).toNat=2 * q+1:=by
   rw [gB,h2,au,jI,Nat.mul_div_cancel _ (Nat.two_pow_pos z)]
  have hL:=Nt.kF (n:=2 * q+1) (k:=64) (by rw [←FU];exact (iN m v2.toNat).toNat_lt)
  obtain ⟨_,_,Xf⟩:=Nt.iT (n:=2 * q+1) (by omega)
  rw [FU] at h3
  generalize UB:Nt.bits (2 * q+1)=L at *
  have ew:IntKind.i64.wrap (e+v2)=e+z:=by rw [h2,i64_in _ (by omega)]
  rw [ew] at h4 h5 h8 lT
  have e5:v5=e+z+L:=by rw [h5,h3,i64_in _ (by omega)]
  have e7:v7=e+z+L - 1:=by rw [h7,e5,i64_in _ (by omega)]
  have e8:v8=e+z+1074:=by rw [h8,i64_in _ (by omega)]
  have yh:v10=53 - L:=by rw [kP,h3,i64_in _ (by omega)]
  have My:v12=e+z - (53 - L):=by rw [lT,yh,i64_in _ (by omega)]
  have Mx:pR=e+z - (53 - L)+1075:=by rw [Au,My,i64_in _ (by omega)]
  have e1:v1=false:=by rw [h1,af (show ¬e < -2000 by omega),af (show ¬2000<e by omega)];rfl
  have e4:v4=decide (53<L∨e+z < -1074):=by
   rw [h4,h3,Bool.decide_or]
   have:decide ((53:Int)<(L:Int))=decide (53<L):=by
    by_cases c:53<L
    ·rw [ae c,ae (by omega)]
    ·rw [af c,af (by omega)]
   rw [this];cases decide (53<L) <;> rfl
  have e6:v6=decide (53<L∨e+z < -1074∨1024<e+z+L):=by
   rw [h6,e4,e5]
   by_cases c:53<L∨e+z < -1074
   ·rw [ae c,aD,ae (by omega)]
   ·rw [af c,aw]
    by_cases d:1024<e+z+L
    ·rw [ae d,ae (by omega)]
    ·rw [af d,af (by omega)]
  have kb:∀b:Bool,(!(!b) || !b)=true∧(b || !b)=true∧(!(!b) || (!b&&!b))=true:=by decide
  rw [af c0,aw,e1,bE (kb _).1,bE (kb _).2.1,aw,bE (ae (by omega)),bE (kb _).1,bE (kb _).2.1,bE (kb _).2.2,bE (kb _).1,bE (kb _).2.1,e6]
  by_cases c:53<L∨e+z < -1074∨1024<e+z+L
  ·rw [ae c,aD,Nr.FH (m':=2 * q+1) (n:=z) n jI (by omega) (by omega)];rfl
  ·rw [af c,aw]
   obtain ⟨k,hk⟩:=Int.eq_ofNat_of_zero_le (show 0≤e+z+1074 by omega)
   obtain ⟨t1,t2⟩:=Nr.Gw (m':=2 * q+1) (k:=k) (by omega) (by omega) (by omega)
   have t3:=Nr.Mv _ _ t1
   rw [Nr.FI (m':=2 * q+1) (n:=z) (k:=k) n jI (by omega) hk (by omega) (by omega),yP _ _ t3]
   by_cases d:e+z+L - 1 < -1022
   ·rw [e7,ae d,aD,bE (ae (by omega))]
    have S1:Nr.enc (2 * q+1) k=(2 * q+1) * 2 ^ k:=by unfold Nr.enc;rw [aG (by omega)]
    rw [S1] at t3 ⊢
    have e9:v9.toNat=(2 * q+1) * 2 ^ k:=by
     rw [h9,ma,FU,e8,hk,au];omega
    have:HY n ||| v9=UInt64.ofNat ((2 * q+1) * 2 ^ k+(HY n).toNat):=by
     apply jr
     rw [Ev _ _ (by omega),e9,jq,pB]
     cases n
     ·simp;omega
     ·simp;omega
    rw [this];rfl
   ·rw [e7,af d,aw,bE (ae (by omega))]
    obtain ⟨b1,b2⟩:=Nr.CB (m':=2 * q+1) (by omega) (by omega)
    have S1:Nr.enc (2 * q+1) k=(k - (53 - L)+1) * 4503599627370496+((2 * q+1) * 2 ^ (53 - L) - 4503599627370496):=by unfold Nr.enc;rw [aE (by omega),UB]
    rw [UB] at b1 b2
    have Tw:v10.toNat=53 - L:=by omega
    have Qe:v11.toNat=(2 * q+1) * 2 ^ (53 - L):=by rw [mf,ma,FU,Tw];omega
    have XB:mM.toNat=(2 * q+1) * 2 ^ (53 - L) - 4503599627370496:=by rw [Bj,A4,Qe];omega
    have Tv:pR=((k - (53 - L)+1:Nat):Int):=by omega
    have Mw:mL.toNat=(k - (53 - L)+1) * 4503599627370496:=by
     rw [zA,ma,Tv,tG]
     have:(k - (53 - L)+1)<2048:=by omega
     show (k - (53 - L)+1) % 18446744073709551616 * 4503599627370496 % 18446744073709551616=_
     omega
    have Xk:(mL ||| mM).toNat=Nr.enc (2 * q+1) k:=by
     rw [UInt64.toNat_or,Mw,XB,S1]
     exact ov (k:=52) (by omega)
    have:(HY n ||| mL) ||| mM=UInt64.ofNat (Nr.enc (2 * q+1) k+(HY n).toNat):=by
     apply jr
     rw [UInt64.or_assoc,Ev _ _ (by omega),Xk,jq,pB]
     cases n
     ·simp;omega
     ·simp;omega
    rw [this];rfl
theorem cZ.goal (n:Bool) (m:UInt64) (e:Int) (hp:decide (-1100≤e∧e≤2000)=true):cZ.F n m e=some [.u64 (Nr.pat (Nr.join n m.toNat e)),.b (Nr.join n m.toNat e).isSome]:=by
 rw [cZ.iC]
 cases n
 ·exact cZ.gw false m e (aM hp)
 ·exact cZ.gw true m e (aM hp)
end Go.Eng
namespace Go.Eng
open Go.IntWalk
theorem Fq (x:UInt64):(x &&& (2047:UInt64)).toNat=x.toNat % 2048:=by
 rw [UInt64.toNat_and]
 exact Nat.and_two_pow_sub_one_eq_mod x.toNat 11
theorem df.goal (b:UInt64):df.F b=some [.i .i64 (Nr.split b).1,.b (Nr.split b).2.1,.u64 (Nr.split b).2.2.1,.i .i64 (Nr.split b).2.2.2]:=by
 refine df.eh _ ?_
 intro v1 h1 v2 h2 v3 h3 v4 h4 v5 h5 v6 h6 v7 h7 v8 h8
 have hb:=b.toNat_lt
 have hv1:v1.toNat=b.toNat / 9223372036854775808:=by rw [h1,gB];rfl
 have hv2:v2.toNat=b.toNat / 4503599627370496:=by rw [h2,gB];rfl
 have e3:v3=((b.toNat / 4503599627370496 % 2048:Nat):Int):=by rw [h3,Fq,hv2,i64_in _ (by omega)]
 have e4:v4.toNat=b.toNat % 4503599627370496:=by rw [h4,A4]
 have en:decide (v1=1)=decide (9223372036854775808≤b.toNat):=by
  by_cases c:9223372036854775808≤b.toNat
  ·rw [ae c,ae (jr (by rw [hv1];show _=1;omega))]
  ·rw [af c,af (fun h=>by have:=congrArg UInt64.toNat h;rw [hv1] at this;have e1:(1:UInt64).toNat=1:=rfl;omega)]
 have ef:decide (v4=0)=decide (b.toNat % 4503599627370496=0):=by
  by_cases c:b.toNat % 4503599627370496=0
  ·rw [ae c,ae (jr (by rw [e4];exact c))]
  ·rw [af c,af (fun h=>by have:=congrArg UInt64.toNat h;rw [e4] at this;exact c this)]
 have Xz:v4=UInt64.ofNat (b.toNat % 4503599627370496):=jr (by rw [e4,jq];omega)
 have e7:v7=UInt64.ofNat (4503599627370496+b.toNat % 4503599627370496):=jr (by
  rw [h7,UInt64.toNat_add,e4,jq];rfl)
 have e8:v8=((b.toNat / 4503599627370496 % 2048:Nat):Int) - 1075:=by rw [h8,e3,i64_in _ (by omega)]
 have kb:∀b:Bool,(!b || b)=true:=by decide
 rw [bE (kb _),bE (kb _),bE (kb _),bE (kb _),en]
 unfold Nr.split
 simp only
 rw [ef] at h5 h6
 generalize b.toNat / 4503599627370496 % 2048=x at *
 by_cases c1:x=2047
 ·rw [aG c1]
  have e5:v5=false:=by rw [h5,af (by omega),aw]
  have GC:decide (v3=2047)=true:=ae (by omega)
  rw [GC,aD] at h6
  rw [e5,aw,h6,GC]
  by_cases c2:b.toNat % 4503599627370496=0
  ·rw [ae c2,aD,aG c2]
  ·rw [af c2,aw,aD,aE c2]
 ·rw [aE c1]
  have GC:decide (v3=2047)=false:=af (by omega)
  rw [GC,aw] at h6
  rw [h6,GC,aw,aw]
  by_cases c2:x=0
  ·have GD:decide (v3=0)=true:=ae (by omega)
   rw [GD,aD] at h5
   rw [h5,GD,aG c2,aD]
   by_cases c3:b.toNat % 4503599627370496=0
   ·rw [ae c3,aD,aG c3]
   ·rw [af c3,aw,aE c3,Xz]
  ·have GD:decide (v3=0)=false:=af (by omega)
   rw [GD,aw] at h5
   rw [h5,GD,aE c2,aw,aw,e7,e8]
theorem da.goal (a:bO) (x:Int) (b:bO) (y:Int):da.F a x b y=some [.i .i64 (Nr.gf a x b y)]:=by
 refine da.eh _ _ _ _ ?_
 intro v1 h1 v2 h2 v3 h3 v4 h4
 have e3:v3=(decide (x<y) || (decide (x=y)&&Op.bytesLess a b)):=by
  rw [h3,h2];cases decide (x<y) <;> cases decide (x=y) <;> rfl
 have e4:v4=(decide (x=y)&&decide (a=b)):=by rw [h4];cases decide (x=y) <;> rfl
 unfold Nr.gf
 rw [h1,e3,e4]
 cases decide (x<y) <;> cases decide (x=y) <;> cases Op.bytesLess a b <;> cases decide (a=b) <;> rfl
end Go.Eng
namespace Go.Eng
namespace Nr
theorem Ly {p q:Nat} (h:p<q):nC p<nC q:=by
 rw [lL,lL]
 have h1:=Aj h
 have h2:=Aj (show p+1<q+1 by omega)
 omega
theorem vi {a b p q:Nat} (hb:0<b) (h:fK a b p) (hq:q<p):fK a b q:=by
 have h1:nC q * b<nC p * b:=Nat.mul_lt_mul_of_pos_right (Ly hq) hb
 rcases h with h | ⟨h,_⟩
 ·exact .inl (Nat.lt_trans h1 h)
 ·exact .inl (by omega)
theorem ly {a b p:Nat} (hb:0<b) (hp:p≤top) (h1:¬fK a b p) (h2:p=0∨fK a b (p - 1)):gq a b=some p:=by
 classical
 have nJ:∀q,q<p→fK a b q:=fun q hq=>by
  rcases h2 with h2 | h2
  ·omega
  ·by_cases c:q=p - 1
   ·rw [c];exact h2
   ·exact vi hb h2 (by omega)
 have hx:∃p,p≤top∧¬fK a b p∧∀q,q<p→fK a b q:=⟨p,hp,h1,nJ⟩
 unfold gq
 rw [dif_pos hx]
 obtain ⟨_,c2,c3⟩:=hx.choose_spec
 congr 1
 rcases Nat.lt_trichotomy hx.choose p with c | c | c
 ·exact (c2 (nJ _ c)).elim
 ·exact c
 ·exact (h1 (c3 _ c)).elim
theorem sa {a b:Nat} (hb:0<b) (h:fK a b top):gq a b=none:=by
 classical
 unfold gq
 rw [dif_neg]
 rintro ⟨p,h1,h2,_⟩
 rcases Nat.lt_or_eq_of_le h1 with c | c
 ·exact h2 (vi hb h c)
 ·exact h2 (by rw [c];exact h)
theorem Ai {a b c p:Nat} (hc:0<c):fK (a * c) (b * c) p ↔ fK a b p:=by
 unfold fK
 rw [←Nat.mul_assoc,Nat.mul_right_comm a c]
 constructor
 ·rintro (h | ⟨h,o⟩)
  ·exact .inl (Nat.lt_of_mul_lt_mul_right h)
  ·exact .inr ⟨Nat.eq_of_mul_eq_mul_right hc h,o⟩
 ·rintro (h | ⟨h,o⟩)
  ·exact .inl (Nat.mul_lt_mul_of_pos_right h hc)
  ·exact .inr ⟨by rw [h],o⟩
theorem uN {a b c:Nat} (hc:0<c):gq (a * c) (b * c)=gq a b:=by
 have e:fK (a * c) (b * c)=fK a b:=funext fun p=>propext (Ai hc)
 unfold gq
 rw [e]
theorem uP {a b c d:Nat} (hb:0<b) (hd:0<d) (h:a * d=c * b):gq a b=gq c d:=by
 rw [←uN (a:=a) (b:=b) hd,h,Nat.mul_comm b d,uN hb]
theorem yJ {a b c d:Nat} (h:a+b=c+d):2 ^ a * 2 ^ b=2 ^ c * 2 ^ d:=by rw [←Nat.pow_add,h,Nat.pow_add]
theorem mul_two {a T U:Nat} (h:U=2 * T):a * U=2 * (a * T):=by rw [h,Nat.mul_left_comm]
theorem KZ (k:Nat):2 ^ (6+k)=64 * 2 ^ k:=by rw [Nat.pow_add]
theorem Fp {n b p q r s:Nat} (h:p * q=r * s):n * p * b * q=n * (b * r) * s:=by
 rw [Nat.mul_assoc n p,Nat.mul_assoc n,Nat.mul_right_comm p,h,Nat.mul_assoc n,Nat.mul_comm (r * s),Nat.mul_assoc b]
theorem iL:fW=2 * 2 ^ 1074:=by decide +kernel
theorem C5 {p q b a:Nat} (h:p * b≤a):p * q * b≤a * q:=by
 rw [Nat.mul_right_comm];exact ar _ h
theorem Pb {v p q b a:Nat} (hv:v=p * q) (h:p * b≤a):v * b≤a * q:=by subst hv;exact C5 h
theorem Ij {a b p:Nat} (hb:0<b) (h1:V p * b≤a * 2 ^ 1074) (h2:a * 2 ^ 1074<V (p+1) * b) (hp:p≤top) [Decidable (fK a b p)] :
  gq a b=if fK a b p then (if p+1≤top then some (p+1) else none) else some p:=by
 have e:a * fW=2 * (a * 2 ^ 1074):=mul_two iL
 split
 ·rename_i h
  split
  ·rename_i ht
   refine ly hb ht ?_ (.inr h)
   unfold fK
   rw [e,lL,Nat.add_mul]
   have:=Nat.mul_lt_mul_of_pos_right (lC (p+1)) hb
   omega
  ·rename_i ht
   have:p=top:=by omega
   exact sa hb (this ▸ h)
 ·rename_i h
  refine ly hb hp h ?_
  by_cases c:p=0
  ·exact .inl c
  ·refine .inr (.inl ?_)
   rw [e,lL,Nat.add_mul,show p - 1+1=p by omega]
   have:=Nat.mul_lt_mul_of_pos_right (Aj (show p - 1<p by omega)) hb
   omega
theorem Fm {a b p:Nat} (hb:0<b) (h1:V p * b≤a * 2 ^ 1074) (hp:top<p):gq a b=none:=by
 refine sa hb (.inl ?_)
 have e:a * fW=2 * (a * 2 ^ 1074):=mul_two iL
 rw [e,lL,Nat.add_mul]
 have h3:=Nat.mul_lt_mul_of_pos_right (Aj (show top<p by omega)) hb
 have h4:=ar b (Qq (show top+1≤p by omega))
 omega
theorem C2 (b:Nat) (hb:0<b):gq 0 b=some 0:=by
 refine ly hb (Nat.zero_le _) ?_ (.inl rfl)
 unfold fK
 rw [Nat.zero_mul]
 have:0<nC 0 * b:=Nat.mul_pos (by decide) hb
 omega
theorem Fk {a b:Nat} (hb:0<b) (h:a * fW≤b):gq a b=some 0:=by
 refine ly hb (Nat.zero_le _) ?_ (.inl rfl)
 unfold fK
 have e:nC 0 * b=b:=by rw [show nC 0=1 by decide,Nat.one_mul]
 rw [e]
 omega
def wM:Nat:=2 ^ 1024
theorem MN:V (top+1)=wM * 2 ^ 1074:=by decide +kernel
theorem C3 {a b:Nat} (hb:0<b) (h:wM * b≤a):gq a b=none:=by
 refine sa hb (.inl ?_)
 rw [lL,Nat.add_mul]
 have h3:=Nat.mul_lt_mul_of_pos_right (lC top) hb
 have h4:V (top+1) * b≤a * 2 ^ 1074:=by
  exact Pb MN h
 have e:a * fW=2 * (a * 2 ^ 1074):=mul_two iL
 omega
theorem Ik {a b p:Nat} (h:gq a b=some p):p≤top:=by
 unfold gq at h
 split at h
 ·rename_i hx
  have:=hx.choose_spec.1
  injection h with h
  rw [h] at this;exact this
 ·cases h
end Nr
end Go.Eng
namespace Go.Eng
open Go.IntWalk
theorem yu {a b:List UInt16} (i:Nat) (ha:i<a.length) (hb:i<b.length) (h:(a.getD i 0).toNat<(b.getD i 0).toNat):Nt.val (a.take (i+1))<Nt.val (b.take (i+1)):=by
 rw [dA a i ha,dA b i hb]
 have h1:=Nt.gH (a.take i)
 rw [aJ,Nat.min_eq_left (by omega)] at h1
 generalize (a.getD i 0).toNat=x at *
 generalize (b.getD i 0).toNat=y at *
 have:65536 ^ i * x+65536 ^ i≤65536 ^ i * y:=by
  rw [←Nat.mul_succ];exact Nat.mul_le_mul_left _ (by omega)
 omega
theorem xN {a b:List UInt16} (hl:a.length=b.length) (i:Nat) (h:a.drop i=b.drop i):(Nt.val a<Nt.val b ↔ Nt.val (a.take i)<Nt.val (b.take i))∧(Nt.val a=Nt.val b ↔ Nt.val (a.take i)=Nt.val (b.take i)):=by
 have e1:Nt.val a=Nt.val (a.take i)+65536 ^ (a.take i).length * Nt.val (a.drop i):=by rw [←Nt.fG,List.take_append_drop]
 have e2:Nt.val b=Nt.val (b.take i)+65536 ^ (b.take i).length * Nt.val (b.drop i):=by rw [←Nt.fG,List.take_append_drop]
 have e3:(b.take i).length=(a.take i).length:=by rw [aJ,aJ,hl]
 rw [e3,←h] at e2
 omega
theorem dm.fj (a b:List UInt16) (hl:a.length=b.length) (hb:a.length≤1099511627776):∀(n:Nat),n≤a.length→a.drop n=b.drop n→dm.l1 a b ((n:Int) - 1)=some [.i .i64 (Nt.cmp (Nt.val a) (Nt.val b))]:=by
 intro n
 induction n with
 | zero =>
  intro hn hd
  refine dm.dB _ _ _ ?_
  intro v1 h1 v2 h2 v3 h3
  simp only [aT] at hd
  rw [af (by omega),aw,hd,Nt.cmp,aE (by omega),aG rfl]
 | succ n ih =>
  intro hn hd
  refine dm.dB _ _ _ ?_
  intro v1 h1 v2 h2 v3 h3
  have e:((n+1:Nat):Int) - 1=(n:Int):=by omega
  rw [e] at h1 h2 h3 ⊢
  rw [au] at h1 h2
  rw [ae (by omega),aD,bE (cQ (by omega) (by omega)),bE (cQ (by omega) (by omega))]
  obtain ⟨d1,d2⟩:=xN hl (n+1) hd
  by_cases c:v1=v2
  ·rw [ae c,a8,aw,h3,i64_in _ (by omega)]
   refine ih (by omega) ?_
   rw [drop_cons (show n<a.length by omega) 0,drop_cons (show n<b.length by omega) 0,hd,←h1,←h2,c]
  ·rw [af c,bq,aD,bE (cQ (by omega) (by omega)),bE (cQ (by omega) (by omega))]
   by_cases c2:v1<v2
   ·have:=yu (a:=a) (b:=b) n (by omega) (by omega) (by rw [←h1,←h2];exact UInt16.lt_iff_toNat_lt.1 c2)
    rw [ae c2,aD,Nt.cmp,aG (d1.2 this)]
   ·have h4:v2.toNat<v1.toNat:=by
     have h5:v1.toNat≠v2.toNat:=fun e=>c (UInt16.toNat_inj.1 e)
     rw [UInt16.lt_iff_toNat_lt] at c2;omega
    have:=yu (a:=b) (b:=a) n (by omega) (by omega) (by rw [←h1,←h2];exact h4)
    rw [af c2,aw,Nt.cmp,aE (fun e=>by have:=d1.1 e;omega),aE (fun e=>by have:=d2.1 e;omega)]
theorem dm.goal (a b:List UInt16) (hp:(decide (a.length≤1099511627776∧b.length≤1099511627776)&&(Nt.norm a&&Nt.norm b))=true):dm.F a b=some [.i .i64 (Nt.cmp (Nt.val a) (Nt.val b))]:=by
 simp only [aa,az] at hp
 obtain ⟨⟨l1,l2⟩,n1,n2⟩:=hp
 refine dm.eh _ _ ?_
 intro v1 h1
 rcases Nat.lt_trichotomy a.length b.length with c | c | c
 ·have:=Nt.se n2 c
  rw [af (show ¬(a.length:Int)=b.length by omega),bq,aD,ae (by omega),aD,Nt.cmp,aG this]
 ·rw [ae (show (a.length:Int)=b.length by omega),a8,aw,h1,xk l1]
  exact dm.fj a b c l1 a.length (Nat.le_refl _) (by rw [List.drop_length,c,List.drop_length])
 ·have:=Nt.se n1 c
  rw [af (show ¬(a.length:Int)=b.length by omega),bq,aD,af (by omega),aw,Nt.cmp,aE (by omega),aE (by omega)]
theorem eg.goal (a b:List UInt16) (hp:(Nt.is a&&Nt.is b)=true):eg.F a b=some [.i .i64 (Nt.cmp (Nt.val a) (Nt.val b))]:=by
 simp only [aa] at hp
 have l1:=Nt.jd hp.1
 have l2:=Nt.jd hp.2
 refine eg.eh _ _ ?_
 intro v1 h1 v2 h2
 rw [hp.1,hp.2] at h1
 rw [hp.1]
 have e1:v1=false:=h1
 have d1:decide (a.length≤1099511627776)=true:=ae (by omega)
 have d2:decide (b.length≤1099511627776)=true:=ae (by omega)
 have d3:decide (a.length≤1099511627776∧b.length≤1099511627776)=true:=ae ⟨by omega,by omega⟩
 rw [d1,d2,d3,e1,h2,Nt.iZ hp.1,Nt.iZ hp.2]
 rfl
theorem bT.fj (a:List UInt16) (ha:a.length≤256):∀(m i:Nat) (acc:List Int),i+m=a.length→acc.length=a.length→(acc.take i)=(a.take i).map (fun d=>(d.toNat:Int))→bT.l1 a a.length i acc=some [.sl .is (a.map fun d=>(d.toNat:Int))]:=by
 intro m
 induction m with
 | zero =>
  intro i acc hi hl ht
  refine bT.dB _ _ _ _ ?_
  intro v1 h1 v2 h2 v3 h3 v4 h4
  rw [List.take_of_length_le (by omega),List.take_of_length_le (by omega)] at ht
  rw [af (by omega),aw,ht]
 | succ m ih =>
  intro i acc hi hl ht
  refine bT.dB _ _ _ _ ?_
  intro v1 h1 v2 h2 v3 h3 v4 h4
  rw [au] at h1 h3
  have hv:=v1.toNat_lt
  rw [i64_in _ (by omega)] at h2
  have e4:v4=((i+1:Nat):Int):=by rw [h4,i64_in _ (by omega)];omega
  rw [ae (by omega),aD,bE (cQ (by omega) (by omega)),bE (cQ (by omega) (by omega)),bE (ae (by rw [au];omega)),e4]
  refine ih (i+1) v3 (by omega) (by rw [h3,List.length_set];exact hl) ?_
  have J9:i<a.length:=by omega
  rw [h3,List.take_set,List.take_add_one,List.take_add_one,List.map_append,ht.symm]
  have PL:i<acc.length:=by omega
  rw [aA PL,aA J9]
  have eW:(acc.take i).length=i:=by rw [aJ];omega
  simp only [Option.toList_some,ah,aq]
  rw [List.set_append_right _ _ (by omega),eW,Nat.sub_self,List.set_cons_zero,h2,h1,ak,aA J9]
  rfl
theorem bT.goal (a:List UInt16) (hp:decide (a.length≤256)=true):bT.F a=some [.sl .is (a.map fun d=>(d.toNat:Int))]:=by
 have h:=aM hp
 refine bT.eh _ ?_
 intro v1 h1
 rw [au] at h1
 rw [bE (jP.2 ⟨by omega,by omega,by omega,by rw [iY];omega⟩)]
 exact bT.fj a h a.length 0 v1 (by omega) (by rw [h1];simp) (by simp)
end Go.Eng
namespace Go.Eng
open Go.IntWalk
theorem Nt.zN (k n:Nat):Nt.fix (k+1) n=Nt.fix k n++[UInt16.ofNat (n / 65536 ^ k)]:=by
 induction k generalizing n with
 | zero=>simp [Nt.fix]
 | succ k ih =>
  rw [Nt.fix,ih (n / 65536),Nt.fix,List.cons_append,Nat.div_div_eq_div_mul,Nat.pow_succ,Nat.mul_comm 65536]
theorem Nt.Lu {k n:Nat} (h1:n<65536 ^ k) (h2:k=0∨65536 ^ (k - 1)≤n):Nt.of n=Nt.fix k n:=by
 have e:Nt.val (Nt.fix k n)=n:=by rw [Nt.px,Nat.mod_eq_of_lt h1]
 conv=>lhs;rw [←e]
 refine Nt.iR ?_
 rcases h2 with rfl | h2
 ·rfl
 ·cases k with
  | zero=>rfl
  | succ k =>
   rw [Nt.zN,Nt.mX]
   rw [Nat.add_sub_cancel] at h2
   refine ae fun e0=>?_
   have:=congrArg UInt16.toNat e0
   rw [Nt.dE] at this
   have h3:n / 65536 ^ k<65536:=(Nat.div_lt_iff_lt_mul (Nat.pow_pos (by omega))).2 (by rw [Nat.pow_succ,Nat.mul_comm] at h1;exact h1)
   have h4:0<n / 65536 ^ k:=Nat.div_pos h2 (Nat.pow_pos (by omega))
   have e0:(0:UInt16).toNat=0:=rfl
   omega
theorem ob (n:Nat):UInt16.ofInt (n:Int)=UInt16.ofNat n:=ns n
theorem xI (n:Nat):Int.fdiv (n:Int) (2 ^ (min (16:UInt64).toNat IntKind.i64.bits))=((n / 65536:Nat):Int):=by
 rw [show (2:Int) ^ (min (16:UInt64).toNat IntKind.i64.bits)=65536 by decide,Int.fdiv_eq_ediv_of_nonneg _ (by omega)]
 omega
theorem cA.fj (a:List UInt16) (b c:Nat) (ha:a.length≤1000000) (hb:1≤b∧b≤65535) (hc:c≤65535) (hn:Nt.norm a=true):∀(m i:Nat) (acc:List UInt16) (k:Nat),i+m=a.length→acc.length=i→k≤65535→Nt.val acc+65536 ^ i * k=Nt.val (a.take i) * b+c →
  cA.l1 b acc k a a.length i=some [.sl .ws (Nt.of (Nt.val a * b+c))]:=by
 intro m
 induction m with
 | zero =>
  intro i acc k hi hl hk hv
  refine cA.dB _ _ _ _ _ _ ?_
  intro v1 h1 v2 h2 v3 h3 v4 h4 v5 h5 v6 h6 v7 h7
  rw [List.take_of_length_le (by omega)] at hv
  rw [af (by omega),aw]
  have J9:i=a.length:=by omega
  by_cases c0:k=0
  ·subst c0
   rw [af (by omega),aw,cA.oD,←hv,Nat.mul_zero,Nat.add_zero,Nt.iR]
   by_cases h0:a=[]
   ·subst h0
    have:acc=[]:=aS (by rw [hl,J9];rfl)
    rw [this];rfl
   ·-- the last digit is no Rm
    have nT:=mY hn h0
    have J7:=List.length_pos_iff.2 h0
    have To:acc≠[]:=by intro e;subst e;simp at hl;omega
    rw [mZ To]
    simp only [Bool.not_eq_true',decide_eq_false_iff_not]
    intro e0
    have HD:=dA acc (acc.length - 1) (by omega)
    rw [show acc.length - 1+1=acc.length by omega,List.take_length,e0] at HD
    have eW:=Nt.gH (acc.take (acc.length - 1))
    rw [aJ,Nat.min_eq_left (by omega),hl,J9] at eW
    rw [hl,J9] at HD
    have h5:65536 ^ (a.length - 1) * 1≤65536 ^ (a.length - 1) * (a.getD (a.length - 1) 0).toNat:=Nat.mul_le_mul_left _ nT.1
    have h6:Nt.val a * 1≤Nt.val a * b:=Nat.mul_le_mul_left _ hb.1
    have Qf:(0:UInt16).toNat=0:=rfl
    rw [Qf] at HD
    omega
  ·have e7:v7=[UInt16.ofNat k]:=by rw [h7,ob]
   rw [ae (by omega),aD,bE (ig (by rw [e7,ay];omega) (by rw [e7,ay];omega)),cA.oD,e7,←hv]
   have e8:Nt.val (acc++[UInt16.ofNat k])=Nt.val acc+65536 ^ i * k:=by
    rw [Nt.fG,hl];simp only [Nt.val,Nat.mul_zero,Nat.add_zero,Nt.dE];rw [Nat.mod_eq_of_lt (by omega)]
   rw [←e8,Nt.iR]
   rw [Nt.mX]
   refine ae fun e=>?_
   have:=congrArg UInt16.toNat e
   rw [Nt.dE] at this
   have e0:(0:UInt16).toNat=0:=rfl
   omega
 | succ m ih =>
  intro i acc k hi hl hk hv
  refine cA.dB _ _ _ _ _ _ ?_
  intro v1 h1 v2 h2 v3 h3 v4 h4 v5 h5 v6 h6 v7 h7
  rw [au] at h1
  have hd:=v1.toNat_lt
  rw [i64_in _ (by omega)] at h2
  have hm:v1.toNat * b≤65535 * 65535:=Nat.mul_le_mul (by omega) hb.2
  have e3:v3=((k+v1.toNat * b:Nat):Int):=by
   have e:v2 * (b:Int)=((v1.toNat * b:Nat):Int):=by rw [h2,Int.natCast_mul]
   rw [h3,e,i64_in ((v1.toNat * b:Nat):Int) (by omega),i64_in _ (by omega)];omega
  have e4:v4=[UInt16.ofNat (k+v1.toNat * b)]:=by rw [h4,e3,ob]
  have e5:v5=(((k+v1.toNat * b) / 65536:Nat):Int):=by rw [h5,e3,xI]
  have e6:v6=((i+1:Nat):Int):=by rw [h6,i64_in _ (by omega)];omega
  rw [ae (by omega),aD,bE (cQ (by omega) (by omega)),bE (ig (by rw [e4,ay];omega) (by rw [e4,ay];omega)),e5,e6,e4]
  refine ih (i+1) _ _ (by omega) (by rw [ao,hl];rfl) (by omega) ?_
  rw [dA a i (by omega),←h1,Nt.fG,hl]
  simp only [Nt.val,Nat.mul_zero,Nat.add_zero,Nt.dE]
  generalize hq:k+v1.toNat * b=q
  rw [Nat.pow_succ,Nat.mul_assoc,Nat.add_assoc,←Nat.mul_add]
  have:q % 65536+65536 * (q / 65536)=q:=Nat.mod_add_div q 65536
  rw [this,←hq,Nat.mul_add,Nat.add_mul,←Nat.mul_assoc]
  omega
theorem cA.goal (a:List UInt16) (b c:Int) (hp:(decide (a.length≤1000000∧1≤b∧b≤65535∧0≤c∧c≤65535)&&Nt.norm a)=true):cA.F a b c=some [.sl .ws (Nt.of (Nt.val a * b.toNat+c.toNat))]:=by
 simp only [aa,az] at hp
 obtain ⟨⟨l1,b1,b2,c1,c2⟩,n1⟩:=hp
 refine cA.eh _ _ _ ?_
 intro v1 h1 v2 h2
 have e1:v1=((a.length+1:Nat):Int):=by rw [h1,i64_in _ (by omega)];omega
 rw [e1,bE (jP.2 ⟨by omega,by omega,by omega,by rw [iY];omega⟩)]
 have eb:(b.toNat:Int)=b:=by omega
 have ec:(c.toNat:Int)=c:=by omega
 have:=cA.fj a b.toNat c.toNat l1 ⟨by omega,by omega⟩ (by omega) n1 a.length 0 v2 c.toNat (by omega) (by rw [h2];rfl) (by omega) (by rw [h2];simp [Nt.val])
 rw [eb,ec] at this
 exact this
end Go.Eng
namespace Go.Eng
open Go.IntWalk
theorem cC.fj (b E:Nat) (hb:2≤b∧b≤65535) (hE:E≤1000) (eW:b ^ E<2 ^ 4096):∀(m:Nat),m≤E→cC.l1 b m (Nt.of (b ^ (E - m)))=some [.sl .ws (Nt.of (b ^ E)),.b true]:=by
 intro m
 induction m with
 | zero =>
  intro hm
  refine cC.dB _ _ _ ?_
  intro v1 h1 v2 h2
  rw [af (by omega),aw,Nat.sub_zero]
 | succ m ih =>
  intro hm
  refine cC.dB _ _ _ ?_
  intro v1 h1 v2 h2
  have hle:∀j,j≤E→b ^ j<2 ^ 4096:=fun j hj=>Nat.lt_of_le_of_lt (Nat.pow_le_pow_right (by omega) hj) eW
  have hi:=Nt.pZ (hle (E - (m+1)) (by omega))
  have hl:=Nt.jd hi
  have e1:v1=Nt.of (b ^ (E - m)):=by
   rw [h1,Nt.eJ,au,show (0:Int).toNat=0 from rfl,Nat.add_zero,←Nat.pow_succ]
   congr 2;omega
  have Ka:=Nt.pZ (hle (E - m) (by omega))
  have HF:=Nt.jd Ka
  rw [ae (by omega),aD,Nt.qO,bE (by rw [Bool.and_true];exact ae (by omega)),e1,bE (ae (by omega)),Ka,a8,aw,h2,i64_in _ (by omega)]
  rw [show ((m+1:Nat):Int) - 1=(m:Int) by omega]
  exact ih (by omega)
theorem cC.goal (b e:Int) (hp:decide (2≤b∧b≤65535∧0≤e∧e≤1000∧b.toNat ^ e.toNat<2 ^ 4096)=true):cC.F b e=some [.sl .ws (Nt.of (b.toNat ^ e.toNat)),.b true]:=by
 obtain ⟨b1,b2,e1,e2,eW⟩:=aM hp
 refine cC.eh _ _ ?_
 intro v1 h1 v2 h2 v3 h3 v4 h4
 have d1:v1=false:=by rw [h1,af (by omega),aw];exact af (by omega)
 have d2:v2=false:=by rw [h2,d1,aw];exact af (by omega)
 simp only [bA,bB,Bool.not_not,db]
 rw [d2,aw]
 by_cases c:e=0
 ·have d3:v3=true:=by rw [h3,ae c,aD]
  rw [d3,aD,c,h4,show (0:Int).toNat=0 from rfl,Nat.pow_zero];rfl
 ·have d3:v3=false:=by rw [h3,af c,aw];exact af (by omega)
  rw [d3,aw,af (by omega),aw]
  have:=cC.fj b.toNat e.toNat ⟨by omega,by omega⟩ (by omega) eW e.toNat (Nat.le_refl _)
  rw [Nat.sub_self,Nat.pow_zero,show ((b.toNat:Nat):Int)=b by omega,show ((e.toNat:Nat):Int)=e by omega] at this
  rw [h4];exact this
theorem Nr.jO (d:bO) (c:UInt8):Nr.num (d++[c])=10 * Nr.num d+(c.toNat - 48):=by
 unfold Nr.num;rw [List.foldl_append];rfl
theorem Nr.gr {c:UInt8}:Nr.eE c=true ↔ 48≤c.toNat∧c.toNat≤57:=by
 simp only [Nr.eE,az,UInt8.le_iff_toNat_le];exact Iff.rfl
theorem Nr.Lx (d:bO) (h:d.all Nr.eE=true):∀n:Nat,d.foldl (fun n c=>10 * n+(c.toNat - 48)) n<(n+1) * 10 ^ d.length:=by
 induction d with
 | nil=>intro n;simp
 | cons c d ih =>
  intro n
  rw [List.all_cons,aa,Nr.gr] at h
  rw [List.foldl_cons,aQ,Nat.pow_succ]
  refine Nat.lt_of_lt_of_le (ih h.2 _) ?_
  rw [Nat.mul_comm (10 ^ d.length),←Nat.mul_assoc]
  exact ar _ (by omega)
theorem Nr.nx (d:bO) (h:d.all Nr.eE=true):Nr.num d<10 ^ d.length:=by
 have:=Nr.Lx d h 0
 rwa [Nat.zero_add,Nat.one_mul] at this
theorem vQ {s:bO} {i:Nat} (h:i<s.length):s.take (i+1)=s.take i++[s.getD i 0]:=by
 rw [List.take_add_one,aA h,ak,aA h];rfl
theorem Hj {s:bO} {i:Nat} (hs:s.all Nr.eE=true) (h:i<s.length):48≤(s.getD i 0).toNat∧(s.getD i 0).toNat≤57:=by
 rw [ak,aA h]
 have:=aL.1 hs _ (List.getElem_mem h)
 simp only [Nr.eE,az] at this
 exact ⟨UInt8.le_iff_toNat_le.1 this.1,UInt8.le_iff_toNat_le.1 this.2⟩
theorem KI (k:Nat) (h:k≤300):10 ^ k<2 ^ 4096:=by
 have hk:∀n:Nat,n=300→10 ^ k≤10 ^ n:=fun n hn=>Nat.pow_le_pow_right (by omega) (by omega)
 exact Nat.lt_of_le_of_lt (hk 300 rfl) (by decide +kernel)
theorem cH.fj (s:bO) (hs:s.all Nr.eE=true) (hl:s.length≤300):∀(m i:Nat),i+m=s.length→cH.l1 s (Nt.of (Nr.num (s.take i))) s.length i=some [.sl .ws (Nt.of (Nr.num s)),.b true]:=by
 have eW:∀i,Nr.num (s.take i)<2 ^ 4096:=fun i=>by
  have h1:=Nr.nx (s.take i) (by rw [aL] at hs ⊢;exact fun x hx=>hs x (List.mem_of_mem_take hx))
  have h2:(s.take i).length≤300:=by rw [aJ];omega
  exact Nat.lt_of_lt_of_le h1 (Nat.le_of_lt (KI _ h2))
 intro m
 induction m with
 | zero =>
  intro i hi
  have QQ:=Nt.pZ (eW i)
  refine cH.dB _ _ _ _ ?_
  intro v1 h1 v2 h2 v3 h3 v4 h4 v5 h5
  have WC:=Nt.jd QQ
  rw [af (by omega),aw,bE (ae (by omega)),QQ,a8,aw,List.take_of_length_le (by omega)]
 | succ m ih =>
  intro i hi
  have QQ:=Nt.pZ (eW i)
  refine cH.dB _ _ _ _ ?_
  intro v1 h1 v2 h2 v3 h3 v4 h4 v5 h5
  have WC:=Nt.jd QQ
  rw [au] at h1
  obtain ⟨c1,c2⟩:=Hj hs (show i<s.length by omega)
  rw [←h1] at c1 c2
  have f1:decide (v1<(48:UInt8))=false:=af fun e=>by
   have:=UInt8.lt_iff_toNat_lt.1 e
   have e0:(48:UInt8).toNat=48:=rfl
   omega
  have f2:decide ((57:UInt8)<v1)=false:=af fun e=>by
   have:=UInt8.lt_iff_toNat_lt.1 e
   have e0:(57:UInt8).toNat=57:=rfl
   omega
  have e2:v2=false:=by rw [h2,f1,aw,f2]
  have e3:v3=((v1.toNat - 48:Nat):Int):=by
   have e:(v1 - 48).toNat=v1.toNat - 48:=UInt8.toNat_sub_of_le v1 48 (UInt8.le_iff_toNat_le.2 c1)
   rw [h3,e,i64_in _ (by omega)]
  have e5:v5=((i+1:Nat):Int):=by rw [h5,i64_in _ (by omega)];omega
  have e4:v4=Nt.of (Nr.num (s.take (i+1))):=by
   rw [h4,Nt.eJ,vQ (by omega),Nr.jO,←h1,e3,au,show (10:Int).toNat=10 from rfl,Nat.mul_comm]
  have hx:cz (i:Int) s.length=true:=cQ (by omega) (by omega)
  have hc:decide ((Nt.of (Nr.num (s.take i))).length≤1000000∧1≤(10:Int)∧(10:Int)≤65535∧0≤v3∧v3≤65535)=true:=ae (by omega)
  rw [ae (show (i:Int)<s.length by omega)]
  simp only [f1,e2,hx,hc,Nt.qO,bq,a8,Bool.false_or,Bool.or_true,Bool.true_or,bw,db,aw,aD]
  rw [e4,e5]
  exact ih (i+1) (by omega)
theorem cH.goal (s:bO) (hp:(decide (1≤s.length∧s.length≤300∧s.getD 0 0≠48)&&s.all Nr.eE)=true):cH.F s=some [.sl .ws (Nt.of (Nr.num s)),.b true]:=by
 simp only [aa,az] at hp
 obtain ⟨⟨l1,l2,l3⟩,hs⟩:=hp
 refine cH.eh _ ?_
 intro v1 h1 v2 h2 v3 h3 v4 h4
 have fO:s≠[]:=by intro e;subst e;simp at l1
 have d0:decide (s=([]:bO))=false:=af fO
 have d1:v1=false:=by rw [h1,d0,aw];exact af (by omega)
 have d2:decide (v2=(48:UInt8))=false:=by rw [h2];exact af l3
 rw [d2] at h3 h4 ⊢
 have d3:v3=false:=by rw [h3,d1];rfl
 have d4:v4=false:=h4
 have hx:cz 0 s.length=true:=cQ (by omega) (by omega)
 simp only [d0,d1,d3,d4,hx,bq,a8,Bool.false_or,Bool.or_true,Bool.true_or,bw,db,aw,aD]
 have:=cH.fj s hs l2 s.length 0 (by omega)
 rw [List.take_zero,show Nr.num []=0 from rfl,Nt.gO] at this
 exact this
theorem Iu {a acc:List UInt16} {b c k:Nat} (hn:Nt.norm a=true) (hl:acc.length=a.length) (hb:1≤b) (hk:k≤65535) (hv:Nt.val acc+65536 ^ a.length * k=Nt.val a * b+c) :
  (k=0→Nt.of (Nt.val a * b+c)=acc)∧(k≠0→Nt.of (Nt.val a * b+c)=acc++[UInt16.ofNat k]):=by
 refine ⟨fun c0=>?_,fun c0=>?_⟩
 ·subst c0
  rw [←hv,Nat.mul_zero,Nat.add_zero,Nt.iR]
  by_cases h0:a=[]
  ·subst h0
   have:acc=[]:=aS hl
   rw [this];rfl
  ·have nT:=mY hn h0
   have J7:=List.length_pos_iff.2 h0
   have To:acc≠[]:=by intro e;subst e;simp at hl;omega
   rw [mZ To]
   simp only [Bool.not_eq_true',decide_eq_false_iff_not]
   intro e0
   have HD:=dA acc (acc.length - 1) (by omega)
   rw [show acc.length - 1+1=acc.length by omega,List.take_length,e0] at HD
   have eW:=Nt.gH (acc.take (acc.length - 1))
   rw [aJ,Nat.min_eq_left (by omega),hl] at eW
   rw [hl] at HD
   have h5:65536 ^ (a.length - 1) * 1≤65536 ^ (a.length - 1) * (a.getD (a.length - 1) 0).toNat:=Nat.mul_le_mul_left _ nT.1
   have h6:Nt.val a * 1≤Nt.val a * b:=Nat.mul_le_mul_left _ hb
   have Qf:(0:UInt16).toNat=0:=rfl
   rw [Qf] at HD
   omega
 ·have e8:Nt.val (acc++[UInt16.ofNat k])=Nt.val acc+65536 ^ a.length * k:=by
   rw [Nt.fG,hl];simp only [Nt.val,Nat.mul_zero,Nat.add_zero,Nt.dE];rw [Nat.mod_eq_of_lt (by omega)]
  rw [←hv,←e8,Nt.iR]
  rw [Nt.mX]
  refine ae fun e=>?_
  have:=congrArg UInt16.toNat e
  rw [Nt.dE] at this
  have e0:(0:UInt16).toNat=0:=rfl
  omega
theorem kg (d:UInt16):(UInt32.ofInt (d.toNat:Int)).toNat=d.toNat:=by
 have h:=vO (d.toNat:Int)
 rw [wrap_u32'] at h
 have:=d.toNat_lt
 omega
theorem js (x:UInt32):UInt16.ofInt (x.toNat:Int)=UInt16.ofNat x.toNat:=ns _
theorem dy.fj (a:List UInt16) (n:Nat) (ha:a.length≤1000000) (hn:Nt.norm a=true) (Ww:n<16):∀(m i:Nat) (acc:List UInt16) (k:UInt32),i+m=a.length→acc.length=i→k.toNat<2 ^ n→Nt.val acc+65536 ^ i * k.toNat=Nt.val (a.take i) * 2 ^ n →
  dy.l1 n acc k a a.length i=some [.sl .ws (Nt.of (Nt.val a * 2 ^ n))]:=by
 have Sz:2 ^ n≤32768:=Nat.pow_le_pow_right (n:=2) (by omega) (show n≤15 by omega)
 have Ub:=Nat.two_pow_pos n
 intro m
 induction m with
 | zero =>
  intro i acc k hi hl hk hv
  refine dy.dB _ _ _ _ _ _ ?_
  intro v1 h1 v2 h2 v3 h3 v4 h4 v5 h5 v6 h6 v7 h7
  rw [List.take_of_length_le (by omega)] at hv
  rw [af (by omega),aw]
  have J9:i=a.length:=by omega
  have he:=Iu (a:=a) (acc:=acc) (b:=2 ^ n) (c:=0) (k:=k.toNat) hn (by omega) Ub (by omega) (by rw [←J9,Nat.add_zero];exact hv)
  rw [Nat.add_zero] at he
  by_cases c0:k=0
  ·rw [c0,af (by decide),aw,dy.oD,he.1 (by rw [c0];rfl)]
  ·have j7:k.toNat≠0:=fun e=>c0 (UInt32.toNat_inj.1 e)
   have e7:v7=UInt16.ofNat k.toNat:=by rw [h7,js]
   rw [ae (by rw [UInt32.lt_iff_toNat_lt];show 0<k.toNat;omega),aD,bE (ig (by rw [ay];omega) (by rw [ay];omega)),dy.oD,e7,he.2 j7]
 | succ m ih =>
  intro i acc k hi hl hk hv
  refine dy.dB _ _ _ _ _ _ ?_
  intro v1 h1 v2 h2 v3 h3 v4 h4 v5 h5 v6 h6 v7 h7
  rw [au] at h1 h3
  have hd:=v1.toNat_lt
  have hm:v1.toNat * 2 ^ n≤65535 * 32768:=Nat.mul_le_mul (by omega) Sz
  have e3:v3.toNat=k.toNat+v1.toNat * 2 ^ n:=by
   rw [h3,UInt32.toNat_or,qC,UInt32.toNat_ofNat',h2,kg,Nat.mod_eq_of_lt (by omega),Nat.or_comm,ov hk,Nat.add_comm]
  have e4:v4=UInt16.ofNat (k.toNat+v1.toNat * 2 ^ n):=by rw [h4,js,e3]
  have e5:v5.toNat=(k.toNat+v1.toNat * 2 ^ n) / 65536:=by
   rw [h5,uu,UInt32.toNat_ofNat',e3,show (16:UInt64).toNat=16 from rfl];omega
  have e6:v6=((i+1:Nat):Int):=by rw [h6,i64_in _ (by omega)];omega
  rw [ae (by omega),aD,bE (cQ (by omega) (by omega)),bE (ae (by omega)),bE (ig (by rw [ay];omega) (by rw [ay];omega)),e6,e4]
  refine ih (i+1) _ v5 (by omega) (by rw [ao,hl];rfl) ?_ ?_
  ·rw [e5]
   have:(k.toNat+v1.toNat * 2 ^ n)<65536 * 2 ^ n:=by
    have:v1.toNat * 2 ^ n≤65535 * 2 ^ n:=ar _ (by omega)
    omega
   exact (Nat.div_lt_iff_lt_mul (by omega)).2 (by rw [Nat.mul_comm (2 ^ n) 65536];exact this)
  ·rw [dA a i (by omega),←h1,Nt.fG,hl,e5]
   simp only [Nt.val,Nat.mul_zero,Nat.add_zero,Nt.dE]
   generalize hq:k.toNat+v1.toNat * 2 ^ n=q
   rw [Nat.pow_succ,Nat.mul_assoc,Nat.add_assoc,←Nat.mul_add]
   have:q % 65536+65536 * (q / 65536)=q:=Nat.mod_add_div q 65536
   rw [this,←hq,Nat.mul_add,Nat.add_mul,←Nat.mul_assoc]
   omega
theorem dy.goal (a:List UInt16) (n:Int) (hp:(decide (a.length≤1000000∧0≤n∧n<16)&&Nt.norm a)=true):dy.F a n=some [.sl .ws (Nt.of (Nt.val a * 2 ^ n.toNat))]:=by
 simp only [aa,az] at hp
 obtain ⟨⟨l1,n1,n2⟩,hn⟩:=hp
 rw [dy.iC]
 have:=dy.fj a n.toNat l1 hn (by omega) a.length 0 [] 0 (by omega) rfl (by show 0<2 ^ n.toNat;exact Nat.two_pow_pos _) (by simp [Nt.val])
 rw [show ((n.toNat:Nat):Int)=n by omega] at this
 exact this
end Go.Eng
namespace Go.Eng
open Go.IntWalk
theorem Jw:(65536:Nat) ^ 257=65536 ^ 256 * 65536:=by decide +kernel
theorem n9:∀k,Nt.val (List.replicate k 0)=0
 | 0=>rfl
 | k+1=>by rw [List.replicate_succ,Nt.val,n9 k];rfl
theorem fA.goal (a:List UInt16) (n:Int) (hp:(decide (0≤n∧n≤4096)&&Nt.is a)=true):fA.F a n=some [.sl .ws (Nt.of (Nt.val a * 2 ^ n.toNat))]:=by
 simp only [aa,az] at hp
 obtain ⟨⟨n1,n2⟩,ha⟩:=hp
 have hl:=Nt.jd ha
 have hn:=Nt.iZ ha
 refine fA.eh _ _ ?_
 intro v1 h1 v2 h2 v3 h3 v4 h4 v5 h5 v6 h6
 have d1:v1=false:=by rw [h1,ha,a8,aw];exact af (by omega)
 have d2:v2=false:=by rw [h2,d1,aw];exact af (by omega)
 rw [d2,aw] at h3
 obtain ⟨N,rfl⟩:∃N:Nat,n=N:=⟨n.toNat,by omega⟩
 have e4:v4=((N / 16:Nat):Int):=by
  rw [h4,i64_in _ (by rw [Int.tdiv_eq_ediv_of_nonneg (by omega)];omega),Int.tdiv_eq_ediv_of_nonneg (by omega)];omega
 have em:Int.tmod (N:Int) 16=((N % 16:Nat):Int):=by rw [Int.tmod_eq_emod_of_nonneg (by omega)];omega
 rw [em,au] at h6
 rw [em]
 rw [e4,au] at h5
 have Ue:v6.length≤257:=by
  rw [h6]
  refine (Nt.jA _ 257).2 ?_
  have h7:=Nt.gH a
  have h8:65536 ^ a.length≤65536 ^ 256:=Nat.pow_le_pow_right (by omega) hl
  have h9:2 ^ (N % 16)≤65536:=Nat.pow_le_pow_right (n:=2) (by omega) (show N % 16≤16 by omega)
  rewrite [Jw]
  have kP:Nt.val a * 2 ^ (N % 16)≤Nt.val a * 65536:=Nat.mul_le_mul_left _ h9
  omega
 have m1:tp v4 v4 2=true:=jP.2 ⟨by omega,by omega,by omega,by rw [iY];omega⟩
 have m2:decide (a.length≤1000000∧0≤((N % 16:Nat):Int)∧((N % 16:Nat):Int)<16)=true:=ae (by omega)
 have m3:jv (v5.length+v6.length) 2=true:=ig (by rw [h5,List.length_replicate];omega) (by rw [h5,List.length_replicate];omega)
 have m4:decide (a.length≤1099511627776)=true:=ae (by omega)
 simp only [d1,d2,ha,m1,m2,m3,m4,hn,bq,a8,Bool.false_or,Bool.or_true,Bool.true_or,bw,db,au]
 by_cases c:a=[]
 ·have d3:v3=true:=by rw [h3,c];rfl
  rw [d3,aD,c,show Nt.val []=0 from rfl,Nat.zero_mul,Nt.gO]
 ·have J7:=List.length_pos_iff.2 c
  have d3:v3=false:=by rw [h3];exact af (by omega)
  rw [d3,aw,show (!decide ((16:Int)=0))=true from rfl,db,db]
  have e:Nt.val (v5++v6)=Nt.val a * 2 ^ N:=by
   rw [Nt.fG,h5,n9,List.length_replicate,h6,Nt.eJ,Nat.zero_add,show (65536:Nat)=2 ^ 16 by decide,←Nat.pow_mul,Nat.mul_left_comm,←Nat.pow_add]
   congr 2;omega
  rw [←e,Nt.iR]
  have nT:=CZ hn c
  have Xl:v6≠[]:=by
   rw [h6,Nt.lK]
   ·simp
   ·exact Nat.mul_pos nT (Nat.two_pow_pos _)
  have:∀x y:List UInt16,y≠[]→Nt.norm (x++y)=Nt.norm y:=by
   intro x y hy
   induction x with
   | nil=>rfl
   | cons d x ih=>rw [List.cons_append,Nt.pE (by simp [hy]),ih]
  rw [this _ _ Xl,h6,Nt.qO]
where
 CZ {a:List UInt16} (h:Nt.norm a=true) (h0:a≠[]):0<Nt.val a:=Nt.qN h h0
def ng (n:Nat):List UInt16→List UInt16
 | []=>[]
 | d :: r=>UInt16.ofNat (d.toNat / 2 ^ n+(r.getD 0 0).toNat * 2 ^ (16 - n)) :: ng n r
theorem lu (n:Nat):∀a,(ng n a).length=a.length
 | []=>rfl
 | d :: r=>by rw [ng,aQ,aQ,lu n r]
theorem wz {n:Nat} (hn:n<16):∀a,Nt.val (ng n a)=Nt.val a / 2 ^ n
 | []=>by simp [ng,Nt.val]
 | d :: r=>by
  have ih:=wz hn r
  rw [ng,Nt.val,ih,Nt.val,Nt.dE]
  have hp:=Nat.two_pow_pos n
  have hd:=d.toNat_lt
  have hP:(2:Nat) ^ n * 2 ^ (16 - n)=65536:=by rw [←Nat.pow_add,show n+(16 - n)=16 by omega]
  have hR:∃h R,Nt.val r=h+65536 * R∧(r.getD 0 0).toNat=h∧h<65536:=by
   cases r with
   | nil=>exact ⟨0,0,rfl,rfl,by omega⟩
   | cons e s=>exact ⟨e.toNat,Nt.val s,rfl,rfl,e.toNat_lt⟩
  obtain ⟨h,R,e1,e2,e3⟩:=hR
  rw [e1,e2]
  generalize d.toNat=x at *
  have hq:x / 2 ^ n<2 ^ (16 - n):=(Nat.div_lt_iff_lt_mul hp).2 (by rw [Nat.mul_comm,hP];omega)
  have Mm:=Nat.two_pow_pos (16 - n)
  generalize hA:(2:Nat) ^ n=A at *
  generalize hB:(2:Nat) ^ (16 - n)=B at *
  -- left: ((x / A+h * B) % 65536)+65536 * ((h+65536 * R) / A)
  have k1:(h+65536 * R) / A=h / A+B * R:=by
   rw [←hP,Nat.mul_assoc,Nat.add_mul_div_left _ _ hp]
  have k2:(x+65536 * (h+65536 * R)) / A=x / A+B * (h+65536 * R):=by
   conv=>lhs;rw [←hP,Nat.mul_assoc]
   rw [Nat.add_mul_div_left _ _ hp,hP]
  have k3:(x / A+h * B) % 65536+65536 * (h / A)=x / A+h * B:=by
   have h1:h=A * (h / A)+h % A:=(Nat.div_add_mod h A).symm
   have h2:=Nat.mod_lt h hp
   have h3:h * B=65536 * (h / A)+(h % A) * B:=by
    conv=>lhs;rw [h1]
    rw [Nat.add_mul,Nat.mul_right_comm,hP]
   have h4:(h % A+1) * B≤A * B:=ar _ h2
   rw [hP,Nat.succ_mul] at h4
   rw [h3,←Nat.add_assoc,Nat.add_right_comm,Nat.add_mul_mod_self_left,Nat.mod_eq_of_lt (by omega)]
  rw [k1,k2,Nat.mul_add,Nat.mul_add,←Nat.add_assoc,k3,Nat.mul_comm h B,Nat.mul_left_comm 65536 B R]
  omega
theorem wA {n:Nat}:∀(a:List UInt16) (i:Nat),i<a.length→(ng n a).getD i 0=UInt16.ofNat ((a.getD i 0).toNat / 2 ^ n+(a.getD (i+1) 0).toNat * 2 ^ (16 - n))
 | [],i,h=>by simp at h
 | d :: r,0,h=>by simp [ng]
 | d :: r,i+1,h=>by
  have:=wA (n:=n) r i (by simpa using h)
  simpa [ng] using this
theorem getD_set_ne {α:Type} (l:List α) (i:Nat) (x d:α) (h:i<l.length):(l.set i x).getD i d=x:=by
 simp [ak,h]
theorem pS {α:Type} (l:List α) (i:Nat) (x d:α) (h:i<l.length):(l.set i x).take (i+1)=l.take i++[x]:=by
 rw [List.take_add_one,List.take_set_of_le (Nat.le_refl _)]
 simp [h]
theorem cB.fj (a:List UInt16) (n:Nat) (ha:a.length≤1000000) (hn:n<16):∀(m i:Nat) (acc:List UInt16),i+m=a.length→acc.length=a.length→acc.take i=(ng n a).take i →
  cB.l1 a n a a.length i acc=some [.sl .ws (Nt.of (Nt.val a / 2 ^ n))]:=by
 intro m
 induction m with
 | zero =>
  intro i acc hi hl ht
  refine cB.dB _ _ _ _ _ _ ?_
  intro v1 h1 v2 h2 v3 h3 v4 h4 v5 h5 v6 h6 v7 h7 v8 h8 v9 h9
  rw [List.take_of_length_le (by omega),List.take_of_length_le (by rw [lu];omega)] at ht
  rw [af (by omega),aw,bE (ae (by omega)),ht,wz hn]
 | succ m ih =>
  intro i acc hi hl ht
  refine cB.dB _ _ _ _ _ _ ?_
  intro v1 h1 v2 h2 v3 h3 v4 h4 v5 h5 v6 h6 v7 h7 v8 h8 v9 h9
  rw [au] at h1 h2 h4 h9
  rw [au] at h2
  have e3:v3=((i+1:Nat):Int):=by rw [h3,i64_in _ (by omega)];omega
  have e7:v7=((16 - n:Nat):Int):=by rw [h7,i64_in _ (by omega)];omega
  rw [e3,au] at h5
  rw [e7,au] at h8
  have HF:v2.length=a.length:=by rw [h2,List.length_set];exact hl
  have e4:v4=qB v1 n:=by rw [h4,h2,getD_set_ne _ _ _ _ (by omega)]
  have hx:∀l:List UInt16,l.length=a.length→cz (i:Int) l.length=true:=fun l h=>cQ (by omega) (by omega)
  rw [ae (show (i:Int)<(a.length:Int) by omega),aD,bE (hx a rfl),bE (ae (by omega)),bE (hx acc hl),bE (ae (by rw [au];omega))]
  have hd1:=v1.toNat_lt
  have hs:(qB v1 n).toNat=v1.toNat / 2 ^ n:=by
   rw [qB,UInt16.toNat_ofNat']
   exact Nat.mod_eq_of_lt (Nat.lt_of_le_of_lt (Nat.div_le_self _ _) hd1)
  have jG:=wA (n:=n) a i (by omega)
  rw [←h1] at jG
  have QH:∀(l:List UInt16) (x:UInt16),l.length=a.length→l.take i=acc.take i→x=(ng n a).getD i 0→(l.set i x).take (i+1)=(ng n a).take (i+1):=by
   intro l x h1 h2 h3
   rw [pS l i x 0 (by omega),h2,ht,List.take_add_one (l:=ng n a),aA (by rw [lu];omega),h3,ak,aA (by rw [lu];omega)]
   rfl
  by_cases c:i+1<a.length
  ·rw [e3,ae (show ((i+1:Nat):Int)<(a.length:Int) by omega),aD,bE (hx v2 HF),bE (ae (by rw [au];omega)),bE (cQ (by omega) (by omega)),bE (ae (by omega)),bE (hx v2 HF),bE (ae (by rw [au];omega))]
   refine cB.wm _ _ _ _ _ _ ?_
   intro u1 g1
   rw [g1,i64_in _ (by omega),show (i:Int)+1=((i+1:Nat):Int) by omega]
   refine ih (i+1) v9 (by omega) (by rw [h9,List.length_set,HF]) ?_
   rw [h9]
   refine QH v2 _ HF (by rw [h2,List.take_set_of_le (Nat.le_refl _)]) ?_
   rw [jG,←h5,e4]
   apply UInt16.toNat_inj.1
   have hq:v1.toNat / 2 ^ n<2 ^ (16 - n):=(Nat.div_lt_iff_lt_mul (Nat.two_pow_pos n)).2 (by rw [←Nat.pow_add,show 16 - n+n=16 by omega];exact hd1)
   have e8:v8.toNat=v5.toNat * 2 ^ (16 - n) % 65536:=by
    rw [h8,js,Nt.dE,qC,UInt32.toNat_ofNat',h6,kg];omega
   rw [UInt16.toNat_or,hs,e8,Nt.dE]
   have e9:v5.toNat * 2 ^ (16 - n) % 65536=(v5.toNat % 2 ^ n) * 2 ^ (16 - n):=by
    conv=>lhs;rw [show (65536:Nat)=2 ^ n * 2 ^ (16 - n) by rw [←Nat.pow_add,show n+(16 - n)=16 by omega]]
    rw [Nat.mul_mod_mul_right]
   have yh:(v5.toNat % 2 ^ n) * 2 ^ (16 - n)+v1.toNat / 2 ^ n<65536:=by
    have h1:=Nat.mod_lt v5.toNat (Nat.two_pow_pos n)
    have h2:(v5.toNat % 2 ^ n+1) * 2 ^ (16 - n)≤2 ^ n * 2 ^ (16 - n):=ar _ h1
    rw [←Nat.pow_add,show n+(16 - n)=16 by omega,Nat.succ_mul] at h2
    omega
   have mf:v1.toNat / 2 ^ n % 65536=v1.toNat / 2 ^ n:=Nat.mod_eq_of_lt (by omega)
   have My:(v1.toNat / 2 ^ n+v5.toNat * 2 ^ (16 - n)) % 65536=(v5.toNat % 2 ^ n) * 2 ^ (16 - n)+v1.toNat / 2 ^ n:=by
    rw [Nat.add_mod,mf,e9,Nat.add_comm,Nat.mod_eq_of_lt yh]
   rw [My,e9,Nat.or_comm,ov hq]
  ·rw [e3,af (show ¬((i+1:Nat):Int)<(a.length:Int) by omega),aw]
   refine cB.wm _ _ _ _ _ _ ?_
   intro u1 g1
   rw [g1,i64_in _ (by omega),show (i:Int)+1=((i+1:Nat):Int) by omega]
   refine ih (i+1) v2 (by omega) HF ?_
   rw [h2]
   refine QH acc _ hl rfl ?_
   rw [jG]
   apply UInt16.toNat_inj.1
   have:a.getD (i+1) 0=0:=by rw [ak,List.getElem?_eq_none (by omega)];rfl
   rw [hs,this,Nt.dE,show (0:UInt16).toNat=0 from rfl,Nat.zero_mul,Nat.add_zero,Nat.mod_eq_of_lt (Nat.lt_of_le_of_lt (Nat.div_le_self _ _) hd1)]
theorem cB.goal (a:List UInt16) (n:Int) (hp:decide (a.length≤1000000∧0≤n∧n<16)=true):cB.F a n=some [.sl .ws (Nt.of (Nt.val a / 2 ^ n.toNat))]:=by
 obtain ⟨l1,n1,n2⟩:=aM hp
 refine cB.eh _ _ ?_
 intro v1 h1
 rw [au] at h1
 rw [bE (jP.2 ⟨by omega,by omega,by omega,by rw [iY];omega⟩)]
 have:=cB.fj a n.toNat l1 (by omega) a.length 0 v1 (by omega) (by rw [h1];simp) (by simp)
 rw [show ((n.toNat:Nat):Int)=n by omega] at this
 exact this
end Go.Eng
namespace Go.Eng
open Go.IntWalk
theorem qy (a:List UInt16) (i:Nat) (h:i<a.length):Nt.val (a.drop i)=(a.getD i 0).toNat+65536 * Nt.val (a.drop (i+1)):=by
 rw [drop_cons h 0,Nt.val]
theorem dk.fj (a:List UInt16) (d:UInt16) (ha:a.length≤1000000) (hd:0<d.toNat):∀(n:Nat) (q:List UInt16) (r:UInt32),n≤a.length→q.length=a.length→Nt.val (q.drop n)=Nt.val (a.drop n) / d.toNat→r.toNat=Nt.val (a.drop n) % d.toNat →
  dk.l1 a d r ((n:Int) - 1) q=some [.sl .ws (Nt.of (Nt.val a / d.toNat)),.u16 (UInt16.ofNat (Nt.val a % d.toNat))]:=by
 intro n
 induction n with
 | zero =>
  intro q r hn hl hq hr
  refine dk.dB _ _ _ _ _ ?_
  intro v1 h1 v2 h2 v3 h3 v4 h4 v5 h5 v6 h6 v7 h7 v8 h8
  rw [aT,aT] at hq
  rw [aT] at hr
  rw [af (by omega),aw,bE (ae (by omega)),hq,h8,js,hr]
 | succ n ih =>
  intro q r hn hl hq hr
  refine dk.dB _ _ _ _ _ ?_
  intro v1 h1 v2 h2 v3 h3 v4 h4 v5 h5 v6 h6 v7 h7 v8 h8
  have e:((n+1:Nat):Int) - 1=(n:Int):=by omega
  rw [e] at h2 h6 h7 ⊢
  rw [au] at h2 h6
  have hd2:=d.toNat_lt
  have hv2:=v2.toNat_lt
  have L1:r.toNat<d.toNat:=by rw [hr];exact Nat.mod_lt _ hd
  have e4:v4.toNat=d.toNat:=by rw [h4,kg]
  have e3:v3.toNat=v2.toNat:=by rw [h3,kg]
  have e1:v1.toNat=r.toNat * 65536:=by
   rw [h1,qC,UInt32.toNat_ofNat',show (16:UInt64).toNat=16 from rfl];omega
  have Mx:(v1 ||| v3).toNat=r.toNat * 65536+v2.toNat:=by
   rw [UInt32.toNat_or,e1,e3]
   exact ov (a:=r.toNat) (b:=v2.toNat) (k:=16) hv2
  have hv4:v4≠0:=fun e0=>by
   have:=congrArg UInt32.toNat e0
   rw [e4] at this
   have Zw:(0:UInt32).toNat=0:=rfl
   omega
  have Xr:v5.toNat=(r.toNat * 65536+v2.toNat) / d.toNat:=by
   rw [h5,js,Nt.dE,UInt32.toNat_div,Mx,e4]
   refine Nat.mod_eq_of_lt ((Nat.div_lt_iff_lt_mul hd).2 ?_)
   have:(r.toNat+1) * 65536≤d.toNat * 65536:=ar _ L1
   rw [Nat.mul_comm d.toNat 65536] at this
   omega
  have er:((v1 ||| v3) % v4).toNat=(r.toNat * 65536+v2.toNat) % d.toNat:=by
   rw [UInt32.toNat_mod,Mx,e4]
  have hx:cz (n:Int) a.length=true:=cQ (by omega) (by omega)
  have HC:cz (n:Int) q.length=true:=cQ (by omega) (by omega)
  rw [ae (by omega),aD,bE hx,af hv4,bq,db,bE HC,bE (ae (by rw [au];omega)),db,h7,i64_in _ (by omega)]
  have hH:=qy a n (by omega)
  rw [←h2] at hH
  generalize Nt.val (a.drop (n+1))=H at hq hr hH
  have Xh:H=d.toNat * (H / d.toNat)+r.toNat:=by rw [hr];exact (Nat.div_add_mod H d.toNat).symm
  have Pj:v2.toNat+65536 * H=(r.toNat * 65536+v2.toNat)+d.toNat * (65536 * (H / d.toNat)):=by
   conv=>lhs;rw [Xh]
   rw [Nat.mul_add,Nat.mul_left_comm];omega
  refine ih v6 _ (by omega) (by rw [h6,List.length_set];exact hl) ?_ ?_
  ·rw [qy v6 n (by rw [h6,List.length_set];omega),h6,getD_set_ne _ _ _ _ (by omega),Xr,List.drop_set_of_lt (by omega),hq,hH,Pj,Nat.add_mul_div_left _ _ hd]
  ·rw [er,hH,Pj,Nat.add_mul_mod_self_left]
theorem dk.goal (a:List UInt16) (d:UInt16) (hp:decide (a.length≤1000000∧d≠0)=true):dk.F a d=some [.sl .ws (Nt.of (Nt.val a / d.toNat)),.u16 (UInt16.ofNat (Nt.val a % d.toNat))]:=by
 obtain ⟨l1,d0⟩:=aM hp
 have hd:0<d.toNat:=Nat.pos_of_ne_zero fun e=>d0 (UInt16.toNat_inj.1 e)
 refine dk.eh _ _ ?_
 intro v1 h1 v2 h2
 rw [au] at h1
 rw [bE (jP.2 ⟨by omega,by omega,by omega,by rw [iY];omega⟩),h2,i64_in _ (by omega)]
 exact dk.fj a d l1 hd a.length v1 0 (Nat.le_refl _) (by rw [h1];simp) (by simp [Nt.val,h1]) (by simp [Nt.val])
theorem eG.goal (a b:List UInt16) (hp:(Nt.is a&&Nt.is b&&decide (b≠[]))=true):eG.F a b=some [.sl .ws (Nt.of (Nt.val a / Nt.val b)),.sl .ws (Nt.of (Nt.val a % Nt.val b)),.b true]:=by
 simp only [aa,az] at hp
 obtain ⟨⟨ha,hb⟩,vH⟩:=hp
 have la:=Nt.jd ha
 have lb:=Nt.jd hb
 have na:=Nt.iZ ha
 have nb:=Nt.iZ hb
 have YY:=List.length_pos_iff.2 vH
 have pb:=Nt.qN nb vH
 refine eG.eh _ _ ?_
 intro v1 h1 v2 h2 v3 h3 v4 h4 v5 h5 v6 h6 v7 h7 v8 h8 v9 h9 v10 kP v11 mf v12 lT pR Au mL zA mM Bj
 rw [ha,hb] at h1
 have d1:v1=false:=h1
 have d2:v2=false:=by rw [h2,d1,aw];exact af (by omega)
 have m1:decide (a.length≤1099511627776)=true:=ae (by omega)
 have m2:decide (b.length≤1099511627776)=true:=ae (by omega)
 have m3:decide (a.length≤1099511627776∧b.length≤1099511627776)=true:=ae ⟨by omega,by omega⟩
 simp only [d1,d2,ha,m1,m2,m3,na,nb,bq,a8,Bool.false_or,Bool.or_true,Bool.true_or,bw,db,aw]
 by_cases c1:Nt.val a<Nt.val b
 ·have e3:v3=-1:=by rw [h3,Nt.cmp,aG c1]
  rw [e3,ae (by omega),aD,bE (ig (by omega) (by omega)),Nat.div_eq_of_lt c1,Nt.gO,Nat.mod_eq_of_lt c1,Nt.iR na]
 ·have e3:¬v3<0:=by rw [h3,Nt.cmp,aE c1];split <;> omega
  rw [af e3,aw]
  by_cases c2:b.length=1
  ·obtain ⟨d,rfl⟩:∃d,b=[d]:=List.length_eq_one_iff.1 c2
   have hd0:d≠0:=by simpa [Nt.norm] using nb
   have e4:v4=d:=by rw [h4];rfl
   have ev:Nt.val [d]=d.toNat:=by simp [Nt.val]
   rw [ae (by rw [c2];rfl),aD,bE (cQ (by omega) (by rw [c2];omega)),e4,bE (ae ⟨by omega,hd0⟩),h5,h7,h6,e4,ev,fY,Nt.dE]
   have hm:Nt.val a % d.toNat<d.toNat:=Nat.mod_lt _ (Nat.pos_of_ne_zero fun e=>hd0 (UInt16.toNat_inj.1 e))
   have:=d.toNat_lt
   rw [Nat.mod_eq_of_lt (show Nt.val a % d.toNat<65536 by omega)]
  ·have l2:2≤b.length:=by omega
   rw [af (by omega),aw]
   rw [i64_in _ (by omega)] at h8
   have e8:v8=((b.length - 1:Nat):Int):=by omega
   rw [e8,au] at h9
   obtain ⟨t1,t2⟩:=mY nb vH
   rw [←h9] at t1 t2
   have Wg:=v9.toNat_lt
   obtain ⟨p1,p2,p3⟩:=Nt.iT (n:=v9.toNat) (by omega)
   have pl:=Nt.kF (n:=v9.toNat) (k:=16) Wg
   obtain ⟨s,hs⟩:∃s,s=16 - Nt.bits v9.toNat:=⟨_,rfl⟩
   have yh:v10=(s:Int):=by rw [kP,i64_in _ (by omega)];omega
   have Wo:s<16:=by omega
   rw [yh,au] at mf lT Bj
   -- the QC
   have Ze:v9.toNat * 2 ^ s<65536:=by
    have:v9.toNat * 2 ^ s<2 ^ Nt.bits v9.toNat * 2 ^ s:=Nat.mul_lt_mul_of_pos_right p2 (Nat.two_pow_pos s)
    rw [←Nat.pow_add,show Nt.bits v9.toNat+s=16 by omega] at this
    exact this
   have S7:32768≤v9.toNat * 2 ^ s:=by
    have:2 ^ (Nt.bits v9.toNat - 1) * 2 ^ s≤v9.toNat * 2 ^ s:=ar _ p1
    rw [←Nat.pow_add,show Nt.bits v9.toNat - 1+s=15 by omega] at this
    exact this
   have qp:=Nt.gH (b.take (b.length - 1))
   rw [aJ,Nat.min_eq_left (by omega)] at qp
   generalize hP:65536 ^ (b.length - 1)=P at t2 qp
   have Uz:65536 ^ b.length=65536 * P:=by rw [←hP,Nat.mul_comm,←Nat.pow_succ];congr 1;omega
   generalize hL:Nt.val (b.take (b.length - 1))=Lo at t2 qp
   have Uu:Nt.val b * 2 ^ s=Lo * 2 ^ s+P * (v9.toNat * 2 ^ s):=by rw [t2,Nat.add_mul,Nat.mul_assoc]
   have PZ:Nt.val b * 2 ^ s<65536 ^ b.length:=by
    have h1:(v9.toNat+1) * 2 ^ s≤65536:=by
     have:(v9.toNat+1) * 2 ^ s≤2 ^ Nt.bits v9.toNat * 2 ^ s:=ar _ p2
     rw [←Nat.pow_add,show Nt.bits v9.toNat+s=16 by omega] at this
     exact this
    have h2:Lo * 2 ^ s+P * (v9.toNat * 2 ^ s)<P * ((v9.toNat+1) * 2 ^ s):=by
     rw [Nat.add_mul,Nat.one_mul,Nat.mul_add]
     have:Lo * 2 ^ s<P * 2 ^ s:=Nat.mul_lt_mul_of_pos_right qp (Nat.two_pow_pos s)
     omega
    have h3:P * ((v9.toNat+1) * 2 ^ s)≤P * 65536:=Nat.mul_le_mul_left _ h1
    rw [Uu,Uz,Nat.mul_comm 65536 P]
    omega
   have Tb:32768 * P≤Nt.val b * 2 ^ s:=by
    have:P * 32768≤P * (v9.toNat * 2 ^ s):=Nat.mul_le_mul_left _ S7
    rw [Uu,Nat.mul_comm 32768 P];omega
   have Dn:v12=Nt.fix b.length (Nt.val b * 2 ^ s):=by
    rw [lT]
    refine Nt.Lu PZ (.inr ?_)
    rw [hP];omega
   have SP:v12.length=b.length:=by rw [Dn,Nt.ko]
   have FP:Nt.val v12=Nt.val b * 2 ^ s:=by rw [lT,Nt.eJ]
   have LX:Nt.val v11=Nt.val a * 2 ^ s:=by rw [mf,Nt.eJ]
   have yf:Nt.val v12≤Nt.val v11:=by rw [FP,LX];exact ar _ (by omega)
   have SQ:v12.length≤v11.length:=by
    rcases Nat.lt_or_ge v11.length v12.length with h | h
    ·have:=Nt.se (a:=v11) (b:=v12) (by rw [lT];exact Nt.qO _) h
     omega
    ·exact h
   have Uf:v11.length≤257:=by
    rw [mf]
    refine (Nt.jA _ 257).2 ?_
    have h7:=Nt.gH a
    have h8:65536 ^ a.length≤65536 ^ 256:=Nat.pow_le_pow_right (by omega) la
    have h9:2 ^ s≤65536:=Nat.pow_le_pow_right (n:=2) (by omega) (show s≤16 by omega)
    rewrite [Jw]
    have kP:Nt.val a * 2 ^ s≤Nt.val a * 65536:=Nat.mul_le_mul_left _ h9
    omega
   have sn:32768≤(v12.getLast?.getD 0).toNat:=by
    have:v12.getLast?.getD 0=UInt16.ofNat (Nt.val b * 2 ^ s / 65536 ^ (b.length - 1)):=by
     rw [Dn]
     conv=>lhs;rw [show b.length=b.length - 1+1 by omega]
     rw [Nt.zN]
     simp
    rw [this,Nt.dE,hP]
    have h1:Nt.val b * 2 ^ s / P<65536:=(Nat.div_lt_iff_lt_mul (by rw [←hP];exact Nat.pow_pos (by omega))).2 (by rw [←Uz];exact PZ)
    have h2:32768≤Nt.val b * 2 ^ s / P:=(Nat.le_div_iff_mul_le (by rw [←hP];exact Nat.pow_pos (by omega))).2 Tb
    rw [Nat.mod_eq_of_lt h1];exact h2
   have m4:cz v8 b.length=true:=cQ (by omega) (by omega)
   have m5:decide (a.length≤1000000∧0≤v10∧v10<16)=true:=ae (by omega)
   have m6:decide (b.length≤1000000∧0≤v10∧v10<16)=true:=ae (by omega)
   have m7:decide (v11.length≤1000000∧2≤v12.length∧v12.length≤v11.length∧32768≤(v12.getLast?.getD 0).toNat)=true:=ae ⟨by omega,by omega,SQ,sn⟩
   have Y0:pR.length=v11.length+1 - v12.length:=by rw [Au,Nt.ko]
   have YZ:mL.length=v12.length:=by rw [zA,Nt.ko]
   have m8:decide (pR.length≤1099511627776)=true:=ae (by omega)
   have m9:decide (mL.length≤1099511627776)=true:=ae (by omega)
   have hq:Nt.val v11 / Nt.val v12=Nt.val a / Nt.val b:=by rw [LX,FP,Nat.mul_div_mul_right _ _ (Nat.two_pow_pos s)]
   have hr:Nt.val v11 % Nt.val v12=Nt.val a % Nt.val b * 2 ^ s:=by rw [LX,FP,Nat.mul_mod_mul_right]
   have Mw:Nt.val mL=Nt.val a % Nt.val b * 2 ^ s:=by
    rw [zA,Nt.px,hr,Nat.mod_eq_of_lt]
    have h1:Nt.val a % Nt.val b * 2 ^ s<Nt.val b * 2 ^ s:=Nat.mul_lt_mul_of_pos_right (Nat.mod_lt _ pb) (Nat.two_pow_pos s)
    rw [SP];omega
   have Mx:Nt.val pR=Nt.val a / Nt.val b:=by
    rw [Au,Nt.px,hq,Nat.mod_eq_of_lt]
    have h1:=Nt.gH v11
    rw [←hq]
    refine (Nat.div_lt_iff_lt_mul (by rw [FP];exact Nat.mul_pos pb (Nat.two_pow_pos s))).2 ?_
    have h2:65536 ^ (v11.length+1 - v12.length) * P≤65536 ^ (v11.length+1 - v12.length) * Nt.val v12:=Nat.mul_le_mul_left _ (by rw [FP];omega)
    rw [←hP,←Nat.pow_add,show v11.length+1 - v12.length+(b.length - 1)=v11.length by omega] at h2
    omega
   have m10:decide ((Nt.of (Nt.val mL)).length≤1000000∧0≤v10∧v10<16)=true:=by
    refine ae ⟨?_,by omega,by omega⟩
    have:=(Nt.jA (Nt.val mL) mL.length).2 (Nt.gH mL)
    omega
   rw [bE m4,bE (by rw [m5];rfl),bE (by rw [m6];rfl),bE m7,bE m8,bE m9,bE m10,Mx,Bj,Nt.eJ,Mw,Nat.mul_div_cancel _ (Nat.two_pow_pos s)]
end Go.Eng
namespace Go.Eng
open Go.IntWalk
theorem Ds {B v1 v2 top u2 g r V T P:Nat} (hP:0<P) (sn:top=g * v1+r) (h:r * B+u2<g * v2) (hV:(v1 * B+v2) * P≤V) (hT:T<(top * B+u2+1) * P):T / V<g:=by
 have h1:top * B+u2+1≤g * (v1 * B+v2):=by
  rw [sn,Nat.add_mul,Nat.mul_add,Nat.mul_assoc];omega
 have h2:(top * B+u2+1) * P≤g * V:=by
  have:=ar P h1
  rw [Nat.mul_assoc] at this
  exact Nat.le_trans this (Nat.mul_le_mul_left _ hV)
 have At:0<V:=by
  rcases Nat.eq_zero_or_pos V with e | e
  ·subst e;simp at h2;omega
  ·exact e
 exact (Nat.div_lt_iff_lt_mul At).2 (by omega)
theorem Bk {B v1 v2 top u2 g r V T P:Nat} (hB:g≤B) (sn:top=g * v1+r) (h:g * v2≤r * B+u2) (Mk:V<(v1 * B+v2+1) * P) (M7:B * P≤V) (hT:(top * B+u2) * P≤T) (At:0<V):g≤T / V+1:=by
 rcases Nat.eq_zero_or_pos g with e | hg
 ·rw [e];exact Nat.zero_le _
 have h1:g * (v1 * B+v2)≤top * B+u2:=by
  rw [sn,Nat.add_mul,Nat.mul_add,Nat.mul_assoc];omega
 have h2:g * V<(g * (v1 * B+v2)+g) * P:=by
  have:=Nat.mul_lt_mul_of_pos_left Mk hg
  rw [←Nat.mul_assoc,Nat.mul_add,Nat.mul_one] at this
  exact this
 have h3:(g * (v1 * B+v2)) * P≤(top * B+u2) * P:=ar _ h1
 have h4:g * P≤B * P:=ar _ hB
 rw [Nat.add_mul] at h2
 have h5:g * V<T+V:=by omega
 have h6:(g - 1) * V≤T:=by
  have:g * V=(g - 1) * V+V:=by rw [←Nat.succ_mul];congr 1;omega
  omega
 have:=(Nat.le_div_iff_mul_le At).2 h6
 omega
theorem zB {B v1 top g r V T P:Nat} (hg:g≤B) (sn:top=g * v1+r) (hr:B≤r) (hV:V≤(v1+1) * P) (At:0<V) (hT:top * P≤T):g≤T / V:=by
 refine (Nat.le_div_iff_mul_le At).2 ?_
 have h1:g * V≤g * ((v1+1) * P):=Nat.mul_le_mul_left _ hV
 have h2:g * ((v1+1) * P)=(g * v1+g) * P:=by rw [←Nat.mul_assoc,Nat.mul_add,Nat.mul_one]
 have h3:(g * v1+g) * P≤top * P:=ar _ (by omega)
 omega
theorem yD {x:UInt64} (h:x.toNat<65536 * 65536):(kV x 16).toNat=x.toNat * 65536:=by
 rw [kV,UInt64.toNat_ofNat'];omega
theorem NB {a b:UInt64} {x:Nat} (ha:a.toNat=x * 65536) (hb:b.toNat<65536):(a ||| b).toNat=x * 65536+b.toNat:=by
 rw [UInt64.toNat_or,ha];exact ov (a:=x) (b:=b.toNat) (k:=16) hb
theorem yn {g:UInt64} (h:0<g.toNat):(g - 1).toNat=g.toNat - 1:=by
 have:=UInt64.toNat_sub_of_le g 1 (bo.2 h)
 exact this
theorem bH.kN (v w qs:List UInt16) (n j:Nat) (hn:n=v.length) (h2:2≤n) (hj:j+n<w.length) (hl:w.length≤1000001) {V T P top:Nat} (hP:0<P)
  (hv1:32768≤(v.getD (n - 1) 0).toNat) (sn:top=(w.getD (j+n) 0).toNat * 65536+(w.getD (j+n - 1) 0).toNat)
  (Mj:((v.getD (n - 1) 0).toNat * 65536+(v.getD (n - 2) 0).toNat) * P≤V) (QT:V<((v.getD (n - 1) 0).toNat * 65536+(v.getD (n - 2) 0).toNat+1) * P)
  (IX:(top * 65536+(w.getD (j+n - 2) 0).toNat) * P≤T) (QU:T<(top * 65536+(w.getD (j+n - 2) 0).toNat+1) * P) (hq:T / V≤65535) :
  ∀(m:Nat) (g r:UInt64),g.toNat≤m→g.toNat≤65537→top=g.toNat * (v.getD (n - 1) 0).toNat+r.toNat→r.toNat≤65535→T / V≤g.toNat →
   ∃g':UInt64,T / V≤g'.toNat∧g'.toNat≤T / V+1∧g'.toNat≤65535∧bH.l2 v n j g r w qs=bH.j3 v n j g' w qs:=by
 intro m
 induction m with
 | zero =>
  intro g r hg hg2 ht hr Sw
  -- nothing is left to take XP
  have g0:g.toNat=0:=by omega
  refine ⟨g,Sw,by rw [g0];exact Nat.zero_le _,by omega,?_⟩
  refine bH.jB _ _ _ _ _ _ _ ?_
  intro u1 h1 u2 Ct u3 h3 u4 h4 u5 h5 u6 h6 u7 h7 u8 h8 u9 h9 Rb kP VF mf Ar lT
  have f1:decide ((65535:UInt64)<g)=false:=af fun e=>by
   have:=bh.1 e
   have e0:(65535:UInt64).toNat=65535:=rfl
   omega
  have e1:u1=((n - 2:Nat):Int):=by rw [h1,i64_in _ (by omega)];omega
  have e5:u5=((j+n - 2:Nat):Int):=by rw [h5,i64_in ((j:Int)+n) (by omega),i64_in _ (by omega)];omega
  have x1:cz u1 v.length=true:=cQ (by omega) (by omega)
  have x2:cz u5 w.length=true:=cQ (by omega) (by omega)
  have x3:decide (u5.toNat<w.length)=true:=ae (by omega)
  have e8:u8=false:=by
   rw [h8]
   refine af fun e=>?_
   have:=bh.1 e
   rw [UInt64.toNat_mul,g0,Nat.zero_mul,Nat.zero_mod] at this
   omega
  have e9:u9=false:=by rw [h9,f1,aw,e8]
  simp only [f1,e9,x1,x2,x3,bq,a8,Bool.false_or,Bool.or_true,Bool.true_or,bw,db,aw]
 | succ m ih =>
  intro g r hg hg2 ht hr Sw
  have hB:(65535:UInt64).toNat=65535:=rfl
  have w1:=(v.getD (n - 1) 0).toNat_lt
  have w2:=(v.getD (n - 2) 0).toNat_lt
  have w3:=(w.getD (j+n - 2) 0).toNat_lt
  have step:∀ρ:OT,(∀(u9:Bool),u9=decide (65535<g.toNat∨r.toNat * 65536+(w.getD (j+n - 2) 0).toNat<g.toNat * (v.getD (n - 2) 0).toNat)→∀Ar:UInt64,Ar.toNat=(v.getD (n - 1) 0).toNat →
    cond u9 (cond (decide ((65535:UInt64)<(r+Ar))) (bH.j3 v n j (g - 1) w qs) (bH.l2 v n j (g - 1) (r+Ar) w qs)) (bH.j3 v n j g w qs)=ρ)→bH.l2 v n j g r w qs=ρ:=by
   intro ρ QE
   refine bH.jB _ _ _ _ _ _ _ ?_
   intro u1 h1 u2 Ct u3 h3 u4 h4 u5 h5 u6 h6 u7 h7 u8 h8 u9 h9 Rb kP VF mf Ar lT
   have e1:u1=((n - 2:Nat):Int):=by rw [h1,i64_in _ (by omega)];omega
   have e5:u5=((j+n - 2:Nat):Int):=by rw [h5,i64_in ((j:Int)+n) (by omega),i64_in _ (by omega)];omega
   have yh:Rb=((n - 1:Nat):Int):=by rw [kP,i64_in _ (by omega)];omega
   rw [e1,au] at Ct
   rw [e5,au] at h6
   rw [yh,au] at mf
   have x1:cz u1 v.length=true:=cQ (by omega) (by omega)
   have x2:cz u5 w.length=true:=cQ (by omega) (by omega)
   have x3:decide (u5.toNat<w.length)=true:=ae (by omega)
   have x4:cz Rb v.length=true:=cQ (by omega) (by omega)
   have f3:u3.toNat=(v.getD (n - 2) 0).toNat:=by rw [h3,fY,Ct]
   have f7:u7.toNat=(w.getD (j+n - 2) 0).toNat:=by rw [h7,fY,h6]
   have f12:Ar.toNat=(v.getD (n - 1) 0).toNat:=by rw [lT,fY,mf]
   have f4:u4.toNat=r.toNat * 65536:=by rw [h4];exact yD (by omega)
   have f47:=NB f4 (b:=u7) (by omega)
   have hm:g.toNat * (v.getD (n - 2) 0).toNat≤65537 * 65535:=Nat.mul_le_mul hg2 (by omega)
   have fm:(g * u3).toNat=g.toNat * (v.getD (n - 2) 0).toNat:=by rw [UInt64.toNat_mul,f3,Nat.mod_eq_of_lt (by omega)]
   have T9:=QE u9 (by
    rw [h9,h8,bp]
    simp only [bh,hB,f47,fm,f7]
    by_cases c:65535<g.toNat
    ·simp [c]
    ·simp [c]) Ar f12
   cases hb:decide ((65535:UInt64)<g) with
   | true =>
    rw [hb,aD] at h9
    simp only [x1,x2,x3,x4,bq,a8,Bool.false_or,Bool.or_true,Bool.true_or,bw,Bool.or_self,bA,bB,db]
    exact T9
   | false =>
    simp only [x1,x2,x3,x4,bq,a8,Bool.false_or,Bool.or_true,Bool.true_or,bw,Bool.or_self,bA,bB,db]
    exact T9
  by_cases c:65535<g.toNat∨r.toNat * 65536+(w.getD (j+n - 2) 0).toNat<g.toNat * (v.getD (n - 2) 0).toNat
  ·have eW:T / V<g.toNat:=by
    rcases c with c | c
    ·omega
    ·exact Ds hP ht c Mj QU
   have hg0:0<g.toNat:=Nat.lt_of_le_of_lt (Nat.zero_le _) eW
   have gs:=yn (g:=g) hg0
   have tw:top=(g.toNat - 1) * (v.getD (n - 1) 0).toNat+(r.toNat+(v.getD (n - 1) 0).toNat):=by
    have:g.toNat * (v.getD (n - 1) 0).toNat=(g.toNat - 1) * (v.getD (n - 1) 0).toNat+(v.getD (n - 1) 0).toNat:=by rw [←Nat.succ_mul];congr 1;omega
    omega
   by_cases c2:65535<r.toNat+(v.getD (n - 1) 0).toNat
   ·have At:0<V:=Nat.lt_of_lt_of_le (Nat.mul_pos (by omega) hP) Mj
    have hle:g.toNat - 1≤T / V:=by
     refine zB (B:=65536) (P:=65536 * P) (by omega) tw (by omega) ?_ At ?_
     ·have e:((v.getD (n - 1) 0).toNat+1) * (65536 * P)=(((v.getD (n - 1) 0).toNat+1) * 65536) * P:=by rw [Nat.mul_assoc]
      rw [e]
      refine Nat.le_trans (Nat.le_of_lt QT) (ar _ (by omega))
     ·have e:top * (65536 * P)=(top * 65536) * P:=by rw [Nat.mul_assoc]
      rw [e]
      exact Nat.le_trans (ar _ (by omega)) IX
    refine ⟨g - 1,by omega,by rw [gs];exact Nat.le_succ_of_le hle,by omega,step _ fun u9 h9 Ar lT=>?_⟩
    have e:(r+Ar).toNat=r.toNat+(v.getD (n - 1) 0).toNat:=by rw [UInt64.toNat_add,lT,Nat.mod_eq_of_lt (by omega)]
    rw [h9,ae c,aD,ae (by rw [bh,e,hB];exact c2),aD]
   ·have e:∀Ar:UInt64,Ar.toNat=(v.getD (n - 1) 0).toNat→(r+Ar).toNat=r.toNat+(v.getD (n - 1) 0).toNat:=fun Ar lT=>by rw [UInt64.toNat_add,lT,Nat.mod_eq_of_lt (by omega)]
    obtain ⟨g',i1,i2,i3,i4⟩:=ih (g - 1) (r+UInt64.ofInt ((v.getD (n - 1) 0).toNat:Int)) (by omega) (by omega) (by rw [gs,e _ (fY _)];exact tw) (by rw [e _ (fY _)];omega) (by omega)
    refine ⟨g',i1,i2,i3,step _ fun u9 h9 Ar lT=>?_⟩
    have My:Ar=UInt64.ofInt ((v.getD (n - 1) 0).toNat:Int):=bt.1 (by rw [lT,fY])
    rw [h9,ae c,aD,af (by rw [bh,e _ lT,hB];exact c2),aw,My]
    exact i4
  ·have c1:g.toNat≤65535:=by omega
   refine ⟨g,Sw,Bk (B:=65536) (by omega) ht (by omega) QT ?_ IX (Nat.lt_of_lt_of_le (Nat.mul_pos (by omega) hP) Mj),c1,step _ fun u9 h9 Ar lT=>?_⟩
   ·refine Nat.le_trans (ar _ ?_) Mj
    omega
   ·rw [h9,af c,aw]
end Go.Eng
namespace Go.Eng
open Go.IntWalk
theorem o0 {α:Type} (l:List α) (j i:Nat) (x:α):(l.set (j+i) x).drop j=(l.drop j).set i x:=by
 rw [List.drop_set,aE (by omega)];congr 1;omega
theorem kH (w:List UInt16) (j i:Nat) (h:j+i<w.length):Nt.val ((w.drop j).take (i+1))=Nt.val ((w.drop j).take i)+65536 ^ i * (w.getD (j+i) 0).toNat:=by
 have:=dA (w.drop j) i (by rw [bj];omega)
 rw [this]
 congr 3
 simp [ak]
theorem wJ (w:List UInt16) (j i:Nat) (d:UInt16) (h:j+i<w.length):Nt.val (((w.set (j+i) d).drop j).take (i+1))=Nt.val ((w.drop j).take i)+65536 ^ i * d.toNat:=by
 rw [kH _ _ _ (by rw [List.length_set];exact h),getD_set_ne _ _ _ _ h,o0,List.take_set_of_le (Nat.le_refl _)]
theorem Av (w:List UInt16) (j i:Nat):Nt.val ((w.drop j).take i)<65536 ^ i:=by
 refine Nat.lt_of_lt_of_le (Nt.gH _) (Nat.pow_le_pow_right (by omega) ?_)
 rw [aJ];omega
theorem I3 (x:Int):Int.fdiv x (2 ^ (min (16:UInt64).toNat IntKind.i64.bits))=x / 65536:=by
 rw [show (2:Int) ^ (min (16:UInt64).toNat IntKind.i64.bits)=65536 by decide,Int.fdiv_eq_ediv_of_nonneg _ (by omega)]
theorem Ah (x:Int) (h:x=0∨x=-1∨x=-2):dP .and .i64 x 1=x % 2:=by
 rcases h with rfl | rfl | rfl <;> decide
theorem vv (x:Int):(UInt16.ofInt x).toNat=(x % 65536).toNat:=by
 have h:=rO x
 rw [iV] at h
 omega
theorem bH.FF (v w0 qs:List UInt16) (n j:Nat) (g:UInt64) (hn:n=v.length) (hj:j+n<w0.length) (hl:w0.length≤1000001):∀(m i:Nat) (c:UInt32) (w:List UInt16),i+m=n→c.toNat≤1→w.length=w0.length→w.take j=w0.take j→w.drop (j+i)=w0.drop (j+i) →
   Nt.val ((w0.drop j).take i)+Nt.val (v.take i)=Nt.val ((w.drop j).take i)+65536 ^ i * c.toNat →
   ∃(c':Nat) (w':List UInt16),c'≤1∧w'.length=w0.length∧w'.take j=w0.take j∧w'.drop (j+n+1)=w0.drop (j+n+1)∧Nt.val ((w0.drop j).take n)+Nt.val v=Nt.val ((w'.drop j).take n)+65536 ^ n * c' ∧
    (w'.getD (j+n) 0).toNat=((w0.getD (j+n) 0).toNat+c') % 65536∧bH.l5 v n j g c n i w qs=bH.j6 v n j g w' qs:=by
 intro m
 induction m with
 | zero =>
  intro i c w hi hc IK ht hd hv
  obtain rfl:i=n:=by omega
  rw [List.take_of_length_le (l:=v) (by omega)] at hv
  have eW:j+i<w.length:=by omega
  refine ⟨c.toNat,w.set (j+i) (w.getD (j+i) 0+UInt16.ofNat c.toNat),hc,by rw [List.length_set];exact IK,by rw [List.take_set_of_le (by omega)];exact ht,?_,?_,?_,?_⟩
  ·rw [List.drop_set_of_lt (by omega),show j+i+1=(j+i)+1 from rfl,←List.drop_drop (l:=w),hd,List.drop_drop]
  ·rw [o0,List.take_set_of_le (Nat.le_refl _)];exact hv
  ·rw [getD_set_ne _ _ _ _ eW,UInt16.toNat_add,Nt.dE,Nat.add_mod_mod]
   congr 3
   have e1:w.getD (j+i) 0=(w.drop (j+i)).getD 0 0:=by simp [ak]
   have e2:w0.getD (j+i) 0=(w0.drop (j+i)).getD 0 0:=by simp [ak]
   rw [e1,e2,hd]
  ·refine bH.ze _ _ _ _ _ _ _ _ _ ?_
   intro v1 h1 v2 h2 v3 h3 v4 h4 v5 h5 v6 h6 v7 h7 v8 h8 v9 h9 v10 kP v11 mf v12 lT
   have Gy:IntKind.i64.wrap ((j:Int)+(i:Int))=((j+i:Nat):Int):=by rw [i64_in _ (by omega)];omega
   rw [Gy,au] at h9
   rw [h9] at kP lT
   rw [af (by omega),aw,Gy,bE (cQ (by omega) (by omega)),bE (ae (by omega)),bE (cQ (by omega) (by omega)),bE (ae (by omega)),lT,kP,mf,js]
 | succ m ih =>
  intro i c w hi hc IK ht hd hv
  have eW:j+i<w.length:=by omega
  have w1:=(w.getD (j+i) 0).toNat_lt
  have w2:=(v.getD i 0).toNat_lt
  have ew:w.getD (j+i) 0=w0.getD (j+i) 0:=by
   have e1:w.getD (j+i) 0=(w.drop (j+i)).getD 0 0:=by simp [ak]
   have e2:w0.getD (j+i) 0=(w0.drop (j+i)).getD 0 0:=by simp [ak]
   rw [e1,e2,hd]
  obtain ⟨s,hs⟩:∃s,s=c.toNat+((w.getD (j+i) 0).toNat+(v.getD i 0).toNat):=⟨_,rfl⟩
  obtain ⟨c',w',r1,r2,r3,r4,r5,r6,r7⟩:=ih (i+1) (UInt32.ofNat (s / 65536)) (w.set (j+i) (UInt16.ofNat s)) (by omega) (by simp;omega) (by rw [List.length_set];exact IK) (by rw [List.take_set_of_le (by omega)];exact ht)
   (by rw [List.drop_set_of_lt (by omega),show j+(i+1)=(j+i)+1 from rfl,←List.drop_drop (l:=w),hd,List.drop_drop]) (by
    rw [kH w0 j i (by omega),wJ w j i _ eW,dA v i (by omega),Nt.dE]
    have e:(UInt32.ofNat (s / 65536)).toNat=s / 65536:=by simp;omega
    rw [e,Nat.pow_succ,Nat.mul_assoc,Nat.add_assoc (Nt.val ((w.drop j).take i)),←Nat.mul_add,Nat.mod_add_div,hs,←ew,Nat.mul_add,Nat.mul_add]
    omega)
  refine ⟨c',w',r1,r2,r3,r4,r5,r6,?_⟩
  rw [←r7]
  refine bH.ze _ _ _ _ _ _ _ _ _ ?_
  intro v1 h1 v2 h2 v3 h3 v4 h4 v5 h5 v6 h6 v7 h7 v8 h8 v9 h9 v10 kP v11 mf v12 lT
  have Gy:IntKind.i64.wrap ((i:Int)+(j:Int))=((j+i:Nat):Int):=by rw [i64_in _ (by omega)];omega
  rw [Gy,au] at h1
  rw [h1] at h2
  rw [au] at h4
  have es:(c+(v3+v5)).toNat=s:=by
   rw [UInt32.toNat_add,UInt32.toNat_add,h3,h5,kg,kg,h2,h4,hs];omega
  have e6:v6=UInt16.ofNat s:=by rw [h6,js,es]
  have e7:v7=UInt32.ofNat (s / 65536):=by
   apply UInt32.toNat_inj.1
   rw [h7,uu,es,show (16:UInt64).toNat=16 from rfl]
  have e8:v8=((i+1:Nat):Int):=by rw [h8,i64_in _ (by omega)];omega
  rw [ae (by omega),aD,Gy,bE (cQ (by omega) (by omega)),bE (ae (by omega)),bE (cQ (by omega) (by omega)),bE (cQ (by omega) (by omega)),bE (ae (by omega)),e6,e7,e8,h1]
end Go.Eng
namespace Go.Eng
open Go.IntWalk
theorem Ql (x:UInt64):(x &&& 65535).toNat=x.toNat % 65536:=by
 rw [UInt64.toNat_and,show (65535:UInt64).toNat=2 ^ 16 - 1 from rfl,Nat.and_two_pow_sub_one_eq_mod]
theorem re {w w0:List UInt16} {k:Nat} (h:w.drop k=w0.drop k):w.getD k 0=w0.getD k 0:=by
 have e1:w.getD k 0=(w.drop k).getD 0 0:=by simp [ak]
 have e2:w0.getD k 0=(w0.drop k).getD 0 0:=by simp [ak]
 rw [e1,e2,h]
theorem sD {w w0:List UInt16} {k:Nat} (x:UInt16) (h:w.drop k=w0.drop k):(w.set k x).drop (k+1)=w0.drop (k+1):=by
 rw [List.drop_set_of_lt (by omega),←List.drop_drop (l:=w),h,List.drop_drop]
theorem bH.zf (v w0 qs:List UInt16) (n j:Nat) (g:UInt64) (hn:n=v.length) (hj:j+n<w0.length) (hl:w0.length≤1000001) (hg:g.toNat≤65535) {T:Nat} (hT:T=Nt.val ((w0.drop j).take (n+1))) (At:0<Nt.val v) (hg1:T / Nt.val v≤g.toNat) (hg2:g.toNat≤T / Nt.val v+1) :
  ∀(m i b:Nat) (c:UInt64) (w:List UInt16),i+m=n→b≤1→c.toNat≤65535→w.length=w0.length→w.take j=w0.take j→w.drop (j+i)=w0.drop (j+i) →
   Nt.val ((w0.drop j).take i)+65536 ^ i * (b+c.toNat)=Nt.val ((w.drop j).take i)+g.toNat * Nt.val (v.take i) →
   ∃(q:UInt64) (w':List UInt16),q.toNat=T / Nt.val v∧w'.length=w0.length∧w'.take j=w0.take j∧w'.drop (j+n+1)=w0.drop (j+n+1)∧Nt.val ((w'.drop j).take (n+1))=T % Nt.val v∧bH.l4 v n j g b c n i w qs=bH.j6 v n j q w' qs:=by
 have W5:Nt.val v<65536 ^ n:=by rw [hn];exact Nt.gH v
 intro m
 induction m with
 | zero =>
  intro i b c w hi hb hc IK ht hd hv
  obtain rfl:i=n:=by omega
  rw [List.take_of_length_le (l:=v) (by omega)] at hv
  have eW:j+i<w.length:=by omega
  have Wd:=Av w j i
  have ew:=re hd
  have P0:=kH w0 j i (by omega)
  rw [←hT,←ew] at P0
  have w1:=(w.getD (j+i) 0).toNat_lt
  have Dq:=Nat.div_add_mod T (Nt.val v)
  have hR:=Nat.mod_lt T At
  generalize T / Nt.val v=q at *
  generalize Zg:T % Nt.val v=R at *
  generalize W6:Nt.val v=V at *
  generalize UE:65536 ^ i=P at *
  generalize hx:Nt.val ((w.drop j).take i)=X at *
  generalize kX:Nt.val ((w0.drop j).take i)=X0 at *
  generalize hy:(w.getD (j+i) 0).toNat=y at *
  -- the top digit,less what is taken
  have F3:(V * q+R)+P * (b+c.toNat)=X+g.toNat * V+P * y:=by rw [Dq,P0];omega
  have step:∀ρ:OT,(∀v20:List UInt16,v20=w.set (j+i) (UInt16.ofInt ((y:Int) - b - c.toNat))→cond (decide ((y:Int) - b - c.toNat<0)) (bH.l5 v i j (g - 1) 0 i 0 v20 qs) (bH.j6 v i j g v20 qs)=ρ)→bH.l4 v i j g b c i i w qs=ρ:=by
   intro ρ QE
   refine bH.sY _ _ _ _ _ _ _ _ _ _ ?_
   intro v1 h1 v2 h2 v3 h3 v4 h4 v5 h5 v6 h6 v7 h7 v8 h8 v9 h9 v10 kP v11 mf v12 lT pR Au mL zA mM Bj Aq Mo Hu Ki Ht Na D4 M9 v20 Kh
   have Gy:IntKind.i64.wrap ((j:Int)+(i:Int))=((j+i:Nat):Int):=by rw [i64_in _ (by omega)];omega
   rw [Gy,au] at zA
   rw [zA] at Bj Kh
   rw [Bj,hy,i64_in _ (by omega)] at Mo
   have Tt:Ht=(c.toNat:Int):=by rw [Na,i64_in _ (by omega)]
   have Tu:Hu=(y:Int) - b:=by rw [Ki,i64_in _ (by omega),Mo]
   have Qc:D4=(y:Int) - b - c.toNat:=by rw [M9,i64_in _ (by omega),Tu,Tt]
   rw [af (by omega),aw,Gy,bE (cQ (by omega) (by omega)),bE (ae (by omega)),bE (cQ (by omega) (by omega)),bE (ae (by omega)),Qc]
   exact QE v20 (by rw [Kh,Qc])
  by_cases cg:g.toNat=q
  ·-- the P4 is right
   have e0:y=b+c.toNat:=by
    rw [cg,Nat.mul_comm q V] at F3
    rcases Nat.lt_trichotomy y (b+c.toNat) with h | h | h
    ·have:P * (y+1)≤P * (b+c.toNat):=Nat.mul_le_mul_left _ h
     rw [Nat.mul_add,Nat.mul_one] at this
     omega
    ·exact h
    ·have:P * (b+c.toNat+1)≤P * y:=Nat.mul_le_mul_left _ h
     rw [Nat.mul_add,Nat.mul_one] at this
     omega
   have eR:X=R:=by
    rw [cg,Nat.mul_comm q V,e0] at F3
    omega
   refine ⟨g,w.set (j+i) 0,cg,by rw [List.length_set];exact IK,by rw [List.take_set_of_le (by omega)];exact ht,sD 0 hd,?_,step _ fun v20 Kh=>?_⟩
   ·rw [wJ w j i 0 eW,hx,eR];simp
   ·rw [af (by omega),aw,Kh,show (y:Int) - b - c.toNat=0 by omega];rfl
  ·-- the P4 is one YO UL
   have XH:g.toNat=q+1:=by omega
   have Ua:g.toNat * V=V * q+V:=by rw [XH,Nat.succ_mul,Nat.mul_comm]
   rw [Ua] at F3
   have e0:y+1=b+c.toNat:=by
    rcases Nat.lt_trichotomy (y+1) (b+c.toNat) with h | h | h
    ·have:P * (y+2)≤P * (b+c.toNat):=Nat.mul_le_mul_left _ h
     rw [Nat.mul_add] at this
     omega
    ·exact h
    ·have:P * (b+c.toNat)≤P * y:=Nat.mul_le_mul_left _ (by omega)
     omega
   have eX:X+V=R+P:=by
    have:P * (b+c.toNat)=P * y+P:=by rw [←e0,Nat.mul_add,Nat.mul_one]
    omega
   have J0:(w.set (j+i) (65535:UInt16)).length=w.length:=List.length_set
   obtain ⟨c',w',r1,r2,r3,r4,r5,r6,r7⟩:=bH.FF v (w.set (j+i) 65535) qs i j (g - 1) hn (by omega) (by omega) i 0 0 (w.set (j+i) 65535) (by omega) (by decide) rfl rfl rfl (by simp [Nt.val])
   rw [o0,List.take_set_of_le (Nat.le_refl _),hx,W6,UE] at r5
   have O8:=Av w' j i
   rw [UE] at O8
   have ec:c'=1:=by
    rcases Nat.lt_or_ge c' 1 with h | h
    ·obtain rfl:c'=0:=by omega
     rw [Nat.mul_zero] at r5;omega
    ·omega
   rw [ec,Nat.mul_one] at r5
   rw [getD_set_ne _ _ _ _ eW,ec,show ((65535:UInt16).toNat+1) % 65536=0 from rfl] at r6
   refine ⟨g - 1,w',by rw [yn (by omega)];omega,by omega,by rw [r3,List.take_set_of_le (by omega)];exact ht,by rw [r4];exact sD _ hd,?_,step _ fun v20 Kh=>?_⟩
   ·rw [kH w' j i (by omega),r6,Nat.mul_zero,Nat.add_zero];omega
   ·rw [ae (by omega),aD,Kh,show (y:Int) - b - c.toNat=-1 by omega]
    exact r7
 | succ m ih =>
  intro i b c w hi hb hc IK ht hd hv
  have eW:j+i<w.length:=by omega
  have w1:=(w.getD (j+i) 0).toNat_lt
  have w2:=(v.getD i 0).toNat_lt
  have ew:=re hd
  have hm:g.toNat * (v.getD i 0).toNat≤65535 * 65535:=Nat.mul_le_mul hg (by omega)
  obtain ⟨p,hp⟩:∃p,p=g.toNat * (v.getD i 0).toNat+c.toNat:=⟨_,rfl⟩
  obtain ⟨y,hy⟩:∃y,y=(w.getD (j+i) 0).toNat:=⟨_,rfl⟩
  obtain ⟨z,hz⟩:∃z:Int,z=(y:Int) - b - ((p % 65536:Nat):Int):=⟨_,rfl⟩
  obtain ⟨b',zw⟩:∃b':Nat,b'=if z<0 then 1 else 0:=⟨_,rfl⟩
  have Sc:((z % 65536).toNat:Int)=z+65536 * b':=by
   rw [zw];split <;> omega
  have HG:b'≤1:=by rw [zw];split <;> omega
  have ec:(UInt64.ofNat (p / 65536)).toNat=p / 65536:=by rw [UInt64.toNat_ofNat'];omega
  obtain ⟨q,w',r1,r2,r3,r4,r5,r6⟩:=ih (i+1) b' (UInt64.ofNat (p / 65536)) (w.set (j+i) (UInt16.ofInt z)) (by omega) HG (by rw [ec];omega) (by rw [List.length_set];exact IK) (by rw [List.take_set_of_le (by omega)];exact ht) (sD _ hd) (by
   rw [kH w0 j i (by omega),wJ w j i _ eW,dA v i (by omega),ec,vv,←ew,←hy,Nat.pow_succ,Nat.mul_assoc]
   have e1:y+65536 * b'=(z % 65536).toNat+b+p % 65536:=by omega
   have e2:p % 65536+65536 * (p / 65536)=p:=Nat.mod_add_div p 65536
   have e3:y+65536 * (b'+p / 65536)=(z % 65536).toNat+b+p:=by omega
   rw [Nat.add_assoc,←Nat.mul_add,e3,Nat.mul_add,Nat.mul_add,hp,Nat.mul_add]
   have e4:65536 ^ i * (b+c.toNat)=65536 ^ i * b+65536 ^ i * c.toNat:=Nat.mul_add _ _ _
   have e5:g.toNat * (Nt.val (v.take i)+65536 ^ i * (v.getD i 0).toNat)=g.toNat * Nt.val (v.take i)+65536 ^ i * (g.toNat * (v.getD i 0).toNat):=by rw [Nat.mul_add,Nat.mul_left_comm]
   omega)
  refine ⟨q,w',r1,r2,r3,r4,r5,?_⟩
  rw [←r6]
  refine bH.sY _ _ _ _ _ _ _ _ _ _ ?_
  intro v1 h1 v2 h2 v3 h3 v4 h4 v5 h5 v6 h6 v7 h7 v8 h8 v9 h9 v10 kP v11 mf v12 lT pR Au mL zA mM Bj Aq Mo Hu Ki Ht Na D4 M9 v20 Kh
  have Gy:IntKind.i64.wrap ((i:Int)+(j:Int))=((j+i:Nat):Int):=by rw [i64_in _ (by omega)];omega
  rw [Gy,au] at h4
  rw [h4] at h5 lT
  rw [au] at h1
  have f2:v2.toNat=(v.getD i 0).toNat:=by rw [h2,fY,h1]
  have fp:(g * v2+c).toNat=p:=by rw [UInt64.toNat_add,UInt64.toNat_mul,f2,hp];omega
  have f3:v3=UInt64.ofNat (p / 65536):=by
   apply bt.1
   rw [h3,ec]
   exact (yC _).trans (by rw [fp])
  have f6:v6=(y:Int):=by rw [h6,h5,i64_in _ (by omega),hy]
  have f7:v7.toNat=p % 65536:=by rw [h7,Ql,fp]
  have f8:v8=((p % 65536:Nat):Int):=by rw [h8,f7,i64_in _ (by omega)]
  have f9:v9=z:=by rw [h9,f6,f8,i64_in ((y:Int) - b) (by omega),i64_in _ (by omega),hz]
  have f10:v10=-(b':Int):=by rw [kP,f9,I3,zw];split <;> omega
  have f11:v11=(b':Int):=by rw [mf,f10,Ah _ (by omega)];omega
  have f13:pR=((i+1:Nat):Int):=by rw [Au,i64_in _ (by omega)];omega
  rw [ae (by omega),aD,Gy,bE (cQ (by omega) (by omega)),bE (cQ (by omega) (by omega)),bE (ae (by omega)),bE (cQ (by omega) (by omega)),bE (ae (by omega)),f11,f3,f13,lT,f9]
end Go.Eng
namespace Go.Eng
open Go.IntWalk
theorem xE {v:List UInt16} (h:v≠[]):v.getLast?.getD 0=v.getD (v.length - 1) 0:=by
 obtain ⟨b,d,rfl⟩:∃b d,v=b++[d]:=⟨v.dropLast,v.getLast h,(List.dropLast_concat_getLast _).symm⟩
 rw [ao,ay,Nat.add_sub_cancel,iA];simp
theorem rF (w:List UInt16) (k:Nat):Nt.val w=Nt.val (w.take k)+65536 ^ (w.take k).length * Nt.val (w.drop k):=by
 rw [←Nt.fG,List.take_append_drop]
theorem xF {w u:List UInt16} {k i:Nat} (h:w.take k=u.take k) (hi:i<k):w.getD i 0=u.getD i 0:=by
 have:=congrArg (fun l=>l.getD i 0) h
 simpa [ak,aO,hi] using this
theorem CI {w u:List UInt16} {k j:Nat} (h:w.take k=u.take k) (hj:j≤k):w.take j=u.take j:=by
 have:=congrArg (fun l=>l.take j) h
 simpa [List.take_take,Nat.min_eq_left hj] using this
theorem bH.fj (v U:List UInt16) (n:Nat) (hn:n=v.length) (h2:2≤n) (hU:n<U.length) (hl:U.length≤1000001) (hv1:32768≤(v.getD (n - 1) 0).toNat) :
  ∀(k:Nat) (w qs:List UInt16),k+n≤U.length→w.length=U.length→qs.length=U.length - n→w.take k=U.take k→Nt.val (w.drop k)=Nt.val (U.drop k) % Nt.val v→Nt.val (qs.drop k)=Nt.val (U.drop k) / Nt.val v →
   bH.l1 v n ((k:Int) - 1) w qs=some [.sl .ws (Nt.fix (U.length - n) (Nt.val U / Nt.val v)),.sl .ws (Nt.fix n (Nt.val U % Nt.val v))]:=by
 -- the DD two Cp digits
 have e1:=dA v (n - 1) (by omega)
 have e2:=dA v (n - 2) (by omega)
 rw [show n - 1+1=n by omega,List.take_of_length_le (by omega)] at e1
 rw [show n - 2+1=n - 1 by omega] at e2
 have qp:=Nt.gH (v.take (n - 2))
 rw [aJ,Nat.min_eq_left (by omega)] at qp
 have Ml:65536 ^ (n - 1)=65536 ^ (n - 2) * 65536:=by rw [←Nat.pow_succ];congr 1;omega
 have UA:0<65536 ^ (n - 2):=Nat.pow_pos (by omega)
 rw [Ml] at e1
 have Ut:Nt.val v=Nt.val (v.take (n - 2))+65536 ^ (n - 2) * ((v.getD (n - 1) 0).toNat * 65536+(v.getD (n - 2) 0).toNat):=by
  rw [e1,e2,Nat.mul_add,Nat.mul_assoc,Nat.mul_comm (v.getD (n - 1) 0).toNat 65536];omega
 have Mj:((v.getD (n - 1) 0).toNat * 65536+(v.getD (n - 2) 0).toNat) * 65536 ^ (n - 2)≤Nt.val v:=by rw [Ut,Nat.mul_comm];omega
 have QT:Nt.val v<((v.getD (n - 1) 0).toNat * 65536+(v.getD (n - 2) 0).toNat+1) * 65536 ^ (n - 2):=by
  rw [Ut,Nat.add_mul _ 1,Nat.one_mul,Nat.mul_comm ((v.getD (n - 1) 0).toNat * 65536+(v.getD (n - 2) 0).toNat)];omega
 have At:0<Nt.val v:=Nat.lt_of_lt_of_le (Nat.mul_pos (by omega) UA) Mj
 have W5:Nt.val v<65536 ^ n:=by rw [hn];exact Nt.gH v
 intro k
 induction k with
 | zero =>
  intro w qs hk IK QJ ht hw hq
  refine bH.dB _ _ _ _ _ ?_
  intro v1 h1 v2 h2 v3 h3 v4 h4 v5 h5 v6 h6 v7 h7 v8 h8 v9 h9 v10 kP
  rw [aT,aT] at hw hq
  rw [af (by omega),aw,bE (ju (by omega) (by omega) (by omega)),au]
  have eq:qs=Nt.fix (U.length - n) (Nt.val U / Nt.val v):=Nt.val_inj (by rw [Nt.ko,QJ]) (by
   rw [Nt.px,hq,Nat.mod_eq_of_lt]
   rw [←hq,←QJ];exact Nt.gH qs)
  have er:w.take n=Nt.fix n (Nt.val U % Nt.val v):=Nt.val_inj (by rw [Nt.ko,aJ];omega) (by
   have hm:=Nat.mod_lt (Nt.val U) At
   have hs:=rF w n
   have Sj:(w.take n).length=n:=by rw [aJ];omega
   rw [Sj] at hs
   have h0:Nt.val (w.drop n)=0:=by
    rcases Nat.eq_zero_or_pos (Nt.val (w.drop n)) with e | e
    ·exact e
    ·have:=Nat.mul_le_mul_left (65536 ^ n) e
     rw [Nat.mul_one] at this
     omega
   rw [h0,Nat.mul_zero,Nat.add_zero] at hs
   rw [Nt.px,Nat.mod_eq_of_lt (by omega),←hs,hw])
  rw [eq,er]
 | succ j ih =>
  intro w qs hk IK QJ ht hw hq
  have ek:((j+1:Nat):Int) - 1=(j:Int):=by omega
  rw [ek]
  -- what is QZ now
  have hm:=Nat.mod_lt (Nt.val (U.drop (j+1))) At
  have hs:=rF (w.drop (j+1)) n
  have Sj:((w.drop (j+1)).take n).length=n:=by rw [aJ,bj];omega
  rw [Sj] at hs
  have h0:Nt.val ((w.drop (j+1)).drop n)=0:=by
   rcases Nat.eq_zero_or_pos (Nt.val ((w.drop (j+1)).drop n)) with e | e
   ·exact e
   ·have:=Nat.mul_le_mul_left (65536 ^ n) e
    rw [Nat.mul_one] at this
    omega
  have hs:Nt.val (w.drop (j+1))=Nt.val ((w.drop (j+1)).take n):=by rw [h0,Nat.mul_zero] at hs;exact hs
  have hd:w.drop j=w.getD j 0 :: w.drop (j+1):=drop_cons (by omega) 0
  obtain ⟨T,hT⟩:∃T,T=Nt.val ((w.drop j).take (n+1)):=⟨_,rfl⟩
  have Tc:T=(w.getD j 0).toNat+65536 * Nt.val (w.drop (j+1)):=by
   rw [hT,hd,List.take_succ_cons,Nt.val,←hs]
  have wj:=(w.getD j 0).toNat_lt
  have W8:T / Nt.val v≤65535:=by
   have:T<65536 * Nt.val v:=by rw [Tc,hw];omega
   have:=(Nat.div_lt_iff_lt_mul At).2 this
   omega
  -- its Cp digits
  have t1:=kH w j n (by omega)
  have t2:=kH w j (n - 1) (by omega)
  have t3:=kH w j (n - 2) (by omega)
  rw [show n - 1+1=n by omega,show j+(n - 1)=j+n - 1 by omega] at t2
  rw [show n - 2+1=n - 1 by omega,show j+(n - 2)=j+n - 2 by omega] at t3
  have Y1:=Av w j (n - 2)
  have Xa:65536 ^ n=65536 ^ (n - 2) * (65536 * 65536):=by rw [show (65536 * 65536:Nat)=65536 ^ 2 by decide,←Nat.pow_add];congr 1;omega
  obtain ⟨top,sn⟩:∃top,top=(w.getD (j+n) 0).toNat * 65536+(w.getD (j+n - 1) 0).toNat:=⟨_,rfl⟩
  have P0:T=Nt.val ((w.drop j).take (n - 2))+65536 ^ (n - 2) * (top * 65536+(w.getD (j+n - 2) 0).toNat):=by
   rw [hT,t1,t2,t3,Xa,Ml,sn]
   generalize (w.getD (j+n) 0).toNat=a
   generalize (w.getD (j+n - 1) 0).toNat=b
   generalize (w.getD (j+n - 2) 0).toNat=c
   generalize 65536 ^ (n - 2)=P
   rw [Nat.mul_add,Nat.mul_assoc,Nat.mul_assoc,Nat.add_mul,Nat.mul_add,Nat.mul_comm b 65536,show a * 65536 * 65536=65536 * 65536 * a by rw [Nat.mul_assoc,Nat.mul_comm a]]
   omega
  have IX:(top * 65536+(w.getD (j+n - 2) 0).toNat) * 65536 ^ (n - 2)≤T:=by rw [P0,Nat.mul_comm];omega
  have QU:T<(top * 65536+(w.getD (j+n - 2) 0).toNat+1) * 65536 ^ (n - 2):=by
   rw [P0,Nat.add_mul _ 1,Nat.one_mul,Nat.mul_comm (top * 65536+(w.getD (j+n - 2) 0).toNat)];omega
  have a1:=(w.getD (j+n) 0).toNat_lt
  have a2:=(w.getD (j+n - 1) 0).toNat_lt
  have a3:=(v.getD (n - 1) 0).toNat_lt
  -- the Cp digit is at VQ the DD
  have Wk:(w.getD (j+n) 0).toNat≤(v.getD (n - 1) 0).toNat:=by
   have hA:T<65536 * Nt.val v:=by rw [Tc,hw];omega
   rcases Nat.lt_or_ge (v.getD (n - 1) 0).toNat (w.getD (j+n) 0).toNat with h | h
   ·have g1:65536 ^ n * ((v.getD (n - 1) 0).toNat+1)≤65536 ^ n * (w.getD (j+n) 0).toNat:=Nat.mul_le_mul_left _ h
    have g2:65536 * Nt.val v<65536 ^ n * ((v.getD (n - 1) 0).toNat+1):=by
     have g3:Nt.val v<65536 ^ (n - 1) * ((v.getD (n - 1) 0).toNat+1):=by
      have:=Nt.gH (v.take (n - 1))
      rw [aJ,Nat.min_eq_left (by omega),Ml] at this
      rw [e1,Ml,Nat.mul_add,Nat.mul_one];omega
     have g4:=Nat.mul_lt_mul_of_pos_left g3 (show 0<65536 by omega)
     have g5:65536 * (65536 ^ (n - 1) * ((v.getD (n - 1) 0).toNat+1))=65536 ^ n * ((v.getD (n - 1) 0).toNat+1):=by
      rw [←Nat.mul_assoc,Nat.mul_comm 65536,←Nat.pow_succ];congr 2;omega
     omega
    omega
   ·exact h
  obtain ⟨d,S2⟩:∃d,d=(v.getD (n - 1) 0).toNat:=⟨_,rfl⟩
  have SU:top / d≤65537:=by
   have:top<65538 * d:=by rw [sn];omega
   have:=(Nat.div_lt_iff_lt_mul (show 0<d by omega)).2 this
   omega
  have Me:T / Nt.val v≤top / d:=by
   -- T<(top+1) * B^(n-1),and the QY is at least d * B^(n-1)
   have g1:T<(top+1) * 65536 ^ (n - 1):=by
    refine Nat.lt_of_lt_of_le QU ?_
    rw [Ml,Nat.mul_comm (65536 ^ (n - 2)) 65536,←Nat.mul_assoc]
    refine ar _ ?_
    have:=(w.getD (j+n - 2) 0).toNat_lt
    omega
   have g2:d * 65536 ^ (n - 1)≤Nt.val v:=by
    have h9:=e1
    rw [←S2,←Ml] at h9
    rw [h9,Nat.mul_comm d];exact Nat.le_add_left _ _
   have g3:T / Nt.val v≤T / (d * 65536 ^ (n - 1)):=Nat.div_le_div_left g2 (Nat.mul_pos (by omega) (Nat.pow_pos (by omega)))
   have g4:T / (d * 65536 ^ (n - 1))=T / 65536 ^ (n - 1) / d:=by rw [Nat.mul_comm,Nat.div_div_eq_div_mul]
   have g5:T / 65536 ^ (n - 1)≤top:=by
    have:=(Nat.div_lt_iff_lt_mul (show 0<65536 ^ (n - 1) from Nat.pow_pos (by omega))).2 g1
    omega
   rw [g4] at g3
   exact Nat.le_trans g3 (Nat.div_le_div_right g5)
  have Sn:top<65536 * 65536:=by rw [sn];omega
  -- the operands
  have key:∀(g r:UInt64),g.toNat=top / d→r.toNat=top % d→bH.l2 v n j g r w qs=some [.sl .ws (Nt.fix (U.length - n) (Nt.val U / Nt.val v)),.sl .ws (Nt.fix n (Nt.val U % Nt.val v))]:=by
   intro g r hg hr
   have Dq:=Nat.div_add_mod top d
   have Y7:=Nat.mod_lt top (show 0<d by omega)
   obtain ⟨g',i1,i2,i3,i4⟩:=bH.kN v w qs n j hn (by omega) (by omega) (by omega) (V:=Nt.val v) (T:=T) (P:=65536 ^ (n - 2)) (top:=top) UA hv1 sn Mj QT IX QU W8 (top / d) g r (by omega) (by omega) (by rw [hg,hr,←S2,Nat.mul_comm];omega) (by omega) (by rw [hg];exact Me)
   rw [i4,bH.O1]
   obtain ⟨q,w',r1,r2,r3,r4,r5,r6⟩:=bH.zf v w qs n j g' hn (by omega) (by omega) i3 hT At i1 i2 n 0 0 0 w (by omega) (by omega) (by decide) rfl rfl rfl (by simp [Nt.val])
   refine r6.trans ?_
   refine bH.OZ _ _ _ _ _ _ ?_
   intro u1 k1 u2 k2 u3 k3
   rw [au] at k2
   rw [bE (cQ (by omega) (by omega)),bE (ae (by omega)),k3,i64_in _ (by omega)]
   have Uw:=qy U j (by omega)
   have Xp:w.getD j 0=U.getD j 0:=xF ht (by omega)
   rw [←Xp] at Uw
   have Uv:Nt.val (U.drop j)=T+Nt.val v * (65536 * (Nt.val (U.drop (j+1)) / Nt.val v)):=by
    have:=Nat.div_add_mod (Nt.val (U.drop (j+1))) (Nt.val v)
    rw [Uw,Tc,hw]
    conv=>lhs;rw [←this]
    rw [Nat.mul_add,Nat.mul_left_comm];omega
   refine ih w' u2 (by omega) (by omega) (by rw [k2,List.length_set];exact QJ) (by rw [r3];exact CI ht (by omega)) ?_ ?_
   ·have lA:=rF (w'.drop j) (n+1)
    have Si:((w'.drop j).take (n+1)).length=n+1:=by rw [aJ,bj];omega
    have e3:(w'.drop j).drop (n+1)=(w.drop (j+1)).drop n:=by
     rw [List.drop_drop,List.drop_drop,show j+(n+1)=j+n+1 by omega,r4];congr 1;omega
    rw [Si,e3,h0,Nat.mul_zero,Nat.add_zero,r5] at lA
    rw [lA,Uv,Nat.add_mul_mod_self_left]
   ·have e4:(u2.getD j 0).toNat=T / Nt.val v:=by
     rw [k2,getD_set_ne _ _ _ _ (by omega),k1,ns,Nt.dE,r1,Nat.mod_eq_of_lt (by omega)]
    rw [qy u2 j (by rw [k2,List.length_set];omega),e4,k2,List.drop_set_of_lt (by omega),hq,Uv,Nat.add_mul_div_left _ _ At]
  refine bH.dB _ _ _ _ _ ?_
  intro v1 h1 v2 Ct v3 h3 v4 h4 v5 h5 v6 h6 v7 h7 v8 h8 v9 h9 v10 kP
  have Xu:IntKind.i64.wrap ((j:Int)+(n:Int))=((j+n:Nat):Int):=by rw [i64_in _ (by omega)];omega
  rw [Xu] at h1 h5 ⊢
  rw [au] at h1
  have e5:v5=((j+n - 1:Nat):Int):=by rw [h5,i64_in _ (by omega)];omega
  have e8:v8=((n - 1:Nat):Int):=by rw [h8,i64_in _ (by omega)];omega
  rw [h1] at Ct
  rw [e5,au] at h6
  rw [e8,au] at h9
  have f10:v10.toNat=d:=by rw [kP,fY,h9,S2]
  have f3:v3.toNat=(w.getD (j+n) 0).toNat:=by rw [h3,fY,Ct]
  have f7:v7.toNat=(w.getD (j+n - 1) 0).toNat:=by rw [h7,fY,h6]
  have f4:v4.toNat=(w.getD (j+n) 0).toNat * 65536:=by rw [h4,←f3];exact yD (by omega)
  have f47:(v4 ||| v7).toNat=top:=by rw [NB f4 (by omega),f7,sn]
  have VP:v10≠0:=fun e=>by
   have:=congrArg UInt64.toNat e
   rw [f10] at this
   have e0:(0:UInt64).toNat=0:=rfl
   omega
  rw [ae (by omega),aD,bE (cQ (by omega) (by omega)),bE (ae (by omega)),bE (cQ (by omega) (by omega)),bE (ae (by omega)),bE (cQ (by omega) (by omega)),af VP,bq,db,bE (cQ (by omega) (by omega)),db]
  exact key _ _ (by rw [UInt64.toNat_div,f47,f10]) (by rw [UInt64.toNat_mod,f47,f10])
theorem bH.goal (u v:List UInt16) (hp:decide (u.length≤1000000∧2≤v.length∧v.length≤u.length∧32768≤(v.getLast?.getD 0).toNat)=true):bH.F u v=some [.sl .ws (Nt.fix (u.length+1 - v.length) (Nt.val u / Nt.val v)),.sl .ws (Nt.fix v.length (Nt.val u % Nt.val v))]:=by
 obtain ⟨l1,l2,l3,l4⟩:=aM hp
 rw [xE (by intro e;subst e;simp at l2)] at l4
 refine bH.eh _ _ ?_
 intro v1 h1 v2 h2 v3 h3 v4 h4
 subst h1
 have hl:(u++[(0:UInt16)]).length=u.length+1:=by simp
 have e2:v2=((u.length+1 - v.length:Nat):Int):=by rw [h2,hl,i64_in _ (by omega)];omega
 have e4:v4=((u.length+1 - v.length:Nat):Int) - 1:=by rw [h4,e2,i64_in _ (by omega)]
 have hU:Nt.val (u++[0])=Nt.val u:=Nt.rG u
 have At:0<Nt.val v:=by
  have:=dA v (v.length - 1) (by omega)
  rw [show v.length - 1+1=v.length by omega,List.take_length] at this
  have h5:=Nat.mul_pos (show 0<65536 ^ (v.length - 1) from Nat.pow_pos (by omega)) (show 0<(v.getD (v.length - 1) 0).toNat by omega)
  omega
 have Py:Nt.val ((u++[(0:UInt16)]).drop (u.length+1 - v.length))<Nt.val v:=by
  rw [List.drop_append_of_le_length (by omega),Nt.rG]
  have h6:=Nt.gH (u.drop (u.length+1 - v.length))
  rw [bj,show u.length - (u.length+1 - v.length)=v.length - 1 by omega] at h6
  have:=dA v (v.length - 1) (by omega)
  rw [show v.length - 1+1=v.length by omega,List.take_length] at this
  have h5:=Nat.mul_le_mul_left (65536 ^ (v.length - 1)) (show 1≤(v.getD (v.length - 1) 0).toNat by omega)
  omega
 have:=bH.fj v (u++[0]) v.length rfl l2 (by omega) (by omega) l4 (u.length+1 - v.length) (u++[0]) v3 (by omega) rfl (by rw [h3,e2];simp) rfl (Nat.mod_eq_of_lt Py).symm (by
  rw [Nat.div_eq_of_lt Py,h3,e2];simp [Nt.val])
 rw [hU,hl] at this
 rw [bE (ig (by rw [ay];omega) (by rw [ay];omega)),bE (jP.2 ⟨by omega,by omega,by omega,by rw [iY];omega⟩),e4]
 exact this
end Go.Eng
namespace Go.Eng
open Go.IntWalk Ieee
namespace Fl
theorem GM {s:Bool} {X N d:Nat} (h:X=N * 2 ^ d):Toward.zero.cut s X d=N:=by
 have e:Toward.zero.cut s X d=X / (1 <<< min d (X.log2+2)):=by
  unfold Toward.cut
  simp
 rw [e,Nat.one_shiftLeft]
 rcases Nat.eq_zero_or_pos N with rfl | hN
 ·rw [h];simp
 ·have hl:X.log2=N.log2+d:=by rw [h];exact nF N d (by omega)
  rw [Nat.min_eq_left (by omega),h,Nat.mul_div_cancel _ (Nat.two_pow_pos d)]
theorem WD.integral {d:Datum} {n:Int} (h:WD d n):∃s,d.integral .zero = .number s n.natAbs 0∧(n<0→s=true)∧(0<n→s=false):=by
 obtain ⟨s,m,p,rfl,hv,h1,h2⟩:=h
 refine ⟨s,?_,h1,h2⟩
 show Datum.number s (Toward.zero.cut s (m <<< p.toNat) (-p).toNat) 0=_
 rw [Nat.shiftLeft_eq,GM hv]
theorem WD.whole {s:Bool} {n:Int} (h1:n<0→s=true) (h2:0<n→s=false):WD (.number s n.natAbs 0) n:=⟨s,_,_,rfl,by unfold pr;simp,h1,h2⟩
theorem W.num {b:Nat} {n:Int} (h:W b n):Fl.num b=true:=by
 obtain ⟨s,m,p,hr,_⟩:=h
 show (!(double.read b).isNaN)=true
 rw [hr];rfl
theorem W.iM {b:Nat} {n:Int} (h:W b n) (hn:n.natAbs≤9007199254740992):W (Fl.iM b) n:=by
 obtain ⟨s,e,h1,h2⟩:=WD.integral h
 have e':(FloatKind.f64.decode b).integral .zero = .number s n.natAbs 0:=e
 unfold Fl.iM
 rw [e']
 exact (WD.whole h1 h2).write hn
theorem W.toInt {b:Nat} {n:Int} (h:W b n) (hn:n.natAbs≤9007199254740992):Fl.lW b=true∧Fl.toInt b=n:=by
 obtain ⟨s,e,h1,h2⟩:=WD.integral h
 have e':(FloatKind.f64.decode b).integral .zero = .number s n.natAbs 0:=e
 have e2:floatToIntVal .f64 b .i64=some n:=by
  unfold floatToIntVal Datum.toInt
  rw [e']
  have e3:signed s n.natAbs 0=n:=by
   have:=lF (s:=s) (m:=n.natAbs) (i:=0) (base:=0) (x:=n) (by unfold pr;simp) h1 h2 (by omega)
   simpa using this
  simp only [e3]
  have e4:IntKind.i64.min=-9223372036854775808:=by decide
  have e5:IntKind.i64.max=9223372036854775807:=by decide
  rw [e4,e5,aG (by omega)]
 unfold Fl.lW Fl.toInt
 rw [e2]
 exact ⟨rfl,rfl⟩
theorem W.ofInt {n:Int} (hn:n.natAbs≤9007199254740992):W (Fl.ofInt n) n:=yT n hn
theorem W.add {a b:Nat} {x y:Int} (ha:W a x) (hb:W b y) (h:(x+y).natAbs≤9007199254740992):Fl.kZ a b=true∧W (Fl.add a b) (x+y):=by
 obtain ⟨r,e,hr⟩:=DL ha hb h
 unfold Fl.kZ Fl.add
 rw [e];exact ⟨rfl,hr⟩
theorem W.sub {a b:Nat} {x y:Int} (ha:W a x) (hb:W b y) (h:(x - y).natAbs≤9007199254740992):Fl.sO a b=true∧W (Fl.sub a b) (x - y):=by
 obtain ⟨r,e,hr⟩:=CL ha hb h
 unfold Fl.sO Fl.sub
 rw [e];exact ⟨rfl,hr⟩
theorem W.mul {a b:Nat} {x y:Int} (ha:W a x) (hb:W b y) (h:(x * y).natAbs≤9007199254740992):Fl.oy a b=true∧W (Fl.mul a b) (x * y):=by
 obtain ⟨r,e,hr⟩:=C4 ha hb h
 unfold Fl.oy Fl.mul
 rw [e];exact ⟨rfl,hr⟩
theorem W.eq {a b:Nat} {x y:Int} (ha:W a x) (hb:W b y):Fl.eq a b=decide (x=y):=by
 unfold Fl.eq
 rw [jz ha hb]
 rcases Int.lt_trichotomy x y with c | c | c
 ·rw [Int.compare_eq_lt.2 c,af (by omega)];rfl
 ·subst c;simp
 ·rw [Int.compare_eq_gt.2 c,af (by omega)];rfl
theorem W.lt {a b:Nat} {x y:Int} (ha:W a x) (hb:W b y):Fl.lt a b=decide (x<y):=by
 unfold Fl.lt
 rw [jz ha hb]
 rcases Int.lt_trichotomy x y with c | c | c
 ·rw [Int.compare_eq_lt.2 c,ae c];rfl
 ·subst c;simp
 ·rw [Int.compare_eq_gt.2 c,af (by omega)];rfl
theorem W.gt {a b:Nat} {x y:Int} (ha:W a x) (hb:W b y):Fl.gt a b=decide (y<x):=by
 unfold Fl.gt
 rw [jz ha hb]
 rcases Int.lt_trichotomy x y with c | c | c
 ·rw [Int.compare_eq_lt.2 c,af (by omega)];rfl
 ·subst c;simp
 ·rw [Int.compare_eq_gt.2 c,ae c];rfl
theorem TH:W 4719772409484279808 33554432:=by
 have e:Fl.ofInt 33554432=4719772409484279808:=by decide +kernel
 rw [←e];exact W.ofInt (by decide)
theorem Qo:W 4841369599423283200 4503599627370496:=by
 have e:Fl.ofInt 4503599627370496=4841369599423283200:=by decide +kernel
 rw [←e];exact W.ofInt (by decide)
theorem Qp:W 4832362400168542208 1125899906842624:=by
 have e:Fl.ofInt 1125899906842624=4832362400168542208:=by decide +kernel
 rw [←e];exact W.ofInt (by decide)
theorem Kx:W 14055734437023318016 (-1125899906842624):=by
 have e:Fl.ofInt (-1125899906842624)=14055734437023318016:=by decide +kernel
 rw [←e];exact W.ofInt (by decide)
theorem Ky:W 0 0:=by
 have e:Fl.ofInt 0=0:=by decide +kernel
 rw [←e];exact W.ofInt (by decide)
theorem UU:W 4607182418800017408 1:=by
 have e:Fl.ofInt 1=4607182418800017408:=by decide +kernel
 rw [←e];exact W.ofInt (by decide)
theorem Qn:W 13830554455654793216 (-1):=by
 have e:Fl.ofInt (-1)=13830554455654793216:=by decide +kernel
 rw [←e];exact W.ofInt (by decide)
end Fl
namespace Gz
theorem kE {z:Cx} {M:Nat}:s9 z M=true ↔ In z M:=by classical exact (by unfold s9;exact decide_eq_true_iff)
theorem tR {l:Qd} {M:Nat}:vo l M=true ↔ KB l M:=by classical exact (by unfold vo;exact decide_eq_true_iff)
theorem Ck {l:Qd}:JX l=true ↔ ∀k,k<4→Vc (part l (-1) k 4):=by unfold JX;simp only [az]
theorem Bb {z:Cx} {b M:Nat} (h:In z M) (hb:Fl.W b (M:Int)) (hM:M≤9007199254740992):LR z b=true:=by
 classical
 unfold LR
 obtain ⟨x,y,h1,h2,h3⟩:=h
 exact ae ⟨x,y,M,h1,hb,by omega,by omega,by omega⟩
theorem In.le {z:Cx} {M N:Nat} (h:In z M) (hn:M≤N):In z N:=by
 obtain ⟨x,y,h1,h2,h3⟩:=h
 exact ⟨x,y,h1,by omega,by omega⟩
theorem A1 {z w:Cx} {x y u v:Int} (hz:Is z x y) (hw:Is w u v) (h1:(x * u).natAbs≤2251799813685248) (h2:(y * v).natAbs≤2251799813685248) (h3:(x * v).natAbs≤2251799813685248) (h4:(y * u).natAbs≤2251799813685248) :
  Fl.ph z.1 z.2 w.1 w.2=true∧Is (mul z w) (x * u - y * v) (x * v+y * u):=by
 obtain ⟨a1,b1⟩:=Fl.W.mul hz.1 hw.1 (by omega)
 obtain ⟨a2,b2⟩:=Fl.W.mul hz.2 hw.2 (by omega)
 obtain ⟨a3,b3⟩:=Fl.W.sub b1 b2 (by omega)
 obtain ⟨a4,b4⟩:=Fl.W.mul hz.1 hw.2 (by omega)
 obtain ⟨a5,b5⟩:=Fl.W.mul hz.2 hw.1 (by omega)
 obtain ⟨a6,b6⟩:=Fl.W.add b4 b5 (by omega)
 refine ⟨?_,b3,b6⟩
 unfold Fl.ph
 rw [a1,a2,a3,a4,a5,a6];rfl
theorem BG {z w:Cx} {x y u v:Int} (hz:Is z x y) (hw:Is w u v) (h1:(x+u).natAbs≤9007199254740992) (h2:(y+v).natAbs≤9007199254740992):(Fl.kZ z.1 w.1&&Fl.kZ z.2 w.2)=true∧Is (add z w) (x+u) (y+v):=by
 obtain ⟨a1,b1⟩:=Fl.W.add hz.1 hw.1 h1
 obtain ⟨a2,b2⟩:=Fl.W.add hz.2 hw.2 h2
 rw [a1,a2]
 exact ⟨rfl,b1,b2⟩
def rI (k:Int):Int:=if k % 4=0 then 1 else if k % 4=2 then -1 else 0
def rK (k:Int):Int:=if k % 4=1 then 1 else if k % 4=3 then -1 else 0
theorem mN (k:Int):rI k=0∨rI k=1∨rI k=-1:=by
 unfold rI
 split
 ·simp
 ·split <;> simp
theorem mP (k:Int):rK k=0∨rK k=1∨rK k=-1:=by
 unfold rK
 split
 ·simp
 ·split <;> simp
theorem HI (k:Int):Is (unit k) (rI k) (rK k):=by
 have h:k % 4=0∨k % 4=1∨k % 4=2∨k % 4=3:=by omega
 unfold unit rI rK
 rcases h with h | h | h | h <;> rw [h]
 ·exact ⟨Fl.UU,Fl.Ky⟩
 ·exact ⟨Fl.Ky,Fl.UU⟩
 ·exact ⟨Fl.Qn,Fl.Ky⟩
 ·exact ⟨Fl.Ky,Fl.Qn⟩
theorem wN {z:Cx} {x y:Int} (k:Int) (hz:Is z x y) (hx:x.natAbs≤1125899906842624) (hy:y.natAbs≤1125899906842624) :
  Fl.ph z.1 z.2 (unit k).1 (unit k).2=true∧Is (tm z k) (x * rI k - y * rK k) (x * rK k+y * rI k):=by
 have hu:=HI k
 have h1:rI k=0∨rI k=1∨rI k=-1:=mN k
 have h2:rK k=0∨rK k=1∨rK k=-1:=mP k
 refine A1 hz hu ?_ ?_ ?_ ?_
 ·rcases h1 with e | e | e <;> rw [e] <;> omega
 ·rcases h2 with e | e | e <;> rw [e] <;> omega
 ·rcases h2 with e | e | e <;> rw [e] <;> omega
 ·rcases h1 with e | e | e <;> rw [e] <;> omega
theorem BL {z:Cx} {k:Int} (h:In z 1125899906842624):In (tm z k) 2251799813685248:=by
 obtain ⟨x,y,hz,hx,hy⟩:=h
 refine ⟨_,_,(wN k hz hx hy).2,?_,?_⟩
 all_goals
  have h1:rI k=0∨rI k=1∨rI k=-1:=mN k
  have h2:rK k=0∨rK k=1∨rK k=-1:=mP k
  rcases h1 with e | e | e <;> rcases h2 with f | f | f <;> rw [e,f] <;> omega
end Gz
theorem cO.goal (x:Nat) (hp:(Fl.num x)=true):cO.F x=some [.c (.float .f64 (Fl.iM x))]:=by
 rw [cO.iC,aD,hp];rfl
theorem dt.goal (z:Cx) (hp:(Gz.s9 z 33554432)=true):dt.F z=some [.b true]:=by
 rw [dt.iC,Gz.Bb (Gz.kE.1 hp) Fl.TH (by omega)];rfl
theorem fU.goal (x y:Int) (hp:decide (-33554432≤x∧x≤33554432∧-33554432≤y∧y≤33554432)=true):fU.F x y=some [.c (.complex .f64 ((Fl.ofInt x,Fl.ofInt y):Cx).1 ((Fl.ofInt x,Fl.ofInt y):Cx).2)]:=by
 obtain ⟨h1,h2,h3,h4⟩:=aM hp
 refine fU.eh _ _ ?_
 intro v1 e1 v2 e2 v3 e3 v4 e4
 have d1:v1=false:=by rw [e1,af (by omega),aw];exact af (by omega)
 have d2:v2=false:=by rw [e2,d1,aw];exact af (by omega)
 have d3:v3=false:=by rw [e3,d2,aw];exact af (by omega)
 simp only [bA,bB,Bool.not_not,db]
 rw [d3,aw,e4]
theorem dh.goal (z:Cx) (hp:(Gz.s9 z 4503599627370496)=true):dh.F z=some [.i .i64 (Fl.toInt z.1),.i .i64 (Fl.toInt z.2),.b true]:=by
 have h:=Gz.kE.1 hp
 have hm:=Gz.Bb h Fl.Qo (by omega)
 obtain ⟨x,y,hz,hx,hy⟩:=h
 rw [dh.iC,hm,(hz.1.toInt (by omega)).1,(hz.2.toInt (by omega)).1];rfl
theorem Hi (k:Int) (h1 : -100≤k) (h2:k≤100):dP .and .i64 k 3=k % 4:=by
 have:∀n:Nat,n<201→dP .and .i64 ((n:Int) - 100) 3=((n:Int) - 100) % 4:=by decide +kernel
 have:=this (k+100).toNat (by omega)
 rwa [show (((k+100).toNat:Nat):Int) - 100=k by omega] at this
theorem dQ.goal (z:Cx) (k:Int) (hp:(Gz.s9 z 1125899906842624&&decide (-100≤k∧k≤100))=true):dQ.F z k=some [.c (.complex .f64 (Gz.tm z k).1 (Gz.tm z k).2)]:=by
 simp only [aa,az] at hp
 obtain ⟨h,k1,k2⟩:=hp
 have h:=Gz.kE.1 h
 have hm:=Gz.Bb (h.le (show 1125899906842624≤4503599627370496 by omega)) Fl.Qo (by omega)
 obtain ⟨x,y,hz,hx,hy⟩:=h
 obtain ⟨c1,_⟩:=Gz.wN k hz hx hy
 refine dQ.eh _ _ ?_
 intro v1 h1 v2 h2 v3 h3 v4 h4 v5 h5 v6 h6 v7 h7
 rw [Hi k k1 k2] at h5
 have e6:v6=Gz.unit k:=by rw [h6,h1,h2,h3,h4,h5];rfl
 rw [hm,db,a8,aw,bE (cQ (by omega) (by omega)),bE (ae (by omega)),e6,c1,db,h7,e6]
 rfl
theorem dv.goal (z w:Cx) (hp:(Gz.s9 z 33554432&&Gz.s9 w 33554432)=true):dv.F z w=some [.c (.complex .f64 (Gz.mul z w).1 (Gz.mul z w).2)]:=by
 simp only [aa] at hp
 obtain ⟨x,y,hz,hx,hy⟩:=Gz.kE.1 hp.1
 obtain ⟨u,v,hw,hu,hv⟩:=Gz.kE.1 hp.2
 have hm:∀a b:Int,a.natAbs≤33554432→b.natAbs≤33554432→(a * b).natAbs≤2251799813685248:=fun a b h1 h2=>by
  rw [Int.natAbs_mul]
  exact Nat.le_trans (Nat.mul_le_mul h1 h2) (by omega)
 obtain ⟨c1,_⟩:=Gz.A1 hz hw (hm _ _ hx hu) (hm _ _ hy hv) (hm _ _ hx hv) (hm _ _ hy hu)
 refine dv.eh _ _ ?_
 intro v1 h1 v2 h2
 have e1:v1=false:=h1
 rw [hp.1,hp.2,c1,e1,h2]
 rfl
theorem dL.goal (x:Nat) (hp:(Gz.IG x)=true):dL.F x=some [.b true]:=by
 classical
 unfold Gz.IG at hp
 obtain ⟨n,hn,hb⟩:=aM hp
 refine dL.eh _ ?_
 intro v1 h1 v2 h2 v3 h3
 have e1:v1=true:=by
  rw [h1,hn.gt Fl.Kx,hn.eq Fl.Kx]
  rcases Int.lt_or_eq_of_le (show (-1125899906842624:Int)≤n by omega) with c | c
  ·rw [ae c];rfl
  ·rw [ae c.symm,Bool.or_true]
 have e2:v2=true:=by
  rw [h2,hn.lt Fl.Qp,hn.eq Fl.Qp]
  rcases Int.lt_or_eq_of_le (show n≤(1125899906842624:Int) by omega) with c | c
  ·rw [ae c];rfl
  ·rw [ae c,Bool.or_true]
 have e3:v3=true:=by rw [h3,e1,e2,aD,aD,hn.eq (hn.iM (by omega)),ae rfl]
 rw [e1,e2,e3,hn.num]
 rfl
theorem Gz.In.parts {z:Cx} (h:Gz.In z 1125899906842624):Gz.IG z.1=true∧Gz.IG z.2=true:=by
 obtain ⟨x,y,h1,h2,h3⟩:=h
 classical
 unfold Gz.IG
 exact ⟨ae ⟨x,h1.1,h2⟩,ae ⟨y,h1.2,h3⟩⟩
theorem Gz.KB.get {l:Qd} {M:Nat} (h:Gz.KB l M) (i:Nat) (hi:i<4):Gz.In (l.get i) M:=by
 obtain ⟨a,b,c,d⟩:=h
 have:i=0∨i=1∨i=2∨i=3:=by omega
 rcases this with rfl | rfl | rfl | rfl
 ·exact a
 ·exact b
 ·exact c
 ·exact d
theorem dj.fj (l:Qd) (h:Gz.KB l 1125899906842624):∀(m i:Nat),i+m=4→dj.l1 l i=some [.b true]:=by
 intro m
 induction m with
 | zero =>
  intro i hi
  refine dj.dB _ _ ?_
  intro v1 h1 v2 h2
  rw [af (by omega),aw]
 | succ m ih =>
  intro i hi
  refine dj.dB _ _ ?_
  intro v1 h1 v2 h2
  have e1:v1=false:=h1
  have e2:v2=((i+1:Nat):Int):=by rw [h2,i64_in _ (by omega)];omega
  obtain ⟨p1,p2⟩:=(h.get i (by omega)).parts
  rw [ae (by omega),aD,bE (cQ (by omega) (by omega)),au,p1,p2,e1,e2]
  exact ih (i+1) (by omega)
theorem dj.goal (l:Qd) (hp:(Gz.vo l 1125899906842624)=true):dj.F l=some [.b true]:=by
 rw [dj.iC];exact dj.fj l (Gz.tR.1 hp) 4 0 (by omega)
theorem dM.goal (l:Qd) (hp:(Gz.vo l 1125899906842624)=true):dM.F l=some [.ag (Qd.cells (Gz.mq l 1))]:=by
 rw [dM.iC,hp];rfl
end Go.Eng
namespace Go.Eng
open Go.IntWalk
theorem Qd.I1 (q:Qd) (k:Nat) (x:Cx) (hk:k<4):(q.set k x).get k=x:=by
 have:k=0∨k=1∨k=2∨k=3:=by omega
 rcases this with rfl | rfl | rfl | rfl <;> rfl
theorem Qd.set_set (q:Qd) (k:Nat) (x y:Cx) (hk:k<4):(q.set k x).set k y=q.set k y:=by
 have:k=0∨k=1∨k=2∨k=3:=by omega
 rcases this with rfl | rfl | rfl | rfl <;> rfl
theorem Qd.nv (q:Qd) (k:Nat) (hk:k<4):q.set k (q.get k)=q:=by
 have:k=0∨k=1∨k=2∨k=3:=by omega
 rcases this with rfl | rfl | rfl | rfl <;> rfl
theorem Gz.B3 {l:Qd} (h:Gz.KB l 1125899906842624) (w:Int) (k:Nat):∀j,j≤4→Gz.In (Gz.part l w k j) (j * 2251799813685248)
 | 0,_=>⟨0,0,⟨Fl.Ky,Fl.Ky⟩,by omega,by omega⟩
 | j+1,hj=>by
  obtain ⟨x,y,h1,h2,h3⟩:=Gz.B3 h w k j (by omega)
  obtain ⟨u,v,g1,g2,g3⟩:=Gz.BL (k:=j * k * w) (h.get j (by omega))
  obtain ⟨_,e⟩:=Gz.BG h1 g1 (by omega) (by omega)
  exact ⟨_,_,e,by omega,by omega⟩
theorem bY.kN (l:Qd) (w:Int) (h:Gz.KB l 1125899906842624) (hw:w=1∨w=-1) (k:Nat) (hk:k<4) (Z:Qd):∀(m j:Nat) (acc:Qd),j+m=4→acc.get k=Gz.part l w k j →
  bY.l2 w k k l j l Z acc=bY.l1 w ((k+1:Nat):Int) l Z (acc.set k (Gz.part l w k 4)):=by
 intro m
 induction m with
 | zero =>
  intro j acc hj ha
  refine bY.jB _ _ _ _ _ _ _ _ ?_
  intro v1 h1 v2 h2 v3 h3 v4 h4 v5 h5
  obtain rfl:j=4:=by omega
  rw [af (by omega),aw,←ha,Qd.nv _ _ hk,h5,i64_in _ (by omega)];rfl
 | succ m ih =>
  intro j acc hj ha
  refine bY.jB _ _ _ _ _ _ _ _ ?_
  intro v1 h1 v2 h2 v3 h3 v4 h4 v5 h5
  rw [au] at h2 h3
  have PI:((j:Int) * (k:Int))=((j * k:Nat):Int):=by rw [Int.natCast_mul]
  have WK:j * k≤3 * 3:=Nat.mul_le_mul (by omega) (by omega)
  have e1:v1=(j:Int) * k * w:=by
   rw [h1,PI,i64_in ((j * k:Nat):Int) (by omega)]
   rcases hw with rfl | rfl <;> rw [i64_in _ (by omega)]
  have b1 : -100≤v1∧v1≤100:=by
   rw [e1,PI]
   rcases hw with rfl | rfl <;> omega
  have e2:v2=Gz.tm (l.get j) ((j:Int) * k * w):=by rw [h2,e1]
  rw [ha] at h3
  obtain ⟨x,y,p1,p2,p3⟩:=Gz.B3 h w k j (by omega)
  obtain ⟨u,v,g1,g2,g3⟩:=Gz.BL (k:=(j:Int) * k * w) (h.get j (by omega))
  obtain ⟨c1,_⟩:=Gz.BG p1 g1 (by omega) (by omega)
  have e3:v3=Gz.part l w k (j+1):=by rw [h3,e2];rfl
  have e4:v4=((j+1:Nat):Int):=by rw [h4,i64_in _ (by omega)];omega
  have x1:cz (j:Int) 4=true:=cQ (by omega) (by omega)
  have x2:cz (k:Int) 4=true:=cQ (by omega) (by omega)
  have x3:decide ((k:Int).toNat<4)=true:=ae (by omega)
  rw [ae (show (j:Int)<4 by omega),aD,x1,x2,x3,au,au,Gz.kE.2 (h.get j (by omega)),ae b1,ha,e2,c1,e3,e4]
  simp only [bw,db]
  rw [ih (j+1) (acc.set k (Gz.part l w k (j+1))) (by omega) (Qd.I1 _ _ _ hk),Qd.set_set _ _ _ _ hk]
theorem bY.goal (l:Qd) (w:Int) (hp:(Gz.vo l 1125899906842624&&decide (w=1∨w=-1))=true):bY.F l w=some [.ag (Qd.cells (Gz.mq l w))]:=by
 simp only [aa,az] at hp
 obtain ⟨h,hw⟩:=hp
 have h:=Gz.tR.1 h
 have st:∀(k:Nat) (Z acc:Qd),k<4→acc.get k=(0,0)→bY.l1 w k l Z acc=bY.l1 w ((k+1:Nat):Int) l Z (acc.set k (Gz.part l w k 4)):=fun k Z acc hk ha=>by
  rw [bY.JO,ae (by omega),aD]
  exact bY.kN l w h hw k hk Z 4 0 acc (by omega) (by rw [ha];rfl)
 rw [bY.iC]
 refine (st 0 _ _ (by omega) rfl).trans ?_
 refine (st 1 _ _ (by omega) rfl).trans ?_
 refine (st 2 _ _ (by omega) rfl).trans ?_
 refine (st 3 _ _ (by omega) rfl).trans ?_
 rw [bY.JO,af (by decide),aw]
 rfl
theorem Gz.uo (l:Qd) (w:Int) (k:Nat) (hk:k<4):(Gz.mq l w).get k=Gz.part l w k 4:=by
 have:k=0∨k=1∨k=2∨k=3:=by omega
 rcases this with rfl | rfl | rfl | rfl <;> rfl
theorem cU.goal (l:Qd) (hp:(Gz.vo l 1125899906842624&&Gz.JX l)=true):cU.F l=some [.ag (Qd.cells (Gz.back l)),.b true]:=by
 simp only [aa] at hp
 obtain ⟨h,h4⟩:=hp
 have hq:=h
 have h4:=Gz.Ck.1 h4
 rw [cU.iC,hq,db,a8,aw,Bool.true_and,bE (ae (.inr rfl))]
 have st:∀(k:Nat) (Y acc:Qd),k<4→cU.l1 (Gz.mq l (-1)) k Y acc=cU.l1 (Gz.mq l (-1)) ((k+1:Nat):Int) Y (acc.set k (Gz.quarter (Gz.part l (-1) k 4))):=fun k Y acc hk=>by
  refine cU.dB _ _ _ _ ?_
  intro v1 h1 v2 h2 v3 h3 v4 UJ v5 h5 v6 h6 v7 h7 v8 h8
  rw [au,Gz.uo l _ k hk] at h1 h2
  obtain ⟨x,y,p1,p2,p3⟩:=h4 k hk
  have e1:v1=4 * x:=by rw [h1];exact (p1.1.toInt (by omega)).2
  have e2:v2=4 * y:=by rw [h2];exact (p1.2.toInt (by omega)).2
  have m1:Int.tmod v1 4=0:=by rw [e1];exact Int.mul_tmod_right _ _
  have m2:Int.tmod v2 4=0:=by rw [e2];exact Int.mul_tmod_right _ _
  have e3:v3=false:=by rw [h3,m1];rfl
  have e4:v4=false:=by rw [UJ,e3,m2];rfl
  have d1:Int.tdiv v1 4=x:=by rw [e1];exact Int.mul_tdiv_cancel_left _ (by omega)
  have d2:Int.tdiv v2 4=y:=by rw [e2];exact Int.mul_tdiv_cancel_left _ (by omega)
  have e5:v5=Int.tdiv v1 4:=by rw [h5,i64_in _ (by rw [d1];omega)]
  have e6:v6=Int.tdiv v2 4:=by rw [h6,i64_in _ (by rw [d2];omega)]
  have e8:v8=((k+1:Nat):Int):=by rw [h8,i64_in _ (by omega)];omega
  have e7:v7=Gz.quarter (Gz.part l (-1) k 4):=by rw [h7,e5,e6,h1,h2];rfl
  have x1:cz (k:Int) 4=true:=cQ (by omega) (by omega)
  have x2:decide ((k:Int).toNat<4)=true:=ae (by omega)
  have b1:Gz.s9 (Gz.part l (-1) k 4) 4503599627370496=true:=Gz.kE.2 ⟨_,_,p1,by omega,by omega⟩
  rw [ae (show (k:Int)<4 by omega),aD,x1,x2,au,Gz.uo l _ k hk,b1,e3,e4,e7,e8]
  rfl
 refine (st 0 _ _ (by omega)).trans ?_
 refine (st 1 _ _ (by omega)).trans ?_
 refine (st 2 _ _ (by omega)).trans ?_
 refine (st 3 _ _ (by omega)).trans ?_
 refine cU.dB _ _ _ _ ?_
 intro v1 h1 v2 h2 v3 h3 v4 UJ v5 h5 v6 h6 v7 h7 v8 h8
 rw [af (by decide),aw]
 rfl
theorem Gz.rj {l:List Int} (h:Gz.ie l=true) (i:Nat) (hi:i<l.length):0≤l.getD i 0∧l.getD i 0≤65535:=by
 unfold Gz.ie at h
 rw [ak,aA hi]
 simpa using aL.1 h _ (List.getElem_mem hi)
theorem cj.fj (l:List Int) (h:Gz.ie l=true) (hl:l.length≤256):∀(m i:Nat),i+m=l.length→cj.l1 l l l.length i=some [.b true]:=by
 intro m
 induction m with
 | zero =>
  intro i hi
  refine cj.dB _ _ _ _ ?_
  intro v1 h1 v2 h2 v3 h3
  rw [af (by omega),aw,ae (by omega)]
 | succ m ih =>
  intro i hi
  refine cj.dB _ _ _ _ ?_
  intro v1 h1 v2 h2 v3 h3
  rw [au] at h1
  have hd:=Gz.rj h i (by omega)
  rw [←h1] at hd
  have e2:v2=false:=by rw [h2,af (by omega),aw];exact af (by omega)
  have e3:v3=((i+1:Nat):Int):=by rw [h3,i64_in _ (by omega)];omega
  simp only [bA,bB,Bool.not_not,db]
  rw [ae (by omega),aD,bE (cQ (by omega) (by omega)),e2,aw,e3]
  exact ih (i+1) (by omega)
theorem cj.goal (l:List Int) (hp:(decide (l.length≤256)&&Gz.ie l)=true):cj.F l=some [.b true]:=by
 simp only [aa,az] at hp
 rw [cj.iC];exact cj.fj l hp.2 hp.1 l.length 0 (by omega)
theorem Gz.AZ {a:Int} (h:0≤a∧a≤65535):Gz.Is (Gz.yc a) a 0:=⟨Fl.W.ofInt (by omega),Fl.W.ofInt (n:=0) (by decide)⟩
theorem Gz.A0 {a:Int} (h:0≤a∧a≤65535):Gz.In (Gz.yc a) 1125899906842624:=⟨_,_,Gz.AZ h,by omega,by omega⟩
theorem Gz.tE:Gz.Is (0,0) 0 0:=⟨Fl.Ky,Fl.Ky⟩
theorem Gz.qw:Gz.In (0,0) 1125899906842624:=⟨_,_,Gz.tE,by omega,by omega⟩
theorem Gz.AW (l:List Int) (i:Nat) (h:i<l.length):Gz.gy (l.drop i)=(if i+1<l.length then Gz.mq ⟨Gz.yc (l.getD i 0),Gz.yc (l.getD (i+1) 0),(0,0),(0,0)⟩ 1 else Gz.mq ⟨Gz.yc (l.getD i 0),(0,0),(0,0),(0,0)⟩ 1) :: Gz.gy (l.drop (i+2)):=by
 rw [drop_cons h 0]
 by_cases c:i+1<l.length
 ·rw [drop_cons c 0,Gz.gy,aG c]
 ·rw [bc (i:=i+1) (by omega),bc (i:=i+2) (by omega),Gz.gy,aE c];rfl
theorem bR.fj (l:List Int) (h:Gz.ie l=true) (hl:l.length≤256):∀(m i:Nat) (acc:List Qd),l.length≤i+2 * m→i≤300→acc.length≤i→bR.l1 l acc i=some [.sl .qd (acc++Gz.gy (l.drop i))]:=by
 intro m
 induction m with
 | zero =>
  intro i acc hi Ka ha
  refine bR.dB _ _ _ ?_
  intro v1 h1 v2 h2 v3 h3 v4 h4 v5 h5 v6 h6
  rw [af (by omega),aw,bc (by omega),Gz.gy,aR]
 | succ m ih =>
  intro i acc hi Ka ha
  refine bR.dB _ _ _ ?_
  intro v1 h1 v2 h2 v3 h3 v4 h4 v5 h5 v6 h6
  by_cases c0:i<l.length
  ·rw [au] at h1
   have e3:v3=((i+1:Nat):Int):=by rw [h3,i64_in _ (by omega)];omega
   rw [e3,au] at h4
   have hd:=Gz.rj h i (by omega)
   rw [←h1] at hd
   have jn:∀q:Qd,Gz.KB q 1125899906842624→bR.j2 l acc i q=some [.sl .qd (acc++[Gz.mq q 1]++Gz.gy (l.drop (i+2)))]:=fun q hq=>by
    refine bR.wm _ _ _ _ ?_
    intro u1 g1 u2 g2
    have e2:u2=((i+2:Nat):Int):=by rw [g2,i64_in _ (by omega)];omega
    rw [Gz.tR.2 hq,db,bE (ig (by rw [ay];omega) (by rw [ay];omega)),g1,e2]
    exact ih (i+2) _ (by omega) (by omega) (by rw [ao,ay];omega)
   rw [ae (by omega),aD,bE (cQ (by omega) (by omega)),bE (ae (by omega)),Gz.AW l i c0]
   by_cases c:i+1<l.length
   ·have hd2:=Gz.rj h (i+1) c
    rw [←h4] at hd2
    rw [e3,ae (by omega),aD,bE (cQ (by omega) (by omega)),bE (ae (by omega)),bE (cQ (by omega) (by omega)),bE (by decide),aG c]
    have e6:v6=⟨Gz.yc v1,Gz.yc v4,(0,0),(0,0)⟩:=by rw [h6,h5,h2];rfl
    rw [e6,jn _ ⟨Gz.A0 hd,Gz.A0 hd2,Gz.qw,Gz.qw⟩,←h1,←h4,aN];rfl
   ·rw [e3,af (by omega),aw,aE c]
    have e6:(Qd.mk v2 (0,0) (0,0) (0,0))=⟨Gz.yc v1,(0,0),(0,0),(0,0)⟩:=by rw [h2];rfl
    rw [e6,jn _ ⟨Gz.A0 hd,Gz.qw,Gz.qw,Gz.qw⟩,←h1,aN];rfl
  ·rw [af (by omega),aw,bc (by omega),Gz.gy,aR]
theorem bR.goal (l:List Int) (hp:(decide (l.length≤256)&&Gz.ie l)=true):bR.F l=some [.sl .qd (Gz.gy l)]:=by
 simp only [aa,az] at hp
 rw [bR.iC]
 have:=bR.fj l hp.2 hp.1 l.length 0 [] (by omega) (by omega) (by simp)
 rw [aT,bg] at this
 exact this
end Go.Eng
namespace Go.Eng
open Go.IntWalk
namespace Gz
def pre (X Y:Nat→Int) (w:Int) (k:Nat):Nat→Int
 | 0=>0
 | j+1=>pre X Y w k j+(X j * rI (j * k * w) - Y j * rK (j * k * w))
def Ia (X Y:Nat→Int) (w:Int) (k:Nat):Nat→Int
 | 0=>0
 | j+1=>Ia X Y w k j+(X j * rK (j * k * w)+Y j * rI (j * k * w))
theorem xd {l:Qd} {X Y:Nat→Int} {w:Int} {k:Nat} (h:∀j,j<4→Is (l.get j) (X j) (Y j)∧(X j).natAbs≤1125899906842624∧(Y j).natAbs≤1125899906842624) :
  ∀j,j≤4→Is (part l w k j) (pre X Y w k j) (Ia X Y w k j)∧(pre X Y w k j).natAbs≤j * 2251799813685248∧(Ia X Y w k j).natAbs≤j * 2251799813685248
 | 0,_=>⟨tE,by show (0:Int).natAbs≤_;omega,by show (0:Int).natAbs≤_;omega⟩
 | j+1,hj=>by
  obtain ⟨i1,i2,i3⟩:=xd (w:=w) (k:=k) h j (by omega)
  obtain ⟨g1,g2,g3⟩:=h j (by omega)
  have t:=(wN (j * k * w) g1 g2 g3).2
  have b1:(X j * rI (j * k * w) - Y j * rK (j * k * w)).natAbs≤2251799813685248:=by
   rcases mN (j * k * w) with e | e | e <;> rcases mP (j * k * w) with f | f | f <;> rw [e,f] <;> omega
  have b2:(X j * rK (j * k * w)+Y j * rI (j * k * w)).natAbs≤2251799813685248:=by
   rcases mN (j * k * w) with e | e | e <;> rcases mP (j * k * w) with f | f | f <;> rw [e,f] <;> omega
  show Is (add (part l w k j) (tm (l.get j) (j * k * w))) (pre X Y w k j+(X j * rI (j * k * w) - Y j * rK (j * k * w))) (Ia X Y w k j+(X j * rK (j * k * w)+Y j * rI (j * k * w)))∧(pre X Y w k j+(X j * rI (j * k * w) - Y j * rK (j * k * w))).natAbs≤_∧(Ia X Y w k j+(X j * rK (j * k * w)+Y j * rI (j * k * w))).natAbs≤_
  generalize X j * rI (j * k * w) - Y j * rK (j * k * w)=A at *
  generalize X j * rK (j * k * w)+Y j * rI (j * k * w)=B at *
  exact ⟨(BG i1 t (by omega) (by omega)).2,by omega,by omega⟩
def dg (x:Int):Prop:=0≤x∧x≤65535
def two (a b:Int):Qd:=mq ⟨yc a,yc b,(0,0),(0,0)⟩ 1
def rx (a b:Int) (k:Nat):Int:=a+b * rI k
def ry (b:Int) (k:Nat):Int:=b * rK k
theorem Az {a b:Int} (ha:dg a) (hb:dg b) (k:Nat) (hk:k<4):Is ((two a b).get k) (rx a b k) (ry b k):=by
 unfold two
 rw [uo _ _ _ hk]
 have h:=(xd (l:=⟨yc a,yc b,(0,0),(0,0)⟩) (w:=1) (k:=k) (X:=fun j=>[a,b].getD j 0) (Y:=fun _=>0) (fun j hj=>by
  have:j=0∨j=1∨j=2∨j=3:=by omega
  obtain ⟨a1,a2⟩:=ha
  obtain ⟨b1,b2⟩:=hb
  rcases this with rfl | rfl | rfl | rfl
  ·exact ⟨AZ ⟨a1,a2⟩,by show a.natAbs≤_;omega,by decide⟩
  ·exact ⟨AZ ⟨b1,b2⟩,by show b.natAbs≤_;omega,by decide⟩
  ·exact ⟨tE,by show (0:Int).natAbs≤_;omega,by show (0:Int).natAbs≤_;omega⟩
  ·exact ⟨tE,by show (0:Int).natAbs≤_;omega,by show (0:Int).natAbs≤_;omega⟩) 4 (by omega)).1
 have e1:pre (fun j=>[a,b].getD j 0) (fun _=>0) 1 k 4=rx a b k:=by simp [pre,rx,rI]
 have e2:Ia (fun j=>[a,b].getD j 0) (fun _=>0) 1 k 4=ry b k:=by simp [Ia,ry,rK]
 rw [e1,e2] at h
 exact h
theorem EB {a b:Int} (ha:dg a) (hb:dg b) (k:Nat):(rx a b k).natAbs≤131070:=by
 obtain ⟨a1,a2⟩:=ha
 obtain ⟨b1,b2⟩:=hb
 unfold rx
 rcases mN k with e | e | e <;> rw [e] <;> omega
theorem EA {b:Int} (hb:dg b) (k:Nat):(ry b k).natAbs≤65535:=by
 obtain ⟨b1,b2⟩:=hb
 unfold ry
 rcases mP k with e | e | e <;> rw [e] <;> omega
def pV (x y:Qd):Qd:=⟨mul (x.get 0) (y.get 0),mul (x.get 1) (y.get 1),mul (x.get 2) (y.get 2),mul (x.get 3) (y.get 3)⟩
def zx (a b c d:Int) (k:Nat):Int:=rx a b k * rx c d k - ry b k * ry d k
def zy (a b c d:Int) (k:Nat):Int:=rx a b k * ry d k+ry b k * rx c d k
theorem CV (x y:Qd) (k:Nat) (hk:k<4):(pV x y).get k=mul (x.get k) (y.get k):=by
 have:k=0∨k=1∨k=2∨k=3:=by omega
 rcases this with rfl | rfl | rfl | rfl <;> rfl
theorem sd {a b:Int} {m n:Nat} (h1:a.natAbs≤m) (h2:b.natAbs≤n):(a * b).natAbs≤m * n:=by
 rw [Int.natAbs_mul];exact Nat.mul_le_mul h1 h2
theorem D7 {a b:Int} (ha:dg a) (hb:dg b) (k:Nat) (hk:k<4):In ((two a b).get k) 33554432 :=
 ⟨_,_,Az ha hb k hk,by have:=EB ha hb k;omega,by have:=EA hb k;omega⟩
theorem BX {a b c d:Int} (ha:dg a) (hb:dg b) (hc:dg c) (hd:dg d) (k:Nat) (hk:k<4) :
  Is ((pV (two a b) (two c d)).get k) (zx a b c d k) (zy a b c d k)∧(zx a b c d k).natAbs≤1125899906842624∧(zy a b c d k).natAbs≤1125899906842624:=by
 have x1:=EB ha hb k
 have x2:=EA hb k
 have x3:=EB hc hd k
 have x4:=EA hd k
 have y1:=sd x1 x3
 have y2:=sd x2 x4
 have y3:=sd x1 x4
 have y4:=sd x2 x3
 rw [CV _ _ _ hk]
 refine ⟨(A1 (Az ha hb k hk) (Az hc hd k hk) (by omega) (by omega) (by omega) (by omega)).2,?_,?_⟩
 ·unfold zx;omega
 ·unfold zy;omega
def co (a b c d:Int) (k:Nat):Int:=if k=0 then a * c else if k=1 then a * d+b * c else if k=2 then b * d else 0
theorem Af (a b c d:Int) (k:Nat) (hk:k<4):pre (zx a b c d) (zy a b c d) (-1) k 4=4 * co a b c d k∧Ia (zx a b c d) (zy a b c d) (-1) k 4=4 * 0:=by
 have:k=0∨k=1∨k=2∨k=3:=by omega
 rcases this with rfl | rfl | rfl | rfl <;> constructor <;> simp [pre,Ia,co,zx,zy,rx,ry,rI,rK,Int.add_mul,Int.mul_add,Int.sub_mul,Int.mul_sub,Int.neg_mul,Int.mul_neg] <;> omega
theorem GQ {a b c d:Int} (ha:dg a) (hb:dg b) (hc:dg c) (hd:dg d) (k:Nat):0≤co a b c d k∧co a b c d k≤8589672450:=by
 have m:∀{x y:Int},dg x→dg y→0≤x * y∧x * y≤4294836225:=fun {x y} h1 h2=>by
  have:=sd (a:=x) (b:=y) (m:=65535) (n:=65535) (by obtain ⟨_,_⟩:=h1;omega) (by obtain ⟨_,_⟩:=h2;omega)
  have h0:=Int.mul_nonneg h1.1 h2.1
  omega
 have m1:=m ha hc
 have m2:=m ha hd
 have m3:=m hb hc
 have m4:=m hb hd
 unfold co
 split
 ·omega
 ·split
  ·omega
  ·split <;> omega
theorem yL {a b c d:Int} (ha:dg a) (hb:dg b) (hc:dg c) (hd:dg d) (k:Nat) (hk:k<4):Is (part (pV (two a b) (two c d)) (-1) k 4) (4 * co a b c d k) (4 * 0):=by
 have h:=(xd (w:=-1) (k:=k) (fun j hj=>BX ha hb hc hd j hj) 4 (by omega)).1
 rw [(Af a b c d k hk).1,(Af a b c d k hk).2] at h
 exact h
theorem Hf (l:Qd) (k:Nat) (hk:k<4):(back l).get k=quarter (part l (-1) k 4):=by
 have:k=0∨k=1∨k=2∨k=3:=by omega
 rcases this with rfl | rfl | rfl | rfl <;> rfl
theorem AO {z:Cx} {x y:Int} (h:Is z (4 * x) (4 * y)) (hx:x.natAbs≤562949953421312) (hy:y.natAbs≤562949953421312):Is (quarter z) x y:=by
 unfold quarter
 rw [(h.1.toInt (by omega)).2,(h.2.toInt (by omega)).2,Int.mul_tdiv_cancel_left _ (by omega),Int.mul_tdiv_cancel_left _ (by omega)]
 exact ⟨Fl.W.ofInt (by omega),Fl.W.ofInt (by omega)⟩
theorem Jg {a b c d:Int} (ha:dg a) (hb:dg b) (hc:dg c) (hd:dg d) (k:Nat) (hk:k<4):Is ((back (pV (two a b) (two c d))).get k) (co a b c d k) 0:=by
 rw [Hf _ _ hk]
 have:=GQ ha hb hc hd k
 exact AO (yL ha hb hc hd k hk) (by omega) (by omega)
theorem H9 {a b c d:Int} (ha:dg a) (hb:dg b) (hc:dg c) (hd:dg d):(vo (pV (two a b) (two c d)) 1125899906842624&&JX (pV (two a b) (two c d)))=true:=by
 have h:∀k,k<4→In ((pV (two a b) (two c d)).get k) 1125899906842624:=fun k hk=>by
  obtain ⟨h1,h2,h3⟩:=BX ha hb hc hd k hk
  exact ⟨_,_,h1,h2,h3⟩
 rw [tR.2 ⟨h 0 (by omega),h 1 (by omega),h 2 (by omega),h 3 (by omega)⟩,Ck.2 fun k hk=>?_]
 ·rfl
 ·have:=GQ ha hb hc hd k
  exact ⟨_,_,yL ha hb hc hd k hk,by omega,by omega⟩
theorem jN:∀l:List Int,(gy l).length=(l.length+1) / 2
 | []=>rfl
 | [a]=>by simp [gy]
 | a :: b :: r=>by rw [gy,aQ,jN r,aQ,aQ];omega
theorem Oa:yc 0=(0,0):=by
 have e:Fl.ofInt 0=0:=by decide +kernel
 unfold yc;rw [e]
theorem rZ (e:Qd):∀(l:List Int) (i:Nat),i<(l.length+1) / 2→(gy l).getD i e=two (l.getD (2 * i) 0) (l.getD (2 * i+1) 0)
 | [],i,h=>by simp at h
 | [a],i,h=>by
  obtain rfl:i=0:=by simp at h;omega
  show mq ⟨yc a,(0,0),(0,0),(0,0)⟩ 1=two a 0
  unfold two;rw [Oa]
 | a :: b :: r,0,h=>rfl
 | a :: b :: r,i+1,h=>by
  rw [aQ,aQ] at h
  have:=rZ e r i (by omega)
  rw [show 2 * (i+1)=2 * i+2 by omega]
  exact this
theorem tV {l:List Int} (h:ie l=true) (i:Nat):dg (l.getD i 0):=by
 by_cases c:i<l.length
 ·exact rj h i c
 ·rw [ak,List.getElem?_eq_none (by omega)];exact ⟨by decide,by decide⟩
end Gz
end Go.Eng
namespace Go.Eng
open Go.IntWalk
namespace Gz
def T (f g:Nat→Int) (m:Nat):Nat→Int
 | 0=>0
 | n+1=>T f g m n+if n≤m then f n * g (m - n) else 0
def U (f g:Nat→Int) (i n m:Nat):Int:=(if i≤m∧m - i<n then f i * g (m - i) else 0)+if i+1≤m∧m - (i+1)<n then f (i+1) * g (m - (i+1)) else 0
theorem MA {x y:Int} (h1:dg x) (h2:dg y):0≤x * y∧x * y≤4294836225:=by
 have:=sd (a:=x) (b:=y) (m:=65535) (n:=65535) (by obtain ⟨_,_⟩:=h1;omega) (by obtain ⟨_,_⟩:=h2;omega)
 have h0:=Int.mul_nonneg h1.1 h2.1
 omega
theorem MP {f g:Nat→Int} (hf:∀i,dg (f i)) (hg:∀i,dg (g i)) (m:Nat):∀n,0≤T f g m n∧T f g m n≤n * 4294836225
 | 0=>⟨Int.le_refl _,by show (0:Int)≤_;omega⟩
 | n+1=>by
  have h:=MP hf hg m n
  have h2:=MA (hf n) (hg (m - n))
  rw [T]
  split <;> omega
theorem TI {f g:Nat→Int} (hf:∀i,dg (f i)) (hg:∀i,dg (g i)) (i n m:Nat):0≤U f g i n m∧U f g i n m≤8589672450:=by
 have h1:=MA (hf i) (hg (m - i))
 have h2:=MA (hf (i+1)) (hg (m - (i+1)))
 unfold U
 split <;> split <;> omega
theorem XR (f g:Nat→Int) (i m:Nat):U f g i 0 m=0:=by
 unfold U
 rw [aE (by omega),aE (by omega)];rfl
theorem MO (f g:Nat→Int) (i n m:Nat):U f g i (n+2) m=U f g i n m+if m=i+n then co (f i) (f (i+1)) (g n) (g (n+1)) 0 else if m=i+n+1 then co (f i) (f (i+1)) (g n) (g (n+1)) 1 else if m=i+n+2 then co (f i) (f (i+1)) (g n) (g (n+1)) 2 else 0:=by
 unfold U co
 by_cases c0:m=i+n
 ·subst c0
  rw [aG (by omega),aG rfl,aG rfl,aE (show ¬(i≤i+n∧i+n - i<n) by omega),show i+n - i=n by omega]
  by_cases c:n=0
  ·rw [aE (by omega),aE (by omega)];omega
  ·rw [aG (by omega),aG (by omega)];omega
 ·rw [aE c0]
  by_cases c1:m=i+n+1
  ·subst c1
   rw [aG (by omega),aG (by omega),aG rfl,aE (show ¬(i≤i+n+1∧i+n+1 - i<n) by omega),aE (show ¬(i+1≤i+n+1∧i+n+1 - (i+1)<n) by omega),show i+n+1 - i=n+1 by omega,show i+n+1 - (i+1)=n by omega,aE (by omega),aG rfl];omega
  ·rw [aE c1]
   by_cases c2:m=i+n+2
   ·subst c2
    rw [aE (by omega),aG (by omega),aG rfl,aE (show ¬(i≤i+n+2∧i+n+2 - i<n) by omega),aE (show ¬(i+1≤i+n+2∧i+n+2 - (i+1)<n) by omega),show i+n+2 - (i+1)=n+1 by omega,aE (by omega),aE (by omega),aG rfl];omega
   ·rw [aE c2]
    have e1:(i≤m∧m - i<n+2) ↔ (i≤m∧m - i<n):=by omega
    have e2:(i+1≤m∧m - (i+1)<n+2) ↔ (i+1≤m∧m - (i+1)<n):=by omega
    simp only [e1,e2,Int.add_zero]
theorem Qr {f g:Nat→Int} {n:Nat} (hg:∀i,n≤i→g i=0) (i m:Nat):T f g m (i+2)=T f g m i+U f g i n m:=by
 rw [T,T,U]
 have e:∀k,(if k≤m then f k * g (m - k) else 0)=if k≤m∧m - k<n then f k * g (m - k) else 0:=fun k=>by
  by_cases c:k≤m
  ·by_cases d:m - k<n
   ·rw [aG c,aG ⟨c,d⟩]
   ·rw [aG c,aE (by omega),hg _ (by omega),Int.mul_zero]
  ·rw [aE c,aE (by omega)]
 rw [e,e];omega
theorem Hq {f g:Nat→Int} {m n:Nat} (h:∀i,n≤i→i≤m→f i=0):∀k,T f g m (n+k)=T f g m n
 | 0=>rfl
 | k+1=>by
  rw [←Nat.add_assoc,T,Hq h k]
  split
  ·rw [h _ (by omega) (by omega),Int.zero_mul,Int.add_zero]
  ·rw [Int.add_zero]
theorem I8 (a b:List Int) (m:Nat):DE a b m=T (a.getD · 0) (b.getD · 0) m (m+1):=by
 unfold DE
 have:∀n,n≤m+1→(List.range n).foldl (fun s i=>s+a.getD i 0 * b.getD (m - i) 0) 0=T (a.getD · 0) (b.getD · 0) m n:=by
  intro n
  induction n with
  | zero=>intro _;rfl
  | succ n ih =>
   intro h
   rw [List.range_succ,List.foldl_append,ih (by omega),T,aG (by omega)];rfl
 exact this _ (Nat.le_refl _)
theorem Bv (a b:List Int) (m n:Nat) (hn:a.length≤n):T (a.getD · 0) (b.getD · 0) m n=DE a b m:=by
 rw [I8,←Hq (n:=n) (k:=m+1) (fun i h1 _=>by
  show a.getD i 0=0
  rw [ak,List.getElem?_eq_none (by omega)];rfl),Nat.add_comm n (m+1),Hq (fun i h1 h2=>by omega)]
theorem xj {l:List Int} {n:Nat} (x:Int) (m:Nat) (h:n<l.length):(l.set n x).getD m 0=if m=n then x else l.getD m 0:=by
 rw [ak,List.getElem?_set]
 by_cases c:n=m
 ·subst c;rw [aG rfl,aG h,aG rfl];rfl
 ·rw [aE c,aE (fun e=>c e.symm),ak]
def grow (o:List Int) (p:Nat) (x y z:Int):List Int :=
 let o1:=o.set p (o.getD p 0+x)
 let o2:=o1.set (p+1) (o1.getD (p+1) 0+y)
 o2.set (p+2) (o2.getD (p+2) 0+z)
theorem Gj {o:List Int} {p:Nat} (x y z:Int) (h:p+2<o.length) (m:Nat):(grow o p x y z).getD m 0=o.getD m 0+if m=p then x else if m=p+1 then y else if m=p+2 then z else 0:=by
 unfold grow
 simp only
 have hl:∀(o:List Int) (n:Nat) (x:Int),p+2<o.length→p+2<(o.set n x).length:=fun o n x h=>by rw [List.length_set];exact h
 have q1:=hl o p (o.getD p 0+x) h
 rw [xj (n:=p+2) _ m (hl _ _ _ q1),xj (n:=p+1) _ m (by omega),xj (n:=p+1) _ (p+2) (by omega),xj (n:=p) _ m (by omega),xj (n:=p) _ (p+1) (by omega),xj (n:=p) _ (p+2) (by omega)]
 by_cases c0:m=p
 ·subst c0
  rw [aE (by omega),aE (by omega),aG rfl,aG rfl]
 ·by_cases c1:m=p+1
  ·subst c1
   rw [aE (by omega),aG rfl,aE (by omega),aE (by omega),aG rfl]
  ·by_cases c2:m=p+2
   ·subst c2
    rw [aG rfl,aE (by omega),aE (by omega),aE c0,aE c1,aG rfl]
   ·rw [aE c2,aE c1,aE c0,aE c0,aE c1,aE c2,Int.add_zero]
theorem zC (o:List Int) (p:Nat) (x y z:Int):(grow o p x y z).length=o.length:=by
 unfold grow;simp
end Gz
open Gz
theorem bK.pY (x0 x1:List Int) (x2:List Qd) (x3 x4:Int) (x5:List Qd) (x6 x7:Int) (x8:List Qd) (x9 vt:Int) (o:List Int) (x y:Qd) (hx:∀k,k<4→In (x.get k) 33554432) (hy:∀k,k<4→In (y.get k) 33554432) (ho:(vo (pV x y) 1125899906842624&&JX (pV x y))=true) :
  bK.l3 x0 x1 x2 x3 x4 x5 x6 x7 x8 x9 vt 0 x y ⟨(0,0),(0,0),(0,0),(0,0)⟩ o=bK.l4 x0 x1 x2 x3 x4 x5 x6 x7 x8 x9 vt 0 x (back (pV x y)) o:=by
 have st:∀(k:Nat) (z:Qd),k<4→bK.l3 x0 x1 x2 x3 x4 x5 x6 x7 x8 x9 vt k x y z o=bK.l3 x0 x1 x2 x3 x4 x5 x6 x7 x8 x9 vt ((k+1:Nat):Int) x y (z.set k (mul (x.get k) (y.get k))) o:=fun k z hk=>by
  refine bK.me _ _ _ _ _ _ _ _ _ _ _ _ _ _ _ _ ?_
  intro v1 h1 v2 h2 v3 h3
  have e3:v3=((k+1:Nat):Int):=by rw [h3,i64_in _ (by omega)];omega
  rw [au] at h1 h2
  rw [ae (by omega),aD,bE (cQ (by omega) (by omega)),bE (ae (by omega)),bE (cQ (by omega) (by omega)),bE (ae (by omega)),au,kE.2 (hx k hk),kE.2 (hy k hk),bw,db,bE (cQ (by omega) (by omega)),bE (ae (by omega)),e3,h2,h1]
 refine (st 0 _ (by omega)).trans ?_
 refine (st 1 _ (by omega)).trans ?_
 refine (st 2 _ (by omega)).trans ?_
 refine (st 3 _ (by omega)).trans ?_
 refine bK.me _ _ _ _ _ _ _ _ _ _ _ _ _ _ _ _ ?_
 intro v1 h1 v2 h2 v3 h3
 rw [af (by decide),aw]
 exact bE ho
theorem bK.zf (x0 x1:List Int) (x2:List Qd) (x3:Int) (i j:Nat) (x5:List Qd) (x6 x7:Int) (x8:List Qd) (x9:Int) (o:List Int) (x y:Qd) (c:Nat→Int) (hc:∀k,k<4→Is (y.get k) (c k) 0∧0≤c k∧c k≤8589672450) (hi:i≤128) (hj:j≤128) (ho:2 * i+2 * j+2<o.length) (hb:∀m,0≤o.getD m 0∧o.getD m 0≤1125899906842624) (Wc:x3=i) :
  bK.l4 x0 x1 x2 x3 j x5 x6 x7 x8 x9 j 0 x y o=bK.l2 x0 x1 x2 x3 x5 x6 x7 x8 x9 ((j+1:Nat):Int) x (grow o (2 * i+2 * j) (c 0) (c 1) (c 2)):=by
 have st:∀(k:Nat) (o:List Int),k<3→2 * i+2 * j+2<o.length→(0≤o.getD (2 * i+2 * j+k) 0∧o.getD (2 * i+2 * j+k) 0≤1125899906842624)→bK.l4 x0 x1 x2 x3 j x5 x6 x7 x8 x9 j k x y o=bK.l4 x0 x1 x2 x3 j x5 x6 x7 x8 x9 j ((k+1:Nat):Int) x y (o.set (2 * i+2 * j+k) (o.getD (2 * i+2 * j+k) 0+c k)):=fun k o hk ho hb=>by
  refine bK.sY _ _ _ _ _ _ _ _ _ _ _ _ _ _ _ ?_
  intro v1 h1 v2 h2 v3 h3 v4 h4 v5 h5 v6 h6 v7 h7 v8 h8 v9 h9
  obtain ⟨q1,q2,q3⟩:=hc k (by omega)
  rw [au] at h1 h2
  have e1:v1=c k:=by rw [h1];exact (q1.1.toInt (by omega)).2
  have e3:v3=2 * i:=by rw [h3,Wc,i64_in _ (by omega)]
  have e4:v4=2 * j:=by rw [h4,i64_in _ (by omega)]
  have e5:v5=((2 * i+2 * j+k:Nat):Int):=by rw [h5,e3,e4,i64_in (2 * (i:Int)+2 * j) (by omega),i64_in _ (by omega)];omega
  rw [e5,au] at h6 h7
  have e7:v7=o.set (2 * i+2 * j+k) (o.getD (2 * i+2 * j+k) 0+c k):=by rw [h7,h6,e1,i64_in _ (by omega)]
  have e8:v8=((k+1:Nat):Int):=by rw [h8,i64_in _ (by omega)];omega
  have b1:s9 (y.get k) 4503599627370496=true:=kE.2 ⟨_,_,q1,by omega,by omega⟩
  rw [ae (by omega),aD,bE (cQ (by omega) (by omega)),bE (ae (by omega)),au,bE b1,e5,bE (cQ (by omega) (by omega)),au,bE (ae (by omega)),bE (cQ (by omega) (by omega)),bE (ae (by omega)),e7,e8]
 refine (st 0 _ (by omega) ho (hb _)).trans ?_
 refine (st 1 _ (by omega) (by rw [List.length_set];exact ho) (by rw [xj _ _ (by omega),aE (by omega)];exact hb _)).trans ?_
 refine (st 2 _ (by omega) (by rw [List.length_set,List.length_set];exact ho) (by rw [xj _ _ (by rw [List.length_set];omega),aE (by omega),xj _ _ (by omega),aE (by omega)];exact hb _)).trans ?_
 refine bK.sY _ _ _ _ _ _ _ _ _ _ _ _ _ _ _ ?_
 intro v1 h1 v2 h2 v3 h3 v4 h4 v5 h5 v6 h6 v7 h7 v8 h8 v9 h9
 have e9:v9=((j+1:Nat):Int):=by rw [h9,i64_in _ (by omega)];omega
 rw [af (by decide),aw,e9]
 rfl
theorem bK.kN (a b:List Int) (ha:Gz.ie a=true) (hb:Gz.ie b=true) (la:a.length≤256) (lb:b.length≤256) (i:Nat) (hi:i<(a.length+1) / 2):∀(m j:Nat) (o:List Int),j+m=(b.length+1) / 2→o.length=a.length+b.length+2→(∀q,o.getD q 0=T (a.getD · 0) (b.getD · 0) q (2 * i)+U (a.getD · 0) (b.getD · 0) (2 * i) (2 * j) q) →
  ∃o':List Int,bK.l2 a b (gy b) i (gy a) ((gy a).length:Int) i (gy b) ((gy b).length:Int) j (two (a.getD (2 * i) 0) (a.getD (2 * i+1) 0)) o=bK.l1 a b (gy b) (gy a) ((gy a).length:Int) ((i+1:Nat):Int) o'∧o'.length=a.length+b.length+2∧∀q,o'.getD q 0=T (a.getD · 0) (b.getD · 0) q (2 * (i+1)):=by
 intro m
 induction m with
 | zero =>
  intro j o hj ho hv
  refine ⟨o,?_,ho,?_⟩
  ·refine bK.jB _ _ _ _ _ _ _ _ _ _ _ _ ?_
   intro v1 h1 v2 h2
   have e2:v2=((i+1:Nat):Int):=by rw [h2,i64_in _ (by omega)];omega
   rw [jN,af (by omega),aw,e2]
  ·intro q
   rw [hv q,show 2 * (i+1)=2 * i+2 by omega,Qr (n:=2 * j) (fun k hk=>by
    show b.getD k 0=0
    rw [ak,List.getElem?_eq_none (by omega)];rfl)]
 | succ m ih =>
  intro j o hj ho hv
  have hf:=tV ha
  have hg:=tV hb
  have f0:=hf (2 * i)
  have f1:=hf (2 * i+1)
  have g0:=hg (2 * j)
  have g1:=hg (2 * j+1)
  obtain ⟨o',h1,h2,h3⟩:=ih (j+1) (grow o (2 * i+2 * j) (co (a.getD (2 * i) 0) (a.getD (2 * i+1) 0) (b.getD (2 * j) 0) (b.getD (2 * j+1) 0) 0) (co (a.getD (2 * i) 0) (a.getD (2 * i+1) 0) (b.getD (2 * j) 0) (b.getD (2 * j+1) 0) 1) (co (a.getD (2 * i) 0) (a.getD (2 * i+1) 0) (b.getD (2 * j) 0) (b.getD (2 * j+1) 0) 2)) (by omega) (by rw [zC];exact ho) (fun q=>by
   rw [Gj _ _ _ (by omega),hv q,show 2 * (j+1)=2 * j+2 by omega,MO,Int.add_assoc])
  refine ⟨o',Eq.trans ?_ h1,h2,h3⟩
  refine bK.jB _ _ _ _ _ _ _ _ _ _ _ _ ?_
  intro v1 h1 v2 h2
  rw [au,rZ _ _ _ (by omega)] at h1
  have hp:=jN b
  rw [ae (by omega),aD,bE (cQ (by omega) (by omega)),h1]
  rw [bK.pY _ _ _ _ _ _ _ _ _ _ _ _ _ _ (fun k hk=>D7 f0 f1 k hk) (fun k hk=>D7 g0 g1 k hk) (H9 f0 f1 g0 g1)]
  exact bK.zf _ _ _ _ i j _ _ _ _ _ _ _ _ (co (a.getD (2 * i) 0) (a.getD (2 * i+1) 0) (b.getD (2 * j) 0) (b.getD (2 * j+1) 0)) (fun k hk=>⟨Jg f0 f1 g0 g1 k hk,GQ f0 f1 g0 g1 k⟩) (by omega) (by omega) (by omega) (fun q=>by
   rw [hv q]
   have t1:=MP (f:=(a.getD · 0)) (g:=(b.getD · 0)) hf hg q (2 * i)
   have t2:=TI (f:=(a.getD · 0)) (g:=(b.getD · 0)) hf hg (2 * i) (2 * j) q
   omega) rfl
theorem Cd (o:List Int) (f:Nat→Int) (n:Nat) (hn:n≤o.length) (h:∀q,o.getD q 0=f q):o.take n=(List.range n).map f:=by
 apply List.ext_getElem
 ·rw [aJ,aH,List.length_range];omega
 ·intro i h1 h2
  rw [aJ] at h1
  have:=h i
  rw [ak,aA (by omega)] at this
  rw [List.getElem_take,List.getElem_map,List.getElem_range]
  exact this
theorem bK.fj (a b:List Int) (ha:Gz.ie a=true) (hb:Gz.ie b=true) (la:a.length≤256) (lb:b.length≤256) (na:a≠[]) (nb:b≠[]):∀(m i:Nat) (o:List Int),i+m=(a.length+1) / 2→o.length=a.length+b.length+2→(∀q,o.getD q 0=T (a.getD · 0) (b.getD · 0) q (2 * i)) →
  bK.l1 a b (gy b) (gy a) ((gy a).length:Int) i o=some [.sl .is (conv a b),.b true]:=by
 have pa:=List.length_pos_iff.2 na
 have pb:=List.length_pos_iff.2 nb
 intro m
 induction m with
 | zero =>
  intro i o hi ho hv
  refine bK.dB _ _ _ _ _ _ _ ?_
  intro v1 h1 v2 h2 v3 h3
  have e2:v2=a.length+b.length:=by rw [h2,i64_in _ (by omega)]
  have e3:v3=((a.length+b.length - 1:Nat):Int):=by rw [h3,e2,i64_in _ (by omega)];omega
  have e:o.take (a.length+b.length - 1)=conv a b:=by
   rw [Cd o (DE a b) _ (by omega) (fun q=>by rw [hv q,Bv a b q _ (by omega)])]
   unfold conv
   rw [aE (by simp [na,nb])]
  rw [jN,af (by omega),aw,e3,au,bE (ju (by omega) (by omega) (by omega)),bE (ig (by rw [aJ];omega) (by rw [aJ];omega)),e]
 | succ m ih =>
  intro i o hi ho hv
  refine bK.dB _ _ _ _ _ _ _ ?_
  intro v1 h1 v2 h2 v3 h3
  have hp:=jN a
  rw [au,rZ _ _ _ (by omega)] at h1
  obtain ⟨o',q1,q2,q3⟩:=bK.kN a b ha hb la lb i (by omega) ((b.length+1) / 2) 0 o (by omega) ho (fun q=>by rw [hv q,Nat.mul_zero,XR,Int.add_zero])
  rw [ae (by omega),aD,bE (cQ (by omega) (by omega)),h1]
  exact Eq.trans q1 (ih (i+1) o' (by omega) q2 q3)
theorem bK.goal (a b:List Int) (hp:(decide (a.length≤256∧b.length≤256)&&(Gz.ie a&&Gz.ie b))=true):bK.F a b=some [.sl .is (Gz.conv a b),.b true]:=by
 simp only [aa,az] at hp
 obtain ⟨⟨la,lb⟩,ha,hb⟩:=hp
 refine bK.eh _ _ ?_
 intro v1 h1 v2 h2 v3 h3 v4 h4 v5 h5 v6 h6
 have e1:v1=false:=h1
 have ca:(decide (a.length≤256)&&Gz.ie a)=true:=by rw [ha,ae la];rfl
 have cb:(decide (b.length≤256)&&Gz.ie b)=true:=by rw [hb,ae lb];rfl
 simp only [bA,bB,Bool.not_not,a8,Bool.true_and,Bool.false_or,Bool.or_self,db,ca,cb,e1,aw]
 by_cases na:a=[]
 ·subst na
  have e2:v2=true:=h2
  rw [e2,aD];unfold conv;rw [aG (Or.inl rfl)];rfl
 ·by_cases nb:b=[]
  ·subst nb
   have e2:v2=true:=by
    rw [h2]
    cases decide ((a.length:Int)=0) <;> rfl
   rw [e2,aD];unfold conv;rw [aG (Or.inr rfl)];rfl
  ·have pa:=List.length_pos_iff.2 na
   have pb:=List.length_pos_iff.2 nb
   have e2:v2=false:=by rw [h2,af (by omega),aw];exact af (by omega)
   have e3:v3=a.length+b.length:=by rw [h3,i64_in _ (by omega)]
   have e4:v4=((a.length+b.length+2:Nat):Int):=by rw [h4,e3,i64_in _ (by omega)];omega
   rw [e4,au] at h5
   rw [e2,aw,e4]
   refine Eq.trans (bE rfl) ?_
   rw [bE (jP.2 ⟨by omega,by omega,by omega,by rw [iY];omega⟩),h6]
   exact bK.fj a b ha hb la lb na nb ((a.length+1) / 2) 0 v5 (by omega) (by rw [h5,List.length_replicate]) (fun q=>by
    rw [h5]
    show _=(0:Int)
    rw [ak,List.getElem?_replicate]
    split <;> rfl)
end Go.Eng
namespace Go.Eng
open Go.IntWalk
namespace Gz
def xL:List Int→Int
 | []=>0
 | x :: r=>x+65536 * xL r
def sB (h:Nat→Int):Nat→Int
 | 0=>0
 | n+1=>sB h n+h n * 65536 ^ n
theorem zZ:∀(l:List Int) (x:Int),xL (l++[x])=xL l+x * 65536 ^ l.length
 | [],x=>by simp [xL]
 | y :: r,x=>by
  rw [List.cons_append,xL,zZ r x,xL,aQ,Int.pow_succ,Int.mul_add,←Int.mul_assoc x,Int.mul_comm 65536 (x * _),Int.add_assoc]
theorem sC (f:Nat→Int):∀n,xL ((List.range n).map f)=sB f n
 | 0=>rfl
 | n+1=>by rw [List.range_succ,List.map_append,List.map_singleton,zZ,sC f n,aH,List.length_range];rfl
theorem Gt (l:List Int):xL l=sB (l.getD · 0) l.length:=by
 rw [←sC,←Cd l _ l.length (Nat.le_refl _) (fun _=>rfl),List.take_length]
theorem sA {f g:Nat→Int}:∀n,(∀i,i<n→f i=g i)→sB f n=sB g n
 | 0,_=>rfl
 | n+1,h=>by rw [sB,sB,sA n (fun i hi=>h i (by omega)),h n (by omega)]
theorem Cy (f g:Nat→Int):∀n,sB (fun i=>f i+g i) n=sB f n+sB g n
 | 0=>rfl
 | n+1=>by
  simp only [sB]
  rw [Cy f g n,Int.add_mul];omega
theorem vb:∀n,sB (fun _=>0) n=0
 | 0=>rfl
 | n+1=>by
  simp only [sB]
  rw [vb n,Int.zero_mul];rfl
theorem Cw {g:Nat→Int} {n:Nat} (h:∀i,n≤i→g i=0):∀k,sB g (n+k)=sB g n
 | 0=>rfl
 | k+1=>by rw [←Nat.add_assoc,sB,Cw h k,h _ (by omega),Int.zero_mul,Int.add_zero]
theorem wy (c:Int) (g:Nat→Int) (n:Nat):∀k,sB (fun m=>if n≤m then c * g (m - n) else 0) (n+k)=c * 65536 ^ n * sB g k
 | 0=>by
  rw [Nat.add_zero,sA (g:=fun _=>0) n (fun i hi=>aE (by omega)),vb,sB,Int.mul_zero]
 | k+1=>by
  rw [←Nat.add_assoc,sB,wy c g n k,sB]
  rw [aG (by omega),show n+k - n=k by omega,Int.mul_add,Int.pow_add,Int.mul_assoc c (g k),Int.mul_assoc c (65536 ^ n) (g k * 65536 ^ k),←Int.mul_assoc (g k),Int.mul_comm (g k) (65536 ^ n),Int.mul_assoc (65536 ^ n) (g k)]
theorem Kl {f g:Nat→Int} {L:Nat} (hg:∀i,L≤i→g i=0) (N:Nat):∀n,n+L≤N+1→n≤N→sB (fun m=>T f g m n) N=sB f n * sB g L
 | 0,_,_=>by
  rw [sB,Int.zero_mul];exact vb N
 | n+1,h,h2=>by
  have e:=wy (f n) g n (N - n)
  rw [show n+(N - n)=N by omega] at e
  have e2:sB g (N - n)=sB g L:=by
   rw [show N - n=L+(N - n - L) by omega];exact Cw hg _
  have:=Cy (fun m=>T f g m n) (fun m=>if n≤m then f n * g (m - n) else 0) N
  rw [e,e2,Kl hg N n (by omega) (by omega),←Int.add_mul] at this
  exact this
theorem Gu (a b:List Int):xL (conv a b)=xL a * xL b:=by
 by_cases na:a=[]
 ·subst na;unfold conv;rw [aG (Or.inl rfl)];simp [xL]
 ·by_cases nb:b=[]
  ·subst nb;unfold conv;rw [aG (Or.inr rfl)];simp [xL]
  ·have pa:=List.length_pos_iff.2 na
   have pb:=List.length_pos_iff.2 nb
   unfold conv
   rw [aE (by simp [na,nb]),sC,Gt a,Gt b]
   rw [sA (g:=fun m=>T (a.getD · 0) (b.getD · 0) m a.length) _ (fun i _=>(Bv a b i _ (Nat.le_refl _)).symm)]
   exact Kl (fun i hi=>by
    show b.getD i 0=0
    rw [ak,List.getElem?_eq_none (by omega)];rfl) _ _ (by omega) (by omega)
theorem xK:∀a:List UInt16,xL (a.map fun d=>(d.toNat:Int))=(Nt.val a:Int)
 | []=>rfl
 | d :: r=>by rw [ah,xL,xK r,Nt.val];omega
theorem tj (a b:List Int):(conv a b).length=if a=[]∨b=[] then 0 else a.length+b.length - 1:=by
 unfold conv
 split
 ·rfl
 ·rw [aH,List.length_range]
theorem GO (a b:List Int) (ha:ie a=true) (hb:ie b=true) (la:a.length≤256) (i:Nat):0≤(conv a b).getD i 0∧(conv a b).getD i 0≤1099478073600:=by
 by_cases h:i<(conv a b).length
 ·have hl:=tj a b
  by_cases c:a=[]∨b=[]
  ·rw [hl,aG c] at h;omega
  ·have e:(conv a b).getD i 0=DE a b i:=by
    rw [ak,aA h]
    unfold conv
    simp only [aE c,List.getElem_map,List.getElem_range,Option.getD_some]
   rw [e,←Bv a b i _ (Nat.le_refl _)]
   have:=MP (f:=(a.getD · 0)) (g:=(b.getD · 0)) (tV ha) (tV hb) i a.length
   omega
 ·rw [ak,List.getElem?_eq_none (by omega)];exact ⟨by decide,by decide⟩
end Gz
open Gz
theorem yj (acc:List UInt16) (c:Nat):Nt.val (acc++[UInt16.ofNat c])+65536 ^ (acc.length+1) * (c / 65536)=Nt.val acc+65536 ^ acc.length * c:=by
 rw [Nt.fG]
 simp only [Nt.val,Nat.mul_zero,Nat.add_zero,Nt.dE]
 rw [Nat.pow_succ,Nat.mul_assoc,Nat.add_assoc,←Nat.mul_add,Nat.mod_add_div]
theorem cK.kN (R:Nat):∀(k:Nat) (acc:List UInt16) (c:Nat),c<65536 ^ k→acc.length+k≤10000→Nt.val acc+65536 ^ acc.length * c=R→cK.l2 acc c=some [.sl .ws (Nt.of R)]:=by
 intro k
 induction k with
 | zero =>
  intro acc c hc hl hv
  obtain rfl:c=0:=by simpa using hc
  refine cK.jB _ _ ?_
  intro v1 h1 v2 h2
  rw [af (by omega),aw,bE (ae (by omega)),←hv,Nat.mul_zero,Nat.add_zero]
 | succ k ih =>
  intro acc c hc hl hv
  refine cK.jB _ _ ?_
  intro v1 h1 v2 h2
  by_cases c0:c=0
  ·subst c0
   rw [af (by omega),aw,bE (ae (by omega)),←hv,Nat.mul_zero,Nat.add_zero]
  ·rw [ob] at h1
   rw [xI] at h2
   rw [ae (by omega),aD,h1,h2,bE (ig (by rw [ay];omega) (by rw [ay];omega))]
   exact ih _ _ (by rw [Nat.pow_succ] at hc;exact Nat.div_lt_of_lt_mul (by rw [Nat.mul_comm];exact hc)) (by rw [ao,ay];omega) (by
    rw [ao,ay,yj];exact hv)
theorem cK.fj (l:List Int) (hl:l.length≤600) (hb:∀i,0≤l.getD i 0∧l.getD i 0≤1099478073600) (R:Nat):∀(m i:Nat) (acc:List UInt16) (c:Nat),i+m=l.length→acc.length=i→c≤1099511627776→((Nt.val acc:Nat):Int)+65536 ^ i * (c+xL (l.drop i))=R→cK.l1 acc c l l.length i=some [.sl .ws (Nt.of R)]:=by
 intro m
 induction m with
 | zero =>
  intro i acc c hi ha hc hv
  refine cK.dB _ _ _ _ _ ?_
  intro v1 h1 v2 h2 v3 h3 v4 h4
  rw [bc (by omega),xL,Int.add_zero] at hv
  rw [af (by omega),aw]
  refine cK.kN R 3 acc c (by omega) (by omega) ?_
  rw [ha]
  have e:((65536 ^ i * c:Nat):Int)=65536 ^ i * (c:Int):=by rw [Int.natCast_mul,Int.natCast_pow];rfl
  omega
 | succ m ih =>
  intro i acc c hi ha hc hv
  refine cK.dB _ _ _ _ _ ?_
  intro v1 h1 v2 h2 v3 h3 v4 h4
  rw [au] at h1
  have hx:=hb i
  rw [←h1] at hx
  obtain ⟨x,rfl⟩:=Int.eq_ofNat_of_zero_le hx.1
  have e0:IntKind.i64.wrap ((c:Int)+(x:Int))=((c+x:Nat):Int):=by rw [i64_in _ (by omega)];omega
  rw [e0] at h2 h3
  rw [ob] at h2
  rw [xI] at h3
  have e4:v4=((i+1:Nat):Int):=by rw [h4,i64_in _ (by omega)];omega
  rw [ae (by omega),aD,bE (cQ (by omega) (by omega)),bE (ig (by rw [ay];omega) (by rw [ay];omega)),h2,h3,e4]
  refine ih (i+1) _ _ (by omega) (by rw [ao,ay];omega) (by omega) ?_
  rw [drop_cons (show i<l.length by omega) 0,xL,←h1] at hv
  have hm:=yj acc (c+x)
  rw [ha] at hm
  have xv:((Nt.val (acc++[UInt16.ofNat (c+x)]):Nat):Int)+65536 ^ (i+1) * (((c+x) / 65536:Nat):Int)=(Nt.val acc:Int)+65536 ^ i * ((c+x:Nat):Int):=by
   have:=congrArg (Nat.cast:Nat→Int) hm
   rw [Int.natCast_add,Int.natCast_add,Int.natCast_mul,Int.natCast_mul,Int.natCast_pow,Int.natCast_pow] at this
   exact this
  generalize xL (l.drop (i+1))=E at *
  rw [Int.mul_add,←Int.add_assoc,xv,←hv,Int.pow_succ,Int.mul_assoc,Int.add_assoc,←Int.mul_add]
  congr 2
  omega
theorem cK.goal (a b:List UInt16) (hp:(Nt.is a&&Nt.is b)=true):cK.F a b=some [.sl .ws (Nt.of (Nt.val a * Nt.val b))]:=by
 simp only [aa] at hp
 obtain ⟨ha,hb⟩:=hp
 have la:=Nt.jd ha
 have lb:=Nt.jd hb
 have hd:∀a:List UInt16,Gz.ie (a.map fun d=>(d.toNat:Int))=true:=fun a=>by
  unfold Gz.ie
  rw [aL]
  intro x hx
  obtain ⟨d,_,rfl⟩:=aP.1 hx
  have:=d.toNat_lt
  exact ae (by omega)
 refine cK.eh _ _ ?_
 intro v1 h1 v2 h2 v3 h3 v4 h4
 have e1:v1=false:=by rw [h1,ha,hb];rfl
 have l2:v2.length=a.length:=by rw [h2,aH]
 have l3:v3.length=b.length:=by rw [h3,aH]
 have d2:Gz.ie v2=true:=by rw [h2];exact hd a
 have d3:Gz.ie v3=true:=by rw [h3];exact hd b
 have c1:(decide (v2.length≤256∧v3.length≤256)&&(Gz.ie v2&&Gz.ie v3))=true:=by rw [d2,d3,ae ⟨by omega,by omega⟩];rfl
 rw [e1,ha,h4,bE c1,ae (show a.length≤1099511627776 by omega),ae (show b.length≤1099511627776 by omega),ae (show a.length≤256 by omega),ae (show b.length≤256 by omega)]
 refine Eq.trans (b:=cK.l1 [] 0 (Gz.conv v2 v3) (Gz.conv v2 v3).length 0) rfl ?_
 have hl:(Gz.conv v2 v3).length≤600:=by
  rw [Gz.tj]
  split <;> omega
 refine cK.fj _ hl (Gz.GO _ _ d2 d3 (by omega)) _ (Gz.conv v2 v3).length 0 [] 0 (by omega) rfl (by omega) ?_
 rw [aT,Gz.Gu,h2,h3,Gz.xK,Gz.xK,Int.natCast_mul]
 simp [Nt.val]
end Go.Eng
namespace Go.Eng
open Go.IntWalk
namespace Nr
theorem tN {a:Nat} (h:0<a) (e:Int):0<iH a e:=Nat.mul_pos h (Nat.two_pow_pos _)
def pt (Q F:Nat):Nat:=if Q<4503599627370496 then Q else (F+1) * 4503599627370496+(Q - 4503599627370496)
theorem Jx {Q F:Nat} (h:4503599627370496≤Q∨F=0) (h2:Q<9007199254740992):iI (pt Q F)=Q∧sh (pt Q F)=F:=by
 unfold pt
 split
 ·rename_i c
  obtain rfl:F=0:=by omega
  unfold iI sh
  rw [aG c,show Q / 4503599627370496=0 by omega];exact ⟨rfl,rfl⟩
 ·rename_i c
  exact Ho (by omega) h2
theorem K0 (Q F:Nat):pt Q F % 2=Q % 2:=by
 unfold pt
 split <;> omega
theorem Hl {a b Q:Nat} {E:Int} {F:Nat} (hb:0<b) (hE:E+1074=F) (hQ:Q=iW a E / iH b E) (h:4503599627370496≤Q∨F=0) (h2:Q<9007199254740992) :
  (V (pt Q F) * b≤a * 2 ^ 1074∧a * 2 ^ 1074<V (pt Q F+1) * b)∧(fK a b (pt Q F) ↔ (iH b E<2 * (iW a E % iH b E)∨(iH b E=2 * (iW a E % iH b E)∧Q % 2=1))):=by
 obtain ⟨m1,m2⟩:=Jx h h2
 have hB:=tN hb E
 have Dq:=Nat.div_add_mod (iW a E) (iH b E)
 have hr:=Nat.mod_lt (iW a E) hB
 rw [←hQ] at Dq
 generalize hR:iW a E % iH b E=R at *
 have Mk:V (pt Q F)=Q * 2 ^ F:=by unfold V;rw [m1,m2]
 have M7:V (pt Q F+1)=(Q+1) * 2 ^ F:=by rw [xY,m1,m2]
 -- both T0 times 2^(-E)
 have k1:∀n:Nat,n * 2 ^ F * b * 2 ^ (-E).toNat=n * iH b E * 2 ^ 1074:=fun n=>by
  unfold iH
  exact Fp (yJ (a:=F) (b:=(-E).toNat) (c:=E.toNat) (d:=1074) (by omega))
 have k2:a * 2 ^ 1074 * 2 ^ (-E).toNat=iW a E * 2 ^ 1074:=by unfold iW;rw [Nat.mul_right_comm]
 have hp:=Nat.two_pow_pos (-E).toNat
 have qV:=Nat.two_pow_pos 1074
 refine ⟨⟨?_,?_⟩,?_⟩
 ·refine Nat.le_of_mul_le_mul_right ?_ hp
  rw [Mk,k1,k2]
  refine ar _ ?_
  rw [Nat.mul_comm];omega
 ·refine Nat.lt_of_mul_lt_mul_right (a:=2 ^ (-E).toNat) ?_
  rw [M7,k1,k2]
  refine Nat.mul_lt_mul_of_pos_right ?_ qV
  rw [Nat.add_mul,Nat.mul_comm Q];omega
 ·unfold fK
  rw [lL,Mk,M7,K0,←Nat.add_mul]
  have e:a * fW * 2 ^ (-E).toNat=2 * iW a E * 2 ^ 1074:=by
   rw [mul_two (a:=a) iL,Nat.mul_assoc 2,k2,←Nat.mul_assoc]
  have k3:=k1 (Q+(Q+1))
  have g1:((Q+(Q+1)) * 2 ^ F * b<a * fW) ↔ (Q+(Q+1)) * iH b E<2 * iW a E:=by
   constructor
   ·intro h
    have:=Nat.mul_lt_mul_of_pos_right h hp
    rw [k3,e] at this
    exact Nat.lt_of_mul_lt_mul_right this
   ·intro h
    refine Nat.lt_of_mul_lt_mul_right (a:=2 ^ (-E).toNat) ?_
    rw [k3,e]
    exact Nat.mul_lt_mul_of_pos_right h qV
  have g2:((Q+(Q+1)) * 2 ^ F * b=a * fW) ↔ (Q+(Q+1)) * iH b E=2 * iW a E:=by
   constructor
   ·intro h
    have this:(Q+(Q+1)) * 2 ^ F * b * 2 ^ (-E).toNat=a * fW * 2 ^ (-E).toNat:=by rw [h]
    rw [k3,e] at this
    exact Nat.eq_of_mul_eq_mul_right qV this
   ·intro h
    refine Nat.eq_of_mul_eq_mul_right hp ?_
    rw [k3,e,h]
  rw [g1,g2,Nat.add_mul,Nat.add_mul,Nat.one_mul]
  have hc:Q * iH b E=iH b E * Q:=Nat.mul_comm _ _
  omega
theorem rT (A B:Nat):(uB A B=A / B+1∧(B<2 * (A % B)∨(B=2 * (A % B)∧A / B % 2=1)))∨(uB A B=A / B∧¬(B<2 * (A % B)∨(B=2 * (A % B)∧A / B % 2=1))):=by
 unfold uB
 split
 ·rename_i h;exact .inl ⟨rfl,h⟩
 ·rename_i h;exact .inr ⟨rfl,h⟩
theorem wg {a b:Nat} {E:Int} (hb:0<b) (hE : -1074≤E) (h:4503599627370496≤iW a E / iH b E∨E=-1074) (h2:iW a E / iH b E<9007199254740992):gq a b=join false (uB (iW a E) (iH b E)) E:=by
 classical
 obtain ⟨F,hF⟩:=Int.eq_ofNat_of_zero_le (show 0≤E+1074 by omega)
 generalize hQ:iW a E / iH b E=Q at *
 have Uy:4503599627370496≤Q∨F=0:=by omega
 obtain ⟨⟨a1,a2⟩,a3⟩:=Hl hb hF hQ.symm Uy h2
 obtain ⟨m1,m2⟩:=Jx Uy h2
 have Mk:V (pt Q F)=Q * 2 ^ F:=by unfold V;rw [m1,m2]
 have M7:V (pt Q F+1)=(Q+1) * 2 ^ F:=by rw [xY,m1,m2]
 have ex:(-(E+1074)).toNat=0:=by omega
 have ey:(E+1074).toNat=F:=by omega
 have hj:∀p M,V p=M * 2 ^ F→join false M E=if p≤top then some p else none:=fun p M hv=>by
  split
  ·rename_i ht
   exact join_some false ht (by rw [ex,ey,Nat.pow_zero,Nat.mul_one,hv])
  ·rename_i ht
   refine join_none false fun q hq e=>ht ?_
   rw [ex,ey,Nat.pow_zero,Nat.mul_one,←hv] at e
   exact KA e ▸ hq
 have hr:=rT (iW a E) (iH b E)
 rw [hQ] at hr
 by_cases hp:pt Q F≤top
 ·rw [Ij hb a1 a2 hp]
  rcases hr with ⟨r1,r2⟩ | ⟨r1,r2⟩
  ·rw [aG (a3.2 r2),r1,hj _ _ M7]
  ·rw [aE (fun h=>r2 (a3.1 h)),r1,hj _ _ Mk,aG hp]
 ·rw [Fm hb a1 (by omega)]
  rcases hr with ⟨r1,r2⟩ | ⟨r1,r2⟩
  ·rw [r1,hj _ _ M7,aE (by omega)]
  ·rw [r1,hj _ _ Mk,aE hp]
end Nr
theorem lB (a b:Nat):(Nt.cmp a b=-1∧a<b)∨(Nt.cmp a b=0∧a=b)∨(Nt.cmp a b=1∧b<a):=by
 unfold Nt.cmp
 by_cases c:a<b
 ·rw [aG c];exact .inl ⟨rfl,c⟩
 ·rw [aE c]
  by_cases d:a=b
  ·rw [aG d];exact .inr (.inl ⟨rfl,d⟩)
  ·rw [aE d];exact .inr (.inr ⟨rfl,by omega⟩)
theorem Ie {n:Nat} (h:n<2 ^ 64):(Nt.of n).length≤4:=(Nt.jA n 4).2 (by rw [show (65536:Nat) ^ 4=2 ^ 64 by decide];exact h)
theorem bX.gw (A B:Nat) (hB:0<B) (hA:A<2 ^ 4090) (Tk:B<2 ^ 4090) (Mn:A<2 ^ 60 * B):bX.j1 (Nt.of A) (Nt.of B)=some [.u64 (UInt64.ofNat (Nr.uB A B)),.b (Nr.lG A B)]:=by
 have Y4:(2:Nat) ^ (6+4090)=64 * 2 ^ 4090:=Nr.KZ 4090
 refine bX.jR _ _ ?_
 intro v1 h1 v2 h2 v3 h3 v4 h4 v5 h5 v6 h6 v7 h7 v8 h8 v9 h9
 rw [Nt.eJ,Nt.eJ] at h1 h2
 have hr:=Nat.mod_lt A hB
 have hq:A / B<2 ^ 60:=(Nat.div_lt_iff_lt_mul hB).2 Mn
 have e1:Nt.val v1=A / B:=by rw [h1,Nt.eJ]
 have e2:Nt.val v2=A % B:=by rw [h2,Nt.eJ]
 have e3:Nt.val v3=2 * (A % B):=by rw [h3,Nt.eJ,e2];exact Nat.mul_comm ..
 rw [e3,Nt.eJ] at h4
 have i1:Nt.is (Nt.of A)=true:=Nt.pZ (by omega)
 have i2:Nt.is (Nt.of B)=true:=Nt.pZ (by omega)
 have i3:Nt.is v1=true:=by rw [h1];exact Nt.pZ (by omega)
 have i4:Nt.is v2=true:=by rw [h2];exact Nt.pZ (by omega)
 have i5:Nt.is v3=true:=by rw [h3];exact Nt.pZ (by rw [e2];show A % B * 2 ^ 1<_;omega)
 have nb:Nt.of B≠[]:=by rw [Nt.lK hB];simp
 have l4:v1.length≤4:=by rw [h1];exact Ie (Nat.lt_of_lt_of_le hq (Nat.pow_le_pow_right (by omega) (by omega)))
 rw [i1,i2,i3,i4,i5,ae nb]
 refine (bE (by rfl)).trans ?_
 rw [bE (ae ⟨rfl,l4⟩)]
 refine (bE (by rfl)).trans ?_
 refine (bE (by rfl)).trans ?_
 rw [e1] at h6 h9 ⊢
 have W2:(2:Nat) ^ 60=1152921504606846976:=by decide
 have e6:decide (v6=1)=decide (A / B % 2=1):=by
  have e6:v6.toNat=A / B % 2:=by
   rw [h6,UInt64.toNat_mod,jq]
   show A / B % 18446744073709551616 % 2=_
   omega
  by_cases c:A / B % 2=1
  ·rw [ae c,ae (jr (by rw [e6,c];rfl))]
  ·rw [af c,af (fun h=>c (by rw [←e6,h];rfl))]
 have e9:v9=UInt64.ofNat (A / B+1):=jr (by
  rw [h9,UInt64.toNat_add,jq,jq]
  show (A / B % 18446744073709551616+1) % 18446744073709551616=_
  omega)
 have UO:decide (v9=9007199254740992)=decide (A / B+1=9007199254740992):=by
  by_cases c:A / B+1=9007199254740992
  ·rw [ae c,e9,c];rfl
  ·rw [af c,af (fun h=>c (by
    have:=congrArg UInt64.toNat h
    rw [e9,jq] at this
    have e0:(9007199254740992:UInt64).toNat=9007199254740992:=rfl
    omega))]
 rw [e6] at h7
 rcases lB (2 * (A % B)) B with ⟨q1,q2⟩ | ⟨q1,q2⟩ | ⟨q1,q2⟩
 ·rw [q1] at h4
  subst h4
  have e7:v7=false:=h7
  have e8:v8=false:=by rw [h8,e7];rfl
  have e5:v5=false:=h5
  have hn:Nr.uB A B=A / B:=by unfold Nr.uB;rw [aE (by omega)]
  have hu:Nr.lG A B=false:=by unfold Nr.lG;rw [hn];exact af (by omega)
  rw [e8,e5,hn,hu];rfl
 ·rw [q1] at h4
  subst h4
  have e7:v7=decide (A / B % 2=1):=h7
  have e8:v8=decide (A / B % 2=1):=by rw [h8,e7];rfl
  have e5:v5=true:=h5
  rw [e8,e5]
  refine Eq.trans (b:=cond (decide (A / B % 2=1)) (some [.u64 v9,.b (decide (v9=9007199254740992))]) (some [.u64 (UInt64.ofNat (A / B)),.b false])) rfl ?_
  by_cases c:A / B % 2=1
  ·have hn:Nr.uB A B=A / B+1:=by unfold Nr.uB;rw [aG (.inr ⟨q2.symm,c⟩)]
   have hu:Nr.lG A B=decide (A / B+1=9007199254740992):=by
    unfold Nr.lG;rw [hn]
    by_cases d:A / B+1=9007199254740992
    ·rw [ae d,ae ⟨rfl,d⟩]
    ·rw [af d,af (fun h=>d h.2)]
   rw [ae c,aD,UO,e9,hn,hu]
  ·have hn:Nr.uB A B=A / B:=by unfold Nr.uB;rw [aE (by omega)]
   have hu:Nr.lG A B=false:=by unfold Nr.lG;rw [hn];exact af (by omega)
   rw [af c,aw,hn,hu]
 ·rw [q1] at h4
  subst h4
  have e7:v7=false:=h7
  have e8:v8=true:=by rw [h8];rfl
  have e5:v5=false:=h5
  have hn:Nr.uB A B=A / B+1:=by unfold Nr.uB;rw [aG (.inl q2)]
  have hu:Nr.lG A B=decide (A / B+1=9007199254740992):=by
   unfold Nr.lG;rw [hn]
   by_cases d:A / B+1=9007199254740992
   ·rw [ae d,ae ⟨rfl,d⟩]
   ·rw [af d,af (fun h=>d h.2)]
  rw [e8,e5]
  refine Eq.trans (b:=some [.u64 v9,.b (decide (v9=9007199254740992))]) rfl ?_
  rw [UO,e9,hn,hu]
theorem bX.goal (a b:List UInt16) (e:Int) (hp:(Nt.is a&&Nt.is b&&decide (-4096≤e∧e≤4096∧0<Nt.val b∧Nr.iW (Nt.val a) e<2 ^ 4090∧Nr.iH (Nt.val b) e<2 ^ 4090∧Nr.iW (Nt.val a) e<2 ^ 60 * Nr.iH (Nt.val b) e))=true) :
  bX.F a b e=some [.u64 (UInt64.ofNat (Nr.uB (Nr.iW (Nt.val a) e) (Nr.iH (Nt.val b) e))),.b (Nr.lG (Nr.iW (Nt.val a) e) (Nr.iH (Nt.val b) e))]:=by
 simp only [aa,az] at hp
 obtain ⟨⟨ha,hb⟩,p1,p2,p3,p4,p5,p6⟩:=hp
 have key:=bX.gw (Nr.iW (Nt.val a) e) (Nr.iH (Nt.val b) e) (Nr.tN p3 e) p4 p5 p6
 refine bX.eh _ _ _ ?_
 intro v1 h1 v2 h2
 by_cases c:e<0
 ·have ew:IntKind.i64.wrap (0 - e)=-e:=by rw [i64_in _ (by omega)];omega
  rw [ew] at h1
  have eB:Nr.iH (Nt.val b) e=Nt.val b:=by unfold Nr.iH;rw [show e.toNat=0 by omega,Nat.pow_zero,Nat.mul_one]
  rw [ae c,aD,ew,ha,ae (show 0≤-e∧-e≤4096 by omega)]
  refine (bE (by rfl)).trans ?_
  rw [h1,←Nt.iR (Nt.iZ hb)]
  rw [eB] at key
  rw [Nt.eJ,eB]
  exact key
 ·have eA:Nr.iW (Nt.val a) e=Nt.val a:=by unfold Nr.iW;rw [show (-e).toNat=0 by omega,Nat.pow_zero,Nat.mul_one]
  rw [af c,aw,hb,ae (show 0≤e∧e≤4096 by omega)]
  refine (bE (by rfl)).trans ?_
  rw [h2,←Nt.iR (Nt.iZ ha)]
  rw [eA] at key
  rw [Nt.eJ,eA]
  exact key
end Go.Eng
namespace Go.Eng
open Go.IntWalk
namespace Nr
theorem Ez {a b i j t:Nat} {E:Int} (ha:a<2 ^ i) (hb:2 ^ (j - 1)≤b) (hj:0<j) (h:(i:Int) - j+1 - E≤t):iW a E<2 ^ t * iH b E:=by
 unfold iW iH
 have h1:a * 2 ^ (-E).toNat<2 ^ (i+(-E).toNat):=by rw [Nat.pow_add];exact Nat.mul_lt_mul_of_pos_right ha (Nat.two_pow_pos _)
 have h2:2 ^ (t+(j - 1)+E.toNat)≤2 ^ t * (b * 2 ^ E.toNat):=by
  rw [Nat.pow_add,Nat.pow_add,Nat.mul_assoc];exact Nat.mul_le_mul_left _ (ar _ hb)
 have h3:2 ^ (i+(-E).toNat)≤2 ^ (t+(j - 1)+E.toNat):=Nat.pow_le_pow_right (by omega) (by omega)
 exact Nat.lt_of_lt_of_le h1 (Nat.le_trans h3 h2)
theorem Nq {a b i j t:Nat} {E:Int} (ha:2 ^ (i - 1)≤a) (hi:0<i) (hb:b<2 ^ j) (h:(t:Int)≤(i:Int) - 1 - j - E):2 ^ t * iH b E≤iW a E:=by
 unfold iW iH
 have h1:2 ^ (i - 1+(-E).toNat)≤a * 2 ^ (-E).toNat:=by rw [Nat.pow_add];exact ar _ ha
 have h2:2 ^ t * (b * 2 ^ E.toNat)≤2 ^ (t+j+E.toNat):=by
  rw [Nat.pow_add,Nat.pow_add,Nat.mul_assoc];exact Nat.mul_le_mul_left _ (ar _ (Nat.le_of_lt hb))
 have h3:2 ^ (t+j+E.toNat)≤2 ^ (i - 1+(-E).toNat):=Nat.pow_le_pow_right (by omega) (by omega)
 exact Nat.le_trans h2 (Nat.le_trans h3 h1)
theorem H0 (a b:Nat) (E:Int):(iW a (E+1)=iW a E∧iH b (E+1)=2 * iH b E)∨(iW a E=2 * iW a (E+1)∧iH b (E+1)=iH b E):=by
 unfold iW iH
 by_cases c:0≤E
 ·left
  rw [show (-(E+1)).toNat=0 by omega,show (-E).toNat=0 by omega,show (E+1).toNat=E.toNat+1 by omega,Nat.pow_succ,←Nat.mul_assoc,Nat.mul_comm _ 2]
  exact ⟨rfl,rfl⟩
 ·right
  rw [show (-E).toNat=(-(E+1)).toNat+1 by omega,show (E+1).toNat=0 by omega,show E.toNat=0 by omega,Nat.pow_succ,←Nat.mul_assoc,Nat.mul_comm _ 2]
  exact ⟨rfl,rfl⟩
end Nr
theorem jy {a i k:Nat} (h:a<2 ^ i) (hk:i≤k):a<2 ^ k:=Nat.lt_of_lt_of_le h (Nat.pow_le_pow_right (by omega) hk)
theorem uG {a i j k:Nat} (h:a<2 ^ i) (hk:i+j≤k):a * 2 ^ j<2 ^ k:=by
 refine jy (i:=i+j) ?_ hk
 rw [Nat.pow_add];exact Nat.mul_lt_mul_of_pos_right h (Nat.two_pow_pos _)
theorem cL.gw (E : Int) (M : Nat) (hM : M < 2 ^ 64) (hE : -1074 ≤ E ∧ E ≤ 2000) (a b : Nat) (h : Nr.gq a b = Nr.join false M E) : cL.j1 E (UInt64.ofNat M) = some [.u64 (Nr.pat (Nr.gq a b)), .b (Nr.gq a b).isSome] := by
  refine cL.jR _ _ ?_
  intro v1 h1 v2 h2
  have e : (UInt64.ofNat M).toNat = M := by rw [jq]; have : (2 : Nat) ^ 64 = 18446744073709551616 := by decide
                                            omega
  rw [e, ← h] at h1 h2
  rw [bE (ae (by omega)), h1, h2]
theorem cL.goal (a b:List UInt16) (hp:(Nt.is a&&Nt.is b&&decide (0<Nt.val a∧0<Nt.val b∧Nt.val a<2 ^ 1100∧Nt.val b<2 ^ 2200))=true):cL.F a b=some [.u64 (Nr.pat (Nr.gq (Nt.val a) (Nt.val b))),.b (Nr.gq (Nt.val a) (Nt.val b)).isSome]:=by
 simp only [aa,az] at hp
 obtain ⟨⟨ha,hb⟩,p1,p2,p3,p4⟩:=hp
 refine cL.eh _ _ ?_
 intro v1 h1 v2 h2 v3 h3 v4 h4 v5 h5 v6 h6 v7 h7 v8 h8
 obtain ⟨i1,i2,i3⟩:=Nt.iT p1
 obtain ⟨j1,j2,j3⟩:=Nt.iT p2
 have i4:=Nt.kF p3
 have j4:=Nt.kF p4
 generalize Nt.bits (Nt.val a)=i at *
 generalize Nt.bits (Nt.val b)=j at *
 generalize Nt.val a=A at *
 generalize Nt.val b=B at *
 have e1:v1=(i:Int) - j:=by rw [h1,i64_in _ (by omega)]
 have e2:v2=(i:Int) - j - 53:=by rw [h2,e1,i64_in _ (by omega)]
 have em:nD v2 (-1074)=max ((i:Int) - j - 53) (-1074):=by rw [e2];unfold nD;split <;> omega
 rw [em] at h3 h4 h6 ⊢
 generalize hE:max ((i:Int) - j - 53) (-1074)=E at *
 have Zk : -1074≤E∧E≤1046:=by omega
 have e6:v6=E+1:=by rw [h6,i64_in _ (by omega)]
 rw [e6] at h7 h8
 have UH:∀E:Int,-1074≤E→E≤1047→Nr.iW A E<2 ^ 4090∧Nr.iH B E<2 ^ 4090:=fun E h1 h2=>by
  unfold Nr.iW Nr.iH
  constructor
  ·exact uG (k:=4090) i2 (by omega)
  ·exact uG (k:=4090) j2 (by omega)
 obtain ⟨a1,a2⟩:=UH E (by omega) (by omega)
 obtain ⟨a3,a4⟩:=UH (E+1) (by omega) (by omega)
 have t54:Nr.iW A E<2 ^ 54 * Nr.iH B E:=Nr.Ez i2 j1 j3 (by omega)
 have t60:Nr.iW A E<2 ^ 60 * Nr.iH B E:=Nr.Ez i2 j1 j3 (by omega)
 have Re:Nr.iW A (E+1)<2 ^ 60 * Nr.iH B (E+1):=Nr.Ez i2 j1 j3 (by omega)
 have hB:=Nr.tN p2 E
 have UF:=Nr.tN p2 (E+1)
 have hn:=Nr.H0 A B E
 have YP:Nr.iW A E / Nr.iH B E<2 ^ 54:=(Nat.div_lt_iff_lt_mul hB).2 t54
 have S4:(2:Nat) ^ 54=18014398509481984:=by decide
 have WV:(2:Nat) ^ 64=18446744073709551616:=by decide
 rw [ha,hb,bE rfl,bE rfl,e6,ae (show -4096≤E∧E≤4096∧0<B∧Nr.iW A E<2 ^ 4090∧Nr.iH B E<2 ^ 4090∧Nr.iW A E<2 ^ 60 * Nr.iH B E from ⟨by omega,by omega,p2,a1,a2,t60⟩),ae (show -4096≤E+1∧E+1≤4096∧0<B∧Nr.iW A (E+1)<2 ^ 4090∧Nr.iH B (E+1)<2 ^ 4090∧Nr.iW A (E+1)<2 ^ 60 * Nr.iH B (E+1) from ⟨by omega,by omega,p2,a3,a4,Re⟩)]
 refine (bE (by rfl)).trans ?_
 have kb:∀b:Bool,(!b || b)=true:=by decide
 rw [bE (kb _),bE (kb _)]
 have hr:=Nr.rT (Nr.iW A E) (Nr.iH B E)
 have Wh:Nr.lG (Nr.iW A E) (Nr.iH B E)=decide (Nr.uB (Nr.iW A E) (Nr.iH B E)=Nr.iW A E / Nr.iH B E+1∧Nr.uB (Nr.iW A E) (Nr.iH B E)=9007199254740992):=rfl
 rw [Wh] at h4
 generalize hQ:Nr.iW A E / Nr.iH B E=Q at *
 generalize hM:Nr.uB (Nr.iW A E) (Nr.iH B E)=M at *
 have e3:decide ((9007199254740992:UInt64)≤v3)=decide (9007199254740992≤M):=by
  have ev:v3.toNat=M:=by rw [h3,jq];omega
  by_cases c:9007199254740992≤M
  ·rw [ae c,ae (bo.2 (by rw [ev];exact c))]
  ·rw [af c,af (fun h=>c (by have:=bo.1 h;rw [ev] at this;exact this))]
 have e5:v5=decide (9007199254740992≤M∧¬(M=Q+1∧M=9007199254740992)):=by
  rw [h5,e3,h4]
  by_cases c:9007199254740992≤M
  ·rw [ae c,aD]
   by_cases d:M=Q+1∧M=9007199254740992
   ·rw [ae d,af (fun h=>h.2 d)];rfl
   ·rw [af d,ae ⟨c,d⟩];rfl
  ·rw [af c,aw,af (fun h=>c h.1)]
 by_cases c:9007199254740992≤M∧¬(M=Q+1∧M=9007199254740992)
 ·have Tg:9007199254740992≤Q:=by omega
  rw [e5,ae c,aD]
  refine (bE (by rfl)).trans ?_
  have g1:9007199254740992 * Nr.iH B E≤Nr.iW A E:=(Nat.le_div_iff_mul_le hB).1 (by rw [hQ];exact Tg)
  have g2:4503599627370496≤Nr.iW A (E+1) / Nr.iH B (E+1):=(Nat.le_div_iff_mul_le UF).2 (by rcases hn with ⟨n1,n2⟩ | ⟨n1,n2⟩ <;> rw [n2] <;> omega)
  have g3:Nr.iW A (E+1) / Nr.iH B (E+1)<9007199254740992:=(Nat.div_lt_iff_lt_mul UF).2 (by rw [S4] at t54;rcases hn with ⟨n1,n2⟩ | ⟨n1,n2⟩ <;> rw [n2] <;> omega)
  have J2:=Nr.rT (Nr.iW A (E+1)) (Nr.iH B (E+1))
  rw [h7]
  exact cL.gw (E+1) _ (by omega) (by omega) A B (Nr.wg p2 (by omega) (.inl g2) g3)
 ·rw [e5,af c,aw,h3]
  have g3:Q<9007199254740992:=by omega
  refine cL.gw E M (by omega) (by omega) A B ?_
  rw [←hM]
  refine Nr.wg p2 (by omega) ?_ (by rw [hQ];exact g3)
  by_cases d:E=-1074
  ·exact .inr d
  ·left
   refine (Nat.le_div_iff_mul_le hB).2 ?_
   have:=Nr.Nq (t:=52) (E:=E) i1 i3 j2 (by omega)
   rw [show (2:Nat) ^ 52=4503599627370496 by decide] at this
   exact this
end Go.Eng
namespace Go.Eng
open Go.IntWalk
namespace Nr
theorem Ih (b:bO):∀n:Nat,b.foldl (fun n c=>10 * n+(c.toNat - 48)) n=n * 10 ^ b.length+num b:=by
 induction b with
 | nil=>intro n;simp [num]
 | cons c r ih =>
  intro n
  unfold num
  rw [List.foldl_cons,List.foldl_cons,ih,ih,aQ,Nat.pow_succ,Nat.mul_zero,Nat.zero_add,Nat.add_mul,Nat.mul_comm 10 n,Nat.mul_assoc,Nat.mul_comm 10 (10 ^ _)]
  omega
theorem fw (a b:bO):num (a++b)=num a * 10 ^ b.length+num b:=by
 unfold num
 rw [List.foldl_append,Ih];rfl
theorem qM (c:UInt8) (r:bO):num (c :: r)=(c.toNat - 48) * 10 ^ r.length+num r:=by
 have:=fw [c] r
 rw [List.singleton_append] at this
 rw [this];simp [num]
theorem iX (t:Nat):num (List.replicate t 48)=0:=by
 induction t with
 | zero=>rfl
 | succ t ih=>rw [List.replicate_succ,qM,ih];simp
theorem iu (p:UInt8→Bool):∀d:bO,∃a,d=a++d.dropWhile p∧a.all p=true∧(d.dropWhile p=[]∨p ((d.dropWhile p).getD 0 0)=false)
 | []=>⟨[],rfl,rfl,.inl rfl⟩
 | c :: r=>by
  rw [List.dropWhile_cons]
  cases h:p c
  ·rw [aE (by simp)]
   exact ⟨[],rfl,rfl,.inr h⟩
  ·rw [aG rfl]
   obtain ⟨a,h1,h2,h3⟩:=iu p r
   exact ⟨c :: a,by rw [List.cons_append,←h1],by rw [List.all_cons,h,h2];rfl,h3⟩
theorem BE:∀{a:bO},(a.all (· == 48))=true→a=List.replicate a.length 48
 | [],_=>rfl
 | c :: r,h=>by
  rw [List.all_cons,aa] at h
  rw [aQ,List.replicate_succ,←BE h.2]
  congr 1
  simpa using h.1
theorem xi (d:bO):∃z,d=List.replicate z 48++uQ d∧(uQ d=[]∨(uQ d).getD 0 0≠48):=by
 obtain ⟨a,h1,h2,h3⟩:=iu (· == 48) d
 refine ⟨a.length,?_,?_⟩
 ·rw [←BE h2];exact h1
 ·rcases h3 with h3 | h3
  ·exact .inl h3
  ·exact .inr (by unfold uQ;simpa using h3)
theorem ib (d:bO):∃t,d=cW d++List.replicate t 48∧(cW d=[]∨(cW d).getLast?≠some 48):=by
 obtain ⟨a,h1,h2,h3⟩:=iu (· == 48) d.reverse
 refine ⟨a.length,?_,?_⟩
 ·have e:d=(a++d.reverse.dropWhile (· == 48)).reverse:=by rw [←h1,List.reverse_reverse]
  rw [List.reverse_append,BE h2,List.reverse_replicate] at e
  exact e
 ·rcases h3 with h3 | h3
  ·left;unfold cW;rw [h3];rfl
  ·right
   unfold cW
   rw [List.getLast?_reverse]
   intro h
   cases hd:d.reverse.dropWhile (· == 48) with
   | nil=>rw [hd] at h;cases h
   | cons c r =>
    rw [hd] at h h3
    have:c=48:=by simpa using h
    subst this
    simp at h3
theorem vJ (b:UInt8):([48,49,50,51,52,53,54,55,56,57]:bO).contains b=eE b:=by
 have h:∀n,n<256→([48,49,50,51,52,53,54,55,56,57]:bO).contains (UInt8.ofNat n)=eE (UInt8.ofNat n):=by decide +kernel
 have:=h b.toNat b.toNat_lt
 rwa [UInt8.ofNat_toNat] at this
theorem Ea (d:bO):Lib.trimLeftS d [48]=uQ d:=by
 rw [Lib.trimLeftS_one];rfl
theorem yp (d:bO):Lib.trimRightS d [48]=cW d:=by
 rw [Lib.trimRightS_one];rfl
theorem dropWhile_nil {p:UInt8→Bool}:∀{l:bO},l.dropWhile p=[] ↔ l.all p=true
 | []=>by simp
 | c :: r=>by
  rw [List.dropWhile_cons,List.all_cons]
  cases h:p c
  ·simp
  ·rw [aG rfl,dropWhile_nil];simp
theorem sM (d:bO):(Lib.trimS d [48,49,50,51,52,53,54,55,56,57]=[]) ↔ d.all eE=true:=by
 have e:(fun b=>([48,49,50,51,52,53,54,55,56,57]:bO).contains b)=eE:=funext vJ
 have h1:∀l:bO,Lib.trimLeftS l [48,49,50,51,52,53,54,55,56,57]=l.dropWhile eE:=fun l=>by unfold Lib.trimLeftS;rw [e]
 have h2:∀l:bO,Lib.trimRightS l [48,49,50,51,52,53,54,55,56,57]=(l.reverse.dropWhile eE).reverse:=fun l=>by unfold Lib.trimRightS;rw [e]
 unfold Lib.trimS
 rw [h1,h2,dropWhile_nil,List.all_reverse]
 constructor
 ·intro h
  obtain ⟨a,q1,q2,q3⟩:=iu eE d.reverse
  have hn:d.reverse.dropWhile eE=[]:=by
   rcases q3 with q3 | q3
   ·exact q3
   ·cases hd:d.reverse.dropWhile eE with
    | nil=>rfl
    | cons c r =>
     rw [hd] at h q3
     rw [List.all_cons,aa] at h
     have:eE c=false:=q3
     rw [this] at h;cases h.1
  rw [dropWhile_nil,List.all_reverse] at hn
  exact hn
 ·intro h
  rw [(dropWhile_nil (l:=d.reverse)).2 (by rw [List.all_reverse];exact h)];rfl
theorem qi {d:bO} (h:d.all eE=true) (h0:d≠[]) (h1:d.getD 0 0≠48):10 ^ (d.length - 1)≤num d:=by
 cases d with
 | nil=>exact (h0 rfl).elim
 | cons c r =>
  rw [List.all_cons,aa] at h
  have hc:=gr.1 h.1
  have h1:c≠48:=h1
  have IW:c.toNat≠48:=fun e=>h1 (UInt8.toNat_inj.1 e)
  rw [qM,aQ,Nat.add_sub_cancel]
  have:1 * 10 ^ r.length≤(c.toNat - 48) * 10 ^ r.length:=ar _ (by omega)
  omega
theorem AA:fW≤10 ^ 324:=by decide +kernel
theorem AB:wM≤10 ^ 309:=by decide +kernel
theorem dG (k:Nat):0<10 ^ k:=Nat.pow_pos (by omega)
theorem jK {a b:Nat} (h:a≤b):10 ^ a≤10 ^ b:=Nat.pow_le_pow_right (by omega) h
theorem HM {a b i j k:Nat} (h1:a≤10 ^ i) (h2:b≤10 ^ j) (h:i+j≤k):a * b≤10 ^ k:=by
 refine Nat.le_trans (Nat.mul_le_mul h1 h2) ?_
 rw [←Nat.pow_add];exact jK h
theorem Ee {a b i j k l:Nat} (h1:a≤10 ^ i) (h2:10 ^ k≤b) (h:i+j≤k+l):a * 10 ^ j≤b * 10 ^ l:=by
 refine Nat.le_trans (ar _ h1) (Nat.le_trans ?_ (ar _ h2))
 rw [←Nat.pow_add,←Nat.pow_add];exact jK h
theorem EL {N L:Nat} {k:Int} (hN:N<10 ^ L) (h:k+L≤-324):rd N k=some 0:=by
 unfold rd
 refine Fk (dG _) ?_
 rw [show k.toNat=0 by omega,Nat.pow_zero,Nat.mul_one]
 exact HM (Nat.le_of_lt hN) AA (by omega)
theorem BW {N L:Nat} {k:Int} (hN:10 ^ (L - 1)≤N) (hL:0<L) (h:310≤k+L):rd N k=none:=by
 unfold rd
 refine C3 (dG _) ?_
 exact Ee AB hN (by omega)
theorem H4 (k:Int):rd 0 k=some 0:=by
 unfold rd
 rw [Nat.zero_mul];exact C2 _ (dG _)
theorem ot (N t:Nat) (k:Int):rd (N * 10 ^ t) k=rd N (k+t):=by
 unfold rd
 refine uP (dG _) (dG _) ?_
 rw [Nat.mul_assoc,Nat.mul_assoc,Nat.mul_assoc,←Nat.pow_add,←Nat.pow_add,←Nat.pow_add]
 congr 2
 omega
theorem eI {p:UInt8→Bool} {d a b:bO} (h:d.all p=true) (e:d=a++b):a.all p=true∧b.all p=true:=by
 rw [e,List.all_append,aa] at h
 exact h
end Nr
theorem ic {n i:Nat} (h:n<2 ^ i) (hi:i≤4096):Nt.is (Nt.of n)=true:=Nt.pZ (jy (k:=4096) h hi)
theorem cY.gw (A B:Nat) (hA:0<A) (hB:0<B) (UI:A<2 ^ 1100) (Tk:B<2 ^ 2200):cY.j1 (Nt.of A) (Nt.of B)=some [.u64 (Nr.pat (Nr.gq A B)),.b (Nr.gq A B).isSome]:=by
 refine cY.jR _ _ ?_
 intro v1 h1 v2 h2
 rw [Nt.eJ,Nt.eJ] at h1 h2
 rw [Nt.eJ,Nt.eJ,ic UI (by omega),ic Tk (by omega),ae ⟨hA,hB,UI,Tk⟩]
 refine (bE (by rfl)).trans ?_
 rw [h1,h2]
theorem BN:(10:Nat) ^ 310<2 ^ 1100∧(10:Nat) ^ 631<2 ^ 2200:=by decide +kernel
theorem cY.goal (d:bO) (x:Int):cY.F d x=some [.u64 (Nr.pat (Nr.read d x)),.b (Nr.read d x).isSome]:=by
 refine cY.eh _ _ ?_
 intro v1 h1 v2 h2 v3 h3 v4 h4 v5 h5 v6 h6 v7 h7 v8 h8 v9 h9 v10 kP v11 mf v12 lT
 have kb:∀b:Bool,(!(!b) || !b)=true∧(b || !b)=true:=by decide
 have e1:v1=!decide (1≤d.length∧d.length≤300):=by
  rw [h1]
  by_cases c:1≤d.length∧d.length≤300
  ·rw [ae c,af (by omega),aw,af (by omega)];rfl
  ·rw [af c]
   by_cases d0:(d.length:Int)<1
   ·rw [ae d0];rfl
   ·rw [af d0,aw,ae (by omega)];rfl
 have e3:v3=!Nr.valid d:=by
  unfold Nr.valid
  rw [h3,e1,h2]
  have:decide (Lib.trimS d [48,49,50,51,52,53,54,55,56,57]=[])=d.all Nr.eE:=by
   by_cases c:d.all Nr.eE=true
   ·rw [c,ae ((Nr.sM d).2 c)]
   ·rw [af (fun h=>c ((Nr.sM d).1 h))];exact (Bool.eq_false_iff.2 c).symm
  rw [this]
  cases decide (1≤d.length∧d.length≤300) <;> cases d.all Nr.eE <;> rfl
 rw [bE (kb _).1,bE (kb _).1,bE (kb _).2]
 have c4:(!(!v1) || ((!v1)&&(decide (d.length≤1099511627776∧([48,49,50,51,52,53,54,55,56,57]:bO).length≤100)&&([48,49,50,51,52,53,54,55,56,57]:bO).all (fun b=>decide (b.toNat<128)))))=true:=by
  rw [e1]
  by_cases c:1≤d.length∧d.length≤300
  ·rw [ae c,ae (show d.length≤1099511627776∧([48,49,50,51,52,53,54,55,56,57]:bO).length≤100 from ⟨by omega,by decide⟩)];rfl
  ·rw [af c];rfl
 rw [bE c4,bE (kb _).1,bE (kb _).2,e3]
 unfold Nr.read
 cases hv:Nr.valid d
 ·rfl
 ·rw [aG rfl]
  refine Eq.trans (b:=_) (aw _ _) ?_
  unfold Nr.valid at hv
  rw [aa] at hv
  obtain ⟨hl,hd⟩:=hv
  obtain ⟨l1,l2⟩:=aM hl
  rw [Nr.Ea] at h4
  rw [Nr.yp] at h7
  obtain ⟨z,z1,z2⟩:=Nr.xi d
  rw [←h4] at z1 z2
  obtain ⟨t,t1,t2⟩:=Nr.ib v4
  rw [←h7] at t1 t2
  have hd4:=(Nr.eI hd z1).2
  have S3:=(Nr.eI hd4 t1).1
  have lz:d.length=z+v4.length:=by
   have:=congrArg List.length z1
   rw [ao,List.length_replicate] at this
   exact this
  have lt:v4.length=v7.length+t:=by
   have:=congrArg List.length t1
   rw [ao,List.length_replicate] at this
   exact this
  have nz:Nr.num d=Nr.num v4:=by
   have:=congrArg Nr.num z1
   rw [Nr.fw,Nr.iX,Nat.zero_mul,Nat.zero_add] at this
   exact this
  have nt:Nr.num v4=Nr.num v7 * 10 ^ t:=by
   have:=congrArg Nr.num t1
   rw [Nr.fw,Nr.iX,List.length_replicate,Nat.add_zero] at this
   exact this
  have Qi:∀s:bO,s.length≤300→(decide (s.length≤1099511627776∧([48]:bO).length≤100)&&([48]:bO).all (fun b=>decide (b.toNat<128)))=true:=fun s hs=>by
   rw [ae (show s.length≤1099511627776∧([48]:bO).length≤100 from ⟨by omega,by decide⟩)];rfl
  rw [bE (Qi d l2),bE (kb _).1,bE (kb _).2,nz]
  by_cases c0:v4=[]
  ·have e5:v5=true:=by rw [h5,ae c0];rfl
   rw [e5,aD,c0]
   rw [show Nr.num []=0 from rfl,Nr.H4];rfl
  ·rw [af c0,aw] at h5
   have z2:v4.getD 0 0≠48:=z2.resolve_left c0
   have p4:0<v4.length:=List.length_pos_iff.2 c0
   have b1:=Nr.nx v4 hd4
   have b2:=Nr.qi hd4 c0 z2
   by_cases c1:x < -1000
   ·rw [h5,ae c1,aD,Nr.EL b1 (by omega)];rfl
   ·rw [h5,af c1,aw]
    by_cases c2:1000<x
    ·rw [ae c2,aD,Nr.BW b2 p4 (by omega)];rfl
    ·have e6:v6=z:=by rw [h6,i64_in _ (by omega)];omega
     have ex:IntKind.i64.wrap (x - v6)=x - z:=by rw [e6,i64_in _ (by omega)]
     rw [af c2,aw,bE (Qi v4 (by omega)),ex]
     by_cases c3:x - z < -330
     ·rw [ae c3,aD,Nr.EL b1 (by omega)];rfl
     ·rw [af c3,aw]
      by_cases c4:310<x - (z:Int)
      ·rw [ae c4,aD,Nr.BW b2 p4 (by omega)];rfl
      ·rw [af c4,aw]
       have n7:v7≠[]:=by
        intro e
        rw [e] at nt
        have:=Nr.dG (v4.length - 1)
        rw [show Nr.num []=0 from rfl,Nat.zero_mul] at nt
        omega
       have p7:0<v7.length:=List.length_pos_iff.2 n7
       have g7:v7.getD 0 0=v4.getD 0 0:=by
        rw [t1,ak,ak,List.getElem?_append_left (by omega)]
       have e9:v9=x - z - v7.length:=by rw [h9,ex,i64_in _ (by omega)]
       have w7:=Nr.nx v7 S3
       have VB:=Nr.qi S3 n7 (by rw [g7];exact z2)
       have TX:0<Nr.num v7:=Nat.lt_of_lt_of_le (Nr.dG _) VB
       have L1:Nr.rd (Nr.num v4) (x - (d.length:Int))=Nr.rd (Nr.num v7) v9:=by
        rw [nt,Nr.ot];congr 1;omega
       rw [L1,bE (by rw [ae (show 1≤v7.length∧v7.length≤300∧v7.getD 0 0≠48 from ⟨by omega,by omega,by rw [g7];exact z2⟩),S3];rfl)]
       have hB:∀k:Nat,k≤631→(10:Nat) ^ k<2 ^ 2200:=fun k hk=>Nat.lt_of_le_of_lt (Nr.jK hk) BN.2
       have hA:∀k:Nat,k≤310→(10:Nat) ^ k<2 ^ 1100:=fun k hk=>Nat.lt_of_le_of_lt (Nr.jK hk) BN.1
       by_cases c5:0≤v9
       ·have ep:Nr.num v7 * 10 ^ v9.toNat<10 ^ (v7.length+v9.toNat):=by
         rw [Nat.pow_add];exact Nat.mul_lt_mul_of_pos_right w7 (Nr.dG _)
        have yh:v10=Nt.of (10 ^ v9.toNat):=kP
        have Qe:v11=Nt.of (Nr.num v7 * 10 ^ v9.toNat):=by rw [mf,yh,Nt.eJ,Nt.eJ]
        have e8:v8=Nt.of 1:=h8
        rw [ae c5,aD,bE (ae ⟨by omega,by omega,by omega,by omega,jy (k:=4096) (hB v9.toNat (by omega)) (by omega)⟩),yh,ic (hB v9.toNat (by omega)) (by omega),ic (Nat.lt_trans w7 (hB v7.length (by omega))) (by omega)]
        refine (bE (by rfl)).trans ?_
        rw [Qe,e8,cY.gw _ 1 (Nat.mul_pos TX (Nr.dG _)) (by omega) (Nat.lt_trans ep (hA _ (by omega))) (hB 0 (by omega))]
        unfold Nr.rd
        rw [show (-v9).toNat=0 by omega,Nat.pow_zero]
       ·have ew:IntKind.i64.wrap (0 - v9)=-v9:=by rw [i64_in _ (by omega)];omega
        rw [ew] at lT
        have My:v12=Nt.of (10 ^ (-v9).toNat):=lT
        rw [af c5,aw,ew,bE (ae ⟨by omega,by omega,by omega,by omega,jy (k:=4096) (hB (-v9).toNat (by omega)) (by omega)⟩),My]
        rw [cY.gw _ _ TX (Nr.dG _) (Nat.lt_trans w7 (hA v7.length (by omega))) (hB _ (by omega))]
        unfold Nr.rd
        rw [show v9.toNat=0 by omega,Nat.pow_zero,Nat.mul_one]
end Go.Eng
namespace Go.Eng
open Go.IntWalk
namespace Nr
def nq:List UInt64→Nat
 | []=>0
 | a :: r=>a.toNat+100000000 * nq r
def Hv (a:List UInt64):Bool:=a.all fun x=>decide (x.toNat<100000000)
theorem yr (m:UInt64) (hm:m.toNat≤100000000):∀(a:List UInt64) (c:UInt64),Hv a=true→c.toNat<100000000 →
  nq (times a m c)=nq a * m.toNat+c.toNat∧Hv (times a m c)=true∧(times a m c).length≤a.length+1
 | [],c,_,hc=>by
  unfold times
  by_cases h:c > 0
  ·rw [aG h];simp [nq,Hv,hc]
  ·have h0:c.toNat=0:=by
    have:¬0<c.toNat:=fun h1=>h (bh.2 h1)
    omega
   rw [aE h];simp [nq,Hv,h0]
 | a :: r,c,ha,hc=>by
  unfold Hv at ha
  rw [List.all_cons,aa] at ha
  have h1:=aM ha.1
  have hmul:a.toNat * m.toNat≤99999999 * 100000000:=Nat.mul_le_mul (by omega) hm
  have e:(c+a * m).toNat=c.toNat+a.toNat * m.toNat:=by
   rw [UInt64.toNat_add,UInt64.toNat_mul]
   show (c.toNat+a.toNat * m.toNat % 18446744073709551616) % 18446744073709551616=_
   omega
  have ed:((c+a * m) / 100000000).toNat=(c.toNat+a.toNat * m.toNat) / 100000000:=by rw [UInt64.toNat_div,e];rfl
  have em:((c+a * m) % 100000000).toNat=(c.toNat+a.toNat * m.toNat) % 100000000:=by rw [UInt64.toNat_mod,e];rfl
  obtain ⟨i1,i2,i3⟩:=yr m hm r ((c+a * m) / 100000000) ha.2 (by rw [ed];omega)
  rw [times]
  refine ⟨?_,?_,?_⟩
  ·rw [nq,nq,i1,ed,em,Nat.add_mul,Nat.mul_add,←Nat.mul_assoc]
   omega
  ·unfold Hv
   rw [List.all_cons,aa]
   exact ⟨ae (by rw [em];omega),i2⟩
  ·rw [aQ,aQ];omega
end Nr
theorem vw {α:Type} (l:List α) (i:Nat) (x:α) (h:i<l.length):(l.set i x).take (i+1)=l.take i++[x]∧(l.set i x).drop (i+1)=l.drop (i+1):=by
 refine ⟨pS l i x x h,?_⟩
 rw [List.drop_set_of_lt (by omega)]
theorem bV.fj (m:UInt64):∀(k:Nat) (i:Nat) (c:UInt64) (a:List UInt64),i+k=a.length→a.length≤1000→bV.l1 m c i a=some [.sl .us (a.take i++Nr.times (a.drop i) m c)]:=by
 intro k
 induction k with
 | zero =>
  intro i c a hi hl
  refine bV.dB _ _ _ _ ?_
  intro v1 h1 v2 h2 v3 h3 v4 h4 v5 h5
  rw [af (by omega),aw,bc (by omega),List.take_of_length_le (by omega),Nr.times]
  by_cases hc:(0:UInt64)<c
  ·rw [ae hc,aD,bE (ig (by simp;omega) (by simp;omega)),bV.oD,aG hc]
  ·rw [af hc,aw,bV.oD,aE hc,aR]
 | succ k ih =>
  intro i c a hi hl
  refine bV.dB _ _ _ _ ?_
  intro v1 h1 v2 h2 v3 h3 v4 h4 v5 h5
  rw [au] at h1 h3
  have e5:v5=((i+1:Nat):Int):=by rw [h5,i64_in _ (by omega)];omega
  have hx:cz (i:Int) a.length=true:=cQ (by omega) (by omega)
  rw [ae (by omega),aD,bE hx,bE (ae (by omega)),bE (by rfl),bE hx,bE (ae (by omega)),bE (by rfl),e5,ih (i+1) _ _ (by rw [h3,List.length_set];omega) (by rw [h3,List.length_set];exact hl),h3]
  obtain ⟨t1,t2⟩:=vw a i v2 (by omega)
  rw [t1,t2,drop_cons (show i<a.length by omega) 0,←h1,Nr.times,←h2,←h4,aN];rfl
theorem bV.goal (a:List UInt64) (m:UInt64) (hp:(decide (a.length≤1000∧m.toNat≤100000000)&&a.all (fun x=>decide (x.toNat<100000000)))=true):bV.F a m=some [.sl .us (Nr.times a m 0)]:=by
 simp only [aa,az] at hp
 rw [bV.iC]
 have:=bV.fj m a.length 0 0 a (by omega) hp.1.1
 rw [List.take_zero,aT,bg] at this
 exact this
namespace Nr
theorem AK:cW []=[]:=rfl
theorem iP (s:bO) (c:UInt8):cW (s++[c])=if c=48 then cW s else s++[c]:=by
 unfold cW
 rw [List.reverse_append,List.reverse_singleton,List.singleton_append,List.dropWhile_cons]
 by_cases h:c=48
 ·rw [aG (by simp [h]),aG h]
 ·rw [aE (by simp [h]),aE h];simp
theorem gJ (s:bO):s=[]∨∃a c,s=a++[c]:=by
 cases h:s.reverse with
 | nil=>left;simpa using h
 | cons c r=>right;exact ⟨r.reverse,c,by have:=congrArg List.reverse h;simpa using this⟩
theorem qS {c:UInt8} (h:eE c=true):c=UInt8.ofNat (48+(c.toNat - 48)):=by
 have:=gr.1 h
 rw [show 48+(c.toNat - 48)=c.toNat by omega,UInt8.ofNat_toNat]
theorem lO:∀(n:Nat) (s:bO),s.length=n→s.all eE=true→s≠[]→s.getD 0 0≠48→s=dec (num s):=by
 intro n
 induction n with
 | zero=>intro s hs _ h0 _;exact (h0 (List.length_eq_zero_iff.1 hs)).elim
 | succ n ih =>
  intro s hs hd h0 h1
  rcases gJ s with h | ⟨a,c,rfl⟩
  ·exact (h0 h).elim
  ·obtain ⟨d1,d2⟩:=eI hd rfl
   rw [List.all_cons,aa] at d2
   have hc:=gr.1 d2.1
   rw [jO]
   by_cases ha:a=[]
   ·subst ha
    rw [show num []=0 from rfl,kq (by omega)]
    rw [Nat.mul_zero,Nat.zero_add,←qS d2.1];rfl
   ·have Us:a.getD 0 0≠48:=by
     have hl:=List.length_pos_iff.2 ha
     rw [ak,List.getElem?_append_left hl,←ak] at h1
     exact h1
    have hg:=qi d1 ha Us
    have:=dG (a.length - 1)
    rw [pK (by omega),show (10 * num a+(c.toNat - 48)) / 10=num a by omega,show (10 * num a+(c.toNat - 48)) % 10=c.toNat - 48 by omega,←qS d2.1]
    rw [ao,ay] at hs
    rw [←ih a (by omega) d1 ha Us]
theorem pf (n:Nat):(dec n).all eE=true∧num (dec n)=n∧(dec n≠[])∧(0<n→(dec n).getD 0 0≠48):=by
 induction n using Nat.strongRecOn with
 | _ n ih =>
  have PS:∀k,k<10→eE (UInt8.ofNat (48+k))=true∧(UInt8.ofNat (48+k)).toNat=48+k:=fun k hk=>by
   have:(UInt8.ofNat (48+k)).toNat=48+k:=by simp;omega
   exact ⟨gr.2 (by omega),this⟩
  by_cases c:n<10
  ·rw [kq c]
   obtain ⟨h1,h2⟩:=PS n c
   refine ⟨by rw [List.all_cons,h1];rfl,by simp only [num,List.foldl_cons,List.foldl_nil,h2];omega,by simp,fun h e=>?_⟩
   have:=congrArg UInt8.toNat e
   have e2:([UInt8.ofNat (48+n)].getD 0 0).toNat=48+n:=h2
   rw [e2] at this
   have e3:(48:UInt8).toNat=48:=rfl
   omega
  ·obtain ⟨i1,i2,i3,i4⟩:=ih (n / 10) (by omega)
   obtain ⟨h1,h2⟩:=PS (n % 10) (by omega)
   rw [pK c]
   refine ⟨by rw [List.all_append,i1,List.all_cons,h1];rfl,by rw [jO,i2,h2];omega,by simp,fun _=>?_⟩
   rw [ak,List.getElem?_append_left (List.length_pos_iff.2 i3),←ak]
   exact i4 (by omega)
theorem Bt (n:Nat):1≤(dec n).length:=List.length_pos_iff.2 (pf n).2.2.1
end Nr
end Go.Eng
namespace Go.Eng
open Go.IntWalk
open Nr (nq Hv)
structure mK (a:List UInt64) (N b:Nat):Prop where
 v:nq a=N
 s:Hv a=true
 l:a.length+b≤999
 n:a≠[]
theorem mK.times {a:List UInt64} {N b:Nat} (h:mK a N (b+1)) (m:UInt64) (hm:m.toNat≤100000000):mK (Nr.times a m 0) (N * m.toNat) b:=by
 obtain ⟨t1,t2,t3⟩:=Nr.yr m hm a 0 h.s (by decide)
 refine ⟨by rw [t1,h.v];rfl,t2,by have:=h.l;omega,?_⟩
 intro e
 have hn:=h.n
 cases a with
 | nil=>exact hn rfl
 | cons c r=>unfold Nr.times at e;simp at e
theorem mK.pre {a:List UInt64} {N b:Nat} (h:mK a N b) (m:UInt64) (hm:m.toNat≤100000000):(decide (a.length≤1000∧m.toNat≤100000000)&&a.all (fun x=>decide (x.toNat<100000000)))=true:=by
 have hs:a.all (fun x=>decide (x.toNat<100000000))=true:=h.s
 rw [hs,ae ⟨by have:=h.l;omega,hm⟩];rfl
theorem mK.le {a:List UInt64} {N b c:Nat} (h:mK a N b) (hc:c≤b):mK a N c:=⟨h.v,h.s,by have:=h.l;omega,h.n⟩
theorem bC.LJ (x:Int):∀(n:Nat) (s:bO),s.length=n→n≤100000→bC.l10 x s=some [.s (Nr.cW s),.i .i64 x]:=by
 intro n
 induction n with
 | zero =>
  intro s hs _
  obtain rfl:=List.length_eq_zero_iff.1 hs
  refine bC.FG _ _ ?_
  intro v1 h1 v2 h2 v3 h3
  have e3:v3=false:=h3
  rw [e3];rfl
 | succ n ih =>
  intro s hs hn
  refine bC.FG _ _ ?_
  intro v1 h1 v2 h2 v3 h3
  rcases Nr.gJ s with h | ⟨a,c,rfl⟩
  ·rw [h] at hs;simp at hs
  ·rw [ao,ay] at hs
   have e1:v1=(a.length:Int):=by rw [h1,ao,ay,i64_in _ (by omega)];omega
   have e2:v2=c:=by rw [h2,e1,au];exact iA a c 0
   have ht:decide ((0:Int)<((a++[c]).length:Int))=true:=ae (by rw [ao,ay];omega)
   have hx:cz v1 (a++[c]).length=true:=by rw [e1];exact cQ (by omega) (by rw [ao,ay];omega)
   rw [ht,aD,e2] at h3
   rw [ht,hx,bE (by rfl),bE (by rfl),bE (by rfl),bE (by rfl),bE (by rfl),bE (by rfl),h3,Nr.iP]
   by_cases hc:c=48
   ·rw [ae hc,aD,aG hc,e1,bE (ju (by omega) (by omega) (by rw [ao,ay];omega)),au,List.take_left]
    exact ih a (by omega) (by omega)
   ·rw [af hc,aw,aE hc]
theorem bC.JI (x:Int) (s:bO) (hs:s.length≤100000):∀(k:Nat) (acc:bO),k≤s.length→acc.length+k=s.length→bC.l9 s x acc ((k:Int) - 1)=some [.s (Nr.cW (acc++(s.take k).reverse)),.i .i64 x]:=by
 intro k
 induction k with
 | zero =>
  intro acc hk hl
  refine bC.JK _ _ _ _ ?_
  intro v1 h1 v2 h2
  rw [af (by omega),aw,bC.LJ x acc.length acc rfl (by omega)]
  simp
 | succ k ih =>
  intro acc hk hl
  refine bC.JK _ _ _ _ ?_
  intro v1 h1 v2 h2
  have ei:((k+1:Nat):Int) - 1=(k:Int):=by omega
  rw [ei] at h1 h2 ⊢
  rw [au] at h1
  have e2:v2=(k:Int) - 1:=by rw [h2,i64_in _ (by omega)]
  rw [ae (by omega),aD,bE (cQ (by omega) (by omega)),bE (ig (by simp;omega) (by simp;omega)),e2,ih _ (by omega) (by simp;omega),vQ (show k<s.length by omega),←h1]
  simp
theorem bC.Oi (e:Int) (he : -2000≤e∧e≤2000):∀(n:Nat) (s:bO),s.length=n→n≤100000→bC.l8 e s=some [.s (Nr.cW (Nr.cW s).reverse),.i .i64 ((Nr.cW s).length+min e 0)]:=by
 intro n
 induction n with
 | zero =>
  intro s hs _
  obtain rfl:=List.length_eq_zero_iff.1 hs
  refine bC.JL _ _ ?_
  intro v1 h1 v2 h2 v3 h3 v4 h4
  have e3:v3=false:=h3
  have e1:v1=((0:Nat):Int) - 1:=by rw [h1];exact i64_in _ (by simp)
  have em:vA e 0=min e 0:=by unfold vA;split <;> omega
  have e4:v4=min e 0:=by rw [h4,em,i64_in _ (by simp only [aZ];omega)];simp
  rw [e3]
  refine Eq.trans (b:=bC.l9 [] v4 [] v1) rfl ?_
  rw [e1,bC.JI v4 [] (by simp) 0 [] (by simp) (by simp),e4]
  simp [Nr.AK]
 | succ n ih =>
  intro s hs hn
  refine bC.JL _ _ ?_
  intro v1 h1 v2 h2 v3 h3 v4 h4
  rcases Nr.gJ s with h | ⟨a,c,rfl⟩
  ·rw [h] at hs;simp at hs
  ·have fy:a.length=n:=by rw [ao,ay] at hs;omega
   have e1:v1=(a.length:Int):=by rw [h1,ao,ay,i64_in _ (by omega)];omega
   have e2:v2=c:=by rw [h2,e1,au];exact iA a c 0
   have ht:decide ((0:Int)<((a++[c]).length:Int))=true:=ae (by rw [ao,ay];omega)
   have hx:cz v1 (a++[c]).length=true:=by rw [e1];exact cQ (by omega) (by rw [ao,ay];omega)
   rw [ht,aD,e2] at h3
   rw [ht,hx,bE (by rfl),bE (by rfl),bE (by rfl),bE (by rfl),bE (by rfl),bE (by rfl),h3,Nr.iP]
   by_cases hc:c=48
   ·rw [ae hc,aD,aG hc,e1,bE (ju (by omega) (by omega) (by rw [ao,ay];omega)),au,List.take_left]
    exact ih a (by omega) (by omega)
   ·have em:vA e 0=min e 0:=by unfold vA;split <;> omega
    have e4:v4=((a++[c]).length:Int)+min e 0:=by rw [h4,em,i64_in _ (by omega)]
    have XC:v1=((a++[c]).length:Int) - 1:=by rw [e1,ao,ay];omega
    rw [af hc,aw,aE hc,XC,bC.JI v4 (a++[c]) (by omega) (a++[c]).length [] (Nat.le_refl _) (by simp),List.take_length,bg,e4]
def kC:Nat→Nat→bO
 | 0,_=>[]
 | k+1,n=>UInt8.ofNat (48+n % 10) :: kC k (n / 10)
theorem MB {k:Nat} (hk:k<10):Nr.eE (UInt8.ofNat (48+k))=true∧(UInt8.ofNat (48+k)).toNat=48+k:=by
 have:(UInt8.ofNat (48+k)).toNat=48+k:=by simp;omega
 exact ⟨Nr.gr.2 (by omega),this⟩
theorem uR:∀(k n:Nat),(kC k n).length=k∧(kC k n).all Nr.eE=true∧Nr.num (kC k n).reverse=n % 10 ^ k
 | 0,n=>⟨rfl,rfl,by rw [Nat.pow_zero,Nat.mod_one];rfl⟩
 | k+1,n=>by
  obtain ⟨i1,i2,i3⟩:=uR k (n / 10)
  obtain ⟨d1,d2⟩:=MB (Nat.mod_lt n (show 0<10 by omega))
  refine ⟨by rw [kC,aQ,i1],by rw [kC,List.all_cons,d1,i2];rfl,?_⟩
  rw [kC,List.reverse_cons,Nr.jO,i3,d2,Nat.pow_succ,Nat.mul_comm (10 ^ k),Nat.mod_mul]
  omega
theorem uK (a b:bO):Nr.num (a++b).reverse=Nr.num a.reverse+10 ^ a.length * Nr.num b.reverse:=by
 rw [List.reverse_append,Nr.fw,List.length_reverse,Nat.mul_comm];omega
theorem bC.Oj (e:Int) (i:Nat) (a:List UInt64) (hi:i≤1000):∀(k j:Nat),j+k=8→∀(out:bO) (v:UInt64),out.length≤8 * i+j→bC.l7 e out i v j a=bC.l6 e (out++kC k v.toNat) ((i+1:Nat):Int) a:=by
 intro k
 induction k with
 | zero =>
  intro j hj out v hl
  refine bC.JM _ _ _ _ _ _ ?_
  intro v1 h1 v2 h2 v3 h3 v4 h4
  have e4:v4=((i+1:Nat):Int):=by rw [h4,i64_in _ (by omega)];omega
  rw [af (by omega),aw,e4,kC,aR]
 | succ k ih =>
  intro j hj out v hl
  refine bC.JM _ _ _ _ _ _ ?_
  intro v1 h1 v2 h2 v3 h3 v4 h4
  have hv:=v.toNat_lt
  have e3:v3=((j+1:Nat):Int):=by rw [h3,i64_in _ (by omega)];omega
  have em:(v % 10).toNat=v.toNat % 10:=UInt64.toNat_mod ..
  have ed:(v / 10).toNat=v.toNat / 10:=UInt64.toNat_div ..
  have e1:v1.toNat=48+v.toNat % 10:=by
   rw [h1,UInt64.toNat_add,em];show (48+v.toNat % 10) % 18446744073709551616=_;omega
  have e2:v2=UInt8.ofNat (48+v.toNat % 10):=by rw [h2,rM _ (by omega),e1]
  rw [ae (by omega),aD,bE (by rfl),bE (ig (by simp;omega) (by simp;omega)),bE (by rfl),e3,ih (j+1) (by omega) _ _ (by simp;omega),ed,kC,e2,aN];rfl
theorem vN (a:List UInt64) (i:Nat) (h:i<a.length):nq (a.take (i+1))=nq (a.take i)+100000000 ^ i * (a.getD i 0).toNat:=by
 induction a generalizing i with
 | nil=>simp at h
 | cons c r ih =>
  cases i with
  | zero=>simp [nq]
  | succ i =>
   rw [aQ] at h
   rw [List.take_succ_cons,nq,ih i (by omega),List.take_succ_cons,nq,List.getD_cons_succ,Nat.pow_succ,Nat.mul_add]
   have:100000000 * (100000000 ^ i * (r.getD i 0).toNat)=100000000 ^ i * 100000000 * (r.getD i 0).toNat:=by rw [←Nat.mul_assoc,Nat.mul_comm 100000000 (100000000 ^ i)]
   omega
theorem Rd (i:Nat):(10:Nat) ^ (8 * i)=100000000 ^ i:=by rw [Nat.pow_mul]
def ri (e:Int) (N:Nat):OT:=some [.s (Nr.cW (Nr.dec N)),.i .i64 ((Nr.dec N).length+min e 0)]
theorem uz {s:bO} (hd:s.all Nr.eE=true) (h0:0<Nr.num s.reverse):(Nr.cW s).reverse=Nr.dec (Nr.num s.reverse):=by
 obtain ⟨t,h1,h2⟩:=Nr.ib s
 have hd2:=(Nr.eI hd h1).1
 have hn:Nr.num s.reverse=Nr.num (Nr.cW s).reverse:=by
  have:=congrArg (fun l:bO=>Nr.num l.reverse) h1
  simp only [List.reverse_append,List.reverse_replicate] at this
  rw [Nr.fw,Nr.iX,Nat.zero_mul,Nat.zero_add] at this
  exact this
 rw [hn]
 have fO:Nr.cW s≠[]:=by
  intro e;rw [hn,e] at h0;simp [Nr.num] at h0
 refine Nr.lO _ _ rfl (by rw [List.all_reverse];exact hd2) (by simpa using fO) ?_
 have h3:=h2.resolve_left fO
 intro hc
 rcases Nr.gJ (Nr.cW s) with h | ⟨a,c,h⟩
 ·exact fO h
 ·rw [h] at h3 hc
  rw [List.reverse_append,List.reverse_singleton] at hc
  have:c=48:=hc
  subst this
  simp at h3
theorem bC.Ok (e:Int) (he : -2000≤e∧e≤2000) (a:List UInt64) (N:Nat) (hN:0<N) (h:mK a N 0):∀(k i:Nat) (out:bO),i+k=a.length→out.length=8 * i→out.all Nr.eE=true→Nr.num out.reverse=nq (a.take i)→bC.l6 e out i a=ri e N:=by
 intro k
 induction k with
 | zero =>
  intro i out hi hl hd hv
  refine bC.JN _ _ _ _ ?_
  intro v1 h1
  have WG:=h.l
  rw [List.take_of_length_le (by omega),h.v] at hv
  have hr:=uz hd (by rw [hv];exact hN)
  rw [hv] at hr
  rw [af (by omega),aw,bC.Oi e he out.length out rfl (by omega),hr]
  unfold ri
  have:(Nr.cW out).length=(Nr.dec N).length:=by rw [←hr,List.length_reverse]
  rw [this]
 | succ k ih =>
  intro i out hi hl hd hv
  have WG:=h.l
  refine bC.JN _ _ _ _ ?_
  intro v1 h1
  rw [au] at h1
  rw [ae (by omega),aD,bE (cQ (by omega) (by omega)),bE (ae (by omega))]
  obtain ⟨d1,d2,d3⟩:=uR 8 v1.toNat
  have hv1:v1.toNat<100000000:=by
   have:=aL.1 h.s (a.getD i 0) (by
    rw [ak,aA (by omega)];exact List.getElem_mem _)
   rw [h1];exact aM this
  refine Eq.trans (bC.Oj e i a (by omega) 8 0 (by omega) out v1 (by omega)) ?_
  refine ih (i+1) _ (by omega) (by rw [ao,d1];omega) (by rw [List.all_append,hd,d2];rfl) ?_
  rw [uK,d3,hv,hl,Rd,vN a i (by omega),←h1,Nat.mod_eq_of_lt (show v1.toNat<10 ^ 8 from hv1)]
theorem bC.FF (e:Int) (he : -2000≤e∧e≤2000):∀(r j:Nat) (a:List UInt64) (N:Nat),(e<0→e=-(j:Int) - r)→(0≤e→r=0∧j=0)→0<N→mK a N r→bC.l5 e (-(j:Int)) a=ri e (N * 5 ^ r):=by
 intro r
 induction r with
 | zero =>
  intro j a N h1 h2 hN h
  refine bC.ze _ _ _ ?_
  intro v1 g1 v2 g2
  rw [af (by omega),aw,Nat.pow_zero,Nat.mul_one]
  exact bC.Ok e he a N hN h a.length 0 [] (by omega) rfl rfl rfl
 | succ r ih =>
  intro j a N h1 h2 hN h
  refine bC.ze _ _ _ ?_
  intro v1 g1 v2 g2
  have Dg:e<0:=by
   by_cases c:e<0
   ·exact c
   ·have:=h2 (by omega);omega
  have e2:v2=-((j+1:Nat):Int):=by rw [g2,i64_in _ (by have:=h1 Dg;omega)];omega
  have e1:v1=Nr.times a 5 0:=g1
  rw [ae (by have:=h1 Dg;omega),aD,bE (h.pre 5 (by decide)),e1,e2]
  rw [ih (j+1) _ (N * 5) (fun hn=>by have:=h1 Dg;omega) (fun hn=>by omega) (by omega) (h.times 5 (by decide)),Nat.pow_succ,Nat.mul_assoc,Nat.mul_comm 5]
theorem bC.zf (e:Int) (he : -2000≤e∧e≤2000):∀(t j r:Nat) (a:List UInt64) (N:Nat),r<10→(e<0→e=-(j:Int) - 10 * t - r)→(0≤e→t=0∧r=0∧j=0)→0<N→mK a N (t+10)→bC.l4 e (-(j:Int)) a=ri e (N * 5 ^ (10 * t+r)):=by
 intro t
 induction t with
 | zero =>
  intro j r a N hr h1 h2 hN h
  refine bC.sY _ _ _ ?_
  intro v1 g1 v2 g2
  have e1:v1=-(j:Int) - 10:=by
   rw [g1,i64_in _ (by by_cases c:e<0;(have:=h1 c;omega);(have:=h2 (by omega);omega))]
  rw [e1,af (by by_cases c:e<0;(have:=h1 c;omega);(have:=h2 (by omega);omega)),aw,bC.FF e he r j a N (fun c=>by have:=h1 c;omega) (fun c=>by have:=h2 c;omega) hN (h.le (by omega)),Nat.mul_zero,Nat.zero_add]
 | succ t ih =>
  intro j r a N hr h1 h2 hN h
  refine bC.sY _ _ _ ?_
  intro v1 g1 v2 g2
  have Dg:e<0:=by
   by_cases c:e<0
   ·exact c
   ·have:=h2 (by omega);omega
  have e1:v1=-((j+10:Nat):Int):=by rw [g1,i64_in _ (by have:=h1 Dg;omega)];omega
  have e2:v2=Nr.times a 9765625 0:=g2
  rw [e1,ae (by have:=h1 Dg;omega),aD,bE (h.pre 9765625 (by decide)),e2]
  have hm:mK (Nr.times a 9765625 0) (N * 9765625) (t+10):=mK.times (b:=t+10) (h.le (by omega)) 9765625 (by decide)
  rw [ih (j+10) r _ (N * 9765625) hr (fun c=>by have:=h1 c;omega) (fun c=>by omega) (by omega) hm]
  have e5:(9765625:Nat)=5 ^ 10:=by decide
  rw [e5,Nat.mul_assoc,←Nat.pow_add,show 10+(10 * t+r)=10 * (t+1)+r by omega]
theorem bC.LI (e:Int) (he : -1075≤e∧e≤971) (a:List UInt64) (N:Nat) (hN:0<N) (h:mK a N 130):bC.l4 e 0 a=ri e (N * 5 ^ (-e).toNat):=by
 have:=bC.zf e (by omega) ((-e).toNat / 10) 0 ((-e).toNat % 10) a N (by omega) (fun c=>by omega) (fun c=>by omega) hN (h.le (by omega))
 rw [show 10 * ((-e).toNat / 10)+(-e).toNat % 10=(-e).toNat by omega] at this
 exact this
theorem bC.pY (e:Int) (he : -1075≤e∧e≤971):∀(r k:Nat) (a:List UInt64) (N:Nat),(0≤e→e=(k:Int)+r)→(e<0→r=0∧k=0)→0<N→mK a N (r+130)→bC.l3 e k a=ri e (N * 2 ^ r * 5 ^ (-e).toNat):=by
 intro r
 induction r with
 | zero =>
  intro k a N h1 h2 hN h
  refine bC.me _ _ _ ?_
  intro v1 g1 v2 g2
  rw [af (by by_cases c:e<0;(have:=h2 c;omega);(have:=h1 (by omega);omega)),aw,Nat.pow_zero,Nat.mul_one]
  exact bC.LI e he a N hN (h.le (by omega))
 | succ r ih =>
  intro k a N h1 h2 hN h
  refine bC.me _ _ _ ?_
  intro v1 g1 v2 g2
  have nT:0≤e:=by
   by_cases c:e<0
   ·have:=h2 c;omega
   ·omega
  have e2:v2=((k+1:Nat):Int):=by rw [g2,i64_in _ (by have:=h1 nT;omega)];omega
  have e1:v1=Nr.times a 2 0:=g1
  have hm:mK (Nr.times a 2 0) (N * 2) (r+130):=mK.times (b:=r+130) (h.le (by omega)) 2 (by decide)
  rw [ae (by have:=h1 nT;omega),aD,bE (h.pre 2 (by decide)),e1,e2,ih (k+1) _ (N * 2) (fun c=>by have:=h1 c;omega) (fun c=>by omega) (by omega) hm,Nat.pow_succ,Nat.mul_assoc N,Nat.mul_comm 2]
theorem bC.kN (e:Int) (he : -1075≤e∧e≤971):∀(t k r:Nat) (a:List UInt64) (N:Nat),r<20→(0≤e→e=(k:Int)+20 * t+r)→(e<0→t=0∧r=0∧k=0)→0<N→mK a N (t+150)→bC.l2 e k a=ri e (N * 2 ^ (20 * t+r) * 5 ^ (-e).toNat):=by
 intro t
 induction t with
 | zero =>
  intro k r a N hr h1 h2 hN h
  refine bC.jB _ _ _ ?_
  intro v1 g1 v2 g2
  have e1:v1=(k:Int)+20:=by
   rw [g1,i64_in _ (by by_cases c:e<0;(have:=h2 c;omega);(have:=h1 (by omega);omega))]
  rw [e1,af (by by_cases c:e<0;(have:=h2 c;omega);(have:=h1 (by omega);omega)),aw,bC.pY e he r k a N (fun c=>by have:=h1 c;omega) (fun c=>by have:=h2 c;omega) hN (h.le (by omega)),Nat.mul_zero,Nat.zero_add]
 | succ t ih =>
  intro k r a N hr h1 h2 hN h
  refine bC.jB _ _ _ ?_
  intro v1 g1 v2 g2
  have nT:0≤e:=by
   by_cases c:e<0
   ·have:=h2 c;omega
   ·omega
  have e1:v1=((k+20:Nat):Int):=by rw [g1,i64_in _ (by have:=h1 nT;omega)];omega
  have e2:v2=Nr.times a 1048576 0:=g2
  have hm:mK (Nr.times a 1048576 0) (N * 1048576) (t+150):=mK.times (b:=t+150) (h.le (by omega)) 1048576 (by decide)
  rw [e1,ae (by have:=h1 nT;omega),aD,bE (h.pre 1048576 (by decide)),e2,ih (k+20) r _ (N * 1048576) hr (fun c=>by have:=h1 c;omega) (fun c=>by omega) (by omega) hm]
  have e5:(1048576:Nat)=2 ^ 20:=by decide
  rw [e5,Nat.mul_assoc N,←Nat.pow_add,show 20+(20 * t+r)=20 * (t+1)+r by omega]
theorem Aw (a:List UInt64) (c:UInt64):nq (a++[c])=nq a+100000000 ^ a.length * c.toNat:=by
 have:=vN (a++[c]) a.length (by simp)
 rw [List.take_left,List.take_of_length_le (by simp),iA] at this
 exact this
theorem bC.fj (e:Int) (he : -1075≤e∧e≤971) (N:Nat) (hN:0<N):∀(n:Nat) (a:List UInt64),a.length=n→mK a N 300→bC.l1 e a=ri e (N * 2 ^ e.toNat * 5 ^ (-e).toNat):=by
 intro n
 induction n with
 | zero=>intro a ha h;exact (h.n (List.length_eq_zero_iff.1 ha)).elim
 | succ n ih =>
  intro a ha h
  have hl:=h.l
  refine bC.dB _ _ ?_
  intro v1 h1 v2 h2 v3 h3
  have next:bC.l2 e 0 a=ri e (N * 2 ^ e.toNat * 5 ^ (-e).toNat):=by
   have:=bC.kN e he (e.toNat / 20) 0 (e.toNat % 20) a N (by omega) (fun c=>by omega) (fun c=>by omega) hN (h.le (by omega))
   rw [show 20 * (e.toNat / 20)+e.toNat % 20=e.toNat by omega] at this
   exact this
  have kb:∀b:Bool,(!b || b)=true:=by decide
  by_cases c:1<a.length
  ·have ht:decide ((1:Int)<(a.length:Int))=true:=ae (by omega)
   have e1:v1=((a.length - 1:Nat):Int):=by rw [h1,i64_in _ (by omega)];omega
   have hx:cz v1 a.length=true:=by rw [e1];exact cQ (by omega) (by omega)
   rw [ht,aD] at h3
   rw [ht,hx,ae (show v1.toNat<a.length by omega),bE (by rfl),bE (by rfl),bE (by rfl),bE (by rfl),bE (by rfl),bE (by rfl),h3]
   by_cases c2:v2=0
   ·rw [ae c2,aD,e1,bE (ju (by omega) (by omega) (by omega)),au]
    have Pk:a=a.take (a.length - 1)++[0]:=by
     have:=uk a v2 (by omega) (by rw [h2,e1,au])
     rw [c2] at this;exact this
    refine ih _ (by rw [aJ];omega) ⟨?_,?_,by rw [aJ];omega,?_⟩
    ·have:=congrArg nq Pk
     rw [Aw,h.v] at this
     rw [this];simp
    ·have hs:=h.s
     unfold Hv at hs ⊢
     exact aL.2 fun x hx=>aL.1 hs x (List.mem_of_mem_take hx)
    ·intro e0
     have:=congrArg List.length e0
     rw [aJ] at this;simp at this;omega
   ·rw [af c2,aw];exact next
  ·have ht:decide ((1:Int)<(a.length:Int))=false:=af (by omega)
   rw [ht] at h3
   have e3:v3=false:=h3
   rw [ht,e3];exact next
where
 uk (a:List UInt64) (v:UInt64) (h:0<a.length) (hv:v=a.getD (a.length - 1) 0):a=a.take (a.length - 1)++[v]:=by
  have:=(List.take_append_drop (a.length - 1) a).symm
  rw [drop_cons (show a.length - 1<a.length by omega) 0,←hv,bc (by omega)] at this
  exact this
theorem bC.goal (m:UInt64) (e:Int) (hp:decide (1≤m.toNat∧m.toNat<2 ^ 55∧-1075≤e∧e≤971)=true):bC.F m e=some [.s (Nr.vI m.toNat e),.i .i64 (Nr.xJ m.toNat e)]:=by
 obtain ⟨p1,p2,p3,p4⟩:=aM hp
 have p2:m.toNat<36028797018963968:=p2
 refine bC.eh _ _ ?_
 intro v1 h1 v2 h2 v3 h3
 have e0:(m % 100000000).toNat=m.toNat % 100000000:=UInt64.toNat_mod ..
 have e1:v1.toNat=m.toNat / 100000000 % 100000000:=by rw [h1,UInt64.toNat_mod,UInt64.toNat_div];rfl
 have e2:v2.toNat=m.toNat / 10000000000000000:=by rw [h2,UInt64.toNat_div];rfl
 rw [bE (by rfl),bE (by rfl),bE (by rfl),bE (by rfl)]
 refine bC.fj e ⟨p3,p4⟩ m.toNat (by omega) 3 v3 (by rw [h3];rfl) ⟨?_,?_,by rw [h3];simp,by rw [h3];simp⟩
 ·rw [h3];simp only [nq];rw [e0,e1,e2];omega
 ·rw [h3];unfold Hv
  simp only [List.all_cons,List.all_nil,Bool.and_true,aa,az]
  rw [e0,e1,e2]
  omega
end Go.Eng
namespace Go.Eng
open Go.IntWalk
namespace Nr
def Ao (d:bO):Prop:=d.all eE=true∧(d=[]∨d.getLast?≠some 48)
theorem Ao.tail {c:UInt8} {r:bO} (h:Ao (c :: r)):eE c=true∧Ao r:=by
 obtain ⟨h1,h2⟩:=h
 rw [List.all_cons,aa] at h1
 refine ⟨h1.1,h1.2,?_⟩
 cases r with
 | nil=>exact .inl rfl
 | cons d r =>
  refine .inr ?_
  have:=h2.resolve_left (by simp)
  rw [List.getLast?_cons_cons] at this
  exact this
theorem zO:∀{d:bO},Ao d→d≠[]→0<num d:=by
 intro d h h0
 rcases gJ d with e | ⟨a,c,e⟩
 ·exact (h0 e).elim
 ·subst e
  have h2:=h.2.resolve_left h0
  have hc:c≠48:=fun e=>h2 (by rw [e];simp)
  have hd:=gr.1 (aL.1 h.1 c (by simp))
  rw [jO]
  have:c.toNat≠48:=fun e=>hc (UInt8.toNat_inj.1 e)
  omega
theorem A5:∀(a b:bO) (p q:Nat),Ao a→Ao b→a.length+p=b.length+q →
  (Op.bytesLess a b=true ↔ num a * 10 ^ p<num b * 10 ^ q)∧(a=b ↔ num a * 10 ^ p=num b * 10 ^ q)
 | [],[],p,q,_,_,_=>by simp [Op.bytesLess,num]
 | [],d :: r,p,q,_,hb,_=>by
  have:=Nat.mul_pos (zO hb (by simp)) (dG q)
  rw [show num ([]:bO)=0 from rfl,Nat.zero_mul]
  refine ⟨⟨fun _=>this,fun _=>rfl⟩,⟨fun h=>by simp at h,fun h=>by omega⟩⟩
 | c :: r,[],p,q,ha,_,_=>by
  have:=Nat.mul_pos (zO ha (by simp)) (dG p)
  rw [show num ([]:bO)=0 from rfl,Nat.zero_mul]
  refine ⟨⟨fun h=>by simp [Op.bytesLess] at h,fun h=>by omega⟩,⟨fun h=>by simp at h,fun h=>by omega⟩⟩
 | c :: a,d :: b,p,q,ha,hb,h=>by
  obtain ⟨hc,Ur⟩:=ha.tail
  obtain ⟨hd,yg⟩:=hb.tail
  rw [aQ,aQ] at h
  obtain ⟨i1,i2⟩:=A5 a b p q Ur yg (by omega)
  have na:=nx a Ur.1
  have nb:=nx b yg.1
  have ea:num (c :: a) * 10 ^ p=(c.toNat - 48) * 10 ^ (a.length+p)+num a * 10 ^ p:=by
   rw [qM,Nat.add_mul,Nat.mul_assoc,←Nat.pow_add]
  have eb:num (d :: b) * 10 ^ q=(d.toNat - 48) * 10 ^ (a.length+p)+num b * 10 ^ q:=by
   rw [qM,Nat.add_mul,Nat.mul_assoc,←Nat.pow_add,show b.length+q=a.length+p by omega]
  have la:num a * 10 ^ p<10 ^ (a.length+p):=by
   rw [Nat.pow_add];exact Nat.mul_lt_mul_of_pos_right na (dG p)
  have lb:num b * 10 ^ q<10 ^ (a.length+p):=by
   rw [show a.length+p=b.length+q by omega,Nat.pow_add];exact Nat.mul_lt_mul_of_pos_right nb (dG q)
  have hc:=gr.1 hc
  have hd:=gr.1 hd
  rw [ea,eb]
  generalize 10 ^ (a.length+p)=T at la lb
  generalize num a * 10 ^ p=x at *
  generalize num b * 10 ^ q=y at *
  have cd:c=d ↔ c.toNat=d.toNat:=UInt8.toNat_inj.symm
  rw [Op.bytesLess]
  rcases Nat.lt_trichotomy c.toNat d.toNat with k | k | k
  ·have eW:decide (c<d)=true:=ae (UInt8.lt_iff_toNat_lt.2 k)
   have fO:c≠d:=fun e=>by rw [e] at k;omega
   have hm:(c.toNat - 48+1) * T≤(d.toNat - 48) * T:=ar T (by omega)
   rw [Nat.add_mul,Nat.one_mul] at hm
   refine ⟨⟨fun _=>by omega,fun _=>by rw [eW];rfl⟩,⟨fun e=>?_,fun e=>by omega⟩⟩
   injection e with e1 e2;exact (fO e1).elim
  ·have e:=cd.2 k
   subst e
   have eW:decide (c<c)=false:=af (by rw [UInt8.lt_iff_toNat_lt];omega)
   rw [eW,Bool.false_or,beq_self_eq_true,Bool.true_and]
   refine ⟨by rw [i1];omega,?_⟩
   rw [aj]
   constructor
   ·intro h;have:=i2.1 h.2;omega
   ·intro h;exact ⟨rfl,i2.2 (by omega)⟩
  ·have eW:decide (c<d)=false:=af (by rw [UInt8.lt_iff_toNat_lt];omega)
   have fO:c≠d:=fun e=>by rw [e] at k;omega
   have hm:(d.toNat - 48+1) * T≤(c.toNat - 48) * T:=ar T (by omega)
   rw [Nat.add_mul,Nat.one_mul] at hm
   refine ⟨⟨fun h=>?_,fun h=>by omega⟩,⟨fun e=>?_,fun e=>by omega⟩⟩
   ·rw [eW,beq_false_of_ne fO] at h;exact (Bool.false_ne_true h).elim
   ·injection e with e1 e2;exact (fO e1).elim
structure nX (d:bO):Prop where
 f:Ao d
 n:d≠[]
 h:d.getD 0 0≠48
theorem nX.lo {d:bO} (h:nX d) (p:Nat):10 ^ (d.length+p - 1)≤num d * 10 ^ p:=by
 have h1:=qi h.f.1 h.n h.h
 have:=List.length_pos_iff.2 h.n
 rw [show d.length+p - 1=d.length - 1+p by omega,Nat.pow_add]
 exact ar _ h1
theorem nX.hi {d:bO} (h:nX d) (p:Nat):num d * 10 ^ p<10 ^ (d.length+p):=by
 rw [Nat.pow_add];exact Nat.mul_lt_mul_of_pos_right (nx d h.f.1) (dG p)
theorem wE {a b:bO} {x y:Int} (p q:Nat) (ha:nX a) (hb:nX b) (h:x - y=((a.length+p:Nat):Int) - ((b.length+q:Nat):Int)) :
  gf a x b y=Nt.cmp (num a * 10 ^ p) (num b * 10 ^ q):=by
 have a1:=ha.lo p
 have a2:=ha.hi p
 have b1:=hb.lo q
 have b2:=hb.hi q
 have la:=List.length_pos_iff.2 ha.n
 have lb:=List.length_pos_iff.2 hb.n
 unfold gf Nt.cmp
 rcases Int.lt_trichotomy x y with k | k | k
 ·have:=jK (show a.length+p≤b.length+q - 1 by omega)
  rw [ae k,Bool.true_or,aG rfl,aG (by omega)]
 ·obtain ⟨i1,i2⟩:=A5 a b p q ha.f hb.f (by omega)
  rw [af (show ¬x<y by omega),ae k,Bool.false_or,Bool.true_and]
  by_cases c:Op.bytesLess a b=true
  ·rw [aG c,aG (i1.1 c)]
  ·rw [aE c,aE (fun h=>c (i1.2 h))]
   by_cases c2:a=b
   ·rw [ae c2,aG (by rfl),aG (i2.1 c2)]
   ·rw [af c2,aE (by decide),aE (fun h=>c2 (i2.2 h))]
 ·have:=jK (show b.length+q≤a.length+p - 1 by omega)
  rw [af (show ¬x<y by omega),af (show ¬x=y by omega),aE (by simp),aE (by simp),aE (by omega),aE (by omega)]
theorem wD {a b c:Nat} (hc:0<c):Nt.cmp (a * c) (b * c)=Nt.cmp a b:=by
 unfold Nt.cmp
 have h1:a * c<b * c ↔ a<b:=Nat.mul_lt_mul_right hc
 have h2:a * c=b * c ↔ a=b:=⟨fun h=>Nat.eq_of_mul_eq_mul_right hc h,fun h=>by rw [h]⟩
 simp only [h1,h2]
theorem Cv {m:Nat} (h:0<m) (e:Int):0<DB m e:=Nat.mul_pos (Nat.mul_pos h (Nat.two_pow_pos _)) (Nat.pow_pos (by omega))
theorem Gs {m:Nat} (h:0<m) (e:Int):nX (vI m e)∧∃t,num (vI m e) * 10 ^ t=DB m e∧xJ m e=((vI m e).length+t:Nat)+min e 0:=by
 obtain ⟨d1,d2,d3,d4⟩:=pf (DB m e)
 obtain ⟨t,t1,t2⟩:=ib (dec (DB m e))
 have hp:=Cv h e
 have hn:=congrArg num t1
 rw [fw,iX,List.length_replicate,Nat.add_zero,d2] at hn
 have hl:=congrArg List.length t1
 rw [ao,List.length_replicate] at hl
 have ne:cW (dec (DB m e))≠[]:=by
  intro e0;rw [e0,show num []=0 from rfl,Nat.zero_mul] at hn;omega
 refine ⟨⟨⟨(eI d1 t1).1,t2⟩,ne,?_⟩,t,hn.symm,?_⟩
 ·have:=d4 hp
  rw [t1,ak,List.getElem?_append_left (List.length_pos_iff.2 ne),←ak] at this
  exact this
 ·unfold xJ;rw [hl];rfl
def nA (d:bO) (x:Int):Nat:=num d * 10 ^ (x - d.length).toNat
def nB (d:bO) (x:Int):Nat:=10 ^ (-(x - d.length)).toNat
theorem DA (m:Nat) (e:Int) (he : -1075≤e) (j:Nat):DB m e * 10 ^ (min e 0+1075+j).toNat=m * 2 ^ (e+1075).toNat * 10 ^ j * 5 ^ 1075:=by
 have t5:∀k:Nat,(10:Nat) ^ k=2 ^ k * 5 ^ k:=fun k=>by rw [←Nat.mul_pow]
 unfold DB
 by_cases c:0≤e
 ·rw [show (min e 0+1075+j).toNat=1075+j by omega,show (-e).toNat=0 by omega,show (e+1075).toNat=e.toNat+1075 by omega,Nat.pow_add 10,t5 1075,Nat.pow_add 2,Nat.pow_zero,Nat.mul_one]
  simp only [Nat.mul_assoc,Nat.mul_comm,Nat.mul_left_comm]
 ·rw [show (min e 0+1075+j).toNat=(e+1075).toNat+j by omega,show e.toNat=0 by omega,Nat.pow_add 10,t5 (e+1075).toNat,Nat.pow_zero,Nat.mul_one]
  have:(5:Nat) ^ 1075=5 ^ (-e).toNat * 5 ^ (e+1075).toNat:=by
   rw [←Nat.pow_add];congr 1;omega
  rw [this]
  simp only [Nat.mul_assoc,Nat.mul_comm,Nat.mul_left_comm]
theorem CH {N a k K M:Nat} {U:Nat} (hU:U=2 * 2 ^ K) (hM:M=K+1) (h:k=a+(K+1)):N * 10 ^ k=N * 10 ^ a * U * 5 ^ M:=by
 rw [hM,h,hU,Nat.pow_add 10,Nat.mul_assoc (N * _),←Nat.mul_assoc N,show 2 * 2 ^ K=2 ^ (K+1) by rw [Nat.pow_succ,Nat.mul_comm],←Nat.mul_pow]
theorem Gp (k:Nat):0<5 ^ k:=Nat.pow_pos (by omega)
theorem Fo (d:bO) (x:Int):num d * 10 ^ (x - d.length+1075+(-(x - d.length)).toNat).toNat=nA d x * fW * 5 ^ 1075:=by
 unfold nA
 exact CH (M:=1075) (K:=1074) iL (by decide) (by omega)
theorem GR {m:Nat} {e:Int} (h:0<m) (he : -1075≤e) {d:bO} (hd:nX d) (x:Int) :
  gf (vI m e) (xJ m e) d x=Nt.cmp (m * 2 ^ (e+1075).toNat * nB d x) (nA d x * fW) ∧
  gf d x (vI m e) (xJ m e)=Nt.cmp (nA d x * fW) (m * 2 ^ (e+1075).toNat * nB d x):=by
 obtain ⟨hc,t,t1,t2⟩:=Gs h e
 have hp:0<(5:Nat) ^ 1075:=Gp 1075
 have s1:=DA m e he (-(x - d.length)).toNat
 have s2:=Fo d x
 have e1:num (vI m e) * 10 ^ (t+(min e 0+1075+(-(x - d.length)).toNat).toNat)=m * 2 ^ (e+1075).toNat * nB d x * 5 ^ 1075:=by
  rw [Nat.pow_add,←Nat.mul_assoc,t1,s1];rfl
 constructor
 ·rw [wE (t+(min e 0+1075+(-(x - d.length)).toNat).toNat) (x - d.length+1075+(-(x - d.length)).toNat).toNat hc hd (by omega),e1,s2,wD hp]
 ·rw [wE (x - d.length+1075+(-(x - d.length)).toNat).toNat (t+(min e 0+1075+(-(x - d.length)).toNat).toNat) hd hc (by omega),e1,s2,wD hp]
end Nr
end Go.Eng
namespace Go.Eng
namespace Sh
open Nr (V iI sh top gq rd nC fK)
theorem ox {a b p:Nat} (hb:0<b):gq a b=some p ↔ p≤top∧¬fK a b p∧(p=0∨fK a b (p - 1)):=by
 constructor
 ·intro h
  classical
  have s1:p≤top∧¬fK a b p∧∀r,r<p→fK a b r:=by
   unfold gq at h
   split at h
   ·rename_i hx
    cases h
    exact hx.choose_spec
   ·cases h
  refine ⟨s1.1,s1.2.1,?_⟩
  by_cases c:p=0
  ·exact .inl c
  ·exact .inr (s1.2.2 _ (by omega))
 ·rintro ⟨h1,h2,h3⟩
  exact Nr.ly hb h1 h2 h3
theorem xb {p N:Nat} {k:Int} (hp:0<p):rd N k=some p ↔ p≤top ∧
  (2 * (N * 10 ^ k.toNat * 2 ^ 1074)<nC p * 10 ^ (-k).toNat∨(2 * (N * 10 ^ k.toNat * 2 ^ 1074)=nC p * 10 ^ (-k).toNat∧p % 2=0)) ∧
  (nC (p - 1) * 10 ^ (-k).toNat<2 * (N * 10 ^ k.toNat * 2 ^ 1074)∨(nC (p - 1) * 10 ^ (-k).toNat=2 * (N * 10 ^ k.toNat * 2 ^ 1074)∧p % 2=0)):=by
 unfold rd
 rw [ox (Nr.dG _)]
 unfold fK
 have e:=Nr.mul_two (a:=N * 10 ^ k.toNat) Nr.iL
 rw [e]
 generalize 2 * (N * 10 ^ k.toNat * 2 ^ 1074)=X
 generalize nC p * 10 ^ (-k).toNat=Y
 generalize nC (p - 1) * 10 ^ (-k).toNat=Z
 constructor
 ·rintro ⟨h1,h2,h3⟩
  refine ⟨h1,?_,?_⟩ <;> omega
 ·rintro ⟨h1,h2,h3⟩
  refine ⟨h1,?_,.inr ?_⟩ <;> omega
theorem pF {p:Nat} (hp:0<p):0<iI p:=by unfold iI;split <;> omega
theorem Ey {m s:Nat} (K:Nat):m * 2 ^ ((s:Int) - K).toNat * 2 ^ K=m * 2 ^ s * 2 ^ (-((s:Int) - K)).toNat:=by
 rw [Nat.mul_assoc,Nat.mul_assoc,←Nat.pow_add,←Nat.pow_add]
 congr 2
 omega
theorem Hn (p:Nat):gN p * 2 ^ 1074=V p * fq p:=Ey 1074
theorem iF (p:Nat):0<fq p:=Nat.two_pow_pos _
theorem Cz {p:Nat} (hp:0<p):10 ^ (dx p - 1).toNat * fq p≤gN p * 10 ^ (-(dx p - 1)).toNat∧gN p * 10 ^ (-(dx p)).toNat<10 ^ (dx p).toNat * fq p:=by
 have hm:=pF hp
 generalize he:(sh p:Int) - 1074=e
 obtain ⟨d1,d2,d3,d4⟩:=Nr.pf (Nr.DB (iI p) e)
 have hN:=Nr.Cv hm e
 have g1:=Nr.qi d1 d3 (d4 hN)
 have g2:=Nr.nx _ d1
 rw [d2] at g1 g2
 have hl:=List.length_pos_iff.2 d3
 have hx:dx p=(Nr.dec (Nr.DB (iI p) e)).length+min e 0:=by unfold dx;rw [he];rfl
 have ea:gN p=iI p * 2 ^ e.toNat:=by unfold gN;rw [he]
 have eb:fq p=2 ^ (-e).toNat:=by unfold fq;rw [he]
 have eN:Nr.DB (iI p) e=iI p * 2 ^ e.toNat * 5 ^ (-e).toNat:=rfl
 generalize Nr.DB (iI p) e=N at *
 generalize (Nr.dec N).length=L at *
 rw [ea,eb,hx]
 have t25:∀k:Nat,(10:Nat) ^ k=2 ^ k * 5 ^ k:=fun k=>by rw [←Nat.mul_pow]
 by_cases c:0≤e
 ·have h0:(-e).toNat=0:=by omega
  rw [h0,Nat.pow_zero,Nat.mul_one] at eN ⊢
  rw [Nat.mul_one]
  rw [←eN,show ((L:Int)+min e 0 - 1).toNat=L - 1 by omega,show (-((L:Int)+min e 0 - 1)).toNat=0 by omega,show (-((L:Int)+min e 0)).toNat=0 by omega,show ((L:Int)+min e 0).toNat=L by omega,Nat.pow_zero,Nat.mul_one]
  exact ⟨g1,g2⟩
 ·have h0:e.toNat=0:=by omega
  rw [h0,Nat.pow_zero,Nat.mul_one] at eN ⊢
  have SJ:min e 0=e:=by omega
  rw [SJ]
  generalize hj:(-e).toNat=j at *
  have Sy:0<(5:Nat) ^ j:=Nat.pow_pos (by omega)
  have key:∀a b:Nat,a+j=L - 1+b→10 ^ a * 2 ^ j≤iI p * 10 ^ b:=fun a b DU=>by
   refine Nat.le_of_mul_le_mul_right (c:=5 ^ j) ?_ Sy
   rw [Nat.mul_assoc,←t25,←Nat.pow_add,DU,Nat.pow_add,Nat.mul_right_comm,←eN]
   exact ar _ g1
  have Rp:∀a b:Nat,a+j=L+b→iI p * 10 ^ b<10 ^ a * 2 ^ j:=fun a b DU=>by
   refine Nat.lt_of_mul_lt_mul_right (a:=5 ^ j) ?_
   rw [Nat.mul_assoc (10 ^ a),←t25,←Nat.pow_add,DU,Nat.pow_add,Nat.mul_right_comm,←eN]
   exact Nat.mul_lt_mul_of_pos_right g2 (Nr.dG _)
  exact ⟨key _ _ (by omega),Rp _ _ (by omega)⟩
theorem iQ {p N:Nat} {k:Int} (h:rd N k=some p):reads p N k=some (Nr.cW (Nr.dec N),(Nr.dec N).length+k):=aG h
theorem ki {p N:Nat} {k:Int} (h:¬rd N k=some p):reads p N k=none:=aE h
theorem Gm {p:Nat} (hp:0<p):V p≤9007199254740992 * 2 ^ sh (p - 1)∧V p=V (p - 1)+2 ^ sh (p - 1):=by
 have h1:=Nr.xY (p - 1)
 have h2:=Nr.vk (p - 1)
 rw [show p - 1+1=p by omega] at h1 h2
 refine ⟨?_,h2⟩
 rw [h1]
 exact ar _ (by have:=Nr.qk (p - 1);omega)
theorem Mr (p:Nat):V p<9007199254740992 * 2 ^ sh p∧V (p+1)=V p+2 ^ sh p :=
 ⟨Nat.mul_lt_mul_of_pos_right (Nr.qk p) (Nat.two_pow_pos _),Nr.vk p⟩
theorem unit_eq {a b V' K P Q:Nat} {S T:Nat} (h:a * K=V' * b) (hP:P=a * T) (hQ:Q=b * S) (N:Nat):N * S * K * b=N * Q * K∧P * K=V' * T * b:=by
 constructor
 ·rw [hQ];simp only [Nat.mul_assoc,Nat.mul_comm,Nat.mul_left_comm]
 ·rw [hP,Nat.mul_right_comm,h,Nat.mul_right_comm]
end Sh
end Go.Eng
namespace Go.Eng
namespace Sh
open Nr (V iI sh top gq rd nC fK)
theorem qe {b:Nat} (h:0<b) (k:Int):0<tB b k:=Nat.mul_pos h (Nr.dG _)
theorem H5 {p:Nat} (hp:0<p) (ht:p≤top) (x n:Int) (K:Nat) (hK:gN p * K=V p * fq p) (Xg:K=2 ^ 1074) (N:Nat):rd N (x - n)=some p ↔
  (2 * (N * tB (fq p) (n - x) * K)<2 * (tA (gN p) (n - x) * K)+2 ^ sh p * 10 ^ (n - x).toNat * fq p∨(2 * (N * tB (fq p) (n - x) * K)=2 * (tA (gN p) (n - x) * K)+2 ^ sh p * 10 ^ (n - x).toNat * fq p∧p % 2=0)) ∧
  (2 * (tA (gN p) (n - x) * K)<2 * (N * tB (fq p) (n - x) * K)+2 ^ sh (p - 1) * 10 ^ (n - x).toNat * fq p∨(2 * (tA (gN p) (n - x) * K)=2 * (N * tB (fq p) (n - x) * K)+2 ^ sh (p - 1) * 10 ^ (n - x).toNat * fq p∧p % 2=0)):=by
 rw [xb hp,←Xg]
 have hb:=iF p
 rw [show (-(x - n))=n - x by omega]
 obtain ⟨u1,u2⟩:=unit_eq (S:=10 ^ (x - n).toNat) (T:=10 ^ (n - x).toNat) (Q:=tB (fq p) (n - x)) (P:=tA (gN p) (n - x)) hK rfl (by unfold tB;rw [show (-(n - x))=x - n by omega]) N
 rw [u2,←u1]
 have m1:nC p=2 * V p+2 ^ sh p:=by rw [Nr.lL,Nr.vk];omega
 have m2:2 * V p=nC (p - 1)+2 ^ sh (p - 1):=by
  have:=(Gm hp).2
  rw [Nr.lL,show p - 1+1=p by omega];omega
 generalize 10 ^ (n - x).toNat=T
 generalize hX:N * 10 ^ (x - n).toNat * K=X
 have c1:nC p * T * fq p=2 * (V p * T * fq p)+2 ^ sh p * T * fq p:=by rw [m1];simp only [Nat.add_mul,Nat.mul_assoc]
 have c2:2 * (V p * T * fq p)=nC (p - 1) * T * fq p+2 ^ sh (p - 1) * T * fq p:=by
  have:2 * (V p * T * fq p)=2 * V p * T * fq p:=by simp only [Nat.mul_assoc]
  rw [this,m2];simp only [Nat.add_mul]
 have c3:2 * (X * fq p)=2 * X * fq p:=by rw [Nat.mul_assoc]
 rw [c3,c2,Nat.add_lt_add_iff_right,Nat.add_right_cancel_iff,←c2,←c1]
 rw [Nat.mul_lt_mul_right hb,Nat.mul_lt_mul_right hb]
 have e1:2 * X * fq p=nC p * T * fq p ↔ 2 * X=nC p * T:=⟨Nat.eq_of_mul_eq_mul_right hb,fun h=>by rw [h]⟩
 have e2:nC (p - 1) * T * fq p=2 * X * fq p ↔ nC (p - 1) * T=2 * X:=⟨Nat.eq_of_mul_eq_mul_right hb,fun h=>by rw [h]⟩
 rw [e1,e2]
 exact ⟨fun h=>h.2,fun h=>⟨ht,h⟩⟩
theorem yt {a b:Nat} {y k m:Int} (hm:0≤m) (h:m=y+k):(10 ^ y.toNat * b≤a * 10 ^ (-y).toNat→10 ^ m.toNat * tB b k≤tA a k)∧(a * 10 ^ (-y).toNat<10 ^ y.toNat * b→tA a k<10 ^ m.toNat * tB b k):=by
 have he:m.toNat+(-k).toNat+(-y).toNat=y.toNat+k.toNat:=by omega
 have l:10 ^ m.toNat * tB b k * 10 ^ (-y).toNat=10 ^ y.toNat * b * 10 ^ k.toNat:=by
  unfold tB
  rw [←Nat.mul_assoc,Nat.mul_right_comm (10 ^ m.toNat),←Nat.pow_add,Nat.mul_right_comm,←Nat.pow_add,he,Nat.pow_add,Nat.mul_right_comm]
 have r:tA a k * 10 ^ (-y).toNat=a * 10 ^ (-y).toNat * 10 ^ k.toNat:=by unfold tA;rw [Nat.mul_right_comm]
 have h1:=Nr.dG (-y).toNat
 have h2:=Nr.dG k.toNat
 constructor
 ·intro h
  refine Nat.le_of_mul_le_mul_right ?_ h1
  rw [l,r];exact ar _ h
 ·intro h
  refine Nat.lt_of_mul_lt_mul_right (a:=10 ^ (-y).toNat) ?_
  rw [l,r];exact Nat.mul_lt_mul_of_pos_right h h2
theorem qz {p:Nat} (hp:0<p) {n:Int} (hn:1≤n):10 ^ (n - 1).toNat * tB (fq p) (n - dx p)≤tA (gN p) (n - dx p)∧tA (gN p) (n - dx p)<10 ^ n.toNat * tB (fq p) (n - dx p):=by
 obtain ⟨h1,h2⟩:=Cz hp
 exact ⟨(yt (y:=dx p - 1) (k:=n - dx p) (m:=n - 1) (by omega) (by omega)).1 h1,(yt (y:=dx p) (k:=n - dx p) (m:=n) (by omega) (by omega)).2 h2⟩
theorem sP {p a b:Nat} {x n:Int} (h:rd (tA a (n - x) / tB b (n - x)) (x - n)=some p∨rd (tA a (n - x) / tB b (n - x)+1) (x - n)=some p):(some_ p a b x n).isSome=true:=by
 unfold some_
 simp only
 split
 ·rename_i c;exact c.1
 ·rename_i c
  rcases h with h | h
  ·by_cases h2:rd (tA a (n - x) / tB b (n - x)+1) (x - n)=some p
   ·rw [iQ h2];rfl
   ·exact (c ⟨by rw [iQ h];rfl,.inl (by rw [ki h2];rfl)⟩).elim
  ·rw [iQ h];rfl
theorem KM {p:Nat} (hp:0<p) (ht:p≤top):(some_ p (gN p) (fq p) (dx p) 17).isSome=true:=by
 obtain ⟨r1,r2⟩:=qz hp (n:=17) (by omega)
 have hQ:=qe (iF p) (17 - dx p)
 obtain ⟨K,hK⟩:∃K,K=2 ^ 1074:=⟨_,rfl⟩
 have UC:0<K:=by rw [hK];exact Nat.two_pow_pos 1074
 have DU:=Hn p
 rw [←hK] at DU
 have gd:=(Gm hp).1
 have gu:=(Mr p).1
 have ru:=H5 hp ht (dx p) 17 K DU hK
 have Xc:tA (gN p) (17 - dx p) * K=V p * 10 ^ (17 - dx p).toNat * fq p:=by
  unfold tA;rw [Nat.mul_right_comm,DU,Nat.mul_right_comm]
 refine sP ?_
 have hT:0<10 ^ (17 - dx p).toNat * fq p:=Nat.mul_pos (Nr.dG _) (iF p)
 have bd:V p * 10 ^ (17 - dx p).toNat * fq p≤9007199254740992 * (2 ^ sh (p - 1) * 10 ^ (17 - dx p).toNat * fq p):=by
  rw [Nat.mul_assoc (V p),Nat.mul_assoc (2 ^ sh (p - 1)),←Nat.mul_assoc 9007199254740992]
  exact ar _ gd
 have bu:V p * 10 ^ (17 - dx p).toNat * fq p<9007199254740992 * (2 ^ sh p * 10 ^ (17 - dx p).toNat * fq p):=by
  rw [Nat.mul_assoc (V p),Nat.mul_assoc (2 ^ sh p),←Nat.mul_assoc 9007199254740992]
  exact Nat.mul_lt_mul_of_pos_right gu hT
 rw [←Xc] at bd bu
 generalize tA (gN p) (17 - dx p)=P at *
 generalize tB (fq p) (17 - dx p)=Q at *
 generalize 2 ^ sh (p - 1) * 10 ^ (17 - dx p).toNat * fq p=D at *
 generalize 2 ^ sh p * 10 ^ (17 - dx p).toNat * fq p=G at *
 have XA:(10:Nat) ^ ((17:Int) - 1).toNat=10000000000000000:=by decide
 rw [XA] at r1
 have hr:=Nat.mod_lt P hQ
 have Dq:=Nat.div_add_mod P Q
 have q1:10000000000000000 * (Q * K)≤P * K:=by rw [←Nat.mul_assoc];exact ar K r1
 have Zi:0<Q * K:=Nat.mul_pos hQ UC
 have Xb:P * K=P / Q * Q * K+P % Q * K:=by rw [←Nat.add_mul,Nat.mul_comm (P / Q)];rw [Dq]
 have Y3:P % Q * K<Q * K:=Nat.mul_lt_mul_of_pos_right hr UC
 by_cases c:2 * (P % Q)≤Q
 ·left
  have c':2 * (P % Q * K)≤Q * K:=by rw [←Nat.mul_assoc];exact ar K c
  rw [ru]
  exact ⟨.inl (by omega),.inl (by omega)⟩
 ·right
  have c':Q * K≤2 * (P % Q * K):=by rw [←Nat.mul_assoc];exact ar K (by omega)
  have hN:(P / Q+1) * Q * K=P / Q * Q * K+Q * K:=by rw [Nat.add_mul,Nat.add_mul,Nat.one_mul]
  rw [ru,hN]
  exact ⟨.inl (by omega),.inl (by omega)⟩
theorem vh {a b c d p:Nat} (hb:0<b) (hd:0<d) (h:a * d≤c * b) (h1:fK a b p):fK c d p:=by
 unfold fK at h1 ⊢
 have h2:nC p * b * d≤a * Nr.fW * d:=ar _ (by omega)
 have h3:a * Nr.fW * d≤c * Nr.fW * b:=by
  rw [Nat.mul_right_comm,Nat.mul_right_comm c];exact ar _ h
 have h4:nC p * d * b=nC p * b * d:=Nat.mul_right_comm ..
 have h5:nC p * d * b≤c * Nr.fW * b:=by omega
 have h6:=Nat.le_of_mul_le_mul_right h5 hb
 rcases h1 with h1 | ⟨h1,h7⟩
 ·left
  refine Nat.lt_of_mul_lt_mul_right (a:=b) ?_
  have:=Nat.mul_lt_mul_of_pos_right h1 hd
  omega
 ·rcases Nat.lt_or_eq_of_le h6 with h8 | h8
  ·exact .inl h8
  ·exact .inr ⟨h8,h7⟩
theorem qP {a b c d e f p:Nat} (hb:0<b) (hd:0<d) (hf:0<f) (h1:gq a b=some p) (h2:gq c d=some p) (g1:a * f≤e * b) (g2:e * d≤c * f):gq e f=some p:=by
 obtain ⟨a1,a2,a3⟩:=(ox hb).1 h1
 obtain ⟨b1,b2,b3⟩:=(ox hd).1 h2
 refine (ox hf).2 ⟨a1,fun h=>b2 (vh hf hd g2 h),?_⟩
 rcases a3 with h | h
 ·exact .inl h
 ·exact .inr (vh hb hf g1 h)
theorem uO {p:Nat} (ht:p≤top):gq (gN p) (fq p)=some p:=by
 classical
 have h:=Hn p
 have hb:=iF p
 have e:=Nr.mul_two (a:=gN p) Nr.iL
 have hv:=Nat.mul_lt_mul_of_pos_right (Nr.lC p) hb
 refine (ox hb).2 ⟨ht,?_,?_⟩
 ·unfold fK
  rw [e,h,Nr.lL,Nat.add_mul]
  omega
 ·by_cases c:p=0
  ·exact .inl c
  ·right
   left
   have hv:=Nat.mul_lt_mul_of_pos_right (Nr.lC (p - 1)) hb
   rw [show p - 1+1=p by omega] at hv
   rw [e,h,Nr.lL,Nat.add_mul,show p - 1+1=p by omega]
   omega
end Sh
end Go.Eng
namespace Go.Eng
namespace Sh
open Nr (V iI sh top gq rd nC fK)
def fi (p:Nat):bO:=Nr.vI (iI p) ((sh p:Int) - 1074)
theorem Bo {p:Nat} (hp:0<p):Nr.nX (fi p)∧∀n:Int,0≤n→tA (gN p) (n - dx p) * 10 ^ ((fi p).length - n).toNat=Nr.num (fi p) * tB (fq p) (n - dx p) * 10 ^ (n - (fi p).length).toNat:=by
 have hm:=pF hp
 obtain ⟨hc,t,t1,t2⟩:=Nr.Gs hm ((sh p:Int) - 1074)
 refine ⟨hc,fun n hn=>?_⟩
 have hx:dx p=(((fi p).length+t:Nat):Int)+min ((sh p:Int) - 1074) 0:=t2
 have hN:Nr.num (fi p) * 10 ^ t=iI p * 2 ^ ((sh p:Int) - 1074).toNat * 5 ^ (-((sh p:Int) - 1074)).toNat:=t1
 unfold tA tB gN fq
 generalize (sh p:Int) - 1074=e at *
 generalize dx p=x at *
 have t25:∀k:Nat,(10:Nat) ^ k=2 ^ k * 5 ^ k:=fun k=>by rw [←Nat.mul_pow]
 have Sy:0<(5:Nat) ^ (-e).toNat:=Nat.pow_pos (by omega)
 refine Nat.eq_of_mul_eq_mul_right Sy (Nat.eq_of_mul_eq_mul_right (Nr.dG t) ?_)
 generalize (fi p).length=L at *
 generalize Nr.num (fi p)=N at *
 have l:iI p * 2 ^ e.toNat * 10 ^ (n - x).toNat * 10 ^ ((L:Int) - n).toNat * 5 ^ (-e).toNat * 10 ^ t=iI p * 2 ^ e.toNat * 5 ^ (-e).toNat * 10 ^ ((n - x).toNat+((L:Int) - n).toNat+t):=by
  rw [Nat.pow_add,Nat.pow_add];simp only [Nat.mul_assoc,Nat.mul_comm,Nat.mul_left_comm]
 have r:N * (2 ^ (-e).toNat * 10 ^ (-(n - x)).toNat) * 10 ^ (n - (L:Int)).toNat * 5 ^ (-e).toNat * 10 ^ t=N * 10 ^ t * 10 ^ ((-e).toNat+(-(n - x)).toNat+(n - (L:Int)).toNat):=by
  rw [Nat.pow_add,Nat.pow_add,t25 (-e).toNat];simp only [Nat.mul_assoc,Nat.mul_comm,Nat.mul_left_comm]
 rw [l,r,←hN]
 congr 2
 omega
theorem Tq {P Q W D:Nat} (hQ:0<Q) (hW:0<W) (h:P * W=D * Q):P / Q=D / W∧(2 * (P % Q)<Q ↔ 2 * (D % W)<W)∧(2 * (P % Q)=Q ↔ 2 * (D % W)=W):=by
 have d1:P / Q=D / W:=by
  rw [←Nat.mul_div_mul_right P Q hW,h,Nat.mul_comm Q W,Nat.mul_div_mul_right D W hQ]
 have m1:P % Q * W=D % W * Q:=by
  rw [←Nat.mul_mod_mul_right,h,Nat.mul_comm Q W,Nat.mul_mod_mul_right]
 refine ⟨d1,?_,?_⟩
 ·rw [←Nat.mul_lt_mul_right (a:=W) hW (b:=2 * (P % Q)),Nat.mul_assoc,m1,←Nat.mul_assoc,Nat.mul_comm Q W,Nat.mul_lt_mul_right hQ]
 ·constructor
  ·intro e
   refine Nat.eq_of_mul_eq_mul_right hQ ?_
   rw [Nat.mul_assoc,←m1,←Nat.mul_assoc,e,Nat.mul_comm]
  ·intro e
   refine Nat.eq_of_mul_eq_mul_right hW ?_
   rw [Nat.mul_assoc,m1,←Nat.mul_assoc,e,Nat.mul_comm]
theorem Ny {p P Q:Nat} {k:Int} {N:Nat} (hP:P=gN p * 10 ^ (-k).toNat) (hQ:Q=fq p * 10 ^ k.toNat) (h:P=N * Q) (ht:p≤top):rd N k=some p:=by
 unfold rd
 rw [←uO ht]
 refine Nr.uP (Nr.dG _) (iF p) ?_
 rw [←hP,h,hQ,Nat.mul_assoc,Nat.mul_comm (fq p)]
theorem xT {d:bO} (h:Nr.nX d):Nr.dec (Nr.num d)=d∧Nr.cW d=d:=by
 refine ⟨(Nr.lO _ d rfl h.f.1 h.n h.h).symm,?_⟩
 rcases Nr.gJ d with e | ⟨a,c,e⟩
 ·exact (h.n e).elim
 ·have h2:=h.f.2.resolve_left h.n
  subst e
  rw [Nr.iP,aE]
  intro e
  exact h2 (by rw [e];simp)
theorem Ej {p:Nat} (hp:0<p) (ht:p≤top):some_ p (gN p) (fq p) (dx p) ((fi p).length:Int)=some (fi p,dx p):=by
 obtain ⟨hc,hn⟩:=Bo hp
 have hQ:=qe (iF p) ((fi p).length - dx p)
 have h:=hn (fi p).length (by omega)
 rw [show ((fi p).length - ((fi p).length:Int)).toNat=0 by omega,Nat.pow_zero,Nat.mul_one,Nat.mul_one] at h
 have hdiv:tA (gN p) ((fi p).length - dx p) / tB (fq p) ((fi p).length - dx p)=Nr.num (fi p):=by rw [h,Nat.mul_div_cancel _ hQ]
 have L8:tA (gN p) ((fi p).length - dx p) % tB (fq p) ((fi p).length - dx p)=0:=by rw [h,Nat.mul_mod_left]
 have hr:rd (Nr.num (fi p)) (dx p - (fi p).length)=some p:=Ny (P:=tA (gN p) ((fi p).length - dx p)) (Q:=tB (fq p) ((fi p).length - dx p)) (by unfold tA;rw [show (-(dx p - ((fi p).length:Int)))=(fi p).length - dx p by omega]) (by unfold tB;rw [show (-(((fi p).length:Int) - dx p))=dx p - (fi p).length by omega]) h ht
 unfold some_
 simp only
 rw [hdiv,L8,iQ hr,aG ⟨rfl,.inr (.inl (by omega))⟩,(xT hc).1,(xT hc).2,show ((fi p).length:Int)+(dx p - (fi p).length)=dx p by omega]
end Sh
end Go.Eng
namespace Go.Eng
namespace Sh
open Nr (V iI sh top gq rd nC fK)
theorem go_hit {p f i:Nat} {r:bO × Int} (h:some_ p (gN p) (fq p) (dx p) i=some r):go p (f+1) i=r:=by rw [go_succ,h];rfl
theorem go_miss {p f i:Nat} (h:some_ p (gN p) (fq p) (dx p) i=none):go p (f+1) i=go p f (i+1):=by rw [go_succ,h];rfl
theorem go_some {p:Nat} {r:bO × Int} {n:Nat} (h4:some_ p (gN p) (fq p) (dx p) n=some r):∀(m i f:Nat),i+m=n→m<f→(∀j:Nat,i≤j→j<n→some_ p (gN p) (fq p) (dx p) j=none)→go p f i=r:=by
 intro m
 induction m with
 | zero =>
  intro i f h1 h2 h3
  have h1:i=n:=h1
  obtain ⟨f,rfl⟩:∃g,f=g+1:=⟨f - 1,by omega⟩
  rw [h1];exact go_hit h4
 | succ m ih =>
  intro i f h1 h2 h3
  obtain ⟨f,rfl⟩:∃g,f=g+1:=⟨f - 1,by omega⟩
  rw [go_miss (h3 i (Nat.le_refl _) (by omega))]
  exact ih (i+1) f (by omega) (by omega) (fun j a b=>h3 j (by omega) b)
theorem first {p:Nat} (hp:0<p) (ht:p≤top):∃n:Nat,1≤n∧n≤17∧(∀j:Nat,1≤j→j<n→some_ p (gN p) (fq p) (dx p) j=none)∧some_ p (gN p) (fq p) (dx p) n=some (digits p):=by
 have Ki:=KM hp ht
 have key:∀m i:Nat,i+m=17→1≤i→(∀j:Nat,1≤j→j<i→some_ p (gN p) (fq p) (dx p) j=none)→∃n:Nat,1≤n∧n≤17∧(∀j:Nat,1≤j→j<n→some_ p (gN p) (fq p) (dx p) j=none)∧(some_ p (gN p) (fq p) (dx p) n).isSome=true:=by
  intro m
  induction m with
  | zero =>
   intro i hi h1 hn
   have hi:i=17:=hi
   exact ⟨17,by omega,by omega,by rw [←hi];exact hn,Ki⟩
  | succ m ih =>
   intro i hi h1 hn
   cases hs:some_ p (gN p) (fq p) (dx p) i with
   | some r=>exact ⟨i,h1,by omega,hn,by rw [hs];rfl⟩
   | none =>
    refine ih (i+1) (by omega) (by omega) fun j a b=>?_
    by_cases c:j=i
    ·rw [c];exact hs
    ·exact hn j a (by omega)
 obtain ⟨n,n1,n2,n3,n4⟩:=key 16 1 rfl (by omega) (fun j a b=>by omega)
 obtain ⟨r,hr⟩:=Option.isSome_iff_exists.1 n4
 refine ⟨n,n1,n2,n3,?_⟩
 have hg:digits p=r:=go_some hr (n - 1) 1 17 (by omega) (by omega) n3
 rw [hr,hg]
theorem sj {a b:Nat} (h:10 ^ a<10 ^ b):a<b:=by
 rcases Nat.lt_or_ge a b with c | c
 ·exact c
 ·have:=Nr.jK c;omega
theorem HT {p:Nat} (hp:0<p) {D:bO} (hD:Nr.nX D) {kd:Int} (h:rd (Nr.num D) kd=some p):(some_ p (gN p) (fq p) (dx p) (D.length:Int)).isSome=true:=by
 have SG:=List.length_pos_iff.2 hD.n
 have ht:=((xb hp).1 h).1
 have lo:=Nr.qi hD.f.1 hD.n hD.h
 have hi:=Nr.nx D hD.f.1
 obtain ⟨r1,r2⟩:=qz hp (n:=D.length) (by omega)
 have hQ:=qe (iF p) (D.length - dx p)
 have hx:=uO ht
 have hb:=iF p
 generalize hM:Nr.num D=M at *
 generalize hL:D.length=n at *
 have eA:tA (gN p) ((n:Int) - dx p)=gN p * 10 ^ ((n:Int) - dx p).toNat:=rfl
 have eB:tB (fq p) ((n:Int) - dx p)=fq p * 10 ^ (dx p - n).toNat:=by unfold tB;rw [show -((n:Int) - dx p)=dx p - n by omega]
 rw [show ((n:Int) - 1).toNat=n - 1 by omega] at r1
 rw [au] at r2
 have nk : -(dx p - (n:Int))=n - dx p:=by omega
 refine sP ?_
 generalize hP:tA (gN p) ((n:Int) - dx p)=P at *
 generalize Zj:tB (fq p) ((n:Int) - dx p)=Q at *
 generalize hk:dx p - (n:Int)=k at *
 rw [←nk] at eA
 have Dq:=Nat.div_add_mod P Q
 have hr:=Nat.mod_lt P hQ
 have N1:10 ^ (n - 1)≤P / Q:=(Nat.le_div_iff_mul_le hQ).2 r1
 have N2:P / Q<10 ^ n:=(Nat.div_lt_iff_lt_mul hQ).2 r2
 have hw:=h
 unfold rd at hw ⊢
 have pk:=Nr.dG (-k).toNat
 have pd:=Nr.dG (-kd).toNat
 have YQ:=Nr.dG k.toNat
 have YR:=Nr.dG kd.toNat
 by_cases c:M * 10 ^ kd.toNat * fq p≤gN p * 10 ^ (-kd).toNat
 ·left
  have Sa:kd≤k:=by
   have s1:M * 10 ^ kd.toNat * fq p * 10 ^ (-k).toNat≤P * 10 ^ (-kd).toNat:=by
    rw [eA,Nat.mul_right_comm (gN p)];exact ar _ c
   have s2:P * 10 ^ (-kd).toNat<10 ^ n * Q * 10 ^ (-kd).toNat:=Nat.mul_lt_mul_of_pos_right r2 pd
   have s3:10 ^ (n - 1) * 10 ^ kd.toNat * fq p * 10 ^ (-k).toNat≤M * 10 ^ kd.toNat * fq p * 10 ^ (-k).toNat:=ar _ (ar _ (ar _ lo))
   have s4:10 ^ (n - 1+kd.toNat+(-k).toNat) * fq p<10 ^ (n+k.toNat+(-kd).toNat) * fq p:=by
    rw [Nat.pow_add,Nat.pow_add,Nat.pow_add,Nat.pow_add]
    rw [eB] at s2
    have e1:10 ^ (n - 1) * 10 ^ kd.toNat * 10 ^ (-k).toNat * fq p=10 ^ (n - 1) * 10 ^ kd.toNat * fq p * 10 ^ (-k).toNat:=Nat.mul_right_comm ..
    have e2:10 ^ n * 10 ^ k.toNat * 10 ^ (-kd).toNat * fq p=10 ^ n * (fq p * 10 ^ k.toNat) * 10 ^ (-kd).toNat:=by
     simp only [Nat.mul_assoc,Nat.mul_comm,Nat.mul_left_comm]
    rw [e1,e2]
    exact Nat.lt_of_le_of_lt s3 (Nat.lt_of_le_of_lt s1 s2)
   have:=sj (Nat.lt_of_mul_lt_mul_right s4)
   omega
  refine qP pd hb pk hw hx ?_ ?_
  ·rcases Int.lt_or_eq_of_le Sa with d | d
   ·have g1:M * 10 ^ kd.toNat * 10 ^ (-k).toNat≤10 ^ n * 10 ^ kd.toNat * 10 ^ (-k).toNat:=ar _ (ar _ (Nat.le_of_lt hi))
    have g2:10 ^ (n - 1) * 10 ^ k.toNat * 10 ^ (-kd).toNat≤P / Q * 10 ^ k.toNat * 10 ^ (-kd).toNat:=ar _ (ar _ N1)
    refine Nat.le_trans g1 (Nat.le_trans ?_ g2)
    rw [←Nat.pow_add,←Nat.pow_add,←Nat.pow_add,←Nat.pow_add]
    exact Nr.jK (by omega)
   ·subst d
    refine ar _ (ar _ ?_)
    rw [Nat.le_div_iff_mul_le hQ,eA,eB,←Nat.mul_assoc,Nat.mul_right_comm];exact c
  ·rw [←eA,Nat.mul_assoc,Nat.mul_comm (10 ^ k.toNat),←eB,Nat.mul_comm]
   omega
 ·right
  have c:=Nat.lt_of_not_le c
  have Sa:k≤kd:=by
   have s1:P * 10 ^ (-kd).toNat<M * 10 ^ kd.toNat * fq p * 10 ^ (-k).toNat:=by
    rw [eA,Nat.mul_right_comm (gN p)];exact Nat.mul_lt_mul_of_pos_right c pk
   have s2:10 ^ (n - 1) * Q * 10 ^ (-kd).toNat≤P * 10 ^ (-kd).toNat:=ar _ r1
   have s3:M * 10 ^ kd.toNat * fq p * 10 ^ (-k).toNat≤10 ^ n * 10 ^ kd.toNat * fq p * 10 ^ (-k).toNat:=ar _ (ar _ (ar _ (Nat.le_of_lt hi)))
   have s4:10 ^ (n - 1+k.toNat+(-kd).toNat) * fq p<10 ^ (n+kd.toNat+(-k).toNat) * fq p:=by
    rw [Nat.pow_add,Nat.pow_add,Nat.pow_add,Nat.pow_add]
    rw [eB] at s2
    have e1:10 ^ n * 10 ^ kd.toNat * 10 ^ (-k).toNat * fq p=10 ^ n * 10 ^ kd.toNat * fq p * 10 ^ (-k).toNat:=Nat.mul_right_comm ..
    have e2:10 ^ (n - 1) * 10 ^ k.toNat * 10 ^ (-kd).toNat * fq p=10 ^ (n - 1) * (fq p * 10 ^ k.toNat) * 10 ^ (-kd).toNat:=by
     simp only [Nat.mul_assoc,Nat.mul_comm,Nat.mul_left_comm]
    rw [e1,e2]
    exact Nat.lt_of_le_of_lt s2 (Nat.lt_of_lt_of_le s1 s3)
   have:=sj (Nat.lt_of_mul_lt_mul_right s4)
   omega
  refine qP hb pd pk hx hw ?_ ?_
  ·rw [←eA,Nat.mul_assoc,Nat.mul_comm (10 ^ k.toNat),←eB,Nat.add_mul,Nat.one_mul,Nat.mul_comm (P / Q)]
   omega
  ·rcases Int.lt_or_eq_of_le Sa with d | d
   ·have g1:(P / Q+1) * 10 ^ k.toNat * 10 ^ (-kd).toNat≤10 ^ n * 10 ^ k.toNat * 10 ^ (-kd).toNat:=ar _ (ar _ N2)
    have g2:10 ^ (n - 1) * 10 ^ kd.toNat * 10 ^ (-k).toNat≤M * 10 ^ kd.toNat * 10 ^ (-k).toNat:=ar _ (ar _ lo)
    refine Nat.le_trans g1 (Nat.le_trans ?_ g2)
    rw [←Nat.pow_add,←Nat.pow_add,←Nat.pow_add,←Nat.pow_add]
    exact Nr.jK (by omega)
   ·subst d
    refine ar _ (ar _ ?_)
    refine (Nat.div_lt_iff_lt_mul hQ).2 ?_
    rw [eA,eB,←Nat.mul_assoc,Nat.mul_right_comm];exact c
theorem AJ {M:Nat} (h:0<M):Nr.cW (Nr.dec (10 * M))=Nr.cW (Nr.dec M):=by
 rw [Nr.pK (show ¬10 * M<10 by omega),Nr.iP,show 10 * M % 10=0 by omega,aG (by rfl),show 10 * M / 10=M by omega]
theorem uA:∀n:Nat,Nr.cW (Nr.dec (10 ^ n))=[49]
 | 0=>by decide +kernel
 | n+1=>by rw [Nat.pow_succ,Nat.mul_comm,AJ (Nr.dG n),uA n]
theorem CP (d:bO):(Nr.cW d).length≤d.length:=by
 obtain ⟨t,h,_⟩:=Nr.ib d
 have:=congrArg List.length h
 rw [ao] at this;omega
theorem Ad {N n:Nat} (hn:1≤n) (h:N≤10 ^ n):(Nr.cW (Nr.dec N)).length≤n:=by
 rcases Nat.lt_or_eq_of_le h with c | c
 ·exact Nat.le_trans (CP _) (Nr.mj n N c hn)
 ·rw [c,uA];exact hn
theorem vY {N:Nat} {k:Int} (h:0<N) (hl:(Nr.dec N).length≤300):Nr.read (Nr.cW (Nr.dec N)) ((Nr.dec N).length+k)=rd N k:=by
 obtain ⟨d1,d2,d3,d4⟩:=Nr.pf N
 obtain ⟨t,t1,t2⟩:=Nr.ib (Nr.dec N)
 have hn:=congrArg Nr.num t1
 rw [Nr.fw,Nr.iX,List.length_replicate,Nat.add_zero,d2] at hn
 have hL:=congrArg List.length t1
 rw [ao,List.length_replicate] at hL
 have ne:Nr.cW (Nr.dec N)≠[]:=by
  intro e0;rw [e0,show Nr.num []=0 from rfl,Nat.zero_mul] at hn;omega
 have:=List.length_pos_iff.2 ne
 unfold Nr.read Nr.valid
 rw [(Nr.eI d1 t1).1,ae (show 1≤(Nr.cW (Nr.dec N)).length∧(Nr.cW (Nr.dec N)).length≤300 by omega),aG (by rfl)]
 have e:rd N k=rd (Nr.num (Nr.cW (Nr.dec N)) * 10 ^ t) k:=by rw [←hn]
 rw [e,Nr.ot,show ((Nr.dec N).length:Int)+k - (Nr.cW (Nr.dec N)).length=k+t by omega]
theorem CN {p a b:Nat} {x n:Int} {r:bO × Int} (h:some_ p a b x n=some r):∃N,(N=tA a (n - x) / tB b (n - x)∨N=tA a (n - x) / tB b (n - x)+1)∧rd N (x - n)=some p∧r=(Nr.cW (Nr.dec N),(Nr.dec N).length+(x - n)):=by
 unfold some_ at h
 simp only at h
 have key:∀N,reads p N (x - n)=some r→rd N (x - n)=some p∧r=(Nr.cW (Nr.dec N),(Nr.dec N).length+(x - n)):=fun N hN=>by
  unfold reads at hN
  split at hN
  ·rename_i c;cases hN;exact ⟨c,rfl⟩
  ·cases hN
 split at h
 ·exact ⟨_,.inl rfl,key _ h⟩
 ·exact ⟨_,.inr rfl,key _ h⟩
theorem sE {p:Nat} (hp:0<p) (ht:p≤top):∃n N:Nat,1≤n∧n≤17∧0<N∧N≤10 ^ n∧rd N (dx p - n)=some p∧digits p=(Nr.cW (Nr.dec N),(Nr.dec N).length+(dx p - n)) ∧
  (∀j:Nat,1≤j→j<n→some_ p (gN p) (fq p) (dx p) j=none):=by
 obtain ⟨n,n1,n2,n3,n4⟩:=first hp ht
 obtain ⟨N,N1,N2,N3⟩:=CN n4
 obtain ⟨r1,r2⟩:=qz hp (n:=n) (by omega)
 have hQ:=qe (iF p) (n - dx p)
 rw [au] at r2
 have lo:=(Nat.le_div_iff_mul_le hQ).2 r1
 have hi:=(Nat.div_lt_iff_lt_mul hQ).2 r2
 have:=Nr.dG ((n:Int) - 1).toNat
 refine ⟨n,N,n1,n2,?_,?_,N2,N3,n3⟩ <;> rcases N1 with h | h <;> omega
theorem least {p:Nat} (hp:0<p) {D:bO} (hD:Nr.nX D) {kd:Int} (h:rd (Nr.num D) kd=some p):(digits p).1.length≤D.length:=by
 have ht:=((xb hp).1 h).1
 have hs:=HT hp hD h
 obtain ⟨n,N,n1,n2,n3,n4,n5,n6,n7⟩:=sE hp ht
 have hn:n≤D.length:=by
  rcases Nat.lt_or_ge D.length n with c | c
  ·rw [n7 D.length (List.length_pos_iff.2 hD.n) c] at hs;cases hs
  ·exact c
 rw [n6]
 exact Nat.le_trans (Ad n1 n4) hn
theorem z6 {p:Nat} (hp:0<p) (ht:p≤top):Nr.read (digits p).1 (digits p).2=some p:=by
 obtain ⟨n,N,n1,n2,n3,n4,n5,n6,n7⟩:=sE hp ht
 rw [n6,vY n3 ?_,n5]
 refine Nat.le_trans (Nr.mj (n+1) N ?_ (by omega)) (by omega)
 exact Nat.lt_of_le_of_lt n4 (Nat.pow_lt_pow_right (by omega) (by omega))
end Sh
end Go.Eng
namespace Go.Eng
namespace Sh
open Nr (V iI sh top gq rd nC fK)
def oz (p:Nat):Int:=(sh (p - 1):Int) - 1075
theorem Jm {p:Nat} (hp:0<p) (ht:p≤top) {a:bO} (ha:Nr.nX a) (x:Int) :
  wi p (Nr.gf a x (Nr.vI (2 * iI (p - 1)+1) (oz p)) (Nr.xJ (2 * iI (p - 1)+1) (oz p))) (Nr.gf a x (Nr.vI (2 * iI p+1) ((sh p:Int) - 1075)) (Nr.xJ (2 * iI p+1) ((sh p:Int) - 1075)))=true ↔ rd (Nr.num a) (x - a.length)=some p:=by
 have h1:=(Nr.GR (m:=2 * iI p+1) (e:=(sh p:Int) - 1075) (by omega) (by omega) ha x).2
 have h2:=(Nr.GR (m:=2 * iI (p - 1)+1) (e:=oz p) (by omega) (by unfold oz;omega) ha x).2
 rw [show ((sh p:Int) - 1075+1075).toNat=sh p by omega] at h1
 rw [show (oz p+1075).toNat=sh (p - 1) by unfold oz;omega] at h2
 rw [h1,h2,xb hp]
 have e:Nr.nA a x * Nr.fW=2 * (Nr.num a * 10 ^ (x - a.length).toNat * 2 ^ 1074):=Nr.mul_two Nr.iL
 have m1:(2 * iI p+1) * 2 ^ sh p=nC p:=rfl
 have m2:(2 * iI (p - 1)+1) * 2 ^ sh (p - 1)=nC (p - 1):=rfl
 have nb:Nr.nB a x=10 ^ (-(x - a.length)).toNat:=rfl
 rw [m1,m2,e,nb]
 generalize 2 * (Nr.num a * 10 ^ (x - a.length).toNat * 2 ^ 1074)=X
 generalize nC p * 10 ^ (-(x - a.length)).toNat=Y
 generalize nC (p - 1) * 10 ^ (-(x - a.length)).toNat=Z
 have c1:=lB X Y
 have c2:=lB X Z
 unfold wi
 by_cases ev:p % 2=0
 ·rw [aG ev,aa,az,az]
  omega
 ·rw [aE ev,aa,az,az]
  omega
structure tD (d:bO):Prop where
 dg:d.all Nr.eE=true
 n:d≠[]
 h:d.getD 0 0≠48
theorem tD.dec {d:bO} (h:tD d):Nr.dec (Nr.num d)=d:=(Nr.lO _ d rfl h.dg h.n h.h).symm
theorem tD.eP {c:bO} (h:tD c) (j:Nat):tD (c++List.replicate j 48):=by
 refine ⟨?_,by simp [h.n],?_⟩
 ·rw [List.all_append,h.dg,Bool.true_and]
  rw [aL];intro x hx;rw [List.eq_of_mem_replicate hx];rfl
 ·rw [ak,List.getElem?_append_left (List.length_pos_iff.2 h.n),←ak]
  exact h.h
theorem qh (c:bO) (j:Nat):Nr.num (c++List.replicate j 48)=Nr.num c * 10 ^ j:=by
 rw [Nr.fw,Nr.iX,List.length_replicate,Nat.add_zero]
theorem qD (c:bO):∀j:Nat,Nr.cW (c++List.replicate j 48)=Nr.cW c
 | 0=>by rw [List.replicate_zero,aR]
 | j+1=>by rw [List.replicate_succ',←aN,Nr.iP,aG rfl,qD c j]
theorem wF {c:bO} (h:Nr.nX c):tD c:=⟨h.f.1,h.n,h.h⟩
theorem BA {c:bO} (h:Nr.nX c) (j:Nat):Nr.cW (Nr.dec (Nr.num c * 10 ^ j))=c∧(Nr.dec (Nr.num c * 10 ^ j)).length=c.length+j:=by
 rw [←qh,((wF h).eP j).dec,qD,(xT h).2]
 exact ⟨rfl,by rw [ao,List.length_replicate]⟩
theorem yV (d:bO):∃j,d=(d.reverse.dropWhile (· == 57)).reverse++List.replicate j 57∧((d.reverse.dropWhile (· == 57)).reverse=[]∨((d.reverse.dropWhile (· == 57)).reverse).getLast?.getD 0≠57):=by
 obtain ⟨a,h1,h2,h3⟩:=Nr.iu (fun b=>b == 57) d.reverse
 have ha:a=List.replicate a.length 57:=by
  refine List.eq_replicate_iff.2 ⟨rfl,fun x hx=>?_⟩
  have:=aL.1 h2 x hx
  simpa using this
 have e:=congrArg List.reverse h1
 rw [List.reverse_reverse,List.reverse_append] at e
 refine ⟨a.length,?_,?_⟩
 ·have:a.reverse=List.replicate a.length 57:=by rw [ha,List.reverse_replicate,List.length_replicate]
  rw [←this];exact e
 ·rcases h3 with h | h
  ·left;rw [h];rfl
  ·right
   generalize d.reverse.dropWhile (· == 57)=l at *
   cases l with
   | nil=>simp
   | cons c r =>
    have:(c == 57)=false:=h
    simpa using this
theorem r9:∀j:Nat,Nr.num (List.replicate j 57)+1=10 ^ j
 | 0=>rfl
 | j+1=>by
  have:=r9 j
  rw [List.replicate_succ',Nr.jO,Nat.pow_succ,show (57:UInt8).toNat=57 by rfl]
  omega
theorem Il {d:bO} (hd:tD d) (x:Int):∃j:Nat,Nr.nX (more d x).1∧Nr.num (more d x).1 * 10 ^ j=Nr.num d+1∧(more d x).2=x - d.length+((more d x).1.length+j:Nat):=by
 obtain ⟨j,h1,h2⟩:=yV d
 unfold more
 simp only
 generalize (d.reverse.dropWhile (· == 57)).reverse=s at *
 have hl:=congrArg List.length h1
 rw [ao,List.length_replicate] at hl
 by_cases c:s=[]
 ·rw [aG c]
  subst c
  rw [bg] at h1
  refine ⟨j,(⟨⟨by decide,.inr (by decide)⟩,by decide,by decide⟩:Nr.nX [49]),?_,?_⟩
  ·show Nr.num [49] * 10 ^ j=_
   have:=r9 j
   rw [h1,show Nr.num [49]=1 by decide];omega
  ·show x+1=_
   rw [ay]
   have hl:d.length=j:=by simpa using hl
   omega
 ·rw [aE c]
  rcases Nr.gJ s with e | ⟨a,ch,e⟩
  ·exact (c e).elim
  ·have h2:=h2.resolve_left c
   subst e
   rw [List.dropLast_concat,List.getLast?_concat]
   rw [List.getLast?_concat] at h2
   have h2:ch≠57:=h2
   obtain ⟨d1,d2⟩:=Nr.eI hd.dg h1
   obtain ⟨d3,d4⟩:=Nr.eI d1 rfl
   rw [List.all_cons,aa] at d4
   have Zc:=Nr.gr.1 d4.1
   have Zm:ch.toNat≠57:=fun e=>h2 (UInt8.toNat_inj.1 e)
   have hs:(ch+1).toNat=ch.toNat+1:=by rw [UInt8.toNat_add];show (ch.toNat+1) % 256=_;omega
   have fO:ch+1≠48:=fun e=>by
    have:=congrArg UInt8.toNat e
    rw [hs] at this
    have Zn:(48:UInt8).toNat=48:=rfl
    omega
   rw [show ((some ch).getD 0:UInt8)=ch from rfl]
   refine ⟨j,⟨⟨?_,.inr ?_⟩,by simp,?_⟩,?_,?_⟩
   ·rw [List.all_append,d3,List.all_cons,Nr.gr.2 (by omega)];rfl
   ·rw [List.getLast?_concat]
    intro e;injection e with e;exact fO e
   ·show List.getD (a++[ch+1]) 0 0≠48
    cases a with
    | nil=>exact fO
    | cons q r =>
     have:=hd.h
     rw [h1] at this
     exact this
   ·show Nr.num (a++[ch+1]) * 10 ^ j=_
    have hn:=congrArg Nr.num h1
    rw [Nr.fw,List.length_replicate,Nr.jO] at hn
    have h9:=r9 j
    rw [Nr.jO,hs,hn]
    have:10 * Nr.num a+(ch.toNat+1 - 48)=10 * Nr.num a+(ch.toNat - 48)+1:=by omega
    rw [this,Nat.add_mul,Nat.one_mul]
    omega
   ·show x=_
    rw [ao,ay] at hl
    show x=x - (d.length:Int)+((a++[ch+1]).length+j:Nat)
    rw [ao,ay]
    omega
noncomputable def yG (p n:Nat):Option (bO × Int) :=
 let T:=(fi p).take n
 let f:=wi p (Nr.gf (Nr.cW T) (dx p) (Nr.vI (2 * iI (p - 1)+1) (oz p)) (Nr.xJ (2 * iI (p - 1)+1) (oz p))) (Nr.gf (Nr.cW T) (dx p) (Nr.vI (2 * iI p+1) ((sh p:Int) - 1075)) (Nr.xJ (2 * iI p+1) ((sh p:Int) - 1075)))
 let g:=wi p (Nr.gf (more T (dx p)).1 (more T (dx p)).2 (Nr.vI (2 * iI (p - 1)+1) (oz p)) (Nr.xJ (2 * iI (p - 1)+1) (oz p))) (Nr.gf (more T (dx p)).1 (more T (dx p)).2 (Nr.vI (2 * iI p+1) ((sh p:Int) - 1075)) (Nr.xJ (2 * iI p+1) ((sh p:Int) - 1075)))
 let gq:=Op.bytesLess ((fi p).drop n) [53] || (decide ((fi p).drop n=[53])&&decide ((T.getD (n - 1) 0).toNat % 2=0))
 if f&&g then (if gq then some (Nr.cW T,dx p) else some (more T (dx p))) else if f then some (Nr.cW T,dx p) else if g then some (more T (dx p)) else none
theorem sf {d:bO} (h:tD d) {n:Nat} (h1:1≤n) (h2:n≤d.length):tD (d.take n):=by
 refine ⟨(Nr.eI h.dg (List.take_append_drop n d).symm).1,?_,?_⟩
 ·intro e
  have:=congrArg List.length e
  rw [aJ,aZ] at this;omega
 ·rw [ak,List.getElem?_take_of_lt (by omega),←ak];exact h.h
theorem Fz {d:bO} (h:tD d):0<Nr.num d:=Nat.lt_of_lt_of_le (Nr.dG _) (Nr.qi h.dg h.n h.h)
theorem Fc {T:bO} (hd:T.all Nr.eE=true) (hn:T≠[]):Nr.num T % 2=(T.getD (T.length - 1) 0).toNat % 2:=by
 rcases Nr.gJ T with e | ⟨a,c,e⟩
 ·exact (hn e).elim
 ·subst e
  have hc:=Nr.gr.1 (aL.1 hd c (by simp))
  rw [Nr.jO,ao,ay,Nat.add_sub_cancel,iA]
  omega
theorem step_eq {p:Nat} (hp:0<p) (ht:p≤top) {n:Nat} (h1:1≤n) (h2:n<(fi p).length):some_ p (gN p) (fq p) (dx p) n=yG p n:=by
 obtain ⟨hc,hn⟩:=Bo hp
 have h:=hn n (by omega)
 have hQ:=qe (iF p) ((n:Int) - dx p)
 rw [show ((n:Int) - ((fi p).length:Int)).toNat=0 by omega,Nat.pow_zero,Nat.mul_one,show (((fi p).length:Int) - n).toNat=(fi p).length - n by omega] at h
 obtain ⟨f1,f2,f3⟩:=Tq hQ (Nr.dG _) h
 have hT:=sf (wF hc) h1 (Nat.le_of_lt h2)
 have IX:((fi p).take n).length=n:=by rw [aJ];omega
 have Kf:((fi p).drop n).length=(fi p).length - n:=bj ..
 have Pk:=Nr.fw ((fi p).take n) ((fi p).drop n)
 rw [List.take_append_drop,Kf] at Pk
 have QS:=(Nr.eI hc.f.1 (List.take_append_drop n (fi p)).symm).2
 have hb:=Nr.nx _ QS
 rw [Kf] at hb
 have hdiv:Nr.num (fi p) / 10 ^ ((fi p).length - n)=Nr.num ((fi p).take n):=by
  rw [Pk,Nat.mul_comm,Nat.mul_add_div (Nr.dG _),Nat.div_eq_of_lt hb,Nat.add_zero]
 have L8:Nr.num (fi p) % 10 ^ ((fi p).length - n)=Nr.num ((fi p).drop n):=by
  rw [Pk,Nat.mul_comm,Nat.mul_add_mod,Nat.mod_eq_of_lt hb]
 rw [L8] at f2 f3
 rw [hdiv] at f1
 -- what is below
 obtain ⟨t,t1,t2⟩:=Nr.ib ((fi p).take n)
 have t3:=congrArg Nr.num t1
 rw [qh] at t3
 have t4:=congrArg List.length t1
 rw [ao,List.length_replicate,IX] at t4
 have US:Nr.cW ((fi p).take n)≠[]:=by
  intro e
  have:=Fz hT
  rw [t3,e,show Nr.num []=0 from rfl,Nat.zero_mul] at this;omega
 have WZ:Nr.nX (Nr.cW ((fi p).take n)):=by
  refine ⟨⟨(Nr.eI hT.dg t1).1,t2⟩,US,?_⟩
  have:=hT.h
  rw [t1,ak,List.getElem?_append_left (List.length_pos_iff.2 US),←ak] at this
  exact this
 have ra:rd (Nr.num ((fi p).take n)) (dx p - n)=rd (Nr.num (Nr.cW ((fi p).take n))) (dx p - (Nr.cW ((fi p).take n)).length):=by
  rw [t3,Nr.ot,show dx p - (n:Int)+t=dx p - (Nr.cW ((fi p).take n)).length by omega]
 -- what is Hm
 obtain ⟨j,m1,m2,m3⟩:=Il hT (dx p)
 rw [IX] at m3
 have rc:rd (Nr.num ((fi p).take n)+1) (dx p - n)=rd (Nr.num (more ((fi p).take n) (dx p)).1) ((more ((fi p).take n) (dx p)).2 - (more ((fi p).take n) (dx p)).1.length):=by
  rw [←m2,Nr.ot,show dx p - (n:Int)+j=(more ((fi p).take n) (dx p)).2 - (more ((fi p).take n) (dx p)).1.length by omega]
 have wa:=Jm hp ht WZ (dx p)
 have wc:=Jm hp ht m1 (more ((fi p).take n) (dx p)).2
 rw [←ra] at wa
 rw [←rc] at wc
 have ua:rd (Nr.num ((fi p).take n)) (dx p - n)=some p→reads p (Nr.num ((fi p).take n)) (dx p - n)=some (Nr.cW ((fi p).take n),dx p):=fun k=>by
  rw [iQ k,hT.dec,IX,show (n:Int)+(dx p - n)=dx p by omega]
 have uc:rd (Nr.num ((fi p).take n)+1) (dx p - n)=some p→reads p (Nr.num ((fi p).take n)+1) (dx p - n)=some (more ((fi p).take n) (dx p)):=fun k=>by
  obtain ⟨c1,c2⟩:=BA m1 j
  rw [iQ k,←m2,c1,c2,show (((more ((fi p).take n) (dx p)).1.length+j:Nat):Int)+(dx p - n)=(more ((fi p).take n) (dx p)).2 by omega]
 -- which VU Rn
 have W1:Nr.Ao ((fi p).drop n):=by
  refine ⟨QS,.inr ?_⟩
  have:=hc.f.2.resolve_left hc.n
  rw [List.getLast?_drop,aE (by omega)];exact this
 obtain ⟨l1,l2⟩:=Nr.A5 ((fi p).drop n) [53] 0 ((fi p).length - n - 1) W1 ⟨by decide,.inr (by decide)⟩ (by rw [Kf,ay];omega)
 rw [Nat.pow_zero,Nat.mul_one,show Nr.num [53]=5 by decide] at l1 l2
 have hw:10 ^ ((fi p).length - n)=2 * (5 * 10 ^ ((fi p).length - n - 1)):=by
  rw [show (fi p).length - n=((fi p).length - n - 1)+1 by omega,Nat.pow_succ,Nat.add_sub_cancel];omega
 rw [hw] at f2 f3
 have mD:=Fc hT.dg hT.n
 rw [IX] at mD
 have J5:(2 * (tA (gN p) ((n:Int) - dx p) % tB (fq p) ((n:Int) - dx p))<tB (fq p) ((n:Int) - dx p)∨(2 * (tA (gN p) ((n:Int) - dx p) % tB (fq p) ((n:Int) - dx p))=tB (fq p) ((n:Int) - dx p)∧Nr.num ((fi p).take n) % 2=0)) ↔ (Op.bytesLess ((fi p).drop n) [53] || (decide ((fi p).drop n=[53])&&decide ((((fi p).take n).getD (n - 1) 0).toNat % 2=0)))=true:=by
  rw [Bool.or_eq_true,aa,az,az,f2,f3,l1,l2,mD]
  omega
 unfold some_ yG
 simp only
 rw [f1]
 generalize wi p (Nr.gf (Nr.cW ((fi p).take n)) (dx p) _ _) _=f at *
 generalize wi p (Nr.gf (more ((fi p).take n) (dx p)).1 (more ((fi p).take n) (dx p)).2 _ _) _=g at *
 generalize (Op.bytesLess ((fi p).drop n) [53] || (decide ((fi p).drop n=[53])&&decide ((((fi p).take n).getD (n - 1) 0).toNat % 2=0)))=nr at *
 cases f with
 | false =>
  have na:¬rd (Nr.num ((fi p).take n)) (dx p - n)=some p:=fun k=>by have:=wa.2 k;cases this
  rw [ki na,aE (by simp),Bool.false_and,aE (by simp),aE (by simp)]
  cases g with
  | false=>rw [ki (fun k=>by have:=wc.2 k;cases this),aE (by simp)]
  | true=>rw [uc (wc.1 rfl),aG rfl]
 | true =>
  rw [ua (wa.1 rfl),Bool.true_and]
  cases g with
  | false =>
   rw [ki (fun k=>by have:=wc.2 k;cases this),aG ⟨rfl,.inl rfl⟩,aE (by simp),aG rfl]
  | true =>
   rw [uc (wc.1 rfl),aG (show true=true from rfl)]
   by_cases k:nr=true
   ·rw [aG ⟨rfl,.inr (J5.2 k)⟩,aG k]
   ·rw [aE ?_,aE k]
    rintro ⟨_,h | h⟩
    ·simp at h
    ·exact k (J5.1 h)
end Sh
end Go.Eng
namespace Go.Eng
open Go.IntWalk
namespace Nr
structure Shape (t a b fr ex e:bO):Prop where
 eq:t=a++fr++ex
 a0:a≠[]
 ad:a.all eE=true
 fr:(fr=[]∧b=[])∨(fr=46 :: b∧b≠[])
 bd:b.all eE=true
 ex:(ex=[]∧e=[])∨(∃c,JW c=true∧ex=c :: e∧signed e≠[])
 ed:(signed e).all eE=true
theorem xO {c:UInt8} (h:eE c=true):JW c=false∧c≠46∧c.toNat<128∧([101,69]:bO).contains c=false:=by
 have h1:=gr.1 h
 have fO:∀d:UInt8,d.toNat<48∨57<d.toNat→c≠d:=fun d hd e=>by subst e;omega
 have n1:=fO 101 (by decide)
 have n2:=fO 69 (by decide)
 have n3:=fO 46 (by decide)
 refine ⟨af (by simp [n1,n2]),n3,by omega,by simp [n1,n2]⟩
theorem pT {p:UInt8→Bool} {a b:bO} (ha:a.all p=true) (hb:b=[]∨p (b.getD 0 0)=false):(a++b).takeWhile p=a∧(a++b).dropWhile p=b:=by
 induction a with
 | nil =>
  cases b with
  | nil=>exact ⟨rfl,rfl⟩
  | cons c r =>
   have hc:p c=false:=hb.resolve_left (by simp)
   rw [bg,List.takeWhile_cons,List.dropWhile_cons,aE (by rw [hc];simp),aE (by rw [hc];simp)]
   exact ⟨rfl,rfl⟩
 | cons c r ih =>
  rw [List.all_cons,aa] at ha
  obtain ⟨i1,i2⟩:=ih ha.2
  rw [List.cons_append,List.takeWhile_cons,List.dropWhile_cons,aG ha.1,aG ha.1,i1,i2]
  exact ⟨rfl,rfl⟩
section
variable {s a b fr ex e:bO} (h:Shape (body s) a b fr ex e)
include h
theorem Shape.T1:(a++fr).all (fun c=>!JW c)=true:=by
 rw [List.all_append,aa]
 constructor
 ·exact aL.2 fun x hx=>by rw [(xO (aL.1 h.ad x hx)).1];rfl
 ·rcases h.fr with ⟨h1,_⟩ | ⟨h1,_⟩
  ·rw [h1];rfl
  ·rw [h1,List.all_cons,aa]
   exact ⟨by decide,aL.2 fun x hx=>by rw [(xO (aL.1 h.bd x hx)).1];rfl⟩
theorem Shape.parts:Im s=a++fr∧tail s=e∧ahead s=a∧behind s=b:=by
 have hx:ex=[]∨(!JW (ex.getD 0 0))=false:=by
  rcases h.ex with ⟨h1,_⟩ | ⟨c,h1,h2,_⟩
  ·exact .inl h1
  ·right;rw [h2];show (!JW c)=false;rw [h1];rfl
 obtain ⟨t1,t2⟩:=pT h.T1 hx
 rw [←h.eq] at t1 t2
 have hm:Im s=a++fr:=t1
 have ht:tail s=ex.drop 1:=by unfold tail;rw [t2]
 have hf:fr=[]∨(fr.getD 0 0 != 46)=false:=by
  rcases h.fr with ⟨h1,_⟩ | ⟨h1,_⟩
  ·exact .inl h1
  ·right;rw [h1];rfl
 have W4:a.all (· != 46)=true:=aL.2 fun x hx=>by
  have:=(xO (aL.1 h.ad x hx)).2.1
  simpa using this
 obtain ⟨u1,u2⟩:=pT W4 hf
 refine ⟨hm,?_,?_,?_⟩
 ·rw [ht]
  rcases h.ex with ⟨h1,h2⟩ | ⟨c,h1,h2,_⟩
  ·rw [h1,h2];rfl
  ·rw [h2];rfl
 ·unfold ahead;rw [hm];exact u1
 ·unfold behind;rw [hm,u2]
  rcases h.fr with ⟨h1,h2⟩ | ⟨h1,_⟩
  ·rw [h1,h2];rfl
  ·rw [h1];rfl
theorem Shape.index:Lib.indexAny (body s) [101,69]=if ex=[] then -1 else ((a++fr).length:Int):=by
 have jW:∀(j:Nat) x,j<(a++fr).length→(body s)[j]?=some x→([101,69]:bO).contains x=false:=fun j x hj hx=>by
  rw [h.eq,List.getElem?_append_left hj] at hx
  have:=aL.1 h.T1 x (aU hx)
  simp only [Bool.not_eq_true'] at this
  have h2:¬(x=101∨x=69):=of_decide_eq_false this
  simp only [not_or] at h2
  simp [h2.1,h2.2]
 rcases h.ex with ⟨h1,_⟩ | ⟨c,h1,h2,_⟩
 ·rw [aG h1]
  refine Lib.indexAny_none fun j x hj hx=>jW j x ?_ (by assumption)
  rw [h.eq,h1,aR] at *
  first | exact hj | exact hx
 ·rw [aE (by rw [h2];simp)]
  refine Lib.indexAny_hit (i:=(a++fr).length) (x:=c) (fun j x hj hx=>?_) ?_ ?_
  ·first | exact jW j x hj hx | exact jW j x hx hj
  ·rw [h.eq,h2,aK (Nat.le_refl _),Nat.sub_self];rfl
  ·have hc:c=101∨c=69:=aM h1
   rcases hc with rfl | rfl <;> rfl
end
end Nr
end Go.Eng
namespace Go.Eng
namespace Sh
open Nr (V iI sh top gq rd nC fK eE JW signed run Cf A6 body LD)
theorem vM (n:Int):(eP n).all eE=true:=by
 unfold eP
 rw [aL];intro x hx;rw [List.eq_of_mem_replicate hx];rfl
theorem vg {d:bO} (h:d.all eE=true) (n:Nat):(d.drop n).all eE=true∧(d.take n).all eE=true:=by
 have:=Nr.eI h (List.take_append_drop n d).symm
 exact ⟨this.2,this.1⟩
theorem nG {v:Int} (h:0≤v):Nr.itoa v=Nr.dec v.toNat∧(Nr.itoa v).all eE=true∧Nr.num (Nr.itoa v)=v.toNat∧Nr.itoa v≠[]:=by
 have e:Nr.itoa v=Nr.dec v.toNat:=by rw [Nr.xn,aE (by omega),show v.natAbs=v.toNat by omega]
 obtain ⟨d1,d2,d3,d4⟩:=Nr.pf v.toNat
 rw [e];exact ⟨rfl,d1,d2,d3⟩
theorem Gr {v:Int} (h:0≤v):Nr.zY (45 :: Nr.itoa v)=-v∧signed (45 :: Nr.itoa v)=Nr.itoa v:=by
 obtain ⟨_,d1,d2,d3⟩:=nG h
 have e:signed (45 :: Nr.itoa v)=Nr.itoa v:=by rw [Nr.sQ,aG (.inr rfl)]
 refine ⟨?_,e⟩
 unfold Nr.zY
 simp only
 rw [e,d2,aG (by rfl)];omega
theorem Gq {v:Int} (h:0≤v):Nr.zY (43 :: Nr.itoa v)=v∧signed (43 :: Nr.itoa v)=Nr.itoa v:=by
 obtain ⟨_,d1,d2,d3⟩:=nG h
 have e:signed (43 :: Nr.itoa v)=Nr.itoa v:=by rw [Nr.sQ,aG (.inl rfl)]
 refine ⟨?_,e⟩
 unfold Nr.zY
 simp only
 rw [e,d2,aE (by show ¬((43:UInt8)=45);decide)];omega
theorem BV {D E:bO} {x y:Int} {j:Nat} (h1:Nr.valid D=true) (h2:Nr.valid E=true) (hn:Nr.num D=Nr.num E * 10 ^ j) (hx:x - D.length+j=y - E.length):Nr.read D x=Nr.read E y:=by
 unfold Nr.read
 rw [aG h1,aG h2,hn,Nr.ot,hx]
theorem ue {D:bO} (h:D.all eE=true) (h1:1≤D.length) (h2:D.length≤300):Nr.valid D=true:=by
 unfold Nr.valid
 rw [h,ae ⟨h1,h2⟩];rfl
theorem pI {v:Int} (h:0≤v) (h2:v<1000):(Nr.itoa v).length≤3:=by
 rw [(nG h).1]
 exact Nr.mj 3 v.toNat (by show v.toNat<1000;omega) (by omega)
theorem A9 {d:bO} (hd:tD d) (hl:d.length≤17) {x:Int} (hx : -900≤x∧x≤900):∃a b fr ex e,Nr.Shape (laid d x) a b fr ex e∧(a=[48]∨a.getD 0 0≠48)∧(laid d x).length≤24∧Nr.read (a++b) ((a.length:Int)+Nr.zY e)=Nr.read d x:=by
 have hn:=List.length_pos_iff.2 hd.n
 have hv:=ue hd.dg hn (by omega)
 unfold laid
 by_cases c1:1≤x∧x≤21∧(d.length:Int)≤x
 ·rw [aG c1]
  have hz:=hd.eP (x - d.length).toNat
  have HA:(d++eP (x - d.length)).length=x.toNat:=by
   unfold eP;rw [ao,List.length_replicate];omega
  refine ⟨d++eP (x - d.length),[],[],[],[],⟨by simp,hz.n,hz.dg,.inl ⟨rfl,rfl⟩,rfl,.inl ⟨rfl,rfl⟩,rfl⟩,.inr hz.h,by omega,?_⟩
  rw [aR]
  refine BV (j:=(x - d.length).toNat) (ue hz.dg (by omega) (by omega)) hv (qh d _) ?_
  rw [HA,show Nr.zY []=0 from rfl];omega
 ·rw [aE c1]
  by_cases c2:1≤x∧x≤21
  ·rw [aG c2]
   have ht:=sf hd (n:=x.toNat) (by omega) (by omega)
   have td:(d.take x.toNat).length=x.toNat:=by rw [aJ];omega
   have Gb:(d.drop x.toNat).length=d.length - x.toNat:=bj ..
   refine ⟨d.take x.toNat,d.drop x.toNat,46 :: d.drop x.toNat,[],[],⟨by simp,ht.n,ht.dg,.inr ⟨rfl,?_⟩,(vg hd.dg _).1,.inl ⟨rfl,rfl⟩,rfl⟩,.inr ht.h,?_,?_⟩
   ·intro e;rw [e,aZ] at Gb;omega
   ·rw [ao,ao,ay,td,Gb];omega
   ·rw [List.take_append_drop,td,show Nr.zY []=0 from rfl,show ((x.toNat:Nat):Int)+0=x by omega]
  ·rw [aE c2]
   by_cases c3 : -5≤x∧x≤0
   ·rw [aG c3]
    have HA:(eP (-x)++d).length=(-x).toNat+d.length:=by
     unfold eP;rw [ao,List.length_replicate]
    have Sc:(eP (-x)++d).all eE=true:=by rw [List.all_append,vM,hd.dg];rfl
    refine ⟨[48],eP (-x)++d,46 :: (eP (-x)++d),[],[],⟨by simp,by simp,by rfl,.inr ⟨rfl,?_⟩,Sc,.inl ⟨rfl,rfl⟩,rfl⟩,.inl rfl,?_,?_⟩
    ·intro e;rw [e,aZ] at HA;omega
    ·rw [ao,HA];show 2+_≤24;omega
    ·have hd1:([48]++(eP (-x)++d)).all eE=true:=by rw [List.all_append,Sc];rfl
     have Ug:([48]++(eP (-x)++d)).length=1+((-x).toNat+d.length):=by rw [ao,HA];rfl
     refine BV (j:=0) (ue hd1 (by omega) (by omega)) hv ?_ ?_
     ·rw [Nr.fw,Nr.fw]
      have:Nr.num (eP (-x))=0:=Nr.iX _
      rw [this,show Nr.num [48]=0 by decide];omega
     ·rw [Ug,show Nr.zY []=0 from rfl,ay];omega
   ·rw [aE c3]
    have ht:=sf hd (n:=1) (by omega) hn
    have td:(d.take 1).length=1:=by rw [aJ];omega
    have Gb:(d.drop 1).length=d.length - 1:=bj ..
    have IV:((if 1<d.length then 46 :: d.drop 1 else []:bO)=[]∧d.drop 1=[])∨((if 1<d.length then 46 :: d.drop 1 else []:bO)=46 :: d.drop 1∧d.drop 1≠[]):=by
     by_cases k:1<d.length
     ·right;rw [aG k];refine ⟨rfl,fun e=>?_⟩;rw [e,aZ] at Gb;omega
     ·left;rw [aE k];exact ⟨rfl,List.length_eq_zero_iff.1 (by omega)⟩
    have M4:(if 1<d.length then 46 :: d.drop 1 else []:bO).length≤17:=by
     split
     ·rw [aQ,Gb];omega
     ·simp
    generalize hF:(if 1<d.length then 46 :: d.drop 1 else []:bO)=F at *
    by_cases c4:x<1
    ·rw [aG c4]
     obtain ⟨i1,i2,i3,i4⟩:=nG (v:=1 - x) (by omega)
     obtain ⟨e1,e2⟩:=Gr (v:=1 - x) (by omega)
     have il:=pI (v:=1 - x) (by omega) (by omega)
     refine ⟨d.take 1,d.drop 1,F,101 :: 45 :: Nr.itoa (1 - x),45 :: Nr.itoa (1 - x),⟨by simp,ht.n,ht.dg,IV,(vg hd.dg _).1,.inr ⟨101,by decide,rfl,by rw [e2];exact i4⟩,by rw [e2];exact i2⟩,.inr ht.h,?_,?_⟩
     ·rw [ao,ao,td,ao];show 1+F.length+(2+_)≤24;omega
     ·rw [List.take_append_drop,td,e1,show ((1:Nat):Int) + -(1 - x)=x by omega]
    ·rw [aE c4]
     obtain ⟨i1,i2,i3,i4⟩:=nG (v:=x - 1) (by omega)
     obtain ⟨e1,e2⟩:=Gq (v:=x - 1) (by omega)
     have il:=pI (v:=x - 1) (by omega) (by omega)
     refine ⟨d.take 1,d.drop 1,F,101 :: 43 :: Nr.itoa (x - 1),43 :: Nr.itoa (x - 1),⟨by simp,ht.n,ht.dg,IV,(vg hd.dg _).1,.inr ⟨101,by decide,rfl,by rw [e2];exact i4⟩,by rw [e2];exact i2⟩,.inr ht.h,?_,?_⟩
     ·rw [ao,ao,td,ao];show 1+F.length+(2+_)≤24;omega
     ·rw [List.take_append_drop,td,e1,show ((1:Nat):Int)+(x - 1)=x by omega]
end Sh
end Go.Eng
