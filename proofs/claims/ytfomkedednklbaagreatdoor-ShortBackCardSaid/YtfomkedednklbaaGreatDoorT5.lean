/- Texts of my own, one behind the other: SnV, SnJ, SnN1, SnP3, SnP4, SnP5, SnP6, SnP7, SnP8, SnP9, SnP10, SnP11, SnP12, SnP13, SnP14, SnP15, SnP16, SnN2, SnN3, SnN4, SnE1, SnE2, SnR1, ShM1, ShM2, ShM3, ShM4, ShM5, SnN5, ShM6, ShP1, ShP2, ShP3. -/
import Derived.Test.YtfomkedednklbaaGreatDoorT4
set_option linter.unusedVariables false
set_option linter.unusedSimpArgs false
namespace Go.Eng
open Go.IntWalk
namespace Nr
def V (p:Nat):Nat:=iD p * 2 ^ sh p
theorem qc (p:Nat):iD p<9007199254740992:=by unfold iD;split <;> omega
theorem xO (p:Nat):V (p+1)=(iD p+1) * 2 ^ sh p:=by
 by_cases c0:p=4503599627370495
 ·subst c0;decide +kernel
 unfold V iD sh
 by_cases c:p<4503599627370496
 ·have e1:p / 4503599627370496=0:=by omega
  rw [aH c,aH (show p+1<4503599627370496 by omega),e1,show (p+1) / 4503599627370496=0 by omega]
 ·rw [aD c,aD (show ¬p+1<4503599627370496 by omega)]
  by_cases d:(p+1) % 4503599627370496=0
  ·rw [d,show (p+1) / 4503599627370496 - 1=(p / 4503599627370496 - 1)+1 by omega,show p % 4503599627370496=4503599627370495 by omega,Nat.pow_succ]
   generalize 2 ^ (p / 4503599627370496 - 1)=t
   omega
  ·have e:(p+1) % 4503599627370496+4503599627370496=p % 4503599627370496+4503599627370496+1:=by omega
   rw [show (p+1) / 4503599627370496=p / 4503599627370496 by omega,e]
theorem u0 (p:Nat):V (p+1)=V p+2 ^ sh p:=by rw [xO,Nat.add_mul,Nat.one_mul];rfl
theorem lp (p:Nat):V p<V (p+1):=by rw [u0];have:=Nat.two_pow_pos (sh p);omega
theorem z8 {p q:Nat} (h:p<q):V p<V q:=by
 induction q with
 | zero=>omega
 | succ q ih =>
  have:=lp q
  by_cases c:p=q
  ·subst c;exact this
  ·have:=ih (by omega);omega
theorem Qi {p q:Nat} (h:p≤q):V p≤V q:=by
 rcases Nat.lt_or_eq_of_le h with c | c
 ·exact Nat.le_of_lt (z8 c)
 ·rw [c];exact Nat.le_refl _
theorem Ks {p q:Nat} (h:V p=V q):p=q:=by
 rcases Nat.lt_trichotomy p q with c | c | c
 ·have:=z8 c;omega
 ·exact c
 ·have:=z8 c;omega
theorem lD (p:Nat):ns p=V p+V (p+1):=by
 rw [u0];unfold ns V;rw [Nat.add_mul,Nat.mul_assoc,Nat.one_mul];omega
theorem Hh {M E:Nat} (h1:4503599627370496≤M) (h2:M<9007199254740992):iD ((E+1) * 4503599627370496+(M - 4503599627370496))=M∧sh ((E+1) * 4503599627370496+(M - 4503599627370496))=E:=by
 unfold iD sh
 rw [aD (by omega),show ((E+1) * 4503599627370496+(M - 4503599627370496)) % 4503599627370496=M - 4503599627370496 by omega,show ((E+1) * 4503599627370496+(M - 4503599627370496)) / 4503599627370496=E+1 by omega]
 omega
theorem Kq {M:Nat} (h:M<4503599627370496):V M=M:=by
 unfold V iD sh
 rw [aH h,show M / 4503599627370496=0 by omega];simp
theorem uf {p:Nat} (h:p≤top):sh p≤2045:=by unfold sh;unfold top at h;omega
theorem join_some {p m:Nat} {e:Int} (neg:Bool) (hp:p≤top) (h:V p * 2 ^ (-(e+1074)).toNat=m * 2 ^ (e+1074).toNat):join neg m e=some (p+if neg then 9223372036854775808 else 0):=by
 classical
 have hx:∃p,p≤top∧iD p * 2 ^ sh p * 2 ^ (-(e+1074)).toNat=m * 2 ^ (e+1074).toNat:=⟨p,hp,h⟩
 unfold join
 rw [dif_pos hx]
 have hc:=hx.choose_spec.2
 have:hx.choose=p:=Ks (Nat.eq_of_mul_eq_mul_right (Nat.two_pow_pos _) (hc.trans h.symm))
 rw [this]
theorem join_none {m:Nat} {e:Int} (neg:Bool) (h:∀p,p≤top→V p * 2 ^ (-(e+1074)).toNat≠m * 2 ^ (e+1074).toNat):join neg m e=none:=by
 classical
 unfold join
 rw [dif_neg]
 rintro ⟨p,h1,h2⟩
 exact h p h1 h2
theorem LD (neg:Bool) (e:Int):join neg 0 e=some (0+if neg then 9223372036854775808 else 0):=join_some neg (Nat.zero_le _) (by rw [Kq (by omega),Nat.zero_mul,Nat.zero_mul])
def enc (m' k:Nat):Nat:=if k+Nt.bits m'≤52 then m' * 2 ^ k else (k - (53 - Nt.bits m')+1) * 4503599627370496+(m' * 2 ^ (53 - Nt.bits m') - 4503599627370496)
theorem uV {m':Nat} (h0:0<m') (j:Nat):2 ^ (Nt.bits m' - 1+j)≤m' * 2 ^ j∧m' * 2 ^ j<2 ^ (Nt.bits m'+j):=by
 obtain ⟨h1,h2,h3⟩:=Nt.iO h0
 rw [Nat.pow_add,Nat.pow_add]
 exact ⟨ar _ h1,Nat.mul_lt_mul_of_pos_right h2 (Nat.two_pow_pos j)⟩
theorem Cr {m':Nat} (h0:0<m') (hL:Nt.bits m'≤53):4503599627370496≤m' * 2 ^ (53 - Nt.bits m')∧m' * 2 ^ (53 - Nt.bits m')<9007199254740992:=by
 obtain ⟨h1,h2⟩:=uV h0 (53 - Nt.bits m')
 obtain ⟨_,_,h3⟩:=Nt.iO h0
 rw [show Nt.bits m' - 1+(53 - Nt.bits m')=52 by omega] at h1
 rw [show Nt.bits m'+(53 - Nt.bits m')=53 by omega] at h2
 exact ⟨h1,h2⟩
theorem Gn {m' k:Nat} (h0:0<m') (hL:Nt.bits m'≤53) (hk:k+Nt.bits m'≤2098):enc m' k≤top∧V (enc m' k)=m' * 2 ^ k:=by
 obtain ⟨b1,b2⟩:=Cr h0 hL
 unfold enc
 split
 ·rename_i c
  have:=(uV h0 k).2
  have Xc:m' * 2 ^ k<4503599627370496:=Nat.lt_of_lt_of_le this (by
   rw [show (4503599627370496:Nat)=2 ^ 52 by decide];exact Nat.pow_le_pow_right (by omega) (by omega))
  exact ⟨by unfold top;omega,Kq Xc⟩
 ·rename_i c
  obtain ⟨v1,v2⟩:=Hh (E:=k - (53 - Nt.bits m')) b1 b2
  refine ⟨by unfold top;omega,?_⟩
  unfold V
  rw [v1,v2,Nat.mul_assoc,←Nat.pow_add,show 53 - Nt.bits m'+(k - (53 - Nt.bits m'))=k by omega]
theorem Fz {m m' n k:Nat} {e:Int} (neg:Bool) (hm:m=m' * 2 ^ n) (h0:0<m') (hk:e+n+1074=k) (hL:Nt.bits m'≤53) (gH:k+Nt.bits m'≤2098):join neg m e=some (enc m' k+if neg then 9223372036854775808 else 0):=by
 obtain ⟨h1,h2⟩:=Gn h0 hL gH
 refine join_some neg h1 ?_
 rw [h2,hm,Nat.mul_assoc,Nat.mul_assoc,←Nat.pow_add,←Nat.pow_add,show k+(-(e+1074)).toNat=n+(e+1074).toNat by omega]
theorem H7 {a b x y:Nat} (ha:a % 2=1) (h:a * 2 ^ x=b * 2 ^ y):y≤x∧b=a * 2 ^ (x - y):=by
 have VY:y≤x:=by
  rcases Nat.lt_or_ge x y with c | c
  ·have e:y=x+(y - x - 1)+1:=by omega
   rw [e,Nat.pow_succ,Nat.pow_add,←Nat.mul_assoc,←Nat.mul_assoc] at h
   have h2:a=b * 2 ^ (y - x - 1) * 2:=by
    refine Nat.eq_of_mul_eq_mul_right (Nat.two_pow_pos x) ?_
    rw [h,Nat.mul_right_comm b,Nat.mul_right_comm (b * _)]
   omega
  ·exact c
 refine ⟨VY,Nat.eq_of_mul_eq_mul_right (Nat.two_pow_pos y) ?_⟩
 rw [←h,Nat.mul_assoc,←Nat.pow_add,show x - y+y=x by omega]
theorem Fy {m m' n:Nat} {e:Int} (neg:Bool) (hm:m=m' * 2 ^ n) (ho:m' % 2=1) (h:e+n+1074<0∨53<Nt.bits m'∨2098<e+n+1074+Nt.bits m'):join neg m e=none:=by
 refine join_none neg fun p hp hv=>?_
 have h0:0<m':=by omega
 rw [hm,Nat.mul_assoc,←Nat.pow_add] at hv
 unfold V at hv
 rw [Nat.mul_assoc,←Nat.pow_add] at hv
 obtain ⟨q1,q2⟩:=H7 ho hv.symm
 have hs:=uf hp
 have Po:=qc p
 obtain ⟨r1,r2⟩:=uV h0 (n+(e+1074).toNat - (sh p+(-(e+1074)).toNat))
 obtain ⟨_,_,r3⟩:=Nt.iO h0
 rw [←q2] at r1 r2
 have r4:2 ^ (Nt.bits m' - 1+(n+(e+1074).toNat - (sh p+(-(e+1074)).toNat)))<2 ^ 53:=Nat.lt_of_le_of_lt r1 (by rw [show (2:Nat) ^ 53=9007199254740992 by decide];exact Po)
 have r5:=(Nat.pow_lt_pow_iff_right (by omega:1<2)).1 r4
 omega
theorem Mn (m' k:Nat) (h:enc m' k≤top):enc m' k<9223372036854775808:=by unfold top at h;omega
end Nr
theorem lW (x:UInt64) (k:Nat):(kM x k).toNat=x.toNat * 2 ^ k % 18446744073709551616:=by unfold kM;simp
theorem jj {a b:UInt64} (h:a.toNat=b.toNat):a=b:=bt.1 h
theorem ji (n:Nat):(UInt64.ofNat n).toNat=n % 18446744073709551616:=by simp
theorem AU (x:UInt64):(x &&& (4503599627370495:UInt64)).toNat=x.toNat % 4503599627370496:=by
 rw [UInt64.toNat_and]
 exact Nat.and_two_pow_sub_one_eq_mod x.toNat 52
def HR (n:Bool):UInt64:=cond n 9223372036854775808 0
theorem px (n:Bool):(HR n).toNat=if n then 9223372036854775808 else 0:=by cases n <;> rfl
theorem Em (n:Bool) (x:UInt64) (h:x.toNat<9223372036854775808):(HR n ||| x).toNat=x.toNat+(HR n).toNat:=by
 rw [UInt64.toNat_or,px]
 cases n
 ·simp
 ·have:=oi (a:=1) (k:=63) (b:=x.toNat) h
  rw [aH rfl]
  rw [show (9223372036854775808:Nat)=1 * 2 ^ 63 by decide,this];omega
theorem yF (p:Nat) (n:Bool) (h:p<9223372036854775808):Nr.pat (some (p+if n then 9223372036854775808 else 0))=UInt64.ofNat (p+(HR n).toNat):=by rw [px];rfl
theorem cW.gG (n:Bool) (m:UInt64) (e:Int) (he : -1100≤e∧e≤2000):cW.j1 m e (HR n)=some [.u64 (Nr.pat (Nr.join n m.toNat e)),.b (Nr.join n m.toNat e).isSome]:=by
 refine cW.kF _ _ _ ?_
 intro v1 h1 v2 h2 v3 h3 v4 h4 v5 h5 v6 h6 v7 h7 v8 h8 v9 h9 v10 kQ v11 mY v12 lO pL Ak mD zm mE A9
 by_cases c0:m=0
 ·subst c0
  rw [ae rfl,aF]
  have:(0:UInt64).toNat=0:=rfl
  rw [this,Nr.LD,yF _ _ (by omega)]
  congr 2
  cases n <;> rfl
 ·have SC:0<m.toNat:=by
   have:m.toNat≠0:=fun h=>c0 (jj h)
   omega
  have eO:=m.toNat_lt
  obtain ⟨q,hq,hc⟩:=Lib.ctzFrom_spec 64 m.toNat SC (by rw [show (2:Nat) ^ 64=18446744073709551616 by decide];exact eO)
  have WM:Lib.ctz 64 m.toNat=Lib.ctzFrom 64 m.toNat:=by unfold Lib.ctz;rw [aD (by omega)]
  generalize hz:Lib.ctzFrom 64 m.toNat=z at *
  rw [WM] at h2
  have jC:m.toNat=(2 * q+1) * 2 ^ z:=by rw [hq,Nat.mul_comm]
  have FK:(iI m v2.toNat).toNat=2 * q+1:=by
   rw [gr,h2,aw,jC,Nat.mul_div_cancel _ (Nat.two_pow_pos z)]
  have hL:=Nt.kx (n:=2 * q+1) (k:=64) (by rw [←FK];exact (iI m v2.toNat).toNat_lt)
  obtain ⟨_,_,W5⟩:=Nt.iO (n:=2 * q+1) (by omega)
  rw [FK] at h3
  generalize Ur:Nt.bits (2 * q+1)=L at *
  have ew:IntKind.i64.wrap (e+v2)=e+z:=by rw [h2,i64_in _ (by omega)]
  rw [ew] at h4 h5 h8 lO
  have e5:v5=e+z+L:=by rw [h5,h3,i64_in _ (by omega)]
  have e7:v7=e+z+L - 1:=by rw [h7,e5,i64_in _ (by omega)]
  have e8:v8=e+z+1074:=by rw [h8,i64_in _ (by omega)]
  have xX:v10=53 - L:=by rw [kQ,h3,i64_in _ (by omega)]
  have Mq:v12=e+z - (53 - L):=by rw [lO,xX,i64_in _ (by omega)]
  have Mp:pL=e+z - (53 - L)+1075:=by rw [Ak,Mq,i64_in _ (by omega)]
  have e1:v1=false:=by rw [h1,af (show ¬e < -2000 by omega),af (show ¬2000<e by omega)];rfl
  have e4:v4=decide (53<L∨e+z < -1074):=by
   rw [h4,h3,Bool.decide_or]
   have:decide ((53:Int)<(L:Int))=decide (53<L):=by
    by_cases c:53<L
    ·rw [ae c,ae (by omega)]
    ·rw [af c,af (by omega)]
   rw [this];cases decide (53<L) <;> rfl
  have e6:v6=decide (53<L∨e+z < -1074∨1024<e+z+L):=by
   rw [h6,e4,e5]
   by_cases c:53<L∨e+z < -1074
   ·rw [ae c,aF,ae (by omega)]
   ·rw [af c,ax]
    by_cases d:1024<e+z+L
    ·rw [ae d,ae (by omega)]
    ·rw [af d,af (by omega)]
  have lH:∀b:Bool,(!(!b) || !b)=true∧(b || !b)=true∧(!(!b) || (!b&&!b))=true:=by decide
  rw [af c0,ax,e1,bD (lH _).1,bD (lH _).2.1,ax,bD (ae (by omega)),bD (lH _).1,bD (lH _).2.1,bD (lH _).2.2,bD (lH _).1,bD (lH _).2.1,e6]
  by_cases c:53<L∨e+z < -1074∨1024<e+z+L
  ·rw [ae c,aF,Nr.Fy (m':=2 * q+1) (n:=z) n jC (by omega) (by omega)];rfl
  ·rw [af c,ax]
   obtain ⟨k,hk⟩:=Int.eq_ofNat_of_zero_le (show 0≤e+z+1074 by omega)
   obtain ⟨t1,t2⟩:=Nr.Gn (m':=2 * q+1) (k:=k) (by omega) (by omega) (by omega)
   have t3:=Nr.Mn _ _ t1
   rw [Nr.Fz (m':=2 * q+1) (n:=z) (k:=k) n jC (by omega) hk (by omega) (by omega),yF _ _ t3]
   by_cases d:e+z+L - 1 < -1022
   ·rw [e7,ae d,aF,bD (ae (by omega))]
    have SQ:Nr.enc (2 * q+1) k=(2 * q+1) * 2 ^ k:=by unfold Nr.enc;rw [aH (by omega)]
    rw [SQ] at t3 ⊢
    have e9:v9.toNat=(2 * q+1) * 2 ^ k:=by
     rw [h9,lW,FK,e8,hk,aw];omega
    have:HR n ||| v9=UInt64.ofNat ((2 * q+1) * 2 ^ k+(HR n).toNat):=by
     apply jj
     rw [Em _ _ (by omega),e9,ji,px]
     cases n
     ·simp;omega
     ·simp;omega
    rw [this];rfl
   ·rw [e7,af d,ax,bD (ae (by omega))]
    obtain ⟨b1,b2⟩:=Nr.Cr (m':=2 * q+1) (by omega) (by omega)
    have SQ:Nr.enc (2 * q+1) k=(k - (53 - L)+1) * 4503599627370496+((2 * q+1) * 2 ^ (53 - L) - 4503599627370496):=by unfold Nr.enc;rw [aD (by omega),Ur]
    rw [Ur] at b1 b2
    have Tm:v10.toNat=53 - L:=by omega
    have P6:v11.toNat=(2 * q+1) * 2 ^ (53 - L):=by rw [mY,lW,FK,Tm];omega
    have Xr:mE.toNat=(2 * q+1) * 2 ^ (53 - L) - 4503599627370496:=by rw [A9,AU,P6];omega
    have Tl:pL=((k - (53 - L)+1:Nat):Int):=by omega
    have Mo:mD.toNat=(k - (53 - L)+1) * 4503599627370496:=by
     rw [zm,lW,Tl,BA]
     have:(k - (53 - L)+1)<2048:=by omega
     show (k - (53 - L)+1) % 18446744073709551616 * 4503599627370496 % 18446744073709551616=_
     omega
    have Xa:(mD ||| mE).toNat=Nr.enc (2 * q+1) k:=by
     rw [UInt64.toNat_or,Mo,Xr,SQ]
     exact oi (k:=52) (by omega)
    have:(HR n ||| mD) ||| mE=UInt64.ofNat (Nr.enc (2 * q+1) k+(HR n).toNat):=by
     apply jj
     rw [UInt64.or_assoc,Em _ _ (by omega),Xa,ji,px]
     cases n
     ·simp;omega
     ·simp;omega
    rw [this];rfl
theorem cW.goal (n:Bool) (m:UInt64) (e:Int) (hp:decide (-1100≤e∧e≤2000)=true):cW.F n m e=some [.u64 (Nr.pat (Nr.join n m.toNat e)),.b (Nr.join n m.toNat e).isSome]:=by
 rw [cW.jq]
 cases n
 ·exact cW.gG false m e (aN hp)
 ·exact cW.gG true m e (aN hp)
end Go.Eng
namespace Go.Eng
open Go.IntWalk
theorem Fg (x:UInt64):(x &&& (2047:UInt64)).toNat=x.toNat % 2048:=by
 rw [UInt64.toNat_and]
 exact Nat.and_two_pow_sub_one_eq_mod x.toNat 11
theorem dn.goal (b:UInt64):dn.F b=some [.i .i64 (Nr.split b).1,.b (Nr.split b).2.1,.u64 (Nr.split b).2.2.1,.i .i64 (Nr.split b).2.2.2]:=by
 refine dn.dZ _ ?_
 intro v1 h1 v2 h2 v3 h3 v4 h4 v5 h5 v6 h6 v7 h7 v8 h8
 have hb:=b.toNat_lt
 have hv1:v1.toNat=b.toNat / 9223372036854775808:=by rw [h1,gr];rfl
 have hv2:v2.toNat=b.toNat / 4503599627370496:=by rw [h2,gr];rfl
 have e3:v3=((b.toNat / 4503599627370496 % 2048:Nat):Int):=by rw [h3,Fg,hv2,i64_in _ (by omega)]
 have e4:v4.toNat=b.toNat % 4503599627370496:=by rw [h4,AU]
 have en:decide (v1=1)=decide (9223372036854775808≤b.toNat):=by
  by_cases c:9223372036854775808≤b.toNat
  ·rw [ae c,ae (jj (by rw [hv1];show _=1;omega))]
  ·rw [af c,af (fun h=>by have:=congrArg UInt64.toNat h;rw [hv1] at this;have e1:(1:UInt64).toNat=1:=rfl;omega)]
 have ef:decide (v4=0)=decide (b.toNat % 4503599627370496=0):=by
  by_cases c:b.toNat % 4503599627370496=0
  ·rw [ae c,ae (jj (by rw [e4];exact c))]
  ·rw [af c,af (fun h=>by have:=congrArg UInt64.toNat h;rw [e4] at this;exact c this)]
 have Xp:v4=UInt64.ofNat (b.toNat % 4503599627370496):=jj (by rw [e4,ji];omega)
 have e7:v7=UInt64.ofNat (4503599627370496+b.toNat % 4503599627370496):=jj (by
  rw [h7,UInt64.toNat_add,e4,ji];rfl)
 have e8:v8=((b.toNat / 4503599627370496 % 2048:Nat):Int) - 1075:=by rw [h8,e3,i64_in _ (by omega)]
 have lH:∀b:Bool,(!b || b)=true:=by decide
 rw [bD (lH _),bD (lH _),bD (lH _),bD (lH _),en]
 unfold Nr.split
 simp only
 rw [ef] at h5 h6
 generalize b.toNat / 4503599627370496 % 2048=x at *
 by_cases c1:x=2047
 ·rw [aH c1]
  have e5:v5=false:=by rw [h5,af (by omega),ax]
  have Gr:decide (v3=2047)=true:=ae (by omega)
  rw [Gr,aF] at h6
  rw [e5,ax,h6,Gr]
  by_cases c2:b.toNat % 4503599627370496=0
  ·rw [ae c2,aF,aH c2]
  ·rw [af c2,ax,aF,aD c2]
 ·rw [aD c1]
  have Gr:decide (v3=2047)=false:=af (by omega)
  rw [Gr,ax] at h6
  rw [h6,Gr,ax,ax]
  by_cases c2:x=0
  ·have Gs:decide (v3=0)=true:=ae (by omega)
   rw [Gs,aF] at h5
   rw [h5,Gs,aH c2,aF]
   by_cases c3:b.toNat % 4503599627370496=0
   ·rw [ae c3,aF,aH c3]
   ·rw [af c3,ax,aD c3,Xp]
  ·have Gs:decide (v3=0)=false:=af (by omega)
   rw [Gs,ax] at h5
   rw [h5,Gs,aD c2,ax,ax,e7,e8]
end Go.Eng
namespace Go.Eng
namespace Nr
theorem Lq {p q:Nat} (h:p<q):ns p<ns q:=by
 rw [lD,lD]
 have h1:=z8 h
 have h2:=z8 (show p+1<q+1 by omega)
 omega
theorem uY {a b p q:Nat} (hb:0<b) (h:fC a b p) (hq:q<p):fC a b q:=by
 have h1:ns q * b<ns p * b:=Nat.mul_lt_mul_of_pos_right (Lq hq) hb
 rcases h with h | ⟨h,_⟩
 ·exact .inl (Nat.lt_trans h1 h)
 ·exact .inl (by omega)
theorem lh {a b p:Nat} (hb:0<b) (hp:p≤top) (h1:¬fC a b p) (h2:p=0∨fC a b (p - 1)):gf a b=some p:=by
 classical
 have nD:∀q,q<p→fC a b q:=fun q hq=>by
  rcases h2 with h2 | h2
  ·omega
  ·by_cases c:q=p - 1
   ·rw [c];exact h2
   ·exact uY hb h2 (by omega)
 have hx:∃p,p≤top∧¬fC a b p∧∀q,q<p→fC a b q:=⟨p,hp,h1,nD⟩
 unfold gf
 rw [dif_pos hx]
 obtain ⟨_,c2,c3⟩:=hx.choose_spec
 congr 1
 rcases Nat.lt_trichotomy hx.choose p with c | c | c
 ·exact (c2 (nD _ c)).elim
 ·exact c
 ·exact (h1 (c3 _ c)).elim
theorem rU {a b:Nat} (hb:0<b) (h:fC a b top):gf a b=none:=by
 classical
 unfold gf
 rw [dif_neg]
 rintro ⟨p,h1,h2,_⟩
 rcases Nat.lt_or_eq_of_le h1 with c | c
 ·exact h2 (uY hb h c)
 ·exact h2 (by rw [c];exact h)
theorem z7 {a b c p:Nat} (hc:0<c):fC (a * c) (b * c) p ↔ fC a b p:=by
 unfold fC
 rw [←Nat.mul_assoc,Nat.mul_right_comm a c]
 constructor
 ·rintro (h | ⟨h,o⟩)
  ·exact .inl (Nat.lt_of_mul_lt_mul_right h)
  ·exact .inr ⟨Nat.eq_of_mul_eq_mul_right hc h,o⟩
 ·rintro (h | ⟨h,o⟩)
  ·exact .inl (Nat.mul_lt_mul_of_pos_right h hc)
  ·exact .inr ⟨by rw [h],o⟩
theorem uC {a b c:Nat} (hc:0<c):gf (a * c) (b * c)=gf a b:=by
 have e:fC (a * c) (b * c)=fC a b:=funext fun p=>propext (z7 hc)
 unfold gf
 rw [e]
theorem uE {a b c d:Nat} (hb:0<b) (hd:0<d) (h:a * d=c * b):gf a b=gf c d:=by
 rw [←uC (a:=a) (b:=b) hd,h,Nat.mul_comm b d,uC hb]
theorem yz {a b c d:Nat} (h:a+b=c+d):2 ^ a * 2 ^ b=2 ^ c * 2 ^ d:=by rw [←Nat.pow_add,h,Nat.pow_add]
theorem mul_two {a T U:Nat} (h:U=2 * T):a * U=2 * (a * T):=by rw [h,Nat.mul_left_comm]
theorem KR (k:Nat):2 ^ (6+k)=64 * 2 ^ k:=by rw [Nat.pow_add]
theorem Ff {n b p q r s:Nat} (h:p * q=r * s):n * p * b * q=n * (b * r) * s:=by
 rw [Nat.mul_assoc n p,Nat.mul_assoc n,Nat.mul_right_comm p,h,Nat.mul_assoc n,Nat.mul_comm (r * s),Nat.mul_assoc b]
theorem iG:fS=2 * 2 ^ 1074:=by decide +kernel
theorem CX {p q b a:Nat} (h:p * b≤a):p * q * b≤a * q:=by
 rw [Nat.mul_right_comm];exact ar _ h
theorem O4 {v p q b a:Nat} (hv:v=p * q) (h:p * b≤a):v * b≤a * q:=by subst hv;exact CX h
theorem Ia {a b p:Nat} (hb:0<b) (h1:V p * b≤a * 2 ^ 1074) (h2:a * 2 ^ 1074<V (p+1) * b) (hp:p≤top) [Decidable (fC a b p)] :
  gf a b=if fC a b p then (if p+1≤top then some (p+1) else none) else some p:=by
 have e:a * fS=2 * (a * 2 ^ 1074):=mul_two iG
 split
 ·rename_i h
  split
  ·rename_i ht
   refine lh hb ht ?_ (.inr h)
   unfold fC
   rw [e,lD,Nat.add_mul]
   have:=Nat.mul_lt_mul_of_pos_right (lp (p+1)) hb
   omega
  ·rename_i ht
   have:p=top:=by omega
   exact rU hb (this ▸ h)
 ·rename_i h
  refine lh hb hp h ?_
  by_cases c:p=0
  ·exact .inl c
  ·refine .inr (.inl ?_)
   rw [e,lD,Nat.add_mul,show p - 1+1=p by omega]
   have:=Nat.mul_lt_mul_of_pos_right (z8 (show p - 1<p by omega)) hb
   omega
theorem Fc {a b p:Nat} (hb:0<b) (h1:V p * b≤a * 2 ^ 1074) (hp:top<p):gf a b=none:=by
 refine rU hb (.inl ?_)
 have e:a * fS=2 * (a * 2 ^ 1074):=mul_two iG
 rw [e,lD,Nat.add_mul]
 have h3:=Nat.mul_lt_mul_of_pos_right (z8 (show top<p by omega)) hb
 have h4:=ar b (Qi (show top+1≤p by omega))
 omega
theorem CU (b:Nat) (hb:0<b):gf 0 b=some 0:=by
 refine lh hb (Nat.zero_le _) ?_ (.inl rfl)
 unfold fC
 rw [Nat.zero_mul]
 have:0<ns 0 * b:=Nat.mul_pos (by decide) hb
 omega
theorem Fb {a b:Nat} (hb:0<b) (h:a * fS≤b):gf a b=some 0:=by
 refine lh hb (Nat.zero_le _) ?_ (.inl rfl)
 unfold fC
 have e:ns 0 * b=b:=by rw [show ns 0=1 by decide,Nat.one_mul]
 rw [e]
 omega
def wC:Nat:=2 ^ 1024
theorem MF:V (top+1)=wC * 2 ^ 1074:=by decide +kernel
theorem CV {a b:Nat} (hb:0<b) (h:wC * b≤a):gf a b=none:=by
 refine rU hb (.inl ?_)
 rw [lD,Nat.add_mul]
 have h3:=Nat.mul_lt_mul_of_pos_right (lp top) hb
 have h4:V (top+1) * b≤a * 2 ^ 1074:=by
  exact O4 MF h
 have e:a * fS=2 * (a * 2 ^ 1074):=mul_two iG
 omega
theorem Ib {a b p:Nat} (h:gf a b=some p):p≤top:=by
 unfold gf at h
 split at h
 ·rename_i hx
  have:=hx.choose_spec.1
  injection h with h
  rw [h] at this;exact this
 ·cases h
end Nr
end Go.Eng
namespace Go.Eng
open Go.IntWalk
theorem yj {a b:List UInt16} (i:Nat) (ha:i<a.length) (hb:i<b.length) (h:(a.getD i 0).toNat<(b.getD i 0).toNat):Nt.val (a.take (i+1))<Nt.val (b.take (i+1)):=by
 rw [dy a i ha,dy b i hb]
 have h1:=Nt.gB (a.take i)
 rw [aK,Nat.min_eq_left (by omega)] at h1
 generalize (a.getD i 0).toNat=x at *
 generalize (b.getD i 0).toNat=y at *
 have:65536 ^ i * x+65536 ^ i≤65536 ^ i * y:=by
  rw [←Nat.mul_succ];exact Nat.mul_le_mul_left _ (by omega)
 omega
theorem xD {a b:List UInt16} (hl:a.length=b.length) (i:Nat) (h:a.drop i=b.drop i):(Nt.val a<Nt.val b ↔ Nt.val (a.take i)<Nt.val (b.take i))∧(Nt.val a=Nt.val b ↔ Nt.val (a.take i)=Nt.val (b.take i)):=by
 have e1:Nt.val a=Nt.val (a.take i)+65536 ^ (a.take i).length * Nt.val (a.drop i):=by rw [←Nt.fx,List.take_append_drop]
 have e2:Nt.val b=Nt.val (b.take i)+65536 ^ (b.take i).length * Nt.val (b.drop i):=by rw [←Nt.fx,List.take_append_drop]
 have e3:(b.take i).length=(a.take i).length:=by rw [aK,aK,hl]
 rw [e3,←h] at e2
 omega
theorem di.fo (a b:List UInt16) (hl:a.length=b.length) (hb:a.length≤1099511627776):∀(n:Nat),n≤a.length→a.drop n=b.drop n→di.l1 a b ((n:Int) - 1)=some [.i .i64 (Nt.cmp (Nt.val a) (Nt.val b))]:=by
 intro n
 induction n with
 | zero =>
  intro hn hd
  refine di.dE _ _ _ ?_
  intro v1 h1 v2 h2 v3 h3
  simp only [aS] at hd
  rw [af (by omega),ax,hd,Nt.cmp,aD (by omega),aH rfl]
 | succ n ih =>
  intro hn hd
  refine di.dE _ _ _ ?_
  intro v1 h1 v2 h2 v3 h3
  have e:((n+1:Nat):Int) - 1=(n:Int):=by omega
  rw [e] at h1 h2 h3 ⊢
  rw [aw] at h1 h2
  rw [ae (by omega),aF,bD (cN (by omega) (by omega)),bD (cN (by omega) (by omega))]
  obtain ⟨d1,d2⟩:=xD hl (n+1) hd
  by_cases c:v1=v2
  ·rw [ae c,a8,ax,h3,i64_in _ (by omega)]
   refine ih (by omega) ?_
   rw [drop_cons (show n<a.length by omega) 0,drop_cons (show n<b.length by omega) 0,hd,←h1,←h2,c]
  ·rw [af c,bq,aF,bD (cN (by omega) (by omega)),bD (cN (by omega) (by omega))]
   by_cases c2:v1<v2
   ·have:=yj (a:=a) (b:=b) n (by omega) (by omega) (by rw [←h1,←h2];exact UInt16.lt_iff_toNat_lt.1 c2)
    rw [ae c2,aF,Nt.cmp,aH (d1.2 this)]
   ·have h4:v2.toNat<v1.toNat:=by
     have h5:v1.toNat≠v2.toNat:=fun e=>c (UInt16.toNat_inj.1 e)
     rw [UInt16.lt_iff_toNat_lt] at c2;omega
    have:=yj (a:=b) (b:=a) n (by omega) (by omega) (by rw [←h1,←h2];exact h4)
    rw [af c2,ax,Nt.cmp,aD (fun e=>by have:=d1.1 e;omega),aD (fun e=>by have:=d2.1 e;omega)]
theorem di.goal (a b:List UInt16) (hp:(decide (a.length≤1099511627776∧b.length≤1099511627776)&&(Nt.norm a&&Nt.norm b))=true):di.F a b=some [.i .i64 (Nt.cmp (Nt.val a) (Nt.val b))]:=by
 simp only [aa,ay] at hp
 obtain ⟨⟨l1,l2⟩,n1,n2⟩:=hp
 refine di.dZ _ _ ?_
 intro v1 h1
 rcases Nat.lt_trichotomy a.length b.length with c | c | c
 ·have:=Nt.rW n2 c
  rw [af (show ¬(a.length:Int)=b.length by omega),bq,aF,ae (by omega),aF,Nt.cmp,aH this]
 ·rw [ae (show (a.length:Int)=b.length by omega),a8,ax,h1,xb l1]
  exact di.fo a b c l1 a.length (Nat.le_refl _) (by rw [List.drop_length,c,List.drop_length])
 ·have:=Nt.rW n1 c
  rw [af (show ¬(a.length:Int)=b.length by omega),bq,aF,af (by omega),ax,Nt.cmp,aD (by omega),aD (by omega)]
theorem dY.goal (a b:List UInt16) (hp:(Nt.is a&&Nt.is b)=true):dY.F a b=some [.i .i64 (Nt.cmp (Nt.val a) (Nt.val b))]:=by
 simp only [aa] at hp
 have l1:=Nt.iY hp.1
 have l2:=Nt.iY hp.2
 refine dY.dZ _ _ ?_
 intro v1 h1 v2 h2
 rw [hp.1,hp.2] at h1
 rw [hp.1]
 have e1:v1=false:=h1
 have d1:decide (a.length≤1099511627776)=true:=ae (by omega)
 have d2:decide (b.length≤1099511627776)=true:=ae (by omega)
 have d3:decide (a.length≤1099511627776∧b.length≤1099511627776)=true:=ae ⟨by omega,by omega⟩
 rw [d1,d2,d3,e1,h2,Nt.iU hp.1,Nt.iU hp.2]
 rfl
theorem bR.fo (a:List UInt16) (ha:a.length≤256):∀(m i:Nat) (acc:List Int),i+m=a.length→acc.length=a.length→(acc.take i)=(a.take i).map (fun d=>(d.toNat:Int))→bR.l1 a a.length i acc=some [.sl .is (a.map fun d=>(d.toNat:Int))]:=by
 intro m
 induction m with
 | zero =>
  intro i acc hi hl ht
  refine bR.dE _ _ _ _ ?_
  intro v1 h1 v2 h2 v3 h3 v4 h4
  rw [List.take_of_length_le (by omega),List.take_of_length_le (by omega)] at ht
  rw [af (by omega),ax,ht]
 | succ m ih =>
  intro i acc hi hl ht
  refine bR.dE _ _ _ _ ?_
  intro v1 h1 v2 h2 v3 h3 v4 h4
  rw [aw] at h1 h3
  have hv:=v1.toNat_lt
  rw [i64_in _ (by omega)] at h2
  have e4:v4=((i+1:Nat):Int):=by rw [h4,i64_in _ (by omega)];omega
  rw [ae (by omega),aF,bD (cN (by omega) (by omega)),bD (cN (by omega) (by omega)),bD (ae (by rw [aw];omega)),e4]
  refine ih (i+1) v3 (by omega) (by rw [h3,List.length_set];exact hl) ?_
  have J1:i<a.length:=by omega
  rw [h3,List.take_set,List.take_add_one,List.take_add_one,List.map_append,ht.symm]
  have PE:i<acc.length:=by omega
  rw [aA PE,aA J1]
  have eO:(acc.take i).length=i:=by rw [aK];omega
  simp only [Option.toList_some,ah,ao]
  rw [List.set_append_right _ _ (by omega),eO,Nat.sub_self,List.set_cons_zero,h2,h1,ak,aA J1]
  rfl
theorem bR.goal (a:List UInt16) (hp:decide (a.length≤256)=true):bR.F a=some [.sl .is (a.map fun d=>(d.toNat:Int))]:=by
 have h:=aN hp
 refine bR.dZ _ ?_
 intro v1 h1
 rw [aw] at h1
 rw [bD (jJ.2 ⟨by omega,by omega,by omega,by rw [iT];omega⟩)]
 exact bR.fo a h a.length 0 v1 (by omega) (by rw [h1];simp) (by simp)
end Go.Eng
namespace Go.Eng
open Go.IntWalk
theorem Nt.zB (k n:Nat):Nt.fix (k+1) n=Nt.fix k n++[UInt16.ofNat (n / 65536 ^ k)]:=by
 induction k generalizing n with
 | zero=>simp [Nt.fix]
 | succ k ih =>
  rw [Nt.fix,ih (n / 65536),Nt.fix,List.cons_append,Nat.div_div_eq_div_mul,Nat.pow_succ,Nat.mul_comm 65536]
theorem Nt.Ll {k n:Nat} (h1:n<65536 ^ k) (h2:k=0∨65536 ^ (k - 1)≤n):Nt.of n=Nt.fix k n:=by
 have e:Nt.val (Nt.fix k n)=n:=by rw [Nt.po,Nat.mod_eq_of_lt h1]
 conv=>lhs;rw [←e]
 refine Nt.iM ?_
 rcases h2 with rfl | h2
 ·rfl
 ·cases k with
  | zero=>rfl
  | succ k =>
   rw [Nt.zB,Nt.mP]
   rw [Nat.add_sub_cancel] at h2
   refine ae fun e0=>?_
   have:=congrArg UInt16.toNat e0
   rw [Nt.dB] at this
   have h3:n / 65536 ^ k<65536:=(Nat.div_lt_iff_lt_mul (Nat.pow_pos (by omega))).2 (by rw [Nat.pow_succ,Nat.mul_comm] at h1;exact h1)
   have h4:0<n / 65536 ^ k:=Nat.div_pos h2 (Nat.pow_pos (by omega))
   have e0:(0:UInt16).toNat=0:=rfl
   omega
theorem nY (n:Nat):UInt16.ofInt (n:Int)=UInt16.ofNat n:=nf n
theorem xy (n:Nat):Int.fdiv (n:Int) (2 ^ (min (16:UInt64).toNat IntKind.i64.bits))=((n / 65536:Nat):Int):=by
 rw [show (2:Int) ^ (min (16:UInt64).toNat IntKind.i64.bits)=65536 by decide,Int.fdiv_eq_ediv_of_nonneg _ (by omega)]
 omega
theorem cw.fo (a:List UInt16) (b c:Nat) (ha:a.length≤1000000) (hb:1≤b∧b≤65535) (hc:c≤65535) (hn:Nt.norm a=true):∀(m i:Nat) (acc:List UInt16) (k:Nat),i+m=a.length→acc.length=i→k≤65535→Nt.val acc+65536 ^ i * k=Nt.val (a.take i) * b+c →
  cw.l1 b acc k a a.length i=some [.sl .ws (Nt.of (Nt.val a * b+c))]:=by
 intro m
 induction m with
 | zero =>
  intro i acc k hi hl hk hv
  refine cw.dE _ _ _ _ _ _ ?_
  intro v1 h1 v2 h2 v3 h3 v4 h4 v5 h5 v6 h6 v7 h7
  rw [List.take_of_length_le (by omega)] at hv
  rw [af (by omega),ax]
  have J1:i=a.length:=by omega
  by_cases c0:k=0
  ·subst c0
   rw [af (by omega),ax,cw.ow,←hv,Nat.mul_zero,Nat.add_zero,Nt.iM]
   by_cases h0:a=[]
   ·subst h0
    have:acc=[]:=aR (by rw [hl,J1];rfl)
    rw [this];rfl
   ·-- the last digit is no Rc
    have nO:=mQ hn h0
    have JZ:=List.length_pos_iff.2 h0
    have Te:acc≠[]:=by intro e;subst e;simp at hl;omega
    rw [mR Te]
    simp only [Bool.not_eq_true',decide_eq_false_iff_not]
    intro e0
    have Hw:=dy acc (acc.length - 1) (by omega)
    rw [show acc.length - 1+1=acc.length by omega,List.take_length,e0] at Hw
    have eO:=Nt.gB (acc.take (acc.length - 1))
    rw [aK,Nat.min_eq_left (by omega),hl,J1] at eO
    rw [hl,J1] at Hw
    have h5:65536 ^ (a.length - 1) * 1≤65536 ^ (a.length - 1) * (a.getD (a.length - 1) 0).toNat:=Nat.mul_le_mul_left _ nO.1
    have h6:Nt.val a * 1≤Nt.val a * b:=Nat.mul_le_mul_left _ hb.1
    have P7:(0:UInt16).toNat=0:=rfl
    rw [P7] at Hw
    omega
  ·have e7:v7=[UInt16.ofNat k]:=by rw [h7,nY]
   rw [ae (by omega),aF,bD (gZ (by rw [e7,az];omega) (by rw [e7,az];omega)),cw.ow,e7,←hv]
   have e8:Nt.val (acc++[UInt16.ofNat k])=Nt.val acc+65536 ^ i * k:=by
    rw [Nt.fx,hl];simp only [Nt.val,Nat.mul_zero,Nat.add_zero,Nt.dB];rw [Nat.mod_eq_of_lt (by omega)]
   rw [←e8,Nt.iM]
   rw [Nt.mP]
   refine ae fun e=>?_
   have:=congrArg UInt16.toNat e
   rw [Nt.dB] at this
   have e0:(0:UInt16).toNat=0:=rfl
   omega
 | succ m ih =>
  intro i acc k hi hl hk hv
  refine cw.dE _ _ _ _ _ _ ?_
  intro v1 h1 v2 h2 v3 h3 v4 h4 v5 h5 v6 h6 v7 h7
  rw [aw] at h1
  have hd:=v1.toNat_lt
  rw [i64_in _ (by omega)] at h2
  have hm:v1.toNat * b≤65535 * 65535:=Nat.mul_le_mul (by omega) hb.2
  have e3:v3=((k+v1.toNat * b:Nat):Int):=by
   have e:v2 * (b:Int)=((v1.toNat * b:Nat):Int):=by rw [h2,Int.natCast_mul]
   rw [h3,e,i64_in ((v1.toNat * b:Nat):Int) (by omega),i64_in _ (by omega)];omega
  have e4:v4=[UInt16.ofNat (k+v1.toNat * b)]:=by rw [h4,e3,nY]
  have e5:v5=(((k+v1.toNat * b) / 65536:Nat):Int):=by rw [h5,e3,xy]
  have e6:v6=((i+1:Nat):Int):=by rw [h6,i64_in _ (by omega)];omega
  rw [ae (by omega),aF,bD (cN (by omega) (by omega)),bD (gZ (by rw [e4,az];omega) (by rw [e4,az];omega)),e5,e6,e4]
  refine ih (i+1) _ _ (by omega) (by rw [aq,hl];rfl) (by omega) ?_
  rw [dy a i (by omega),←h1,Nt.fx,hl]
  simp only [Nt.val,Nat.mul_zero,Nat.add_zero,Nt.dB]
  generalize hq:k+v1.toNat * b=q
  rw [Nat.pow_succ,Nat.mul_assoc,Nat.add_assoc,←Nat.mul_add]
  have:q % 65536+65536 * (q / 65536)=q:=Nat.mod_add_div q 65536
  rw [this,←hq,Nat.mul_add,Nat.add_mul,←Nat.mul_assoc]
  omega
theorem cw.goal (a:List UInt16) (b c:Int) (hp:(decide (a.length≤1000000∧1≤b∧b≤65535∧0≤c∧c≤65535)&&Nt.norm a)=true):cw.F a b c=some [.sl .ws (Nt.of (Nt.val a * b.toNat+c.toNat))]:=by
 simp only [aa,ay] at hp
 obtain ⟨⟨l1,b1,b2,c1,c2⟩,n1⟩:=hp
 refine cw.dZ _ _ _ ?_
 intro v1 h1 v2 h2
 have e1:v1=((a.length+1:Nat):Int):=by rw [h1,i64_in _ (by omega)];omega
 rw [e1,bD (jJ.2 ⟨by omega,by omega,by omega,by rw [iT];omega⟩)]
 have eb:(b.toNat:Int)=b:=by omega
 have ec:(c.toNat:Int)=c:=by omega
 have:=cw.fo a b.toNat c.toNat l1 ⟨by omega,by omega⟩ (by omega) n1 a.length 0 v2 c.toNat (by omega) (by rw [h2];rfl) (by omega) (by rw [h2];simp [Nt.val])
 rw [eb,ec] at this
 exact this
end Go.Eng
namespace Go.Eng
open Go.IntWalk
theorem cA.fo (b E:Nat) (hb:2≤b∧b≤65535) (hE:E≤1000) (eO:b ^ E<2 ^ 4096):∀(m:Nat),m≤E→cA.l1 b m (Nt.of (b ^ (E - m)))=some [.sl .ws (Nt.of (b ^ E)),.b true]:=by
 intro m
 induction m with
 | zero =>
  intro hm
  refine cA.dE _ _ _ ?_
  intro v1 h1 v2 h2
  rw [af (by omega),ax,Nat.sub_zero]
 | succ m ih =>
  intro hm
  refine cA.dE _ _ _ ?_
  intro v1 h1 v2 h2
  have hle:∀j,j≤E→b ^ j<2 ^ 4096:=fun j hj=>Nat.lt_of_le_of_lt (Nat.pow_le_pow_right (by omega) hj) eO
  have hi:=Nt.pS (hle (E - (m+1)) (by omega))
  have hl:=Nt.iY hi
  have e1:v1=Nt.of (b ^ (E - m)):=by
   rw [h1,Nt.eG,aw,show (0:Int).toNat=0 from rfl,Nat.add_zero,←Nat.pow_succ]
   congr 2;omega
  have J2:=Nt.pS (hle (E - m) (by omega))
  have Hy:=Nt.iY J2
  rw [ae (by omega),aF,Nt.qH,bD (by rw [Bool.and_true];exact ae (by omega)),e1,bD (ae (by omega)),J2,a8,ax,h2,i64_in _ (by omega)]
  rw [show ((m+1:Nat):Int) - 1=(m:Int) by omega]
  exact ih (by omega)
theorem cA.goal (b e:Int) (hp:decide (2≤b∧b≤65535∧0≤e∧e≤1000∧b.toNat ^ e.toNat<2 ^ 4096)=true):cA.F b e=some [.sl .ws (Nt.of (b.toNat ^ e.toNat)),.b true]:=by
 obtain ⟨b1,b2,e1,e2,eO⟩:=aN hp
 refine cA.dZ _ _ ?_
 intro v1 h1 v2 h2 v3 h3 v4 h4
 have d1:v1=false:=by rw [h1,af (by omega),ax];exact af (by omega)
 have d2:v2=false:=by rw [h2,d1,ax];exact af (by omega)
 simp only [bz,bB,Bool.not_not,da]
 rw [d2,ax]
 by_cases c:e=0
 ·have d3:v3=true:=by rw [h3,ae c,aF]
  rw [d3,aF,c,h4,show (0:Int).toNat=0 from rfl,Nat.pow_zero];rfl
 ·have d3:v3=false:=by rw [h3,af c,ax];exact af (by omega)
  rw [d3,ax,af (by omega),ax]
  have:=cA.fo b.toNat e.toNat ⟨by omega,by omega⟩ (by omega) eO e.toNat (Nat.le_refl _)
  rw [Nat.sub_self,Nat.pow_zero,show ((b.toNat:Nat):Int)=b by omega,show ((e.toNat:Nat):Int)=e by omega] at this
  rw [h4];exact this
theorem Nr.jI (d:bT) (c:UInt8):Nr.num (d++[c])=10 * Nr.num d+(c.toNat - 48):=by
 unfold Nr.num;rw [List.foldl_append];rfl
theorem Nr.gg {c:UInt8}:Nr.eo c=true ↔ 48≤c.toNat∧c.toNat≤57:=by
 simp only [Nr.eo,ay,UInt8.le_iff_toNat_le];exact Iff.rfl
theorem Nr.Lp (d:bT) (h:d.all Nr.eo=true):∀n:Nat,d.foldl (fun n c=>10 * n+(c.toNat - 48)) n<(n+1) * 10 ^ d.length:=by
 induction d with
 | nil=>intro n;simp
 | cons c d ih =>
  intro n
  rw [List.all_cons,aa,Nr.gg] at h
  rw [List.foldl_cons,aP,Nat.pow_succ]
  refine Nat.lt_of_lt_of_le (ih h.2 _) ?_
  rw [Nat.mul_comm (10 ^ d.length),←Nat.mul_assoc]
  exact ar _ (by omega)
theorem Nr.nj (d:bT) (h:d.all Nr.eo=true):Nr.num d<10 ^ d.length:=by
 have:=Nr.Lp d h 0
 rwa [Nat.zero_add,Nat.one_mul] at this
theorem vF {s:bT} {i:Nat} (h:i<s.length):s.take (i+1)=s.take i++[s.getD i 0]:=by
 rw [List.take_add_one,aA h,ak,aA h];rfl
theorem Hc {s:bT} {i:Nat} (hs:s.all Nr.eo=true) (h:i<s.length):48≤(s.getD i 0).toNat∧(s.getD i 0).toNat≤57:=by
 rw [ak,aA h]
 have:=aL.1 hs _ (List.getElem_mem h)
 simp only [Nr.eo,ay] at this
 exact ⟨UInt8.le_iff_toNat_le.1 this.1,UInt8.le_iff_toNat_le.1 this.2⟩
theorem KA (k:Nat) (h:k≤300):10 ^ k<2 ^ 4096:=by
 have hk:∀n:Nat,n=300→10 ^ k≤10 ^ n:=fun n hn=>Nat.pow_le_pow_right (by omega) (by omega)
 exact Nat.lt_of_le_of_lt (hk 300 rfl) (by decide +kernel)
theorem cE.fo (s:bT) (hs:s.all Nr.eo=true) (hl:s.length≤300):∀(m i:Nat),i+m=s.length→cE.l1 s (Nt.of (Nr.num (s.take i))) s.length i=some [.sl .ws (Nt.of (Nr.num s)),.b true]:=by
 have eO:∀i,Nr.num (s.take i)<2 ^ 4096:=fun i=>by
  have h1:=Nr.nj (s.take i) (by rw [aL] at hs ⊢;exact fun x hx=>hs x (List.mem_of_mem_take hx))
  have h2:(s.take i).length≤300:=by rw [aK];omega
  exact Nat.lt_of_lt_of_le h1 (Nat.le_of_lt (KA _ h2))
 intro m
 induction m with
 | zero =>
  intro i hi
  have QG:=Nt.pS (eO i)
  refine cE.dE _ _ _ _ ?_
  intro v1 h1 v2 h2 v3 h3 v4 h4 v5 h5
  have Ws:=Nt.iY QG
  rw [af (by omega),ax,bD (ae (by omega)),QG,a8,ax,List.take_of_length_le (by omega)]
 | succ m ih =>
  intro i hi
  have QG:=Nt.pS (eO i)
  refine cE.dE _ _ _ _ ?_
  intro v1 h1 v2 h2 v3 h3 v4 h4 v5 h5
  have Ws:=Nt.iY QG
  rw [aw] at h1
  obtain ⟨c1,c2⟩:=Hc hs (show i<s.length by omega)
  rw [←h1] at c1 c2
  have f1:decide (v1<(48:UInt8))=false:=af fun e=>by
   have:=UInt8.lt_iff_toNat_lt.1 e
   have e0:(48:UInt8).toNat=48:=rfl
   omega
  have f2:decide ((57:UInt8)<v1)=false:=af fun e=>by
   have:=UInt8.lt_iff_toNat_lt.1 e
   have e0:(57:UInt8).toNat=57:=rfl
   omega
  have e2:v2=false:=by rw [h2,f1,ax,f2]
  have e3:v3=((v1.toNat - 48:Nat):Int):=by
   have e:(v1 - 48).toNat=v1.toNat - 48:=UInt8.toNat_sub_of_le v1 48 (UInt8.le_iff_toNat_le.2 c1)
   rw [h3,e,i64_in _ (by omega)]
  have e5:v5=((i+1:Nat):Int):=by rw [h5,i64_in _ (by omega)];omega
  have e4:v4=Nt.of (Nr.num (s.take (i+1))):=by
   rw [h4,Nt.eG,vF (by omega),Nr.jI,←h1,e3,aw,show (10:Int).toNat=10 from rfl,Nat.mul_comm]
  have hx:cq (i:Int) s.length=true:=cN (by omega) (by omega)
  have hc:decide ((Nt.of (Nr.num (s.take i))).length≤1000000∧1≤(10:Int)∧(10:Int)≤65535∧0≤v3∧v3≤65535)=true:=ae (by omega)
  rw [ae (show (i:Int)<s.length by omega)]
  simp only [f1,e2,hx,hc,Nt.qH,bq,a8,Bool.false_or,Bool.or_true,Bool.true_or,bw,da,ax,aF]
  rw [e4,e5]
  exact ih (i+1) (by omega)
theorem cE.goal (s:bT) (hp:(decide (1≤s.length∧s.length≤300∧s.getD 0 0≠48)&&s.all Nr.eo)=true):cE.F s=some [.sl .ws (Nt.of (Nr.num s)),.b true]:=by
 simp only [aa,ay] at hp
 obtain ⟨⟨l1,l2,l3⟩,hs⟩:=hp
 refine cE.dZ _ ?_
 intro v1 h1 v2 h2 v3 h3 v4 h4
 have fI:s≠[]:=by intro e;subst e;simp at l1
 have d0:decide (s=([]:bT))=false:=af fI
 have d1:v1=false:=by rw [h1,d0,ax];exact af (by omega)
 have d2:decide (v2=(48:UInt8))=false:=by rw [h2];exact af l3
 rw [d2] at h3 h4 ⊢
 have d3:v3=false:=by rw [h3,d1];rfl
 have d4:v4=false:=h4
 have hx:cq 0 s.length=true:=cN (by omega) (by omega)
 simp only [d0,d1,d3,d4,hx,bq,a8,Bool.false_or,Bool.or_true,Bool.true_or,bw,da,ax,aF]
 have:=cE.fo s hs l2 s.length 0 (by omega)
 rw [List.take_zero,show Nr.num []=0 from rfl,Nt.gJ] at this
 exact this
theorem Il {a acc:List UInt16} {b c k:Nat} (hn:Nt.norm a=true) (hl:acc.length=a.length) (hb:1≤b) (hk:k≤65535) (hv:Nt.val acc+65536 ^ a.length * k=Nt.val a * b+c) :
  (k=0→Nt.of (Nt.val a * b+c)=acc)∧(k≠0→Nt.of (Nt.val a * b+c)=acc++[UInt16.ofNat k]):=by
 refine ⟨fun c0=>?_,fun c0=>?_⟩
 ·subst c0
  rw [←hv,Nat.mul_zero,Nat.add_zero,Nt.iM]
  by_cases h0:a=[]
  ·subst h0
   have:acc=[]:=aR hl
   rw [this];rfl
  ·have nO:=mQ hn h0
   have JZ:=List.length_pos_iff.2 h0
   have Te:acc≠[]:=by intro e;subst e;simp at hl;omega
   rw [mR Te]
   simp only [Bool.not_eq_true',decide_eq_false_iff_not]
   intro e0
   have Hw:=dy acc (acc.length - 1) (by omega)
   rw [show acc.length - 1+1=acc.length by omega,List.take_length,e0] at Hw
   have eO:=Nt.gB (acc.take (acc.length - 1))
   rw [aK,Nat.min_eq_left (by omega),hl] at eO
   rw [hl] at Hw
   have h5:65536 ^ (a.length - 1) * 1≤65536 ^ (a.length - 1) * (a.getD (a.length - 1) 0).toNat:=Nat.mul_le_mul_left _ nO.1
   have h6:Nt.val a * 1≤Nt.val a * b:=Nat.mul_le_mul_left _ hb
   have P7:(0:UInt16).toNat=0:=rfl
   rw [P7] at Hw
   omega
 ·have e8:Nt.val (acc++[UInt16.ofNat k])=Nt.val acc+65536 ^ a.length * k:=by
   rw [Nt.fx,hl];simp only [Nt.val,Nat.mul_zero,Nat.add_zero,Nt.dB];rw [Nat.mod_eq_of_lt (by omega)]
  rw [←hv,←e8,Nt.iM]
  rw [Nt.mP]
  refine ae fun e=>?_
  have:=congrArg UInt16.toNat e
  rw [Nt.dB] at this
  have e0:(0:UInt16).toNat=0:=rfl
  omega
theorem j5 (d:UInt16):(UInt32.ofInt (d.toNat:Int)).toNat=d.toNat:=by
 have h:=vC (d.toNat:Int)
 rw [wrap_u32'] at h
 have:=d.toNat_lt
 omega
theorem jk (x:UInt32):UInt16.ofInt (x.toNat:Int)=UInt16.ofNat x.toNat:=nf _
theorem dv.fo (a:List UInt16) (n:Nat) (ha:a.length≤1000000) (hn:Nt.norm a=true) (Wm:n<16):∀(m i:Nat) (acc:List UInt16) (k:UInt32),i+m=a.length→acc.length=i→k.toNat<2 ^ n→Nt.val acc+65536 ^ i * k.toNat=Nt.val (a.take i) * 2 ^ n →
  dv.l1 n acc k a a.length i=some [.sl .ws (Nt.of (Nt.val a * 2 ^ n))]:=by
 have Sp:2 ^ n≤32768:=Nat.pow_le_pow_right (n:=2) (by omega) (show n≤15 by omega)
 have T1:=Nat.two_pow_pos n
 intro m
 induction m with
 | zero =>
  intro i acc k hi hl hk hv
  refine dv.dE _ _ _ _ _ _ ?_
  intro v1 h1 v2 h2 v3 h3 v4 h4 v5 h5 v6 h6 v7 h7
  rw [List.take_of_length_le (by omega)] at hv
  rw [af (by omega),ax]
  have J1:i=a.length:=by omega
  have he:=Il (a:=a) (acc:=acc) (b:=2 ^ n) (c:=0) (k:=k.toNat) hn (by omega) T1 (by omega) (by rw [←J1,Nat.add_zero];exact hv)
  rw [Nat.add_zero] at he
  by_cases c0:k=0
  ·rw [c0,af (by decide),ax,dv.ow,he.1 (by rw [c0];rfl)]
  ·have jW:k.toNat≠0:=fun e=>c0 (UInt32.toNat_inj.1 e)
   have e7:v7=UInt16.ofNat k.toNat:=by rw [h7,jk]
   rw [ae (by rw [UInt32.lt_iff_toNat_lt];show 0<k.toNat;omega),aF,bD (gZ (by rw [az];omega) (by rw [az];omega)),dv.ow,e7,he.2 jW]
 | succ m ih =>
  intro i acc k hi hl hk hv
  refine dv.dE _ _ _ _ _ _ ?_
  intro v1 h1 v2 h2 v3 h3 v4 h4 v5 h5 v6 h6 v7 h7
  rw [aw] at h1 h3
  have hd:=v1.toNat_lt
  have hm:v1.toNat * 2 ^ n≤65535 * 32768:=Nat.mul_le_mul (by omega) Sp
  have e3:v3.toNat=k.toNat+v1.toNat * 2 ^ n:=by
   rw [h3,UInt32.toNat_or,qv,UInt32.toNat_ofNat',h2,j5,Nat.mod_eq_of_lt (by omega),Nat.or_comm,oi hk,Nat.add_comm]
  have e4:v4=UInt16.ofNat (k.toNat+v1.toNat * 2 ^ n):=by rw [h4,jk,e3]
  have e5:v5.toNat=(k.toNat+v1.toNat * 2 ^ n) / 65536:=by
   rw [h5,ue,UInt32.toNat_ofNat',e3,show (16:UInt64).toNat=16 from rfl];omega
  have e6:v6=((i+1:Nat):Int):=by rw [h6,i64_in _ (by omega)];omega
  rw [ae (by omega),aF,bD (cN (by omega) (by omega)),bD (ae (by omega)),bD (gZ (by rw [az];omega) (by rw [az];omega)),e6,e4]
  refine ih (i+1) _ v5 (by omega) (by rw [aq,hl];rfl) ?_ ?_
  ·rw [e5]
   have:(k.toNat+v1.toNat * 2 ^ n)<65536 * 2 ^ n:=by
    have:v1.toNat * 2 ^ n≤65535 * 2 ^ n:=ar _ (by omega)
    omega
   exact (Nat.div_lt_iff_lt_mul (by omega)).2 (by rw [Nat.mul_comm (2 ^ n) 65536];exact this)
  ·rw [dy a i (by omega),←h1,Nt.fx,hl,e5]
   simp only [Nt.val,Nat.mul_zero,Nat.add_zero,Nt.dB]
   generalize hq:k.toNat+v1.toNat * 2 ^ n=q
   rw [Nat.pow_succ,Nat.mul_assoc,Nat.add_assoc,←Nat.mul_add]
   have:q % 65536+65536 * (q / 65536)=q:=Nat.mod_add_div q 65536
   rw [this,←hq,Nat.mul_add,Nat.add_mul,←Nat.mul_assoc]
   omega
theorem dv.goal (a:List UInt16) (n:Int) (hp:(decide (a.length≤1000000∧0≤n∧n<16)&&Nt.norm a)=true):dv.F a n=some [.sl .ws (Nt.of (Nt.val a * 2 ^ n.toNat))]:=by
 simp only [aa,ay] at hp
 obtain ⟨⟨l1,n1,n2⟩,hn⟩:=hp
 rw [dv.jq]
 have:=dv.fo a n.toNat l1 hn (by omega) a.length 0 [] 0 (by omega) rfl (by show 0<2 ^ n.toNat;exact Nat.two_pow_pos _) (by simp [Nt.val])
 rw [show ((n.toNat:Nat):Int)=n by omega] at this
 exact this
end Go.Eng
namespace Go.Eng
open Go.IntWalk
theorem Jp:(65536:Nat) ^ 257=65536 ^ 256 * 65536:=by decide +kernel
theorem nW:∀k,Nt.val (List.replicate k 0)=0
 | 0=>rfl
 | k+1=>by rw [List.replicate_succ,Nt.val,nW k];rfl
theorem ft.goal (a:List UInt16) (n:Int) (hp:(decide (0≤n∧n≤4096)&&Nt.is a)=true):ft.F a n=some [.sl .ws (Nt.of (Nt.val a * 2 ^ n.toNat))]:=by
 simp only [aa,ay] at hp
 obtain ⟨⟨n1,n2⟩,ha⟩:=hp
 have hl:=Nt.iY ha
 have hn:=Nt.iU ha
 refine ft.dZ _ _ ?_
 intro v1 h1 v2 h2 v3 h3 v4 h4 v5 h5 v6 h6
 have d1:v1=false:=by rw [h1,ha,a8,ax];exact af (by omega)
 have d2:v2=false:=by rw [h2,d1,ax];exact af (by omega)
 rw [d2,ax] at h3
 obtain ⟨N,rfl⟩:∃N:Nat,n=N:=⟨n.toNat,by omega⟩
 have e4:v4=((N / 16:Nat):Int):=by
  rw [h4,i64_in _ (by rw [Int.tdiv_eq_ediv_of_nonneg (by omega)];omega),Int.tdiv_eq_ediv_of_nonneg (by omega)];omega
 have em:Int.tmod (N:Int) 16=((N % 16:Nat):Int):=by rw [Int.tmod_eq_emod_of_nonneg (by omega)];omega
 rw [em,aw] at h6
 rw [em]
 rw [e4,aw] at h5
 have T4:v6.length≤257:=by
  rw [h6]
  refine (Nt.jv _ 257).2 ?_
  have h7:=Nt.gB a
  have h8:65536 ^ a.length≤65536 ^ 256:=Nat.pow_le_pow_right (by omega) hl
  have h9:2 ^ (N % 16)≤65536:=Nat.pow_le_pow_right (n:=2) (by omega) (show N % 16≤16 by omega)
  rewrite [Jp]
  have kQ:Nt.val a * 2 ^ (N % 16)≤Nt.val a * 65536:=Nat.mul_le_mul_left _ h9
  omega
 have m1:tc v4 v4 2=true:=jJ.2 ⟨by omega,by omega,by omega,by rw [iT];omega⟩
 have m2:decide (a.length≤1000000∧0≤((N % 16:Nat):Int)∧((N % 16:Nat):Int)<16)=true:=ae (by omega)
 have m3:jo (v5.length+v6.length) 2=true:=gZ (by rw [h5,List.length_replicate];omega) (by rw [h5,List.length_replicate];omega)
 have m4:decide (a.length≤1099511627776)=true:=ae (by omega)
 simp only [d1,d2,ha,m1,m2,m3,m4,hn,bq,a8,Bool.false_or,Bool.or_true,Bool.true_or,bw,da,aw]
 by_cases c:a=[]
 ·have d3:v3=true:=by rw [h3,c];rfl
  rw [d3,aF,c,show Nt.val []=0 from rfl,Nat.zero_mul,Nt.gJ]
 ·have JZ:=List.length_pos_iff.2 c
  have d3:v3=false:=by rw [h3];exact af (by omega)
  rw [d3,ax,show (!decide ((16:Int)=0))=true from rfl,da,da]
  have e:Nt.val (v5++v6)=Nt.val a * 2 ^ N:=by
   rw [Nt.fx,h5,nW,List.length_replicate,h6,Nt.eG,Nat.zero_add,show (65536:Nat)=2 ^ 16 by decide,←Nat.pow_mul,Nat.mul_left_comm,←Nat.pow_add]
   congr 2;omega
  rw [←e,Nt.iM]
  have nO:=CQ hn c
  have Xb:v6≠[]:=by
   rw [h6,Nt.lC]
   ·simp
   ·exact Nat.mul_pos nO (Nat.two_pow_pos _)
  have:∀x y:List UInt16,y≠[]→Nt.norm (x++y)=Nt.norm y:=by
   intro x y hy
   induction x with
   | nil=>rfl
   | cons d x ih=>rw [List.cons_append,Nt.pA (by simp [hy]),ih]
  rw [this _ _ Xb,h6,Nt.qH]
where
 CQ {a:List UInt16} (h:Nt.norm a=true) (h0:a≠[]):0<Nt.val a:=Nt.qG h h0
def mU (n:Nat):List UInt16→List UInt16
 | []=>[]
 | d :: r=>UInt16.ofNat (d.toNat / 2 ^ n+(r.getD 0 0).toNat * 2 ^ (16 - n)) :: mU n r
theorem k0 (n:Nat):∀a,(mU n a).length=a.length
 | []=>rfl
 | d :: r=>by rw [mU,aP,aP,k0 n r]
theorem wg {n:Nat} (hn:n<16):∀a,Nt.val (mU n a)=Nt.val a / 2 ^ n
 | []=>by simp [mU,Nt.val]
 | d :: r=>by
  have ih:=wg hn r
  rw [mU,Nt.val,ih,Nt.val,Nt.dB]
  have hp:=Nat.two_pow_pos n
  have hd:=d.toNat_lt
  have hP:(2:Nat) ^ n * 2 ^ (16 - n)=65536:=by rw [←Nat.pow_add,show n+(16 - n)=16 by omega]
  have hR:∃h R,Nt.val r=h+65536 * R∧(r.getD 0 0).toNat=h∧h<65536:=by
   cases r with
   | nil=>exact ⟨0,0,rfl,rfl,by omega⟩
   | cons e s=>exact ⟨e.toNat,Nt.val s,rfl,rfl,e.toNat_lt⟩
  obtain ⟨h,R,e1,e2,e3⟩:=hR
  rw [e1,e2]
  generalize d.toNat=x at *
  have hq:x / 2 ^ n<2 ^ (16 - n):=(Nat.div_lt_iff_lt_mul hp).2 (by rw [Nat.mul_comm,hP];omega)
  have Me:=Nat.two_pow_pos (16 - n)
  generalize hA:(2:Nat) ^ n=A at *
  generalize hB:(2:Nat) ^ (16 - n)=B at *
  -- left: ((x / A+h * B) % 65536)+65536 * ((h+65536 * R) / A)
  have k1:(h+65536 * R) / A=h / A+B * R:=by
   rw [←hP,Nat.mul_assoc,Nat.add_mul_div_left _ _ hp]
  have k2:(x+65536 * (h+65536 * R)) / A=x / A+B * (h+65536 * R):=by
   conv=>lhs;rw [←hP,Nat.mul_assoc]
   rw [Nat.add_mul_div_left _ _ hp,hP]
  have k3:(x / A+h * B) % 65536+65536 * (h / A)=x / A+h * B:=by
   have h1:h=A * (h / A)+h % A:=(Nat.div_add_mod h A).symm
   have h2:=Nat.mod_lt h hp
   have h3:h * B=65536 * (h / A)+(h % A) * B:=by
    conv=>lhs;rw [h1]
    rw [Nat.add_mul,Nat.mul_right_comm,hP]
   have h4:(h % A+1) * B≤A * B:=ar _ h2
   rw [hP,Nat.succ_mul] at h4
   rw [h3,←Nat.add_assoc,Nat.add_right_comm,Nat.add_mul_mod_self_left,Nat.mod_eq_of_lt (by omega)]
  rw [k1,k2,Nat.mul_add,Nat.mul_add,←Nat.add_assoc,k3,Nat.mul_comm h B,Nat.mul_left_comm 65536 B R]
  omega
theorem wh {n:Nat}:∀(a:List UInt16) (i:Nat),i<a.length→(mU n a).getD i 0=UInt16.ofNat ((a.getD i 0).toNat / 2 ^ n+(a.getD (i+1) 0).toNat * 2 ^ (16 - n))
 | [],i,h=>by simp at h
 | d :: r,0,h=>by simp [mU]
 | d :: r,i+1,h=>by
  have:=wh (n:=n) r i (by simpa using h)
  simpa [mU] using this
theorem getD_set_ne {α:Type} (l:List α) (i:Nat) (x d:α) (h:i<l.length):(l.set i x).getD i d=x:=by
 simp [ak,h]
theorem pM {α:Type} (l:List α) (i:Nat) (x d:α) (h:i<l.length):(l.set i x).take (i+1)=l.take i++[x]:=by
 rw [List.take_add_one,List.take_set_of_le (Nat.le_refl _)]
 simp [h]
theorem cz.fo (a:List UInt16) (n:Nat) (ha:a.length≤1000000) (hn:n<16):∀(m i:Nat) (acc:List UInt16),i+m=a.length→acc.length=a.length→acc.take i=(mU n a).take i →
  cz.l1 a n a a.length i acc=some [.sl .ws (Nt.of (Nt.val a / 2 ^ n))]:=by
 intro m
 induction m with
 | zero =>
  intro i acc hi hl ht
  refine cz.dE _ _ _ _ _ _ ?_
  intro v1 h1 v2 h2 v3 h3 v4 h4 v5 h5 v6 h6 v7 h7 v8 h8 v9 h9
  rw [List.take_of_length_le (by omega),List.take_of_length_le (by rw [k0];omega)] at ht
  rw [af (by omega),ax,bD (ae (by omega)),ht,wg hn]
 | succ m ih =>
  intro i acc hi hl ht
  refine cz.dE _ _ _ _ _ _ ?_
  intro v1 h1 v2 h2 v3 h3 v4 h4 v5 h5 v6 h6 v7 h7 v8 h8 v9 h9
  rw [aw] at h1 h2 h4 h9
  rw [aw] at h2
  have e3:v3=((i+1:Nat):Int):=by rw [h3,i64_in _ (by omega)];omega
  have e7:v7=((16 - n:Nat):Int):=by rw [h7,i64_in _ (by omega)];omega
  rw [e3,aw] at h5
  rw [e7,aw] at h8
  have Hy:v2.length=a.length:=by rw [h2,List.length_set];exact hl
  have e4:v4=qu v1 n:=by rw [h4,h2,getD_set_ne _ _ _ _ (by omega)]
  have hx:∀l:List UInt16,l.length=a.length→cq (i:Int) l.length=true:=fun l h=>cN (by omega) (by omega)
  rw [ae (show (i:Int)<(a.length:Int) by omega),aF,bD (hx a rfl),bD (ae (by omega)),bD (hx acc hl),bD (ae (by rw [aw];omega))]
  have hd1:=v1.toNat_lt
  have hs:(qu v1 n).toNat=v1.toNat / 2 ^ n:=by
   rw [qu,UInt16.toNat_ofNat']
   exact Nat.mod_eq_of_lt (Nat.lt_of_le_of_lt (Nat.div_le_self _ _) hd1)
  have jA:=wh (n:=n) a i (by omega)
  rw [←h1] at jA
  have Qx:∀(l:List UInt16) (x:UInt16),l.length=a.length→l.take i=acc.take i→x=(mU n a).getD i 0→(l.set i x).take (i+1)=(mU n a).take (i+1):=by
   intro l x h1 h2 h3
   rw [pM l i x 0 (by omega),h2,ht,List.take_add_one (l:=mU n a),aA (by rw [k0];omega),h3,ak,aA (by rw [k0];omega)]
   rfl
  by_cases c:i+1<a.length
  ·rw [e3,ae (show ((i+1:Nat):Int)<(a.length:Int) by omega),aF,bD (hx v2 Hy),bD (ae (by rw [aw];omega)),bD (cN (by omega) (by omega)),bD (ae (by omega)),bD (hx v2 Hy),bD (ae (by rw [aw];omega))]
   refine cz.vV _ _ _ _ _ _ ?_
   intro u1 g1
   rw [g1,i64_in _ (by omega),show (i:Int)+1=((i+1:Nat):Int) by omega]
   refine ih (i+1) v9 (by omega) (by rw [h9,List.length_set,Hy]) ?_
   rw [h9]
   refine Qx v2 _ Hy (by rw [h2,List.take_set_of_le (Nat.le_refl _)]) ?_
   rw [jA,←h5,e4]
   apply UInt16.toNat_inj.1
   have hq:v1.toNat / 2 ^ n<2 ^ (16 - n):=(Nat.div_lt_iff_lt_mul (Nat.two_pow_pos n)).2 (by rw [←Nat.pow_add,show 16 - n+n=16 by omega];exact hd1)
   have e8:v8.toNat=v5.toNat * 2 ^ (16 - n) % 65536:=by
    rw [h8,jk,Nt.dB,qv,UInt32.toNat_ofNat',h6,j5];omega
   rw [UInt16.toNat_or,hs,e8,Nt.dB]
   have e9:v5.toNat * 2 ^ (16 - n) % 65536=(v5.toNat % 2 ^ n) * 2 ^ (16 - n):=by
    conv=>lhs;rw [show (65536:Nat)=2 ^ n * 2 ^ (16 - n) by rw [←Nat.pow_add,show n+(16 - n)=16 by omega]]
    rw [Nat.mul_mod_mul_right]
   have xX:(v5.toNat % 2 ^ n) * 2 ^ (16 - n)+v1.toNat / 2 ^ n<65536:=by
    have h1:=Nat.mod_lt v5.toNat (Nat.two_pow_pos n)
    have h2:(v5.toNat % 2 ^ n+1) * 2 ^ (16 - n)≤2 ^ n * 2 ^ (16 - n):=ar _ h1
    rw [←Nat.pow_add,show n+(16 - n)=16 by omega,Nat.succ_mul] at h2
    omega
   have mY:v1.toNat / 2 ^ n % 65536=v1.toNat / 2 ^ n:=Nat.mod_eq_of_lt (by omega)
   have Mq:(v1.toNat / 2 ^ n+v5.toNat * 2 ^ (16 - n)) % 65536=(v5.toNat % 2 ^ n) * 2 ^ (16 - n)+v1.toNat / 2 ^ n:=by
    rw [Nat.add_mod,mY,e9,Nat.add_comm,Nat.mod_eq_of_lt xX]
   rw [Mq,e9,Nat.or_comm,oi hq]
  ·rw [e3,af (show ¬((i+1:Nat):Int)<(a.length:Int) by omega),ax]
   refine cz.vV _ _ _ _ _ _ ?_
   intro u1 g1
   rw [g1,i64_in _ (by omega),show (i:Int)+1=((i+1:Nat):Int) by omega]
   refine ih (i+1) v2 (by omega) Hy ?_
   rw [h2]
   refine Qx acc _ hl rfl ?_
   rw [jA]
   apply UInt16.toNat_inj.1
   have:a.getD (i+1) 0=0:=by rw [ak,List.getElem?_eq_none (by omega)];rfl
   rw [hs,this,Nt.dB,show (0:UInt16).toNat=0 from rfl,Nat.zero_mul,Nat.add_zero,Nat.mod_eq_of_lt (Nat.lt_of_le_of_lt (Nat.div_le_self _ _) hd1)]
theorem cz.goal (a:List UInt16) (n:Int) (hp:decide (a.length≤1000000∧0≤n∧n<16)=true):cz.F a n=some [.sl .ws (Nt.of (Nt.val a / 2 ^ n.toNat))]:=by
 obtain ⟨l1,n1,n2⟩:=aN hp
 refine cz.dZ _ _ ?_
 intro v1 h1
 rw [aw] at h1
 rw [bD (jJ.2 ⟨by omega,by omega,by omega,by rw [iT];omega⟩)]
 have:=cz.fo a n.toNat l1 (by omega) a.length 0 v1 (by omega) (by rw [h1];simp) (by simp)
 rw [show ((n.toNat:Nat):Int)=n by omega] at this
 exact this
end Go.Eng
namespace Go.Eng
open Go.IntWalk
theorem qo (a:List UInt16) (i:Nat) (h:i<a.length):Nt.val (a.drop i)=(a.getD i 0).toNat+65536 * Nt.val (a.drop (i+1)):=by
 rw [drop_cons h 0,Nt.val]
theorem dh.fo (a:List UInt16) (d:UInt16) (ha:a.length≤1000000) (hd:0<d.toNat):∀(n:Nat) (q:List UInt16) (r:UInt32),n≤a.length→q.length=a.length→Nt.val (q.drop n)=Nt.val (a.drop n) / d.toNat→r.toNat=Nt.val (a.drop n) % d.toNat →
  dh.l1 a d r ((n:Int) - 1) q=some [.sl .ws (Nt.of (Nt.val a / d.toNat)),.u16 (UInt16.ofNat (Nt.val a % d.toNat))]:=by
 intro n
 induction n with
 | zero =>
  intro q r hn hl hq hr
  refine dh.dE _ _ _ _ _ ?_
  intro v1 h1 v2 h2 v3 h3 v4 h4 v5 h5 v6 h6 v7 h7 v8 h8
  rw [aS,aS] at hq
  rw [aS] at hr
  rw [af (by omega),ax,bD (ae (by omega)),hq,h8,jk,hr]
 | succ n ih =>
  intro q r hn hl hq hr
  refine dh.dE _ _ _ _ _ ?_
  intro v1 h1 v2 h2 v3 h3 v4 h4 v5 h5 v6 h6 v7 h7 v8 h8
  have e:((n+1:Nat):Int) - 1=(n:Int):=by omega
  rw [e] at h2 h6 h7 ⊢
  rw [aw] at h2 h6
  have hd2:=d.toNat_lt
  have hv2:=v2.toNat_lt
  have LS:r.toNat<d.toNat:=by rw [hr];exact Nat.mod_lt _ hd
  have e4:v4.toNat=d.toNat:=by rw [h4,j5]
  have e3:v3.toNat=v2.toNat:=by rw [h3,j5]
  have e1:v1.toNat=r.toNat * 65536:=by
   rw [h1,qv,UInt32.toNat_ofNat',show (16:UInt64).toNat=16 from rfl];omega
  have Mp:(v1 ||| v3).toNat=r.toNat * 65536+v2.toNat:=by
   rw [UInt32.toNat_or,e1,e3]
   exact oi (a:=r.toNat) (b:=v2.toNat) (k:=16) hv2
  have hv4:v4≠0:=fun e0=>by
   have:=congrArg UInt32.toNat e0
   rw [e4] at this
   have Zm:(0:UInt32).toNat=0:=rfl
   omega
  have Xh:v5.toNat=(r.toNat * 65536+v2.toNat) / d.toNat:=by
   rw [h5,jk,Nt.dB,UInt32.toNat_div,Mp,e4]
   refine Nat.mod_eq_of_lt ((Nat.div_lt_iff_lt_mul hd).2 ?_)
   have:(r.toNat+1) * 65536≤d.toNat * 65536:=ar _ LS
   rw [Nat.mul_comm d.toNat 65536] at this
   omega
  have er:((v1 ||| v3) % v4).toNat=(r.toNat * 65536+v2.toNat) % d.toNat:=by
   rw [UInt32.toNat_mod,Mp,e4]
  have hx:cq (n:Int) a.length=true:=cN (by omega) (by omega)
  have Hv:cq (n:Int) q.length=true:=cN (by omega) (by omega)
  rw [ae (by omega),aF,bD hx,af hv4,bq,da,bD Hv,bD (ae (by rw [aw];omega)),da,h7,i64_in _ (by omega)]
  have hH:=qo a n (by omega)
  rw [←h2] at hH
  generalize Nt.val (a.drop (n+1))=H at hq hr hH
  have W7:H=d.toNat * (H / d.toNat)+r.toNat:=by rw [hr];exact (Nat.div_add_mod H d.toNat).symm
  have Pb:v2.toNat+65536 * H=(r.toNat * 65536+v2.toNat)+d.toNat * (65536 * (H / d.toNat)):=by
   conv=>lhs;rw [W7]
   rw [Nat.mul_add,Nat.mul_left_comm];omega
  refine ih v6 _ (by omega) (by rw [h6,List.length_set];exact hl) ?_ ?_
  ·rw [qo v6 n (by rw [h6,List.length_set];omega),h6,getD_set_ne _ _ _ _ (by omega),Xh,List.drop_set_of_lt (by omega),hq,hH,Pb,Nat.add_mul_div_left _ _ hd]
  ·rw [er,hH,Pb,Nat.add_mul_mod_self_left]
theorem dh.goal (a:List UInt16) (d:UInt16) (hp:decide (a.length≤1000000∧d≠0)=true):dh.F a d=some [.sl .ws (Nt.of (Nt.val a / d.toNat)),.u16 (UInt16.ofNat (Nt.val a % d.toNat))]:=by
 obtain ⟨l1,d0⟩:=aN hp
 have hd:0<d.toNat:=Nat.pos_of_ne_zero fun e=>d0 (UInt16.toNat_inj.1 e)
 refine dh.dZ _ _ ?_
 intro v1 h1 v2 h2
 rw [aw] at h1
 rw [bD (jJ.2 ⟨by omega,by omega,by omega,by rw [iT];omega⟩),h2,i64_in _ (by omega)]
 exact dh.fo a d l1 hd a.length v1 0 (Nat.le_refl _) (by rw [h1];simp) (by simp [Nt.val,h1]) (by simp [Nt.val])
theorem eC.goal (a b:List UInt16) (hp:(Nt.is a&&Nt.is b&&decide (b≠[]))=true):eC.F a b=some [.sl .ws (Nt.of (Nt.val a / Nt.val b)),.sl .ws (Nt.of (Nt.val a % Nt.val b)),.b true]:=by
 simp only [aa,ay] at hp
 obtain ⟨⟨ha,hb⟩,vv⟩:=hp
 have la:=Nt.iY ha
 have lb:=Nt.iY hb
 have na:=Nt.iU ha
 have nb:=Nt.iU hb
 have YO:=List.length_pos_iff.2 vv
 have pb:=Nt.qG nb vv
 refine eC.dZ _ _ ?_
 intro v1 h1 v2 h2 v3 h3 v4 h4 v5 h5 v6 h6 v7 h7 v8 h8 v9 h9 v10 kQ v11 mY v12 lO pL Ak mD zm mE A9
 rw [ha,hb] at h1
 have d1:v1=false:=h1
 have d2:v2=false:=by rw [h2,d1,ax];exact af (by omega)
 have m1:decide (a.length≤1099511627776)=true:=ae (by omega)
 have m2:decide (b.length≤1099511627776)=true:=ae (by omega)
 have m3:decide (a.length≤1099511627776∧b.length≤1099511627776)=true:=ae ⟨by omega,by omega⟩
 simp only [d1,d2,ha,m1,m2,m3,na,nb,bq,a8,Bool.false_or,Bool.or_true,Bool.true_or,bw,da,ax]
 by_cases c1:Nt.val a<Nt.val b
 ·have e3:v3=-1:=by rw [h3,Nt.cmp,aH c1]
  rw [e3,ae (by omega),aF,bD (gZ (by omega) (by omega)),Nat.div_eq_of_lt c1,Nt.gJ,Nat.mod_eq_of_lt c1,Nt.iM na]
 ·have e3:¬v3<0:=by rw [h3,Nt.cmp,aD c1];split <;> omega
  rw [af e3,ax]
  by_cases c2:b.length=1
  ·obtain ⟨d,rfl⟩:∃d,b=[d]:=List.length_eq_one_iff.1 c2
   have hd0:d≠0:=by simpa [Nt.norm] using nb
   have e4:v4=d:=by rw [h4];rfl
   have ev:Nt.val [d]=d.toNat:=by simp [Nt.val]
   rw [ae (by rw [c2];rfl),aF,bD (cN (by omega) (by rw [c2];omega)),e4,bD (ae ⟨by omega,hd0⟩),h5,h7,h6,e4,ev,fU,Nt.dB]
   have hm:Nt.val a % d.toNat<d.toNat:=Nat.mod_lt _ (Nat.pos_of_ne_zero fun e=>hd0 (UInt16.toNat_inj.1 e))
   have:=d.toNat_lt
   rw [Nat.mod_eq_of_lt (show Nt.val a % d.toNat<65536 by omega)]
  ·have l2:2≤b.length:=by omega
   rw [af (by omega),ax]
   rw [i64_in _ (by omega)] at h8
   have e8:v8=((b.length - 1:Nat):Int):=by omega
   rw [e8,aw] at h9
   obtain ⟨t1,t2⟩:=mQ nb vv
   rw [←h9] at t1 t2
   have V6:=v9.toNat_lt
   obtain ⟨p1,p2,p3⟩:=Nt.iO (n:=v9.toNat) (by omega)
   have pl:=Nt.kx (n:=v9.toNat) (k:=16) V6
   obtain ⟨s,hs⟩:∃s,s=16 - Nt.bits v9.toNat:=⟨_,rfl⟩
   have xX:v10=(s:Int):=by rw [kQ,i64_in _ (by omega)];omega
   have We:s<16:=by omega
   rw [xX,aw] at mY lO A9
   -- the Qs
   have Y4:v9.toNat * 2 ^ s<65536:=by
    have:v9.toNat * 2 ^ s<2 ^ Nt.bits v9.toNat * 2 ^ s:=Nat.mul_lt_mul_of_pos_right p2 (Nat.two_pow_pos s)
    rw [←Nat.pow_add,show Nt.bits v9.toNat+s=16 by omega] at this
    exact this
   have SX:32768≤v9.toNat * 2 ^ s:=by
    have:2 ^ (Nt.bits v9.toNat - 1) * 2 ^ s≤v9.toNat * 2 ^ s:=ar _ p1
    rw [←Nat.pow_add,show Nt.bits v9.toNat - 1+s=15 by omega] at this
    exact this
   have qi:=Nt.gB (b.take (b.length - 1))
   rw [aK,Nat.min_eq_left (by omega)] at qi
   generalize hP:65536 ^ (b.length - 1)=P at t2 qi
   have Up:65536 ^ b.length=65536 * P:=by rw [←hP,Nat.mul_comm,←Nat.pow_succ];congr 1;omega
   generalize hL:Nt.val (b.take (b.length - 1))=Lo at t2 qi
   have Uk:Nt.val b * 2 ^ s=Lo * 2 ^ s+P * (v9.toNat * 2 ^ s):=by rw [t2,Nat.add_mul,Nat.mul_assoc]
   have PS:Nt.val b * 2 ^ s<65536 ^ b.length:=by
    have h1:(v9.toNat+1) * 2 ^ s≤65536:=by
     have:(v9.toNat+1) * 2 ^ s≤2 ^ Nt.bits v9.toNat * 2 ^ s:=ar _ p2
     rw [←Nat.pow_add,show Nt.bits v9.toNat+s=16 by omega] at this
     exact this
    have h2:Lo * 2 ^ s+P * (v9.toNat * 2 ^ s)<P * ((v9.toNat+1) * 2 ^ s):=by
     rw [Nat.add_mul,Nat.one_mul,Nat.mul_add]
     have:Lo * 2 ^ s<P * 2 ^ s:=Nat.mul_lt_mul_of_pos_right qi (Nat.two_pow_pos s)
     omega
    have h3:P * ((v9.toNat+1) * 2 ^ s)≤P * 65536:=Nat.mul_le_mul_left _ h1
    rw [Uk,Up,Nat.mul_comm 65536 P]
    omega
   have S1:32768 * P≤Nt.val b * 2 ^ s:=by
    have:P * 32768≤P * (v9.toNat * 2 ^ s):=Nat.mul_le_mul_left _ SX
    rw [Uk,Nat.mul_comm 32768 P];omega
   have Df:v12=Nt.fix b.length (Nt.val b * 2 ^ s):=by
    rw [lO]
    refine Nt.Ll PS (.inr ?_)
    rw [hP];omega
   have SF:v12.length=b.length:=by rw [Df,Nt.kf]
   have FH:Nt.val v12=Nt.val b * 2 ^ s:=by rw [lO,Nt.eG]
   have LO:Nt.val v11=Nt.val a * 2 ^ s:=by rw [mY,Nt.eG]
   have xV:Nt.val v12≤Nt.val v11:=by rw [FH,LO];exact ar _ (by omega)
   have SG:v12.length≤v11.length:=by
    rcases Nat.lt_or_ge v11.length v12.length with h | h
    ·have:=Nt.rW (a:=v11) (b:=v12) (by rw [lO];exact Nt.qH _) h
     omega
    ·exact h
   have T5:v11.length≤257:=by
    rw [mY]
    refine (Nt.jv _ 257).2 ?_
    have h7:=Nt.gB a
    have h8:65536 ^ a.length≤65536 ^ 256:=Nat.pow_le_pow_right (by omega) la
    have h9:2 ^ s≤65536:=Nat.pow_le_pow_right (n:=2) (by omega) (show s≤16 by omega)
    rewrite [Jp]
    have kQ:Nt.val a * 2 ^ s≤Nt.val a * 65536:=Nat.mul_le_mul_left _ h9
    omega
   have rZ:32768≤(v12.getLast?.getD 0).toNat:=by
    have:v12.getLast?.getD 0=UInt16.ofNat (Nt.val b * 2 ^ s / 65536 ^ (b.length - 1)):=by
     rw [Df]
     conv=>lhs;rw [show b.length=b.length - 1+1 by omega]
     rw [Nt.zB]
     simp
    rw [this,Nt.dB,hP]
    have h1:Nt.val b * 2 ^ s / P<65536:=(Nat.div_lt_iff_lt_mul (by rw [←hP];exact Nat.pow_pos (by omega))).2 (by rw [←Up];exact PS)
    have h2:32768≤Nt.val b * 2 ^ s / P:=(Nat.le_div_iff_mul_le (by rw [←hP];exact Nat.pow_pos (by omega))).2 S1
    rw [Nat.mod_eq_of_lt h1];exact h2
   have m4:cq v8 b.length=true:=cN (by omega) (by omega)
   have m5:decide (a.length≤1000000∧0≤v10∧v10<16)=true:=ae (by omega)
   have m6:decide (b.length≤1000000∧0≤v10∧v10<16)=true:=ae (by omega)
   have m7:decide (v11.length≤1000000∧2≤v12.length∧v12.length≤v11.length∧32768≤(v12.getLast?.getD 0).toNat)=true:=ae ⟨by omega,by omega,SG,rZ⟩
   have YQ:pL.length=v11.length+1 - v12.length:=by rw [Ak,Nt.kf]
   have YP:mD.length=v12.length:=by rw [zm,Nt.kf]
   have m8:decide (pL.length≤1099511627776)=true:=ae (by omega)
   have m9:decide (mD.length≤1099511627776)=true:=ae (by omega)
   have hq:Nt.val v11 / Nt.val v12=Nt.val a / Nt.val b:=by rw [LO,FH,Nat.mul_div_mul_right _ _ (Nat.two_pow_pos s)]
   have hr:Nt.val v11 % Nt.val v12=Nt.val a % Nt.val b * 2 ^ s:=by rw [LO,FH,Nat.mul_mod_mul_right]
   have Mo:Nt.val mD=Nt.val a % Nt.val b * 2 ^ s:=by
    rw [zm,Nt.po,hr,Nat.mod_eq_of_lt]
    have h1:Nt.val a % Nt.val b * 2 ^ s<Nt.val b * 2 ^ s:=Nat.mul_lt_mul_of_pos_right (Nat.mod_lt _ pb) (Nat.two_pow_pos s)
    rw [SF];omega
   have Mp:Nt.val pL=Nt.val a / Nt.val b:=by
    rw [Ak,Nt.po,hq,Nat.mod_eq_of_lt]
    have h1:=Nt.gB v11
    rw [←hq]
    refine (Nat.div_lt_iff_lt_mul (by rw [FH];exact Nat.mul_pos pb (Nat.two_pow_pos s))).2 ?_
    have h2:65536 ^ (v11.length+1 - v12.length) * P≤65536 ^ (v11.length+1 - v12.length) * Nt.val v12:=Nat.mul_le_mul_left _ (by rw [FH];omega)
    rw [←hP,←Nat.pow_add,show v11.length+1 - v12.length+(b.length - 1)=v11.length by omega] at h2
    omega
   have m10:decide ((Nt.of (Nt.val mD)).length≤1000000∧0≤v10∧v10<16)=true:=by
    refine ae ⟨?_,by omega,by omega⟩
    have:=(Nt.jv (Nt.val mD) mD.length).2 (Nt.gB mD)
    omega
   rw [bD m4,bD (by rw [m5];rfl),bD (by rw [m6];rfl),bD m7,bD m8,bD m9,bD m10,Mp,A9,Nt.eG,Mo,Nat.mul_div_cancel _ (Nat.two_pow_pos s)]
end Go.Eng
namespace Go.Eng
open Go.IntWalk
theorem Dj {B v1 v2 top u2 g r V T P:Nat} (hP:0<P) (rZ:top=g * v1+r) (h:r * B+u2<g * v2) (hV:(v1 * B+v2) * P≤V) (hT:T<(top * B+u2+1) * P):T / V<g:=by
 have h1:top * B+u2+1≤g * (v1 * B+v2):=by
  rw [rZ,Nat.add_mul,Nat.mul_add,Nat.mul_assoc];omega
 have h2:(top * B+u2+1) * P≤g * V:=by
  have:=ar P h1
  rw [Nat.mul_assoc] at this
  exact Nat.le_trans this (Nat.mul_le_mul_left _ hV)
 have Aj:0<V:=by
  rcases Nat.eq_zero_or_pos V with e | e
  ·subst e;simp at h2;omega
  ·exact e
 exact (Nat.div_lt_iff_lt_mul Aj).2 (by omega)
theorem Ba {B v1 v2 top u2 g r V T P:Nat} (hB:g≤B) (rZ:top=g * v1+r) (h:g * v2≤r * B+u2) (Mc:V<(v1 * B+v2+1) * P) (MZ:B * P≤V) (hT:(top * B+u2) * P≤T) (Aj:0<V):g≤T / V+1:=by
 rcases Nat.eq_zero_or_pos g with e | hg
 ·rw [e];exact Nat.zero_le _
 have h1:g * (v1 * B+v2)≤top * B+u2:=by
  rw [rZ,Nat.add_mul,Nat.mul_add,Nat.mul_assoc];omega
 have h2:g * V<(g * (v1 * B+v2)+g) * P:=by
  have:=Nat.mul_lt_mul_of_pos_left Mc hg
  rw [←Nat.mul_assoc,Nat.mul_add,Nat.mul_one] at this
  exact this
 have h3:(g * (v1 * B+v2)) * P≤(top * B+u2) * P:=ar _ h1
 have h4:g * P≤B * P:=ar _ hB
 rw [Nat.add_mul] at h2
 have h5:g * V<T+V:=by omega
 have h6:(g - 1) * V≤T:=by
  have:g * V=(g - 1) * V+V:=by rw [←Nat.succ_mul];congr 1;omega
  omega
 have:=(Nat.le_div_iff_mul_le Aj).2 h6
 omega
theorem zn {B v1 top g r V T P:Nat} (hg:g≤B) (rZ:top=g * v1+r) (hr:B≤r) (hV:V≤(v1+1) * P) (Aj:0<V) (hT:top * P≤T):g≤T / V:=by
 refine (Nat.le_div_iff_mul_le Aj).2 ?_
 have h1:g * V≤g * ((v1+1) * P):=Nat.mul_le_mul_left _ hV
 have h2:g * ((v1+1) * P)=(g * v1+g) * P:=by rw [←Nat.mul_assoc,Nat.mul_add,Nat.mul_one]
 have h3:(g * v1+g) * P≤top * P:=ar _ (by omega)
 omega
theorem yt {x:UInt64} (h:x.toNat<65536 * 65536):(kM x 16).toNat=x.toNat * 65536:=by
 rw [kM,UInt64.toNat_ofNat'];omega
theorem Nv {a b:UInt64} {x:Nat} (ha:a.toNat=x * 65536) (hb:b.toNat<65536):(a ||| b).toNat=x * 65536+b.toNat:=by
 rw [UInt64.toNat_or,ha];exact oi (a:=x) (b:=b.toNat) (k:=16) hb
theorem yd {g:UInt64} (h:0<g.toNat):(g - 1).toNat=g.toNat - 1:=by
 have:=UInt64.toNat_sub_of_le g 1 (bk.2 h)
 exact this
theorem bG.lF (v w qs:List UInt16) (n j:Nat) (hn:n=v.length) (h2:2≤n) (hj:j+n<w.length) (hl:w.length≤1000001) {V T P top:Nat} (hP:0<P)
  (hv1:32768≤(v.getD (n - 1) 0).toNat) (rZ:top=(w.getD (j+n) 0).toNat * 65536+(w.getD (j+n - 1) 0).toNat)
  (Mb:((v.getD (n - 1) 0).toNat * 65536+(v.getD (n - 2) 0).toNat) * P≤V) (QJ:V<((v.getD (n - 1) 0).toNat * 65536+(v.getD (n - 2) 0).toNat+1) * P)
  (IL:(top * 65536+(w.getD (j+n - 2) 0).toNat) * P≤T) (QK:T<(top * 65536+(w.getD (j+n - 2) 0).toNat+1) * P) (hq:T / V≤65535) :
  ∀(m:Nat) (g r:UInt64),g.toNat≤m→g.toNat≤65537→top=g.toNat * (v.getD (n - 1) 0).toNat+r.toNat→r.toNat≤65535→T / V≤g.toNat →
   ∃g':UInt64,T / V≤g'.toNat∧g'.toNat≤T / V+1∧g'.toNat≤65535∧bG.l2 v n j g r w qs=bG.j3 v n j g' w qs:=by
 intro m
 induction m with
 | zero =>
  intro g r hg hg2 ht hr Sl
  -- nothing is left to take XF
  have g0:g.toNat=0:=by omega
  refine ⟨g,Sl,by rw [g0];exact Nat.zero_le _,by omega,?_⟩
  refine bG.jw _ _ _ _ _ _ _ ?_
  intro u1 h1 u2 Ck u3 h3 u4 h4 u5 h5 u6 h6 u7 h7 u8 h8 u9 h9 Q1 kQ Vv mY Ah lO
  have f1:decide ((65535:UInt64)<g)=false:=af fun e=>by
   have:=bp.1 e
   have e0:(65535:UInt64).toNat=65535:=rfl
   omega
  have e1:u1=((n - 2:Nat):Int):=by rw [h1,i64_in _ (by omega)];omega
  have e5:u5=((j+n - 2:Nat):Int):=by rw [h5,i64_in ((j:Int)+n) (by omega),i64_in _ (by omega)];omega
  have x1:cq u1 v.length=true:=cN (by omega) (by omega)
  have x2:cq u5 w.length=true:=cN (by omega) (by omega)
  have x3:decide (u5.toNat<w.length)=true:=ae (by omega)
  have e8:u8=false:=by
   rw [h8]
   refine af fun e=>?_
   have:=bp.1 e
   rw [UInt64.toNat_mul,g0,Nat.zero_mul,Nat.zero_mod] at this
   omega
  have e9:u9=false:=by rw [h9,f1,ax,e8]
  simp only [f1,e9,x1,x2,x3,bq,a8,Bool.false_or,Bool.or_true,Bool.true_or,bw,da,ax]
 | succ m ih =>
  intro g r hg hg2 ht hr Sl
  have hB:(65535:UInt64).toNat=65535:=rfl
  have w1:=(v.getD (n - 1) 0).toNat_lt
  have w2:=(v.getD (n - 2) 0).toNat_lt
  have w3:=(w.getD (j+n - 2) 0).toNat_lt
  have step:∀ρ:OT,(∀(u9:Bool),u9=decide (65535<g.toNat∨r.toNat * 65536+(w.getD (j+n - 2) 0).toNat<g.toNat * (v.getD (n - 2) 0).toNat)→∀Ah:UInt64,Ah.toNat=(v.getD (n - 1) 0).toNat →
    cond u9 (cond (decide ((65535:UInt64)<(r+Ah))) (bG.j3 v n j (g - 1) w qs) (bG.l2 v n j (g - 1) (r+Ah) w qs)) (bG.j3 v n j g w qs)=ρ)→bG.l2 v n j g r w qs=ρ:=by
   intro ρ Qu
   refine bG.jw _ _ _ _ _ _ _ ?_
   intro u1 h1 u2 Ck u3 h3 u4 h4 u5 h5 u6 h6 u7 h7 u8 h8 u9 h9 Q1 kQ Vv mY Ah lO
   have e1:u1=((n - 2:Nat):Int):=by rw [h1,i64_in _ (by omega)];omega
   have e5:u5=((j+n - 2:Nat):Int):=by rw [h5,i64_in ((j:Int)+n) (by omega),i64_in _ (by omega)];omega
   have xX:Q1=((n - 1:Nat):Int):=by rw [kQ,i64_in _ (by omega)];omega
   rw [e1,aw] at Ck
   rw [e5,aw] at h6
   rw [xX,aw] at mY
   have x1:cq u1 v.length=true:=cN (by omega) (by omega)
   have x2:cq u5 w.length=true:=cN (by omega) (by omega)
   have x3:decide (u5.toNat<w.length)=true:=ae (by omega)
   have x4:cq Q1 v.length=true:=cN (by omega) (by omega)
   have f3:u3.toNat=(v.getD (n - 2) 0).toNat:=by rw [h3,fU,Ck]
   have f7:u7.toNat=(w.getD (j+n - 2) 0).toNat:=by rw [h7,fU,h6]
   have f12:Ah.toNat=(v.getD (n - 1) 0).toNat:=by rw [lO,fU,mY]
   have f4:u4.toNat=r.toNat * 65536:=by rw [h4];exact yt (by omega)
   have f47:=Nv f4 (b:=u7) (by omega)
   have hm:g.toNat * (v.getD (n - 2) 0).toNat≤65537 * 65535:=Nat.mul_le_mul hg2 (by omega)
   have fm:(g * u3).toNat=g.toNat * (v.getD (n - 2) 0).toNat:=by rw [UInt64.toNat_mul,f3,Nat.mod_eq_of_lt (by omega)]
   have TZ:=Qu u9 (by
    rw [h9,h8,bo]
    simp only [bp,hB,f47,fm,f7]
    by_cases c:65535<g.toNat
    ·simp [c]
    ·simp [c]) Ah f12
   cases hb:decide ((65535:UInt64)<g) with
   | true =>
    rw [hb,aF] at h9
    simp only [x1,x2,x3,x4,bq,a8,Bool.false_or,Bool.or_true,Bool.true_or,bw,Bool.or_self,bz,bB,da]
    exact TZ
   | false =>
    simp only [x1,x2,x3,x4,bq,a8,Bool.false_or,Bool.or_true,Bool.true_or,bw,Bool.or_self,bz,bB,da]
    exact TZ
  by_cases c:65535<g.toNat∨r.toNat * 65536+(w.getD (j+n - 2) 0).toNat<g.toNat * (v.getD (n - 2) 0).toNat
  ·have eO:T / V<g.toNat:=by
    rcases c with c | c
    ·omega
    ·exact Dj hP ht c Mb QK
   have hg0:0<g.toNat:=Nat.lt_of_le_of_lt (Nat.zero_le _) eO
   have gs:=yd (g:=g) hg0
   have tg:top=(g.toNat - 1) * (v.getD (n - 1) 0).toNat+(r.toNat+(v.getD (n - 1) 0).toNat):=by
    have:g.toNat * (v.getD (n - 1) 0).toNat=(g.toNat - 1) * (v.getD (n - 1) 0).toNat+(v.getD (n - 1) 0).toNat:=by rw [←Nat.succ_mul];congr 1;omega
    omega
   by_cases c2:65535<r.toNat+(v.getD (n - 1) 0).toNat
   ·have Aj:0<V:=Nat.lt_of_lt_of_le (Nat.mul_pos (by omega) hP) Mb
    have hle:g.toNat - 1≤T / V:=by
     refine zn (B:=65536) (P:=65536 * P) (by omega) tg (by omega) ?_ Aj ?_
     ·have e:((v.getD (n - 1) 0).toNat+1) * (65536 * P)=(((v.getD (n - 1) 0).toNat+1) * 65536) * P:=by rw [Nat.mul_assoc]
      rw [e]
      refine Nat.le_trans (Nat.le_of_lt QJ) (ar _ (by omega))
     ·have e:top * (65536 * P)=(top * 65536) * P:=by rw [Nat.mul_assoc]
      rw [e]
      exact Nat.le_trans (ar _ (by omega)) IL
    refine ⟨g - 1,by omega,by rw [gs];exact Nat.le_succ_of_le hle,by omega,step _ fun u9 h9 Ah lO=>?_⟩
    have e:(r+Ah).toNat=r.toNat+(v.getD (n - 1) 0).toNat:=by rw [UInt64.toNat_add,lO,Nat.mod_eq_of_lt (by omega)]
    rw [h9,ae c,aF,ae (by rw [bp,e,hB];exact c2),aF]
   ·have e:∀Ah:UInt64,Ah.toNat=(v.getD (n - 1) 0).toNat→(r+Ah).toNat=r.toNat+(v.getD (n - 1) 0).toNat:=fun Ah lO=>by rw [UInt64.toNat_add,lO,Nat.mod_eq_of_lt (by omega)]
    obtain ⟨g',i1,i2,i3,i4⟩:=ih (g - 1) (r+UInt64.ofInt ((v.getD (n - 1) 0).toNat:Int)) (by omega) (by omega) (by rw [gs,e _ (fU _)];exact tg) (by rw [e _ (fU _)];omega) (by omega)
    refine ⟨g',i1,i2,i3,step _ fun u9 h9 Ah lO=>?_⟩
    have Mq:Ah=UInt64.ofInt ((v.getD (n - 1) 0).toNat:Int):=bt.1 (by rw [lO,fU])
    rw [h9,ae c,aF,af (by rw [bp,e _ lO,hB];exact c2),ax,Mq]
    exact i4
  ·have c1:g.toNat≤65535:=by omega
   refine ⟨g,Sl,Ba (B:=65536) (by omega) ht (by omega) QJ ?_ IL (Nat.lt_of_lt_of_le (Nat.mul_pos (by omega) hP) Mb),c1,step _ fun u9 h9 Ah lO=>?_⟩
   ·refine Nat.le_trans (ar _ ?_) Mb
    omega
   ·rw [h9,af c,ax]
end Go.Eng
namespace Go.Eng
open Go.IntWalk
theorem oR {α:Type} (l:List α) (j i:Nat) (x:α):(l.set (j+i) x).drop j=(l.drop j).set i x:=by
 rw [List.drop_set,aD (by omega)];congr 1;omega
theorem kz (w:List UInt16) (j i:Nat) (h:j+i<w.length):Nt.val ((w.drop j).take (i+1))=Nt.val ((w.drop j).take i)+65536 ^ i * (w.getD (j+i) 0).toNat:=by
 have:=dy (w.drop j) i (by rw [bm];omega)
 rw [this]
 congr 3
 simp [ak]
theorem wz (w:List UInt16) (j i:Nat) (d:UInt16) (h:j+i<w.length):Nt.val (((w.set (j+i) d).drop j).take (i+1))=Nt.val ((w.drop j).take i)+65536 ^ i * d.toNat:=by
 rw [kz _ _ _ (by rw [List.length_set];exact h),getD_set_ne _ _ _ _ h,oR,List.take_set_of_le (Nat.le_refl _)]
theorem Al (w:List UInt16) (j i:Nat):Nt.val ((w.drop j).take i)<65536 ^ i:=by
 refine Nat.lt_of_lt_of_le (Nt.gB _) (Nat.pow_le_pow_right (by omega) ?_)
 rw [aK];omega
theorem IW (x:Int):Int.fdiv x (2 ^ (min (16:UInt64).toNat IntKind.i64.bits))=x / 65536:=by
 rw [show (2:Int) ^ (min (16:UInt64).toNat IntKind.i64.bits)=65536 by decide,Int.fdiv_eq_ediv_of_nonneg _ (by omega)]
theorem z6 (x:Int) (h:x=0∨x=-1∨x=-2):dN .and .i64 x 1=x % 2:=by
 rcases h with rfl | rfl | rfl <;> decide
theorem vi (x:Int):(UInt16.ofInt x).toNat=(x % 65536).toNat:=by
 have h:=rE x
 rw [iQ] at h
 omega
theorem bG.Fw (v w0 qs:List UInt16) (n j:Nat) (g:UInt64) (hn:n=v.length) (hj:j+n<w0.length) (hl:w0.length≤1000001):∀(m i:Nat) (c:UInt32) (w:List UInt16),i+m=n→c.toNat≤1→w.length=w0.length→w.take j=w0.take j→w.drop (j+i)=w0.drop (j+i) →
   Nt.val ((w0.drop j).take i)+Nt.val (v.take i)=Nt.val ((w.drop j).take i)+65536 ^ i * c.toNat →
   ∃(c':Nat) (w':List UInt16),c'≤1∧w'.length=w0.length∧w'.take j=w0.take j∧w'.drop (j+n+1)=w0.drop (j+n+1)∧Nt.val ((w0.drop j).take n)+Nt.val v=Nt.val ((w'.drop j).take n)+65536 ^ n * c' ∧
    (w'.getD (j+n) 0).toNat=((w0.getD (j+n) 0).toNat+c') % 65536∧bG.l5 v n j g c n i w qs=bG.j6 v n j g w' qs:=by
 intro m
 induction m with
 | zero =>
  intro i c w hi hc ID ht hd hv
  obtain rfl:i=n:=by omega
  rw [List.take_of_length_le (l:=v) (by omega)] at hv
  have eO:j+i<w.length:=by omega
  refine ⟨c.toNat,w.set (j+i) (w.getD (j+i) 0+UInt16.ofNat c.toNat),hc,by rw [List.length_set];exact ID,by rw [List.take_set_of_le (by omega)];exact ht,?_,?_,?_,?_⟩
  ·rw [List.drop_set_of_lt (by omega),show j+i+1=(j+i)+1 from rfl,←List.drop_drop (l:=w),hd,List.drop_drop]
  ·rw [oR,List.take_set_of_le (Nat.le_refl _)];exact hv
  ·rw [getD_set_ne _ _ _ _ eO,UInt16.toNat_add,Nt.dB,Nat.add_mod_mod]
   congr 3
   have e1:w.getD (j+i) 0=(w.drop (j+i)).getD 0 0:=by simp [ak]
   have e2:w0.getD (j+i) 0=(w0.drop (j+i)).getD 0 0:=by simp [ak]
   rw [e1,e2,hd]
  ·refine bG.yZ _ _ _ _ _ _ _ _ _ ?_
   intro v1 h1 v2 h2 v3 h3 v4 h4 v5 h5 v6 h6 v7 h7 v8 h8 v9 h9 v10 kQ v11 mY v12 lO
   have Gq:IntKind.i64.wrap ((j:Int)+(i:Int))=((j+i:Nat):Int):=by rw [i64_in _ (by omega)];omega
   rw [Gq,aw] at h9
   rw [h9] at kQ lO
   rw [af (by omega),ax,Gq,bD (cN (by omega) (by omega)),bD (ae (by omega)),bD (cN (by omega) (by omega)),bD (ae (by omega)),lO,kQ,mY,jk]
 | succ m ih =>
  intro i c w hi hc ID ht hd hv
  have eO:j+i<w.length:=by omega
  have w1:=(w.getD (j+i) 0).toNat_lt
  have w2:=(v.getD i 0).toNat_lt
  have ew:w.getD (j+i) 0=w0.getD (j+i) 0:=by
   have e1:w.getD (j+i) 0=(w.drop (j+i)).getD 0 0:=by simp [ak]
   have e2:w0.getD (j+i) 0=(w0.drop (j+i)).getD 0 0:=by simp [ak]
   rw [e1,e2,hd]
  obtain ⟨s,hs⟩:∃s,s=c.toNat+((w.getD (j+i) 0).toNat+(v.getD i 0).toNat):=⟨_,rfl⟩
  obtain ⟨c',w',r1,r2,r3,r4,r5,r6,r7⟩:=ih (i+1) (UInt32.ofNat (s / 65536)) (w.set (j+i) (UInt16.ofNat s)) (by omega) (by simp;omega) (by rw [List.length_set];exact ID) (by rw [List.take_set_of_le (by omega)];exact ht)
   (by rw [List.drop_set_of_lt (by omega),show j+(i+1)=(j+i)+1 from rfl,←List.drop_drop (l:=w),hd,List.drop_drop]) (by
    rw [kz w0 j i (by omega),wz w j i _ eO,dy v i (by omega),Nt.dB]
    have e:(UInt32.ofNat (s / 65536)).toNat=s / 65536:=by simp;omega
    rw [e,Nat.pow_succ,Nat.mul_assoc,Nat.add_assoc (Nt.val ((w.drop j).take i)),←Nat.mul_add,Nat.mod_add_div,hs,←ew,Nat.mul_add,Nat.mul_add]
    omega)
  refine ⟨c',w',r1,r2,r3,r4,r5,r6,?_⟩
  rw [←r7]
  refine bG.yZ _ _ _ _ _ _ _ _ _ ?_
  intro v1 h1 v2 h2 v3 h3 v4 h4 v5 h5 v6 h6 v7 h7 v8 h8 v9 h9 v10 kQ v11 mY v12 lO
  have Gq:IntKind.i64.wrap ((i:Int)+(j:Int))=((j+i:Nat):Int):=by rw [i64_in _ (by omega)];omega
  rw [Gq,aw] at h1
  rw [h1] at h2
  rw [aw] at h4
  have es:(c+(v3+v5)).toNat=s:=by
   rw [UInt32.toNat_add,UInt32.toNat_add,h3,h5,j5,j5,h2,h4,hs];omega
  have e6:v6=UInt16.ofNat s:=by rw [h6,jk,es]
  have e7:v7=UInt32.ofNat (s / 65536):=by
   apply UInt32.toNat_inj.1
   rw [h7,ue,es,show (16:UInt64).toNat=16 from rfl]
  have e8:v8=((i+1:Nat):Int):=by rw [h8,i64_in _ (by omega)];omega
  rw [ae (by omega),aF,Gq,bD (cN (by omega) (by omega)),bD (ae (by omega)),bD (cN (by omega) (by omega)),bD (cN (by omega) (by omega)),bD (ae (by omega)),e6,e7,e8,h1]
end Go.Eng
namespace Go.Eng
open Go.IntWalk
theorem Qe (x:UInt64):(x &&& 65535).toNat=x.toNat % 65536:=by
 rw [UInt64.toNat_and,show (65535:UInt64).toNat=2 ^ 16 - 1 from rfl,Nat.and_two_pow_sub_one_eq_mod]
theorem qT {w w0:List UInt16} {k:Nat} (h:w.drop k=w0.drop k):w.getD k 0=w0.getD k 0:=by
 have e1:w.getD k 0=(w.drop k).getD 0 0:=by simp [ak]
 have e2:w0.getD k 0=(w0.drop k).getD 0 0:=by simp [ak]
 rw [e1,e2,h]
theorem sr {w w0:List UInt16} {k:Nat} (x:UInt16) (h:w.drop k=w0.drop k):(w.set k x).drop (k+1)=w0.drop (k+1):=by
 rw [List.drop_set_of_lt (by omega),←List.drop_drop (l:=w),h,List.drop_drop]
theorem bG.y0 (v w0 qs:List UInt16) (n j:Nat) (g:UInt64) (hn:n=v.length) (hj:j+n<w0.length) (hl:w0.length≤1000001) (hg:g.toNat≤65535) {T:Nat} (hT:T=Nt.val ((w0.drop j).take (n+1))) (Aj:0<Nt.val v) (hg1:T / Nt.val v≤g.toNat) (hg2:g.toNat≤T / Nt.val v+1) :
  ∀(m i b:Nat) (c:UInt64) (w:List UInt16),i+m=n→b≤1→c.toNat≤65535→w.length=w0.length→w.take j=w0.take j→w.drop (j+i)=w0.drop (j+i) →
   Nt.val ((w0.drop j).take i)+65536 ^ i * (b+c.toNat)=Nt.val ((w.drop j).take i)+g.toNat * Nt.val (v.take i) →
   ∃(q:UInt64) (w':List UInt16),q.toNat=T / Nt.val v∧w'.length=w0.length∧w'.take j=w0.take j∧w'.drop (j+n+1)=w0.drop (j+n+1)∧Nt.val ((w'.drop j).take (n+1))=T % Nt.val v∧bG.l4 v n j g b c n i w qs=bG.j6 v n j q w' qs:=by
 have WV:Nt.val v<65536 ^ n:=by rw [hn];exact Nt.gB v
 intro m
 induction m with
 | zero =>
  intro i b c w hi hb hc ID ht hd hv
  obtain rfl:i=n:=by omega
  rw [List.take_of_length_le (l:=v) (by omega)] at hv
  have eO:j+i<w.length:=by omega
  have V3:=Al w j i
  have ew:=qT hd
  have PT:=kz w0 j i (by omega)
  rw [←hT,←ew] at PT
  have w1:=(w.getD (j+i) 0).toNat_lt
  have Dh:=Nat.div_add_mod T (Nt.val v)
  have hR:=Nat.mod_lt T Aj
  generalize T / Nt.val v=q at *
  generalize Y6:T % Nt.val v=R at *
  generalize WW:Nt.val v=V at *
  generalize Uu:65536 ^ i=P at *
  generalize hx:Nt.val ((w.drop j).take i)=X at *
  generalize kO:Nt.val ((w0.drop j).take i)=X0 at *
  generalize hy:(w.getD (j+i) 0).toNat=y at *
  -- the top digit,less what is taken
  have FV:(V * q+R)+P * (b+c.toNat)=X+g.toNat * V+P * y:=by rw [Dh,PT];omega
  have step:∀ρ:OT,(∀v20:List UInt16,v20=w.set (j+i) (UInt16.ofInt ((y:Int) - b - c.toNat))→cond (decide ((y:Int) - b - c.toNat<0)) (bG.l5 v i j (g - 1) 0 i 0 v20 qs) (bG.j6 v i j g v20 qs)=ρ)→bG.l4 v i j g b c i i w qs=ρ:=by
   intro ρ Qu
   refine bG.sQ _ _ _ _ _ _ _ _ _ _ ?_
   intro v1 h1 v2 h2 v3 h3 v4 h4 v5 h5 v6 h6 v7 h7 v8 h8 v9 h9 v10 kQ v11 mY v12 lO pL Ak mD zm mE A9 Ag Mg Hn Ka Hm M3 DS M1 v20 J9
   have Gq:IntKind.i64.wrap ((j:Int)+(i:Int))=((j+i:Nat):Int):=by rw [i64_in _ (by omega)];omega
   rw [Gq,aw] at zm
   rw [zm] at A9 J9
   rw [A9,hy,i64_in _ (by omega)] at Mg
   have Tj:Hm=(c.toNat:Int):=by rw [M3,i64_in _ (by omega)]
   have Tk:Hn=(y:Int) - b:=by rw [Ka,i64_in _ (by omega),Mg]
   have P5:DS=(y:Int) - b - c.toNat:=by rw [M1,i64_in _ (by omega),Tk,Tj]
   rw [af (by omega),ax,Gq,bD (cN (by omega) (by omega)),bD (ae (by omega)),bD (cN (by omega) (by omega)),bD (ae (by omega)),P5]
   exact Qu v20 (by rw [J9,P5])
  by_cases cg:g.toNat=q
  ·-- the PX is right
   have e0:y=b+c.toNat:=by
    rw [cg,Nat.mul_comm q V] at FV
    rcases Nat.lt_trichotomy y (b+c.toNat) with h | h | h
    ·have:P * (y+1)≤P * (b+c.toNat):=Nat.mul_le_mul_left _ h
     rw [Nat.mul_add,Nat.mul_one] at this
     omega
    ·exact h
    ·have:P * (b+c.toNat+1)≤P * y:=Nat.mul_le_mul_left _ h
     rw [Nat.mul_add,Nat.mul_one] at this
     omega
   have eR:X=R:=by
    rw [cg,Nat.mul_comm q V,e0] at FV
    omega
   refine ⟨g,w.set (j+i) 0,cg,by rw [List.length_set];exact ID,by rw [List.take_set_of_le (by omega)];exact ht,sr 0 hd,?_,step _ fun v20 J9=>?_⟩
   ·rw [wz w j i 0 eO,hx,eR];simp
   ·rw [af (by omega),ax,J9,show (y:Int) - b - c.toNat=0 by omega];rfl
  ·-- the PX is one YE UB
   have Xx:g.toNat=q+1:=by omega
   have T0:g.toNat * V=V * q+V:=by rw [Xx,Nat.succ_mul,Nat.mul_comm]
   rw [T0] at FV
   have e0:y+1=b+c.toNat:=by
    rcases Nat.lt_trichotomy (y+1) (b+c.toNat) with h | h | h
    ·have:P * (y+2)≤P * (b+c.toNat):=Nat.mul_le_mul_left _ h
     rw [Nat.mul_add] at this
     omega
    ·exact h
    ·have:P * (b+c.toNat)≤P * y:=Nat.mul_le_mul_left _ (by omega)
     omega
   have eX:X+V=R+P:=by
    have:P * (b+c.toNat)=P * y+P:=by rw [←e0,Nat.mul_add,Nat.mul_one]
    omega
   have JS:(w.set (j+i) (65535:UInt16)).length=w.length:=List.length_set
   obtain ⟨c',w',r1,r2,r3,r4,r5,r6,r7⟩:=bG.Fw v (w.set (j+i) 65535) qs i j (g - 1) hn (by omega) (by omega) i 0 0 (w.set (j+i) 65535) (by omega) (by decide) rfl rfl rfl (by simp [Nt.val])
   rw [oR,List.take_set_of_le (Nat.le_refl _),hx,WW,Uu] at r5
   have O1:=Al w' j i
   rw [Uu] at O1
   have ec:c'=1:=by
    rcases Nat.lt_or_ge c' 1 with h | h
    ·obtain rfl:c'=0:=by omega
     rw [Nat.mul_zero] at r5;omega
    ·omega
   rw [ec,Nat.mul_one] at r5
   rw [getD_set_ne _ _ _ _ eO,ec,show ((65535:UInt16).toNat+1) % 65536=0 from rfl] at r6
   refine ⟨g - 1,w',by rw [yd (by omega)];omega,by omega,by rw [r3,List.take_set_of_le (by omega)];exact ht,by rw [r4];exact sr _ hd,?_,step _ fun v20 J9=>?_⟩
   ·rw [kz w' j i (by omega),r6,Nat.mul_zero,Nat.add_zero];omega
   ·rw [ae (by omega),aF,J9,show (y:Int) - b - c.toNat=-1 by omega]
    exact r7
 | succ m ih =>
  intro i b c w hi hb hc ID ht hd hv
  have eO:j+i<w.length:=by omega
  have w1:=(w.getD (j+i) 0).toNat_lt
  have w2:=(v.getD i 0).toNat_lt
  have ew:=qT hd
  have hm:g.toNat * (v.getD i 0).toNat≤65535 * 65535:=Nat.mul_le_mul hg (by omega)
  obtain ⟨p,hp⟩:∃p,p=g.toNat * (v.getD i 0).toNat+c.toNat:=⟨_,rfl⟩
  obtain ⟨y,hy⟩:∃y,y=(w.getD (j+i) 0).toNat:=⟨_,rfl⟩
  obtain ⟨z,hz⟩:∃z:Int,z=(y:Int) - b - ((p % 65536:Nat):Int):=⟨_,rfl⟩
  obtain ⟨b',zk⟩:∃b':Nat,b'=if z<0 then 1 else 0:=⟨_,rfl⟩
  have RZ:((z % 65536).toNat:Int)=z+65536 * b':=by
   rw [zk];split <;> omega
  have Hz:b'≤1:=by rw [zk];split <;> omega
  have ec:(UInt64.ofNat (p / 65536)).toNat=p / 65536:=by rw [UInt64.toNat_ofNat'];omega
  obtain ⟨q,w',r1,r2,r3,r4,r5,r6⟩:=ih (i+1) b' (UInt64.ofNat (p / 65536)) (w.set (j+i) (UInt16.ofInt z)) (by omega) Hz (by rw [ec];omega) (by rw [List.length_set];exact ID) (by rw [List.take_set_of_le (by omega)];exact ht) (sr _ hd) (by
   rw [kz w0 j i (by omega),wz w j i _ eO,dy v i (by omega),ec,vi,←ew,←hy,Nat.pow_succ,Nat.mul_assoc]
   have e1:y+65536 * b'=(z % 65536).toNat+b+p % 65536:=by omega
   have e2:p % 65536+65536 * (p / 65536)=p:=Nat.mod_add_div p 65536
   have e3:y+65536 * (b'+p / 65536)=(z % 65536).toNat+b+p:=by omega
   rw [Nat.add_assoc,←Nat.mul_add,e3,Nat.mul_add,Nat.mul_add,hp,Nat.mul_add]
   have e4:65536 ^ i * (b+c.toNat)=65536 ^ i * b+65536 ^ i * c.toNat:=Nat.mul_add _ _ _
   have e5:g.toNat * (Nt.val (v.take i)+65536 ^ i * (v.getD i 0).toNat)=g.toNat * Nt.val (v.take i)+65536 ^ i * (g.toNat * (v.getD i 0).toNat):=by rw [Nat.mul_add,Nat.mul_left_comm]
   omega)
  refine ⟨q,w',r1,r2,r3,r4,r5,?_⟩
  rw [←r6]
  refine bG.sQ _ _ _ _ _ _ _ _ _ _ ?_
  intro v1 h1 v2 h2 v3 h3 v4 h4 v5 h5 v6 h6 v7 h7 v8 h8 v9 h9 v10 kQ v11 mY v12 lO pL Ak mD zm mE A9 Ag Mg Hn Ka Hm M3 DS M1 v20 J9
  have Gq:IntKind.i64.wrap ((i:Int)+(j:Int))=((j+i:Nat):Int):=by rw [i64_in _ (by omega)];omega
  rw [Gq,aw] at h4
  rw [h4] at h5 lO
  rw [aw] at h1
  have f2:v2.toNat=(v.getD i 0).toNat:=by rw [h2,fU,h1]
  have fp:(g * v2+c).toNat=p:=by rw [UInt64.toNat_add,UInt64.toNat_mul,f2,hp];omega
  have f3:v3=UInt64.ofNat (p / 65536):=by
   apply bt.1
   rw [h3,ec]
   exact (yr _).trans (by rw [fp])
  have f6:v6=(y:Int):=by rw [h6,h5,i64_in _ (by omega),hy]
  have f7:v7.toNat=p % 65536:=by rw [h7,Qe,fp]
  have f8:v8=((p % 65536:Nat):Int):=by rw [h8,f7,i64_in _ (by omega)]
  have f9:v9=z:=by rw [h9,f6,f8,i64_in ((y:Int) - b) (by omega),i64_in _ (by omega),hz]
  have f10:v10=-(b':Int):=by rw [kQ,f9,IW,zk];split <;> omega
  have f11:v11=(b':Int):=by rw [mY,f10,z6 _ (by omega)];omega
  have f13:pL=((i+1:Nat):Int):=by rw [Ak,i64_in _ (by omega)];omega
  rw [ae (by omega),aF,Gq,bD (cN (by omega) (by omega)),bD (cN (by omega) (by omega)),bD (ae (by omega)),bD (cN (by omega) (by omega)),bD (ae (by omega)),f11,f3,f13,lO,f9]
end Go.Eng
namespace Go.Eng
open Go.IntWalk
theorem xu {v:List UInt16} (h:v≠[]):v.getLast?.getD 0=v.getD (v.length - 1) 0:=by
 obtain ⟨b,d,rfl⟩:∃b d,v=b++[d]:=⟨v.dropLast,v.getLast h,(List.dropLast_concat_getLast _).symm⟩
 rw [aq,az,Nat.add_sub_cancel,iu];simp
theorem rr (w:List UInt16) (k:Nat):Nt.val w=Nt.val (w.take k)+65536 ^ (w.take k).length * Nt.val (w.drop k):=by
 rw [←Nt.fx,List.take_append_drop]
theorem xv {w u:List UInt16} {k i:Nat} (h:w.take k=u.take k) (hi:i<k):w.getD i 0=u.getD i 0:=by
 have:=congrArg (fun l=>l.getD i 0) h
 simpa [ak,aM,hi] using this
theorem CA {w u:List UInt16} {k j:Nat} (h:w.take k=u.take k) (hj:j≤k):w.take j=u.take j:=by
 have:=congrArg (fun l=>l.take j) h
 simpa [List.take_take,Nat.min_eq_left hj] using this
theorem bG.fo (v U:List UInt16) (n:Nat) (hn:n=v.length) (h2:2≤n) (hU:n<U.length) (hl:U.length≤1000001) (hv1:32768≤(v.getD (n - 1) 0).toNat) :
  ∀(k:Nat) (w qs:List UInt16),k+n≤U.length→w.length=U.length→qs.length=U.length - n→w.take k=U.take k→Nt.val (w.drop k)=Nt.val (U.drop k) % Nt.val v→Nt.val (qs.drop k)=Nt.val (U.drop k) / Nt.val v →
   bG.l1 v n ((k:Int) - 1) w qs=some [.sl .ws (Nt.fix (U.length - n) (Nt.val U / Nt.val v)),.sl .ws (Nt.fix n (Nt.val U % Nt.val v))]:=by
 -- the Dv two Cg digits
 have e1:=dy v (n - 1) (by omega)
 have e2:=dy v (n - 2) (by omega)
 rw [show n - 1+1=n by omega,List.take_of_length_le (by omega)] at e1
 rw [show n - 2+1=n - 1 by omega] at e2
 have qi:=Nt.gB (v.take (n - 2))
 rw [aK,Nat.min_eq_left (by omega)] at qi
 have Md:65536 ^ (n - 1)=65536 ^ (n - 2) * 65536:=by rw [←Nat.pow_succ];congr 1;omega
 have Uq:0<65536 ^ (n - 2):=Nat.pow_pos (by omega)
 rw [Md] at e1
 have Uj:Nt.val v=Nt.val (v.take (n - 2))+65536 ^ (n - 2) * ((v.getD (n - 1) 0).toNat * 65536+(v.getD (n - 2) 0).toNat):=by
  rw [e1,e2,Nat.mul_add,Nat.mul_assoc,Nat.mul_comm (v.getD (n - 1) 0).toNat 65536];omega
 have Mb:((v.getD (n - 1) 0).toNat * 65536+(v.getD (n - 2) 0).toNat) * 65536 ^ (n - 2)≤Nt.val v:=by rw [Uj,Nat.mul_comm];omega
 have QJ:Nt.val v<((v.getD (n - 1) 0).toNat * 65536+(v.getD (n - 2) 0).toNat+1) * 65536 ^ (n - 2):=by
  rw [Uj,Nat.add_mul _ 1,Nat.one_mul,Nat.mul_comm ((v.getD (n - 1) 0).toNat * 65536+(v.getD (n - 2) 0).toNat)];omega
 have Aj:0<Nt.val v:=Nat.lt_of_lt_of_le (Nat.mul_pos (by omega) Uq) Mb
 have WV:Nt.val v<65536 ^ n:=by rw [hn];exact Nt.gB v
 intro k
 induction k with
 | zero =>
  intro w qs hk ID Qz ht hw hq
  refine bG.dE _ _ _ _ _ ?_
  intro v1 h1 v2 h2 v3 h3 v4 h4 v5 h5 v6 h6 v7 h7 v8 h8 v9 h9 v10 kQ
  rw [aS,aS] at hw hq
  rw [af (by omega),ax,bD (lJ (by omega) (by omega) (by omega)),aw]
  have eq:qs=Nt.fix (U.length - n) (Nt.val U / Nt.val v):=Nt.val_inj (by rw [Nt.kf,Qz]) (by
   rw [Nt.po,hq,Nat.mod_eq_of_lt]
   rw [←hq,←Qz];exact Nt.gB qs)
  have er:w.take n=Nt.fix n (Nt.val U % Nt.val v):=Nt.val_inj (by rw [Nt.kf,aK];omega) (by
   have hm:=Nat.mod_lt (Nt.val U) Aj
   have hs:=rr w n
   have R7:(w.take n).length=n:=by rw [aK];omega
   rw [R7] at hs
   have h0:Nt.val (w.drop n)=0:=by
    rcases Nat.eq_zero_or_pos (Nt.val (w.drop n)) with e | e
    ·exact e
    ·have:=Nat.mul_le_mul_left (65536 ^ n) e
     rw [Nat.mul_one] at this
     omega
   rw [h0,Nat.mul_zero,Nat.add_zero] at hs
   rw [Nt.po,Nat.mod_eq_of_lt (by omega),←hs,hw])
  rw [eq,er]
 | succ j ih =>
  intro w qs hk ID Qz ht hw hq
  have ek:((j+1:Nat):Int) - 1=(j:Int):=by omega
  rw [ek]
  -- what is QP now
  have hm:=Nat.mod_lt (Nt.val (U.drop (j+1))) Aj
  have hs:=rr (w.drop (j+1)) n
  have R7:((w.drop (j+1)).take n).length=n:=by rw [aK,bm];omega
  rw [R7] at hs
  have h0:Nt.val ((w.drop (j+1)).drop n)=0:=by
   rcases Nat.eq_zero_or_pos (Nt.val ((w.drop (j+1)).drop n)) with e | e
   ·exact e
   ·have:=Nat.mul_le_mul_left (65536 ^ n) e
    rw [Nat.mul_one] at this
    omega
  have hs:Nt.val (w.drop (j+1))=Nt.val ((w.drop (j+1)).take n):=by rw [h0,Nat.mul_zero] at hs;exact hs
  have hd:w.drop j=w.getD j 0 :: w.drop (j+1):=drop_cons (by omega) 0
  obtain ⟨T,hT⟩:∃T,T=Nt.val ((w.drop j).take (n+1)):=⟨_,rfl⟩
  have S2:T=(w.getD j 0).toNat+65536 * Nt.val (w.drop (j+1)):=by
   rw [hT,hd,List.take_succ_cons,Nt.val,←hs]
  have wj:=(w.getD j 0).toNat_lt
  have WY:T / Nt.val v≤65535:=by
   have:T<65536 * Nt.val v:=by rw [S2,hw];omega
   have:=(Nat.div_lt_iff_lt_mul Aj).2 this
   omega
  -- its Cg digits
  have t1:=kz w j n (by omega)
  have t2:=kz w j (n - 1) (by omega)
  have t3:=kz w j (n - 2) (by omega)
  rw [show n - 1+1=n by omega,show j+(n - 1)=j+n - 1 by omega] at t2
  rw [show n - 2+1=n - 1 by omega,show j+(n - 2)=j+n - 2 by omega] at t3
  have YR:=Al w j (n - 2)
  have W0:65536 ^ n=65536 ^ (n - 2) * (65536 * 65536):=by rw [show (65536 * 65536:Nat)=65536 ^ 2 by decide,←Nat.pow_add];congr 1;omega
  obtain ⟨top,rZ⟩:∃top,top=(w.getD (j+n) 0).toNat * 65536+(w.getD (j+n - 1) 0).toNat:=⟨_,rfl⟩
  have PT:T=Nt.val ((w.drop j).take (n - 2))+65536 ^ (n - 2) * (top * 65536+(w.getD (j+n - 2) 0).toNat):=by
   rw [hT,t1,t2,t3,W0,Md,rZ]
   generalize (w.getD (j+n) 0).toNat=a
   generalize (w.getD (j+n - 1) 0).toNat=b
   generalize (w.getD (j+n - 2) 0).toNat=c
   generalize 65536 ^ (n - 2)=P
   rw [Nat.mul_add,Nat.mul_assoc,Nat.mul_assoc,Nat.add_mul,Nat.mul_add,Nat.mul_comm b 65536,show a * 65536 * 65536=65536 * 65536 * a by rw [Nat.mul_assoc,Nat.mul_comm a]]
   omega
  have IL:(top * 65536+(w.getD (j+n - 2) 0).toNat) * 65536 ^ (n - 2)≤T:=by rw [PT,Nat.mul_comm];omega
  have QK:T<(top * 65536+(w.getD (j+n - 2) 0).toNat+1) * 65536 ^ (n - 2):=by
   rw [PT,Nat.add_mul _ 1,Nat.one_mul,Nat.mul_comm (top * 65536+(w.getD (j+n - 2) 0).toNat)];omega
  have a1:=(w.getD (j+n) 0).toNat_lt
  have a2:=(w.getD (j+n - 1) 0).toNat_lt
  have a3:=(v.getD (n - 1) 0).toNat_lt
  -- the Cg digit is at VG the Dv
  have Wa:(w.getD (j+n) 0).toNat≤(v.getD (n - 1) 0).toNat:=by
   have hA:T<65536 * Nt.val v:=by rw [S2,hw];omega
   rcases Nat.lt_or_ge (v.getD (n - 1) 0).toNat (w.getD (j+n) 0).toNat with h | h
   ·have g1:65536 ^ n * ((v.getD (n - 1) 0).toNat+1)≤65536 ^ n * (w.getD (j+n) 0).toNat:=Nat.mul_le_mul_left _ h
    have g2:65536 * Nt.val v<65536 ^ n * ((v.getD (n - 1) 0).toNat+1):=by
     have g3:Nt.val v<65536 ^ (n - 1) * ((v.getD (n - 1) 0).toNat+1):=by
      have:=Nt.gB (v.take (n - 1))
      rw [aK,Nat.min_eq_left (by omega),Md] at this
      rw [e1,Md,Nat.mul_add,Nat.mul_one];omega
     have g4:=Nat.mul_lt_mul_of_pos_left g3 (show 0<65536 by omega)
     have g5:65536 * (65536 ^ (n - 1) * ((v.getD (n - 1) 0).toNat+1))=65536 ^ n * ((v.getD (n - 1) 0).toNat+1):=by
      rw [←Nat.mul_assoc,Nat.mul_comm 65536,←Nat.pow_succ];congr 2;omega
     omega
    omega
   ·exact h
  obtain ⟨d,SR⟩:∃d,d=(v.getD (n - 1) 0).toNat:=⟨_,rfl⟩
  have SJ:top / d≤65537:=by
   have:top<65538 * d:=by rw [rZ];omega
   have:=(Nat.div_lt_iff_lt_mul (show 0<d by omega)).2 this
   omega
  have L6:T / Nt.val v≤top / d:=by
   -- T<(top+1) * B^(n-1),and the QO is at least d * B^(n-1)
   have g1:T<(top+1) * 65536 ^ (n - 1):=by
    refine Nat.lt_of_lt_of_le QK ?_
    rw [Md,Nat.mul_comm (65536 ^ (n - 2)) 65536,←Nat.mul_assoc]
    refine ar _ ?_
    have:=(w.getD (j+n - 2) 0).toNat_lt
    omega
   have g2:d * 65536 ^ (n - 1)≤Nt.val v:=by
    have h9:=e1
    rw [←SR,←Md] at h9
    rw [h9,Nat.mul_comm d];exact Nat.le_add_left _ _
   have g3:T / Nt.val v≤T / (d * 65536 ^ (n - 1)):=Nat.div_le_div_left g2 (Nat.mul_pos (by omega) (Nat.pow_pos (by omega)))
   have g4:T / (d * 65536 ^ (n - 1))=T / 65536 ^ (n - 1) / d:=by rw [Nat.mul_comm,Nat.div_div_eq_div_mul]
   have g5:T / 65536 ^ (n - 1)≤top:=by
    have:=(Nat.div_lt_iff_lt_mul (show 0<65536 ^ (n - 1) from Nat.pow_pos (by omega))).2 g1
    omega
   rw [g4] at g3
   exact Nat.le_trans g3 (Nat.div_le_div_right g5)
  have Sb:top<65536 * 65536:=by rw [rZ];omega
  -- the operands
  have key:∀(g r:UInt64),g.toNat=top / d→r.toNat=top % d→bG.l2 v n j g r w qs=some [.sl .ws (Nt.fix (U.length - n) (Nt.val U / Nt.val v)),.sl .ws (Nt.fix n (Nt.val U % Nt.val v))]:=by
   intro g r hg hr
   have Dh:=Nat.div_add_mod top d
   have YX:=Nat.mod_lt top (show 0<d by omega)
   obtain ⟨g',i1,i2,i3,i4⟩:=bG.lF v w qs n j hn (by omega) (by omega) (by omega) (V:=Nt.val v) (T:=T) (P:=65536 ^ (n - 2)) (top:=top) Uq hv1 rZ Mb QJ IL QK WY (top / d) g r (by omega) (by omega) (by rw [hg,hr,←SR,Nat.mul_comm];omega) (by omega) (by rw [hg];exact L6)
   rw [i4,bG.OU]
   obtain ⟨q,w',r1,r2,r3,r4,r5,r6⟩:=bG.y0 v w qs n j g' hn (by omega) (by omega) i3 hT Aj i1 i2 n 0 0 0 w (by omega) (by omega) (by decide) rfl rfl rfl (by simp [Nt.val])
   refine r6.trans ?_
   refine bG.OS _ _ _ _ _ _ ?_
   intro u1 k1 u2 k2 u3 k3
   rw [aw] at k2
   rw [bD (cN (by omega) (by omega)),bD (ae (by omega)),k3,i64_in _ (by omega)]
   have Um:=qo U j (by omega)
   have Xf:w.getD j 0=U.getD j 0:=xv ht (by omega)
   rw [←Xf] at Um
   have Ul:Nt.val (U.drop j)=T+Nt.val v * (65536 * (Nt.val (U.drop (j+1)) / Nt.val v)):=by
    have:=Nat.div_add_mod (Nt.val (U.drop (j+1))) (Nt.val v)
    rw [Um,S2,hw]
    conv=>lhs;rw [←this]
    rw [Nat.mul_add,Nat.mul_left_comm];omega
   refine ih w' u2 (by omega) (by omega) (by rw [k2,List.length_set];exact Qz) (by rw [r3];exact CA ht (by omega)) ?_ ?_
   ·have lj:=rr (w'.drop j) (n+1)
    have R6:((w'.drop j).take (n+1)).length=n+1:=by rw [aK,bm];omega
    have e3:(w'.drop j).drop (n+1)=(w.drop (j+1)).drop n:=by
     rw [List.drop_drop,List.drop_drop,show j+(n+1)=j+n+1 by omega,r4];congr 1;omega
    rw [R6,e3,h0,Nat.mul_zero,Nat.add_zero,r5] at lj
    rw [lj,Ul,Nat.add_mul_mod_self_left]
   ·have e4:(u2.getD j 0).toNat=T / Nt.val v:=by
     rw [k2,getD_set_ne _ _ _ _ (by omega),k1,nf,Nt.dB,r1,Nat.mod_eq_of_lt (by omega)]
    rw [qo u2 j (by rw [k2,List.length_set];omega),e4,k2,List.drop_set_of_lt (by omega),hq,Ul,Nat.add_mul_div_left _ _ Aj]
  refine bG.dE _ _ _ _ _ ?_
  intro v1 h1 v2 Ck v3 h3 v4 h4 v5 h5 v6 h6 v7 h7 v8 h8 v9 h9 v10 kQ
  have Xk:IntKind.i64.wrap ((j:Int)+(n:Int))=((j+n:Nat):Int):=by rw [i64_in _ (by omega)];omega
  rw [Xk] at h1 h5 ⊢
  rw [aw] at h1
  have e5:v5=((j+n - 1:Nat):Int):=by rw [h5,i64_in _ (by omega)];omega
  have e8:v8=((n - 1:Nat):Int):=by rw [h8,i64_in _ (by omega)];omega
  rw [h1] at Ck
  rw [e5,aw] at h6
  rw [e8,aw] at h9
  have f10:v10.toNat=d:=by rw [kQ,fU,h9,SR]
  have f3:v3.toNat=(w.getD (j+n) 0).toNat:=by rw [h3,fU,Ck]
  have f7:v7.toNat=(w.getD (j+n - 1) 0).toNat:=by rw [h7,fU,h6]
  have f4:v4.toNat=(w.getD (j+n) 0).toNat * 65536:=by rw [h4,←f3];exact yt (by omega)
  have f47:(v4 ||| v7).toNat=top:=by rw [Nv f4 (by omega),f7,rZ]
  have VF:v10≠0:=fun e=>by
   have:=congrArg UInt64.toNat e
   rw [f10] at this
   have e0:(0:UInt64).toNat=0:=rfl
   omega
  rw [ae (by omega),aF,bD (cN (by omega) (by omega)),bD (ae (by omega)),bD (cN (by omega) (by omega)),bD (ae (by omega)),bD (cN (by omega) (by omega)),af VF,bq,da,bD (cN (by omega) (by omega)),da]
  exact key _ _ (by rw [UInt64.toNat_div,f47,f10]) (by rw [UInt64.toNat_mod,f47,f10])
theorem bG.goal (u v:List UInt16) (hp:decide (u.length≤1000000∧2≤v.length∧v.length≤u.length∧32768≤(v.getLast?.getD 0).toNat)=true):bG.F u v=some [.sl .ws (Nt.fix (u.length+1 - v.length) (Nt.val u / Nt.val v)),.sl .ws (Nt.fix v.length (Nt.val u % Nt.val v))]:=by
 obtain ⟨l1,l2,l3,l4⟩:=aN hp
 rw [xu (by intro e;subst e;simp at l2)] at l4
 refine bG.dZ _ _ ?_
 intro v1 h1 v2 h2 v3 h3 v4 h4
 subst h1
 have hl:(u++[(0:UInt16)]).length=u.length+1:=by simp
 have e2:v2=((u.length+1 - v.length:Nat):Int):=by rw [h2,hl,i64_in _ (by omega)];omega
 have e4:v4=((u.length+1 - v.length:Nat):Int) - 1:=by rw [h4,e2,i64_in _ (by omega)]
 have hU:Nt.val (u++[0])=Nt.val u:=Nt.rz u
 have Aj:0<Nt.val v:=by
  have:=dy v (v.length - 1) (by omega)
  rw [show v.length - 1+1=v.length by omega,List.take_length] at this
  have h5:=Nat.mul_pos (show 0<65536 ^ (v.length - 1) from Nat.pow_pos (by omega)) (show 0<(v.getD (v.length - 1) 0).toNat by omega)
  omega
 have Pr:Nt.val ((u++[(0:UInt16)]).drop (u.length+1 - v.length))<Nt.val v:=by
  rw [List.drop_append_of_le_length (by omega),Nt.rz]
  have h6:=Nt.gB (u.drop (u.length+1 - v.length))
  rw [bm,show u.length - (u.length+1 - v.length)=v.length - 1 by omega] at h6
  have:=dy v (v.length - 1) (by omega)
  rw [show v.length - 1+1=v.length by omega,List.take_length] at this
  have h5:=Nat.mul_le_mul_left (65536 ^ (v.length - 1)) (show 1≤(v.getD (v.length - 1) 0).toNat by omega)
  omega
 have:=bG.fo v (u++[0]) v.length rfl l2 (by omega) (by omega) l4 (u.length+1 - v.length) (u++[0]) v3 (by omega) rfl (by rw [h3,e2];simp) rfl (Nat.mod_eq_of_lt Pr).symm (by
  rw [Nat.div_eq_of_lt Pr,h3,e2];simp [Nt.val])
 rw [hU,hl] at this
 rw [bD (gZ (by rw [az];omega) (by rw [az];omega)),bD (jJ.2 ⟨by omega,by omega,by omega,by rw [iT];omega⟩),e4]
 exact this
end Go.Eng
namespace Go.Eng
open Go.IntWalk Ieee
namespace Fl
theorem GD {s:Bool} {X N d:Nat} (h:X=N * 2 ^ d):Toward.zero.cut s X d=N:=by
 have e:Toward.zero.cut s X d=X / (1 <<< min d (X.log2+2)):=by
  unfold Toward.cut
  simp
 rw [e,Nat.one_shiftLeft]
 rcases Nat.eq_zero_or_pos N with rfl | hN
 ·rw [h];simp
 ·have hl:X.log2=N.log2+d:=by rw [h];exact nw N d (by omega)
  rw [Nat.min_eq_left (by omega),h,Nat.mul_div_cancel _ (Nat.two_pow_pos d)]
theorem WD.integral {d:Datum} {n:Int} (h:WD d n):∃s,d.integral .zero = .number s n.natAbs 0∧(n<0→s=true)∧(0<n→s=false):=by
 obtain ⟨s,m,p,rfl,hv,h1,h2⟩:=h
 refine ⟨s,?_,h1,h2⟩
 show Datum.number s (Toward.zero.cut s (m <<< p.toNat) (-p).toNat) 0=_
 rw [Nat.shiftLeft_eq,GD hv]
theorem WD.whole {s:Bool} {n:Int} (h1:n<0→s=true) (h2:0<n→s=false):WD (.number s n.natAbs 0) n:=⟨s,_,_,rfl,by unfold pj;simp,h1,h2⟩
theorem W.num {b:Nat} {n:Int} (h:W b n):Fl.num b=true:=by
 obtain ⟨s,m,p,hr,_⟩:=h
 show (!(double.read b).isNaN)=true
 rw [hr];rfl
theorem W.iH {b:Nat} {n:Int} (h:W b n) (hn:n.natAbs≤9007199254740992):W (Fl.iH b) n:=by
 obtain ⟨s,e,h1,h2⟩:=WD.integral h
 have e':(FloatKind.f64.decode b).integral .zero = .number s n.natAbs 0:=e
 unfold Fl.iH
 rw [e']
 exact (WD.whole h1 h2).write hn
theorem W.toInt {b:Nat} {n:Int} (h:W b n) (hn:n.natAbs≤9007199254740992):Fl.lR b=true∧Fl.toInt b=n:=by
 obtain ⟨s,e,h1,h2⟩:=WD.integral h
 have e':(FloatKind.f64.decode b).integral .zero = .number s n.natAbs 0:=e
 have e2:floatToIntVal .f64 b .i64=some n:=by
  unfold floatToIntVal Datum.toInt
  rw [e']
  have e3:signed s n.natAbs 0=n:=by
   have:=lv (s:=s) (m:=n.natAbs) (i:=0) (base:=0) (x:=n) (by unfold pj;simp) h1 h2 (by omega)
   simpa using this
  simp only [e3]
  have e4:IntKind.i64.min=-9223372036854775808:=by decide
  have e5:IntKind.i64.max=9223372036854775807:=by decide
  rw [e4,e5,aH (by omega)]
 unfold Fl.lR Fl.toInt
 rw [e2]
 exact ⟨rfl,rfl⟩
theorem W.ofInt {n:Int} (hn:n.natAbs≤9007199254740992):W (Fl.ofInt n) n:=yJ n hn
theorem W.add {a b:Nat} {x y:Int} (ha:W a x) (hb:W b y) (h:(x+y).natAbs≤9007199254740992):Fl.kR a b=true∧W (Fl.add a b) (x+y):=by
 obtain ⟨r,e,hr⟩:=DD ha hb h
 unfold Fl.kR Fl.add
 rw [e];exact ⟨rfl,hr⟩
theorem W.sub {a b:Nat} {x y:Int} (ha:W a x) (hb:W b y) (h:(x - y).natAbs≤9007199254740992):Fl.sG a b=true∧W (Fl.sub a b) (x - y):=by
 obtain ⟨r,e,hr⟩:=CC ha hb h
 unfold Fl.sG Fl.sub
 rw [e];exact ⟨rfl,hr⟩
theorem W.mul {a b:Nat} {x y:Int} (ha:W a x) (hb:W b y) (h:(x * y).natAbs≤9007199254740992):Fl.oq a b=true∧W (Fl.mul a b) (x * y):=by
 obtain ⟨r,e,hr⟩:=CW ha hb h
 unfold Fl.oq Fl.mul
 rw [e];exact ⟨rfl,hr⟩
theorem W.eq {a b:Nat} {x y:Int} (ha:W a x) (hb:W b y):Fl.eq a b=decide (x=y):=by
 unfold Fl.eq
 rw [ju ha hb]
 rcases Int.lt_trichotomy x y with c | c | c
 ·rw [Int.compare_eq_lt.2 c,af (by omega)];rfl
 ·subst c;simp
 ·rw [Int.compare_eq_gt.2 c,af (by omega)];rfl
theorem W.lt {a b:Nat} {x y:Int} (ha:W a x) (hb:W b y):Fl.lt a b=decide (x<y):=by
 unfold Fl.lt
 rw [ju ha hb]
 rcases Int.lt_trichotomy x y with c | c | c
 ·rw [Int.compare_eq_lt.2 c,ae c];rfl
 ·subst c;simp
 ·rw [Int.compare_eq_gt.2 c,af (by omega)];rfl
theorem W.gt {a b:Nat} {x y:Int} (ha:W a x) (hb:W b y):Fl.gt a b=decide (y<x):=by
 unfold Fl.gt
 rw [ju ha hb]
 rcases Int.lt_trichotomy x y with c | c | c
 ·rw [Int.compare_eq_lt.2 c,af (by omega)];rfl
 ·subst c;simp
 ·rw [Int.compare_eq_gt.2 c,ae c];rfl
theorem Tx:W 4719772409484279808 33554432:=by
 have e:Fl.ofInt 33554432=4719772409484279808:=by decide +kernel
 rw [←e];exact W.ofInt (by decide)
theorem Qg:W 4841369599423283200 4503599627370496:=by
 have e:Fl.ofInt 4503599627370496=4841369599423283200:=by decide +kernel
 rw [←e];exact W.ofInt (by decide)
theorem Qh:W 4832362400168542208 1125899906842624:=by
 have e:Fl.ofInt 1125899906842624=4832362400168542208:=by decide +kernel
 rw [←e];exact W.ofInt (by decide)
theorem Km:W 14055734437023318016 (-1125899906842624):=by
 have e:Fl.ofInt (-1125899906842624)=14055734437023318016:=by decide +kernel
 rw [←e];exact W.ofInt (by decide)
theorem Kp:W 0 0:=by
 have e:Fl.ofInt 0=0:=by decide +kernel
 rw [←e];exact W.ofInt (by decide)
theorem UJ:W 4607182418800017408 1:=by
 have e:Fl.ofInt 1=4607182418800017408:=by decide +kernel
 rw [←e];exact W.ofInt (by decide)
theorem Qf:W 13830554455654793216 (-1):=by
 have e:Fl.ofInt (-1)=13830554455654793216:=by decide +kernel
 rw [←e];exact W.ofInt (by decide)
end Fl
namespace Gz
theorem kv {z:Cx} {M:Nat}:sT z M=true ↔ In z M:=by classical exact (by unfold sT;exact decide_eq_true_iff)
theorem tH {l:Qd} {M:Nat}:vc l M=true ↔ Kt l M:=by classical exact (by unfold vc;exact decide_eq_true_iff)
theorem Cb {l:Qd}:JP l=true ↔ ∀k,k<4→U2 (part l (-1) k 4):=by unfold JP;simp only [ay]
theorem A2 {z:Cx} {b M:Nat} (h:In z M) (hb:Fl.W b (M:Int)) (hM:M≤9007199254740992):LJ z b=true:=by
 classical
 unfold LJ
 obtain ⟨x,y,h1,h2,h3⟩:=h
 exact ae ⟨x,y,M,h1,hb,by omega,by omega,by omega⟩
theorem In.le {z:Cx} {M N:Nat} (h:In z M) (hn:M≤N):In z N:=by
 obtain ⟨x,y,h1,h2,h3⟩:=h
 exact ⟨x,y,h1,by omega,by omega⟩
theorem AP {z w:Cx} {x y u v:Int} (hz:Is z x y) (hw:Is w u v) (h1:(x * u).natAbs≤2251799813685248) (h2:(y * v).natAbs≤2251799813685248) (h3:(x * v).natAbs≤2251799813685248) (h4:(y * u).natAbs≤2251799813685248) :
  Fl.oZ z.1 z.2 w.1 w.2=true∧Is (mul z w) (x * u - y * v) (x * v+y * u):=by
 obtain ⟨a1,b1⟩:=Fl.W.mul hz.1 hw.1 (by omega)
 obtain ⟨a2,b2⟩:=Fl.W.mul hz.2 hw.2 (by omega)
 obtain ⟨a3,b3⟩:=Fl.W.sub b1 b2 (by omega)
 obtain ⟨a4,b4⟩:=Fl.W.mul hz.1 hw.2 (by omega)
 obtain ⟨a5,b5⟩:=Fl.W.mul hz.2 hw.1 (by omega)
 obtain ⟨a6,b6⟩:=Fl.W.add b4 b5 (by omega)
 refine ⟨?_,b3,b6⟩
 unfold Fl.oZ
 rw [a1,a2,a3,a4,a5,a6];rfl
theorem Bv {z w:Cx} {x y u v:Int} (hz:Is z x y) (hw:Is w u v) (h1:(x+u).natAbs≤9007199254740992) (h2:(y+v).natAbs≤9007199254740992):(Fl.kR z.1 w.1&&Fl.kR z.2 w.2)=true∧Is (add z w) (x+u) (y+v):=by
 obtain ⟨a1,b1⟩:=Fl.W.add hz.1 hw.1 h1
 obtain ⟨a2,b2⟩:=Fl.W.add hz.2 hw.2 h2
 rw [a1,a2]
 exact ⟨rfl,b1,b2⟩
def rA (k:Int):Int:=if k % 4=0 then 1 else if k % 4=2 then -1 else 0
def rC (k:Int):Int:=if k % 4=1 then 1 else if k % 4=3 then -1 else 0
theorem mF (k:Int):rA k=0∨rA k=1∨rA k=-1:=by
 unfold rA
 split
 ·simp
 ·split <;> simp
theorem mH (k:Int):rC k=0∨rC k=1∨rC k=-1:=by
 unfold rC
 split
 ·simp
 ·split <;> simp
theorem HB (k:Int):Is (unit k) (rA k) (rC k):=by
 have h:k % 4=0∨k % 4=1∨k % 4=2∨k % 4=3:=by omega
 unfold unit rA rC
 rcases h with h | h | h | h <;> rw [h]
 ·exact ⟨Fl.UJ,Fl.Kp⟩
 ·exact ⟨Fl.Kp,Fl.UJ⟩
 ·exact ⟨Fl.Qf,Fl.Kp⟩
 ·exact ⟨Fl.Kp,Fl.Qf⟩
theorem wD {z:Cx} {x y:Int} (k:Int) (hz:Is z x y) (hx:x.natAbs≤1125899906842624) (hy:y.natAbs≤1125899906842624) :
  Fl.oZ z.1 z.2 (unit k).1 (unit k).2=true∧Is (ta z k) (x * rA k - y * rC k) (x * rC k+y * rA k):=by
 have hu:=HB k
 have h1:rA k=0∨rA k=1∨rA k=-1:=mF k
 have h2:rC k=0∨rC k=1∨rC k=-1:=mH k
 refine AP hz hu ?_ ?_ ?_ ?_
 ·rcases h1 with e | e | e <;> rw [e] <;> omega
 ·rcases h2 with e | e | e <;> rw [e] <;> omega
 ·rcases h2 with e | e | e <;> rw [e] <;> omega
 ·rcases h1 with e | e | e <;> rw [e] <;> omega
theorem BB {z:Cx} {k:Int} (h:In z 1125899906842624):In (ta z k) 2251799813685248:=by
 obtain ⟨x,y,hz,hx,hy⟩:=h
 refine ⟨_,_,(wD k hz hx hy).2,?_,?_⟩
 all_goals
  have h1:rA k=0∨rA k=1∨rA k=-1:=mF k
  have h2:rC k=0∨rC k=1∨rC k=-1:=mH k
  rcases h1 with e | e | e <;> rcases h2 with f | f | f <;> rw [e,f] <;> omega
end Gz
theorem cM.goal (x:Nat) (hp:(Fl.num x)=true):cM.F x=some [.c (.float .f64 (Fl.iH x))]:=by
 rw [cM.jq,aF,hp];rfl
theorem dq.goal (z:Cx) (hp:(Gz.sT z 33554432)=true):dq.F z=some [.b true]:=by
 rw [dq.jq,Gz.A2 (Gz.kv.1 hp) Fl.Tx (by omega)];rfl
theorem fP.goal (x y:Int) (hp:decide (-33554432≤x∧x≤33554432∧-33554432≤y∧y≤33554432)=true):fP.F x y=some [.c (.complex .f64 ((Fl.ofInt x,Fl.ofInt y):Cx).1 ((Fl.ofInt x,Fl.ofInt y):Cx).2)]:=by
 obtain ⟨h1,h2,h3,h4⟩:=aN hp
 refine fP.dZ _ _ ?_
 intro v1 e1 v2 e2 v3 e3 v4 e4
 have d1:v1=false:=by rw [e1,af (by omega),ax];exact af (by omega)
 have d2:v2=false:=by rw [e2,d1,ax];exact af (by omega)
 have d3:v3=false:=by rw [e3,d2,ax];exact af (by omega)
 simp only [bz,bB,Bool.not_not,da]
 rw [d3,ax,e4]
theorem db.goal (z:Cx) (hp:(Gz.sT z 4503599627370496)=true):db.F z=some [.i .i64 (Fl.toInt z.1),.i .i64 (Fl.toInt z.2),.b true]:=by
 have h:=Gz.kv.1 hp
 have hm:=Gz.A2 h Fl.Qg (by omega)
 obtain ⟨x,y,hz,hx,hy⟩:=h
 rw [db.jq,hm,(hz.1.toInt (by omega)).1,(hz.2.toInt (by omega)).1];rfl
theorem Hb (k:Int) (h1 : -100≤k) (h2:k≤100):dN .and .i64 k 3=k % 4:=by
 have:∀n:Nat,n<201→dN .and .i64 ((n:Int) - 100) 3=((n:Int) - 100) % 4:=by decide +kernel
 have:=this (k+100).toNat (by omega)
 rwa [show (((k+100).toNat:Nat):Int) - 100=k by omega] at this
theorem dO.goal (z:Cx) (k:Int) (hp:(Gz.sT z 1125899906842624&&decide (-100≤k∧k≤100))=true):dO.F z k=some [.c (.complex .f64 (Gz.ta z k).1 (Gz.ta z k).2)]:=by
 simp only [aa,ay] at hp
 obtain ⟨h,k1,k2⟩:=hp
 have h:=Gz.kv.1 h
 have hm:=Gz.A2 (h.le (show 1125899906842624≤4503599627370496 by omega)) Fl.Qg (by omega)
 obtain ⟨x,y,hz,hx,hy⟩:=h
 obtain ⟨c1,_⟩:=Gz.wD k hz hx hy
 refine dO.dZ _ _ ?_
 intro v1 h1 v2 h2 v3 h3 v4 h4 v5 h5 v6 h6 v7 h7
 rw [Hb k k1 k2] at h5
 have e6:v6=Gz.unit k:=by rw [h6,h1,h2,h3,h4,h5];rfl
 rw [hm,da,a8,ax,bD (cN (by omega) (by omega)),bD (ae (by omega)),e6,c1,da,h7,e6]
 rfl
theorem dr.goal (z w:Cx) (hp:(Gz.sT z 33554432&&Gz.sT w 33554432)=true):dr.F z w=some [.c (.complex .f64 (Gz.mul z w).1 (Gz.mul z w).2)]:=by
 simp only [aa] at hp
 obtain ⟨x,y,hz,hx,hy⟩:=Gz.kv.1 hp.1
 obtain ⟨u,v,hw,hu,hv⟩:=Gz.kv.1 hp.2
 have hm:∀a b:Int,a.natAbs≤33554432→b.natAbs≤33554432→(a * b).natAbs≤2251799813685248:=fun a b h1 h2=>by
  rw [Int.natAbs_mul]
  exact Nat.le_trans (Nat.mul_le_mul h1 h2) (by omega)
 obtain ⟨c1,_⟩:=Gz.AP hz hw (hm _ _ hx hu) (hm _ _ hy hv) (hm _ _ hx hv) (hm _ _ hy hu)
 refine dr.dZ _ _ ?_
 intro v1 h1 v2 h2
 have e1:v1=false:=h1
 rw [hp.1,hp.2,c1,e1,h2]
 rfl
theorem dJ.goal (x:Nat) (hp:(Gz.Iz x)=true):dJ.F x=some [.b true]:=by
 classical
 unfold Gz.Iz at hp
 obtain ⟨n,hn,hb⟩:=aN hp
 refine dJ.dZ _ ?_
 intro v1 h1 v2 h2 v3 h3
 have e1:v1=true:=by
  rw [h1,hn.gt Fl.Km,hn.eq Fl.Km]
  rcases Int.lt_or_eq_of_le (show (-1125899906842624:Int)≤n by omega) with c | c
  ·rw [ae c];rfl
  ·rw [ae c.symm,Bool.or_true]
 have e2:v2=true:=by
  rw [h2,hn.lt Fl.Qh,hn.eq Fl.Qh]
  rcases Int.lt_or_eq_of_le (show n≤(1125899906842624:Int) by omega) with c | c
  ·rw [ae c];rfl
  ·rw [ae c,Bool.or_true]
 have e3:v3=true:=by rw [h3,e1,e2,aF,aF,hn.eq (hn.iH (by omega)),ae rfl]
 rw [e1,e2,e3,hn.num]
 rfl
theorem Gz.In.parts {z:Cx} (h:Gz.In z 1125899906842624):Gz.Iz z.1=true∧Gz.Iz z.2=true:=by
 obtain ⟨x,y,h1,h2,h3⟩:=h
 classical
 unfold Gz.Iz
 exact ⟨ae ⟨x,h1.1,h2⟩,ae ⟨y,h1.2,h3⟩⟩
theorem Gz.Kt.get {l:Qd} {M:Nat} (h:Gz.Kt l M) (i:Nat) (hi:i<4):Gz.In (l.get i) M:=by
 obtain ⟨a,b,c,d⟩:=h
 have:i=0∨i=1∨i=2∨i=3:=by omega
 rcases this with rfl | rfl | rfl | rfl
 ·exact a
 ·exact b
 ·exact c
 ·exact d
theorem df.fo (l:Qd) (h:Gz.Kt l 1125899906842624):∀(m i:Nat),i+m=4→df.l1 l i=some [.b true]:=by
 intro m
 induction m with
 | zero =>
  intro i hi
  refine df.dE _ _ ?_
  intro v1 h1 v2 h2
  rw [af (by omega),ax]
 | succ m ih =>
  intro i hi
  refine df.dE _ _ ?_
  intro v1 h1 v2 h2
  have e1:v1=false:=h1
  have e2:v2=((i+1:Nat):Int):=by rw [h2,i64_in _ (by omega)];omega
  obtain ⟨p1,p2⟩:=(h.get i (by omega)).parts
  rw [ae (by omega),aF,bD (cN (by omega) (by omega)),aw,p1,p2,e1,e2]
  exact ih (i+1) (by omega)
theorem df.goal (l:Qd) (hp:(Gz.vc l 1125899906842624)=true):df.F l=some [.b true]:=by
 rw [df.jq];exact df.fo l (Gz.tH.1 hp) 4 0 (by omega)
theorem dK.goal (l:Qd) (hp:(Gz.vc l 1125899906842624)=true):dK.F l=some [.ag (Qd.cells (Gz.me l 1))]:=by
 rw [dK.jq,hp];rfl
end Go.Eng
namespace Go.Eng
open Go.IntWalk
theorem Qd.IU (q:Qd) (k:Nat) (x:Cx) (hk:k<4):(q.set k x).get k=x:=by
 have:k=0∨k=1∨k=2∨k=3:=by omega
 rcases this with rfl | rfl | rfl | rfl <;> rfl
theorem Qd.set_set (q:Qd) (k:Nat) (x y:Cx) (hk:k<4):(q.set k x).set k y=q.set k y:=by
 have:k=0∨k=1∨k=2∨k=3:=by omega
 rcases this with rfl | rfl | rfl | rfl <;> rfl
theorem Qd.nh (q:Qd) (k:Nat) (hk:k<4):q.set k (q.get k)=q:=by
 have:k=0∨k=1∨k=2∨k=3:=by omega
 rcases this with rfl | rfl | rfl | rfl <;> rfl
theorem Gz.BS {l:Qd} (h:Gz.Kt l 1125899906842624) (w:Int) (k:Nat):∀j,j≤4→Gz.In (Gz.part l w k j) (j * 2251799813685248)
 | 0,_=>⟨0,0,⟨Fl.Kp,Fl.Kp⟩,by omega,by omega⟩
 | j+1,hj=>by
  obtain ⟨x,y,h1,h2,h3⟩:=Gz.BS h w k j (by omega)
  obtain ⟨u,v,g1,g2,g3⟩:=Gz.BB (k:=j * k * w) (h.get j (by omega))
  obtain ⟨_,e⟩:=Gz.Bv h1 g1 (by omega) (by omega)
  exact ⟨_,_,e,by omega,by omega⟩
theorem bX.lF (l:Qd) (w:Int) (h:Gz.Kt l 1125899906842624) (hw:w=1∨w=-1) (k:Nat) (hk:k<4) (Z:Qd):∀(m j:Nat) (acc:Qd),j+m=4→acc.get k=Gz.part l w k j →
  bX.l2 w k k l j l Z acc=bX.l1 w ((k+1:Nat):Int) l Z (acc.set k (Gz.part l w k 4)):=by
 intro m
 induction m with
 | zero =>
  intro j acc hj ha
  refine bX.jw _ _ _ _ _ _ _ _ ?_
  intro v1 h1 v2 h2 v3 h3 v4 h4 v5 h5
  obtain rfl:j=4:=by omega
  rw [af (by omega),ax,←ha,Qd.nh _ _ hk,h5,i64_in _ (by omega)];rfl
 | succ m ih =>
  intro j acc hj ha
  refine bX.jw _ _ _ _ _ _ _ _ ?_
  intro v1 h1 v2 h2 v3 h3 v4 h4 v5 h5
  rw [aw] at h2 h3
  have PB:((j:Int) * (k:Int))=((j * k:Nat):Int):=by rw [Int.natCast_mul]
  have Wy:j * k≤3 * 3:=Nat.mul_le_mul (by omega) (by omega)
  have e1:v1=(j:Int) * k * w:=by
   rw [h1,PB,i64_in ((j * k:Nat):Int) (by omega)]
   rcases hw with rfl | rfl <;> rw [i64_in _ (by omega)]
  have b1 : -100≤v1∧v1≤100:=by
   rw [e1,PB]
   rcases hw with rfl | rfl <;> omega
  have e2:v2=Gz.ta (l.get j) ((j:Int) * k * w):=by rw [h2,e1]
  rw [ha] at h3
  obtain ⟨x,y,p1,p2,p3⟩:=Gz.BS h w k j (by omega)
  obtain ⟨u,v,g1,g2,g3⟩:=Gz.BB (k:=(j:Int) * k * w) (h.get j (by omega))
  obtain ⟨c1,_⟩:=Gz.Bv p1 g1 (by omega) (by omega)
  have e3:v3=Gz.part l w k (j+1):=by rw [h3,e2];rfl
  have e4:v4=((j+1:Nat):Int):=by rw [h4,i64_in _ (by omega)];omega
  have x1:cq (j:Int) 4=true:=cN (by omega) (by omega)
  have x2:cq (k:Int) 4=true:=cN (by omega) (by omega)
  have x3:decide ((k:Int).toNat<4)=true:=ae (by omega)
  rw [ae (show (j:Int)<4 by omega),aF,x1,x2,x3,aw,aw,Gz.kv.2 (h.get j (by omega)),ae b1,ha,e2,c1,e3,e4]
  simp only [bw,da]
  rw [ih (j+1) (acc.set k (Gz.part l w k (j+1))) (by omega) (Qd.IU _ _ _ hk),Qd.set_set _ _ _ _ hk]
theorem bX.goal (l:Qd) (w:Int) (hp:(Gz.vc l 1125899906842624&&decide (w=1∨w=-1))=true):bX.F l w=some [.ag (Qd.cells (Gz.me l w))]:=by
 simp only [aa,ay] at hp
 obtain ⟨h,hw⟩:=hp
 have h:=Gz.tH.1 h
 have st:∀(k:Nat) (Z acc:Qd),k<4→acc.get k=(0,0)→bX.l1 w k l Z acc=bX.l1 w ((k+1:Nat):Int) l Z (acc.set k (Gz.part l w k 4)):=fun k Z acc hk ha=>by
  rw [bX.JH,ae (by omega),aF]
  exact bX.lF l w h hw k hk Z 4 0 acc (by omega) (by rw [ha];rfl)
 rw [bX.jq]
 refine (st 0 _ _ (by omega) rfl).trans ?_
 refine (st 1 _ _ (by omega) rfl).trans ?_
 refine (st 2 _ _ (by omega) rfl).trans ?_
 refine (st 3 _ _ (by omega) rfl).trans ?_
 rw [bX.JH,af (by decide),ax]
 rfl
theorem Gz.ub (l:Qd) (w:Int) (k:Nat) (hk:k<4):(Gz.me l w).get k=Gz.part l w k 4:=by
 have:k=0∨k=1∨k=2∨k=3:=by omega
 rcases this with rfl | rfl | rfl | rfl <;> rfl
theorem cQ.goal (l:Qd) (hp:(Gz.vc l 1125899906842624&&Gz.JP l)=true):cQ.F l=some [.ag (Qd.cells (Gz.back l)),.b true]:=by
 simp only [aa] at hp
 obtain ⟨h,h4⟩:=hp
 have hq:=h
 have h4:=Gz.Cb.1 h4
 rw [cQ.jq,hq,da,a8,ax,Bool.true_and,bD (ae (.inr rfl))]
 have st:∀(k:Nat) (Y acc:Qd),k<4→cQ.l1 (Gz.me l (-1)) k Y acc=cQ.l1 (Gz.me l (-1)) ((k+1:Nat):Int) Y (acc.set k (Gz.quarter (Gz.part l (-1) k 4))):=fun k Y acc hk=>by
  refine cQ.dE _ _ _ _ ?_
  intro v1 h1 v2 h2 v3 h3 v4 Uz v5 h5 v6 h6 v7 h7 v8 h8
  rw [aw,Gz.ub l _ k hk] at h1 h2
  obtain ⟨x,y,p1,p2,p3⟩:=h4 k hk
  have e1:v1=4 * x:=by rw [h1];exact (p1.1.toInt (by omega)).2
  have e2:v2=4 * y:=by rw [h2];exact (p1.2.toInt (by omega)).2
  have m1:Int.tmod v1 4=0:=by rw [e1];exact Int.mul_tmod_right _ _
  have m2:Int.tmod v2 4=0:=by rw [e2];exact Int.mul_tmod_right _ _
  have e3:v3=false:=by rw [h3,m1];rfl
  have e4:v4=false:=by rw [Uz,e3,m2];rfl
  have d1:Int.tdiv v1 4=x:=by rw [e1];exact Int.mul_tdiv_cancel_left _ (by omega)
  have d2:Int.tdiv v2 4=y:=by rw [e2];exact Int.mul_tdiv_cancel_left _ (by omega)
  have e5:v5=Int.tdiv v1 4:=by rw [h5,i64_in _ (by rw [d1];omega)]
  have e6:v6=Int.tdiv v2 4:=by rw [h6,i64_in _ (by rw [d2];omega)]
  have e8:v8=((k+1:Nat):Int):=by rw [h8,i64_in _ (by omega)];omega
  have e7:v7=Gz.quarter (Gz.part l (-1) k 4):=by rw [h7,e5,e6,h1,h2];rfl
  have x1:cq (k:Int) 4=true:=cN (by omega) (by omega)
  have x2:decide ((k:Int).toNat<4)=true:=ae (by omega)
  have b1:Gz.sT (Gz.part l (-1) k 4) 4503599627370496=true:=Gz.kv.2 ⟨_,_,p1,by omega,by omega⟩
  rw [ae (show (k:Int)<4 by omega),aF,x1,x2,aw,Gz.ub l _ k hk,b1,e3,e4,e7,e8]
  rfl
 refine (st 0 _ _ (by omega)).trans ?_
 refine (st 1 _ _ (by omega)).trans ?_
 refine (st 2 _ _ (by omega)).trans ?_
 refine (st 3 _ _ (by omega)).trans ?_
 refine cQ.dE _ _ _ _ ?_
 intro v1 h1 v2 h2 v3 h3 v4 Uz v5 h5 v6 h6 v7 h7 v8 h8
 rw [af (by decide),ax]
 rfl
theorem Gz.qX {l:List Int} (h:Gz.gY l=true) (i:Nat) (hi:i<l.length):0≤l.getD i 0∧l.getD i 0≤65535:=by
 unfold Gz.gY at h
 rw [ak,aA hi]
 simpa using aL.1 h _ (List.getElem_mem hi)
theorem bZ.fo (l:List Int) (h:Gz.gY l=true) (hl:l.length≤256):∀(m i:Nat),i+m=l.length→bZ.l1 l l l.length i=some [.b true]:=by
 intro m
 induction m with
 | zero =>
  intro i hi
  refine bZ.dE _ _ _ _ ?_
  intro v1 h1 v2 h2 v3 h3
  rw [af (by omega),ax,ae (by omega)]
 | succ m ih =>
  intro i hi
  refine bZ.dE _ _ _ _ ?_
  intro v1 h1 v2 h2 v3 h3
  rw [aw] at h1
  have hd:=Gz.qX h i (by omega)
  rw [←h1] at hd
  have e2:v2=false:=by rw [h2,af (by omega),ax];exact af (by omega)
  have e3:v3=((i+1:Nat):Int):=by rw [h3,i64_in _ (by omega)];omega
  simp only [bz,bB,Bool.not_not,da]
  rw [ae (by omega),aF,bD (cN (by omega) (by omega)),e2,ax,e3]
  exact ih (i+1) (by omega)
theorem bZ.goal (l:List Int) (hp:(decide (l.length≤256)&&Gz.gY l)=true):bZ.F l=some [.b true]:=by
 simp only [aa,ay] at hp
 rw [bZ.jq];exact bZ.fo l hp.2 hp.1 l.length 0 (by omega)
theorem Gz.AN {a:Int} (h:0≤a∧a≤65535):Gz.Is (Gz.xS a) a 0:=⟨Fl.W.ofInt (by omega),Fl.W.ofInt (n:=0) (by decide)⟩
theorem Gz.AO {a:Int} (h:0≤a∧a≤65535):Gz.In (Gz.xS a) 1125899906842624:=⟨_,_,Gz.AN h,by omega,by omega⟩
theorem Gz.tp:Gz.Is (0,0) 0 0:=⟨Fl.Kp,Fl.Kp⟩
theorem Gz.qm:Gz.In (0,0) 1125899906842624:=⟨_,_,Gz.tp,by omega,by omega⟩
theorem Gz.AK (l:List Int) (i:Nat) (h:i<l.length):Gz.gj (l.drop i)=(if i+1<l.length then Gz.me ⟨Gz.xS (l.getD i 0),Gz.xS (l.getD (i+1) 0),(0,0),(0,0)⟩ 1 else Gz.me ⟨Gz.xS (l.getD i 0),(0,0),(0,0),(0,0)⟩ 1) :: Gz.gj (l.drop (i+2)):=by
 rw [drop_cons h 0]
 by_cases c:i+1<l.length
 ·rw [drop_cons c 0,Gz.gj,aH c]
 ·rw [bc (i:=i+1) (by omega),bc (i:=i+2) (by omega),Gz.gj,aD c];rfl
theorem bP.fo (l:List Int) (h:Gz.gY l=true) (hl:l.length≤256):∀(m i:Nat) (acc:List Qd),l.length≤i+2 * m→i≤300→acc.length≤i→bP.l1 l acc i=some [.sl .qd (acc++Gz.gj (l.drop i))]:=by
 intro m
 induction m with
 | zero =>
  intro i acc hi J2 ha
  refine bP.dE _ _ _ ?_
  intro v1 h1 v2 h2 v3 h3 v4 h4 v5 h5 v6 h6
  rw [af (by omega),ax,bc (by omega),Gz.gj,aU]
 | succ m ih =>
  intro i acc hi J2 ha
  refine bP.dE _ _ _ ?_
  intro v1 h1 v2 h2 v3 h3 v4 h4 v5 h5 v6 h6
  by_cases c0:i<l.length
  ·rw [aw] at h1
   have e3:v3=((i+1:Nat):Int):=by rw [h3,i64_in _ (by omega)];omega
   rw [e3,aw] at h4
   have hd:=Gz.qX h i (by omega)
   rw [←h1] at hd
   have jn:∀q:Qd,Gz.Kt q 1125899906842624→bP.j2 l acc i q=some [.sl .qd (acc++[Gz.me q 1]++Gz.gj (l.drop (i+2)))]:=fun q hq=>by
    refine bP.vV _ _ _ _ ?_
    intro u1 g1 u2 g2
    have e2:u2=((i+2:Nat):Int):=by rw [g2,i64_in _ (by omega)];omega
    rw [Gz.tH.2 hq,da,bD (gZ (by rw [az];omega) (by rw [az];omega)),g1,e2]
    exact ih (i+2) _ (by omega) (by omega) (by rw [aq,az];omega)
   rw [ae (by omega),aF,bD (cN (by omega) (by omega)),bD (ae (by omega)),Gz.AK l i c0]
   by_cases c:i+1<l.length
   ·have hd2:=Gz.qX h (i+1) c
    rw [←h4] at hd2
    rw [e3,ae (by omega),aF,bD (cN (by omega) (by omega)),bD (ae (by omega)),bD (cN (by omega) (by omega)),bD (by decide),aH c]
    have e6:v6=⟨Gz.xS v1,Gz.xS v4,(0,0),(0,0)⟩:=by rw [h6,h5,h2];rfl
    rw [e6,jn _ ⟨Gz.AO hd,Gz.AO hd2,Gz.qm,Gz.qm⟩,←h1,←h4,aQ];rfl
   ·rw [e3,af (by omega),ax,aD c]
    have e6:(Qd.mk v2 (0,0) (0,0) (0,0))=⟨Gz.xS v1,(0,0),(0,0),(0,0)⟩:=by rw [h2];rfl
    rw [e6,jn _ ⟨Gz.AO hd,Gz.qm,Gz.qm,Gz.qm⟩,←h1,aQ];rfl
  ·rw [af (by omega),ax,bc (by omega),Gz.gj,aU]
theorem bP.goal (l:List Int) (hp:(decide (l.length≤256)&&Gz.gY l)=true):bP.F l=some [.sl .qd (Gz.gj l)]:=by
 simp only [aa,ay] at hp
 rw [bP.jq]
 have:=bP.fo l hp.2 hp.1 l.length 0 [] (by omega) (by omega) (by simp)
 rw [aS,bj] at this
 exact this
end Go.Eng
namespace Go.Eng
open Go.IntWalk
namespace Gz
def pre (X Y:Nat→Int) (w:Int) (k:Nat):Nat→Int
 | 0=>0
 | j+1=>pre X Y w k j+(X j * rA (j * k * w) - Y j * rC (j * k * w))
def H3 (X Y:Nat→Int) (w:Int) (k:Nat):Nat→Int
 | 0=>0
 | j+1=>H3 X Y w k j+(X j * rC (j * k * w)+Y j * rA (j * k * w))
theorem wV {l:Qd} {X Y:Nat→Int} {w:Int} {k:Nat} (h:∀j,j<4→Is (l.get j) (X j) (Y j)∧(X j).natAbs≤1125899906842624∧(Y j).natAbs≤1125899906842624) :
  ∀j,j≤4→Is (part l w k j) (pre X Y w k j) (H3 X Y w k j)∧(pre X Y w k j).natAbs≤j * 2251799813685248∧(H3 X Y w k j).natAbs≤j * 2251799813685248
 | 0,_=>⟨tp,by show (0:Int).natAbs≤_;omega,by show (0:Int).natAbs≤_;omega⟩
 | j+1,hj=>by
  obtain ⟨i1,i2,i3⟩:=wV (w:=w) (k:=k) h j (by omega)
  obtain ⟨g1,g2,g3⟩:=h j (by omega)
  have t:=(wD (j * k * w) g1 g2 g3).2
  have b1:(X j * rA (j * k * w) - Y j * rC (j * k * w)).natAbs≤2251799813685248:=by
   rcases mF (j * k * w) with e | e | e <;> rcases mH (j * k * w) with f | f | f <;> rw [e,f] <;> omega
  have b2:(X j * rC (j * k * w)+Y j * rA (j * k * w)).natAbs≤2251799813685248:=by
   rcases mF (j * k * w) with e | e | e <;> rcases mH (j * k * w) with f | f | f <;> rw [e,f] <;> omega
  show Is (add (part l w k j) (ta (l.get j) (j * k * w))) (pre X Y w k j+(X j * rA (j * k * w) - Y j * rC (j * k * w))) (H3 X Y w k j+(X j * rC (j * k * w)+Y j * rA (j * k * w)))∧(pre X Y w k j+(X j * rA (j * k * w) - Y j * rC (j * k * w))).natAbs≤_∧(H3 X Y w k j+(X j * rC (j * k * w)+Y j * rA (j * k * w))).natAbs≤_
  generalize X j * rA (j * k * w) - Y j * rC (j * k * w)=A at *
  generalize X j * rC (j * k * w)+Y j * rA (j * k * w)=B at *
  exact ⟨(Bv i1 t (by omega) (by omega)).2,by omega,by omega⟩
def dg (x:Int):Prop:=0≤x∧x≤65535
def two (a b:Int):Qd:=me ⟨xS a,xS b,(0,0),(0,0)⟩ 1
def rx (a b:Int) (k:Nat):Int:=a+b * rA k
def ry (b:Int) (k:Nat):Int:=b * rC k
theorem Ap {a b:Int} (ha:dg a) (hb:dg b) (k:Nat) (hk:k<4):Is ((two a b).get k) (rx a b k) (ry b k):=by
 unfold two
 rw [ub _ _ _ hk]
 have h:=(wV (l:=⟨xS a,xS b,(0,0),(0,0)⟩) (w:=1) (k:=k) (X:=fun j=>[a,b].getD j 0) (Y:=fun _=>0) (fun j hj=>by
  have:j=0∨j=1∨j=2∨j=3:=by omega
  obtain ⟨a1,a2⟩:=ha
  obtain ⟨b1,b2⟩:=hb
  rcases this with rfl | rfl | rfl | rfl
  ·exact ⟨AN ⟨a1,a2⟩,by show a.natAbs≤_;omega,by decide⟩
  ·exact ⟨AN ⟨b1,b2⟩,by show b.natAbs≤_;omega,by decide⟩
  ·exact ⟨tp,by show (0:Int).natAbs≤_;omega,by show (0:Int).natAbs≤_;omega⟩
  ·exact ⟨tp,by show (0:Int).natAbs≤_;omega,by show (0:Int).natAbs≤_;omega⟩) 4 (by omega)).1
 have e1:pre (fun j=>[a,b].getD j 0) (fun _=>0) 1 k 4=rx a b k:=by simp [pre,rx,rA]
 have e2:H3 (fun j=>[a,b].getD j 0) (fun _=>0) 1 k 4=ry b k:=by simp [H3,ry,rC]
 rw [e1,e2] at h
 exact h
theorem Et {a b:Int} (ha:dg a) (hb:dg b) (k:Nat):(rx a b k).natAbs≤131070:=by
 obtain ⟨a1,a2⟩:=ha
 obtain ⟨b1,b2⟩:=hb
 unfold rx
 rcases mF k with e | e | e <;> rw [e] <;> omega
theorem Es {b:Int} (hb:dg b) (k:Nat):(ry b k).natAbs≤65535:=by
 obtain ⟨b1,b2⟩:=hb
 unfold ry
 rcases mH k with e | e | e <;> rw [e] <;> omega
def pP (x y:Qd):Qd:=⟨mul (x.get 0) (y.get 0),mul (x.get 1) (y.get 1),mul (x.get 2) (y.get 2),mul (x.get 3) (y.get 3)⟩
def zx (a b c d:Int) (k:Nat):Int:=rx a b k * rx c d k - ry b k * ry d k
def zy (a b c d:Int) (k:Nat):Int:=rx a b k * ry d k+ry b k * rx c d k
theorem CM (x y:Qd) (k:Nat) (hk:k<4):(pP x y).get k=mul (x.get k) (y.get k):=by
 have:k=0∨k=1∨k=2∨k=3:=by omega
 rcases this with rfl | rfl | rfl | rfl <;> rfl
theorem rV {a b:Int} {m n:Nat} (h1:a.natAbs≤m) (h2:b.natAbs≤n):(a * b).natAbs≤m * n:=by
 rw [Int.natAbs_mul];exact Nat.mul_le_mul h1 h2
theorem DV {a b:Int} (ha:dg a) (hb:dg b) (k:Nat) (hk:k<4):In ((two a b).get k) 33554432 :=
 ⟨_,_,Ap ha hb k hk,by have:=Et ha hb k;omega,by have:=Es hb k;omega⟩
theorem BN {a b c d:Int} (ha:dg a) (hb:dg b) (hc:dg c) (hd:dg d) (k:Nat) (hk:k<4) :
  Is ((pP (two a b) (two c d)).get k) (zx a b c d k) (zy a b c d k)∧(zx a b c d k).natAbs≤1125899906842624∧(zy a b c d k).natAbs≤1125899906842624:=by
 have x1:=Et ha hb k
 have x2:=Es hb k
 have x3:=Et hc hd k
 have x4:=Es hd k
 have y1:=rV x1 x3
 have y2:=rV x2 x4
 have y3:=rV x1 x4
 have y4:=rV x2 x3
 rw [CM _ _ _ hk]
 refine ⟨(AP (Ap ha hb k hk) (Ap hc hd k hk) (by omega) (by omega) (by omega) (by omega)).2,?_,?_⟩
 ·unfold zx;omega
 ·unfold zy;omega
def co (a b c d:Int) (k:Nat):Int:=if k=0 then a * c else if k=1 then a * d+b * c else if k=2 then b * d else 0
theorem zY (a b c d:Int) (k:Nat) (hk:k<4):pre (zx a b c d) (zy a b c d) (-1) k 4=4 * co a b c d k∧H3 (zx a b c d) (zy a b c d) (-1) k 4=4 * 0:=by
 have:k=0∨k=1∨k=2∨k=3:=by omega
 rcases this with rfl | rfl | rfl | rfl <;> constructor <;> simp [pre,H3,co,zx,zy,rx,ry,rA,rC,Int.add_mul,Int.mul_add,Int.sub_mul,Int.mul_sub,Int.neg_mul,Int.mul_neg] <;> omega
theorem GH {a b c d:Int} (ha:dg a) (hb:dg b) (hc:dg c) (hd:dg d) (k:Nat):0≤co a b c d k∧co a b c d k≤8589672450:=by
 have m:∀{x y:Int},dg x→dg y→0≤x * y∧x * y≤4294836225:=fun {x y} h1 h2=>by
  have:=rV (a:=x) (b:=y) (m:=65535) (n:=65535) (by obtain ⟨_,_⟩:=h1;omega) (by obtain ⟨_,_⟩:=h2;omega)
  have h0:=Int.mul_nonneg h1.1 h2.1
  omega
 have m1:=m ha hc
 have m2:=m ha hd
 have m3:=m hb hc
 have m4:=m hb hd
 unfold co
 split
 ·omega
 ·split
  ·omega
  ·split <;> omega
theorem yB {a b c d:Int} (ha:dg a) (hb:dg b) (hc:dg c) (hd:dg d) (k:Nat) (hk:k<4):Is (part (pP (two a b) (two c d)) (-1) k 4) (4 * co a b c d k) (4 * 0):=by
 have h:=(wV (w:=-1) (k:=k) (fun j hj=>BN ha hb hc hd j hj) 4 (by omega)).1
 rw [(zY a b c d k hk).1,(zY a b c d k hk).2] at h
 exact h
theorem G8 (l:Qd) (k:Nat) (hk:k<4):(back l).get k=quarter (part l (-1) k 4):=by
 have:k=0∨k=1∨k=2∨k=3:=by omega
 rcases this with rfl | rfl | rfl | rfl <;> rfl
theorem AF {z:Cx} {x y:Int} (h:Is z (4 * x) (4 * y)) (hx:x.natAbs≤562949953421312) (hy:y.natAbs≤562949953421312):Is (quarter z) x y:=by
 unfold quarter
 rw [(h.1.toInt (by omega)).2,(h.2.toInt (by omega)).2,Int.mul_tdiv_cancel_left _ (by omega),Int.mul_tdiv_cancel_left _ (by omega)]
 exact ⟨Fl.W.ofInt (by omega),Fl.W.ofInt (by omega)⟩
theorem I9 {a b c d:Int} (ha:dg a) (hb:dg b) (hc:dg c) (hd:dg d) (k:Nat) (hk:k<4):Is ((back (pP (two a b) (two c d))).get k) (co a b c d k) 0:=by
 rw [G8 _ _ hk]
 have:=GH ha hb hc hd k
 exact AF (yB ha hb hc hd k hk) (by omega) (by omega)
theorem H2 {a b c d:Int} (ha:dg a) (hb:dg b) (hc:dg c) (hd:dg d):(vc (pP (two a b) (two c d)) 1125899906842624&&JP (pP (two a b) (two c d)))=true:=by
 have h:∀k,k<4→In ((pP (two a b) (two c d)).get k) 1125899906842624:=fun k hk=>by
  obtain ⟨h1,h2,h3⟩:=BN ha hb hc hd k hk
  exact ⟨_,_,h1,h2,h3⟩
 rw [tH.2 ⟨h 0 (by omega),h 1 (by omega),h 2 (by omega),h 3 (by omega)⟩,Cb.2 fun k hk=>?_]
 ·rfl
 ·have:=GH ha hb hc hd k
  exact ⟨_,_,yB ha hb hc hd k hk,by omega,by omega⟩
theorem jH:∀l:List Int,(gj l).length=(l.length+1) / 2
 | []=>rfl
 | [a]=>by simp [gj]
 | a :: b :: r=>by rw [gj,aP,jH r,aP,aP];omega
theorem N0:xS 0=(0,0):=by
 have e:Fl.ofInt 0=0:=by decide +kernel
 unfold xS;rw [e]
theorem rR (e:Qd):∀(l:List Int) (i:Nat),i<(l.length+1) / 2→(gj l).getD i e=two (l.getD (2 * i) 0) (l.getD (2 * i+1) 0)
 | [],i,h=>by simp at h
 | [a],i,h=>by
  obtain rfl:i=0:=by simp at h;omega
  show me ⟨xS a,(0,0),(0,0),(0,0)⟩ 1=two a 0
  unfold two;rw [N0]
 | a :: b :: r,0,h=>rfl
 | a :: b :: r,i+1,h=>by
  rw [aP,aP] at h
  have:=rR e r i (by omega)
  rw [show 2 * (i+1)=2 * i+2 by omega]
  exact this
theorem tM {l:List Int} (h:gY l=true) (i:Nat):dg (l.getD i 0):=by
 by_cases c:i<l.length
 ·exact qX h i c
 ·rw [ak,List.getElem?_eq_none (by omega)];exact ⟨by decide,by decide⟩
end Gz
end Go.Eng
namespace Go.Eng
open Go.IntWalk
namespace Gz
def T (f g:Nat→Int) (m:Nat):Nat→Int
 | 0=>0
 | n+1=>T f g m n+if n≤m then f n * g (m - n) else 0
def U (f g:Nat→Int) (i n m:Nat):Int:=(if i≤m∧m - i<n then f i * g (m - i) else 0)+if i+1≤m∧m - (i+1)<n then f (i+1) * g (m - (i+1)) else 0
theorem Ms {x y:Int} (h1:dg x) (h2:dg y):0≤x * y∧x * y≤4294836225:=by
 have:=rV (a:=x) (b:=y) (m:=65535) (n:=65535) (by obtain ⟨_,_⟩:=h1;omega) (by obtain ⟨_,_⟩:=h2;omega)
 have h0:=Int.mul_nonneg h1.1 h2.1
 omega
theorem MH {f g:Nat→Int} (hf:∀i,dg (f i)) (hg:∀i,dg (g i)) (m:Nat):∀n,0≤T f g m n∧T f g m n≤n * 4294836225
 | 0=>⟨Int.le_refl _,by show (0:Int)≤_;omega⟩
 | n+1=>by
  have h:=MH hf hg m n
  have h2:=Ms (hf n) (hg (m - n))
  rw [T]
  split <;> omega
theorem Ty {f g:Nat→Int} (hf:∀i,dg (f i)) (hg:∀i,dg (g i)) (i n m:Nat):0≤U f g i n m∧U f g i n m≤8589672450:=by
 have h1:=Ms (hf i) (hg (m - i))
 have h2:=Ms (hf (i+1)) (hg (m - (i+1)))
 unfold U
 split <;> split <;> omega
theorem XH (f g:Nat→Int) (i m:Nat):U f g i 0 m=0:=by
 unfold U
 rw [aD (by omega),aD (by omega)];rfl
theorem MG (f g:Nat→Int) (i n m:Nat):U f g i (n+2) m=U f g i n m+if m=i+n then co (f i) (f (i+1)) (g n) (g (n+1)) 0 else if m=i+n+1 then co (f i) (f (i+1)) (g n) (g (n+1)) 1 else if m=i+n+2 then co (f i) (f (i+1)) (g n) (g (n+1)) 2 else 0:=by
 unfold U co
 by_cases c0:m=i+n
 ·subst c0
  rw [aH (by omega),aH rfl,aH rfl,aD (show ¬(i≤i+n∧i+n - i<n) by omega),show i+n - i=n by omega]
  by_cases c:n=0
  ·rw [aD (by omega),aD (by omega)];omega
  ·rw [aH (by omega),aH (by omega)];omega
 ·rw [aD c0]
  by_cases c1:m=i+n+1
  ·subst c1
   rw [aH (by omega),aH (by omega),aH rfl,aD (show ¬(i≤i+n+1∧i+n+1 - i<n) by omega),aD (show ¬(i+1≤i+n+1∧i+n+1 - (i+1)<n) by omega),show i+n+1 - i=n+1 by omega,show i+n+1 - (i+1)=n by omega,aD (by omega),aH rfl];omega
  ·rw [aD c1]
   by_cases c2:m=i+n+2
   ·subst c2
    rw [aD (by omega),aH (by omega),aH rfl,aD (show ¬(i≤i+n+2∧i+n+2 - i<n) by omega),aD (show ¬(i+1≤i+n+2∧i+n+2 - (i+1)<n) by omega),show i+n+2 - (i+1)=n+1 by omega,aD (by omega),aD (by omega),aH rfl];omega
   ·rw [aD c2]
    have e1:(i≤m∧m - i<n+2) ↔ (i≤m∧m - i<n):=by omega
    have e2:(i+1≤m∧m - (i+1)<n+2) ↔ (i+1≤m∧m - (i+1)<n):=by omega
    simp only [e1,e2,Int.add_zero]
theorem Qj {f g:Nat→Int} {n:Nat} (hg:∀i,n≤i→g i=0) (i m:Nat):T f g m (i+2)=T f g m i+U f g i n m:=by
 rw [T,T,U]
 have e:∀k,(if k≤m then f k * g (m - k) else 0)=if k≤m∧m - k<n then f k * g (m - k) else 0:=fun k=>by
  by_cases c:k≤m
  ·by_cases d:m - k<n
   ·rw [aH c,aH ⟨c,d⟩]
   ·rw [aH c,aD (by omega),hg _ (by omega),Int.mul_zero]
  ·rw [aD c,aD (by omega)]
 rw [e,e];omega
theorem Hj {f g:Nat→Int} {m n:Nat} (h:∀i,n≤i→i≤m→f i=0):∀k,T f g m (n+k)=T f g m n
 | 0=>rfl
 | k+1=>by
  rw [←Nat.add_assoc,T,Hj h k]
  split
  ·rw [h _ (by omega) (by omega),Int.zero_mul,Int.add_zero]
  ·rw [Int.add_zero]
theorem I1 (a b:List Int) (m:Nat):Dw a b m=T (a.getD · 0) (b.getD · 0) m (m+1):=by
 unfold Dw
 have:∀n,n≤m+1→(List.range n).foldl (fun s i=>s+a.getD i 0 * b.getD (m - i) 0) 0=T (a.getD · 0) (b.getD · 0) m n:=by
  intro n
  induction n with
  | zero=>intro _;rfl
  | succ n ih =>
   intro h
   rw [List.range_succ,List.foldl_append,ih (by omega),T,aH (by omega)];rfl
 exact this _ (Nat.le_refl _)
theorem Bk (a b:List Int) (m n:Nat) (hn:a.length≤n):T (a.getD · 0) (b.getD · 0) m n=Dw a b m:=by
 rw [I1,←Hj (n:=n) (k:=m+1) (fun i h1 _=>by
  show a.getD i 0=0
  rw [ak,List.getElem?_eq_none (by omega)];rfl),Nat.add_comm n (m+1),Hj (fun i h1 h2=>by omega)]
theorem xa {l:List Int} {n:Nat} (x:Int) (m:Nat) (h:n<l.length):(l.set n x).getD m 0=if m=n then x else l.getD m 0:=by
 rw [ak,List.getElem?_set]
 by_cases c:n=m
 ·subst c;rw [aH rfl,aH h,aH rfl];rfl
 ·rw [aD c,aD (fun e=>c e.symm),ak]
def grow (o:List Int) (p:Nat) (x y z:Int):List Int :=
 let o1:=o.set p (o.getD p 0+x)
 let o2:=o1.set (p+1) (o1.getD (p+1) 0+y)
 o2.set (p+2) (o2.getD (p+2) 0+z)
theorem F9 {o:List Int} {p:Nat} (x y z:Int) (h:p+2<o.length) (m:Nat):(grow o p x y z).getD m 0=o.getD m 0+if m=p then x else if m=p+1 then y else if m=p+2 then z else 0:=by
 unfold grow
 simp only
 have hl:∀(o:List Int) (n:Nat) (x:Int),p+2<o.length→p+2<(o.set n x).length:=fun o n x h=>by rw [List.length_set];exact h
 have q1:=hl o p (o.getD p 0+x) h
 rw [xa (n:=p+2) _ m (hl _ _ _ q1),xa (n:=p+1) _ m (by omega),xa (n:=p+1) _ (p+2) (by omega),xa (n:=p) _ m (by omega),xa (n:=p) _ (p+1) (by omega),xa (n:=p) _ (p+2) (by omega)]
 by_cases c0:m=p
 ·subst c0
  rw [aD (by omega),aD (by omega),aH rfl,aH rfl]
 ·by_cases c1:m=p+1
  ·subst c1
   rw [aD (by omega),aH rfl,aD (by omega),aD (by omega),aH rfl]
  ·by_cases c2:m=p+2
   ·subst c2
    rw [aH rfl,aD (by omega),aD (by omega),aD c0,aD c1,aH rfl]
   ·rw [aD c2,aD c1,aD c0,aD c0,aD c1,aD c2,Int.add_zero]
theorem zo (o:List Int) (p:Nat) (x y z:Int):(grow o p x y z).length=o.length:=by
 unfold grow;simp
end Gz
open Gz
theorem bK.sR (x0 x1:List Int) (x2:List Qd) (x3 x4:Int) (x5:List Qd) (x6 x7:Int) (x8:List Qd) (x9 vg:Int) (o:List Int) (x y:Qd) (hx:∀k,k<4→In (x.get k) 33554432) (hy:∀k,k<4→In (y.get k) 33554432) (ho:(vc (pP x y) 1125899906842624&&JP (pP x y))=true) :
  bK.l3 x0 x1 x2 x3 x4 x5 x6 x7 x8 x9 vg 0 x y ⟨(0,0),(0,0),(0,0),(0,0)⟩ o=bK.l4 x0 x1 x2 x3 x4 x5 x6 x7 x8 x9 vg 0 x (back (pP x y)) o:=by
 have st:∀(k:Nat) (z:Qd),k<4→bK.l3 x0 x1 x2 x3 x4 x5 x6 x7 x8 x9 vg k x y z o=bK.l3 x0 x1 x2 x3 x4 x5 x6 x7 x8 x9 vg ((k+1:Nat):Int) x y (z.set k (mul (x.get k) (y.get k))) o:=fun k z hk=>by
  refine bK.ov _ _ _ _ _ _ _ _ _ _ _ _ _ _ _ _ ?_
  intro v1 h1 v2 h2 v3 h3
  have e3:v3=((k+1:Nat):Int):=by rw [h3,i64_in _ (by omega)];omega
  rw [aw] at h1 h2
  rw [ae (by omega),aF,bD (cN (by omega) (by omega)),bD (ae (by omega)),bD (cN (by omega) (by omega)),bD (ae (by omega)),aw,kv.2 (hx k hk),kv.2 (hy k hk),bw,da,bD (cN (by omega) (by omega)),bD (ae (by omega)),e3,h2,h1]
 refine (st 0 _ (by omega)).trans ?_
 refine (st 1 _ (by omega)).trans ?_
 refine (st 2 _ (by omega)).trans ?_
 refine (st 3 _ (by omega)).trans ?_
 refine bK.ov _ _ _ _ _ _ _ _ _ _ _ _ _ _ _ _ ?_
 intro v1 h1 v2 h2 v3 h3
 rw [af (by decide),ax]
 exact bD ho
theorem bK.y0 (x0 x1:List Int) (x2:List Qd) (x3:Int) (i j:Nat) (x5:List Qd) (x6 x7:Int) (x8:List Qd) (x9:Int) (o:List Int) (x y:Qd) (c:Nat→Int) (hc:∀k,k<4→Is (y.get k) (c k) 0∧0≤c k∧c k≤8589672450) (hi:i≤128) (hj:j≤128) (ho:2 * i+2 * j+2<o.length) (hb:∀m,0≤o.getD m 0∧o.getD m 0≤1125899906842624) (V2:x3=i) :
  bK.l4 x0 x1 x2 x3 j x5 x6 x7 x8 x9 j 0 x y o=bK.l2 x0 x1 x2 x3 x5 x6 x7 x8 x9 ((j+1:Nat):Int) x (grow o (2 * i+2 * j) (c 0) (c 1) (c 2)):=by
 have st:∀(k:Nat) (o:List Int),k<3→2 * i+2 * j+2<o.length→(0≤o.getD (2 * i+2 * j+k) 0∧o.getD (2 * i+2 * j+k) 0≤1125899906842624)→bK.l4 x0 x1 x2 x3 j x5 x6 x7 x8 x9 j k x y o=bK.l4 x0 x1 x2 x3 j x5 x6 x7 x8 x9 j ((k+1:Nat):Int) x y (o.set (2 * i+2 * j+k) (o.getD (2 * i+2 * j+k) 0+c k)):=fun k o hk ho hb=>by
  refine bK.sQ _ _ _ _ _ _ _ _ _ _ _ _ _ _ _ ?_
  intro v1 h1 v2 h2 v3 h3 v4 h4 v5 h5 v6 h6 v7 h7 v8 h8 v9 h9
  obtain ⟨q1,q2,q3⟩:=hc k (by omega)
  rw [aw] at h1 h2
  have e1:v1=c k:=by rw [h1];exact (q1.1.toInt (by omega)).2
  have e3:v3=2 * i:=by rw [h3,V2,i64_in _ (by omega)]
  have e4:v4=2 * j:=by rw [h4,i64_in _ (by omega)]
  have e5:v5=((2 * i+2 * j+k:Nat):Int):=by rw [h5,e3,e4,i64_in (2 * (i:Int)+2 * j) (by omega),i64_in _ (by omega)];omega
  rw [e5,aw] at h6 h7
  have e7:v7=o.set (2 * i+2 * j+k) (o.getD (2 * i+2 * j+k) 0+c k):=by rw [h7,h6,e1,i64_in _ (by omega)]
  have e8:v8=((k+1:Nat):Int):=by rw [h8,i64_in _ (by omega)];omega
  have b1:sT (y.get k) 4503599627370496=true:=kv.2 ⟨_,_,q1,by omega,by omega⟩
  rw [ae (by omega),aF,bD (cN (by omega) (by omega)),bD (ae (by omega)),aw,bD b1,e5,bD (cN (by omega) (by omega)),aw,bD (ae (by omega)),bD (cN (by omega) (by omega)),bD (ae (by omega)),e7,e8]
 refine (st 0 _ (by omega) ho (hb _)).trans ?_
 refine (st 1 _ (by omega) (by rw [List.length_set];exact ho) (by rw [xa _ _ (by omega),aD (by omega)];exact hb _)).trans ?_
 refine (st 2 _ (by omega) (by rw [List.length_set,List.length_set];exact ho) (by rw [xa _ _ (by rw [List.length_set];omega),aD (by omega),xa _ _ (by omega),aD (by omega)];exact hb _)).trans ?_
 refine bK.sQ _ _ _ _ _ _ _ _ _ _ _ _ _ _ _ ?_
 intro v1 h1 v2 h2 v3 h3 v4 h4 v5 h5 v6 h6 v7 h7 v8 h8 v9 h9
 have e9:v9=((j+1:Nat):Int):=by rw [h9,i64_in _ (by omega)];omega
 rw [af (by decide),ax,e9]
 rfl
theorem bK.lF (a b:List Int) (ha:Gz.gY a=true) (hb:Gz.gY b=true) (la:a.length≤256) (lb:b.length≤256) (i:Nat) (hi:i<(a.length+1) / 2):∀(m j:Nat) (o:List Int),j+m=(b.length+1) / 2→o.length=a.length+b.length+2→(∀q,o.getD q 0=T (a.getD · 0) (b.getD · 0) q (2 * i)+U (a.getD · 0) (b.getD · 0) (2 * i) (2 * j) q) →
  ∃o':List Int,bK.l2 a b (gj b) i (gj a) ((gj a).length:Int) i (gj b) ((gj b).length:Int) j (two (a.getD (2 * i) 0) (a.getD (2 * i+1) 0)) o=bK.l1 a b (gj b) (gj a) ((gj a).length:Int) ((i+1:Nat):Int) o'∧o'.length=a.length+b.length+2∧∀q,o'.getD q 0=T (a.getD · 0) (b.getD · 0) q (2 * (i+1)):=by
 intro m
 induction m with
 | zero =>
  intro j o hj ho hv
  refine ⟨o,?_,ho,?_⟩
  ·refine bK.jw _ _ _ _ _ _ _ _ _ _ _ _ ?_
   intro v1 h1 v2 h2
   have e2:v2=((i+1:Nat):Int):=by rw [h2,i64_in _ (by omega)];omega
   rw [jH,af (by omega),ax,e2]
  ·intro q
   rw [hv q,show 2 * (i+1)=2 * i+2 by omega,Qj (n:=2 * j) (fun k hk=>by
    show b.getD k 0=0
    rw [ak,List.getElem?_eq_none (by omega)];rfl)]
 | succ m ih =>
  intro j o hj ho hv
  have hf:=tM ha
  have hg:=tM hb
  have f0:=hf (2 * i)
  have f1:=hf (2 * i+1)
  have g0:=hg (2 * j)
  have g1:=hg (2 * j+1)
  obtain ⟨o',h1,h2,h3⟩:=ih (j+1) (grow o (2 * i+2 * j) (co (a.getD (2 * i) 0) (a.getD (2 * i+1) 0) (b.getD (2 * j) 0) (b.getD (2 * j+1) 0) 0) (co (a.getD (2 * i) 0) (a.getD (2 * i+1) 0) (b.getD (2 * j) 0) (b.getD (2 * j+1) 0) 1) (co (a.getD (2 * i) 0) (a.getD (2 * i+1) 0) (b.getD (2 * j) 0) (b.getD (2 * j+1) 0) 2)) (by omega) (by rw [zo];exact ho) (fun q=>by
   rw [F9 _ _ _ (by omega),hv q,show 2 * (j+1)=2 * j+2 by omega,MG,Int.add_assoc])
  refine ⟨o',Eq.trans ?_ h1,h2,h3⟩
  refine bK.jw _ _ _ _ _ _ _ _ _ _ _ _ ?_
  intro v1 h1 v2 h2
  rw [aw,rR _ _ _ (by omega)] at h1
  have hp:=jH b
  rw [ae (by omega),aF,bD (cN (by omega) (by omega)),h1]
  rw [bK.sR _ _ _ _ _ _ _ _ _ _ _ _ _ _ (fun k hk=>DV f0 f1 k hk) (fun k hk=>DV g0 g1 k hk) (H2 f0 f1 g0 g1)]
  exact bK.y0 _ _ _ _ i j _ _ _ _ _ _ _ _ (co (a.getD (2 * i) 0) (a.getD (2 * i+1) 0) (b.getD (2 * j) 0) (b.getD (2 * j+1) 0)) (fun k hk=>⟨I9 f0 f1 g0 g1 k hk,GH f0 f1 g0 g1 k⟩) (by omega) (by omega) (by omega) (fun q=>by
   rw [hv q]
   have t1:=MH (f:=(a.getD · 0)) (g:=(b.getD · 0)) hf hg q (2 * i)
   have t2:=Ty (f:=(a.getD · 0)) (g:=(b.getD · 0)) hf hg (2 * i) (2 * j) q
   omega) rfl
theorem B3 (o:List Int) (f:Nat→Int) (n:Nat) (hn:n≤o.length) (h:∀q,o.getD q 0=f q):o.take n=(List.range n).map f:=by
 apply List.ext_getElem
 ·rw [aK,aG,List.length_range];omega
 ·intro i h1 h2
  rw [aK] at h1
  have:=h i
  rw [ak,aA (by omega)] at this
  rw [List.getElem_take,List.getElem_map,List.getElem_range]
  exact this
theorem bK.fo (a b:List Int) (ha:Gz.gY a=true) (hb:Gz.gY b=true) (la:a.length≤256) (lb:b.length≤256) (na:a≠[]) (nb:b≠[]):∀(m i:Nat) (o:List Int),i+m=(a.length+1) / 2→o.length=a.length+b.length+2→(∀q,o.getD q 0=T (a.getD · 0) (b.getD · 0) q (2 * i)) →
  bK.l1 a b (gj b) (gj a) ((gj a).length:Int) i o=some [.sl .is (conv a b),.b true]:=by
 have pa:=List.length_pos_iff.2 na
 have pb:=List.length_pos_iff.2 nb
 intro m
 induction m with
 | zero =>
  intro i o hi ho hv
  refine bK.dE _ _ _ _ _ _ _ ?_
  intro v1 h1 v2 h2 v3 h3
  have e2:v2=a.length+b.length:=by rw [h2,i64_in _ (by omega)]
  have e3:v3=((a.length+b.length - 1:Nat):Int):=by rw [h3,e2,i64_in _ (by omega)];omega
  have e:o.take (a.length+b.length - 1)=conv a b:=by
   rw [B3 o (Dw a b) _ (by omega) (fun q=>by rw [hv q,Bk a b q _ (by omega)])]
   unfold conv
   rw [aD (by simp [na,nb])]
  rw [jH,af (by omega),ax,e3,aw,bD (lJ (by omega) (by omega) (by omega)),bD (gZ (by rw [aK];omega) (by rw [aK];omega)),e]
 | succ m ih =>
  intro i o hi ho hv
  refine bK.dE _ _ _ _ _ _ _ ?_
  intro v1 h1 v2 h2 v3 h3
  have hp:=jH a
  rw [aw,rR _ _ _ (by omega)] at h1
  obtain ⟨o',q1,q2,q3⟩:=bK.lF a b ha hb la lb i (by omega) ((b.length+1) / 2) 0 o (by omega) ho (fun q=>by rw [hv q,Nat.mul_zero,XH,Int.add_zero])
  rw [ae (by omega),aF,bD (cN (by omega) (by omega)),h1]
  exact Eq.trans q1 (ih (i+1) o' (by omega) q2 q3)
theorem bK.goal (a b:List Int) (hp:(decide (a.length≤256∧b.length≤256)&&(Gz.gY a&&Gz.gY b))=true):bK.F a b=some [.sl .is (Gz.conv a b),.b true]:=by
 simp only [aa,ay] at hp
 obtain ⟨⟨la,lb⟩,ha,hb⟩:=hp
 refine bK.dZ _ _ ?_
 intro v1 h1 v2 h2 v3 h3 v4 h4 v5 h5 v6 h6
 have e1:v1=false:=h1
 have ca:(decide (a.length≤256)&&Gz.gY a)=true:=by rw [ha,ae la];rfl
 have cb:(decide (b.length≤256)&&Gz.gY b)=true:=by rw [hb,ae lb];rfl
 simp only [bz,bB,Bool.not_not,a8,Bool.true_and,Bool.false_or,Bool.or_self,da,ca,cb,e1,ax]
 by_cases na:a=[]
 ·subst na
  have e2:v2=true:=h2
  rw [e2,aF];unfold conv;rw [aH (Or.inl rfl)];rfl
 ·by_cases nb:b=[]
  ·subst nb
   have e2:v2=true:=by
    rw [h2]
    cases decide ((a.length:Int)=0) <;> rfl
   rw [e2,aF];unfold conv;rw [aH (Or.inr rfl)];rfl
  ·have pa:=List.length_pos_iff.2 na
   have pb:=List.length_pos_iff.2 nb
   have e2:v2=false:=by rw [h2,af (by omega),ax];exact af (by omega)
   have e3:v3=a.length+b.length:=by rw [h3,i64_in _ (by omega)]
   have e4:v4=((a.length+b.length+2:Nat):Int):=by rw [h4,e3,i64_in _ (by omega)];omega
   rw [e4,aw] at h5
   rw [e2,ax,e4]
   refine Eq.trans (bD rfl) ?_
   rw [bD (jJ.2 ⟨by omega,by omega,by omega,by rw [iT];omega⟩),h6]
   exact bK.fo a b ha hb la lb na nb ((a.length+1) / 2) 0 v5 (by omega) (by rw [h5,List.length_replicate]) (fun q=>by
    rw [h5]
    show _=(0:Int)
    rw [ak,List.getElem?_replicate]
    split <;> rfl)
end Go.Eng
namespace Go.Eng
open Go.IntWalk
namespace Gz
def xB:List Int→Int
 | []=>0
 | x :: r=>x+65536 * xB r
def sn (h:Nat→Int):Nat→Int
 | 0=>0
 | n+1=>sn h n+h n * 65536 ^ n
theorem zN:∀(l:List Int) (x:Int),xB (l++[x])=xB l+x * 65536 ^ l.length
 | [],x=>by simp [xB]
 | y :: r,x=>by
  rw [List.cons_append,xB,zN r x,xB,aP,Int.pow_succ,Int.mul_add,←Int.mul_assoc x,Int.mul_comm 65536 (x * _),Int.add_assoc]
theorem so (f:Nat→Int):∀n,xB ((List.range n).map f)=sn f n
 | 0=>rfl
 | n+1=>by rw [List.range_succ,List.map_append,List.map_singleton,zN,so f n,aG,List.length_range];rfl
theorem Gk (l:List Int):xB l=sn (l.getD · 0) l.length:=by
 rw [←so,←B3 l _ l.length (Nat.le_refl _) (fun _=>rfl),List.take_length]
theorem sj {f g:Nat→Int}:∀n,(∀i,i<n→f i=g i)→sn f n=sn g n
 | 0,_=>rfl
 | n+1,h=>by rw [sn,sn,sj n (fun i hi=>h i (by omega)),h n (by omega)]
theorem Co (f g:Nat→Int):∀n,sn (fun i=>f i+g i) n=sn f n+sn g n
 | 0=>rfl
 | n+1=>by
  simp only [sn]
  rw [Co f g n,Int.add_mul];omega
theorem uR:∀n,sn (fun _=>0) n=0
 | 0=>rfl
 | n+1=>by
  simp only [sn]
  rw [uR n,Int.zero_mul];rfl
theorem Cn {g:Nat→Int} {n:Nat} (h:∀i,n≤i→g i=0):∀k,sn g (n+k)=sn g n
 | 0=>rfl
 | k+1=>by rw [←Nat.add_assoc,sn,Cn h k,h _ (by omega),Int.zero_mul,Int.add_zero]
theorem we (c:Int) (g:Nat→Int) (n:Nat):∀k,sn (fun m=>if n≤m then c * g (m - n) else 0) (n+k)=c * 65536 ^ n * sn g k
 | 0=>by
  rw [Nat.add_zero,sj (g:=fun _=>0) n (fun i hi=>aD (by omega)),uR,sn,Int.mul_zero]
 | k+1=>by
  rw [←Nat.add_assoc,sn,we c g n k,sn]
  rw [aH (by omega),show n+k - n=k by omega,Int.mul_add,Int.pow_add,Int.mul_assoc c (g k),Int.mul_assoc c (65536 ^ n) (g k * 65536 ^ k),←Int.mul_assoc (g k),Int.mul_comm (g k) (65536 ^ n),Int.mul_assoc (65536 ^ n) (g k)]
theorem Kd {f g:Nat→Int} {L:Nat} (hg:∀i,L≤i→g i=0) (N:Nat):∀n,n+L≤N+1→n≤N→sn (fun m=>T f g m n) N=sn f n * sn g L
 | 0,_,_=>by
  rw [sn,Int.zero_mul];exact uR N
 | n+1,h,h2=>by
  have e:=we (f n) g n (N - n)
  rw [show n+(N - n)=N by omega] at e
  have e2:sn g (N - n)=sn g L:=by
   rw [show N - n=L+(N - n - L) by omega];exact Cn hg _
  have:=Co (fun m=>T f g m n) (fun m=>if n≤m then f n * g (m - n) else 0) N
  rw [e,e2,Kd hg N n (by omega) (by omega),←Int.add_mul] at this
  exact this
theorem Gl (a b:List Int):xB (conv a b)=xB a * xB b:=by
 by_cases na:a=[]
 ·subst na;unfold conv;rw [aH (Or.inl rfl)];simp [xB]
 ·by_cases nb:b=[]
  ·subst nb;unfold conv;rw [aH (Or.inr rfl)];simp [xB]
  ·have pa:=List.length_pos_iff.2 na
   have pb:=List.length_pos_iff.2 nb
   unfold conv
   rw [aD (by simp [na,nb]),so,Gk a,Gk b]
   rw [sj (g:=fun m=>T (a.getD · 0) (b.getD · 0) m a.length) _ (fun i _=>(Bk a b i _ (Nat.le_refl _)).symm)]
   exact Kd (fun i hi=>by
    show b.getD i 0=0
    rw [ak,List.getElem?_eq_none (by omega)];rfl) _ _ (by omega) (by omega)
theorem xA:∀a:List UInt16,xB (a.map fun d=>(d.toNat:Int))=(Nt.val a:Int)
 | []=>rfl
 | d :: r=>by rw [ah,xB,xA r,Nt.val];omega
theorem s9 (a b:List Int):(conv a b).length=if a=[]∨b=[] then 0 else a.length+b.length - 1:=by
 unfold conv
 split
 ·rfl
 ·rw [aG,List.length_range]
theorem GG (a b:List Int) (ha:gY a=true) (hb:gY b=true) (la:a.length≤256) (i:Nat):0≤(conv a b).getD i 0∧(conv a b).getD i 0≤1099478073600:=by
 by_cases h:i<(conv a b).length
 ·have hl:=s9 a b
  by_cases c:a=[]∨b=[]
  ·rw [hl,aH c] at h;omega
  ·have e:(conv a b).getD i 0=Dw a b i:=by
    rw [ak,aA h]
    unfold conv
    simp only [aD c,List.getElem_map,List.getElem_range,Option.getD_some]
   rw [e,←Bk a b i _ (Nat.le_refl _)]
   have:=MH (f:=(a.getD · 0)) (g:=(b.getD · 0)) (tM ha) (tM hb) i a.length
   omega
 ·rw [ak,List.getElem?_eq_none (by omega)];exact ⟨by decide,by decide⟩
end Gz
open Gz
theorem xZ (acc:List UInt16) (c:Nat):Nt.val (acc++[UInt16.ofNat c])+65536 ^ (acc.length+1) * (c / 65536)=Nt.val acc+65536 ^ acc.length * c:=by
 rw [Nt.fx]
 simp only [Nt.val,Nat.mul_zero,Nat.add_zero,Nt.dB]
 rw [Nat.pow_succ,Nat.mul_assoc,Nat.add_assoc,←Nat.mul_add,Nat.mod_add_div]
theorem cI.lF (R:Nat):∀(k:Nat) (acc:List UInt16) (c:Nat),c<65536 ^ k→acc.length+k≤10000→Nt.val acc+65536 ^ acc.length * c=R→cI.l2 acc c=some [.sl .ws (Nt.of R)]:=by
 intro k
 induction k with
 | zero =>
  intro acc c hc hl hv
  obtain rfl:c=0:=by simpa using hc
  refine cI.jw _ _ ?_
  intro v1 h1 v2 h2
  rw [af (by omega),ax,bD (ae (by omega)),←hv,Nat.mul_zero,Nat.add_zero]
 | succ k ih =>
  intro acc c hc hl hv
  refine cI.jw _ _ ?_
  intro v1 h1 v2 h2
  by_cases c0:c=0
  ·subst c0
   rw [af (by omega),ax,bD (ae (by omega)),←hv,Nat.mul_zero,Nat.add_zero]
  ·rw [nY] at h1
   rw [xy] at h2
   rw [ae (by omega),aF,h1,h2,bD (gZ (by rw [az];omega) (by rw [az];omega))]
   exact ih _ _ (by rw [Nat.pow_succ] at hc;exact Nat.div_lt_of_lt_mul (by rw [Nat.mul_comm];exact hc)) (by rw [aq,az];omega) (by
    rw [aq,az,xZ];exact hv)
theorem cI.fo (l:List Int) (hl:l.length≤600) (hb:∀i,0≤l.getD i 0∧l.getD i 0≤1099478073600) (R:Nat):∀(m i:Nat) (acc:List UInt16) (c:Nat),i+m=l.length→acc.length=i→c≤1099511627776→((Nt.val acc:Nat):Int)+65536 ^ i * (c+xB (l.drop i))=R→cI.l1 acc c l l.length i=some [.sl .ws (Nt.of R)]:=by
 intro m
 induction m with
 | zero =>
  intro i acc c hi ha hc hv
  refine cI.dE _ _ _ _ _ ?_
  intro v1 h1 v2 h2 v3 h3 v4 h4
  rw [bc (by omega),xB,Int.add_zero] at hv
  rw [af (by omega),ax]
  refine cI.lF R 3 acc c (by omega) (by omega) ?_
  rw [ha]
  have e:((65536 ^ i * c:Nat):Int)=65536 ^ i * (c:Int):=by rw [Int.natCast_mul,Int.natCast_pow];rfl
  omega
 | succ m ih =>
  intro i acc c hi ha hc hv
  refine cI.dE _ _ _ _ _ ?_
  intro v1 h1 v2 h2 v3 h3 v4 h4
  rw [aw] at h1
  have hx:=hb i
  rw [←h1] at hx
  obtain ⟨x,rfl⟩:=Int.eq_ofNat_of_zero_le hx.1
  have e0:IntKind.i64.wrap ((c:Int)+(x:Int))=((c+x:Nat):Int):=by rw [i64_in _ (by omega)];omega
  rw [e0] at h2 h3
  rw [nY] at h2
  rw [xy] at h3
  have e4:v4=((i+1:Nat):Int):=by rw [h4,i64_in _ (by omega)];omega
  rw [ae (by omega),aF,bD (cN (by omega) (by omega)),bD (gZ (by rw [az];omega) (by rw [az];omega)),h2,h3,e4]
  refine ih (i+1) _ _ (by omega) (by rw [aq,az];omega) (by omega) ?_
  rw [drop_cons (show i<l.length by omega) 0,xB,←h1] at hv
  have hm:=xZ acc (c+x)
  rw [ha] at hm
  have xk:((Nt.val (acc++[UInt16.ofNat (c+x)]):Nat):Int)+65536 ^ (i+1) * (((c+x) / 65536:Nat):Int)=(Nt.val acc:Int)+65536 ^ i * ((c+x:Nat):Int):=by
   have:=congrArg (Nat.cast:Nat→Int) hm
   rw [Int.natCast_add,Int.natCast_add,Int.natCast_mul,Int.natCast_mul,Int.natCast_pow,Int.natCast_pow] at this
   exact this
  generalize xB (l.drop (i+1))=E at *
  rw [Int.mul_add,←Int.add_assoc,xk,←hv,Int.pow_succ,Int.mul_assoc,Int.add_assoc,←Int.mul_add]
  congr 2
  omega
theorem cI.goal (a b:List UInt16) (hp:(Nt.is a&&Nt.is b)=true):cI.F a b=some [.sl .ws (Nt.of (Nt.val a * Nt.val b))]:=by
 simp only [aa] at hp
 obtain ⟨ha,hb⟩:=hp
 have la:=Nt.iY ha
 have lb:=Nt.iY hb
 have hd:∀a:List UInt16,Gz.gY (a.map fun d=>(d.toNat:Int))=true:=fun a=>by
  unfold Gz.gY
  rw [aL]
  intro x hx
  obtain ⟨d,_,rfl⟩:=aO.1 hx
  have:=d.toNat_lt
  exact ae (by omega)
 refine cI.dZ _ _ ?_
 intro v1 h1 v2 h2 v3 h3 v4 h4
 have e1:v1=false:=by rw [h1,ha,hb];rfl
 have l2:v2.length=a.length:=by rw [h2,aG]
 have l3:v3.length=b.length:=by rw [h3,aG]
 have d2:Gz.gY v2=true:=by rw [h2];exact hd a
 have d3:Gz.gY v3=true:=by rw [h3];exact hd b
 have c1:(decide (v2.length≤256∧v3.length≤256)&&(Gz.gY v2&&Gz.gY v3))=true:=by rw [d2,d3,ae ⟨by omega,by omega⟩];rfl
 rw [e1,ha,h4,bD c1,ae (show a.length≤1099511627776 by omega),ae (show b.length≤1099511627776 by omega),ae (show a.length≤256 by omega),ae (show b.length≤256 by omega)]
 refine Eq.trans (b:=cI.l1 [] 0 (Gz.conv v2 v3) (Gz.conv v2 v3).length 0) rfl ?_
 have hl:(Gz.conv v2 v3).length≤600:=by
  rw [Gz.s9]
  split <;> omega
 refine cI.fo _ hl (Gz.GG _ _ d2 d3 (by omega)) _ (Gz.conv v2 v3).length 0 [] 0 (by omega) rfl (by omega) ?_
 rw [aS,Gz.Gl,h2,h3,Gz.xA,Gz.xA,Int.natCast_mul]
 simp [Nt.val]
end Go.Eng
namespace Go.Eng
open Go.IntWalk
namespace Nr
theorem tD {a:Nat} (h:0<a) (e:Int):0<iC a e:=Nat.mul_pos h (Nat.two_pow_pos _)
def pt (Q F:Nat):Nat:=if Q<4503599627370496 then Q else (F+1) * 4503599627370496+(Q - 4503599627370496)
theorem Jq {Q F:Nat} (h:4503599627370496≤Q∨F=0) (h2:Q<9007199254740992):iD (pt Q F)=Q∧sh (pt Q F)=F:=by
 unfold pt
 split
 ·rename_i c
  obtain rfl:F=0:=by omega
  unfold iD sh
  rw [aH c,show Q / 4503599627370496=0 by omega];exact ⟨rfl,rfl⟩
 ·rename_i c
  exact Hh (by omega) h2
theorem KS (Q F:Nat):pt Q F % 2=Q % 2:=by
 unfold pt
 split <;> omega
theorem He {a b Q:Nat} {E:Int} {F:Nat} (hb:0<b) (hE:E+1074=F) (hQ:Q=iR a E / iC b E) (h:4503599627370496≤Q∨F=0) (h2:Q<9007199254740992) :
  (V (pt Q F) * b≤a * 2 ^ 1074∧a * 2 ^ 1074<V (pt Q F+1) * b)∧(fC a b (pt Q F) ↔ (iC b E<2 * (iR a E % iC b E)∨(iC b E=2 * (iR a E % iC b E)∧Q % 2=1))):=by
 obtain ⟨m1,m2⟩:=Jq h h2
 have hB:=tD hb E
 have Dh:=Nat.div_add_mod (iR a E) (iC b E)
 have hr:=Nat.mod_lt (iR a E) hB
 rw [←hQ] at Dh
 generalize hR:iR a E % iC b E=R at *
 have Mc:V (pt Q F)=Q * 2 ^ F:=by unfold V;rw [m1,m2]
 have MZ:V (pt Q F+1)=(Q+1) * 2 ^ F:=by rw [xO,m1,m2]
 -- both TN times 2^(-E)
 have k1:∀n:Nat,n * 2 ^ F * b * 2 ^ (-E).toNat=n * iC b E * 2 ^ 1074:=fun n=>by
  unfold iC
  exact Ff (yz (a:=F) (b:=(-E).toNat) (c:=E.toNat) (d:=1074) (by omega))
 have k2:a * 2 ^ 1074 * 2 ^ (-E).toNat=iR a E * 2 ^ 1074:=by unfold iR;rw [Nat.mul_right_comm]
 have hp:=Nat.two_pow_pos (-E).toNat
 have qN:=Nat.two_pow_pos 1074
 refine ⟨⟨?_,?_⟩,?_⟩
 ·refine Nat.le_of_mul_le_mul_right ?_ hp
  rw [Mc,k1,k2]
  refine ar _ ?_
  rw [Nat.mul_comm];omega
 ·refine Nat.lt_of_mul_lt_mul_right (a:=2 ^ (-E).toNat) ?_
  rw [MZ,k1,k2]
  refine Nat.mul_lt_mul_of_pos_right ?_ qN
  rw [Nat.add_mul,Nat.mul_comm Q];omega
 ·unfold fC
  rw [lD,Mc,MZ,KS,←Nat.add_mul]
  have e:a * fS * 2 ^ (-E).toNat=2 * iR a E * 2 ^ 1074:=by
   rw [mul_two (a:=a) iG,Nat.mul_assoc 2,k2,←Nat.mul_assoc]
  have k3:=k1 (Q+(Q+1))
  have g1:((Q+(Q+1)) * 2 ^ F * b<a * fS) ↔ (Q+(Q+1)) * iC b E<2 * iR a E:=by
   constructor
   ·intro h
    have:=Nat.mul_lt_mul_of_pos_right h hp
    rw [k3,e] at this
    exact Nat.lt_of_mul_lt_mul_right this
   ·intro h
    refine Nat.lt_of_mul_lt_mul_right (a:=2 ^ (-E).toNat) ?_
    rw [k3,e]
    exact Nat.mul_lt_mul_of_pos_right h qN
  have g2:((Q+(Q+1)) * 2 ^ F * b=a * fS) ↔ (Q+(Q+1)) * iC b E=2 * iR a E:=by
   constructor
   ·intro h
    have this:(Q+(Q+1)) * 2 ^ F * b * 2 ^ (-E).toNat=a * fS * 2 ^ (-E).toNat:=by rw [h]
    rw [k3,e] at this
    exact Nat.eq_of_mul_eq_mul_right qN this
   ·intro h
    refine Nat.eq_of_mul_eq_mul_right hp ?_
    rw [k3,e,h]
  rw [g1,g2,Nat.add_mul,Nat.add_mul,Nat.one_mul]
  have hc:Q * iC b E=iC b E * Q:=Nat.mul_comm _ _
  omega
theorem rK (A B:Nat):(um A B=A / B+1∧(B<2 * (A % B)∨(B=2 * (A % B)∧A / B % 2=1)))∨(um A B=A / B∧¬(B<2 * (A % B)∨(B=2 * (A % B)∧A / B % 2=1))):=by
 unfold um
 split
 ·rename_i h;exact .inl ⟨rfl,h⟩
 ·rename_i h;exact .inr ⟨rfl,h⟩
theorem vR {a b:Nat} {E:Int} (hb:0<b) (hE : -1074≤E) (h:4503599627370496≤iR a E / iC b E∨E=-1074) (h2:iR a E / iC b E<9007199254740992):gf a b=join false (um (iR a E) (iC b E)) E:=by
 classical
 obtain ⟨F,hF⟩:=Int.eq_ofNat_of_zero_le (show 0≤E+1074 by omega)
 generalize hQ:iR a E / iC b E=Q at *
 have Uo:4503599627370496≤Q∨F=0:=by omega
 obtain ⟨⟨a1,a2⟩,a3⟩:=He hb hF hQ.symm Uo h2
 obtain ⟨m1,m2⟩:=Jq Uo h2
 have Mc:V (pt Q F)=Q * 2 ^ F:=by unfold V;rw [m1,m2]
 have MZ:V (pt Q F+1)=(Q+1) * 2 ^ F:=by rw [xO,m1,m2]
 have ex:(-(E+1074)).toNat=0:=by omega
 have ey:(E+1074).toNat=F:=by omega
 have hj:∀p M,V p=M * 2 ^ F→join false M E=if p≤top then some p else none:=fun p M hv=>by
  split
  ·rename_i ht
   exact join_some false ht (by rw [ex,ey,Nat.pow_zero,Nat.mul_one,hv])
  ·rename_i ht
   refine join_none false fun q hq e=>ht ?_
   rw [ex,ey,Nat.pow_zero,Nat.mul_one,←hv] at e
   exact Ks e ▸ hq
 have hr:=rK (iR a E) (iC b E)
 rw [hQ] at hr
 by_cases hp:pt Q F≤top
 ·rw [Ia hb a1 a2 hp]
  rcases hr with ⟨r1,r2⟩ | ⟨r1,r2⟩
  ·rw [aH (a3.2 r2),r1,hj _ _ MZ]
  ·rw [aD (fun h=>r2 (a3.1 h)),r1,hj _ _ Mc,aH hp]
 ·rw [Fc hb a1 (by omega)]
  rcases hr with ⟨r1,r2⟩ | ⟨r1,r2⟩
  ·rw [r1,hj _ _ MZ,aD (by omega)]
  ·rw [r1,hj _ _ Mc,aD hp]
end Nr
theorem ln (a b:Nat):(Nt.cmp a b=-1∧a<b)∨(Nt.cmp a b=0∧a=b)∨(Nt.cmp a b=1∧b<a):=by
 unfold Nt.cmp
 by_cases c:a<b
 ·rw [aH c];exact .inl ⟨rfl,c⟩
 ·rw [aD c]
  by_cases d:a=b
  ·rw [aH d];exact .inr (.inl ⟨rfl,d⟩)
  ·rw [aD d];exact .inr (.inr ⟨rfl,by omega⟩)
theorem H6 {n:Nat} (h:n<2 ^ 64):(Nt.of n).length≤4:=(Nt.jv n 4).2 (by rw [show (65536:Nat) ^ 4=2 ^ 64 by decide];exact h)
theorem bW.gG (A B:Nat) (hB:0<B) (hA:A<2 ^ 4090) (Ta:B<2 ^ 4090) (Mf:A<2 ^ 60 * B):bW.j1 (Nt.of A) (Nt.of B)=some [.u64 (UInt64.ofNat (Nr.um A B)),.b (Nr.lx A B)]:=by
 have YU:(2:Nat) ^ (6+4090)=64 * 2 ^ 4090:=Nr.KR 4090
 refine bW.kF _ _ ?_
 intro v1 h1 v2 h2 v3 h3 v4 h4 v5 h5 v6 h6 v7 h7 v8 h8 v9 h9
 rw [Nt.eG,Nt.eG] at h1 h2
 have hr:=Nat.mod_lt A hB
 have hq:A / B<2 ^ 60:=(Nat.div_lt_iff_lt_mul hB).2 Mf
 have e1:Nt.val v1=A / B:=by rw [h1,Nt.eG]
 have e2:Nt.val v2=A % B:=by rw [h2,Nt.eG]
 have e3:Nt.val v3=2 * (A % B):=by rw [h3,Nt.eG,e2];exact Nat.mul_comm ..
 rw [e3,Nt.eG] at h4
 have i1:Nt.is (Nt.of A)=true:=Nt.pS (by omega)
 have i2:Nt.is (Nt.of B)=true:=Nt.pS (by omega)
 have i3:Nt.is v1=true:=by rw [h1];exact Nt.pS (by omega)
 have i4:Nt.is v2=true:=by rw [h2];exact Nt.pS (by omega)
 have i5:Nt.is v3=true:=by rw [h3];exact Nt.pS (by rw [e2];show A % B * 2 ^ 1<_;omega)
 have nb:Nt.of B≠[]:=by rw [Nt.lC hB];simp
 have l4:v1.length≤4:=by rw [h1];exact H6 (Nat.lt_of_lt_of_le hq (Nat.pow_le_pow_right (by omega) (by omega)))
 rw [i1,i2,i3,i4,i5,ae nb]
 refine (bD (by rfl)).trans ?_
 rw [bD (ae ⟨rfl,l4⟩)]
 refine (bD (by rfl)).trans ?_
 refine (bD (by rfl)).trans ?_
 rw [e1] at h6 h9 ⊢
 have WS:(2:Nat) ^ 60=1152921504606846976:=by decide
 have e6:decide (v6=1)=decide (A / B % 2=1):=by
  have e6:v6.toNat=A / B % 2:=by
   rw [h6,UInt64.toNat_mod,ji]
   show A / B % 18446744073709551616 % 2=_
   omega
  by_cases c:A / B % 2=1
  ·rw [ae c,ae (jj (by rw [e6,c];rfl))]
  ·rw [af c,af (fun h=>c (by rw [←e6,h];rfl))]
 have e9:v9=UInt64.ofNat (A / B+1):=jj (by
  rw [h9,UInt64.toNat_add,ji,ji]
  show (A / B % 18446744073709551616+1) % 18446744073709551616=_
  omega)
 have UE:decide (v9=9007199254740992)=decide (A / B+1=9007199254740992):=by
  by_cases c:A / B+1=9007199254740992
  ·rw [ae c,e9,c];rfl
  ·rw [af c,af (fun h=>c (by
    have:=congrArg UInt64.toNat h
    rw [e9,ji] at this
    have e0:(9007199254740992:UInt64).toNat=9007199254740992:=rfl
    omega))]
 rw [e6] at h7
 rcases ln (2 * (A % B)) B with ⟨q1,q2⟩ | ⟨q1,q2⟩ | ⟨q1,q2⟩
 ·rw [q1] at h4
  subst h4
  have e7:v7=false:=h7
  have e8:v8=false:=by rw [h8,e7];rfl
  have e5:v5=false:=h5
  have hn:Nr.um A B=A / B:=by unfold Nr.um;rw [aD (by omega)]
  have hu:Nr.lx A B=false:=by unfold Nr.lx;rw [hn];exact af (by omega)
  rw [e8,e5,hn,hu];rfl
 ·rw [q1] at h4
  subst h4
  have e7:v7=decide (A / B % 2=1):=h7
  have e8:v8=decide (A / B % 2=1):=by rw [h8,e7];rfl
  have e5:v5=true:=h5
  rw [e8,e5]
  refine Eq.trans (b:=cond (decide (A / B % 2=1)) (some [.u64 v9,.b (decide (v9=9007199254740992))]) (some [.u64 (UInt64.ofNat (A / B)),.b false])) rfl ?_
  by_cases c:A / B % 2=1
  ·have hn:Nr.um A B=A / B+1:=by unfold Nr.um;rw [aH (.inr ⟨q2.symm,c⟩)]
   have hu:Nr.lx A B=decide (A / B+1=9007199254740992):=by
    unfold Nr.lx;rw [hn]
    by_cases d:A / B+1=9007199254740992
    ·rw [ae d,ae ⟨rfl,d⟩]
    ·rw [af d,af (fun h=>d h.2)]
   rw [ae c,aF,UE,e9,hn,hu]
  ·have hn:Nr.um A B=A / B:=by unfold Nr.um;rw [aD (by omega)]
   have hu:Nr.lx A B=false:=by unfold Nr.lx;rw [hn];exact af (by omega)
   rw [af c,ax,hn,hu]
 ·rw [q1] at h4
  subst h4
  have e7:v7=false:=h7
  have e8:v8=true:=by rw [h8];rfl
  have e5:v5=false:=h5
  have hn:Nr.um A B=A / B+1:=by unfold Nr.um;rw [aH (.inl q2)]
  have hu:Nr.lx A B=decide (A / B+1=9007199254740992):=by
   unfold Nr.lx;rw [hn]
   by_cases d:A / B+1=9007199254740992
   ·rw [ae d,ae ⟨rfl,d⟩]
   ·rw [af d,af (fun h=>d h.2)]
  rw [e8,e5]
  refine Eq.trans (b:=some [.u64 v9,.b (decide (v9=9007199254740992))]) rfl ?_
  rw [UE,e9,hn,hu]
theorem bW.goal (a b:List UInt16) (e:Int) (hp:(Nt.is a&&Nt.is b&&decide (-4096≤e∧e≤4096∧0<Nt.val b∧Nr.iR (Nt.val a) e<2 ^ 4090∧Nr.iC (Nt.val b) e<2 ^ 4090∧Nr.iR (Nt.val a) e<2 ^ 60 * Nr.iC (Nt.val b) e))=true) :
  bW.F a b e=some [.u64 (UInt64.ofNat (Nr.um (Nr.iR (Nt.val a) e) (Nr.iC (Nt.val b) e))),.b (Nr.lx (Nr.iR (Nt.val a) e) (Nr.iC (Nt.val b) e))]:=by
 simp only [aa,ay] at hp
 obtain ⟨⟨ha,hb⟩,p1,p2,p3,p4,p5,p6⟩:=hp
 have key:=bW.gG (Nr.iR (Nt.val a) e) (Nr.iC (Nt.val b) e) (Nr.tD p3 e) p4 p5 p6
 refine bW.dZ _ _ _ ?_
 intro v1 h1 v2 h2
 by_cases c:e<0
 ·have ew:IntKind.i64.wrap (0 - e)=-e:=by rw [i64_in _ (by omega)];omega
  rw [ew] at h1
  have eB:Nr.iC (Nt.val b) e=Nt.val b:=by unfold Nr.iC;rw [show e.toNat=0 by omega,Nat.pow_zero,Nat.mul_one]
  rw [ae c,aF,ew,ha,ae (show 0≤-e∧-e≤4096 by omega)]
  refine (bD (by rfl)).trans ?_
  rw [h1,←Nt.iM (Nt.iU hb)]
  rw [eB] at key
  rw [Nt.eG,eB]
  exact key
 ·have eA:Nr.iR (Nt.val a) e=Nt.val a:=by unfold Nr.iR;rw [show (-e).toNat=0 by omega,Nat.pow_zero,Nat.mul_one]
  rw [af c,ax,hb,ae (show 0≤e∧e≤4096 by omega)]
  refine (bD (by rfl)).trans ?_
  rw [h2,←Nt.iM (Nt.iU ha)]
  rw [eA] at key
  rw [Nt.eG,eA]
  exact key
end Go.Eng
namespace Go.Eng
open Go.IntWalk
namespace Nr
theorem Er {a b i j t:Nat} {E:Int} (ha:a<2 ^ i) (hb:2 ^ (j - 1)≤b) (hj:0<j) (h:(i:Int) - j+1 - E≤t):iR a E<2 ^ t * iC b E:=by
 unfold iR iC
 have h1:a * 2 ^ (-E).toNat<2 ^ (i+(-E).toNat):=by rw [Nat.pow_add];exact Nat.mul_lt_mul_of_pos_right ha (Nat.two_pow_pos _)
 have h2:2 ^ (t+(j - 1)+E.toNat)≤2 ^ t * (b * 2 ^ E.toNat):=by
  rw [Nat.pow_add,Nat.pow_add,Nat.mul_assoc];exact Nat.mul_le_mul_left _ (ar _ hb)
 have h3:2 ^ (i+(-E).toNat)≤2 ^ (t+(j - 1)+E.toNat):=Nat.pow_le_pow_right (by omega) (by omega)
 exact Nat.lt_of_lt_of_le h1 (Nat.le_trans h3 h2)
theorem Nj {a b i j t:Nat} {E:Int} (ha:2 ^ (i - 1)≤a) (hi:0<i) (hb:b<2 ^ j) (h:(t:Int)≤(i:Int) - 1 - j - E):2 ^ t * iC b E≤iR a E:=by
 unfold iR iC
 have h1:2 ^ (i - 1+(-E).toNat)≤a * 2 ^ (-E).toNat:=by rw [Nat.pow_add];exact ar _ ha
 have h2:2 ^ t * (b * 2 ^ E.toNat)≤2 ^ (t+j+E.toNat):=by
  rw [Nat.pow_add,Nat.pow_add,Nat.mul_assoc];exact Nat.mul_le_mul_left _ (ar _ (Nat.le_of_lt hb))
 have h3:2 ^ (t+j+E.toNat)≤2 ^ (i - 1+(-E).toNat):=Nat.pow_le_pow_right (by omega) (by omega)
 exact Nat.le_trans h2 (Nat.le_trans h3 h1)
theorem HT (a b:Nat) (E:Int):(iR a (E+1)=iR a E∧iC b (E+1)=2 * iC b E)∨(iR a E=2 * iR a (E+1)∧iC b (E+1)=iC b E):=by
 unfold iR iC
 by_cases c:0≤E
 ·left
  rw [show (-(E+1)).toNat=0 by omega,show (-E).toNat=0 by omega,show (E+1).toNat=E.toNat+1 by omega,Nat.pow_succ,←Nat.mul_assoc,Nat.mul_comm _ 2]
  exact ⟨rfl,rfl⟩
 ·right
  rw [show (-E).toNat=(-(E+1)).toNat+1 by omega,show (E+1).toNat=0 by omega,show E.toNat=0 by omega,Nat.pow_succ,←Nat.mul_assoc,Nat.mul_comm _ 2]
  exact ⟨rfl,rfl⟩
end Nr
theorem jt {a i k:Nat} (h:a<2 ^ i) (hk:i≤k):a<2 ^ k:=Nat.lt_of_lt_of_le h (Nat.pow_le_pow_right (by omega) hk)
theorem uv {a i j k:Nat} (h:a<2 ^ i) (hk:i+j≤k):a * 2 ^ j<2 ^ k:=by
 refine jt (i:=i+j) ?_ hk
 rw [Nat.pow_add];exact Nat.mul_lt_mul_of_pos_right h (Nat.two_pow_pos _)
theorem cJ.gG (E : Int) (M : Nat) (hM : M < 2 ^ 64) (hE : -1074 ≤ E ∧ E ≤ 2000) (a b : Nat) (h : Nr.gf a b = Nr.join false M E) : cJ.j1 E (UInt64.ofNat M) = some [.u64 (Nr.pat (Nr.gf a b)), .b (Nr.gf a b).isSome] := by
  refine cJ.kF _ _ ?_
  intro v1 h1 v2 h2
  have e : (UInt64.ofNat M).toNat = M := by rw [ji]; have : (2 : Nat) ^ 64 = 18446744073709551616 := by decide
                                            omega
  rw [e, ← h] at h1 h2
  rw [bD (ae (by omega)), h1, h2]
theorem cJ.goal (a b:List UInt16) (hp:(Nt.is a&&Nt.is b&&decide (0<Nt.val a∧0<Nt.val b∧Nt.val a<2 ^ 1100∧Nt.val b<2 ^ 2200))=true):cJ.F a b=some [.u64 (Nr.pat (Nr.gf (Nt.val a) (Nt.val b))),.b (Nr.gf (Nt.val a) (Nt.val b)).isSome]:=by
 simp only [aa,ay] at hp
 obtain ⟨⟨ha,hb⟩,p1,p2,p3,p4⟩:=hp
 refine cJ.dZ _ _ ?_
 intro v1 h1 v2 h2 v3 h3 v4 h4 v5 h5 v6 h6 v7 h7 v8 h8
 obtain ⟨i1,i2,i3⟩:=Nt.iO p1
 obtain ⟨j1,j2,j3⟩:=Nt.iO p2
 have i4:=Nt.kx p3
 have j4:=Nt.kx p4
 generalize Nt.bits (Nt.val a)=i at *
 generalize Nt.bits (Nt.val b)=j at *
 generalize Nt.val a=A at *
 generalize Nt.val b=B at *
 have e1:v1=(i:Int) - j:=by rw [h1,i64_in _ (by omega)]
 have e2:v2=(i:Int) - j - 53:=by rw [h2,e1,i64_in _ (by omega)]
 have em:nu v2 (-1074)=max ((i:Int) - j - 53) (-1074):=by rw [e2];unfold nu;split <;> omega
 rw [em] at h3 h4 h6 ⊢
 generalize hE:max ((i:Int) - j - 53) (-1074)=E at *
 have Za : -1074≤E∧E≤1046:=by omega
 have e6:v6=E+1:=by rw [h6,i64_in _ (by omega)]
 rw [e6] at h7 h8
 have Ux:∀E:Int,-1074≤E→E≤1047→Nr.iR A E<2 ^ 4090∧Nr.iC B E<2 ^ 4090:=fun E h1 h2=>by
  unfold Nr.iR Nr.iC
  constructor
  ·exact uv (k:=4090) i2 (by omega)
  ·exact uv (k:=4090) j2 (by omega)
 obtain ⟨a1,a2⟩:=Ux E (by omega) (by omega)
 obtain ⟨a3,a4⟩:=Ux (E+1) (by omega) (by omega)
 have t54:Nr.iR A E<2 ^ 54 * Nr.iC B E:=Nr.Er i2 j1 j3 (by omega)
 have t60:Nr.iR A E<2 ^ 60 * Nr.iC B E:=Nr.Er i2 j1 j3 (by omega)
 have Q4:Nr.iR A (E+1)<2 ^ 60 * Nr.iC B (E+1):=Nr.Er i2 j1 j3 (by omega)
 have hB:=Nr.tD p2 E
 have Uv:=Nr.tD p2 (E+1)
 have hn:=Nr.HT A B E
 have YF:Nr.iR A E / Nr.iC B E<2 ^ 54:=(Nat.div_lt_iff_lt_mul hB).2 t54
 have SU:(2:Nat) ^ 54=18014398509481984:=by decide
 have WK:(2:Nat) ^ 64=18446744073709551616:=by decide
 rw [ha,hb,bD rfl,bD rfl,e6,ae (show -4096≤E∧E≤4096∧0<B∧Nr.iR A E<2 ^ 4090∧Nr.iC B E<2 ^ 4090∧Nr.iR A E<2 ^ 60 * Nr.iC B E from ⟨by omega,by omega,p2,a1,a2,t60⟩),ae (show -4096≤E+1∧E+1≤4096∧0<B∧Nr.iR A (E+1)<2 ^ 4090∧Nr.iC B (E+1)<2 ^ 4090∧Nr.iR A (E+1)<2 ^ 60 * Nr.iC B (E+1) from ⟨by omega,by omega,p2,a3,a4,Q4⟩)]
 refine (bD (by rfl)).trans ?_
 have lH:∀b:Bool,(!b || b)=true:=by decide
 rw [bD (lH _),bD (lH _)]
 have hr:=Nr.rK (Nr.iR A E) (Nr.iC B E)
 have V7:Nr.lx (Nr.iR A E) (Nr.iC B E)=decide (Nr.um (Nr.iR A E) (Nr.iC B E)=Nr.iR A E / Nr.iC B E+1∧Nr.um (Nr.iR A E) (Nr.iC B E)=9007199254740992):=rfl
 rw [V7] at h4
 generalize hQ:Nr.iR A E / Nr.iC B E=Q at *
 generalize hM:Nr.um (Nr.iR A E) (Nr.iC B E)=M at *
 have e3:decide ((9007199254740992:UInt64)≤v3)=decide (9007199254740992≤M):=by
  have ev:v3.toNat=M:=by rw [h3,ji];omega
  by_cases c:9007199254740992≤M
  ·rw [ae c,ae (bk.2 (by rw [ev];exact c))]
  ·rw [af c,af (fun h=>c (by have:=bk.1 h;rw [ev] at this;exact this))]
 have e5:v5=decide (9007199254740992≤M∧¬(M=Q+1∧M=9007199254740992)):=by
  rw [h5,e3,h4]
  by_cases c:9007199254740992≤M
  ·rw [ae c,aF]
   by_cases d:M=Q+1∧M=9007199254740992
   ·rw [ae d,af (fun h=>h.2 d)];rfl
   ·rw [af d,ae ⟨c,d⟩];rfl
  ·rw [af c,ax,af (fun h=>c h.1)]
 by_cases c:9007199254740992≤M∧¬(M=Q+1∧M=9007199254740992)
 ·have S6:9007199254740992≤Q:=by omega
  rw [e5,ae c,aF]
  refine (bD (by rfl)).trans ?_
  have g1:9007199254740992 * Nr.iC B E≤Nr.iR A E:=(Nat.le_div_iff_mul_le hB).1 (by rw [hQ];exact S6)
  have g2:4503599627370496≤Nr.iR A (E+1) / Nr.iC B (E+1):=(Nat.le_div_iff_mul_le Uv).2 (by rcases hn with ⟨n1,n2⟩ | ⟨n1,n2⟩ <;> rw [n2] <;> omega)
  have g3:Nr.iR A (E+1) / Nr.iC B (E+1)<9007199254740992:=(Nat.div_lt_iff_lt_mul Uv).2 (by rw [SU] at t54;rcases hn with ⟨n1,n2⟩ | ⟨n1,n2⟩ <;> rw [n2] <;> omega)
  have JU:=Nr.rK (Nr.iR A (E+1)) (Nr.iC B (E+1))
  rw [h7]
  exact cJ.gG (E+1) _ (by omega) (by omega) A B (Nr.vR p2 (by omega) (.inl g2) g3)
 ·rw [e5,af c,ax,h3]
  have g3:Q<9007199254740992:=by omega
  refine cJ.gG E M (by omega) (by omega) A B ?_
  rw [←hM]
  refine Nr.vR p2 (by omega) ?_ (by rw [hQ];exact g3)
  by_cases d:E=-1074
  ·exact .inr d
  ·left
   refine (Nat.le_div_iff_mul_le hB).2 ?_
   have:=Nr.Nj (t:=52) (E:=E) i1 i3 j2 (by omega)
   rw [show (2:Nat) ^ 52=4503599627370496 by decide] at this
   exact this
end Go.Eng
namespace Go.Eng
open Go.IntWalk
namespace Nr
theorem H8 (b:bT):∀n:Nat,b.foldl (fun n c=>10 * n+(c.toNat - 48)) n=n * 10 ^ b.length+num b:=by
 induction b with
 | nil=>intro n;simp [num]
 | cons c r ih =>
  intro n
  unfold num
  rw [List.foldl_cons,List.foldl_cons,ih,ih,aP,Nat.pow_succ,Nat.mul_zero,Nat.zero_add,Nat.add_mul,Nat.mul_comm 10 n,Nat.mul_assoc,Nat.mul_comm 10 (10 ^ _)]
  omega
theorem fj (a b:bT):num (a++b)=num a * 10 ^ b.length+num b:=by
 unfold num
 rw [List.foldl_append,H8];rfl
theorem qF (c:UInt8) (r:bT):num (c :: r)=(c.toNat - 48) * 10 ^ r.length+num r:=by
 have:=fj [c] r
 rw [List.singleton_append] at this
 rw [this];simp [num]
theorem iS (t:Nat):num (List.replicate t 48)=0:=by
 induction t with
 | zero=>rfl
 | succ t ih=>rw [List.replicate_succ,qF,ih];simp
theorem ig (p:UInt8→Bool):∀d:bT,∃a,d=a++d.dropWhile p∧a.all p=true∧(d.dropWhile p=[]∨p ((d.dropWhile p).getD 0 0)=false)
 | []=>⟨[],rfl,rfl,.inl rfl⟩
 | c :: r=>by
  rw [List.dropWhile_cons]
  cases h:p c
  ·rw [aD (by simp)]
   exact ⟨[],rfl,rfl,.inr h⟩
  ·rw [aH rfl]
   obtain ⟨a,h1,h2,h3⟩:=ig p r
   exact ⟨c :: a,by rw [List.cons_append,←h1],by rw [List.all_cons,h,h2];rfl,h3⟩
theorem Bt:∀{a:bT},(a.all (· == 48))=true→a=List.replicate a.length 48
 | [],_=>rfl
 | c :: r,h=>by
  rw [List.all_cons,aa] at h
  rw [aP,List.replicate_succ,←Bt h.2]
  congr 1
  simpa using h.1
theorem w5 (d:bT):∃z,d=List.replicate z 48++uF d∧(uF d=[]∨(uF d).getD 0 0≠48):=by
 obtain ⟨a,h1,h2,h3⟩:=ig (· == 48) d
 refine ⟨a.length,?_,?_⟩
 ·rw [←Bt h2];exact h1
 ·rcases h3 with h3 | h3
  ·exact .inl h3
  ·exact .inr (by unfold uF;simpa using h3)
theorem gW (d:bT):∃t,d=cT d++List.replicate t 48∧(cT d=[]∨(cT d).getLast?≠some 48):=by
 obtain ⟨a,h1,h2,h3⟩:=ig (· == 48) d.reverse
 refine ⟨a.length,?_,?_⟩
 ·have e:d=(a++d.reverse.dropWhile (· == 48)).reverse:=by rw [←h1,List.reverse_reverse]
  rw [List.reverse_append,Bt h2,List.reverse_replicate] at e
  exact e
 ·rcases h3 with h3 | h3
  ·left;unfold cT;rw [h3];rfl
  ·right
   unfold cT
   rw [List.getLast?_reverse]
   intro h
   cases hd:d.reverse.dropWhile (· == 48) with
   | nil=>rw [hd] at h;cases h
   | cons c r =>
    rw [hd] at h h3
    have:c=48:=by simpa using h
    subst this
    simp at h3
theorem vx (b:UInt8):([48,49,50,51,52,53,54,55,56,57]:bT).contains b=eo b:=by
 have h:∀n,n<256→([48,49,50,51,52,53,54,55,56,57]:bT).contains (UInt8.ofNat n)=eo (UInt8.ofNat n):=by decide +kernel
 have:=h b.toNat b.toNat_lt
 rwa [UInt8.ofNat_toNat] at this
theorem DY (d:bT):Lib.trimLeftS d [48]=uF d:=by
 rw [Lib.trimLeftS_one];rfl
theorem yf (d:bT):Lib.trimRightS d [48]=cT d:=by
 rw [Lib.trimRightS_one];rfl
theorem dropWhile_nil {p:UInt8→Bool}:∀{l:bT},l.dropWhile p=[] ↔ l.all p=true
 | []=>by simp
 | c :: r=>by
  rw [List.dropWhile_cons,List.all_cons]
  cases h:p c
  ·simp
  ·rw [aH rfl,dropWhile_nil];simp
theorem sE (d:bT):(Lib.trimS d [48,49,50,51,52,53,54,55,56,57]=[]) ↔ d.all eo=true:=by
 have e:(fun b=>([48,49,50,51,52,53,54,55,56,57]:bT).contains b)=eo:=funext vx
 have h1:∀l:bT,Lib.trimLeftS l [48,49,50,51,52,53,54,55,56,57]=l.dropWhile eo:=fun l=>by unfold Lib.trimLeftS;rw [e]
 have h2:∀l:bT,Lib.trimRightS l [48,49,50,51,52,53,54,55,56,57]=(l.reverse.dropWhile eo).reverse:=fun l=>by unfold Lib.trimRightS;rw [e]
 unfold Lib.trimS
 rw [h1,h2,dropWhile_nil,List.all_reverse]
 constructor
 ·intro h
  obtain ⟨a,q1,q2,q3⟩:=ig eo d.reverse
  have hn:d.reverse.dropWhile eo=[]:=by
   rcases q3 with q3 | q3
   ·exact q3
   ·cases hd:d.reverse.dropWhile eo with
    | nil=>rfl
    | cons c r =>
     rw [hd] at h q3
     rw [List.all_cons,aa] at h
     have:eo c=false:=q3
     rw [this] at h;cases h.1
  rw [dropWhile_nil,List.all_reverse] at hn
  exact hn
 ·intro h
  rw [(dropWhile_nil (l:=d.reverse)).2 (by rw [List.all_reverse];exact h)];rfl
theorem qa {d:bT} (h:d.all eo=true) (h0:d≠[]) (h1:d.getD 0 0≠48):10 ^ (d.length - 1)≤num d:=by
 cases d with
 | nil=>exact (h0 rfl).elim
 | cons c r =>
  rw [List.all_cons,aa] at h
  have hc:=gg.1 h.1
  have h1:c≠48:=h1
  have IK:c.toNat≠48:=fun e=>h1 (UInt8.toNat_inj.1 e)
  rw [qF,aP,Nat.add_sub_cancel]
  have:1 * 10 ^ r.length≤(c.toNat - 48) * 10 ^ r.length:=ar _ (by omega)
  omega
theorem Aq:fS≤10 ^ 324:=by decide +kernel
theorem Ar:wC≤10 ^ 309:=by decide +kernel
theorem dC (k:Nat):0<10 ^ k:=Nat.pow_pos (by omega)
theorem jE {a b:Nat} (h:a≤b):10 ^ a≤10 ^ b:=Nat.pow_le_pow_right (by omega) h
theorem HF {a b i j k:Nat} (h1:a≤10 ^ i) (h2:b≤10 ^ j) (h:i+j≤k):a * b≤10 ^ k:=by
 refine Nat.le_trans (Nat.mul_le_mul h1 h2) ?_
 rw [←Nat.pow_add];exact jE h
theorem D6 {a b i j k l:Nat} (h1:a≤10 ^ i) (h2:10 ^ k≤b) (h:i+j≤k+l):a * 10 ^ j≤b * 10 ^ l:=by
 refine Nat.le_trans (ar _ h1) (Nat.le_trans ?_ (ar _ h2))
 rw [←Nat.pow_add,←Nat.pow_add];exact jE h
theorem ED {N L:Nat} {k:Int} (hN:N<10 ^ L) (h:k+L≤-324):rd N k=some 0:=by
 unfold rd
 refine Fb (dC _) ?_
 rw [show k.toNat=0 by omega,Nat.pow_zero,Nat.mul_one]
 exact HF (Nat.le_of_lt hN) Aq (by omega)
theorem BM {N L:Nat} {k:Int} (hN:10 ^ (L - 1)≤N) (hL:0<L) (h:310≤k+L):rd N k=none:=by
 unfold rd
 refine CV (dC _) ?_
 exact D6 Ar hN (by omega)
theorem HW (k:Int):rd 0 k=some 0:=by
 unfold rd
 rw [Nat.zero_mul];exact CU _ (dC _)
theorem oh (N t:Nat) (k:Int):rd (N * 10 ^ t) k=rd N (k+t):=by
 unfold rd
 refine uE (dC _) (dC _) ?_
 rw [Nat.mul_assoc,Nat.mul_assoc,Nat.mul_assoc,←Nat.pow_add,←Nat.pow_add,←Nat.pow_add]
 congr 2
 omega
theorem eF {p:UInt8→Bool} {d a b:bT} (h:d.all p=true) (e:d=a++b):a.all p=true∧b.all p=true:=by
 rw [e,List.all_append,aa] at h
 exact h
end Nr
theorem gX {n i:Nat} (h:n<2 ^ i) (hi:i≤4096):Nt.is (Nt.of n)=true:=Nt.pS (jt (k:=4096) h hi)
theorem cV.gG (A B:Nat) (hA:0<A) (hB:0<B) (Uy:A<2 ^ 1100) (Ta:B<2 ^ 2200):cV.j1 (Nt.of A) (Nt.of B)=some [.u64 (Nr.pat (Nr.gf A B)),.b (Nr.gf A B).isSome]:=by
 refine cV.kF _ _ ?_
 intro v1 h1 v2 h2
 rw [Nt.eG,Nt.eG] at h1 h2
 rw [Nt.eG,Nt.eG,gX Uy (by omega),gX Ta (by omega),ae ⟨hA,hB,Uy,Ta⟩]
 refine (bD (by rfl)).trans ?_
 rw [h1,h2]
theorem BD:(10:Nat) ^ 310<2 ^ 1100∧(10:Nat) ^ 631<2 ^ 2200:=by decide +kernel
theorem cV.goal (d:bT) (x:Int):cV.F d x=some [.u64 (Nr.pat (Nr.read d x)),.b (Nr.read d x).isSome]:=by
 refine cV.dZ _ _ ?_
 intro v1 h1 v2 h2 v3 h3 v4 h4 v5 h5 v6 h6 v7 h7 v8 h8 v9 h9 v10 kQ v11 mY v12 lO
 have lH:∀b:Bool,(!(!b) || !b)=true∧(b || !b)=true:=by decide
 have e1:v1=!decide (1≤d.length∧d.length≤300):=by
  rw [h1]
  by_cases c:1≤d.length∧d.length≤300
  ·rw [ae c,af (by omega),ax,af (by omega)];rfl
  ·rw [af c]
   by_cases d0:(d.length:Int)<1
   ·rw [ae d0];rfl
   ·rw [af d0,ax,ae (by omega)];rfl
 have e3:v3=!Nr.valid d:=by
  unfold Nr.valid
  rw [h3,e1,h2]
  have:decide (Lib.trimS d [48,49,50,51,52,53,54,55,56,57]=[])=d.all Nr.eo:=by
   by_cases c:d.all Nr.eo=true
   ·rw [c,ae ((Nr.sE d).2 c)]
   ·rw [af (fun h=>c ((Nr.sE d).1 h))];exact (Bool.eq_false_iff.2 c).symm
  rw [this]
  cases decide (1≤d.length∧d.length≤300) <;> cases d.all Nr.eo <;> rfl
 rw [bD (lH _).1,bD (lH _).1,bD (lH _).2]
 have c4:(!(!v1) || ((!v1)&&(decide (d.length≤1099511627776∧([48,49,50,51,52,53,54,55,56,57]:bT).length≤100)&&([48,49,50,51,52,53,54,55,56,57]:bT).all (fun b=>decide (b.toNat<128)))))=true:=by
  rw [e1]
  by_cases c:1≤d.length∧d.length≤300
  ·rw [ae c,ae (show d.length≤1099511627776∧([48,49,50,51,52,53,54,55,56,57]:bT).length≤100 from ⟨by omega,by decide⟩)];rfl
  ·rw [af c];rfl
 rw [bD c4,bD (lH _).1,bD (lH _).2,e3]
 unfold Nr.read
 cases hv:Nr.valid d
 ·rfl
 ·rw [aH rfl]
  refine Eq.trans (b:=_) (ax _ _) ?_
  unfold Nr.valid at hv
  rw [aa] at hv
  obtain ⟨hl,hd⟩:=hv
  obtain ⟨l1,l2⟩:=aN hl
  rw [Nr.DY] at h4
  rw [Nr.yf] at h7
  obtain ⟨z,z1,z2⟩:=Nr.w5 d
  rw [←h4] at z1 z2
  obtain ⟨t,t1,t2⟩:=Nr.gW v4
  rw [←h7] at t1 t2
  have hd4:=(Nr.eF hd z1).2
  have SS:=(Nr.eF hd4 t1).1
  have lz:d.length=z+v4.length:=by
   have:=congrArg List.length z1
   rw [aq,List.length_replicate] at this
   exact this
  have lt:v4.length=v7.length+t:=by
   have:=congrArg List.length t1
   rw [aq,List.length_replicate] at this
   exact this
  have nz:Nr.num d=Nr.num v4:=by
   have:=congrArg Nr.num z1
   rw [Nr.fj,Nr.iS,Nat.zero_mul,Nat.zero_add] at this
   exact this
  have nt:Nr.num v4=Nr.num v7 * 10 ^ t:=by
   have:=congrArg Nr.num t1
   rw [Nr.fj,Nr.iS,List.length_replicate,Nat.add_zero] at this
   exact this
  have Qa:∀s:bT,s.length≤300→(decide (s.length≤1099511627776∧([48]:bT).length≤100)&&([48]:bT).all (fun b=>decide (b.toNat<128)))=true:=fun s hs=>by
   rw [ae (show s.length≤1099511627776∧([48]:bT).length≤100 from ⟨by omega,by decide⟩)];rfl
  rw [bD (Qa d l2),bD (lH _).1,bD (lH _).2,nz]
  by_cases c0:v4=[]
  ·have e5:v5=true:=by rw [h5,ae c0];rfl
   rw [e5,aF,c0]
   rw [show Nr.num []=0 from rfl,Nr.HW];rfl
  ·rw [af c0,ax] at h5
   have z2:v4.getD 0 0≠48:=z2.resolve_left c0
   have p4:0<v4.length:=List.length_pos_iff.2 c0
   have b1:=Nr.nj v4 hd4
   have b2:=Nr.qa hd4 c0 z2
   by_cases c1:x < -1000
   ·rw [h5,ae c1,aF,Nr.ED b1 (by omega)];rfl
   ·rw [h5,af c1,ax]
    by_cases c2:1000<x
    ·rw [ae c2,aF,Nr.BM b2 p4 (by omega)];rfl
    ·have e6:v6=z:=by rw [h6,i64_in _ (by omega)];omega
     have ex:IntKind.i64.wrap (x - v6)=x - z:=by rw [e6,i64_in _ (by omega)]
     rw [af c2,ax,bD (Qa v4 (by omega)),ex]
     by_cases c3:x - z < -330
     ·rw [ae c3,aF,Nr.ED b1 (by omega)];rfl
     ·rw [af c3,ax]
      by_cases c4:310<x - (z:Int)
      ·rw [ae c4,aF,Nr.BM b2 p4 (by omega)];rfl
      ·rw [af c4,ax]
       have n7:v7≠[]:=by
        intro e
        rw [e] at nt
        have:=Nr.dC (v4.length - 1)
        rw [show Nr.num []=0 from rfl,Nat.zero_mul] at nt
        omega
       have p7:0<v7.length:=List.length_pos_iff.2 n7
       have g7:v7.getD 0 0=v4.getD 0 0:=by
        rw [t1,ak,ak,List.getElem?_append_left (by omega)]
       have e9:v9=x - z - v7.length:=by rw [h9,ex,i64_in _ (by omega)]
       have w7:=Nr.nj v7 SS
       have Vr:=Nr.qa SS n7 (by rw [g7];exact z2)
       have TI:0<Nr.num v7:=Nat.lt_of_lt_of_le (Nr.dC _) Vr
       have LS:Nr.rd (Nr.num v4) (x - (d.length:Int))=Nr.rd (Nr.num v7) v9:=by
        rw [nt,Nr.oh];congr 1;omega
       rw [LS,bD (by rw [ae (show 1≤v7.length∧v7.length≤300∧v7.getD 0 0≠48 from ⟨by omega,by omega,by rw [g7];exact z2⟩),SS];rfl)]
       have hB:∀k:Nat,k≤631→(10:Nat) ^ k<2 ^ 2200:=fun k hk=>Nat.lt_of_le_of_lt (Nr.jE hk) BD.2
       have hA:∀k:Nat,k≤310→(10:Nat) ^ k<2 ^ 1100:=fun k hk=>Nat.lt_of_le_of_lt (Nr.jE hk) BD.1
       by_cases c5:0≤v9
       ·have ep:Nr.num v7 * 10 ^ v9.toNat<10 ^ (v7.length+v9.toNat):=by
         rw [Nat.pow_add];exact Nat.mul_lt_mul_of_pos_right w7 (Nr.dC _)
        have xX:v10=Nt.of (10 ^ v9.toNat):=kQ
        have P6:v11=Nt.of (Nr.num v7 * 10 ^ v9.toNat):=by rw [mY,xX,Nt.eG,Nt.eG]
        have e8:v8=Nt.of 1:=h8
        rw [ae c5,aF,bD (ae ⟨by omega,by omega,by omega,by omega,jt (k:=4096) (hB v9.toNat (by omega)) (by omega)⟩),xX,gX (hB v9.toNat (by omega)) (by omega),gX (Nat.lt_trans w7 (hB v7.length (by omega))) (by omega)]
        refine (bD (by rfl)).trans ?_
        rw [P6,e8,cV.gG _ 1 (Nat.mul_pos TI (Nr.dC _)) (by omega) (Nat.lt_trans ep (hA _ (by omega))) (hB 0 (by omega))]
        unfold Nr.rd
        rw [show (-v9).toNat=0 by omega,Nat.pow_zero]
       ·have ew:IntKind.i64.wrap (0 - v9)=-v9:=by rw [i64_in _ (by omega)];omega
        rw [ew] at lO
        have Mq:v12=Nt.of (10 ^ (-v9).toNat):=lO
        rw [af c5,ax,ew,bD (ae ⟨by omega,by omega,by omega,by omega,jt (k:=4096) (hB (-v9).toNat (by omega)) (by omega)⟩),Mq]
        rw [cV.gG _ _ TI (Nr.dC _) (Nat.lt_trans w7 (hA v7.length (by omega))) (hB _ (by omega))]
        unfold Nr.rd
        rw [show v9.toNat=0 by omega,Nat.pow_zero,Nat.mul_one]
end Go.Eng
namespace Go.Eng
open Go.IntWalk
namespace Nr
def nd:List UInt64→Nat
 | []=>0
 | a :: r=>a.toNat+100000000 * nd r
def Ho (a:List UInt64):Bool:=a.all fun x=>decide (x.toNat<100000000)
end Nr
namespace Nr
theorem iK (s:bT) (c:UInt8):cT (s++[c])=if c=48 then cT s else s++[c]:=by
 unfold cT
 rw [List.reverse_append,List.reverse_singleton,List.singleton_append,List.dropWhile_cons]
 by_cases h:c=48
 ·rw [aH (by simp [h]),aH h]
 ·rw [aD (by simp [h]),aD h];simp
theorem gD (s:bT):s=[]∨∃a c,s=a++[c]:=by
 cases h:s.reverse with
 | nil=>left;simpa using h
 | cons c r=>right;exact ⟨r.reverse,c,by have:=congrArg List.reverse h;simpa using this⟩
theorem qK {c:UInt8} (h:eo c=true):c=UInt8.ofNat (48+(c.toNat - 48)):=by
 have:=gg.1 h
 rw [show 48+(c.toNat - 48)=c.toNat by omega,UInt8.ofNat_toNat]
theorem lI:∀(n:Nat) (s:bT),s.length=n→s.all eo=true→s≠[]→s.getD 0 0≠48→s=dec (num s):=by
 intro n
 induction n with
 | zero=>intro s hs _ h0 _;exact (h0 (List.length_eq_zero_iff.1 hs)).elim
 | succ n ih =>
  intro s hs hd h0 h1
  rcases gD s with h | ⟨a,c,rfl⟩
  ·exact (h0 h).elim
  ·obtain ⟨d1,d2⟩:=eF hd rfl
   rw [List.all_cons,aa] at d2
   have hc:=gg.1 d2.1
   rw [jI]
   by_cases ha:a=[]
   ·subst ha
    rw [show num []=0 from rfl,mV (by omega)]
    rw [Nat.mul_zero,Nat.zero_add,←qK d2.1];rfl
   ·have Ui:a.getD 0 0≠48:=by
     have hl:=List.length_pos_iff.2 ha
     rw [ak,List.getElem?_append_left hl,←ak] at h1
     exact h1
    have hg:=qa d1 ha Ui
    have:=dC (a.length - 1)
    rw [qY (by omega),show (10 * num a+(c.toNat - 48)) / 10=num a by omega,show (10 * num a+(c.toNat - 48)) % 10=c.toNat - 48 by omega,←qK d2.1]
    rw [aq,az] at hs
    rw [←ih a (by omega) d1 ha Ui]
theorem oU (n:Nat):(dec n).all eo=true∧num (dec n)=n∧(dec n≠[])∧(0<n→(dec n).getD 0 0≠48):=by
 induction n using Nat.strongRecOn with
 | _ n ih =>
  have PK:∀k,k<10→eo (UInt8.ofNat (48+k))=true∧(UInt8.ofNat (48+k)).toNat=48+k:=fun k hk=>by
   have:(UInt8.ofNat (48+k)).toNat=48+k:=by simp;omega
   exact ⟨gg.2 (by omega),this⟩
  by_cases c:n<10
  ·rw [mV c]
   obtain ⟨h1,h2⟩:=PK n c
   refine ⟨by rw [List.all_cons,h1];rfl,by simp only [num,List.foldl_cons,List.foldl_nil,h2];omega,by simp,fun h e=>?_⟩
   have:=congrArg UInt8.toNat e
   have e2:([UInt8.ofNat (48+n)].getD 0 0).toNat=48+n:=h2
   rw [e2] at this
   have e3:(48:UInt8).toNat=48:=rfl
   omega
  ·obtain ⟨i1,i2,i3,i4⟩:=ih (n / 10) (by omega)
   obtain ⟨h1,h2⟩:=PK (n % 10) (by omega)
   rw [qY c]
   refine ⟨by rw [List.all_append,i1,List.all_cons,h1];rfl,by rw [jI,i2,h2];omega,by simp,fun _=>?_⟩
   rw [ak,List.getElem?_append_left (List.length_pos_iff.2 i3),←ak]
   exact i4 (by omega)
theorem Bi (n:Nat):1≤(dec n).length:=List.length_pos_iff.2 (oU n).2.2.1
end Nr
end Go.Eng
namespace Go.Eng
open Go.IntWalk
open Nr (nd Ho)
structure mC (a:List UInt64) (N b:Nat):Prop where
 v:nd a=N
 s:Ho a=true
 l:a.length+b≤999
 n:a≠[]
theorem mC.pre {a:List UInt64} {N b:Nat} (h:mC a N b) (m:UInt64) (hm:m.toNat≤100000000):(decide (a.length≤1000∧m.toNat≤100000000)&&a.all (fun x=>decide (x.toNat<100000000)))=true:=by
 have hs:a.all (fun x=>decide (x.toNat<100000000))=true:=h.s
 rw [hs,ae ⟨by have:=h.l;omega,hm⟩];rfl
theorem mC.le {a:List UInt64} {N b c:Nat} (h:mC a N b) (hc:c≤b):mC a N c:=⟨h.v,h.s,by have:=h.l;omega,h.n⟩
end Go.Eng
namespace Go.Eng
open Go.IntWalk
namespace Nr
def Ae (d:bT):Prop:=d.all eo=true∧(d=[]∨d.getLast?≠some 48)
theorem Ae.tail {c:UInt8} {r:bT} (h:Ae (c :: r)):eo c=true∧Ae r:=by
 obtain ⟨h1,h2⟩:=h
 rw [List.all_cons,aa] at h1
 refine ⟨h1.1,h1.2,?_⟩
 cases r with
 | nil=>exact .inl rfl
 | cons d r =>
  refine .inr ?_
  have:=h2.resolve_left (by simp)
  rw [List.getLast?_cons_cons] at this
  exact this
structure nS (d:bT):Prop where
 f:Ae d
 n:d≠[]
 h:d.getD 0 0≠48
theorem Cm {m:Nat} (h:0<m) (e:Int):0<Dt m e:=Nat.mul_pos (Nat.mul_pos h (Nat.two_pow_pos _)) (Nat.pow_pos (by omega))
end Nr
end Go.Eng
namespace Go.Eng
namespace Sh
open Nr (V iD sh top gf rd ns fC)
theorem om {a b p:Nat} (hb:0<b):gf a b=some p ↔ p≤top∧¬fC a b p∧(p=0∨fC a b (p - 1)):=by
 constructor
 ·intro h
  classical
  have s1:p≤top∧¬fC a b p∧∀r,r<p→fC a b r:=by
   unfold gf at h
   split at h
   ·rename_i hx
    cases h
    exact hx.choose_spec
   ·cases h
  refine ⟨s1.1,s1.2.1,?_⟩
  by_cases c:p=0
  ·exact .inl c
  ·exact .inr (s1.2.2 _ (by omega))
 ·rintro ⟨h1,h2,h3⟩
  exact Nr.lh hb h1 h2 h3
theorem wT {p N:Nat} {k:Int} (hp:0<p):rd N k=some p ↔ p≤top ∧
  (2 * (N * 10 ^ k.toNat * 2 ^ 1074)<ns p * 10 ^ (-k).toNat∨(2 * (N * 10 ^ k.toNat * 2 ^ 1074)=ns p * 10 ^ (-k).toNat∧p % 2=0)) ∧
  (ns (p - 1) * 10 ^ (-k).toNat<2 * (N * 10 ^ k.toNat * 2 ^ 1074)∨(ns (p - 1) * 10 ^ (-k).toNat=2 * (N * 10 ^ k.toNat * 2 ^ 1074)∧p % 2=0)):=by
 unfold rd
 rw [om (Nr.dC _)]
 unfold fC
 have e:=Nr.mul_two (a:=N * 10 ^ k.toNat) Nr.iG
 rw [e]
 generalize 2 * (N * 10 ^ k.toNat * 2 ^ 1074)=X
 generalize ns p * 10 ^ (-k).toNat=Y
 generalize ns (p - 1) * 10 ^ (-k).toNat=Z
 constructor
 ·rintro ⟨h1,h2,h3⟩
  refine ⟨h1,?_,?_⟩ <;> omega
 ·rintro ⟨h1,h2,h3⟩
  refine ⟨h1,?_,.inr ?_⟩ <;> omega
theorem pB {p:Nat} (hp:0<p):0<iD p:=by unfold iD;split <;> omega
theorem Ep {m s:Nat} (K:Nat):m * 2 ^ ((s:Int) - K).toNat * 2 ^ K=m * 2 ^ s * 2 ^ (-((s:Int) - K)).toNat:=by
 rw [Nat.mul_assoc,Nat.mul_assoc,←Nat.pow_add,←Nat.pow_add]
 congr 2
 omega
theorem Hg (p:Nat):gI p * 2 ^ 1074=V p * ff p:=Ep 1074
theorem iA (p:Nat):0<ff p:=Nat.two_pow_pos _
theorem Cp {p:Nat} (hp:0<p):10 ^ (dx p - 1).toNat * ff p≤gI p * 10 ^ (-(dx p - 1)).toNat∧gI p * 10 ^ (-(dx p)).toNat<10 ^ (dx p).toNat * ff p:=by
 have hm:=pB hp
 generalize he:(sh p:Int) - 1074=e
 obtain ⟨d1,d2,d3,d4⟩:=Nr.oU (Nr.Dt (iD p) e)
 have hN:=Nr.Cm hm e
 have g1:=Nr.qa d1 d3 (d4 hN)
 have g2:=Nr.nj _ d1
 rw [d2] at g1 g2
 have hl:=List.length_pos_iff.2 d3
 have hx:dx p=(Nr.dec (Nr.Dt (iD p) e)).length+min e 0:=by unfold dx;rw [he];rfl
 have ea:gI p=iD p * 2 ^ e.toNat:=by unfold gI;rw [he]
 have eb:ff p=2 ^ (-e).toNat:=by unfold ff;rw [he]
 have eN:Nr.Dt (iD p) e=iD p * 2 ^ e.toNat * 5 ^ (-e).toNat:=rfl
 generalize Nr.Dt (iD p) e=N at *
 generalize (Nr.dec N).length=L at *
 rw [ea,eb,hx]
 have t25:∀k:Nat,(10:Nat) ^ k=2 ^ k * 5 ^ k:=fun k=>by rw [←Nat.mul_pow]
 by_cases c:0≤e
 ·have h0:(-e).toNat=0:=by omega
  rw [h0,Nat.pow_zero,Nat.mul_one] at eN ⊢
  rw [Nat.mul_one]
  rw [←eN,show ((L:Int)+min e 0 - 1).toNat=L - 1 by omega,show (-((L:Int)+min e 0 - 1)).toNat=0 by omega,show (-((L:Int)+min e 0)).toNat=0 by omega,show ((L:Int)+min e 0).toNat=L by omega,Nat.pow_zero,Nat.mul_one]
  exact ⟨g1,g2⟩
 ·have h0:e.toNat=0:=by omega
  rw [h0,Nat.pow_zero,Nat.mul_one] at eN ⊢
  have Sz:min e 0=e:=by omega
  rw [Sz]
  generalize hj:(-e).toNat=j at *
  have Sn:0<(5:Nat) ^ j:=Nat.pow_pos (by omega)
  have key:∀a b:Nat,a+j=L - 1+b→10 ^ a * 2 ^ j≤iD p * 10 ^ b:=fun a b DM=>by
   refine Nat.le_of_mul_le_mul_right (c:=5 ^ j) ?_ Sn
   rw [Nat.mul_assoc,←t25,←Nat.pow_add,DM,Nat.pow_add,Nat.mul_right_comm,←eN]
   exact ar _ g1
  have Rf:∀a b:Nat,a+j=L+b→iD p * 10 ^ b<10 ^ a * 2 ^ j:=fun a b DM=>by
   refine Nat.lt_of_mul_lt_mul_right (a:=5 ^ j) ?_
   rw [Nat.mul_assoc (10 ^ a),←t25,←Nat.pow_add,DM,Nat.pow_add,Nat.mul_right_comm,←eN]
   exact Nat.mul_lt_mul_of_pos_right g2 (Nr.dC _)
  exact ⟨key _ _ (by omega),Rf _ _ (by omega)⟩
theorem iL {p N:Nat} {k:Int} (h:rd N k=some p):reads p N k=some (Nr.cT (Nr.dec N),(Nr.dec N).length+k):=aH h
theorem j8 {p N:Nat} {k:Int} (h:¬rd N k=some p):reads p N k=none:=aD h
theorem Gd {p:Nat} (hp:0<p):V p≤9007199254740992 * 2 ^ sh (p - 1)∧V p=V (p - 1)+2 ^ sh (p - 1):=by
 have h1:=Nr.xO (p - 1)
 have h2:=Nr.u0 (p - 1)
 rw [show p - 1+1=p by omega] at h1 h2
 refine ⟨?_,h2⟩
 rw [h1]
 exact ar _ (by have:=Nr.qc (p - 1);omega)
theorem Mj (p:Nat):V p<9007199254740992 * 2 ^ sh p∧V (p+1)=V p+2 ^ sh p :=
 ⟨Nat.mul_lt_mul_of_pos_right (Nr.qc p) (Nat.two_pow_pos _),Nr.u0 p⟩
theorem unit_eq {a b V' K P Q:Nat} {S T:Nat} (h:a * K=V' * b) (hP:P=a * T) (hQ:Q=b * S) (N:Nat):N * S * K * b=N * Q * K∧P * K=V' * T * b:=by
 constructor
 ·rw [hQ];simp only [Nat.mul_assoc,Nat.mul_comm,Nat.mul_left_comm]
 ·rw [hP,Nat.mul_right_comm,h,Nat.mul_right_comm]
end Sh
end Go.Eng
namespace Go.Eng
namespace Sh
open Nr (V iD sh top gf rd ns fC)
theorem pY {b:Nat} (h:0<b) (k:Int):0<tB b k:=Nat.mul_pos h (Nr.dC _)
theorem HX {p:Nat} (hp:0<p) (ht:p≤top) (x n:Int) (K:Nat) (hK:gI p * K=V p * ff p) (W6:K=2 ^ 1074) (N:Nat):rd N (x - n)=some p ↔
  (2 * (N * tB (ff p) (n - x) * K)<2 * (tA (gI p) (n - x) * K)+2 ^ sh p * 10 ^ (n - x).toNat * ff p∨(2 * (N * tB (ff p) (n - x) * K)=2 * (tA (gI p) (n - x) * K)+2 ^ sh p * 10 ^ (n - x).toNat * ff p∧p % 2=0)) ∧
  (2 * (tA (gI p) (n - x) * K)<2 * (N * tB (ff p) (n - x) * K)+2 ^ sh (p - 1) * 10 ^ (n - x).toNat * ff p∨(2 * (tA (gI p) (n - x) * K)=2 * (N * tB (ff p) (n - x) * K)+2 ^ sh (p - 1) * 10 ^ (n - x).toNat * ff p∧p % 2=0)):=by
 rw [wT hp,←W6]
 have hb:=iA p
 rw [show (-(x - n))=n - x by omega]
 obtain ⟨u1,u2⟩:=unit_eq (S:=10 ^ (x - n).toNat) (T:=10 ^ (n - x).toNat) (Q:=tB (ff p) (n - x)) (P:=tA (gI p) (n - x)) hK rfl (by unfold tB;rw [show (-(n - x))=x - n by omega]) N
 rw [u2,←u1]
 have m1:ns p=2 * V p+2 ^ sh p:=by rw [Nr.lD,Nr.u0];omega
 have m2:2 * V p=ns (p - 1)+2 ^ sh (p - 1):=by
  have:=(Gd hp).2
  rw [Nr.lD,show p - 1+1=p by omega];omega
 generalize 10 ^ (n - x).toNat=T
 generalize hX:N * 10 ^ (x - n).toNat * K=X
 have c1:ns p * T * ff p=2 * (V p * T * ff p)+2 ^ sh p * T * ff p:=by rw [m1];simp only [Nat.add_mul,Nat.mul_assoc]
 have c2:2 * (V p * T * ff p)=ns (p - 1) * T * ff p+2 ^ sh (p - 1) * T * ff p:=by
  have:2 * (V p * T * ff p)=2 * V p * T * ff p:=by simp only [Nat.mul_assoc]
  rw [this,m2];simp only [Nat.add_mul]
 have c3:2 * (X * ff p)=2 * X * ff p:=by rw [Nat.mul_assoc]
 rw [c3,c2,Nat.add_lt_add_iff_right,Nat.add_right_cancel_iff,←c2,←c1]
 rw [Nat.mul_lt_mul_right hb,Nat.mul_lt_mul_right hb]
 have e1:2 * X * ff p=ns p * T * ff p ↔ 2 * X=ns p * T:=⟨Nat.eq_of_mul_eq_mul_right hb,fun h=>by rw [h]⟩
 have e2:ns (p - 1) * T * ff p=2 * X * ff p ↔ ns (p - 1) * T=2 * X:=⟨Nat.eq_of_mul_eq_mul_right hb,fun h=>by rw [h]⟩
 rw [e1,e2]
 exact ⟨fun h=>h.2,fun h=>⟨ht,h⟩⟩
theorem yi {a b:Nat} {y k m:Int} (hm:0≤m) (h:m=y+k):(10 ^ y.toNat * b≤a * 10 ^ (-y).toNat→10 ^ m.toNat * tB b k≤tA a k)∧(a * 10 ^ (-y).toNat<10 ^ y.toNat * b→tA a k<10 ^ m.toNat * tB b k):=by
 have he:m.toNat+(-k).toNat+(-y).toNat=y.toNat+k.toNat:=by omega
 have l:10 ^ m.toNat * tB b k * 10 ^ (-y).toNat=10 ^ y.toNat * b * 10 ^ k.toNat:=by
  unfold tB
  rw [←Nat.mul_assoc,Nat.mul_right_comm (10 ^ m.toNat),←Nat.pow_add,Nat.mul_right_comm,←Nat.pow_add,he,Nat.pow_add,Nat.mul_right_comm]
 have r:tA a k * 10 ^ (-y).toNat=a * 10 ^ (-y).toNat * 10 ^ k.toNat:=by unfold tA;rw [Nat.mul_right_comm]
 have h1:=Nr.dC (-y).toNat
 have h2:=Nr.dC k.toNat
 constructor
 ·intro h
  refine Nat.le_of_mul_le_mul_right ?_ h1
  rw [l,r];exact ar _ h
 ·intro h
  refine Nat.lt_of_mul_lt_mul_right (a:=10 ^ (-y).toNat) ?_
  rw [l,r];exact Nat.mul_lt_mul_of_pos_right h h2
theorem qp {p:Nat} (hp:0<p) {n:Int} (hn:1≤n):10 ^ (n - 1).toNat * tB (ff p) (n - dx p)≤tA (gI p) (n - dx p)∧tA (gI p) (n - dx p)<10 ^ n.toNat * tB (ff p) (n - dx p):=by
 obtain ⟨h1,h2⟩:=Cp hp
 exact ⟨(yi (y:=dx p - 1) (k:=n - dx p) (m:=n - 1) (by omega) (by omega)).1 h1,(yi (y:=dx p) (k:=n - dx p) (m:=n) (by omega) (by omega)).2 h2⟩
theorem sH {p a b:Nat} {x n:Int} (h:rd (tA a (n - x) / tB b (n - x)) (x - n)=some p∨rd (tA a (n - x) / tB b (n - x)+1) (x - n)=some p):(some_ p a b x n).isSome=true:=by
 unfold some_
 simp only
 split
 ·rename_i c;exact c.1
 ·rename_i c
  rcases h with h | h
  ·by_cases h2:rd (tA a (n - x) / tB b (n - x)+1) (x - n)=some p
   ·rw [iL h2];rfl
   ·exact (c ⟨by rw [iL h];rfl,.inl (by rw [j8 h2];rfl)⟩).elim
  ·rw [iL h];rfl
theorem KE {p:Nat} (hp:0<p) (ht:p≤top):(some_ p (gI p) (ff p) (dx p) 17).isSome=true:=by
 obtain ⟨r1,r2⟩:=qp hp (n:=17) (by omega)
 have hQ:=pY (iA p) (17 - dx p)
 obtain ⟨K,hK⟩:∃K,K=2 ^ 1074:=⟨_,rfl⟩
 have Us:0<K:=by rw [hK];exact Nat.two_pow_pos 1074
 have DM:=Hg p
 rw [←hK] at DM
 have gd:=(Gd hp).1
 have gu:=(Mj p).1
 have ru:=HX hp ht (dx p) 17 K DM hK
 have W2:tA (gI p) (17 - dx p) * K=V p * 10 ^ (17 - dx p).toNat * ff p:=by
  unfold tA;rw [Nat.mul_right_comm,DM,Nat.mul_right_comm]
 refine sH ?_
 have hT:0<10 ^ (17 - dx p).toNat * ff p:=Nat.mul_pos (Nr.dC _) (iA p)
 have bd:V p * 10 ^ (17 - dx p).toNat * ff p≤9007199254740992 * (2 ^ sh (p - 1) * 10 ^ (17 - dx p).toNat * ff p):=by
  rw [Nat.mul_assoc (V p),Nat.mul_assoc (2 ^ sh (p - 1)),←Nat.mul_assoc 9007199254740992]
  exact ar _ gd
 have bu:V p * 10 ^ (17 - dx p).toNat * ff p<9007199254740992 * (2 ^ sh p * 10 ^ (17 - dx p).toNat * ff p):=by
  rw [Nat.mul_assoc (V p),Nat.mul_assoc (2 ^ sh p),←Nat.mul_assoc 9007199254740992]
  exact Nat.mul_lt_mul_of_pos_right gu hT
 rw [←W2] at bd bu
 generalize tA (gI p) (17 - dx p)=P at *
 generalize tB (ff p) (17 - dx p)=Q at *
 generalize 2 ^ sh (p - 1) * 10 ^ (17 - dx p).toNat * ff p=D at *
 generalize 2 ^ sh p * 10 ^ (17 - dx p).toNat * ff p=G at *
 have Xq:(10:Nat) ^ ((17:Int) - 1).toNat=10000000000000000:=by decide
 rw [Xq] at r1
 have hr:=Nat.mod_lt P hQ
 have Dh:=Nat.div_add_mod P Q
 have q1:10000000000000000 * (Q * K)≤P * K:=by rw [←Nat.mul_assoc];exact ar K r1
 have Y8:0<Q * K:=Nat.mul_pos hQ Us
 have W1:P * K=P / Q * Q * K+P % Q * K:=by rw [←Nat.add_mul,Nat.mul_comm (P / Q)];rw [Dh]
 have YT:P % Q * K<Q * K:=Nat.mul_lt_mul_of_pos_right hr Us
 by_cases c:2 * (P % Q)≤Q
 ·left
  have c':2 * (P % Q * K)≤Q * K:=by rw [←Nat.mul_assoc];exact ar K c
  rw [ru]
  exact ⟨.inl (by omega),.inl (by omega)⟩
 ·right
  have c':Q * K≤2 * (P % Q * K):=by rw [←Nat.mul_assoc];exact ar K (by omega)
  have hN:(P / Q+1) * Q * K=P / Q * Q * K+Q * K:=by rw [Nat.add_mul,Nat.add_mul,Nat.one_mul]
  rw [ru,hN]
  exact ⟨.inl (by omega),.inl (by omega)⟩
theorem uX {a b c d p:Nat} (hb:0<b) (hd:0<d) (h:a * d≤c * b) (h1:fC a b p):fC c d p:=by
 unfold fC at h1 ⊢
 have h2:ns p * b * d≤a * Nr.fS * d:=ar _ (by omega)
 have h3:a * Nr.fS * d≤c * Nr.fS * b:=by
  rw [Nat.mul_right_comm,Nat.mul_right_comm c];exact ar _ h
 have h4:ns p * d * b=ns p * b * d:=Nat.mul_right_comm ..
 have h5:ns p * d * b≤c * Nr.fS * b:=by omega
 have h6:=Nat.le_of_mul_le_mul_right h5 hb
 rcases h1 with h1 | ⟨h1,h7⟩
 ·left
  refine Nat.lt_of_mul_lt_mul_right (a:=b) ?_
  have:=Nat.mul_lt_mul_of_pos_right h1 hd
  omega
 ·rcases Nat.lt_or_eq_of_le h6 with h8 | h8
  ·exact .inl h8
  ·exact .inr ⟨h8,h7⟩
theorem qI {a b c d e f p:Nat} (hb:0<b) (hd:0<d) (hf:0<f) (h1:gf a b=some p) (h2:gf c d=some p) (g1:a * f≤e * b) (g2:e * d≤c * f):gf e f=some p:=by
 obtain ⟨a1,a2,a3⟩:=(om hb).1 h1
 obtain ⟨b1,b2,b3⟩:=(om hd).1 h2
 refine (om hf).2 ⟨a1,fun h=>b2 (uX hf hd g2 h),?_⟩
 rcases a3 with h | h
 ·exact .inl h
 ·exact .inr (uX hb hf g1 h)
theorem uD {p:Nat} (ht:p≤top):gf (gI p) (ff p)=some p:=by
 classical
 have h:=Hg p
 have hb:=iA p
 have e:=Nr.mul_two (a:=gI p) Nr.iG
 have hv:=Nat.mul_lt_mul_of_pos_right (Nr.lp p) hb
 refine (om hb).2 ⟨ht,?_,?_⟩
 ·unfold fC
  rw [e,h,Nr.lD,Nat.add_mul]
  omega
 ·by_cases c:p=0
  ·exact .inl c
  ·right
   left
   have hv:=Nat.mul_lt_mul_of_pos_right (Nr.lp (p - 1)) hb
   rw [show p - 1+1=p by omega] at hv
   rw [e,h,Nr.lD,Nat.add_mul,show p - 1+1=p by omega]
   omega
end Sh
end Go.Eng
namespace Go.Eng
namespace Sh
open Nr (V iD sh top gf rd ns fC)
theorem go_hit {p f i:Nat} {r:bT × Int} (h:some_ p (gI p) (ff p) (dx p) i=some r):go p (f+1) i=r:=by rw [go_succ,h];rfl
theorem go_miss {p f i:Nat} (h:some_ p (gI p) (ff p) (dx p) i=none):go p (f+1) i=go p f (i+1):=by rw [go_succ,h];rfl
theorem go_some {p:Nat} {r:bT × Int} {n:Nat} (h4:some_ p (gI p) (ff p) (dx p) n=some r):∀(m i f:Nat),i+m=n→m<f→(∀j:Nat,i≤j→j<n→some_ p (gI p) (ff p) (dx p) j=none)→go p f i=r:=by
 intro m
 induction m with
 | zero =>
  intro i f h1 h2 h3
  have h1:i=n:=h1
  obtain ⟨f,rfl⟩:∃g,f=g+1:=⟨f - 1,by omega⟩
  rw [h1];exact go_hit h4
 | succ m ih =>
  intro i f h1 h2 h3
  obtain ⟨f,rfl⟩:∃g,f=g+1:=⟨f - 1,by omega⟩
  rw [go_miss (h3 i (Nat.le_refl _) (by omega))]
  exact ih (i+1) f (by omega) (by omega) (fun j a b=>h3 j (by omega) b)
theorem first {p:Nat} (hp:0<p) (ht:p≤top):∃n:Nat,1≤n∧n≤17∧(∀j:Nat,1≤j→j<n→some_ p (gI p) (ff p) (dx p) j=none)∧some_ p (gI p) (ff p) (dx p) n=some (digits p):=by
 have Ka:=KE hp ht
 have key:∀m i:Nat,i+m=17→1≤i→(∀j:Nat,1≤j→j<i→some_ p (gI p) (ff p) (dx p) j=none)→∃n:Nat,1≤n∧n≤17∧(∀j:Nat,1≤j→j<n→some_ p (gI p) (ff p) (dx p) j=none)∧(some_ p (gI p) (ff p) (dx p) n).isSome=true:=by
  intro m
  induction m with
  | zero =>
   intro i hi h1 hn
   have hi:i=17:=hi
   exact ⟨17,by omega,by omega,by rw [←hi];exact hn,Ka⟩
  | succ m ih =>
   intro i hi h1 hn
   cases hs:some_ p (gI p) (ff p) (dx p) i with
   | some r=>exact ⟨i,h1,by omega,hn,by rw [hs];rfl⟩
   | none =>
    refine ih (i+1) (by omega) (by omega) fun j a b=>?_
    by_cases c:j=i
    ·rw [c];exact hs
    ·exact hn j a (by omega)
 obtain ⟨n,n1,n2,n3,n4⟩:=key 16 1 rfl (by omega) (fun j a b=>by omega)
 obtain ⟨r,hr⟩:=Option.isSome_iff_exists.1 n4
 refine ⟨n,n1,n2,n3,?_⟩
 have hg:digits p=r:=go_some hr (n - 1) 1 17 (by omega) (by omega) n3
 rw [hr,hg]
theorem rY {a b:Nat} (h:10 ^ a<10 ^ b):a<b:=by
 rcases Nat.lt_or_ge a b with c | c
 ·exact c
 ·have:=Nr.jE c;omega
theorem HM {p:Nat} (hp:0<p) {D:bT} (hD:Nr.nS D) {kd:Int} (h:rd (Nr.num D) kd=some p):(some_ p (gI p) (ff p) (dx p) (D.length:Int)).isSome=true:=by
 have Sw:=List.length_pos_iff.2 hD.n
 have ht:=((wT hp).1 h).1
 have lo:=Nr.qa hD.f.1 hD.n hD.h
 have hi:=Nr.nj D hD.f.1
 obtain ⟨r1,r2⟩:=qp hp (n:=D.length) (by omega)
 have hQ:=pY (iA p) (D.length - dx p)
 have hx:=uD ht
 have hb:=iA p
 generalize hM:Nr.num D=M at *
 generalize hL:D.length=n at *
 have eA:tA (gI p) ((n:Int) - dx p)=gI p * 10 ^ ((n:Int) - dx p).toNat:=rfl
 have eB:tB (ff p) ((n:Int) - dx p)=ff p * 10 ^ (dx p - n).toNat:=by unfold tB;rw [show -((n:Int) - dx p)=dx p - n by omega]
 rw [show ((n:Int) - 1).toNat=n - 1 by omega] at r1
 rw [aw] at r2
 have nk : -(dx p - (n:Int))=n - dx p:=by omega
 refine sH ?_
 generalize hP:tA (gI p) ((n:Int) - dx p)=P at *
 generalize Y9:tB (ff p) ((n:Int) - dx p)=Q at *
 generalize hk:dx p - (n:Int)=k at *
 rw [←nk] at eA
 have Dh:=Nat.div_add_mod P Q
 have hr:=Nat.mod_lt P hQ
 have N1:10 ^ (n - 1)≤P / Q:=(Nat.le_div_iff_mul_le hQ).2 r1
 have N2:P / Q<10 ^ n:=(Nat.div_lt_iff_lt_mul hQ).2 r2
 have hw:=h
 unfold rd at hw ⊢
 have pk:=Nr.dC (-k).toNat
 have pd:=Nr.dC (-kd).toNat
 have YG:=Nr.dC k.toNat
 have YH:=Nr.dC kd.toNat
 by_cases c:M * 10 ^ kd.toNat * ff p≤gI p * 10 ^ (-kd).toNat
 ·left
  have RX:kd≤k:=by
   have s1:M * 10 ^ kd.toNat * ff p * 10 ^ (-k).toNat≤P * 10 ^ (-kd).toNat:=by
    rw [eA,Nat.mul_right_comm (gI p)];exact ar _ c
   have s2:P * 10 ^ (-kd).toNat<10 ^ n * Q * 10 ^ (-kd).toNat:=Nat.mul_lt_mul_of_pos_right r2 pd
   have s3:10 ^ (n - 1) * 10 ^ kd.toNat * ff p * 10 ^ (-k).toNat≤M * 10 ^ kd.toNat * ff p * 10 ^ (-k).toNat:=ar _ (ar _ (ar _ lo))
   have s4:10 ^ (n - 1+kd.toNat+(-k).toNat) * ff p<10 ^ (n+k.toNat+(-kd).toNat) * ff p:=by
    rw [Nat.pow_add,Nat.pow_add,Nat.pow_add,Nat.pow_add]
    rw [eB] at s2
    have e1:10 ^ (n - 1) * 10 ^ kd.toNat * 10 ^ (-k).toNat * ff p=10 ^ (n - 1) * 10 ^ kd.toNat * ff p * 10 ^ (-k).toNat:=Nat.mul_right_comm ..
    have e2:10 ^ n * 10 ^ k.toNat * 10 ^ (-kd).toNat * ff p=10 ^ n * (ff p * 10 ^ k.toNat) * 10 ^ (-kd).toNat:=by
     simp only [Nat.mul_assoc,Nat.mul_comm,Nat.mul_left_comm]
    rw [e1,e2]
    exact Nat.lt_of_le_of_lt s3 (Nat.lt_of_le_of_lt s1 s2)
   have:=rY (Nat.lt_of_mul_lt_mul_right s4)
   omega
  refine qI pd hb pk hw hx ?_ ?_
  ·rcases Int.lt_or_eq_of_le RX with d | d
   ·have g1:M * 10 ^ kd.toNat * 10 ^ (-k).toNat≤10 ^ n * 10 ^ kd.toNat * 10 ^ (-k).toNat:=ar _ (ar _ (Nat.le_of_lt hi))
    have g2:10 ^ (n - 1) * 10 ^ k.toNat * 10 ^ (-kd).toNat≤P / Q * 10 ^ k.toNat * 10 ^ (-kd).toNat:=ar _ (ar _ N1)
    refine Nat.le_trans g1 (Nat.le_trans ?_ g2)
    rw [←Nat.pow_add,←Nat.pow_add,←Nat.pow_add,←Nat.pow_add]
    exact Nr.jE (by omega)
   ·subst d
    refine ar _ (ar _ ?_)
    rw [Nat.le_div_iff_mul_le hQ,eA,eB,←Nat.mul_assoc,Nat.mul_right_comm];exact c
  ·rw [←eA,Nat.mul_assoc,Nat.mul_comm (10 ^ k.toNat),←eB,Nat.mul_comm]
   omega
 ·right
  have c:=Nat.lt_of_not_le c
  have RX:k≤kd:=by
   have s1:P * 10 ^ (-kd).toNat<M * 10 ^ kd.toNat * ff p * 10 ^ (-k).toNat:=by
    rw [eA,Nat.mul_right_comm (gI p)];exact Nat.mul_lt_mul_of_pos_right c pk
   have s2:10 ^ (n - 1) * Q * 10 ^ (-kd).toNat≤P * 10 ^ (-kd).toNat:=ar _ r1
   have s3:M * 10 ^ kd.toNat * ff p * 10 ^ (-k).toNat≤10 ^ n * 10 ^ kd.toNat * ff p * 10 ^ (-k).toNat:=ar _ (ar _ (ar _ (Nat.le_of_lt hi)))
   have s4:10 ^ (n - 1+k.toNat+(-kd).toNat) * ff p<10 ^ (n+kd.toNat+(-k).toNat) * ff p:=by
    rw [Nat.pow_add,Nat.pow_add,Nat.pow_add,Nat.pow_add]
    rw [eB] at s2
    have e1:10 ^ n * 10 ^ kd.toNat * 10 ^ (-k).toNat * ff p=10 ^ n * 10 ^ kd.toNat * ff p * 10 ^ (-k).toNat:=Nat.mul_right_comm ..
    have e2:10 ^ (n - 1) * 10 ^ k.toNat * 10 ^ (-kd).toNat * ff p=10 ^ (n - 1) * (ff p * 10 ^ k.toNat) * 10 ^ (-kd).toNat:=by
     simp only [Nat.mul_assoc,Nat.mul_comm,Nat.mul_left_comm]
    rw [e1,e2]
    exact Nat.lt_of_le_of_lt s2 (Nat.lt_of_lt_of_le s1 s3)
   have:=rY (Nat.lt_of_mul_lt_mul_right s4)
   omega
  refine qI hb pd pk hx hw ?_ ?_
  ·rw [←eA,Nat.mul_assoc,Nat.mul_comm (10 ^ k.toNat),←eB,Nat.add_mul,Nat.one_mul,Nat.mul_comm (P / Q)]
   omega
  ·rcases Int.lt_or_eq_of_le RX with d | d
   ·have g1:(P / Q+1) * 10 ^ k.toNat * 10 ^ (-kd).toNat≤10 ^ n * 10 ^ k.toNat * 10 ^ (-kd).toNat:=ar _ (ar _ N2)
    have g2:10 ^ (n - 1) * 10 ^ kd.toNat * 10 ^ (-k).toNat≤M * 10 ^ kd.toNat * 10 ^ (-k).toNat:=ar _ (ar _ lo)
    refine Nat.le_trans g1 (Nat.le_trans ?_ g2)
    rw [←Nat.pow_add,←Nat.pow_add,←Nat.pow_add,←Nat.pow_add]
    exact Nr.jE (by omega)
   ·subst d
    refine ar _ (ar _ ?_)
    refine (Nat.div_lt_iff_lt_mul hQ).2 ?_
    rw [eA,eB,←Nat.mul_assoc,Nat.mul_right_comm];exact c
theorem Az {M:Nat} (h:0<M):Nr.cT (Nr.dec (10 * M))=Nr.cT (Nr.dec M):=by
 rw [Nr.qY (show ¬10 * M<10 by omega),Nr.iK,show 10 * M % 10=0 by omega,aH (by rfl),show 10 * M / 10=M by omega]
theorem uk:∀n:Nat,Nr.cT (Nr.dec (10 ^ n))=[49]
 | 0=>by decide +kernel
 | n+1=>by rw [Nat.pow_succ,Nat.mul_comm,Az (Nr.dC n),uk n]
theorem CG (d:bT):(Nr.cT d).length≤d.length:=by
 obtain ⟨t,h,_⟩:=Nr.gW d
 have:=congrArg List.length h
 rw [aq] at this;omega
theorem zW {N n:Nat} (hn:1≤n) (h:N≤10 ^ n):(Nr.cT (Nr.dec N)).length≤n:=by
 rcases Nat.lt_or_eq_of_le h with c | c
 ·exact Nat.le_trans (CG _) (Nr.nG n N c hn)
 ·rw [c,uk];exact hn
theorem vN {N:Nat} {k:Int} (h:0<N) (hl:(Nr.dec N).length≤300):Nr.read (Nr.cT (Nr.dec N)) ((Nr.dec N).length+k)=rd N k:=by
 obtain ⟨d1,d2,d3,d4⟩:=Nr.oU N
 obtain ⟨t,t1,t2⟩:=Nr.gW (Nr.dec N)
 have hn:=congrArg Nr.num t1
 rw [Nr.fj,Nr.iS,List.length_replicate,Nat.add_zero,d2] at hn
 have hL:=congrArg List.length t1
 rw [aq,List.length_replicate] at hL
 have ne:Nr.cT (Nr.dec N)≠[]:=by
  intro e0;rw [e0,show Nr.num []=0 from rfl,Nat.zero_mul] at hn;omega
 have:=List.length_pos_iff.2 ne
 unfold Nr.read Nr.valid
 rw [(Nr.eF d1 t1).1,ae (show 1≤(Nr.cT (Nr.dec N)).length∧(Nr.cT (Nr.dec N)).length≤300 by omega),aH (by rfl)]
 have e:rd N k=rd (Nr.num (Nr.cT (Nr.dec N)) * 10 ^ t) k:=by rw [←hn]
 rw [e,Nr.oh,show ((Nr.dec N).length:Int)+k - (Nr.cT (Nr.dec N)).length=k+t by omega]
theorem CE {p a b:Nat} {x n:Int} {r:bT × Int} (h:some_ p a b x n=some r):∃N,(N=tA a (n - x) / tB b (n - x)∨N=tA a (n - x) / tB b (n - x)+1)∧rd N (x - n)=some p∧r=(Nr.cT (Nr.dec N),(Nr.dec N).length+(x - n)):=by
 unfold some_ at h
 simp only at h
 have key:∀N,reads p N (x - n)=some r→rd N (x - n)=some p∧r=(Nr.cT (Nr.dec N),(Nr.dec N).length+(x - n)):=fun N hN=>by
  unfold reads at hN
  split at hN
  ·rename_i c;cases hN;exact ⟨c,rfl⟩
  ·cases hN
 split at h
 ·exact ⟨_,.inl rfl,key _ h⟩
 ·exact ⟨_,.inr rfl,key _ h⟩
theorem su {p:Nat} (hp:0<p) (ht:p≤top):∃n N:Nat,1≤n∧n≤17∧0<N∧N≤10 ^ n∧rd N (dx p - n)=some p∧digits p=(Nr.cT (Nr.dec N),(Nr.dec N).length+(dx p - n)) ∧
  (∀j:Nat,1≤j→j<n→some_ p (gI p) (ff p) (dx p) j=none):=by
 obtain ⟨n,n1,n2,n3,n4⟩:=first hp ht
 obtain ⟨N,N1,N2,N3⟩:=CE n4
 obtain ⟨r1,r2⟩:=qp hp (n:=n) (by omega)
 have hQ:=pY (iA p) (n - dx p)
 rw [aw] at r2
 have lo:=(Nat.le_div_iff_mul_le hQ).2 r1
 have hi:=(Nat.div_lt_iff_lt_mul hQ).2 r2
 have:=Nr.dC ((n:Int) - 1).toNat
 refine ⟨n,N,n1,n2,?_,?_,N2,N3,n3⟩ <;> rcases N1 with h | h <;> omega
theorem least {p:Nat} (hp:0<p) {D:bT} (hD:Nr.nS D) {kd:Int} (h:rd (Nr.num D) kd=some p):(digits p).1.length≤D.length:=by
 have ht:=((wT hp).1 h).1
 have hs:=HM hp hD h
 obtain ⟨n,N,n1,n2,n3,n4,n5,n6,n7⟩:=su hp ht
 have hn:n≤D.length:=by
  rcases Nat.lt_or_ge D.length n with c | c
  ·rw [n7 D.length (List.length_pos_iff.2 hD.n) c] at hs;cases hs
  ·exact c
 rw [n6]
 exact Nat.le_trans (zW n1 n4) hn
theorem zO {p:Nat} (hp:0<p) (ht:p≤top):Nr.read (digits p).1 (digits p).2=some p:=by
 obtain ⟨n,N,n1,n2,n3,n4,n5,n6,n7⟩:=su hp ht
 rw [n6,vN n3 ?_,n5]
 refine Nat.le_trans (Nr.nG (n+1) N ?_ (by omega)) (by omega)
 exact Nat.lt_of_le_of_lt n4 (Nat.pow_lt_pow_right (by omega) (by omega))
end Sh
end Go.Eng
namespace Go.Eng
namespace Sh
open Nr (V iD sh top gf rd ns fC)
structure tm (d:bT):Prop where
 dg:d.all Nr.eo=true
 n:d≠[]
 h:d.getD 0 0≠48
theorem tm.fF {c:bT} (h:tm c) (j:Nat):tm (c++List.replicate j 48):=by
 refine ⟨?_,by simp [h.n],?_⟩
 ·rw [List.all_append,h.dg,Bool.true_and]
  rw [aL];intro x hx;rw [List.eq_of_mem_replicate hx];rfl
 ·rw [ak,List.getElem?_append_left (List.length_pos_iff.2 h.n),←ak]
  exact h.h
theorem p9 (c:bT) (j:Nat):Nr.num (c++List.replicate j 48)=Nr.num c * 10 ^ j:=by
 rw [Nr.fj,Nr.iS,List.length_replicate,Nat.add_zero]
theorem rX {d:bT} (h:tm d) {n:Nat} (h1:1≤n) (h2:n≤d.length):tm (d.take n):=by
 refine ⟨(Nr.eF h.dg (List.take_append_drop n d).symm).1,?_,?_⟩
 ·intro e
  have:=congrArg List.length e
  rw [aK,aZ] at this;omega
 ·rw [ak,List.getElem?_take_of_lt (by omega),←ak];exact h.h
end Sh
end Go.Eng
namespace Go.Eng
open Go.IntWalk
namespace Nr
theorem ZO (t:bT):t=t.take (run t)++t.drop (run t)∧(t.take (run t)).all eo=true∧(t.take (run t)).length=run t:=by
 have e:t.takeWhile eo=t.take (run t):=by
  unfold run
  exact List.prefix_iff_eq_take.1 (List.takeWhile_prefix eo)
 refine ⟨(List.take_append_drop _ _).symm,?_,?_⟩
 ·rw [←e];exact List.all_takeWhile
 ·rw [aK,Nat.min_eq_left (ZI t)]
structure Shape (t a b fr ex e:bT):Prop where
 eq:t=a++fr++ex
 a0:a≠[]
 ad:a.all eo=true
 fr:(fr=[]∧b=[])∨(fr=46 :: b∧b≠[])
 bd:b.all eo=true
 ex:(ex=[]∧e=[])∨(∃c,JO c=true∧ex=c :: e∧signed e≠[])
 ed:(signed e).all eo=true
theorem ZM {x:bT} {k:Int} (h:AX x k≠0):∃e,((x=[]∧e=[])∨(∃c,JO c=true∧x=c :: e∧signed e≠[]))∧(signed e).all eo=true:=by
 cases x with
 | nil=>exact ⟨[],.inl ⟨rfl,rfl⟩,rfl⟩
 | cons c r =>
  rw [wc] at h
  by_cases hc:c=101∨c=69
  ·rw [aH hc] at h
   by_cases hr:run (signed r)=0∨run (signed r)<(signed r).length
   ·rw [aH hr] at h;exact (h rfl).elim
   ·obtain ⟨h1,h2,h3⟩:=ZO (signed r)
    have hl:=ZI (signed r)
    refine ⟨r,.inr ⟨c,ae hc,rfl,?_⟩,?_⟩
    ·intro e;rw [e] at hr;exact hr (.inl rfl)
    ·rw [List.take_of_length_le (by omega)] at h2;exact h2
  ·rw [aD hc] at h;exact (h rfl).elim
theorem aae {s:bT} (h:Lv s≠0):∃a b fr ex e,Shape (body s) a b fr ex e:=by
 have h2:¬(run (body s)=0∨((body s).getD 0 0=48∧1<run (body s)))∧B5 ((body s).drop (run (body s)))≠0:=by
  have e:Lv s=if run (body s)=0∨((body s).getD 0 0=48∧1<run (body s)) then 0 else B5 ((body s).drop (run (body s))):=rfl
  rw [e] at h
  by_cases c:run (body s)=0∨((body s).getD 0 0=48∧1<run (body s))
  ·rw [aH c] at h;exact (h rfl).elim
  ·rw [aD c] at h;exact ⟨c,h⟩
 obtain ⟨h2,h3⟩:=h2
 generalize body s=t at *
 obtain ⟨r1,r2,r3⟩:=ZO t
 have ha:t.take (run t)≠[]:=fun e=>by
  rw [e] at r3;exact h2 (.inl r3.symm)
 by_cases aak:0<(t.drop (run t)).length∧(t.drop (run t)).getD 0 0=46
 ·cases hx:t.drop (run t) with
  | nil=>rw [hx] at aak;simp at aak
  | cons c r =>
   rw [hx] at aak h3 r1
   have:c=46:=aak.2
   subst this
   rw [wa] at h3
   by_cases hr:run r=0
   ·rw [aH hr] at h3;exact (h3 rfl).elim
   ·rw [aD hr] at h3
    obtain ⟨s1,s2,s3⟩:=ZO r
    obtain ⟨e,e1,e2⟩:=ZM h3
    refine ⟨t.take (run t),r.take (run r),46 :: r.take (run r),r.drop (run r),e,?_,ha,r2,.inr ⟨rfl,?_⟩,s2,e1,e2⟩
    ·rw [aQ,List.cons_append,←s1];exact r1
    ·intro e;rw [e] at s3;exact hr s3.symm
 ·rw [rL aak] at h3
  obtain ⟨e,e1,e2⟩:=ZM h3
  refine ⟨t.take (run t),[],[],t.drop (run t),e,?_,ha,r2,.inl ⟨rfl,rfl⟩,rfl,e1,e2⟩
  rw [aU];exact r1
theorem xE {c:UInt8} (h:eo c=true):JO c=false∧c≠46∧c.toNat<128∧([101,69]:bT).contains c=false:=by
 have h1:=gg.1 h
 have fI:∀d:UInt8,d.toNat<48∨57<d.toNat→c≠d:=fun d hd e=>by subst e;omega
 have n1:=fI 101 (by decide)
 have n2:=fI 69 (by decide)
 have n3:=fI 46 (by decide)
 refine ⟨af (by simp [n1,n2]),n3,by omega,by simp [n1,n2]⟩
theorem pN {p:UInt8→Bool} {a b:bT} (ha:a.all p=true) (hb:b=[]∨p (b.getD 0 0)=false):(a++b).takeWhile p=a∧(a++b).dropWhile p=b:=by
 induction a with
 | nil =>
  cases b with
  | nil=>exact ⟨rfl,rfl⟩
  | cons c r =>
   have hc:p c=false:=hb.resolve_left (by simp)
   rw [bj,List.takeWhile_cons,List.dropWhile_cons,aD (by rw [hc];simp),aD (by rw [hc];simp)]
   exact ⟨rfl,rfl⟩
 | cons c r ih =>
  rw [List.all_cons,aa] at ha
  obtain ⟨i1,i2⟩:=ih ha.2
  rw [List.cons_append,List.takeWhile_cons,List.dropWhile_cons,aH ha.1,aH ha.1,i1,i2]
  exact ⟨rfl,rfl⟩
section
variable {s a b fr ex e:bT} (h:Shape (body s) a b fr ex e)
include h
theorem Shape.TP:(a++fr).all (fun c=>!JO c)=true:=by
 rw [List.all_append,aa]
 constructor
 ·exact aL.2 fun x hx=>by rw [(xE (aL.1 h.ad x hx)).1];rfl
 ·rcases h.fr with ⟨h1,_⟩ | ⟨h1,_⟩
  ·rw [h1];rfl
  ·rw [h1,List.all_cons,aa]
   exact ⟨by decide,aL.2 fun x hx=>by rw [(xE (aL.1 h.bd x hx)).1];rfl⟩
theorem Shape.parts:Ie s=a++fr∧tail s=e∧ahead s=a∧behind s=b:=by
 have hx:ex=[]∨(!JO (ex.getD 0 0))=false:=by
  rcases h.ex with ⟨h1,_⟩ | ⟨c,h1,h2,_⟩
  ·exact .inl h1
  ·right;rw [h2];show (!JO c)=false;rw [h1];rfl
 obtain ⟨t1,t2⟩:=pN h.TP hx
 rw [←h.eq] at t1 t2
 have hm:Ie s=a++fr:=t1
 have ht:tail s=ex.drop 1:=by unfold tail;rw [t2]
 have hf:fr=[]∨(fr.getD 0 0 != 46)=false:=by
  rcases h.fr with ⟨h1,_⟩ | ⟨h1,_⟩
  ·exact .inl h1
  ·right;rw [h1];rfl
 have WU:a.all (· != 46)=true:=aL.2 fun x hx=>by
  have:=(xE (aL.1 h.ad x hx)).2.1
  simpa using this
 obtain ⟨u1,u2⟩:=pN WU hf
 refine ⟨hm,?_,?_,?_⟩
 ·rw [ht]
  rcases h.ex with ⟨h1,h2⟩ | ⟨c,h1,h2,_⟩
  ·rw [h1,h2];rfl
  ·rw [h2];rfl
 ·unfold ahead;rw [hm];exact u1
 ·unfold behind;rw [hm,u2]
  rcases h.fr with ⟨h1,h2⟩ | ⟨h1,_⟩
  ·rw [h1,h2];rfl
  ·rw [h1];rfl
theorem Shape.ascii:(body s).all (fun c=>decide (c.toNat<128))=true:=by
 have hd:∀l:bT,l.all eo=true→l.all (fun c=>decide (c.toNat<128))=true:=fun l hl=>aL.2 fun x hx=>ae (xE (aL.1 hl x hx)).2.2.1
 rw [h.eq,List.all_append,List.all_append,aa,aa]
 refine ⟨⟨hd a h.ad,?_⟩,?_⟩
 ·rcases h.fr with ⟨h1,_⟩ | ⟨h1,_⟩
  ·rw [h1];rfl
  ·rw [h1,List.all_cons,hd b h.bd];rfl
 ·rcases h.ex with ⟨h1,_⟩ | ⟨c,h1,h2,_⟩
  ·rw [h1];rfl
  ·rw [h2,List.all_cons,aa]
   have hc:c=101∨c=69:=aN h1
   refine ⟨by rcases hc with rfl | rfl <;> decide,?_⟩
   have he:=h.ed
   cases e with
   | nil=>rfl
   | cons d r =>
    rw [sI] at he
    rw [List.all_cons]
    by_cases k:d=43∨d=45
    ·rw [aH k] at he
     rw [hd r he];rcases k with rfl | rfl <;> rfl
    ·rw [aD k] at he
     have:=hd _ he
     rw [List.all_cons] at this;exact this
theorem Shape.index:Lib.indexAny (body s) [101,69]=if ex=[] then -1 else ((a++fr).length:Int):=by
 have jP:∀(j:Nat) x,j<(a++fr).length→(body s)[j]?=some x→([101,69]:bT).contains x=false:=fun j x hj hx=>by
  rw [h.eq,List.getElem?_append_left hj] at hx
  have:=aL.1 h.TP x (aT hx)
  simp only [Bool.not_eq_true'] at this
  have h2:¬(x=101∨x=69):=of_decide_eq_false this
  simp only [not_or] at h2
  simp [h2.1,h2.2]
 rcases h.ex with ⟨h1,_⟩ | ⟨c,h1,h2,_⟩
 ·rw [aH h1]
  refine Lib.indexAny_none fun j x hj hx=>jP j x ?_ (by assumption)
  rw [h.eq,h1,aU] at *
  first | exact hj | exact hx
 ·rw [aD (by rw [h2];simp)]
  refine Lib.indexAny_hit (i:=(a++fr).length) (x:=c) (fun j x hj hx=>?_) ?_ ?_
  ·first | exact jP j x hj hx | exact jP j x hx hj
  ·rw [h.eq,h2,aJ (Nat.le_refl _),Nat.sub_self];rfl
  ·have hc:c=101∨c=69:=aN h1
   rcases hc with rfl | rfl <;> rfl
end
theorem aah {N L:Nat} {k j:Int} (hN:N<10 ^ L) (h:k=j∨(310≤k∧310≤j)∨(k+L≤-324∧j+L≤-324)):rd N k=rd N j:=by
 rcases h with h | ⟨h1,h2⟩ | ⟨h1,h2⟩
 ·rw [h]
 ·by_cases c:N=0
  ·subst c;rw [HW,HW]
  ·rw [BM (L:=1) (by simp;omega) (by omega) (by omega),BM (L:=1) (by simp;omega) (by omega) (by omega)]
 ·rw [ED hN h1,ED hN h2]
theorem Z8 {D t:bT} {L M:Nat} (hL:L≤300) (hM:5000≤M):read D (L+(if t.getD 0 0=45 then -((min (num (signed t)) M:Nat):Int) else ((min (num (signed t)) M:Nat):Int)))=read D (L+zM t):=by
 unfold read
 cases hv:valid D
 ·rw [aD (by simp),aD (by simp)]
 ·rw [aH rfl,aH rfl]
  unfold valid at hv
  rw [aa] at hv
  have hl:=aN hv.1
  refine aah (nj D hv.2) ?_
  unfold zM
  simp only
  by_cases c:t.getD 0 0=45
  ·rw [aH c,aH c];omega
  ·rw [aD c,aD c];omega
end Nr
theorem aac {s:bT} (h1:1≤(Nr.signed s).length) (h2:(Nr.signed s).all Nr.eo=true):Lib.trimLeftS s [43,45]=Nr.signed s:=by
 have hk:∀(c:UInt8) (r:bT),Nr.eo c=true→List.dropWhile (fun b=>([43,45]:bT).contains b) (c :: r)=c :: r:=fun c r hc=>by
  rw [List.dropWhile_cons,aD]
  have hd:=Nr.gg.1 hc
  have n1:c≠43:=fun e=>by subst e;simp at hd
  have n2:c≠45:=fun e=>by subst e;simp at hd
  simp [n1,n2]
 unfold Lib.trimLeftS
 cases s with
 | nil=>simp [Nr.signed] at h1
 | cons c r =>
  rw [Nr.sI] at h1 h2 ⊢
  by_cases k:c=43∨c=45
  ·rw [aH k] at h1 h2 ⊢
   rw [List.dropWhile_cons,aH (by rcases k with rfl | rfl <;> rfl)]
   cases r with
   | nil=>simp at h1
   | cons d q =>
    rw [List.all_cons,aa] at h2
    exact hk d q h2.1
  ·rw [aD k] at h1 h2 ⊢
   rw [List.all_cons,aa] at h2
   exact hk c r h2.1
theorem aau (c:UInt8) (h:Nr.eo c=true):(c - 48).toNat=c.toNat - 48:=by
 have h1:=Nr.gg.1 h
 rw [UInt8.toNat_sub]
 show (256 - 48+c.toNat) % 256=_
 omega
theorem aaj (a b M:Nat) (hM:10≤M):min (10 * min a M+b) M=min (10 * a+b) M:=by omega
theorem l6.fo (s t:bT) (ht:t.all Nr.eo=true) (hl:t.length≤300) (hs:1≤s.length):∀(m i:Nat),i+m=t.length→l6.l1 s t ((min (Nr.num (t.take i)) 1000000:Nat):Int) t.length i=some [.i .i64 (if s.getD 0 0=45 then -((min (Nr.num t) 1000000:Nat):Int) else ((min (Nr.num t) 1000000:Nat):Int))]:=by
 intro m
 induction m with
 | zero =>
  intro i hi
  refine l6.dE _ _ _ _ _ ?_
  intro v1 h1 v2 h2 v3 h3 v4 h4 v5 h5 v6 h6
  have h6:v6=s.getD 0 0:=h6
  rw [List.take_of_length_le (by omega),af (by omega),ax,bD (cN (by omega) (by omega)),h6]
  by_cases c:s.getD 0 0=45
  ·rw [ae c,aF,aH c,i64_in _ (by omega)];simp
  ·rw [af c,ax,aD c]
 | succ m ih =>
  intro i hi
  refine l6.dE _ _ _ _ _ ?_
  intro v1 h1 v2 h2 v3 h3 v4 h4 v5 h5 v6 h6
  rw [aw] at h2
  have hd:=Hc ht (show i<t.length by omega)
  rw [←h2] at hd
  have e1:v1=((10 * min (Nr.num (t.take i)) 1000000:Nat):Int):=by rw [h1,i64_in _ (by omega)];omega
  have e3:v3=((v2.toNat - 48:Nat):Int):=by rw [h3,aau v2 (Nr.gg.2 hd),i64_in _ (by omega)]
  have e4:v4=((min (Nr.num (t.take (i+1))) 1000000:Nat):Int):=by
   rw [vF (show i<t.length by omega),Nr.jI,←h2,←aaj _ _ _ (by omega),h4,e1,e3,i64_in _ (by omega)]
   unfold vn
   split <;> omega
  have e5:v5=((i+1:Nat):Int):=by rw [h5,i64_in _ (by omega)];omega
  rw [ae (by omega),aF,bD (cN (by omega) (by omega)),e4,e5]
  exact ih (i+1) (by omega)
theorem l6.goal (s:bT) (hp:(decide (1≤(Nr.signed s).length∧s.length≤300)&&(Nr.signed s).all Nr.eo)=true):l6.F s=some [.i .i64 (Nr.ZS s)]:=by
 simp only [aa,ay] at hp
 obtain ⟨⟨p1,p2⟩,p3⟩:=hp
 have hl:=Nr.Z7 s
 refine l6.dZ _ ?_
 intro v1 h1
 rw [aac p1 p3] at h1
 rw [ae (show s.length≤1099511627776∧([43,45]:bT).length≤100 from ⟨by omega,by decide⟩)]
 refine (bD (by rfl)).trans ?_
 rw [h1]
 have:=l6.fo s (Nr.signed s) p3 (by omega) (by omega) (Nr.signed s).length 0 (by omega)
 unfold Nr.ZS
 rw [←this];rfl
theorem aax (x:UInt64) (h:x.toNat<9223372036854775808):x ||| 9223372036854775808=UInt64.ofNat (x.toNat+9223372036854775808):=by
 apply jj
 rw [UInt64.toNat_or,ji]
 have:=oi (a:=1) (k:=63) (b:=x.toNat) h
 rw [Nat.or_comm] at this
 show x.toNat ||| 9223372036854775808=_
 rw [show (9223372036854775808:Nat)=1 * 2 ^ 63 by decide,this]
 have:(1:Nat) * 2 ^ 63=9223372036854775808:=by decide
 omega
theorem Nr.aao {d:bT} {x:Int} {p:Nat} (h:Nr.read d x=some p):p≤Nr.top:=by
 unfold Nr.read at h
 split at h
 ·exact Nr.Ib h
 ·cases h
theorem k8.gG (s:bT) (hs:s.length≤300) (hx:Nr.Lv s≠0) (x:Int) (Hv : -1000000≤x∧x≤1000000) (hr:Nr.read (Nr.ahead s++Nr.behind s) ((Nr.ahead s).length+x)=Nr.read (Nr.ahead s++Nr.behind s) ((Nr.ahead s).length+Nr.zM (Nr.tail s))) (neg:Bool) (C8:neg=decide (s.getD 0 0=45)) (hm:(Nr.Ie s).length≤300) :
  k8.j1 (Nr.Ie s) neg x=some [.u64 (Nr.parse s).1,.i .i64 (Nr.parse s).2]:=by
 refine k8.kF _ _ _ ?_
 intro v1 h1 v2 h2 v3 h3 v4 h4 v5 h5 v6 h6
 have e1:v1=Nr.behind s:=h1
 have e2:v2=Nr.ahead s++Nr.behind s:=by rw [h2,e1];rfl
 have e3:v3=(Nr.ahead s).length:=h3
 have l1:(Nr.ahead s).length≤(Nr.Ie s).length:=(List.takeWhile_sublist _).length_le
 have l2:(Nr.behind s).length≤(Nr.Ie s).length:=by unfold Nr.behind;rw [bm];have:=(List.dropWhile_sublist (l:=Nr.Ie s) (· != 46)).length_le;omega
 rw [e2,e3,i64_in _ (by omega),hr] at h4 h5
 have ep:Nr.parse s=match Nr.read (Nr.ahead s++Nr.behind s) ((Nr.ahead s).length+Nr.zM (Nr.tail s)) with
  | none=>(0,10)
  | some p=>(UInt64.ofNat (p+if s.getD 0 0=45 then 9223372036854775808 else 0),0):=by
  rw [Nr.uc];unfold Nr.wi
  rw [aD hx,aD (by omega)]
  rfl
 rw [bD (ae ⟨by omega,rfl⟩),bD (ae (by
  have:((Nr.Ie s).takeWhile (· != 46)).length=(Nr.ahead s).length:=rfl
  rw [e1];omega)),ep]
 cases hq:Nr.read (Nr.ahead s++Nr.behind s) ((Nr.ahead s).length+Nr.zM (Nr.tail s)) with
 | none =>
  rw [hq] at h5
  have e5:v5=false:=h5
  rw [e5];rfl
 | some p =>
  have hp:=Nr.aao hq
  rw [hq] at h4 h5
  have e5:v5=true:=h5
  have e4:v4=UInt64.ofNat p:=h4
  have Xp:v4.toNat=p:=by rw [e4,ji];unfold Nr.top at hp;omega
  rw [e5,C8]
  refine Eq.trans (b:=cond (decide (s.getD 0 0=45)) (k8.j2 v6) (k8.j2 v4)) rfl ?_
  by_cases c:s.getD 0 0=45
  ·rw [ae c,aF,k8.ow,h6,aax _ (by rw [Xp];unfold Nr.top at hp;omega),Xp,aH c]
  ·rw [af c,ax,k8.ow,aD c,e4];rfl
theorem Nr.aav (s:bT):(if ([45]:bT).isPrefixOf s then s.drop ([45]:bT).length else s)=Nr.body s∧([45]:bT).isPrefixOf s=decide (s.getD 0 0=45):=by
 cases s with
 | nil=>exact ⟨rfl,rfl⟩
 | cons c r =>
  by_cases h:c=45
  ·subst h;exact ⟨by simp [Nr.body],by simp⟩
  ·have hb:(45 == c)=false:=by simp [Ne.symm h]
   refine ⟨?_,?_⟩
   ·have:Nr.body (c :: r)=c :: r:=by
     unfold Nr.body
     split
     ·rename_i heq;injection heq with h1 _;exact (h h1).elim
     ·rfl
    rw [this];simp [List.isPrefixOf,hb]
   ·simp [List.isPrefixOf,hb,h]
theorem Nr.aan (s:bT):(Nr.body s).length≤s.length:=by
 unfold Nr.body
 split
 ·simp
 ·exact Nat.le_refl _
theorem k8.goal (s:bT) (hp:decide (s.length≤1099511627776)=true):k8.F s=some [.u64 (Nr.parse s).1,.i .i64 (Nr.parse s).2]:=by
 refine k8.dZ _ ?_
 intro v1 h1 v2 h2 v3 h3 v4 h4 v5 h5
 obtain ⟨b1,b2⟩:=Nr.aav s
 rw [b1] at h1
 rw [b2] at h2
 rw [bD hp]
 by_cases hx:Nr.Lv s=0
 ·rw [ae hx,aF];rw [Nr.uc];unfold Nr.wi;rw [aH hx]
 ·rw [af hx,ax]
  by_cases hl:300<s.length
  ·rw [ae (by omega),aF];rw [Nr.uc];unfold Nr.wi;rw [aD hx,aH hl]
  ·rw [af (by omega),ax]
   obtain ⟨a,b,fr,ex,e,sh⟩:=Nr.aae hx
   obtain ⟨q1,q2,q3,q4⟩:=sh.parts
   have J7:=Nr.aan s
   have Po:(Nr.Ie s).length≤300:=by
    have:(Nr.Ie s).length≤(Nr.body s).length:=(List.takeWhile_sublist _).length_le
    omega
   have Dg:e.length≤300:=by
    have h:=congrArg List.length sh.eq
    rw [aq] at h
    rcases sh.ex with ⟨x1,x2⟩ | ⟨c,x1,x2,x3⟩
    ·rw [x2];simp
    ·rw [x2,aP] at h;omega
   have hi:=sh.index
   rw [←h1] at hi
   rw [hi] at h3
   rw [h1,ae (show (Nr.body s).length≤4294967280∧([101,69]:bT).length≤100 from ⟨by omega,by decide⟩),List.all_append,sh.ascii]
   refine (bD (by rfl)).trans ?_
   rcases sh.ex with ⟨x1,x2⟩ | ⟨c,x1,x2,x3⟩
   ·rw [aH x1] at h3
    have hbm:Nr.body s=Nr.Ie s:=by rw [sh.eq,x1,aU,q1]
    have ht0:Nr.zM (Nr.tail s)=0:=by rw [q2,x2];rfl
    rw [h3,af (by decide),ax,hbm]
    exact k8.gG s (by omega) hx 0 (by omega) (by rw [ht0]) v2 h2 Po
   ·rw [aD (by rw [x2];simp)] at h3
    have e4:v4=(((a++fr).length+1:Nat):Int):=by
     have:(a++fr).length≤300:=by rw [←q1];exact Po
     rw [h4,h3,i64_in _ (by omega)];omega
    have hlen:(Nr.body s).length=(a++fr).length+(e.length+1):=by rw [sh.eq,x2,aq,aP]
    have Ua:(Nr.body s).drop ((a++fr).length+1)=e:=by
     rw [sh.eq,x2,←List.drop_drop,List.drop_left];rfl
    have Qx:(Nr.body s).take (a++fr).length=Nr.Ie s:=by rw [sh.eq,List.take_left,q1]
    rw [e4,aw,h1,Ua] at h5
    rw [h3,ae (by omega),aF,e4,bD (lJ (by omega) (by omega) (by omega)),aw,Ua,bD (by
     rw [sh.ed,ae (show 1≤(Nr.signed e).length∧e.length≤300 from ⟨List.length_pos_iff.2 x3,Dg⟩)];rfl),bD (lJ (by omega) (by omega) (by omega)),aw,Qx]
    refine k8.gG s (by omega) hx v5 ?_ ?_ v2 h2 Po
    ·rw [h5];unfold Nr.ZS;split <;> omega
    ·rw [h5,q2]
     unfold Nr.ZS
     exact Nr.Z8 (by
      have:(Nr.ahead s).length≤(Nr.Ie s).length:=(List.takeWhile_sublist _).length_le
      omega) (by omega)
end Go.Eng
namespace Go.Eng
namespace Sh
open Nr (V iD sh top gf rd ns fC eo JO signed run B5 AX body Lv)
theorem ZP {a b:bT} (ha:a.all eo=true) (hb:b=[]∨eo (b.getD 0 0)=false):run (a++b)=a.length:=by
 unfold run
 rw [(Nr.pN ha hb).1]
theorem ZZ {ex e:bT} {k:Int} (hk:k≠0) (hx:(ex=[]∧e=[])∨(∃c,JO c=true∧ex=c :: e∧signed e≠[])) (he:(signed e).all eo=true):AX ex k≠0:=by
 rcases hx with ⟨h,_⟩ | ⟨c,h1,h2,h3⟩
 ·rw [h];exact hk
 ·have hc:c=101∨c=69:=aN h1
  have hr:=ZP he (b:=[]) (.inl rfl)
  rw [aU] at hr
  have hl:=List.length_pos_iff.2 h3
  rw [h2,Nr.wc,aH hc,aD (by omega)];decide
theorem aab {c:UInt8} (h:JO c=true):eo c=false∧c≠46:=by
 have:c=101∨c=69:=aN h
 rcases this with rfl | rfl <;> exact ⟨rfl,by decide⟩
theorem aam (s:bT):Lv s=if run (body s)=0∨((body s).getD 0 0=48∧1<run (body s)) then 0 else B5 ((body s).drop (run (body s))):=rfl
theorem ZN {s a b fr ex e:bT} (h:Nr.Shape (body s) a b fr ex e) (h0:a=[48]∨a.getD 0 0≠48):Lv s≠0:=by
 have hxd:ex=[]∨eo (ex.getD 0 0)=false:=by
  rcases h.ex with ⟨x,_⟩ | ⟨c,x1,x2,_⟩
  ·exact .inl x
  ·right;rw [x2];exact (aab x1).1
 have hfd:fr++ex=[]∨eo ((fr++ex).getD 0 0)=false:=by
  rcases h.fr with ⟨f1,_⟩ | ⟨f1,_⟩
  ·rw [f1];exact hxd
  ·right;rw [f1];rfl
 have hr:run (body s)=a.length:=by rw [h.eq,aQ];exact ZP h.ad hfd
 have hal:=List.length_pos_iff.2 h.a0
 have hg:(body s).getD 0 0=a.getD 0 0:=by
  rw [h.eq,aQ,ak,List.getElem?_append_left hal,←ak]
 have Ua:(body s).drop a.length=fr++ex:=by rw [h.eq,aQ,List.drop_left]
 rw [aam,hr,hg,Ua,aD]
 ·rcases h.fr with ⟨f1,f2⟩ | ⟨f1,f2⟩
  ·rw [f1,bj]
   have jP:¬(0<ex.length∧ex.getD 0 0=46):=by
    rintro ⟨k1,k2⟩
    rcases h.ex with ⟨x,_⟩ | ⟨c,x1,x2,_⟩
    ·rw [x] at k1;simp at k1
    ·rw [x2] at k2;exact (aab x1).2 k2
   rw [Nr.rL jP]
   exact ZZ (by decide) h.ex h.ed
  ·have hb:=ZP h.bd hxd
   have J7:=List.length_pos_iff.2 f2
   rw [f1,List.cons_append,Nr.wa,hb,aD (by omega),List.drop_left]
   exact ZZ (by decide) h.ex h.ed
 ·rintro (k | ⟨k1,k2⟩)
  ·omega
  ·rcases h0 with h0 | h0
   ·rw [h0] at k2;simp at k2
   ·exact h0 k1
theorem ZQ {s a b fr ex e:bT} {p:Nat} (h:Nr.Shape (body s) a b fr ex e) (h0:a=[48]∨a.getD 0 0≠48) (hs:s.length≤300) (hr:Nr.read (a++b) ((a.length:Int)+Nr.zM e)=some p) :
  Nr.parse s=(UInt64.ofNat (p+if s.getD 0 0=45 then 9223372036854775808 else 0),0):=by
 obtain ⟨q1,q2,q3,q4⟩:=h.parts
 have hx:=ZN h h0
 have ep:Nr.parse s=match Nr.read (Nr.ahead s++Nr.behind s) ((Nr.ahead s).length+Nr.zM (Nr.tail s)) with
  | none=>(0,10)
  | some p=>(UInt64.ofNat (p+if s.getD 0 0=45 then 9223372036854775808 else 0),0):=by
  rw [Nr.uc];unfold Nr.wi
  rw [aD hx,aD (by omega)]
  rfl
 rw [ep,q2,q3,q4,hr]
theorem vA (n:Int):(fF n).all eo=true:=by
 unfold fF
 rw [aL];intro x hx;rw [List.eq_of_mem_replicate hx];rfl
theorem uW {d:bT} (h:d.all eo=true) (n:Nat):(d.drop n).all eo=true∧(d.take n).all eo=true:=by
 have:=Nr.eF h (List.take_append_drop n d).symm
 exact ⟨this.2,this.1⟩
theorem nx {v:Int} (h:0≤v):Nr.itoa v=Nr.dec v.toNat∧(Nr.itoa v).all eo=true∧Nr.num (Nr.itoa v)=v.toNat∧Nr.itoa v≠[]:=by
 have e:Nr.itoa v=Nr.dec v.toNat:=by rw [Nr.B9,aD (by omega),show v.natAbs=v.toNat by omega]
 obtain ⟨d1,d2,d3,d4⟩:=Nr.oU v.toNat
 rw [e];exact ⟨rfl,d1,d2,d3⟩
theorem Gi {v:Int} (h:0≤v):Nr.zM (45 :: Nr.itoa v)=-v∧signed (45 :: Nr.itoa v)=Nr.itoa v:=by
 obtain ⟨_,d1,d2,d3⟩:=nx h
 have e:signed (45 :: Nr.itoa v)=Nr.itoa v:=by rw [Nr.sI,aH (.inr rfl)]
 refine ⟨?_,e⟩
 unfold Nr.zM
 simp only
 rw [e,d2,aH (by rfl)];omega
theorem Gg {v:Int} (h:0≤v):Nr.zM (43 :: Nr.itoa v)=v∧signed (43 :: Nr.itoa v)=Nr.itoa v:=by
 obtain ⟨_,d1,d2,d3⟩:=nx h
 have e:signed (43 :: Nr.itoa v)=Nr.itoa v:=by rw [Nr.sI,aH (.inl rfl)]
 refine ⟨?_,e⟩
 unfold Nr.zM
 simp only
 rw [e,d2,aD (by show ¬((43:UInt8)=45);decide)];omega
theorem BL {D E:bT} {x y:Int} {j:Nat} (h1:Nr.valid D=true) (h2:Nr.valid E=true) (hn:Nr.num D=Nr.num E * 10 ^ j) (hx:x - D.length+j=y - E.length):Nr.read D x=Nr.read E y:=by
 unfold Nr.read
 rw [aH h1,aH h2,hn,Nr.oh,hx]
theorem tT {D:bT} (h:D.all eo=true) (h1:1≤D.length) (h2:D.length≤300):Nr.valid D=true:=by
 unfold Nr.valid
 rw [h,ae ⟨h1,h2⟩];rfl
theorem aad {t a b fr ex e:bT} (h:Nr.Shape t a b fr ex e):eo (t.getD 0 0)=true:=by
 have hal:=List.length_pos_iff.2 h.a0
 rw [h.eq,aQ,ak,List.getElem?_append_left hal,aA hal]
 exact aL.1 h.ad _ (List.getElem_mem hal)
theorem tL {v:Int} (h:0≤v) (h2:v<1000):(Nr.itoa v).length≤3:=by
 rw [(nx h).1]
 exact Nr.nG 3 v.toNat (by show v.toNat<1000;omega) (by omega)
theorem A0 {d:bT} (hd:tm d) (hl:d.length≤17) {x:Int} (hx : -900≤x∧x≤900):∃a b fr ex e,Nr.Shape (laid d x) a b fr ex e∧(a=[48]∨a.getD 0 0≠48)∧(laid d x).length≤24∧Nr.read (a++b) ((a.length:Int)+Nr.zM e)=Nr.read d x:=by
 have hn:=List.length_pos_iff.2 hd.n
 have hv:=tT hd.dg hn (by omega)
 unfold laid
 by_cases c1:1≤x∧x≤21∧(d.length:Int)≤x
 ·rw [aH c1]
  have hz:=hd.fF (x - d.length).toNat
  have Ht:(d++fF (x - d.length)).length=x.toNat:=by
   unfold fF;rw [aq,List.length_replicate];omega
  refine ⟨d++fF (x - d.length),[],[],[],[],⟨by simp,hz.n,hz.dg,.inl ⟨rfl,rfl⟩,rfl,.inl ⟨rfl,rfl⟩,rfl⟩,.inr hz.h,by omega,?_⟩
  rw [aU]
  refine BL (j:=(x - d.length).toNat) (tT hz.dg (by omega) (by omega)) hv (p9 d _) ?_
  rw [Ht,show Nr.zM []=0 from rfl];omega
 ·rw [aD c1]
  by_cases c2:1≤x∧x≤21
  ·rw [aH c2]
   have ht:=rX hd (n:=x.toNat) (by omega) (by omega)
   have sW:(d.take x.toNat).length=x.toNat:=by rw [aK];omega
   have F2:(d.drop x.toNat).length=d.length - x.toNat:=bm ..
   refine ⟨d.take x.toNat,d.drop x.toNat,46 :: d.drop x.toNat,[],[],⟨by simp,ht.n,ht.dg,.inr ⟨rfl,?_⟩,(uW hd.dg _).1,.inl ⟨rfl,rfl⟩,rfl⟩,.inr ht.h,?_,?_⟩
   ·intro e;rw [e,aZ] at F2;omega
   ·rw [aq,aq,az,sW,F2];omega
   ·rw [List.take_append_drop,sW,show Nr.zM []=0 from rfl,show ((x.toNat:Nat):Int)+0=x by omega]
  ·rw [aD c2]
   by_cases c3 : -5≤x∧x≤0
   ·rw [aH c3]
    have Ht:(fF (-x)++d).length=(-x).toNat+d.length:=by
     unfold fF;rw [aq,List.length_replicate]
    have RZ:(fF (-x)++d).all eo=true:=by rw [List.all_append,vA,hd.dg];rfl
    refine ⟨[48],fF (-x)++d,46 :: (fF (-x)++d),[],[],⟨by simp,by simp,by rfl,.inr ⟨rfl,?_⟩,RZ,.inl ⟨rfl,rfl⟩,rfl⟩,.inl rfl,?_,?_⟩
    ·intro e;rw [e,aZ] at Ht;omega
    ·rw [aq,Ht];show 2+_≤24;omega
    ·have hd1:([48]++(fF (-x)++d)).all eo=true:=by rw [List.all_append,RZ];rfl
     have T6:([48]++(fF (-x)++d)).length=1+((-x).toNat+d.length):=by rw [aq,Ht];rfl
     refine BL (j:=0) (tT hd1 (by omega) (by omega)) hv ?_ ?_
     ·rw [Nr.fj,Nr.fj]
      have:Nr.num (fF (-x))=0:=Nr.iS _
      rw [this,show Nr.num [48]=0 by decide];omega
     ·rw [T6,show Nr.zM []=0 from rfl,az];omega
   ·rw [aD c3]
    have ht:=rX hd (n:=1) (by omega) hn
    have sW:(d.take 1).length=1:=by rw [aK];omega
    have F2:(d.drop 1).length=d.length - 1:=bm ..
    have IJ:((if 1<d.length then 46 :: d.drop 1 else []:bT)=[]∧d.drop 1=[])∨((if 1<d.length then 46 :: d.drop 1 else []:bT)=46 :: d.drop 1∧d.drop 1≠[]):=by
     by_cases k:1<d.length
     ·right;rw [aH k];refine ⟨rfl,fun e=>?_⟩;rw [e,aZ] at F2;omega
     ·left;rw [aD k];exact ⟨rfl,List.length_eq_zero_iff.1 (by omega)⟩
    have MV:(if 1<d.length then 46 :: d.drop 1 else []:bT).length≤17:=by
     split
     ·rw [aP,F2];omega
     ·simp
    generalize hF:(if 1<d.length then 46 :: d.drop 1 else []:bT)=F at *
    by_cases c4:x<1
    ·rw [aH c4]
     obtain ⟨i1,i2,i3,i4⟩:=nx (v:=1 - x) (by omega)
     obtain ⟨e1,e2⟩:=Gi (v:=1 - x) (by omega)
     have il:=tL (v:=1 - x) (by omega) (by omega)
     refine ⟨d.take 1,d.drop 1,F,101 :: 45 :: Nr.itoa (1 - x),45 :: Nr.itoa (1 - x),⟨by simp,ht.n,ht.dg,IJ,(uW hd.dg _).1,.inr ⟨101,by decide,rfl,by rw [e2];exact i4⟩,by rw [e2];exact i2⟩,.inr ht.h,?_,?_⟩
     ·rw [aq,aq,sW,aq];show 1+F.length+(2+_)≤24;omega
     ·rw [List.take_append_drop,sW,e1,show ((1:Nat):Int) + -(1 - x)=x by omega]
    ·rw [aD c4]
     obtain ⟨i1,i2,i3,i4⟩:=nx (v:=x - 1) (by omega)
     obtain ⟨e1,e2⟩:=Gg (v:=x - 1) (by omega)
     have il:=tL (v:=x - 1) (by omega) (by omega)
     refine ⟨d.take 1,d.drop 1,F,101 :: 43 :: Nr.itoa (x - 1),43 :: Nr.itoa (x - 1),⟨by simp,ht.n,ht.dg,IJ,(uW hd.dg _).1,.inr ⟨101,by decide,rfl,by rw [e2];exact i4⟩,by rw [e2];exact i2⟩,.inr ht.h,?_,?_⟩
     ·rw [aq,aq,sW,aq];show 1+F.length+(2+_)≤24;omega
     ·rw [List.take_append_drop,sW,e1,show ((1:Nat):Int)+(x - 1)=x by omega]
theorem aal {t:bT} (h:eo (t.getD 0 0)=true):body t=t∧t.getD 0 0≠45:=by
 cases t with
 | nil=>exact absurd h (by decide)
 | cons c r =>
  have hc:eo c=true:=h
  have IK:=Nr.gg.1 hc
  have hn:c≠45:=fun e=>by subst e;exact absurd IK.1 (by decide)
  refine ⟨?_,hn⟩
  unfold body
  split
  ·rename_i heq;injection heq with h1 _;exact (hn h1).elim
  ·rfl
theorem aaf {d:bT} (hd:tm d) (hl:d.length≤17) {x:Int} (hx : -900≤x∧x≤900) {p:Nat} (hr:Nr.read d x=some p) (neg:Bool) :
  Nr.parse ((if neg then [45] else [])++laid d x)=(UInt64.ofNat (p+if neg then 9223372036854775808 else 0),0)∧Lv ((if neg then [45] else [])++laid d x)≠0∧((if neg then [45] else [])++laid d x).length≤25:=by
 obtain ⟨a,b,fr,ex,e,sh,h0,hlen,LS⟩:=A0 hd hl hx
 obtain ⟨b1,b2⟩:=aal (aad sh)
 rw [hr] at LS
 cases neg with
 | false =>
  have e0:((if false=true then [45] else []:bT)++laid d x)=laid d x:=rfl
  rw [e0]
  rw [←b1] at sh
  have hp:=ZQ sh h0 (by omega) LS
  rw [aD b2] at hp
  exact ⟨hp,ZN sh h0,by omega⟩
 | true =>
  have e0:((if true=true then [45] else []:bT)++laid d x)=45 :: laid d x:=rfl
  rw [e0]
  have b3:body (45 :: laid d x)=laid d x:=rfl
  rw [←b3] at sh
  have hp:=ZQ sh h0 (by rw [aP];omega) LS
  rw [aH (by rfl)] at hp
  exact ⟨hp,ZN sh h0,by rw [aP];omega⟩
end Sh
end Go.Eng
namespace Go.Eng
open Go.IntWalk
theorem Nu (x:UInt64) (h:x.toNat<4503599627370496):((4503599627370496:UInt64) ||| x)=UInt64.ofNat (4503599627370496+x.toNat):=by
 apply jj
 rw [UInt64.toNat_or,ji]
 have:=oi (a:=1) (k:=52) (b:=x.toNat) h
 show 4503599627370496 ||| x.toNat=_
 rw [show (4503599627370496:Nat)=1 * 2 ^ 52 by decide,this]
 have:(1:Nat) * 2 ^ 52=4503599627370496:=by decide
 omega
theorem dc.goal (b:UInt64):dc.F b=some [.i .i64 (Nr.split b).1,.b (Nr.split b).2.1,.u64 (Nr.split b).2.2.1,.i .i64 (Nr.split b).2.2.2]:=by
 refine dc.dZ _ ?_
 intro v1 h1 v2 h2 v3 h3 v4 h4 v5 h5 v6 h6 v7 h7 v8 h8
 have hb:=b.toNat_lt
 have hv4:v4.toNat=b.toNat / 9223372036854775808:=by rw [h4,gr];rfl
 have hv1:v1.toNat=b.toNat / 4503599627370496:=by rw [h1,gr];rfl
 have e2:v2=((b.toNat / 4503599627370496 % 2048:Nat):Int):=by rw [h2,Fg,hv1,i64_in _ (by omega)]
 have e3:v3.toNat=b.toNat % 4503599627370496:=by rw [h3,AU]
 have en:decide (v4=1)=decide (9223372036854775808≤b.toNat):=by
  by_cases c:9223372036854775808≤b.toNat
  ·rw [ae c,ae (jj (by rw [hv4];show _=1;omega))]
  ·rw [af c,af (fun h=>by have:=congrArg UInt64.toNat h;rw [hv4] at this;have e1:(1:UInt64).toNat=1:=rfl;omega)]
 have ef:decide (v3=0)=decide (b.toNat % 4503599627370496=0):=by
  by_cases c:b.toNat % 4503599627370496=0
  ·rw [ae c,ae (jj (by rw [e3];exact c))]
  ·rw [af c,af (fun h=>by have:=congrArg UInt64.toNat h;rw [e3] at this;exact c this)]
 have QN:v3=UInt64.ofNat (b.toNat % 4503599627370496):=jj (by rw [e3,ji];omega)
 have e7:v7=UInt64.ofNat (4503599627370496+b.toNat % 4503599627370496):=by rw [h7,Nu _ (by omega),e3]
 have e8:v8=((b.toNat / 4503599627370496 % 2048:Nat):Int) - 1075:=by rw [h8,e2,i64_in _ (by omega)]
 have lH:∀b:Bool,(!b || b)=true:=by decide
 rw [bD (lH _),bD (lH _),bD (lH _),bD (lH _),en]
 unfold Nr.split
 simp only
 rw [ef] at h5 h6
 generalize b.toNat / 4503599627370496 % 2048=x at *
 by_cases c1:x=2047
 ·rw [aH c1]
  have Gr:decide (v2=2047)=true:=ae (by omega)
  rw [Gr,aF] at h5
  rw [h5,Gr]
  by_cases c2:b.toNat % 4503599627370496=0
  ·rw [ae c2,aH c2];rfl
  ·rw [af c2,aD c2];rfl
 ·rw [aD c1]
  have Gr:decide (v2=2047)=false:=af (by omega)
  rw [Gr,ax] at h5
  rw [h5,Gr,ax,ax]
  by_cases c2:x=0
  ·have Gs:decide (v2=0)=true:=ae (by omega)
   rw [Gs,aF] at h6
   rw [h6,Gs,aH c2]
   by_cases c3:b.toNat % 4503599627370496=0
   ·rw [ae c3,aH c3];rfl
   ·rw [af c3,aD c3,QN];rfl
  ·have Gs:decide (v2=0)=false:=af (by omega)
   rw [Gs,ax] at h6
   rw [h6,Gs,aD c2,ax,ax,e7,e8]
theorem dL.goal (v:Int) (hp:Nr.i64 v=true):dL.F v=some [.s (Nr.itoa v)]:=by
 rw [dL.jq,hp];rfl
theorem wH (k:Nat) (h:k≤400):10 ^ k<2 ^ 1400:=by
 have hk:∀n:Nat,n=400→10 ^ k≤10 ^ n:=fun n hn=>Nat.pow_le_pow_right (by omega) (by omega)
 exact Nat.lt_of_le_of_lt (hk 400 rfl) (by decide +kernel)
theorem nq {a b i j k:Nat} (h1:a<2 ^ i) (h2:b<2 ^ j) (h:i+j≤k):a * b<2 ^ k:=by
 refine jt (i:=i+j) ?_ h
 rw [Nat.pow_add]
 exact Nat.mul_lt_mul'' h1 h2
theorem Jk {a:Nat} {k:Int} (ha:a<2 ^ 1100) (hk : -400≤k∧k≤400):Sh.tA a k<2 ^ 2500:=nq (i:=1100) (j:=1400) (k:=2500) ha (wH _ (by omega)) (by omega)
theorem Jj {a:Nat} {k:Int} (ha:a<2 ^ 1100) (hk : -400≤k∧k≤400):Sh.tB a k<2 ^ 2500:=nq (i:=1100) (j:=1400) (k:=2500) ha (wH _ (by omega)) (by omega)
theorem dD.goal (a b:List UInt16) (k:Int) (hp:(Nt.is a&&Nt.is b&&decide (-400≤k∧k≤400∧Nt.val a<2 ^ 1100∧Nt.val b<2 ^ 1100))=true):dD.F a b k=some [.sl .ws (Nt.of (Sh.tA (Nt.val a) k)),.sl .ws (Nt.of (Sh.tB (Nt.val b) k))]:=by
 rw [aa,aa] at hp
 obtain ⟨⟨ha,hb⟩,hp⟩:=hp
 obtain ⟨k1,k2,k3,k4⟩:=aN hp
 refine dD.dZ _ _ _ ?_
 intro v1 h1 v2 h2 v3 h3 v4 h4
 by_cases c:0≤k
 ·have h1:v1=Nt.of (10 ^ k.toNat):=h1
  have e:=wH k.toNat (by omega)
  have VR:Nt.is v1=true:=by rw [h1];exact gX (i:=1400) e (by omega)
  rw [ae c,aF,bD (ae ⟨by omega,by omega,c,by omega,jt (i:=1400) (k:=4096) e (by omega)⟩),ha,VR]
  refine (bD (by rfl)).trans ?_
  rw [h2,h1,Nt.eG]
  unfold Sh.tA Sh.tB
  rw [show (-k).toNat=0 by omega,Nat.pow_zero,Nat.mul_one,Nt.iM (Nt.iU hb)]
 ·have ew:IntKind.i64.wrap (0 - k)=-k:=by rw [i64_in _ (by omega)];omega
  rw [ew] at h3
  have h3:v3=Nt.of (10 ^ (-k).toNat):=h3
  have e:=wH (-k).toNat (by omega)
  have VQ:Nt.is v3=true:=by rw [h3];exact gX (i:=1400) e (by omega)
  rw [af c,ax,ew,bD (ae ⟨by omega,by omega,by omega,by omega,jt (i:=1400) (k:=4096) e (by omega)⟩),hb,VQ]
  refine (bD (by rfl)).trans ?_
  rw [h4,h3,Nt.eG]
  unfold Sh.tA Sh.tB
  rw [show k.toNat=0 by omega,Nat.pow_zero,Nat.mul_one,Nt.iM (Nt.iU ha)]
theorem dm.goal (a b:List UInt16) (x:Int) (hp:(Nt.is a&&Nt.is b&&decide (-400≤x∧x≤400∧Nt.val a<2 ^ 1100∧Nt.val b<2 ^ 1100))=true):dm.F a b x=some [.b (decide (Sh.tB (Nt.val b) (-x)≤Sh.tA (Nt.val a) (-x)))]:=by
 have T1:=hp
 rw [aa,aa] at hp
 obtain ⟨⟨ha,hb⟩,hp⟩:=hp
 obtain ⟨k1,k2,k3,k4⟩:=aN hp
 refine dm.dZ _ _ _ ?_
 intro v1 h1 v2 h2 v3 h3
 have ew:IntKind.i64.wrap (0 - x)=-x:=by rw [i64_in _ (by omega)];omega
 rw [ew] at h1 h2 ⊢
 have i1:Nt.is v1=true:=by rw [h1];exact gX (i:=2500) (Jk k3 (by omega)) (by omega)
 have i2:Nt.is v2=true:=by rw [h2];exact gX (i:=2500) (Jj k4 (by omega)) (by omega)
 rw [ha,hb,ae (⟨by omega,by omega,k3,k4⟩ : -400≤-x∧-x≤400∧Nt.val a<2 ^ 1100∧Nt.val b<2 ^ 1100),i1,i2]
 refine (bD (by rfl)).trans ((bD (by rfl)).trans ?_)
 rw [h3,h1,h2,Nt.eG,Nt.eG]
 rcases ln (Sh.tA (Nt.val a) (-x)) (Sh.tB (Nt.val b) (-x)) with ⟨k,l⟩ | ⟨k,l⟩ | ⟨k,l⟩
 ·rw [k,af (by omega),af (by omega)]
 ·rw [k,ae (by omega),ae (by omega)]
 ·rw [k,ae (by omega),ae (by omega)]
theorem KB:(10:Nat) ^ 200<2 ^ 665:=by decide +kernel
theorem dj.goal (b:UInt64) (a:List UInt16) (p:Int) (hp:(Nt.is a&&decide (-1000≤p∧p≤1000∧0<Nt.val a∧Nt.val a<10 ^ 200))=true):dj.F b a p=some [.s ((Sh.iX b.toNat (Nt.val a) p).getD ([],0)).1,.i .i64 ((Sh.iX b.toNat (Nt.val a) p).getD ([],0)).2,.b (Sh.iX b.toNat (Nt.val a) p).isSome]:=by
 rw [aa] at hp
 obtain ⟨ha,hp⟩:=hp
 obtain ⟨k1,k2,k3,k4⟩:=aN hp
 refine dj.dZ _ _ _ ?_
 intro v1 h1 v2 h2 v3 h3 v4 h4 v5 h5
 rw [Sh.vD] at h1 h2 ⊢
 rw [Sh.vM]
 have hl:=Nr.nG 200 (Nt.val a) k4 (by omega)
 rw [Nr.yf] at h2
 have e1:IntKind.i64.wrap (v1+p)=(Nr.dec (Nt.val a)).length+p:=by rw [h1,i64_in _ (by omega)]
 rw [e1,h2,Sh.vN k3 (by omega)] at h3 h4
 have lH:∀b:Bool,(!(!b) || ((!b)&&(!b)))=true∧(b || !b)=true:=by decide
 have PN:∀b:Bool,(!(!(!b)) || ((!(!b))&&(!(!b))))=true∧((!b) || (!(!b)))=true:=by decide
 rw [ha,da,ae (show (Nr.dec (Nt.val a)).length≤1099511627776∧([48]:bT).length≤100 from ⟨by omega,by decide⟩)]
 refine (bD (by rfl)).trans ?_
 rw [bD (PN _).1,bD (PN _).2,e1]
 cases hq:Nr.rd (Nt.val a) p with
 | none =>
  rw [hq] at h4
  have e4:v4=false:=h4
  rw [e4] at h5
  have e5:v5=true:=h5
  rw [e5,Sh.j8 (by rw [hq];simp)];rfl
 | some q =>
  have hle:q≤9218868437227405311:=by
   unfold Nr.rd at hq
   exact Nr.Ib hq
  rw [hq] at h3 h4
  have e4:v4=true:=h4
  have e3:v3=UInt64.ofNat q:=h3
  have QN:v3.toNat=q:=by rw [e3,ji];omega
  rw [e4,a8,ax] at h5
  by_cases c:q=b.toNat
  ·have e5:v5=false:=by rw [h5,ae (jj (by rw [QN,c]))];rfl
   rw [e5,Sh.iL (by rw [hq,c]),h2];rfl
  ·have e5:v5=true:=by rw [h5,af (fun e=>c (by rw [←QN,e]))];rfl
   rw [e5,Sh.j8 (by rw [hq];simp [c])];rfl
end Go.Eng
namespace Go.Eng
open Go.IntWalk
theorem BZ {d:List UInt16} {n:Nat} (hv:Nt.val d=n) (hl:d=[]∨65536 ^ (d.length - 1)≤n):d=Nt.of n:=by
 rw [←hv,Nt.iM]
 rcases hl with h | h
 ·rw [h];rfl
 ·by_cases h0:d=[]
  ·rw [h0];rfl
  ·have JZ:=List.length_pos_iff.2 h0
   rw [mR h0]
   simp only [Bool.not_eq_true',decide_eq_false_iff_not]
   intro e0
   have Hw:=dy d (d.length - 1) (by omega)
   rw [show d.length - 1+1=d.length by omega,List.take_length,e0] at Hw
   have eO:=Nt.gB (d.take (d.length - 1))
   rw [aK,Nat.min_eq_left (by omega)] at eO
   have P7:(0:UInt16).toNat=0:=rfl
   rw [P7,Nat.mul_zero] at Hw
   omega
theorem Kv {a:List UInt16} (hn:Nt.norm a=true) (h0:a≠[]):65536 ^ (a.length - 1)≤Nt.val a:=by
 obtain ⟨h1,h2⟩:=mQ hn h0
 have:65536 ^ (a.length - 1) * 1≤65536 ^ (a.length - 1) * (a.getD (a.length - 1) 0).toNat:=Nat.mul_le_mul_left _ h1
 omega
theorem bY.lF (a b:List UInt16) (ha:a.length≤1000000) (DM:b.length≤a.length) (hn:Nt.norm a=true):∀(m i:Nat) (d:List UInt16) (k:Nat),i+m=a.length→d.length=i→k≤1→Nt.val d+65536 ^ i * k=Nt.val (a.take i)+Nt.val (b.take i) →
  bY.l2 b k a.length i (d++a.drop i)=some [.sl .ws (Nt.of (Nt.val a+Nt.val b))]:=by
 intro m
 induction m with
 | zero =>
  intro i d k hi hl hk hv
  have hi:i=a.length:=hi
  subst hi
  refine bY.jw _ _ _ _ _ ?_
  intro v1 h1 v2 h2 v3 h3 v4 h4 v5 h5 v6 h6
  rw [List.take_of_length_le (Nat.le_refl _),List.take_of_length_le DM] at hv
  rw [af (by omega),ax,List.drop_length,aU]
  by_cases c0:k=0
  ·subst c0
   rw [Nat.mul_zero,Nat.add_zero] at hv
   have:d=Nt.of (Nt.val a+Nt.val b):=BZ hv (by
    by_cases h0:a=[]
    ·left;rw [h0] at hl;exact List.length_eq_zero_iff.1 hl
    ·right;rw [hl];have:=Kv hn h0;omega)
   rw [af (by omega),ax,bY.JJ,←this]
  ·have eE:k=1:=by omega
   subst eE
   have e6:v6=[(1:UInt16)]:=h6
   rw [ae (by omega),aF,e6,bD (gZ (by rw [az];omega) (by rw [az];omega)),bY.JJ]
   have hv2:Nt.val (d++[1])=Nt.val a+Nt.val b:=by
    rw [Nt.fx,hl,←hv];rfl
   have:d++[1]=Nt.of (Nt.val a+Nt.val b):=BZ hv2 (.inr (by
    rw [aq,az,Nat.add_sub_cancel,hl];omega))
   rw [this]
 | succ m ih =>
  intro i d k hi hl hk hv
  refine bY.jw _ _ _ _ _ ?_
  intro v1 h1 v2 h2 v3 h3 v4 h4 v5 h5 v6 h6
  rw [aw] at h1 h3
  have Ua:a.drop i=a.getD i 0 :: a.drop (i+1):=drop_cons (by omega) 0
  have hL:(d++a.drop i).length=a.length:=by rw [aq,bm];omega
  have e1:v1=a.getD i 0:=by
   rw [h1,ak,aJ (by omega),hl,Nat.sub_self,Ua];rfl
  have hd:=v1.toNat_lt
  have hd3:=v3.toNat_lt
  rw [i64_in _ (by omega)] at h2 h4
  have hx:cq (i:Int) (d++a.drop i).length=true:=cN (by omega) (by omega)
  have Hv:decide ((i:Int).toNat<(d++a.drop i).length)=true:=ae (by omega)
  have qL:∀y:UInt16,(d++a.drop i).set i y=(d++[y])++a.drop (i+1):=fun y=>by
   rw [List.set_append_right _ _ (by omega),hl,Nat.sub_self,Ua,aQ];rfl
  have next:∀q:Nat,q≤131071→q=k+v1.toNat+(if i<b.length then (b.getD i 0).toNat else 0)→bY.j3 b q i a.length i (d++a.drop i)=some [.sl .ws (Nt.of (Nt.val a+Nt.val b))]:=by
   intro q T0 hq
   refine bY.FA _ _ _ _ _ _ ?_
   intro w1 g1 w2 g2 w3 g3
   rw [aw,nY,qL] at g1
   have e2:w2=((q / 65536:Nat):Int):=by rw [g2];exact xy q
   have e3:w3=((i+1:Nat):Int):=by rw [g3,i64_in _ (by omega)];omega
   rw [hx,Hv,da,da,g1,e2,e3]
   refine ih (i+1) _ _ (by omega) (by rw [aq,hl];rfl) (by omega) ?_
   have hb:Nt.val (b.take (i+1))=Nt.val (b.take i)+65536 ^ i * (if i<b.length then (b.getD i 0).toNat else 0):=by
    by_cases c:i<b.length
    ·rw [aH c,dy b i c]
    ·rw [aD c,List.take_of_length_le (by omega),List.take_of_length_le (by omega)];omega
   rw [hb,dy a i (by omega),←e1,Nt.fx,hl]
   simp only [Nt.val,Nat.mul_zero,Nat.add_zero,Nt.dB]
   rw [Nat.pow_succ,Nat.mul_assoc,Nat.add_assoc,←Nat.mul_add]
   have:q % 65536+65536 * (q / 65536)=q:=Nat.mod_add_div q 65536
   rw [this,hq,Nat.mul_add,Nat.mul_add]
   omega
  rw [ae (by omega),aF,hx,Hv,da,da]
  by_cases c:i<b.length
  ·have e5:v5=((k+v1.toNat+v3.toNat:Nat):Int):=by
    rw [h5,h2,h4,i64_in ((k:Int)+v1.toNat) (by omega),i64_in _ (by omega)];omega
   rw [ae (by omega),aF,bD (cN (by omega) (by omega)),e5]
   exact next _ (by omega) (by rw [aH c,h3])
  ·have e5:IntKind.i64.wrap ((k:Int)+v2)=((k+v1.toNat:Nat):Int):=by rw [h2,i64_in _ (by omega)];omega
   rw [af (by omega),ax,e5]
   exact next _ (by omega) (by rw [aD c,Nat.add_zero])
theorem bY.goal (a b:List UInt16) (hp:(Nt.is a&&Nt.is b)=true):bY.F a b=some [.sl .ws (Nt.of (Nt.val a+Nt.val b))]:=by
 rw [aa] at hp
 obtain ⟨ha,hb⟩:=hp
 have la:=Nt.iY ha
 have lb:=Nt.iY hb
 refine bY.dZ _ _ ?_
 intro v1 h1
 have e1:v1=false:=by rw [h1,ha,hb];rfl
 have key:∀a b:List UInt16,Nt.is a=true→Nt.is b=true→b.length≤a.length→bY.j1 a b=some [.sl .ws (Nt.of (Nt.val a+Nt.val b))]∧True:=fun a b ha hb h=>⟨by
  have la:=Nt.iY ha
  have:=bY.lF a b (by omega) h (Nt.iU ha) a.length 0 [] 0 (by omega) rfl (by omega) (by simp [Nt.val])
  rw [aS,bj] at this
  rw [bY.FB]
  first
  | (rw [bD (gZ (by omega) (by omega))];exact this)
  ,trivial⟩
 rw [bD (ae (by omega)),ha,bD (by rw [ae (show b.length≤1099511627776 by omega)];rfl),bD (by rfl),bD (by rfl),e1,ax]
 by_cases c:(a.length:Int)<b.length
 ·rw [ae c,aF]
  first
  | exact ((key b a hb ha (by omega)).1).trans (by rw [Nat.add_comm])
  | exact (key a b ha hb (by omega)).1
 ·rw [af c,ax]
  first
  | exact (key a b ha hb (by omega)).1
  | exact ((key b a hb ha (by omega)).1).trans (by rw [Nat.add_comm])
theorem Gx {n:Nat} (h:10000≤n):Nr.dec n=Nr.dec (n / 10000)++(Sh.fF (4 - ((Nr.dec (n % 10000)).length:Int))++Nr.dec (n % 10000)):=by
 obtain ⟨q1,q2,q3,q4⟩:=Nr.oU (n / 10000)
 obtain ⟨r1,r2,r3,r4⟩:=Nr.oU (n % 10000)
 have rl:=Nr.nG 4 (n % 10000) (by show n % 10000<10000;omega) (by omega)
 have hz:=Sh.vA (4 - ((Nr.dec (n % 10000)).length:Int))
 have Ht:(Sh.fF (4 - ((Nr.dec (n % 10000)).length:Int))++Nr.dec (n % 10000)).length=4:=by
  unfold Sh.fF;rw [aq,List.length_replicate];omega
 have VW:Nr.num (Sh.fF (4 - ((Nr.dec (n % 10000)).length:Int)))=0:=Nr.iS _
 have Ss:Nr.num (Nr.dec (n / 10000)++(Sh.fF (4 - ((Nr.dec (n % 10000)).length:Int))++Nr.dec (n % 10000)))=n:=by
  rw [Nr.fj,Ht,Nr.fj,VW,q2,r2,Nat.zero_mul,Nat.zero_add]
  show n / 10000 * 10000+_=n
  omega
 have hu:=Nr.lI _ (Nr.dec (n / 10000)++(Sh.fF (4 - ((Nr.dec (n % 10000)).length:Int))++Nr.dec (n % 10000))) rfl (by rw [List.all_append,List.all_append,q1,hz,r1];rfl) (by simp [q3]) (by
  rw [ak,List.getElem?_append_left (List.length_pos_iff.2 q3),←ak];exact q4 (by omega))
 rw [Ss] at hu
 exact hu.symm
theorem E3 {n K:Nat} (h:n<10000 ^ K):(Nt.of n).length≤K:=(Nt.jv n K).2 (Nat.lt_of_lt_of_le h (Nat.pow_le_pow_left (by omega) K))
theorem cm.fo:∀(K n:Nat) (ps:List bT),n<10000 ^ K→(n=0→ps≠[])→ps.length+K≤5000→(ps.map List.length).sum≤4 * ps.length →
  cm.l1 (Nt.of n) ps=some [.s ((if n=0 then [] else Nr.dec n)++ps.reverse.flatten)]:=by
 intro K
 induction K with
 | zero =>
  intro n ps hn h0 hl hs
  have QC:n=0:=by rw [Nat.pow_zero] at hn;omega
  exact fin n ps QC (h0 QC) (by omega) hs
 | succ K ih =>
  intro n ps hn h0 hl hs
  by_cases c:n=0
  ·exact fin n ps c (h0 c) (by omega) hs
  ·refine cm.dE _ _ ?_
   intro v1 h1 v2 h2 v3 h3 v4 h4 v5 h5 v6 h6
   rw [Nt.eG] at h1 h2
   have h1:v1=Nt.of (n / 10000):=h1
   have e2:v2.toNat=n % 10000:=by
    rw [h2,Nt.dB];show n % 10000 % 65536=_;omega
   have e3:v3=((n % 10000:Nat):Int):=by rw [h3,e2,i64_in _ (by omega)]
   have ei:Nr.itoa v3=Nr.dec (n % 10000):=by rw [(Sh.nx (by omega)).1,e3,aw]
   have i3:Nr.i64 v3=true:=ae (by omega)
   have rl:=Nr.nG 4 (n % 10000) (by show n % 10000<10000;omega) (by omega)
   have e5:v5=4 - ((Nr.dec (n % 10000)).length:Int):=by rw [h5,h4,ei,i64_in _ (by omega)]
   have hL:=E3 hn
   have nO:0<(Nt.of n).length:=by rw [Nt.lC (by omega)];simp
   have hq:n / 10000<10000 ^ K:=by
    rw [Nat.div_lt_iff_lt_mul (by omega),←Nat.pow_succ];exact hn
   have kQ:((10000:UInt16)≠0):=by decide
   rw [ae (show (0:Int)<((Nt.of n).length:Int) by omega),aF,bD (ae ⟨by omega,kQ⟩),i3,da,h1]
   by_cases c1:n / 10000=0
   ·rw [c1,Nt.gJ]
    rw [af (by simp),ax,cm.ow,bD (gZ (by rw [az];omega) (by rw [az];omega)),ei]
    have:=ih 0 (ps++[Nr.dec (n % 10000)]) (by exact Nat.pow_pos (by omega)) (fun _=>by simp) (by rw [aq,az];omega) (by
     rw [List.map_append,List.sum_append,aq,az]
     simp only [ah,ao,List.sum_cons,List.sum_nil];omega)
    rw [Nt.gJ] at this
    rw [this,aH rfl,aD c,List.reverse_append,List.reverse_singleton,List.singleton_append,List.flatten_cons,show n % 10000=n by omega];rfl
   ·have JW:0<(Nt.of (n / 10000)).length:=by rw [Nt.lC (by omega)];simp
    have Ht:(Sh.fF v5).length≤4:=by unfold Sh.fF;rw [List.length_replicate];omega
    have e6:v6.length=4:=by
     rw [h6,ei,e5];unfold Sh.fF;rw [aq,List.length_replicate];omega
    rw [ae (by omega),aF,bD (ae ⟨rfl,by omega,by omega⟩),bD (ae (by rw [ei];omega)),cm.ow,bD (gZ (by rw [az];omega) (by rw [az];omega))]
    rw [ih (n / 10000) (ps++[v6]) hq (fun h=>(c1 h).elim) (by rw [aq,az];omega) (by
     rw [List.map_append,List.sum_append,aq,az]
     simp only [ah,ao,List.sum_cons,List.sum_nil];omega)]
    rw [aD c1,aD c,List.reverse_append,List.reverse_singleton,List.singleton_append,List.flatten_cons,Gx (show 10000≤n by omega),h6,ei,e5]
    simp only [aQ]
where
 fin (n:Nat) (ps:List bT) (h:n=0) (h0:ps≠[]) (hl:ps.length≤5000) (hs:(ps.map List.length).sum≤4 * ps.length):cm.l1 (Nt.of n) ps=some [.s ((if n=0 then [] else Nr.dec n)++ps.reverse.flatten)]:=by
  subst h
  rw [Nt.gJ]
  refine cm.dE _ _ ?_
  intro v1 h1 v2 h2 v3 h3 v4 h4 v5 h5 v6 h6
  have he:ps.isEmpty=false:=by cases ps <;> simp at h0 ⊢
  have hf:ps.reverse.flatten.length≤20000:=by
   rw [List.length_flatten,List.map_reverse,List.sum_reverse];omega
  rw [af (by simp),ax,he,ae (show ps.length≤100000 by omega)]
  refine (bD (by rfl)).trans ?_
  rw [bD (ae ⟨rfl,by rw [List.length_reverse];omega,by omega⟩),aH rfl];rfl
theorem HE:(2:Nat) ^ 4096≤10000 ^ 2000:=by decide +kernel
theorem cm.goal (a:List UInt16) (hp:Nt.is a=true):cm.F a=some [.s (Sh.pX (Nt.val a))]:=by
 have hl:=Nt.iY hp
 rw [cm.jq,bD (ae (by omega)),hp,Sh.vD]
 refine Eq.trans (b:=_) (ax _ _) ?_
 by_cases c:a=[]
 ·subst c
  show _=some [TV.s (Nr.dec 0)]
  rw [Nr.mV (by omega)];rfl
 ·have h0:=List.length_pos_iff.2 c
  have nO:=Nt.qG (Nt.iU hp) c
  rw [af (by omega),ax]
  have:=cm.fo 2000 (Nt.val a) [] (Nat.lt_of_lt_of_le (Nt.is_lt hp) HE) (fun h=>by omega) (by simp) (by simp)
  rw [Nt.iM (Nt.iU hp),aD (by omega)] at this
  rw [this];simp
end Go.Eng
namespace Go.Eng
open Go.IntWalk
open Nr (V iD sh top gf rd)
theorem DU (N:Nat):(UInt16.ofNat N % 2=0) ↔ N % 2=0:=by
 constructor
 ·intro h
  have:=congrArg UInt16.toNat h
  rw [UInt16.toNat_mod,Nt.dB] at this
  have e:N % 65536 % 2=0:=this
  omega
 ·intro h
  apply UInt16.toNat_inj.1
  rw [UInt16.toNat_mod,Nt.dB]
  show N % 65536 % 2=0
  omega
theorem Ji:(10:Nat) ^ 17<10 ^ 200:=by decide +kernel
theorem dM.goal (b:UInt64) (p q:List UInt16) (x n:Int) (hp:(Nt.is p&&Nt.is q&&Sh.ng (Nt.val p) (Nt.val q) x n)=true):dM.F b p q x n=some [.s ((Sh.mJ b.toNat (Nt.val p) (Nt.val q) x n).getD ([],0)).1,.i .i64 ((Sh.mJ b.toNat (Nt.val p) (Nt.val q) x n).getD ([],0)).2,.b (Sh.mJ b.toNat (Nt.val p) (Nt.val q) x n).isSome]:=by
 rw [aa,aa] at hp
 obtain ⟨⟨ha,hb⟩,hp⟩:=hp
 unfold Sh.ng at hp
 obtain ⟨n1,n2,x1,x2,a0,a1,b0,b1,r1,r2⟩:=aN hp
 rw [Sh.ud]
 refine dM.dZ _ _ _ _ _ ?_
 intro v1 h1 v2 h2 v3 h3 v4 h4 v5 h5 v6 h6 v7 h7 v8 h8 v9 h9 v10 kQ v11 mY v12 lO pL Ak mD zm mE A9 Ag Mg Hn Ka Hm M3 DS M1
 have ew:IntKind.i64.wrap (n - x)=n - x:=i64_in _ (by omega)
 have Xg:IntKind.i64.wrap (x - n)=x - n:=i64_in _ (by omega)
 have hP:=Jk (k:=n - x) a1 (by omega)
 have hQ:=Jj (k:=n - x) b1 (by omega)
 have S7:0<Sh.tB (Nt.val q) (n - x):=Sh.pY b0 _
 rw [ew] at h1 h2 ⊢
 rw [Xg] at h5 h6 h7 kQ mY lO ⊢
 unfold Sh.some_
 simp only
 generalize Md:Sh.tA (Nt.val p) (n - x)=P at *
 generalize Y7:Sh.tB (Nt.val q) (n - x)=Q at *
 have w1:Nt.val v1=P:=by rw [h1,Nt.eG]
 have w2:Nt.val v2=Q:=by rw [h2,Nt.eG]
 rw [w1,w2] at h3 h4
 have w3:Nt.val v3=P / Q:=by rw [h3,Nt.eG]
 have w4:Nt.val v4=P % Q:=by rw [h4,Nt.eG]
 have w8:Nt.val v8=1:=by rw [h8,Nt.eG];rfl
 rw [w3,w8] at h9
 have w9:Nt.val v9=P / Q+1:=by rw [h9,Nt.eG]
 rw [w3] at h5 h6 h7 ⊢
 rw [w9] at kQ mY lO ⊢
 rw [w4] at Ak
 have Vu:Nt.val pL=P % Q * 2:=by rw [Ak,Nt.eG];rfl
 rw [Vu,w2] at zm
 have N1:1≤P / Q:=(Nat.le_div_iff_mul_le S7).2 (by omega)
 have N2:P / Q<10 ^ 17:=(Nat.div_lt_iff_lt_mul S7).2 r2
 have N3:P / Q<2 ^ 2500:=Nat.lt_of_le_of_lt (Nat.div_le_self _ _) hP
 have N4:P / Q+1<10 ^ 200:=Nat.lt_of_le_of_lt (Nat.succ_le_of_lt N2) Ji
 have R1:P % Q<2 ^ 2500:=Nat.lt_trans (Nat.mod_lt _ S7) hQ
 have i1:Nt.is v1=true:=by rw [h1];exact gX (i:=2500) hP (by omega)
 have i2:Nt.is v2=true:=by rw [h2];exact gX (i:=2500) hQ (by omega)
 have i3:Nt.is v3=true:=by rw [h3];exact gX (i:=2500) N3 (by omega)
 have i4:Nt.is v4=true:=by rw [h4];exact gX (i:=2500) R1 (by omega)
 have i8:Nt.is v8=true:=by rw [h8];exact gX (i:=1) (by decide) (by omega)
 have i9:Nt.is v9=true:=by rw [h9];exact gX (i:=665) (Nat.lt_trans N4 KB) (by omega)
 have i13:Nt.is pL=true:=by
  rw [Ak]
  exact gX (i:=2502) (nq (i:=2500) (j:=2) (k:=2502) R1 (by decide) (by omega)) (by omega)
 have VE:v2≠[]:=by intro e;rw [e] at w2;simp [Nt.val] at w2;omega
 have VD:v3≠[]:=by intro e;rw [e] at w3;simp [Nt.val] at w3;omega
 have l3:=List.length_pos_iff.2 VD
 have Tk:Hn=UInt16.ofNat (P / Q):=by rw [Ka,h3,Nt.lC (by omega)];rfl
 have c1:(decide (-400≤n - x∧n - x≤400∧Nt.val p<2 ^ 1100∧Nt.val q<2 ^ 1100))=true:=ae ⟨by omega,by omega,a1,b1⟩
 have c3:(decide (-1000≤x - n∧x - n≤1000∧0<P / Q∧P / Q<10 ^ 200))=true:=ae ⟨by omega,by omega,by omega,Nat.lt_trans N2 Ji⟩
 have c9:(decide (-1000≤x - n∧x - n≤1000∧0<P / Q+1∧P / Q+1<10 ^ 200))=true:=ae ⟨by omega,by omega,by omega,N4⟩
 have hx:cq (0:Int) v3.length=true:=cN (by omega) (by omega)
 rw [ha,hb,c1,i1,i2,ae VE,i3,c3,i8,i9,c9,i4,i13,hx]
 refine (bD (by rfl)).trans ((bD (by rfl)).trans ((bD (by rfl)).trans ((bD (by rfl)).trans ((bD (by rfl)).trans ((bD (by rfl)).trans ((bD (by rfl)).trans ?_))))))
 have Tj:Hm=decide (P % Q * 2=Q∧P / Q % 2=0):=by
  have e0:decide (UInt16.ofNat (P / Q) % 2=0)=decide (P / Q % 2=0):=bA.2 (DU _)
  rw [M3,Tk,e0,zm]
  rcases ln (P % Q * 2) Q with ⟨k,l⟩ | ⟨k,l⟩ | ⟨k,l⟩
  ·rw [k,af (by decide),ax,af (by omega)]
  ·rw [k,ae (by decide),aF,bA];omega
  ·rw [k,af (by decide),ax,af (by omega)]
 have Mo:decide (mD<0)=decide (P % Q * 2<Q):=by
  rw [zm,bA]
  rcases ln (P % Q * 2) Q with ⟨k,l⟩ | ⟨k,l⟩ | ⟨k,l⟩ <;> rw [k] <;> omega
 rw [Mo] at A9
 have hB:∀v7 v12 mE c:Bool,(!v7 || v7)=true∧(!(v7&&(!(!v12))) || (v7&&(!(!v12))))=true∧(!v7 || (v7&&((!v12) || (v7&&(!(!v12))))))=true∧(!(v7&&(!mE)) || (v7&&(!mE)))=true∧(!((v7&&(!mE))&&c) || (((v7&&(!mE))&&c)&&true))=true∧(!((v7&&(!mE))&&c) || ((v7&&(!mE))&&c))=true ∧
   (!(v7&&(!mE)) || ((v7&&(!mE))&&(!c || ((v7&&(!mE))&&c))))=true∧(!v7 || (v7&&(mE || (v7&&(!mE)))))=true:=by decide
 obtain ⟨t1,t2,t3,t4,t5,t6,t7,t8⟩:=hB v7 v12 mE (decide (mD=0))
 rw [←Mg] at t5 t6 t7
 have hz:(!decide ((2:UInt16)=0))=true:=rfl
 rw [hz,bD t1,bD t1,bD t2,bD t3,bD t1,bD t4,bD t4,bD t5,bD t6,bD t5,bD t6,bD t7,bD t8,bD t1]
 rw [Sh.vM] at h5 h6 h7 kQ mY lO
 generalize Sh.reads b.toNat (P / Q) (x - n)=u at *
 generalize Sh.reads b.toNat (P / Q+1) (x - n)=o at *
 have P5:DS=decide (u.isSome=true∧(o.isSome=false∨2 * (P % Q)<Q∨(2 * (P % Q)=Q∧P / Q % 2=0))):=by
  rw [M1,A9,Tj,h7,lO]
  have q1:decide (P % Q * 2<Q)=decide (2 * (P % Q)<Q):=bA.2 (by omega)
  have q2:decide (P % Q * 2=Q∧P / Q % 2=0)=decide (2 * (P % Q)=Q∧P / Q % 2=0):=bA.2 (by omega)
  rw [q1,q2]
  by_cases k1:2 * (P % Q)<Q <;> by_cases k2:(2 * (P % Q)=Q∧P / Q % 2=0) <;> cases u.isSome <;> cases o.isSome <;> simp [k1,k2]
 by_cases hc:u.isSome=true∧(o.isSome=false∨2 * (P % Q)<Q∨(2 * (P % Q)=Q∧P / Q % 2=0))
 ·rw [P5,ae hc,aF,aH hc,h5,h6,hc.1]
 ·rw [P5,af hc,ax,aD hc,kQ,mY,lO]
theorem Ha (b:UInt64):(b &&& ~~~(9223372036854775808:UInt64)).toNat=Sh.iE b:=by
 have e:(~~~(9223372036854775808:UInt64))=9223372036854775807:=by decide
 rw [e,UInt64.toNat_and]
 exact Nat.and_two_pow_sub_one_eq_mod b.toNat 63
theorem pr {b:UInt64} (h:(Nr.split b).1=2):0<Sh.iE b∧Sh.iE b≤top∧(Nr.split b).2.2.1.toNat=iD (Sh.iE b)∧(Nr.split b).2.2.2=(sh (Sh.iE b):Int) - 1074:=by
 have hb:=b.toNat_lt
 have hx:b.toNat / 4503599627370496 % 2048=Sh.iE b / 4503599627370496:=by unfold Sh.iE;omega
 have hf:b.toNat % 4503599627370496=Sh.iE b % 4503599627370496:=by unfold Sh.iE;omega
 have hm:Sh.iE b<9223372036854775808:=Nat.mod_lt _ (by omega)
 unfold Nr.split at h ⊢
 simp only [hx,hf] at h ⊢
 generalize Sh.iE b=p at *
 unfold iD sh top
 by_cases c1:p / 4503599627370496=2047
 ·rw [aH c1] at h
  by_cases c2:p % 4503599627370496=0
  ·rw [aH c2] at h;simp at h
  ·rw [aD c2] at h;simp at h
 ·rw [aD c1] at h ⊢
  by_cases c2:p / 4503599627370496=0
  ·rw [aH c2] at h ⊢
   by_cases c3:p % 4503599627370496=0
   ·rw [aH c3] at h;simp at h
   ·rw [aD c3,aH (show p<4503599627370496 by omega)]
    refine ⟨by omega,by omega,?_,?_⟩
    ·show (UInt64.ofNat _).toNat=_;rw [ji];omega
    ·show (-1074:Int)=_;omega
  ·rw [aD c2,aD (show ¬p<4503599627370496 by omega)]
   refine ⟨by omega,by omega,?_,?_⟩
   ·show (UInt64.ofNat _).toNat=_;rw [ji];omega
   ·show ((p / 4503599627370496:Nat):Int) - 1075=_;omega
def xr (i:Nat):Bool :=
 let k:Int:=(i:Int) - 1100
 let x:=Int.tdiv (k * 30103) 100000 - 2
 decide (10 ^ (x - 1).toNat * 2 ^ (-(k - 1)).toNat≤2 ^ (k - 1).toNat * 10 ^ (-(x - 1)).toNat)&&decide (-390≤x)
theorem Dk:∀i,i<2201→xr i=true:=by
 have h:(List.range 2201).all xr=true:=by decide +kernel
 intro i hi
 exact aL.1 h i (List.mem_range.2 hi)
end Go.Eng
