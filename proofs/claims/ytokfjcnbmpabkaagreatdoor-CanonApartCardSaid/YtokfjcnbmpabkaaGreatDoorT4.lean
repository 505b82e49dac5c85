/- Texts of my own, one behind the other: CnP2, CnV, CnJ, CnShelf, CnFmt, CnDec, CnHand, CnLib, CnQ1, CnQ2, CnQ3, CnN1, CnP3, CnP4, CnP5, CnP6, CnP7, CnP8, CnP9, CnP10, CnP11, CnP12, CnP13, CnP14, CnP15, CnP16, CnN2, CnN3, CnN4, CnE1, CnE2, CnR1, CnM1. -/
import Derived.Test.YtokfjcnbmpabkaaGreatDoorT3
import Derived.Ground.Names7Prog
import Derived.Shelf.Strings.SlTrimAscii
import Derived.Shelf.Strings.Search1
import Derived.Shelf.Strings.Search2
import Derived.Shelf.Spec.TrailingZeros
import Derived.Shelf.Strings.OnBuilder
import Derived.Shelf.Strings.Repeat
import Derived.Shelf.LaysM
import Derived.Shelf.Strconv.Itoa3
import Derived.Shelf.Strconv.Itoa4
import Derived.Test.YtokfjcnbmpabkaaGreatDoorProg
import Derived.Shelf.Strconv.Itoa1
import Derived.Shelf.Strconv.Itoa2
import Derived.Lib.Walk
import Derived.Lib.ItoaMem
import Derived.WalkKit
import Derived.WalkSpells
import Derived.BigCall
import Derived.BigGuard
import Derived.Lib.Mul64
set_option linter.unusedVariables false
set_option linter.unusedSimpArgs false
set_option maxRecDepth 20000
namespace Go.Eng
open Go.IntWalk
theorem ur:([0,1,2,2,3,3,3,3,4,4,4,4,4,4,4,4,5,5,5,5,5,5,5,5,5,5,5,5,5,5,5,5,6,6,6,6,6,6,6,6,6,6,6,6,6,6,6,6,6,6,6,6,6,6,6,6,6,6,6,6,6,6,6,6,7,7,7,7,7,7,7,7,7,7,7,7,7,7,7,7,7,7,7,7,7,7,7,7,7,7,7,7,7,7,7,7,7,7,7,7,7,7,7,7,7,7,7,7,7,7,7,7,7,7,7,7,7,7,7,7,7,7,7,7,7,7,7,7,8,8,8,8,8,8,8,8,8,8,8,8,8,8,8,8,8,8,8,8,8,8,8,8,8,8,8,8,8,8,8,8,8,8,8,8,8,8,8,8,8,8,8,8,8,8,8,8,8,8,8,8,8,8,8,8,8,8,8,8,8,8,8,8,8,8,8,8,8,8,8,8,8,8,8,8,8,8,8,8,8,8,8,8,8,8,8,8,8,8,8,8,8,8,8,8,8,8,8,8,8,8,8,8,8,8,8,8,8,8,8,8,8,8,8,8,8,8,8,8,8,8,8,8,8,8,8,8]:bz)=len8:=by decide +kernel
theorem xk:len8.length=256:=by decide +kernel
theorem bX.gM (x0:UInt16) (x1:Int) (h:x0.toNat<256) (h1:0≤x1) (h2:x1≤1000):bX.j1 x0 x1=some [.i .i64 (x1+Nt.bits x0.toNat)]:=by
 refine bX.iI _ _ ?_
 intro v1 h1 v2 h2 v3 h3
 rw [ur] at h2 ⊢
 have e1:v1.toNat=x0.toNat:=by rw [h1,Cy,Nat.mod_eq_of_lt h]
 have hb:=Nt.jT (n:=x0.toNat) (k:=8) h
 rw [aj,e1] at h2
 have e2:=Ay _ h
 rw [←h2] at e2
 have e3:v3=(Nt.bits x0.toNat:Int):=by rw [h3,i64_in _ (by omega),e2]
 rw [bw (bK (by omega) (by rw [xk];omega)),e3,i64_in _ (by omega)]
theorem bX.goal (x:UInt16):bX.F x=some [.i .i64 (Nt.bits x.toNat)]:=by
 refine bX.bZ _ ?_
 intro v1 h1
 have hx:=x.toNat_lt
 by_cases c:x.toNat<256
 ·rw [ab (by rw [UInt16.le_iff_toNat_le];show ¬256≤x.toNat;omega),ae,bX.gM _ _ c (by omega) (by omega),Int.zero_add]
 ·have e1:v1.toNat=x.toNat / 2 ^ 8:=by
   rw [h1,oH,UInt16.toNat_ofNat',show (8:UInt64).toNat=8 from rfl];omega
  rw [aa (by rw [UInt16.le_iff_toNat_le];show 256≤x.toNat;omega),ai,bX.gM _ _ (by omega) (by omega) (by omega),e1,Nt.kU (n:=x.toNat) (k:=8) (by omega)]
  exact congrArg (fun z:Int=>some [TV.i .i64 z]) (by omega)
theorem bits_Len64.uz (x0:UInt64) (x1:Int) (h:x0.toNat<256) (h1:0≤x1) (h2:x1≤1000):bits_Len64.j3 x0 x1=some [.i .i64 (x1+Nt.bits x0.toNat)]:=by
 refine bits_Len64.oY _ _ ?_
 intro v1 h1 v2 h2 v3 h3
 rw [ur] at h2 ⊢
 have e1:v1.toNat=x0.toNat:=by rw [h1,Cy,Nat.mod_eq_of_lt h]
 have hb:=Nt.jT (n:=x0.toNat) (k:=8) h
 rw [aj,e1] at h2
 have e2:=Ay _ h
 rw [←h2] at e2
 have e3:v3=(Nt.bits x0.toNat:Int):=by rw [h3,i64_in _ (by omega),e2]
 rw [bw (bK (by omega) (by rw [xk];omega)),e3,i64_in _ (by omega)]
theorem gQ (x:UInt64) (k:Nat):(dD x k).toNat=x.toNat / 2 ^ k:=by
 rw [dD,UInt64.toNat_ofNat']
 exact Nat.mod_eq_of_lt (Nat.lt_of_le_of_lt (Nat.div_le_self _ _) x.toNat_lt)
theorem bits_Len64.sL (x0:UInt64) (x1:Int) (h:x0.toNat<65536) (h1:0≤x1) (h2:x1≤900):bits_Len64.j2 x0 x1=some [.i .i64 (x1+Nt.bits x0.toNat)]:=by
 refine bits_Len64.jg _ _ ?_
 intro v1 h1 v2 h2
 by_cases c:x0.toNat<256
 ·rw [ab (by rw [aI];show ¬256≤x0.toNat;omega),ae,bits_Len64.uz _ _ c (by omega) (by omega)]
 ·have e1:v1.toNat=x0.toNat / 2 ^ 8:=by rw [h1];exact gQ _ _
  have e2:v2=x1+8:=by rw [h2,i64_in _ (by omega)]
  rw [aa (by rw [aI];show 256≤x0.toNat;omega),ai,bits_Len64.uz _ _ (by omega) (by omega) (by omega),e1,e2,Nt.kU (n:=x0.toNat) (k:=8) (by omega)]
  exact congrArg (fun z:Int=>some [TV.i .i64 z]) (by omega)
theorem bits_Len64.gM (x0:UInt64) (x1:Int) (h:x0.toNat<4294967296) (h1:0≤x1) (h2:x1≤800):bits_Len64.j1 x0 x1=some [.i .i64 (x1+Nt.bits x0.toNat)]:=by
 refine bits_Len64.iI _ _ ?_
 intro v1 h1 v2 h2
 by_cases c:x0.toNat<65536
 ·rw [ab (by rw [aI];show ¬65536≤x0.toNat;omega),ae,bits_Len64.sL _ _ c (by omega) (by omega)]
 ·have e1:v1.toNat=x0.toNat / 2 ^ 16:=by rw [h1];exact gQ _ _
  have e2:v2=x1+16:=by rw [h2,i64_in _ (by omega)]
  rw [aa (by rw [aI];show 65536≤x0.toNat;omega),ai,bits_Len64.sL _ _ (by omega) (by omega) (by omega),e1,e2,Nt.kU (n:=x0.toNat) (k:=16) (by omega)]
  exact congrArg (fun z:Int=>some [TV.i .i64 z]) (by omega)
theorem bits_Len64.goal (x:UInt64):bits_Len64.F x=some [.i .i64 (Nt.bits x.toNat)]:=by
 refine bits_Len64.bZ _ ?_
 intro v1 h1
 have hx:=x.toNat_lt
 by_cases c:x.toNat<4294967296
 ·rw [ab (by rw [aI];show ¬4294967296≤x.toNat;omega),ae,bits_Len64.gM _ _ c (by omega) (by omega),Int.zero_add]
 ·have e1:v1.toNat=x.toNat / 2 ^ 32:=by rw [h1];exact gQ _ _
  rw [aa (by rw [aI];show 4294967296≤x.toNat;omega),ai,bits_Len64.gM _ _ (by rw [e1];omega) (by omega) (by omega),e1,Nt.kU (n:=x.toNat) (k:=32) (by omega)]
  exact congrArg (fun z:Int=>some [TV.i .i64 z]) (by omega)
theorem dn (a:List UInt16) (i:Nat) (h:i<a.length):Nt.val (a.take (i+1))=Nt.val (a.take i)+65536 ^ i * (a.getD i 0).toNat:=by
 rw [List.take_add_one,Nt.fJ,aq h,aF,Nat.min_eq_left (by omega),af,aq h]
 simp [Nt.val]
theorem gB (d:UInt16):(UInt64.ofInt (d.toNat:Int)).toNat=d.toNat:=by
 rw [zZ,Nat.mod_eq_of_lt (by have:=d.toNat_lt;omega)]
theorem dj.cW (a:List UInt16) (h4:a.length≤4):∀(m i:Nat) (v:UInt64),i+m=a.length→v.toNat=Nt.val (a.take i)→dj.l1 v a a.length i=some [.u64 (UInt64.ofNat (Nt.val a)),.b true]:=by
 intro m
 induction m with
 | zero =>
  intro i v hi hv
  refine dj.bV _ _ _ _ ?_
  intro v1 h1 v2 h2 v3 h3 v4 h4 v5 h5
  rw [ab (by omega),ae]
  rw [List.take_of_length_le (by omega)] at hv
  rw [←hv,UInt64.ofNat_toNat]
 | succ m ih =>
  intro i v hi hv
  refine dj.bV _ _ _ _ ?_
  intro v1 h1 v2 h2 v3 h3 v4 h4 v5 h5
  rw [aj] at h1
  have e3:v3=((16 * i:Nat):Int):=by rw [h3,i64_in _ (by omega)];omega
  have e5:v5=((i+1:Nat):Int):=by rw [h5,i64_in _ (by omega)];omega
  rw [aa (by omega),ai,bw (bK (by omega) (by omega)),bw (aa (by omega)),e5]
  refine ih (i+1) v4 (by omega) ?_
  rw [dn a i (by omega),←h1,h4,e3,aj,UInt64.toNat_or,iK,UInt64.toNat_ofNat',h2,gB,hv]
  have fO:Nt.val (a.take i)<2 ^ (16 * i):=by
   have:=Nt.gW (a.take i)
   rw [aF,Nat.min_eq_left (by omega),show (65536:Nat)=2 ^ 16 by decide,←Nat.pow_mul] at this
   exact this
  have hd:=v1.toNat_lt
  have UT:i≤3:=by omega
  have hm:v1.toNat * 2 ^ (16 * i)<2 ^ 64:=by
   have:2 ^ (16 * i)≤2 ^ 48:=Nat.pow_le_pow_right (by omega) (by omega)
   have h1:v1.toNat * 2 ^ (16 * i)≤v1.toNat * 2 ^ 48:=Nat.mul_le_mul_left _ this
   omega
  rw [Nat.mod_eq_of_lt hm,Nat.or_comm,mr fO,show (65536:Nat)=2 ^ 16 by decide,←Nat.pow_mul,Nat.mul_comm (2 ^ (16 * i)),Nat.add_comm]
theorem dj.goal (a:List UInt16) (hp:decide (Nt.is a=true∧a.length≤4)=true):dj.F a=some [.u64 (UInt64.ofNat (Nt.val a)),.b true]:=by
 obtain ⟨h1,h2⟩:=ar hp
 refine dj.bZ _ ?_
 intro v1 hv
 have e1:v1=false:=by rw [hv,h1,aH,ae];exact ab (by omega)
 rw [bw (aa (by omega)),h1,e1]
 exact dj.cW a h2 a.length 0 0 (by omega) rfl
theorem lU {a:List UInt16} (h:Nt.norm a=true) (h0:a≠[]):1≤(a.getD (a.length - 1) 0).toNat∧Nt.val a=Nt.val (a.take (a.length - 1))+65536 ^ (a.length - 1) * (a.getD (a.length - 1) 0).toNat:=by
 have hl:=List.length_pos_iff.2 h0
 rw [lV h0] at h
 simp only [Bool.not_eq_true',decide_eq_false_iff_not] at h
 refine ⟨Nat.pos_of_ne_zero fun e=>h (UInt16.toNat_inj.1 e),?_⟩
 have:=dn a (a.length - 1) (by omega)
 rwa [show a.length - 1+1=a.length by omega,List.take_length] at this
theorem EU {a:List UInt16} (h:Nt.norm a=true) (h0:a≠[]):Nt.bits (Nt.val a)=16 * (a.length - 1)+Nt.bits (a.getD (a.length - 1) 0).toNat:=by
 obtain ⟨h1,h2⟩:=lU h h0
 generalize (a.getD (a.length - 1) 0).toNat=t at h1 h2 ⊢
 have fO:=Nt.gW (a.take (a.length - 1))
 rw [aF,Nat.min_eq_left (by omega)] at fO
 rw [show (65536:Nat)=2 ^ 16 by decide,←Nat.pow_mul] at h2 fO
 generalize 16 * (a.length - 1)=k at *
 have hd:Nt.val a / 2 ^ k=t:=by
  rw [h2,Nat.add_mul_div_left _ _ (Nat.two_pow_pos k),Nat.div_eq_of_lt fO,Nat.zero_add]
 rw [Nt.kU (k:=k) (by rw [h2];have:=Nat.mul_le_mul_left (2 ^ k) h1;omega),hd,Nat.add_comm]
theorem fH.goal (a:List UInt16) (hp:(Nt.is a)=true):fH.F a=some [.i .i64 (Nt.bits (Nt.val a))]:=by
 have hl:=Nt.iY hp
 refine fH.bZ _ ?_
 intro v1 h1 v2 h2 v3 h3 v4 h4 v5 h5
 rw [hp,aH,ae] at h1
 rw [bw (aa (by omega)),hp]
 by_cases c:a=[]
 ·subst c
  have e1:v1=true:=by rw [h1];rfl
  rw [e1];rfl
 ·have Nn:=List.length_pos_iff.2 c
  have e1:v1=false:=by rw [h1];exact ab (by omega)
  rw [i64_in _ (by omega)] at h2
  have e2:v2=((a.length - 1:Nat):Int):=by omega
  have e3:v3=((16 * (a.length - 1):Nat):Int):=by rw [h3,i64_in _ (by omega)];omega
  rw [e2,aj] at h4
  have hb:=Nt.jT (n:=v4.toNat) (k:=16) v4.toNat_lt
  have e5:v5=(Nt.bits (Nt.val a):Int):=by
   rw [h5,i64_in _ (by omega),e3,EU (Nt.iS hp) c,←h4];omega
  rw [e1,e5]
  show ck true (ck true (ck true (ck (bB v2 a.length) _)))=_
  rw [bQ,bQ,bQ,bw (bK (by omega) (by omega))]
end Go.Eng
set_option maxRecDepth 20000
namespace Go.Eng
open Go.IntWalk
namespace Nr
def V (p:Nat):Nat:=mG p * 2 ^ sh p
theorem sD (p:Nat):mG p<9007199254740992:=by unfold mG;split <;> omega
theorem vX (p:Nat):V (p+1)=(mG p+1) * 2 ^ sh p:=by
 by_cases c0:p=4503599627370495
 ·subst c0;decide +kernel
 unfold V mG sh
 by_cases c:p<4503599627370496
 ·have e1:p / 4503599627370496=0:=by omega
  rw [aw c,aw (show p+1<4503599627370496 by omega),e1,show (p+1) / 4503599627370496=0 by omega]
 ·rw [au c,au (show ¬p+1<4503599627370496 by omega)]
  by_cases d:(p+1) % 4503599627370496=0
  ·rw [d,show (p+1) / 4503599627370496 - 1=(p / 4503599627370496 - 1)+1 by omega,show p % 4503599627370496=4503599627370495 by omega,Nat.pow_succ]
   generalize 2 ^ (p / 4503599627370496 - 1)=t
   omega
  ·have e:(p+1) % 4503599627370496+4503599627370496=p % 4503599627370496+4503599627370496+1:=by omega
   rw [show (p+1) / 4503599627370496=p / 4503599627370496 by omega,e]
theorem tm (p:Nat):V (p+1)=V p+2 ^ sh p:=by rw [vX,Nat.add_mul,Nat.one_mul];rfl
theorem kC (p:Nat):V p<V (p+1):=by rw [tm];have:=Nat.two_pow_pos (sh p);omega
theorem yA {p q:Nat} (h:p<q):V p<V q:=by
 induction q with
 | zero=>omega
 | succ q ih =>
  have:=kC q
  by_cases c:p=q
  ·subst c;exact this
  ·have:=ih (by omega);omega
theorem MK {p q:Nat} (h:p≤q):V p≤V q:=by
 rcases Nat.lt_or_eq_of_le h with c | c
 ·exact Nat.le_of_lt (yA c)
 ·rw [c];exact Nat.le_refl _
theorem Ic {p q:Nat} (h:V p=V q):p=q:=by
 rcases Nat.lt_trichotomy p q with c | c | c
 ·have:=yA c;omega
 ·exact c
 ·have:=yA c;omega
theorem kH (p:Nat):mK p=V p+V (p+1):=by
 rw [tm];unfold mK V;rw [Nat.add_mul,Nat.mul_assoc,Nat.one_mul];omega
theorem Fg {M E:Nat} (h1:4503599627370496≤M) (h2:M<9007199254740992):mG ((E+1) * 4503599627370496+(M - 4503599627370496))=M∧sh ((E+1) * 4503599627370496+(M - 4503599627370496))=E:=by
 unfold mG sh
 rw [au (by omega),show ((E+1) * 4503599627370496+(M - 4503599627370496)) % 4503599627370496=M - 4503599627370496 by omega,show ((E+1) * 4503599627370496+(M - 4503599627370496)) / 4503599627370496=E+1 by omega]
 omega
theorem Ib {M:Nat} (h:M<4503599627370496):V M=M:=by
 unfold V mG sh
 rw [aw h,show M / 4503599627370496=0 by omega];simp
theorem yV {p:Nat} (h:p≤top):sh p≤2045:=by unfold sh;unfold top at h;omega
theorem join_some {p m:Nat} {e:Int} (neg:Bool) (hp:p≤top) (h:V p * 2 ^ (-(e+1074)).toNat=m * 2 ^ (e+1074).toNat):join neg m e=some (p+if neg then 9223372036854775808 else 0):=by
 classical
 have hx:∃p,p≤top∧mG p * 2 ^ sh p * 2 ^ (-(e+1074)).toNat=m * 2 ^ (e+1074).toNat:=⟨p,hp,h⟩
 unfold join
 rw [dif_pos hx]
 have hc:=hx.choose_spec.2
 have:hx.choose=p:=Ic (Nat.eq_of_mul_eq_mul_right (Nat.two_pow_pos _) (hc.trans h.symm))
 rw [this]
theorem join_none {m:Nat} {e:Int} (neg:Bool) (h:∀p,p≤top→V p * 2 ^ (-(e+1074)).toNat≠m * 2 ^ (e+1074).toNat):join neg m e=none:=by
 classical
 unfold join
 rw [dif_neg]
 rintro ⟨p,h1,h2⟩
 exact h p h1 h2
theorem I2 (neg:Bool) (e:Int):join neg 0 e=some (0+if neg then 9223372036854775808 else 0):=join_some neg (Nat.zero_le _) (by rw [Ib (by omega),Nat.zero_mul,Nat.zero_mul])
def enc (m' k:Nat):Nat:=if k+Nt.bits m'≤52 then m' * 2 ^ k else (k - (53 - Nt.bits m')+1) * 4503599627370496+(m' * 2 ^ (53 - Nt.bits m') - 4503599627370496)
theorem ta {m':Nat} (h0:0<m') (j:Nat):2 ^ (Nt.bits m' - 1+j)≤m' * 2 ^ j∧m' * 2 ^ j<2 ^ (Nt.bits m'+j):=by
 obtain ⟨h1,h2,h3⟩:=Nt.iO h0
 rw [Nat.pow_add,Nat.pow_add]
 exact ⟨ak _ h1,Nat.mul_lt_mul_of_pos_right h2 (Nat.two_pow_pos j)⟩
theorem AX {m':Nat} (h0:0<m') (hL:Nt.bits m'≤53):4503599627370496≤m' * 2 ^ (53 - Nt.bits m')∧m' * 2 ^ (53 - Nt.bits m')<9007199254740992:=by
 obtain ⟨h1,h2⟩:=ta h0 (53 - Nt.bits m')
 obtain ⟨_,_,h3⟩:=Nt.iO h0
 rw [show Nt.bits m' - 1+(53 - Nt.bits m')=52 by omega] at h1
 rw [show Nt.bits m'+(53 - Nt.bits m')=53 by omega] at h2
 exact ⟨h1,h2⟩
theorem Ew {m' k:Nat} (h0:0<m') (hL:Nt.bits m'≤53) (hk:k+Nt.bits m'≤2098):enc m' k≤top∧V (enc m' k)=m' * 2 ^ k:=by
 obtain ⟨b1,b2⟩:=AX h0 hL
 unfold enc
 split
 ·rename_i c
  have:=(ta h0 k).2
  have Tp:m' * 2 ^ k<4503599627370496:=Nat.lt_of_lt_of_le this (by
   rw [show (4503599627370496:Nat)=2 ^ 52 by decide];exact Nat.pow_le_pow_right (by omega) (by omega))
  exact ⟨by unfold top;omega,Ib Tp⟩
 ·rename_i c
  obtain ⟨v1,v2⟩:=Fg (E:=k - (53 - Nt.bits m')) b1 b2
  refine ⟨by unfold top;omega,?_⟩
  unfold V
  rw [v1,v2,Nat.mul_assoc,←Nat.pow_add,show 53 - Nt.bits m'+(k - (53 - Nt.bits m'))=k by omega]
theorem DL {m m' n k:Nat} {e:Int} (neg:Bool) (hm:m=m' * 2 ^ n) (h0:0<m') (hk:e+n+1074=k) (hL:Nt.bits m'≤53) (ql:k+Nt.bits m'≤2098):join neg m e=some (enc m' k+if neg then 9223372036854775808 else 0):=by
 obtain ⟨h1,h2⟩:=Ew h0 hL ql
 refine join_some neg h1 ?_
 rw [h2,hm,Nat.mul_assoc,Nat.mul_assoc,←Nat.pow_add,←Nat.pow_add,show k+(-(e+1074)).toNat=n+(e+1074).toNat by omega]
theorem Ga {a b x y:Nat} (ha:a % 2=1) (h:a * 2 ^ x=b * 2 ^ y):y≤x∧b=a * 2 ^ (x - y):=by
 have Sk:y≤x:=by
  rcases Nat.lt_or_ge x y with c | c
  ·have e:y=x+(y - x - 1)+1:=by omega
   rw [e,Nat.pow_succ,Nat.pow_add,←Nat.mul_assoc,←Nat.mul_assoc] at h
   have h2:a=b * 2 ^ (y - x - 1) * 2:=by
    refine Nat.eq_of_mul_eq_mul_right (Nat.two_pow_pos x) ?_
    rw [h,Nat.mul_right_comm b,Nat.mul_right_comm (b * _)]
   omega
  ·exact c
 refine ⟨Sk,Nat.eq_of_mul_eq_mul_right (Nat.two_pow_pos y) ?_⟩
 rw [←h,Nat.mul_assoc,←Nat.pow_add,show x - y+y=x by omega]
theorem DK {m m' n:Nat} {e:Int} (neg:Bool) (hm:m=m' * 2 ^ n) (ho:m' % 2=1) (h:e+n+1074<0∨53<Nt.bits m'∨2098<e+n+1074+Nt.bits m'):join neg m e=none:=by
 refine join_none neg fun p hp hv=>?_
 have h0:0<m':=by omega
 rw [hm,Nat.mul_assoc,←Nat.pow_add] at hv
 unfold V at hv
 rw [Nat.mul_assoc,←Nat.pow_add] at hv
 obtain ⟨q1,q2⟩:=Ga ho hv.symm
 have hs:=yV hp
 have BR:=sD p
 obtain ⟨r1,r2⟩:=ta h0 (n+(e+1074).toNat - (sh p+(-(e+1074)).toNat))
 obtain ⟨_,_,r3⟩:=Nt.iO h0
 rw [←q2] at r1 r2
 have r4:2 ^ (Nt.bits m' - 1+(n+(e+1074).toNat - (sh p+(-(e+1074)).toNat)))<2 ^ 53:=Nat.lt_of_le_of_lt r1 (by rw [show (2:Nat) ^ 53=9007199254740992 by decide];exact BR)
 have r5:=(Nat.pow_lt_pow_iff_right (by omega:1<2)).1 r4
 omega
theorem J1 (m' k:Nat) (h:enc m' k≤top):enc m' k<9223372036854775808:=by unfold top at h;omega
end Nr
theorem mV (x:UInt64) (k:Nat):(iK x k).toNat=x.toNat * 2 ^ k % 18446744073709551616:=by unfold iK;simp
theorem fI {a b:UInt64} (h:a.toNat=b.toNat):a=b:=bn.1 h
theorem fc (n:Nat):(UInt64.ofNat n).toNat=n % 18446744073709551616:=by simp
theorem Dt (x:UInt64):(x &&& (4503599627370495:UInt64)).toNat=x.toNat % 4503599627370496:=by
 rw [UInt64.toNat_and]
 exact Nat.and_two_pow_sub_one_eq_mod x.toNat 52
def FW (n:Bool):UInt64:=cond n 9223372036854775808 0
theorem nK (n:Bool):(FW n).toNat=if n then 9223372036854775808 else 0:=by cases n <;> rfl
theorem CX (n:Bool) (x:UInt64) (h:x.toNat<9223372036854775808):(FW n ||| x).toNat=x.toNat+(FW n).toNat:=by
 rw [UInt64.toNat_or,nK]
 cases n
 ·simp
 ·have:=mr (a:=1) (k:=63) (b:=x.toNat) h
  rw [aw rfl]
  rw [show (9223372036854775808:Nat)=1 * 2 ^ 63 by decide,this];omega
theorem wU (p:Nat) (n:Bool) (h:p<9223372036854775808):Nr.pat (some (p+if n then 9223372036854775808 else 0))=UInt64.ofNat (p+(FW n).toNat):=by rw [nK];rfl
theorem dM.gM (n:Bool) (m:UInt64) (e:Int) (he : -1100≤e∧e≤2000):dM.j1 m e (FW n)=some [.u64 (Nr.pat (Nr.join n m.toNat e)),.b (Nr.join n m.toNat e).isSome]:=by
 refine dM.iI _ _ _ ?_
 intro v1 h1 v2 h2 v3 h3 v4 h4 v5 h5 v6 h6 v7 h7 v8 h8 v9 h9 v10 iA v11 ki v12 jE kW nY jP pA iD o8
 by_cases c0:m=0
 ·subst c0
  rw [aa rfl,ai]
  have:(0:UInt64).toNat=0:=rfl
  rw [this,Nr.I2,wU _ _ (by omega)]
  congr 2
  cases n <;> rfl
 ·have OY:0<m.toNat:=by
   have:m.toNat≠0:=fun h=>c0 (fI h)
   omega
  have fO:=m.toNat_lt
  obtain ⟨q,hq,hc⟩:=Lib.ctzFrom_spec 64 m.toNat OY (by rw [show (2:Nat) ^ 64=18446744073709551616 by decide];exact fO)
  have S5:Lib.ctz 64 m.toNat=Lib.ctzFrom 64 m.toNat:=by unfold Lib.ctz;rw [au (by omega)]
  generalize hz:Lib.ctzFrom 64 m.toNat=z at *
  rw [S5] at h2
  have BS:m.toNat=(2 * q+1) * 2 ^ z:=by rw [hq,Nat.mul_comm]
  have Jg:(dD m v2.toNat).toNat=2 * q+1:=by
   rw [gQ,h2,aj,BS,Nat.mul_div_cancel _ (Nat.two_pow_pos z)]
  have hL:=Nt.jT (n:=2 * q+1) (k:=64) (by rw [←Jg];exact (dD m v2.toNat).toNat_lt)
  obtain ⟨_,_,Ti⟩:=Nt.iO (n:=2 * q+1) (by omega)
  rw [Jg] at h3
  generalize QJ:Nt.bits (2 * q+1)=L at *
  have ew:IntKind.i64.wrap (e+v2)=e+z:=by rw [h2,i64_in _ (by omega)]
  rw [ew] at h4 h5 h8 jE
  have e5:v5=e+z+L:=by rw [h5,h3,i64_in _ (by omega)]
  have e7:v7=e+z+L - 1:=by rw [h7,e5,i64_in _ (by omega)]
  have e8:v8=e+z+1074:=by rw [h8,i64_in _ (by omega)]
  have xX:v10=53 - L:=by rw [iA,h3,i64_in _ (by omega)]
  have GZ:v12=e+z - (53 - L):=by rw [jE,xX,i64_in _ (by omega)]
  have Mu:kW=e+z - (53 - L)+1075:=by rw [nY,GZ,i64_in _ (by omega)]
  have e1:v1=false:=by rw [h1,ab (show ¬e < -2000 by omega),ab (show ¬2000<e by omega)];rfl
  have e4:v4=decide (53<L∨e+z < -1074):=by
   rw [h4,h3,Bool.decide_or]
   have:decide ((53:Int)<(L:Int))=decide (53<L):=by
    by_cases c:53<L
    ·rw [aa c,aa (by omega)]
    ·rw [ab c,ab (by omega)]
   rw [this];cases decide (53<L) <;> rfl
  have e6:v6=decide (53<L∨e+z < -1074∨1024<e+z+L):=by
   rw [h6,e4,e5]
   by_cases c:53<L∨e+z < -1074
   ·rw [aa c,ai,aa (by omega)]
   ·rw [ab c,ae]
    by_cases d:1024<e+z+L
    ·rw [aa d,aa (by omega)]
    ·rw [ab d,ab (by omega)]
  have nX:∀b:Bool,(!(!b) || !b)=true∧(b || !b)=true∧(!(!b) || (!b&&!b))=true:=by decide
  rw [ab c0,ae,e1,bw (nX _).1,bw (nX _).2.1,ae,bw (aa (by omega)),bw (nX _).1,bw (nX _).2.1,bw (nX _).2.2,bw (nX _).1,bw (nX _).2.1,e6]
  by_cases c:53<L∨e+z < -1074∨1024<e+z+L
  ·rw [aa c,ai,Nr.DK (m':=2 * q+1) (n:=z) n BS (by omega) (by omega)];rfl
  ·rw [ab c,ae]
   obtain ⟨k,hk⟩:=Int.eq_ofNat_of_zero_le (show 0≤e+z+1074 by omega)
   obtain ⟨t1,t2⟩:=Nr.Ew (m':=2 * q+1) (k:=k) (by omega) (by omega) (by omega)
   have t3:=Nr.J1 _ _ t1
   rw [Nr.DL (m':=2 * q+1) (n:=z) (k:=k) n BS (by omega) hk (by omega) (by omega),wU _ _ t3]
   by_cases d:e+z+L - 1 < -1022
   ·rw [e7,aa d,ai,bw (aa (by omega))]
    have O8:Nr.enc (2 * q+1) k=(2 * q+1) * 2 ^ k:=by unfold Nr.enc;rw [aw (by omega)]
    rw [O8] at t3 ⊢
    have e9:v9.toNat=(2 * q+1) * 2 ^ k:=by
     rw [h9,mV,Jg,e8,hk,aj];omega
    have:FW n ||| v9=UInt64.ofNat ((2 * q+1) * 2 ^ k+(FW n).toNat):=by
     apply fI
     rw [CX _ _ (by omega),e9,fc,nK]
     cases n
     ·simp;omega
     ·simp;omega
    rw [this];rfl
   ·rw [e7,ab d,ae,bw (aa (by omega))]
    obtain ⟨b1,b2⟩:=Nr.AX (m':=2 * q+1) (by omega) (by omega)
    have O8:Nr.enc (2 * q+1) k=(k - (53 - L)+1) * 4503599627370496+((2 * q+1) * 2 ^ (53 - L) - 4503599627370496):=by unfold Nr.enc;rw [au (by omega),QJ]
    rw [QJ] at b1 b2
    have PC:v10.toNat=53 - L:=by omega
    have KY:v11.toNat=(2 * q+1) * 2 ^ (53 - L):=by rw [ki,mV,Jg,PC];omega
    have NC:iD.toNat=(2 * q+1) * 2 ^ (53 - L) - 4503599627370496:=by rw [o8,Dt,KY];omega
    have PA:kW=((k - (53 - L)+1:Nat):Int):=by omega
    have J4:jP.toNat=(k - (53 - L)+1) * 4503599627370496:=by
     rw [pA,mV,PA,zZ]
     have:(k - (53 - L)+1)<2048:=by omega
     show (k - (53 - L)+1) % 18446744073709551616 * 4503599627370496 % 18446744073709551616=_
     omega
    have Tn:(jP ||| iD).toNat=Nr.enc (2 * q+1) k:=by
     rw [UInt64.toNat_or,J4,NC,O8]
     exact mr (k:=52) (by omega)
    have:(FW n ||| jP) ||| iD=UInt64.ofNat (Nr.enc (2 * q+1) k+(FW n).toNat):=by
     apply fI
     rw [UInt64.or_assoc,CX _ _ (by omega),Tn,fc,nK]
     cases n
     ·simp;omega
     ·simp;omega
    rw [this];rfl
theorem dM.goal (n:Bool) (m:UInt64) (e:Int) (hp:decide (-1100≤e∧e≤2000)=true):dM.F n m e=some [.u64 (Nr.pat (Nr.join n m.toNat e)),.b (Nr.join n m.toNat e).isSome]:=by
 rw [dM.eJ]
 cases n
 ·exact dM.gM false m e (ar hp)
 ·exact dM.gM true m e (ar hp)
end Go.Eng
set_option maxRecDepth 20000
namespace Go.Eng
open Go.IntWalk
theorem IU (x:UInt64):(x &&& (2047:UInt64)).toNat=x.toNat % 2048:=by
 rw [UInt64.toNat_and]
 exact Nat.and_two_pow_sub_one_eq_mod x.toNat 11
end Go.Eng
namespace Go.Proofs
open Go.Shelf
def Tryz.zu:Go.Shelf.Ren:=⟨fun | 29=>217 | n=>n,fun | 22=>22 | 3=>3 | 4=>4 | 25=>98 | 54=>246 | 0=>0 | 5=>5 | n=>n,fun | 1=>5 | n=>n⟩
theorem Tryz.IX:Go.Proofs.Lays7.n29 Tryz.prog Tryz.zu:={
 mixed:=by kernel_rfl
 f29:=Tryz.func217.trans (congrArg some (by kernel_rfl))
 t0:=Tryz.underlying0
 a0:=Tryz.isAgg0
 z0:=Tryz.sizeOf0
 v0:=Tryz.zeroValue0
 i0:=by kernel_rfl
 t3:=Tryz.underlying3
 a3:=Tryz.isAgg3
 z3:=Tryz.sizeOf3
 v3:=Tryz.zeroValue3
 i3:=by kernel_rfl
 t4:=Tryz.underlying4
 a4:=Tryz.isAgg4
 z4:=Tryz.sizeOf4
 v4:=Tryz.zeroValue4
 i4:=by kernel_rfl
 t5:=Tryz.underlying5
 a5:=Tryz.isAgg5
 z5:=Tryz.sizeOf5
 v5:=Tryz.zeroValue5
 i5:=by kernel_rfl
 t22:=Tryz.underlying22
 a22:=Tryz.isAgg22
 z22:=Tryz.sizeOf22
 v22:=Tryz.zeroValue22
 i22:=by kernel_rfl
 t25:=Tryz.underlying98
 a25:=Tryz.isAgg98
 z25:=Tryz.sizeOf98
 v25:=Tryz.zeroValue98
 i25:=by kernel_rfl
 t54:=Tryz.underlying246
 a54:=Tryz.isAgg246
 z54:=Tryz.sizeOf246
 g1:=by kernel_rfl }
def Tryz.xq:Go.Shelf.Ren:=⟨fun | 160=>226 | 232=>223 | 231=>182 | 227=>183 | 234=>224 | 233=>184 | 236=>225 | 235=>185 | 228=>211 | 271=>240 | 151=>213 | 197=>212 | 120=>250 | 152=>232 | 260=>231 | 137=>134 | 119=>243 | 224=>160 | 225=>159 | 217=>156 | 266=>188 | n=>n,fun | 9=>9 | 4=>4 | 3=>3 | 5=>5 | 117=>196 | 116=>195 | 0=>0 | 124=>199 | 21=>21 | 105=>221 | 46=>98 | 119=>259 | 139=>262 | 138=>261 | n=>n,fun | 3=>6 | 4=>7 | n=>n⟩
theorem Tryz.Gs:Go.Proofs.Lays.n160 Tryz.prog Tryz.xq:={
 mixed:=by kernel_rfl
 f119:=Tryz.func243.trans (congrArg some (by kernel_rfl))
 f120:=Tryz.func250.trans (congrArg some (by kernel_rfl))
 f137:=Tryz.func134.trans (congrArg some (by kernel_rfl))
 f151:=Tryz.func213.trans (congrArg some (by kernel_rfl))
 f152:=Tryz.func232.trans (congrArg some (by kernel_rfl))
 f160:=Tryz.func226.trans (congrArg some (by kernel_rfl))
 f197:=Tryz.func212.trans (congrArg some (by kernel_rfl))
 f217:=Tryz.func156.trans (congrArg some (by kernel_rfl))
 f224:=Tryz.func160.trans (congrArg some (by kernel_rfl))
 f225:=Tryz.func159.trans (congrArg some (by kernel_rfl))
 f227:=Tryz.func183.trans (congrArg some (by kernel_rfl))
 f228:=Tryz.func211.trans (congrArg some (by kernel_rfl))
 f231:=Tryz.func182.trans (congrArg some (by kernel_rfl))
 f232:=Tryz.func223.trans (congrArg some (by kernel_rfl))
 f233:=Tryz.func184.trans (congrArg some (by kernel_rfl))
 f234:=Tryz.func224.trans (congrArg some (by kernel_rfl))
 f235:=Tryz.func185.trans (congrArg some (by kernel_rfl))
 f236:=Tryz.func225.trans (congrArg some (by kernel_rfl))
 f260:=Tryz.func231.trans (congrArg some (by kernel_rfl))
 f266:=Tryz.func188.trans (congrArg some (by kernel_rfl))
 f271:=Tryz.func240.trans (congrArg some (by kernel_rfl))
 t0:=Tryz.underlying0
 a0:=Tryz.isAgg0
 z0:=Tryz.sizeOf0
 v0:=Tryz.zeroValue0
 t3:=Tryz.underlying3
 a3:=Tryz.isAgg3
 z3:=Tryz.sizeOf3
 v3:=Tryz.zeroValue3
 t4:=Tryz.underlying4
 a4:=Tryz.isAgg4
 z4:=Tryz.sizeOf4
 v4:=Tryz.zeroValue4
 t5:=Tryz.underlying5
 a5:=Tryz.isAgg5
 z5:=Tryz.sizeOf5
 v5:=Tryz.zeroValue5
 t9:=Tryz.underlying9
 a9:=Tryz.isAgg9
 z9:=Tryz.sizeOf9
 v9:=Tryz.zeroValue9
 t21:=Tryz.underlying21
 a21:=Tryz.isAgg21
 z21:=Tryz.sizeOf21
 v21:=Tryz.zeroValue21
 t46:=Tryz.underlying98
 a46:=Tryz.isAgg98
 z46:=Tryz.sizeOf98
 v46:=Tryz.zeroValue98
 t105:=Tryz.underlying221
 a105:=Tryz.isAgg221
 z105:=Tryz.sizeOf221
 v105:=Tryz.zeroValue221
 t116:=Tryz.underlying195
 a116:=Tryz.isAgg195
 z116:=Tryz.sizeOf195
 t117:=Tryz.underlying196
 a117:=Tryz.isAgg196
 z117:=Tryz.sizeOf196
 v117:=Tryz.zeroValue196
 t119:=Tryz.underlying259
 a119:=Tryz.isAgg259
 z119:=Tryz.sizeOf259
 t124:=Tryz.underlying199
 a124:=Tryz.isAgg199
 z124:=Tryz.sizeOf199
 v124:=Tryz.zeroValue199
 t138:=Tryz.underlying261
 a138:=Tryz.isAgg261
 z138:=Tryz.sizeOf261
 v138:=Tryz.zeroValue261
 t139:=Tryz.underlying262
 a139:=Tryz.isAgg262
 z139:=Tryz.sizeOf262
 v139:=Tryz.zeroValue262
 g3:=by kernel_rfl
 g4:=by kernel_rfl }
def Tryz.xp:Go.Shelf.Ren:=⟨fun | 161=>150 | 231=>182 | 227=>183 | 233=>184 | 235=>185 | 228=>211 | 197=>212 | 151=>213 | 260=>231 | 152=>232 | 137=>134 | 119=>243 | 224=>160 | 225=>159 | 217=>156 | 266=>188 | n=>n,fun | 9=>9 | 4=>4 | 3=>3 | 5=>5 | 117=>196 | 116=>195 | 0=>0 | 124=>199 | 105=>221 | 21=>21 | 119=>259 | 46=>98 | 139=>262 | 138=>261 | n=>n,fun | 3=>6 | 4=>7 | n=>n⟩
theorem Tryz.Gr:Go.Proofs.Lays.n161 Tryz.prog Tryz.xp:={
 mixed:=by kernel_rfl
 f119:=Tryz.func243.trans (congrArg some (by kernel_rfl))
 f137:=Tryz.func134.trans (congrArg some (by kernel_rfl))
 f151:=Tryz.func213.trans (congrArg some (by kernel_rfl))
 f152:=Tryz.func232.trans (congrArg some (by kernel_rfl))
 f161:=Tryz.func150.trans (congrArg some (by kernel_rfl))
 f197:=Tryz.func212.trans (congrArg some (by kernel_rfl))
 f217:=Tryz.func156.trans (congrArg some (by kernel_rfl))
 f224:=Tryz.func160.trans (congrArg some (by kernel_rfl))
 f225:=Tryz.func159.trans (congrArg some (by kernel_rfl))
 f227:=Tryz.func183.trans (congrArg some (by kernel_rfl))
 f228:=Tryz.func211.trans (congrArg some (by kernel_rfl))
 f231:=Tryz.func182.trans (congrArg some (by kernel_rfl))
 f233:=Tryz.func184.trans (congrArg some (by kernel_rfl))
 f235:=Tryz.func185.trans (congrArg some (by kernel_rfl))
 f260:=Tryz.func231.trans (congrArg some (by kernel_rfl))
 f266:=Tryz.func188.trans (congrArg some (by kernel_rfl))
 t0:=Tryz.underlying0
 a0:=Tryz.isAgg0
 z0:=Tryz.sizeOf0
 v0:=Tryz.zeroValue0
 t3:=Tryz.underlying3
 a3:=Tryz.isAgg3
 z3:=Tryz.sizeOf3
 v3:=Tryz.zeroValue3
 t4:=Tryz.underlying4
 a4:=Tryz.isAgg4
 z4:=Tryz.sizeOf4
 v4:=Tryz.zeroValue4
 t5:=Tryz.underlying5
 a5:=Tryz.isAgg5
 z5:=Tryz.sizeOf5
 v5:=Tryz.zeroValue5
 t9:=Tryz.underlying9
 a9:=Tryz.isAgg9
 z9:=Tryz.sizeOf9
 v9:=Tryz.zeroValue9
 t21:=Tryz.underlying21
 a21:=Tryz.isAgg21
 z21:=Tryz.sizeOf21
 v21:=Tryz.zeroValue21
 t46:=Tryz.underlying98
 a46:=Tryz.isAgg98
 z46:=Tryz.sizeOf98
 v46:=Tryz.zeroValue98
 t105:=Tryz.underlying221
 a105:=Tryz.isAgg221
 z105:=Tryz.sizeOf221
 v105:=Tryz.zeroValue221
 t116:=Tryz.underlying195
 a116:=Tryz.isAgg195
 z116:=Tryz.sizeOf195
 t117:=Tryz.underlying196
 a117:=Tryz.isAgg196
 z117:=Tryz.sizeOf196
 v117:=Tryz.zeroValue196
 t119:=Tryz.underlying259
 a119:=Tryz.isAgg259
 z119:=Tryz.sizeOf259
 t124:=Tryz.underlying199
 a124:=Tryz.isAgg199
 z124:=Tryz.sizeOf199
 v124:=Tryz.zeroValue199
 t138:=Tryz.underlying261
 a138:=Tryz.isAgg261
 z138:=Tryz.sizeOf261
 v138:=Tryz.zeroValue261
 t139:=Tryz.underlying262
 a139:=Tryz.isAgg262
 z139:=Tryz.sizeOf262
 v139:=Tryz.zeroValue262
 g3:=by kernel_rfl
 g4:=by kernel_rfl }
def Tryz.xo:Go.Shelf.Ren:=⟨fun | 162=>204 | 232=>223 | 227=>183 | 234=>224 | 236=>225 | 228=>211 | 271=>240 | 151=>213 | 120=>250 | 197=>212 | 152=>232 | 260=>231 | 137=>134 | 119=>243 | 224=>160 | 225=>159 | 217=>156 | 266=>188 | n=>n,fun | 9=>9 | 4=>4 | 3=>3 | 5=>5 | 117=>196 | 116=>195 | 0=>0 | 124=>199 | 21=>21 | 105=>221 | 46=>98 | 119=>259 | 139=>262 | 138=>261 | n=>n,fun | 3=>6 | 4=>7 | n=>n⟩
theorem Tryz.Gq:Go.Proofs.Lays.n162 Tryz.prog Tryz.xo:={
 mixed:=by kernel_rfl
 f119:=Tryz.func243.trans (congrArg some (by kernel_rfl))
 f120:=Tryz.func250.trans (congrArg some (by kernel_rfl))
 f137:=Tryz.func134.trans (congrArg some (by kernel_rfl))
 f151:=Tryz.func213.trans (congrArg some (by kernel_rfl))
 f152:=Tryz.func232.trans (congrArg some (by kernel_rfl))
 f162:=Tryz.func204.trans (congrArg some (by kernel_rfl))
 f197:=Tryz.func212.trans (congrArg some (by kernel_rfl))
 f217:=Tryz.func156.trans (congrArg some (by kernel_rfl))
 f224:=Tryz.func160.trans (congrArg some (by kernel_rfl))
 f225:=Tryz.func159.trans (congrArg some (by kernel_rfl))
 f227:=Tryz.func183.trans (congrArg some (by kernel_rfl))
 f228:=Tryz.func211.trans (congrArg some (by kernel_rfl))
 f232:=Tryz.func223.trans (congrArg some (by kernel_rfl))
 f234:=Tryz.func224.trans (congrArg some (by kernel_rfl))
 f236:=Tryz.func225.trans (congrArg some (by kernel_rfl))
 f260:=Tryz.func231.trans (congrArg some (by kernel_rfl))
 f266:=Tryz.func188.trans (congrArg some (by kernel_rfl))
 f271:=Tryz.func240.trans (congrArg some (by kernel_rfl))
 t0:=Tryz.underlying0
 a0:=Tryz.isAgg0
 z0:=Tryz.sizeOf0
 v0:=Tryz.zeroValue0
 t3:=Tryz.underlying3
 a3:=Tryz.isAgg3
 z3:=Tryz.sizeOf3
 v3:=Tryz.zeroValue3
 t4:=Tryz.underlying4
 a4:=Tryz.isAgg4
 z4:=Tryz.sizeOf4
 v4:=Tryz.zeroValue4
 t5:=Tryz.underlying5
 a5:=Tryz.isAgg5
 z5:=Tryz.sizeOf5
 v5:=Tryz.zeroValue5
 t9:=Tryz.underlying9
 a9:=Tryz.isAgg9
 z9:=Tryz.sizeOf9
 v9:=Tryz.zeroValue9
 t21:=Tryz.underlying21
 a21:=Tryz.isAgg21
 z21:=Tryz.sizeOf21
 v21:=Tryz.zeroValue21
 t46:=Tryz.underlying98
 a46:=Tryz.isAgg98
 z46:=Tryz.sizeOf98
 v46:=Tryz.zeroValue98
 t105:=Tryz.underlying221
 a105:=Tryz.isAgg221
 z105:=Tryz.sizeOf221
 v105:=Tryz.zeroValue221
 t116:=Tryz.underlying195
 a116:=Tryz.isAgg195
 z116:=Tryz.sizeOf195
 t117:=Tryz.underlying196
 a117:=Tryz.isAgg196
 z117:=Tryz.sizeOf196
 v117:=Tryz.zeroValue196
 t119:=Tryz.underlying259
 a119:=Tryz.isAgg259
 z119:=Tryz.sizeOf259
 t124:=Tryz.underlying199
 a124:=Tryz.isAgg199
 z124:=Tryz.sizeOf199
 v124:=Tryz.zeroValue199
 t138:=Tryz.underlying261
 a138:=Tryz.isAgg261
 z138:=Tryz.sizeOf261
 v138:=Tryz.zeroValue261
 t139:=Tryz.underlying262
 a139:=Tryz.isAgg262
 z139:=Tryz.sizeOf262
 v139:=Tryz.zeroValue262
 g3:=by kernel_rfl
 g4:=by kernel_rfl }
def Tryz.qV:Go.Shelf.Ren:=⟨fun | 105=>145 | 212=>174 | 99=>50 | 165=>175 | 166=>176 | 170=>177 | 169=>178 | 263=>206 | 264=>207 | 206=>83 | 240=>208 | 241=>209 | 276=>229 | 277=>230 | n=>n,fun | 9=>9 | 3=>3 | 4=>4 | 20=>20 | 0=>0 | 46=>98 | 109=>178 | 5=>5 | 72=>182 | 76=>186 | 51=>144 | 146=>203 | 53=>22 | 148=>191 | 70=>180 | 37=>23 | 75=>185 | 127=>220 | 164=>236 | 80=>189 | n=>n,fun | n=>n⟩
theorem Tryz.Gt:Go.Proofs.Lays.n105 Tryz.prog Tryz.qV:={
 mixed:=by kernel_rfl
 f99:=Tryz.func50.trans (congrArg some (by kernel_rfl))
 f105:=Tryz.func145.trans (congrArg some (by kernel_rfl))
 f165:=Tryz.func175.trans (congrArg some (by kernel_rfl))
 f166:=Tryz.func176.trans (congrArg some (by kernel_rfl))
 f169:=Tryz.func178.trans (congrArg some (by kernel_rfl))
 f170:=Tryz.func177.trans (congrArg some (by kernel_rfl))
 f206:=Tryz.func83.trans (congrArg some (by kernel_rfl))
 f212:=Tryz.func174.trans (congrArg some (by kernel_rfl))
 f240:=Tryz.func208.trans (congrArg some (by kernel_rfl))
 f241:=Tryz.func209.trans (congrArg some (by kernel_rfl))
 f263:=Tryz.func206.trans (congrArg some (by kernel_rfl))
 f264:=Tryz.func207.trans (congrArg some (by kernel_rfl))
 f276:=Tryz.func229.trans (congrArg some (by kernel_rfl))
 f277:=Tryz.func230.trans (congrArg some (by kernel_rfl))
 t0:=Tryz.underlying0
 a0:=Tryz.isAgg0
 z0:=Tryz.sizeOf0
 v0:=Tryz.zeroValue0
 t3:=Tryz.underlying3
 a3:=Tryz.isAgg3
 z3:=Tryz.sizeOf3
 v3:=Tryz.zeroValue3
 t4:=Tryz.underlying4
 a4:=Tryz.isAgg4
 z4:=Tryz.sizeOf4
 v4:=Tryz.zeroValue4
 t5:=Tryz.underlying5
 a5:=Tryz.isAgg5
 z5:=Tryz.sizeOf5
 v5:=Tryz.zeroValue5
 t9:=Tryz.underlying9
 a9:=Tryz.isAgg9
 z9:=Tryz.sizeOf9
 v9:=Tryz.zeroValue9
 t20:=Tryz.underlying20
 a20:=Tryz.isAgg20
 z20:=Tryz.sizeOf20
 v20:=Tryz.zeroValue20
 t37:=Tryz.underlying23
 a37:=Tryz.isAgg23
 z37:=Tryz.sizeOf23
 v37:=Tryz.zeroValue23
 t46:=Tryz.underlying98
 a46:=Tryz.isAgg98
 z46:=Tryz.sizeOf98
 v46:=Tryz.zeroValue98
 t51:=Tryz.underlying144
 a51:=Tryz.isAgg144
 z51:=Tryz.sizeOf144
 v51:=Tryz.zeroValue144
 t53:=Tryz.underlying22
 a53:=Tryz.isAgg22
 z53:=Tryz.sizeOf22
 v53:=Tryz.zeroValue22
 t70:=Tryz.underlying180
 a70:=Tryz.isAgg180
 z70:=Tryz.sizeOf180
 v70:=Tryz.zeroValue180
 t72:=Tryz.underlying182
 a72:=Tryz.isAgg182
 z72:=Tryz.sizeOf182
 v72:=Tryz.zeroValue182
 t75:=Tryz.underlying185
 a75:=Tryz.isAgg185
 z75:=Tryz.sizeOf185
 v75:=Tryz.zeroValue185
 t76:=Tryz.underlying186
 a76:=Tryz.isAgg186
 z76:=Tryz.sizeOf186
 v76:=Tryz.zeroValue186
 t109:=Tryz.underlying178
 a109:=Tryz.isAgg178
 z109:=Tryz.sizeOf178
 v109:=Tryz.zeroValue178
 t127:=Tryz.underlying220
 a127:=Tryz.isAgg220
 z127:=Tryz.sizeOf220
 v127:=Tryz.zeroValue220
 t146:=Tryz.underlying203
 a146:=Tryz.isAgg203
 z146:=Tryz.sizeOf203
 v146:=Tryz.zeroValue203
 t148:=Tryz.underlying191
 a148:=Tryz.isAgg191
 z148:=Tryz.sizeOf191
 v148:=Tryz.zeroValue191
 t164:=Tryz.underlying236
 a164:=Tryz.isAgg236
 z164:=Tryz.sizeOf236
 v164:=Tryz.zeroValue236 }
theorem Tryz.FD:Builder.Extra Tryz.prog Tryz.qV:={
 sizeBuilder:=by kernel_rfl
 liesBuilder:=by kernel_rfl
 t5:=Tryz.underlying5
 a5:=Tryz.isAgg5
 z5:=Tryz.sizeOf5
 v5:=Tryz.zeroValue5
 infoByte:=by kernel_rfl
 cellsByte:=by kernel_rfl
 sizeByte:=by kernel_rfl
 neB5:=by decide }
def Tryz.qU:Go.Shelf.Ren:=⟨fun | 156=>222 | 165=>175 | 166=>176 | 169=>178 | 240=>208 | 241=>209 | 276=>229 | 277=>230 | n=>n,fun | 31=>103 | 9=>9 | 3=>3 | 4=>4 | 0=>0 | 20=>20 | 72=>182 | 76=>186 | 70=>180 | 37=>23 | 75=>185 | 127=>220 | 164=>236 | 5=>5 | 80=>189 | n=>n,fun | n=>n⟩
theorem Tryz.Az:Go.Proofs.Lays.n156 Tryz.prog Tryz.qU:={
 mixed:=by kernel_rfl
 f156:=Tryz.func222.trans (congrArg some (by kernel_rfl))
 f165:=Tryz.func175.trans (congrArg some (by kernel_rfl))
 f166:=Tryz.func176.trans (congrArg some (by kernel_rfl))
 f169:=Tryz.func178.trans (congrArg some (by kernel_rfl))
 f240:=Tryz.func208.trans (congrArg some (by kernel_rfl))
 f241:=Tryz.func209.trans (congrArg some (by kernel_rfl))
 f276:=Tryz.func229.trans (congrArg some (by kernel_rfl))
 f277:=Tryz.func230.trans (congrArg some (by kernel_rfl))
 t0:=Tryz.underlying0
 a0:=Tryz.isAgg0
 z0:=Tryz.sizeOf0
 v0:=Tryz.zeroValue0
 t3:=Tryz.underlying3
 a3:=Tryz.isAgg3
 z3:=Tryz.sizeOf3
 v3:=Tryz.zeroValue3
 t4:=Tryz.underlying4
 a4:=Tryz.isAgg4
 z4:=Tryz.sizeOf4
 v4:=Tryz.zeroValue4
 t9:=Tryz.underlying9
 a9:=Tryz.isAgg9
 z9:=Tryz.sizeOf9
 v9:=Tryz.zeroValue9
 t20:=Tryz.underlying20
 a20:=Tryz.isAgg20
 z20:=Tryz.sizeOf20
 v20:=Tryz.zeroValue20
 t31:=Tryz.underlying103
 a31:=Tryz.isAgg103
 z31:=Tryz.sizeOf103
 v31:=Tryz.zeroValue103
 t37:=Tryz.underlying23
 a37:=Tryz.isAgg23
 z37:=Tryz.sizeOf23
 v37:=Tryz.zeroValue23
 t70:=Tryz.underlying180
 a70:=Tryz.isAgg180
 z70:=Tryz.sizeOf180
 v70:=Tryz.zeroValue180
 t72:=Tryz.underlying182
 a72:=Tryz.isAgg182
 z72:=Tryz.sizeOf182
 v72:=Tryz.zeroValue182
 t75:=Tryz.underlying185
 a75:=Tryz.isAgg185
 z75:=Tryz.sizeOf185
 v75:=Tryz.zeroValue185
 t76:=Tryz.underlying186
 a76:=Tryz.isAgg186
 z76:=Tryz.sizeOf186
 v76:=Tryz.zeroValue186
 t127:=Tryz.underlying220
 a127:=Tryz.isAgg220
 z127:=Tryz.sizeOf220
 v127:=Tryz.zeroValue220
 t164:=Tryz.underlying236
 a164:=Tryz.isAgg236
 z164:=Tryz.sizeOf236
 v164:=Tryz.zeroValue236 }
theorem Tryz.Hj:Builder.Extra Tryz.prog Tryz.qU:={
 sizeBuilder:=by kernel_rfl
 liesBuilder:=by kernel_rfl
 t5:=Tryz.underlying5
 a5:=Tryz.isAgg5
 z5:=Tryz.sizeOf5
 v5:=Tryz.zeroValue5
 infoByte:=by kernel_rfl
 cellsByte:=by kernel_rfl
 sizeByte:=by kernel_rfl
 neB5:=by decide }
def Tryz.vv:Go.Shelf.Ren:=⟨fun | 171=>84 | 243=>112 | 246=>139 | 283=>162 | 284=>163 | 285=>164 | 286=>165 | 129=>191 | 317=>190 | 318=>192 | 319=>193 | 320=>194 | 337=>216 | 338=>217 | n=>n,fun | 3=>3 | 9=>9 | 2=>2 | 4=>4 | 171=>163 | 0=>0 | 53=>22 | 37=>23 | 5=>5 | 173=>166 | 212=>206 | 51=>144 | 20=>20 | 213=>207 | 46=>98 | 232=>245 | 233=>246 | n=>n,fun | 17=>1 | 18=>4 | 19=>5 | n=>n⟩
theorem Tryz.DB:Go.Proofs.LaysM.n171 Tryz.prog Tryz.vv:={
 mixed:=by kernel_rfl
 f129:=Tryz.func191.trans (congrArg some (by kernel_rfl))
 f171:=Tryz.func84.trans (congrArg some (by kernel_rfl))
 f243:=Tryz.func112.trans (congrArg some (by kernel_rfl))
 f246:=Tryz.func139.trans (congrArg some (by kernel_rfl))
 f283:=Tryz.func162.trans (congrArg some (by kernel_rfl))
 f284:=Tryz.func163.trans (congrArg some (by kernel_rfl))
 f285:=Tryz.func164.trans (congrArg some (by kernel_rfl))
 f286:=Tryz.func165.trans (congrArg some (by kernel_rfl))
 f317:=Tryz.func190.trans (congrArg some (by kernel_rfl))
 f318:=Tryz.func192.trans (congrArg some (by kernel_rfl))
 f319:=Tryz.func193.trans (congrArg some (by kernel_rfl))
 f320:=Tryz.func194.trans (congrArg some (by kernel_rfl))
 f337:=Tryz.func216.trans (congrArg some (by kernel_rfl))
 f338:=Tryz.func217.trans (congrArg some (by kernel_rfl))
 t0:=Tryz.underlying0
 a0:=Tryz.isAgg0
 z0:=Tryz.sizeOf0
 v0:=Tryz.zeroValue0
 t2:=Tryz.underlying2
 a2:=Tryz.isAgg2
 z2:=Tryz.sizeOf2
 v2:=Tryz.zeroValue2
 t3:=Tryz.underlying3
 a3:=Tryz.isAgg3
 z3:=Tryz.sizeOf3
 v3:=Tryz.zeroValue3
 t4:=Tryz.underlying4
 a4:=Tryz.isAgg4
 z4:=Tryz.sizeOf4
 v4:=Tryz.zeroValue4
 t5:=Tryz.underlying5
 a5:=Tryz.isAgg5
 z5:=Tryz.sizeOf5
 v5:=Tryz.zeroValue5
 t9:=Tryz.underlying9
 a9:=Tryz.isAgg9
 z9:=Tryz.sizeOf9
 v9:=Tryz.zeroValue9
 t20:=Tryz.underlying20
 a20:=Tryz.isAgg20
 z20:=Tryz.sizeOf20
 v20:=Tryz.zeroValue20
 t37:=Tryz.underlying23
 a37:=Tryz.isAgg23
 z37:=Tryz.sizeOf23
 v37:=Tryz.zeroValue23
 t46:=Tryz.underlying98
 a46:=Tryz.isAgg98
 z46:=Tryz.sizeOf98
 v46:=Tryz.zeroValue98
 t51:=Tryz.underlying144
 a51:=Tryz.isAgg144
 z51:=Tryz.sizeOf144
 v51:=Tryz.zeroValue144
 t53:=Tryz.underlying22
 a53:=Tryz.isAgg22
 z53:=Tryz.sizeOf22
 v53:=Tryz.zeroValue22
 t171:=Tryz.underlying163
 a171:=Tryz.isAgg163
 z171:=Tryz.sizeOf163
 v171:=Tryz.zeroValue163
 t173:=Tryz.underlying166
 a173:=Tryz.isAgg166
 z173:=Tryz.sizeOf166
 v173:=Tryz.zeroValue166
 t212:=Tryz.underlying206
 a212:=Tryz.isAgg206
 z212:=Tryz.sizeOf206
 v212:=Tryz.zeroValue206
 t213:=Tryz.underlying207
 a213:=Tryz.isAgg207
 z213:=Tryz.sizeOf207
 t232:=Tryz.underlying245
 a232:=Tryz.isAgg245
 z232:=Tryz.sizeOf245
 v232:=Tryz.zeroValue245
 t233:=Tryz.underlying246
 a233:=Tryz.isAgg246
 z233:=Tryz.sizeOf246
 v233:=Tryz.zeroValue246
 g17:=by kernel_rfl
 g18:=by kernel_rfl
 g19:=by kernel_rfl
 i0:=by kernel_rfl
 i2:=by kernel_rfl
 i3:=by kernel_rfl
 i4:=by kernel_rfl
 i5:=by kernel_rfl
 i9:=by kernel_rfl
 i20:=by kernel_rfl
 i37:=by kernel_rfl
 i46:=by kernel_rfl
 i51:=by kernel_rfl
 i53:=by kernel_rfl
 i171:=by kernel_rfl
 i173:=by kernel_rfl
 i212:=by kernel_rfl
 i232:=by kernel_rfl
 i233:=by kernel_rfl
 m17:=by kernel_rfl
 m18:=by kernel_rfl
 m19:=by kernel_rfl }
def Tryz.vu:Go.Shelf.Ren:=⟨fun | 173=>113 | 246=>139 | 283=>162 | 284=>163 | 285=>164 | 286=>165 | 129=>191 | 317=>190 | 318=>192 | 319=>193 | 320=>194 | 337=>216 | 338=>217 | n=>n,fun | 2=>2 | 3=>3 | 9=>9 | 4=>4 | 171=>163 | 0=>0 | 53=>22 | 37=>23 | 5=>5 | 173=>166 | 212=>206 | 51=>144 | 20=>20 | 213=>207 | 46=>98 | 232=>245 | 233=>246 | n=>n,fun | 17=>1 | 18=>4 | 19=>5 | n=>n⟩
theorem Tryz.DA:Go.Proofs.LaysM.n173 Tryz.prog Tryz.vu:={
 mixed:=by kernel_rfl
 f129:=Tryz.func191.trans (congrArg some (by kernel_rfl))
 f173:=Tryz.func113.trans (congrArg some (by kernel_rfl))
 f246:=Tryz.func139.trans (congrArg some (by kernel_rfl))
 f283:=Tryz.func162.trans (congrArg some (by kernel_rfl))
 f284:=Tryz.func163.trans (congrArg some (by kernel_rfl))
 f285:=Tryz.func164.trans (congrArg some (by kernel_rfl))
 f286:=Tryz.func165.trans (congrArg some (by kernel_rfl))
 f317:=Tryz.func190.trans (congrArg some (by kernel_rfl))
 f318:=Tryz.func192.trans (congrArg some (by kernel_rfl))
 f319:=Tryz.func193.trans (congrArg some (by kernel_rfl))
 f320:=Tryz.func194.trans (congrArg some (by kernel_rfl))
 f337:=Tryz.func216.trans (congrArg some (by kernel_rfl))
 f338:=Tryz.func217.trans (congrArg some (by kernel_rfl))
 t0:=Tryz.underlying0
 a0:=Tryz.isAgg0
 z0:=Tryz.sizeOf0
 v0:=Tryz.zeroValue0
 t2:=Tryz.underlying2
 a2:=Tryz.isAgg2
 z2:=Tryz.sizeOf2
 v2:=Tryz.zeroValue2
 t3:=Tryz.underlying3
 a3:=Tryz.isAgg3
 z3:=Tryz.sizeOf3
 v3:=Tryz.zeroValue3
 t4:=Tryz.underlying4
 a4:=Tryz.isAgg4
 z4:=Tryz.sizeOf4
 v4:=Tryz.zeroValue4
 t5:=Tryz.underlying5
 a5:=Tryz.isAgg5
 z5:=Tryz.sizeOf5
 v5:=Tryz.zeroValue5
 t9:=Tryz.underlying9
 a9:=Tryz.isAgg9
 z9:=Tryz.sizeOf9
 v9:=Tryz.zeroValue9
 t20:=Tryz.underlying20
 a20:=Tryz.isAgg20
 z20:=Tryz.sizeOf20
 v20:=Tryz.zeroValue20
 t37:=Tryz.underlying23
 a37:=Tryz.isAgg23
 z37:=Tryz.sizeOf23
 v37:=Tryz.zeroValue23
 t46:=Tryz.underlying98
 a46:=Tryz.isAgg98
 z46:=Tryz.sizeOf98
 v46:=Tryz.zeroValue98
 t51:=Tryz.underlying144
 a51:=Tryz.isAgg144
 z51:=Tryz.sizeOf144
 v51:=Tryz.zeroValue144
 t53:=Tryz.underlying22
 a53:=Tryz.isAgg22
 z53:=Tryz.sizeOf22
 v53:=Tryz.zeroValue22
 t171:=Tryz.underlying163
 a171:=Tryz.isAgg163
 z171:=Tryz.sizeOf163
 v171:=Tryz.zeroValue163
 t173:=Tryz.underlying166
 a173:=Tryz.isAgg166
 z173:=Tryz.sizeOf166
 v173:=Tryz.zeroValue166
 t212:=Tryz.underlying206
 a212:=Tryz.isAgg206
 z212:=Tryz.sizeOf206
 v212:=Tryz.zeroValue206
 t213:=Tryz.underlying207
 a213:=Tryz.isAgg207
 z213:=Tryz.sizeOf207
 t232:=Tryz.underlying245
 a232:=Tryz.isAgg245
 z232:=Tryz.sizeOf245
 v232:=Tryz.zeroValue245
 t233:=Tryz.underlying246
 a233:=Tryz.isAgg246
 z233:=Tryz.sizeOf246
 v233:=Tryz.zeroValue246
 g17:=by kernel_rfl
 g18:=by kernel_rfl
 g19:=by kernel_rfl
 i0:=by kernel_rfl
 i2:=by kernel_rfl
 i3:=by kernel_rfl
 i4:=by kernel_rfl
 i5:=by kernel_rfl
 i9:=by kernel_rfl
 i20:=by kernel_rfl
 i37:=by kernel_rfl
 i46:=by kernel_rfl
 i51:=by kernel_rfl
 i53:=by kernel_rfl
 i171:=by kernel_rfl
 i173:=by kernel_rfl
 i212:=by kernel_rfl
 i232:=by kernel_rfl
 i233:=by kernel_rfl
 m17:=by kernel_rfl
 m18:=by kernel_rfl
 m19:=by kernel_rfl }
def Tryz.xn:Go.Shelf.Ren:=⟨fun | 283=>162 | n=>n,fun | 3=>3 | 9=>9 | 4=>4 | n=>n,fun | n=>n⟩
theorem Tryz.Gp:Go.Proofs.Lays.n283 Tryz.prog Tryz.xn:={
 mixed:=by kernel_rfl
 f283:=Tryz.func162.trans (congrArg some (by kernel_rfl))
 t3:=Tryz.underlying3
 a3:=Tryz.isAgg3
 z3:=Tryz.sizeOf3
 v3:=Tryz.zeroValue3
 t4:=Tryz.underlying4
 a4:=Tryz.isAgg4
 z4:=Tryz.sizeOf4
 v4:=Tryz.zeroValue4
 t9:=Tryz.underlying9
 a9:=Tryz.isAgg9
 z9:=Tryz.sizeOf9
 v9:=Tryz.zeroValue9 }
def Tryz.vt:Go.Shelf.Ren:=⟨fun | 284=>163 | 129=>191 | 317=>190 | 318=>192 | n=>n,fun | 53=>22 | 3=>3 | 212=>206 | 0=>0 | 4=>4 | 46=>98 | 5=>5 | 9=>9 | n=>n,fun | 17=>1 | n=>n⟩
theorem Tryz.Dz:Go.Proofs.LaysM.n284 Tryz.prog Tryz.vt:={
 mixed:=by kernel_rfl
 f129:=Tryz.func191.trans (congrArg some (by kernel_rfl))
 f284:=Tryz.func163.trans (congrArg some (by kernel_rfl))
 f317:=Tryz.func190.trans (congrArg some (by kernel_rfl))
 f318:=Tryz.func192.trans (congrArg some (by kernel_rfl))
 t0:=Tryz.underlying0
 a0:=Tryz.isAgg0
 z0:=Tryz.sizeOf0
 v0:=Tryz.zeroValue0
 t3:=Tryz.underlying3
 a3:=Tryz.isAgg3
 z3:=Tryz.sizeOf3
 v3:=Tryz.zeroValue3
 t4:=Tryz.underlying4
 a4:=Tryz.isAgg4
 z4:=Tryz.sizeOf4
 v4:=Tryz.zeroValue4
 t5:=Tryz.underlying5
 a5:=Tryz.isAgg5
 z5:=Tryz.sizeOf5
 v5:=Tryz.zeroValue5
 t9:=Tryz.underlying9
 a9:=Tryz.isAgg9
 z9:=Tryz.sizeOf9
 v9:=Tryz.zeroValue9
 t46:=Tryz.underlying98
 a46:=Tryz.isAgg98
 z46:=Tryz.sizeOf98
 v46:=Tryz.zeroValue98
 t53:=Tryz.underlying22
 a53:=Tryz.isAgg22
 z53:=Tryz.sizeOf22
 v53:=Tryz.zeroValue22
 t212:=Tryz.underlying206
 a212:=Tryz.isAgg206
 z212:=Tryz.sizeOf206
 v212:=Tryz.zeroValue206
 g17:=by kernel_rfl
 i0:=by kernel_rfl
 i3:=by kernel_rfl
 i4:=by kernel_rfl
 i5:=by kernel_rfl
 i9:=by kernel_rfl
 i46:=by kernel_rfl
 i53:=by kernel_rfl
 i212:=by kernel_rfl
 m17:=by kernel_rfl }
def Tryz.xm:Go.Shelf.Ren:=⟨fun | 285=>164 | n=>n,fun | 37=>23 | 53=>22 | 3=>3 | 4=>4 | 51=>144 | 9=>9 | 5=>5 | 0=>0 | n=>n,fun | n=>n⟩
theorem Tryz.Gn:Go.Proofs.Lays.n285 Tryz.prog Tryz.xm:={
 mixed:=by kernel_rfl
 f285:=Tryz.func164.trans (congrArg some (by kernel_rfl))
 t0:=Tryz.underlying0
 a0:=Tryz.isAgg0
 z0:=Tryz.sizeOf0
 v0:=Tryz.zeroValue0
 t3:=Tryz.underlying3
 a3:=Tryz.isAgg3
 z3:=Tryz.sizeOf3
 v3:=Tryz.zeroValue3
 t4:=Tryz.underlying4
 a4:=Tryz.isAgg4
 z4:=Tryz.sizeOf4
 v4:=Tryz.zeroValue4
 t5:=Tryz.underlying5
 a5:=Tryz.isAgg5
 z5:=Tryz.sizeOf5
 v5:=Tryz.zeroValue5
 t9:=Tryz.underlying9
 a9:=Tryz.isAgg9
 z9:=Tryz.sizeOf9
 v9:=Tryz.zeroValue9
 t37:=Tryz.underlying23
 a37:=Tryz.isAgg23
 z37:=Tryz.sizeOf23
 v37:=Tryz.zeroValue23
 t51:=Tryz.underlying144
 a51:=Tryz.isAgg144
 z51:=Tryz.sizeOf144
 v51:=Tryz.zeroValue144
 t53:=Tryz.underlying22
 a53:=Tryz.isAgg22
 z53:=Tryz.sizeOf22
 v53:=Tryz.zeroValue22 }
end Go.Proofs
namespace Go.Proofs
open Go.Shelf Go.RowKit Go.Sort Go.Lib
set_option maxHeartbeats 6400000
set_option maxRecDepth 100000
theorem xC (w:World) (T:TypeId) (nd:Nat) (hs:nd≤24):Holds (fun (b:UInt8)=>Value.int .u8 (b.toNat:Int)) (w.alloc (.cells Lib.zeros24 T)) w.heap.size 0 (Array.replicate nd (0:UInt8)):=fun j hj=>by
 have tM:j<nd:=by simpa using hj
 refine ⟨?_,World.frozen?_alloc_new _ _ _ _⟩
 rw [World.cell?_alloc_new,Lib.zeros24_at _ (by omega),getElem!_pos _ j hj]
 simp
theorem Ee (w:World) (o:Obj) (dk:Array UInt8) (k:Nat):∃os,(putRow (fun (b:UInt8)=>Value.int .u8 (b.toNat:Int)) (w.alloc o) w.heap.size 0 dk).drewN k=grow (w.drewN k) os:=by
 rw [alloc_eq_grow]
 obtain ⟨R5,_,e⟩:=putRow_grow_new (fun (b:UInt8)=>Value.int .u8 (b.toNat:Int)) w #[o] w.heap.size 0 dk (Nat.le_refl _)
 exact ⟨R5,by rw [e];rfl⟩
theorem Tryz.GN (u:Nat) (Je:u<18446744073709551616) (w:World) (OD:Lib.TabIs Tryz.prog w "internal/strconv.uint64pow10" .u64 Lib.pow10Tab) :
  Calls Tryz.prog 181 #[.int .u64 u,.int .i64 10] w fun e w'=>e = .returned (.string ⟨(Lib.decDigits u).toArray⟩)∧∃k os,w'=grow (w.drewN k) os:=by
 by_cases hs:u<100
 ·go_enter Tryz.func181,Tryz.ntmps181
  go_wp2_with (go_at_call 162;refine (Any.internal_strconv_small Tryz.Gp u hs _).mono ?_;rintro e w' ⟨rfl,rfl⟩)
  go_ret
  exact ⟨rfl,0,#[],by simp [World.drewN_zero]⟩
 ·have HH:1≤u:=by omega
  have Qg:Lib.nDigits u≤20:=by have:=Lib.numDigits_eq u HH Je;split at this <;> omega
  have KN:Lib.nDigits u≤24:=by omega
  have Pf:Tryz.prog.arrayLen 163=24:=by kernel_rfl
  have Su:∀W,(Instr.sliceAt 163 (.pointer (some ⟨w.heap.size,0,none⟩)) none (some (.int .i64 (Lib.nDigits u:Int))) none).run Tryz.prog W = .ok (.slice (some ⟨w.heap.size,0,none⟩) (Lib.nDigits u) 24) W:=fun W=>by
   rw [run_sliceAt_array_h W 163 ⟨w.heap.size,0,none⟩ (by kernel_rfl) .i64 (Lib.nDigits u:Int) (by omega) (by rw [Pf];omega)]
   go_simp
  have Po:=xC w 163 (Lib.nDigits u) (by omega)
  have LX:=Any.internal_strconv_formatBase10 Tryz.Gn w.heap.size 0 24 u (Array.replicate (Lib.nDigits u) 0) (w.alloc (.cells Lib.zeros24 163)) Po (by rw [Array.size_replicate];exact Lib.lt_pow_nDigits u) Je (by rw [Array.size_replicate];omega)
  rw [Array.size_replicate] at LX
  have TI:=Lib.hid Po
  clear Po Pf
  go_enter Tryz.func181,Tryz.ntmps181
  go_wp2_with (first
   | (go_at_call 163;refine (Any.internal_strconv_numDigits Tryz.Dz u HH Je _ (Lib.tabIs_alloc OD _)).mono ?_;rintro e w' ⟨rfl,rfl⟩))
  go_at_call 164
  refine LX.mono ?_
  rintro e w' ⟨rfl,k,v',dk,rfl,hF⟩
  have UU:(convert 23 9 (.slice (some ⟨w.heap.size,0,none⟩) (Lib.nDigits u) 24)).run Tryz.prog ((putRow (fun (b:UInt8)=>Value.int .u8 (b.toNat:Int)) (w.alloc (.cells Lib.zeros24 163)) w.heap.size 0 dk).drewN k) = .ok (.string ⟨(Lib.decDigits u).toArray⟩) ((putRow (fun (b:UInt8)=>Value.int .u8 (b.toNat:Int)) (w.alloc (.cells Lib.zeros24 163)) w.heap.size 0 dk).drewN k):=by
   have h:=run_convert_bytes_back (P:=Tryz.prog) ((putRow (fun (b:UInt8)=>Value.int .u8 (b.toNat:Int)) (w.alloc (.cells Lib.zeros24 163)) w.heap.size 0 dk).drewN k) 23 9 5 ⟨w.heap.size,0,none⟩ 24 (Lib.decDigits u) (by kernel_rfl) (by kernel_rfl) (by kernel_rfl) (fun j hj=>by
    rw [Lib.row_is_numeral hF j hj,Lib.add_plain,World.cell?_drewN]
    exact cell?_putRow (fun (b:UInt8)=>Value.int .u8 (b.toNat:Int)) _ w.heap.size 0 _ dk TI.out (by rw [hF.size,Array.size_replicate]) j (by rw [hF.size];rw [Lib.decDigits_length] at hj;exact hj))
   rw [Lib.decDigits_length] at h
   exact h
  go_wp2
  go_ret
  obtain ⟨os,eo⟩:=Ee w (.cells Lib.zeros24 163) dk k
  exact ⟨rfl,k,os,eo⟩
end Go.Proofs
namespace Go.Eng
theorem ED (n:Nat):Nr.dec n=ie n:=by
 induction n using Nat.strongRecOn with
 | _ n ih =>
  rw [Nr.dec,ie]
  by_cases h:n<10
  ·rw [aw h,dif_pos h]
  ·rw [au h,dif_neg h,ih (n / 10) (by omega)]
theorem zp (n:Nat):Lib.decDigits n=Nr.dec n:=by rw [yb,ED]
theorem vq (v:Int):Lib.itoa v=Nr.itoa v:=by
 rw [Nr.nN]
 unfold Lib.itoa
 by_cases h:v<0
 ·rw [aw h,aw h,zp]
 ·rw [au h,au h,zp,show v.toNat=v.natAbs by omega]
end Go.Eng
set_option maxRecDepth 20000
namespace Go.Eng
open Go.RowKit Go.Proofs Go.Sort
theorem qH {c:bz} (h:c.all (fun b=>decide (b.toNat<128))=true):∀(j:Nat) b,(⟨⟨c⟩⟩:ByteArray).data.toList[j]?=some b→b.toNat<128:=fun j b hb=>ar (aC.1 h b (aK (by simpa using hb)))
theorem rP {s c:bz} (h:(decide (s.length≤1099511627776∧c.length≤100)&&c.all (fun b=>decide (b.toNat<128)))=true):(⟨⟨s⟩⟩:ByteArray).size≤9223372036854775807∧(⟨⟨c⟩⟩:ByteArray).size<4294967281∧c.all (fun b=>decide (b.toNat<128))=true:=by
 simp only [ah,aA] at h
 refine ⟨?_,?_,by simpa using h.2⟩
 ·show (⟨s⟩:Array UInt8).size≤_
  rw [List.size_toArray];omega
 ·show (⟨c⟩:Array UInt8).size<_
  rw [List.size_toArray];omega
theorem vj {w:World} {R:Reach} (hG:GlOK cnGl R w):Lib.TabIs Tryz.prog w "internal/strconv.uint64pow10" .u64 Lib.pow10Tab:=by
 have e:cnGl 1=some (tD .u64 (Lib.pow10Tab.headD 0 :: Lib.pow10Tab.tail)):=rfl
 exact Iz hG e (by kernel_rfl)
theorem oL:∀c:Nat,Lib.repeatL [48] c=Sh.dU c
 | 0=>rfl
 | c+1=>by
  rw [Lib.repeatL,oL c]
  unfold Sh.dU
  rw [aj,aj,List.replicate_succ];rfl
theorem kZ.ok:bA Go.Proofs.Tryz.prog cnGl 226 (kZ.c,kZ.sg):=gY (by kernel_rfl) fun ti nI w R xs hc ha hR hG=>by
 unfold kZ.c at hc
 split at hc
 ·rename_i s c
  obtain ⟨hp,rfl⟩:=hc
  obtain rfl:=jd ha rfl
  obtain ⟨p1,p2,p3⟩:=rP hp
  refine (Any.strings_Trim_laid Tryz.Gs (by kernel_rfl) _ _ w p1 p2 (qH p3)).mono ?_
  rintro e w' ⟨rfl,hb⟩
  exact ⟨_,rfl,hb,fun R w'=>mZ oM⟩
 ·exact hc.elim
theorem gq.ok:bA Go.Proofs.Tryz.prog cnGl 150 (gq.c,gq.sg):=gY (by kernel_rfl) fun ti nI w R xs hc ha hR hG=>by
 unfold gq.c at hc
 split at hc
 ·rename_i s c
  obtain ⟨hp,rfl⟩:=hc
  obtain rfl:=jd ha rfl
  obtain ⟨p1,p2,p3⟩:=rP hp
  refine (Any.strings_TrimLeft_laid Tryz.Gr (by kernel_rfl) _ _ w p2 (qH p3)).mono ?_
  rintro e w' ⟨rfl,hb⟩
  exact ⟨_,rfl,hb,fun R w'=>mZ oM⟩
 ·exact hc.elim
theorem fK.ok:bA Go.Proofs.Tryz.prog cnGl 204 (fK.c,fK.sg):=gY (by kernel_rfl) fun ti nI w R xs hc ha hR hG=>by
 unfold fK.c at hc
 split at hc
 ·rename_i s c
  obtain ⟨hp,rfl⟩:=hc
  obtain rfl:=jd ha rfl
  obtain ⟨p1,p2,p3⟩:=rP hp
  refine (Any.strings_TrimRight_laid Tryz.Gq (by kernel_rfl) _ _ w p1 p2 (qH p3)).mono ?_
  rintro e w' ⟨rfl,hb⟩
  exact ⟨_,rfl,hb,fun R w'=>mZ oM⟩
 ·exact hc.elim
theorem lx.ok:bA Go.Proofs.Tryz.prog cnGl 217 (lx.c,lx.sg):=gY (by kernel_rfl) fun ti nI w R xs hc ha hR hG=>by
 unfold lx.c at hc
 split at hc
 ·rename_i x
  cases hc
  obtain rfl:=jd ha rfl
  refine (Any7.bits_TrailingZeros64 Tryz.IX x.toNat x.toNat_lt w fun _ j hj=>?_).mono ?_
  ·have:=(hG 5 (tD .u8 (Lib.deBruijn64tab.map Int.ofNat)) rfl j).2
   rw [tD,List.map_map,br,aq hj] at this
   rw [af,aq hj]
   exact this
  ·rintro e w' ⟨rfl,rfl⟩
   exact ⟨_,rfl,Below.refl _ _,fun R w'=>mZ Ll⟩
 ·exact hc.elim
theorem iG.ok:bA Go.Proofs.Tryz.prog cnGl 84 (iG.c,iG.sg):=gY (by kernel_rfl) fun ti nI w R xs hc ha hR hG=>by
 unfold iG.c at hc
 split at hc
 ·rename_i n
  obtain ⟨hp,rfl⟩:=hc
  obtain rfl:=jd ha rfl
  have hp:=ar (Nr.DS hp)
  refine (Any.strconv_Itoa Tryz.DB n hp.1 hp.2 w (vj hG)).mono ?_
  rintro e w' ⟨rfl,q,os,rfl⟩
  exact ⟨_,rfl,oB _ _ _,fun R w'=>by rw [vq];exact mZ oM⟩
 ·exact hc.elim
theorem gR.ok:bA Go.Proofs.Tryz.prog cnGl 113 (gR.c,gR.sg):=gY (by kernel_rfl) fun ti nI w R xs hc ha hR hG=>by
 unfold gR.c at hc
 split at hc
 ·rename_i n b
  obtain ⟨hp,rfl⟩:=hc
  obtain rfl:=jd ha rfl
  rw [ah] at hp
  obtain ⟨hp,hb⟩:=hp
  have hp:=ar (Nr.DS hp)
  obtain rfl:=ar hb
  refine (Any.strconv_FormatInt_10 Tryz.DA n hp.1 hp.2 w (vj hG)).mono ?_
  rintro e w' ⟨rfl,q,os,rfl⟩
  exact ⟨_,rfl,oB _ _ _,fun R w'=>by rw [vq];exact mZ oM⟩
 ·exact hc.elim
theorem lf.ok:bA Go.Proofs.Tryz.prog cnGl 181 (lf.c,lf.sg):=gY (by kernel_rfl) fun ti nI w R xs hc ha hR hG=>by
 unfold lf.c at hc
 split at hc
 ·rename_i v b
  obtain ⟨hp,rfl⟩:=hc
  obtain rfl:=jd ha rfl
  obtain rfl:=ar hp
  refine (Tryz.GN v.toNat v.toNat_lt w (vj hG)).mono ?_
  rintro e w' ⟨rfl,q,os,rfl⟩
  exact ⟨_,rfl,oB _ _ _,fun R w'=>by rw [zp];exact mZ oM⟩
 ·exact hc.elim
theorem fB.ok:bA Go.Proofs.Tryz.prog cnGl 145 (fB.c,fB.sg):=gY (by kernel_rfl) fun ti nI w R xs hc ha hR hG=>by
 unfold fB.c at hc
 split at hc
 ·rename_i s n
  obtain ⟨hp,rfl⟩:=hc
  obtain rfl:=jd ha rfl
  obtain ⟨rfl,h1,h2⟩:=ar hp
  obtain ⟨c,rfl⟩:=Int.eq_ofNat_of_zero_le h1
  refine (Any.strings_Repeat Tryz.Gt Tryz.FD ⟨#[48]⟩ c w (by omega) (by show 1 * c≤_;omega)).mono ?_
  rintro e w' ⟨rfl,hb⟩
  refine ⟨_,rfl,hb,fun R w'=>?_⟩
  have e:Lib.repeatL (⟨#[48]⟩:ByteArray).data.toList c=Sh.dU c:=oL c
  rw [e]
  exact mZ oM
 ·exact hc.elim
theorem si {R:Reach} {w:World} {b:Nat}:∀{l:List bz} {off:Nat},iz R w 1 (l.map (fe.tv .ss)) b off→∀j x,l[j]?=some x→R b (off+j)∧w.cell? ⟨b,off+j,none⟩=some (.string ⟨⟨x⟩⟩)
 | [],_,_,j,x,h=>by simp at h
 | s :: r,off,h,j,x,hx=>by
  rw [aX] at h
  cases h with
  | cons h1 h2 =>
   cases h1 with
   | one a b c d e =>
    obtain rfl:=e.dr rfl
    cases j with
    | zero=>simp at hx;subst hx;exact ⟨b,c⟩
    | succ j =>
     have:=si h2 j x (by simpa using hx)
     rw [show off+1+j=off+(j+1) by omega] at this
     exact this
theorem BK (xs:List ByteArray):Lib.join (xs.map (·.data.toList)) []=(xs.map (·.data.toList)).flatten:=by
 unfold Lib.join
 induction xs with
 | nil=>rfl
 | cons x r ih =>
  cases r with
  | nil=>simp [List.intercalate]
  | cons y r=>simp [List.intercalate,List.intersperse] at ih ⊢;exact ih
theorem k9.ok:bA Go.Proofs.Tryz.prog cnGl 222 (k9.c,k9.sg):=gY (by kernel_rfl) fun ti nI w R xs hc ha hR hG=>by
 unfold k9.c at hc
 split at hc
 ·rename_i l s
  obtain ⟨hp,rfl⟩:=hc
  obtain ⟨rfl,h1,h2⟩:=ar hp
  cases ha with
  | cons hs ht =>
   cases ht with
   | cons hq ht =>
    obtain rfl:=hq.dr rfl
    cases ht
    have none_:∀(a:Option Addr) (c:Nat),l=[]→Calls Tryz.prog 222 ⟨[.slice a 0 c,.string ⟨⟨[]⟩⟩]⟩ w fun e w'=>∃x,e = .returned x∧Below w.heap.size w w'∧∀R w',iB R w' [.s l.flatten] [x]:=fun a c h0=>by
     refine (Any.strings_Join_none Tryz.Az Tryz.Hj a c ⟨#[]⟩ w).mono ?_
     rintro e w' ⟨rfl,rfl⟩
     refine ⟨_,rfl,Below.refl _ _,fun R w'=>?_⟩
     rw [h0];exact mZ oM
    cases hs with
    | sc h=>cases h
    | sn=>exact none_ _ _ rfl
    | em _ hc=>exact none_ _ _ rfl
    | @sl _ _ b off n cap e1 e2 e3 hE =>
     subst e1
     by_cases h0:l=[]
     ·rw [h0];rw [h0] at none_;exact none_ _ _ rfl
     ·have iZ:=si hE
      have hb:b<w.heap.size:=by
       obtain ⟨x,hx⟩:∃x,l[0]?=some x:=⟨l[0]'(List.length_pos_iff.2 h0),aq _⟩
       exact hR _ _ (iZ 0 x hx).1
      have ed:(l.map fun s=>(⟨⟨s⟩⟩:ByteArray)).map (·.data.toList)=l:=by rw [List.map_map];exact List.map_id l
      have hj:=BK (l.map fun s=>(⟨⟨s⟩⟩:ByteArray))
      rw [ed] at hj
      have:=Any.strings_Join Tryz.Az Tryz.Hj b off cap (l.map fun s=>(⟨⟨s⟩⟩:ByteArray)) ⟨#[]⟩ w (fun j x hx=>by
       rw [br] at hx
       cases hl:l[j]? with
       | none=>rw [hl] at hx;cases hx
       | some y=>rw [hl] at hx;cases hx;exact (iZ j y hl).2) hb (by rw [bf];omega) (by rw [bf];exact e2) (by rw [ed];show (Lib.join l []).length≤_;rw [hj];omega)
      rw [bf] at this
      refine this.mono ?_
      rintro e w' ⟨rfl,Fy⟩
      refine ⟨_,rfl,Fy,fun R w'=>?_⟩
      rw [ed]
      have e9:Lib.join l (⟨#[]⟩:ByteArray).data.toList=l.flatten:=hj
      rw [e9]
      exact mZ oM
 ·exact hc.elim
end Go.Eng
set_option maxRecDepth 20000
namespace Go.Eng
open Go.IntWalk
theorem s9 {R:Type} {b p:Bool} {x y:Option R} (hp:p=true) (h:b=true→x=y):cond b (both x (ck p y)) (ck p y)=y:=by
 subst hp
 cases b with
 | false=>rfl
 | true=>rw [h rfl];exact Cf _
theorem eI.goal (a:List UInt16) (hp:fC a.length 2=true):eI.F a=some [.sl .ws a]:=by
 rw [eI.eJ]
 exact s9 (by simpa using hp) fun h=>by rw [List.isEmpty_iff.1 h];rfl
theorem fx.goal (l:List Int) (hp:fC l.length 8=true):fx.F l=some [.sl .is l,.sl .is l]:=by
 rw [fx.eJ]
 exact s9 (by simpa using hp) fun h=>by rw [List.isEmpty_iff.1 h];rfl
theorem cN.goal (v:UInt64) (b:Int) (hp:decide (b=10)=true):cN.F v b=some [.s (Nr.dec v.toNat)]:=by
 rw [cN.eJ,hp];rfl
theorem ends {α:Type}:∀m:List α,m=[]∨(∃x,m=[x])∨∃x r y,m=x :: (r++[y])
 | [] => .inl rfl
 | [x] => .inr (.inl ⟨x,rfl⟩)
 | x :: y :: r => .inr (.inr ⟨x,(y :: r).dropLast,(y :: r).getLast (by simp),by rw [List.dropLast_concat_getLast]⟩)
theorem cp.cW:∀(n:Nat) (a m b:List bz),m.length≤n→(a++m++b).length≤100000→cp.l1 (a.length:Int) ((a.length:Int)+m.length - 1) (a++m++b)=some [.sl .ss (a++m.reverse++b)]:=by
 intro n
 induction n with
 | zero =>
  intro a m b hm hb
  obtain rfl:=List.length_eq_zero_iff.1 (Nat.le_zero.1 hm)
  refine cp.bV _ _ _ ?_
  intro v1 h1 v2 h2 v3 h3 v4 h4 v5 h5 v6 h6
  rw [ab (by simp;omega),ae];rfl
 | succ n ih =>
  intro a m b hm hb
  refine cp.bV _ _ _ ?_
  intro v1 h1 v2 h2 v3 h3 v4 h4 v5 h5 v6 h6
  rcases ends m with rfl | ⟨x,rfl⟩ | ⟨x,r,y,rfl⟩
  ·rw [ab (by simp;omega),ae];rfl
  ·rw [ab (by simp),ae];rfl
  ·simp only [ao,ay,aB] at hm hb
   have ei:((a.length:Int)).toNat=a.length:=by omega
   have ej:((a.length:Int)+((x :: (r++[y])).length:Int) - 1).toNat=a.length+1+r.length:=by simp;omega
   have hl:(a++(x :: (r++[y]))++b).length=a.length+(r.length+2)+b.length:=by simp;omega
   rw [ej] at h1 h4
   rw [ei] at h2 h3
   have e1:v1=y:=by
    rw [h1,show a++(x :: (r++[y]))++b=(a++x :: r)++y :: b by simp,af,aS (by simp;omega)]
    simp [show a.length+1+r.length - (a.length+(r.length+1))=0 by omega]
   have e2:v2=x:=by
    rw [h2,aG,af,aS (Nat.le_refl _)]
    simp
   have e3:v3=a++(y :: (r++[y]))++b:=by
    rw [h3,e1,aG,aG,List.set_append_right _ _ (Nat.le_refl _)]
    simp
   have e4:v4=(a++[y])++r++(x :: b):=by
    rw [h4,e3,e2,show a++(y :: (r++[y]))++b=(a++y :: r)++y :: b by simp,List.set_append_right _ _ (by simp;omega)]
    simp [show a.length+1+r.length - (a.length+(r.length+1))=0 by omega]
   have e5:v5=((a++[y]).length:Int):=by rw [h5,i64_in _ (by omega)];simp
   have e6:v6=((a++[y]).length:Int)+r.length - 1:=by rw [h6,i64_in _ (by simp;omega)];simp;omega
   have UR:(v3.length:Int)=a.length+(r.length+2)+b.length:=by rw [e3];simp;omega
   have:=ih (a++[y]) r (x :: b) (by omega) (by simp;omega)
   have LQ:((x :: (r++[y])).length:Int)=r.length+2:=by simp;omega
   have OU:v3.length=a.length+(r.length+2)+b.length:=by omega
   rw [aa (by omega),ai,ei,ej,hl,OU,bw (bK (by omega) (by omega)),bw (aa (by omega)),bw (bK (by omega) (by omega)),bw (aa (by omega)),bw (bK (by omega) (by omega)),bw (aa (by omega)),bw (bK (by omega) (by omega)),bw (aa (by omega))]
   rw [e4,e5,e6,this]
   simp
theorem cp.goal (l:List bz) (hp:decide (l.length≤100000)=true):cp.F l=some [.sl .ss l.reverse]:=by
 refine cp.bZ _ ?_
 intro v1 h1
 have hp:=ar hp
 have:=cp.cW l.length [] l [] (Nat.le_refl _) (by simpa using hp)
 rw [h1,i64_in _ (by omega)]
 simpa using this
end Go.Eng
set_option maxRecDepth 20000
namespace Go.Eng
open Go.IntWalk
theorem iJ (a:Bool):(!a || a)=true:=by cases a <;> rfl
theorem H4 (a:Bool):(a || !a)=true:=by cases a <;> rfl
theorem wT {t s:bz} (h:t.length≤s.length):List.isPrefixOf t s=decide (s.take t.length=t):=by
 rw [aQ,List.isPrefixOf_iff_prefix,aA,List.prefix_iff_eq_take]
 exact ⟨fun h=>h.symm,fun h=>h.symm⟩
theorem cZ.goal (s t:bz):cZ.F s t=some [.b (List.isPrefixOf t s)]:=by
 refine cZ.bZ _ _ ?_
 intro v1 h1 v2 h2
 rw [bw (iJ _),bw ?_,bw ?_,bw (iJ _)]
 ·congr 3
  rw [h2,h1]
  by_cases h:t.length≤s.length
  ·rw [aa (by omega),ai,wT h];rfl
  ·rw [ab (by omega),ae]
   cases hb:List.isPrefixOf t s with
   | false=>rfl
   | true=>exact absurd (List.isPrefixOf_iff_prefix.1 hb).length_le h
 ·cases decide ((t.length:Int)≤s.length) <;> rfl
 ·by_cases h:t.length≤s.length
  ·rw [jm (by omega) (by omega) (by omega)];cases decide ((t.length:Int)≤s.length) <;> rfl
  ·rw [ab (by omega)];rfl
theorem cY.goal (s t:bz):cY.F s t=some [.b (List.isPrefixOf t s)]:=cY.eJ s t
theorem cX.goal (s:bz) (c:UInt8):cX.F s c=some [.i .i64 (Lib.indexByte s c)]:=cX.eJ s c
theorem yy (x:UInt64):(x &&& (4294967295:UInt64)).toNat=x.toNat % 4294967296:=by
 rw [UInt64.toNat_and]
 exact Nat.and_two_pow_sub_one_eq_mod x.toNat 32
theorem rX (x:UInt64):(dD x (32:UInt64).toNat).toNat=x.toNat / 4294967296:=gQ x 32
theorem fq.goal (a b:UInt64):fq.F a b=some [.u64 (UInt64.ofNat (a.toNat * b.toNat / 18446744073709551616)),.u64 (UInt64.ofNat (a.toNat * b.toNat))]:=by
 refine fq.bZ _ _ ?_
 intro v1 h1 v2 h2 v3 h3 v4 h4 v5 h5 v6 h6 v7 h7 v8 h8
 have ha:=a.toNat_lt
 have hb:=b.toNat_lt
 obtain ⟨k1,k2,k3,k4⟩:=Lib.mul64_hi a.toNat b.toNat ha hb
 have e1:v1.toNat=a.toNat % 4294967296:=by rw [h1,yy]
 have e2:v2.toNat=a.toNat / 4294967296:=by rw [h2,rX]
 have e3:v3.toNat=b.toNat % 4294967296:=by rw [h3,yy]
 have e4:v4.toNat=b.toNat / 4294967296:=by rw [h4,rX]
 have m:∀x y:UInt64,x.toNat≤4294967295→y.toNat≤4294967295→(x * y).toNat=x.toNat * y.toNat:=fun x y hx hy=>by
  rw [UInt64.toNat_mul,Nat.mod_eq_of_lt]
  have:=Lib.half_mul_le hx hy
  omega
 have e5:v5.toNat=a.toNat % 4294967296 * (b.toNat % 4294967296) / 4294967296:=by rw [h5,rX,m _ _ (by omega) (by omega),e1,e3]
 have Q2:(v2 * v3+v5).toNat=a.toNat / 4294967296 * (b.toNat % 4294967296)+a.toNat % 4294967296 * (b.toNat % 4294967296) / 4294967296:=by
  rw [UInt64.toNat_add,m _ _ (by omega) (by omega),e2,e3,e5];exact Nat.mod_eq_of_lt k2
 have e6:v6.toNat=(a.toNat / 4294967296 * (b.toNat % 4294967296)+a.toNat % 4294967296 * (b.toNat % 4294967296) / 4294967296) % 4294967296:=by rw [h6,yy,Q2]
 have e7:v7.toNat=(a.toNat / 4294967296 * (b.toNat % 4294967296)+a.toNat % 4294967296 * (b.toNat % 4294967296) / 4294967296) / 4294967296:=by rw [h7,rX,Q2]
 have e8:v8.toNat=((a.toNat / 4294967296 * (b.toNat % 4294967296)+a.toNat % 4294967296 * (b.toNat % 4294967296) / 4294967296) % 4294967296+a.toNat % 4294967296 * (b.toNat / 4294967296)) / 4294967296:=by
  rw [h8,rX,UInt64.toNat_add,m _ _ (by omega) (by omega),e6,e1,e4]
  congr 1
  exact Nat.mod_eq_of_lt k3
 have hi:((v2 * v4)+v7)+v8=UInt64.ofNat (a.toNat * b.toNat / 18446744073709551616):=by
  apply fI
  rw [UInt64.toNat_add,UInt64.toNat_add,m _ _ (by omega) (by omega),e2,e4,e7,e8,fc,←k4]
  omega
 have lo:a * b=UInt64.ofNat (a.toNat * b.toNat):=by
  apply fI
  rw [UInt64.toNat_mul,fc]
 rw [hi,lo]
theorem Le {a b:dy}:dy.val a=dy.val b ↔ a.high=b.high∧a.low=b.low:=by
 rw [dy.jH,dy.jH]
 have:=a.low.toNat_lt
 have:=b.low.toNat_lt
 exact ⟨fun h=>⟨fI (by omega),fI (by omega)⟩,fun h=>by rw [h.1,h.2]⟩
theorem Ld {a b:dy}:dy.val a<dy.val b ↔ a.high<b.high∨(a.high=b.high∧a.low<b.low):=by
 rw [dy.jH,dy.jH,aV,aV,←bn]
 have:=a.low.toNat_lt
 have:=b.low.toNat_lt
 omega
theorem gI.goal (a b:dy):gI.F a b=some [.i .i64 (cond (decide (dy.val a=dy.val b)) 0 (cond (decide (dy.val a<dy.val b)) (-1) 1))]:=by
 refine gI.bZ _ _ ?_
 intro v1 h1 v2 h2 v3 h3 v4 h4
 have c6:(!(!decide (a.high<b.high)) || ((!decide (a.high<b.high))&&(!decide (a.high=b.high) || v2)))=true:=by
  rw [h2];cases decide (a.high<b.high) <;> cases decide (a.high=b.high) <;> rfl
 have c7:(!v2 || (v2&&v2))=true:=by cases v2 <;> rfl
 have c8:∀x:Bool,(!(!x) || ((!x)&&(!x)))=true:=by decide
 rw [bw (iJ _),bw (iJ _),bw (c8 _),bw (iJ _),bw (iJ _),bw (iJ _),bw c7,bw c6,bw (H4 _)]
 have hv1:v1=decide (dy.val a=dy.val b):=by rw [h1,aZ.2 Le,Bool.decide_and]
 have hv4:v4=decide (dy.val a<dy.val b):=by
  rw [h4,h3,aZ.2 Ld,Bool.decide_or,Bool.decide_and]
  cases decide (a.high<b.high) <;> cases decide (a.high=b.high) <;> rfl
 rw [hv1,hv4]
 cases decide (dy.val a=dy.val b) <;> cases decide (dy.val a<dy.val b) <;> rfl
theorem gU.goal (a b:UInt64):gU.F a b=some [.ag (dy.cells (dy.of (a.toNat * b.toNat)))]:=by
 refine gU.bZ _ _ ?_
 intro v1 h1 v2 h2
 rw [h1,h2];rfl
theorem Lb {n:Nat} (h:n<340282366920938463463374607431768211456):(dy.of n).val=n:=by
 rw [dy.jH];unfold dy.of;simp only [fc];omega
theorem Lc {x v:UInt64} {z:Nat} (_:x.toNat<18446744073709551616) (hz:z<18446744073709551616) (h:v=UInt64.ofNat z):dy.of (x.toNat * 18446744073709551616+z)=⟨x,v⟩:=by
 have h1:UInt64.ofNat ((x.toNat * 18446744073709551616+z) / 18446744073709551616)=x:=by apply fI;rw [fc];omega
 have h2:UInt64.ofNat (x.toNat * 18446744073709551616+z)=v:=by rw [h];apply fI;rw [fc,fc];omega
 unfold dy.of
 rw [h1,h2]
theorem gV.goal (a:dy) (b:UInt64) (hp:(decide (9223372036854775808≤b.toNat))=true):gV.F a b=some [.ag (dy.cells (dy.of (dy.val a / b.toNat))),.u64 (UInt64.ofNat (dy.val a % b.toNat)),.b true]:=by
 have hb:=ar hp
 refine gV.bZ _ _ ?_
 intro v1 h1 v2 h2 v3 h3 v4 h4
 have hl:=b.toNat_lt
 have ha:=a.high.toNat_lt
 have yG:=a.low.toNat_lt
 have h0:(0:UInt64).toNat=0:=rfl
 rw [h0,Nat.zero_mul,Nat.zero_add] at h1 h2
 have e2:v2.toNat=a.high.toNat % b.toNat:=by rw [h2,fc];have:=Nat.mod_lt a.high.toNat (show 0<b.toNat by omega);omega
 have e1:v1.toNat=a.high.toNat / b.toNat:=by rw [h1,fc];exact Nat.mod_eq_of_lt (Nat.lt_of_le_of_lt (Nat.div_le_self ..) ha)
 have hr:=Nat.mod_lt a.high.toNat (show 0<b.toNat by omega)
 rw [ab (fun h=>by rw [h] at hb;simp at hb),ae,bw (aa (by rw [h0];omega)),bw (aa (by rw [e2];omega))]
 have key:dy.val a=b.toNat * (a.high.toNat / b.toNat * 18446744073709551616)+(a.high.toNat % b.toNat * 18446744073709551616+a.low.toNat):=by
  rw [dy.jH]
  conv=>lhs;rw [←Nat.div_add_mod a.high.toNat b.toNat,Nat.add_mul,Nat.mul_assoc]
  omega
 have kd:dy.val a / b.toNat=a.high.toNat / b.toNat * 18446744073709551616+(a.high.toNat % b.toNat * 18446744073709551616+a.low.toNat) / b.toNat:=by
  rw [key,Nat.mul_add_div (by omega)]
 have km:dy.val a % b.toNat=(a.high.toNat % b.toNat * 18446744073709551616+a.low.toNat) % b.toNat:=by
  rw [key,Nat.mul_add_mod]
 have hq:(a.high.toNat % b.toNat * 18446744073709551616+a.low.toNat) / b.toNat<18446744073709551616:=by
  rw [Nat.div_lt_iff_lt_mul (by omega)]
  have:(a.high.toNat % b.toNat+1) * 18446744073709551616≤b.toNat * 18446744073709551616:=ak _ hr
  omega
 rw [e2] at h3 h4
 rw [h4,←km]
 have hd:=Nat.lt_of_le_of_lt (Nat.div_le_self a.high.toNat b.toNat) ha
 rw [←e1] at kd hd
 have ew:dy.of (dy.val a / b.toNat)=⟨v1,v3⟩:=by rw [kd];exact Lc hd hq h3
 rw [ew];rfl
end Go.Eng
set_option maxRecDepth 20000
namespace Go.Eng
open Go.IntWalk
theorem dZ.goal (v:UInt64) (hp:(decide (9223372036854775808≤v.toNat))=true):dZ.F v=some [.i .i64 0]:=by
 have hb:=ar hp
 refine dZ.bZ _ ?_
 intro v1 h1
 have hl:=v.toNat_lt
 have e:Nt.bits v.toNat=64:=Nt.AW (k:=63) hb hl
 rw [h1,e];rfl
section
variable {B u d yh yl q r:Nat}
theorem zA:q * (yh * B+yl)=q * yh * B+q * yl:=by rw [Nat.mul_add,Nat.mul_assoc]
theorem rq (hp:0<yh * B+yl) (hu:u=q * yh+r) (hq:(u * B+d) / (yh * B+yl)≤q) (h:q * yl≤r * B+d):(u * B+d) / (yh * B+yl)=q:=by
 refine Nat.le_antisymm hq ((Nat.le_div_iff_mul_le hp).2 ?_)
 rw [zA,hu,Nat.add_mul];omega
theorem Hx (hp:0<yh * B+yl) (hd:d<B) (HG:u<yh * B+yl) (hu:u=q * yh+r) (h:B≤q∨r * B+d<q * yl) :
  1≤q∧u=(q - 1) * yh+(r+yh)∧(u * B+d) / (yh * B+yl)≤q - 1:=by
 have AI:1≤q:=by
  rcases h with h | h
  ·omega
  ·rcases Nat.eq_zero_or_pos q with e | e
   ·rw [e] at h;omega
   ·exact e
 refine ⟨AI,?_,?_⟩
 ·have:q * yh=(q - 1) * yh+yh:=by
   conv=>lhs;rw [show q=q - 1+1 by omega,Nat.add_mul,Nat.one_mul]
  omega
 ·refine Nat.le_sub_one_of_lt ?_
  rw [Nat.div_lt_iff_lt_mul hp]
  rcases h with h | h
  ·have h1:B * (yh * B+yl)≤q * (yh * B+yl):=ak _ h
   have h2:(u+1) * B≤(yh * B+yl) * B:=ak _ HG
   rw [Nat.mul_comm (yh * B+yl) B] at h2
   rw [Nat.add_mul] at h2
   omega
  ·rw [zA,hu,Nat.add_mul];omega
theorem IY (hy:B≤2 * yh) (KD:yl<B) (HG:u<yh * B+yl):u / yh≤B+1:=by
 refine Nat.le_of_lt_succ ?_
 have hp:0<yh:=by omega
 rw [Nat.div_lt_iff_lt_mul hp]
 have e:(B+1+1) * yh=yh * B+2 * yh:=by rw [Nat.add_assoc,Nat.add_mul,Nat.mul_comm B yh]
 show u<(B+1+1) * yh
 rw [e];omega
theorem DH (hp:0<yh) (hB:0<B) (hd:d<B):(u * B+d) / (yh * B+yl)≤u / yh:=by
 refine Nat.le_of_lt_succ ?_
 have hm:0<yh * B:=Nat.mul_pos hp hB
 rw [Nat.div_lt_iff_lt_mul (by omega)]
 have h:=Nat.lt_mul_div_succ u hp
 have h2:(u+1) * B≤yh * (u / yh+1) * B:=ak _ h
 rw [Nat.add_mul] at h2
 show _<(u / yh+1) * (yh * B+yl)
 rw [zA,Nat.mul_comm (u / yh+1) yh]
 omega
end
theorem bF.LA {Q u:Nat}:∀(k:Nat) (x0 x1 x2 x3 x4 x5 x6 x7 x8:UInt64),4294967296≤x8.toNat+k→2147483648≤x2.toNat→x3.toNat<4294967296→x5.toNat<4294967296→u<x2.toNat * 4294967296+x3.toNat→x8.toNat<4294967296 →
  x2.toNat<4294967296→x7.toNat≤4294967297→u=x7.toNat * x2.toNat+x8.toNat→(u * 4294967296+x5.toNat) / (x2.toNat * 4294967296+x3.toNat)≤x7.toNat→Q=(u * 4294967296+x5.toNat) / (x2.toNat * 4294967296+x3.toNat) →
  bF.l3 x0 x1 x2 x3 x4 x5 x6 x7 x8=bF.j4 x0 x1 x2 x3 x4 x5 x6 (UInt64.ofNat Q):=by
 intro k
 induction k with
 | zero=>intro x0 x1 x2 x3 x4 x5 x6 x7 x8 hk;intros;omega
 | succ k ih =>
  intro x0 x1 x2 x3 x4 x5 x6 x7 x8 hk hy KD hd HG hr BO hq hu hQ eQ
  refine bF.sJ _ _ _ _ _ _ _ _ _ ?_
  intro v1 h1 v2 h2
  have hv1:v1.toNat=x8.toNat * 4294967296+x5.toNat:=by
   rw [h1,UInt64.toNat_add,UInt64.toNat_mul,show (4294967296:UInt64).toNat=4294967296 from rfl];omega
  have hm:(x7 * x3).toNat=x7.toNat * x3.toNat:=by
   rw [UInt64.toNat_mul]
   refine Nat.mod_eq_of_lt ?_
   have:=Nat.mul_le_mul hq (show x3.toNat≤4294967295 by omega)
   omega
  have c1:∀b:Bool,(!(!b) || ((!b)&&(!b)))=true:=by decide
  rw [bw (c1 _),bw (iJ _),bw (c1 _),bw (c1 _),bw (H4 _)]
  have hB:((4294967296:UInt64)≤x7) ↔ 4294967296≤x7.toNat:=aI
  have hL:v1<x7 * x3 ↔ x8.toNat * 4294967296+x5.toNat<x7.toNat * x3.toNat:=by rw [aV,hv1,hm]
  have hv2:v2=decide (4294967296≤x7.toNat∨x8.toNat * 4294967296+x5.toNat<x7.toNat * x3.toNat):=by
   rw [h2,aZ.2 hB,aZ.2 hL,Bool.decide_or]
   cases decide (4294967296≤x7.toNat) <;> rfl
  have hp:0<x2.toNat * 4294967296+x3.toNat:=by omega
  by_cases c:4294967296≤x7.toNat∨x8.toNat * 4294967296+x5.toNat<x7.toNat * x3.toNat
  ·rw [hv2,aa c,ai]
   obtain ⟨g1,g2,g3⟩:=Hx hp hd HG hu c
   have AI:(x7 - (1:UInt64)).toNat=x7.toNat - 1:=by exact UInt64.toNat_sub_of_le _ _ (aI.2 (show (1:UInt64).toNat≤_ from g1))
   have Ck:(x8+x2).toNat=x8.toNat+x2.toNat:=by rw [UInt64.toNat_add];omega
   by_cases c2:4294967296≤x8.toNat+x2.toNat
   ·rw [aa (aI.2 (by rw [Ck];exact c2)),ai]
    have h3:(x7.toNat - 1) * x3.toNat≤(x8.toNat+x2.toNat) * 4294967296+x5.toNat:=by
     have:=Nat.mul_le_mul (show x7.toNat - 1≤4294967296 by omega) (show x3.toNat≤4294967296 by omega)
     have:=ak 4294967296 c2
     omega
    have:=rq hp g2 g3 h3
    rw [show x7 - (1:UInt64)=UInt64.ofNat Q from fI (by rw [AI,fc,eQ,this];omega)]
   ·rw [ab (fun h=>c2 (by have:=aI.1 h;rwa [Ck] at this)),ae]
    exact ih x0 x1 x2 x3 x4 x5 x6 _ _ (by rw [Ck];omega) hy KD hd HG (by rw [Ck];omega) BO (by rw [AI];omega) (by rw [AI,Ck];exact g2) (by rw [AI];exact g3) eQ
  ·rw [hv2,ab c,ae]
   have:=rq hp hu hQ (by omega)
   rw [show x7=UInt64.ofNat Q from fI (by rw [fc,eQ,this];omega)]
theorem bF.Lz {Q u:Nat}:∀(k:Nat) (x0 x1 x2 x3 x4 x5 x6 x7 x8:UInt64),4294967296≤x6.toNat+k→2147483648≤x2.toNat→x3.toNat<4294967296→x4.toNat<4294967296→u<x2.toNat * 4294967296+x3.toNat→x6.toNat<4294967296 →
  x2.toNat<4294967296→x8.toNat≤4294967297→u=x8.toNat * x2.toNat+x6.toNat→(u * 4294967296+x4.toNat) / (x2.toNat * 4294967296+x3.toNat)≤x8.toNat→Q=(u * 4294967296+x4.toNat) / (x2.toNat * 4294967296+x3.toNat) →
  bF.l5 x0 x1 x2 x3 x4 x5 x6 x7 x8=bF.j6 x0 x1 x4 x5 x7 (UInt64.ofNat Q):=by
 intro k
 induction k with
 | zero=>intro x0 x1 x2 x3 x4 x5 x6 x7 x8 hk;intros;omega
 | succ k ih =>
  intro x0 x1 x2 x3 x4 x5 x6 x7 x8 hk hy KD hd HG hr BO hq hu hQ eQ
  refine bF.AB _ _ _ _ _ _ _ _ _ ?_
  intro v1 h1 v2 h2
  have hv1:v1.toNat=x6.toNat * 4294967296+x4.toNat:=by
   rw [h1,UInt64.toNat_add,UInt64.toNat_mul,show (4294967296:UInt64).toNat=4294967296 from rfl];omega
  have hm:(x8 * x3).toNat=x8.toNat * x3.toNat:=by
   rw [UInt64.toNat_mul]
   refine Nat.mod_eq_of_lt ?_
   have:=Nat.mul_le_mul hq (show x3.toNat≤4294967295 by omega)
   omega
  have c1:∀b:Bool,(!(!b) || ((!b)&&(!b)))=true:=by decide
  rw [bw (c1 _),bw (iJ _),bw (c1 _),bw (c1 _),bw (H4 _)]
  have hB:((4294967296:UInt64)≤x8) ↔ 4294967296≤x8.toNat:=aI
  have hL:v1<x8 * x3 ↔ x6.toNat * 4294967296+x4.toNat<x8.toNat * x3.toNat:=by rw [aV,hv1,hm]
  have hv2:v2=decide (4294967296≤x8.toNat∨x6.toNat * 4294967296+x4.toNat<x8.toNat * x3.toNat):=by
   rw [h2,aZ.2 hB,aZ.2 hL,Bool.decide_or]
   cases decide (4294967296≤x8.toNat) <;> rfl
  have hp:0<x2.toNat * 4294967296+x3.toNat:=by omega
  by_cases c:4294967296≤x8.toNat∨x6.toNat * 4294967296+x4.toNat<x8.toNat * x3.toNat
  ·rw [hv2,aa c,ai]
   obtain ⟨g1,g2,g3⟩:=Hx hp hd HG hu c
   have AI:(x8 - (1:UInt64)).toNat=x8.toNat - 1:=by exact UInt64.toNat_sub_of_le _ _ (aI.2 (show (1:UInt64).toNat≤_ from g1))
   have Ck:(x6+x2).toNat=x6.toNat+x2.toNat:=by rw [UInt64.toNat_add];omega
   by_cases c2:4294967296≤x6.toNat+x2.toNat
   ·rw [aa (aI.2 (by rw [Ck];exact c2)),ai]
    have h3:(x8.toNat - 1) * x3.toNat≤(x6.toNat+x2.toNat) * 4294967296+x4.toNat:=by
     have:=Nat.mul_le_mul (show x8.toNat - 1≤4294967296 by omega) (show x3.toNat≤4294967296 by omega)
     have:=ak 4294967296 c2
     omega
    have:=rq hp g2 g3 h3
    rw [show x8 - (1:UInt64)=UInt64.ofNat Q from fI (by rw [AI,fc,eQ,this];omega)]
   ·rw [ab (fun h=>c2 (by have:=aI.1 h;rwa [Ck] at this)),ae]
    exact ih x0 x1 x2 x3 x4 x5 _ x7 _ (by rw [Ck];omega) hy KD hd HG (by rw [Ck];omega) BO (by rw [AI];omega) (by rw [AI,Ck];exact g2) (by rw [AI];exact g3) eQ
  ·rw [hv2,ab c,ae]
   have:=rq hp hu hQ (by omega)
   rw [show x8=UInt64.ofNat Q from fI (by rw [fc,eQ,this];omega)]
theorem IE (x:UInt64):iK x (UInt64.ofInt 0).toNat=x:=by
 apply fI;unfold iK;rw [fc,show (UInt64.ofInt 0).toNat=0 from rfl];have:=x.toNat_lt;omega
theorem Ob (x:UInt64):dD x (UInt64.ofInt 0).toNat=x:=by
 apply fI;rw [gQ,show (UInt64.ofInt 0).toNat=0 from rfl];omega
theorem Dy {a d q y:UInt64} {N Q t:Nat} (hN:N=a.toNat * 4294967296+d.toNat) (hQ:q.toNat=Q) (ht:N=Q * y.toNat+t) (h:t<18446744073709551616):(((a * (4294967296:UInt64))+d) - (q * y)).toNat=t:=by
 have e1:((a * (4294967296:UInt64))+d).toNat=N % 18446744073709551616:=by
  rw [UInt64.toNat_add,UInt64.toNat_mul,show (4294967296:UInt64).toNat=4294967296 from rfl,hN];omega
 have e2:(q * y).toNat=(Q * y.toNat) % 18446744073709551616:=by rw [UInt64.toNat_mul,hQ]
 rw [UInt64.toNat_sub,e1,e2,ht]
 generalize Q * y.toNat=P
 omega
theorem FN {x y:UInt64}:(x - x / y * y).toNat=x.toNat % y.toNat:=by
 have h:=Nat.div_add_mod x.toNat y.toNat
 rw [Nat.mul_comm] at h
 have hl:=x.toNat_lt
 have e:(x / y * y).toNat=x.toNat / y.toNat * y.toNat:=by
  rw [UInt64.toNat_mul,UInt64.toNat_div];exact Nat.mod_eq_of_lt (by omega)
 rw [UInt64.toNat_sub_of_le _ _ (aI.2 (by rw [e];omega)),e]
 omega
theorem HZ {n y q:Nat} (hy:0<y) (h:n / y=q):∃t,n=q * y+t∧t<y:=⟨n % y,by rw [←h,Nat.mul_comm];exact (Nat.div_add_mod ..).symm,Nat.mod_lt _ hy⟩
theorem Mz {x z:Nat} (hx:x<4294967296) (hz:z<4294967296):UInt64.ofNat x * (4294967296:UInt64)+UInt64.ofNat z=UInt64.ofNat (x * 4294967296+z):=by
 apply fI
 rw [UInt64.toNat_add,UInt64.toNat_mul,show (4294967296:UInt64).toNat=4294967296 from rfl]
 simp only [fc]
 omega
theorem FI {N hi b d1 d0 y q1 q0 t1 t0:Nat} (h1:hi * 4294967296+d1=q1 * y+t1) (h0:t1 * 4294967296+d0=q0 * y+t0) (ht:t0<y) (hb:b=d1 * 4294967296+d0) (hN:N=hi * 18446744073709551616+b):N / y=q1 * 4294967296+q0∧N % y=t0:=by
 have e:N=y * (q1 * 4294967296+q0)+t0:=by
  have x2:∀B:Nat,y * (q1 * B+q0)=q1 * y * B+q0 * y:=fun B=>by
   rw [Nat.mul_add,Nat.mul_comm y q0,←Nat.mul_assoc,Nat.mul_comm y q1]
  have x3:=x2 4294967296
  omega
 rw [e,Nat.mul_add_div (by omega),Nat.div_eq_of_lt ht,Nat.add_zero,Nat.mul_add_mod,Nat.mod_eq_of_lt ht]
 exact ⟨rfl,rfl⟩
theorem bF.goal (a b y:UInt64) (hp:(decide (9223372036854775808≤y.toNat∧a.toNat<y.toNat))=true):bF.F a b y=some [.u64 (UInt64.ofNat ((a.toNat * 18446744073709551616+b.toNat) / y.toNat)),.u64 (UInt64.ofNat ((a.toNat * 18446744073709551616+b.toNat) % y.toNat))]:=by
 obtain ⟨hy,ha⟩:=ar hp
 have KD:=y.toNat_lt
 have Fy:=b.toNat_lt
 rw [bF.eJ,ab (fun h=>by rw [h] at hy;exact absurd hy (by decide)),ae,bF.lp,ab (fun h=>by have:=aI.1 h;omega),ae]
 refine bF.jg _ _ _ ?_
 intro v1 h1 v2 h2 v3 h3 v4 h4 v5 h5 v6 h6 v7 h7 v8 h8 v9 h9
 have P5:(!decide (y=0))=true:=by rw [ab (fun h=>by rw [h] at hy;exact absurd hy (by decide))];rfl
 by_cases c:a=0
 ·rw [aa c,ai,bw P5,c,show (0:UInt64).toNat=0 from rfl,Nat.zero_mul,Nat.zero_add]
  rw [show b / y=UInt64.ofNat (b.toNat / y.toNat) from fI (by rw [UInt64.toNat_div,fc];exact (Nat.mod_eq_of_lt (Nat.lt_of_le_of_lt (Nat.div_le_self ..) Fy)).symm),
   show b % y=UInt64.ofNat (b.toNat % y.toNat) from fI (by rw [UInt64.toNat_mod,fc];exact (Nat.mod_eq_of_lt (Nat.lt_of_le_of_lt (Nat.mod_le ..) Fy)).symm),bw P5]
 rw [ab c,ae,bw (aa hy)]
 have e1:v1=y:=by rw [h1,IE]
 have e4:v4=a:=by rw [h4,IE]
 have e7:v7=b:=by rw [h7,IE]
 have e5:v5.toNat=64:=by rw [h5];rfl
 have e6:v6=a:=by
  rw [h6,e4,e5]
  have:dD b 64=0:=by apply fI;rw [gQ];show _=0;omega
  rw [this];apply fI;rw [UInt64.toNat_or];exact Nat.or_zero _
 have n2:v2.toNat=y.toNat / 4294967296:=by rw [h2,e1,rX]
 have n3:v3.toNat=y.toNat % 4294967296:=by rw [h3,e1,yy]
 have n8:v8.toNat=b.toNat / 4294967296:=by rw [h8,e7,rX]
 have n9:v9.toNat=b.toNat % 4294967296:=by rw [h9,e7,yy]
 have hv2:(!decide (v2=0))=true:=by
  rw [ab (fun h=>by rw [h] at n2;have:(0:UInt64).toNat=0:=rfl;omega)];rfl
 have hY:v2.toNat * 4294967296+v3.toNat=y.toNat:=by omega
 have QT:v8.toNat<4294967296:=by omega
 have QS:v9.toNat<4294967296:=by omega
 have Pu:v3.toNat<4294967296:=by omega
 have QV:v2.toNat<4294967296:=by omega
 have QW:2147483648≤v2.toNat:=by omega
 have first:∀(u:UInt64) (d:Nat),u.toNat<y.toNat→d<4294967296→(u / v2).toNat≤4294967297∧u.toNat=(u / v2).toNat * v2.toNat+(u - u / v2 * v2).toNat∧(u.toNat * 4294967296+d) / (v2.toNat * 4294967296+v3.toNat)≤(u / v2).toNat∧(u - u / v2 * v2).toNat<4294967296:=fun u d hu hd=>by
  rw [FN,UInt64.toNat_div]
  refine ⟨IY (B:=4294967296) (by omega) Pu (by rw [hY];exact hu),?_,DH (by omega) (by omega) hd,?_⟩
  ·rw [Nat.mul_comm];exact (Nat.div_add_mod ..).symm
  ·have:=Nat.mod_lt u.toNat (show 0<v2.toNat by omega);omega
 rw [bw hv2,e1,e6]
 obtain ⟨f1,f2,f3,f4⟩:=first a v8.toNat ha QT
 obtain ⟨Q1,Pm⟩:∃q,(a.toNat * 4294967296+v8.toNat) / y.toNat=q:=⟨_,rfl⟩
 rw [bF.LA (Q:=Q1) (u:=a.toNat) 4294967296 y (UInt64.ofInt 0) v2 v3 a v8 v9 (a / v2) (a - a / v2 * v2) (by omega) QW Pu QT (by rw [hY];exact ha) f4 QV f1 f2 f3 (by rw [hY,Pm])]
 refine bF.DO _ _ _ _ _ _ _ _ ?_
 intro w1 g1 w2 g2
 have RY:Q1<4294967296:=by
  rw [←Pm,Nat.div_lt_iff_lt_mul (by omega)]
  have:=ak 4294967296 (show a.toNat+1≤y.toNat from ha)
  rw [Nat.mul_comm 4294967296 y.toNat];omega
 obtain ⟨t1,QI,ht1⟩:=HZ (show 0<y.toNat by omega) Pm
 have HH:(w1 - UInt64.ofNat Q1 * y).toNat=t1:=by rw [g1];exact Dy rfl (by rw [fc];omega) QI (by omega)
 rw [bw hv2,g2]
 obtain ⟨u1,hu⟩:∃u,w1 - UInt64.ofNat Q1 * y=u:=⟨_,rfl⟩
 rw [hu] at HH ⊢
 obtain ⟨k1,k2,k3,k4⟩:=first u1 v9.toNat (by rw [HH];exact ht1) QS
 obtain ⟨Q0,JG⟩:∃q,(t1 * 4294967296+v9.toNat) / y.toNat=q:=⟨_,rfl⟩
 rw [bF.Lz (Q:=Q0) (u:=u1.toNat) 4294967296 y (UInt64.ofInt 0) v2 v3 v9 (UInt64.ofNat Q1) (u1 - u1 / v2 * v2) u1 (u1 / v2) (by omega) QW Pu QS (by rw [hY,HH];exact ht1) k4 QV k1 k2 k3 (by rw [hY,HH,JG])]
 refine bF.DM _ _ _ _ _ _ ?_
 intro z1 j1 z2 j2 z3 j3
 have RZ:Q0<4294967296:=by
  rw [←JG,Nat.div_lt_iff_lt_mul (by omega)]
  have:=ak 4294967296 (show t1+1≤y.toNat from ht1)
  rw [Nat.mul_comm 4294967296 y.toNat];omega
 obtain ⟨t0,HT,ht0⟩:=HZ (show 0<y.toNat by omega) JG
 have hr:z3.toNat=t0:=by
  rw [j3,Ob,j2]
  exact Dy (N:=t1 * 4294967296+v9.toNat) (by rw [HH]) (by rw [fc];omega) HT (by omega)
 rw [j1,Mz RY RZ,show z3=UInt64.ofNat t0 from fI (by rw [hr,fc];omega)]
 obtain ⟨x1,x2⟩:=FI (hi:=a.toNat) (b:=b.toNat) QI HT ht0 (by omega) rfl
 rw [x1,x2]
end Go.Eng
set_option maxRecDepth 20000
namespace Go.Eng
open Go.IntWalk
theorem fE.goal:fE.F=some [.ag (dy.cells Cn.sB)]:=by
 refine fE.bZ ?_
 intro v1 h1
 have:dy.of ((100000000000000000:UInt64).toNat * (100000000000000000:UInt64).toNat)=Cn.sB:=by kernel_rfl
 rw [h1,this]
theorem Dr:dy.val Cn.sB=10000000000000000000000000000000000:=by
 rw [dy.jH];rfl
theorem Kc {a b:Nat}:(0:Int)≤cond (decide (a=b)) 0 (cond (decide (a<b)) (-1) 1) ↔ b≤a:=by
 by_cases h:a=b
 ·rw [aa h];simp;omega
 ·rw [ab h,ae]
  by_cases h2:a<b
  ·rw [aa h2,ai];omega
  ·rw [ab h2,ae];omega
theorem m14 (x:UInt64):((x &&& (16383:UInt64)).toNat:Int)<16384:=by
 rw [UInt64.toNat_and,show (16383:UInt64).toNat=2 ^ 14 - 1 from rfl,Nat.and_two_pow_sub_one_eq_mod];omega
theorem Ej (x:UInt64):IntKind.i64.wrap (IntKind.i64.wrap ((x &&& (16383:UInt64)).toNat:Int) - 6176)=((x &&& (16383:UInt64)).toNat:Int) - 6176:=by
 have:=m14 x
 rw [show IntKind.i64.wrap ((x &&& (16383:UInt64)).toNat:Int)=((x &&& (16383:UInt64)).toNat:Int) from i64_in _ (by omega),i64_in _ (by omega)]
theorem yg (a:Nat):decide ((0:Int)≤cond (decide (a=dy.val Cn.sB)) 0 (cond (decide (a<dy.val Cn.sB)) (-1) 1))=decide (10000000000000000000000000000000000≤a):=aZ.2 (Kc.trans (by rw [Dr]))
theorem uV (a b:Bool):cond a b false=(a&&b):=by cases a <;> rfl
theorem dh.goal (h l:UInt64):dh.F h l=some [.i .i64 (Cn.split h l).1,.b (Cn.split h l).2.1,.ag (dy.cells (Cn.split h l).2.2.1),.i .i64 (Cn.split h l).2.2.2]:=by
 refine dh.bZ _ _ ?_
 intro v1 h1 v2 h2 v3 h3 v4 h4 v5 h5 v6 h6 v7 h7 v8 h8 v9 h9 v10 iA
 rw [Cn.rT]
 unfold Cn.pO
 simp only
 have e1:v1=dD h 63:=h1
 have e2:v2=dD h 58:=h2
 have e6:v6=dD h 47:=h6
 have e8:v8=((dD h 47 &&& 16383).toNat:Int) - 6176:=by rw [h8,h7,e6];exact Ej _
 have e5:v5=dD (dD h 58 &&& 31) 3:=by rw [h5,e2];rfl
 rw [h3,h4,e1,e2,e5,e8]
 by_cases c1:dD h 58 &&& 31=31
 ·rw [aa c1,ai,aw c1];rfl
 rw [ab c1,ae,au c1]
 by_cases c2:dD h 58 &&& 31=30
 ·rw [aa c2,ai,aw c2];rfl
 rw [ab c2,ae,au c2]
 by_cases c3:dD (dD h 58 &&& 31) 3=3
 ·rw [aa c3,ai,aw c3];rfl
 rw [ab c3,ae,au c3,iA,yg,h9]
 by_cases c4:dy.val ⟨h &&& 562949953421311,l⟩<10000000000000000000000000000000000
 ·rw [ab (by omega),ae,aw c4]
  refine dh.iI _ _ _ _ ?_
  intro w1 g1 w2 g2 w3 g3
  rw [g3,g2,Ej,g1];rfl
 ·rw [aa (by omega),ai,au c4]
  refine dh.iI _ _ _ _ ?_
  intro w1 g1 w2 g2 w3 g3
  rw [g3,g2,Ej,g1];rfl
theorem dS.goal (n:Bool) (c:dy) (x:Int) (hp:(Nr.i64 x)=true):dS.F n c x=some [.u64 (Cn.join n c x).1,.u64 (Cn.join n c x).2.1,.b (Cn.join n c x).2.2]:=by
 refine dS.bZ _ _ _ ?_
 intro v1 h1 v2 h2 v3 h3 v4 h4 v5 h5 v6 h6
 have c1:∀b:Bool,(!(!b) || (!b))=true:=by decide
 rw [bw (c1 _),bw (H4 _),bw (c1 _),bw (H4 _)]
 rw [Cn.join_eq]
 unfold Cn.AD
 have e3:v3=decide (10000000000000000000000000000000000≤c.val∨x < -6176∨6111<x):=by
  rw [h3,h2,h1,yg,Bool.decide_or,Bool.decide_or]
  cases decide (10000000000000000000000000000000000≤c.val) <;> cases decide (x < -6176) <;> rfl
 rw [e3]
 by_cases k:10000000000000000000000000000000000≤c.val∨x < -6176∨6111<x
 ·rw [aa k,ai,aw k]
 ·rw [ab k,ae,au k]
  have e4:v4=x+6176:=by rw [h4,i64_in _ (by omega)]
  have e5:v5=iK (UInt64.ofInt (x+6176)) 49:=by rw [h5,e4];rfl
  rw [dS.lp,dS.lp,h6,e5]
  cases n <;> rfl
theorem sR (x:Int):Nr.i64 (IntKind.i64.wrap x)=true:=by
 have h:=IntKind.wrap_i64 x
 unfold Nr.i64
 exact aa (by omega)
theorem pN (h l:UInt64) : -6176≤(Cn.split h l).2.2.2∧(Cn.split h l).2.2.2<16384:=by
 rw [Cn.rT]
 unfold Cn.pO
 simp only
 have:=m14 (dD h 47)
 have:=m14 (dD h 49)
 split
 ·exact ⟨show (-6176:Int)≤0 by decide,show (0:Int)<16384 by decide⟩
 split
 ·exact ⟨show (-6176:Int)≤0 by decide,show (0:Int)<16384 by decide⟩
 split <;> dsimp only <;> omega
theorem fw.goal (h l:UInt64):fw.F h l=some [.b (Cn.pX h l)]:=by
 refine fw.bZ _ _ ?_
 intro v1 h1 v2 h2 v3 h3 v4 h4 v5 h5 v6 h6 v7 h7 v8 h8
 have c6:∀x:Bool,(!x || (x&&x))=true:=by decide
 have hx:=pN h l
 have Sm:Nr.i64 (Cn.split h l).2.2.2=true:=aa (by omega)
 rw [bw (iJ _),bw (iJ _),bw (iJ _),bw (iJ _),bw Sm,bw (c6 _),bw (iJ _),bw (c6 _),bw (iJ _)]
 unfold Cn.pX
 simp only
 by_cases c1:(Cn.split h l).1=3
 ·rw [aa c1,ai,aw c1,h1,uV]
 rw [ab c1,ae,au c1]
 by_cases c2:(Cn.split h l).1=2
 ·rw [aa c2,ai,aw c2,h3,h2,uV]
 rw [ab c2,ae,au c2,h8,h7,h6,h5,h4,uV,uV]
end Go.Eng
set_option maxRecDepth 20000
namespace Go.Eng
namespace Nr
theorem IT {p q:Nat} (h:p<q):mK p<mK q:=by
 rw [kH,kH]
 have h1:=yA h
 have h2:=yA (show p+1<q+1 by omega)
 omega
theorem th {a b p q:Nat} (hb:0<b) (h:fZ a b p) (hq:q<p):fZ a b q:=by
 have h1:mK q * b<mK p * b:=Nat.mul_lt_mul_of_pos_right (IT hq) hb
 rcases h with h | ⟨h,_⟩
 ·exact .inl (Nat.lt_trans h1 h)
 ·exact .inl (by omega)
theorem lW {a b p:Nat} (hb:0<b) (hp:p≤top) (h1:¬fZ a b p) (h2:p=0∨fZ a b (p - 1)):gZ a b=some p:=by
 classical
 have Me:∀q,q<p→fZ a b q:=fun q hq=>by
  rcases h2 with h2 | h2
  ·omega
  ·by_cases c:q=p - 1
   ·rw [c];exact h2
   ·exact th hb h2 (by omega)
 have hx:∃p,p≤top∧¬fZ a b p∧∀q,q<p→fZ a b q:=⟨p,hp,h1,Me⟩
 unfold gZ
 rw [dif_pos hx]
 obtain ⟨_,c2,c3⟩:=hx.choose_spec
 congr 1
 rcases Nat.lt_trichotomy hx.choose p with c | c | c
 ·exact (c2 (Me _ c)).elim
 ·exact c
 ·exact (h1 (c3 _ c)).elim
theorem qc {a b:Nat} (hb:0<b) (h:fZ a b top):gZ a b=none:=by
 classical
 unfold gZ
 rw [dif_neg]
 rintro ⟨p,h1,h2,_⟩
 rcases Nat.lt_or_eq_of_le h1 with c | c
 ·exact h2 (th hb h c)
 ·exact h2 (by rw [c];exact h)
theorem yz {a b c p:Nat} (hc:0<c):fZ (a * c) (b * c) p ↔ fZ a b p:=by
 unfold fZ
 rw [←Nat.mul_assoc,Nat.mul_right_comm a c]
 constructor
 ·rintro (h | ⟨h,o⟩)
  ·exact .inl (Nat.lt_of_mul_lt_mul_right h)
  ·exact .inr ⟨Nat.eq_of_mul_eq_mul_right hc h,o⟩
 ·rintro (h | ⟨h,o⟩)
  ·exact .inl (Nat.mul_lt_mul_of_pos_right h hc)
  ·exact .inr ⟨by rw [h],o⟩
theorem sA {a b c:Nat} (hc:0<c):gZ (a * c) (b * c)=gZ a b:=by
 have e:fZ (a * c) (b * c)=fZ a b:=funext fun p=>propext (yz hc)
 unfold gZ
 rw [e]
theorem zl {a b c d:Nat} (hb:0<b) (hd:0<d) (h:a * d=c * b):gZ a b=gZ c d:=by
 rw [←sA (a:=a) (b:=b) hd,h,Nat.mul_comm b d,sA hb]
theorem wQ {a b c d:Nat} (h:a+b=c+d):2 ^ a * 2 ^ b=2 ^ c * 2 ^ d:=by rw [←Nat.pow_add,h,Nat.pow_add]
theorem mul_two {a T U:Nat} (h:U=2 * T):a * U=2 * (a * T):=by rw [h,Nat.mul_left_comm]
theorem II (k:Nat):2 ^ (6+k)=64 * 2 ^ k:=by rw [Nat.pow_add]
theorem Dq {n b p q r s:Nat} (h:p * q=r * s):n * p * b * q=n * (b * r) * s:=by
 rw [Nat.mul_assoc n p,Nat.mul_assoc n,Nat.mul_right_comm p,h,Nat.mul_assoc n,Nat.mul_comm (r * s),Nat.mul_assoc b]
theorem jJ:ig=2 * 2 ^ 1074:=by decide +kernel
theorem BC {p q b a:Nat} (h:p * b≤a):p * q * b≤a * q:=by
 rw [Nat.mul_right_comm];exact ak _ h
theorem LJ {v p q b a:Nat} (hv:v=p * q) (h:p * b≤a):v * b≤a * q:=by subst hv;exact BC h
theorem Gg {a b p:Nat} (hb:0<b) (h1:V p * b≤a * 2 ^ 1074) (h2:a * 2 ^ 1074<V (p+1) * b) (hp:p≤top) [Decidable (fZ a b p)] :
  gZ a b=if fZ a b p then (if p+1≤top then some (p+1) else none) else some p:=by
 have e:a * ig=2 * (a * 2 ^ 1074):=mul_two jJ
 split
 ·rename_i h
  split
  ·rename_i ht
   refine lW hb ht ?_ (.inr h)
   unfold fZ
   rw [e,kH,Nat.add_mul]
   have:=Nat.mul_lt_mul_of_pos_right (kC (p+1)) hb
   omega
  ·rename_i ht
   have:p=top:=by omega
   exact qc hb (this ▸ h)
 ·rename_i h
  refine lW hb hp h ?_
  by_cases c:p=0
  ·exact .inl c
  ·refine .inr (.inl ?_)
   rw [e,kH,Nat.add_mul,show p - 1+1=p by omega]
   have:=Nat.mul_lt_mul_of_pos_right (yA (show p - 1<p by omega)) hb
   omega
theorem Dp {a b p:Nat} (hb:0<b) (h1:V p * b≤a * 2 ^ 1074) (hp:top<p):gZ a b=none:=by
 refine qc hb (.inl ?_)
 have e:a * ig=2 * (a * 2 ^ 1074):=mul_two jJ
 rw [e,kH,Nat.add_mul]
 have h3:=Nat.mul_lt_mul_of_pos_right (yA (show top<p by omega)) hb
 have h4:=ak b (MK (show top+1≤p by omega))
 omega
theorem By (b:Nat) (hb:0<b):gZ 0 b=some 0:=by
 refine lW hb (Nat.zero_le _) ?_ (.inl rfl)
 unfold fZ
 rw [Nat.zero_mul]
 have:0<mK 0 * b:=Nat.mul_pos (by decide) hb
 omega
theorem Dn {a b:Nat} (hb:0<b) (h:a * ig≤b):gZ a b=some 0:=by
 refine lW hb (Nat.zero_le _) ?_ (.inl rfl)
 unfold fZ
 have e:mK 0 * b=b:=by rw [show mK 0=1 by decide,Nat.one_mul]
 rw [e]
 omega
def vc:Nat:=2 ^ 1024
theorem Kr:V (top+1)=vc * 2 ^ 1074:=by decide +kernel
theorem Bz {a b:Nat} (hb:0<b) (h:vc * b≤a):gZ a b=none:=by
 refine qc hb (.inl ?_)
 rw [kH,Nat.add_mul]
 have h3:=Nat.mul_lt_mul_of_pos_right (kC top) hb
 have h4:V (top+1) * b≤a * 2 ^ 1074:=by
  exact LJ Kr h
 have e:a * ig=2 * (a * 2 ^ 1074):=mul_two jJ
 omega
theorem Gi {a b p:Nat} (h:gZ a b=some p):p≤top:=by
 unfold gZ at h
 split at h
 ·rename_i hx
  have:=hx.choose_spec.1
  injection h with h
  rw [h] at this;exact this
 ·cases h
end Nr
end Go.Eng
set_option maxRecDepth 20000
namespace Go.Eng
open Go.IntWalk
theorem wB {a b:List UInt16} (i:Nat) (ha:i<a.length) (hb:i<b.length) (h:(a.getD i 0).toNat<(b.getD i 0).toNat):Nt.val (a.take (i+1))<Nt.val (b.take (i+1)):=by
 rw [dn a i ha,dn b i hb]
 have h1:=Nt.gW (a.take i)
 rw [aF,Nat.min_eq_left (by omega)] at h1
 generalize (a.getD i 0).toNat=x at *
 generalize (b.getD i 0).toNat=y at *
 have:65536 ^ i * x+65536 ^ i≤65536 ^ i * y:=by
  rw [←Nat.mul_succ];exact Nat.mul_le_mul_left _ (by omega)
 omega
theorem vN {a b:List UInt16} (hl:a.length=b.length) (i:Nat) (h:a.drop i=b.drop i):(Nt.val a<Nt.val b ↔ Nt.val (a.take i)<Nt.val (b.take i))∧(Nt.val a=Nt.val b ↔ Nt.val (a.take i)=Nt.val (b.take i)):=by
 have e1:Nt.val a=Nt.val (a.take i)+65536 ^ (a.take i).length * Nt.val (a.drop i):=by rw [←Nt.fJ,List.take_append_drop]
 have e2:Nt.val b=Nt.val (b.take i)+65536 ^ (b.take i).length * Nt.val (b.drop i):=by rw [←Nt.fJ,List.take_append_drop]
 have e3:(b.take i).length=(a.take i).length:=by rw [aF,aF,hl]
 rw [e3,←h] at e2
 omega
theorem eC.cW (a b:List UInt16) (hl:a.length=b.length) (hb:a.length≤1099511627776):∀(n:Nat),n≤a.length→a.drop n=b.drop n→eC.l1 a b ((n:Int) - 1)=some [.i .i64 (Nt.cmp (Nt.val a) (Nt.val b))]:=by
 intro n
 induction n with
 | zero =>
  intro hn hd
  refine eC.bV _ _ _ ?_
  intro v1 h1 v2 h2 v3 h3
  simp only [bh] at hd
  rw [ab (by omega),ae,hd,Nt.cmp,au (by omega),aw rfl]
 | succ n ih =>
  intro hn hd
  refine eC.bV _ _ _ ?_
  intro v1 h1 v2 h2 v3 h3
  have e:((n+1:Nat):Int) - 1=(n:Int):=by omega
  rw [e] at h1 h2 h3 ⊢
  rw [aj] at h1 h2
  rw [aa (by omega),ai,bw (bK (by omega) (by omega)),bw (bK (by omega) (by omega))]
  obtain ⟨d1,d2⟩:=vN hl (n+1) hd
  by_cases c:v1=v2
  ·rw [aa c,aH,ae,h3,i64_in _ (by omega)]
   refine ih (by omega) ?_
   rw [drop_cons (show n<a.length by omega) 0,drop_cons (show n<b.length by omega) 0,hd,←h1,←h2,c]
  ·rw [ab c,aM,ai,bw (bK (by omega) (by omega)),bw (bK (by omega) (by omega))]
   by_cases c2:v1<v2
   ·have:=wB (a:=a) (b:=b) n (by omega) (by omega) (by rw [←h1,←h2];exact UInt16.lt_iff_toNat_lt.1 c2)
    rw [aa c2,ai,Nt.cmp,aw (d1.2 this)]
   ·have h4:v2.toNat<v1.toNat:=by
     have h5:v1.toNat≠v2.toNat:=fun e=>c (UInt16.toNat_inj.1 e)
     rw [UInt16.lt_iff_toNat_lt] at c2;omega
    have:=wB (a:=b) (b:=a) n (by omega) (by omega) (by rw [←h1,←h2];exact h4)
    rw [ab c2,ae,Nt.cmp,au (fun e=>by have:=d1.1 e;omega),au (fun e=>by have:=d2.1 e;omega)]
theorem eC.goal (a b:List UInt16) (hp:(decide (a.length≤1099511627776∧b.length≤1099511627776)&&(Nt.norm a&&Nt.norm b))=true):eC.F a b=some [.i .i64 (Nt.cmp (Nt.val a) (Nt.val b))]:=by
 simp only [ah,aA] at hp
 obtain ⟨⟨l1,l2⟩,n1,n2⟩:=hp
 refine eC.bZ _ _ ?_
 intro v1 h1
 rcases Nat.lt_trichotomy a.length b.length with c | c | c
 ·have:=Nt.qf n2 c
  rw [ab (show ¬(a.length:Int)=b.length by omega),aM,ai,aa (by omega),ai,Nt.cmp,aw this]
 ·rw [aa (show (a.length:Int)=b.length by omega),aH,ae,h1,vr l1]
  exact eC.cW a b c l1 a.length (Nat.le_refl _) (by rw [List.drop_length,c,List.drop_length])
 ·have:=Nt.qf n1 c
  rw [ab (show ¬(a.length:Int)=b.length by omega),aM,ai,ab (by omega),ae,Nt.cmp,au (by omega),au (by omega)]
theorem fW.goal (a b:List UInt16) (hp:(Nt.is a&&Nt.is b)=true):fW.F a b=some [.i .i64 (Nt.cmp (Nt.val a) (Nt.val b))]:=by
 simp only [ah] at hp
 have l1:=Nt.iY hp.1
 have l2:=Nt.iY hp.2
 refine fW.bZ _ _ ?_
 intro v1 h1 v2 h2
 rw [hp.1,hp.2] at h1
 rw [hp.1]
 have e1:v1=false:=h1
 have d1:decide (a.length≤1099511627776)=true:=aa (by omega)
 have d2:decide (b.length≤1099511627776)=true:=aa (by omega)
 have d3:decide (a.length≤1099511627776∧b.length≤1099511627776)=true:=aa ⟨by omega,by omega⟩
 rw [d1,d2,d3,e1,h2,Nt.iS hp.1,Nt.iS hp.2]
 rfl
theorem cq.cW (a:List UInt16) (ha:a.length≤256):∀(m i:Nat) (acc:List Int),i+m=a.length→acc.length=a.length→(acc.take i)=(a.take i).map (fun d=>(d.toNat:Int))→cq.l1 a a.length i acc=some [.sl .is (a.map fun d=>(d.toNat:Int))]:=by
 intro m
 induction m with
 | zero =>
  intro i acc hi hl ht
  refine cq.bV _ _ _ _ ?_
  intro v1 h1 v2 h2 v3 h3 v4 h4
  rw [List.take_of_length_le (by omega),List.take_of_length_le (by omega)] at ht
  rw [ab (by omega),ae,ht]
 | succ m ih =>
  intro i acc hi hl ht
  refine cq.bV _ _ _ _ ?_
  intro v1 h1 v2 h2 v3 h3 v4 h4
  rw [aj] at h1 h3
  have hv:=v1.toNat_lt
  rw [i64_in _ (by omega)] at h2
  have e4:v4=((i+1:Nat):Int):=by rw [h4,i64_in _ (by omega)];omega
  rw [aa (by omega),ai,bw (bK (by omega) (by omega)),bw (bK (by omega) (by omega)),bw (aa (by rw [aj];omega)),e4]
  refine ih (i+1) v3 (by omega) (by rw [h3,List.length_set];exact hl) ?_
  have HN:i<a.length:=by omega
  rw [h3,List.take_set,List.take_add_one,List.take_add_one,List.map_append,ht.symm]
  have LW:i<acc.length:=by omega
  rw [aq LW,aq HN]
  have fO:(acc.take i).length=i:=by rw [aF];omega
  simp only [Option.toList_some,aX,List.map_nil]
  rw [List.set_append_right _ _ (by omega),fO,Nat.sub_self,List.set_cons_zero,h2,h1,af,aq HN]
  rfl
theorem cq.goal (a:List UInt16) (hp:decide (a.length≤256)=true):cq.F a=some [.sl .is (a.map fun d=>(d.toNat:Int))]:=by
 have h:=ar hp
 refine cq.bZ _ ?_
 intro v1 h1
 rw [aj] at h1
 rw [bw (jY.2 ⟨by omega,by omega,by omega,by rw [iR];omega⟩)]
 exact cq.cW a h a.length 0 v1 (by omega) (by rw [h1];simp) (by simp)
end Go.Eng
set_option maxRecDepth 20000
namespace Go.Eng
open Go.IntWalk
theorem Nt.xS (k n:Nat):Nt.fix (k+1) n=Nt.fix k n++[UInt16.ofNat (n / 65536 ^ k)]:=by
 induction k generalizing n with
 | zero=>simp [Nt.fix]
 | succ k ih =>
  rw [Nt.fix,ih (n / 65536),Nt.fix,List.cons_append,Nat.div_div_eq_div_mul,Nat.pow_succ,Nat.mul_comm 65536]
theorem Nt.IN {k n:Nat} (h1:n<65536 ^ k) (h2:k=0∨65536 ^ (k - 1)≤n):Nt.of n=Nt.fix k n:=by
 have e:Nt.val (Nt.fix k n)=n:=by rw [Nt.nG,Nat.mod_eq_of_lt h1]
 conv=>lhs;rw [←e]
 refine Nt.dr ?_
 rcases h2 with rfl | h2
 ·rfl
 ·cases k with
  | zero=>rfl
  | succ k =>
   rw [Nt.xS,Nt.lT]
   rw [Nat.add_sub_cancel] at h2
   refine aa fun e0=>?_
   have:=congrArg UInt16.toNat e0
   rw [Nt.dz] at this
   have h3:n / 65536 ^ k<65536:=(Nat.div_lt_iff_lt_mul (Nat.pow_pos (by omega))).2 (by rw [Nat.pow_succ,Nat.mul_comm] at h1;exact h1)
   have h4:0<n / 65536 ^ k:=Nat.div_pos h2 (Nat.pow_pos (by omega))
   have e0:(0:UInt16).toNat=0:=rfl
   omega
theorem mT (n:Nat):UInt16.ofInt (n:Int)=UInt16.ofNat n:=mf n
theorem vJ (n:Nat):Int.fdiv (n:Int) (2 ^ (min (16:UInt64).toNat IntKind.i64.bits))=((n / 65536:Nat):Int):=by
 rw [show (2:Int) ^ (min (16:UInt64).toNat IntKind.i64.bits)=65536 by decide,Int.fdiv_eq_ediv_of_nonneg _ (by omega)]
 omega
theorem cP.cW (a:List UInt16) (b c:Nat) (ha:a.length≤1000000) (hb:1≤b∧b≤65535) (hc:c≤65535) (hn:Nt.norm a=true):∀(m i:Nat) (acc:List UInt16) (k:Nat),i+m=a.length→acc.length=i→k≤65535→Nt.val acc+65536 ^ i * k=Nt.val (a.take i) * b+c →
  cP.l1 b acc k a a.length i=some [.sl .ws (Nt.of (Nt.val a * b+c))]:=by
 intro m
 induction m with
 | zero =>
  intro i acc k hi hl hk hv
  refine cP.bV _ _ _ _ _ _ ?_
  intro v1 h1 v2 h2 v3 h3 v4 h4 v5 h5 v6 h6 v7 h7
  rw [List.take_of_length_le (by omega)] at hv
  rw [ab (by omega),ae]
  have HN:i=a.length:=by omega
  by_cases c0:k=0
  ·subst c0
   rw [ab (by omega),ae,cP.jZ,←hv,Nat.mul_zero,Nat.add_zero,Nt.dr]
   by_cases h0:a=[]
   ·subst h0
    have:acc=[]:=bc (by rw [hl,HN];rfl)
    rw [this];rfl
   ·-- the last digit is no Oj
    have oy:=lU hn h0
    have Nn:=List.length_pos_iff.2 h0
    have Pv:acc≠[]:=by intro e;subst e;simp at hl;omega
    rw [lV Pv]
    simp only [Bool.not_eq_true',decide_eq_false_iff_not]
    intro e0
    have Ft:=dn acc (acc.length - 1) (by omega)
    rw [show acc.length - 1+1=acc.length by omega,List.take_length,e0] at Ft
    have fO:=Nt.gW (acc.take (acc.length - 1))
    rw [aF,Nat.min_eq_left (by omega),hl,HN] at fO
    rw [hl,HN] at Ft
    have h5:65536 ^ (a.length - 1) * 1≤65536 ^ (a.length - 1) * (a.getD (a.length - 1) 0).toNat:=Nat.mul_le_mul_left _ oy.1
    have h6:Nt.val a * 1≤Nt.val a * b:=Nat.mul_le_mul_left _ hb.1
    have Mv:(0:UInt16).toNat=0:=rfl
    rw [Mv] at Ft
    omega
  ·have e7:v7=[UInt16.ofNat k]:=by rw [h7,mT]
   rw [aa (by omega),ai,bw (dW (by rw [e7,az];omega) (by rw [e7,az];omega)),cP.jZ,e7,←hv]
   have e8:Nt.val (acc++[UInt16.ofNat k])=Nt.val acc+65536 ^ i * k:=by
    rw [Nt.fJ,hl];simp only [Nt.val,Nat.mul_zero,Nat.add_zero,Nt.dz];rw [Nat.mod_eq_of_lt (by omega)]
   rw [←e8,Nt.dr]
   rw [Nt.lT]
   refine aa fun e=>?_
   have:=congrArg UInt16.toNat e
   rw [Nt.dz] at this
   have e0:(0:UInt16).toNat=0:=rfl
   omega
 | succ m ih =>
  intro i acc k hi hl hk hv
  refine cP.bV _ _ _ _ _ _ ?_
  intro v1 h1 v2 h2 v3 h3 v4 h4 v5 h5 v6 h6 v7 h7
  rw [aj] at h1
  have hd:=v1.toNat_lt
  rw [i64_in _ (by omega)] at h2
  have hm:v1.toNat * b≤65535 * 65535:=Nat.mul_le_mul (by omega) hb.2
  have e3:v3=((k+v1.toNat * b:Nat):Int):=by
   have e:v2 * (b:Int)=((v1.toNat * b:Nat):Int):=by rw [h2,Int.natCast_mul]
   rw [h3,e,i64_in ((v1.toNat * b:Nat):Int) (by omega),i64_in _ (by omega)];omega
  have e4:v4=[UInt16.ofNat (k+v1.toNat * b)]:=by rw [h4,e3,mT]
  have e5:v5=(((k+v1.toNat * b) / 65536:Nat):Int):=by rw [h5,e3,vJ]
  have e6:v6=((i+1:Nat):Int):=by rw [h6,i64_in _ (by omega)];omega
  rw [aa (by omega),ai,bw (bK (by omega) (by omega)),bw (dW (by rw [e4,az];omega) (by rw [e4,az];omega)),e5,e6,e4]
  refine ih (i+1) _ _ (by omega) (by rw [ao,hl];rfl) (by omega) ?_
  rw [dn a i (by omega),←h1,Nt.fJ,hl]
  simp only [Nt.val,Nat.mul_zero,Nat.add_zero,Nt.dz]
  generalize hq:k+v1.toNat * b=q
  rw [Nat.pow_succ,Nat.mul_assoc,Nat.add_assoc,←Nat.mul_add]
  have:q % 65536+65536 * (q / 65536)=q:=Nat.mod_add_div q 65536
  rw [this,←hq,Nat.mul_add,Nat.add_mul,←Nat.mul_assoc]
  omega
theorem cP.goal (a:List UInt16) (b c:Int) (hp:(decide (a.length≤1000000∧1≤b∧b≤65535∧0≤c∧c≤65535)&&Nt.norm a)=true):cP.F a b c=some [.sl .ws (Nt.of (Nt.val a * b.toNat+c.toNat))]:=by
 simp only [ah,aA] at hp
 obtain ⟨⟨l1,b1,b2,c1,c2⟩,n1⟩:=hp
 refine cP.bZ _ _ _ ?_
 intro v1 h1 v2 h2
 have e1:v1=((a.length+1:Nat):Int):=by rw [h1,i64_in _ (by omega)];omega
 rw [e1,bw (jY.2 ⟨by omega,by omega,by omega,by rw [iR];omega⟩)]
 have eb:(b.toNat:Int)=b:=by omega
 have ec:(c.toNat:Int)=c:=by omega
 have:=cP.cW a b.toNat c.toNat l1 ⟨by omega,by omega⟩ (by omega) n1 a.length 0 v2 c.toNat (by omega) (by rw [h2];rfl) (by omega) (by rw [h2];simp [Nt.val])
 rw [eb,ec] at this
 exact this
end Go.Eng
set_option maxRecDepth 20000
namespace Go.Eng
open Go.IntWalk
theorem cU.cW (b E:Nat) (hb:2≤b∧b≤65535) (hE:E≤1000) (fO:b ^ E<2 ^ 4096):∀(m:Nat),m≤E→cU.l1 b m (Nt.of (b ^ (E - m)))=some [.sl .ws (Nt.of (b ^ E)),.b true]:=by
 intro m
 induction m with
 | zero =>
  intro hm
  refine cU.bV _ _ _ ?_
  intro v1 h1 v2 h2
  rw [ab (by omega),ae,Nat.sub_zero]
 | succ m ih =>
  intro hm
  refine cU.bV _ _ _ ?_
  intro v1 h1 v2 h2
  have hle:∀j,j≤E→b ^ j<2 ^ 4096:=fun j hj=>Nat.lt_of_le_of_lt (Nat.pow_le_pow_right (by omega) hj) fO
  have hi:=Nt.oe (hle (E - (m+1)) (by omega))
  have hl:=Nt.iY hi
  have e1:v1=Nt.of (b ^ (E - m)):=by
   rw [h1,Nt.eu,aj,show (0:Int).toNat=0 from rfl,Nat.add_zero,←Nat.pow_succ]
   congr 2;omega
  have Np:=Nt.oe (hle (E - m) (by omega))
  have Jv:=Nt.iY Np
  rw [aa (by omega),ai,Nt.oS,bw (by rw [Bool.and_true];exact aa (by omega)),e1,bw (aa (by omega)),Np,aH,ae,h2,i64_in _ (by omega)]
  rw [show ((m+1:Nat):Int) - 1=(m:Int) by omega]
  exact ih (by omega)
theorem cU.goal (b e:Int) (hp:decide (2≤b∧b≤65535∧0≤e∧e≤1000∧b.toNat ^ e.toNat<2 ^ 4096)=true):cU.F b e=some [.sl .ws (Nt.of (b.toNat ^ e.toNat)),.b true]:=by
 obtain ⟨b1,b2,e1,e2,fO⟩:=ar hp
 refine cU.bZ _ _ ?_
 intro v1 h1 v2 h2 v3 h3 v4 h4
 have d1:v1=false:=by rw [h1,ab (by omega),ae];exact ab (by omega)
 have d2:v2=false:=by rw [h2,d1,ae];exact ab (by omega)
 simp only [aR,bm,Bool.not_not,bQ]
 rw [d2,ae]
 by_cases c:e=0
 ·have d3:v3=true:=by rw [h3,aa c,ai]
  rw [d3,ai,c,h4,show (0:Int).toNat=0 from rfl,Nat.pow_zero];rfl
 ·have d3:v3=false:=by rw [h3,ab c,ae];exact ab (by omega)
  rw [d3,ae,ab (by omega),ae]
  have:=cU.cW b.toNat e.toNat ⟨by omega,by omega⟩ (by omega) fO e.toNat (Nat.le_refl _)
  rw [Nat.sub_self,Nat.pow_zero,show ((b.toNat:Nat):Int)=b by omega,show ((e.toNat:Nat):Int)=e by omega] at this
  rw [h4];exact this
theorem Nr.sv (d:bz) (c:UInt8):Nr.num (d++[c])=10 * Nr.num d+(c.toNat - 48):=by
 unfold Nr.num;rw [List.foldl_append];rfl
theorem Nr.ky {c:UInt8}:Nr.dV c=true ↔ 48≤c.toNat∧c.toNat≤57:=by
 simp only [Nr.dV,aA,UInt8.le_iff_toNat_le];exact Iff.rfl
theorem Nr.IS (d:bz) (h:d.all Nr.dV=true):∀n:Nat,d.foldl (fun n c=>10 * n+(c.toNat - 48)) n<(n+1) * 10 ^ d.length:=by
 induction d with
 | nil=>intro n;simp
 | cons c d ih =>
  intro n
  rw [List.all_cons,ah,Nr.ky] at h
  rw [List.foldl_cons,ay,Nat.pow_succ]
  refine Nat.lt_of_lt_of_le (ih h.2 _) ?_
  rw [Nat.mul_comm (10 ^ d.length),←Nat.mul_assoc]
  exact ak _ (by omega)
theorem Nr.sw (d:bz) (h:d.all Nr.dV=true):Nr.num d<10 ^ d.length:=by
 have:=Nr.IS d h 0
 rwa [Nat.zero_add,Nat.one_mul] at this
theorem A6 {s:bz} {i:Nat} (h:i<s.length):s.take (i+1)=s.take i++[s.getD i 0]:=by
 rw [List.take_add_one,aq h,af,aq h];rfl
theorem Fb {s:bz} {i:Nat} (hs:s.all Nr.dV=true) (h:i<s.length):48≤(s.getD i 0).toNat∧(s.getD i 0).toNat≤57:=by
 rw [af,aq h]
 have:=aC.1 hs _ (List.getElem_mem h)
 simp only [Nr.dV,aA] at this
 exact ⟨UInt8.le_iff_toNat_le.1 this.1,UInt8.le_iff_toNat_le.1 this.2⟩
theorem Iv (k:Nat) (h:k≤300):10 ^ k<2 ^ 4096:=by
 have hk:∀n:Nat,n=300→10 ^ k≤10 ^ n:=fun n hn=>Nat.pow_le_pow_right (by omega) (by omega)
 exact Nat.lt_of_le_of_lt (hk 300 rfl) (by decide +kernel)
theorem dm.cW (s:bz) (hs:s.all Nr.dV=true) (hl:s.length≤300):∀(m i:Nat),i+m=s.length→dm.l1 s (Nt.of (Nr.num (s.take i))) s.length i=some [.sl .ws (Nt.of (Nr.num s)),.b true]:=by
 have fO:∀i,Nr.num (s.take i)<2 ^ 4096:=fun i=>by
  have h1:=Nr.sw (s.take i) (by rw [aC] at hs ⊢;exact fun x hx=>hs x (List.mem_of_mem_take hx))
  have h2:(s.take i).length≤300:=by rw [aF];omega
  exact Nat.lt_of_lt_of_le h1 (Nat.le_of_lt (Iv _ h2))
 intro m
 induction m with
 | zero =>
  intro i hi
  have No:=Nt.oe (fO i)
  refine dm.bV _ _ _ _ ?_
  intro v1 h1 v2 h2 v3 h3 v4 h4 v5 h5
  have Nl:=Nt.iY No
  rw [ab (by omega),ae,bw (aa (by omega)),No,aH,ae,List.take_of_length_le (by omega)]
 | succ m ih =>
  intro i hi
  have No:=Nt.oe (fO i)
  refine dm.bV _ _ _ _ ?_
  intro v1 h1 v2 h2 v3 h3 v4 h4 v5 h5
  have Nl:=Nt.iY No
  rw [aj] at h1
  obtain ⟨c1,c2⟩:=Fb hs (show i<s.length by omega)
  rw [←h1] at c1 c2
  have f1:decide (v1<(48:UInt8))=false:=ab fun e=>by
   have:=UInt8.lt_iff_toNat_lt.1 e
   have e0:(48:UInt8).toNat=48:=rfl
   omega
  have f2:decide ((57:UInt8)<v1)=false:=ab fun e=>by
   have:=UInt8.lt_iff_toNat_lt.1 e
   have e0:(57:UInt8).toNat=57:=rfl
   omega
  have e2:v2=false:=by rw [h2,f1,ae,f2]
  have e3:v3=((v1.toNat - 48:Nat):Int):=by
   have e:(v1 - 48).toNat=v1.toNat - 48:=UInt8.toNat_sub_of_le v1 48 (UInt8.le_iff_toNat_le.2 c1)
   rw [h3,e,i64_in _ (by omega)]
  have e5:v5=((i+1:Nat):Int):=by rw [h5,i64_in _ (by omega)];omega
  have e4:v4=Nt.of (Nr.num (s.take (i+1))):=by
   rw [h4,Nt.eu,A6 (by omega),Nr.sv,←h1,e3,aj,show (10:Int).toNat=10 from rfl,Nat.mul_comm]
  have hx:bB (i:Int) s.length=true:=bK (by omega) (by omega)
  have hc:decide ((Nt.of (Nr.num (s.take i))).length≤1000000∧1≤(10:Int)∧(10:Int)≤65535∧0≤v3∧v3≤65535)=true:=aa (by omega)
  rw [aa (show (i:Int)<s.length by omega)]
  simp only [f1,e2,hx,hc,Nt.oS,aM,aH,Bool.false_or,Bool.or_true,Bool.true_or,aY,bQ,ae,ai]
  rw [e4,e5]
  exact ih (i+1) (by omega)
theorem dm.goal (s:bz) (hp:(decide (1≤s.length∧s.length≤300∧s.getD 0 0≠48)&&s.all Nr.dV)=true):dm.F s=some [.sl .ws (Nt.of (Nr.num s)),.b true]:=by
 simp only [ah,aA] at hp
 obtain ⟨⟨l1,l2,l3⟩,hs⟩:=hp
 refine dm.bZ _ ?_
 intro v1 h1 v2 h2 v3 h3 v4 h4
 have lB:s≠[]:=by intro e;subst e;simp at l1
 have d0:decide (s=([]:bz))=false:=ab lB
 have d1:v1=false:=by rw [h1,d0,ae];exact ab (by omega)
 have d2:decide (v2=(48:UInt8))=false:=by rw [h2];exact ab l3
 rw [d2] at h3 h4 ⊢
 have d3:v3=false:=by rw [h3,d1];rfl
 have d4:v4=false:=h4
 have hx:bB 0 s.length=true:=bK (by omega) (by omega)
 simp only [d0,d1,d3,d4,hx,aM,aH,Bool.false_or,Bool.or_true,Bool.true_or,aY,bQ,ae,ai]
 have:=dm.cW s hs l2 s.length 0 (by omega)
 rw [List.take_zero,show Nr.num []=0 from rfl,Nt.ij] at this
 exact this
theorem Gu {a acc:List UInt16} {b c k:Nat} (hn:Nt.norm a=true) (hl:acc.length=a.length) (hb:1≤b) (hk:k≤65535) (hv:Nt.val acc+65536 ^ a.length * k=Nt.val a * b+c) :
  (k=0→Nt.of (Nt.val a * b+c)=acc)∧(k≠0→Nt.of (Nt.val a * b+c)=acc++[UInt16.ofNat k]):=by
 refine ⟨fun c0=>?_,fun c0=>?_⟩
 ·subst c0
  rw [←hv,Nat.mul_zero,Nat.add_zero,Nt.dr]
  by_cases h0:a=[]
  ·subst h0
   have:acc=[]:=bc hl
   rw [this];rfl
  ·have oy:=lU hn h0
   have Nn:=List.length_pos_iff.2 h0
   have Pv:acc≠[]:=by intro e;subst e;simp at hl;omega
   rw [lV Pv]
   simp only [Bool.not_eq_true',decide_eq_false_iff_not]
   intro e0
   have Ft:=dn acc (acc.length - 1) (by omega)
   rw [show acc.length - 1+1=acc.length by omega,List.take_length,e0] at Ft
   have fO:=Nt.gW (acc.take (acc.length - 1))
   rw [aF,Nat.min_eq_left (by omega),hl] at fO
   rw [hl] at Ft
   have h5:65536 ^ (a.length - 1) * 1≤65536 ^ (a.length - 1) * (a.getD (a.length - 1) 0).toNat:=Nat.mul_le_mul_left _ oy.1
   have h6:Nt.val a * 1≤Nt.val a * b:=Nat.mul_le_mul_left _ hb
   have Mv:(0:UInt16).toNat=0:=rfl
   rw [Mv] at Ft
   omega
 ·have e8:Nt.val (acc++[UInt16.ofNat k])=Nt.val acc+65536 ^ a.length * k:=by
   rw [Nt.fJ,hl];simp only [Nt.val,Nat.mul_zero,Nat.add_zero,Nt.dz];rw [Nat.mod_eq_of_lt (by omega)]
  rw [←hv,←e8,Nt.dr]
  rw [Nt.lT]
  refine aa fun e=>?_
  have:=congrArg UInt16.toNat e
  rw [Nt.dz] at this
  have e0:(0:UInt16).toNat=0:=rfl
  omega
theorem jI (d:UInt16):(UInt32.ofInt (d.toNat:Int)).toNat=d.toNat:=by
 have h:=tU (d.toNat:Int)
 rw [wrap_u32'] at h
 have:=d.toNat_lt
 omega
theorem jk (x:UInt32):UInt16.ofInt (x.toNat:Int)=UInt16.ofNat x.toNat:=mf _
theorem eO.cW (a:List UInt16) (n:Nat) (ha:a.length≤1000000) (hn:Nt.norm a=true) (SK:n<16):∀(m i:Nat) (acc:List UInt16) (k:UInt32),i+m=a.length→acc.length=i→k.toNat<2 ^ n→Nt.val acc+65536 ^ i * k.toNat=Nt.val (a.take i) * 2 ^ n →
  eO.l1 n acc k a a.length i=some [.sl .ws (Nt.of (Nt.val a * 2 ^ n))]:=by
 have ON:2 ^ n≤32768:=Nat.pow_le_pow_right (n:=2) (by omega) (show n≤15 by omega)
 have Jn:=Nat.two_pow_pos n
 intro m
 induction m with
 | zero =>
  intro i acc k hi hl hk hv
  refine eO.bV _ _ _ _ _ _ ?_
  intro v1 h1 v2 h2 v3 h3 v4 h4 v5 h5 v6 h6 v7 h7
  rw [List.take_of_length_le (by omega)] at hv
  rw [ab (by omega),ae]
  have HN:i=a.length:=by omega
  have he:=Gu (a:=a) (acc:=acc) (b:=2 ^ n) (c:=0) (k:=k.toNat) hn (by omega) Jn (by omega) (by rw [←HN,Nat.add_zero];exact hv)
  rw [Nat.add_zero] at he
  by_cases c0:k=0
  ·rw [c0,ab (by decide),ae,eO.jZ,he.1 (by rw [c0];rfl)]
  ·have SP:k.toNat≠0:=fun e=>c0 (UInt32.toNat_inj.1 e)
   have e7:v7=UInt16.ofNat k.toNat:=by rw [h7,jk]
   rw [aa (by rw [UInt32.lt_iff_toNat_lt];show 0<k.toNat;omega),ai,bw (dW (by rw [az];omega) (by rw [az];omega)),eO.jZ,e7,he.2 SP]
 | succ m ih =>
  intro i acc k hi hl hk hv
  refine eO.bV _ _ _ _ _ _ ?_
  intro v1 h1 v2 h2 v3 h3 v4 h4 v5 h5 v6 h6 v7 h7
  rw [aj] at h1 h3
  have hd:=v1.toNat_lt
  have hm:v1.toNat * 2 ^ n≤65535 * 32768:=Nat.mul_le_mul (by omega) ON
  have e3:v3.toNat=k.toNat+v1.toNat * 2 ^ n:=by
   rw [h3,UInt32.toNat_or,oI,UInt32.toNat_ofNat',h2,jI,Nat.mod_eq_of_lt (by omega),Nat.or_comm,mr hk,Nat.add_comm]
  have e4:v4=UInt16.ofNat (k.toNat+v1.toNat * 2 ^ n):=by rw [h4,jk,e3]
  have e5:v5.toNat=(k.toNat+v1.toNat * 2 ^ n) / 65536:=by
   rw [h5,rW,UInt32.toNat_ofNat',e3,show (16:UInt64).toNat=16 from rfl];omega
  have e6:v6=((i+1:Nat):Int):=by rw [h6,i64_in _ (by omega)];omega
  rw [aa (by omega),ai,bw (bK (by omega) (by omega)),bw (aa (by omega)),bw (dW (by rw [az];omega) (by rw [az];omega)),e6,e4]
  refine ih (i+1) _ v5 (by omega) (by rw [ao,hl];rfl) ?_ ?_
  ·rw [e5]
   have:(k.toNat+v1.toNat * 2 ^ n)<65536 * 2 ^ n:=by
    have:v1.toNat * 2 ^ n≤65535 * 2 ^ n:=ak _ (by omega)
    omega
   exact (Nat.div_lt_iff_lt_mul (by omega)).2 (by rw [Nat.mul_comm (2 ^ n) 65536];exact this)
  ·rw [dn a i (by omega),←h1,Nt.fJ,hl,e5]
   simp only [Nt.val,Nat.mul_zero,Nat.add_zero,Nt.dz]
   generalize hq:k.toNat+v1.toNat * 2 ^ n=q
   rw [Nat.pow_succ,Nat.mul_assoc,Nat.add_assoc,←Nat.mul_add]
   have:q % 65536+65536 * (q / 65536)=q:=Nat.mod_add_div q 65536
   rw [this,←hq,Nat.mul_add,Nat.add_mul,←Nat.mul_assoc]
   omega
theorem eO.goal (a:List UInt16) (n:Int) (hp:(decide (a.length≤1000000∧0≤n∧n<16)&&Nt.norm a)=true):eO.F a n=some [.sl .ws (Nt.of (Nt.val a * 2 ^ n.toNat))]:=by
 simp only [ah,aA] at hp
 obtain ⟨⟨l1,n1,n2⟩,hn⟩:=hp
 rw [eO.eJ]
 have:=eO.cW a n.toNat l1 hn (by omega) a.length 0 [] 0 (by omega) rfl (by show 0<2 ^ n.toNat;exact Nat.two_pow_pos _) (by simp [Nt.val])
 rw [show ((n.toNat:Nat):Int)=n by omega] at this
 exact this
end Go.Eng
set_option maxRecDepth 20000
namespace Go.Eng
open Go.IntWalk
theorem Hr:(65536:Nat) ^ 257=65536 ^ 256 * 65536:=by decide +kernel
theorem mR:∀k,Nt.val (List.replicate k 0)=0
 | 0=>rfl
 | k+1=>by rw [List.replicate_succ,Nt.val,mR k];rfl
theorem ir.goal (a:List UInt16) (n:Int) (hp:(decide (0≤n∧n≤4096)&&Nt.is a)=true):ir.F a n=some [.sl .ws (Nt.of (Nt.val a * 2 ^ n.toNat))]:=by
 simp only [ah,aA] at hp
 obtain ⟨⟨n1,n2⟩,ha⟩:=hp
 have hl:=Nt.iY ha
 have hn:=Nt.iS ha
 refine ir.bZ _ _ ?_
 intro v1 h1 v2 h2 v3 h3 v4 h4 v5 h5 v6 h6
 have d1:v1=false:=by rw [h1,ha,aH,ae];exact ab (by omega)
 have d2:v2=false:=by rw [h2,d1,ae];exact ab (by omega)
 rw [d2,ae] at h3
 obtain ⟨N,rfl⟩:∃N:Nat,n=N:=⟨n.toNat,by omega⟩
 have e4:v4=((N / 16:Nat):Int):=by
  rw [h4,i64_in _ (by rw [Int.tdiv_eq_ediv_of_nonneg (by omega)];omega),Int.tdiv_eq_ediv_of_nonneg (by omega)];omega
 have em:Int.tmod (N:Int) 16=((N % 16:Nat):Int):=by rw [Int.tmod_eq_emod_of_nonneg (by omega)];omega
 rw [em,aj] at h6
 rw [em]
 rw [e4,aj] at h5
 have Qk:v6.length≤257:=by
  rw [h6]
  refine (Nt.js _ 257).2 ?_
  have h7:=Nt.gW a
  have h8:65536 ^ a.length≤65536 ^ 256:=Nat.pow_le_pow_right (by omega) hl
  have h9:2 ^ (N % 16)≤65536:=Nat.pow_le_pow_right (n:=2) (by omega) (show N % 16≤16 by omega)
  rewrite [Hr]
  have iA:Nt.val a * 2 ^ (N % 16)≤Nt.val a * 65536:=Nat.mul_le_mul_left _ h9
  omega
 have m1:oq v4 v4 2=true:=jY.2 ⟨by omega,by omega,by omega,by rw [iR];omega⟩
 have m2:decide (a.length≤1000000∧0≤((N % 16:Nat):Int)∧((N % 16:Nat):Int)<16)=true:=aa (by omega)
 have m3:fC (v5.length+v6.length) 2=true:=dW (by rw [h5,List.length_replicate];omega) (by rw [h5,List.length_replicate];omega)
 have m4:decide (a.length≤1099511627776)=true:=aa (by omega)
 simp only [d1,d2,ha,m1,m2,m3,m4,hn,aM,aH,Bool.false_or,Bool.or_true,Bool.true_or,aY,bQ,aj]
 by_cases c:a=[]
 ·have d3:v3=true:=by rw [h3,c];rfl
  rw [d3,ai,c,show Nt.val []=0 from rfl,Nat.zero_mul,Nt.ij]
 ·have Nn:=List.length_pos_iff.2 c
  have d3:v3=false:=by rw [h3];exact ab (by omega)
  rw [d3,ae,show (!decide ((16:Int)=0))=true from rfl,bQ,bQ]
  have e:Nt.val (v5++v6)=Nt.val a * 2 ^ N:=by
   rw [Nt.fJ,h5,mR,List.length_replicate,h6,Nt.eu,Nat.zero_add,show (65536:Nat)=2 ^ 16 by decide,←Nat.pow_mul,Nat.mul_left_comm,←Nat.pow_add]
   congr 2;omega
  rw [←e,Nt.dr]
  have oy:=Bw hn c
  have To:v6≠[]:=by
   rw [h6,Nt.kG]
   ·simp
   ·exact Nat.mul_pos oy (Nat.two_pow_pos _)
  have:∀x y:List UInt16,y≠[]→Nt.norm (x++y)=Nt.norm y:=by
   intro x y hy
   induction x with
   | nil=>rfl
   | cons d x ih=>rw [List.cons_append,Nt.nL (by simp [hy]),ih]
  rw [this _ _ To,h6,Nt.oS]
where
 Bw {a:List UInt16} (h:Nt.norm a=true) (h0:a≠[]):0<Nt.val a:=Nt.oR h h0
def ma (n:Nat):List UInt16→List UInt16
 | []=>[]
 | d :: r=>UInt16.ofNat (d.toNat / 2 ^ n+(r.getD 0 0).toNat * 2 ^ (16 - n)) :: ma n r
theorem kq (n:Nat):∀a,(ma n a).length=a.length
 | []=>rfl
 | d :: r=>by rw [ma,ay,ay,kq n r]
theorem uK {n:Nat} (hn:n<16):∀a,Nt.val (ma n a)=Nt.val a / 2 ^ n
 | []=>by simp [ma,Nt.val]
 | d :: r=>by
  have ih:=uK hn r
  rw [ma,Nt.val,ih,Nt.val,Nt.dz]
  have hp:=Nat.two_pow_pos n
  have hd:=d.toNat_lt
  have hP:(2:Nat) ^ n * 2 ^ (16 - n)=65536:=by rw [←Nat.pow_add,show n+(16 - n)=16 by omega]
  have hR:∃h R,Nt.val r=h+65536 * R∧(r.getD 0 0).toNat=h∧h<65536:=by
   cases r with
   | nil=>exact ⟨0,0,rfl,rfl,by omega⟩
   | cons e s=>exact ⟨e.toNat,Nt.val s,rfl,rfl,e.toNat_lt⟩
  obtain ⟨h,R,e1,e2,e3⟩:=hR
  rw [e1,e2]
  generalize d.toNat=x at *
  have hq:x / 2 ^ n<2 ^ (16 - n):=(Nat.div_lt_iff_lt_mul hp).2 (by rw [Nat.mul_comm,hP];omega)
  have U3:=Nat.two_pow_pos (16 - n)
  generalize hA:(2:Nat) ^ n=A at *
  generalize hB:(2:Nat) ^ (16 - n)=B at *
  -- left: ((x / A+h * B) % 65536)+65536 * ((h+65536 * R) / A)
  have k1:(h+65536 * R) / A=h / A+B * R:=by
   rw [←hP,Nat.mul_assoc,Nat.add_mul_div_left _ _ hp]
  have k2:(x+65536 * (h+65536 * R)) / A=x / A+B * (h+65536 * R):=by
   conv=>lhs;rw [←hP,Nat.mul_assoc]
   rw [Nat.add_mul_div_left _ _ hp,hP]
  have k3:(x / A+h * B) % 65536+65536 * (h / A)=x / A+h * B:=by
   have h1:h=A * (h / A)+h % A:=(Nat.div_add_mod h A).symm
   have h2:=Nat.mod_lt h hp
   have h3:h * B=65536 * (h / A)+(h % A) * B:=by
    conv=>lhs;rw [h1]
    rw [Nat.add_mul,Nat.mul_right_comm,hP]
   have h4:(h % A+1) * B≤A * B:=ak _ h2
   rw [hP,Nat.succ_mul] at h4
   rw [h3,←Nat.add_assoc,Nat.add_right_comm,Nat.add_mul_mod_self_left,Nat.mod_eq_of_lt (by omega)]
  rw [k1,k2,Nat.mul_add,Nat.mul_add,←Nat.add_assoc,k3,Nat.mul_comm h B,Nat.mul_left_comm 65536 B R]
  omega
theorem uL {n:Nat}:∀(a:List UInt16) (i:Nat),i<a.length→(ma n a).getD i 0=UInt16.ofNat ((a.getD i 0).toNat / 2 ^ n+(a.getD (i+1) 0).toNat * 2 ^ (16 - n))
 | [],i,h=>by simp at h
 | d :: r,0,h=>by simp [ma]
 | d :: r,i+1,h=>by
  have:=uL (n:=n) r i (by simpa using h)
  simpa [ma] using this
theorem getD_set_ne {α:Type} (l:List α) (i:Nat) (x d:α) (h:i<l.length):(l.set i x).getD i d=x:=by
 simp [af,h]
theorem tC {α:Type} (l:List α) (i:Nat) (x d:α) (h:i<l.length):(l.set i x).take (i+1)=l.take i++[x]:=by
 rw [List.take_add_one,List.take_set_of_le (Nat.le_refl _)]
 simp [h]
theorem cV.cW (a:List UInt16) (n:Nat) (ha:a.length≤1000000) (hn:n<16):∀(m i:Nat) (acc:List UInt16),i+m=a.length→acc.length=a.length→acc.take i=(ma n a).take i →
  cV.l1 a n a a.length i acc=some [.sl .ws (Nt.of (Nt.val a / 2 ^ n))]:=by
 intro m
 induction m with
 | zero =>
  intro i acc hi hl ht
  refine cV.bV _ _ _ _ _ _ ?_
  intro v1 h1 v2 h2 v3 h3 v4 h4 v5 h5 v6 h6 v7 h7 v8 h8 v9 h9
  rw [List.take_of_length_le (by omega),List.take_of_length_le (by rw [kq];omega)] at ht
  rw [ab (by omega),ae,bw (aa (by omega)),ht,uK hn]
 | succ m ih =>
  intro i acc hi hl ht
  refine cV.bV _ _ _ _ _ _ ?_
  intro v1 h1 v2 h2 v3 h3 v4 h4 v5 h5 v6 h6 v7 h7 v8 h8 v9 h9
  rw [aj] at h1 h2 h4 h9
  rw [aj] at h2
  have e3:v3=((i+1:Nat):Int):=by rw [h3,i64_in _ (by omega)];omega
  have e7:v7=((16 - n:Nat):Int):=by rw [h7,i64_in _ (by omega)];omega
  rw [e3,aj] at h5
  rw [e7,aj] at h8
  have Jv:v2.length=a.length:=by rw [h2,List.length_set];exact hl
  have e4:v4=oH v1 n:=by rw [h4,h2,getD_set_ne _ _ _ _ (by omega)]
  have hx:∀l:List UInt16,l.length=a.length→bB (i:Int) l.length=true:=fun l h=>bK (by omega) (by omega)
  rw [aa (show (i:Int)<(a.length:Int) by omega),ai,bw (hx a rfl),bw (aa (by omega)),bw (hx acc hl),bw (aa (by rw [aj];omega))]
  have hd1:=v1.toNat_lt
  have hs:(oH v1 n).toNat=v1.toNat / 2 ^ n:=by
   rw [oH,UInt16.toNat_ofNat']
   exact Nat.mod_eq_of_lt (Nat.lt_of_le_of_lt (Nat.div_le_self _ _) hd1)
  have Jx:=uL (n:=n) a i (by omega)
  rw [←h1] at Jx
  have Nh:∀(l:List UInt16) (x:UInt16),l.length=a.length→l.take i=acc.take i→x=(ma n a).getD i 0→(l.set i x).take (i+1)=(ma n a).take (i+1):=by
   intro l x h1 h2 h3
   rw [tC l i x 0 (by omega),h2,ht,List.take_add_one (l:=ma n a),aq (by rw [kq];omega),h3,af,aq (by rw [kq];omega)]
   rfl
  by_cases c:i+1<a.length
  ·rw [e3,aa (show ((i+1:Nat):Int)<(a.length:Int) by omega),ai,bw (hx v2 Jv),bw (aa (by rw [aj];omega)),bw (bK (by omega) (by omega)),bw (aa (by omega)),bw (hx v2 Jv),bw (aa (by rw [aj];omega))]
   refine cV.jg _ _ _ _ _ _ ?_
   intro u1 g1
   rw [g1,i64_in _ (by omega),show (i:Int)+1=((i+1:Nat):Int) by omega]
   refine ih (i+1) v9 (by omega) (by rw [h9,List.length_set,Jv]) ?_
   rw [h9]
   refine Nh v2 _ Jv (by rw [h2,List.take_set_of_le (Nat.le_refl _)]) ?_
   rw [Jx,←h5,e4]
   apply UInt16.toNat_inj.1
   have hq:v1.toNat / 2 ^ n<2 ^ (16 - n):=(Nat.div_lt_iff_lt_mul (Nat.two_pow_pos n)).2 (by rw [←Nat.pow_add,show 16 - n+n=16 by omega];exact hd1)
   have e8:v8.toNat=v5.toNat * 2 ^ (16 - n) % 65536:=by
    rw [h8,jk,Nt.dz,oI,UInt32.toNat_ofNat',h6,jI];omega
   rw [UInt16.toNat_or,hs,e8,Nt.dz]
   have e9:v5.toNat * 2 ^ (16 - n) % 65536=(v5.toNat % 2 ^ n) * 2 ^ (16 - n):=by
    conv=>lhs;rw [show (65536:Nat)=2 ^ n * 2 ^ (16 - n) by rw [←Nat.pow_add,show n+(16 - n)=16 by omega]]
    rw [Nat.mul_mod_mul_right]
   have xX:(v5.toNat % 2 ^ n) * 2 ^ (16 - n)+v1.toNat / 2 ^ n<65536:=by
    have h1:=Nat.mod_lt v5.toNat (Nat.two_pow_pos n)
    have h2:(v5.toNat % 2 ^ n+1) * 2 ^ (16 - n)≤2 ^ n * 2 ^ (16 - n):=ak _ h1
    rw [←Nat.pow_add,show n+(16 - n)=16 by omega,Nat.succ_mul] at h2
    omega
   have ki:v1.toNat / 2 ^ n % 65536=v1.toNat / 2 ^ n:=Nat.mod_eq_of_lt (by omega)
   have GZ:(v1.toNat / 2 ^ n+v5.toNat * 2 ^ (16 - n)) % 65536=(v5.toNat % 2 ^ n) * 2 ^ (16 - n)+v1.toNat / 2 ^ n:=by
    rw [Nat.add_mod,ki,e9,Nat.add_comm,Nat.mod_eq_of_lt xX]
   rw [GZ,e9,Nat.or_comm,mr hq]
  ·rw [e3,ab (show ¬((i+1:Nat):Int)<(a.length:Int) by omega),ae]
   refine cV.jg _ _ _ _ _ _ ?_
   intro u1 g1
   rw [g1,i64_in _ (by omega),show (i:Int)+1=((i+1:Nat):Int) by omega]
   refine ih (i+1) v2 (by omega) Jv ?_
   rw [h2]
   refine Nh acc _ hl rfl ?_
   rw [Jx]
   apply UInt16.toNat_inj.1
   have:a.getD (i+1) 0=0:=by rw [af,List.getElem?_eq_none (by omega)];rfl
   rw [hs,this,Nt.dz,show (0:UInt16).toNat=0 from rfl,Nat.zero_mul,Nat.add_zero,Nat.mod_eq_of_lt (Nat.lt_of_le_of_lt (Nat.div_le_self _ _) hd1)]
theorem cV.goal (a:List UInt16) (n:Int) (hp:decide (a.length≤1000000∧0≤n∧n<16)=true):cV.F a n=some [.sl .ws (Nt.of (Nt.val a / 2 ^ n.toNat))]:=by
 obtain ⟨l1,n1,n2⟩:=ar hp
 refine cV.bZ _ _ ?_
 intro v1 h1
 rw [aj] at h1
 rw [bw (jY.2 ⟨by omega,by omega,by omega,by rw [iR];omega⟩)]
 have:=cV.cW a n.toNat l1 (by omega) a.length 0 v1 (by omega) (by rw [h1];simp) (by simp)
 rw [show ((n.toNat:Nat):Int)=n by omega] at this
 exact this
end Go.Eng
set_option maxRecDepth 20000
namespace Go.Eng
open Go.IntWalk
theorem oE (a:List UInt16) (i:Nat) (h:i<a.length):Nt.val (a.drop i)=(a.getD i 0).toNat+65536 * Nt.val (a.drop (i+1)):=by
 rw [drop_cons h 0,Nt.val]
theorem ez.cW (a:List UInt16) (d:UInt16) (ha:a.length≤1000000) (hd:0<d.toNat):∀(n:Nat) (q:List UInt16) (r:UInt32),n≤a.length→q.length=a.length→Nt.val (q.drop n)=Nt.val (a.drop n) / d.toNat→r.toNat=Nt.val (a.drop n) % d.toNat →
  ez.l1 a d r ((n:Int) - 1) q=some [.sl .ws (Nt.of (Nt.val a / d.toNat)),.u16 (UInt16.ofNat (Nt.val a % d.toNat))]:=by
 intro n
 induction n with
 | zero =>
  intro q r hn hl hq hr
  refine ez.bV _ _ _ _ _ ?_
  intro v1 h1 v2 h2 v3 h3 v4 h4 v5 h5 v6 h6 v7 h7 v8 h8
  rw [bh,bh] at hq
  rw [bh] at hr
  rw [ab (by omega),ae,bw (aa (by omega)),hq,h8,jk,hr]
 | succ n ih =>
  intro q r hn hl hq hr
  refine ez.bV _ _ _ _ _ ?_
  intro v1 h1 v2 h2 v3 h3 v4 h4 v5 h5 v6 h6 v7 h7 v8 h8
  have e:((n+1:Nat):Int) - 1=(n:Int):=by omega
  rw [e] at h2 h6 h7 ⊢
  rw [aj] at h2 h6
  have hd2:=d.toNat_lt
  have hv2:=v2.toNat_lt
  have Ji:r.toNat<d.toNat:=by rw [hr];exact Nat.mod_lt _ hd
  have e4:v4.toNat=d.toNat:=by rw [h4,jI]
  have e3:v3.toNat=v2.toNat:=by rw [h3,jI]
  have e1:v1.toNat=r.toNat * 65536:=by
   rw [h1,oI,UInt32.toNat_ofNat',show (16:UInt64).toNat=16 from rfl];omega
  have Mu:(v1 ||| v3).toNat=r.toNat * 65536+v2.toNat:=by
   rw [UInt32.toNat_or,e1,e3]
   exact mr (a:=r.toNat) (b:=v2.toNat) (k:=16) hv2
  have hv4:v4≠0:=fun e0=>by
   have:=congrArg UInt32.toNat e0
   rw [e4] at this
   have U8:(0:UInt32).toNat=0:=rfl
   omega
  have Tu:v5.toNat=(r.toNat * 65536+v2.toNat) / d.toNat:=by
   rw [h5,jk,Nt.dz,UInt32.toNat_div,Mu,e4]
   refine Nat.mod_eq_of_lt ((Nat.div_lt_iff_lt_mul hd).2 ?_)
   have:(r.toNat+1) * 65536≤d.toNat * 65536:=ak _ Ji
   rw [Nat.mul_comm d.toNat 65536] at this
   omega
  have er:((v1 ||| v3) % v4).toNat=(r.toNat * 65536+v2.toNat) % d.toNat:=by
   rw [UInt32.toNat_mod,Mu,e4]
  have hx:bB (n:Int) a.length=true:=bK (by omega) (by omega)
  have KE:bB (n:Int) q.length=true:=bK (by omega) (by omega)
  rw [aa (by omega),ai,bw hx,ab hv4,aM,bQ,bw KE,bw (aa (by rw [aj];omega)),bQ,h7,i64_in _ (by omega)]
  have hH:=oE a n (by omega)
  rw [←h2] at hH
  generalize Nt.val (a.drop (n+1))=H at hq hr hH
  have Tk:H=d.toNat * (H / d.toNat)+r.toNat:=by rw [hr];exact (Nat.div_add_mod H d.toNat).symm
  have LK:v2.toNat+65536 * H=(r.toNat * 65536+v2.toNat)+d.toNat * (65536 * (H / d.toNat)):=by
   conv=>lhs;rw [Tk]
   rw [Nat.mul_add,Nat.mul_left_comm];omega
  refine ih v6 _ (by omega) (by rw [h6,List.length_set];exact hl) ?_ ?_
  ·rw [oE v6 n (by rw [h6,List.length_set];omega),h6,getD_set_ne _ _ _ _ (by omega),Tu,List.drop_set_of_lt (by omega),hq,hH,LK,Nat.add_mul_div_left _ _ hd]
  ·rw [er,hH,LK,Nat.add_mul_mod_self_left]
theorem ez.goal (a:List UInt16) (d:UInt16) (hp:decide (a.length≤1000000∧d≠0)=true):ez.F a d=some [.sl .ws (Nt.of (Nt.val a / d.toNat)),.u16 (UInt16.ofNat (Nt.val a % d.toNat))]:=by
 obtain ⟨l1,d0⟩:=ar hp
 have hd:0<d.toNat:=Nat.pos_of_ne_zero fun e=>d0 (UInt16.toNat_inj.1 e)
 refine ez.bZ _ _ ?_
 intro v1 h1 v2 h2
 rw [aj] at h1
 rw [bw (jY.2 ⟨by omega,by omega,by omega,by rw [iR];omega⟩),h2,i64_in _ (by omega)]
 exact ez.cW a d l1 hd a.length v1 0 (Nat.le_refl _) (by rw [h1];simp) (by simp [Nt.val,h1]) (by simp [Nt.val])
theorem gK.goal (a b:List UInt16) (hp:(Nt.is a&&Nt.is b&&decide (b≠[]))=true):gK.F a b=some [.sl .ws (Nt.of (Nt.val a / Nt.val b)),.sl .ws (Nt.of (Nt.val a % Nt.val b)),.b true]:=by
 simp only [ah,aA] at hp
 obtain ⟨⟨ha,hb⟩,og⟩:=hp
 have la:=Nt.iY ha
 have lb:=Nt.iY hb
 have na:=Nt.iS ha
 have nb:=Nt.iS hb
 have UD:=List.length_pos_iff.2 og
 have pb:=Nt.oR nb og
 refine gK.bZ _ _ ?_
 intro v1 h1 v2 h2 v3 h3 v4 h4 v5 h5 v6 h6 v7 h7 v8 h8 v9 h9 v10 iA v11 ki v12 jE kW nY jP pA iD o8
 rw [ha,hb] at h1
 have d1:v1=false:=h1
 have d2:v2=false:=by rw [h2,d1,ae];exact ab (by omega)
 have m1:decide (a.length≤1099511627776)=true:=aa (by omega)
 have m2:decide (b.length≤1099511627776)=true:=aa (by omega)
 have m3:decide (a.length≤1099511627776∧b.length≤1099511627776)=true:=aa ⟨by omega,by omega⟩
 simp only [d1,d2,ha,m1,m2,m3,na,nb,aM,aH,Bool.false_or,Bool.or_true,Bool.true_or,aY,bQ,ae]
 by_cases c1:Nt.val a<Nt.val b
 ·have e3:v3=-1:=by rw [h3,Nt.cmp,aw c1]
  rw [e3,aa (by omega),ai,bw (dW (by omega) (by omega)),Nat.div_eq_of_lt c1,Nt.ij,Nat.mod_eq_of_lt c1,Nt.dr na]
 ·have e3:¬v3<0:=by rw [h3,Nt.cmp,au c1];split <;> omega
  rw [ab e3,ae]
  by_cases c2:b.length=1
  ·obtain ⟨d,rfl⟩:∃d,b=[d]:=List.length_eq_one_iff.1 c2
   have hd0:d≠0:=by simpa [Nt.norm] using nb
   have e4:v4=d:=by rw [h4];rfl
   have ev:Nt.val [d]=d.toNat:=by simp [Nt.val]
   rw [aa (by rw [c2];rfl),ai,bw (bK (by omega) (by rw [c2];omega)),e4,bw (aa ⟨by omega,hd0⟩),h5,h7,h6,e4,ev,gB,Nt.dz]
   have hm:Nt.val a % d.toNat<d.toNat:=Nat.mod_lt _ (Nat.pos_of_ne_zero fun e=>hd0 (UInt16.toNat_inj.1 e))
   have:=d.toNat_lt
   rw [Nat.mod_eq_of_lt (show Nt.val a % d.toNat<65536 by omega)]
  ·have l2:2≤b.length:=by omega
   rw [ab (by omega),ae]
   rw [i64_in _ (by omega)] at h8
   have e8:v8=((b.length - 1:Nat):Int):=by omega
   rw [e8,aj] at h9
   obtain ⟨t1,t2⟩:=lU nb og
   rw [←h9] at t1 t2
   have Sp:=v9.toNat_lt
   obtain ⟨p1,p2,p3⟩:=Nt.iO (n:=v9.toNat) (by omega)
   have pl:=Nt.jT (n:=v9.toNat) (k:=16) Sp
   obtain ⟨s,hs⟩:∃s,s=16 - Nt.bits v9.toNat:=⟨_,rfl⟩
   have xX:v10=(s:Int):=by rw [iA,i64_in _ (by omega)];omega
   have Sv:s<16:=by omega
   rw [xX,aj] at ki jE o8
   -- the Nc
   have UW:v9.toNat * 2 ^ s<65536:=by
    have:v9.toNat * 2 ^ s<2 ^ Nt.bits v9.toNat * 2 ^ s:=Nat.mul_lt_mul_of_pos_right p2 (Nat.two_pow_pos s)
    rw [←Nat.pow_add,show Nt.bits v9.toNat+s=16 by omega] at this
    exact this
   have Pd:32768≤v9.toNat * 2 ^ s:=by
    have:2 ^ (Nt.bits v9.toNat - 1) * 2 ^ s≤v9.toNat * 2 ^ s:=ak _ p1
    rw [←Nat.pow_add,show Nt.bits v9.toNat - 1+s=15 by omega] at this
    exact this
   have yG:=Nt.gW (b.take (b.length - 1))
   rw [aF,Nat.min_eq_left (by omega)] at yG
   generalize hP:65536 ^ (b.length - 1)=P at t2 yG
   have QG:65536 ^ b.length=65536 * P:=by rw [←hP,Nat.mul_comm,←Nat.pow_succ];congr 1;omega
   generalize hL:Nt.val (b.take (b.length - 1))=Lo at t2 yG
   have QB:Nt.val b * 2 ^ s=Lo * 2 ^ s+P * (v9.toNat * 2 ^ s):=by rw [t2,Nat.add_mul,Nat.mul_assoc]
   have Mg:Nt.val b * 2 ^ s<65536 ^ b.length:=by
    have h1:(v9.toNat+1) * 2 ^ s≤65536:=by
     have:(v9.toNat+1) * 2 ^ s≤2 ^ Nt.bits v9.toNat * 2 ^ s:=ak _ p2
     rw [←Nat.pow_add,show Nt.bits v9.toNat+s=16 by omega] at this
     exact this
    have h2:Lo * 2 ^ s+P * (v9.toNat * 2 ^ s)<P * ((v9.toNat+1) * 2 ^ s):=by
     rw [Nat.add_mul,Nat.one_mul,Nat.mul_add]
     have:Lo * 2 ^ s<P * 2 ^ s:=Nat.mul_lt_mul_of_pos_right yG (Nat.two_pow_pos s)
     omega
    have h3:P * ((v9.toNat+1) * 2 ^ s)≤P * 65536:=Nat.mul_le_mul_left _ h1
    rw [QB,QG,Nat.mul_comm 65536 P]
    omega
   have Ph:32768 * P≤Nt.val b * 2 ^ s:=by
    have:P * 32768≤P * (v9.toNat * 2 ^ s):=Nat.mul_le_mul_left _ Pd
    rw [QB,Nat.mul_comm 32768 P];omega
   have L0:v12=Nt.fix b.length (Nt.val b * 2 ^ s):=by
    rw [jE]
    refine Nt.IN Mg (.inr ?_)
    rw [hP];omega
   have O0:v12.length=b.length:=by rw [L0,Nt.jN]
   have DV:Nt.val v12=Nt.val b * 2 ^ s:=by rw [jE,Nt.eu]
   have Jd:Nt.val v11=Nt.val a * 2 ^ s:=by rw [ki,Nt.eu]
   have D0:Nt.val v12≤Nt.val v11:=by rw [DV,Jd];exact ak _ (by omega)
   have O1:v12.length≤v11.length:=by
    rcases Nat.lt_or_ge v11.length v12.length with h | h
    ·have:=Nt.qf (a:=v11) (b:=v12) (by rw [jE];exact Nt.oS _) h
     omega
    ·exact h
   have Ql:v11.length≤257:=by
    rw [ki]
    refine (Nt.js _ 257).2 ?_
    have h7:=Nt.gW a
    have h8:65536 ^ a.length≤65536 ^ 256:=Nat.pow_le_pow_right (by omega) la
    have h9:2 ^ s≤65536:=Nat.pow_le_pow_right (n:=2) (by omega) (show s≤16 by omega)
    rewrite [Hr]
    have iA:Nt.val a * 2 ^ s≤Nt.val a * 65536:=Nat.mul_le_mul_left _ h9
    omega
   have qj:32768≤(v12.getLast?.getD 0).toNat:=by
    have:v12.getLast?.getD 0=UInt16.ofNat (Nt.val b * 2 ^ s / 65536 ^ (b.length - 1)):=by
     rw [L0]
     conv=>lhs;rw [show b.length=b.length - 1+1 by omega]
     rw [Nt.xS]
     simp
    rw [this,Nt.dz,hP]
    have h1:Nt.val b * 2 ^ s / P<65536:=(Nat.div_lt_iff_lt_mul (by rw [←hP];exact Nat.pow_pos (by omega))).2 (by rw [←QG];exact Mg)
    have h2:32768≤Nt.val b * 2 ^ s / P:=(Nat.le_div_iff_mul_le (by rw [←hP];exact Nat.pow_pos (by omega))).2 Ph
    rw [Nat.mod_eq_of_lt h1];exact h2
   have m4:bB v8 b.length=true:=bK (by omega) (by omega)
   have m5:decide (a.length≤1000000∧0≤v10∧v10<16)=true:=aa (by omega)
   have m6:decide (b.length≤1000000∧0≤v10∧v10<16)=true:=aa (by omega)
   have m7:decide (v11.length≤1000000∧2≤v12.length∧v12.length≤v11.length∧32768≤(v12.getLast?.getD 0).toNat)=true:=aa ⟨by omega,by omega,O1,qj⟩
   have UF:kW.length=v11.length+1 - v12.length:=by rw [nY,Nt.jN]
   have UE:jP.length=v12.length:=by rw [pA,Nt.jN]
   have m8:decide (kW.length≤1099511627776)=true:=aa (by omega)
   have m9:decide (jP.length≤1099511627776)=true:=aa (by omega)
   have hq:Nt.val v11 / Nt.val v12=Nt.val a / Nt.val b:=by rw [Jd,DV,Nat.mul_div_mul_right _ _ (Nat.two_pow_pos s)]
   have hr:Nt.val v11 % Nt.val v12=Nt.val a % Nt.val b * 2 ^ s:=by rw [Jd,DV,Nat.mul_mod_mul_right]
   have J4:Nt.val jP=Nt.val a % Nt.val b * 2 ^ s:=by
    rw [pA,Nt.nG,hr,Nat.mod_eq_of_lt]
    have h1:Nt.val a % Nt.val b * 2 ^ s<Nt.val b * 2 ^ s:=Nat.mul_lt_mul_of_pos_right (Nat.mod_lt _ pb) (Nat.two_pow_pos s)
    rw [O0];omega
   have Mu:Nt.val kW=Nt.val a / Nt.val b:=by
    rw [nY,Nt.nG,hq,Nat.mod_eq_of_lt]
    have h1:=Nt.gW v11
    rw [←hq]
    refine (Nat.div_lt_iff_lt_mul (by rw [DV];exact Nat.mul_pos pb (Nat.two_pow_pos s))).2 ?_
    have h2:65536 ^ (v11.length+1 - v12.length) * P≤65536 ^ (v11.length+1 - v12.length) * Nt.val v12:=Nat.mul_le_mul_left _ (by rw [DV];omega)
    rw [←hP,←Nat.pow_add,show v11.length+1 - v12.length+(b.length - 1)=v11.length by omega] at h2
    omega
   have m10:decide ((Nt.of (Nt.val jP)).length≤1000000∧0≤v10∧v10<16)=true:=by
    refine aa ⟨?_,by omega,by omega⟩
    have:=(Nt.js (Nt.val jP) jP.length).2 (Nt.gW jP)
    omega
   rw [bw m4,bw (by rw [m5];rfl),bw (by rw [m6];rfl),bw m7,bw m8,bw m9,bw m10,Mu,o8,Nt.eu,J4,Nat.mul_div_cancel _ (Nat.two_pow_pos s)]
end Go.Eng
set_option maxRecDepth 20000
namespace Go.Eng
open Go.IntWalk
theorem BV {B v1 v2 top u2 g r V T P:Nat} (hP:0<P) (qj:top=g * v1+r) (h:r * B+u2<g * v2) (hV:(v1 * B+v2) * P≤V) (hT:T<(top * B+u2+1) * P):T / V<g:=by
 have h1:top * B+u2+1≤g * (v1 * B+v2):=by
  rw [qj,Nat.add_mul,Nat.mul_add,Nat.mul_assoc];omega
 have h2:(top * B+u2+1) * P≤g * V:=by
  have:=ak P h1
  rw [Nat.mul_assoc] at this
  exact Nat.le_trans this (Nat.mul_le_mul_left _ hV)
 have yH:0<V:=by
  rcases Nat.eq_zero_or_pos V with e | e
  ·subst e;simp at h2;omega
  ·exact e
 exact (Nat.div_lt_iff_lt_mul yH).2 (by omega)
theorem zG {B v1 v2 top u2 g r V T P:Nat} (hB:g≤B) (qj:top=g * v1+r) (h:g * v2≤r * B+u2) (JF:V<(v1 * B+v2+1) * P) (KO:B * P≤V) (hT:(top * B+u2) * P≤T) (yH:0<V):g≤T / V+1:=by
 rcases Nat.eq_zero_or_pos g with e | hg
 ·rw [e];exact Nat.zero_le _
 have h1:g * (v1 * B+v2)≤top * B+u2:=by
  rw [qj,Nat.add_mul,Nat.mul_add,Nat.mul_assoc];omega
 have h2:g * V<(g * (v1 * B+v2)+g) * P:=by
  have:=Nat.mul_lt_mul_of_pos_left JF hg
  rw [←Nat.mul_assoc,Nat.mul_add,Nat.mul_one] at this
  exact this
 have h3:(g * (v1 * B+v2)) * P≤(top * B+u2) * P:=ak _ h1
 have h4:g * P≤B * P:=ak _ hB
 rw [Nat.add_mul] at h2
 have h5:g * V<T+V:=by omega
 have h6:(g - 1) * V≤T:=by
  have:g * V=(g - 1) * V+V:=by rw [←Nat.succ_mul];congr 1;omega
  omega
 have:=(Nat.le_div_iff_mul_le yH).2 h6
 omega
theorem xJ {B v1 top g r V T P:Nat} (hg:g≤B) (qj:top=g * v1+r) (hr:B≤r) (hV:V≤(v1+1) * P) (yH:0<V) (hT:top * P≤T):g≤T / V:=by
 refine (Nat.le_div_iff_mul_le yH).2 ?_
 have h1:g * V≤g * ((v1+1) * P):=Nat.mul_le_mul_left _ hV
 have h2:g * ((v1+1) * P)=(g * v1+g) * P:=by rw [←Nat.mul_assoc,Nat.mul_add,Nat.mul_one]
 have h3:(g * v1+g) * P≤top * P:=ak _ (by omega)
 omega
theorem wH {x:UInt64} (h:x.toNat<65536 * 65536):(iK x 16).toNat=x.toNat * 65536:=by
 rw [iK,UInt64.toNat_ofNat'];omega
theorem Ls {a b:UInt64} {x:Nat} (ha:a.toNat=x * 65536) (hb:b.toNat<65536):(a ||| b).toNat=x * 65536+b.toNat:=by
 rw [UInt64.toNat_or,ha];exact mr (a:=x) (b:=b.toNat) (k:=16) hb
theorem wx {g:UInt64} (h:0<g.toNat):(g - 1).toNat=g.toNat - 1:=by
 have:=UInt64.toNat_sub_of_le g 1 (aI.2 h)
 exact this
theorem bE.ju (v w qs:List UInt16) (n j:Nat) (hn:n=v.length) (h2:2≤n) (hj:j+n<w.length) (hl:w.length≤1000001) {V T P top:Nat} (hP:0<P)
  (hv1:32768≤(v.getD (n - 1) 0).toNat) (qj:top=(w.getD (j+n) 0).toNat * 65536+(w.getD (j+n - 1) 0).toNat)
  (JE:((v.getD (n - 1) 0).toNat * 65536+(v.getD (n - 2) 0).toNat) * P≤V) (Nu:V<((v.getD (n - 1) 0).toNat * 65536+(v.getD (n - 2) 0).toNat+1) * P)
  (Nx:(top * 65536+(w.getD (j+n - 2) 0).toNat) * P≤T) (Nw:T<(top * 65536+(w.getD (j+n - 2) 0).toNat+1) * P) (hq:T / V≤65535) :
  ∀(m:Nat) (g r:UInt64),g.toNat≤m→g.toNat≤65537→top=g.toNat * (v.getD (n - 1) 0).toNat+r.toNat→r.toNat≤65535→T / V≤g.toNat →
   ∃g':UInt64,T / V≤g'.toNat∧g'.toNat≤T / V+1∧g'.toNat≤65535∧bE.l2 v n j g r w qs=bE.j3 v n j g' w qs:=by
 intro m
 induction m with
 | zero =>
  intro g r hg hg2 ht hr OJ
  -- nothing is left to take TB
  have g0:g.toNat=0:=by omega
  refine ⟨g,OJ,by rw [g0];exact Nat.zero_le _,by omega,?_⟩
  refine bE.iw _ _ _ _ _ _ _ ?_
  intro u1 h1 u2 GK u3 h3 u4 h4 u5 h5 u6 h6 u7 h7 u8 h8 u9 h9 N6 iA RT ki yD jE
  have f1:decide ((65535:UInt64)<g)=false:=ab fun e=>by
   have:=aV.1 e
   have e0:(65535:UInt64).toNat=65535:=rfl
   omega
  have e1:u1=((n - 2:Nat):Int):=by rw [h1,i64_in _ (by omega)];omega
  have e5:u5=((j+n - 2:Nat):Int):=by rw [h5,i64_in ((j:Int)+n) (by omega),i64_in _ (by omega)];omega
  have x1:bB u1 v.length=true:=bK (by omega) (by omega)
  have x2:bB u5 w.length=true:=bK (by omega) (by omega)
  have x3:decide (u5.toNat<w.length)=true:=aa (by omega)
  have e8:u8=false:=by
   rw [h8]
   refine ab fun e=>?_
   have:=aV.1 e
   rw [UInt64.toNat_mul,g0,Nat.zero_mul,Nat.zero_mod] at this
   omega
  have e9:u9=false:=by rw [h9,f1,ae,e8]
  simp only [f1,e9,x1,x2,x3,aM,aH,Bool.false_or,Bool.or_true,Bool.true_or,aY,bQ,ae]
 | succ m ih =>
  intro g r hg hg2 ht hr OJ
  have hB:(65535:UInt64).toNat=65535:=rfl
  have w1:=(v.getD (n - 1) 0).toNat_lt
  have w2:=(v.getD (n - 2) 0).toNat_lt
  have w3:=(w.getD (j+n - 2) 0).toNat_lt
  have step:∀ρ:Option (List TV),(∀(u9:Bool),u9=decide (65535<g.toNat∨r.toNat * 65536+(w.getD (j+n - 2) 0).toNat<g.toNat * (v.getD (n - 2) 0).toNat)→∀yD:UInt64,yD.toNat=(v.getD (n - 1) 0).toNat →
    cond u9 (cond (decide ((65535:UInt64)<(r+yD))) (bE.j3 v n j (g - 1) w qs) (bE.l2 v n j (g - 1) (r+yD) w qs)) (bE.j3 v n j g w qs)=ρ)→bE.l2 v n j g r w qs=ρ:=by
   intro ρ Jb
   refine bE.iw _ _ _ _ _ _ _ ?_
   intro u1 h1 u2 GK u3 h3 u4 h4 u5 h5 u6 h6 u7 h7 u8 h8 u9 h9 N6 iA RT ki yD jE
   have e1:u1=((n - 2:Nat):Int):=by rw [h1,i64_in _ (by omega)];omega
   have e5:u5=((j+n - 2:Nat):Int):=by rw [h5,i64_in ((j:Int)+n) (by omega),i64_in _ (by omega)];omega
   have xX:N6=((n - 1:Nat):Int):=by rw [iA,i64_in _ (by omega)];omega
   rw [e1,aj] at GK
   rw [e5,aj] at h6
   rw [xX,aj] at ki
   have x1:bB u1 v.length=true:=bK (by omega) (by omega)
   have x2:bB u5 w.length=true:=bK (by omega) (by omega)
   have x3:decide (u5.toNat<w.length)=true:=aa (by omega)
   have x4:bB N6 v.length=true:=bK (by omega) (by omega)
   have f3:u3.toNat=(v.getD (n - 2) 0).toNat:=by rw [h3,gB,GK]
   have f7:u7.toNat=(w.getD (j+n - 2) 0).toNat:=by rw [h7,gB,h6]
   have f12:yD.toNat=(v.getD (n - 1) 0).toNat:=by rw [jE,gB,ki]
   have f4:u4.toNat=r.toNat * 65536:=by rw [h4];exact wH (by omega)
   have f47:=Ls f4 (b:=u7) (by omega)
   have hm:g.toNat * (v.getD (n - 2) 0).toNat≤65537 * 65535:=Nat.mul_le_mul hg2 (by omega)
   have fm:(g * u3).toNat=g.toNat * (v.getD (n - 2) 0).toNat:=by rw [UInt64.toNat_mul,f3,Nat.mod_eq_of_lt (by omega)]
   have Qa:=Jb u9 (by
    rw [h9,h8,aQ]
    simp only [aV,hB,f47,fm,f7]
    by_cases c:65535<g.toNat
    ·simp [c]
    ·simp [c]) yD f12
   cases hb:decide ((65535:UInt64)<g) with
   | true =>
    rw [hb,ai] at h9
    simp only [x1,x2,x3,x4,aM,aH,Bool.false_or,Bool.or_true,Bool.true_or,aY,Bool.or_self,aR,bm,bQ]
    exact Qa
   | false =>
    simp only [x1,x2,x3,x4,aM,aH,Bool.false_or,Bool.or_true,Bool.true_or,aY,Bool.or_self,aR,bm,bQ]
    exact Qa
  by_cases c:65535<g.toNat∨r.toNat * 65536+(w.getD (j+n - 2) 0).toNat<g.toNat * (v.getD (n - 2) 0).toNat
  ·have fO:T / V<g.toNat:=by
    rcases c with c | c
    ·omega
    ·exact BV hP ht c JE Nw
   have hg0:0<g.toNat:=Nat.lt_of_le_of_lt (Nat.zero_le _) fO
   have gs:=wx (g:=g) hg0
   have Ni:top=(g.toNat - 1) * (v.getD (n - 1) 0).toNat+(r.toNat+(v.getD (n - 1) 0).toNat):=by
    have:g.toNat * (v.getD (n - 1) 0).toNat=(g.toNat - 1) * (v.getD (n - 1) 0).toNat+(v.getD (n - 1) 0).toNat:=by rw [←Nat.succ_mul];congr 1;omega
    omega
   by_cases c2:65535<r.toNat+(v.getD (n - 1) 0).toNat
   ·have yH:0<V:=Nat.lt_of_lt_of_le (Nat.mul_pos (by omega) hP) JE
    have hle:g.toNat - 1≤T / V:=by
     refine xJ (B:=65536) (P:=65536 * P) (by omega) Ni (by omega) ?_ yH ?_
     ·have e:((v.getD (n - 1) 0).toNat+1) * (65536 * P)=(((v.getD (n - 1) 0).toNat+1) * 65536) * P:=by rw [Nat.mul_assoc]
      rw [e]
      refine Nat.le_trans (Nat.le_of_lt Nu) (ak _ (by omega))
     ·have e:top * (65536 * P)=(top * 65536) * P:=by rw [Nat.mul_assoc]
      rw [e]
      exact Nat.le_trans (ak _ (by omega)) Nx
    refine ⟨g - 1,by omega,by rw [gs];exact Nat.le_succ_of_le hle,by omega,step _ fun u9 h9 yD jE=>?_⟩
    have e:(r+yD).toNat=r.toNat+(v.getD (n - 1) 0).toNat:=by rw [UInt64.toNat_add,jE,Nat.mod_eq_of_lt (by omega)]
    rw [h9,aa c,ai,aa (by rw [aV,e,hB];exact c2),ai]
   ·have e:∀yD:UInt64,yD.toNat=(v.getD (n - 1) 0).toNat→(r+yD).toNat=r.toNat+(v.getD (n - 1) 0).toNat:=fun yD jE=>by rw [UInt64.toNat_add,jE,Nat.mod_eq_of_lt (by omega)]
    obtain ⟨g',i1,i2,i3,i4⟩:=ih (g - 1) (r+UInt64.ofInt ((v.getD (n - 1) 0).toNat:Int)) (by omega) (by omega) (by rw [gs,e _ (gB _)];exact Ni) (by rw [e _ (gB _)];omega) (by omega)
    refine ⟨g',i1,i2,i3,step _ fun u9 h9 yD jE=>?_⟩
    have GZ:yD=UInt64.ofInt ((v.getD (n - 1) 0).toNat:Int):=bn.1 (by rw [jE,gB])
    rw [h9,aa c,ai,ab (by rw [aV,e _ jE,hB];exact c2),ae,GZ]
    exact i4
  ·have c1:g.toNat≤65535:=by omega
   refine ⟨g,OJ,zG (B:=65536) (by omega) ht (by omega) Nu ?_ Nx (Nat.lt_of_lt_of_le (Nat.mul_pos (by omega) hP) JE),c1,step _ fun u9 h9 yD jE=>?_⟩
   ·refine Nat.le_trans (ak _ ?_) JE
    omega
   ·rw [h9,ab c,ae]
end Go.Eng
set_option maxRecDepth 20000
namespace Go.Eng
open Go.IntWalk
theorem nC {α:Type} (l:List α) (j i:Nat) (x:α):(l.set (j+i) x).drop j=(l.drop j).set i x:=by
 rw [List.drop_set,au (by omega)];congr 1;omega
theorem jU (w:List UInt16) (j i:Nat) (h:j+i<w.length):Nt.val ((w.drop j).take (i+1))=Nt.val ((w.drop j).take i)+65536 ^ i * (w.getD (j+i) 0).toNat:=by
 have:=dn (w.drop j) i (by rw [aU];omega)
 rw [this]
 congr 3
 simp [af]
theorem va (w:List UInt16) (j i:Nat) (d:UInt16) (h:j+i<w.length):Nt.val (((w.set (j+i) d).drop j).take (i+1))=Nt.val ((w.drop j).take i)+65536 ^ i * d.toNat:=by
 rw [jU _ _ _ (by rw [List.length_set];exact h),getD_set_ne _ _ _ _ h,nC,List.take_set_of_le (Nat.le_refl _)]
theorem yK (w:List UInt16) (j i:Nat):Nt.val ((w.drop j).take i)<65536 ^ i:=by
 refine Nat.lt_of_lt_of_le (Nt.gW _) (Nat.pow_le_pow_right (by omega) ?_)
 rw [aF];omega
theorem GU (x:Int):Int.fdiv x (2 ^ (min (16:UInt64).toNat IntKind.i64.bits))=x / 65536:=by
 rw [show (2:Int) ^ (min (16:UInt64).toNat IntKind.i64.bits)=65536 by decide,Int.fdiv_eq_ediv_of_nonneg _ (by omega)]
theorem yx (x:Int) (h:x=0∨x=-1∨x=-2):cI .and .i64 x 1=x % 2:=by
 rcases h with rfl | rfl | rfl <;> decide
theorem tz (x:Int):(UInt16.ofInt x).toNat=(x % 65536).toNat:=by
 have h:=pL x
 rw [iQ] at h
 omega
theorem bE.Ly (v w0 qs:List UInt16) (n j:Nat) (g:UInt64) (hn:n=v.length) (hj:j+n<w0.length) (hl:w0.length≤1000001):∀(m i:Nat) (c:UInt32) (w:List UInt16),i+m=n→c.toNat≤1→w.length=w0.length→w.take j=w0.take j→w.drop (j+i)=w0.drop (j+i) →
   Nt.val ((w0.drop j).take i)+Nt.val (v.take i)=Nt.val ((w.drop j).take i)+65536 ^ i * c.toNat →
   ∃(c':Nat) (w':List UInt16),c'≤1∧w'.length=w0.length∧w'.take j=w0.take j∧w'.drop (j+n+1)=w0.drop (j+n+1)∧Nt.val ((w0.drop j).take n)+Nt.val v=Nt.val ((w'.drop j).take n)+65536 ^ n * c' ∧
    (w'.getD (j+n) 0).toNat=((w0.getD (j+n) 0).toNat+c') % 65536∧bE.l5 v n j g c n i w qs=bE.j6 v n j g w' qs:=by
 intro m
 induction m with
 | zero =>
  intro i c w hi hc Gy ht hd hv
  obtain rfl:i=n:=by omega
  rw [List.take_of_length_le (l:=v) (by omega)] at hv
  have fO:j+i<w.length:=by omega
  refine ⟨c.toNat,w.set (j+i) (w.getD (j+i) 0+UInt16.ofNat c.toNat),hc,by rw [List.length_set];exact Gy,by rw [List.take_set_of_le (by omega)];exact ht,?_,?_,?_,?_⟩
  ·rw [List.drop_set_of_lt (by omega),show j+i+1=(j+i)+1 from rfl,←List.drop_drop (l:=w),hd,List.drop_drop]
  ·rw [nC,List.take_set_of_le (Nat.le_refl _)];exact hv
  ·rw [getD_set_ne _ _ _ _ fO,UInt16.toNat_add,Nt.dz,Nat.add_mod_mod]
   congr 3
   have e1:w.getD (j+i) 0=(w.drop (j+i)).getD 0 0:=by simp [af]
   have e2:w0.getD (j+i) 0=(w0.drop (j+i)).getD 0 0:=by simp [af]
   rw [e1,e2,hd]
  ·refine bE.AB _ _ _ _ _ _ _ _ _ ?_
   intro v1 h1 v2 h2 v3 h3 v4 h4 v5 h5 v6 h6 v7 h7 v8 h8 v9 h9 v10 iA v11 ki v12 jE
   have Ey:IntKind.i64.wrap ((j:Int)+(i:Int))=((j+i:Nat):Int):=by rw [i64_in _ (by omega)];omega
   rw [Ey,aj] at h9
   rw [h9] at iA jE
   rw [ab (by omega),ae,Ey,bw (bK (by omega) (by omega)),bw (aa (by omega)),bw (bK (by omega) (by omega)),bw (aa (by omega)),jE,iA,ki,jk]
 | succ m ih =>
  intro i c w hi hc Gy ht hd hv
  have fO:j+i<w.length:=by omega
  have w1:=(w.getD (j+i) 0).toNat_lt
  have w2:=(v.getD i 0).toNat_lt
  have ew:w.getD (j+i) 0=w0.getD (j+i) 0:=by
   have e1:w.getD (j+i) 0=(w.drop (j+i)).getD 0 0:=by simp [af]
   have e2:w0.getD (j+i) 0=(w0.drop (j+i)).getD 0 0:=by simp [af]
   rw [e1,e2,hd]
  obtain ⟨s,hs⟩:∃s,s=c.toNat+((w.getD (j+i) 0).toNat+(v.getD i 0).toNat):=⟨_,rfl⟩
  obtain ⟨c',w',r1,r2,r3,r4,r5,r6,r7⟩:=ih (i+1) (UInt32.ofNat (s / 65536)) (w.set (j+i) (UInt16.ofNat s)) (by omega) (by simp;omega) (by rw [List.length_set];exact Gy) (by rw [List.take_set_of_le (by omega)];exact ht)
   (by rw [List.drop_set_of_lt (by omega),show j+(i+1)=(j+i)+1 from rfl,←List.drop_drop (l:=w),hd,List.drop_drop]) (by
    rw [jU w0 j i (by omega),va w j i _ fO,dn v i (by omega),Nt.dz]
    have e:(UInt32.ofNat (s / 65536)).toNat=s / 65536:=by simp;omega
    rw [e,Nat.pow_succ,Nat.mul_assoc,Nat.add_assoc (Nt.val ((w.drop j).take i)),←Nat.mul_add,Nat.mod_add_div,hs,←ew,Nat.mul_add,Nat.mul_add]
    omega)
  refine ⟨c',w',r1,r2,r3,r4,r5,r6,?_⟩
  rw [←r7]
  refine bE.AB _ _ _ _ _ _ _ _ _ ?_
  intro v1 h1 v2 h2 v3 h3 v4 h4 v5 h5 v6 h6 v7 h7 v8 h8 v9 h9 v10 iA v11 ki v12 jE
  have Ey:IntKind.i64.wrap ((i:Int)+(j:Int))=((j+i:Nat):Int):=by rw [i64_in _ (by omega)];omega
  rw [Ey,aj] at h1
  rw [h1] at h2
  rw [aj] at h4
  have es:(c+(v3+v5)).toNat=s:=by
   rw [UInt32.toNat_add,UInt32.toNat_add,h3,h5,jI,jI,h2,h4,hs];omega
  have e6:v6=UInt16.ofNat s:=by rw [h6,jk,es]
  have e7:v7=UInt32.ofNat (s / 65536):=by
   apply UInt32.toNat_inj.1
   rw [h7,rW,es,show (16:UInt64).toNat=16 from rfl]
  have e8:v8=((i+1:Nat):Int):=by rw [h8,i64_in _ (by omega)];omega
  rw [aa (by omega),ai,Ey,bw (bK (by omega) (by omega)),bw (aa (by omega)),bw (bK (by omega) (by omega)),bw (bK (by omega) (by omega)),bw (aa (by omega)),e6,e7,e8,h1]
end Go.Eng
set_option maxRecDepth 20000
namespace Go.Eng
open Go.IntWalk
theorem ME (x:UInt64):(x &&& 65535).toNat=x.toNat % 65536:=by
 rw [UInt64.toNat_and,show (65535:UInt64).toNat=2 ^ 16 - 1 from rfl,Nat.and_two_pow_sub_one_eq_mod]
theorem o9 {w w0:List UInt16} {k:Nat} (h:w.drop k=w0.drop k):w.getD k 0=w0.getD k 0:=by
 have e1:w.getD k 0=(w.drop k).getD 0 0:=by simp [af]
 have e2:w0.getD k 0=(w0.drop k).getD 0 0:=by simp [af]
 rw [e1,e2,h]
theorem qv {w w0:List UInt16} {k:Nat} (x:UInt16) (h:w.drop k=w0.drop k):(w.set k x).drop (k+1)=w0.drop (k+1):=by
 rw [List.drop_set_of_lt (by omega),←List.drop_drop (l:=w),h,List.drop_drop]
theorem bE.DF (v w0 qs:List UInt16) (n j:Nat) (g:UInt64) (hn:n=v.length) (hj:j+n<w0.length) (hl:w0.length≤1000001) (hg:g.toNat≤65535) {T:Nat} (hT:T=Nt.val ((w0.drop j).take (n+1))) (yH:0<Nt.val v) (hg1:T / Nt.val v≤g.toNat) (hg2:g.toNat≤T / Nt.val v+1) :
  ∀(m i b:Nat) (c:UInt64) (w:List UInt16),i+m=n→b≤1→c.toNat≤65535→w.length=w0.length→w.take j=w0.take j→w.drop (j+i)=w0.drop (j+i) →
   Nt.val ((w0.drop j).take i)+65536 ^ i * (b+c.toNat)=Nt.val ((w.drop j).take i)+g.toNat * Nt.val (v.take i) →
   ∃(q:UInt64) (w':List UInt16),q.toNat=T / Nt.val v∧w'.length=w0.length∧w'.take j=w0.take j∧w'.drop (j+n+1)=w0.drop (j+n+1)∧Nt.val ((w'.drop j).take (n+1))=T % Nt.val v∧bE.l4 v n j g b c n i w qs=bE.j6 v n j q w' qs:=by
 have S9:Nt.val v<65536 ^ n:=by rw [hn];exact Nt.gW v
 intro m
 induction m with
 | zero =>
  intro i b c w hi hb hc Gy ht hd hv
  obtain rfl:i=n:=by omega
  rw [List.take_of_length_le (l:=v) (by omega)] at hv
  have fO:j+i<w.length:=by omega
  have So:=yK w j i
  have ew:=o9 hd
  have Mh:=jU w0 j i (by omega)
  rw [←hT,←ew] at Mh
  have w1:=(w.getD (j+i) 0).toNat_lt
  have JC:=Nat.div_add_mod T (Nt.val v)
  have hR:=Nat.mod_lt T yH
  generalize T / Nt.val v=q at *
  generalize UZ:T % Nt.val v=R at *
  generalize Ta:Nt.val v=V at *
  generalize QN:65536 ^ i=P at *
  generalize hx:Nt.val ((w.drop j).take i)=X at *
  generalize UH:Nt.val ((w0.drop j).take i)=X0 at *
  generalize hy:(w.getD (j+i) 0).toNat=y at *
  -- the top digit,less NY is taken
  have DY:(V * q+R)+P * (b+c.toNat)=X+g.toNat * V+P * y:=by rw [JC,Mh];omega
  have step:∀ρ:Option (List TV),(∀v20:List UInt16,v20=w.set (j+i) (UInt16.ofInt ((y:Int) - b - c.toNat))→cond (decide ((y:Int) - b - c.toNat<0)) (bE.l5 v i j (g - 1) 0 i 0 v20 qs) (bE.j6 v i j g v20 qs)=ρ)→bE.l4 v i j g b c i i w qs=ρ:=by
   intro ρ Jb
   refine bE.xv _ _ _ _ _ _ _ _ _ _ ?_
   intro v1 h1 v2 h2 v3 h3 v4 h4 v5 h5 v6 h6 v7 h7 v8 h8 v9 h9 v10 iA v11 ki v12 jE kW nY jP pA iD o8 mS tO nT xI lO wi qJ BU v20 zF
   have Ey:IntKind.i64.wrap ((j:Int)+(i:Int))=((j+i:Nat):Int):=by rw [i64_in _ (by omega)];omega
   rw [Ey,aj] at pA
   rw [pA] at o8 zF
   rw [o8,hy,i64_in _ (by omega)] at tO
   have KX:lO=(c.toNat:Int):=by rw [wi,i64_in _ (by omega)]
   have Mt:nT=(y:Int) - b:=by rw [xI,i64_in _ (by omega),tO]
   have Cs:qJ=(y:Int) - b - c.toNat:=by rw [BU,i64_in _ (by omega),Mt,KX]
   rw [ab (by omega),ae,Ey,bw (bK (by omega) (by omega)),bw (aa (by omega)),bw (bK (by omega) (by omega)),bw (aa (by omega)),Cs]
   exact Jb v20 (by rw [zF,Cs])
  by_cases cg:g.toNat=q
  ·-- the Mk is right
   have e0:y=b+c.toNat:=by
    rw [cg,Nat.mul_comm q V] at DY
    rcases Nat.lt_trichotomy y (b+c.toNat) with h | h | h
    ·have:P * (y+1)≤P * (b+c.toNat):=Nat.mul_le_mul_left _ h
     rw [Nat.mul_add,Nat.mul_one] at this
     omega
    ·exact h
    ·have:P * (b+c.toNat+1)≤P * y:=Nat.mul_le_mul_left _ h
     rw [Nat.mul_add,Nat.mul_one] at this
     omega
   have eR:X=R:=by
    rw [cg,Nat.mul_comm q V,e0] at DY
    omega
   refine ⟨g,w.set (j+i) 0,cg,by rw [List.length_set];exact Gy,by rw [List.take_set_of_le (by omega)];exact ht,qv 0 hd,?_,step _ fun v20 zF=>?_⟩
   ·rw [va w j i 0 fO,hx,eR];simp
   ·rw [ab (by omega),ae,zF,show (y:Int) - b - c.toNat=0 by omega];rfl
  ·-- the Mk is one Ux QX
   have TA:g.toNat=q+1:=by omega
   have AI:g.toNat * V=V * q+V:=by rw [TA,Nat.succ_mul,Nat.mul_comm]
   rw [AI] at DY
   have e0:y+1=b+c.toNat:=by
    rcases Nat.lt_trichotomy (y+1) (b+c.toNat) with h | h | h
    ·have:P * (y+2)≤P * (b+c.toNat):=Nat.mul_le_mul_left _ h
     rw [Nat.mul_add] at this
     omega
    ·exact h
    ·have:P * (b+c.toNat)≤P * y:=Nat.mul_le_mul_left _ (by omega)
     omega
   have eX:X+V=R+P:=by
    have:P * (b+c.toNat)=P * y+P:=by rw [←e0,Nat.mul_add,Nat.mul_one]
    omega
   have UJ:(w.set (j+i) (65535:UInt16)).length=w.length:=List.length_set
   obtain ⟨c',w',r1,r2,r3,r4,r5,r6,r7⟩:=bE.Ly v (w.set (j+i) 65535) qs i j (g - 1) hn (by omega) (by omega) i 0 0 (w.set (j+i) 65535) (by omega) (by decide) rfl rfl rfl (by simp [Nt.val])
   rw [nC,List.take_set_of_le (Nat.le_refl _),hx,Ta,QN] at r5
   have LG:=yK w' j i
   rw [QN] at LG
   have ec:c'=1:=by
    rcases Nat.lt_or_ge c' 1 with h | h
    ·obtain rfl:c'=0:=by omega
     rw [Nat.mul_zero] at r5;omega
    ·omega
   rw [ec,Nat.mul_one] at r5
   rw [getD_set_ne _ _ _ _ fO,ec,show ((65535:UInt16).toNat+1) % 65536=0 from rfl] at r6
   refine ⟨g - 1,w',by rw [wx (by omega)];omega,by omega,by rw [r3,List.take_set_of_le (by omega)];exact ht,by rw [r4];exact qv _ hd,?_,step _ fun v20 zF=>?_⟩
   ·rw [jU w' j i (by omega),r6,Nat.mul_zero,Nat.add_zero];omega
   ·rw [aa (by omega),ai,zF,show (y:Int) - b - c.toNat=-1 by omega]
    exact r7
 | succ m ih =>
  intro i b c w hi hb hc Gy ht hd hv
  have fO:j+i<w.length:=by omega
  have w1:=(w.getD (j+i) 0).toNat_lt
  have w2:=(v.getD i 0).toNat_lt
  have ew:=o9 hd
  have hm:g.toNat * (v.getD i 0).toNat≤65535 * 65535:=Nat.mul_le_mul hg (by omega)
  obtain ⟨p,hp⟩:∃p,p=g.toNat * (v.getD i 0).toNat+c.toNat:=⟨_,rfl⟩
  obtain ⟨y,hy⟩:∃y,y=(w.getD (j+i) 0).toNat:=⟨_,rfl⟩
  obtain ⟨z,hz⟩:∃z:Int,z=(y:Int) - b - ((p % 65536:Nat):Int):=⟨_,rfl⟩
  obtain ⟨b',kg⟩:∃b':Nat,b'=if z<0 then 1 else 0:=⟨_,rfl⟩
  have Ow:((z % 65536).toNat:Int)=z+65536 * b':=by
   rw [kg];split <;> omega
  have HS:b'≤1:=by rw [kg];split <;> omega
  have ec:(UInt64.ofNat (p / 65536)).toNat=p / 65536:=by rw [UInt64.toNat_ofNat'];omega
  obtain ⟨q,w',r1,r2,r3,r4,r5,r6⟩:=ih (i+1) b' (UInt64.ofNat (p / 65536)) (w.set (j+i) (UInt16.ofInt z)) (by omega) HS (by rw [ec];omega) (by rw [List.length_set];exact Gy) (by rw [List.take_set_of_le (by omega)];exact ht) (qv _ hd) (by
   rw [jU w0 j i (by omega),va w j i _ fO,dn v i (by omega),ec,tz,←ew,←hy,Nat.pow_succ,Nat.mul_assoc]
   have e1:y+65536 * b'=(z % 65536).toNat+b+p % 65536:=by omega
   have e2:p % 65536+65536 * (p / 65536)=p:=Nat.mod_add_div p 65536
   have e3:y+65536 * (b'+p / 65536)=(z % 65536).toNat+b+p:=by omega
   rw [Nat.add_assoc,←Nat.mul_add,e3,Nat.mul_add,Nat.mul_add,hp,Nat.mul_add]
   have e4:65536 ^ i * (b+c.toNat)=65536 ^ i * b+65536 ^ i * c.toNat:=Nat.mul_add _ _ _
   have e5:g.toNat * (Nt.val (v.take i)+65536 ^ i * (v.getD i 0).toNat)=g.toNat * Nt.val (v.take i)+65536 ^ i * (g.toNat * (v.getD i 0).toNat):=by rw [Nat.mul_add,Nat.mul_left_comm]
   omega)
  refine ⟨q,w',r1,r2,r3,r4,r5,?_⟩
  rw [←r6]
  refine bE.xv _ _ _ _ _ _ _ _ _ _ ?_
  intro v1 h1 v2 h2 v3 h3 v4 h4 v5 h5 v6 h6 v7 h7 v8 h8 v9 h9 v10 iA v11 ki v12 jE kW nY jP pA iD o8 mS tO nT xI lO wi qJ BU v20 zF
  have Ey:IntKind.i64.wrap ((i:Int)+(j:Int))=((j+i:Nat):Int):=by rw [i64_in _ (by omega)];omega
  rw [Ey,aj] at h4
  rw [h4] at h5 jE
  rw [aj] at h1
  have f2:v2.toNat=(v.getD i 0).toNat:=by rw [h2,gB,h1]
  have fp:(g * v2+c).toNat=p:=by rw [UInt64.toNat_add,UInt64.toNat_mul,f2,hp];omega
  have f3:v3=UInt64.ofNat (p / 65536):=by
   apply bn.1
   rw [h3,ec]
   exact (wG _).trans (by rw [fp])
  have f6:v6=(y:Int):=by rw [h6,h5,i64_in _ (by omega),hy]
  have f7:v7.toNat=p % 65536:=by rw [h7,ME,fp]
  have f8:v8=((p % 65536:Nat):Int):=by rw [h8,f7,i64_in _ (by omega)]
  have f9:v9=z:=by rw [h9,f6,f8,i64_in ((y:Int) - b) (by omega),i64_in _ (by omega),hz]
  have f10:v10=-(b':Int):=by rw [iA,f9,GU,kg];split <;> omega
  have f11:v11=(b':Int):=by rw [ki,f10,yx _ (by omega)];omega
  have f13:kW=((i+1:Nat):Int):=by rw [nY,i64_in _ (by omega)];omega
  rw [aa (by omega),ai,Ey,bw (bK (by omega) (by omega)),bw (bK (by omega) (by omega)),bw (aa (by omega)),bw (bK (by omega) (by omega)),bw (aa (by omega)),f11,f3,f13,jE,f9]
end Go.Eng
set_option maxRecDepth 20000
namespace Go.Eng
open Go.IntWalk
theorem vG {v:List UInt16} (h:v≠[]):v.getLast?.getD 0=v.getD (v.length - 1) 0:=by
 obtain ⟨b,d,rfl⟩:∃b d,v=b++[d]:=⟨v.dropLast,v.getLast h,(List.dropLast_concat_getLast _).symm⟩
 rw [ao,az,Nat.add_sub_cancel,qn];simp
theorem pG (w:List UInt16) (k:Nat):Nt.val w=Nt.val (w.take k)+65536 ^ (w.take k).length * Nt.val (w.drop k):=by
 rw [←Nt.fJ,List.take_append_drop]
theorem vH {w u:List UInt16} {k i:Nat} (h:w.take k=u.take k) (hi:i<k):w.getD i 0=u.getD i 0:=by
 have:=congrArg (fun l=>l.getD i 0) h
 simpa [af,aT,hi] using this
theorem A7 {w u:List UInt16} {k j:Nat} (h:w.take k=u.take k) (hj:j≤k):w.take j=u.take j:=by
 have:=congrArg (fun l=>l.take j) h
 simpa [List.take_take,Nat.min_eq_left hj] using this
theorem bE.cW (v U:List UInt16) (n:Nat) (hn:n=v.length) (h2:2≤n) (hU:n<U.length) (hl:U.length≤1000001) (hv1:32768≤(v.getD (n - 1) 0).toNat) :
  ∀(k:Nat) (w qs:List UInt16),k+n≤U.length→w.length=U.length→qs.length=U.length - n→w.take k=U.take k→Nt.val (w.drop k)=Nt.val (U.drop k) % Nt.val v→Nt.val (qs.drop k)=Nt.val (U.drop k) / Nt.val v →
   bE.l1 v n ((k:Int) - 1) w qs=some [.sl .ws (Nt.fix (U.length - n) (Nt.val U / Nt.val v)),.sl .ws (Nt.fix n (Nt.val U % Nt.val v))]:=by
 -- the B6 two AJ digits
 have e1:=dn v (n - 1) (by omega)
 have e2:=dn v (n - 2) (by omega)
 rw [show n - 1+1=n by omega,List.take_of_length_le (by omega)] at e1
 rw [show n - 2+1=n - 1 by omega] at e2
 have yG:=Nt.gW (v.take (n - 2))
 rw [aF,Nat.min_eq_left (by omega)] at yG
 have JH:65536 ^ (n - 1)=65536 ^ (n - 2) * 65536:=by rw [←Nat.pow_succ];congr 1;omega
 have QH:0<65536 ^ (n - 2):=Nat.pow_pos (by omega)
 rw [JH] at e1
 have QA:Nt.val v=Nt.val (v.take (n - 2))+65536 ^ (n - 2) * ((v.getD (n - 1) 0).toNat * 65536+(v.getD (n - 2) 0).toNat):=by
  rw [e1,e2,Nat.mul_add,Nat.mul_assoc,Nat.mul_comm (v.getD (n - 1) 0).toNat 65536];omega
 have JE:((v.getD (n - 1) 0).toNat * 65536+(v.getD (n - 2) 0).toNat) * 65536 ^ (n - 2)≤Nt.val v:=by rw [QA,Nat.mul_comm];omega
 have Nu:Nt.val v<((v.getD (n - 1) 0).toNat * 65536+(v.getD (n - 2) 0).toNat+1) * 65536 ^ (n - 2):=by
  rw [QA,Nat.add_mul _ 1,Nat.one_mul,Nat.mul_comm ((v.getD (n - 1) 0).toNat * 65536+(v.getD (n - 2) 0).toNat)];omega
 have yH:0<Nt.val v:=Nat.lt_of_lt_of_le (Nat.mul_pos (by omega) QH) JE
 have S9:Nt.val v<65536 ^ n:=by rw [hn];exact Nt.gW v
 intro k
 induction k with
 | zero =>
  intro w qs hk Gy Nk ht hw hq
  refine bE.bV _ _ _ _ _ ?_
  intro v1 h1 v2 h2 v3 h3 v4 h4 v5 h5 v6 h6 v7 h7 v8 h8 v9 h9 v10 iA
  rw [bh,bh] at hw hq
  rw [ab (by omega),ae,bw (jm (by omega) (by omega) (by omega)),aj]
  have eq:qs=Nt.fix (U.length - n) (Nt.val U / Nt.val v):=Nt.val_inj (by rw [Nt.jN,Nk]) (by
   rw [Nt.nG,hq,Nat.mod_eq_of_lt]
   rw [←hq,←Nk];exact Nt.gW qs)
  have er:w.take n=Nt.fix n (Nt.val U % Nt.val v):=Nt.val_inj (by rw [Nt.jN,aF];omega) (by
   have hm:=Nat.mod_lt (Nt.val U) yH
   have hs:=pG w n
   have Oz:(w.take n).length=n:=by rw [aF];omega
   rw [Oz] at hs
   have h0:Nt.val (w.drop n)=0:=by
    rcases Nat.eq_zero_or_pos (Nt.val (w.drop n)) with e | e
    ·exact e
    ·have:=Nat.mul_le_mul_left (65536 ^ n) e
     rw [Nat.mul_one] at this
     omega
   rw [h0,Nat.mul_zero,Nat.add_zero] at hs
   rw [Nt.nG,Nat.mod_eq_of_lt (by omega),←hs,hw])
  rw [eq,er]
 | succ j ih =>
  intro w qs hk Gy Nk ht hw hq
  have ek:((j+1:Nat):Int) - 1=(j:Int):=by omega
  rw [ek]
  -- NY is NF now
  have hm:=Nat.mod_lt (Nt.val (U.drop (j+1))) yH
  have hs:=pG (w.drop (j+1)) n
  have Oz:((w.drop (j+1)).take n).length=n:=by rw [aF,aU];omega
  rw [Oz] at hs
  have h0:Nt.val ((w.drop (j+1)).drop n)=0:=by
   rcases Nat.eq_zero_or_pos (Nt.val ((w.drop (j+1)).drop n)) with e | e
   ·exact e
   ·have:=Nat.mul_le_mul_left (65536 ^ n) e
    rw [Nat.mul_one] at this
    omega
  have hs:Nt.val (w.drop (j+1))=Nt.val ((w.drop (j+1)).take n):=by rw [h0,Nat.mul_zero] at hs;exact hs
  have hd:w.drop j=w.getD j 0 :: w.drop (j+1):=drop_cons (by omega) 0
  obtain ⟨T,hT⟩:∃T,T=Nt.val ((w.drop j).take (n+1)):=⟨_,rfl⟩
  have Pj:T=(w.getD j 0).toNat+65536 * Nt.val (w.drop (j+1)):=by
   rw [hT,hd,List.take_succ_cons,Nt.val,←hs]
  have wj:=(w.getD j 0).toNat_lt
  have Tb:T / Nt.val v≤65535:=by
   have:T<65536 * Nt.val v:=by rw [Pj,hw];omega
   have:=(Nat.div_lt_iff_lt_mul yH).2 this
   omega
  -- UG AJ digits
  have t1:=jU w j n (by omega)
  have t2:=jU w j (n - 1) (by omega)
  have t3:=jU w j (n - 2) (by omega)
  rw [show n - 1+1=n by omega,show j+(n - 1)=j+n - 1 by omega] at t2
  rw [show n - 2+1=n - 1 by omega,show j+(n - 2)=j+n - 2 by omega] at t3
  have UI:=yK w j (n - 2)
  have Te:65536 ^ n=65536 ^ (n - 2) * (65536 * 65536):=by rw [show (65536 * 65536:Nat)=65536 ^ 2 by decide,←Nat.pow_add];congr 1;omega
  obtain ⟨top,qj⟩:∃top,top=(w.getD (j+n) 0).toNat * 65536+(w.getD (j+n - 1) 0).toNat:=⟨_,rfl⟩
  have Mh:T=Nt.val ((w.drop j).take (n - 2))+65536 ^ (n - 2) * (top * 65536+(w.getD (j+n - 2) 0).toNat):=by
   rw [hT,t1,t2,t3,Te,JH,qj]
   generalize (w.getD (j+n) 0).toNat=a
   generalize (w.getD (j+n - 1) 0).toNat=b
   generalize (w.getD (j+n - 2) 0).toNat=c
   generalize 65536 ^ (n - 2)=P
   rw [Nat.mul_add,Nat.mul_assoc,Nat.mul_assoc,Nat.add_mul,Nat.mul_add,Nat.mul_comm b 65536,show a * 65536 * 65536=65536 * 65536 * a by rw [Nat.mul_assoc,Nat.mul_comm a]]
   omega
  have Nx:(top * 65536+(w.getD (j+n - 2) 0).toNat) * 65536 ^ (n - 2)≤T:=by rw [Mh,Nat.mul_comm];omega
  have Nw:T<(top * 65536+(w.getD (j+n - 2) 0).toNat+1) * 65536 ^ (n - 2):=by
   rw [Mh,Nat.add_mul _ 1,Nat.one_mul,Nat.mul_comm (top * 65536+(w.getD (j+n - 2) 0).toNat)];omega
  have a1:=(w.getD (j+n) 0).toNat_lt
  have a2:=(w.getD (j+n - 1) 0).toNat_lt
  have a3:=(v.getD (n - 1) 0).toNat_lt
  -- the AJ digit is at sB the B6
  have Ss:(w.getD (j+n) 0).toNat≤(v.getD (n - 1) 0).toNat:=by
   have hA:T<65536 * Nt.val v:=by rw [Pj,hw];omega
   rcases Nat.lt_or_ge (v.getD (n - 1) 0).toNat (w.getD (j+n) 0).toNat with h | h
   ·have g1:65536 ^ n * ((v.getD (n - 1) 0).toNat+1)≤65536 ^ n * (w.getD (j+n) 0).toNat:=Nat.mul_le_mul_left _ h
    have g2:65536 * Nt.val v<65536 ^ n * ((v.getD (n - 1) 0).toNat+1):=by
     have g3:Nt.val v<65536 ^ (n - 1) * ((v.getD (n - 1) 0).toNat+1):=by
      have:=Nt.gW (v.take (n - 1))
      rw [aF,Nat.min_eq_left (by omega),JH] at this
      rw [e1,JH,Nat.mul_add,Nat.mul_one];omega
     have g4:=Nat.mul_lt_mul_of_pos_left g3 (show 0<65536 by omega)
     have g5:65536 * (65536 ^ (n - 1) * ((v.getD (n - 1) 0).toNat+1))=65536 ^ n * ((v.getD (n - 1) 0).toNat+1):=by
      rw [←Nat.mul_assoc,Nat.mul_comm 65536,←Nat.pow_succ];congr 2;omega
     omega
    omega
   ·exact h
  obtain ⟨d,Pa⟩:∃d,d=(v.getD (n - 1) 0).toNat:=⟨_,rfl⟩
  have O6:top / d≤65537:=by
   have:top<65538 * d:=by rw [qj];omega
   have:=(Nat.div_lt_iff_lt_mul (show 0<d by omega)).2 this
   omega
  have JB:T / Nt.val v≤top / d:=by
   -- T<(top+1) * B^(n-1),and the ND is at least d * B^(n-1)
   have g1:T<(top+1) * 65536 ^ (n - 1):=by
    refine Nat.lt_of_lt_of_le Nw ?_
    rw [JH,Nat.mul_comm (65536 ^ (n - 2)) 65536,←Nat.mul_assoc]
    refine ak _ ?_
    have:=(w.getD (j+n - 2) 0).toNat_lt
    omega
   have g2:d * 65536 ^ (n - 1)≤Nt.val v:=by
    have h9:=e1
    rw [←Pa,←JH] at h9
    rw [h9,Nat.mul_comm d];exact Nat.le_add_left _ _
   have g3:T / Nt.val v≤T / (d * 65536 ^ (n - 1)):=Nat.div_le_div_left g2 (Nat.mul_pos (by omega) (Nat.pow_pos (by omega)))
   have g4:T / (d * 65536 ^ (n - 1))=T / 65536 ^ (n - 1) / d:=by rw [Nat.mul_comm,Nat.div_div_eq_div_mul]
   have g5:T / 65536 ^ (n - 1)≤top:=by
    have:=(Nat.div_lt_iff_lt_mul (show 0<65536 ^ (n - 1) from Nat.pow_pos (by omega))).2 g1
    omega
   rw [g4] at g3
   exact Nat.le_trans g3 (Nat.div_le_div_right g5)
  have OC:top<65536 * 65536:=by rw [qj];omega
  -- the operands
  have key:∀(g r:UInt64),g.toNat=top / d→r.toNat=top % d→bE.l2 v n j g r w qs=some [.sl .ws (Nt.fix (U.length - n) (Nt.val U / Nt.val v)),.sl .ws (Nt.fix n (Nt.val U % Nt.val v))]:=by
   intro g r hg hr
   have JC:=Nat.div_add_mod top d
   have Js:=Nat.mod_lt top (show 0<d by omega)
   obtain ⟨g',i1,i2,i3,i4⟩:=bE.ju v w qs n j hn (by omega) (by omega) (by omega) (V:=Nt.val v) (T:=T) (P:=65536 ^ (n - 2)) (top:=top) QH hv1 qj JE Nu Nx Nw Tb (top / d) g r (by omega) (by omega) (by rw [hg,hr,←Pa,Nat.mul_comm];omega) (by omega) (by rw [hg];exact JB)
   rw [i4,bE.LC]
   obtain ⟨q,w',r1,r2,r3,r4,r5,r6⟩:=bE.DF v w qs n j g' hn (by omega) (by omega) i3 hT yH i1 i2 n 0 0 0 w (by omega) (by omega) (by decide) rfl rfl rfl (by simp [Nt.val])
   refine r6.trans ?_
   refine bE.DM _ _ _ _ _ _ ?_
   intro u1 k1 u2 k2 u3 k3
   rw [aj] at k2
   rw [bw (bK (by omega) (by omega)),bw (aa (by omega)),k3,i64_in _ (by omega)]
   have QD:=oE U j (by omega)
   have Ts:w.getD j 0=U.getD j 0:=vH ht (by omega)
   rw [←Ts] at QD
   have QC:Nt.val (U.drop j)=T+Nt.val v * (65536 * (Nt.val (U.drop (j+1)) / Nt.val v)):=by
    have:=Nat.div_add_mod (Nt.val (U.drop (j+1))) (Nt.val v)
    rw [QD,Pj,hw]
    conv=>lhs;rw [←this]
    rw [Nat.mul_add,Nat.mul_left_comm];omega
   refine ih w' u2 (by omega) (by omega) (by rw [k2,List.length_set];exact Nk) (by rw [r3];exact A7 ht (by omega)) ?_ ?_
   ·have P8:=pG (w'.drop j) (n+1)
    have Oy:((w'.drop j).take (n+1)).length=n+1:=by rw [aF,aU];omega
    have e3:(w'.drop j).drop (n+1)=(w.drop (j+1)).drop n:=by
     rw [List.drop_drop,List.drop_drop,show j+(n+1)=j+n+1 by omega,r4];congr 1;omega
    rw [Oy,e3,h0,Nat.mul_zero,Nat.add_zero,r5] at P8
    rw [P8,QC,Nat.add_mul_mod_self_left]
   ·have e4:(u2.getD j 0).toNat=T / Nt.val v:=by
     rw [k2,getD_set_ne _ _ _ _ (by omega),k1,mf,Nt.dz,r1,Nat.mod_eq_of_lt (by omega)]
    rw [oE u2 j (by rw [k2,List.length_set];omega),e4,k2,List.drop_set_of_lt (by omega),hq,QC,Nat.add_mul_div_left _ _ yH]
  refine bE.bV _ _ _ _ _ ?_
  intro v1 h1 v2 GK v3 h3 v4 h4 v5 h5 v6 h6 v7 h7 v8 h8 v9 h9 v10 iA
  have Tw:IntKind.i64.wrap ((j:Int)+(n:Int))=((j+n:Nat):Int):=by rw [i64_in _ (by omega)];omega
  rw [Tw] at h1 h5 ⊢
  rw [aj] at h1
  have e5:v5=((j+n - 1:Nat):Int):=by rw [h5,i64_in _ (by omega)];omega
  have e8:v8=((n - 1:Nat):Int):=by rw [h8,i64_in _ (by omega)];omega
  rw [h1] at GK
  rw [e5,aj] at h6
  rw [e8,aj] at h9
  have f10:v10.toNat=d:=by rw [iA,gB,h9,Pa]
  have f3:v3.toNat=(w.getD (j+n) 0).toNat:=by rw [h3,gB,GK]
  have f7:v7.toNat=(w.getD (j+n - 1) 0).toNat:=by rw [h7,gB,h6]
  have f4:v4.toNat=(w.getD (j+n) 0).toNat * 65536:=by rw [h4,←f3];exact wH (by omega)
  have f47:(v4 ||| v7).toNat=top:=by rw [Ls f4 (by omega),f7,qj]
  have R9:v10≠0:=fun e=>by
   have:=congrArg UInt64.toNat e
   rw [f10] at this
   have e0:(0:UInt64).toNat=0:=rfl
   omega
  rw [aa (by omega),ai,bw (bK (by omega) (by omega)),bw (aa (by omega)),bw (bK (by omega) (by omega)),bw (aa (by omega)),bw (bK (by omega) (by omega)),ab R9,aM,bQ,bw (bK (by omega) (by omega)),bQ]
  exact key _ _ (by rw [UInt64.toNat_div,f47,f10]) (by rw [UInt64.toNat_mod,f47,f10])
theorem bE.goal (u v:List UInt16) (hp:decide (u.length≤1000000∧2≤v.length∧v.length≤u.length∧32768≤(v.getLast?.getD 0).toNat)=true):bE.F u v=some [.sl .ws (Nt.fix (u.length+1 - v.length) (Nt.val u / Nt.val v)),.sl .ws (Nt.fix v.length (Nt.val u % Nt.val v))]:=by
 obtain ⟨l1,l2,l3,l4⟩:=ar hp
 rw [vG (by intro e;subst e;simp at l2)] at l4
 refine bE.bZ _ _ ?_
 intro v1 h1 v2 h2 v3 h3 v4 h4
 subst h1
 have hl:(u++[(0:UInt16)]).length=u.length+1:=by simp
 have e2:v2=((u.length+1 - v.length:Nat):Int):=by rw [h2,hl,i64_in _ (by omega)];omega
 have e4:v4=((u.length+1 - v.length:Nat):Int) - 1:=by rw [h4,e2,i64_in _ (by omega)]
 have hU:Nt.val (u++[0])=Nt.val u:=Nt.pH u
 have yH:0<Nt.val v:=by
  have:=dn v (v.length - 1) (by omega)
  rw [show v.length - 1+1=v.length by omega,List.take_length] at this
  have h5:=Nat.mul_pos (show 0<65536 ^ (v.length - 1) from Nat.pow_pos (by omega)) (show 0<(v.getD (v.length - 1) 0).toNat by omega)
  omega
 have Ju:Nt.val ((u++[(0:UInt16)]).drop (u.length+1 - v.length))<Nt.val v:=by
  rw [List.drop_append_of_le_length (by omega),Nt.pH]
  have h6:=Nt.gW (u.drop (u.length+1 - v.length))
  rw [aU,show u.length - (u.length+1 - v.length)=v.length - 1 by omega] at h6
  have:=dn v (v.length - 1) (by omega)
  rw [show v.length - 1+1=v.length by omega,List.take_length] at this
  have h5:=Nat.mul_le_mul_left (65536 ^ (v.length - 1)) (show 1≤(v.getD (v.length - 1) 0).toNat by omega)
  omega
 have:=bE.cW v (u++[0]) v.length rfl l2 (by omega) (by omega) l4 (u.length+1 - v.length) (u++[0]) v3 (by omega) rfl (by rw [h3,e2];simp) rfl (Nat.mod_eq_of_lt Ju).symm (by
  rw [Nat.div_eq_of_lt Ju,h3,e2];simp [Nt.val])
 rw [hU,hl] at this
 rw [bw (dW (by rw [az];omega) (by rw [az];omega)),bw (jY.2 ⟨by omega,by omega,by omega,by rw [iR];omega⟩),e4]
 exact this
end Go.Eng
set_option maxRecDepth 20000
namespace Go.Eng
open Go.IntWalk Ieee
namespace Fl
theorem EF {s:Bool} {X N d:Nat} (h:X=N * 2 ^ d):Toward.zero.cut s X d=N:=by
 have e:Toward.zero.cut s X d=X / (1 <<< min d (X.log2+2)):=by
  unfold Toward.cut
  simp
 rw [e,Nat.one_shiftLeft]
 rcases Nat.eq_zero_or_pos N with rfl | hN
 ·rw [h];simp
 ·have hl:X.log2=N.log2+d:=by rw [h];exact mz N d (by omega)
  rw [Nat.min_eq_left (by omega),h,Nat.mul_div_cancel _ (Nat.two_pow_pos d)]
theorem WD.integral {d:Datum} {n:Int} (h:WD d n):∃s,d.integral .zero = .number s n.natAbs 0∧(n<0→s=true)∧(0<n→s=false):=by
 obtain ⟨s,m,p,rfl,hv,h1,h2⟩:=h
 refine ⟨s,?_,h1,h2⟩
 show Datum.number s (Toward.zero.cut s (m <<< p.toNat) (-p).toNat) 0=_
 rw [Nat.shiftLeft_eq,EF hv]
theorem WD.whole {s:Bool} {n:Int} (h1:n<0→s=true) (h2:0<n→s=false):WD (.number s n.natAbs 0) n:=⟨s,_,_,rfl,by unfold Val;simp,h1,h2⟩
theorem W.num {b:Nat} {n:Int} (h:W b n):Fl.num b=true:=by
 obtain ⟨s,m,p,hr,_⟩:=h
 show (!(double.read b).isNaN)=true
 rw [hr];rfl
theorem W.jW {b:Nat} {n:Int} (h:W b n) (hn:n.natAbs≤9007199254740992):W (Fl.jW b) n:=by
 obtain ⟨s,e,h1,h2⟩:=WD.integral h
 have e':(FloatKind.f64.decode b).integral .zero = .number s n.natAbs 0:=e
 unfold Fl.jW
 rw [e']
 exact (WD.whole h1 h2).write hn
theorem W.toInt {b:Nat} {n:Int} (h:W b n) (hn:n.natAbs≤9007199254740992):Fl.mg b=true∧Fl.toInt b=n:=by
 obtain ⟨s,e,h1,h2⟩:=WD.integral h
 have e':(FloatKind.f64.decode b).integral .zero = .number s n.natAbs 0:=e
 have e2:floatToIntVal .f64 b .i64=some n:=by
  unfold floatToIntVal Datum.toInt
  rw [e']
  have e3:signed s n.natAbs 0=n:=by
   have:=kD (s:=s) (m:=n.natAbs) (i:=0) (base:=0) (x:=n) (by unfold Val;simp) h1 h2 (by omega)
   simpa using this
  simp only [e3]
  have e4:IntKind.i64.min=-9223372036854775808:=by decide
  have e5:IntKind.i64.max=9223372036854775807:=by decide
  rw [e4,e5,aw (by omega)]
 unfold Fl.mg Fl.toInt
 rw [e2]
 exact ⟨rfl,rfl⟩
theorem W.ofInt {n:Int} (hn:n.natAbs≤9007199254740992):W (Fl.ofInt n) n:=wX n hn
theorem W.add {a b:Nat} {x y:Int} (ha:W a x) (hb:W b y) (h:(x+y).natAbs≤9007199254740992):Fl.kn a b=true∧W (Fl.add a b) (x+y):=by
 obtain ⟨r,e,hr⟩:=Ci ha hb h
 unfold Fl.kn Fl.add
 rw [e];exact ⟨rfl,hr⟩
theorem W.sub {a b:Nat} {x y:Int} (ha:W a x) (hb:W b y) (h:(x - y).natAbs≤9007199254740992):Fl.qN a b=true∧W (Fl.sub a b) (x - y):=by
 obtain ⟨r,e,hr⟩:=A8 ha hb h
 unfold Fl.qN Fl.sub
 rw [e];exact ⟨rfl,hr⟩
theorem W.mul {a b:Nat} {x y:Int} (ha:W a x) (hb:W b y) (h:(x * y).natAbs≤9007199254740992):Fl.nn a b=true∧W (Fl.mul a b) (x * y):=by
 obtain ⟨r,e,hr⟩:=BB ha hb h
 unfold Fl.nn Fl.mul
 rw [e];exact ⟨rfl,hr⟩
theorem W.eq {a b:Nat} {x y:Int} (ha:W a x) (hb:W b y):Fl.eq a b=decide (x=y):=by
 unfold Fl.eq
 rw [jr ha hb]
 rcases Int.lt_trichotomy x y with c | c | c
 ·rw [Int.compare_eq_lt.2 c,ab (by omega)];rfl
 ·subst c;simp
 ·rw [Int.compare_eq_gt.2 c,ab (by omega)];rfl
theorem W.lt {a b:Nat} {x y:Int} (ha:W a x) (hb:W b y):Fl.lt a b=decide (x<y):=by
 unfold Fl.lt
 rw [jr ha hb]
 rcases Int.lt_trichotomy x y with c | c | c
 ·rw [Int.compare_eq_lt.2 c,aa c];rfl
 ·subst c;simp
 ·rw [Int.compare_eq_gt.2 c,ab (by omega)];rfl
theorem W.gt {a b:Nat} {x y:Int} (ha:W a x) (hb:W b y):Fl.gt a b=decide (y<x):=by
 unfold Fl.gt
 rw [jr ha hb]
 rcases Int.lt_trichotomy x y with c | c | c
 ·rw [Int.compare_eq_lt.2 c,ab (by omega)];rfl
 ·subst c;simp
 ·rw [Int.compare_eq_gt.2 c,aa c];rfl
theorem PL:W 4719772409484279808 33554432:=by
 have e:Fl.ofInt 33554432=4719772409484279808:=by decide +kernel
 rw [←e];exact W.ofInt (by decide)
theorem MI:W 4841369599423283200 4503599627370496:=by
 have e:Fl.ofInt 4503599627370496=4841369599423283200:=by decide +kernel
 rw [←e];exact W.ofInt (by decide)
theorem MJ:W 4832362400168542208 1125899906842624:=by
 have e:Fl.ofInt 1125899906842624=4832362400168542208:=by decide +kernel
 rw [←e];exact W.ofInt (by decide)
theorem H9:W 14055734437023318016 (-1125899906842624):=by
 have e:Fl.ofInt (-1125899906842624)=14055734437023318016:=by decide +kernel
 rw [←e];exact W.ofInt (by decide)
theorem Ia:W 0 0:=by
 have e:Fl.ofInt 0=0:=by decide +kernel
 rw [←e];exact W.ofInt (by decide)
theorem Ri:W 4607182418800017408 1:=by
 have e:Fl.ofInt 1=4607182418800017408:=by decide +kernel
 rw [←e];exact W.ofInt (by decide)
theorem MH:W 13830554455654793216 (-1):=by
 have e:Fl.ofInt (-1)=13830554455654793216:=by decide +kernel
 rw [←e];exact W.ofInt (by decide)
end Fl
namespace Gz
theorem jS {z:Cx} {M:Nat}:tK z M=true ↔ In z M:=by classical exact (by unfold tK;exact decide_eq_true_iff)
theorem rz {l:Qd} {M:Nat}:wg l M=true ↔ Ig l M:=by classical exact (by unfold wg;exact decide_eq_true_iff)
theorem AH {l:Qd}:I8 l=true ↔ ∀k,k<4→Ro (part l (-1) k 4):=by unfold I8;simp only [aA]
theorem zD {z:Cx} {b M:Nat} (h:In z M) (hb:Fl.W b (M:Int)) (hM:M≤9007199254740992):I7 z b=true:=by
 classical
 unfold I7
 obtain ⟨x,y,h1,h2,h3⟩:=h
 exact aa ⟨x,y,M,h1,hb,by omega,by omega,by omega⟩
theorem In.le {z:Cx} {M N:Nat} (h:In z M) (hn:M≤N):In z N:=by
 obtain ⟨x,y,h1,h2,h3⟩:=h
 exact ⟨x,y,h1,by omega,by omega⟩
theorem zm {z w:Cx} {x y u v:Int} (hz:Is z x y) (hw:Is w u v) (h1:(x * u).natAbs≤2251799813685248) (h2:(y * v).natAbs≤2251799813685248) (h3:(x * v).natAbs≤2251799813685248) (h4:(y * u).natAbs≤2251799813685248) :
  Fl.nD z.1 z.2 w.1 w.2=true∧Is (mul z w) (x * u - y * v) (x * v+y * u):=by
 obtain ⟨a1,b1⟩:=Fl.W.mul hz.1 hw.1 (by omega)
 obtain ⟨a2,b2⟩:=Fl.W.mul hz.2 hw.2 (by omega)
 obtain ⟨a3,b3⟩:=Fl.W.sub b1 b2 (by omega)
 obtain ⟨a4,b4⟩:=Fl.W.mul hz.1 hw.2 (by omega)
 obtain ⟨a5,b5⟩:=Fl.W.mul hz.2 hw.1 (by omega)
 obtain ⟨a6,b6⟩:=Fl.W.add b4 b5 (by omega)
 refine ⟨?_,b3,b6⟩
 unfold Fl.nD
 rw [a1,a2,a3,a4,a5,a6];rfl
theorem zV {z w:Cx} {x y u v:Int} (hz:Is z x y) (hw:Is w u v) (h1:(x+u).natAbs≤9007199254740992) (h2:(y+v).natAbs≤9007199254740992):(Fl.kn z.1 w.1&&Fl.kn z.2 w.2)=true∧Is (add z w) (x+u) (y+v):=by
 obtain ⟨a1,b1⟩:=Fl.W.add hz.1 hw.1 h1
 obtain ⟨a2,b2⟩:=Fl.W.add hz.2 hw.2 h2
 rw [a1,a2]
 exact ⟨rfl,b1,b2⟩
def pI (k:Int):Int:=if k % 4=0 then 1 else if k % 4=2 then -1 else 0
def pJ (k:Int):Int:=if k % 4=1 then 1 else if k % 4=3 then -1 else 0
theorem lP (k:Int):pI k=0∨pI k=1∨pI k=-1:=by
 unfold pI
 split
 ·simp
 ·split <;> simp
theorem lQ (k:Int):pJ k=0∨pJ k=1∨pJ k=-1:=by
 unfold pJ
 split
 ·simp
 ·split <;> simp
theorem FF (k:Int):Is (unit k) (pI k) (pJ k):=by
 have h:k % 4=0∨k % 4=1∨k % 4=2∨k % 4=3:=by omega
 unfold unit pI pJ
 rcases h with h | h | h | h <;> rw [h]
 ·exact ⟨Fl.Ri,Fl.Ia⟩
 ·exact ⟨Fl.Ia,Fl.Ri⟩
 ·exact ⟨Fl.MH,Fl.Ia⟩
 ·exact ⟨Fl.Ia,Fl.MH⟩
theorem vd {z:Cx} {x y:Int} (k:Int) (hz:Is z x y) (hx:x.natAbs≤1125899906842624) (hy:y.natAbs≤1125899906842624) :
  Fl.nD z.1 z.2 (unit k).1 (unit k).2=true∧Is (nU z k) (x * pI k - y * pJ k) (x * pJ k+y * pI k):=by
 have hu:=FF k
 have h1:pI k=0∨pI k=1∨pI k=-1:=lP k
 have h2:pJ k=0∨pJ k=1∨pJ k=-1:=lQ k
 refine zm hz hu ?_ ?_ ?_ ?_
 ·rcases h1 with e | e | e <;> rw [e] <;> omega
 ·rcases h2 with e | e | e <;> rw [e] <;> omega
 ·rcases h2 with e | e | e <;> rw [e] <;> omega
 ·rcases h1 with e | e | e <;> rw [e] <;> omega
theorem z7 {z:Cx} {k:Int} (h:In z 1125899906842624):In (nU z k) 2251799813685248:=by
 obtain ⟨x,y,hz,hx,hy⟩:=h
 refine ⟨_,_,(vd k hz hx hy).2,?_,?_⟩
 all_goals
  have h1:pI k=0∨pI k=1∨pI k=-1:=lP k
  have h2:pJ k=0∨pJ k=1∨pJ k=-1:=lQ k
  rcases h1 with e | e | e <;> rcases h2 with f | f | f <;> rw [e,f] <;> omega
end Gz
theorem dt.goal (x:Nat) (hp:(Fl.num x)=true):dt.F x=some [.c (.float .f64 (Fl.jW x))]:=by
 rw [dt.eJ,ai,hp];rfl
theorem fu.goal (z:Cx) (hp:(Gz.tK z 33554432)=true):fu.F z=some [.b true]:=by
 rw [fu.eJ,Gz.zD (Gz.jS.1 hp) Fl.PL (by omega)];rfl
theorem jh.goal (x y:Int) (hp:decide (-33554432≤x∧x≤33554432∧-33554432≤y∧y≤33554432)=true):jh.F x y=some [.c (.complex .f64 ((Fl.ofInt x,Fl.ofInt y):Cx).1 ((Fl.ofInt x,Fl.ofInt y):Cx).2)]:=by
 obtain ⟨h1,h2,h3,h4⟩:=ar hp
 refine jh.bZ _ _ ?_
 intro v1 e1 v2 e2 v3 e3 v4 e4
 have d1:v1=false:=by rw [e1,ab (by omega),ae];exact ab (by omega)
 have d2:v2=false:=by rw [e2,d1,ae];exact ab (by omega)
 have d3:v3=false:=by rw [e3,d2,ae];exact ab (by omega)
 simp only [aR,bm,Bool.not_not,bQ]
 rw [d3,ae,e4]
theorem eG.goal (z:Cx) (hp:(Gz.tK z 4503599627370496)=true):eG.F z=some [.i .i64 (Fl.toInt z.1),.i .i64 (Fl.toInt z.2),.b true]:=by
 have h:=Gz.jS.1 hp
 have hm:=Gz.zD h Fl.MI (by omega)
 obtain ⟨x,y,hz,hx,hy⟩:=h
 rw [eG.eJ,hm,(hz.1.toInt (by omega)).1,(hz.2.toInt (by omega)).1];rfl
theorem Fa (k:Int) (h1 : -100≤k) (h2:k≤100):cI .and .i64 k 3=k % 4:=by
 have:∀n:Nat,n<201→cI .and .i64 ((n:Int) - 100) 3=((n:Int) - 100) % 4:=by decide +kernel
 have:=this (k+100).toNat (by omega)
 rwa [show (((k+100).toNat:Nat):Int) - 100=k by omega] at this
theorem gj.goal (z:Cx) (k:Int) (hp:(Gz.tK z 1125899906842624&&decide (-100≤k∧k≤100))=true):gj.F z k=some [.c (.complex .f64 (Gz.nU z k).1 (Gz.nU z k).2)]:=by
 simp only [ah,aA] at hp
 obtain ⟨h,k1,k2⟩:=hp
 have h:=Gz.jS.1 h
 have hm:=Gz.zD (h.le (show 1125899906842624≤4503599627370496 by omega)) Fl.MI (by omega)
 obtain ⟨x,y,hz,hx,hy⟩:=h
 obtain ⟨c1,_⟩:=Gz.vd k hz hx hy
 refine gj.bZ _ _ ?_
 intro v1 h1 v2 h2 v3 h3 v4 h4 v5 h5 v6 h6 v7 h7
 rw [Fa k k1 k2] at h5
 have e6:v6=Gz.unit k:=by rw [h6,h1,h2,h3,h4,h5];rfl
 rw [hm,bQ,aH,ae,bw (bK (by omega) (by omega)),bw (aa (by omega)),e6,c1,bQ,h7,e6]
 rfl
theorem fv.goal (z w:Cx) (hp:(Gz.tK z 33554432&&Gz.tK w 33554432)=true):fv.F z w=some [.c (.complex .f64 (Gz.mul z w).1 (Gz.mul z w).2)]:=by
 simp only [ah] at hp
 obtain ⟨x,y,hz,hx,hy⟩:=Gz.jS.1 hp.1
 obtain ⟨u,v,hw,hu,hv⟩:=Gz.jS.1 hp.2
 have hm:∀a b:Int,a.natAbs≤33554432→b.natAbs≤33554432→(a * b).natAbs≤2251799813685248:=fun a b h1 h2=>by
  rw [Int.natAbs_mul]
  exact Nat.le_trans (Nat.mul_le_mul h1 h2) (by omega)
 obtain ⟨c1,_⟩:=Gz.zm hz hw (hm _ _ hx hu) (hm _ _ hy hv) (hm _ _ hx hv) (hm _ _ hy hu)
 refine fv.bZ _ _ ?_
 intro v1 h1 v2 h2
 have e1:v1=false:=h1
 rw [hp.1,hp.2,c1,e1,h2]
 rfl
theorem gf.goal (x:Nat) (hp:(Gz.HD x)=true):gf.F x=some [.b true]:=by
 classical
 unfold Gz.HD at hp
 obtain ⟨n,hn,hb⟩:=ar hp
 refine gf.bZ _ ?_
 intro v1 h1 v2 h2 v3 h3
 have e1:v1=true:=by
  rw [h1,hn.gt Fl.H9,hn.eq Fl.H9]
  rcases Int.lt_or_eq_of_le (show (-1125899906842624:Int)≤n by omega) with c | c
  ·rw [aa c];rfl
  ·rw [aa c.symm,Bool.or_true]
 have e2:v2=true:=by
  rw [h2,hn.lt Fl.MJ,hn.eq Fl.MJ]
  rcases Int.lt_or_eq_of_le (show n≤(1125899906842624:Int) by omega) with c | c
  ·rw [aa c];rfl
  ·rw [aa c,Bool.or_true]
 have e3:v3=true:=by rw [h3,e1,e2,ai,ai,hn.eq (hn.jW (by omega)),aa rfl]
 rw [e1,e2,e3,hn.num]
 rfl
theorem Gz.In.parts {z:Cx} (h:Gz.In z 1125899906842624):Gz.HD z.1=true∧Gz.HD z.2=true:=by
 obtain ⟨x,y,h1,h2,h3⟩:=h
 classical
 unfold Gz.HD
 exact ⟨aa ⟨x,h1.1,h2⟩,aa ⟨y,h1.2,h3⟩⟩
theorem Gz.Ig.get {l:Qd} {M:Nat} (h:Gz.Ig l M) (i:Nat) (hi:i<4):Gz.In (l.get i) M:=by
 obtain ⟨a,b,c,d⟩:=h
 have:i=0∨i=1∨i=2∨i=3:=by omega
 rcases this with rfl | rfl | rfl | rfl
 ·exact a
 ·exact b
 ·exact c
 ·exact d
theorem wv_fit.cW (l:Qd) (h:Gz.Ig l 1125899906842624):∀(m i:Nat),i+m=4→wv_fit.l1 l i=some [.b true]:=by
 intro m
 induction m with
 | zero =>
  intro i hi
  refine wv_fit.bV _ _ ?_
  intro v1 h1 v2 h2
  rw [ab (by omega),ae]
 | succ m ih =>
  intro i hi
  refine wv_fit.bV _ _ ?_
  intro v1 h1 v2 h2
  have e1:v1=false:=h1
  have e2:v2=((i+1:Nat):Int):=by rw [h2,i64_in _ (by omega)];omega
  obtain ⟨p1,p2⟩:=(h.get i (by omega)).parts
  rw [aa (by omega),ai,bw (bK (by omega) (by omega)),aj,p1,p2,e1,e2]
  exact ih (i+1) (by omega)
theorem wv_fit.goal (l:Qd) (hp:(Gz.wg l 1125899906842624)=true):wv_fit.F l=some [.b true]:=by
 rw [wv_fit.eJ];exact wv_fit.cW l (Gz.rz.1 hp) 4 0 (by omega)
theorem gg.goal (l:Qd) (hp:(Gz.wg l 1125899906842624)=true):gg.F l=some [.ag (Qd.cells (Gz.mh l 1))]:=by
 rw [gg.eJ,hp];rfl
end Go.Eng
set_option maxRecDepth 20000
namespace Go.Eng
open Go.IntWalk
theorem Qd.GM (q:Qd) (k:Nat) (x:Cx) (hk:k<4):(q.set k x).get k=x:=by
 have:k=0∨k=1∨k=2∨k=3:=by omega
 rcases this with rfl | rfl | rfl | rfl <;> rfl
theorem Qd.set_set (q:Qd) (k:Nat) (x y:Cx) (hk:k<4):(q.set k x).set k y=q.set k y:=by
 have:k=0∨k=1∨k=2∨k=3:=by omega
 rcases this with rfl | rfl | rfl | rfl <;> rfl
theorem Qd.FX (q:Qd) (k:Nat) (hk:k<4):q.set k (q.get k)=q:=by
 have:k=0∨k=1∨k=2∨k=3:=by omega
 rcases this with rfl | rfl | rfl | rfl <;> rfl
theorem Gz.Aq {l:Qd} (h:Gz.Ig l 1125899906842624) (w:Int) (k:Nat):∀j,j≤4→Gz.In (Gz.part l w k j) (j * 2251799813685248)
 | 0,_=>⟨0,0,⟨Fl.Ia,Fl.Ia⟩,by omega,by omega⟩
 | j+1,hj=>by
  obtain ⟨x,y,h1,h2,h3⟩:=Gz.Aq h w k j (by omega)
  obtain ⟨u,v,g1,g2,g3⟩:=Gz.z7 (k:=j * k * w) (h.get j (by omega))
  obtain ⟨_,e⟩:=Gz.zV h1 g1 (by omega) (by omega)
  exact ⟨_,_,e,by omega,by omega⟩
theorem cF.ju (l:Qd) (w:Int) (h:Gz.Ig l 1125899906842624) (hw:w=1∨w=-1) (k:Nat) (hk:k<4) (Z:Qd):∀(m j:Nat) (acc:Qd),j+m=4→acc.get k=Gz.part l w k j →
  cF.l2 w k k l j l Z acc=cF.l1 w ((k+1:Nat):Int) l Z (acc.set k (Gz.part l w k 4)):=by
 intro m
 induction m with
 | zero =>
  intro j acc hj ha
  refine cF.iw _ _ _ _ _ _ _ _ ?_
  intro v1 h1 v2 h2 v3 h3 v4 h4 v5 h5
  obtain rfl:j=4:=by omega
  rw [ab (by omega),ae,←ha,Qd.FX _ _ hk,h5,i64_in _ (by omega)];rfl
 | succ m ih =>
  intro j acc hj ha
  refine cF.iw _ _ _ _ _ _ _ _ ?_
  intro v1 h1 v2 h2 v3 h3 v4 h4 v5 h5
  rw [aj] at h2 h3
  have Qq:((j:Int) * (k:Int))=((j * k:Nat):Int):=by rw [Int.natCast_mul]
  have SS:j * k≤3 * 3:=Nat.mul_le_mul (by omega) (by omega)
  have e1:v1=(j:Int) * k * w:=by
   rw [h1,Qq,i64_in ((j * k:Nat):Int) (by omega)]
   rcases hw with rfl | rfl <;> rw [i64_in _ (by omega)]
  have b1 : -100≤v1∧v1≤100:=by
   rw [e1,Qq]
   rcases hw with rfl | rfl <;> omega
  have e2:v2=Gz.nU (l.get j) ((j:Int) * k * w):=by rw [h2,e1]
  rw [ha] at h3
  obtain ⟨x,y,p1,p2,p3⟩:=Gz.Aq h w k j (by omega)
  obtain ⟨u,v,g1,g2,g3⟩:=Gz.z7 (k:=(j:Int) * k * w) (h.get j (by omega))
  obtain ⟨c1,_⟩:=Gz.zV p1 g1 (by omega) (by omega)
  have e3:v3=Gz.part l w k (j+1):=by rw [h3,e2];rfl
  have e4:v4=((j+1:Nat):Int):=by rw [h4,i64_in _ (by omega)];omega
  have x1:bB (j:Int) 4=true:=bK (by omega) (by omega)
  have x2:bB (k:Int) 4=true:=bK (by omega) (by omega)
  have x3:decide ((k:Int).toNat<4)=true:=aa (by omega)
  rw [aa (show (j:Int)<4 by omega),ai,x1,x2,x3,aj,aj,Gz.jS.2 (h.get j (by omega)),aa b1,ha,e2,c1,e3,e4]
  simp only [aY,bQ]
  rw [ih (j+1) (acc.set k (Gz.part l w k (j+1))) (by omega) (Qd.GM _ _ _ hk),Qd.set_set _ _ _ _ hk]
theorem cF.goal (l:Qd) (w:Int) (hp:(Gz.wg l 1125899906842624&&decide (w=1∨w=-1))=true):cF.F l w=some [.ag (Qd.cells (Gz.mh l w))]:=by
 simp only [ah,aA] at hp
 obtain ⟨h,hw⟩:=hp
 have h:=Gz.rz.1 h
 have st:∀(k:Nat) (Z acc:Qd),k<4→acc.get k=(0,0)→cF.l1 w k l Z acc=cF.l1 w ((k+1:Nat):Int) l Z (acc.set k (Gz.part l w k 4)):=fun k Z acc hk ha=>by
  rw [cF.Hw,aa (by omega),ai]
  exact cF.ju l w h hw k hk Z 4 0 acc (by omega) (by rw [ha];rfl)
 rw [cF.eJ]
 refine (st 0 _ _ (by omega) rfl).trans ?_
 refine (st 1 _ _ (by omega) rfl).trans ?_
 refine (st 2 _ _ (by omega) rfl).trans ?_
 refine (st 3 _ _ (by omega) rfl).trans ?_
 rw [cF.Hw,ab (by decide),ae]
 rfl
theorem Gz.rR (l:Qd) (w:Int) (k:Nat) (hk:k<4):(Gz.mh l w).get k=Gz.part l w k 4:=by
 have:k=0∨k=1∨k=2∨k=3:=by omega
 rcases this with rfl | rfl | rfl | rfl <;> rfl
theorem dN.goal (l:Qd) (hp:(Gz.wg l 1125899906842624&&Gz.I8 l)=true):dN.F l=some [.ag (Qd.cells (Gz.back l)),.b true]:=by
 simp only [ah] at hp
 obtain ⟨h,h4⟩:=hp
 have hq:=h
 have h4:=Gz.AH.1 h4
 rw [dN.eJ,hq,bQ,aH,ae,Bool.true_and,bw (aa (.inr rfl))]
 have st:∀(k:Nat) (Y acc:Qd),k<4→dN.l1 (Gz.mh l (-1)) k Y acc=dN.l1 (Gz.mh l (-1)) ((k+1:Nat):Int) Y (acc.set k (Gz.quarter (Gz.part l (-1) k 4))):=fun k Y acc hk=>by
  refine dN.bV _ _ _ _ ?_
  intro v1 h1 v2 h2 v3 h3 v4 QU v5 h5 v6 h6 v7 h7 v8 h8
  rw [aj,Gz.rR l _ k hk] at h1 h2
  obtain ⟨x,y,p1,p2,p3⟩:=h4 k hk
  have e1:v1=4 * x:=by rw [h1];exact (p1.1.toInt (by omega)).2
  have e2:v2=4 * y:=by rw [h2];exact (p1.2.toInt (by omega)).2
  have m1:Int.tmod v1 4=0:=by rw [e1];exact Int.mul_tmod_right _ _
  have m2:Int.tmod v2 4=0:=by rw [e2];exact Int.mul_tmod_right _ _
  have e3:v3=false:=by rw [h3,m1];rfl
  have e4:v4=false:=by rw [QU,e3,m2];rfl
  have d1:Int.tdiv v1 4=x:=by rw [e1];exact Int.mul_tdiv_cancel_left _ (by omega)
  have d2:Int.tdiv v2 4=y:=by rw [e2];exact Int.mul_tdiv_cancel_left _ (by omega)
  have e5:v5=Int.tdiv v1 4:=by rw [h5,i64_in _ (by rw [d1];omega)]
  have e6:v6=Int.tdiv v2 4:=by rw [h6,i64_in _ (by rw [d2];omega)]
  have e8:v8=((k+1:Nat):Int):=by rw [h8,i64_in _ (by omega)];omega
  have e7:v7=Gz.quarter (Gz.part l (-1) k 4):=by rw [h7,e5,e6,h1,h2];rfl
  have x1:bB (k:Int) 4=true:=bK (by omega) (by omega)
  have x2:decide ((k:Int).toNat<4)=true:=aa (by omega)
  have b1:Gz.tK (Gz.part l (-1) k 4) 4503599627370496=true:=Gz.jS.2 ⟨_,_,p1,by omega,by omega⟩
  rw [aa (show (k:Int)<4 by omega),ai,x1,x2,aj,Gz.rR l _ k hk,b1,e3,e4,e7,e8]
  rfl
 refine (st 0 _ _ (by omega)).trans ?_
 refine (st 1 _ _ (by omega)).trans ?_
 refine (st 2 _ _ (by omega)).trans ?_
 refine (st 3 _ _ (by omega)).trans ?_
 refine dN.bV _ _ _ _ ?_
 intro v1 h1 v2 h2 v3 h3 v4 QU v5 h5 v6 h6 v7 h7 v8 h8
 rw [ab (by decide),ae]
 rfl
theorem Gz.po {l:List Int} (h:Gz.ie l=true) (i:Nat) (hi:i<l.length):0≤l.getD i 0∧l.getD i 0≤65535:=by
 unfold Gz.ie at h
 rw [af,aq hi]
 simpa using aC.1 h _ (List.getElem_mem hi)
theorem cJ.cW (l:List Int) (h:Gz.ie l=true) (hl:l.length≤256):∀(m i:Nat),i+m=l.length→cJ.l1 l l l.length i=some [.b true]:=by
 intro m
 induction m with
 | zero =>
  intro i hi
  refine cJ.bV _ _ _ _ ?_
  intro v1 h1 v2 h2 v3 h3
  rw [ab (by omega),ae,aa (by omega)]
 | succ m ih =>
  intro i hi
  refine cJ.bV _ _ _ _ ?_
  intro v1 h1 v2 h2 v3 h3
  rw [aj] at h1
  have hd:=Gz.po h i (by omega)
  rw [←h1] at hd
  have e2:v2=false:=by rw [h2,ab (by omega),ae];exact ab (by omega)
  have e3:v3=((i+1:Nat):Int):=by rw [h3,i64_in _ (by omega)];omega
  simp only [aR,bm,Bool.not_not,bQ]
  rw [aa (by omega),ai,bw (bK (by omega) (by omega)),e2,ae,e3]
  exact ih (i+1) (by omega)
theorem cJ.goal (l:List Int) (hp:(decide (l.length≤256)&&Gz.ie l)=true):cJ.F l=some [.b true]:=by
 simp only [ah,aA] at hp
 rw [cJ.eJ];exact cJ.cW l hp.2 hp.1 l.length 0 (by omega)
theorem Gz.zh {a:Int} (h:0≤a∧a≤65535):Gz.Is (Gz.wc a) a 0:=⟨Fl.W.ofInt (by omega),Fl.W.ofInt (n:=0) (by decide)⟩
theorem Gz.zi {a:Int} (h:0≤a∧a≤65535):Gz.In (Gz.wc a) 1125899906842624:=⟨_,_,Gz.zh h,by omega,by omega⟩
theorem Gz.ra:Gz.Is (0,0) 0 0:=⟨Fl.Ia,Fl.Ia⟩
theorem Gz.oD:Gz.In (0,0) 1125899906842624:=⟨_,_,Gz.ra,by omega,by omega⟩
theorem Gz.zg (l:List Int) (i:Nat) (h:i<l.length):Gz.gS (l.drop i)=(if i+1<l.length then Gz.mh ⟨Gz.wc (l.getD i 0),Gz.wc (l.getD (i+1) 0),(0,0),(0,0)⟩ 1 else Gz.mh ⟨Gz.wc (l.getD i 0),(0,0),(0,0),(0,0)⟩ 1) :: Gz.gS (l.drop (i+2)):=by
 rw [drop_cons h 0]
 by_cases c:i+1<l.length
 ·rw [drop_cons c 0,Gz.gS,aw c]
 ·rw [aE (i:=i+1) (by omega),aE (i:=i+2) (by omega),Gz.gS,au c];rfl
theorem cw.cW (l:List Int) (h:Gz.ie l=true) (hl:l.length≤256):∀(m i:Nat) (acc:List Qd),l.length≤i+2 * m→i≤300→acc.length≤i→cw.l1 l acc i=some [.sl .qd (acc++Gz.gS (l.drop i))]:=by
 intro m
 induction m with
 | zero =>
  intro i acc hi Np ha
  refine cw.bV _ _ _ ?_
  intro v1 h1 v2 h2 v3 h3 v4 h4 v5 h5 v6 h6
  rw [ab (by omega),ae,aE (by omega),Gz.gS,bj]
 | succ m ih =>
  intro i acc hi Np ha
  refine cw.bV _ _ _ ?_
  intro v1 h1 v2 h2 v3 h3 v4 h4 v5 h5 v6 h6
  by_cases c0:i<l.length
  ·rw [aj] at h1
   have e3:v3=((i+1:Nat):Int):=by rw [h3,i64_in _ (by omega)];omega
   rw [e3,aj] at h4
   have hd:=Gz.po h i (by omega)
   rw [←h1] at hd
   have jn:∀q:Qd,Gz.Ig q 1125899906842624→cw.j2 l acc i q=some [.sl .qd (acc++[Gz.mh q 1]++Gz.gS (l.drop (i+2)))]:=fun q hq=>by
    refine cw.jg _ _ _ _ ?_
    intro u1 g1 u2 g2
    have e2:u2=((i+2:Nat):Int):=by rw [g2,i64_in _ (by omega)];omega
    rw [Gz.rz.2 hq,bQ,bw (dW (by rw [az];omega) (by rw [az];omega)),g1,e2]
    exact ih (i+2) _ (by omega) (by omega) (by rw [ao,az];omega)
   rw [aa (by omega),ai,bw (bK (by omega) (by omega)),bw (aa (by omega)),Gz.zg l i c0]
   by_cases c:i+1<l.length
   ·have hd2:=Gz.po h (i+1) c
    rw [←h4] at hd2
    rw [e3,aa (by omega),ai,bw (bK (by omega) (by omega)),bw (aa (by omega)),bw (bK (by omega) (by omega)),bw (by decide),aw c]
    have e6:v6=⟨Gz.wc v1,Gz.wc v4,(0,0),(0,0)⟩:=by rw [h6,h5,h2];rfl
    rw [e6,jn _ ⟨Gz.zi hd,Gz.zi hd2,Gz.oD,Gz.oD⟩,←h1,←h4,aG];rfl
   ·rw [e3,ab (by omega),ae,au c]
    have e6:(Qd.mk v2 (0,0) (0,0) (0,0))=⟨Gz.wc v1,(0,0),(0,0),(0,0)⟩:=by rw [h2];rfl
    rw [e6,jn _ ⟨Gz.zi hd,Gz.oD,Gz.oD,Gz.oD⟩,←h1,aG];rfl
  ·rw [ab (by omega),ae,aE (by omega),Gz.gS,bj]
theorem cw.goal (l:List Int) (hp:(decide (l.length≤256)&&Gz.ie l)=true):cw.F l=some [.sl .qd (Gz.gS l)]:=by
 simp only [ah,aA] at hp
 rw [cw.eJ]
 have:=cw.cW l hp.2 hp.1 l.length 0 [] (by omega) (by omega) (by simp)
 rw [bh,bq] at this
 exact this
end Go.Eng
set_option maxRecDepth 20000
namespace Go.Eng
open Go.IntWalk
namespace Gz
def pre (X Y:Nat→Int) (w:Int) (k:Nat):Nat→Int
 | 0=>0
 | j+1=>pre X Y w k j+(X j * pI (j * k * w) - Y j * pJ (j * k * w))
def F6 (X Y:Nat→Int) (w:Int) (k:Nat):Nat→Int
 | 0=>0
 | j+1=>F6 X Y w k j+(X j * pJ (j * k * w)+Y j * pI (j * k * w))
theorem vk {l:Qd} {X Y:Nat→Int} {w:Int} {k:Nat} (h:∀j,j<4→Is (l.get j) (X j) (Y j)∧(X j).natAbs≤1125899906842624∧(Y j).natAbs≤1125899906842624) :
  ∀j,j≤4→Is (part l w k j) (pre X Y w k j) (F6 X Y w k j)∧(pre X Y w k j).natAbs≤j * 2251799813685248∧(F6 X Y w k j).natAbs≤j * 2251799813685248
 | 0,_=>⟨ra,by show (0:Int).natAbs≤_;omega,by show (0:Int).natAbs≤_;omega⟩
 | j+1,hj=>by
  obtain ⟨i1,i2,i3⟩:=vk (w:=w) (k:=k) h j (by omega)
  obtain ⟨g1,g2,g3⟩:=h j (by omega)
  have t:=(vd (j * k * w) g1 g2 g3).2
  have b1:(X j * pI (j * k * w) - Y j * pJ (j * k * w)).natAbs≤2251799813685248:=by
   rcases lP (j * k * w) with e | e | e <;> rcases lQ (j * k * w) with f | f | f <;> rw [e,f] <;> omega
  have b2:(X j * pJ (j * k * w)+Y j * pI (j * k * w)).natAbs≤2251799813685248:=by
   rcases lP (j * k * w) with e | e | e <;> rcases lQ (j * k * w) with f | f | f <;> rw [e,f] <;> omega
  show Is (add (part l w k j) (nU (l.get j) (j * k * w))) (pre X Y w k j+(X j * pI (j * k * w) - Y j * pJ (j * k * w))) (F6 X Y w k j+(X j * pJ (j * k * w)+Y j * pI (j * k * w)))∧(pre X Y w k j+(X j * pI (j * k * w) - Y j * pJ (j * k * w))).natAbs≤_∧(F6 X Y w k j+(X j * pJ (j * k * w)+Y j * pI (j * k * w))).natAbs≤_
  generalize X j * pI (j * k * w) - Y j * pJ (j * k * w)=A at *
  generalize X j * pJ (j * k * w)+Y j * pI (j * k * w)=B at *
  exact ⟨(zV i1 t (by omega) (by omega)).2,by omega,by omega⟩
def dg (x:Int):Prop:=0≤x∧x≤65535
def two (a b:Int):Qd:=mh ⟨wc a,wc b,(0,0),(0,0)⟩ 1
def rx (a b:Int) (k:Nat):Int:=a+b * pI k
def ry (b:Int) (k:Nat):Int:=b * pJ k
theorem yN {a b:Int} (ha:dg a) (hb:dg b) (k:Nat) (hk:k<4):Is ((two a b).get k) (rx a b k) (ry b k):=by
 unfold two
 rw [rR _ _ _ hk]
 have h:=(vk (l:=⟨wc a,wc b,(0,0),(0,0)⟩) (w:=1) (k:=k) (X:=fun j=>[a,b].getD j 0) (Y:=fun _=>0) (fun j hj=>by
  have:j=0∨j=1∨j=2∨j=3:=by omega
  obtain ⟨a1,a2⟩:=ha
  obtain ⟨b1,b2⟩:=hb
  rcases this with rfl | rfl | rfl | rfl
  ·exact ⟨zh ⟨a1,a2⟩,by show a.natAbs≤_;omega,by decide⟩
  ·exact ⟨zh ⟨b1,b2⟩,by show b.natAbs≤_;omega,by decide⟩
  ·exact ⟨ra,by show (0:Int).natAbs≤_;omega,by show (0:Int).natAbs≤_;omega⟩
  ·exact ⟨ra,by show (0:Int).natAbs≤_;omega,by show (0:Int).natAbs≤_;omega⟩) 4 (by omega)).1
 have e1:pre (fun j=>[a,b].getD j 0) (fun _=>0) 1 k 4=rx a b k:=by simp [pre,rx,pI]
 have e2:F6 (fun j=>[a,b].getD j 0) (fun _=>0) 1 k 4=ry b k:=by simp [F6,ry,pJ]
 rw [e1,e2] at h
 exact h
theorem C2 {a b:Int} (ha:dg a) (hb:dg b) (k:Nat):(rx a b k).natAbs≤131070:=by
 obtain ⟨a1,a2⟩:=ha
 obtain ⟨b1,b2⟩:=hb
 unfold rx
 rcases lP k with e | e | e <;> rw [e] <;> omega
theorem C1 {b:Int} (hb:dg b) (k:Nat):(ry b k).natAbs≤65535:=by
 obtain ⟨b1,b2⟩:=hb
 unfold ry
 rcases lQ k with e | e | e <;> rw [e] <;> omega
def oc (x y:Qd):Qd:=⟨mul (x.get 0) (y.get 0),mul (x.get 1) (y.get 1),mul (x.get 2) (y.get 2),mul (x.get 3) (y.get 3)⟩
def zx (a b c d:Int) (k:Nat):Int:=rx a b k * rx c d k - ry b k * ry d k
def zy (a b c d:Int) (k:Nat):Int:=rx a b k * ry d k+ry b k * rx c d k
theorem Bq (x y:Qd) (k:Nat) (hk:k<4):(oc x y).get k=mul (x.get k) (y.get k):=by
 have:k=0∨k=1∨k=2∨k=3:=by omega
 rcases this with rfl | rfl | rfl | rfl <;> rfl
theorem qe {a b:Int} {m n:Nat} (h1:a.natAbs≤m) (h2:b.natAbs≤n):(a * b).natAbs≤m * n:=by
 rw [Int.natAbs_mul];exact Nat.mul_le_mul h1 h2
theorem CB {a b:Int} (ha:dg a) (hb:dg b) (k:Nat) (hk:k<4):In ((two a b).get k) 33554432 :=
 ⟨_,_,yN ha hb k hk,by have:=C2 ha hb k;omega,by have:=C1 hb k;omega⟩
theorem An {a b c d:Int} (ha:dg a) (hb:dg b) (hc:dg c) (hd:dg d) (k:Nat) (hk:k<4) :
  Is ((oc (two a b) (two c d)).get k) (zx a b c d k) (zy a b c d k)∧(zx a b c d k).natAbs≤1125899906842624∧(zy a b c d k).natAbs≤1125899906842624:=by
 have x1:=C2 ha hb k
 have x2:=C1 hb k
 have x3:=C2 hc hd k
 have x4:=C1 hd k
 have y1:=qe x1 x3
 have y2:=qe x2 x4
 have y3:=qe x1 x4
 have y4:=qe x2 x3
 rw [Bq _ _ _ hk]
 refine ⟨(zm (yN ha hb k hk) (yN hc hd k hk) (by omega) (by omega) (by omega) (by omega)).2,?_,?_⟩
 ·unfold zx;omega
 ·unfold zy;omega
def co (a b c d:Int) (k:Nat):Int:=if k=0 then a * c else if k=1 then a * d+b * c else if k=2 then b * d else 0
theorem yr (a b c d:Int) (k:Nat) (hk:k<4):pre (zx a b c d) (zy a b c d) (-1) k 4=4 * co a b c d k∧F6 (zx a b c d) (zy a b c d) (-1) k 4=4 * 0:=by
 have:k=0∨k=1∨k=2∨k=3:=by omega
 rcases this with rfl | rfl | rfl | rfl <;> constructor <;> simp [pre,F6,co,zx,zy,rx,ry,pI,pJ,Int.add_mul,Int.mul_add,Int.sub_mul,Int.mul_sub,Int.neg_mul,Int.mul_neg] <;> omega
theorem EM {a b c d:Int} (ha:dg a) (hb:dg b) (hc:dg c) (hd:dg d) (k:Nat):0≤co a b c d k∧co a b c d k≤8589672450:=by
 have m:∀{x y:Int},dg x→dg y→0≤x * y∧x * y≤4294836225:=fun {x y} h1 h2=>by
  have:=qe (a:=x) (b:=y) (m:=65535) (n:=65535) (by obtain ⟨_,_⟩:=h1;omega) (by obtain ⟨_,_⟩:=h2;omega)
  have h0:=Int.mul_nonneg h1.1 h2.1
  omega
 have m1:=m ha hc
 have m2:=m ha hd
 have m3:=m hb hc
 have m4:=m hb hd
 unfold co
 split
 ·omega
 ·split
  ·omega
  ·split <;> omega
theorem wS {a b c d:Int} (ha:dg a) (hb:dg b) (hc:dg c) (hd:dg d) (k:Nat) (hk:k<4):Is (part (oc (two a b) (two c d)) (-1) k 4) (4 * co a b c d k) (4 * 0):=by
 have h:=(vk (w:=-1) (k:=k) (fun j hj=>An ha hb hc hd j hj) 4 (by omega)).1
 rw [(yr a b c d k hk).1,(yr a b c d k hk).2] at h
 exact h
theorem E4 (l:Qd) (k:Nat) (hk:k<4):(back l).get k=quarter (part l (-1) k 4):=by
 have:k=0∨k=1∨k=2∨k=3:=by omega
 rcases this with rfl | rfl | rfl | rfl <;> rfl
theorem ze {z:Cx} {x y:Int} (h:Is z (4 * x) (4 * y)) (hx:x.natAbs≤562949953421312) (hy:y.natAbs≤562949953421312):Is (quarter z) x y:=by
 unfold quarter
 rw [(h.1.toInt (by omega)).2,(h.2.toInt (by omega)).2,Int.mul_tdiv_cancel_left _ (by omega),Int.mul_tdiv_cancel_left _ (by omega)]
 exact ⟨Fl.W.ofInt (by omega),Fl.W.ofInt (by omega)⟩
theorem Hb {a b c d:Int} (ha:dg a) (hb:dg b) (hc:dg c) (hd:dg d) (k:Nat) (hk:k<4):Is ((back (oc (two a b) (two c d))).get k) (co a b c d k) 0:=by
 rw [E4 _ _ hk]
 have:=EM ha hb hc hd k
 exact ze (wS ha hb hc hd k hk) (by omega) (by omega)
theorem F5 {a b c d:Int} (ha:dg a) (hb:dg b) (hc:dg c) (hd:dg d):(wg (oc (two a b) (two c d)) 1125899906842624&&I8 (oc (two a b) (two c d)))=true:=by
 have h:∀k,k<4→In ((oc (two a b) (two c d)).get k) 1125899906842624:=fun k hk=>by
  obtain ⟨h1,h2,h3⟩:=An ha hb hc hd k hk
  exact ⟨_,_,h1,h2,h3⟩
 rw [rz.2 ⟨h 0 (by omega),h 1 (by omega),h 2 (by omega),h 3 (by omega)⟩,AH.2 fun k hk=>?_]
 ·rfl
 ·have:=EM ha hb hc hd k
  exact ⟨_,_,wS ha hb hc hd k hk,by omega,by omega⟩
theorem jy:∀l:List Int,(gS l).length=(l.length+1) / 2
 | []=>rfl
 | [a]=>by simp [gS]
 | a :: b :: r=>by rw [gS,ay,jy r,ay,ay];omega
theorem Lv:wc 0=(0,0):=by
 have e:Fl.ofInt 0=0:=by decide +kernel
 unfold wc;rw [e]
theorem pZ (e:Qd):∀(l:List Int) (i:Nat),i<(l.length+1) / 2→(gS l).getD i e=two (l.getD (2 * i) 0) (l.getD (2 * i+1) 0)
 | [],i,h=>by simp at h
 | [a],i,h=>by
  obtain rfl:i=0:=by simp at h;omega
  show mh ⟨wc a,(0,0),(0,0),(0,0)⟩ 1=two a 0
  unfold two;rw [Lv]
 | a :: b :: r,0,h=>rfl
 | a :: b :: r,i+1,h=>by
  rw [ay,ay] at h
  have:=pZ e r i (by omega)
  rw [show 2 * (i+1)=2 * i+2 by omega]
  exact this
theorem rF {l:List Int} (h:ie l=true) (i:Nat):dg (l.getD i 0):=by
 by_cases c:i<l.length
 ·exact po h i c
 ·rw [af,List.getElem?_eq_none (by omega)];exact ⟨by decide,by decide⟩
end Gz
end Go.Eng
set_option maxRecDepth 20000
namespace Go.Eng
open Go.IntWalk
namespace Gz
def T (f g:Nat→Int) (m:Nat):Nat→Int
 | 0=>0
 | n+1=>T f g m n+if n≤m then f n * g (m - n) else 0
def U (f g:Nat→Int) (i n m:Nat):Int:=(if i≤m∧m - i<n then f i * g (m - i) else 0)+if i+1≤m∧m - (i+1)<n then f (i+1) * g (m - (i+1)) else 0
theorem J7 {x y:Int} (h1:dg x) (h2:dg y):0≤x * y∧x * y≤4294836225:=by
 have:=qe (a:=x) (b:=y) (m:=65535) (n:=65535) (by obtain ⟨_,_⟩:=h1;omega) (by obtain ⟨_,_⟩:=h2;omega)
 have h0:=Int.mul_nonneg h1.1 h2.1
 omega
theorem Ku {f g:Nat→Int} (hf:∀i,dg (f i)) (hg:∀i,dg (g i)) (m:Nat):∀n,0≤T f g m n∧T f g m n≤n * 4294836225
 | 0=>⟨Int.le_refl _,by show (0:Int)≤_;omega⟩
 | n+1=>by
  have h:=Ku hf hg m n
  have h2:=J7 (hf n) (hg (m - n))
  rw [T]
  split <;> omega
theorem PM {f g:Nat→Int} (hf:∀i,dg (f i)) (hg:∀i,dg (g i)) (i n m:Nat):0≤U f g i n m∧U f g i n m≤8589672450:=by
 have h1:=J7 (hf i) (hg (m - i))
 have h2:=J7 (hf (i+1)) (hg (m - (i+1)))
 unfold U
 split <;> split <;> omega
theorem TG (f g:Nat→Int) (i m:Nat):U f g i 0 m=0:=by
 unfold U
 rw [au (by omega),au (by omega)];rfl
theorem Ks (f g:Nat→Int) (i n m:Nat):U f g i (n+2) m=U f g i n m+if m=i+n then co (f i) (f (i+1)) (g n) (g (n+1)) 0 else if m=i+n+1 then co (f i) (f (i+1)) (g n) (g (n+1)) 1 else if m=i+n+2 then co (f i) (f (i+1)) (g n) (g (n+1)) 2 else 0:=by
 unfold U co
 by_cases c0:m=i+n
 ·subst c0
  rw [aw (by omega),aw rfl,aw rfl,au (show ¬(i≤i+n∧i+n - i<n) by omega),show i+n - i=n by omega]
  by_cases c:n=0
  ·rw [au (by omega),au (by omega)];omega
  ·rw [aw (by omega),aw (by omega)];omega
 ·rw [au c0]
  by_cases c1:m=i+n+1
  ·subst c1
   rw [aw (by omega),aw (by omega),aw rfl,au (show ¬(i≤i+n+1∧i+n+1 - i<n) by omega),au (show ¬(i+1≤i+n+1∧i+n+1 - (i+1)<n) by omega),show i+n+1 - i=n+1 by omega,show i+n+1 - (i+1)=n by omega,au (by omega),aw rfl];omega
  ·rw [au c1]
   by_cases c2:m=i+n+2
   ·subst c2
    rw [au (by omega),aw (by omega),aw rfl,au (show ¬(i≤i+n+2∧i+n+2 - i<n) by omega),au (show ¬(i+1≤i+n+2∧i+n+2 - (i+1)<n) by omega),show i+n+2 - (i+1)=n+1 by omega,au (by omega),au (by omega),aw rfl];omega
   ·rw [au c2]
    have e1:(i≤m∧m - i<n+2) ↔ (i≤m∧m - i<n):=by omega
    have e2:(i+1≤m∧m - (i+1)<n+2) ↔ (i+1≤m∧m - (i+1)<n):=by omega
    simp only [e1,e2,Int.add_zero]
theorem MM {f g:Nat→Int} {n:Nat} (hg:∀i,n≤i→g i=0) (i m:Nat):T f g m (i+2)=T f g m i+U f g i n m:=by
 rw [T,T,U]
 have e:∀k,(if k≤m then f k * g (m - k) else 0)=if k≤m∧m - k<n then f k * g (m - k) else 0:=fun k=>by
  by_cases c:k≤m
  ·by_cases d:m - k<n
   ·rw [aw c,aw ⟨c,d⟩]
   ·rw [aw c,au (by omega),hg _ (by omega),Int.mul_zero]
  ·rw [au c,au (by omega)]
 rw [e,e];omega
theorem Fi {f g:Nat→Int} {m n:Nat} (h:∀i,n≤i→i≤m→f i=0):∀k,T f g m (n+k)=T f g m n
 | 0=>rfl
 | k+1=>by
  rw [←Nat.add_assoc,T,Fi h k]
  split
  ·rw [h _ (by omega) (by omega),Int.zero_mul,Int.add_zero]
  ·rw [Int.add_zero]
theorem G3 (a b:List Int) (m:Nat):Cc a b m=T (a.getD · 0) (b.getD · 0) m (m+1):=by
 unfold Cc
 have:∀n,n≤m+1→(List.range n).foldl (fun s i=>s+a.getD i 0 * b.getD (m - i) 0) 0=T (a.getD · 0) (b.getD · 0) m n:=by
  intro n
  induction n with
  | zero=>intro _;rfl
  | succ n ih =>
   intro h
   rw [List.range_succ,List.foldl_append,ih (by omega),T,aw (by omega)];rfl
 exact this _ (Nat.le_refl _)
theorem zN (a b:List Int) (m n:Nat) (hn:a.length≤n):T (a.getD · 0) (b.getD · 0) m n=Cc a b m:=by
 rw [G3,←Fi (n:=n) (k:=m+1) (fun i h1 _=>by
  show a.getD i 0=0
  rw [af,List.getElem?_eq_none (by omega)];rfl),Nat.add_comm n (m+1),Fi (fun i h1 h2=>by omega)]
theorem vp {l:List Int} {n:Nat} (x:Int) (m:Nat) (h:n<l.length):(l.set n x).getD m 0=if m=n then x else l.getD m 0:=by
 rw [af,List.getElem?_set]
 by_cases c:n=m
 ·subst c;rw [aw rfl,aw h,aw rfl];rfl
 ·rw [au c,au (fun e=>c e.symm),af]
def grow (o:List Int) (p:Nat) (x y z:Int):List Int :=
 let o1:=o.set p (o.getD p 0+x)
 let o2:=o1.set (p+1) (o1.getD (p+1) 0+y)
 o2.set (p+2) (o2.getD (p+2) 0+z)
theorem D5 {o:List Int} {p:Nat} (x y z:Int) (h:p+2<o.length) (m:Nat):(grow o p x y z).getD m 0=o.getD m 0+if m=p then x else if m=p+1 then y else if m=p+2 then z else 0:=by
 unfold grow
 simp only
 have hl:∀(o:List Int) (n:Nat) (x:Int),p+2<o.length→p+2<(o.set n x).length:=fun o n x h=>by rw [List.length_set];exact h
 have q1:=hl o p (o.getD p 0+x) h
 rw [vp (n:=p+2) _ m (hl _ _ _ q1),vp (n:=p+1) _ m (by omega),vp (n:=p+1) _ (p+2) (by omega),vp (n:=p) _ m (by omega),vp (n:=p) _ (p+1) (by omega),vp (n:=p) _ (p+2) (by omega)]
 by_cases c0:m=p
 ·subst c0
  rw [au (by omega),au (by omega),aw rfl,aw rfl]
 ·by_cases c1:m=p+1
  ·subst c1
   rw [au (by omega),aw rfl,au (by omega),au (by omega),aw rfl]
  ·by_cases c2:m=p+2
   ·subst c2
    rw [aw rfl,au (by omega),au (by omega),au c0,au c1,aw rfl]
   ·rw [au c2,au c1,au c0,au c0,au c1,au c2,Int.add_zero]
theorem xK (o:List Int) (p:Nat) (x y z:Int):(grow o p x y z).length=o.length:=by
 unfold grow;simp
end Gz
open Gz
theorem bL.DG (x0 x1:List Int) (x2:List Qd) (x3 x4:Int) (x5:List Qd) (x6 x7:Int) (x8:List Qd) (x9 tw:Int) (o:List Int) (x y:Qd) (hx:∀k,k<4→In (x.get k) 33554432) (hy:∀k,k<4→In (y.get k) 33554432) (ho:(wg (oc x y) 1125899906842624&&I8 (oc x y))=true) :
  bL.l3 x0 x1 x2 x3 x4 x5 x6 x7 x8 x9 tw 0 x y ⟨(0,0),(0,0),(0,0),(0,0)⟩ o=bL.l4 x0 x1 x2 x3 x4 x5 x6 x7 x8 x9 tw 0 x (back (oc x y)) o:=by
 have st:∀(k:Nat) (z:Qd),k<4→bL.l3 x0 x1 x2 x3 x4 x5 x6 x7 x8 x9 tw k x y z o=bL.l3 x0 x1 x2 x3 x4 x5 x6 x7 x8 x9 tw ((k+1:Nat):Int) x y (z.set k (mul (x.get k) (y.get k))) o:=fun k z hk=>by
  refine bL.sJ _ _ _ _ _ _ _ _ _ _ _ _ _ _ _ _ ?_
  intro v1 h1 v2 h2 v3 h3
  have e3:v3=((k+1:Nat):Int):=by rw [h3,i64_in _ (by omega)];omega
  rw [aj] at h1 h2
  rw [aa (by omega),ai,bw (bK (by omega) (by omega)),bw (aa (by omega)),bw (bK (by omega) (by omega)),bw (aa (by omega)),aj,jS.2 (hx k hk),jS.2 (hy k hk),aY,bQ,bw (bK (by omega) (by omega)),bw (aa (by omega)),e3,h2,h1]
 refine (st 0 _ (by omega)).trans ?_
 refine (st 1 _ (by omega)).trans ?_
 refine (st 2 _ (by omega)).trans ?_
 refine (st 3 _ (by omega)).trans ?_
 refine bL.sJ _ _ _ _ _ _ _ _ _ _ _ _ _ _ _ _ ?_
 intro v1 h1 v2 h2 v3 h3
 rw [ab (by decide),ae]
 exact bw ho
theorem bL.DF (x0 x1:List Int) (x2:List Qd) (x3:Int) (i j:Nat) (x5:List Qd) (x6 x7:Int) (x8:List Qd) (x9:Int) (o:List Int) (x y:Qd) (c:Nat→Int) (hc:∀k,k<4→Is (y.get k) (c k) 0∧0≤c k∧c k≤8589672450) (hi:i≤128) (hj:j≤128) (ho:2 * i+2 * j+2<o.length) (hb:∀m,0≤o.getD m 0∧o.getD m 0≤1125899906842624) (Sn:x3=i) :
  bL.l4 x0 x1 x2 x3 j x5 x6 x7 x8 x9 j 0 x y o=bL.l2 x0 x1 x2 x3 x5 x6 x7 x8 x9 ((j+1:Nat):Int) x (grow o (2 * i+2 * j) (c 0) (c 1) (c 2)):=by
 have st:∀(k:Nat) (o:List Int),k<3→2 * i+2 * j+2<o.length→(0≤o.getD (2 * i+2 * j+k) 0∧o.getD (2 * i+2 * j+k) 0≤1125899906842624)→bL.l4 x0 x1 x2 x3 j x5 x6 x7 x8 x9 j k x y o=bL.l4 x0 x1 x2 x3 j x5 x6 x7 x8 x9 j ((k+1:Nat):Int) x y (o.set (2 * i+2 * j+k) (o.getD (2 * i+2 * j+k) 0+c k)):=fun k o hk ho hb=>by
  refine bL.xv _ _ _ _ _ _ _ _ _ _ _ _ _ _ _ ?_
  intro v1 h1 v2 h2 v3 h3 v4 h4 v5 h5 v6 h6 v7 h7 v8 h8 v9 h9
  obtain ⟨q1,q2,q3⟩:=hc k (by omega)
  rw [aj] at h1 h2
  have e1:v1=c k:=by rw [h1];exact (q1.1.toInt (by omega)).2
  have e3:v3=2 * i:=by rw [h3,Sn,i64_in _ (by omega)]
  have e4:v4=2 * j:=by rw [h4,i64_in _ (by omega)]
  have e5:v5=((2 * i+2 * j+k:Nat):Int):=by rw [h5,e3,e4,i64_in (2 * (i:Int)+2 * j) (by omega),i64_in _ (by omega)];omega
  rw [e5,aj] at h6 h7
  have e7:v7=o.set (2 * i+2 * j+k) (o.getD (2 * i+2 * j+k) 0+c k):=by rw [h7,h6,e1,i64_in _ (by omega)]
  have e8:v8=((k+1:Nat):Int):=by rw [h8,i64_in _ (by omega)];omega
  have b1:tK (y.get k) 4503599627370496=true:=jS.2 ⟨_,_,q1,by omega,by omega⟩
  rw [aa (by omega),ai,bw (bK (by omega) (by omega)),bw (aa (by omega)),aj,bw b1,e5,bw (bK (by omega) (by omega)),aj,bw (aa (by omega)),bw (bK (by omega) (by omega)),bw (aa (by omega)),e7,e8]
 refine (st 0 _ (by omega) ho (hb _)).trans ?_
 refine (st 1 _ (by omega) (by rw [List.length_set];exact ho) (by rw [vp _ _ (by omega),au (by omega)];exact hb _)).trans ?_
 refine (st 2 _ (by omega) (by rw [List.length_set,List.length_set];exact ho) (by rw [vp _ _ (by rw [List.length_set];omega),au (by omega),vp _ _ (by omega),au (by omega)];exact hb _)).trans ?_
 refine bL.xv _ _ _ _ _ _ _ _ _ _ _ _ _ _ _ ?_
 intro v1 h1 v2 h2 v3 h3 v4 h4 v5 h5 v6 h6 v7 h7 v8 h8 v9 h9
 have e9:v9=((j+1:Nat):Int):=by rw [h9,i64_in _ (by omega)];omega
 rw [ab (by decide),ae,e9]
 rfl
theorem bL.ju (a b:List Int) (ha:Gz.ie a=true) (hb:Gz.ie b=true) (la:a.length≤256) (lb:b.length≤256) (i:Nat) (hi:i<(a.length+1) / 2):∀(m j:Nat) (o:List Int),j+m=(b.length+1) / 2→o.length=a.length+b.length+2→(∀q,o.getD q 0=T (a.getD · 0) (b.getD · 0) q (2 * i)+U (a.getD · 0) (b.getD · 0) (2 * i) (2 * j) q) →
  ∃o':List Int,bL.l2 a b (gS b) i (gS a) ((gS a).length:Int) i (gS b) ((gS b).length:Int) j (two (a.getD (2 * i) 0) (a.getD (2 * i+1) 0)) o=bL.l1 a b (gS b) (gS a) ((gS a).length:Int) ((i+1:Nat):Int) o'∧o'.length=a.length+b.length+2∧∀q,o'.getD q 0=T (a.getD · 0) (b.getD · 0) q (2 * (i+1)):=by
 intro m
 induction m with
 | zero =>
  intro j o hj ho hv
  refine ⟨o,?_,ho,?_⟩
  ·refine bL.iw _ _ _ _ _ _ _ _ _ _ _ _ ?_
   intro v1 h1 v2 h2
   have e2:v2=((i+1:Nat):Int):=by rw [h2,i64_in _ (by omega)];omega
   rw [jy,ab (by omega),ae,e2]
  ·intro q
   rw [hv q,show 2 * (i+1)=2 * i+2 by omega,MM (n:=2 * j) (fun k hk=>by
    show b.getD k 0=0
    rw [af,List.getElem?_eq_none (by omega)];rfl)]
 | succ m ih =>
  intro j o hj ho hv
  have hf:=rF ha
  have hg:=rF hb
  have f0:=hf (2 * i)
  have f1:=hf (2 * i+1)
  have g0:=hg (2 * j)
  have g1:=hg (2 * j+1)
  obtain ⟨o',h1,h2,h3⟩:=ih (j+1) (grow o (2 * i+2 * j) (co (a.getD (2 * i) 0) (a.getD (2 * i+1) 0) (b.getD (2 * j) 0) (b.getD (2 * j+1) 0) 0) (co (a.getD (2 * i) 0) (a.getD (2 * i+1) 0) (b.getD (2 * j) 0) (b.getD (2 * j+1) 0) 1) (co (a.getD (2 * i) 0) (a.getD (2 * i+1) 0) (b.getD (2 * j) 0) (b.getD (2 * j+1) 0) 2)) (by omega) (by rw [xK];exact ho) (fun q=>by
   rw [D5 _ _ _ (by omega),hv q,show 2 * (j+1)=2 * j+2 by omega,Ks,Int.add_assoc])
  refine ⟨o',Eq.trans ?_ h1,h2,h3⟩
  refine bL.iw _ _ _ _ _ _ _ _ _ _ _ _ ?_
  intro v1 h1 v2 h2
  rw [aj,pZ _ _ _ (by omega)] at h1
  have hp:=jy b
  rw [aa (by omega),ai,bw (bK (by omega) (by omega)),h1]
  rw [bL.DG _ _ _ _ _ _ _ _ _ _ _ _ _ _ (fun k hk=>CB f0 f1 k hk) (fun k hk=>CB g0 g1 k hk) (F5 f0 f1 g0 g1)]
  exact bL.DF _ _ _ _ i j _ _ _ _ _ _ _ _ (co (a.getD (2 * i) 0) (a.getD (2 * i+1) 0) (b.getD (2 * j) 0) (b.getD (2 * j+1) 0)) (fun k hk=>⟨Hb f0 f1 g0 g1 k hk,EM f0 f1 g0 g1 k⟩) (by omega) (by omega) (by omega) (fun q=>by
   rw [hv q]
   have t1:=Ku (f:=(a.getD · 0)) (g:=(b.getD · 0)) hf hg q (2 * i)
   have t2:=PM (f:=(a.getD · 0)) (g:=(b.getD · 0)) hf hg (2 * i) (2 * j) q
   omega) rfl
theorem Aw (o:List Int) (f:Nat→Int) (n:Nat) (hn:n≤o.length) (h:∀q,o.getD q 0=f q):o.take n=(List.range n).map f:=by
 apply List.ext_getElem
 ·rw [aF,bf,List.length_range];omega
 ·intro i h1 h2
  rw [aF] at h1
  have:=h i
  rw [af,aq (by omega)] at this
  rw [List.getElem_take,List.getElem_map,List.getElem_range]
  exact this
theorem bL.cW (a b:List Int) (ha:Gz.ie a=true) (hb:Gz.ie b=true) (la:a.length≤256) (lb:b.length≤256) (na:a≠[]) (nb:b≠[]):∀(m i:Nat) (o:List Int),i+m=(a.length+1) / 2→o.length=a.length+b.length+2→(∀q,o.getD q 0=T (a.getD · 0) (b.getD · 0) q (2 * i)) →
  bL.l1 a b (gS b) (gS a) ((gS a).length:Int) i o=some [.sl .is (conv a b),.b true]:=by
 have pa:=List.length_pos_iff.2 na
 have pb:=List.length_pos_iff.2 nb
 intro m
 induction m with
 | zero =>
  intro i o hi ho hv
  refine bL.bV _ _ _ _ _ _ _ ?_
  intro v1 h1 v2 h2 v3 h3
  have e2:v2=a.length+b.length:=by rw [h2,i64_in _ (by omega)]
  have e3:v3=((a.length+b.length - 1:Nat):Int):=by rw [h3,e2,i64_in _ (by omega)];omega
  have e:o.take (a.length+b.length - 1)=conv a b:=by
   rw [Aw o (Cc a b) _ (by omega) (fun q=>by rw [hv q,zN a b q _ (by omega)])]
   unfold conv
   rw [au (by simp [na,nb])]
  rw [jy,ab (by omega),ae,e3,aj,bw (jm (by omega) (by omega) (by omega)),bw (dW (by rw [aF];omega) (by rw [aF];omega)),e]
 | succ m ih =>
  intro i o hi ho hv
  refine bL.bV _ _ _ _ _ _ _ ?_
  intro v1 h1 v2 h2 v3 h3
  have hp:=jy a
  rw [aj,pZ _ _ _ (by omega)] at h1
  obtain ⟨o',q1,q2,q3⟩:=bL.ju a b ha hb la lb i (by omega) ((b.length+1) / 2) 0 o (by omega) ho (fun q=>by rw [hv q,Nat.mul_zero,TG,Int.add_zero])
  rw [aa (by omega),ai,bw (bK (by omega) (by omega)),h1]
  exact Eq.trans q1 (ih (i+1) o' (by omega) q2 q3)
theorem bL.goal (a b:List Int) (hp:(decide (a.length≤256∧b.length≤256)&&(Gz.ie a&&Gz.ie b))=true):bL.F a b=some [.sl .is (Gz.conv a b),.b true]:=by
 simp only [ah,aA] at hp
 obtain ⟨⟨la,lb⟩,ha,hb⟩:=hp
 refine bL.bZ _ _ ?_
 intro v1 h1 v2 h2 v3 h3 v4 h4 v5 h5 v6 h6
 have e1:v1=false:=h1
 have ca:(decide (a.length≤256)&&Gz.ie a)=true:=by rw [ha,aa la];rfl
 have cb:(decide (b.length≤256)&&Gz.ie b)=true:=by rw [hb,aa lb];rfl
 simp only [aR,bm,Bool.not_not,aH,Bool.true_and,Bool.false_or,Bool.or_self,bQ,ca,cb,e1,ae]
 by_cases na:a=[]
 ·subst na
  have e2:v2=true:=h2
  rw [e2,ai];unfold conv;rw [aw (Or.inl rfl)];rfl
 ·by_cases nb:b=[]
  ·subst nb
   have e2:v2=true:=by
    rw [h2]
    cases decide ((a.length:Int)=0) <;> rfl
   rw [e2,ai];unfold conv;rw [aw (Or.inr rfl)];rfl
  ·have pa:=List.length_pos_iff.2 na
   have pb:=List.length_pos_iff.2 nb
   have e2:v2=false:=by rw [h2,ab (by omega),ae];exact ab (by omega)
   have e3:v3=a.length+b.length:=by rw [h3,i64_in _ (by omega)]
   have e4:v4=((a.length+b.length+2:Nat):Int):=by rw [h4,e3,i64_in _ (by omega)];omega
   rw [e4,aj] at h5
   rw [e2,ae,e4]
   refine Eq.trans (bw rfl) ?_
   rw [bw (jY.2 ⟨by omega,by omega,by omega,by rw [iR];omega⟩),h6]
   exact bL.cW a b ha hb la lb na nb ((a.length+1) / 2) 0 v5 (by omega) (by rw [h5,List.length_replicate]) (fun q=>by
    rw [h5]
    show _=(0:Int)
    rw [af,List.getElem?_replicate]
    split <;> rfl)
end Go.Eng
set_option maxRecDepth 20000
namespace Go.Eng
open Go.IntWalk
namespace Gz
def vL:List Int→Int
 | []=>0
 | x :: r=>x+65536 * vL r
def qq (h:Nat→Int):Nat→Int
 | 0=>0
 | n+1=>qq h n+h n * 65536 ^ n
theorem xV:∀(l:List Int) (x:Int),vL (l++[x])=vL l+x * 65536 ^ l.length
 | [],x=>by simp [vL]
 | y :: r,x=>by
  rw [List.cons_append,vL,xV r x,vL,ay,Int.pow_succ,Int.mul_add,←Int.mul_assoc x,Int.mul_comm 65536 (x * _),Int.add_assoc]
theorem qt (f:Nat→Int):∀n,vL ((List.range n).map f)=qq f n
 | 0=>rfl
 | n+1=>by rw [List.range_succ,List.map_append,List.map_singleton,xV,qt f n,bf,List.length_range];rfl
theorem Ep (l:List Int):vL l=qq (l.getD · 0) l.length:=by
 rw [←qt,←Aw l _ l.length (Nat.le_refl _) (fun _=>rfl),List.take_length]
theorem qp {f g:Nat→Int}:∀n,(∀i,i<n→f i=g i)→qq f n=qq g n
 | 0,_=>rfl
 | n+1,h=>by rw [qq,qq,qp n (fun i hi=>h i (by omega)),h n (by omega)]
theorem AP (f g:Nat→Int):∀n,qq (fun i=>f i+g i) n=qq f n+qq g n
 | 0=>rfl
 | n+1=>by
  simp only [qq]
  rw [AP f g n,Int.add_mul];omega
theorem sV:∀n,qq (fun _=>0) n=0
 | 0=>rfl
 | n+1=>by
  simp only [qq]
  rw [sV n,Int.zero_mul];rfl
theorem AO {g:Nat→Int} {n:Nat} (h:∀i,n≤i→g i=0):∀k,qq g (n+k)=qq g n
 | 0=>rfl
 | k+1=>by rw [←Nat.add_assoc,qq,AO h k,h _ (by omega),Int.zero_mul,Int.add_zero]
theorem uI (c:Int) (g:Nat→Int) (n:Nat):∀k,qq (fun m=>if n≤m then c * g (m - n) else 0) (n+k)=c * 65536 ^ n * qq g k
 | 0=>by
  rw [Nat.add_zero,qp (g:=fun _=>0) n (fun i hi=>au (by omega)),sV,qq,Int.mul_zero]
 | k+1=>by
  rw [←Nat.add_assoc,qq,uI c g n k,qq]
  rw [aw (by omega),show n+k - n=k by omega,Int.mul_add,Int.pow_add,Int.mul_assoc c (g k),Int.mul_assoc c (65536 ^ n) (g k * 65536 ^ k),←Int.mul_assoc (g k),Int.mul_comm (g k) (65536 ^ n),Int.mul_assoc (65536 ^ n) (g k)]
theorem HV {f g:Nat→Int} {L:Nat} (hg:∀i,L≤i→g i=0) (N:Nat):∀n,n+L≤N+1→n≤N→qq (fun m=>T f g m n) N=qq f n * qq g L
 | 0,_,_=>by
  rw [qq,Int.zero_mul];exact sV N
 | n+1,h,h2=>by
  have e:=uI (f n) g n (N - n)
  rw [show n+(N - n)=N by omega] at e
  have e2:qq g (N - n)=qq g L:=by
   rw [show N - n=L+(N - n - L) by omega];exact AO hg _
  have:=AP (fun m=>T f g m n) (fun m=>if n≤m then f n * g (m - n) else 0) N
  rw [e,e2,HV hg N n (by omega) (by omega),←Int.add_mul] at this
  exact this
theorem Er (a b:List Int):vL (conv a b)=vL a * vL b:=by
 by_cases na:a=[]
 ·subst na;unfold conv;rw [aw (Or.inl rfl)];simp [vL]
 ·by_cases nb:b=[]
  ·subst nb;unfold conv;rw [aw (Or.inr rfl)];simp [vL]
  ·have pa:=List.length_pos_iff.2 na
   have pb:=List.length_pos_iff.2 nb
   unfold conv
   rw [au (by simp [na,nb]),qt,Ep a,Ep b]
   rw [qp (g:=fun m=>T (a.getD · 0) (b.getD · 0) m a.length) _ (fun i _=>(zN a b i _ (Nat.le_refl _)).symm)]
   exact HV (fun i hi=>by
    show b.getD i 0=0
    rw [af,List.getElem?_eq_none (by omega)];rfl) _ _ (by omega) (by omega)
theorem vK:∀a:List UInt16,vL (a.map fun d=>(d.toNat:Int))=(Nt.val a:Int)
 | []=>rfl
 | d :: r=>by rw [aX,vL,vK r,Nt.val];omega
theorem q5 (a b:List Int):(conv a b).length=if a=[]∨b=[] then 0 else a.length+b.length - 1:=by
 unfold conv
 split
 ·rfl
 ·rw [bf,List.length_range]
theorem EI (a b:List Int) (ha:ie a=true) (hb:ie b=true) (la:a.length≤256) (i:Nat):0≤(conv a b).getD i 0∧(conv a b).getD i 0≤1099478073600:=by
 by_cases h:i<(conv a b).length
 ·have hl:=q5 a b
  by_cases c:a=[]∨b=[]
  ·rw [hl,aw c] at h;omega
  ·have e:(conv a b).getD i 0=Cc a b i:=by
    rw [af,aq h]
    unfold conv
    simp only [au c,List.getElem_map,List.getElem_range,Option.getD_some]
   rw [e,←zN a b i _ (Nat.le_refl _)]
   have:=Ku (f:=(a.getD · 0)) (g:=(b.getD · 0)) (rF ha) (rF hb) i a.length
   omega
 ·rw [af,List.getElem?_eq_none (by omega)];exact ⟨by decide,by decide⟩
end Gz
open Gz
theorem wu (acc:List UInt16) (c:Nat):Nt.val (acc++[UInt16.ofNat c])+65536 ^ (acc.length+1) * (c / 65536)=Nt.val acc+65536 ^ acc.length * c:=by
 rw [Nt.fJ]
 simp only [Nt.val,Nat.mul_zero,Nat.add_zero,Nt.dz]
 rw [Nat.pow_succ,Nat.mul_assoc,Nat.add_assoc,←Nat.mul_add,Nat.mod_add_div]
theorem dp.ju (R:Nat):∀(k:Nat) (acc:List UInt16) (c:Nat),c<65536 ^ k→acc.length+k≤10000→Nt.val acc+65536 ^ acc.length * c=R→dp.l2 acc c=some [.sl .ws (Nt.of R)]:=by
 intro k
 induction k with
 | zero =>
  intro acc c hc hl hv
  obtain rfl:c=0:=by simpa using hc
  refine dp.iw _ _ ?_
  intro v1 h1 v2 h2
  rw [ab (by omega),ae,bw (aa (by omega)),←hv,Nat.mul_zero,Nat.add_zero]
 | succ k ih =>
  intro acc c hc hl hv
  refine dp.iw _ _ ?_
  intro v1 h1 v2 h2
  by_cases c0:c=0
  ·subst c0
   rw [ab (by omega),ae,bw (aa (by omega)),←hv,Nat.mul_zero,Nat.add_zero]
  ·rw [mT] at h1
   rw [vJ] at h2
   rw [aa (by omega),ai,h1,h2,bw (dW (by rw [az];omega) (by rw [az];omega))]
   exact ih _ _ (by rw [Nat.pow_succ] at hc;exact Nat.div_lt_of_lt_mul (by rw [Nat.mul_comm];exact hc)) (by rw [ao,az];omega) (by
    rw [ao,az,wu];exact hv)
theorem dp.cW (l:List Int) (hl:l.length≤600) (hb:∀i,0≤l.getD i 0∧l.getD i 0≤1099478073600) (R:Nat):∀(m i:Nat) (acc:List UInt16) (c:Nat),i+m=l.length→acc.length=i→c≤1099511627776→((Nt.val acc:Nat):Int)+65536 ^ i * (c+vL (l.drop i))=R→dp.l1 acc c l l.length i=some [.sl .ws (Nt.of R)]:=by
 intro m
 induction m with
 | zero =>
  intro i acc c hi ha hc hv
  refine dp.bV _ _ _ _ _ ?_
  intro v1 h1 v2 h2 v3 h3 v4 h4
  rw [aE (by omega),vL,Int.add_zero] at hv
  rw [ab (by omega),ae]
  refine dp.ju R 3 acc c (by omega) (by omega) ?_
  rw [ha]
  have e:((65536 ^ i * c:Nat):Int)=65536 ^ i * (c:Int):=by rw [Int.natCast_mul,Int.natCast_pow];rfl
  omega
 | succ m ih =>
  intro i acc c hi ha hc hv
  refine dp.bV _ _ _ _ _ ?_
  intro v1 h1 v2 h2 v3 h3 v4 h4
  rw [aj] at h1
  have hx:=hb i
  rw [←h1] at hx
  obtain ⟨x,rfl⟩:=Int.eq_ofNat_of_zero_le hx.1
  have e0:IntKind.i64.wrap ((c:Int)+(x:Int))=((c+x:Nat):Int):=by rw [i64_in _ (by omega)];omega
  rw [e0] at h2 h3
  rw [mT] at h2
  rw [vJ] at h3
  have e4:v4=((i+1:Nat):Int):=by rw [h4,i64_in _ (by omega)];omega
  rw [aa (by omega),ai,bw (bK (by omega) (by omega)),bw (dW (by rw [az];omega) (by rw [az];omega)),h2,h3,e4]
  refine ih (i+1) _ _ (by omega) (by rw [ao,az];omega) (by omega) ?_
  rw [drop_cons (show i<l.length by omega) 0,vL,←h1] at hv
  have hm:=wu acc (c+x)
  rw [ha] at hm
  have LQ:((Nt.val (acc++[UInt16.ofNat (c+x)]):Nat):Int)+65536 ^ (i+1) * (((c+x) / 65536:Nat):Int)=(Nt.val acc:Int)+65536 ^ i * ((c+x:Nat):Int):=by
   have:=congrArg (Nat.cast:Nat→Int) hm
   rw [Int.natCast_add,Int.natCast_add,Int.natCast_mul,Int.natCast_mul,Int.natCast_pow,Int.natCast_pow] at this
   exact this
  generalize vL (l.drop (i+1))=E at *
  rw [Int.mul_add,←Int.add_assoc,LQ,←hv,Int.pow_succ,Int.mul_assoc,Int.add_assoc,←Int.mul_add]
  congr 2
  omega
theorem dp.goal (a b:List UInt16) (hp:(Nt.is a&&Nt.is b)=true):dp.F a b=some [.sl .ws (Nt.of (Nt.val a * Nt.val b))]:=by
 simp only [ah] at hp
 obtain ⟨ha,hb⟩:=hp
 have la:=Nt.iY ha
 have lb:=Nt.iY hb
 have hd:∀a:List UInt16,Gz.ie (a.map fun d=>(d.toNat:Int))=true:=fun a=>by
  unfold Gz.ie
  rw [aC]
  intro x hx
  obtain ⟨d,_,rfl⟩:=bg.1 hx
  have:=d.toNat_lt
  exact aa (by omega)
 refine dp.bZ _ _ ?_
 intro v1 h1 v2 h2 v3 h3 v4 h4
 have e1:v1=false:=by rw [h1,ha,hb];rfl
 have l2:v2.length=a.length:=by rw [h2,bf]
 have l3:v3.length=b.length:=by rw [h3,bf]
 have d2:Gz.ie v2=true:=by rw [h2];exact hd a
 have d3:Gz.ie v3=true:=by rw [h3];exact hd b
 have c1:(decide (v2.length≤256∧v3.length≤256)&&(Gz.ie v2&&Gz.ie v3))=true:=by rw [d2,d3,aa ⟨by omega,by omega⟩];rfl
 rw [e1,ha,h4,bw c1,aa (show a.length≤1099511627776 by omega),aa (show b.length≤1099511627776 by omega),aa (show a.length≤256 by omega),aa (show b.length≤256 by omega)]
 refine Eq.trans (b:=dp.l1 [] 0 (Gz.conv v2 v3) (Gz.conv v2 v3).length 0) rfl ?_
 have hl:(Gz.conv v2 v3).length≤600:=by
  rw [Gz.q5]
  split <;> omega
 refine dp.cW _ hl (Gz.EI _ _ d2 d3 (by omega)) _ (Gz.conv v2 v3).length 0 [] 0 (by omega) rfl (by omega) ?_
 rw [bh,Gz.Er,h2,h3,Gz.vK,Gz.vK,Int.natCast_mul]
 simp [Nt.val]
end Go.Eng
set_option maxRecDepth 20000
namespace Go.Eng
open Go.IntWalk
namespace Nr
theorem rk {a:Nat} (h:0<a) (e:Int):0<iU a e:=Nat.mul_pos h (Nat.two_pow_pos _)
def pt (Q F:Nat):Nat:=if Q<4503599627370496 then Q else (F+1) * 4503599627370496+(Q - 4503599627370496)
theorem Hs {Q F:Nat} (h:4503599627370496≤Q∨F=0) (h2:Q<9007199254740992):mG (pt Q F)=Q∧sh (pt Q F)=F:=by
 unfold pt
 split
 ·rename_i c
  obtain rfl:F=0:=by omega
  unfold mG sh
  rw [aw c,show Q / 4503599627370496=0 by omega];exact ⟨rfl,rfl⟩
 ·rename_i c
  exact Fg (by omega) h2
theorem IJ (Q F:Nat):pt Q F % 2=Q % 2:=by
 unfold pt
 split <;> omega
theorem Fe {a b Q:Nat} {E:Int} {F:Nat} (hb:0<b) (hE:E+1074=F) (hQ:Q=jb a E / iU b E) (h:4503599627370496≤Q∨F=0) (h2:Q<9007199254740992) :
  (V (pt Q F) * b≤a * 2 ^ 1074∧a * 2 ^ 1074<V (pt Q F+1) * b)∧(fZ a b (pt Q F) ↔ (iU b E<2 * (jb a E % iU b E)∨(iU b E=2 * (jb a E % iU b E)∧Q % 2=1))):=by
 obtain ⟨m1,m2⟩:=Hs h h2
 have hB:=rk hb E
 have JC:=Nat.div_add_mod (jb a E) (iU b E)
 have hr:=Nat.mod_lt (jb a E) hB
 rw [←hQ] at JC
 generalize hR:jb a E % iU b E=R at *
 have JF:V (pt Q F)=Q * 2 ^ F:=by unfold V;rw [m1,m2]
 have KO:V (pt Q F+1)=(Q+1) * 2 ^ F:=by rw [vX,m1,m2]
 -- both PX times 2^(-E)
 have k1:∀n:Nat,n * 2 ^ F * b * 2 ^ (-E).toNat=n * iU b E * 2 ^ 1074:=fun n=>by
  unfold iU
  exact Dq (wQ (a:=F) (b:=(-E).toNat) (c:=E.toNat) (d:=1074) (by omega))
 have k2:a * 2 ^ 1074 * 2 ^ (-E).toNat=jb a E * 2 ^ 1074:=by unfold jb;rw [Nat.mul_right_comm]
 have hp:=Nat.two_pow_pos (-E).toNat
 have Fu:=Nat.two_pow_pos 1074
 refine ⟨⟨?_,?_⟩,?_⟩
 ·refine Nat.le_of_mul_le_mul_right ?_ hp
  rw [JF,k1,k2]
  refine ak _ ?_
  rw [Nat.mul_comm];omega
 ·refine Nat.lt_of_mul_lt_mul_right (a:=2 ^ (-E).toNat) ?_
  rw [KO,k1,k2]
  refine Nat.mul_lt_mul_of_pos_right ?_ Fu
  rw [Nat.add_mul,Nat.mul_comm Q];omega
 ·unfold fZ
  rw [kH,JF,KO,IJ,←Nat.add_mul]
  have e:a * ig * 2 ^ (-E).toNat=2 * jb a E * 2 ^ 1074:=by
   rw [mul_two (a:=a) jJ,Nat.mul_assoc 2,k2,←Nat.mul_assoc]
  have k3:=k1 (Q+(Q+1))
  have g1:((Q+(Q+1)) * 2 ^ F * b<a * ig) ↔ (Q+(Q+1)) * iU b E<2 * jb a E:=by
   constructor
   ·intro h
    have:=Nat.mul_lt_mul_of_pos_right h hp
    rw [k3,e] at this
    exact Nat.lt_of_mul_lt_mul_right this
   ·intro h
    refine Nat.lt_of_mul_lt_mul_right (a:=2 ^ (-E).toNat) ?_
    rw [k3,e]
    exact Nat.mul_lt_mul_of_pos_right h Fu
  have g2:((Q+(Q+1)) * 2 ^ F * b=a * ig) ↔ (Q+(Q+1)) * iU b E=2 * jb a E:=by
   constructor
   ·intro h
    have this:(Q+(Q+1)) * 2 ^ F * b * 2 ^ (-E).toNat=a * ig * 2 ^ (-E).toNat:=by rw [h]
    rw [k3,e] at this
    exact Nat.eq_of_mul_eq_mul_right Fu this
   ·intro h
    refine Nat.eq_of_mul_eq_mul_right hp ?_
    rw [k3,e,h]
  rw [g1,g2,Nat.add_mul,Nat.add_mul,Nat.one_mul]
  have hc:Q * iU b E=iU b E * Q:=Nat.mul_comm _ _
  omega
theorem pS (A B:Nat):(tp A B=A / B+1∧(B<2 * (A % B)∨(B=2 * (A % B)∧A / B % 2=1)))∨(tp A B=A / B∧¬(B<2 * (A % B)∨(B=2 * (A % B)∧A / B % 2=1))):=by
 unfold tp
 split
 ·rename_i h;exact .inl ⟨rfl,h⟩
 ·rename_i h;exact .inr ⟨rfl,h⟩
theorem um {a b:Nat} {E:Int} (hb:0<b) (hE : -1074≤E) (h:4503599627370496≤jb a E / iU b E∨E=-1074) (h2:jb a E / iU b E<9007199254740992):gZ a b=join false (tp (jb a E) (iU b E)) E:=by
 classical
 obtain ⟨F,hF⟩:=Int.eq_ofNat_of_zero_le (show 0≤E+1074 by omega)
 generalize hQ:jb a E / iU b E=Q at *
 have QF:4503599627370496≤Q∨F=0:=by omega
 obtain ⟨⟨a1,a2⟩,a3⟩:=Fe hb hF hQ.symm QF h2
 obtain ⟨m1,m2⟩:=Hs QF h2
 have JF:V (pt Q F)=Q * 2 ^ F:=by unfold V;rw [m1,m2]
 have KO:V (pt Q F+1)=(Q+1) * 2 ^ F:=by rw [vX,m1,m2]
 have ex:(-(E+1074)).toNat=0:=by omega
 have ey:(E+1074).toNat=F:=by omega
 have hj:∀p M,V p=M * 2 ^ F→join false M E=if p≤top then some p else none:=fun p M hv=>by
  split
  ·rename_i ht
   exact join_some false ht (by rw [ex,ey,Nat.pow_zero,Nat.mul_one,hv])
  ·rename_i ht
   refine join_none false fun q hq e=>ht ?_
   rw [ex,ey,Nat.pow_zero,Nat.mul_one,←hv] at e
   exact Ic e ▸ hq
 have hr:=pS (jb a E) (iU b E)
 rw [hQ] at hr
 by_cases hp:pt Q F≤top
 ·rw [Gg hb a1 a2 hp]
  rcases hr with ⟨r1,r2⟩ | ⟨r1,r2⟩
  ·rw [aw (a3.2 r2),r1,hj _ _ KO]
  ·rw [au (fun h=>r2 (a3.1 h)),r1,hj _ _ JF,aw hp]
 ·rw [Dp hb a1 (by omega)]
  rcases hr with ⟨r1,r2⟩ | ⟨r1,r2⟩
  ·rw [r1,hj _ _ KO,au (by omega)]
  ·rw [r1,hj _ _ JF,au hp]
end Nr
theorem nP (a b:Nat):(Nt.cmp a b=-1∧a<b)∨(Nt.cmp a b=0∧a=b)∨(Nt.cmp a b=1∧b<a):=by
 unfold Nt.cmp
 by_cases c:a<b
 ·rw [aw c];exact .inl ⟨rfl,c⟩
 ·rw [au c]
  by_cases d:a=b
  ·rw [aw d];exact .inr (.inl ⟨rfl,d⟩)
  ·rw [au d];exact .inr (.inr ⟨rfl,by omega⟩)
theorem F9 {n:Nat} (h:n<2 ^ 64):(Nt.of n).length≤4:=(Nt.js n 4).2 (by rw [show (65536:Nat) ^ 4=2 ^ 64 by decide];exact h)
theorem cr.gM (A B:Nat) (hB:0<B) (hA:A<2 ^ 4090) (Pq:B<2 ^ 4090) (JI:A<2 ^ 60 * B):cr.j1 (Nt.of A) (Nt.of B)=some [.u64 (UInt64.ofNat (Nr.tp A B)),.b (Nr.lg A B)]:=by
 have UO:(2:Nat) ^ (6+4090)=64 * 2 ^ 4090:=Nr.II 4090
 refine cr.iI _ _ ?_
 intro v1 h1 v2 h2 v3 h3 v4 h4 v5 h5 v6 h6 v7 h7 v8 h8 v9 h9
 rw [Nt.eu,Nt.eu] at h1 h2
 have hr:=Nat.mod_lt A hB
 have hq:A / B<2 ^ 60:=(Nat.div_lt_iff_lt_mul hB).2 JI
 have e1:Nt.val v1=A / B:=by rw [h1,Nt.eu]
 have e2:Nt.val v2=A % B:=by rw [h2,Nt.eu]
 have e3:Nt.val v3=2 * (A % B):=by rw [h3,Nt.eu,e2];exact Nat.mul_comm ..
 rw [e3,Nt.eu] at h4
 have i1:Nt.is (Nt.of A)=true:=Nt.oe (by omega)
 have i2:Nt.is (Nt.of B)=true:=Nt.oe (by omega)
 have i3:Nt.is v1=true:=by rw [h1];exact Nt.oe (by omega)
 have i4:Nt.is v2=true:=by rw [h2];exact Nt.oe (by omega)
 have i5:Nt.is v3=true:=by rw [h3];exact Nt.oe (by rw [e2];show A % B * 2 ^ 1<_;omega)
 have nb:Nt.of B≠[]:=by rw [Nt.kG hB];simp
 have l4:v1.length≤4:=by rw [h1];exact F9 (Nat.lt_of_lt_of_le hq (Nat.pow_le_pow_right (by omega) (by omega)))
 rw [i1,i2,i3,i4,i5,aa nb]
 refine (bw (by rfl)).trans ?_
 rw [bw (aa ⟨rfl,l4⟩)]
 refine (bw (by rfl)).trans ?_
 refine (bw (by rfl)).trans ?_
 rw [e1] at h6 h9 ⊢
 have S6:(2:Nat) ^ 60=1152921504606846976:=by decide
 have e6:decide (v6=1)=decide (A / B % 2=1):=by
  have e6:v6.toNat=A / B % 2:=by
   rw [h6,UInt64.toNat_mod,fc]
   show A / B % 18446744073709551616 % 2=_
   omega
  by_cases c:A / B % 2=1
  ·rw [aa c,aa (fI (by rw [e6,c];rfl))]
  ·rw [ab c,ab (fun h=>c (by rw [←e6,h];rfl))]
 have e9:v9=UInt64.ofNat (A / B+1):=fI (by
  rw [h9,UInt64.toNat_add,fc,fc]
  show (A / B % 18446744073709551616+1) % 18446744073709551616=_
  omega)
 have QZ:decide (v9=9007199254740992)=decide (A / B+1=9007199254740992):=by
  by_cases c:A / B+1=9007199254740992
  ·rw [aa c,e9,c];rfl
  ·rw [ab c,ab (fun h=>c (by
    have:=congrArg UInt64.toNat h
    rw [e9,fc] at this
    have e0:(9007199254740992:UInt64).toNat=9007199254740992:=rfl
    omega))]
 rw [e6] at h7
 rcases nP (2 * (A % B)) B with ⟨q1,q2⟩ | ⟨q1,q2⟩ | ⟨q1,q2⟩
 ·rw [q1] at h4
  subst h4
  have e7:v7=false:=h7
  have e8:v8=false:=by rw [h8,e7];rfl
  have e5:v5=false:=h5
  have hn:Nr.tp A B=A / B:=by unfold Nr.tp;rw [au (by omega)]
  have hu:Nr.lg A B=false:=by unfold Nr.lg;rw [hn];exact ab (by omega)
  rw [e8,e5,hn,hu];rfl
 ·rw [q1] at h4
  subst h4
  have e7:v7=decide (A / B % 2=1):=h7
  have e8:v8=decide (A / B % 2=1):=by rw [h8,e7];rfl
  have e5:v5=true:=h5
  rw [e8,e5]
  refine Eq.trans (b:=cond (decide (A / B % 2=1)) (some [.u64 v9,.b (decide (v9=9007199254740992))]) (some [.u64 (UInt64.ofNat (A / B)),.b false])) rfl ?_
  by_cases c:A / B % 2=1
  ·have hn:Nr.tp A B=A / B+1:=by unfold Nr.tp;rw [aw (.inr ⟨q2.symm,c⟩)]
   have hu:Nr.lg A B=decide (A / B+1=9007199254740992):=by
    unfold Nr.lg;rw [hn]
    by_cases d:A / B+1=9007199254740992
    ·rw [aa d,aa ⟨rfl,d⟩]
    ·rw [ab d,ab (fun h=>d h.2)]
   rw [aa c,ai,QZ,e9,hn,hu]
  ·have hn:Nr.tp A B=A / B:=by unfold Nr.tp;rw [au (by omega)]
   have hu:Nr.lg A B=false:=by unfold Nr.lg;rw [hn];exact ab (by omega)
   rw [ab c,ae,hn,hu]
 ·rw [q1] at h4
  subst h4
  have e7:v7=false:=h7
  have e8:v8=true:=by rw [h8];rfl
  have e5:v5=false:=h5
  have hn:Nr.tp A B=A / B+1:=by unfold Nr.tp;rw [aw (.inl q2)]
  have hu:Nr.lg A B=decide (A / B+1=9007199254740992):=by
   unfold Nr.lg;rw [hn]
   by_cases d:A / B+1=9007199254740992
   ·rw [aa d,aa ⟨rfl,d⟩]
   ·rw [ab d,ab (fun h=>d h.2)]
  rw [e8,e5]
  refine Eq.trans (b:=some [.u64 v9,.b (decide (v9=9007199254740992))]) rfl ?_
  rw [QZ,e9,hn,hu]
theorem cr.goal (a b:List UInt16) (e:Int) (hp:(Nt.is a&&Nt.is b&&decide (-4096≤e∧e≤4096∧0<Nt.val b∧Nr.jb (Nt.val a) e<2 ^ 4090∧Nr.iU (Nt.val b) e<2 ^ 4090∧Nr.jb (Nt.val a) e<2 ^ 60 * Nr.iU (Nt.val b) e))=true) :
  cr.F a b e=some [.u64 (UInt64.ofNat (Nr.tp (Nr.jb (Nt.val a) e) (Nr.iU (Nt.val b) e))),.b (Nr.lg (Nr.jb (Nt.val a) e) (Nr.iU (Nt.val b) e))]:=by
 simp only [ah,aA] at hp
 obtain ⟨⟨ha,hb⟩,p1,p2,p3,p4,p5,p6⟩:=hp
 have key:=cr.gM (Nr.jb (Nt.val a) e) (Nr.iU (Nt.val b) e) (Nr.rk p3 e) p4 p5 p6
 refine cr.bZ _ _ _ ?_
 intro v1 h1 v2 h2
 by_cases c:e<0
 ·have ew:IntKind.i64.wrap (0 - e)=-e:=by rw [i64_in _ (by omega)];omega
  rw [ew] at h1
  have eB:Nr.iU (Nt.val b) e=Nt.val b:=by unfold Nr.iU;rw [show e.toNat=0 by omega,Nat.pow_zero,Nat.mul_one]
  rw [aa c,ai,ew,ha,aa (show 0≤-e∧-e≤4096 by omega)]
  refine (bw (by rfl)).trans ?_
  rw [h1,←Nt.dr (Nt.iS hb)]
  rw [eB] at key
  rw [Nt.eu,eB]
  exact key
 ·have eA:Nr.jb (Nt.val a) e=Nt.val a:=by unfold Nr.jb;rw [show (-e).toNat=0 by omega,Nat.pow_zero,Nat.mul_one]
  rw [ab c,ae,hb,aa (show 0≤e∧e≤4096 by omega)]
  refine (bw (by rfl)).trans ?_
  rw [h2,←Nt.dr (Nt.iS ha)]
  rw [eA] at key
  rw [Nt.eu,eA]
  exact key
end Go.Eng
set_option maxRecDepth 20000
namespace Go.Eng
open Go.IntWalk
namespace Nr
theorem CZ {a b i j t:Nat} {E:Int} (ha:a<2 ^ i) (hb:2 ^ (j - 1)≤b) (hj:0<j) (h:(i:Int) - j+1 - E≤t):jb a E<2 ^ t * iU b E:=by
 unfold jb iU
 have h1:a * 2 ^ (-E).toNat<2 ^ (i+(-E).toNat):=by rw [Nat.pow_add];exact Nat.mul_lt_mul_of_pos_right ha (Nat.two_pow_pos _)
 have h2:2 ^ (t+(j - 1)+E.toNat)≤2 ^ t * (b * 2 ^ E.toNat):=by
  rw [Nat.pow_add,Nat.pow_add,Nat.mul_assoc];exact Nat.mul_le_mul_left _ (ak _ hb)
 have h3:2 ^ (i+(-E).toNat)≤2 ^ (t+(j - 1)+E.toNat):=Nat.pow_le_pow_right (by omega) (by omega)
 exact Nat.lt_of_lt_of_le h1 (Nat.le_trans h3 h2)
theorem Lk {a b i j t:Nat} {E:Int} (ha:2 ^ (i - 1)≤a) (hi:0<i) (hb:b<2 ^ j) (h:(t:Int)≤(i:Int) - 1 - j - E):2 ^ t * iU b E≤jb a E:=by
 unfold jb iU
 have h1:2 ^ (i - 1+(-E).toNat)≤a * 2 ^ (-E).toNat:=by rw [Nat.pow_add];exact ak _ ha
 have h2:2 ^ t * (b * 2 ^ E.toNat)≤2 ^ (t+j+E.toNat):=by
  rw [Nat.pow_add,Nat.pow_add,Nat.mul_assoc];exact Nat.mul_le_mul_left _ (ak _ (Nat.le_of_lt hb))
 have h3:2 ^ (t+j+E.toNat)≤2 ^ (i - 1+(-E).toNat):=Nat.pow_le_pow_right (by omega) (by omega)
 exact Nat.le_trans h2 (Nat.le_trans h3 h1)
theorem F0 (a b:Nat) (E:Int):(jb a (E+1)=jb a E∧iU b (E+1)=2 * iU b E)∨(jb a E=2 * jb a (E+1)∧iU b (E+1)=iU b E):=by
 unfold jb iU
 by_cases c:0≤E
 ·left
  rw [show (-(E+1)).toNat=0 by omega,show (-E).toNat=0 by omega,show (E+1).toNat=E.toNat+1 by omega,Nat.pow_succ,←Nat.mul_assoc,Nat.mul_comm _ 2]
  exact ⟨rfl,rfl⟩
 ·right
  rw [show (-E).toNat=(-(E+1)).toNat+1 by omega,show (E+1).toNat=0 by omega,show E.toNat=0 by omega,Nat.pow_succ,←Nat.mul_assoc,Nat.mul_comm _ 2]
  exact ⟨rfl,rfl⟩
end Nr
theorem jq {a i k:Nat} (h:a<2 ^ i) (hk:i≤k):a<2 ^ k:=Nat.lt_of_lt_of_le h (Nat.pow_le_pow_right (by omega) hk)
theorem sq {a i j k:Nat} (h:a<2 ^ i) (hk:i+j≤k):a * 2 ^ j<2 ^ k:=by
 refine jq (i:=i+j) ?_ hk
 rw [Nat.pow_add];exact Nat.mul_lt_mul_of_pos_right h (Nat.two_pow_pos _)
theorem de.gM (E : Int) (M : Nat) (hM : M < 2 ^ 64) (hE : -1074 ≤ E ∧ E ≤ 2000) (a b : Nat) (h : Nr.gZ a b = Nr.join false M E) : de.j1 E (UInt64.ofNat M) = some [.u64 (Nr.pat (Nr.gZ a b)), .b (Nr.gZ a b).isSome] := by
  refine de.iI _ _ ?_
  intro v1 h1 v2 h2
  have e : (UInt64.ofNat M).toNat = M := by rw [fc]; have : (2 : Nat) ^ 64 = 18446744073709551616 := by decide
                                            omega
  rw [e, ← h] at h1 h2
  rw [bw (aa (by omega)), h1, h2]
theorem de.goal (a b:List UInt16) (hp:(Nt.is a&&Nt.is b&&decide (0<Nt.val a∧0<Nt.val b∧Nt.val a<2 ^ 1100∧Nt.val b<2 ^ 2200))=true):de.F a b=some [.u64 (Nr.pat (Nr.gZ (Nt.val a) (Nt.val b))),.b (Nr.gZ (Nt.val a) (Nt.val b)).isSome]:=by
 simp only [ah,aA] at hp
 obtain ⟨⟨ha,hb⟩,p1,p2,p3,p4⟩:=hp
 refine de.bZ _ _ ?_
 intro v1 h1 v2 h2 v3 h3 v4 h4 v5 h5 v6 h6 v7 h7 v8 h8
 obtain ⟨i1,i2,i3⟩:=Nt.iO p1
 obtain ⟨j1,j2,j3⟩:=Nt.iO p2
 have i4:=Nt.jT p3
 have j4:=Nt.jT p4
 generalize Nt.bits (Nt.val a)=i at *
 generalize Nt.bits (Nt.val b)=j at *
 generalize Nt.val a=A at *
 generalize Nt.val b=B at *
 have e1:v1=(i:Int) - j:=by rw [h1,i64_in _ (by omega)]
 have e2:v2=(i:Int) - j - 53:=by rw [h2,e1,i64_in _ (by omega)]
 have em:mL v2 (-1074)=max ((i:Int) - j - 53) (-1074):=by rw [e2];unfold mL;split <;> omega
 rw [em] at h3 h4 h6 ⊢
 generalize hE:max ((i:Int) - j - 53) (-1074)=E at *
 have U4 : -1074≤E∧E≤1046:=by omega
 have e6:v6=E+1:=by rw [h6,i64_in _ (by omega)]
 rw [e6] at h7 h8
 have QQ:∀E:Int,-1074≤E→E≤1047→Nr.jb A E<2 ^ 4090∧Nr.iU B E<2 ^ 4090:=fun E h1 h2=>by
  unfold Nr.jb Nr.iU
  constructor
  ·exact sq (k:=4090) i2 (by omega)
  ·exact sq (k:=4090) j2 (by omega)
 obtain ⟨a1,a2⟩:=QQ E (by omega) (by omega)
 obtain ⟨a3,a4⟩:=QQ (E+1) (by omega) (by omega)
 have t54:Nr.jb A E<2 ^ 54 * Nr.iU B E:=Nr.CZ i2 j1 j3 (by omega)
 have t60:Nr.jb A E<2 ^ 60 * Nr.iU B E:=Nr.CZ i2 j1 j3 (by omega)
 have Oa:Nr.jb A (E+1)<2 ^ 60 * Nr.iU B (E+1):=Nr.CZ i2 j1 j3 (by omega)
 have hB:=Nr.rk p2 E
 have QO:=Nr.rk p2 (E+1)
 have hn:=Nr.F0 A B E
 have Uy:Nr.jb A E / Nr.iU B E<2 ^ 54:=(Nat.div_lt_iff_lt_mul hB).2 t54
 have Pc:(2:Nat) ^ 54=18014398509481984:=by decide
 have S4:(2:Nat) ^ 64=18446744073709551616:=by decide
 rw [ha,hb,bw rfl,bw rfl,e6,aa (show -4096≤E∧E≤4096∧0<B∧Nr.jb A E<2 ^ 4090∧Nr.iU B E<2 ^ 4090∧Nr.jb A E<2 ^ 60 * Nr.iU B E from ⟨by omega,by omega,p2,a1,a2,t60⟩),aa (show -4096≤E+1∧E+1≤4096∧0<B∧Nr.jb A (E+1)<2 ^ 4090∧Nr.iU B (E+1)<2 ^ 4090∧Nr.jb A (E+1)<2 ^ 60 * Nr.iU B (E+1) from ⟨by omega,by omega,p2,a3,a4,Oa⟩)]
 refine (bw (by rfl)).trans ?_
 have nX:∀b:Bool,(!b || b)=true:=by decide
 rw [bw (nX _),bw (nX _)]
 have hr:=Nr.pS (Nr.jb A E) (Nr.iU B E)
 have Sr:Nr.lg (Nr.jb A E) (Nr.iU B E)=decide (Nr.tp (Nr.jb A E) (Nr.iU B E)=Nr.jb A E / Nr.iU B E+1∧Nr.tp (Nr.jb A E) (Nr.iU B E)=9007199254740992):=rfl
 rw [Sr] at h4
 generalize hQ:Nr.jb A E / Nr.iU B E=Q at *
 generalize hM:Nr.tp (Nr.jb A E) (Nr.iU B E)=M at *
 have e3:decide ((9007199254740992:UInt64)≤v3)=decide (9007199254740992≤M):=by
  have ev:v3.toNat=M:=by rw [h3,fc];omega
  by_cases c:9007199254740992≤M
  ·rw [aa c,aa (aI.2 (by rw [ev];exact c))]
  ·rw [ab c,ab (fun h=>c (by have:=aI.1 h;rw [ev] at this;exact this))]
 have e5:v5=decide (9007199254740992≤M∧¬(M=Q+1∧M=9007199254740992)):=by
  rw [h5,e3,h4]
  by_cases c:9007199254740992≤M
  ·rw [aa c,ai]
   by_cases d:M=Q+1∧M=9007199254740992
   ·rw [aa d,ab (fun h=>h.2 d)];rfl
   ·rw [ab d,aa ⟨c,d⟩];rfl
  ·rw [ab c,ae,ab (fun h=>c h.1)]
 by_cases c:9007199254740992≤M∧¬(M=Q+1∧M=9007199254740992)
 ·have Pl:9007199254740992≤Q:=by omega
  rw [e5,aa c,ai]
  refine (bw (by rfl)).trans ?_
  have g1:9007199254740992 * Nr.iU B E≤Nr.jb A E:=(Nat.le_div_iff_mul_le hB).1 (by rw [hQ];exact Pl)
  have g2:4503599627370496≤Nr.jb A (E+1) / Nr.iU B (E+1):=(Nat.le_div_iff_mul_le QO).2 (by rcases hn with ⟨n1,n2⟩ | ⟨n1,n2⟩ <;> rw [n2] <;> omega)
  have g3:Nr.jb A (E+1) / Nr.iU B (E+1)<9007199254740992:=(Nat.div_lt_iff_lt_mul QO).2 (by rw [Pc] at t54;rcases hn with ⟨n1,n2⟩ | ⟨n1,n2⟩ <;> rw [n2] <;> omega)
  have Ck:=Nr.pS (Nr.jb A (E+1)) (Nr.iU B (E+1))
  rw [h7]
  exact de.gM (E+1) _ (by omega) (by omega) A B (Nr.um p2 (by omega) (.inl g2) g3)
 ·rw [e5,ab c,ae,h3]
  have g3:Q<9007199254740992:=by omega
  refine de.gM E M (by omega) (by omega) A B ?_
  rw [←hM]
  refine Nr.um p2 (by omega) ?_ (by rw [hQ];exact g3)
  by_cases d:E=-1074
  ·exact .inr d
  ·left
   refine (Nat.le_div_iff_mul_le hB).2 ?_
   have:=Nr.Lk (t:=52) (E:=E) i1 i3 j2 (by omega)
   rw [show (2:Nat) ^ 52=4503599627370496 by decide] at this
   exact this
end Go.Eng
set_option maxRecDepth 20000
namespace Go.Eng
open Go.IntWalk
namespace Nr
theorem Gb (b:bz):∀n:Nat,b.foldl (fun n c=>10 * n+(c.toNat - 48)) n=n * 10 ^ b.length+num b:=by
 induction b with
 | nil=>intro n;simp [num]
 | cons c r ih =>
  intro n
  unfold num
  rw [List.foldl_cons,List.foldl_cons,ih,ih,ay,Nat.pow_succ,Nat.mul_zero,Nat.zero_add,Nat.add_mul,Nat.mul_comm 10 n,Nat.mul_assoc,Nat.mul_comm 10 (10 ^ _)]
  omega
theorem gC (a b:bz):num (a++b)=num a * 10 ^ b.length+num b:=by
 unfold num
 rw [List.foldl_append,Gb];rfl
theorem wY (c:UInt8) (r:bz):num (c :: r)=(c.toNat - 48) * 10 ^ r.length+num r:=by
 have:=gC [c] r
 rw [List.singleton_append] at this
 rw [this];simp [num]
theorem jt (t:Nat):num (List.replicate t 48)=0:=by
 induction t with
 | zero=>rfl
 | succ t ih=>rw [List.replicate_succ,wY,ih];simp
theorem jj (p:UInt8→Bool):∀d:bz,∃a,d=a++d.dropWhile p∧a.all p=true∧(d.dropWhile p=[]∨p ((d.dropWhile p).getD 0 0)=false)
 | []=>⟨[],rfl,rfl,.inl rfl⟩
 | c :: r=>by
  rw [List.dropWhile_cons]
  cases h:p c
  ·rw [au (by simp)]
   exact ⟨[],rfl,rfl,.inr h⟩
  ·rw [aw rfl]
   obtain ⟨a,h1,h2,h3⟩:=jj p r
   exact ⟨c :: a,by rw [List.cons_append,←h1],by rw [List.all_cons,h,h2];rfl,h3⟩
theorem zU:∀{a:bz},(a.all (· == 48))=true→a=List.replicate a.length 48
 | [],_=>rfl
 | c :: r,h=>by
  rw [List.all_cons,ah] at h
  rw [ay,List.replicate_succ,←zU h.2]
  congr 1
  simpa using h.1
theorem vo (d:bz):∃z,d=List.replicate z 48++sE d∧(sE d=[]∨(sE d).getD 0 0≠48):=by
 obtain ⟨a,h1,h2,h3⟩:=jj (· == 48) d
 refine ⟨a.length,?_,?_⟩
 ·rw [←zU h2];exact h1
 ·rcases h3 with h3 | h3
  ·exact .inl h3
  ·exact .inr (by unfold sE;simpa using h3)
theorem ko (d:bz):∃t,d=gr d++List.replicate t 48∧(gr d=[]∨(gr d).getLast?≠some 48):=by
 obtain ⟨a,h1,h2,h3⟩:=jj (· == 48) d.reverse
 refine ⟨a.length,?_,?_⟩
 ·have e:d=(a++d.reverse.dropWhile (· == 48)).reverse:=by rw [←h1,List.reverse_reverse]
  rw [List.reverse_append,zU h2,List.reverse_replicate] at e
  exact e
 ·rcases h3 with h3 | h3
  ·left;unfold gr;rw [h3];rfl
  ·right
   unfold gr
   rw [List.getLast?_reverse]
   intro h
   cases hd:d.reverse.dropWhile (· == 48) with
   | nil=>rw [hd] at h;cases h
   | cons c r =>
    rw [hd] at h h3
    have:c=48:=by simpa using h
    subst this
    simp at h3
theorem tQ (b:UInt8):([48,49,50,51,52,53,54,55,56,57]:bz).contains b=dV b:=by
 have h:∀n,n<256→([48,49,50,51,52,53,54,55,56,57]:bz).contains (UInt8.ofNat n)=dV (UInt8.ofNat n):=by decide +kernel
 have:=h b.toNat b.toNat_lt
 rwa [UInt8.ofNat_toNat] at this
theorem CE (d:bz):Lib.trimLeftS d [48]=sE d:=by
 rw [Lib.trimLeftS_one];rfl
theorem wy (d:bz):Lib.trimRightS d [48]=gr d:=by
 rw [Lib.trimRightS_one];rfl
theorem dropWhile_nil {p:UInt8→Bool}:∀{l:bz},l.dropWhile p=[] ↔ l.all p=true
 | []=>by simp
 | c :: r=>by
  rw [List.dropWhile_cons,List.all_cons]
  cases h:p c
  ·simp
  ·rw [aw rfl,dropWhile_nil];simp
theorem qL (d:bz):(Lib.trimS d [48,49,50,51,52,53,54,55,56,57]=[]) ↔ d.all dV=true:=by
 have e:(fun b=>([48,49,50,51,52,53,54,55,56,57]:bz).contains b)=dV:=funext tQ
 have h1:∀l:bz,Lib.trimLeftS l [48,49,50,51,52,53,54,55,56,57]=l.dropWhile dV:=fun l=>by unfold Lib.trimLeftS;rw [e]
 have h2:∀l:bz,Lib.trimRightS l [48,49,50,51,52,53,54,55,56,57]=(l.reverse.dropWhile dV).reverse:=fun l=>by unfold Lib.trimRightS;rw [e]
 unfold Lib.trimS
 rw [h1,h2,dropWhile_nil,List.all_reverse]
 constructor
 ·intro h
  obtain ⟨a,q1,q2,q3⟩:=jj dV d.reverse
  have hn:d.reverse.dropWhile dV=[]:=by
   rcases q3 with q3 | q3
   ·exact q3
   ·cases hd:d.reverse.dropWhile dV with
    | nil=>rfl
    | cons c r =>
     rw [hd] at h q3
     rw [List.all_cons,ah] at h
     have:dV c=false:=q3
     rw [this] at h;cases h.1
  rw [dropWhile_nil,List.all_reverse] at hn
  exact hn
 ·intro h
  rw [(dropWhile_nil (l:=d.reverse)).2 (by rw [List.all_reverse];exact h)];rfl
theorem sx {d:bz} (h:d.all dV=true) (h0:d≠[]) (h1:d.getD 0 0≠48):10 ^ (d.length - 1)≤num d:=by
 cases d with
 | nil=>exact (h0 rfl).elim
 | cons c r =>
  rw [List.all_cons,ah] at h
  have hc:=ky.1 h.1
  have h1:c≠48:=h1
  have Fx:c.toNat≠48:=fun e=>h1 (UInt8.toNat_inj.1 e)
  rw [wY,ay,Nat.add_sub_cancel]
  have:1 * 10 ^ r.length≤(c.toNat - 48) * 10 ^ r.length:=ak _ (by omega)
  omega
theorem yO:ig≤10 ^ 324:=by decide +kernel
theorem yP:vc≤10 ^ 309:=by decide +kernel
theorem eM (k:Nat):0<10 ^ k:=Nat.pow_pos (by omega)
theorem kh {a b:Nat} (h:a≤b):10 ^ a≤10 ^ b:=Nat.pow_le_pow_right (by omega) h
theorem FM {a b i j k:Nat} (h1:a≤10 ^ i) (h2:b≤10 ^ j) (h:i+j≤k):a * b≤10 ^ k:=by
 refine Nat.le_trans (Nat.mul_le_mul h1 h2) ?_
 rw [←Nat.pow_add];exact kh h
theorem CK {a b i j k l:Nat} (h1:a≤10 ^ i) (h2:10 ^ k≤b) (h:i+j≤k+l):a * 10 ^ j≤b * 10 ^ l:=by
 refine Nat.le_trans (ak _ h1) (Nat.le_trans ?_ (ak _ h2))
 rw [←Nat.pow_add,←Nat.pow_add];exact kh h
theorem C8 {N L:Nat} {k:Int} (hN:N<10 ^ L) (h:k+L≤-324):rd N k=some 0:=by
 unfold rd
 refine Dn (eM _) ?_
 rw [show k.toNat=0 by omega,Nat.pow_zero,Nat.mul_one]
 exact FM (Nat.le_of_lt hN) yO (by omega)
theorem Al {N L:Nat} {k:Int} (hN:10 ^ (L - 1)≤N) (hL:0<L) (h:310≤k+L):rd N k=none:=by
 unfold rd
 refine Bz (eM _) ?_
 exact CK yP hN (by omega)
theorem F3 (k:Int):rd 0 k=some 0:=by
 unfold rd
 rw [Nat.zero_mul];exact By _ (eM _)
theorem sk (N t:Nat) (k:Int):rd (N * 10 ^ t) k=rd N (k+t):=by
 unfold rd
 refine zl (eM _) (eM _) ?_
 rw [Nat.mul_assoc,Nat.mul_assoc,Nat.mul_assoc,←Nat.pow_add,←Nat.pow_add,←Nat.pow_add]
 congr 2
 omega
theorem ic {p:UInt8→Bool} {d a b:bz} (h:d.all p=true) (e:d=a++b):a.all p=true∧b.all p=true:=by
 rw [e,List.all_append,ah] at h
 exact h
end Nr
theorem iy {n i:Nat} (h:n<2 ^ i) (hi:i≤4096):Nt.is (Nt.of n)=true:=Nt.oe (jq (k:=4096) h hi)
theorem dL.gM (A B:Nat) (hA:0<A) (hB:0<B) (QR:A<2 ^ 1100) (Pq:B<2 ^ 2200):dL.j1 (Nt.of A) (Nt.of B)=some [.u64 (Nr.pat (Nr.gZ A B)),.b (Nr.gZ A B).isSome]:=by
 refine dL.iI _ _ ?_
 intro v1 h1 v2 h2
 rw [Nt.eu,Nt.eu] at h1 h2
 rw [Nt.eu,Nt.eu,iy QR (by omega),iy Pq (by omega),aa ⟨hA,hB,QR,Pq⟩]
 refine (bw (by rfl)).trans ?_
 rw [h1,h2]
theorem Aa:(10:Nat) ^ 310<2 ^ 1100∧(10:Nat) ^ 631<2 ^ 2200:=by decide +kernel
theorem dL.goal (d:bz) (x:Int):dL.F d x=some [.u64 (Nr.pat (Nr.read d x)),.b (Nr.read d x).isSome]:=by
 refine dL.bZ _ _ ?_
 intro v1 h1 v2 h2 v3 h3 v4 h4 v5 h5 v6 h6 v7 h7 v8 h8 v9 h9 v10 iA v11 ki v12 jE
 have nX:∀b:Bool,(!(!b) || !b)=true∧(b || !b)=true:=by decide
 have e1:v1=!decide (1≤d.length∧d.length≤300):=by
  rw [h1]
  by_cases c:1≤d.length∧d.length≤300
  ·rw [aa c,ab (by omega),ae,ab (by omega)];rfl
  ·rw [ab c]
   by_cases d0:(d.length:Int)<1
   ·rw [aa d0];rfl
   ·rw [ab d0,ae,aa (by omega)];rfl
 have e3:v3=!Nr.valid d:=by
  unfold Nr.valid
  rw [h3,e1,h2]
  have:decide (Lib.trimS d [48,49,50,51,52,53,54,55,56,57]=[])=d.all Nr.dV:=by
   by_cases c:d.all Nr.dV=true
   ·rw [c,aa ((Nr.qL d).2 c)]
   ·rw [ab (fun h=>c ((Nr.qL d).1 h))];exact (Bool.eq_false_iff.2 c).symm
  rw [this]
  cases decide (1≤d.length∧d.length≤300) <;> cases d.all Nr.dV <;> rfl
 rw [bw (nX _).1,bw (nX _).1,bw (nX _).2]
 have c4:(!(!v1) || ((!v1)&&(decide (d.length≤1099511627776∧([48,49,50,51,52,53,54,55,56,57]:bz).length≤100)&&([48,49,50,51,52,53,54,55,56,57]:bz).all (fun b=>decide (b.toNat<128)))))=true:=by
  rw [e1]
  by_cases c:1≤d.length∧d.length≤300
  ·rw [aa c,aa (show d.length≤1099511627776∧([48,49,50,51,52,53,54,55,56,57]:bz).length≤100 from ⟨by omega,by decide⟩)];rfl
  ·rw [ab c];rfl
 rw [bw c4,bw (nX _).1,bw (nX _).2,e3]
 unfold Nr.read
 cases hv:Nr.valid d
 ·rfl
 ·rw [aw rfl]
  refine Eq.trans (b:=_) (ae _ _) ?_
  unfold Nr.valid at hv
  rw [ah] at hv
  obtain ⟨hl,hd⟩:=hv
  obtain ⟨l1,l2⟩:=ar hl
  rw [Nr.CE] at h4
  rw [Nr.wy] at h7
  obtain ⟨z,z1,z2⟩:=Nr.vo d
  rw [←h4] at z1 z2
  obtain ⟨t,t1,t2⟩:=Nr.ko v4
  rw [←h7] at t1 t2
  have hd4:=(Nr.ic hd z1).2
  have Pb:=(Nr.ic hd4 t1).1
  have lz:d.length=z+v4.length:=by
   have:=congrArg List.length z1
   rw [ao,List.length_replicate] at this
   exact this
  have lt:v4.length=v7.length+t:=by
   have:=congrArg List.length t1
   rw [ao,List.length_replicate] at this
   exact this
  have nz:Nr.num d=Nr.num v4:=by
   have:=congrArg Nr.num z1
   rw [Nr.gC,Nr.jt,Nat.zero_mul,Nat.zero_add] at this
   exact this
  have nt:Nr.num v4=Nr.num v7 * 10 ^ t:=by
   have:=congrArg Nr.num t1
   rw [Nr.gC,Nr.jt,List.length_replicate,Nat.add_zero] at this
   exact this
  have My:∀s:bz,s.length≤300→(decide (s.length≤1099511627776∧([48]:bz).length≤100)&&([48]:bz).all (fun b=>decide (b.toNat<128)))=true:=fun s hs=>by
   rw [aa (show s.length≤1099511627776∧([48]:bz).length≤100 from ⟨by omega,by decide⟩)];rfl
  rw [bw (My d l2),bw (nX _).1,bw (nX _).2,nz]
  by_cases c0:v4=[]
  ·have e5:v5=true:=by rw [h5,aa c0];rfl
   rw [e5,ai,c0]
   rw [show Nr.num []=0 from rfl,Nr.F3];rfl
  ·rw [ab c0,ae] at h5
   have z2:v4.getD 0 0≠48:=z2.resolve_left c0
   have p4:0<v4.length:=List.length_pos_iff.2 c0
   have b1:=Nr.sw v4 hd4
   have b2:=Nr.sx hd4 c0 z2
   by_cases c1:x < -1000
   ·rw [h5,aa c1,ai,Nr.C8 b1 (by omega)];rfl
   ·rw [h5,ab c1,ae]
    by_cases c2:1000<x
    ·rw [aa c2,ai,Nr.Al b2 p4 (by omega)];rfl
    ·have e6:v6=z:=by rw [h6,i64_in _ (by omega)];omega
     have ex:IntKind.i64.wrap (x - v6)=x - z:=by rw [e6,i64_in _ (by omega)]
     rw [ab c2,ae,bw (My v4 (by omega)),ex]
     by_cases c3:x - z < -330
     ·rw [aa c3,ai,Nr.C8 b1 (by omega)];rfl
     ·rw [ab c3,ae]
      by_cases c4:310<x - (z:Int)
      ·rw [aa c4,ai,Nr.Al b2 p4 (by omega)];rfl
      ·rw [ab c4,ae]
       have n7:v7≠[]:=by
        intro e
        rw [e] at nt
        have:=Nr.eM (v4.length - 1)
        rw [show Nr.num []=0 from rfl,Nat.zero_mul] at nt
        omega
       have p7:0<v7.length:=List.length_pos_iff.2 n7
       have g7:v7.getD 0 0=v4.getD 0 0:=by
        rw [t1,af,af,List.getElem?_append_left (by omega)]
       have e9:v9=x - z - v7.length:=by rw [h9,ex,i64_in _ (by omega)]
       have w7:=Nr.sw v7 Pb
       have RO:=Nr.sx Pb n7 (by rw [g7];exact z2)
       have PU:0<Nr.num v7:=Nat.lt_of_lt_of_le (Nr.eM _) RO
       have Ji:Nr.rd (Nr.num v4) (x - (d.length:Int))=Nr.rd (Nr.num v7) v9:=by
        rw [nt,Nr.sk];congr 1;omega
       rw [Ji,bw (by rw [aa (show 1≤v7.length∧v7.length≤300∧v7.getD 0 0≠48 from ⟨by omega,by omega,by rw [g7];exact z2⟩),Pb];rfl)]
       have hB:∀k:Nat,k≤631→(10:Nat) ^ k<2 ^ 2200:=fun k hk=>Nat.lt_of_le_of_lt (Nr.kh hk) Aa.2
       have hA:∀k:Nat,k≤310→(10:Nat) ^ k<2 ^ 1100:=fun k hk=>Nat.lt_of_le_of_lt (Nr.kh hk) Aa.1
       by_cases c5:0≤v9
       ·have ep:Nr.num v7 * 10 ^ v9.toNat<10 ^ (v7.length+v9.toNat):=by
         rw [Nat.pow_add];exact Nat.mul_lt_mul_of_pos_right w7 (Nr.eM _)
        have xX:v10=Nt.of (10 ^ v9.toNat):=iA
        have KY:v11=Nt.of (Nr.num v7 * 10 ^ v9.toNat):=by rw [ki,xX,Nt.eu,Nt.eu]
        have e8:v8=Nt.of 1:=h8
        rw [aa c5,ai,bw (aa ⟨by omega,by omega,by omega,by omega,jq (k:=4096) (hB v9.toNat (by omega)) (by omega)⟩),xX,iy (hB v9.toNat (by omega)) (by omega),iy (Nat.lt_trans w7 (hB v7.length (by omega))) (by omega)]
        refine (bw (by rfl)).trans ?_
        rw [KY,e8,dL.gM _ 1 (Nat.mul_pos PU (Nr.eM _)) (by omega) (Nat.lt_trans ep (hA _ (by omega))) (hB 0 (by omega))]
        unfold Nr.rd
        rw [show (-v9).toNat=0 by omega,Nat.pow_zero]
       ·have ew:IntKind.i64.wrap (0 - v9)=-v9:=by rw [i64_in _ (by omega)];omega
        rw [ew] at jE
        have GZ:v12=Nt.of (10 ^ (-v9).toNat):=jE
        rw [ab c5,ae,ew,bw (aa ⟨by omega,by omega,by omega,by omega,jq (k:=4096) (hB (-v9).toNat (by omega)) (by omega)⟩),GZ]
        rw [dL.gM _ _ PU (Nr.eM _) (Nat.lt_trans w7 (hA v7.length (by omega))) (hB _ (by omega))]
        unfold Nr.rd
        rw [show v9.toNat=0 by omega,Nat.pow_zero,Nat.mul_one]
end Go.Eng
set_option maxRecDepth 20000
namespace Go.Eng
open Go.IntWalk
namespace Nr
def Im:List UInt64→Nat
 | []=>0
 | a :: r=>a.toNat+100000000 * Im r
def PW (a:List UInt64):Bool:=a.all fun x=>decide (x.toNat<100000000)
end Nr
namespace Nr
theorem wL (s:bz) (c:UInt8):gr (s++[c])=if c=48 then gr s else s++[c]:=by
 unfold gr
 rw [List.reverse_append,List.reverse_singleton,List.singleton_append,List.dropWhile_cons]
 by_cases h:c=48
 ·rw [aw (by simp [h]),aw h]
 ·rw [au (by simp [h]),au h];simp
theorem yS (s:bz):s=[]∨∃a c,s=a++[c]:=by
 cases h:s.reverse with
 | nil=>left;simpa using h
 | cons c r=>right;exact ⟨r.reverse,c,by have:=congrArg List.reverse h;simpa using this⟩
theorem oZ {c:UInt8} (h:dV c=true):c=UInt8.ofNat (48+(c.toNat - 48)):=by
 have:=ky.1 h
 rw [show 48+(c.toNat - 48)=c.toNat by omega,UInt8.ofNat_toNat]
theorem sX:∀(n:Nat) (s:bz),s.length=n→s.all dV=true→s≠[]→s.getD 0 0≠48→s=dec (num s):=by
 intro n
 induction n with
 | zero=>intro s hs _ h0 _;exact (h0 (List.length_eq_zero_iff.1 hs)).elim
 | succ n ih =>
  intro s hs hd h0 h1
  rcases yS s with h | ⟨a,c,rfl⟩
  ·exact (h0 h).elim
  ·obtain ⟨d1,d2⟩:=ic hd rfl
   rw [List.all_cons,ah] at d2
   have hc:=ky.1 d2.1
   rw [sv]
   by_cases ha:a=[]
   ·subst ha
    rw [show num []=0 from rfl,kB (by omega)]
    rw [Nat.mul_zero,Nat.zero_add,←oZ d2.1];rfl
   ·have Qz:a.getD 0 0≠48:=by
     have hl:=List.length_pos_iff.2 ha
     rw [af,List.getElem?_append_left hl,←af] at h1
     exact h1
    have hg:=sx d1 ha Qz
    have:=eM (a.length - 1)
    rw [pq (by omega),show (10 * num a+(c.toNat - 48)) / 10=num a by omega,show (10 * num a+(c.toNat - 48)) % 10=c.toNat - 48 by omega,←oZ d2.1]
    rw [ao,az] at hs
    rw [←ih a (by omega) d1 ha Qz]
theorem lC (n:Nat):(dec n).all dV=true∧num (dec n)=n∧(dec n≠[])∧(0<n→(dec n).getD 0 0≠48):=by
 induction n using Nat.strongRecOn with
 | _ n ih =>
  have L6:∀k,k<10→dV (UInt8.ofNat (48+k))=true∧(UInt8.ofNat (48+k)).toNat=48+k:=fun k hk=>by
   have:(UInt8.ofNat (48+k)).toNat=48+k:=by simp;omega
   exact ⟨ky.2 (by omega),this⟩
  by_cases c:n<10
  ·rw [kB c]
   obtain ⟨h1,h2⟩:=L6 n c
   refine ⟨by rw [List.all_cons,h1];rfl,by simp only [num,List.foldl_cons,List.foldl_nil,h2];omega,by simp,fun h e=>?_⟩
   have:=congrArg UInt8.toNat e
   have e2:([UInt8.ofNat (48+n)].getD 0 0).toNat=48+n:=h2
   rw [e2] at this
   have e3:(48:UInt8).toNat=48:=rfl
   omega
  ·obtain ⟨i1,i2,i3,i4⟩:=ih (n / 10) (by omega)
   obtain ⟨h1,h2⟩:=L6 (n % 10) (by omega)
   rw [pq c]
   refine ⟨by rw [List.all_append,i1,List.all_cons,h1];rfl,by rw [sv,i2,h2];omega,by simp,fun _=>?_⟩
   rw [af,List.getElem?_append_left (List.length_pos_iff.2 i3),←af]
   exact i4 (by omega)
theorem kT (n:Nat):1≤(dec n).length:=List.length_pos_iff.2 (lC n).2.2.1
end Nr
end Go.Eng
set_option maxRecDepth 20000
namespace Go.Eng
open Go.IntWalk
open Nr (Im PW)
structure Fj (a:List UInt64) (N b:Nat):Prop where
 v:Im a=N
 s:PW a=true
 l:a.length+b≤999
 n:a≠[]
theorem Fj.pre {a:List UInt64} {N b:Nat} (h:Fj a N b) (m:UInt64) (hm:m.toNat≤100000000):(decide (a.length≤1000∧m.toNat≤100000000)&&a.all (fun x=>decide (x.toNat<100000000)))=true:=by
 have hs:a.all (fun x=>decide (x.toNat<100000000))=true:=h.s
 rw [hs,aa ⟨by have:=h.l;omega,hm⟩];rfl
theorem Fj.le {a:List UInt64} {N b c:Nat} (h:Fj a N b) (hc:c≤b):Fj a N c:=⟨h.v,h.s,by have:=h.l;omega,h.n⟩
end Go.Eng
set_option maxRecDepth 20000
namespace Go.Eng
open Go.IntWalk
namespace Nr
def Hi (d:bz):Prop:=d.all dV=true∧(d=[]∨d.getLast?≠some 48)
theorem Hi.tail {c:UInt8} {r:bz} (h:Hi (c :: r)):dV c=true∧Hi r:=by
 obtain ⟨h1,h2⟩:=h
 rw [List.all_cons,ah] at h1
 refine ⟨h1.1,h1.2,?_⟩
 cases r with
 | nil=>exact .inl rfl
 | cons d r =>
  refine .inr ?_
  have:=h2.resolve_left (by simp)
  rw [List.getLast?_cons_cons] at this
  exact this
structure MU (d:bz):Prop where
 f:Hi d
 n:d≠[]
 h:d.getD 0 0≠48
theorem GV {m:Nat} (h:0<m) (e:Int):0<KV m e:=Nat.mul_pos (Nat.mul_pos h (Nat.two_pow_pos _)) (Nat.pow_pos (by omega))
end Nr
end Go.Eng
set_option maxRecDepth 20000
namespace Go.Eng
namespace Sh
open Nr (V mG sh top gZ rd mK fZ)
theorem ni {a b p:Nat} (hb:0<b):gZ a b=some p ↔ p≤top∧¬fZ a b p∧(p=0∨fZ a b (p - 1)):=by
 constructor
 ·intro h
  classical
  have s1:p≤top∧¬fZ a b p∧∀r,r<p→fZ a b r:=by
   unfold gZ at h
   split at h
   ·rename_i hx
    cases h
    exact hx.choose_spec
   ·cases h
  refine ⟨s1.1,s1.2.1,?_⟩
  by_cases c:p=0
  ·exact .inl c
  ·exact .inr (s1.2.2 _ (by omega))
 ·rintro ⟨h1,h2,h3⟩
  exact Nr.lW hb h1 h2 h3
theorem zd {p N:Nat} {k:Int} (hp:0<p):rd N k=some p ↔ p≤top ∧
  (2 * (N * 10 ^ k.toNat * 2 ^ 1074)<mK p * 10 ^ (-k).toNat∨(2 * (N * 10 ^ k.toNat * 2 ^ 1074)=mK p * 10 ^ (-k).toNat∧p % 2=0)) ∧
  (mK (p - 1) * 10 ^ (-k).toNat<2 * (N * 10 ^ k.toNat * 2 ^ 1074)∨(mK (p - 1) * 10 ^ (-k).toNat=2 * (N * 10 ^ k.toNat * 2 ^ 1074)∧p % 2=0)):=by
 unfold rd
 rw [ni (Nr.eM _)]
 unfold fZ
 have e:=Nr.mul_two (a:=N * 10 ^ k.toNat) Nr.jJ
 rw [e]
 generalize 2 * (N * 10 ^ k.toNat * 2 ^ 1074)=X
 generalize mK p * 10 ^ (-k).toNat=Y
 generalize mK (p - 1) * 10 ^ (-k).toNat=Z
 constructor
 ·rintro ⟨h1,h2,h3⟩
  refine ⟨h1,?_,?_⟩ <;> omega
 ·rintro ⟨h1,h2,h3⟩
  refine ⟨h1,?_,.inr ?_⟩ <;> omega
theorem rp {p:Nat} (hp:0<p):0<mG p:=by unfold mG;split <;> omega
theorem CY {m s:Nat} (K:Nat):m * 2 ^ ((s:Int) - K).toNat * 2 ^ K=m * 2 ^ s * 2 ^ (-((s:Int) - K)).toNat:=by
 rw [Nat.mul_assoc,Nat.mul_assoc,←Nat.pow_add,←Nat.pow_add]
 congr 2
 omega
theorem Ff (p:Nat):iP p * 2 ^ 1074=V p * fY p:=CY 1074
theorem jC (p:Nat):0<fY p:=Nat.two_pow_pos _
theorem AS {p:Nat} (hp:0<p):10 ^ (dx p - 1).toNat * fY p≤iP p * 10 ^ (-(dx p - 1)).toNat∧iP p * 10 ^ (-(dx p)).toNat<10 ^ (dx p).toNat * fY p:=by
 have hm:=rp hp
 generalize he:(sh p:Int) - 1074=e
 obtain ⟨d1,d2,d3,d4⟩:=Nr.lC (Nr.KV (mG p) e)
 have hN:=Nr.GV hm e
 have g1:=Nr.sx d1 d3 (d4 hN)
 have g2:=Nr.sw _ d1
 rw [d2] at g1 g2
 have hl:=List.length_pos_iff.2 d3
 have hx:dx p=(Nr.dec (Nr.KV (mG p) e)).length+min e 0:=by unfold dx;rw [he];rfl
 have ea:iP p=mG p * 2 ^ e.toNat:=by unfold iP;rw [he]
 have eb:fY p=2 ^ (-e).toNat:=by unfold fY;rw [he]
 have eN:Nr.KV (mG p) e=mG p * 2 ^ e.toNat * 5 ^ (-e).toNat:=rfl
 generalize Nr.KV (mG p) e=N at *
 generalize (Nr.dec N).length=L at *
 rw [ea,eb,hx]
 have t25:∀k:Nat,(10:Nat) ^ k=2 ^ k * 5 ^ k:=fun k=>by rw [←Nat.mul_pow]
 by_cases c:0≤e
 ·have h0:(-e).toNat=0:=by omega
  rw [h0,Nat.pow_zero,Nat.mul_one] at eN ⊢
  rw [Nat.mul_one]
  rw [←eN,show ((L:Int)+min e 0 - 1).toNat=L - 1 by omega,show (-((L:Int)+min e 0 - 1)).toNat=0 by omega,show (-((L:Int)+min e 0)).toNat=0 by omega,show ((L:Int)+min e 0).toNat=L by omega,Nat.pow_zero,Nat.mul_one]
  exact ⟨g1,g2⟩
 ·have h0:e.toNat=0:=by omega
  rw [h0,Nat.pow_zero,Nat.mul_one] at eN ⊢
  have OX:min e 0=e:=by omega
  rw [OX]
  generalize hj:(-e).toNat=j at *
  have SE:0<(5:Nat) ^ j:=Nat.pow_pos (by omega)
  have key:∀a b:Nat,a+j=L - 1+b→10 ^ a * 2 ^ j≤mG p * 10 ^ b:=fun a b Cq=>by
   refine Nat.le_of_mul_le_mul_right (c:=5 ^ j) ?_ SE
   rw [Nat.mul_assoc,←t25,←Nat.pow_add,Cq,Nat.pow_add,Nat.mul_right_comm,←eN]
   exact ak _ g1
  have On:∀a b:Nat,a+j=L+b→mG p * 10 ^ b<10 ^ a * 2 ^ j:=fun a b Cq=>by
   refine Nat.lt_of_mul_lt_mul_right (a:=5 ^ j) ?_
   rw [Nat.mul_assoc (10 ^ a),←t25,←Nat.pow_add,Cq,Nat.pow_add,Nat.mul_right_comm,←eN]
   exact Nat.mul_lt_mul_of_pos_right g2 (Nr.eM _)
  exact ⟨key _ _ (by omega),On _ _ (by omega)⟩
theorem mj {p N:Nat} {k:Int} (h:rd N k=some p):reads p N k=some (Nr.gr (Nr.dec N),(Nr.dec N).length+k):=aw h
theorem oj {p N:Nat} {k:Int} (h:¬rd N k=some p):reads p N k=none:=au h
theorem D8 {p:Nat} (hp:0<p):V p≤9007199254740992 * 2 ^ sh (p - 1)∧V p=V (p - 1)+2 ^ sh (p - 1):=by
 have h1:=Nr.vX (p - 1)
 have h2:=Nr.tm (p - 1)
 rw [show p - 1+1=p by omega] at h1 h2
 refine ⟨?_,h2⟩
 rw [h1]
 exact ak _ (by have:=Nr.sD (p - 1);omega)
theorem JO (p:Nat):V p<9007199254740992 * 2 ^ sh p∧V (p+1)=V p+2 ^ sh p :=
 ⟨Nat.mul_lt_mul_of_pos_right (Nr.sD p) (Nat.two_pow_pos _),Nr.tm p⟩
theorem unit_eq {a b V' K P Q:Nat} {S T:Nat} (h:a * K=V' * b) (hP:P=a * T) (hQ:Q=b * S) (N:Nat):N * S * K * b=N * Q * K∧P * K=V' * T * b:=by
 constructor
 ·rw [hQ];simp only [Nat.mul_assoc,Nat.mul_comm,Nat.mul_left_comm]
 ·rw [hP,Nat.mul_right_comm,h,Nat.mul_right_comm]
end Sh
end Go.Eng
