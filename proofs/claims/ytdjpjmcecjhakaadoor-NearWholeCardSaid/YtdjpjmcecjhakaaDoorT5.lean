/- Texts of my own, one behind the other: NrP7, NrP8, NrP9, NrP10, NrP11, NrP12, NrP13, NrP14, NrP15, NrP16, NrN2, NrN3, NrN4, NrE1, NrE2, NrR1, NrR2, NrN5, NrR3, NrShelf, NrHand, NrOKT, NrWhole, NrJ, NrP, NrOK, NrA, NrQA, NrOKA, NrLWhole, NrQWhole, NrOKWhole. -/
import Derived.Test.YtdjpjmcecjhakaaDoorT4
import Derived.Shelf.Strings.SlTrimAscii
import Derived.Shelf.Small.Wraps
import Derived.Shelf.Strings.Search1
import Derived.Shelf.Strings.Search2
import Derived.Shelf.Strings.IndexAnyAll
import Derived.Shelf.Spec.TrailingZeros
import Derived.Test.YtdjpjmcecjhakaaDoorProg
import Derived.WalkKit
import Derived.WalkSpells
set_option linter.unusedVariables false
set_option linter.unusedSimpArgs false
namespace Go.Eng
open Go.IntWalk
theorem val_drop (a:List UInt16) (i:Nat) (h:i<a.length):Nt.val (a.drop i)=(a.getD i 0).toNat+65536 * Nt.val (a.drop (i+1)):=by
 rw [drop_cons h 0,Nt.val]
theorem bg_few.l1_ok (a:List UInt16) (d:UInt16) (ha:a.length≤1000000) (hd:0<d.toNat):∀(n:Nat) (q:List UInt16) (r:UInt32),n≤a.length→q.length=a.length→Nt.val (q.drop n)=Nt.val (a.drop n) / d.toNat→r.toNat=Nt.val (a.drop n) % d.toNat →
  bg_few.l1 a d r ((n:Int) - 1) q=some [.sl .ws (Nt.of (Nt.val a / d.toNat)),.u16 (UInt16.ofNat (Nt.val a % d.toNat))]:=by
 intro n
 induction n with
 | zero =>
  intro q r hn hl hq hr
  refine bg_few.l1_in _ _ _ _ _ ?_
  intro v1 h1 v2 h2 v3 h3 v4 h4 v5 h5 v6 h6 v7 h7 v8 h8
  rw [List.drop_zero,List.drop_zero] at hq
  rw [List.drop_zero] at hr
  rw [decide_eq_false (by omega),cond_false,ck_of (decide_eq_true (by omega)),hq,h8,u16_of_u32,hr]
 | succ n ih =>
  intro q r hn hl hq hr
  refine bg_few.l1_in _ _ _ _ _ ?_
  intro v1 h1 v2 h2 v3 h3 v4 h4 v5 h5 v6 h6 v7 h7 v8 h8
  have e:((n+1:Nat):Int) - 1=(n:Int):=by omega
  rw [e] at h2 h6 h7 ⊢
  rw [Int.toNat_natCast] at h2 h6
  have hd2:=d.toNat_lt
  have hv2:=v2.toNat_lt
  have hrd:r.toNat<d.toNat:=by rw [hr];exact Nat.mod_lt _ hd
  have e4:v4.toNat=d.toNat:=by rw [h4,u32_of_u16]
  have e3:v3.toNat=v2.toNat:=by rw [h3,u32_of_u16]
  have e1:v1.toNat=r.toNat * 65536:=by
   rw [h1,shl32,UInt32.toNat_ofNat',show (16:UInt64).toNat=16 from rfl];omega
  have e13:(v1 ||| v3).toNat=r.toNat * 65536+v2.toNat:=by
   rw [UInt32.toNat_or,e1,e3]
   exact or_add (a:=r.toNat) (b:=v2.toNat) (k:=16) hv2
  have hv4:v4≠0:=fun e0=>by
   have:=congrArg UInt32.toNat e0
   rw [e4] at this
   have e00:(0:UInt32).toNat=0:=rfl
   omega
  have eq5:v5.toNat=(r.toNat * 65536+v2.toNat) / d.toNat:=by
   rw [h5,u16_of_u32,Nt.u16_ofNat,UInt32.toNat_div,e13,e4]
   refine Nat.mod_eq_of_lt ((Nat.div_lt_iff_lt_mul hd).2 ?_)
   have:(r.toNat+1) * 65536≤d.toNat * 65536:=Nat.mul_le_mul_right _ hrd
   rw [Nat.mul_comm d.toNat 65536] at this
   omega
  have er:((v1 ||| v3) % v4).toNat=(r.toNat * 65536+v2.toNat) % d.toNat:=by
   rw [UInt32.toNat_mod,e13,e4]
  have hx:idxOK (n:Int) a.length=true:=idx_ok (by omega) (by omega)
  have hx2:idxOK (n:Int) q.length=true:=idx_ok (by omega) (by omega)
  rw [decide_eq_true (by omega),cond_true,ck_of hx,decide_eq_false hv4,Bool.not_false,ck_true,ck_of hx2,ck_of (decide_eq_true (by rw [Int.toNat_natCast];omega)),ck_true,h7,i64_in _ (by omega)]
  have hH:=val_drop a n (by omega)
  rw [←h2] at hH
  generalize Nt.val (a.drop (n+1))=H at hq hr hH
  have hHd:H=d.toNat * (H / d.toNat)+r.toNat:=by rw [hr];exact (Nat.div_add_mod H d.toNat).symm
  have hsum:v2.toNat+65536 * H=(r.toNat * 65536+v2.toNat)+d.toNat * (65536 * (H / d.toNat)):=by
   conv=>lhs;rw [hHd]
   rw [Nat.mul_add,Nat.mul_left_comm];omega
  refine ih v6 _ (by omega) (by rw [h6,List.length_set];exact hl) ?_ ?_
  ·rw [val_drop v6 n (by rw [h6,List.length_set];omega),h6,getD_set_ne _ _ _ _ (by omega),eq5,List.drop_set_of_lt (by omega),hq,hH,hsum,Nat.add_mul_div_left _ _ hd]
  ·rw [er,hH,hsum,Nat.add_mul_mod_self_left]
theorem bg_few.goal (a:List UInt16) (d:UInt16) (hp:decide (a.length≤1000000∧d≠0)=true):bg_few.F a d=some [.sl .ws (Nt.of (Nt.val a / d.toNat)),.u16 (UInt16.ofNat (Nt.val a % d.toNat))]:=by
 obtain ⟨l1,d0⟩:=of_decide_eq_true hp
 have hd:0<d.toNat:=Nat.pos_of_ne_zero fun e=>d0 (UInt16.toNat_inj.1 e)
 refine bg_few.F_in _ _ ?_
 intro v1 h1 v2 h2
 rw [Int.toNat_natCast] at h1
 rw [ck_of (mkOK_iff.2 ⟨by omega,by omega,by omega,by rw [maxLen_eq];omega⟩),h2,i64_in _ (by omega)]
 exact bg_few.l1_ok a d l1 hd a.length v1 0 (Nat.le_refl _) (by rw [h1];simp) (by simp [Nt.val,h1]) (by simp [Nt.val])
theorem bg_Div.goal (a b:List UInt16) (hp:(Nt.is a&&Nt.is b&&decide (b≠[]))=true):bg_Div.F a b=some [.sl .ws (Nt.of (Nt.val a / Nt.val b)),.sl .ws (Nt.of (Nt.val a % Nt.val b)),.b true]:=by
 simp only [Bool.and_eq_true,decide_eq_true_eq] at hp
 obtain ⟨⟨ha,hb⟩,hb0⟩:=hp
 have la:=Nt.is_len ha
 have lb:=Nt.is_len hb
 have na:=Nt.is_norm ha
 have nb:=Nt.is_norm hb
 have lb0:=List.length_pos_iff.2 hb0
 have pb:=Nt.norm_pos nb hb0
 refine bg_Div.F_in _ _ ?_
 intro v1 h1 v2 h2 v3 h3 v4 h4 v5 h5 v6 h6 v7 h7 v8 h8 v9 h9 v10 h10 v11 h11 v12 h12 v13 h13 v14 h14 v15 h15
 rw [ha,hb] at h1
 have d1:v1=false:=h1
 have d2:v2=false:=by rw [h2,d1,cond_false];exact decide_eq_false (by omega)
 have m1:decide (a.length≤1099511627776)=true:=decide_eq_true (by omega)
 have m2:decide (b.length≤1099511627776)=true:=decide_eq_true (by omega)
 have m3:decide (a.length≤1099511627776∧b.length≤1099511627776)=true:=decide_eq_true ⟨by omega,by omega⟩
 simp only [d1,d2,ha,m1,m2,m3,na,nb,Bool.not_false,Bool.not_true,Bool.false_or,Bool.or_true,Bool.true_or,Bool.and_self,ck_true,cond_false]
 by_cases c1:Nt.val a<Nt.val b
 ·have e3:v3=-1:=by rw [h3,Nt.cmp,if_pos c1]
  rw [e3,decide_eq_true (by omega),cond_true,ck_of (big_ap (by omega) (by omega)),Nat.div_eq_of_lt c1,Nt.of_zero,Nat.mod_eq_of_lt c1,Nt.of_val na]
 ·have e3:¬v3<0:=by rw [h3,Nt.cmp,if_neg c1];split <;> omega
  rw [decide_eq_false e3,cond_false]
  by_cases c2:b.length=1
  ·obtain ⟨d,rfl⟩:∃d,b=[d]:=List.length_eq_one_iff.1 c2
   have hd0:d≠0:=by simpa [Nt.norm] using nb
   have e4:v4=d:=by rw [h4];rfl
   have ev:Nt.val [d]=d.toNat:=by simp [Nt.val]
   rw [decide_eq_true (by rw [c2];rfl),cond_true,ck_of (idx_ok (by omega) (by rw [c2];omega)),e4,ck_of (decide_eq_true ⟨by omega,hd0⟩),h5,h7,h6,e4,ev,u64_of_u16,Nt.u16_ofNat]
   have hm:Nt.val a % d.toNat<d.toNat:=Nat.mod_lt _ (Nat.pos_of_ne_zero fun e=>hd0 (UInt16.toNat_inj.1 e))
   have:=d.toNat_lt
   rw [Nat.mod_eq_of_lt (show Nt.val a % d.toNat<65536 by omega)]
  ·have l2:2≤b.length:=by omega
   rw [decide_eq_false (by omega),cond_false]
   rw [i64_in _ (by omega)] at h8
   have e8:v8=((b.length - 1:Nat):Int):=by omega
   rw [e8,Int.toNat_natCast] at h9
   obtain ⟨t1,t2⟩:=norm_last nb hb0
   rw [←h9] at t1 t2
   have hv9:=v9.toNat_lt
   obtain ⟨p1,p2,p3⟩:=Nt.bits_pos (n:=v9.toNat) (by omega)
   have pl:=Nt.bits_lt (n:=v9.toNat) (k:=16) hv9
   obtain ⟨s,hs⟩:∃s,s=16 - Nt.bits v9.toNat:=⟨_,rfl⟩
   have e10:v10=(s:Int):=by rw [h10,i64_in _ (by omega)];omega
   have hs16:s<16:=by omega
   rw [e10,Int.toNat_natCast] at h11 h12 h15
   -- the lengths
   have hbt:v9.toNat * 2 ^ s<65536:=by
    have:v9.toNat * 2 ^ s<2 ^ Nt.bits v9.toNat * 2 ^ s:=Nat.mul_lt_mul_of_pos_right p2 (Nat.two_pow_pos s)
    rw [←Nat.pow_add,show Nt.bits v9.toNat+s=16 by omega] at this
    exact this
   have hbt2:32768≤v9.toNat * 2 ^ s:=by
    have:2 ^ (Nt.bits v9.toNat - 1) * 2 ^ s≤v9.toNat * 2 ^ s:=Nat.mul_le_mul_right _ p1
    rw [←Nat.pow_add,show Nt.bits v9.toNat - 1+s=15 by omega] at this
    exact this
   have hlo:=Nt.val_lt (b.take (b.length - 1))
   rw [List.length_take,Nat.min_eq_left (by omega)] at hlo
   generalize hP:65536 ^ (b.length - 1)=P at t2 hlo
   have hPs:65536 ^ b.length=65536 * P:=by rw [←hP,Nat.mul_comm,←Nat.pow_succ];congr 1;omega
   generalize hL:Nt.val (b.take (b.length - 1))=Lo at t2 hlo
   have hVb:Nt.val b * 2 ^ s=Lo * 2 ^ s+P * (v9.toNat * 2 ^ s):=by rw [t2,Nat.add_mul,Nat.mul_assoc]
   have hVlt:Nt.val b * 2 ^ s<65536 ^ b.length:=by
    have h1:(v9.toNat+1) * 2 ^ s≤65536:=by
     have:(v9.toNat+1) * 2 ^ s≤2 ^ Nt.bits v9.toNat * 2 ^ s:=Nat.mul_le_mul_right _ p2
     rw [←Nat.pow_add,show Nt.bits v9.toNat+s=16 by omega] at this
     exact this
    have h2:Lo * 2 ^ s+P * (v9.toNat * 2 ^ s)<P * ((v9.toNat+1) * 2 ^ s):=by
     rw [Nat.add_mul,Nat.one_mul,Nat.mul_add]
     have:Lo * 2 ^ s<P * 2 ^ s:=Nat.mul_lt_mul_of_pos_right hlo (Nat.two_pow_pos s)
     omega
    have h3:P * ((v9.toNat+1) * 2 ^ s)≤P * 65536:=Nat.mul_le_mul_left _ h1
    rw [hVb,hPs,Nat.mul_comm 65536 P]
    omega
   have hVge:32768 * P≤Nt.val b * 2 ^ s:=by
    have:P * 32768≤P * (v9.toNat * 2 ^ s):=Nat.mul_le_mul_left _ hbt2
    rw [hVb,Nat.mul_comm 32768 P];omega
   have hfix:v12=Nt.fix b.length (Nt.val b * 2 ^ s):=by
    rw [h12]
    refine Nt.of_fix hVlt (.inr ?_)
    rw [hP];omega
   have hl12:v12.length=b.length:=by rw [hfix,Nt.fix_length]
   have hv12:Nt.val v12=Nt.val b * 2 ^ s:=by rw [h12,Nt.val_of]
   have hv11:Nt.val v11=Nt.val a * 2 ^ s:=by rw [h11,Nt.val_of]
   have hge:Nt.val v12≤Nt.val v11:=by rw [hv12,hv11];exact Nat.mul_le_mul_right _ (by omega)
   have hl11:v12.length≤v11.length:=by
    rcases Nat.lt_or_ge v11.length v12.length with h | h
    ·have:=Nt.lt_of_len (a:=v11) (b:=v12) (by rw [h12];exact Nt.norm_of _) h
     omega
    ·exact h
   have hl11b:v11.length≤257:=by
    rw [h11]
    refine (Nt.of_length _ 257).2 ?_
    have h7:=Nt.val_lt a
    have h8:65536 ^ a.length≤65536 ^ 256:=Nat.pow_le_pow_right (by omega) la
    have h9:2 ^ s≤65536:=Nat.pow_le_pow_right (n:=2) (by omega) (show s≤16 by omega)
    rewrite [pw257]
    have h10:Nt.val a * 2 ^ s≤Nt.val a * 65536:=Nat.mul_le_mul_left _ h9
    omega
   have htop:32768≤(v12.getLast?.getD 0).toNat:=by
    have:v12.getLast?.getD 0=UInt16.ofNat (Nt.val b * 2 ^ s / 65536 ^ (b.length - 1)):=by
     rw [hfix]
     conv=>lhs;rw [show b.length=b.length - 1+1 by omega]
     rw [Nt.fix_succ]
     simp
    rw [this,Nt.u16_ofNat,hP]
    have h1:Nt.val b * 2 ^ s / P<65536:=(Nat.div_lt_iff_lt_mul (by rw [←hP];exact Nat.pow_pos (by omega))).2 (by rw [←hPs];exact hVlt)
    have h2:32768≤Nt.val b * 2 ^ s / P:=(Nat.le_div_iff_mul_le (by rw [←hP];exact Nat.pow_pos (by omega))).2 hVge
    rw [Nat.mod_eq_of_lt h1];exact h2
   have m4:idxOK v8 b.length=true:=idx_ok (by omega) (by omega)
   have m5:decide (a.length≤1000000∧0≤v10∧v10<16)=true:=decide_eq_true (by omega)
   have m6:decide (b.length≤1000000∧0≤v10∧v10<16)=true:=decide_eq_true (by omega)
   have m7:decide (v11.length≤1000000∧2≤v12.length∧v12.length≤v11.length∧32768≤(v12.getLast?.getD 0).toNat)=true:=decide_eq_true ⟨by omega,by omega,hl11,htop⟩
   have l13:v13.length=v11.length+1 - v12.length:=by rw [h13,Nt.fix_length]
   have l14:v14.length=v12.length:=by rw [h14,Nt.fix_length]
   have m8:decide (v13.length≤1099511627776)=true:=decide_eq_true (by omega)
   have m9:decide (v14.length≤1099511627776)=true:=decide_eq_true (by omega)
   have hq:Nt.val v11 / Nt.val v12=Nt.val a / Nt.val b:=by rw [hv11,hv12,Nat.mul_div_mul_right _ _ (Nat.two_pow_pos s)]
   have hr:Nt.val v11 % Nt.val v12=Nt.val a % Nt.val b * 2 ^ s:=by rw [hv11,hv12,Nat.mul_mod_mul_right]
   have e14:Nt.val v14=Nt.val a % Nt.val b * 2 ^ s:=by
    rw [h14,Nt.val_fix,hr,Nat.mod_eq_of_lt]
    have h1:Nt.val a % Nt.val b * 2 ^ s<Nt.val b * 2 ^ s:=Nat.mul_lt_mul_of_pos_right (Nat.mod_lt _ pb) (Nat.two_pow_pos s)
    rw [hl12];omega
   have e13:Nt.val v13=Nt.val a / Nt.val b:=by
    rw [h13,Nt.val_fix,hq,Nat.mod_eq_of_lt]
    have h1:=Nt.val_lt v11
    rw [←hq]
    refine (Nat.div_lt_iff_lt_mul (by rw [hv12];exact Nat.mul_pos pb (Nat.two_pow_pos s))).2 ?_
    have h2:65536 ^ (v11.length+1 - v12.length) * P≤65536 ^ (v11.length+1 - v12.length) * Nt.val v12:=Nat.mul_le_mul_left _ (by rw [hv12];omega)
    rw [←hP,←Nat.pow_add,show v11.length+1 - v12.length+(b.length - 1)=v11.length by omega] at h2
    omega
   have m10:decide ((Nt.of (Nt.val v14)).length≤1000000∧0≤v10∧v10<16)=true:=by
    refine decide_eq_true ⟨?_,by omega,by omega⟩
    have:=(Nt.of_length (Nt.val v14) v14.length).2 (Nt.val_lt v14)
    omega
   rw [ck_of m4,ck_of (by rw [m5];rfl),ck_of (by rw [m6];rfl),ck_of m7,ck_of m8,ck_of m9,ck_of m10,e13,h15,Nt.val_of,e14,Nat.mul_div_cancel _ (Nat.two_pow_pos s)]
end Go.Eng
namespace Go.Eng
open Go.IntWalk
theorem guess_low {B v1 v2 top u2 g r V T P:Nat} (hP:0<P) (htop:top=g * v1+r) (h:r * B+u2<g * v2) (hV:(v1 * B+v2) * P≤V) (hT:T<(top * B+u2+1) * P):T / V<g:=by
 have h1:top * B+u2+1≤g * (v1 * B+v2):=by
  rw [htop,Nat.add_mul,Nat.mul_add,Nat.mul_assoc];omega
 have h2:(top * B+u2+1) * P≤g * V:=by
  have:=Nat.mul_le_mul_right P h1
  rw [Nat.mul_assoc] at this
  exact Nat.le_trans this (Nat.mul_le_mul_left _ hV)
 have hV0:0<V:=by
  rcases Nat.eq_zero_or_pos V with e | e
  ·subst e;simp at h2;omega
  ·exact e
 exact (Nat.div_lt_iff_lt_mul hV0).2 (by omega)
theorem guess_exit {B v1 v2 top u2 g r V T P:Nat} (hB:g≤B) (htop:top=g * v1+r) (h:g * v2≤r * B+u2) (hV1:V<(v1 * B+v2+1) * P) (hV2:B * P≤V) (hT:(top * B+u2) * P≤T) (hV0:0<V):g≤T / V+1:=by
 rcases Nat.eq_zero_or_pos g with e | hg
 ·rw [e];exact Nat.zero_le _
 have h1:g * (v1 * B+v2)≤top * B+u2:=by
  rw [htop,Nat.add_mul,Nat.mul_add,Nat.mul_assoc];omega
 have h2:g * V<(g * (v1 * B+v2)+g) * P:=by
  have:=Nat.mul_lt_mul_of_pos_left hV1 hg
  rw [←Nat.mul_assoc,Nat.mul_add,Nat.mul_one] at this
  exact this
 have h3:(g * (v1 * B+v2)) * P≤(top * B+u2) * P:=Nat.mul_le_mul_right _ h1
 have h4:g * P≤B * P:=Nat.mul_le_mul_right _ hB
 rw [Nat.add_mul] at h2
 have h5:g * V<T+V:=by omega
 have h6:(g - 1) * V≤T:=by
  have:g * V=(g - 1) * V+V:=by rw [←Nat.succ_mul];congr 1;omega
  omega
 have:=(Nat.le_div_iff_mul_le hV0).2 h6
 omega
theorem guess_break {B v1 top g r V T P:Nat} (hg:g≤B) (htop:top=g * v1+r) (hr:B≤r) (hV:V≤(v1+1) * P) (hV0:0<V) (hT:top * P≤T):g≤T / V:=by
 refine (Nat.le_div_iff_mul_le hV0).2 ?_
 have h1:g * V≤g * ((v1+1) * P):=Nat.mul_le_mul_left _ hV
 have h2:g * ((v1+1) * P)=(g * v1+g) * P:=by rw [←Nat.mul_assoc,Nat.mul_add,Nat.mul_one]
 have h3:(g * v1+g) * P≤top * P:=Nat.mul_le_mul_right _ (by omega)
 omega
theorem shl64_16 {x:UInt64} (h:x.toNat<65536 * 65536):(shl64 x 16).toNat=x.toNat * 65536:=by
 rw [shl64,UInt64.toNat_ofNat'];omega
theorem or16 {a b:UInt64} {x:Nat} (ha:a.toNat=x * 65536) (hb:b.toNat<65536):(a ||| b).toNat=x * 65536+b.toNat:=by
 rw [UInt64.toNat_or,ha];exact or_add (a:=x) (b:=b.toNat) (k:=16) hb
theorem u64_sub1 {g:UInt64} (h:0<g.toNat):(g - 1).toNat=g.toNat - 1:=by
 have:=UInt64.toNat_sub_of_le g 1 (UInt64.le_iff_toNat_le.2 h)
 exact this
theorem bg_long.l2_ok (v w qs:List UInt16) (n j:Nat) (hn:n=v.length) (h2:2≤n) (hj:j+n<w.length) (hl:w.length≤1000001) {V T P top:Nat} (hP:0<P)
  (hv1:32768≤(v.getD (n - 1) 0).toNat) (htop:top=(w.getD (j+n) 0).toNat * 65536+(w.getD (j+n - 1) 0).toNat)
  (hVl:((v.getD (n - 1) 0).toNat * 65536+(v.getD (n - 2) 0).toNat) * P≤V) (hVu:V<((v.getD (n - 1) 0).toNat * 65536+(v.getD (n - 2) 0).toNat+1) * P)
  (hTl:(top * 65536+(w.getD (j+n - 2) 0).toNat) * P≤T) (hTu:T<(top * 65536+(w.getD (j+n - 2) 0).toNat+1) * P) (hq:T / V≤65535) :
  ∀(m:Nat) (g r:UInt64),g.toNat≤m→g.toNat≤65537→top=g.toNat * (v.getD (n - 1) 0).toNat+r.toNat→r.toNat≤65535→T / V≤g.toNat →
   ∃g':UInt64,T / V≤g'.toNat∧g'.toNat≤T / V+1∧g'.toNat≤65535∧bg_long.l2 v n j g r w qs=bg_long.j3 v n j g' w qs:=by
 intro m
 induction m with
 | zero =>
  intro g r hg hg2 ht hr hqg
  -- nothing is left to take away
  have g0:g.toNat=0:=by omega
  refine ⟨g,hqg,by rw [g0];exact Nat.zero_le _,by omega,?_⟩
  refine bg_long.l2_in _ _ _ _ _ _ _ ?_
  intro u1 h1 u2 h2' u3 h3 u4 h4 u5 h5 u6 h6 u7 h7 u8 h8 u9 h9 u10 h10 u11 h11 u12 h12
  have f1:decide ((65535:UInt64)<g)=false:=decide_eq_false fun e=>by
   have:=UInt64.lt_iff_toNat_lt.1 e
   have e0:(65535:UInt64).toNat=65535:=rfl
   omega
  have e1:u1=((n - 2:Nat):Int):=by rw [h1,i64_in _ (by omega)];omega
  have e5:u5=((j+n - 2:Nat):Int):=by rw [h5,i64_in ((j:Int)+n) (by omega),i64_in _ (by omega)];omega
  have x1:idxOK u1 v.length=true:=idx_ok (by omega) (by omega)
  have x2:idxOK u5 w.length=true:=idx_ok (by omega) (by omega)
  have x3:decide (u5.toNat<w.length)=true:=decide_eq_true (by omega)
  have e8:u8=false:=by
   rw [h8]
   refine decide_eq_false fun e=>?_
   have:=UInt64.lt_iff_toNat_lt.1 e
   rw [UInt64.toNat_mul,g0,Nat.zero_mul,Nat.zero_mod] at this
   omega
  have e9:u9=false:=by rw [h9,f1,cond_false,e8]
  simp only [f1,e9,x1,x2,x3,Bool.not_false,Bool.not_true,Bool.false_or,Bool.or_true,Bool.true_or,Bool.and_self,ck_true,cond_false]
 | succ m ih =>
  intro g r hg hg2 ht hr hqg
  have hB:(65535:UInt64).toNat=65535:=rfl
  have w1:=(v.getD (n - 1) 0).toNat_lt
  have w2:=(v.getD (n - 2) 0).toNat_lt
  have w3:=(w.getD (j+n - 2) 0).toNat_lt
  have step:∀ρ:OT,(∀(u9:Bool),u9=decide (65535<g.toNat∨r.toNat * 65536+(w.getD (j+n - 2) 0).toNat<g.toNat * (v.getD (n - 2) 0).toNat)→∀u12:UInt64,u12.toNat=(v.getD (n - 1) 0).toNat →
    cond u9 (cond (decide ((65535:UInt64)<(r+u12))) (bg_long.j3 v n j (g - 1) w qs) (bg_long.l2 v n j (g - 1) (r+u12) w qs)) (bg_long.j3 v n j g w qs)=ρ)→bg_long.l2 v n j g r w qs=ρ:=by
   intro ρ hρ
   refine bg_long.l2_in _ _ _ _ _ _ _ ?_
   intro u1 h1 u2 h2' u3 h3 u4 h4 u5 h5 u6 h6 u7 h7 u8 h8 u9 h9 u10 h10 u11 h11 u12 h12
   have e1:u1=((n - 2:Nat):Int):=by rw [h1,i64_in _ (by omega)];omega
   have e5:u5=((j+n - 2:Nat):Int):=by rw [h5,i64_in ((j:Int)+n) (by omega),i64_in _ (by omega)];omega
   have e10:u10=((n - 1:Nat):Int):=by rw [h10,i64_in _ (by omega)];omega
   rw [e1,Int.toNat_natCast] at h2'
   rw [e5,Int.toNat_natCast] at h6
   rw [e10,Int.toNat_natCast] at h11
   have x1:idxOK u1 v.length=true:=idx_ok (by omega) (by omega)
   have x2:idxOK u5 w.length=true:=idx_ok (by omega) (by omega)
   have x3:decide (u5.toNat<w.length)=true:=decide_eq_true (by omega)
   have x4:idxOK u10 v.length=true:=idx_ok (by omega) (by omega)
   have f3:u3.toNat=(v.getD (n - 2) 0).toNat:=by rw [h3,u64_of_u16,h2']
   have f7:u7.toNat=(w.getD (j+n - 2) 0).toNat:=by rw [h7,u64_of_u16,h6]
   have f12:u12.toNat=(v.getD (n - 1) 0).toNat:=by rw [h12,u64_of_u16,h11]
   have f4:u4.toNat=r.toNat * 65536:=by rw [h4];exact shl64_16 (by omega)
   have f47:=or16 f4 (b:=u7) (by omega)
   have hm:g.toNat * (v.getD (n - 2) 0).toNat≤65537 * 65535:=Nat.mul_le_mul hg2 (by omega)
   have fm:(g * u3).toNat=g.toNat * (v.getD (n - 2) 0).toNat:=by rw [UInt64.toNat_mul,f3,Nat.mod_eq_of_lt (by omega)]
   have hr9:=hρ u9 (by
    rw [h9,h8,Bool.eq_iff_iff]
    simp only [UInt64.lt_iff_toNat_lt,hB,f47,fm,f7]
    by_cases c:65535<g.toNat
    ·simp [c]
    ·simp [c]) u12 f12
   cases hb:decide ((65535:UInt64)<g) with
   | true =>
    rw [hb,cond_true] at h9
    simp only [x1,x2,x3,x4,Bool.not_false,Bool.not_true,Bool.false_or,Bool.or_true,Bool.true_or,Bool.and_self,Bool.or_self,Bool.not_or_self,Bool.or_not_self,ck_true]
    exact hr9
   | false =>
    simp only [x1,x2,x3,x4,Bool.not_false,Bool.not_true,Bool.false_or,Bool.or_true,Bool.true_or,Bool.and_self,Bool.or_self,Bool.not_or_self,Bool.or_not_self,ck_true]
    exact hr9
  by_cases c:65535<g.toNat∨r.toNat * 65536+(w.getD (j+n - 2) 0).toNat<g.toNat * (v.getD (n - 2) 0).toNat
  ·have hlt:T / V<g.toNat:=by
    rcases c with c | c
    ·omega
    ·exact guess_low hP ht c hVl hTu
   have hg0:0<g.toNat:=Nat.lt_of_le_of_lt (Nat.zero_le _) hlt
   have gs:=u64_sub1 (g:=g) hg0
   have ht':top=(g.toNat - 1) * (v.getD (n - 1) 0).toNat+(r.toNat+(v.getD (n - 1) 0).toNat):=by
    have:g.toNat * (v.getD (n - 1) 0).toNat=(g.toNat - 1) * (v.getD (n - 1) 0).toNat+(v.getD (n - 1) 0).toNat:=by rw [←Nat.succ_mul];congr 1;omega
    omega
   by_cases c2:65535<r.toNat+(v.getD (n - 1) 0).toNat
   ·have hV0:0<V:=Nat.lt_of_lt_of_le (Nat.mul_pos (by omega) hP) hVl
    have hle:g.toNat - 1≤T / V:=by
     refine guess_break (B:=65536) (P:=65536 * P) (by omega) ht' (by omega) ?_ hV0 ?_
     ·have e:((v.getD (n - 1) 0).toNat+1) * (65536 * P)=(((v.getD (n - 1) 0).toNat+1) * 65536) * P:=by rw [Nat.mul_assoc]
      rw [e]
      refine Nat.le_trans (Nat.le_of_lt hVu) (Nat.mul_le_mul_right _ (by omega))
     ·have e:top * (65536 * P)=(top * 65536) * P:=by rw [Nat.mul_assoc]
      rw [e]
      exact Nat.le_trans (Nat.mul_le_mul_right _ (by omega)) hTl
    refine ⟨g - 1,by omega,by rw [gs];exact Nat.le_succ_of_le hle,by omega,step _ fun u9 h9 u12 h12=>?_⟩
    have e:(r+u12).toNat=r.toNat+(v.getD (n - 1) 0).toNat:=by rw [UInt64.toNat_add,h12,Nat.mod_eq_of_lt (by omega)]
    rw [h9,decide_eq_true c,cond_true,decide_eq_true (by rw [UInt64.lt_iff_toNat_lt,e,hB];exact c2),cond_true]
   ·have e:∀u12:UInt64,u12.toNat=(v.getD (n - 1) 0).toNat→(r+u12).toNat=r.toNat+(v.getD (n - 1) 0).toNat:=fun u12 h12=>by rw [UInt64.toNat_add,h12,Nat.mod_eq_of_lt (by omega)]
    obtain ⟨g',i1,i2,i3,i4⟩:=ih (g - 1) (r+UInt64.ofInt ((v.getD (n - 1) 0).toNat:Int)) (by omega) (by omega) (by rw [gs,e _ (u64_of_u16 _)];exact ht') (by rw [e _ (u64_of_u16 _)];omega) (by omega)
    refine ⟨g',i1,i2,i3,step _ fun u9 h9 u12 h12=>?_⟩
    have e12:u12=UInt64.ofInt ((v.getD (n - 1) 0).toNat:Int):=UInt64.toNat_inj.1 (by rw [h12,u64_of_u16])
    rw [h9,decide_eq_true c,cond_true,decide_eq_false (by rw [UInt64.lt_iff_toNat_lt,e _ h12,hB];exact c2),cond_false,e12]
    exact i4
  ·have c1:g.toNat≤65535:=by omega
   refine ⟨g,hqg,guess_exit (B:=65536) (by omega) ht (by omega) hVu ?_ hTl (Nat.lt_of_lt_of_le (Nat.mul_pos (by omega) hP) hVl),c1,step _ fun u9 h9 u12 h12=>?_⟩
   ·refine Nat.le_trans (Nat.mul_le_mul_right _ ?_) hVl
    omega
   ·rw [h9,decide_eq_false c,cond_false]
end Go.Eng
namespace Go.Eng
open Go.IntWalk
theorem drop_set_ge {α:Type} (l:List α) (j i:Nat) (x:α):(l.set (j+i) x).drop j=(l.drop j).set i x:=by
 rw [List.drop_set,if_neg (by omega)];congr 1;omega
theorem win_succ (w:List UInt16) (j i:Nat) (h:j+i<w.length):Nt.val ((w.drop j).take (i+1))=Nt.val ((w.drop j).take i)+65536 ^ i * (w.getD (j+i) 0).toNat:=by
 have:=val_take_succ (w.drop j) i (by rw [List.length_drop];omega)
 rw [this]
 congr 3
 simp [List.getD_eq_getElem?_getD]
theorem win_set (w:List UInt16) (j i:Nat) (d:UInt16) (h:j+i<w.length):Nt.val (((w.set (j+i) d).drop j).take (i+1))=Nt.val ((w.drop j).take i)+65536 ^ i * d.toNat:=by
 rw [win_succ _ _ _ (by rw [List.length_set];exact h),getD_set_ne _ _ _ _ h,drop_set_ge,List.take_set_of_le (Nat.le_refl _)]
theorem win_lt (w:List UInt16) (j i:Nat):Nt.val ((w.drop j).take i)<65536 ^ i:=by
 refine Nat.lt_of_lt_of_le (Nt.val_lt _) (Nat.pow_le_pow_right (by omega) ?_)
 rw [List.length_take];omega
theorem fdiv16i (x:Int):Int.fdiv x (2 ^ (min (16:UInt64).toNat IntKind.i64.bits))=x / 65536:=by
 rw [show (2:Int) ^ (min (16:UInt64).toNat IntKind.i64.bits)=65536 by decide,Int.fdiv_eq_ediv_of_nonneg _ (by omega)]
theorem and_one_i64 (x:Int) (h:x=0∨x=-1∨x=-2):intBitsV .and .i64 x 1=x % 2:=by
 rcases h with rfl | rfl | rfl <;> decide
theorem u16_ofInt_nat (x:Int):(UInt16.ofInt x).toNat=(x % 65536).toNat:=by
 have h:=u16_ofInt x
 rw [wrap_u16'] at h
 omega
theorem bg_long.l5_ok (v w0 qs:List UInt16) (n j:Nat) (g:UInt64) (hn:n=v.length) (hj:j+n<w0.length) (hl:w0.length≤1000001):∀(m i:Nat) (c:UInt32) (w:List UInt16),i+m=n→c.toNat≤1→w.length=w0.length→w.take j=w0.take j→w.drop (j+i)=w0.drop (j+i) →
   Nt.val ((w0.drop j).take i)+Nt.val (v.take i)=Nt.val ((w.drop j).take i)+65536 ^ i * c.toNat →
   ∃(c':Nat) (w':List UInt16),c'≤1∧w'.length=w0.length∧w'.take j=w0.take j∧w'.drop (j+n+1)=w0.drop (j+n+1)∧Nt.val ((w0.drop j).take n)+Nt.val v=Nt.val ((w'.drop j).take n)+65536 ^ n * c' ∧
    (w'.getD (j+n) 0).toNat=((w0.getD (j+n) 0).toNat+c') % 65536∧bg_long.l5 v n j g c n i w qs=bg_long.j6 v n j g w' qs:=by
 intro m
 induction m with
 | zero =>
  intro i c w hi hc hwl ht hd hv
  obtain rfl:i=n:=by omega
  rw [List.take_of_length_le (l:=v) (by omega)] at hv
  have hlt:j+i<w.length:=by omega
  refine ⟨c.toNat,w.set (j+i) (w.getD (j+i) 0+UInt16.ofNat c.toNat),hc,by rw [List.length_set];exact hwl,by rw [List.take_set_of_le (by omega)];exact ht,?_,?_,?_,?_⟩
  ·rw [List.drop_set_of_lt (by omega),show j+i+1=(j+i)+1 from rfl,←List.drop_drop (l:=w),hd,List.drop_drop]
  ·rw [drop_set_ge,List.take_set_of_le (Nat.le_refl _)];exact hv
  ·rw [getD_set_ne _ _ _ _ hlt,UInt16.toNat_add,Nt.u16_ofNat,Nat.add_mod_mod]
   congr 3
   have e1:w.getD (j+i) 0=(w.drop (j+i)).getD 0 0:=by simp [List.getD_eq_getElem?_getD]
   have e2:w0.getD (j+i) 0=(w0.drop (j+i)).getD 0 0:=by simp [List.getD_eq_getElem?_getD]
   rw [e1,e2,hd]
  ·refine bg_long.l5_in _ _ _ _ _ _ _ _ _ ?_
   intro v1 h1 v2 h2 v3 h3 v4 h4 v5 h5 v6 h6 v7 h7 v8 h8 v9 h9 v10 h10 v11 h11 v12 h12
   have eji:IntKind.i64.wrap ((j:Int)+(i:Int))=((j+i:Nat):Int):=by rw [i64_in _ (by omega)];omega
   rw [eji,Int.toNat_natCast] at h9
   rw [h9] at h10 h12
   rw [decide_eq_false (by omega),cond_false,eji,ck_of (idx_ok (by omega) (by omega)),ck_of (decide_eq_true (by omega)),ck_of (idx_ok (by omega) (by omega)),ck_of (decide_eq_true (by omega)),h12,h10,h11,u16_of_u32]
 | succ m ih =>
  intro i c w hi hc hwl ht hd hv
  have hlt:j+i<w.length:=by omega
  have w1:=(w.getD (j+i) 0).toNat_lt
  have w2:=(v.getD i 0).toNat_lt
  have ew:w.getD (j+i) 0=w0.getD (j+i) 0:=by
   have e1:w.getD (j+i) 0=(w.drop (j+i)).getD 0 0:=by simp [List.getD_eq_getElem?_getD]
   have e2:w0.getD (j+i) 0=(w0.drop (j+i)).getD 0 0:=by simp [List.getD_eq_getElem?_getD]
   rw [e1,e2,hd]
  obtain ⟨s,hs⟩:∃s,s=c.toNat+((w.getD (j+i) 0).toNat+(v.getD i 0).toNat):=⟨_,rfl⟩
  obtain ⟨c',w',r1,r2,r3,r4,r5,r6,r7⟩:=ih (i+1) (UInt32.ofNat (s / 65536)) (w.set (j+i) (UInt16.ofNat s)) (by omega) (by simp;omega) (by rw [List.length_set];exact hwl) (by rw [List.take_set_of_le (by omega)];exact ht)
   (by rw [List.drop_set_of_lt (by omega),show j+(i+1)=(j+i)+1 from rfl,←List.drop_drop (l:=w),hd,List.drop_drop]) (by
    rw [win_succ w0 j i (by omega),win_set w j i _ hlt,val_take_succ v i (by omega),Nt.u16_ofNat]
    have e:(UInt32.ofNat (s / 65536)).toNat=s / 65536:=by simp;omega
    rw [e,Nat.pow_succ,Nat.mul_assoc,Nat.add_assoc (Nt.val ((w.drop j).take i)),←Nat.mul_add,Nat.mod_add_div,hs,←ew,Nat.mul_add,Nat.mul_add]
    omega)
  refine ⟨c',w',r1,r2,r3,r4,r5,r6,?_⟩
  rw [←r7]
  refine bg_long.l5_in _ _ _ _ _ _ _ _ _ ?_
  intro v1 h1 v2 h2 v3 h3 v4 h4 v5 h5 v6 h6 v7 h7 v8 h8 v9 h9 v10 h10 v11 h11 v12 h12
  have eji:IntKind.i64.wrap ((i:Int)+(j:Int))=((j+i:Nat):Int):=by rw [i64_in _ (by omega)];omega
  rw [eji,Int.toNat_natCast] at h1
  rw [h1] at h2
  rw [Int.toNat_natCast] at h4
  have es:(c+(v3+v5)).toNat=s:=by
   rw [UInt32.toNat_add,UInt32.toNat_add,h3,h5,u32_of_u16,u32_of_u16,h2,h4,hs];omega
  have e6:v6=UInt16.ofNat s:=by rw [h6,u16_of_u32,es]
  have e7:v7=UInt32.ofNat (s / 65536):=by
   apply UInt32.toNat_inj.1
   rw [h7,shr32,es,show (16:UInt64).toNat=16 from rfl]
  have e8:v8=((i+1:Nat):Int):=by rw [h8,i64_in _ (by omega)];omega
  rw [decide_eq_true (by omega),cond_true,eji,ck_of (idx_ok (by omega) (by omega)),ck_of (decide_eq_true (by omega)),ck_of (idx_ok (by omega) (by omega)),ck_of (idx_ok (by omega) (by omega)),ck_of (decide_eq_true (by omega)),e6,e7,e8,h1]
end Go.Eng
namespace Go.Eng
open Go.IntWalk
theorem and16 (x:UInt64):(x &&& 65535).toNat=x.toNat % 65536:=by
 rw [UInt64.toNat_and,show (65535:UInt64).toNat=2 ^ 16 - 1 from rfl,Nat.and_two_pow_sub_one_eq_mod]
theorem getD_of_drop {w w0:List UInt16} {k:Nat} (h:w.drop k=w0.drop k):w.getD k 0=w0.getD k 0:=by
 have e1:w.getD k 0=(w.drop k).getD 0 0:=by simp [List.getD_eq_getElem?_getD]
 have e2:w0.getD k 0=(w0.drop k).getD 0 0:=by simp [List.getD_eq_getElem?_getD]
 rw [e1,e2,h]
theorem drop_more {w w0:List UInt16} {k:Nat} (x:UInt16) (h:w.drop k=w0.drop k):(w.set k x).drop (k+1)=w0.drop (k+1):=by
 rw [List.drop_set_of_lt (by omega),←List.drop_drop (l:=w),h,List.drop_drop]
theorem bg_long.l4_ok (v w0 qs:List UInt16) (n j:Nat) (g:UInt64) (hn:n=v.length) (hj:j+n<w0.length) (hl:w0.length≤1000001) (hg:g.toNat≤65535) {T:Nat} (hT:T=Nt.val ((w0.drop j).take (n+1))) (hV0:0<Nt.val v) (hg1:T / Nt.val v≤g.toNat) (hg2:g.toNat≤T / Nt.val v+1) :
  ∀(m i b:Nat) (c:UInt64) (w:List UInt16),i+m=n→b≤1→c.toNat≤65535→w.length=w0.length→w.take j=w0.take j→w.drop (j+i)=w0.drop (j+i) →
   Nt.val ((w0.drop j).take i)+65536 ^ i * (b+c.toNat)=Nt.val ((w.drop j).take i)+g.toNat * Nt.val (v.take i) →
   ∃(q:UInt64) (w':List UInt16),q.toNat=T / Nt.val v∧w'.length=w0.length∧w'.take j=w0.take j∧w'.drop (j+n+1)=w0.drop (j+n+1)∧Nt.val ((w'.drop j).take (n+1))=T % Nt.val v∧bg_long.l4 v n j g b c n i w qs=bg_long.j6 v n j q w' qs:=by
 have hVn:Nt.val v<65536 ^ n:=by rw [hn];exact Nt.val_lt v
 intro m
 induction m with
 | zero =>
  intro i b c w hi hb hc hwl ht hd hv
  obtain rfl:i=n:=by omega
  rw [List.take_of_length_le (l:=v) (by omega)] at hv
  have hlt:j+i<w.length:=by omega
  have hwin:=win_lt w j i
  have ew:=getD_of_drop hd
  have hTe:=win_succ w0 j i (by omega)
  rw [←hT,←ew] at hTe
  have w1:=(w.getD (j+i) 0).toNat_lt
  have hdm:=Nat.div_add_mod T (Nt.val v)
  have hR:=Nat.mod_lt T hV0
  generalize T / Nt.val v=q at *
  generalize hRR:T % Nt.val v=R at *
  generalize hVV:Nt.val v=V at *
  generalize hBB:65536 ^ i=P at *
  generalize hx:Nt.val ((w.drop j).take i)=X at *
  generalize hx0:Nt.val ((w0.drop j).take i)=X0 at *
  generalize hy:(w.getD (j+i) 0).toNat=y at *
  -- the top digit,less what is taken
  have hmain:(V * q+R)+P * (b+c.toNat)=X+g.toNat * V+P * y:=by rw [hdm,hTe];omega
  have step:∀ρ:OT,(∀v20:List UInt16,v20=w.set (j+i) (UInt16.ofInt ((y:Int) - b - c.toNat))→cond (decide ((y:Int) - b - c.toNat<0)) (bg_long.l5 v i j (g - 1) 0 i 0 v20 qs) (bg_long.j6 v i j g v20 qs)=ρ)→bg_long.l4 v i j g b c i i w qs=ρ:=by
   intro ρ hρ
   refine bg_long.l4_in _ _ _ _ _ _ _ _ _ _ ?_
   intro v1 h1 v2 h2 v3 h3 v4 h4 v5 h5 v6 h6 v7 h7 v8 h8 v9 h9 v10 h10 v11 h11 v12 h12 v13 h13 v14 h14 v15 h15 v16 h16 v17 h17 v18 h18 v19 h19 v20 h20
   have eji:IntKind.i64.wrap ((j:Int)+(i:Int))=((j+i:Nat):Int):=by rw [i64_in _ (by omega)];omega
   rw [eji,Int.toNat_natCast] at h14
   rw [h14] at h15 h20
   rw [h15,hy,i64_in _ (by omega)] at h16
   have e18:v18=(c.toNat:Int):=by rw [h18,i64_in _ (by omega)]
   have e17:v17=(y:Int) - b:=by rw [h17,i64_in _ (by omega),h16]
   have e19:v19=(y:Int) - b - c.toNat:=by rw [h19,i64_in _ (by omega),e17,e18]
   rw [decide_eq_false (by omega),cond_false,eji,ck_of (idx_ok (by omega) (by omega)),ck_of (decide_eq_true (by omega)),ck_of (idx_ok (by omega) (by omega)),ck_of (decide_eq_true (by omega)),e19]
   exact hρ v20 (by rw [h20,e19])
  by_cases cg:g.toNat=q
  ·-- the guess is right
   have e0:y=b+c.toNat:=by
    rw [cg,Nat.mul_comm q V] at hmain
    rcases Nat.lt_trichotomy y (b+c.toNat) with h | h | h
    ·have:P * (y+1)≤P * (b+c.toNat):=Nat.mul_le_mul_left _ h
     rw [Nat.mul_add,Nat.mul_one] at this
     omega
    ·exact h
    ·have:P * (b+c.toNat+1)≤P * y:=Nat.mul_le_mul_left _ h
     rw [Nat.mul_add,Nat.mul_one] at this
     omega
   have eR:X=R:=by
    rw [cg,Nat.mul_comm q V,e0] at hmain
    omega
   refine ⟨g,w.set (j+i) 0,cg,by rw [List.length_set];exact hwl,by rw [List.take_set_of_le (by omega)];exact ht,drop_more 0 hd,?_,step _ fun v20 h20=>?_⟩
   ·rw [win_set w j i 0 hlt,hx,eR];simp
   ·rw [decide_eq_false (by omega),cond_false,h20,show (y:Int) - b - c.toNat=0 by omega];rfl
  ·-- the guess is one too great
   have cg':g.toNat=q+1:=by omega
   have hq1:g.toNat * V=V * q+V:=by rw [cg',Nat.succ_mul,Nat.mul_comm]
   rw [hq1] at hmain
   have e0:y+1=b+c.toNat:=by
    rcases Nat.lt_trichotomy (y+1) (b+c.toNat) with h | h | h
    ·have:P * (y+2)≤P * (b+c.toNat):=Nat.mul_le_mul_left _ h
     rw [Nat.mul_add] at this
     omega
    ·exact h
    ·have:P * (b+c.toNat)≤P * y:=Nat.mul_le_mul_left _ (by omega)
     omega
   have eX:X+V=R+P:=by
    have:P * (b+c.toNat)=P * y+P:=by rw [←e0,Nat.mul_add,Nat.mul_one]
    omega
   have hs0:(w.set (j+i) (65535:UInt16)).length=w.length:=List.length_set
   obtain ⟨c',w',r1,r2,r3,r4,r5,r6,r7⟩:=bg_long.l5_ok v (w.set (j+i) 65535) qs i j (g - 1) hn (by omega) (by omega) i 0 0 (w.set (j+i) 65535) (by omega) (by decide) rfl rfl rfl (by simp [Nt.val])
   rw [drop_set_ge,List.take_set_of_le (Nat.le_refl _),hx,hVV,hBB] at r5
   have hwin':=win_lt w' j i
   rw [hBB] at hwin'
   have ec:c'=1:=by
    rcases Nat.lt_or_ge c' 1 with h | h
    ·obtain rfl:c'=0:=by omega
     rw [Nat.mul_zero] at r5;omega
    ·omega
   rw [ec,Nat.mul_one] at r5
   rw [getD_set_ne _ _ _ _ hlt,ec,show ((65535:UInt16).toNat+1) % 65536=0 from rfl] at r6
   refine ⟨g - 1,w',by rw [u64_sub1 (by omega)];omega,by omega,by rw [r3,List.take_set_of_le (by omega)];exact ht,by rw [r4];exact drop_more _ hd,?_,step _ fun v20 h20=>?_⟩
   ·rw [win_succ w' j i (by omega),r6,Nat.mul_zero,Nat.add_zero];omega
   ·rw [decide_eq_true (by omega),cond_true,h20,show (y:Int) - b - c.toNat=-1 by omega]
    exact r7
 | succ m ih =>
  intro i b c w hi hb hc hwl ht hd hv
  have hlt:j+i<w.length:=by omega
  have w1:=(w.getD (j+i) 0).toNat_lt
  have w2:=(v.getD i 0).toNat_lt
  have ew:=getD_of_drop hd
  have hm:g.toNat * (v.getD i 0).toNat≤65535 * 65535:=Nat.mul_le_mul hg (by omega)
  obtain ⟨p,hp⟩:∃p,p=g.toNat * (v.getD i 0).toNat+c.toNat:=⟨_,rfl⟩
  obtain ⟨y,hy⟩:∃y,y=(w.getD (j+i) 0).toNat:=⟨_,rfl⟩
  obtain ⟨z,hz⟩:∃z:Int,z=(y:Int) - b - ((p % 65536:Nat):Int):=⟨_,rfl⟩
  obtain ⟨b',hb'⟩:∃b':Nat,b'=if z<0 then 1 else 0:=⟨_,rfl⟩
  have hzd:((z % 65536).toNat:Int)=z+65536 * b':=by
   rw [hb'];split <;> omega
  have hb1:b'≤1:=by rw [hb'];split <;> omega
  have ec:(UInt64.ofNat (p / 65536)).toNat=p / 65536:=by rw [UInt64.toNat_ofNat'];omega
  obtain ⟨q,w',r1,r2,r3,r4,r5,r6⟩:=ih (i+1) b' (UInt64.ofNat (p / 65536)) (w.set (j+i) (UInt16.ofInt z)) (by omega) hb1 (by rw [ec];omega) (by rw [List.length_set];exact hwl) (by rw [List.take_set_of_le (by omega)];exact ht) (drop_more _ hd) (by
   rw [win_succ w0 j i (by omega),win_set w j i _ hlt,val_take_succ v i (by omega),ec,u16_ofInt_nat,←ew,←hy,Nat.pow_succ,Nat.mul_assoc]
   have e1:y+65536 * b'=(z % 65536).toNat+b+p % 65536:=by omega
   have e2:p % 65536+65536 * (p / 65536)=p:=Nat.mod_add_div p 65536
   have e3:y+65536 * (b'+p / 65536)=(z % 65536).toNat+b+p:=by omega
   rw [Nat.add_assoc,←Nat.mul_add,e3,Nat.mul_add,Nat.mul_add,hp,Nat.mul_add]
   have e4:65536 ^ i * (b+c.toNat)=65536 ^ i * b+65536 ^ i * c.toNat:=Nat.mul_add _ _ _
   have e5:g.toNat * (Nt.val (v.take i)+65536 ^ i * (v.getD i 0).toNat)=g.toNat * Nt.val (v.take i)+65536 ^ i * (g.toNat * (v.getD i 0).toNat):=by rw [Nat.mul_add,Nat.mul_left_comm]
   omega)
  refine ⟨q,w',r1,r2,r3,r4,r5,?_⟩
  rw [←r6]
  refine bg_long.l4_in _ _ _ _ _ _ _ _ _ _ ?_
  intro v1 h1 v2 h2 v3 h3 v4 h4 v5 h5 v6 h6 v7 h7 v8 h8 v9 h9 v10 h10 v11 h11 v12 h12 v13 h13 v14 h14 v15 h15 v16 h16 v17 h17 v18 h18 v19 h19 v20 h20
  have eji:IntKind.i64.wrap ((i:Int)+(j:Int))=((j+i:Nat):Int):=by rw [i64_in _ (by omega)];omega
  rw [eji,Int.toNat_natCast] at h4
  rw [h4] at h5 h12
  rw [Int.toNat_natCast] at h1
  have f2:v2.toNat=(v.getD i 0).toNat:=by rw [h2,u64_of_u16,h1]
  have fp:(g * v2+c).toNat=p:=by rw [UInt64.toNat_add,UInt64.toNat_mul,f2,hp];omega
  have f3:v3=UInt64.ofNat (p / 65536):=by
   apply UInt64.toNat_inj.1
   rw [h3,ec]
   exact (shr64_16 _).trans (by rw [fp])
  have f6:v6=(y:Int):=by rw [h6,h5,i64_in _ (by omega),hy]
  have f7:v7.toNat=p % 65536:=by rw [h7,and16,fp]
  have f8:v8=((p % 65536:Nat):Int):=by rw [h8,f7,i64_in _ (by omega)]
  have f9:v9=z:=by rw [h9,f6,f8,i64_in ((y:Int) - b) (by omega),i64_in _ (by omega),hz]
  have f10:v10=-(b':Int):=by rw [h10,f9,fdiv16i,hb'];split <;> omega
  have f11:v11=(b':Int):=by rw [h11,f10,and_one_i64 _ (by omega)];omega
  have f13:v13=((i+1:Nat):Int):=by rw [h13,i64_in _ (by omega)];omega
  rw [decide_eq_true (by omega),cond_true,eji,ck_of (idx_ok (by omega) (by omega)),ck_of (idx_ok (by omega) (by omega)),ck_of (decide_eq_true (by omega)),ck_of (idx_ok (by omega) (by omega)),ck_of (decide_eq_true (by omega)),f11,f3,f13,h12,f9]
end Go.Eng
namespace Go.Eng
open Go.IntWalk
theorem getLast_getD {v:List UInt16} (h:v≠[]):v.getLast?.getD 0=v.getD (v.length - 1) 0:=by
 obtain ⟨b,d,rfl⟩:∃b d,v=b++[d]:=⟨v.dropLast,v.getLast h,(List.dropLast_concat_getLast _).symm⟩
 rw [List.length_append,List.length_singleton,Nat.add_sub_cancel,getD_snoc];simp
theorem val_split (w:List UInt16) (k:Nat):Nt.val w=Nt.val (w.take k)+65536 ^ (w.take k).length * Nt.val (w.drop k):=by
 rw [←Nt.val_append,List.take_append_drop]
theorem getD_of_take {w u:List UInt16} {k i:Nat} (h:w.take k=u.take k) (hi:i<k):w.getD i 0=u.getD i 0:=by
 have:=congrArg (fun l=>l.getD i 0) h
 simpa [List.getD_eq_getElem?_getD,List.getElem?_take,hi] using this
theorem take_less {w u:List UInt16} {k j:Nat} (h:w.take k=u.take k) (hj:j≤k):w.take j=u.take j:=by
 have:=congrArg (fun l=>l.take j) h
 simpa [List.take_take,Nat.min_eq_left hj] using this
theorem bg_long.l1_ok (v U:List UInt16) (n:Nat) (hn:n=v.length) (h2:2≤n) (hU:n<U.length) (hl:U.length≤1000001) (hv1:32768≤(v.getD (n - 1) 0).toNat) :
  ∀(k:Nat) (w qs:List UInt16),k+n≤U.length→w.length=U.length→qs.length=U.length - n→w.take k=U.take k→Nt.val (w.drop k)=Nt.val (U.drop k) % Nt.val v→Nt.val (qs.drop k)=Nt.val (U.drop k) / Nt.val v →
   bg_long.l1 v n ((k:Int) - 1) w qs=some [.sl .ws (Nt.fix (U.length - n) (Nt.val U / Nt.val v)),.sl .ws (Nt.fix n (Nt.val U % Nt.val v))]:=by
 -- the divisor's two highest digits
 have e1:=val_take_succ v (n - 1) (by omega)
 have e2:=val_take_succ v (n - 2) (by omega)
 rw [show n - 1+1=n by omega,List.take_of_length_le (by omega)] at e1
 rw [show n - 2+1=n - 1 by omega] at e2
 have hlo:=Nt.val_lt (v.take (n - 2))
 rw [List.length_take,Nat.min_eq_left (by omega)] at hlo
 have hPP:65536 ^ (n - 1)=65536 ^ (n - 2) * 65536:=by rw [←Nat.pow_succ];congr 1;omega
 have hP0:0<65536 ^ (n - 2):=Nat.pow_pos (by omega)
 rw [hPP] at e1
 have hVe:Nt.val v=Nt.val (v.take (n - 2))+65536 ^ (n - 2) * ((v.getD (n - 1) 0).toNat * 65536+(v.getD (n - 2) 0).toNat):=by
  rw [e1,e2,Nat.mul_add,Nat.mul_assoc,Nat.mul_comm (v.getD (n - 1) 0).toNat 65536];omega
 have hVl:((v.getD (n - 1) 0).toNat * 65536+(v.getD (n - 2) 0).toNat) * 65536 ^ (n - 2)≤Nt.val v:=by rw [hVe,Nat.mul_comm];omega
 have hVu:Nt.val v<((v.getD (n - 1) 0).toNat * 65536+(v.getD (n - 2) 0).toNat+1) * 65536 ^ (n - 2):=by
  rw [hVe,Nat.add_mul _ 1,Nat.one_mul,Nat.mul_comm ((v.getD (n - 1) 0).toNat * 65536+(v.getD (n - 2) 0).toNat)];omega
 have hV0:0<Nt.val v:=Nat.lt_of_lt_of_le (Nat.mul_pos (by omega) hP0) hVl
 have hVn:Nt.val v<65536 ^ n:=by rw [hn];exact Nt.val_lt v
 intro k
 induction k with
 | zero =>
  intro w qs hk hwl hql ht hw hq
  refine bg_long.l1_in _ _ _ _ _ ?_
  intro v1 h1 v2 h2 v3 h3 v4 h4 v5 h5 v6 h6 v7 h7 v8 h8 v9 h9 v10 h10
  rw [List.drop_zero,List.drop_zero] at hw hq
  rw [decide_eq_false (by omega),cond_false,ck_of (cut_ok (by omega) (by omega) (by omega)),Int.toNat_natCast]
  have eq:qs=Nt.fix (U.length - n) (Nt.val U / Nt.val v):=Nt.val_inj (by rw [Nt.fix_length,hql]) (by
   rw [Nt.val_fix,hq,Nat.mod_eq_of_lt]
   rw [←hq,←hql];exact Nt.val_lt qs)
  have er:w.take n=Nt.fix n (Nt.val U % Nt.val v):=Nt.val_inj (by rw [Nt.fix_length,List.length_take];omega) (by
   have hm:=Nat.mod_lt (Nt.val U) hV0
   have hs:=val_split w n
   have hwn:(w.take n).length=n:=by rw [List.length_take];omega
   rw [hwn] at hs
   have h0:Nt.val (w.drop n)=0:=by
    rcases Nat.eq_zero_or_pos (Nt.val (w.drop n)) with e | e
    ·exact e
    ·have:=Nat.mul_le_mul_left (65536 ^ n) e
     rw [Nat.mul_one] at this
     omega
   rw [h0,Nat.mul_zero,Nat.add_zero] at hs
   rw [Nt.val_fix,Nat.mod_eq_of_lt (by omega),←hs,hw])
  rw [eq,er]
 | succ j ih =>
  intro w qs hk hwl hql ht hw hq
  have ek:((j+1:Nat):Int) - 1=(j:Int):=by omega
  rw [ek]
  -- what is divided now
  have hm:=Nat.mod_lt (Nt.val (U.drop (j+1))) hV0
  have hs:=val_split (w.drop (j+1)) n
  have hwn:((w.drop (j+1)).take n).length=n:=by rw [List.length_take,List.length_drop];omega
  rw [hwn] at hs
  have h0:Nt.val ((w.drop (j+1)).drop n)=0:=by
   rcases Nat.eq_zero_or_pos (Nt.val ((w.drop (j+1)).drop n)) with e | e
   ·exact e
   ·have:=Nat.mul_le_mul_left (65536 ^ n) e
    rw [Nat.mul_one] at this
    omega
  have hs:Nt.val (w.drop (j+1))=Nt.val ((w.drop (j+1)).take n):=by rw [h0,Nat.mul_zero] at hs;exact hs
  have hd:w.drop j=w.getD j 0 :: w.drop (j+1):=drop_cons (by omega) 0
  obtain ⟨T,hT⟩:∃T,T=Nt.val ((w.drop j).take (n+1)):=⟨_,rfl⟩
  have hTv:T=(w.getD j 0).toNat+65536 * Nt.val (w.drop (j+1)):=by
   rw [hT,hd,List.take_succ_cons,Nt.val,←hs]
  have wj:=(w.getD j 0).toNat_lt
  have hTV:T / Nt.val v≤65535:=by
   have:T<65536 * Nt.val v:=by rw [hTv,hw];omega
   have:=(Nat.div_lt_iff_lt_mul hV0).2 this
   omega
  -- its highest digits
  have t1:=win_succ w j n (by omega)
  have t2:=win_succ w j (n - 1) (by omega)
  have t3:=win_succ w j (n - 2) (by omega)
  rw [show n - 1+1=n by omega,show j+(n - 1)=j+n - 1 by omega] at t2
  rw [show n - 2+1=n - 1 by omega,show j+(n - 2)=j+n - 2 by omega] at t3
  have hw3:=win_lt w j (n - 2)
  have hPn:65536 ^ n=65536 ^ (n - 2) * (65536 * 65536):=by rw [show (65536 * 65536:Nat)=65536 ^ 2 by decide,←Nat.pow_add];congr 1;omega
  obtain ⟨top,htop⟩:∃top,top=(w.getD (j+n) 0).toNat * 65536+(w.getD (j+n - 1) 0).toNat:=⟨_,rfl⟩
  have hTe:T=Nt.val ((w.drop j).take (n - 2))+65536 ^ (n - 2) * (top * 65536+(w.getD (j+n - 2) 0).toNat):=by
   rw [hT,t1,t2,t3,hPn,hPP,htop]
   generalize (w.getD (j+n) 0).toNat=a
   generalize (w.getD (j+n - 1) 0).toNat=b
   generalize (w.getD (j+n - 2) 0).toNat=c
   generalize 65536 ^ (n - 2)=P
   rw [Nat.mul_add,Nat.mul_assoc,Nat.mul_assoc,Nat.add_mul,Nat.mul_add,Nat.mul_comm b 65536,show a * 65536 * 65536=65536 * 65536 * a by rw [Nat.mul_assoc,Nat.mul_comm a]]
   omega
  have hTl:(top * 65536+(w.getD (j+n - 2) 0).toNat) * 65536 ^ (n - 2)≤T:=by rw [hTe,Nat.mul_comm];omega
  have hTu:T<(top * 65536+(w.getD (j+n - 2) 0).toNat+1) * 65536 ^ (n - 2):=by
   rw [hTe,Nat.add_mul _ 1,Nat.one_mul,Nat.mul_comm (top * 65536+(w.getD (j+n - 2) 0).toNat)];omega
  have a1:=(w.getD (j+n) 0).toNat_lt
  have a2:=(w.getD (j+n - 1) 0).toNat_lt
  have a3:=(v.getD (n - 1) 0).toNat_lt
  -- the highest digit is at most the divisor's
  have htle:(w.getD (j+n) 0).toNat≤(v.getD (n - 1) 0).toNat:=by
   have hA:T<65536 * Nt.val v:=by rw [hTv,hw];omega
   rcases Nat.lt_or_ge (v.getD (n - 1) 0).toNat (w.getD (j+n) 0).toNat with h | h
   ·have g1:65536 ^ n * ((v.getD (n - 1) 0).toNat+1)≤65536 ^ n * (w.getD (j+n) 0).toNat:=Nat.mul_le_mul_left _ h
    have g2:65536 * Nt.val v<65536 ^ n * ((v.getD (n - 1) 0).toNat+1):=by
     have g3:Nt.val v<65536 ^ (n - 1) * ((v.getD (n - 1) 0).toNat+1):=by
      have:=Nt.val_lt (v.take (n - 1))
      rw [List.length_take,Nat.min_eq_left (by omega),hPP] at this
      rw [e1,hPP,Nat.mul_add,Nat.mul_one];omega
     have g4:=Nat.mul_lt_mul_of_pos_left g3 (show 0<65536 by omega)
     have g5:65536 * (65536 ^ (n - 1) * ((v.getD (n - 1) 0).toNat+1))=65536 ^ n * ((v.getD (n - 1) 0).toNat+1):=by
      rw [←Nat.mul_assoc,Nat.mul_comm 65536,←Nat.pow_succ];congr 2;omega
     omega
    omega
   ·exact h
  obtain ⟨d,hdd⟩:∃d,d=(v.getD (n - 1) 0).toNat:=⟨_,rfl⟩
  have hguess:top / d≤65537:=by
   have:top<65538 * d:=by rw [htop];omega
   have:=(Nat.div_lt_iff_lt_mul (show 0<d by omega)).2 this
   omega
  have hfirst:T / Nt.val v≤top / d:=by
   -- T<(top+1) * B^(n-1),and the divisor is at least d * B^(n-1)
   have g1:T<(top+1) * 65536 ^ (n - 1):=by
    refine Nat.lt_of_lt_of_le hTu ?_
    rw [hPP,Nat.mul_comm (65536 ^ (n - 2)) 65536,←Nat.mul_assoc]
    refine Nat.mul_le_mul_right _ ?_
    have:=(w.getD (j+n - 2) 0).toNat_lt
    omega
   have g2:d * 65536 ^ (n - 1)≤Nt.val v:=by
    have h9:=e1
    rw [←hdd,←hPP] at h9
    rw [h9,Nat.mul_comm d];exact Nat.le_add_left _ _
   have g3:T / Nt.val v≤T / (d * 65536 ^ (n - 1)):=Nat.div_le_div_left g2 (Nat.mul_pos (by omega) (Nat.pow_pos (by omega)))
   have g4:T / (d * 65536 ^ (n - 1))=T / 65536 ^ (n - 1) / d:=by rw [Nat.mul_comm,Nat.div_div_eq_div_mul]
   have g5:T / 65536 ^ (n - 1)≤top:=by
    have:=(Nat.div_lt_iff_lt_mul (show 0<65536 ^ (n - 1) from Nat.pow_pos (by omega))).2 g1
    omega
   rw [g4] at g3
   exact Nat.le_trans g3 (Nat.div_le_div_right g5)
  have htop32:top<65536 * 65536:=by rw [htop];omega
  -- the operands
  have key:∀(g r:UInt64),g.toNat=top / d→r.toNat=top % d→bg_long.l2 v n j g r w qs=some [.sl .ws (Nt.fix (U.length - n) (Nt.val U / Nt.val v)),.sl .ws (Nt.fix n (Nt.val U % Nt.val v))]:=by
   intro g r hg hr
   have hdm:=Nat.div_add_mod top d
   have hmd:=Nat.mod_lt top (show 0<d by omega)
   obtain ⟨g',i1,i2,i3,i4⟩:=bg_long.l2_ok v w qs n j hn (by omega) (by omega) (by omega) (V:=Nt.val v) (T:=T) (P:=65536 ^ (n - 2)) (top:=top) hP0 hv1 htop hVl hVu hTl hTu hTV (top / d) g r (by omega) (by omega) (by rw [hg,hr,←hdd,Nat.mul_comm];omega) (by omega) (by rw [hg];exact hfirst)
   rw [i4,bg_long.j3_eq]
   obtain ⟨q,w',r1,r2,r3,r4,r5,r6⟩:=bg_long.l4_ok v w qs n j g' hn (by omega) (by omega) i3 hT hV0 i1 i2 n 0 0 0 w (by omega) (by omega) (by decide) rfl rfl rfl (by simp [Nt.val])
   refine r6.trans ?_
   refine bg_long.j6_in _ _ _ _ _ _ ?_
   intro u1 k1 u2 k2 u3 k3
   rw [Int.toNat_natCast] at k2
   rw [ck_of (idx_ok (by omega) (by omega)),ck_of (decide_eq_true (by omega)),k3,i64_in _ (by omega)]
   have hUj:=val_drop U j (by omega)
   have ewj:w.getD j 0=U.getD j 0:=getD_of_take ht (by omega)
   rw [←ewj] at hUj
   have hUm:Nt.val (U.drop j)=T+Nt.val v * (65536 * (Nt.val (U.drop (j+1)) / Nt.val v)):=by
    have:=Nat.div_add_mod (Nt.val (U.drop (j+1))) (Nt.val v)
    rw [hUj,hTv,hw]
    conv=>lhs;rw [←this]
    rw [Nat.mul_add,Nat.mul_left_comm];omega
   refine ih w' u2 (by omega) (by omega) (by rw [k2,List.length_set];exact hql) (by rw [r3];exact take_less ht (by omega)) ?_ ?_
   ·have hs2:=val_split (w'.drop j) (n+1)
    have hwn2:((w'.drop j).take (n+1)).length=n+1:=by rw [List.length_take,List.length_drop];omega
    have e3:(w'.drop j).drop (n+1)=(w.drop (j+1)).drop n:=by
     rw [List.drop_drop,List.drop_drop,show j+(n+1)=j+n+1 by omega,r4];congr 1;omega
    rw [hwn2,e3,h0,Nat.mul_zero,Nat.add_zero,r5] at hs2
    rw [hs2,hUm,Nat.add_mul_mod_self_left]
   ·have e4:(u2.getD j 0).toNat=T / Nt.val v:=by
     rw [k2,getD_set_ne _ _ _ _ (by omega),k1,u16_of_u64,Nt.u16_ofNat,r1,Nat.mod_eq_of_lt (by omega)]
    rw [val_drop u2 j (by rw [k2,List.length_set];omega),e4,k2,List.drop_set_of_lt (by omega),hq,hUm,Nat.add_mul_div_left _ _ hV0]
  refine bg_long.l1_in _ _ _ _ _ ?_
  intro v1 h1 v2 h2' v3 h3 v4 h4 v5 h5 v6 h6 v7 h7 v8 h8 v9 h9 v10 h10
  have ejn:IntKind.i64.wrap ((j:Int)+(n:Int))=((j+n:Nat):Int):=by rw [i64_in _ (by omega)];omega
  rw [ejn] at h1 h5 ⊢
  rw [Int.toNat_natCast] at h1
  have e5:v5=((j+n - 1:Nat):Int):=by rw [h5,i64_in _ (by omega)];omega
  have e8:v8=((n - 1:Nat):Int):=by rw [h8,i64_in _ (by omega)];omega
  rw [h1] at h2'
  rw [e5,Int.toNat_natCast] at h6
  rw [e8,Int.toNat_natCast] at h9
  have f10:v10.toNat=d:=by rw [h10,u64_of_u16,h9,hdd]
  have f3:v3.toNat=(w.getD (j+n) 0).toNat:=by rw [h3,u64_of_u16,h2']
  have f7:v7.toNat=(w.getD (j+n - 1) 0).toNat:=by rw [h7,u64_of_u16,h6]
  have f4:v4.toNat=(w.getD (j+n) 0).toNat * 65536:=by rw [h4,←f3];exact shl64_16 (by omega)
  have f47:(v4 ||| v7).toNat=top:=by rw [or16 f4 (by omega),f7,htop]
  have n10:v10≠0:=fun e=>by
   have:=congrArg UInt64.toNat e
   rw [f10] at this
   have e0:(0:UInt64).toNat=0:=rfl
   omega
  rw [decide_eq_true (by omega),cond_true,ck_of (idx_ok (by omega) (by omega)),ck_of (decide_eq_true (by omega)),ck_of (idx_ok (by omega) (by omega)),ck_of (decide_eq_true (by omega)),ck_of (idx_ok (by omega) (by omega)),decide_eq_false n10,Bool.not_false,ck_true,ck_of (idx_ok (by omega) (by omega)),ck_true]
  exact key _ _ (by rw [UInt64.toNat_div,f47,f10]) (by rw [UInt64.toNat_mod,f47,f10])
theorem bg_long.goal (u v:List UInt16) (hp:decide (u.length≤1000000∧2≤v.length∧v.length≤u.length∧32768≤(v.getLast?.getD 0).toNat)=true):bg_long.F u v=some [.sl .ws (Nt.fix (u.length+1 - v.length) (Nt.val u / Nt.val v)),.sl .ws (Nt.fix v.length (Nt.val u % Nt.val v))]:=by
 obtain ⟨l1,l2,l3,l4⟩:=of_decide_eq_true hp
 rw [getLast_getD (by intro e;subst e;simp at l2)] at l4
 refine bg_long.F_in _ _ ?_
 intro v1 h1 v2 h2 v3 h3 v4 h4
 subst h1
 have hl:(u++[(0:UInt16)]).length=u.length+1:=by simp
 have e2:v2=((u.length+1 - v.length:Nat):Int):=by rw [h2,hl,i64_in _ (by omega)];omega
 have e4:v4=((u.length+1 - v.length:Nat):Int) - 1:=by rw [h4,e2,i64_in _ (by omega)]
 have hU:Nt.val (u++[0])=Nt.val u:=Nt.val_snoc0 u
 have hV0:0<Nt.val v:=by
  have:=val_take_succ v (v.length - 1) (by omega)
  rw [show v.length - 1+1=v.length by omega,List.take_length] at this
  have h5:=Nat.mul_pos (show 0<65536 ^ (v.length - 1) from Nat.pow_pos (by omega)) (show 0<(v.getD (v.length - 1) 0).toNat by omega)
  omega
 have hlow:Nt.val ((u++[(0:UInt16)]).drop (u.length+1 - v.length))<Nt.val v:=by
  rw [List.drop_append_of_le_length (by omega),Nt.val_snoc0]
  have h6:=Nt.val_lt (u.drop (u.length+1 - v.length))
  rw [List.length_drop,show u.length - (u.length+1 - v.length)=v.length - 1 by omega] at h6
  have:=val_take_succ v (v.length - 1) (by omega)
  rw [show v.length - 1+1=v.length by omega,List.take_length] at this
  have h5:=Nat.mul_le_mul_left (65536 ^ (v.length - 1)) (show 1≤(v.getD (v.length - 1) 0).toNat by omega)
  omega
 have:=bg_long.l1_ok v (u++[0]) v.length rfl l2 (by omega) (by omega) l4 (u.length+1 - v.length) (u++[0]) v3 (by omega) rfl (by rw [h3,e2];simp) rfl (Nat.mod_eq_of_lt hlow).symm (by
  rw [Nat.div_eq_of_lt hlow,h3,e2];simp [Nt.val])
 rw [hU,hl] at this
 rw [ck_of (big_ap (by rw [List.length_singleton];omega) (by rw [List.length_singleton];omega)),ck_of (mkOK_iff.2 ⟨by omega,by omega,by omega,by rw [maxLen_eq];omega⟩),e4]
 exact this
end Go.Eng
namespace Go.Eng
open Go.IntWalk Ieee
namespace Fl
theorem cut_zero {s:Bool} {X N d:Nat} (h:X=N * 2 ^ d):Toward.zero.cut s X d=N:=by
 have e:Toward.zero.cut s X d=X / (1 <<< min d (X.log2+2)):=by
  unfold Toward.cut
  simp
 rw [e,Nat.one_shiftLeft]
 rcases Nat.eq_zero_or_pos N with rfl | hN
 ·rw [h];simp
 ·have hl:X.log2=N.log2+d:=by rw [h];exact log2_mul_pow N d (by omega)
  rw [Nat.min_eq_left (by omega),h,Nat.mul_div_cancel _ (Nat.two_pow_pos d)]
theorem WD.integral {d:Datum} {n:Int} (h:WD d n):∃s,d.integral .zero = .number s n.natAbs 0∧(n<0→s=true)∧(0<n→s=false):=by
 obtain ⟨s,m,p,rfl,hv,h1,h2⟩:=h
 refine ⟨s,?_,h1,h2⟩
 show Datum.number s (Toward.zero.cut s (m <<< p.toNat) (-p).toNat) 0=_
 rw [Nat.shiftLeft_eq,cut_zero hv]
theorem WD.whole {s:Bool} {n:Int} (h1:n<0→s=true) (h2:0<n→s=false):WD (.number s n.natAbs 0) n:=⟨s,_,_,rfl,by unfold Val;simp,h1,h2⟩
theorem W.num {b:Nat} {n:Int} (h:W b n):Fl.num b=true:=by
 obtain ⟨s,m,p,hr,_⟩:=h
 show (!(double.read b).isNaN)=true
 rw [hr];rfl
theorem W.trunc {b:Nat} {n:Int} (h:W b n) (hn:n.natAbs≤9007199254740992):W (Fl.trunc b) n:=by
 obtain ⟨s,e,h1,h2⟩:=WD.integral h
 have e':(FloatKind.f64.decode b).integral .zero = .number s n.natAbs 0:=e
 unfold Fl.trunc
 rw [e']
 exact (WD.whole h1 h2).write hn
theorem W.toInt {b:Nat} {n:Int} (h:W b n) (hn:n.natAbs≤9007199254740992):Fl.toIntOK b=true∧Fl.toInt b=n:=by
 obtain ⟨s,e,h1,h2⟩:=WD.integral h
 have e':(FloatKind.f64.decode b).integral .zero = .number s n.natAbs 0:=e
 have e2:floatToIntVal .f64 b .i64=some n:=by
  unfold floatToIntVal Datum.toInt
  rw [e']
  have e3:signed s n.natAbs 0=n:=by
   have:=signed_val (s:=s) (m:=n.natAbs) (i:=0) (base:=0) (x:=n) (by unfold Val;simp) h1 h2 (by omega)
   simpa using this
  simp only [e3]
  have e4:IntKind.i64.min=-9223372036854775808:=by decide
  have e5:IntKind.i64.max=9223372036854775807:=by decide
  rw [e4,e5,if_pos (by omega)]
 unfold Fl.toIntOK Fl.toInt
 rw [e2]
 exact ⟨rfl,rfl⟩
theorem W.ofInt {n:Int} (hn:n.natAbs≤9007199254740992):W (Fl.ofInt n) n:=ofInt_whole n hn
theorem W.add {a b:Nat} {x y:Int} (ha:W a x) (hb:W b y) (h:(x+y).natAbs≤9007199254740992):Fl.addOK a b=true∧W (Fl.add a b) (x+y):=by
 obtain ⟨r,e,hr⟩:=add_whole ha hb h
 unfold Fl.addOK Fl.add
 rw [e];exact ⟨rfl,hr⟩
theorem W.sub {a b:Nat} {x y:Int} (ha:W a x) (hb:W b y) (h:(x - y).natAbs≤9007199254740992):Fl.subOK a b=true∧W (Fl.sub a b) (x - y):=by
 obtain ⟨r,e,hr⟩:=sub_whole ha hb h
 unfold Fl.subOK Fl.sub
 rw [e];exact ⟨rfl,hr⟩
theorem W.mul {a b:Nat} {x y:Int} (ha:W a x) (hb:W b y) (h:(x * y).natAbs≤9007199254740992):Fl.mulOK a b=true∧W (Fl.mul a b) (x * y):=by
 obtain ⟨r,e,hr⟩:=mul_whole ha hb h
 unfold Fl.mulOK Fl.mul
 rw [e];exact ⟨rfl,hr⟩
theorem W.eq {a b:Nat} {x y:Int} (ha:W a x) (hb:W b y):Fl.eq a b=decide (x=y):=by
 unfold Fl.eq
 rw [order_whole ha hb]
 rcases Int.lt_trichotomy x y with c | c | c
 ·rw [Int.compare_eq_lt.2 c,decide_eq_false (by omega)];rfl
 ·subst c;simp
 ·rw [Int.compare_eq_gt.2 c,decide_eq_false (by omega)];rfl
theorem W.lt {a b:Nat} {x y:Int} (ha:W a x) (hb:W b y):Fl.lt a b=decide (x<y):=by
 unfold Fl.lt
 rw [order_whole ha hb]
 rcases Int.lt_trichotomy x y with c | c | c
 ·rw [Int.compare_eq_lt.2 c,decide_eq_true c];rfl
 ·subst c;simp
 ·rw [Int.compare_eq_gt.2 c,decide_eq_false (by omega)];rfl
theorem W.gt {a b:Nat} {x y:Int} (ha:W a x) (hb:W b y):Fl.gt a b=decide (y<x):=by
 unfold Fl.gt
 rw [order_whole ha hb]
 rcases Int.lt_trichotomy x y with c | c | c
 ·rw [Int.compare_eq_lt.2 c,decide_eq_false (by omega)];rfl
 ·subst c;simp
 ·rw [Int.compare_eq_gt.2 c,decide_eq_true c];rfl
theorem W_25:W 4719772409484279808 33554432:=by
 have e:Fl.ofInt 33554432=4719772409484279808:=by decide +kernel
 rw [←e];exact W.ofInt (by decide)
theorem W_52:W 4841369599423283200 4503599627370496:=by
 have e:Fl.ofInt 4503599627370496=4841369599423283200:=by decide +kernel
 rw [←e];exact W.ofInt (by decide)
theorem W_50:W 4832362400168542208 1125899906842624:=by
 have e:Fl.ofInt 1125899906842624=4832362400168542208:=by decide +kernel
 rw [←e];exact W.ofInt (by decide)
theorem W_m50:W 14055734437023318016 (-1125899906842624):=by
 have e:Fl.ofInt (-1125899906842624)=14055734437023318016:=by decide +kernel
 rw [←e];exact W.ofInt (by decide)
theorem W_0:W 0 0:=by
 have e:Fl.ofInt 0=0:=by decide +kernel
 rw [←e];exact W.ofInt (by decide)
theorem W_1:W 4607182418800017408 1:=by
 have e:Fl.ofInt 1=4607182418800017408:=by decide +kernel
 rw [←e];exact W.ofInt (by decide)
theorem W_m1:W 13830554455654793216 (-1):=by
 have e:Fl.ofInt (-1)=13830554455654793216:=by decide +kernel
 rw [←e];exact W.ofInt (by decide)
end Fl
namespace Gz
theorem inB_iff {z:Cx} {M:Nat}:inB z M=true ↔ In z M:=by classical exact (by unfold inB;exact decide_eq_true_iff)
theorem inQ_iff {l:Qd} {M:Nat}:inQ l M=true ↔ InQ l M:=by classical exact (by unfold inQ;exact decide_eq_true_iff)
theorem in4_iff {l:Qd}:in4 l=true ↔ ∀k,k<4→In4 (part l (-1) k 4):=by unfold in4;simp only [decide_eq_true_eq]
theorem inM_of {z:Cx} {b M:Nat} (h:In z M) (hb:Fl.W b (M:Int)) (hM:M≤9007199254740992):inM z b=true:=by
 classical
 unfold inM
 obtain ⟨x,y,h1,h2,h3⟩:=h
 exact decide_eq_true ⟨x,y,M,h1,hb,by omega,by omega,by omega⟩
theorem In.le {z:Cx} {M N:Nat} (h:In z M) (hn:M≤N):In z N:=by
 obtain ⟨x,y,h1,h2,h3⟩:=h
 exact ⟨x,y,h1,by omega,by omega⟩
theorem mul_is {z w:Cx} {x y u v:Int} (hz:Is z x y) (hw:Is w u v) (h1:(x * u).natAbs≤2251799813685248) (h2:(y * v).natAbs≤2251799813685248) (h3:(x * v).natAbs≤2251799813685248) (h4:(y * u).natAbs≤2251799813685248) :
  Fl.cmulOK z.1 z.2 w.1 w.2=true∧Is (mul z w) (x * u - y * v) (x * v+y * u):=by
 obtain ⟨a1,b1⟩:=Fl.W.mul hz.1 hw.1 (by omega)
 obtain ⟨a2,b2⟩:=Fl.W.mul hz.2 hw.2 (by omega)
 obtain ⟨a3,b3⟩:=Fl.W.sub b1 b2 (by omega)
 obtain ⟨a4,b4⟩:=Fl.W.mul hz.1 hw.2 (by omega)
 obtain ⟨a5,b5⟩:=Fl.W.mul hz.2 hw.1 (by omega)
 obtain ⟨a6,b6⟩:=Fl.W.add b4 b5 (by omega)
 refine ⟨?_,b3,b6⟩
 unfold Fl.cmulOK
 rw [a1,a2,a3,a4,a5,a6];rfl
theorem add_is {z w:Cx} {x y u v:Int} (hz:Is z x y) (hw:Is w u v) (h1:(x+u).natAbs≤9007199254740992) (h2:(y+v).natAbs≤9007199254740992):(Fl.addOK z.1 w.1&&Fl.addOK z.2 w.2)=true∧Is (add z w) (x+u) (y+v):=by
 obtain ⟨a1,b1⟩:=Fl.W.add hz.1 hw.1 h1
 obtain ⟨a2,b2⟩:=Fl.W.add hz.2 hw.2 h2
 rw [a1,a2]
 exact ⟨rfl,b1,b2⟩
def ure (k:Int):Int:=if k % 4=0 then 1 else if k % 4=2 then -1 else 0
def uim (k:Int):Int:=if k % 4=1 then 1 else if k % 4=3 then -1 else 0
theorem ure_cases (k:Int):ure k=0∨ure k=1∨ure k=-1:=by
 unfold ure
 split
 ·simp
 ·split <;> simp
theorem uim_cases (k:Int):uim k=0∨uim k=1∨uim k=-1:=by
 unfold uim
 split
 ·simp
 ·split <;> simp
theorem unit_is (k:Int):Is (unit k) (ure k) (uim k):=by
 have h:k % 4=0∨k % 4=1∨k % 4=2∨k % 4=3:=by omega
 unfold unit ure uim
 rcases h with h | h | h | h <;> rw [h]
 ·exact ⟨Fl.W_1,Fl.W_0⟩
 ·exact ⟨Fl.W_0,Fl.W_1⟩
 ·exact ⟨Fl.W_m1,Fl.W_0⟩
 ·exact ⟨Fl.W_0,Fl.W_m1⟩
theorem turn_is {z:Cx} {x y:Int} (k:Int) (hz:Is z x y) (hx:x.natAbs≤1125899906842624) (hy:y.natAbs≤1125899906842624) :
  Fl.cmulOK z.1 z.2 (unit k).1 (unit k).2=true∧Is (turn z k) (x * ure k - y * uim k) (x * uim k+y * ure k):=by
 have hu:=unit_is k
 have h1:ure k=0∨ure k=1∨ure k=-1:=ure_cases k
 have h2:uim k=0∨uim k=1∨uim k=-1:=uim_cases k
 refine mul_is hz hu ?_ ?_ ?_ ?_
 ·rcases h1 with e | e | e <;> rw [e] <;> omega
 ·rcases h2 with e | e | e <;> rw [e] <;> omega
 ·rcases h2 with e | e | e <;> rw [e] <;> omega
 ·rcases h1 with e | e | e <;> rw [e] <;> omega
theorem turn_in {z:Cx} {k:Int} (h:In z 1125899906842624):In (turn z k) 2251799813685248:=by
 obtain ⟨x,y,hz,hx,hy⟩:=h
 refine ⟨_,_,(turn_is k hz hx hy).2,?_,?_⟩
 all_goals
  have h1:ure k=0∨ure k=1∨ure k=-1:=ure_cases k
  have h2:uim k=0∨uim k=1∨uim k=-1:=uim_cases k
  rcases h1 with e | e | e <;> rcases h2 with f | f | f <;> rw [e,f] <;> omega
end Gz
theorem math_Trunc.goal (x:Nat) (hp:(Fl.num x)=true):math_Trunc.F x=some [.c (.float .f64 (Fl.trunc x))]:=by
 rw [math_Trunc.F_eq,cond_true,hp];rfl
theorem gz_small.goal (z:Cx) (hp:(Gz.inB z 33554432)=true):gz_small.F z=some [.b true]:=by
 rw [gz_small.F_eq,Gz.inM_of (Gz.inB_iff.1 hp) Fl.W_25 (by omega)];rfl
theorem gz_Of.goal (x y:Int) (hp:decide (-33554432≤x∧x≤33554432∧-33554432≤y∧y≤33554432)=true):gz_Of.F x y=some [.c (.complex .f64 ((Fl.ofInt x,Fl.ofInt y):Cx).1 ((Fl.ofInt x,Fl.ofInt y):Cx).2)]:=by
 obtain ⟨h1,h2,h3,h4⟩:=of_decide_eq_true hp
 refine gz_Of.F_in _ _ ?_
 intro v1 e1 v2 e2 v3 e3 v4 e4
 have d1:v1=false:=by rw [e1,decide_eq_false (by omega),cond_false];exact decide_eq_false (by omega)
 have d2:v2=false:=by rw [e2,d1,cond_false];exact decide_eq_false (by omega)
 have d3:v3=false:=by rw [e3,d2,cond_false];exact decide_eq_false (by omega)
 simp only [Bool.not_or_self,Bool.or_not_self,Bool.not_not,ck_true]
 rw [d3,cond_false,e4]
theorem gz_Parts.goal (z:Cx) (hp:(Gz.inB z 4503599627370496)=true):gz_Parts.F z=some [.i .i64 (Fl.toInt z.1),.i .i64 (Fl.toInt z.2),.b true]:=by
 have h:=Gz.inB_iff.1 hp
 have hm:=Gz.inM_of h Fl.W_52 (by omega)
 obtain ⟨x,y,hz,hx,hy⟩:=h
 rw [gz_Parts.F_eq,hm,(hz.1.toInt (by omega)).1,(hz.2.toInt (by omega)).1];rfl
theorem and3_i64 (k:Int) (h1 : -100≤k) (h2:k≤100):intBitsV .and .i64 k 3=k % 4:=by
 have:∀n:Nat,n<201→intBitsV .and .i64 ((n:Int) - 100) 3=((n:Int) - 100) % 4:=by decide +kernel
 have:=this (k+100).toNat (by omega)
 rwa [show (((k+100).toNat:Nat):Int) - 100=k by omega] at this
theorem gz_Turn.goal (z:Cx) (k:Int) (hp:(Gz.inB z 1125899906842624&&decide (-100≤k∧k≤100))=true):gz_Turn.F z k=some [.c (.complex .f64 (Gz.turn z k).1 (Gz.turn z k).2)]:=by
 simp only [Bool.and_eq_true,decide_eq_true_eq] at hp
 obtain ⟨h,k1,k2⟩:=hp
 have h:=Gz.inB_iff.1 h
 have hm:=Gz.inM_of (h.le (show 1125899906842624≤4503599627370496 by omega)) Fl.W_52 (by omega)
 obtain ⟨x,y,hz,hx,hy⟩:=h
 obtain ⟨c1,_⟩:=Gz.turn_is k hz hx hy
 refine gz_Turn.F_in _ _ ?_
 intro v1 h1 v2 h2 v3 h3 v4 h4 v5 h5 v6 h6 v7 h7
 rw [and3_i64 k k1 k2] at h5
 have e6:v6=Gz.unit k:=by rw [h6,h1,h2,h3,h4,h5];rfl
 rw [hm,ck_true,Bool.not_true,cond_false,ck_of (idx_ok (by omega) (by omega)),ck_of (decide_eq_true (by omega)),e6,c1,ck_true,h7,e6]
 rfl
theorem gz_Times.goal (z w:Cx) (hp:(Gz.inB z 33554432&&Gz.inB w 33554432)=true):gz_Times.F z w=some [.c (.complex .f64 (Gz.mul z w).1 (Gz.mul z w).2)]:=by
 simp only [Bool.and_eq_true] at hp
 obtain ⟨x,y,hz,hx,hy⟩:=Gz.inB_iff.1 hp.1
 obtain ⟨u,v,hw,hu,hv⟩:=Gz.inB_iff.1 hp.2
 have hm:∀a b:Int,a.natAbs≤33554432→b.natAbs≤33554432→(a * b).natAbs≤2251799813685248:=fun a b h1 h2=>by
  rw [Int.natAbs_mul]
  exact Nat.le_trans (Nat.mul_le_mul h1 h2) (by omega)
 obtain ⟨c1,_⟩:=Gz.mul_is hz hw (hm _ _ hx hu) (hm _ _ hy hv) (hm _ _ hx hv) (hm _ _ hy hu)
 refine gz_Times.F_in _ _ ?_
 intro v1 h1 v2 h2
 have e1:v1=false:=h1
 rw [hp.1,hp.2,c1,e1,h2]
 rfl
theorem wv_fit1.goal (x:Nat) (hp:(Gz.inR x)=true):wv_fit1.F x=some [.b true]:=by
 classical
 unfold Gz.inR at hp
 obtain ⟨n,hn,hb⟩:=of_decide_eq_true hp
 refine wv_fit1.F_in _ ?_
 intro v1 h1 v2 h2 v3 h3
 have e1:v1=true:=by
  rw [h1,hn.gt Fl.W_m50,hn.eq Fl.W_m50]
  rcases Int.lt_or_eq_of_le (show (-1125899906842624:Int)≤n by omega) with c | c
  ·rw [decide_eq_true c];rfl
  ·rw [decide_eq_true c.symm,Bool.or_true]
 have e2:v2=true:=by
  rw [h2,hn.lt Fl.W_50,hn.eq Fl.W_50]
  rcases Int.lt_or_eq_of_le (show n≤(1125899906842624:Int) by omega) with c | c
  ·rw [decide_eq_true c];rfl
  ·rw [decide_eq_true c,Bool.or_true]
 have e3:v3=true:=by rw [h3,e1,e2,cond_true,cond_true,hn.eq (hn.trunc (by omega)),decide_eq_true rfl]
 rw [e1,e2,e3,hn.num]
 rfl
theorem Gz.In.parts {z:Cx} (h:Gz.In z 1125899906842624):Gz.inR z.1=true∧Gz.inR z.2=true:=by
 obtain ⟨x,y,h1,h2,h3⟩:=h
 classical
 unfold Gz.inR
 exact ⟨decide_eq_true ⟨x,h1.1,h2⟩,decide_eq_true ⟨y,h1.2,h3⟩⟩
theorem Gz.InQ.get {l:Qd} {M:Nat} (h:Gz.InQ l M) (i:Nat) (hi:i<4):Gz.In (l.get i) M:=by
 obtain ⟨a,b,c,d⟩:=h
 have:i=0∨i=1∨i=2∨i=3:=by omega
 rcases this with rfl | rfl | rfl | rfl
 ·exact a
 ·exact b
 ·exact c
 ·exact d
theorem wv_fit.l1_ok (l:Qd) (h:Gz.InQ l 1125899906842624):∀(m i:Nat),i+m=4→wv_fit.l1 l i=some [.b true]:=by
 intro m
 induction m with
 | zero =>
  intro i hi
  refine wv_fit.l1_in _ _ ?_
  intro v1 h1 v2 h2
  rw [decide_eq_false (by omega),cond_false]
 | succ m ih =>
  intro i hi
  refine wv_fit.l1_in _ _ ?_
  intro v1 h1 v2 h2
  have e1:v1=false:=h1
  have e2:v2=((i+1:Nat):Int):=by rw [h2,i64_in _ (by omega)];omega
  obtain ⟨p1,p2⟩:=(h.get i (by omega)).parts
  rw [decide_eq_true (by omega),cond_true,ck_of (idx_ok (by omega) (by omega)),Int.toNat_natCast,p1,p2,e1,e2]
  exact ih (i+1) (by omega)
theorem wv_fit.goal (l:Qd) (hp:(Gz.inQ l 1125899906842624)=true):wv_fit.F l=some [.b true]:=by
 rw [wv_fit.F_eq];exact wv_fit.l1_ok l (Gz.inQ_iff.1 hp) 4 0 (by omega)
theorem wv_Four.goal (l:Qd) (hp:(Gz.inQ l 1125899906842624)=true):wv_Four.F l=some [.ag (Qd.cells (Gz.sums l 1))]:=by
 rw [wv_Four.F_eq,hp];rfl
end Go.Eng
namespace Go.Eng
open Go.IntWalk
theorem Qd.get_set (q:Qd) (k:Nat) (x:Cx) (hk:k<4):(q.set k x).get k=x:=by
 have:k=0∨k=1∨k=2∨k=3:=by omega
 rcases this with rfl | rfl | rfl | rfl <;> rfl
theorem Qd.set_set (q:Qd) (k:Nat) (x y:Cx) (hk:k<4):(q.set k x).set k y=q.set k y:=by
 have:k=0∨k=1∨k=2∨k=3:=by omega
 rcases this with rfl | rfl | rfl | rfl <;> rfl
theorem Qd.set_get (q:Qd) (k:Nat) (hk:k<4):q.set k (q.get k)=q:=by
 have:k=0∨k=1∨k=2∨k=3:=by omega
 rcases this with rfl | rfl | rfl | rfl <;> rfl
theorem Gz.part_in {l:Qd} (h:Gz.InQ l 1125899906842624) (w:Int) (k:Nat):∀j,j≤4→Gz.In (Gz.part l w k j) (j * 2251799813685248)
 | 0,_=>⟨0,0,⟨Fl.W_0,Fl.W_0⟩,by omega,by omega⟩
 | j+1,hj=>by
  obtain ⟨x,y,h1,h2,h3⟩:=Gz.part_in h w k j (by omega)
  obtain ⟨u,v,g1,g2,g3⟩:=Gz.turn_in (k:=j * k * w) (h.get j (by omega))
  obtain ⟨_,e⟩:=Gz.add_is h1 g1 (by omega) (by omega)
  exact ⟨_,_,e,by omega,by omega⟩
theorem wv_sums.l2_ok (l:Qd) (w:Int) (h:Gz.InQ l 1125899906842624) (hw:w=1∨w=-1) (k:Nat) (hk:k<4) (Z:Qd):∀(m j:Nat) (acc:Qd),j+m=4→acc.get k=Gz.part l w k j →
  wv_sums.l2 w k k l j l Z acc=wv_sums.l1 w ((k+1:Nat):Int) l Z (acc.set k (Gz.part l w k 4)):=by
 intro m
 induction m with
 | zero =>
  intro j acc hj ha
  refine wv_sums.l2_in _ _ _ _ _ _ _ _ ?_
  intro v1 h1 v2 h2 v3 h3 v4 h4 v5 h5
  obtain rfl:j=4:=by omega
  rw [decide_eq_false (by omega),cond_false,←ha,Qd.set_get _ _ hk,h5,i64_in _ (by omega)];rfl
 | succ m ih =>
  intro j acc hj ha
  refine wv_sums.l2_in _ _ _ _ _ _ _ _ ?_
  intro v1 h1 v2 h2 v3 h3 v4 h4 v5 h5
  rw [Int.toNat_natCast] at h2 h3
  have hjk:((j:Int) * (k:Int))=((j * k:Nat):Int):=by rw [Int.natCast_mul]
  have hjk2:j * k≤3 * 3:=Nat.mul_le_mul (by omega) (by omega)
  have e1:v1=(j:Int) * k * w:=by
   rw [h1,hjk,i64_in ((j * k:Nat):Int) (by omega)]
   rcases hw with rfl | rfl <;> rw [i64_in _ (by omega)]
  have b1 : -100≤v1∧v1≤100:=by
   rw [e1,hjk]
   rcases hw with rfl | rfl <;> omega
  have e2:v2=Gz.turn (l.get j) ((j:Int) * k * w):=by rw [h2,e1]
  rw [ha] at h3
  obtain ⟨x,y,p1,p2,p3⟩:=Gz.part_in h w k j (by omega)
  obtain ⟨u,v,g1,g2,g3⟩:=Gz.turn_in (k:=(j:Int) * k * w) (h.get j (by omega))
  obtain ⟨c1,_⟩:=Gz.add_is p1 g1 (by omega) (by omega)
  have e3:v3=Gz.part l w k (j+1):=by rw [h3,e2];rfl
  have e4:v4=((j+1:Nat):Int):=by rw [h4,i64_in _ (by omega)];omega
  have x1:idxOK (j:Int) 4=true:=idx_ok (by omega) (by omega)
  have x2:idxOK (k:Int) 4=true:=idx_ok (by omega) (by omega)
  have x3:decide ((k:Int).toNat<4)=true:=decide_eq_true (by omega)
  rw [decide_eq_true (show (j:Int)<4 by omega),cond_true,x1,x2,x3,Int.toNat_natCast,Int.toNat_natCast,Gz.inB_iff.2 (h.get j (by omega)),decide_eq_true b1,ha,e2,c1,e3,e4]
  simp only [Bool.and_self,ck_true]
  rw [ih (j+1) (acc.set k (Gz.part l w k (j+1))) (by omega) (Qd.get_set _ _ _ hk),Qd.set_set _ _ _ _ hk]
theorem wv_sums.goal (l:Qd) (w:Int) (hp:(Gz.inQ l 1125899906842624&&decide (w=1∨w=-1))=true):wv_sums.F l w=some [.ag (Qd.cells (Gz.sums l w))]:=by
 simp only [Bool.and_eq_true,decide_eq_true_eq] at hp
 obtain ⟨h,hw⟩:=hp
 have h:=Gz.inQ_iff.1 h
 have st:∀(k:Nat) (Z acc:Qd),k<4→acc.get k=(0,0)→wv_sums.l1 w k l Z acc=wv_sums.l1 w ((k+1:Nat):Int) l Z (acc.set k (Gz.part l w k 4)):=fun k Z acc hk ha=>by
  rw [wv_sums.l1_eq,decide_eq_true (by omega),cond_true]
  exact wv_sums.l2_ok l w h hw k hk Z 4 0 acc (by omega) (by rw [ha];rfl)
 rw [wv_sums.F_eq]
 refine (st 0 _ _ (by omega) rfl).trans ?_
 refine (st 1 _ _ (by omega) rfl).trans ?_
 refine (st 2 _ _ (by omega) rfl).trans ?_
 refine (st 3 _ _ (by omega) rfl).trans ?_
 rw [wv_sums.l1_eq,decide_eq_false (by decide),cond_false]
 rfl
theorem Gz.sums_get (l:Qd) (w:Int) (k:Nat) (hk:k<4):(Gz.sums l w).get k=Gz.part l w k 4:=by
 have:k=0∨k=1∨k=2∨k=3:=by omega
 rcases this with rfl | rfl | rfl | rfl <;> rfl
theorem wv_Back.goal (l:Qd) (hp:(Gz.inQ l 1125899906842624&&Gz.in4 l)=true):wv_Back.F l=some [.ag (Qd.cells (Gz.back l)),.b true]:=by
 simp only [Bool.and_eq_true] at hp
 obtain ⟨h,h4⟩:=hp
 have hq:=h
 have h4:=Gz.in4_iff.1 h4
 rw [wv_Back.F_eq,hq,ck_true,Bool.not_true,cond_false,Bool.true_and,ck_of (decide_eq_true (.inr rfl))]
 have st:∀(k:Nat) (Y acc:Qd),k<4→wv_Back.l1 (Gz.sums l (-1)) k Y acc=wv_Back.l1 (Gz.sums l (-1)) ((k+1:Nat):Int) Y (acc.set k (Gz.quarter (Gz.part l (-1) k 4))):=fun k Y acc hk=>by
  refine wv_Back.l1_in _ _ _ _ ?_
  intro v1 h1 v2 h2 v3 h3 v4 h4' v5 h5 v6 h6 v7 h7 v8 h8
  rw [Int.toNat_natCast,Gz.sums_get l _ k hk] at h1 h2
  obtain ⟨x,y,p1,p2,p3⟩:=h4 k hk
  have e1:v1=4 * x:=by rw [h1];exact (p1.1.toInt (by omega)).2
  have e2:v2=4 * y:=by rw [h2];exact (p1.2.toInt (by omega)).2
  have m1:Int.tmod v1 4=0:=by rw [e1];exact Int.mul_tmod_right _ _
  have m2:Int.tmod v2 4=0:=by rw [e2];exact Int.mul_tmod_right _ _
  have e3:v3=false:=by rw [h3,m1];rfl
  have e4:v4=false:=by rw [h4',e3,m2];rfl
  have d1:Int.tdiv v1 4=x:=by rw [e1];exact Int.mul_tdiv_cancel_left _ (by omega)
  have d2:Int.tdiv v2 4=y:=by rw [e2];exact Int.mul_tdiv_cancel_left _ (by omega)
  have e5:v5=Int.tdiv v1 4:=by rw [h5,i64_in _ (by rw [d1];omega)]
  have e6:v6=Int.tdiv v2 4:=by rw [h6,i64_in _ (by rw [d2];omega)]
  have e8:v8=((k+1:Nat):Int):=by rw [h8,i64_in _ (by omega)];omega
  have e7:v7=Gz.quarter (Gz.part l (-1) k 4):=by rw [h7,e5,e6,h1,h2];rfl
  have x1:idxOK (k:Int) 4=true:=idx_ok (by omega) (by omega)
  have x2:decide ((k:Int).toNat<4)=true:=decide_eq_true (by omega)
  have b1:Gz.inB (Gz.part l (-1) k 4) 4503599627370496=true:=Gz.inB_iff.2 ⟨_,_,p1,by omega,by omega⟩
  rw [decide_eq_true (show (k:Int)<4 by omega),cond_true,x1,x2,Int.toNat_natCast,Gz.sums_get l _ k hk,b1,e3,e4,e7,e8]
  rfl
 refine (st 0 _ _ (by omega)).trans ?_
 refine (st 1 _ _ (by omega)).trans ?_
 refine (st 2 _ _ (by omega)).trans ?_
 refine (st 3 _ _ (by omega)).trans ?_
 refine wv_Back.l1_in _ _ _ _ ?_
 intro v1 h1 v2 h2 v3 h3 v4 h4' v5 h5 v6 h6 v7 h7 v8 h8
 rw [decide_eq_false (by decide),cond_false]
 rfl
theorem Gz.digs_get {l:List Int} (h:Gz.digs l=true) (i:Nat) (hi:i<l.length):0≤l.getD i 0∧l.getD i 0≤65535:=by
 unfold Gz.digs at h
 rw [List.getD_eq_getElem?_getD,List.getElem?_eq_getElem hi]
 simpa using List.all_eq_true.1 h _ (List.getElem_mem hi)
theorem wv_digits.l1_ok (l:List Int) (h:Gz.digs l=true) (hl:l.length≤256):∀(m i:Nat),i+m=l.length→wv_digits.l1 l l l.length i=some [.b true]:=by
 intro m
 induction m with
 | zero =>
  intro i hi
  refine wv_digits.l1_in _ _ _ _ ?_
  intro v1 h1 v2 h2 v3 h3
  rw [decide_eq_false (by omega),cond_false,decide_eq_true (by omega)]
 | succ m ih =>
  intro i hi
  refine wv_digits.l1_in _ _ _ _ ?_
  intro v1 h1 v2 h2 v3 h3
  rw [Int.toNat_natCast] at h1
  have hd:=Gz.digs_get h i (by omega)
  rw [←h1] at hd
  have e2:v2=false:=by rw [h2,decide_eq_false (by omega),cond_false];exact decide_eq_false (by omega)
  have e3:v3=((i+1:Nat):Int):=by rw [h3,i64_in _ (by omega)];omega
  simp only [Bool.not_or_self,Bool.or_not_self,Bool.not_not,ck_true]
  rw [decide_eq_true (by omega),cond_true,ck_of (idx_ok (by omega) (by omega)),e2,cond_false,e3]
  exact ih (i+1) (by omega)
theorem wv_digits.goal (l:List Int) (hp:(decide (l.length≤256)&&Gz.digs l)=true):wv_digits.F l=some [.b true]:=by
 simp only [Bool.and_eq_true,decide_eq_true_eq] at hp
 rw [wv_digits.F_eq];exact wv_digits.l1_ok l hp.2 hp.1 l.length 0 (by omega)
theorem Gz.ofI_is {a:Int} (h:0≤a∧a≤65535):Gz.Is (Gz.ofI a) a 0:=⟨Fl.W.ofInt (by omega),Fl.W.ofInt (n:=0) (by decide)⟩
theorem Gz.ofI_in {a:Int} (h:0≤a∧a≤65535):Gz.In (Gz.ofI a) 1125899906842624:=⟨_,_,Gz.ofI_is h,by omega,by omega⟩
theorem Gz.zero_is:Gz.Is (0,0) 0 0:=⟨Fl.W_0,Fl.W_0⟩
theorem Gz.zero_in:Gz.In (0,0) 1125899906842624:=⟨_,_,Gz.zero_is,by omega,by omega⟩
theorem Gz.pairs_drop (l:List Int) (i:Nat) (h:i<l.length):Gz.pairs (l.drop i)=(if i+1<l.length then Gz.sums ⟨Gz.ofI (l.getD i 0),Gz.ofI (l.getD (i+1) 0),(0,0),(0,0)⟩ 1 else Gz.sums ⟨Gz.ofI (l.getD i 0),(0,0),(0,0),(0,0)⟩ 1) :: Gz.pairs (l.drop (i+2)):=by
 rw [drop_cons h 0]
 by_cases c:i+1<l.length
 ·rw [drop_cons c 0,Gz.pairs,if_pos c]
 ·rw [List.drop_of_length_le (i:=i+1) (by omega),List.drop_of_length_le (i:=i+2) (by omega),Gz.pairs,if_neg c];rfl
theorem wv_pairs.l1_ok (l:List Int) (h:Gz.digs l=true) (hl:l.length≤256):∀(m i:Nat) (acc:List Qd),l.length≤i+2 * m→i≤300→acc.length≤i→wv_pairs.l1 l acc i=some [.sl .qd (acc++Gz.pairs (l.drop i))]:=by
 intro m
 induction m with
 | zero =>
  intro i acc hi hi2 ha
  refine wv_pairs.l1_in _ _ _ ?_
  intro v1 h1 v2 h2 v3 h3 v4 h4 v5 h5 v6 h6
  rw [decide_eq_false (by omega),cond_false,List.drop_of_length_le (by omega),Gz.pairs,List.append_nil]
 | succ m ih =>
  intro i acc hi hi2 ha
  refine wv_pairs.l1_in _ _ _ ?_
  intro v1 h1 v2 h2 v3 h3 v4 h4 v5 h5 v6 h6
  by_cases c0:i<l.length
  ·rw [Int.toNat_natCast] at h1
   have e3:v3=((i+1:Nat):Int):=by rw [h3,i64_in _ (by omega)];omega
   rw [e3,Int.toNat_natCast] at h4
   have hd:=Gz.digs_get h i (by omega)
   rw [←h1] at hd
   have jn:∀q:Qd,Gz.InQ q 1125899906842624→wv_pairs.j2 l acc i q=some [.sl .qd (acc++[Gz.sums q 1]++Gz.pairs (l.drop (i+2)))]:=fun q hq=>by
    refine wv_pairs.j2_in _ _ _ _ ?_
    intro u1 g1 u2 g2
    have e2:u2=((i+2:Nat):Int):=by rw [g2,i64_in _ (by omega)];omega
    rw [Gz.inQ_iff.2 hq,ck_true,ck_of (big_ap (by rw [List.length_singleton];omega) (by rw [List.length_singleton];omega)),g1,e2]
    exact ih (i+2) _ (by omega) (by omega) (by rw [List.length_append,List.length_singleton];omega)
   rw [decide_eq_true (by omega),cond_true,ck_of (idx_ok (by omega) (by omega)),ck_of (decide_eq_true (by omega)),Gz.pairs_drop l i c0]
   by_cases c:i+1<l.length
   ·have hd2:=Gz.digs_get h (i+1) c
    rw [←h4] at hd2
    rw [e3,decide_eq_true (by omega),cond_true,ck_of (idx_ok (by omega) (by omega)),ck_of (decide_eq_true (by omega)),ck_of (idx_ok (by omega) (by omega)),ck_of (by decide),if_pos c]
    have e6:v6=⟨Gz.ofI v1,Gz.ofI v4,(0,0),(0,0)⟩:=by rw [h6,h5,h2];rfl
    rw [e6,jn _ ⟨Gz.ofI_in hd,Gz.ofI_in hd2,Gz.zero_in,Gz.zero_in⟩,←h1,←h4,List.append_assoc];rfl
   ·rw [e3,decide_eq_false (by omega),cond_false,if_neg c]
    have e6:(Qd.mk v2 (0,0) (0,0) (0,0))=⟨Gz.ofI v1,(0,0),(0,0),(0,0)⟩:=by rw [h2];rfl
    rw [e6,jn _ ⟨Gz.ofI_in hd,Gz.zero_in,Gz.zero_in,Gz.zero_in⟩,←h1,List.append_assoc];rfl
  ·rw [decide_eq_false (by omega),cond_false,List.drop_of_length_le (by omega),Gz.pairs,List.append_nil]
theorem wv_pairs.goal (l:List Int) (hp:(decide (l.length≤256)&&Gz.digs l)=true):wv_pairs.F l=some [.sl .qd (Gz.pairs l)]:=by
 simp only [Bool.and_eq_true,decide_eq_true_eq] at hp
 rw [wv_pairs.F_eq]
 have:=wv_pairs.l1_ok l hp.2 hp.1 l.length 0 [] (by omega) (by omega) (by simp)
 rw [List.drop_zero,List.nil_append] at this
 exact this
end Go.Eng
namespace Go.Eng
open Go.IntWalk
namespace Gz
def pre (X Y:Nat→Int) (w:Int) (k:Nat):Nat→Int
 | 0=>0
 | j+1=>pre X Y w k j+(X j * ure (j * k * w) - Y j * uim (j * k * w))
def pim (X Y:Nat→Int) (w:Int) (k:Nat):Nat→Int
 | 0=>0
 | j+1=>pim X Y w k j+(X j * uim (j * k * w)+Y j * ure (j * k * w))
theorem part_is {l:Qd} {X Y:Nat→Int} {w:Int} {k:Nat} (h:∀j,j<4→Is (l.get j) (X j) (Y j)∧(X j).natAbs≤1125899906842624∧(Y j).natAbs≤1125899906842624) :
  ∀j,j≤4→Is (part l w k j) (pre X Y w k j) (pim X Y w k j)∧(pre X Y w k j).natAbs≤j * 2251799813685248∧(pim X Y w k j).natAbs≤j * 2251799813685248
 | 0,_=>⟨zero_is,by show (0:Int).natAbs≤_;omega,by show (0:Int).natAbs≤_;omega⟩
 | j+1,hj=>by
  obtain ⟨i1,i2,i3⟩:=part_is (w:=w) (k:=k) h j (by omega)
  obtain ⟨g1,g2,g3⟩:=h j (by omega)
  have t:=(turn_is (j * k * w) g1 g2 g3).2
  have b1:(X j * ure (j * k * w) - Y j * uim (j * k * w)).natAbs≤2251799813685248:=by
   rcases ure_cases (j * k * w) with e | e | e <;> rcases uim_cases (j * k * w) with f | f | f <;> rw [e,f] <;> omega
  have b2:(X j * uim (j * k * w)+Y j * ure (j * k * w)).natAbs≤2251799813685248:=by
   rcases ure_cases (j * k * w) with e | e | e <;> rcases uim_cases (j * k * w) with f | f | f <;> rw [e,f] <;> omega
  show Is (add (part l w k j) (turn (l.get j) (j * k * w))) (pre X Y w k j+(X j * ure (j * k * w) - Y j * uim (j * k * w))) (pim X Y w k j+(X j * uim (j * k * w)+Y j * ure (j * k * w)))∧(pre X Y w k j+(X j * ure (j * k * w) - Y j * uim (j * k * w))).natAbs≤_∧(pim X Y w k j+(X j * uim (j * k * w)+Y j * ure (j * k * w))).natAbs≤_
  generalize X j * ure (j * k * w) - Y j * uim (j * k * w)=A at *
  generalize X j * uim (j * k * w)+Y j * ure (j * k * w)=B at *
  exact ⟨(add_is i1 t (by omega) (by omega)).2,by omega,by omega⟩
def dg (x:Int):Prop:=0≤x∧x≤65535
def two (a b:Int):Qd:=sums ⟨ofI a,ofI b,(0,0),(0,0)⟩ 1
def rx (a b:Int) (k:Nat):Int:=a+b * ure k
def ry (b:Int) (k:Nat):Int:=b * uim k
theorem two_is {a b:Int} (ha:dg a) (hb:dg b) (k:Nat) (hk:k<4):Is ((two a b).get k) (rx a b k) (ry b k):=by
 unfold two
 rw [sums_get _ _ _ hk]
 have h:=(part_is (l:=⟨ofI a,ofI b,(0,0),(0,0)⟩) (w:=1) (k:=k) (X:=fun j=>[a,b].getD j 0) (Y:=fun _=>0) (fun j hj=>by
  have:j=0∨j=1∨j=2∨j=3:=by omega
  obtain ⟨a1,a2⟩:=ha
  obtain ⟨b1,b2⟩:=hb
  rcases this with rfl | rfl | rfl | rfl
  ·exact ⟨ofI_is ⟨a1,a2⟩,by show a.natAbs≤_;omega,by decide⟩
  ·exact ⟨ofI_is ⟨b1,b2⟩,by show b.natAbs≤_;omega,by decide⟩
  ·exact ⟨zero_is,by show (0:Int).natAbs≤_;omega,by show (0:Int).natAbs≤_;omega⟩
  ·exact ⟨zero_is,by show (0:Int).natAbs≤_;omega,by show (0:Int).natAbs≤_;omega⟩) 4 (by omega)).1
 have e1:pre (fun j=>[a,b].getD j 0) (fun _=>0) 1 k 4=rx a b k:=by simp [pre,rx,ure]
 have e2:pim (fun j=>[a,b].getD j 0) (fun _=>0) 1 k 4=ry b k:=by simp [pim,ry,uim]
 rw [e1,e2] at h
 exact h
theorem rx_le {a b:Int} (ha:dg a) (hb:dg b) (k:Nat):(rx a b k).natAbs≤131070:=by
 obtain ⟨a1,a2⟩:=ha
 obtain ⟨b1,b2⟩:=hb
 unfold rx
 rcases ure_cases k with e | e | e <;> rw [e] <;> omega
theorem ry_le {b:Int} (hb:dg b) (k:Nat):(ry b k).natAbs≤65535:=by
 obtain ⟨b1,b2⟩:=hb
 unfold ry
 rcases uim_cases k with e | e | e <;> rw [e] <;> omega
def prodq (x y:Qd):Qd:=⟨mul (x.get 0) (y.get 0),mul (x.get 1) (y.get 1),mul (x.get 2) (y.get 2),mul (x.get 3) (y.get 3)⟩
def zx (a b c d:Int) (k:Nat):Int:=rx a b k * rx c d k - ry b k * ry d k
def zy (a b c d:Int) (k:Nat):Int:=rx a b k * ry d k+ry b k * rx c d k
theorem prodq_get (x y:Qd) (k:Nat) (hk:k<4):(prodq x y).get k=mul (x.get k) (y.get k):=by
 have:k=0∨k=1∨k=2∨k=3:=by omega
 rcases this with rfl | rfl | rfl | rfl <;> rfl
theorem mul_le {a b:Int} {m n:Nat} (h1:a.natAbs≤m) (h2:b.natAbs≤n):(a * b).natAbs≤m * n:=by
 rw [Int.natAbs_mul];exact Nat.mul_le_mul h1 h2
theorem two_in {a b:Int} (ha:dg a) (hb:dg b) (k:Nat) (hk:k<4):In ((two a b).get k) 33554432 :=
 ⟨_,_,two_is ha hb k hk,by have:=rx_le ha hb k;omega,by have:=ry_le hb k;omega⟩
theorem prod_is {a b c d:Int} (ha:dg a) (hb:dg b) (hc:dg c) (hd:dg d) (k:Nat) (hk:k<4) :
  Is ((prodq (two a b) (two c d)).get k) (zx a b c d k) (zy a b c d k)∧(zx a b c d k).natAbs≤1125899906842624∧(zy a b c d k).natAbs≤1125899906842624:=by
 have x1:=rx_le ha hb k
 have x2:=ry_le hb k
 have x3:=rx_le hc hd k
 have x4:=ry_le hd k
 have y1:=mul_le x1 x3
 have y2:=mul_le x2 x4
 have y3:=mul_le x1 x4
 have y4:=mul_le x2 x3
 rw [prodq_get _ _ _ hk]
 refine ⟨(mul_is (two_is ha hb k hk) (two_is hc hd k hk) (by omega) (by omega) (by omega) (by omega)).2,?_,?_⟩
 ·unfold zx;omega
 ·unfold zy;omega
def co (a b c d:Int) (k:Nat):Int:=if k=0 then a * c else if k=1 then a * d+b * c else if k=2 then b * d else 0
theorem back_sum (a b c d:Int) (k:Nat) (hk:k<4):pre (zx a b c d) (zy a b c d) (-1) k 4=4 * co a b c d k∧pim (zx a b c d) (zy a b c d) (-1) k 4=4 * 0:=by
 have:k=0∨k=1∨k=2∨k=3:=by omega
 rcases this with rfl | rfl | rfl | rfl <;> constructor <;> simp [pre,pim,co,zx,zy,rx,ry,ure,uim,Int.add_mul,Int.mul_add,Int.sub_mul,Int.mul_sub,Int.neg_mul,Int.mul_neg] <;> omega
theorem co_le {a b c d:Int} (ha:dg a) (hb:dg b) (hc:dg c) (hd:dg d) (k:Nat):0≤co a b c d k∧co a b c d k≤8589672450:=by
 have m:∀{x y:Int},dg x→dg y→0≤x * y∧x * y≤4294836225:=fun {x y} h1 h2=>by
  have:=mul_le (a:=x) (b:=y) (m:=65535) (n:=65535) (by obtain ⟨_,_⟩:=h1;omega) (by obtain ⟨_,_⟩:=h2;omega)
  have h0:=Int.mul_nonneg h1.1 h2.1
  omega
 have m1:=m ha hc
 have m2:=m ha hd
 have m3:=m hb hc
 have m4:=m hb hd
 unfold co
 split
 ·omega
 ·split
  ·omega
  ·split <;> omega
theorem prod_in4 {a b c d:Int} (ha:dg a) (hb:dg b) (hc:dg c) (hd:dg d) (k:Nat) (hk:k<4):Is (part (prodq (two a b) (two c d)) (-1) k 4) (4 * co a b c d k) (4 * 0):=by
 have h:=(part_is (w:=-1) (k:=k) (fun j hj=>prod_is ha hb hc hd j hj) 4 (by omega)).1
 rw [(back_sum a b c d k hk).1,(back_sum a b c d k hk).2] at h
 exact h
theorem back_get (l:Qd) (k:Nat) (hk:k<4):(back l).get k=quarter (part l (-1) k 4):=by
 have:k=0∨k=1∨k=2∨k=3:=by omega
 rcases this with rfl | rfl | rfl | rfl <;> rfl
theorem quarter_is {z:Cx} {x y:Int} (h:Is z (4 * x) (4 * y)) (hx:x.natAbs≤562949953421312) (hy:y.natAbs≤562949953421312):Is (quarter z) x y:=by
 unfold quarter
 rw [(h.1.toInt (by omega)).2,(h.2.toInt (by omega)).2,Int.mul_tdiv_cancel_left _ (by omega),Int.mul_tdiv_cancel_left _ (by omega)]
 exact ⟨Fl.W.ofInt (by omega),Fl.W.ofInt (by omega)⟩
theorem back_is {a b c d:Int} (ha:dg a) (hb:dg b) (hc:dg c) (hd:dg d) (k:Nat) (hk:k<4):Is ((back (prodq (two a b) (two c d))).get k) (co a b c d k) 0:=by
 rw [back_get _ _ hk]
 have:=co_le ha hb hc hd k
 exact quarter_is (prod_in4 ha hb hc hd k hk) (by omega) (by omega)
theorem prod_ok {a b c d:Int} (ha:dg a) (hb:dg b) (hc:dg c) (hd:dg d):(inQ (prodq (two a b) (two c d)) 1125899906842624&&in4 (prodq (two a b) (two c d)))=true:=by
 have h:∀k,k<4→In ((prodq (two a b) (two c d)).get k) 1125899906842624:=fun k hk=>by
  obtain ⟨h1,h2,h3⟩:=prod_is ha hb hc hd k hk
  exact ⟨_,_,h1,h2,h3⟩
 rw [inQ_iff.2 ⟨h 0 (by omega),h 1 (by omega),h 2 (by omega),h 3 (by omega)⟩,in4_iff.2 fun k hk=>?_]
 ·rfl
 ·have:=co_le ha hb hc hd k
  exact ⟨_,_,prod_in4 ha hb hc hd k hk,by omega,by omega⟩
theorem pairs_length:∀l:List Int,(pairs l).length=(l.length+1) / 2
 | []=>rfl
 | [a]=>by simp [pairs]
 | a :: b :: r=>by rw [pairs,List.length_cons,pairs_length r,List.length_cons,List.length_cons];omega
theorem ofI_0:ofI 0=(0,0):=by
 have e:Fl.ofInt 0=0:=by decide +kernel
 unfold ofI;rw [e]
theorem pairs_get (e:Qd):∀(l:List Int) (i:Nat),i<(l.length+1) / 2→(pairs l).getD i e=two (l.getD (2 * i) 0) (l.getD (2 * i+1) 0)
 | [],i,h=>by simp at h
 | [a],i,h=>by
  obtain rfl:i=0:=by simp at h;omega
  show sums ⟨ofI a,(0,0),(0,0),(0,0)⟩ 1=two a 0
  unfold two;rw [ofI_0]
 | a :: b :: r,0,h=>rfl
 | a :: b :: r,i+1,h=>by
  rw [List.length_cons,List.length_cons] at h
  have:=pairs_get e r i (by omega)
  rw [show 2 * (i+1)=2 * i+2 by omega]
  exact this
theorem digs_dg {l:List Int} (h:digs l=true) (i:Nat):dg (l.getD i 0):=by
 by_cases c:i<l.length
 ·exact digs_get h i c
 ·rw [List.getD_eq_getElem?_getD,List.getElem?_eq_none (by omega)];exact ⟨by decide,by decide⟩
end Gz
end Go.Eng
namespace Go.Eng
open Go.IntWalk
namespace Gz
def T (f g:Nat→Int) (m:Nat):Nat→Int
 | 0=>0
 | n+1=>T f g m n+if n≤m then f n * g (m - n) else 0
def U (f g:Nat→Int) (i n m:Nat):Int:=(if i≤m∧m - i<n then f i * g (m - i) else 0)+if i+1≤m∧m - (i+1)<n then f (i+1) * g (m - (i+1)) else 0
theorem dmul {x y:Int} (h1:dg x) (h2:dg y):0≤x * y∧x * y≤4294836225:=by
 have:=mul_le (a:=x) (b:=y) (m:=65535) (n:=65535) (by obtain ⟨_,_⟩:=h1;omega) (by obtain ⟨_,_⟩:=h2;omega)
 have h0:=Int.mul_nonneg h1.1 h2.1
 omega
theorem T_le {f g:Nat→Int} (hf:∀i,dg (f i)) (hg:∀i,dg (g i)) (m:Nat):∀n,0≤T f g m n∧T f g m n≤n * 4294836225
 | 0=>⟨Int.le_refl _,by show (0:Int)≤_;omega⟩
 | n+1=>by
  have h:=T_le hf hg m n
  have h2:=dmul (hf n) (hg (m - n))
  rw [T]
  split <;> omega
theorem U_le {f g:Nat→Int} (hf:∀i,dg (f i)) (hg:∀i,dg (g i)) (i n m:Nat):0≤U f g i n m∧U f g i n m≤8589672450:=by
 have h1:=dmul (hf i) (hg (m - i))
 have h2:=dmul (hf (i+1)) (hg (m - (i+1)))
 unfold U
 split <;> split <;> omega
theorem U_0 (f g:Nat→Int) (i m:Nat):U f g i 0 m=0:=by
 unfold U
 rw [if_neg (by omega),if_neg (by omega)];rfl
theorem U_step (f g:Nat→Int) (i n m:Nat):U f g i (n+2) m=U f g i n m+if m=i+n then co (f i) (f (i+1)) (g n) (g (n+1)) 0 else if m=i+n+1 then co (f i) (f (i+1)) (g n) (g (n+1)) 1 else if m=i+n+2 then co (f i) (f (i+1)) (g n) (g (n+1)) 2 else 0:=by
 unfold U co
 by_cases c0:m=i+n
 ·subst c0
  rw [if_pos (by omega),if_pos rfl,if_pos rfl,if_neg (show ¬(i≤i+n∧i+n - i<n) by omega),show i+n - i=n by omega]
  by_cases c:n=0
  ·rw [if_neg (by omega),if_neg (by omega)];omega
  ·rw [if_pos (by omega),if_pos (by omega)];omega
 ·rw [if_neg c0]
  by_cases c1:m=i+n+1
  ·subst c1
   rw [if_pos (by omega),if_pos (by omega),if_pos rfl,if_neg (show ¬(i≤i+n+1∧i+n+1 - i<n) by omega),if_neg (show ¬(i+1≤i+n+1∧i+n+1 - (i+1)<n) by omega),show i+n+1 - i=n+1 by omega,show i+n+1 - (i+1)=n by omega,if_neg (by omega),if_pos rfl];omega
  ·rw [if_neg c1]
   by_cases c2:m=i+n+2
   ·subst c2
    rw [if_neg (by omega),if_pos (by omega),if_pos rfl,if_neg (show ¬(i≤i+n+2∧i+n+2 - i<n) by omega),if_neg (show ¬(i+1≤i+n+2∧i+n+2 - (i+1)<n) by omega),show i+n+2 - (i+1)=n+1 by omega,if_neg (by omega),if_neg (by omega),if_pos rfl];omega
   ·rw [if_neg c2]
    have e1:(i≤m∧m - i<n+2) ↔ (i≤m∧m - i<n):=by omega
    have e2:(i+1≤m∧m - (i+1)<n+2) ↔ (i+1≤m∧m - (i+1)<n):=by omega
    simp only [e1,e2,Int.add_zero]
theorem T_row {f g:Nat→Int} {n:Nat} (hg:∀i,n≤i→g i=0) (i m:Nat):T f g m (i+2)=T f g m i+U f g i n m:=by
 rw [T,T,U]
 have e:∀k,(if k≤m then f k * g (m - k) else 0)=if k≤m∧m - k<n then f k * g (m - k) else 0:=fun k=>by
  by_cases c:k≤m
  ·by_cases d:m - k<n
   ·rw [if_pos c,if_pos ⟨c,d⟩]
   ·rw [if_pos c,if_neg (by omega),hg _ (by omega),Int.mul_zero]
  ·rw [if_neg c,if_neg (by omega)]
 rw [e,e];omega
theorem T_end {f g:Nat→Int} {m n:Nat} (h:∀i,n≤i→i≤m→f i=0):∀k,T f g m (n+k)=T f g m n
 | 0=>rfl
 | k+1=>by
  rw [←Nat.add_assoc,T,T_end h k]
  split
  ·rw [h _ (by omega) (by omega),Int.zero_mul,Int.add_zero]
  ·rw [Int.add_zero]
theorem coef_eq (a b:List Int) (m:Nat):coef a b m=T (a.getD · 0) (b.getD · 0) m (m+1):=by
 unfold coef
 have:∀n,n≤m+1→(List.range n).foldl (fun s i=>s+a.getD i 0 * b.getD (m - i) 0) 0=T (a.getD · 0) (b.getD · 0) m n:=by
  intro n
  induction n with
  | zero=>intro _;rfl
  | succ n ih =>
   intro h
   rw [List.range_succ,List.foldl_append,ih (by omega),T,if_pos (by omega)];rfl
 exact this _ (Nat.le_refl _)
theorem coef_T (a b:List Int) (m n:Nat) (hn:a.length≤n):T (a.getD · 0) (b.getD · 0) m n=coef a b m:=by
 rw [coef_eq,←T_end (n:=n) (k:=m+1) (fun i h1 _=>by
  show a.getD i 0=0
  rw [List.getD_eq_getElem?_getD,List.getElem?_eq_none (by omega)];rfl),Nat.add_comm n (m+1),T_end (fun i h1 h2=>by omega)]
theorem lset {l:List Int} {n:Nat} (x:Int) (m:Nat) (h:n<l.length):(l.set n x).getD m 0=if m=n then x else l.getD m 0:=by
 rw [List.getD_eq_getElem?_getD,List.getElem?_set]
 by_cases c:n=m
 ·subst c;rw [if_pos rfl,if_pos h,if_pos rfl];rfl
 ·rw [if_neg c,if_neg (fun e=>c e.symm),List.getD_eq_getElem?_getD]
def grow (o:List Int) (p:Nat) (x y z:Int):List Int :=
 let o1:=o.set p (o.getD p 0+x)
 let o2:=o1.set (p+1) (o1.getD (p+1) 0+y)
 o2.set (p+2) (o2.getD (p+2) 0+z)
theorem grow_get {o:List Int} {p:Nat} (x y z:Int) (h:p+2<o.length) (m:Nat):(grow o p x y z).getD m 0=o.getD m 0+if m=p then x else if m=p+1 then y else if m=p+2 then z else 0:=by
 unfold grow
 simp only
 have hl:∀(o:List Int) (n:Nat) (x:Int),p+2<o.length→p+2<(o.set n x).length:=fun o n x h=>by rw [List.length_set];exact h
 have q1:=hl o p (o.getD p 0+x) h
 rw [lset (n:=p+2) _ m (hl _ _ _ q1),lset (n:=p+1) _ m (by omega),lset (n:=p+1) _ (p+2) (by omega),lset (n:=p) _ m (by omega),lset (n:=p) _ (p+1) (by omega),lset (n:=p) _ (p+2) (by omega)]
 by_cases c0:m=p
 ·subst c0
  rw [if_neg (by omega),if_neg (by omega),if_pos rfl,if_pos rfl]
 ·by_cases c1:m=p+1
  ·subst c1
   rw [if_neg (by omega),if_pos rfl,if_neg (by omega),if_neg (by omega),if_pos rfl]
  ·by_cases c2:m=p+2
   ·subst c2
    rw [if_pos rfl,if_neg (by omega),if_neg (by omega),if_neg c0,if_neg c1,if_pos rfl]
   ·rw [if_neg c2,if_neg c1,if_neg c0,if_neg c0,if_neg c1,if_neg c2,Int.add_zero]
theorem grow_length (o:List Int) (p:Nat) (x y z:Int):(grow o p x y z).length=o.length:=by
 unfold grow;simp
end Gz
open Gz
theorem wv_Fold.l3_ok (x0 x1:List Int) (x2:List Qd) (x3 x4:Int) (x5:List Qd) (x6 x7:Int) (x8:List Qd) (x9 x10:Int) (o:List Int) (x y:Qd) (hx:∀k,k<4→In (x.get k) 33554432) (hy:∀k,k<4→In (y.get k) 33554432) (ho:(inQ (prodq x y) 1125899906842624&&in4 (prodq x y))=true) :
  wv_Fold.l3 x0 x1 x2 x3 x4 x5 x6 x7 x8 x9 x10 0 x y ⟨(0,0),(0,0),(0,0),(0,0)⟩ o=wv_Fold.l4 x0 x1 x2 x3 x4 x5 x6 x7 x8 x9 x10 0 x (back (prodq x y)) o:=by
 have st:∀(k:Nat) (z:Qd),k<4→wv_Fold.l3 x0 x1 x2 x3 x4 x5 x6 x7 x8 x9 x10 k x y z o=wv_Fold.l3 x0 x1 x2 x3 x4 x5 x6 x7 x8 x9 x10 ((k+1:Nat):Int) x y (z.set k (mul (x.get k) (y.get k))) o:=fun k z hk=>by
  refine wv_Fold.l3_in _ _ _ _ _ _ _ _ _ _ _ _ _ _ _ _ ?_
  intro v1 h1 v2 h2 v3 h3
  have e3:v3=((k+1:Nat):Int):=by rw [h3,i64_in _ (by omega)];omega
  rw [Int.toNat_natCast] at h1 h2
  rw [decide_eq_true (by omega),cond_true,ck_of (idx_ok (by omega) (by omega)),ck_of (decide_eq_true (by omega)),ck_of (idx_ok (by omega) (by omega)),ck_of (decide_eq_true (by omega)),Int.toNat_natCast,inB_iff.2 (hx k hk),inB_iff.2 (hy k hk),Bool.and_self,ck_true,ck_of (idx_ok (by omega) (by omega)),ck_of (decide_eq_true (by omega)),e3,h2,h1]
 refine (st 0 _ (by omega)).trans ?_
 refine (st 1 _ (by omega)).trans ?_
 refine (st 2 _ (by omega)).trans ?_
 refine (st 3 _ (by omega)).trans ?_
 refine wv_Fold.l3_in _ _ _ _ _ _ _ _ _ _ _ _ _ _ _ _ ?_
 intro v1 h1 v2 h2 v3 h3
 rw [decide_eq_false (by decide),cond_false]
 exact ck_of ho
theorem wv_Fold.l4_ok (x0 x1:List Int) (x2:List Qd) (x3:Int) (i j:Nat) (x5:List Qd) (x6 x7:Int) (x8:List Qd) (x9:Int) (o:List Int) (x y:Qd) (c:Nat→Int) (hc:∀k,k<4→Is (y.get k) (c k) 0∧0≤c k∧c k≤8589672450) (hi:i≤128) (hj:j≤128) (ho:2 * i+2 * j+2<o.length) (hb:∀m,0≤o.getD m 0∧o.getD m 0≤1125899906842624) (hx3:x3=i) :
  wv_Fold.l4 x0 x1 x2 x3 j x5 x6 x7 x8 x9 j 0 x y o=wv_Fold.l2 x0 x1 x2 x3 x5 x6 x7 x8 x9 ((j+1:Nat):Int) x (grow o (2 * i+2 * j) (c 0) (c 1) (c 2)):=by
 have st:∀(k:Nat) (o:List Int),k<3→2 * i+2 * j+2<o.length→(0≤o.getD (2 * i+2 * j+k) 0∧o.getD (2 * i+2 * j+k) 0≤1125899906842624)→wv_Fold.l4 x0 x1 x2 x3 j x5 x6 x7 x8 x9 j k x y o=wv_Fold.l4 x0 x1 x2 x3 j x5 x6 x7 x8 x9 j ((k+1:Nat):Int) x y (o.set (2 * i+2 * j+k) (o.getD (2 * i+2 * j+k) 0+c k)):=fun k o hk ho hb=>by
  refine wv_Fold.l4_in _ _ _ _ _ _ _ _ _ _ _ _ _ _ _ ?_
  intro v1 h1 v2 h2 v3 h3 v4 h4 v5 h5 v6 h6 v7 h7 v8 h8 v9 h9
  obtain ⟨q1,q2,q3⟩:=hc k (by omega)
  rw [Int.toNat_natCast] at h1 h2
  have e1:v1=c k:=by rw [h1];exact (q1.1.toInt (by omega)).2
  have e3:v3=2 * i:=by rw [h3,hx3,i64_in _ (by omega)]
  have e4:v4=2 * j:=by rw [h4,i64_in _ (by omega)]
  have e5:v5=((2 * i+2 * j+k:Nat):Int):=by rw [h5,e3,e4,i64_in (2 * (i:Int)+2 * j) (by omega),i64_in _ (by omega)];omega
  rw [e5,Int.toNat_natCast] at h6 h7
  have e7:v7=o.set (2 * i+2 * j+k) (o.getD (2 * i+2 * j+k) 0+c k):=by rw [h7,h6,e1,i64_in _ (by omega)]
  have e8:v8=((k+1:Nat):Int):=by rw [h8,i64_in _ (by omega)];omega
  have b1:inB (y.get k) 4503599627370496=true:=inB_iff.2 ⟨_,_,q1,by omega,by omega⟩
  rw [decide_eq_true (by omega),cond_true,ck_of (idx_ok (by omega) (by omega)),ck_of (decide_eq_true (by omega)),Int.toNat_natCast,ck_of b1,e5,ck_of (idx_ok (by omega) (by omega)),Int.toNat_natCast,ck_of (decide_eq_true (by omega)),ck_of (idx_ok (by omega) (by omega)),ck_of (decide_eq_true (by omega)),e7,e8]
 refine (st 0 _ (by omega) ho (hb _)).trans ?_
 refine (st 1 _ (by omega) (by rw [List.length_set];exact ho) (by rw [lset _ _ (by omega),if_neg (by omega)];exact hb _)).trans ?_
 refine (st 2 _ (by omega) (by rw [List.length_set,List.length_set];exact ho) (by rw [lset _ _ (by rw [List.length_set];omega),if_neg (by omega),lset _ _ (by omega),if_neg (by omega)];exact hb _)).trans ?_
 refine wv_Fold.l4_in _ _ _ _ _ _ _ _ _ _ _ _ _ _ _ ?_
 intro v1 h1 v2 h2 v3 h3 v4 h4 v5 h5 v6 h6 v7 h7 v8 h8 v9 h9
 have e9:v9=((j+1:Nat):Int):=by rw [h9,i64_in _ (by omega)];omega
 rw [decide_eq_false (by decide),cond_false,e9]
 rfl
theorem wv_Fold.l2_ok (a b:List Int) (ha:Gz.digs a=true) (hb:Gz.digs b=true) (la:a.length≤256) (lb:b.length≤256) (i:Nat) (hi:i<(a.length+1) / 2):∀(m j:Nat) (o:List Int),j+m=(b.length+1) / 2→o.length=a.length+b.length+2→(∀q,o.getD q 0=T (a.getD · 0) (b.getD · 0) q (2 * i)+U (a.getD · 0) (b.getD · 0) (2 * i) (2 * j) q) →
  ∃o':List Int,wv_Fold.l2 a b (pairs b) i (pairs a) ((pairs a).length:Int) i (pairs b) ((pairs b).length:Int) j (two (a.getD (2 * i) 0) (a.getD (2 * i+1) 0)) o=wv_Fold.l1 a b (pairs b) (pairs a) ((pairs a).length:Int) ((i+1:Nat):Int) o'∧o'.length=a.length+b.length+2∧∀q,o'.getD q 0=T (a.getD · 0) (b.getD · 0) q (2 * (i+1)):=by
 intro m
 induction m with
 | zero =>
  intro j o hj ho hv
  refine ⟨o,?_,ho,?_⟩
  ·refine wv_Fold.l2_in _ _ _ _ _ _ _ _ _ _ _ _ ?_
   intro v1 h1 v2 h2
   have e2:v2=((i+1:Nat):Int):=by rw [h2,i64_in _ (by omega)];omega
   rw [pairs_length,decide_eq_false (by omega),cond_false,e2]
  ·intro q
   rw [hv q,show 2 * (i+1)=2 * i+2 by omega,T_row (n:=2 * j) (fun k hk=>by
    show b.getD k 0=0
    rw [List.getD_eq_getElem?_getD,List.getElem?_eq_none (by omega)];rfl)]
 | succ m ih =>
  intro j o hj ho hv
  have hf:=digs_dg ha
  have hg:=digs_dg hb
  have f0:=hf (2 * i)
  have f1:=hf (2 * i+1)
  have g0:=hg (2 * j)
  have g1:=hg (2 * j+1)
  obtain ⟨o',h1,h2,h3⟩:=ih (j+1) (grow o (2 * i+2 * j) (co (a.getD (2 * i) 0) (a.getD (2 * i+1) 0) (b.getD (2 * j) 0) (b.getD (2 * j+1) 0) 0) (co (a.getD (2 * i) 0) (a.getD (2 * i+1) 0) (b.getD (2 * j) 0) (b.getD (2 * j+1) 0) 1) (co (a.getD (2 * i) 0) (a.getD (2 * i+1) 0) (b.getD (2 * j) 0) (b.getD (2 * j+1) 0) 2)) (by omega) (by rw [grow_length];exact ho) (fun q=>by
   rw [grow_get _ _ _ (by omega),hv q,show 2 * (j+1)=2 * j+2 by omega,U_step,Int.add_assoc])
  refine ⟨o',Eq.trans ?_ h1,h2,h3⟩
  refine wv_Fold.l2_in _ _ _ _ _ _ _ _ _ _ _ _ ?_
  intro v1 h1 v2 h2
  rw [Int.toNat_natCast,pairs_get _ _ _ (by omega)] at h1
  have hp:=pairs_length b
  rw [decide_eq_true (by omega),cond_true,ck_of (idx_ok (by omega) (by omega)),h1]
  rw [wv_Fold.l3_ok _ _ _ _ _ _ _ _ _ _ _ _ _ _ (fun k hk=>two_in f0 f1 k hk) (fun k hk=>two_in g0 g1 k hk) (prod_ok f0 f1 g0 g1)]
  exact wv_Fold.l4_ok _ _ _ _ i j _ _ _ _ _ _ _ _ (co (a.getD (2 * i) 0) (a.getD (2 * i+1) 0) (b.getD (2 * j) 0) (b.getD (2 * j+1) 0)) (fun k hk=>⟨back_is f0 f1 g0 g1 k hk,co_le f0 f1 g0 g1 k⟩) (by omega) (by omega) (by omega) (fun q=>by
   rw [hv q]
   have t1:=T_le (f:=(a.getD · 0)) (g:=(b.getD · 0)) hf hg q (2 * i)
   have t2:=U_le (f:=(a.getD · 0)) (g:=(b.getD · 0)) hf hg (2 * i) (2 * j) q
   omega) rfl
theorem list_of (o:List Int) (f:Nat→Int) (n:Nat) (hn:n≤o.length) (h:∀q,o.getD q 0=f q):o.take n=(List.range n).map f:=by
 apply List.ext_getElem
 ·rw [List.length_take,List.length_map,List.length_range];omega
 ·intro i h1 h2
  rw [List.length_take] at h1
  have:=h i
  rw [List.getD_eq_getElem?_getD,List.getElem?_eq_getElem (by omega)] at this
  rw [List.getElem_take,List.getElem_map,List.getElem_range]
  exact this
theorem wv_Fold.l1_ok (a b:List Int) (ha:Gz.digs a=true) (hb:Gz.digs b=true) (la:a.length≤256) (lb:b.length≤256) (na:a≠[]) (nb:b≠[]):∀(m i:Nat) (o:List Int),i+m=(a.length+1) / 2→o.length=a.length+b.length+2→(∀q,o.getD q 0=T (a.getD · 0) (b.getD · 0) q (2 * i)) →
  wv_Fold.l1 a b (pairs b) (pairs a) ((pairs a).length:Int) i o=some [.sl .is (conv a b),.b true]:=by
 have pa:=List.length_pos_iff.2 na
 have pb:=List.length_pos_iff.2 nb
 intro m
 induction m with
 | zero =>
  intro i o hi ho hv
  refine wv_Fold.l1_in _ _ _ _ _ _ _ ?_
  intro v1 h1 v2 h2 v3 h3
  have e2:v2=a.length+b.length:=by rw [h2,i64_in _ (by omega)]
  have e3:v3=((a.length+b.length - 1:Nat):Int):=by rw [h3,e2,i64_in _ (by omega)];omega
  have e:o.take (a.length+b.length - 1)=conv a b:=by
   rw [list_of o (coef a b) _ (by omega) (fun q=>by rw [hv q,coef_T a b q _ (by omega)])]
   unfold conv
   rw [if_neg (by simp [na,nb])]
  rw [pairs_length,decide_eq_false (by omega),cond_false,e3,Int.toNat_natCast,ck_of (cut_ok (by omega) (by omega) (by omega)),ck_of (big_ap (by rw [List.length_take];omega) (by rw [List.length_take];omega)),e]
 | succ m ih =>
  intro i o hi ho hv
  refine wv_Fold.l1_in _ _ _ _ _ _ _ ?_
  intro v1 h1 v2 h2 v3 h3
  have hp:=pairs_length a
  rw [Int.toNat_natCast,pairs_get _ _ _ (by omega)] at h1
  obtain ⟨o',q1,q2,q3⟩:=wv_Fold.l2_ok a b ha hb la lb i (by omega) ((b.length+1) / 2) 0 o (by omega) ho (fun q=>by rw [hv q,Nat.mul_zero,U_0,Int.add_zero])
  rw [decide_eq_true (by omega),cond_true,ck_of (idx_ok (by omega) (by omega)),h1]
  exact Eq.trans q1 (ih (i+1) o' (by omega) q2 q3)
theorem wv_Fold.goal (a b:List Int) (hp:(decide (a.length≤256∧b.length≤256)&&(Gz.digs a&&Gz.digs b))=true):wv_Fold.F a b=some [.sl .is (Gz.conv a b),.b true]:=by
 simp only [Bool.and_eq_true,decide_eq_true_eq] at hp
 obtain ⟨⟨la,lb⟩,ha,hb⟩:=hp
 refine wv_Fold.F_in _ _ ?_
 intro v1 h1 v2 h2 v3 h3 v4 h4 v5 h5 v6 h6
 have e1:v1=false:=h1
 have ca:(decide (a.length≤256)&&Gz.digs a)=true:=by rw [ha,decide_eq_true la];rfl
 have cb:(decide (b.length≤256)&&Gz.digs b)=true:=by rw [hb,decide_eq_true lb];rfl
 simp only [Bool.not_or_self,Bool.or_not_self,Bool.not_not,Bool.not_true,Bool.true_and,Bool.false_or,Bool.or_self,ck_true,ca,cb,e1,cond_false]
 by_cases na:a=[]
 ·subst na
  have e2:v2=true:=h2
  rw [e2,cond_true];unfold conv;rw [if_pos (Or.inl rfl)];rfl
 ·by_cases nb:b=[]
  ·subst nb
   have e2:v2=true:=by
    rw [h2]
    cases decide ((a.length:Int)=0) <;> rfl
   rw [e2,cond_true];unfold conv;rw [if_pos (Or.inr rfl)];rfl
  ·have pa:=List.length_pos_iff.2 na
   have pb:=List.length_pos_iff.2 nb
   have e2:v2=false:=by rw [h2,decide_eq_false (by omega),cond_false];exact decide_eq_false (by omega)
   have e3:v3=a.length+b.length:=by rw [h3,i64_in _ (by omega)]
   have e4:v4=((a.length+b.length+2:Nat):Int):=by rw [h4,e3,i64_in _ (by omega)];omega
   rw [e4,Int.toNat_natCast] at h5
   rw [e2,cond_false,e4]
   refine Eq.trans (ck_of rfl) ?_
   rw [ck_of (mkOK_iff.2 ⟨by omega,by omega,by omega,by rw [maxLen_eq];omega⟩),h6]
   exact wv_Fold.l1_ok a b ha hb la lb na nb ((a.length+1) / 2) 0 v5 (by omega) (by rw [h5,List.length_replicate]) (fun q=>by
    rw [h5]
    show _=(0:Int)
    rw [List.getD_eq_getElem?_getD,List.getElem?_replicate]
    split <;> rfl)
end Go.Eng
namespace Go.Eng
open Go.IntWalk
namespace Gz
def evI:List Int→Int
 | []=>0
 | x :: r=>x+65536 * evI r
def evN (h:Nat→Int):Nat→Int
 | 0=>0
 | n+1=>evN h n+h n * 65536 ^ n
theorem evI_snoc:∀(l:List Int) (x:Int),evI (l++[x])=evI l+x * 65536 ^ l.length
 | [],x=>by simp [evI]
 | y :: r,x=>by
  rw [List.cons_append,evI,evI_snoc r x,evI,List.length_cons,Int.pow_succ,Int.mul_add,←Int.mul_assoc x,Int.mul_comm 65536 (x * _),Int.add_assoc]
theorem evI_range (f:Nat→Int):∀n,evI ((List.range n).map f)=evN f n
 | 0=>rfl
 | n+1=>by rw [List.range_succ,List.map_append,List.map_singleton,evI_snoc,evI_range f n,List.length_map,List.length_range];rfl
theorem evI_eq (l:List Int):evI l=evN (l.getD · 0) l.length:=by
 rw [←evI_range,←list_of l _ l.length (Nat.le_refl _) (fun _=>rfl),List.take_length]
theorem evN_congr {f g:Nat→Int}:∀n,(∀i,i<n→f i=g i)→evN f n=evN g n
 | 0,_=>rfl
 | n+1,h=>by rw [evN,evN,evN_congr n (fun i hi=>h i (by omega)),h n (by omega)]
theorem evN_add (f g:Nat→Int):∀n,evN (fun i=>f i+g i) n=evN f n+evN g n
 | 0=>rfl
 | n+1=>by
  simp only [evN]
  rw [evN_add f g n,Int.add_mul];omega
theorem evN_zero:∀n,evN (fun _=>0) n=0
 | 0=>rfl
 | n+1=>by
  simp only [evN]
  rw [evN_zero n,Int.zero_mul];rfl
theorem evN_end {g:Nat→Int} {n:Nat} (h:∀i,n≤i→g i=0):∀k,evN g (n+k)=evN g n
 | 0=>rfl
 | k+1=>by rw [←Nat.add_assoc,evN,evN_end h k,h _ (by omega),Int.zero_mul,Int.add_zero]
theorem evN_shift (c:Int) (g:Nat→Int) (n:Nat):∀k,evN (fun m=>if n≤m then c * g (m - n) else 0) (n+k)=c * 65536 ^ n * evN g k
 | 0=>by
  rw [Nat.add_zero,evN_congr (g:=fun _=>0) n (fun i hi=>if_neg (by omega)),evN_zero,evN,Int.mul_zero]
 | k+1=>by
  rw [←Nat.add_assoc,evN,evN_shift c g n k,evN]
  rw [if_pos (by omega),show n+k - n=k by omega,Int.mul_add,Int.pow_add,Int.mul_assoc c (g k),Int.mul_assoc c (65536 ^ n) (g k * 65536 ^ k),←Int.mul_assoc (g k),Int.mul_comm (g k) (65536 ^ n),Int.mul_assoc (65536 ^ n) (g k)]
theorem evN_T {f g:Nat→Int} {L:Nat} (hg:∀i,L≤i→g i=0) (N:Nat):∀n,n+L≤N+1→n≤N→evN (fun m=>T f g m n) N=evN f n * evN g L
 | 0,_,_=>by
  rw [evN,Int.zero_mul];exact evN_zero N
 | n+1,h,h2=>by
  have e:=evN_shift (f n) g n (N - n)
  rw [show n+(N - n)=N by omega] at e
  have e2:evN g (N - n)=evN g L:=by
   rw [show N - n=L+(N - n - L) by omega];exact evN_end hg _
  have:=evN_add (fun m=>T f g m n) (fun m=>if n≤m then f n * g (m - n) else 0) N
  rw [e,e2,evN_T hg N n (by omega) (by omega),←Int.add_mul] at this
  exact this
theorem evI_conv (a b:List Int):evI (conv a b)=evI a * evI b:=by
 by_cases na:a=[]
 ·subst na;unfold conv;rw [if_pos (Or.inl rfl)];simp [evI]
 ·by_cases nb:b=[]
  ·subst nb;unfold conv;rw [if_pos (Or.inr rfl)];simp [evI]
  ·have pa:=List.length_pos_iff.2 na
   have pb:=List.length_pos_iff.2 nb
   unfold conv
   rw [if_neg (by simp [na,nb]),evI_range,evI_eq a,evI_eq b]
   rw [evN_congr (g:=fun m=>T (a.getD · 0) (b.getD · 0) m a.length) _ (fun i _=>(coef_T a b i _ (Nat.le_refl _)).symm)]
   exact evN_T (fun i hi=>by
    show b.getD i 0=0
    rw [List.getD_eq_getElem?_getD,List.getElem?_eq_none (by omega)];rfl) _ _ (by omega) (by omega)
theorem evI_val:∀a:List UInt16,evI (a.map fun d=>(d.toNat:Int))=(Nt.val a:Int)
 | []=>rfl
 | d :: r=>by rw [List.map_cons,evI,evI_val r,Nt.val];omega
theorem conv_length (a b:List Int):(conv a b).length=if a=[]∨b=[] then 0 else a.length+b.length - 1:=by
 unfold conv
 split
 ·rfl
 ·rw [List.length_map,List.length_range]
theorem conv_get (a b:List Int) (ha:digs a=true) (hb:digs b=true) (la:a.length≤256) (i:Nat):0≤(conv a b).getD i 0∧(conv a b).getD i 0≤1099478073600:=by
 by_cases h:i<(conv a b).length
 ·have hl:=conv_length a b
  by_cases c:a=[]∨b=[]
  ·rw [hl,if_pos c] at h;omega
  ·have e:(conv a b).getD i 0=coef a b i:=by
    rw [List.getD_eq_getElem?_getD,List.getElem?_eq_getElem h]
    unfold conv
    simp only [if_neg c,List.getElem_map,List.getElem_range,Option.getD_some]
   rw [e,←coef_T a b i _ (Nat.le_refl _)]
   have:=T_le (f:=(a.getD · 0)) (g:=(b.getD · 0)) (digs_dg ha) (digs_dg hb) i a.length
   omega
 ·rw [List.getD_eq_getElem?_getD,List.getElem?_eq_none (by omega)];exact ⟨by decide,by decide⟩
end Gz
open Gz
theorem val_more (acc:List UInt16) (c:Nat):Nt.val (acc++[UInt16.ofNat c])+65536 ^ (acc.length+1) * (c / 65536)=Nt.val acc+65536 ^ acc.length * c:=by
 rw [Nt.val_append]
 simp only [Nt.val,Nat.mul_zero,Nat.add_zero,Nt.u16_ofNat]
 rw [Nat.pow_succ,Nat.mul_assoc,Nat.add_assoc,←Nat.mul_add,Nat.mod_add_div]
theorem bg_Mul.l2_ok (R:Nat):∀(k:Nat) (acc:List UInt16) (c:Nat),c<65536 ^ k→acc.length+k≤10000→Nt.val acc+65536 ^ acc.length * c=R→bg_Mul.l2 acc c=some [.sl .ws (Nt.of R)]:=by
 intro k
 induction k with
 | zero =>
  intro acc c hc hl hv
  obtain rfl:c=0:=by simpa using hc
  refine bg_Mul.l2_in _ _ ?_
  intro v1 h1 v2 h2
  rw [decide_eq_false (by omega),cond_false,ck_of (decide_eq_true (by omega)),←hv,Nat.mul_zero,Nat.add_zero]
 | succ k ih =>
  intro acc c hc hl hv
  refine bg_Mul.l2_in _ _ ?_
  intro v1 h1 v2 h2
  by_cases c0:c=0
  ·subst c0
   rw [decide_eq_false (by omega),cond_false,ck_of (decide_eq_true (by omega)),←hv,Nat.mul_zero,Nat.add_zero]
  ·rw [u16_wrap] at h1
   rw [fdiv16] at h2
   rw [decide_eq_true (by omega),cond_true,h1,h2,ck_of (big_ap (by rw [List.length_singleton];omega) (by rw [List.length_singleton];omega))]
   exact ih _ _ (by rw [Nat.pow_succ] at hc;exact Nat.div_lt_of_lt_mul (by rw [Nat.mul_comm];exact hc)) (by rw [List.length_append,List.length_singleton];omega) (by
    rw [List.length_append,List.length_singleton,val_more];exact hv)
theorem bg_Mul.l1_ok (l:List Int) (hl:l.length≤600) (hb:∀i,0≤l.getD i 0∧l.getD i 0≤1099478073600) (R:Nat):∀(m i:Nat) (acc:List UInt16) (c:Nat),i+m=l.length→acc.length=i→c≤1099511627776→((Nt.val acc:Nat):Int)+65536 ^ i * (c+evI (l.drop i))=R→bg_Mul.l1 acc c l l.length i=some [.sl .ws (Nt.of R)]:=by
 intro m
 induction m with
 | zero =>
  intro i acc c hi ha hc hv
  refine bg_Mul.l1_in _ _ _ _ _ ?_
  intro v1 h1 v2 h2 v3 h3 v4 h4
  rw [List.drop_of_length_le (by omega),evI,Int.add_zero] at hv
  rw [decide_eq_false (by omega),cond_false]
  refine bg_Mul.l2_ok R 3 acc c (by omega) (by omega) ?_
  rw [ha]
  have e:((65536 ^ i * c:Nat):Int)=65536 ^ i * (c:Int):=by rw [Int.natCast_mul,Int.natCast_pow];rfl
  omega
 | succ m ih =>
  intro i acc c hi ha hc hv
  refine bg_Mul.l1_in _ _ _ _ _ ?_
  intro v1 h1 v2 h2 v3 h3 v4 h4
  rw [Int.toNat_natCast] at h1
  have hx:=hb i
  rw [←h1] at hx
  obtain ⟨x,rfl⟩:=Int.eq_ofNat_of_zero_le hx.1
  have e0:IntKind.i64.wrap ((c:Int)+(x:Int))=((c+x:Nat):Int):=by rw [i64_in _ (by omega)];omega
  rw [e0] at h2 h3
  rw [u16_wrap] at h2
  rw [fdiv16] at h3
  have e4:v4=((i+1:Nat):Int):=by rw [h4,i64_in _ (by omega)];omega
  rw [decide_eq_true (by omega),cond_true,ck_of (idx_ok (by omega) (by omega)),ck_of (big_ap (by rw [List.length_singleton];omega) (by rw [List.length_singleton];omega)),h2,h3,e4]
  refine ih (i+1) _ _ (by omega) (by rw [List.length_append,List.length_singleton];omega) (by omega) ?_
  rw [drop_cons (show i<l.length by omega) 0,evI,←h1] at hv
  have hm:=val_more acc (c+x)
  rw [ha] at hm
  have hm2:((Nt.val (acc++[UInt16.ofNat (c+x)]):Nat):Int)+65536 ^ (i+1) * (((c+x) / 65536:Nat):Int)=(Nt.val acc:Int)+65536 ^ i * ((c+x:Nat):Int):=by
   have:=congrArg (Nat.cast:Nat→Int) hm
   rw [Int.natCast_add,Int.natCast_add,Int.natCast_mul,Int.natCast_mul,Int.natCast_pow,Int.natCast_pow] at this
   exact this
  generalize evI (l.drop (i+1))=E at *
  rw [Int.mul_add,←Int.add_assoc,hm2,←hv,Int.pow_succ,Int.mul_assoc,Int.add_assoc,←Int.mul_add]
  congr 2
  omega
theorem bg_Mul.goal (a b:List UInt16) (hp:(Nt.is a&&Nt.is b)=true):bg_Mul.F a b=some [.sl .ws (Nt.of (Nt.val a * Nt.val b))]:=by
 simp only [Bool.and_eq_true] at hp
 obtain ⟨ha,hb⟩:=hp
 have la:=Nt.is_len ha
 have lb:=Nt.is_len hb
 have hd:∀a:List UInt16,Gz.digs (a.map fun d=>(d.toNat:Int))=true:=fun a=>by
  unfold Gz.digs
  rw [List.all_eq_true]
  intro x hx
  obtain ⟨d,_,rfl⟩:=List.mem_map.1 hx
  have:=d.toNat_lt
  exact decide_eq_true (by omega)
 refine bg_Mul.F_in _ _ ?_
 intro v1 h1 v2 h2 v3 h3 v4 h4
 have e1:v1=false:=by rw [h1,ha,hb];rfl
 have l2:v2.length=a.length:=by rw [h2,List.length_map]
 have l3:v3.length=b.length:=by rw [h3,List.length_map]
 have d2:Gz.digs v2=true:=by rw [h2];exact hd a
 have d3:Gz.digs v3=true:=by rw [h3];exact hd b
 have c1:(decide (v2.length≤256∧v3.length≤256)&&(Gz.digs v2&&Gz.digs v3))=true:=by rw [d2,d3,decide_eq_true ⟨by omega,by omega⟩];rfl
 rw [e1,ha,h4,ck_of c1,decide_eq_true (show a.length≤1099511627776 by omega),decide_eq_true (show b.length≤1099511627776 by omega),decide_eq_true (show a.length≤256 by omega),decide_eq_true (show b.length≤256 by omega)]
 refine Eq.trans (b:=bg_Mul.l1 [] 0 (Gz.conv v2 v3) (Gz.conv v2 v3).length 0) rfl ?_
 have hl:(Gz.conv v2 v3).length≤600:=by
  rw [Gz.conv_length]
  split <;> omega
 refine bg_Mul.l1_ok _ hl (Gz.conv_get _ _ d2 d3 (by omega)) _ (Gz.conv v2 v3).length 0 [] 0 (by omega) rfl (by omega) ?_
 rw [List.drop_zero,Gz.evI_conv,h2,h3,Gz.evI_val,Gz.evI_val,Int.natCast_mul]
 simp [Nt.val]
end Go.Eng
namespace Go.Eng
open Go.IntWalk
namespace Nr
theorem scB_pos {a:Nat} (h:0<a) (e:Int):0<scB a e:=Nat.mul_pos h (Nat.two_pow_pos _)
def pt (Q F:Nat):Nat:=if Q<4503599627370496 then Q else (F+1) * 4503599627370496+(Q - 4503599627370496)
theorem pt_ok {Q F:Nat} (h:4503599627370496≤Q∨F=0) (h2:Q<9007199254740992):man (pt Q F)=Q∧sh (pt Q F)=F:=by
 unfold pt
 split
 ·rename_i c
  obtain rfl:F=0:=by omega
  unfold man sh
  rw [if_pos c,show Q / 4503599627370496=0 by omega];exact ⟨rfl,rfl⟩
 ·rename_i c
  exact V_norm (by omega) h2
theorem pt_odd (Q F:Nat):pt Q F % 2=Q % 2:=by
 unfold pt
 split <;> omega
theorem above_pt {a b Q:Nat} {E:Int} {F:Nat} (hb:0<b) (hE:E+1074=F) (hQ:Q=scA a E / scB b E) (h:4503599627370496≤Q∨F=0) (h2:Q<9007199254740992) :
  (V (pt Q F) * b≤a * 2 ^ 1074∧a * 2 ^ 1074<V (pt Q F+1) * b)∧(Above a b (pt Q F) ↔ (scB b E<2 * (scA a E % scB b E)∨(scB b E=2 * (scA a E % scB b E)∧Q % 2=1))):=by
 obtain ⟨m1,m2⟩:=pt_ok h h2
 have hB:=scB_pos hb E
 have hdm:=Nat.div_add_mod (scA a E) (scB b E)
 have hr:=Nat.mod_lt (scA a E) hB
 rw [←hQ] at hdm
 generalize hR:scA a E % scB b E=R at *
 have hV1:V (pt Q F)=Q * 2 ^ F:=by unfold V;rw [m1,m2]
 have hV2:V (pt Q F+1)=(Q+1) * 2 ^ F:=by rw [V_succ,m1,m2]
 -- both sides times 2^(-E)
 have k1:∀n:Nat,n * 2 ^ F * b * 2 ^ (-E).toNat=n * scB b E * 2 ^ 1074:=fun n=>by
  unfold scB
  exact mul_four (pw_split (a:=F) (b:=(-E).toNat) (c:=E.toNat) (d:=1074) (by omega))
 have k2:a * 2 ^ 1074 * 2 ^ (-E).toNat=scA a E * 2 ^ 1074:=by unfold scA;rw [Nat.mul_right_comm]
 have hp:=Nat.two_pow_pos (-E).toNat
 have hp2:=Nat.two_pow_pos 1074
 refine ⟨⟨?_,?_⟩,?_⟩
 ·refine Nat.le_of_mul_le_mul_right ?_ hp
  rw [hV1,k1,k2]
  refine Nat.mul_le_mul_right _ ?_
  rw [Nat.mul_comm];omega
 ·refine Nat.lt_of_mul_lt_mul_right (a:=2 ^ (-E).toNat) ?_
  rw [hV2,k1,k2]
  refine Nat.mul_lt_mul_of_pos_right ?_ hp2
  rw [Nat.add_mul,Nat.mul_comm Q];omega
 ·unfold Above
  rw [mid_eq,hV1,hV2,pt_odd,←Nat.add_mul]
  have e:a * two1075 * 2 ^ (-E).toNat=2 * scA a E * 2 ^ 1074:=by
   rw [mul_two (a:=a) two1075_eq,Nat.mul_assoc 2,k2,←Nat.mul_assoc]
  have k3:=k1 (Q+(Q+1))
  have g1:((Q+(Q+1)) * 2 ^ F * b<a * two1075) ↔ (Q+(Q+1)) * scB b E<2 * scA a E:=by
   constructor
   ·intro h
    have:=Nat.mul_lt_mul_of_pos_right h hp
    rw [k3,e] at this
    exact Nat.lt_of_mul_lt_mul_right this
   ·intro h
    refine Nat.lt_of_mul_lt_mul_right (a:=2 ^ (-E).toNat) ?_
    rw [k3,e]
    exact Nat.mul_lt_mul_of_pos_right h hp2
  have g2:((Q+(Q+1)) * 2 ^ F * b=a * two1075) ↔ (Q+(Q+1)) * scB b E=2 * scA a E:=by
   constructor
   ·intro h
    have this:(Q+(Q+1)) * 2 ^ F * b * 2 ^ (-E).toNat=a * two1075 * 2 ^ (-E).toNat:=by rw [h]
    rw [k3,e] at this
    exact Nat.eq_of_mul_eq_mul_right hp2 this
   ·intro h
    refine Nat.eq_of_mul_eq_mul_right hp ?_
    rw [k3,e,h]
  rw [g1,g2,Nat.add_mul,Nat.add_mul,Nat.one_mul]
  have hc:Q * scB b E=scB b E * Q:=Nat.mul_comm _ _
  omega
theorem rnd_cases (A B:Nat):(rnd A B=A / B+1∧(B<2 * (A % B)∨(B=2 * (A % B)∧A / B % 2=1)))∨(rnd A B=A / B∧¬(B<2 * (A % B)∨(B=2 * (A % B)∧A / B % 2=1))):=by
 unfold rnd
 split
 ·rename_i h;exact .inl ⟨rfl,h⟩
 ·rename_i h;exact .inr ⟨rfl,h⟩
theorem near_join {a b:Nat} {E:Int} (hb:0<b) (hE : -1074≤E) (h:4503599627370496≤scA a E / scB b E∨E=-1074) (h2:scA a E / scB b E<9007199254740992):near a b=join false (rnd (scA a E) (scB b E)) E:=by
 classical
 obtain ⟨F,hF⟩:=Int.eq_ofNat_of_zero_le (show 0≤E+1074 by omega)
 generalize hQ:scA a E / scB b E=Q at *
 have hQF:4503599627370496≤Q∨F=0:=by omega
 obtain ⟨⟨a1,a2⟩,a3⟩:=above_pt hb hF hQ.symm hQF h2
 obtain ⟨m1,m2⟩:=pt_ok hQF h2
 have hV1:V (pt Q F)=Q * 2 ^ F:=by unfold V;rw [m1,m2]
 have hV2:V (pt Q F+1)=(Q+1) * 2 ^ F:=by rw [V_succ,m1,m2]
 have ex:(-(E+1074)).toNat=0:=by omega
 have ey:(E+1074).toNat=F:=by omega
 have hj:∀p M,V p=M * 2 ^ F→join false M E=if p≤top then some p else none:=fun p M hv=>by
  split
  ·rename_i ht
   exact join_some false ht (by rw [ex,ey,Nat.pow_zero,Nat.mul_one,hv])
  ·rename_i ht
   refine join_none false fun q hq e=>ht ?_
   rw [ex,ey,Nat.pow_zero,Nat.mul_one,←hv] at e
   exact V_inj e ▸ hq
 have hr:=rnd_cases (scA a E) (scB b E)
 rw [hQ] at hr
 by_cases hp:pt Q F≤top
 ·rw [near_of hb a1 a2 hp]
  rcases hr with ⟨r1,r2⟩ | ⟨r1,r2⟩
  ·rw [if_pos (a3.2 r2),r1,hj _ _ hV2]
  ·rw [if_neg (fun h=>r2 (a3.1 h)),r1,hj _ _ hV1,if_pos hp]
 ·rw [near_big hb a1 (by omega)]
  rcases hr with ⟨r1,r2⟩ | ⟨r1,r2⟩
  ·rw [r1,hj _ _ hV2,if_neg (by omega)]
  ·rw [r1,hj _ _ hV1,if_neg hp]
end Nr
theorem cmp_cases (a b:Nat):(Nt.cmp a b=-1∧a<b)∨(Nt.cmp a b=0∧a=b)∨(Nt.cmp a b=1∧b<a):=by
 unfold Nt.cmp
 by_cases c:a<b
 ·rw [if_pos c];exact .inl ⟨rfl,c⟩
 ·rw [if_neg c]
  by_cases d:a=b
  ·rw [if_pos d];exact .inr (.inl ⟨rfl,d⟩)
  ·rw [if_neg d];exact .inr (.inr ⟨rfl,by omega⟩)
theorem of_len4 {n:Nat} (h:n<2 ^ 64):(Nt.of n).length≤4:=(Nt.of_length n 4).2 (by rw [show (65536:Nat) ^ 4=2 ^ 64 by decide];exact h)
theorem nr_rounded.j1_ok (A B:Nat) (hB:0<B) (hA:A<2 ^ 4090) (hB2:B<2 ^ 4090) (hAB:A<2 ^ 60 * B):nr_rounded.j1 (Nt.of A) (Nt.of B)=some [.u64 (UInt64.ofNat (Nr.rnd A B)),.b (Nr.rndUp A B)]:=by
 have hpw:(2:Nat) ^ (6+4090)=64 * 2 ^ 4090:=Nr.pw_six 4090
 refine nr_rounded.j1_in _ _ ?_
 intro v1 h1 v2 h2 v3 h3 v4 h4 v5 h5 v6 h6 v7 h7 v8 h8 v9 h9
 rw [Nt.val_of,Nt.val_of] at h1 h2
 have hr:=Nat.mod_lt A hB
 have hq:A / B<2 ^ 60:=(Nat.div_lt_iff_lt_mul hB).2 hAB
 have e1:Nt.val v1=A / B:=by rw [h1,Nt.val_of]
 have e2:Nt.val v2=A % B:=by rw [h2,Nt.val_of]
 have e3:Nt.val v3=2 * (A % B):=by rw [h3,Nt.val_of,e2];exact Nat.mul_comm ..
 rw [e3,Nt.val_of] at h4
 have i1:Nt.is (Nt.of A)=true:=Nt.is_of (by omega)
 have i2:Nt.is (Nt.of B)=true:=Nt.is_of (by omega)
 have i3:Nt.is v1=true:=by rw [h1];exact Nt.is_of (by omega)
 have i4:Nt.is v2=true:=by rw [h2];exact Nt.is_of (by omega)
 have i5:Nt.is v3=true:=by rw [h3];exact Nt.is_of (by rw [e2];show A % B * 2 ^ 1<_;omega)
 have nb:Nt.of B≠[]:=by rw [Nt.of_pos hB];simp
 have l4:v1.length≤4:=by rw [h1];exact of_len4 (Nat.lt_of_lt_of_le hq (Nat.pow_le_pow_right (by omega) (by omega)))
 rw [i1,i2,i3,i4,i5,decide_eq_true nb]
 refine (ck_of (by rfl)).trans ?_
 rw [ck_of (decide_eq_true ⟨rfl,l4⟩)]
 refine (ck_of (by rfl)).trans ?_
 refine (ck_of (by rfl)).trans ?_
 rw [e1] at h6 h9 ⊢
 have hb60:(2:Nat) ^ 60=1152921504606846976:=by decide
 have e6:decide (v6=1)=decide (A / B % 2=1):=by
  have e6:v6.toNat=A / B % 2:=by
   rw [h6,UInt64.toNat_mod,u64_of]
   show A / B % 18446744073709551616 % 2=_
   omega
  by_cases c:A / B % 2=1
  ·rw [decide_eq_true c,decide_eq_true (u64_eq (by rw [e6,c];rfl))]
  ·rw [decide_eq_false c,decide_eq_false (fun h=>c (by rw [←e6,h];rfl))]
 have e9:v9=UInt64.ofNat (A / B+1):=u64_eq (by
  rw [h9,UInt64.toNat_add,u64_of,u64_of]
  show (A / B % 18446744073709551616+1) % 18446744073709551616=_
  omega)
 have e9':decide (v9=9007199254740992)=decide (A / B+1=9007199254740992):=by
  by_cases c:A / B+1=9007199254740992
  ·rw [decide_eq_true c,e9,c];rfl
  ·rw [decide_eq_false c,decide_eq_false (fun h=>c (by
    have:=congrArg UInt64.toNat h
    rw [e9,u64_of] at this
    have e0:(9007199254740992:UInt64).toNat=9007199254740992:=rfl
    omega))]
 rw [e6] at h7
 rcases cmp_cases (2 * (A % B)) B with ⟨q1,q2⟩ | ⟨q1,q2⟩ | ⟨q1,q2⟩
 ·rw [q1] at h4
  subst h4
  have e7:v7=false:=h7
  have e8:v8=false:=by rw [h8,e7];rfl
  have e5:v5=false:=h5
  have hn:Nr.rnd A B=A / B:=by unfold Nr.rnd;rw [if_neg (by omega)]
  have hu:Nr.rndUp A B=false:=by unfold Nr.rndUp;rw [hn];exact decide_eq_false (by omega)
  rw [e8,e5,hn,hu];rfl
 ·rw [q1] at h4
  subst h4
  have e7:v7=decide (A / B % 2=1):=h7
  have e8:v8=decide (A / B % 2=1):=by rw [h8,e7];rfl
  have e5:v5=true:=h5
  rw [e8,e5]
  refine Eq.trans (b:=cond (decide (A / B % 2=1)) (some [.u64 v9,.b (decide (v9=9007199254740992))]) (some [.u64 (UInt64.ofNat (A / B)),.b false])) rfl ?_
  by_cases c:A / B % 2=1
  ·have hn:Nr.rnd A B=A / B+1:=by unfold Nr.rnd;rw [if_pos (.inr ⟨q2.symm,c⟩)]
   have hu:Nr.rndUp A B=decide (A / B+1=9007199254740992):=by
    unfold Nr.rndUp;rw [hn]
    by_cases d:A / B+1=9007199254740992
    ·rw [decide_eq_true d,decide_eq_true ⟨rfl,d⟩]
    ·rw [decide_eq_false d,decide_eq_false (fun h=>d h.2)]
   rw [decide_eq_true c,cond_true,e9',e9,hn,hu]
  ·have hn:Nr.rnd A B=A / B:=by unfold Nr.rnd;rw [if_neg (by omega)]
   have hu:Nr.rndUp A B=false:=by unfold Nr.rndUp;rw [hn];exact decide_eq_false (by omega)
   rw [decide_eq_false c,cond_false,hn,hu]
 ·rw [q1] at h4
  subst h4
  have e7:v7=false:=h7
  have e8:v8=true:=by rw [h8];rfl
  have e5:v5=false:=h5
  have hn:Nr.rnd A B=A / B+1:=by unfold Nr.rnd;rw [if_pos (.inl q2)]
  have hu:Nr.rndUp A B=decide (A / B+1=9007199254740992):=by
   unfold Nr.rndUp;rw [hn]
   by_cases d:A / B+1=9007199254740992
   ·rw [decide_eq_true d,decide_eq_true ⟨rfl,d⟩]
   ·rw [decide_eq_false d,decide_eq_false (fun h=>d h.2)]
  rw [e8,e5]
  refine Eq.trans (b:=some [.u64 v9,.b (decide (v9=9007199254740992))]) rfl ?_
  rw [e9',e9,hn,hu]
theorem nr_rounded.goal (a b:List UInt16) (e:Int) (hp:(Nt.is a&&Nt.is b&&decide (-4096≤e∧e≤4096∧0<Nt.val b∧Nr.scA (Nt.val a) e<2 ^ 4090∧Nr.scB (Nt.val b) e<2 ^ 4090∧Nr.scA (Nt.val a) e<2 ^ 60 * Nr.scB (Nt.val b) e))=true) :
  nr_rounded.F a b e=some [.u64 (UInt64.ofNat (Nr.rnd (Nr.scA (Nt.val a) e) (Nr.scB (Nt.val b) e))),.b (Nr.rndUp (Nr.scA (Nt.val a) e) (Nr.scB (Nt.val b) e))]:=by
 simp only [Bool.and_eq_true,decide_eq_true_eq] at hp
 obtain ⟨⟨ha,hb⟩,p1,p2,p3,p4,p5,p6⟩:=hp
 have key:=nr_rounded.j1_ok (Nr.scA (Nt.val a) e) (Nr.scB (Nt.val b) e) (Nr.scB_pos p3 e) p4 p5 p6
 refine nr_rounded.F_in _ _ _ ?_
 intro v1 h1 v2 h2
 by_cases c:e<0
 ·have ew:IntKind.i64.wrap (0 - e)=-e:=by rw [i64_in _ (by omega)];omega
  rw [ew] at h1
  have eB:Nr.scB (Nt.val b) e=Nt.val b:=by unfold Nr.scB;rw [show e.toNat=0 by omega,Nat.pow_zero,Nat.mul_one]
  rw [decide_eq_true c,cond_true,ew,ha,decide_eq_true (show 0≤-e∧-e≤4096 by omega)]
  refine (ck_of (by rfl)).trans ?_
  rw [h1,←Nt.of_val (Nt.is_norm hb)]
  rw [eB] at key
  rw [Nt.val_of,eB]
  exact key
 ·have eA:Nr.scA (Nt.val a) e=Nt.val a:=by unfold Nr.scA;rw [show (-e).toNat=0 by omega,Nat.pow_zero,Nat.mul_one]
  rw [decide_eq_false c,cond_false,hb,decide_eq_true (show 0≤e∧e≤4096 by omega)]
  refine (ck_of (by rfl)).trans ?_
  rw [h2,←Nt.of_val (Nt.is_norm ha)]
  rw [eA] at key
  rw [Nt.val_of,eA]
  exact key
end Go.Eng
namespace Go.Eng
open Go.IntWalk
namespace Nr
theorem sc_lt {a b i j t:Nat} {E:Int} (ha:a<2 ^ i) (hb:2 ^ (j - 1)≤b) (hj:0<j) (h:(i:Int) - j+1 - E≤t):scA a E<2 ^ t * scB b E:=by
 unfold scA scB
 have h1:a * 2 ^ (-E).toNat<2 ^ (i+(-E).toNat):=by rw [Nat.pow_add];exact Nat.mul_lt_mul_of_pos_right ha (Nat.two_pow_pos _)
 have h2:2 ^ (t+(j - 1)+E.toNat)≤2 ^ t * (b * 2 ^ E.toNat):=by
  rw [Nat.pow_add,Nat.pow_add,Nat.mul_assoc];exact Nat.mul_le_mul_left _ (Nat.mul_le_mul_right _ hb)
 have h3:2 ^ (i+(-E).toNat)≤2 ^ (t+(j - 1)+E.toNat):=Nat.pow_le_pow_right (by omega) (by omega)
 exact Nat.lt_of_lt_of_le h1 (Nat.le_trans h3 h2)
theorem sc_ge {a b i j t:Nat} {E:Int} (ha:2 ^ (i - 1)≤a) (hi:0<i) (hb:b<2 ^ j) (h:(t:Int)≤(i:Int) - 1 - j - E):2 ^ t * scB b E≤scA a E:=by
 unfold scA scB
 have h1:2 ^ (i - 1+(-E).toNat)≤a * 2 ^ (-E).toNat:=by rw [Nat.pow_add];exact Nat.mul_le_mul_right _ ha
 have h2:2 ^ t * (b * 2 ^ E.toNat)≤2 ^ (t+j+E.toNat):=by
  rw [Nat.pow_add,Nat.pow_add,Nat.mul_assoc];exact Nat.mul_le_mul_left _ (Nat.mul_le_mul_right _ (Nat.le_of_lt hb))
 have h3:2 ^ (t+j+E.toNat)≤2 ^ (i - 1+(-E).toNat):=Nat.pow_le_pow_right (by omega) (by omega)
 exact Nat.le_trans h2 (Nat.le_trans h3 h1)
theorem sc_next (a b:Nat) (E:Int):(scA a (E+1)=scA a E∧scB b (E+1)=2 * scB b E)∨(scA a E=2 * scA a (E+1)∧scB b (E+1)=scB b E):=by
 unfold scA scB
 by_cases c:0≤E
 ·left
  rw [show (-(E+1)).toNat=0 by omega,show (-E).toNat=0 by omega,show (E+1).toNat=E.toNat+1 by omega,Nat.pow_succ,←Nat.mul_assoc,Nat.mul_comm _ 2]
  exact ⟨rfl,rfl⟩
 ·right
  rw [show (-E).toNat=(-(E+1)).toNat+1 by omega,show (E+1).toNat=0 by omega,show E.toNat=0 by omega,Nat.pow_succ,←Nat.mul_assoc,Nat.mul_comm _ 2]
  exact ⟨rfl,rfl⟩
end Nr
theorem pow_lt_of {a i k:Nat} (h:a<2 ^ i) (hk:i≤k):a<2 ^ k:=Nat.lt_of_lt_of_le h (Nat.pow_le_pow_right (by omega) hk)
theorem pow_lt_sum {a i j k:Nat} (h:a<2 ^ i) (hk:i+j≤k):a * 2 ^ j<2 ^ k:=by
 refine pow_lt_of (i:=i+j) ?_ hk
 rw [Nat.pow_add];exact Nat.mul_lt_mul_of_pos_right h (Nat.two_pow_pos _)
theorem nr_ratio.j1_ok (E : Int) (M : Nat) (hM : M < 2 ^ 64) (hE : -1074 ≤ E ∧ E ≤ 2000) (a b : Nat) (h : Nr.near a b = Nr.join false M E) : nr_ratio.j1 E (UInt64.ofNat M) = some [.u64 (Nr.pat (Nr.near a b)), .b (Nr.near a b).isSome] := by
  refine nr_ratio.j1_in _ _ ?_
  intro v1 h1 v2 h2
  have e : (UInt64.ofNat M).toNat = M := by rw [u64_of]; have : (2 : Nat) ^ 64 = 18446744073709551616 := by decide
                                            omega
  rw [e, ← h] at h1 h2
  rw [ck_of (decide_eq_true (by omega)), h1, h2]
theorem nr_ratio.goal (a b:List UInt16) (hp:(Nt.is a&&Nt.is b&&decide (0<Nt.val a∧0<Nt.val b∧Nt.val a<2 ^ 1100∧Nt.val b<2 ^ 2200))=true):nr_ratio.F a b=some [.u64 (Nr.pat (Nr.near (Nt.val a) (Nt.val b))),.b (Nr.near (Nt.val a) (Nt.val b)).isSome]:=by
 simp only [Bool.and_eq_true,decide_eq_true_eq] at hp
 obtain ⟨⟨ha,hb⟩,p1,p2,p3,p4⟩:=hp
 refine nr_ratio.F_in _ _ ?_
 intro v1 h1 v2 h2 v3 h3 v4 h4 v5 h5 v6 h6 v7 h7 v8 h8
 obtain ⟨i1,i2,i3⟩:=Nt.bits_pos p1
 obtain ⟨j1,j2,j3⟩:=Nt.bits_pos p2
 have i4:=Nt.bits_lt p3
 have j4:=Nt.bits_lt p4
 generalize Nt.bits (Nt.val a)=i at *
 generalize Nt.bits (Nt.val b)=j at *
 generalize Nt.val a=A at *
 generalize Nt.val b=B at *
 have e1:v1=(i:Int) - j:=by rw [h1,i64_in _ (by omega)]
 have e2:v2=(i:Int) - j - 53:=by rw [h2,e1,i64_in _ (by omega)]
 have em:maxI v2 (-1074)=max ((i:Int) - j - 53) (-1074):=by rw [e2];unfold maxI;split <;> omega
 rw [em] at h3 h4 h6 ⊢
 generalize hE:max ((i:Int) - j - 53) (-1074)=E at *
 have hEb : -1074≤E∧E≤1046:=by omega
 have e6:v6=E+1:=by rw [h6,i64_in _ (by omega)]
 rw [e6] at h7 h8
 have hAb:∀E:Int,-1074≤E→E≤1047→Nr.scA A E<2 ^ 4090∧Nr.scB B E<2 ^ 4090:=fun E h1 h2=>by
  unfold Nr.scA Nr.scB
  constructor
  ·exact pow_lt_sum (k:=4090) i2 (by omega)
  ·exact pow_lt_sum (k:=4090) j2 (by omega)
 obtain ⟨a1,a2⟩:=hAb E (by omega) (by omega)
 obtain ⟨a3,a4⟩:=hAb (E+1) (by omega) (by omega)
 have t54:Nr.scA A E<2 ^ 54 * Nr.scB B E:=Nr.sc_lt i2 j1 j3 (by omega)
 have t60:Nr.scA A E<2 ^ 60 * Nr.scB B E:=Nr.sc_lt i2 j1 j3 (by omega)
 have t60':Nr.scA A (E+1)<2 ^ 60 * Nr.scB B (E+1):=Nr.sc_lt i2 j1 j3 (by omega)
 have hB:=Nr.scB_pos p2 E
 have hB1:=Nr.scB_pos p2 (E+1)
 have hn:=Nr.sc_next A B E
 have q54:Nr.scA A E / Nr.scB B E<2 ^ 54:=(Nat.div_lt_iff_lt_mul hB).2 t54
 have hd54:(2:Nat) ^ 54=18014398509481984:=by decide
 have hd64:(2:Nat) ^ 64=18446744073709551616:=by decide
 rw [ha,hb,ck_of rfl,ck_of rfl,e6,decide_eq_true (show -4096≤E∧E≤4096∧0<B∧Nr.scA A E<2 ^ 4090∧Nr.scB B E<2 ^ 4090∧Nr.scA A E<2 ^ 60 * Nr.scB B E from ⟨by omega,by omega,p2,a1,a2,t60⟩),decide_eq_true (show -4096≤E+1∧E+1≤4096∧0<B∧Nr.scA A (E+1)<2 ^ 4090∧Nr.scB B (E+1)<2 ^ 4090∧Nr.scA A (E+1)<2 ^ 60 * Nr.scB B (E+1) from ⟨by omega,by omega,p2,a3,a4,t60'⟩)]
 refine (ck_of (by rfl)).trans ?_
 have hcc:∀b:Bool,(!b || b)=true:=by decide
 rw [ck_of (hcc _),ck_of (hcc _)]
 have hr:=Nr.rnd_cases (Nr.scA A E) (Nr.scB B E)
 have hup:Nr.rndUp (Nr.scA A E) (Nr.scB B E)=decide (Nr.rnd (Nr.scA A E) (Nr.scB B E)=Nr.scA A E / Nr.scB B E+1∧Nr.rnd (Nr.scA A E) (Nr.scB B E)=9007199254740992):=rfl
 rw [hup] at h4
 generalize hQ:Nr.scA A E / Nr.scB B E=Q at *
 generalize hM:Nr.rnd (Nr.scA A E) (Nr.scB B E)=M at *
 have e3:decide ((9007199254740992:UInt64)≤v3)=decide (9007199254740992≤M):=by
  have ev:v3.toNat=M:=by rw [h3,u64_of];omega
  by_cases c:9007199254740992≤M
  ·rw [decide_eq_true c,decide_eq_true (UInt64.le_iff_toNat_le.2 (by rw [ev];exact c))]
  ·rw [decide_eq_false c,decide_eq_false (fun h=>c (by have:=UInt64.le_iff_toNat_le.1 h;rw [ev] at this;exact this))]
 have e5:v5=decide (9007199254740992≤M∧¬(M=Q+1∧M=9007199254740992)):=by
  rw [h5,e3,h4]
  by_cases c:9007199254740992≤M
  ·rw [decide_eq_true c,cond_true]
   by_cases d:M=Q+1∧M=9007199254740992
   ·rw [decide_eq_true d,decide_eq_false (fun h=>h.2 d)];rfl
   ·rw [decide_eq_false d,decide_eq_true ⟨c,d⟩];rfl
  ·rw [decide_eq_false c,cond_false,decide_eq_false (fun h=>c h.1)]
 by_cases c:9007199254740992≤M∧¬(M=Q+1∧M=9007199254740992)
 ·have hQ53:9007199254740992≤Q:=by omega
  rw [e5,decide_eq_true c,cond_true]
  refine (ck_of (by rfl)).trans ?_
  have g1:9007199254740992 * Nr.scB B E≤Nr.scA A E:=(Nat.le_div_iff_mul_le hB).1 (by rw [hQ];exact hQ53)
  have g2:4503599627370496≤Nr.scA A (E+1) / Nr.scB B (E+1):=(Nat.le_div_iff_mul_le hB1).2 (by rcases hn with ⟨n1,n2⟩ | ⟨n1,n2⟩ <;> rw [n2] <;> omega)
  have g3:Nr.scA A (E+1) / Nr.scB B (E+1)<9007199254740992:=(Nat.div_lt_iff_lt_mul hB1).2 (by rw [hd54] at t54;rcases hn with ⟨n1,n2⟩ | ⟨n1,n2⟩ <;> rw [n2] <;> omega)
  have hr1:=Nr.rnd_cases (Nr.scA A (E+1)) (Nr.scB B (E+1))
  rw [h7]
  exact nr_ratio.j1_ok (E+1) _ (by omega) (by omega) A B (Nr.near_join p2 (by omega) (.inl g2) g3)
 ·rw [e5,decide_eq_false c,cond_false,h3]
  have g3:Q<9007199254740992:=by omega
  refine nr_ratio.j1_ok E M (by omega) (by omega) A B ?_
  rw [←hM]
  refine Nr.near_join p2 (by omega) ?_ (by rw [hQ];exact g3)
  by_cases d:E=-1074
  ·exact .inr d
  ·left
   refine (Nat.le_div_iff_mul_le hB).2 ?_
   have:=Nr.sc_ge (t:=52) (E:=E) i1 i3 j2 (by omega)
   rw [show (2:Nat) ^ 52=4503599627370496 by decide] at this
   exact this
end Go.Eng
namespace Go.Eng
open Go.IntWalk
namespace Nr
theorem num_go2 (b:Str):∀n:Nat,b.foldl (fun n c=>10 * n+(c.toNat - 48)) n=n * 10 ^ b.length+num b:=by
 induction b with
 | nil=>intro n;simp [num]
 | cons c r ih =>
  intro n
  unfold num
  rw [List.foldl_cons,List.foldl_cons,ih,ih,List.length_cons,Nat.pow_succ,Nat.mul_zero,Nat.zero_add,Nat.add_mul,Nat.mul_comm 10 n,Nat.mul_assoc,Nat.mul_comm 10 (10 ^ _)]
  omega
theorem num_append (a b:Str):num (a++b)=num a * 10 ^ b.length+num b:=by
 unfold num
 rw [List.foldl_append,num_go2];rfl
theorem num_cons (c:UInt8) (r:Str):num (c :: r)=(c.toNat - 48) * 10 ^ r.length+num r:=by
 have:=num_append [c] r
 rw [List.singleton_append] at this
 rw [this];simp [num]
theorem num_zeros (t:Nat):num (List.replicate t 48)=0:=by
 induction t with
 | zero=>rfl
 | succ t ih=>rw [List.replicate_succ,num_cons,ih];simp
theorem dropWhile_split (p:UInt8→Bool):∀d:Str,∃a,d=a++d.dropWhile p∧a.all p=true∧(d.dropWhile p=[]∨p ((d.dropWhile p).getD 0 0)=false)
 | []=>⟨[],rfl,rfl,.inl rfl⟩
 | c :: r=>by
  rw [List.dropWhile_cons]
  cases h:p c
  ·rw [if_neg (by simp)]
   exact ⟨[],rfl,rfl,.inr h⟩
  ·rw [if_pos rfl]
   obtain ⟨a,h1,h2,h3⟩:=dropWhile_split p r
   exact ⟨c :: a,by rw [List.cons_append,←h1],by rw [List.all_cons,h,h2];rfl,h3⟩
theorem all_48:∀{a:Str},(a.all (· == 48))=true→a=List.replicate a.length 48
 | [],_=>rfl
 | c :: r,h=>by
  rw [List.all_cons,Bool.and_eq_true] at h
  rw [List.length_cons,List.replicate_succ,←all_48 h.2]
  congr 1
  simpa using h.1
theorem lstrip_split (d:Str):∃z,d=List.replicate z 48++lstrip d∧(lstrip d=[]∨(lstrip d).getD 0 0≠48):=by
 obtain ⟨a,h1,h2,h3⟩:=dropWhile_split (· == 48) d
 refine ⟨a.length,?_,?_⟩
 ·rw [←all_48 h2];exact h1
 ·rcases h3 with h3 | h3
  ·exact .inl h3
  ·exact .inr (by unfold lstrip;simpa using h3)
theorem rstrip_split (d:Str):∃t,d=rstrip d++List.replicate t 48∧(rstrip d=[]∨(rstrip d).getLast?≠some 48):=by
 obtain ⟨a,h1,h2,h3⟩:=dropWhile_split (· == 48) d.reverse
 refine ⟨a.length,?_,?_⟩
 ·have e:d=(a++d.reverse.dropWhile (· == 48)).reverse:=by rw [←h1,List.reverse_reverse]
  rw [List.reverse_append,all_48 h2,List.reverse_replicate] at e
  exact e
 ·rcases h3 with h3 | h3
  ·left;unfold rstrip;rw [h3];rfl
  ·right
   unfold rstrip
   rw [List.getLast?_reverse]
   intro h
   cases hd:d.reverse.dropWhile (· == 48) with
   | nil=>rw [hd] at h;cases h
   | cons c r =>
    rw [hd] at h h3
    have:c=48:=by simpa using h
    subst this
    simp at h3
theorem digs_contains (b:UInt8):([48,49,50,51,52,53,54,55,56,57]:Str).contains b=isDig b:=by
 have h:∀n,n<256→([48,49,50,51,52,53,54,55,56,57]:Str).contains (UInt8.ofNat n)=isDig (UInt8.ofNat n):=by decide +kernel
 have:=h b.toNat b.toNat_lt
 rwa [UInt8.ofNat_toNat] at this
theorem trimL_eq (d:Str):Lib.trimLeftS d [48]=lstrip d:=by
 rw [Lib.trimLeftS_one];rfl
theorem trimR_eq (d:Str):Lib.trimRightS d [48]=rstrip d:=by
 rw [Lib.trimRightS_one];rfl
theorem dropWhile_nil {p:UInt8→Bool}:∀{l:Str},l.dropWhile p=[] ↔ l.all p=true
 | []=>by simp
 | c :: r=>by
  rw [List.dropWhile_cons,List.all_cons]
  cases h:p c
  ·simp
  ·rw [if_pos rfl,dropWhile_nil];simp
theorem trim_digits (d:Str):(Lib.trimS d [48,49,50,51,52,53,54,55,56,57]=[]) ↔ d.all isDig=true:=by
 have e:(fun b=>([48,49,50,51,52,53,54,55,56,57]:Str).contains b)=isDig:=funext digs_contains
 have h1:∀l:Str,Lib.trimLeftS l [48,49,50,51,52,53,54,55,56,57]=l.dropWhile isDig:=fun l=>by unfold Lib.trimLeftS;rw [e]
 have h2:∀l:Str,Lib.trimRightS l [48,49,50,51,52,53,54,55,56,57]=(l.reverse.dropWhile isDig).reverse:=fun l=>by unfold Lib.trimRightS;rw [e]
 unfold Lib.trimS
 rw [h1,h2,dropWhile_nil,List.all_reverse]
 constructor
 ·intro h
  obtain ⟨a,q1,q2,q3⟩:=dropWhile_split isDig d.reverse
  have hn:d.reverse.dropWhile isDig=[]:=by
   rcases q3 with q3 | q3
   ·exact q3
   ·cases hd:d.reverse.dropWhile isDig with
    | nil=>rfl
    | cons c r =>
     rw [hd] at h q3
     rw [List.all_cons,Bool.and_eq_true] at h
     have:isDig c=false:=q3
     rw [this] at h;cases h.1
  rw [dropWhile_nil,List.all_reverse] at hn
  exact hn
 ·intro h
  rw [(dropWhile_nil (l:=d.reverse)).2 (by rw [List.all_reverse];exact h)];rfl
theorem num_ge {d:Str} (h:d.all isDig=true) (h0:d≠[]) (h1:d.getD 0 0≠48):10 ^ (d.length - 1)≤num d:=by
 cases d with
 | nil=>exact (h0 rfl).elim
 | cons c r =>
  rw [List.all_cons,Bool.and_eq_true] at h
  have hc:=isDig_iff.1 h.1
  have h1:c≠48:=h1
  have hc2:c.toNat≠48:=fun e=>h1 (UInt8.toNat_inj.1 e)
  rw [num_cons,List.length_cons,Nat.add_sub_cancel]
  have:1 * 10 ^ r.length≤(c.toNat - 48) * 10 ^ r.length:=Nat.mul_le_mul_right _ (by omega)
  omega
theorem two1075_le:two1075≤10 ^ 324:=by decide +kernel
theorem two1024_le:two1024≤10 ^ 309:=by decide +kernel
theorem ten_pos (k:Nat):0<10 ^ k:=Nat.pow_pos (by omega)
theorem ten_le {a b:Nat} (h:a≤b):10 ^ a≤10 ^ b:=Nat.pow_le_pow_right (by omega) h
theorem ten_mul {a b i j k:Nat} (h1:a≤10 ^ i) (h2:b≤10 ^ j) (h:i+j≤k):a * b≤10 ^ k:=by
 refine Nat.le_trans (Nat.mul_le_mul h1 h2) ?_
 rw [←Nat.pow_add];exact ten_le h
theorem ten_mul2 {a b i j k l:Nat} (h1:a≤10 ^ i) (h2:10 ^ k≤b) (h:i+j≤k+l):a * 10 ^ j≤b * 10 ^ l:=by
 refine Nat.le_trans (Nat.mul_le_mul_right _ h1) (Nat.le_trans ?_ (Nat.mul_le_mul_right _ h2))
 rw [←Nat.pow_add,←Nat.pow_add];exact ten_le h
theorem rd_low {N L:Nat} {k:Int} (hN:N<10 ^ L) (h:k+L≤-324):rd N k=some 0:=by
 unfold rd
 refine near_low (ten_pos _) ?_
 rw [show k.toNat=0 by omega,Nat.pow_zero,Nat.mul_one]
 exact ten_mul (Nat.le_of_lt hN) two1075_le (by omega)
theorem rd_high {N L:Nat} {k:Int} (hN:10 ^ (L - 1)≤N) (hL:0<L) (h:310≤k+L):rd N k=none:=by
 unfold rd
 refine near_high (ten_pos _) ?_
 exact ten_mul2 two1024_le hN (by omega)
theorem rd_zero (k:Int):rd 0 k=some 0:=by
 unfold rd
 rw [Nat.zero_mul];exact near_zero _ (ten_pos _)
theorem rd_shift (N t:Nat) (k:Int):rd (N * 10 ^ t) k=rd N (k+t):=by
 unfold rd
 refine near_cross (ten_pos _) (ten_pos _) ?_
 rw [Nat.mul_assoc,Nat.mul_assoc,Nat.mul_assoc,←Nat.pow_add,←Nat.pow_add,←Nat.pow_add]
 congr 2
 omega
theorem all_append_of {p:UInt8→Bool} {d a b:Str} (h:d.all p=true) (e:d=a++b):a.all p=true∧b.all p=true:=by
 rw [e,List.all_append,Bool.and_eq_true] at h
 exact h
end Nr
theorem is_of2 {n i:Nat} (h:n<2 ^ i) (hi:i≤4096):Nt.is (Nt.of n)=true:=Nt.is_of (pow_lt_of (k:=4096) h hi)
theorem nr_Read.j1_ok (A B:Nat) (hA:0<A) (hB:0<B) (hA2:A<2 ^ 1100) (hB2:B<2 ^ 2200):nr_Read.j1 (Nt.of A) (Nt.of B)=some [.u64 (Nr.pat (Nr.near A B)),.b (Nr.near A B).isSome]:=by
 refine nr_Read.j1_in _ _ ?_
 intro v1 h1 v2 h2
 rw [Nt.val_of,Nt.val_of] at h1 h2
 rw [Nt.val_of,Nt.val_of,is_of2 hA2 (by omega),is_of2 hB2 (by omega),decide_eq_true ⟨hA,hB,hA2,hB2⟩]
 refine (ck_of (by rfl)).trans ?_
 rw [h1,h2]
theorem ten_two:(10:Nat) ^ 310<2 ^ 1100∧(10:Nat) ^ 631<2 ^ 2200:=by decide +kernel
theorem nr_Read.goal (d:Str) (x:Int):nr_Read.F d x=some [.u64 (Nr.pat (Nr.read d x)),.b (Nr.read d x).isSome]:=by
 refine nr_Read.F_in _ _ ?_
 intro v1 h1 v2 h2 v3 h3 v4 h4 v5 h5 v6 h6 v7 h7 v8 h8 v9 h9 v10 h10 v11 h11 v12 h12
 have hcc:∀b:Bool,(!(!b) || !b)=true∧(b || !b)=true:=by decide
 have e1:v1=!decide (1≤d.length∧d.length≤300):=by
  rw [h1]
  by_cases c:1≤d.length∧d.length≤300
  ·rw [decide_eq_true c,decide_eq_false (by omega),cond_false,decide_eq_false (by omega)];rfl
  ·rw [decide_eq_false c]
   by_cases d0:(d.length:Int)<1
   ·rw [decide_eq_true d0];rfl
   ·rw [decide_eq_false d0,cond_false,decide_eq_true (by omega)];rfl
 have e3:v3=!Nr.valid d:=by
  unfold Nr.valid
  rw [h3,e1,h2]
  have:decide (Lib.trimS d [48,49,50,51,52,53,54,55,56,57]=[])=d.all Nr.isDig:=by
   by_cases c:d.all Nr.isDig=true
   ·rw [c,decide_eq_true ((Nr.trim_digits d).2 c)]
   ·rw [decide_eq_false (fun h=>c ((Nr.trim_digits d).1 h))];exact (Bool.eq_false_iff.2 c).symm
  rw [this]
  cases decide (1≤d.length∧d.length≤300) <;> cases d.all Nr.isDig <;> rfl
 rw [ck_of (hcc _).1,ck_of (hcc _).1,ck_of (hcc _).2]
 have c4:(!(!v1) || ((!v1)&&(decide (d.length≤1099511627776∧([48,49,50,51,52,53,54,55,56,57]:Str).length≤100)&&([48,49,50,51,52,53,54,55,56,57]:Str).all (fun b=>decide (b.toNat<128)))))=true:=by
  rw [e1]
  by_cases c:1≤d.length∧d.length≤300
  ·rw [decide_eq_true c,decide_eq_true (show d.length≤1099511627776∧([48,49,50,51,52,53,54,55,56,57]:Str).length≤100 from ⟨by omega,by decide⟩)];rfl
  ·rw [decide_eq_false c];rfl
 rw [ck_of c4,ck_of (hcc _).1,ck_of (hcc _).2,e3]
 unfold Nr.read
 cases hv:Nr.valid d
 ·rfl
 ·rw [if_pos rfl]
  refine Eq.trans (b:=_) (cond_false _ _) ?_
  unfold Nr.valid at hv
  rw [Bool.and_eq_true] at hv
  obtain ⟨hl,hd⟩:=hv
  obtain ⟨l1,l2⟩:=of_decide_eq_true hl
  rw [Nr.trimL_eq] at h4
  rw [Nr.trimR_eq] at h7
  obtain ⟨z,z1,z2⟩:=Nr.lstrip_split d
  rw [←h4] at z1 z2
  obtain ⟨t,t1,t2⟩:=Nr.rstrip_split v4
  rw [←h7] at t1 t2
  have hd4:=(Nr.all_append_of hd z1).2
  have hd7:=(Nr.all_append_of hd4 t1).1
  have lz:d.length=z+v4.length:=by
   have:=congrArg List.length z1
   rw [List.length_append,List.length_replicate] at this
   exact this
  have lt:v4.length=v7.length+t:=by
   have:=congrArg List.length t1
   rw [List.length_append,List.length_replicate] at this
   exact this
  have nz:Nr.num d=Nr.num v4:=by
   have:=congrArg Nr.num z1
   rw [Nr.num_append,Nr.num_zeros,Nat.zero_mul,Nat.zero_add] at this
   exact this
  have nt:Nr.num v4=Nr.num v7 * 10 ^ t:=by
   have:=congrArg Nr.num t1
   rw [Nr.num_append,Nr.num_zeros,List.length_replicate,Nat.add_zero] at this
   exact this
  have ck48:∀s:Str,s.length≤300→(decide (s.length≤1099511627776∧([48]:Str).length≤100)&&([48]:Str).all (fun b=>decide (b.toNat<128)))=true:=fun s hs=>by
   rw [decide_eq_true (show s.length≤1099511627776∧([48]:Str).length≤100 from ⟨by omega,by decide⟩)];rfl
  rw [ck_of (ck48 d l2),ck_of (hcc _).1,ck_of (hcc _).2,nz]
  by_cases c0:v4=[]
  ·have e5:v5=true:=by rw [h5,decide_eq_true c0];rfl
   rw [e5,cond_true,c0]
   rw [show Nr.num []=0 from rfl,Nr.rd_zero];rfl
  ·rw [decide_eq_false c0,cond_false] at h5
   have z2:v4.getD 0 0≠48:=z2.resolve_left c0
   have p4:0<v4.length:=List.length_pos_iff.2 c0
   have b1:=Nr.num_lt v4 hd4
   have b2:=Nr.num_ge hd4 c0 z2
   by_cases c1:x < -1000
   ·rw [h5,decide_eq_true c1,cond_true,Nr.rd_low b1 (by omega)];rfl
   ·rw [h5,decide_eq_false c1,cond_false]
    by_cases c2:1000<x
    ·rw [decide_eq_true c2,cond_true,Nr.rd_high b2 p4 (by omega)];rfl
    ·have e6:v6=z:=by rw [h6,i64_in _ (by omega)];omega
     have ex:IntKind.i64.wrap (x - v6)=x - z:=by rw [e6,i64_in _ (by omega)]
     rw [decide_eq_false c2,cond_false,ck_of (ck48 v4 (by omega)),ex]
     by_cases c3:x - z < -330
     ·rw [decide_eq_true c3,cond_true,Nr.rd_low b1 (by omega)];rfl
     ·rw [decide_eq_false c3,cond_false]
      by_cases c4:310<x - (z:Int)
      ·rw [decide_eq_true c4,cond_true,Nr.rd_high b2 p4 (by omega)];rfl
      ·rw [decide_eq_false c4,cond_false]
       have n7:v7≠[]:=by
        intro e
        rw [e] at nt
        have:=Nr.ten_pos (v4.length - 1)
        rw [show Nr.num []=0 from rfl,Nat.zero_mul] at nt
        omega
       have p7:0<v7.length:=List.length_pos_iff.2 n7
       have g7:v7.getD 0 0=v4.getD 0 0:=by
        rw [t1,List.getD_eq_getElem?_getD,List.getD_eq_getElem?_getD,List.getElem?_append_left (by omega)]
       have e9:v9=x - z - v7.length:=by rw [h9,ex,i64_in _ (by omega)]
       have w7:=Nr.num_lt v7 hd7
       have w7':=Nr.num_ge hd7 n7 (by rw [g7];exact z2)
       have w7p:0<Nr.num v7:=Nat.lt_of_lt_of_le (Nr.ten_pos _) w7'
       have hrd:Nr.rd (Nr.num v4) (x - (d.length:Int))=Nr.rd (Nr.num v7) v9:=by
        rw [nt,Nr.rd_shift];congr 1;omega
       rw [hrd,ck_of (by rw [decide_eq_true (show 1≤v7.length∧v7.length≤300∧v7.getD 0 0≠48 from ⟨by omega,by omega,by rw [g7];exact z2⟩),hd7];rfl)]
       have hB:∀k:Nat,k≤631→(10:Nat) ^ k<2 ^ 2200:=fun k hk=>Nat.lt_of_le_of_lt (Nr.ten_le hk) ten_two.2
       have hA:∀k:Nat,k≤310→(10:Nat) ^ k<2 ^ 1100:=fun k hk=>Nat.lt_of_le_of_lt (Nr.ten_le hk) ten_two.1
       by_cases c5:0≤v9
       ·have ep:Nr.num v7 * 10 ^ v9.toNat<10 ^ (v7.length+v9.toNat):=by
         rw [Nat.pow_add];exact Nat.mul_lt_mul_of_pos_right w7 (Nr.ten_pos _)
        have e10:v10=Nt.of (10 ^ v9.toNat):=h10
        have e11:v11=Nt.of (Nr.num v7 * 10 ^ v9.toNat):=by rw [h11,e10,Nt.val_of,Nt.val_of]
        have e8:v8=Nt.of 1:=h8
        rw [decide_eq_true c5,cond_true,ck_of (decide_eq_true ⟨by omega,by omega,by omega,by omega,pow_lt_of (k:=4096) (hB v9.toNat (by omega)) (by omega)⟩),e10,is_of2 (hB v9.toNat (by omega)) (by omega),is_of2 (Nat.lt_trans w7 (hB v7.length (by omega))) (by omega)]
        refine (ck_of (by rfl)).trans ?_
        rw [e11,e8,nr_Read.j1_ok _ 1 (Nat.mul_pos w7p (Nr.ten_pos _)) (by omega) (Nat.lt_trans ep (hA _ (by omega))) (hB 0 (by omega))]
        unfold Nr.rd
        rw [show (-v9).toNat=0 by omega,Nat.pow_zero]
       ·have ew:IntKind.i64.wrap (0 - v9)=-v9:=by rw [i64_in _ (by omega)];omega
        rw [ew] at h12
        have e12:v12=Nt.of (10 ^ (-v9).toNat):=h12
        rw [decide_eq_false c5,cond_false,ew,ck_of (decide_eq_true ⟨by omega,by omega,by omega,by omega,pow_lt_of (k:=4096) (hB (-v9).toNat (by omega)) (by omega)⟩),e12]
        rw [nr_Read.j1_ok _ _ w7p (Nr.ten_pos _) (Nat.lt_trans w7 (hA v7.length (by omega))) (hB _ (by omega))]
        unfold Nr.rd
        rw [show v9.toNat=0 by omega,Nat.pow_zero,Nat.mul_one]
end Go.Eng
namespace Go.Eng
open Go.IntWalk
namespace Nr
def valU:List UInt64→Nat
 | []=>0
 | a :: r=>a.toNat+100000000 * valU r
def smU (a:List UInt64):Bool:=a.all fun x=>decide (x.toNat<100000000)
end Nr
namespace Nr
theorem dec_ok (n:Nat):(dec n).all isDig=true∧num (dec n)=n∧(dec n≠[])∧(0<n→(dec n).getD 0 0≠48):=by
 induction n using Nat.strongRecOn with
 | _ n ih =>
  have hdig:∀k,k<10→isDig (UInt8.ofNat (48+k))=true∧(UInt8.ofNat (48+k)).toNat=48+k:=fun k hk=>by
   have:(UInt8.ofNat (48+k)).toNat=48+k:=by simp;omega
   exact ⟨isDig_iff.2 (by omega),this⟩
  by_cases c:n<10
  ·rw [dec_small c]
   obtain ⟨h1,h2⟩:=hdig n c
   refine ⟨by rw [List.all_cons,h1];rfl,by simp only [num,List.foldl_cons,List.foldl_nil,h2];omega,by simp,fun h e=>?_⟩
   have:=congrArg UInt8.toNat e
   have e2:([UInt8.ofNat (48+n)].getD 0 0).toNat=48+n:=h2
   rw [e2] at this
   have e3:(48:UInt8).toNat=48:=rfl
   omega
  ·obtain ⟨i1,i2,i3,i4⟩:=ih (n / 10) (by omega)
   obtain ⟨h1,h2⟩:=hdig (n % 10) (by omega)
   rw [dec_big c]
   refine ⟨by rw [List.all_append,i1,List.all_cons,h1];rfl,by rw [num_snoc,i2,h2];omega,by simp,fun _=>?_⟩
   rw [List.getD_eq_getElem?_getD,List.getElem?_append_left (List.length_pos_iff.2 i3),←List.getD_eq_getElem?_getD]
   exact i4 (by omega)
end Nr
end Go.Eng
namespace Go.Eng
open Go.IntWalk
open Nr (valU smU)
structure ExOK (a:List UInt64) (N b:Nat):Prop where
 v:valU a=N
 s:smU a=true
 l:a.length+b≤999
 n:a≠[]
theorem ExOK.pre {a:List UInt64} {N b:Nat} (h:ExOK a N b) (m:UInt64) (hm:m.toNat≤100000000):(decide (a.length≤1000∧m.toNat≤100000000)&&a.all (fun x=>decide (x.toNat<100000000)))=true:=by
 have hs:a.all (fun x=>decide (x.toNat<100000000))=true:=h.s
 rw [hs,decide_eq_true ⟨by have:=h.l;omega,hm⟩];rfl
theorem ExOK.le {a:List UInt64} {N b c:Nat} (h:ExOK a N b) (hc:c≤b):ExOK a N c:=⟨h.v,h.s,by have:=h.l;omega,h.n⟩
end Go.Eng
namespace Go.Eng
open Go.IntWalk
namespace Nr
def Fin0 (d:Str):Prop:=d.all isDig=true∧(d=[]∨d.getLast?≠some 48)
structure Cano (d:Str):Prop where
 f:Fin0 d
 n:d≠[]
 h:d.getD 0 0≠48
def nA (d:Str) (x:Int):Nat:=num d * 10 ^ (x - d.length).toNat
def nB (d:Str) (x:Int):Nat:=10 ^ (-(x - d.length)).toNat
end Nr
end Go.Eng
namespace Go.Eng
open Go.IntWalk
namespace Nr
noncomputable def res (A B:Nat):OT:=some [.u64 (pat (near A B)),.b (near A B).isSome]
end Nr
open Nr (Cano nA nB V top man sh)
end Go.Eng
namespace Go.Eng
open Go.IntWalk
namespace Nr
theorem run_split (t:Str):t=t.take (run t)++t.drop (run t)∧(t.take (run t)).all isDig=true∧(t.take (run t)).length=run t:=by
 have e:t.takeWhile isDig=t.take (run t):=by
  unfold run
  exact List.prefix_iff_eq_take.1 (List.takeWhile_prefix isDig)
 refine ⟨(List.take_append_drop _ _).symm,?_,?_⟩
 ·rw [←e];exact List.all_takeWhile
 ·rw [List.length_take,Nat.min_eq_left (run_le t)]
structure Shape (t a b fr ex e:Str):Prop where
 eq:t=a++fr++ex
 a0:a≠[]
 ad:a.all isDig=true
 fr:(fr=[]∧b=[])∨(fr=46 :: b∧b≠[])
 bd:b.all isDig=true
 ex:(ex=[]∧e=[])∨(∃c,isE c=true∧ex=c :: e∧signed e≠[])
 ed:(signed e).all isDig=true
theorem lexExp_shape {x:Str} {k:Int} (h:lexExp x k≠0):∃e,((x=[]∧e=[])∨(∃c,isE c=true∧x=c :: e∧signed e≠[]))∧(signed e).all isDig=true:=by
 cases x with
 | nil=>exact ⟨[],.inl ⟨rfl,rfl⟩,rfl⟩
 | cons c r =>
  rw [lexExp_cons] at h
  by_cases hc:c=101∨c=69
  ·rw [if_pos hc] at h
   by_cases hr:run (signed r)=0∨run (signed r)<(signed r).length
   ·rw [if_pos hr] at h;exact (h rfl).elim
   ·obtain ⟨h1,h2,h3⟩:=run_split (signed r)
    have hl:=run_le (signed r)
    refine ⟨r,.inr ⟨c,decide_eq_true hc,rfl,?_⟩,?_⟩
    ·intro e;rw [e] at hr;exact hr (.inl rfl)
    ·rw [List.take_of_length_le (by omega)] at h2;exact h2
  ·rw [if_neg hc] at h;exact (h rfl).elim
theorem lex_shape {s:Str} (h:lexeme s≠0):∃a b fr ex e,Shape (body s) a b fr ex e:=by
 have h2:¬(run (body s)=0∨((body s).getD 0 0=48∧1<run (body s)))∧lexFrac ((body s).drop (run (body s)))≠0:=by
  have e:lexeme s=if run (body s)=0∨((body s).getD 0 0=48∧1<run (body s)) then 0 else lexFrac ((body s).drop (run (body s))):=rfl
  rw [e] at h
  by_cases c:run (body s)=0∨((body s).getD 0 0=48∧1<run (body s))
  ·rw [if_pos c] at h;exact (h rfl).elim
  ·rw [if_neg c] at h;exact ⟨c,h⟩
 obtain ⟨h2,h3⟩:=h2
 generalize body s=t at *
 obtain ⟨r1,r2,r3⟩:=run_split t
 have ha:t.take (run t)≠[]:=fun e=>by
  rw [e] at r3;exact h2 (.inl r3.symm)
 by_cases hdot:0<(t.drop (run t)).length∧(t.drop (run t)).getD 0 0=46
 ·cases hx:t.drop (run t) with
  | nil=>rw [hx] at hdot;simp at hdot
  | cons c r =>
   rw [hx] at hdot h3 r1
   have:c=46:=hdot.2
   subst this
   rw [lexFrac_dot] at h3
   by_cases hr:run r=0
   ·rw [if_pos hr] at h3;exact (h3 rfl).elim
   ·rw [if_neg hr] at h3
    obtain ⟨s1,s2,s3⟩:=run_split r
    obtain ⟨e,e1,e2⟩:=lexExp_shape h3
    refine ⟨t.take (run t),r.take (run r),46 :: r.take (run r),r.drop (run r),e,?_,ha,r2,.inr ⟨rfl,?_⟩,s2,e1,e2⟩
    ·rw [List.append_assoc,List.cons_append,←s1];exact r1
    ·intro e;rw [e] at s3;exact hr s3.symm
 ·rw [lexFrac_other hdot] at h3
  obtain ⟨e,e1,e2⟩:=lexExp_shape h3
  refine ⟨t.take (run t),[],[],t.drop (run t),e,?_,ha,r2,.inl ⟨rfl,rfl⟩,rfl,e1,e2⟩
  rw [List.append_nil];exact r1
theorem dig_noE {c:UInt8} (h:isDig c=true):isE c=false∧c≠46∧c.toNat<128∧([101,69]:Str).contains c=false:=by
 have h1:=isDig_iff.1 h
 have hne:∀d:UInt8,d.toNat<48∨57<d.toNat→c≠d:=fun d hd e=>by subst e;omega
 have n1:=hne 101 (by decide)
 have n2:=hne 69 (by decide)
 have n3:=hne 46 (by decide)
 refine ⟨decide_eq_false (by simp [n1,n2]),n3,by omega,by simp [n1,n2]⟩
theorem takeWhile_all {p:UInt8→Bool} {a b:Str} (ha:a.all p=true) (hb:b=[]∨p (b.getD 0 0)=false):(a++b).takeWhile p=a∧(a++b).dropWhile p=b:=by
 induction a with
 | nil =>
  cases b with
  | nil=>exact ⟨rfl,rfl⟩
  | cons c r =>
   have hc:p c=false:=hb.resolve_left (by simp)
   rw [List.nil_append,List.takeWhile_cons,List.dropWhile_cons,if_neg (by rw [hc];simp),if_neg (by rw [hc];simp)]
   exact ⟨rfl,rfl⟩
 | cons c r ih =>
  rw [List.all_cons,Bool.and_eq_true] at ha
  obtain ⟨i1,i2⟩:=ih ha.2
  rw [List.cons_append,List.takeWhile_cons,List.dropWhile_cons,if_pos ha.1,if_pos ha.1,i1,i2]
  exact ⟨rfl,rfl⟩
section
variable {s a b fr ex e:Str} (h:Shape (body s) a b fr ex e)
include h
theorem Shape.noE:(a++fr).all (fun c=>!isE c)=true:=by
 rw [List.all_append,Bool.and_eq_true]
 constructor
 ·exact List.all_eq_true.2 fun x hx=>by rw [(dig_noE (List.all_eq_true.1 h.ad x hx)).1];rfl
 ·rcases h.fr with ⟨h1,_⟩ | ⟨h1,_⟩
  ·rw [h1];rfl
  ·rw [h1,List.all_cons,Bool.and_eq_true]
   exact ⟨by decide,List.all_eq_true.2 fun x hx=>by rw [(dig_noE (List.all_eq_true.1 h.bd x hx)).1];rfl⟩
theorem Shape.parts:mant s=a++fr∧tail s=e∧ahead s=a∧behind s=b:=by
 have hx:ex=[]∨(!isE (ex.getD 0 0))=false:=by
  rcases h.ex with ⟨h1,_⟩ | ⟨c,h1,h2,_⟩
  ·exact .inl h1
  ·right;rw [h2];show (!isE c)=false;rw [h1];rfl
 obtain ⟨t1,t2⟩:=takeWhile_all h.noE hx
 rw [←h.eq] at t1 t2
 have hm:mant s=a++fr:=t1
 have ht:tail s=ex.drop 1:=by unfold tail;rw [t2]
 have hf:fr=[]∨(fr.getD 0 0 != 46)=false:=by
  rcases h.fr with ⟨h1,_⟩ | ⟨h1,_⟩
  ·exact .inl h1
  ·right;rw [h1];rfl
 have had:a.all (· != 46)=true:=List.all_eq_true.2 fun x hx=>by
  have:=(dig_noE (List.all_eq_true.1 h.ad x hx)).2.1
  simpa using this
 obtain ⟨u1,u2⟩:=takeWhile_all had hf
 refine ⟨hm,?_,?_,?_⟩
 ·rw [ht]
  rcases h.ex with ⟨h1,h2⟩ | ⟨c,h1,h2,_⟩
  ·rw [h1,h2];rfl
  ·rw [h2];rfl
 ·unfold ahead;rw [hm];exact u1
 ·unfold behind;rw [hm,u2]
  rcases h.fr with ⟨h1,h2⟩ | ⟨h1,_⟩
  ·rw [h1,h2];rfl
  ·rw [h1];rfl
theorem Shape.ascii:(body s).all (fun c=>decide (c.toNat<128))=true:=by
 have hd:∀l:Str,l.all isDig=true→l.all (fun c=>decide (c.toNat<128))=true:=fun l hl=>List.all_eq_true.2 fun x hx=>decide_eq_true (dig_noE (List.all_eq_true.1 hl x hx)).2.2.1
 rw [h.eq,List.all_append,List.all_append,Bool.and_eq_true,Bool.and_eq_true]
 refine ⟨⟨hd a h.ad,?_⟩,?_⟩
 ·rcases h.fr with ⟨h1,_⟩ | ⟨h1,_⟩
  ·rw [h1];rfl
  ·rw [h1,List.all_cons,hd b h.bd];rfl
 ·rcases h.ex with ⟨h1,_⟩ | ⟨c,h1,h2,_⟩
  ·rw [h1];rfl
  ·rw [h2,List.all_cons,Bool.and_eq_true]
   have hc:c=101∨c=69:=of_decide_eq_true h1
   refine ⟨by rcases hc with rfl | rfl <;> decide,?_⟩
   have he:=h.ed
   cases e with
   | nil=>rfl
   | cons d r =>
    rw [signed_cons] at he
    rw [List.all_cons]
    by_cases k:d=43∨d=45
    ·rw [if_pos k] at he
     rw [hd r he];rcases k with rfl | rfl <;> rfl
    ·rw [if_neg k] at he
     have:=hd _ he
     rw [List.all_cons] at this;exact this
theorem Shape.index:Lib.indexAny (body s) [101,69]=if ex=[] then -1 else ((a++fr).length:Int):=by
 have hno:∀(j:Nat) x,j<(a++fr).length→(body s)[j]?=some x→([101,69]:Str).contains x=false:=fun j x hj hx=>by
  rw [h.eq,List.getElem?_append_left hj] at hx
  have:=List.all_eq_true.1 h.noE x (List.mem_of_getElem? hx)
  simp only [Bool.not_eq_true'] at this
  have h2:¬(x=101∨x=69):=of_decide_eq_false this
  simp only [not_or] at h2
  simp [h2.1,h2.2]
 rcases h.ex with ⟨h1,_⟩ | ⟨c,h1,h2,_⟩
 ·rw [if_pos h1]
  refine Lib.indexAny_none fun j x hj hx=>hno j x ?_ (by assumption)
  rw [h.eq,h1,List.append_nil] at *
  first | exact hj | exact hx
 ·rw [if_neg (by rw [h2];simp)]
  refine Lib.indexAny_hit (i:=(a++fr).length) (x:=c) (fun j x hj hx=>?_) ?_ ?_
  ·first | exact hno j x hj hx | exact hno j x hx hj
  ·rw [h.eq,h2,List.getElem?_append_right (Nat.le_refl _),Nat.sub_self];rfl
  ·have hc:c=101∨c=69:=of_decide_eq_true h1
   rcases hc with rfl | rfl <;> rfl
end
theorem rd_clamp {N L:Nat} {k j:Int} (hN:N<10 ^ L) (h:k=j∨(310≤k∧310≤j)∨(k+L≤-324∧j+L≤-324)):rd N k=rd N j:=by
 rcases h with h | ⟨h1,h2⟩ | ⟨h1,h2⟩
 ·rw [h]
 ·by_cases c:N=0
  ·subst c;rw [rd_zero,rd_zero]
  ·rw [rd_high (L:=1) (by simp;omega) (by omega) (by omega),rd_high (L:=1) (by simp;omega) (by omega) (by omega)]
 ·rw [rd_low hN h1,rd_low hN h2]
theorem read_clamp {D t:Str} {L M:Nat} (hL:L≤300) (hM:5000≤M):read D (L+(if t.getD 0 0=45 then -((min (num (signed t)) M:Nat):Int) else ((min (num (signed t)) M:Nat):Int)))=read D (L+expo t):=by
 unfold read
 cases hv:valid D
 ·rw [if_neg (by simp),if_neg (by simp)]
 ·rw [if_pos rfl,if_pos rfl]
  unfold valid at hv
  rw [Bool.and_eq_true] at hv
  have hl:=of_decide_eq_true hv.1
  refine rd_clamp (num_lt D hv.2) ?_
  unfold expo
  simp only
  by_cases c:t.getD 0 0=45
  ·rw [if_pos c,if_pos c];omega
  ·rw [if_neg c,if_neg c];omega
end Nr
theorem trim_sign {s:Str} (h1:1≤(Nr.signed s).length) (h2:(Nr.signed s).all Nr.isDig=true):Lib.trimLeftS s [43,45]=Nr.signed s:=by
 have hk:∀(c:UInt8) (r:Str),Nr.isDig c=true→List.dropWhile (fun b=>([43,45]:Str).contains b) (c :: r)=c :: r:=fun c r hc=>by
  rw [List.dropWhile_cons,if_neg]
  have hd:=Nr.isDig_iff.1 hc
  have n1:c≠43:=fun e=>by subst e;simp at hd
  have n2:c≠45:=fun e=>by subst e;simp at hd
  simp [n1,n2]
 unfold Lib.trimLeftS
 cases s with
 | nil=>simp [Nr.signed] at h1
 | cons c r =>
  rw [Nr.signed_cons] at h1 h2 ⊢
  by_cases k:c=43∨c=45
  ·rw [if_pos k] at h1 h2 ⊢
   rw [List.dropWhile_cons,if_pos (by rcases k with rfl | rfl <;> rfl)]
   cases r with
   | nil=>simp at h1
   | cons d q =>
    rw [List.all_cons,Bool.and_eq_true] at h2
    exact hk d q h2.1
  ·rw [if_neg k] at h1 h2 ⊢
   rw [List.all_cons,Bool.and_eq_true] at h2
   exact hk c r h2.1
theorem dig_val (c:UInt8) (h:Nr.isDig c=true):(c - 48).toNat=c.toNat - 48:=by
 have h1:=Nr.isDig_iff.1 h
 rw [UInt8.toNat_sub]
 show (256 - 48+c.toNat) % 256=_
 omega
theorem min_step (a b M:Nat) (hM:10≤M):min (10 * min a M+b) M=min (10 * a+b) M:=by omega
theorem nr_power.l1_ok (s t:Str) (ht:t.all Nr.isDig=true) (hl:t.length≤300) (hs:1≤s.length):∀(m i:Nat),i+m=t.length→nr_power.l1 s t ((min (Nr.num (t.take i)) 1000000:Nat):Int) t.length i=some [.i .i64 (if s.getD 0 0=45 then -((min (Nr.num t) 1000000:Nat):Int) else ((min (Nr.num t) 1000000:Nat):Int))]:=by
 intro m
 induction m with
 | zero =>
  intro i hi
  refine nr_power.l1_in _ _ _ _ _ ?_
  intro v1 h1 v2 h2 v3 h3 v4 h4 v5 h5 v6 h6
  have h6:v6=s.getD 0 0:=h6
  rw [List.take_of_length_le (by omega),decide_eq_false (by omega),cond_false,ck_of (idx_ok (by omega) (by omega)),h6]
  by_cases c:s.getD 0 0=45
  ·rw [decide_eq_true c,cond_true,if_pos c,i64_in _ (by omega)];simp
  ·rw [decide_eq_false c,cond_false,if_neg c]
 | succ m ih =>
  intro i hi
  refine nr_power.l1_in _ _ _ _ _ ?_
  intro v1 h1 v2 h2 v3 h3 v4 h4 v5 h5 v6 h6
  rw [Int.toNat_natCast] at h2
  have hd:=all_getD ht (show i<t.length by omega)
  rw [←h2] at hd
  have e1:v1=((10 * min (Nr.num (t.take i)) 1000000:Nat):Int):=by rw [h1,i64_in _ (by omega)];omega
  have e3:v3=((v2.toNat - 48:Nat):Int):=by rw [h3,dig_val v2 (Nr.isDig_iff.2 hd),i64_in _ (by omega)]
  have e4:v4=((min (Nr.num (t.take (i+1))) 1000000:Nat):Int):=by
   rw [take_snoc (show i<t.length by omega),Nr.num_snoc,←h2,←min_step _ _ _ (by omega),h4,e1,e3,i64_in _ (by omega)]
   unfold minI
   split <;> omega
  have e5:v5=((i+1:Nat):Int):=by rw [h5,i64_in _ (by omega)];omega
  rw [decide_eq_true (by omega),cond_true,ck_of (idx_ok (by omega) (by omega)),e4,e5]
  exact ih (i+1) (by omega)
theorem nr_power.goal (s:Str) (hp:(decide (1≤(Nr.signed s).length∧s.length≤300)&&(Nr.signed s).all Nr.isDig)=true):nr_power.F s=some [.i .i64 (Nr.power s)]:=by
 simp only [Bool.and_eq_true,decide_eq_true_eq] at hp
 obtain ⟨⟨p1,p2⟩,p3⟩:=hp
 have hl:=Nr.signed_len s
 refine nr_power.F_in _ ?_
 intro v1 h1
 rw [trim_sign p1 p3] at h1
 rw [decide_eq_true (show s.length≤1099511627776∧([43,45]:Str).length≤100 from ⟨by omega,by decide⟩)]
 refine (ck_of (by rfl)).trans ?_
 rw [h1]
 have:=nr_power.l1_ok s (Nr.signed s) p3 (by omega) (by omega) (Nr.signed s).length 0 (by omega)
 unfold Nr.power
 rw [←this];rfl
theorem or_63 (x:UInt64) (h:x.toNat<9223372036854775808):x ||| 9223372036854775808=UInt64.ofNat (x.toNat+9223372036854775808):=by
 apply u64_eq
 rw [UInt64.toNat_or,u64_of]
 have:=or_add (a:=1) (k:=63) (b:=x.toNat) h
 rw [Nat.or_comm] at this
 show x.toNat ||| 9223372036854775808=_
 rw [show (9223372036854775808:Nat)=1 * 2 ^ 63 by decide,this]
 have:(1:Nat) * 2 ^ 63=9223372036854775808:=by decide
 omega
theorem Nr.read_le {d:Str} {x:Int} {p:Nat} (h:Nr.read d x=some p):p≤Nr.top:=by
 unfold Nr.read at h
 split at h
 ·exact Nr.near_le h
 ·cases h
theorem nr_Parse.j1_ok (s:Str) (hs:s.length≤300) (hx:Nr.lexeme s≠0) (x:Int) (hx2 : -1000000≤x∧x≤1000000) (hr:Nr.read (Nr.ahead s++Nr.behind s) ((Nr.ahead s).length+x)=Nr.read (Nr.ahead s++Nr.behind s) ((Nr.ahead s).length+Nr.expo (Nr.tail s))) (neg:Bool) (hneg:neg=decide (s.getD 0 0=45)) (hm:(Nr.mant s).length≤300) :
  nr_Parse.j1 (Nr.mant s) neg x=some [.u64 (Nr.parse s).1,.i .i64 (Nr.parse s).2]:=by
 refine nr_Parse.j1_in _ _ _ ?_
 intro v1 h1 v2 h2 v3 h3 v4 h4 v5 h5 v6 h6
 have e1:v1=Nr.behind s:=h1
 have e2:v2=Nr.ahead s++Nr.behind s:=by rw [h2,e1];rfl
 have e3:v3=(Nr.ahead s).length:=h3
 have l1:(Nr.ahead s).length≤(Nr.mant s).length:=(List.takeWhile_sublist _).length_le
 have l2:(Nr.behind s).length≤(Nr.mant s).length:=by unfold Nr.behind;rw [List.length_drop];have:=(List.dropWhile_sublist (l:=Nr.mant s) (· != 46)).length_le;omega
 rw [e2,e3,i64_in _ (by omega),hr] at h4 h5
 have ep:Nr.parse s=match Nr.read (Nr.ahead s++Nr.behind s) ((Nr.ahead s).length+Nr.expo (Nr.tail s)) with
  | none=>(0,10)
  | some p=>(UInt64.ofNat (p+if s.getD 0 0=45 then 9223372036854775808 else 0),0):=by
  rw [Nr.parse_eq];unfold Nr.parse0
  rw [if_neg hx,if_neg (by omega)]
  rfl
 rw [ck_of (decide_eq_true ⟨by omega,rfl⟩),ck_of (decide_eq_true (by
  have:((Nr.mant s).takeWhile (· != 46)).length=(Nr.ahead s).length:=rfl
  rw [e1];omega)),ep]
 cases hq:Nr.read (Nr.ahead s++Nr.behind s) ((Nr.ahead s).length+Nr.expo (Nr.tail s)) with
 | none =>
  rw [hq] at h5
  have e5:v5=false:=h5
  rw [e5];rfl
 | some p =>
  have hp:=Nr.read_le hq
  rw [hq] at h4 h5
  have e5:v5=true:=h5
  have e4:v4=UInt64.ofNat p:=h4
  have e4':v4.toNat=p:=by rw [e4,u64_of];unfold Nr.top at hp;omega
  rw [e5,hneg]
  refine Eq.trans (b:=cond (decide (s.getD 0 0=45)) (nr_Parse.j2 v6) (nr_Parse.j2 v4)) rfl ?_
  by_cases c:s.getD 0 0=45
  ·rw [decide_eq_true c,cond_true,nr_Parse.j2_eq,h6,or_63 _ (by rw [e4'];unfold Nr.top at hp;omega),e4',if_pos c]
  ·rw [decide_eq_false c,cond_false,nr_Parse.j2_eq,if_neg c,e4];rfl
theorem Nr.body_eq (s:Str):(if ([45]:Str).isPrefixOf s then s.drop ([45]:Str).length else s)=Nr.body s∧([45]:Str).isPrefixOf s=decide (s.getD 0 0=45):=by
 cases s with
 | nil=>exact ⟨rfl,rfl⟩
 | cons c r =>
  by_cases h:c=45
  ·subst h;exact ⟨by simp [Nr.body],by simp⟩
  ·have hb:(45 == c)=false:=by simp [Ne.symm h]
   refine ⟨?_,?_⟩
   ·have:Nr.body (c :: r)=c :: r:=by
     unfold Nr.body
     split
     ·rename_i heq;injection heq with h1 _;exact (h h1).elim
     ·rfl
    rw [this];simp [List.isPrefixOf,hb]
   ·simp [List.isPrefixOf,hb,h]
theorem Nr.body_len (s:Str):(Nr.body s).length≤s.length:=by
 unfold Nr.body
 split
 ·simp
 ·exact Nat.le_refl _
theorem nr_Parse.goal (s:Str) (hp:decide (s.length≤1099511627776)=true):nr_Parse.F s=some [.u64 (Nr.parse s).1,.i .i64 (Nr.parse s).2]:=by
 refine nr_Parse.F_in _ ?_
 intro v1 h1 v2 h2 v3 h3 v4 h4 v5 h5
 obtain ⟨b1,b2⟩:=Nr.body_eq s
 rw [b1] at h1
 rw [b2] at h2
 rw [ck_of hp]
 by_cases hx:Nr.lexeme s=0
 ·rw [decide_eq_true hx,cond_true];rw [Nr.parse_eq];unfold Nr.parse0;rw [if_pos hx]
 ·rw [decide_eq_false hx,cond_false]
  by_cases hl:300<s.length
  ·rw [decide_eq_true (by omega),cond_true];rw [Nr.parse_eq];unfold Nr.parse0;rw [if_neg hx,if_pos hl]
  ·rw [decide_eq_false (by omega),cond_false]
   obtain ⟨a,b,fr,ex,e,sh⟩:=Nr.lex_shape hx
   obtain ⟨q1,q2,q3,q4⟩:=sh.parts
   have hbl:=Nr.body_len s
   have hml:(Nr.mant s).length≤300:=by
    have:(Nr.mant s).length≤(Nr.body s).length:=(List.takeWhile_sublist _).length_le
    omega
   have hel:e.length≤300:=by
    have h:=congrArg List.length sh.eq
    rw [List.length_append] at h
    rcases sh.ex with ⟨x1,x2⟩ | ⟨c,x1,x2,x3⟩
    ·rw [x2];simp
    ·rw [x2,List.length_cons] at h;omega
   have hi:=sh.index
   rw [←h1] at hi
   rw [hi] at h3
   rw [h1,decide_eq_true (show (Nr.body s).length≤4294967280∧([101,69]:Str).length≤100 from ⟨by omega,by decide⟩),List.all_append,sh.ascii]
   refine (ck_of (by rfl)).trans ?_
   rcases sh.ex with ⟨x1,x2⟩ | ⟨c,x1,x2,x3⟩
   ·rw [if_pos x1] at h3
    have hbm:Nr.body s=Nr.mant s:=by rw [sh.eq,x1,List.append_nil,q1]
    have ht0:Nr.expo (Nr.tail s)=0:=by rw [q2,x2];rfl
    rw [h3,decide_eq_false (by decide),cond_false,hbm]
    exact nr_Parse.j1_ok s (by omega) hx 0 (by omega) (by rw [ht0]) v2 h2 hml
   ·rw [if_neg (by rw [x2];simp)] at h3
    have e4:v4=(((a++fr).length+1:Nat):Int):=by
     have:(a++fr).length≤300:=by rw [←q1];exact hml
     rw [h4,h3,i64_in _ (by omega)];omega
    have hlen:(Nr.body s).length=(a++fr).length+(e.length+1):=by rw [sh.eq,x2,List.length_append,List.length_cons]
    have hdr:(Nr.body s).drop ((a++fr).length+1)=e:=by
     rw [sh.eq,x2,←List.drop_drop,List.drop_left];rfl
    have htk:(Nr.body s).take (a++fr).length=Nr.mant s:=by rw [sh.eq,List.take_left,q1]
    rw [e4,Int.toNat_natCast,h1,hdr] at h5
    rw [h3,decide_eq_true (by omega),cond_true,e4,ck_of (cut_ok (by omega) (by omega) (by omega)),Int.toNat_natCast,hdr,ck_of (by
     rw [sh.ed,decide_eq_true (show 1≤(Nr.signed e).length∧e.length≤300 from ⟨List.length_pos_iff.2 x3,hel⟩)];rfl),ck_of (cut_ok (by omega) (by omega) (by omega)),Int.toNat_natCast,htk]
    refine nr_Parse.j1_ok s (by omega) hx v5 ?_ ?_ v2 h2 hml
    ·rw [h5];unfold Nr.power;split <;> omega
    ·rw [h5,q2]
     unfold Nr.power
     exact Nr.read_clamp (by
      have:(Nr.ahead s).length≤(Nr.mant s).length:=(List.takeWhile_sublist _).length_le
      omega) (by omega)
end Go.Eng
namespace Go.Proofs
open Go.Shelf
def Tryd.lays161_ren:Go.Shelf.Ren:=⟨fun | 161=>16 | 231=>34 | 227=>36 | 233=>37 | 235=>39 | 228=>55 | 197=>58 | 151=>59 | 260=>79 | 152=>53 | 137=>74 | 119=>75 | 224=>76 | 225=>77 | 217=>93 | 266=>99 | n=>n,fun | 9=>9 | 4=>4 | 3=>3 | 5=>5 | 117=>61 | 116=>60 | 0=>0 | 124=>64 | 105=>84 | 21=>21 | 119=>120 | 46=>67 | 139=>123 | 138=>122 | n=>n,fun | 3=>2 | 4=>3 | n=>n⟩
theorem Tryd.lays161:Go.Proofs.Lays.n161 Tryd.prog Tryd.lays161_ren:={
 mixed:=by kernel_rfl
 f119:=Tryd.func75.trans (congrArg some (by kernel_rfl))
 f137:=Tryd.func74.trans (congrArg some (by kernel_rfl))
 f151:=Tryd.func59.trans (congrArg some (by kernel_rfl))
 f152:=Tryd.func53.trans (congrArg some (by kernel_rfl))
 f161:=Tryd.func16.trans (congrArg some (by kernel_rfl))
 f197:=Tryd.func58.trans (congrArg some (by kernel_rfl))
 f217:=Tryd.func93.trans (congrArg some (by kernel_rfl))
 f224:=Tryd.func76.trans (congrArg some (by kernel_rfl))
 f225:=Tryd.func77.trans (congrArg some (by kernel_rfl))
 f227:=Tryd.func36.trans (congrArg some (by kernel_rfl))
 f228:=Tryd.func55.trans (congrArg some (by kernel_rfl))
 f231:=Tryd.func34.trans (congrArg some (by kernel_rfl))
 f233:=Tryd.func37.trans (congrArg some (by kernel_rfl))
 f235:=Tryd.func39.trans (congrArg some (by kernel_rfl))
 f260:=Tryd.func79.trans (congrArg some (by kernel_rfl))
 f266:=Tryd.func99.trans (congrArg some (by kernel_rfl))
 t0:=Tryd.underlying0
 a0:=Tryd.isAgg0
 z0:=Tryd.sizeOf0
 v0:=Tryd.zeroValue0
 t3:=Tryd.underlying3
 a3:=Tryd.isAgg3
 z3:=Tryd.sizeOf3
 v3:=Tryd.zeroValue3
 t4:=Tryd.underlying4
 a4:=Tryd.isAgg4
 z4:=Tryd.sizeOf4
 v4:=Tryd.zeroValue4
 t5:=Tryd.underlying5
 a5:=Tryd.isAgg5
 z5:=Tryd.sizeOf5
 v5:=Tryd.zeroValue5
 t9:=Tryd.underlying9
 a9:=Tryd.isAgg9
 z9:=Tryd.sizeOf9
 v9:=Tryd.zeroValue9
 t21:=Tryd.underlying21
 a21:=Tryd.isAgg21
 z21:=Tryd.sizeOf21
 v21:=Tryd.zeroValue21
 t46:=Tryd.underlying67
 a46:=Tryd.isAgg67
 z46:=Tryd.sizeOf67
 v46:=Tryd.zeroValue67
 t105:=Tryd.underlying84
 a105:=Tryd.isAgg84
 z105:=Tryd.sizeOf84
 v105:=Tryd.zeroValue84
 t116:=Tryd.underlying60
 a116:=Tryd.isAgg60
 z116:=Tryd.sizeOf60
 t117:=Tryd.underlying61
 a117:=Tryd.isAgg61
 z117:=Tryd.sizeOf61
 v117:=Tryd.zeroValue61
 t119:=Tryd.underlying120
 a119:=Tryd.isAgg120
 z119:=Tryd.sizeOf120
 t124:=Tryd.underlying64
 a124:=Tryd.isAgg64
 z124:=Tryd.sizeOf64
 v124:=Tryd.zeroValue64
 t138:=Tryd.underlying122
 a138:=Tryd.isAgg122
 z138:=Tryd.sizeOf122
 v138:=Tryd.zeroValue122
 t139:=Tryd.underlying123
 a139:=Tryd.isAgg123
 z139:=Tryd.sizeOf123
 v139:=Tryd.zeroValue123
 g3:=by kernel_rfl
 g4:=by kernel_rfl }
def Tryd.lays162_ren:Go.Shelf.Ren:=⟨fun | 162=>17 | 232=>35 | 227=>36 | 234=>38 | 236=>40 | 228=>55 | 271=>60 | 151=>59 | 120=>80 | 197=>58 | 152=>53 | 260=>79 | 137=>74 | 119=>75 | 224=>76 | 225=>77 | 217=>93 | 266=>99 | n=>n,fun | 9=>9 | 4=>4 | 3=>3 | 5=>5 | 117=>61 | 116=>60 | 0=>0 | 124=>64 | 21=>21 | 105=>84 | 46=>67 | 119=>120 | 139=>123 | 138=>122 | n=>n,fun | 3=>2 | 4=>3 | n=>n⟩
theorem Tryd.lays162:Go.Proofs.Lays.n162 Tryd.prog Tryd.lays162_ren:={
 mixed:=by kernel_rfl
 f119:=Tryd.func75.trans (congrArg some (by kernel_rfl))
 f120:=Tryd.func80.trans (congrArg some (by kernel_rfl))
 f137:=Tryd.func74.trans (congrArg some (by kernel_rfl))
 f151:=Tryd.func59.trans (congrArg some (by kernel_rfl))
 f152:=Tryd.func53.trans (congrArg some (by kernel_rfl))
 f162:=Tryd.func17.trans (congrArg some (by kernel_rfl))
 f197:=Tryd.func58.trans (congrArg some (by kernel_rfl))
 f217:=Tryd.func93.trans (congrArg some (by kernel_rfl))
 f224:=Tryd.func76.trans (congrArg some (by kernel_rfl))
 f225:=Tryd.func77.trans (congrArg some (by kernel_rfl))
 f227:=Tryd.func36.trans (congrArg some (by kernel_rfl))
 f228:=Tryd.func55.trans (congrArg some (by kernel_rfl))
 f232:=Tryd.func35.trans (congrArg some (by kernel_rfl))
 f234:=Tryd.func38.trans (congrArg some (by kernel_rfl))
 f236:=Tryd.func40.trans (congrArg some (by kernel_rfl))
 f260:=Tryd.func79.trans (congrArg some (by kernel_rfl))
 f266:=Tryd.func99.trans (congrArg some (by kernel_rfl))
 f271:=Tryd.func60.trans (congrArg some (by kernel_rfl))
 t0:=Tryd.underlying0
 a0:=Tryd.isAgg0
 z0:=Tryd.sizeOf0
 v0:=Tryd.zeroValue0
 t3:=Tryd.underlying3
 a3:=Tryd.isAgg3
 z3:=Tryd.sizeOf3
 v3:=Tryd.zeroValue3
 t4:=Tryd.underlying4
 a4:=Tryd.isAgg4
 z4:=Tryd.sizeOf4
 v4:=Tryd.zeroValue4
 t5:=Tryd.underlying5
 a5:=Tryd.isAgg5
 z5:=Tryd.sizeOf5
 v5:=Tryd.zeroValue5
 t9:=Tryd.underlying9
 a9:=Tryd.isAgg9
 z9:=Tryd.sizeOf9
 v9:=Tryd.zeroValue9
 t21:=Tryd.underlying21
 a21:=Tryd.isAgg21
 z21:=Tryd.sizeOf21
 v21:=Tryd.zeroValue21
 t46:=Tryd.underlying67
 a46:=Tryd.isAgg67
 z46:=Tryd.sizeOf67
 v46:=Tryd.zeroValue67
 t105:=Tryd.underlying84
 a105:=Tryd.isAgg84
 z105:=Tryd.sizeOf84
 v105:=Tryd.zeroValue84
 t116:=Tryd.underlying60
 a116:=Tryd.isAgg60
 z116:=Tryd.sizeOf60
 t117:=Tryd.underlying61
 a117:=Tryd.isAgg61
 z117:=Tryd.sizeOf61
 v117:=Tryd.zeroValue61
 t119:=Tryd.underlying120
 a119:=Tryd.isAgg120
 z119:=Tryd.sizeOf120
 t124:=Tryd.underlying64
 a124:=Tryd.isAgg64
 z124:=Tryd.sizeOf64
 v124:=Tryd.zeroValue64
 t138:=Tryd.underlying122
 a138:=Tryd.isAgg122
 z138:=Tryd.sizeOf122
 v138:=Tryd.zeroValue122
 t139:=Tryd.underlying123
 a139:=Tryd.isAgg123
 z139:=Tryd.sizeOf123
 v139:=Tryd.zeroValue123
 g3:=by kernel_rfl
 g4:=by kernel_rfl }
def Tryd.lays160_ren:Go.Shelf.Ren:=⟨fun | 160=>15 | 232=>35 | 231=>34 | 227=>36 | 234=>38 | 233=>37 | 236=>40 | 235=>39 | 228=>55 | 271=>60 | 151=>59 | 197=>58 | 120=>80 | 152=>53 | 260=>79 | 137=>74 | 119=>75 | 224=>76 | 225=>77 | 217=>93 | 266=>99 | n=>n,fun | 9=>9 | 4=>4 | 3=>3 | 5=>5 | 117=>61 | 116=>60 | 0=>0 | 124=>64 | 21=>21 | 105=>84 | 46=>67 | 119=>120 | 139=>123 | 138=>122 | n=>n,fun | 3=>2 | 4=>3 | n=>n⟩
theorem Tryd.lays160:Go.Proofs.Lays.n160 Tryd.prog Tryd.lays160_ren:={
 mixed:=by kernel_rfl
 f119:=Tryd.func75.trans (congrArg some (by kernel_rfl))
 f120:=Tryd.func80.trans (congrArg some (by kernel_rfl))
 f137:=Tryd.func74.trans (congrArg some (by kernel_rfl))
 f151:=Tryd.func59.trans (congrArg some (by kernel_rfl))
 f152:=Tryd.func53.trans (congrArg some (by kernel_rfl))
 f160:=Tryd.func15.trans (congrArg some (by kernel_rfl))
 f197:=Tryd.func58.trans (congrArg some (by kernel_rfl))
 f217:=Tryd.func93.trans (congrArg some (by kernel_rfl))
 f224:=Tryd.func76.trans (congrArg some (by kernel_rfl))
 f225:=Tryd.func77.trans (congrArg some (by kernel_rfl))
 f227:=Tryd.func36.trans (congrArg some (by kernel_rfl))
 f228:=Tryd.func55.trans (congrArg some (by kernel_rfl))
 f231:=Tryd.func34.trans (congrArg some (by kernel_rfl))
 f232:=Tryd.func35.trans (congrArg some (by kernel_rfl))
 f233:=Tryd.func37.trans (congrArg some (by kernel_rfl))
 f234:=Tryd.func38.trans (congrArg some (by kernel_rfl))
 f235:=Tryd.func39.trans (congrArg some (by kernel_rfl))
 f236:=Tryd.func40.trans (congrArg some (by kernel_rfl))
 f260:=Tryd.func79.trans (congrArg some (by kernel_rfl))
 f266:=Tryd.func99.trans (congrArg some (by kernel_rfl))
 f271:=Tryd.func60.trans (congrArg some (by kernel_rfl))
 t0:=Tryd.underlying0
 a0:=Tryd.isAgg0
 z0:=Tryd.sizeOf0
 v0:=Tryd.zeroValue0
 t3:=Tryd.underlying3
 a3:=Tryd.isAgg3
 z3:=Tryd.sizeOf3
 v3:=Tryd.zeroValue3
 t4:=Tryd.underlying4
 a4:=Tryd.isAgg4
 z4:=Tryd.sizeOf4
 v4:=Tryd.zeroValue4
 t5:=Tryd.underlying5
 a5:=Tryd.isAgg5
 z5:=Tryd.sizeOf5
 v5:=Tryd.zeroValue5
 t9:=Tryd.underlying9
 a9:=Tryd.isAgg9
 z9:=Tryd.sizeOf9
 v9:=Tryd.zeroValue9
 t21:=Tryd.underlying21
 a21:=Tryd.isAgg21
 z21:=Tryd.sizeOf21
 v21:=Tryd.zeroValue21
 t46:=Tryd.underlying67
 a46:=Tryd.isAgg67
 z46:=Tryd.sizeOf67
 v46:=Tryd.zeroValue67
 t105:=Tryd.underlying84
 a105:=Tryd.isAgg84
 z105:=Tryd.sizeOf84
 v105:=Tryd.zeroValue84
 t116:=Tryd.underlying60
 a116:=Tryd.isAgg60
 z116:=Tryd.sizeOf60
 t117:=Tryd.underlying61
 a117:=Tryd.isAgg61
 z117:=Tryd.sizeOf61
 v117:=Tryd.zeroValue61
 t119:=Tryd.underlying120
 a119:=Tryd.isAgg120
 z119:=Tryd.sizeOf120
 t124:=Tryd.underlying64
 a124:=Tryd.isAgg64
 z124:=Tryd.sizeOf64
 v124:=Tryd.zeroValue64
 t138:=Tryd.underlying122
 a138:=Tryd.isAgg122
 z138:=Tryd.sizeOf122
 v138:=Tryd.zeroValue122
 t139:=Tryd.underlying123
 a139:=Tryd.isAgg123
 z139:=Tryd.sizeOf123
 v139:=Tryd.zeroValue123
 g3:=by kernel_rfl
 g4:=by kernel_rfl }
def Tryd.lays103_ren:Go.Shelf.Ren:=⟨fun | 103=>27 | 210=>52 | 206=>73 | n=>n,fun | 9=>9 | 4=>4 | 24=>51 | 3=>3 | n=>n,fun | n=>n⟩
theorem Tryd.lays103:Go.Proofs.Lays.n103 Tryd.prog Tryd.lays103_ren:={
 mixed:=by kernel_rfl
 f103:=Tryd.func27.trans (congrArg some (by kernel_rfl))
 f206:=Tryd.func73.trans (congrArg some (by kernel_rfl))
 f210:=Tryd.func52.trans (congrArg some (by kernel_rfl))
 t3:=Tryd.underlying3
 a3:=Tryd.isAgg3
 z3:=Tryd.sizeOf3
 v3:=Tryd.zeroValue3
 t4:=Tryd.underlying4
 a4:=Tryd.isAgg4
 z4:=Tryd.sizeOf4
 v4:=Tryd.zeroValue4
 t9:=Tryd.underlying9
 a9:=Tryd.isAgg9
 z9:=Tryd.sizeOf9
 v9:=Tryd.zeroValue9
 t24:=Tryd.underlying51
 a24:=Tryd.isAgg51
 z24:=Tryd.sizeOf51
 v24:=Tryd.zeroValue51 }
def Tryd.lays153_ren:Go.Shelf.Ren:=⟨fun | 153=>28 | 152=>53 | 226=>54 | 227=>36 | 228=>55 | 137=>74 | 119=>75 | 224=>76 | 225=>77 | 217=>93 | 266=>99 | n=>n,fun | 9=>9 | 3=>3 | 4=>4 | 5=>5 | 21=>21 | 117=>61 | 116=>60 | 0=>0 | 46=>67 | 124=>64 | n=>n,fun | n=>n⟩
theorem Tryd.lays153:Go.Proofs.Lays.n153 Tryd.prog Tryd.lays153_ren:={
 mixed:=by kernel_rfl
 f119:=Tryd.func75.trans (congrArg some (by kernel_rfl))
 f137:=Tryd.func74.trans (congrArg some (by kernel_rfl))
 f152:=Tryd.func53.trans (congrArg some (by kernel_rfl))
 f153:=Tryd.func28.trans (congrArg some (by kernel_rfl))
 f217:=Tryd.func93.trans (congrArg some (by kernel_rfl))
 f224:=Tryd.func76.trans (congrArg some (by kernel_rfl))
 f225:=Tryd.func77.trans (congrArg some (by kernel_rfl))
 f226:=Tryd.func54.trans (congrArg some (by kernel_rfl))
 f227:=Tryd.func36.trans (congrArg some (by kernel_rfl))
 f228:=Tryd.func55.trans (congrArg some (by kernel_rfl))
 f266:=Tryd.func99.trans (congrArg some (by kernel_rfl))
 t0:=Tryd.underlying0
 a0:=Tryd.isAgg0
 z0:=Tryd.sizeOf0
 v0:=Tryd.zeroValue0
 t3:=Tryd.underlying3
 a3:=Tryd.isAgg3
 z3:=Tryd.sizeOf3
 v3:=Tryd.zeroValue3
 t4:=Tryd.underlying4
 a4:=Tryd.isAgg4
 z4:=Tryd.sizeOf4
 v4:=Tryd.zeroValue4
 t5:=Tryd.underlying5
 a5:=Tryd.isAgg5
 z5:=Tryd.sizeOf5
 v5:=Tryd.zeroValue5
 t9:=Tryd.underlying9
 a9:=Tryd.isAgg9
 z9:=Tryd.sizeOf9
 v9:=Tryd.zeroValue9
 t21:=Tryd.underlying21
 a21:=Tryd.isAgg21
 z21:=Tryd.sizeOf21
 v21:=Tryd.zeroValue21
 t46:=Tryd.underlying67
 a46:=Tryd.isAgg67
 z46:=Tryd.sizeOf67
 v46:=Tryd.zeroValue67
 t116:=Tryd.underlying60
 a116:=Tryd.isAgg60
 z116:=Tryd.sizeOf60
 t117:=Tryd.underlying61
 a117:=Tryd.isAgg61
 z117:=Tryd.sizeOf61
 v117:=Tryd.zeroValue61
 t124:=Tryd.underlying64
 a124:=Tryd.isAgg64
 z124:=Tryd.sizeOf64
 v124:=Tryd.zeroValue64 }
def Tryd.lays219_ren:Go.Shelf.Ren:=⟨fun | 219=>78 | 217=>93 | 225=>77 | 224=>76 | 267=>94 | 266=>99 | 314=>100 | n=>n,fun | 9=>9 | 3=>3 | 4=>4 | 5=>5 | 46=>67 | 146=>128 | 51=>127 | n=>n,fun | 1=>1 | n=>n⟩
theorem Tryd.lays219:Go.Proofs.Lays.n219 Tryd.prog Tryd.lays219_ren:={
 mixed:=by kernel_rfl
 f217:=Tryd.func93.trans (congrArg some (by kernel_rfl))
 f219:=Tryd.func78.trans (congrArg some (by kernel_rfl))
 f224:=Tryd.func76.trans (congrArg some (by kernel_rfl))
 f225:=Tryd.func77.trans (congrArg some (by kernel_rfl))
 f266:=Tryd.func99.trans (congrArg some (by kernel_rfl))
 f267:=Tryd.func94.trans (congrArg some (by kernel_rfl))
 f314:=Tryd.func100.trans (congrArg some (by kernel_rfl))
 t3:=Tryd.underlying3
 a3:=Tryd.isAgg3
 z3:=Tryd.sizeOf3
 v3:=Tryd.zeroValue3
 t4:=Tryd.underlying4
 a4:=Tryd.isAgg4
 z4:=Tryd.sizeOf4
 v4:=Tryd.zeroValue4
 t5:=Tryd.underlying5
 a5:=Tryd.isAgg5
 z5:=Tryd.sizeOf5
 v5:=Tryd.zeroValue5
 t9:=Tryd.underlying9
 a9:=Tryd.isAgg9
 z9:=Tryd.sizeOf9
 v9:=Tryd.zeroValue9
 t46:=Tryd.underlying67
 a46:=Tryd.isAgg67
 z46:=Tryd.sizeOf67
 v46:=Tryd.zeroValue67
 t51:=Tryd.underlying127
 a51:=Tryd.isAgg127
 z51:=Tryd.sizeOf127
 v51:=Tryd.zeroValue127
 t146:=Tryd.underlying128
 a146:=Tryd.isAgg128
 z146:=Tryd.sizeOf128
 v146:=Tryd.zeroValue128
 g1:=by kernel_rfl }
def Tryd.lays29_ren:Go.Shelf.Ren:=⟨fun | 29=>71 | n=>n,fun | 22=>23 | 3=>3 | 4=>4 | 25=>67 | 54=>119 | 0=>0 | 5=>5 | n=>n,fun | 1=>0 | n=>n⟩
theorem Tryd.lays29:Go.Proofs.Lays7.n29 Tryd.prog Tryd.lays29_ren:={
 mixed:=by kernel_rfl
 f29:=Tryd.func71.trans (congrArg some (by kernel_rfl))
 t0:=Tryd.underlying0
 a0:=Tryd.isAgg0
 z0:=Tryd.sizeOf0
 v0:=Tryd.zeroValue0
 i0:=by kernel_rfl
 t3:=Tryd.underlying3
 a3:=Tryd.isAgg3
 z3:=Tryd.sizeOf3
 v3:=Tryd.zeroValue3
 i3:=by kernel_rfl
 t4:=Tryd.underlying4
 a4:=Tryd.isAgg4
 z4:=Tryd.sizeOf4
 v4:=Tryd.zeroValue4
 i4:=by kernel_rfl
 t5:=Tryd.underlying5
 a5:=Tryd.isAgg5
 z5:=Tryd.sizeOf5
 v5:=Tryd.zeroValue5
 i5:=by kernel_rfl
 t22:=Tryd.underlying23
 a22:=Tryd.isAgg23
 z22:=Tryd.sizeOf23
 v22:=Tryd.zeroValue23
 i22:=by kernel_rfl
 t25:=Tryd.underlying67
 a25:=Tryd.isAgg67
 z25:=Tryd.sizeOf67
 v25:=Tryd.zeroValue67
 i25:=by kernel_rfl
 t54:=Tryd.underlying119
 a54:=Tryd.isAgg119
 z54:=Tryd.sizeOf119
 g1:=by kernel_rfl }
end Go.Proofs
namespace Go.Eng
open Go.RowKit Go.Proofs
theorem spec_many {P:Program} {gl:Nat→AV} {f n:Nat} {c:Ctr} (h:∀(ti to_:List TV) (w:World) (R:Reach) (xs:List Value),(c ti).holds to_→RepT R w (ti.map TV.av) xs→(∀n,Rep R w (gl n) (.pointer (some ⟨n,0,none⟩))) →
  to_.length=n∧Calls P f ⟨xs⟩ w fun e w'=>∃rvs:List Value,e = .returned (if n=1 then rvs.headD undef else .tuple ⟨rvs⟩)∧Below w.heap.size w w'∧∀R w',RepT R w' (to_.map TV.av) rvs):SpecOK P gl f (Ctr.fs (c,{ nres:=n })):=by
 refine ⟨fun _ w R ins outs xs hG hR hgl ha=>?_,fun _ _ h=>by cases h⟩
 obtain ⟨ti,to_,rfl,rfl,hc⟩:=hG
 obtain ⟨hl,h⟩:=h ti to_ w R xs hc ha hgl
 refine h.mono ?_
 rintro e w' ⟨rvs,rfl,hb,hx⟩
 refine ⟨_,R,rfl,below_ext hR hb,fun b o hr=>Nat.lt_of_lt_of_le (hR b o hr) hb.size,?_⟩
 have hl2:rvs.length=n:=by
  have:=(hx R w').length
  simpa [hl] using this.symm
 refine ⟨rvs,[],[],[],0,0,[],[],hl2,rfl,by simp [hl,Ctr.fs],?_,fun j hj=>by simp [Ctr.fs] at hj,fun j hj=>by simp [Ctr.fs] at hj,rfl,rfl,rfl,?_,?_,?_,?_,?_,?_⟩
 ·have e:(List.mapIdx (fun i y=>if (Ctr.fs (c,{ nres:=n })).sg.new=some i then AV.pt else y) ((to_.map TV.av).take (Ctr.fs (c,{ nres:=n })).sg.nres))=to_.map TV.av:=by
   have e1:(to_.map TV.av).take (Ctr.fs (c,{ nres:=n })).sg.nres=to_.map TV.av:=List.take_of_length_le (by rw [List.length_map,hl];exact Nat.le_refl _)
   rw [e1]
   show List.mapIdx (fun _ y=>y) (to_.map TV.av)=to_.map TV.av
   exact List.ext_getElem? fun i=>by rw [List.getElem?_mapIdx];cases (to_.map TV.av)[i]? <;> rfl
  rw [e];exact hx R w'
 all_goals intros
 all_goals simp_all [Ctr.fs,owners]
theorem rep_s2 {R:Reach} {w:World} {a b:Str} {xs:List Value} (h:RepT R w (([.s a,.s b]:List TV).map TV.av) xs):xs=[.string ⟨a.toArray⟩,.string ⟨b.toArray⟩]:=by
 have h:RepT R w [.v (.string ⟨⟨a⟩⟩),.v (.string ⟨⟨b⟩⟩)] xs:=h
 cases h with
 | cons x y =>
  cases x
  cases y with
  | cons x y=>cases x;cases y;rfl
theorem rep_s1 {R:Reach} {w:World} {a:Str}:Rep R w (TV.s a).av (.string ⟨a.toArray⟩):=by
 have:Rep R w (.v (.string ⟨⟨a⟩⟩)) (.string ⟨a.toArray⟩) := .v _
 exact this
theorem rep_i {R:Reach} {w:World} {n:Int}:Rep R w (TV.i .i64 n).av (.int .i64 n):=by
 have:Rep R w (.v (.int .i64 n)) (.int .i64 n) := .v _
 exact this
theorem rep_b {R:Reach} {w:World} {b:Bool}:Rep R w (TV.b b).av (.bool b):=by
 have:Rep R w (.v (.bool b)) (.bool b) := .v _
 exact this
theorem ascii_all {c:Str} (h:c.all (fun b=>decide (b.toNat<128))=true):∀(j:Nat) b,(⟨c.toArray⟩:ByteArray).data.toList[j]?=some b→b.toNat<128:=fun j b hb=>of_decide_eq_true (List.all_eq_true.1 h b (List.mem_of_getElem? (by simpa using hb)))
theorem trim_pre {s c:Str} (h:(decide (s.length≤1099511627776∧c.length≤100)&&c.all (fun b=>decide (b.toNat<128)))=true):(⟨s.toArray⟩:ByteArray).size≤9223372036854775807∧(⟨c.toArray⟩:ByteArray).size<4294967281∧c.all (fun b=>decide (b.toNat<128))=true:=by
 simp only [Bool.and_eq_true,decide_eq_true_eq] at h
 refine ⟨?_,?_,by simpa using h.2⟩
 ·show s.toArray.size≤_
  rw [List.size_toArray];omega
 ·show c.toArray.size<_
  rw [List.size_toArray];omega
theorem st_Trim.ok:KO 15 (st_Trim.c) st_Trim.sg:=by
 refine spec_many fun ti to_ w R xs hc ha hG=>?_
 unfold st_Trim.c at hc
 split at hc
 ·rename_i s c
  obtain ⟨hp,rfl⟩:=hc
  rw [rep_s2 ha]
  obtain ⟨p1,p2,p3⟩:=trim_pre hp
  refine ⟨rfl,(Go.Proofs.Any.strings_Trim_laid Tryd.lays160 (by kernel_rfl) _ _ w p1 p2 (ascii_all p3)).mono ?_⟩
  rintro e w' ⟨rfl,hb⟩
  exact ⟨[_],rfl,hb,fun R w' => .cons rep_s1 .nil⟩
 ·exact hc.elim
theorem st_TrimLeft.ok:KO 16 (st_TrimLeft.c) st_TrimLeft.sg:=by
 refine spec_many fun ti to_ w R xs hc ha hG=>?_
 unfold st_TrimLeft.c at hc
 split at hc
 ·rename_i s c
  obtain ⟨hp,rfl⟩:=hc
  rw [rep_s2 ha]
  obtain ⟨p1,p2,p3⟩:=trim_pre hp
  refine ⟨rfl,(Go.Proofs.Any.strings_TrimLeft_laid Tryd.lays161 (by kernel_rfl) _ _ w p2 (ascii_all p3)).mono ?_⟩
  rintro e w' ⟨rfl,hb⟩
  exact ⟨[_],rfl,hb,fun R w' => .cons rep_s1 .nil⟩
 ·exact hc.elim
theorem st_TrimRight.ok:KO 17 (st_TrimRight.c) st_TrimRight.sg:=by
 refine spec_many fun ti to_ w R xs hc ha hG=>?_
 unfold st_TrimRight.c at hc
 split at hc
 ·rename_i s c
  obtain ⟨hp,rfl⟩:=hc
  rw [rep_s2 ha]
  obtain ⟨p1,p2,p3⟩:=trim_pre hp
  refine ⟨rfl,(Go.Proofs.Any.strings_TrimRight_laid Tryd.lays162 (by kernel_rfl) _ _ w p1 p2 (ascii_all p3)).mono ?_⟩
  rintro e w' ⟨rfl,hb⟩
  exact ⟨[_],rfl,hb,fun R w' => .cons rep_s1 .nil⟩
 ·exact hc.elim
theorem trimPrefix_eq (s p:Str):Lib.trimPrefix s p=(if p.isPrefixOf s then s.drop p.length else s)∧Lib.hasPrefix s p=p.isPrefixOf s:=by
 unfold Lib.trimPrefix Lib.hasPrefix
 constructor
 ·split <;> simp_all
 ·rfl
theorem st_CutPrefix.ok:KO 27 (st_CutPrefix.c) st_CutPrefix.sg:=by
 refine spec_many fun ti to_ w R xs hc ha hG=>?_
 unfold st_CutPrefix.c at hc
 split at hc
 ·rename_i s c
  cases hc
  rw [rep_s2 ha]
  refine ⟨rfl,(Go.Proofs.Any.strings_CutPrefix Tryd.lays103 _ _ w).mono ?_⟩
  rintro e w' ⟨rfl,rfl⟩
  refine ⟨[_,_],rfl,Below.refl _ _,fun R w'=>?_⟩
  obtain ⟨e1,e2⟩:=trimPrefix_eq s c
  rw [←e1,←e2]
  exact .cons rep_s1 (.cons rep_b .nil)
 ·exact hc.elim
theorem st_IndexAny.ok:KO 28 (st_IndexAny.c) st_IndexAny.sg:=by
 refine spec_many fun ti to_ w R xs hc ha hG=>?_
 unfold st_IndexAny.c at hc
 split at hc
 ·rename_i s c
  obtain ⟨hp,rfl⟩:=hc
  rw [rep_s2 ha]
  simp only [Bool.and_eq_true,decide_eq_true_eq,List.all_append] at hp
  obtain ⟨⟨p1,p2⟩,p3,p4⟩:=hp
  refine ⟨rfl,(Go.Proofs.Any.strings_IndexAny_laid Tryd.lays153 (by kernel_rfl) _ _ w (by show s.toArray.size<_;rw [List.size_toArray];omega) (by show c.toArray.size<_;rw [List.size_toArray];omega) (ascii_all p3) (ascii_all p4)).mono ?_⟩
  rintro e w' ⟨rfl,hb⟩
  exact ⟨[_],rfl,hb,fun R w' => .cons rep_i .nil⟩
 ·exact hc.elim
theorem sl_Index.ok:KO 78 (sl_Index.c) sl_Index.sg:=by
 refine spec_many fun ti to_ w R xs hc ha hG=>?_
 unfold sl_Index.c at hc
 split at hc
 ·rename_i s c
  obtain ⟨hp,rfl⟩:=hc
  rw [rep_s2 ha]
  obtain ⟨p1,rfl⟩:=of_decide_eq_true hp
  refine ⟨rfl,(Go.Proofs.Any.stringslite_Index_one Tryd.lays219 _ 46 w).mono ?_⟩
  rintro e w' ⟨rfl,rfl⟩
  exact ⟨[_],rfl,Below.refl _ _,fun R w' => .cons rep_i .nil⟩
 ·exact hc.elim
theorem bits_TZ.ok:KO 71 (bits_TZ.c) bits_TZ.sg:=by
 refine spec_many fun ti to_ w R xs hc ha hG=>?_
 unfold bits_TZ.c at hc
 split at hc
 ·rename_i x
  cases hc
  have e:xs=[.int .u64 x.toNat]:=by
   have ha:RepT R w [.v (.int .u64 x.toNat)] xs:=ha
   cases ha with
   | cons a b=>cases a;cases b;rfl
  rw [e]
  have h0:Rep R w (.gv ((Lib.deBruijn64tab.map Int.ofNat).map fun z=>Value.int .u8 z)) (.pointer (some ⟨0,0,none⟩)):=hG 0
  refine ⟨rfl,(Go.Proofs.Any7.bits_TrailingZeros64 Tryd.lays29 x.toNat x.toNat_lt w fun _ j hj=>?_).mono ?_⟩
  ·cases h0 with
   | gv h1 h2 =>
    have:=h2 j
    rw [List.map_map,List.getElem?_map,List.getElem?_eq_getElem hj] at this
    rw [List.getD_eq_getElem?_getD,List.getElem?_eq_getElem hj]
    exact this
  ·rintro e w' ⟨rfl,rfl⟩
   exact ⟨[_],rfl,Below.refl _ _,fun R w' => .cons rep_i .nil⟩
 ·exact hc.elim
end Go.Eng
namespace Go.Eng
open Go.Proofs
theorem math_Trunc.fit (x:Nat) (hp:(Fl.num x)=true):([.c (.float .f64 x)]:List TV).length=math_Trunc.d.np∧math_Trunc.d.run (envL nrGl math_Trunc.env) [.c (.float .f64 x)]=some (([(.c (.float .f64 (Fl.trunc x)))]:List TV)++math_Trunc.d.lent.map fun q=>([.c (.float .f64 x)]:List TV).getD q.1 .dead) :=
 ⟨by kernel_rfl,Eq.trans (b:=math_Trunc.F x) (by kernel_rfl) (Eq.trans (math_Trunc.goal x hp) (by kernel_rfl))⟩
theorem math_Trunc.ok:KO 96 (math_Trunc.c) math_Trunc.sg :=
 meets (l:=math_Trunc.env) all_nil math_Trunc.chk (by
   intro ins outs h
   unfold math_Trunc.c at h
   split at h
   ·obtain ⟨hp,rfl⟩:=h;exact math_Trunc.fit _ hp
   ·exact h.elim)
end Go.Eng
namespace Go.Eng
open Go.RowKit Go.Proofs
set_option maxRecDepth 100000
set_option maxHeartbeats 1000000
theorem Fl.read_neg (a:Nat):Ieee.double.read (Fl.neg a)=(Ieee.double.read a).opposite:=by
 have e1:Fl.neg a % 2 ^ 63=a % 2 ^ 63:=by
  unfold Fl.neg
  rw [show 9223372036854775808=2 ^ 63 by decide,Nat.xor_mod_two_pow,Nat.mod_self,Nat.xor_zero]
 have e2:(Fl.neg a / 2 ^ 63 % 2 == 1)=!(a / 2 ^ 63 % 2 == 1):=by
  unfold Fl.neg
  rw [show 9223372036854775808=2 ^ 63 by decide,Nat.xor_div_two_pow,Nat.div_self (by decide)]
  have:=Nat.xor_mod_two_pow (a:=a / 2 ^ 63) (b:=1) (n:=1)
  rw [Nat.pow_one] at this
  rw [this]
  rcases Nat.mod_two_eq_zero_or_one (a / 2 ^ 63) with e | e <;> rw [e] <;> rfl
 have h:Ieee.double.signWeight=2 ^ 63:=rfl
 unfold Ieee.Format.read
 rw [h]
 simp only [e1,e2]
 split
 ·rfl
 ·split
  ·rfl
  ·split <;> rfl
theorem Fl.W.neg {a:Nat} {x:Int} (h:Fl.W a x):Fl.W (Fl.neg a) (-x):=by
 show Fl.WD (Ieee.double.read (Fl.neg a)) (-x)
 rw [Fl.read_neg]
 exact Fl.WD.opposite h
theorem wh_trunc {R:Reach} {w:World} {x:Nat} (hx:Fl.num x=true) (hR:∀b o,R b o→b<w.heap.size) (hG:∀n,Rep R w ((nrGl n).av) (.pointer (some ⟨n,0,none⟩))) :
  Calls Tryd.prog 96 #[.float .f64 x] w fun e w'=>e = .returned (.float .f64 (Fl.trunc x))∧Below w.heap.size w w':=by
 refine (math_Trunc.ok.1 rfl w R [.v (.float .f64 x)] [.v (.float .f64 (Fl.trunc x))] [.float .f64 x] ⟨[.c (.float .f64 x)],[.c (.float .f64 (Fl.trunc x))],rfl,rfl,?_⟩ hR hG (.cons (.v _) .nil)).mono ?_
 ·exact ⟨hx,rfl⟩
 ·rintro e w' ⟨y,R',rfl,hx,hr,ho⟩
  obtain ⟨rvs,tr,to_,tn,bn,br,cn,cr,h1,h2,h3,h4,_⟩:=ho
  refine ⟨?_,hx.os,hx.tape,hx.output,hx.size,fun k hk=>hx.heap k hk id⟩
  congr 1
  have h1:rvs.length=1:=h1
  match rvs,h1 with
  | [y],_ =>
   have h4:RepT R' w' [.v (.float .f64 (Fl.trunc x))] [y]:=h4
   cases h4 with
   | cons a b=>cases a;exact h2
theorem wh1 {R:Reach} (b:Nat) (x m:Nat) (X M:Int) (w:World) (hc:w.cell? ⟨b,0,none⟩=some (.float .f64 m)) (hX:Fl.W x X) (hM:Fl.W m M) (hXM:(X.natAbs:Int)≤M) (hB:M≤9007199254740992) (hR:∀b o,R b o→b<w.heap.size) (hG:∀n,Rep R w ((nrGl n).av) (.pointer (some ⟨n,0,none⟩))) :
  Calls Tryd.prog 98 #[.float .f64 x,.pointer (some ⟨b,0,none⟩)] w fun e w'=>e = .returned (.bool true)∧Below w.heap.size w w':=by
 have hn:∀w:World,(Op.unary .neg (.float .f64 m)).run Tryd.prog w = .ok (.float .f64 (Fl.neg m)) w:=fun w=>rfl
 have h1:FloatKind.f64.format.order x (Fl.neg m)=some .gt∨FloatKind.f64.format.order x (Fl.neg m)=some .eq:=by
  have e:FloatKind.f64.format.order x (Fl.neg m)=some (compare X (-M)):=Fl.order_whole hX hM.neg
  rw [e]
  rcases Int.lt_or_eq_of_le (show -M≤X by omega) with c | c
  ·rw [Int.compare_eq_gt.2 c];exact .inl rfl
  ·rw [←c,Int.compare_eq_eq.2 rfl];exact .inr rfl
 have h2:FloatKind.f64.format.order x m=some .lt∨FloatKind.f64.format.order x m=some .eq:=by
  have e:FloatKind.f64.format.order x m=some (compare X M):=Fl.order_whole hX hM
  rw [e]
  rcases Int.lt_or_eq_of_le (show X≤M by omega) with c | c
  ·rw [Int.compare_eq_lt.2 c];exact .inl rfl
  ·rw [←c,Int.compare_eq_eq.2 rfl];exact .inr rfl
 have h3:FloatKind.f64.format.order x (Fl.trunc x)=some .eq:=by
  have e:FloatKind.f64.format.order x (Fl.trunc x)=some (compare X X):=Fl.order_whole hX (hX.trunc (by omega))
  rw [e,Int.compare_eq_eq.2 rfl]
 go_enter Tryd.func98,Tryd.ntmps98
 rcases h1 with h1 | h1 <;> rcases h2 with h2 | h2
 all_goals
  go_wp2_with (go_at_call 96;refine (wh_trunc hX.num hR hG).mono ?_;rintro e w' ⟨rfl,hb⟩)
  go_ret
  exact ⟨rfl,hb⟩
theorem gl_below {R:Reach} {w w':World} (hR:∀b o,R b o→b<w.heap.size) (h:Below w.heap.size w w') (hG:∀n,Rep R w ((nrGl n).av) (.pointer (some ⟨n,0,none⟩))):∀n,Rep R w' ((nrGl n).av) (.pointer (some ⟨n,0,none⟩)) :=
 fun n=>Rep.mono (below_ext hR h).keep (hG n)
theorem wh2 {R:Reach} (z:Cx) (m:Nat) (X Y M:Int) (w:World) (hZ:Gz.Is z X Y) (hM:Fl.W m M) (hX:(X.natAbs:Int)≤M) (hY:(Y.natAbs:Int)≤M) (hB:M≤9007199254740992) (hR:∀b o,R b o→b<w.heap.size) (hG:∀n,Rep R w ((nrGl n).av) (.pointer (some ⟨n,0,none⟩))) :
  Calls Tryd.prog 86 #[.complex .f64 z.1 z.2,.float .f64 m] w fun e w'=>e = .returned (.bool true)∧Below w.heap.size w w':=by
 have hmf:∀(fn:Fn) (first cap:Array Value) (w:World),(Instr.makeFunc fn first cap).run Tryd.prog w = .ok (.func fn first cap) w:=fun _ _ _ _=>rfl
 have hb1:Below w.heap.size w (w.alloc (.cells #[.float .f64 m] 113)):=(Below.refl _ _).alloc (Nat.le_refl _) _
 have hc1:(w.alloc (.cells #[.float .f64 m] 113)).cell? ⟨w.heap.size,0,none⟩=some (.float .f64 m):=by
  rw [World.cell?_alloc_at _ _ _ _ rfl];rfl
 have hs1:(w.alloc (.cells #[.float .f64 m] 113)).heap.size=w.heap.size+1:=Array.size_push ..
 have hre:∀(a:Array TypeId) (b:TypeId) (p q:Nat) (w:World),(Builtin.real_ a b #[.complex .f64 p q]).run Tryd.prog w = .ok (.float .f64 p) w:=fun _ _ _ _ _=>rfl
 have him:∀(a:Array TypeId) (b:TypeId) (p q:Nat) (w:World),(Builtin.imag_ a b #[.complex .f64 p q]).run Tryd.prog w = .ok (.float .f64 q) w:=fun _ _ _ _ _=>rfl
 have hR1:∀b o,R b o→b<(w.alloc (.cells #[.float .f64 m] 113)).heap.size:=fun b o h=>by have:=hR b o h;omega
 go_enter Tryd.func86,Tryd.ntmps86
 have hG1:=gl_below hR hb1 hG
 go_wp2_with (go_at_call 98;refine (wh1 (R:=R) w.heap.size z.1 m X M (w.alloc (.cells #[.float .f64 m] 113)) hc1 hZ.1 hM hX hB hR1 hG1).mono ?hk1;rintro e w2 ⟨rfl,hb2⟩)
 have hc2:w2.cell? ⟨w.heap.size,0,none⟩=some (.float .f64 m):=by
  simp only [World.cell?,hb2.block w.heap.size (by omega)]
  exact hc1
 have hR2:∀b o,R b o→b<w2.heap.size:=fun b o h=>Nat.lt_of_lt_of_le (hR1 b o h) hb2.size
 refine (wh1 (R:=R) w.heap.size z.2 m Y M w2 hc2 hZ.2 hM hY hB hR2 (gl_below hR1 hb2 hG1)).mono ?_
 rintro e w3 ⟨rfl,hb3⟩
 go_wp2
 go_ret
 refine ⟨rfl,?_⟩
 exact ⟨hb3.os.trans (hb2.os.trans hb1.os),hb3.tape.trans (hb2.tape.trans hb1.tape),hb3.output.trans (hb2.output.trans hb1.output),by have:=hb3.size;have:=hb2.size;omega,fun k hk=>(hb3.block k (by have:=hb2.size;omega)).trans ((hb2.block k (by omega)).trans (hb1.block k hk))⟩
theorem gz_whole.ok:KO 86 (gz_whole.c) gz_whole.sg:=by
 refine spec_plain fun ti to_ w R xs hc ha hR hG=>?_
 unfold gz_whole.c at hc
 split at hc
 ·rename_i p q m
  obtain ⟨hp,rfl⟩:=hc
  have e:xs=[.complex .f64 p q,.float .f64 m]:=by
   have ha:RepT R w [.v (.complex .f64 p q),.v (.float .f64 m)] xs:=ha
   cases ha with
   | cons a b =>
    cases a
    cases b with
    | cons a b=>cases a;cases b;rfl
  subst e
  unfold Gz.inM at hp
  classical
  obtain ⟨X,Y,M,h1,h2,h3,h4,h5⟩:=of_decide_eq_true hp
  refine (wh2 (p,q) m X Y M w h1 h2 h3 h4 h5 hR hG).mono ?_
  rintro e w' ⟨rfl,hb⟩
  exact ⟨_,rfl,hb,fun R w' => .cons rep_b .nil⟩
 ·exact hc.elim
end Go.Eng
namespace Go.Eng
open Go.IntWalk
theorem r9_Join.l3_ok (n:Bool) (q k:Nat) (e:Int) (hk:e+1074=k) (hL:Nt.bits (2 * q+1)≤53) (he:e≤2000):∀(d j:Nat),d+j=min (53 - Nt.bits (2 * q+1)) k→∀(m:UInt64) (ej:Int),m.toNat=(2 * q+1) * 2 ^ j→ej=e - j →
  r9_Join.l3 m ej (sgn n)=if 2098<k+Nt.bits (2 * q+1) then some [.u64 0,.b false] else some [.u64 (UInt64.ofNat (Nr.enc (2 * q+1) k+(sgn n).toNat)),.b true]:=by
 obtain ⟨_,_,hL0⟩:=Nt.bits_pos (n:=2 * q+1) (by omega)
 generalize hLL:Nt.bits (2 * q+1)=L at *
 intro d
 induction d with
 | zero =>
  intro j hj m ej hm hej
  refine r9_Join.l3_in _ _ _ ?_
  intro v1 h1 v2 h2 v3 h3 v4 h4 v5 h5
  obtain ⟨b1,b2⟩:=Nr.bits_mul (m':=2 * q+1) (by omega) j
  rw [hLL,←hm] at b1 b2
  have hcc:∀b:Bool,(!b || b)=true:=by decide
  have hlt52:decide (m<(4503599627370496:UInt64))=decide (k<53 - L):=by
   by_cases c:k<53 - L
   ·rw [decide_eq_true c,decide_eq_true (UInt64.lt_iff_toNat_lt.2 ?_)]
    refine Nat.lt_of_lt_of_le b2 ?_
    show _≤2 ^ 52
    exact Nat.pow_le_pow_right (by omega) (by omega)
   ·rw [decide_eq_false c,decide_eq_false (fun h=>?_)]
    have:=UInt64.lt_iff_toNat_lt.1 h
    have h3:2 ^ 52≤2 ^ (L - 1+j):=Nat.pow_le_pow_right (by omega) (by omega)
    have h4:m.toNat<2 ^ 52:=this
    omega
  have e1:v1=false:=by
   rw [h1,hlt52]
   by_cases c:k<53 - L
   ·rw [decide_eq_true c,cond_true];exact decide_eq_false (by omega)
   ·rw [decide_eq_false c,cond_false]
  rw [ck_of (hcc _),ck_of (hcc _),e1,cond_false]
  by_cases c0:2098<k+L
  ·rw [decide_eq_true (show (971:Int)<ej by omega),cond_true,if_pos c0]
  ·rw [decide_eq_false (show ¬(971:Int)<ej by omega),cond_false,if_neg c0,hlt52]
   obtain ⟨t1,t2⟩:=Nr.enc_ok (m':=2 * q+1) (k:=k) (by omega) (by omega) (by omega)
   have t3:=Nr.enc_lt _ _ t1
   by_cases c:k<53 - L
   ·obtain rfl:j=k:=by omega
    have he9:Nr.enc (2 * q+1) j=(2 * q+1) * 2 ^ j:=by unfold Nr.enc;rw [if_pos (by omega)]
    rw [decide_eq_true c,cond_true]
    have:sgn n+m=UInt64.ofNat (Nr.enc (2 * q+1) j+(sgn n).toNat):=by
     apply u64_eq
     rw [UInt64.toNat_add,hm,he9,u64_of,sgn_toNat];omega
    rw [this]
   ·obtain rfl:j=53 - L:=by omega
    have he9:Nr.enc (2 * q+1) k=(k - (53 - L)+1) * 4503599627370496+((2 * q+1) * 2 ^ (53 - L) - 4503599627370496):=by unfold Nr.enc;rw [if_neg (by omega),hLL]
    rw [decide_eq_false c,cond_false]
    have e3:v3=((k - (53 - L)+1:Nat):Int):=by rw [h3,hej,i64_in _ (by omega)];omega
    have e4:v4.toNat=(k - (53 - L)+1) * 4503599627370496:=by
     rw [h4,shl64_toNat,e3,u64_nat]
     show (k - (53 - L)+1) % 18446744073709551616 * 4503599627370496 % 18446744073709551616=_
     omega
    have h53:2 ^ 52≤m.toNat:=Nat.le_trans (Nat.pow_le_pow_right (by omega) (by omega)) b1
    have h53':(4503599627370496:Nat)≤m.toNat:=h53
    have hm2:m.toNat<2 ^ 53:=Nat.lt_of_lt_of_le b2 (Nat.pow_le_pow_right (by omega) (by omega))
    have hm2':m.toNat<9007199254740992:=hm2
    have:v5=UInt64.ofNat (Nr.enc (2 * q+1) k+(sgn n).toNat):=by
     apply u64_eq
     rw [←hm] at he9
     have hs:=(sgn n).toNat_lt
     rw [h5,UInt64.toNat_sub,UInt64.toNat_add,UInt64.toNat_add,e4,u64_of,he9]
     show (18446744073709551616 - 4503599627370496+((((sgn n).toNat+_) % 18446744073709551616+m.toNat) % 18446744073709551616)) % 18446744073709551616=_
     omega
    rw [this]
 | succ d ih =>
  intro j hj m ej hm hej
  refine r9_Join.l3_in _ _ _ ?_
  intro v1 h1 v2 h2 v3 h3 v4 h4 v5 h5
  obtain ⟨b1,b2⟩:=Nr.bits_mul (m':=2 * q+1) (by omega) j
  rw [hLL,←hm] at b1 b2
  have hcc:∀b:Bool,(!b || b)=true:=by decide
  have hlt:m.toNat<2 ^ 52:=Nat.lt_of_lt_of_le b2 (Nat.pow_le_pow_right (by omega) (by omega))
  have hlt':m.toNat<4503599627370496:=hlt
  have e1:v1=true:=by
   rw [h1,decide_eq_true (UInt64.lt_iff_toNat_lt.2 hlt),cond_true];exact decide_eq_true (by omega)
  have e2:v2=e - ((j+1:Nat):Int):=by rw [h2,hej,i64_in _ (by omega)];omega
  have em:(m * 2).toNat=(2 * q+1) * 2 ^ (j+1):=by
   have e3:(m * 2).toNat=m.toNat * 2 % 18446744073709551616:=UInt64.toNat_mul ..
   rw [e3,Nat.pow_succ,←Nat.mul_assoc,←hm]
   omega
  rw [ck_of (hcc _),ck_of (hcc _),e1,cond_true]
  exact ih (j+1) (by omega) _ _ em e2
theorem r9_Join.l2_ok (n:Bool) (q:Nat):∀(z:Nat) (m:UInt64) (e:Int),z≤63→m.toNat=(2 * q+1) * 2 ^ z→-1138≤e→e+z≤1100 →
  r9_Join.l2 m e (sgn n)=some [.u64 (Nr.pat (Nr.join n m.toNat e)),.b (Nr.join n m.toNat e).isSome]:=by
 have hcc:∀b:Bool,(!(!b) || !b)=true∧(b || !b)=true:=by decide
 intro z
 induction z with
 | zero =>
  intro m e _ hm he1 he2
  refine r9_Join.l2_in _ _ _ ?_
  intro v1 h1 v2 h2
  rw [Nat.pow_zero,Nat.mul_one] at hm
  have e0:decide (m % 2=0)=false:=decide_eq_false (fun h=>by
   have:=congrArg UInt64.toNat h
   rw [UInt64.toNat_mod,hm] at this
   have e2:(2:UInt64).toNat=2:=rfl
   have e0:(0:UInt64).toNat=0:=rfl
   rw [e2,e0] at this
   omega)
  have e2:v2=decide (53<Nt.bits (2 * q+1)∨e < -1074):=by
   have:decide ((9007199254740992:UInt64)≤m)=decide (53<Nt.bits (2 * q+1)):=by
    by_cases c:53<Nt.bits (2 * q+1)
    ·rw [decide_eq_true c,decide_eq_true (UInt64.le_iff_toNat_le.2 ?_)]
     obtain ⟨b1,_,_⟩:=Nt.bits_pos (n:=2 * q+1) (by omega)
     rw [hm]
     exact Nat.le_trans (Nat.pow_le_pow_right (n:=2) (i:=53) (by omega) (by omega)) b1
    ·rw [decide_eq_false c,decide_eq_false (fun h=>?_)]
     have h:=UInt64.le_iff_toNat_le.1 h
     rw [hm] at h
     obtain ⟨_,b1,_⟩:=Nt.bits_pos (n:=2 * q+1) (by omega)
     have h2:2 ^ Nt.bits (2 * q+1)≤2 ^ 53:=Nat.pow_le_pow_right (by omega) (by omega)
     have h3:2 ^ 53≤2 * q+1:=h
     omega
   rw [h2,this,Bool.decide_or];cases decide (53<Nt.bits (2 * q+1)) <;> rfl
  rw [ck_of (by rfl),e0,cond_false,ck_of (hcc _).1,ck_of (hcc _).2,e2]
  have hm1:m.toNat=(2 * q+1) * 2 ^ 0:=by rw [hm];omega
  by_cases c:53<Nt.bits (2 * q+1)∨e < -1074
  ·rw [decide_eq_true c,cond_true,Nr.join_not (m':=2 * q+1) (n:=0) n hm1 (by omega) (by omega)];rfl
  ·rw [decide_eq_false c,cond_false]
   obtain ⟨k,hk⟩:=Int.eq_ofNat_of_zero_le (show 0≤e+1074 by omega)
   rw [r9_Join.l3_ok n q k e hk (by omega) (by omega) (min (53 - Nt.bits (2 * q+1)) k) 0 (by omega) m e hm1 (by omega)]
   by_cases d:2098<k+Nt.bits (2 * q+1)
   ·rw [if_pos d,Nr.join_not (m':=2 * q+1) (n:=0) n hm1 (by omega) (by omega)];rfl
   ·obtain ⟨t1,t2⟩:=Nr.enc_ok (m':=2 * q+1) (k:=k) (by omega) (by omega) (by omega)
    rw [if_neg d,Nr.join_enc (m':=2 * q+1) (n:=0) (k:=k) n hm1 (by omega) (by omega) (by omega) (by omega),pat_some _ _ (Nr.enc_lt _ _ t1)];rfl
 | succ z ih =>
  intro m e hz hm he1 he2
  refine r9_Join.l2_in _ _ _ ?_
  intro v1 h1 v2 h2
  rw [Nat.pow_succ,←Nat.mul_assoc] at hm
  have e0:decide (m % 2=0)=true:=decide_eq_true (u64_eq (by
   rw [UInt64.toNat_mod,hm]
   show _ % 2=0
   omega))
  have ed:(m / 2).toNat=(2 * q+1) * 2 ^ z:=by
   rw [UInt64.toNat_div,hm]
   show _ / 2=_
   omega
  have e1:v1=e+1:=by rw [h1,i64_in _ (by omega)]
  rw [ck_of (by rfl),e0,cond_true,ck_of (by rfl),ih _ _ (by omega) ed (by omega) (by omega),e1]
  have hj:Nr.join n (m / 2).toNat (e+1)=Nr.join n m.toNat e:=by
   have:∀p,(Nr.V p * 2 ^ (-(e+1+1074)).toNat=(m / 2).toNat * 2 ^ (e+1+1074).toNat) ↔ (Nr.V p * 2 ^ (-(e+1074)).toNat=m.toNat * 2 ^ (e+1074).toNat):=fun p=>by
    have em:m.toNat=(m / 2).toNat * 2:=by rw [ed,hm]
    rw [em]
    by_cases c:0≤e+1074
    ·rw [show (-(e+1+1074)).toNat=0 by omega,show (-(e+1074)).toNat=0 by omega,show (e+1+1074).toNat=(e+1074).toNat+1 by omega,Nat.pow_succ,Nat.mul_comm (2 ^ _) 2,←Nat.mul_assoc]
    ·rw [show (-(e+1074)).toNat=(-(e+1+1074)).toNat+1 by omega,show (e+1+1074).toNat=0 by omega,show (e+1074).toNat=0 by omega,Nat.pow_succ,←Nat.mul_assoc]
     omega
   by_cases hx:∃p,p≤Nr.top∧Nr.V p * 2 ^ (-(e+1074)).toNat=m.toNat * 2 ^ (e+1074).toNat
   ·obtain ⟨p,p1,p2⟩:=hx
    rw [Nr.join_some n p1 p2,Nr.join_some n p1 ((this p).2 p2)]
   ·rw [Nr.join_none n (fun p p1 p2=>hx ⟨p,p1,p2⟩),Nr.join_none n (fun p p1 p2=>hx ⟨p,p1,(this p).1 p2⟩)]
  rw [hj]
theorem odd_part {m:Nat} (h0:0<m) (h:m<18446744073709551616):∃q z,m=(2 * q+1) * 2 ^ z∧z≤63:=by
 obtain ⟨q,hq,hz⟩:=Lib.ctzFrom_spec 64 m h0 h
 exact ⟨q,_,by rw [Nat.mul_comm];exact hq,by omega⟩
theorem r9_Join.j1_ok (n:Bool) (m:UInt64) (e:Int):r9_Join.j1 m e (sgn n)=some [.u64 (Nr.pat (Nr.join n m.toNat e)),.b (Nr.join n m.toNat e).isSome]:=by
 refine r9_Join.j1_in _ _ _ ?_
 intro v1 h1
 have hcc:∀b:Bool,(!(!b) || !b)=true∧(b || !b)=true:=by decide
 by_cases c0:m=0
 ·subst c0
  rw [decide_eq_true rfl,cond_true]
  have:(0:UInt64).toNat=0:=rfl
  rw [this,Nr.join_0,pat_some _ _ (by omega)]
  congr 2
  cases n <;> rfl
 ·have hm0:0<m.toNat:=by
   have:m.toNat≠0:=fun h=>c0 (u64_eq h)
   omega
  have hlt:=m.toNat_lt
  obtain ⟨q,z,hm,hz⟩:=odd_part hm0 hlt
  have e1:v1=decide (e < -1138∨1023<e):=by
   rw [h1,Bool.decide_or];cases decide (e < -1138) <;> rfl
  rw [decide_eq_false c0,cond_false,ck_of (hcc _).1,ck_of (hcc _).2,e1]
  by_cases c:e < -1138∨1023<e
  ·obtain ⟨_,_,hL0⟩:=Nt.bits_pos (n:=2 * q+1) (by omega)
   rw [decide_eq_true c,cond_true,Nr.join_not (m':=2 * q+1) (n:=z) n hm (by omega) (by omega)];rfl
  ·rw [decide_eq_false c,cond_false]
   exact r9_Join.l2_ok n q z m e hz hm (by omega) (by omega)
theorem r9_Join.goal (n:Bool) (m:UInt64) (e:Int):r9_Join.F n m e=some [.u64 (Nr.pat (Nr.join n m.toNat e)),.b (Nr.join n m.toNat e).isSome]:=by
 rw [r9_Join.F_eq]
 cases n
 ·exact r9_Join.j1_ok false m e
 ·exact r9_Join.j1_ok true m e
theorem r9_OfInt.goal (v:Int) (hp:Nr.i64 v=true):r9_OfInt.F v=some [.u64 (Nr.pat (Nr.ofInt v)),.b (Nr.ofInt v).isSome]:=by
 rw [Nr.ofInt_eq]
 replace hp:=Nr.i64_of hp
 obtain ⟨p1,p2⟩:=of_decide_eq_true hp
 refine r9_OfInt.F_in _ ?_
 intro v1 h1 v2 h2 v3 h3 v4 h4 v5 h5 v6 h6
 by_cases c:v<0
 ·have e1:v1=v+1:=by rw [h1,i64_in _ (by omega)]
  have e2:(v2+1).toNat=v.natAbs:=by
   have e:IntKind.i64.wrap (0 - v1)=((v.natAbs - 1:Nat):Int):=by rw [e1,i64_in _ (by omega)];omega
   rw [UInt64.toNat_add,h2,e,u64_nat]
   show ((v.natAbs - 1) % 18446744073709551616+1) % 18446744073709551616=_
   omega
  rw [e2] at h3 h4
  rw [decide_eq_true c,cond_true,h3,h4]
 ·have e4:(UInt64.ofInt v).toNat=v.natAbs:=by
   obtain ⟨n,rfl⟩:=Int.eq_ofNat_of_zero_le (show 0≤v by omega)
   rw [u64_nat];omega
  rw [e4] at h5 h6
  rw [decide_eq_false c,cond_false,h5,h6]
end Go.Eng
namespace Go.Eng
open Go.Proofs
theorem bits_Len16.fit (x:UInt16):([.u16 x]:List TV).length=bits_Len16.d.np∧bits_Len16.d.run (envL nrGl bits_Len16.env) [.u16 x]=some (([(.i .i64 ((Nt.bits (x).toNat:Int)))]:List TV)++bits_Len16.d.lent.map fun q=>([.u16 x]:List TV).getD q.1 .dead) :=
 ⟨by kernel_rfl,Eq.trans (b:=bits_Len16.F x) (by kernel_rfl) (Eq.trans (bits_Len16.goal x) (by kernel_rfl))⟩
theorem bits_Len16.ok:KO 66 (bits_Len16.c) bits_Len16.sg :=
 meets (l:=bits_Len16.env) all_nil bits_Len16.chk (by
   intro ins outs h
   unfold bits_Len16.c at h
   split at h
   ·cases h;exact bits_Len16.fit _
   ·exact h.elim)
theorem bits_Len64.fit (x:UInt64):([.u64 x]:List TV).length=bits_Len64.d.np∧bits_Len64.d.run (envL nrGl bits_Len64.env) [.u64 x]=some (([(.i .i64 ((Nt.bits (x).toNat:Int)))]:List TV)++bits_Len64.d.lent.map fun q=>([.u64 x]:List TV).getD q.1 .dead) :=
 ⟨by kernel_rfl,Eq.trans (b:=bits_Len64.F x) (by kernel_rfl) (Eq.trans (bits_Len64.goal x) (by kernel_rfl))⟩
theorem bits_Len64.ok:KO 72 (bits_Len64.c) bits_Len64.sg :=
 meets (l:=bits_Len64.env) all_nil bits_Len64.chk (by
   intro ins outs h
   unfold bits_Len64.c at h
   split at h
   ·cases h;exact bits_Len64.fit _
   ·exact h.elim)
theorem sl_Cut.fit (s:Str) (c:Str) (hp:(decide ((s).length≤4294967280∧c=[46]))=true):([.s s,.s c]:List TV).length=sl_Cut.d.np∧sl_Cut.d.run (envL nrGl sl_Cut.env) [.s s,.s c]=some (([(.s (((s).takeWhile (· != 46)))),(.s ((((s).dropWhile (· != 46)).drop 1))),(.b (((s).contains 46)))]:List TV)++sl_Cut.d.lent.map fun q=>([.s s,.s c]:List TV).getD q.1 .dead) :=
 ⟨by kernel_rfl,Eq.trans (b:=sl_Cut.F s c) (by kernel_rfl) (Eq.trans (sl_Cut.goal s c hp) (by kernel_rfl))⟩
theorem sl_Cut.ok:KO 56 (sl_Cut.c) sl_Cut.sg :=
 meets (l:=sl_Cut.env) (all_cons sl_Index.ok all_nil) sl_Cut.chk (by
   intro ins outs h
   unfold sl_Cut.c at h
   split at h
   ·obtain ⟨hp,rfl⟩:=h;exact sl_Cut.fit _ _ hp
   ·exact h.elim)
theorem st_Cut.fit (s:Str) (c:Str) (hp:(decide ((s).length≤4294967280∧c=[46]))=true):([.s s,.s c]:List TV).length=st_Cut.d.np∧st_Cut.d.run (envL nrGl st_Cut.env) [.s s,.s c]=some (([(.s (((s).takeWhile (· != 46)))),(.s ((((s).dropWhile (· != 46)).drop 1))),(.b (((s).contains 46)))]:List TV)++st_Cut.d.lent.map fun q=>([.s s,.s c]:List TV).getD q.1 .dead) :=
 ⟨by kernel_rfl,Eq.trans (b:=st_Cut.F s c) (by kernel_rfl) (Eq.trans (st_Cut.goal s c hp) (by kernel_rfl))⟩
theorem st_Cut.ok:KO 30 (st_Cut.c) st_Cut.sg :=
 meets (l:=st_Cut.env) (all_cons sl_Cut.ok all_nil) st_Cut.chk (by
   intro ins outs h
   unfold st_Cut.c at h
   split at h
   ·obtain ⟨hp,rfl⟩:=h;exact st_Cut.fit _ _ hp
   ·exact h.elim)
theorem gz_small.fit (z_1:Nat) (z_2:Nat) (hp:(Gz.inB ((z_1,z_2):Cx) 33554432)=true):([.c (.complex .f64 z_1 z_2)]:List TV).length=gz_small.d.np∧gz_small.d.run (envL nrGl gz_small.env) [.c (.complex .f64 z_1 z_2)]=some (([(.b (true))]:List TV)++gz_small.d.lent.map fun q=>([.c (.complex .f64 z_1 z_2)]:List TV).getD q.1 .dead) :=
 ⟨by kernel_rfl,Eq.trans (b:=gz_small.F ((z_1,z_2):Cx)) (by kernel_rfl) (Eq.trans (gz_small.goal ((z_1,z_2):Cx) hp) (by kernel_rfl))⟩
theorem gz_small.ok:KO 83 (gz_small.c) gz_small.sg :=
 meets (l:=gz_small.env) (all_cons gz_whole.ok all_nil) gz_small.chk (by
   intro ins outs h
   unfold gz_small.c at h
   split at h
   ·obtain ⟨hp,rfl⟩:=h;exact gz_small.fit _ _ hp
   ·exact h.elim)
theorem gz_Of.fit (x:Int) (y:Int) (hp:(decide (-33554432≤x∧x≤33554432∧-33554432≤y∧y≤33554432))=true):([.i .i64 x,.i .i64 y]:List TV).length=gz_Of.d.np∧gz_Of.d.run (envL nrGl gz_Of.env) [.i .i64 x,.i .i64 y]=some (([(.c (.complex .f64 (((Fl.ofInt x,Fl.ofInt y):Cx)).1 (((Fl.ofInt x,Fl.ofInt y):Cx)).2))]:List TV)++gz_Of.d.lent.map fun q=>([.i .i64 x,.i .i64 y]:List TV).getD q.1 .dead) :=
 ⟨by kernel_rfl,Eq.trans (b:=gz_Of.F x y) (by kernel_rfl) (Eq.trans (gz_Of.goal x y hp) (by kernel_rfl))⟩
theorem gz_Of.ok:KO 81 (gz_Of.c) gz_Of.sg :=
 meets (l:=gz_Of.env) all_nil gz_Of.chk (by
   intro ins outs h
   unfold gz_Of.c at h
   split at h
   ·obtain ⟨hp,rfl⟩:=h;exact gz_Of.fit _ _ hp
   ·exact h.elim)
theorem gz_Parts.fit (z_1:Nat) (z_2:Nat) (hp:(Gz.inB ((z_1,z_2):Cx) 4503599627370496)=true):([.c (.complex .f64 z_1 z_2)]:List TV).length=gz_Parts.d.np∧gz_Parts.d.run (envL nrGl gz_Parts.env) [.c (.complex .f64 z_1 z_2)]=some (([(.i .i64 (Fl.toInt (((z_1,z_2):Cx)).1)),(.i .i64 (Fl.toInt (((z_1,z_2):Cx)).2)),(.b (true))]:List TV)++gz_Parts.d.lent.map fun q=>([.c (.complex .f64 z_1 z_2)]:List TV).getD q.1 .dead) :=
 ⟨by kernel_rfl,Eq.trans (b:=gz_Parts.F ((z_1,z_2):Cx)) (by kernel_rfl) (Eq.trans (gz_Parts.goal ((z_1,z_2):Cx) hp) (by kernel_rfl))⟩
theorem gz_Parts.ok:KO 65 (gz_Parts.c) gz_Parts.sg :=
 meets (l:=gz_Parts.env) (all_cons gz_whole.ok all_nil) gz_Parts.chk (by
   intro ins outs h
   unfold gz_Parts.c at h
   split at h
   ·obtain ⟨hp,rfl⟩:=h;exact gz_Parts.fit _ _ hp
   ·exact h.elim)
theorem gz_Turn.fit (z_1:Nat) (z_2:Nat) (k:Int) (hp:(Gz.inB ((z_1,z_2):Cx) 1125899906842624&&decide (-100≤k∧k≤100))=true):([.c (.complex .f64 z_1 z_2),.i .i64 k]:List TV).length=gz_Turn.d.np∧gz_Turn.d.run (envL nrGl gz_Turn.env) [.c (.complex .f64 z_1 z_2),.i .i64 k]=some (([(.c (.complex .f64 (Gz.turn ((z_1,z_2):Cx) k).1 (Gz.turn ((z_1,z_2):Cx) k).2))]:List TV)++gz_Turn.d.lent.map fun q=>([.c (.complex .f64 z_1 z_2),.i .i64 k]:List TV).getD q.1 .dead) :=
 ⟨by kernel_rfl,Eq.trans (b:=gz_Turn.F ((z_1,z_2):Cx) k) (by kernel_rfl) (Eq.trans (gz_Turn.goal ((z_1,z_2):Cx) k hp) (by kernel_rfl))⟩
theorem gz_Turn.ok:KO 97 (gz_Turn.c) gz_Turn.sg :=
 meets (l:=gz_Turn.env) (all_cons gz_whole.ok all_nil) gz_Turn.chk (by
   intro ins outs h
   unfold gz_Turn.c at h
   split at h
   ·obtain ⟨hp,rfl⟩:=h;exact gz_Turn.fit _ _ _ hp
   ·exact h.elim)
theorem gz_Times.fit (z_1:Nat) (z_2:Nat) (w_1:Nat) (w_2:Nat) (hp:(Gz.inB ((z_1,z_2):Cx) 33554432&&Gz.inB ((w_1,w_2):Cx) 33554432)=true):([.c (.complex .f64 z_1 z_2),.c (.complex .f64 w_1 w_2)]:List TV).length=gz_Times.d.np∧gz_Times.d.run (envL nrGl gz_Times.env) [.c (.complex .f64 z_1 z_2),.c (.complex .f64 w_1 w_2)]=some (([(.c (.complex .f64 (Gz.mul ((z_1,z_2):Cx) ((w_1,w_2):Cx)).1 (Gz.mul ((z_1,z_2):Cx) ((w_1,w_2):Cx)).2))]:List TV)++gz_Times.d.lent.map fun q=>([.c (.complex .f64 z_1 z_2),.c (.complex .f64 w_1 w_2)]:List TV).getD q.1 .dead) :=
 ⟨by kernel_rfl,Eq.trans (b:=gz_Times.F ((z_1,z_2):Cx) ((w_1,w_2):Cx)) (by kernel_rfl) (Eq.trans (gz_Times.goal ((z_1,z_2):Cx) ((w_1,w_2):Cx) hp) (by kernel_rfl))⟩
theorem gz_Times.ok:KO 63 (gz_Times.c) gz_Times.sg :=
 meets (l:=gz_Times.env) (all_cons gz_small.ok all_nil) gz_Times.chk (by
   intro ins outs h
   unfold gz_Times.c at h
   split at h
   ·obtain ⟨hp,rfl⟩:=h;exact gz_Times.fit _ _ _ _ hp
   ·exact h.elim)
theorem wv_fit1.fit (x:Nat) (hp:(Gz.inR x)=true):([.c (.float .f64 x)]:List TV).length=wv_fit1.d.np∧wv_fit1.d.run (envL nrGl wv_fit1.env) [.c (.float .f64 x)]=some (([(.b (true))]:List TV)++wv_fit1.d.lent.map fun q=>([.c (.float .f64 x)]:List TV).getD q.1 .dead) :=
 ⟨by kernel_rfl,Eq.trans (b:=wv_fit1.F x) (by kernel_rfl) (Eq.trans (wv_fit1.goal x hp) (by kernel_rfl))⟩
theorem wv_fit1.ok:KO 95 (wv_fit1.c) wv_fit1.sg :=
 meets (l:=wv_fit1.env) (all_cons math_Trunc.ok all_nil) wv_fit1.chk (by
   intro ins outs h
   unfold wv_fit1.c at h
   split at h
   ·obtain ⟨hp,rfl⟩:=h;exact wv_fit1.fit _ hp
   ·exact h.elim)
theorem wv_fit.fit (l_c0_1:Nat) (l_c0_2:Nat) (l_c1_1:Nat) (l_c1_2:Nat) (l_c2_1:Nat) (l_c2_2:Nat) (l_c3_1:Nat) (l_c3_2:Nat) (hp:(Gz.inQ (Qd.mk ((l_c0_1,l_c0_2):Cx) ((l_c1_1,l_c1_2):Cx) ((l_c2_1,l_c2_2):Cx) ((l_c3_1,l_c3_2):Cx)) 1125899906842624)=true):([.ag [.c (.complex .f64 l_c0_1 l_c0_2),.c (.complex .f64 l_c1_1 l_c1_2),.c (.complex .f64 l_c2_1 l_c2_2),.c (.complex .f64 l_c3_1 l_c3_2)]]:List TV).length=wv_fit.d.np∧wv_fit.d.run (envL nrGl wv_fit.env) [.ag [.c (.complex .f64 l_c0_1 l_c0_2),.c (.complex .f64 l_c1_1 l_c1_2),.c (.complex .f64 l_c2_1 l_c2_2),.c (.complex .f64 l_c3_1 l_c3_2)]]=some (([(.b (true))]:List TV)++wv_fit.d.lent.map fun q=>([.ag [.c (.complex .f64 l_c0_1 l_c0_2),.c (.complex .f64 l_c1_1 l_c1_2),.c (.complex .f64 l_c2_1 l_c2_2),.c (.complex .f64 l_c3_1 l_c3_2)]]:List TV).getD q.1 .dead) :=
 ⟨by kernel_rfl,Eq.trans (b:=wv_fit.F (Qd.mk ((l_c0_1,l_c0_2):Cx) ((l_c1_1,l_c1_2):Cx) ((l_c2_1,l_c2_2):Cx) ((l_c3_1,l_c3_2):Cx))) (by kernel_rfl) (Eq.trans (wv_fit.goal (Qd.mk ((l_c0_1,l_c0_2):Cx) ((l_c1_1,l_c1_2):Cx) ((l_c2_1,l_c2_2):Cx) ((l_c3_1,l_c3_2):Cx)) hp) (by kernel_rfl))⟩
theorem wv_fit.ok:KO 84 (wv_fit.c) wv_fit.sg :=
 meets (l:=wv_fit.env) (all_cons wv_fit1.ok all_nil) wv_fit.chk (by
   intro ins outs h
   unfold wv_fit.c at h
   split at h
   ·obtain ⟨hp,rfl⟩:=h;exact wv_fit.fit _ _ _ _ _ _ _ _ hp
   ·exact h.elim)
theorem wv_sums.fit (l_c0_1:Nat) (l_c0_2:Nat) (l_c1_1:Nat) (l_c1_2:Nat) (l_c2_1:Nat) (l_c2_2:Nat) (l_c3_1:Nat) (l_c3_2:Nat) (w:Int) (hp:(Gz.inQ (Qd.mk ((l_c0_1,l_c0_2):Cx) ((l_c1_1,l_c1_2):Cx) ((l_c2_1,l_c2_2):Cx) ((l_c3_1,l_c3_2):Cx)) 1125899906842624&&decide (w=1∨w=-1))=true):([.ag [.c (.complex .f64 l_c0_1 l_c0_2),.c (.complex .f64 l_c1_1 l_c1_2),.c (.complex .f64 l_c2_1 l_c2_2),.c (.complex .f64 l_c3_1 l_c3_2)],.i .i64 w]:List TV).length=wv_sums.d.np∧wv_sums.d.run (envL nrGl wv_sums.env) [.ag [.c (.complex .f64 l_c0_1 l_c0_2),.c (.complex .f64 l_c1_1 l_c1_2),.c (.complex .f64 l_c2_1 l_c2_2),.c (.complex .f64 l_c3_1 l_c3_2)],.i .i64 w]=some (([(.ag (Qd.cells (Gz.sums (Qd.mk ((l_c0_1,l_c0_2):Cx) ((l_c1_1,l_c1_2):Cx) ((l_c2_1,l_c2_2):Cx) ((l_c3_1,l_c3_2):Cx)) w)))]:List TV)++wv_sums.d.lent.map fun q=>([.ag [.c (.complex .f64 l_c0_1 l_c0_2),.c (.complex .f64 l_c1_1 l_c1_2),.c (.complex .f64 l_c2_1 l_c2_2),.c (.complex .f64 l_c3_1 l_c3_2)],.i .i64 w]:List TV).getD q.1 .dead) :=
 ⟨by kernel_rfl,Eq.trans (b:=wv_sums.F (Qd.mk ((l_c0_1,l_c0_2):Cx) ((l_c1_1,l_c1_2):Cx) ((l_c2_1,l_c2_2):Cx) ((l_c3_1,l_c3_2):Cx)) w) (by kernel_rfl) (Eq.trans (wv_sums.goal (Qd.mk ((l_c0_1,l_c0_2):Cx) ((l_c1_1,l_c1_2):Cx) ((l_c2_1,l_c2_2):Cx) ((l_c3_1,l_c3_2):Cx)) w hp) (by kernel_rfl))⟩
theorem wv_sums.ok:KO 85 (wv_sums.c) wv_sums.sg :=
 meets (l:=wv_sums.env) (all_cons gz_Turn.ok all_nil) wv_sums.chk (by
   intro ins outs h
   unfold wv_sums.c at h
   split at h
   ·obtain ⟨hp,rfl⟩:=h;exact wv_sums.fit _ _ _ _ _ _ _ _ _ hp
   ·exact h.elim)
theorem wv_Four.fit (l_c0_1:Nat) (l_c0_2:Nat) (l_c1_1:Nat) (l_c1_2:Nat) (l_c2_1:Nat) (l_c2_2:Nat) (l_c3_1:Nat) (l_c3_2:Nat) (hp:(Gz.inQ (Qd.mk ((l_c0_1,l_c0_2):Cx) ((l_c1_1,l_c1_2):Cx) ((l_c2_1,l_c2_2):Cx) ((l_c3_1,l_c3_2):Cx)) 1125899906842624)=true):([.ag [.c (.complex .f64 l_c0_1 l_c0_2),.c (.complex .f64 l_c1_1 l_c1_2),.c (.complex .f64 l_c2_1 l_c2_2),.c (.complex .f64 l_c3_1 l_c3_2)]]:List TV).length=wv_Four.d.np∧wv_Four.d.run (envL nrGl wv_Four.env) [.ag [.c (.complex .f64 l_c0_1 l_c0_2),.c (.complex .f64 l_c1_1 l_c1_2),.c (.complex .f64 l_c2_1 l_c2_2),.c (.complex .f64 l_c3_1 l_c3_2)]]=some (([(.ag (Qd.cells (Gz.sums (Qd.mk ((l_c0_1,l_c0_2):Cx) ((l_c1_1,l_c1_2):Cx) ((l_c2_1,l_c2_2):Cx) ((l_c3_1,l_c3_2):Cx)) 1)))]:List TV)++wv_Four.d.lent.map fun q=>([.ag [.c (.complex .f64 l_c0_1 l_c0_2),.c (.complex .f64 l_c1_1 l_c1_2),.c (.complex .f64 l_c2_1 l_c2_2),.c (.complex .f64 l_c3_1 l_c3_2)]]:List TV).getD q.1 .dead) :=
 ⟨by kernel_rfl,Eq.trans (b:=wv_Four.F (Qd.mk ((l_c0_1,l_c0_2):Cx) ((l_c1_1,l_c1_2):Cx) ((l_c2_1,l_c2_2):Cx) ((l_c3_1,l_c3_2):Cx))) (by kernel_rfl) (Eq.trans (wv_Four.goal (Qd.mk ((l_c0_1,l_c0_2):Cx) ((l_c1_1,l_c1_2):Cx) ((l_c2_1,l_c2_2):Cx) ((l_c3_1,l_c3_2):Cx)) hp) (by kernel_rfl))⟩
theorem wv_Four.ok:KO 82 (wv_Four.c) wv_Four.sg :=
 meets (l:=wv_Four.env) (all_cons wv_fit.ok (all_cons wv_sums.ok all_nil)) wv_Four.chk (by
   intro ins outs h
   unfold wv_Four.c at h
   split at h
   ·obtain ⟨hp,rfl⟩:=h;exact wv_Four.fit _ _ _ _ _ _ _ _ hp
   ·exact h.elim)
theorem wv_Back.fit (l_c0_1:Nat) (l_c0_2:Nat) (l_c1_1:Nat) (l_c1_2:Nat) (l_c2_1:Nat) (l_c2_2:Nat) (l_c3_1:Nat) (l_c3_2:Nat) (hp:(Gz.inQ (Qd.mk ((l_c0_1,l_c0_2):Cx) ((l_c1_1,l_c1_2):Cx) ((l_c2_1,l_c2_2):Cx) ((l_c3_1,l_c3_2):Cx)) 1125899906842624&&Gz.in4 (Qd.mk ((l_c0_1,l_c0_2):Cx) ((l_c1_1,l_c1_2):Cx) ((l_c2_1,l_c2_2):Cx) ((l_c3_1,l_c3_2):Cx)))=true):([.ag [.c (.complex .f64 l_c0_1 l_c0_2),.c (.complex .f64 l_c1_1 l_c1_2),.c (.complex .f64 l_c2_1 l_c2_2),.c (.complex .f64 l_c3_1 l_c3_2)]]:List TV).length=wv_Back.d.np∧wv_Back.d.run (envL nrGl wv_Back.env) [.ag [.c (.complex .f64 l_c0_1 l_c0_2),.c (.complex .f64 l_c1_1 l_c1_2),.c (.complex .f64 l_c2_1 l_c2_2),.c (.complex .f64 l_c3_1 l_c3_2)]]=some (([(.ag (Qd.cells (Gz.back (Qd.mk ((l_c0_1,l_c0_2):Cx) ((l_c1_1,l_c1_2):Cx) ((l_c2_1,l_c2_2):Cx) ((l_c3_1,l_c3_2):Cx))))),(.b (true))]:List TV)++wv_Back.d.lent.map fun q=>([.ag [.c (.complex .f64 l_c0_1 l_c0_2),.c (.complex .f64 l_c1_1 l_c1_2),.c (.complex .f64 l_c2_1 l_c2_2),.c (.complex .f64 l_c3_1 l_c3_2)]]:List TV).getD q.1 .dead) :=
 ⟨by kernel_rfl,Eq.trans (b:=wv_Back.F (Qd.mk ((l_c0_1,l_c0_2):Cx) ((l_c1_1,l_c1_2):Cx) ((l_c2_1,l_c2_2):Cx) ((l_c3_1,l_c3_2):Cx))) (by kernel_rfl) (Eq.trans (wv_Back.goal (Qd.mk ((l_c0_1,l_c0_2):Cx) ((l_c1_1,l_c1_2):Cx) ((l_c2_1,l_c2_2):Cx) ((l_c3_1,l_c3_2):Cx)) hp) (by kernel_rfl))⟩
theorem wv_Back.ok:KO 64 (wv_Back.c) wv_Back.sg :=
 meets (l:=wv_Back.env) (all_cons gz_Parts.ok (all_cons wv_fit.ok (all_cons wv_sums.ok all_nil))) wv_Back.chk (by
   intro ins outs h
   unfold wv_Back.c at h
   split at h
   ·obtain ⟨hp,rfl⟩:=h;exact wv_Back.fit _ _ _ _ _ _ _ _ hp
   ·exact h.elim)
theorem wv_digits.fit (l:List Int) (hp:(decide ((l).length≤256)&&Gz.digs l)=true):([.sl .is l]:List TV).length=wv_digits.d.np∧wv_digits.d.run (envL nrGl wv_digits.env) [.sl .is l]=some (([(.b (true))]:List TV)++wv_digits.d.lent.map fun q=>([.sl .is l]:List TV).getD q.1 .dead) :=
 ⟨by kernel_rfl,Eq.trans (b:=wv_digits.F l) (by kernel_rfl) (Eq.trans (wv_digits.goal l hp) (by kernel_rfl))⟩
theorem wv_digits.ok:KO 61 (wv_digits.c) wv_digits.sg :=
 meets (l:=wv_digits.env) all_nil wv_digits.chk (by
   intro ins outs h
   unfold wv_digits.c at h
   split at h
   ·obtain ⟨hp,rfl⟩:=h;exact wv_digits.fit _ hp
   ·exact h.elim)
theorem wv_pairs.fit (l:List Int) (hp:(decide ((l).length≤256)&&Gz.digs l)=true):([.sl .is l]:List TV).length=wv_pairs.d.np∧wv_pairs.d.run (envL nrGl wv_pairs.env) [.sl .is l]=some (([(.sl .qd (Gz.pairs l))]:List TV)++wv_pairs.d.lent.map fun q=>([.sl .is l]:List TV).getD q.1 .dead) :=
 ⟨by kernel_rfl,Eq.trans (b:=wv_pairs.F l) (by kernel_rfl) (Eq.trans (wv_pairs.goal l hp) (by kernel_rfl))⟩
theorem wv_pairs.ok:KO 62 (wv_pairs.c) wv_pairs.sg :=
 meets (l:=wv_pairs.env) (all_cons gz_Of.ok (all_cons wv_Four.ok all_nil)) wv_pairs.chk (by
   intro ins outs h
   unfold wv_pairs.c at h
   split at h
   ·obtain ⟨hp,rfl⟩:=h;exact wv_pairs.fit _ hp
   ·exact h.elim)
theorem wv_Fold.fit (a:List Int) (b:List Int) (hp:(decide ((a).length≤256∧(b).length≤256)&&(Gz.digs a&&Gz.digs b))=true):([.sl .is a,.sl .is b]:List TV).length=wv_Fold.d.np∧wv_Fold.d.run (envL nrGl wv_Fold.env) [.sl .is a,.sl .is b]=some (([(.sl .is (Gz.conv a b)),(.b (true))]:List TV)++wv_Fold.d.lent.map fun q=>([.sl .is a,.sl .is b]:List TV).getD q.1 .dead) :=
 ⟨by kernel_rfl,Eq.trans (b:=wv_Fold.F a b) (by kernel_rfl) (Eq.trans (wv_Fold.goal a b hp) (by kernel_rfl))⟩
theorem wv_Fold.ok:KO 43 (wv_Fold.c) wv_Fold.sg :=
 meets (l:=wv_Fold.env) (all_cons wv_digits.ok (all_cons wv_pairs.ok (all_cons gz_Times.ok (all_cons wv_Back.ok (all_cons gz_Parts.ok all_nil))))) wv_Fold.chk (by
   intro ins outs h
   unfold wv_Fold.c at h
   split at h
   ·obtain ⟨hp,rfl⟩:=h;exact wv_Fold.fit _ _ hp
   ·exact h.elim)
theorem bg_trim.fit (a:List UInt16) (hp:(decide ((a).length≤1099511627776))=true):([.sl .ws a]:List TV).length=bg_trim.d.np∧bg_trim.d.run (envL nrGl bg_trim.env) [.sl .ws a]=some (([(.sl .ws (Nt.of (Nt.val a)))]:List TV)++bg_trim.d.lent.map fun q=>([.sl .ws a]:List TV).getD q.1 .dead) :=
 ⟨by kernel_rfl,Eq.trans (b:=bg_trim.F a) (by kernel_rfl) (Eq.trans (bg_trim.goal a hp) (by kernel_rfl))⟩
theorem bg_trim.ok:KO 45 (bg_trim.c) bg_trim.sg :=
 meets (l:=bg_trim.env) all_nil bg_trim.chk (by
   intro ins outs h
   unfold bg_trim.c at h
   split at h
   ·obtain ⟨hp,rfl⟩:=h;exact bg_trim.fit _ hp
   ·exact h.elim)
theorem bg_Is.fit (a:List UInt16) (hp:(decide ((a).length≤1099511627776))=true):([.sl .ws a]:List TV).length=bg_Is.d.np∧bg_Is.d.run (envL nrGl bg_Is.env) [.sl .ws a]=some (([(.b (Nt.is a))]:List TV)++bg_Is.d.lent.map fun q=>([.sl .ws a]:List TV).getD q.1 .dead) :=
 ⟨by kernel_rfl,Eq.trans (b:=bg_Is.F a) (by kernel_rfl) (Eq.trans (bg_Is.goal a hp) (by kernel_rfl))⟩
theorem bg_Is.ok:KO 42 (bg_Is.c) bg_Is.sg :=
 meets (l:=bg_Is.env) all_nil bg_Is.chk (by
   intro ins outs h
   unfold bg_Is.c at h
   split at h
   ·obtain ⟨hp,rfl⟩:=h;exact bg_Is.fit _ hp
   ·exact h.elim)
theorem bg_Of.fit (v:UInt64):([.u64 v]:List TV).length=bg_Of.d.np∧bg_Of.d.run (envL nrGl bg_Of.env) [.u64 v]=some (([(.sl .ws (Nt.of (v).toNat))]:List TV)++bg_Of.d.lent.map fun q=>([.u64 v]:List TV).getD q.1 .dead) :=
 ⟨by kernel_rfl,Eq.trans (b:=bg_Of.F v) (by kernel_rfl) (Eq.trans (bg_Of.goal v) (by kernel_rfl))⟩
theorem bg_Of.ok:KO 19 (bg_Of.c) bg_Of.sg :=
 meets (l:=bg_Of.env) all_nil bg_Of.chk (by
   intro ins outs h
   unfold bg_Of.c at h
   split at h
   ·cases h;exact bg_Of.fit _
   ·exact h.elim)
theorem bg_Small.fit (a:List UInt16) (hp:(decide (Nt.is a=true∧(a).length≤4))=true):([.sl .ws a]:List TV).length=bg_Small.d.np∧bg_Small.d.run (envL nrGl bg_Small.env) [.sl .ws a]=some (([(.u64 (UInt64.ofNat (Nt.val a))),(.b (true))]:List TV)++bg_Small.d.lent.map fun q=>([.sl .ws a]:List TV).getD q.1 .dead) :=
 ⟨by kernel_rfl,Eq.trans (b:=bg_Small.F a) (by kernel_rfl) (Eq.trans (bg_Small.goal a hp) (by kernel_rfl))⟩
theorem bg_Small.ok:KO 69 (bg_Small.c) bg_Small.sg :=
 meets (l:=bg_Small.env) (all_cons bg_Is.ok all_nil) bg_Small.chk (by
   intro ins outs h
   unfold bg_Small.c at h
   split at h
   ·obtain ⟨hp,rfl⟩:=h;exact bg_Small.fit _ hp
   ·exact h.elim)
theorem bg_Bits.fit (a:List UInt16) (hp:(Nt.is a)=true):([.sl .ws a]:List TV).length=bg_Bits.d.np∧bg_Bits.d.run (envL nrGl bg_Bits.env) [.sl .ws a]=some (([(.i .i64 ((Nt.bits (Nt.val a):Int)))]:List TV)++bg_Bits.d.lent.map fun q=>([.sl .ws a]:List TV).getD q.1 .dead) :=
 ⟨by kernel_rfl,Eq.trans (b:=bg_Bits.F a) (by kernel_rfl) (Eq.trans (bg_Bits.goal a hp) (by kernel_rfl))⟩
theorem bg_Bits.ok:KO 46 (bg_Bits.c) bg_Bits.sg :=
 meets (l:=bg_Bits.env) (all_cons bg_Is.ok (all_cons bits_Len16.ok all_nil)) bg_Bits.chk (by
   intro ins outs h
   unfold bg_Bits.c at h
   split at h
   ·obtain ⟨hp,rfl⟩:=h;exact bg_Bits.fit _ hp
   ·exact h.elim)
theorem bg_cmp.fit (a:List UInt16) (b:List UInt16) (hp:(decide ((a).length≤1099511627776∧(b).length≤1099511627776)&&(Nt.norm a&&Nt.norm b))=true):([.sl .ws a,.sl .ws b]:List TV).length=bg_cmp.d.np∧bg_cmp.d.run (envL nrGl bg_cmp.env) [.sl .ws a,.sl .ws b]=some (([(.i .i64 (Nt.cmp (Nt.val a) (Nt.val b)))]:List TV)++bg_cmp.d.lent.map fun q=>([.sl .ws a,.sl .ws b]:List TV).getD q.1 .dead) :=
 ⟨by kernel_rfl,Eq.trans (b:=bg_cmp.F a b) (by kernel_rfl) (Eq.trans (bg_cmp.goal a b hp) (by kernel_rfl))⟩
theorem bg_cmp.ok:KO 88 (bg_cmp.c) bg_cmp.sg :=
 meets (l:=bg_cmp.env) all_nil bg_cmp.chk (by
   intro ins outs h
   unfold bg_cmp.c at h
   split at h
   ·obtain ⟨hp,rfl⟩:=h;exact bg_cmp.fit _ _ hp
   ·exact h.elim)
theorem bg_Cmp.fit (a:List UInt16) (b:List UInt16) (hp:(Nt.is a&&Nt.is b)=true):([.sl .ws a,.sl .ws b]:List TV).length=bg_Cmp.d.np∧bg_Cmp.d.run (envL nrGl bg_Cmp.env) [.sl .ws a,.sl .ws b]=some (([(.i .i64 (Nt.cmp (Nt.val a) (Nt.val b)))]:List TV)++bg_Cmp.d.lent.map fun q=>([.sl .ws a,.sl .ws b]:List TV).getD q.1 .dead) :=
 ⟨by kernel_rfl,Eq.trans (b:=bg_Cmp.F a b) (by kernel_rfl) (Eq.trans (bg_Cmp.goal a b hp) (by kernel_rfl))⟩
theorem bg_Cmp.ok:KO 70 (bg_Cmp.c) bg_Cmp.sg :=
 meets (l:=bg_Cmp.env) (all_cons bg_Is.ok (all_cons bg_cmp.ok all_nil)) bg_Cmp.chk (by
   intro ins outs h
   unfold bg_Cmp.c at h
   split at h
   ·obtain ⟨hp,rfl⟩:=h;exact bg_Cmp.fit _ _ hp
   ·exact h.elim)
theorem bg_numbers.fit (a:List UInt16) (hp:(decide ((a).length≤256))=true):([.sl .ws a]:List TV).length=bg_numbers.d.np∧bg_numbers.d.run (envL nrGl bg_numbers.env) [.sl .ws a]=some (([(.sl .is ((a).map fun d=>(d.toNat:Int)))]:List TV)++bg_numbers.d.lent.map fun q=>([.sl .ws a]:List TV).getD q.1 .dead) :=
 ⟨by kernel_rfl,Eq.trans (b:=bg_numbers.F a) (by kernel_rfl) (Eq.trans (bg_numbers.goal a hp) (by kernel_rfl))⟩
theorem bg_numbers.ok:KO 44 (bg_numbers.c) bg_numbers.sg :=
 meets (l:=bg_numbers.env) all_nil bg_numbers.chk (by
   intro ins outs h
   unfold bg_numbers.c at h
   split at h
   ·obtain ⟨hp,rfl⟩:=h;exact bg_numbers.fit _ hp
   ·exact h.elim)
theorem bg_Mul.fit (a:List UInt16) (b:List UInt16) (hp:(Nt.is a&&Nt.is b)=true):([.sl .ws a,.sl .ws b]:List TV).length=bg_Mul.d.np∧bg_Mul.d.run (envL nrGl bg_Mul.env) [.sl .ws a,.sl .ws b]=some (([(.sl .ws (Nt.of (Nt.val a * Nt.val b)))]:List TV)++bg_Mul.d.lent.map fun q=>([.sl .ws a,.sl .ws b]:List TV).getD q.1 .dead) :=
 ⟨by kernel_rfl,Eq.trans (b:=bg_Mul.F a b) (by kernel_rfl) (Eq.trans (bg_Mul.goal a b hp) (by kernel_rfl))⟩
theorem bg_Mul.ok:KO 21 (bg_Mul.c) bg_Mul.sg :=
 meets (l:=bg_Mul.env) (all_cons bg_Is.ok (all_cons wv_Fold.ok (all_cons bg_numbers.ok (all_cons bg_trim.ok all_nil)))) bg_Mul.chk (by
   intro ins outs h
   unfold bg_Mul.c at h
   split at h
   ·obtain ⟨hp,rfl⟩:=h;exact bg_Mul.fit _ _ hp
   ·exact h.elim)
theorem bg_few.fit (a:List UInt16) (d:UInt16) (hp:(decide ((a).length≤1000000∧d≠0))=true):([.sl .ws a,.u16 d]:List TV).length=bg_few.d.np∧bg_few.d.run (envL nrGl bg_few.env) [.sl .ws a,.u16 d]=some (([(.sl .ws (Nt.of (Nt.val a / (d).toNat))),(.u16 (UInt16.ofNat (Nt.val a % (d).toNat)))]:List TV)++bg_few.d.lent.map fun q=>([.sl .ws a,.u16 d]:List TV).getD q.1 .dead) :=
 ⟨by kernel_rfl,Eq.trans (b:=bg_few.F a d) (by kernel_rfl) (Eq.trans (bg_few.goal a d hp) (by kernel_rfl))⟩
theorem bg_few.ok:KO 90 (bg_few.c) bg_few.sg :=
 meets (l:=bg_few.env) (all_cons bg_trim.ok all_nil) bg_few.chk (by
   intro ins outs h
   unfold bg_few.c at h
   split at h
   ·obtain ⟨hp,rfl⟩:=h;exact bg_few.fit _ _ hp
   ·exact h.elim)
theorem bg_up.fit (a:List UInt16) (n:Int) (hp:(decide ((a).length≤1000000∧0≤n∧n<16)&&Nt.norm a)=true):([.sl .ws a,.i .i64 n]:List TV).length=bg_up.d.np∧bg_up.d.run (envL nrGl bg_up.env) [.sl .ws a,.i .i64 n]=some (([(.sl .ws (Nt.of (Nt.val a * 2 ^ (n).toNat)))]:List TV)++bg_up.d.lent.map fun q=>([.sl .ws a,.i .i64 n]:List TV).getD q.1 .dead) :=
 ⟨by kernel_rfl,Eq.trans (b:=bg_up.F a n) (by kernel_rfl) (Eq.trans (bg_up.goal a n hp) (by kernel_rfl))⟩
theorem bg_up.ok:KO 87 (bg_up.c) bg_up.sg :=
 meets (l:=bg_up.env) all_nil bg_up.chk (by
   intro ins outs h
   unfold bg_up.c at h
   split at h
   ·obtain ⟨hp,rfl⟩:=h;exact bg_up.fit _ _ hp
   ·exact h.elim)
theorem bg_down.fit (a:List UInt16) (n:Int) (hp:(decide ((a).length≤1000000∧0≤n∧n<16))=true):([.sl .ws a,.i .i64 n]:List TV).length=bg_down.d.np∧bg_down.d.run (envL nrGl bg_down.env) [.sl .ws a,.i .i64 n]=some (([(.sl .ws (Nt.of (Nt.val a / 2 ^ (n).toNat)))]:List TV)++bg_down.d.lent.map fun q=>([.sl .ws a,.i .i64 n]:List TV).getD q.1 .dead) :=
 ⟨by kernel_rfl,Eq.trans (b:=bg_down.F a n) (by kernel_rfl) (Eq.trans (bg_down.goal a n hp) (by kernel_rfl))⟩
theorem bg_down.ok:KO 92 (bg_down.c) bg_down.sg :=
 meets (l:=bg_down.env) (all_cons bg_trim.ok all_nil) bg_down.chk (by
   intro ins outs h
   unfold bg_down.c at h
   split at h
   ·obtain ⟨hp,rfl⟩:=h;exact bg_down.fit _ _ hp
   ·exact h.elim)
theorem bg_long.fit (u:List UInt16) (v:List UInt16) (hp:(decide ((u).length≤1000000∧2≤(v).length∧(v).length≤(u).length∧32768≤((v).getLast?.getD 0).toNat))=true):([.sl .ws u,.sl .ws v]:List TV).length=bg_long.d.np∧bg_long.d.run (envL nrGl bg_long.env) [.sl .ws u,.sl .ws v]=some (([(.sl .ws (Nt.fix ((u).length+1 - (v).length) (Nt.val u / Nt.val v))),(.sl .ws (Nt.fix (v).length (Nt.val u % Nt.val v)))]:List TV)++bg_long.d.lent.map fun q=>([.sl .ws u,.sl .ws v]:List TV).getD q.1 .dead) :=
 ⟨by kernel_rfl,Eq.trans (b:=bg_long.F u v) (by kernel_rfl) (Eq.trans (bg_long.goal u v hp) (by kernel_rfl))⟩
theorem bg_long.ok:KO 91 (bg_long.c) bg_long.sg :=
 meets (l:=bg_long.env) all_nil bg_long.chk (by
   intro ins outs h
   unfold bg_long.c at h
   split at h
   ·obtain ⟨hp,rfl⟩:=h;exact bg_long.fit _ _ hp
   ·exact h.elim)
theorem bg_Div.fit (a:List UInt16) (b:List UInt16) (hp:(Nt.is a&&Nt.is b&&decide (b≠[]))=true):([.sl .ws a,.sl .ws b]:List TV).length=bg_Div.d.np∧bg_Div.d.run (envL nrGl bg_Div.env) [.sl .ws a,.sl .ws b]=some (([(.sl .ws (Nt.of (Nt.val a / Nt.val b))),(.sl .ws (Nt.of (Nt.val a % Nt.val b))),(.b (true))]:List TV)++bg_Div.d.lent.map fun q=>([.sl .ws a,.sl .ws b]:List TV).getD q.1 .dead) :=
 ⟨by kernel_rfl,Eq.trans (b:=bg_Div.F a b) (by kernel_rfl) (Eq.trans (bg_Div.goal a b hp) (by kernel_rfl))⟩
theorem bg_Div.ok:KO 68 (bg_Div.c) bg_Div.sg :=
 meets (l:=bg_Div.env) (all_cons bg_Of.ok (all_cons bg_Is.ok (all_cons bg_trim.ok (all_cons bits_Len16.ok (all_cons bg_up.ok (all_cons bg_cmp.ok (all_cons clone_ws.ok (all_cons bg_few.ok (all_cons bg_long.ok (all_cons bg_down.ok all_nil)))))))))) bg_Div.chk (by
   intro ins outs h
   unfold bg_Div.c at h
   split at h
   ·obtain ⟨hp,rfl⟩:=h;exact bg_Div.fit _ _ hp
   ·exact h.elim)
theorem bg_Up.fit (a:List UInt16) (n:Int) (hp:(decide (0≤n∧n≤4096)&&Nt.is a)=true):([.sl .ws a,.i .i64 n]:List TV).length=bg_Up.d.np∧bg_Up.d.run (envL nrGl bg_Up.env) [.sl .ws a,.i .i64 n]=some (([(.sl .ws (Nt.of (Nt.val a * 2 ^ (n).toNat)))]:List TV)++bg_Up.d.lent.map fun q=>([.sl .ws a,.i .i64 n]:List TV).getD q.1 .dead) :=
 ⟨by kernel_rfl,Eq.trans (b:=bg_Up.F a n) (by kernel_rfl) (Eq.trans (bg_Up.goal a n hp) (by kernel_rfl))⟩
theorem bg_Up.ok:KO 67 (bg_Up.c) bg_Up.sg :=
 meets (l:=bg_Up.env) (all_cons bg_Is.ok (all_cons bg_up.ok all_nil)) bg_Up.chk (by
   intro ins outs h
   unfold bg_Up.c at h
   split at h
   ·obtain ⟨hp,rfl⟩:=h;exact bg_Up.fit _ _ hp
   ·exact h.elim)
theorem bg_more.fit (a:List UInt16) (b:Int) (c:Int) (hp:(decide ((a).length≤1000000∧1≤b∧b≤65535∧0≤c∧c≤65535)&&Nt.norm a)=true):([.sl .ws a,.i .i64 b,.i .i64 c]:List TV).length=bg_more.d.np∧bg_more.d.run (envL nrGl bg_more.env) [.sl .ws a,.i .i64 b,.i .i64 c]=some (([(.sl .ws (Nt.of (Nt.val a * (b).toNat+(c).toNat)))]:List TV)++bg_more.d.lent.map fun q=>([.sl .ws a,.i .i64 b,.i .i64 c]:List TV).getD q.1 .dead) :=
 ⟨by kernel_rfl,Eq.trans (b:=bg_more.F a b c) (by kernel_rfl) (Eq.trans (bg_more.goal a b c hp) (by kernel_rfl))⟩
theorem bg_more.ok:KO 41 (bg_more.c) bg_more.sg :=
 meets (l:=bg_more.env) all_nil bg_more.chk (by
   intro ins outs h
   unfold bg_more.c at h
   split at h
   ·obtain ⟨hp,rfl⟩:=h;exact bg_more.fit _ _ _ hp
   ·exact h.elim)
theorem bg_Power.fit (b:Int) (e:Int) (hp:(decide (2≤b∧b≤65535∧0≤e∧e≤1000∧(b).toNat ^ (e).toNat<2 ^ 4096))=true):([.i .i64 b,.i .i64 e]:List TV).length=bg_Power.d.np∧bg_Power.d.run (envL nrGl bg_Power.env) [.i .i64 b,.i .i64 e]=some (([(.sl .ws (Nt.of ((b).toNat ^ (e).toNat))),(.b (true))]:List TV)++bg_Power.d.lent.map fun q=>([.i .i64 b,.i .i64 e]:List TV).getD q.1 .dead) :=
 ⟨by kernel_rfl,Eq.trans (b:=bg_Power.F b e) (by kernel_rfl) (Eq.trans (bg_Power.goal b e hp) (by kernel_rfl))⟩
theorem bg_Power.ok:KO 20 (bg_Power.c) bg_Power.sg :=
 meets (l:=bg_Power.env) (all_cons bg_Of.ok (all_cons bg_more.ok (all_cons bg_Is.ok all_nil))) bg_Power.chk (by
   intro ins outs h
   unfold bg_Power.c at h
   split at h
   ·obtain ⟨hp,rfl⟩:=h;exact bg_Power.fit _ _ hp
   ·exact h.elim)
theorem bg_Parse.fit (s:Str) (hp:(decide (1≤(s).length∧(s).length≤300∧(s).getD 0 0≠48)&&(s).all Nr.isDig)=true):([.s s]:List TV).length=bg_Parse.d.np∧bg_Parse.d.run (envL nrGl bg_Parse.env) [.s s]=some (([(.sl .ws (Nt.of (Nr.num s))),(.b (true))]:List TV)++bg_Parse.d.lent.map fun q=>([.s s]:List TV).getD q.1 .dead) :=
 ⟨by kernel_rfl,Eq.trans (b:=bg_Parse.F s) (by kernel_rfl) (Eq.trans (bg_Parse.goal s hp) (by kernel_rfl))⟩
theorem bg_Parse.ok:KO 18 (bg_Parse.c) bg_Parse.sg :=
 meets (l:=bg_Parse.env) (all_cons bg_more.ok (all_cons bg_Is.ok all_nil)) bg_Parse.chk (by
   intro ins outs h
   unfold bg_Parse.c at h
   split at h
   ·obtain ⟨hp,rfl⟩:=h;exact bg_Parse.fit _ hp
   ·exact h.elim)
theorem db_Join.fit (n:Bool) (m:UInt64) (e:Int) (hp:(decide (-1100≤e∧e≤2000))=true):([.b n,.u64 m,.i .i64 e]:List TV).length=db_Join.d.np∧db_Join.d.run (envL nrGl db_Join.env) [.b n,.u64 m,.i .i64 e]=some (([(.u64 (Nr.pat (Nr.join n (m).toNat e))),(.b ((Nr.join n (m).toNat e).isSome))]:List TV)++db_Join.d.lent.map fun q=>([.b n,.u64 m,.i .i64 e]:List TV).getD q.1 .dead) :=
 ⟨by kernel_rfl,Eq.trans (b:=db_Join.F n m e) (by kernel_rfl) (Eq.trans (db_Join.goal n m e hp) (by kernel_rfl))⟩
theorem db_Join.ok:KO 48 (db_Join.c) db_Join.sg :=
 meets (l:=db_Join.env) (all_cons bits_TZ.ok (all_cons bits_Len64.ok all_nil)) db_Join.chk (by
   intro ins outs h
   unfold db_Join.c at h
   split at h
   ·obtain ⟨hp,rfl⟩:=h;exact db_Join.fit _ _ _ hp
   ·exact h.elim)
theorem nr_rounded.fit (a:List UInt16) (b:List UInt16) (e:Int) (hp:(Nt.is a&&Nt.is b&&decide (-4096≤e∧e≤4096∧0<Nt.val b∧Nr.scA (Nt.val a) e<2 ^ 4090∧Nr.scB (Nt.val b) e<2 ^ 4090∧Nr.scA (Nt.val a) e<2 ^ 60 * Nr.scB (Nt.val b) e))=true):([.sl .ws a,.sl .ws b,.i .i64 e]:List TV).length=nr_rounded.d.np∧nr_rounded.d.run (envL nrGl nr_rounded.env) [.sl .ws a,.sl .ws b,.i .i64 e]=some (([(.u64 (UInt64.ofNat (Nr.rnd (Nr.scA (Nt.val a) e) (Nr.scB (Nt.val b) e)))),(.b (Nr.rndUp (Nr.scA (Nt.val a) e) (Nr.scB (Nt.val b) e)))]:List TV)++nr_rounded.d.lent.map fun q=>([.sl .ws a,.sl .ws b,.i .i64 e]:List TV).getD q.1 .dead) :=
 ⟨by kernel_rfl,Eq.trans (b:=nr_rounded.F a b e) (by kernel_rfl) (Eq.trans (nr_rounded.goal a b e hp) (by kernel_rfl))⟩
theorem nr_rounded.ok:KO 47 (nr_rounded.c) nr_rounded.sg :=
 meets (l:=nr_rounded.env) (all_cons bg_Up.ok (all_cons bg_Div.ok (all_cons bg_Small.ok (all_cons bg_Cmp.ok all_nil)))) nr_rounded.chk (by
   intro ins outs h
   unfold nr_rounded.c at h
   split at h
   ·obtain ⟨hp,rfl⟩:=h;exact nr_rounded.fit _ _ _ hp
   ·exact h.elim)
theorem nr_ratio.fit (a:List UInt16) (b:List UInt16) (hp:(Nt.is a&&Nt.is b&&decide (0<Nt.val a∧0<Nt.val b∧Nt.val a<2 ^ 1100∧Nt.val b<2 ^ 2200))=true):([.sl .ws a,.sl .ws b]:List TV).length=nr_ratio.d.np∧nr_ratio.d.run (envL nrGl nr_ratio.env) [.sl .ws a,.sl .ws b]=some (([(.u64 (Nr.pat (Nr.near (Nt.val a) (Nt.val b)))),(.b ((Nr.near (Nt.val a) (Nt.val b)).isSome))]:List TV)++nr_ratio.d.lent.map fun q=>([.sl .ws a,.sl .ws b]:List TV).getD q.1 .dead) :=
 ⟨by kernel_rfl,Eq.trans (b:=nr_ratio.F a b) (by kernel_rfl) (Eq.trans (nr_ratio.goal a b hp) (by kernel_rfl))⟩
theorem nr_ratio.ok:KO 22 (nr_ratio.c) nr_ratio.sg :=
 meets (l:=nr_ratio.env) (all_cons bg_Bits.ok (all_cons nr_rounded.ok (all_cons db_Join.ok all_nil))) nr_ratio.chk (by
   intro ins outs h
   unfold nr_ratio.c at h
   split at h
   ·obtain ⟨hp,rfl⟩:=h;exact nr_ratio.fit _ _ hp
   ·exact h.elim)
theorem nr_Read.fit (d:Str) (x:Int):([.s d,.i .i64 x]:List TV).length=nr_Read.d.np∧nr_Read.d.run (envL nrGl nr_Read.env) [.s d,.i .i64 x]=some (([(.u64 (Nr.pat (Nr.read d x))),(.b ((Nr.read d x).isSome))]:List TV)++nr_Read.d.lent.map fun q=>([.s d,.i .i64 x]:List TV).getD q.1 .dead) :=
 ⟨by kernel_rfl,Eq.trans (b:=nr_Read.F d x) (by kernel_rfl) (Eq.trans (nr_Read.goal d x) (by kernel_rfl))⟩
theorem nr_Read.ok:KO 9 (nr_Read.c) nr_Read.sg :=
 meets (l:=nr_Read.env) (all_cons st_Trim.ok (all_cons st_TrimLeft.ok (all_cons st_TrimRight.ok (all_cons bg_Parse.ok (all_cons bg_Of.ok (all_cons bg_Power.ok (all_cons bg_Mul.ok (all_cons nr_ratio.ok all_nil)))))))) nr_Read.chk (by
   intro ins outs h
   unfold nr_Read.c at h
   split at h
   ·cases h;exact nr_Read.fit _ _
   ·exact h.elim)
theorem nr_power.fit (s:Str) (hp:(decide (1≤(Nr.signed s).length∧(s).length≤300)&&(Nr.signed s).all Nr.isDig)=true):([.s s]:List TV).length=nr_power.d.np∧nr_power.d.run (envL nrGl nr_power.env) [.s s]=some (([(.i .i64 (Nr.power s))]:List TV)++nr_power.d.lent.map fun q=>([.s s]:List TV).getD q.1 .dead) :=
 ⟨by kernel_rfl,Eq.trans (b:=nr_power.F s) (by kernel_rfl) (Eq.trans (nr_power.goal s hp) (by kernel_rfl))⟩
theorem nr_power.ok:KO 29 (nr_power.c) nr_power.sg :=
 meets (l:=nr_power.env) (all_cons st_TrimLeft.ok all_nil) nr_power.chk (by
   intro ins outs h
   unfold nr_power.c at h
   split at h
   ·obtain ⟨hp,rfl⟩:=h;exact nr_power.fit _ hp
   ·exact h.elim)
theorem wh_is.fit (s:Str) (at_:Int) (c:UInt8) (d:UInt8) (hp:(decide ((s).length≤1099511627776)&&decide (0≤at_))=true):([.s s,.i .i64 at_,.u8 c,.u8 d]:List TV).length=wh_is.d.np∧wh_is.d.run (envL nrGl wh_is.env) [.s s,.i .i64 at_,.u8 c,.u8 d]=some (([(.b ((decide (at_<(s).length)&&(decide ((s).getD (at_).toNat 0=c) || decide ((s).getD (at_).toNat 0=d)))))]:List TV)++wh_is.d.lent.map fun q=>([.s s,.i .i64 at_,.u8 c,.u8 d]:List TV).getD q.1 .dead) :=
 ⟨by kernel_rfl,Eq.trans (b:=wh_is.F s at_ c d) (by kernel_rfl) (Eq.trans (wh_is.goal s at_ c d hp) (by kernel_rfl))⟩
theorem wh_is.ok:KO 50 (wh_is.c) wh_is.sg :=
 meets (l:=wh_is.env) all_nil wh_is.chk (by
   intro ins outs h
   unfold wh_is.c at h
   split at h
   ·obtain ⟨hp,rfl⟩:=h;exact wh_is.fit _ _ _ _ hp
   ·exact h.elim)
theorem wh_digits.fit (s:Str) (at_:Int) (hp:(decide ((s).length≤1099511627776)&&decide (0≤at_∧at_≤1099511627776))=true):([.s s,.i .i64 at_]:List TV).length=wh_digits.d.np∧wh_digits.d.run (envL nrGl wh_digits.env) [.s s,.i .i64 at_]=some (([(.i .i64 ((at_+(Nr.run ((s).drop (at_).toNat):Int))))]:List TV)++wh_digits.d.lent.map fun q=>([.s s,.i .i64 at_]:List TV).getD q.1 .dead) :=
 ⟨by kernel_rfl,Eq.trans (b:=wh_digits.F s at_) (by kernel_rfl) (Eq.trans (wh_digits.goal s at_ hp) (by kernel_rfl))⟩
theorem wh_digits.ok:KO 51 (wh_digits.c) wh_digits.sg :=
 meets (l:=wh_digits.env) all_nil wh_digits.chk (by
   intro ins outs h
   unfold wh_digits.c at h
   split at h
   ·obtain ⟨hp,rfl⟩:=h;exact wh_digits.fit _ _ hp
   ·exact h.elim)
theorem wh_Lexeme.fit (s:Str) (hp:(decide ((s).length≤1099511627776))=true):([.s s]:List TV).length=wh_Lexeme.d.np∧wh_Lexeme.d.run (envL nrGl wh_Lexeme.env) [.s s]=some (([(.i .i64 (Nr.lexeme s))]:List TV)++wh_Lexeme.d.lent.map fun q=>([.s s]:List TV).getD q.1 .dead) :=
 ⟨by kernel_rfl,Eq.trans (b:=wh_Lexeme.F s) (by kernel_rfl) (Eq.trans (wh_Lexeme.goal s hp) (by kernel_rfl))⟩
theorem wh_Lexeme.ok:KO 26 (wh_Lexeme.c) wh_Lexeme.sg :=
 meets (l:=wh_Lexeme.env) (all_cons wh_is.ok (all_cons wh_digits.ok all_nil)) wh_Lexeme.chk (by
   intro ins outs h
   unfold wh_Lexeme.c at h
   split at h
   ·obtain ⟨hp,rfl⟩:=h;exact wh_Lexeme.fit _ hp
   ·exact h.elim)
theorem nr_Parse.fit (s:Str) (hp:(decide ((s).length≤1099511627776))=true):([.s s]:List TV).length=nr_Parse.d.np∧nr_Parse.d.run (envL nrGl nr_Parse.env) [.s s]=some (([(.u64 ((Nr.parse s).1)),(.i .i64 ((Nr.parse s).2))]:List TV)++nr_Parse.d.lent.map fun q=>([.s s]:List TV).getD q.1 .dead) :=
 ⟨by kernel_rfl,Eq.trans (b:=nr_Parse.F s) (by kernel_rfl) (Eq.trans (nr_Parse.goal s hp) (by kernel_rfl))⟩
theorem nr_Parse.ok:KO 11 (nr_Parse.c) nr_Parse.sg :=
 meets (l:=nr_Parse.env) (all_cons nr_Read.ok (all_cons wh_Lexeme.ok (all_cons st_CutPrefix.ok (all_cons st_IndexAny.ok (all_cons nr_power.ok (all_cons st_Cut.ok all_nil)))))) nr_Parse.chk (by
   intro ins outs h
   unfold nr_Parse.c at h
   split at h
   ·obtain ⟨hp,rfl⟩:=h;exact nr_Parse.fit _ hp
   ·exact h.elim)
theorem r5_Digits.fit (v:UInt64):([.u64 v]:List TV).length=r5_Digits.d.np∧r5_Digits.d.run (envL nrGl r5_Digits.env) [.u64 v]=some (([(.s (Nr.dec (v).toNat))]:List TV)++r5_Digits.d.lent.map fun q=>([.u64 v]:List TV).getD q.1 .dead) :=
 ⟨by kernel_rfl,Eq.trans (b:=r5_Digits.F v) (by kernel_rfl) (Eq.trans (r5_Digits.goal v) (by kernel_rfl))⟩
theorem r5_Digits.ok:KO 33 (r5_Digits.c) r5_Digits.sg :=
 meets (l:=r5_Digits.env) all_nil r5_Digits.chk (by
   intro ins outs h
   unfold r5_Digits.c at h
   split at h
   ·cases h;exact r5_Digits.fit _
   ·exact h.elim)
theorem r5_Int.fit (v:Int) (hp:(Nr.i64 v)=true):([.i .i64 v]:List TV).length=r5_Int.d.np∧r5_Int.d.run (envL nrGl r5_Int.env) [.i .i64 v]=some (([(.s (Nr.itoa v))]:List TV)++r5_Int.d.lent.map fun q=>([.i .i64 v]:List TV).getD q.1 .dead) :=
 ⟨by kernel_rfl,Eq.trans (b:=r5_Int.F v) (by kernel_rfl) (Eq.trans (r5_Int.goal v hp) (by kernel_rfl))⟩
theorem r5_Int.ok:KO 14 (r5_Int.c) r5_Int.sg :=
 meets (l:=r5_Int.env) (all_cons r5_Digits.ok all_nil) r5_Int.chk (by
   intro ins outs h
   unfold r5_Int.c at h
   split at h
   ·obtain ⟨hp,rfl⟩:=h;exact r5_Int.fit _ hp
   ·exact h.elim)
theorem r9_Join.fit (n:Bool) (m:UInt64) (e:Int):([.b n,.u64 m,.i .i64 e]:List TV).length=r9_Join.d.np∧r9_Join.d.run (envL nrGl r9_Join.env) [.b n,.u64 m,.i .i64 e]=some (([(.u64 (Nr.pat (Nr.join n (m).toNat e))),(.b ((Nr.join n (m).toNat e).isSome))]:List TV)++r9_Join.d.lent.map fun q=>([.b n,.u64 m,.i .i64 e]:List TV).getD q.1 .dead) :=
 ⟨by kernel_rfl,Eq.trans (b:=r9_Join.F n m e) (by kernel_rfl) (Eq.trans (r9_Join.goal n m e) (by kernel_rfl))⟩
theorem r9_Join.ok:KO 32 (r9_Join.c) r9_Join.sg :=
 meets (l:=r9_Join.env) all_nil r9_Join.chk (by
   intro ins outs h
   unfold r9_Join.c at h
   split at h
   ·cases h;exact r9_Join.fit _ _ _
   ·exact h.elim)
theorem r9_OfInt.fit (v:Int) (hp:(Nr.i64 v)=true):([.i .i64 v]:List TV).length=r9_OfInt.d.np∧r9_OfInt.d.run (envL nrGl r9_OfInt.env) [.i .i64 v]=some (([(.u64 (Nr.pat (Nr.ofInt v))),(.b ((Nr.ofInt v).isSome))]:List TV)++r9_OfInt.d.lent.map fun q=>([.i .i64 v]:List TV).getD q.1 .dead) :=
 ⟨by kernel_rfl,Eq.trans (b:=r9_OfInt.F v) (by kernel_rfl) (Eq.trans (r9_OfInt.goal v hp) (by kernel_rfl))⟩
theorem r9_OfInt.ok:KO 13 (r9_OfInt.c) r9_OfInt.sg :=
 meets (l:=r9_OfInt.env) (all_cons r9_Join.ok all_nil) r9_OfInt.chk (by
   intro ins outs h
   unfold r9_OfInt.c at h
   split at h
   ·obtain ⟨hp,rfl⟩:=h;exact r9_OfInt.fit _ hp
   ·exact h.elim)
end Go.Eng
namespace Go.Eng
open Go.Proofs
noncomputable section
def nr_ParseA.sg:FSig:={ nres:=2 }
def nr_ParseA.c:Ctr:=fun l=>match l with
 | [.s s] => .if_ (decide (s=[48,46,49])) [(.u64 ((4591870180066957722:UInt64))),(.i .i64 ((0:Int)))]
 | _ => .err
def nr_ReadA.sg:FSig:={ nres:=2 }
def nr_ReadA.c:Ctr:=fun l=>match l with
 | [.s d,.i .i64 x] => .if_ (decide (d=[53]∧x=0)) [(.u64 ((4602678819172646912:UInt64))),(.b (true))]
 | _ => .err
def nr_awake.sg:FSig:={}
def nr_awake.c:Ctr:=fun l=>match l with
 | [] => .ok [(.b (true))]
 | _ => .err
def nr_awake.env:EV:=[(9,(nr_ReadA.c,nr_ReadA.sg)),(11,(nr_ParseA.c,nr_ParseA.sg))]
def nr_awake.E:TEnv:=envL nrGl nr_awake.env
def nr_awake.m:TM:=oS [oW (.b false) 0] (oS [oX (.k (.call 11 (.plain 1 2))) [.c (.s ([48,46,49]:Str))] [6],oV 6 5,oE 0 5 7,oE 1 5 8,oV 7 1,oV 8 2] (oS [oX (.k (.call 9 (.plain 2 2))) [.c (.s ([53]:Str)),.c (.i .i64 0)] [10],oV 10 9,oE 0 9 11,oE 1 9 12,oV 11 3,oV 12 4] (oS [oV 2 13,oI .eql 13 (.i .i64 0) 14,oV 14 15,oG 15 true (oV 1 16),oG 15 true (oI .eql 16 (.u64 4591870180066957722) 17),oP 15 17 false 18,oV 18 19,oG 19 true (oV 4 20),oP 19 20 false 21,oV 21 22,oG 22 true (oV 3 23),oG 22 true (oI .eql 23 (.u64 4602678819172646912) 24),oP 22 24 false 25,oV 25 0] .ret)))
def nr_awake.d:TFD:=D0 0 nr_awake.m [.t 0]
def nr_awake.F  : OT:=nr_awake.d.run nr_awake.E []
theorem nr_awake.F_in  {ρ:OT} (K:∀(v1:UInt64) (h1:v1=((4591870180066957722:UInt64))) (v2:UInt64) (h2:v2=((4602678819172646912:UInt64))) (v3:Bool) (h3:v3=(cond (decide (((0:Int))=(0:Int))) (decide (v1=(4591870180066957722:UInt64))) false)) (v4:Bool) (h4:v4=(cond (cond v3 (true) false) (decide (v2=(4602678819172646912:UInt64))) false)),ck (decide ((([48,46,49]:Str))=[48,46,49])) (ck (decide ((([53]:Str))=[53]∧((0:Int))=0)) (ck (!(decide (((0:Int))=(0:Int))) || (decide (((0:Int))=(0:Int)))) (ck (!(decide (((0:Int))=(0:Int))) || (decide (((0:Int))=(0:Int)))) (ck (!v3 || v3) (ck (!(cond v3 (true) false) || (cond v3 (true) false)) (ck (!(cond v3 (true) false) || (cond v3 (true) false)) (some [(.b v4)])))))))=ρ):nr_awake.F  = ρ:=Eq.trans (by kernel_rfl) (K _ rfl _ rfl _ rfl _ rfl)
theorem nr_awake.chk:CK 8 nr_awake.env nr_awake.d:=ckOf (by kernel_rfl)
end
end Go.Eng
namespace Go.Eng
open Go.Proofs
theorem Nr.read_five:Nr.read [53] 0=some 4602678819172646912:=by
 unfold Nr.read
 rw [if_pos (by decide),show Nr.num [53]=5 by decide]
 unfold Nr.rd
 rw [show ((0:Int) - (([53]:Str).length:Int)).toNat=0 by decide,show (-((0:Int) - (([53]:Str).length:Int))).toNat=1 by decide]
 refine Nr.near_some (by decide) (by decide) ?_ (.inr ?_)
 ·unfold Nr.Above;decide +kernel
 ·unfold Nr.Above;decide +kernel
theorem Nr.read_tenth:Nr.read [48,49] 1=some 4591870180066957722:=by
 unfold Nr.read
 rw [if_pos (by decide),show Nr.num [48,49]=1 by decide]
 unfold Nr.rd
 rw [show ((1:Int) - (([48,49]:Str).length:Int)).toNat=0 by decide,show (-((1:Int) - (([48,49]:Str).length:Int))).toNat=1 by decide]
 refine Nr.near_some (by decide) (by decide) ?_ (.inr ?_)
 ·unfold Nr.Above;decide +kernel
 ·unfold Nr.Above;decide +kernel
theorem Nr.parse_tenth:Nr.parse [48,46,49]=(4591870180066957722,0):=by
 have h1:Nr.ahead [48,46,49]++Nr.behind [48,46,49]=[48,49]:=by decide
 have h2:((Nr.ahead [48,46,49]).length:Int)+Nr.expo (Nr.tail [48,46,49])=1:=by decide
 rw [Nr.parse_eq];unfold Nr.parse0
 rw [if_neg (by decide),if_neg (by decide),h1,h2,Nr.read_tenth]
 simp
theorem nr_ReadA.ok:KO 9 (nr_ReadA.c) nr_ReadA.sg :=
 spec_sub fun ti to_ h=>⟨nr_Read.c,nr_Read.ok,by
  unfold nr_ReadA.c at h
  split at h
  ·obtain ⟨h1,h2⟩:=h
   obtain ⟨rfl,rfl⟩:=of_decide_eq_true h1
   subst h2
   unfold nr_Read.c
   show _=_
   rw [Nr.read_five];rfl
  ·exact h.elim⟩
theorem nr_ParseA.ok:KO 11 (nr_ParseA.c) nr_ParseA.sg :=
 spec_sub fun ti to_ h=>⟨nr_Parse.c,nr_Parse.ok,by
  unfold nr_ParseA.c at h
  split at h
  ·obtain ⟨h1,h2⟩:=h
   obtain rfl:=of_decide_eq_true h1
   subst h2
   unfold nr_Parse.c
   refine ⟨by decide,?_⟩
   rw [Nr.parse_tenth]
  ·exact h.elim⟩
theorem nr_awake.goal:nr_awake.F=some [.b true]:=by
 refine nr_awake.F_in ?_
 intro v1 h1 v2 h2 v3 h3 v4 h4
 subst h1 h2 h3
 rw [h4];rfl
end Go.Eng
namespace Go.Eng
open Go.Proofs
theorem nr_awake.fit:([]:List TV).length=nr_awake.d.np∧nr_awake.d.run (envL nrGl nr_awake.env) []=some (([(.b (true))]:List TV)++nr_awake.d.lent.map fun q=>([]:List TV).getD q.1 .dead) :=
 ⟨by kernel_rfl,Eq.trans (b:=nr_awake.F ) (by kernel_rfl) (Eq.trans (nr_awake.goal ) (by kernel_rfl))⟩
theorem nr_awake.ok:KO 8 (nr_awake.c) nr_awake.sg :=
 meets (l:=nr_awake.env) (all_cons nr_ReadA.ok (all_cons nr_ParseA.ok all_nil)) nr_awake.chk (by
   intro ins outs h
   unfold nr_awake.c at h
   split at h
   ·cases h;exact nr_awake.fit
   ·exact h.elim)
end Go.Eng
set_option maxRecDepth 100000
namespace Go.Eng
open Go.Proofs
noncomputable section
def nr_NearWhole.sg:FSig:={}
def nr_NearWhole.c:Ctr:=fun l=>match l with
 | [.i .i64 v] => .if_ (Nr.i64 v) [(.b (true))]
 | _ => .err
def nr_NearWhole.env:EV:=[(8,(nr_awake.c,nr_awake.sg)),(11,(nr_Parse.c,nr_Parse.sg)),(13,(r9_OfInt.c,r9_OfInt.sg)),(14,(r5_Int.c,r5_Int.sg))]
def nr_NearWhole.E:TEnv:=envL nrGl nr_NearWhole.env
def nr_NearWhole.m:TM:=oS [oW (.b false) 2] (.seq (oS [oC 8 0 1 [] 7,oK (.k (.un .not)) [7] [8]] (.cond (.s 8) [] (oS [oW (.b false) 2] .ret) .skip)) none (oS [oV 0 10,oC 13 1 2 [10] 11,oV 11 9,oE 0 9 12,oE 1 9 13,oV 12 3,oV 13 4] (oS [oV 0 15,oC 14 1 1 [15] 16,oC 11 1 2 [16] 17,oV 17 14,oE 0 14 18,oE 1 14 19,oV 18 5,oV 19 6] (oS [oV 6 20,oI .eql 20 (.i .i64 0) 21,oV 21 22,oG 22 true (oV 4 23),oG 22 true (oK (.k (.un .not)) [23] [24]),oG 22 true (oV 24 25),oG 25 false (oV 3 26),oG 25 false (oV 5 27),oG 25 false (oB .eql 26 27 28),oG 22 true (oX (.k .pick) [.s 25,.c (.b true),.s 28] [29]),oP 22 29 false 30,oV 30 2] .ret))))
def nr_NearWhole.d:TFD:=D0 1 nr_NearWhole.m [.t 2]
def nr_NearWhole.F (v:Int):OT:=nr_NearWhole.d.run nr_NearWhole.E [(.i .i64 v)]
theorem nr_NearWhole.F_in (v:Int) {ρ:OT} (K:∀(v1:Bool) (h1:v1=((decide (((Nr.parse ((Nr.itoa v))).2)=(0:Int)))&&(!(!((Nr.ofInt v).isSome))))) (v2:Bool) (h2:v2=(cond (!((Nr.ofInt v).isSome)) true (decide ((Nr.pat (Nr.ofInt v))=((Nr.parse ((Nr.itoa v))).1))))) (v3:Bool) (h3:v3=(cond (decide (((Nr.parse ((Nr.itoa v))).2)=(0:Int))) v2 false)),cond (!(true))
  (some [(.b false)])
  (ck (Nr.i64 v) (ck (Nr.i64 v) (ck (decide ((((Nr.itoa v))).length≤1099511627776)) (ck (!(decide (((Nr.parse ((Nr.itoa v))).2)=(0:Int))) || (decide (((Nr.parse ((Nr.itoa v))).2)=(0:Int)))) (ck (!(decide (((Nr.parse ((Nr.itoa v))).2)=(0:Int))) || (decide (((Nr.parse ((Nr.itoa v))).2)=(0:Int)))) (ck (!v1 || (v1&&v1)) (ck (!(decide (((Nr.parse ((Nr.itoa v))).2)=(0:Int))) || ((decide (((Nr.parse ((Nr.itoa v))).2)=(0:Int)))&&((!((Nr.ofInt v).isSome)) || v1))) (ck (!(decide (((Nr.parse ((Nr.itoa v))).2)=(0:Int))) || (decide (((Nr.parse ((Nr.itoa v))).2)=(0:Int)))) (some [(.b v3)])))))))))=ρ):nr_NearWhole.F v=ρ:=Eq.trans (by kernel_rfl) (K _ rfl _ rfl _ rfl)
theorem nr_NearWhole.chk:CK 7 nr_NearWhole.env nr_NearWhole.d:=ckOf (by kernel_rfl)
end
end Go.Eng
namespace Go.Eng
open Go.IntWalk
namespace Nr
theorem run_all {s:Str} (h:s.all isDig=true):run s=s.length:=by
 have:=(takeWhile_all (b:=[]) h (.inl rfl)).1
 rw [List.append_nil] at this
 unfold run
 rw [this]
theorem lexeme_body (s:Str):lexeme s=if run (body s)=0∨((body s).getD 0 0=48∧1<run (body s)) then 0 else lexFrac ((body s).drop (run (body s))):=rfl
theorem body_dec (n:Nat) (g:Bool):body (if g then 45 :: dec n else dec n)=dec n∧((if g then 45 :: dec n else dec n).getD 0 0=45 ↔ g=true):=by
 obtain ⟨d1,d2,d3,d4⟩:=dec_ok n
 cases g
 ·rw [if_neg (by decide)]
  cases hd:dec n with
  | nil=>exact (d3 hd).elim
  | cons c r =>
   rw [hd,List.all_cons,Bool.and_eq_true] at d1
   have hc:=isDig_iff.1 d1.1
   refine ⟨?_,fun h=>?_,fun h=>by cases h⟩
   ·unfold body
    split
    ·rename_i heq;injection heq with h1 _;subst h1;exact absurd hc.1 (by decide)
    ·rfl
   ·have:c=45:=h
    subst this;exact absurd hc.1 (by decide)
 ·exact ⟨rfl,by simp⟩
theorem lex_dec (n:Nat) (g:Bool):lexeme (if g then 45 :: dec n else dec n)=1:=by
 obtain ⟨d1,d2,d3,d4⟩:=dec_ok n
 have hl:=List.length_pos_iff.2 d3
 rw [lexeme_body,(body_dec n g).1,run_all d1,if_neg,List.drop_length]
 ·rfl
 ·rintro (h | ⟨h1,h2⟩)
  ·omega
  ·by_cases c:n<10
   ·rw [dec_small c] at h2;simp at h2
   ·exact d4 (by omega) h1
theorem parse_of {s:Str} {n p:Nat} (hb:body s=dec n) (hx:lexeme s≠0) (hs:s.length≤300) (hn:near n 1=some p):parse s=(UInt64.ofNat (p+if s.getD 0 0=45 then 9223372036854775808 else 0),0):=by
 obtain ⟨d1,d2,d3,d4⟩:=dec_ok n
 have hlp:=List.length_pos_iff.2 d3
 have hl:(dec n).length≤300:=by have:=body_len s;rw [hb] at this;omega
 have hE:(dec n).all (fun c=>!isE c)=true:=List.all_eq_true.2 fun x hx=>by rw [(dig_noE (List.all_eq_true.1 d1 x hx)).1];rfl
 have h46:(dec n).all (· != 46)=true:=List.all_eq_true.2 fun x hx=>by
  have:=(dig_noE (List.all_eq_true.1 d1 x hx)).2.1
  simpa using this
 obtain ⟨t1,t2⟩:=takeWhile_all (b:=[]) hE (.inl rfl)
 obtain ⟨u1,u2⟩:=takeWhile_all (b:=[]) h46 (.inl rfl)
 rw [List.append_nil] at t1 t2 u1 u2
 have hm:mant s=dec n:=by unfold mant;rw [hb,t1]
 have ha:ahead s=dec n:=by unfold ahead;rw [hm,u1]
 have hbe:behind s=[]:=by unfold behind;rw [hm,u2];rfl
 have ht:tail s=[]:=by unfold tail;rw [hb,t2];rfl
 have hr:read (ahead s++behind s) (((ahead s).length:Int)+expo (tail s))=some p:=by
  have h0:expo []=0:=rfl
  rw [ha,hbe,ht,List.append_nil,h0]
  unfold read valid
  rw [d1,decide_eq_true (show 1≤(dec n).length∧(dec n).length≤300 from ⟨hlp,hl⟩),if_pos (by rfl),d2]
  unfold rd
  rw [show ((dec n).length:Int)+0 - (dec n).length=0 by omega]
  show near (n * 10 ^ 0) (10 ^ 0)=_
  rw [Nat.pow_zero,Nat.mul_one]
  exact hn
 have ep:parse s=match read (ahead s++behind s) ((ahead s).length+expo (tail s)) with
  | none=>(0,10)
  | some p=>(UInt64.ofNat (p+if s.getD 0 0=45 then 9223372036854775808 else 0),0):=by
  rw [parse_eq];unfold parse0
  rw [if_neg hx,if_neg (by omega)]
  rfl
 rw [ep,hr]
theorem parse_dec (n:Nat) (g:Bool) (hn:n<10 ^ 20) {p:Nat} (hp:near n 1=some p):(parse (if g then 45 :: dec n else dec n)).2=0∧(parse (if g then 45 :: dec n else dec n)).1=UInt64.ofNat (p+if g=true then 9223372036854775808 else 0):=by
 obtain ⟨b1,b2⟩:=body_dec n g
 have hl:=dec_len 20 n hn (by omega)
 have hx:lexeme (if g then 45 :: dec n else dec n)≠0:=by rw [lex_dec];decide
 have hs:(if g then 45 :: dec n else dec n).length≤300:=by
  cases g
  ·rw [if_neg (by decide)];omega
  ·rw [if_pos rfl,List.length_cons];omega
 generalize (if g then 45 :: dec n else dec n)=s at *
 rw [parse_of b1 hx hs hp]
 refine ⟨rfl,?_⟩
 by_cases c:g=true
 ·rw [if_pos c,if_pos (b2.2 c)]
 ·rw [if_neg c,if_neg (fun h=>c (b2.1 h))]
theorem near_join0 {n p:Nat} (h:V p * 2 ^ (-((0:Int)+1074)).toNat=n * 2 ^ ((0:Int)+1074).toNat) (hp:p≤top):near n 1=some p:=by
 classical
 rw [show (-((0:Int)+1074)).toNat=0 by decide,show ((0:Int)+1074).toNat=1074 by decide,Nat.pow_zero] at h
 have hv:=V_lt_succ p
 have e:=mul_two (a:=n) two1075_eq
 rw [near_of (a:=n) (b:=1) (p:=p) (by omega) (Nat.le_of_eq h) (by omega) hp,if_neg]
 unfold Above
 rw [e,mid_eq]
 omega
theorem join_cases (n:Nat) (g:Bool):(∃p,p≤top∧near n 1=some p∧join g n 0=some (p+if g then 9223372036854775808 else 0))∨join g n 0=none:=by
 classical
 by_cases hx:∃p,p≤top∧V p * 2 ^ (-((0:Int)+1074)).toNat=n * 2 ^ ((0:Int)+1074).toNat
 ·obtain ⟨p,h1,h2⟩:=hx
  exact .inl ⟨p,h1,near_join0 h2 h1,join_some g h1 h2⟩
 ·exact .inr (join_none g fun p hp h=>hx ⟨p,hp,h⟩)
theorem v_top_ge:2 ^ 1023 * 2 ^ 1074≤V top:=by decide +kernel
theorem near_there {n:Nat} (h:n<2 ^ 1023):∃p,near n 1=some p:=by
 have hb:∀n k:Nat,V k≤n→n<V (top+1)→∃q,V q≤n∧n<V (q+1)∧q≤top:=by
  intro n k h1 h2
  have key:∀m k,k+m=top+1→V k≤n→∃q,V q≤n∧n<V (q+1)∧q≤top:=by
   intro m
   induction m with
   | zero=>intro k hk hv;have hk:k=top+1:=hk;rw [hk] at hv;omega
   | succ m ih =>
    intro k hk hv
    by_cases c:n<V (k+1)
    ·exact ⟨k,hv,c,by omega⟩
    ·exact ih (k+1) (by omega) (by omega)
  have hk:k≤top+1:=by
   rcases Nat.lt_or_ge (top+1) k with c | c
   ·have:=V_lt c;omega
   ·exact c
  exact key (top+1 - k) k (by omega) h1
 classical
 have hv:n * 2 ^ 1074<V top:=by
  refine Nat.lt_of_lt_of_le (Nat.mul_lt_mul_of_pos_right h (Nat.two_pow_pos 1074)) ?_
  exact v_top_ge
 have hv2:=V_lt_succ top
 obtain ⟨q,q1,q2,q3⟩:=hb (n * 2 ^ 1074) 0 (by rw [show V 0=0 by decide];exact Nat.zero_le _) (by omega)
 have hq:q+1≤top:=by
  rcases Nat.lt_or_ge q top with c | c
  ·exact c
  ·have:q=top:=by omega
   subst this;omega
 rw [near_of (a:=n) (b:=1) (p:=q) (by omega) (by omega) (by omega) q3]
 split
 ·exact ⟨_,rfl⟩
 ·exact ⟨_,rfl⟩
end Nr
theorem Nr.i64_wf {n:Int} (h:(Lit.int .i64 n).wf=true):Nr.i64 n=true:=by
 unfold Nr.i64
 refine decide_eq_true ?_
 simpa [Lit.wf,IntKind.min,IntKind.max,IntKind.signed,IntKind.bits] using h
theorem nr_NearWhole.goal (v:Int) (hp:Nr.i64 v=true):nr_NearWhole.F v=some [.b true]:=by
 have hv:=of_decide_eq_true (Nr.i64_of hp)
 refine nr_NearWhole.F_in v ?_
 intro v4 h4 v5 h5 v6 h6
 have e3:Nr.itoa v=if decide (v<0)=true then 45 :: Nr.dec v.natAbs else Nr.dec v.natAbs:=by
  rw [Nr.itoa_eq]
  by_cases c:v<0
  ·rw [if_pos c,if_pos (decide_eq_true c)]
  ·rw [if_neg c,if_neg (by rw [decide_eq_false c];decide)]
 have h20:v.natAbs<10 ^ 20:=by
  show v.natAbs<100000000000000000000
  omega
 obtain ⟨p,hnear⟩:=Nr.near_there (n:=v.natAbs) (Nat.lt_of_lt_of_le h20 (by decide +kernel))
 have hpd:=Nr.parse_dec v.natAbs (decide (v<0)) h20 hnear
 rw [←e3] at hpd
 have l3:(Nr.itoa v).length≤300:=by
  have:=Nr.dec_len 20 v.natAbs h20 (by omega)
  rw [e3];split <;> simp <;> omega
 rw [Nr.ofInt_eq] at h4 h5 ⊢
 have f1:(Nr.parse (Nr.itoa v)).1=UInt64.ofNat (p+if decide (v<0)=true then 9223372036854775808 else 0):=hpd.2
 have f2:(Nr.parse (Nr.itoa v)).2=0:=hpd.1
 rw [f2,decide_eq_true (rfl:(0:Int)=0)] at h4 h6 ⊢
 have e5:v5=true:=by
  rw [h5,f1]
  rcases Nr.join_cases v.natAbs (decide (v<0)) with ⟨q,q1,q2,q3⟩ | q3
  ·rw [hnear] at q2
   cases q2
   rw [q3]
   exact decide_eq_true rfl
  ·rw [q3];rfl
 have e6:v6=true:=by rw [h6,e5];rfl
 rw [hp,e6,ck_true,ck_true,decide_eq_true (show (Nr.itoa v).length≤1099511627776 by omega),h4]
 cases (Nr.join (decide (v<0)) v.natAbs 0).isSome <;> rfl
end Go.Eng
namespace Go.Eng
open Go.Proofs
theorem nr_NearWhole.fit (v:Int) (hp:(Nr.i64 v)=true):([.i .i64 v]:List TV).length=nr_NearWhole.d.np∧nr_NearWhole.d.run (envL nrGl nr_NearWhole.env) [.i .i64 v]=some (([(.b (true))]:List TV)++nr_NearWhole.d.lent.map fun q=>([.i .i64 v]:List TV).getD q.1 .dead) :=
 ⟨by kernel_rfl,Eq.trans (b:=nr_NearWhole.F v) (by kernel_rfl) (Eq.trans (nr_NearWhole.goal v hp) (by kernel_rfl))⟩
theorem nr_NearWhole.ok:KO 7 (nr_NearWhole.c) nr_NearWhole.sg :=
 meets (l:=nr_NearWhole.env) (all_cons nr_awake.ok (all_cons nr_Parse.ok (all_cons r9_OfInt.ok (all_cons r5_Int.ok all_nil)))) nr_NearWhole.chk (by
   intro ins outs h
   unfold nr_NearWhole.c at h
   split at h
   ·obtain ⟨hp,rfl⟩:=h;exact nr_NearWhole.fit _ hp
   ·exact h.elim)
end Go.Eng
