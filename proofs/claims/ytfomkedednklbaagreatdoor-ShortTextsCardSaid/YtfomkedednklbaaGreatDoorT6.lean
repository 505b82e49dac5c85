/- Texts of my own, one behind the other: ShP1, ShP2, ShP3, ShP4, ShP5, ShP6, SnShelf, SnHand, ShHand, ShRev, SnOKT, SnWhole, SnP, SnOK, ShA, ShQA, ShOKA, ShLTexts, ShQTexts, ShOKTexts. -/
import Derived.Test.YtfomkedednklbaaGreatDoorT5
import Derived.Ground.Names7Prog
import Derived.Ground.Names2Prog
import Derived.Shelf.Slices.ReverseS
import Derived.Shelf.Strings.SlTrimAscii
import Derived.Shelf.Small.Wraps
import Derived.Shelf.Strings.Search1
import Derived.Shelf.Strings.Search2
import Derived.Shelf.Strings.IndexAnyAll
import Derived.Shelf.Spec.TrailingZeros
import Derived.Shelf.Strings.OnBuilder
import Derived.Shelf.Strings.Repeat
import Derived.Shelf.LaysM
import Derived.Shelf.Strconv.Itoa3
import Derived.Shelf.Strconv.Itoa4
import Derived.Test.YtfomkedednklbaaGreatDoorProg
import Derived.WalkKit
import Derived.WalkSpells
set_option linter.unusedVariables false
set_option linter.unusedSimpArgs false
namespace Go.Eng
open Go.IntWalk
theorem NA (x:UInt64) (h:x.toNat<4503599627370496):((4503599627370496:UInt64) ||| x)=UInt64.ofNat (4503599627370496+x.toNat):=by
 apply jr
 rw [UInt64.toNat_or,jq]
 have:=ov (a:=1) (k:=52) (b:=x.toNat) h
 show 4503599627370496 ||| x.toNat=_
 rw [show (4503599627370496:Nat)=1 * 2 ^ 52 by decide,this]
 have:(1:Nat) * 2 ^ 52=4503599627370496:=by decide
 omega
theorem di.goal (b:UInt64):di.F b=some [.i .i64 (Nr.split b).1,.b (Nr.split b).2.1,.u64 (Nr.split b).2.2.1,.i .i64 (Nr.split b).2.2.2]:=by
 refine di.eh _ ?_
 intro v1 h1 v2 h2 v3 h3 v4 h4 v5 h5 v6 h6 v7 h7 v8 h8
 have hb:=b.toNat_lt
 have hv4:v4.toNat=b.toNat / 9223372036854775808:=by rw [h4,gB];rfl
 have hv1:v1.toNat=b.toNat / 4503599627370496:=by rw [h1,gB];rfl
 have e2:v2=((b.toNat / 4503599627370496 % 2048:Nat):Int):=by rw [h2,Fq,hv1,i64_in _ (by omega)]
 have e3:v3.toNat=b.toNat % 4503599627370496:=by rw [h3,A4]
 have en:decide (v4=1)=decide (9223372036854775808≤b.toNat):=by
  by_cases c:9223372036854775808≤b.toNat
  ·rw [ae c,ae (jr (by rw [hv4];show _=1;omega))]
  ·rw [af c,af (fun h=>by have:=congrArg UInt64.toNat h;rw [hv4] at this;have e1:(1:UInt64).toNat=1:=rfl;omega)]
 have ef:decide (v3=0)=decide (b.toNat % 4503599627370496=0):=by
  by_cases c:b.toNat % 4503599627370496=0
  ·rw [ae c,ae (jr (by rw [e3];exact c))]
  ·rw [af c,af (fun h=>by have:=congrArg UInt64.toNat h;rw [e3] at this;exact c this)]
 have QX:v3=UInt64.ofNat (b.toNat % 4503599627370496):=jr (by rw [e3,jq];omega)
 have e7:v7=UInt64.ofNat (4503599627370496+b.toNat % 4503599627370496):=by rw [h7,NA _ (by omega),e3]
 have e8:v8=((b.toNat / 4503599627370496 % 2048:Nat):Int) - 1075:=by rw [h8,e2,i64_in _ (by omega)]
 have kb:∀b:Bool,(!b || b)=true:=by decide
 rw [bE (kb _),bE (kb _),bE (kb _),bE (kb _),en]
 unfold Nr.split
 simp only
 rw [ef] at h5 h6
 generalize b.toNat / 4503599627370496 % 2048=x at *
 by_cases c1:x=2047
 ·rw [aG c1]
  have GC:decide (v2=2047)=true:=ae (by omega)
  rw [GC,aD] at h5
  rw [h5,GC]
  by_cases c2:b.toNat % 4503599627370496=0
  ·rw [ae c2,aG c2];rfl
  ·rw [af c2,aE c2];rfl
 ·rw [aE c1]
  have GC:decide (v2=2047)=false:=af (by omega)
  rw [GC,aw] at h5
  rw [h5,GC,aw,aw]
  by_cases c2:x=0
  ·have GD:decide (v2=0)=true:=ae (by omega)
   rw [GD,aD] at h6
   rw [h6,GD,aG c2]
   by_cases c3:b.toNat % 4503599627370496=0
   ·rw [ae c3,aG c3];rfl
   ·rw [af c3,aE c3,QX];rfl
  ·have GD:decide (v2=0)=false:=af (by omega)
   rw [GD,aw] at h6
   rw [h6,GD,aE c2,aw,aw,e7,e8]
theorem dN.goal (v:Int) (hp:Nr.i64 v=true):dN.F v=some [.s (Nr.itoa v)]:=by
 rw [dN.iC,hp];rfl
theorem wQ (k:Nat) (h:k≤400):10 ^ k<2 ^ 1400:=by
 have hk:∀n:Nat,n=400→10 ^ k≤10 ^ n:=fun n hn=>Nat.pow_le_pow_right (by omega) (by omega)
 exact Nat.lt_of_le_of_lt (hk 400 rfl) (by decide +kernel)
theorem ny {a b i j k:Nat} (h1:a<2 ^ i) (h2:b<2 ^ j) (h:i+j≤k):a * b<2 ^ k:=by
 refine jy (i:=i+j) ?_ h
 rw [Nat.pow_add]
 exact Nat.mul_lt_mul'' h1 h2
theorem Jr {a:Nat} {k:Int} (ha:a<2 ^ 1100) (hk : -400≤k∧k≤400):Sh.tA a k<2 ^ 2500:=ny (i:=1100) (j:=1400) (k:=2500) ha (wQ _ (by omega)) (by omega)
theorem Jq {a:Nat} {k:Int} (ha:a<2 ^ 1100) (hk : -400≤k∧k≤400):Sh.tB a k<2 ^ 2500:=ny (i:=1100) (j:=1400) (k:=2500) ha (wQ _ (by omega)) (by omega)
theorem dH.goal (a b:List UInt16) (k:Int) (hp:(Nt.is a&&Nt.is b&&decide (-400≤k∧k≤400∧Nt.val a<2 ^ 1100∧Nt.val b<2 ^ 1100))=true):dH.F a b k=some [.sl .ws (Nt.of (Sh.tA (Nt.val a) k)),.sl .ws (Nt.of (Sh.tB (Nt.val b) k))]:=by
 rw [aa,aa] at hp
 obtain ⟨⟨ha,hb⟩,hp⟩:=hp
 obtain ⟨k1,k2,k3,k4⟩:=aM hp
 refine dH.eh _ _ _ ?_
 intro v1 h1 v2 h2 v3 h3 v4 h4
 by_cases c:0≤k
 ·have h1:v1=Nt.of (10 ^ k.toNat):=h1
  have e:=wQ k.toNat (by omega)
  have V1:Nt.is v1=true:=by rw [h1];exact ic (i:=1400) e (by omega)
  rw [ae c,aD,bE (ae ⟨by omega,by omega,c,by omega,jy (i:=1400) (k:=4096) e (by omega)⟩),ha,V1]
  refine (bE (by rfl)).trans ?_
  rw [h2,h1,Nt.eJ]
  unfold Sh.tA Sh.tB
  rw [show (-k).toNat=0 by omega,Nat.pow_zero,Nat.mul_one,Nt.iR (Nt.iZ hb)]
 ·have ew:IntKind.i64.wrap (0 - k)=-k:=by rw [i64_in _ (by omega)];omega
  rw [ew] at h3
  have h3:v3=Nt.of (10 ^ (-k).toNat):=h3
  have e:=wQ (-k).toNat (by omega)
  have V0:Nt.is v3=true:=by rw [h3];exact ic (i:=1400) e (by omega)
  rw [af c,aw,ew,bE (ae ⟨by omega,by omega,by omega,by omega,jy (i:=1400) (k:=4096) e (by omega)⟩),hb,V0]
  refine (bE (by rfl)).trans ?_
  rw [h4,h3,Nt.eJ]
  unfold Sh.tA Sh.tB
  rw [show k.toNat=0 by omega,Nat.pow_zero,Nat.mul_one,Nt.iR (Nt.iZ ha)]
theorem dq.goal (a b:List UInt16) (x:Int) (hp:(Nt.is a&&Nt.is b&&decide (-400≤x∧x≤400∧Nt.val a<2 ^ 1100∧Nt.val b<2 ^ 1100))=true):dq.F a b x=some [.b (decide (Sh.tB (Nt.val b) (-x)≤Sh.tA (Nt.val a) (-x)))]:=by
 have Ub:=hp
 rw [aa,aa] at hp
 obtain ⟨⟨ha,hb⟩,hp⟩:=hp
 obtain ⟨k1,k2,k3,k4⟩:=aM hp
 refine dq.eh _ _ _ ?_
 intro v1 h1 v2 h2 v3 h3
 have ew:IntKind.i64.wrap (0 - x)=-x:=by rw [i64_in _ (by omega)];omega
 rw [ew] at h1 h2 ⊢
 have i1:Nt.is v1=true:=by rw [h1];exact ic (i:=2500) (Jr k3 (by omega)) (by omega)
 have i2:Nt.is v2=true:=by rw [h2];exact ic (i:=2500) (Jq k4 (by omega)) (by omega)
 rw [ha,hb,ae (⟨by omega,by omega,k3,k4⟩ : -400≤-x∧-x≤400∧Nt.val a<2 ^ 1100∧Nt.val b<2 ^ 1100),i1,i2]
 refine (bE (by rfl)).trans ((bE (by rfl)).trans ?_)
 rw [h3,h1,h2,Nt.eJ,Nt.eJ]
 rcases lB (Sh.tA (Nt.val a) (-x)) (Sh.tB (Nt.val b) (-x)) with ⟨k,l⟩ | ⟨k,l⟩ | ⟨k,l⟩
 ·rw [k,af (by omega),af (by omega)]
 ·rw [k,ae (by omega),ae (by omega)]
 ·rw [k,ae (by omega),ae (by omega)]
theorem KJ:(10:Nat) ^ 200<2 ^ 665:=by decide +kernel
theorem dn.goal (b:UInt64) (a:List UInt16) (p:Int) (hp:(Nt.is a&&decide (-1000≤p∧p≤1000∧0<Nt.val a∧Nt.val a<10 ^ 200))=true):dn.F b a p=some [.s ((Sh.jc b.toNat (Nt.val a) p).getD ([],0)).1,.i .i64 ((Sh.jc b.toNat (Nt.val a) p).getD ([],0)).2,.b (Sh.jc b.toNat (Nt.val a) p).isSome]:=by
 rw [aa] at hp
 obtain ⟨ha,hp⟩:=hp
 obtain ⟨k1,k2,k3,k4⟩:=aM hp
 refine dn.eh _ _ _ ?_
 intro v1 h1 v2 h2 v3 h3 v4 h4 v5 h5
 rw [Sh.vP] at h1 h2 ⊢
 rw [Sh.vX]
 have hl:=Nr.mj 200 (Nt.val a) k4 (by omega)
 rw [Nr.yp] at h2
 have e1:IntKind.i64.wrap (v1+p)=(Nr.dec (Nt.val a)).length+p:=by rw [h1,i64_in _ (by omega)]
 rw [e1,h2,Sh.vY k3 (by omega)] at h3 h4
 have kb:∀b:Bool,(!(!b) || ((!b)&&(!b)))=true∧(b || !b)=true:=by decide
 have PV:∀b:Bool,(!(!(!b)) || ((!(!b))&&(!(!b))))=true∧((!b) || (!(!b)))=true:=by decide
 rw [ha,db,ae (show (Nr.dec (Nt.val a)).length≤1099511627776∧([48]:bO).length≤100 from ⟨by omega,by decide⟩)]
 refine (bE (by rfl)).trans ?_
 rw [bE (PV _).1,bE (PV _).2,e1]
 cases hq:Nr.rd (Nt.val a) p with
 | none =>
  rw [hq] at h4
  have e4:v4=false:=h4
  rw [e4] at h5
  have e5:v5=true:=h5
  rw [e5,Sh.ki (by rw [hq];simp)];rfl
 | some q =>
  have hle:q≤9218868437227405311:=by
   unfold Nr.rd at hq
   exact Nr.Ik hq
  rw [hq] at h3 h4
  have e4:v4=true:=h4
  have e3:v3=UInt64.ofNat q:=h3
  have QX:v3.toNat=q:=by rw [e3,jq];omega
  rw [e4,a8,aw] at h5
  by_cases c:q=b.toNat
  ·have e5:v5=false:=by rw [h5,ae (jr (by rw [QX,c]))];rfl
   rw [e5,Sh.iQ (by rw [hq,c]),h2];rfl
  ·have e5:v5=true:=by rw [h5,af (fun e=>c (by rw [←QX,e]))];rfl
   rw [e5,Sh.ki (by rw [hq];simp [c])];rfl
theorem c8.goal (p:UInt64) (lo hi:Int):c8.F p lo hi=some [.b (Sh.wi p.toNat lo hi)]:=by
 refine c8.eh _ _ _ ?_
 intro v1 h1 v2 h2
 have kb:∀b:Bool,(!b || b)=true:=by decide
 rw [bE (by rfl),bE (kb _),bE (kb _),bE (kb _),bE (kb _),h1,h2]
 unfold Sh.wi
 by_cases c:p.toNat % 2=0
 ·have:p % 2=0:=jr (by rw [UInt64.toNat_mod];exact c)
  rw [ae this,aD,aG c]
  cases decide ((0:Int)≤lo) <;> rfl
 ·have:¬p % 2=0:=fun e=>c (by have:=congrArg UInt64.toNat e;rw [UInt64.toNat_mod] at this;exact this)
  rw [af this,aw,aE c]
  cases decide ((0:Int)<lo) <;> rfl
theorem cT.fj (x:Int) (hx : -100000≤x∧x≤100000):∀(n:Nat) (s:bO) (j:Nat),s.length=n→n+j≤100000→1≤n+j →
  cT.l1 x ((s.length:Int) - 1) (s++List.replicate j 48)=some [.s (if (s.reverse.dropWhile (· == 57)).reverse=[] then ([49],x+1) else ((s.reverse.dropWhile (· == 57)).reverse.dropLast++[(s.reverse.dropWhile (· == 57)).reverse.getLast?.getD 0+1],x):bO × Int).1,.i .i64 (if (s.reverse.dropWhile (· == 57)).reverse=[] then ([49],x+1) else ((s.reverse.dropWhile (· == 57)).reverse.dropLast++[(s.reverse.dropWhile (· == 57)).reverse.getLast?.getD 0+1],x):bO × Int).2]:=by
 intro n
 induction n with
 | zero =>
  intro s j hs hj h1
  obtain rfl:=List.length_eq_zero_iff.1 hs
  refine cT.dB _ _ _ ?_
  intro v1 g1 v2 g2 v3 g3 v4 g4 v5 g5 v6 g6 v7 g7
  have e2:v2=false:=g2
  have e5:v5=x+1:=by rw [g5,i64_in _ (by omega)]
  rw [e2,e5];rfl
 | succ n ih =>
  intro s j hs hj h1
  rcases Nr.gJ s with h | ⟨a,c,rfl⟩
  ·rw [h] at hs;simp at hs
  ·rw [ao,ay] at hs
   have hi:(((a++[c]).length:Int) - 1)=(a.length:Int):=by rw [ao,ay];omega
   have hL:((a++[c])++List.replicate j 48).length=a.length+1+j:=by rw [ao,ao,ay,List.length_replicate]
   have hg:∀y:UInt8,(((a++[y])++List.replicate j 48).getD a.length 0)=y:=fun y=>by
    rw [ak,List.getElem?_append_left (by rw [ao,ay];omega),←ak,iA]
   have qT:∀y:UInt8,((a++[c])++List.replicate j 48).set a.length y=(a++[y])++List.replicate j 48:=fun y=>by
    rw [aN,List.set_append_right _ _ (Nat.le_refl _),Nat.sub_self,aN];rfl
   rw [hi]
   refine cT.dB _ _ _ ?_
   intro v1 g1 v2 g2 v3 g3 v4 g4 v5 g5 v6 g6 v7 g7
   rw [au] at g1 g3 g6
   have e1:v1=c:=by rw [g1];exact hg c
   have e4:v4=(a.length:Int) - 1:=by rw [g4,i64_in _ (by omega)]
   have e7:v7=((a.length+1:Nat):Int):=by rw [g7,i64_in _ (by omega)];omega
   rw [qT] at g3 g6
   rw [ae (show (0:Int)≤(a.length:Int) by omega),aD] at g2
   have yd:cz (a.length:Int) ((a++[c])++List.replicate j 48).length=true:=cQ (by omega) (by omega)
   have HC:decide ((a.length:Int).toNat<((a++[c])++List.replicate j 48).length)=true:=ae (by omega)
   rw [ae (show (0:Int)≤(a.length:Int) by omega),yd,HC,bE (by rfl),bE (by rfl),bE (by rfl),bE (by rfl),g2,e1]
   by_cases hc:c=57
   ·have e9:(a++[(48:UInt8)])++List.replicate j 48=a++List.replicate (j+1) 48:=by rw [aN,List.replicate_succ];rfl
    rw [ae hc,aD,db,db,e4,g3,e9,ih a (j+1) (by omega) (by omega) (by omega)]
    have er:((a++[c]).reverse.dropWhile (· == 57))=a.reverse.dropWhile (· == 57):=by
     rw [List.reverse_append,List.reverse_singleton,List.singleton_append,List.dropWhile_cons,aG (by simp [hc])]
    rw [er]
   ·have er:((a++[c]).reverse.dropWhile (· == 57)).reverse=a++[c]:=by
     rw [List.reverse_append,List.reverse_singleton,List.singleton_append,List.dropWhile_cons,aE (by simp [hc])];simp
    have Zl:v6.length=a.length+1+j:=by rw [g6,ao,ao,ay,List.length_replicate]
    rw [af hc,aw,af (show ¬(a.length:Int)<0 by omega),aw,db,db,db,db,e7,bE (ju (by omega) (by omega) (by omega)),au,g6,er,aE (by simp),List.dropLast_concat,List.getLast?_concat,e1]
    have:((a++[c+1])++List.replicate j 48).take (a.length+1)=a++[c+1]:=by
     rw [List.take_append_of_le_length (by rw [ao,ay];omega),List.take_of_length_le (by rw [ao,ay];omega)]
    rw [this];rfl
theorem cT.goal (d:bO) (x:Int) (hp:decide (1≤d.length∧d.length≤100000∧-100000≤x∧x≤100000)=true):cT.F d x=some [.s (Sh.more d x).1,.i .i64 (Sh.more d x).2]:=by
 obtain ⟨p1,p2,p3,p4⟩:=aM hp
 refine cT.eh _ _ ?_
 intro v1 h1
 have e1:v1=(d.length:Int) - 1:=by rw [h1,i64_in _ (by omega)]
 have hlen:uV d.length=true:=pG.2 (by rw [iY];omega)
 have:=cT.fj x ⟨p3,p4⟩ d.length d 0 rfl (by omega) (by omega)
 rw [List.replicate_zero,aR] at this
 rw [bE hlen,e1]
 exact this
end Go.Eng
namespace Go.Eng
open Go.IntWalk
theorem B9 {d:List UInt16} {n:Nat} (hv:Nt.val d=n) (hl:d=[]∨65536 ^ (d.length - 1)≤n):d=Nt.of n:=by
 rw [←hv,Nt.iR]
 rcases hl with h | h
 ·rw [h];rfl
 ·by_cases h0:d=[]
  ·rw [h0];rfl
  ·have J7:=List.length_pos_iff.2 h0
   rw [mZ h0]
   simp only [Bool.not_eq_true',decide_eq_false_iff_not]
   intro e0
   have HD:=dA d (d.length - 1) (by omega)
   rw [show d.length - 1+1=d.length by omega,List.take_length,e0] at HD
   have eW:=Nt.gH (d.take (d.length - 1))
   rw [aJ,Nat.min_eq_left (by omega)] at eW
   have Qf:(0:UInt16).toNat=0:=rfl
   rw [Qf,Nat.mul_zero] at HD
   omega
theorem KD {a:List UInt16} (hn:Nt.norm a=true) (h0:a≠[]):65536 ^ (a.length - 1)≤Nt.val a:=by
 obtain ⟨h1,h2⟩:=mY hn h0
 have:65536 ^ (a.length - 1) * 1≤65536 ^ (a.length - 1) * (a.getD (a.length - 1) 0).toNat:=Nat.mul_le_mul_left _ h1
 omega
theorem bZ.kN (a b:List UInt16) (ha:a.length≤1000000) (DU:b.length≤a.length) (hn:Nt.norm a=true):∀(m i:Nat) (d:List UInt16) (k:Nat),i+m=a.length→d.length=i→k≤1→Nt.val d+65536 ^ i * k=Nt.val (a.take i)+Nt.val (b.take i) →
  bZ.l2 b k a.length i (d++a.drop i)=some [.sl .ws (Nt.of (Nt.val a+Nt.val b))]:=by
 intro m
 induction m with
 | zero =>
  intro i d k hi hl hk hv
  have hi:i=a.length:=hi
  subst hi
  refine bZ.jB _ _ _ _ _ ?_
  intro v1 h1 v2 h2 v3 h3 v4 h4 v5 h5 v6 h6
  rw [List.take_of_length_le (Nat.le_refl _),List.take_of_length_le DU] at hv
  rw [af (by omega),aw,List.drop_length,aR]
  by_cases c0:k=0
  ·subst c0
   rw [Nat.mul_zero,Nat.add_zero] at hv
   have:d=Nt.of (Nt.val a+Nt.val b):=B9 hv (by
    by_cases h0:a=[]
    ·left;rw [h0] at hl;exact List.length_eq_zero_iff.1 hl
    ·right;rw [hl];have:=KD hn h0;omega)
   rw [af (by omega),aw,bZ.JR,←this]
  ·have eH:k=1:=by omega
   subst eH
   have e6:v6=[(1:UInt16)]:=h6
   rw [ae (by omega),aD,e6,bE (ig (by rw [ay];omega) (by rw [ay];omega)),bZ.JR]
   have hv2:Nt.val (d++[1])=Nt.val a+Nt.val b:=by
    rw [Nt.fG,hl,←hv];rfl
   have:d++[1]=Nt.of (Nt.val a+Nt.val b):=B9 hv2 (.inr (by
    rw [ao,ay,Nat.add_sub_cancel,hl];omega))
   rw [this]
 | succ m ih =>
  intro i d k hi hl hk hv
  refine bZ.jB _ _ _ _ _ ?_
  intro v1 h1 v2 h2 v3 h3 v4 h4 v5 h5 v6 h6
  rw [au] at h1 h3
  have Uk:a.drop i=a.getD i 0 :: a.drop (i+1):=drop_cons (by omega) 0
  have hL:(d++a.drop i).length=a.length:=by rw [ao,bj];omega
  have e1:v1=a.getD i 0:=by
   rw [h1,ak,aK (by omega),hl,Nat.sub_self,Uk];rfl
  have hd:=v1.toNat_lt
  have hd3:=v3.toNat_lt
  rw [i64_in _ (by omega)] at h2 h4
  have hx:cz (i:Int) (d++a.drop i).length=true:=cQ (by omega) (by omega)
  have HC:decide ((i:Int).toNat<(d++a.drop i).length)=true:=ae (by omega)
  have qT:∀y:UInt16,(d++a.drop i).set i y=(d++[y])++a.drop (i+1):=fun y=>by
   rw [List.set_append_right _ _ (by omega),hl,Nat.sub_self,Uk,aN];rfl
  have next:∀q:Nat,q≤131071→q=k+v1.toNat+(if i<b.length then (b.getD i 0).toNat else 0)→bZ.j3 b q i a.length i (d++a.drop i)=some [.sl .ws (Nt.of (Nt.val a+Nt.val b))]:=by
   intro q Ua hq
   refine bZ.FJ _ _ _ _ _ _ ?_
   intro w1 g1 w2 g2 w3 g3
   rw [au,ob,qT] at g1
   have e2:w2=((q / 65536:Nat):Int):=by rw [g2];exact xI q
   have e3:w3=((i+1:Nat):Int):=by rw [g3,i64_in _ (by omega)];omega
   rw [hx,HC,db,db,g1,e2,e3]
   refine ih (i+1) _ _ (by omega) (by rw [ao,hl];rfl) (by omega) ?_
   have hb:Nt.val (b.take (i+1))=Nt.val (b.take i)+65536 ^ i * (if i<b.length then (b.getD i 0).toNat else 0):=by
    by_cases c:i<b.length
    ·rw [aG c,dA b i c]
    ·rw [aE c,List.take_of_length_le (by omega),List.take_of_length_le (by omega)];omega
   rw [hb,dA a i (by omega),←e1,Nt.fG,hl]
   simp only [Nt.val,Nat.mul_zero,Nat.add_zero,Nt.dE]
   rw [Nat.pow_succ,Nat.mul_assoc,Nat.add_assoc,←Nat.mul_add]
   have:q % 65536+65536 * (q / 65536)=q:=Nat.mod_add_div q 65536
   rw [this,hq,Nat.mul_add,Nat.mul_add]
   omega
  rw [ae (by omega),aD,hx,HC,db,db]
  by_cases c:i<b.length
  ·have e5:v5=((k+v1.toNat+v3.toNat:Nat):Int):=by
    rw [h5,h2,h4,i64_in ((k:Int)+v1.toNat) (by omega),i64_in _ (by omega)];omega
   rw [ae (by omega),aD,bE (cQ (by omega) (by omega)),e5]
   exact next _ (by omega) (by rw [aG c,h3])
  ·have e5:IntKind.i64.wrap ((k:Int)+v2)=((k+v1.toNat:Nat):Int):=by rw [h2,i64_in _ (by omega)];omega
   rw [af (by omega),aw,e5]
   exact next _ (by omega) (by rw [aE c,Nat.add_zero])
theorem bZ.goal (a b:List UInt16) (hp:(Nt.is a&&Nt.is b)=true):bZ.F a b=some [.sl .ws (Nt.of (Nt.val a+Nt.val b))]:=by
 rw [aa] at hp
 obtain ⟨ha,hb⟩:=hp
 have la:=Nt.jd ha
 have lb:=Nt.jd hb
 refine bZ.eh _ _ ?_
 intro v1 h1
 have e1:v1=false:=by rw [h1,ha,hb];rfl
 have key:∀a b:List UInt16,Nt.is a=true→Nt.is b=true→b.length≤a.length→bZ.j1 a b=some [.sl .ws (Nt.of (Nt.val a+Nt.val b))]∧True:=fun a b ha hb h=>⟨by
  have la:=Nt.jd ha
  have:=bZ.kN a b (by omega) h (Nt.iZ ha) a.length 0 [] 0 (by omega) rfl (by omega) (by simp [Nt.val])
  rw [aT,bg] at this
  rw [bZ.FL]
  first
  | (rw [bE (ig (by omega) (by omega))];exact this)
  ,trivial⟩
 rw [bE (ae (by omega)),ha,bE (by rw [ae (show b.length≤1099511627776 by omega)];rfl),bE (by rfl),bE (by rfl),e1,aw]
 by_cases c:(a.length:Int)<b.length
 ·rw [ae c,aD]
  first
  | exact ((key b a hb ha (by omega)).1).trans (by rw [Nat.add_comm])
  | exact (key a b ha hb (by omega)).1
 ·rw [af c,aw]
  first
  | exact (key a b ha hb (by omega)).1
  | exact ((key b a hb ha (by omega)).1).trans (by rw [Nat.add_comm])
theorem GI {n:Nat} (h:10000≤n):Nr.dec n=Nr.dec (n / 10000)++(Sh.eP (4 - ((Nr.dec (n % 10000)).length:Int))++Nr.dec (n % 10000)):=by
 obtain ⟨q1,q2,q3,q4⟩:=Nr.pf (n / 10000)
 obtain ⟨r1,r2,r3,r4⟩:=Nr.pf (n % 10000)
 have rl:=Nr.mj 4 (n % 10000) (by show n % 10000<10000;omega) (by omega)
 have hz:=Sh.vM (4 - ((Nr.dec (n % 10000)).length:Int))
 have HA:(Sh.eP (4 - ((Nr.dec (n % 10000)).length:Int))++Nr.dec (n % 10000)).length=4:=by
  unfold Sh.eP;rw [ao,List.length_replicate];omega
 have V6:Nr.num (Sh.eP (4 - ((Nr.dec (n % 10000)).length:Int)))=0:=Nr.iX _
 have SC:Nr.num (Nr.dec (n / 10000)++(Sh.eP (4 - ((Nr.dec (n % 10000)).length:Int))++Nr.dec (n % 10000)))=n:=by
  rw [Nr.fw,HA,Nr.fw,V6,q2,r2,Nat.zero_mul,Nat.zero_add]
  show n / 10000 * 10000+_=n
  omega
 have hu:=Nr.lO _ (Nr.dec (n / 10000)++(Sh.eP (4 - ((Nr.dec (n % 10000)).length:Int))++Nr.dec (n % 10000))) rfl (by rw [List.all_append,List.all_append,q1,hz,r1];rfl) (by simp [q3]) (by
  rw [ak,List.getElem?_append_left (List.length_pos_iff.2 q3),←ak];exact q4 (by omega))
 rw [SC] at hu
 exact hu.symm
theorem Fb {n K:Nat} (h:n<10000 ^ K):(Nt.of n).length≤K:=(Nt.jA n K).2 (Nat.lt_of_lt_of_le h (Nat.pow_le_pow_left (by omega) K))
theorem cw.fj:∀(K n:Nat) (ps:List bO),n<10000 ^ K→(n=0→ps≠[])→ps.length+K≤5000→(ps.map List.length).sum≤4 * ps.length →
  cw.l1 (Nt.of n) ps=some [.s ((if n=0 then [] else Nr.dec n)++ps.reverse.flatten)]:=by
 intro K
 induction K with
 | zero =>
  intro n ps hn h0 hl hs
  have QM:n=0:=by rw [Nat.pow_zero] at hn;omega
  exact fin n ps QM (h0 QM) (by omega) hs
 | succ K ih =>
  intro n ps hn h0 hl hs
  by_cases c:n=0
  ·exact fin n ps c (h0 c) (by omega) hs
  ·refine cw.dB _ _ ?_
   intro v1 h1 v2 h2 v3 h3 v4 h4 v5 h5 v6 h6
   rw [Nt.eJ] at h1 h2
   have h1:v1=Nt.of (n / 10000):=h1
   have e2:v2.toNat=n % 10000:=by
    rw [h2,Nt.dE];show n % 10000 % 65536=_;omega
   have e3:v3=((n % 10000:Nat):Int):=by rw [h3,e2,i64_in _ (by omega)]
   have ei:Nr.itoa v3=Nr.dec (n % 10000):=by rw [(Sh.nG (by omega)).1,e3,au]
   have i3:Nr.i64 v3=true:=ae (by omega)
   have rl:=Nr.mj 4 (n % 10000) (by show n % 10000<10000;omega) (by omega)
   have e5:v5=4 - ((Nr.dec (n % 10000)).length:Int):=by rw [h5,h4,ei,i64_in _ (by omega)]
   have hL:=Fb hn
   have nT:0<(Nt.of n).length:=by rw [Nt.lK (by omega)];simp
   have hq:n / 10000<10000 ^ K:=by
    rw [Nat.div_lt_iff_lt_mul (by omega),←Nat.pow_succ];exact hn
   have kP:((10000:UInt16)≠0):=by decide
   rw [ae (show (0:Int)<((Nt.of n).length:Int) by omega),aD,bE (ae ⟨by omega,kP⟩),i3,db,h1]
   by_cases c1:n / 10000=0
   ·rw [c1,Nt.gO]
    rw [af (by simp),aw,cw.oD,bE (ig (by rw [ay];omega) (by rw [ay];omega)),ei]
    have:=ih 0 (ps++[Nr.dec (n % 10000)]) (by exact Nat.pow_pos (by omega)) (fun _=>by simp) (by rw [ao,ay];omega) (by
     rw [List.map_append,List.sum_append,ao,ay]
     simp only [ah,aq,List.sum_cons,List.sum_nil];omega)
    rw [Nt.gO] at this
    rw [this,aG rfl,aE c,List.reverse_append,List.reverse_singleton,List.singleton_append,List.flatten_cons,show n % 10000=n by omega];rfl
   ·have J4:0<(Nt.of (n / 10000)).length:=by rw [Nt.lK (by omega)];simp
    have HA:(Sh.eP v5).length≤4:=by unfold Sh.eP;rw [List.length_replicate];omega
    have e6:v6.length=4:=by
     rw [h6,ei,e5];unfold Sh.eP;rw [ao,List.length_replicate];omega
    rw [ae (by omega),aD,bE (ae ⟨rfl,by omega,by omega⟩),bE (ae (by rw [ei];omega)),cw.oD,bE (ig (by rw [ay];omega) (by rw [ay];omega))]
    rw [ih (n / 10000) (ps++[v6]) hq (fun h=>(c1 h).elim) (by rw [ao,ay];omega) (by
     rw [List.map_append,List.sum_append,ao,ay]
     simp only [ah,aq,List.sum_cons,List.sum_nil];omega)]
    rw [aE c1,aE c,List.reverse_append,List.reverse_singleton,List.singleton_append,List.flatten_cons,GI (show 10000≤n by omega),h6,ei,e5]
    simp only [aN]
where
 fin (n:Nat) (ps:List bO) (h:n=0) (h0:ps≠[]) (hl:ps.length≤5000) (hs:(ps.map List.length).sum≤4 * ps.length):cw.l1 (Nt.of n) ps=some [.s ((if n=0 then [] else Nr.dec n)++ps.reverse.flatten)]:=by
  subst h
  rw [Nt.gO]
  refine cw.dB _ _ ?_
  intro v1 h1 v2 h2 v3 h3 v4 h4 v5 h5 v6 h6
  have he:ps.isEmpty=false:=by cases ps <;> simp at h0 ⊢
  have hf:ps.reverse.flatten.length≤20000:=by
   rw [List.length_flatten,List.map_reverse,List.sum_reverse];omega
  rw [af (by simp),aw,he,ae (show ps.length≤100000 by omega)]
  refine (bE (by rfl)).trans ?_
  rw [bE (ae ⟨rfl,by rw [List.length_reverse];omega,by omega⟩),aG rfl];rfl
theorem HL:(2:Nat) ^ 4096≤10000 ^ 2000:=by decide +kernel
theorem cw.goal (a:List UInt16) (hp:Nt.is a=true):cw.F a=some [.s (Sh.qc (Nt.val a))]:=by
 have hl:=Nt.jd hp
 rw [cw.iC,bE (ae (by omega)),hp,Sh.vP]
 refine Eq.trans (b:=_) (aw _ _) ?_
 by_cases c:a=[]
 ·subst c
  show _=some [TV.s (Nr.dec 0)]
  rw [Nr.kq (by omega)];rfl
 ·have h0:=List.length_pos_iff.2 c
  have nT:=Nt.qN (Nt.iZ hp) c
  rw [af (by omega),aw]
  have:=cw.fj 2000 (Nt.val a) [] (Nat.lt_of_lt_of_le (Nt.is_lt hp) HL) (fun h=>by omega) (by simp) (by simp)
  rw [Nt.iR (Nt.iZ hp),aE (by omega)] at this
  rw [this];simp
end Go.Eng
namespace Go.Eng
open Go.IntWalk
open Nr (V iI sh top gq rd)
theorem D6 (N:Nat):(UInt16.ofNat N % 2=0) ↔ N % 2=0:=by
 constructor
 ·intro h
  have:=congrArg UInt16.toNat h
  rw [UInt16.toNat_mod,Nt.dE] at this
  have e:N % 65536 % 2=0:=this
  omega
 ·intro h
  apply UInt16.toNat_inj.1
  rw [UInt16.toNat_mod,Nt.dE]
  show N % 65536 % 2=0
  omega
theorem Jp:(10:Nat) ^ 17<10 ^ 200:=by decide +kernel
theorem dO.goal (b:UInt64) (p q:List UInt16) (x n:Int) (hp:(Nt.is p&&Nt.is q&&Sh.nu (Nt.val p) (Nt.val q) x n)=true):dO.F b p q x n=some [.s ((Sh.mR b.toNat (Nt.val p) (Nt.val q) x n).getD ([],0)).1,.i .i64 ((Sh.mR b.toNat (Nt.val p) (Nt.val q) x n).getD ([],0)).2,.b (Sh.mR b.toNat (Nt.val p) (Nt.val q) x n).isSome]:=by
 rw [aa,aa] at hp
 obtain ⟨⟨ha,hb⟩,hp⟩:=hp
 unfold Sh.nu at hp
 obtain ⟨n1,n2,x1,x2,a0,a1,b0,b1,r1,r2⟩:=aM hp
 rw [Sh.ur]
 refine dO.eh _ _ _ _ _ ?_
 intro v1 h1 v2 h2 v3 h3 v4 h4 v5 h5 v6 h6 v7 h7 v8 h8 v9 h9 v10 kP v11 mf v12 lT pR Au mL zA mM Bj Aq Mo Hu Ki Ht Na D4 M9
 have ew:IntKind.i64.wrap (n - x)=n - x:=i64_in _ (by omega)
 have Xq:IntKind.i64.wrap (x - n)=x - n:=i64_in _ (by omega)
 have hP:=Jr (k:=n - x) a1 (by omega)
 have hQ:=Jq (k:=n - x) b1 (by omega)
 have Th:0<Sh.tB (Nt.val q) (n - x):=Sh.qe b0 _
 rw [ew] at h1 h2 ⊢
 rw [Xq] at h5 h6 h7 kP mf lT ⊢
 unfold Sh.some_
 simp only
 generalize Ml:Sh.tA (Nt.val p) (n - x)=P at *
 generalize Zh:Sh.tB (Nt.val q) (n - x)=Q at *
 have w1:Nt.val v1=P:=by rw [h1,Nt.eJ]
 have w2:Nt.val v2=Q:=by rw [h2,Nt.eJ]
 rw [w1,w2] at h3 h4
 have w3:Nt.val v3=P / Q:=by rw [h3,Nt.eJ]
 have w4:Nt.val v4=P % Q:=by rw [h4,Nt.eJ]
 have w8:Nt.val v8=1:=by rw [h8,Nt.eJ];rfl
 rw [w3,w8] at h9
 have w9:Nt.val v9=P / Q+1:=by rw [h9,Nt.eJ]
 rw [w3] at h5 h6 h7 ⊢
 rw [w9] at kP mf lT ⊢
 rw [w4] at Au
 have VE:Nt.val pR=P % Q * 2:=by rw [Au,Nt.eJ];rfl
 rw [VE,w2] at zA
 have N1:1≤P / Q:=(Nat.le_div_iff_mul_le Th).2 (by omega)
 have N2:P / Q<10 ^ 17:=(Nat.div_lt_iff_lt_mul Th).2 r2
 have N3:P / Q<2 ^ 2500:=Nat.lt_of_le_of_lt (Nat.div_le_self _ _) hP
 have N4:P / Q+1<10 ^ 200:=Nat.lt_of_le_of_lt (Nat.succ_le_of_lt N2) Jp
 have R1:P % Q<2 ^ 2500:=Nat.lt_trans (Nat.mod_lt _ Th) hQ
 have i1:Nt.is v1=true:=by rw [h1];exact ic (i:=2500) hP (by omega)
 have i2:Nt.is v2=true:=by rw [h2];exact ic (i:=2500) hQ (by omega)
 have i3:Nt.is v3=true:=by rw [h3];exact ic (i:=2500) N3 (by omega)
 have i4:Nt.is v4=true:=by rw [h4];exact ic (i:=2500) R1 (by omega)
 have i8:Nt.is v8=true:=by rw [h8];exact ic (i:=1) (by decide) (by omega)
 have i9:Nt.is v9=true:=by rw [h9];exact ic (i:=665) (Nat.lt_trans N4 KJ) (by omega)
 have i13:Nt.is pR=true:=by
  rw [Au]
  exact ic (i:=2502) (ny (i:=2500) (j:=2) (k:=2502) R1 (by decide) (by omega)) (by omega)
 have VO:v2≠[]:=by intro e;rw [e] at w2;simp [Nt.val] at w2;omega
 have VN:v3≠[]:=by intro e;rw [e] at w3;simp [Nt.val] at w3;omega
 have l3:=List.length_pos_iff.2 VN
 have Tu:Hu=UInt16.ofNat (P / Q):=by rw [Ki,h3,Nt.lK (by omega)];rfl
 have c1:(decide (-400≤n - x∧n - x≤400∧Nt.val p<2 ^ 1100∧Nt.val q<2 ^ 1100))=true:=ae ⟨by omega,by omega,a1,b1⟩
 have c3:(decide (-1000≤x - n∧x - n≤1000∧0<P / Q∧P / Q<10 ^ 200))=true:=ae ⟨by omega,by omega,by omega,Nat.lt_trans N2 Jp⟩
 have c9:(decide (-1000≤x - n∧x - n≤1000∧0<P / Q+1∧P / Q+1<10 ^ 200))=true:=ae ⟨by omega,by omega,by omega,N4⟩
 have hx:cz (0:Int) v3.length=true:=cQ (by omega) (by omega)
 rw [ha,hb,c1,i1,i2,ae VO,i3,c3,i8,i9,c9,i4,i13,hx]
 refine (bE (by rfl)).trans ((bE (by rfl)).trans ((bE (by rfl)).trans ((bE (by rfl)).trans ((bE (by rfl)).trans ((bE (by rfl)).trans ((bE (by rfl)).trans ?_))))))
 have Tt:Ht=decide (P % Q * 2=Q∧P / Q % 2=0):=by
  have e0:decide (UInt16.ofNat (P / Q) % 2=0)=decide (P / Q % 2=0):=bz.2 (D6 _)
  rw [Na,Tu,e0,zA]
  rcases lB (P % Q * 2) Q with ⟨k,l⟩ | ⟨k,l⟩ | ⟨k,l⟩
  ·rw [k,af (by decide),aw,af (by omega)]
  ·rw [k,ae (by decide),aD,bz];omega
  ·rw [k,af (by decide),aw,af (by omega)]
 have Mw:decide (mL<0)=decide (P % Q * 2<Q):=by
  rw [zA,bz]
  rcases lB (P % Q * 2) Q with ⟨k,l⟩ | ⟨k,l⟩ | ⟨k,l⟩ <;> rw [k] <;> omega
 rw [Mw] at Bj
 have hB:∀v7 v12 mM c:Bool,(!v7 || v7)=true∧(!(v7&&(!(!v12))) || (v7&&(!(!v12))))=true∧(!v7 || (v7&&((!v12) || (v7&&(!(!v12))))))=true∧(!(v7&&(!mM)) || (v7&&(!mM)))=true∧(!((v7&&(!mM))&&c) || (((v7&&(!mM))&&c)&&true))=true∧(!((v7&&(!mM))&&c) || ((v7&&(!mM))&&c))=true ∧
   (!(v7&&(!mM)) || ((v7&&(!mM))&&(!c || ((v7&&(!mM))&&c))))=true∧(!v7 || (v7&&(mM || (v7&&(!mM)))))=true:=by decide
 obtain ⟨t1,t2,t3,t4,t5,t6,t7,t8⟩:=hB v7 v12 mM (decide (mL=0))
 rw [←Mo] at t5 t6 t7
 have hz:(!decide ((2:UInt16)=0))=true:=rfl
 rw [hz,bE t1,bE t1,bE t2,bE t3,bE t1,bE t4,bE t4,bE t5,bE t6,bE t5,bE t6,bE t7,bE t8,bE t1]
 rw [Sh.vX] at h5 h6 h7 kP mf lT
 generalize Sh.reads b.toNat (P / Q) (x - n)=u at *
 generalize Sh.reads b.toNat (P / Q+1) (x - n)=o at *
 have Qc:D4=decide (u.isSome=true∧(o.isSome=false∨2 * (P % Q)<Q∨(2 * (P % Q)=Q∧P / Q % 2=0))):=by
  rw [M9,Bj,Tt,h7,lT]
  have q1:decide (P % Q * 2<Q)=decide (2 * (P % Q)<Q):=bz.2 (by omega)
  have q2:decide (P % Q * 2=Q∧P / Q % 2=0)=decide (2 * (P % Q)=Q∧P / Q % 2=0):=bz.2 (by omega)
  rw [q1,q2]
  by_cases k1:2 * (P % Q)<Q <;> by_cases k2:(2 * (P % Q)=Q∧P / Q % 2=0) <;> cases u.isSome <;> cases o.isSome <;> simp [k1,k2]
 by_cases hc:u.isSome=true∧(o.isSome=false∨2 * (P % Q)<Q∨(2 * (P % Q)=Q∧P / Q % 2=0))
 ·rw [Qc,ae hc,aD,aG hc,h5,h6,hc.1]
 ·rw [Qc,af hc,aw,aE hc,kP,mf,lT]
theorem Hh (b:UInt64):(b &&& ~~~(9223372036854775808:UInt64)).toNat=Sh.iJ b:=by
 have e:(~~~(9223372036854775808:UInt64))=9223372036854775807:=by decide
 rw [e,UInt64.toNat_and]
 exact Nat.and_two_pow_sub_one_eq_mod b.toNat 63
theorem pz {b:UInt64} (h:(Nr.split b).1=2):0<Sh.iJ b∧Sh.iJ b≤top∧(Nr.split b).2.2.1.toNat=iI (Sh.iJ b)∧(Nr.split b).2.2.2=(sh (Sh.iJ b):Int) - 1074:=by
 have hb:=b.toNat_lt
 have hx:b.toNat / 4503599627370496 % 2048=Sh.iJ b / 4503599627370496:=by unfold Sh.iJ;omega
 have hf:b.toNat % 4503599627370496=Sh.iJ b % 4503599627370496:=by unfold Sh.iJ;omega
 have hm:Sh.iJ b<9223372036854775808:=Nat.mod_lt _ (by omega)
 unfold Nr.split at h ⊢
 simp only [hx,hf] at h ⊢
 generalize Sh.iJ b=p at *
 unfold iI sh top
 by_cases c1:p / 4503599627370496=2047
 ·rw [aG c1] at h
  by_cases c2:p % 4503599627370496=0
  ·rw [aG c2] at h;simp at h
  ·rw [aE c2] at h;simp at h
 ·rw [aE c1] at h ⊢
  by_cases c2:p / 4503599627370496=0
  ·rw [aG c2] at h ⊢
   by_cases c3:p % 4503599627370496=0
   ·rw [aG c3] at h;simp at h
   ·rw [aE c3,aG (show p<4503599627370496 by omega)]
    refine ⟨by omega,by omega,?_,?_⟩
    ·show (UInt64.ofNat _).toNat=_;rw [jq];omega
    ·show (-1074:Int)=_;omega
  ·rw [aE c2,aE (show ¬p<4503599627370496 by omega)]
   refine ⟨by omega,by omega,?_,?_⟩
   ·show (UInt64.ofNat _).toNat=_;rw [jq];omega
   ·show ((p / 4503599627370496:Nat):Int) - 1075=_;omega
def xC (i:Nat):Bool :=
 let k:Int:=(i:Int) - 1100
 let x:=Int.tdiv (k * 30103) 100000 - 2
 decide (10 ^ (x - 1).toNat * 2 ^ (-(k - 1)).toNat≤2 ^ (k - 1).toNat * 10 ^ (-(x - 1)).toNat)&&decide (-390≤x)
theorem Dt:∀i,i<2201→xC i=true:=by
 have h:(List.range 2201).all xC=true:=by decide +kernel
 intro i hi
 exact aL.1 h i (List.mem_range.2 hi)
end Go.Eng
namespace Go.Eng
open Go.IntWalk
open Nr (V iI sh top gq rd)
theorem nE (a b:Int):a<b∨b≤a:=by omega
theorem Ae (n:Nat) (h:0<n):2 ^ (Nt.bits n - 1)≤n∧n<2 ^ Nt.bits n∧0<Nt.bits n:=Nt.iT h
theorem B2 {a b:Nat} (h:a<b):2 ^ a<2 ^ b:=Nat.pow_lt_pow_right (by omega) h
theorem vj (p:Nat) (ht:p≤top):Sh.gN p<2 ^ 1100∧Sh.fq p<2 ^ 1100∧Nt.bits (Sh.gN p)≤1100∧Nt.bits (Sh.fq p)≤1080:=by
 have h1:=Nr.qk p
 have h2:=Nr.uv ht
 have hm:iI p<2 ^ 53:=h1
 have ha:Sh.gN p<2 ^ 1100:=ny (i:=53) (j:=972) (k:=1100) hm (B2 (b:=972) (by omega)) (by omega)
 have hb:Sh.fq p<2 ^ 1080:=B2 (b:=1080) (by omega)
 refine ⟨ha,jy (i:=1080) (k:=1100) hb (by omega),?_,?_⟩
 ·exact Nt.kF (k:=1100) ha
 ·exact Nt.kF (k:=1080) hb
theorem KH:(2:Nat) ^ 1024<10 ^ 310:=by decide +kernel
theorem KG:(2:Nat) ^ 1074<10 ^ 330:=by decide +kernel
theorem Hp {p:Nat} (h:p≤top):V p<2 ^ 1024 * 2 ^ 1074:=by
 have h1:=Nr.Qq h
 have h2:=Nr.lC top
 have h3:V (top+1)=2 ^ 1024 * 2 ^ 1074:=by decide +kernel
 rw [←h3]
 exact Nat.lt_of_le_of_lt h1 h2
theorem Qh {a b A K T V':Nat} (hb:0<b) (h:a * K=V' * b) (hV:V'<T * K) (hA:T<A):a<A * b:=by
 by_cases c:K=0
 ·subst c;rw [Nat.mul_zero] at hV;omega
 ·have hK:0<K:=by omega
  refine Nat.lt_of_mul_lt_mul_right (a:=K) ?_
  rw [h]
  have:V' * b<T * K * b:=Nat.mul_lt_mul_of_pos_right hV hb
  refine Nat.lt_trans this ?_
  rw [Nat.mul_right_comm]
  exact Nat.mul_lt_mul_of_pos_right (Nat.mul_lt_mul_of_pos_right hA hb) hK
theorem Qg {a b A K V':Nat} (ha:0<a) (h:a * K=V' * b) (hV:0<V') (hA:K<A):b<a * A:=by
 have h1:1 * b≤V' * b:=ar _ hV
 have h2:a * K<a * A:=Nat.mul_lt_mul_of_pos_left hA ha
 omega
theorem Mz {a b n d:Nat} (hn:n≤d) (h:10 ^ d * b≤a) (g:a<10 ^ n * b):False:=by
 have:=ar b (Nr.jK hn)
 omega
theorem vc {p:Nat} (hp:0<p) (ht:p≤top) : -330≤Sh.dx p∧Sh.dx p≤311:=by
 obtain ⟨h1,h2⟩:=Sh.Cz hp
 have DU:=Sh.Hn p
 have hb:=Sh.iF p
 have hV:0<V p:=by have:=Nr.Aj hp;omega
 have ha:0<Sh.gN p:=Nat.mul_pos (Sh.pF hp) (Nat.two_pow_pos _)
 constructor
 ·rcases nE (Sh.dx p) (-330) with c | c
  ·exfalso
   have g:=Qg ha DU hV KG
   have e0:(Sh.dx p).toNat=0:=by omega
   rw [e0,Nat.pow_zero,Nat.one_mul] at h2
   have e1:Sh.gN p * 10 ^ 330≤Sh.gN p * 10 ^ (-(Sh.dx p)).toNat:=Nat.mul_le_mul_left _ (Nr.jK (a:=330) (by omega))
   exact Nat.lt_irrefl _ (Nat.lt_trans g (Nat.lt_of_le_of_lt e1 h2))
  ·exact c
 ·rcases nE 311 (Sh.dx p) with c | c
  ·exfalso
   have g:=Qh hb DU (Hp ht) KH
   have e0:(-(Sh.dx p - 1)).toNat=0:=by omega
   rw [e0,Nat.pow_zero,Nat.mul_one] at h1
   exact Mz (n:=310) (by omega) h1 g
  ·exact c
theorem pM {p:Nat} (hp:0<p) (x:Int):Sh.tB (Sh.fq p) (-x)≤Sh.tA (Sh.gN p) (-x) ↔ x<Sh.dx p:=by
 obtain ⟨h1,h2⟩:=Sh.Cz hp
 have hb:=Sh.qe (Sh.iF p) (-x)
 constructor
 ·intro h
  rcases nE x (Sh.dx p) with c | c
  ·exact c
  ·exfalso
   have key:Sh.tA (Sh.gN p) (-x)<Sh.tB (Sh.fq p) (-x):=by
    unfold Sh.tA Sh.tB
    refine Nat.lt_of_mul_lt_mul_right (a:=10 ^ (-(Sh.dx p)).toNat) ?_
    rw [Nat.mul_right_comm]
    refine Nat.lt_of_lt_of_le (Nat.mul_lt_mul_of_pos_right h2 (Nr.dG _)) ?_
    rw [Nat.mul_comm (10 ^ (Sh.dx p).toNat),Nat.mul_assoc,Nat.mul_assoc,←Nat.pow_add,←Nat.pow_add]
    exact Nat.mul_le_mul_left _ (Nr.jK (by omega))
   omega
 ·intro h
  have h3:10 ^ (Sh.dx p - 1).toNat * Sh.fq p * 10 ^ (-x).toNat≤Sh.gN p * 10 ^ (-(Sh.dx p - 1)).toNat * 10 ^ (-x).toNat:=ar _ h1
  unfold Sh.tA Sh.tB
  refine Nat.le_of_mul_le_mul_right (c:=10 ^ (-(Sh.dx p - 1)).toNat) ?_ (Nr.dG _)
  rw [Nat.mul_right_comm (Sh.gN p)]
  refine Nat.le_trans ?_ h3
  rw [Nat.mul_assoc,←Nat.pow_add,Nat.mul_comm (10 ^ (Sh.dx p - 1).toNat),Nat.mul_assoc,←Nat.pow_add]
  exact Nat.mul_le_mul_left _ (Nr.jK (by omega))
theorem Gi {p:Nat} (hp:0<p) (ht:p≤top):Int.tdiv ((((Nt.bits (Sh.gN p):Nat):Int) - (Nt.bits (Sh.fq p):Nat)) * 30103) 100000 - 2≤Sh.dx p∧-390≤Int.tdiv ((((Nt.bits (Sh.gN p):Nat):Int) - (Nt.bits (Sh.fq p):Nat)) * 30103) 100000 - 2:=by
 have ha:0<Sh.gN p:=Nat.mul_pos (Sh.pF hp) (Nat.two_pow_pos _)
 obtain ⟨a1,a2,a3⟩:=Ae _ ha
 obtain ⟨b1,b2,b3⟩:=Ae _ (Sh.iF p)
 obtain ⟨_,_,ba,bb⟩:=vj p ht
 obtain ⟨h1,h2⟩:=Sh.Cz hp
 generalize hi:(Nt.bits (Sh.gN p)+1100 - Nt.bits (Sh.fq p))=i
 have g:=Dt i (by omega)
 unfold xC at g
 have ek:(i:Int) - 1100=((Nt.bits (Sh.gN p):Nat):Int) - (Nt.bits (Sh.fq p):Nat):=by omega
 simp only [ek,aa,az] at g
 obtain ⟨g1,g2⟩:=g
 refine ⟨?_,g2⟩
 generalize Int.tdiv ((((Nt.bits (Sh.gN p):Nat):Int) - (Nt.bits (Sh.fq p):Nat)) * 30103) 100000 - 2=x at *
 rcases nE (Sh.dx p) x with c | c
 ·exfalso
  generalize Nt.bits (Sh.gN p)=u at *
  generalize Nt.bits (Sh.fq p)=v at *
  generalize Sh.gN p=a at *
  generalize Sh.fq p=b at *
  generalize Sh.dx p=d at *
  -- 2^(u-1) * 10^(-d)<10^d * 2^v
  have s1:2 ^ (u - 1) * 10 ^ (-d).toNat<10 ^ d.toNat * 2 ^ v:=by
   refine Nat.lt_of_le_of_lt (ar _ a1) (Nat.lt_trans h2 ?_)
   exact Nat.mul_lt_mul_of_pos_left b2 (Nr.dG _)
  -- 10^(x-1) * 2^(-(k-1)) <= 2^(k-1) * 10^(-(x-1)),2^(k-1)<10^d * ..,d <= x - 1
  have s5:10 ^ (x - 1).toNat * 2 ^ (-(((u:Nat):Int) - (v:Nat) - 1)).toNat * (2 ^ v * 10 ^ (-d).toNat)≤2 ^ (((u:Nat):Int) - (v:Nat) - 1).toNat * 10 ^ (-(x - 1)).toNat * (2 ^ v * 10 ^ (-d).toNat):=ar _ g1
  have e4:2 ^ (((u:Nat):Int) - (v:Nat) - 1).toNat * 10 ^ (-(x - 1)).toNat * (2 ^ v * 10 ^ (-d).toNat)=(2 ^ (u - 1) * 10 ^ (-d).toNat) * (2 ^ (-(((u:Nat):Int) - (v:Nat) - 1)).toNat * 10 ^ (-(x - 1)).toNat):=by
   have:2 ^ (((u:Nat):Int) - (v:Nat) - 1).toNat * 2 ^ v=2 ^ (u - 1) * 2 ^ (-(((u:Nat):Int) - (v:Nat) - 1)).toNat:=Nr.yJ (by omega)
   rw [show 2 ^ (((u:Nat):Int) - (v:Nat) - 1).toNat * 10 ^ (-(x - 1)).toNat * (2 ^ v * 10 ^ (-d).toNat)=(2 ^ (((u:Nat):Int) - (v:Nat) - 1).toNat * 2 ^ v) * (10 ^ (-(x - 1)).toNat * 10 ^ (-d).toNat) by simp only [Nat.mul_assoc,Nat.mul_comm,Nat.mul_left_comm],this]
   simp only [Nat.mul_assoc,Nat.mul_comm,Nat.mul_left_comm]
  rw [e4] at s5
  have s6:(2 ^ (u - 1) * 10 ^ (-d).toNat) * (2 ^ (-(((u:Nat):Int) - (v:Nat) - 1)).toNat * 10 ^ (-(x - 1)).toNat)<(10 ^ d.toNat * 2 ^ v) * (2 ^ (-(((u:Nat):Int) - (v:Nat) - 1)).toNat * 10 ^ (-(x - 1)).toNat):=Nat.mul_lt_mul_of_pos_right s1 (Nat.mul_pos (Nat.two_pow_pos _) (Nr.dG _))
  have s7:=Nat.lt_of_le_of_lt s5 s6
  have e5:10 ^ (x - 1).toNat * 2 ^ (-(((u:Nat):Int) - (v:Nat) - 1)).toNat * (2 ^ v * 10 ^ (-d).toNat)=10 ^ ((x - 1).toNat+(-d).toNat) * (2 ^ (-(((u:Nat):Int) - (v:Nat) - 1)).toNat * 2 ^ v):=by
   rw [Nat.pow_add 10];simp only [Nat.mul_assoc,Nat.mul_comm,Nat.mul_left_comm]
  have e6:10 ^ d.toNat * 2 ^ v * (2 ^ (-(((u:Nat):Int) - (v:Nat) - 1)).toNat * 10 ^ (-(x - 1)).toNat)=10 ^ (d.toNat+(-(x - 1)).toNat) * (2 ^ (-(((u:Nat):Int) - (v:Nat) - 1)).toNat * 2 ^ v):=by
   rw [Nat.pow_add 10];simp only [Nat.mul_assoc,Nat.mul_comm,Nat.mul_left_comm]
  rw [e5,e6] at s7
  have s8:=Sh.sj (Nat.lt_of_mul_lt_mul_right s7)
  omega
 ·exact c
theorem bL.pY (u:UInt64) (p:Nat) (hu:u.toNat=p) (hp:0<p) (ht:p≤top) (x2 x3:List UInt16) (i2:Nt.is x2=true) (i3:Nt.is x3=true) (w2:Nt.val x2=Sh.gN p) (w3:Nt.val x3=Sh.fq p) (n0:Nat) (hn:n0≤17) (h0:∀j:Nat,1≤j→j<n0→Sh.some_ p (Sh.gN p) (Sh.fq p) (Sh.dx p) j=none) (h1:Sh.some_ p (Sh.gN p) (Sh.fq p) (Sh.dx p) n0=some (Sh.digits p)) :
  ∀m i:Nat,i+m=n0→1≤i→bL.l3 u (Sh.dx p) x2 x3 i=some [.s (Sh.digits p).1,.i .i64 (Sh.digits p).2,.b true]:=by
 obtain ⟨d1,d2⟩:=vc hp ht
 obtain ⟨al,bl,_,_⟩:=vj p ht
 have ha:0<Sh.gN p:=Nat.mul_pos (Sh.pF hp) (Nat.two_pow_pos _)
 have pre:∀i:Nat,1≤i→i≤17→Sh.nu (Sh.gN p) (Sh.fq p) (Sh.dx p) i=true:=fun i h1 h2=>by
  obtain ⟨r1,r2⟩:=Sh.qz hp (n:=i) (by omega)
  have t1:1 * Sh.tB (Sh.fq p) (i - Sh.dx p)≤10 ^ ((i:Int) - 1).toNat * Sh.tB (Sh.fq p) (i - Sh.dx p):=ar _ (Nr.dG _)
  have t2:10 ^ (i:Int).toNat * Sh.tB (Sh.fq p) (i - Sh.dx p)≤10 ^ 17 * Sh.tB (Sh.fq p) (i - Sh.dx p):=ar _ (Nr.jK (by omega))
  unfold Sh.nu
  exact ae ⟨by omega,by omega,by omega,by omega,ha,al,Sh.iF p,bl,by omega,Nat.lt_of_lt_of_le r2 t2⟩
 intro m
 induction m with
 | zero =>
  intro i hi QW
  have hi:i=n0:=hi
  subst hi
  refine bL.me _ _ _ _ _ ?_
  intro v1 g1 v2 g2 v3 g3 v4 g4
  rw [w2,w3,hu,Sh.ur,h1] at g1 g2 g3
  have e3:v3=true:=g3
  rw [i2,i3,w2,w3,pre i QW hn,e3]
  refine (bE (by rfl)).trans ?_
  rw [Option.getD_some] at g1 g2
  rw [aD,g1,g2]
 | succ m ih =>
  intro i hi QW
  refine bL.me _ _ _ _ _ ?_
  intro v1 g1 v2 g2 v3 g3 v4 g4
  rw [w2,w3,hu,Sh.ur,h0 i QW (by omega)] at g3
  have e3:v3=false:=g3
  have e4:v4=((i+1:Nat):Int):=by rw [g4,i64_in _ (by omega)];omega
  rw [i2,i3,w2,w3,pre i QW (by omega),e3]
  refine (bE (by rfl)).trans ?_
  rw [aw,e4]
  exact ih (i+1) (by omega) (by omega)
theorem bL.kN (u:UInt64) (p:Nat) (hu:u.toNat=p) (hp:0<p) (ht:p≤top) (x2 x3:List UInt16) (i2:Nt.is x2=true) (i3:Nt.is x3=true) (w2:Nt.val x2=Sh.gN p) (w3:Nt.val x3=Sh.fq p) :
  ∀(m:Nat) (x:Int),x+m=Sh.dx p→-390≤x→bL.l2 u x x2 x3=some [.s (Sh.digits p).1,.i .i64 (Sh.digits p).2,.b true]:=by
 obtain ⟨d1,d2⟩:=vc hp ht
 obtain ⟨al,bl,_,_⟩:=vj p ht
 intro m
 induction m with
 | zero =>
  intro x hx HC
  have hx:x=Sh.dx p:=by omega
  subst hx
  refine bL.jB _ _ _ _ ?_
  intro v1 g1
  have jW:¬(Sh.tB (Sh.fq p) (-(Sh.dx p))≤Sh.tA (Sh.gN p) (-(Sh.dx p))):=fun h=>by have:=(pM hp _).1 h;omega
  rw [i2,i3,w2,w3,ae (⟨by omega,by omega,al,bl⟩ : -400≤Sh.dx p∧Sh.dx p≤400∧Sh.gN p<2 ^ 1100∧Sh.fq p<2 ^ 1100)]
  refine (bE (by rfl)).trans ?_
  rw [af jW,aw]
  obtain ⟨n,n1,n2,n3,n4⟩:=Sh.first hp ht
  exact bL.pY u p hu hp ht x2 x3 i2 i3 w2 w3 n n2 n3 n4 (n - 1) 1 (by omega) (by omega)
 | succ m ih =>
  intro x hx HC
  refine bL.jB _ _ _ _ ?_
  intro v1 g1
  have e1:v1=x+1:=by rw [g1,i64_in _ (by omega)]
  rw [i2,i3,w2,w3,ae (⟨by omega,by omega,al,bl⟩ : -400≤x∧x≤400∧Sh.gN p<2 ^ 1100∧Sh.fq p<2 ^ 1100)]
  refine (bE (by rfl)).trans ?_
  rw [ae ((pM hp x).2 (by omega)),aD,e1]
  exact ih (x+1) (by omega) (by omega)
theorem Rc {α β γ:Type} (a:α) (b:β) (c:γ) (x:α × β × γ) (h:x=(a,b,c)):x.1=a∧x.2.1=b∧x.2.2=c:=by subst h;exact ⟨rfl,rfl,rfl⟩
theorem xQ {b:UInt64} (h:(Nr.split b).1=2):(Sh.dg b).1=(Sh.digits (Sh.iJ b)).1∧(Sh.dg b).2.1=(Sh.digits (Sh.iJ b)).2∧(Sh.dg b).2.2=true :=
 Rc _ _ _ _ ((Sh.Kp b).trans (aG h))
theorem GG {b:UInt64} (h:¬(Nr.split b).1=2):(Sh.dg b).1=[]∧(Sh.dg b).2.1=0∧(Sh.dg b).2.2=false:=by
 rw [Sh.Kp]
 unfold Sh.Q0
 rw [aE h]
 exact ⟨rfl,rfl,rfl⟩
theorem bL.gw (u:UInt64) (p:Nat) (hu:u.toNat=p) (hp:0<p) (ht:p≤top) (x1 x2:List UInt16) (j1:Nt.is x1=true) (j2:Nt.is x2=true) (k1:Nt.val x1=Sh.gN p) (k2:Nt.val x2=Sh.fq p):bL.j1 u x1 x2=some [.s (Sh.digits p).1,.i .i64 (Sh.digits p).2,.b true]:=by
 obtain ⟨al,bl,ba,bb⟩:=vj _ ht
 refine bL.jR _ _ _ ?_
 intro u1 g1 u2 g2 u3 g3 u4 g4 u5 g5
 rw [k1] at g1
 rw [k2] at g2
 obtain ⟨q1,q2⟩:=Gi hp ht
 obtain ⟨r1,r2⟩:=vc hp ht
 generalize hA:Nt.bits (Sh.gN p)=A at *
 generalize hB:Nt.bits (Sh.fq p)=B at *
 have e3:u3=((A:Int) - (B:Int)) * 30103:=by
  rw [g3,g1,g2,i64_in ((A:Int) - (B:Int)) (by omega),i64_in _ (by omega)]
 have e4:u4=Int.tdiv (((A:Int) - (B:Int)) * 30103) 100000:=by rw [g4,e3,i64_in _ (by omega)]
 have e5:u5=Int.tdiv (((A:Int) - (B:Int)) * 30103) 100000 - 2:=by rw [g5,e4,i64_in _ (by omega)]
 have hz:(!decide ((100000:Int)=0))=true:=by decide
 rw [j1,j2,db,db,hz,db]
 rw [←e5] at q1 q2
 exact bL.kN u p hu hp ht x1 x2 j1 j2 k1 k2 (Sh.dx p - u5).toNat u5 (by omega) (by omega)
theorem bL.goal (b:UInt64):bL.F b=some [.s (Sh.dg b).1,.i .i64 (Sh.dg b).2.1,.b (Sh.dg b).2.2]:=by
 refine bL.eh _ ?_
 intro v1 h1 v2 h2 v3 h3 v4 h4 v5 h5 v6 h6
 by_cases c:(Nr.split b).1=2
 ·obtain ⟨z1,z2,z3⟩:=xQ c
  rw [z1,z2,z3,ae c,a8,aw]
  clear z1 z2 z3
  obtain ⟨hp,ht,hm,he⟩:=pz c
  have hu:v1.toNat=Sh.iJ b:=by rw [h1];exact Hh b
  obtain ⟨al,bl,ba,bb⟩:=vj _ ht
  have FU:=Nr.uv ht
  have Pv:=Nr.qk (Sh.iJ b)
  rw [hm] at h2
  have w2:Nt.val v2=iI (Sh.iJ b):=by rw [h2,Nt.eJ]
  have w3:Nt.val v3=1:=by rw [h3,Nt.eJ];rfl
  have i2:Nt.is v2=true:=by rw [h2];exact ic (i:=53) Pv (by omega)
  have i3:Nt.is v3=true:=by rw [h3];exact ic (i:=1) (by decide) (by omega)
  have key:∀x1 x2:List UInt16,Nt.is x1=true→Nt.is x2=true→Nt.val x1=Sh.gN (Sh.iJ b)→Nt.val x2=Sh.fq (Sh.iJ b)→bL.j1 v1 x1 x2=some [.s (Sh.digits (Sh.iJ b)).1,.i .i64 (Sh.digits (Sh.iJ b)).2,.b true]:=bL.gw v1 _ hu hp ht
  rw [he] at h4 h5 ⊢
  by_cases c2:0≤(sh (Sh.iJ b):Int) - 1074
  ·have w4:Nt.val v4=Sh.gN (Sh.iJ b):=by rw [h4,Nt.eJ,w2];rfl
   have i4:Nt.is v4=true:=by rw [h4,w2];exact ic (i:=1100) al (by omega)
   have VC:Nt.val v3=Sh.fq (Sh.iJ b):=by rw [w3];unfold Sh.fq;rw [show (-((sh (Sh.iJ b):Int) - 1074)).toNat=0 by omega,Nat.pow_zero]
   rw [ae c2,aD,i2,ae (show 0≤(sh (Sh.iJ b):Int) - 1074∧(sh (Sh.iJ b):Int) - 1074≤4096 by omega)]
   refine (bE (by rfl)).trans ?_
   exact key v4 v3 i4 i3 w4 VC
  ·have e5:v5=-((sh (Sh.iJ b):Int) - 1074):=by rw [h5,i64_in _ (by omega)];omega
   have w6:Nt.val v6=Sh.fq (Sh.iJ b):=by rw [h6,Nt.eJ,w3,e5,Nat.one_mul];rfl
   have i6:Nt.is v6=true:=by
    rw [h6,w3,e5,Nat.one_mul];exact ic (i:=1100) bl (by omega)
   have VD:Nt.val v2=Sh.gN (Sh.iJ b):=by rw [w2];unfold Sh.gN;rw [show ((sh (Sh.iJ b):Int) - 1074).toNat=0 by omega,Nat.pow_zero,Nat.mul_one]
   rw [af c2,aw,i3,e5,ae (show 0≤-((sh (Sh.iJ b):Int) - 1074)∧-((sh (Sh.iJ b):Int) - 1074)≤4096 by omega)]
   refine (bE (by rfl)).trans ?_
   exact key v2 v6 i2 i6 VD w6
 ·obtain ⟨z1,z2,z3⟩:=GG c
  rw [z1,z2,z3,af c];rfl
end Go.Eng
namespace Go.Eng
open Go.IntWalk
open Nr (V iI sh top gq rd)
theorem rE (n:Int):(Sh.eP n).length=n.toNat:=by unfold Sh.eP;rw [List.length_replicate]
theorem qQ {v:Int} (h : -1000000≤v∧v≤1000000):Nr.i64 v=true:=ae (by omega)
theorem cX.gw (x:Int) (t:bO) (hx : -900≤x∧x≤900) (ht:t.length≤1000):cX.j1 x t=some [.s (t++(if x<1 then [101,45]++Nr.itoa (1 - x) else [101,43]++Nr.itoa (x - 1)))]:=by
 refine cX.jR _ _ ?_
 intro v1 h1 v2 h2 v3 h3 v4 h4
 have e1:v1=1 - x:=by rw [h1,i64_in _ (by omega)]
 have e3:v3=x - 1:=by rw [h3,i64_in _ (by omega)]
 by_cases c:x<1
 ·have il:=Sh.pI (v:=1 - x) (by omega) (by omega)
  have i1:Nr.i64 v1=true:=by rw [e1];exact qQ (by omega)
  rw [ae c,aD,aG c,i1,bE (ae (by show t.length+2≤_;omega)),db,bE (ae (by rw [ao,e1];show t.length+2+_≤_;omega)),h2,e1,aN]
 ·have il:=Sh.pI (v:=x - 1) (by omega) (by omega)
  have i3:Nr.i64 v3=true:=by rw [e3];exact qQ (by omega)
  rw [af c,aw,aE c,i3,bE (ae (by show t.length+2≤_;omega)),db,bE (ae (by rw [ao,e3];show t.length+2+_≤_;omega)),h4,e3,aN]
theorem cX.goal (d:bO) (x:Int) (hp:decide (1≤d.length∧d.length≤17∧-900≤x∧x≤900)=true):cX.F d x=some [.s (Sh.zd d x)]:=by
 obtain ⟨p1,p2,p3,p4⟩:=aM hp
 rw [Sh.zb]
 unfold Sh.laid
 refine cX.eh _ _ ?_
 intro v1 h1 v2 h2 v3 h3 v4 h4 v5 h5 v6 h6 v7 h7 v8 h8 v9 h9 v10 kP v11 mf
 have kb:∀b:Bool,(!b || b)=true∧(!b || (b&&b))=true:=by decide
 have e1:v1=decide (1≤x∧x≤21):=by rw [h1];by_cases c:1≤x <;> simp [c]
 have e2:v2=decide (1≤x∧x≤21∧(d.length:Int)≤x):=by
  rw [h2,e1]
  by_cases c:1≤x∧x≤21
  ·rw [ae c,aD,bz];omega
  ·rw [af c,aw,af (by omega)]
 have e6:v6=decide (-5≤x∧x≤0):=by rw [h6];by_cases c : -5≤x <;> simp [c]
 have e3:v3=x - d.length:=by rw [h3,i64_in _ (by omega)]
 have ew:IntKind.i64.wrap (0 - x)=-x:=by rw [i64_in _ (by omega)];omega
 rw [ew] at h7 ⊢
 rw [bE (kb _).1,bE (kb _).1,bE (kb _).2,bE (kb _).1,e2]
 by_cases c1:1≤x∧x≤21∧(d.length:Int)≤x
 ·rw [ae c1,aD,aG c1,bE (ae ⟨rfl,by omega,by omega⟩),bE (ae (by rw [rE];omega)),e3]
 ·rw [af c1,aw,aE c1,bE (kb _).1,bE (kb _).1,e1]
  by_cases c2:1≤x∧x≤21
  ·have l4:v4.length≤18:=by rw [h4,ao,aJ];show min _ _+1≤18;omega
   rw [ae c2,aD,aG c2,bE (ju (by omega) (by omega) (by omega)),bE (ae (by rw [aJ];show min _ _+1≤_;omega)),bE (ju (by omega) (by omega) (by omega)),bE (ae (by rw [bj];omega)),h5,h4,aN]
  ·rw [af c2,aw,aE c2,bE (kb _).1,bE (kb _).1,e6]
   by_cases c3 : -5≤x∧x≤0
   ·rw [ae c3,aD,aG c3,bE (ae ⟨rfl,by omega,by omega⟩),bE (ae (by rw [h7,rE];show 2+_≤_;omega)),bE (ae (by rw [ao,h7,rE];show 2+_+_≤_;omega)),h8,h7,aN]
   ·have l9:v9.length≤1:=by rw [h9,aJ];show min 1 _≤1;omega
    have l10:v10.length≤17:=by rw [kP,bj];omega
    have g9:v9=d.take 1:=h9
    have g10:v10=d.drop 1:=kP
    rw [af c3,aw,aE c3,bE (ju (by omega) (by omega) (by omega))]
    by_cases c4:1<d.length
    ·rw [ae (by omega),aD,bE (ju (by omega) (by omega) (by omega)),bE (ae (by show 1+v10.length≤_;omega)),bE (ae (by rw [ao];show v9.length+(1+v10.length)≤_;omega)),cX.gw x v11 ⟨p3,p4⟩ (by rw [mf,ao,ao];show v9.length+(1+v10.length)≤_;omega),aG c4,mf,g9,g10];rfl
    ·rw [af (by omega),aw,cX.gw x v9 ⟨p3,p4⟩ (by omega),aE c4,aR,g9]
theorem Br {b:UInt64} (h:(Nr.split b).1=2):(1≤(Sh.dg b).1.length∧(Sh.dg b).1.length≤17∧-900≤(Sh.dg b).2.1∧(Sh.dg b).2.1≤900)∧Sh.tD (Sh.dg b).1∧Nr.read (Sh.dg b).1 (Sh.dg b).2.1=some (Sh.iJ b):=by
 obtain ⟨hp,ht,hm,he⟩:=pz h
 obtain ⟨z1,z2,z3⟩:=xQ h
 obtain ⟨n,N,n1,n2,n3,n4,n5,n6,n7⟩:=Sh.sE hp ht
 obtain ⟨d1,d2⟩:=vc hp ht
 have hl:=Sh.Ad n1 n4
 have hN:N<10 ^ (n+1):=Nat.lt_of_le_of_lt n4 (Nat.pow_lt_pow_right (by omega) (by omega))
 have hL:=Nr.mj (n+1) N hN (by omega)
 have hr:=Sh.z6 hp ht
 obtain ⟨q1,q2,q3,q4⟩:=Nr.pf N
 obtain ⟨t,t1,t2⟩:=Nr.ib (Nr.dec N)
 have ne:Nr.cW (Nr.dec N)≠[]:=by
  intro e0
  have hn:=congrArg Nr.num t1
  rw [Nr.fw,Nr.iX,List.length_replicate,Nat.add_zero,q2,e0,show Nr.num []=0 from rfl,Nat.zero_mul] at hn
  omega
 have Xf:=Nr.Bt N
 have fO:=List.length_pos_iff.2 ne
 rw [z1,z2]
 refine ⟨?_,?_,hr⟩
 ·rw [n6]
  refine ⟨fO,Nat.le_trans hl n2,?_,?_⟩
  ·show -900≤((Nr.dec N).length:Int)+(Sh.dx (Sh.iJ b) - n);omega
  ·show ((Nr.dec N).length:Int)+(Sh.dx (Sh.iJ b) - n)≤900;omega
 ·rw [n6]
  refine ⟨(Nr.eI q1 t1).1,ne,?_⟩
  have:=q4 n3
  rw [t1,ak,List.getElem?_append_left fO,←ak] at this
  exact this
theorem uq (b:UInt64):(Nr.split b).1=1∨(Nr.split b).1=2∨(Nr.split b).1=3∨(Nr.split b).1=4:=by
 unfold Nr.split
 simp only
 by_cases c1:b.toNat / 4503599627370496 % 2048=2047
 ·rw [aG c1]
  by_cases c2:b.toNat % 4503599627370496=0
  ·rw [aG c2];exact .inr (.inr (.inl rfl))
  ·rw [aE c2];exact .inr (.inr (.inr rfl))
 ·rw [aE c1]
  by_cases c2:b.toNat / 4503599627370496 % 2048=0
  ·rw [aG c2]
   by_cases c3:b.toNat % 4503599627370496=0
   ·rw [aG c3];exact .inl rfl
   ·rw [aE c3];exact .inr (.inl rfl)
  ·rw [aE c2];exact .inr (.inl rfl)
theorem FC {b:UInt64} (h:(Nr.split b).1=2):(Sh.laid (Sh.dg b).1 (Sh.dg b).2.1).length≤24:=by
 obtain ⟨⟨_,r2,r3,r4⟩,hL,_⟩:=Br h
 obtain ⟨_,_,_,_,_,_,_,hlen,_⟩:=Sh.A9 hL r2 ⟨r3,r4⟩
 exact hlen
theorem cS.gw (b:UInt64) (t:bO) (ht:t.length≤1000):cS.j1 (Nr.split b).2.1 t=some [.s (Sh.sign b++t)]:=by
 rw [cS.FL]
 unfold Sh.sign
 cases (Nr.split b).2.1 with
 | true=>rw [aD,bE (ae (by show 1+t.length≤_;omega)),aG rfl]
 | false=>rw [aw,aE (by decide)];rfl
theorem cS.goal (b:UInt64):cS.F b=some [.s (Sh.text b)]:=by
 refine cS.eh _ ?_
 intro v1 h1
 rw [Sh.zb] at h1
 rw [Sh.tI]
 unfold Sh.uj
 by_cases c4:(Nr.split b).1=4
 ·rw [ae c4,aD,aG c4]
 ·rw [af c4,aw,aE c4]
  by_cases c3:(Nr.split b).1=3
  ·rw [ae c3,aD,aG c3,cS.gw b _ (by decide)]
  ·rw [af c3,aw,aE c3]
   by_cases c1:(Nr.split b).1=1
   ·rw [ae c1,aD,aG c1,cS.gw b _ (by decide)]
   ·have c2:(Nr.split b).1=2:=by have:=uq b;omega
    have hl:=FC c2
    rw [af c1,aw,aE c1,bE (ae (Br c2).1),h1,cS.gw b _ (by omega)]
theorem bD.kN (t:bO) (x:Nat) (hx:x≤1000) (ht:t.length≤1000):∀(m:Nat) (d:bO),d.length+m=x→bD.l2 t d x=some [.s (t++(d++Sh.eP m))]:=by
 intro m
 induction m with
 | zero =>
  intro d hd
  have e0:Sh.eP ((0:Nat):Int)=[]:=rfl
  rw [bD.zg,af (by omega),aw,bE (ae (by omega)),e0,aR]
 | succ m ih =>
  intro d hd
  have ez:d++Sh.eP ((m+1:Nat):Int)=(d++[48])++Sh.eP (m:Int):=by
   unfold Sh.eP
   rw [au,au,List.replicate_succ,aN];rfl
  rw [bD.zg,ae (by omega),aD,bE (ae (by rw [ay];omega)),ih (d++[48]) (by rw [ao,ay];omega),ez]
theorem bD.pY (t:bO) (ht:t.length≤1000):∀(m:Nat) (d:bO),d.length+m≤1000→bD.l3 t d (-(m:Int))=some [.s (t++([48,46]++(Sh.eP m++d)))]:=by
 intro m
 induction m with
 | zero =>
  intro d hd
  refine bD.me _ _ _ ?_
  intro v1 h1 v2 h2
  have e0:Sh.eP ((0:Nat):Int)=[]:=rfl
  rw [af (by omega),aw,bE (ae (by show t.length+2≤_;omega)),bE (ae (by rw [ao];show t.length+2+d.length≤_;omega)),h2,e0,bg,aN]
 | succ m ih =>
  intro d hd
  refine bD.me _ _ _ ?_
  intro v1 h1 v2 h2
  have e1:v1=-(m:Int):=by rw [h1,i64_in _ (by omega)];omega
  have ez:Sh.eP ((m+1:Nat):Int)++d=Sh.eP (m:Int)++([48]++d):=by
   unfold Sh.eP
   rw [au,au,List.replicate_succ',aN]
  rw [ae (by omega),aD,bE (ae (by show 1+d.length≤_;omega)),e1,ih ([48]++d) (by rw [ao,ay];omega),ez]
theorem bD.JQ (x:Int) (t:bO) (hx : -900≤x∧x≤900) (ht:t.length≤1000):bD.j4 x t=some [.s (t++(if x<1 then [101,45]++Nr.itoa (1 - x) else [101,43]++Nr.itoa (x - 1)))]:=by
 refine bD.O0 _ _ ?_
 intro v1 h1 v2 h2 v3 h3 v4 h4
 have e1:v1=1 - x:=by rw [h1,i64_in _ (by omega)]
 have e3:v3=x - 1:=by rw [h3,i64_in _ (by omega)]
 by_cases c:x<1
 ·have il:=Sh.pI (v:=1 - x) (by omega) (by omega)
  have i1:Nr.i64 v1=true:=by rw [e1];exact qQ (by omega)
  rw [ae c,aD,aG c,i1,bE (ae (by show t.length+2≤_;omega)),db,bE (ae (by rw [ao,e1];show t.length+2+_≤_;omega)),h2,e1,aN]
 ·have il:=Sh.pI (v:=x - 1) (by omega) (by omega)
  have i3:Nr.i64 v3=true:=by rw [e3];exact qQ (by omega)
  rw [af c,aw,aE c,i3,bE (ae (by show t.length+2≤_;omega)),db,bE (ae (by rw [ao,e3];show t.length+2+_≤_;omega)),h4,e3,aN]
theorem bD.gw (b:UInt64) (t:bO) (ht:t=Sh.sign b):bD.j1 b (Nr.split b).1 t=some [.s (Sh.text b)]:=by
 have tl:t.length≤1:=by rw [ht];unfold Sh.sign;split <;> simp
 refine bD.jR _ _ _ ?_
 intro v1 h1 v2 h2 v3 h3 v4 h4 v5 h5 v6 h6 v7 h7 v8 h8 v9 h9 v10 kP v11 mf
 rw [Sh.tI]
 unfold Sh.uj
 rw [←ht]
 by_cases c4:(Nr.split b).1=4
 ·rw [ae c4,aD,aG c4]
 ·rw [af c4,aw,aE c4]
  by_cases c3:(Nr.split b).1=3
  ·rw [ae c3,aD,aG c3,bE (ae (by show t.length+8≤_;omega)),h1]
  ·rw [af c3,aw,aE c3]
   by_cases c1:(Nr.split b).1=1
   ·rw [ae c1,aD,aG c1,bE (ae (by show t.length+1≤_;omega))]
   ·have c2:(Nr.split b).1=2:=by have:=uq b;omega
    obtain ⟨⟨p1,p2,p3,p4⟩,_,_⟩:=Br c2
    rw [af c1,aw,aE c1]
    clear c1 c2 c3 c4 h1
    generalize (Sh.dg b).1=d at *
    generalize (Sh.dg b).2.1=x at *
    have kb:∀b:Bool,(!b || b)=true∧(!b || (b&&b))=true:=by decide
    have e3:v3=decide (1≤x∧x≤21):=by rw [h3];by_cases c:1≤x <;> simp [c]
    have e4:v4=decide (1≤x∧x≤21∧(d.length:Int)≤x):=by
     rw [h4,e3,h2]
     by_cases c:1≤x∧x≤21
     ·rw [ae c,aD,bz];omega
     ·rw [af c,aw,af (by omega)]
    have e8:v8=decide (-5≤x∧x≤0):=by rw [h8];by_cases c : -5≤x <;> simp [c]
    unfold Sh.laid
    rw [bE (kb _).1,bE (kb _).1,bE (kb _).2,bE (kb _).1,e4]
    by_cases c1:1≤x∧x≤21∧(d.length:Int)≤x
    ·obtain ⟨n,rfl⟩:=Int.eq_ofNat_of_zero_le (show 0≤x by omega)
     have:=bD.kN t n (by omega) (by omega) (n - d.length) d (by omega)
     rw [ae c1,aD,aG c1,this,show (((n - d.length:Nat):Nat):Int)=(n:Int) - d.length by omega]
    ·rw [af c1,aw,aE c1,bE (kb _).1,bE (kb _).1,e3]
     by_cases c2:1≤x∧x≤21
     ·have l5:v5.length≤17:=by rw [h5,aJ];omega
      have l6:v6.length≤17:=by rw [h6,bj];omega
      rw [ae c2,aD,aG c2,bE (ju (by omega) (by omega) (by omega)),bE (ae (by omega)),bE (ae (by rw [ao];show t.length+v5.length+1≤_;omega)),bE (ju (by omega) (by omega) (by omega)),bE (ae (by rw [ao,ao];show t.length+v5.length+1+v6.length≤_;omega)),h7,h5,h6]
      simp only [aN]
     ·rw [af c2,aw,aE c2,bE (kb _).1,bE (kb _).1,e8]
      by_cases c3 : -5≤x∧x≤0
      ·have:=bD.pY t (by omega) (-x).toNat d (by omega)
       rw [show -(((-x).toNat:Nat):Int)=x by omega,show (((-x).toNat:Nat):Int)=-x by omega] at this
       rw [ae c3,aD,aG c3,this]
      ·have g9:v9=d.take 1:=h9
       have g10:v10=d.drop 1:=kP
       have l9:v9.length≤1:=by rw [g9,aJ];omega
       have l10:v10.length≤17:=by rw [g10,bj];omega
       rw [af c3,aw,aE c3,bE (ju (by omega) (by omega) (by omega)),bE (ae (by omega)),h2]
       by_cases c4:1<d.length
       ·rw [ae (by omega),aD,bE (ae (by rw [ao];show t.length+v9.length+1≤_;omega)),bE (ju (by omega) (by omega) (by omega)),bE (ae (by rw [ao,ao];show t.length+v9.length+1+v10.length≤_;omega)),bD.JQ x v11 ⟨p3,p4⟩ (by rw [mf,ao,ao,ao];show t.length+v9.length+1+v10.length≤_;omega),aG c4,mf,g9,g10]
        simp only [aN,List.singleton_append,List.cons_append,bg]
       ·rw [af (by omega),aw,bD.JQ x (t++v9) ⟨p3,p4⟩ (by rw [ao];omega),aE c4,aR,g9]
        simp only [aN]
theorem bD.goal (b:UInt64):bD.F b=some [.s (Sh.text b)]:=by
 rw [bD.iC]
 cases c:(Nr.split b).2.1 with
 | true=>rw [aD,bD.gw b [45] (by unfold Sh.sign;rw [c];rfl)]
 | false=>rw [aw,bD.gw b [] (by unfold Sh.sign;rw [c];rfl)]
end Go.Eng
namespace Go.Eng
open Nr (iI sh top)
open Go.IntWalk
theorem HK (c:UInt8):decide ((c - 48) % 2=0)=decide (c.toNat % 2=0):=by
 have h:=c.toNat_lt
 have:((c - 48) % 2=0) ↔ c.toNat % 2=0:=by
  rw [←UInt8.toNat_inj,UInt8.toNat_mod,UInt8.toNat_sub]
  show (256 - 48+c.toNat) % 256 % 2=0 ↔ _
  omega
 exact bz.2 this
theorem kp {a b:Int} {l:Nat} (h1:0≤a) (h2:a≤b) (h3:b≤l):gx a b l=true:=by unfold gx;rw [ae h1,ae h2,ae h3];rfl
theorem GX (b:Bool) {α:Type} (x:Option α):ck (!b || b) x=x:=by cases b <;> rfl
noncomputable def rL (p:Nat):bO:=Nr.vI (2 * iI (p - 1)+1) (Sh.oz p)
noncomputable def KY (p:Nat):Int:=Nr.xJ (2 * iI (p - 1)+1) (Sh.oz p)
noncomputable def rH (p:Nat):bO:=Nr.vI (2 * iI p+1) ((sh p:Int) - 1075)
noncomputable def H6 (p:Nat):Int:=Nr.xJ (2 * iI p+1) ((sh p:Int) - 1075)
theorem bJ.pY (u:UInt64) (p:Nat) (hu:u.toNat=p) (hp:0<p) (ht:p≤top) (n:Nat) (h1:1≤n) (h2:n<(Sh.fi p).length) (h3:n≤17) :
  ∀(m:Nat) (s:bO),s.length=m→m≤n→Nr.cW s=Nr.cW ((Sh.fi p).take n) →
  bJ.l3 u (Sh.fi p) (Sh.dx p) (rH p) (H6 p) (rL p) (KY p) (n:Int) s ((Sh.fi p).drop n) =
   match Sh.yG p n with
   | some r=>some [.s r.1,.i .i64 r.2,.b true]
   | none=>bJ.l2 u (Sh.fi p) (Sh.dx p) (rH p) (H6 p) (rL p) (KY p) ((n:Int)+1):=by
 obtain ⟨d1,d2⟩:=vc hp ht
 have hl:((Sh.fi p).take n).length=n:=by rw [aJ];omega
 have hg:(Sh.fi p).getD (n - 1) 0=((Sh.fi p).take n).getD (n - 1) 0:=by
  rw [ak,ak,List.getElem?_take_of_lt (by omega)]
 have fin:∀s:bO,s.length≤n→(s=[]∨∃a c,s=a++[c]∧c≠48)→Nr.cW s=s→Nr.cW s=Nr.cW ((Sh.fi p).take n) →
   bJ.l3 u (Sh.fi p) (Sh.dx p) (rH p) (H6 p) (rL p) (KY p) (n:Int) s ((Sh.fi p).drop n) =
   match Sh.yG p n with
   | some r=>some [.s r.1,.i .i64 r.2,.b true]
   | none=>bJ.l2 u (Sh.fi p) (Sh.dx p) (rH p) (H6 p) (rL p) (KY p) ((n:Int)+1):=by
  intro s hs hc hr L2
  rw [hr] at L2
  refine bJ.me _ _ _ _ _ _ _ _ _ _ ?_
  intro v1 g1 v2 g2 v3 g3 v4 g4 v5 g5 v6 g6 v7 g7 v8 g8 v9 g9 v10 g10 v11 g11 v12 g12 pR g13 mL g14
  have e1:v1=(s.length:Int) - 1:=by rw [g1,i64_in _ (by omega)]
  have e3:v3=false:=by
   rcases hc with rfl | ⟨a,c,rfl,hc⟩
   ·exact g3
   ·have e2:v2=c:=by
     rw [g2,e1,ao,ay,show (((a.length+1:Nat):Int) - 1).toNat=a.length by omega]
     exact iA a c 0
    rw [g3,e2,af hc,Bool.cond_self]
  have yh:v10=(n:Int) - 1:=by rw [g10,i64_in _ (by omega)]
  have Mw:mL=(n:Int)+1:=by rw [g14,i64_in _ (by omega)]
  have Qe:v11=((Sh.fi p).take n).getD (n - 1) 0:=by rw [g11,yh,show ((n:Int) - 1).toNat=n - 1 by omega];exact hg
  have Mx:pR=(decide ((Sh.fi p).drop n=[53])&&decide ((((Sh.fi p).take n).getD (n - 1) 0).toNat % 2=0)):=by
   rw [g13,g12,HK,Qe];cases decide ((Sh.fi p).drop n=[53]) <;> rfl
  have R8:(!(decide ((0:Int)<(s.length:Int))) || (((decide ((0:Int)<(s.length:Int)))&&(decide ((0:Int)<(s.length:Int))))&&(cz v1 s.length)))=true:=by
   by_cases c:(0:Int)<(s.length:Int)
   ·rw [ae c,iz.2 (by omega)];rfl
   ·rw [af c];rfl
  have VX:cz v10 (Sh.fi p).length=true:=iz.2 (by omega)
  have T5:(!v9 || ((v9&&v9)&&(cz v10 (Sh.fi p).length)))=true:=by rw [VX];cases v9 <;> rfl
  have T4:(!v9 || (v9&&(!decide ((2:UInt8)=0))))=true:=by cases v9 <;> rfl
  have T3:(!(!v8) || ((!v8)&&(!(decide ((Sh.fi p).drop n=[53])) || v9)))=true:=by
   rw [g9];cases v8 <;> cases decide ((Sh.fi p).drop n=[53]) <;> rfl
  have T2:(v8 || (!v8))=true:=by cases v8 <;> rfl
  have pre:decide (1≤(((Sh.fi p).take ((n:Int)).toNat)).length∧(((Sh.fi p).take ((n:Int)).toNat)).length≤100000∧-100000≤Sh.dx p∧Sh.dx p≤100000)=true:=by
   rw [au,hl];exact ae (by omega)
  rw [R8,T5,T4,T3,T2,pre,kp (Int.le_refl 0) (show (0:Int)≤(n:Int) by omega) (show (n:Int)≤((Sh.fi p).length:Int) by omega)]
  simp only [GX,db]
  rw [e3,aw,Mw,Mx]
  rw [au] at g4 g5
  have e6:v6=Sh.wi p (Nr.gf (Nr.cW ((Sh.fi p).take n)) (Sh.dx p) (rL p) (KY p)) (Nr.gf (Nr.cW ((Sh.fi p).take n)) (Sh.dx p) (rH p) (H6 p)):=by rw [g6,hu,L2]
  have e7:v7=Sh.wi p (Nr.gf (Sh.more ((Sh.fi p).take n) (Sh.dx p)).1 (Sh.more ((Sh.fi p).take n) (Sh.dx p)).2 (rL p) (KY p)) (Nr.gf (Sh.more ((Sh.fi p).take n) (Sh.dx p)).1 (Sh.more ((Sh.fi p).take n) (Sh.dx p)).2 (rH p) (H6 p)):=by rw [g7,hu,g4,g5]
  have er:Sh.yG p n=if v6&&v7 then (if v8 || (decide ((Sh.fi p).drop n=[53])&&decide ((((Sh.fi p).take n).getD (n - 1) 0).toNat % 2=0)) then some (Nr.cW ((Sh.fi p).take n),Sh.dx p) else some (Sh.more ((Sh.fi p).take n) (Sh.dx p))) else if v6 then some (Nr.cW ((Sh.fi p).take n),Sh.dx p) else if v7 then some (Sh.more ((Sh.fi p).take n) (Sh.dx p)) else none:=by
   rw [e6,e7,g8];rfl
  rw [er,←L2,g4,g5]
  generalize (decide ((Sh.fi p).drop n=[53])&&decide ((((Sh.fi p).take n).getD (n - 1) 0).toNat % 2=0))=q
  clear e6 e7 g6 g7 g8 g9 er T5 T4 T3 T2
  cases v6 <;> cases v7 <;> cases v8 <;> cases q <;> rfl
 intro m
 induction m with
 | zero =>
  intro s hs hm hr
  obtain rfl:=List.length_eq_zero_iff.1 hs
  exact fin [] (by simp) (.inl rfl) rfl hr
 | succ m ih =>
  intro s hs hm hr
  rcases Nr.gJ s with h | ⟨a,c,rfl⟩
  ·rw [h] at hs;simp at hs
  ·by_cases hc:c=48
   ·subst hc
    rw [ao,ay] at hs
    have hlen:((a++[(48:UInt8)]).length:Int)=(a.length:Int)+1:=by rw [ao,ay];omega
    refine bJ.me _ _ _ _ _ _ _ _ _ _ ?_
    intro v1 g1 v2 g2 v3 g3 v4 g4 v5 g5 v6 g6 v7 g7 v8 g8 v9 g9 v10 g10 v11 g11 v12 g12 pR g13 mL g14
    have e1:v1=(a.length:Int):=by rw [g1,hlen,i64_in _ (by omega)];omega
    have e2:v2=48:=by rw [g2,e1,au];exact iA a 48 0
    have e3:v3=true:=by rw [g3,e2,ae (by omega)];rfl
    have R8:(!(decide ((0:Int)<((a++[(48:UInt8)]).length:Int))) || (((decide ((0:Int)<((a++[(48:UInt8)]).length:Int)))&&(decide ((0:Int)<((a++[(48:UInt8)]).length:Int))))&&(cz v1 (a++[(48:UInt8)]).length)))=true:=by
     rw [ae (by omega),iz.2 (by omega)];rfl
    rw [R8,e3]
    simp only [GX,db,aD]
    rw [bE (kp (Int.le_refl 0) (by omega) (by omega)),e1,au,List.take_left]
    refine ih a (by omega) (by omega) ?_
    rw [←hr,Nr.iP,aG rfl]
   ·refine fin _ (by omega) (.inr ⟨a,c,rfl,hc⟩) ?_ hr
    rw [Nr.iP,aE hc]
theorem bJ.kN (u:UInt64) (p:Nat) (hu:u.toNat=p) (hp:0<p) (ht:p≤top) (N:Nat) (hN:N≤17) (h0:∀j:Nat,1≤j→j<N→Sh.some_ p (Sh.gN p) (Sh.fq p) (Sh.dx p) j=none) (h1:Sh.some_ p (Sh.gN p) (Sh.fq p) (Sh.dx p) N=some (Sh.digits p)) :
  ∀(m n:Nat),n+m=N→1≤n→bJ.l2 u (Sh.fi p) (Sh.dx p) (rH p) (H6 p) (rL p) (KY p) (n:Int)=some [.s (Sh.digits p).1,.i .i64 (Sh.digits p).2,.b true]:=by
 have nJ:=Sh.Ej hp ht
 have hle:(Sh.fi p).length ≥ N:=by
  refine Nat.le_of_not_lt fun c=>?_
  have:=h0 (Sh.fi p).length (List.length_pos_iff.2 (Sh.Bo hp).1.n) c
  rw [nJ] at this;cases this
 intro m
 induction m with
 | zero =>
  intro n hn M8
  obtain rfl:n=N:=by omega
  rw [bJ.zg]
  by_cases c:n<(Sh.fi p).length
  ·rw [ae (by omega),aD,bE (kp (by omega) (by omega) (by omega)),bE (kp (by omega) (by omega) (by omega)),au,bJ.pY u p hu hp ht n M8 c hN _ _ rfl (by rw [aJ];omega) rfl,←Sh.step_eq hp ht M8 c,h1]
  ·obtain rfl:n=(Sh.fi p).length:=by omega
   rw [nJ] at h1
   have e:(Sh.fi p,Sh.dx p)=Sh.digits p:=Option.some.inj h1
   rw [af (by omega),aw,←e]
 | succ m ih =>
  intro n hn M8
  rw [bJ.zg,ae (by omega),aD,bE (kp (by omega) (by omega) (by omega)),bE (kp (by omega) (by omega) (by omega)),au,bJ.pY u p hu hp ht n M8 (by omega) (by omega) _ _ rfl (by rw [aJ];omega) rfl,←Sh.step_eq hp ht M8 (by omega),h0 n M8 (by omega)]
  exact ih (n+1) (by omega) (by omega)
theorem bJ.gw (u w:UInt64) (p:Nat) (hu:u.toNat=p) (hp:0<p) (ht:p≤top) (hw:w.toNat=iI (p - 1)) (e:Int) (he:e=(sh (p - 1):Int) - 1074) :
  bJ.j1 w e u (Sh.fi p) (Sh.dx p) (rH p) (H6 p)=some [.s (Sh.digits p).1,.i .i64 (Sh.digits p).2,.b true]:=by
 have Pv:=Nr.qk (p - 1)
 have Pl:=Nr.uv (p:=p - 1) (by omega)
 refine bJ.jR _ _ _ _ _ _ _ ?_
 intro v1 g1 v2 g2
 have e1:v1.toNat=2 * iI (p - 1)+1:=by
  rw [g1,UInt64.toNat_add,UInt64.toNat_mul,hw]
  show (2 * iI (p - 1) % 18446744073709551616+1) % 18446744073709551616=_
  omega
 have e2:v2=Sh.oz p:=by rw [g2,he,i64_in _ (by omega)];unfold Sh.oz;omega
 have e3 : -1075≤Sh.oz p∧Sh.oz p≤971:=by unfold Sh.oz;omega
 have e4:2 * iI (p - 1)+1<2 ^ 55:=by
  show _<36028797018963968;omega
 rw [e1,e2,bE (ae ⟨by omega,e4,e3.1,e3.2⟩)]
 obtain ⟨N,n1,n2,n3,n4⟩:=Sh.first hp ht
 exact bJ.kN u p hu hp ht N n2 n3 n4 (N - 1) 1 (by omega) (Nat.le_refl 1)
theorem C7 (b:UInt64):(iN (kV b 1) 1).toNat=Sh.iJ b:=by
 rw [gB,ma,Nat.pow_one];unfold Sh.iJ;omega
theorem Io {b v:UInt64} (hv:v.toNat=Sh.iJ b) (h0:0<Sh.iJ b):Sh.iJ (v - 1)=Sh.iJ b - 1:=by
 have hm:Sh.iJ b<9223372036854775808:=Nat.mod_lt _ (by omega)
 have e:(v - 1).toNat=Sh.iJ b - 1:=by
  rw [UInt64.toNat_sub,hv]
  show (18446744073709551616 - 1+Sh.iJ b) % 18446744073709551616=_
  omega
 show (v - 1).toNat % 9223372036854775808=_
 rw [e,Nat.mod_eq_of_lt (by omega)]
theorem yx {b:UInt64} (h:0<Sh.iJ b) (ht:Sh.iJ b≤top):(Nr.split b).1=2:=by
 have hb:=b.toNat_lt
 have hx:b.toNat / 4503599627370496 % 2048=Sh.iJ b / 4503599627370496:=by unfold Sh.iJ;omega
 have hf:b.toNat % 4503599627370496=Sh.iJ b % 4503599627370496:=by unfold Sh.iJ;omega
 unfold Nr.split
 simp only [hx,hf]
 generalize Sh.iJ b=p at *
 unfold top at ht
 rw [aE (by omega)]
 by_cases c2:p / 4503599627370496=0
 ·rw [aG c2,aE (by omega)]
 ·rw [aE c2]
theorem AG {b:UInt64} (h:Sh.iJ b=0):(Nr.split b).2.2.1.toNat=0:=by
 have hx:b.toNat / 4503599627370496 % 2048=Sh.iJ b / 4503599627370496:=by unfold Sh.iJ;omega
 have hf:b.toNat % 4503599627370496=Sh.iJ b % 4503599627370496:=by unfold Sh.iJ;omega
 unfold Nr.split
 simp only [hx,hf,h]
 rfl
theorem bJ.goal (b:UInt64):bJ.F b=some [.s (Sh.dg b).1,.i .i64 (Sh.dg b).2.1,.b (Sh.dg b).2.2]:=by
 refine bJ.eh _ ?_
 intro v1 h1 v2 h2 v3 h3 v4 h4 v5 h5 v6 h6 v7 h7 v8 h8 v9 h9 v10 kP v11 mf v12 lT
 by_cases c:(Nr.split b).1=2
 ·obtain ⟨z1,z2,z3⟩:=xQ c
  rw [z1,z2,z3,ae c,a8,aw]
  clear z1 z2 z3
  obtain ⟨hp,ht,hm,he⟩:=pz c
  have hu:v2.toNat=Sh.iJ b:=by rw [h2,h1];exact C7 b
  have Pv:=Nr.qk (Sh.iJ b)
  have Y5:=Sh.pF hp
  have Pl:=Nr.uv ht
  have hd:=Io hu hp
  rw [hm,he] at h3 h4
  have e3:v3=Sh.fi (Sh.iJ b):=h3
  have e4:v4=Sh.dx (Sh.iJ b):=h4
  have e5:(v5+1).toNat=2 * iI (Sh.iJ b)+1:=by
   rw [h5,UInt64.toNat_add,UInt64.toNat_mul,hm]
   show (2 * iI (Sh.iJ b) % 18446744073709551616+1) % 18446744073709551616=_
   omega
  have e6:v6=(sh (Sh.iJ b):Int) - 1075:=by rw [h6,he,i64_in _ (by omega)];omega
  rw [e5,e6] at h7 h8
  have e7:v7=rH (Sh.iJ b):=h7
  have e8:v8=H6 (Sh.iJ b):=h8
  have l1:iI (Sh.iJ b)<2 ^ 55:=by show _<36028797018963968;omega
  have l2:2 * iI (Sh.iJ b)+1<2 ^ 55:=by show _<36028797018963968;omega
  rw [hm,he,e5,e6,bE (ae ⟨by omega,l1,by omega,by omega⟩),bE (ae ⟨by omega,l2,by omega,by omega⟩),e3,e4,e7,e8]
  by_cases c1:v2=1
  ·have q:Sh.iJ b=1:=by rw [←hu,c1];rfl
   rw [ae c1,aD]
   refine bJ.gw v2 v11 _ hu hp ht ?_ _ ?_
   ·rw [mf,AG (by rw [hd,q]),q];rfl
   ·rw [q];rfl
  ·have q:Sh.iJ b≠1:=fun q=>c1 (bt.1 (by rw [hu,q];rfl))
   rw [af c1,aw]
   have kk:(Nr.split (v2 - 1)).1=2:=yx (by rw [hd];omega) (by rw [hd];omega)
   obtain ⟨_,_,f3,f4⟩:=pz kk
   rw [hd] at f3 f4
   exact bJ.gw v2 v11 _ hu hp ht (by rw [mf];exact f3) _ (by rw [lT];exact f4)
 ·obtain ⟨z1,z2,z3⟩:=GG c
  rw [z1,z2,z3,af c];rfl
end Go.Eng
namespace Go.Proofs
open Go.Shelf
def Tryz.A7:Go.Shelf.Ren:=⟨fun | 29=>96 | n=>n,fun | 22=>22 | 3=>3 | 4=>4 | 25=>44 | 54=>148 | 0=>0 | 5=>5 | n=>n,fun | 1=>0 | n=>n⟩
theorem Tryz.LG:Go.Proofs.Lays7.n29 Tryz.prog Tryz.A7:={
 mixed:=by kernel_rfl
 f29:=Tryz.func96.trans (congrArg some (by kernel_rfl))
 t0:=Tryz.underlying0
 a0:=Tryz.isAgg0
 z0:=Tryz.sizeOf0
 v0:=Tryz.zeroValue0
 i0:=by kernel_rfl
 t3:=Tryz.underlying3
 a3:=Tryz.isAgg3
 z3:=Tryz.sizeOf3
 v3:=Tryz.zeroValue3
 i3:=by kernel_rfl
 t4:=Tryz.underlying4
 a4:=Tryz.isAgg4
 z4:=Tryz.sizeOf4
 v4:=Tryz.zeroValue4
 i4:=by kernel_rfl
 t5:=Tryz.underlying5
 a5:=Tryz.isAgg5
 z5:=Tryz.sizeOf5
 v5:=Tryz.zeroValue5
 i5:=by kernel_rfl
 t22:=Tryz.underlying22
 a22:=Tryz.isAgg22
 z22:=Tryz.sizeOf22
 v22:=Tryz.zeroValue22
 i22:=by kernel_rfl
 t25:=Tryz.underlying44
 a25:=Tryz.isAgg44
 z25:=Tryz.sizeOf44
 v25:=Tryz.zeroValue44
 i25:=by kernel_rfl
 t54:=Tryz.underlying148
 a54:=Tryz.isAgg148
 z54:=Tryz.sizeOf148
 g1:=by kernel_rfl }
def Tryz.A8:Go.Shelf.Ren:=⟨fun | 17=>105 | n=>n,fun | 24=>132 | 9=>9 | 3=>3 | 4=>4 | 0=>0 | n=>n,fun | n=>n⟩
theorem Tryz.LH:Go.Proofs.Lays2.n17 Tryz.prog Tryz.A8:={
 mixed:=by kernel_rfl
 f17:=Tryz.func105.trans (congrArg some (by kernel_rfl))
 t0:=Tryz.underlying0
 a0:=Tryz.isAgg0
 z0:=Tryz.sizeOf0
 v0:=Tryz.zeroValue0
 t3:=Tryz.underlying3
 a3:=Tryz.isAgg3
 z3:=Tryz.sizeOf3
 v3:=Tryz.zeroValue3
 t4:=Tryz.underlying4
 a4:=Tryz.isAgg4
 z4:=Tryz.sizeOf4
 v4:=Tryz.zeroValue4
 t9:=Tryz.underlying9
 a9:=Tryz.isAgg9
 z9:=Tryz.sizeOf9
 v9:=Tryz.zeroValue9
 t24:=Tryz.underlying132
 a24:=Tryz.isAgg132
 z24:=Tryz.sizeOf132
 v24:=Tryz.zeroValue132 }
def Tryz.za:Go.Shelf.Ren:=⟨fun | 160=>29 | 232=>55 | 231=>54 | 227=>56 | 234=>58 | 233=>57 | 236=>60 | 235=>59 | 228=>72 | 271=>89 | 151=>88 | 197=>87 | 120=>113 | 152=>70 | 260=>112 | 137=>99 | 119=>100 | 224=>101 | 225=>102 | 217=>120 | 266=>133 | n=>n,fun | 9=>9 | 4=>4 | 3=>3 | 5=>5 | 117=>78 | 116=>77 | 0=>0 | 124=>81 | 21=>21 | 105=>114 | 46=>44 | 119=>156 | 139=>159 | 138=>158 | n=>n,fun | 3=>2 | 4=>3 | n=>n⟩
theorem Tryz.Ir:Go.Proofs.Lays.n160 Tryz.prog Tryz.za:={
 mixed:=by kernel_rfl
 f119:=Tryz.func100.trans (congrArg some (by kernel_rfl))
 f120:=Tryz.func113.trans (congrArg some (by kernel_rfl))
 f137:=Tryz.func99.trans (congrArg some (by kernel_rfl))
 f151:=Tryz.func88.trans (congrArg some (by kernel_rfl))
 f152:=Tryz.func70.trans (congrArg some (by kernel_rfl))
 f160:=Tryz.func29.trans (congrArg some (by kernel_rfl))
 f197:=Tryz.func87.trans (congrArg some (by kernel_rfl))
 f217:=Tryz.func120.trans (congrArg some (by kernel_rfl))
 f224:=Tryz.func101.trans (congrArg some (by kernel_rfl))
 f225:=Tryz.func102.trans (congrArg some (by kernel_rfl))
 f227:=Tryz.func56.trans (congrArg some (by kernel_rfl))
 f228:=Tryz.func72.trans (congrArg some (by kernel_rfl))
 f231:=Tryz.func54.trans (congrArg some (by kernel_rfl))
 f232:=Tryz.func55.trans (congrArg some (by kernel_rfl))
 f233:=Tryz.func57.trans (congrArg some (by kernel_rfl))
 f234:=Tryz.func58.trans (congrArg some (by kernel_rfl))
 f235:=Tryz.func59.trans (congrArg some (by kernel_rfl))
 f236:=Tryz.func60.trans (congrArg some (by kernel_rfl))
 f260:=Tryz.func112.trans (congrArg some (by kernel_rfl))
 f266:=Tryz.func133.trans (congrArg some (by kernel_rfl))
 f271:=Tryz.func89.trans (congrArg some (by kernel_rfl))
 t0:=Tryz.underlying0
 a0:=Tryz.isAgg0
 z0:=Tryz.sizeOf0
 v0:=Tryz.zeroValue0
 t3:=Tryz.underlying3
 a3:=Tryz.isAgg3
 z3:=Tryz.sizeOf3
 v3:=Tryz.zeroValue3
 t4:=Tryz.underlying4
 a4:=Tryz.isAgg4
 z4:=Tryz.sizeOf4
 v4:=Tryz.zeroValue4
 t5:=Tryz.underlying5
 a5:=Tryz.isAgg5
 z5:=Tryz.sizeOf5
 v5:=Tryz.zeroValue5
 t9:=Tryz.underlying9
 a9:=Tryz.isAgg9
 z9:=Tryz.sizeOf9
 v9:=Tryz.zeroValue9
 t21:=Tryz.underlying21
 a21:=Tryz.isAgg21
 z21:=Tryz.sizeOf21
 v21:=Tryz.zeroValue21
 t46:=Tryz.underlying44
 a46:=Tryz.isAgg44
 z46:=Tryz.sizeOf44
 v46:=Tryz.zeroValue44
 t105:=Tryz.underlying114
 a105:=Tryz.isAgg114
 z105:=Tryz.sizeOf114
 v105:=Tryz.zeroValue114
 t116:=Tryz.underlying77
 a116:=Tryz.isAgg77
 z116:=Tryz.sizeOf77
 t117:=Tryz.underlying78
 a117:=Tryz.isAgg78
 z117:=Tryz.sizeOf78
 v117:=Tryz.zeroValue78
 t119:=Tryz.underlying156
 a119:=Tryz.isAgg156
 z119:=Tryz.sizeOf156
 t124:=Tryz.underlying81
 a124:=Tryz.isAgg81
 z124:=Tryz.sizeOf81
 v124:=Tryz.zeroValue81
 t138:=Tryz.underlying158
 a138:=Tryz.isAgg158
 z138:=Tryz.sizeOf158
 v138:=Tryz.zeroValue158
 t139:=Tryz.underlying159
 a139:=Tryz.isAgg159
 z139:=Tryz.sizeOf159
 v139:=Tryz.zeroValue159
 g3:=by kernel_rfl
 g4:=by kernel_rfl }
def Tryz.y9:Go.Shelf.Ren:=⟨fun | 161=>30 | 231=>54 | 227=>56 | 233=>57 | 235=>59 | 228=>72 | 197=>87 | 151=>88 | 260=>112 | 152=>70 | 137=>99 | 119=>100 | 224=>101 | 225=>102 | 217=>120 | 266=>133 | n=>n,fun | 9=>9 | 4=>4 | 3=>3 | 5=>5 | 117=>78 | 116=>77 | 0=>0 | 124=>81 | 105=>114 | 21=>21 | 119=>156 | 46=>44 | 139=>159 | 138=>158 | n=>n,fun | 3=>2 | 4=>3 | n=>n⟩
theorem Tryz.Iq:Go.Proofs.Lays.n161 Tryz.prog Tryz.y9:={
 mixed:=by kernel_rfl
 f119:=Tryz.func100.trans (congrArg some (by kernel_rfl))
 f137:=Tryz.func99.trans (congrArg some (by kernel_rfl))
 f151:=Tryz.func88.trans (congrArg some (by kernel_rfl))
 f152:=Tryz.func70.trans (congrArg some (by kernel_rfl))
 f161:=Tryz.func30.trans (congrArg some (by kernel_rfl))
 f197:=Tryz.func87.trans (congrArg some (by kernel_rfl))
 f217:=Tryz.func120.trans (congrArg some (by kernel_rfl))
 f224:=Tryz.func101.trans (congrArg some (by kernel_rfl))
 f225:=Tryz.func102.trans (congrArg some (by kernel_rfl))
 f227:=Tryz.func56.trans (congrArg some (by kernel_rfl))
 f228:=Tryz.func72.trans (congrArg some (by kernel_rfl))
 f231:=Tryz.func54.trans (congrArg some (by kernel_rfl))
 f233:=Tryz.func57.trans (congrArg some (by kernel_rfl))
 f235:=Tryz.func59.trans (congrArg some (by kernel_rfl))
 f260:=Tryz.func112.trans (congrArg some (by kernel_rfl))
 f266:=Tryz.func133.trans (congrArg some (by kernel_rfl))
 t0:=Tryz.underlying0
 a0:=Tryz.isAgg0
 z0:=Tryz.sizeOf0
 v0:=Tryz.zeroValue0
 t3:=Tryz.underlying3
 a3:=Tryz.isAgg3
 z3:=Tryz.sizeOf3
 v3:=Tryz.zeroValue3
 t4:=Tryz.underlying4
 a4:=Tryz.isAgg4
 z4:=Tryz.sizeOf4
 v4:=Tryz.zeroValue4
 t5:=Tryz.underlying5
 a5:=Tryz.isAgg5
 z5:=Tryz.sizeOf5
 v5:=Tryz.zeroValue5
 t9:=Tryz.underlying9
 a9:=Tryz.isAgg9
 z9:=Tryz.sizeOf9
 v9:=Tryz.zeroValue9
 t21:=Tryz.underlying21
 a21:=Tryz.isAgg21
 z21:=Tryz.sizeOf21
 v21:=Tryz.zeroValue21
 t46:=Tryz.underlying44
 a46:=Tryz.isAgg44
 z46:=Tryz.sizeOf44
 v46:=Tryz.zeroValue44
 t105:=Tryz.underlying114
 a105:=Tryz.isAgg114
 z105:=Tryz.sizeOf114
 v105:=Tryz.zeroValue114
 t116:=Tryz.underlying77
 a116:=Tryz.isAgg77
 z116:=Tryz.sizeOf77
 t117:=Tryz.underlying78
 a117:=Tryz.isAgg78
 z117:=Tryz.sizeOf78
 v117:=Tryz.zeroValue78
 t119:=Tryz.underlying156
 a119:=Tryz.isAgg156
 z119:=Tryz.sizeOf156
 t124:=Tryz.underlying81
 a124:=Tryz.isAgg81
 z124:=Tryz.sizeOf81
 v124:=Tryz.zeroValue81
 t138:=Tryz.underlying158
 a138:=Tryz.isAgg158
 z138:=Tryz.sizeOf158
 v138:=Tryz.zeroValue158
 t139:=Tryz.underlying159
 a139:=Tryz.isAgg159
 z139:=Tryz.sizeOf159
 v139:=Tryz.zeroValue159
 g3:=by kernel_rfl
 g4:=by kernel_rfl }
def Tryz.y8:Go.Shelf.Ren:=⟨fun | 162=>31 | 232=>55 | 227=>56 | 234=>58 | 236=>60 | 228=>72 | 271=>89 | 151=>88 | 120=>113 | 197=>87 | 152=>70 | 260=>112 | 137=>99 | 119=>100 | 224=>101 | 225=>102 | 217=>120 | 266=>133 | n=>n,fun | 9=>9 | 4=>4 | 3=>3 | 5=>5 | 117=>78 | 116=>77 | 0=>0 | 124=>81 | 21=>21 | 105=>114 | 46=>44 | 119=>156 | 139=>159 | 138=>158 | n=>n,fun | 3=>2 | 4=>3 | n=>n⟩
theorem Tryz.Ip:Go.Proofs.Lays.n162 Tryz.prog Tryz.y8:={
 mixed:=by kernel_rfl
 f119:=Tryz.func100.trans (congrArg some (by kernel_rfl))
 f120:=Tryz.func113.trans (congrArg some (by kernel_rfl))
 f137:=Tryz.func99.trans (congrArg some (by kernel_rfl))
 f151:=Tryz.func88.trans (congrArg some (by kernel_rfl))
 f152:=Tryz.func70.trans (congrArg some (by kernel_rfl))
 f162:=Tryz.func31.trans (congrArg some (by kernel_rfl))
 f197:=Tryz.func87.trans (congrArg some (by kernel_rfl))
 f217:=Tryz.func120.trans (congrArg some (by kernel_rfl))
 f224:=Tryz.func101.trans (congrArg some (by kernel_rfl))
 f225:=Tryz.func102.trans (congrArg some (by kernel_rfl))
 f227:=Tryz.func56.trans (congrArg some (by kernel_rfl))
 f228:=Tryz.func72.trans (congrArg some (by kernel_rfl))
 f232:=Tryz.func55.trans (congrArg some (by kernel_rfl))
 f234:=Tryz.func58.trans (congrArg some (by kernel_rfl))
 f236:=Tryz.func60.trans (congrArg some (by kernel_rfl))
 f260:=Tryz.func112.trans (congrArg some (by kernel_rfl))
 f266:=Tryz.func133.trans (congrArg some (by kernel_rfl))
 f271:=Tryz.func89.trans (congrArg some (by kernel_rfl))
 t0:=Tryz.underlying0
 a0:=Tryz.isAgg0
 z0:=Tryz.sizeOf0
 v0:=Tryz.zeroValue0
 t3:=Tryz.underlying3
 a3:=Tryz.isAgg3
 z3:=Tryz.sizeOf3
 v3:=Tryz.zeroValue3
 t4:=Tryz.underlying4
 a4:=Tryz.isAgg4
 z4:=Tryz.sizeOf4
 v4:=Tryz.zeroValue4
 t5:=Tryz.underlying5
 a5:=Tryz.isAgg5
 z5:=Tryz.sizeOf5
 v5:=Tryz.zeroValue5
 t9:=Tryz.underlying9
 a9:=Tryz.isAgg9
 z9:=Tryz.sizeOf9
 v9:=Tryz.zeroValue9
 t21:=Tryz.underlying21
 a21:=Tryz.isAgg21
 z21:=Tryz.sizeOf21
 v21:=Tryz.zeroValue21
 t46:=Tryz.underlying44
 a46:=Tryz.isAgg44
 z46:=Tryz.sizeOf44
 v46:=Tryz.zeroValue44
 t105:=Tryz.underlying114
 a105:=Tryz.isAgg114
 z105:=Tryz.sizeOf114
 v105:=Tryz.zeroValue114
 t116:=Tryz.underlying77
 a116:=Tryz.isAgg77
 z116:=Tryz.sizeOf77
 t117:=Tryz.underlying78
 a117:=Tryz.isAgg78
 z117:=Tryz.sizeOf78
 v117:=Tryz.zeroValue78
 t119:=Tryz.underlying156
 a119:=Tryz.isAgg156
 z119:=Tryz.sizeOf156
 t124:=Tryz.underlying81
 a124:=Tryz.isAgg81
 z124:=Tryz.sizeOf81
 v124:=Tryz.zeroValue81
 t138:=Tryz.underlying158
 a138:=Tryz.isAgg158
 z138:=Tryz.sizeOf158
 v138:=Tryz.zeroValue158
 t139:=Tryz.underlying159
 a139:=Tryz.isAgg159
 z139:=Tryz.sizeOf159
 v139:=Tryz.zeroValue159
 g3:=by kernel_rfl
 g4:=by kernel_rfl }
def Tryz.sX:Go.Shelf.Ren:=⟨fun | 105=>51 | 212=>80 | 99=>81 | 165=>82 | 166=>83 | 170=>84 | 169=>85 | 263=>107 | 264=>108 | 206=>98 | 240=>109 | 241=>110 | 276=>123 | 277=>124 | n=>n,fun | 9=>9 | 3=>3 | 4=>4 | 20=>20 | 0=>0 | 46=>44 | 109=>100 | 5=>5 | 72=>105 | 76=>109 | 51=>95 | 146=>136 | 53=>22 | 148=>138 | 70=>103 | 37=>74 | 75=>108 | 127=>140 | 164=>149 | 80=>112 | n=>n,fun | n=>n⟩
theorem Tryz.It:Go.Proofs.Lays.n105 Tryz.prog Tryz.sX:={
 mixed:=by kernel_rfl
 f99:=Tryz.func81.trans (congrArg some (by kernel_rfl))
 f105:=Tryz.func51.trans (congrArg some (by kernel_rfl))
 f165:=Tryz.func82.trans (congrArg some (by kernel_rfl))
 f166:=Tryz.func83.trans (congrArg some (by kernel_rfl))
 f169:=Tryz.func85.trans (congrArg some (by kernel_rfl))
 f170:=Tryz.func84.trans (congrArg some (by kernel_rfl))
 f206:=Tryz.func98.trans (congrArg some (by kernel_rfl))
 f212:=Tryz.func80.trans (congrArg some (by kernel_rfl))
 f240:=Tryz.func109.trans (congrArg some (by kernel_rfl))
 f241:=Tryz.func110.trans (congrArg some (by kernel_rfl))
 f263:=Tryz.func107.trans (congrArg some (by kernel_rfl))
 f264:=Tryz.func108.trans (congrArg some (by kernel_rfl))
 f276:=Tryz.func123.trans (congrArg some (by kernel_rfl))
 f277:=Tryz.func124.trans (congrArg some (by kernel_rfl))
 t0:=Tryz.underlying0
 a0:=Tryz.isAgg0
 z0:=Tryz.sizeOf0
 v0:=Tryz.zeroValue0
 t3:=Tryz.underlying3
 a3:=Tryz.isAgg3
 z3:=Tryz.sizeOf3
 v3:=Tryz.zeroValue3
 t4:=Tryz.underlying4
 a4:=Tryz.isAgg4
 z4:=Tryz.sizeOf4
 v4:=Tryz.zeroValue4
 t5:=Tryz.underlying5
 a5:=Tryz.isAgg5
 z5:=Tryz.sizeOf5
 v5:=Tryz.zeroValue5
 t9:=Tryz.underlying9
 a9:=Tryz.isAgg9
 z9:=Tryz.sizeOf9
 v9:=Tryz.zeroValue9
 t20:=Tryz.underlying20
 a20:=Tryz.isAgg20
 z20:=Tryz.sizeOf20
 v20:=Tryz.zeroValue20
 t37:=Tryz.underlying74
 a37:=Tryz.isAgg74
 z37:=Tryz.sizeOf74
 v37:=Tryz.zeroValue74
 t46:=Tryz.underlying44
 a46:=Tryz.isAgg44
 z46:=Tryz.sizeOf44
 v46:=Tryz.zeroValue44
 t51:=Tryz.underlying95
 a51:=Tryz.isAgg95
 z51:=Tryz.sizeOf95
 v51:=Tryz.zeroValue95
 t53:=Tryz.underlying22
 a53:=Tryz.isAgg22
 z53:=Tryz.sizeOf22
 v53:=Tryz.zeroValue22
 t70:=Tryz.underlying103
 a70:=Tryz.isAgg103
 z70:=Tryz.sizeOf103
 v70:=Tryz.zeroValue103
 t72:=Tryz.underlying105
 a72:=Tryz.isAgg105
 z72:=Tryz.sizeOf105
 v72:=Tryz.zeroValue105
 t75:=Tryz.underlying108
 a75:=Tryz.isAgg108
 z75:=Tryz.sizeOf108
 v75:=Tryz.zeroValue108
 t76:=Tryz.underlying109
 a76:=Tryz.isAgg109
 z76:=Tryz.sizeOf109
 v76:=Tryz.zeroValue109
 t109:=Tryz.underlying100
 a109:=Tryz.isAgg100
 z109:=Tryz.sizeOf100
 v109:=Tryz.zeroValue100
 t127:=Tryz.underlying140
 a127:=Tryz.isAgg140
 z127:=Tryz.sizeOf140
 v127:=Tryz.zeroValue140
 t146:=Tryz.underlying136
 a146:=Tryz.isAgg136
 z146:=Tryz.sizeOf136
 v146:=Tryz.zeroValue136
 t148:=Tryz.underlying138
 a148:=Tryz.isAgg138
 z148:=Tryz.sizeOf138
 v148:=Tryz.zeroValue138
 t164:=Tryz.underlying149
 a164:=Tryz.isAgg149
 z164:=Tryz.sizeOf149
 v164:=Tryz.zeroValue149 }
theorem Tryz.HH:Builder.Extra Tryz.prog Tryz.sX:={
 sizeBuilder:=by kernel_rfl
 liesBuilder:=by kernel_rfl
 t5:=Tryz.underlying5
 a5:=Tryz.isAgg5
 z5:=Tryz.sizeOf5
 v5:=Tryz.zeroValue5
 infoByte:=by kernel_rfl
 cellsByte:=by kernel_rfl
 sizeByte:=by kernel_rfl
 neB5:=by decide }
def Tryz.sW:Go.Shelf.Ren:=⟨fun | 156=>106 | 165=>82 | 166=>83 | 169=>85 | 240=>109 | 241=>110 | 276=>123 | 277=>124 | n=>n,fun | 31=>132 | 9=>9 | 3=>3 | 4=>4 | 0=>0 | 20=>20 | 72=>105 | 76=>109 | 70=>103 | 37=>74 | 75=>108 | 127=>140 | 164=>149 | 5=>5 | 80=>112 | n=>n,fun | n=>n⟩
theorem Tryz.Ch:Go.Proofs.Lays.n156 Tryz.prog Tryz.sW:={
 mixed:=by kernel_rfl
 f156:=Tryz.func106.trans (congrArg some (by kernel_rfl))
 f165:=Tryz.func82.trans (congrArg some (by kernel_rfl))
 f166:=Tryz.func83.trans (congrArg some (by kernel_rfl))
 f169:=Tryz.func85.trans (congrArg some (by kernel_rfl))
 f240:=Tryz.func109.trans (congrArg some (by kernel_rfl))
 f241:=Tryz.func110.trans (congrArg some (by kernel_rfl))
 f276:=Tryz.func123.trans (congrArg some (by kernel_rfl))
 f277:=Tryz.func124.trans (congrArg some (by kernel_rfl))
 t0:=Tryz.underlying0
 a0:=Tryz.isAgg0
 z0:=Tryz.sizeOf0
 v0:=Tryz.zeroValue0
 t3:=Tryz.underlying3
 a3:=Tryz.isAgg3
 z3:=Tryz.sizeOf3
 v3:=Tryz.zeroValue3
 t4:=Tryz.underlying4
 a4:=Tryz.isAgg4
 z4:=Tryz.sizeOf4
 v4:=Tryz.zeroValue4
 t9:=Tryz.underlying9
 a9:=Tryz.isAgg9
 z9:=Tryz.sizeOf9
 v9:=Tryz.zeroValue9
 t20:=Tryz.underlying20
 a20:=Tryz.isAgg20
 z20:=Tryz.sizeOf20
 v20:=Tryz.zeroValue20
 t31:=Tryz.underlying132
 a31:=Tryz.isAgg132
 z31:=Tryz.sizeOf132
 v31:=Tryz.zeroValue132
 t37:=Tryz.underlying74
 a37:=Tryz.isAgg74
 z37:=Tryz.sizeOf74
 v37:=Tryz.zeroValue74
 t70:=Tryz.underlying103
 a70:=Tryz.isAgg103
 z70:=Tryz.sizeOf103
 v70:=Tryz.zeroValue103
 t72:=Tryz.underlying105
 a72:=Tryz.isAgg105
 z72:=Tryz.sizeOf105
 v72:=Tryz.zeroValue105
 t75:=Tryz.underlying108
 a75:=Tryz.isAgg108
 z75:=Tryz.sizeOf108
 v75:=Tryz.zeroValue108
 t76:=Tryz.underlying109
 a76:=Tryz.isAgg109
 z76:=Tryz.sizeOf109
 v76:=Tryz.zeroValue109
 t127:=Tryz.underlying140
 a127:=Tryz.isAgg140
 z127:=Tryz.sizeOf140
 v127:=Tryz.zeroValue140
 t164:=Tryz.underlying149
 a164:=Tryz.isAgg149
 z164:=Tryz.sizeOf149
 v164:=Tryz.zeroValue149 }
theorem Tryz.Jl:Builder.Extra Tryz.prog Tryz.sW:={
 sizeBuilder:=by kernel_rfl
 liesBuilder:=by kernel_rfl
 t5:=Tryz.underlying5
 a5:=Tryz.isAgg5
 z5:=Tryz.sizeOf5
 v5:=Tryz.zeroValue5
 infoByte:=by kernel_rfl
 cellsByte:=by kernel_rfl
 sizeByte:=by kernel_rfl
 neB5:=by decide }
def Tryz.xm:Go.Shelf.Ren:=⟨fun | 171=>104 | 243=>122 | 246=>111 | 283=>125 | 284=>126 | 285=>127 | 286=>128 | 129=>97 | 317=>135 | 318=>136 | 319=>137 | 320=>138 | 337=>141 | 338=>96 | n=>n,fun | 3=>3 | 9=>9 | 2=>2 | 4=>4 | 171=>152 | 0=>0 | 53=>22 | 37=>74 | 5=>5 | 173=>154 | 212=>165 | 51=>95 | 20=>20 | 213=>166 | 46=>44 | 232=>172 | 233=>148 | n=>n,fun | 17=>4 | 18=>6 | 19=>0 | n=>n⟩
theorem Tryz.FB:Go.Proofs.LaysM.n171 Tryz.prog Tryz.xm:={
 mixed:=by kernel_rfl
 f129:=Tryz.func97.trans (congrArg some (by kernel_rfl))
 f171:=Tryz.func104.trans (congrArg some (by kernel_rfl))
 f243:=Tryz.func122.trans (congrArg some (by kernel_rfl))
 f246:=Tryz.func111.trans (congrArg some (by kernel_rfl))
 f283:=Tryz.func125.trans (congrArg some (by kernel_rfl))
 f284:=Tryz.func126.trans (congrArg some (by kernel_rfl))
 f285:=Tryz.func127.trans (congrArg some (by kernel_rfl))
 f286:=Tryz.func128.trans (congrArg some (by kernel_rfl))
 f317:=Tryz.func135.trans (congrArg some (by kernel_rfl))
 f318:=Tryz.func136.trans (congrArg some (by kernel_rfl))
 f319:=Tryz.func137.trans (congrArg some (by kernel_rfl))
 f320:=Tryz.func138.trans (congrArg some (by kernel_rfl))
 f337:=Tryz.func141.trans (congrArg some (by kernel_rfl))
 f338:=Tryz.func96.trans (congrArg some (by kernel_rfl))
 t0:=Tryz.underlying0
 a0:=Tryz.isAgg0
 z0:=Tryz.sizeOf0
 v0:=Tryz.zeroValue0
 t2:=Tryz.underlying2
 a2:=Tryz.isAgg2
 z2:=Tryz.sizeOf2
 v2:=Tryz.zeroValue2
 t3:=Tryz.underlying3
 a3:=Tryz.isAgg3
 z3:=Tryz.sizeOf3
 v3:=Tryz.zeroValue3
 t4:=Tryz.underlying4
 a4:=Tryz.isAgg4
 z4:=Tryz.sizeOf4
 v4:=Tryz.zeroValue4
 t5:=Tryz.underlying5
 a5:=Tryz.isAgg5
 z5:=Tryz.sizeOf5
 v5:=Tryz.zeroValue5
 t9:=Tryz.underlying9
 a9:=Tryz.isAgg9
 z9:=Tryz.sizeOf9
 v9:=Tryz.zeroValue9
 t20:=Tryz.underlying20
 a20:=Tryz.isAgg20
 z20:=Tryz.sizeOf20
 v20:=Tryz.zeroValue20
 t37:=Tryz.underlying74
 a37:=Tryz.isAgg74
 z37:=Tryz.sizeOf74
 v37:=Tryz.zeroValue74
 t46:=Tryz.underlying44
 a46:=Tryz.isAgg44
 z46:=Tryz.sizeOf44
 v46:=Tryz.zeroValue44
 t51:=Tryz.underlying95
 a51:=Tryz.isAgg95
 z51:=Tryz.sizeOf95
 v51:=Tryz.zeroValue95
 t53:=Tryz.underlying22
 a53:=Tryz.isAgg22
 z53:=Tryz.sizeOf22
 v53:=Tryz.zeroValue22
 t171:=Tryz.underlying152
 a171:=Tryz.isAgg152
 z171:=Tryz.sizeOf152
 v171:=Tryz.zeroValue152
 t173:=Tryz.underlying154
 a173:=Tryz.isAgg154
 z173:=Tryz.sizeOf154
 v173:=Tryz.zeroValue154
 t212:=Tryz.underlying165
 a212:=Tryz.isAgg165
 z212:=Tryz.sizeOf165
 v212:=Tryz.zeroValue165
 t213:=Tryz.underlying166
 a213:=Tryz.isAgg166
 z213:=Tryz.sizeOf166
 t232:=Tryz.underlying172
 a232:=Tryz.isAgg172
 z232:=Tryz.sizeOf172
 v232:=Tryz.zeroValue172
 t233:=Tryz.underlying148
 a233:=Tryz.isAgg148
 z233:=Tryz.sizeOf148
 v233:=Tryz.zeroValue148
 g17:=by kernel_rfl
 g18:=by kernel_rfl
 g19:=by kernel_rfl
 i0:=by kernel_rfl
 i2:=by kernel_rfl
 i3:=by kernel_rfl
 i4:=by kernel_rfl
 i5:=by kernel_rfl
 i9:=by kernel_rfl
 i20:=by kernel_rfl
 i37:=by kernel_rfl
 i46:=by kernel_rfl
 i51:=by kernel_rfl
 i53:=by kernel_rfl
 i171:=by kernel_rfl
 i173:=by kernel_rfl
 i212:=by kernel_rfl
 i232:=by kernel_rfl
 i233:=by kernel_rfl
 m17:=by kernel_rfl
 m18:=by kernel_rfl
 m19:=by kernel_rfl }
def Tryz.xl:Go.Shelf.Ren:=⟨fun | 173=>86 | 246=>111 | 283=>125 | 284=>126 | 285=>127 | 286=>128 | 129=>97 | 317=>135 | 318=>136 | 319=>137 | 320=>138 | 337=>141 | 338=>96 | n=>n,fun | 2=>2 | 3=>3 | 9=>9 | 4=>4 | 171=>152 | 0=>0 | 53=>22 | 37=>74 | 5=>5 | 173=>154 | 212=>165 | 51=>95 | 20=>20 | 213=>166 | 46=>44 | 232=>172 | 233=>148 | n=>n,fun | 17=>4 | 18=>6 | 19=>0 | n=>n⟩
theorem Tryz.FA:Go.Proofs.LaysM.n173 Tryz.prog Tryz.xl:={
 mixed:=by kernel_rfl
 f129:=Tryz.func97.trans (congrArg some (by kernel_rfl))
 f173:=Tryz.func86.trans (congrArg some (by kernel_rfl))
 f246:=Tryz.func111.trans (congrArg some (by kernel_rfl))
 f283:=Tryz.func125.trans (congrArg some (by kernel_rfl))
 f284:=Tryz.func126.trans (congrArg some (by kernel_rfl))
 f285:=Tryz.func127.trans (congrArg some (by kernel_rfl))
 f286:=Tryz.func128.trans (congrArg some (by kernel_rfl))
 f317:=Tryz.func135.trans (congrArg some (by kernel_rfl))
 f318:=Tryz.func136.trans (congrArg some (by kernel_rfl))
 f319:=Tryz.func137.trans (congrArg some (by kernel_rfl))
 f320:=Tryz.func138.trans (congrArg some (by kernel_rfl))
 f337:=Tryz.func141.trans (congrArg some (by kernel_rfl))
 f338:=Tryz.func96.trans (congrArg some (by kernel_rfl))
 t0:=Tryz.underlying0
 a0:=Tryz.isAgg0
 z0:=Tryz.sizeOf0
 v0:=Tryz.zeroValue0
 t2:=Tryz.underlying2
 a2:=Tryz.isAgg2
 z2:=Tryz.sizeOf2
 v2:=Tryz.zeroValue2
 t3:=Tryz.underlying3
 a3:=Tryz.isAgg3
 z3:=Tryz.sizeOf3
 v3:=Tryz.zeroValue3
 t4:=Tryz.underlying4
 a4:=Tryz.isAgg4
 z4:=Tryz.sizeOf4
 v4:=Tryz.zeroValue4
 t5:=Tryz.underlying5
 a5:=Tryz.isAgg5
 z5:=Tryz.sizeOf5
 v5:=Tryz.zeroValue5
 t9:=Tryz.underlying9
 a9:=Tryz.isAgg9
 z9:=Tryz.sizeOf9
 v9:=Tryz.zeroValue9
 t20:=Tryz.underlying20
 a20:=Tryz.isAgg20
 z20:=Tryz.sizeOf20
 v20:=Tryz.zeroValue20
 t37:=Tryz.underlying74
 a37:=Tryz.isAgg74
 z37:=Tryz.sizeOf74
 v37:=Tryz.zeroValue74
 t46:=Tryz.underlying44
 a46:=Tryz.isAgg44
 z46:=Tryz.sizeOf44
 v46:=Tryz.zeroValue44
 t51:=Tryz.underlying95
 a51:=Tryz.isAgg95
 z51:=Tryz.sizeOf95
 v51:=Tryz.zeroValue95
 t53:=Tryz.underlying22
 a53:=Tryz.isAgg22
 z53:=Tryz.sizeOf22
 v53:=Tryz.zeroValue22
 t171:=Tryz.underlying152
 a171:=Tryz.isAgg152
 z171:=Tryz.sizeOf152
 v171:=Tryz.zeroValue152
 t173:=Tryz.underlying154
 a173:=Tryz.isAgg154
 z173:=Tryz.sizeOf154
 v173:=Tryz.zeroValue154
 t212:=Tryz.underlying165
 a212:=Tryz.isAgg165
 z212:=Tryz.sizeOf165
 v212:=Tryz.zeroValue165
 t213:=Tryz.underlying166
 a213:=Tryz.isAgg166
 z213:=Tryz.sizeOf166
 t232:=Tryz.underlying172
 a232:=Tryz.isAgg172
 z232:=Tryz.sizeOf172
 v232:=Tryz.zeroValue172
 t233:=Tryz.underlying148
 a233:=Tryz.isAgg148
 z233:=Tryz.sizeOf148
 v233:=Tryz.zeroValue148
 g17:=by kernel_rfl
 g18:=by kernel_rfl
 g19:=by kernel_rfl
 i0:=by kernel_rfl
 i2:=by kernel_rfl
 i3:=by kernel_rfl
 i4:=by kernel_rfl
 i5:=by kernel_rfl
 i9:=by kernel_rfl
 i20:=by kernel_rfl
 i37:=by kernel_rfl
 i46:=by kernel_rfl
 i51:=by kernel_rfl
 i53:=by kernel_rfl
 i171:=by kernel_rfl
 i173:=by kernel_rfl
 i212:=by kernel_rfl
 i232:=by kernel_rfl
 i233:=by kernel_rfl
 m17:=by kernel_rfl
 m18:=by kernel_rfl
 m19:=by kernel_rfl }
end Go.Proofs
namespace Go.Eng
open Go.RowKit Go.Proofs
theorem pA {P:Program} {gl:Nat→AV} {f n:Nat} {c:fh} (h:∀(ti gg:List TV) (w:World) (R:Reach) (xs:List Value),(c ti).holds gg→fo R w (ti.map TV.av) xs→(∀n,Rep R w (gl n) (.pointer (some ⟨n,0,none⟩))) →
  gg.length=n∧Calls P f ⟨xs⟩ w fun e w'=>∃rvs:List Value,e = .returned (if n=1 then rvs.headD undef else .tuple ⟨rvs⟩)∧Below w.heap.size w w'∧∀R w',fo R w' (gg.map TV.av) rvs):dK P gl f (fh.fs (c,{ bQ:=n })):=by
 refine ⟨fun _ w R ins outs xs hG hR xx ha=>?_,fun _ _ h=>by cases h⟩
 obtain ⟨ti,gg,rfl,rfl,hc⟩:=hG
 obtain ⟨hl,h⟩:=h ti gg w R xs hc ha xx
 refine h.mono ?_
 rintro e w' ⟨rvs,rfl,hb,hx⟩
 refine ⟨_,R,rfl,sI hR hb,fun b o hr=>Nat.lt_of_lt_of_le (hR b o hr) hb.size,?_⟩
 have HF:rvs.length=n:=by
  have:=(hx R w').length
  simpa [hl] using this.symm
 refine ⟨rvs,[],[],[],0,0,[],[],HF,rfl,by simp [hl,fh.fs],?_,fun j hj=>by simp [fh.fs] at hj,fun j hj=>by simp [fh.fs] at hj,rfl,rfl,rfl,?_,?_,?_,?_,?_,?_⟩
 ·have e:(List.mapIdx (fun i y=>if (fh.fs (c,{ bQ:=n })).sg.new=some i then AV.pt else y) ((gg.map TV.av).take (fh.fs (c,{ bQ:=n })).sg.bQ))=gg.map TV.av:=by
   have e1:(gg.map TV.av).take (fh.fs (c,{ bQ:=n })).sg.bQ=gg.map TV.av:=List.take_of_length_le (by rw [aH,hl];exact Nat.le_refl _)
   rw [e1]
   show List.mapIdx (fun _ y=>y) (gg.map TV.av)=gg.map TV.av
   exact List.ext_getElem? fun i=>by rw [List.getElem?_mapIdx];cases (gg.map TV.av)[i]? <;> rfl
  rw [e];exact hx R w'
 all_goals intros
 all_goals simp_all [fh.fs,kj]
theorem AM {R:Reach} {w:World} {a b:bO} {xs:List Value} (h:fo R w (([.s a,.s b]:List TV).map TV.av) xs):xs=[.string ⟨a.toArray⟩,.string ⟨b.toArray⟩]:=by
 have h:fo R w [.v (.string ⟨⟨a⟩⟩),.v (.string ⟨⟨b⟩⟩)] xs:=h
 cases h with
 | cons x y =>
  cases x
  cases y with
  | cons x y=>cases x;cases y;rfl
theorem oq {R:Reach} {w:World} {a:bO}:Rep R w (TV.s a).av (.string ⟨a.toArray⟩):=by
 have:Rep R w (.v (.string ⟨⟨a⟩⟩)) (.string ⟨a.toArray⟩) := .v _
 exact this
theorem Nu {R:Reach} {w:World} {n:Int}:Rep R w (TV.i .i64 n).av (.int .i64 n):=by
 have:Rep R w (.v (.int .i64 n)) (.int .i64 n) := .v _
 exact this
theorem Nv {R:Reach} {w:World} {b:Bool}:Rep R w (TV.b b).av (.bool b):=by
 have:Rep R w (.v (.bool b)) (.bool b) := .v _
 exact this
theorem sJ {c:bO} (h:c.all (fun b=>decide (b.toNat<128))=true):∀(j:Nat) b,(⟨c.toArray⟩:ByteArray).data.toList[j]?=some b→b.toNat<128:=fun j b hb=>aM (aL.1 h b (aU (by simpa using hb)))
theorem ug {s c:bO} (h:(decide (s.length≤1099511627776∧c.length≤100)&&c.all (fun b=>decide (b.toNat<128)))=true):(⟨s.toArray⟩:ByteArray).size≤9223372036854775807∧(⟨c.toArray⟩:ByteArray).size<4294967281∧c.all (fun b=>decide (b.toNat<128))=true:=by
 simp only [aa,az] at h
 refine ⟨?_,?_,by simpa using h.2⟩
 ·show s.toArray.size≤_
  rw [List.size_toArray];omega
 ·show c.toArray.size<_
  rw [List.size_toArray];omega
theorem lY.ok:KO 29 (lY.c) lY.sg:=by
 refine pA fun ti gg w R xs hc ha hG=>?_
 unfold lY.c at hc
 split at hc
 ·rename_i s c
  obtain ⟨hp,rfl⟩:=hc
  rw [AM ha]
  obtain ⟨p1,p2,p3⟩:=ug hp
  refine ⟨rfl,(Go.Proofs.Any.strings_Trim_laid Tryz.Ir (by kernel_rfl) _ _ w p1 p2 (sJ p3)).mono ?_⟩
  rintro e w' ⟨rfl,hb⟩
  exact ⟨[_],rfl,hb,fun R w' => .cons oq .nil⟩
 ·exact hc.elim
theorem gY.ok:KO 30 (gY.c) gY.sg:=by
 refine pA fun ti gg w R xs hc ha hG=>?_
 unfold gY.c at hc
 split at hc
 ·rename_i s c
  obtain ⟨hp,rfl⟩:=hc
  rw [AM ha]
  obtain ⟨p1,p2,p3⟩:=ug hp
  refine ⟨rfl,(Go.Proofs.Any.strings_TrimLeft_laid Tryz.Iq (by kernel_rfl) _ _ w p2 (sJ p3)).mono ?_⟩
  rintro e w' ⟨rfl,hb⟩
  exact ⟨[_],rfl,hb,fun R w' => .cons oq .nil⟩
 ·exact hc.elim
theorem fH.ok:KO 31 (fH.c) fH.sg:=by
 refine pA fun ti gg w R xs hc ha hG=>?_
 unfold fH.c at hc
 split at hc
 ·rename_i s c
  obtain ⟨hp,rfl⟩:=hc
  rw [AM ha]
  obtain ⟨p1,p2,p3⟩:=ug hp
  refine ⟨rfl,(Go.Proofs.Any.strings_TrimRight_laid Tryz.Ip (by kernel_rfl) _ _ w p1 p2 (sJ p3)).mono ?_⟩
  rintro e w' ⟨rfl,hb⟩
  exact ⟨[_],rfl,hb,fun R w' => .cons oq .nil⟩
 ·exact hc.elim
theorem mm.ok:KO 96 (mm.c) mm.sg:=by
 refine pA fun ti gg w R xs hc ha hG=>?_
 unfold mm.c at hc
 split at hc
 ·rename_i x
  cases hc
  have e:xs=[.int .u64 x.toNat]:=by
   have ha:fo R w [.v (.int .u64 x.toNat)] xs:=ha
   cases ha with
   | cons a b=>cases a;cases b;rfl
  rw [e]
  have h0:Rep R w (.gv ((Lib.deBruijn64tab.map Int.ofNat).map fun z=>Value.int .u8 z)) (.pointer (some ⟨0,0,none⟩)):=hG 0
  refine ⟨rfl,(Go.Proofs.Any7.bits_TrailingZeros64 Tryz.LG x.toNat x.toNat_lt w fun _ j hj=>?_).mono ?_⟩
  ·cases h0 with
   | gv h1 h2 =>
    have:=h2 j
    rw [aW,aI,aA hj] at this
    rw [ak,aA hj]
    exact this
  ·rintro e w' ⟨rfl,rfl⟩
   exact ⟨[_],rfl,Below.refl _ _,fun R w' => .cons Nu .nil⟩
 ·exact hc.elim
end Go.Eng
namespace Go.Eng
open Go.RowKit Go.Proofs
theorem Fy (n:Nat):Lib.decDigits n=Nr.dec n:=by
 induction n using Nat.strongRecOn with
 | _ n ih =>
  rw [Lib.decDigits]
  by_cases h:n<10
  ·rw [dif_pos h,Nr.kq h]
  ·rw [dif_neg h,Nr.pK h,ih (n / 10) (by omega)]
theorem Ce (v:Int):Lib.itoa v=Nr.itoa v:=by
 rw [Nr.xn]
 unfold Lib.itoa
 by_cases h:v<0
 ·rw [aG h,aG h,Fy]
 ·rw [aE h,aE h,Fy,show v.toNat=v.natAbs by omega]
theorem KX {R:Reach} {w:World} {n:Int} {xs:List Value} (h:fo R w (([.i .i64 n]:List TV).map TV.av) xs):xs=[.int .i64 n]:=by
 have h:fo R w [.v (.int .i64 n)] xs:=h
 cases h with
 | cons a b=>cases a;cases b;rfl
theorem KW {R:Reach} {w:World} {n m:Int} {xs:List Value} (h:fo R w (([.i .i64 n,.i .i64 m]:List TV).map TV.av) xs):xs=[.int .i64 n,.int .i64 m]:=by
 have h:fo R w [.v (.int .i64 n),.v (.int .i64 m)] xs:=h
 cases h with
 | cons a b=>cases a;cases b with
  | cons a b=>cases a;cases b;rfl
theorem KV {R:Reach} {w:World} {s:bO} {m:Int} {xs:List Value} (h:fo R w (([.s s,.i .i64 m]:List TV).map TV.av) xs):xs=[.string ⟨s.toArray⟩,.int .i64 m]:=by
 have h:fo R w [.v (.string ⟨⟨s⟩⟩),.v (.int .i64 m)] xs:=h
 cases h with
 | cons a b=>cases a;cases b with
  | cons a b=>cases a;cases b;rfl
theorem B1 {w:World} {R:Reach} (hG:∀n,Rep R w ((nrGl n).av) (.pointer (some ⟨n,0,none⟩))):Lib.TabIs Tryz.prog w "internal/strconv.uint64pow10" .u64 Lib.pow10Tab:=by
 have kn:=hG 4
 have e:nrGl 4=vx .u64 (Lib.pow10Tab.headD 0 :: Lib.pow10Tab.tail):=rfl
 rw [e] at kn
 exact vR kn (by kernel_rfl)
theorem mb.ok:KO 104 (mb.c) mb.sg:=by
 refine kh fun ti gg w R xs hc ha hR hG=>?_
 unfold mb.c at hc
 split at hc
 ·rename_i n
  obtain ⟨hp,rfl⟩:=hc
  have hp:=aM (Nr.Bc hp)
  obtain rfl:=KX ha
  refine (Any.strconv_Itoa Tryz.FB n hp.1 hp.2 w (B1 hG)).mono ?_
  rintro e w' ⟨rfl,q,os,rfl⟩
  refine ⟨_,rfl,qn _ _ _,fun R w'=>?_⟩
  rw [Ce]
  exact .cons oq .nil
 ·exact hc.elim
theorem gD.ok:KO 86 (gD.c) gD.sg:=by
 refine kh fun ti gg w R xs hc ha hR hG=>?_
 unfold gD.c at hc
 split at hc
 ·rename_i n b
  obtain ⟨hp,rfl⟩:=hc
  rw [aa] at hp
  obtain ⟨hp,hb⟩:=hp
  have hp:=aM (Nr.Bc hp)
  obtain rfl:=aM hb
  obtain rfl:=KW ha
  refine (Any.strconv_FormatInt_10 Tryz.FA n hp.1 hp.2 w (B1 hG)).mono ?_
  rintro e w' ⟨rfl,q,os,rfl⟩
  refine ⟨_,rfl,qn _ _ _,fun R w'=>?_⟩
  rw [Ce]
  exact .cons oq .nil
 ·exact hc.elim
theorem qG:∀c:Nat,Lib.repeatL [48] c=Sh.eP c
 | 0=>rfl
 | c+1=>by
  rw [Lib.repeatL,qG c]
  unfold Sh.eP
  rw [au,au,List.replicate_succ];rfl
theorem gS.ok:KO 51 (gS.c) gS.sg:=by
 refine kh fun ti gg w R xs hc ha hR hG=>?_
 unfold gS.c at hc
 split at hc
 ·rename_i s n
  obtain ⟨hp,rfl⟩:=hc
  obtain ⟨rfl,h1,h2⟩:=aM hp
  obtain rfl:=KV ha
  obtain ⟨c,rfl⟩:=Int.eq_ofNat_of_zero_le h1
  refine (Any.strings_Repeat Tryz.It Tryz.HH ⟨#[48]⟩ c w (by omega) (by show 1 * c≤_;omega)).mono ?_
  rintro e w' ⟨rfl,hb⟩
  refine ⟨_,rfl,hb,fun R w'=>?_⟩
  have e:Lib.repeatL (⟨#[48]⟩:ByteArray).data.toList c=Sh.eP c:=qG c
  rw [e]
  exact .cons oq .nil
 ·exact hc.elim
theorem uE {R:Reach} {w:World} {b:Nat}:∀{l:List bO} {off:Nat},iw R w 1 (l.map fun s=>AV.v (.string ⟨⟨s⟩⟩)) b off→∀j x,l[j]?=some x→R b (off+j)∧w.cell? ⟨b,off+j,none⟩=some (.string ⟨⟨x⟩⟩)
 | [],_,_,j,x,h=>by simp at h
 | s :: r,off,h,j,x,hx=>by
  rw [ah] at h
  cases h with
  | cons h1 h2 =>
   cases h1 with
   | one a b c d e =>
    cases e
    cases j with
    | zero=>simp at hx;subst hx;exact ⟨b,c⟩
    | succ j =>
     have:=uE h2 j x (by simpa using hx)
     rw [show off+1+j=off+(j+1) by omega] at this
     exact this
theorem Da (xs:List ByteArray):Lib.join (xs.map (·.data.toList)) []=(xs.map (·.data.toList)).flatten:=by
 unfold Lib.join
 induction xs with
 | nil=>rfl
 | cons x r ih =>
  cases r with
  | nil=>simp [List.intercalate]
  | cons y r=>simp [List.intercalate,List.intersperse] at ih ⊢;exact ih
theorem lZ.ok:KO 106 (lZ.c) lZ.sg:=by
 refine kh fun ti gg w R xs hc ha hR hG=>?_
 unfold lZ.c at hc
 split at hc
 ·rename_i l s
  obtain ⟨hp,rfl⟩:=hc
  obtain ⟨rfl,h1,h2⟩:=aM hp
  have ha:fo R w [.sl 1 (l.map fun s=>AV.v (.string ⟨⟨s⟩⟩)),.v (.string ⟨⟨[]⟩⟩)] xs:=ha
  cases ha with
  | cons hs ht =>
   cases ht with
   | cons hq ht =>
    cases hq
    cases ht
    have none_:∀(a:Option Addr) (c:Nat),l=[]→Calls Tryz.prog 106 ⟨[.slice a 0 c,.string ⟨⟨[]⟩⟩]⟩ w fun e w'=>∃x,e = .returned x∧Below w.heap.size w w'∧∀R w',fo R w' (([.s l.flatten]:List TV).map TV.av) [x]:=fun a c h0=>by
     refine (Any.strings_Join_none Tryz.Ch Tryz.Jl a c ⟨#[]⟩ w).mono ?_
     rintro e w' ⟨rfl,rfl⟩
     refine ⟨_,rfl,Below.refl _ _,fun R w'=>?_⟩
     rw [h0];exact .cons oq .nil
    generalize qu:(l.map fun s=>AV.v (.string ⟨⟨s⟩⟩))=es at hs
    cases hs with
    | nil=>exact none_ _ _ (List.map_eq_nil_iff.1 qu)
    | em _ hc=>exact none_ _ _ (List.map_eq_nil_iff.1 qu)
    | @sl _ _ b off n cap e1 e2 e3 hE =>
     rw [←qu] at hE e1
     rw [aH] at e1
     subst e1
     by_cases h0:l=[]
     ·rw [h0];rw [h0] at none_;exact none_ _ _ rfl
     ·have ql:=uE hE
      have hb:b<w.heap.size:=by
       obtain ⟨x,hx⟩:∃x,l[0]?=some x:=⟨l[0]'(List.length_pos_iff.2 h0),aA _⟩
       exact hR _ _ (ql 0 x hx).1
      have ed:(l.map fun s=>(⟨⟨s⟩⟩:ByteArray)).map (·.data.toList)=l:=by rw [aW];exact List.map_id l
      have hj:=Da (l.map fun s=>(⟨⟨s⟩⟩:ByteArray))
      rw [ed] at hj
      have:=Any.strings_Join Tryz.Ch Tryz.Jl b off cap (l.map fun s=>(⟨⟨s⟩⟩:ByteArray)) ⟨#[]⟩ w (fun j x hx=>by
       rw [aI] at hx
       cases hl:l[j]? with
       | none=>rw [hl] at hx;cases hx
       | some y=>rw [hl] at hx;cases hx;exact (ql j y hl).2) hb (by rw [aH];omega) (by rw [aH];exact e2) (by rw [ed];show (Lib.join l []).length≤_;rw [hj];omega)
      rw [aH] at this
      refine this.mono ?_
      rintro e w' ⟨rfl,Kf⟩
      refine ⟨_,rfl,Kf,fun R w'=>?_⟩
      rw [ed]
      have e9:Lib.join l (⟨#[]⟩:ByteArray).data.toList=l.flatten:=hj
      rw [e9]
      exact .cons oq .nil
 ·exact hc.elim
end Go.Eng
namespace Go.Eng
open Go.RowKit Go.Proofs Go.Sort
theorem vW {R:Reach} {w:World}:∀{l:List bO} {ys:List Value},dz R w (l.map fun s=>AV.v (.string ⟨⟨s⟩⟩)) ys→ys=l.map encStr
 | [],_,h=>by cases h;rfl
 | s :: r,_,h=>by
  rw [ah] at h
  cases h with
  | cons a b c=>cases b;rw [vW c];rfl
theorem vS {R:Reach} {w:World}:∀l:List bO,dz R w (l.map fun s=>AV.v (.string ⟨⟨s⟩⟩)) (l.map encStr)
 | [] => .nil
 | s :: r => .cons rfl (.v _) (vS r)
theorem wx (l:List bO):(l.map fun s=>AV.v (.string ⟨⟨s⟩⟩)).flatMap AV.cells=l.map fun s=>AV.v (.string ⟨⟨s⟩⟩):=by
 induction l with
 | nil=>rfl
 | cons s r ih=>rw [ah,List.flatMap_cons,ih];rfl
theorem ia.ok:KO 105 (ia.c) ia.sg:=by
 refine ⟨fun h=>(by cases h),fun i s je=>?_⟩
 have je:some (2000,1)=some (i,s):=je
 cases je
 refine ⟨fun h=>absurd h (by decide),fun _=>⟨fun h=>absurd h (by decide),fun _=>?_⟩⟩
 intro w R ins fs xs v es hG hR xx hx hi fO ht hp hT
 obtain ⟨ti,gg,rfl,ho,hc⟩:=hG
 replace hc:(ia.c ti).holds gg:=hc
 unfold ia.c at hc
 split at hc
 ·rename_i l
  obtain ⟨hl,rfl⟩:=hc
  have hl:=aM hl
  have hi:some (AV.sl 1 (l.map fun s=>AV.v (.string ⟨⟨s⟩⟩)))=some (.sl 1 es):=hi
  injection hi with hi
  injection hi with _ hi
  subst hi
  have ho:[AV.sl 1 fs]=[AV.sl 1 (l.reverse.map fun s=>AV.v (.string ⟨⟨s⟩⟩))]:=ho
  injection ho with ho _
  injection ho with _ ho
  subst ho
  have vp:xs=[v]:=by
   have hT:fo R w [.pt] xs:=hT
   cases hT with
   | cons a b=>cases b;have:some _=some v:=hx;cases this;rfl
  subst vp
  obtain ⟨J4,qV⟩:=hp
  rcases qV with e | ⟨Km,e,qu,qV⟩
  ·cases e
  cases e
  rcases qV with ⟨e1,_⟩ | ⟨g,cap,cur,el,fz,rfl,hh,hL⟩
  ·exact (fO e1).elim
  rw [wx,Nat.mul_one,aH] at hL
  have Bi:=vW hL
  rcases ht with e | ⟨g',n',sH,mI,Xt,Nb,e,Cq,hfz,lq,Pt,vG,SE⟩
  ·cases e
  rw [aH] at e
  cases e
  rw [hh] at Cq
  cases Cq
  rw [Nat.mul_one] at lq
  have jf:∀j,j<l.length→cur[j]?=some (encStr (l.toArray[j]!)):=fun j hj=>by
   have h1:(cur.toList.take l.length)[j]?=(l.map encStr)[j]?:=by rw [Bi]
   rw [List.getElem?_take_of_lt hj,aI,aA hj] at h1
   rw [←Array.getElem?_toList,h1,getElem!_pos l.toArray j (by simpa using hj)];simp
  have hH:Holds encStr w g 0 l.toArray:=fun j hj=>by
   have hj:j<l.length:=by simpa using hj
   rw [Nat.zero_add]
   refine ⟨?_,?_⟩
   ·simp only [World.cell?,hh];exact jf j hj
   ·simp only [World.frozen?,hh]
    exact Bool.eq_false_iff.2 fun e=>hfz j (by omega) (by simpa using e)
  have:=Any.slices_Reverse_string_arr Tryz.LH g 0 cap l.toArray w hH (by rw [List.size_toArray];omega)
  rw [List.size_toArray] at this
  have eL:(l.map fun s=>AV.v (.string ⟨⟨s⟩⟩)).length=l.length:=aH _
  rw [eL]
  refine this.mono ?_
  rintro e w' ⟨rfl,n,rfl⟩
  have F9:∀b,(putRow encStr (Sort.ahead w n) g 0 l.toArray.reverse).heap[b]?=if b=g then some (.cells (putCells encStr 0 l.toArray.reverse cur) el fz) else w.heap[b]?:=fun b=>by
   show (w.heap.modify g (onCells (putCells encStr 0 l.toArray.reverse)))[b]?=_
   rw [Array.getElem?_modify]
   by_cases c:g=b
   ·subst c;rw [aG rfl,aG rfl,hh];rfl
   ·rw [aE c,aE (fun e=>c e.symm)]
  have Sq:(putCells encStr 0 l.toArray.reverse cur).size=cur.size:=Array.size_mapIdx ..
  have gX:(putCells encStr 0 l.toArray.reverse cur).toList.take l.length=l.reverse.map encStr:=by
   apply List.ext_getElem?
   intro j
   by_cases c:j<l.length
   ·rw [List.getElem?_take_of_lt c,Array.getElem?_toList]
    simp only [putCells,Array.getElem?_mapIdx]
    rw [jf j c]
    have hs:j<l.toArray.reverse.size:=by simpa using c
    simp only [Option.map_some]
    rw [aG ⟨by omega,by simpa using c⟩,Nat.sub_zero,getElem!_pos _ j hs,aI,aA (by simpa using c)]
    simp
   ·rw [List.getElem?_eq_none (by rw [aJ];omega),List.getElem?_eq_none (by rw [aH,List.length_reverse];omega)]
  refine ⟨rfl,rfl,rfl,rfl,?_,?_,?_,?_⟩
  ·show (w.heap.modify g _).size=_;exact Array.size_modify ..
  ·intro b hb
   rw [F9,aE (fun e=>hb (by rw [e];rfl))]
  ·exact .inr ⟨g,l.length,cap,_,el,fz,rfl,by rw [F9,aG rfl],fun o ho=>hfz o (by omega),by rw [Sq,Nat.mul_one];exact lq,Pt,vG,SE⟩
  ·refine ⟨J4,.inr ⟨_,rfl,fun e he=>?_,.inr ⟨g,cap,_,el,fz,by rw [aH,List.length_reverse],by rw [F9,aG rfl],?_⟩⟩⟩
   ·obtain ⟨s,_,rfl⟩:=aP.1 he;rfl
   ·rw [wx,Nat.mul_one,aH,List.length_reverse,gX]
    exact vS _
 ·exact hc.elim
end Go.Eng
namespace Go.Eng
open Go.Proofs
theorem cO.fit (x:Nat) (hp:(Fl.num x)=true):([.c (.float .f64 x)]:List TV).length=cO.d.np∧cO.d.run (cV nrGl cO.env) [.c (.float .f64 x)]=some (([(.c (.float .f64 (Fl.iM x)))]:List TV)++cO.d.eu.map fun qq=>([.c (.float .f64 x)]:List TV).getD qq.1 .dead) :=
 ⟨by kernel_rfl,Eq.trans (b:=cO.F x) (by kernel_rfl) (Eq.trans (cO.goal x hp) (by kernel_rfl))⟩
theorem cO.ok:KO 130 (cO.c) cO.sg :=
 meets (l:=cO.env) all_nil cO.eO (by
   intro ins outs h
   unfold cO.c at h
   split at h
   ·obtain ⟨hp,rfl⟩:=h;exact cO.fit _ hp
   ·exact h.elim)
end Go.Eng
namespace Go.Eng
open Go.RowKit Go.Proofs
set_option maxRecDepth 100000
set_option maxHeartbeats 1000000
theorem Fl.EK (a:Nat):Ieee.double.read (Fl.neg a)=(Ieee.double.read a).opposite:=by
 have e1:Fl.neg a % 2 ^ 63=a % 2 ^ 63:=by
  unfold Fl.neg
  rw [show 9223372036854775808=2 ^ 63 by decide,Nat.xor_mod_two_pow,Nat.mod_self,Nat.xor_zero]
 have e2:(Fl.neg a / 2 ^ 63 % 2 == 1)=!(a / 2 ^ 63 % 2 == 1):=by
  unfold Fl.neg
  rw [show 9223372036854775808=2 ^ 63 by decide,Nat.xor_div_two_pow,Nat.div_self (by decide)]
  have:=Nat.xor_mod_two_pow (a:=a / 2 ^ 63) (b:=1) (n:=1)
  rw [Nat.pow_one] at this
  rw [this]
  rcases Nat.mod_two_eq_zero_or_one (a / 2 ^ 63) with e | e <;> rw [e] <;> rfl
 have h:Ieee.double.signWeight=2 ^ 63:=rfl
 unfold Ieee.Format.read
 rw [h]
 simp only [e1,e2]
 split
 ·rfl
 ·split
  ·rfl
  ·split <;> rfl
theorem Fl.W.neg {a:Nat} {x:Int} (h:Fl.W a x):Fl.W (Fl.neg a) (-x):=by
 show Fl.WD (Ieee.double.read (Fl.neg a)) (-x)
 rw [Fl.EK]
 exact Fl.WD.opposite h
theorem DY {R:Reach} {w:World} {x:Nat} (hx:Fl.num x=true) (hR:∀b o,R b o→b<w.heap.size) (hG:∀n,Rep R w ((nrGl n).av) (.pointer (some ⟨n,0,none⟩))) :
  Calls Tryz.prog 130 #[.float .f64 x] w fun e w'=>e = .returned (.float .f64 (Fl.iM x))∧Below w.heap.size w w':=by
 refine (cO.ok.1 rfl w R [.v (.float .f64 x)] [.v (.float .f64 (Fl.iM x))] [.float .f64 x] ⟨[.c (.float .f64 x)],[.c (.float .f64 (Fl.iM x))],rfl,rfl,?_⟩ hR hG (.cons (.v _) .nil)).mono ?_
 ·exact ⟨hx,rfl⟩
 ·rintro e w' ⟨y,R',rfl,hx,hr,ho⟩
  obtain ⟨rvs,tr,gg,tn,bn,br,cn,cr,h1,h2,h3,h4,_⟩:=ho
  refine ⟨?_,hx.os,hx.tape,hx.output,hx.size,fun k hk=>hx.heap k hk id⟩
  congr 1
  have h1:rvs.length=1:=h1
  match rvs,h1 with
  | [y],_ =>
   have h4:fo R' w' [.v (.float .f64 (Fl.iM x))] [y]:=h4
   cases h4 with
   | cons a b=>cases a;exact h2
theorem TW {R:Reach} (b:Nat) (x m:Nat) (X M:Int) (w:World) (hc:w.cell? ⟨b,0,none⟩=some (.float .f64 m)) (hX:Fl.W x X) (hM:Fl.W m M) (Zf:(X.natAbs:Int)≤M) (hB:M≤9007199254740992) (hR:∀b o,R b o→b<w.heap.size) (hG:∀n,Rep R w ((nrGl n).av) (.pointer (some ⟨n,0,none⟩))) :
  Calls Tryz.prog 132 #[.float .f64 x,.pointer (some ⟨b,0,none⟩)] w fun e w'=>e = .returned (.bool true)∧Below w.heap.size w w':=by
 have hn:∀w:World,(Op.unary .neg (.float .f64 m)).run Tryz.prog w = .ok (.float .f64 (Fl.neg m)) w:=fun w=>rfl
 have h1:FloatKind.f64.format.order x (Fl.neg m)=some .gt∨FloatKind.f64.format.order x (Fl.neg m)=some .eq:=by
  have e:FloatKind.f64.format.order x (Fl.neg m)=some (compare X (-M)):=Fl.jz hX hM.neg
  rw [e]
  rcases Int.lt_or_eq_of_le (show -M≤X by omega) with c | c
  ·rw [Int.compare_eq_gt.2 c];exact .inl rfl
  ·rw [←c,Int.compare_eq_eq.2 rfl];exact .inr rfl
 have h2:FloatKind.f64.format.order x m=some .lt∨FloatKind.f64.format.order x m=some .eq:=by
  have e:FloatKind.f64.format.order x m=some (compare X M):=Fl.jz hX hM
  rw [e]
  rcases Int.lt_or_eq_of_le (show X≤M by omega) with c | c
  ·rw [Int.compare_eq_lt.2 c];exact .inl rfl
  ·rw [←c,Int.compare_eq_eq.2 rfl];exact .inr rfl
 have h3:FloatKind.f64.format.order x (Fl.iM x)=some .eq:=by
  have e:FloatKind.f64.format.order x (Fl.iM x)=some (compare X X):=Fl.jz hX (hX.iM (by omega))
  rw [e,Int.compare_eq_eq.2 rfl]
 go_enter Tryz.func132,Tryz.ntmps132
 rcases h1 with h1 | h1 <;> rcases h2 with h2 | h2
 all_goals
  go_wp2_with (go_at_call 130;refine (DY hX.num hR hG).mono ?_;rintro e w' ⟨rfl,hb⟩)
  go_ret
  exact ⟨rfl,hb⟩
theorem zF {R:Reach} {w w':World} (hR:∀b o,R b o→b<w.heap.size) (h:Below w.heap.size w w') (hG:∀n,Rep R w ((nrGl n).av) (.pointer (some ⟨n,0,none⟩))):∀n,Rep R w' ((nrGl n).av) (.pointer (some ⟨n,0,none⟩)) :=
 fun n=>Rep.mono (sI hR h).bM (hG n)
theorem VA {R:Reach} (z:Cx) (m:Nat) (X Y M:Int) (w:World) (hZ:Gz.Is z X Y) (hM:Fl.W m M) (hX:(X.natAbs:Int)≤M) (hY:(Y.natAbs:Int)≤M) (hB:M≤9007199254740992) (hR:∀b o,R b o→b<w.heap.size) (hG:∀n,Rep R w ((nrGl n).av) (.pointer (some ⟨n,0,none⟩))) :
  Calls Tryz.prog 119 #[.complex .f64 z.1 z.2,.float .f64 m] w fun e w'=>e = .returned (.bool true)∧Below w.heap.size w w':=by
 have Y6:∀(fn:Fn) (first cap:Array Value) (w:World),(Instr.makeFunc fn first cap).run Tryz.prog w = .ok (.func fn first cap) w:=fun _ _ _ _=>rfl
 have HG:Below w.heap.size w (w.alloc (.cells #[.float .f64 m] 146)):=(Below.refl _ _).alloc (Nat.le_refl _) _
 have xA:(w.alloc (.cells #[.float .f64 m] 146)).cell? ⟨w.heap.size,0,none⟩=some (.float .f64 m):=by
  rw [World.cell?_alloc_at _ _ _ _ rfl];rfl
 have fy:(w.alloc (.cells #[.float .f64 m] 146)).heap.size=w.heap.size+1:=Array.size_push ..
 have L0:∀(a:Array TypeId) (b:TypeId) (p q:Nat) (w:World),(Builtin.real_ a b #[.complex .f64 p q]).run Tryz.prog w = .ok (.float .f64 p) w:=fun _ _ _ _ _=>rfl
 have Za:∀(a:Array TypeId) (b:TypeId) (p q:Nat) (w:World),(Builtin.imag_ a b #[.complex .f64 p q]).run Tryz.prog w = .ok (.float .f64 q) w:=fun _ _ _ _ _=>rfl
 have Tf:∀b o,R b o→b<(w.alloc (.cells #[.float .f64 m] 146)).heap.size:=fun b o h=>by have:=hR b o h;omega
 go_enter Tryz.func119,Tryz.ntmps119
 have UD:=zF hR HG hG
 go_wp2_with (go_at_call 132;refine (TW (R:=R) w.heap.size z.1 m X M (w.alloc (.cells #[.float .f64 m] 146)) xA hZ.1 hM hX hB Tf UD).mono ?eH;rintro e w2 ⟨rfl,yg⟩)
 have IW:w2.cell? ⟨w.heap.size,0,none⟩=some (.float .f64 m):=by
  simp only [World.cell?,yg.block w.heap.size (by omega)]
  exact xA
 have P2:∀b o,R b o→b<w2.heap.size:=fun b o h=>Nat.lt_of_lt_of_le (Tf b o h) yg.size
 refine (TW (R:=R) w.heap.size z.2 m Y M w2 IW hZ.2 hM hY hB P2 (zF Tf yg UD)).mono ?_
 rintro e w3 ⟨rfl,PY⟩
 go_wp2
 go_ret
 refine ⟨rfl,?_⟩
 exact ⟨PY.os.trans (yg.os.trans HG.os),PY.tape.trans (yg.tape.trans HG.tape),PY.output.trans (yg.output.trans HG.output),by have:=PY.size;have:=yg.size;omega,fun k hk=>(PY.block k (by have:=yg.size;omega)).trans ((yg.block k (by omega)).trans (HG.block k hk))⟩
theorem gF.ok:KO 119 (gF.c) gF.sg:=by
 refine kh fun ti gg w R xs hc ha hR hG=>?_
 unfold gF.c at hc
 split at hc
 ·rename_i p q m
  obtain ⟨hp,rfl⟩:=hc
  have e:xs=[.complex .f64 p q,.float .f64 m]:=by
   have ha:fo R w [.v (.complex .f64 p q),.v (.float .f64 m)] xs:=ha
   cases ha with
   | cons a b =>
    cases a
    cases b with
    | cons a b=>cases a;cases b;rfl
  subst e
  unfold Gz.LR at hp
  classical
  obtain ⟨X,Y,M,h1,h2,h3,h4,h5⟩:=aM hp
  refine (VA (p,q) m X Y M w h1 h2 h3 h4 h5 hR hG).mono ?_
  rintro e w' ⟨rfl,hb⟩
  exact ⟨_,rfl,hb,fun R w' => .cons Nv .nil⟩
 ·exact hc.elim
end Go.Eng
namespace Go.Eng
open Go.Proofs
theorem bS.fit (x:UInt16):([.u16 x]:List TV).length=bS.d.np∧bS.d.run (cV nrGl bS.env) [.u16 x]=some (([(.i .i64 ((Nt.bits (x).toNat:Int)))]:List TV)++bS.d.eu.map fun qq=>([.u16 x]:List TV).getD qq.1 .dead) :=
 ⟨by kernel_rfl,Eq.trans (b:=bS.F x) (by kernel_rfl) (Eq.trans (bS.goal x) (by kernel_rfl))⟩
theorem bS.ok:KO 44 (bS.c) bS.sg :=
 meets (l:=bS.env) all_nil bS.eO (by
   intro ins outs h
   unfold bS.c at h
   split at h
   ·cases h;exact bS.fit _
   ·exact h.elim)
theorem bits_Len64.fit (x:UInt64):([.u64 x]:List TV).length=bits_Len64.d.np∧bits_Len64.d.run (cV nrGl bits_Len64.env) [.u64 x]=some (([(.i .i64 ((Nt.bits (x).toNat:Int)))]:List TV)++bits_Len64.d.eu.map fun qq=>([.u64 x]:List TV).getD qq.1 .dead) :=
 ⟨by kernel_rfl,Eq.trans (b:=bits_Len64.F x) (by kernel_rfl) (Eq.trans (bits_Len64.goal x) (by kernel_rfl))⟩
theorem bits_Len64.ok:KO 97 (bits_Len64.c) bits_Len64.sg :=
 meets (l:=bits_Len64.env) all_nil bits_Len64.eO (by
   intro ins outs h
   unfold bits_Len64.c at h
   split at h
   ·cases h;exact bits_Len64.fit _
   ·exact h.elim)
theorem dt.fit (lg:Nat) (lf:Nat) (hp:(Gz.s9 ((lg,lf):Cx) 33554432)=true):([.c (.complex .f64 lg lf)]:List TV).length=dt.d.np∧dt.d.run (cV nrGl dt.env) [.c (.complex .f64 lg lf)]=some (([(.b (true))]:List TV)++dt.d.eu.map fun qq=>([.c (.complex .f64 lg lf)]:List TV).getD qq.1 .dead) :=
 ⟨by kernel_rfl,Eq.trans (b:=dt.F ((lg,lf):Cx)) (by kernel_rfl) (Eq.trans (dt.goal ((lg,lf):Cx) hp) (by kernel_rfl))⟩
theorem dt.ok:KO 116 (dt.c) dt.sg :=
 meets (l:=dt.env) (all_cons gF.ok all_nil) dt.eO (by
   intro ins outs h
   unfold dt.c at h
   split at h
   ·obtain ⟨hp,rfl⟩:=h;exact dt.fit _ _ hp
   ·exact h.elim)
theorem fU.fit (x:Int) (y:Int) (hp:(decide (-33554432≤x∧x≤33554432∧-33554432≤y∧y≤33554432))=true):([.i .i64 x,.i .i64 y]:List TV).length=fU.d.np∧fU.d.run (cV nrGl fU.env) [.i .i64 x,.i .i64 y]=some (([(.c (.complex .f64 (((Fl.ofInt x,Fl.ofInt y):Cx)).1 (((Fl.ofInt x,Fl.ofInt y):Cx)).2))]:List TV)++fU.d.eu.map fun qq=>([.i .i64 x,.i .i64 y]:List TV).getD qq.1 .dead) :=
 ⟨by kernel_rfl,Eq.trans (b:=fU.F x y) (by kernel_rfl) (Eq.trans (fU.goal x y hp) (by kernel_rfl))⟩
theorem fU.ok:KO 114 (fU.c) fU.sg :=
 meets (l:=fU.env) all_nil fU.eO (by
   intro ins outs h
   unfold fU.c at h
   split at h
   ·obtain ⟨hp,rfl⟩:=h;exact fU.fit _ _ hp
   ·exact h.elim)
theorem dh.fit (lg:Nat) (lf:Nat) (hp:(Gz.s9 ((lg,lf):Cx) 4503599627370496)=true):([.c (.complex .f64 lg lf)]:List TV).length=dh.d.np∧dh.d.run (cV nrGl dh.env) [.c (.complex .f64 lg lf)]=some (([(.i .i64 (Fl.toInt (((lg,lf):Cx)).1)),(.i .i64 (Fl.toInt (((lg,lf):Cx)).2)),(.b (true))]:List TV)++dh.d.eu.map fun qq=>([.c (.complex .f64 lg lf)]:List TV).getD qq.1 .dead) :=
 ⟨by kernel_rfl,Eq.trans (b:=dh.F ((lg,lf):Cx)) (by kernel_rfl) (Eq.trans (dh.goal ((lg,lf):Cx) hp) (by kernel_rfl))⟩
theorem dh.ok:KO 94 (dh.c) dh.sg :=
 meets (l:=dh.env) (all_cons gF.ok all_nil) dh.eO (by
   intro ins outs h
   unfold dh.c at h
   split at h
   ·obtain ⟨hp,rfl⟩:=h;exact dh.fit _ _ hp
   ·exact h.elim)
theorem dQ.fit (lg:Nat) (lf:Nat) (k:Int) (hp:(Gz.s9 ((lg,lf):Cx) 1125899906842624&&decide (-100≤k∧k≤100))=true):([.c (.complex .f64 lg lf),.i .i64 k]:List TV).length=dQ.d.np∧dQ.d.run (cV nrGl dQ.env) [.c (.complex .f64 lg lf),.i .i64 k]=some (([(.c (.complex .f64 (Gz.tm ((lg,lf):Cx) k).1 (Gz.tm ((lg,lf):Cx) k).2))]:List TV)++dQ.d.eu.map fun qq=>([.c (.complex .f64 lg lf),.i .i64 k]:List TV).getD qq.1 .dead) :=
 ⟨by kernel_rfl,Eq.trans (b:=dQ.F ((lg,lf):Cx) k) (by kernel_rfl) (Eq.trans (dQ.goal ((lg,lf):Cx) k hp) (by kernel_rfl))⟩
theorem dQ.ok:KO 131 (dQ.c) dQ.sg :=
 meets (l:=dQ.env) (all_cons gF.ok all_nil) dQ.eO (by
   intro ins outs h
   unfold dQ.c at h
   split at h
   ·obtain ⟨hp,rfl⟩:=h;exact dQ.fit _ _ _ hp
   ·exact h.elim)
theorem dv.fit (lg:Nat) (lf:Nat) (DP:Nat) (DO:Nat) (hp:(Gz.s9 ((lg,lf):Cx) 33554432&&Gz.s9 ((DP,DO):Cx) 33554432)=true):([.c (.complex .f64 lg lf),.c (.complex .f64 DP DO)]:List TV).length=dv.d.np∧dv.d.run (cV nrGl dv.env) [.c (.complex .f64 lg lf),.c (.complex .f64 DP DO)]=some (([(.c (.complex .f64 (Gz.mul ((lg,lf):Cx) ((DP,DO):Cx)).1 (Gz.mul ((lg,lf):Cx) ((DP,DO):Cx)).2))]:List TV)++dv.d.eu.map fun qq=>([.c (.complex .f64 lg lf),.c (.complex .f64 DP DO)]:List TV).getD qq.1 .dead) :=
 ⟨by kernel_rfl,Eq.trans (b:=dv.F ((lg,lf):Cx) ((DP,DO):Cx)) (by kernel_rfl) (Eq.trans (dv.goal ((lg,lf):Cx) ((DP,DO):Cx) hp) (by kernel_rfl))⟩
theorem dv.ok:KO 92 (dv.c) dv.sg :=
 meets (l:=dv.env) (all_cons dt.ok all_nil) dv.eO (by
   intro ins outs h
   unfold dv.c at h
   split at h
   ·obtain ⟨hp,rfl⟩:=h;exact dv.fit _ _ _ _ hp
   ·exact h.elim)
theorem dL.fit (x:Nat) (hp:(Gz.IG x)=true):([.c (.float .f64 x)]:List TV).length=dL.d.np∧dL.d.run (cV nrGl dL.env) [.c (.float .f64 x)]=some (([(.b (true))]:List TV)++dL.d.eu.map fun qq=>([.c (.float .f64 x)]:List TV).getD qq.1 .dead) :=
 ⟨by kernel_rfl,Eq.trans (b:=dL.F x) (by kernel_rfl) (Eq.trans (dL.goal x hp) (by kernel_rfl))⟩
theorem dL.ok:KO 129 (dL.c) dL.sg :=
 meets (l:=dL.env) (all_cons cO.ok all_nil) dL.eO (by
   intro ins outs h
   unfold dL.c at h
   split at h
   ·obtain ⟨hp,rfl⟩:=h;exact dL.fit _ hp
   ·exact h.elim)
theorem dj.fit (dY:Nat) (dX:Nat) (dW:Nat) (dV:Nat) (dU:Nat) (dT:Nat) (dS:Nat) (dR:Nat) (hp:(Gz.vo (Qd.mk ((dY,dX):Cx) ((dW,dV):Cx) ((dU,dT):Cx) ((dS,dR):Cx)) 1125899906842624)=true):([.ag [.c (.complex .f64 dY dX),.c (.complex .f64 dW dV),.c (.complex .f64 dU dT),.c (.complex .f64 dS dR)]]:List TV).length=dj.d.np∧dj.d.run (cV nrGl dj.env) [.ag [.c (.complex .f64 dY dX),.c (.complex .f64 dW dV),.c (.complex .f64 dU dT),.c (.complex .f64 dS dR)]]=some (([(.b (true))]:List TV)++dj.d.eu.map fun qq=>([.ag [.c (.complex .f64 dY dX),.c (.complex .f64 dW dV),.c (.complex .f64 dU dT),.c (.complex .f64 dS dR)]]:List TV).getD qq.1 .dead) :=
 ⟨by kernel_rfl,Eq.trans (b:=dj.F (Qd.mk ((dY,dX):Cx) ((dW,dV):Cx) ((dU,dT):Cx) ((dS,dR):Cx))) (by kernel_rfl) (Eq.trans (dj.goal (Qd.mk ((dY,dX):Cx) ((dW,dV):Cx) ((dU,dT):Cx) ((dS,dR):Cx)) hp) (by kernel_rfl))⟩
theorem dj.ok:KO 117 (dj.c) dj.sg :=
 meets (l:=dj.env) (all_cons dL.ok all_nil) dj.eO (by
   intro ins outs h
   unfold dj.c at h
   split at h
   ·obtain ⟨hp,rfl⟩:=h;exact dj.fit _ _ _ _ _ _ _ _ hp
   ·exact h.elim)
theorem bY.fit (dY:Nat) (dX:Nat) (dW:Nat) (dV:Nat) (dU:Nat) (dT:Nat) (dS:Nat) (dR:Nat) (w:Int) (hp:(Gz.vo (Qd.mk ((dY,dX):Cx) ((dW,dV):Cx) ((dU,dT):Cx) ((dS,dR):Cx)) 1125899906842624&&decide (w=1∨w=-1))=true):([.ag [.c (.complex .f64 dY dX),.c (.complex .f64 dW dV),.c (.complex .f64 dU dT),.c (.complex .f64 dS dR)],.i .i64 w]:List TV).length=bY.d.np∧bY.d.run (cV nrGl bY.env) [.ag [.c (.complex .f64 dY dX),.c (.complex .f64 dW dV),.c (.complex .f64 dU dT),.c (.complex .f64 dS dR)],.i .i64 w]=some (([(.ag (Qd.cells (Gz.mq (Qd.mk ((dY,dX):Cx) ((dW,dV):Cx) ((dU,dT):Cx) ((dS,dR):Cx)) w)))]:List TV)++bY.d.eu.map fun qq=>([.ag [.c (.complex .f64 dY dX),.c (.complex .f64 dW dV),.c (.complex .f64 dU dT),.c (.complex .f64 dS dR)],.i .i64 w]:List TV).getD qq.1 .dead) :=
 ⟨by kernel_rfl,Eq.trans (b:=bY.F (Qd.mk ((dY,dX):Cx) ((dW,dV):Cx) ((dU,dT):Cx) ((dS,dR):Cx)) w) (by kernel_rfl) (Eq.trans (bY.goal (Qd.mk ((dY,dX):Cx) ((dW,dV):Cx) ((dU,dT):Cx) ((dS,dR):Cx)) w hp) (by kernel_rfl))⟩
theorem bY.ok:KO 118 (bY.c) bY.sg :=
 meets (l:=bY.env) (all_cons dQ.ok all_nil) bY.eO (by
   intro ins outs h
   unfold bY.c at h
   split at h
   ·obtain ⟨hp,rfl⟩:=h;exact bY.fit _ _ _ _ _ _ _ _ _ hp
   ·exact h.elim)
theorem dM.fit (dY:Nat) (dX:Nat) (dW:Nat) (dV:Nat) (dU:Nat) (dT:Nat) (dS:Nat) (dR:Nat) (hp:(Gz.vo (Qd.mk ((dY,dX):Cx) ((dW,dV):Cx) ((dU,dT):Cx) ((dS,dR):Cx)) 1125899906842624)=true):([.ag [.c (.complex .f64 dY dX),.c (.complex .f64 dW dV),.c (.complex .f64 dU dT),.c (.complex .f64 dS dR)]]:List TV).length=dM.d.np∧dM.d.run (cV nrGl dM.env) [.ag [.c (.complex .f64 dY dX),.c (.complex .f64 dW dV),.c (.complex .f64 dU dT),.c (.complex .f64 dS dR)]]=some (([(.ag (Qd.cells (Gz.mq (Qd.mk ((dY,dX):Cx) ((dW,dV):Cx) ((dU,dT):Cx) ((dS,dR):Cx)) 1)))]:List TV)++dM.d.eu.map fun qq=>([.ag [.c (.complex .f64 dY dX),.c (.complex .f64 dW dV),.c (.complex .f64 dU dT),.c (.complex .f64 dS dR)]]:List TV).getD qq.1 .dead) :=
 ⟨by kernel_rfl,Eq.trans (b:=dM.F (Qd.mk ((dY,dX):Cx) ((dW,dV):Cx) ((dU,dT):Cx) ((dS,dR):Cx))) (by kernel_rfl) (Eq.trans (dM.goal (Qd.mk ((dY,dX):Cx) ((dW,dV):Cx) ((dU,dT):Cx) ((dS,dR):Cx)) hp) (by kernel_rfl))⟩
theorem dM.ok:KO 115 (dM.c) dM.sg :=
 meets (l:=dM.env) (all_cons dj.ok (all_cons bY.ok all_nil)) dM.eO (by
   intro ins outs h
   unfold dM.c at h
   split at h
   ·obtain ⟨hp,rfl⟩:=h;exact dM.fit _ _ _ _ _ _ _ _ hp
   ·exact h.elim)
theorem cU.fit (dY:Nat) (dX:Nat) (dW:Nat) (dV:Nat) (dU:Nat) (dT:Nat) (dS:Nat) (dR:Nat) (hp:(Gz.vo (Qd.mk ((dY,dX):Cx) ((dW,dV):Cx) ((dU,dT):Cx) ((dS,dR):Cx)) 1125899906842624&&Gz.JX (Qd.mk ((dY,dX):Cx) ((dW,dV):Cx) ((dU,dT):Cx) ((dS,dR):Cx)))=true):([.ag [.c (.complex .f64 dY dX),.c (.complex .f64 dW dV),.c (.complex .f64 dU dT),.c (.complex .f64 dS dR)]]:List TV).length=cU.d.np∧cU.d.run (cV nrGl cU.env) [.ag [.c (.complex .f64 dY dX),.c (.complex .f64 dW dV),.c (.complex .f64 dU dT),.c (.complex .f64 dS dR)]]=some (([(.ag (Qd.cells (Gz.back (Qd.mk ((dY,dX):Cx) ((dW,dV):Cx) ((dU,dT):Cx) ((dS,dR):Cx))))),(.b (true))]:List TV)++cU.d.eu.map fun qq=>([.ag [.c (.complex .f64 dY dX),.c (.complex .f64 dW dV),.c (.complex .f64 dU dT),.c (.complex .f64 dS dR)]]:List TV).getD qq.1 .dead) :=
 ⟨by kernel_rfl,Eq.trans (b:=cU.F (Qd.mk ((dY,dX):Cx) ((dW,dV):Cx) ((dU,dT):Cx) ((dS,dR):Cx))) (by kernel_rfl) (Eq.trans (cU.goal (Qd.mk ((dY,dX):Cx) ((dW,dV):Cx) ((dU,dT):Cx) ((dS,dR):Cx)) hp) (by kernel_rfl))⟩
theorem cU.ok:KO 93 (cU.c) cU.sg :=
 meets (l:=cU.env) (all_cons dh.ok (all_cons dj.ok (all_cons bY.ok all_nil))) cU.eO (by
   intro ins outs h
   unfold cU.c at h
   split at h
   ·obtain ⟨hp,rfl⟩:=h;exact cU.fit _ _ _ _ _ _ _ _ hp
   ·exact h.elim)
theorem cj.fit (l:List Int) (hp:(decide ((l).length≤256)&&Gz.ie l)=true):([.sl .is l]:List TV).length=cj.d.np∧cj.d.run (cV nrGl cj.env) [.sl .is l]=some (([(.b (true))]:List TV)++cj.d.eu.map fun qq=>([.sl .is l]:List TV).getD qq.1 .dead) :=
 ⟨by kernel_rfl,Eq.trans (b:=cj.F l) (by kernel_rfl) (Eq.trans (cj.goal l hp) (by kernel_rfl))⟩
theorem cj.ok:KO 90 (cj.c) cj.sg :=
 meets (l:=cj.env) all_nil cj.eO (by
   intro ins outs h
   unfold cj.c at h
   split at h
   ·obtain ⟨hp,rfl⟩:=h;exact cj.fit _ hp
   ·exact h.elim)
theorem bR.fit (l:List Int) (hp:(decide ((l).length≤256)&&Gz.ie l)=true):([.sl .is l]:List TV).length=bR.d.np∧bR.d.run (cV nrGl bR.env) [.sl .is l]=some (([(.sl .qd (Gz.gy l))]:List TV)++bR.d.eu.map fun qq=>([.sl .is l]:List TV).getD qq.1 .dead) :=
 ⟨by kernel_rfl,Eq.trans (b:=bR.F l) (by kernel_rfl) (Eq.trans (bR.goal l hp) (by kernel_rfl))⟩
theorem bR.ok:KO 91 (bR.c) bR.sg :=
 meets (l:=bR.env) (all_cons fU.ok (all_cons dM.ok all_nil)) bR.eO (by
   intro ins outs h
   unfold bR.c at h
   split at h
   ·obtain ⟨hp,rfl⟩:=h;exact bR.fit _ hp
   ·exact h.elim)
theorem bK.fit (a:List Int) (b:List Int) (hp:(decide ((a).length≤256∧(b).length≤256)&&(Gz.ie a&&Gz.ie b))=true):([.sl .is a,.sl .is b]:List TV).length=bK.d.np∧bK.d.run (cV nrGl bK.env) [.sl .is a,.sl .is b]=some (([(.sl .is (Gz.conv a b)),(.b (true))]:List TV)++bK.d.eu.map fun qq=>([.sl .is a,.sl .is b]:List TV).getD qq.1 .dead) :=
 ⟨by kernel_rfl,Eq.trans (b:=bK.F a b) (by kernel_rfl) (Eq.trans (bK.goal a b hp) (by kernel_rfl))⟩
theorem bK.ok:KO 62 (bK.c) bK.sg :=
 meets (l:=bK.env) (all_cons cj.ok (all_cons bR.ok (all_cons dv.ok (all_cons cU.ok (all_cons dh.ok all_nil))))) bK.eO (by
   intro ins outs h
   unfold bK.c at h
   split at h
   ·obtain ⟨hp,rfl⟩:=h;exact bK.fit _ _ hp
   ·exact h.elim)
theorem cJ.fit (a:List UInt16) (hp:(decide ((a).length≤1099511627776))=true):([.sl .ws a]:List TV).length=cJ.d.np∧cJ.d.run (cV nrGl cJ.env) [.sl .ws a]=some (([(.sl .ws (Nt.of (Nt.val a)))]:List TV)++cJ.d.eu.map fun qq=>([.sl .ws a]:List TV).getD qq.1 .dead) :=
 ⟨by kernel_rfl,Eq.trans (b:=cJ.F a) (by kernel_rfl) (Eq.trans (cJ.goal a hp) (by kernel_rfl))⟩
theorem cJ.ok:KO 64 (cJ.c) cJ.sg :=
 meets (l:=cJ.env) all_nil cJ.eO (by
   intro ins outs h
   unfold cJ.c at h
   split at h
   ·obtain ⟨hp,rfl⟩:=h;exact cJ.fit _ hp
   ·exact h.elim)
theorem dJ.fit (a:List UInt16) (hp:(decide ((a).length≤1099511627776))=true):([.sl .ws a]:List TV).length=dJ.d.np∧dJ.d.run (cV nrGl dJ.env) [.sl .ws a]=some (([(.b (Nt.is a))]:List TV)++dJ.d.eu.map fun qq=>([.sl .ws a]:List TV).getD qq.1 .dead) :=
 ⟨by kernel_rfl,Eq.trans (b:=dJ.F a) (by kernel_rfl) (Eq.trans (dJ.goal a hp) (by kernel_rfl))⟩
theorem dJ.ok:KO 42 (dJ.c) dJ.sg :=
 meets (l:=dJ.env) all_nil dJ.eO (by
   intro ins outs h
   unfold dJ.c at h
   split at h
   ·obtain ⟨hp,rfl⟩:=h;exact dJ.fit _ hp
   ·exact h.elim)
theorem dD.fit (v:UInt64):([.u64 v]:List TV).length=dD.d.np∧dD.d.run (cV nrGl dD.env) [.u64 v]=some (([(.sl .ws (Nt.of (v).toNat))]:List TV)++dD.d.eu.map fun qq=>([.u64 v]:List TV).getD qq.1 .dead) :=
 ⟨by kernel_rfl,Eq.trans (b:=dD.F v) (by kernel_rfl) (Eq.trans (dD.goal v) (by kernel_rfl))⟩
theorem dD.ok:KO 18 (dD.c) dD.sg :=
 meets (l:=dD.env) all_nil dD.eO (by
   intro ins outs h
   unfold dD.c at h
   split at h
   ·cases h;exact dD.fit _
   ·exact h.elim)
theorem cG.fit (a:List UInt16) (hp:(decide (Nt.is a=true∧(a).length≤4))=true):([.sl .ws a]:List TV).length=cG.d.np∧cG.d.run (cV nrGl cG.env) [.sl .ws a]=some (([(.u64 (UInt64.ofNat (Nt.val a))),(.b (true))]:List TV)++cG.d.eu.map fun qq=>([.sl .ws a]:List TV).getD qq.1 .dead) :=
 ⟨by kernel_rfl,Eq.trans (b:=cG.F a) (by kernel_rfl) (Eq.trans (cG.goal a hp) (by kernel_rfl))⟩
theorem cG.ok:KO 95 (cG.c) cG.sg :=
 meets (l:=cG.env) (all_cons dJ.ok all_nil) cG.eO (by
   intro ins outs h
   unfold cG.c at h
   split at h
   ·obtain ⟨hp,rfl⟩:=h;exact cG.fit _ hp
   ·exact h.elim)
theorem dI.fit (a:List UInt16) (hp:(Nt.is a)=true):([.sl .ws a]:List TV).length=dI.d.np∧dI.d.run (cV nrGl dI.env) [.sl .ws a]=some (([(.i .i64 ((Nt.bits (Nt.val a):Int)))]:List TV)++dI.d.eu.map fun qq=>([.sl .ws a]:List TV).getD qq.1 .dead) :=
 ⟨by kernel_rfl,Eq.trans (b:=dI.F a) (by kernel_rfl) (Eq.trans (dI.goal a hp) (by kernel_rfl))⟩
theorem dI.ok:KO 20 (dI.c) dI.sg :=
 meets (l:=dI.env) (all_cons dJ.ok (all_cons bS.ok all_nil)) dI.eO (by
   intro ins outs h
   unfold dI.c at h
   split at h
   ·obtain ⟨hp,rfl⟩:=h;exact dI.fit _ hp
   ·exact h.elim)
theorem dm.fit (a:List UInt16) (b:List UInt16) (hp:(decide ((a).length≤1099511627776∧(b).length≤1099511627776)&&(Nt.norm a&&Nt.norm b))=true):([.sl .ws a,.sl .ws b]:List TV).length=dm.d.np∧dm.d.run (cV nrGl dm.env) [.sl .ws a,.sl .ws b]=some (([(.i .i64 (Nt.cmp (Nt.val a) (Nt.val b)))]:List TV)++dm.d.eu.map fun qq=>([.sl .ws a,.sl .ws b]:List TV).getD qq.1 .dead) :=
 ⟨by kernel_rfl,Eq.trans (b:=dm.F a b) (by kernel_rfl) (Eq.trans (dm.goal a b hp) (by kernel_rfl))⟩
theorem dm.ok:KO 74 (dm.c) dm.sg :=
 meets (l:=dm.env) all_nil dm.eO (by
   intro ins outs h
   unfold dm.c at h
   split at h
   ·obtain ⟨hp,rfl⟩:=h;exact dm.fit _ _ hp
   ·exact h.elim)
theorem eg.fit (a:List UInt16) (b:List UInt16) (hp:(Nt.is a&&Nt.is b)=true):([.sl .ws a,.sl .ws b]:List TV).length=eg.d.np∧eg.d.run (cV nrGl eg.env) [.sl .ws a,.sl .ws b]=some (([(.i .i64 (Nt.cmp (Nt.val a) (Nt.val b)))]:List TV)++eg.d.eu.map fun qq=>([.sl .ws a,.sl .ws b]:List TV).getD qq.1 .dead) :=
 ⟨by kernel_rfl,Eq.trans (b:=eg.F a b) (by kernel_rfl) (Eq.trans (eg.goal a b hp) (by kernel_rfl))⟩
theorem eg.ok:KO 46 (eg.c) eg.sg :=
 meets (l:=eg.env) (all_cons dJ.ok (all_cons dm.ok all_nil)) eg.eO (by
   intro ins outs h
   unfold eg.c at h
   split at h
   ·obtain ⟨hp,rfl⟩:=h;exact eg.fit _ _ hp
   ·exact h.elim)
theorem bT.fit (a:List UInt16) (hp:(decide ((a).length≤256))=true):([.sl .ws a]:List TV).length=bT.d.np∧bT.d.run (cV nrGl bT.env) [.sl .ws a]=some (([(.sl .is ((a).map fun d=>(d.toNat:Int)))]:List TV)++bT.d.eu.map fun qq=>([.sl .ws a]:List TV).getD qq.1 .dead) :=
 ⟨by kernel_rfl,Eq.trans (b:=bT.F a) (by kernel_rfl) (Eq.trans (bT.goal a hp) (by kernel_rfl))⟩
theorem bT.ok:KO 63 (bT.c) bT.sg :=
 meets (l:=bT.env) all_nil bT.eO (by
   intro ins outs h
   unfold bT.c at h
   split at h
   ·obtain ⟨hp,rfl⟩:=h;exact bT.fit _ hp
   ·exact h.elim)
theorem cK.fit (a:List UInt16) (b:List UInt16) (hp:(Nt.is a&&Nt.is b)=true):([.sl .ws a,.sl .ws b]:List TV).length=cK.d.np∧cK.d.run (cV nrGl cK.env) [.sl .ws a,.sl .ws b]=some (([(.sl .ws (Nt.of (Nt.val a * Nt.val b)))]:List TV)++cK.d.eu.map fun qq=>([.sl .ws a,.sl .ws b]:List TV).getD qq.1 .dead) :=
 ⟨by kernel_rfl,Eq.trans (b:=cK.F a b) (by kernel_rfl) (Eq.trans (cK.goal a b hp) (by kernel_rfl))⟩
theorem cK.ok:KO 34 (cK.c) cK.sg :=
 meets (l:=cK.env) (all_cons dJ.ok (all_cons bK.ok (all_cons bT.ok (all_cons cJ.ok all_nil)))) cK.eO (by
   intro ins outs h
   unfold cK.c at h
   split at h
   ·obtain ⟨hp,rfl⟩:=h;exact cK.fit _ _ hp
   ·exact h.elim)
theorem dk.fit (a:List UInt16) (d:UInt16) (hp:(decide ((a).length≤1000000∧d≠0))=true):([.sl .ws a,.u16 d]:List TV).length=dk.d.np∧dk.d.run (cV nrGl dk.env) [.sl .ws a,.u16 d]=some (([(.sl .ws (Nt.of (Nt.val a / (d).toNat))),(.u16 (UInt16.ofNat (Nt.val a % (d).toNat)))]:List TV)++dk.d.eu.map fun qq=>([.sl .ws a,.u16 d]:List TV).getD qq.1 .dead) :=
 ⟨by kernel_rfl,Eq.trans (b:=dk.F a d) (by kernel_rfl) (Eq.trans (dk.goal a d hp) (by kernel_rfl))⟩
theorem dk.ok:KO 76 (dk.c) dk.sg :=
 meets (l:=dk.env) (all_cons cJ.ok all_nil) dk.eO (by
   intro ins outs h
   unfold dk.c at h
   split at h
   ·obtain ⟨hp,rfl⟩:=h;exact dk.fit _ _ hp
   ·exact h.elim)
theorem dy.fit (a:List UInt16) (n:Int) (hp:(decide ((a).length≤1000000∧0≤n∧n<16)&&Nt.norm a)=true):([.sl .ws a,.i .i64 n]:List TV).length=dy.d.np∧dy.d.run (cV nrGl dy.env) [.sl .ws a,.i .i64 n]=some (([(.sl .ws (Nt.of (Nt.val a * 2 ^ (n).toNat)))]:List TV)++dy.d.eu.map fun qq=>([.sl .ws a,.i .i64 n]:List TV).getD qq.1 .dead) :=
 ⟨by kernel_rfl,Eq.trans (b:=dy.F a n) (by kernel_rfl) (Eq.trans (dy.goal a n hp) (by kernel_rfl))⟩
theorem dy.ok:KO 43 (dy.c) dy.sg :=
 meets (l:=dy.env) all_nil dy.eO (by
   intro ins outs h
   unfold dy.c at h
   split at h
   ·obtain ⟨hp,rfl⟩:=h;exact dy.fit _ _ hp
   ·exact h.elim)
theorem cB.fit (a:List UInt16) (n:Int) (hp:(decide ((a).length≤1000000∧0≤n∧n<16))=true):([.sl .ws a,.i .i64 n]:List TV).length=cB.d.np∧cB.d.run (cV nrGl cB.env) [.sl .ws a,.i .i64 n]=some (([(.sl .ws (Nt.of (Nt.val a / 2 ^ (n).toNat)))]:List TV)++cB.d.eu.map fun qq=>([.sl .ws a,.i .i64 n]:List TV).getD qq.1 .dead) :=
 ⟨by kernel_rfl,Eq.trans (b:=cB.F a n) (by kernel_rfl) (Eq.trans (cB.goal a n hp) (by kernel_rfl))⟩
theorem cB.ok:KO 78 (cB.c) cB.sg :=
 meets (l:=cB.env) (all_cons cJ.ok all_nil) cB.eO (by
   intro ins outs h
   unfold cB.c at h
   split at h
   ·obtain ⟨hp,rfl⟩:=h;exact cB.fit _ _ hp
   ·exact h.elim)
theorem bH.fit (u:List UInt16) (v:List UInt16) (hp:(decide ((u).length≤1000000∧2≤(v).length∧(v).length≤(u).length∧32768≤((v).getLast?.getD 0).toNat))=true):([.sl .ws u,.sl .ws v]:List TV).length=bH.d.np∧bH.d.run (cV nrGl bH.env) [.sl .ws u,.sl .ws v]=some (([(.sl .ws (Nt.fix ((u).length+1 - (v).length) (Nt.val u / Nt.val v))),(.sl .ws (Nt.fix (v).length (Nt.val u % Nt.val v)))]:List TV)++bH.d.eu.map fun qq=>([.sl .ws u,.sl .ws v]:List TV).getD qq.1 .dead) :=
 ⟨by kernel_rfl,Eq.trans (b:=bH.F u v) (by kernel_rfl) (Eq.trans (bH.goal u v hp) (by kernel_rfl))⟩
theorem bH.ok:KO 77 (bH.c) bH.sg :=
 meets (l:=bH.env) all_nil bH.eO (by
   intro ins outs h
   unfold bH.c at h
   split at h
   ·obtain ⟨hp,rfl⟩:=h;exact bH.fit _ _ hp
   ·exact h.elim)
theorem eG.fit (a:List UInt16) (b:List UInt16) (hp:(Nt.is a&&Nt.is b&&decide (b≠[]))=true):([.sl .ws a,.sl .ws b]:List TV).length=eG.d.np∧eG.d.run (cV nrGl eG.env) [.sl .ws a,.sl .ws b]=some (([(.sl .ws (Nt.of (Nt.val a / Nt.val b))),(.sl .ws (Nt.of (Nt.val a % Nt.val b))),(.b (true))]:List TV)++eG.d.eu.map fun qq=>([.sl .ws a,.sl .ws b]:List TV).getD qq.1 .dead) :=
 ⟨by kernel_rfl,Eq.trans (b:=eG.F a b) (by kernel_rfl) (Eq.trans (eG.goal a b hp) (by kernel_rfl))⟩
theorem eG.ok:KO 47 (eG.c) eG.sg :=
 meets (l:=eG.env) (all_cons dD.ok (all_cons dJ.ok (all_cons dy.ok (all_cons bS.ok (all_cons cJ.ok (all_cons dm.ok (all_cons ji.ok (all_cons dk.ok (all_cons bH.ok (all_cons cB.ok all_nil)))))))))) eG.eO (by
   intro ins outs h
   unfold eG.c at h
   split at h
   ·obtain ⟨hp,rfl⟩:=h;exact eG.fit _ _ hp
   ·exact h.elim)
theorem fA.fit (a:List UInt16) (n:Int) (hp:(decide (0≤n∧n≤4096)&&Nt.is a)=true):([.sl .ws a,.i .i64 n]:List TV).length=fA.d.np∧fA.d.run (cV nrGl fA.env) [.sl .ws a,.i .i64 n]=some (([(.sl .ws (Nt.of (Nt.val a * 2 ^ (n).toNat)))]:List TV)++fA.d.eu.map fun qq=>([.sl .ws a,.i .i64 n]:List TV).getD qq.1 .dead) :=
 ⟨by kernel_rfl,Eq.trans (b:=fA.F a n) (by kernel_rfl) (Eq.trans (fA.goal a n hp) (by kernel_rfl))⟩
theorem fA.ok:KO 19 (fA.c) fA.sg :=
 meets (l:=fA.env) (all_cons dJ.ok (all_cons dy.ok all_nil)) fA.eO (by
   intro ins outs h
   unfold fA.c at h
   split at h
   ·obtain ⟨hp,rfl⟩:=h;exact fA.fit _ _ hp
   ·exact h.elim)
theorem cA.fit (a:List UInt16) (b:Int) (c:Int) (hp:(decide ((a).length≤1000000∧1≤b∧b≤65535∧0≤c∧c≤65535)&&Nt.norm a)=true):([.sl .ws a,.i .i64 b,.i .i64 c]:List TV).length=cA.d.np∧cA.d.run (cV nrGl cA.env) [.sl .ws a,.i .i64 b,.i .i64 c]=some (([(.sl .ws (Nt.of (Nt.val a * (b).toNat+(c).toNat)))]:List TV)++cA.d.eu.map fun qq=>([.sl .ws a,.i .i64 b,.i .i64 c]:List TV).getD qq.1 .dead) :=
 ⟨by kernel_rfl,Eq.trans (b:=cA.F a b c) (by kernel_rfl) (Eq.trans (cA.goal a b c hp) (by kernel_rfl))⟩
theorem cA.ok:KO 61 (cA.c) cA.sg :=
 meets (l:=cA.env) all_nil cA.eO (by
   intro ins outs h
   unfold cA.c at h
   split at h
   ·obtain ⟨hp,rfl⟩:=h;exact cA.fit _ _ _ hp
   ·exact h.elim)
theorem cC.fit (b:Int) (e:Int) (hp:(decide (2≤b∧b≤65535∧0≤e∧e≤1000∧(b).toNat ^ (e).toNat<2 ^ 4096))=true):([.i .i64 b,.i .i64 e]:List TV).length=cC.d.np∧cC.d.run (cV nrGl cC.env) [.i .i64 b,.i .i64 e]=some (([(.sl .ws (Nt.of ((b).toNat ^ (e).toNat))),(.b (true))]:List TV)++cC.d.eu.map fun qq=>([.i .i64 b,.i .i64 e]:List TV).getD qq.1 .dead) :=
 ⟨by kernel_rfl,Eq.trans (b:=cC.F b e) (by kernel_rfl) (Eq.trans (cC.goal b e hp) (by kernel_rfl))⟩
theorem cC.ok:KO 33 (cC.c) cC.sg :=
 meets (l:=cC.env) (all_cons dD.ok (all_cons dJ.ok (all_cons cA.ok all_nil))) cC.eO (by
   intro ins outs h
   unfold cC.c at h
   split at h
   ·obtain ⟨hp,rfl⟩:=h;exact cC.fit _ _ hp
   ·exact h.elim)
theorem cH.fit (s:bO) (hp:(decide (1≤(s).length∧(s).length≤300∧(s).getD 0 0≠48)&&(s).all Nr.eE)=true):([.s s]:List TV).length=cH.d.np∧cH.d.run (cV nrGl cH.env) [.s s]=some (([(.sl .ws (Nt.of (Nr.num s))),(.b (true))]:List TV)++cH.d.eu.map fun qq=>([.s s]:List TV).getD qq.1 .dead) :=
 ⟨by kernel_rfl,Eq.trans (b:=cH.F s) (by kernel_rfl) (Eq.trans (cH.goal s hp) (by kernel_rfl))⟩
theorem cH.ok:KO 32 (cH.c) cH.sg :=
 meets (l:=cH.env) (all_cons dJ.ok (all_cons cA.ok all_nil)) cH.eO (by
   intro ins outs h
   unfold cH.c at h
   split at h
   ·obtain ⟨hp,rfl⟩:=h;exact cH.fit _ hp
   ·exact h.elim)
theorem cZ.fit (n:Bool) (m:UInt64) (e:Int) (hp:(decide (-1100≤e∧e≤2000))=true):([.b n,.u64 m,.i .i64 e]:List TV).length=cZ.d.np∧cZ.d.run (cV nrGl cZ.env) [.b n,.u64 m,.i .i64 e]=some (([(.u64 (Nr.pat (Nr.join n (m).toNat e))),(.b ((Nr.join n (m).toNat e).isSome))]:List TV)++cZ.d.eu.map fun qq=>([.b n,.u64 m,.i .i64 e]:List TV).getD qq.1 .dead) :=
 ⟨by kernel_rfl,Eq.trans (b:=cZ.F n m e) (by kernel_rfl) (Eq.trans (cZ.goal n m e hp) (by kernel_rfl))⟩
theorem cZ.ok:KO 66 (cZ.c) cZ.sg :=
 meets (l:=cZ.env) (all_cons mm.ok (all_cons bits_Len64.ok all_nil)) cZ.eO (by
   intro ins outs h
   unfold cZ.c at h
   split at h
   ·obtain ⟨hp,rfl⟩:=h;exact cZ.fit _ _ _ hp
   ·exact h.elim)
theorem bX.fit (a:List UInt16) (b:List UInt16) (e:Int) (hp:(Nt.is a&&Nt.is b&&decide (-4096≤e∧e≤4096∧0<Nt.val b∧Nr.iW (Nt.val a) e<2 ^ 4090∧Nr.iH (Nt.val b) e<2 ^ 4090∧Nr.iW (Nt.val a) e<2 ^ 60 * Nr.iH (Nt.val b) e))=true):([.sl .ws a,.sl .ws b,.i .i64 e]:List TV).length=bX.d.np∧bX.d.run (cV nrGl bX.env) [.sl .ws a,.sl .ws b,.i .i64 e]=some (([(.u64 (UInt64.ofNat (Nr.uB (Nr.iW (Nt.val a) e) (Nr.iH (Nt.val b) e)))),(.b (Nr.lG (Nr.iW (Nt.val a) e) (Nr.iH (Nt.val b) e)))]:List TV)++bX.d.eu.map fun qq=>([.sl .ws a,.sl .ws b,.i .i64 e]:List TV).getD qq.1 .dead) :=
 ⟨by kernel_rfl,Eq.trans (b:=bX.F a b e) (by kernel_rfl) (Eq.trans (bX.goal a b e hp) (by kernel_rfl))⟩
theorem bX.ok:KO 65 (bX.c) bX.sg :=
 meets (l:=bX.env) (all_cons fA.ok (all_cons eg.ok (all_cons eG.ok (all_cons cG.ok all_nil)))) bX.eO (by
   intro ins outs h
   unfold bX.c at h
   split at h
   ·obtain ⟨hp,rfl⟩:=h;exact bX.fit _ _ _ hp
   ·exact h.elim)
theorem cL.fit (a:List UInt16) (b:List UInt16) (hp:(Nt.is a&&Nt.is b&&decide (0<Nt.val a∧0<Nt.val b∧Nt.val a<2 ^ 1100∧Nt.val b<2 ^ 2200))=true):([.sl .ws a,.sl .ws b]:List TV).length=cL.d.np∧cL.d.run (cV nrGl cL.env) [.sl .ws a,.sl .ws b]=some (([(.u64 (Nr.pat (Nr.gq (Nt.val a) (Nt.val b)))),(.b ((Nr.gq (Nt.val a) (Nt.val b)).isSome))]:List TV)++cL.d.eu.map fun qq=>([.sl .ws a,.sl .ws b]:List TV).getD qq.1 .dead) :=
 ⟨by kernel_rfl,Eq.trans (b:=cL.F a b) (by kernel_rfl) (Eq.trans (cL.goal a b hp) (by kernel_rfl))⟩
theorem cL.ok:KO 35 (cL.c) cL.sg :=
 meets (l:=cL.env) (all_cons dI.ok (all_cons bX.ok (all_cons cZ.ok all_nil))) cL.eO (by
   intro ins outs h
   unfold cL.c at h
   split at h
   ·obtain ⟨hp,rfl⟩:=h;exact cL.fit _ _ hp
   ·exact h.elim)
theorem cY.fit (d:bO) (x:Int):([.s d,.i .i64 x]:List TV).length=cY.d.np∧cY.d.run (cV nrGl cY.env) [.s d,.i .i64 x]=some (([(.u64 (Nr.pat (Nr.read d x))),(.b ((Nr.read d x).isSome))]:List TV)++cY.d.eu.map fun qq=>([.s d,.i .i64 x]:List TV).getD qq.1 .dead) :=
 ⟨by kernel_rfl,Eq.trans (b:=cY.F d x) (by kernel_rfl) (Eq.trans (cY.goal d x) (by kernel_rfl))⟩
theorem cY.ok:KO 13 (cY.c) cY.sg :=
 meets (l:=cY.env) (all_cons dD.ok (all_cons lY.ok (all_cons gY.ok (all_cons fH.ok (all_cons cH.ok (all_cons cC.ok (all_cons cK.ok (all_cons cL.ok all_nil)))))))) cY.eO (by
   intro ins outs h
   unfold cY.c at h
   split at h
   ·cases h;exact cY.fit _ _
   ·exact h.elim)
theorem cm.fit (v:UInt64):([.u64 v]:List TV).length=cm.d.np∧cm.d.run (cV nrGl cm.env) [.u64 v]=some (([(.s (Nr.dec (v).toNat))]:List TV)++cm.d.eu.map fun qq=>([.u64 v]:List TV).getD qq.1 .dead) :=
 ⟨by kernel_rfl,Eq.trans (b:=cm.F v) (by kernel_rfl) (Eq.trans (cm.goal v) (by kernel_rfl))⟩
theorem cm.ok:KO 53 (cm.c) cm.sg :=
 meets (l:=cm.env) all_nil cm.eO (by
   intro ins outs h
   unfold cm.c at h
   split at h
   ·cases h;exact cm.fit _
   ·exact h.elim)
theorem eQ.fit (v:Int) (hp:(Nr.i64 v)=true):([.i .i64 v]:List TV).length=eQ.d.np∧eQ.d.run (cV nrGl eQ.env) [.i .i64 v]=some (([(.s (Nr.itoa v))]:List TV)++eQ.d.eu.map fun qq=>([.i .i64 v]:List TV).getD qq.1 .dead) :=
 ⟨by kernel_rfl,Eq.trans (b:=eQ.F v) (by kernel_rfl) (Eq.trans (eQ.goal v hp) (by kernel_rfl))⟩
theorem eQ.ok:KO 28 (eQ.c) eQ.sg :=
 meets (l:=eQ.env) (all_cons cm.ok all_nil) eQ.eO (by
   intro ins outs h
   unfold eQ.c at h
   split at h
   ·obtain ⟨hp,rfl⟩:=h;exact eQ.fit _ hp
   ·exact h.elim)
theorem df.fit (b:UInt64):([.u64 b]:List TV).length=df.d.np∧df.d.run (cV nrGl df.env) [.u64 b]=some (([(.i .i64 ((Nr.split b).1)),(.b ((Nr.split b).2.1)),(.u64 ((Nr.split b).2.2.1)),(.i .i64 ((Nr.split b).2.2.2))]:List TV)++df.d.eu.map fun qq=>([.u64 b]:List TV).getD qq.1 .dead) :=
 ⟨by kernel_rfl,Eq.trans (b:=df.F b) (by kernel_rfl) (Eq.trans (df.goal b) (by kernel_rfl))⟩
theorem df.ok:KO 14 (df.c) df.sg :=
 meets (l:=df.env) all_nil df.eO (by
   intro ins outs h
   unfold df.c at h
   split at h
   ·cases h;exact df.fit _
   ·exact h.elim)
theorem bV.fit (a:List UInt64) (m:UInt64) (hp:(decide ((a).length≤1000∧(m).toNat≤100000000)&&(a).all (fun x=>decide (x.toNat<100000000)))=true):([.sl .us a,.u64 m]:List TV).length=bV.d.np∧bV.d.run (cV nrGl bV.env) [.sl .us a,.u64 m]=some (([(.sl .us (Nr.times a m 0))]:List TV)++bV.d.eu.map fun qq=>([.sl .us a,.u64 m]:List TV).getD qq.1 .dead) :=
 ⟨by kernel_rfl,Eq.trans (b:=bV.F a m) (by kernel_rfl) (Eq.trans (bV.goal a m hp) (by kernel_rfl))⟩
theorem bV.ok:KO 50 (bV.c) bV.sg :=
 meets (l:=bV.env) all_nil bV.eO (by
   intro ins outs h
   unfold bV.c at h
   split at h
   ·obtain ⟨hp,rfl⟩:=h;exact bV.fit _ _ hp
   ·exact h.elim)
theorem bC.fit (m:UInt64) (e:Int) (hp:(decide (1≤(m).toNat∧(m).toNat<2 ^ 55∧-1075≤e∧e≤971))=true):([.u64 m,.i .i64 e]:List TV).length=bC.d.np∧bC.d.run (cV nrGl bC.env) [.u64 m,.i .i64 e]=some (([(.s (Nr.vI (m).toNat e)),(.i .i64 (Nr.xJ (m).toNat e))]:List TV)++bC.d.eu.map fun qq=>([.u64 m,.i .i64 e]:List TV).getD qq.1 .dead) :=
 ⟨by kernel_rfl,Eq.trans (b:=bC.F m e) (by kernel_rfl) (Eq.trans (bC.goal m e hp) (by kernel_rfl))⟩
theorem bC.ok:KO 23 (bC.c) bC.sg :=
 meets (l:=bC.env) (all_cons bV.ok all_nil) bC.eO (by
   intro ins outs h
   unfold bC.c at h
   split at h
   ·obtain ⟨hp,rfl⟩:=h;exact bC.fit _ _ hp
   ·exact h.elim)
theorem da.fit (a:bO) (x:Int) (b:bO) (y:Int):([.s a,.i .i64 x,.s b,.i .i64 y]:List TV).length=da.d.np∧da.d.run (cV nrGl da.env) [.s a,.i .i64 x,.s b,.i .i64 y]=some (([(.i .i64 (Nr.gf a x b y))]:List TV)++da.d.eu.map fun qq=>([.s a,.i .i64 x,.s b,.i .i64 y]:List TV).getD qq.1 .dead) :=
 ⟨by kernel_rfl,Eq.trans (b:=da.F a x b y) (by kernel_rfl) (Eq.trans (da.goal a x b y) (by kernel_rfl))⟩
theorem da.ok:KO 26 (da.c) da.sg :=
 meets (l:=da.env) all_nil da.eO (by
   intro ins outs h
   unfold da.c at h
   split at h
   ·cases h;exact da.fit _ _ _ _
   ·exact h.elim)
theorem di.fit (b:UInt64):([.u64 b]:List TV).length=di.d.np∧di.d.run (cV nrGl di.env) [.u64 b]=some (([(.i .i64 ((Nr.split b).1)),(.b ((Nr.split b).2.1)),(.u64 ((Nr.split b).2.2.1)),(.i .i64 ((Nr.split b).2.2.2))]:List TV)++di.d.eu.map fun qq=>([.u64 b]:List TV).getD qq.1 .dead) :=
 ⟨by kernel_rfl,Eq.trans (b:=di.F b) (by kernel_rfl) (Eq.trans (di.goal b) (by kernel_rfl))⟩
theorem di.ok:KO 17 (di.c) di.sg :=
 meets (l:=di.env) all_nil di.eO (by
   intro ins outs h
   unfold di.c at h
   split at h
   ·cases h;exact di.fit _
   ·exact h.elim)
theorem bZ.fit (a:List UInt16) (b:List UInt16) (hp:(Nt.is a&&Nt.is b)=true):([.sl .ws a,.sl .ws b]:List TV).length=bZ.d.np∧bZ.d.run (cV nrGl bZ.env) [.sl .ws a,.sl .ws b]=some (([(.sl .ws (Nt.of (Nt.val a+Nt.val b)))]:List TV)++bZ.d.eu.map fun qq=>([.sl .ws a,.sl .ws b]:List TV).getD qq.1 .dead) :=
 ⟨by kernel_rfl,Eq.trans (b:=bZ.F a b) (by kernel_rfl) (Eq.trans (bZ.goal a b hp) (by kernel_rfl))⟩
theorem bZ.ok:KO 49 (bZ.c) bZ.sg :=
 meets (l:=bZ.env) (all_cons dJ.ok (all_cons ji.ok all_nil)) bZ.eO (by
   intro ins outs h
   unfold bZ.c at h
   split at h
   ·obtain ⟨hp,rfl⟩:=h;exact bZ.fit _ _ hp
   ·exact h.elim)
theorem cw.fit (a:List UInt16) (hp:(Nt.is a)=true):([.sl .ws a]:List TV).length=cw.d.np∧cw.d.run (cV nrGl cw.env) [.sl .ws a]=some (([(.s (Sh.qc (Nt.val a)))]:List TV)++cw.d.eu.map fun qq=>([.sl .ws a]:List TV).getD qq.1 .dead) :=
 ⟨by kernel_rfl,Eq.trans (b:=cw.F a) (by kernel_rfl) (Eq.trans (cw.goal a hp) (by kernel_rfl))⟩
theorem cw.ok:KO 79 (cw.c) cw.sg :=
 meets (l:=cw.env) (all_cons dJ.ok (all_cons gS.ok (all_cons dk.ok (all_cons mb.ok (all_cons ia.ok (all_cons lZ.ok all_nil)))))) cw.eO (by
   intro ins outs h
   unfold cw.c at h
   split at h
   ·obtain ⟨hp,rfl⟩:=h;exact cw.fit _ hp
   ·exact h.elim)
theorem dN.fit (v:Int) (hp:(Nr.i64 v)=true):([.i .i64 v]:List TV).length=dN.d.np∧dN.d.run (cV nrGl dN.env) [.i .i64 v]=some (([(.s (Nr.itoa v))]:List TV)++dN.d.eu.map fun qq=>([.i .i64 v]:List TV).getD qq.1 .dead) :=
 ⟨by kernel_rfl,Eq.trans (b:=dN.F v) (by kernel_rfl) (Eq.trans (dN.goal v hp) (by kernel_rfl))⟩
theorem dN.ok:KO 52 (dN.c) dN.sg :=
 meets (l:=dN.env) (all_cons gD.ok all_nil) dN.eO (by
   intro ins outs h
   unfold dN.c at h
   split at h
   ·obtain ⟨hp,rfl⟩:=h;exact dN.fit _ hp
   ·exact h.elim)
theorem dH.fit (a:List UInt16) (b:List UInt16) (k:Int) (hp:(Nt.is a&&Nt.is b&&decide (-400≤k∧k≤400∧Nt.val a<2 ^ 1100∧Nt.val b<2 ^ 1100))=true):([.sl .ws a,.sl .ws b,.i .i64 k]:List TV).length=dH.d.np∧dH.d.run (cV nrGl dH.env) [.sl .ws a,.sl .ws b,.i .i64 k]=some (([(.sl .ws (Nt.of (Sh.tA (Nt.val a) k))),(.sl .ws (Nt.of (Sh.tB (Nt.val b) k)))]:List TV)++dH.d.eu.map fun qq=>([.sl .ws a,.sl .ws b,.i .i64 k]:List TV).getD qq.1 .dead) :=
 ⟨by kernel_rfl,Eq.trans (b:=dH.F a b k) (by kernel_rfl) (Eq.trans (dH.goal a b k hp) (by kernel_rfl))⟩
theorem dH.ok:KO 45 (dH.c) dH.sg :=
 meets (l:=dH.env) (all_cons cC.ok (all_cons cK.ok all_nil)) dH.eO (by
   intro ins outs h
   unfold dH.c at h
   split at h
   ·obtain ⟨hp,rfl⟩:=h;exact dH.fit _ _ _ hp
   ·exact h.elim)
theorem dq.fit (a:List UInt16) (b:List UInt16) (x:Int) (hp:(Nt.is a&&Nt.is b&&decide (-400≤x∧x≤400∧Nt.val a<2 ^ 1100∧Nt.val b<2 ^ 1100))=true):([.sl .ws a,.sl .ws b,.i .i64 x]:List TV).length=dq.d.np∧dq.d.run (cV nrGl dq.env) [.sl .ws a,.sl .ws b,.i .i64 x]=some (([(.b (decide (Sh.tB (Nt.val b) (-x)≤Sh.tA (Nt.val a) (-x))))]:List TV)++dq.d.eu.map fun qq=>([.sl .ws a,.sl .ws b,.i .i64 x]:List TV).getD qq.1 .dead) :=
 ⟨by kernel_rfl,Eq.trans (b:=dq.F a b x) (by kernel_rfl) (Eq.trans (dq.goal a b x hp) (by kernel_rfl))⟩
theorem dq.ok:KO 21 (dq.c) dq.sg :=
 meets (l:=dq.env) (all_cons dH.ok (all_cons eg.ok all_nil)) dq.eO (by
   intro ins outs h
   unfold dq.c at h
   split at h
   ·obtain ⟨hp,rfl⟩:=h;exact dq.fit _ _ _ hp
   ·exact h.elim)
theorem dn.fit (b:UInt64) (a:List UInt16) (p:Int) (hp:(Nt.is a&&decide (-1000≤p∧p≤1000∧0<Nt.val a∧Nt.val a<10 ^ 200))=true):([.u64 b,.sl .ws a,.i .i64 p]:List TV).length=dn.d.np∧dn.d.run (cV nrGl dn.env) [.u64 b,.sl .ws a,.i .i64 p]=some (([(.s (((Sh.jc (b).toNat (Nt.val a) p).getD ([],0)).1)),(.i .i64 (((Sh.jc (b).toNat (Nt.val a) p).getD ([],0)).2)),(.b ((Sh.jc (b).toNat (Nt.val a) p).isSome))]:List TV)++dn.d.eu.map fun qq=>([.u64 b,.sl .ws a,.i .i64 p]:List TV).getD qq.1 .dead) :=
 ⟨by kernel_rfl,Eq.trans (b:=dn.F b a p) (by kernel_rfl) (Eq.trans (dn.goal b a p hp) (by kernel_rfl))⟩
theorem dn.ok:KO 48 (dn.c) dn.sg :=
 meets (l:=dn.env) (all_cons cY.ok (all_cons fH.ok (all_cons cw.ok all_nil))) dn.eO (by
   intro ins outs h
   unfold dn.c at h
   split at h
   ·obtain ⟨hp,rfl⟩:=h;exact dn.fit _ _ _ hp
   ·exact h.elim)
theorem dO.fit (b:UInt64) (p:List UInt16) (q:List UInt16) (x:Int) (n:Int) (hp:(Nt.is p&&Nt.is q&&Sh.nu (Nt.val p) (Nt.val q) x n)=true):([.u64 b,.sl .ws p,.sl .ws q,.i .i64 x,.i .i64 n]:List TV).length=dO.d.np∧dO.d.run (cV nrGl dO.env) [.u64 b,.sl .ws p,.sl .ws q,.i .i64 x,.i .i64 n]=some (([(.s (((Sh.mR (b).toNat (Nt.val p) (Nt.val q) x n).getD ([],0)).1)),(.i .i64 (((Sh.mR (b).toNat (Nt.val p) (Nt.val q) x n).getD ([],0)).2)),(.b ((Sh.mR (b).toNat (Nt.val p) (Nt.val q) x n).isSome))]:List TV)++dO.d.eu.map fun qq=>([.u64 b,.sl .ws p,.sl .ws q,.i .i64 x,.i .i64 n]:List TV).getD qq.1 .dead) :=
 ⟨by kernel_rfl,Eq.trans (b:=dO.F b p q x n) (by kernel_rfl) (Eq.trans (dO.goal b p q x n hp) (by kernel_rfl))⟩
theorem dO.ok:KO 22 (dO.c) dO.sg :=
 meets (l:=dO.env) (all_cons dD.ok (all_cons fA.ok (all_cons dH.ok (all_cons eg.ok (all_cons eG.ok (all_cons dn.ok (all_cons bZ.ok all_nil))))))) dO.eO (by
   intro ins outs h
   unfold dO.c at h
   split at h
   ·obtain ⟨hp,rfl⟩:=h;exact dO.fit _ _ _ _ _ hp
   ·exact h.elim)
theorem bL.fit (b:UInt64):([.u64 b]:List TV).length=bL.d.np∧bL.d.run (cV nrGl bL.env) [.u64 b]=some (([(.s ((Sh.dg b).1)),(.i .i64 ((Sh.dg b).2.1)),(.b ((Sh.dg b).2.2))]:List TV)++bL.d.eu.map fun qq=>([.u64 b]:List TV).getD qq.1 .dead) :=
 ⟨by kernel_rfl,Eq.trans (b:=bL.F b) (by kernel_rfl) (Eq.trans (bL.goal b) (by kernel_rfl))⟩
theorem bL.ok:KO 9 (bL.c) bL.sg :=
 meets (l:=bL.env) (all_cons di.ok (all_cons dD.ok (all_cons fA.ok (all_cons dI.ok (all_cons dq.ok (all_cons dO.ok all_nil)))))) bL.eO (by
   intro ins outs h
   unfold bL.c at h
   split at h
   ·cases h;exact bL.fit _
   ·exact h.elim)
theorem cX.fit (d:bO) (x:Int) (hp:(decide (1≤(d).length∧(d).length≤17∧-900≤x∧x≤900))=true):([.s d,.i .i64 x]:List TV).length=cX.d.np∧cX.d.run (cV nrGl cX.env) [.s d,.i .i64 x]=some (([(.s (Sh.zd d x))]:List TV)++cX.d.eu.map fun qq=>([.s d,.i .i64 x]:List TV).getD qq.1 .dead) :=
 ⟨by kernel_rfl,Eq.trans (b:=cX.F d x) (by kernel_rfl) (Eq.trans (cX.goal d x hp) (by kernel_rfl))⟩
theorem cX.ok:KO 27 (cX.c) cX.sg :=
 meets (l:=cX.env) (all_cons gS.ok (all_cons dN.ok all_nil)) cX.eO (by
   intro ins outs h
   unfold cX.c at h
   split at h
   ·obtain ⟨hp,rfl⟩:=h;exact cX.fit _ _ hp
   ·exact h.elim)
theorem cS.fit (b:UInt64):([.u64 b]:List TV).length=cS.d.np∧cS.d.run (cV nrGl cS.env) [.u64 b]=some (([(.s (Sh.text b))]:List TV)++cS.d.eu.map fun qq=>([.u64 b]:List TV).getD qq.1 .dead) :=
 ⟨by kernel_rfl,Eq.trans (b:=cS.F b) (by kernel_rfl) (Eq.trans (cS.goal b) (by kernel_rfl))⟩
theorem cS.ok:KO 11 (cS.c) cS.sg :=
 meets (l:=cS.env) (all_cons bL.ok (all_cons di.ok (all_cons cX.ok all_nil))) cS.eO (by
   intro ins outs h
   unfold cS.c at h
   split at h
   ·cases h;exact cS.fit _
   ·exact h.elim)
theorem cT.fit (d:bO) (x:Int) (hp:(decide (1≤(d).length∧(d).length≤100000∧-100000≤x∧x≤100000))=true):([.s d,.i .i64 x]:List TV).length=cT.d.np∧cT.d.run (cV nrGl cT.env) [.s d,.i .i64 x]=some (([(.s ((Sh.more d x).1)),(.i .i64 ((Sh.more d x).2))]:List TV)++cT.d.eu.map fun qq=>([.s d,.i .i64 x]:List TV).getD qq.1 .dead) :=
 ⟨by kernel_rfl,Eq.trans (b:=cT.F d x) (by kernel_rfl) (Eq.trans (cT.goal d x hp) (by kernel_rfl))⟩
theorem cT.ok:KO 24 (cT.c) cT.sg :=
 meets (l:=cT.env) all_nil cT.eO (by
   intro ins outs h
   unfold cT.c at h
   split at h
   ·obtain ⟨hp,rfl⟩:=h;exact cT.fit _ _ hp
   ·exact h.elim)
theorem c8.fit (p:UInt64) (lo:Int) (hi:Int):([.u64 p,.i .i64 lo,.i .i64 hi]:List TV).length=c8.d.np∧c8.d.run (cV nrGl c8.env) [.u64 p,.i .i64 lo,.i .i64 hi]=some (([(.b (Sh.wi (p).toNat lo hi))]:List TV)++c8.d.eu.map fun qq=>([.u64 p,.i .i64 lo,.i .i64 hi]:List TV).getD qq.1 .dead) :=
 ⟨by kernel_rfl,Eq.trans (b:=c8.F p lo hi) (by kernel_rfl) (Eq.trans (c8.goal p lo hi) (by kernel_rfl))⟩
theorem c8.ok:KO 25 (c8.c) c8.sg :=
 meets (l:=c8.env) all_nil c8.eO (by
   intro ins outs h
   unfold c8.c at h
   split at h
   ·cases h;exact c8.fit _ _ _
   ·exact h.elim)
theorem bJ.fit (b:UInt64):([.u64 b]:List TV).length=bJ.d.np∧bJ.d.run (cV nrGl bJ.env) [.u64 b]=some (([(.s ((Sh.dg b).1)),(.i .i64 ((Sh.dg b).2.1)),(.b ((Sh.dg b).2.2))]:List TV)++bJ.d.eu.map fun qq=>([.u64 b]:List TV).getD qq.1 .dead) :=
 ⟨by kernel_rfl,Eq.trans (b:=bJ.F b) (by kernel_rfl) (Eq.trans (bJ.goal b) (by kernel_rfl))⟩
theorem bJ.ok:KO 10 (bJ.c) bJ.sg :=
 meets (l:=bJ.env) (all_cons df.ok (all_cons bC.ok (all_cons cT.ok (all_cons c8.ok (all_cons da.ok all_nil))))) bJ.eO (by
   intro ins outs h
   unfold bJ.c at h
   split at h
   ·cases h;exact bJ.fit _
   ·exact h.elim)
theorem bD.fit (b:UInt64):([.u64 b]:List TV).length=bD.d.np∧bD.d.run (cV nrGl bD.env) [.u64 b]=some (([(.s (Sh.text b))]:List TV)++bD.d.eu.map fun qq=>([.u64 b]:List TV).getD qq.1 .dead) :=
 ⟨by kernel_rfl,Eq.trans (b:=bD.F b) (by kernel_rfl) (Eq.trans (bD.goal b) (by kernel_rfl))⟩
theorem bD.ok:KO 12 (bD.c) bD.sg :=
 meets (l:=bD.env) (all_cons bJ.ok (all_cons df.ok (all_cons eQ.ok all_nil))) bD.eO (by
   intro ins outs h
   unfold bD.c at h
   split at h
   ·cases h;exact bD.fit _
   ·exact h.elim)
end Go.Eng
namespace Go.Eng
open Go.Proofs
noncomputable section
def iO.sg:c7:={ bQ:=3 }
def iO.c:fh:=fun l=>match l with
 | [.u64 b] => .eS (decide (b=4591870180066957722)) [(.s (([49]:bO))),(.i .i64 ((0:Int))),(.b (true))]
 | _ => .err
def kK.sg:c7:={}
def kK.c:fh:=fun l=>match l with
 | [.u64 b] => .eS (decide (b=4591870180066957722∨b=9223372036854775808)) [(.s ((if b=4591870180066957722 then [48,46,49] else [45,48]:bO)))]
 | _ => .err
def dp.sg:c7:={}
def dp.c:fh:=fun l=>match l with
 | [] => .ok [(.b (true))]
 | _ => .err
def dp.env:EV:=[(9,(iO.c,iO.sg)),(11,(kK.c,kK.sg))]
def dp.E:eC:=cV nrGl dp.env
def dp.m:TM:=oS [oW (.b false) 0] (oS [oX (.k (.call 9 (.plain 1 3))) [.c (.u64 4591870180066957722)] [5],oV 5 4,oE 0 4 6,oE 1 4 7,oE 2 4 8,oV 6 1,oV 7 2,oV 8 3] (oS [oV 1 9,oI .eql 9 (.s ([49]:bO)) 10,oV 10 11,oG 11 true (oV 2 12),oG 11 true (oI .eql 12 (.i .i64 0) 13),oP 11 13 false 14,oV 14 15,oG 15 true (oV 3 16),oP 15 16 false 17,oV 17 18,oG 18 true (oX (.k (.call 11 (.plain 1 1))) [.c (.u64 4591870180066957722)] [19]),oG 18 true (oI .eql 19 (.s ([48,46,49]:bO)) 20),oP 18 20 false 21,oV 21 22,oG 22 true (oX (.k (.call 11 (.plain 1 1))) [.c (.u64 9223372036854775808)] [23]),oG 22 true (oI .eql 23 (.s ([45,48]:bO)) 24),oP 22 24 false 25,oV 25 0] .ret))
def dp.d:gQ:=D0 0 dp.m [.t 0]
def dp.F  : OT:=dp.d.run dp.E []
theorem dp.eh  {ρ:OT} (K:∀(v1:Bool) (h1:v1=(cond (decide ((([49]:bO))=([49]:bO))) (decide (((0:Int))=(0:Int))) false)) (v2:bO) (h2:v2=((if ((4591870180066957722:UInt64))=4591870180066957722 then [48,46,49] else [45,48]:bO))) (v3:Bool) (h3:v3=(cond (cond v1 (true) false) (decide (v2=([48,46,49]:bO))) false)) (v4:bO) (h4:v4=((if ((9223372036854775808:UInt64))=4591870180066957722 then [48,46,49] else [45,48]:bO))) (v5:Bool) (h5:v5=(cond v3 (decide (v4=([45,48]:bO))) false)),ck (decide (((4591870180066957722:UInt64))=4591870180066957722)) (ck (!(decide ((([49]:bO))=([49]:bO))) || (decide ((([49]:bO))=([49]:bO)))) (ck (!(decide ((([49]:bO))=([49]:bO))) || (decide ((([49]:bO))=([49]:bO)))) (ck (!v1 || v1) (ck (!(cond v1 (true) false) || (decide (((4591870180066957722:UInt64))=4591870180066957722∨((4591870180066957722:UInt64))=9223372036854775808))) (ck (!(cond v1 (true) false) || (cond v1 (true) false)) (ck (!(cond v1 (true) false) || (cond v1 (true) false)) (ck (!v3 || (decide (((9223372036854775808:UInt64))=4591870180066957722∨((9223372036854775808:UInt64))=9223372036854775808))) (ck (!v3 || v3) (ck (!v3 || v3) (some [(.b v5)]))))))))))=ρ):dp.F  = ρ:=Eq.trans (by kernel_rfl) (K _ rfl _ rfl _ rfl _ rfl _ rfl)
theorem dp.eO:CK 8 dp.env dp.d:=fD (by kernel_rfl)
end
end Go.Eng
namespace Go.Eng
open Go.Proofs
theorem gl_two {P:Program} {w:World} {n1 n2:String} {k1 k2:IntKind} {z1 z2:List Int} {g1 g2:Nat} (h1:Lib.TabIs P w n1 k1 z1) (hg1:P.globalNamed n1=some g1) (h2:Lib.TabIs P w n2 k2 z2) (hg2:P.globalNamed n2=some g2):∀n,Rep (Old w) w ((Mq [(g1,vx k1 z1),(g2,vx k2 z2)] n).av) (.pointer (some ⟨n,0,none⟩)):=by
 intro n
 unfold Mq
 cases hb:Nat.beq n g1 with
 | true=>rw [ax hb];exact wu h1 hg1
 | false =>
  show Rep (Old w) w ((Mq [(g2,vx k2 z2)] n).av) _
  exact Mp h2 hg2 n
namespace Sh
theorem sN:Nr.iI 4591870180066957722=7205759403792794∧Nr.sh 4591870180066957722=1018:=by decide +kernel
theorem qA:gN 4591870180066957722=7205759403792794∧fq 4591870180066957722=72057594037927936:=by
 unfold gN fq;rw [sN.1,sN.2];decide +kernel
theorem Ed:dx 4591870180066957722=0:=by
 have h1:=pM (p:=4591870180066957722) (by decide) (-1)
 have h2:=pM (p:=4591870180066957722) (by decide) 0
 rw [qA.1,qA.2] at h1 h2
 have g1:=h1.1 (by decide +kernel)
 have g2:¬(0:Int)<dx 4591870180066957722:=fun c=>absurd (h2.2 c) (by decide +kernel)
 omega
theorem Ec:Nr.rd 1 (-1)=some 4591870180066957722:=by
 unfold Nr.rd
 refine Nr.ly (by decide) (by decide) ?_ (.inr ?_)
 ·unfold Nr.fK;decide +kernel
 ·unfold Nr.fK;decide +kernel
theorem I6:Nr.dec 1=[49]:=(Nr.lO 1 [49] (by decide) (by decide) (by decide) (by decide)).symm
theorem AE:some_ 4591870180066957722 (gN 4591870180066957722) (fq 4591870180066957722) (dx 4591870180066957722) 1=some ([49],0):=by
 rw [qA.1,qA.2,Ed]
 have hP:tA 7205759403792794 (1 - 0) / tB 72057594037927936 (1 - 0)=1:=by decide +kernel
 have hR:2 * (tA 7205759403792794 (1 - 0) % tB 72057594037927936 (1 - 0))<tB 72057594037927936 (1 - 0):=by decide +kernel
 have hr:reads 4591870180066957722 1 (0 - 1)=some ([49],0):=by
  rw [show ((0:Int) - 1)=-1 by decide,iQ Ec,I6];rfl
 unfold some_
 simp only
 rw [hP,hr,aG ⟨rfl,.inr (.inl hR)⟩]
theorem wP:digits 4591870180066957722=([49],0):=go_hit AE
theorem kI:(Nr.split 4591870180066957722).1=2∧(Nr.split 4591870180066957722).2.1=false:=by decide +kernel
theorem CG:iJ 4591870180066957722=4591870180066957722:=by decide +kernel
theorem oc:(dg 4591870180066957722).1=[49]∧(dg 4591870180066957722).2.1=0∧(dg 4591870180066957722).2.2=true:=by
 obtain ⟨z1,z2,z3⟩:=xQ kI.1
 rw [CG,wP] at z1 z2
 exact ⟨z1,z2,z3⟩
theorem AD:text 4591870180066957722=[48,46,49]:=by
 rw [tI];unfold uj
 rw [aE (by rw [kI.1];decide),aE (by rw [kI.1];decide),aE (by rw [kI.1];decide),oc.1,oc.2.1]
 unfold sign
 rw [aE (by rw [kI.2];decide)]
 rfl
theorem ln:(Nr.split 9223372036854775808).1=1∧(Nr.split 9223372036854775808).2.1=true:=by decide +kernel
theorem yU:text 9223372036854775808=[45,48]:=by
 rw [tI];unfold uj
 rw [aE (by rw [ln.1];decide),aE (by rw [ln.1];decide),aG ln.1]
 unfold sign
 rw [aG ln.2]
 rfl
end Sh
theorem iO.ok:KO 9 (iO.c) iO.sg :=
 yy fun ti gg h=>⟨bL.c,bL.ok,by
  unfold iO.c at h
  split at h
  ·obtain ⟨h1,h2⟩:=h
   obtain rfl:=aM h1
   subst h2
   unfold bL.c
   show _=_
   rw [Sh.oc.1,Sh.oc.2.1,Sh.oc.2.2]
  ·exact h.elim⟩
theorem kK.ok:KO 11 (kK.c) kK.sg :=
 yy fun ti gg h=>⟨cS.c,cS.ok,by
  unfold kK.c at h
  split at h
  ·obtain ⟨h1,h2⟩:=h
   subst h2
   unfold cS.c
   show _=_
   rcases aM h1 with rfl | rfl
   ·rw [Sh.AD];rfl
   ·rw [Sh.yU];rfl
  ·exact h.elim⟩
theorem dp.goal:dp.F=some [.b true]:=by
 refine dp.eh ?_
 intro v1 h1 v2 h2 v3 h3 v4 h4 v5 h5
 subst h1 h2 h3 h4
 rw [h5];rfl
end Go.Eng
namespace Go.Eng
open Go.Proofs
theorem dp.fit:([]:List TV).length=dp.d.np∧dp.d.run (cV nrGl dp.env) []=some (([(.b (true))]:List TV)++dp.d.eu.map fun qq=>([]:List TV).getD qq.1 .dead) :=
 ⟨by kernel_rfl,Eq.trans (b:=dp.F ) (by kernel_rfl) (Eq.trans (dp.goal ) (by kernel_rfl))⟩
theorem dp.ok:KO 8 (dp.c) dp.sg :=
 meets (l:=dp.env) (all_cons iO.ok (all_cons kK.ok all_nil)) dp.eO (by
   intro ins outs h
   unfold dp.c at h
   split at h
   ·cases h;exact dp.fit
   ·exact h.elim)
end Go.Eng
set_option maxRecDepth 100000
namespace Go.Eng
open Go.Proofs
noncomputable section
def sh_ShortTexts.sg:c7:={}
def sh_ShortTexts.c:fh:=fun l=>match l with
 | [.u64 b] => .ok [(.b (true))]
 | _ => .err
def sh_ShortTexts.env:EV:=[(8,(dp.c,dp.sg)),(11,(cS.c,cS.sg)),(12,(bD.c,bD.sg))]
def sh_ShortTexts.E:eC:=cV nrGl sh_ShortTexts.env
def sh_ShortTexts.m:TM:=oS [oW (.b false) 2] (.seq (oS [oC 8 0 1 [] 3,oK (.k (.un .not)) [3] [4]] (.cond (.s 4) [] (oS [oW (.b false) 2] .ret) .skip)) none (oS [oV 0 5,oC 11 1 1 [5] 6,oV 0 7,oC 12 1 1 [7] 8,oB .eql 6 8 9,oV 9 2] .ret))
def sh_ShortTexts.d:gQ:=D0 1 sh_ShortTexts.m [.t 2]
def sh_ShortTexts.F (b:UInt64):OT:=sh_ShortTexts.d.run sh_ShortTexts.E [(.u64 b)]
theorem sh_ShortTexts.iC (b:UInt64):sh_ShortTexts.F b=cond (!(true))
  (some [(.b false)])
  (some [(.b (decide ((Sh.text b)=(Sh.text b))))]):=by kernel_rfl
theorem sh_ShortTexts.eO:CK 4 sh_ShortTexts.env sh_ShortTexts.d:=fD (by kernel_rfl)
end
end Go.Eng
namespace Go.Eng
open Go.Proofs
theorem sh_ShortTexts.goal (b:UInt64):sh_ShortTexts.F b=some [.b true]:=by
 rw [sh_ShortTexts.iC];simp
end Go.Eng
namespace Go.Eng
open Go.Proofs
theorem sh_ShortTexts.fit (b:UInt64):([.u64 b]:List TV).length=sh_ShortTexts.d.np∧sh_ShortTexts.d.run (cV nrGl sh_ShortTexts.env) [.u64 b]=some (([(.b (true))]:List TV)++sh_ShortTexts.d.eu.map fun qq=>([.u64 b]:List TV).getD qq.1 .dead) :=
 ⟨by kernel_rfl,Eq.trans (b:=sh_ShortTexts.F b) (by kernel_rfl) (Eq.trans (sh_ShortTexts.goal b) (by kernel_rfl))⟩
theorem sh_ShortTexts.ok:KO 4 (sh_ShortTexts.c) sh_ShortTexts.sg :=
 meets (l:=sh_ShortTexts.env) (all_cons dp.ok (all_cons cS.ok (all_cons bD.ok all_nil))) sh_ShortTexts.eO (by
   intro ins outs h
   unfold sh_ShortTexts.c at h
   split at h
   ·cases h;exact sh_ShortTexts.fit _
   ·exact h.elim)
end Go.Eng
