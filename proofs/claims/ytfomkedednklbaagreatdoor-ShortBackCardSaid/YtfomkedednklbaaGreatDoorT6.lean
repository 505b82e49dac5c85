/- Texts of my own, one behind the other: ShP4, ShP5, ShP6, SnShelf, SnHand, ShHand, ShRev, SnOKT, SnWhole, SnP, SnOK, ShA, ShQA, ShOKA, ShFlip, ShLBack, ShQBack, ShOKBack. -/
import Derived.Test.YtfomkedednklbaaGreatDoorT5
import Derived.Ground.Names7Prog
import Derived.Ground.Names2Prog
import Derived.Shelf.Slices.ReverseS
import Derived.Shelf.Strings.SlTrimAscii
import Derived.Shelf.Small.Wraps
import Derived.Shelf.Strings.Search1
import Derived.Shelf.Strings.Search2
import Derived.Shelf.Strings.IndexAnyAll
import Derived.Shelf.Spec.TrailingZeros
import Derived.Shelf.Strings.OnBuilder
import Derived.Shelf.Strings.Repeat
import Derived.Shelf.LaysM
import Derived.Shelf.Strconv.Itoa3
import Derived.Shelf.Strconv.Itoa4
import Derived.Test.YtfomkedednklbaaGreatDoorProg
import Derived.WalkKit
import Derived.WalkSpells
set_option linter.unusedVariables false
set_option linter.unusedSimpArgs false
namespace Go.Eng
open Go.IntWalk
open Nr (V iD sh top gf rd)
theorem nv (a b:Int):a<b∨b≤a:=by omega
theorem zX (n:Nat) (h:0<n):2 ^ (Nt.bits n - 1)≤n∧n<2 ^ Nt.bits n∧0<Nt.bits n:=Nt.iO h
theorem BR {a b:Nat} (h:a<b):2 ^ a<2 ^ b:=Nat.pow_lt_pow_right (by omega) h
theorem uZ (p:Nat) (ht:p≤top):Sh.gI p<2 ^ 1100∧Sh.ff p<2 ^ 1100∧Nt.bits (Sh.gI p)≤1100∧Nt.bits (Sh.ff p)≤1080:=by
 have h1:=Nr.qc p
 have h2:=Nr.uf ht
 have hm:iD p<2 ^ 53:=h1
 have ha:Sh.gI p<2 ^ 1100:=nq (i:=53) (j:=972) (k:=1100) hm (BR (b:=972) (by omega)) (by omega)
 have hb:Sh.ff p<2 ^ 1080:=BR (b:=1080) (by omega)
 refine ⟨ha,jt (i:=1080) (k:=1100) hb (by omega),?_,?_⟩
 ·exact Nt.kx (k:=1100) ha
 ·exact Nt.kx (k:=1080) hb
theorem Kz:(2:Nat) ^ 1024<10 ^ 310:=by decide +kernel
theorem Ky:(2:Nat) ^ 1074<10 ^ 330:=by decide +kernel
theorem Hi {p:Nat} (h:p≤top):V p<2 ^ 1024 * 2 ^ 1074:=by
 have h1:=Nr.Qi h
 have h2:=Nr.lp top
 have h3:V (top+1)=2 ^ 1024 * 2 ^ 1074:=by decide +kernel
 rw [←h3]
 exact Nat.lt_of_le_of_lt h1 h2
theorem P9 {a b A K T V':Nat} (hb:0<b) (h:a * K=V' * b) (hV:V'<T * K) (hA:T<A):a<A * b:=by
 by_cases c:K=0
 ·subst c;rw [Nat.mul_zero] at hV;omega
 ·have hK:0<K:=by omega
  refine Nat.lt_of_mul_lt_mul_right (a:=K) ?_
  rw [h]
  have:V' * b<T * K * b:=Nat.mul_lt_mul_of_pos_right hV hb
  refine Nat.lt_trans this ?_
  rw [Nat.mul_right_comm]
  exact Nat.mul_lt_mul_of_pos_right (Nat.mul_lt_mul_of_pos_right hA hb) hK
theorem P8 {a b A K V':Nat} (ha:0<a) (h:a * K=V' * b) (hV:0<V') (hA:K<A):b<a * A:=by
 have h1:1 * b≤V' * b:=ar _ hV
 have h2:a * K<a * A:=Nat.mul_lt_mul_of_pos_left hA ha
 omega
theorem Mr {a b n d:Nat} (hn:n≤d) (h:10 ^ d * b≤a) (g:a<10 ^ n * b):False:=by
 have:=ar b (Nr.jE hn)
 omega
theorem uS {p:Nat} (hp:0<p) (ht:p≤top) : -330≤Sh.dx p∧Sh.dx p≤311:=by
 obtain ⟨h1,h2⟩:=Sh.Cp hp
 have DM:=Sh.Hg p
 have hb:=Sh.iA p
 have hV:0<V p:=by have:=Nr.z8 hp;omega
 have ha:0<Sh.gI p:=Nat.mul_pos (Sh.pB hp) (Nat.two_pow_pos _)
 constructor
 ·rcases nv (Sh.dx p) (-330) with c | c
  ·exfalso
   have g:=P8 ha DM hV Ky
   have e0:(Sh.dx p).toNat=0:=by omega
   rw [e0,Nat.pow_zero,Nat.one_mul] at h2
   have e1:Sh.gI p * 10 ^ 330≤Sh.gI p * 10 ^ (-(Sh.dx p)).toNat:=Nat.mul_le_mul_left _ (Nr.jE (a:=330) (by omega))
   exact Nat.lt_irrefl _ (Nat.lt_trans g (Nat.lt_of_le_of_lt e1 h2))
  ·exact c
 ·rcases nv 311 (Sh.dx p) with c | c
  ·exfalso
   have g:=P9 hb DM (Hi ht) Kz
   have e0:(-(Sh.dx p - 1)).toNat=0:=by omega
   rw [e0,Nat.pow_zero,Nat.mul_one] at h1
   exact Mr (n:=310) (by omega) h1 g
  ·exact c
theorem pG {p:Nat} (hp:0<p) (x:Int):Sh.tB (Sh.ff p) (-x)≤Sh.tA (Sh.gI p) (-x) ↔ x<Sh.dx p:=by
 obtain ⟨h1,h2⟩:=Sh.Cp hp
 have hb:=Sh.pY (Sh.iA p) (-x)
 constructor
 ·intro h
  rcases nv x (Sh.dx p) with c | c
  ·exact c
  ·exfalso
   have key:Sh.tA (Sh.gI p) (-x)<Sh.tB (Sh.ff p) (-x):=by
    unfold Sh.tA Sh.tB
    refine Nat.lt_of_mul_lt_mul_right (a:=10 ^ (-(Sh.dx p)).toNat) ?_
    rw [Nat.mul_right_comm]
    refine Nat.lt_of_lt_of_le (Nat.mul_lt_mul_of_pos_right h2 (Nr.dC _)) ?_
    rw [Nat.mul_comm (10 ^ (Sh.dx p).toNat),Nat.mul_assoc,Nat.mul_assoc,←Nat.pow_add,←Nat.pow_add]
    exact Nat.mul_le_mul_left _ (Nr.jE (by omega))
   omega
 ·intro h
  have h3:10 ^ (Sh.dx p - 1).toNat * Sh.ff p * 10 ^ (-x).toNat≤Sh.gI p * 10 ^ (-(Sh.dx p - 1)).toNat * 10 ^ (-x).toNat:=ar _ h1
  unfold Sh.tA Sh.tB
  refine Nat.le_of_mul_le_mul_right (c:=10 ^ (-(Sh.dx p - 1)).toNat) ?_ (Nr.dC _)
  rw [Nat.mul_right_comm (Sh.gI p)]
  refine Nat.le_trans ?_ h3
  rw [Nat.mul_assoc,←Nat.pow_add,Nat.mul_comm (10 ^ (Sh.dx p - 1).toNat),Nat.mul_assoc,←Nat.pow_add]
  exact Nat.mul_le_mul_left _ (Nr.jE (by omega))
theorem F8 {p:Nat} (hp:0<p) (ht:p≤top):Int.tdiv ((((Nt.bits (Sh.gI p):Nat):Int) - (Nt.bits (Sh.ff p):Nat)) * 30103) 100000 - 2≤Sh.dx p∧-390≤Int.tdiv ((((Nt.bits (Sh.gI p):Nat):Int) - (Nt.bits (Sh.ff p):Nat)) * 30103) 100000 - 2:=by
 have ha:0<Sh.gI p:=Nat.mul_pos (Sh.pB hp) (Nat.two_pow_pos _)
 obtain ⟨a1,a2,a3⟩:=zX _ ha
 obtain ⟨b1,b2,b3⟩:=zX _ (Sh.iA p)
 obtain ⟨_,_,ba,bb⟩:=uZ p ht
 obtain ⟨h1,h2⟩:=Sh.Cp hp
 generalize hi:(Nt.bits (Sh.gI p)+1100 - Nt.bits (Sh.ff p))=i
 have g:=Dk i (by omega)
 unfold xr at g
 have ek:(i:Int) - 1100=((Nt.bits (Sh.gI p):Nat):Int) - (Nt.bits (Sh.ff p):Nat):=by omega
 simp only [ek,aa,ay] at g
 obtain ⟨g1,g2⟩:=g
 refine ⟨?_,g2⟩
 generalize Int.tdiv ((((Nt.bits (Sh.gI p):Nat):Int) - (Nt.bits (Sh.ff p):Nat)) * 30103) 100000 - 2=x at *
 rcases nv (Sh.dx p) x with c | c
 ·exfalso
  generalize Nt.bits (Sh.gI p)=u at *
  generalize Nt.bits (Sh.ff p)=v at *
  generalize Sh.gI p=a at *
  generalize Sh.ff p=b at *
  generalize Sh.dx p=d at *
  -- 2^(u-1) * 10^(-d)<10^d * 2^v
  have s1:2 ^ (u - 1) * 10 ^ (-d).toNat<10 ^ d.toNat * 2 ^ v:=by
   refine Nat.lt_of_le_of_lt (ar _ a1) (Nat.lt_trans h2 ?_)
   exact Nat.mul_lt_mul_of_pos_left b2 (Nr.dC _)
  -- 10^(x-1) * 2^(-(k-1)) <= 2^(k-1) * 10^(-(x-1)),2^(k-1)<10^d * ..,d <= x - 1
  have s5:10 ^ (x - 1).toNat * 2 ^ (-(((u:Nat):Int) - (v:Nat) - 1)).toNat * (2 ^ v * 10 ^ (-d).toNat)≤2 ^ (((u:Nat):Int) - (v:Nat) - 1).toNat * 10 ^ (-(x - 1)).toNat * (2 ^ v * 10 ^ (-d).toNat):=ar _ g1
  have e4:2 ^ (((u:Nat):Int) - (v:Nat) - 1).toNat * 10 ^ (-(x - 1)).toNat * (2 ^ v * 10 ^ (-d).toNat)=(2 ^ (u - 1) * 10 ^ (-d).toNat) * (2 ^ (-(((u:Nat):Int) - (v:Nat) - 1)).toNat * 10 ^ (-(x - 1)).toNat):=by
   have:2 ^ (((u:Nat):Int) - (v:Nat) - 1).toNat * 2 ^ v=2 ^ (u - 1) * 2 ^ (-(((u:Nat):Int) - (v:Nat) - 1)).toNat:=Nr.yz (by omega)
   rw [show 2 ^ (((u:Nat):Int) - (v:Nat) - 1).toNat * 10 ^ (-(x - 1)).toNat * (2 ^ v * 10 ^ (-d).toNat)=(2 ^ (((u:Nat):Int) - (v:Nat) - 1).toNat * 2 ^ v) * (10 ^ (-(x - 1)).toNat * 10 ^ (-d).toNat) by simp only [Nat.mul_assoc,Nat.mul_comm,Nat.mul_left_comm],this]
   simp only [Nat.mul_assoc,Nat.mul_comm,Nat.mul_left_comm]
  rw [e4] at s5
  have s6:(2 ^ (u - 1) * 10 ^ (-d).toNat) * (2 ^ (-(((u:Nat):Int) - (v:Nat) - 1)).toNat * 10 ^ (-(x - 1)).toNat)<(10 ^ d.toNat * 2 ^ v) * (2 ^ (-(((u:Nat):Int) - (v:Nat) - 1)).toNat * 10 ^ (-(x - 1)).toNat):=Nat.mul_lt_mul_of_pos_right s1 (Nat.mul_pos (Nat.two_pow_pos _) (Nr.dC _))
  have s7:=Nat.lt_of_le_of_lt s5 s6
  have e5:10 ^ (x - 1).toNat * 2 ^ (-(((u:Nat):Int) - (v:Nat) - 1)).toNat * (2 ^ v * 10 ^ (-d).toNat)=10 ^ ((x - 1).toNat+(-d).toNat) * (2 ^ (-(((u:Nat):Int) - (v:Nat) - 1)).toNat * 2 ^ v):=by
   rw [Nat.pow_add 10];simp only [Nat.mul_assoc,Nat.mul_comm,Nat.mul_left_comm]
  have e6:10 ^ d.toNat * 2 ^ v * (2 ^ (-(((u:Nat):Int) - (v:Nat) - 1)).toNat * 10 ^ (-(x - 1)).toNat)=10 ^ (d.toNat+(-(x - 1)).toNat) * (2 ^ (-(((u:Nat):Int) - (v:Nat) - 1)).toNat * 2 ^ v):=by
   rw [Nat.pow_add 10];simp only [Nat.mul_assoc,Nat.mul_comm,Nat.mul_left_comm]
  rw [e5,e6] at s7
  have s8:=Sh.rY (Nat.lt_of_mul_lt_mul_right s7)
  omega
 ·exact c
theorem bJ.sR (u:UInt64) (p:Nat) (hu:u.toNat=p) (hp:0<p) (ht:p≤top) (x2 x3:List UInt16) (i2:Nt.is x2=true) (i3:Nt.is x3=true) (w2:Nt.val x2=Sh.gI p) (w3:Nt.val x3=Sh.ff p) (n0:Nat) (hn:n0≤17) (h0:∀j:Nat,1≤j→j<n0→Sh.some_ p (Sh.gI p) (Sh.ff p) (Sh.dx p) j=none) (h1:Sh.some_ p (Sh.gI p) (Sh.ff p) (Sh.dx p) n0=some (Sh.digits p)) :
  ∀m i:Nat,i+m=n0→1≤i→bJ.l3 u (Sh.dx p) x2 x3 i=some [.s (Sh.digits p).1,.i .i64 (Sh.digits p).2,.b true]:=by
 obtain ⟨d1,d2⟩:=uS hp ht
 obtain ⟨al,bl,_,_⟩:=uZ p ht
 have ha:0<Sh.gI p:=Nat.mul_pos (Sh.pB hp) (Nat.two_pow_pos _)
 have pre:∀i:Nat,1≤i→i≤17→Sh.ng (Sh.gI p) (Sh.ff p) (Sh.dx p) i=true:=fun i h1 h2=>by
  obtain ⟨r1,r2⟩:=Sh.qp hp (n:=i) (by omega)
  have t1:1 * Sh.tB (Sh.ff p) (i - Sh.dx p)≤10 ^ ((i:Int) - 1).toNat * Sh.tB (Sh.ff p) (i - Sh.dx p):=ar _ (Nr.dC _)
  have t2:10 ^ (i:Int).toNat * Sh.tB (Sh.ff p) (i - Sh.dx p)≤10 ^ 17 * Sh.tB (Sh.ff p) (i - Sh.dx p):=ar _ (Nr.jE (by omega))
  unfold Sh.ng
  exact ae ⟨by omega,by omega,by omega,by omega,ha,al,Sh.iA p,bl,by omega,Nat.lt_of_lt_of_le r2 t2⟩
 intro m
 induction m with
 | zero =>
  intro i hi QM
  have hi:i=n0:=hi
  subst hi
  refine bJ.ov _ _ _ _ _ ?_
  intro v1 g1 v2 g2 v3 g3 v4 g4
  rw [w2,w3,hu,Sh.ud,h1] at g1 g2 g3
  have e3:v3=true:=g3
  rw [i2,i3,w2,w3,pre i QM hn,e3]
  refine (bD (by rfl)).trans ?_
  rw [Option.getD_some] at g1 g2
  rw [aF,g1,g2]
 | succ m ih =>
  intro i hi QM
  refine bJ.ov _ _ _ _ _ ?_
  intro v1 g1 v2 g2 v3 g3 v4 g4
  rw [w2,w3,hu,Sh.ud,h0 i QM (by omega)] at g3
  have e3:v3=false:=g3
  have e4:v4=((i+1:Nat):Int):=by rw [g4,i64_in _ (by omega)];omega
  rw [i2,i3,w2,w3,pre i QM (by omega),e3]
  refine (bD (by rfl)).trans ?_
  rw [ax,e4]
  exact ih (i+1) (by omega) (by omega)
theorem bJ.lF (u:UInt64) (p:Nat) (hu:u.toNat=p) (hp:0<p) (ht:p≤top) (x2 x3:List UInt16) (i2:Nt.is x2=true) (i3:Nt.is x3=true) (w2:Nt.val x2=Sh.gI p) (w3:Nt.val x3=Sh.ff p) :
  ∀(m:Nat) (x:Int),x+m=Sh.dx p→-390≤x→bJ.l2 u x x2 x3=some [.s (Sh.digits p).1,.i .i64 (Sh.digits p).2,.b true]:=by
 obtain ⟨d1,d2⟩:=uS hp ht
 obtain ⟨al,bl,_,_⟩:=uZ p ht
 intro m
 induction m with
 | zero =>
  intro x hx Hv
  have hx:x=Sh.dx p:=by omega
  subst hx
  refine bJ.jw _ _ _ _ ?_
  intro v1 g1
  have jP:¬(Sh.tB (Sh.ff p) (-(Sh.dx p))≤Sh.tA (Sh.gI p) (-(Sh.dx p))):=fun h=>by have:=(pG hp _).1 h;omega
  rw [i2,i3,w2,w3,ae (⟨by omega,by omega,al,bl⟩ : -400≤Sh.dx p∧Sh.dx p≤400∧Sh.gI p<2 ^ 1100∧Sh.ff p<2 ^ 1100)]
  refine (bD (by rfl)).trans ?_
  rw [af jP,ax]
  obtain ⟨n,n1,n2,n3,n4⟩:=Sh.first hp ht
  exact bJ.sR u p hu hp ht x2 x3 i2 i3 w2 w3 n n2 n3 n4 (n - 1) 1 (by omega) (by omega)
 | succ m ih =>
  intro x hx Hv
  refine bJ.jw _ _ _ _ ?_
  intro v1 g1
  have e1:v1=x+1:=by rw [g1,i64_in _ (by omega)]
  rw [i2,i3,w2,w3,ae (⟨by omega,by omega,al,bl⟩ : -400≤x∧x≤400∧Sh.gI p<2 ^ 1100∧Sh.ff p<2 ^ 1100)]
  refine (bD (by rfl)).trans ?_
  rw [ae ((pG hp x).2 (by omega)),aF,e1]
  exact ih (x+1) (by omega) (by omega)
theorem Q2 {α β γ:Type} (a:α) (b:β) (c:γ) (x:α × β × γ) (h:x=(a,b,c)):x.1=a∧x.2.1=b∧x.2.2=c:=by subst h;exact ⟨rfl,rfl,rfl⟩
theorem xG {b:UInt64} (h:(Nr.split b).1=2):(Sh.dg b).1=(Sh.digits (Sh.iE b)).1∧(Sh.dg b).2.1=(Sh.digits (Sh.iE b)).2∧(Sh.dg b).2.2=true :=
 Q2 _ _ _ _ ((Sh.Kf b).trans (aH h))
theorem Gv {b:UInt64} (h:¬(Nr.split b).1=2):(Sh.dg b).1=[]∧(Sh.dg b).2.1=0∧(Sh.dg b).2.2=false:=by
 rw [Sh.Kf]
 unfold Sh.QQ
 rw [aD h]
 exact ⟨rfl,rfl,rfl⟩
theorem bJ.gG (u:UInt64) (p:Nat) (hu:u.toNat=p) (hp:0<p) (ht:p≤top) (x1 x2:List UInt16) (j1:Nt.is x1=true) (j2:Nt.is x2=true) (k1:Nt.val x1=Sh.gI p) (k2:Nt.val x2=Sh.ff p):bJ.j1 u x1 x2=some [.s (Sh.digits p).1,.i .i64 (Sh.digits p).2,.b true]:=by
 obtain ⟨al,bl,ba,bb⟩:=uZ _ ht
 refine bJ.kF _ _ _ ?_
 intro u1 g1 u2 g2 u3 g3 u4 g4 u5 g5
 rw [k1] at g1
 rw [k2] at g2
 obtain ⟨q1,q2⟩:=F8 hp ht
 obtain ⟨r1,r2⟩:=uS hp ht
 generalize hA:Nt.bits (Sh.gI p)=A at *
 generalize hB:Nt.bits (Sh.ff p)=B at *
 have e3:u3=((A:Int) - (B:Int)) * 30103:=by
  rw [g3,g1,g2,i64_in ((A:Int) - (B:Int)) (by omega),i64_in _ (by omega)]
 have e4:u4=Int.tdiv (((A:Int) - (B:Int)) * 30103) 100000:=by rw [g4,e3,i64_in _ (by omega)]
 have e5:u5=Int.tdiv (((A:Int) - (B:Int)) * 30103) 100000 - 2:=by rw [g5,e4,i64_in _ (by omega)]
 have hz:(!decide ((100000:Int)=0))=true:=by decide
 rw [j1,j2,da,da,hz,da]
 rw [←e5] at q1 q2
 exact bJ.lF u p hu hp ht x1 x2 j1 j2 k1 k2 (Sh.dx p - u5).toNat u5 (by omega) (by omega)
theorem bJ.goal (b:UInt64):bJ.F b=some [.s (Sh.dg b).1,.i .i64 (Sh.dg b).2.1,.b (Sh.dg b).2.2]:=by
 refine bJ.dZ _ ?_
 intro v1 h1 v2 h2 v3 h3 v4 h4 v5 h5 v6 h6
 by_cases c:(Nr.split b).1=2
 ·obtain ⟨z1,z2,z3⟩:=xG c
  rw [z1,z2,z3,ae c,a8,ax]
  clear z1 z2 z3
  obtain ⟨hp,ht,hm,he⟩:=pr c
  have hu:v1.toNat=Sh.iE b:=by rw [h1];exact Ha b
  obtain ⟨al,bl,ba,bb⟩:=uZ _ ht
  have FK:=Nr.uf ht
  have Po:=Nr.qc (Sh.iE b)
  rw [hm] at h2
  have w2:Nt.val v2=iD (Sh.iE b):=by rw [h2,Nt.eG]
  have w3:Nt.val v3=1:=by rw [h3,Nt.eG];rfl
  have i2:Nt.is v2=true:=by rw [h2];exact gX (i:=53) Po (by omega)
  have i3:Nt.is v3=true:=by rw [h3];exact gX (i:=1) (by decide) (by omega)
  have key:∀x1 x2:List UInt16,Nt.is x1=true→Nt.is x2=true→Nt.val x1=Sh.gI (Sh.iE b)→Nt.val x2=Sh.ff (Sh.iE b)→bJ.j1 v1 x1 x2=some [.s (Sh.digits (Sh.iE b)).1,.i .i64 (Sh.digits (Sh.iE b)).2,.b true]:=bJ.gG v1 _ hu hp ht
  rw [he] at h4 h5 ⊢
  by_cases c2:0≤(sh (Sh.iE b):Int) - 1074
  ·have w4:Nt.val v4=Sh.gI (Sh.iE b):=by rw [h4,Nt.eG,w2];rfl
   have i4:Nt.is v4=true:=by rw [h4,w2];exact gX (i:=1100) al (by omega)
   have Vs:Nt.val v3=Sh.ff (Sh.iE b):=by rw [w3];unfold Sh.ff;rw [show (-((sh (Sh.iE b):Int) - 1074)).toNat=0 by omega,Nat.pow_zero]
   rw [ae c2,aF,i2,ae (show 0≤(sh (Sh.iE b):Int) - 1074∧(sh (Sh.iE b):Int) - 1074≤4096 by omega)]
   refine (bD (by rfl)).trans ?_
   exact key v4 v3 i4 i3 w4 Vs
  ·have e5:v5=-((sh (Sh.iE b):Int) - 1074):=by rw [h5,i64_in _ (by omega)];omega
   have w6:Nt.val v6=Sh.ff (Sh.iE b):=by rw [h6,Nt.eG,w3,e5,Nat.one_mul];rfl
   have i6:Nt.is v6=true:=by
    rw [h6,w3,e5,Nat.one_mul];exact gX (i:=1100) bl (by omega)
   have Vt:Nt.val v2=Sh.gI (Sh.iE b):=by rw [w2];unfold Sh.gI;rw [show ((sh (Sh.iE b):Int) - 1074).toNat=0 by omega,Nat.pow_zero,Nat.mul_one]
   rw [af c2,ax,i3,e5,ae (show 0≤-((sh (Sh.iE b):Int) - 1074)∧-((sh (Sh.iE b):Int) - 1074)≤4096 by omega)]
   refine (bD (by rfl)).trans ?_
   exact key v2 v6 i2 i6 Vt w6
 ·obtain ⟨z1,z2,z3⟩:=Gv c
  rw [z1,z2,z3,af c];rfl
end Go.Eng
namespace Go.Eng
open Go.IntWalk
open Nr (V iD sh top gf rd)
theorem rq (n:Int):(Sh.fF n).length=n.toNat:=by unfold Sh.fF;rw [List.length_replicate]
theorem y5 {v:Int} (h : -1000000≤v∧v≤1000000):Nr.i64 v=true:=ae (by omega)
theorem cU.gG (x:Int) (t:bT) (hx : -900≤x∧x≤900) (ht:t.length≤1000):cU.j1 x t=some [.s (t++(if x<1 then [101,45]++Nr.itoa (1 - x) else [101,43]++Nr.itoa (x - 1)))]:=by
 refine cU.kF _ _ ?_
 intro v1 h1 v2 h2 v3 h3 v4 h4
 have e1:v1=1 - x:=by rw [h1,i64_in _ (by omega)]
 have e3:v3=x - 1:=by rw [h3,i64_in _ (by omega)]
 by_cases c:x<1
 ·have il:=Sh.tL (v:=1 - x) (by omega) (by omega)
  have i1:Nr.i64 v1=true:=by rw [e1];exact y5 (by omega)
  rw [ae c,aF,aH c,i1,bD (ae (by show t.length+2≤_;omega)),da,bD (ae (by rw [aq,e1];show t.length+2+_≤_;omega)),h2,e1,aQ]
 ·have il:=Sh.tL (v:=x - 1) (by omega) (by omega)
  have i3:Nr.i64 v3=true:=by rw [e3];exact y5 (by omega)
  rw [af c,ax,aD c,i3,bD (ae (by show t.length+2≤_;omega)),da,bD (ae (by rw [aq,e3];show t.length+2+_≤_;omega)),h4,e3,aQ]
theorem cU.goal (d:bT) (x:Int) (hp:decide (1≤d.length∧d.length≤17∧-900≤x∧x≤900)=true):cU.F d x=some [.s (Sh.yY d x)]:=by
 obtain ⟨p1,p2,p3,p4⟩:=aN hp
 rw [Sh.yX]
 unfold Sh.laid
 refine cU.dZ _ _ ?_
 intro v1 h1 v2 h2 v3 h3 v4 h4 v5 h5 v6 h6 v7 h7 v8 h8 v9 h9 v10 kQ v11 mY
 have lH:∀b:Bool,(!b || b)=true∧(!b || (b&&b))=true:=by decide
 have e1:v1=decide (1≤x∧x≤21):=by rw [h1];by_cases c:1≤x <;> simp [c]
 have e2:v2=decide (1≤x∧x≤21∧(d.length:Int)≤x):=by
  rw [h2,e1]
  by_cases c:1≤x∧x≤21
  ·rw [ae c,aF,bA];omega
  ·rw [af c,ax,af (by omega)]
 have e6:v6=decide (-5≤x∧x≤0):=by rw [h6];by_cases c : -5≤x <;> simp [c]
 have e3:v3=x - d.length:=by rw [h3,i64_in _ (by omega)]
 have ew:IntKind.i64.wrap (0 - x)=-x:=by rw [i64_in _ (by omega)];omega
 rw [ew] at h7 ⊢
 rw [bD (lH _).1,bD (lH _).1,bD (lH _).2,bD (lH _).1,e2]
 by_cases c1:1≤x∧x≤21∧(d.length:Int)≤x
 ·rw [ae c1,aF,aH c1,bD (ae ⟨rfl,by omega,by omega⟩),bD (ae (by rw [rq];omega)),e3]
 ·rw [af c1,ax,aD c1,bD (lH _).1,bD (lH _).1,e1]
  by_cases c2:1≤x∧x≤21
  ·have l4:v4.length≤18:=by rw [h4,aq,aK];show min _ _+1≤18;omega
   rw [ae c2,aF,aH c2,bD (lJ (by omega) (by omega) (by omega)),bD (ae (by rw [aK];show min _ _+1≤_;omega)),bD (lJ (by omega) (by omega) (by omega)),bD (ae (by rw [bm];omega)),h5,h4,aQ]
  ·rw [af c2,ax,aD c2,bD (lH _).1,bD (lH _).1,e6]
   by_cases c3 : -5≤x∧x≤0
   ·rw [ae c3,aF,aH c3,bD (ae ⟨rfl,by omega,by omega⟩),bD (ae (by rw [h7,rq];show 2+_≤_;omega)),bD (ae (by rw [aq,h7,rq];show 2+_+_≤_;omega)),h8,h7,aQ]
   ·have l9:v9.length≤1:=by rw [h9,aK];show min 1 _≤1;omega
    have l10:v10.length≤17:=by rw [kQ,bm];omega
    have g9:v9=d.take 1:=h9
    have g10:v10=d.drop 1:=kQ
    rw [af c3,ax,aD c3,bD (lJ (by omega) (by omega) (by omega))]
    by_cases c4:1<d.length
    ·rw [ae (by omega),aF,bD (lJ (by omega) (by omega) (by omega)),bD (ae (by show 1+v10.length≤_;omega)),bD (ae (by rw [aq];show v9.length+(1+v10.length)≤_;omega)),cU.gG x v11 ⟨p3,p4⟩ (by rw [mY,aq,aq];show v9.length+(1+v10.length)≤_;omega),aH c4,mY,g9,g10];rfl
    ·rw [af (by omega),ax,cU.gG x v9 ⟨p3,p4⟩ (by omega),aD c4,aU,g9]
theorem Gt {b:UInt64} (h:(Nr.split b).1=2):(1≤(Sh.dg b).1.length∧(Sh.dg b).1.length≤17∧-900≤(Sh.dg b).2.1∧(Sh.dg b).2.1≤900)∧Sh.tm (Sh.dg b).1∧Nr.read (Sh.dg b).1 (Sh.dg b).2.1=some (Sh.iE b):=by
 obtain ⟨hp,ht,hm,he⟩:=pr h
 obtain ⟨z1,z2,z3⟩:=xG h
 obtain ⟨n,N,n1,n2,n3,n4,n5,n6,n7⟩:=Sh.su hp ht
 obtain ⟨d1,d2⟩:=uS hp ht
 have hl:=Sh.zW n1 n4
 have hN:N<10 ^ (n+1):=Nat.lt_of_le_of_lt n4 (Nat.pow_lt_pow_right (by omega) (by omega))
 have hL:=Nr.nG (n+1) N hN (by omega)
 have hr:=Sh.zO hp ht
 obtain ⟨q1,q2,q3,q4⟩:=Nr.oU N
 obtain ⟨t,t1,t2⟩:=Nr.gW (Nr.dec N)
 have ne:Nr.cT (Nr.dec N)≠[]:=by
  intro e0
  have hn:=congrArg Nr.num t1
  rw [Nr.fj,Nr.iS,List.length_replicate,Nat.add_zero,q2,e0,show Nr.num []=0 from rfl,Nat.zero_mul] at hn
  omega
 have W5:=Nr.Bi N
 have fI:=List.length_pos_iff.2 ne
 rw [z1,z2]
 refine ⟨?_,?_,hr⟩
 ·rw [n6]
  refine ⟨fI,Nat.le_trans hl n2,?_,?_⟩
  ·show -900≤((Nr.dec N).length:Int)+(Sh.dx (Sh.iE b) - n);omega
  ·show ((Nr.dec N).length:Int)+(Sh.dx (Sh.iE b) - n)≤900;omega
 ·rw [n6]
  refine ⟨(Nr.eF q1 t1).1,ne,?_⟩
  have:=q4 n3
  rw [t1,ak,List.getElem?_append_left fI,←ak] at this
  exact this
theorem Aw (b:UInt64):(Nr.split b).1=1∨(Nr.split b).1=2∨(Nr.split b).1=3∨(Nr.split b).1=4:=by
 unfold Nr.split
 simp only
 by_cases c1:b.toNat / 4503599627370496 % 2048=2047
 ·rw [aH c1]
  by_cases c2:b.toNat % 4503599627370496=0
  ·rw [aH c2];exact .inr (.inr (.inl rfl))
  ·rw [aD c2];exact .inr (.inr (.inr rfl))
 ·rw [aD c1]
  by_cases c2:b.toNat / 4503599627370496 % 2048=0
  ·rw [aH c2]
   by_cases c3:b.toNat % 4503599627370496=0
   ·rw [aH c3];exact .inl rfl
   ·rw [aD c3];exact .inr (.inl rfl)
  ·rw [aD c2];exact .inr (.inl rfl)
theorem Fu {b:UInt64} (h:(Nr.split b).1=2):(Sh.laid (Sh.dg b).1 (Sh.dg b).2.1).length≤24:=by
 obtain ⟨⟨_,r2,r3,r4⟩,hL,_⟩:=Gt h
 obtain ⟨_,_,_,_,_,_,_,hlen,_⟩:=Sh.A0 hL r2 ⟨r3,r4⟩
 exact hlen
theorem cR.gG (b:UInt64) (t:bT) (ht:t.length≤1000):cR.j1 (Nr.split b).2.1 t=some [.s (Sh.sign b++t)]:=by
 rw [cR.FB]
 unfold Sh.sign
 cases (Nr.split b).2.1 with
 | true=>rw [aF,bD (ae (by show 1+t.length≤_;omega)),aH rfl]
 | false=>rw [ax,aD (by decide)];rfl
theorem cR.goal (b:UInt64):cR.F b=some [.s (Sh.text b)]:=by
 refine cR.dZ _ ?_
 intro v1 h1
 rw [Sh.yX] at h1
 rw [Sh.wF]
 unfold Sh.vE
 by_cases c4:(Nr.split b).1=4
 ·rw [ae c4,aF,aH c4]
 ·rw [af c4,ax,aD c4]
  by_cases c3:(Nr.split b).1=3
  ·rw [ae c3,aF,aH c3,cR.gG b _ (by decide)]
  ·rw [af c3,ax,aD c3]
   by_cases c1:(Nr.split b).1=1
   ·rw [ae c1,aF,aH c1,cR.gG b _ (by decide)]
   ·have c2:(Nr.split b).1=2:=by have:=Aw b;omega
    have hl:=Fu c2
    rw [af c1,ax,aD c1,bD (ae (Gt c2).1),h1,cR.gG b _ (by omega)]
end Go.Eng
namespace Go.Proofs
open Go.Shelf
def Tryz.AY:Go.Shelf.Ren:=⟨fun | 29=>96 | n=>n,fun | 22=>22 | 3=>3 | 4=>4 | 25=>44 | 54=>148 | 0=>0 | 5=>5 | n=>n,fun | 1=>0 | n=>n⟩
theorem Tryz.Lx:Go.Proofs.Lays7.n29 Tryz.prog Tryz.AY:={
 mixed:=by kernel_rfl
 f29:=Tryz.func96.trans (congrArg some (by kernel_rfl))
 t0:=Tryz.underlying0
 a0:=Tryz.isAgg0
 z0:=Tryz.sizeOf0
 v0:=Tryz.zeroValue0
 i0:=by kernel_rfl
 t3:=Tryz.underlying3
 a3:=Tryz.isAgg3
 z3:=Tryz.sizeOf3
 v3:=Tryz.zeroValue3
 i3:=by kernel_rfl
 t4:=Tryz.underlying4
 a4:=Tryz.isAgg4
 z4:=Tryz.sizeOf4
 v4:=Tryz.zeroValue4
 i4:=by kernel_rfl
 t5:=Tryz.underlying5
 a5:=Tryz.isAgg5
 z5:=Tryz.sizeOf5
 v5:=Tryz.zeroValue5
 i5:=by kernel_rfl
 t22:=Tryz.underlying22
 a22:=Tryz.isAgg22
 z22:=Tryz.sizeOf22
 v22:=Tryz.zeroValue22
 i22:=by kernel_rfl
 t25:=Tryz.underlying44
 a25:=Tryz.isAgg44
 z25:=Tryz.sizeOf44
 v25:=Tryz.zeroValue44
 i25:=by kernel_rfl
 t54:=Tryz.underlying148
 a54:=Tryz.isAgg148
 z54:=Tryz.sizeOf148
 g1:=by kernel_rfl }
def Tryz.AZ:Go.Shelf.Ren:=⟨fun | 17=>105 | n=>n,fun | 24=>132 | 9=>9 | 3=>3 | 4=>4 | 0=>0 | n=>n,fun | n=>n⟩
theorem Tryz.Ly:Go.Proofs.Lays2.n17 Tryz.prog Tryz.AZ:={
 mixed:=by kernel_rfl
 f17:=Tryz.func105.trans (congrArg some (by kernel_rfl))
 t0:=Tryz.underlying0
 a0:=Tryz.isAgg0
 z0:=Tryz.sizeOf0
 v0:=Tryz.zeroValue0
 t3:=Tryz.underlying3
 a3:=Tryz.isAgg3
 z3:=Tryz.sizeOf3
 v3:=Tryz.zeroValue3
 t4:=Tryz.underlying4
 a4:=Tryz.isAgg4
 z4:=Tryz.sizeOf4
 v4:=Tryz.zeroValue4
 t9:=Tryz.underlying9
 a9:=Tryz.isAgg9
 z9:=Tryz.sizeOf9
 v9:=Tryz.zeroValue9
 t24:=Tryz.underlying132
 a24:=Tryz.isAgg132
 z24:=Tryz.sizeOf132
 v24:=Tryz.zeroValue132 }
def Tryz.Z6:Go.Shelf.Ren:=⟨fun | 103=>37 | 210=>69 | 206=>98 | n=>n,fun | 9=>9 | 4=>4 | 24=>58 | 3=>3 | n=>n,fun | n=>n⟩
theorem Tryz.aas:Go.Proofs.Lays.n103 Tryz.prog Tryz.Z6:={
 mixed:=by kernel_rfl
 f103:=Tryz.func37.trans (congrArg some (by kernel_rfl))
 f206:=Tryz.func98.trans (congrArg some (by kernel_rfl))
 f210:=Tryz.func69.trans (congrArg some (by kernel_rfl))
 t3:=Tryz.underlying3
 a3:=Tryz.isAgg3
 z3:=Tryz.sizeOf3
 v3:=Tryz.zeroValue3
 t4:=Tryz.underlying4
 a4:=Tryz.isAgg4
 z4:=Tryz.sizeOf4
 v4:=Tryz.zeroValue4
 t9:=Tryz.underlying9
 a9:=Tryz.isAgg9
 z9:=Tryz.sizeOf9
 v9:=Tryz.zeroValue9
 t24:=Tryz.underlying58
 a24:=Tryz.isAgg58
 z24:=Tryz.sizeOf58
 v24:=Tryz.zeroValue58 }
def Tryz.Z5:Go.Shelf.Ren:=⟨fun | 153=>38 | 152=>70 | 226=>71 | 227=>56 | 228=>72 | 137=>99 | 119=>100 | 224=>101 | 225=>102 | 217=>120 | 266=>133 | n=>n,fun | 9=>9 | 3=>3 | 4=>4 | 5=>5 | 21=>21 | 117=>78 | 116=>77 | 0=>0 | 46=>44 | 124=>81 | n=>n,fun | n=>n⟩
theorem Tryz.aar:Go.Proofs.Lays.n153 Tryz.prog Tryz.Z5:={
 mixed:=by kernel_rfl
 f119:=Tryz.func100.trans (congrArg some (by kernel_rfl))
 f137:=Tryz.func99.trans (congrArg some (by kernel_rfl))
 f152:=Tryz.func70.trans (congrArg some (by kernel_rfl))
 f153:=Tryz.func38.trans (congrArg some (by kernel_rfl))
 f217:=Tryz.func120.trans (congrArg some (by kernel_rfl))
 f224:=Tryz.func101.trans (congrArg some (by kernel_rfl))
 f225:=Tryz.func102.trans (congrArg some (by kernel_rfl))
 f226:=Tryz.func71.trans (congrArg some (by kernel_rfl))
 f227:=Tryz.func56.trans (congrArg some (by kernel_rfl))
 f228:=Tryz.func72.trans (congrArg some (by kernel_rfl))
 f266:=Tryz.func133.trans (congrArg some (by kernel_rfl))
 t0:=Tryz.underlying0
 a0:=Tryz.isAgg0
 z0:=Tryz.sizeOf0
 v0:=Tryz.zeroValue0
 t3:=Tryz.underlying3
 a3:=Tryz.isAgg3
 z3:=Tryz.sizeOf3
 v3:=Tryz.zeroValue3
 t4:=Tryz.underlying4
 a4:=Tryz.isAgg4
 z4:=Tryz.sizeOf4
 v4:=Tryz.zeroValue4
 t5:=Tryz.underlying5
 a5:=Tryz.isAgg5
 z5:=Tryz.sizeOf5
 v5:=Tryz.zeroValue5
 t9:=Tryz.underlying9
 a9:=Tryz.isAgg9
 z9:=Tryz.sizeOf9
 v9:=Tryz.zeroValue9
 t21:=Tryz.underlying21
 a21:=Tryz.isAgg21
 z21:=Tryz.sizeOf21
 v21:=Tryz.zeroValue21
 t46:=Tryz.underlying44
 a46:=Tryz.isAgg44
 z46:=Tryz.sizeOf44
 v46:=Tryz.zeroValue44
 t116:=Tryz.underlying77
 a116:=Tryz.isAgg77
 z116:=Tryz.sizeOf77
 t117:=Tryz.underlying78
 a117:=Tryz.isAgg78
 z117:=Tryz.sizeOf78
 v117:=Tryz.zeroValue78
 t124:=Tryz.underlying81
 a124:=Tryz.isAgg81
 z124:=Tryz.sizeOf81
 v124:=Tryz.zeroValue81 }
def Tryz.yW:Go.Shelf.Ren:=⟨fun | 160=>29 | 232=>55 | 231=>54 | 227=>56 | 234=>58 | 233=>57 | 236=>60 | 235=>59 | 228=>72 | 271=>89 | 151=>88 | 197=>87 | 120=>113 | 152=>70 | 260=>112 | 137=>99 | 119=>100 | 224=>101 | 225=>102 | 217=>120 | 266=>133 | n=>n,fun | 9=>9 | 4=>4 | 3=>3 | 5=>5 | 117=>78 | 116=>77 | 0=>0 | 124=>81 | 21=>21 | 105=>114 | 46=>44 | 119=>156 | 139=>159 | 138=>158 | n=>n,fun | 3=>2 | 4=>3 | n=>n⟩
theorem Tryz.Ij:Go.Proofs.Lays.n160 Tryz.prog Tryz.yW:={
 mixed:=by kernel_rfl
 f119:=Tryz.func100.trans (congrArg some (by kernel_rfl))
 f120:=Tryz.func113.trans (congrArg some (by kernel_rfl))
 f137:=Tryz.func99.trans (congrArg some (by kernel_rfl))
 f151:=Tryz.func88.trans (congrArg some (by kernel_rfl))
 f152:=Tryz.func70.trans (congrArg some (by kernel_rfl))
 f160:=Tryz.func29.trans (congrArg some (by kernel_rfl))
 f197:=Tryz.func87.trans (congrArg some (by kernel_rfl))
 f217:=Tryz.func120.trans (congrArg some (by kernel_rfl))
 f224:=Tryz.func101.trans (congrArg some (by kernel_rfl))
 f225:=Tryz.func102.trans (congrArg some (by kernel_rfl))
 f227:=Tryz.func56.trans (congrArg some (by kernel_rfl))
 f228:=Tryz.func72.trans (congrArg some (by kernel_rfl))
 f231:=Tryz.func54.trans (congrArg some (by kernel_rfl))
 f232:=Tryz.func55.trans (congrArg some (by kernel_rfl))
 f233:=Tryz.func57.trans (congrArg some (by kernel_rfl))
 f234:=Tryz.func58.trans (congrArg some (by kernel_rfl))
 f235:=Tryz.func59.trans (congrArg some (by kernel_rfl))
 f236:=Tryz.func60.trans (congrArg some (by kernel_rfl))
 f260:=Tryz.func112.trans (congrArg some (by kernel_rfl))
 f266:=Tryz.func133.trans (congrArg some (by kernel_rfl))
 f271:=Tryz.func89.trans (congrArg some (by kernel_rfl))
 t0:=Tryz.underlying0
 a0:=Tryz.isAgg0
 z0:=Tryz.sizeOf0
 v0:=Tryz.zeroValue0
 t3:=Tryz.underlying3
 a3:=Tryz.isAgg3
 z3:=Tryz.sizeOf3
 v3:=Tryz.zeroValue3
 t4:=Tryz.underlying4
 a4:=Tryz.isAgg4
 z4:=Tryz.sizeOf4
 v4:=Tryz.zeroValue4
 t5:=Tryz.underlying5
 a5:=Tryz.isAgg5
 z5:=Tryz.sizeOf5
 v5:=Tryz.zeroValue5
 t9:=Tryz.underlying9
 a9:=Tryz.isAgg9
 z9:=Tryz.sizeOf9
 v9:=Tryz.zeroValue9
 t21:=Tryz.underlying21
 a21:=Tryz.isAgg21
 z21:=Tryz.sizeOf21
 v21:=Tryz.zeroValue21
 t46:=Tryz.underlying44
 a46:=Tryz.isAgg44
 z46:=Tryz.sizeOf44
 v46:=Tryz.zeroValue44
 t105:=Tryz.underlying114
 a105:=Tryz.isAgg114
 z105:=Tryz.sizeOf114
 v105:=Tryz.zeroValue114
 t116:=Tryz.underlying77
 a116:=Tryz.isAgg77
 z116:=Tryz.sizeOf77
 t117:=Tryz.underlying78
 a117:=Tryz.isAgg78
 z117:=Tryz.sizeOf78
 v117:=Tryz.zeroValue78
 t119:=Tryz.underlying156
 a119:=Tryz.isAgg156
 z119:=Tryz.sizeOf156
 t124:=Tryz.underlying81
 a124:=Tryz.isAgg81
 z124:=Tryz.sizeOf81
 v124:=Tryz.zeroValue81
 t138:=Tryz.underlying158
 a138:=Tryz.isAgg158
 z138:=Tryz.sizeOf158
 v138:=Tryz.zeroValue158
 t139:=Tryz.underlying159
 a139:=Tryz.isAgg159
 z139:=Tryz.sizeOf159
 v139:=Tryz.zeroValue159
 g3:=by kernel_rfl
 g4:=by kernel_rfl }
def Tryz.yV:Go.Shelf.Ren:=⟨fun | 161=>30 | 231=>54 | 227=>56 | 233=>57 | 235=>59 | 228=>72 | 197=>87 | 151=>88 | 260=>112 | 152=>70 | 137=>99 | 119=>100 | 224=>101 | 225=>102 | 217=>120 | 266=>133 | n=>n,fun | 9=>9 | 4=>4 | 3=>3 | 5=>5 | 117=>78 | 116=>77 | 0=>0 | 124=>81 | 105=>114 | 21=>21 | 119=>156 | 46=>44 | 139=>159 | 138=>158 | n=>n,fun | 3=>2 | 4=>3 | n=>n⟩
theorem Tryz.Ii:Go.Proofs.Lays.n161 Tryz.prog Tryz.yV:={
 mixed:=by kernel_rfl
 f119:=Tryz.func100.trans (congrArg some (by kernel_rfl))
 f137:=Tryz.func99.trans (congrArg some (by kernel_rfl))
 f151:=Tryz.func88.trans (congrArg some (by kernel_rfl))
 f152:=Tryz.func70.trans (congrArg some (by kernel_rfl))
 f161:=Tryz.func30.trans (congrArg some (by kernel_rfl))
 f197:=Tryz.func87.trans (congrArg some (by kernel_rfl))
 f217:=Tryz.func120.trans (congrArg some (by kernel_rfl))
 f224:=Tryz.func101.trans (congrArg some (by kernel_rfl))
 f225:=Tryz.func102.trans (congrArg some (by kernel_rfl))
 f227:=Tryz.func56.trans (congrArg some (by kernel_rfl))
 f228:=Tryz.func72.trans (congrArg some (by kernel_rfl))
 f231:=Tryz.func54.trans (congrArg some (by kernel_rfl))
 f233:=Tryz.func57.trans (congrArg some (by kernel_rfl))
 f235:=Tryz.func59.trans (congrArg some (by kernel_rfl))
 f260:=Tryz.func112.trans (congrArg some (by kernel_rfl))
 f266:=Tryz.func133.trans (congrArg some (by kernel_rfl))
 t0:=Tryz.underlying0
 a0:=Tryz.isAgg0
 z0:=Tryz.sizeOf0
 v0:=Tryz.zeroValue0
 t3:=Tryz.underlying3
 a3:=Tryz.isAgg3
 z3:=Tryz.sizeOf3
 v3:=Tryz.zeroValue3
 t4:=Tryz.underlying4
 a4:=Tryz.isAgg4
 z4:=Tryz.sizeOf4
 v4:=Tryz.zeroValue4
 t5:=Tryz.underlying5
 a5:=Tryz.isAgg5
 z5:=Tryz.sizeOf5
 v5:=Tryz.zeroValue5
 t9:=Tryz.underlying9
 a9:=Tryz.isAgg9
 z9:=Tryz.sizeOf9
 v9:=Tryz.zeroValue9
 t21:=Tryz.underlying21
 a21:=Tryz.isAgg21
 z21:=Tryz.sizeOf21
 v21:=Tryz.zeroValue21
 t46:=Tryz.underlying44
 a46:=Tryz.isAgg44
 z46:=Tryz.sizeOf44
 v46:=Tryz.zeroValue44
 t105:=Tryz.underlying114
 a105:=Tryz.isAgg114
 z105:=Tryz.sizeOf114
 v105:=Tryz.zeroValue114
 t116:=Tryz.underlying77
 a116:=Tryz.isAgg77
 z116:=Tryz.sizeOf77
 t117:=Tryz.underlying78
 a117:=Tryz.isAgg78
 z117:=Tryz.sizeOf78
 v117:=Tryz.zeroValue78
 t119:=Tryz.underlying156
 a119:=Tryz.isAgg156
 z119:=Tryz.sizeOf156
 t124:=Tryz.underlying81
 a124:=Tryz.isAgg81
 z124:=Tryz.sizeOf81
 v124:=Tryz.zeroValue81
 t138:=Tryz.underlying158
 a138:=Tryz.isAgg158
 z138:=Tryz.sizeOf158
 v138:=Tryz.zeroValue158
 t139:=Tryz.underlying159
 a139:=Tryz.isAgg159
 z139:=Tryz.sizeOf159
 v139:=Tryz.zeroValue159
 g3:=by kernel_rfl
 g4:=by kernel_rfl }
def Tryz.yU:Go.Shelf.Ren:=⟨fun | 162=>31 | 232=>55 | 227=>56 | 234=>58 | 236=>60 | 228=>72 | 271=>89 | 151=>88 | 120=>113 | 197=>87 | 152=>70 | 260=>112 | 137=>99 | 119=>100 | 224=>101 | 225=>102 | 217=>120 | 266=>133 | n=>n,fun | 9=>9 | 4=>4 | 3=>3 | 5=>5 | 117=>78 | 116=>77 | 0=>0 | 124=>81 | 21=>21 | 105=>114 | 46=>44 | 119=>156 | 139=>159 | 138=>158 | n=>n,fun | 3=>2 | 4=>3 | n=>n⟩
theorem Tryz.Ih:Go.Proofs.Lays.n162 Tryz.prog Tryz.yU:={
 mixed:=by kernel_rfl
 f119:=Tryz.func100.trans (congrArg some (by kernel_rfl))
 f120:=Tryz.func113.trans (congrArg some (by kernel_rfl))
 f137:=Tryz.func99.trans (congrArg some (by kernel_rfl))
 f151:=Tryz.func88.trans (congrArg some (by kernel_rfl))
 f152:=Tryz.func70.trans (congrArg some (by kernel_rfl))
 f162:=Tryz.func31.trans (congrArg some (by kernel_rfl))
 f197:=Tryz.func87.trans (congrArg some (by kernel_rfl))
 f217:=Tryz.func120.trans (congrArg some (by kernel_rfl))
 f224:=Tryz.func101.trans (congrArg some (by kernel_rfl))
 f225:=Tryz.func102.trans (congrArg some (by kernel_rfl))
 f227:=Tryz.func56.trans (congrArg some (by kernel_rfl))
 f228:=Tryz.func72.trans (congrArg some (by kernel_rfl))
 f232:=Tryz.func55.trans (congrArg some (by kernel_rfl))
 f234:=Tryz.func58.trans (congrArg some (by kernel_rfl))
 f236:=Tryz.func60.trans (congrArg some (by kernel_rfl))
 f260:=Tryz.func112.trans (congrArg some (by kernel_rfl))
 f266:=Tryz.func133.trans (congrArg some (by kernel_rfl))
 f271:=Tryz.func89.trans (congrArg some (by kernel_rfl))
 t0:=Tryz.underlying0
 a0:=Tryz.isAgg0
 z0:=Tryz.sizeOf0
 v0:=Tryz.zeroValue0
 t3:=Tryz.underlying3
 a3:=Tryz.isAgg3
 z3:=Tryz.sizeOf3
 v3:=Tryz.zeroValue3
 t4:=Tryz.underlying4
 a4:=Tryz.isAgg4
 z4:=Tryz.sizeOf4
 v4:=Tryz.zeroValue4
 t5:=Tryz.underlying5
 a5:=Tryz.isAgg5
 z5:=Tryz.sizeOf5
 v5:=Tryz.zeroValue5
 t9:=Tryz.underlying9
 a9:=Tryz.isAgg9
 z9:=Tryz.sizeOf9
 v9:=Tryz.zeroValue9
 t21:=Tryz.underlying21
 a21:=Tryz.isAgg21
 z21:=Tryz.sizeOf21
 v21:=Tryz.zeroValue21
 t46:=Tryz.underlying44
 a46:=Tryz.isAgg44
 z46:=Tryz.sizeOf44
 v46:=Tryz.zeroValue44
 t105:=Tryz.underlying114
 a105:=Tryz.isAgg114
 z105:=Tryz.sizeOf114
 v105:=Tryz.zeroValue114
 t116:=Tryz.underlying77
 a116:=Tryz.isAgg77
 z116:=Tryz.sizeOf77
 t117:=Tryz.underlying78
 a117:=Tryz.isAgg78
 z117:=Tryz.sizeOf78
 v117:=Tryz.zeroValue78
 t119:=Tryz.underlying156
 a119:=Tryz.isAgg156
 z119:=Tryz.sizeOf156
 t124:=Tryz.underlying81
 a124:=Tryz.isAgg81
 z124:=Tryz.sizeOf81
 v124:=Tryz.zeroValue81
 t138:=Tryz.underlying158
 a138:=Tryz.isAgg158
 z138:=Tryz.sizeOf158
 v138:=Tryz.zeroValue158
 t139:=Tryz.underlying159
 a139:=Tryz.isAgg159
 z139:=Tryz.sizeOf159
 v139:=Tryz.zeroValue159
 g3:=by kernel_rfl
 g4:=by kernel_rfl }
def Tryz.Z4:Go.Shelf.Ren:=⟨fun | 219=>103 | 217=>120 | 225=>102 | 224=>101 | 267=>121 | 266=>133 | 314=>134 | n=>n,fun | 9=>9 | 3=>3 | 4=>4 | 5=>5 | 46=>44 | 146=>136 | 51=>95 | n=>n,fun | 1=>1 | n=>n⟩
theorem Tryz.aaq:Go.Proofs.Lays.n219 Tryz.prog Tryz.Z4:={
 mixed:=by kernel_rfl
 f217:=Tryz.func120.trans (congrArg some (by kernel_rfl))
 f219:=Tryz.func103.trans (congrArg some (by kernel_rfl))
 f224:=Tryz.func101.trans (congrArg some (by kernel_rfl))
 f225:=Tryz.func102.trans (congrArg some (by kernel_rfl))
 f266:=Tryz.func133.trans (congrArg some (by kernel_rfl))
 f267:=Tryz.func121.trans (congrArg some (by kernel_rfl))
 f314:=Tryz.func134.trans (congrArg some (by kernel_rfl))
 t3:=Tryz.underlying3
 a3:=Tryz.isAgg3
 z3:=Tryz.sizeOf3
 v3:=Tryz.zeroValue3
 t4:=Tryz.underlying4
 a4:=Tryz.isAgg4
 z4:=Tryz.sizeOf4
 v4:=Tryz.zeroValue4
 t5:=Tryz.underlying5
 a5:=Tryz.isAgg5
 z5:=Tryz.sizeOf5
 v5:=Tryz.zeroValue5
 t9:=Tryz.underlying9
 a9:=Tryz.isAgg9
 z9:=Tryz.sizeOf9
 v9:=Tryz.zeroValue9
 t46:=Tryz.underlying44
 a46:=Tryz.isAgg44
 z46:=Tryz.sizeOf44
 v46:=Tryz.zeroValue44
 t51:=Tryz.underlying95
 a51:=Tryz.isAgg95
 z51:=Tryz.sizeOf95
 v51:=Tryz.zeroValue95
 t146:=Tryz.underlying136
 a146:=Tryz.isAgg136
 z146:=Tryz.sizeOf136
 v146:=Tryz.zeroValue136
 g1:=by kernel_rfl }
def Tryz.sP:Go.Shelf.Ren:=⟨fun | 105=>51 | 212=>80 | 99=>81 | 165=>82 | 166=>83 | 170=>84 | 169=>85 | 263=>107 | 264=>108 | 206=>98 | 240=>109 | 241=>110 | 276=>123 | 277=>124 | n=>n,fun | 9=>9 | 3=>3 | 4=>4 | 20=>20 | 0=>0 | 46=>44 | 109=>100 | 5=>5 | 72=>105 | 76=>109 | 51=>95 | 146=>136 | 53=>22 | 148=>138 | 70=>103 | 37=>74 | 75=>108 | 127=>140 | 164=>149 | 80=>112 | n=>n,fun | n=>n⟩
theorem Tryz.Ik:Go.Proofs.Lays.n105 Tryz.prog Tryz.sP:={
 mixed:=by kernel_rfl
 f99:=Tryz.func81.trans (congrArg some (by kernel_rfl))
 f105:=Tryz.func51.trans (congrArg some (by kernel_rfl))
 f165:=Tryz.func82.trans (congrArg some (by kernel_rfl))
 f166:=Tryz.func83.trans (congrArg some (by kernel_rfl))
 f169:=Tryz.func85.trans (congrArg some (by kernel_rfl))
 f170:=Tryz.func84.trans (congrArg some (by kernel_rfl))
 f206:=Tryz.func98.trans (congrArg some (by kernel_rfl))
 f212:=Tryz.func80.trans (congrArg some (by kernel_rfl))
 f240:=Tryz.func109.trans (congrArg some (by kernel_rfl))
 f241:=Tryz.func110.trans (congrArg some (by kernel_rfl))
 f263:=Tryz.func107.trans (congrArg some (by kernel_rfl))
 f264:=Tryz.func108.trans (congrArg some (by kernel_rfl))
 f276:=Tryz.func123.trans (congrArg some (by kernel_rfl))
 f277:=Tryz.func124.trans (congrArg some (by kernel_rfl))
 t0:=Tryz.underlying0
 a0:=Tryz.isAgg0
 z0:=Tryz.sizeOf0
 v0:=Tryz.zeroValue0
 t3:=Tryz.underlying3
 a3:=Tryz.isAgg3
 z3:=Tryz.sizeOf3
 v3:=Tryz.zeroValue3
 t4:=Tryz.underlying4
 a4:=Tryz.isAgg4
 z4:=Tryz.sizeOf4
 v4:=Tryz.zeroValue4
 t5:=Tryz.underlying5
 a5:=Tryz.isAgg5
 z5:=Tryz.sizeOf5
 v5:=Tryz.zeroValue5
 t9:=Tryz.underlying9
 a9:=Tryz.isAgg9
 z9:=Tryz.sizeOf9
 v9:=Tryz.zeroValue9
 t20:=Tryz.underlying20
 a20:=Tryz.isAgg20
 z20:=Tryz.sizeOf20
 v20:=Tryz.zeroValue20
 t37:=Tryz.underlying74
 a37:=Tryz.isAgg74
 z37:=Tryz.sizeOf74
 v37:=Tryz.zeroValue74
 t46:=Tryz.underlying44
 a46:=Tryz.isAgg44
 z46:=Tryz.sizeOf44
 v46:=Tryz.zeroValue44
 t51:=Tryz.underlying95
 a51:=Tryz.isAgg95
 z51:=Tryz.sizeOf95
 v51:=Tryz.zeroValue95
 t53:=Tryz.underlying22
 a53:=Tryz.isAgg22
 z53:=Tryz.sizeOf22
 v53:=Tryz.zeroValue22
 t70:=Tryz.underlying103
 a70:=Tryz.isAgg103
 z70:=Tryz.sizeOf103
 v70:=Tryz.zeroValue103
 t72:=Tryz.underlying105
 a72:=Tryz.isAgg105
 z72:=Tryz.sizeOf105
 v72:=Tryz.zeroValue105
 t75:=Tryz.underlying108
 a75:=Tryz.isAgg108
 z75:=Tryz.sizeOf108
 v75:=Tryz.zeroValue108
 t76:=Tryz.underlying109
 a76:=Tryz.isAgg109
 z76:=Tryz.sizeOf109
 v76:=Tryz.zeroValue109
 t109:=Tryz.underlying100
 a109:=Tryz.isAgg100
 z109:=Tryz.sizeOf100
 v109:=Tryz.zeroValue100
 t127:=Tryz.underlying140
 a127:=Tryz.isAgg140
 z127:=Tryz.sizeOf140
 v127:=Tryz.zeroValue140
 t146:=Tryz.underlying136
 a146:=Tryz.isAgg136
 z146:=Tryz.sizeOf136
 v146:=Tryz.zeroValue136
 t148:=Tryz.underlying138
 a148:=Tryz.isAgg138
 z148:=Tryz.sizeOf138
 v148:=Tryz.zeroValue138
 t164:=Tryz.underlying149
 a164:=Tryz.isAgg149
 z164:=Tryz.sizeOf149
 v164:=Tryz.zeroValue149 }
theorem Tryz.HA:Builder.Extra Tryz.prog Tryz.sP:={
 sizeBuilder:=by kernel_rfl
 liesBuilder:=by kernel_rfl
 t5:=Tryz.underlying5
 a5:=Tryz.isAgg5
 z5:=Tryz.sizeOf5
 v5:=Tryz.zeroValue5
 infoByte:=by kernel_rfl
 cellsByte:=by kernel_rfl
 sizeByte:=by kernel_rfl
 neB5:=by decide }
def Tryz.sO:Go.Shelf.Ren:=⟨fun | 156=>106 | 165=>82 | 166=>83 | 169=>85 | 240=>109 | 241=>110 | 276=>123 | 277=>124 | n=>n,fun | 31=>132 | 9=>9 | 3=>3 | 4=>4 | 0=>0 | 20=>20 | 72=>105 | 76=>109 | 70=>103 | 37=>74 | 75=>108 | 127=>140 | 164=>149 | 5=>5 | 80=>112 | n=>n,fun | n=>n⟩
theorem Tryz.B7:Go.Proofs.Lays.n156 Tryz.prog Tryz.sO:={
 mixed:=by kernel_rfl
 f156:=Tryz.func106.trans (congrArg some (by kernel_rfl))
 f165:=Tryz.func82.trans (congrArg some (by kernel_rfl))
 f166:=Tryz.func83.trans (congrArg some (by kernel_rfl))
 f169:=Tryz.func85.trans (congrArg some (by kernel_rfl))
 f240:=Tryz.func109.trans (congrArg some (by kernel_rfl))
 f241:=Tryz.func110.trans (congrArg some (by kernel_rfl))
 f276:=Tryz.func123.trans (congrArg some (by kernel_rfl))
 f277:=Tryz.func124.trans (congrArg some (by kernel_rfl))
 t0:=Tryz.underlying0
 a0:=Tryz.isAgg0
 z0:=Tryz.sizeOf0
 v0:=Tryz.zeroValue0
 t3:=Tryz.underlying3
 a3:=Tryz.isAgg3
 z3:=Tryz.sizeOf3
 v3:=Tryz.zeroValue3
 t4:=Tryz.underlying4
 a4:=Tryz.isAgg4
 z4:=Tryz.sizeOf4
 v4:=Tryz.zeroValue4
 t9:=Tryz.underlying9
 a9:=Tryz.isAgg9
 z9:=Tryz.sizeOf9
 v9:=Tryz.zeroValue9
 t20:=Tryz.underlying20
 a20:=Tryz.isAgg20
 z20:=Tryz.sizeOf20
 v20:=Tryz.zeroValue20
 t31:=Tryz.underlying132
 a31:=Tryz.isAgg132
 z31:=Tryz.sizeOf132
 v31:=Tryz.zeroValue132
 t37:=Tryz.underlying74
 a37:=Tryz.isAgg74
 z37:=Tryz.sizeOf74
 v37:=Tryz.zeroValue74
 t70:=Tryz.underlying103
 a70:=Tryz.isAgg103
 z70:=Tryz.sizeOf103
 v70:=Tryz.zeroValue103
 t72:=Tryz.underlying105
 a72:=Tryz.isAgg105
 z72:=Tryz.sizeOf105
 v72:=Tryz.zeroValue105
 t75:=Tryz.underlying108
 a75:=Tryz.isAgg108
 z75:=Tryz.sizeOf108
 v75:=Tryz.zeroValue108
 t76:=Tryz.underlying109
 a76:=Tryz.isAgg109
 z76:=Tryz.sizeOf109
 v76:=Tryz.zeroValue109
 t127:=Tryz.underlying140
 a127:=Tryz.isAgg140
 z127:=Tryz.sizeOf140
 v127:=Tryz.zeroValue140
 t164:=Tryz.underlying149
 a164:=Tryz.isAgg149
 z164:=Tryz.sizeOf149
 v164:=Tryz.zeroValue149 }
theorem Tryz.Je:Builder.Extra Tryz.prog Tryz.sO:={
 sizeBuilder:=by kernel_rfl
 liesBuilder:=by kernel_rfl
 t5:=Tryz.underlying5
 a5:=Tryz.isAgg5
 z5:=Tryz.sizeOf5
 v5:=Tryz.zeroValue5
 infoByte:=by kernel_rfl
 cellsByte:=by kernel_rfl
 sizeByte:=by kernel_rfl
 neB5:=by decide }
def Tryz.xd:Go.Shelf.Ren:=⟨fun | 171=>104 | 243=>122 | 246=>111 | 283=>125 | 284=>126 | 285=>127 | 286=>128 | 129=>97 | 317=>135 | 318=>136 | 319=>137 | 320=>138 | 337=>141 | 338=>96 | n=>n,fun | 3=>3 | 9=>9 | 2=>2 | 4=>4 | 171=>152 | 0=>0 | 53=>22 | 37=>74 | 5=>5 | 173=>154 | 212=>165 | 51=>95 | 20=>20 | 213=>166 | 46=>44 | 232=>172 | 233=>148 | n=>n,fun | 17=>4 | 18=>6 | 19=>0 | n=>n⟩
theorem Tryz.Ft:Go.Proofs.LaysM.n171 Tryz.prog Tryz.xd:={
 mixed:=by kernel_rfl
 f129:=Tryz.func97.trans (congrArg some (by kernel_rfl))
 f171:=Tryz.func104.trans (congrArg some (by kernel_rfl))
 f243:=Tryz.func122.trans (congrArg some (by kernel_rfl))
 f246:=Tryz.func111.trans (congrArg some (by kernel_rfl))
 f283:=Tryz.func125.trans (congrArg some (by kernel_rfl))
 f284:=Tryz.func126.trans (congrArg some (by kernel_rfl))
 f285:=Tryz.func127.trans (congrArg some (by kernel_rfl))
 f286:=Tryz.func128.trans (congrArg some (by kernel_rfl))
 f317:=Tryz.func135.trans (congrArg some (by kernel_rfl))
 f318:=Tryz.func136.trans (congrArg some (by kernel_rfl))
 f319:=Tryz.func137.trans (congrArg some (by kernel_rfl))
 f320:=Tryz.func138.trans (congrArg some (by kernel_rfl))
 f337:=Tryz.func141.trans (congrArg some (by kernel_rfl))
 f338:=Tryz.func96.trans (congrArg some (by kernel_rfl))
 t0:=Tryz.underlying0
 a0:=Tryz.isAgg0
 z0:=Tryz.sizeOf0
 v0:=Tryz.zeroValue0
 t2:=Tryz.underlying2
 a2:=Tryz.isAgg2
 z2:=Tryz.sizeOf2
 v2:=Tryz.zeroValue2
 t3:=Tryz.underlying3
 a3:=Tryz.isAgg3
 z3:=Tryz.sizeOf3
 v3:=Tryz.zeroValue3
 t4:=Tryz.underlying4
 a4:=Tryz.isAgg4
 z4:=Tryz.sizeOf4
 v4:=Tryz.zeroValue4
 t5:=Tryz.underlying5
 a5:=Tryz.isAgg5
 z5:=Tryz.sizeOf5
 v5:=Tryz.zeroValue5
 t9:=Tryz.underlying9
 a9:=Tryz.isAgg9
 z9:=Tryz.sizeOf9
 v9:=Tryz.zeroValue9
 t20:=Tryz.underlying20
 a20:=Tryz.isAgg20
 z20:=Tryz.sizeOf20
 v20:=Tryz.zeroValue20
 t37:=Tryz.underlying74
 a37:=Tryz.isAgg74
 z37:=Tryz.sizeOf74
 v37:=Tryz.zeroValue74
 t46:=Tryz.underlying44
 a46:=Tryz.isAgg44
 z46:=Tryz.sizeOf44
 v46:=Tryz.zeroValue44
 t51:=Tryz.underlying95
 a51:=Tryz.isAgg95
 z51:=Tryz.sizeOf95
 v51:=Tryz.zeroValue95
 t53:=Tryz.underlying22
 a53:=Tryz.isAgg22
 z53:=Tryz.sizeOf22
 v53:=Tryz.zeroValue22
 t171:=Tryz.underlying152
 a171:=Tryz.isAgg152
 z171:=Tryz.sizeOf152
 v171:=Tryz.zeroValue152
 t173:=Tryz.underlying154
 a173:=Tryz.isAgg154
 z173:=Tryz.sizeOf154
 v173:=Tryz.zeroValue154
 t212:=Tryz.underlying165
 a212:=Tryz.isAgg165
 z212:=Tryz.sizeOf165
 v212:=Tryz.zeroValue165
 t213:=Tryz.underlying166
 a213:=Tryz.isAgg166
 z213:=Tryz.sizeOf166
 t232:=Tryz.underlying172
 a232:=Tryz.isAgg172
 z232:=Tryz.sizeOf172
 v232:=Tryz.zeroValue172
 t233:=Tryz.underlying148
 a233:=Tryz.isAgg148
 z233:=Tryz.sizeOf148
 v233:=Tryz.zeroValue148
 g17:=by kernel_rfl
 g18:=by kernel_rfl
 g19:=by kernel_rfl
 i0:=by kernel_rfl
 i2:=by kernel_rfl
 i3:=by kernel_rfl
 i4:=by kernel_rfl
 i5:=by kernel_rfl
 i9:=by kernel_rfl
 i20:=by kernel_rfl
 i37:=by kernel_rfl
 i46:=by kernel_rfl
 i51:=by kernel_rfl
 i53:=by kernel_rfl
 i171:=by kernel_rfl
 i173:=by kernel_rfl
 i212:=by kernel_rfl
 i232:=by kernel_rfl
 i233:=by kernel_rfl
 m17:=by kernel_rfl
 m18:=by kernel_rfl
 m19:=by kernel_rfl }
def Tryz.xc:Go.Shelf.Ren:=⟨fun | 173=>86 | 246=>111 | 283=>125 | 284=>126 | 285=>127 | 286=>128 | 129=>97 | 317=>135 | 318=>136 | 319=>137 | 320=>138 | 337=>141 | 338=>96 | n=>n,fun | 2=>2 | 3=>3 | 9=>9 | 4=>4 | 171=>152 | 0=>0 | 53=>22 | 37=>74 | 5=>5 | 173=>154 | 212=>165 | 51=>95 | 20=>20 | 213=>166 | 46=>44 | 232=>172 | 233=>148 | n=>n,fun | 17=>4 | 18=>6 | 19=>0 | n=>n⟩
theorem Tryz.Fs:Go.Proofs.LaysM.n173 Tryz.prog Tryz.xc:={
 mixed:=by kernel_rfl
 f129:=Tryz.func97.trans (congrArg some (by kernel_rfl))
 f173:=Tryz.func86.trans (congrArg some (by kernel_rfl))
 f246:=Tryz.func111.trans (congrArg some (by kernel_rfl))
 f283:=Tryz.func125.trans (congrArg some (by kernel_rfl))
 f284:=Tryz.func126.trans (congrArg some (by kernel_rfl))
 f285:=Tryz.func127.trans (congrArg some (by kernel_rfl))
 f286:=Tryz.func128.trans (congrArg some (by kernel_rfl))
 f317:=Tryz.func135.trans (congrArg some (by kernel_rfl))
 f318:=Tryz.func136.trans (congrArg some (by kernel_rfl))
 f319:=Tryz.func137.trans (congrArg some (by kernel_rfl))
 f320:=Tryz.func138.trans (congrArg some (by kernel_rfl))
 f337:=Tryz.func141.trans (congrArg some (by kernel_rfl))
 f338:=Tryz.func96.trans (congrArg some (by kernel_rfl))
 t0:=Tryz.underlying0
 a0:=Tryz.isAgg0
 z0:=Tryz.sizeOf0
 v0:=Tryz.zeroValue0
 t2:=Tryz.underlying2
 a2:=Tryz.isAgg2
 z2:=Tryz.sizeOf2
 v2:=Tryz.zeroValue2
 t3:=Tryz.underlying3
 a3:=Tryz.isAgg3
 z3:=Tryz.sizeOf3
 v3:=Tryz.zeroValue3
 t4:=Tryz.underlying4
 a4:=Tryz.isAgg4
 z4:=Tryz.sizeOf4
 v4:=Tryz.zeroValue4
 t5:=Tryz.underlying5
 a5:=Tryz.isAgg5
 z5:=Tryz.sizeOf5
 v5:=Tryz.zeroValue5
 t9:=Tryz.underlying9
 a9:=Tryz.isAgg9
 z9:=Tryz.sizeOf9
 v9:=Tryz.zeroValue9
 t20:=Tryz.underlying20
 a20:=Tryz.isAgg20
 z20:=Tryz.sizeOf20
 v20:=Tryz.zeroValue20
 t37:=Tryz.underlying74
 a37:=Tryz.isAgg74
 z37:=Tryz.sizeOf74
 v37:=Tryz.zeroValue74
 t46:=Tryz.underlying44
 a46:=Tryz.isAgg44
 z46:=Tryz.sizeOf44
 v46:=Tryz.zeroValue44
 t51:=Tryz.underlying95
 a51:=Tryz.isAgg95
 z51:=Tryz.sizeOf95
 v51:=Tryz.zeroValue95
 t53:=Tryz.underlying22
 a53:=Tryz.isAgg22
 z53:=Tryz.sizeOf22
 v53:=Tryz.zeroValue22
 t171:=Tryz.underlying152
 a171:=Tryz.isAgg152
 z171:=Tryz.sizeOf152
 v171:=Tryz.zeroValue152
 t173:=Tryz.underlying154
 a173:=Tryz.isAgg154
 z173:=Tryz.sizeOf154
 v173:=Tryz.zeroValue154
 t212:=Tryz.underlying165
 a212:=Tryz.isAgg165
 z212:=Tryz.sizeOf165
 v212:=Tryz.zeroValue165
 t213:=Tryz.underlying166
 a213:=Tryz.isAgg166
 z213:=Tryz.sizeOf166
 t232:=Tryz.underlying172
 a232:=Tryz.isAgg172
 z232:=Tryz.sizeOf172
 v232:=Tryz.zeroValue172
 t233:=Tryz.underlying148
 a233:=Tryz.isAgg148
 z233:=Tryz.sizeOf148
 v233:=Tryz.zeroValue148
 g17:=by kernel_rfl
 g18:=by kernel_rfl
 g19:=by kernel_rfl
 i0:=by kernel_rfl
 i2:=by kernel_rfl
 i3:=by kernel_rfl
 i4:=by kernel_rfl
 i5:=by kernel_rfl
 i9:=by kernel_rfl
 i20:=by kernel_rfl
 i37:=by kernel_rfl
 i46:=by kernel_rfl
 i51:=by kernel_rfl
 i53:=by kernel_rfl
 i171:=by kernel_rfl
 i173:=by kernel_rfl
 i212:=by kernel_rfl
 i232:=by kernel_rfl
 i233:=by kernel_rfl
 m17:=by kernel_rfl
 m18:=by kernel_rfl
 m19:=by kernel_rfl }
end Go.Proofs
namespace Go.Eng
open Go.RowKit Go.Proofs
theorem pw {P:Program} {gl:Nat→AV} {f n:Nat} {c:eW} (h:∀(ti fZ:List TV) (w:World) (R:Reach) (xs:List Value),(c ti).holds fZ→eY R w (ti.map TV.av) xs→(∀n,Rep R w (gl n) (.pointer (some ⟨n,0,none⟩))) →
  fZ.length=n∧Calls P f ⟨xs⟩ w fun e w'=>∃rvs:List Value,e = .returned (if n=1 then rvs.headD undef else .tuple ⟨rvs⟩)∧Below w.heap.size w w'∧∀R w',eY R w' (fZ.map TV.av) rvs):dH P gl f (eW.fs (c,{ bO:=n })):=by
 refine ⟨fun _ w R ins outs xs hG hR xm ha=>?_,fun _ _ h=>by cases h⟩
 obtain ⟨ti,fZ,rfl,rfl,hc⟩:=hG
 obtain ⟨hl,h⟩:=h ti fZ w R xs hc ha xm
 refine h.mono ?_
 rintro e w' ⟨rvs,rfl,hb,hx⟩
 refine ⟨_,R,rfl,sA hR hb,fun b o hr=>Nat.lt_of_lt_of_le (hR b o hr) hb.size,?_⟩
 have Hy:rvs.length=n:=by
  have:=(hx R w').length
  simpa [hl] using this.symm
 refine ⟨rvs,[],[],[],0,0,[],[],Hy,rfl,by simp [hl,eW.fs],?_,fun j hj=>by simp [eW.fs] at hj,fun j hj=>by simp [eW.fs] at hj,rfl,rfl,rfl,?_,?_,?_,?_,?_,?_⟩
 ·have e:(List.mapIdx (fun i y=>if (eW.fs (c,{ bO:=n })).sg.new=some i then AV.pt else y) ((fZ.map TV.av).take (eW.fs (c,{ bO:=n })).sg.bO))=fZ.map TV.av:=by
   have e1:(fZ.map TV.av).take (eW.fs (c,{ bO:=n })).sg.bO=fZ.map TV.av:=List.take_of_length_le (by rw [aG,hl];exact Nat.le_refl _)
   rw [e1]
   show List.mapIdx (fun _ y=>y) (fZ.map TV.av)=fZ.map TV.av
   exact List.ext_getElem? fun i=>by rw [List.getElem?_mapIdx];cases (fZ.map TV.av)[i]? <;> rfl
  rw [e];exact hx R w'
 all_goals intros
 all_goals simp_all [eW.fs,j9]
theorem AD {R:Reach} {w:World} {a b:bT} {xs:List Value} (h:eY R w (([.s a,.s b]:List TV).map TV.av) xs):xs=[.string ⟨a.toArray⟩,.string ⟨b.toArray⟩]:=by
 have h:eY R w [.v (.string ⟨⟨a⟩⟩),.v (.string ⟨⟨b⟩⟩)] xs:=h
 cases h with
 | cons x y =>
  cases x
  cases y with
  | cons x y=>cases x;cases y;rfl
theorem og {R:Reach} {w:World} {a:bT}:Rep R w (TV.s a).av (.string ⟨a.toArray⟩):=by
 have:Rep R w (.v (.string ⟨⟨a⟩⟩)) (.string ⟨a.toArray⟩) := .v _
 exact this
theorem Nl {R:Reach} {w:World} {n:Int}:Rep R w (TV.i .i64 n).av (.int .i64 n):=by
 have:Rep R w (.v (.int .i64 n)) (.int .i64 n) := .v _
 exact this
theorem Nn {R:Reach} {w:World} {b:Bool}:Rep R w (TV.b b).av (.bool b):=by
 have:Rep R w (.v (.bool b)) (.bool b) := .v _
 exact this
theorem sB {c:bT} (h:c.all (fun b=>decide (b.toNat<128))=true):∀(j:Nat) b,(⟨c.toArray⟩:ByteArray).data.toList[j]?=some b→b.toNat<128:=fun j b hb=>aN (aL.1 h b (aT (by simpa using hb)))
theorem tV {s c:bT} (h:(decide (s.length≤1099511627776∧c.length≤100)&&c.all (fun b=>decide (b.toNat<128)))=true):(⟨s.toArray⟩:ByteArray).size≤9223372036854775807∧(⟨c.toArray⟩:ByteArray).size<4294967281∧c.all (fun b=>decide (b.toNat<128))=true:=by
 simp only [aa,ay] at h
 refine ⟨?_,?_,by simpa using h.2⟩
 ·show s.toArray.size≤_
  rw [List.size_toArray];omega
 ·show c.toArray.size<_
  rw [List.size_toArray];omega
theorem lT.ok:KO 29 (lT.c) lT.sg:=by
 refine pw fun ti fZ w R xs hc ha hG=>?_
 unfold lT.c at hc
 split at hc
 ·rename_i s c
  obtain ⟨hp,rfl⟩:=hc
  rw [AD ha]
  obtain ⟨p1,p2,p3⟩:=tV hp
  refine ⟨rfl,(Go.Proofs.Any.strings_Trim_laid Tryz.Ij (by kernel_rfl) _ _ w p1 p2 (sB p3)).mono ?_⟩
  rintro e w' ⟨rfl,hb⟩
  exact ⟨[_],rfl,hb,fun R w' => .cons og .nil⟩
 ·exact hc.elim
theorem gT.ok:KO 30 (gT.c) gT.sg:=by
 refine pw fun ti fZ w R xs hc ha hG=>?_
 unfold gT.c at hc
 split at hc
 ·rename_i s c
  obtain ⟨hp,rfl⟩:=hc
  rw [AD ha]
  obtain ⟨p1,p2,p3⟩:=tV hp
  refine ⟨rfl,(Go.Proofs.Any.strings_TrimLeft_laid Tryz.Ii (by kernel_rfl) _ _ w p2 (sB p3)).mono ?_⟩
  rintro e w' ⟨rfl,hb⟩
  exact ⟨[_],rfl,hb,fun R w' => .cons og .nil⟩
 ·exact hc.elim
theorem fy.ok:KO 31 (fy.c) fy.sg:=by
 refine pw fun ti fZ w R xs hc ha hG=>?_
 unfold fy.c at hc
 split at hc
 ·rename_i s c
  obtain ⟨hp,rfl⟩:=hc
  rw [AD ha]
  obtain ⟨p1,p2,p3⟩:=tV hp
  refine ⟨rfl,(Go.Proofs.Any.strings_TrimRight_laid Tryz.Ih (by kernel_rfl) _ _ w p1 p2 (sB p3)).mono ?_⟩
  rintro e w' ⟨rfl,hb⟩
  exact ⟨[_],rfl,hb,fun R w' => .cons og .nil⟩
 ·exact hc.elim
theorem ZY (s p:bT):Lib.trimPrefix s p=(if p.isPrefixOf s then s.drop p.length else s)∧Lib.hasPrefix s p=p.isPrefixOf s:=by
 unfold Lib.trimPrefix Lib.hasPrefix
 constructor
 ·split <;> simp_all
 ·rfl
theorem nB.ok:KO 37 (nB.c) nB.sg:=by
 refine pw fun ti fZ w R xs hc ha hG=>?_
 unfold nB.c at hc
 split at hc
 ·rename_i s c
  cases hc
  rw [AD ha]
  refine ⟨rfl,(Go.Proofs.Any.strings_CutPrefix Tryz.aas _ _ w).mono ?_⟩
  rintro e w' ⟨rfl,rfl⟩
  refine ⟨[_,_],rfl,Below.refl _ _,fun R w'=>?_⟩
  obtain ⟨e1,e2⟩:=ZY s c
  rw [←e1,←e2]
  exact .cons og (.cons Nn .nil)
 ·exact hc.elim
theorem ra.ok:KO 38 (ra.c) ra.sg:=by
 refine pw fun ti fZ w R xs hc ha hG=>?_
 unfold ra.c at hc
 split at hc
 ·rename_i s c
  obtain ⟨hp,rfl⟩:=hc
  rw [AD ha]
  simp only [aa,ay,List.all_append] at hp
  obtain ⟨⟨p1,p2⟩,p3,p4⟩:=hp
  refine ⟨rfl,(Go.Proofs.Any.strings_IndexAny_laid Tryz.aar (by kernel_rfl) _ _ w (by show s.toArray.size<_;rw [List.size_toArray];omega) (by show c.toArray.size<_;rw [List.size_toArray];omega) (sB p3) (sB p4)).mono ?_⟩
  rintro e w' ⟨rfl,hb⟩
  exact ⟨[_],rfl,hb,fun R w' => .cons Nl .nil⟩
 ·exact hc.elim
theorem ua.ok:KO 103 (ua.c) ua.sg:=by
 refine pw fun ti fZ w R xs hc ha hG=>?_
 unfold ua.c at hc
 split at hc
 ·rename_i s c
  obtain ⟨hp,rfl⟩:=hc
  rw [AD ha]
  obtain ⟨p1,rfl⟩:=aN hp
  refine ⟨rfl,(Go.Proofs.Any.stringslite_Index_one Tryz.aaq _ 46 w).mono ?_⟩
  rintro e w' ⟨rfl,rfl⟩
  exact ⟨[_],rfl,Below.refl _ _,fun R w' => .cons Nl .nil⟩
 ·exact hc.elim
theorem mb.ok:KO 96 (mb.c) mb.sg:=by
 refine pw fun ti fZ w R xs hc ha hG=>?_
 unfold mb.c at hc
 split at hc
 ·rename_i x
  cases hc
  have e:xs=[.int .u64 x.toNat]:=by
   have ha:eY R w [.v (.int .u64 x.toNat)] xs:=ha
   cases ha with
   | cons a b=>cases a;cases b;rfl
  rw [e]
  have h0:Rep R w (.gv ((Lib.deBruijn64tab.map Int.ofNat).map fun z=>Value.int .u8 z)) (.pointer (some ⟨0,0,none⟩)):=hG 0
  refine ⟨rfl,(Go.Proofs.Any7.bits_TrailingZeros64 Tryz.Lx x.toNat x.toNat_lt w fun _ j hj=>?_).mono ?_⟩
  ·cases h0 with
   | gv h1 h2 =>
    have:=h2 j
    rw [aW,aI,aA hj] at this
    rw [ak,aA hj]
    exact this
  ·rintro e w' ⟨rfl,rfl⟩
   exact ⟨[_],rfl,Below.refl _ _,fun R w' => .cons Nl .nil⟩
 ·exact hc.elim
end Go.Eng
namespace Go.Eng
open Go.RowKit Go.Proofs
theorem Fp (n:Nat):Lib.decDigits n=Nr.dec n:=by
 induction n using Nat.strongRecOn with
 | _ n ih =>
  rw [Lib.decDigits]
  by_cases h:n<10
  ·rw [dif_pos h,Nr.mV h]
  ·rw [dif_neg h,Nr.qY h,ih (n / 10) (by omega)]
theorem B4 (v:Int):Lib.itoa v=Nr.itoa v:=by
 rw [Nr.B9]
 unfold Lib.itoa
 by_cases h:v<0
 ·rw [aH h,aH h,Fp]
 ·rw [aD h,aD h,Fp,show v.toNat=v.natAbs by omega]
theorem KP {R:Reach} {w:World} {n:Int} {xs:List Value} (h:eY R w (([.i .i64 n]:List TV).map TV.av) xs):xs=[.int .i64 n]:=by
 have h:eY R w [.v (.int .i64 n)] xs:=h
 cases h with
 | cons a b=>cases a;cases b;rfl
theorem KN {R:Reach} {w:World} {n m:Int} {xs:List Value} (h:eY R w (([.i .i64 n,.i .i64 m]:List TV).map TV.av) xs):xs=[.int .i64 n,.int .i64 m]:=by
 have h:eY R w [.v (.int .i64 n),.v (.int .i64 m)] xs:=h
 cases h with
 | cons a b=>cases a;cases b with
  | cons a b=>cases a;cases b;rfl
theorem KM {R:Reach} {w:World} {s:bT} {m:Int} {xs:List Value} (h:eY R w (([.s s,.i .i64 m]:List TV).map TV.av) xs):xs=[.string ⟨s.toArray⟩,.int .i64 m]:=by
 have h:eY R w [.v (.string ⟨⟨s⟩⟩),.v (.int .i64 m)] xs:=h
 cases h with
 | cons a b=>cases a;cases b with
  | cons a b=>cases a;cases b;rfl
theorem BQ {w:World} {R:Reach} (hG:∀n,Rep R w ((nrGl n).av) (.pointer (some ⟨n,0,none⟩))):Lib.TabIs Tryz.prog w "internal/strconv.uint64pow10" .u64 Lib.pow10Tab:=by
 have kb:=hG 4
 have e:nrGl 4=vk .u64 (Lib.pow10Tab.headD 0 :: Lib.pow10Tab.tail):=rfl
 rw [e] at kb
 exact vG kb (by kernel_rfl)
theorem lX.ok:KO 104 (lX.c) lX.sg:=by
 refine j7 fun ti fZ w R xs hc ha hR hG=>?_
 unfold lX.c at hc
 split at hc
 ·rename_i n
  obtain ⟨hp,rfl⟩:=hc
  have hp:=aN (Nr.FG hp)
  obtain rfl:=KP ha
  refine (Any.strconv_Itoa Tryz.Ft n hp.1 hp.2 w (BQ hG)).mono ?_
  rintro e w' ⟨rfl,q,os,rfl⟩
  refine ⟨_,rfl,qg _ _ _,fun R w'=>?_⟩
  rw [B4]
  exact .cons og .nil
 ·exact hc.elim
theorem gx.ok:KO 86 (gx.c) gx.sg:=by
 refine j7 fun ti fZ w R xs hc ha hR hG=>?_
 unfold gx.c at hc
 split at hc
 ·rename_i n b
  obtain ⟨hp,rfl⟩:=hc
  rw [aa] at hp
  obtain ⟨hp,hb⟩:=hp
  have hp:=aN (Nr.FG hp)
  obtain rfl:=aN hb
  obtain rfl:=KN ha
  refine (Any.strconv_FormatInt_10 Tryz.Fs n hp.1 hp.2 w (BQ hG)).mono ?_
  rintro e w' ⟨rfl,q,os,rfl⟩
  refine ⟨_,rfl,qg _ _ _,fun R w'=>?_⟩
  rw [B4]
  exact .cons og .nil
 ·exact hc.elim
theorem qz:∀c:Nat,Lib.repeatL [48] c=Sh.fF c
 | 0=>rfl
 | c+1=>by
  rw [Lib.repeatL,qz c]
  unfold Sh.fF
  rw [aw,aw,List.replicate_succ];rfl
theorem gM.ok:KO 51 (gM.c) gM.sg:=by
 refine j7 fun ti fZ w R xs hc ha hR hG=>?_
 unfold gM.c at hc
 split at hc
 ·rename_i s n
  obtain ⟨hp,rfl⟩:=hc
  obtain ⟨rfl,h1,h2⟩:=aN hp
  obtain rfl:=KM ha
  obtain ⟨c,rfl⟩:=Int.eq_ofNat_of_zero_le h1
  refine (Any.strings_Repeat Tryz.Ik Tryz.HA ⟨#[48]⟩ c w (by omega) (by show 1 * c≤_;omega)).mono ?_
  rintro e w' ⟨rfl,hb⟩
  refine ⟨_,rfl,hb,fun R w'=>?_⟩
  have e:Lib.repeatL (⟨#[48]⟩:ByteArray).data.toList c=Sh.fF c:=qz c
  rw [e]
  exact .cons og .nil
 ·exact hc.elim
theorem ur {R:Reach} {w:World} {b:Nat}:∀{l:List bT} {off:Nat},ij R w 1 (l.map fun s=>AV.v (.string ⟨⟨s⟩⟩)) b off→∀j x,l[j]?=some x→R b (off+j)∧w.cell? ⟨b,off+j,none⟩=some (.string ⟨⟨x⟩⟩)
 | [],_,_,j,x,h=>by simp at h
 | s :: r,off,h,j,x,hx=>by
  rw [ah] at h
  cases h with
  | cons h1 h2 =>
   cases h1 with
   | one a b c d e =>
    cases e
    cases j with
    | zero=>simp at hx;subst hx;exact ⟨b,c⟩
    | succ j =>
     have:=ur h2 j x (by simpa using hx)
     rw [show off+1+j=off+(j+1) by omega] at this
     exact this
theorem C2 (xs:List ByteArray):Lib.join (xs.map (·.data.toList)) []=(xs.map (·.data.toList)).flatten:=by
 unfold Lib.join
 induction xs with
 | nil=>rfl
 | cons x r ih =>
  cases r with
  | nil=>simp [List.intercalate]
  | cons y r=>simp [List.intercalate,List.intersperse] at ih ⊢;exact ih
theorem lU.ok:KO 106 (lU.c) lU.sg:=by
 refine j7 fun ti fZ w R xs hc ha hR hG=>?_
 unfold lU.c at hc
 split at hc
 ·rename_i l s
  obtain ⟨hp,rfl⟩:=hc
  obtain ⟨rfl,h1,h2⟩:=aN hp
  have ha:eY R w [.sl 1 (l.map fun s=>AV.v (.string ⟨⟨s⟩⟩)),.v (.string ⟨⟨[]⟩⟩)] xs:=ha
  cases ha with
  | cons hs ht =>
   cases ht with
   | cons hq ht =>
    cases hq
    cases ht
    have none_:∀(a:Option Addr) (c:Nat),l=[]→Calls Tryz.prog 106 ⟨[.slice a 0 c,.string ⟨⟨[]⟩⟩]⟩ w fun e w'=>∃x,e = .returned x∧Below w.heap.size w w'∧∀R w',eY R w' (([.s l.flatten]:List TV).map TV.av) [x]:=fun a c h0=>by
     refine (Any.strings_Join_none Tryz.B7 Tryz.Je a c ⟨#[]⟩ w).mono ?_
     rintro e w' ⟨rfl,rfl⟩
     refine ⟨_,rfl,Below.refl _ _,fun R w'=>?_⟩
     rw [h0];exact .cons og .nil
    generalize qk:(l.map fun s=>AV.v (.string ⟨⟨s⟩⟩))=es at hs
    cases hs with
    | nil=>exact none_ _ _ (List.map_eq_nil_iff.1 qk)
    | em _ hc=>exact none_ _ _ (List.map_eq_nil_iff.1 qk)
    | @sl _ _ b off n cap e1 e2 e3 hE =>
     rw [←qk] at hE e1
     rw [aG] at e1
     subst e1
     by_cases h0:l=[]
     ·rw [h0];rw [h0] at none_;exact none_ _ _ rfl
     ·have qe:=ur hE
      have hb:b<w.heap.size:=by
       obtain ⟨x,hx⟩:∃x,l[0]?=some x:=⟨l[0]'(List.length_pos_iff.2 h0),aA _⟩
       exact hR _ _ (qe 0 x hx).1
      have ed:(l.map fun s=>(⟨⟨s⟩⟩:ByteArray)).map (·.data.toList)=l:=by rw [aW];exact List.map_id l
      have hj:=C2 (l.map fun s=>(⟨⟨s⟩⟩:ByteArray))
      rw [ed] at hj
      have:=Any.strings_Join Tryz.B7 Tryz.Je b off cap (l.map fun s=>(⟨⟨s⟩⟩:ByteArray)) ⟨#[]⟩ w (fun j x hx=>by
       rw [aI] at hx
       cases hl:l[j]? with
       | none=>rw [hl] at hx;cases hx
       | some y=>rw [hl] at hx;cases hx;exact (qe j y hl).2) hb (by rw [aG];omega) (by rw [aG];exact e2) (by rw [ed];show (Lib.join l []).length≤_;rw [hj];omega)
      rw [aG] at this
      refine this.mono ?_
      rintro e w' ⟨rfl,J7⟩
      refine ⟨_,rfl,J7,fun R w'=>?_⟩
      rw [ed]
      have e9:Lib.join l (⟨#[]⟩:ByteArray).data.toList=l.flatten:=hj
      rw [e9]
      exact .cons og .nil
 ·exact hc.elim
end Go.Eng
namespace Go.Eng
open Go.RowKit Go.Proofs Go.Sort
theorem vL {R:Reach} {w:World}:∀{l:List bT} {ys:List Value},dw R w (l.map fun s=>AV.v (.string ⟨⟨s⟩⟩)) ys→ys=l.map encStr
 | [],_,h=>by cases h;rfl
 | s :: r,_,h=>by
  rw [ah] at h
  cases h with
  | cons a b c=>cases b;rw [vL c];rfl
theorem vH {R:Reach} {w:World}:∀l:List bT,dw R w (l.map fun s=>AV.v (.string ⟨⟨s⟩⟩)) (l.map encStr)
 | [] => .nil
 | s :: r => .cons rfl (.v _) (vH r)
theorem wb (l:List bT):(l.map fun s=>AV.v (.string ⟨⟨s⟩⟩)).flatMap AV.cells=l.map fun s=>AV.v (.string ⟨⟨s⟩⟩):=by
 induction l with
 | nil=>rfl
 | cons s r ih=>rw [ah,List.flatMap_cons,ih];rfl
theorem gV.ok:KO 105 (gV.c) gV.sg:=by
 refine ⟨fun h=>(by cases h),fun i s iZ=>?_⟩
 have iZ:some (2000,1)=some (i,s):=iZ
 cases iZ
 refine ⟨fun h=>absurd h (by decide),fun _=>⟨fun h=>absurd h (by decide),fun _=>?_⟩⟩
 intro w R ins fs xs v es hG hR xm hx hi fI ht hp hT
 obtain ⟨ti,fZ,rfl,ho,hc⟩:=hG
 replace hc:(gV.c ti).holds fZ:=hc
 unfold gV.c at hc
 split at hc
 ·rename_i l
  obtain ⟨hl,rfl⟩:=hc
  have hl:=aN hl
  have hi:some (AV.sl 1 (l.map fun s=>AV.v (.string ⟨⟨s⟩⟩)))=some (.sl 1 es):=hi
  injection hi with hi
  injection hi with _ hi
  subst hi
  have ho:[AV.sl 1 fs]=[AV.sl 1 (l.reverse.map fun s=>AV.v (.string ⟨⟨s⟩⟩))]:=ho
  injection ho with ho _
  injection ho with _ ho
  subst ho
  have vd:xs=[v]:=by
   have hT:eY R w [.pt] xs:=hT
   cases hT with
   | cons a b=>cases b;have:some _=some v:=hx;cases this;rfl
  subst vd
  obtain ⟨JW,qN⟩:=hp
  rcases qN with e | ⟨Ke,e,qk,qN⟩
  ·cases e
  cases e
  rcases qN with ⟨e1,_⟩ | ⟨g,cap,cur,el,fz,rfl,hh,hL⟩
  ·exact (fI e1).elim
  rw [wb,Nat.mul_one,aG] at hL
  have A8:=vL hL
  rcases ht with e | ⟨g',n',sz,mA,Xj,M4,e,Ch,hfz,kZ,Pm,vu,Su⟩
  ·cases e
  rw [aG] at e
  cases e
  rw [hh] at Ch
  cases Ch
  rw [Nat.mul_one] at kZ
  have ja:∀j,j<l.length→cur[j]?=some (encStr (l.toArray[j]!)):=fun j hj=>by
   have h1:(cur.toList.take l.length)[j]?=(l.map encStr)[j]?:=by rw [A8]
   rw [List.getElem?_take_of_lt hj,aI,aA hj] at h1
   rw [←Array.getElem?_toList,h1,getElem!_pos l.toArray j (by simpa using hj)];simp
  have hH:Holds encStr w g 0 l.toArray:=fun j hj=>by
   have hj:j<l.length:=by simpa using hj
   rw [Nat.zero_add]
   refine ⟨?_,?_⟩
   ·simp only [World.cell?,hh];exact ja j hj
   ·simp only [World.frozen?,hh]
    exact Bool.eq_false_iff.2 fun e=>hfz j (by omega) (by simpa using e)
  have:=Any.slices_Reverse_string_arr Tryz.Ly g 0 cap l.toArray w hH (by rw [List.size_toArray];omega)
  rw [List.size_toArray] at this
  have eL:(l.map fun s=>AV.v (.string ⟨⟨s⟩⟩)).length=l.length:=aG _
  rw [eL]
  refine this.mono ?_
  rintro e w' ⟨rfl,n,rfl⟩
  have F1:∀b,(putRow encStr (Sort.ahead w n) g 0 l.toArray.reverse).heap[b]?=if b=g then some (.cells (putCells encStr 0 l.toArray.reverse cur) el fz) else w.heap[b]?:=fun b=>by
   show (w.heap.modify g (onCells (putCells encStr 0 l.toArray.reverse)))[b]?=_
   rw [Array.getElem?_modify]
   by_cases c:g=b
   ·subst c;rw [aH rfl,aH rfl,hh];rfl
   ·rw [aD c,aD (fun e=>c e.symm)]
  have Sd:(putCells encStr 0 l.toArray.reverse cur).size=cur.size:=Array.size_mapIdx ..
  have gR:(putCells encStr 0 l.toArray.reverse cur).toList.take l.length=l.reverse.map encStr:=by
   apply List.ext_getElem?
   intro j
   by_cases c:j<l.length
   ·rw [List.getElem?_take_of_lt c,Array.getElem?_toList]
    simp only [putCells,Array.getElem?_mapIdx]
    rw [ja j c]
    have hs:j<l.toArray.reverse.size:=by simpa using c
    simp only [Option.map_some]
    rw [aH ⟨by omega,by simpa using c⟩,Nat.sub_zero,getElem!_pos _ j hs,aI,aA (by simpa using c)]
    simp
   ·rw [List.getElem?_eq_none (by rw [aK];omega),List.getElem?_eq_none (by rw [aG,List.length_reverse];omega)]
  refine ⟨rfl,rfl,rfl,rfl,?_,?_,?_,?_⟩
  ·show (w.heap.modify g _).size=_;exact Array.size_modify ..
  ·intro b hb
   rw [F1,aD (fun e=>hb (by rw [e];rfl))]
  ·exact .inr ⟨g,l.length,cap,_,el,fz,rfl,by rw [F1,aH rfl],fun o ho=>hfz o (by omega),by rw [Sd,Nat.mul_one];exact kZ,Pm,vu,Su⟩
  ·refine ⟨JW,.inr ⟨_,rfl,fun e he=>?_,.inr ⟨g,cap,_,el,fz,by rw [aG,List.length_reverse],by rw [F1,aH rfl],?_⟩⟩⟩
   ·obtain ⟨s,_,rfl⟩:=aO.1 he;rfl
   ·rw [wb,Nat.mul_one,aG,List.length_reverse,gR]
    exact vH _
 ·exact hc.elim
end Go.Eng
namespace Go.Eng
open Go.Proofs
theorem cM.fit (x:Nat) (hp:(Fl.num x)=true):([.c (.float .f64 x)]:List TV).length=cM.d.np∧cM.d.run (cZ nrGl cM.env) [.c (.float .f64 x)]=some (([(.c (.float .f64 (Fl.iH x)))]:List TV)++cM.d.eu.map fun qq=>([.c (.float .f64 x)]:List TV).getD qq.1 .dead) :=
 ⟨by kernel_rfl,Eq.trans (b:=cM.F x) (by kernel_rfl) (Eq.trans (cM.goal x hp) (by kernel_rfl))⟩
theorem cM.ok:KO 130 (cM.c) cM.sg :=
 meets (l:=cM.env) all_nil cM.eJ (by
   intro ins outs h
   unfold cM.c at h
   split at h
   ·obtain ⟨hp,rfl⟩:=h;exact cM.fit _ hp
   ·exact h.elim)
end Go.Eng
namespace Go.Eng
open Go.RowKit Go.Proofs
set_option maxRecDepth 100000
set_option maxHeartbeats 1000000
theorem Fl.EC (a:Nat):Ieee.double.read (Fl.neg a)=(Ieee.double.read a).opposite:=by
 have e1:Fl.neg a % 2 ^ 63=a % 2 ^ 63:=by
  unfold Fl.neg
  rw [show 9223372036854775808=2 ^ 63 by decide,Nat.xor_mod_two_pow,Nat.mod_self,Nat.xor_zero]
 have e2:(Fl.neg a / 2 ^ 63 % 2 == 1)=!(a / 2 ^ 63 % 2 == 1):=by
  unfold Fl.neg
  rw [show 9223372036854775808=2 ^ 63 by decide,Nat.xor_div_two_pow,Nat.div_self (by decide)]
  have:=Nat.xor_mod_two_pow (a:=a / 2 ^ 63) (b:=1) (n:=1)
  rw [Nat.pow_one] at this
  rw [this]
  rcases Nat.mod_two_eq_zero_or_one (a / 2 ^ 63) with e | e <;> rw [e] <;> rfl
 have h:Ieee.double.signWeight=2 ^ 63:=rfl
 unfold Ieee.Format.read
 rw [h]
 simp only [e1,e2]
 split
 ·rfl
 ·split
  ·rfl
  ·split <;> rfl
theorem Fl.W.neg {a:Nat} {x:Int} (h:Fl.W a x):Fl.W (Fl.neg a) (-x):=by
 show Fl.WD (Ieee.double.read (Fl.neg a)) (-x)
 rw [Fl.EC]
 exact Fl.WD.opposite h
theorem DQ {R:Reach} {w:World} {x:Nat} (hx:Fl.num x=true) (hR:∀b o,R b o→b<w.heap.size) (hG:∀n,Rep R w ((nrGl n).av) (.pointer (some ⟨n,0,none⟩))) :
  Calls Tryz.prog 130 #[.float .f64 x] w fun e w'=>e = .returned (.float .f64 (Fl.iH x))∧Below w.heap.size w w':=by
 refine (cM.ok.1 rfl w R [.v (.float .f64 x)] [.v (.float .f64 (Fl.iH x))] [.float .f64 x] ⟨[.c (.float .f64 x)],[.c (.float .f64 (Fl.iH x))],rfl,rfl,?_⟩ hR hG (.cons (.v _) .nil)).mono ?_
 ·exact ⟨hx,rfl⟩
 ·rintro e w' ⟨y,R',rfl,hx,hr,ho⟩
  obtain ⟨rvs,tr,fZ,tn,bn,br,cn,cr,h1,h2,h3,h4,_⟩:=ho
  refine ⟨?_,hx.os,hx.tape,hx.output,hx.size,fun k hk=>hx.heap k hk id⟩
  congr 1
  have h1:rvs.length=1:=h1
  match rvs,h1 with
  | [y],_ =>
   have h4:eY R' w' [.v (.float .f64 (Fl.iH x))] [y]:=h4
   cases h4 with
   | cons a b=>cases a;exact h2
theorem TH {R:Reach} (b:Nat) (x m:Nat) (X M:Int) (w:World) (hc:w.cell? ⟨b,0,none⟩=some (.float .f64 m)) (hX:Fl.W x X) (hM:Fl.W m M) (Y5:(X.natAbs:Int)≤M) (hB:M≤9007199254740992) (hR:∀b o,R b o→b<w.heap.size) (hG:∀n,Rep R w ((nrGl n).av) (.pointer (some ⟨n,0,none⟩))) :
  Calls Tryz.prog 132 #[.float .f64 x,.pointer (some ⟨b,0,none⟩)] w fun e w'=>e = .returned (.bool true)∧Below w.heap.size w w':=by
 have hn:∀w:World,(Op.unary .neg (.float .f64 m)).run Tryz.prog w = .ok (.float .f64 (Fl.neg m)) w:=fun w=>rfl
 have h1:FloatKind.f64.format.order x (Fl.neg m)=some .gt∨FloatKind.f64.format.order x (Fl.neg m)=some .eq:=by
  have e:FloatKind.f64.format.order x (Fl.neg m)=some (compare X (-M)):=Fl.ju hX hM.neg
  rw [e]
  rcases Int.lt_or_eq_of_le (show -M≤X by omega) with c | c
  ·rw [Int.compare_eq_gt.2 c];exact .inl rfl
  ·rw [←c,Int.compare_eq_eq.2 rfl];exact .inr rfl
 have h2:FloatKind.f64.format.order x m=some .lt∨FloatKind.f64.format.order x m=some .eq:=by
  have e:FloatKind.f64.format.order x m=some (compare X M):=Fl.ju hX hM
  rw [e]
  rcases Int.lt_or_eq_of_le (show X≤M by omega) with c | c
  ·rw [Int.compare_eq_lt.2 c];exact .inl rfl
  ·rw [←c,Int.compare_eq_eq.2 rfl];exact .inr rfl
 have h3:FloatKind.f64.format.order x (Fl.iH x)=some .eq:=by
  have e:FloatKind.f64.format.order x (Fl.iH x)=some (compare X X):=Fl.ju hX (hX.iH (by omega))
  rw [e,Int.compare_eq_eq.2 rfl]
 go_enter Tryz.func132,Tryz.ntmps132
 rcases h1 with h1 | h1 <;> rcases h2 with h2 | h2
 all_goals
  go_wp2_with (go_at_call 130;refine (DQ hX.num hR hG).mono ?_;rintro e w' ⟨rfl,hb⟩)
  go_ret
  exact ⟨rfl,hb⟩
theorem zq {R:Reach} {w w':World} (hR:∀b o,R b o→b<w.heap.size) (h:Below w.heap.size w w') (hG:∀n,Rep R w ((nrGl n).av) (.pointer (some ⟨n,0,none⟩))):∀n,Rep R w' ((nrGl n).av) (.pointer (some ⟨n,0,none⟩)) :=
 fun n=>Rep.mono (sA hR h).bL (hG n)
theorem Vq {R:Reach} (z:Cx) (m:Nat) (X Y M:Int) (w:World) (hZ:Gz.Is z X Y) (hM:Fl.W m M) (hX:(X.natAbs:Int)≤M) (hY:(Y.natAbs:Int)≤M) (hB:M≤9007199254740992) (hR:∀b o,R b o→b<w.heap.size) (hG:∀n,Rep R w ((nrGl n).av) (.pointer (some ⟨n,0,none⟩))) :
  Calls Tryz.prog 119 #[.complex .f64 z.1 z.2,.float .f64 m] w fun e w'=>e = .returned (.bool true)∧Below w.heap.size w w':=by
 have YW:∀(fn:Fn) (first cap:Array Value) (w:World),(Instr.makeFunc fn first cap).run Tryz.prog w = .ok (.func fn first cap) w:=fun _ _ _ _=>rfl
 have Hz:Below w.heap.size w (w.alloc (.cells #[.float .f64 m] 146)):=(Below.refl _ _).alloc (Nat.le_refl _) _
 have xp:(w.alloc (.cells #[.float .f64 m] 146)).cell? ⟨w.heap.size,0,none⟩=some (.float .f64 m):=by
  rw [World.cell?_alloc_at _ _ _ _ rfl];rfl
 have fq:(w.alloc (.cells #[.float .f64 m] 146)).heap.size=w.heap.size+1:=Array.size_push ..
 have LR:∀(a:Array TypeId) (b:TypeId) (p q:Nat) (w:World),(Builtin.real_ a b #[.complex .f64 p q]).run Tryz.prog w = .ok (.float .f64 p) w:=fun _ _ _ _ _=>rfl
 have Y0:∀(a:Array TypeId) (b:TypeId) (p q:Nat) (w:World),(Builtin.imag_ a b #[.complex .f64 p q]).run Tryz.prog w = .ok (.float .f64 q) w:=fun _ _ _ _ _=>rfl
 have S5:∀b o,R b o→b<(w.alloc (.cells #[.float .f64 m] 146)).heap.size:=fun b o h=>by have:=hR b o h;omega
 go_enter Tryz.func119,Tryz.ntmps119
 have Ut:=zq hR Hz hG
 go_wp2_with (go_at_call 132;refine (TH (R:=R) w.heap.size z.1 m X M (w.alloc (.cells #[.float .f64 m] 146)) xp hZ.1 hM hX hB S5 Ut).mono ?eE;rintro e w2 ⟨rfl,xW⟩)
 have IK:w2.cell? ⟨w.heap.size,0,none⟩=some (.float .f64 m):=by
  simp only [World.cell?,xW.block w.heap.size (by omega)]
  exact xp
 have PV:∀b o,R b o→b<w2.heap.size:=fun b o h=>Nat.lt_of_lt_of_le (S5 b o h) xW.size
 refine (TH (R:=R) w.heap.size z.2 m Y M w2 IK hZ.2 hM hY hB PV (zq S5 xW Ut)).mono ?_
 rintro e w3 ⟨rfl,PR⟩
 go_wp2
 go_ret
 refine ⟨rfl,?_⟩
 exact ⟨PR.os.trans (xW.os.trans Hz.os),PR.tape.trans (xW.tape.trans Hz.tape),PR.output.trans (xW.output.trans Hz.output),by have:=PR.size;have:=xW.size;omega,fun k hk=>(PR.block k (by have:=xW.size;omega)).trans ((xW.block k (by omega)).trans (Hz.block k hk))⟩
theorem gz.ok:KO 119 (gz.c) gz.sg:=by
 refine j7 fun ti fZ w R xs hc ha hR hG=>?_
 unfold gz.c at hc
 split at hc
 ·rename_i p q m
  obtain ⟨hp,rfl⟩:=hc
  have e:xs=[.complex .f64 p q,.float .f64 m]:=by
   have ha:eY R w [.v (.complex .f64 p q),.v (.float .f64 m)] xs:=ha
   cases ha with
   | cons a b =>
    cases a
    cases b with
    | cons a b=>cases a;cases b;rfl
  subst e
  unfold Gz.LJ at hp
  classical
  obtain ⟨X,Y,M,h1,h2,h3,h4,h5⟩:=aN hp
  refine (Vq (p,q) m X Y M w h1 h2 h3 h4 h5 hR hG).mono ?_
  rintro e w' ⟨rfl,hb⟩
  exact ⟨_,rfl,hb,fun R w' => .cons Nn .nil⟩
 ·exact hc.elim
end Go.Eng
namespace Go.Eng
open Go.Proofs
theorem bQ.fit (x:UInt16):([.u16 x]:List TV).length=bQ.d.np∧bQ.d.run (cZ nrGl bQ.env) [.u16 x]=some (([(.i .i64 ((Nt.bits (x).toNat:Int)))]:List TV)++bQ.d.eu.map fun qq=>([.u16 x]:List TV).getD qq.1 .dead) :=
 ⟨by kernel_rfl,Eq.trans (b:=bQ.F x) (by kernel_rfl) (Eq.trans (bQ.goal x) (by kernel_rfl))⟩
theorem bQ.ok:KO 44 (bQ.c) bQ.sg :=
 meets (l:=bQ.env) all_nil bQ.eJ (by
   intro ins outs h
   unfold bQ.c at h
   split at h
   ·cases h;exact bQ.fit _
   ·exact h.elim)
theorem bits_Len64.fit (x:UInt64):([.u64 x]:List TV).length=bits_Len64.d.np∧bits_Len64.d.run (cZ nrGl bits_Len64.env) [.u64 x]=some (([(.i .i64 ((Nt.bits (x).toNat:Int)))]:List TV)++bits_Len64.d.eu.map fun qq=>([.u64 x]:List TV).getD qq.1 .dead) :=
 ⟨by kernel_rfl,Eq.trans (b:=bits_Len64.F x) (by kernel_rfl) (Eq.trans (bits_Len64.goal x) (by kernel_rfl))⟩
theorem bits_Len64.ok:KO 97 (bits_Len64.c) bits_Len64.sg :=
 meets (l:=bits_Len64.env) all_nil bits_Len64.eJ (by
   intro ins outs h
   unfold bits_Len64.c at h
   split at h
   ·cases h;exact bits_Len64.fit _
   ·exact h.elim)
theorem nr.fit (s:bT) (c:bT) (hp:(decide ((s).length≤4294967280∧c=[46]))=true):([.s s,.s c]:List TV).length=nr.d.np∧nr.d.run (cZ nrGl nr.env) [.s s,.s c]=some (([(.s (((s).takeWhile (· != 46)))),(.s ((((s).dropWhile (· != 46)).drop 1))),(.b (((s).contains 46)))]:List TV)++nr.d.eu.map fun qq=>([.s s,.s c]:List TV).getD qq.1 .dead) :=
 ⟨by kernel_rfl,Eq.trans (b:=nr.F s c) (by kernel_rfl) (Eq.trans (nr.goal s c hp) (by kernel_rfl))⟩
theorem nr.ok:KO 73 (nr.c) nr.sg :=
 meets (l:=nr.env) (all_cons ua.ok all_nil) nr.eJ (by
   intro ins outs h
   unfold nr.c at h
   split at h
   ·obtain ⟨hp,rfl⟩:=h;exact nr.fit _ _ hp
   ·exact h.elim)
theorem l8.fit (s:bT) (c:bT) (hp:(decide ((s).length≤4294967280∧c=[46]))=true):([.s s,.s c]:List TV).length=l8.d.np∧l8.d.run (cZ nrGl l8.env) [.s s,.s c]=some (([(.s (((s).takeWhile (· != 46)))),(.s ((((s).dropWhile (· != 46)).drop 1))),(.b (((s).contains 46)))]:List TV)++l8.d.eu.map fun qq=>([.s s,.s c]:List TV).getD qq.1 .dead) :=
 ⟨by kernel_rfl,Eq.trans (b:=l8.F s c) (by kernel_rfl) (Eq.trans (l8.goal s c hp) (by kernel_rfl))⟩
theorem l8.ok:KO 40 (l8.c) l8.sg :=
 meets (l:=l8.env) (all_cons nr.ok all_nil) l8.eJ (by
   intro ins outs h
   unfold l8.c at h
   split at h
   ·obtain ⟨hp,rfl⟩:=h;exact l8.fit _ _ hp
   ·exact h.elim)
theorem dq.fit (kU:Nat) (kT:Nat) (hp:(Gz.sT ((kU,kT):Cx) 33554432)=true):([.c (.complex .f64 kU kT)]:List TV).length=dq.d.np∧dq.d.run (cZ nrGl dq.env) [.c (.complex .f64 kU kT)]=some (([(.b (true))]:List TV)++dq.d.eu.map fun qq=>([.c (.complex .f64 kU kT)]:List TV).getD qq.1 .dead) :=
 ⟨by kernel_rfl,Eq.trans (b:=dq.F ((kU,kT):Cx)) (by kernel_rfl) (Eq.trans (dq.goal ((kU,kT):Cx) hp) (by kernel_rfl))⟩
theorem dq.ok:KO 116 (dq.c) dq.sg :=
 meets (l:=dq.env) (all_cons gz.ok all_nil) dq.eJ (by
   intro ins outs h
   unfold dq.c at h
   split at h
   ·obtain ⟨hp,rfl⟩:=h;exact dq.fit _ _ hp
   ·exact h.elim)
theorem fP.fit (x:Int) (y:Int) (hp:(decide (-33554432≤x∧x≤33554432∧-33554432≤y∧y≤33554432))=true):([.i .i64 x,.i .i64 y]:List TV).length=fP.d.np∧fP.d.run (cZ nrGl fP.env) [.i .i64 x,.i .i64 y]=some (([(.c (.complex .f64 (((Fl.ofInt x,Fl.ofInt y):Cx)).1 (((Fl.ofInt x,Fl.ofInt y):Cx)).2))]:List TV)++fP.d.eu.map fun qq=>([.i .i64 x,.i .i64 y]:List TV).getD qq.1 .dead) :=
 ⟨by kernel_rfl,Eq.trans (b:=fP.F x y) (by kernel_rfl) (Eq.trans (fP.goal x y hp) (by kernel_rfl))⟩
theorem fP.ok:KO 114 (fP.c) fP.sg :=
 meets (l:=fP.env) all_nil fP.eJ (by
   intro ins outs h
   unfold fP.c at h
   split at h
   ·obtain ⟨hp,rfl⟩:=h;exact fP.fit _ _ hp
   ·exact h.elim)
theorem db.fit (kU:Nat) (kT:Nat) (hp:(Gz.sT ((kU,kT):Cx) 4503599627370496)=true):([.c (.complex .f64 kU kT)]:List TV).length=db.d.np∧db.d.run (cZ nrGl db.env) [.c (.complex .f64 kU kT)]=some (([(.i .i64 (Fl.toInt (((kU,kT):Cx)).1)),(.i .i64 (Fl.toInt (((kU,kT):Cx)).2)),(.b (true))]:List TV)++db.d.eu.map fun qq=>([.c (.complex .f64 kU kT)]:List TV).getD qq.1 .dead) :=
 ⟨by kernel_rfl,Eq.trans (b:=db.F ((kU,kT):Cx)) (by kernel_rfl) (Eq.trans (db.goal ((kU,kT):Cx) hp) (by kernel_rfl))⟩
theorem db.ok:KO 94 (db.c) db.sg :=
 meets (l:=db.env) (all_cons gz.ok all_nil) db.eJ (by
   intro ins outs h
   unfold db.c at h
   split at h
   ·obtain ⟨hp,rfl⟩:=h;exact db.fit _ _ hp
   ·exact h.elim)
theorem dO.fit (kU:Nat) (kT:Nat) (k:Int) (hp:(Gz.sT ((kU,kT):Cx) 1125899906842624&&decide (-100≤k∧k≤100))=true):([.c (.complex .f64 kU kT),.i .i64 k]:List TV).length=dO.d.np∧dO.d.run (cZ nrGl dO.env) [.c (.complex .f64 kU kT),.i .i64 k]=some (([(.c (.complex .f64 (Gz.ta ((kU,kT):Cx) k).1 (Gz.ta ((kU,kT):Cx) k).2))]:List TV)++dO.d.eu.map fun qq=>([.c (.complex .f64 kU kT),.i .i64 k]:List TV).getD qq.1 .dead) :=
 ⟨by kernel_rfl,Eq.trans (b:=dO.F ((kU,kT):Cx) k) (by kernel_rfl) (Eq.trans (dO.goal ((kU,kT):Cx) k hp) (by kernel_rfl))⟩
theorem dO.ok:KO 131 (dO.c) dO.sg :=
 meets (l:=dO.env) (all_cons gz.ok all_nil) dO.eJ (by
   intro ins outs h
   unfold dO.c at h
   split at h
   ·obtain ⟨hp,rfl⟩:=h;exact dO.fit _ _ _ hp
   ·exact h.elim)
theorem dr.fit (kU:Nat) (kT:Nat) (DH:Nat) (DG:Nat) (hp:(Gz.sT ((kU,kT):Cx) 33554432&&Gz.sT ((DH,DG):Cx) 33554432)=true):([.c (.complex .f64 kU kT),.c (.complex .f64 DH DG)]:List TV).length=dr.d.np∧dr.d.run (cZ nrGl dr.env) [.c (.complex .f64 kU kT),.c (.complex .f64 DH DG)]=some (([(.c (.complex .f64 (Gz.mul ((kU,kT):Cx) ((DH,DG):Cx)).1 (Gz.mul ((kU,kT):Cx) ((DH,DG):Cx)).2))]:List TV)++dr.d.eu.map fun qq=>([.c (.complex .f64 kU kT),.c (.complex .f64 DH DG)]:List TV).getD qq.1 .dead) :=
 ⟨by kernel_rfl,Eq.trans (b:=dr.F ((kU,kT):Cx) ((DH,DG):Cx)) (by kernel_rfl) (Eq.trans (dr.goal ((kU,kT):Cx) ((DH,DG):Cx) hp) (by kernel_rfl))⟩
theorem dr.ok:KO 92 (dr.c) dr.sg :=
 meets (l:=dr.env) (all_cons dq.ok all_nil) dr.eJ (by
   intro ins outs h
   unfold dr.c at h
   split at h
   ·obtain ⟨hp,rfl⟩:=h;exact dr.fit _ _ _ _ hp
   ·exact h.elim)
theorem dJ.fit (x:Nat) (hp:(Gz.Iz x)=true):([.c (.float .f64 x)]:List TV).length=dJ.d.np∧dJ.d.run (cZ nrGl dJ.env) [.c (.float .f64 x)]=some (([(.b (true))]:List TV)++dJ.d.eu.map fun qq=>([.c (.float .f64 x)]:List TV).getD qq.1 .dead) :=
 ⟨by kernel_rfl,Eq.trans (b:=dJ.F x) (by kernel_rfl) (Eq.trans (dJ.goal x hp) (by kernel_rfl))⟩
theorem dJ.ok:KO 129 (dJ.c) dJ.sg :=
 meets (l:=dJ.env) (all_cons cM.ok all_nil) dJ.eJ (by
   intro ins outs h
   unfold dJ.c at h
   split at h
   ·obtain ⟨hp,rfl⟩:=h;exact dJ.fit _ hp
   ·exact h.elim)
theorem df.fit (dW:Nat) (dV:Nat) (dU:Nat) (dT:Nat) (dS:Nat) (dR:Nat) (dQ:Nat) (dP:Nat) (hp:(Gz.vc (Qd.mk ((dW,dV):Cx) ((dU,dT):Cx) ((dS,dR):Cx) ((dQ,dP):Cx)) 1125899906842624)=true):([.ag [.c (.complex .f64 dW dV),.c (.complex .f64 dU dT),.c (.complex .f64 dS dR),.c (.complex .f64 dQ dP)]]:List TV).length=df.d.np∧df.d.run (cZ nrGl df.env) [.ag [.c (.complex .f64 dW dV),.c (.complex .f64 dU dT),.c (.complex .f64 dS dR),.c (.complex .f64 dQ dP)]]=some (([(.b (true))]:List TV)++df.d.eu.map fun qq=>([.ag [.c (.complex .f64 dW dV),.c (.complex .f64 dU dT),.c (.complex .f64 dS dR),.c (.complex .f64 dQ dP)]]:List TV).getD qq.1 .dead) :=
 ⟨by kernel_rfl,Eq.trans (b:=df.F (Qd.mk ((dW,dV):Cx) ((dU,dT):Cx) ((dS,dR):Cx) ((dQ,dP):Cx))) (by kernel_rfl) (Eq.trans (df.goal (Qd.mk ((dW,dV):Cx) ((dU,dT):Cx) ((dS,dR):Cx) ((dQ,dP):Cx)) hp) (by kernel_rfl))⟩
theorem df.ok:KO 117 (df.c) df.sg :=
 meets (l:=df.env) (all_cons dJ.ok all_nil) df.eJ (by
   intro ins outs h
   unfold df.c at h
   split at h
   ·obtain ⟨hp,rfl⟩:=h;exact df.fit _ _ _ _ _ _ _ _ hp
   ·exact h.elim)
theorem bX.fit (dW:Nat) (dV:Nat) (dU:Nat) (dT:Nat) (dS:Nat) (dR:Nat) (dQ:Nat) (dP:Nat) (w:Int) (hp:(Gz.vc (Qd.mk ((dW,dV):Cx) ((dU,dT):Cx) ((dS,dR):Cx) ((dQ,dP):Cx)) 1125899906842624&&decide (w=1∨w=-1))=true):([.ag [.c (.complex .f64 dW dV),.c (.complex .f64 dU dT),.c (.complex .f64 dS dR),.c (.complex .f64 dQ dP)],.i .i64 w]:List TV).length=bX.d.np∧bX.d.run (cZ nrGl bX.env) [.ag [.c (.complex .f64 dW dV),.c (.complex .f64 dU dT),.c (.complex .f64 dS dR),.c (.complex .f64 dQ dP)],.i .i64 w]=some (([(.ag (Qd.cells (Gz.me (Qd.mk ((dW,dV):Cx) ((dU,dT):Cx) ((dS,dR):Cx) ((dQ,dP):Cx)) w)))]:List TV)++bX.d.eu.map fun qq=>([.ag [.c (.complex .f64 dW dV),.c (.complex .f64 dU dT),.c (.complex .f64 dS dR),.c (.complex .f64 dQ dP)],.i .i64 w]:List TV).getD qq.1 .dead) :=
 ⟨by kernel_rfl,Eq.trans (b:=bX.F (Qd.mk ((dW,dV):Cx) ((dU,dT):Cx) ((dS,dR):Cx) ((dQ,dP):Cx)) w) (by kernel_rfl) (Eq.trans (bX.goal (Qd.mk ((dW,dV):Cx) ((dU,dT):Cx) ((dS,dR):Cx) ((dQ,dP):Cx)) w hp) (by kernel_rfl))⟩
theorem bX.ok:KO 118 (bX.c) bX.sg :=
 meets (l:=bX.env) (all_cons dO.ok all_nil) bX.eJ (by
   intro ins outs h
   unfold bX.c at h
   split at h
   ·obtain ⟨hp,rfl⟩:=h;exact bX.fit _ _ _ _ _ _ _ _ _ hp
   ·exact h.elim)
theorem dK.fit (dW:Nat) (dV:Nat) (dU:Nat) (dT:Nat) (dS:Nat) (dR:Nat) (dQ:Nat) (dP:Nat) (hp:(Gz.vc (Qd.mk ((dW,dV):Cx) ((dU,dT):Cx) ((dS,dR):Cx) ((dQ,dP):Cx)) 1125899906842624)=true):([.ag [.c (.complex .f64 dW dV),.c (.complex .f64 dU dT),.c (.complex .f64 dS dR),.c (.complex .f64 dQ dP)]]:List TV).length=dK.d.np∧dK.d.run (cZ nrGl dK.env) [.ag [.c (.complex .f64 dW dV),.c (.complex .f64 dU dT),.c (.complex .f64 dS dR),.c (.complex .f64 dQ dP)]]=some (([(.ag (Qd.cells (Gz.me (Qd.mk ((dW,dV):Cx) ((dU,dT):Cx) ((dS,dR):Cx) ((dQ,dP):Cx)) 1)))]:List TV)++dK.d.eu.map fun qq=>([.ag [.c (.complex .f64 dW dV),.c (.complex .f64 dU dT),.c (.complex .f64 dS dR),.c (.complex .f64 dQ dP)]]:List TV).getD qq.1 .dead) :=
 ⟨by kernel_rfl,Eq.trans (b:=dK.F (Qd.mk ((dW,dV):Cx) ((dU,dT):Cx) ((dS,dR):Cx) ((dQ,dP):Cx))) (by kernel_rfl) (Eq.trans (dK.goal (Qd.mk ((dW,dV):Cx) ((dU,dT):Cx) ((dS,dR):Cx) ((dQ,dP):Cx)) hp) (by kernel_rfl))⟩
theorem dK.ok:KO 115 (dK.c) dK.sg :=
 meets (l:=dK.env) (all_cons df.ok (all_cons bX.ok all_nil)) dK.eJ (by
   intro ins outs h
   unfold dK.c at h
   split at h
   ·obtain ⟨hp,rfl⟩:=h;exact dK.fit _ _ _ _ _ _ _ _ hp
   ·exact h.elim)
theorem cQ.fit (dW:Nat) (dV:Nat) (dU:Nat) (dT:Nat) (dS:Nat) (dR:Nat) (dQ:Nat) (dP:Nat) (hp:(Gz.vc (Qd.mk ((dW,dV):Cx) ((dU,dT):Cx) ((dS,dR):Cx) ((dQ,dP):Cx)) 1125899906842624&&Gz.JP (Qd.mk ((dW,dV):Cx) ((dU,dT):Cx) ((dS,dR):Cx) ((dQ,dP):Cx)))=true):([.ag [.c (.complex .f64 dW dV),.c (.complex .f64 dU dT),.c (.complex .f64 dS dR),.c (.complex .f64 dQ dP)]]:List TV).length=cQ.d.np∧cQ.d.run (cZ nrGl cQ.env) [.ag [.c (.complex .f64 dW dV),.c (.complex .f64 dU dT),.c (.complex .f64 dS dR),.c (.complex .f64 dQ dP)]]=some (([(.ag (Qd.cells (Gz.back (Qd.mk ((dW,dV):Cx) ((dU,dT):Cx) ((dS,dR):Cx) ((dQ,dP):Cx))))),(.b (true))]:List TV)++cQ.d.eu.map fun qq=>([.ag [.c (.complex .f64 dW dV),.c (.complex .f64 dU dT),.c (.complex .f64 dS dR),.c (.complex .f64 dQ dP)]]:List TV).getD qq.1 .dead) :=
 ⟨by kernel_rfl,Eq.trans (b:=cQ.F (Qd.mk ((dW,dV):Cx) ((dU,dT):Cx) ((dS,dR):Cx) ((dQ,dP):Cx))) (by kernel_rfl) (Eq.trans (cQ.goal (Qd.mk ((dW,dV):Cx) ((dU,dT):Cx) ((dS,dR):Cx) ((dQ,dP):Cx)) hp) (by kernel_rfl))⟩
theorem cQ.ok:KO 93 (cQ.c) cQ.sg :=
 meets (l:=cQ.env) (all_cons db.ok (all_cons df.ok (all_cons bX.ok all_nil))) cQ.eJ (by
   intro ins outs h
   unfold cQ.c at h
   split at h
   ·obtain ⟨hp,rfl⟩:=h;exact cQ.fit _ _ _ _ _ _ _ _ hp
   ·exact h.elim)
theorem bZ.fit (l:List Int) (hp:(decide ((l).length≤256)&&Gz.gY l)=true):([.sl .is l]:List TV).length=bZ.d.np∧bZ.d.run (cZ nrGl bZ.env) [.sl .is l]=some (([(.b (true))]:List TV)++bZ.d.eu.map fun qq=>([.sl .is l]:List TV).getD qq.1 .dead) :=
 ⟨by kernel_rfl,Eq.trans (b:=bZ.F l) (by kernel_rfl) (Eq.trans (bZ.goal l hp) (by kernel_rfl))⟩
theorem bZ.ok:KO 90 (bZ.c) bZ.sg :=
 meets (l:=bZ.env) all_nil bZ.eJ (by
   intro ins outs h
   unfold bZ.c at h
   split at h
   ·obtain ⟨hp,rfl⟩:=h;exact bZ.fit _ hp
   ·exact h.elim)
theorem bP.fit (l:List Int) (hp:(decide ((l).length≤256)&&Gz.gY l)=true):([.sl .is l]:List TV).length=bP.d.np∧bP.d.run (cZ nrGl bP.env) [.sl .is l]=some (([(.sl .qd (Gz.gj l))]:List TV)++bP.d.eu.map fun qq=>([.sl .is l]:List TV).getD qq.1 .dead) :=
 ⟨by kernel_rfl,Eq.trans (b:=bP.F l) (by kernel_rfl) (Eq.trans (bP.goal l hp) (by kernel_rfl))⟩
theorem bP.ok:KO 91 (bP.c) bP.sg :=
 meets (l:=bP.env) (all_cons fP.ok (all_cons dK.ok all_nil)) bP.eJ (by
   intro ins outs h
   unfold bP.c at h
   split at h
   ·obtain ⟨hp,rfl⟩:=h;exact bP.fit _ hp
   ·exact h.elim)
theorem bK.fit (a:List Int) (b:List Int) (hp:(decide ((a).length≤256∧(b).length≤256)&&(Gz.gY a&&Gz.gY b))=true):([.sl .is a,.sl .is b]:List TV).length=bK.d.np∧bK.d.run (cZ nrGl bK.env) [.sl .is a,.sl .is b]=some (([(.sl .is (Gz.conv a b)),(.b (true))]:List TV)++bK.d.eu.map fun qq=>([.sl .is a,.sl .is b]:List TV).getD qq.1 .dead) :=
 ⟨by kernel_rfl,Eq.trans (b:=bK.F a b) (by kernel_rfl) (Eq.trans (bK.goal a b hp) (by kernel_rfl))⟩
theorem bK.ok:KO 62 (bK.c) bK.sg :=
 meets (l:=bK.env) (all_cons bZ.ok (all_cons bP.ok (all_cons dr.ok (all_cons cQ.ok (all_cons db.ok all_nil))))) bK.eJ (by
   intro ins outs h
   unfold bK.c at h
   split at h
   ·obtain ⟨hp,rfl⟩:=h;exact bK.fit _ _ hp
   ·exact h.elim)
theorem cH.fit (a:List UInt16) (hp:(decide ((a).length≤1099511627776))=true):([.sl .ws a]:List TV).length=cH.d.np∧cH.d.run (cZ nrGl cH.env) [.sl .ws a]=some (([(.sl .ws (Nt.of (Nt.val a)))]:List TV)++cH.d.eu.map fun qq=>([.sl .ws a]:List TV).getD qq.1 .dead) :=
 ⟨by kernel_rfl,Eq.trans (b:=cH.F a) (by kernel_rfl) (Eq.trans (cH.goal a hp) (by kernel_rfl))⟩
theorem cH.ok:KO 64 (cH.c) cH.sg :=
 meets (l:=cH.env) all_nil cH.eJ (by
   intro ins outs h
   unfold cH.c at h
   split at h
   ·obtain ⟨hp,rfl⟩:=h;exact cH.fit _ hp
   ·exact h.elim)
theorem dG.fit (a:List UInt16) (hp:(decide ((a).length≤1099511627776))=true):([.sl .ws a]:List TV).length=dG.d.np∧dG.d.run (cZ nrGl dG.env) [.sl .ws a]=some (([(.b (Nt.is a))]:List TV)++dG.d.eu.map fun qq=>([.sl .ws a]:List TV).getD qq.1 .dead) :=
 ⟨by kernel_rfl,Eq.trans (b:=dG.F a) (by kernel_rfl) (Eq.trans (dG.goal a hp) (by kernel_rfl))⟩
theorem dG.ok:KO 42 (dG.c) dG.sg :=
 meets (l:=dG.env) all_nil dG.eJ (by
   intro ins outs h
   unfold dG.c at h
   split at h
   ·obtain ⟨hp,rfl⟩:=h;exact dG.fit _ hp
   ·exact h.elim)
theorem dA.fit (v:UInt64):([.u64 v]:List TV).length=dA.d.np∧dA.d.run (cZ nrGl dA.env) [.u64 v]=some (([(.sl .ws (Nt.of (v).toNat))]:List TV)++dA.d.eu.map fun qq=>([.u64 v]:List TV).getD qq.1 .dead) :=
 ⟨by kernel_rfl,Eq.trans (b:=dA.F v) (by kernel_rfl) (Eq.trans (dA.goal v) (by kernel_rfl))⟩
theorem dA.ok:KO 18 (dA.c) dA.sg :=
 meets (l:=dA.env) all_nil dA.eJ (by
   intro ins outs h
   unfold dA.c at h
   split at h
   ·cases h;exact dA.fit _
   ·exact h.elim)
theorem cD.fit (a:List UInt16) (hp:(decide (Nt.is a=true∧(a).length≤4))=true):([.sl .ws a]:List TV).length=cD.d.np∧cD.d.run (cZ nrGl cD.env) [.sl .ws a]=some (([(.u64 (UInt64.ofNat (Nt.val a))),(.b (true))]:List TV)++cD.d.eu.map fun qq=>([.sl .ws a]:List TV).getD qq.1 .dead) :=
 ⟨by kernel_rfl,Eq.trans (b:=cD.F a) (by kernel_rfl) (Eq.trans (cD.goal a hp) (by kernel_rfl))⟩
theorem cD.ok:KO 95 (cD.c) cD.sg :=
 meets (l:=cD.env) (all_cons dG.ok all_nil) cD.eJ (by
   intro ins outs h
   unfold cD.c at h
   split at h
   ·obtain ⟨hp,rfl⟩:=h;exact cD.fit _ hp
   ·exact h.elim)
theorem dF.fit (a:List UInt16) (hp:(Nt.is a)=true):([.sl .ws a]:List TV).length=dF.d.np∧dF.d.run (cZ nrGl dF.env) [.sl .ws a]=some (([(.i .i64 ((Nt.bits (Nt.val a):Int)))]:List TV)++dF.d.eu.map fun qq=>([.sl .ws a]:List TV).getD qq.1 .dead) :=
 ⟨by kernel_rfl,Eq.trans (b:=dF.F a) (by kernel_rfl) (Eq.trans (dF.goal a hp) (by kernel_rfl))⟩
theorem dF.ok:KO 20 (dF.c) dF.sg :=
 meets (l:=dF.env) (all_cons dG.ok (all_cons bQ.ok all_nil)) dF.eJ (by
   intro ins outs h
   unfold dF.c at h
   split at h
   ·obtain ⟨hp,rfl⟩:=h;exact dF.fit _ hp
   ·exact h.elim)
theorem di.fit (a:List UInt16) (b:List UInt16) (hp:(decide ((a).length≤1099511627776∧(b).length≤1099511627776)&&(Nt.norm a&&Nt.norm b))=true):([.sl .ws a,.sl .ws b]:List TV).length=di.d.np∧di.d.run (cZ nrGl di.env) [.sl .ws a,.sl .ws b]=some (([(.i .i64 (Nt.cmp (Nt.val a) (Nt.val b)))]:List TV)++di.d.eu.map fun qq=>([.sl .ws a,.sl .ws b]:List TV).getD qq.1 .dead) :=
 ⟨by kernel_rfl,Eq.trans (b:=di.F a b) (by kernel_rfl) (Eq.trans (di.goal a b hp) (by kernel_rfl))⟩
theorem di.ok:KO 74 (di.c) di.sg :=
 meets (l:=di.env) all_nil di.eJ (by
   intro ins outs h
   unfold di.c at h
   split at h
   ·obtain ⟨hp,rfl⟩:=h;exact di.fit _ _ hp
   ·exact h.elim)
theorem dY.fit (a:List UInt16) (b:List UInt16) (hp:(Nt.is a&&Nt.is b)=true):([.sl .ws a,.sl .ws b]:List TV).length=dY.d.np∧dY.d.run (cZ nrGl dY.env) [.sl .ws a,.sl .ws b]=some (([(.i .i64 (Nt.cmp (Nt.val a) (Nt.val b)))]:List TV)++dY.d.eu.map fun qq=>([.sl .ws a,.sl .ws b]:List TV).getD qq.1 .dead) :=
 ⟨by kernel_rfl,Eq.trans (b:=dY.F a b) (by kernel_rfl) (Eq.trans (dY.goal a b hp) (by kernel_rfl))⟩
theorem dY.ok:KO 46 (dY.c) dY.sg :=
 meets (l:=dY.env) (all_cons dG.ok (all_cons di.ok all_nil)) dY.eJ (by
   intro ins outs h
   unfold dY.c at h
   split at h
   ·obtain ⟨hp,rfl⟩:=h;exact dY.fit _ _ hp
   ·exact h.elim)
theorem bR.fit (a:List UInt16) (hp:(decide ((a).length≤256))=true):([.sl .ws a]:List TV).length=bR.d.np∧bR.d.run (cZ nrGl bR.env) [.sl .ws a]=some (([(.sl .is ((a).map fun d=>(d.toNat:Int)))]:List TV)++bR.d.eu.map fun qq=>([.sl .ws a]:List TV).getD qq.1 .dead) :=
 ⟨by kernel_rfl,Eq.trans (b:=bR.F a) (by kernel_rfl) (Eq.trans (bR.goal a hp) (by kernel_rfl))⟩
theorem bR.ok:KO 63 (bR.c) bR.sg :=
 meets (l:=bR.env) all_nil bR.eJ (by
   intro ins outs h
   unfold bR.c at h
   split at h
   ·obtain ⟨hp,rfl⟩:=h;exact bR.fit _ hp
   ·exact h.elim)
theorem cI.fit (a:List UInt16) (b:List UInt16) (hp:(Nt.is a&&Nt.is b)=true):([.sl .ws a,.sl .ws b]:List TV).length=cI.d.np∧cI.d.run (cZ nrGl cI.env) [.sl .ws a,.sl .ws b]=some (([(.sl .ws (Nt.of (Nt.val a * Nt.val b)))]:List TV)++cI.d.eu.map fun qq=>([.sl .ws a,.sl .ws b]:List TV).getD qq.1 .dead) :=
 ⟨by kernel_rfl,Eq.trans (b:=cI.F a b) (by kernel_rfl) (Eq.trans (cI.goal a b hp) (by kernel_rfl))⟩
theorem cI.ok:KO 34 (cI.c) cI.sg :=
 meets (l:=cI.env) (all_cons dG.ok (all_cons bK.ok (all_cons bR.ok (all_cons cH.ok all_nil)))) cI.eJ (by
   intro ins outs h
   unfold cI.c at h
   split at h
   ·obtain ⟨hp,rfl⟩:=h;exact cI.fit _ _ hp
   ·exact h.elim)
theorem dh.fit (a:List UInt16) (d:UInt16) (hp:(decide ((a).length≤1000000∧d≠0))=true):([.sl .ws a,.u16 d]:List TV).length=dh.d.np∧dh.d.run (cZ nrGl dh.env) [.sl .ws a,.u16 d]=some (([(.sl .ws (Nt.of (Nt.val a / (d).toNat))),(.u16 (UInt16.ofNat (Nt.val a % (d).toNat)))]:List TV)++dh.d.eu.map fun qq=>([.sl .ws a,.u16 d]:List TV).getD qq.1 .dead) :=
 ⟨by kernel_rfl,Eq.trans (b:=dh.F a d) (by kernel_rfl) (Eq.trans (dh.goal a d hp) (by kernel_rfl))⟩
theorem dh.ok:KO 76 (dh.c) dh.sg :=
 meets (l:=dh.env) (all_cons cH.ok all_nil) dh.eJ (by
   intro ins outs h
   unfold dh.c at h
   split at h
   ·obtain ⟨hp,rfl⟩:=h;exact dh.fit _ _ hp
   ·exact h.elim)
theorem dv.fit (a:List UInt16) (n:Int) (hp:(decide ((a).length≤1000000∧0≤n∧n<16)&&Nt.norm a)=true):([.sl .ws a,.i .i64 n]:List TV).length=dv.d.np∧dv.d.run (cZ nrGl dv.env) [.sl .ws a,.i .i64 n]=some (([(.sl .ws (Nt.of (Nt.val a * 2 ^ (n).toNat)))]:List TV)++dv.d.eu.map fun qq=>([.sl .ws a,.i .i64 n]:List TV).getD qq.1 .dead) :=
 ⟨by kernel_rfl,Eq.trans (b:=dv.F a n) (by kernel_rfl) (Eq.trans (dv.goal a n hp) (by kernel_rfl))⟩
theorem dv.ok:KO 43 (dv.c) dv.sg :=
 meets (l:=dv.env) all_nil dv.eJ (by
   intro ins outs h
   unfold dv.c at h
   split at h
   ·obtain ⟨hp,rfl⟩:=h;exact dv.fit _ _ hp
   ·exact h.elim)
theorem cz.fit (a:List UInt16) (n:Int) (hp:(decide ((a).length≤1000000∧0≤n∧n<16))=true):([.sl .ws a,.i .i64 n]:List TV).length=cz.d.np∧cz.d.run (cZ nrGl cz.env) [.sl .ws a,.i .i64 n]=some (([(.sl .ws (Nt.of (Nt.val a / 2 ^ (n).toNat)))]:List TV)++cz.d.eu.map fun qq=>([.sl .ws a,.i .i64 n]:List TV).getD qq.1 .dead) :=
 ⟨by kernel_rfl,Eq.trans (b:=cz.F a n) (by kernel_rfl) (Eq.trans (cz.goal a n hp) (by kernel_rfl))⟩
theorem cz.ok:KO 78 (cz.c) cz.sg :=
 meets (l:=cz.env) (all_cons cH.ok all_nil) cz.eJ (by
   intro ins outs h
   unfold cz.c at h
   split at h
   ·obtain ⟨hp,rfl⟩:=h;exact cz.fit _ _ hp
   ·exact h.elim)
theorem bG.fit (u:List UInt16) (v:List UInt16) (hp:(decide ((u).length≤1000000∧2≤(v).length∧(v).length≤(u).length∧32768≤((v).getLast?.getD 0).toNat))=true):([.sl .ws u,.sl .ws v]:List TV).length=bG.d.np∧bG.d.run (cZ nrGl bG.env) [.sl .ws u,.sl .ws v]=some (([(.sl .ws (Nt.fix ((u).length+1 - (v).length) (Nt.val u / Nt.val v))),(.sl .ws (Nt.fix (v).length (Nt.val u % Nt.val v)))]:List TV)++bG.d.eu.map fun qq=>([.sl .ws u,.sl .ws v]:List TV).getD qq.1 .dead) :=
 ⟨by kernel_rfl,Eq.trans (b:=bG.F u v) (by kernel_rfl) (Eq.trans (bG.goal u v hp) (by kernel_rfl))⟩
theorem bG.ok:KO 77 (bG.c) bG.sg :=
 meets (l:=bG.env) all_nil bG.eJ (by
   intro ins outs h
   unfold bG.c at h
   split at h
   ·obtain ⟨hp,rfl⟩:=h;exact bG.fit _ _ hp
   ·exact h.elim)
theorem eC.fit (a:List UInt16) (b:List UInt16) (hp:(Nt.is a&&Nt.is b&&decide (b≠[]))=true):([.sl .ws a,.sl .ws b]:List TV).length=eC.d.np∧eC.d.run (cZ nrGl eC.env) [.sl .ws a,.sl .ws b]=some (([(.sl .ws (Nt.of (Nt.val a / Nt.val b))),(.sl .ws (Nt.of (Nt.val a % Nt.val b))),(.b (true))]:List TV)++eC.d.eu.map fun qq=>([.sl .ws a,.sl .ws b]:List TV).getD qq.1 .dead) :=
 ⟨by kernel_rfl,Eq.trans (b:=eC.F a b) (by kernel_rfl) (Eq.trans (eC.goal a b hp) (by kernel_rfl))⟩
theorem eC.ok:KO 47 (eC.c) eC.sg :=
 meets (l:=eC.env) (all_cons dA.ok (all_cons dG.ok (all_cons dv.ok (all_cons bQ.ok (all_cons cH.ok (all_cons di.ok (all_cons jd.ok (all_cons dh.ok (all_cons bG.ok (all_cons cz.ok all_nil)))))))))) eC.eJ (by
   intro ins outs h
   unfold eC.c at h
   split at h
   ·obtain ⟨hp,rfl⟩:=h;exact eC.fit _ _ hp
   ·exact h.elim)
theorem ft.fit (a:List UInt16) (n:Int) (hp:(decide (0≤n∧n≤4096)&&Nt.is a)=true):([.sl .ws a,.i .i64 n]:List TV).length=ft.d.np∧ft.d.run (cZ nrGl ft.env) [.sl .ws a,.i .i64 n]=some (([(.sl .ws (Nt.of (Nt.val a * 2 ^ (n).toNat)))]:List TV)++ft.d.eu.map fun qq=>([.sl .ws a,.i .i64 n]:List TV).getD qq.1 .dead) :=
 ⟨by kernel_rfl,Eq.trans (b:=ft.F a n) (by kernel_rfl) (Eq.trans (ft.goal a n hp) (by kernel_rfl))⟩
theorem ft.ok:KO 19 (ft.c) ft.sg :=
 meets (l:=ft.env) (all_cons dG.ok (all_cons dv.ok all_nil)) ft.eJ (by
   intro ins outs h
   unfold ft.c at h
   split at h
   ·obtain ⟨hp,rfl⟩:=h;exact ft.fit _ _ hp
   ·exact h.elim)
theorem cw.fit (a:List UInt16) (b:Int) (c:Int) (hp:(decide ((a).length≤1000000∧1≤b∧b≤65535∧0≤c∧c≤65535)&&Nt.norm a)=true):([.sl .ws a,.i .i64 b,.i .i64 c]:List TV).length=cw.d.np∧cw.d.run (cZ nrGl cw.env) [.sl .ws a,.i .i64 b,.i .i64 c]=some (([(.sl .ws (Nt.of (Nt.val a * (b).toNat+(c).toNat)))]:List TV)++cw.d.eu.map fun qq=>([.sl .ws a,.i .i64 b,.i .i64 c]:List TV).getD qq.1 .dead) :=
 ⟨by kernel_rfl,Eq.trans (b:=cw.F a b c) (by kernel_rfl) (Eq.trans (cw.goal a b c hp) (by kernel_rfl))⟩
theorem cw.ok:KO 61 (cw.c) cw.sg :=
 meets (l:=cw.env) all_nil cw.eJ (by
   intro ins outs h
   unfold cw.c at h
   split at h
   ·obtain ⟨hp,rfl⟩:=h;exact cw.fit _ _ _ hp
   ·exact h.elim)
theorem cA.fit (b:Int) (e:Int) (hp:(decide (2≤b∧b≤65535∧0≤e∧e≤1000∧(b).toNat ^ (e).toNat<2 ^ 4096))=true):([.i .i64 b,.i .i64 e]:List TV).length=cA.d.np∧cA.d.run (cZ nrGl cA.env) [.i .i64 b,.i .i64 e]=some (([(.sl .ws (Nt.of ((b).toNat ^ (e).toNat))),(.b (true))]:List TV)++cA.d.eu.map fun qq=>([.i .i64 b,.i .i64 e]:List TV).getD qq.1 .dead) :=
 ⟨by kernel_rfl,Eq.trans (b:=cA.F b e) (by kernel_rfl) (Eq.trans (cA.goal b e hp) (by kernel_rfl))⟩
theorem cA.ok:KO 33 (cA.c) cA.sg :=
 meets (l:=cA.env) (all_cons dA.ok (all_cons dG.ok (all_cons cw.ok all_nil))) cA.eJ (by
   intro ins outs h
   unfold cA.c at h
   split at h
   ·obtain ⟨hp,rfl⟩:=h;exact cA.fit _ _ hp
   ·exact h.elim)
theorem cE.fit (s:bT) (hp:(decide (1≤(s).length∧(s).length≤300∧(s).getD 0 0≠48)&&(s).all Nr.eo)=true):([.s s]:List TV).length=cE.d.np∧cE.d.run (cZ nrGl cE.env) [.s s]=some (([(.sl .ws (Nt.of (Nr.num s))),(.b (true))]:List TV)++cE.d.eu.map fun qq=>([.s s]:List TV).getD qq.1 .dead) :=
 ⟨by kernel_rfl,Eq.trans (b:=cE.F s) (by kernel_rfl) (Eq.trans (cE.goal s hp) (by kernel_rfl))⟩
theorem cE.ok:KO 32 (cE.c) cE.sg :=
 meets (l:=cE.env) (all_cons dG.ok (all_cons cw.ok all_nil)) cE.eJ (by
   intro ins outs h
   unfold cE.c at h
   split at h
   ·obtain ⟨hp,rfl⟩:=h;exact cE.fit _ hp
   ·exact h.elim)
theorem cW.fit (n:Bool) (m:UInt64) (e:Int) (hp:(decide (-1100≤e∧e≤2000))=true):([.b n,.u64 m,.i .i64 e]:List TV).length=cW.d.np∧cW.d.run (cZ nrGl cW.env) [.b n,.u64 m,.i .i64 e]=some (([(.u64 (Nr.pat (Nr.join n (m).toNat e))),(.b ((Nr.join n (m).toNat e).isSome))]:List TV)++cW.d.eu.map fun qq=>([.b n,.u64 m,.i .i64 e]:List TV).getD qq.1 .dead) :=
 ⟨by kernel_rfl,Eq.trans (b:=cW.F n m e) (by kernel_rfl) (Eq.trans (cW.goal n m e hp) (by kernel_rfl))⟩
theorem cW.ok:KO 66 (cW.c) cW.sg :=
 meets (l:=cW.env) (all_cons mb.ok (all_cons bits_Len64.ok all_nil)) cW.eJ (by
   intro ins outs h
   unfold cW.c at h
   split at h
   ·obtain ⟨hp,rfl⟩:=h;exact cW.fit _ _ _ hp
   ·exact h.elim)
theorem bW.fit (a:List UInt16) (b:List UInt16) (e:Int) (hp:(Nt.is a&&Nt.is b&&decide (-4096≤e∧e≤4096∧0<Nt.val b∧Nr.iR (Nt.val a) e<2 ^ 4090∧Nr.iC (Nt.val b) e<2 ^ 4090∧Nr.iR (Nt.val a) e<2 ^ 60 * Nr.iC (Nt.val b) e))=true):([.sl .ws a,.sl .ws b,.i .i64 e]:List TV).length=bW.d.np∧bW.d.run (cZ nrGl bW.env) [.sl .ws a,.sl .ws b,.i .i64 e]=some (([(.u64 (UInt64.ofNat (Nr.um (Nr.iR (Nt.val a) e) (Nr.iC (Nt.val b) e)))),(.b (Nr.lx (Nr.iR (Nt.val a) e) (Nr.iC (Nt.val b) e)))]:List TV)++bW.d.eu.map fun qq=>([.sl .ws a,.sl .ws b,.i .i64 e]:List TV).getD qq.1 .dead) :=
 ⟨by kernel_rfl,Eq.trans (b:=bW.F a b e) (by kernel_rfl) (Eq.trans (bW.goal a b e hp) (by kernel_rfl))⟩
theorem bW.ok:KO 65 (bW.c) bW.sg :=
 meets (l:=bW.env) (all_cons ft.ok (all_cons dY.ok (all_cons eC.ok (all_cons cD.ok all_nil)))) bW.eJ (by
   intro ins outs h
   unfold bW.c at h
   split at h
   ·obtain ⟨hp,rfl⟩:=h;exact bW.fit _ _ _ hp
   ·exact h.elim)
theorem cJ.fit (a:List UInt16) (b:List UInt16) (hp:(Nt.is a&&Nt.is b&&decide (0<Nt.val a∧0<Nt.val b∧Nt.val a<2 ^ 1100∧Nt.val b<2 ^ 2200))=true):([.sl .ws a,.sl .ws b]:List TV).length=cJ.d.np∧cJ.d.run (cZ nrGl cJ.env) [.sl .ws a,.sl .ws b]=some (([(.u64 (Nr.pat (Nr.gf (Nt.val a) (Nt.val b)))),(.b ((Nr.gf (Nt.val a) (Nt.val b)).isSome))]:List TV)++cJ.d.eu.map fun qq=>([.sl .ws a,.sl .ws b]:List TV).getD qq.1 .dead) :=
 ⟨by kernel_rfl,Eq.trans (b:=cJ.F a b) (by kernel_rfl) (Eq.trans (cJ.goal a b hp) (by kernel_rfl))⟩
theorem cJ.ok:KO 35 (cJ.c) cJ.sg :=
 meets (l:=cJ.env) (all_cons dF.ok (all_cons bW.ok (all_cons cW.ok all_nil))) cJ.eJ (by
   intro ins outs h
   unfold cJ.c at h
   split at h
   ·obtain ⟨hp,rfl⟩:=h;exact cJ.fit _ _ hp
   ·exact h.elim)
theorem cV.fit (d:bT) (x:Int):([.s d,.i .i64 x]:List TV).length=cV.d.np∧cV.d.run (cZ nrGl cV.env) [.s d,.i .i64 x]=some (([(.u64 (Nr.pat (Nr.read d x))),(.b ((Nr.read d x).isSome))]:List TV)++cV.d.eu.map fun qq=>([.s d,.i .i64 x]:List TV).getD qq.1 .dead) :=
 ⟨by kernel_rfl,Eq.trans (b:=cV.F d x) (by kernel_rfl) (Eq.trans (cV.goal d x) (by kernel_rfl))⟩
theorem cV.ok:KO 13 (cV.c) cV.sg :=
 meets (l:=cV.env) (all_cons dA.ok (all_cons lT.ok (all_cons gT.ok (all_cons fy.ok (all_cons cE.ok (all_cons cA.ok (all_cons cI.ok (all_cons cJ.ok all_nil)))))))) cV.eJ (by
   intro ins outs h
   unfold cV.c at h
   split at h
   ·cases h;exact cV.fit _ _
   ·exact h.elim)
theorem l6.fit (s:bT) (hp:(decide (1≤(Nr.signed s).length∧(s).length≤300)&&(Nr.signed s).all Nr.eo)=true):([.s s]:List TV).length=l6.d.np∧l6.d.run (cZ nrGl l6.env) [.s s]=some (([(.i .i64 (Nr.ZS s))]:List TV)++l6.d.eu.map fun qq=>([.s s]:List TV).getD qq.1 .dead) :=
 ⟨by kernel_rfl,Eq.trans (b:=l6.F s) (by kernel_rfl) (Eq.trans (l6.goal s hp) (by kernel_rfl))⟩
theorem l6.ok:KO 39 (l6.c) l6.sg :=
 meets (l:=l6.env) (all_cons gT.ok all_nil) l6.eJ (by
   intro ins outs h
   unfold l6.c at h
   split at h
   ·obtain ⟨hp,rfl⟩:=h;exact l6.fit _ hp
   ·exact h.elim)
theorem nA.fit (s:bT) (at_:Int) (c:UInt8) (d:UInt8) (hp:(decide ((s).length≤1099511627776)&&decide (0≤at_))=true):([.s s,.i .i64 at_,.u8 c,.u8 d]:List TV).length=nA.d.np∧nA.d.run (cZ nrGl nA.env) [.s s,.i .i64 at_,.u8 c,.u8 d]=some (([(.b ((decide (at_<(s).length)&&(decide ((s).getD (at_).toNat 0=c) || decide ((s).getD (at_).toNat 0=d)))))]:List TV)++nA.d.eu.map fun qq=>([.s s,.i .i64 at_,.u8 c,.u8 d]:List TV).getD qq.1 .dead) :=
 ⟨by kernel_rfl,Eq.trans (b:=nA.F s at_ c d) (by kernel_rfl) (Eq.trans (nA.goal s at_ c d hp) (by kernel_rfl))⟩
theorem nA.ok:KO 67 (nA.c) nA.sg :=
 meets (l:=nA.env) all_nil nA.eJ (by
   intro ins outs h
   unfold nA.c at h
   split at h
   ·obtain ⟨hp,rfl⟩:=h;exact nA.fit _ _ _ _ hp
   ·exact h.elim)
theorem k9.fit (s:bT) (at_:Int) (hp:(decide ((s).length≤1099511627776)&&decide (0≤at_∧at_≤1099511627776))=true):([.s s,.i .i64 at_]:List TV).length=k9.d.np∧k9.d.run (cZ nrGl k9.env) [.s s,.i .i64 at_]=some (([(.i .i64 ((at_+(Nr.run ((s).drop (at_).toNat):Int))))]:List TV)++k9.d.eu.map fun qq=>([.s s,.i .i64 at_]:List TV).getD qq.1 .dead) :=
 ⟨by kernel_rfl,Eq.trans (b:=k9.F s at_) (by kernel_rfl) (Eq.trans (k9.goal s at_ hp) (by kernel_rfl))⟩
theorem k9.ok:KO 68 (k9.c) k9.sg :=
 meets (l:=k9.env) all_nil k9.eJ (by
   intro ins outs h
   unfold k9.c at h
   split at h
   ·obtain ⟨hp,rfl⟩:=h;exact k9.fit _ _ hp
   ·exact h.elim)
theorem kk.fit (s:bT) (hp:(decide ((s).length≤1099511627776))=true):([.s s]:List TV).length=kk.d.np∧kk.d.run (cZ nrGl kk.env) [.s s]=some (([(.i .i64 (Nr.Lv s))]:List TV)++kk.d.eu.map fun qq=>([.s s]:List TV).getD qq.1 .dead) :=
 ⟨by kernel_rfl,Eq.trans (b:=kk.F s) (by kernel_rfl) (Eq.trans (kk.goal s hp) (by kernel_rfl))⟩
theorem kk.ok:KO 36 (kk.c) kk.sg :=
 meets (l:=kk.env) (all_cons nA.ok (all_cons k9.ok all_nil)) kk.eJ (by
   intro ins outs h
   unfold kk.c at h
   split at h
   ·obtain ⟨hp,rfl⟩:=h;exact kk.fit _ hp
   ·exact h.elim)
theorem k8.fit (s:bT) (hp:(decide ((s).length≤1099511627776))=true):([.s s]:List TV).length=k8.d.np∧k8.d.run (cZ nrGl k8.env) [.s s]=some (([(.u64 ((Nr.parse s).1)),(.i .i64 ((Nr.parse s).2))]:List TV)++k8.d.eu.map fun qq=>([.s s]:List TV).getD qq.1 .dead) :=
 ⟨by kernel_rfl,Eq.trans (b:=k8.F s) (by kernel_rfl) (Eq.trans (k8.goal s hp) (by kernel_rfl))⟩
theorem k8.ok:KO 15 (k8.c) k8.sg :=
 meets (l:=k8.env) (all_cons cV.ok (all_cons kk.ok (all_cons nB.ok (all_cons ra.ok (all_cons l6.ok (all_cons l8.ok all_nil)))))) k8.eJ (by
   intro ins outs h
   unfold k8.c at h
   split at h
   ·obtain ⟨hp,rfl⟩:=h;exact k8.fit _ hp
   ·exact h.elim)
theorem l7.fit (s:bT) (hp:(decide ((s).length≤1099511627776))=true):([.s s]:List TV).length=l7.d.np∧l7.d.run (cZ nrGl l7.env) [.s s]=some (([(.i .i64 ((Nr.run s:Int)))]:List TV)++l7.d.eu.map fun qq=>([.s s]:List TV).getD qq.1 .dead) :=
 ⟨by kernel_rfl,Eq.trans (b:=l7.F s) (by kernel_rfl) (Eq.trans (l7.goal s hp) (by kernel_rfl))⟩
theorem l7.ok:KO 41 (l7.c) l7.sg :=
 meets (l:=l7.env) all_nil l7.eJ (by
   intro ins outs h
   unfold l7.c at h
   split at h
   ·obtain ⟨hp,rfl⟩:=h;exact l7.fit _ hp
   ·exact h.elim)
theorem cd.fit (s:bT) (hp:(decide ((s).length≤1099511627776))=true):([.s s]:List TV).length=cd.d.np∧cd.d.run (cZ nrGl cd.env) [.s s]=some (([(.i .i64 (Nr.Lv s))]:List TV)++cd.d.eu.map fun qq=>([.s s]:List TV).getD qq.1 .dead) :=
 ⟨by kernel_rfl,Eq.trans (b:=cd.F s) (by kernel_rfl) (Eq.trans (cd.goal s hp) (by kernel_rfl))⟩
theorem cd.ok:KO 16 (cd.c) cd.sg :=
 meets (l:=cd.env) (all_cons l7.ok all_nil) cd.eJ (by
   intro ins outs h
   unfold cd.c at h
   split at h
   ·obtain ⟨hp,rfl⟩:=h;exact cd.fit _ hp
   ·exact h.elim)
theorem dn.fit (b:UInt64):([.u64 b]:List TV).length=dn.d.np∧dn.d.run (cZ nrGl dn.env) [.u64 b]=some (([(.i .i64 ((Nr.split b).1)),(.b ((Nr.split b).2.1)),(.u64 ((Nr.split b).2.2.1)),(.i .i64 ((Nr.split b).2.2.2))]:List TV)++dn.d.eu.map fun qq=>([.u64 b]:List TV).getD qq.1 .dead) :=
 ⟨by kernel_rfl,Eq.trans (b:=dn.F b) (by kernel_rfl) (Eq.trans (dn.goal b) (by kernel_rfl))⟩
theorem dn.ok:KO 14 (dn.c) dn.sg :=
 meets (l:=dn.env) all_nil dn.eJ (by
   intro ins outs h
   unfold dn.c at h
   split at h
   ·cases h;exact dn.fit _
   ·exact h.elim)
theorem dc.fit (b:UInt64):([.u64 b]:List TV).length=dc.d.np∧dc.d.run (cZ nrGl dc.env) [.u64 b]=some (([(.i .i64 ((Nr.split b).1)),(.b ((Nr.split b).2.1)),(.u64 ((Nr.split b).2.2.1)),(.i .i64 ((Nr.split b).2.2.2))]:List TV)++dc.d.eu.map fun qq=>([.u64 b]:List TV).getD qq.1 .dead) :=
 ⟨by kernel_rfl,Eq.trans (b:=dc.F b) (by kernel_rfl) (Eq.trans (dc.goal b) (by kernel_rfl))⟩
theorem dc.ok:KO 17 (dc.c) dc.sg :=
 meets (l:=dc.env) all_nil dc.eJ (by
   intro ins outs h
   unfold dc.c at h
   split at h
   ·cases h;exact dc.fit _
   ·exact h.elim)
theorem bY.fit (a:List UInt16) (b:List UInt16) (hp:(Nt.is a&&Nt.is b)=true):([.sl .ws a,.sl .ws b]:List TV).length=bY.d.np∧bY.d.run (cZ nrGl bY.env) [.sl .ws a,.sl .ws b]=some (([(.sl .ws (Nt.of (Nt.val a+Nt.val b)))]:List TV)++bY.d.eu.map fun qq=>([.sl .ws a,.sl .ws b]:List TV).getD qq.1 .dead) :=
 ⟨by kernel_rfl,Eq.trans (b:=bY.F a b) (by kernel_rfl) (Eq.trans (bY.goal a b hp) (by kernel_rfl))⟩
theorem bY.ok:KO 49 (bY.c) bY.sg :=
 meets (l:=bY.env) (all_cons dG.ok (all_cons jd.ok all_nil)) bY.eJ (by
   intro ins outs h
   unfold bY.c at h
   split at h
   ·obtain ⟨hp,rfl⟩:=h;exact bY.fit _ _ hp
   ·exact h.elim)
theorem cm.fit (a:List UInt16) (hp:(Nt.is a)=true):([.sl .ws a]:List TV).length=cm.d.np∧cm.d.run (cZ nrGl cm.env) [.sl .ws a]=some (([(.s (Sh.pX (Nt.val a)))]:List TV)++cm.d.eu.map fun qq=>([.sl .ws a]:List TV).getD qq.1 .dead) :=
 ⟨by kernel_rfl,Eq.trans (b:=cm.F a) (by kernel_rfl) (Eq.trans (cm.goal a hp) (by kernel_rfl))⟩
theorem cm.ok:KO 79 (cm.c) cm.sg :=
 meets (l:=cm.env) (all_cons dG.ok (all_cons gM.ok (all_cons dh.ok (all_cons lX.ok (all_cons gV.ok (all_cons lU.ok all_nil)))))) cm.eJ (by
   intro ins outs h
   unfold cm.c at h
   split at h
   ·obtain ⟨hp,rfl⟩:=h;exact cm.fit _ hp
   ·exact h.elim)
theorem dL.fit (v:Int) (hp:(Nr.i64 v)=true):([.i .i64 v]:List TV).length=dL.d.np∧dL.d.run (cZ nrGl dL.env) [.i .i64 v]=some (([(.s (Nr.itoa v))]:List TV)++dL.d.eu.map fun qq=>([.i .i64 v]:List TV).getD qq.1 .dead) :=
 ⟨by kernel_rfl,Eq.trans (b:=dL.F v) (by kernel_rfl) (Eq.trans (dL.goal v hp) (by kernel_rfl))⟩
theorem dL.ok:KO 52 (dL.c) dL.sg :=
 meets (l:=dL.env) (all_cons gx.ok all_nil) dL.eJ (by
   intro ins outs h
   unfold dL.c at h
   split at h
   ·obtain ⟨hp,rfl⟩:=h;exact dL.fit _ hp
   ·exact h.elim)
theorem dD.fit (a:List UInt16) (b:List UInt16) (k:Int) (hp:(Nt.is a&&Nt.is b&&decide (-400≤k∧k≤400∧Nt.val a<2 ^ 1100∧Nt.val b<2 ^ 1100))=true):([.sl .ws a,.sl .ws b,.i .i64 k]:List TV).length=dD.d.np∧dD.d.run (cZ nrGl dD.env) [.sl .ws a,.sl .ws b,.i .i64 k]=some (([(.sl .ws (Nt.of (Sh.tA (Nt.val a) k))),(.sl .ws (Nt.of (Sh.tB (Nt.val b) k)))]:List TV)++dD.d.eu.map fun qq=>([.sl .ws a,.sl .ws b,.i .i64 k]:List TV).getD qq.1 .dead) :=
 ⟨by kernel_rfl,Eq.trans (b:=dD.F a b k) (by kernel_rfl) (Eq.trans (dD.goal a b k hp) (by kernel_rfl))⟩
theorem dD.ok:KO 45 (dD.c) dD.sg :=
 meets (l:=dD.env) (all_cons cA.ok (all_cons cI.ok all_nil)) dD.eJ (by
   intro ins outs h
   unfold dD.c at h
   split at h
   ·obtain ⟨hp,rfl⟩:=h;exact dD.fit _ _ _ hp
   ·exact h.elim)
theorem dm.fit (a:List UInt16) (b:List UInt16) (x:Int) (hp:(Nt.is a&&Nt.is b&&decide (-400≤x∧x≤400∧Nt.val a<2 ^ 1100∧Nt.val b<2 ^ 1100))=true):([.sl .ws a,.sl .ws b,.i .i64 x]:List TV).length=dm.d.np∧dm.d.run (cZ nrGl dm.env) [.sl .ws a,.sl .ws b,.i .i64 x]=some (([(.b (decide (Sh.tB (Nt.val b) (-x)≤Sh.tA (Nt.val a) (-x))))]:List TV)++dm.d.eu.map fun qq=>([.sl .ws a,.sl .ws b,.i .i64 x]:List TV).getD qq.1 .dead) :=
 ⟨by kernel_rfl,Eq.trans (b:=dm.F a b x) (by kernel_rfl) (Eq.trans (dm.goal a b x hp) (by kernel_rfl))⟩
theorem dm.ok:KO 21 (dm.c) dm.sg :=
 meets (l:=dm.env) (all_cons dD.ok (all_cons dY.ok all_nil)) dm.eJ (by
   intro ins outs h
   unfold dm.c at h
   split at h
   ·obtain ⟨hp,rfl⟩:=h;exact dm.fit _ _ _ hp
   ·exact h.elim)
theorem dj.fit (b:UInt64) (a:List UInt16) (p:Int) (hp:(Nt.is a&&decide (-1000≤p∧p≤1000∧0<Nt.val a∧Nt.val a<10 ^ 200))=true):([.u64 b,.sl .ws a,.i .i64 p]:List TV).length=dj.d.np∧dj.d.run (cZ nrGl dj.env) [.u64 b,.sl .ws a,.i .i64 p]=some (([(.s (((Sh.iX (b).toNat (Nt.val a) p).getD ([],0)).1)),(.i .i64 (((Sh.iX (b).toNat (Nt.val a) p).getD ([],0)).2)),(.b ((Sh.iX (b).toNat (Nt.val a) p).isSome))]:List TV)++dj.d.eu.map fun qq=>([.u64 b,.sl .ws a,.i .i64 p]:List TV).getD qq.1 .dead) :=
 ⟨by kernel_rfl,Eq.trans (b:=dj.F b a p) (by kernel_rfl) (Eq.trans (dj.goal b a p hp) (by kernel_rfl))⟩
theorem dj.ok:KO 48 (dj.c) dj.sg :=
 meets (l:=dj.env) (all_cons cV.ok (all_cons fy.ok (all_cons cm.ok all_nil))) dj.eJ (by
   intro ins outs h
   unfold dj.c at h
   split at h
   ·obtain ⟨hp,rfl⟩:=h;exact dj.fit _ _ _ hp
   ·exact h.elim)
theorem dM.fit (b:UInt64) (p:List UInt16) (q:List UInt16) (x:Int) (n:Int) (hp:(Nt.is p&&Nt.is q&&Sh.ng (Nt.val p) (Nt.val q) x n)=true):([.u64 b,.sl .ws p,.sl .ws q,.i .i64 x,.i .i64 n]:List TV).length=dM.d.np∧dM.d.run (cZ nrGl dM.env) [.u64 b,.sl .ws p,.sl .ws q,.i .i64 x,.i .i64 n]=some (([(.s (((Sh.mJ (b).toNat (Nt.val p) (Nt.val q) x n).getD ([],0)).1)),(.i .i64 (((Sh.mJ (b).toNat (Nt.val p) (Nt.val q) x n).getD ([],0)).2)),(.b ((Sh.mJ (b).toNat (Nt.val p) (Nt.val q) x n).isSome))]:List TV)++dM.d.eu.map fun qq=>([.u64 b,.sl .ws p,.sl .ws q,.i .i64 x,.i .i64 n]:List TV).getD qq.1 .dead) :=
 ⟨by kernel_rfl,Eq.trans (b:=dM.F b p q x n) (by kernel_rfl) (Eq.trans (dM.goal b p q x n hp) (by kernel_rfl))⟩
theorem dM.ok:KO 22 (dM.c) dM.sg :=
 meets (l:=dM.env) (all_cons dA.ok (all_cons ft.ok (all_cons dD.ok (all_cons dY.ok (all_cons eC.ok (all_cons dj.ok (all_cons bY.ok all_nil))))))) dM.eJ (by
   intro ins outs h
   unfold dM.c at h
   split at h
   ·obtain ⟨hp,rfl⟩:=h;exact dM.fit _ _ _ _ _ hp
   ·exact h.elim)
theorem bJ.fit (b:UInt64):([.u64 b]:List TV).length=bJ.d.np∧bJ.d.run (cZ nrGl bJ.env) [.u64 b]=some (([(.s ((Sh.dg b).1)),(.i .i64 ((Sh.dg b).2.1)),(.b ((Sh.dg b).2.2))]:List TV)++bJ.d.eu.map fun qq=>([.u64 b]:List TV).getD qq.1 .dead) :=
 ⟨by kernel_rfl,Eq.trans (b:=bJ.F b) (by kernel_rfl) (Eq.trans (bJ.goal b) (by kernel_rfl))⟩
theorem bJ.ok:KO 9 (bJ.c) bJ.sg :=
 meets (l:=bJ.env) (all_cons dc.ok (all_cons dA.ok (all_cons ft.ok (all_cons dF.ok (all_cons dm.ok (all_cons dM.ok all_nil)))))) bJ.eJ (by
   intro ins outs h
   unfold bJ.c at h
   split at h
   ·cases h;exact bJ.fit _
   ·exact h.elim)
theorem cU.fit (d:bT) (x:Int) (hp:(decide (1≤(d).length∧(d).length≤17∧-900≤x∧x≤900))=true):([.s d,.i .i64 x]:List TV).length=cU.d.np∧cU.d.run (cZ nrGl cU.env) [.s d,.i .i64 x]=some (([(.s (Sh.yY d x))]:List TV)++cU.d.eu.map fun qq=>([.s d,.i .i64 x]:List TV).getD qq.1 .dead) :=
 ⟨by kernel_rfl,Eq.trans (b:=cU.F d x) (by kernel_rfl) (Eq.trans (cU.goal d x hp) (by kernel_rfl))⟩
theorem cU.ok:KO 27 (cU.c) cU.sg :=
 meets (l:=cU.env) (all_cons gM.ok (all_cons dL.ok all_nil)) cU.eJ (by
   intro ins outs h
   unfold cU.c at h
   split at h
   ·obtain ⟨hp,rfl⟩:=h;exact cU.fit _ _ hp
   ·exact h.elim)
theorem cR.fit (b:UInt64):([.u64 b]:List TV).length=cR.d.np∧cR.d.run (cZ nrGl cR.env) [.u64 b]=some (([(.s (Sh.text b))]:List TV)++cR.d.eu.map fun qq=>([.u64 b]:List TV).getD qq.1 .dead) :=
 ⟨by kernel_rfl,Eq.trans (b:=cR.F b) (by kernel_rfl) (Eq.trans (cR.goal b) (by kernel_rfl))⟩
theorem cR.ok:KO 11 (cR.c) cR.sg :=
 meets (l:=cR.env) (all_cons bJ.ok (all_cons dc.ok (all_cons cU.ok all_nil))) cR.eJ (by
   intro ins outs h
   unfold cR.c at h
   split at h
   ·cases h;exact cR.fit _
   ·exact h.elim)
end Go.Eng
namespace Go.Eng
open Go.Proofs
noncomputable section
def iJ.sg:c7:={ bO:=3 }
def iJ.c:eW:=fun l=>match l with
 | [.u64 b] => .eM (decide (b=4591870180066957722)) [(.s (([49]:bT))),(.i .i64 ((0:Int))),(.b (true))]
 | _ => .err
def kC.sg:c7:={}
def kC.c:eW:=fun l=>match l with
 | [.u64 b] => .eM (decide (b=4591870180066957722∨b=9223372036854775808)) [(.s ((if b=4591870180066957722 then [48,46,49] else [45,48]:bT)))]
 | _ => .err
def dk.sg:c7:={}
def dk.c:eW:=fun l=>match l with
 | [] => .ok [(.b (true))]
 | _ => .err
def dk.env:EV:=[(9,(iJ.c,iJ.sg)),(11,(kC.c,kC.sg))]
def dk.E:eD:=cZ nrGl dk.env
def dk.m:TM:=oS [oW (.b false) 0] (oS [oX (.k (.call 9 (.plain 1 3))) [.c (.u64 4591870180066957722)] [5],oV 5 4,oE 0 4 6,oE 1 4 7,oE 2 4 8,oV 6 1,oV 7 2,oV 8 3] (oS [oV 1 9,oI .eql 9 (.s ([49]:bT)) 10,oV 10 11,oG 11 true (oV 2 12),oG 11 true (oI .eql 12 (.i .i64 0) 13),oP 11 13 false 14,oV 14 15,oG 15 true (oV 3 16),oP 15 16 false 17,oV 17 18,oG 18 true (oX (.k (.call 11 (.plain 1 1))) [.c (.u64 4591870180066957722)] [19]),oG 18 true (oI .eql 19 (.s ([48,46,49]:bT)) 20),oP 18 20 false 21,oV 21 22,oG 22 true (oX (.k (.call 11 (.plain 1 1))) [.c (.u64 9223372036854775808)] [23]),oG 22 true (oI .eql 23 (.s ([45,48]:bT)) 24),oP 22 24 false 25,oV 25 0] .ret))
def dk.d:gS:=D0 0 dk.m [.t 0]
def dk.F  : OT:=dk.d.run dk.E []
theorem dk.dZ  {ρ:OT} (K:∀(v1:Bool) (h1:v1=(cond (decide ((([49]:bT))=([49]:bT))) (decide (((0:Int))=(0:Int))) false)) (v2:bT) (h2:v2=((if ((4591870180066957722:UInt64))=4591870180066957722 then [48,46,49] else [45,48]:bT))) (v3:Bool) (h3:v3=(cond (cond v1 (true) false) (decide (v2=([48,46,49]:bT))) false)) (v4:bT) (h4:v4=((if ((9223372036854775808:UInt64))=4591870180066957722 then [48,46,49] else [45,48]:bT))) (v5:Bool) (h5:v5=(cond v3 (decide (v4=([45,48]:bT))) false)),ck (decide (((4591870180066957722:UInt64))=4591870180066957722)) (ck (!(decide ((([49]:bT))=([49]:bT))) || (decide ((([49]:bT))=([49]:bT)))) (ck (!(decide ((([49]:bT))=([49]:bT))) || (decide ((([49]:bT))=([49]:bT)))) (ck (!v1 || v1) (ck (!(cond v1 (true) false) || (decide (((4591870180066957722:UInt64))=4591870180066957722∨((4591870180066957722:UInt64))=9223372036854775808))) (ck (!(cond v1 (true) false) || (cond v1 (true) false)) (ck (!(cond v1 (true) false) || (cond v1 (true) false)) (ck (!v3 || (decide (((9223372036854775808:UInt64))=4591870180066957722∨((9223372036854775808:UInt64))=9223372036854775808))) (ck (!v3 || v3) (ck (!v3 || v3) (some [(.b v5)]))))))))))=ρ):dk.F  = ρ:=Eq.trans (by kernel_rfl) (K _ rfl _ rfl _ rfl _ rfl _ rfl)
theorem dk.eJ:CK 8 dk.env dk.d:=fE (by kernel_rfl)
end
end Go.Eng
namespace Go.Eng
open Go.Proofs
theorem gl_two {P:Program} {w:World} {n1 n2:String} {k1 k2:IntKind} {z1 z2:List Int} {g1 g2:Nat} (h1:Lib.TabIs P w n1 k1 z1) (hg1:P.globalNamed n1=some g1) (h2:Lib.TabIs P w n2 k2 z2) (hg2:P.globalNamed n2=some g2):∀n,Rep (Old w) w ((Mi [(g1,vk k1 z1),(g2,vk k2 z2)] n).av) (.pointer (some ⟨n,0,none⟩)):=by
 intro n
 unfold Mi
 cases hb:Nat.beq n g1 with
 | true=>rw [au hb];exact vY h1 hg1
 | false =>
  show Rep (Old w) w ((Mi [(g2,vk k2 z2)] n).av) _
  exact Mh h2 hg2 n
namespace Sh
theorem sF:Nr.iD 4591870180066957722=7205759403792794∧Nr.sh 4591870180066957722=1018:=by decide +kernel
theorem qt:gI 4591870180066957722=7205759403792794∧ff 4591870180066957722=72057594037927936:=by
 unfold gI ff;rw [sF.1,sF.2];decide +kernel
theorem D5:dx 4591870180066957722=0:=by
 have h1:=pG (p:=4591870180066957722) (by decide) (-1)
 have h2:=pG (p:=4591870180066957722) (by decide) 0
 rw [qt.1,qt.2] at h1 h2
 have g1:=h1.1 (by decide +kernel)
 have g2:¬(0:Int)<dx 4591870180066957722:=fun c=>absurd (h2.2 c) (by decide +kernel)
 omega
theorem D4:Nr.rd 1 (-1)=some 4591870180066957722:=by
 unfold Nr.rd
 refine Nr.lh (by decide) (by decide) ?_ (.inr ?_)
 ·unfold Nr.fC;decide +kernel
 ·unfold Nr.fC;decide +kernel
theorem IZ:Nr.dec 1=[49]:=(Nr.lI 1 [49] (by decide) (by decide) (by decide) (by decide)).symm
theorem At:some_ 4591870180066957722 (gI 4591870180066957722) (ff 4591870180066957722) (dx 4591870180066957722) 1=some ([49],0):=by
 rw [qt.1,qt.2,D5]
 have hP:tA 7205759403792794 (1 - 0) / tB 72057594037927936 (1 - 0)=1:=by decide +kernel
 have hR:2 * (tA 7205759403792794 (1 - 0) % tB 72057594037927936 (1 - 0))<tB 72057594037927936 (1 - 0):=by decide +kernel
 have hr:reads 4591870180066957722 1 (0 - 1)=some ([49],0):=by
  rw [show ((0:Int) - 1)=-1 by decide,iL D4,IZ];rfl
 unfold some_
 simp only
 rw [hP,hr,aH ⟨rfl,.inr (.inl hR)⟩]
theorem wG:digits 4591870180066957722=([49],0):=go_hit At
theorem kA:(Nr.split 4591870180066957722).1=2∧(Nr.split 4591870180066957722).2.1=false:=by decide +kernel
theorem Cy:iE 4591870180066957722=4591870180066957722:=by decide +kernel
theorem nZ:(dg 4591870180066957722).1=[49]∧(dg 4591870180066957722).2.1=0∧(dg 4591870180066957722).2.2=true:=by
 obtain ⟨z1,z2,z3⟩:=xG kA.1
 rw [Cy,wG] at z1 z2
 exact ⟨z1,z2,z3⟩
theorem As:text 4591870180066957722=[48,46,49]:=by
 rw [wF];unfold vE
 rw [aD (by rw [kA.1];decide),aD (by rw [kA.1];decide),aD (by rw [kA.1];decide),nZ.1,nZ.2.1]
 unfold sign
 rw [aD (by rw [kA.2];decide)]
 rfl
theorem kX:(Nr.split 9223372036854775808).1=1∧(Nr.split 9223372036854775808).2.1=true:=by decide +kernel
theorem yK:text 9223372036854775808=[45,48]:=by
 rw [wF];unfold vE
 rw [aD (by rw [kX.1];decide),aD (by rw [kX.1];decide),aH kX.1]
 unfold sign
 rw [aH kX.2]
 rfl
end Sh
theorem iJ.ok:KO 9 (iJ.c) iJ.sg :=
 yn fun ti fZ h=>⟨bJ.c,bJ.ok,by
  unfold iJ.c at h
  split at h
  ·obtain ⟨h1,h2⟩:=h
   obtain rfl:=aN h1
   subst h2
   unfold bJ.c
   show _=_
   rw [Sh.nZ.1,Sh.nZ.2.1,Sh.nZ.2.2]
  ·exact h.elim⟩
theorem kC.ok:KO 11 (kC.c) kC.sg :=
 yn fun ti fZ h=>⟨cR.c,cR.ok,by
  unfold kC.c at h
  split at h
  ·obtain ⟨h1,h2⟩:=h
   subst h2
   unfold cR.c
   show _=_
   rcases aN h1 with rfl | rfl
   ·rw [Sh.As];rfl
   ·rw [Sh.yK];rfl
  ·exact h.elim⟩
theorem dk.goal:dk.F=some [.b true]:=by
 refine dk.dZ ?_
 intro v1 h1 v2 h2 v3 h3 v4 h4 v5 h5
 subst h1 h2 h3 h4
 rw [h5];rfl
end Go.Eng
namespace Go.Eng
open Go.Proofs
theorem dk.fit:([]:List TV).length=dk.d.np∧dk.d.run (cZ nrGl dk.env) []=some (([(.b (true))]:List TV)++dk.d.eu.map fun qq=>([]:List TV).getD qq.1 .dead) :=
 ⟨by kernel_rfl,Eq.trans (b:=dk.F ) (by kernel_rfl) (Eq.trans (dk.goal ) (by kernel_rfl))⟩
theorem dk.ok:KO 8 (dk.c) dk.sg :=
 meets (l:=dk.env) (all_cons iJ.ok (all_cons kC.ok all_nil)) dk.eJ (by
   intro ins outs h
   unfold dk.c at h
   split at h
   ·cases h;exact dk.fit
   ·exact h.elim)
end Go.Eng
namespace Go.Eng
open Nr (iD sh top)
namespace Sh
def aaa (m:Nat):Int:=if m / 4503599627370496=2047 then (if m % 4503599627370496=0 then 3 else 4) else if m / 4503599627370496=0 then (if m % 4503599627370496=0 then 1 else 2) else 2
theorem Z9 (b:UInt64):(Nr.split b).1=aaa (iE b)∧(Nr.split b).2.1=decide (9223372036854775808≤b.toNat):=by
 have hb:=b.toNat_lt
 have hx:b.toNat / 4503599627370496 % 2048=iE b / 4503599627370496:=by unfold iE;omega
 have hf:b.toNat % 4503599627370496=iE b % 4503599627370496:=by unfold iE;omega
 unfold Nr.split aaa
 simp only [hx,hf]
 generalize iE b=p
 by_cases c1:p / 4503599627370496=2047
 ·rw [aH c1,aH c1]
  by_cases c2:p % 4503599627370496=0
  ·rw [aH c2,aH c2];exact ⟨rfl,rfl⟩
  ·rw [aD c2,aD c2];exact ⟨rfl,rfl⟩
 ·rw [aD c1,aD c1]
  by_cases c2:p / 4503599627370496=0
  ·rw [aH c2,aH c2]
   by_cases c3:p % 4503599627370496=0
   ·rw [aH c3,aH c3];exact ⟨rfl,rfl⟩
   ·rw [aD c3,aD c3];exact ⟨rfl,rfl⟩
  ·rw [aD c2,aD c2];exact ⟨rfl,rfl⟩
noncomputable def tb (b:UInt64):bT:=if (Nr.split b).1=3 then [73,110,102,105,110,105,116,121] else if (Nr.split b).1=1 then [48] else laid (dg b).1 (dg b).2.1
theorem Z2 {b:UInt64} (h:(Nr.split b).1=4):text b=[78,97,78]:=by rw [wF];unfold vE;rw [aH h]
theorem Z0 {b:UInt64} (h:¬(Nr.split b).1=4):text b=sign b++tb b:=by
 rw [wF];unfold vE tb
 rw [aD h]
 by_cases c3:(Nr.split b).1=3
 ·rw [aH c3,aH c3]
 ·rw [aD c3,aD c3]
  by_cases c1:(Nr.split b).1=1
  ·rw [aH c1,aH c1]
  ·rw [aD c1,aD c1]
theorem aaw {b:UInt64} (h:¬(Nr.split b).1=4):(tb b).length≤24:=by
 unfold tb
 by_cases c3:(Nr.split b).1=3
 ·rw [aH c3];decide
 ·rw [aD c3]
  by_cases c1:(Nr.split b).1=1
  ·rw [aH c1];decide
  ·rw [aD c1]
   exact Fu (by have:=Aw b;omega)
theorem aag (b:UInt64):(text b).length≤25:=by
 by_cases c:(Nr.split b).1=4
 ·rw [Z2 c];decide
 ·rw [Z0 c,aq]
  have:=aaw c
  have hs:(sign b).length≤1:=by unfold sign;split <;> decide
  omega
end Sh
end Go.Eng
set_option maxRecDepth 100000
namespace Go.Eng
open Go.Proofs
noncomputable section
def sh_ShortBack.sg:c7:={}
def sh_ShortBack.c:eW:=fun l=>match l with
 | [.u64 b] => .ok [(.b (true))]
 | _ => .err
def sh_ShortBack.env:EV:=[(8,(dk.c,dk.sg)),(11,(cR.c,cR.sg)),(14,(dn.c,dn.sg)),(15,(k8.c,k8.sg)),(16,(cd.c,cd.sg))]
def sh_ShortBack.E:eD:=cZ nrGl sh_ShortBack.env
def sh_ShortBack.m:TM:=oS [oW (.b false) 2] (.seq (oS [oC 8 0 1 [] 10,oK (.k (.un .not)) [10] [11]] (.cond (.s 11) [] (oS [oW (.b false) 2] .ret) .skip)) none (oS [oV 0 12,oC 11 1 1 [12] 13,oV 13 3] (oS [oV 0 15,oC 14 1 4 [15] 16,oV 16 14,oE 0 14 17,oE 1 14 18,oE 2 14 19,oE 3 14 20,oV 17 4,oV 18 5,oV 19 6,oV 20 7] (oS [oV 3 22,oC 15 1 2 [22] 23,oV 23 21,oE 0 21 24,oE 1 21 25,oV 24 8,oV 25 9] (.seq (oS [oV 4 26,oI .gtr 26 (.i .i64 2) 27] (.cond (.s 27) [] (oS [oV 9 28,oI .eql 28 (.i .i64 3) 29,oV 29 30,oG 30 true (oV 8 31),oG 30 true (oI .eql 31 (.u64 0) 32),oP 30 32 false 33,oV 33 2] .ret) .skip)) none (oS [oV 9 34,oI .eql 34 (.i .i64 0) 35,oV 35 36,oG 36 true (oV 8 37),oG 36 true (oV 0 38),oG 36 true (oB .eql 37 38 39),oP 36 39 false 40,oV 40 41,oG 41 true (oV 3 42),oG 41 true (oC 16 1 1 [42] 43),oG 41 true (oI .neq 43 (.i .i64 0) 44),oP 41 44 false 45,oV 45 46,oG 46 true (oV 3 47),oG 46 true (oK (.k .vT) [47] [48]),oG 46 true (oI .leq 48 (.i .i64 25) 49),oP 46 49 false 50,oV 50 2] .ret))))))
def sh_ShortBack.d:gS:=D0 1 sh_ShortBack.m [.t 2]
def sh_ShortBack.F (b:UInt64):OT:=sh_ShortBack.d.run sh_ShortBack.E [(.u64 b)]
theorem sh_ShortBack.dZ (b:UInt64) {ρ:OT} (K:∀(v1:Bool) (h1:v1=(cond (decide (((Nr.parse ((Sh.text b))).2)=(3:Int))) (decide (((Nr.parse ((Sh.text b))).1)=(0:UInt64))) false)) (v2:Bool) (h2:v2=(cond (decide (((Nr.parse ((Sh.text b))).2)=(0:Int))) (decide (((Nr.parse ((Sh.text b))).1)=b)) false)) (v3:Bool) (h3:v3=(cond v2 (!decide ((Nr.Lv ((Sh.text b)))=(0:Int))) false)) (v4:Bool) (h4:v4=(cond v3 (decide ((((Sh.text b)).length:Int)≤(25:Int))) false)),cond (!(true))
  (some [(.b false)])
  (ck (decide ((((Sh.text b))).length≤1099511627776)) (cond (decide ((2:Int)<((Nr.split b).1)))
  (ck (!(decide (((Nr.parse ((Sh.text b))).2)=(3:Int))) || (decide (((Nr.parse ((Sh.text b))).2)=(3:Int)))) (ck (!(decide (((Nr.parse ((Sh.text b))).2)=(3:Int))) || (decide (((Nr.parse ((Sh.text b))).2)=(3:Int)))) (some [(.b v1)])))
  (ck (!(decide (((Nr.parse ((Sh.text b))).2)=(0:Int))) || ((decide (((Nr.parse ((Sh.text b))).2)=(0:Int)))&&(decide (((Nr.parse ((Sh.text b))).2)=(0:Int))))) (ck (!(decide (((Nr.parse ((Sh.text b))).2)=(0:Int))) || (decide (((Nr.parse ((Sh.text b))).2)=(0:Int)))) (ck (!v2 || (v2&&(decide ((((Sh.text b))).length≤1099511627776)))) (ck (!v2 || v2) (ck (!v2 || v2) (ck (!v3 || v3) (ck (!v3 || v3) (ck (!v3 || v3) (some [(.b v4)])))))))))))=ρ):sh_ShortBack.F b=ρ:=Eq.trans (by kernel_rfl) (K _ rfl _ rfl _ rfl _ rfl)
theorem sh_ShortBack.eJ:CK 7 sh_ShortBack.env sh_ShortBack.d:=fE (by kernel_rfl)
end
end Go.Eng
namespace Go.Eng
namespace Sh
theorem ZR:Nr.read [48] 1=some 0:=by
 unfold Nr.read
 rw [aH (by decide),show Nr.num [48]=0 by decide]
 unfold Nr.rd
 rw [show ((1:Int) - (([48]:bT).length:Int)).toNat=0 by decide,show (-((1:Int) - (([48]:bT).length:Int))).toNat=0 by decide]
 exact Nr.lh (by decide) (by decide) (by unfold Nr.fC;decide +kernel) (.inl rfl)
theorem ZL:Nr.parse [48]=(0,0)∧Nr.parse [45,48]=(9223372036854775808,0):=by
 constructor
 ·have h1:Nr.ahead [48]++Nr.behind [48]=[48]:=by decide
  have h2:((Nr.ahead [48]).length:Int)+Nr.zM (Nr.tail [48])=1:=by decide
  rw [Nr.uc];unfold Nr.wi
  rw [aD (by decide),aD (by decide),h1,h2,ZR]
  simp
 ·have h1:Nr.ahead [45,48]++Nr.behind [45,48]=[48]:=by decide
  have h2:((Nr.ahead [45,48]).length:Int)+Nr.zM (Nr.tail [45,48])=1:=by decide
  rw [Nr.uc];unfold Nr.wi
  rw [aD (by decide),aD (by decide),h1,h2,ZR]
  simp
theorem ZT {s:bT} (h:Nr.Lv s=0):Nr.parse s=(0,3):=by
 rw [Nr.uc];unfold Nr.wi;rw [aH h]
theorem aat {m:Nat} (h:aaa m=1):m=0:=by
 unfold aaa at h
 split at h
 ·split at h <;> simp at h
 ·split at h
  ·split at h
   ·omega
   ·simp at h
  ·simp at h
theorem back {b:UInt64} (h:(Nr.split b).1=1∨(Nr.split b).1=2):Nr.parse (text b)=(b,0)∧Nr.Lv (text b)≠0:=by
 have hb:=b.toNat_lt
 have hs:=(Z9 b).2
 rw [Z0 (by omega)]
 rcases h with h | h
 ·have hm:=aat ((Z9 b).1.symm.trans h)
  have hm:b.toNat % 9223372036854775808=0:=hm
  have e:tb b=[48]:=by unfold tb;rw [aD (by omega),aH h]
  rw [e]
  unfold sign
  by_cases c:9223372036854775808≤b.toNat
  ·rw [hs,ae c,aH rfl]
   have:b=9223372036854775808:=bt.1 (by show _=9223372036854775808;omega)
   rw [this]
   exact ⟨ZL.2,by decide⟩
  ·rw [hs,af c,aD (by decide)]
   have:b=0:=bt.1 (by show _=0;omega)
   rw [this]
   exact ⟨ZL.1,by decide⟩
 ·obtain ⟨⟨_,r2,r3,r4⟩,hL,hr⟩:=Gt h
  obtain ⟨p1,p2,_⟩:=aaf hL r2 ⟨r3,r4⟩ hr (Nr.split b).2.1
  have e:tb b=laid (dg b).1 (dg b).2.1:=by unfold tb;rw [aD (by omega),aD (by omega)]
  rw [e]
  unfold sign
  refine ⟨p1.trans ?_,p2⟩
  rw [hs]
  refine Prod.ext (bt.1 ?_) rfl
  show (UInt64.ofNat _).toNat=b.toNat
  rw [ji]
  unfold iE
  by_cases c:9223372036854775808≤b.toNat
  ·rw [ae c,aH rfl];omega
  ·rw [af c,aD (by decide)];omega
theorem aap {b:UInt64} (h:¬((Nr.split b).1=1∨(Nr.split b).1=2)):Nr.parse (text b)=(0,3):=by
 have:=Aw b
 by_cases c:(Nr.split b).1=4
 ·rw [Z2 c];exact ZT (by decide)
 ·rw [Z0 c]
  have e:tb b=[73,110,102,105,110,105,116,121]:=by unfold tb;rw [aH (by omega)]
  rw [e]
  unfold sign
  cases (Nr.split b).2.1 with
  | true=>exact ZT (by decide)
  | false=>exact ZT (by decide)
end Sh
theorem sh_ShortBack.goal (b:UInt64):sh_ShortBack.F b=some [.b true]:=by
 refine sh_ShortBack.dZ _ ?_
 intro v1 h1 v2 h2 v3 h3 v4 h4
 have hl:=Sh.aag b
 rw [a8,ax,bD (ae (show (Sh.text b).length≤1099511627776 by omega))]
 by_cases c:(Nr.split b).1=1∨(Nr.split b).1=2
 ·obtain ⟨p1,p2⟩:=Sh.back c
  rw [p1] at h2
  have e2:v2=true:=by rw [h2,ae (rfl:((b,(0:Int)):UInt64 × Int).2=0),ae (rfl:((b,(0:Int)):UInt64 × Int).1=b)];rfl
  have p2':¬Nr.Lv (Sh.text b)=(0:Int):=p2
  have e3:v3=true:=by rw [h3,e2,af p2'];rfl
  have e4:v4=true:=by rw [h4,e3,ae (show ((Sh.text b).length:Int)≤25 by omega)];rfl
  rw [p1,af (show ¬(2:Int)<(Nr.split b).1 by omega),ax,e2,e3,e4,ae (rfl:((b,(0:Int)):UInt64 × Int).2=0),ae (show (Sh.text b).length≤1099511627776 by omega)]
  rfl
 ·have p:=Sh.aap c
  have hk:=Aw b
  rw [p] at h1
  have e1:v1=true:=by rw [h1];rfl
  rw [p,ae (show (2:Int)<(Nr.split b).1 by omega),aF,e1];rfl
end Go.Eng
namespace Go.Eng
open Go.Proofs
theorem sh_ShortBack.fit (b:UInt64):([.u64 b]:List TV).length=sh_ShortBack.d.np∧sh_ShortBack.d.run (cZ nrGl sh_ShortBack.env) [.u64 b]=some (([(.b (true))]:List TV)++sh_ShortBack.d.eu.map fun qq=>([.u64 b]:List TV).getD qq.1 .dead) :=
 ⟨by kernel_rfl,Eq.trans (b:=sh_ShortBack.F b) (by kernel_rfl) (Eq.trans (sh_ShortBack.goal b) (by kernel_rfl))⟩
theorem sh_ShortBack.ok:KO 7 (sh_ShortBack.c) sh_ShortBack.sg :=
 meets (l:=sh_ShortBack.env) (all_cons dk.ok (all_cons cR.ok (all_cons dn.ok (all_cons k8.ok (all_cons cd.ok all_nil))))) sh_ShortBack.eJ (by
   intro ins outs h
   unfold sh_ShortBack.c at h
   split at h
   ·cases h;exact sh_ShortBack.fit _
   ·exact h.elim)
end Go.Eng
