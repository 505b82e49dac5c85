/- Texts of my own, one behind the other: RxM2, RxM3, RxM4, RxM5, RxN5, RxM6, RxS1, RxS2, RxS3, RxS4, RxS5, RxFlip, RxQ1, RxQ2, RxQ3, RxQ4, RxQ5, RxQ6, RxQ7, RxQ8, RxUtfP, RxQ9, RxQ10, RxQ11, RxQ12, RxQ13, RxZ0, RxZ1, RxBk, RxJd1, RxJd2, RxJd3, RxJd4, RxJd5, RxZ4, RxZ5, RxZ2, RxZ3, RxZ6, RxJp1, RxJp2, RxJp3, RxJp4, RxJd6, RxZ8, RxA, RxWPp, RxWP, RxHx, RxRp1, RxRp2, RxRp3, RxRp4, RxRp5, RxRp6, RxRp7, RxOKT, RxWhole, RxTreeP1, RxTreeP2, RxTreeP3, RxTreeP4, RxRegP, RxBookP, RxS6. -/
import Derived.Test.YticoeljejdcofaaGreatDoorT4
import Derived.Lib.Mul64
import Derived.Lib.ParseIntBTie
import Derived.WalkKit
import Derived.WalkSpells
import Derived.Lib.SmallJoins
import Derived.IntWalk
set_option linter.unusedVariables false
set_option linter.unusedSimpArgs false
set_option maxRecDepth 20000
namespace Go.Eng
namespace Sh
open Nr (V nI sh top je rd pr gZ)
theorem xe {b:Nat} (h:0<b) (k:Int):0<tB b k:=Nat.mul_pos h (Nr.fT _)
theorem IY {p:Nat} (hp:0<p) (ht:p≤top) (x n:Int) (K:Nat) (hK:jO p * K=V p * iG p) (Wf:K=2 ^ 1074) (N:Nat):rd N (x - n)=some p ↔
  (2 * (N * tB (iG p) (n - x) * K)<2 * (tA (jO p) (n - x) * K)+2 ^ sh p * 10 ^ (n - x).toNat * iG p∨(2 * (N * tB (iG p) (n - x) * K)=2 * (tA (jO p) (n - x) * K)+2 ^ sh p * 10 ^ (n - x).toNat * iG p∧p % 2=0)) ∧
  (2 * (tA (jO p) (n - x) * K)<2 * (N * tB (iG p) (n - x) * K)+2 ^ sh (p - 1) * 10 ^ (n - x).toNat * iG p∨(2 * (tA (jO p) (n - x) * K)=2 * (N * tB (iG p) (n - x) * K)+2 ^ sh (p - 1) * 10 ^ (n - x).toNat * iG p∧p % 2=0)):=by
 rw [Lp hp,←Wf]
 have hb:=mJ p
 rw [show (-(x - n))=n - x by omega]
 obtain ⟨u1,u2⟩:=unit_eq (S:=10 ^ (x - n).toNat) (T:=10 ^ (n - x).toNat) (Q:=tB (iG p) (n - x)) (P:=tA (jO p) (n - x)) hK rfl (by unfold tB;rw [show (-(n - x))=x - n by omega]) N
 rw [u2,←u1]
 have m1:pr p=2 * V p+2 ^ sh p:=by rw [Nr.nH,Nr.vg];omega
 have m2:2 * V p=pr (p - 1)+2 ^ sh (p - 1):=by
  have:=(GZ hp).2
  rw [Nr.nH,show p - 1+1=p by omega];omega
 generalize 10 ^ (n - x).toNat=T
 generalize hX:N * 10 ^ (x - n).toNat * K=X
 have c1:pr p * T * iG p=2 * (V p * T * iG p)+2 ^ sh p * T * iG p:=by rw [m1];simp only [Nat.add_mul,Nat.mul_assoc]
 have c2:2 * (V p * T * iG p)=pr (p - 1) * T * iG p+2 ^ sh (p - 1) * T * iG p:=by
  have:2 * (V p * T * iG p)=2 * V p * T * iG p:=by simp only [Nat.mul_assoc]
  rw [this,m2];simp only [Nat.add_mul]
 have c3:2 * (X * iG p)=2 * X * iG p:=by rw [Nat.mul_assoc]
 rw [c3,c2,Nat.add_lt_add_iff_right,Nat.add_right_cancel_iff,←c2,←c1]
 rw [Nat.mul_lt_mul_right hb,Nat.mul_lt_mul_right hb]
 have e1:2 * X * iG p=pr p * T * iG p ↔ 2 * X=pr p * T:=⟨Nat.eq_of_mul_eq_mul_right hb,fun h=>by rw [h]⟩
 have e2:pr (p - 1) * T * iG p=2 * X * iG p ↔ pr (p - 1) * T=2 * X:=⟨Nat.eq_of_mul_eq_mul_right hb,fun h=>by rw [h]⟩
 rw [e1,e2]
 exact ⟨fun h=>h.2,fun h=>⟨ht,h⟩⟩
theorem yD {a b:Nat} {y k m:Int} (hm:0≤m) (h:m=y+k):(10 ^ y.toNat * b≤a * 10 ^ (-y).toNat→10 ^ m.toNat * tB b k≤tA a k)∧(a * 10 ^ (-y).toNat<10 ^ y.toNat * b→tA a k<10 ^ m.toNat * tB b k):=by
 have he:m.toNat+(-k).toNat+(-y).toNat=y.toNat+k.toNat:=by omega
 have l:10 ^ m.toNat * tB b k * 10 ^ (-y).toNat=10 ^ y.toNat * b * 10 ^ k.toNat:=by
  unfold tB
  rw [←Nat.mul_assoc,Nat.mul_right_comm (10 ^ m.toNat),←Nat.pow_add,Nat.mul_right_comm,←Nat.pow_add,he,Nat.pow_add,Nat.mul_right_comm]
 have r:tA a k * 10 ^ (-y).toNat=a * 10 ^ (-y).toNat * 10 ^ k.toNat:=by unfold tA;rw [Nat.mul_right_comm]
 have h1:=Nr.fT (-y).toNat
 have h2:=Nr.fT k.toNat
 constructor
 ·intro h
  refine Nat.le_of_mul_le_mul_right ?_ h1
  rw [l,r];exact av _ h
 ·intro h
  refine Nat.lt_of_mul_lt_mul_right (a:=10 ^ (-y).toNat) ?_
  rw [l,r];exact Nat.mul_lt_mul_of_pos_right h h2
theorem tH {p:Nat} (hp:0<p) {n:Int} (hn:1≤n):10 ^ (n - 1).toNat * tB (iG p) (n - dx p)≤tA (jO p) (n - dx p)∧tA (jO p) (n - dx p)<10 ^ n.toNat * tB (iG p) (n - dx p):=by
 obtain ⟨h1,h2⟩:=C1 hp
 exact ⟨(yD (y:=dx p - 1) (k:=n - dx p) (m:=n - 1) (by omega) (by omega)).1 h1,(yD (y:=dx p) (k:=n - dx p) (m:=n) (by omega) (by omega)).2 h2⟩
theorem yL {p a b:Nat} {x n:Int} (h:rd (tA a (n - x) / tB b (n - x)) (x - n)=some p∨rd (tA a (n - x) / tB b (n - x)+1) (x - n)=some p):(some_ p a b x n).isSome=true:=by
 unfold some_
 simp only
 split
 ·rename_i c;exact c.1
 ·rename_i c
  rcases h with h | h
  ·by_cases h2:rd (tA a (n - x) / tB b (n - x)+1) (x - n)=some p
   ·rw [lQ h2];rfl
   ·exact (c ⟨by rw [lQ h];rfl,.inl (by rw [pI h2];rfl)⟩).elim
  ·rw [lQ h];rfl
theorem Lf {p:Nat} (hp:0<p) (ht:p≤top):(some_ p (jO p) (iG p) (dx p) 17).isSome=true:=by
 obtain ⟨r1,r2⟩:=tH hp (n:=17) (by omega)
 have hQ:=xe (mJ p) (17 - dx p)
 obtain ⟨K,hK⟩:∃K,K=2 ^ 1074:=⟨_,rfl⟩
 have TB:0<K:=by rw [hK];exact Nat.two_pow_pos 1074
 have ES:=KS p
 rw [←hK] at ES
 have gd:=(GZ hp).1
 have gu:=(MC p).1
 have ru:=IY hp ht (dx p) 17 K ES hK
 have Wb:tA (jO p) (17 - dx p) * K=V p * 10 ^ (17 - dx p).toNat * iG p:=by
  unfold tA;rw [Nat.mul_right_comm,ES,Nat.mul_right_comm]
 refine yL ?_
 have hT:0<10 ^ (17 - dx p).toNat * iG p:=Nat.mul_pos (Nr.fT _) (mJ p)
 have bd:V p * 10 ^ (17 - dx p).toNat * iG p≤9007199254740992 * (2 ^ sh (p - 1) * 10 ^ (17 - dx p).toNat * iG p):=by
  rw [Nat.mul_assoc (V p),Nat.mul_assoc (2 ^ sh (p - 1)),←Nat.mul_assoc 9007199254740992]
  exact av _ gd
 have bu:V p * 10 ^ (17 - dx p).toNat * iG p<9007199254740992 * (2 ^ sh p * 10 ^ (17 - dx p).toNat * iG p):=by
  rw [Nat.mul_assoc (V p),Nat.mul_assoc (2 ^ sh p),←Nat.mul_assoc 9007199254740992]
  exact Nat.mul_lt_mul_of_pos_right gu hT
 rw [←Wb] at bd bu
 generalize tA (jO p) (17 - dx p)=P at *
 generalize tB (iG p) (17 - dx p)=Q at *
 generalize 2 ^ sh (p - 1) * 10 ^ (17 - dx p).toNat * iG p=D at *
 generalize 2 ^ sh p * 10 ^ (17 - dx p).toNat * iG p=G at *
 have Qw:(10:Nat) ^ ((17:Int) - 1).toNat=10000000000000000:=by decide
 rw [Qw] at r1
 have hr:=Nat.mod_lt P hQ
 have NH:=Nat.div_add_mod P Q
 have q1:10000000000000000 * (Q * K)≤P * K:=by rw [←Nat.mul_assoc];exact av K r1
 have YO:0<Q * K:=Nat.mul_pos hQ TB
 have Wa:P * K=P / Q * Q * K+P % Q * K:=by rw [←Nat.add_mul,Nat.mul_comm (P / Q)];rw [NH]
 have Yq:P % Q * K<Q * K:=Nat.mul_lt_mul_of_pos_right hr TB
 by_cases c:2 * (P % Q)≤Q
 ·left
  have c':2 * (P % Q * K)≤Q * K:=by rw [←Nat.mul_assoc];exact av K c
  rw [ru]
  exact ⟨.inl (by omega),.inl (by omega)⟩
 ·right
  have c':Q * K≤2 * (P % Q * K):=by rw [←Nat.mul_assoc];exact av K (by omega)
  have hN:(P / Q+1) * Q * K=P / Q * Q * K+Q * K:=by rw [Nat.add_mul,Nat.add_mul,Nat.one_mul]
  rw [ru,hN]
  exact ⟨.inl (by omega),.inl (by omega)⟩
end Sh
end Go.Eng
set_option maxRecDepth 20000
namespace Go.Eng
namespace Sh
open Nr (V nI sh top je rd pr gZ)
theorem go_hit {p f i:Nat} {r:bz × Int} (h:some_ p (jO p) (iG p) (dx p) i=some r):go p (f+1) i=r:=by rw [go_succ,h];rfl
theorem go_miss {p f i:Nat} (h:some_ p (jO p) (iG p) (dx p) i=none):go p (f+1) i=go p f (i+1):=by rw [go_succ,h];rfl
theorem go_some {p:Nat} {r:bz × Int} {n:Nat} (h4:some_ p (jO p) (iG p) (dx p) n=some r):∀(m i f:Nat),i+m=n→m<f→(∀j:Nat,i≤j→j<n→some_ p (jO p) (iG p) (dx p) j=none)→go p f i=r:=by
 intro m
 induction m with
 | zero =>
  intro i f h1 h2 h3
  have h1:i=n:=h1
  obtain ⟨f,rfl⟩:∃g,f=g+1:=⟨f - 1,by omega⟩
  rw [h1];exact go_hit h4
 | succ m ih =>
  intro i f h1 h2 h3
  obtain ⟨f,rfl⟩:∃g,f=g+1:=⟨f - 1,by omega⟩
  rw [go_miss (h3 i (Nat.le_refl _) (by omega))]
  exact ih (i+1) f (by omega) (by omega) (fun j a b=>h3 j (by omega) b)
theorem first {p:Nat} (hp:0<p) (ht:p≤top):∃n:Nat,1≤n∧n≤17∧(∀j:Nat,1≤j→j<n→some_ p (jO p) (iG p) (dx p) j=none)∧some_ p (jO p) (iG p) (dx p) n=some (digits p):=by
 have zS:=Lf hp ht
 have key:∀m i:Nat,i+m=17→1≤i→(∀j:Nat,1≤j→j<i→some_ p (jO p) (iG p) (dx p) j=none)→∃n:Nat,1≤n∧n≤17∧(∀j:Nat,1≤j→j<n→some_ p (jO p) (iG p) (dx p) j=none)∧(some_ p (jO p) (iG p) (dx p) n).isSome=true:=by
  intro m
  induction m with
  | zero =>
   intro i hi h1 hn
   have hi:i=17:=hi
   exact ⟨17,by omega,by omega,by rw [←hi];exact hn,zS⟩
  | succ m ih =>
   intro i hi h1 hn
   cases hs:some_ p (jO p) (iG p) (dx p) i with
   | some r=>exact ⟨i,h1,by omega,hn,by rw [hs];rfl⟩
   | none =>
    refine ih (i+1) (by omega) (by omega) fun j a b=>?_
    by_cases c:j=i
    ·rw [c];exact hs
    ·exact hn j a (by omega)
 obtain ⟨n,n1,n2,n3,n4⟩:=key 16 1 rfl (by omega) (fun j a b=>by omega)
 obtain ⟨r,hr⟩:=Option.isSome_iff_exists.1 n4
 refine ⟨n,n1,n2,n3,?_⟩
 have hg:digits p=r:=go_some hr (n - 1) 1 17 (by omega) (by omega) n3
 rw [hr,hg]
theorem D5 {a b:Nat} (h:10 ^ a<10 ^ b):a<b:=by
 rcases Nat.lt_or_ge a b with c | c
 ·exact c
 ·have:=Nr.mK c;omega
theorem Bc {M:Nat} (h:0<M):Nr.gw (Nr.dec (10 * M))=Nr.gw (Nr.dec M):=by
 rw [Nr.qH (show ¬10 * M<10 by omega),Nr.yS,show 10 * M % 10=0 by omega,au (by rfl),show 10 * M / 10=M by omega]
theorem tX:∀n:Nat,Nr.gw (Nr.dec (10 ^ n))=[49]
 | 0=>by decide +kernel
 | n+1=>by rw [Nat.pow_succ,Nat.mul_comm,Bc (Nr.fT n),tX n]
theorem DD (d:bz):(Nr.gw d).length≤d.length:=by
 obtain ⟨t,h,_⟩:=Nr.lB d
 have:=congrArg List.length h
 rw [aj] at this;omega
theorem HD {N n:Nat} (hn:1≤n) (h:N≤10 ^ n):(Nr.gw (Nr.dec N)).length≤n:=by
 rcases Nat.lt_or_eq_of_le h with c | c
 ·exact Nat.le_trans (DD _) (Nr.iV n N c hn)
 ·rw [c,tX];exact hn
theorem vK {N:Nat} {k:Int} (h:0<N) (hl:(Nr.dec N).length≤300):Nr.read (Nr.gw (Nr.dec N)) ((Nr.dec N).length+k)=rd N k:=by
 obtain ⟨d1,d2,d3,d4⟩:=Nr.j8 N
 obtain ⟨t,t1,t2⟩:=Nr.lB (Nr.dec N)
 have hn:=congrArg Nr.num t1
 rw [Nr.ia,Nr.kn,List.length_replicate,Nat.add_zero,d2] at hn
 have hL:=congrArg List.length t1
 rw [aj,List.length_replicate] at hL
 have ne:Nr.gw (Nr.dec N)≠[]:=by
  intro e0;rw [e0,show Nr.num []=0 from rfl,Nat.zero_mul] at hn;omega
 have:=List.length_pos_iff.2 ne
 unfold Nr.read Nr.valid
 rw [(Nr.iQ d1 t1).1,aa (show 1≤(Nr.gw (Nr.dec N)).length∧(Nr.gw (Nr.dec N)).length≤300 by omega),au (by rfl)]
 have e:rd N k=rd (Nr.num (Nr.gw (Nr.dec N)) * 10 ^ t) k:=by rw [←hn]
 rw [e,Nr.uh,show ((Nr.dec N).length:Int)+k - (Nr.gw (Nr.dec N)).length=k+t by omega]
theorem Dv {p a b:Nat} {x n:Int} {r:bz × Int} (h:some_ p a b x n=some r):∃N,(N=tA a (n - x) / tB b (n - x)∨N=tA a (n - x) / tB b (n - x)+1)∧rd N (x - n)=some p∧r=(Nr.gw (Nr.dec N),(Nr.dec N).length+(x - n)):=by
 unfold some_ at h
 simp only at h
 have key:∀N,reads p N (x - n)=some r→rd N (x - n)=some p∧r=(Nr.gw (Nr.dec N),(Nr.dec N).length+(x - n)):=fun N hN=>by
  unfold reads at hN
  split at hN
  ·rename_i c;cases hN;exact ⟨c,rfl⟩
  ·cases hN
 split at h
 ·exact ⟨_,.inl rfl,key _ h⟩
 ·exact ⟨_,.inr rfl,key _ h⟩
theorem wH {p:Nat} (hp:0<p) (ht:p≤top):∃n N:Nat,1≤n∧n≤17∧0<N∧N≤10 ^ n∧rd N (dx p - n)=some p∧digits p=(Nr.gw (Nr.dec N),(Nr.dec N).length+(dx p - n)) ∧
  (∀j:Nat,1≤j→j<n→some_ p (jO p) (iG p) (dx p) j=none):=by
 obtain ⟨n,n1,n2,n3,n4⟩:=first hp ht
 obtain ⟨N,N1,N2,N3⟩:=Dv n4
 obtain ⟨r1,r2⟩:=tH hp (n:=n) (by omega)
 have hQ:=xe (mJ p) (n - dx p)
 rw [ak] at r2
 have lo:=(Nat.le_div_iff_mul_le hQ).2 r1
 have hi:=(Nat.div_lt_iff_lt_mul hQ).2 r2
 have:=Nr.fT ((n:Int) - 1).toNat
 refine ⟨n,N,n1,n2,?_,?_,N2,N3,n3⟩ <;> rcases N1 with h | h <;> omega
theorem Ai {p:Nat} (hp:0<p) (ht:p≤top):Nr.read (digits p).1 (digits p).2=some p:=by
 obtain ⟨n,N,n1,n2,n3,n4,n5,n6,n7⟩:=wH hp ht
 rw [n6,vK n3 ?_,n5]
 refine Nat.le_trans (Nr.iV (n+1) N ?_ (by omega)) (by omega)
 exact Nat.lt_of_le_of_lt n4 (Nat.pow_lt_pow_right (by omega) (by omega))
end Sh
end Go.Eng
set_option maxRecDepth 20000
namespace Go.Eng
namespace Sh
open Nr (V nI sh top je rd pr gZ)
structure B1 (d:bz):Prop where
 dg:d.all Nr.eU=true
 n:d≠[]
 h:d.getD 0 0≠48
theorem B1.eK {c:bz} (h:B1 c) (j:Nat):B1 (c++List.replicate j 48):=by
 refine ⟨?_,by simp [h.n],?_⟩
 ·rw [List.all_append,h.dg,Bool.true_and]
  rw [aD];intro x hx;rw [List.eq_of_mem_replicate hx];rfl
 ·rw [ai,List.getElem?_append_left (List.length_pos_iff.2 h.n),←ai]
  exact h.h
theorem Bn (c:bz) (j:Nat):Nr.num (c++List.replicate j 48)=Nr.num c * 10 ^ j:=by
 rw [Nr.ia,Nr.kn,List.length_replicate,Nat.add_zero]
theorem wc {d:bz} (h:B1 d) {n:Nat} (h1:1≤n) (h2:n≤d.length):B1 (d.take n):=by
 refine ⟨(Nr.iQ h.dg (List.take_append_drop n d).symm).1,?_,?_⟩
 ·intro e
  have:=congrArg List.length e
  rw [aF,aB] at this;omega
 ·rw [ai,List.getElem?_take_of_lt (by omega),←ai];exact h.h
end Sh
end Go.Eng
set_option maxRecDepth 20000
namespace Go.Eng
open Go.IntWalk
namespace Nr
structure Shape (t a b fr ex e:bz):Prop where
 eq:t=a++fr++ex
 a0:a≠[]
 ad:a.all eU=true
 fr:(fr=[]∧b=[])∨(fr=46 :: b∧b≠[])
 bd:b.all eU=true
 ex:(ex=[]∧e=[])∨(∃c,SU c=true∧ex=c :: e∧signed e≠[])
 ed:(signed e).all eU=true
section
variable {s a b fr ex e:bz} (h:Shape (body s) a b fr ex e)
include h
end
end Nr
end Go.Eng
set_option maxRecDepth 20000
namespace Go.Eng
namespace Sh
open Nr (V nI sh top je rd pr gZ eU SU signed run mC pQ body jf)
theorem qP (n:Int):(eK n).all eU=true:=by
 unfold eK
 rw [aD];intro x hx;rw [List.eq_of_mem_replicate hx];rfl
theorem vc {d:bz} (h:d.all eU=true) (n:Nat):(d.drop n).all eU=true∧(d.take n).all eU=true:=by
 have:=Nr.iQ h (List.take_append_drop n d).symm
 exact ⟨this.2,this.1⟩
theorem o8 {v:Int} (h:0≤v):Nr.itoa v=Nr.dec v.toNat∧(Nr.itoa v).all eU=true∧Nr.num (Nr.itoa v)=v.toNat∧Nr.itoa v≠[]:=by
 have e:Nr.itoa v=Nr.dec v.toNat:=by rw [Nr.lC,ao (by omega),show v.natAbs=v.toNat by omega]
 obtain ⟨d1,d2,d3,d4⟩:=Nr.j8 v.toNat
 rw [e];exact ⟨rfl,d1,d2,d3⟩
theorem Ha {v:Int} (h:0≤v):Nr.Ab (45 :: Nr.itoa v)=-v∧signed (45 :: Nr.itoa v)=Nr.itoa v:=by
 obtain ⟨_,d1,d2,d3⟩:=o8 h
 have e:signed (45 :: Nr.itoa v)=Nr.itoa v:=by rw [Nr.oo,au (.inr rfl)]
 refine ⟨?_,e⟩
 unfold Nr.Ab
 simp only
 rw [e,d2,au (by rfl)];omega
theorem G9 {v:Int} (h:0≤v):Nr.Ab (43 :: Nr.itoa v)=v∧signed (43 :: Nr.itoa v)=Nr.itoa v:=by
 obtain ⟨_,d1,d2,d3⟩:=o8 h
 have e:signed (43 :: Nr.itoa v)=Nr.itoa v:=by rw [Nr.oo,au (.inl rfl)]
 refine ⟨?_,e⟩
 unfold Nr.Ab
 simp only
 rw [e,d2,ao (by show ¬((43:UInt8)=45);decide)];omega
theorem Cj {D E:bz} {x y:Int} {j:Nat} (h1:Nr.valid D=true) (h2:Nr.valid E=true) (hn:Nr.num D=Nr.num E * 10 ^ j) (hx:x - D.length+j=y - E.length):Nr.read D x=Nr.read E y:=by
 unfold Nr.read
 rw [au h1,au h2,hn,Nr.uh,hx]
theorem tE {D:bz} (h:D.all eU=true) (h1:1≤D.length) (h2:D.length≤300):Nr.valid D=true:=by
 unfold Nr.valid
 rw [h,aa ⟨h1,h2⟩];rfl
theorem ta {v:Int} (h:0≤v) (h2:v<1000):(Nr.itoa v).length≤3:=by
 rw [(o8 h).1]
 exact Nr.iV 3 v.toNat (by show v.toNat<1000;omega) (by omega)
theorem Bv {d:bz} (hd:B1 d) (hl:d.length≤17) {x:Int} (hx : -900≤x∧x≤900):∃a b fr ex e,Nr.Shape (laid d x) a b fr ex e∧(a=[48]∨a.getD 0 0≠48)∧(laid d x).length≤24∧Nr.read (a++b) ((a.length:Int)+Nr.Ab e)=Nr.read d x:=by
 have hn:=List.length_pos_iff.2 hd.n
 have hv:=tE hd.dg hn (by omega)
 unfold laid
 by_cases c1:1≤x∧x≤21∧(d.length:Int)≤x
 ·rw [au c1]
  have hz:=hd.eK (x - d.length).toNat
  have D9:(d++eK (x - d.length)).length=x.toNat:=by
   unfold eK;rw [aj,List.length_replicate];omega
  refine ⟨d++eK (x - d.length),[],[],[],[],⟨by simp,hz.n,hz.dg,.inl ⟨rfl,rfl⟩,rfl,.inl ⟨rfl,rfl⟩,rfl⟩,.inr hz.h,by omega,?_⟩
  rw [bj]
  refine Cj (j:=(x - d.length).toNat) (tE hz.dg (by omega) (by omega)) hv (Bn d _) ?_
  rw [D9,show Nr.Ab []=0 from rfl];omega
 ·rw [ao c1]
  by_cases c2:1≤x∧x≤21
  ·rw [au c2]
   have ht:=wc hd (n:=x.toNat) (by omega) (by omega)
   have L1:(d.take x.toNat).length=x.toNat:=by rw [aF];omega
   have O2:(d.drop x.toNat).length=d.length - x.toNat:=aV ..
   refine ⟨d.take x.toNat,d.drop x.toNat,46 :: d.drop x.toNat,[],[],⟨by simp,ht.n,ht.dg,.inr ⟨rfl,?_⟩,(vc hd.dg _).1,.inl ⟨rfl,rfl⟩,rfl⟩,.inr ht.h,?_,?_⟩
   ·intro e;rw [e,aB] at O2;omega
   ·rw [aj,aj,ay,L1,O2];omega
   ·rw [List.take_append_drop,L1,show Nr.Ab []=0 from rfl,show ((x.toNat:Nat):Int)+0=x by omega]
  ·rw [ao c2]
   by_cases c3 : -5≤x∧x≤0
   ·rw [au c3]
    have D9:(eK (-x)++d).length=(-x).toNat+d.length:=by
     unfold eK;rw [aj,List.length_replicate]
    have Rm:(eK (-x)++d).all eU=true:=by rw [List.all_append,qP,hd.dg];rfl
    refine ⟨[48],eK (-x)++d,46 :: (eK (-x)++d),[],[],⟨by simp,by simp,by rfl,.inr ⟨rfl,?_⟩,Rm,.inl ⟨rfl,rfl⟩,rfl⟩,.inl rfl,?_,?_⟩
    ·intro e;rw [e,aB] at D9;omega
    ·rw [aj,D9];show 2+_≤24;omega
    ·have hd1:([48]++(eK (-x)++d)).all eU=true:=by rw [List.all_append,Rm];rfl
     have OM:([48]++(eK (-x)++d)).length=1+((-x).toNat+d.length):=by rw [aj,D9];rfl
     refine Cj (j:=0) (tE hd1 (by omega) (by omega)) hv ?_ ?_
     ·rw [Nr.ia,Nr.ia]
      have:Nr.num (eK (-x))=0:=Nr.kn _
      rw [this,show Nr.num [48]=0 by decide];omega
     ·rw [OM,show Nr.Ab []=0 from rfl,ay];omega
   ·rw [ao c3]
    have ht:=wc hd (n:=1) (by omega) hn
    have L1:(d.take 1).length=1:=by rw [aF];omega
    have O2:(d.drop 1).length=d.length - 1:=aV ..
    have Tl:((if 1<d.length then 46 :: d.drop 1 else []:bz)=[]∧d.drop 1=[])∨((if 1<d.length then 46 :: d.drop 1 else []:bz)=46 :: d.drop 1∧d.drop 1≠[]):=by
     by_cases k:1<d.length
     ·right;rw [au k];refine ⟨rfl,fun e=>?_⟩;rw [e,aB] at O2;omega
     ·left;rw [ao k];exact ⟨rfl,List.length_eq_zero_iff.1 (by omega)⟩
    have GK:(if 1<d.length then 46 :: d.drop 1 else []:bz).length≤17:=by
     split
     ·rw [az,O2];omega
     ·simp
    generalize hF:(if 1<d.length then 46 :: d.drop 1 else []:bz)=F at *
    by_cases c4:x<1
    ·rw [au c4]
     obtain ⟨i1,i2,i3,i4⟩:=o8 (v:=1 - x) (by omega)
     obtain ⟨e1,e2⟩:=Ha (v:=1 - x) (by omega)
     have il:=ta (v:=1 - x) (by omega) (by omega)
     refine ⟨d.take 1,d.drop 1,F,101 :: 45 :: Nr.itoa (1 - x),45 :: Nr.itoa (1 - x),⟨by simp,ht.n,ht.dg,Tl,(vc hd.dg _).1,.inr ⟨101,by decide,rfl,by rw [e2];exact i4⟩,by rw [e2];exact i2⟩,.inr ht.h,?_,?_⟩
     ·rw [aj,aj,L1,aj];show 1+F.length+(2+_)≤24;omega
     ·rw [List.take_append_drop,L1,e1,show ((1:Nat):Int) + -(1 - x)=x by omega]
    ·rw [ao c4]
     obtain ⟨i1,i2,i3,i4⟩:=o8 (v:=x - 1) (by omega)
     obtain ⟨e1,e2⟩:=G9 (v:=x - 1) (by omega)
     have il:=ta (v:=x - 1) (by omega) (by omega)
     refine ⟨d.take 1,d.drop 1,F,101 :: 43 :: Nr.itoa (x - 1),43 :: Nr.itoa (x - 1),⟨by simp,ht.n,ht.dg,Tl,(vc hd.dg _).1,.inr ⟨101,by decide,rfl,by rw [e2];exact i4⟩,by rw [e2];exact i2⟩,.inr ht.h,?_,?_⟩
     ·rw [aj,aj,L1,aj];show 1+F.length+(2+_)≤24;omega
     ·rw [List.take_append_drop,L1,e1,show ((1:Nat):Int)+(x - 1)=x by omega]
end Sh
end Go.Eng
set_option maxRecDepth 20000
namespace Go.Eng
open Go.IntWalk
theorem Oh (x:UInt64) (h:x.toNat<4503599627370496):((4503599627370496:UInt64) ||| x)=UInt64.ofNat (4503599627370496+x.toNat):=by
 apply gf
 rw [UInt64.toNat_or,fA]
 have:=nE (a:=1) (k:=52) (b:=x.toNat) h
 show 4503599627370496 ||| x.toNat=_
 rw [show (4503599627370496:Nat)=1 * 2 ^ 52 by decide,this]
 have:(1:Nat) * 2 ^ 52=4503599627370496:=by decide
 omega
theorem dN.goal (b:UInt64):dN.F b=some [.i .i64 (Nr.split b).1,.b (Nr.split b).2.1,.u64 (Nr.split b).2.2.1,.i .i64 (Nr.split b).2.2.2]:=by
 refine dN.bY _ ?_
 intro v1 h1 v2 h2 v3 h3 v4 h4 v5 h5 v6 h6 v7 h7 v8 h8
 have hb:=b.toNat_lt
 have hv4:v4.toNat=b.toNat / 9223372036854775808:=by rw [h4,ir];rfl
 have hv1:v1.toNat=b.toNat / 4503599627370496:=by rw [h1,ir];rfl
 have e2:v2=((b.toNat / 4503599627370496 % 2048:Nat):Int):=by rw [h2,LF,hv1,i64_in _ (by omega)]
 have e3:v3.toNat=b.toNat % 4503599627370496:=by rw [h3,F5]
 have en:decide (v4=1)=decide (9223372036854775808≤b.toNat):=by
  by_cases c:9223372036854775808≤b.toNat
  ·rw [aa c,aa (gf (by rw [hv4];show _=1;omega))]
  ·rw [ab c,ab (fun h=>by have:=congrArg UInt64.toNat h;rw [hv4] at this;have e1:(1:UInt64).toNat=1:=rfl;omega)]
 have ef:decide (v3=0)=decide (b.toNat % 4503599627370496=0):=by
  by_cases c:b.toNat % 4503599627370496=0
  ·rw [aa c,aa (gf (by rw [e3];exact c))]
  ·rw [ab c,ab (fun h=>by have:=congrArg UInt64.toNat h;rw [e3] at this;exact c this)]
 have Qv:v3=UInt64.ofNat (b.toNat % 4503599627370496):=gf (by rw [e3,fA];omega)
 have e7:v7=UInt64.ofNat (4503599627370496+b.toNat % 4503599627370496):=by rw [h7,Oh _ (by omega),e3]
 have e8:v8=((b.toNat / 4503599627370496 % 2048:Nat):Int) - 1075:=by rw [h8,e2,i64_in _ (by omega)]
 have px:∀b:Bool,(!b || b)=true:=by decide
 rw [bx (px _),bx (px _),bx (px _),bx (px _),en]
 unfold Nr.split
 simp only
 rw [ef] at h5 h6
 generalize b.toNat / 4503599627370496 % 2048=x at *
 by_cases c1:x=2047
 ·rw [au c1]
  have Po:decide (v2=2047)=true:=aa (by omega)
  rw [Po,ah] at h5
  rw [h5,Po]
  by_cases c2:b.toNat % 4503599627370496=0
  ·rw [aa c2,au c2];rfl
  ·rw [ab c2,ao c2];rfl
 ·rw [ao c1]
  have Po:decide (v2=2047)=false:=ab (by omega)
  rw [Po,ae] at h5
  rw [h5,Po,ae,ae]
  by_cases c2:x=0
  ·have Pp:decide (v2=0)=true:=aa (by omega)
   rw [Pp,ah] at h6
   rw [h6,Pp,au c2]
   by_cases c3:b.toNat % 4503599627370496=0
   ·rw [aa c3,au c3];rfl
   ·rw [ab c3,ao c3,Qv];rfl
  ·have Pp:decide (v2=0)=false:=ab (by omega)
   rw [Pp,ae] at h6
   rw [h6,Pp,ao c2,ae,ae,e7,e8]
theorem eM.goal (v:Int) (hp:Nr.i64 v=true):eM.F v=some [.s (Nr.itoa v)]:=by
 rw [eM.dW,hp];rfl
theorem xd (k:Nat) (h:k≤400):10 ^ k<2 ^ 1400:=by
 have hk:∀n:Nat,n=400→10 ^ k≤10 ^ n:=fun n hn=>Nat.pow_le_pow_right (by omega) (by omega)
 exact Nat.lt_of_le_of_lt (hk 400 rfl) (by decide +kernel)
theorem nG {a b i j k:Nat} (h1:a<2 ^ i) (h2:b<2 ^ j) (h:i+j≤k):a * b<2 ^ k:=by
 refine kh (i:=i+j) ?_ h
 rw [Nat.pow_add]
 exact Nat.mul_lt_mul'' h1 h2
theorem Ka {a:Nat} {k:Int} (ha:a<2 ^ 1100) (hk : -400≤k∧k≤400):Sh.tA a k<2 ^ 2500:=nG (i:=1100) (j:=1400) (k:=2500) ha (xd _ (by omega)) (by omega)
theorem J9 {a:Nat} {k:Int} (ha:a<2 ^ 1100) (hk : -400≤k∧k≤400):Sh.tB a k<2 ^ 2500:=nG (i:=1100) (j:=1400) (k:=2500) ha (xd _ (by omega)) (by omega)
theorem fU.goal (a b:List UInt16) (k:Int) (hp:(Nt.is a&&Nt.is b&&decide (-400≤k∧k≤400∧Nt.val a<2 ^ 1100∧Nt.val b<2 ^ 1100))=true):fU.F a b k=some [.sl .ws (Nt.of (Sh.tA (Nt.val a) k)),.sl .ws (Nt.of (Sh.tB (Nt.val b) k))]:=by
 rw [af,af] at hp
 obtain ⟨⟨ha,hb⟩,hp⟩:=hp
 obtain ⟨k1,k2,k3,k4⟩:=aq hp
 refine fU.bY _ _ _ ?_
 intro v1 h1 v2 h2 v3 h3 v4 h4
 by_cases c:0≤k
 ·have h1:v1=Nt.of (10 ^ k.toNat):=h1
  have e:=xd k.toNat (by omega)
  have Vd:Nt.is v1=true:=by rw [h1];exact jg (i:=1400) e (by omega)
  rw [aa c,ah,bx (aa ⟨by omega,by omega,c,by omega,kh (i:=1400) (k:=4096) e (by omega)⟩),ha,Vd]
  refine (bx (by rfl)).trans ?_
  rw [h2,h1,Nt.eY]
  unfold Sh.tA Sh.tB
  rw [show (-k).toNat=0 by omega,Nat.pow_zero,Nat.mul_one,Nt.dJ (Nt.jB hb)]
 ·have ew:IntKind.i64.wrap (0 - k)=-k:=by rw [i64_in _ (by omega)];omega
  rw [ew] at h3
  have h3:v3=Nt.of (10 ^ (-k).toNat):=h3
  have e:=xd (-k).toNat (by omega)
  have Vc:Nt.is v3=true:=by rw [h3];exact jg (i:=1400) e (by omega)
  rw [ab c,ae,ew,bx (aa ⟨by omega,by omega,by omega,by omega,kh (i:=1400) (k:=4096) e (by omega)⟩),hb,Vc]
  refine (bx (by rfl)).trans ?_
  rw [h4,h3,Nt.eY]
  unfold Sh.tA Sh.tB
  rw [show k.toNat=0 by omega,Nat.pow_zero,Nat.mul_one,Nt.dJ (Nt.jB ha)]
theorem fH.goal (a b:List UInt16) (x:Int) (hp:(Nt.is a&&Nt.is b&&decide (-400≤x∧x≤400∧Nt.val a<2 ^ 1100∧Nt.val b<2 ^ 1100))=true):fH.F a b x=some [.b (decide (Sh.tB (Nt.val b) (-x)≤Sh.tA (Nt.val a) (-x)))]:=by
 have Jr:=hp
 rw [af,af] at hp
 obtain ⟨⟨ha,hb⟩,hp⟩:=hp
 obtain ⟨k1,k2,k3,k4⟩:=aq hp
 refine fH.bY _ _ _ ?_
 intro v1 h1 v2 h2 v3 h3
 have ew:IntKind.i64.wrap (0 - x)=-x:=by rw [i64_in _ (by omega)];omega
 rw [ew] at h1 h2 ⊢
 have i1:Nt.is v1=true:=by rw [h1];exact jg (i:=2500) (Ka k3 (by omega)) (by omega)
 have i2:Nt.is v2=true:=by rw [h2];exact jg (i:=2500) (J9 k4 (by omega)) (by omega)
 rw [ha,hb,aa (⟨by omega,by omega,k3,k4⟩ : -400≤-x∧-x≤400∧Nt.val a<2 ^ 1100∧Nt.val b<2 ^ 1100),i1,i2]
 refine (bx (by rfl)).trans ((bx (by rfl)).trans ?_)
 rw [h3,h1,h2,Nt.eY,Nt.eY]
 rcases pd (Sh.tA (Nt.val a) (-x)) (Sh.tB (Nt.val b) (-x)) with ⟨k,l⟩ | ⟨k,l⟩ | ⟨k,l⟩
 ·rw [k,ab (by omega),ab (by omega)]
 ·rw [k,aa (by omega),aa (by omega)]
 ·rw [k,aa (by omega),aa (by omega)]
theorem La:(10:Nat) ^ 200<2 ^ 665:=by decide +kernel
theorem fG.goal (b:UInt64) (a:List UInt16) (p:Int) (hp:(Nt.is a&&decide (-1000≤p∧p≤1000∧0<Nt.val a∧Nt.val a<10 ^ 200))=true):fG.F b a p=some [.s ((Sh.kJ b.toNat (Nt.val a) p).getD ([],0)).1,.i .i64 ((Sh.kJ b.toNat (Nt.val a) p).getD ([],0)).2,.b (Sh.kJ b.toNat (Nt.val a) p).isSome]:=by
 rw [af] at hp
 obtain ⟨ha,hp⟩:=hp
 obtain ⟨k1,k2,k3,k4⟩:=aq hp
 refine fG.bY _ _ _ ?_
 intro v1 h1 v2 h2 v3 h3 v4 h4 v5 h5
 rw [Sh.vE] at h1 h2 ⊢
 rw [Sh.vJ]
 have hl:=Nr.iV 200 (Nt.val a) k4 (by omega)
 rw [Nr.yC] at h2
 have e1:IntKind.i64.wrap (v1+p)=(Nr.dec (Nt.val a)).length+p:=by rw [h1,i64_in _ (by omega)]
 rw [e1,h2,Sh.vK k3 (by omega)] at h3 h4
 have px:∀b:Bool,(!(!b) || ((!b)&&(!b)))=true∧(b || !b)=true:=by decide
 have O5:∀b:Bool,(!(!(!b)) || ((!(!b))&&(!(!b))))=true∧((!b) || (!(!b)))=true:=by decide
 rw [ha,bU,aa (show (Nr.dec (Nt.val a)).length≤1099511627776∧([48]:bz).length≤100 from ⟨by omega,by decide⟩)]
 refine (bx (by rfl)).trans ?_
 rw [bx (O5 _).1,bx (O5 _).2,e1]
 cases hq:Nr.rd (Nt.val a) p with
 | none =>
  rw [hq] at h4
  have e4:v4=false:=h4
  rw [e4] at h5
  have e5:v5=true:=h5
  rw [e5,Sh.pI (by rw [hq];simp)];rfl
 | some q =>
  have hle:q≤9218868437227405311:=by
   unfold Nr.rd at hq
   exact Nr.Jb hq
  rw [hq] at h3 h4
  have e4:v4=true:=h4
  have e3:v3=UInt64.ofNat q:=h3
  have Qv:v3.toNat=q:=by rw [e3,fA];omega
  rw [e4,aG,ae] at h5
  by_cases c:q=b.toNat
  ·have e5:v5=false:=by rw [h5,aa (gf (by rw [Qv,c]))];rfl
   rw [e5,Sh.lQ (by rw [hq,c]),h2];rfl
  ·have e5:v5=true:=by rw [h5,ab (fun e=>c (by rw [←Qv,e]))];rfl
   rw [e5,Sh.pI (by rw [hq];simp [c])];rfl
end Go.Eng
set_option maxRecDepth 20000
namespace Go.Eng
open Go.IntWalk
theorem Cu {d:List UInt16} {n:Nat} (hv:Nt.val d=n) (hl:d=[]∨65536 ^ (d.length - 1)≤n):d=Nt.of n:=by
 rw [←hv,Nt.dJ]
 rcases hl with h | h
 ·rw [h];rfl
 ·by_cases h0:d=[]
  ·rw [h0];rfl
  ·have Qh:=List.length_pos_iff.2 h0
   rw [mX h0]
   simp only [Bool.not_eq_true',decide_eq_false_iff_not]
   intro e0
   have Ih:=dA d (d.length - 1) (by omega)
   rw [show d.length - 1+1=d.length by omega,List.take_length,e0] at Ih
   have gk:=Nt.iJ (d.take (d.length - 1))
   rw [aF,Nat.min_eq_left (by omega)] at gk
   have Pr:(0:UInt16).toNat=0:=rfl
   rw [Pr,Nat.mul_zero] at Ih
   omega
theorem K2 {a:List UInt16} (hn:Nt.norm a=true) (h0:a≠[]):65536 ^ (a.length - 1)≤Nt.val a:=by
 obtain ⟨h1,h2⟩:=mW hn h0
 have:65536 ^ (a.length - 1) * 1≤65536 ^ (a.length - 1) * (a.getD (a.length - 1) 0).toNat:=Nat.mul_le_mul_left _ h1
 omega
theorem cP.jd (a b:List UInt16) (ha:a.length≤1000000) (ES:b.length≤a.length) (hn:Nt.norm a=true):∀(m i:Nat) (d:List UInt16) (k:Nat),i+m=a.length→d.length=i→k≤1→Nt.val d+65536 ^ i * k=Nt.val (a.take i)+Nt.val (b.take i) →
  cP.l2 b k a.length i (d++a.drop i)=some [.sl .ws (Nt.of (Nt.val a+Nt.val b))]:=by
 intro m
 induction m with
 | zero =>
  intro i d k hi hl hk hv
  have hi:i=a.length:=hi
  subst hi
  refine cP.iu _ _ _ _ _ ?_
  intro v1 h1 v2 h2 v3 h3 v4 h4 v5 h5 v6 h6
  rw [List.take_of_length_le (Nat.le_refl _),List.take_of_length_le ES] at hv
  rw [ab (by omega),ae,List.drop_length,bj]
  by_cases c0:k=0
  ·subst c0
   rw [Nat.mul_zero,Nat.add_zero] at hv
   have:d=Nt.of (Nt.val a+Nt.val b):=Cu hv (by
    by_cases h0:a=[]
    ·left;rw [h0] at hl;exact List.length_eq_zero_iff.1 hl
    ·right;rw [hl];have:=K2 hn h0;omega)
   rw [ab (by omega),ae,cP.wi,←this]
  ·have RS:k=1:=by omega
   subst RS
   have e6:v6=[(1:UInt16)]:=h6
   rw [aa (by omega),ah,e6,bx (dP (by rw [ay];omega) (by rw [ay];omega)),cP.wi]
   have hv2:Nt.val (d++[1])=Nt.val a+Nt.val b:=by
    rw [Nt.gh,hl,←hv];rfl
   have:d++[1]=Nt.of (Nt.val a+Nt.val b):=Cu hv2 (.inr (by
    rw [aj,ay,Nat.add_sub_cancel,hl];omega))
   rw [this]
 | succ m ih =>
  intro i d k hi hl hk hv
  refine cP.iu _ _ _ _ _ ?_
  intro v1 h1 v2 h2 v3 h3 v4 h4 v5 h5 v6 h6
  rw [ak] at h1 h3
  have Qm:a.drop i=a.getD i 0 :: a.drop (i+1):=drop_cons (by omega) 0
  have hL:(d++a.drop i).length=a.length:=by rw [aj,aV];omega
  have e1:v1=a.getD i 0:=by
   rw [h1,ai,aR (by omega),hl,Nat.sub_self,Qm];rfl
  have hd:=v1.toNat_lt
  have hd3:=v3.toNat_lt
  rw [i64_in _ (by omega)] at h2 h4
  have hx:bD (i:Int) (d++a.drop i).length=true:=bN (by omega) (by omega)
  have Ks:decide ((i:Int).toNat<(d++a.drop i).length)=true:=aa (by omega)
  have Jp:∀y:UInt16,(d++a.drop i).set i y=(d++[y])++a.drop (i+1):=fun y=>by
   rw [List.set_append_right _ _ (by omega),hl,Nat.sub_self,Qm,aE];rfl
  have next:∀q:Nat,q≤131071→q=k+v1.toNat+(if i<b.length then (b.getD i 0).toNat else 0)→cP.j3 b q i a.length i (d++a.drop i)=some [.sl .ws (Nt.of (Nt.val a+Nt.val b))]:=by
   intro q vu hq
   refine cP.qw _ _ _ _ _ _ ?_
   intro w1 g1 w2 g2 w3 g3
   rw [ak,om,Jp] at g1
   have e2:w2=((q / 65536:Nat):Int):=by rw [g2];exact xL q
   have e3:w3=((i+1:Nat):Int):=by rw [g3,i64_in _ (by omega)];omega
   rw [hx,Ks,bU,bU,g1,e2,e3]
   refine ih (i+1) _ _ (by omega) (by rw [aj,hl];rfl) (by omega) ?_
   have hb:Nt.val (b.take (i+1))=Nt.val (b.take i)+65536 ^ i * (if i<b.length then (b.getD i 0).toNat else 0):=by
    by_cases c:i<b.length
    ·rw [au c,dA b i c]
    ·rw [ao c,List.take_of_length_le (by omega),List.take_of_length_le (by omega)];omega
   rw [hb,dA a i (by omega),←e1,Nt.gh,hl]
   simp only [Nt.val,Nat.mul_zero,Nat.add_zero,Nt.dI]
   rw [Nat.pow_succ,Nat.mul_assoc,Nat.add_assoc,←Nat.mul_add]
   have:q % 65536+65536 * (q / 65536)=q:=Nat.mod_add_div q 65536
   rw [this,hq,Nat.mul_add,Nat.mul_add]
   omega
  rw [aa (by omega),ah,hx,Ks,bU,bU]
  by_cases c:i<b.length
  ·have e5:v5=((k+v1.toNat+v3.toNat:Nat):Int):=by
    rw [h5,h2,h4,i64_in ((k:Int)+v1.toNat) (by omega),i64_in _ (by omega)];omega
   rw [aa (by omega),ah,bx (bN (by omega) (by omega)),e5]
   exact next _ (by omega) (by rw [au c,h3])
  ·have e5:IntKind.i64.wrap ((k:Int)+v2)=((k+v1.toNat:Nat):Int):=by rw [h2,i64_in _ (by omega)];omega
   rw [ab (by omega),ae,e5]
   exact next _ (by omega) (by rw [ao c,Nat.add_zero])
theorem cP.goal (a b:List UInt16) (hp:(Nt.is a&&Nt.is b)=true):cP.F a b=some [.sl .ws (Nt.of (Nt.val a+Nt.val b))]:=by
 rw [af] at hp
 obtain ⟨ha,hb⟩:=hp
 have la:=Nt.jH ha
 have lb:=Nt.jH hb
 refine cP.bY _ _ ?_
 intro v1 h1
 have e1:v1=false:=by rw [h1,ha,hb];rfl
 have key:∀a b:List UInt16,Nt.is a=true→Nt.is b=true→b.length≤a.length→cP.j1 a b=some [.sl .ws (Nt.of (Nt.val a+Nt.val b))]∧True:=fun a b ha hb h=>⟨by
  have la:=Nt.jH ha
  have:=cP.jd a b (by omega) h (Nt.jB ha) a.length 0 [] 0 (by omega) rfl (by omega) (by simp [Nt.val])
  rw [bh,bq] at this
  rw [cP.lg]
  first
  | (rw [bx (dP (by omega) (by omega))];exact this)
  ,trivial⟩
 rw [bx (aa (by omega)),ha,bx (by rw [aa (show b.length≤1099511627776 by omega)];rfl),bx (by rfl),bx (by rfl),e1,ae]
 by_cases c:(a.length:Int)<b.length
 ·rw [aa c,ah]
  first
  | exact ((key b a hb ha (by omega)).1).trans (by rw [Nat.add_comm])
  | exact (key a b ha hb (by omega)).1
 ·rw [ab c,ae]
  first
  | exact (key a b ha hb (by omega)).1
  | exact ((key b a hb ha (by omega)).1).trans (by rw [Nat.add_comm])
theorem Hp {n:Nat} (h:10000≤n):Nr.dec n=Nr.dec (n / 10000)++(Sh.eK (4 - ((Nr.dec (n % 10000)).length:Int))++Nr.dec (n % 10000)):=by
 obtain ⟨q1,q2,q3,q4⟩:=Nr.j8 (n / 10000)
 obtain ⟨r1,r2,r3,r4⟩:=Nr.j8 (n % 10000)
 have rl:=Nr.iV 4 (n % 10000) (by show n % 10000<10000;omega) (by omega)
 have hz:=Sh.qP (4 - ((Nr.dec (n % 10000)).length:Int))
 have D9:(Sh.eK (4 - ((Nr.dec (n % 10000)).length:Int))++Nr.dec (n % 10000)).length=4:=by
  unfold Sh.eK;rw [aj,List.length_replicate];omega
 have Rk:Nr.num (Sh.eK (4 - ((Nr.dec (n % 10000)).length:Int)))=0:=Nr.kn _
 have Mb:Nr.num (Nr.dec (n / 10000)++(Sh.eK (4 - ((Nr.dec (n % 10000)).length:Int))++Nr.dec (n % 10000)))=n:=by
  rw [Nr.ia,D9,Nr.ia,Rk,q2,r2,Nat.zero_mul,Nat.zero_add]
  show n / 10000 * 10000+_=n
  omega
 have hu:=Nr.pW _ (Nr.dec (n / 10000)++(Sh.eK (4 - ((Nr.dec (n % 10000)).length:Int))++Nr.dec (n % 10000))) rfl (by rw [List.all_append,List.all_append,q1,hz,r1];rfl) (by simp [q3]) (by
  rw [ai,List.getElem?_append_left (List.length_pos_iff.2 q3),←ai];exact q4 (by omega))
 rw [Mb] at hu
 exact hu.symm
theorem FR {n K:Nat} (h:n<10000 ^ K):(Nt.of n).length≤K:=(Nt.kj n K).2 (Nat.lt_of_lt_of_le h (Nat.pow_le_pow_left (by omega) K))
theorem dc.cO:∀(K n:Nat) (ps:List bz),n<10000 ^ K→(n=0→ps≠[])→ps.length+K≤5000→(ps.map List.length).sum≤4 * ps.length →
  dc.l1 (Nt.of n) ps=some [.s ((if n=0 then [] else Nr.dec n)++ps.reverse.flatten)]:=by
 intro K
 induction K with
 | zero =>
  intro n ps hn h0 hl hs
  have S8:n=0:=by rw [Nat.pow_zero] at hn;omega
  exact fin n ps S8 (h0 S8) (by omega) hs
 | succ K ih =>
  intro n ps hn h0 hl hs
  by_cases c:n=0
  ·exact fin n ps c (h0 c) (by omega) hs
  ·refine dc.bX _ _ ?_
   intro v1 h1 v2 h2 v3 h3 v4 h4 v5 h5 v6 h6
   rw [Nt.eY] at h1 h2
   have h1:v1=Nt.of (n / 10000):=h1
   have e2:v2.toNat=n % 10000:=by
    rw [h2,Nt.dI];show n % 10000 % 65536=_;omega
   have e3:v3=((n % 10000:Nat):Int):=by rw [h3,e2,i64_in _ (by omega)]
   have ei:Nr.itoa v3=Nr.dec (n % 10000):=by rw [(Sh.o8 (by omega)).1,e3,ak]
   have i3:Nr.i64 v3=true:=aa (by omega)
   have rl:=Nr.iV 4 (n % 10000) (by show n % 10000<10000;omega) (by omega)
   have e5:v5=4 - ((Nr.dec (n % 10000)).length:Int):=by rw [h5,h4,ei,i64_in _ (by omega)]
   have hL:=FR hn
   have pT:0<(Nt.of n).length:=by rw [Nt.lR (by omega)];simp
   have hq:n / 10000<10000 ^ K:=by
    rw [Nat.div_lt_iff_lt_mul (by omega),←Nat.pow_succ];exact hn
   have iS:((10000:UInt16)≠0):=by decide
   rw [aa (show (0:Int)<((Nt.of n).length:Int) by omega),ah,bx (aa ⟨by omega,iS⟩),i3,bU,h1]
   by_cases c1:n / 10000=0
   ·rw [c1,Nt.iU]
    rw [ab (by simp),ae,dc.lf,bx (dP (by rw [ay];omega) (by rw [ay];omega)),ei]
    have:=ih 0 (ps++[Nr.dec (n % 10000)]) (by exact Nat.pow_pos (by omega)) (fun _=>by simp) (by rw [aj,ay];omega) (by
     rw [List.map_append,List.sum_append,aj,ay]
     simp only [aX,bw,List.sum_cons,List.sum_nil];omega)
    rw [Nt.iU] at this
    rw [this,au rfl,ao c,List.reverse_append,List.reverse_singleton,List.singleton_append,List.flatten_cons,show n % 10000=n by omega];rfl
   ·have OG:0<(Nt.of (n / 10000)).length:=by rw [Nt.lR (by omega)];simp
    have D9:(Sh.eK v5).length≤4:=by unfold Sh.eK;rw [List.length_replicate];omega
    have e6:v6.length=4:=by
     rw [h6,ei,e5];unfold Sh.eK;rw [aj,List.length_replicate];omega
    rw [aa (by omega),ah,bx (aa ⟨rfl,by omega,by omega⟩),bx (aa (by rw [ei];omega)),dc.lf,bx (dP (by rw [ay];omega) (by rw [ay];omega))]
    rw [ih (n / 10000) (ps++[v6]) hq (fun h=>(c1 h).elim) (by rw [aj,ay];omega) (by
     rw [List.map_append,List.sum_append,aj,ay]
     simp only [aX,bw,List.sum_cons,List.sum_nil];omega)]
    rw [ao c1,ao c,List.reverse_append,List.reverse_singleton,List.singleton_append,List.flatten_cons,Hp (show 10000≤n by omega),h6,ei,e5]
    simp only [aE]
where
 fin (n:Nat) (ps:List bz) (h:n=0) (h0:ps≠[]) (hl:ps.length≤5000) (hs:(ps.map List.length).sum≤4 * ps.length):dc.l1 (Nt.of n) ps=some [.s ((if n=0 then [] else Nr.dec n)++ps.reverse.flatten)]:=by
  subst h
  rw [Nt.iU]
  refine dc.bX _ _ ?_
  intro v1 h1 v2 h2 v3 h3 v4 h4 v5 h5 v6 h6
  have he:ps.isEmpty=false:=by cases ps <;> simp at h0 ⊢
  have hf:ps.reverse.flatten.length≤20000:=by
   rw [List.length_flatten,List.map_reverse,List.sum_reverse];omega
  rw [ab (by simp),ae,bx (aa (show ps.length≤100000 by omega))]
  rw [bx (aa ⟨rfl,by rw [List.length_reverse];omega,by omega⟩),au rfl];rfl
theorem IA:(2:Nat) ^ 4096≤10000 ^ 2000:=by decide +kernel
theorem dc.goal (a:List UInt16) (hp:Nt.is a=true):dc.F a=some [.s (Sh.qY (Nt.val a))]:=by
 have hl:=Nt.jH hp
 rw [dc.dW,bx (aa (by omega)),hp,Sh.vE]
 refine Eq.trans (b:=_) (ae _ _) ?_
 by_cases c:a=[]
 ·subst c
  show _=some [TV.s (Nr.dec 0)]
  rw [Nr.nn (by omega)];rfl
 ·have h0:=List.length_pos_iff.2 c
  have pT:=Nt.qn (Nt.jB hp) c
  rw [ab (by omega),ae]
  have:=dc.cO 2000 (Nt.val a) [] (Nat.lt_of_lt_of_le (Nt.is_lt hp) IA) (fun h=>by omega) (by simp) (by simp)
  rw [Nt.dJ (Nt.jB hp),ao (by omega)] at this
  rw [this];simp
end Go.Eng
set_option maxRecDepth 20000
namespace Go.Eng
open Go.IntWalk
open Nr (V nI sh top je rd)
theorem E8 (N:Nat):(UInt16.ofNat N % 2=0) ↔ N % 2=0:=by
 constructor
 ·intro h
  have:=congrArg UInt16.toNat h
  rw [UInt16.toNat_mod,Nt.dI] at this
  have e:N % 65536 % 2=0:=this
  omega
 ·intro h
  apply UInt16.toNat_inj.1
  rw [UInt16.toNat_mod,Nt.dI]
  show N % 65536 % 2=0
  omega
theorem J8:(10:Nat) ^ 17<10 ^ 200:=by decide +kernel
theorem gJ.goal (b:UInt64) (p q:List UInt16) (x n:Int) (hp:(Nt.is p&&Nt.is q&&Sh.oY (Nt.val p) (Nt.val q) x n)=true):gJ.F b p q x n=some [.s ((Sh.pA b.toNat (Nt.val p) (Nt.val q) x n).getD ([],0)).1,.i .i64 ((Sh.pA b.toNat (Nt.val p) (Nt.val q) x n).getD ([],0)).2,.b (Sh.pA b.toNat (Nt.val p) (Nt.val q) x n).isSome]:=by
 rw [af,af] at hp
 obtain ⟨⟨ha,hb⟩,hp⟩:=hp
 unfold Sh.oY at hp
 obtain ⟨n1,n2,x1,x2,a0,a1,b0,b1,r1,r2⟩:=aq hp
 rw [Sh.tU]
 refine gJ.bY _ _ _ _ _ ?_
 intro v1 h1 v2 h2 v3 h3 v4 h4 v5 h5 v6 h6 v7 h7 v8 h8 v9 h9 v10 iS v11 kA v12 jM kq nr jh oa jb nV lA sw tG zS tF wv wX ET
 have ew:IntKind.i64.wrap (n - x)=n - x:=i64_in _ (by omega)
 have Wq:IntKind.i64.wrap (x - n)=x - n:=i64_in _ (by omega)
 have hP:=Ka (k:=n - x) a1 (by omega)
 have hQ:=J9 (k:=n - x) b1 (by omega)
 have Mu:0<Sh.tB (Nt.val q) (n - x):=Sh.xe b0 _
 rw [ew] at h1 h2 ⊢
 rw [Wq] at h5 h6 h7 iS kA jM ⊢
 unfold Sh.some_
 simp only
 generalize Mv:Sh.tA (Nt.val p) (n - x)=P at *
 generalize YN:Sh.tB (Nt.val q) (n - x)=Q at *
 have w1:Nt.val v1=P:=by rw [h1,Nt.eY]
 have w2:Nt.val v2=Q:=by rw [h2,Nt.eY]
 rw [w1,w2] at h3 h4
 have w3:Nt.val v3=P / Q:=by rw [h3,Nt.eY]
 have w4:Nt.val v4=P % Q:=by rw [h4,Nt.eY]
 have w8:Nt.val v8=1:=by rw [h8,Nt.eY];rfl
 rw [w3,w8] at h9
 have w9:Nt.val v9=P / Q+1:=by rw [h9,Nt.eY]
 rw [w3] at h5 h6 h7 ⊢
 rw [w9] at iS kA jM ⊢
 rw [w4] at nr
 have UT:Nt.val kq=P % Q * 2:=by rw [nr,Nt.eY];rfl
 rw [UT,w2] at oa
 have N1:1≤P / Q:=(Nat.le_div_iff_mul_le Mu).2 (by omega)
 have N2:P / Q<10 ^ 17:=(Nat.div_lt_iff_lt_mul Mu).2 r2
 have N3:P / Q<2 ^ 2500:=Nat.lt_of_le_of_lt (Nat.div_le_self _ _) hP
 have N4:P / Q+1<10 ^ 200:=Nat.lt_of_le_of_lt (Nat.succ_le_of_lt N2) J8
 have R1:P % Q<2 ^ 2500:=Nat.lt_trans (Nat.mod_lt _ Mu) hQ
 have i1:Nt.is v1=true:=by rw [h1];exact jg (i:=2500) hP (by omega)
 have i2:Nt.is v2=true:=by rw [h2];exact jg (i:=2500) hQ (by omega)
 have i3:Nt.is v3=true:=by rw [h3];exact jg (i:=2500) N3 (by omega)
 have i4:Nt.is v4=true:=by rw [h4];exact jg (i:=2500) R1 (by omega)
 have i8:Nt.is v8=true:=by rw [h8];exact jg (i:=1) (by decide) (by omega)
 have i9:Nt.is v9=true:=by rw [h9];exact jg (i:=665) (Nat.lt_trans N4 La) (by omega)
 have i13:Nt.is kq=true:=by
  rw [nr]
  exact jg (i:=2502) (nG (i:=2500) (j:=2) (k:=2502) R1 (by decide) (by omega)) (by omega)
 have U9:v2≠[]:=by intro e;rw [e] at w2;simp [Nt.val] at w2;omega
 have U8:v3≠[]:=by intro e;rw [e] at w3;simp [Nt.val] at w3;omega
 have l3:=List.length_pos_iff.2 U8
 have Sr:tG=UInt16.ofNat (P / Q):=by rw [zS,h3,Nt.lR (by omega)];rfl
 have c1:(decide (-400≤n - x∧n - x≤400∧Nt.val p<2 ^ 1100∧Nt.val q<2 ^ 1100))=true:=aa ⟨by omega,by omega,a1,b1⟩
 have c3:(decide (-1000≤x - n∧x - n≤1000∧0<P / Q∧P / Q<10 ^ 200))=true:=aa ⟨by omega,by omega,by omega,Nat.lt_trans N2 J8⟩
 have c9:(decide (-1000≤x - n∧x - n≤1000∧0<P / Q+1∧P / Q+1<10 ^ 200))=true:=aa ⟨by omega,by omega,by omega,N4⟩
 have hx:bD (0:Int) v3.length=true:=bN (by omega) (by omega)
 rw [ha,hb,c1,i1,i2,aa U9,i3,c3,i8,i9,c9,i4,i13,hx]
 refine (bx (by rfl)).trans ((bx (by rfl)).trans ((bx (by rfl)).trans ((bx (by rfl)).trans ((bx (by rfl)).trans ((bx (by rfl)).trans ((bx (by rfl)).trans ?_))))))
 have Sq:tF=decide (P % Q * 2=Q∧P / Q % 2=0):=by
  have e0:decide (UInt16.ofNat (P / Q) % 2=0)=decide (P / Q % 2=0):=aY.2 (E8 _)
  rw [wv,Sr,e0,oa]
  rcases pd (P % Q * 2) Q with ⟨k,l⟩ | ⟨k,l⟩ | ⟨k,l⟩
  ·rw [k,ab (by decide),ae,ab (by omega)]
  ·rw [k,aa (by decide),ah,aY];omega
  ·rw [k,ab (by decide),ae,ab (by omega)]
 have Hn:decide (jh<0)=decide (P % Q * 2<Q):=by
  rw [oa,aY]
  rcases pd (P % Q * 2) Q with ⟨k,l⟩ | ⟨k,l⟩ | ⟨k,l⟩ <;> rw [k] <;> omega
 rw [Hn] at nV
 have hB:∀v7 v12 jb c:Bool,(!v7 || v7)=true∧(!(v7&&(!(!v12))) || (v7&&(!(!v12))))=true∧(!v7 || (v7&&((!v12) || (v7&&(!(!v12))))))=true∧(!(v7&&(!jb)) || (v7&&(!jb)))=true∧(!((v7&&(!jb))&&c) || (((v7&&(!jb))&&c)&&true))=true∧(!((v7&&(!jb))&&c) || ((v7&&(!jb))&&c))=true ∧
   (!(v7&&(!jb)) || ((v7&&(!jb))&&(!c || ((v7&&(!jb))&&c))))=true∧(!v7 || (v7&&(jb || (v7&&(!jb)))))=true:=by decide
 obtain ⟨t1,t2,t3,t4,t5,t6,t7,t8⟩:=hB v7 v12 jb (decide (jh=0))
 rw [←sw] at t5 t6 t7
 have hz:(!decide ((2:UInt16)=0))=true:=rfl
 rw [hz,bx t1,bx t1,bx t2,bx t3,bx t1,bx t4,bx t4,bx t5,bx t6,bx t5,bx t6,bx t7,bx t8,bx t1]
 rw [Sh.vJ] at h5 h6 h7 iS kA jM
 generalize Sh.reads b.toNat (P / Q) (x - n)=u at *
 generalize Sh.reads b.toNat (P / Q+1) (x - n)=o at *
 have Pq:wX=decide (u.isSome=true∧(o.isSome=false∨2 * (P % Q)<Q∨(2 * (P % Q)=Q∧P / Q % 2=0))):=by
  rw [ET,nV,Sq,h7,jM]
  have q1:decide (P % Q * 2<Q)=decide (2 * (P % Q)<Q):=aY.2 (by omega)
  have q2:decide (P % Q * 2=Q∧P / Q % 2=0)=decide (2 * (P % Q)=Q∧P / Q % 2=0):=aY.2 (by omega)
  rw [q1,q2]
  by_cases k1:2 * (P % Q)<Q <;> by_cases k2:(2 * (P % Q)=Q∧P / Q % 2=0) <;> cases u.isSome <;> cases o.isSome <;> simp [k1,k2]
 by_cases hc:u.isSome=true∧(o.isSome=false∨2 * (P % Q)<Q∨(2 * (P % Q)=Q∧P / Q % 2=0))
 ·rw [Pq,aa hc,ah,au hc,h5,h6,hc.1]
 ·rw [Pq,ab hc,ae,ao hc,iS,kA,jM]
theorem vb (b:UInt64):(b &&& ~~~(9223372036854775808:UInt64)).toNat=Sh.kx b:=by
 have e:(~~~(9223372036854775808:UInt64))=9223372036854775807:=by decide
 rw [e,UInt64.toNat_and]
 exact Nat.and_two_pow_sub_one_eq_mod b.toNat 63
theorem vG {b:UInt64} (h:(Nr.split b).1=2):0<Sh.kx b∧Sh.kx b≤top∧(Nr.split b).2.2.1.toNat=nI (Sh.kx b)∧(Nr.split b).2.2.2=(sh (Sh.kx b):Int) - 1074:=by
 have hb:=b.toNat_lt
 have hx:b.toNat / 4503599627370496 % 2048=Sh.kx b / 4503599627370496:=by unfold Sh.kx;omega
 have hf:b.toNat % 4503599627370496=Sh.kx b % 4503599627370496:=by unfold Sh.kx;omega
 have hm:Sh.kx b<9223372036854775808:=Nat.mod_lt _ (by omega)
 unfold Nr.split at h ⊢
 simp only [hx,hf] at h ⊢
 generalize Sh.kx b=p at *
 unfold nI sh top
 by_cases c1:p / 4503599627370496=2047
 ·rw [au c1] at h
  by_cases c2:p % 4503599627370496=0
  ·rw [au c2] at h;simp at h
  ·rw [ao c2] at h;simp at h
 ·rw [ao c1] at h ⊢
  by_cases c2:p / 4503599627370496=0
  ·rw [au c2] at h ⊢
   by_cases c3:p % 4503599627370496=0
   ·rw [au c3] at h;simp at h
   ·rw [ao c3,au (show p<4503599627370496 by omega)]
    refine ⟨by omega,by omega,?_,?_⟩
    ·show (UInt64.ofNat _).toNat=_;rw [fA];omega
    ·show (-1074:Int)=_;omega
  ·rw [ao c2,ao (show ¬p<4503599627370496 by omega)]
   refine ⟨by omega,by omega,?_,?_⟩
   ·show (UInt64.ofNat _).toNat=_;rw [fA];omega
   ·show ((p / 4503599627370496:Nat):Int) - 1075=_;omega
def xF (i:Nat):Bool :=
 let k:Int:=(i:Int) - 1100
 let x:=Int.tdiv (k * 30103) 100000 - 2
 decide (10 ^ (x - 1).toNat * 2 ^ (-(k - 1)).toNat≤2 ^ (k - 1).toNat * 10 ^ (-(x - 1)).toNat)&&decide (-390≤x)
theorem Ei:∀i,i<2201→xF i=true:=by
 have h:(List.range 2201).all xF=true:=by decide +kernel
 intro i hi
 exact aD.1 h i (List.mem_range.2 hi)
end Go.Eng
set_option maxRecDepth 20000
namespace Go.Eng
open Go.IntWalk
open Nr (V nI sh top je rd)
theorem nJ (a b:Int):a<b∨b≤a:=by omega
theorem At (n:Nat) (h:0<n):2 ^ (Nt.bits n - 1)≤n∧n<2 ^ Nt.bits n∧0<Nt.bits n:=Nt.jy h
theorem Cp {a b:Nat} (h:a<b):2 ^ a<2 ^ b:=Nat.pow_lt_pow_right (by omega) h
theorem vf (p:Nat) (ht:p≤top):Sh.jO p<2 ^ 1100∧Sh.iG p<2 ^ 1100∧Nt.bits (Sh.jO p)≤1100∧Nt.bits (Sh.iG p)≤1080:=by
 have h1:=Nr.uy p
 have h2:=Nr.A4 ht
 have hm:nI p<2 ^ 53:=h1
 have ha:Sh.jO p<2 ^ 1100:=nG (i:=53) (j:=972) (k:=1100) hm (Cp (b:=972) (by omega)) (by omega)
 have hb:Sh.iG p<2 ^ 1080:=Cp (b:=1080) (by omega)
 refine ⟨ha,kh (i:=1080) (k:=1100) hb (by omega),?_,?_⟩
 ·exact Nt.kQ (k:=1100) ha
 ·exact Nt.kQ (k:=1080) hb
theorem K8:(2:Nat) ^ 1024<10 ^ 310:=by decide +kernel
theorem K7:(2:Nat) ^ 1074<10 ^ 330:=by decide +kernel
theorem H5 {p:Nat} (h:p≤top):V p<2 ^ 1024 * 2 ^ 1074:=by
 have h1:=Nr.PH h
 have h2:=Nr.pn top
 have h3:V (top+1)=2 ^ 1024 * 2 ^ 1074:=by decide +kernel
 rw [←h3]
 exact Nat.lt_of_le_of_lt h1 h2
theorem Pt {a b A K T V':Nat} (hb:0<b) (h:a * K=V' * b) (hV:V'<T * K) (hA:T<A):a<A * b:=by
 by_cases c:K=0
 ·subst c;rw [Nat.mul_zero] at hV;omega
 ·have hK:0<K:=by omega
  refine Nat.lt_of_mul_lt_mul_right (a:=K) ?_
  rw [h]
  have:V' * b<T * K * b:=Nat.mul_lt_mul_of_pos_right hV hb
  refine Nat.lt_trans this ?_
  rw [Nat.mul_right_comm]
  exact Nat.mul_lt_mul_of_pos_right (Nat.mul_lt_mul_of_pos_right hA hb) hK
theorem Ps {a b A K V':Nat} (ha:0<a) (h:a * K=V' * b) (hV:0<V') (hA:K<A):b<a * A:=by
 have h1:1 * b≤V' * b:=av _ hV
 have h2:a * K<a * A:=Nat.mul_lt_mul_of_pos_left hA ha
 omega
theorem MT {a b n d:Nat} (hn:n≤d) (h:10 ^ d * b≤a) (g:a<10 ^ n * b):False:=by
 have:=av b (Nr.mK hn)
 omega
theorem xO {p:Nat} (hp:0<p) (ht:p≤top) : -330≤Sh.dx p∧Sh.dx p≤311:=by
 obtain ⟨h1,h2⟩:=Sh.C1 hp
 have ES:=Sh.KS p
 have hb:=Sh.mJ p
 have hV:0<V p:=by have:=Nr.AF hp;omega
 have ha:0<Sh.jO p:=Nat.mul_pos (Sh.sT hp) (Nat.two_pow_pos _)
 constructor
 ·rcases nJ (Sh.dx p) (-330) with c | c
  ·exfalso
   have g:=Ps ha ES hV K7
   have e0:(Sh.dx p).toNat=0:=by omega
   rw [e0,Nat.pow_zero,Nat.one_mul] at h2
   have e1:Sh.jO p * 10 ^ 330≤Sh.jO p * 10 ^ (-(Sh.dx p)).toNat:=Nat.mul_le_mul_left _ (Nr.mK (a:=330) (by omega))
   exact Nat.lt_irrefl _ (Nat.lt_trans g (Nat.lt_of_le_of_lt e1 h2))
  ·exact c
 ·rcases nJ 311 (Sh.dx p) with c | c
  ·exfalso
   have g:=Pt hb ES (H5 ht) K8
   have e0:(-(Sh.dx p - 1)).toNat=0:=by omega
   rw [e0,Nat.pow_zero,Nat.mul_one] at h1
   exact MT (n:=310) (by omega) h1 g
  ·exact c
theorem pk {p:Nat} (hp:0<p) (x:Int):Sh.tB (Sh.iG p) (-x)≤Sh.tA (Sh.jO p) (-x) ↔ x<Sh.dx p:=by
 obtain ⟨h1,h2⟩:=Sh.C1 hp
 have hb:=Sh.xe (Sh.mJ p) (-x)
 constructor
 ·intro h
  rcases nJ x (Sh.dx p) with c | c
  ·exact c
  ·exfalso
   have key:Sh.tA (Sh.jO p) (-x)<Sh.tB (Sh.iG p) (-x):=by
    unfold Sh.tA Sh.tB
    refine Nat.lt_of_mul_lt_mul_right (a:=10 ^ (-(Sh.dx p)).toNat) ?_
    rw [Nat.mul_right_comm]
    refine Nat.lt_of_lt_of_le (Nat.mul_lt_mul_of_pos_right h2 (Nr.fT _)) ?_
    rw [Nat.mul_comm (10 ^ (Sh.dx p).toNat),Nat.mul_assoc,Nat.mul_assoc,←Nat.pow_add,←Nat.pow_add]
    exact Nat.mul_le_mul_left _ (Nr.mK (by omega))
   omega
 ·intro h
  have h3:10 ^ (Sh.dx p - 1).toNat * Sh.iG p * 10 ^ (-x).toNat≤Sh.jO p * 10 ^ (-(Sh.dx p - 1)).toNat * 10 ^ (-x).toNat:=av _ h1
  unfold Sh.tA Sh.tB
  refine Nat.le_of_mul_le_mul_right (c:=10 ^ (-(Sh.dx p - 1)).toNat) ?_ (Nr.fT _)
  rw [Nat.mul_right_comm (Sh.jO p)]
  refine Nat.le_trans ?_ h3
  rw [Nat.mul_assoc,←Nat.pow_add,Nat.mul_comm (10 ^ (Sh.dx p - 1).toNat),Nat.mul_assoc,←Nat.pow_add]
  exact Nat.mul_le_mul_left _ (Nr.mK (by omega))
theorem GR {p:Nat} (hp:0<p) (ht:p≤top):Int.tdiv ((((Nt.bits (Sh.jO p):Nat):Int) - (Nt.bits (Sh.iG p):Nat)) * 30103) 100000 - 2≤Sh.dx p∧-390≤Int.tdiv ((((Nt.bits (Sh.jO p):Nat):Int) - (Nt.bits (Sh.iG p):Nat)) * 30103) 100000 - 2:=by
 have ha:0<Sh.jO p:=Nat.mul_pos (Sh.sT hp) (Nat.two_pow_pos _)
 obtain ⟨a1,a2,a3⟩:=At _ ha
 obtain ⟨b1,b2,b3⟩:=At _ (Sh.mJ p)
 obtain ⟨_,_,ba,bb⟩:=vf p ht
 obtain ⟨h1,h2⟩:=Sh.C1 hp
 generalize hi:(Nt.bits (Sh.jO p)+1100 - Nt.bits (Sh.iG p))=i
 have g:=Ei i (by omega)
 unfold xF at g
 have ek:(i:Int) - 1100=((Nt.bits (Sh.jO p):Nat):Int) - (Nt.bits (Sh.iG p):Nat):=by omega
 simp only [ek,af,aA] at g
 obtain ⟨g1,g2⟩:=g
 refine ⟨?_,g2⟩
 generalize Int.tdiv ((((Nt.bits (Sh.jO p):Nat):Int) - (Nt.bits (Sh.iG p):Nat)) * 30103) 100000 - 2=x at *
 rcases nJ (Sh.dx p) x with c | c
 ·exfalso
  generalize Nt.bits (Sh.jO p)=u at *
  generalize Nt.bits (Sh.iG p)=v at *
  generalize Sh.jO p=a at *
  generalize Sh.iG p=b at *
  generalize Sh.dx p=d at *
  -- 2^(u-1) * 10^(-d)<10^d * 2^v
  have s1:2 ^ (u - 1) * 10 ^ (-d).toNat<10 ^ d.toNat * 2 ^ v:=by
   refine Nat.lt_of_le_of_lt (av _ a1) (Nat.lt_trans h2 ?_)
   exact Nat.mul_lt_mul_of_pos_left b2 (Nr.fT _)
  -- 10^(x-1) * 2^(-(k-1)) <= 2^(k-1) * 10^(-(x-1)),2^(k-1)<10^d * ..,d <= x - 1
  have s5:10 ^ (x - 1).toNat * 2 ^ (-(((u:Nat):Int) - (v:Nat) - 1)).toNat * (2 ^ v * 10 ^ (-d).toNat)≤2 ^ (((u:Nat):Int) - (v:Nat) - 1).toNat * 10 ^ (-(x - 1)).toNat * (2 ^ v * 10 ^ (-d).toNat):=av _ g1
  have e4:2 ^ (((u:Nat):Int) - (v:Nat) - 1).toNat * 10 ^ (-(x - 1)).toNat * (2 ^ v * 10 ^ (-d).toNat)=(2 ^ (u - 1) * 10 ^ (-d).toNat) * (2 ^ (-(((u:Nat):Int) - (v:Nat) - 1)).toNat * 10 ^ (-(x - 1)).toNat):=by
   have:2 ^ (((u:Nat):Int) - (v:Nat) - 1).toNat * 2 ^ v=2 ^ (u - 1) * 2 ^ (-(((u:Nat):Int) - (v:Nat) - 1)).toNat:=Nr.yX (by omega)
   rw [show 2 ^ (((u:Nat):Int) - (v:Nat) - 1).toNat * 10 ^ (-(x - 1)).toNat * (2 ^ v * 10 ^ (-d).toNat)=(2 ^ (((u:Nat):Int) - (v:Nat) - 1).toNat * 2 ^ v) * (10 ^ (-(x - 1)).toNat * 10 ^ (-d).toNat) by simp only [Nat.mul_assoc,Nat.mul_comm,Nat.mul_left_comm],this]
   simp only [Nat.mul_assoc,Nat.mul_comm,Nat.mul_left_comm]
  rw [e4] at s5
  have s6:(2 ^ (u - 1) * 10 ^ (-d).toNat) * (2 ^ (-(((u:Nat):Int) - (v:Nat) - 1)).toNat * 10 ^ (-(x - 1)).toNat)<(10 ^ d.toNat * 2 ^ v) * (2 ^ (-(((u:Nat):Int) - (v:Nat) - 1)).toNat * 10 ^ (-(x - 1)).toNat):=Nat.mul_lt_mul_of_pos_right s1 (Nat.mul_pos (Nat.two_pow_pos _) (Nr.fT _))
  have s7:=Nat.lt_of_le_of_lt s5 s6
  have e5:10 ^ (x - 1).toNat * 2 ^ (-(((u:Nat):Int) - (v:Nat) - 1)).toNat * (2 ^ v * 10 ^ (-d).toNat)=10 ^ ((x - 1).toNat+(-d).toNat) * (2 ^ (-(((u:Nat):Int) - (v:Nat) - 1)).toNat * 2 ^ v):=by
   rw [Nat.pow_add 10];simp only [Nat.mul_assoc,Nat.mul_comm,Nat.mul_left_comm]
  have e6:10 ^ d.toNat * 2 ^ v * (2 ^ (-(((u:Nat):Int) - (v:Nat) - 1)).toNat * 10 ^ (-(x - 1)).toNat)=10 ^ (d.toNat+(-(x - 1)).toNat) * (2 ^ (-(((u:Nat):Int) - (v:Nat) - 1)).toNat * 2 ^ v):=by
   rw [Nat.pow_add 10];simp only [Nat.mul_assoc,Nat.mul_comm,Nat.mul_left_comm]
  rw [e5,e6] at s7
  have s8:=Sh.D5 (Nat.lt_of_mul_lt_mul_right s7)
  omega
 ·exact c
theorem bM.Gj (u:UInt64) (p:Nat) (hu:u.toNat=p) (hp:0<p) (ht:p≤top) (x2 x3:List UInt16) (i2:Nt.is x2=true) (i3:Nt.is x3=true) (w2:Nt.val x2=Sh.jO p) (w3:Nt.val x3=Sh.iG p) (n0:Nat) (hn:n0≤17) (h0:∀j:Nat,1≤j→j<n0→Sh.some_ p (Sh.jO p) (Sh.iG p) (Sh.dx p) j=none) (h1:Sh.some_ p (Sh.jO p) (Sh.iG p) (Sh.dx p) n0=some (Sh.digits p)) :
  ∀m i:Nat,i+m=n0→1≤i→bM.l3 u (Sh.dx p) x2 x3 i=some [.s (Sh.digits p).1,.i .i64 (Sh.digits p).2,.b true]:=by
 obtain ⟨d1,d2⟩:=xO hp ht
 obtain ⟨al,bl,_,_⟩:=vf p ht
 have ha:0<Sh.jO p:=Nat.mul_pos (Sh.sT hp) (Nat.two_pow_pos _)
 have pre:∀i:Nat,1≤i→i≤17→Sh.oY (Sh.jO p) (Sh.iG p) (Sh.dx p) i=true:=fun i h1 h2=>by
  obtain ⟨r1,r2⟩:=Sh.tH hp (n:=i) (by omega)
  have t1:1 * Sh.tB (Sh.iG p) (i - Sh.dx p)≤10 ^ ((i:Int) - 1).toNat * Sh.tB (Sh.iG p) (i - Sh.dx p):=av _ (Nr.fT _)
  have t2:10 ^ (i:Int).toNat * Sh.tB (Sh.iG p) (i - Sh.dx p)≤10 ^ 17 * Sh.tB (Sh.iG p) (i - Sh.dx p):=av _ (Nr.mK (by omega))
  unfold Sh.oY
  exact aa ⟨by omega,by omega,by omega,by omega,ha,al,Sh.mJ p,bl,by omega,Nat.lt_of_lt_of_le r2 t2⟩
 intro m
 induction m with
 | zero =>
  intro i hi Qu
  have hi:i=n0:=hi
  subst hi
  refine bM.uH _ _ _ _ _ ?_
  intro v1 g1 v2 g2 v3 g3 v4 g4
  rw [w2,w3,hu,Sh.tU,h1] at g1 g2 g3
  have e3:v3=true:=g3
  rw [i2,i3,w2,w3,pre i Qu hn,e3]
  refine (bx (by rfl)).trans ?_
  rw [Option.getD_some] at g1 g2
  rw [ah,g1,g2]
 | succ m ih =>
  intro i hi Qu
  refine bM.uH _ _ _ _ _ ?_
  intro v1 g1 v2 g2 v3 g3 v4 g4
  rw [w2,w3,hu,Sh.tU,h0 i Qu (by omega)] at g3
  have e3:v3=false:=g3
  have e4:v4=((i+1:Nat):Int):=by rw [g4,i64_in _ (by omega)];omega
  rw [i2,i3,w2,w3,pre i Qu (by omega),e3]
  refine (bx (by rfl)).trans ?_
  rw [ae,e4]
  exact ih (i+1) (by omega) (by omega)
theorem bM.jd (u:UInt64) (p:Nat) (hu:u.toNat=p) (hp:0<p) (ht:p≤top) (x2 x3:List UInt16) (i2:Nt.is x2=true) (i3:Nt.is x3=true) (w2:Nt.val x2=Sh.jO p) (w3:Nt.val x3=Sh.iG p) :
  ∀(m:Nat) (x:Int),x+m=Sh.dx p→-390≤x→bM.l2 u x x2 x3=some [.s (Sh.digits p).1,.i .i64 (Sh.digits p).2,.b true]:=by
 obtain ⟨d1,d2⟩:=xO hp ht
 obtain ⟨al,bl,_,_⟩:=vf p ht
 intro m
 induction m with
 | zero =>
  intro x hx Ks
  have hx:x=Sh.dx p:=by omega
  subst hx
  refine bM.iu _ _ _ _ ?_
  intro v1 g1
  have OI:¬(Sh.tB (Sh.iG p) (-(Sh.dx p))≤Sh.tA (Sh.jO p) (-(Sh.dx p))):=fun h=>by have:=(pk hp _).1 h;omega
  rw [i2,i3,w2,w3,aa (⟨by omega,by omega,al,bl⟩ : -400≤Sh.dx p∧Sh.dx p≤400∧Sh.jO p<2 ^ 1100∧Sh.iG p<2 ^ 1100)]
  refine (bx (by rfl)).trans ?_
  rw [ab OI,ae]
  obtain ⟨n,n1,n2,n3,n4⟩:=Sh.first hp ht
  exact bM.Gj u p hu hp ht x2 x3 i2 i3 w2 w3 n n2 n3 n4 (n - 1) 1 (by omega) (by omega)
 | succ m ih =>
  intro x hx Ks
  refine bM.iu _ _ _ _ ?_
  intro v1 g1
  have e1:v1=x+1:=by rw [g1,i64_in _ (by omega)]
  rw [i2,i3,w2,w3,aa (⟨by omega,by omega,al,bl⟩ : -400≤x∧x≤400∧Sh.jO p<2 ^ 1100∧Sh.iG p<2 ^ 1100)]
  refine (bx (by rfl)).trans ?_
  rw [aa ((pk hp x).2 (by omega)),ah,e1]
  exact ih (x+1) (by omega) (by omega)
theorem QW {α β γ:Type} (a:α) (b:β) (c:γ) (x:α × β × γ) (h:x=(a,b,c)):x.1=a∧x.2.1=b∧x.2.2=c:=by subst h;exact ⟨rfl,rfl,rfl⟩
theorem BM {b:UInt64} (h:(Nr.split b).1=2):(Sh.dg b).1=(Sh.digits (Sh.kx b)).1∧(Sh.dg b).2.1=(Sh.digits (Sh.kx b)).2∧(Sh.dg b).2.2=true :=
 QW _ _ _ _ ((Sh.KL b).trans (au h))
theorem MW {b:UInt64} (h:¬(Nr.split b).1=2):(Sh.dg b).1=[]∧(Sh.dg b).2.1=0∧(Sh.dg b).2.2=false:=by
 rw [Sh.KL]
 unfold Sh.Qz
 rw [ao h]
 exact ⟨rfl,rfl,rfl⟩
theorem bM.iz (u:UInt64) (p:Nat) (hu:u.toNat=p) (hp:0<p) (ht:p≤top) (x1 x2:List UInt16) (j1:Nt.is x1=true) (j2:Nt.is x2=true) (k1:Nt.val x1=Sh.jO p) (k2:Nt.val x2=Sh.iG p):bM.j1 u x1 x2=some [.s (Sh.digits p).1,.i .i64 (Sh.digits p).2,.b true]:=by
 obtain ⟨al,bl,ba,bb⟩:=vf _ ht
 refine bM.iR _ _ _ ?_
 intro u1 g1 u2 g2 u3 g3 u4 g4 u5 g5
 rw [k1] at g1
 rw [k2] at g2
 obtain ⟨q1,q2⟩:=GR hp ht
 obtain ⟨r1,r2⟩:=xO hp ht
 generalize hA:Nt.bits (Sh.jO p)=A at *
 generalize hB:Nt.bits (Sh.iG p)=B at *
 have e3:u3=((A:Int) - (B:Int)) * 30103:=by
  rw [g3,g1,g2,i64_in ((A:Int) - (B:Int)) (by omega),i64_in _ (by omega)]
 have e4:u4=Int.tdiv (((A:Int) - (B:Int)) * 30103) 100000:=by rw [g4,e3,i64_in _ (by omega)]
 have e5:u5=Int.tdiv (((A:Int) - (B:Int)) * 30103) 100000 - 2:=by rw [g5,e4,i64_in _ (by omega)]
 have hz:(!decide ((100000:Int)=0))=true:=by decide
 rw [j1,j2,bU,bU,hz,bU]
 rw [←e5] at q1 q2
 exact bM.jd u p hu hp ht x1 x2 j1 j2 k1 k2 (Sh.dx p - u5).toNat u5 (by omega) (by omega)
theorem bM.goal (b:UInt64):bM.F b=some [.s (Sh.dg b).1,.i .i64 (Sh.dg b).2.1,.b (Sh.dg b).2.2]:=by
 refine bM.bY _ ?_
 intro v1 h1 v2 h2 v3 h3 v4 h4 v5 h5 v6 h6
 by_cases c:(Nr.split b).1=2
 ·obtain ⟨z1,z2,z3⟩:=BM c
  rw [z1,z2,z3,aa c,aG,ae]
  clear z1 z2 z3
  obtain ⟨hp,ht,hm,he⟩:=vG c
  have hu:v1.toNat=Sh.kx b:=by rw [h1];exact vb b
  obtain ⟨al,bl,ba,bb⟩:=vf _ ht
  have L2:=Nr.A4 ht
  have Ed:=Nr.uy (Sh.kx b)
  rw [hm] at h2
  have w2:Nt.val v2=nI (Sh.kx b):=by rw [h2,Nt.eY]
  have w3:Nt.val v3=1:=by rw [h3,Nt.eY];rfl
  have i2:Nt.is v2=true:=by rw [h2];exact jg (i:=53) Ed (by omega)
  have i3:Nt.is v3=true:=by rw [h3];exact jg (i:=1) (by decide) (by omega)
  have key:∀x1 x2:List UInt16,Nt.is x1=true→Nt.is x2=true→Nt.val x1=Sh.jO (Sh.kx b)→Nt.val x2=Sh.iG (Sh.kx b)→bM.j1 v1 x1 x2=some [.s (Sh.digits (Sh.kx b)).1,.i .i64 (Sh.digits (Sh.kx b)).2,.b true]:=bM.iz v1 _ hu hp ht
  rw [he] at h4 h5 ⊢
  by_cases c2:0≤(sh (Sh.kx b):Int) - 1074
  ·have w4:Nt.val v4=Sh.jO (Sh.kx b):=by rw [h4,Nt.eY,w2];rfl
   have i4:Nt.is v4=true:=by rw [h4,w2];exact jg (i:=1100) al (by omega)
   have UR:Nt.val v3=Sh.iG (Sh.kx b):=by rw [w3];unfold Sh.iG;rw [show (-((sh (Sh.kx b):Int) - 1074)).toNat=0 by omega,Nat.pow_zero]
   rw [aa c2,ah,i2,aa (show 0≤(sh (Sh.kx b):Int) - 1074∧(sh (Sh.kx b):Int) - 1074≤4096 by omega)]
   refine (bx (by rfl)).trans ?_
   exact key v4 v3 i4 i3 w4 UR
  ·have e5:v5=-((sh (Sh.kx b):Int) - 1074):=by rw [h5,i64_in _ (by omega)];omega
   have w6:Nt.val v6=Sh.iG (Sh.kx b):=by rw [h6,Nt.eY,w3,e5,Nat.one_mul];rfl
   have i6:Nt.is v6=true:=by
    rw [h6,w3,e5,Nat.one_mul];exact jg (i:=1100) bl (by omega)
   have US:Nt.val v2=Sh.jO (Sh.kx b):=by rw [w2];unfold Sh.jO;rw [show ((sh (Sh.kx b):Int) - 1074).toNat=0 by omega,Nat.pow_zero,Nat.mul_one]
   rw [ab c2,ae,i3,e5,aa (show 0≤-((sh (Sh.kx b):Int) - 1074)∧-((sh (Sh.kx b):Int) - 1074)≤4096 by omega)]
   refine (bx (by rfl)).trans ?_
   exact key v2 v6 i2 i6 US w6
 ·obtain ⟨z1,z2,z3⟩:=MW c
  rw [z1,z2,z3,ab c];rfl
end Go.Eng
set_option maxRecDepth 20000
namespace Go.Eng
open Go.IntWalk
open Nr (V nI sh top je rd)
theorem qO (n:Int):(Sh.eK n).length=n.toNat:=by unfold Sh.eK;rw [List.length_replicate]
theorem zH {v:Int} (h : -1000000≤v∧v≤1000000):Nr.i64 v=true:=aa (by omega)
theorem dY.iz (x:Int) (t:bz) (hx : -900≤x∧x≤900) (ht:t.length≤1000):dY.j1 x t=some [.s (t++(if x<1 then [101,45]++Nr.itoa (1 - x) else [101,43]++Nr.itoa (x - 1)))]:=by
 refine dY.iR _ _ ?_
 intro v1 h1 v2 h2 v3 h3 v4 h4
 have e1:v1=1 - x:=by rw [h1,i64_in _ (by omega)]
 have e3:v3=x - 1:=by rw [h3,i64_in _ (by omega)]
 by_cases c:x<1
 ·have il:=Sh.ta (v:=1 - x) (by omega) (by omega)
  have i1:Nr.i64 v1=true:=by rw [e1];exact zH (by omega)
  rw [aa c,ah,au c,i1,bx (aa (by show t.length+2≤_;omega)),bU,bx (aa (by rw [aj,e1];show t.length+2+_≤_;omega)),h2,e1,aE]
 ·have il:=Sh.ta (v:=x - 1) (by omega) (by omega)
  have i3:Nr.i64 v3=true:=by rw [e3];exact zH (by omega)
  rw [ab c,ae,ao c,i3,bx (aa (by show t.length+2≤_;omega)),bU,bx (aa (by rw [aj,e3];show t.length+2+_≤_;omega)),h4,e3,aE]
theorem dY.goal (d:bz) (x:Int) (hp:decide (1≤d.length∧d.length≤17∧-900≤x∧x≤900)=true):dY.F d x=some [.s (Sh.CG d x)]:=by
 obtain ⟨p1,p2,p3,p4⟩:=aq hp
 rw [Sh.zB]
 unfold Sh.laid
 refine dY.bY _ _ ?_
 intro v1 h1 v2 h2 v3 h3 v4 h4 v5 h5 v6 h6 v7 h7 v8 h8 v9 h9 v10 iS v11 kA
 have px:∀b:Bool,(!b || b)=true∧(!b || (b&&b))=true:=by decide
 have e1:v1=decide (1≤x∧x≤21):=by rw [h1];by_cases c:1≤x <;> simp [c]
 have e2:v2=decide (1≤x∧x≤21∧(d.length:Int)≤x):=by
  rw [h2,e1]
  by_cases c:1≤x∧x≤21
  ·rw [aa c,ah,aY];omega
  ·rw [ab c,ae,ab (by omega)]
 have e6:v6=decide (-5≤x∧x≤0):=by rw [h6];by_cases c : -5≤x <;> simp [c]
 have e3:v3=x - d.length:=by rw [h3,i64_in _ (by omega)]
 have ew:IntKind.i64.wrap (0 - x)=-x:=by rw [i64_in _ (by omega)];omega
 rw [ew] at h7 ⊢
 rw [bx (px _).1,bx (px _).1,bx (px _).2,bx (px _).1,e2]
 by_cases c1:1≤x∧x≤21∧(d.length:Int)≤x
 ·rw [aa c1,ah,au c1,bx (aa ⟨rfl,by omega,by omega⟩),bx (aa (by rw [qO];omega)),e3]
 ·rw [ab c1,ae,ao c1,bx (px _).1,bx (px _).1,e1]
  by_cases c2:1≤x∧x≤21
  ·have l4:v4.length≤18:=by rw [h4,aj,aF];show min _ _+1≤18;omega
   rw [aa c2,ah,au c2,bx (j9 (by omega) (by omega) (by omega)),bx (aa (by rw [aF];show min _ _+1≤_;omega)),bx (j9 (by omega) (by omega) (by omega)),bx (aa (by rw [aV];omega)),h5,h4,aE]
  ·rw [ab c2,ae,ao c2,bx (px _).1,bx (px _).1,e6]
   by_cases c3 : -5≤x∧x≤0
   ·rw [aa c3,ah,au c3,bx (aa ⟨rfl,by omega,by omega⟩),bx (aa (by rw [h7,qO];show 2+_≤_;omega)),bx (aa (by rw [aj,h7,qO];show 2+_+_≤_;omega)),h8,h7,aE]
   ·have l9:v9.length≤1:=by rw [h9,aF];show min 1 _≤1;omega
    have l10:v10.length≤17:=by rw [iS,aV];omega
    have g9:v9=d.take 1:=h9
    have g10:v10=d.drop 1:=iS
    rw [ab c3,ae,ao c3,bx (j9 (by omega) (by omega) (by omega))]
    by_cases c4:1<d.length
    ·rw [aa (by omega),ah,bx (j9 (by omega) (by omega) (by omega)),bx (aa (by show 1+v10.length≤_;omega)),bx (aa (by rw [aj];show v9.length+(1+v10.length)≤_;omega)),dY.iz x v11 ⟨p3,p4⟩ (by rw [kA,aj,aj];show v9.length+(1+v10.length)≤_;omega),au c4,kA,g9,g10];rfl
    ·rw [ab (by omega),ae,dY.iz x v9 ⟨p3,p4⟩ (by omega),ao c4,bj,g9]
theorem Ho {b:UInt64} (h:(Nr.split b).1=2):(1≤(Sh.dg b).1.length∧(Sh.dg b).1.length≤17∧-900≤(Sh.dg b).2.1∧(Sh.dg b).2.1≤900)∧Sh.B1 (Sh.dg b).1∧Nr.read (Sh.dg b).1 (Sh.dg b).2.1=some (Sh.kx b):=by
 obtain ⟨hp,ht,hm,he⟩:=vG h
 obtain ⟨z1,z2,z3⟩:=BM h
 obtain ⟨n,N,n1,n2,n3,n4,n5,n6,n7⟩:=Sh.wH hp ht
 obtain ⟨d1,d2⟩:=xO hp ht
 have hl:=Sh.HD n1 n4
 have hN:N<10 ^ (n+1):=Nat.lt_of_le_of_lt n4 (Nat.pow_lt_pow_right (by omega) (by omega))
 have hL:=Nr.iV (n+1) N hN (by omega)
 have hr:=Sh.Ai hp ht
 obtain ⟨q1,q2,q3,q4⟩:=Nr.j8 N
 obtain ⟨t,t1,t2⟩:=Nr.lB (Nr.dec N)
 have ne:Nr.gw (Nr.dec N)≠[]:=by
  intro e0
  have hn:=congrArg Nr.num t1
  rw [Nr.ia,Nr.kn,List.length_replicate,Nat.add_zero,q2,e0,show Nr.num []=0 from rfl,Nat.zero_mul] at hn
  omega
 have We:=Nr.mg N
 have nN:=List.length_pos_iff.2 ne
 rw [z1,z2]
 refine ⟨?_,?_,hr⟩
 ·rw [n6]
  refine ⟨nN,Nat.le_trans hl n2,?_,?_⟩
  ·show -900≤((Nr.dec N).length:Int)+(Sh.dx (Sh.kx b) - n);omega
  ·show ((Nr.dec N).length:Int)+(Sh.dx (Sh.kx b) - n)≤900;omega
 ·rw [n6]
  refine ⟨(Nr.iQ q1 t1).1,ne,?_⟩
  have:=q4 n3
  rw [t1,ai,List.getElem?_append_left nN,←ai] at this
  exact this
theorem tR (b:UInt64):(Nr.split b).1=1∨(Nr.split b).1=2∨(Nr.split b).1=3∨(Nr.split b).1=4:=by
 unfold Nr.split
 simp only
 by_cases c1:b.toNat / 4503599627370496 % 2048=2047
 ·rw [au c1]
  by_cases c2:b.toNat % 4503599627370496=0
  ·rw [au c2];exact .inr (.inr (.inl rfl))
  ·rw [ao c2];exact .inr (.inr (.inr rfl))
 ·rw [ao c1]
  by_cases c2:b.toNat / 4503599627370496 % 2048=0
  ·rw [au c2]
   by_cases c3:b.toNat % 4503599627370496=0
   ·rw [au c3];exact .inl rfl
   ·rw [ao c3];exact .inr (.inl rfl)
  ·rw [ao c2];exact .inr (.inl rfl)
theorem zA {b:UInt64} (h:(Nr.split b).1=2):(Sh.laid (Sh.dg b).1 (Sh.dg b).2.1).length≤24:=by
 obtain ⟨⟨_,r2,r3,r4⟩,hL,_⟩:=Ho h
 obtain ⟨_,_,_,_,_,_,_,hlen,_⟩:=Sh.Bv hL r2 ⟨r3,r4⟩
 exact hlen
theorem dD.iz (b:UInt64) (t:bz) (ht:t.length≤1000):dD.j1 (Nr.split b).2.1 t=some [.s (Sh.sign b++t)]:=by
 rw [dD.lg]
 unfold Sh.sign
 cases (Nr.split b).2.1 with
 | true=>rw [ah,bx (aa (by show 1+t.length≤_;omega)),au rfl]
 | false=>rw [ae,ao (by decide)];rfl
theorem dD.goal (b:UInt64):dD.F b=some [.s (Sh.text b)]:=by
 refine dD.bY _ ?_
 intro v1 h1
 rw [Sh.zB] at h1
 rw [Sh.sL]
 unfold Sh.tP
 by_cases c4:(Nr.split b).1=4
 ·rw [aa c4,ah,au c4]
 ·rw [ab c4,ae,ao c4]
  by_cases c3:(Nr.split b).1=3
  ·rw [aa c3,ah,au c3,dD.iz b _ (by decide)]
  ·rw [ab c3,ae,ao c3]
   by_cases c1:(Nr.split b).1=1
   ·rw [aa c1,ah,au c1,dD.iz b _ (by decide)]
   ·have c2:(Nr.split b).1=2:=by have:=tR b;omega
    have hl:=zA c2
    rw [ab c1,ae,ao c1,bx (aa (Ho c2).1),h1,dD.iz b _ (by omega)]
end Go.Eng
set_option maxRecDepth 20000
namespace Go.Eng
open Nr (nI sh top)
namespace Sh
def Kl (m:Nat):Int:=if m / 4503599627370496=2047 then (if m % 4503599627370496=0 then 3 else 4) else if m / 4503599627370496=0 then (if m % 4503599627370496=0 then 1 else 2) else 2
theorem oX (b:UInt64):(Nr.split b).1=Kl (kx b)∧(Nr.split b).2.1=decide (9223372036854775808≤b.toNat):=by
 have hb:=b.toNat_lt
 have hx:b.toNat / 4503599627370496 % 2048=kx b / 4503599627370496:=by unfold kx;omega
 have hf:b.toNat % 4503599627370496=kx b % 4503599627370496:=by unfold kx;omega
 unfold Nr.split Kl
 simp only [hx,hf]
 generalize kx b=p
 by_cases c1:p / 4503599627370496=2047
 ·rw [au c1,au c1]
  by_cases c2:p % 4503599627370496=0
  ·rw [au c2,au c2];exact ⟨rfl,rfl⟩
  ·rw [ao c2,ao c2];exact ⟨rfl,rfl⟩
 ·rw [ao c1,ao c1]
  by_cases c2:p / 4503599627370496=0
  ·rw [au c2,au c2]
   by_cases c3:p % 4503599627370496=0
   ·rw [au c3,au c3];exact ⟨rfl,rfl⟩
   ·rw [ao c3,ao c3];exact ⟨rfl,rfl⟩
  ·rw [ao c2,ao c2];exact ⟨rfl,rfl⟩
noncomputable def tb (b:UInt64):bz:=if (Nr.split b).1=3 then [73,110,102,105,110,105,116,121] else if (Nr.split b).1=1 then [48] else laid (dg b).1 (dg b).2.1
theorem Fh {b:UInt64} (h:(Nr.split b).1=4):text b=[78,97,78]:=by rw [sL];unfold tP;rw [au h]
theorem IC {b:UInt64} (h:¬(Nr.split b).1=4):text b=sign b++tb b:=by
 rw [sL];unfold tP tb
 rw [ao h]
 by_cases c3:(Nr.split b).1=3
 ·rw [au c3,au c3]
 ·rw [ao c3,ao c3]
  by_cases c1:(Nr.split b).1=1
  ·rw [au c1,au c1]
  ·rw [ao c1,ao c1]
theorem Lc {b:UInt64} (h:¬(Nr.split b).1=4):(tb b).length≤24:=by
 unfold tb
 by_cases c3:(Nr.split b).1=3
 ·rw [au c3];decide
 ·rw [ao c3]
  by_cases c1:(Nr.split b).1=1
  ·rw [au c1];decide
  ·rw [ao c1]
   exact zA (by have:=tR b;omega)
theorem qc (b:UInt64):(text b).length≤25:=by
 by_cases c:(Nr.split b).1=4
 ·rw [Fh c];decide
 ·rw [IC c,aj]
  have:=Lc c
  have hs:(sign b).length≤1:=by unfold sign;split <;> decide
  omega
end Sh
end Go.Eng
set_option maxRecDepth 20000
namespace Go.Eng
open Go.IntWalk
theorem jR (a:Bool):(!a || a)=true:=by cases a <;> rfl
theorem M3 (a:Bool):(a || !a)=true:=by cases a <;> rfl
theorem y0 {t s:bz} (h:t.length≤s.length):List.isPrefixOf t s=decide (s.take t.length=t):=by
 rw [aS,List.isPrefixOf_iff_prefix,aA,List.prefix_iff_eq_take]
 exact ⟨fun h=>h.symm,fun h=>h.symm⟩
theorem dj.goal (s t:bz):dj.F s t=some [.b (List.isPrefixOf t s)]:=by
 refine dj.bY _ _ ?_
 intro v1 h1 v2 h2
 rw [bx (jR _),bx ?_,bx ?_,bx (jR _)]
 ·congr 3
  rw [h2,h1]
  by_cases h:t.length≤s.length
  ·rw [aa (by omega),ah,y0 h];rfl
  ·rw [ab (by omega),ae]
   cases hb:List.isPrefixOf t s with
   | false=>rfl
   | true=>exact absurd (List.isPrefixOf_iff_prefix.1 hb).length_le h
 ·cases decide ((t.length:Int)≤s.length) <;> rfl
 ·by_cases h:t.length≤s.length
  ·rw [j9 (by omega) (by omega) (by omega)];cases decide ((t.length:Int)≤s.length) <;> rfl
  ·rw [ab (by omega)];rfl
theorem cS.goal (s t:bz):cS.F s t=some [.b (List.isPrefixOf t s)]:=cS.dW s t
theorem di.goal (s:bz) (c:UInt8):di.F s c=some [.i .i64 (Lib.indexByte s c)]:=di.dW s c
theorem AD (x:UInt64):(x &&& (4294967295:UInt64)).toNat=x.toNat % 4294967296:=by
 rw [UInt64.toNat_and]
 exact Nat.and_two_pow_sub_one_eq_mod x.toNat 32
theorem tW (x:UInt64):(dQ x (32:UInt64).toNat).toNat=x.toNat / 4294967296:=ir x 32
theorem fJ.goal (a b:UInt64):fJ.F a b=some [.u64 (UInt64.ofNat (a.toNat * b.toNat / 18446744073709551616)),.u64 (UInt64.ofNat (a.toNat * b.toNat))]:=by
 refine fJ.bY _ _ ?_
 intro v1 h1 v2 h2 v3 h3 v4 h4 v5 h5 v6 h6 v7 h7 v8 h8
 have ha:=a.toNat_lt
 have hb:=b.toNat_lt
 obtain ⟨k1,k2,k3,k4⟩:=Lib.mul64_hi a.toNat b.toNat ha hb
 have e1:v1.toNat=a.toNat % 4294967296:=by rw [h1,AD]
 have e2:v2.toNat=a.toNat / 4294967296:=by rw [h2,tW]
 have e3:v3.toNat=b.toNat % 4294967296:=by rw [h3,AD]
 have e4:v4.toNat=b.toNat / 4294967296:=by rw [h4,tW]
 have m:∀x y:UInt64,x.toNat≤4294967295→y.toNat≤4294967295→(x * y).toNat=x.toNat * y.toNat:=fun x y hx hy=>by
  rw [UInt64.toNat_mul,Nat.mod_eq_of_lt]
  have:=Lib.half_mul_le hx hy
  omega
 have e5:v5.toNat=a.toNat % 4294967296 * (b.toNat % 4294967296) / 4294967296:=by rw [h5,tW,m _ _ (by omega) (by omega),e1,e3]
 have TW:(v2 * v3+v5).toNat=a.toNat / 4294967296 * (b.toNat % 4294967296)+a.toNat % 4294967296 * (b.toNat % 4294967296) / 4294967296:=by
  rw [UInt64.toNat_add,m _ _ (by omega) (by omega),e2,e3,e5];exact Nat.mod_eq_of_lt k2
 have e6:v6.toNat=(a.toNat / 4294967296 * (b.toNat % 4294967296)+a.toNat % 4294967296 * (b.toNat % 4294967296) / 4294967296) % 4294967296:=by rw [h6,AD,TW]
 have e7:v7.toNat=(a.toNat / 4294967296 * (b.toNat % 4294967296)+a.toNat % 4294967296 * (b.toNat % 4294967296) / 4294967296) / 4294967296:=by rw [h7,tW,TW]
 have e8:v8.toNat=((a.toNat / 4294967296 * (b.toNat % 4294967296)+a.toNat % 4294967296 * (b.toNat % 4294967296) / 4294967296) % 4294967296+a.toNat % 4294967296 * (b.toNat / 4294967296)) / 4294967296:=by
  rw [h8,tW,UInt64.toNat_add,m _ _ (by omega) (by omega),e6,e1,e4]
  congr 1
  exact Nat.mod_eq_of_lt k3
 have hi:((v2 * v4)+v7)+v8=UInt64.ofNat (a.toNat * b.toNat / 18446744073709551616):=by
  apply gf
  rw [UInt64.toNat_add,UInt64.toNat_add,m _ _ (by omega) (by omega),e2,e4,e7,e8,fA,←k4]
  omega
 have lo:a * b=UInt64.ofNat (a.toNat * b.toNat):=by
  apply gf
  rw [UInt64.toNat_mul,fA]
 rw [hi,lo]
theorem N0 {a b:dH}:dH.val a=dH.val b ↔ a.high=b.high∧a.low=b.low:=by
 rw [dH.kG,dH.kG]
 have:=a.low.toNat_lt
 have:=b.low.toNat_lt
 exact ⟨fun h=>⟨gf (by omega),gf (by omega)⟩,fun h=>by rw [h.1,h.2]⟩
theorem NZ {a b:dH}:dH.val a<dH.val b ↔ a.high<b.high∨(a.high=b.high∧a.low<b.low):=by
 rw [dH.kG,dH.kG,aT,aT,←bm]
 have:=a.low.toNat_lt
 have:=b.low.toNat_lt
 omega
theorem ij.goal (a b:dH):ij.F a b=some [.i .i64 (cond (decide (dH.val a=dH.val b)) 0 (cond (decide (dH.val a<dH.val b)) (-1) 1))]:=by
 refine ij.bY _ _ ?_
 intro v1 h1 v2 h2 v3 h3 v4 h4
 have c6:(!(!decide (a.high<b.high)) || ((!decide (a.high<b.high))&&(!decide (a.high=b.high) || v2)))=true:=by
  rw [h2];cases decide (a.high<b.high) <;> cases decide (a.high=b.high) <;> rfl
 have c7:(!v2 || (v2&&v2))=true:=by cases v2 <;> rfl
 have c8:∀x:Bool,(!(!x) || ((!x)&&(!x)))=true:=by decide
 rw [bx (jR _),bx (jR _),bx (c8 _),bx (jR _),bx (jR _),bx (jR _),bx c7,bx c6,bx (M3 _)]
 have hv1:v1=decide (dH.val a=dH.val b):=by rw [h1,aY.2 N0,Bool.decide_and]
 have hv4:v4=decide (dH.val a<dH.val b):=by
  rw [h4,h3,aY.2 NZ,Bool.decide_or,Bool.decide_and]
  cases decide (a.high<b.high) <;> cases decide (a.high=b.high) <;> rfl
 rw [hv1,hv4]
 cases decide (dH.val a=dH.val b) <;> cases decide (dH.val a<dH.val b) <;> rfl
theorem iH.goal (a b:UInt64):iH.F a b=some [.ag (dH.cells (dH.of (a.toNat * b.toNat)))]:=by
 refine iH.bY _ _ ?_
 intro v1 h1 v2 h2
 rw [h1,h2];rfl
theorem NW {n:Nat} (h:n<340282366920938463463374607431768211456):(dH.of n).val=n:=by
 rw [dH.kG];unfold dH.of;simp only [fA];omega
theorem NY {x v:UInt64} {z:Nat} (_:x.toNat<18446744073709551616) (hz:z<18446744073709551616) (h:v=UInt64.ofNat z):dH.of (x.toNat * 18446744073709551616+z)=⟨x,v⟩:=by
 have h1:UInt64.ofNat ((x.toNat * 18446744073709551616+z) / 18446744073709551616)=x:=by apply gf;rw [fA];omega
 have h2:UInt64.ofNat (x.toNat * 18446744073709551616+z)=v:=by rw [h];apply gf;rw [fA,fA];omega
 unfold dH.of
 rw [h1,h2]
theorem iI.goal (a:dH) (b:UInt64) (hp:(decide (9223372036854775808≤b.toNat))=true):iI.F a b=some [.ag (dH.cells (dH.of (dH.val a / b.toNat))),.u64 (UInt64.ofNat (dH.val a % b.toNat)),.b true]:=by
 have hb:=aq hp
 refine iI.bY _ _ ?_
 intro v1 h1 v2 h2 v3 h3 v4 h4
 have hl:=b.toNat_lt
 have ha:=a.high.toNat_lt
 have AN:=a.low.toNat_lt
 have h0:(0:UInt64).toNat=0:=rfl
 rw [h0,Nat.zero_mul,Nat.zero_add] at h1 h2
 have e2:v2.toNat=a.high.toNat % b.toNat:=by rw [h2,fA];have:=Nat.mod_lt a.high.toNat (show 0<b.toNat by omega);omega
 have e1:v1.toNat=a.high.toNat / b.toNat:=by rw [h1,fA];exact Nat.mod_eq_of_lt (Nat.lt_of_le_of_lt (Nat.div_le_self ..) ha)
 have hr:=Nat.mod_lt a.high.toNat (show 0<b.toNat by omega)
 rw [ab (fun h=>by rw [h] at hb;simp at hb),ae,bx (aa (by rw [h0];omega)),bx (aa (by rw [e2];omega))]
 have key:dH.val a=b.toNat * (a.high.toNat / b.toNat * 18446744073709551616)+(a.high.toNat % b.toNat * 18446744073709551616+a.low.toNat):=by
  rw [dH.kG]
  conv=>lhs;rw [←Nat.div_add_mod a.high.toNat b.toNat,Nat.add_mul,Nat.mul_assoc]
  omega
 have kd:dH.val a / b.toNat=a.high.toNat / b.toNat * 18446744073709551616+(a.high.toNat % b.toNat * 18446744073709551616+a.low.toNat) / b.toNat:=by
  rw [key,Nat.mul_add_div (by omega)]
 have km:dH.val a % b.toNat=(a.high.toNat % b.toNat * 18446744073709551616+a.low.toNat) % b.toNat:=by
  rw [key,Nat.mul_add_mod]
 have hq:(a.high.toNat % b.toNat * 18446744073709551616+a.low.toNat) / b.toNat<18446744073709551616:=by
  rw [Nat.div_lt_iff_lt_mul (by omega)]
  have:(a.high.toNat % b.toNat+1) * 18446744073709551616≤b.toNat * 18446744073709551616:=av _ hr
  omega
 rw [e2] at h3 h4
 rw [h4,←km]
 have hd:=Nat.lt_of_le_of_lt (Nat.div_le_self a.high.toNat b.toNat) ha
 rw [←e1] at kd hd
 have ew:dH.of (dH.val a / b.toNat)=⟨v1,v3⟩:=by rw [kd];exact NY hd hq h3
 rw [ew];rfl
end Go.Eng
set_option maxRecDepth 20000
namespace Go.Eng
open Go.IntWalk
theorem eP.goal (v:UInt64) (hp:(decide (9223372036854775808≤v.toNat))=true):eP.F v=some [.i .i64 0]:=by
 have hb:=aq hp
 refine eP.bY _ ?_
 intro v1 h1
 have hl:=v.toNat_lt
 have e:Nt.bits v.toNat=64:=Nt.C9 (k:=63) hb hl
 rw [h1,e];rfl
section
variable {B u d yh yl q r:Nat}
theorem Bw:q * (yh * B+yl)=q * yh * B+q * yl:=by rw [Nat.mul_add,Nat.mul_assoc]
theorem sV (hp:0<yh * B+yl) (hu:u=q * yh+r) (hq:(u * B+d) / (yh * B+yl)≤q) (h:q * yl≤r * B+d):(u * B+d) / (yh * B+yl)=q:=by
 refine Nat.le_antisymm hq ((Nat.le_div_iff_mul_le hp).2 ?_)
 rw [Bw,hu,Nat.add_mul];omega
theorem Kk (hp:0<yh * B+yl) (hd:d<B) (Kt:u<yh * B+yl) (hu:u=q * yh+r) (h:B≤q∨r * B+d<q * yl) :
  1≤q∧u=(q - 1) * yh+(r+yh)∧(u * B+d) / (yh * B+yl)≤q - 1:=by
 have vu:1≤q:=by
  rcases h with h | h
  ·omega
  ·rcases Nat.eq_zero_or_pos q with e | e
   ·rw [e] at h;omega
   ·exact e
 refine ⟨vu,?_,?_⟩
 ·have:q * yh=(q - 1) * yh+yh:=by
   conv=>lhs;rw [show q=q - 1+1 by omega,Nat.add_mul,Nat.one_mul]
  omega
 ·refine Nat.le_sub_one_of_lt ?_
  rw [Nat.div_lt_iff_lt_mul hp]
  rcases h with h | h
  ·have h1:B * (yh * B+yl)≤q * (yh * B+yl):=av _ h
   have h2:(u+1) * B≤(yh * B+yl) * B:=av _ Kt
   rw [Nat.mul_comm (yh * B+yl) B] at h2
   rw [Nat.add_mul] at h2
   omega
  ·rw [Bw,hu,Nat.add_mul];omega
theorem LJ (hy:B≤2 * yh) (Nz:yl<B) (Kt:u<yh * B+yl):u / yh≤B+1:=by
 refine Nat.le_of_lt_succ ?_
 have hp:0<yh:=by omega
 rw [Nat.div_lt_iff_lt_mul hp]
 have e:(B+1+1) * yh=yh * B+2 * yh:=by rw [Nat.add_assoc,Nat.add_mul,Nat.mul_comm B yh]
 show u<(B+1+1) * yh
 rw [e];omega
theorem Gk (hp:0<yh) (hB:0<B) (hd:d<B):(u * B+d) / (yh * B+yl)≤u / yh:=by
 refine Nat.le_of_lt_succ ?_
 have hm:0<yh * B:=Nat.mul_pos hp hB
 rw [Nat.div_lt_iff_lt_mul (by omega)]
 have h:=Nat.lt_mul_div_succ u hp
 have h2:(u+1) * B≤yh * (u / yh+1) * B:=av _ h
 rw [Nat.add_mul] at h2
 show _<(u / yh+1) * (yh * B+yl)
 rw [Bw,Nat.mul_comm (u / yh+1) yh]
 omega
end
theorem bI.Ot {Q u:Nat}:∀(k:Nat) (x0 x1 x2 x3 x4 x5 x6 x7 x8:UInt64),4294967296≤x8.toNat+k→2147483648≤x2.toNat→x3.toNat<4294967296→x5.toNat<4294967296→u<x2.toNat * 4294967296+x3.toNat→x8.toNat<4294967296 →
  x2.toNat<4294967296→x7.toNat≤4294967297→u=x7.toNat * x2.toNat+x8.toNat→(u * 4294967296+x5.toNat) / (x2.toNat * 4294967296+x3.toNat)≤x7.toNat→Q=(u * 4294967296+x5.toNat) / (x2.toNat * 4294967296+x3.toNat) →
  bI.l3 x0 x1 x2 x3 x4 x5 x6 x7 x8=bI.j4 x0 x1 x2 x3 x4 x5 x6 (UInt64.ofNat Q):=by
 intro k
 induction k with
 | zero=>intro x0 x1 x2 x3 x4 x5 x6 x7 x8 hk;intros;omega
 | succ k ih =>
  intro x0 x1 x2 x3 x4 x5 x6 x7 x8 hk hy Nz hd Kt hr Ea hq hu hQ eQ
  refine bI.uH _ _ _ _ _ _ _ _ _ ?_
  intro v1 h1 v2 h2
  have hv1:v1.toNat=x8.toNat * 4294967296+x5.toNat:=by
   rw [h1,UInt64.toNat_add,UInt64.toNat_mul,show (4294967296:UInt64).toNat=4294967296 from rfl];omega
  have hm:(x7 * x3).toNat=x7.toNat * x3.toNat:=by
   rw [UInt64.toNat_mul]
   refine Nat.mod_eq_of_lt ?_
   have:=Nat.mul_le_mul hq (show x3.toNat≤4294967295 by omega)
   omega
  have c1:∀b:Bool,(!(!b) || ((!b)&&(!b)))=true:=by decide
  rw [bx (c1 _),bx (jR _),bx (c1 _),bx (c1 _),bx (M3 _)]
  have hB:((4294967296:UInt64)≤x7) ↔ 4294967296≤x7.toNat:=aJ
  have hL:v1<x7 * x3 ↔ x8.toNat * 4294967296+x5.toNat<x7.toNat * x3.toNat:=by rw [aT,hv1,hm]
  have hv2:v2=decide (4294967296≤x7.toNat∨x8.toNat * 4294967296+x5.toNat<x7.toNat * x3.toNat):=by
   rw [h2,aY.2 hB,aY.2 hL,Bool.decide_or]
   cases decide (4294967296≤x7.toNat) <;> rfl
  have hp:0<x2.toNat * 4294967296+x3.toNat:=by omega
  by_cases c:4294967296≤x7.toNat∨x8.toNat * 4294967296+x5.toNat<x7.toNat * x3.toNat
  ·rw [hv2,aa c,ah]
   obtain ⟨g1,g2,g3⟩:=Kk hp hd Kt hu c
   have vu:(x7 - (1:UInt64)).toNat=x7.toNat - 1:=by exact UInt64.toNat_sub_of_le _ _ (aJ.2 (show (1:UInt64).toNat≤_ from g1))
   have EN:(x8+x2).toNat=x8.toNat+x2.toNat:=by rw [UInt64.toNat_add];omega
   by_cases c2:4294967296≤x8.toNat+x2.toNat
   ·rw [aa (aJ.2 (by rw [EN];exact c2)),ah]
    have h3:(x7.toNat - 1) * x3.toNat≤(x8.toNat+x2.toNat) * 4294967296+x5.toNat:=by
     have:=Nat.mul_le_mul (show x7.toNat - 1≤4294967296 by omega) (show x3.toNat≤4294967296 by omega)
     have:=av 4294967296 c2
     omega
    have:=sV hp g2 g3 h3
    rw [show x7 - (1:UInt64)=UInt64.ofNat Q from gf (by rw [vu,fA,eQ,this];omega)]
   ·rw [ab (fun h=>c2 (by have:=aJ.1 h;rwa [EN] at this)),ae]
    exact ih x0 x1 x2 x3 x4 x5 x6 _ _ (by rw [EN];omega) hy Nz hd Kt (by rw [EN];omega) Ea (by rw [vu];omega) (by rw [vu,EN];exact g2) (by rw [vu];exact g3) eQ
  ·rw [hv2,ab c,ae]
   have:=sV hp hu hQ (by omega)
   rw [show x7=UInt64.ofNat Q from gf (by rw [fA,eQ,this];omega)]
theorem bI.Oq {Q u:Nat}:∀(k:Nat) (x0 x1 x2 x3 x4 x5 x6 x7 x8:UInt64),4294967296≤x6.toNat+k→2147483648≤x2.toNat→x3.toNat<4294967296→x4.toNat<4294967296→u<x2.toNat * 4294967296+x3.toNat→x6.toNat<4294967296 →
  x2.toNat<4294967296→x8.toNat≤4294967297→u=x8.toNat * x2.toNat+x6.toNat→(u * 4294967296+x4.toNat) / (x2.toNat * 4294967296+x3.toNat)≤x8.toNat→Q=(u * 4294967296+x4.toNat) / (x2.toNat * 4294967296+x3.toNat) →
  bI.l5 x0 x1 x2 x3 x4 x5 x6 x7 x8=bI.j6 x0 x1 x4 x5 x7 (UInt64.ofNat Q):=by
 intro k
 induction k with
 | zero=>intro x0 x1 x2 x3 x4 x5 x6 x7 x8 hk;intros;omega
 | succ k ih =>
  intro x0 x1 x2 x3 x4 x5 x6 x7 x8 hk hy Nz hd Kt hr Ea hq hu hQ eQ
  refine bI.CH _ _ _ _ _ _ _ _ _ ?_
  intro v1 h1 v2 h2
  have hv1:v1.toNat=x6.toNat * 4294967296+x4.toNat:=by
   rw [h1,UInt64.toNat_add,UInt64.toNat_mul,show (4294967296:UInt64).toNat=4294967296 from rfl];omega
  have hm:(x8 * x3).toNat=x8.toNat * x3.toNat:=by
   rw [UInt64.toNat_mul]
   refine Nat.mod_eq_of_lt ?_
   have:=Nat.mul_le_mul hq (show x3.toNat≤4294967295 by omega)
   omega
  have c1:∀b:Bool,(!(!b) || ((!b)&&(!b)))=true:=by decide
  rw [bx (c1 _),bx (jR _),bx (c1 _),bx (c1 _),bx (M3 _)]
  have hB:((4294967296:UInt64)≤x8) ↔ 4294967296≤x8.toNat:=aJ
  have hL:v1<x8 * x3 ↔ x6.toNat * 4294967296+x4.toNat<x8.toNat * x3.toNat:=by rw [aT,hv1,hm]
  have hv2:v2=decide (4294967296≤x8.toNat∨x6.toNat * 4294967296+x4.toNat<x8.toNat * x3.toNat):=by
   rw [h2,aY.2 hB,aY.2 hL,Bool.decide_or]
   cases decide (4294967296≤x8.toNat) <;> rfl
  have hp:0<x2.toNat * 4294967296+x3.toNat:=by omega
  by_cases c:4294967296≤x8.toNat∨x6.toNat * 4294967296+x4.toNat<x8.toNat * x3.toNat
  ·rw [hv2,aa c,ah]
   obtain ⟨g1,g2,g3⟩:=Kk hp hd Kt hu c
   have vu:(x8 - (1:UInt64)).toNat=x8.toNat - 1:=by exact UInt64.toNat_sub_of_le _ _ (aJ.2 (show (1:UInt64).toNat≤_ from g1))
   have EN:(x6+x2).toNat=x6.toNat+x2.toNat:=by rw [UInt64.toNat_add];omega
   by_cases c2:4294967296≤x6.toNat+x2.toNat
   ·rw [aa (aJ.2 (by rw [EN];exact c2)),ah]
    have h3:(x8.toNat - 1) * x3.toNat≤(x6.toNat+x2.toNat) * 4294967296+x4.toNat:=by
     have:=Nat.mul_le_mul (show x8.toNat - 1≤4294967296 by omega) (show x3.toNat≤4294967296 by omega)
     have:=av 4294967296 c2
     omega
    have:=sV hp g2 g3 h3
    rw [show x8 - (1:UInt64)=UInt64.ofNat Q from gf (by rw [vu,fA,eQ,this];omega)]
   ·rw [ab (fun h=>c2 (by have:=aJ.1 h;rwa [EN] at this)),ae]
    exact ih x0 x1 x2 x3 x4 x5 _ x7 _ (by rw [EN];omega) hy Nz hd Kt (by rw [EN];omega) Ea (by rw [vu];omega) (by rw [vu,EN];exact g2) (by rw [vu];exact g3) eQ
  ·rw [hv2,ab c,ae]
   have:=sV hp hu hQ (by omega)
   rw [show x8=UInt64.ofNat Q from gf (by rw [fA,eQ,this];omega)]
theorem Li (x:UInt64):jr x (UInt64.ofInt 0).toNat=x:=by
 apply gf;unfold jr;rw [fA,show (UInt64.ofInt 0).toNat=0 from rfl];have:=x.toNat_lt;omega
theorem QZ (x:UInt64):dQ x (UInt64.ofInt 0).toNat=x:=by
 apply gf;rw [ir,show (UInt64.ofInt 0).toNat=0 from rfl];omega
theorem Ga {a d q y:UInt64} {N Q t:Nat} (hN:N=a.toNat * 4294967296+d.toNat) (hQ:q.toNat=Q) (ht:N=Q * y.toNat+t) (h:t<18446744073709551616):(((a * (4294967296:UInt64))+d) - (q * y)).toNat=t:=by
 have e1:((a * (4294967296:UInt64))+d).toNat=N % 18446744073709551616:=by
  rw [UInt64.toNat_add,UInt64.toNat_mul,show (4294967296:UInt64).toNat=4294967296 from rfl,hN];omega
 have e2:(q * y).toNat=(Q * y.toNat) % 18446744073709551616:=by rw [UInt64.toNat_mul,hQ]
 rw [UInt64.toNat_sub,e1,e2,ht]
 generalize Q * y.toNat=P
 omega
theorem IE {x y:UInt64}:(x - x / y * y).toNat=x.toNat % y.toNat:=by
 have h:=Nat.div_add_mod x.toNat y.toNat
 rw [Nat.mul_comm] at h
 have hl:=x.toNat_lt
 have e:(x / y * y).toNat=x.toNat / y.toNat * y.toNat:=by
  rw [UInt64.toNat_mul,UInt64.toNat_div];exact Nat.mod_eq_of_lt (by omega)
 rw [UInt64.toNat_sub_of_le _ _ (aJ.2 (by rw [e];omega)),e]
 omega
theorem KK {n y q:Nat} (hy:0<y) (h:n / y=q):∃t,n=q * y+t∧t<y:=⟨n % y,by rw [←h,Nat.mul_comm];exact (Nat.div_add_mod ..).symm,Nat.mod_lt _ hy⟩
theorem Pv {x z:Nat} (hx:x<4294967296) (hz:z<4294967296):UInt64.ofNat x * (4294967296:UInt64)+UInt64.ofNat z=UInt64.ofNat (x * 4294967296+z):=by
 apply gf
 rw [UInt64.toNat_add,UInt64.toNat_mul,show (4294967296:UInt64).toNat=4294967296 from rfl]
 simp only [fA]
 omega
theorem Iz {N hi b d1 d0 y q1 q0 t1 t0:Nat} (h1:hi * 4294967296+d1=q1 * y+t1) (h0:t1 * 4294967296+d0=q0 * y+t0) (ht:t0<y) (hb:b=d1 * 4294967296+d0) (hN:N=hi * 18446744073709551616+b):N / y=q1 * 4294967296+q0∧N % y=t0:=by
 have e:N=y * (q1 * 4294967296+q0)+t0:=by
  have x2:∀B:Nat,y * (q1 * B+q0)=q1 * y * B+q0 * y:=fun B=>by
   rw [Nat.mul_add,Nat.mul_comm y q0,←Nat.mul_assoc,Nat.mul_comm y q1]
  have x3:=x2 4294967296
  omega
 rw [e,Nat.mul_add_div (by omega),Nat.div_eq_of_lt ht,Nat.add_zero,Nat.mul_add_mod,Nat.mod_eq_of_lt ht]
 exact ⟨rfl,rfl⟩
theorem bI.goal (a b y:UInt64) (hp:(decide (9223372036854775808≤y.toNat∧a.toNat<y.toNat))=true):bI.F a b y=some [.u64 (UInt64.ofNat ((a.toNat * 18446744073709551616+b.toNat) / y.toNat)),.u64 (UInt64.ofNat ((a.toNat * 18446744073709551616+b.toNat) % y.toNat))]:=by
 obtain ⟨hy,ha⟩:=aq hp
 have Nz:=y.toNat_lt
 have Eg:=b.toNat_lt
 rw [bI.dW,ab (fun h=>by rw [h] at hy;exact absurd hy (by decide)),ae,bI.lg,ab (fun h=>by have:=aJ.1 h;omega),ae]
 refine bI.jx _ _ _ ?_
 intro v1 h1 v2 h2 v3 h3 v4 h4 v5 h5 v6 h6 v7 h7 v8 h8 v9 h9
 have SV:(!decide (y=0))=true:=by rw [ab (fun h=>by rw [h] at hy;exact absurd hy (by decide))];rfl
 by_cases c:a=0
 ·rw [aa c,ah,bx SV,c,show (0:UInt64).toNat=0 from rfl,Nat.zero_mul,Nat.zero_add]
  rw [show b / y=UInt64.ofNat (b.toNat / y.toNat) from gf (by rw [UInt64.toNat_div,fA];exact (Nat.mod_eq_of_lt (Nat.lt_of_le_of_lt (Nat.div_le_self ..) Eg)).symm),
   show b % y=UInt64.ofNat (b.toNat % y.toNat) from gf (by rw [UInt64.toNat_mod,fA];exact (Nat.mod_eq_of_lt (Nat.lt_of_le_of_lt (Nat.mod_le ..) Eg)).symm),bx SV]
 rw [ab c,ae,bx (aa hy)]
 have e1:v1=y:=by rw [h1,Li]
 have e4:v4=a:=by rw [h4,Li]
 have e7:v7=b:=by rw [h7,Li]
 have e5:v5.toNat=64:=by rw [h5];rfl
 have e6:v6=a:=by
  rw [h6,e4,e5]
  have:dQ b 64=0:=by apply gf;rw [ir];show _=0;omega
  rw [this];apply gf;rw [UInt64.toNat_or];exact Nat.or_zero _
 have n2:v2.toNat=y.toNat / 4294967296:=by rw [h2,e1,tW]
 have n3:v3.toNat=y.toNat % 4294967296:=by rw [h3,e1,AD]
 have n8:v8.toNat=b.toNat / 4294967296:=by rw [h8,e7,tW]
 have n9:v9.toNat=b.toNat % 4294967296:=by rw [h9,e7,AD]
 have hv2:(!decide (v2=0))=true:=by
  rw [ab (fun h=>by rw [h] at n2;have:(0:UInt64).toNat=0:=rfl;omega)];rfl
 have hY:v2.toNat * 4294967296+v3.toNat=y.toNat:=by omega
 have TI:v8.toNat<4294967296:=by omega
 have TH:v9.toNat<4294967296:=by omega
 have Sn:v3.toNat<4294967296:=by omega
 have TK:v2.toNat<4294967296:=by omega
 have TL:2147483648≤v2.toNat:=by omega
 have first:∀(u:UInt64) (d:Nat),u.toNat<y.toNat→d<4294967296→(u / v2).toNat≤4294967297∧u.toNat=(u / v2).toNat * v2.toNat+(u - u / v2 * v2).toNat∧(u.toNat * 4294967296+d) / (v2.toNat * 4294967296+v3.toNat)≤(u / v2).toNat∧(u - u / v2 * v2).toNat<4294967296:=fun u d hu hd=>by
  rw [IE,UInt64.toNat_div]
  refine ⟨LJ (B:=4294967296) (by omega) Sn (by rw [hY];exact hu),?_,Gk (by omega) (by omega) hd,?_⟩
  ·rw [Nat.mul_comm];exact (Nat.div_add_mod ..).symm
  ·have:=Nat.mod_lt u.toNat (show 0<v2.toNat by omega);omega
 rw [bx hv2,e1,e6]
 obtain ⟨f1,f2,f3,f4⟩:=first a v8.toNat ha TI
 obtain ⟨Q1,Se⟩:∃q,(a.toNat * 4294967296+v8.toNat) / y.toNat=q:=⟨_,rfl⟩
 rw [bI.Ot (Q:=Q1) (u:=a.toNat) 4294967296 y (UInt64.ofInt 0) v2 v3 a v8 v9 (a / v2) (a - a / v2 * v2) (by omega) TL Sn TI (by rw [hY];exact ha) f4 TK f1 f2 f3 (by rw [hY,Se])]
 refine bI.Gs _ _ _ _ _ _ _ _ ?_
 intro w1 g1 w2 g2
 have U2:Q1<4294967296:=by
  rw [←Se,Nat.div_lt_iff_lt_mul (by omega)]
  have:=av 4294967296 (show a.toNat+1≤y.toNat from ha)
  rw [Nat.mul_comm 4294967296 y.toNat];omega
 obtain ⟨t1,Ty,ht1⟩:=KK (show 0<y.toNat by omega) Se
 have Ku:(w1 - UInt64.ofNat Q1 * y).toNat=t1:=by rw [g1];exact Ga rfl (by rw [fA];omega) Ty (by omega)
 rw [bx hv2,g2]
 obtain ⟨u1,hu⟩:∃u,w1 - UInt64.ofNat Q1 * y=u:=⟨_,rfl⟩
 rw [hu] at Ku ⊢
 obtain ⟨k1,k2,k3,k4⟩:=first u1 v9.toNat (by rw [Ku];exact ht1) TH
 obtain ⟨Q0,Mu⟩:∃q,(t1 * 4294967296+v9.toNat) / y.toNat=q:=⟨_,rfl⟩
 rw [bI.Oq (Q:=Q0) (u:=u1.toNat) 4294967296 y (UInt64.ofInt 0) v2 v3 v9 (UInt64.ofNat Q1) (u1 - u1 / v2 * v2) u1 (u1 / v2) (by omega) TL Sn TH (by rw [hY,Ku];exact ht1) k4 TK k1 k2 k3 (by rw [hY,Ku,Mu])]
 refine bI.Gq _ _ _ _ _ _ ?_
 intro z1 j1 z2 j2 z3 j3
 have U3:Q0<4294967296:=by
  rw [←Mu,Nat.div_lt_iff_lt_mul (by omega)]
  have:=av 4294967296 (show t1+1≤y.toNat from ht1)
  rw [Nat.mul_comm 4294967296 y.toNat];omega
 obtain ⟨t0,KF,ht0⟩:=KK (show 0<y.toNat by omega) Mu
 have hr:z3.toNat=t0:=by
  rw [j3,QZ,j2]
  exact Ga (N:=t1 * 4294967296+v9.toNat) (by rw [Ku]) (by rw [fA];omega) KF (by omega)
 rw [j1,Pv U2 U3,show z3=UInt64.ofNat t0 from gf (by rw [hr,fA];omega)]
 obtain ⟨x1,x2⟩:=Iz (hi:=a.toNat) (b:=b.toNat) Ty KF ht0 (by omega) rfl
 rw [x1,x2]
end Go.Eng
set_option maxRecDepth 20000
namespace Go.Eng
open Go.IntWalk
theorem fW.goal:fW.F=some [.ag (dH.cells Cn.ux)]:=by
 refine fW.bY ?_
 intro v1 h1
 have:dH.of ((100000000000000000:UInt64).toNat * (100000000000000000:UInt64).toNat)=Cn.ux:=by kernel_rfl
 rw [h1,this]
theorem F2:dH.val Cn.ux=10000000000000000000000000000000000:=by
 rw [dH.kG];rfl
theorem M1 {a b:Nat}:(0:Int)≤cond (decide (a=b)) 0 (cond (decide (a<b)) (-1) 1) ↔ b≤a:=by
 by_cases h:a=b
 ·rw [aa h];simp;omega
 ·rw [ab h,ae]
  by_cases h2:a<b
  ·rw [aa h2,ah];omega
  ·rw [ab h2,ae];omega
theorem m14 (x:UInt64):((x &&& (16383:UInt64)).toNat:Int)<16384:=by
 rw [UInt64.toNat_and,show (16383:UInt64).toNat=2 ^ 14 - 1 from rfl,Nat.and_two_pow_sub_one_eq_mod];omega
theorem Hb (x:UInt64):IntKind.i64.wrap (IntKind.i64.wrap ((x &&& (16383:UInt64)).toNat:Int) - 6176)=((x &&& (16383:UInt64)).toNat:Int) - 6176:=by
 have:=m14 x
 rw [show IntKind.i64.wrap ((x &&& (16383:UInt64)).toNat:Int)=((x &&& (16383:UInt64)).toNat:Int) from i64_in _ (by omega),i64_in _ (by omega)]
theorem An (a:Nat):decide ((0:Int)≤cond (decide (a=dH.val Cn.ux)) 0 (cond (decide (a<dH.val Cn.ux)) (-1) 1))=decide (10000000000000000000000000000000000≤a):=aY.2 (M1.trans (by rw [F2]))
theorem va (a b:Bool):cond a b false=(a&&b):=by cases a <;> rfl
theorem dv.goal (h l:UInt64):dv.F h l=some [.i .i64 (Cn.split h l).1,.b (Cn.split h l).2.1,.ag (dH.cells (Cn.split h l).2.2.1),.i .i64 (Cn.split h l).2.2.2]:=by
 refine dv.bY _ _ ?_
 intro v1 h1 v2 h2 v3 h3 v4 h4 v5 h5 v6 h6 v7 h7 v8 h8 v9 h9 v10 iS
 rw [Cn.tS]
 unfold Cn.q7
 simp only
 have e1:v1=dQ h 63:=h1
 have e2:v2=dQ h 58:=h2
 have e6:v6=dQ h 47:=h6
 have e8:v8=((dQ h 47 &&& 16383).toNat:Int) - 6176:=by rw [h8,h7,e6];exact Hb _
 have e5:v5=dQ (dQ h 58 &&& 31) 3:=by rw [h5,e2];rfl
 rw [h3,h4,e1,e2,e5,e8]
 by_cases c1:dQ h 58 &&& 31=31
 ·rw [aa c1,ah,au c1];rfl
 rw [ab c1,ae,ao c1]
 by_cases c2:dQ h 58 &&& 31=30
 ·rw [aa c2,ah,au c2];rfl
 rw [ab c2,ae,ao c2]
 by_cases c3:dQ (dQ h 58 &&& 31) 3=3
 ·rw [aa c3,ah,au c3];rfl
 rw [ab c3,ae,ao c3,iS,An,h9]
 by_cases c4:dH.val ⟨h &&& 562949953421311,l⟩<10000000000000000000000000000000000
 ·rw [ab (by omega),ae,au c4]
  refine dv.iR _ _ _ _ ?_
  intro w1 g1 w2 g2 w3 g3
  rw [g3,g2,Hb,g1];rfl
 ·rw [aa (by omega),ah,ao c4]
  refine dv.iR _ _ _ _ ?_
  intro w1 g1 w2 g2 w3 g3
  rw [g3,g2,Hb,g1];rfl
theorem eH.goal (n:Bool) (c:dH) (x:Int) (hp:(Nr.i64 x)=true):eH.F n c x=some [.u64 (Cn.join n c x).1,.u64 (Cn.join n c x).2.1,.b (Cn.join n c x).2.2]:=by
 refine eH.bY _ _ _ ?_
 intro v1 h1 v2 h2 v3 h3 v4 h4 v5 h5 v6 h6
 have c1:∀b:Bool,(!(!b) || (!b))=true:=by decide
 rw [bx (c1 _),bx (M3 _),bx (c1 _),bx (M3 _)]
 rw [Cn.join_eq]
 unfold Cn.CI
 have e3:v3=decide (10000000000000000000000000000000000≤c.val∨x < -6176∨6111<x):=by
  rw [h3,h2,h1,An,Bool.decide_or,Bool.decide_or]
  cases decide (10000000000000000000000000000000000≤c.val) <;> cases decide (x < -6176) <;> rfl
 rw [e3]
 by_cases k:10000000000000000000000000000000000≤c.val∨x < -6176∨6111<x
 ·rw [aa k,ah,au k]
 ·rw [ab k,ae,ao k]
  have e4:v4=x+6176:=by rw [h4,i64_in _ (by omega)]
  have e5:v5=jr (UInt64.ofInt (x+6176)) 49:=by rw [h5,e4];rfl
  rw [eH.lg,eH.lg,h6,e5]
  cases n <;> rfl
theorem nc (x:Int):Nr.i64 (IntKind.i64.wrap x)=true:=by
 have h:=IntKind.wrap_i64 x
 unfold Nr.i64
 exact aa (by omega)
theorem qZ (h l:UInt64) : -6176≤(Cn.split h l).2.2.2∧(Cn.split h l).2.2.2<16384:=by
 rw [Cn.tS]
 unfold Cn.q7
 simp only
 have:=m14 (dQ h 47)
 have:=m14 (dQ h 49)
 split
 ·exact ⟨show (-6176:Int)≤0 by decide,show (0:Int)<16384 by decide⟩
 split
 ·exact ⟨show (-6176:Int)≤0 by decide,show (0:Int)<16384 by decide⟩
 split <;> dsimp only <;> omega
theorem fN.goal (h l:UInt64):fN.F h l=some [.b (Cn.ri h l)]:=by
 refine fN.bY _ _ ?_
 intro v1 h1 v2 h2 v3 h3 v4 h4 v5 h5 v6 h6 v7 h7 v8 h8
 have c6:∀x:Bool,(!x || (x&&x))=true:=by decide
 have hx:=qZ h l
 have Vk:Nr.i64 (Cn.split h l).2.2.2=true:=aa (by omega)
 rw [bx (jR _),bx (jR _),bx (jR _),bx (jR _),bx Vk,bx (c6 _),bx (jR _),bx (c6 _),bx (jR _)]
 unfold Cn.ri
 simp only
 by_cases c1:(Cn.split h l).1=3
 ·rw [aa c1,ah,au c1,h1,va]
 rw [ab c1,ae,ao c1]
 by_cases c2:(Cn.split h l).1=2
 ·rw [aa c2,ah,au c2,h3,h2,va]
 rw [ab c2,ae,ao c2,h8,h7,h6,h5,h4,va,va]
end Go.Eng
set_option maxRecDepth 20000
namespace Go.Eng
open Go.IntWalk
theorem JJ {n k p:Nat} (hp:p=10 ^ k) (hk:1≤k) (h:p≤n):Nr.dec n=Nr.dec (n / p)++(Sh.eK ((k:Int) - ((Nr.dec (n % p)).length:Int))++Nr.dec (n % p)):=by
 have Jr:0<p:=by rw [hp];exact Nat.pow_pos (by omega)
 obtain ⟨q1,q2,q3,q4⟩:=Nr.j8 (n / p)
 obtain ⟨r1,r2,r3,r4⟩:=Nr.j8 (n % p)
 have rl:=Nr.iV k (n % p) (by rw [←hp];exact Nat.mod_lt _ Jr) hk
 have hz:=Sh.qP ((k:Int) - ((Nr.dec (n % p)).length:Int))
 have D9:(Sh.eK ((k:Int) - ((Nr.dec (n % p)).length:Int))++Nr.dec (n % p)).length=k:=by
  unfold Sh.eK;rw [aj,List.length_replicate];omega
 have Rk:Nr.num (Sh.eK ((k:Int) - ((Nr.dec (n % p)).length:Int)))=0:=Nr.kn _
 have Mb:Nr.num (Nr.dec (n / p)++(Sh.eK ((k:Int) - ((Nr.dec (n % p)).length:Int))++Nr.dec (n % p)))=n:=by
  rw [Nr.ia,D9,Nr.ia,Rk,q2,r2,Nat.zero_mul,Nat.zero_add,←hp]
  exact Nat.div_add_mod' n p
 have hu:=Nr.pW _ (Nr.dec (n / p)++(Sh.eK ((k:Int) - ((Nr.dec (n % p)).length:Int))++Nr.dec (n % p))) rfl (by rw [List.all_append,List.all_append,q1,hz,r1];rfl) (by simp [q3]) (by
  rw [ai,List.getElem?_append_left (List.length_pos_iff.2 q3),←ai];exact q4 (Nat.div_pos h Jr))
 rw [Mb] at hu
 exact hu.symm
theorem K1 {N:Nat} (hl:(Nr.dec N).length≤1000):cZ.j2 (Nr.dec N)=some [.s (Nr.dec N)]:=by
 obtain ⟨q1,q2,q3,q4⟩:=Nr.j8 N
 have OM:=Nr.mg N
 refine cZ.jx _ ?_
 intro v1 h1 v2 h2 v3 h3
 have e1:v1=((Nr.dec N).length - 1:Nat):=by rw [h1,i64_in _ (by omega)];omega
 have e2:v2=(Nr.dec N).take ((Nr.dec N).length - 1):=by
  rw [h2,e1,ak]
  unfold Lib.trimLeftS
  by_cases c:N<10
  ·rw [Nr.nn c];rfl
  ·have Sm:=q4 (by omega)
   have hlen:2≤(Nr.dec N).length:=by
    rw [Nr.qH c,aj]
    have:=Nr.mg (N / 10)
    simp;omega
   generalize Nr.dec N=s at *
   match s,hlen,Sm with
   | x :: y :: r,_,Sm =>
    have hx:x≠48:=Sm
    simp [hx]
 have e3:v3=Nr.dec N:=by rw [h3,e2,e1,ak,List.take_append_drop]
 rw [bx (j9 (by omega) (by omega) (by omega)),bx ?_,bx (j9 (by omega) (by omega) (by omega)),bx (aa ?_),e3]
 ·rw [e2,e1,ak];simp only [aF,aV];omega
 ·rw [af]
  refine ⟨aa ⟨?_,by decide⟩,by decide⟩
  simp only [aF];omega
theorem t19:(10:Nat) ^ 19=10000000000000000000:=by decide
theorem t20:(10:Nat) ^ 20=100000000000000000000:=by decide
theorem t38:(10000000000000000000:Nat) ^ 2=100000000000000000000000000000000000000:=by decide
theorem t40:(10:Nat) ^ 40=10000000000000000000000000000000000000000:=by decide
theorem U4:(10000000000000000000:UInt64).toNat=10000000000000000000:=rfl
theorem cZ.cO:∀(k:Nat) (a:dH) (t:bz),a.val<18446744073709551616 * 10000000000000000000 ^ k→(t=[]∨1≤a.val)→t.length+20 * k≤900→cZ.l1 t a.high a.low=cZ.j2 (Nr.dec a.val++t):=by
 have last:∀(a:dH) (t:bz),a.high=0→(t=[]∨1≤a.val)→t.length≤900→cZ.l1 t a.high a.low=cZ.j2 (Nr.dec a.val++t):=fun a t h0 ht hl=>by
  refine cZ.bX _ _ _ ?_
  intro v1 h1 v2 h2 v3 h3 v4 h4 v5 h5 v6 h6
  have hv:a.val=a.low.toNat:=by rw [dH.kG,h0];show 0 * _+_=_;omega
  have hd:=Nr.iV 20 a.low.toNat (by rw [t20];have:=a.low.toNat_lt;omega) (by omega)
  rw [aa h0,aG,ae,bx (by cases decide (t=([]:bz)) <;> rfl),bx (by cases decide (t=([]:bz)) <;> rfl),bx (M3 _)]
  have e6:v6=true:=by
   rw [h6]
   rcases ht with rfl | ht
   ·rfl
   ·rw [ab (p:=a.low=0) (fun e=>by rw [hv,e] at ht;exact absurd ht (by decide))]
    cases decide (t=([]:bz)) <;> rfl
  rw [e6,ah,bx (by rfl),bx (aa (by omega)),hv]
 intro k
 induction k with
 | zero =>
  intro a t h ht hl
  refine last a t (gf ?_) ht (by omega)
  rw [dH.kG] at h
  show _=0
  omega
 | succ k ih =>
  intro a t h ht hl
  by_cases h0:a.high=0
  ·exact last a t h0 ht (by omega)
  have Mh:18446744073709551616≤a.val:=by
   rw [dH.kG]
   have:0<a.high.toNat:=by
    rcases Nat.eq_zero_or_pos a.high.toNat with e | e
    ·exact (h0 (gf e)).elim
    ·exact e
   omega
  refine cZ.bX _ _ _ ?_
  intro v1 h1 v2 h2 v3 h3 v4 h4 v5 h5 v6 h6
  rw [U4] at h1 h2
  have hm:=Nat.mod_lt a.val (show 0<10000000000000000000 by omega)
  have e1:v1=dH.of (a.val / 10000000000000000000):=h1
  have e2:v2.toNat=a.val % 10000000000000000000:=by rw [h2];show (UInt64.ofNat (a.val % 10000000000000000000)).toNat=_;rw [fA];omega
  have Oy:a.val<340282366920938463463374607431768211456:=by rw [dH.kG];have:=a.high.toNat_lt;have:=a.low.toNat_lt;omega
  have ev:v1.val=a.val / 10000000000000000000:=by rw [e1,NW (by omega)]
  have hd:=Nr.iV 19 (a.val % 10000000000000000000) (by rw [t19];exact hm) (by omega)
  have hd1:=Nr.mg (a.val % 10000000000000000000)
  rw [e2] at h3 h5
  have e4:v4=(19:Nat) - ((Nr.dec (a.val % 10000000000000000000)).length:Int):=by rw [h4,h3,i64_in _ (by omega)];rfl
  have hz:(Sh.eK v4).length=v4.toNat:=by unfold Sh.eK;rw [List.length_replicate]
  have YR:v5.length≤20:=by rw [h5,aj,hz];omega
  rw [ab h0,aI,ah,bx (by rfl),bx (by rfl),bx (aa ⟨rfl,by omega,by omega⟩),e2,bx (aa (by rw [hz];omega)),bx (aa (by omega))]
  rw [ih v1 (v5++t) (by rw [ev,Nat.div_lt_iff_lt_mul (by omega),Nat.mul_assoc,←Nat.pow_succ];exact h) (.inr (by rw [ev];omega)) (by rw [aj];omega),ev,
   JJ (n:=a.val) (k:=19) (p:=10000000000000000000) (by decide) (by omega) (by omega),h5,e4,aE,aE,aE]
theorem cZ.goal (a:dH):cZ.F a=some [.s (Nr.dec a.val)]:=by
 have Oy:a.val<340282366920938463463374607431768211456:=by rw [dH.kG];have:=a.high.toNat_lt;have:=a.low.toNat_lt;omega
 rw [cZ.dW,cZ.cO 2 a [] (by rw [t38];omega) (.inl rfl) (by simp),bj]
 exact K1 (Nat.le_trans (Nr.iV 40 a.val (by rw [t40];omega) (by omega)) (by omega))
end Go.Eng
set_option maxRecDepth 20000
namespace Go.Eng
open Go.IntWalk
theorem qN (n:Int):Sh.eK n=List.replicate n.toNat 48:=rfl
theorem dt.goal (d:bz) (x:Int) (hp:(decide (1≤d.length∧d.length≤40∧-10000≤x∧x≤100000))=true):dt.F d x=some [.s (Cn.laid d x)]:=by
 obtain ⟨l1,l2,x1,x2⟩:=aq hp
 refine dt.bY _ _ ?_
 intro v1 h1 v2 h2 v3 h3 v4 h4 v5 h5 v6 h6 v7 h7 v8 h8
 unfold Cn.laid
 simp only
 by_cases c0:x=0
 ·rw [aa c0,ah,au c0]
 rw [ab c0,ae,ao c0,bx (jR _),bx (jR _)]
 have e1:v1=x+d.length:=by rw [h1,i64_in _ (by omega)]
 have e2:v2=x+d.length - 1:=by rw [h2,e1,i64_in _ (by omega)]
 have e3:v3=decide (x<0∧-6≤x+d.length - 1):=by rw [h3,e2,Bool.decide_and,va]
 have e5:v5=1 - x - d.length:=by rw [h5,h4,i64_in (1 - x) (by omega),i64_in _ (by omega)]
 have en:IntKind.i64.wrap (0 - x)=-x:=by rw [i64_in _ (by omega)];omega
 rw [e3,en]
 by_cases c1:x<0∧-6≤x+d.length - 1
 ·rw [aa c1,ah,au c1]
  have key:∀s:bz,s.length≤200→-x≤s.length→dt.j1 s x (s.length:Int)=some [.s (s.take (s.length+x).toNat++46 :: s.drop (s.length+x).toNat)]:=fun s hs hx=>by
   refine dt.iR _ _ _ ?_
   intro w1 g1 w2 g2
   have e:IntKind.i64.wrap ((s.length:Int)+x)=s.length+x:=i64_in _ (by omega)
   rw [e] at g1 g2 ⊢
   rw [bx (j9 (by omega) (by omega) (by omega)),bx (aa ?_),bx (j9 (by omega) (by omega) (by omega)),bx (aa ?_),g1,g2]
   ·simp
   ·rw [g1,g2];simp;omega
   ·rw [g1];simp;omega
  by_cases c2:(d.length:Int)≤-x
  ·rw [aa c2,ah,au c2,bx (aa ⟨by trivial,by omega,by omega⟩),bx (aa (by rw [qN,List.length_replicate];omega)),h6,e5]
   exact key _ (by rw [aj,qN,List.length_replicate];omega) (by rw [aj,qN,List.length_replicate];omega)
  ·rw [ab c2,ae,ao c2]
   exact key _ (by omega) (by omega)
 ·rw [ab c1,ae,ao c1,bx (j9 (by omega) (by omega) (by omega))]
  have e7:v7=d.take 1:=h7
  have e8:v8=d.drop 1:=h8
  have key:∀s:bz,s.length≤200→dt.j2 v2 s=some [.s (if x+d.length - 1<0 then s++[69,45]++Nr.itoa (-(x+d.length - 1)) else s++[69,43]++Nr.itoa (x+d.length - 1))]:=fun s hs=>by
   refine dt.jx _ _ ?_
   intro w1 g1 w2 g2 w3 g3
   have hi:∀v:Int,-1000000≤v→v≤1000000→Nr.i64 v=true∧(Nr.itoa v).length≤30:=fun v a b=>by
    refine ⟨aa (by omega),?_⟩
    rw [Nr.lC]
    have:=Nr.iV 20 v.natAbs (by rw [t20];omega) (by omega)
    split
    ·simp only [az];omega
    ·omega
   have ew:IntKind.i64.wrap (0 - v2)=-(x+d.length - 1):=by rw [e2,i64_in _ (by omega)];omega
   rw [ew] at g1 ⊢
   rw [g2,g3,g1,e2]
   by_cases c:x+(d.length:Int) - 1<0
   ·rw [aa c,ah,au c,bx (aa (by simp;omega)),bx (hi _ (by omega) (by omega)).1,bx (aa ?_)]
    have:=(hi (-(x+d.length - 1)) (by omega) (by omega)).2
    simp;omega
   ·rw [ab c,ae,ao c,bx (aa (by simp;omega)),bx (hi _ (by omega) (by omega)).1,bx (aa ?_)]
    have:=(hi (x+d.length - 1) (by omega) (by omega)).2
    simp;omega
  by_cases c2:(1:Int)<d.length
  ·rw [aa c2,ah,au c2,bx (j9 (by omega) (by omega) (by omega)),bx (aa (by rw [e8];simp;omega)),bx (aa (by rw [e8,e7];simp;omega)),e7,e8]
   exact key _ (by simp;omega)
  ·rw [ab c2,ae,ao c2,e7]
   exact key _ (by simp;omega)
theorem tT (h l:UInt64):(Cn.split h l).2.2.1.val<10000000000000000000000000000000000:=by
 have z:dH.val ⟨0,0⟩=0:=by rw [dH.kG];rfl
 rw [Cn.tS]
 unfold Cn.q7
 simp only
 split
 ·rw [z];omega
 split
 ·rw [z];omega
 split
 ·rw [z];omega
 ·dsimp only
  split
  ·assumption
  ·rw [z];omega
theorem t34:(10:Nat) ^ 34=10000000000000000000000000000000000:=by decide
theorem wG {d:bz} {x:Int} (h1:d.length≤40) (h2 : -10000≤x) (h3:x≤100000):(Cn.laid d x).length≤20000:=by
 unfold Cn.laid
 simp only
 have hi:∀v:Int,-1000000≤v→v≤1000000→(Nr.itoa v).length≤30:=fun v a b=>by
  rw [Nr.lC]
  have:=Nr.iV 20 v.natAbs (by rw [t20];omega) (by omega)
  split
  ·simp only [az];omega
  ·omega
 have i1:=hi (-(x+d.length - 1)) (by omega) (by omega)
 have i2:=hi (x+d.length - 1) (by omega) (by omega)
 have tl:(if (1:Int)<(d.length:Int) then d.take 1++46 :: d.drop 1 else d.take 1).length≤60:=by
  split <;> simp <;> omega
 split
 ·omega
 split
 ·split <;> simp <;> omega
 ·split <;> rw [aj,aj] <;> simp only [az,aB] <;> omega
theorem eG.goal (h l:UInt64):eG.F h l=some [.s (Cn.uS h l)]:=by
 refine eG.bY _ _ ?_
 intro v1 h1 v2 h2
 have hx:=qZ h l
 have hc:=tT h l
 have hd:=Nr.iV 34 _ (by rw [t34];exact hc) (by omega)
 have hd1:=Nr.mg (Cn.split h l).2.2.1.val
 unfold Cn.uS
 simp only
 by_cases c1:(Cn.split h l).1=3
 ·rw [aa c1,ah,au c1]
 rw [ab c1,ae,ao c1]
 have key:∀t:bz,t.length≤20000→eG.j1 (Cn.split h l).2.1 t=some [.s (cond (Cn.split h l).2.1 (45 :: t) t)]:=fun t ht=>by
  rw [eG.lg]
  cases (Cn.split h l).2.1 with
  | true=>rw [ah,bx (aa (by simp;omega))];rfl
  | false=>rfl
 by_cases c2:(Cn.split h l).1=2
 ·rw [aa c2,ah,au c2];exact key _ (by decide)
 rw [ab c2,ae,ao c2,bx (aa (by rw [h1];omega)),h2,h1]
 exact key _ (wG (by omega) (by omega) (by omega))
end Go.Eng
set_option maxRecDepth 20000
namespace Go.Eng
open Go.IntWalk
theorem Lk:Cn.Fq.length=64:=rfl
theorem vH (n:UInt8) (h:n.toNat<64):bD (n.toNat:Int) Cn.Fq.length=true:=bN (by omega) (by rw [Lk];omega)
theorem Lj (x:UInt8) (k:Nat):(lO x k).toNat=x.toNat / 2 ^ k:=by
 unfold lO
 rw [UInt8.toNat_ofNat']
 exact Nat.mod_eq_of_lt (Nat.lt_of_le_of_lt (Nat.div_le_self ..) x.toNat_lt)
theorem M9 (x:UInt8):(lO x 2).toNat<64:=by rw [Lj];have:=x.toNat_lt;omega
theorem JU (x:UInt8):(x &&& (63:UInt8)).toNat<64:=by
 rw [UInt8.toNat_and,show (63:UInt8).toNat=2 ^ 6 - 1 from rfl,Nat.and_two_pow_sub_one_eq_mod];omega
theorem KQ (x:UInt8):(mj (x &&& 3) 4).toNat<64∧16 ∣ (mj (x &&& 3) 4).toNat:=by
 have h:(x &&& (3:UInt8)).toNat=x.toNat % 4:=by rw [UInt8.toNat_and,show (3:UInt8).toNat=2 ^ 2 - 1 from rfl,Nat.and_two_pow_sub_one_eq_mod]
 unfold mj
 rw [h,UInt8.toNat_ofNat']
 omega
theorem KR (x:UInt8):(mj (x &&& 15) 2).toNat<64∧4 ∣ (mj (x &&& 15) 2).toNat:=by
 have h:(x &&& (15:UInt8)).toNat=x.toNat % 16:=by rw [UInt8.toNat_and,show (15:UInt8).toNat=2 ^ 4 - 1 from rfl,Nat.and_two_pow_sub_one_eq_mod]
 unfold mj
 rw [h,UInt8.toNat_ofNat']
 omega
theorem Px {a b:UInt8} (h:a.toNat<64) (k:b.toNat<64):(a ||| b).toNat<64:=by
 rw [UInt8.toNat_or];exact Nat.or_lt_two_pow (n:=6) h k
theorem KP (x:UInt8) (k:Nat) (h:2≤k):(lO x k).toNat<64:=by
 rw [Lj]
 have h1:x.toNat / 2 ^ k≤x.toNat / 2 ^ 2:=Nat.div_le_div_left (Nat.pow_le_pow_right (by omega) h) (by decide)
 have:=x.toNat_lt
 omega
theorem Au:∀l:bz,(Cn.base l).length≤2 * l.length+4
 | []=>by simp [Cn.base]
 | [_]=>by simp [Cn.base]
 | [_,_]=>by simp [Cn.base]
 | _ :: _ :: _ :: r=>by have:=Au r;simp [Cn.base];omega
theorem db.cO:∀(n:Nat) (l t:bz),l.length≤n→l.length≤1099511627776→t.length+2 * l.length≤5000000000000→db.l1 l t=some [.s (t++Cn.base l)]:=by
 intro n
 induction n with
 | zero =>
  intro l t h _ _
  have:l=[]:=bf (by omega)
  subst this
  refine db.bX _ _ ?_
  intros
  rw [ab (by simp),ae,ab (by simp),ae,ab (by simp),ae,db.lf]
  simp [Cn.base]
 | succ n ih =>
  intro l t h hl ht
  refine db.bX _ _ ?_
  intro v1 h1 v2 h2 v3 h3 v4 h4 v5 h5 v6 h6 v7 h7 v8 h8 v9 h9 v10 iS v11 kA v12 jM kq nr jh oa jb nV lA sw tG zS tF wv
  have e2:v2=lO v1 2:=h2
  have e4:v4=mj (v1 &&& 3) 4:=h4
  have e6:v6=lO v5 4:=h6
  have e8:v8=mj (v5 &&& 15) 2:=h8
  have Ew:v10=lO v9 6:=iS
  have i1:=vH v2 (by rw [e2];exact M9 _)
  have i2:=vH (v4 ||| v6) (Px (by rw [e4];exact (KQ _).1) (by rw [e6];exact KP _ _ (by omega)))
  have i3:=vH (v8 ||| v10) (Px (by rw [e8];exact (KR _).1) (by rw [Ew];exact KP _ _ (by omega)))
  have i4:=vH (v9 &&& 63) (JU _)
  have i5:=vH v4 (by rw [e4];exact (KQ _).1)
  have i6:=vH v8 (by rw [e8];exact (KR _).1)
  have s3:v3=Cn.sign v2:=h3
  have s7:v7=Cn.sign (v4 ||| v6):=h7
  have U0:v11=Cn.sign (v8 ||| v10):=kA
  have UZ:v12=Cn.sign (v9 &&& 63):=jM
  have UY:jb=Cn.sign v4:=nV
  have UX:tG=Cn.sign v8:=zS
  change bD _ (([65,66,67,68,69,70,71,72,73,74,75,76,77,78,79,80,81,82,83,84,85,86,87,88,89,90,97,98,99,100,101,102,103,104,105,106,107,108,109,110,111,112,113,114,115,116,117,118,119,120,121,122,48,49,50,51,52,53,54,55,56,57,43,47]:bz)).length=true at i1 i2 i3 i4 i5 i6
  rw [i1,i2,i3,i4,i5,i6]
  match l,h,hl,ht with
  | [],_,_,_ =>
   rw [ab (by simp),ae,ab (by simp),ae,ab (by simp),ae,db.lf]
   simp [Cn.base]
  | [a],_,_,ht =>
   have ea:v1=a:=h1
   simp only [az,aB] at ht
   rw [ab (by simp),ae,aa (by simp),ah,bx (by rfl),bU,bx (by rfl),bU,bx (dP (by rw [sw];simp;omega) (by rw [sw];simp;omega)),db.lf]
   rw [sw,s3,UY,e4,e2,ea];rfl
  | [a,b],_,_,ht =>
   have ea:v1=a:=h1
   have eb:v5=b:=h5
   simp only [az,aB] at ht
   rw [ab (by simp),ae,ab (by simp),ae,aa (by simp),ah,bx (by rfl),bU,bx (by rfl),bx (by rfl),bU,bx (by rfl),bU,bx (dP (by rw [wv];simp;omega) (by rw [wv];simp;omega)),db.lf]
   rw [wv,s3,s7,UX,e8,e6,e4,e2,ea,eb];rfl
  | a :: b :: c :: r,h,hl,ht =>
   have ea:v1=a:=h1
   have eb:v5=b:=h5
   have ec:v9=c:=h9
   have er:jh=r:=oa
   simp only [az] at h hl ht
   have x:∀k:Int,0≤k→k<3→bD k (a :: b :: c :: r).length=true:=fun k h1 h2=>bN h1 (by simp;omega)
   rw [aa (by simp;omega),ah,bx (x _ (by omega) (by omega)),bU,bx (x _ (by omega) (by omega)),bx (x _ (by omega) (by omega)),bU,bx (x _ (by omega) (by omega)),bx (x _ (by omega) (by omega)),bU,bx (x _ (by omega) (by omega)),bU,
    bx (dP (by rw [nr];simp;omega) (by rw [nr];simp;omega)),bx (j9 (by omega) (by simp;omega) (by simp)),er,
    ih r _ (by omega) (by omega) (by rw [nr];simp;omega)]
   rw [nr,s3,s7,U0,UZ,Ew,e8,e6,e4,e2,ea,eb,ec,aE];rfl
theorem db.goal (b:bz) (hp:(decide (b.length≤1099511627776))=true):db.F b=some [.s (Cn.base b)]:=by
 have hp:=aq hp
 rw [db.dW,db.cO b.length b [] (Nat.le_refl _) hp (by simp;omega)];rfl
end Go.Eng
set_option maxRecDepth 20000
namespace Go.Eng
open Go.IntWalk
theorem gB.goal (s:bz):gB.F s=some [.ag (bP.cells (Cn.str s))]:=gB.dW s
theorem ik.goal (v:Int) (hp:(Nr.i64 v)=true):ik.F v=some [.ag (bP.cells (Cn.num v))]:=by rw [ik.dW,bx hp];rfl
theorem gC.goal (s:bz) (j:bP):gC.F s j=some [.ag (bP.cells (Cn.one s j))]:=by
 refine gC.bY _ _ ?_
 intro v1 h1
 rw [h1];rfl
theorem gA.goal (s:bz) (j:bP) (t:bz) (k:bP):gA.F s j t k=some [.ag (bP.cells (Cn.two s j t k))]:=by
 refine gA.bY _ _ _ _ ?_
 intro v1 h1
 rw [h1];rfl
theorem dR.cO (v:UInt64):∀(m:Nat) (b:bz),b.length+m≤100→dR.l1 v (8 * (m:Int) - 8) b=some [.s (mN.text (b++((List.range m).reverse.map fun k=>UInt8.ofInt ((dQ v (8 * k)).toNat:Int))))]
 | 0,b,hb=>by
  refine dR.bX _ _ _ ?_
  intro v1 h1 v2 h2
  rw [ab (by omega),ae,bx (aa (by omega))]
  simp
 | m+1,b,hb=>by
  refine dR.bX _ _ _ ?_
  intro v1 h1 v2 h2
  have e2:v2=8 * (m:Int) - 8:=by rw [h2,i64_in _ (by omega)];omega
  have ek:(8 * ((m+1:Nat):Int) - 8).toNat=8 * m:=by omega
  rw [ek] at h1
  rw [aa (by omega),ah,bU,bx (dP (by simp;omega) (by simp;omega)),e2,dR.cO v m (b++[v1]) (by simp;omega),h1]
  rw [List.range_succ,List.reverse_append]
  simp
theorem dR.goal (v:UInt64):dR.F v=some [.s (Cn.high v)]:=by
 rw [dR.dW,show (56:Int)=8 * ((8:Nat):Int) - 8 by omega,dR.cO v 8 [] (by simp)]
 rfl
theorem kz:∀l:bz,(mN.text l).length=2 * l.length
 | []=>rfl
 | x :: r=>by
  have:=kz r
  simp only [mN.text,mN.two,aj,az,aB,this];omega
theorem oM (v:UInt64):(Cn.high v).length≤100:=by
 unfold Cn.high Cn.b8
 rw [kz];simp
theorem eT.goal (v:Val):eT.F v=some [.ag (bP.cells (Cn.oD v).1),.b (Cn.oD v).2]:=by
 refine eT.bY _ ?_
 intro v1 h1 v2 h2 v3 h3 v4 h4 v5 h5 v6 h6 v7 h7 v8 h8 v9 h9 v10 iS v11 kA v12 jM kq nr jh oa jb nV lA sw tG zS tF wv wX ET v20 CR v21 Pf v22 Pe
 unfold Cn.oD
 have i6:Nr.i64 v6=true:=by rw [h6];exact nc _
 by_cases k1:v.kind=1
 ·rw [aa k1,ah,au k1,bx (jR _),bx (jR _),bx (jR _),h1,va]
  cases (decide (Sh.text v.bits=([78,97,78]:bz))&&!decide (v.bits=9221120237041090560)) with
  | true=>rw [ah,au rfl,h3,h2]
  | false=>rw [ae,ao (by simp),h5,h4]
 rw [ab k1,ae,ao k1]
 by_cases k2:v.kind=9
 ·rw [aa k2,ah,au k2,bx i6,h8,h7,h6];rfl
 rw [ab k2,ae,ao k2]
 by_cases k3:v.kind=16
 ·rw [aa k3,ah,au k3,bx (nc _),kA,iS,h9];rfl
 rw [ab k3,ae,ao k3]
 by_cases k4:v.kind=18
 ·rw [aa k4,ah,au k4,bx i6,h7,h6];rfl
 rw [ab k4,ae,ao k4]
 by_cases k5:v.kind=17
 ·rw [aa k5,ah,au k5,bx (by rw [nr];exact nc _),bx (by rw [nV];exact nc _),zS,sw,nV,oa,nr,jM];rfl
 rw [ab k5,ae,ao k5]
 by_cases k6:v.kind=19
 ·rw [aa k6,ah,au k6,wv]
  cases Cn.ri v.high v.low with
  | true=>rw [ah,au rfl,CR,ET]
  | false =>
   have:=oM v.high
   have:=oM v.low
   rw [ae,ao (by simp),bx (aa (by omega)),Pe,Pf]
 ·rw [ab k6,ae,ao k6];rfl
theorem gO.goal (v:Val) (hp:(decide (bA.bJ (bA.of [] v)≤1099511627776))=true):gO.F v=some [.ag (bP.cells (Cn.pz v))]:=by
 have hp:=aq hp
 have hb:v.bytes.length≤1099511627776:=by
  simp only [bA.of,bA.bJ] at hp;omega
 refine gO.bY _ ?_
 intro v1 h1 v2 h2 v3 h3 v4 h4 v5 h5 v6 h6 v7 h7 v8 h8 v9 h9 v10 iS v11 kA v12 jM
 unfold Cn.pz
 by_cases k1:v.kind=5
 ·rw [aa k1,ah,au k1,bx (aa hb),bx (aa (by rw [h2];simp)),h4,h3,h2,h1]
 rw [ab k1,ae,ao k1]
 by_cases k2:v.kind=7
 ·rw [aa k2,ah,au k2,bx (aa hb),h6,h5]
 rw [ab k2,ae,ao k2]
 by_cases k3:v.kind=11
 ·rw [aa k3,ah,au k3,h8,h7]
 rw [ab k3,ae,ao k3]
 by_cases k4:v.kind=12
 ·rw [aa k4,ah,au k4,bx (aa hb),iS,h9,h6,h5]
 rw [ab k4,ae,ao k4]
 by_cases k5:v.kind=13
 ·rw [aa k5,ah,au k5,kA]
 rw [ab k5,ae,ao k5]
 by_cases k6:v.kind=14
 ·rw [aa k6,ah,au k6,jM]
 rw [ab k6,ae,ao k6]
end Go.Eng
set_option maxRecDepth 20000
namespace Go.Eng
open Go.IntWalk
theorem JB:∀f:bA,1≤bA.bJ f
 | .mk _ _ _ _ _ _ _ _ _ _=>by simp only [bA.bJ];omega
theorem ma:∀l:List bA,l.length≤bA.cm l
 | []=>by simp [bA.cm]
 | f :: r=>by have:=ma r;have:=JB f;simp only [bA.cm,az];omega
theorem s4 (f:bA):bA.bJ (bA.of [] f.val)≤bA.bJ f:=by
 cases f;simp only [bA.of,bA.val,bA.kind,bA.bits,bA.high,bA.low,bA.text,bA.more,bA.sub,bA.bytes,bA.kids,bA.bJ,aB];omega
theorem xJ {l:List bA} {i:Nat} (h:i<l.length) (d:bA):bA.bJ (l.getD i d)≤bA.cm l:=by
 induction l generalizing i with
 | nil=>simp at h
 | cons f r ih =>
  cases i with
  | zero=>simp [bA.cm]
  | succ i=>have:=ih (i:=i) (by simpa using h);simp only [List.getD_cons_succ,bA.cm];omega
theorem G5 (f:bA):Cn.xK f=Cn.yy f.val:=by
 cases f;simp only [Cn.yy,bA.of,bA.val,bA.kind,bA.bits,bA.high,bA.low,bA.text,bA.more,bA.sub,bA.bytes,bA.kids,Cn.xK]
theorem vY:∀l:List bA,(Cn.kD l).length=l.length
 | []=>by simp [Cn.kD]
 | f :: r=>by simp [Cn.kD,vY r]
theorem cN.cO (n:Nat) (l:List bA) (hb:bA.cm l≤1099511627776) (hn:2 * bA.cm l<n) (x3:Int) (x4:bz) (x7:List Mem):∀(m i:Nat) (acc:List Mem),i+m=l.length→acc.length=i →
  cN.l1 n l (l.length:Int) (i:Int) x3 x4 7 [] x7 acc=some [.ag [.i .i64 7,.s [],.sl .ml (acc++Cn.kD (l.drop i))]]
 | 0,i,acc,hi,ha=>by
  refine cN.bX _ _ _ _ _ _ _ _ _ _ ?_
  intro v1 h1 v2 h2 v3 h3 v4 h4 v5 h5 v6 h6
  rw [ab (by omega),ae,aC (by omega)]
  simp [Cn.kD]
 | m+1,i,acc,hi,ha=>by
  have hlen:=ma l
  refine cN.bX _ _ _ _ _ _ _ _ _ _ ?_
  intro v1 h1 v2 h2 v3 h3 v4 h4 v5 h5 v6 h6
  rw [ak] at h1
  have hf:=xJ (l:=l) (i:=i) (by omega) (fx.gm .fl)
  rw [←h1] at hf
  have hv:=s4 v1
  have e6:v6=((i+1:Nat):Int):=by rw [h6,i64_in _ (by omega)];omega
  have cB:((decide (bA.bJ (bA.of [] (bA.val v1))≤1099511627776))&&decide ((2 * bA.bJ (bA.of [] (bA.val v1)))<n))=true:=by
   rw [af];exact ⟨aa (by omega),aa (by omega)⟩
  rw [aa (by omega),ah,bx (bN (by omega) (by omega)),bx cB,bx (dP (by rw [h5];simp;omega) (by rw [h5];simp;omega)),e6,
   cN.cO n l hb hn x3 x4 x7 m (i+1) (acc++v5) (by omega) (by rw [h5];simp;omega),drop_cons (l:=l) (i:=i) (by omega) (fx.gm .fl),←h1]
  have e5:v5=[Mem.of v1.name (Cn.xK v1)]:=by rw [h5,h2,h3,h4,G5];rfl
  rw [e5,aE]
  simp [Cn.kD]
theorem cN.goal (n:Nat) (l:List bA) (hp:((decide (bA.cm l≤1099511627776))&&decide ((2 * bA.cm l+1)<n+1))=true):cN.F n l=some [.ag (bP.cells (Cn.rP l))]:=by
 rw [af] at hp
 have h1:=aq hp.1
 have h2:=aq hp.2
 rw [cN.dW]
 exact cN.cO n l h1 (by omega) 0 [] [] l.length 0 [] (by omega) rfl
theorem dw.cO (n:Nat) (x2:Int) (x3:bz) (x5:bz) (x6:List Mem) (l:List Mem) (hl:l.length≤1099511627776):∀(m i:Nat) (acc:List Mem),i+m=l.length→acc=(l.take i).map Cn.oF++l.drop i →
  dw.l1 n (l.length:Int) (i:Int) x2 x3 6 x5 x6 acc=some [.ag [.i .i64 6,.s x5,.sl .ml (l.map Cn.oF)]]
 | 0,i,acc,hi,ha=>by
  refine dw.bX _ _ _ _ _ _ _ _ _ ?_
  intro v1 h1 v2 h2
  rw [ab (by omega),ae,ha,aC (by omega),List.take_of_length_le (by omega),bj]
 | m+1,i,acc,hi,ha=>by
  have O9:acc.length=l.length:=by rw [ha];simp;omega
  have qM:i<l.length:=by omega
  refine dw.bX _ _ _ _ _ _ _ _ _ ?_
  intro v1 h1 v2 h2
  rw [ak] at h1 ⊢
  have e2:v2=((i+1:Nat):Int):=by rw [h2,i64_in _ (by omega)];omega
  rw [aa (by omega),ah,bx (bN (by omega) (by omega)),bx (aa (by omega)),e2]
  refine dw.cO n x2 x3 x5 x6 l hl m (i+1) v1 (by omega) ?_
  have eg:acc.getD i (fx.gm .ml)=l[i]:=by
   rw [ha,ai,aR (by simp;omega)]
   simp only [bc,aF,Nat.min_eq_left (Nat.le_of_lt qM),Nat.sub_self,List.getElem?_drop,Nat.add_zero]
   rw [ar qM];rfl
  rw [h1,eg,ha,List.set_append_right _ _ (by simp;omega)]
  simp only [bc,aF,Nat.min_eq_left (Nat.le_of_lt qM),Nat.sub_self]
  rw [List.drop_eq_getElem_cons qM,List.set_cons_zero,List.take_succ_eq_append_getElem qM,List.map_append,aE]
  rfl
theorem dw.goal (n:Nat) (v:Val) (hp:((decide (bA.bJ (bA.of [] v)≤1099511627776))&&decide ((2 * bA.bJ (bA.of [] v))<n+1))=true):dw.F n v=some [.ag (bP.cells (Cn.yy v))]:=by
 rw [af] at hp
 have hb:=aq hp.1
 have hn:=aq hp.2
 have hk:bA.cm v.kids+1≤bA.bJ (bA.of [] v):=by simp only [bA.of,bA.bJ];omega
 have hlen:=ma v.kids
 refine dw.bY _ _ ?_
 intro v1 h1 v2 h2 v3 h3 v4 h4 v5 h5 v6 h6 v7 h7 v8 h8 v9 h9 v10 iS v11 kA v12 jM kq nr jh oa jb nV lA sw
 have cA:((decide (bA.cm v.kids≤1099511627776))&&decide ((2 * bA.cm v.kids+1)<n))=true:=by
  rw [af];exact ⟨aa (by omega),aa (by omega)⟩
 have hd:(⟨v6,v7,v5⟩:bP)=Cn.rP v.kids:=by rw [h5,h6,h7]
 have e5:v5=Cn.kD v.kids:=h5
 have e6:v6=7:=h6
 have e7:v7=[]:=h7
 unfold Cn.yy
 simp only [bA.of,Cn.xK]
 by_cases k1:v.kind=3
 ·have e4:v4=Cn.kM v.kids:=by
   rw [h4,h3,h2,h1]
   unfold Cn.kM
   cases v.kids with
   | nil=>rfl
   | cons f r =>
    rw [aa (by simp),ah]
    show List.isPrefixOf [36] f.name=decide (f.name.take 1=[36])
    generalize f.name=s
    cases s with
    | nil=>rfl
    | cons c t =>
     by_cases e:c=36
     ·subst e;simp [List.isPrefixOf]
     ·have e':¬(36:UInt8)=c:=fun h=>e h.symm
      simp [List.isPrefixOf,e,e']
  have ci:(!(decide ((0:Int)<v1)) || ((decide ((0:Int)<v1))&&(bD (0:Int) v.kids.length)))=true:=by
   by_cases c:(0:Int)<v1
   ·rw [bN (by omega) (by omega)];cases decide ((0:Int)<v1) <;> rfl
   ·rw [ab c];rfl
  rw [aa k1,ah,au k1,bx (jR _),bx ci,bx (jR _),bx (jR _),bx (jR _),bx (jR _),bx cA,bx cA,e4,h8,hd,e5,e6,e7]
  cases Cn.kM v.kids <;> rfl
 rw [ab k1,ae,ao k1]
 by_cases k2:v.kind=4
 ·rw [aa k2,ah,au k2,bx cA,bx (aa (by omega)),h9,iS,hd,e5,e7]
  cases Tree.regular v.kids with
  | false=>rfl
  | true =>
   rw [aG,ae,ah]
   have:=dw.cO n 0 [] [] [] (Cn.kD v.kids) (by rw [vY];omega) (Cn.kD v.kids).length 0 (Cn.kD v.kids) (by omega) (by simp)
   exact this
 rw [ab k2,ae,ao k2]
 by_cases k3:v.kind=15
 ·rw [aa k3,ah,au k3,bx cA,kA,hd];rfl
 rw [ab k3,ae,ao k3]
 have i1:Nr.i64 1=true:=aa (by decide)
 unfold Cn.qu
 by_cases k4:v.kind=6
 ·rw [aa k4,ah,au k4,jM]
 rw [ab k4,ae,ao k4]
 by_cases k5:v.kind=8
 ·rw [aa k5,ah,au k5,oa,nr];rfl
 rw [ab k5,ae,ao k5]
 by_cases k6:v.kind=10
 ·rw [aa k6,ah,au k6];rfl
 rw [ab k6,ae,ao k6]
 by_cases k7:v.kind=255
 ·rw [aa k7,ah,au k7,bx i1,nV]
 rw [ab k7,ae,ao k7]
 by_cases k8:v.kind=127
 ·rw [aa k8,ah,au k8,bx i1,sw]
 rw [ab k8,ae,ao k8]
 show cond (Cn.oD v).2 _ _=some [TV.ag (bP.cells (if (Cn.oD v).2=true then (Cn.oD v).1 else Cn.pz v))]
 cases (Cn.oD v).2 with
 | true=>rw [ah,au rfl]
 | false=>rw [ae,ao (by simp)];exact bx hp.1
theorem gP.goal (v:Val) (hp:(decide (bA.bJ (bA.of [] v)≤1099511627776))=true):gP.F v=some [.ag (bP.cells (Cn.zF v)),.ag [.i .i64 (Cn.iO v).2,.i .i64 0,.sl .is (Cn.iO v).1]]:=by
 have hb:=aq hp
 have hk:bA.cm v.kids+1≤bA.bJ (bA.of [] v):=by simp only [bA.of,bA.bJ];omega
 refine gP.bY _ ?_
 intro v1 h1 v2 h2 v3 h3 v4 h4 v5 h5
 rw [bx hp]
 unfold Cn.zF
 by_cases c:(Tree.gQ (bA.of [] v) []).2=0
 ·rw [h2,aa c,aG,ae]
  by_cases k:v.kind=3
  ·have e:Cn.iO v=([],0):=by unfold Cn.iO;rw [ao (by simp [c]),au k]
   rw [aa k,aG,ae,bx (aa (by omega)),e,au rfl,h3,h4,h5];rfl
  ·have e:Cn.iO v=([],5):=by unfold Cn.iO;rw [ao (by simp [c]),ao k]
   rw [ab k,aI,ah,e,ao (by decide)];rfl
 ·have e:Cn.iO v=Tree.gQ (bA.of [] v) []:=by unfold Cn.iO;rw [au c]
  rw [h2,ab c,aI,ah,e,ao c,h1];rfl
end Go.Eng
set_option maxRecDepth 20000
namespace Go.Eng
open Go.IntWalk
theorem iK.goal (r:Int):iK.F r=some [.b (fR.nM r)]:=by
 refine iK.bY r ?_
 intro v1 h1 v2 h2 v3 h3
 subst h1 h2 h3
 by_cases a:0≤r <;> by_cases b:r≤1114111 <;> by_cases c:r<55296 <;> simp [ck,a,b,c,fR.nM]
theorem Ng:∀n,n<256→((n &&& 192=128) ↔ (128≤n∧n<192)):=by decide +kernel
theorem Py:∀n,n<256→(128≤n∧n<192)→n &&& 63=n - 128:=by decide +kernel
theorem Pz:∀n,n<256→(192≤n∧n<224)→n &&& 31=n - 192:=by decide +kernel
theorem PB:∀n,n<256→(224≤n∧n<240)→n &&& 15=n - 224:=by decide +kernel
theorem SA:∀n,n<256→(240≤n∧n<248)→n &&& 7=n - 240:=by decide +kernel
theorem K4 (c:UInt8):c.toNat<256:=by have:=c.toNat_lt;simpa using this
theorem EG (c:UInt8):decide ((c &&& (192:UInt8))=(128:UInt8))=decide (128≤c.toNat∧c.toNat<192):=by
 have h:=Ng c.toNat (K4 c)
 rw [aS]
 simp only [aA]
 rw [←h,←UInt8.toNat_inj,UInt8.toNat_and]
 exact Iff.rfl
theorem Rc (c:UInt8) (h:128≤c.toNat∧c.toNat<192):((c &&& (63:UInt8)).toNat:Int)=((c.toNat - 128:Nat):Int):=by
 rw [UInt8.toNat_and]
 exact congrArg _ (Py c.toNat (K4 c) h)
def DX (r:Option Nat) (more least:Nat):OT:=match r with
 | some r=>if r<least∨fR.nM r=false then some [.i .i64 0,.i .i64 0] else some [.i .i64 r,.i .i64 (more+1:Int)]
 | none=>some [.i .i64 0,.i .i64 0]
theorem Jc (c:Nat) (more least:Nat) (l:bz):DX (fR.cont c more l) more least=some [.i .i64 (fR.oG c more least l).1,.i .i64 (fR.oG c more least l).2]:=by
 unfold DX fR.oG
 cases fR.cont c more l with
 | none=>rfl
 | some r=>simp only;split <;> rfl
theorem bK.end_ (r:Nat) (more least:Nat) (hm:more<8) :
  (ck (!(!(decide ((r:Int)<(least:Int)))) || (!(decide ((r:Int)<(least:Int))))) (ck (!(!(decide ((r:Int)<(least:Int)))) || (!(decide ((r:Int)<(least:Int))))) (ck ((decide ((r:Int)<(least:Int))) || (!(decide ((r:Int)<(least:Int))))) (cond (cond (decide ((r:Int)<(least:Int))) true (!(fR.nM r)))
  (bK.g1)
  (some [(.i .i64 (r:Int)),(.i .i64 (IntKind.i64.wrap ((more:Int)+(1:Int))))])))))=DX (some r) more least:=by
 simp only [aW,bn,bU]
 rw [i64_in _ (by omega),bK.wz]
 unfold DX
 by_cases h:r<least
 ·simp [h]
 ·simp only [show ¬((r:Int)<(least:Int)) by omega,decide_false,ae,h,false_or]
  cases fR.nM r <;> simp
theorem bK.Pk (b:bz) (at_:Nat) (more least:Nat) (hm:more<8) (hb:b.length≤1099511627776) (gk:at_+more<b.length):∀(k i r:Nat),i+k=more+1→r<2 ^ (10+6 * i) →
  bK.g3 b at_ r more least i=DX (fR.cont r k (b.drop (at_+i))) more least:=by
 intro k
 induction k with
 | zero =>
  intro i r hi hr
  refine bK.G0 _ _ _ _ _ _ ?_
  intro v1 h1 v2 h2 v3 h3 v4 h4 v5 h5 v6 h6 v7 h7
  rw [show decide ((i:Int)≤(more:Int))=false by simp;omega,ae]
  subst h6 h7
  rw [fR.cont]
  exact bK.end_ r more least hm
 | succ k ih =>
  intro i r hi hr
  refine bK.G0 _ _ _ _ _ _ ?_
  intro v1 h1 v2 h2 v3 h3 v4 h4 v5 h5 v6 h6 v7 h7
  have hw:IntKind.i64.wrap ((at_:Int)+(i:Int))=((at_+i:Nat):Int):=by rw [i64_in _ (by omega)];omega
  have Qm:=drop_cons (l:=b) (i:=at_+i) (by omega) 0
  rw [show decide ((i:Int)≤(more:Int))=true by simp;omega,ah,hw]
  rw [hw,ak] at h1
  rw [bx (bN (by omega) (by omega)),Qm,←h1,fR.cont,h2,EG]
  by_cases hc:128≤v1.toNat∧v1.toNat<192
  ·rw [au hc,aa hc]
   simp only [aG,ae]
   rw [bx (bN (by omega) (by omega))]
   have hp:2 ^ (10+6 * i) * 64=2 ^ (10+6 * (i+1)):=by rw [show 10+6 * (i+1)=(10+6 * i)+6 by omega,Nat.pow_add 2 (10+6 * i) 6]
   have Ii:2 ^ (10+6 * (i+1))≤2 ^ 58:=Nat.pow_le_pow_right (by omega) (by omega)
   have Vu:r * 64+64≤2 ^ (10+6 * (i+1)):=by
    rw [←hp];have:=av 64 (Nat.succ_le_of_lt hr);omega
   have e3:v3=((r * 64:Nat):Int):=by
    rw [h3]
    have:(min (((6:UInt64)).toNat) (IntKind.i64.bits))=6:=by decide
    rw [this,i64_in _ (by simp at Ii;omega)];simp
   have e4:v4=((v1.toNat - 128:Nat):Int):=by
    rw [h4,Rc v1 hc];exact i64_in _ (by omega)
   have e5:v5=((i+1:Nat):Int):=by rw [h5,i64_in _ (by omega)];omega
   have e6:cU .or .i64 v3 v4=((r * 64+(v1.toNat - 128):Nat):Int):=by
    rw [e3,e4,Lw _ _ (by simp at Ii;omega) (by omega)]
    have:=nE (a:=r) (b:=v1.toNat - 128) (k:=6) (by simp;omega)
    simp at this
    rw [this]
   rw [e6,e5,ih (i+1) _ (by omega) (by omega),Nat.add_assoc]
  ·rw [ao hc,ab hc]
   simp only [aI,ah]
   rw [bK.wz];rfl
theorem bK.nU (b : bz) (at_ : Nat) (r more least : Nat) (hm : 1 ≤ more ∧ more < 8) (hb : b.length ≤ 1099511627776) (gk : at_ < b.length) (hr : r < 1024) :
    bK.j2 b at_ r more least = DX (fR.cont r more (b.drop (at_ + 1))) more least := by
  have KE : ∀ (k r : Nat) (l : bz), l.length < k → fR.cont r k l = none := by
    intro k
    induction k with
    | zero => intro r l h; omega
    | succ k ih =>
      intro r l h
      cases l with
      | nil => rfl
      | cons c l => rw [fR.cont]; split
                    · exact ih _ _ (by simp at h; omega)
                    · rfl
  have key := fun (h : at_ + more < b.length) => bK.Pk b at_ more least hm.2 hb h more 1 r (by omega) (by simp; omega)
  by_cases hx : at_ + more < b.length
  · rw [← key hx]
    refine bK.jx _ _ _ _ _ ?_
    intro v1 h1 v2 h2 v3 h3 v4 h4 v5 h5 v6 h6 v7 h7 v8 h8 v9 h9 v10 iS
    symm
    refine bK.G0 _ _ _ _ _ _ ?_
    intro w1 k1 w2 k2 w3 k3 w4 k4 w5 k5 w6 k6 w7 k7
    have e1 : v1 = (b.length : Int) - at_ := by rw [h1]; exact i64_in _ (by omega)
    have e2 : v2 = (b.length : Int) - at_ - 1 := by rw [h2, e1]; exact i64_in _ (by omega)
    rw [show decide (v2 < (more : Int)) = false by simp; omega, ae]
    have a1 : ((1 : Nat) : Int) = 1 := rfl
    simp only [a1] at k1 k2 k3 k4 k5 k6 k7 ⊢
    subst h3; subst h4; subst h5; subst h6; subst h7; subst h8; subst h9; subst iS; subst k1; subst k2; subst k3; subst k4; subst k5; subst k6; subst k7
    rfl
  · refine bK.jx _ _ _ _ _ ?_
    intro v1 h1 v2 h2 v3 h3 v4 h4 v5 h5 v6 h6 v7 h7 v8 h8 v9 h9 v10 iS
    have e1 : v1 = (b.length : Int) - at_ := by rw [h1]; exact i64_in _ (by omega)
    have e2 : v2 = (b.length : Int) - at_ - 1 := by rw [h2, e1]; exact i64_in _ (by omega)
    rw [show decide (v2 < (more : Int)) = true by simp; omega, ah, bK.wz, KE _ _ _ (by simp; omega)]
    rfl
theorem Q7 (lo hi n:Nat):(cond (decide ((lo:Int)≤(n:Int))) (decide ((n:Int)<(hi:Int))) false)=decide (lo≤n∧n<hi):=by
 by_cases a:lo≤n
 ·rw [show decide ((lo:Int)≤(n:Int))=true by simp;omega,ah,aS];simp;omega
 ·rw [show decide ((lo:Int)≤(n:Int))=false by simp;omega,ae,ab (by omega)]
theorem bK.goal (b:bz) (at_:Int) (hp:decide (b.length≤1099511627776)=true):bK.F b at_=some [.i .i64 (fR.ny b at_).1,.i .i64 (fR.ny b at_).2]:=by
 have hb:b.length≤1099511627776:=aq hp
 refine bK.bY b at_ ?_
 intro v1 h1 v2 h2 v3 h3 v4 h4 v5 h5 v6 h6 v7 h7 v8 h8 v9 h9
 unfold fR.ny
 by_cases h0:at_<0
 ·subst h1
  simp [h0,ck,bK.wz]
 ·have hd0:decide (at_<0)=false:=ab h0
  obtain ⟨i,rfl⟩:=Int.eq_ofNat_of_zero_le (show 0≤at_ by omega)
  rw [hd0] at h1 ⊢
  subst h1
  simp only [aI,aG,Bool.false_or,Bool.or_true,bU,ae,ak] at h2 ⊢
  by_cases hl:b.length≤i
  ·rw [show decide ((b.length:Int)≤(i:Int))=true by simp;omega,au (.inr (by omega)),ah,bK.wz];rfl
  ·rw [show decide ((b.length:Int)≤(i:Int))=false by simp;omega,ao (by omega),ae,bx (bN (by omega) (by omega)),drop_cons (l:=b) (i:=i) (by omega) 0,←h2,fR.rune]
   have hc:=K4 v2
   have e3:v3=(v2.toNat:Int):=by rw [h3];exact i64_in _ (by omega)
   have an:∀(m:Nat),m<256→cU .and .i64 v3 m=((v2.toNat &&& m:Nat):Int):=fun m h=>by rw [e3,JZ _ _ (by omega) (by omega)]
   have WC:v5=((v2.toNat &&& 31:Nat):Int):=h5.trans (an 31 (by omega))
   have WB:v7=((v2.toNat &&& 15:Nat):Int):=h7.trans (an 15 (by omega))
   have WA:v9=((v2.toNat &&& 7:Nat):Int):=h9.trans (an 7 (by omega))
   have e4:v4=decide (192≤v2.toNat∧v2.toNat<224):=by rw [h4,e3];exact Q7 192 224 _
   have e6:v6=decide (224≤v2.toNat∧v2.toNat<240):=by rw [h6,e3];exact Q7 224 240 _
   have e8:v8=decide (240≤v2.toNat∧v2.toNat<248):=by rw [h8,e3];exact Q7 240 248 _
   have J:∀(r more least:Nat),1≤more∧more<8→r<1024→bK.j2 b i r more least=some [.i .i64 (fR.oG r more least (b.drop (i+1))).1,.i .i64 (fR.oG r more least (b.drop (i+1))).2]:=fun r more least h1 h2 =>
    (bK.nU b i r more least h1 hb (by omega) h2).trans (Jc _ _ _ _)
   simp only [aW,bU]
   by_cases c1:v2.toNat<128
   ·rw [au c1,e3,show decide ((v2.toNat:Int)<128)=true by simp;omega,ah];rfl
   ·rw [ao c1,show decide (v3<(128:Int))=false by rw [e3];simp;omega,ae,e4]
    by_cases c2:192≤v2.toNat∧v2.toNat<224
    ·rw [au c2,aa c2,ah,WC,Pz _ hc c2];exact J _ 1 128 (by omega) (by omega)
    ·rw [ao c2,ab c2,ae,e6]
     by_cases c3:224≤v2.toNat∧v2.toNat<240
     ·rw [au c3,aa c3,ah,WB,PB _ hc c3];exact J _ 2 2048 (by omega) (by omega)
     ·rw [ao c3,ab c3,ae,e8]
      by_cases c4:240≤v2.toNat∧v2.toNat<248
      ·rw [au c4,aa c4,ah,WA,SA _ hc c4];exact J _ 3 65536 (by omega) (by omega)
      ·rw [ao c4,ab c4,ae,bK.wz];rfl
theorem fR.q8 (l:bz):0≤(fR.rune l).2∧(fR.rune l).2≤l.length:=by
 have AO:∀(k r q:Nat) (l:bz),fR.cont r k l=some q→k≤l.length:=by
  intro k
  induction k with
  | zero=>intro r q l _;omega
  | succ k ih =>
   intro r q l h
   cases l with
   | nil=>cases h
   | cons c l =>
    rw [fR.cont] at h
    split at h
    ·have:=ih _ _ _ h;simp;omega
    ·cases h
 have RL:∀(r more least:Nat) (l:bz),0≤(fR.oG r more least l).2∧(fR.oG r more least l).2≤l.length+1:=by
  intro r more least l
  unfold fR.oG
  cases h:fR.cont r more l with
  | none=>simp;omega
  | some q =>
   have:=AO _ _ _ _ h
   simp only
   split <;> simp <;> omega
 cases l with
 | nil=>exact ⟨by decide,by decide⟩
 | cons c l =>
  unfold fR.rune
  simp only [az]
  split
  ·simp;omega
  ·split
   ·have:=RL (c.toNat - 192) 1 128 l;omega
   ·split
    ·have:=RL (c.toNat - 224) 2 2048 l;omega
    ·split
     ·have:=RL (c.toNat - 240) 3 65536 l;omega
     ·simp;omega
theorem fR.F7 (l:bz):∀n,l.length≤n→fR.qt n l=fR.qt l.length l:=by
 have key:∀(m:Nat) (l:bz),l.length≤m→∀n,l.length≤n→fR.qt n l=fR.qt l.length l:=by
  intro m
  induction m with
  | zero =>
   intro l hl n hn
   have:l=[]:=List.length_eq_zero_iff.1 (by omega)
   subst this
   cases n with
   | zero=>rfl
   | succ n=>rfl
  | succ m ih =>
   intro l hl n hn
   cases h:l.length with
   | zero =>
    have:l=[]:=List.length_eq_zero_iff.1 h
    subst this
    cases n <;> rfl
   | succ k =>
    cases n with
    | zero=>omega
    | succ n =>
     unfold fR.qt
     have hs:=fR.q8 l
     by_cases h0:(fR.rune l).2=0
     ·rw [au h0,au h0]
     ·rw [ao h0,ao h0]
      have hd:(l.drop (fR.rune l).2.toNat).length≤k:=by simp;omega
      rw [ih _ (by simp;omega) n (by simp;omega),ih _ (by simp;omega) k hd]
 exact fun n hn=>key _ l (Nat.le_refl _) n hn
theorem fR.D0 (l:bz) (h:(fR.rune l).2≠0):fR.look l=((fR.look (l.drop (fR.rune l).2.toNat)).1+(fR.rune l).2.toNat,(fR.look (l.drop (fR.rune l).2.toNat)).2+1):=by
 have hs:=fR.q8 l
 unfold fR.look
 cases hl:l.length with
 | zero=>omega
 | succ k =>
  rw [fR.qt,ao h]
  simp only
  rw [fR.F7 _ k (by simp;omega)]
theorem fR.D1 (l:bz) (h:(fR.rune l).2=0):fR.look l=(0,0):=by
 unfold fR.look
 cases l.length with
 | zero=>rfl
 | succ k=>rw [fR.qt,au h]
theorem fR.A9 (b:bz) (i:Nat) (h:i<b.length):fR.ny b i=fR.rune (b.drop i):=by
 unfold fR.ny;rw [ao (by omega),ak]
theorem cE.cO (b:bz) (hb:b.length≤1099511627776):∀(m i k:Nat),b.length - i≤m→i≤b.length→k≤i →
  cE.l1 b i k=some [.i .i64 ((i+(fR.look (b.drop i)).1:Nat):Int),.i .i64 ((k+(fR.look (b.drop i)).2:Nat):Int)]:=by
 intro m
 induction m with
 | zero =>
  intro i k hm hi hk
  refine cE.bX _ _ _ ?_
  intro v1 h1 v2 h2
  rw [show decide ((i:Int)<(b.length:Int))=false by simp;omega,ae,cE.lf,aC (by omega)]
  rfl
 | succ m ih =>
  intro i k hm hi hk
  by_cases gk:i<b.length
  ·refine cE.bX _ _ _ ?_
   intro v1 h1 v2 h2
   rw [fR.A9 b i gk] at h1 ⊢
   have hs:=fR.q8 (b.drop i)
   rw [aV] at hs
   rw [show decide ((i:Int)<(b.length:Int))=true by simp;omega,ah,bx (aa hb)]
   by_cases h0:(fR.rune (b.drop i)).2=0
   ·rw [aa h0,ah,cE.lf,fR.D1 _ h0];rfl
   ·rw [ab h0,ae,fR.D0 _ h0]
    have e1:v1=((i+(fR.rune (b.drop i)).2.toNat:Nat):Int):=by rw [h1,i64_in _ (by omega)];omega
    have e2:v2=((k+1:Nat):Int):=by rw [h2,i64_in _ (by omega)];omega
    rw [e1,e2,ih _ _ (by omega) (by omega) (by omega),List.drop_drop]
    simp only [aL,bt,TV.i.injEq,true_and,and_true]
    exact ⟨by omega,by omega⟩
  ·refine cE.bX _ _ _ ?_
   intro v1 h1 v2 h2
   rw [show decide ((i:Int)<(b.length:Int))=false by simp;omega,ae,cE.lf,aC (by omega)]
   rfl
theorem cE.goal (b:bz) (hp:decide (b.length≤1099511627776)=true):cE.F b=some [.i .i64 ((fR.look b).1:Int),.i .i64 ((fR.look b).2:Int)]:=by
 rw [cE.dW]
 have:=cE.cO b (aq hp) b.length 0 0 (by omega) (by omega) (by omega)
 simpa using this
theorem dX.goal (b:bz) (hp:decide (b.length≤1099511627776)=true):dX.F b=some [.i .i64 ((fR.look b).1:Int),.b (fR.whole b)]:=by
 have e:decide (((fR.look b).1:Int)=(b.length:Int))=fR.whole b:=by unfold fR.whole;rw [aS];simp;omega
 rw [dX.dW,bx hp,e]
end Go.Eng
set_option maxRecDepth 20000
namespace Go.Eng
open Go.IntWalk
theorem jo.goal (s:bz) (hp:(decide (s.length≤1099511627776))=true):jo.F s=some [.b (fR.whole s)]:=by
 rw [jo.dW,bx (Db (aq hp)),bx hp]
theorem Kn:∀(l:bz) (c:UInt8),(l=[]∨Lib.indexByte l c<(l.length:Int))∧-1≤Lib.indexByte l c
 | [],c=>⟨.inl rfl,by show (-1:Int)≤-1;omega⟩
 | d :: r,c=>by
  obtain ⟨h1,h2⟩:=Kn r c
  rw [uK]
  refine ⟨.inr ?_,?_⟩
  ·split
   ·simp only [az];omega
   ·split
    ·simp only [az];omega
    ·rename_i h
     rcases h1 with rfl | h1
     ·exact (h (by rfl)).elim
     ·simp only [az];omega
  ·split
   ·omega
   ·split <;> omega
theorem CZ (c:UInt8):(Cn.Ip c).length≤6:=by
 unfold Cn.Ip
 split
 ·simp
 split
 ·rw [aj,kz];simp
 ·simp
theorem Ad:∀s:bz,(s.flatMap Cn.Ip).length≤6 * s.length
 | []=>by simp
 | c :: r=>by have:=Ad r;have:=CZ c;simp only [List.flatMap_cons,aj,az];omega
theorem nA (s:bz):(Cn.ku s).length≤6 * s.length+2:=by
 unfold Cn.ku
 cases fR.whole s with
 | false=>simp
 | true=>have:=Ad s;simp only [ah,Cn.quote,az,aj,aB];omega
theorem cF.cO (s:bz) (hs:s.length≤1000000000000):∀(m i:Nat) (b:bz),i+m=s.length→b.length+6 * m≤7000000000000 →
  cF.l1 s (s.length:Int) (i:Int) b=some [.s (b++((s.drop i).flatMap Cn.Ip++[34])),.b true]
 | 0,i,b,hi,hb=>by
  refine cF.bX _ _ _ _ ?_
  intro v1 h1 v2 h2 v3 h3 v4 h4 v5 h5 v6 h6 v7 h7
  rw [ab (by omega),ae,bx (dP (by rw [h7];simp;omega) (by rw [h7];simp;omega)),h7,aC (by omega)]
  rfl
 | m+1,i,b,hi,hb=>by
  refine cF.bX _ _ _ _ ?_
  intro v1 h1 v2 h2 v3 h3 v4 h4 v5 h5 v6 h6 v7 h7
  rw [ak] at h1
  have ND:=Kn [34,92,8,12,10,13,9] v1
  rw [←h2] at ND
  have ND:=ND.1.resolve_left (by simp)
  have next:∀e:bz,e=Cn.Ip v1→cF.j2 s (s.length:Int) (i:Int) (b++e)=some [.s (b++((s.drop i).flatMap Cn.Ip++[34])),.b true]:=fun e he=>by
   refine cF.jx _ _ _ _ ?_
   intro w1 g1
   have e1:w1=((i+1:Nat):Int):=by rw [g1,i64_in _ (by omega)];omega
   have hl:=CZ v1
   rw [e1,cF.cO s hs m (i+1) (b++e) (by omega) (by rw [he,aj];omega),drop_cons (l:=s) (i:=i) (by omega) (0:UInt8),←h1,he,List.flatMap_cons]
   simp only [aE]
  rw [aa (by omega),ah,bx (bN (by omega) (by omega))]
  by_cases c:(0:Int)≤v2
  ·rw [aa c,ah,bx (bN c (by simp at ND ⊢;omega)),bx (dP (by rw [h4];simp;omega) (by rw [h4];simp;omega))]
   refine next _ ?_
   unfold Cn.Ip
   rw [←h2,au c,h4,h3];rfl
  ·rw [ab c,ae]
   by_cases c2:v1<32
   ·rw [aa c2,ah,bx (dP (by simp;omega) (by simp;omega)),bx (aa (by simp)),bx (dP (by rw [h5,h6,kz];simp;omega) (by rw [h5,h6,kz];simp;omega)),h5,aE]
    refine next _ ?_
    unfold Cn.Ip
    rw [←h2,ao c,au c2,h6]
   ·rw [ab c2,ae,bx (dP (by simp;omega) (by simp;omega))]
    refine next _ ?_
    unfold Cn.Ip
    rw [←h2,ao c,ao c2]
theorem cF.goal (s:bz) (hp:(decide (s.length≤1000000000000))=true):cF.F s=some [.s (Cn.ku s),.b (fR.whole s)]:=by
 have hs:=aq hp
 refine cF.bY _ ?_
 intro v1 h1
 rw [bx (aa (by omega))]
 unfold Cn.ku
 cases fR.whole s with
 | false=>rfl
 | true =>
  rw [aG,ae,ah,h1]
  exact cF.cO s hs s.length 0 [34] (by omega) (by simp;omega)
theorem eS.goal (b s:bz) (hp:(decide (b.length+6 * s.length≤5000000000000))=true):eS.F b s=some [.sl .bs (b++Cn.ku s)]:=by
 have h:=aq hp
 have:=nA s
 rw [eS.dW,bx (aa (by omega)),bx (dP (by omega) (by omega))]
theorem fK.goal (j:bP) (hp:(decide (12 * bP.bJ j≤1000000000000))=true):fK.F j=some [.s (Cn.pK j),.i .i64 (Cn.mq j)]:=by
 have h:=aq hp
 refine fK.bY _ ?_
 intro v1 h1
 rw [bx (aa (by omega)),bx (aa (by simp;omega)),h1,bq]
 unfold Cn.pK
 by_cases c:Cn.mq j=0
 ·rw [aa c,aG,ae,ah,c]
 ·rw [ab c,aI,ah,ae]
end Go.Eng
set_option maxRecDepth 20000
namespace Go.Eng
open Go.IntWalk
theorem Cy (f:Mem):bP.bJ f.val≤Mem.bJ f:=by
 cases f;simp only [bP.bJ,Mem.of,Mem.val,Mem.kind,Mem.text,Mem.kids,Mem.bJ,aB];omega
theorem F3 {l:List Mem} {i:Nat} (h:i<l.length) (d:Mem):Mem.bJ (l.getD i d)≤Mem.cm l:=by
 induction l generalizing i with
 | nil=>simp at h
 | cons f r ih =>
  cases i with
  | zero=>simp [Mem.cm]
  | succ i=>have:=ih (i:=i) (by simpa using h);simp only [List.getD_cons_succ,Mem.cm];omega
theorem Je:∀f:Mem,1≤Mem.bJ f
 | .mk _ _ _ _=>by simp only [Mem.bJ];omega
theorem qq:∀l:List Mem,l.length≤Mem.cm l
 | []=>by simp [Mem.cm]
 | f :: r=>by have:=qq r;have:=Je f;simp only [Mem.cm,az];omega
theorem qv (j:bP):bP.bJ j=1+j.text.length+Mem.cm j.kids:=by
 simp only [bP.bJ,Mem.of,Mem.bJ,aB]
theorem zg (f:Mem):f.name.length+bP.bJ f.val=Mem.bJ f:=by
 cases f;simp only [bP.bJ,Mem.of,Mem.val,Mem.name,Mem.kind,Mem.text,Mem.kids,Mem.bJ,aB];omega
end Go.Eng
set_option maxRecDepth 20000
namespace Go.Eng
open Go.IntWalk
theorem HB (f:Mem):Cn.BO f=Cn.mq f.val:=by
 cases f;simp only [Cn.mq,Mem.of,Mem.val,Mem.kind,Mem.text,Mem.kids,Cn.BO]
theorem bZ.jd (n:Nat) (l:List Mem) (hb:Mem.cm l≤1099511627776) (hn:Mem.cm l<n):∀(m i:Nat),i+m=l.length→bZ.l2 n l (l.length:Int) (i:Int)=some [.i .i64 (Cn.uV (l.drop i))]
 | 0,i,hi=>by
  refine bZ.iu _ _ _ _ ?_
  intro v1 h1 v2 h2 v3 h3
  rw [ab (by omega),ae,aC (by omega)]
  simp [Cn.uV]
 | m+1,i,hi=>by
  have hlen:=qq l
  refine bZ.iu _ _ _ _ ?_
  intro v1 h1 v2 h2 v3 h3
  rw [ak] at h1
  have hf:=F3 (l:=l) (i:=i) (by omega) (fx.gm .ml)
  rw [←h1] at hf
  have hv:=Cy v1
  have RF:=zg v1
  have e3:v3=((i+1:Nat):Int):=by rw [h3,i64_in _ (by omega)];omega
  have cc:((decide (bP.bJ (Mem.val v1)≤1099511627776))&&decide ((bP.bJ (Mem.val v1))<n))=true:=by
   rw [af];exact ⟨aa (by omega),aa (by omega)⟩
  rw [aa (by omega),ah,bx (bN (by omega) (by omega)),bx (aa (by omega)),bx cc,e3,bZ.jd n l hb hn m (i+1) (by omega),drop_cons (l:=l) (i:=i) (by omega) (fx.gm .ml),←h1,h2]
  simp only [Cn.uV]
  rw [HB]
  cases hw:fR.whole v1.name with
  | false=>rw [au rfl];rfl
  | true =>
   rw [ao (by simp),aG,ae]
   by_cases c:Cn.mq v1.val=0
   ·rw [aa c,aG,ae,ao (by simp [c])]
   ·rw [ab c,aI,ah,au c]
theorem bZ.cO (n:Nat) (j:bP) (hb:bP.bJ j≤1099511627776) (hn:bP.bJ j<n+1):∀(m i:Nat),i+m=j.kids.length →
  bZ.l1 n j.kids (j.kids.length:Int) (i:Int) j=some [.i .i64 (if j.kind=6∧((j.kids.drop i).any fun m=>!decide (m.name=[]))=true then 1
   else if j.kind=4∧(Nr.jf j.text=0∨300<j.text.length) then 10
   else if j.kind=5∧fR.whole j.text=false then 4
   else Cn.uV j.kids)]
 | 0,i,hi=>by
  have hk:=qv j
  refine bZ.bX _ _ _ _ _ ?_
  intro v1 h1 v2 h2 v3 h3 v4 h4 v5 h5 v6 h6 v7 h7 v8 h8 v9 h9 v10 iS
  have ct:decide (j.text.length≤1099511627776)=true:=aa (by omega)
  have ca:∀a:Bool,(!a || (a&&true))=true:=by decide
  have c8:(!(decide (j.kind=4)) || ((decide (j.kind=4))&&((decide (Nr.jf j.text=0)) || v4)))=true:=by
   rw [h4];cases decide (j.kind=4) <;> cases decide (Nr.jf j.text=0) <;> rfl
  have e7:v7=decide (j.kind=4∧(Nr.jf j.text=0∨300<j.text.length)):=by
   have e5:decide ((300:Int)<v5)=decide (300<j.text.length):=aY.2 (by omega)
   rw [h7,h6,e5,Bool.decide_and,Bool.decide_or]
   cases decide (j.kind=4) <;> cases decide (Nr.jf j.text=0) <;> rfl
  have e9:v9=decide (j.kind=5∧fR.whole j.text=false):=by
   rw [h9,h8,Bool.decide_and];cases decide (j.kind=5) <;> cases fR.whole j.text <;> rfl
  rw [ab (show ¬((i:Int)<j.kids.length) by omega),ae,ct,bx (jR _),bx (ca _),bx (jR _),bx (jR _),bx (jR _),bx (jR _),bx (jR _),bx c8,bx (jR _),e7,
   ao (by rw [aC (by omega)];simp)]
  by_cases k1:j.kind=4∧(Nr.jf j.text=0∨300<j.text.length)
  ·rw [aa k1,ah,au k1]
  rw [ab k1,ae,ao k1,bx (jR _),bx (ca _),bx (jR _),bx (jR _),e9]
  by_cases k2:j.kind=5∧fR.whole j.text=false
  ·rw [aa k2,ah,au k2]
  rw [ab k2,ae,ao k2,iS]
  exact bZ.jd n j.kids (by omega) (by omega) j.kids.length 0 (by omega)
 | m+1,i,hi=>by
  have hk:=qv j
  have hlen:=qq j.kids
  have ih:=bZ.cO n j hb hn m (i+1) (by omega)
  refine bZ.bX _ _ _ _ _ ?_
  intro v1 h1 v2 h2 v3 h3 v4 h4 v5 h5 v6 h6 v7 h7 v8 h8 v9 h9 v10 iS
  rw [ak] at h1
  have e3:v3=((i+1:Nat):Int):=by rw [h3,i64_in _ (by omega)];omega
  rw [aa (show (i:Int)<j.kids.length by omega),ah,bx (bN (by omega) (by omega)),bx (jR _),bx (jR _),bx (jR _),e3,ih,drop_cons (l:=j.kids) (i:=i) (by omega) (fx.gm .ml),←h1,List.any_cons,h2]
  by_cases k:j.kind=6
  ·rw [aa k,ah]
   by_cases k2:v1.name=[]
   ·rw [aa k2,aG,ae,Bool.false_or]
   ·rw [ab k2,aI,ah,Bool.true_or,au ⟨k,rfl⟩]
  ·rw [ab k,ae,ae];simp only [k,false_and,if_false]
theorem bZ.goal (n:Nat) (j:bP) (hp:((decide (bP.bJ j≤1099511627776))&&decide ((bP.bJ j)<n+1))=true):bZ.F n j=some [.i .i64 (Cn.mq j)]:=by
 rw [af] at hp
 have hb:=aq hp.1
 have hn:=aq hp.2
 refine bZ.bY _ _ ?_
 intro v1 h1 v2 h2 v3 h3 v4 h4 v5 h5 v6 h6
 have e1:v1=decide (j.kind<1∨7<j.kind):=by rw [h1,Bool.decide_or];cases decide (j.kind<1) <;> rfl
 have e4:v4=decide (j.kids≠[]∧j.kind≠6∧j.kind≠7):=by
  have:decide ((0:Int)<v2)=decide (j.kids≠[]):=aY.2 (by rw [h2];exact ⟨fun h e=>by rw [e] at h;exact absurd h (by simp),fun h=>by have:=List.length_pos_iff.2 h;omega⟩)
  rw [h4,h3,this,Bool.decide_and,Bool.decide_and]
  simp only [ne_eq,decide_not]
  cases decide (j.kids=[]) <;> cases decide (j.kind=6) <;> rfl
 have e6:v6=decide (j.text≠[]∧j.kind≠4∧j.kind≠5):=by
  rw [h6,h5,Bool.decide_and,Bool.decide_and]
  simp only [ne_eq,decide_not]
  cases decide (j.text=[]) <;> cases decide (j.kind=4) <;> rfl
 have key:=bZ.cO n j hb hn j.kids.length 0 (by omega)
 simp only [Cn.mq,Mem.of,Cn.BO]
 rw [bx (jR _),bx (jR _),bx (M3 _),e1]
 by_cases k1:j.kind<1∨7<j.kind
 ·rw [aa k1,ah,au k1]
 rw [ab k1,ae,ao k1,bx (jR _),bx (jR _),bx (jR _),bx (jR _),bx (jR _),bx (jR _),e4]
 by_cases k2:j.kids≠[]∧j.kind≠6∧j.kind≠7
 ·rw [aa k2,ah,au k2]
 rw [ab k2,ae,ao k2,bx (jR _),bx (jR _),bx (jR _),bx (jR _),bx (jR _),bx (jR _),e6]
 by_cases k3:j.text≠[]∧j.kind≠4∧j.kind≠5
 ·rw [aa k3,ah,au k3]
 rw [ab k3,ae,ao k3,h2]
 exact key
end Go.Eng
set_option maxRecDepth 20000
namespace Go.Eng
open Go.IntWalk
mutual
theorem zw:∀m:Mem,(Cn.vr m).length+4+12 * m.name.length≤12 * Mem.bJ m
 | .mk n k t ks=>by
  have h:=we ks (decide (k=7)) true
  have hq:=nA t
  simp only [Cn.vr,Mem.bJ,Mem.name]
  split
  ·simp;omega
  split
  ·simp;omega
  split
  ·simp;omega
  split
  ·omega
  split
  ·omega
  ·simp only [az,aj,aB];omega
theorem we:∀(l:List Mem) (o f:Bool),(Cn.oK o f l).length≤12 * Mem.cm l
 | [],o,f=>by simp [Cn.oK]
 | m :: r,o,f=>by
  have h1:=zw m
  have h2:=we r o false
  have hq:=nA m.name
  simp only [Cn.oK,Mem.cm,aj]
  cases f <;> cases o <;> simp <;> omega
end
theorem Ge (f:Mem):Cn.vr f=Cn.uF f.val:=by
 cases f;simp only [Cn.uF,Mem.of,Mem.val,Mem.kind,Mem.text,Mem.kids,Cn.vr]
theorem cz.jd (n:Nat) (c:UInt8) (j:bP) (hn:bP.bJ j<n+1):∀(m i:Nat) (b:bz),i+m=j.kids.length→b.length+12 * Mem.cm (j.kids.drop i)+8≤4000000000000→Mem.cm j.kids≤1000000000000 →
  cz.l2 n c j.kids (j.kids.length:Int) (i:Int) j b=some [.sl .bs (b++(Cn.oK (decide (j.kind=7)) (decide (i=0)) (j.kids.drop i)++[c]))]
 | 0,i,b,hi,hb,hq=>by
  refine cz.iu _ _ _ _ _ _ _ ?_
  intro v1 h1 v2 h2
  rw [ab (show ¬((i:Int)<j.kids.length) by omega),ae,bx (dP (by simp;omega) (by simp;omega)),aC (by omega)]
  simp [Cn.oK]
 | m+1,i,b,hi,hb,hq=>by
  have hk:=qv j
  have hlen:=qq j.kids
  refine cz.iu _ _ _ _ _ _ _ ?_
  intro v1 h1 v2 h2
  rw [ak] at h1
  have hf:=F3 (l:=j.kids) (i:=i) (by omega) (fx.gm .ml)
  rw [←h1] at hf
  have hd:=drop_cons (l:=j.kids) (i:=i) (by omega) (fx.gm .ml)
  rw [←h1] at hd
  have hv:=zg v1
  have hl:=zw v1
  have Yr:=nA v1.name
  rw [hd] at hb ⊢
  simp only [Mem.cm] at hb
  have last:∀x:bz,x.length≤b.length+6 * v1.name.length+4→cz.j4 n c j.kids (j.kids.length:Int) (i:Int) j v1 x=some [.sl .bs (x++(Cn.vr v1++(Cn.oK (decide (j.kind=7)) false (j.kids.drop (i+1))++[c])))]:=fun x hx=>by
   refine cz.Gs _ _ _ _ _ _ _ _ ?_
   intro w1 g1 w2 g2
   have e2:w2=((i+1:Nat):Int):=by rw [g2,i64_in _ (by omega)];omega
   have cc:((decide (x.length+12 * bP.bJ (Mem.val v1)≤4000000000000))&&decide ((bP.bJ (Mem.val v1))<n))=true:=by
    rw [af];exact ⟨aa (by omega),aa (by omega)⟩
   rw [bx cc,e2,g1,←Ge,cz.jd n c j hn m (i+1) _ (by omega) (by rw [aj];omega) hq,show decide (i+1=0)=false from ab (by omega),aE]
  have pr:∀x:bz,x.length≤b.length+1→cz.j3 n c j.kids (j.kids.length:Int) (i:Int) j v1 x=some [.sl .bs (x++(cond (decide (j.kind=7)) (Cn.ku v1.name++[58]) []++(Cn.vr v1++(Cn.oK (decide (j.kind=7)) false (j.kids.drop (i+1))++[c]))))]:=fun x hx=>by
   refine cz.qw _ _ _ _ _ _ _ _ ?_
   intro w1 g1 w2 g2
   by_cases k:j.kind=7
   ·rw [aa k,ah,ah,bx (aa (by omega)),bx (dP (by rw [g1,g2];simp;omega) (by rw [g1,g2];simp;omega)),last _ (by rw [g1,g2];simp;omega),g1,g2,aa k]
    simp only [aE]
   ·rw [ab k,ae,ae,last x (by omega),ab k];rfl
  rw [aa (show (i:Int)<j.kids.length by omega),ah,bx (bN (by omega) (by omega))]
  simp only [Cn.oK]
  by_cases h0:i=0
  ·rw [ab (by omega),ae,pr b (by omega),aa h0,ah,bq]
   simp only [aE]
  ·rw [aa (by omega),ah,bx (dP (by rw [h2];simp;omega) (by rw [h2];simp;omega)),pr _ (by rw [h2];simp),ab h0,ae,h2]
   simp only [aE]
theorem cz.goal (n:Nat) (b:bz) (j:bP) (hp:((decide (b.length+12 * bP.bJ j≤4000000000000))&&decide ((bP.bJ j)<n+1))=true):cz.F n b j=some [.sl .bs (b++Cn.uF j)]:=by
 rw [af] at hp
 have hb:=aq hp.1
 have hn:=aq hp.2
 have hk:=qv j
 refine cz.bY _ _ _ ?_
 intro v1 h1 v2 h2 v3 h3 v4 h4
 simp only [Cn.uF,Mem.of,Cn.vr]
 by_cases k1:j.kind=1
 ·rw [aa k1,ah,au k1,bx (dP (by simp;omega) (by simp;omega)),h1]
 rw [ab k1,ae,ao k1]
 by_cases k2:j.kind=2
 ·rw [aa k2,ah,au k2,bx (dP (by simp;omega) (by simp;omega)),h2]
 rw [ab k2,ae,ao k2]
 by_cases k3:j.kind=3
 ·rw [aa k3,ah,au k3,bx (dP (by simp;omega) (by simp;omega)),h3]
 rw [ab k3,ae,ao k3]
 by_cases k4:j.kind=4
 ·rw [aa k4,ah,au k4,bx (dP (by omega) (by omega))]
 rw [ab k4,ae,ao k4]
 by_cases k5:j.kind=5
 ·rw [aa k5,ah,au k5,bx (aa (by omega)),h4]
 rw [ab k5,ae,ao k5]
 have go:∀x y:UInt8,cz.j1 n x y j b=some [.sl .bs (b++x :: (Cn.oK (decide (j.kind=7)) true j.kids++[y]))]:=fun x y=>by
  refine cz.iR _ _ _ _ _ ?_
  intro w1 g1
  rw [bx (dP (by simp;omega) (by simp;omega)),g1]
  have:=cz.jd n y j hn j.kids.length 0 (b++[x]) (by omega) (by rw [bh];simp;omega) (by omega)
  rw [bh,aa (rfl:0=0),aE] at this
  exact this
 by_cases k6:j.kind=7
 ·rw [aa k6,ah,ah,ah,go,aa k6]
 ·rw [ab k6,ae,ae,ae,go,ab k6]
end Go.Eng
set_option maxRecDepth 20000
namespace Go.Eng
open Go.IntWalk
theorem gq (n:bz) (j:bP):bP.bJ (Cn.one n j)=1+n.length+bP.bJ j:=by
 simp only [bP.bJ,Cn.one,Mem.of,Mem.bJ,Mem.cm,aB];omega
theorem kT (n m:bz) (j k:bP):bP.bJ (Cn.two n j m k)=1+n.length+m.length+bP.bJ j+bP.bJ k:=by
 simp only [bP.bJ,Cn.two,Mem.of,Mem.bJ,Mem.cm,aB];omega
theorem iB (s:bz):bP.bJ (Cn.str s)=1+s.length:=by
 simp only [bP.bJ,Cn.str,Mem.of,Mem.bJ,Mem.cm,aB];omega
theorem l0 (v:Int) (h:Nr.i64 v=true):(Nr.itoa v).length≤21:=by
 have h:=aq h
 rw [Nr.lC]
 have:=Nr.iV 20 v.natAbs (by rw [t20];omega) (by omega)
 split
 ·simp only [az];omega
 ·omega
theorem zd (v:Int) (h:Nr.i64 v=true):bP.bJ (Cn.num v)≤22:=by
 have:=l0 v h
 simp only [bP.bJ,Cn.num,Mem.of,Mem.bJ,Mem.cm,aB];omega
theorem Ey (h l:UInt64):(Cn.uS h l).length≤20001:=by
 have hx:=qZ h l
 have hc:=tT h l
 have hd:=Nr.iV 34 _ (by rw [t34];exact hc) (by omega)
 have hl:=wG (d:=Nr.dec (Cn.split h l).2.2.1.val) (x:=(Cn.split h l).2.2.2) (by omega) (by omega) (by omega)
 unfold Cn.uS
 simp only
 split
 ·simp
 ·cases (Cn.split h l).2.1 with
  | true=>rw [ah,az];split <;> simp <;> omega
  | false=>rw [ae];split <;> simp <;> omega
theorem DP (v:Val):bP.bJ (Cn.oD v).1≤30000:=by
 have h1:=oM v.bits
 have h2:=oM v.high
 have h3:=oM v.low
 have h4:=Sh.qc v.bits
 have h5:=Ey v.high v.low
 have i64:∀b,(Nr.itoa (Cn.i64 b)).length≤21:=fun b=>l0 _ (nc _)
 have i32:∀b,(Nr.itoa (Cn.i32 b)).length≤21:=fun b=>l0 _ (nc _)
 have n64:∀b,bP.bJ (Cn.num (Cn.i64 b))≤22:=fun b=>zd _ (nc _)
 have a1:=i64 v.bits
 have a2:=i32 v.bits
 have a3:=n64 (dQ v.bits 32)
 have a4:=n64 (v.bits &&& 4294967295)
 unfold Cn.oD
 split
 ·split <;> simp only [gq,iB,az,aB] <;> omega
 split
 ·simp only [gq,iB,az,aB];omega
 split
 ·simp only [gq,iB,az,aB];omega
 split
 ·simp only [gq,iB,az,aB];omega
 split
 ·simp only [gq,kT,az,aB];omega
 split
 ·split <;> simp only [gq,iB,az,aB,aj] <;> omega
 ·decide
theorem AZ (v:Val):bP.bJ (Cn.pz v)≤100+v.text.length+v.more.length+2 * v.bytes.length:=by
 have h1:=Au v.bytes
 unfold Cn.pz
 split
 ·simp only [gq,kT,iB,kz,az,aB];omega
 split
 ·simp only [gq,kT,iB,kz,az,aB];omega
 split
 ·simp only [gq,kT,iB,kz,az,aB];omega
 split
 ·simp only [gq,kT,iB,kz,az,aB];omega
 split
 ·simp only [gq,kT,iB,kz,az,aB];omega
 split
 ·simp only [gq,kT,iB,kz,az,aB];omega
 ·rw [iB];omega
end Go.Eng
set_option maxRecDepth 20000
namespace Go.Eng
open Go.IntWalk
theorem Bt (v:Val):bP.bJ (Cn.qu v)≤30000+v.text.length+v.more.length+2 * v.bytes.length:=by
 have h1:=DP v
 have h2:=AZ v
 have h3:=zd 1 (aa (by decide))
 have k:∀x:Int,bP.bJ ⟨x,[],[]⟩=1:=fun x=>by simp only [bP.bJ,Mem.of,Mem.bJ,Mem.cm,aB]
 unfold Cn.qu
 split
 ·rw [gq,k];simp only [az,aB];omega
 split
 ·rw [k];omega
 split
 ·rw [k];omega
 split
 ·rw [gq];simp only [az,aB];omega
 split
 ·rw [gq];simp only [az,aB];omega
 split
 ·omega
 ·omega
theorem sk:∀l:List Mem,Mem.cm (l.map Cn.oF)≤Mem.cm l
 | []=>by simp
 | m :: r=>by
  have:=sk r
  have h:=Cy m
  have e:Mem.bJ (Cn.oF m)=bP.bJ m.val:=rfl
  simp only [aX,Mem.cm,e];omega
end Go.Eng
set_option maxRecDepth 20000
namespace Go.Eng
open Go.IntWalk
theorem Q5 (a:Bool):(a || !a)=true:=by cases a <;> rfl
theorem U1 (a:Bool):(!a || (a&&a))=true:=by cases a <;> rfl
theorem Og (a b:Bool):cond a true b=(a || b):=by cases a <;> rfl
theorem fQ.goal (a b:List UInt8):fQ.F a b=some [.b (decide (a=b))]:=fQ.dW a b
theorem fP.goal (a:List UInt8) (hp:fi a.length 1=true):fP.F a=some [.sl .bs a]:=by
 rw [fP.dW]
 exact pZ (by simpa using hp) fun h=>by rw [List.isEmpty_iff.1 h];rfl
theorem fO.goal (b:UInt64):fO.F b=some [.i .i64 (Rl.order b)]:=by
 refine fO.bY _ ?_
 intro v1 h1 v2 h2 v3 h3
 have hb:=b.toNat_lt
 have hm:Sh.kx b<9223372036854775808:=Nat.mod_lt _ (by decide)
 have e2:v2=(Sh.kx b:Int):=by rw [h2,h1,vb,i64_in _ (by omega)]
 have e3:v3.toNat=b.toNat / 9223372036854775808:=by rw [h3,ir];rfl
 unfold Rl.order
 rw [(Sh.oX b).2]
 by_cases c:9223372036854775808≤b.toNat
 ·have:v3=1:=bm.1 (by rw [e3];show _=1;omega)
  rw [aa this,ah,au (aa c),e2,i64_in _ (by omega),Int.zero_sub]
 ·have:v3≠1:=fun e=>by rw [e] at e3;have:(1:UInt64).toNat=1:=rfl;omega
  rw [ab this,ae,ao (by simp only [aA];exact c),e2]
theorem iP.goal (a b:UInt64):iP.F a b=some [.i .i64 (Rl.Aj a b).1,.b (Rl.Aj a b).2]:=by
 refine iP.bY _ _ ?_
 intro v1 h1
 rw [bx (jR _),bx (Q5 _),h1]
 unfold Rl.Aj
 by_cases c:(Nr.split a).1=4
 ·rw [aa c,ah,ah,au (.inl c)]
 by_cases d:(Nr.split b).1=4
 ·rw [ab c,aa d,ae,ah,au (.inr d)]
 rw [ab c,ab d,ae,ae,ao (by simp [c,d])]
 by_cases x:Rl.order a<Rl.order b
 ·rw [aa x,ah,au x]
 by_cases y:Rl.order b<Rl.order a
 ·rw [ab x,aa y,ae,ah,ao x,au y]
 ·rw [ab x,ab y,ae,ae,ao x,ao y]
theorem iN.goal (t:bz):iN.F t=some [.ag (bP.cells (bP.mk 4 t []))]:=iN.dW t
theorem iM.goal (s:bz) (j:bP):iM.F s j=some [.ag (bP.cells (Cn.one s j))]:=by
 refine iM.bY _ _ ?_
 intro v1 h1
 rw [h1];rfl
theorem fI.goal (a b:Val):fI.F a b=some [.b (Tree.nD a b)]:=by
 refine fI.bY _ _ ?_
 intro v1 h1 v2 h2 v3 h3 v4 h4 v5 h5 v6 h6 v7 h7
 simp only [jR,U1,bU]
 rw [h7,h6,h5,h4,h3,h2,h1]
 simp only [va]
 rfl
theorem gM.goal (a b:Val) (hp:(decide (bA.bJ (bA.of [] a)≤100000000))=true):gM.F a b=some [.sl .od ((Rl.diff a b).getD []),.b (Rl.diff a b).isSome]:=by
 have hp:=aq hp
 refine gM.bY _ _ ?_
 intro v1 h1 v2 h2
 rw [bx (aa (by simp only [aB];omega)),h1,h2]
 unfold Rl.pV Rl.diff
 cases Rl.mG (bA.of [] a) (bA.of [] b) [] with
 | none=>rfl
 | some l=>rfl
theorem gK.goal (v:Val) (hp:(decide (bA.bJ (bA.of [] v)≤10000000))=true):gK.F v=some [.sl .od ((Rl.diff v (Rl.ie v)).getD [])]:=by
 have hp:=aq hp
 refine gK.bY _ ?_
 intro v1 h1 v2 h2
 rw [bx (aa (by omega)),bx (aa (by omega)),h1]
theorem dZ.goal (b:UInt64):dZ.F b=some [.s (Rl.number b).1,.b (Rl.number b).2]:=by
 refine dZ.bY _ ?_
 intro v1 h1 v2 h2 v3 h3 v4 h4
 rw [Rl.o6]
 unfold Rl.nF
 by_cases c1:(Nr.split b).1=1
 ·rw [aa c1,ah,au c1]
 by_cases c2:(Nr.split b).1=2
 ·have hm:Sh.kx b<9223372036854775808:=Nat.mod_lt _ (by decide)
  have hl:(Sh.text b).length≤1099511627776:=Nat.le_trans (Sh.qc b) (by decide)
  rw [ab c1,aa c2,aG,ae,ae,ao c1,ao (by simp [c2]),aa hl,Bool.and_true]
  simp only [jR,Q5,bU]
  have ho:v2=if (Sh.kx b:Int)<4845873199050653696 then -1 else if (4845873199050653696:Int)<Sh.kx b then 1 else 0:=by
   have e1:v1.toNat=Sh.kx b:=by rw [h1,vb]
   have m1:Sh.kx v1=Sh.kx b:=by unfold Sh.kx at e1 ⊢;rw [e1];omega
   have o1:Rl.order v1=Sh.kx b:=by
    unfold Rl.order
    rw [(Sh.oX v1).2,ao (by simp only [aA];omega),m1]
   have o2:Rl.order 4845873199050653696=4845873199050653696:=by
    unfold Rl.order
    rw [(Sh.oX _).2,ao (by decide)];rfl
   have k1:(Nr.split v1).1=2:=by rw [(Sh.oX v1).1,m1,←(Sh.oX b).1,c2]
   have k2:(Nr.split 4845873199050653696).1=2:=by rw [(Sh.oX _).1];rfl
   rw [h2]
   unfold Rl.Aj
   rw [ao (by rw [k1,k2];decide),o1,o2]
  rw [h4,Og]
  congr 5
  by_cases x:Sh.kx b<4845873199050653696
  ·rw [ho,au (by omega),aa x];rfl
  ·rw [ho,ao (by omega),ab x]
   by_cases y:(4845873199050653696:Int)<Sh.kx b
   ·rw [au y];rfl
   ·rw [ao y];rfl
 ·rw [ab c1,ab c2,aI,ah,ae,ao c1,au c2]
theorem gH.goal (y:Int) (hp:(decide (0≤y∧y≤100000))=true):gH.F y=some [.b (Rl.D4 y)]:=by
 have hp:=aq hp
 refine gH.bY _ ?_
 intro v1 h1 v2 h2 v3 h3
 have t:∀d:Int,0<d→Int.tmod y d=y % d:=fun d hd=>Int.tmod_eq_emod_of_nonneg hp.1
 simp only [t 4 (by decide),t 100 (by decide),t 400 (by decide)] at *
 rw [show (!decide ((4:Int)=0))=true by decide,show (!decide ((100:Int)=0))=true by decide,show (!decide ((400:Int)=0))=true by decide]
 rw [h3,h2,h1]
 unfold Rl.D4
 cases decide (y % 4=0) <;> cases decide (y % 100=0) <;> cases decide (y % 400=0) <;> rfl
theorem dn.goal (y m:Int) (hp:(decide (0≤y∧y≤100000))=true):dn.F y m=some [.i .i64 (Rl.month y m)]:=by
 rw [dn.dW]
 unfold Rl.month
 by_cases c4:m=4
 ·rw [aa c4,ah,dn.lg,ah,au (.inl c4)]
 by_cases c6:m=6
 ·rw [ab c4,ae,aa c6,ah,dn.lg,ah,au (.inr (.inl c6))]
 by_cases c9:m=9
 ·rw [ab c4,ae,ab c6,ae,aa c9,ah,dn.lg,ah,au (.inr (.inr (.inl c9)))]
 rw [ab c4,ae,ab c6,ae,ab c9,ae,dn.lg]
 by_cases QB:m=11
 ·rw [aa QB,ah,au (.inr (.inr (.inr QB)))]
 rw [ab QB,ae,ao (by simp [c4,c6,c9,QB]),bx hp]
 by_cases c2:m=2
 ·rw [aa c2,ah,au c2]
  cases Rl.D4 y <;> rfl
 ·rw [ab c2,ae,ao c2]
theorem fD.goal (y:Int) (hp:(decide (1≤y∧y≤100000))=true):fD.F y=some [.i .i64 (Rl.ahead y)]:=by
 have hp:=aq hp
 refine fD.bY _ ?_
 intro v1 h1 v2 h2 v3 h3 v4 h4 v5 h5 v6 h6 v7 h7
 rw [i64_in _ (by omega)] at h1
 have t:∀d:Int,Int.tdiv v1 d=v1 / d:=fun d=>Int.tdiv_eq_ediv_of_nonneg (by omega)
 rw [t,i64_in _ (by omega)] at h3 h4 h6
 rw [i64_in _ (by omega)] at h2
 rw [i64_in (v2+v3) (by omega),i64_in _ (by omega)] at h5
 rw [i64_in (v5+v6) (by omega),i64_in _ (by omega)] at h7
 rw [show (!decide ((4:Int)=0))=true by decide,show (!decide ((100:Int)=0))=true by decide,show (!decide ((400:Int)=0))=true by decide]
 simp only [bU]
 unfold Rl.ahead
 rw [show v7=(y - 1) * 365+(y - 1) / 4 - (y - 1) / 100+(y - 1) / 400 - 719162 by omega]
theorem fk.cO (x0:Int) (s:bz) (h0:0≤x0) (h:x0≤100):∀(m:Nat) (p:bz),p.length+s.length≤100→m=x0.toNat - (p.length+s.length)→fk.l1 x0 (p++s)=some [.s (List.replicate m 48++(p++s))]
 | 0,p,hl,hm=>by
  rw [fk.zD,ab (by rw [aj];omega),ae];rfl
 | m+1,p,hl,hm=>by
  rw [fk.zD,aa (by rw [aj];omega),ah,bx (aa (by simp only [aj,az,aB];omega)),←aE,
   fk.cO x0 s h0 h m ([48]++p) (by simp;omega) (by simp;omega),List.replicate_succ']
  simp
theorem fk.goal (n l:Int) (hp:(decide (0≤n∧n≤1000000∧0≤l∧l≤10))=true):fk.F n l=some [.s (Rl.pad n l)]:=by
 have hp:=aq hp
 have hn:Nr.i64 n=true:=aa (by omega)
 have hl:=l0 n hn
 rw [fk.dW,bx hn]
 exact fk.cO l (Nr.itoa n) hp.2.2.1 (by omega) _ [] (by simp;omega) (by simp)
end Go.Eng
set_option maxRecDepth 20000
namespace Go.Eng
open Go.IntWalk
open Nr (Shape)
theorem C3 {a b:Nat} (h:Nr.dec a=Nr.dec b):a=b:=by rw [←(Nr.j8 a).2.1,h,(Nr.j8 b).2.1]
theorem uU (n:Nat):(Nr.dec n).headD 0≠45∧Nr.eU ((Nr.dec n).headD 0)=true:=by
 obtain ⟨d1,_,d3,_⟩:=Nr.j8 n
 cases e:Nr.dec n with
 | nil=>exact (d3 e).elim
 | cons c r =>
  rw [e,List.all_cons,af] at d1
  refine ⟨fun w=>?_,d1.1⟩
  rw [List.headD_cons] at w
  rw [w] at d1;exact absurd d1.1 (by decide)
theorem zG {a b:Int} (h:Nr.itoa a=Nr.itoa b):a=b:=by
 rw [Nr.lC,Nr.lC] at h
 have ha:=(uU a.natAbs).1
 have hb:=(uU b.natAbs).1
 by_cases c:a<0 <;> by_cases d:b<0
 ·rw [au c,au d] at h
  have:=C3 (List.cons.inj h).2;omega
 ·rw [au c,ao d] at h;rw [←h] at hb;exact (hb rfl).elim
 ·rw [ao c,au d] at h;rw [h] at ha;exact (ha rfl).elim
 ·rw [ao c,ao d] at h
  have:=C3 h;omega
theorem VT (x:UInt8):(mj (x &&& 3) 4).toNat=x.toNat % 4 * 16:=by
 have h:(x &&& (3:UInt8)).toNat=x.toNat % 4:=by rw [UInt8.toNat_and,show (3:UInt8).toNat=2 ^ 2 - 1 from rfl,Nat.and_two_pow_sub_one_eq_mod]
 unfold mj
 rw [h,UInt8.toNat_ofNat'];omega
theorem OV (x:UInt8):(mj (x &&& 15) 2).toNat=x.toNat % 16 * 4:=by
 have h:(x &&& (15:UInt8)).toNat=x.toNat % 16:=by rw [UInt8.toNat_and,show (15:UInt8).toNat=2 ^ 4 - 1 from rfl,Nat.and_two_pow_sub_one_eq_mod]
 unfold mj
 rw [h,UInt8.toNat_ofNat'];omega
theorem q0 (a:UInt8):(lO a 2).toNat=a.toNat / 4:=Lj a 2
end Go.Eng
set_option maxRecDepth 20000
namespace Go.Eng
open Go.IntWalk
theorem QR (n:Int):IntKind.wrap .i64 n=(if n % 18446744073709551616 ≥ 9223372036854775808 then n % 18446744073709551616 - 18446744073709551616 else n % 18446744073709551616):=by
 simp [IntKind.wrap,IntKind.bits,IntKind.signed]
theorem SK (n:Int):IntKind.wrap .i32 n=(if n % 4294967296 ≥ 2147483648 then n % 4294967296 - 4294967296 else n % 4294967296):=by
 simp [IntKind.wrap,IntKind.bits,IntKind.signed]
theorem DL {v:Val} (h:Tree.own v=0):Tree.name v.kind≠[]∧Tree.gW v=true:=by
 unfold Tree.own at h
 by_cases c:Tree.name v.kind=[]
 ·rw [au c] at h;exact absurd h (by decide)
 ·rw [ao c] at h
  refine ⟨c,?_⟩
  cases d:Tree.gW v with
  | true=>rfl
  | false=>rw [au d] at h;exact absurd h (by decide)
theorem Er {v:Val} (h:Tree.gW v=true):(Tree.nO 0 v.kind=true∨v.bits=0)∧(Tree.nO 1 v.kind=true∨(v.high=0∧v.low=0))∧(Tree.nO 2 v.kind=true∨v.text=[])∧(Tree.nO 3 v.kind=true∨v.more=[])∧(Tree.nO 4 v.kind=true∨v.sub=0)∧(Tree.nO 5 v.kind=true∨v.bytes=[])∧(Tree.nO 6 v.kind=true∨v.kids=[])∧(v.kind=16→v.bits<4294967296)∧(v.kind=8→v.bits<2)∧0≤v.sub∧v.sub≤255:=by
 unfold Tree.gW at h
 simp only [af,Bool.or_eq_true,aA,Bool.not_eq_true',decide_eq_false_iff_not] at h
 obtain ⟨⟨⟨⟨⟨⟨⟨⟨⟨⟨h0,h1⟩,h2⟩,h3⟩,h4⟩,h5⟩,h6⟩,h7⟩,h8⟩,h9⟩,_⟩:=h
 exact ⟨h0,h1,h2,h3,h4,h5,h6,fun e=>h7.resolve_left (fun w=>w e),fun e=>h8.resolve_left (fun w=>w e),h9.1,h9.2⟩
end Go.Eng
set_option maxRecDepth 20000
namespace Go.Eng
open Go.IntWalk
theorem uo {v:Val} {n:bz} (h:Tree.oC v n=0):Tree.own v=0:=by
 unfold Tree.oC at h
 by_cases c:Tree.own v=0
 ·exact c
 ·rw [au c] at h;exact (c h).elim
theorem pY {n:bz} {k:Int} {b h l:UInt64} {t m:bz} {s:Int} {y:bz} {ks:List bA} {p:List Int} (c:(Tree.gQ (.mk n k b h l t m s y ks) p).2=0):Tree.own ⟨k,b,h,l,t,m,s,y,ks⟩=0∧(Tree.ka ks 0 p).2=0:=by
 rw [Tree.gQ] at c
 by_cases d:Tree.oC ⟨k,b,h,l,t,m,s,y,ks⟩ n=0
 ·rw [ao (by simp [d])] at c
  exact ⟨uo d,c⟩
 ·rw [au d] at c;exact (d c).elim
theorem pX {f:bA} {r:List bA} {i:Nat} {p:List Int} (c:(Tree.ka (f :: r) i p).2=0):(Tree.gQ f (p++[(i:Int)])).2=0∧(Tree.ka r (i+1) p).2=0:=by
 rw [Tree.ka] at c
 by_cases d:(Tree.gQ f (p++[(i:Int)])).2=0
 ·rw [ao (by simp [d])] at c;exact ⟨d,c⟩
 ·rw [au d] at c;exact (d c).elim
end Go.Eng
set_option maxRecDepth 20000
namespace Go.Eng
open Go.IntWalk
namespace Rl
theorem Cs (n l:Int) (hn:Nr.i64 n=true) (hl:l≤10):(pad n l).length≤31:=by
 have:=l0 n hn
 unfold pad
 rw [aj,List.length_replicate];omega
theorem vW (y m:Int):28≤month y m∧month y m≤31:=by
 unfold month
 split
 ·omega
 ·split
  ·split <;> omega
  ·omega
theorem vd (y:Int):ahead (y+1)≤ahead y+366:=by
 unfold ahead;omega
theorem sB (d:Int) (h:0≤d):ahead (1970+d / 366)≤d:=by
 unfold ahead
 have h1:366 * (d / 366)≤d:=by omega
 generalize d / 366=k at h1
 by_cases c:k≤4
 ·by_cases c0:0≤k
  ·have:k=0∨k=1∨k=2∨k=3∨k=4:=by omega
   rcases this with rfl | rfl | rfl | rfl | rfl <;> omega
  ·omega
 ·omega
theorem yr (d : Int) (hd : d ≤ 2932896) : ∀ (n : Nat) (y : Int), ahead y ≤ d → y ≤ 9999 → 9999 - y ≤ n → ahead (jC d n y) ≤ d ∧ y ≤ jC d n y ∧ jC d n y ≤ 9999 ∧ d < ahead (jC d n y + 1)
  | 0, y, h, h1, h2 => by
    have : y = 9999 := by omega
    subst this
    exact ⟨h, by simp [jC], by simp [jC], by simp only [jC]; have : ahead (9999 + 1) = 2932897 := by decide
                                             omega⟩
  | n + 1, y, h, h1, h2 => by
    simp only [jC]
    by_cases c : ahead (y + 1) ≤ d
    · rw [au c]
      have : y ≠ 9999 := fun e => by
        subst e
        have : ahead (9999 + 1) = 2932897 := by decide
        omega
      obtain ⟨a1, a2, a3, a4⟩ := yr d hd n (y + 1) c (by omega) (by omega)
      exact ⟨a1, by omega, a3, a4⟩
    · rw [ao c]; exact ⟨h, by omega, h1, by omega⟩
theorem C4 (y:Int):∀(n:Nat) (d m:Int),0≤d→d<28 * n→0≤(rR y n d m).1∧(rR y n d m).1≤31∧m≤(rR y n d m).2∧(rR y n d m).2≤m+n
 | 0,d,m,h,h1=>by omega
 | n+1,d,m,h,h1=>by
  have hm:=vW y m
  simp only [rR]
  by_cases c:month y m≤d
  ·rw [au c]
   obtain ⟨a1,a2,a3,a4⟩:=C4 y n (d - month y m) (m+1) (by omega) (by omega)
   exact ⟨a1,a2,by omega,by omega⟩
  ·rw [ao c];exact ⟨h,by show d≤31;omega,by show m≤m;omega,by show m≤m+_;omega⟩
noncomputable def written (rest y:Int) (q:Int × Int):bz :=
 let s:=rest / 1000
 let x:=pad y 4++[45]++pad q.2 2++[45]++pad (q.1+1) 2++[84]++pad (s / 3600) 2++[58]++pad (s / 60 % 60) 2++[58]++pad (s % 60) 2
 cond (decide (rest % 1000=0)) x (x++([46]++pad (rest % 1000) 3))++[90]
end Rl
theorem cq.MG (r y d m:Int) (hr:0≤r∧r<86400000) (hy:0≤y∧y≤100000) (hd:0≤d∧d≤400) (hm:0≤m∧m≤100) (c:¬Rl.month y m≤d):cq.l2 r y d m=some [.s (Rl.written r y (d,m)),.b true]:=by
 refine cq.iu _ _ _ _ ?_
 intro v1 h1 v2 h2 v3 h3 v4 h4 v5 h5 v6 h6 v7 h7 v8 h8 v9 h9 v10 iS v11 kA v12 jM kq nr jh oa jb nV lA sw
 rw [Int.tdiv_eq_ediv_of_nonneg hr.1,i64_in _ (by omega)] at h3
 rw [Int.tdiv_eq_ediv_of_nonneg (by omega),i64_in _ (by omega)] at h8 iS
 rw [i64_in _ (by omega)] at h6
 have t1:Int.tmod v10 60=r / 1000 / 60 % 60:=by rw [Int.tmod_eq_emod_of_nonneg (by omega),iS,h3]
 have t2:Int.tmod v3 60=r / 1000 % 60:=by rw [Int.tmod_eq_emod_of_nonneg (by omega),h3]
 have t3:Int.tmod r 1000=r % 1000:=Int.tmod_eq_emod_of_nonneg (by omega)
 rw [t1] at kA ⊢
 rw [t2] at nr ⊢
 rw [t3] at nV ⊢
 have p:∀n l:Int,0≤n∧n≤1000000∧l≤10→(Rl.pad n l).length≤31:=fun n l h=>Rl.Cs n l (aa (by omega)) h.2.2
 have p1:=p y 4 (by omega)
 have p2:=p m 2 (by omega)
 have p3:=p v6 2 (by omega)
 have p4:=p v8 2 (by omega)
 have p5:=p (r / 1000 / 60 % 60) 2 (by omega)
 have p6:=p (r / 1000 % 60) 2 (by omega)
 have p7:=p (r % 1000) 3 (by omega)
 rw [←kA] at p5
 rw [←nr] at p6
 rw [←nV] at p7
 have l4:v4.length≤32:=by rw [h4,aj];simp only [ay];omega
 have l5:v5.length≤63:=by rw [h5,aj];omega
 have l7:v7.length≤95:=by rw [h7];simp only [aj,ay];omega
 have l9:v9.length≤127:=by rw [h9];simp only [aj,ay];omega
 have Yk:v12.length≤159:=by rw [jM];simp only [aj,ay];omega
 have Vb:jh.length≤191:=by rw [oa];simp only [aj,ay];omega
 have Yi:lA.length≤223:=by rw [sw];simp only [aj,ay];omega
 have z:∀k:Int,k≠0→(!decide (k=0))=true:=fun k h=>by rw [ab h];rfl
 rw [bx (aa hy),ab c,ae,z 1000 (by decide),z 3600 (by decide),z 60 (by decide)]
 simp only [bU,aj,ay]
 have Hn:jh=Rl.pad y 4++[45]++Rl.pad m 2++[45]++Rl.pad (d+1) 2++[84]++Rl.pad (r / 1000 / 3600) 2++[58]++Rl.pad (r / 1000 / 60 % 60) 2++[58]++Rl.pad (r / 1000 % 60) 2:=by
  rw [oa,nr,jM,kA,h9,h8,h7,h6,h5,h4,h3]
 rw [bx (aa (by omega)),bx (aa (by omega)),bx (aa (by omega)),bx (aa (by omega)),bx (aa (by omega)),bx (aa (by omega)),bx (aa (by omega)),
  bx (aa (by omega)),bx (aa (by omega)),bx (aa (by omega)),bx (aa (by omega)),bx (aa (by omega)),bx (aa (by omega)),bx (aa (by omega)),bx (aa (by omega)),bx (aa (by omega))]
 unfold Rl.written
 by_cases k:r % 1000=0
 ·rw [aa k,aG,ae,cq.su,bx (aa (by simp only [ay];omega)),Hn];rfl
 ·rw [ab k,aI,ah,cq.su,bx (aa (by omega)),bx (aa (by omega)),bx (aa (by omega)),bx (aa (by simp only [ay];omega)),sw,nV,Hn];rfl
theorem cq.jd (r y:Int) (hr:0≤r∧r<86400000) (hy:0≤y∧y≤100000):∀(n:Nat) (d m:Int),0≤d→d<28 * n→d≤400→0≤m→m+n≤50→cq.l2 r y d m=some [.s (Rl.written r y (Rl.rR y n d m)),.b true]
 | 0,d,m,h,h1,_,_,_=>by omega
 | n+1,d,m,h,h1,h2,h3,h4=>by
  have hm:=Rl.vW y m
  simp only [Rl.rR]
  by_cases c:Rl.month y m≤d
  ·rw [au c]
   refine cq.iu _ _ _ _ ?_
   intro v1 Im v2 zR v3 _ v4 _ v5 _ v6 _ v7 _ v8 _ v9 _ v10 _ v11 _ v12 _ kq _ jh _ jb _ lA _
   rw [bx (aa hy),aa c,ah,bx (aa hy),Im,zR,i64_in _ (by omega),i64_in _ (by omega)]
   exact cq.jd r y hr hy n _ _ (by omega) (by omega) (by omega) (by omega) (by omega)
  ·rw [ao c]
   exact cq.MG r y d m hr hy ⟨h,by omega⟩ ⟨h3,by omega⟩ c
theorem cq.cO (d r:Int) (hr:0≤r∧r<86400000) (hd:0≤d∧d≤2932896):∀(n:Nat) (y:Int),1970≤y→Rl.ahead y≤d→y≤9999→9999 - y≤n→cq.l1 d r y=some [.s (Rl.written r (Rl.jC d n y) (Rl.rR (Rl.jC d n y) 20 (d - Rl.ahead (Rl.jC d n y)) 1)),.b true]:=by
 have stop:∀y:Int,1970≤y→y≤9999→Rl.ahead y≤d→¬Rl.ahead (y+1)≤d→cq.l1 d r y=some [.s (Rl.written r y (Rl.rR y 20 (d - Rl.ahead y) 1)),.b true]:=fun y h0 h1 h2 c=>by
  have hs:=Rl.vd y
  have ha : -719162≤Rl.ahead y:=by unfold Rl.ahead;omega
  refine cq.bX _ _ _ ?_
  intro v1 Im v2 zR
  rw [i64_in _ (by omega)] at Im zR
  rw [Im,bx (aa (by omega)),ab c,ae,bx (aa (by omega)),zR]
  exact cq.jd r y hr (by omega) 20 _ 1 (by omega) (by omega) (by omega) (by omega) (by omega)
 intro n
 induction n with
 | zero =>
  intro y h0 h1 h2 h3
  refine stop y h0 h2 h1 fun w=>?_
  have:y=9999:=by omega
  subst this
  have:Rl.ahead (9999+1)=2932897:=by decide
  omega
 | succ n ih =>
  intro y h0 h1 h2 h3
  simp only [Rl.jC]
  by_cases c:Rl.ahead (y+1)≤d
  ·rw [au c]
   have hy:y≠9999:=fun e=>by
    subst e
    have:Rl.ahead (9999+1)=2932897:=by decide
    omega
   refine cq.bX _ _ _ ?_
   intro v1 Im v2 zR
   rw [i64_in _ (by omega)] at Im
   rw [Im,bx (aa (by omega)),aa c,ah]
   exact ih (y+1) (by omega) c (by omega) (by omega)
  ·rw [ao c];exact stop y h0 h2 h1 c
theorem cq.goal (t:Int) (hp:(Nr.i64 t)=true):cq.F t=some [.s (Rl.date t).1,.b (Rl.date t).2]:=by
 have hp:=aq hp
 refine cq.bY _ ?_
 intro v1 h1 v2 h2 v3 h3 v4 h4 v5 h5
 rw [bx (jR _),bx (Q5 _),h1,Og,Rl.C5]
 unfold Rl.Ak
 by_cases c:t<0∨253402300799999<t
 ·rw [au c,show (decide (t<0) || decide (253402300799999<t))=true by rcases c with c | c <;> simp [c],ah]
 ·have c1:0≤t:=by omega
  rw [ao c,show (decide (t<0) || decide (253402300799999<t))=false by rw [ab (by omega),ab (by omega)];rfl,ae]
  have z:∀k:Int,k≠0→(!decide (k=0))=true:=fun k h=>by rw [ab h];rfl
  rw [z 86400000 (by decide),z 366 (by decide),bU,bU,bU]
  rw [Int.tdiv_eq_ediv_of_nonneg c1,i64_in _ (by omega)] at h2
  rw [Int.tmod_eq_emod_of_nonneg c1] at h3
  rw [Int.tdiv_eq_ediv_of_nonneg (by omega),i64_in _ (by omega)] at h4
  rw [h4,i64_in _ (by omega)] at h5
  rw [h5,cq.cO v2 v3 (by omega) (by omega) 100000 (1970+v2 / 366) (by omega) (Rl.sB v2 (by omega)) (by omega) (by omega),h2,h3]
  rfl
end Go.Eng
set_option maxRecDepth 20000
namespace Go.Eng
open Go.IntWalk
theorem tC:Tree.fZ [] true=true:=by decide
mutual
theorem wO:∀(f:bA) (p q:List Int),(Tree.gQ f p).2=0→(Tree.gQ f q).2=0
 | .mk n k b h l t m s y ks,p,q,c=>by
  rw [Tree.gQ] at c ⊢
  by_cases d:Tree.oC ⟨k,b,h,l,t,m,s,y,ks⟩ n=0
  ·rw [ao (by simp [d])] at c ⊢
   exact rV ks 0 p q c
  ·rw [au d] at c;exact (d c).elim
theorem rV:∀(l:List bA) (i:Nat) (p q:List Int),(Tree.ka l i p).2=0→(Tree.ka l i q).2=0
 | [],_,_,_,_=>by simp [Tree.ka]
 | f :: r,i,p,q,c=>by
  obtain ⟨c1,c2⟩:=pX c
  have h1:=wO f _ (q++[(i:Int)]) c1
  have h2:=rV r _ p q c2
  rw [Tree.ka,ao (by simp [h1])]
  exact h2
end
theorem HC (f:bA) (p q:List Int) (c:(Tree.gQ f p).2=0):(Tree.gQ (bA.of [] f.val) q).2=0:=by
 cases f
 obtain ⟨o,c2⟩:=pY c
 simp only [bA.of,bA.val,bA.kind,bA.bits,bA.high,bA.low,bA.text,bA.more,bA.sub,bA.bytes,bA.kids]
 rw [Tree.gQ]
 have:∀v:Val,Tree.own v=0→Tree.oC v []=0:=fun v h=>by
  unfold Tree.oC
  rw [ao (by simp [h]),ao (by rw [tC];simp)]
 rw [ao (by rw [this _ o];simp)]
 exact rV _ _ _ _ c2
theorem Ap : ∀ {l : List bA} {i j : Nat} {p : List Int} {f : bA}, (Tree.ka l i p).2 = 0 → f = l.getD j (fx.gm .fl) → j < l.length → (Tree.gQ (bA.of [] f.val) []).2 = 0
  | [], _, _, _, _, _, _, h => by simp at h
  | g :: r, i, j, p, f, c, e, h => by
    obtain ⟨c1, c2⟩ := pX c
    cases j with
    | zero => obtain rfl : f = g := by simpa using e
              exact HC _ _ _ c1
    | succ j => exact Ap (l := r) (i := i + 1) (j := j) c2 (by simpa using e) (by simpa using h)
theorem G4 (date:Int→bz × Bool) (f:bA):Rl.lj date (bA.of [] f.val)=Rl.lj date f:=by
 cases f;simp only [bA.of,bA.val,bA.kind,bA.bits,bA.high,bA.low,bA.text,bA.more,bA.sub,bA.bytes,bA.kids,Rl.lj]
theorem vX (date:Int→bz × Bool):∀l:List bA,(Rl.iX date l).length=l.length
 | []=>by simp [Rl.iX]
 | f :: r=>by simp [Rl.iX,vX date r]
theorem cM.cO (n:Nat) (l:List bA) (hb:bA.cm l≤1000000000000) (hn:2 * bA.cm l<n) (hc:(Tree.ka l 0 []).2=0) (x3:Int) (x4:bz) (x7:List Mem):∀(m i:Nat) (acc:List Mem),i+m=l.length→acc.length=i →
  cM.l1 n l (l.length:Int) (i:Int) x3 x4 7 [] x7 acc=some [.ag [.i .i64 7,.s [],.sl .ml (acc++Rl.iX Rl.date (l.drop i))]]
 | 0,i,acc,hi,ha=>by
  refine cM.bX _ _ _ _ _ _ _ _ _ _ ?_
  intro v1 h1 v2 h2 v3 h3 v4 h4
  rw [ab (by omega),ae,aC (by omega)]
  simp [Rl.iX]
 | m+1,i,acc,hi,ha=>by
  have hlen:=ma l
  refine cM.bX _ _ _ _ _ _ _ _ _ _ ?_
  intro v1 h1 v2 h2 v3 h3 v4 h4
  rw [ak] at h1
  have hf:=xJ (l:=l) (i:=i) (by omega) (fx.gm .fl)
  rw [←h1] at hf
  have hv:=s4 v1
  have e4:v4=((i+1:Nat):Int):=by rw [h4,i64_in _ (by omega)];omega
  have cB:((decide (bA.bJ (bA.of [] (bA.val v1))≤1000000000000)&&decide ((Tree.gQ (bA.of [] (bA.val v1)) []).2=0))&&decide ((2 * bA.bJ (bA.of [] (bA.val v1)))<n))=true:=by
   rw [af,af];exact ⟨⟨aa (by omega),aa (Ap hc h1 (by omega))⟩,aa (by omega)⟩
  rw [aa (by omega),ah,bx (bN (by omega) (by omega)),bx cB,bx (dP (by rw [h3];simp;omega) (by rw [h3];simp;omega)),e4,
   cM.cO n l hb hn hc x3 x4 x7 m (i+1) (acc++v3) (by omega) (by rw [h3];simp;omega),drop_cons (l:=l) (i:=i) (by omega) (fx.gm .fl),←h1]
  have e3:v3=[Mem.of v1.name (Rl.lj Rl.date v1)]:=by rw [h3,h2,G4];rfl
  rw [e3,aE]
  simp [Rl.iX]
theorem cM.goal (n:Nat) (l:List bA) (hp:((decide (bA.cm l≤1000000000000)&&decide ((Tree.ka l 0 []).2=0))&&decide ((2 * bA.cm l+1)<n+1))=true):cM.F n l=some [.ag (bP.cells (Rl.ob Rl.date l))]:=by
 rw [af,af] at hp
 have h1:=aq hp.1.1
 have h2:=aq hp.1.2
 have h3:=aq hp.2
 rw [cM.dW]
 have:=cM.cO n l h1 (by omega) h2 0 [] [] l.length 0 [] (by omega) rfl
 rw [bh,bq] at this
 exact this
theorem Ez (l:List bA):cond (decide ((0:Int)<(l.length:Int))) (List.isPrefixOf [36] (l.getD 0 (fx.gm .fl)).name) false=Cn.kM l:=by
 unfold Cn.kM
 cases l with
 | nil=>rfl
 | cons f r =>
  rw [aa (by simp),ah]
  show List.isPrefixOf [36] f.name=decide (f.name.take 1=[36])
  generalize f.name=s
  cases s with
  | nil=>rfl
  | cons c t =>
   by_cases e:c=36
   ·subst e;simp [List.isPrefixOf]
   ·have e':¬(36:UInt8)=c:=fun h=>e h.symm
    simp [List.isPrefixOf,e,e']
theorem cC.jd (n:Nat) (x2:Int) (x3:bz) (x6:List Mem) (l:List Mem) (hl:l.length≤1099511627776):∀(m i:Nat) (acc:List Mem),i+m=l.length→acc=(l.take i).map Cn.oF++l.drop i →
  cC.l2 n (l.length:Int) (i:Int) x2 x3 6 [] x6 acc=some [.ag [.i .i64 6,.s [],.sl .ml (l.map Cn.oF)]]
 | 0,i,acc,hi,ha=>by
  refine cC.iu _ _ _ _ _ _ _ _ _ ?_
  intro v1 h1 v2 h2
  rw [ab (by omega),ae,ha,aC (by omega),List.take_of_length_le (by omega),bj]
 | m+1,i,acc,hi,ha=>by
  have O9:acc.length=l.length:=by rw [ha];simp;omega
  have qM:i<l.length:=by omega
  refine cC.iu _ _ _ _ _ _ _ _ _ ?_
  intro v1 h1 v2 h2
  rw [ak] at h1 ⊢
  have e2:v2=((i+1:Nat):Int):=by rw [h2,i64_in _ (by omega)];omega
  rw [aa (by omega),ah,bx (bN (by omega) (by omega)),bx (aa (by omega)),e2]
  refine cC.jd n x2 x3 x6 l hl m (i+1) v1 (by omega) ?_
  have eg:acc.getD i (fx.gm .ml)=l[i]:=by
   rw [ha,ai,aR (by simp;omega)]
   simp only [bc,aF,Nat.min_eq_left (Nat.le_of_lt qM),Nat.sub_self,List.getElem?_drop,Nat.add_zero]
   rw [ar qM];rfl
  rw [h1,eg,ha,List.set_append_right _ _ (by simp;omega)]
  simp only [bc,aF,Nat.min_eq_left (Nat.le_of_lt qM),Nat.sub_self]
  rw [List.drop_eq_getElem_cons qM,List.set_cons_zero,List.take_succ_eq_append_getElem qM,List.map_append,aE]
  rfl
theorem cC.iz (n:Nat) (v:Val) (hb:bA.bJ (bA.of [] v)≤1000000000000) (hc:(Tree.gQ (bA.of [] v) []).2=0) (x1:Int) (x2:bz) (x3:List Mem):cC.j1 n v x1 x2 x3=some [.ag (bP.cells (Cn.xK (bA.of [] v)))]:=by
 refine cC.iR _ _ _ _ _ ?_
 intro v1 h1 v2 h2 v3 h3 v4 h4 v5 h5
 have e1:v1=[bA.of [] v]:=h1
 have eb:bA.bJ (bA.of [] (Val.mk 3 0 0 0 [] [] 0 [] v1))=1+bA.bJ (bA.of [] v):=by
  rw [e1];simp only [bA.of,bA.bJ,bA.cm,aB];omega
 have ee:(Cn.iO (Val.mk 3 0 0 0 [] [] 0 [] v1)).2=0:=by
  unfold Cn.iO
  have:(Tree.gQ (bA.of [] (Val.mk 3 0 0 0 [] [] 0 [] v1)) []).2=0:=by
   show (Tree.gQ (bA.mk [] 3 0 0 0 [] [] 0 [] v1) []).2=0
   have o:Tree.own ⟨3,0,0,0,[],[],0,[],v1⟩=0:=by
    rw [e1]
    generalize [bA.of [] v]=ks
    unfold Tree.own
    rw [ao (show ¬Tree.name (3:Int)=[] by decide),ao,ao (show ¬(Tree.fZ [] (decide ((3:Int)=11))=false∨Tree.fZ [] (decide ((3:Int)=11))=false) by decide)]
    simp [Tree.gW,Tree.nO]
   rw [Tree.gQ,ao (by unfold Tree.oC;rw [ao (by simp [o]),ao (by rw [tC];simp)];simp),e1,Tree.ka,ao (by rw [wO _ _ _ hc];simp)]
   rfl
  rw [ao (by simp [this])];rfl
 rw [bx (aa (by omega))]
 have e2:v2=Cn.rP [bA.of [] v]:=by
  rw [h2];unfold Cn.zF;rw [au ee,e1]
 have ek:v2.kids=[Mem.of [] (Cn.xK (bA.of [] v))]:=by rw [e2];simp only [Cn.rP,Cn.kD];rfl
 rw [ek] at h5
 rw [ek,bx (bN (by omega) (by simp)),h5]
 rfl
theorem cC.goal (n:Nat) (v:Val) (hp:((decide (bA.bJ (bA.of [] v)≤1000000000000)&&decide ((Tree.gQ (bA.of [] v) []).2=0))&&decide ((2 * bA.bJ (bA.of [] v))<n+1))=true):cC.F n v=some [.ag (bP.cells (Rl.lj Rl.date (bA.of [] v)))]:=by
 rw [af,af] at hp
 have hb:=aq hp.1.1
 have hc:=aq hp.1.2
 have hn:=aq hp.2
 have hk:bA.cm v.kids+1≤bA.bJ (bA.of [] v):=by simp only [bA.of,bA.bJ];omega
 have hlen:=ma v.kids
 have AO:(Tree.ka v.kids 0 []).2=0:=(pY hc).2
 refine cC.bY _ _ ?_
 intro v1 h1 v2 h2 v3 h3 v4 h4 v5 h5 v6 h6 v7 h7 v8 h8 v9 h9 v10 iS v11 kA v12 jM kq nr jh oa jb nV lA sw tG zS tF wv wX ET v20 CR v21 Pf v22 Pe QT TQ v24 Qt v25 TP QS TN v27 TM
 have i3:Nr.i64 v3=true:=by rw [h3];exact nc _
 have cA:((decide (bA.cm v.kids≤1000000000000)&&decide ((Tree.ka v.kids 0 []).2=0))&&decide ((2 * bA.cm v.kids+1)<n))=true:=by
  rw [af,af];exact ⟨⟨aa (by omega),aa AO⟩,aa (by omega)⟩
 have hd:(⟨jb,lA,jh⟩:bP)=Rl.ob Rl.date v.kids:=by rw [oa,nV,sw]
 have Hn:jh=Rl.iX Rl.date v.kids:=oa
 have Ss:jb=7:=nV
 have Qw:lA=[]:=sw
 have leaf:v.kind≠3→v.kind≠4→v.kind≠15→∀x1 x2 x3,cC.j1 n v x1 x2 x3=some [.ag (bP.cells (Cn.qu v))]:=fun w1 w2 w3 x1 x2 x3=>by
  rw [cC.iz n v hb hc]
  simp only [bA.of,Cn.xK,ao w1,ao w2,ao w3]
 simp only [bA.of,Rl.lj]
 by_cases P8:v.kind=16
 ·rw [aa P8,ah,au P8,bx (nc _),h2,h1];rfl
 rw [ab P8,ae,ao P8]
 by_cases P7:v.kind=18
 ·rw [aa P7,ah,au P7,bx i3,h4,h3];rfl
 rw [ab P7,ae,ao P7]
 by_cases k1:v.kind=1
 ·rw [aa k1,ah,h6]
  cases c:(Rl.number v.bits).2 with
  | true=>rw [ah,au ⟨k1,rfl⟩,h5]
  | false =>
   rw [ae,ao (by rintro ⟨_,w⟩;cases w),ao (by rintro ⟨w,_⟩;omega),ao (by omega),ao (by omega),ao (by omega)]
   exact leaf (by omega) (by omega) (by omega) _ _ _
 rw [ab k1,ae,ao (by rintro ⟨w,_⟩;exact k1 w)]
 by_cases k9:v.kind=9
 ·rw [aa k9,ah,bx i3,h9,h8,h7,h3]
  show cond (Rl.date (Cn.i64 v.bits)).2 _ _=_
  cases c:(Rl.date (Cn.i64 v.bits)).2 with
  | true=>rw [ah,au ⟨k9,rfl⟩];rfl
  | false =>
   rw [ae,ao (by rintro ⟨_,w⟩;cases w),ao (by omega),ao (by omega),ao (by omega)]
   exact leaf (by omega) (by omega) (by omega) _ _ _
 rw [ab k9,ae,ao (by rintro ⟨w,_⟩;exact k9 w)]
 by_cases k3:v.kind=3
 ·have MR:kq=Cn.kM v.kids:=by rw [nr,jM,kA,iS];exact Ez v.kids
  have ci:(!(decide ((0:Int)<v10)) || ((decide ((0:Int)<v10))&&(bD (0:Int) v.kids.length)))=true:=by
   by_cases c:(0:Int)<v10
   ·rw [bN (by omega) (by omega)];cases decide ((0:Int)<v10) <;> rfl
   ·rw [ab c];rfl
  rw [aa k3,ah,au k3,bx (jR _),bx ci,bx (jR _),bx (jR _),bx (jR _),bx (jR _),bx cA,bx cA,MR,zS,wv,ET,hd,Hn,Ss,Qw]
  cases Cn.kM v.kids <;> rfl
 rw [ab k3,ae,ao k3]
 by_cases k4:v.kind=4
 ·rw [aa k4,ah,au k4,bx cA,bx (aa (by omega)),CR,Pf,Pe,TQ,hd,Hn,Qw]
  cases Tree.regular v.kids with
  | false=>rfl
  | true =>
   rw [aG,ae,ah]
   have:=cC.jd n 0 [] [] (Rl.iX Rl.date v.kids) (by rw [vX];omega) (Rl.iX Rl.date v.kids).length 0 (Rl.iX Rl.date v.kids) (by omega) (by simp)
   exact this
 rw [ab k4,ae,ao k4]
 by_cases Ov:v.kind=15
 ·have Wx:v24=[Mem.of [36,99,111,100,101] (Cn.str v.text)]:=Qt
  have Ww:v27=[Mem.of [36,115,99,111,112,101] (Rl.ob Rl.date v.kids)]:=by rw [TM,←hd];rfl
  rw [aa Ov,ah,au Ov,bx cA,Wx,Ww,bx (dP (by simp) (by simp)),TP,TN];rfl
 rw [ab Ov,ae,ao Ov]
 exact leaf k3 k4 Ov _ _ _
theorem gL.goal (v:Val) (hp:(decide (bA.bJ (bA.of [] v)≤1000000000000))=true):gL.F v=some [.ag (bP.cells (Rl.ko Rl.date v)),.ag [.i .i64 (Cn.iO v).2,.i .i64 0,.sl .is (Cn.iO v).1]]:=by
 have hb:=aq hp
 have hk:bA.cm v.kids+1≤bA.bJ (bA.of [] v):=by simp only [bA.of,bA.bJ];omega
 refine gL.bY _ ?_
 intro v1 h1 v2 h2 v3 h3 v4 h4 v5 h5
 rw [bx (aa (by omega))]
 unfold Rl.ko
 by_cases c:(Tree.gQ (bA.of [] v) []).2=0
 ·rw [h2,aa c,aG,ae]
  by_cases k:v.kind=3
  ·have e:Cn.iO v=([],0):=by unfold Cn.iO;rw [ao (by simp [c]),au k]
   have AO:(Tree.ka v.kids 0 []).2=0:=(pY c).2
   rw [aa k,aG,ae,bx (by rw [af];exact ⟨aa (by omega),aa AO⟩),e,au rfl,h3,h4,h5];rfl
  ·have e:Cn.iO v=([],5):=by unfold Cn.iO;rw [ao (by simp [c]),ao k]
   rw [ab k,aI,ah,e,ao (by decide)];rfl
 ·have e:Cn.iO v=Tree.gQ (bA.of [] v) []:=by unfold Cn.iO;rw [au c]
  rw [h2,ab c,aI,ah,e,ao c,h1];rfl
end Go.Eng
set_option maxRecDepth 20000
namespace Go.Eng
open Go.IntWalk
namespace Rl
theorem EC (f g:bA) (p:List Int):mG (bA.of [] f.val) (bA.of [] g.val) p=mG f g p:=by
 cases f;cases g
 simp only [bA.of,bA.val,bA.kind,bA.bits,bA.high,bA.low,bA.text,bA.more,bA.sub,bA.bytes,bA.kids,mG]
mutual
theorem wJ:∀(f g:bA) (p:List Int) (l:List (List Int)),mG f g p=some l→l.length≤bA.bJ f
 | .mk n k b h lo t m s y ks,.mk n' k' b' h' Yf t' m' s' y' Ou,p,l,e=>by
  simp only [mG] at e
  split at e
  ·cases e
  ·rw [aM] at e
   obtain ⟨r,e1,rfl⟩:=e
   have:=wI ks Ou 0 p r e1
   simp only [bA.bJ,aj]
   split <;> simp only [aB,az] <;> omega
theorem wI:∀(a b:List bA) (i:Nat) (p:List Int) (l:List (List Int)),mf a b i p=some l→l.length≤bA.cm a
 | f :: r,g :: q,i,p,l,e=>by
  simp only [mf] at e
  split at e
  ·cases e
  ·rw [aN] at e
   obtain ⟨x,e1,e⟩:=e
   rw [aM] at e
   obtain ⟨y,e2,rfl⟩:=e
   have:=wJ f g _ x e1
   have:=wI r q _ p y e2
   simp only [bA.cm,aj];omega
 | [],[],_,_,l,e=>by simp only [mf] at e;cases e;simp
 | [],_ :: _,_,_,l,e=>by simp only [mf] at e;cases e
 | _ :: _,[],_,_,l,e=>by simp only [mf] at e;cases e
end
end Rl
def rj (o:List (List Int)) (p:List Int):Option (List (List Int))→OT
 | some l=>some [.sl .od (o++l),.b true,.sl .is p]
 | none=>some [.sl .od [],.b false,.sl .is p]
theorem bR.jd (n:Nat) (ks:List bA) (b:Val) (p:List Int) (hl:ks.length=b.kids.length) (hp:p.length+1+bA.cm ks≤1000000000) (hn:bA.cm ks<n):∀(m i:Nat) (o:List (List Int)),i+m=ks.length→o.length+bA.cm (ks.drop i)≤1000000000 →
  bR.l2 n ks (ks.length:Int) (i:Int) b o p=rj o p (Rl.mf (ks.drop i) (b.kids.drop i) i p)
 | 0,i,o,hi,ho=>by
  refine bR.iu _ _ _ _ _ _ _ ?_
  intro v1 h1 v2 h2 v3 h3 v4 h4 v5 h5
  rw [ab (by omega),ae,aC (by omega),aC (by omega)]
  simp [Rl.mf,rj]
 | m+1,i,o,hi,ho=>by
  have hk:=ma ks
  refine bR.iu _ _ _ _ _ _ _ ?_
  intro v1 h1 v2 h2 v3 h3 v4 h4 v5 h5
  rw [ak] at h1 h2
  have e5:v5=((i+1:Nat):Int):=by rw [h5,i64_in _ (by omega)];omega
  have hf:=xJ (l:=ks) (i:=i) (by omega) (fx.gm .fl)
  rw [←h1] at hf
  have hv:=s4 v1
  have hd:ks.drop i=v1 :: ks.drop (i+1):=by rw [h1];exact drop_cons (by omega) _
  have hd2:b.kids.drop i=v2 :: b.kids.drop (i+1):=by rw [h2];exact drop_cons (by omega) _
  rw [hd] at ho
  simp only [bA.cm] at ho
  have c1:((decide (o.length+bA.bJ (bA.of [] (bA.val v1))≤1000000000∧(p++[(i:Int)]).length+bA.bJ (bA.of [] (bA.val v1))≤1000000000))&&decide (bA.bJ (bA.of [] (bA.val v1))<n))=true:=by
   rw [af]
   exact ⟨aa ⟨by omega,by simp only [aj,ay];omega⟩,aa (by omega)⟩
  rw [aa (by omega),ah,bx (bN (by omega) (by omega)),bx (bN (by omega) (by omega)),bx (bN (by omega) (by omega)),bx (dP (by simp;omega) (by simp;omega)),bx c1,hd,hd2,Rl.mf]
  by_cases c:v1.name=v2.name
  ·rw [aa c,aG,ae,ao (by simp [c]),e5]
   unfold Rl.pV at h3 h4
   rw [Rl.EC] at h3 h4
   cases e:Rl.mG v1 v2 (p++[(i:Int)]) with
   | none =>
    rw [e] at h4
    rw [h4,aI,ah];rfl
   | some l =>
    have OK:=Rl.wJ _ _ _ _ e
    rw [e] at h3 h4
    rw [h4,h3,aG,ae,bR.jd n ks b p hl hp hn m (i+1) (o++l) (by omega) (by rw [aj];omega)]
    rw [Option.bind_some]
    cases Rl.mf (ks.drop (i+1)) (b.kids.drop (i+1)) (i+1) p with
    | none=>rfl
    | some q=>simp only [rj,Option.map_some,aE]
  ·rw [ab c,aI,ah,au c];rfl
theorem bR.goal (n:Nat) (o:List (List Int)) (a:Val) (b:Val) (p:List Int) (hp:((decide (o.length+bA.bJ (bA.of [] a)≤1000000000∧p.length+bA.bJ (bA.of [] a)≤1000000000))&&decide ((bA.bJ (bA.of [] a))<n+1))=true) :
  bR.F n o a b p=some [.sl .od (Rl.pV o a b p).1,.b (Rl.pV o a b p).2,.sl .is p]:=by
 rw [af] at hp
 have h1:=aq hp.1
 have h2:=aq hp.2
 have hb:bA.cm a.kids+1≤bA.bJ (bA.of [] a):=by simp only [bA.of,bA.bJ];omega
 have hr:some [TV.sl .od (Rl.pV o a b p).1,.b (Rl.pV o a b p).2,.sl .is p]=rj o p (Rl.mG (bA.of [] a) (bA.of [] b) p):=by
  unfold Rl.pV
  cases Rl.mG (bA.of [] a) (bA.of [] b) p <;> rfl
 rw [hr]
 refine bR.bY _ _ _ _ _ ?_
 intro v1 Im v2 zR v3 Wm
 have hF:Rl.mG (bA.of [] a) (bA.of [] b) p=if a.kids.length≠b.kids.length then none else (Rl.mf a.kids b.kids 0 p).map fun r=>(if Tree.nD a b then [] else [p])++r:=by
  simp only [bA.of,Rl.mG]
 rw [hF,Im,zR]
 by_cases c:a.kids.length=b.kids.length
 ·rw [aa (by omega),aG,ae,ao (by simp [c]),bx (dP (by omega) (by omega)),bx (dP (by simp;omega) (by simp;omega)),Wm]
  have key:∀o':List (List Int),o'.length≤o.length+1→bR.j1 n a b o' p=rj o' p (Rl.mf a.kids b.kids 0 p):=fun o' ho=>by
   refine bR.iR _ _ _ _ _ ?_
   intro v1 h1
   rw [h1]
   show bR.l2 n a.kids _ ((0:Nat):Int) b o' p=_
   rw [bR.jd n a.kids b p c (by omega) (by omega) a.kids.length 0 o' (by omega) (by rw [bh];omega)]
   rfl
  rw [key _ (by simp),key _ (by omega)]
  cases Tree.nD a b with
  | true=>cases Rl.mf a.kids b.kids 0 p <;> rfl
  | false =>
   cases Rl.mf a.kids b.kids 0 p with
   | none=>rfl
   | some l=>simp [rj]
 ·rw [ab (by omega),aI,ah,au c];rfl
theorem bL.cO (a b:List (List Int)) (hl:a.length=b.length) (hb:a.length≤1000000000) (ha:a.all (fun l=>decide (l.length≤1099511627776))=true):∀(m i:Nat),i+m=a.length→bL.l1 a b (i:Int)=some [.b (decide (a.drop i=b.drop i))]
 | 0,i,hi=>by
  refine bL.bX _ _ _ ?_
  intro v1 h1 v2 h2 v3 h3
  rw [ab (by omega),ae,aC (by omega),aC (by omega)];simp
 | m+1,i,hi=>by
  refine bL.bX _ _ _ ?_
  intro v1 h1 v2 h2 v3 h3
  rw [ak] at h1 h2
  have hd:a.drop i=v1 :: a.drop (i+1):=by rw [h1];exact drop_cons (by omega) _
  have hd2:b.drop i=v2 :: b.drop (i+1):=by rw [h2];exact drop_cons (by omega) _
  have hm:v1∈a:=List.mem_of_mem_drop (i:=i) (by rw [hd];simp)
  have e3:v3=((i+1:Nat):Int):=by rw [h3,i64_in _ (by omega)];omega
  rw [aa (by omega),ah,bx (bN (by omega) (by omega)),bx (bN (by omega) (by omega)),bx (aD.1 ha _ hm),hd,hd2,e3]
  by_cases c:v1=v2
  ·rw [aa c,aG,ae,bL.cO a b hl hb ha m (i+1) (by omega)]
   simp [c]
  ·rw [ab c,aI,ah];simp [c]
theorem bL.goal (a b:List (List Int)) (hp:(decide (a.length≤1000000000)&&a.all (fun l=>decide (l.length≤1099511627776)))=true):bL.F a b=some [.b (decide (a=b))]:=by
 rw [af] at hp
 have h1:=aq hp.1
 rw [bL.dW]
 by_cases c:a.length=b.length
 ·rw [aa (by omega),aG,ae]
  exact bL.cO a b c h1 hp.2 a.length 0 (by omega)
 ·rw [ab (by omega),aI,ah,ab (fun e=>c (by rw [e]))]
end Go.Eng
set_option maxRecDepth 20000
namespace Go.Eng
open Go.IntWalk
theorem pM (b:UInt64):(Rl.number b).1.length≤281474976710656:=by
 rw [Rl.o6]
 unfold Rl.nF
 have:=Sh.qc b
 split
 ·simp
 split
 ·simp
 ·exact Nat.le_trans this (by decide)
theorem xc (l r:List bA):Rl.gg (l++r)=Rl.gg l++Rl.gg r:=by
 induction l with
 | nil=>simp [Rl.gg]
 | cons f l ih=>simp [Rl.gg,ih]
theorem bT.nU (n:Nat) (o:Option Int) (x2:Int) (x3 x4 x5:UInt64) (x6 x7:bz) (x8:Int) (x9:List UInt8) (mP:Int) (kC nY nT:UInt64) (mO qa:bz) (sK:Int) (tx:List UInt8) (vz yt:List bA) (w:Int) (hw:w=o.getD w) :
  bT.j2 n w o.isSome x2 x3 x4 x5 x6 x7 x8 x9 mP kC nY nT mO qa sK tx vz yt =
   some [.ag [.i .i64 (match o with | none=>(x2,x3) | some m=>if IntKind.wrap .i64 (IntKind.wrap .i32 m)=m then (16,UInt64.ofInt (UInt32.ofInt m).toNat) else (18,UInt64.ofInt m)).1,
    .u64 (match o with | none=>(x2,x3) | some m=>if IntKind.wrap .i64 (IntKind.wrap .i32 m)=m then (16,UInt64.ofInt (UInt32.ofInt m).toNat) else (18,UInt64.ofInt m)).2,.u64 x4,.u64 x5,.s x6,.s x7,.i .i64 x8,.sl .bs x9,.sl .fl vz]]:=by
 refine bT.jx _ _ _ _ _ _ _ _ _ _ _ _ _ _ _ _ _ _ _ _ _ ?_
 intro v1 h1 v2 h2
 cases o with
 | none=>rw [Option.isSome_none,aI,ah,bT.su]
 | some m =>
  obtain rfl:w=m:=hw
  rw [Option.isSome_some,aG,ae,h1]
  by_cases c:w=IntKind.i64.wrap (IntKind.i32.wrap w)
  ·rw [aa c,ah,bT.su]
   simp only [au c.symm,h2]
  ·rw [ab c,ae,bT.su]
   simp only [ao (Ne.symm c)]
theorem bT.cO (n:Nat) (v:Val) (hb:bA.cm v.kids≤1000000000000) (hn:bA.cm v.kids<n) (kC:Int) (nY nT mO:UInt64) (qa sK:bz) (tx:Int) (vz:List UInt8) (Ia:List bA):∀(m i:Nat) (acc:List bA),i+m=v.kids.length→acc=Rl.gg (v.kids.take i) →
  bT.l1 n v.kids (v.kids.length:Int) (i:Int) v.kind v.bits v.high v.low v.text v.more v.sub v.bytes kC nY nT mO qa sK tx vz acc Ia=some [.ag (Val.cells (Rl.ie v))]
 | 0,i,acc,hi,ha=>by
  refine bT.bX _ _ _ _ _ _ _ _ _ _ _ _ _ _ _ _ _ _ _ _ _ _ ?_
  intro v1 h1 v2 h2 v3 h3 v4 h4 v5 h5 v6 h6 v7 h7 v8 h8 v9 h9 v10 iS v11 kA v12 jM kq nr jh oa jb nV
  rw [ab (by omega),ae]
  have ha:acc=Rl.gg v.kids:=by rw [ha,List.take_of_length_le (by omega)]
  have fin:∀o:Option Int,Rl.jD v.kind v.bits=o→some [TV.ag [.i .i64 (match o with | none=>(v.kind,v.bits) | some m=>if IntKind.wrap .i64 (IntKind.wrap .i32 m)=m then (16,UInt64.ofInt (UInt32.ofInt m).toNat) else (18,UInt64.ofInt m)).1,
    .u64 (match o with | none=>(v.kind,v.bits) | some m=>if IntKind.wrap .i64 (IntKind.wrap .i32 m)=m then (16,UInt64.ofInt (UInt32.ofInt m).toNat) else (18,UInt64.ofInt m)).2,.u64 v.high,.u64 v.low,.s v.text,.s v.more,.i .i64 v.sub,.sl .bs v.bytes,.sl .fl acc]]=some [.ag (Val.cells (Rl.ie v))]:=fun o ho=>by
   subst ho
   rw [ha]
   show _=some [TV.ag [.i .i64 (Rl.kt v.kind v.bits).1,.u64 (Rl.kt v.kind v.bits).2,.u64 v.high,.u64 v.low,.s v.text,.s v.more,.i .i64 v.sub,.sl .bs v.bytes,.sl .fl (Rl.gg v.kids)]]
   rw [Rl.tL];rfl
  by_cases c1:v.kind=1
  ·rw [aa c1,ah]
   cases c:(Rl.number v.bits).2 with
   | true =>
    rw [ah,bx (aa (pM _)),nV,oa,bT.nU n (Rl.iW (Rl.number v.bits).1) _ _ _ _ _ _ _ _ _ _ _ _ _ _ _ _ _ _ _ (by cases Rl.iW (Rl.number v.bits).1 <;> rfl)]
    exact fin _ (by unfold Rl.jD;rw [ao (by rw [c1];decide),au ⟨c1,c⟩])
   | false =>
    rw [ae,show decide (v.kind=18)=(none:Option Int).isSome by rw [c1];rfl,bT.nU n none _ _ _ _ _ _ _ _ _ _ _ _ _ _ _ _ _ _ _ rfl]
    exact fin _ (by unfold Rl.jD;rw [ao (by rw [c1];decide),ao (by rw [c];simp)])
  ·rw [ab c1,ae]
   by_cases c2:v.kind=18
   ·rw [show decide (v.kind=18)=(some kq).isSome by rw [c2];rfl,bT.nU n (some kq) _ _ _ _ _ _ _ _ _ _ _ _ _ _ _ _ _ _ _ rfl]
    exact fin (some kq) (by unfold Rl.jD;rw [au c2,nr];rfl)
   ·rw [show decide (v.kind=18)=(none:Option Int).isSome by rw [ab c2];rfl,bT.nU n none _ _ _ _ _ _ _ _ _ _ _ _ _ _ _ _ _ _ _ rfl]
    exact fin _ (by unfold Rl.jD;rw [ao c2,ao (by rintro ⟨h,_⟩;exact c1 h)])
 | m+1,i,acc,hi,ha=>by
  have hlen:=ma v.kids
  refine bT.bX _ _ _ _ _ _ _ _ _ _ _ _ _ _ _ _ _ _ _ _ _ _ ?_
  intro v1 h1 v2 h2 v3 h3 v4 h4 v5 h5 v6 h6 v7 h7 v8 h8 v9 h9 v10 iS v11 kA v12 jM kq nr jh oa jb nV
  rw [ak] at h1
  have hf:=xJ (l:=v.kids) (i:=i) (by omega) (fx.gm .fl)
  rw [←h1] at hf
  have hv:=s4 v1
  have O9:acc.length=i:=by
   rw [ha]
   have:∀l:List bA,(Rl.gg l).length=l.length:=fun l=>by
    induction l with
    | nil=>simp [Rl.gg]
    | cons f r ih=>simp [Rl.gg,ih]
   rw [this,aF];omega
  have JI:v12=((i+1:Nat):Int):=by rw [jM,i64_in _ (by omega)];omega
  have MS:v11=[Rl.mr v1]:=by
   rw [kA,h2,h3,h4,h5,h6,h7,h8,h9,iS]
   cases v1;simp only [Rl.ie,Rl.mr,bA.val,bA.name,bA.kind,bA.bits,bA.high,bA.low,bA.text,bA.more,bA.sub,bA.bytes,bA.kids]
  have c1:((decide (bA.bJ (bA.of [] (bA.val v1))≤1000000000000))&&decide ((bA.bJ (bA.of [] (bA.val v1)))<n))=true:=by
   rw [af];exact ⟨aa (by omega),aa (by omega)⟩
  rw [aa (by omega),ah,bx (bN (by omega) (by omega)),bx c1,bx (dP (by rw [MS];simp;omega) (by rw [MS];simp;omega)),JI]
  refine bT.cO n v hb hn kC nY nT mO qa sK tx vz Ia m (i+1) _ (by omega) ?_
  rw [MS,ha,List.take_add_one,xc,h1,ai,ar (by omega)]
  simp [Rl.gg]
theorem bT.goal (n:Nat) (v:Val) (hp:((decide (bA.bJ (bA.of [] v)≤1000000000000))&&decide ((bA.bJ (bA.of [] v))<n+1))=true):bT.F n v=some [.ag (Val.cells (Rl.ie v))]:=by
 rw [af] at hp
 have h1:=aq hp.1
 have h2:=aq hp.2
 have hb:bA.cm v.kids+1+v.bytes.length≤bA.bJ (bA.of [] v):=by simp only [bA.of,bA.bJ];omega
 refine bT.bY _ _ ?_
 intro v1 e1
 rw [bx (dP (by omega) (by omega)),e1]
 exact bT.cO n v (by omega) (by omega) _ _ _ _ _ _ _ _ _ v.kids.length 0 [] (by omega) (by simp [Rl.gg])
end Go.Eng
set_option maxRecDepth 20000
namespace Go.Eng
open Go.IntWalk
namespace Rl
theorem yu (r y d m:Int) (hr:0≤r∧r<86400000) (hy:0≤y∧y≤100000) (hd:0≤d∧d≤400) (hm:0≤m∧m≤100):(written r y (d,m)).length≤300:=by
 have p:∀n l:Int,0≤n∧n≤1000000∧l≤10→(Rl.pad n l).length≤31:=fun n l h=>Rl.Cs n l (aa (by omega)) h.2.2
 have p1:=p y 4 (by omega)
 have p2:=p m 2 (by omega)
 have p3:=p (d+1) 2 (by omega)
 have p4:=p (r / 1000 / 3600) 2 (by omega)
 have p5:=p (r / 1000 / 60 % 60) 2 (by omega)
 have p6:=p (r / 1000 % 60) 2 (by omega)
 have p7:=p (r % 1000) 3 (by omega)
 unfold written
 cases decide (r % 1000=0) <;> simp only [ah,ae,aj,ay] <;> omega
theorem Hr (t:Int):(date t).1.length≤300:=by
 rw [C5]
 unfold Ak
 by_cases c:t<0∨253402300799999<t
 ·rw [au c];simp
 ·rw [ao c]
  obtain ⟨a1,a2,a3,a4⟩:=yr (t / 86400000) (by omega) 100000 (1970+t / 86400000 / 366) (sB _ (by omega)) (by omega) (by omega)
  have hs:=vd (jC (t / 86400000) 100000 (1970+t / 86400000 / 366))
  obtain ⟨b1,b2,b3,b4⟩:=C4 (jC (t / 86400000) 100000 (1970+t / 86400000 / 366)) 20 (t / 86400000 - ahead (jC (t / 86400000) 100000 (1970+t / 86400000 / 366))) 1 (by omega) (by omega)
  show (written (t % 86400000) (jC (t / 86400000) 100000 (1970+t / 86400000 / 366)) (rR (jC (t / 86400000) 100000 (1970+t / 86400000 / 366)) 20 (t / 86400000 - ahead (jC (t / 86400000) 100000 (1970+t / 86400000 / 366))) 1)).length≤300
  generalize rR (jC (t / 86400000) 100000 (1970+t / 86400000 / 366)) 20 (t / 86400000 - ahead (jC (t / 86400000) 100000 (1970+t / 86400000 / 366))) 1=q at b1 b2 b3 b4 ⊢
  obtain ⟨q1,q2⟩:=q
  simp only at b1 b2 b3 b4
  exact yu (t % 86400000) _ _ _ (by omega) (by omega) ⟨b1,by omega⟩ ⟨by omega,by omega⟩
theorem pM (b:UInt64):(number b).1.length≤10000:=by
 rw [o6]
 unfold nF
 have:=Sh.qc b
 split
 ·simp
 split
 ·simp
 ·exact Nat.le_trans this (by decide)
end Rl
mutual
theorem Ep:∀f:bA,bP.bJ (Rl.lj Rl.date f)+10 * f.name.length≤40000 * bA.bJ f
 | .mk n k b h l t m s y ks=>by
  have hk:=pP ks
  have hn:=sk (Rl.iX Rl.date ks)
  have hl:=Bt ⟨k,b,h,l,t,m,s,y,ks⟩
  have i64:=l0 (Cn.i64 b) (nc _)
  have i32:=l0 (Cn.i32 b) (nc _)
  have hd:=Rl.Hr (Cn.i64 b)
  have RF:=Rl.pM b
  have num:∀s:bz,bP.bJ ⟨4,s,[]⟩=1+s.length:=fun s=>by simp only [bP.bJ,Mem.of,Mem.bJ,Mem.cm,aB];omega
  have row:∀(x:Int) (ms:List Mem),bP.bJ ⟨x,[],ms⟩=1+Mem.cm ms:=fun x ms=>by simp only [bP.bJ,Mem.of,Mem.bJ,aB]
  simp only [Rl.lj,bA.bJ,bA.name]
  split
  ·rw [num];omega
  split
  ·rw [num];omega
  split
  ·rw [num];omega
  split
  ·rw [gq,iB];simp only [az,aB];omega
  split
  ·cases Cn.kM ks <;> simp only [ah,ae,gq,row,az,aB] <;> omega
  split
  ·cases Tree.regular ks <;> simp only [ah,ae,gq,row,az,aB] <;> omega
  split
  ·simp only [kT,row,iB,az,aB];omega
  ·simp only at hl;omega
theorem pP:∀l:List bA,Mem.cm (Rl.iX Rl.date l)≤40000 * bA.cm l
 | []=>by simp [Rl.iX,Mem.cm]
 | f :: r=>by
  have h1:=Ep f
  have h2:=pP r
  have e:Mem.bJ (Mem.of f.name (Rl.lj Rl.date f))=f.name.length+bP.bJ (Rl.lj Rl.date f):=by
   simp only [bP.bJ,Mem.of,Mem.bJ,aB];omega
  simp only [Rl.iX,Mem.cm,bA.cm,e];omega
end
theorem Bx (v:Val):bP.bJ (Rl.ko Rl.date v)≤1+40000 * bA.bJ (bA.of [] v):=by
 have h:=pP v.kids
 have hk:bA.cm v.kids+1≤bA.bJ (bA.of [] v):=by simp only [bA.of,bA.bJ];omega
 have row:∀(x:Int) (ms:List Mem),bP.bJ ⟨x,[],ms⟩=1+Mem.cm ms:=fun x ms=>by simp only [bP.bJ,Mem.of,Mem.bJ,aB]
 unfold Rl.ko Rl.ob
 split
 ·rw [row];omega
 ·rw [row];simp only [Mem.cm];omega
theorem fV.goal (v:Val) (hp:(decide (bA.bJ (bA.of [] v)≤100000))=true):fV.F v=some [.s (Rl.mT Rl.date v),.ag [.i .i64 (Rl.kW Rl.date v).2,.i .i64 0,.sl .is (Rl.kW Rl.date v).1]]:=by
 have hb:=aq hp
 have hj:=Bx v
 refine fV.bY _ ?_
 intro v1 h1 v2 h2
 rw [bx (aa (by omega))]
 unfold Rl.mT Rl.kW
 by_cases c:(Cn.iO v).2=0
 ·rw [aa c,aG,ae,ao (by simp [c]),ao (by simp [c]),bx (aa (by omega)),h1,h2]
 ·rw [ab c,aI,ah,au c,au c]
end Go.Eng
set_option maxRecDepth 20000
namespace Go.Eng
open Go.IntWalk
namespace Rl
theorem oh {s:bz} {n:Int} (h:iW s=some n):Nr.i64 n=true∧Nr.itoa n=s:=by
 unfold iW at h
 split at h
 ·rename_i hx
  cases h
  exact hx.choose_spec
 ·cases h
theorem Dn {k:Int} {b:UInt64} {n:Int} (h:jD k b=some n):Nr.i64 n=true:=by
 unfold jD at h
 split at h
 ·cases h;exact nc _
 ·split at h
  ·exact (oh h).1
  ·cases h
theorem kg (k:Int) (b:UInt64):(jD k b=none∧kt k b=(k,b))∨(∃n,jD k b=some n∧-2147483648≤n∧n<2147483648∧kt k b=(16,UInt64.ofInt (UInt32.ofInt n).toNat))∨(∃n,jD k b=some n∧¬(-2147483648≤n∧n<2147483648)∧kt k b=(18,UInt64.ofInt n)):=by
 rw [tL]
 unfold tM
 cases e:jD k b with
 | none=>exact .inl ⟨rfl,rfl⟩
 | some n =>
  right
  have hn:=aq (Dn e)
  simp only
  have key:IntKind.wrap .i64 (IntKind.wrap .i32 n)=n ↔ (-2147483648≤n∧n<2147483648):=by
   rw [QR,SK]
   constructor
   ·intro h;split at h <;> split at h <;> omega
   ·intro h;split <;> split <;> omega
  by_cases c:IntKind.wrap .i64 (IntKind.wrap .i32 n)=n
  ·rw [au c]
   exact .inl ⟨n,rfl,(key.1 c).1,(key.1 c).2,rfl⟩
  ·rw [ao c]
   exact .inr ⟨n,rfl,fun w=>c (key.2 w),rfl⟩
theorem BR {n:Int} (h : -2147483648≤n∧n<2147483648):(UInt64.ofInt ((UInt32.ofInt n).toNat:Int)).toNat=(n % 4294967296).toNat∧Cn.i32 (UInt64.ofInt ((UInt32.ofInt n).toNat:Int))=n:=by
 have e1:=qW n
 rw [wrap_u32'] at e1
 have e2:=mS ((UInt32.ofInt n).toNat:Int)
 rw [e1,jj] at e2
 rw [e1]
 have e3:(UInt64.ofInt (n % 4294967296)).toNat=(n % 4294967296).toNat:=by omega
 refine ⟨e3,?_⟩
 unfold Cn.i32
 rw [e3,QR,SK]
 split <;> split <;> omega
theorem HJ {n:Int} (h:Nr.i64 n=true):Cn.i64 (UInt64.ofInt n)=n:=by
 have h:=aq h
 have e2:=mS n
 rw [jj] at e2
 unfold Cn.i64
 rw [QR]
 split <;> omega
theorem tJ {k:Int} {b:UInt64} (h1:k≠1) (wv:k≠18):kt k b=(k,b):=by
 rcases kg k b with h | ⟨n,h,_⟩ | ⟨n,h,_⟩
 ·exact h.2
 ·unfold jD at h;rw [ao wv,ao (by rintro ⟨w,_⟩;exact h1 w)] at h;cases h
 ·unfold jD at h;rw [ao wv,ao (by rintro ⟨w,_⟩;exact h1 w)] at h;cases h
theorem xb (l:List bA):Cn.kM (gg l)=Cn.kM l:=by
 cases l with
 | nil=>simp [gg]
 | cons f r=>cases f;simp only [gg,mr,Cn.kM,bA.name];rfl
theorem py:∀(l:List bA) (i:Nat),Tree.ju i (gg l)=Tree.ju i l
 | [],_=>by simp [gg]
 | .mk n k b h x t m s y ks :: r,i=>by simp only [gg,Tree.ju,py r,mr,bA.name];rfl
theorem yA {v:Val} (k:List bA) (h:Tree.gW v=true) (hk:v.kind=1∨v.kind=18) {n:Int} (hn:jD v.kind v.bits=some n) (OO:v.kids=[]→k=[]) :
  Tree.own ⟨(kt v.kind v.bits).1,(kt v.kind v.bits).2,v.high,v.low,v.text,v.more,v.sub,v.bytes,k⟩=0:=by
 obtain ⟨_,b1,b2,b3,b4,b5,b6,_⟩:=Er h
 have n1:∀i:Nat,i≠0→Tree.nO i v.kind=false:=fun i hi=>by
  rcases hk with e | e <;> rw [e] <;> (match i,hi with
   | 1,_=>rfl
   | 2,_=>rfl
   | 3,_=>rfl
   | 4,_=>rfl
   | 5,_=>rfl
   | (q+6),_=>rfl)
 have b1:=b1.resolve_left (by rw [n1 1 (by decide)];simp)
 have b2:=b2.resolve_left (by rw [n1 2 (by decide)];simp)
 have b3:=b3.resolve_left (by rw [n1 3 (by decide)];simp)
 have b4:=b4.resolve_left (by rw [n1 4 (by decide)];simp)
 have b5:=b5.resolve_left (by rw [n1 5 (by decide)];simp)
 have b6:=b6.resolve_left (by rw [n1 6 (by decide)];simp)
 rw [b1.1,b1.2,b2,b3,b4,b5,OO b6]
 rcases kg v.kind v.bits with ⟨e,_⟩ | ⟨m,_,m1,m2,e⟩ | ⟨m,_,_,e⟩
 ·rw [hn] at e;cases e
 ·rw [e]
  have hb:=(BR ⟨m1,m2⟩).1
  have gk:UInt64.ofInt ((UInt32.ofInt m).toNat:Int)<4294967296:=by
   rw [aT,hb]
   show _<4294967296
   omega
  simp only
  generalize UInt64.ofInt ((UInt32.ofInt m).toNat:Int)=q at gk
  unfold Tree.own
  rw [ao (show ¬Tree.name (16:Int)=[] by decide),ao,ao (show ¬(Tree.fZ [] (decide ((16:Int)=11))=false∨Tree.fZ [] (decide ((16:Int)=11))=false) by decide)]
  simp [Tree.gW,Tree.nO,gk]
 ·rw [e]
  simp only
  generalize UInt64.ofInt m=q
  unfold Tree.own
  rw [ao (show ¬Tree.name (18:Int)=[] by decide),ao,ao (show ¬(Tree.fZ [] (decide ((18:Int)=11))=false∨Tree.fZ [] (decide ((18:Int)=11))=false) by decide)]
  simp [Tree.gW,Tree.nO]
mutual
theorem vD:∀(f:bA) (p:List Int),(Tree.gQ f p).2=0→(Tree.gQ (mr f) p).2=0
 | .mk n k b h l t m s y ks,p,c=>by
  have hL:=fun c=>vC ks 0 p c
  rw [Tree.gQ] at c
  by_cases d:Tree.oC ⟨k,b,h,l,t,m,s,y,ks⟩ n=0
  ·rw [ao (by simp [d])] at c
   have o:=uo d
   obtain ⟨_,f1⟩:=DL o
   have hw:Tree.fZ n true=true:=by
    unfold Tree.oC at d
    rw [ao (by simp [o])] at d
    cases e:Tree.fZ n true with
    | true=>rfl
    | false=>rw [au e] at d;exact absurd d (by decide)
   have o2:Tree.own ⟨(kt k b).1,(kt k b).2,h,l,t,m,s,y,gg ks⟩=0:=by
    cases e:jD k b with
    | none =>
     rcases kg k b with ⟨_,e2⟩ | ⟨q,e2,_⟩ | ⟨q,e2,_⟩
     ·rw [e2]
      unfold Tree.own at o ⊢
      unfold Tree.gW at o ⊢
      have hk:(gg ks=[])=(ks=[]):=by cases ks <;> simp [gg]
      simp only [hk]
      exact o
     ·rw [e] at e2;cases e2
     ·rw [e] at e2;cases e2
    | some q =>
     have hk:k=1∨k=18:=by
      unfold jD at e
      split at e
      ·rename_i w;exact .inr w
      ·split at e
       ·rename_i w;exact .inl w.1
       ·cases e
     exact yA (v:=⟨k,b,h,l,t,m,s,y,ks⟩) (gg ks) f1 hk e (fun w=>by simp only at w;rw [w];simp [gg])
   rw [mr,Tree.gQ]
   have:Tree.oC ⟨(kt k b).1,(kt k b).2,h,l,t,m,s,y,gg ks⟩ n=0:=by
    unfold Tree.oC
    rw [ao (by simp [o2]),ao (by simp [hw])]
   rw [ao (by simp [this])]
   exact hL c
  ·rw [au d] at c;exact (d c).elim
theorem vC:∀(l:List bA) (i:Nat) (p:List Int),(Tree.ka l i p).2=0→(Tree.ka (gg l) i p).2=0
 | [],_,_,h=>by rw [gg];exact h
 | f :: r,i,p,c=>by
  obtain ⟨c1,c2⟩:=pX c
  have h1:=vD f _ c1
  have h2:=vC r _ p c2
  rw [gg,Tree.ka,ao (by simp [h1])]
  exact h2
end
theorem CW (date:Int→bz × Bool) (n:bz) (b h l:UInt64) (t m:bz) (s:Int) (y:bz) (ks:List bA):lj date (.mk n 16 b h l t m s y ks)=⟨4,Nr.itoa (Cn.i32 b),[]⟩:=by rw [lj,au rfl]
theorem s9 (date:Int→bz × Bool) (n:bz) (b h l:UInt64) (t m:bz) (s:Int) (y:bz) (ks:List bA):lj date (.mk n 18 b h l t m s y ks)=⟨4,Nr.itoa (Cn.i64 b),[]⟩:=by rw [lj,ao (by decide),au rfl]
theorem BI (date:Int→bz × Bool) (n:bz) {b:UInt64} (h l:UInt64) (t m:bz) (s:Int) (y:bz) (ks:List bA) (c:(number b).2=true):lj date (.mk n 1 b h l t m s y ks)=⟨4,(number b).1,[]⟩:=by
 rw [lj,ao (by decide),ao (by decide),au ⟨rfl,c⟩]
theorem CV (date:Int→bz × Bool) (n:bz) {b:UInt64} (h l:UInt64) (t m:bz) (s:Int) (y:bz) (ks:List bA) (c:¬(number b).2=true):lj date (.mk n 1 b h l t m s y ks)=Cn.qu ⟨1,b,h,l,t,m,s,y,ks⟩:=by
 rw [lj,ao (by decide),ao (by decide),ao (by rintro ⟨_,w⟩;exact c w),ao (by rintro ⟨w,_⟩;exact absurd w (by decide)),ao (by decide),ao (by decide),ao (by decide)]
mutual
theorem Dm (date:Int→bz × Bool):∀f:bA,lj date (mr f)=lj date f
 | .mk n k b h l t m s y ks=>by
  have hm:=pH date ks
  have hd:=xb ks
  have hr:Tree.regular (gg ks)=Tree.regular ks:=py ks 0
  rw [mr]
  by_cases TZ:k=18
  ·subst TZ
   have e1:jD 18 b=some (Cn.i64 b):=by unfold jD;rw [au rfl]
   rcases kg 18 b with ⟨e,_⟩ | ⟨q,e,q1,q2,e2⟩ | ⟨q,e,_,e2⟩
   ·rw [e1] at e;cases e
   ·rw [e1] at e;cases e
    rw [e2];dsimp only
    rw [CW,s9,(BR ⟨q1,q2⟩).2]
   ·rw [e1] at e;cases e
    rw [e2];dsimp only
    rw [s9,s9,HJ (n:=Cn.i64 b) (nc _)]
  by_cases c1:k=1
  ·subst c1
   cases e:jD 1 b with
   | none =>
    rcases kg 1 b with ⟨_,e2⟩ | ⟨q,e2,_⟩ | ⟨q,e2,_⟩
    ·rw [e2];dsimp only
     by_cases c:(number b).2=true
     ·rw [BI date n h l t m s y _ c,BI date n h l t m s y _ c]
     ·rw [CV date n h l t m s y _ c,CV date n h l t m s y _ c]
      unfold Cn.qu Cn.oD Cn.pz
      rfl
    ·rw [e] at e2;cases e2
    ·rw [e] at e2;cases e2
   | some q =>
    have hn:(number b).2=true∧iW (number b).1=some q:=by
     unfold jD at e
     rw [ao (by decide)] at e
     split at e
     ·rename_i w;exact ⟨w.2,e⟩
     ·cases e
    have ht:=(oh hn.2).2
    rw [BI date n h l t m s y ks hn.1]
    rcases kg 1 b with ⟨e2,_⟩ | ⟨q',e2,q1,q2,e3⟩ | ⟨q',e2,_,e3⟩
    ·rw [e] at e2;cases e2
    ·rw [e] at e2;cases e2
     rw [e3];dsimp only
     rw [CW,(BR ⟨q1,q2⟩).2,ht]
    ·rw [e] at e2;cases e2
     rw [e3];dsimp only
     rw [s9,HJ (oh hn.2).1,ht]
  ·rw [tJ c1 TZ];dsimp only
   rw [lj,lj,hm,hd,hr]
   unfold Cn.qu Cn.oD Cn.pz
   rfl
theorem pH (date:Int→bz × Bool):∀l:List bA,iX date (gg l)=iX date l
 | []=>by simp [gg,iX]
 | f :: r=>by
  have e:(mr f).name=f.name:=by cases f;rfl
  rw [gg,iX,iX,Dm date f,pH date r,e]
end
end Rl
end Go.Eng
set_option maxRecDepth 20000
namespace Go.Eng
open Go.IntWalk
namespace Sh
theorem vS:Nr.nI 4607182418800017408=4503599627370496∧Nr.sh 4607182418800017408=1022:=by decide +kernel
theorem xl:jO 4607182418800017408=4503599627370496∧iG 4607182418800017408=4503599627370496:=by
 unfold jO iG;rw [vS.1,vS.2];decide +kernel
theorem Ly:dx 4607182418800017408=1:=by
 have h1:=pk (p:=4607182418800017408) (by decide) 0
 have h2:=pk (p:=4607182418800017408) (by decide) 1
 rw [xl.1,xl.2] at h1 h2
 have g1:=h1.1 (by decide +kernel)
 have g2:¬(1:Int)<dx 4607182418800017408:=fun c=>absurd (h2.2 c) (by decide +kernel)
 omega
theorem Lx:Nr.rd 1 0=some 4607182418800017408:=by
 unfold Nr.rd
 refine Nr.lJ (by decide) (by decide) ?_ (.inr ?_)
 ·unfold Nr.gZ;decide +kernel
 ·unfold Nr.gZ;decide +kernel
theorem C2:Nr.dec 1=[49]:=(Nr.pW 1 [49] (by decide) (by decide) (by decide) (by decide)).symm
theorem FQ:some_ 4607182418800017408 (jO 4607182418800017408) (iG 4607182418800017408) (dx 4607182418800017408) 1=some ([49],1):=by
 rw [xl.1,xl.2,Ly]
 have hP:tA 4503599627370496 (1 - 1) / tB 4503599627370496 (1 - 1)=1:=by decide +kernel
 have hR:2 * (tA 4503599627370496 (1 - 1) % tB 4503599627370496 (1 - 1))<tB 4503599627370496 (1 - 1):=by decide +kernel
 have hr:reads 4607182418800017408 1 (1 - 1)=some ([49],1):=by
  rw [show ((1:Int) - 1)=0 by decide,lQ Lx,C2];rfl
 unfold some_
 simp only
 rw [hP,hr,au ⟨rfl,.inr (.inl hR)⟩]
theorem Bj:digits 4607182418800017408=([49],1):=go_hit FQ
theorem kK:(Nr.split 4607182418800017408).1=2∧(Nr.split 4607182418800017408).2.1=false:=by decide +kernel
theorem Ct:kx 4607182418800017408=4607182418800017408:=by decide +kernel
theorem FP:text 4607182418800017408=[49]:=by
 obtain ⟨z1,z2,z3⟩:=BM kK.1
 rw [Ct,Bj] at z1 z2
 rw [sL];unfold tP
 rw [ao (by rw [kK.1];decide),ao (by rw [kK.1];decide),ao (by rw [kK.1];decide),z1,z2]
 unfold sign
 rw [ao (by rw [kK.2];decide)]
 rfl
end Sh
theorem uq:Rl.number 4607182418800017408=([49],true):=by
 rw [Rl.o6]
 unfold Rl.nF
 rw [ao (by rw [Sh.kK.1];decide),ao (by rw [Sh.kK.1];decide),Sh.FP,Sh.Ct]
 rfl
theorem DO:Rl.iW [49]=some 1:=by
 have h:Nr.itoa 1=[49]:=by rw [Nr.lC,ao (by decide)];exact Sh.C2
 unfold Rl.iW
 have he:∃n,Nr.i64 n=true∧Nr.itoa n=[49]:=⟨1,by decide,h⟩
 rw [dif_pos he]
 congr 1
 exact zG (he.choose_spec.2.trans h.symm)
def EJ:Val:=⟨3,0,0,0,[],[],0,[],[.mk [97] 1 4607182418800017408 0 0 [] [] 0 [] []]⟩
theorem BW:Cn.iO EJ=([],0):=by decide +kernel
theorem Dd:Rl.ko Rl.date EJ=⟨7,[],[.mk [97] 4 [49] []]⟩:=by
 unfold Rl.ko
 rw [BW,au rfl]
 unfold Rl.ob EJ
 simp only [Rl.iX,Rl.lj]
 simp [Mem.of,uq,bA.name]
theorem HV:Cn.mq (Rl.ko Rl.date EJ)=0:=by
 rw [Dd]
 simp only [Cn.mq,Mem.of,Cn.BO,Cn.uV,Mem.name]
 have h1:fR.whole [97]=true:=by decide +kernel
 have h2:fR.whole [49]=true:=by decide +kernel
 have h3:Nr.jf [49]≠0:=by decide +kernel
 simp [h1,h2,h3]
theorem Nb:Cn.uF (Rl.ko Rl.date EJ)=[123,34,97,34,58,49,125]:=by
 rw [Dd];decide +kernel
theorem JV:Rl.kt 1 4607182418800017408=(16,1):=by
 rw [Rl.tL]
 unfold Rl.tM Rl.jD
 rw [ao (by decide),uq,au ⟨rfl,rfl⟩,DO]
 decide +kernel
theorem JW:Rl.diff EJ (Rl.ie EJ)=some [[0]]:=by
 have e:Rl.ie EJ=⟨3,0,0,0,[],[],0,[],[.mk [97] 16 1 0 0 [] [] 0 [] []]⟩:=by
  unfold Rl.ie EJ
  simp only [Rl.gg,Rl.mr,JV]
  rw [Rl.tJ (by decide) (by decide)]
 rw [e]
 decide +kernel
theorem dG.goal:dG.F=some [.b true]:=by
 refine dG.bY ?_
 intro v1 h1 v2 h2 v3 h3 v4 h4 v5 h5 v6 h6 v7 h7 v8 h8
 have e0:(⟨3,0,0,0,[],[],0,[],v1⟩:Val)=EJ:=by rw [h1];rfl
 rw [e0] at h2 h3 h4 h6 ⊢
 have eE:Rl.kW Rl.date EJ=([],0):=by unfold Rl.kW;rw [BW,ao (by simp),HV]
 have eV:Rl.mT Rl.date EJ=[123,34,97,34,58,49,125]:=by
  unfold Rl.mT Cn.pK;rw [BW,ao (by simp),HV,Nb];rfl
 have e5:v5=true:=by rw [h5,h3,h2,eE,eV];rfl
 have e6:v6=[[0]]:=by rw [h6,JW];rfl
 have e8:v8=true:=by rw [h8,e5,h7,e6];rfl
 rw [bx (by decide +kernel),bx (jR _),bx (jR _),e5,e6,e8]
 rw [show decide (bA.bJ (bA.of [] EJ)≤10000000)=true by decide +kernel]
 rfl
end Go.Eng
set_option maxRecDepth 20000
namespace Go.Eng
theorem Ls (M:Nat) (hM:M≤18446744073709551615) (n:Nat):n≤M→∀r:bz,Lib.parseUintM M 0 (Nr.dec n++r)=Lib.parseUintM M n r:=by
 have step:∀(a d:Nat) (r:bz),d<10→a * 10+d≤M→Lib.parseUintM M a (UInt8.ofNat (48+d) :: r)=Lib.parseUintM M (a * 10+d) r:=fun a d r hd h=>by
  have e:(UInt8.ofNat (48+d)).toNat=48+d:=by rw [UInt8.toNat_ofNat'];omega
  simp only [Lib.parseUintM,e]
  rw [au (by omega),ao (by omega),ao (by omega),show 48+d - 48=d by omega]
 induction n using Nat.strongRecOn with
 | _ n ih =>
  intro hn r
  rw [Nr.dec]
  by_cases h:n<10
  ·rw [au h,List.singleton_append,step 0 n r h (by omega)]
   rw [Nat.zero_mul,Nat.zero_add]
  ·rw [ao h,aE,ih (n / 10) (by omega) (by omega),List.singleton_append,step (n / 10) (n % 10) r (by omega) (by omega),show n / 10 * 10+n % 10=n by omega]
theorem Cm (n:Nat) (h:n≤9223372036854775808):Lib.parseUintB 64 (Nr.dec n) = .ok n:=by
 unfold Lib.parseUintB
 rw [ao (Nr.j8 n).2.2.1]
 have:=Ls 18446744073709551615 (Nat.le_refl _) n (by omega) []
 rw [bj] at this
 exact this
theorem um (n:Int) (h:Nr.i64 n=true):Lib.parseIntB 64 (Nr.itoa n) = .ok n:=by
 have h:=aq h
 rw [Nr.lC]
 by_cases c:n<0
 ·rw [au c,Lib.parseIntB_minus,Cm _ (by omega)]
  show (if (9223372036854775808:Nat)<n.natAbs then Lib.NumEnd.range else .ok (-(n.natAbs:Int)))=_
  rw [ao (by omega)]
  congr 1;omega
 ·rw [ao c]
  have hd:=uU n.natAbs
  have e:=Cm n.natAbs (by omega)
  cases hl:Nr.dec n.natAbs with
  | nil=>exact absurd hl (Nr.j8 _).2.2.1
  | cons a r =>
   rw [hl] at hd e
   have h1:a≠45:=hd.1
   have h2:Nr.eU a=true:=hd.2
   have h3:a.toNat≠43:=fun w=>by
    have:a=43:=UInt8.toNat_inj.1 w
    rw [this] at h2;revert h2;decide
   rw [Lib.parseIntB_plain 64 a r h3 (fun w=>h1 (UInt8.toNat_inj.1 w)),e]
   show (if (9223372036854775808:Nat)≤n.natAbs then Lib.NumEnd.range else .ok (n.natAbs:Int))=_
   rw [ao (by omega)]
   congr 1;omega
theorem Dj {s:bz} {v:Int} (hv:Nr.i64 v=true) (h:Nr.itoa v=s):Rl.iW s=some v:=by
 unfold Rl.iW
 have he:∃n,Nr.i64 n=true∧Nr.itoa n=s:=⟨v,hv,h⟩
 rw [dif_pos he]
 congr 1
 exact zG (he.choose_spec.2.trans h.symm)
theorem sa {s:bz} (h:∀v,Nr.i64 v=true→Nr.itoa v≠s):Rl.iW s=none:=by
 unfold Rl.iW
 rw [dif_neg]
 rintro ⟨n,h1,h2⟩
 exact h n h1 h2
theorem vP {s:bz} {v:Int} (h:Lib.parseIntB 64 s = .ok v):Nr.i64 v=true:=by
 have:=Lib.parseIntB_bounds h
 have e:((2 ^ (64 - 1):Nat):Int)=9223372036854775808:=by decide
 rw [e] at this
 exact aa (by omega)
theorem Di {s:bz} {v:Int} (h:Lib.parseIntB 64 s = .ok v):Rl.iW s=if Nr.itoa v=s then some v else none:=by
 by_cases c:Nr.itoa v=s
 ·rw [au c];exact Dj (vP h) c
 ·rw [ao c]
  exact sa fun n hn e=>by
   have:=um n hn
   rw [e,h] at this
   cases this
   exact c e
theorem tz {s:bz} (h:∀v,Lib.parseIntB 64 s ≠ .ok v):Rl.iW s=none:=sa fun n hn e=>h n (by rw [←e];exact um n hn)
end Go.Eng
namespace Go.Eng
open Go.RowKit Go.Proofs
variable {ee:Errs}
set_option maxRecDepth 100000
set_option maxHeartbeats 1000000
theorem Iu {R:Reach} {w:World} (n:Int) (hn:Nr.i64 n=true) (hG:GlOK (cnGl ee) R w) :
  Calls Tryz.prog 56 #[.int .i64 n] w fun e w'=>e = .returned (.string ⟨⟨Nr.itoa n⟩⟩)∧Below w.heap.size w w':=by
 have hp:=aq (Nr.BB hn)
 go_enter Tryz.func56,Tryz.ntmps56
 go_wp2_with (go_at_call 95;refine (Any.strconv_FormatInt_10 Tryz.zo n hp.1 hp.2 w (sS hG)).mono ?_;rintro e w' ⟨rfl,q,os,rfl⟩)
 go_ret
 exact ⟨by rw [sU];rfl,nR _ _ _⟩
theorem HS {w W1 W2:World} (h1:Below w.heap.size w W1) (h2:Below W1.heap.size W1 W2):Below w.heap.size w W2 :=
 ⟨h2.os.trans h1.os,h2.tape.trans h1.tape,h2.output.trans h1.output,by have:=h1.size;have:=h2.size;omega,fun k hk=>(h2.block k (by have:=h1.size;omega)).trans (h1.block k hk)⟩
theorem Ej {R:Reach} {w w':World} (hR:∀b o,R b o→b<w.heap.size) (h:Below w.heap.size w w') (hG:GlOK (cnGl ee) R w):GlOK (cnGl ee) R w':=hG.dM (pg (io:=fun _=>False) hR h).dM
theorem JF {R:Reach} {w:World} (hG:GlOK (cnGl ee) R w):w.cell? ⟨0,0,none⟩=some ee.1.1:=(hG 0 [ee.1.1] rfl 0).2
theorem JG {R:Reach} {w:World} (hG:GlOK (cnGl ee) R w):w.cell? ⟨1,0,none⟩=some ee.1.2:=(hG 1 [ee.1.2] rfl 0).2
theorem E3 {R:Reach} {w:World} (s:bz) (hs:s.length≤281474976710656) (hR:∀b o,R b o→b<w.heap.size) (hG:GlOK (cnGl ee) R w) :
  Calls Tryz.prog 34 #[.string ⟨⟨s⟩⟩] w fun e w'=>e = .returned (.tuple #[.int .i64 ((Rl.iW s).getD 0),.bool (Rl.iW s).isSome])∧Below w.heap.size w w':=by
 have sY:(⟨⟨s⟩⟩:ByteArray).size≤281474976710656:=by show (⟨s⟩:Array UInt8).size≤_;rw [List.size_toArray];exact hs
 rcases h:Lib.parseIntB 64 s with v | _ | _
 ·
  have hv:=vP h
  rw [Di h]
  go_enter Tryz.func34,Tryz.ntmps34
  go_wp2_with (go_at_call 55;refine (Any.strconv_ParseInt_10_at64_ok Tryz.uE ⟨⟨s⟩⟩ (by omega) v h w).mono ?_;rintro e W1 ⟨rfl,hW⟩)
  have CP:Below w.heap.size w W1:=by
   rcases hW with rfl | ⟨t,rfl⟩
   ·exact Below.refl _ _
   ·exact Go.Joins.below_bytesWorld _ _ _ _ (Nat.le_refl _)
  have Qr:=Ej hR CP hG
  go_at_call 56
  refine (Iu v hv Qr).mono ?_
  rintro e W2 ⟨rfl,GQ⟩
  have hb:=HS CP GQ
  by_cases c:Nr.itoa v=s
  ·go_wp2
   go_ret2
   exact ⟨rfl,hb⟩
  ·have c':¬(Nr.itoa v=s):=c
   go_wp2
   all_goals
    go_ret2
    first
     | exact ⟨rfl,hb⟩
     | (exfalso;apply c;assumption)
     | (exfalso;apply c;simp_all)
 ·
  rw [tz (fun v w=>by rw [h] at w;cases w)]
  go_enter Tryz.func34,Tryz.ntmps34
  go_wp2_with (go_at_call 55;refine (Any.strconv_ParseInt_10_at64_syntax Tryz.uE ⟨⟨s⟩⟩ sY h ee.1.1 w (JF hG) ee.2.1).mono ?_;rintro e W1 ⟨N,rfl,hN,Wc,CP⟩)
  go_ret2
  exact ⟨rfl,CP⟩
 ·
  rw [tz (fun v w=>by rw [h] at w;cases w)]
  go_enter Tryz.func34,Tryz.ntmps34
  go_wp2_with (go_at_call 55;refine (Any.strconv_ParseInt_10_at64_range Tryz.uE ⟨⟨s⟩⟩ sY h ee.1.2 w (JG hG) ee.2.2).mono ?_;rintro e W1 ⟨N,rfl,hN,Wc,CP⟩)
  go_ret2
  exact ⟨rfl,CP⟩
theorem kS.ok:bC PG (cnGl ee) 34 (kS.c,kS.sg):=yI (n:=2) (by kernel_rfl) (by decide) fun ti kV w R xs hc ha hR hG=>by
 unfold kS.c at hc
 split at hc
 ·rename_i s
  obtain ⟨hp,rfl⟩:=hc
  obtain rfl:=jt ha rfl
  refine (E3 s (aq hp) hR hG).mono ?_
  rintro e w' ⟨rfl,hb⟩
  exact ⟨_,rfl,rfl,hb,fun R w' => .cons Kd (.cons (.sc rfl) .nil)⟩
 ·exact hc.elim
end Go.Eng
set_option maxRecDepth 20000
namespace Go.Eng
open Go.IntWalk
theorem Jn (x:UInt8):((lO x ((4:UInt64)).toNat).toNat:Int).toNat=x.toNat / 16:=by
 have:=x.toNat_lt
 simp [lO,UInt8.toNat_ofNat'];omega
theorem Gx (x:UInt8):(((x &&& (15:UInt8))).toNat:Int).toNat=x.toNat % 16:=by
 have:x.toNat &&& 15=x.toNat % 16:=Nat.and_two_pow_sub_one_eq_mod x.toNat 4
 simp [UInt8.toNat_and,this]
 omega
theorem Gw (n:Nat) (h:n<16):bD (n:Int) (([48,49,50,51,52,53,54,55,56,57,97,98,99,100,101,102]:bz)).length=true:=by simp [bD];omega
theorem cD.cO (b:bz) (hb:b.length≤1099511627776):∀(m i:Nat) (acc:bz),i+m=b.length→acc.length=2 * i→cD.l1 b (b.length:Int) i acc=some [.s (acc++mN.text (b.drop i))]:=by
 intro m
 induction m with
 | zero =>
  intro i acc hi hl
  refine cD.bX _ _ _ _ ?_
  intro v1 h1 v2 h2 v3 h3 v4 h4 v5 h5 v6 h6
  rw [ab (by omega),ae,aC (by omega)]
  simp [mN.text]
 | succ m ih =>
  intro i acc hi hl
  refine cD.bX _ _ _ _ ?_
  intro v1 h1 v2 h2 v3 h3 v4 h4 v5 h5 v6 h6
  rw [ak] at h1
  have hx:=v1.toNat_lt
  have e1:((v2.toNat:Nat):Int)=((v1.toNat / 16:Nat):Int):=by rw [h2];have:=Jn v1;omega
  have e2:(((v1 &&& (15:UInt8))).toNat:Int)=((v1.toNat % 16:Nat):Int):=by have:=Gx v1;omega
  rw [e1,ak] at h3
  rw [e2,ak] at h4
  have e5:v5=acc++mN.two v1:=by rw [h5,h3,h4];rfl
  rw [aa (by omega),ah,bx (bN (by omega) (by omega)),e1,e2,bx (Gw _ (by omega)),bx (Gw _ (by omega)),bx (dP (by simp;omega) (by simp;omega)),e5,show v6=((i+1:Nat):Int) by rw [h6,i64_in _ (by omega)];omega,ih _ _ (by omega) (by simp [mN.two,hl];omega),drop_cons (l:=b) (i:=i) (by omega) 0,←h1,mN.text,aE]
theorem cD.goal (b:bz) (hp:decide (b.length≤1099511627776)=true):cD.F b=some [.s (mN.text b)]:=by
 have hp:=aq hp
 refine cD.bY _ ?_
 intro v1 h1 v2 h2
 have e:pO (0:Int) v1 1=true:=by rw [h1,i64_in _ (by omega),kZ];unfold maxLen;omega
 rw [e,bU,h2]
 exact cD.cO b hp b.length 0 [] (by omega) rfl
end Go.Eng
set_option maxRecDepth 20000
namespace Go.Eng
open Go.Proofs
variable {ee:Errs}
theorem dE.ok:bC PG (cnGl ee) 272 (dE.c,dE.sg):=meets bG all_nil dE.h (fits fun ins=>by unfold dE.c;split;exact dE.goal _;trivial)
end Go.Eng
namespace Go.Eng
open Go.RowKit Go.Proofs
variable {ee:Errs}
set_option maxRecDepth 100000
set_option maxHeartbeats 1000000
theorem Fl.FI (a:Nat):Ieee.double.read (Fl.neg a)=(Ieee.double.read a).opposite:=by
 have e1:Fl.neg a % 2 ^ 63=a % 2 ^ 63:=by
  unfold Fl.neg
  rw [show 9223372036854775808=2 ^ 63 by decide,Nat.xor_mod_two_pow,Nat.mod_self,Nat.xor_zero]
 have e2:(Fl.neg a / 2 ^ 63 % 2 == 1)=!(a / 2 ^ 63 % 2 == 1):=by
  unfold Fl.neg
  rw [show 9223372036854775808=2 ^ 63 by decide,Nat.xor_div_two_pow,Nat.div_self (by decide)]
  have:=Nat.xor_mod_two_pow (a:=a / 2 ^ 63) (b:=1) (n:=1)
  rw [Nat.pow_one] at this
  rw [this]
  rcases Nat.mod_two_eq_zero_or_one (a / 2 ^ 63) with e | e <;> rw [e] <;> rfl
 have h:Ieee.double.signWeight=2 ^ 63:=rfl
 unfold Ieee.Format.read
 rw [h]
 simp only [e1,e2]
 split
 ·rfl
 ·split
  ·rfl
  ·split <;> rfl
theorem Fl.W.neg {a:Nat} {x:Int} (h:Fl.W a x):Fl.W (Fl.neg a) (-x):=by
 show Fl.WD (Ieee.double.read (Fl.neg a)) (-x)
 rw [Fl.FI]
 exact Fl.WD.opposite h
theorem E4 {R:Reach} {w:World} {x:Nat} (hx:Fl.num x=true) (hR:∀b o,R b o→b<w.heap.size) (hG:GlOK (cnGl ee) R w) :
  Calls Tryz.prog 272 #[.float .f64 x] w fun e w'=>e = .returned (.float .f64 (Fl.kU x))∧Below w.heap.size w w':=by
 refine ((dE.ok [.c (.float .f64 x)] [.c (.float .f64 (Fl.kU x))] ⟨hx,rfl⟩).2 w R [.float .f64 x] hR hG ⟨rfl,fun i y v hy hv=>?_⟩ fun i j v v' b hi=>(hi (by simp [dE.sg])).elim).mono ?_
 ·cases i with
  | zero=>cases hy;cases hv;exact .sc rfl
  | succ i=>simp at hy
 ·rintro e w' ⟨y,R',mo,ys,rfl,hx,hr,ho⟩
  refine ⟨?_,hx.os,hx.tape,hx.output,hx.size,fun k hk=>hx.heap k hk (by rintro ⟨i,v,hm,_⟩;exact hm (by simp [dE.sg]))⟩
  congr 1
  have hl:mo.length=1:=ho.len
  have j7:=ho.rep
  rw [ho.val]
  match mo,hl with
  | [y],_ =>
   have j7:iv R' w' [.c (.float .f64 (Fl.kU x))] [y]:=j7
   cases j7 with
   | cons a _=>exact a.dJ rfl
theorem SI {R:Reach} (b:Nat) (x m:Nat) (X M:Int) (w:World) (hc:w.cell? ⟨b,0,none⟩=some (.float .f64 m)) (hX:Fl.W x X) (hM:Fl.W m M) (Yz:(X.natAbs:Int)≤M) (hB:M≤9007199254740992) (hR:∀b o,R b o→b<w.heap.size) (hG:GlOK (cnGl ee) R w) :
  Calls Tryz.prog 274 #[.float .f64 x,.pointer (some ⟨b,0,none⟩)] w fun e w'=>e = .returned (.bool true)∧Below w.heap.size w w':=by
 have hn:∀w:World,(Op.unary .neg (.float .f64 m)).run Tryz.prog w = .ok (.float .f64 (Fl.neg m)) w:=fun w=>rfl
 have h1:FloatKind.f64.format.order x (Fl.neg m)=some .gt∨FloatKind.f64.format.order x (Fl.neg m)=some .eq:=by
  have e:FloatKind.f64.format.order x (Fl.neg m)=some (compare X (-M)):=Fl.ki hX hM.neg
  rw [e]
  rcases Int.lt_or_eq_of_le (show -M≤X by omega) with c | c
  ·rw [Int.compare_eq_gt.2 c];exact .inl rfl
  ·rw [←c,Int.compare_eq_eq.2 rfl];exact .inr rfl
 have h2:FloatKind.f64.format.order x m=some .lt∨FloatKind.f64.format.order x m=some .eq:=by
  have e:FloatKind.f64.format.order x m=some (compare X M):=Fl.ki hX hM
  rw [e]
  rcases Int.lt_or_eq_of_le (show X≤M by omega) with c | c
  ·rw [Int.compare_eq_lt.2 c];exact .inl rfl
  ·rw [←c,Int.compare_eq_eq.2 rfl];exact .inr rfl
 have h3:FloatKind.f64.format.order x (Fl.kU x)=some .eq:=by
  have e:FloatKind.f64.format.order x (Fl.kU x)=some (compare X X):=Fl.ki hX (hX.kU (by omega))
  rw [e,Int.compare_eq_eq.2 rfl]
 go_enter Tryz.func274,Tryz.ntmps274
 rcases h1 with h1 | h1 <;> rcases h2 with h2 | h2
 all_goals
  go_wp2_with (go_at_call 272;refine (E4 hX.num hR hG).mono ?_;rintro e w' ⟨rfl,hb⟩)
  go_ret
  exact ⟨rfl,hb⟩
theorem zV {R:Reach} {w w':World} (hR:∀b o,R b o→b<w.heap.size) (h:Below w.heap.size w w') (hG:GlOK (cnGl ee) R w):GlOK (cnGl ee) R w':=hG.dM (pg (io:=fun _=>False) hR h).dM
theorem UN {R:Reach} (z:Cx) (m:Nat) (X Y M:Int) (w:World) (hZ:Gz.Is z X Y) (hM:Fl.W m M) (hX:(X.natAbs:Int)≤M) (hY:(Y.natAbs:Int)≤M) (hB:M≤9007199254740992) (hR:∀b o,R b o→b<w.heap.size) (hG:GlOK (cnGl ee) R w) :
  Calls Tryz.prog 263 #[.complex .f64 z.1 z.2,.float .f64 m] w fun e w'=>e = .returned (.bool true)∧Below w.heap.size w w':=by
 have Yu:∀(fn:Fn) (first cap:Array Value) (w:World),(Instr.makeFunc fn first cap).run Tryz.prog w = .ok (.func fn first cap) w:=fun _ _ _ _=>rfl
 have CP:Below w.heap.size w (w.alloc (.cells #[.float .f64 m] 280)):=(Below.refl _ _).alloc (Nat.le_refl _) _
 have Il:(w.alloc (.cells #[.float .f64 m] 280)).cell? ⟨w.heap.size,0,none⟩=some (.float .f64 m):=by
  rw [World.cell?_alloc_at _ _ _ _ rfl];rfl
 have L3:(w.alloc (.cells #[.float .f64 m] 280)).heap.size=w.heap.size+1:=Array.size_push ..
 have Yp:∀(a:Array TypeId) (b:TypeId) (p q:Nat) (w:World),(Builtin.real_ a b #[.complex .f64 p q]).run Tryz.prog w = .ok (.float .f64 p) w:=fun _ _ _ _ _=>rfl
 have Yw:∀(a:Array TypeId) (b:TypeId) (p q:Nat) (w:World),(Builtin.imag_ a b #[.complex .f64 p q]).run Tryz.prog w = .ok (.float .f64 q) w:=fun _ _ _ _ _=>rfl
 have Sc:∀b o,R b o→b<(w.alloc (.cells #[.float .f64 m] 280)).heap.size:=fun b o h=>by have:=hR b o h;omega
 go_enter Tryz.func263,Tryz.ntmps263
 have Qr:=zV hR CP hG
 go_wp2_with (go_at_call 274;refine (SI (R:=R) w.heap.size z.1 m X M (w.alloc (.cells #[.float .f64 m] 280)) Il hZ.1 hM hX hB Sc Qr).mono ?RS;rintro e w2 ⟨rfl,GQ⟩)
 have Ik:w2.cell? ⟨w.heap.size,0,none⟩=some (.float .f64 m):=by
  simp only [World.cell?,GQ.block w.heap.size (by omega)]
  exact Il
 have V8:∀b o,R b o→b<w2.heap.size:=fun b o h=>Nat.lt_of_lt_of_le (Sc b o h) GQ.size
 refine (SI (R:=R) w.heap.size z.2 m Y M w2 Ik hZ.2 hM hY hB V8 (zV Sc GQ Qr)).mono ?_
 rintro e w3 ⟨rfl,NJ⟩
 go_wp2
 go_ret
 refine ⟨rfl,?_⟩
 exact ⟨NJ.os.trans (GQ.os.trans CP.os),NJ.tape.trans (GQ.tape.trans CP.tape),NJ.output.trans (GQ.output.trans CP.output),by have:=NJ.size;have:=GQ.size;omega,fun k hk=>(NJ.block k (by have:=GQ.size;omega)).trans ((GQ.block k (by omega)).trans (CP.block k hk))⟩
theorem iF.ok:bC PG (cnGl ee) 263 (iF.c,iF.sg):=iL (by kernel_rfl) fun ti kV w R xs hc ha hR hG=>by
 unfold iF.c at hc
 split at hc
 ·rename_i p q m
  obtain ⟨hp,rfl⟩:=hc
  obtain rfl:=jt ha rfl
  unfold Gz.LS at hp
  classical
  obtain ⟨X,Y,M,h1,h2,h3,h4,h5⟩:=aq hp
  refine (UN (p,q) m X Y M w h1 h2 h3 h4 h5 hR hG).mono ?_
  rintro e w' ⟨rfl,hb⟩
  exact ⟨_,rfl,hb,fun R w'=>ox (.sc rfl)⟩
 ·exact hc.elim
end Go.Eng
set_option maxRecDepth 20000
namespace Go.Eng
open Go.IntWalk
theorem cT.goal (s:bz) (c:UInt8):cT.F s c=some [.i .i64 (Lib.indexByte s c)]:=cT.dW s c
theorem fF.goal (s t:bz) (hp:decide (t.length=1)=true):fF.F s t=some [.i .i64 (Lib.indexByte s (t.getD 0 0))]:=by
 have hl:t.length=1:=aq hp
 refine fF.bY s t ?_
 intro v1 h1 v2 h2
 have e0:decide ((t.length:Int)=0)=false:=ab (by omega)
 have e1:decide ((t.length:Int)=1)=true:=aa (by omega)
 rw [e0] at h1 ⊢
 simp only [aI,aG,Bool.false_or,aZ,bU,ae] at h1 ⊢
 by_cases hs:t=s
 ·subst hs
  rw [h1,aa rfl,ah]
  obtain ⟨c,rfl⟩:∃c,t=[c]:=by
   match t,hl with
   | [c],_=>exact ⟨c,rfl⟩
  simp [Lib.indexByte]
 ·rw [h1,ab hs,ae,e1,ah,bx (bN (by omega) (by omega)),h2];rfl
theorem fE.goal (s t:bz) (hp:decide (t.length=1)=true):fE.F s t=some [.i .i64 (Lib.indexByte s (t.getD 0 0))]:=by
 refine fE.bY s t ?_
 intro v1 h1
 rw [bx hp,h1]
theorem dF.goal (s t:bz) (hp:decide (t.length=1)=true):dF.F s t=some [.b (decide (0≤Lib.indexByte s (t.getD 0 0)))]:=by
 refine dF.bY s t ?_
 intro v1 h1
 rw [bx hp,h1]
theorem eO.goal (k:Int):eO.F k=some [.s (Tree.name k)]:=by
 refine eO.bY k ?_
 intro v1 h1 v2 h2
 unfold Tree.name
 by_cases a:k=127
 ·rw [au a,aa a];rfl
 ·rw [ao a,ab a,ae]
  by_cases b:k=255
  ·rw [au b,aa b];rfl
  ·rw [ao b,ab b,ae]
   simp only [aW,bn,bU]
   by_cases c:k<0∨20≤k
   ·rw [au c,show v1=true by rw [h1];by_cases d:k<0 <;> simp [d];omega];rfl
   ·rw [ao c,show v1=false by rw [h1];by_cases d:k<0 <;> simp [d] <;> omega,ae,bx (bN (by omega) (by omega)),bx (by simp;omega),h2];rfl
end Go.Eng
set_option maxRecDepth 20000
namespace Go.Eng
open Go.IntWalk
theorem l6 (c:UInt8):∀s:bz,decide (0≤Lib.indexByte s c)=s.contains c
 | []=>by simp [Lib.indexByte]
 | b :: l=>by
  have ih:=l6 c l
  have GJ:=Lib.indexByte_ge l c
  rw [List.contains_cons,←ih]
  rw [Lib.indexByte]
  by_cases h:b=c
  ·subst h;simp
  ·rw [ao (by simpa using h),show (c == b)=false by rw [beq_eq_false_iff_ne];exact fun e=>h e.symm,Bool.false_or]
   by_cases h1:Lib.indexByte l c=-1
   ·rw [h1];rfl
   ·rw [ao (by simpa using h1),aa (by omega),aa (by omega)]
theorem dU.goal (s:bz) (plain:Bool) (hp:decide (s.length≤1099511627776)=true):dU.F s plain=some [.b (Tree.fZ s plain)]:=by
 have e:decide (0≤Lib.indexByte s (([0]:bz).getD 0 0))=fR.zero s:=l6 0 s
 refine dU.bY s plain ?_
 intro v1 h1 v2 h2
 rw [bx (Db (aq hp)),bx hp]
 rw [e] at h1
 subst h1 h2
 unfold Tree.fZ
 cases fR.whole s <;> cases plain <;> cases fR.zero s <;> rfl
theorem bB.goal (v:Val):bB.F v=some [.b (Tree.gW v)]:=by
 have J2:∀(x:Bool) (v:Val),bB.j2 x v=some [.b (x&&decide (v.bits=0)&&decide (v.high=0)&&decide (v.low=0)&&decide (v.text=[])&&decide (v.more=[])&&decide (v.sub=0)&&decide (v.bytes=[])&&decide (v.kids=[]))]:=by
  intro x v
  refine bB.jx x v ?_
  intro v1 h1 v2 h2 v3 h3 v4 h4 v5 h5 v6 h6 v7 h7 v8 h8 v9 h9 v10 iS
  simp only [aW,bU]
  have e1:decide (v7=0)=decide (v.bytes=[]):=by rw [h7,aS];simp
  have e2:decide (v9=0)=decide (v.kids=[]):=by rw [h9,aS];simp
  rw [e1] at h8
  rw [e2] at iS
  subst h1 h2 h3 h4 h5 h6 h8 iS
  simp only [Bool.cond_false_right]
 have J3:∀(x0:Bool) (x1:Int) (x2:Bool) (x3:Val),bB.j3 x0 x1 x2 x3=cond x2
  (bB.j2 x0 (Val.mk (Val.kind x3) (Val.bits x3) (Val.high x3) (Val.low x3) ([]:bz) (Val.more x3) (Val.sub x3) (Val.bytes x3) (Val.kids x3)))
  (cond (decide (x1=(11:Int)))
  (bB.j2 x0 (Val.mk (Val.kind x3) (Val.bits x3) (Val.high x3) (Val.low x3) ([]:bz) ([]:bz) (Val.sub x3) (Val.bytes x3) (Val.kids x3)))
  (cond (decide (x1=(5:Int)))
  (bB.j2 (decide (0≤x3.sub)&&decide (x3.sub≤255)) (Val.mk (Val.kind x3) (Val.bits x3) (Val.high x3) (Val.low x3) (Val.text x3) (Val.more x3) (0:Int) ([]:List UInt8) (Val.kids x3)))
  (cond (decide (x1=(7:Int)))
  (bB.j2 (decide (x3.bytes.length=12)) (Val.mk (Val.kind x3) (Val.bits x3) (Val.high x3) (Val.low x3) (Val.text x3) (Val.more x3) (Val.sub x3) ([]:List UInt8) (Val.kids x3)))
  (cond (decide (x1=(12:Int)))
  (bB.j2 (decide (x3.bytes.length=12)) (Val.mk (Val.kind x3) (Val.bits x3) (Val.high x3) (Val.low x3) ([]:bz) (Val.more x3) (Val.sub x3) ([]:List UInt8) (Val.kids x3)))
  (cond (decide (x1=(3:Int)))
  (bB.j4 x0 x1 (decide (x1=(3:Int))) x3)
  (bB.j4 x0 x1 (decide (x1=(4:Int))) x3)))))):=by
  intro x0 x1 x2 x3
  refine bB.qw x0 x1 x2 x3 ?_
  intro v1 h1 v2 h2
  have e:decide (v2=12)=decide (x3.bytes.length=12):=by rw [h2,aS];simp;omega
  simp only [aW,bU,e,h1,Bool.cond_false_right]
 obtain ⟨k,b,hi,lo,t,m,s,y,ks⟩:=v
 simp only [bB.dW,bB.lg,J3,bB.wi,J2,Tree.gW,Tree.nO]
 by_cases a1:k=1
 ·subst a1;simp;grind
 by_cases a2:k=2
 ·subst a2;simp;grind
 by_cases a3:k=3
 ·subst a3;simp;grind
 by_cases a4:k=4
 ·subst a4;simp;grind
 by_cases a5:k=5
 ·subst a5;simp;grind
 by_cases a7:k=7
 ·subst a7;simp;grind
 by_cases a8:k=8
 ·subst a8;simp;grind
 by_cases a9:k=9
 ·subst a9;simp;grind
 by_cases T8:k=11
 ·subst T8;simp;grind
 by_cases a12:k=12
 ·subst a12;simp;grind
 by_cases T7:k=13
 ·subst T7;simp;grind
 by_cases T6:k=14
 ·subst T6;simp;grind
 by_cases T5:k=15
 ·subst T5;simp;grind
 by_cases T4:k=16
 ·subst T4;simp;grind
 by_cases T3:k=17
 ·subst T3;simp;grind
 by_cases T2:k=18
 ·subst T2;simp;grind
 by_cases T1:k=19
 ·subst T1;simp;grind
 simp [a1,a2,a3,a4,a5,a7,a8,a9,T8,a12,T7,T6,T5,T4,T3,T2,T1];grind
end Go.Eng
set_option maxRecDepth 20000
namespace Go.Eng
open Go.IntWalk
theorem Nj.lens (v:Val) (n:bz) (m:Nat) (h:bA.bJ (bA.of n v)≤m):v.text.length≤m∧v.more.length≤m∧n.length≤m∧v.bytes.length≤m∧bA.cm v.kids+1≤m:=by
 simp only [bA.of,bA.bJ] at h;omega
theorem bA.HH (f:bA):1≤f.bJ:=by cases f;simp only [bA.bJ];omega
theorem bA.rY:∀(l:List bA) (i:Nat) (d:bA),i<l.length→(l.getD i d).bJ≤bA.cm l
 | f :: l,0,d,_=>by simp [bA.cm]
 | f :: l,i+1,d,h=>by
  have:=bA.rY l i d (by simpa using h)
  simp only [List.getD_cons_succ,bA.cm];omega
theorem bA.wP:∀(l:List bA),l.length≤bA.cm l
 | []=>by simp
 | f :: l=>by have:=bA.wP l;have:=bA.HH f;simp only [az,bA.cm];omega
theorem bA.LB (f:bA):bA.of f.name f.val=f:=by cases f;rfl
theorem bA.HG (f:bA):bA.bJ (bA.of [] f.val)≤f.bJ:=by cases f;simp only [bA.of,bA.val,bA.bJ,bA.kind,bA.bits,bA.high,bA.low,bA.text,bA.more,bA.sub,bA.bytes,bA.kids];simp
theorem Ff (v:Val) (n:bz):Tree.oC v n=(if Tree.name v.kind=[] then 5 else if Tree.gW v=false then 1 else if Tree.fZ v.text (decide (v.kind=11))=false∨Tree.fZ v.more (decide (v.kind=11))=false∨Tree.fZ n true=false then 4 else 0):=by
 unfold Tree.oC Tree.own
 grind
theorem Tree.JN (n:bz) (v:Val) (p:List Int):Tree.gQ (bA.of n v) p=if Tree.oC v n≠0 then (p,Tree.oC v n) else Tree.ka v.kids 0 p:=by
 cases v;simp only [bA.of,Tree.gQ]
theorem b9.cO (n:Nat) (ks:List bA) (p:List Int) (hb:bA.cm ks+p.length<1099511627776) (hn:bA.cm ks<n):∀(m i:Nat),i+m=ks.length →
  b9.l1 n ks (ks.length:Int) i p=some [.sl .is (Tree.ka (ks.drop i) i p).1,.i .i64 (Tree.ka (ks.drop i) i p).2,.sl .is p]:=by
 have hlen:=bA.wP ks
 intro m
 induction m with
 | zero =>
  intro i hi
  refine b9.bX _ _ _ _ _ ?_
  intro v1 h1 v2 h2 v3 h3 v4 h4
  rw [ab (by omega),ae,aC (by omega)];rfl
 | succ m ih =>
  intro i hi
  refine b9.bX _ _ _ _ _ ?_
  intro v1 h1 v2 h2 v3 h3 v4 h4
  rw [ak] at h1
  have hg:=bA.rY ks i (fx.gm .fl) (by omega)
  rw [←h1] at hg
  rw [bA.LB] at h2 h3 ⊢
  rw [aa (by omega),ah,bx (bN (by omega) (by omega)),bx (dP (by simp;omega) (by simp;omega)),aa (by simp;omega),aa (by omega),aZ,bU,drop_cons (l:=ks) (i:=i) (by omega) (fx.gm .fl),←h1,Tree.ka]
  by_cases h:v3=0
  ·rw [aa h,ao (by rw [h3] at h;simpa using h)]
   simp only [aG,ae]
   rw [show v4=((i+1:Nat):Int) by rw [h4,i64_in _ (by omega)];omega,ih _ (by omega)]
  ·rw [ab h,au (by rw [h3] at h;simpa using h)]
   simp only [aI,ah]
   rw [h2,h3]
theorem b9.goal (n:Nat) (v:Val) (name:bz) (path:List Int) (hp:((decide (bA.bJ (bA.of name v)+path.length≤1099511627776))&&decide ((bA.bJ (bA.of name v))<n+1))=true) :
  b9.F n v name path=some [.sl .is (Tree.gQ (bA.of name v) path).1,.i .i64 (Tree.gQ (bA.of name v) path).2,.sl .is path]:=by
 simp only [af,aA] at hp
 obtain ⟨hp,hn⟩:=hp
 obtain ⟨b1,b2,b3,_,_⟩:=Nj.lens v name 1099511627776 (by omega)
 have OO:bA.cm v.kids<bA.bJ (bA.of name v):=by simp only [bA.of,bA.bJ];omega
 refine b9.bY n v name path ?_
 intro v1 h1 v2 h2 v3 h3 v4 h4
 rw [Tree.JN,Ff]
 simp only [aW,bn,aZ,bU,aa b1,aa b2,aa b3,Bool.and_true]
 have V2:fi path.length 8=true:=dP (by omega) (by omega)
 simp only [V2,bU]
 by_cases a:Tree.name v.kind=[]
 ·rw [aa a];simp [a]
 ·rw [ab a,ae]
  by_cases b:Tree.gW v=false
  ·rw [b];simp [a]
  ·have b':Tree.gW v=true:=by simpa using b
   rw [b']
   have e3:v3=decide (Tree.fZ v.text (decide (v.kind=11))=false∨Tree.fZ v.more (decide (v.kind=11))=false∨Tree.fZ name true=false):=by
    subst h1 h2 h3
    cases Tree.fZ v.text (decide (v.kind=11)) <;> cases Tree.fZ v.more (decide (v.kind=11)) <;> cases Tree.fZ name true <;> rfl
   rw [e3,h4]
   by_cases c:Tree.fZ v.text (decide (v.kind=11))=false∨Tree.fZ v.more (decide (v.kind=11))=false∨Tree.fZ name true=false
   ·rw [aa c];simp [a,c]
   ·rw [ab c]
    simp only [aG,ae,ao a,ao c]
    have:=b9.cO n v.kids path (by omega) (by omega) v.kids.length 0 (by omega)
    rw [bh] at this
    simpa using this
theorem dC.goal (v:Val) (hp:decide (bA.bJ (bA.of [] v)≤1099511627776)=true):dC.F v=some [.sl .is (Tree.gQ (bA.of [] v) []).1,.i .i64 (Tree.gQ (bA.of [] v) []).2]:=by
 refine dC.bY v ?_
 intro v1 h1 v2 h2
 rw [bx (by simpa using hp),h1,h2]
end Go.Eng
set_option maxRecDepth 20000
namespace Go.Eng
open Go.IntWalk
theorem bQ.cO (a b:List Int) (hl:a.length=b.length) (hb:a.length<9223372036854775807):∀(m i:Nat),i+m=a.length→bQ.l1 a b i=some [.b (decide (a.drop i=b.drop i))]:=by
 intro m
 induction m with
 | zero =>
  intro i hi
  refine bQ.bX _ _ _ ?_
  intro v1 h1 v2 h2 v3 h3
  rw [ab (by omega),ae,aC (by omega),aC (by omega)];rfl
 | succ m ih =>
  intro i hi
  refine bQ.bX _ _ _ ?_
  intro v1 h1 v2 h2 v3 h3
  rw [ak] at h1 h2
  rw [aa (by omega),ah,bx (bN (by omega) (by omega)),bx (bN (by omega) (by omega)),drop_cons (l:=a) (i:=i) (by omega) 0,drop_cons (l:=b) (i:=i) (by omega) 0,←h1,←h2]
  by_cases h:v1=v2
  ·rw [aa h]
   simp only [aG,ae]
   rw [show v3=((i+1:Nat):Int) by rw [h3,i64_in _ (by omega)];omega,ih _ (by omega)]
   simp [h]
  ·rw [ab h];simp [h]
theorem bQ.goal (a b:List Int) (hp:decide (a.length≤1099511627776)=true):bQ.F a b=some [.b (decide (a=b))]:=by
 have hp:=aq hp
 rw [bQ.dW]
 by_cases hl:a.length=b.length
 ·rw [aa (by omega)]
  have:=bQ.cO a b hl (by omega) a.length 0 (by omega)
  simpa using this
 ·rw [ab (by omega),ab (fun e=>hl (by rw [e]))];rfl
end Go.Eng
set_option maxRecDepth 20000
namespace Go.Eng
open Go.IntWalk
theorem bS.cO (l:List bA) (hb:l.length≤1099511627776):∀(m i:Nat),i+m=l.length→bS.l1 l (l.length:Int) i=some [.b (Tree.ju i (l.drop i))]:=by
 intro m
 induction m with
 | zero =>
  intro i hi
  refine bS.bX _ _ _ ?_
  intro v1 h1 v2 h2
  rw [ab (by omega),ae,aC (by omega)];rfl
 | succ m ih =>
  intro i hi
  refine bS.bX _ _ _ ?_
  intro v1 h1 v2 h2
  rw [ak] at h1
  rw [aa (by omega),ah,bx (bN (by omega) (by omega)),bx (show Nr.i64 (i:Int)=true from aa (by omega)),←sU,show v2=((i+1:Nat):Int) by rw [h2,i64_in _ (by omega)];omega,ih _ (by omega),drop_cons (l:=l) (i:=i) (by omega) (fx.gm .fl),←h1,Tree.ju,Gt]
  by_cases a:v1.name=iT i
  ·rw [aa a];rfl
  ·rw [ab a];rfl
theorem bS.goal (l:List bA) (hp:decide (l.length≤1099511627776)=true):bS.F l=some [.b (Tree.regular l)]:=by
 rw [bS.dW]
 exact bS.cO l (aq hp) l.length 0 (by omega)
end Go.Eng
set_option maxRecDepth 20000
namespace Go.Eng
open Go.IntWalk
theorem cX.cO (jm:List Int) (hl:jm.length≤10) (hs:∀s∈jm,0≤s):∀(m i:Nat) (left:Int),i+m=jm.length→left≤1200→cX.l1 left jm i=some [.i .i64 (fu.room left (jm.drop i))]:=by
 intro m
 induction m with
 | zero =>
  intro i left hi hle
  refine cX.bX _ _ _ ?_
  intro v1 h1 v2 h2 v3 h3
  rw [ab (by omega),ae,aC (by omega)];rfl
 | succ m ih =>
  intro i left hi hle
  refine cX.bX _ _ _ ?_
  intro v1 h1 v2 h2 v3 h3
  rw [ak] at h1
  have h0:0≤v1:=hs v1 (by rw [h1,ai,ar (show i<jm.length by omega)];simp)
  rw [aa (by omega),ah,show bD (i:Int) jm.length=true from bN (by omega) (by omega),drop_cons (l:=jm) (i:=i) (by omega) 0,←h1,fu.room]
  simp only [aZ,Bool.and_true,aW,bn,bU]
  by_cases a:left<0∨left<v1
  ·rw [au a,show v2=true by rw [h2];by_cases b:left<0 <;> simp [b];omega];rfl
  ·rw [ao a,show v2=false by rw [h2];by_cases b:left<0 <;> simp [b] <;> omega,ae,show v3=((i+1:Nat):Int) by rw [h3,i64_in _ (by omega)];omega,i64_in _ (by omega),ih _ _ (by omega) (by omega)]
theorem cX.goal (left:Int) (jm:List Int) (hp:(decide (left≤1200∧jm.length≤10)&&jm.all (fun s=>decide (0≤s)))=true):cX.F left jm=some [.i .i64 (fu.room left jm)]:=by
 simp only [af,aA,aD] at hp
 rw [cX.dW]
 exact cX.cO jm hp.1.2 hp.2 jm.length 0 left (by omega) hp.1.1
theorem fu.Kc (left a:Int) (ha:0≤a) (hl:left≤1200):fu.room left [a]≤1200∧(fu.room left [a]=-1∨(fu.room left [a]=left - a∧0≤left - a)):=by
 simp only [fu.room];split <;> omega
theorem fu.Kb (left a b c d:Int) (ha:0≤a) (hb:0≤b) (hc:0≤c) (hd:0≤d) (hl:left≤1200) :
  fu.room left [a,b,c,d]≤1200∧(fu.room left [a,b,c,d]=-1∨(fu.room left [a,b,c,d]=left - a - b - c - d∧0≤left - a - b - c - d)):=by
 simp only [fu.room]
 split
 ·omega
 ·split
  ·omega
  ·split
   ·omega
   ·split <;> omega
mutual
theorem fu.tD:∀(f:bA) (left:Int),left≤1200→fu.value left f≤1200∧(0≤fu.value left f→(bA.bJ f:Int) - f.name.length≤left - fu.value left f)
 | .mk n k b h l t m s y ks,left,hl=>by
  have h1:=fu.Kb left 2 t.length m.length y.length (by omega) (by omega) (by omega) (by omega) hl
  have h2:=fu.vA ks (fu.room left [2,(t.length:Int),(m.length:Int),(y.length:Int)]) h1.1
  simp only [fu.value,bA.bJ,bA.name]
  refine ⟨h2.1,fun h0=>?_⟩
  rcases h1.2 with e | ⟨e,e0⟩
  ·have:=h2.2.2 (by omega);omega
  ·have:=h2.2.1 h0;omega
theorem fu.vA:∀(ks:List bA) (left:Int),left≤1200→fu.values left ks≤1200∧(0≤fu.values left ks→(bA.cm ks:Int)≤left - fu.values left ks)∧(left<0→fu.values left ks<0)
 | [],left,hl=>by simp only [fu.values,bA.cm];omega
 | f :: r,left,hl=>by
  simp only [fu.values,bA.cm]
  by_cases h:left<0
  ·rw [au h];omega
  ·rw [ao h]
   have h1:=fu.Kc left f.name.length (by omega) hl
   have h2:=fu.tD f (fu.room left [(f.name.length:Int)]) h1.1
   have h3:=fu.vA r (fu.value (fu.room left [(f.name.length:Int)]) f) h2.1
   refine ⟨h3.1,fun h0=>?_,fun h0=>by omega⟩
   have h4:=h3.2.1 h0
   have h5:0≤fu.value (fu.room left [(f.name.length:Int)]) f:=by
    by_cases h6:fu.value (fu.room left [(f.name.length:Int)]) f<0
    ·have:=h3.2.2 h6;omega
    ·omega
   have h7:=h2.2 h5
   have hb:(f.name.length:Int)≤bA.bJ f:=by cases f;simp only [bA.name,bA.bJ];omega
   rcases h1.2 with e | ⟨e,e0⟩
   ·omega
   ·omega
end
theorem fu.A2 (v:Val) (h:0≤fu.value 1200 (bA.of [] v)):bA.bJ (bA.of [] v)≤1200:=by
 have:=(fu.tD (bA.of [] v) 1200 (by omega)).2 h
 have hn:(bA.of [] v).name=[]:=rfl
 rw [hn] at this
 simp at this;omega
theorem fu.Dk (left:Int) (f:bA):fu.value left (bA.of [] f.val)=fu.value left f:=by cases f;rfl
theorem fu.E5 (f:bA) (left:Int) (hl:left≤1200) (h0:0≤fu.value left f):fu.value left f+1≤left:=by
 have:=(fu.tD f left hl).2 h0
 have hb:(f.name.length:Int)+1≤bA.bJ f:=by cases f;simp only [bA.name,bA.bJ];omega
 omega
theorem cd.cO (n:Nat) (v:Val) (hn:bA.cm v.kids<n):∀(m i:Nat) (left:Int),i+m=v.kids.length→(i:Int)+left≤1200 →
  cd.l1 n left i v=some [.i .i64 (fu.values left (v.kids.drop i))]:=by
 intro m
 induction m with
 | zero =>
  intro i left hi hle
  refine cd.bX _ _ _ _ ?_
  intro v1 h1 v2 h2 v3 h3 v4 h4 v5 h5 v6 h6 v7 h7
  simp only [aW,bU]
  rw [show v2=false by rw [h2,ab (by omega)];rfl,ae,aC (by omega)];rfl
 | succ m ih =>
  intro i left hi hle
  refine cd.bX _ _ _ _ ?_
  intro v1 h1 v2 h2 v3 h3 v4 h4 v5 h5 v6 h6 v7 h7
  rw [ak] at h3
  have hg:=bA.rY v.kids i (fx.gm .fl) (by omega)
  rw [←h3] at hg
  have hv:=bA.HG v3
  have r1:=fu.Kc left v4 (by omega) (by omega)
  rw [←h5] at r1
  have r2:=fu.E5 v3 v5 r1.1
  rw [fu.Dk] at h6
  simp only [aW,bU]
  rw [drop_cons (l:=v.kids) (i:=i) (by omega) (fx.gm .fl),←h3,fu.values]
  by_cases h:left<0
  ·rw [au h,show v2=false by rw [h2,ab (show ¬0≤left by omega)];simp];rfl
  ·have r3:(i:Int)+1+v6≤1200:=by
    rw [h6]
    by_cases hx:0≤fu.value v5 v3
    ·have:=r2 hx;omega
    ·omega
   rw [ao h,show v2=true by rw [h2,aa (by omega),aa (by omega)];rfl,ah,bx (bN (by omega) (by omega)),bx (by simp;omega),bx (bN (by omega) (by omega)),aa r1.1,aa (by omega),aZ,bU,
    show v7=((i+1:Nat):Int) by rw [h7,i64_in _ (by omega)];omega,ih _ _ (by omega) (by omega),h6,h5,h4]
theorem cd.goal (n:Nat) (left:Int) (v:Val) (hp:((decide (left≤1200))&&decide ((bA.bJ (bA.of [] v))<n+1))=true):cd.F n left v=some [.i .i64 (fu.value left (bA.of [] v))]:=by
 simp only [af,aA] at hp
 obtain ⟨hl,hn⟩:=hp
 have OO:bA.cm v.kids<bA.bJ (bA.of [] v):=by simp only [bA.of,bA.bJ];omega
 refine cd.bY n left v ?_
 intro v1 h1 v2 h2 v3 h3 v4 h4
 have r:=fu.Kb left 2 v1 v2 v3 (by omega) (by omega) (by omega) (by omega) hl
 rw [←h4] at r
 rw [bx (by rw [h4];simp;omega)]
 have key:=cd.cO n v (by omega) v.kids.length 0 (fu.room left v4) (by omega) (by omega)
 rw [bh] at key
 refine key.trans ?_
 rw [h4,h1,h2,h3]
 rfl
theorem dV.goal (v:Val):dV.F v=some [.b (decide (0≤fu.value 1200 (bA.of [] v)))]:=by
 refine dV.bY v ?_
 intro v1 h1
 rw [bx (by decide),h1]
end Go.Eng
