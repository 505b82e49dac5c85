/- Texts of my own, one behind the other: CnM2, CnM3, CnM4, CnM5, CnN5, CnM6, CnS1, CnS2, CnQ4, CnQ5, CnQ6, CnQ7, CnQ8, CnUtfP, CnQ9, CnQ10, CnQ11, CnQ12, CnS3, CnS4, CnS5, CnFlip, CnQ13, CnQ14, CnA, CnOKT, CnWhole, CnHx, CnTreeP1, CnTreeP2, CnTreeP3, CnTreeP4, CnRegP, CnBookP, CnS6, CnOK, CnOKA, CnLApart, CnBk, CnJd1, CnJd2, CnJd3, CnJd4, CnJd5, CnJpPure. -/
import Derived.Test.YtokfjcnbmpabkaaGreatDoorT4
import Derived.WalkKit
import Derived.WalkSpells
import Derived.IntWalk
set_option linter.unusedVariables false
set_option linter.unusedSimpArgs false
set_option maxRecDepth 20000
namespace Go.Eng
namespace Sh
open Nr (V mG sh top gZ rd mK fZ)
theorem rQ {b:Nat} (h:0<b) (k:Int):0<tB b k:=Nat.mul_pos h (Nr.eM _)
theorem F4 {p:Nat} (hp:0<p) (ht:p≤top) (x n:Int) (K:Nat) (hK:iP p * K=V p * fY p) (Tj:K=2 ^ 1074) (N:Nat):rd N (x - n)=some p ↔
  (2 * (N * tB (fY p) (n - x) * K)<2 * (tA (iP p) (n - x) * K)+2 ^ sh p * 10 ^ (n - x).toNat * fY p∨(2 * (N * tB (fY p) (n - x) * K)=2 * (tA (iP p) (n - x) * K)+2 ^ sh p * 10 ^ (n - x).toNat * fY p∧p % 2=0)) ∧
  (2 * (tA (iP p) (n - x) * K)<2 * (N * tB (fY p) (n - x) * K)+2 ^ sh (p - 1) * 10 ^ (n - x).toNat * fY p∨(2 * (tA (iP p) (n - x) * K)=2 * (N * tB (fY p) (n - x) * K)+2 ^ sh (p - 1) * 10 ^ (n - x).toNat * fY p∧p % 2=0)):=by
 rw [zd hp,←Tj]
 have hb:=jC p
 rw [show (-(x - n))=n - x by omega]
 obtain ⟨u1,u2⟩:=unit_eq (S:=10 ^ (x - n).toNat) (T:=10 ^ (n - x).toNat) (Q:=tB (fY p) (n - x)) (P:=tA (iP p) (n - x)) hK rfl (by unfold tB;rw [show (-(n - x))=x - n by omega]) N
 rw [u2,←u1]
 have m1:mK p=2 * V p+2 ^ sh p:=by rw [Nr.kH,Nr.tm];omega
 have m2:2 * V p=mK (p - 1)+2 ^ sh (p - 1):=by
  have:=(D8 hp).2
  rw [Nr.kH,show p - 1+1=p by omega];omega
 generalize 10 ^ (n - x).toNat=T
 generalize hX:N * 10 ^ (x - n).toNat * K=X
 have c1:mK p * T * fY p=2 * (V p * T * fY p)+2 ^ sh p * T * fY p:=by rw [m1];simp only [Nat.add_mul,Nat.mul_assoc]
 have c2:2 * (V p * T * fY p)=mK (p - 1) * T * fY p+2 ^ sh (p - 1) * T * fY p:=by
  have:2 * (V p * T * fY p)=2 * V p * T * fY p:=by simp only [Nat.mul_assoc]
  rw [this,m2];simp only [Nat.add_mul]
 have c3:2 * (X * fY p)=2 * X * fY p:=by rw [Nat.mul_assoc]
 rw [c3,c2,Nat.add_lt_add_iff_right,Nat.add_right_cancel_iff,←c2,←c1]
 rw [Nat.mul_lt_mul_right hb,Nat.mul_lt_mul_right hb]
 have e1:2 * X * fY p=mK p * T * fY p ↔ 2 * X=mK p * T:=⟨Nat.eq_of_mul_eq_mul_right hb,fun h=>by rw [h]⟩
 have e2:mK (p - 1) * T * fY p=2 * X * fY p ↔ mK (p - 1) * T=2 * X:=⟨Nat.eq_of_mul_eq_mul_right hb,fun h=>by rw [h]⟩
 rw [e1,e2]
 exact ⟨fun h=>h.2,fun h=>⟨ht,h⟩⟩
theorem wz {a b:Nat} {y k m:Int} (hm:0≤m) (h:m=y+k):(10 ^ y.toNat * b≤a * 10 ^ (-y).toNat→10 ^ m.toNat * tB b k≤tA a k)∧(a * 10 ^ (-y).toNat<10 ^ y.toNat * b→tA a k<10 ^ m.toNat * tB b k):=by
 have he:m.toNat+(-k).toNat+(-y).toNat=y.toNat+k.toNat:=by omega
 have l:10 ^ m.toNat * tB b k * 10 ^ (-y).toNat=10 ^ y.toNat * b * 10 ^ k.toNat:=by
  unfold tB
  rw [←Nat.mul_assoc,Nat.mul_right_comm (10 ^ m.toNat),←Nat.pow_add,Nat.mul_right_comm,←Nat.pow_add,he,Nat.pow_add,Nat.mul_right_comm]
 have r:tA a k * 10 ^ (-y).toNat=a * 10 ^ (-y).toNat * 10 ^ k.toNat:=by unfold tA;rw [Nat.mul_right_comm]
 have h1:=Nr.eM (-y).toNat
 have h2:=Nr.eM k.toNat
 constructor
 ·intro h
  refine Nat.le_of_mul_le_mul_right ?_ h1
  rw [l,r];exact ak _ h
 ·intro h
  refine Nat.lt_of_mul_lt_mul_right (a:=10 ^ (-y).toNat) ?_
  rw [l,r];exact Nat.mul_lt_mul_of_pos_right h h2
theorem oF {p:Nat} (hp:0<p) {n:Int} (hn:1≤n):10 ^ (n - 1).toNat * tB (fY p) (n - dx p)≤tA (iP p) (n - dx p)∧tA (iP p) (n - dx p)<10 ^ n.toNat * tB (fY p) (n - dx p):=by
 obtain ⟨h1,h2⟩:=AS hp
 exact ⟨(wz (y:=dx p - 1) (k:=n - dx p) (m:=n - 1) (by omega) (by omega)).1 h1,(wz (y:=dx p) (k:=n - dx p) (m:=n) (by omega) (by omega)).2 h2⟩
theorem qO {p a b:Nat} {x n:Int} (h:rd (tA a (n - x) / tB b (n - x)) (x - n)=some p∨rd (tA a (n - x) / tB b (n - x)+1) (x - n)=some p):(some_ p a b x n).isSome=true:=by
 unfold some_
 simp only
 split
 ·rename_i c;exact c.1
 ·rename_i c
  rcases h with h | h
  ·by_cases h2:rd (tA a (n - x) / tB b (n - x)+1) (x - n)=some p
   ·rw [mj h2];rfl
   ·exact (c ⟨by rw [mj h];rfl,.inl (by rw [oj h2];rfl)⟩).elim
  ·rw [mj h];rfl
theorem IB {p:Nat} (hp:0<p) (ht:p≤top):(some_ p (iP p) (fY p) (dx p) 17).isSome=true:=by
 obtain ⟨r1,r2⟩:=oF hp (n:=17) (by omega)
 have hQ:=rQ (jC p) (17 - dx p)
 obtain ⟨K,hK⟩:∃K,K=2 ^ 1074:=⟨_,rfl⟩
 have QL:0<K:=by rw [hK];exact Nat.two_pow_pos 1074
 have Cq:=Ff p
 rw [←hK] at Cq
 have gd:=(D8 hp).1
 have gu:=(JO p).1
 have ru:=F4 hp ht (dx p) 17 K Cq hK
 have Tg:tA (iP p) (17 - dx p) * K=V p * 10 ^ (17 - dx p).toNat * fY p:=by
  unfold tA;rw [Nat.mul_right_comm,Cq,Nat.mul_right_comm]
 refine qO ?_
 have hT:0<10 ^ (17 - dx p).toNat * fY p:=Nat.mul_pos (Nr.eM _) (jC p)
 have bd:V p * 10 ^ (17 - dx p).toNat * fY p≤9007199254740992 * (2 ^ sh (p - 1) * 10 ^ (17 - dx p).toNat * fY p):=by
  rw [Nat.mul_assoc (V p),Nat.mul_assoc (2 ^ sh (p - 1)),←Nat.mul_assoc 9007199254740992]
  exact ak _ gd
 have bu:V p * 10 ^ (17 - dx p).toNat * fY p<9007199254740992 * (2 ^ sh p * 10 ^ (17 - dx p).toNat * fY p):=by
  rw [Nat.mul_assoc (V p),Nat.mul_assoc (2 ^ sh p),←Nat.mul_assoc 9007199254740992]
  exact Nat.mul_lt_mul_of_pos_right gu hT
 rw [←Tg] at bd bu
 generalize tA (iP p) (17 - dx p)=P at *
 generalize tB (fY p) (17 - dx p)=Q at *
 generalize 2 ^ sh (p - 1) * 10 ^ (17 - dx p).toNat * fY p=D at *
 generalize 2 ^ sh p * 10 ^ (17 - dx p).toNat * fY p=G at *
 have NB:(10:Nat) ^ ((17:Int) - 1).toNat=10000000000000000:=by decide
 rw [NB] at r1
 have hr:=Nat.mod_lt P hQ
 have JC:=Nat.div_add_mod P Q
 have q1:10000000000000000 * (Q * K)≤P * K:=by rw [←Nat.mul_assoc];exact ak K r1
 have U1:0<Q * K:=Nat.mul_pos hQ QL
 have Tf:P * K=P / Q * Q * K+P % Q * K:=by rw [←Nat.add_mul,Nat.mul_comm (P / Q)];rw [JC]
 have UM:P % Q * K<Q * K:=Nat.mul_lt_mul_of_pos_right hr QL
 by_cases c:2 * (P % Q)≤Q
 ·left
  have c':2 * (P % Q * K)≤Q * K:=by rw [←Nat.mul_assoc];exact ak K c
  rw [ru]
  exact ⟨.inl (by omega),.inl (by omega)⟩
 ·right
  have c':Q * K≤2 * (P % Q * K):=by rw [←Nat.mul_assoc];exact ak K (by omega)
  have hN:(P / Q+1) * Q * K=P / Q * Q * K+Q * K:=by rw [Nat.add_mul,Nat.add_mul,Nat.one_mul]
  rw [ru,hN]
  exact ⟨.inl (by omega),.inl (by omega)⟩
theorem tg {a b c d p:Nat} (hb:0<b) (hd:0<d) (h:a * d≤c * b) (h1:fZ a b p):fZ c d p:=by
 unfold fZ at h1 ⊢
 have h2:mK p * b * d≤a * Nr.ig * d:=ak _ (by omega)
 have h3:a * Nr.ig * d≤c * Nr.ig * b:=by
  rw [Nat.mul_right_comm,Nat.mul_right_comm c];exact ak _ h
 have h4:mK p * d * b=mK p * b * d:=Nat.mul_right_comm ..
 have h5:mK p * d * b≤c * Nr.ig * b:=by omega
 have h6:=Nat.le_of_mul_le_mul_right h5 hb
 rcases h1 with h1 | ⟨h1,h7⟩
 ·left
  refine Nat.lt_of_mul_lt_mul_right (a:=b) ?_
  have:=Nat.mul_lt_mul_of_pos_right h1 hd
  omega
 ·rcases Nat.lt_or_eq_of_le h6 with h8 | h8
  ·exact .inl h8
  ·exact .inr ⟨h8,h7⟩
theorem oW {a b c d e f p:Nat} (hb:0<b) (hd:0<d) (hf:0<f) (h1:gZ a b=some p) (h2:gZ c d=some p) (g1:a * f≤e * b) (g2:e * d≤c * f):gZ e f=some p:=by
 obtain ⟨a1,a2,a3⟩:=(ni hb).1 h1
 obtain ⟨b1,b2,b3⟩:=(ni hd).1 h2
 refine (ni hf).2 ⟨a1,fun h=>b2 (tg hf hd g2 h),?_⟩
 rcases a3 with h | h
 ·exact .inl h
 ·exact .inr (tg hb hf g1 h)
theorem zk {p:Nat} (ht:p≤top):gZ (iP p) (fY p)=some p:=by
 classical
 have h:=Ff p
 have hb:=jC p
 have e:=Nr.mul_two (a:=iP p) Nr.jJ
 have hv:=Nat.mul_lt_mul_of_pos_right (Nr.kC p) hb
 refine (ni hb).2 ⟨ht,?_,?_⟩
 ·unfold fZ
  rw [e,h,Nr.kH,Nat.add_mul]
  omega
 ·by_cases c:p=0
  ·exact .inl c
  ·right
   left
   have hv:=Nat.mul_lt_mul_of_pos_right (Nr.kC (p - 1)) hb
   rw [show p - 1+1=p by omega] at hv
   rw [e,h,Nr.kH,Nat.add_mul,show p - 1+1=p by omega]
   omega
end Sh
end Go.Eng
set_option maxRecDepth 20000
namespace Go.Eng
namespace Sh
open Nr (V mG sh top gZ rd mK fZ)
theorem go_hit {p f i:Nat} {r:bz × Int} (h:some_ p (iP p) (fY p) (dx p) i=some r):go p (f+1) i=r:=by rw [go_succ,h];rfl
theorem go_miss {p f i:Nat} (h:some_ p (iP p) (fY p) (dx p) i=none):go p (f+1) i=go p f (i+1):=by rw [go_succ,h];rfl
theorem go_some {p:Nat} {r:bz × Int} {n:Nat} (h4:some_ p (iP p) (fY p) (dx p) n=some r):∀(m i f:Nat),i+m=n→m<f→(∀j:Nat,i≤j→j<n→some_ p (iP p) (fY p) (dx p) j=none)→go p f i=r:=by
 intro m
 induction m with
 | zero =>
  intro i f h1 h2 h3
  have h1:i=n:=h1
  obtain ⟨f,rfl⟩:∃g,f=g+1:=⟨f - 1,by omega⟩
  rw [h1];exact go_hit h4
 | succ m ih =>
  intro i f h1 h2 h3
  obtain ⟨f,rfl⟩:∃g,f=g+1:=⟨f - 1,by omega⟩
  rw [go_miss (h3 i (Nat.le_refl _) (by omega))]
  exact ih (i+1) f (by omega) (by omega) (fun j a b=>h3 j (by omega) b)
theorem first {p:Nat} (hp:0<p) (ht:p≤top):∃n:Nat,1≤n∧n≤17∧(∀j:Nat,1≤j→j<n→some_ p (iP p) (fY p) (dx p) j=none)∧some_ p (iP p) (fY p) (dx p) n=some (digits p):=by
 have xI:=IB hp ht
 have key:∀m i:Nat,i+m=17→1≤i→(∀j:Nat,1≤j→j<i→some_ p (iP p) (fY p) (dx p) j=none)→∃n:Nat,1≤n∧n≤17∧(∀j:Nat,1≤j→j<n→some_ p (iP p) (fY p) (dx p) j=none)∧(some_ p (iP p) (fY p) (dx p) n).isSome=true:=by
  intro m
  induction m with
  | zero =>
   intro i hi h1 hn
   have hi:i=17:=hi
   exact ⟨17,by omega,by omega,by rw [←hi];exact hn,xI⟩
  | succ m ih =>
   intro i hi h1 hn
   cases hs:some_ p (iP p) (fY p) (dx p) i with
   | some r=>exact ⟨i,h1,by omega,hn,by rw [hs];rfl⟩
   | none =>
    refine ih (i+1) (by omega) (by omega) fun j a b=>?_
    by_cases c:j=i
    ·rw [c];exact hs
    ·exact hn j a (by omega)
 obtain ⟨n,n1,n2,n3,n4⟩:=key 16 1 rfl (by omega) (fun j a b=>by omega)
 obtain ⟨r,hr⟩:=Option.isSome_iff_exists.1 n4
 refine ⟨n,n1,n2,n3,?_⟩
 have hg:digits p=r:=go_some hr (n - 1) 1 17 (by omega) (by omega) n3
 rw [hr,hg]
theorem qi {a b:Nat} (h:10 ^ a<10 ^ b):a<b:=by
 rcases Nat.lt_or_ge a b with c | c
 ·exact c
 ·have:=Nr.kh c;omega
theorem FQ {p:Nat} (hp:0<p) {D:bz} (hD:Nr.MU D) {kd:Int} (h:rd (Nr.num D) kd=some p):(some_ p (iP p) (fY p) (dx p) (D.length:Int)).isSome=true:=by
 have Fv:=List.length_pos_iff.2 hD.n
 have ht:=((zd hp).1 h).1
 have lo:=Nr.sx hD.f.1 hD.n hD.h
 have hi:=Nr.sw D hD.f.1
 obtain ⟨r1,r2⟩:=oF hp (n:=D.length) (by omega)
 have hQ:=rQ (jC p) (D.length - dx p)
 have hx:=zk ht
 have hb:=jC p
 generalize hM:Nr.num D=M at *
 generalize hL:D.length=n at *
 have eA:tA (iP p) ((n:Int) - dx p)=iP p * 10 ^ ((n:Int) - dx p).toNat:=rfl
 have eB:tB (fY p) ((n:Int) - dx p)=fY p * 10 ^ (dx p - n).toNat:=by unfold tB;rw [show -((n:Int) - dx p)=dx p - n by omega]
 rw [show ((n:Int) - 1).toNat=n - 1 by omega] at r1
 rw [aj] at r2
 have nk : -(dx p - (n:Int))=n - dx p:=by omega
 refine qO ?_
 generalize hP:tA (iP p) ((n:Int) - dx p)=P at *
 generalize U2:tB (fY p) ((n:Int) - dx p)=Q at *
 generalize hk:dx p - (n:Int)=k at *
 rw [←nk] at eA
 have JC:=Nat.div_add_mod P Q
 have hr:=Nat.mod_lt P hQ
 have N1:10 ^ (n - 1)≤P / Q:=(Nat.le_div_iff_mul_le hQ).2 r1
 have N2:P / Q<10 ^ n:=(Nat.div_lt_iff_lt_mul hQ).2 r2
 have hw:=h
 unfold rd at hw ⊢
 have pk:=Nr.eM (-k).toNat
 have pd:=Nr.eM (-kd).toNat
 have Uz:=Nr.eM k.toNat
 have UA:=Nr.eM kd.toNat
 by_cases c:M * 10 ^ kd.toNat * fY p≤iP p * 10 ^ (-kd).toNat
 ·left
  have Ou:kd≤k:=by
   have s1:M * 10 ^ kd.toNat * fY p * 10 ^ (-k).toNat≤P * 10 ^ (-kd).toNat:=by
    rw [eA,Nat.mul_right_comm (iP p)];exact ak _ c
   have s2:P * 10 ^ (-kd).toNat<10 ^ n * Q * 10 ^ (-kd).toNat:=Nat.mul_lt_mul_of_pos_right r2 pd
   have s3:10 ^ (n - 1) * 10 ^ kd.toNat * fY p * 10 ^ (-k).toNat≤M * 10 ^ kd.toNat * fY p * 10 ^ (-k).toNat:=ak _ (ak _ (ak _ lo))
   have s4:10 ^ (n - 1+kd.toNat+(-k).toNat) * fY p<10 ^ (n+k.toNat+(-kd).toNat) * fY p:=by
    rw [Nat.pow_add,Nat.pow_add,Nat.pow_add,Nat.pow_add]
    rw [eB] at s2
    have e1:10 ^ (n - 1) * 10 ^ kd.toNat * 10 ^ (-k).toNat * fY p=10 ^ (n - 1) * 10 ^ kd.toNat * fY p * 10 ^ (-k).toNat:=Nat.mul_right_comm ..
    have e2:10 ^ n * 10 ^ k.toNat * 10 ^ (-kd).toNat * fY p=10 ^ n * (fY p * 10 ^ k.toNat) * 10 ^ (-kd).toNat:=by
     simp only [Nat.mul_assoc,Nat.mul_comm,Nat.mul_left_comm]
    rw [e1,e2]
    exact Nat.lt_of_le_of_lt s3 (Nat.lt_of_le_of_lt s1 s2)
   have:=qi (Nat.lt_of_mul_lt_mul_right s4)
   omega
  refine oW pd hb pk hw hx ?_ ?_
  ·rcases Int.lt_or_eq_of_le Ou with d | d
   ·have g1:M * 10 ^ kd.toNat * 10 ^ (-k).toNat≤10 ^ n * 10 ^ kd.toNat * 10 ^ (-k).toNat:=ak _ (ak _ (Nat.le_of_lt hi))
    have g2:10 ^ (n - 1) * 10 ^ k.toNat * 10 ^ (-kd).toNat≤P / Q * 10 ^ k.toNat * 10 ^ (-kd).toNat:=ak _ (ak _ N1)
    refine Nat.le_trans g1 (Nat.le_trans ?_ g2)
    rw [←Nat.pow_add,←Nat.pow_add,←Nat.pow_add,←Nat.pow_add]
    exact Nr.kh (by omega)
   ·subst d
    refine ak _ (ak _ ?_)
    rw [Nat.le_div_iff_mul_le hQ,eA,eB,←Nat.mul_assoc,Nat.mul_right_comm];exact c
  ·rw [←eA,Nat.mul_assoc,Nat.mul_comm (10 ^ k.toNat),←eB,Nat.mul_comm]
   omega
 ·right
  have c:=Nat.lt_of_not_le c
  have Ou:k≤kd:=by
   have s1:P * 10 ^ (-kd).toNat<M * 10 ^ kd.toNat * fY p * 10 ^ (-k).toNat:=by
    rw [eA,Nat.mul_right_comm (iP p)];exact Nat.mul_lt_mul_of_pos_right c pk
   have s2:10 ^ (n - 1) * Q * 10 ^ (-kd).toNat≤P * 10 ^ (-kd).toNat:=ak _ r1
   have s3:M * 10 ^ kd.toNat * fY p * 10 ^ (-k).toNat≤10 ^ n * 10 ^ kd.toNat * fY p * 10 ^ (-k).toNat:=ak _ (ak _ (ak _ (Nat.le_of_lt hi)))
   have s4:10 ^ (n - 1+k.toNat+(-kd).toNat) * fY p<10 ^ (n+kd.toNat+(-k).toNat) * fY p:=by
    rw [Nat.pow_add,Nat.pow_add,Nat.pow_add,Nat.pow_add]
    rw [eB] at s2
    have e1:10 ^ n * 10 ^ kd.toNat * 10 ^ (-k).toNat * fY p=10 ^ n * 10 ^ kd.toNat * fY p * 10 ^ (-k).toNat:=Nat.mul_right_comm ..
    have e2:10 ^ (n - 1) * 10 ^ k.toNat * 10 ^ (-kd).toNat * fY p=10 ^ (n - 1) * (fY p * 10 ^ k.toNat) * 10 ^ (-kd).toNat:=by
     simp only [Nat.mul_assoc,Nat.mul_comm,Nat.mul_left_comm]
    rw [e1,e2]
    exact Nat.lt_of_le_of_lt s2 (Nat.lt_of_lt_of_le s1 s3)
   have:=qi (Nat.lt_of_mul_lt_mul_right s4)
   omega
  refine oW hb pd pk hx hw ?_ ?_
  ·rw [←eA,Nat.mul_assoc,Nat.mul_comm (10 ^ k.toNat),←eB,Nat.add_mul,Nat.one_mul,Nat.mul_comm (P / Q)]
   omega
  ·rcases Int.lt_or_eq_of_le Ou with d | d
   ·have g1:(P / Q+1) * 10 ^ k.toNat * 10 ^ (-kd).toNat≤10 ^ n * 10 ^ k.toNat * 10 ^ (-kd).toNat:=ak _ (ak _ N2)
    have g2:10 ^ (n - 1) * 10 ^ kd.toNat * 10 ^ (-k).toNat≤M * 10 ^ kd.toNat * 10 ^ (-k).toNat:=ak _ (ak _ lo)
    refine Nat.le_trans g1 (Nat.le_trans ?_ g2)
    rw [←Nat.pow_add,←Nat.pow_add,←Nat.pow_add,←Nat.pow_add]
    exact Nr.kh (by omega)
   ·subst d
    refine ak _ (ak _ ?_)
    refine (Nat.div_lt_iff_lt_mul hQ).2 ?_
    rw [eA,eB,←Nat.mul_assoc,Nat.mul_right_comm];exact c
theorem y8 {M:Nat} (h:0<M):Nr.gr (Nr.dec (10 * M))=Nr.gr (Nr.dec M):=by
 rw [Nr.pq (show ¬10 * M<10 by omega),Nr.wL,show 10 * M % 10=0 by omega,aw (by rfl),show 10 * M / 10=M by omega]
theorem r8:∀n:Nat,Nr.gr (Nr.dec (10 ^ n))=[49]
 | 0=>by decide +kernel
 | n+1=>by rw [Nat.pow_succ,Nat.mul_comm,y8 (Nr.eM n),r8 n]
theorem Bk (d:bz):(Nr.gr d).length≤d.length:=by
 obtain ⟨t,h,_⟩:=Nr.ko d
 have:=congrArg List.length h
 rw [ao] at this;omega
theorem yj {N n:Nat} (hn:1≤n) (h:N≤10 ^ n):(Nr.gr (Nr.dec N)).length≤n:=by
 rcases Nat.lt_or_eq_of_le h with c | c
 ·exact Nat.le_trans (Bk _) (Nr.ik n N c hn)
 ·rw [c,r8];exact hn
theorem ud {N:Nat} {k:Int} (h:0<N) (hl:(Nr.dec N).length≤300):Nr.read (Nr.gr (Nr.dec N)) ((Nr.dec N).length+k)=rd N k:=by
 obtain ⟨d1,d2,d3,d4⟩:=Nr.lC N
 obtain ⟨t,t1,t2⟩:=Nr.ko (Nr.dec N)
 have hn:=congrArg Nr.num t1
 rw [Nr.gC,Nr.jt,List.length_replicate,Nat.add_zero,d2] at hn
 have hL:=congrArg List.length t1
 rw [ao,List.length_replicate] at hL
 have ne:Nr.gr (Nr.dec N)≠[]:=by
  intro e0;rw [e0,show Nr.num []=0 from rfl,Nat.zero_mul] at hn;omega
 have:=List.length_pos_iff.2 ne
 unfold Nr.read Nr.valid
 rw [(Nr.ic d1 t1).1,aa (show 1≤(Nr.gr (Nr.dec N)).length∧(Nr.gr (Nr.dec N)).length≤300 by omega),aw (by rfl)]
 have e:rd N k=rd (Nr.num (Nr.gr (Nr.dec N)) * 10 ^ t) k:=by rw [←hn]
 rw [e,Nr.sk,show ((Nr.dec N).length:Int)+k - (Nr.gr (Nr.dec N)).length=k+t by omega]
theorem Bb {p a b:Nat} {x n:Int} {r:bz × Int} (h:some_ p a b x n=some r):∃N,(N=tA a (n - x) / tB b (n - x)∨N=tA a (n - x) / tB b (n - x)+1)∧rd N (x - n)=some p∧r=(Nr.gr (Nr.dec N),(Nr.dec N).length+(x - n)):=by
 unfold some_ at h
 simp only at h
 have key:∀N,reads p N (x - n)=some r→rd N (x - n)=some p∧r=(Nr.gr (Nr.dec N),(Nr.dec N).length+(x - n)):=fun N hN=>by
  unfold reads at hN
  split at hN
  ·rename_i c;cases hN;exact ⟨c,rfl⟩
  ·cases hN
 split at h
 ·exact ⟨_,.inl rfl,key _ h⟩
 ·exact ⟨_,.inr rfl,key _ h⟩
theorem qw {p:Nat} (hp:0<p) (ht:p≤top):∃n N:Nat,1≤n∧n≤17∧0<N∧N≤10 ^ n∧rd N (dx p - n)=some p∧digits p=(Nr.gr (Nr.dec N),(Nr.dec N).length+(dx p - n)) ∧
  (∀j:Nat,1≤j→j<n→some_ p (iP p) (fY p) (dx p) j=none):=by
 obtain ⟨n,n1,n2,n3,n4⟩:=first hp ht
 obtain ⟨N,N1,N2,N3⟩:=Bb n4
 obtain ⟨r1,r2⟩:=oF hp (n:=n) (by omega)
 have hQ:=rQ (jC p) (n - dx p)
 rw [aj] at r2
 have lo:=(Nat.le_div_iff_mul_le hQ).2 r1
 have hi:=(Nat.div_lt_iff_lt_mul hQ).2 r2
 have:=Nr.eM ((n:Int) - 1).toNat
 refine ⟨n,N,n1,n2,?_,?_,N2,N3,n3⟩ <;> rcases N1 with h | h <;> omega
theorem least {p:Nat} (hp:0<p) {D:bz} (hD:Nr.MU D) {kd:Int} (h:rd (Nr.num D) kd=some p):(digits p).1.length≤D.length:=by
 have ht:=((zd hp).1 h).1
 have hs:=FQ hp hD h
 obtain ⟨n,N,n1,n2,n3,n4,n5,n6,n7⟩:=qw hp ht
 have hn:n≤D.length:=by
  rcases Nat.lt_or_ge D.length n with c | c
  ·rw [n7 D.length (List.length_pos_iff.2 hD.n) c] at hs;cases hs
  ·exact c
 rw [n6]
 exact Nat.le_trans (yj n1 n4) hn
theorem yc {p:Nat} (hp:0<p) (ht:p≤top):Nr.read (digits p).1 (digits p).2=some p:=by
 obtain ⟨n,N,n1,n2,n3,n4,n5,n6,n7⟩:=qw hp ht
 rw [n6,ud n3 ?_,n5]
 refine Nat.le_trans (Nr.ik (n+1) N ?_ (by omega)) (by omega)
 exact Nat.lt_of_le_of_lt n4 (Nat.pow_lt_pow_right (by omega) (by omega))
end Sh
end Go.Eng
set_option maxRecDepth 20000
namespace Go.Eng
namespace Sh
open Nr (V mG sh top gZ rd mK fZ)
structure zW (d:bz):Prop where
 dg:d.all Nr.dV=true
 n:d≠[]
 h:d.getD 0 0≠48
theorem zW.dU {c:bz} (h:zW c) (j:Nat):zW (c++List.replicate j 48):=by
 refine ⟨?_,by simp [h.n],?_⟩
 ·rw [List.all_append,h.dg,Bool.true_and]
  rw [aC];intro x hx;rw [List.eq_of_mem_replicate hx];rfl
 ·rw [af,List.getElem?_append_left (List.length_pos_iff.2 h.n),←af]
  exact h.h
theorem zj (c:bz) (j:Nat):Nr.num (c++List.replicate j 48)=Nr.num c * 10 ^ j:=by
 rw [Nr.gC,Nr.jt,List.length_replicate,Nat.add_zero]
theorem uu {d:bz} (h:zW d) {n:Nat} (h1:1≤n) (h2:n≤d.length):zW (d.take n):=by
 refine ⟨(Nr.ic h.dg (List.take_append_drop n d).symm).1,?_,?_⟩
 ·intro e
  have:=congrArg List.length e
  rw [aF,aB] at this;omega
 ·rw [af,List.getElem?_take_of_lt (by omega),←af];exact h.h
end Sh
end Go.Eng
set_option maxRecDepth 20000
namespace Go.Eng
open Go.IntWalk
namespace Nr
theorem VI (t:bz):t=t.take (run t)++t.drop (run t)∧(t.take (run t)).all dV=true∧(t.take (run t)).length=run t:=by
 have e:t.takeWhile dV=t.take (run t):=by
  unfold run
  exact List.prefix_iff_eq_take.1 (List.takeWhile_prefix dV)
 refine ⟨(List.take_append_drop _ _).symm,?_,?_⟩
 ·rw [←e];exact List.all_takeWhile
 ·rw [aF,Nat.min_eq_left (y6 t)]
structure Shape (t a b fr ex e:bz):Prop where
 eq:t=a++fr++ex
 a0:a≠[]
 ad:a.all dV=true
 fr:(fr=[]∧b=[])∨(fr=46 :: b∧b≠[])
 bd:b.all dV=true
 ex:(ex=[]∧e=[])∨(∃c,HC c=true∧ex=c :: e∧signed e≠[])
 ed:(signed e).all dV=true
theorem VB {x:bz} {k:Int} (h:ot x k≠0):∃e,((x=[]∧e=[])∨(∃c,HC c=true∧x=c :: e∧signed e≠[]))∧(signed e).all dV=true:=by
 cases x with
 | nil=>exact ⟨[],.inl ⟨rfl,rfl⟩,rfl⟩
 | cons c r =>
  rw [xh] at h
  by_cases hc:c=101∨c=69
  ·rw [aw hc] at h
   by_cases hr:run (signed r)=0∨run (signed r)<(signed r).length
   ·rw [aw hr] at h;exact (h rfl).elim
   ·obtain ⟨h1,h2,h3⟩:=VI (signed r)
    have hl:=y6 (signed r)
    refine ⟨r,.inr ⟨c,aa hc,rfl,?_⟩,?_⟩
    ·intro e;rw [e] at hr;exact hr (.inl rfl)
    ·rw [List.take_of_length_le (by omega)] at h2;exact h2
  ·rw [au hc] at h;exact (h rfl).elim
theorem WU {s:bz} (h:iX s≠0):∃a b fr ex e,Shape (body s) a b fr ex e:=by
 have h2:¬(run (body s)=0∨((body s).getD 0 0=48∧1<run (body s)))∧ll ((body s).drop (run (body s)))≠0:=by
  have e:iX s=if run (body s)=0∨((body s).getD 0 0=48∧1<run (body s)) then 0 else ll ((body s).drop (run (body s))):=rfl
  rw [e] at h
  by_cases c:run (body s)=0∨((body s).getD 0 0=48∧1<run (body s))
  ·rw [aw c] at h;exact (h rfl).elim
  ·rw [au c] at h;exact ⟨c,h⟩
 obtain ⟨h2,h3⟩:=h2
 generalize body s=t at *
 obtain ⟨r1,r2,r3⟩:=VI t
 have ha:t.take (run t)≠[]:=fun e=>by
  rw [e] at r3;exact h2 (.inl r3.symm)
 by_cases W9:0<(t.drop (run t)).length∧(t.drop (run t)).getD 0 0=46
 ·cases hx:t.drop (run t) with
  | nil=>rw [hx] at W9;simp at W9
  | cons c r =>
   rw [hx] at W9 h3 r1
   have:c=46:=W9.2
   subst this
   rw [xg] at h3
   by_cases hr:run r=0
   ·rw [aw hr] at h3;exact (h3 rfl).elim
   ·rw [au hr] at h3
    obtain ⟨s1,s2,s3⟩:=VI r
    obtain ⟨e,e1,e2⟩:=VB h3
    refine ⟨t.take (run t),r.take (run r),46 :: r.take (run r),r.drop (run r),e,?_,ha,r2,.inr ⟨rfl,?_⟩,s2,e1,e2⟩
    ·rw [aG,List.cons_append,←s1];exact r1
    ·intro e;rw [e] at s3;exact hr s3.symm
 ·rw [tI W9] at h3
  obtain ⟨e,e1,e2⟩:=VB h3
  refine ⟨t.take (run t),[],[],t.drop (run t),e,?_,ha,r2,.inl ⟨rfl,rfl⟩,rfl,e1,e2⟩
  rw [bj];exact r1
theorem vQ {c:UInt8} (h:dV c=true):HC c=false∧c≠46∧c.toNat<128∧([101,69]:bz).contains c=false:=by
 have h1:=ky.1 h
 have lB:∀d:UInt8,d.toNat<48∨57<d.toNat→c≠d:=fun d hd e=>by subst e;omega
 have n1:=lB 101 (by decide)
 have n2:=lB 69 (by decide)
 have n3:=lB 46 (by decide)
 refine ⟨ab (by simp [n1,n2]),n3,by omega,by simp [n1,n2]⟩
theorem oa {p:UInt8→Bool} {a b:bz} (ha:a.all p=true) (hb:b=[]∨p (b.getD 0 0)=false):(a++b).takeWhile p=a∧(a++b).dropWhile p=b:=by
 induction a with
 | nil =>
  cases b with
  | nil=>exact ⟨rfl,rfl⟩
  | cons c r =>
   have hc:p c=false:=hb.resolve_left (by simp)
   rw [bq,List.takeWhile_cons,List.dropWhile_cons,au (by rw [hc];simp),au (by rw [hc];simp)]
   exact ⟨rfl,rfl⟩
 | cons c r ih =>
  rw [List.all_cons,ah] at ha
  obtain ⟨i1,i2⟩:=ih ha.2
  rw [List.cons_append,List.takeWhile_cons,List.dropWhile_cons,aw ha.1,aw ha.1,i1,i2]
  exact ⟨rfl,rfl⟩
section
variable {s a b fr ex e:bz} (h:Shape (body s) a b fr ex e)
include h
theorem Shape.P3:(a++fr).all (fun c=>!HC c)=true:=by
 rw [List.all_append,ah]
 constructor
 ·exact aC.2 fun x hx=>by rw [(vQ (aC.1 h.ad x hx)).1];rfl
 ·rcases h.fr with ⟨h1,_⟩ | ⟨h1,_⟩
  ·rw [h1];rfl
  ·rw [h1,List.all_cons,ah]
   exact ⟨by decide,aC.2 fun x hx=>by rw [(vQ (aC.1 h.bd x hx)).1];rfl⟩
theorem Shape.parts:Gm s=a++fr∧tail s=e∧ahead s=a∧behind s=b:=by
 have hx:ex=[]∨(!HC (ex.getD 0 0))=false:=by
  rcases h.ex with ⟨h1,_⟩ | ⟨c,h1,h2,_⟩
  ·exact .inl h1
  ·right;rw [h2];show (!HC c)=false;rw [h1];rfl
 obtain ⟨t1,t2⟩:=oa h.P3 hx
 rw [←h.eq] at t1 t2
 have hm:Gm s=a++fr:=t1
 have ht:tail s=ex.drop 1:=by unfold tail;rw [t2]
 have hf:fr=[]∨(fr.getD 0 0 != 46)=false:=by
  rcases h.fr with ⟨h1,_⟩ | ⟨h1,_⟩
  ·exact .inl h1
  ·right;rw [h1];rfl
 have Mf:a.all (· != 46)=true:=aC.2 fun x hx=>by
  have:=(vQ (aC.1 h.ad x hx)).2.1
  simpa using this
 obtain ⟨u1,u2⟩:=oa Mf hf
 refine ⟨hm,?_,?_,?_⟩
 ·rw [ht]
  rcases h.ex with ⟨h1,h2⟩ | ⟨c,h1,h2,_⟩
  ·rw [h1,h2];rfl
  ·rw [h2];rfl
 ·unfold ahead;rw [hm];exact u1
 ·unfold behind;rw [hm,u2]
  rcases h.fr with ⟨h1,h2⟩ | ⟨h1,_⟩
  ·rw [h1,h2];rfl
  ·rw [h1];rfl
theorem Shape.index:Lib.indexAny (body s) [101,69]=if ex=[] then -1 else ((a++fr).length:Int):=by
 have GF:∀(j:Nat) x,j<(a++fr).length→(body s)[j]?=some x→([101,69]:bz).contains x=false:=fun j x hj hx=>by
  rw [h.eq,List.getElem?_append_left hj] at hx
  have:=aC.1 h.P3 x (aK hx)
  simp only [Bool.not_eq_true'] at this
  have h2:¬(x=101∨x=69):=of_decide_eq_false this
  simp only [not_or] at h2
  simp [h2.1,h2.2]
 rcases h.ex with ⟨h1,_⟩ | ⟨c,h1,h2,_⟩
 ·rw [aw h1]
  refine Lib.indexAny_none fun j x hj hx=>GF j x ?_ (by assumption)
  rw [h.eq,h1,bj] at *
  first | exact hj | exact hx
 ·rw [au (by rw [h2];simp)]
  refine Lib.indexAny_hit (i:=(a++fr).length) (x:=c) (fun j x hj hx=>?_) ?_ ?_
  ·first | exact GF j x hj hx | exact GF j x hx hj
  ·rw [h.eq,h2,aS (Nat.le_refl _),Nat.sub_self];rfl
  ·have hc:c=101∨c=69:=ar h1
   rcases hc with rfl | rfl <;> rfl
end
end Nr
end Go.Eng
set_option maxRecDepth 20000
namespace Go.Eng
namespace Sh
open Nr (V mG sh top gZ rd mK fZ dV HC signed run ll ot body iX)
theorem VJ {a b:bz} (ha:a.all dV=true) (hb:b=[]∨dV (b.getD 0 0)=false):run (a++b)=a.length:=by
 unfold run
 rw [(Nr.oa ha hb).1]
theorem V7 {ex e:bz} {k:Int} (hk:k≠0) (hx:(ex=[]∧e=[])∨(∃c,HC c=true∧ex=c :: e∧signed e≠[])) (he:(signed e).all dV=true):ot ex k≠0:=by
 rcases hx with ⟨h,_⟩ | ⟨c,h1,h2,h3⟩
 ·rw [h];exact hk
 ·have hc:c=101∨c=69:=ar h1
  have hr:=VJ he (b:=[]) (.inl rfl)
  rw [bj] at hr
  have hl:=List.length_pos_iff.2 h3
  rw [h2,Nr.xh,aw hc,au (by omega)];decide
theorem WH {c:UInt8} (h:HC c=true):dV c=false∧c≠46:=by
 have:c=101∨c=69:=ar h
 rcases this with rfl | rfl <;> exact ⟨rfl,by decide⟩
theorem Xe (s:bz):iX s=if run (body s)=0∨((body s).getD 0 0=48∧1<run (body s)) then 0 else ll ((body s).drop (run (body s))):=rfl
theorem VF {s a b fr ex e:bz} (h:Nr.Shape (body s) a b fr ex e) (h0:a=[48]∨a.getD 0 0≠48):iX s≠0:=by
 have Yr:ex=[]∨dV (ex.getD 0 0)=false:=by
  rcases h.ex with ⟨x,_⟩ | ⟨c,x1,x2,_⟩
  ·exact .inl x
  ·right;rw [x2];exact (WH x1).1
 have YV:fr++ex=[]∨dV ((fr++ex).getD 0 0)=false:=by
  rcases h.fr with ⟨f1,_⟩ | ⟨f1,_⟩
  ·rw [f1];exact Yr
  ·right;rw [f1];rfl
 have hr:run (body s)=a.length:=by rw [h.eq,aG];exact VJ h.ad YV
 have Pf:=List.length_pos_iff.2 h.a0
 have hg:(body s).getD 0 0=a.getD 0 0:=by
  rw [h.eq,aG,af,List.getElem?_append_left Pf,←af]
 have Ns:(body s).drop a.length=fr++ex:=by rw [h.eq,aG,List.drop_left]
 rw [Xe,hr,hg,Ns,au]
 ·rcases h.fr with ⟨f1,f2⟩ | ⟨f1,f2⟩
  ·rw [f1,bq]
   have GF:¬(0<ex.length∧ex.getD 0 0=46):=by
    rintro ⟨k1,k2⟩
    rcases h.ex with ⟨x,_⟩ | ⟨c,x1,x2,_⟩
    ·rw [x] at k1;simp at k1
    ·rw [x2] at k2;exact (WH x1).2 k2
   rw [Nr.tI GF]
   exact V7 (by decide) h.ex h.ed
  ·have hb:=VJ h.bd Yr
   have Fy:=List.length_pos_iff.2 f2
   rw [f1,List.cons_append,Nr.xg,hb,au (by omega),List.drop_left]
   exact V7 (by decide) h.ex h.ed
 ·rintro (k | ⟨k1,k2⟩)
  ·omega
  ·rcases h0 with h0 | h0
   ·rw [h0] at k2;simp at k2
   ·exact h0 k1
theorem VM {s a b fr ex e:bz} {p:Nat} (h:Nr.Shape (body s) a b fr ex e) (h0:a=[48]∨a.getD 0 0≠48) (hs:s.length≤300) (hr:Nr.read (a++b) ((a.length:Int)+Nr.xU e)=some p) :
  Nr.parse s=(UInt64.ofNat (p+if s.getD 0 0=45 then 9223372036854775808 else 0),0):=by
 obtain ⟨q1,q2,q3,q4⟩:=h.parts
 have hx:=VF h h0
 have ep:Nr.parse s=match Nr.read (Nr.ahead s++Nr.behind s) ((Nr.ahead s).length+Nr.xU (Nr.tail s)) with
  | none=>(0,10)
  | some p=>(UInt64.ofNat (p+if s.getD 0 0=45 then 9223372036854775808 else 0),0):=by
  rw [Nr.Vr];unfold Nr.Vj
  rw [au hx,au (by omega)]
  rfl
 rw [ep,q2,q3,q4,hr]
theorem pD (n:Int):(dU n).all dV=true:=by
 unfold dU
 rw [aC];intro x hx;rw [List.eq_of_mem_replicate hx];rfl
theorem te {d:bz} (h:d.all dV=true) (n:Nat):(d.drop n).all dV=true∧(d.take n).all dV=true:=by
 have:=Nr.ic h (List.take_append_drop n d).symm
 exact ⟨this.2,this.1⟩
theorem nM {v:Int} (h:0≤v):Nr.itoa v=Nr.dec v.toNat∧(Nr.itoa v).all dV=true∧Nr.num (Nr.itoa v)=v.toNat∧Nr.itoa v≠[]:=by
 have e:Nr.itoa v=Nr.dec v.toNat:=by rw [Nr.nN,au (by omega),show v.natAbs=v.toNat by omega]
 obtain ⟨d1,d2,d3,d4⟩:=Nr.lC v.toNat
 rw [e];exact ⟨rfl,d1,d2,d3⟩
theorem Ei {v:Int} (h:0≤v):Nr.xU (45 :: Nr.itoa v)=-v∧signed (45 :: Nr.itoa v)=Nr.itoa v:=by
 obtain ⟨_,d1,d2,d3⟩:=nM h
 have e:signed (45 :: Nr.itoa v)=Nr.itoa v:=by rw [Nr.mU,aw (.inr rfl)]
 refine ⟨?_,e⟩
 unfold Nr.xU
 simp only
 rw [e,d2,aw (by rfl)];omega
theorem Eh {v:Int} (h:0≤v):Nr.xU (43 :: Nr.itoa v)=v∧signed (43 :: Nr.itoa v)=Nr.itoa v:=by
 obtain ⟨_,d1,d2,d3⟩:=nM h
 have e:signed (43 :: Nr.itoa v)=Nr.itoa v:=by rw [Nr.mU,aw (.inl rfl)]
 refine ⟨?_,e⟩
 unfold Nr.xU
 simp only
 rw [e,d2,au (by show ¬((43:UInt8)=45);decide)];omega
theorem Ak {D E:bz} {x y:Int} {j:Nat} (h1:Nr.valid D=true) (h2:Nr.valid E=true) (hn:Nr.num D=Nr.num E * 10 ^ j) (hx:x - D.length+j=y - E.length):Nr.read D x=Nr.read E y:=by
 unfold Nr.read
 rw [aw h1,aw h2,hn,Nr.sk,hx]
theorem rN {D:bz} (h:D.all dV=true) (h1:1≤D.length) (h2:D.length≤300):Nr.valid D=true:=by
 unfold Nr.valid
 rw [h,aa ⟨h1,h2⟩];rfl
theorem VG {t a b fr ex e:bz} (h:Nr.Shape t a b fr ex e):dV (t.getD 0 0)=true:=by
 have Pf:=List.length_pos_iff.2 h.a0
 rw [h.eq,aG,af,List.getElem?_append_left Pf,aq Pf]
 exact aC.1 h.ad _ (List.getElem_mem Pf)
theorem rC {v:Int} (h:0≤v) (h2:v<1000):(Nr.itoa v).length≤3:=by
 rw [(nM h).1]
 exact Nr.ik 3 v.toNat (by show v.toNat<1000;omega) (by omega)
theorem zw {d:bz} (hd:zW d) (hl:d.length≤17) {x:Int} (hx : -900≤x∧x≤900):∃a b fr ex e,Nr.Shape (laid d x) a b fr ex e∧(a=[48]∨a.getD 0 0≠48)∧(laid d x).length≤24∧Nr.read (a++b) ((a.length:Int)+Nr.xU e)=Nr.read d x:=by
 have hn:=List.length_pos_iff.2 hd.n
 have hv:=rN hd.dg hn (by omega)
 unfold laid
 by_cases c1:1≤x∧x≤21∧(d.length:Int)≤x
 ·rw [aw c1]
  have hz:=hd.dU (x - d.length).toNat
  have BN:(d++dU (x - d.length)).length=x.toNat:=by
   unfold dU;rw [ao,List.length_replicate];omega
  refine ⟨d++dU (x - d.length),[],[],[],[],⟨by simp,hz.n,hz.dg,.inl ⟨rfl,rfl⟩,rfl,.inl ⟨rfl,rfl⟩,rfl⟩,.inr hz.h,by omega,?_⟩
  rw [bj]
  refine Ak (j:=(x - d.length).toNat) (rN hz.dg (by omega) (by omega)) hv (zj d _) ?_
  rw [BN,show Nr.xU []=0 from rfl];omega
 ·rw [au c1]
  by_cases c2:1≤x∧x≤21
  ·rw [aw c2]
   have ht:=uu hd (n:=x.toNat) (by omega) (by omega)
   have Jf:(d.take x.toNat).length=x.toNat:=by rw [aF];omega
   have L5:(d.drop x.toNat).length=d.length - x.toNat:=aU ..
   refine ⟨d.take x.toNat,d.drop x.toNat,46 :: d.drop x.toNat,[],[],⟨by simp,ht.n,ht.dg,.inr ⟨rfl,?_⟩,(te hd.dg _).1,.inl ⟨rfl,rfl⟩,rfl⟩,.inr ht.h,?_,?_⟩
   ·intro e;rw [e,aB] at L5;omega
   ·rw [ao,ao,az,Jf,L5];omega
   ·rw [List.take_append_drop,Jf,show Nr.xU []=0 from rfl,show ((x.toNat:Nat):Int)+0=x by omega]
  ·rw [au c2]
   by_cases c3 : -5≤x∧x≤0
   ·rw [aw c3]
    have BN:(dU (-x)++d).length=(-x).toNat+d.length:=by
     unfold dU;rw [ao,List.length_replicate]
    have Ow:(dU (-x)++d).all dV=true:=by rw [List.all_append,pD,hd.dg];rfl
    refine ⟨[48],dU (-x)++d,46 :: (dU (-x)++d),[],[],⟨by simp,by simp,by rfl,.inr ⟨rfl,?_⟩,Ow,.inl ⟨rfl,rfl⟩,rfl⟩,.inl rfl,?_,?_⟩
    ·intro e;rw [e,aB] at BN;omega
    ·rw [ao,BN];show 2+_≤24;omega
    ·have hd1:([48]++(dU (-x)++d)).all dV=true:=by rw [List.all_append,Ow];rfl
     have LR:([48]++(dU (-x)++d)).length=1+((-x).toNat+d.length):=by rw [ao,BN];rfl
     refine Ak (j:=0) (rN hd1 (by omega) (by omega)) hv ?_ ?_
     ·rw [Nr.gC,Nr.gC]
      have:Nr.num (dU (-x))=0:=Nr.jt _
      rw [this,show Nr.num [48]=0 by decide];omega
     ·rw [LR,show Nr.xU []=0 from rfl,az];omega
   ·rw [au c3]
    have ht:=uu hd (n:=1) (by omega) hn
    have Jf:(d.take 1).length=1:=by rw [aF];omega
    have L5:(d.drop 1).length=d.length - 1:=aU ..
    have Qu:((if 1<d.length then 46 :: d.drop 1 else []:bz)=[]∧d.drop 1=[])∨((if 1<d.length then 46 :: d.drop 1 else []:bz)=46 :: d.drop 1∧d.drop 1≠[]):=by
     by_cases k:1<d.length
     ·right;rw [aw k];refine ⟨rfl,fun e=>?_⟩;rw [e,aB] at L5;omega
     ·left;rw [au k];exact ⟨rfl,List.length_eq_zero_iff.1 (by omega)⟩
    have JA:(if 1<d.length then 46 :: d.drop 1 else []:bz).length≤17:=by
     split
     ·rw [ay,L5];omega
     ·simp
    generalize hF:(if 1<d.length then 46 :: d.drop 1 else []:bz)=F at *
    by_cases c4:x<1
    ·rw [aw c4]
     obtain ⟨i1,i2,i3,i4⟩:=nM (v:=1 - x) (by omega)
     obtain ⟨e1,e2⟩:=Ei (v:=1 - x) (by omega)
     have il:=rC (v:=1 - x) (by omega) (by omega)
     refine ⟨d.take 1,d.drop 1,F,101 :: 45 :: Nr.itoa (1 - x),45 :: Nr.itoa (1 - x),⟨by simp,ht.n,ht.dg,Qu,(te hd.dg _).1,.inr ⟨101,by decide,rfl,by rw [e2];exact i4⟩,by rw [e2];exact i2⟩,.inr ht.h,?_,?_⟩
     ·rw [ao,ao,Jf,ao];show 1+F.length+(2+_)≤24;omega
     ·rw [List.take_append_drop,Jf,e1,show ((1:Nat):Int) + -(1 - x)=x by omega]
    ·rw [au c4]
     obtain ⟨i1,i2,i3,i4⟩:=nM (v:=x - 1) (by omega)
     obtain ⟨e1,e2⟩:=Eh (v:=x - 1) (by omega)
     have il:=rC (v:=x - 1) (by omega) (by omega)
     refine ⟨d.take 1,d.drop 1,F,101 :: 43 :: Nr.itoa (x - 1),43 :: Nr.itoa (x - 1),⟨by simp,ht.n,ht.dg,Qu,(te hd.dg _).1,.inr ⟨101,by decide,rfl,by rw [e2];exact i4⟩,by rw [e2];exact i2⟩,.inr ht.h,?_,?_⟩
     ·rw [ao,ao,Jf,ao];show 1+F.length+(2+_)≤24;omega
     ·rw [List.take_append_drop,Jf,e1,show ((1:Nat):Int)+(x - 1)=x by omega]
theorem Xd {t:bz} (h:dV (t.getD 0 0)=true):body t=t∧t.getD 0 0≠45:=by
 cases t with
 | nil=>exact absurd h (by decide)
 | cons c r =>
  have hc:dV c=true:=h
  have Fx:=Nr.ky.1 hc
  have hn:c≠45:=fun e=>by subst e;exact absurd Fx.1 (by decide)
  refine ⟨?_,hn⟩
  unfold body
  split
  ·rename_i heq;injection heq with h1 _;exact (hn h1).elim
  ·rfl
theorem WV {d:bz} (hd:zW d) (hl:d.length≤17) {x:Int} (hx : -900≤x∧x≤900) {p:Nat} (hr:Nr.read d x=some p) (neg:Bool) :
  Nr.parse ((if neg then [45] else [])++laid d x)=(UInt64.ofNat (p+if neg then 9223372036854775808 else 0),0)∧iX ((if neg then [45] else [])++laid d x)≠0∧((if neg then [45] else [])++laid d x).length≤25:=by
 obtain ⟨a,b,fr,ex,e,sh,h0,hlen,Ji⟩:=zw hd hl hx
 obtain ⟨b1,b2⟩:=Xd (VG sh)
 rw [hr] at Ji
 cases neg with
 | false =>
  have e0:((if false=true then [45] else []:bz)++laid d x)=laid d x:=rfl
  rw [e0]
  rw [←b1] at sh
  have hp:=VM sh h0 (by omega) Ji
  rw [au b2] at hp
  exact ⟨hp,VF sh h0,by omega⟩
 | true =>
  have e0:((if true=true then [45] else []:bz)++laid d x)=45 :: laid d x:=rfl
  rw [e0]
  have b3:body (45 :: laid d x)=laid d x:=rfl
  rw [←b3] at sh
  have hp:=VM sh h0 (by rw [ay];omega) Ji
  rw [aw (by rfl)] at hp
  exact ⟨hp,VF sh h0,by rw [ay];omega⟩
end Sh
end Go.Eng
set_option maxRecDepth 20000
namespace Go.Eng
open Go.IntWalk
theorem Lr (x:UInt64) (h:x.toNat<4503599627370496):((4503599627370496:UInt64) ||| x)=UInt64.ofNat (4503599627370496+x.toNat):=by
 apply fI
 rw [UInt64.toNat_or,fc]
 have:=mr (a:=1) (k:=52) (b:=x.toNat) h
 show 4503599627370496 ||| x.toNat=_
 rw [show (4503599627370496:Nat)=1 * 2 ^ 52 by decide,this]
 have:(1:Nat) * 2 ^ 52=4503599627370496:=by decide
 omega
theorem eH.goal (b:UInt64):eH.F b=some [.i .i64 (Nr.split b).1,.b (Nr.split b).2.1,.u64 (Nr.split b).2.2.1,.i .i64 (Nr.split b).2.2.2]:=by
 refine eH.bZ _ ?_
 intro v1 h1 v2 h2 v3 h3 v4 h4 v5 h5 v6 h6 v7 h7 v8 h8
 have hb:=b.toNat_lt
 have hv4:v4.toNat=b.toNat / 9223372036854775808:=by rw [h4,gQ];rfl
 have hv1:v1.toNat=b.toNat / 4503599627370496:=by rw [h1,gQ];rfl
 have e2:v2=((b.toNat / 4503599627370496 % 2048:Nat):Int):=by rw [h2,IU,hv1,i64_in _ (by omega)]
 have e3:v3.toNat=b.toNat % 4503599627370496:=by rw [h3,Dt]
 have en:decide (v4=1)=decide (9223372036854775808≤b.toNat):=by
  by_cases c:9223372036854775808≤b.toNat
  ·rw [aa c,aa (fI (by rw [hv4];show _=1;omega))]
  ·rw [ab c,ab (fun h=>by have:=congrArg UInt64.toNat h;rw [hv4] at this;have e1:(1:UInt64).toNat=1:=rfl;omega)]
 have ef:decide (v3=0)=decide (b.toNat % 4503599627370496=0):=by
  by_cases c:b.toNat % 4503599627370496=0
  ·rw [aa c,aa (fI (by rw [e3];exact c))]
  ·rw [ab c,ab (fun h=>by have:=congrArg UInt64.toNat h;rw [e3] at this;exact c this)]
 have NA:v3=UInt64.ofNat (b.toNat % 4503599627370496):=fI (by rw [e3,fc];omega)
 have e7:v7=UInt64.ofNat (4503599627370496+b.toNat % 4503599627370496):=by rw [h7,Lr _ (by omega),e3]
 have e8:v8=((b.toNat / 4503599627370496 % 2048:Nat):Int) - 1075:=by rw [h8,e2,i64_in _ (by omega)]
 have nX:∀b:Bool,(!b || b)=true:=by decide
 rw [bw (nX _),bw (nX _),bw (nX _),bw (nX _),en]
 unfold Nr.split
 simp only
 rw [ef] at h5 h6
 generalize b.toNat / 4503599627370496 % 2048=x at *
 by_cases c1:x=2047
 ·rw [aw c1]
  have Mr:decide (v2=2047)=true:=aa (by omega)
  rw [Mr,ai] at h5
  rw [h5,Mr]
  by_cases c2:b.toNat % 4503599627370496=0
  ·rw [aa c2,aw c2];rfl
  ·rw [ab c2,au c2];rfl
 ·rw [au c1]
  have Mr:decide (v2=2047)=false:=ab (by omega)
  rw [Mr,ae] at h5
  rw [h5,Mr,ae,ae]
  by_cases c2:x=0
  ·have Ms:decide (v2=0)=true:=aa (by omega)
   rw [Ms,ai] at h6
   rw [h6,Ms,aw c2]
   by_cases c3:b.toNat % 4503599627370496=0
   ·rw [aa c3,aw c3];rfl
   ·rw [ab c3,au c3,NA];rfl
  ·have Ms:decide (v2=0)=false:=ab (by omega)
   rw [Ms,ae] at h6
   rw [h6,Ms,au c2,ae,ae,e7,e8]
theorem eY.goal (v:Int) (hp:Nr.i64 v=true):eY.F v=some [.s (Nr.itoa v)]:=by
 rw [eY.eJ,hp];rfl
theorem vf (k:Nat) (h:k≤400):10 ^ k<2 ^ 1400:=by
 have hk:∀n:Nat,n=400→10 ^ k≤10 ^ n:=fun n hn=>Nat.pow_le_pow_right (by omega) (by omega)
 exact Nat.lt_of_le_of_lt (hk 400 rfl) (by decide +kernel)
theorem mu {a b i j k:Nat} (h1:a<2 ^ i) (h2:b<2 ^ j) (h:i+j≤k):a * b<2 ^ k:=by
 refine jq (i:=i+j) ?_ h
 rw [Nat.pow_add]
 exact Nat.mul_lt_mul'' h1 h2
theorem Ho {a:Nat} {k:Int} (ha:a<2 ^ 1100) (hk : -400≤k∧k≤400):Sh.tA a k<2 ^ 2500:=mu (i:=1100) (j:=1400) (k:=2500) ha (vf _ (by omega)) (by omega)
theorem Hn {a:Nat} {k:Int} (ha:a<2 ^ 1100) (hk : -400≤k∧k≤400):Sh.tB a k<2 ^ 2500:=mu (i:=1100) (j:=1400) (k:=2500) ha (vf _ (by omega)) (by omega)
theorem fD.goal (a b:List UInt16) (k:Int) (hp:(Nt.is a&&Nt.is b&&decide (-400≤k∧k≤400∧Nt.val a<2 ^ 1100∧Nt.val b<2 ^ 1100))=true):fD.F a b k=some [.sl .ws (Nt.of (Sh.tA (Nt.val a) k)),.sl .ws (Nt.of (Sh.tB (Nt.val b) k))]:=by
 rw [ah,ah] at hp
 obtain ⟨⟨ha,hb⟩,hp⟩:=hp
 obtain ⟨k1,k2,k3,k4⟩:=ar hp
 refine fD.bZ _ _ _ ?_
 intro v1 h1 v2 h2 v3 h3 v4 h4
 by_cases c:0≤k
 ·have h1:v1=Nt.of (10 ^ k.toNat):=h1
  have e:=vf k.toNat (by omega)
  have Sc:Nt.is v1=true:=by rw [h1];exact iy (i:=1400) e (by omega)
  rw [aa c,ai,bw (aa ⟨by omega,by omega,c,by omega,jq (i:=1400) (k:=4096) e (by omega)⟩),ha,Sc]
  refine (bw (by rfl)).trans ?_
  rw [h2,h1,Nt.eu]
  unfold Sh.tA Sh.tB
  rw [show (-k).toNat=0 by omega,Nat.pow_zero,Nat.mul_one,Nt.dr (Nt.iS hb)]
 ·have ew:IntKind.i64.wrap (0 - k)=-k:=by rw [i64_in _ (by omega)];omega
  rw [ew] at h3
  have h3:v3=Nt.of (10 ^ (-k).toNat):=h3
  have e:=vf (-k).toNat (by omega)
  have Sb:Nt.is v3=true:=by rw [h3];exact iy (i:=1400) e (by omega)
  rw [ab c,ae,ew,bw (aa ⟨by omega,by omega,by omega,by omega,jq (i:=1400) (k:=4096) e (by omega)⟩),hb,Sb]
  refine (bw (by rfl)).trans ?_
  rw [h4,h3,Nt.eu]
  unfold Sh.tA Sh.tB
  rw [show k.toNat=0 by omega,Nat.pow_zero,Nat.mul_one,Nt.dr (Nt.iS ha)]
theorem fk.goal (a b:List UInt16) (x:Int) (hp:(Nt.is a&&Nt.is b&&decide (-400≤x∧x≤400∧Nt.val a<2 ^ 1100∧Nt.val b<2 ^ 1100))=true):fk.F a b x=some [.b (decide (Sh.tB (Nt.val b) (-x)≤Sh.tA (Nt.val a) (-x)))]:=by
 have Jn:=hp
 rw [ah,ah] at hp
 obtain ⟨⟨ha,hb⟩,hp⟩:=hp
 obtain ⟨k1,k2,k3,k4⟩:=ar hp
 refine fk.bZ _ _ _ ?_
 intro v1 h1 v2 h2 v3 h3
 have ew:IntKind.i64.wrap (0 - x)=-x:=by rw [i64_in _ (by omega)];omega
 rw [ew] at h1 h2 ⊢
 have i1:Nt.is v1=true:=by rw [h1];exact iy (i:=2500) (Ho k3 (by omega)) (by omega)
 have i2:Nt.is v2=true:=by rw [h2];exact iy (i:=2500) (Hn k4 (by omega)) (by omega)
 rw [ha,hb,aa (⟨by omega,by omega,k3,k4⟩ : -400≤-x∧-x≤400∧Nt.val a<2 ^ 1100∧Nt.val b<2 ^ 1100),i1,i2]
 refine (bw (by rfl)).trans ((bw (by rfl)).trans ?_)
 rw [h3,h1,h2,Nt.eu,Nt.eu]
 rcases nP (Sh.tA (Nt.val a) (-x)) (Sh.tB (Nt.val b) (-x)) with ⟨k,l⟩ | ⟨k,l⟩ | ⟨k,l⟩
 ·rw [k,ab (by omega),ab (by omega)]
 ·rw [k,aa (by omega),aa (by omega)]
 ·rw [k,aa (by omega),aa (by omega)]
theorem Iw:(10:Nat) ^ 200<2 ^ 665:=by decide +kernel
theorem fj.goal (b:UInt64) (a:List UInt16) (p:Int) (hp:(Nt.is a&&decide (-1000≤p∧p≤1000∧0<Nt.val a∧Nt.val a<10 ^ 200))=true):fj.F b a p=some [.s ((Sh.jM b.toNat (Nt.val a) p).getD ([],0)).1,.i .i64 ((Sh.jM b.toNat (Nt.val a) p).getD ([],0)).2,.b (Sh.jM b.toNat (Nt.val a) p).isSome]:=by
 rw [ah] at hp
 obtain ⟨ha,hp⟩:=hp
 obtain ⟨k1,k2,k3,k4⟩:=ar hp
 refine fj.bZ _ _ _ ?_
 intro v1 h1 v2 h2 v3 h3 v4 h4 v5 h5
 rw [Sh.tW] at h1 h2 ⊢
 rw [Sh.uc]
 have hl:=Nr.ik 200 (Nt.val a) k4 (by omega)
 rw [Nr.wy] at h2
 have e1:IntKind.i64.wrap (v1+p)=(Nr.dec (Nt.val a)).length+p:=by rw [h1,i64_in _ (by omega)]
 rw [e1,h2,Sh.ud k3 (by omega)] at h3 h4
 have nX:∀b:Bool,(!(!b) || ((!b)&&(!b)))=true∧(b || !b)=true:=by decide
 have L8:∀b:Bool,(!(!(!b)) || ((!(!b))&&(!(!b))))=true∧((!b) || (!(!b)))=true:=by decide
 rw [ha,bQ,aa (show (Nr.dec (Nt.val a)).length≤1099511627776∧([48]:bz).length≤100 from ⟨by omega,by decide⟩)]
 refine (bw (by rfl)).trans ?_
 rw [bw (L8 _).1,bw (L8 _).2,e1]
 cases hq:Nr.rd (Nt.val a) p with
 | none =>
  rw [hq] at h4
  have e4:v4=false:=h4
  rw [e4] at h5
  have e5:v5=true:=h5
  rw [e5,Sh.oj (by rw [hq];simp)];rfl
 | some q =>
  have hle:q≤9218868437227405311:=by
   unfold Nr.rd at hq
   exact Nr.Gi hq
  rw [hq] at h3 h4
  have e4:v4=true:=h4
  have e3:v3=UInt64.ofNat q:=h3
  have NA:v3.toNat=q:=by rw [e3,fc];omega
  rw [e4,aH,ae] at h5
  by_cases c:q=b.toNat
  ·have e5:v5=false:=by rw [h5,aa (fI (by rw [NA,c]))];rfl
   rw [e5,Sh.mj (by rw [hq,c]),h2];rfl
  ·have e5:v5=true:=by rw [h5,ab (fun e=>c (by rw [←NA,e]))];rfl
   rw [e5,Sh.oj (by rw [hq];simp [c])];rfl
end Go.Eng
set_option maxRecDepth 20000
namespace Go.Eng
open Go.IntWalk
theorem Ar {d:List UInt16} {n:Nat} (hv:Nt.val d=n) (hl:d=[]∨65536 ^ (d.length - 1)≤n):d=Nt.of n:=by
 rw [←hv,Nt.dr]
 rcases hl with h | h
 ·rw [h];rfl
 ·by_cases h0:d=[]
  ·rw [h0];rfl
  ·have Nn:=List.length_pos_iff.2 h0
   rw [lV h0]
   simp only [Bool.not_eq_true',decide_eq_false_iff_not]
   intro e0
   have Ft:=dn d (d.length - 1) (by omega)
   rw [show d.length - 1+1=d.length by omega,List.take_length,e0] at Ft
   have fO:=Nt.gW (d.take (d.length - 1))
   rw [aF,Nat.min_eq_left (by omega)] at fO
   have Mv:(0:UInt16).toNat=0:=rfl
   rw [Mv,Nat.mul_zero] at Ft
   omega
theorem Il {a:List UInt16} (hn:Nt.norm a=true) (h0:a≠[]):65536 ^ (a.length - 1)≤Nt.val a:=by
 obtain ⟨h1,h2⟩:=lU hn h0
 have:65536 ^ (a.length - 1) * 1≤65536 ^ (a.length - 1) * (a.getD (a.length - 1) 0).toNat:=Nat.mul_le_mul_left _ h1
 omega
theorem cE.ju (a b:List UInt16) (ha:a.length≤1000000) (Cq:b.length≤a.length) (hn:Nt.norm a=true):∀(m i:Nat) (d:List UInt16) (k:Nat),i+m=a.length→d.length=i→k≤1→Nt.val d+65536 ^ i * k=Nt.val (a.take i)+Nt.val (b.take i) →
  cE.l2 b k a.length i (d++a.drop i)=some [.sl .ws (Nt.of (Nt.val a+Nt.val b))]:=by
 intro m
 induction m with
 | zero =>
  intro i d k hi hl hk hv
  have hi:i=a.length:=hi
  subst hi
  refine cE.iw _ _ _ _ _ ?_
  intro v1 h1 v2 h2 v3 h3 v4 h4 v5 h5 v6 h6
  rw [List.take_of_length_le (Nat.le_refl _),List.take_of_length_le Cq] at hv
  rw [ab (by omega),ae,List.drop_length,bj]
  by_cases c0:k=0
  ·subst c0
   rw [Nat.mul_zero,Nat.add_zero] at hv
   have:d=Nt.of (Nt.val a+Nt.val b):=Ar hv (by
    by_cases h0:a=[]
    ·left;rw [h0] at hl;exact List.length_eq_zero_iff.1 hl
    ·right;rw [hl];have:=Il hn h0;omega)
   rw [ab (by omega),ae,cE.uy,←this]
  ·have O3:k=1:=by omega
   subst O3
   have e6:v6=[(1:UInt16)]:=h6
   rw [aa (by omega),ai,e6,bw (dW (by rw [az];omega) (by rw [az];omega)),cE.uy]
   have hv2:Nt.val (d++[1])=Nt.val a+Nt.val b:=by
    rw [Nt.fJ,hl,←hv];rfl
   have:d++[1]=Nt.of (Nt.val a+Nt.val b):=Ar hv2 (.inr (by
    rw [ao,az,Nat.add_sub_cancel,hl];omega))
   rw [this]
 | succ m ih =>
  intro i d k hi hl hk hv
  refine cE.iw _ _ _ _ _ ?_
  intro v1 h1 v2 h2 v3 h3 v4 h4 v5 h5 v6 h6
  rw [aj] at h1 h3
  have Ns:a.drop i=a.getD i 0 :: a.drop (i+1):=drop_cons (by omega) 0
  have hL:(d++a.drop i).length=a.length:=by rw [ao,aU];omega
  have e1:v1=a.getD i 0:=by
   rw [h1,af,aS (by omega),hl,Nat.sub_self,Ns];rfl
  have hd:=v1.toNat_lt
  have hd3:=v3.toNat_lt
  rw [i64_in _ (by omega)] at h2 h4
  have hx:bB (i:Int) (d++a.drop i).length=true:=bK (by omega) (by omega)
  have KE:decide ((i:Int).toNat<(d++a.drop i).length)=true:=aa (by omega)
  have GC:∀y:UInt16,(d++a.drop i).set i y=(d++[y])++a.drop (i+1):=fun y=>by
   rw [List.set_append_right _ _ (by omega),hl,Nat.sub_self,Ns,aG];rfl
  have next:∀q:Nat,q≤131071→q=k+v1.toNat+(if i<b.length then (b.getD i 0).toNat else 0)→cE.j3 b q i a.length i (d++a.drop i)=some [.sl .ws (Nt.of (Nt.val a+Nt.val b))]:=by
   intro q AI hq
   refine cE.oY _ _ _ _ _ _ ?_
   intro w1 g1 w2 g2 w3 g3
   rw [aj,mT,GC] at g1
   have e2:w2=((q / 65536:Nat):Int):=by rw [g2];exact vJ q
   have e3:w3=((i+1:Nat):Int):=by rw [g3,i64_in _ (by omega)];omega
   rw [hx,KE,bQ,bQ,g1,e2,e3]
   refine ih (i+1) _ _ (by omega) (by rw [ao,hl];rfl) (by omega) ?_
   have hb:Nt.val (b.take (i+1))=Nt.val (b.take i)+65536 ^ i * (if i<b.length then (b.getD i 0).toNat else 0):=by
    by_cases c:i<b.length
    ·rw [aw c,dn b i c]
    ·rw [au c,List.take_of_length_le (by omega),List.take_of_length_le (by omega)];omega
   rw [hb,dn a i (by omega),←e1,Nt.fJ,hl]
   simp only [Nt.val,Nat.mul_zero,Nat.add_zero,Nt.dz]
   rw [Nat.pow_succ,Nat.mul_assoc,Nat.add_assoc,←Nat.mul_add]
   have:q % 65536+65536 * (q / 65536)=q:=Nat.mod_add_div q 65536
   rw [this,hq,Nat.mul_add,Nat.mul_add]
   omega
  rw [aa (by omega),ai,hx,KE,bQ,bQ]
  by_cases c:i<b.length
  ·have e5:v5=((k+v1.toNat+v3.toNat:Nat):Int):=by
    rw [h5,h2,h4,i64_in ((k:Int)+v1.toNat) (by omega),i64_in _ (by omega)];omega
   rw [aa (by omega),ai,bw (bK (by omega) (by omega)),e5]
   exact next _ (by omega) (by rw [aw c,h3])
  ·have e5:IntKind.i64.wrap ((k:Int)+v2)=((k+v1.toNat:Nat):Int):=by rw [h2,i64_in _ (by omega)];omega
   rw [ab (by omega),ae,e5]
   exact next _ (by omega) (by rw [au c,Nat.add_zero])
theorem cE.goal (a b:List UInt16) (hp:(Nt.is a&&Nt.is b)=true):cE.F a b=some [.sl .ws (Nt.of (Nt.val a+Nt.val b))]:=by
 rw [ah] at hp
 obtain ⟨ha,hb⟩:=hp
 have la:=Nt.iY ha
 have lb:=Nt.iY hb
 refine cE.bZ _ _ ?_
 intro v1 h1
 have e1:v1=false:=by rw [h1,ha,hb];rfl
 have key:∀a b:List UInt16,Nt.is a=true→Nt.is b=true→b.length≤a.length→cE.j1 a b=some [.sl .ws (Nt.of (Nt.val a+Nt.val b))]∧True:=fun a b ha hb h=>⟨by
  have la:=Nt.iY ha
  have:=cE.ju a b (by omega) h (Nt.iS ha) a.length 0 [] 0 (by omega) rfl (by omega) (by simp [Nt.val])
  rw [bh,bq] at this
  rw [cE.lp]
  first
  | (rw [bw (dW (by omega) (by omega))];exact this)
  ,trivial⟩
 rw [bw (aa (by omega)),ha,bw (by rw [aa (show b.length≤1099511627776 by omega)];rfl),bw (by rfl),bw (by rfl),e1,ae]
 by_cases c:(a.length:Int)<b.length
 ·rw [aa c,ai]
  first
  | exact ((key b a hb ha (by omega)).1).trans (by rw [Nat.add_comm])
  | exact (key a b ha hb (by omega)).1
 ·rw [ab c,ae]
  first
  | exact (key a b ha hb (by omega)).1
  | exact ((key b a hb ha (by omega)).1).trans (by rw [Nat.add_comm])
theorem EC {n:Nat} (h:10000≤n):Nr.dec n=Nr.dec (n / 10000)++(Sh.dU (4 - ((Nr.dec (n % 10000)).length:Int))++Nr.dec (n % 10000)):=by
 obtain ⟨q1,q2,q3,q4⟩:=Nr.lC (n / 10000)
 obtain ⟨r1,r2,r3,r4⟩:=Nr.lC (n % 10000)
 have rl:=Nr.ik 4 (n % 10000) (by show n % 10000<10000;omega) (by omega)
 have hz:=Sh.pD (4 - ((Nr.dec (n % 10000)).length:Int))
 have BN:(Sh.dU (4 - ((Nr.dec (n % 10000)).length:Int))++Nr.dec (n % 10000)).length=4:=by
  unfold Sh.dU;rw [ao,List.length_replicate];omega
 have Ov:Nr.num (Sh.dU (4 - ((Nr.dec (n % 10000)).length:Int)))=0:=Nr.jt _
 have hnum:Nr.num (Nr.dec (n / 10000)++(Sh.dU (4 - ((Nr.dec (n % 10000)).length:Int))++Nr.dec (n % 10000)))=n:=by
  rw [Nr.gC,BN,Nr.gC,Ov,q2,r2,Nat.zero_mul,Nat.zero_add]
  show n / 10000 * 10000+_=n
  omega
 have hu:=Nr.sX _ (Nr.dec (n / 10000)++(Sh.dU (4 - ((Nr.dec (n % 10000)).length:Int))++Nr.dec (n % 10000))) rfl (by rw [List.all_append,List.all_append,q1,hz,r1];rfl) (by simp [q3]) (by
  rw [af,List.getElem?_append_left (List.length_pos_iff.2 q3),←af];exact q4 (by omega))
 rw [hnum] at hu
 exact hu.symm
theorem Dh {n K:Nat} (h:n<10000 ^ K):(Nt.of n).length≤K:=(Nt.js n K).2 (Nat.lt_of_lt_of_le h (Nat.pow_le_pow_left (by omega) K))
theorem cS.cW:∀(K n:Nat) (ps:List bz),n<10000 ^ K→(n=0→ps≠[])→ps.length+K≤5000→(ps.map List.length).sum≤4 * ps.length →
  cS.l1 (Nt.of n) ps=some [.s ((if n=0 then [] else Nr.dec n)++ps.reverse.flatten)]:=by
 intro K
 induction K with
 | zero =>
  intro n ps hn h0 hl hs
  have Qh:n=0:=by rw [Nat.pow_zero] at hn;omega
  exact fin n ps Qh (h0 Qh) (by omega) hs
 | succ K ih =>
  intro n ps hn h0 hl hs
  by_cases c:n=0
  ·exact fin n ps c (h0 c) (by omega) hs
  ·refine cS.bV _ _ ?_
   intro v1 h1 v2 h2 v3 h3 v4 h4 v5 h5 v6 h6
   rw [Nt.eu] at h1 h2
   have h1:v1=Nt.of (n / 10000):=h1
   have e2:v2.toNat=n % 10000:=by
    rw [h2,Nt.dz];show n % 10000 % 65536=_;omega
   have e3:v3=((n % 10000:Nat):Int):=by rw [h3,e2,i64_in _ (by omega)]
   have ei:Nr.itoa v3=Nr.dec (n % 10000):=by rw [(Sh.nM (by omega)).1,e3,aj]
   have i3:Nr.i64 v3=true:=aa (by omega)
   have rl:=Nr.ik 4 (n % 10000) (by show n % 10000<10000;omega) (by omega)
   have e5:v5=4 - ((Nr.dec (n % 10000)).length:Int):=by rw [h5,h4,ei,i64_in _ (by omega)]
   have hL:=Dh hn
   have oy:0<(Nt.of n).length:=by rw [Nt.kG (by omega)];simp
   have hq:n / 10000<10000 ^ K:=by
    rw [Nat.div_lt_iff_lt_mul (by omega),←Nat.pow_succ];exact hn
   have iA:((10000:UInt16)≠0):=by decide
   rw [aa (show (0:Int)<((Nt.of n).length:Int) by omega),ai,bw (aa ⟨by omega,iA⟩),i3,bQ,h1]
   by_cases c1:n / 10000=0
   ·rw [c1,Nt.ij]
    rw [ab (by simp),ae,cS.jZ,bw (dW (by rw [az];omega) (by rw [az];omega)),ei]
    have:=ih 0 (ps++[Nr.dec (n % 10000)]) (by exact Nat.pow_pos (by omega)) (fun _=>by simp) (by rw [ao,az];omega) (by
     rw [List.map_append,List.sum_append,ao,az]
     simp only [aX,List.map_nil,List.sum_cons,List.sum_nil];omega)
    rw [Nt.ij] at this
    rw [this,aw rfl,au c,List.reverse_append,List.reverse_singleton,List.singleton_append,List.flatten_cons,show n % 10000=n by omega];rfl
   ·have OO:0<(Nt.of (n / 10000)).length:=by rw [Nt.kG (by omega)];simp
    have BN:(Sh.dU v5).length≤4:=by unfold Sh.dU;rw [List.length_replicate];omega
    have e6:v6.length=4:=by
     rw [h6,ei,e5];unfold Sh.dU;rw [ao,List.length_replicate];omega
    rw [aa (by omega),ai,bw (aa ⟨rfl,by omega,by omega⟩),bw (aa (by rw [ei];omega)),cS.jZ,bw (dW (by rw [az];omega) (by rw [az];omega))]
    rw [ih (n / 10000) (ps++[v6]) hq (fun h=>(c1 h).elim) (by rw [ao,az];omega) (by
     rw [List.map_append,List.sum_append,ao,az]
     simp only [aX,List.map_nil,List.sum_cons,List.sum_nil];omega)]
    rw [au c1,au c,List.reverse_append,List.reverse_singleton,List.singleton_append,List.flatten_cons,EC (show 10000≤n by omega),h6,ei,e5]
    simp only [aG]
where
 fin (n:Nat) (ps:List bz) (h:n=0) (h0:ps≠[]) (hl:ps.length≤5000) (hs:(ps.map List.length).sum≤4 * ps.length):cS.l1 (Nt.of n) ps=some [.s ((if n=0 then [] else Nr.dec n)++ps.reverse.flatten)]:=by
  subst h
  rw [Nt.ij]
  refine cS.bV _ _ ?_
  intro v1 h1 v2 h2 v3 h3 v4 h4 v5 h5 v6 h6
  have he:ps.isEmpty=false:=by cases ps <;> simp at h0 ⊢
  have hf:ps.reverse.flatten.length≤20000:=by
   rw [List.length_flatten,List.map_reverse,List.sum_reverse];omega
  rw [ab (by simp),ae,bw (aa (show ps.length≤100000 by omega))]
  rw [bw (aa ⟨rfl,by rw [List.length_reverse];omega,by omega⟩),aw rfl];rfl
theorem FJ:(2:Nat) ^ 4096≤10000 ^ 2000:=by decide +kernel
theorem cS.goal (a:List UInt16) (hp:Nt.is a=true):cS.F a=some [.s (Sh.pM (Nt.val a))]:=by
 have hl:=Nt.iY hp
 rw [cS.eJ,bw (aa (by omega)),hp,Sh.tW]
 refine Eq.trans (b:=_) (ae _ _) ?_
 by_cases c:a=[]
 ·subst c
  show _=some [TV.s (Nr.dec 0)]
  rw [Nr.kB (by omega)];rfl
 ·have h0:=List.length_pos_iff.2 c
  have oy:=Nt.oR (Nt.iS hp) c
  rw [ab (by omega),ae]
  have:=cS.cW 2000 (Nt.val a) [] (Nat.lt_of_lt_of_le (Nt.is_lt hp) FJ) (fun h=>by omega) (by simp) (by simp)
  rw [Nt.dr (Nt.iS hp),au (by omega)] at this
  rw [this];simp
end Go.Eng
set_option maxRecDepth 20000
namespace Go.Eng
open Go.IntWalk
theorem G0 {n k p:Nat} (hp:p=10 ^ k) (hk:1≤k) (h:p≤n):Nr.dec n=Nr.dec (n / p)++(Sh.dU ((k:Int) - ((Nr.dec (n % p)).length:Int))++Nr.dec (n % p)):=by
 have Jn:0<p:=by rw [hp];exact Nat.pow_pos (by omega)
 obtain ⟨q1,q2,q3,q4⟩:=Nr.lC (n / p)
 obtain ⟨r1,r2,r3,r4⟩:=Nr.lC (n % p)
 have rl:=Nr.ik k (n % p) (by rw [←hp];exact Nat.mod_lt _ Jn) hk
 have hz:=Sh.pD ((k:Int) - ((Nr.dec (n % p)).length:Int))
 have BN:(Sh.dU ((k:Int) - ((Nr.dec (n % p)).length:Int))++Nr.dec (n % p)).length=k:=by
  unfold Sh.dU;rw [ao,List.length_replicate];omega
 have Ov:Nr.num (Sh.dU ((k:Int) - ((Nr.dec (n % p)).length:Int)))=0:=Nr.jt _
 have hnum:Nr.num (Nr.dec (n / p)++(Sh.dU ((k:Int) - ((Nr.dec (n % p)).length:Int))++Nr.dec (n % p)))=n:=by
  rw [Nr.gC,BN,Nr.gC,Ov,q2,r2,Nat.zero_mul,Nat.zero_add,←hp]
  exact Nat.div_add_mod' n p
 have hu:=Nr.sX _ (Nr.dec (n / p)++(Sh.dU ((k:Int) - ((Nr.dec (n % p)).length:Int))++Nr.dec (n % p))) rfl (by rw [List.all_append,List.all_append,q1,hz,r1];rfl) (by simp [q3]) (by
  rw [af,List.getElem?_append_left (List.length_pos_iff.2 q3),←af];exact q4 (Nat.div_pos h Jn))
 rw [hnum] at hu
 exact hu.symm
theorem Ij {N:Nat} (hl:(Nr.dec N).length≤1000):cO.j2 (Nr.dec N)=some [.s (Nr.dec N)]:=by
 obtain ⟨q1,q2,q3,q4⟩:=Nr.lC N
 have LR:=Nr.kT N
 refine cO.jg _ ?_
 intro v1 h1 v2 h2 v3 h3
 have e1:v1=((Nr.dec N).length - 1:Nat):=by rw [h1,i64_in _ (by omega)];omega
 have e2:v2=(Nr.dec N).take ((Nr.dec N).length - 1):=by
  rw [h2,e1,aj]
  unfold Lib.trimLeftS
  by_cases c:N<10
  ·rw [Nr.kB c];rfl
  ·have Pt:=q4 (by omega)
   have hlen:2≤(Nr.dec N).length:=by
    rw [Nr.pq c,ao]
    have:=Nr.kT (N / 10)
    simp;omega
   generalize Nr.dec N=s at *
   match s,hlen,Pt with
   | x :: y :: r,_,Pt =>
    have hx:x≠48:=Pt
    simp [hx]
 have e3:v3=Nr.dec N:=by rw [h3,e2,e1,aj,List.take_append_drop]
 rw [bw (jm (by omega) (by omega) (by omega)),bw ?_,bw (jm (by omega) (by omega) (by omega)),bw (aa ?_),e3]
 ·rw [e2,e1,aj];simp only [aF,aU];omega
 ·rw [ah]
  refine ⟨aa ⟨?_,by decide⟩,by decide⟩
  simp only [aF];omega
theorem t19:(10:Nat) ^ 19=10000000000000000000:=by decide
theorem t20:(10:Nat) ^ 20=100000000000000000000:=by decide
theorem t38:(10000000000000000000:Nat) ^ 2=100000000000000000000000000000000000000:=by decide
theorem t40:(10:Nat) ^ 40=10000000000000000000000000000000000000000:=by decide
theorem R3:(10000000000000000000:UInt64).toNat=10000000000000000000:=rfl
theorem cO.cW:∀(k:Nat) (a:dy) (t:bz),a.val<18446744073709551616 * 10000000000000000000 ^ k→(t=[]∨1≤a.val)→t.length+20 * k≤900→cO.l1 t a.high a.low=cO.j2 (Nr.dec a.val++t):=by
 have last:∀(a:dy) (t:bz),a.high=0→(t=[]∨1≤a.val)→t.length≤900→cO.l1 t a.high a.low=cO.j2 (Nr.dec a.val++t):=fun a t h0 ht hl=>by
  refine cO.bV _ _ _ ?_
  intro v1 h1 v2 h2 v3 h3 v4 h4 v5 h5 v6 h6
  have hv:a.val=a.low.toNat:=by rw [dy.jH,h0];show 0 * _+_=_;omega
  have hd:=Nr.ik 20 a.low.toNat (by rw [t20];have:=a.low.toNat_lt;omega) (by omega)
  rw [aa h0,aH,ae,bw (by cases decide (t=([]:bz)) <;> rfl),bw (by cases decide (t=([]:bz)) <;> rfl),bw (H4 _)]
  have e6:v6=true:=by
   rw [h6]
   rcases ht with rfl | ht
   ·rfl
   ·rw [ab (p:=a.low=0) (fun e=>by rw [hv,e] at ht;exact absurd ht (by decide))]
    cases decide (t=([]:bz)) <;> rfl
  rw [e6,ai,bw (by rfl),bw (aa (by omega)),hv]
 intro k
 induction k with
 | zero =>
  intro a t h ht hl
  refine last a t (fI ?_) ht (by omega)
  rw [dy.jH] at h
  show _=0
  omega
 | succ k ih =>
  intro a t h ht hl
  by_cases h0:a.high=0
  ·exact last a t h0 ht (by omega)
  have Ju:18446744073709551616≤a.val:=by
   rw [dy.jH]
   have:0<a.high.toNat:=by
    rcases Nat.eq_zero_or_pos a.high.toNat with e | e
    ·exact (h0 (fI e)).elim
    ·exact e
   omega
  refine cO.bV _ _ _ ?_
  intro v1 h1 v2 h2 v3 h3 v4 h4 v5 h5 v6 h6
  rw [R3] at h1 h2
  have hm:=Nat.mod_lt a.val (show 0<10000000000000000000 by omega)
  have e1:v1=dy.of (a.val / 10000000000000000000):=h1
  have e2:v2.toNat=a.val % 10000000000000000000:=by rw [h2];show (UInt64.ofNat (a.val % 10000000000000000000)).toNat=_;rw [fc];omega
  have LH:a.val<340282366920938463463374607431768211456:=by rw [dy.jH];have:=a.high.toNat_lt;have:=a.low.toNat_lt;omega
  have ev:v1.val=a.val / 10000000000000000000:=by rw [e1,Lb (by omega)]
  have hd:=Nr.ik 19 (a.val % 10000000000000000000) (by rw [t19];exact hm) (by omega)
  have hd1:=Nr.kT (a.val % 10000000000000000000)
  rw [e2] at h3 h5
  have e4:v4=(19:Nat) - ((Nr.dec (a.val % 10000000000000000000)).length:Int):=by rw [h4,h3,i64_in _ (by omega)];rfl
  have hz:(Sh.dU v4).length=v4.toNat:=by unfold Sh.dU;rw [List.length_replicate]
  have U5:v5.length≤20:=by rw [h5,ao,hz];omega
  rw [ab h0,aM,ai,bw (by rfl),bw (by rfl),bw (aa ⟨rfl,by omega,by omega⟩),e2,bw (aa (by rw [hz];omega)),bw (aa (by omega))]
  rw [ih v1 (v5++t) (by rw [ev,Nat.div_lt_iff_lt_mul (by omega),Nat.mul_assoc,←Nat.pow_succ];exact h) (.inr (by rw [ev];omega)) (by rw [ao];omega),ev,
   G0 (n:=a.val) (k:=19) (p:=10000000000000000000) (by decide) (by omega) (by omega),h5,e4,aG,aG,aG]
theorem cO.goal (a:dy):cO.F a=some [.s (Nr.dec a.val)]:=by
 have LH:a.val<340282366920938463463374607431768211456:=by rw [dy.jH];have:=a.high.toNat_lt;have:=a.low.toNat_lt;omega
 rw [cO.eJ,cO.cW 2 a [] (by rw [t38];omega) (.inl rfl) (by simp),bj]
 exact Ij (Nat.le_trans (Nr.ik 40 a.val (by rw [t40];omega) (by omega)) (by omega))
end Go.Eng
set_option maxRecDepth 20000
namespace Go.Eng
open Go.IntWalk
theorem pB (n:Int):Sh.dU n=List.replicate n.toNat 48:=rfl
theorem df.goal (d:bz) (x:Int) (hp:(decide (1≤d.length∧d.length≤40∧-10000≤x∧x≤100000))=true):df.F d x=some [.s (Cn.laid d x)]:=by
 obtain ⟨l1,l2,x1,x2⟩:=ar hp
 refine df.bZ _ _ ?_
 intro v1 h1 v2 h2 v3 h3 v4 h4 v5 h5 v6 h6 v7 h7 v8 h8
 unfold Cn.laid
 simp only
 by_cases c0:x=0
 ·rw [aa c0,ai,aw c0]
 rw [ab c0,ae,au c0,bw (iJ _),bw (iJ _)]
 have e1:v1=x+d.length:=by rw [h1,i64_in _ (by omega)]
 have e2:v2=x+d.length - 1:=by rw [h2,e1,i64_in _ (by omega)]
 have e3:v3=decide (x<0∧-6≤x+d.length - 1):=by rw [h3,e2,Bool.decide_and,uV]
 have e5:v5=1 - x - d.length:=by rw [h5,h4,i64_in (1 - x) (by omega),i64_in _ (by omega)]
 have en:IntKind.i64.wrap (0 - x)=-x:=by rw [i64_in _ (by omega)];omega
 rw [e3,en]
 by_cases c1:x<0∧-6≤x+d.length - 1
 ·rw [aa c1,ai,aw c1]
  have key:∀s:bz,s.length≤200→-x≤s.length→df.j1 s x (s.length:Int)=some [.s (s.take (s.length+x).toNat++46 :: s.drop (s.length+x).toNat)]:=fun s hs hx=>by
   refine df.iI _ _ _ ?_
   intro w1 g1 w2 g2
   have e:IntKind.i64.wrap ((s.length:Int)+x)=s.length+x:=i64_in _ (by omega)
   rw [e] at g1 g2 ⊢
   rw [bw (jm (by omega) (by omega) (by omega)),bw (aa ?_),bw (jm (by omega) (by omega) (by omega)),bw (aa ?_),g1,g2]
   ·simp
   ·rw [g1,g2];simp;omega
   ·rw [g1];simp;omega
  by_cases c2:(d.length:Int)≤-x
  ·rw [aa c2,ai,aw c2,bw (aa ⟨by trivial,by omega,by omega⟩),bw (aa (by rw [pB,List.length_replicate];omega)),h6,e5]
   exact key _ (by rw [ao,pB,List.length_replicate];omega) (by rw [ao,pB,List.length_replicate];omega)
  ·rw [ab c2,ae,au c2]
   exact key _ (by omega) (by omega)
 ·rw [ab c1,ae,au c1,bw (jm (by omega) (by omega) (by omega))]
  have e7:v7=d.take 1:=h7
  have e8:v8=d.drop 1:=h8
  have key:∀s:bz,s.length≤200→df.j2 v2 s=some [.s (if x+d.length - 1<0 then s++[69,45]++Nr.itoa (-(x+d.length - 1)) else s++[69,43]++Nr.itoa (x+d.length - 1))]:=fun s hs=>by
   refine df.jg _ _ ?_
   intro w1 g1 w2 g2 w3 g3
   have hi:∀v:Int,-1000000≤v→v≤1000000→Nr.i64 v=true∧(Nr.itoa v).length≤30:=fun v a b=>by
    refine ⟨aa (by omega),?_⟩
    rw [Nr.nN]
    have:=Nr.ik 20 v.natAbs (by rw [t20];omega) (by omega)
    split
    ·simp only [ay];omega
    ·omega
   have ew:IntKind.i64.wrap (0 - v2)=-(x+d.length - 1):=by rw [e2,i64_in _ (by omega)];omega
   rw [ew] at g1 ⊢
   rw [g2,g3,g1,e2]
   by_cases c:x+(d.length:Int) - 1<0
   ·rw [aa c,ai,aw c,bw (aa (by simp;omega)),bw (hi _ (by omega) (by omega)).1,bw (aa ?_)]
    have:=(hi (-(x+d.length - 1)) (by omega) (by omega)).2
    simp;omega
   ·rw [ab c,ae,au c,bw (aa (by simp;omega)),bw (hi _ (by omega) (by omega)).1,bw (aa ?_)]
    have:=(hi (x+d.length - 1) (by omega) (by omega)).2
    simp;omega
  by_cases c2:(1:Int)<d.length
  ·rw [aa c2,ai,aw c2,bw (jm (by omega) (by omega) (by omega)),bw (aa (by rw [e8];simp;omega)),bw (aa (by rw [e8,e7];simp;omega)),e7,e8]
   exact key _ (by simp;omega)
  ·rw [ab c2,ae,au c2,e7]
   exact key _ (by simp;omega)
theorem rU (h l:UInt64):(Cn.split h l).2.2.1.val<10000000000000000000000000000000000:=by
 have z:dy.val ⟨0,0⟩=0:=by rw [dy.jH];rfl
 rw [Cn.rT]
 unfold Cn.pO
 simp only
 split
 ·rw [z];omega
 split
 ·rw [z];omega
 split
 ·rw [z];omega
 ·dsimp only
  split
  ·assumption
  ·rw [z];omega
theorem t34:(10:Nat) ^ 34=10000000000000000000000000000000000:=by decide
theorem uM {d:bz} {x:Int} (h1:d.length≤40) (h2 : -10000≤x) (h3:x≤100000):(Cn.laid d x).length≤20000:=by
 unfold Cn.laid
 simp only
 have hi:∀v:Int,-1000000≤v→v≤1000000→(Nr.itoa v).length≤30:=fun v a b=>by
  rw [Nr.nN]
  have:=Nr.ik 20 v.natAbs (by rw [t20];omega) (by omega)
  split
  ·simp only [ay];omega
  ·omega
 have i1:=hi (-(x+d.length - 1)) (by omega) (by omega)
 have i2:=hi (x+d.length - 1) (by omega) (by omega)
 have tl:(if (1:Int)<(d.length:Int) then d.take 1++46 :: d.drop 1 else d.take 1).length≤60:=by
  split <;> simp <;> omega
 split
 ·omega
 split
 ·split <;> simp <;> omega
 ·split <;> rw [ao,ao] <;> simp only [ay,aB] <;> omega
theorem dR.goal (h l:UInt64):dR.F h l=some [.s (Cn.sW h l)]:=by
 refine dR.bZ _ _ ?_
 intro v1 h1 v2 h2
 have hx:=pN h l
 have hc:=rU h l
 have hd:=Nr.ik 34 _ (by rw [t34];exact hc) (by omega)
 have hd1:=Nr.kT (Cn.split h l).2.2.1.val
 unfold Cn.sW
 simp only
 by_cases c1:(Cn.split h l).1=3
 ·rw [aa c1,ai,aw c1]
 rw [ab c1,ae,au c1]
 have key:∀t:bz,t.length≤20000→dR.j1 (Cn.split h l).2.1 t=some [.s (cond (Cn.split h l).2.1 (45 :: t) t)]:=fun t ht=>by
  rw [dR.lp]
  cases (Cn.split h l).2.1 with
  | true=>rw [ai,bw (aa (by simp;omega))];rfl
  | false=>rfl
 by_cases c2:(Cn.split h l).1=2
 ·rw [aa c2,ai,aw c2];exact key _ (by decide)
 rw [ab c2,ae,au c2,bw (aa (by rw [h1];omega)),h2,h1]
 exact key _ (uM (by omega) (by omega) (by omega))
end Go.Eng
set_option maxRecDepth 20000
namespace Go.Eng
open Go.IntWalk
theorem IF:Cn.CP.length=64:=rfl
theorem tZ (n:UInt8) (h:n.toNat<64):bB (n.toNat:Int) Cn.CP.length=true:=bK (by omega) (by rw [IF];omega)
theorem Lj (x:UInt8) (k:Nat):(kX x k).toNat=x.toNat / 2 ^ k:=by
 unfold kX
 rw [UInt8.toNat_ofNat']
 exact Nat.mod_eq_of_lt (Nat.lt_of_le_of_lt (Nat.div_le_self ..) x.toNat_lt)
theorem Ki (x:UInt8):(kX x 2).toNat<64:=by rw [Lj];have:=x.toNat_lt;omega
theorem Hc (x:UInt8):(x &&& (63:UInt8)).toNat<64:=by
 rw [UInt8.toNat_and,show (63:UInt8).toNat=2 ^ 6 - 1 from rfl,Nat.and_two_pow_sub_one_eq_mod];omega
theorem H6 (x:UInt8):(mJ (x &&& 3) 4).toNat<64∧16 ∣ (mJ (x &&& 3) 4).toNat:=by
 have h:(x &&& (3:UInt8)).toNat=x.toNat % 4:=by rw [UInt8.toNat_and,show (3:UInt8).toNat=2 ^ 2 - 1 from rfl,Nat.and_two_pow_sub_one_eq_mod]
 unfold mJ
 rw [h,UInt8.toNat_ofNat']
 omega
theorem H7 (x:UInt8):(mJ (x &&& 15) 2).toNat<64∧4 ∣ (mJ (x &&& 15) 2).toNat:=by
 have h:(x &&& (15:UInt8)).toNat=x.toNat % 16:=by rw [UInt8.toNat_and,show (15:UInt8).toNat=2 ^ 4 - 1 from rfl,Nat.and_two_pow_sub_one_eq_mod]
 unfold mJ
 rw [h,UInt8.toNat_ofNat']
 omega
theorem MB {a b:UInt8} (h:a.toNat<64) (k:b.toNat<64):(a ||| b).toNat<64:=by
 rw [UInt8.toNat_or];exact Nat.or_lt_two_pow (n:=6) h k
theorem H5 (x:UInt8) (k:Nat) (h:2≤k):(kX x k).toNat<64:=by
 rw [Lj]
 have h1:x.toNat / 2 ^ k≤x.toNat / 2 ^ 2:=Nat.div_le_div_left (Nat.pow_le_pow_right (by omega) h) (by decide)
 have:=x.toNat_lt
 omega
theorem yp:∀l:bz,(Cn.base l).length≤2 * l.length+4
 | []=>by simp [Cn.base]
 | [_]=>by simp [Cn.base]
 | [_,_]=>by simp [Cn.base]
 | _ :: _ :: _ :: r=>by have:=yp r;simp [Cn.base];omega
theorem cQ.cW:∀(n:Nat) (l t:bz),l.length≤n→l.length≤1099511627776→t.length+2 * l.length≤5000000000000→cQ.l1 l t=some [.s (t++Cn.base l)]:=by
 intro n
 induction n with
 | zero =>
  intro l t h _ _
  have:l=[]:=bc (by omega)
  subst this
  refine cQ.bV _ _ ?_
  intros
  rw [ab (by simp),ae,ab (by simp),ae,ab (by simp),ae,cQ.jZ]
  simp [Cn.base]
 | succ n ih =>
  intro l t h hl ht
  refine cQ.bV _ _ ?_
  intro v1 h1 v2 h2 v3 h3 v4 h4 v5 h5 v6 h6 v7 h7 v8 h8 v9 h9 v10 iA v11 ki v12 jE kW nY jP pA iD o8 mS tO nT xI lO wi
  have e2:v2=kX v1 2:=h2
  have e4:v4=mJ (v1 &&& 3) 4:=h4
  have e6:v6=kX v5 4:=h6
  have e8:v8=mJ (v5 &&& 15) 2:=h8
  have xX:v10=kX v9 6:=iA
  have i1:=tZ v2 (by rw [e2];exact Ki _)
  have i2:=tZ (v4 ||| v6) (MB (by rw [e4];exact (H6 _).1) (by rw [e6];exact H5 _ _ (by omega)))
  have i3:=tZ (v8 ||| v10) (MB (by rw [e8];exact (H7 _).1) (by rw [xX];exact H5 _ _ (by omega)))
  have i4:=tZ (v9 &&& 63) (Hc _)
  have i5:=tZ v4 (by rw [e4];exact (H6 _).1)
  have i6:=tZ v8 (by rw [e8];exact (H7 _).1)
  have s3:v3=Cn.sign v2:=h3
  have s7:v7=Cn.sign (v4 ||| v6):=h7
  have RX:v11=Cn.sign (v8 ||| v10):=ki
  have RW:v12=Cn.sign (v9 &&& 63):=jE
  have RV:iD=Cn.sign v4:=o8
  have RU:nT=Cn.sign v8:=xI
  change bB _ (([65,66,67,68,69,70,71,72,73,74,75,76,77,78,79,80,81,82,83,84,85,86,87,88,89,90,97,98,99,100,101,102,103,104,105,106,107,108,109,110,111,112,113,114,115,116,117,118,119,120,121,122,48,49,50,51,52,53,54,55,56,57,43,47]:bz)).length=true at i1 i2 i3 i4 i5 i6
  rw [i1,i2,i3,i4,i5,i6]
  match l,h,hl,ht with
  | [],_,_,_ =>
   rw [ab (by simp),ae,ab (by simp),ae,ab (by simp),ae,cQ.jZ]
   simp [Cn.base]
  | [a],_,_,ht =>
   have ea:v1=a:=h1
   simp only [ay,aB] at ht
   rw [ab (by simp),ae,aa (by simp),ai,bw (by rfl),bQ,bw (by rfl),bQ,bw (dW (by rw [tO];simp;omega) (by rw [tO];simp;omega)),cQ.jZ]
   rw [tO,s3,RV,e4,e2,ea];rfl
  | [a,b],_,_,ht =>
   have ea:v1=a:=h1
   have eb:v5=b:=h5
   simp only [ay,aB] at ht
   rw [ab (by simp),ae,ab (by simp),ae,aa (by simp),ai,bw (by rfl),bQ,bw (by rfl),bw (by rfl),bQ,bw (by rfl),bQ,bw (dW (by rw [wi];simp;omega) (by rw [wi];simp;omega)),cQ.jZ]
   rw [wi,s3,s7,RU,e8,e6,e4,e2,ea,eb];rfl
  | a :: b :: c :: r,h,hl,ht =>
   have ea:v1=a:=h1
   have eb:v5=b:=h5
   have ec:v9=c:=h9
   have er:jP=r:=pA
   simp only [ay] at h hl ht
   have x:∀k:Int,0≤k→k<3→bB k (a :: b :: c :: r).length=true:=fun k h1 h2=>bK h1 (by simp;omega)
   rw [aa (by simp;omega),ai,bw (x _ (by omega) (by omega)),bQ,bw (x _ (by omega) (by omega)),bw (x _ (by omega) (by omega)),bQ,bw (x _ (by omega) (by omega)),bw (x _ (by omega) (by omega)),bQ,bw (x _ (by omega) (by omega)),bQ,
    bw (dW (by rw [nY];simp;omega) (by rw [nY];simp;omega)),bw (jm (by omega) (by simp;omega) (by simp)),er,
    ih r _ (by omega) (by omega) (by rw [nY];simp;omega)]
   rw [nY,s3,s7,RX,RW,xX,e8,e6,e4,e2,ea,eb,ec,aG];rfl
theorem cQ.goal (b:bz) (hp:(decide (b.length≤1099511627776))=true):cQ.F b=some [.s (Cn.base b)]:=by
 have hp:=ar hp
 rw [cQ.eJ,cQ.cW b.length b [] (Nat.le_refl _) hp (by simp;omega)];rfl
end Go.Eng
set_option maxRecDepth 20000
namespace Go.Eng
open Go.IntWalk
theorem fU.goal (s:bz):fU.F s=some [.ag (bM.cells (Cn.str s))]:=fU.eJ s
theorem gJ.goal (v:Int) (hp:(Nr.i64 v)=true):gJ.F v=some [.ag (bM.cells (Cn.num v))]:=by rw [gJ.eJ,bw hp];rfl
theorem fV.goal (s:bz) (j:bM):fV.F s j=some [.ag (bM.cells (Cn.one s j))]:=by
 refine fV.bZ _ _ ?_
 intro v1 h1
 rw [h1];rfl
theorem fT.goal (s:bz) (j:bM) (t:bz) (k:bM):fT.F s j t k=some [.ag (bM.cells (Cn.two s j t k))]:=by
 refine fT.bZ _ _ _ _ ?_
 intro v1 h1
 rw [h1];rfl
theorem dE.cW (v:UInt64):∀(m:Nat) (b:bz),b.length+m≤100→dE.l1 v (8 * (m:Int) - 8) b=some [.s (lE.text (b++((List.range m).reverse.map fun k=>UInt8.ofInt ((dD v (8 * k)).toNat:Int))))]
 | 0,b,hb=>by
  refine dE.bV _ _ _ ?_
  intro v1 h1 v2 h2
  rw [ab (by omega),ae,bw (aa (by omega))]
  simp
 | m+1,b,hb=>by
  refine dE.bV _ _ _ ?_
  intro v1 h1 v2 h2
  have e2:v2=8 * (m:Int) - 8:=by rw [h2,i64_in _ (by omega)];omega
  have ek:(8 * ((m+1:Nat):Int) - 8).toNat=8 * m:=by omega
  rw [ek] at h1
  rw [aa (by omega),ai,bQ,bw (dW (by simp;omega) (by simp;omega)),e2,dE.cW v m (b++[v1]) (by simp;omega),h1]
  rw [List.range_succ,List.reverse_append]
  simp
theorem dE.goal (v:UInt64):dE.F v=some [.s (Cn.high v)]:=by
 rw [dE.eJ,show (56:Int)=8 * ((8:Nat):Int) - 8 by omega,dE.cW v 8 [] (by simp)]
 rfl
theorem jA:∀l:bz,(lE.text l).length=2 * l.length
 | []=>rfl
 | x :: r=>by
  have:=jA r
  simp only [lE.text,lE.two,ao,ay,aB,this];omega
theorem ny (v:UInt64):(Cn.high v).length≤100:=by
 unfold Cn.high Cn.b8
 rw [jA];simp
theorem eh.goal (v:Val):eh.F v=some [.ag (bM.cells (Cn.nW v).1),.b (Cn.nW v).2]:=by
 refine eh.bZ _ ?_
 intro v1 h1 v2 h2 v3 h3 v4 h4 v5 h5 v6 h6 v7 h7 v8 h8 v9 h9 v10 iA v11 ki v12 jE kW nY jP pA iD o8 mS tO nT xI lO wi qJ BU v20 zF v21 KS v22 KR
 unfold Cn.nW
 have i6:Nr.i64 v6=true:=by rw [h6];exact sR _
 by_cases k1:v.kind=1
 ·rw [aa k1,ai,aw k1,bw (iJ _),bw (iJ _),bw (iJ _),h1,uV]
  cases (decide (Sh.text v.bits=([78,97,78]:bz))&&!decide (v.bits=9221120237041090560)) with
  | true=>rw [ai,aw rfl,h3,h2]
  | false=>rw [ae,au (by simp),h5,h4]
 rw [ab k1,ae,au k1]
 by_cases k2:v.kind=9
 ·rw [aa k2,ai,aw k2,bw i6,h8,h7,h6];rfl
 rw [ab k2,ae,au k2]
 by_cases k3:v.kind=16
 ·rw [aa k3,ai,aw k3,bw (sR _),ki,iA,h9];rfl
 rw [ab k3,ae,au k3]
 by_cases k4:v.kind=18
 ·rw [aa k4,ai,aw k4,bw i6,h7,h6];rfl
 rw [ab k4,ae,au k4]
 by_cases k5:v.kind=17
 ·rw [aa k5,ai,aw k5,bw (by rw [nY];exact sR _),bw (by rw [o8];exact sR _),xI,tO,o8,pA,nY,jE];rfl
 rw [ab k5,ae,au k5]
 by_cases k6:v.kind=19
 ·rw [aa k6,ai,aw k6,wi]
  cases Cn.pX v.high v.low with
  | true=>rw [ai,aw rfl,zF,BU]
  | false =>
   have:=ny v.high
   have:=ny v.low
   rw [ae,au (by simp),bw (aa (by omega)),KR,KS]
 ·rw [ab k6,ae,au k6];rfl
theorem gm.goal (v:Val) (hp:(decide (bJ.bO (bJ.of [] v)≤1099511627776))=true):gm.F v=some [.ag (bM.cells (Cn.qM v))]:=by
 have hp:=ar hp
 have hb:v.bytes.length≤1099511627776:=by
  simp only [bJ.of,bJ.bO] at hp;omega
 refine gm.bZ _ ?_
 intro v1 h1 v2 h2 v3 h3 v4 h4 v5 h5 v6 h6 v7 h7 v8 h8 v9 h9 v10 iA v11 ki v12 jE
 unfold Cn.qM
 by_cases k1:v.kind=5
 ·rw [aa k1,ai,aw k1,bw (aa hb),bw (aa (by rw [h2];simp)),h4,h3,h2,h1]
 rw [ab k1,ae,au k1]
 by_cases k2:v.kind=7
 ·rw [aa k2,ai,aw k2,bw (aa hb),h6,h5]
 rw [ab k2,ae,au k2]
 by_cases k3:v.kind=11
 ·rw [aa k3,ai,aw k3,h8,h7]
 rw [ab k3,ae,au k3]
 by_cases k4:v.kind=12
 ·rw [aa k4,ai,aw k4,bw (aa hb),iA,h9,h6,h5]
 rw [ab k4,ae,au k4]
 by_cases k5:v.kind=13
 ·rw [aa k5,ai,aw k5,ki]
 rw [ab k5,ae,au k5]
 by_cases k6:v.kind=14
 ·rw [aa k6,ai,aw k6,jE]
 rw [ab k6,ae,au k6]
end Go.Eng
set_option maxRecDepth 20000
namespace Go.Eng
open Go.IntWalk
theorem GR:∀f:bJ,1≤bJ.bO f
 | .mk _ _ _ _ _ _ _ _ _ _=>by simp only [bJ.bO];omega
theorem pg:∀l:List bJ,l.length≤bJ.cM l
 | []=>by simp [bJ.cM]
 | f :: r=>by have:=pg r;have:=GR f;simp only [bJ.cM,ay];omega
theorem GQ (f:bJ):bJ.bO (bJ.of [] f.val)≤bJ.bO f:=by
 cases f;simp only [bJ.of,bJ.val,bJ.kind,bJ.bits,bJ.high,bJ.low,bJ.text,bJ.more,bJ.sub,bJ.bytes,bJ.kids,bJ.bO,aB];omega
theorem JR {l:List bJ} {i:Nat} (h:i<l.length) (d:bJ):bJ.bO (l.getD i d)≤bJ.cM l:=by
 induction l generalizing i with
 | nil=>simp at h
 | cons f r ih =>
  cases i with
  | zero=>simp [bJ.cM]
  | succ i=>have:=ih (i:=i) (by simpa using h);simp only [List.getD_cons_succ,bJ.cM];omega
theorem Ed (f:bJ):Cn.nZ f=Cn.wv f.val:=by
 cases f;simp only [Cn.wv,bJ.of,bJ.val,bJ.kind,bJ.bits,bJ.high,bJ.low,bJ.text,bJ.more,bJ.sub,bJ.bytes,bJ.kids,Cn.nZ]
theorem kx:∀l:List bJ,(Cn.fM l).length=l.length
 | []=>by simp [Cn.fM]
 | f :: r=>by simp [Cn.fM,kx r]
theorem cD.cW (n:Nat) (l:List bJ) (hb:bJ.cM l≤1099511627776) (hn:2 * bJ.cM l<n) (x3:Int) (x4:bz) (x7:List Mem):∀(m i:Nat) (acc:List Mem),i+m=l.length→acc.length=i →
  cD.l1 n l (l.length:Int) (i:Int) x3 x4 7 [] x7 acc=some [.ag [.i .i64 7,.s [],.sl .ml (acc++Cn.fM (l.drop i))]]
 | 0,i,acc,hi,ha=>by
  refine cD.bV _ _ _ _ _ _ _ _ _ _ ?_
  intro v1 h1 v2 h2 v3 h3 v4 h4 v5 h5 v6 h6
  rw [ab (by omega),ae,aE (by omega)]
  simp [Cn.fM]
 | m+1,i,acc,hi,ha=>by
  have hlen:=pg l
  refine cD.bV _ _ _ _ _ _ _ _ _ _ ?_
  intro v1 h1 v2 h2 v3 h3 v4 h4 v5 h5 v6 h6
  rw [aj] at h1
  have hf:=JR (l:=l) (i:=i) (by omega) (fe.gk .fl)
  rw [←h1] at hf
  have hv:=GQ v1
  have e6:v6=((i+1:Nat):Int):=by rw [h6,i64_in _ (by omega)];omega
  have cB:((decide (bJ.bO (bJ.of [] (bJ.val v1))≤1099511627776))&&decide ((2 * bJ.bO (bJ.of [] (bJ.val v1)))<n))=true:=by
   rw [ah];exact ⟨aa (by omega),aa (by omega)⟩
  rw [aa (by omega),ai,bw (bK (by omega) (by omega)),bw cB,bw (dW (by rw [h5];simp;omega) (by rw [h5];simp;omega)),e6,
   cD.cW n l hb hn x3 x4 x7 m (i+1) (acc++v5) (by omega) (by rw [h5];simp;omega),drop_cons (l:=l) (i:=i) (by omega) (fe.gk .fl),←h1]
  have e5:v5=[Mem.of v1.name (Cn.nZ v1)]:=by rw [h5,h2,h3,h4,Ed];rfl
  rw [e5,aG]
  simp [Cn.fM]
theorem cD.goal (n:Nat) (l:List bJ) (hp:((decide (bJ.cM l≤1099511627776))&&decide ((2 * bJ.cM l+1)<n+1))=true):cD.F n l=some [.ag (bM.cells (Cn.oA l))]:=by
 rw [ah] at hp
 have h1:=ar hp.1
 have h2:=ar hp.2
 rw [cD.eJ]
 exact cD.cW n l h1 (by omega) 0 [] [] l.length 0 [] (by omega) rfl
theorem di.cW (n:Nat) (x2:Int) (x3:bz) (x5:bz) (x6:List Mem) (l:List Mem) (hl:l.length≤1099511627776):∀(m i:Nat) (acc:List Mem),i+m=l.length→acc=(l.take i).map Cn.sz++l.drop i →
  di.l1 n (l.length:Int) (i:Int) x2 x3 6 x5 x6 acc=some [.ag [.i .i64 6,.s x5,.sl .ml (l.map Cn.sz)]]
 | 0,i,acc,hi,ha=>by
  refine di.bV _ _ _ _ _ _ _ _ _ ?_
  intro v1 h1 v2 h2
  rw [ab (by omega),ae,ha,aE (by omega),List.take_of_length_le (by omega),bj]
 | m+1,i,acc,hi,ha=>by
  have Pf:acc.length=l.length:=by rw [ha];simp;omega
  have tt:i<l.length:=by omega
  refine di.bV _ _ _ _ _ _ _ _ _ ?_
  intro v1 h1 v2 h2
  rw [aj] at h1 ⊢
  have e2:v2=((i+1:Nat):Int):=by rw [h2,i64_in _ (by omega)];omega
  rw [aa (by omega),ai,bw (bK (by omega) (by omega)),bw (aa (by omega)),e2]
  refine di.cW n x2 x3 x5 x6 l hl m (i+1) v1 (by omega) ?_
  have eg:acc.getD i (fe.gk .ml)=l[i]:=by
   rw [ha,af,aS (by simp;omega)]
   simp only [bf,aF,Nat.min_eq_left (Nat.le_of_lt tt),Nat.sub_self,List.getElem?_drop,Nat.add_zero]
   rw [aq tt];rfl
  rw [h1,eg,ha,List.set_append_right _ _ (by simp;omega)]
  simp only [bf,aF,Nat.min_eq_left (Nat.le_of_lt tt),Nat.sub_self]
  rw [List.drop_eq_getElem_cons tt,List.set_cons_zero,List.take_succ_eq_append_getElem tt,List.map_append,aG]
  rfl
theorem di.goal (n:Nat) (v:Val) (hp:((decide (bJ.bO (bJ.of [] v)≤1099511627776))&&decide ((2 * bJ.bO (bJ.of [] v))<n+1))=true):di.F n v=some [.ag (bM.cells (Cn.wv v))]:=by
 rw [ah] at hp
 have hb:=ar hp.1
 have hn:=ar hp.2
 have hk:bJ.cM v.kids+1≤bJ.bO (bJ.of [] v):=by simp only [bJ.of,bJ.bO];omega
 have hlen:=pg v.kids
 refine di.bZ _ _ ?_
 intro v1 h1 v2 h2 v3 h3 v4 h4 v5 h5 v6 h6 v7 h7 v8 h8 v9 h9 v10 iA v11 ki v12 jE kW nY jP pA iD o8 mS tO
 have cA:((decide (bJ.cM v.kids≤1099511627776))&&decide ((2 * bJ.cM v.kids+1)<n))=true:=by
  rw [ah];exact ⟨aa (by omega),aa (by omega)⟩
 have hd:(⟨v6,v7,v5⟩:bM)=Cn.oA v.kids:=by rw [h5,h6,h7]
 have e5:v5=Cn.fM v.kids:=h5
 have e6:v6=7:=h6
 have e7:v7=[]:=h7
 unfold Cn.wv
 simp only [bJ.of,Cn.nZ]
 by_cases k1:v.kind=3
 ·have e4:v4=Cn.mD v.kids:=by
   rw [h4,h3,h2,h1]
   unfold Cn.mD
   cases v.kids with
   | nil=>rfl
   | cons f r =>
    rw [aa (by simp),ai]
    show List.isPrefixOf [36] f.name=decide (f.name.take 1=[36])
    generalize f.name=s
    cases s with
    | nil=>rfl
    | cons c t =>
     by_cases e:c=36
     ·subst e;simp [List.isPrefixOf]
     ·have e':¬(36:UInt8)=c:=fun h=>e h.symm
      simp [List.isPrefixOf,e,e']
  have ci:(!(decide ((0:Int)<v1)) || ((decide ((0:Int)<v1))&&(bB (0:Int) v.kids.length)))=true:=by
   by_cases c:(0:Int)<v1
   ·rw [bK (by omega) (by omega)];cases decide ((0:Int)<v1) <;> rfl
   ·rw [ab c];rfl
  rw [aa k1,ai,aw k1,bw (iJ _),bw ci,bw (iJ _),bw (iJ _),bw (iJ _),bw (iJ _),bw cA,bw cA,e4,h8,hd,e5,e6,e7]
  cases Cn.mD v.kids <;> rfl
 rw [ab k1,ae,au k1]
 by_cases k2:v.kind=4
 ·rw [aa k2,ai,aw k2,bw cA,bw (aa (by omega)),h9,iA,hd,e5,e7]
  cases Tree.regular v.kids with
  | false=>rfl
  | true =>
   rw [aH,ae,ai]
   have:=di.cW n 0 [] [] [] (Cn.fM v.kids) (by rw [kx];omega) (Cn.fM v.kids).length 0 (Cn.fM v.kids) (by omega) (by simp)
   exact this
 rw [ab k2,ae,au k2]
 by_cases k3:v.kind=15
 ·rw [aa k3,ai,aw k3,bw cA,ki,hd];rfl
 rw [ab k3,ae,au k3]
 have i1:Nr.i64 1=true:=aa (by decide)
 unfold Cn.xl
 by_cases k4:v.kind=6
 ·rw [aa k4,ai,aw k4,jE]
 rw [ab k4,ae,au k4]
 by_cases k5:v.kind=8
 ·rw [aa k5,ai,aw k5,pA,nY];rfl
 rw [ab k5,ae,au k5]
 by_cases k6:v.kind=10
 ·rw [aa k6,ai,aw k6];rfl
 rw [ab k6,ae,au k6]
 by_cases k7:v.kind=255
 ·rw [aa k7,ai,aw k7,bw i1,o8]
 rw [ab k7,ae,au k7]
 by_cases k8:v.kind=127
 ·rw [aa k8,ai,aw k8,bw i1,tO]
 rw [ab k8,ae,au k8]
 show cond (Cn.nW v).2 _ _=some [TV.ag (bM.cells (if (Cn.nW v).2=true then (Cn.nW v).1 else Cn.qM v))]
 cases (Cn.nW v).2 with
 | true=>rw [ai,aw rfl]
 | false=>rw [ae,au (by simp)];exact bw hp.1
theorem fF.goal (v:Val) (hp:(decide (bJ.bO (bJ.of [] v)≤1099511627776))=true):fF.F v=some [.ag (bM.cells (Cn.jf v)),.ag [.i .i64 (Cn.jv v).2,.i .i64 0,.sl .is (Cn.jv v).1]]:=by
 have hb:=ar hp
 have hk:bJ.cM v.kids+1≤bJ.bO (bJ.of [] v):=by simp only [bJ.of,bJ.bO];omega
 refine fF.bZ _ ?_
 intro v1 h1 v2 h2 v3 h3 v4 h4 v5 h5
 rw [bw hp]
 unfold Cn.jf
 by_cases c:(Tree.iT (bJ.of [] v) []).2=0
 ·rw [h2,aa c,aH,ae]
  by_cases k:v.kind=3
  ·have e:Cn.jv v=([],0):=by unfold Cn.jv;rw [au (by simp [c]),aw k]
   rw [aa k,aH,ae,bw (aa (by omega)),e,aw rfl,h3,h4,h5];rfl
  ·have e:Cn.jv v=([],5):=by unfold Cn.jv;rw [au (by simp [c]),au k]
   rw [ab k,aM,ai,e,au (by decide)];rfl
 ·have e:Cn.jv v=Tree.iT (bJ.of [] v) []:=by unfold Cn.jv;rw [aw c]
  rw [h2,ab c,aM,ai,e,au c,h1];rfl
end Go.Eng
set_option maxRecDepth 20000
namespace Go.Eng
open Go.IntWalk
theorem gX.goal (r:Int):gX.F r=some [.b (fy.mA r)]:=by
 refine gX.bZ r ?_
 intro v1 h1 v2 h2 v3 h3
 subst h1 h2 h3
 by_cases a:0≤r <;> by_cases b:r≤1114111 <;> by_cases c:r<55296 <;> simp [ck,a,b,c,fy.mA]
theorem Ko:∀n,n<256→((n &&& 192=128) ↔ (128≤n∧n<192)):=by decide +kernel
theorem MC:∀n,n<256→(128≤n∧n<192)→n &&& 63=n - 128:=by decide +kernel
theorem MD:∀n,n<256→(192≤n∧n<224)→n &&& 31=n - 192:=by decide +kernel
theorem MF:∀n,n<256→(224≤n∧n<240)→n &&& 15=n - 224:=by decide +kernel
theorem PK:∀n,n<256→(240≤n∧n<248)→n &&& 7=n - 240:=by decide +kernel
theorem Ip (c:UInt8):c.toNat<256:=by have:=c.toNat_lt;simpa using this
theorem Cb (c:UInt8):decide ((c &&& (192:UInt8))=(128:UInt8))=decide (128≤c.toNat∧c.toNat<192):=by
 have h:=Ko c.toNat (Ip c)
 rw [aQ]
 simp only [aA]
 rw [←h,←UInt8.toNat_inj,UInt8.toNat_and]
 exact Iff.rfl
theorem Ok (c:UInt8) (h:128≤c.toNat∧c.toNat<192):((c &&& (63:UInt8)).toNat:Int)=((c.toNat - 128:Nat):Int):=by
 rw [UInt8.toNat_and]
 exact congrArg _ (MC c.toNat (Ip c) h)
def BD (r:Option Nat) (more least:Nat):Option (List TV):=match r with
 | some r=>if r<least∨fy.mA r=false then some [.i .i64 0,.i .i64 0] else some [.i .i64 r,.i .i64 (more+1:Int)]
 | none=>some [.i .i64 0,.i .i64 0]
theorem Gj (c:Nat) (more least:Nat) (l:bz):BD (fy.cont c more l) more least=some [.i .i64 (fy.nj c more least l).1,.i .i64 (fy.nj c more least l).2]:=by
 unfold BD fy.nj
 cases fy.cont c more l with
 | none=>rfl
 | some r=>simp only;split <;> rfl
theorem bH.end_ (r:Nat) (more least:Nat) (hm:more<8) :
  (ck (!(!(decide ((r:Int)<(least:Int)))) || (!(decide ((r:Int)<(least:Int))))) (ck (!(!(decide ((r:Int)<(least:Int)))) || (!(decide ((r:Int)<(least:Int))))) (ck ((decide ((r:Int)<(least:Int))) || (!(decide ((r:Int)<(least:Int))))) (cond (cond (decide ((r:Int)<(least:Int))) true (!(fy.mA r)))
  (bH.g1)
  (some [(.i .i64 (r:Int)),(.i .i64 (IntKind.i64.wrap ((more:Int)+(1:Int))))])))))=BD (some r) more least:=by
 simp only [aR,bm,bQ]
 rw [i64_in _ (by omega),bH.uF]
 unfold BD
 by_cases h:r<least
 ·simp [h]
 ·simp only [show ¬((r:Int)<(least:Int)) by omega,decide_false,ae,h,false_or]
  cases fy.mA r <;> simp
theorem bH.Mn (b:bz) (at_:Nat) (more least:Nat) (hm:more<8) (hb:b.length≤1099511627776) (fO:at_+more<b.length):∀(k i r:Nat),i+k=more+1→r<2 ^ (10+6 * i) →
  bH.g3 b at_ r more least i=BD (fy.cont r k (b.drop (at_+i))) more least:=by
 intro k
 induction k with
 | zero =>
  intro i r hi hr
  refine bH.D9 _ _ _ _ _ _ ?_
  intro v1 h1 v2 h2 v3 h3 v4 h4 v5 h5 v6 h6 v7 h7
  rw [show decide ((i:Int)≤(more:Int))=false by simp;omega,ae]
  subst h6 h7
  rw [fy.cont]
  exact bH.end_ r more least hm
 | succ k ih =>
  intro i r hi hr
  refine bH.D9 _ _ _ _ _ _ ?_
  intro v1 h1 v2 h2 v3 h3 v4 h4 v5 h5 v6 h6 v7 h7
  have hw:IntKind.i64.wrap ((at_:Int)+(i:Int))=((at_+i:Nat):Int):=by rw [i64_in _ (by omega)];omega
  have Ns:=drop_cons (l:=b) (i:=at_+i) (by omega) 0
  rw [show decide ((i:Int)≤(more:Int))=true by simp;omega,ai,hw]
  rw [hw,aj] at h1
  rw [bw (bK (by omega) (by omega)),Ns,←h1,fy.cont,h2,Cb]
  by_cases hc:128≤v1.toNat∧v1.toNat<192
  ·rw [aw hc,aa hc]
   simp only [aH,ae]
   rw [bw (bK (by omega) (by omega))]
   have hp:2 ^ (10+6 * i) * 64=2 ^ (10+6 * (i+1)):=by rw [show 10+6 * (i+1)=(10+6 * i)+6 by omega,Nat.pow_add 2 (10+6 * i) 6]
   have Fu:2 ^ (10+6 * (i+1))≤2 ^ 58:=Nat.pow_le_pow_right (by omega) (by omega)
   have Sx:r * 64+64≤2 ^ (10+6 * (i+1)):=by
    rw [←hp];have:=ak 64 (Nat.succ_le_of_lt hr);omega
   have e3:v3=((r * 64:Nat):Int):=by
    rw [h3]
    have:(min (((6:UInt64)).toNat) (IntKind.i64.bits))=6:=by decide
    rw [this,i64_in _ (by simp at Fu;omega)];simp
   have e4:v4=((v1.toNat - 128:Nat):Int):=by
    rw [h4,Ok v1 hc];exact i64_in _ (by omega)
   have e5:v5=((i+1:Nat):Int):=by rw [h5,i64_in _ (by omega)];omega
   have e6:cI .or .i64 v3 v4=((r * 64+(v1.toNat - 128):Nat):Int):=by
    rw [e3,e4,IL _ _ (by simp at Fu;omega) (by omega)]
    have:=mr (a:=r) (b:=v1.toNat - 128) (k:=6) (by simp;omega)
    simp at this
    rw [this]
   rw [e6,e5,ih (i+1) _ (by omega) (by omega),Nat.add_assoc]
  ·rw [au hc,ab hc]
   simp only [aM,ai]
   rw [bH.uF];rfl
theorem bH.sL (b : bz) (at_ : Nat) (r more least : Nat) (hm : 1 ≤ more ∧ more < 8) (hb : b.length ≤ 1099511627776) (fO : at_ < b.length) (hr : r < 1024) :
    bH.j2 b at_ r more least = BD (fy.cont r more (b.drop (at_ + 1))) more least := by
  have KL : ∀ (k r : Nat) (l : bz), l.length < k → fy.cont r k l = none := by
    intro k
    induction k with
    | zero => intro r l h; omega
    | succ k ih =>
      intro r l h
      cases l with
      | nil => rfl
      | cons c l => rw [fy.cont]; split
                    · exact ih _ _ (by simp at h; omega)
                    · rfl
  have key := fun (h : at_ + more < b.length) => bH.Mn b at_ more least hm.2 hb h more 1 r (by omega) (by simp; omega)
  by_cases hx : at_ + more < b.length
  · rw [← key hx]
    refine bH.jg _ _ _ _ _ ?_
    intro v1 h1 v2 h2 v3 h3 v4 h4 v5 h5 v6 h6 v7 h7 v8 h8 v9 h9 v10 iA
    symm
    refine bH.D9 _ _ _ _ _ _ ?_
    intro w1 k1 w2 k2 w3 k3 w4 k4 w5 k5 w6 k6 w7 k7
    have e1 : v1 = (b.length : Int) - at_ := by rw [h1]; exact i64_in _ (by omega)
    have e2 : v2 = (b.length : Int) - at_ - 1 := by rw [h2, e1]; exact i64_in _ (by omega)
    rw [show decide (v2 < (more : Int)) = false by simp; omega, ae]
    have a1 : ((1 : Nat) : Int) = 1 := rfl
    simp only [a1] at k1 k2 k3 k4 k5 k6 k7 ⊢
    subst h3; subst h4; subst h5; subst h6; subst h7; subst h8; subst h9; subst iA; subst k1; subst k2; subst k3; subst k4; subst k5; subst k6; subst k7
    rfl
  · refine bH.jg _ _ _ _ _ ?_
    intro v1 h1 v2 h2 v3 h3 v4 h4 v5 h5 v6 h6 v7 h7 v8 h8 v9 h9 v10 iA
    have e1 : v1 = (b.length : Int) - at_ := by rw [h1]; exact i64_in _ (by omega)
    have e2 : v2 = (b.length : Int) - at_ - 1 := by rw [h2, e1]; exact i64_in _ (by omega)
    rw [show decide (v2 < (more : Int)) = true by simp; omega, ai, bH.uF, KL _ _ _ (by simp; omega)]
    rfl
theorem Of (lo hi n:Nat):(cond (decide ((lo:Int)≤(n:Int))) (decide ((n:Int)<(hi:Int))) false)=decide (lo≤n∧n<hi):=by
 by_cases a:lo≤n
 ·rw [show decide ((lo:Int)≤(n:Int))=true by simp;omega,ai,aQ];simp;omega
 ·rw [show decide ((lo:Int)≤(n:Int))=false by simp;omega,ae,ab (by omega)]
theorem bH.goal (b:bz) (at_:Int) (hp:decide (b.length≤1099511627776)=true):bH.F b at_=some [.i .i64 (fy.mi b at_).1,.i .i64 (fy.mi b at_).2]:=by
 have hb:b.length≤1099511627776:=ar hp
 refine bH.bZ b at_ ?_
 intro v1 h1 v2 h2 v3 h3 v4 h4 v5 h5 v6 h6 v7 h7 v8 h8 v9 h9
 unfold fy.mi
 by_cases h0:at_<0
 ·subst h1
  simp [h0,ck,bH.uF]
 ·have hd0:decide (at_<0)=false:=ab h0
  obtain ⟨i,rfl⟩:=Int.eq_ofNat_of_zero_le (show 0≤at_ by omega)
  rw [hd0] at h1 ⊢
  subst h1
  simp only [aM,aH,Bool.false_or,Bool.or_true,bQ,ae,aj] at h2 ⊢
  by_cases hl:b.length≤i
  ·rw [show decide ((b.length:Int)≤(i:Int))=true by simp;omega,aw (.inr (by omega)),ai,bH.uF];rfl
  ·rw [show decide ((b.length:Int)≤(i:Int))=false by simp;omega,au (by omega),ae,bw (bK (by omega) (by omega)),drop_cons (l:=b) (i:=i) (by omega) 0,←h2,fy.rune]
   have hc:=Ip v2
   have e3:v3=(v2.toNat:Int):=by rw [h3];exact i64_in _ (by omega)
   have an:∀(m:Nat),m<256→cI .and .i64 v3 m=((v2.toNat &&& m:Nat):Int):=fun m h=>by rw [e3,Hh _ _ (by omega) (by omega)]
   have TE:v5=((v2.toNat &&& 31:Nat):Int):=h5.trans (an 31 (by omega))
   have TD:v7=((v2.toNat &&& 15:Nat):Int):=h7.trans (an 15 (by omega))
   have TC:v9=((v2.toNat &&& 7:Nat):Int):=h9.trans (an 7 (by omega))
   have e4:v4=decide (192≤v2.toNat∧v2.toNat<224):=by rw [h4,e3];exact Of 192 224 _
   have e6:v6=decide (224≤v2.toNat∧v2.toNat<240):=by rw [h6,e3];exact Of 224 240 _
   have e8:v8=decide (240≤v2.toNat∧v2.toNat<248):=by rw [h8,e3];exact Of 240 248 _
   have J:∀(r more least:Nat),1≤more∧more<8→r<1024→bH.j2 b i r more least=some [.i .i64 (fy.nj r more least (b.drop (i+1))).1,.i .i64 (fy.nj r more least (b.drop (i+1))).2]:=fun r more least h1 h2 =>
    (bH.sL b i r more least h1 hb (by omega) h2).trans (Gj _ _ _ _)
   simp only [aR,bQ]
   by_cases c1:v2.toNat<128
   ·rw [aw c1,e3,show decide ((v2.toNat:Int)<128)=true by simp;omega,ai];rfl
   ·rw [au c1,show decide (v3<(128:Int))=false by rw [e3];simp;omega,ae,e4]
    by_cases c2:192≤v2.toNat∧v2.toNat<224
    ·rw [aw c2,aa c2,ai,TE,MD _ hc c2];exact J _ 1 128 (by omega) (by omega)
    ·rw [au c2,ab c2,ae,e6]
     by_cases c3:224≤v2.toNat∧v2.toNat<240
     ·rw [aw c3,aa c3,ai,TD,MF _ hc c3];exact J _ 2 2048 (by omega) (by omega)
     ·rw [au c3,ab c3,ae,e8]
      by_cases c4:240≤v2.toNat∧v2.toNat<248
      ·rw [aw c4,aa c4,ai,TC,PK _ hc c4];exact J _ 3 65536 (by omega) (by omega)
      ·rw [au c4,ab c4,ae,bH.uF];rfl
theorem fy.pP (l:bz):0≤(fy.rune l).2∧(fy.rune l).2≤l.length:=by
 have Cp:∀(k r q:Nat) (l:bz),fy.cont r k l=some q→k≤l.length:=by
  intro k
  induction k with
  | zero=>intro r q l _;omega
  | succ k ih =>
   intro r q l h
   cases l with
   | nil=>cases h
   | cons c l =>
    rw [fy.cont] at h
    split at h
    ·have:=ih _ _ _ h;simp;omega
    ·cases h
 have OV:∀(r more least:Nat) (l:bz),0≤(fy.nj r more least l).2∧(fy.nj r more least l).2≤l.length+1:=by
  intro r more least l
  unfold fy.nj
  cases h:fy.cont r more l with
  | none=>simp;omega
  | some q =>
   have:=Cp _ _ _ _ h
   simp only
   split <;> simp <;> omega
 cases l with
 | nil=>exact ⟨by decide,by decide⟩
 | cons c l =>
  unfold fy.rune
  simp only [ay]
  split
  ·simp;omega
  ·split
   ·have:=OV (c.toNat - 192) 1 128 l;omega
   ·split
    ·have:=OV (c.toNat - 224) 2 2048 l;omega
    ·split
     ·have:=OV (c.toNat - 240) 3 65536 l;omega
     ·simp;omega
theorem fy.Dv (l:bz):∀n,l.length≤n→fy.oX n l=fy.oX l.length l:=by
 have key:∀(m:Nat) (l:bz),l.length≤m→∀n,l.length≤n→fy.oX n l=fy.oX l.length l:=by
  intro m
  induction m with
  | zero =>
   intro l hl n hn
   have:l=[]:=List.length_eq_zero_iff.1 (by omega)
   subst this
   cases n with
   | zero=>rfl
   | succ n=>rfl
  | succ m ih =>
   intro l hl n hn
   cases h:l.length with
   | zero =>
    have:l=[]:=List.length_eq_zero_iff.1 h
    subst this
    cases n <;> rfl
   | succ k =>
    cases n with
    | zero=>omega
    | succ n =>
     unfold fy.oX
     have hs:=fy.pP l
     by_cases h0:(fy.rune l).2=0
     ·rw [aw h0,aw h0]
     ·rw [au h0,au h0]
      have hd:(l.drop (fy.rune l).2.toNat).length≤k:=by simp;omega
      rw [ih _ (by simp;omega) n (by simp;omega),ih _ (by simp;omega) k hd]
 exact fun n hn=>key _ l (Nat.le_refl _) n hn
theorem fy.BG (l:bz) (h:(fy.rune l).2≠0):fy.look l=((fy.look (l.drop (fy.rune l).2.toNat)).1+(fy.rune l).2.toNat,(fy.look (l.drop (fy.rune l).2.toNat)).2+1):=by
 have hs:=fy.pP l
 unfold fy.look
 cases hl:l.length with
 | zero=>omega
 | succ k =>
  rw [fy.oX,au h]
  simp only
  rw [fy.Dv _ k (by simp;omega)]
theorem fy.BH (l:bz) (h:(fy.rune l).2=0):fy.look l=(0,0):=by
 unfold fy.look
 cases l.length with
 | zero=>rfl
 | succ k=>rw [fy.oX,aw h]
theorem fy.y5 (b:bz) (i:Nat) (h:i<b.length):fy.mi b i=fy.rune (b.drop i):=by
 unfold fy.mi;rw [au (by omega),aj]
theorem cj.cW (b:bz) (hb:b.length≤1099511627776):∀(m i k:Nat),b.length - i≤m→i≤b.length→k≤i →
  cj.l1 b i k=some [.i .i64 ((i+(fy.look (b.drop i)).1:Nat):Int),.i .i64 ((k+(fy.look (b.drop i)).2:Nat):Int)]:=by
 intro m
 induction m with
 | zero =>
  intro i k hm hi hk
  refine cj.bV _ _ _ ?_
  intro v1 h1 v2 h2
  rw [show decide ((i:Int)<(b.length:Int))=false by simp;omega,ae,cj.jZ,aE (by omega)]
  rfl
 | succ m ih =>
  intro i k hm hi hk
  by_cases fO:i<b.length
  ·refine cj.bV _ _ _ ?_
   intro v1 h1 v2 h2
   rw [fy.y5 b i fO] at h1 ⊢
   have hs:=fy.pP (b.drop i)
   rw [aU] at hs
   rw [show decide ((i:Int)<(b.length:Int))=true by simp;omega,ai,bw (aa hb)]
   by_cases h0:(fy.rune (b.drop i)).2=0
   ·rw [aa h0,ai,cj.jZ,fy.BH _ h0];rfl
   ·rw [ab h0,ae,fy.BG _ h0]
    have e1:v1=((i+(fy.rune (b.drop i)).2.toNat:Nat):Int):=by rw [h1,i64_in _ (by omega)];omega
    have e2:v2=((k+1:Nat):Int):=by rw [h2,i64_in _ (by omega)];omega
    rw [e1,e2,ih _ _ (by omega) (by omega) (by omega),List.drop_drop]
    simp only [aJ,bt,TV.i.injEq,true_and,and_true]
    exact ⟨by omega,by omega⟩
  ·refine cj.bV _ _ _ ?_
   intro v1 h1 v2 h2
   rw [show decide ((i:Int)<(b.length:Int))=false by simp;omega,ae,cj.jZ,aE (by omega)]
   rfl
theorem cj.goal (b:bz) (hp:decide (b.length≤1099511627776)=true):cj.F b=some [.i .i64 ((fy.look b).1:Int),.i .i64 ((fy.look b).2:Int)]:=by
 rw [cj.eJ]
 have:=cj.cW b (ar hp) b.length 0 0 (by omega) (by omega) (by omega)
 simpa using this
theorem dJ.goal (b:bz) (hp:decide (b.length≤1099511627776)=true):dJ.F b=some [.i .i64 ((fy.look b).1:Int),.b (fy.whole b)]:=by
 have e:decide (((fy.look b).1:Int)=(b.length:Int))=fy.whole b:=by unfold fy.whole;rw [aQ];simp;omega
 rw [dJ.eJ,bw hp,e]
end Go.Eng
set_option maxRecDepth 20000
namespace Go.Eng
open Go.IntWalk
theorem iH.goal (s:bz) (hp:(decide (s.length≤1099511627776))=true):iH.F s=some [.b (fy.whole s)]:=by
 rw [iH.eJ,bw (AY (ar hp)),bw hp]
theorem Hz:∀(l:bz) (c:UInt8),(l=[]∨Lib.indexByte l c<(l.length:Int))∧-1≤Lib.indexByte l c
 | [],c=>⟨.inl rfl,by show (-1:Int)≤-1;omega⟩
 | d :: r,c=>by
  obtain ⟨h1,h2⟩:=Hz r c
  rw [sO]
  refine ⟨.inr ?_,?_⟩
  ·split
   ·simp only [ay];omega
   ·split
    ·simp only [ay];omega
    ·rename_i h
     rcases h1 with rfl | h1
     ·exact (h (by rfl)).elim
     ·simp only [ay];omega
  ·split
   ·omega
   ·split <;> omega
theorem AQ (c:UInt8):(Cn.FA c).length≤6:=by
 unfold Cn.FA
 split
 ·simp
 split
 ·rw [ao,jA];simp
 ·simp
theorem xW:∀s:bz,(s.flatMap Cn.FA).length≤6 * s.length
 | []=>by simp
 | c :: r=>by have:=xW r;have:=AQ c;simp only [List.flatMap_cons,ao,ay];omega
theorem mo (s:bz):(Cn.jx s).length≤6 * s.length+2:=by
 unfold Cn.jx
 cases fy.whole s with
 | false=>simp
 | true=>have:=xW s;simp only [ai,Cn.quote,ay,ao,aB];omega
theorem cm.cW (s:bz) (hs:s.length≤1000000000000):∀(m i:Nat) (b:bz),i+m=s.length→b.length+6 * m≤7000000000000 →
  cm.l1 s (s.length:Int) (i:Int) b=some [.s (b++((s.drop i).flatMap Cn.FA++[34])),.b true]
 | 0,i,b,hi,hb=>by
  refine cm.bV _ _ _ _ ?_
  intro v1 h1 v2 h2 v3 h3 v4 h4 v5 h5 v6 h6 v7 h7
  rw [ab (by omega),ae,bw (dW (by rw [h7];simp;omega) (by rw [h7];simp;omega)),h7,aE (by omega)]
  rfl
 | m+1,i,b,hi,hb=>by
  refine cm.bV _ _ _ _ ?_
  intro v1 h1 v2 h2 v3 h3 v4 h4 v5 h5 v6 h6 v7 h7
  rw [aj] at h1
  have KI:=Hz [34,92,8,12,10,13,9] v1
  rw [←h2] at KI
  have KI:=KI.1.resolve_left (by simp)
  have next:∀e:bz,e=Cn.FA v1→cm.j2 s (s.length:Int) (i:Int) (b++e)=some [.s (b++((s.drop i).flatMap Cn.FA++[34])),.b true]:=fun e he=>by
   refine cm.jg _ _ _ _ ?_
   intro w1 g1
   have e1:w1=((i+1:Nat):Int):=by rw [g1,i64_in _ (by omega)];omega
   have hl:=AQ v1
   rw [e1,cm.cW s hs m (i+1) (b++e) (by omega) (by rw [he,ao];omega),drop_cons (l:=s) (i:=i) (by omega) (0:UInt8),←h1,he,List.flatMap_cons]
   simp only [aG]
  rw [aa (by omega),ai,bw (bK (by omega) (by omega))]
  by_cases c:(0:Int)≤v2
  ·rw [aa c,ai,bw (bK c (by simp at KI ⊢;omega)),bw (dW (by rw [h4];simp;omega) (by rw [h4];simp;omega))]
   refine next _ ?_
   unfold Cn.FA
   rw [←h2,aw c,h4,h3];rfl
  ·rw [ab c,ae]
   by_cases c2:v1<32
   ·rw [aa c2,ai,bw (dW (by simp;omega) (by simp;omega)),bw (aa (by simp)),bw (dW (by rw [h5,h6,jA];simp;omega) (by rw [h5,h6,jA];simp;omega)),h5,aG]
    refine next _ ?_
    unfold Cn.FA
    rw [←h2,au c,aw c2,h6]
   ·rw [ab c2,ae,bw (dW (by simp;omega) (by simp;omega))]
    refine next _ ?_
    unfold Cn.FA
    rw [←h2,au c,au c2]
theorem cm.goal (s:bz) (hp:(decide (s.length≤1000000000000))=true):cm.F s=some [.s (Cn.jx s),.b (fy.whole s)]:=by
 have hs:=ar hp
 refine cm.bZ _ ?_
 intro v1 h1
 rw [bw (aa (by omega))]
 unfold Cn.jx
 cases fy.whole s with
 | false=>rfl
 | true =>
  rw [aH,ae,ai,h1]
  exact cm.cW s hs s.length 0 [34] (by omega) (by simp;omega)
theorem jo_quoted.goal (b s:bz) (hp:(decide (b.length+6 * s.length≤5000000000000))=true):jo_quoted.F b s=some [.sl .bs (b++Cn.jx s)]:=by
 have h:=ar hp
 have:=mo s
 rw [jo_quoted.eJ,bw (aa (by omega)),bw (dW (by omega) (by omega))]
theorem ft.goal (j:bM) (hp:(decide (12 * bM.bO j≤1000000000000))=true):ft.F j=some [.s (Cn.pW j),.i .i64 (Cn.mE j)]:=by
 have h:=ar hp
 refine ft.bZ _ ?_
 intro v1 h1
 rw [bw (aa (by omega)),bw (aa (by simp;omega)),h1,bq]
 unfold Cn.pW
 by_cases c:Cn.mE j=0
 ·rw [aa c,aH,ae,ai,c]
 ·rw [ab c,aM,ai,ae]
end Go.Eng
set_option maxRecDepth 20000
namespace Go.Eng
open Go.IntWalk
theorem vn (f:Mem):bM.bO f.val≤Mem.bO f:=by
 cases f;simp only [bM.bO,Mem.of,Mem.val,Mem.kind,Mem.text,Mem.kids,Mem.bO,aB];omega
theorem zo {l:List Mem} {i:Nat} (h:i<l.length) (d:Mem):Mem.bO (l.getD i d)≤Mem.cM l:=by
 induction l generalizing i with
 | nil=>simp at h
 | cons f r ih =>
  cases i with
  | zero=>simp [Mem.cM]
  | succ i=>have:=ih (i:=i) (by simpa using h);simp only [List.getD_cons_succ,Mem.cM];omega
theorem Gl:∀f:Mem,1≤Mem.bO f
 | .mk _ _ _ _=>by simp only [Mem.bO];omega
theorem np:∀l:List Mem,l.length≤Mem.cM l
 | []=>by simp [Mem.cM]
 | f :: r=>by have:=np r;have:=Gl f;simp only [Mem.cM,ay];omega
theorem nv (j:bM):bM.bO j=1+j.text.length+Mem.cM j.kids:=by
 simp only [bM.bO,Mem.of,Mem.bO,aB]
theorem xc (f:Mem):f.name.length+bM.bO f.val=Mem.bO f:=by
 cases f;simp only [bM.bO,Mem.of,Mem.val,Mem.name,Mem.kind,Mem.text,Mem.kids,Mem.bO,aB];omega
end Go.Eng
set_option maxRecDepth 20000
namespace Go.Eng
open Go.IntWalk
theorem EO (f:Mem):Cn.zO f=Cn.mE f.val:=by
 cases f;simp only [Cn.mE,Mem.of,Mem.val,Mem.kind,Mem.text,Mem.kids,Cn.zO]
theorem bP.ju (n:Nat) (l:List Mem) (hb:Mem.cM l≤1099511627776) (hn:Mem.cM l<n):∀(m i:Nat),i+m=l.length→bP.l2 n l (l.length:Int) (i:Int)=some [.i .i64 (Cn.sY (l.drop i))]
 | 0,i,hi=>by
  refine bP.iw _ _ _ _ ?_
  intro v1 h1 v2 h2 v3 h3
  rw [ab (by omega),ae,aE (by omega)]
  simp [Cn.sY]
 | m+1,i,hi=>by
  have hlen:=np l
  refine bP.iw _ _ _ _ ?_
  intro v1 h1 v2 h2 v3 h3
  rw [aj] at h1
  have hf:=zo (l:=l) (i:=i) (by omega) (fe.gk .ml)
  rw [←h1] at hf
  have hv:=vn v1
  have Qe:=xc v1
  have e3:v3=((i+1:Nat):Int):=by rw [h3,i64_in _ (by omega)];omega
  have cc:((decide (bM.bO (Mem.val v1)≤1099511627776))&&decide ((bM.bO (Mem.val v1))<n))=true:=by
   rw [ah];exact ⟨aa (by omega),aa (by omega)⟩
  rw [aa (by omega),ai,bw (bK (by omega) (by omega)),bw (aa (by omega)),bw cc,e3,bP.ju n l hb hn m (i+1) (by omega),drop_cons (l:=l) (i:=i) (by omega) (fe.gk .ml),←h1,h2]
  simp only [Cn.sY]
  rw [EO]
  cases hw:fy.whole v1.name with
  | false=>rw [aw rfl];rfl
  | true =>
   rw [au (by simp),aH,ae]
   by_cases c:Cn.mE v1.val=0
   ·rw [aa c,aH,ae,au (by simp [c])]
   ·rw [ab c,aM,ai,aw c]
theorem bP.cW (n:Nat) (j:bM) (hb:bM.bO j≤1099511627776) (hn:bM.bO j<n+1):∀(m i:Nat),i+m=j.kids.length →
  bP.l1 n j.kids (j.kids.length:Int) (i:Int) j=some [.i .i64 (if j.kind=6∧((j.kids.drop i).any fun m=>!decide (m.name=[]))=true then 1
   else if j.kind=4∧(Nr.iX j.text=0∨300<j.text.length) then 10
   else if j.kind=5∧fy.whole j.text=false then 4
   else Cn.sY j.kids)]
 | 0,i,hi=>by
  have hk:=nv j
  refine bP.bV _ _ _ _ _ ?_
  intro v1 h1 v2 h2 v3 h3 v4 h4 v5 h5 v6 h6 v7 h7 v8 h8 v9 h9 v10 iA
  have ct:decide (j.text.length≤1099511627776)=true:=aa (by omega)
  have ca:∀a:Bool,(!a || (a&&true))=true:=by decide
  have c8:(!(decide (j.kind=4)) || ((decide (j.kind=4))&&((decide (Nr.iX j.text=0)) || v4)))=true:=by
   rw [h4];cases decide (j.kind=4) <;> cases decide (Nr.iX j.text=0) <;> rfl
  have e7:v7=decide (j.kind=4∧(Nr.iX j.text=0∨300<j.text.length)):=by
   have e5:decide ((300:Int)<v5)=decide (300<j.text.length):=aZ.2 (by omega)
   rw [h7,h6,e5,Bool.decide_and,Bool.decide_or]
   cases decide (j.kind=4) <;> cases decide (Nr.iX j.text=0) <;> rfl
  have e9:v9=decide (j.kind=5∧fy.whole j.text=false):=by
   rw [h9,h8,Bool.decide_and];cases decide (j.kind=5) <;> cases fy.whole j.text <;> rfl
  rw [ab (show ¬((i:Int)<j.kids.length) by omega),ae,ct,bw (iJ _),bw (ca _),bw (iJ _),bw (iJ _),bw (iJ _),bw (iJ _),bw (iJ _),bw c8,bw (iJ _),e7,
   au (by rw [aE (by omega)];simp)]
  by_cases k1:j.kind=4∧(Nr.iX j.text=0∨300<j.text.length)
  ·rw [aa k1,ai,aw k1]
  rw [ab k1,ae,au k1,bw (iJ _),bw (ca _),bw (iJ _),bw (iJ _),e9]
  by_cases k2:j.kind=5∧fy.whole j.text=false
  ·rw [aa k2,ai,aw k2]
  rw [ab k2,ae,au k2,iA]
  exact bP.ju n j.kids (by omega) (by omega) j.kids.length 0 (by omega)
 | m+1,i,hi=>by
  have hk:=nv j
  have hlen:=np j.kids
  have ih:=bP.cW n j hb hn m (i+1) (by omega)
  refine bP.bV _ _ _ _ _ ?_
  intro v1 h1 v2 h2 v3 h3 v4 h4 v5 h5 v6 h6 v7 h7 v8 h8 v9 h9 v10 iA
  rw [aj] at h1
  have e3:v3=((i+1:Nat):Int):=by rw [h3,i64_in _ (by omega)];omega
  rw [aa (show (i:Int)<j.kids.length by omega),ai,bw (bK (by omega) (by omega)),bw (iJ _),bw (iJ _),bw (iJ _),e3,ih,drop_cons (l:=j.kids) (i:=i) (by omega) (fe.gk .ml),←h1,List.any_cons,h2]
  by_cases k:j.kind=6
  ·rw [aa k,ai]
   by_cases k2:v1.name=[]
   ·rw [aa k2,aH,ae,Bool.false_or]
   ·rw [ab k2,aM,ai,Bool.true_or,aw ⟨k,rfl⟩]
  ·rw [ab k,ae,ae];simp only [k,false_and,if_false]
theorem bP.goal (n:Nat) (j:bM) (hp:((decide (bM.bO j≤1099511627776))&&decide ((bM.bO j)<n+1))=true):bP.F n j=some [.i .i64 (Cn.mE j)]:=by
 rw [ah] at hp
 have hb:=ar hp.1
 have hn:=ar hp.2
 refine bP.bZ _ _ ?_
 intro v1 h1 v2 h2 v3 h3 v4 h4 v5 h5 v6 h6
 have e1:v1=decide (j.kind<1∨7<j.kind):=by rw [h1,Bool.decide_or];cases decide (j.kind<1) <;> rfl
 have e4:v4=decide (j.kids≠[]∧j.kind≠6∧j.kind≠7):=by
  have:decide ((0:Int)<v2)=decide (j.kids≠[]):=aZ.2 (by rw [h2];exact ⟨fun h e=>by rw [e] at h;exact absurd h (by simp),fun h=>by have:=List.length_pos_iff.2 h;omega⟩)
  rw [h4,h3,this,Bool.decide_and,Bool.decide_and]
  simp only [ne_eq,decide_not]
  cases decide (j.kids=[]) <;> cases decide (j.kind=6) <;> rfl
 have e6:v6=decide (j.text≠[]∧j.kind≠4∧j.kind≠5):=by
  rw [h6,h5,Bool.decide_and,Bool.decide_and]
  simp only [ne_eq,decide_not]
  cases decide (j.text=[]) <;> cases decide (j.kind=4) <;> rfl
 have key:=bP.cW n j hb hn j.kids.length 0 (by omega)
 simp only [Cn.mE,Mem.of,Cn.zO]
 rw [bw (iJ _),bw (iJ _),bw (H4 _),e1]
 by_cases k1:j.kind<1∨7<j.kind
 ·rw [aa k1,ai,aw k1]
 rw [ab k1,ae,au k1,bw (iJ _),bw (iJ _),bw (iJ _),bw (iJ _),bw (iJ _),bw (iJ _),e4]
 by_cases k2:j.kids≠[]∧j.kind≠6∧j.kind≠7
 ·rw [aa k2,ai,aw k2]
 rw [ab k2,ae,au k2,bw (iJ _),bw (iJ _),bw (iJ _),bw (iJ _),bw (iJ _),bw (iJ _),e6]
 by_cases k3:j.text≠[]∧j.kind≠4∧j.kind≠5
 ·rw [aa k3,ai,aw k3]
 rw [ab k3,ae,au k3,h2]
 exact key
end Go.Eng
set_option maxRecDepth 20000
namespace Go.Eng
open Go.IntWalk
mutual
theorem xr:∀m:Mem,(Cn.vw m).length+4+12 * m.name.length≤12 * Mem.bO m
 | .mk n k t ks=>by
  have h:=uv ks (decide (k=7)) true
  have hq:=mo t
  simp only [Cn.vw,Mem.bO,Mem.name]
  split
  ·simp;omega
  split
  ·simp;omega
  split
  ·simp;omega
  split
  ·omega
  split
  ·omega
  ·simp only [ay,ao,aB];omega
theorem uv:∀(l:List Mem) (o f:Bool),(Cn.nu o f l).length≤12 * Mem.cM l
 | [],o,f=>by simp [Cn.nu]
 | m :: r,o,f=>by
  have h1:=xr m
  have h2:=uv r o false
  have hq:=mo m.name
  simp only [Cn.nu,Mem.cM,ao]
  cases f <;> cases o <;> simp <;> omega
end
theorem DC (f:Mem):Cn.vw f=Cn.tJ f.val:=by
 cases f;simp only [Cn.tJ,Mem.of,Mem.val,Mem.kind,Mem.text,Mem.kids,Cn.vw]
theorem bY.ju (n:Nat) (c:UInt8) (j:bM) (hn:bM.bO j<n+1):∀(m i:Nat) (b:bz),i+m=j.kids.length→b.length+12 * Mem.cM (j.kids.drop i)+8≤4000000000000→Mem.cM j.kids≤1000000000000 →
  bY.l2 n c j.kids (j.kids.length:Int) (i:Int) j b=some [.sl .bs (b++(Cn.nu (decide (j.kind=7)) (decide (i=0)) (j.kids.drop i)++[c]))]
 | 0,i,b,hi,hb,hq=>by
  refine bY.iw _ _ _ _ _ _ _ ?_
  intro v1 h1 v2 h2
  rw [ab (show ¬((i:Int)<j.kids.length) by omega),ae,bw (dW (by simp;omega) (by simp;omega)),aE (by omega)]
  simp [Cn.nu]
 | m+1,i,b,hi,hb,hq=>by
  have hk:=nv j
  have hlen:=np j.kids
  refine bY.iw _ _ _ _ _ _ _ ?_
  intro v1 h1 v2 h2
  rw [aj] at h1
  have hf:=zo (l:=j.kids) (i:=i) (by omega) (fe.gk .ml)
  rw [←h1] at hf
  have hd:=drop_cons (l:=j.kids) (i:=i) (by omega) (fe.gk .ml)
  rw [←h1] at hd
  have hv:=xc v1
  have hl:=xr v1
  have UN:=mo v1.name
  rw [hd] at hb ⊢
  simp only [Mem.cM] at hb
  have last:∀x:bz,x.length≤b.length+6 * v1.name.length+4→bY.j4 n c j.kids (j.kids.length:Int) (i:Int) j v1 x=some [.sl .bs (x++(Cn.vw v1++(Cn.nu (decide (j.kind=7)) false (j.kids.drop (i+1))++[c])))]:=fun x hx=>by
   refine bY.DO _ _ _ _ _ _ _ _ ?_
   intro w1 g1 w2 g2
   have e2:w2=((i+1:Nat):Int):=by rw [g2,i64_in _ (by omega)];omega
   have cc:((decide (x.length+12 * bM.bO (Mem.val v1)≤4000000000000))&&decide ((bM.bO (Mem.val v1))<n))=true:=by
    rw [ah];exact ⟨aa (by omega),aa (by omega)⟩
   rw [bw cc,e2,g1,←DC,bY.ju n c j hn m (i+1) _ (by omega) (by rw [ao];omega) hq,show decide (i+1=0)=false from ab (by omega),aG]
  have mK:∀x:bz,x.length≤b.length+1→bY.j3 n c j.kids (j.kids.length:Int) (i:Int) j v1 x=some [.sl .bs (x++(cond (decide (j.kind=7)) (Cn.jx v1.name++[58]) []++(Cn.vw v1++(Cn.nu (decide (j.kind=7)) false (j.kids.drop (i+1))++[c]))))]:=fun x hx=>by
   refine bY.oY _ _ _ _ _ _ _ _ ?_
   intro w1 g1 w2 g2
   by_cases k:j.kind=7
   ·rw [aa k,ai,ai,bw (aa (by omega)),bw (dW (by rw [g1,g2];simp;omega) (by rw [g1,g2];simp;omega)),last _ (by rw [g1,g2];simp;omega),g1,g2,aa k]
    simp only [aG]
   ·rw [ab k,ae,ae,last x (by omega),ab k];rfl
  rw [aa (show (i:Int)<j.kids.length by omega),ai,bw (bK (by omega) (by omega))]
  simp only [Cn.nu]
  by_cases h0:i=0
  ·rw [ab (by omega),ae,mK b (by omega),aa h0,ai,bq]
   simp only [aG]
  ·rw [aa (by omega),ai,bw (dW (by rw [h2];simp;omega) (by rw [h2];simp;omega)),mK _ (by rw [h2];simp),ab h0,ae,h2]
   simp only [aG]
theorem bY.goal (n:Nat) (b:bz) (j:bM) (hp:((decide (b.length+12 * bM.bO j≤4000000000000))&&decide ((bM.bO j)<n+1))=true):bY.F n b j=some [.sl .bs (b++Cn.tJ j)]:=by
 rw [ah] at hp
 have hb:=ar hp.1
 have hn:=ar hp.2
 have hk:=nv j
 refine bY.bZ _ _ _ ?_
 intro v1 h1 v2 h2 v3 h3 v4 h4
 simp only [Cn.tJ,Mem.of,Cn.vw]
 by_cases k1:j.kind=1
 ·rw [aa k1,ai,aw k1,bw (dW (by simp;omega) (by simp;omega)),h1]
 rw [ab k1,ae,au k1]
 by_cases k2:j.kind=2
 ·rw [aa k2,ai,aw k2,bw (dW (by simp;omega) (by simp;omega)),h2]
 rw [ab k2,ae,au k2]
 by_cases k3:j.kind=3
 ·rw [aa k3,ai,aw k3,bw (dW (by simp;omega) (by simp;omega)),h3]
 rw [ab k3,ae,au k3]
 by_cases k4:j.kind=4
 ·rw [aa k4,ai,aw k4,bw (dW (by omega) (by omega))]
 rw [ab k4,ae,au k4]
 by_cases k5:j.kind=5
 ·rw [aa k5,ai,aw k5,bw (aa (by omega)),h4]
 rw [ab k5,ae,au k5]
 have go:∀x y:UInt8,bY.j1 n x y j b=some [.sl .bs (b++x :: (Cn.nu (decide (j.kind=7)) true j.kids++[y]))]:=fun x y=>by
  refine bY.iI _ _ _ _ _ ?_
  intro w1 g1
  rw [bw (dW (by simp;omega) (by simp;omega)),g1]
  have:=bY.ju n y j hn j.kids.length 0 (b++[x]) (by omega) (by rw [bh];simp;omega) (by omega)
  rw [bh,aa (rfl:0=0),aG] at this
  exact this
 by_cases k6:j.kind=7
 ·rw [aa k6,ai,ai,ai,go,aa k6]
 ·rw [ab k6,ae,ae,ae,go,ab k6]
end Go.Eng
set_option maxRecDepth 20000
namespace Go.Eng
open Go.IntWalk
open Nr (V mG sh top gZ rd)
theorem Cz (N:Nat):(UInt16.ofNat N % 2=0) ↔ N % 2=0:=by
 constructor
 ·intro h
  have:=congrArg UInt16.toNat h
  rw [UInt16.toNat_mod,Nt.dz] at this
  have e:N % 65536 % 2=0:=this
  omega
 ·intro h
  apply UInt16.toNat_inj.1
  rw [UInt16.toNat_mod,Nt.dz]
  show N % 65536 % 2=0
  omega
theorem Hm:(10:Nat) ^ 17<10 ^ 200:=by decide +kernel
theorem gi.goal (b:UInt64) (p q:List UInt16) (x n:Int) (hp:(Nt.is p&&Nt.is q&&Sh.nJ (Nt.val p) (Nt.val q) x n)=true):gi.F b p q x n=some [.s ((Sh.ob b.toNat (Nt.val p) (Nt.val q) x n).getD ([],0)).1,.i .i64 ((Sh.ob b.toNat (Nt.val p) (Nt.val q) x n).getD ([],0)).2,.b (Sh.ob b.toNat (Nt.val p) (Nt.val q) x n).isSome]:=by
 rw [ah,ah] at hp
 obtain ⟨⟨ha,hb⟩,hp⟩:=hp
 unfold Sh.nJ at hp
 obtain ⟨n1,n2,x1,x2,a0,a1,b0,b1,r1,r2⟩:=ar hp
 rw [Sh.rV]
 refine gi.bZ _ _ _ _ _ ?_
 intro v1 h1 v2 h2 v3 h3 v4 h4 v5 h5 v6 h6 v7 h7 v8 h8 v9 h9 v10 iA v11 ki v12 jE kW nY jP pA iD o8 mS tO nT xI lO wi qJ BU
 have ew:IntKind.i64.wrap (n - x)=n - x:=i64_in _ (by omega)
 have Tt:IntKind.i64.wrap (x - n)=x - n:=i64_in _ (by omega)
 have hP:=Ho (k:=n - x) a1 (by omega)
 have hQ:=Hn (k:=n - x) b1 (by omega)
 have JG:0<Sh.tB (Nt.val q) (n - x):=Sh.rQ b0 _
 rw [ew] at h1 h2 ⊢
 rw [Tt] at h5 h6 h7 iA ki jE ⊢
 unfold Sh.some_
 simp only
 generalize JH:Sh.tA (Nt.val p) (n - x)=P at *
 generalize U0:Sh.tB (Nt.val q) (n - x)=Q at *
 have w1:Nt.val v1=P:=by rw [h1,Nt.eu]
 have w2:Nt.val v2=Q:=by rw [h2,Nt.eu]
 rw [w1,w2] at h3 h4
 have w3:Nt.val v3=P / Q:=by rw [h3,Nt.eu]
 have w4:Nt.val v4=P % Q:=by rw [h4,Nt.eu]
 have w8:Nt.val v8=1:=by rw [h8,Nt.eu];rfl
 rw [w3,w8] at h9
 have w9:Nt.val v9=P / Q+1:=by rw [h9,Nt.eu]
 rw [w3] at h5 h6 h7 ⊢
 rw [w9] at iA ki jE ⊢
 rw [w4] at nY
 have RR:Nt.val kW=P % Q * 2:=by rw [nY,Nt.eu];rfl
 rw [RR,w2] at pA
 have N1:1≤P / Q:=(Nat.le_div_iff_mul_le JG).2 (by omega)
 have N2:P / Q<10 ^ 17:=(Nat.div_lt_iff_lt_mul JG).2 r2
 have N3:P / Q<2 ^ 2500:=Nat.lt_of_le_of_lt (Nat.div_le_self _ _) hP
 have N4:P / Q+1<10 ^ 200:=Nat.lt_of_le_of_lt (Nat.succ_le_of_lt N2) Hm
 have R1:P % Q<2 ^ 2500:=Nat.lt_trans (Nat.mod_lt _ JG) hQ
 have i1:Nt.is v1=true:=by rw [h1];exact iy (i:=2500) hP (by omega)
 have i2:Nt.is v2=true:=by rw [h2];exact iy (i:=2500) hQ (by omega)
 have i3:Nt.is v3=true:=by rw [h3];exact iy (i:=2500) N3 (by omega)
 have i4:Nt.is v4=true:=by rw [h4];exact iy (i:=2500) R1 (by omega)
 have i8:Nt.is v8=true:=by rw [h8];exact iy (i:=1) (by decide) (by omega)
 have i9:Nt.is v9=true:=by rw [h9];exact iy (i:=665) (Nat.lt_trans N4 Iw) (by omega)
 have i13:Nt.is kW=true:=by
  rw [nY]
  exact iy (i:=2502) (mu (i:=2500) (j:=2) (k:=2502) R1 (by decide) (by omega)) (by omega)
 have R8:v2≠[]:=by intro e;rw [e] at w2;simp [Nt.val] at w2;omega
 have R7:v3≠[]:=by intro e;rw [e] at w3;simp [Nt.val] at w3;omega
 have l3:=List.length_pos_iff.2 R7
 have Mt:nT=UInt16.ofNat (P / Q):=by rw [xI,h3,Nt.kG (by omega)];rfl
 have c1:(decide (-400≤n - x∧n - x≤400∧Nt.val p<2 ^ 1100∧Nt.val q<2 ^ 1100))=true:=aa ⟨by omega,by omega,a1,b1⟩
 have c3:(decide (-1000≤x - n∧x - n≤1000∧0<P / Q∧P / Q<10 ^ 200))=true:=aa ⟨by omega,by omega,by omega,Nat.lt_trans N2 Hm⟩
 have c9:(decide (-1000≤x - n∧x - n≤1000∧0<P / Q+1∧P / Q+1<10 ^ 200))=true:=aa ⟨by omega,by omega,by omega,N4⟩
 have hx:bB (0:Int) v3.length=true:=bK (by omega) (by omega)
 rw [ha,hb,c1,i1,i2,aa R8,i3,c3,i8,i9,c9,i4,i13,hx]
 refine (bw (by rfl)).trans ((bw (by rfl)).trans ((bw (by rfl)).trans ((bw (by rfl)).trans ((bw (by rfl)).trans ((bw (by rfl)).trans ((bw (by rfl)).trans ?_))))))
 have KX:lO=decide (P % Q * 2=Q∧P / Q % 2=0):=by
  have e0:decide (UInt16.ofNat (P / Q) % 2=0)=decide (P / Q % 2=0):=aZ.2 (Cz _)
  rw [wi,Mt,e0,pA]
  rcases nP (P % Q * 2) Q with ⟨k,l⟩ | ⟨k,l⟩ | ⟨k,l⟩
  ·rw [k,ab (by decide),ae,ab (by omega)]
  ·rw [k,aa (by decide),ai,aZ];omega
  ·rw [k,ab (by decide),ae,ab (by omega)]
 have J4:decide (jP<0)=decide (P % Q * 2<Q):=by
  rw [pA,aZ]
  rcases nP (P % Q * 2) Q with ⟨k,l⟩ | ⟨k,l⟩ | ⟨k,l⟩ <;> rw [k] <;> omega
 rw [J4] at o8
 have hB:∀v7 v12 iD c:Bool,(!v7 || v7)=true∧(!(v7&&(!(!v12))) || (v7&&(!(!v12))))=true∧(!v7 || (v7&&((!v12) || (v7&&(!(!v12))))))=true∧(!(v7&&(!iD)) || (v7&&(!iD)))=true∧(!((v7&&(!iD))&&c) || (((v7&&(!iD))&&c)&&true))=true∧(!((v7&&(!iD))&&c) || ((v7&&(!iD))&&c))=true ∧
   (!(v7&&(!iD)) || ((v7&&(!iD))&&(!c || ((v7&&(!iD))&&c))))=true∧(!v7 || (v7&&(iD || (v7&&(!iD)))))=true:=by decide
 obtain ⟨t1,t2,t3,t4,t5,t6,t7,t8⟩:=hB v7 v12 iD (decide (jP=0))
 rw [←tO] at t5 t6 t7
 have hz:(!decide ((2:UInt16)=0))=true:=rfl
 rw [hz,bw t1,bw t1,bw t2,bw t3,bw t1,bw t4,bw t4,bw t5,bw t6,bw t5,bw t6,bw t7,bw t8,bw t1]
 rw [Sh.uc] at h5 h6 h7 iA ki jE
 generalize Sh.reads b.toNat (P / Q) (x - n)=u at *
 generalize Sh.reads b.toNat (P / Q+1) (x - n)=o at *
 have Cs:qJ=decide (u.isSome=true∧(o.isSome=false∨2 * (P % Q)<Q∨(2 * (P % Q)=Q∧P / Q % 2=0))):=by
  rw [BU,o8,KX,h7,jE]
  have q1:decide (P % Q * 2<Q)=decide (2 * (P % Q)<Q):=aZ.2 (by omega)
  have q2:decide (P % Q * 2=Q∧P / Q % 2=0)=decide (2 * (P % Q)=Q∧P / Q % 2=0):=aZ.2 (by omega)
  rw [q1,q2]
  by_cases k1:2 * (P % Q)<Q <;> by_cases k2:(2 * (P % Q)=Q∧P / Q % 2=0) <;> cases u.isSome <;> cases o.isSome <;> simp [k1,k2]
 by_cases hc:u.isSome=true∧(o.isSome=false∨2 * (P % Q)<Q∨(2 * (P % Q)=Q∧P / Q % 2=0))
 ·rw [Cs,aa hc,ai,aw hc,h5,h6,hc.1]
 ·rw [Cs,ab hc,ae,au hc,iA,ki,jE]
theorem E9 (b:UInt64):(b &&& ~~~(9223372036854775808:UInt64)).toNat=Sh.mM b:=by
 have e:(~~~(9223372036854775808:UInt64))=9223372036854775807:=by decide
 rw [e,UInt64.toNat_and]
 exact Nat.and_two_pow_sub_one_eq_mod b.toNat 63
theorem tY {b:UInt64} (h:(Nr.split b).1=2):0<Sh.mM b∧Sh.mM b≤top∧(Nr.split b).2.2.1.toNat=mG (Sh.mM b)∧(Nr.split b).2.2.2=(sh (Sh.mM b):Int) - 1074:=by
 have hb:=b.toNat_lt
 have hx:b.toNat / 4503599627370496 % 2048=Sh.mM b / 4503599627370496:=by unfold Sh.mM;omega
 have hf:b.toNat % 4503599627370496=Sh.mM b % 4503599627370496:=by unfold Sh.mM;omega
 have hm:Sh.mM b<9223372036854775808:=Nat.mod_lt _ (by omega)
 unfold Nr.split at h ⊢
 simp only [hx,hf] at h ⊢
 generalize Sh.mM b=p at *
 unfold mG sh top
 by_cases c1:p / 4503599627370496=2047
 ·rw [aw c1] at h
  by_cases c2:p % 4503599627370496=0
  ·rw [aw c2] at h;simp at h
  ·rw [au c2] at h;simp at h
 ·rw [au c1] at h ⊢
  by_cases c2:p / 4503599627370496=0
  ·rw [aw c2] at h ⊢
   by_cases c3:p % 4503599627370496=0
   ·rw [aw c3] at h;simp at h
   ·rw [au c3,aw (show p<4503599627370496 by omega)]
    refine ⟨by omega,by omega,?_,?_⟩
    ·show (UInt64.ofNat _).toNat=_;rw [fc];omega
    ·show (-1074:Int)=_;omega
  ·rw [au c2,au (show ¬p<4503599627370496 by omega)]
   refine ⟨by omega,by omega,?_,?_⟩
   ·show (UInt64.ofNat _).toNat=_;rw [fc];omega
   ·show ((p / 4503599627370496:Nat):Int) - 1075=_;omega
def vF (i:Nat):Bool :=
 let k:Int:=(i:Int) - 1100
 let x:=Int.tdiv (k * 30103) 100000 - 2
 decide (10 ^ (x - 1).toNat * 2 ^ (-(k - 1)).toNat≤2 ^ (k - 1).toNat * 10 ^ (-(x - 1)).toNat)&&decide (-390≤x)
theorem BW:∀i,i<2201→vF i=true:=by
 have h:(List.range 2201).all vF=true:=by decide +kernel
 intro i hi
 exact aC.1 h i (List.mem_range.2 hi)
end Go.Eng
set_option maxRecDepth 20000
namespace Go.Eng
open Go.IntWalk
open Nr (V mG sh top gZ rd)
theorem mw (a b:Int):a<b∨b≤a:=by omega
theorem yo (n:Nat) (h:0<n):2 ^ (Nt.bits n - 1)≤n∧n<2 ^ Nt.bits n∧0<Nt.bits n:=Nt.iO h
theorem Ao {a b:Nat} (h:a<b):2 ^ a<2 ^ b:=Nat.pow_lt_pow_right (by omega) h
theorem tj (p:Nat) (ht:p≤top):Sh.iP p<2 ^ 1100∧Sh.fY p<2 ^ 1100∧Nt.bits (Sh.iP p)≤1100∧Nt.bits (Sh.fY p)≤1080:=by
 have h1:=Nr.sD p
 have h2:=Nr.yV ht
 have hm:mG p<2 ^ 53:=h1
 have ha:Sh.iP p<2 ^ 1100:=mu (i:=53) (j:=972) (k:=1100) hm (Ao (b:=972) (by omega)) (by omega)
 have hb:Sh.fY p<2 ^ 1080:=Ao (b:=1080) (by omega)
 refine ⟨ha,jq (i:=1080) (k:=1100) hb (by omega),?_,?_⟩
 ·exact Nt.jT (k:=1100) ha
 ·exact Nt.jT (k:=1080) hb
theorem Iu:(2:Nat) ^ 1024<10 ^ 310:=by decide +kernel
theorem It:(2:Nat) ^ 1074<10 ^ 330:=by decide +kernel
theorem Fh {p:Nat} (h:p≤top):V p<2 ^ 1024 * 2 ^ 1074:=by
 have h1:=Nr.MK h
 have h2:=Nr.kC top
 have h3:V (top+1)=2 ^ 1024 * 2 ^ 1074:=by decide +kernel
 rw [←h3]
 exact Nat.lt_of_le_of_lt h1 h2
theorem Mx {a b A K T V':Nat} (hb:0<b) (h:a * K=V' * b) (hV:V'<T * K) (hA:T<A):a<A * b:=by
 by_cases c:K=0
 ·subst c;rw [Nat.mul_zero] at hV;omega
 ·have hK:0<K:=by omega
  refine Nat.lt_of_mul_lt_mul_right (a:=K) ?_
  rw [h]
  have:V' * b<T * K * b:=Nat.mul_lt_mul_of_pos_right hV hb
  refine Nat.lt_trans this ?_
  rw [Nat.mul_right_comm]
  exact Nat.mul_lt_mul_of_pos_right (Nat.mul_lt_mul_of_pos_right hA hb) hK
theorem Mw {a b A K V':Nat} (ha:0<a) (h:a * K=V' * b) (hV:0<V') (hA:K<A):b<a * A:=by
 have h1:1 * b≤V' * b:=ak _ hV
 have h2:a * K<a * A:=Nat.mul_lt_mul_of_pos_left hA ha
 omega
theorem J5 {a b n d:Nat} (hn:n≤d) (h:10 ^ d * b≤a) (g:a<10 ^ n * b):False:=by
 have:=ak b (Nr.kh hn)
 omega
theorem vM {p:Nat} (hp:0<p) (ht:p≤top) : -330≤Sh.dx p∧Sh.dx p≤311:=by
 obtain ⟨h1,h2⟩:=Sh.AS hp
 have Cq:=Sh.Ff p
 have hb:=Sh.jC p
 have hV:0<V p:=by have:=Nr.yA hp;omega
 have ha:0<Sh.iP p:=Nat.mul_pos (Sh.rp hp) (Nat.two_pow_pos _)
 constructor
 ·rcases mw (Sh.dx p) (-330) with c | c
  ·exfalso
   have g:=Mw ha Cq hV It
   have e0:(Sh.dx p).toNat=0:=by omega
   rw [e0,Nat.pow_zero,Nat.one_mul] at h2
   have e1:Sh.iP p * 10 ^ 330≤Sh.iP p * 10 ^ (-(Sh.dx p)).toNat:=Nat.mul_le_mul_left _ (Nr.kh (a:=330) (by omega))
   exact Nat.lt_irrefl _ (Nat.lt_trans g (Nat.lt_of_le_of_lt e1 h2))
  ·exact c
 ·rcases mw 311 (Sh.dx p) with c | c
  ·exfalso
   have g:=Mx hb Cq (Fh ht) Iu
   have e0:(-(Sh.dx p - 1)).toNat=0:=by omega
   rw [e0,Nat.pow_zero,Nat.mul_one] at h1
   exact J5 (n:=310) (by omega) h1 g
  ·exact c
theorem uW {p:Nat} (hp:0<p) (x:Int):Sh.tB (Sh.fY p) (-x)≤Sh.tA (Sh.iP p) (-x) ↔ x<Sh.dx p:=by
 obtain ⟨h1,h2⟩:=Sh.AS hp
 have hb:=Sh.rQ (Sh.jC p) (-x)
 constructor
 ·intro h
  rcases mw x (Sh.dx p) with c | c
  ·exact c
  ·exfalso
   have key:Sh.tA (Sh.iP p) (-x)<Sh.tB (Sh.fY p) (-x):=by
    unfold Sh.tA Sh.tB
    refine Nat.lt_of_mul_lt_mul_right (a:=10 ^ (-(Sh.dx p)).toNat) ?_
    rw [Nat.mul_right_comm]
    refine Nat.lt_of_lt_of_le (Nat.mul_lt_mul_of_pos_right h2 (Nr.eM _)) ?_
    rw [Nat.mul_comm (10 ^ (Sh.dx p).toNat),Nat.mul_assoc,Nat.mul_assoc,←Nat.pow_add,←Nat.pow_add]
    exact Nat.mul_le_mul_left _ (Nr.kh (by omega))
   omega
 ·intro h
  have h3:10 ^ (Sh.dx p - 1).toNat * Sh.fY p * 10 ^ (-x).toNat≤Sh.iP p * 10 ^ (-(Sh.dx p - 1)).toNat * 10 ^ (-x).toNat:=ak _ h1
  unfold Sh.tA Sh.tB
  refine Nat.le_of_mul_le_mul_right (c:=10 ^ (-(Sh.dx p - 1)).toNat) ?_ (Nr.eM _)
  rw [Nat.mul_right_comm (Sh.iP p)]
  refine Nat.le_trans ?_ h3
  rw [Nat.mul_assoc,←Nat.pow_add,Nat.mul_comm (10 ^ (Sh.dx p - 1).toNat),Nat.mul_assoc,←Nat.pow_add]
  exact Nat.mul_le_mul_left _ (Nr.kh (by omega))
theorem D3 {p:Nat} (hp:0<p) (ht:p≤top):Int.tdiv ((((Nt.bits (Sh.iP p):Nat):Int) - (Nt.bits (Sh.fY p):Nat)) * 30103) 100000 - 2≤Sh.dx p∧-390≤Int.tdiv ((((Nt.bits (Sh.iP p):Nat):Int) - (Nt.bits (Sh.fY p):Nat)) * 30103) 100000 - 2:=by
 have ha:0<Sh.iP p:=Nat.mul_pos (Sh.rp hp) (Nat.two_pow_pos _)
 obtain ⟨a1,a2,a3⟩:=yo _ ha
 obtain ⟨b1,b2,b3⟩:=yo _ (Sh.jC p)
 obtain ⟨_,_,ba,bb⟩:=tj p ht
 obtain ⟨h1,h2⟩:=Sh.AS hp
 generalize hi:(Nt.bits (Sh.iP p)+1100 - Nt.bits (Sh.fY p))=i
 have g:=BW i (by omega)
 unfold vF at g
 have ek:(i:Int) - 1100=((Nt.bits (Sh.iP p):Nat):Int) - (Nt.bits (Sh.fY p):Nat):=by omega
 simp only [ek,ah,aA] at g
 obtain ⟨g1,g2⟩:=g
 refine ⟨?_,g2⟩
 generalize Int.tdiv ((((Nt.bits (Sh.iP p):Nat):Int) - (Nt.bits (Sh.fY p):Nat)) * 30103) 100000 - 2=x at *
 rcases mw (Sh.dx p) x with c | c
 ·exfalso
  generalize Nt.bits (Sh.iP p)=u at *
  generalize Nt.bits (Sh.fY p)=v at *
  generalize Sh.iP p=a at *
  generalize Sh.fY p=b at *
  generalize Sh.dx p=d at *
  -- 2^(u-1) * 10^(-d)<10^d * 2^v
  have s1:2 ^ (u - 1) * 10 ^ (-d).toNat<10 ^ d.toNat * 2 ^ v:=by
   refine Nat.lt_of_le_of_lt (ak _ a1) (Nat.lt_trans h2 ?_)
   exact Nat.mul_lt_mul_of_pos_left b2 (Nr.eM _)
  -- 10^(x-1) * 2^(-(k-1)) <= 2^(k-1) * 10^(-(x-1)),2^(k-1)<10^d * ..,d <= x - 1
  have s5:10 ^ (x - 1).toNat * 2 ^ (-(((u:Nat):Int) - (v:Nat) - 1)).toNat * (2 ^ v * 10 ^ (-d).toNat)≤2 ^ (((u:Nat):Int) - (v:Nat) - 1).toNat * 10 ^ (-(x - 1)).toNat * (2 ^ v * 10 ^ (-d).toNat):=ak _ g1
  have e4:2 ^ (((u:Nat):Int) - (v:Nat) - 1).toNat * 10 ^ (-(x - 1)).toNat * (2 ^ v * 10 ^ (-d).toNat)=(2 ^ (u - 1) * 10 ^ (-d).toNat) * (2 ^ (-(((u:Nat):Int) - (v:Nat) - 1)).toNat * 10 ^ (-(x - 1)).toNat):=by
   have:2 ^ (((u:Nat):Int) - (v:Nat) - 1).toNat * 2 ^ v=2 ^ (u - 1) * 2 ^ (-(((u:Nat):Int) - (v:Nat) - 1)).toNat:=Nr.wQ (by omega)
   rw [show 2 ^ (((u:Nat):Int) - (v:Nat) - 1).toNat * 10 ^ (-(x - 1)).toNat * (2 ^ v * 10 ^ (-d).toNat)=(2 ^ (((u:Nat):Int) - (v:Nat) - 1).toNat * 2 ^ v) * (10 ^ (-(x - 1)).toNat * 10 ^ (-d).toNat) by simp only [Nat.mul_assoc,Nat.mul_comm,Nat.mul_left_comm],this]
   simp only [Nat.mul_assoc,Nat.mul_comm,Nat.mul_left_comm]
  rw [e4] at s5
  have s6:(2 ^ (u - 1) * 10 ^ (-d).toNat) * (2 ^ (-(((u:Nat):Int) - (v:Nat) - 1)).toNat * 10 ^ (-(x - 1)).toNat)<(10 ^ d.toNat * 2 ^ v) * (2 ^ (-(((u:Nat):Int) - (v:Nat) - 1)).toNat * 10 ^ (-(x - 1)).toNat):=Nat.mul_lt_mul_of_pos_right s1 (Nat.mul_pos (Nat.two_pow_pos _) (Nr.eM _))
  have s7:=Nat.lt_of_le_of_lt s5 s6
  have e5:10 ^ (x - 1).toNat * 2 ^ (-(((u:Nat):Int) - (v:Nat) - 1)).toNat * (2 ^ v * 10 ^ (-d).toNat)=10 ^ ((x - 1).toNat+(-d).toNat) * (2 ^ (-(((u:Nat):Int) - (v:Nat) - 1)).toNat * 2 ^ v):=by
   rw [Nat.pow_add 10];simp only [Nat.mul_assoc,Nat.mul_comm,Nat.mul_left_comm]
  have e6:10 ^ d.toNat * 2 ^ v * (2 ^ (-(((u:Nat):Int) - (v:Nat) - 1)).toNat * 10 ^ (-(x - 1)).toNat)=10 ^ (d.toNat+(-(x - 1)).toNat) * (2 ^ (-(((u:Nat):Int) - (v:Nat) - 1)).toNat * 2 ^ v):=by
   rw [Nat.pow_add 10];simp only [Nat.mul_assoc,Nat.mul_comm,Nat.mul_left_comm]
  rw [e5,e6] at s7
  have s8:=Sh.qi (Nat.lt_of_mul_lt_mul_right s7)
  omega
 ·exact c
theorem bI.DG (u:UInt64) (p:Nat) (hu:u.toNat=p) (hp:0<p) (ht:p≤top) (x2 x3:List UInt16) (i2:Nt.is x2=true) (i3:Nt.is x3=true) (w2:Nt.val x2=Sh.iP p) (w3:Nt.val x3=Sh.fY p) (n0:Nat) (hn:n0≤17) (h0:∀j:Nat,1≤j→j<n0→Sh.some_ p (Sh.iP p) (Sh.fY p) (Sh.dx p) j=none) (h1:Sh.some_ p (Sh.iP p) (Sh.fY p) (Sh.dx p) n0=some (Sh.digits p)) :
  ∀m i:Nat,i+m=n0→1≤i→bI.l3 u (Sh.dx p) x2 x3 i=some [.s (Sh.digits p).1,.i .i64 (Sh.digits p).2,.b true]:=by
 obtain ⟨d1,d2⟩:=vM hp ht
 obtain ⟨al,bl,_,_⟩:=tj p ht
 have ha:0<Sh.iP p:=Nat.mul_pos (Sh.rp hp) (Nat.two_pow_pos _)
 have pre:∀i:Nat,1≤i→i≤17→Sh.nJ (Sh.iP p) (Sh.fY p) (Sh.dx p) i=true:=fun i h1 h2=>by
  obtain ⟨r1,r2⟩:=Sh.oF hp (n:=i) (by omega)
  have t1:1 * Sh.tB (Sh.fY p) (i - Sh.dx p)≤10 ^ ((i:Int) - 1).toNat * Sh.tB (Sh.fY p) (i - Sh.dx p):=ak _ (Nr.eM _)
  have t2:10 ^ (i:Int).toNat * Sh.tB (Sh.fY p) (i - Sh.dx p)≤10 ^ 17 * Sh.tB (Sh.fY p) (i - Sh.dx p):=ak _ (Nr.kh (by omega))
  unfold Sh.nJ
  exact aa ⟨by omega,by omega,by omega,by omega,ha,al,Sh.jC p,bl,by omega,Nat.lt_of_lt_of_le r2 t2⟩
 intro m
 induction m with
 | zero =>
  intro i hi Nz
  have hi:i=n0:=hi
  subst hi
  refine bI.sJ _ _ _ _ _ ?_
  intro v1 g1 v2 g2 v3 g3 v4 g4
  rw [w2,w3,hu,Sh.rV,h1] at g1 g2 g3
  have e3:v3=true:=g3
  rw [i2,i3,w2,w3,pre i Nz hn,e3]
  refine (bw (by rfl)).trans ?_
  rw [Option.getD_some] at g1 g2
  rw [ai,g1,g2]
 | succ m ih =>
  intro i hi Nz
  refine bI.sJ _ _ _ _ _ ?_
  intro v1 g1 v2 g2 v3 g3 v4 g4
  rw [w2,w3,hu,Sh.rV,h0 i Nz (by omega)] at g3
  have e3:v3=false:=g3
  have e4:v4=((i+1:Nat):Int):=by rw [g4,i64_in _ (by omega)];omega
  rw [i2,i3,w2,w3,pre i Nz (by omega),e3]
  refine (bw (by rfl)).trans ?_
  rw [ae,e4]
  exact ih (i+1) (by omega) (by omega)
theorem bI.ju (u:UInt64) (p:Nat) (hu:u.toNat=p) (hp:0<p) (ht:p≤top) (x2 x3:List UInt16) (i2:Nt.is x2=true) (i3:Nt.is x3=true) (w2:Nt.val x2=Sh.iP p) (w3:Nt.val x3=Sh.fY p) :
  ∀(m:Nat) (x:Int),x+m=Sh.dx p→-390≤x→bI.l2 u x x2 x3=some [.s (Sh.digits p).1,.i .i64 (Sh.digits p).2,.b true]:=by
 obtain ⟨d1,d2⟩:=vM hp ht
 obtain ⟨al,bl,_,_⟩:=tj p ht
 intro m
 induction m with
 | zero =>
  intro x hx KE
  have hx:x=Sh.dx p:=by omega
  subst hx
  refine bI.iw _ _ _ _ ?_
  intro v1 g1
  have GF:¬(Sh.tB (Sh.fY p) (-(Sh.dx p))≤Sh.tA (Sh.iP p) (-(Sh.dx p))):=fun h=>by have:=(uW hp _).1 h;omega
  rw [i2,i3,w2,w3,aa (⟨by omega,by omega,al,bl⟩ : -400≤Sh.dx p∧Sh.dx p≤400∧Sh.iP p<2 ^ 1100∧Sh.fY p<2 ^ 1100)]
  refine (bw (by rfl)).trans ?_
  rw [ab GF,ae]
  obtain ⟨n,n1,n2,n3,n4⟩:=Sh.first hp ht
  exact bI.DG u p hu hp ht x2 x3 i2 i3 w2 w3 n n2 n3 n4 (n - 1) 1 (by omega) (by omega)
 | succ m ih =>
  intro x hx KE
  refine bI.iw _ _ _ _ ?_
  intro v1 g1
  have e1:v1=x+1:=by rw [g1,i64_in _ (by omega)]
  rw [i2,i3,w2,w3,aa (⟨by omega,by omega,al,bl⟩ : -400≤x∧x≤400∧Sh.iP p<2 ^ 1100∧Sh.fY p<2 ^ 1100)]
  refine (bw (by rfl)).trans ?_
  rw [aa ((uW hp x).2 (by omega)),ai,e1]
  exact ih (x+1) (by omega) (by omega)
theorem N7 {α β γ:Type} (a:α) (b:β) (c:γ) (x:α × β × γ) (h:x=(a,b,c)):x.1=a∧x.2.1=b∧x.2.2=c:=by subst h;exact ⟨rfl,rfl,rfl⟩
theorem EA {b:UInt64} (h:(Nr.split b).1=2):(Sh.dg b).1=(Sh.digits (Sh.mM b)).1∧(Sh.dg b).2.1=(Sh.digits (Sh.mM b)).2∧(Sh.dg b).2.2=true :=
 N7 _ _ _ _ ((Sh.H0 b).trans (aw h))
theorem J8 {b:UInt64} (h:¬(Nr.split b).1=2):(Sh.dg b).1=[]∧(Sh.dg b).2.1=0∧(Sh.dg b).2.2=false:=by
 rw [Sh.H0]
 unfold Sh.NG
 rw [au h]
 exact ⟨rfl,rfl,rfl⟩
theorem bI.gM (u:UInt64) (p:Nat) (hu:u.toNat=p) (hp:0<p) (ht:p≤top) (x1 x2:List UInt16) (j1:Nt.is x1=true) (j2:Nt.is x2=true) (k1:Nt.val x1=Sh.iP p) (k2:Nt.val x2=Sh.fY p):bI.j1 u x1 x2=some [.s (Sh.digits p).1,.i .i64 (Sh.digits p).2,.b true]:=by
 obtain ⟨al,bl,ba,bb⟩:=tj _ ht
 refine bI.iI _ _ _ ?_
 intro u1 g1 u2 g2 u3 g3 u4 g4 u5 g5
 rw [k1] at g1
 rw [k2] at g2
 obtain ⟨q1,q2⟩:=D3 hp ht
 obtain ⟨r1,r2⟩:=vM hp ht
 generalize hA:Nt.bits (Sh.iP p)=A at *
 generalize hB:Nt.bits (Sh.fY p)=B at *
 have e3:u3=((A:Int) - (B:Int)) * 30103:=by
  rw [g3,g1,g2,i64_in ((A:Int) - (B:Int)) (by omega),i64_in _ (by omega)]
 have e4:u4=Int.tdiv (((A:Int) - (B:Int)) * 30103) 100000:=by rw [g4,e3,i64_in _ (by omega)]
 have e5:u5=Int.tdiv (((A:Int) - (B:Int)) * 30103) 100000 - 2:=by rw [g5,e4,i64_in _ (by omega)]
 have hz:(!decide ((100000:Int)=0))=true:=by decide
 rw [j1,j2,bQ,bQ,hz,bQ]
 rw [←e5] at q1 q2
 exact bI.ju u p hu hp ht x1 x2 j1 j2 k1 k2 (Sh.dx p - u5).toNat u5 (by omega) (by omega)
theorem bI.goal (b:UInt64):bI.F b=some [.s (Sh.dg b).1,.i .i64 (Sh.dg b).2.1,.b (Sh.dg b).2.2]:=by
 refine bI.bZ _ ?_
 intro v1 h1 v2 h2 v3 h3 v4 h4 v5 h5 v6 h6
 by_cases c:(Nr.split b).1=2
 ·obtain ⟨z1,z2,z3⟩:=EA c
  rw [z1,z2,z3,aa c,aH,ae]
  clear z1 z2 z3
  obtain ⟨hp,ht,hm,he⟩:=tY c
  have hu:v1.toNat=Sh.mM b:=by rw [h1];exact E9 b
  obtain ⟨al,bl,ba,bb⟩:=tj _ ht
  have Jg:=Nr.yV ht
  have BR:=Nr.sD (Sh.mM b)
  rw [hm] at h2
  have w2:Nt.val v2=mG (Sh.mM b):=by rw [h2,Nt.eu]
  have w3:Nt.val v3=1:=by rw [h3,Nt.eu];rfl
  have i2:Nt.is v2=true:=by rw [h2];exact iy (i:=53) BR (by omega)
  have i3:Nt.is v3=true:=by rw [h3];exact iy (i:=1) (by decide) (by omega)
  have key:∀x1 x2:List UInt16,Nt.is x1=true→Nt.is x2=true→Nt.val x1=Sh.iP (Sh.mM b)→Nt.val x2=Sh.fY (Sh.mM b)→bI.j1 v1 x1 x2=some [.s (Sh.digits (Sh.mM b)).1,.i .i64 (Sh.digits (Sh.mM b)).2,.b true]:=bI.gM v1 _ hu hp ht
  rw [he] at h4 h5 ⊢
  by_cases c2:0≤(sh (Sh.mM b):Int) - 1074
  ·have w4:Nt.val v4=Sh.iP (Sh.mM b):=by rw [h4,Nt.eu,w2];rfl
   have i4:Nt.is v4=true:=by rw [h4,w2];exact iy (i:=1100) al (by omega)
   have RP:Nt.val v3=Sh.fY (Sh.mM b):=by rw [w3];unfold Sh.fY;rw [show (-((sh (Sh.mM b):Int) - 1074)).toNat=0 by omega,Nat.pow_zero]
   rw [aa c2,ai,i2,aa (show 0≤(sh (Sh.mM b):Int) - 1074∧(sh (Sh.mM b):Int) - 1074≤4096 by omega)]
   refine (bw (by rfl)).trans ?_
   exact key v4 v3 i4 i3 w4 RP
  ·have e5:v5=-((sh (Sh.mM b):Int) - 1074):=by rw [h5,i64_in _ (by omega)];omega
   have w6:Nt.val v6=Sh.fY (Sh.mM b):=by rw [h6,Nt.eu,w3,e5,Nat.one_mul];rfl
   have i6:Nt.is v6=true:=by
    rw [h6,w3,e5,Nat.one_mul];exact iy (i:=1100) bl (by omega)
   have RQ:Nt.val v2=Sh.iP (Sh.mM b):=by rw [w2];unfold Sh.iP;rw [show ((sh (Sh.mM b):Int) - 1074).toNat=0 by omega,Nat.pow_zero,Nat.mul_one]
   rw [ab c2,ae,i3,e5,aa (show 0≤-((sh (Sh.mM b):Int) - 1074)∧-((sh (Sh.mM b):Int) - 1074)≤4096 by omega)]
   refine (bw (by rfl)).trans ?_
   exact key v2 v6 i2 i6 RQ w6
 ·obtain ⟨z1,z2,z3⟩:=J8 c
  rw [z1,z2,z3,ab c];rfl
end Go.Eng
set_option maxRecDepth 20000
namespace Go.Eng
open Go.IntWalk
open Nr (V mG sh top gZ rd)
theorem pC (n:Int):(Sh.dU n).length=n.toNat:=by unfold Sh.dU;rw [List.length_replicate]
theorem xx {v:Int} (h : -1000000≤v∧v≤1000000):Nr.i64 v=true:=aa (by omega)
theorem dK.gM (x:Int) (t:bz) (hx : -900≤x∧x≤900) (ht:t.length≤1000):dK.j1 x t=some [.s (t++(if x<1 then [101,45]++Nr.itoa (1 - x) else [101,43]++Nr.itoa (x - 1)))]:=by
 refine dK.iI _ _ ?_
 intro v1 h1 v2 h2 v3 h3 v4 h4
 have e1:v1=1 - x:=by rw [h1,i64_in _ (by omega)]
 have e3:v3=x - 1:=by rw [h3,i64_in _ (by omega)]
 by_cases c:x<1
 ·have il:=Sh.rC (v:=1 - x) (by omega) (by omega)
  have i1:Nr.i64 v1=true:=by rw [e1];exact xx (by omega)
  rw [aa c,ai,aw c,i1,bw (aa (by show t.length+2≤_;omega)),bQ,bw (aa (by rw [ao,e1];show t.length+2+_≤_;omega)),h2,e1,aG]
 ·have il:=Sh.rC (v:=x - 1) (by omega) (by omega)
  have i3:Nr.i64 v3=true:=by rw [e3];exact xx (by omega)
  rw [ab c,ae,au c,i3,bw (aa (by show t.length+2≤_;omega)),bQ,bw (aa (by rw [ao,e3];show t.length+2+_≤_;omega)),h4,e3,aG]
theorem dK.goal (d:bz) (x:Int) (hp:decide (1≤d.length∧d.length≤17∧-900≤x∧x≤900)=true):dK.F d x=some [.s (Sh.AA d x)]:=by
 obtain ⟨p1,p2,p3,p4⟩:=ar hp
 rw [Sh.xu]
 unfold Sh.laid
 refine dK.bZ _ _ ?_
 intro v1 h1 v2 h2 v3 h3 v4 h4 v5 h5 v6 h6 v7 h7 v8 h8 v9 h9 v10 iA v11 ki
 have nX:∀b:Bool,(!b || b)=true∧(!b || (b&&b))=true:=by decide
 have e1:v1=decide (1≤x∧x≤21):=by rw [h1];by_cases c:1≤x <;> simp [c]
 have e2:v2=decide (1≤x∧x≤21∧(d.length:Int)≤x):=by
  rw [h2,e1]
  by_cases c:1≤x∧x≤21
  ·rw [aa c,ai,aZ];omega
  ·rw [ab c,ae,ab (by omega)]
 have e6:v6=decide (-5≤x∧x≤0):=by rw [h6];by_cases c : -5≤x <;> simp [c]
 have e3:v3=x - d.length:=by rw [h3,i64_in _ (by omega)]
 have ew:IntKind.i64.wrap (0 - x)=-x:=by rw [i64_in _ (by omega)];omega
 rw [ew] at h7 ⊢
 rw [bw (nX _).1,bw (nX _).1,bw (nX _).2,bw (nX _).1,e2]
 by_cases c1:1≤x∧x≤21∧(d.length:Int)≤x
 ·rw [aa c1,ai,aw c1,bw (aa ⟨rfl,by omega,by omega⟩),bw (aa (by rw [pC];omega)),e3]
 ·rw [ab c1,ae,au c1,bw (nX _).1,bw (nX _).1,e1]
  by_cases c2:1≤x∧x≤21
  ·have l4:v4.length≤18:=by rw [h4,ao,aF];show min _ _+1≤18;omega
   rw [aa c2,ai,aw c2,bw (jm (by omega) (by omega) (by omega)),bw (aa (by rw [aF];show min _ _+1≤_;omega)),bw (jm (by omega) (by omega) (by omega)),bw (aa (by rw [aU];omega)),h5,h4,aG]
  ·rw [ab c2,ae,au c2,bw (nX _).1,bw (nX _).1,e6]
   by_cases c3 : -5≤x∧x≤0
   ·rw [aa c3,ai,aw c3,bw (aa ⟨rfl,by omega,by omega⟩),bw (aa (by rw [h7,pC];show 2+_≤_;omega)),bw (aa (by rw [ao,h7,pC];show 2+_+_≤_;omega)),h8,h7,aG]
   ·have l9:v9.length≤1:=by rw [h9,aF];show min 1 _≤1;omega
    have l10:v10.length≤17:=by rw [iA,aU];omega
    have g9:v9=d.take 1:=h9
    have g10:v10=d.drop 1:=iA
    rw [ab c3,ae,au c3,bw (jm (by omega) (by omega) (by omega))]
    by_cases c4:1<d.length
    ·rw [aa (by omega),ai,bw (jm (by omega) (by omega) (by omega)),bw (aa (by show 1+v10.length≤_;omega)),bw (aa (by rw [ao];show v9.length+(1+v10.length)≤_;omega)),dK.gM x v11 ⟨p3,p4⟩ (by rw [ki,ao,ao];show v9.length+(1+v10.length)≤_;omega),aw c4,ki,g9,g10];rfl
    ·rw [ab (by omega),ae,dK.gM x v9 ⟨p3,p4⟩ (by omega),au c4,bj,g9]
theorem Ez {b:UInt64} (h:(Nr.split b).1=2):(1≤(Sh.dg b).1.length∧(Sh.dg b).1.length≤17∧-900≤(Sh.dg b).2.1∧(Sh.dg b).2.1≤900)∧Sh.zW (Sh.dg b).1∧Nr.read (Sh.dg b).1 (Sh.dg b).2.1=some (Sh.mM b):=by
 obtain ⟨hp,ht,hm,he⟩:=tY h
 obtain ⟨z1,z2,z3⟩:=EA h
 obtain ⟨n,N,n1,n2,n3,n4,n5,n6,n7⟩:=Sh.qw hp ht
 obtain ⟨d1,d2⟩:=vM hp ht
 have hl:=Sh.yj n1 n4
 have hN:N<10 ^ (n+1):=Nat.lt_of_le_of_lt n4 (Nat.pow_lt_pow_right (by omega) (by omega))
 have hL:=Nr.ik (n+1) N hN (by omega)
 have hr:=Sh.yc hp ht
 obtain ⟨q1,q2,q3,q4⟩:=Nr.lC N
 obtain ⟨t,t1,t2⟩:=Nr.ko (Nr.dec N)
 have ne:Nr.gr (Nr.dec N)≠[]:=by
  intro e0
  have hn:=congrArg Nr.num t1
  rw [Nr.gC,Nr.jt,List.length_replicate,Nat.add_zero,q2,e0,show Nr.num []=0 from rfl,Nat.zero_mul] at hn
  omega
 have Ti:=Nr.kT N
 have lB:=List.length_pos_iff.2 ne
 rw [z1,z2]
 refine ⟨?_,?_,hr⟩
 ·rw [n6]
  refine ⟨lB,Nat.le_trans hl n2,?_,?_⟩
  ·show -900≤((Nr.dec N).length:Int)+(Sh.dx (Sh.mM b) - n);omega
  ·show ((Nr.dec N).length:Int)+(Sh.dx (Sh.mM b) - n)≤900;omega
 ·rw [n6]
  refine ⟨(Nr.ic q1 t1).1,ne,?_⟩
  have:=q4 n3
  rw [t1,af,List.getElem?_append_left lB,←af] at this
  exact this
theorem rS (b:UInt64):(Nr.split b).1=1∨(Nr.split b).1=2∨(Nr.split b).1=3∨(Nr.split b).1=4:=by
 unfold Nr.split
 simp only
 by_cases c1:b.toNat / 4503599627370496 % 2048=2047
 ·rw [aw c1]
  by_cases c2:b.toNat % 4503599627370496=0
  ·rw [aw c2];exact .inr (.inr (.inl rfl))
  ·rw [au c2];exact .inr (.inr (.inr rfl))
 ·rw [au c1]
  by_cases c2:b.toNat / 4503599627370496 % 2048=0
  ·rw [aw c2]
   by_cases c3:b.toNat % 4503599627370496=0
   ·rw [aw c3];exact .inl rfl
   ·rw [au c3];exact .inr (.inl rfl)
  ·rw [au c2];exact .inr (.inl rfl)
theorem xt {b:UInt64} (h:(Nr.split b).1=2):(Sh.laid (Sh.dg b).1 (Sh.dg b).2.1).length≤24:=by
 obtain ⟨⟨_,r2,r3,r4⟩,hL,_⟩:=Ez h
 obtain ⟨_,_,_,_,_,_,_,hlen,_⟩:=Sh.zw hL r2 ⟨r3,r4⟩
 exact hlen
theorem dC.gM (b:UInt64) (t:bz) (ht:t.length≤1000):dC.j1 (Nr.split b).2.1 t=some [.s (Sh.sign b++t)]:=by
 rw [dC.lp]
 unfold Sh.sign
 cases (Nr.split b).2.1 with
 | true=>rw [ai,bw (aa (by show 1+t.length≤_;omega)),aw rfl]
 | false=>rw [ae,au (by decide)];rfl
theorem dC.goal (b:UInt64):dC.F b=some [.s (Sh.text b)]:=by
 refine dC.bZ _ ?_
 intro v1 h1
 rw [Sh.xu] at h1
 rw [Sh.ve]
 unfold Sh.tX
 by_cases c4:(Nr.split b).1=4
 ·rw [aa c4,ai,aw c4]
 ·rw [ab c4,ae,au c4]
  by_cases c3:(Nr.split b).1=3
  ·rw [aa c3,ai,aw c3,dC.gM b _ (by decide)]
  ·rw [ab c3,ae,au c3]
   by_cases c1:(Nr.split b).1=1
   ·rw [aa c1,ai,aw c1,dC.gM b _ (by decide)]
   ·have c2:(Nr.split b).1=2:=by have:=rS b;omega
    have hl:=xt c2
    rw [ab c1,ae,au c1,bw (aa (Ez c2).1),h1,dC.gM b _ (by omega)]
end Go.Eng
set_option maxRecDepth 20000
namespace Go.Eng
open Nr (mG sh top)
namespace Sh
def Wl (m:Nat):Int:=if m / 4503599627370496=2047 then (if m % 4503599627370496=0 then 3 else 4) else if m / 4503599627370496=0 then (if m % 4503599627370496=0 then 1 else 2) else 2
theorem Vy (b:UInt64):(Nr.split b).1=Wl (mM b)∧(Nr.split b).2.1=decide (9223372036854775808≤b.toNat):=by
 have hb:=b.toNat_lt
 have hx:b.toNat / 4503599627370496 % 2048=mM b / 4503599627370496:=by unfold mM;omega
 have hf:b.toNat % 4503599627370496=mM b % 4503599627370496:=by unfold mM;omega
 unfold Nr.split Wl
 simp only [hx,hf]
 generalize mM b=p
 by_cases c1:p / 4503599627370496=2047
 ·rw [aw c1,aw c1]
  by_cases c2:p % 4503599627370496=0
  ·rw [aw c2,aw c2];exact ⟨rfl,rfl⟩
  ·rw [au c2,au c2];exact ⟨rfl,rfl⟩
 ·rw [au c1,au c1]
  by_cases c2:p / 4503599627370496=0
  ·rw [aw c2,aw c2]
   by_cases c3:p % 4503599627370496=0
   ·rw [aw c3,aw c3];exact ⟨rfl,rfl⟩
   ·rw [au c3,au c3];exact ⟨rfl,rfl⟩
  ·rw [au c2,au c2];exact ⟨rfl,rfl⟩
noncomputable def tb (b:UInt64):bz:=if (Nr.split b).1=3 then [73,110,102,105,110,105,116,121] else if (Nr.split b).1=1 then [48] else laid (dg b).1 (dg b).2.1
theorem CH {b:UInt64} (h:(Nr.split b).1=4):text b=[78,97,78]:=by rw [ve];unfold tX;rw [aw h]
theorem FL {b:UInt64} (h:¬(Nr.split b).1=4):text b=sign b++tb b:=by
 rw [ve];unfold tX tb
 rw [au h]
 by_cases c3:(Nr.split b).1=3
 ·rw [aw c3,aw c3]
 ·rw [au c3,au c3]
  by_cases c1:(Nr.split b).1=1
  ·rw [aw c1,aw c1]
  ·rw [au c1,au c1]
theorem Iy {b:UInt64} (h:¬(Nr.split b).1=4):(tb b).length≤24:=by
 unfold tb
 by_cases c3:(Nr.split b).1=3
 ·rw [aw c3];decide
 ·rw [au c3]
  by_cases c1:(Nr.split b).1=1
  ·rw [aw c1];decide
  ·rw [au c1]
   exact xt (by have:=rS b;omega)
theorem CI (b:UInt64):(text b).length≤25:=by
 by_cases c:(Nr.split b).1=4
 ·rw [CH c];decide
 ·rw [FL c,ao]
  have:=Iy c
  have hs:(sign b).length≤1:=by unfold sign;split <;> decide
  omega
end Sh
end Go.Eng
set_option maxRecDepth 20000
namespace Go.Eng
open Go.IntWalk
theorem gw (n:bz) (j:bM):bM.bO (Cn.one n j)=1+n.length+bM.bO j:=by
 simp only [bM.bO,Cn.one,Mem.of,Mem.bO,Mem.cM,aB];omega
theorem jV (n m:bz) (j k:bM):bM.bO (Cn.two n j m k)=1+n.length+m.length+bM.bO j+bM.bO k:=by
 simp only [bM.bO,Cn.two,Mem.of,Mem.bO,Mem.cM,aB];omega
theorem iq (s:bz):bM.bO (Cn.str s)=1+s.length:=by
 simp only [bM.bO,Cn.str,Mem.of,Mem.bO,Mem.cM,aB];omega
theorem sM (v:Int) (h:Nr.i64 v=true):(Nr.itoa v).length≤21:=by
 have h:=ar h
 rw [Nr.nN]
 have:=Nr.ik 20 v.natAbs (by rw [t20];omega) (by omega)
 split
 ·simp only [ay];omega
 ·omega
theorem wZ (v:Int) (h:Nr.i64 v=true):bM.bO (Cn.num v)≤22:=by
 have:=sM v h
 simp only [bM.bO,Cn.num,Mem.of,Mem.bO,Mem.cM,aB];omega
theorem B5 (h l:UInt64):(Cn.sW h l).length≤20001:=by
 have hx:=pN h l
 have hc:=rU h l
 have hd:=Nr.ik 34 _ (by rw [t34];exact hc) (by omega)
 have hl:=uM (d:=Nr.dec (Cn.split h l).2.2.1.val) (x:=(Cn.split h l).2.2.2) (by omega) (by omega) (by omega)
 unfold Cn.sW
 simp only
 split
 ·simp
 ·cases (Cn.split h l).2.1 with
  | true=>rw [ai,ay];split <;> simp <;> omega
  | false=>rw [ae];split <;> simp <;> omega
theorem Bv (v:Val):bM.bO (Cn.nW v).1≤30000:=by
 have h1:=ny v.bits
 have h2:=ny v.high
 have h3:=ny v.low
 have h4:=Sh.CI v.bits
 have h5:=B5 v.high v.low
 have i64:∀b,(Nr.itoa (Cn.i64 b)).length≤21:=fun b=>sM _ (sR _)
 have i32:∀b,(Nr.itoa (Cn.i32 b)).length≤21:=fun b=>sM _ (sR _)
 have n64:∀b,bM.bO (Cn.num (Cn.i64 b))≤22:=fun b=>wZ _ (sR _)
 have a1:=i64 v.bits
 have a2:=i32 v.bits
 have a3:=n64 (dD v.bits 32)
 have a4:=n64 (v.bits &&& 4294967295)
 unfold Cn.nW
 split
 ·split <;> simp only [gw,iq,ay,aB] <;> omega
 split
 ·simp only [gw,iq,ay,aB];omega
 split
 ·simp only [gw,iq,ay,aB];omega
 split
 ·simp only [gw,iq,ay,aB];omega
 split
 ·simp only [gw,jV,ay,aB];omega
 split
 ·split <;> simp only [gw,iq,ay,aB,ao] <;> omega
 ·decide
theorem yQ (v:Val):bM.bO (Cn.qM v)≤100+v.text.length+v.more.length+2 * v.bytes.length:=by
 have h1:=yp v.bytes
 unfold Cn.qM
 split
 ·simp only [gw,jV,iq,jA,ay,aB];omega
 split
 ·simp only [gw,jV,iq,jA,ay,aB];omega
 split
 ·simp only [gw,jV,iq,jA,ay,aB];omega
 split
 ·simp only [gw,jV,iq,jA,ay,aB];omega
 split
 ·simp only [gw,jV,iq,jA,ay,aB];omega
 split
 ·simp only [gw,jV,iq,jA,ay,aB];omega
 ·rw [iq];omega
end Go.Eng
set_option maxRecDepth 20000
namespace Go.Eng
open Go.IntWalk
theorem zt (v:Val):bM.bO (Cn.xl v)≤30000+v.text.length+v.more.length+2 * v.bytes.length:=by
 have h1:=Bv v
 have h2:=yQ v
 have h3:=wZ 1 (aa (by decide))
 have k:∀x:Int,bM.bO ⟨x,[],[]⟩=1:=fun x=>by simp only [bM.bO,Mem.of,Mem.bO,Mem.cM,aB]
 unfold Cn.xl
 split
 ·rw [gw,k];simp only [ay,aB];omega
 split
 ·rw [k];omega
 split
 ·rw [k];omega
 split
 ·rw [gw];simp only [ay,aB];omega
 split
 ·rw [gw];simp only [ay,aB];omega
 split
 ·omega
 ·omega
theorem qS:∀l:List Mem,Mem.cM (l.map Cn.sz)≤Mem.cM l
 | []=>by simp
 | m :: r=>by
  have:=qS r
  have h:=vn m
  have e:Mem.bO (Cn.sz m)=bM.bO m.val:=rfl
  simp only [aX,Mem.cM,e];omega
mutual
theorem B1:∀f:bJ,bM.bO (Cn.nZ f)+10 * f.name.length≤40000 * bJ.bO f
 | .mk n k b h l t m s y ks=>by
  have hk:=mv ks
  have hn:=qS (Cn.fM ks)
  have hl:=zt ⟨k,b,h,l,t,m,s,y,ks⟩
  have row:∀(x:Int) (ms:List Mem),bM.bO ⟨x,[],ms⟩=1+Mem.cM ms:=fun x ms=>by simp only [bM.bO,Mem.of,Mem.bO,aB]
  simp only [Cn.nZ,bJ.bO,bJ.name]
  split
  ·cases Cn.mD ks <;> simp only [ai,ae,gw,row,ay,aB] <;> omega
  split
  ·cases Tree.regular ks <;> simp only [ai,ae,gw,row,ay,aB] <;> omega
  split
  ·simp only [jV,row,iq,ay,aB];omega
  ·simp only at hl;omega
theorem mv:∀l:List bJ,Mem.cM (Cn.fM l)≤40000 * bJ.cM l
 | []=>by simp [Cn.fM,Mem.cM]
 | f :: r=>by
  have h1:=B1 f
  have h2:=mv r
  have e:Mem.bO (Mem.of f.name (Cn.nZ f))=f.name.length+bM.bO (Cn.nZ f):=by
   simp only [bM.bO,Mem.of,Mem.bO,aB];omega
  simp only [Cn.fM,Mem.cM,bJ.cM,e];omega
end
theorem zB (v:Val):bM.bO (Cn.jf v)≤1+40000 * bJ.bO (bJ.of [] v):=by
 have h:=mv v.kids
 have hk:bJ.cM v.kids+1≤bJ.bO (bJ.of [] v):=by simp only [bJ.of,bJ.bO];omega
 have row:∀(x:Int) (ms:List Mem),bM.bO ⟨x,[],ms⟩=1+Mem.cM ms:=fun x ms=>by simp only [bM.bO,Mem.of,Mem.bO,aB]
 unfold Cn.jf Cn.oA
 split
 ·rw [row];omega
 ·rw [row];simp only [Mem.cM];omega
theorem gn.goal (v:Val) (hp:(decide (bJ.bO (bJ.of [] v)≤100000))=true):gn.F v=some [.s (Cn.tV v),.ag [.i .i64 (Cn.oG v).2,.i .i64 0,.sl .is (Cn.oG v).1]]:=by
 have hb:=ar hp
 have hj:=zB v
 rw [gn.eJ,bw (aa (by omega))]
 unfold Cn.tV Cn.oG
 by_cases c:(Cn.jv v).2=0
 ·rw [aa c,aH,ae,au (by simp [c]),au (by simp [c]),bw (aa (by omega))]
 ·rw [ab c,aM,ai,aw c,aw c]
end Go.Eng
set_option maxRecDepth 20000
namespace Go.Eng
open Go.IntWalk
theorem Hd:Nr.itoa (Cn.i32 1)=[49]:=by
 have e:Cn.i32 1=1:=by decide +kernel
 rw [e,Nr.nN,au (by decide),show (1:Int).natAbs=1 from rfl,Nr.kB (by omega)];rfl
def H8:Val:=⟨3,0,0,0,[],[],0,[],[.mk [97] 16 1 0 0 [] [] 0 [] []]⟩
theorem zS:Cn.jv H8=([],0):=by decide +kernel
theorem AZ:Cn.jf H8=⟨7,[],[.mk [97] 7 [] [.mk [36,110,117,109,98,101,114,73,110,116] 5 [49] []]]⟩:=by
 unfold Cn.jf
 rw [zS,aw rfl]
 unfold Cn.oA H8
 simp only [Cn.fM,Cn.nZ,Cn.xl,Cn.nW]
 simp [Cn.one,Cn.str,Mem.of,Hd,bJ.name]
theorem E5:Cn.mE (Cn.jf H8)=0:=by
 rw [AZ]
 simp only [Cn.mE,Mem.of,Cn.zO,Cn.sY,Mem.name]
 have h1:fy.whole [97]=true:=by decide +kernel
 have h2:fy.whole [36,110,117,109,98,101,114,73,110,116]=true:=by decide +kernel
 have h3:fy.whole [49]=true:=by decide +kernel
 simp [h1,h2,h3]
theorem Kk:Cn.tJ (Cn.jf H8)=[123,34,97,34,58,123,34,36,110,117,109,98,101,114,73,110,116,34,58,34,49,34,125,125]:=by
 rw [AZ];decide +kernel
theorem dw.goal:dw.F=some [.b true]:=by
 refine dw.bZ ?_
 intro v1 h1 v2 h2 v3 h3 v4 h4 v5 h5 v6 h6
 have e0:(⟨3,0,0,0,[],[],0,[],v1⟩:Val)=H8:=by rw [h1];rfl
 rw [e0] at h2 h3 h4 ⊢
 have eE:Cn.oG H8=([],0):=by unfold Cn.oG;rw [zS,au (by simp),E5]
 have eV:Cn.tV H8=[123,34,97,34,58,123,34,36,110,117,109,98,101,114,73,110,116,34,58,34,49,34,125,125]:=by
  unfold Cn.tV Cn.pW;rw [zS,au (by simp),E5,Kk];rfl
 have e6:v6=true:=by rw [h6,h5,h3,h2,eE,eV];rfl
 rw [bw (by decide +kernel),bw (iJ _),bw (iJ _),e6]
end Go.Eng
set_option maxRecDepth 20000
namespace Go.Eng
open Go.Proofs
theorem dt.ok:bA Go.Proofs.Tryz.prog cnGl 253 (dt.c,dt.sg):=meets bG all_nil dt.h (fits fun ins=>by unfold dt.c;split;exact dt.goal _;trivial)
end Go.Eng
namespace Go.Eng
open Go.RowKit Go.Proofs
set_option maxRecDepth 100000
set_option maxHeartbeats 1000000
theorem Fl.C6 (a:Nat):Ieee.double.read (Fl.neg a)=(Ieee.double.read a).opposite:=by
 have e1:Fl.neg a % 2 ^ 63=a % 2 ^ 63:=by
  unfold Fl.neg
  rw [show 9223372036854775808=2 ^ 63 by decide,Nat.xor_mod_two_pow,Nat.mod_self,Nat.xor_zero]
 have e2:(Fl.neg a / 2 ^ 63 % 2 == 1)=!(a / 2 ^ 63 % 2 == 1):=by
  unfold Fl.neg
  rw [show 9223372036854775808=2 ^ 63 by decide,Nat.xor_div_two_pow,Nat.div_self (by decide)]
  have:=Nat.xor_mod_two_pow (a:=a / 2 ^ 63) (b:=1) (n:=1)
  rw [Nat.pow_one] at this
  rw [this]
  rcases Nat.mod_two_eq_zero_or_one (a / 2 ^ 63) with e | e <;> rw [e] <;> rfl
 have h:Ieee.double.signWeight=2 ^ 63:=rfl
 unfold Ieee.Format.read
 rw [h]
 simp only [e1,e2]
 split
 ·rfl
 ·split
  ·rfl
  ·split <;> rfl
theorem Fl.W.neg {a:Nat} {x:Int} (h:Fl.W a x):Fl.W (Fl.neg a) (-x):=by
 show Fl.WD (Ieee.double.read (Fl.neg a)) (-x)
 rw [Fl.C6]
 exact Fl.WD.opposite h
theorem Cu {R:Reach} {w:World} {x:Nat} (hx:Fl.num x=true) (hR:∀b o,R b o→b<w.heap.size) (hG:GlOK cnGl R w) :
  Calls Tryz.prog 253 #[.float .f64 x] w fun e w'=>e = .returned (.float .f64 (Fl.jW x))∧Below w.heap.size w w':=by
 refine ((dt.ok [.c (.float .f64 x)] [.c (.float .f64 (Fl.jW x))] ⟨hx,rfl⟩).2 w R [.float .f64 x] hR hG ⟨rfl,fun i y v hy hv=>?_⟩ fun i j v v' b hi=>(hi (by simp [dt.sg])).elim).mono ?_
 ·cases i with
  | zero=>cases hy;cases hv;exact .sc rfl
  | succ i=>simp at hy
 ·rintro e w' ⟨y,R',kY,ys,rfl,hx,hr,ho⟩
  refine ⟨?_,hx.os,hx.tape,hx.output,hx.size,fun k hk=>hx.heap k hk (by rintro ⟨i,v,hm,_⟩;exact hm (by simp [dt.sg]))⟩
  congr 1
  have hl:kY.length=1:=ho.len
  have jl:=ho.rep
  rw [ho.val]
  match kY,hl with
  | [y],_ =>
   have jl:iB R' w' [.c (.float .f64 (Fl.jW x))] [y]:=jl
   cases jl with
   | cons a _=>exact a.dr rfl
theorem PT {R:Reach} (b:Nat) (x m:Nat) (X M:Int) (w:World) (hc:w.cell? ⟨b,0,none⟩=some (.float .f64 m)) (hX:Fl.W x X) (hM:Fl.W m M) (UX:(X.natAbs:Int)≤M) (hB:M≤9007199254740992) (hR:∀b o,R b o→b<w.heap.size) (hG:GlOK cnGl R w) :
  Calls Tryz.prog 255 #[.float .f64 x,.pointer (some ⟨b,0,none⟩)] w fun e w'=>e = .returned (.bool true)∧Below w.heap.size w w':=by
 have hn:∀w:World,(Op.unary .neg (.float .f64 m)).run Tryz.prog w = .ok (.float .f64 (Fl.neg m)) w:=fun w=>rfl
 have h1:FloatKind.f64.format.order x (Fl.neg m)=some .gt∨FloatKind.f64.format.order x (Fl.neg m)=some .eq:=by
  have e:FloatKind.f64.format.order x (Fl.neg m)=some (compare X (-M)):=Fl.jr hX hM.neg
  rw [e]
  rcases Int.lt_or_eq_of_le (show -M≤X by omega) with c | c
  ·rw [Int.compare_eq_gt.2 c];exact .inl rfl
  ·rw [←c,Int.compare_eq_eq.2 rfl];exact .inr rfl
 have h2:FloatKind.f64.format.order x m=some .lt∨FloatKind.f64.format.order x m=some .eq:=by
  have e:FloatKind.f64.format.order x m=some (compare X M):=Fl.jr hX hM
  rw [e]
  rcases Int.lt_or_eq_of_le (show X≤M by omega) with c | c
  ·rw [Int.compare_eq_lt.2 c];exact .inl rfl
  ·rw [←c,Int.compare_eq_eq.2 rfl];exact .inr rfl
 have h3:FloatKind.f64.format.order x (Fl.jW x)=some .eq:=by
  have e:FloatKind.f64.format.order x (Fl.jW x)=some (compare X X):=Fl.jr hX (hX.jW (by omega))
  rw [e,Int.compare_eq_eq.2 rfl]
 go_enter Tryz.func255,Tryz.ntmps255
 rcases h1 with h1 | h1 <;> rcases h2 with h2 | h2
 all_goals
  go_wp2_with (go_at_call 253;refine (Cu hX.num hR hG).mono ?_;rintro e w' ⟨rfl,hb⟩)
  go_ret
  exact ⟨rfl,hb⟩
theorem xL {R:Reach} {w w':World} (hR:∀b o,R b o→b<w.heap.size) (h:Below w.heap.size w w') (hG:GlOK cnGl R w):GlOK cnGl R w':=hG.dB (uR (io:=fun _=>False) hR h).dB
theorem RM {R:Reach} (z:Cx) (m:Nat) (X Y M:Int) (w:World) (hZ:Gz.Is z X Y) (hM:Fl.W m M) (hX:(X.natAbs:Int)≤M) (hY:(Y.natAbs:Int)≤M) (hB:M≤9007199254740992) (hR:∀b o,R b o→b<w.heap.size) (hG:GlOK cnGl R w) :
  Calls Tryz.prog 249 #[.complex .f64 z.1 z.2,.float .f64 m] w fun e w'=>e = .returned (.bool true)∧Below w.heap.size w w':=by
 have UQ:∀(fn:Fn) (first cap:Array Value) (w:World),(Instr.makeFunc fn first cap).run Tryz.prog w = .ok (.func fn first cap) w:=fun _ _ _ _=>rfl
 have HS:Below w.heap.size w (w.alloc (.cells #[.float .f64 m] 269)):=(Below.refl _ _).alloc (Nat.le_refl _) _
 have HR:(w.alloc (.cells #[.float .f64 m] 269)).cell? ⟨w.heap.size,0,none⟩=some (.float .f64 m):=by
  rw [World.cell?_alloc_at _ _ _ _ rfl];rfl
 have Jh:(w.alloc (.cells #[.float .f64 m] 269)).heap.size=w.heap.size+1:=Array.size_push ..
 have UL:∀(a:Array TypeId) (b:TypeId) (p q:Nat) (w:World),(Builtin.real_ a b #[.complex .f64 p q]).run Tryz.prog w = .ok (.float .f64 p) w:=fun _ _ _ _ _=>rfl
 have US:∀(a:Array TypeId) (b:TypeId) (p q:Nat) (w:World),(Builtin.imag_ a b #[.complex .f64 p q]).run Tryz.prog w = .ok (.float .f64 q) w:=fun _ _ _ _ _=>rfl
 have Pk:∀b o,R b o→b<(w.alloc (.cells #[.float .f64 m] 269)).heap.size:=fun b o h=>by have:=hR b o h;omega
 go_enter Tryz.func249,Tryz.ntmps249
 have QM:=xL hR HS hG
 go_wp2_with (go_at_call 255;refine (PT (R:=R) w.heap.size z.1 m X M (w.alloc (.cells #[.float .f64 m] 269)) HR hZ.1 hM hX hB Pk QM).mono ?O3;rintro e w2 ⟨rfl,GJ⟩)
 have Fx:w2.cell? ⟨w.heap.size,0,none⟩=some (.float .f64 m):=by
  simp only [World.cell?,GJ.block w.heap.size (by omega)]
  exact HR
 have Td:∀b o,R b o→b<w2.heap.size:=fun b o h=>Nat.lt_of_lt_of_le (Pk b o h) GJ.size
 refine (PT (R:=R) w.heap.size z.2 m Y M w2 Fx hZ.2 hM hY hB Td (xL Pk GJ QM)).mono ?_
 rintro e w3 ⟨rfl,KN⟩
 go_wp2
 go_ret
 refine ⟨rfl,?_⟩
 exact ⟨KN.os.trans (GJ.os.trans HS.os),KN.tape.trans (GJ.tape.trans HS.tape),KN.output.trans (GJ.output.trans HS.output),by have:=KN.size;have:=GJ.size;omega,fun k hk=>(KN.block k (by have:=GJ.size;omega)).trans ((GJ.block k (by omega)).trans (HS.block k hk))⟩
theorem gT.ok:bA Go.Proofs.Tryz.prog cnGl 249 (gT.c,gT.sg):=gY (by kernel_rfl) fun ti nI w R xs hc ha hR hG=>by
 unfold gT.c at hc
 split at hc
 ·rename_i p q m
  obtain ⟨hp,rfl⟩:=hc
  obtain rfl:=jd ha rfl
  unfold Gz.I7 at hp
  classical
  obtain ⟨X,Y,M,h1,h2,h3,h4,h5⟩:=ar hp
  refine (RM (p,q) m X Y M w h1 h2 h3 h4 h5 hR hG).mono ?_
  rintro e w' ⟨rfl,hb⟩
  exact ⟨_,rfl,hb,fun R w'=>mZ (.sc rfl)⟩
 ·exact hc.elim
end Go.Eng
set_option maxRecDepth 20000
namespace Go.Eng
open Go.IntWalk
theorem Gx (x:UInt8):((kX x ((4:UInt64)).toNat).toNat:Int).toNat=x.toNat / 16:=by
 have:=x.toNat_lt
 simp [kX,UInt8.toNat_ofNat'];omega
theorem DU (x:UInt8):(((x &&& (15:UInt8))).toNat:Int).toNat=x.toNat % 16:=by
 have:x.toNat &&& 15=x.toNat % 16:=Nat.and_two_pow_sub_one_eq_mod x.toNat 4
 simp [UInt8.toNat_and,this]
 omega
theorem DT (n:Nat) (h:n<16):bB (n:Int) (([48,49,50,51,52,53,54,55,56,57,97,98,99,100,101,102]:bz)).length=true:=by simp [bB];omega
theorem cd.cW (b:bz) (hb:b.length≤1099511627776):∀(m i:Nat) (acc:bz),i+m=b.length→acc.length=2 * i→cd.l1 b (b.length:Int) i acc=some [.s (acc++lE.text (b.drop i))]:=by
 intro m
 induction m with
 | zero =>
  intro i acc hi hl
  refine cd.bV _ _ _ _ ?_
  intro v1 h1 v2 h2 v3 h3 v4 h4 v5 h5 v6 h6
  rw [ab (by omega),ae,aE (by omega)]
  simp [lE.text]
 | succ m ih =>
  intro i acc hi hl
  refine cd.bV _ _ _ _ ?_
  intro v1 h1 v2 h2 v3 h3 v4 h4 v5 h5 v6 h6
  rw [aj] at h1
  have hx:=v1.toNat_lt
  have e1:((v2.toNat:Nat):Int)=((v1.toNat / 16:Nat):Int):=by rw [h2];have:=Gx v1;omega
  have e2:(((v1 &&& (15:UInt8))).toNat:Int)=((v1.toNat % 16:Nat):Int):=by have:=DU v1;omega
  rw [e1,aj] at h3
  rw [e2,aj] at h4
  have e5:v5=acc++lE.two v1:=by rw [h5,h3,h4];rfl
  rw [aa (by omega),ai,bw (bK (by omega) (by omega)),e1,e2,bw (DT _ (by omega)),bw (DT _ (by omega)),bw (dW (by simp;omega) (by simp;omega)),e5,show v6=((i+1:Nat):Int) by rw [h6,i64_in _ (by omega)];omega,ih _ _ (by omega) (by simp [lE.two,hl];omega),drop_cons (l:=b) (i:=i) (by omega) 0,←h1,lE.text,aG]
theorem cd.goal (b:bz) (hp:decide (b.length≤1099511627776)=true):cd.F b=some [.s (lE.text b)]:=by
 have hp:=ar hp
 refine cd.bZ _ ?_
 intro v1 h1 v2 h2
 have e:oq (0:Int) v1 1=true:=by rw [h1,i64_in _ (by omega),jY];unfold maxLen;omega
 rw [e,bQ,h2]
 exact cd.cW b hp b.length 0 [] (by omega) rfl
end Go.Eng
set_option maxRecDepth 20000
namespace Go.Eng
open Go.IntWalk
theorem cH.goal (s:bz) (c:UInt8):cH.F s c=some [.i .i64 (Lib.indexByte s c)]:=cH.eJ s c
theorem fi.goal (s t:bz) (hp:decide (t.length=1)=true):fi.F s t=some [.i .i64 (Lib.indexByte s (t.getD 0 0))]:=by
 have hl:t.length=1:=ar hp
 refine fi.bZ s t ?_
 intro v1 h1 v2 h2
 have e0:decide ((t.length:Int)=0)=false:=ab (by omega)
 have e1:decide ((t.length:Int)=1)=true:=aa (by omega)
 rw [e0] at h1 ⊢
 simp only [aM,aH,Bool.false_or,aY,bQ,ae] at h1 ⊢
 by_cases hs:t=s
 ·subst hs
  rw [h1,aa rfl,ai]
  obtain ⟨c,rfl⟩:∃c,t=[c]:=by
   match t,hl with
   | [c],_=>exact ⟨c,rfl⟩
  simp [Lib.indexByte]
 ·rw [h1,ab hs,ae,e1,ai,bw (bK (by omega) (by omega)),h2];rfl
theorem fh.goal (s t:bz) (hp:decide (t.length=1)=true):fh.F s t=some [.i .i64 (Lib.indexByte s (t.getD 0 0))]:=by
 refine fh.bZ s t ?_
 intro v1 h1
 rw [bw hp,h1]
theorem dv.goal (s t:bz) (hp:decide (t.length=1)=true):dv.F s t=some [.b (decide (0≤Lib.indexByte s (t.getD 0 0)))]:=by
 refine dv.bZ s t ?_
 intro v1 h1
 rw [bw hp,h1]
theorem dY.goal (k:Int):dY.F k=some [.s (Tree.name k)]:=by
 refine dY.bZ k ?_
 intro v1 h1 v2 h2
 unfold Tree.name
 by_cases a:k=127
 ·rw [aw a,aa a];rfl
 ·rw [au a,ab a,ae]
  by_cases b:k=255
  ·rw [aw b,aa b];rfl
  ·rw [au b,ab b,ae]
   simp only [aR,bm,bQ]
   by_cases c:k<0∨20≤k
   ·rw [aw c,show v1=true by rw [h1];by_cases d:k<0 <;> simp [d];omega];rfl
   ·rw [au c,show v1=false by rw [h1];by_cases d:k<0 <;> simp [d] <;> omega,ae,bw (bK (by omega) (by omega)),bw (by simp;omega),h2];rfl
end Go.Eng
set_option maxRecDepth 20000
namespace Go.Eng
open Go.IntWalk
theorem kQ (c:UInt8):∀s:bz,decide (0≤Lib.indexByte s c)=s.contains c
 | []=>by simp [Lib.indexByte]
 | b :: l=>by
  have ih:=kQ c l
  have D0:=Lib.indexByte_ge l c
  rw [List.contains_cons,←ih]
  rw [Lib.indexByte]
  by_cases h:b=c
  ·subst h;simp
  ·rw [au (by simpa using h),show (c == b)=false by rw [beq_eq_false_iff_ne];exact fun e=>h e.symm,Bool.false_or]
   by_cases h1:Lib.indexByte l c=-1
   ·rw [h1];rfl
   ·rw [au (by simpa using h1),aa (by omega),aa (by omega)]
theorem dG.goal (s:bz) (plain:Bool) (hp:decide (s.length≤1099511627776)=true):dG.F s plain=some [.b (Tree.gH s plain)]:=by
 have e:decide (0≤Lib.indexByte s (([0]:bz).getD 0 0))=fy.zero s:=kQ 0 s
 refine dG.bZ s plain ?_
 intro v1 h1 v2 h2
 rw [bw (AY (ar hp)),bw hp]
 rw [e] at h1
 subst h1 h2
 unfold Tree.gH
 cases fy.whole s <;> cases plain <;> cases fy.zero s <;> rfl
theorem bx.goal (v:Val):bx.F v=some [.b (Tree.j7 v)]:=by
 have J2:∀(x:Bool) (v:Val),bx.j2 x v=some [.b (x&&decide (v.bits=0)&&decide (v.high=0)&&decide (v.low=0)&&decide (v.text=[])&&decide (v.more=[])&&decide (v.sub=0)&&decide (v.bytes=[])&&decide (v.kids=[]))]:=by
  intro x v
  refine bx.jg x v ?_
  intro v1 h1 v2 h2 v3 h3 v4 h4 v5 h5 v6 h6 v7 h7 v8 h8 v9 h9 v10 iA
  simp only [aR,bQ]
  have e1:decide (v7=0)=decide (v.bytes=[]):=by rw [h7,aQ];simp
  have e2:decide (v9=0)=decide (v.kids=[]):=by rw [h9,aQ];simp
  rw [e1] at h8
  rw [e2] at iA
  subst h1 h2 h3 h4 h5 h6 h8 iA
  simp only [Bool.cond_false_right]
 have J3:∀(x0:Bool) (x1:Int) (x2:Bool) (x3:Val),bx.j3 x0 x1 x2 x3=cond x2
  (bx.j2 x0 (Val.mk (Val.kind x3) (Val.bits x3) (Val.high x3) (Val.low x3) ([]:bz) (Val.more x3) (Val.sub x3) (Val.bytes x3) (Val.kids x3)))
  (cond (decide (x1=(11:Int)))
  (bx.j2 x0 (Val.mk (Val.kind x3) (Val.bits x3) (Val.high x3) (Val.low x3) ([]:bz) ([]:bz) (Val.sub x3) (Val.bytes x3) (Val.kids x3)))
  (cond (decide (x1=(5:Int)))
  (bx.j2 (decide (0≤x3.sub)&&decide (x3.sub≤255)) (Val.mk (Val.kind x3) (Val.bits x3) (Val.high x3) (Val.low x3) (Val.text x3) (Val.more x3) (0:Int) ([]:List UInt8) (Val.kids x3)))
  (cond (decide (x1=(7:Int)))
  (bx.j2 (decide (x3.bytes.length=12)) (Val.mk (Val.kind x3) (Val.bits x3) (Val.high x3) (Val.low x3) (Val.text x3) (Val.more x3) (Val.sub x3) ([]:List UInt8) (Val.kids x3)))
  (cond (decide (x1=(12:Int)))
  (bx.j2 (decide (x3.bytes.length=12)) (Val.mk (Val.kind x3) (Val.bits x3) (Val.high x3) (Val.low x3) ([]:bz) (Val.more x3) (Val.sub x3) ([]:List UInt8) (Val.kids x3)))
  (cond (decide (x1=(3:Int)))
  (bx.j4 x0 x1 (decide (x1=(3:Int))) x3)
  (bx.j4 x0 x1 (decide (x1=(4:Int))) x3)))))):=by
  intro x0 x1 x2 x3
  refine bx.oY x0 x1 x2 x3 ?_
  intro v1 h1 v2 h2
  have e:decide (v2=12)=decide (x3.bytes.length=12):=by rw [h2,aQ];simp;omega
  simp only [aR,bQ,e,h1,Bool.cond_false_right]
 obtain ⟨k,b,hi,lo,t,m,s,y,ks⟩:=v
 simp only [bx.eJ,bx.lp,J3,bx.uy,J2,Tree.j7,Tree.xH]
 by_cases a1:k=1
 ·subst a1;simp;grind
 by_cases a2:k=2
 ·subst a2;simp;grind
 by_cases a3:k=3
 ·subst a3;simp;grind
 by_cases a4:k=4
 ·subst a4;simp;grind
 by_cases a5:k=5
 ·subst a5;simp;grind
 by_cases a7:k=7
 ·subst a7;simp;grind
 by_cases a8:k=8
 ·subst a8;simp;grind
 by_cases a9:k=9
 ·subst a9;simp;grind
 by_cases Rg:k=11
 ·subst Rg;simp;grind
 by_cases a12:k=12
 ·subst a12;simp;grind
 by_cases Rf:k=13
 ·subst Rf;simp;grind
 by_cases Re:k=14
 ·subst Re;simp;grind
 by_cases Rd:k=15
 ·subst Rd;simp;grind
 by_cases Rc:k=16
 ·subst Rc;simp;grind
 by_cases Rb:k=17
 ·subst Rb;simp;grind
 by_cases Ra:k=18
 ·subst Ra;simp;grind
 by_cases Q9:k=19
 ·subst Q9;simp;grind
 simp [a1,a2,a3,a4,a5,a7,a8,a9,Rg,a12,Rf,Re,Rd,Rc,Rb,Ra,Q9];grind
end Go.Eng
set_option maxRecDepth 20000
namespace Go.Eng
open Go.IntWalk
theorem Kt.lens (v:Val) (n:bz) (m:Nat) (h:bJ.bO (bJ.of n v)≤m):v.text.length≤m∧v.more.length≤m∧n.length≤m∧v.bytes.length≤m∧bJ.cM v.kids+1≤m:=by
 simp only [bJ.of,bJ.bO] at h;omega
theorem bJ.ET (f:bJ):1≤f.bO:=by cases f;simp only [bJ.bO];omega
theorem bJ.qE:∀(l:List bJ) (i:Nat) (d:bJ),i<l.length→(l.getD i d).bO≤bJ.cM l
 | f :: l,0,d,_=>by simp [bJ.cM]
 | f :: l,i+1,d,h=>by
  have:=bJ.qE l i d (by simpa using h)
  simp only [List.getD_cons_succ,bJ.cM];omega
theorem bJ.uQ:∀(l:List bJ),l.length≤bJ.cM l
 | []=>by simp
 | f :: l=>by have:=bJ.uQ l;have:=bJ.ET f;simp only [ay,bJ.cM];omega
theorem bJ.IP (f:bJ):bJ.of f.name f.val=f:=by cases f;rfl
theorem bJ.ES (f:bJ):bJ.bO (bJ.of [] f.val)≤f.bO:=by cases f;simp only [bJ.of,bJ.val,bJ.bO,bJ.kind,bJ.bits,bJ.high,bJ.low,bJ.text,bJ.more,bJ.sub,bJ.bytes,bJ.kids];simp
theorem CF (v:Val) (n:bz):Tree.tH v n=(if Tree.name v.kind=[] then 5 else if Tree.j7 v=false then 1 else if Tree.gH v.text (decide (v.kind=11))=false∨Tree.gH v.more (decide (v.kind=11))=false∨Tree.gH n true=false then 4 else 0):=by
 unfold Tree.tH Tree.own
 grind
theorem Tree.G5 (n:bz) (v:Val) (p:List Int):Tree.iT (bJ.of n v) p=if Tree.tH v n≠0 then (p,Tree.tH v n) else Tree.sZ v.kids 0 p:=by
 cases v;simp only [bJ.of,Tree.iT]
theorem bR.cW (n:Nat) (ks:List bJ) (p:List Int) (hb:bJ.cM ks+p.length<1099511627776) (hn:bJ.cM ks<n):∀(m i:Nat),i+m=ks.length →
  bR.l1 n ks (ks.length:Int) i p=some [.sl .is (Tree.sZ (ks.drop i) i p).1,.i .i64 (Tree.sZ (ks.drop i) i p).2,.sl .is p]:=by
 have hlen:=bJ.uQ ks
 intro m
 induction m with
 | zero =>
  intro i hi
  refine bR.bV _ _ _ _ _ ?_
  intro v1 h1 v2 h2 v3 h3 v4 h4
  rw [ab (by omega),ae,aE (by omega)];rfl
 | succ m ih =>
  intro i hi
  refine bR.bV _ _ _ _ _ ?_
  intro v1 h1 v2 h2 v3 h3 v4 h4
  rw [aj] at h1
  have hg:=bJ.qE ks i (fe.gk .fl) (by omega)
  rw [←h1] at hg
  rw [bJ.IP] at h2 h3 ⊢
  rw [aa (by omega),ai,bw (bK (by omega) (by omega)),bw (dW (by simp;omega) (by simp;omega)),aa (by simp;omega),aa (by omega),aY,bQ,drop_cons (l:=ks) (i:=i) (by omega) (fe.gk .fl),←h1,Tree.sZ]
  by_cases h:v3=0
  ·rw [aa h,au (by rw [h3] at h;simpa using h)]
   simp only [aH,ae]
   rw [show v4=((i+1:Nat):Int) by rw [h4,i64_in _ (by omega)];omega,ih _ (by omega)]
  ·rw [ab h,aw (by rw [h3] at h;simpa using h)]
   simp only [aM,ai]
   rw [h2,h3]
theorem bR.goal (n:Nat) (v:Val) (name:bz) (path:List Int) (hp:((decide (bJ.bO (bJ.of name v)+path.length≤1099511627776))&&decide ((bJ.bO (bJ.of name v))<n+1))=true) :
  bR.F n v name path=some [.sl .is (Tree.iT (bJ.of name v) path).1,.i .i64 (Tree.iT (bJ.of name v) path).2,.sl .is path]:=by
 simp only [ah,aA] at hp
 obtain ⟨hp,hn⟩:=hp
 obtain ⟨b1,b2,b3,_,_⟩:=Kt.lens v name 1099511627776 (by omega)
 have O2:bJ.cM v.kids<bJ.bO (bJ.of name v):=by simp only [bJ.of,bJ.bO];omega
 refine bR.bZ n v name path ?_
 intro v1 h1 v2 h2 v3 h3 v4 h4
 rw [Tree.G5,CF]
 simp only [aR,bm,aY,bQ,aa b1,aa b2,aa b3,Bool.and_true]
 have S7:fC path.length 8=true:=dW (by omega) (by omega)
 simp only [S7,bQ]
 by_cases a:Tree.name v.kind=[]
 ·rw [aa a];simp [a]
 ·rw [ab a,ae]
  by_cases b:Tree.j7 v=false
  ·rw [b];simp [a]
  ·have b':Tree.j7 v=true:=by simpa using b
   rw [b']
   have e3:v3=decide (Tree.gH v.text (decide (v.kind=11))=false∨Tree.gH v.more (decide (v.kind=11))=false∨Tree.gH name true=false):=by
    subst h1 h2 h3
    cases Tree.gH v.text (decide (v.kind=11)) <;> cases Tree.gH v.more (decide (v.kind=11)) <;> cases Tree.gH name true <;> rfl
   rw [e3,h4]
   by_cases c:Tree.gH v.text (decide (v.kind=11))=false∨Tree.gH v.more (decide (v.kind=11))=false∨Tree.gH name true=false
   ·rw [aa c];simp [a,c]
   ·rw [ab c]
    simp only [aH,ae,au a,au c]
    have:=bR.cW n v.kids path (by omega) (by omega) v.kids.length 0 (by omega)
    rw [bh] at this
    simpa using this
theorem dH.goal (v:Val) (hp:decide (bJ.bO (bJ.of [] v)≤1099511627776)=true):dH.F v=some [.sl .is (Tree.iT (bJ.of [] v) []).1,.i .i64 (Tree.iT (bJ.of [] v) []).2]:=by
 refine dH.bZ v ?_
 intro v1 h1 v2 h2
 rw [bw (by simpa using hp),h1,h2]
end Go.Eng
set_option maxRecDepth 20000
namespace Go.Eng
open Go.IntWalk
theorem Tree.VV (a b:Val):Tree.same a b=true ↔ a=b:=by unfold Tree.same;simp
theorem Tree.Wc (a b:Val) (c:Bool) (h:c=true ↔ a=b):Tree.same a b=c:=by
 rw [aQ,Tree.VV,h]
theorem bJ.ext_iff (a b:bJ):a=b ↔ a.name=b.name∧a.val=b.val:=by
 cases a;cases b;simp [bJ.name,bJ.val,bJ.kind,bJ.bits,bJ.high,bJ.low,bJ.text,bJ.more,bJ.sub,bJ.bytes,bJ.kids]
theorem drop_eq {α:Type} {a b:List α} {i:Nat} (ha:i<a.length) (hb:i<b.length) (d:α):a.drop i=b.drop i ↔ a.getD i d=b.getD i d∧a.drop (i+1)=b.drop (i+1):=by
 rw [drop_cons ha d,drop_cons hb d,bt]
theorem Val.WJ (a b:Val):a=b ↔ Tree.zn a b=true∧a.kids=b.kids:=by
 cases a;cases b;simp [Tree.zn,and_assoc]
theorem kE.goal (a b:Val):kE.F a b=some [.b (Tree.zn a b)]:=by
 refine kE.bZ a b ?_
 intro v1 h1 v2 h2 v3 h3 v4 h4 v5 h5 v6 h6 v7 h7
 subst h1 h2 h3 h4 h5 h6 h7
 simp only [aY,aR,bQ,Bool.cond_false_right]
 rfl
theorem eF.cW (n:Nat) (a b:Val) (hl:a.kids.length=b.kids.length) (hb:bJ.cM a.kids<1099511627776) (hn:bJ.cM a.kids<n):∀(m i:Nat),i+m=a.kids.length →
  ∃c:Bool,eF.l1 n i a b=some [.b c]∧(c=true ↔ a.kids.drop i=b.kids.drop i):=by
 have hlen:=bJ.uQ a.kids
 intro m
 induction m with
 | zero =>
  intro i hi
  refine ⟨true,?_,by rw [aE (by omega),aE (by omega)];simp⟩
  refine eF.bV _ _ _ _ ?_
  intro v1 h1 v2 h2 v3 h3 v4 h4 v5 h5 v6 h6 v7 h7
  rw [ab (by omega),ae]
 | succ m ih =>
  intro i hi
  obtain ⟨c,HR,Fx⟩:=ih (i+1) (by omega)
  by_cases h:(a.kids.getD i (fe.gk .fl))=(b.kids.getD i (fe.gk .fl))
  ·refine ⟨c,?_,Fx.trans ⟨fun x=>(drop_eq (i:=i) (by omega) (by omega) (fe.gk .fl)).2 ⟨h,x⟩,fun x=>((drop_eq (i:=i) (by omega) (by omega) (fe.gk .fl)).1 x).2⟩⟩
   refine eF.bV _ _ _ _ ?_
   intro v1 h1 v2 h2 v3 h3 v4 h4 v5 h5 v6 h6 v7 h7
   rw [aj] at h2 h3
   have hg:=bJ.qE a.kids i (fe.gk .fl) (by omega)
   rw [←h2] at hg h
   rw [←h3] at h
   have hv:=bJ.ES v2
   rw [aa (by omega),ai,show v7=((i+1:Nat):Int) by rw [h7,i64_in _ (by omega)];omega,HR,show bB (i:Int) a.kids.length=true from bK (by omega) (by omega),show bB (i:Int) b.kids.length=true from bK (by omega) (by omega),aa (show bJ.bO (bJ.of [] v2.val)<n by omega),aa (show bJ.bO (bJ.of [] v2.val)≤1099511627776 by omega)]
   have e5:v5=true:=by rw [h5,Tree.VV,h]
   rw [e5,h,aa rfl] at h6
   rw [h,aa rfl] at h4 ⊢
   subst h4 h6
   rfl
  ·refine ⟨false,?_,⟨fun x=>(by cases x),fun x=>(h ((drop_eq (i:=i) (by omega) (by omega) (fe.gk .fl)).1 x).1).elim⟩⟩
   refine eF.bV _ _ _ _ ?_
   intro v1 h1 v2 h2 v3 h3 v4 h4 v5 h5 v6 h6 v7 h7
   rw [aj] at h2 h3
   have hg:=bJ.qE a.kids i (fe.gk .fl) (by omega)
   rw [←h2] at hg h
   rw [←h3] at h
   have hv:=bJ.ES v2
   rw [aa (by omega),ai,show bB (i:Int) a.kids.length=true from bK (by omega) (by omega),show bB (i:Int) b.kids.length=true from bK (by omega) (by omega),aa (show bJ.bO (bJ.of [] v2.val)<n by omega),aa (show bJ.bO (bJ.of [] v2.val)≤1099511627776 by omega)]
   by_cases hN:v2.name=v3.name
   ·have e5:v5=false:=by
     have:v5≠true:=by rw [h5,Ne,Tree.VV];exact fun e=>h ((bJ.ext_iff _ _).2 ⟨hN,e⟩)
     simpa using this
    rw [e5,aa hN] at h6
    rw [aa hN] at h4 ⊢
    subst h4 h6
    rfl
   ·rw [ab hN] at h4 h6 ⊢
    subst h4 h6
    rfl
theorem eF.goal (n:Nat) (a b:Val) (hp:((decide (bJ.bO (bJ.of [] a)≤1099511627776))&&decide ((bJ.bO (bJ.of [] a))<n+1))=true):eF.F n a b=some [.b (Tree.same a b)]:=by
 simp only [ah,aA] at hp
 obtain ⟨YX,hn⟩:=hp
 have O2:bJ.cM a.kids<bJ.bO (bJ.of [] a):=by simp only [bJ.of,bJ.bO];omega
 refine eF.bZ n a b ?_
 intro v1 h1 v2 h2 v3 h3
 simp only [aY,aR,bm,bQ]
 by_cases hl:a.kids.length=b.kids.length
 ·obtain ⟨c,HR,Fx⟩:=eF.cW n a b hl (by omega) (by omega) a.kids.length 0 (by omega)
  rw [aa (by omega)] at h3
  rw [bh,bh] at Fx
  rw [h3]
  cases ho:Tree.zn a b
  ·rw [Tree.Wc a b false (by rw [Val.WJ,ho];simp)];rfl
  ·rw [Tree.Wc a b c (by rw [Val.WJ,ho,Fx];simp)];exact HR
 ·rw [ab (by omega)] at h3
  have:v3=true:=by rw [h3];cases Tree.zn a b <;> rfl
  rw [this,Tree.Wc a b false (by constructor;(· intro h;cases h);(· intro h;rw [h] at hl;exact (hl rfl).elim))];rfl
end Go.Eng
set_option maxRecDepth 20000
namespace Go.Eng
open Go.IntWalk
theorem bN.cW (l:List bJ) (hb:l.length≤1099511627776):∀(m i:Nat),i+m=l.length→bN.l1 l (l.length:Int) i=some [.b (Tree.lh i (l.drop i))]:=by
 intro m
 induction m with
 | zero =>
  intro i hi
  refine bN.bV _ _ _ ?_
  intro v1 h1 v2 h2
  rw [ab (by omega),ae,aE (by omega)];rfl
 | succ m ih =>
  intro i hi
  refine bN.bV _ _ _ ?_
  intro v1 h1 v2 h2
  rw [aj] at h1
  rw [aa (by omega),ai,bw (bK (by omega) (by omega)),bw (show Nr.i64 (i:Int)=true from aa (by omega)),←vq,show v2=((i+1:Nat):Int) by rw [h2,i64_in _ (by omega)];omega,ih _ (by omega),drop_cons (l:=l) (i:=i) (by omega) (fe.gk .fl),←h1,Tree.lh,DP]
  by_cases a:v1.name=ie i
  ·rw [aa a];rfl
  ·rw [ab a];rfl
theorem bN.goal (l:List bJ) (hp:decide (l.length≤1099511627776)=true):bN.F l=some [.b (Tree.regular l)]:=by
 rw [bN.eJ]
 exact bN.cW l (ar hp) l.length 0 (by omega)
theorem Tree.qy (f:bJ):Tree.count (bJ.of [] f.val)=Tree.count f:=by cases f;rfl
end Go.Eng
set_option maxRecDepth 20000
namespace Go.Eng
open Go.IntWalk
theorem cL.cW (iF:List Int) (hl:iF.length≤10) (hs:∀s∈iF,0≤s):∀(m i:Nat) (left:Int),i+m=iF.length→left≤1200→cL.l1 left iF i=some [.i .i64 (eU.room left (iF.drop i))]:=by
 intro m
 induction m with
 | zero =>
  intro i left hi hle
  refine cL.bV _ _ _ ?_
  intro v1 h1 v2 h2 v3 h3
  rw [ab (by omega),ae,aE (by omega)];rfl
 | succ m ih =>
  intro i left hi hle
  refine cL.bV _ _ _ ?_
  intro v1 h1 v2 h2 v3 h3
  rw [aj] at h1
  have h0:0≤v1:=hs v1 (by rw [h1,af,aq (show i<iF.length by omega)];simp)
  rw [aa (by omega),ai,show bB (i:Int) iF.length=true from bK (by omega) (by omega),drop_cons (l:=iF) (i:=i) (by omega) 0,←h1,eU.room]
  simp only [aY,Bool.and_true,aR,bm,bQ]
  by_cases a:left<0∨left<v1
  ·rw [aw a,show v2=true by rw [h2];by_cases b:left<0 <;> simp [b];omega];rfl
  ·rw [au a,show v2=false by rw [h2];by_cases b:left<0 <;> simp [b] <;> omega,ae,show v3=((i+1:Nat):Int) by rw [h3,i64_in _ (by omega)];omega,i64_in _ (by omega),ih _ _ (by omega) (by omega)]
theorem cL.goal (left:Int) (iF:List Int) (hp:(decide (left≤1200∧iF.length≤10)&&iF.all (fun s=>decide (0≤s)))=true):cL.F left iF=some [.i .i64 (eU.room left iF)]:=by
 simp only [ah,aA,aC] at hp
 rw [cL.eJ]
 exact cL.cW iF hp.1.2 hp.2 iF.length 0 left (by omega) hp.1.1
theorem eU.Hq (left a:Int) (ha:0≤a) (hl:left≤1200):eU.room left [a]≤1200∧(eU.room left [a]=-1∨(eU.room left [a]=left - a∧0≤left - a)):=by
 simp only [eU.room];split <;> omega
theorem eU.Hp (left a b c d:Int) (ha:0≤a) (hb:0≤b) (hc:0≤c) (hd:0≤d) (hl:left≤1200) :
  eU.room left [a,b,c,d]≤1200∧(eU.room left [a,b,c,d]=-1∨(eU.room left [a,b,c,d]=left - a - b - c - d∧0≤left - a - b - c - d)):=by
 simp only [eU.room]
 split
 ·omega
 ·split
  ·omega
  ·split
   ·omega
   ·split <;> omega
mutual
theorem eU.rM:∀(f:bJ) (left:Int),left≤1200→eU.value left f≤1200∧(0≤eU.value left f→(bJ.bO f:Int) - f.name.length≤left - eU.value left f)
 | .mk n k b h l t m s y ks,left,hl=>by
  have h1:=eU.Hp left 2 t.length m.length y.length (by omega) (by omega) (by omega) (by omega) hl
  have h2:=eU.tS ks (eU.room left [2,(t.length:Int),(m.length:Int),(y.length:Int)]) h1.1
  simp only [eU.value,bJ.bO,bJ.name]
  refine ⟨h2.1,fun h0=>?_⟩
  rcases h1.2 with e | ⟨e,e0⟩
  ·have:=h2.2.2 (by omega);omega
  ·have:=h2.2.1 h0;omega
theorem eU.tS:∀(ks:List bJ) (left:Int),left≤1200→eU.values left ks≤1200∧(0≤eU.values left ks→(bJ.cM ks:Int)≤left - eU.values left ks)∧(left<0→eU.values left ks<0)
 | [],left,hl=>by simp only [eU.values,bJ.cM];omega
 | f :: r,left,hl=>by
  simp only [eU.values,bJ.cM]
  by_cases h:left<0
  ·rw [aw h];omega
  ·rw [au h]
   have h1:=eU.Hq left f.name.length (by omega) hl
   have h2:=eU.rM f (eU.room left [(f.name.length:Int)]) h1.1
   have h3:=eU.tS r (eU.value (eU.room left [(f.name.length:Int)]) f) h2.1
   refine ⟨h3.1,fun h0=>?_,fun h0=>by omega⟩
   have h4:=h3.2.1 h0
   have h5:0≤eU.value (eU.room left [(f.name.length:Int)]) f:=by
    by_cases h6:eU.value (eU.room left [(f.name.length:Int)]) f<0
    ·have:=h3.2.2 h6;omega
    ·omega
   have h7:=h2.2 h5
   have hb:(f.name.length:Int)≤bJ.bO f:=by cases f;simp only [bJ.name,bJ.bO];omega
   rcases h1.2 with e | ⟨e,e0⟩
   ·omega
   ·omega
end
theorem eU.yT (v:Val) (h:0≤eU.value 1200 (bJ.of [] v)):bJ.bO (bJ.of [] v)≤1200:=by
 have:=(eU.rM (bJ.of [] v) 1200 (by omega)).2 h
 have hn:(bJ.of [] v).name=[]:=rfl
 rw [hn] at this
 simp at this;omega
theorem eU.A5 (left:Int) (f:bJ):eU.value left (bJ.of [] f.val)=eU.value left f:=by cases f;rfl
theorem eU.Cv (f:bJ) (left:Int) (hl:left≤1200) (h0:0≤eU.value left f):eU.value left f+1≤left:=by
 have:=(eU.rM f left hl).2 h0
 have hb:(f.name.length:Int)+1≤bJ.bO f:=by cases f;simp only [bJ.name,bJ.bO];omega
 omega
theorem bS.cW (n:Nat) (v:Val) (hn:bJ.cM v.kids<n):∀(m i:Nat) (left:Int),i+m=v.kids.length→(i:Int)+left≤1200 →
  bS.l1 n left i v=some [.i .i64 (eU.values left (v.kids.drop i))]:=by
 intro m
 induction m with
 | zero =>
  intro i left hi hle
  refine bS.bV _ _ _ _ ?_
  intro v1 h1 v2 h2 v3 h3 v4 h4 v5 h5 v6 h6 v7 h7
  simp only [aR,bQ]
  rw [show v2=false by rw [h2,ab (by omega)];rfl,ae,aE (by omega)];rfl
 | succ m ih =>
  intro i left hi hle
  refine bS.bV _ _ _ _ ?_
  intro v1 h1 v2 h2 v3 h3 v4 h4 v5 h5 v6 h6 v7 h7
  rw [aj] at h3
  have hg:=bJ.qE v.kids i (fe.gk .fl) (by omega)
  rw [←h3] at hg
  have hv:=bJ.ES v3
  have r1:=eU.Hq left v4 (by omega) (by omega)
  rw [←h5] at r1
  have r2:=eU.Cv v3 v5 r1.1
  rw [eU.A5] at h6
  simp only [aR,bQ]
  rw [drop_cons (l:=v.kids) (i:=i) (by omega) (fe.gk .fl),←h3,eU.values]
  by_cases h:left<0
  ·rw [aw h,show v2=false by rw [h2,ab (show ¬0≤left by omega)];simp];rfl
  ·have r3:(i:Int)+1+v6≤1200:=by
    rw [h6]
    by_cases hx:0≤eU.value v5 v3
    ·have:=r2 hx;omega
    ·omega
   rw [au h,show v2=true by rw [h2,aa (by omega),aa (by omega)];rfl,ai,bw (bK (by omega) (by omega)),bw (by simp;omega),bw (bK (by omega) (by omega)),aa r1.1,aa (by omega),aY,bQ,
    show v7=((i+1:Nat):Int) by rw [h7,i64_in _ (by omega)];omega,ih _ _ (by omega) (by omega),h6,h5,h4]
theorem bS.goal (n:Nat) (left:Int) (v:Val) (hp:((decide (left≤1200))&&decide ((bJ.bO (bJ.of [] v))<n+1))=true):bS.F n left v=some [.i .i64 (eU.value left (bJ.of [] v))]:=by
 simp only [ah,aA] at hp
 obtain ⟨hl,hn⟩:=hp
 have O2:bJ.cM v.kids<bJ.bO (bJ.of [] v):=by simp only [bJ.of,bJ.bO];omega
 refine bS.bZ n left v ?_
 intro v1 h1 v2 h2 v3 h3 v4 h4
 have r:=eU.Hp left 2 v1 v2 v3 (by omega) (by omega) (by omega) (by omega) hl
 rw [←h4] at r
 rw [bw (by rw [h4];simp;omega)]
 have key:=bS.cW n v (by omega) v.kids.length 0 (eU.room left v4) (by omega) (by omega)
 rw [bh] at key
 refine key.trans ?_
 rw [h4,h1,h2,h3]
 rfl
theorem dI.goal (v:Val):dI.F v=some [.b (decide (0≤eU.value 1200 (bJ.of [] v)))]:=by
 refine dI.bZ v ?_
 intro v1 h1
 rw [bw (by decide),h1]
end Go.Eng
set_option maxRecDepth 20000
namespace Go.Eng
open Go.Proofs
theorem cd.ok:bA Go.Proofs.Tryz.prog cnGl 91 (cd.c,cd.sg):=meets bG all_nil cd.h (fits fun ins=>by unfold cd.c;split;exact cd.goal _;trivial)
theorem gX.ok:bA Go.Proofs.Tryz.prog cnGl 158 (gX.c,gX.sg):=meets bG all_nil gX.h (fits fun ins=>by unfold gX.c;split;exact gX.goal _;trivial)
theorem bH.ok:bA Go.Proofs.Tryz.prog cnGl 137 (bH.c,bH.sg):=meets bG (all_cons gX.ok all_nil) bH.h (fits fun ins=>by unfold bH.c;split;exact bH.goal _ _;trivial)
theorem cj.ok:bA Go.Proofs.Tryz.prog cnGl 110 (cj.c,cj.sg):=meets bG (all_cons bH.ok all_nil) cj.h (fits fun ins=>by unfold cj.c;split;exact cj.goal _;trivial)
theorem dJ.ok:bA Go.Proofs.Tryz.prog cnGl 81 (dJ.c,dJ.sg):=meets bG (all_cons cj.ok all_nil) dJ.h (fits fun ins=>by unfold dJ.c;split;exact dJ.goal _;trivial)
theorem cH.ok:bA Go.Proofs.Tryz.prog cnGl 156 (cH.c,cH.sg):=meets bG all_nil cH.h (fits fun ins=>by unfold cH.c;split;exact cH.goal _ _;trivial)
theorem fi.ok:bA Go.Proofs.Tryz.prog cnGl 138 (fi.c,fi.sg):=meets bG (all_cons cH.ok all_nil) fi.h (fits fun ins=>by unfold fi.c;split;exact fi.goal _ _;trivial)
theorem fh.ok:bA Go.Proofs.Tryz.prog cnGl 111 (fh.c,fh.sg):=meets bG (all_cons fi.ok all_nil) fh.h (fits fun ins=>by unfold fh.c;split;exact fh.goal _ _;trivial)
theorem dv.ok:bA Go.Proofs.Tryz.prog cnGl 82 (dv.c,dv.sg):=meets bG (all_cons fh.ok all_nil) dv.h (fits fun ins=>by unfold dv.c;split;exact dv.goal _ _;trivial)
theorem fx.ok:bA Go.Proofs.Tryz.prog cnGl 47 (fx.c,fx.sg):=meets bG all_nil fx.h (fits fun ins=>by unfold fx.c;split;exact fx.goal _;trivial)
theorem dY.ok:bA Go.Proofs.Tryz.prog cnGl 46 (dY.c,dY.sg):=meets bG all_nil dY.h (fits fun ins=>by unfold dY.c;split;exact dY.goal _;trivial)
theorem bx.ok:bA Go.Proofs.Tryz.prog cnGl 48 (bx.c,bx.sg):=meets bG all_nil bx.h (fits fun ins=>by unfold bx.c;split;exact bx.goal (.mk _ _ _ _ _ _ _ _ _);trivial)
theorem dG.ok:bA Go.Proofs.Tryz.prog cnGl 49 (dG.c,dG.sg):=meets bG (all_cons dJ.ok (all_cons dv.ok all_nil)) dG.h (fits fun ins=>by unfold dG.c;split;exact dG.goal _ _;trivial)
theorem Ix.Dg:∀n:Nat,(bA Go.Proofs.Tryz.prog cnGl 35 (bR.cn n,bR.sg)):=by
 intro n
 induction n with
 | zero=>exact jK (by intro ti nI h;unfold bR.cn at h;split at h;exact absurd (aW.1 h.1).2 (by simp);exact h.elim)
 | succ n ih =>
  have DR:=ih
  exact meets bG (all_cons DR (all_cons dY.ok (all_cons fx.ok (all_cons bx.ok (all_cons dG.ok all_nil))))) bR.h (fits fun ins=>by unfold bR.cn;split;exact bR.goal _ (.mk _ _ _ _ _ _ _ _ _) _ _;trivial)
theorem bR.ok:bA Go.Proofs.Tryz.prog cnGl 35 (bR.c,bR.sg):=lS fun ti nI h=>by
 unfold bR.c at h
 split at h
 ·obtain ⟨hp,rfl⟩:=h;exact ⟨bR.cn (_+1),(Ix.Dg _),aW.2 ⟨hp,aa (Nat.lt_succ_self _)⟩,rfl⟩
 ·exact h.elim
theorem dH.ok:bA Go.Proofs.Tryz.prog cnGl 20 (dH.c,dH.sg):=meets bG (all_cons bR.ok all_nil) dH.h (fits fun ins=>by unfold dH.c;split;exact dH.goal (.mk _ _ _ _ _ _ _ _ _);trivial)
theorem kE.ok:bA Go.Proofs.Tryz.prog cnGl 27 (kE.c,kE.sg):=meets bG all_nil kE.h (fits fun ins=>by unfold kE.c;split;exact kE.goal (.mk _ _ _ _ _ _ _ _ _) (.mk _ _ _ _ _ _ _ _ _);trivial)
theorem Yb.Dg:∀n:Nat,(bA Go.Proofs.Tryz.prog cnGl 15 (eF.cn n,eF.sg)):=by
 intro n
 induction n with
 | zero=>exact jK (by intro ti nI h;unfold eF.cn at h;split at h;exact absurd (aW.1 h.1).2 (by simp);exact h.elim)
 | succ n ih =>
  have DR:=ih
  exact meets bG (all_cons DR (all_cons kE.ok all_nil)) eF.h (fits fun ins=>by unfold eF.cn;split;exact eF.goal _ (.mk _ _ _ _ _ _ _ _ _) (.mk _ _ _ _ _ _ _ _ _);trivial)
theorem eF.ok:bA Go.Proofs.Tryz.prog cnGl 15 (eF.c,eF.sg):=lS fun ti nI h=>by
 unfold eF.c at h
 split at h
 ·obtain ⟨hp,rfl⟩:=h;exact ⟨eF.cn (_+1),(Yb.Dg _),aW.2 ⟨hp,aa (Nat.lt_succ_self _)⟩,rfl⟩
 ·exact h.elim
theorem cL.ok:bA Go.Proofs.Tryz.prog cnGl 34 (cL.c,cL.sg):=meets bG all_nil cL.h (fits fun ins=>by unfold cL.c;split;exact cL.goal _ _;trivial)
theorem Kd.Dg:∀n:Nat,(bA Go.Proofs.Tryz.prog cnGl 19 (bS.cn n,bS.sg)):=by
 intro n
 induction n with
 | zero=>exact jK (by intro ti nI h;unfold bS.cn at h;split at h;exact absurd (aW.1 h.1).2 (by simp);exact h.elim)
 | succ n ih =>
  have DR:=ih
  exact meets bG (all_cons DR (all_cons cL.ok all_nil)) bS.h (fits fun ins=>by unfold bS.cn;split;exact bS.goal _ _ (.mk _ _ _ _ _ _ _ _ _);trivial)
theorem bS.ok:bA Go.Proofs.Tryz.prog cnGl 19 (bS.c,bS.sg):=lS fun ti nI h=>by
 unfold bS.c at h
 split at h
 ·obtain ⟨hp,rfl⟩:=h;exact ⟨bS.cn (_+1),(Kd.Dg _),aW.2 ⟨hp,aa (Nat.lt_succ_self _)⟩,rfl⟩
 ·exact h.elim
theorem dI.ok:bA Go.Proofs.Tryz.prog cnGl 8 (dI.c,dI.sg):=meets bG (all_cons bS.ok all_nil) dI.h (fits fun ins=>by unfold dI.c;split;exact dI.goal (.mk _ _ _ _ _ _ _ _ _);trivial)
theorem bN.ok:bA Go.Proofs.Tryz.prog cnGl 52 (bN.c,bN.sg):=meets bG (all_cons iG.ok all_nil) bN.h (fits fun ins=>by unfold bN.c;split;exact bN.goal _;trivial)
theorem bX.ok:bA Go.Proofs.Tryz.prog cnGl 168 (bX.c,bX.sg):=meets bG all_nil bX.h (fits fun ins=>by unfold bX.c;split;exact bX.goal _;trivial)
theorem bits_Len64.ok:bA Go.Proofs.Tryz.prog cnGl 191 (bits_Len64.c,bits_Len64.sg):=meets bG all_nil bits_Len64.h (fits fun ins=>by unfold bits_Len64.c;split;exact bits_Len64.goal _;trivial)
theorem eI.ok:bA Go.Proofs.Tryz.prog cnGl 198 (eI.c,eI.sg):=meets bG all_nil eI.h (fits fun ins=>by unfold eI.c;split;exact eI.goal _;trivial)
theorem fu.ok:bA Go.Proofs.Tryz.prog cnGl 246 (fu.c,fu.sg):=meets bG (all_cons gT.ok all_nil) fu.h (fits fun ins=>by unfold fu.c;split;exact fu.goal (_,_);trivial)
theorem jh.ok:bA Go.Proofs.Tryz.prog cnGl 244 (jh.c,jh.sg):=meets bG all_nil jh.h (fits fun ins=>by unfold jh.c;split;exact jh.goal _ _;trivial)
theorem eG.ok:bA Go.Proofs.Tryz.prog cnGl 239 (eG.c,eG.sg):=meets bG (all_cons gT.ok all_nil) eG.h (fits fun ins=>by unfold eG.c;split;exact eG.goal (_,_);trivial)
theorem gj.ok:bA Go.Proofs.Tryz.prog cnGl 254 (gj.c,gj.sg):=meets bG (all_cons gT.ok all_nil) gj.h (fits fun ins=>by unfold gj.c;split;exact gj.goal (_,_) _;trivial)
theorem fv.ok:bA Go.Proofs.Tryz.prog cnGl 237 (fv.c,fv.sg):=meets bG (all_cons fu.ok all_nil) fv.h (fits fun ins=>by unfold fv.c;split;exact fv.goal (_,_) (_,_);trivial)
theorem gf.ok:bA Go.Proofs.Tryz.prog cnGl 252 (gf.c,gf.sg):=meets bG (all_cons dt.ok all_nil) gf.h (fits fun ins=>by unfold gf.c;split;exact gf.goal _;trivial)
theorem wv_fit.ok:bA Go.Proofs.Tryz.prog cnGl 247 (wv_fit.c,wv_fit.sg):=meets bG (all_cons gf.ok all_nil) wv_fit.h (fits fun ins=>by unfold wv_fit.c;split;exact wv_fit.goal (.mk (_,_) (_,_) (_,_) (_,_));trivial)
theorem cF.ok:bA Go.Proofs.Tryz.prog cnGl 248 (cF.c,cF.sg):=meets bG (all_cons gj.ok all_nil) cF.h (fits fun ins=>by unfold cF.c;split;exact cF.goal (.mk (_,_) (_,_) (_,_) (_,_)) _;trivial)
theorem gg.ok:bA Go.Proofs.Tryz.prog cnGl 245 (gg.c,gg.sg):=meets bG (all_cons wv_fit.ok (all_cons cF.ok all_nil)) gg.h (fits fun ins=>by unfold gg.c;split;exact gg.goal (.mk (_,_) (_,_) (_,_) (_,_));trivial)
theorem dN.ok:bA Go.Proofs.Tryz.prog cnGl 238 (dN.c,dN.sg):=meets bG (all_cons eG.ok (all_cons wv_fit.ok (all_cons cF.ok all_nil))) dN.h (fits fun ins=>by unfold dN.c;split;exact dN.goal (.mk (_,_) (_,_) (_,_) (_,_));trivial)
theorem cJ.ok:bA Go.Proofs.Tryz.prog cnGl 235 (cJ.c,cJ.sg):=meets bG all_nil cJ.h (fits fun ins=>by unfold cJ.c;split;exact cJ.goal _;trivial)
theorem cw.ok:bA Go.Proofs.Tryz.prog cnGl 236 (cw.c,cw.sg):=meets bG (all_cons jh.ok (all_cons gg.ok all_nil)) cw.h (fits fun ins=>by unfold cw.c;split;exact cw.goal _;trivial)
theorem bL.ok:bA Go.Proofs.Tryz.prog cnGl 219 (bL.c,bL.sg):=meets bG (all_cons cJ.ok (all_cons cw.ok (all_cons fv.ok (all_cons dN.ok (all_cons eG.ok all_nil))))) bL.h (fits fun ins=>by unfold bL.c;split;exact bL.goal _ _;trivial)
theorem da.ok:bA Go.Proofs.Tryz.prog cnGl 201 (da.c,da.sg):=meets bG all_nil da.h (fits fun ins=>by unfold da.c;split;exact da.goal _;trivial)
theorem eK.ok:bA Go.Proofs.Tryz.prog cnGl 166 (eK.c,eK.sg):=meets bG all_nil eK.h (fits fun ins=>by unfold eK.c;split;exact eK.goal _;trivial)
theorem eW.ok:bA Go.Proofs.Tryz.prog cnGl 140 (eW.c,eW.sg):=meets bG all_nil eW.h (fits fun ins=>by unfold eW.c;split;exact eW.goal _;trivial)
theorem dj.ok:bA Go.Proofs.Tryz.prog cnGl 251 (dj.c,dj.sg):=meets bG (all_cons eK.ok all_nil) dj.h (fits fun ins=>by unfold dj.c;split;exact dj.goal _;trivial)
theorem fH.ok:bA Go.Proofs.Tryz.prog cnGl 142 (fH.c,fH.sg):=meets bG (all_cons eK.ok (all_cons bX.ok all_nil)) fH.h (fits fun ins=>by unfold fH.c;split;exact fH.goal _;trivial)
theorem eC.ok:bA Go.Proofs.Tryz.prog cnGl 197 (eC.c,eC.sg):=meets bG all_nil eC.h (fits fun ins=>by unfold eC.c;split;exact eC.goal _ _;trivial)
theorem fW.ok:bA Go.Proofs.Tryz.prog cnGl 170 (fW.c,fW.sg):=meets bG (all_cons eK.ok (all_cons eC.ok all_nil)) fW.h (fits fun ins=>by unfold fW.c;split;exact fW.goal _ _;trivial)
theorem cq.ok:bA Go.Proofs.Tryz.prog cnGl 220 (cq.c,cq.sg):=meets bG all_nil cq.h (fits fun ins=>by unfold cq.c;split;exact cq.goal _;trivial)
theorem dp.ok:bA Go.Proofs.Tryz.prog cnGl 196 (dp.c,dp.sg):=meets bG (all_cons eK.ok (all_cons da.ok (all_cons bL.ok (all_cons cq.ok all_nil)))) dp.h (fits fun ins=>by unfold dp.c;split;exact dp.goal _ _;trivial)
theorem ez.ok:bA Go.Proofs.Tryz.prog cnGl 199 (ez.c,ez.sg):=meets bG (all_cons da.ok all_nil) ez.h (fits fun ins=>by unfold ez.c;split;exact ez.goal _ _;trivial)
theorem eO.ok:bA Go.Proofs.Tryz.prog cnGl 167 (eO.c,eO.sg):=meets bG all_nil eO.h (fits fun ins=>by unfold eO.c;split;exact eO.goal _ _;trivial)
theorem cV.ok:bA Go.Proofs.Tryz.prog cnGl 202 (cV.c,cV.sg):=meets bG (all_cons da.ok all_nil) cV.h (fits fun ins=>by unfold cV.c;split;exact cV.goal _ _;trivial)
theorem bE.ok:bA Go.Proofs.Tryz.prog cnGl 200 (bE.c,bE.sg):=meets bG all_nil bE.h (fits fun ins=>by unfold bE.c;split;exact bE.goal _ _;trivial)
theorem gK.ok:bA Go.Proofs.Tryz.prog cnGl 171 (gK.c,gK.sg):=meets bG (all_cons eW.ok (all_cons eK.ok (all_cons eO.ok (all_cons bX.ok (all_cons eC.ok (all_cons eI.ok (all_cons ez.ok (all_cons bE.ok (all_cons da.ok (all_cons cV.ok all_nil)))))))))) gK.h (fits fun ins=>by unfold gK.c;split;exact gK.goal _ _;trivial)
theorem ir.ok:bA Go.Proofs.Tryz.prog cnGl 141 (ir.c,ir.sg):=meets bG (all_cons eK.ok (all_cons eO.ok all_nil)) ir.h (fits fun ins=>by unfold ir.c;split;exact ir.goal _ _;trivial)
theorem cP.ok:bA Go.Proofs.Tryz.prog cnGl 218 (cP.c,cP.sg):=meets bG all_nil cP.h (fits fun ins=>by unfold cP.c;split;exact cP.goal _ _ _;trivial)
theorem cU.ok:bA Go.Proofs.Tryz.prog cnGl 195 (cU.c,cU.sg):=meets bG (all_cons eW.ok (all_cons eK.ok (all_cons cP.ok all_nil))) cU.h (fits fun ins=>by unfold cU.c;split;exact cU.goal _ _;trivial)
theorem dm.ok:bA Go.Proofs.Tryz.prog cnGl 227 (dm.c,dm.sg):=meets bG (all_cons eK.ok (all_cons cP.ok all_nil)) dm.h (fits fun ins=>by unfold dm.c;split;exact dm.goal _;trivial)
theorem dM.ok:bA Go.Proofs.Tryz.prog cnGl 242 (dM.c,dM.sg):=meets bG (all_cons bits_Len64.ok (all_cons lx.ok all_nil)) dM.h (fits fun ins=>by unfold dM.c;split;exact dM.goal _ _ _;trivial)
theorem cr.ok:bA Go.Proofs.Tryz.prog cnGl 241 (cr.c,cr.sg):=meets bG (all_cons ir.ok (all_cons fW.ok (all_cons gK.ok (all_cons dj.ok all_nil)))) cr.h (fits fun ins=>by unfold cr.c;split;exact cr.goal _ _ _;trivial)
theorem de.ok:bA Go.Proofs.Tryz.prog cnGl 228 (de.c,de.sg):=meets bG (all_cons fH.ok (all_cons cr.ok (all_cons dM.ok all_nil))) de.h (fits fun ins=>by unfold de.c;split;exact de.goal _ _;trivial)
theorem dL.ok:bA Go.Proofs.Tryz.prog cnGl 205 (dL.c,dL.sg):=meets bG (all_cons eW.ok (all_cons gq.ok (all_cons cU.ok (all_cons dp.ok (all_cons fK.ok (all_cons kZ.ok (all_cons dm.ok (all_cons de.ok all_nil)))))))) dL.h (fits fun ins=>by unfold dL.c;split;exact dL.goal _ _;trivial)
theorem ja.ok:bA Go.Proofs.Tryz.prog cnGl 104 (ja.c,ja.sg):=meets bG all_nil ja.h (fits fun ins=>by unfold ja.c;split;exact ja.goal _ _ _ _;trivial)
theorem cK.ok:bA Go.Proofs.Tryz.prog cnGl 105 (cK.c,cK.sg):=meets bG all_nil cK.h (fits fun ins=>by unfold cK.c;split;exact cK.goal _ _;trivial)
theorem bD.ok:bA Go.Proofs.Tryz.prog cnGl 73 (bD.c,bD.sg):=meets bG (all_cons ja.ok (all_cons cK.ok all_nil)) bD.h (fits fun ins=>by unfold bD.c;split;exact bD.goal _;trivial)
theorem eH.ok:bA Go.Proofs.Tryz.prog cnGl 114 (eH.c,eH.sg):=meets bG all_nil eH.h (fits fun ins=>by unfold eH.c;split;exact eH.goal _;trivial)
theorem cE.ok:bA Go.Proofs.Tryz.prog cnGl 173 (cE.c,cE.sg):=meets bG (all_cons eK.ok (all_cons eI.ok all_nil)) cE.h (fits fun ins=>by unfold cE.c;split;exact cE.goal _ _;trivial)
theorem cp.ok:bA Go.Proofs.Tryz.prog cnGl 221 (cp.c,cp.sg):=meets bG all_nil cp.h (fits fun ins=>by unfold cp.c;split;exact cp.goal _;trivial)
theorem cS.ok:bA Go.Proofs.Tryz.prog cnGl 203 (cS.c,cS.sg):=meets bG (all_cons iG.ok (all_cons fB.ok (all_cons eK.ok (all_cons ez.ok (all_cons cp.ok (all_cons k9.ok all_nil)))))) cS.h (fits fun ins=>by unfold cS.c;split;exact cS.goal _;trivial)
theorem eY.ok:bA Go.Proofs.Tryz.prog cnGl 85 (eY.c,eY.sg):=meets bG (all_cons gR.ok all_nil) eY.h (fits fun ins=>by unfold eY.c;split;exact eY.goal _;trivial)
theorem fD.ok:bA Go.Proofs.Tryz.prog cnGl 169 (fD.c,fD.sg):=meets bG (all_cons cU.ok (all_cons dp.ok all_nil)) fD.h (fits fun ins=>by unfold fD.c;split;exact fD.goal _ _ _;trivial)
theorem fk.ok:bA Go.Proofs.Tryz.prog cnGl 143 (fk.c,fk.sg):=meets bG (all_cons fD.ok (all_cons fW.ok all_nil)) fk.h (fits fun ins=>by unfold fk.c;split;exact fk.goal _ _ _;trivial)
theorem fj.ok:bA Go.Proofs.Tryz.prog cnGl 172 (fj.c,fj.sg):=meets bG (all_cons cS.ok (all_cons fK.ok (all_cons dL.ok all_nil))) fj.h (fits fun ins=>by unfold fj.c;split;exact fj.goal _ _ _;trivial)
theorem gi.ok:bA Go.Proofs.Tryz.prog cnGl 144 (gi.c,gi.sg):=meets bG (all_cons eW.ok (all_cons ir.ok (all_cons fD.ok (all_cons fW.ok (all_cons gK.ok (all_cons fj.ok (all_cons cE.ok all_nil))))))) gi.h (fits fun ins=>by unfold gi.c;split;exact gi.goal _ _ _ _ _;trivial)
theorem bI.ok:bA Go.Proofs.Tryz.prog cnGl 115 (bI.c,bI.sg):=meets bG (all_cons eH.ok (all_cons eW.ok (all_cons ir.ok (all_cons fH.ok (all_cons fk.ok (all_cons gi.ok all_nil)))))) bI.h (fits fun ins=>by unfold bI.c;split;exact bI.goal _;trivial)
theorem dK.ok:bA Go.Proofs.Tryz.prog cnGl 116 (dK.c,dK.sg):=meets bG (all_cons eY.ok (all_cons fB.ok all_nil)) dK.h (fits fun ins=>by unfold dK.c;split;exact dK.goal _ _;trivial)
theorem dC.ok:bA Go.Proofs.Tryz.prog cnGl 86 (dC.c,dC.sg):=meets bG (all_cons eH.ok (all_cons bI.ok (all_cons dK.ok all_nil))) dC.h (fits fun ins=>by unfold dC.c;split;exact dC.goal _;trivial)
theorem cN.ok:bA Go.Proofs.Tryz.prog cnGl 149 (cN.c,cN.sg):=meets bG (all_cons lf.ok all_nil) cN.h (fits fun ins=>by unfold cN.c;split;exact cN.goal _ _;trivial)
theorem cZ.ok:bA Go.Proofs.Tryz.prog cnGl 83 (cZ.c,cZ.sg):=meets bG all_nil cZ.h (fits fun ins=>by unfold cZ.c;split;exact cZ.goal _ _;trivial)
theorem cY.ok:bA Go.Proofs.Tryz.prog cnGl 50 (cY.c,cY.sg):=meets bG (all_cons cZ.ok all_nil) cY.h (fits fun ins=>by unfold cY.c;split;exact cY.goal _ _;trivial)
theorem cX.ok:bA Go.Proofs.Tryz.prog cnGl 134 (cX.c,cX.sg):=meets bG (all_cons cH.ok all_nil) cX.h (fits fun ins=>by unfold cX.c;split;exact cX.goal _ _;trivial)
theorem fq.ok:bA Go.Proofs.Tryz.prog cnGl 207 (fq.c,fq.sg):=meets bG all_nil fq.h (fits fun ins=>by unfold fq.c;split;exact fq.goal _ _;trivial)
theorem dZ.ok:bA Go.Proofs.Tryz.prog cnGl 210 (dZ.c,dZ.sg):=meets bG (all_cons bits_Len64.ok all_nil) dZ.h (fits fun ins=>by unfold dZ.c;split;exact dZ.goal _;trivial)
theorem bF.ok:bA Go.Proofs.Tryz.prog cnGl 180 (bF.c,bF.sg):=meets bG (all_cons dZ.ok all_nil) bF.h (fits fun ins=>by unfold bF.c;split;exact bF.goal _ _ _;trivial)
theorem gI.ok:bA Go.Proofs.Tryz.prog cnGl 146 (gI.c,gI.sg):=meets bG all_nil gI.h (fits fun ins=>by unfold gI.c;split;exact gI.goal (.mk _ _) (.mk _ _);trivial)
theorem gU.ok:bA Go.Proofs.Tryz.prog cnGl 179 (gU.c,gU.sg):=meets bG (all_cons fq.ok all_nil) gU.h (fits fun ins=>by unfold gU.c;split;exact gU.goal _ _;trivial)
theorem gV.ok:bA Go.Proofs.Tryz.prog cnGl 148 (gV.c,gV.sg):=meets bG (all_cons bF.ok all_nil) gV.h (fits fun ins=>by unfold gV.c;split;exact gV.goal (.mk _ _) _;trivial)
theorem cO.ok:bA Go.Proofs.Tryz.prog cnGl 120 (cO.c,cO.sg):=meets bG (all_cons fB.ok (all_cons gV.ok (all_cons cN.ok (all_cons gq.ok all_nil)))) cO.h (fits fun ins=>by unfold cO.c;split;exact cO.goal (.mk _ _);trivial)
theorem fE.ok:bA Go.Proofs.Tryz.prog cnGl 147 (fE.c,fE.sg):=meets bG (all_cons gU.ok all_nil) fE.h (fits fun ins=>by unfold fE.c;split;exact fE.goal;trivial)
theorem dh.ok:bA Go.Proofs.Tryz.prog cnGl 117 (dh.c,dh.sg):=meets bG (all_cons gI.ok (all_cons fE.ok all_nil)) dh.h (fits fun ins=>by unfold dh.c;split;exact dh.goal _ _;trivial)
theorem dS.ok:bA Go.Proofs.Tryz.prog cnGl 118 (dS.c,dS.sg):=meets bG (all_cons gI.ok (all_cons fE.ok all_nil)) dS.h (fits fun ins=>by unfold dS.c;split;exact dS.goal _ (.mk _ _) _;trivial)
theorem fw.ok:bA Go.Proofs.Tryz.prog cnGl 88 (fw.c,fw.sg):=meets bG (all_cons dh.ok (all_cons dS.ok all_nil)) fw.h (fits fun ins=>by unfold fw.c;split;exact fw.goal _ _;trivial)
theorem df.ok:bA Go.Proofs.Tryz.prog cnGl 119 (df.c,df.sg):=meets bG (all_cons iG.ok (all_cons fB.ok all_nil)) df.h (fits fun ins=>by unfold df.c;split;exact df.goal _ _;trivial)
theorem dR.ok:bA Go.Proofs.Tryz.prog cnGl 89 (dR.c,dR.sg):=meets bG (all_cons dh.ok (all_cons df.ok (all_cons cO.ok all_nil))) dR.h (fits fun ins=>by unfold dR.c;split;exact dR.goal _ _;trivial)
theorem cQ.ok:bA Go.Proofs.Tryz.prog cnGl 90 (cQ.c,cQ.sg):=meets bG all_nil cQ.h (fits fun ins=>by unfold cQ.c;split;exact cQ.goal _;trivial)
theorem fU.ok:bA Go.Proofs.Tryz.prog cnGl 54 (fU.c,fU.sg):=meets bG all_nil fU.h (fits fun ins=>by unfold fU.c;split;exact fU.goal _;trivial)
theorem gJ.ok:bA Go.Proofs.Tryz.prog cnGl 55 (gJ.c,gJ.sg):=meets bG (all_cons eY.ok all_nil) gJ.h (fits fun ins=>by unfold gJ.c;split;exact gJ.goal _;trivial)
theorem fV.ok:bA Go.Proofs.Tryz.prog cnGl 51 (fV.c,fV.sg):=meets bG all_nil fV.h (fits fun ins=>by unfold fV.c;split;exact fV.goal _ (.mk _ _ _);trivial)
theorem fT.ok:bA Go.Proofs.Tryz.prog cnGl 53 (fT.c,fT.sg):=meets bG all_nil fT.h (fits fun ins=>by unfold fT.c;split;exact fT.goal _ (.mk _ _ _) _ (.mk _ _ _);trivial)
theorem dE.ok:bA Go.Proofs.Tryz.prog cnGl 87 (dE.c,dE.sg):=meets bG (all_cons cd.ok all_nil) dE.h (fits fun ins=>by unfold dE.c;split;exact dE.goal _;trivial)
theorem eh.ok:bA Go.Proofs.Tryz.prog cnGl 56 (eh.c,eh.sg):=meets bG (all_cons fV.ok (all_cons fT.ok (all_cons fU.ok (all_cons gJ.ok (all_cons eY.ok (all_cons dC.ok (all_cons dE.ok (all_cons fw.ok (all_cons dR.ok all_nil))))))))) eh.h (fits fun ins=>by unfold eh.c;split;exact eh.goal (.mk _ _ _ _ _ _ _ _ _);trivial)
theorem gm.ok:bA Go.Proofs.Tryz.prog cnGl 57 (gm.c,gm.sg):=meets bG (all_cons fV.ok (all_cons fT.ok (all_cons fU.ok (all_cons cQ.ok (all_cons cd.ok all_nil))))) gm.h (fits fun ins=>by unfold gm.c;split;exact gm.goal (.mk _ _ _ _ _ _ _ _ _);trivial)
theorem PE.Dg:∀n:Nat,(bA Go.Proofs.Tryz.prog cnGl 21 (cD.cn n,cD.sg))∧(bA Go.Proofs.Tryz.prog cnGl 36 (di.cn n,di.sg)):=by
 intro n
 induction n with
 | zero=>exact ⟨jK (by intro ti nI h;unfold cD.cn at h;split at h;exact absurd (aW.1 h.1).2 (by simp);exact h.elim),jK (by intro ti nI h;unfold di.cn at h;split at h;exact absurd (aW.1 h.1).2 (by simp);exact h.elim)⟩
 | succ n ih =>
  obtain ⟨DR,Sf⟩:=ih
  exact ⟨meets bG (all_cons Sf all_nil) cD.h (fits fun ins=>by unfold cD.cn;split;exact cD.goal _ _;trivial),meets bG (all_cons DR (all_cons cY.ok (all_cons fV.ok (all_cons bN.ok (all_cons fT.ok (all_cons fU.ok (all_cons gJ.ok (all_cons eh.ok (all_cons gm.ok all_nil))))))))) di.h (fits fun ins=>by unfold di.cn;split;exact di.goal _ (.mk _ _ _ _ _ _ _ _ _);trivial)⟩
theorem cD.ok:bA Go.Proofs.Tryz.prog cnGl 21 (cD.c,cD.sg):=lS fun ti nI h=>by
 unfold cD.c at h
 split at h
 ·obtain ⟨hp,rfl⟩:=h;exact ⟨cD.cn (_+1),(PE.Dg _).1,aW.2 ⟨hp,aa (Nat.lt_succ_self _)⟩,rfl⟩
 ·exact h.elim
theorem fF.ok:bA Go.Proofs.Tryz.prog cnGl 9 (fF.c,fF.sg):=meets bG (all_cons dH.ok (all_cons cD.ok all_nil)) fF.h (fits fun ins=>by unfold fF.c;split;exact fF.goal (.mk _ _ _ _ _ _ _ _ _);trivial)
theorem iH.ok:bA Go.Proofs.Tryz.prog cnGl 74 (iH.c,iH.sg):=meets bG (all_cons dJ.ok all_nil) iH.h (fits fun ins=>by unfold iH.c;split;exact iH.goal _;trivial)
theorem I3.Dg:∀n:Nat,(bA Go.Proofs.Tryz.prog cnGl 39 (bP.cn n,bP.sg)):=by
 intro n
 induction n with
 | zero=>exact jK (by intro ti nI h;unfold bP.cn at h;split at h;exact absurd (aW.1 h.1).2 (by simp);exact h.elim)
 | succ n ih =>
  have DR:=ih
  exact meets bG (all_cons DR (all_cons bD.ok (all_cons iH.ok all_nil))) bP.h (fits fun ins=>by unfold bP.cn;split;exact bP.goal _ (.mk _ _ _);trivial)
theorem bP.ok:bA Go.Proofs.Tryz.prog cnGl 39 (bP.c,bP.sg):=lS fun ti nI h=>by
 unfold bP.c at h
 split at h
 ·obtain ⟨hp,rfl⟩:=h;exact ⟨bP.cn (_+1),(I3.Dg _),aW.2 ⟨hp,aa (Nat.lt_succ_self _)⟩,rfl⟩
 ·exact h.elim
theorem cm.ok:bA Go.Proofs.Tryz.prog cnGl 106 (cm.c,cm.sg):=meets bG (all_cons iH.ok (all_cons cd.ok (all_cons cX.ok all_nil))) cm.h (fits fun ins=>by unfold cm.c;split;exact cm.goal _;trivial)
theorem jo_quoted.ok:bA Go.Proofs.Tryz.prog cnGl 75 (jo_quoted.c,jo_quoted.sg):=meets bG (all_cons cm.ok all_nil) jo_quoted.h (fits fun ins=>by unfold jo_quoted.c;split;exact jo_quoted.goal _ _;trivial)
theorem Oo.Dg:∀n:Nat,(bA Go.Proofs.Tryz.prog cnGl 40 (bY.cn n,bY.sg)):=by
 intro n
 induction n with
 | zero=>exact jK (by intro ti nI h;unfold bY.cn at h;split at h;exact absurd (aW.1 h.1).2 (by simp);exact h.elim)
 | succ n ih =>
  have DR:=ih
  exact meets bG (all_cons DR (all_cons jo_quoted.ok all_nil)) bY.h (fits fun ins=>by unfold bY.cn;split;exact bY.goal _ _ (.mk _ _ _);trivial)
theorem bY.ok:bA Go.Proofs.Tryz.prog cnGl 40 (bY.c,bY.sg):=lS fun ti nI h=>by
 unfold bY.c at h
 split at h
 ·obtain ⟨hp,rfl⟩:=h;exact ⟨bY.cn (_+1),(Oo.Dg _),aW.2 ⟨hp,aa (Nat.lt_succ_self _)⟩,rfl⟩
 ·exact h.elim
theorem ft.ok:bA Go.Proofs.Tryz.prog cnGl 24 (ft.c,ft.sg):=meets bG (all_cons bP.ok (all_cons bY.ok all_nil)) ft.h (fits fun ins=>by unfold ft.c;split;exact ft.goal (.mk _ _ _);trivial)
theorem gn.ok:bA Go.Proofs.Tryz.prog cnGl 11 (gn.c,gn.sg):=meets bG (all_cons fF.ok (all_cons ft.ok all_nil)) gn.h (fits fun ins=>by unfold gn.c;split;exact gn.goal (.mk _ _ _ _ _ _ _ _ _);trivial)
end Go.Eng
set_option maxRecDepth 20000
namespace Go.Eng
open Go.Proofs
theorem dw.ok:bA Go.Proofs.Tryz.prog cnGl 7 (dw.c,dw.sg):=meets bG (all_cons gn.ok all_nil) dw.h (fits fun ins=>by unfold dw.c;split;exact dw.goal;trivial)
end Go.Eng
set_option maxRecDepth 100000
namespace Go.Eng
open Go.Proofs
noncomputable section
def CanonApart.sg:bW:={}
def CanonApart.c:eS:=fun l=>match l with
 | [.ag [.i .i64 K1,.u64 Xw,.u64 Kq,.u64 Kp,.s K0,.s Xv,.i .i64 Xu,.sl .bs Xt,.sl .fl K2],.ag [.i .i64 PI,.u64 X9,.u64 Q8,.u64 Q7,.s PH,.s X8,.i .i64 X7,.sl .bs X6,.sl .fl PJ]] => .ok [(.b (true))]
 | _ => .err
end
noncomputable section
def CanonApart.E:cC:=cT fQ zs [(7,(dw.c,dw.sg)),(8,(dI.c,dI.sg)),(11,(gn.c,gn.sg)),(15,(eF.c,eF.sg))]
def CanonApart.h:Hint := .o
noncomputable def CanonApart.F (a:Val) (b:Val):Option (List TV):=cR Go.Proofs.Tryz.prog CanonApart.E 4 CanonApart.sg CanonApart.h [(.ag (Val.cells a)),(.ag (Val.cells b))]
theorem CanonApart.bZ (a:Val) (b:Val) {ρ:Option (List TV)} (K:∀(v1:Bool) (h1:v1=(!(!(decide (0≤eU.value 1200 (bJ.of [] a)))))) (v2:Bool) (h2:v2=(cond (!(decide (0≤eU.value 1200 (bJ.of [] a)))) true (!(decide (0≤eU.value 1200 (bJ.of [] b)))))) (v3:Bool) (h3:v3=(!(!decide ((Cn.oG a).2=(0:Int))))) (v4:Bool) (h4:v4=(cond (!decide ((Cn.oG a).2=(0:Int))) true (!decide ((Cn.oG b).2=(0:Int))))),cond (!(true))
  (some [(.b false)])
  (ck (!v1 || v1) (ck (!v1 || v1) (ck ((!(decide (0≤eU.value 1200 (bJ.of [] a)))) || v1) (cond v2
  (some [(.b true)])
  (ck (decide (bJ.bO (bJ.of [] a)≤100000)) (ck (decide (bJ.bO (bJ.of [] b)≤100000)) (ck (!v3 || v3) (ck (!v3 || v3) (ck ((!decide ((Cn.oG a).2=(0:Int))) || v3) (cond v4
  (some [(.b true)])
  (ck (decide (bJ.bO (bJ.of [] a)≤1099511627776)) (some [(.b ((decide ((Cn.tV a)=(Cn.tV b))) == (Tree.same a b)))]))))))))))))=ρ):CanonApart.F a b=ρ:=Eq.trans (by kernel_rfl) (K _ rfl _ rfl _ rfl _ rfl)
end
end Go.Eng
set_option maxRecDepth 20000
namespace Go.Eng
namespace Sh
theorem VN:Nr.read [48] 1=some 0:=by
 unfold Nr.read
 rw [aw (by decide),show Nr.num [48]=0 by decide]
 unfold Nr.rd
 rw [show ((1:Int) - (([48]:bz).length:Int)).toNat=0 by decide,show (-((1:Int) - (([48]:bz).length:Int))).toNat=0 by decide]
 exact Nr.lW (by decide) (by decide) (by unfold Nr.fZ;decide +kernel) (.inl rfl)
theorem VA:Nr.parse [48]=(0,0)∧Nr.parse [45,48]=(9223372036854775808,0):=by
 constructor
 ·have h1:Nr.ahead [48]++Nr.behind [48]=[48]:=by decide
  have h2:((Nr.ahead [48]).length:Int)+Nr.xU (Nr.tail [48])=1:=by decide
  rw [Nr.Vr];unfold Nr.Vj
  rw [au (by decide),au (by decide),h1,h2,VN]
  simp
 ·have h1:Nr.ahead [45,48]++Nr.behind [45,48]=[48]:=by decide
  have h2:((Nr.ahead [45,48]).length:Int)+Nr.xU (Nr.tail [45,48])=1:=by decide
  rw [Nr.Vr];unfold Nr.Vj
  rw [au (by decide),au (by decide),h1,h2,VN]
  simp
theorem VW {s:bz} (h:Nr.iX s=0):Nr.parse s=(0,3):=by
 rw [Nr.Vr];unfold Nr.Vj;rw [aw h]
theorem Xm {m:Nat} (h:Wl m=1):m=0:=by
 unfold Wl at h
 split at h
 ·split at h <;> simp at h
 ·split at h
  ·split at h
   ·omega
   ·simp at h
  ·simp at h
theorem back {b:UInt64} (h:(Nr.split b).1=1∨(Nr.split b).1=2):Nr.parse (text b)=(b,0)∧Nr.iX (text b)≠0:=by
 have hb:=b.toNat_lt
 have hs:=(Vy b).2
 rw [FL (by omega)]
 rcases h with h | h
 ·have hm:=Xm ((Vy b).1.symm.trans h)
  have hm:b.toNat % 9223372036854775808=0:=hm
  have e:tb b=[48]:=by unfold tb;rw [au (by omega),aw h]
  rw [e]
  unfold sign
  by_cases c:9223372036854775808≤b.toNat
  ·rw [hs,aa c,aw rfl]
   have:b=9223372036854775808:=bn.1 (by show _=9223372036854775808;omega)
   rw [this]
   exact ⟨VA.2,by decide⟩
  ·rw [hs,ab c,au (by decide)]
   have:b=0:=bn.1 (by show _=0;omega)
   rw [this]
   exact ⟨VA.1,by decide⟩
 ·obtain ⟨⟨_,r2,r3,r4⟩,hL,hr⟩:=Ez h
  obtain ⟨p1,p2,_⟩:=WV hL r2 ⟨r3,r4⟩ hr (Nr.split b).2.1
  have e:tb b=laid (dg b).1 (dg b).2.1:=by unfold tb;rw [au (by omega),au (by omega)]
  rw [e]
  unfold sign
  refine ⟨p1.trans ?_,p2⟩
  rw [hs]
  refine Prod.ext (bn.1 ?_) rfl
  show (UInt64.ofNat _).toNat=b.toNat
  rw [fc]
  unfold mM
  by_cases c:9223372036854775808≤b.toNat
  ·rw [aa c,aw rfl];omega
  ·rw [ab c,au (by decide)];omega
theorem WC {b:UInt64} (h:¬((Nr.split b).1=1∨(Nr.split b).1=2)):Nr.parse (text b)=(0,3):=by
 have:=rS b
 by_cases c:(Nr.split b).1=4
 ·rw [CH c];exact VW (by decide)
 ·rw [FL c]
  have e:tb b=[73,110,102,105,110,105,116,121]:=by unfold tb;rw [aw (by omega)]
  rw [e]
  unfold sign
  cases (Nr.split b).2.1 with
  | true=>exact VW (by decide)
  | false=>exact VW (by decide)
end Sh
end Go.Eng
set_option maxRecDepth 20000
namespace Go.Eng
open Go.IntWalk
open Nr (Shape)
theorem WK {a b:Nat} (h:Nr.dec a=Nr.dec b):a=b:=by rw [←(Nr.lC a).2.1,h,(Nr.lC b).2.1]
theorem Wq (n:Nat):(Nr.dec n).headD 0≠45∧Nr.dV ((Nr.dec n).headD 0)=true:=by
 obtain ⟨d1,_,d3,_⟩:=Nr.lC n
 cases e:Nr.dec n with
 | nil=>exact (d3 e).elim
 | cons c r =>
  rw [e,List.all_cons,ah] at d1
  refine ⟨fun w=>?_,d1.1⟩
  rw [List.headD_cons] at w
  rw [w] at d1;exact absurd d1.1 (by decide)
theorem VC {a b:Int} (h:Nr.itoa a=Nr.itoa b):a=b:=by
 rw [Nr.nN,Nr.nN] at h
 have ha:=(Wq a.natAbs).1
 have hb:=(Wq b.natAbs).1
 by_cases c:a<0 <;> by_cases d:b<0
 ·rw [aw c,aw d] at h
  have:=WK (List.cons.inj h).2;omega
 ·rw [aw c,au d] at h;rw [←h] at hb;exact (hb rfl).elim
 ·rw [au c,aw d] at h;rw [h] at ha;exact (ha rfl).elim
 ·rw [au c,au d] at h
  have:=WK h;omega
theorem Wv:∀m,m<256→∀n,n<256→lE.two (UInt8.ofNat m)=lE.two (UInt8.ofNat n)→m=n:=by
 have key:∀m,m<256→((lE.digit ((lE.two (UInt8.ofNat m)).getD 0 0)) * 16+lE.digit ((lE.two (UInt8.ofNat m)).getD 1 0))=(m:Int):=by decide +kernel
 intro m hm n hn h
 have h1:=key m hm
 rw [h,key n hn] at h1;omega
theorem VD:∀{a b:bz},lE.text a=lE.text b→a=b
 | [],[],_=>rfl
 | [],_ :: _,h=>by simp [lE.text,lE.two] at h
 | _ :: _,[],h=>by simp [lE.text,lE.two] at h
 | x :: a,y :: b,h=>by
  rw [lE.text,lE.text] at h
  have hl:∀x:UInt8,(lE.two x).length=2:=fun _=>rfl
  obtain ⟨h1,h2⟩:=List.append_inj h (by rw [hl,hl])
  have e:x=y:=by
   have:=Wv x.toNat (Ip x) y.toNat (Ip y) (by rw [UInt8.ofNat_toNat,UInt8.ofNat_toNat];exact h1)
   exact UInt8.toNat_inj.1 this
  rw [e,VD h2]
theorem W6:∀m,m<64→∀n,n<64→Cn.sign (UInt8.ofNat m)=Cn.sign (UInt8.ofNat n)→m=n:=by decide +kernel
theorem W5:∀m,m<64→Cn.sign (UInt8.ofNat m)≠61:=by decide +kernel
theorem Vp {a b:UInt8} (ha:a.toNat<64) (hb:b.toNat<64) (h:Cn.sign a=Cn.sign b):a.toNat=b.toNat:=by
 refine W6 _ ha _ hb ?_
 rw [UInt8.ofNat_toNat,UInt8.ofNat_toNat];exact h
theorem VH {a:UInt8} (ha:a.toNat<64):Cn.sign a≠61:=by
 have:=W5 _ ha
 rwa [UInt8.ofNat_toNat] at this
theorem UT (x:UInt8):(mJ (x &&& 3) 4).toNat=x.toNat % 4 * 16:=by
 have h:(x &&& (3:UInt8)).toNat=x.toNat % 4:=by rw [UInt8.toNat_and,show (3:UInt8).toNat=2 ^ 2 - 1 from rfl,Nat.and_two_pow_sub_one_eq_mod]
 unfold mJ
 rw [h,UInt8.toNat_ofNat'];omega
theorem Np (x:UInt8):(mJ (x &&& 15) 2).toNat=x.toNat % 16 * 4:=by
 have h:(x &&& (15:UInt8)).toNat=x.toNat % 16:=by rw [UInt8.toNat_and,show (15:UInt8).toNat=2 ^ 4 - 1 from rfl,Nat.and_two_pow_sub_one_eq_mod]
 unfold mJ
 rw [h,UInt8.toNat_ofNat'];omega
theorem Yi (x y:UInt8):(mJ (x &&& 3) 4 ||| kX y 4).toNat=x.toNat % 4 * 16+y.toNat / 16:=by
 have hy:=y.toNat_lt
 rw [UInt8.toNat_or,UT,Lj]
 have:=Nat.two_pow_add_eq_or_of_lt (i:=4) (b:=y.toNat / 2 ^ 4) (by omega) (x.toNat % 4)
 rw [Nat.mul_comm] at this
 rw [show (16:Nat)=2 ^ 4 from rfl,←this]
theorem Yq (x y:UInt8):(mJ (x &&& 15) 2 ||| kX y 6).toNat=x.toNat % 16 * 4+y.toNat / 64:=by
 have hy:=y.toNat_lt
 rw [UInt8.toNat_or,Np,Lj]
 have:=Nat.two_pow_add_eq_or_of_lt (i:=2) (b:=y.toNat / 2 ^ 6) (by omega) (x.toNat % 16)
 rw [Nat.mul_comm] at this
 rw [show (4:Nat)=2 ^ 2 from rfl,show (64:Nat)=2 ^ 6 from rfl,←this]
theorem Wa (x:UInt8):(x &&& (63:UInt8)).toNat=x.toNat % 64:=by
 rw [UInt8.toNat_and,show (63:UInt8).toNat=2 ^ 6 - 1 from rfl,Nat.and_two_pow_sub_one_eq_mod]
theorem q0 (a:UInt8):(kX a 2).toNat=a.toNat / 4:=Lj a 2
theorem Wr:∀{a b:bz},Cn.base a=Cn.base b→a=b
 | [],[],_=>rfl
 | [],[_],h=>by simp [Cn.base] at h
 | [],[_,_],h=>by simp [Cn.base] at h
 | [],_ :: _ :: _ :: _,h=>by simp [Cn.base] at h
 | [_],[],h=>by simp [Cn.base] at h
 | [_,_],[],h=>by simp [Cn.base] at h
 | _ :: _ :: _ :: _,[],h=>by simp [Cn.base] at h
 | [a],[b],h=>by
  simp only [Cn.base,bt,and_true] at h
  have h1:=Vp (Ki _) (Ki _) h.1
  have h2:=Vp (H6 _).1 (H6 _).1 h.2
  rw [q0,q0] at h1
  rw [UT,UT] at h2
  rw [UInt8.toNat_inj.1 (show a.toNat=b.toNat by omega)]
 | [a],[b,c],h=>by
  simp only [Cn.base,bt,and_true] at h
  exact (VH (H7 _).1 h.2.2.symm).elim
 | [b,c],[a],h=>by
  simp only [Cn.base,bt,and_true] at h
  exact (VH (H7 _).1 h.2.2).elim
 | [a,a2],[b,b2],h=>by
  simp only [Cn.base,bt,and_true] at h
  have h1:=Vp (Ki _) (Ki _) h.1
  have h2:=Vp (MB (H6 _).1 (H5 _ _ (by omega))) (MB (H6 _).1 (H5 _ _ (by omega))) h.2.1
  have h3:=Vp (H7 _).1 (H7 _).1 h.2.2
  rw [q0,q0] at h1
  rw [Yi,Yi] at h2
  rw [Np,Np] at h3
  have ha:=a2.toNat_lt
  have hb:=b2.toNat_lt
  rw [UInt8.toNat_inj.1 (show a.toNat=b.toNat by omega),UInt8.toNat_inj.1 (show a2.toNat=b2.toNat by omega)]
 | [a],x :: y :: z :: r,h=>by
  simp only [Cn.base,bt] at h
  exact (VH (MB (H7 _).1 (H5 _ _ (by omega))) h.2.2.1.symm).elim
 | x :: y :: z :: r,[a],h=>by
  simp only [Cn.base,bt] at h
  exact (VH (MB (H7 _).1 (H5 _ _ (by omega))) h.2.2.1).elim
 | [a,b],x :: y :: z :: r,h=>by
  simp only [Cn.base,bt] at h
  exact (VH (Hc _) h.2.2.2.1.symm).elim
 | x :: y :: z :: r,[a,b],h=>by
  simp only [Cn.base,bt] at h
  exact (VH (Hc _) h.2.2.2.1).elim
 | x :: y :: z :: r,x' :: y' :: z' :: r',h=>by
  simp only [Cn.base,bt] at h
  obtain ⟨g1,g2,g3,g4,g5⟩:=h
  have h1:=Vp (Ki _) (Ki _) g1
  have h2:=Vp (MB (H6 _).1 (H5 _ _ (by omega))) (MB (H6 _).1 (H5 _ _ (by omega))) g2
  have h3:=Vp (MB (H7 _).1 (H5 _ _ (by omega))) (MB (H7 _).1 (H5 _ _ (by omega))) g3
  have h4:=Vp (Hc _) (Hc _) g4
  rw [q0,q0] at h1
  rw [Yi,Yi] at h2
  rw [Yq,Yq] at h3
  rw [Wa,Wa] at h4
  have b1:=y.toNat_lt
  have b2:=y'.toNat_lt
  have b3:=z.toNat_lt
  have b4:=z'.toNat_lt
  rw [Wr g5,UInt8.toNat_inj.1 (show x.toNat=x'.toNat by omega),UInt8.toNat_inj.1 (show y.toNat=y'.toNat by omega),UInt8.toNat_inj.1 (show z.toNat=z'.toNat by omega)]
end Go.Eng
set_option maxRecDepth 20000
namespace Go.Eng
open Go.IntWalk
open Nr (Shape)
theorem Vt (c:Nat) (x:Int):∃a b fr ex e,Shape (Cn.laid (Nr.dec c) x) a b fr ex e∧Nr.num (a++b)=c∧Nr.xU e - (b.length:Int)=x:=by
 obtain ⟨d1,d2,d3,_⟩:=Nr.lC c
 generalize Nr.dec c=d at d1 d2 d3
 have hl:=List.length_pos_iff.2 d3
 unfold Cn.laid
 simp only
 by_cases c1:x=0
 ·rw [aw c1]
  exact ⟨d,[],[],[],[],⟨by simp,d3,d1,.inl ⟨rfl,rfl⟩,rfl,.inl ⟨rfl,rfl⟩,rfl⟩,by rw [bj];exact d2,by rw [c1];rfl⟩
 rw [au c1]
 by_cases c2:x<0∧-6≤x+(d.length:Int) - 1
 ·rw [aw c2]
  obtain ⟨z,hz,z1,z2,z3⟩:∃z:bz,(if (d.length:Int)≤-x then List.replicate (1 - x - (d.length:Int)).toNat 48++d else d)=z∧z.all Nr.dV=true∧Nr.num z=c∧0<(z.length:Int)+x:=by
   refine ⟨_,rfl,?_⟩
   by_cases k:(d.length:Int)≤-x
   ·rw [aw k]
    refine ⟨?_,?_,?_⟩
    ·rw [List.all_append,d1,Bool.and_true,aC]
     intro y hy;rw [List.eq_of_mem_replicate hy];rfl
    ·rw [Nr.gC,Nr.jt,d2];omega
    ·rw [ao,List.length_replicate];omega
   ·rw [au k];exact ⟨d1,d2,by omega⟩
  rw [hz]
  obtain ⟨k1,k2⟩:=Sh.te z1 ((z.length:Int)+x).toNat
  have l1:(z.take ((z.length:Int)+x).toNat).length=((z.length:Int)+x).toNat:=by rw [aF];omega
  have l2:(z.drop ((z.length:Int)+x).toNat).length=(-x).toNat:=by rw [aU];omega
  refine ⟨z.take ((z.length:Int)+x).toNat,z.drop ((z.length:Int)+x).toNat,46 :: z.drop ((z.length:Int)+x).toNat,[],[],⟨by simp,?_,k2,.inr ⟨rfl,?_⟩,k1,.inl ⟨rfl,rfl⟩,rfl⟩,?_,?_⟩
  ·intro e;rw [e,aB] at l1;omega
  ·intro e;rw [e,aB] at l2;omega
  ·rw [List.take_append_drop];exact z2
  ·rw [l2,show Nr.xU []=0 from rfl];omega
 ·rw [au c2]
  have t1:(d.take 1).all Nr.dV=true:=(Sh.te d1 1).2
  have t2:(d.drop 1).all Nr.dV=true:=(Sh.te d1 1).1
  have t3:d.take 1≠[]:=by intro e;have:=congrArg List.length e;rw [aF,aB] at this;omega
  have tl:(d.drop 1).length=d.length - 1:=aU
  -- the exponent
  obtain ⟨ch,e,ee,e1,e2,e3,e5,e6,e7⟩:∃(ch:UInt8) (e s:bz),s=ch :: e∧Nr.HC ch=true∧Nr.signed e≠[]∧(Nr.signed e).all Nr.dV=true∧Nr.xU e=x+d.length - 1 ∧
    (∀t:bz,(if x+(d.length:Int) - 1<0 then t++[69,45]++Nr.itoa (-(x+(d.length:Int) - 1)) else t++[69,43]++Nr.itoa (x+(d.length:Int) - 1))=t++s):=by
   by_cases k:x+(d.length:Int) - 1<0
   ·obtain ⟨f1,f2⟩:=Sh.Ei (v:=-(x+(d.length:Int) - 1)) (by omega)
    obtain ⟨_,g1,_,g2⟩:=Sh.nM (v:=-(x+(d.length:Int) - 1)) (by omega)
    exact ⟨69,45 :: Nr.itoa (-(x+(d.length:Int) - 1)),_,rfl,rfl,by rw [f2];exact g2,by rw [f2];exact g1,by rw [f1];omega,fun t=>by rw [aw k,aG];rfl⟩
   ·obtain ⟨f1,f2⟩:=Sh.Eh (v:=x+(d.length:Int) - 1) (by omega)
    obtain ⟨_,g1,_,g2⟩:=Sh.nM (v:=x+(d.length:Int) - 1) (by omega)
    exact ⟨69,43 :: Nr.itoa (x+(d.length:Int) - 1),_,rfl,rfl,by rw [f2];exact g2,by rw [f2];exact g1,by rw [f1],fun t=>by rw [au k,aG];rfl⟩
  rw [e7]
  by_cases k:1<(d.length:Int)
  ·rw [aw k]
   refine ⟨d.take 1,d.drop 1,46 :: d.drop 1,ee,e,⟨rfl,t3,t1,.inr ⟨rfl,?_⟩,t2,.inr ⟨ch,e2,e1,e3⟩,e5⟩,?_,?_⟩
   ·intro w;rw [w,aB] at tl;omega
   ·rw [List.take_append_drop];exact d2
   ·rw [e6,tl];omega
  ·rw [au k]
   refine ⟨d.take 1,[],[],ee,e,⟨by rw [bj],t3,t1,.inl ⟨rfl,rfl⟩,rfl,.inr ⟨ch,e2,e1,e3⟩,e5⟩,?_,?_⟩
   ·rw [bj,List.take_of_length_le (by omega)];exact d2
   ·rw [e6,aB];omega
theorem WY {c c':Nat} {x x':Int} (h:Cn.laid (Nr.dec c) x=Cn.laid (Nr.dec c') x'):c=c'∧x=x':=by
 obtain ⟨a,b,fr,ex,e,s,n1,n2⟩:=Vt c x
 obtain ⟨a',b',Y4,Y5,e',s',YU,YT⟩:=Vt c' x'
 have hb:∀{t a b fr ex e:bz},Shape t a b fr ex e→Nr.body t=t:=fun {t a b fr ex e} s=>by
  have:=Sh.VG s
  unfold Nr.body
  split
  ·rw [List.getD_cons_zero] at this;exact absurd this (by decide)
  ·rfl
 have e1:=hb s
 have e2:=hb s'
 rw [←h] at s' e2
 have p1:=Nr.Shape.parts (s:=Cn.laid (Nr.dec c) x) (by rw [e1];exact s)
 have p2:=Nr.Shape.parts (s:=Cn.laid (Nr.dec c) x) (by rw [e1];exact s')
 have q1:a=a':=p1.2.2.1.symm.trans p2.2.2.1
 have q2:b=b':=p1.2.2.2.symm.trans p2.2.2.2
 have q3:e=e':=p1.2.1.symm.trans p2.2.1
 subst q1;subst q2;subst q3
 exact ⟨n1.symm.trans YU,n2.symm.trans YT⟩
theorem Ww (c:Nat) (x:Int):Nr.dV ((Cn.laid (Nr.dec c) x).getD 0 0)=true:=by
 obtain ⟨a,b,fr,ex,e,s,_⟩:=Vt c x
 exact Sh.VG s
theorem Xf {a b:dy} (h:a.val=b.val):a=b:=by
 rw [dy.jH,dy.jH] at h
 have h1:=a.low.toNat_lt
 have h2:=b.low.toNat_lt
 cases a with | mk ah al=>cases b with | mk bh bl =>
 simp only at h h1 h2
 have e1:ah=bh:=bn.1 (by omega)
 have e2:al=bl:=bn.1 (by omega)
 rw [e1,e2]
theorem Wm {h:UInt64} (k:h &&& ~~~(9223372036854775808:UInt64)=8646911284551352320):h.toNat % 9223372036854775808=8646911284551352320:=by
 have e:=congrArg UInt64.toNat k
 have e2:(h &&& ~~~(9223372036854775808:UInt64)).toNat=h.toNat % 9223372036854775808:=by
  rw [UInt64.toNat_and,show (~~~(9223372036854775808:UInt64)).toNat=2 ^ 63 - 1 by decide,Nat.and_two_pow_sub_one_eq_mod]
 rw [e2] at e;exact e
theorem V5 (h l:UInt64):(Cn.split h l).2.1=decide (9223372036854775808≤h.toNat):=by
 have hh:=h.toNat_lt
 have e:decide (dD h 63=1)=decide (9223372036854775808≤h.toNat):=by
  rw [aZ,←bn]
  have e3:(dD h 63).toNat=h.toNat / 9223372036854775808:=by
   unfold dD
   rw [UInt64.toNat_ofNat'];omega
  rw [e3,show (1:UInt64).toNat=1 from rfl];omega
 rw [Cn.rT]
 unfold Cn.pO
 simp only
 split
 ·exact e
 split
 ·exact e
 split
 ·exact e
 ·exact e
theorem WX {h l h' l':UInt64} (p:Cn.pX h l=true) (p':Cn.pX h' l'=true) (e:Cn.sW h l=Cn.sW h' l'):h=h'∧l=l':=by
 have n1:=V5 h l
 have n2:=V5 h' l'
 have hh:=h.toNat_lt
 have Y3:=h'.toNat_lt
 unfold Cn.pX at p p'
 unfold Cn.sW at e
 simp only at p p' e
 -- the sign and NY Yk behind it
 have hs:∀(n n':Bool) (t t':bz),t.getD 0 0≠45→t'.getD 0 0≠45→cond n (45 :: t) t=cond n' (45 :: t') t'→n=n'∧t=t':=by
  intro n n' t t' a b h
  cases n <;> cases n' <;> simp only [ai,ae] at h
  ·exact ⟨rfl,h⟩
  ·rw [h] at a;exact (a rfl).elim
  ·rw [←h] at b;exact (b rfl).elim
  ·exact ⟨rfl,(List.cons.inj h).2⟩
 have hd:∀h l,(Cn.laid (Nr.dec (Cn.split h l).2.2.1.val) (Cn.split h l).2.2.2).getD 0 0≠45∧Cn.laid (Nr.dec (Cn.split h l).2.2.1.val) (Cn.split h l).2.2.2≠[73,110,102,105,110,105,116,121]∧(Cn.laid (Nr.dec (Cn.split h l).2.2.1.val) (Cn.split h l).2.2.2).getD 0 0≠78:=by
  intro h l
  have:=Ww (Cn.split h l).2.2.1.val (Cn.split h l).2.2.2
  refine ⟨fun w=>?_,fun w=>?_,fun w=>?_⟩ <;> rw [w] at this <;> exact absurd this (by decide)
 have hN:∀(n:Bool) (t:bz),t.getD 0 0≠78→([78,97,78]:bz)≠cond n (45 :: t) t:=by
  intro n t a h
  cases n <;> simp only [ai,ae] at h
  ·rw [←h] at a;exact a rfl
  ·exact absurd (List.cons.inj h).1 (by decide)
 by_cases k3:(Cn.split h l).1=3 <;> by_cases Yc:(Cn.split h' l').1=3
 ·rw [aw k3] at p
  rw [aw Yc] at p'
  rw [ah] at p p'
  exact ⟨(ar p.1).trans (ar p'.1).symm,(ar p.2).trans (ar p'.2).symm⟩
 ·rw [aw k3,au Yc] at e
  refine (hN _ _ ?_ e).elim
  split
  ·decide
  ·exact (hd h' l').2.2
 ·rw [au k3,aw Yc] at e
  refine (hN _ _ ?_ e.symm).elim
  split
  ·decide
  ·exact (hd h l).2.2
 ·rw [au k3,au Yc] at e
  rw [au k3] at p
  rw [au Yc] at p'
  have nh:∀h l,(if (Cn.split h l).1=2 then ([73,110,102,105,110,105,116,121]:bz) else Cn.laid (Nr.dec (Cn.split h l).2.2.1.val) (Cn.split h l).2.2.2).getD 0 0≠45:=by
   intro h l
   split
   ·decide
   ·exact (hd h l).1
  obtain ⟨e1,e2⟩:=hs _ _ _ _ (nh h l) (nh h' l') e
  by_cases k2:(Cn.split h l).1=2 <;> by_cases P4:(Cn.split h' l').1=2
  ·rw [aw k2,ah] at p
   rw [aw P4,ah] at p'
   have i1:=Wm (ar p.1)
   have i2:=Wm (ar p'.1)
   rw [n1,n2,aZ] at e1
   exact ⟨bn.1 (by omega),(ar p.2).trans (ar p'.2).symm⟩
  ·rw [aw k2,au P4] at e2
   exact ((hd h' l').2.1 e2.symm).elim
  ·rw [au k2,aw P4] at e2
   exact ((hd h l).2.1 e2).elim
  ·rw [au k2,au P4] at e2
   rw [au k2,ah,ah] at p
   rw [au P4,ah,ah] at p'
   obtain ⟨f1,f2⟩:=WY e2
   have f1:=Xf f1
   have g1:=ar p.1.2
   have g2:=ar p.2
   rw [e1,f1,f2,ar p'.1.2] at g1
   rw [e1,f1,f2,ar p'.2] at g2
   exact ⟨g1.symm,g2.symm⟩
theorem Xq {b b':UInt64} (h:(Nr.split b).1≠4) (h':(Nr.split b').1≠4) (e:Sh.text b=Sh.text b'):b=b':=by
 by_cases c:(Nr.split b).1=1∨(Nr.split b).1=2 <;> by_cases d:(Nr.split b').1=1∨(Nr.split b').1=2
 ·have h1:=(Sh.back c).1
  have h2:=(Sh.back d).1
  rw [e,h2] at h1
  exact (Prod.mk.inj h1).1.symm
 ·have h1:=(Sh.back c).1
  rw [e,Sh.WC d] at h1
  exact absurd (Prod.mk.inj h1).2 (by decide)
 ·have h1:=(Sh.back d).1
  rw [←e,Sh.WC c] at h1
  exact absurd (Prod.mk.inj h1).2 (by decide)
 ·have s1:=rS b
  have s2:=rS b'
  have k1:(Nr.split b).1=3:=by omega
  have k2:(Nr.split b').1=3:=by omega
  have t1:Sh.tb b=[73,110,102,105,110,105,116,121]:=by unfold Sh.tb;rw [aw k1]
  have t2:Sh.tb b'=[73,110,102,105,110,105,116,121]:=by unfold Sh.tb;rw [aw k2]
  rw [Sh.FL h,Sh.FL h',t1,t2] at e
  have m:∀b,(Nr.split b).1=3→Sh.mM b=9218868437227405312:=by
   intro b k
   rw [(Sh.Vy b).1] at k
   unfold Sh.Wl at k
   have hm:Sh.mM b<9223372036854775808:=Nat.mod_lt _ (by decide)
   by_cases c1:Sh.mM b / 4503599627370496=2047
   ·rw [aw c1] at k
    by_cases c2:Sh.mM b % 4503599627370496=0
    ·omega
    ·rw [au c2] at k;exact absurd k (by decide)
   ·rw [au c1] at k
    split at k
    ·split at k <;> exact absurd k (by decide)
    ·exact absurd k (by decide)
  have m1:b.toNat % 9223372036854775808=9218868437227405312:=m b k1
  have m2:b'.toNat % 9223372036854775808=9218868437227405312:=m b' k2
  have b1:=b.toNat_lt
  have b2:=b'.toNat_lt
  have z1:=(Sh.Vy b).2
  have z2:=(Sh.Vy b').2
  have:(9223372036854775808≤b.toNat) ↔ (9223372036854775808≤b'.toNat):=by
   rw [←aZ,←z1,←z2]
   unfold Sh.sign at e
   cases x:(Nr.split b).2.1 <;> cases y:(Nr.split b').2.1 <;> rw [x,y] at e <;> first | rfl | exact absurd e (by decide)
  exact bn.1 (by omega)
end Go.Eng
set_option maxRecDepth 20000
namespace Go.Eng
open Go.IntWalk
theorem Xy (n:Int):IntKind.wrap .i64 n=(if n % 18446744073709551616 ≥ 9223372036854775808 then n % 18446744073709551616 - 18446744073709551616 else n % 18446744073709551616):=by
 simp [IntKind.wrap,IntKind.bits,IntKind.signed]
theorem Yp (n:Int):IntKind.wrap .i32 n=(if n % 4294967296 ≥ 2147483648 then n % 4294967296 - 4294967296 else n % 4294967296):=by
 simp [IntKind.wrap,IntKind.bits,IntKind.signed]
theorem VQ {a b:UInt64} (h:Cn.i64 a=Cn.i64 b):a=b:=by
 unfold Cn.i64 at h
 rw [Xy,Xy] at h
 have h1:=a.toNat_lt
 have h2:=b.toNat_lt
 refine bn.1 ?_
 split at h <;> split at h <;> omega
theorem Xn {a b:UInt64} (ha:a<4294967296) (hb:b<4294967296) (h:Cn.i32 a=Cn.i32 b):a=b:=by
 unfold Cn.i32 at h
 rw [aV] at ha hb
 have ha:a.toNat<4294967296:=ha
 have hb:b.toNat<4294967296:=hb
 rw [Xy,Xy,Yp,Yp] at h
 refine bn.1 ?_
 split at h <;> split at h <;> split at h <;> split at h <;> omega
theorem Vz (a:UInt64) (n:Nat):(dD a n).toNat=a.toNat / 2 ^ n:=by
 unfold dD
 rw [UInt64.toNat_ofNat']
 exact Nat.mod_eq_of_lt (Nat.lt_of_le_of_lt (Nat.div_le_self ..) a.toNat_lt)
theorem X2 (a:UInt64):(a &&& (4294967295:UInt64)).toNat=a.toNat % 4294967296:=by
 rw [UInt64.toNat_and,show (4294967295:UInt64).toNat=2 ^ 32 - 1 from rfl,Nat.and_two_pow_sub_one_eq_mod]
theorem VY {a b:UInt64} (h:Cn.high a=Cn.high b):a=b:=by
 have h:=VD h
 have key:∀n:Nat,UInt8.ofInt ((dD a n).toNat:Int)=UInt8.ofInt ((dD b n).toNat:Int)→a.toNat / 2 ^ n % 256=b.toNat / 2 ^ n % 256:=by
  intro n e
  have e1:=rO ((dD a n).toNat:Int)
  have e2:=rO ((dD b n).toNat:Int)
  rw [e] at e1
  rw [e1,wrap_u8',wrap_u8',Vz,Vz] at e2
  omega
 unfold Cn.b8 at h
 simp only [aX,List.map_nil,bt,and_true] at h
 obtain ⟨a0,a1,a2,a3,a4,a5,a6,a7⟩:=h
 have k0:=key _ a0
 have k1:=key _ a1
 have k2:=key _ a2
 have k3:=key _ a3
 have k4:=key _ a4
 have k5:=key _ a5
 have k6:=key _ a6
 have k7:=key _ a7
 have z1:=a.toNat_lt
 have z2:=b.toNat_lt
 refine bn.1 ?_
 clear a0 a1 a2 a3 a4 a5 a6 a7 key
 generalize a.toNat=x at *
 generalize b.toNat=y at *
 simp only [Nat.reducePow] at *
 have s0:x / 72057594037927936=y / 72057594037927936:=by omega
 have s1:x / 281474976710656=y / 281474976710656:=by clear k2 k3 k4 k5 k6 k7;omega
 have s2:x / 1099511627776=y / 1099511627776:=by clear s0 k1 k3 k4 k5 k6 k7;omega
 have s3:x / 4294967296=y / 4294967296:=by clear s0 s1 k1 k2 k4 k5 k6 k7;omega
 have s4:x / 16777216=y / 16777216:=by clear s0 s1 s2 k1 k2 k3 k5 k6 k7;omega
 have s5:x / 65536=y / 65536:=by clear s0 s1 s2 s3 k1 k2 k3 k4 k6 k7;omega
 have s6:x / 256=y / 256:=by clear s0 s1 s2 s3 s4 k1 k2 k3 k4 k5 k7;omega
 clear s0 s1 s2 s3 s4 s5 k1 k2 k3 k4 k5 k6;omega
theorem X4 (a:UInt64):(Cn.b8 a).length=8:=rfl
theorem Wn:∀a:bz,(lE.text a).length=2 * a.length
 | []=>rfl
 | x :: r=>by rw [lE.text,ao,Wn r];simp [lE.two];omega
theorem V8 (a:UInt64):(Cn.high a).length=16:=by unfold Cn.high;rw [Wn,X4]
theorem Xj {a b:Int} (ha:0≤a∧a≤255) (hb:0≤b∧b≤255) (h:lE.text [UInt8.ofInt a]=lE.text [UInt8.ofInt b]):a=b:=by
 have h:=VD h
 have e1:=rO a
 have e2:=rO b
 rw [(List.cons.inj h).1,e2,wrap_u8',wrap_u8'] at e1
 omega
theorem Ve {n n':bz} {j j':bM} (h:Cn.one n j=Cn.one n' j'):n=n'∧j=j':=by
 unfold Cn.one at h
 simp only [bM.mk.injEq,bt,and_true,true_and] at h
 cases j;cases j'
 simp only [Mem.of,Mem.mk.injEq] at h
 exact ⟨h.1,by rw [h.2.1,h.2.2.1,h.2.2.2]⟩
theorem Vx {n n' m m':bz} {j j' k k':bM} (h:Cn.two n j m k=Cn.two n' j' m' k'):j=j'∧k=k':=by
 unfold Cn.two at h
 simp only [bM.mk.injEq,bt,and_true,true_and] at h
 cases j;cases j';cases k;cases k'
 simp only [Mem.of,Mem.mk.injEq] at h
 exact ⟨by rw [h.1.2.1,h.1.2.2.1,h.1.2.2.2],by rw [h.2.2.1,h.2.2.2.1,h.2.2.2.2]⟩
theorem str_inj {s s':bz} (h:Cn.str s=Cn.str s'):s=s':=by unfold Cn.str at h;exact (bM.mk.inj h).2.1
theorem WB {a b:Int} (h:Cn.num a=Cn.num b):a=b:=by unfold Cn.num at h;exact VC (bM.mk.inj h).2.1
theorem Vn {v:Val} (h:Tree.own v=0):Tree.name v.kind≠[]∧Tree.j7 v=true:=by
 unfold Tree.own at h
 by_cases c:Tree.name v.kind=[]
 ·rw [aw c] at h;exact absurd h (by decide)
 ·rw [au c] at h
  refine ⟨c,?_⟩
  cases d:Tree.j7 v with
  | true=>rfl
  | false=>rw [aw d] at h;exact absurd h (by decide)
theorem WG {k:Int} (h:Tree.name k≠[]):(1≤k∧k≤19)∨k=127∨k=255:=by
 unfold Tree.name at h
 by_cases c1:k=127
 ·exact .inr (.inl c1)
 by_cases c2:k=255
 ·exact .inr (.inr c2)
 rw [au c1,au c2] at h
 by_cases c3:k<0∨20≤k
 ·rw [aw c3] at h;exact (h rfl).elim
 ·rw [au c3] at h
  by_cases c4:k=0
  ·subst c4;exact (h rfl).elim
  ·left;omega
theorem Vo {v:Val} (h:Tree.j7 v=true):(Tree.xH 0 v.kind=true∨v.bits=0)∧(Tree.xH 1 v.kind=true∨(v.high=0∧v.low=0))∧(Tree.xH 2 v.kind=true∨v.text=[])∧(Tree.xH 3 v.kind=true∨v.more=[])∧(Tree.xH 4 v.kind=true∨v.sub=0)∧(Tree.xH 5 v.kind=true∨v.bytes=[])∧(Tree.xH 6 v.kind=true∨v.kids=[])∧(v.kind=16→v.bits<4294967296)∧(v.kind=8→v.bits<2)∧0≤v.sub∧v.sub≤255:=by
 unfold Tree.j7 at h
 simp only [ah,Bool.or_eq_true,aA,Bool.not_eq_true',decide_eq_false_iff_not] at h
 obtain ⟨⟨⟨⟨⟨⟨⟨⟨⟨⟨h0,h1⟩,h2⟩,h3⟩,h4⟩,h5⟩,h6⟩,h7⟩,h8⟩,h9⟩,_⟩:=h
 exact ⟨h0,h1,h2,h3,h4,h5,h6,fun e=>h7.resolve_left (fun w=>w e),fun e=>h8.resolve_left (fun w=>w e),h9.1,h9.2⟩
theorem jH {v v':Val} (k:v.kind=v'.kind) (h:Tree.j7 v=true) (h':Tree.j7 v'=true)
  (a0:Tree.xH 0 v.kind=true→v.bits=v'.bits) (a1:Tree.xH 1 v.kind=true→v.high=v'.high∧v.low=v'.low) (a2:Tree.xH 2 v.kind=true→v.text=v'.text) (a3:Tree.xH 3 v.kind=true→v.more=v'.more)
  (a4:Tree.xH 4 v.kind=true→v.sub=v'.sub) (a5:Tree.xH 5 v.kind=true→v.bytes=v'.bytes) (a6:Tree.xH 6 v.kind=true→v.kids=v'.kids):v=v':=by
 obtain ⟨b0,b1,b2,b3,b4,b5,b6,_⟩:=Vo h
 obtain ⟨c0,c1,c2,c3,c4,c5,c6,_⟩:=Vo h'
 rw [←k] at c0 c1 c2 c3 c4 c5 c6
 have d:∀{A:Type} {x:Bool} {a b z:A},(x=true∨a=z)→(x=true∨b=z)→(x=true→a=b)→a=b:=by
  intro A x a b z p q r
  cases x with
  | true=>exact r rfl
  | false=>rw [p.resolve_left (by simp),q.resolve_left (by simp)]
 have e0:=d b0 c0 a0
 have e1:=d (b1.imp id (·.1)) (c1.imp id (·.1)) fun w=>(a1 w).1
 have B4:=d (b1.imp id (·.2)) (c1.imp id (·.2)) fun w=>(a1 w).2
 have e2:=d b2 c2 a2
 have e3:=d b3 c3 a3
 have e4:=d b4 c4 a4
 have e5:=d b5 c5 a5
 have e6:=d b6 c6 a6
 cases v;cases v'
 simp only at *
 subst k e0 e1 B4 e2 e3 e4 e5 e6
 rfl
end Go.Eng
set_option maxRecDepth 20000
namespace Go.Eng
open Go.IntWalk
def Vi (j:bM):Int :=
 if j.kind=1 then 10 else if j.kind=2∨j.kind=3 then 8 else if j.kind=5 then 2 else if j.kind=6 then 4
 else match j.kids with
  | []=>3
  | m :: r =>
   if m.name=[36,110,117,109,98,101,114,68,111,117,98,108,101]∨m.name=[36,100,111,117,98,108,101,66,105,116,115] then 1
   else if m.name=[36,98,105,110,97,114,121] then 5
   else if m.name=[36,117,110,100,101,102,105,110,101,100] then 6
   else if m.name=[36,111,105,100] then 7
   else if m.name=[36,100,97,116,101] then 9
   else if m.name=[36,114,101,103,117,108,97,114,69,120,112,114,101,115,115,105,111,110] then 11
   else if m.name=[36,100,98,80,111,105,110,116,101,114] then 12
   else if m.name=[36,99,111,100,101] then (if r=[] then 13 else 15)
   else if m.name=[36,115,121,109,98,111,108] then 14
   else if m.name=[36,110,117,109,98,101,114,73,110,116] then 16
   else if m.name=[36,116,105,109,101,115,116,97,109,112] then 17
   else if m.name=[36,110,117,109,98,101,114,76,111,110,103] then 18
   else if m.name=[36,110,117,109,98,101,114,68,101,99,105,109,97,108]∨m.name=[36,100,101,99,105,109,97,108,66,105,116,115] then 19
   else if m.name=[36,109,97,120,75,101,121] then 127
   else if m.name=[36,109,105,110,75,101,121] then 255
   else if m.name=[36,97,114,114,97,121] then 4
   else 3
theorem Xi {m:Mem} {r:List Mem} (h:m.name.take 1≠[36]):Vi ⟨7,[],m :: r⟩=3:=by
 have n:∀s:bz,m.name≠36 :: s:=fun s e=>h (by rw [e];rfl)
 unfold Vi
 simp only [n,or_self,if_false]
 simp
theorem W3 (v:Val) (h:Tree.name v.kind≠[]) (h3:v.kind≠3) (h4:v.kind≠4) (o8:v.kind≠15) (hb:v.kind=8→v.bits<2):Vi (Cn.xl v)=v.kind:=by
 have hk:=WG h
 unfold Cn.xl
 by_cases c6:v.kind=6
 ·rw [aw c6,c6];rfl
 rw [au c6]
 by_cases c8:v.kind=8
 ·rw [aw c8,c8]
  have:=hb c8
  rw [aV] at this
  have:v.bits=0∨v.bits=1:=by
   have:v.bits.toNat<2:=this
   rcases (show v.bits.toNat=0∨v.bits.toNat=1 by omega) with e | e
   ·exact .inl (bn.1 e)
   ·exact .inr (bn.1 e)
  rcases this with e | e <;> rw [e] <;> decide +kernel
 rw [au c8]
 by_cases W2:v.kind=10
 ·rw [aw W2,W2];rfl
 rw [au W2]
 by_cases VK:v.kind=255
 ·rw [aw VK,VK];simp [Vi,Cn.one,Mem.of,Mem.name]
 rw [au VK]
 by_cases VL:v.kind=127
 ·rw [aw VL,VL];simp [Vi,Cn.one,Mem.of,Mem.name]
 rw [au VL]
 unfold Cn.nW
 by_cases c1:v.kind=1
 ·rw [aw c1]
  cases (decide (Sh.text v.bits=[78,97,78])&&!decide (v.bits=9221120237041090560)) <;> simp [Vi,Cn.one,Mem.of,Mem.name,c1]
 rw [au c1]
 by_cases c9:v.kind=9
 ·rw [aw c9,c9];simp [Vi,Cn.one,Mem.of,Mem.name]
 rw [au c9]
 by_cases Ws:v.kind=16
 ·rw [aw Ws,Ws];simp [Vi,Cn.one,Mem.of,Mem.name]
 rw [au Ws]
 by_cases WM:v.kind=18
 ·rw [aw WM,WM];simp [Vi,Cn.one,Mem.of,Mem.name]
 rw [au WM]
 by_cases WN:v.kind=17
 ·rw [aw WN,WN];simp [Vi,Cn.one,Mem.of,Mem.name]
 rw [au WN]
 by_cases WL:v.kind=19
 ·rw [aw WL]
  cases Cn.pX v.high v.low <;> simp [Vi,Cn.one,Mem.of,Mem.name,WL]
 rw [au WL,au (by simp)]
 unfold Cn.qM
 by_cases c5:v.kind=5
 ·rw [aw c5,c5];simp [Vi,Cn.one,Mem.of,Mem.name]
 rw [au c5]
 by_cases c7:v.kind=7
 ·rw [aw c7,c7];simp [Vi,Cn.one,Mem.of,Mem.name]
 rw [au c7]
 by_cases W1:v.kind=11
 ·rw [aw W1,W1];simp [Vi,Cn.one,Mem.of,Mem.name]
 rw [au W1]
 by_cases W0:v.kind=12
 ·rw [aw W0,W0];simp [Vi,Cn.one,Mem.of,Mem.name]
 rw [au W0]
 by_cases WQ:v.kind=13
 ·rw [aw WQ,WQ];simp [Vi,Cn.one,Mem.of,Mem.name]
 rw [au WQ]
 by_cases WO:v.kind=14
 ·rw [aw WO,WO];simp [Vi,Cn.one,Mem.of,Mem.name]
 rw [au WO,show v.kind=2 by omega];simp [Vi,Cn.str]
theorem Wd {n n':bz} {j j':bM} (h:n≠n'):Cn.one n j≠Cn.one n' j':=fun e=>h (Ve e).1
theorem W8 {v v':Val} (k:v.kind=v'.kind) (o:Tree.own v=0) (o':Tree.own v'=0) (h3:v.kind≠3) (h4:v.kind≠4) (o8:v.kind≠15) (h:Cn.xl v=Cn.xl v'):v=v':=by
 obtain ⟨n1,f1⟩:=Vn o
 obtain ⟨n2,f2⟩:=Vn o'
 have hk:=WG n1
 obtain ⟨_,_,_,_,_,_,_,Y1,b8,s0,s1⟩:=Vo f1
 obtain ⟨_,_,_,_,_,_,_,Ye,Yt,YP,YO⟩:=Vo f2
 rw [←k] at Ye Yt
 unfold Cn.xl at h
 rw [←k] at h
 -- NY a Kind YZ not have
 have no:∀{i:Nat} {k0:Int} {P:Prop},v.kind=k0→Tree.xH i k0=false→Tree.xH i v.kind=true→P:=fun e a b=>by rw [e,a] at b;exact absurd b (by decide)
 by_cases c6:v.kind=6
 ·exact jH k f1 f2 (no c6 rfl) (no c6 rfl) (no c6 rfl) (no c6 rfl) (no c6 rfl) (no c6 rfl) (no c6 rfl)
 rw [au c6,au c6] at h
 by_cases c8:v.kind=8
 ·rw [aw c8,aw c8] at h
  have h:=(bM.mk.inj h).1
  have q1:=b8 c8
  have q2:=Yt c8
  rw [aV] at q1 q2
  have q1:v.bits.toNat<2:=q1
  have q2:v'.bits.toNat<2:=q2
  refine jH k f1 f2 (fun _=>?_) (no c8 rfl) (no c8 rfl) (no c8 rfl) (no c8 rfl) (no c8 rfl) (no c8 rfl)
  unfold Cn.i64 at h
  rw [Xy,Xy,Xy,Xy] at h
  refine bn.1 ?_
  rcases (show v.bits.toNat=0∨v.bits.toNat=1 by omega) with e | e <;> rcases (show v'.bits.toNat=0∨v'.bits.toNat=1 by omega) with e' | e' <;> rw [e,e'] at h <;> first | exact e.trans e'.symm | exact absurd h (by decide)
 rw [au c8,au c8] at h
 by_cases W2:v.kind=10
 ·exact jH k f1 f2 (no W2 rfl) (no W2 rfl) (no W2 rfl) (no W2 rfl) (no W2 rfl) (no W2 rfl) (no W2 rfl)
 rw [au W2,au W2] at h
 by_cases VK:v.kind=255
 ·exact jH k f1 f2 (no VK rfl) (no VK rfl) (no VK rfl) (no VK rfl) (no VK rfl) (no VK rfl) (no VK rfl)
 rw [au VK,au VK] at h
 by_cases VL:v.kind=127
 ·exact jH k f1 f2 (no VL rfl) (no VL rfl) (no VL rfl) (no VL rfl) (no VL rfl) (no VL rfl) (no VL rfl)
 rw [au VL,au VL] at h
 unfold Cn.nW at h
 rw [←k] at h
 by_cases c1:v.kind=1
 ·refine jH k f1 f2 (fun _=>?_) (no c1 rfl) (no c1 rfl) (no c1 rfl) (no c1 rfl) (no c1 rfl) (no c1 rfl)
  rw [aw c1,aw c1] at h
  cases e:(decide (Sh.text v.bits=[78,97,78])&&!decide (v.bits=9221120237041090560)) <;> cases e':(decide (Sh.text v'.bits=[78,97,78])&&!decide (v'.bits=9221120237041090560)) <;> rw [e,e'] at h
  ·have h:=str_inj (Ve h).2
   simp only [Bool.and_eq_false_iff,decide_eq_false_iff_not,Bool.not_eq_false',aA] at e e'
   by_cases g:(Nr.split v.bits).1=4
   ·rw [Sh.CH g] at h e
    rw [←h] at e'
    rw [e.resolve_left (fun w=>w rfl),e'.resolve_left (fun w=>w rfl)]
   ·by_cases g':(Nr.split v'.bits).1=4
    ·rw [Sh.CH g'] at h e'
     rw [h] at e
     rw [e.resolve_left (fun w=>w rfl),e'.resolve_left (fun w=>w rfl)]
    ·exact Xq g g' h
  ·exact (Wd (by decide) h).elim
  ·exact (Wd (by decide) h).elim
  ·exact VY (str_inj (Ve h).2)
 rw [au c1,au c1] at h
 by_cases c9:v.kind=9
 ·rw [aw c9,aw c9] at h
  exact jH k f1 f2 (fun _=>VQ (VC (str_inj (Ve (Ve h).2).2))) (no c9 rfl) (no c9 rfl) (no c9 rfl) (no c9 rfl) (no c9 rfl) (no c9 rfl)
 rw [au c9,au c9] at h
 by_cases Ws:v.kind=16
 ·rw [aw Ws,aw Ws] at h
  exact jH k f1 f2 (fun _=>Xn (Y1 Ws) (Ye Ws) (VC (str_inj (Ve h).2))) (no Ws rfl) (no Ws rfl) (no Ws rfl) (no Ws rfl) (no Ws rfl) (no Ws rfl)
 rw [au Ws,au Ws] at h
 by_cases WM:v.kind=18
 ·rw [aw WM,aw WM] at h
  exact jH k f1 f2 (fun _=>VQ (VC (str_inj (Ve h).2))) (no WM rfl) (no WM rfl) (no WM rfl) (no WM rfl) (no WM rfl) (no WM rfl)
 rw [au WM,au WM] at h
 by_cases WN:v.kind=17
 ·rw [aw WN,aw WN] at h
  obtain ⟨t1,t2⟩:=Vx (Ve h).2
  have t1:=congrArg UInt64.toNat (VQ (WB t1))
  have t2:=congrArg UInt64.toNat (VQ (WB t2))
  rw [Vz,Vz] at t1
  rw [X2,X2] at t2
  exact jH k f1 f2 (fun _=>bn.1 (by omega)) (no WN rfl) (no WN rfl) (no WN rfl) (no WN rfl) (no WN rfl) (no WN rfl)
 rw [au WN,au WN] at h
 by_cases WL:v.kind=19
 ·rw [aw WL,aw WL] at h
  refine jH k f1 f2 (no WL rfl) (fun _=>?_) (no WL rfl) (no WL rfl) (no WL rfl) (no WL rfl) (no WL rfl)
  cases e:Cn.pX v.high v.low <;> cases e':Cn.pX v'.high v'.low <;> rw [e,e'] at h
  ·have h:=str_inj (Ve h).2
   obtain ⟨g1,g2⟩:=List.append_inj h (by rw [V8,V8])
   exact ⟨VY g1,VY g2⟩
  ·exact (Wd (by decide) h).elim
  ·exact (Wd (by decide) h).elim
  ·exact WX e e' (str_inj (Ve h).2)
 rw [au WL,au WL,au (by simp),au (by simp)] at h
 unfold Cn.qM at h
 rw [←k] at h
 by_cases c5:v.kind=5
 ·rw [aw c5,aw c5] at h
  obtain ⟨t1,t2⟩:=Vx (Ve h).2
  exact jH k f1 f2 (no c5 rfl) (no c5 rfl) (no c5 rfl) (no c5 rfl) (fun _=>Xj ⟨s0,s1⟩ ⟨YP,YO⟩ (str_inj t2)) (fun _=>Wr (str_inj t1)) (no c5 rfl)
 rw [au c5,au c5] at h
 by_cases c7:v.kind=7
 ·rw [aw c7,aw c7] at h
  exact jH k f1 f2 (no c7 rfl) (no c7 rfl) (no c7 rfl) (no c7 rfl) (no c7 rfl) (fun _=>VD (str_inj (Ve h).2)) (no c7 rfl)
 rw [au c7,au c7] at h
 by_cases W1:v.kind=11
 ·rw [aw W1,aw W1] at h
  obtain ⟨t1,t2⟩:=Vx (Ve h).2
  exact jH k f1 f2 (no W1 rfl) (no W1 rfl) (fun _=>str_inj t1) (fun _=>str_inj t2) (no W1 rfl) (no W1 rfl) (no W1 rfl)
 rw [au W1,au W1] at h
 by_cases W0:v.kind=12
 ·rw [aw W0,aw W0] at h
  obtain ⟨t1,t2⟩:=Vx (Ve h).2
  exact jH k f1 f2 (no W0 rfl) (no W0 rfl) (fun _=>str_inj t1) (no W0 rfl) (no W0 rfl) (fun _=>VD (str_inj (Ve t2).2)) (no W0 rfl)
 rw [au W0,au W0] at h
 by_cases WQ:v.kind=13
 ·rw [aw WQ,aw WQ] at h
  exact jH k f1 f2 (no WQ rfl) (no WQ rfl) (fun _=>str_inj (Ve h).2) (no WQ rfl) (no WQ rfl) (no WQ rfl) (no WQ rfl)
 rw [au WQ,au WQ] at h
 by_cases WO:v.kind=14
 ·rw [aw WO,aw WO] at h
  exact jH k f1 f2 (no WO rfl) (no WO rfl) (fun _=>str_inj (Ve h).2) (no WO rfl) (no WO rfl) (no WO rfl) (no WO rfl)
 rw [au WO,au WO] at h
 have c2:v.kind=2:=by omega
 exact jH k f1 f2 (no c2 rfl) (no c2 rfl) (fun _=>str_inj h) (no c2 rfl) (no c2 rfl) (no c2 rfl) (no c2 rfl)
end Go.Eng
set_option maxRecDepth 20000
namespace Go.Eng
open Go.IntWalk
theorem Wu {v:Val} {n:bz} (h:Tree.tH v n=0):Tree.own v=0:=by
 unfold Tree.tH at h
 by_cases c:Tree.own v=0
 ·exact c
 ·rw [aw c] at h;exact (c h).elim
theorem Vw {n:bz} {k:Int} {b h l:UInt64} {t m:bz} {s:Int} {y:bz} {ks:List bJ} {p:List Int} (c:(Tree.iT (.mk n k b h l t m s y ks) p).2=0):Tree.own ⟨k,b,h,l,t,m,s,y,ks⟩=0∧(Tree.sZ ks 0 p).2=0:=by
 rw [Tree.iT] at c
 by_cases d:Tree.tH ⟨k,b,h,l,t,m,s,y,ks⟩ n=0
 ·rw [au (by simp [d])] at c
  exact ⟨Wu d,c⟩
 ·rw [aw d] at c;exact (d c).elim
theorem V1 {f:bJ} {r:List bJ} {i:Nat} {p:List Int} (c:(Tree.sZ (f :: r) i p).2=0):(Tree.iT f (p++[(i:Int)])).2=0∧(Tree.sZ r (i+1) p).2=0:=by
 rw [Tree.sZ] at c
 by_cases d:(Tree.iT f (p++[(i:Int)])).2=0
 ·rw [au (by simp [d])] at c;exact ⟨d,c⟩
 ·rw [aw d] at c;exact (d c).elim
theorem Vl:∀l:List bJ,(Cn.fM l).map Mem.val=l.map Cn.nZ
 | []=>by simp [Cn.fM]
 | f :: r=>by rw [Cn.fM,aX,aX,Vl r];rfl
theorem Vf:∀l:List bJ,(Cn.fM l).map Mem.name=l.map bJ.name
 | []=>by simp [Cn.fM]
 | f :: r=>by rw [Cn.fM,aX,aX,Vf r];rfl
theorem VO (l:List Mem):(l.map Cn.sz).map Mem.val=l.map Mem.val:=by
 rw [List.map_map]
 exact List.map_congr_left fun m _=>rfl
theorem We:∀{l l':List bJ},l.map bJ.name=l'.map bJ.name→l.map bJ.val=l'.map bJ.val→l=l'
 | [],[],_,_=>rfl
 | [],_ :: _,h,_=>by simp at h
 | _ :: _,[],h,_=>by simp at h
 | f :: r,g :: r',h,h'=>by
  simp only [aX,bt] at h h'
  rw [We h.2 h'.2]
  congr 1
  have e:=h'.1
  have e0:=h.1
  cases f;cases g
  simp only [bJ.name,bJ.val,bJ.kind,bJ.bits,bJ.high,bJ.low,bJ.text,bJ.more,bJ.sub,bJ.bytes,bJ.kids,Val.mk.injEq] at e e0
  obtain ⟨e1,e2,e3,e4,e5,e6,e7,e8,e9⟩:=e
  subst e0 e1 e2 e3 e4 e5 e6 e7 e8 e9
  rfl
theorem Vu:∀(l l':List bJ) (i:Nat),Tree.lh i l=true→Tree.lh i l'=true→l.length=l'.length→l.map bJ.name=l'.map bJ.name
 | [],[],_,_,_,_=>rfl
 | [],_ :: _,_,_,_,h=>by simp at h
 | _ :: _,[],_,_,_,h=>by simp at h
 | f :: r,g :: r',i,a,b,h=>by
  rw [Tree.lh,ah] at a b
  rw [aX,aX,ar a.1,ar b.1,Vu r r' (i+1) a.2 b.2 (by simpa using h)]
theorem Vg {k k':Int} {l l':List Mem} (h:(⟨k,[],l⟩:bM)=⟨k',[],l'⟩):k=k'∧l=l':=⟨(bM.mk.inj h).1,(bM.mk.inj h).2.2⟩
theorem VZ {ks:List bJ} {n:bz} {j:bM} (h:[Mem.of n j]=Cn.fM ks) (hn:n.take 1=[36]):Cn.mD ks=true:=by
 cases ks with
 | nil=>simp [Cn.fM] at h
 | cons f r =>
  have:=congrArg (List.map Mem.name) h
  rw [Vf] at this
  simp only [aX,List.map_nil,bt] at this
  have e:n=f.name:=this.1
  show decide (f.name.take 1=[36])=true
  rw [←e];exact aa hn
theorem WA (f:bJ) {p:List Int} (c:(Tree.iT f p).2=0):Vi (Cn.nZ f)=f.kind:=by
 cases f with
 | mk n k b h l t m s y ks =>
  obtain ⟨o,_⟩:=Vw c
  obtain ⟨n1,f1⟩:=Vn o
  rw [Cn.nZ]
  simp only [bJ.kind]
  by_cases c3:k=3
  ·rw [aw c3,c3]
   cases d:Cn.mD ks with
   | true=>simp [Vi,Cn.one,Mem.of,Mem.name]
   | false =>
    rw [ae]
    cases ks with
    | nil=>simp [Vi,Cn.fM]
    | cons f r =>
     rw [Cn.fM]
     unfold Cn.mD at d
     exact Xi (of_decide_eq_false d)
  rw [au c3]
  by_cases c4:k=4
  ·rw [aw c4,c4]
   cases Tree.regular ks <;> simp [Vi,Cn.one,Mem.of,Mem.name]
  rw [au c4]
  by_cases Wx:k=15
  ·rw [aw Wx,Wx];simp [Vi,Cn.two,Mem.of,Mem.name]
  rw [au Wx]
  exact W3 _ n1 c3 c4 Wx (Vo f1).2.2.2.2.2.2.2.2.1
mutual
theorem Wp:∀(f g:bJ) (p q:List Int),(Tree.iT f p).2=0→(Tree.iT g q).2=0→Cn.nZ f=Cn.nZ g→f.val=g.val
 | .mk n k b h l t m s y ks,.mk n' k' b' h' l' t' m' s' y' Sa,p,q,c,c',e=>by
  have hk:k=k':=by
   have e1:=WA _ c
   rw [e,WA _ c'] at e1
   exact e1.symm
  subst hk
  obtain ⟨o,cl⟩:=Vw c
  obtain ⟨o',Y0⟩:=Vw c'
  obtain ⟨n1,f1⟩:=Vn o
  obtain ⟨n2,f2⟩:=Vn o'
  have ih:=Wh ks Sa 0 0 p q cl Y0
  -- rows N8 Y6 alike
  have rows:Cn.fM ks=Cn.fM Sa→ks=Sa:=fun w=>by
   have w1:=congrArg (List.map Mem.name) w
   have w2:=congrArg (List.map Mem.val) w
   rw [Vf,Vf] at w1
   rw [Vl,Vl] at w2
   exact We w1 (ih w2)
  have ev:∀(n:bz) (k:Int) (b h l:UInt64) (t m:bz) (s:Int) (y:bz) (ks:List bJ),(bJ.mk n k b h l t m s y ks).val=⟨k,b,h,l,t,m,s,y,ks⟩:=fun _ _ _ _ _ _ _ _ _ _=>rfl
  rw [ev,ev]
  rw [Cn.nZ,Cn.nZ] at e
  have no:∀{i:Nat} {k0:Int} {P:Prop},k=k0→Tree.xH i k0=false→Tree.xH i k=true→P:=fun e a b=>by rw [e,a] at b;exact absurd b (by decide)
  by_cases c3:k=3
  ·rw [aw c3,aw c3] at e
   refine jH rfl f1 f2 (no c3 rfl) (no c3 rfl) (no c3 rfl) (no c3 rfl) (no c3 rfl) (no c3 rfl) (fun _=>rows ?_)
   cases d:Cn.mD ks <;> cases d':Cn.mD Sa <;> rw [d,d'] at e <;> simp only [ai,ae] at e
   ·exact (Vg e).2
   ·have:=VZ (Vg e.symm).2 (by rfl)
    rw [d] at this;exact absurd this (by decide)
   ·have:=VZ (Vg e).2 (by rfl)
    rw [d'] at this;exact absurd this (by decide)
   ·exact (Vg (Ve e).2).2
  rw [au c3,au c3] at e
  by_cases c4:k=4
  ·rw [aw c4,aw c4] at e
   refine jH rfl f1 f2 (no c4 rfl) (no c4 rfl) (no c4 rfl) (no c4 rfl) (no c4 rfl) (no c4 rfl) (fun _=>?_)
   cases d:Tree.regular ks <;> cases d':Tree.regular Sa <;> rw [d,d'] at e <;> simp only [ai,ae] at e
   ·exact rows (Vg (Ve e).2).2
   ·exact absurd (Vg e).1 (by decide)
   ·exact absurd (Vg e).1 (by decide)
   ·have w:=congrArg (List.map Mem.val) (Vg e).2
    rw [VO,VO,Vl,Vl] at w
    have hl:=congrArg List.length w
    simp only [bf] at hl
    exact We (Vu _ _ 0 d d' hl) (ih w)
  rw [au c4,au c4] at e
  by_cases Wx:k=15
  ·rw [aw Wx,aw Wx] at e
   obtain ⟨t1,t2⟩:=Vx e
   exact jH rfl f1 f2 (no Wx rfl) (no Wx rfl) (fun _=>str_inj t1) (no Wx rfl) (no Wx rfl) (no Wx rfl) (fun _=>rows (Vg t2).2)
  rw [au Wx,au Wx] at e
  exact W8 rfl o o' c3 c4 Wx e
theorem Wh:∀(l l':List bJ) (i j:Nat) (p q:List Int),(Tree.sZ l i p).2=0→(Tree.sZ l' j q).2=0→l.map Cn.nZ=l'.map Cn.nZ→l.map bJ.val=l'.map bJ.val
 | [],[],_,_,_,_,_,_,_=>rfl
 | [],_ :: _,_,_,_,_,_,_,h=>by simp at h
 | _ :: _,[],_,_,_,_,_,_,h=>by simp at h
 | f :: r,g :: r',i,j,p,q,c,c',h=>by
  obtain ⟨c1,c2⟩:=V1 c
  obtain ⟨c3,c4⟩:=V1 c'
  simp only [aX,bt] at h ⊢
  exact ⟨Wp f g _ _ c1 c3 h.1,Wh r r' _ _ p q c2 c4 h.2⟩
end
theorem WW {a b:Val} (ha:(Cn.jv a).2=0) (hb:(Cn.jv b).2=0) (h:Cn.jf a=Cn.jf b):a=b:=by
 have part:∀v:Val,(Cn.jv v).2=0→v.kind=3∧(Tree.iT (bJ.of [] v) []).2=0:=fun v h=>by
  unfold Cn.jv at h
  by_cases c:(Tree.iT (bJ.of [] v) []).2=0
  ·rw [au (by simp [c])] at h
   by_cases d:v.kind=3
   ·exact ⟨d,c⟩
   ·rw [au d] at h;exact absurd h (by decide)
  ·rw [aw c] at h;exact (c h).elim
 obtain ⟨ka,ca⟩:=part a ha
 obtain ⟨kb,cb⟩:=part b hb
 have e:Cn.oA a.kids=Cn.oA b.kids:=by
  unfold Cn.jf at h
  rw [aw ha,aw hb] at h;exact h
 have e2:=(Vg e).2
 have e3:Cn.nZ (bJ.of [] a)=Cn.nZ (bJ.of [] b):=by
  have hd:Cn.mD a.kids=Cn.mD b.kids:=by
   have w:=congrArg (List.map Mem.name) e2
   rw [Vf,Vf] at w
   cases x:a.kids with
   | nil =>
    cases y:b.kids with
    | nil=>rfl
    | cons _ _=>rw [x,y] at w;simp at w
   | cons f r =>
    cases y:b.kids with
    | nil=>rw [x,y] at w;simp at w
    | cons g r' =>
     rw [x,y] at w
     simp only [aX,bt] at w
     show decide (f.name.take 1=[36])=decide (g.name.take 1=[36])
     rw [w.1]
  simp only [bJ.of]
  rw [Cn.nZ,Cn.nZ,aw ka,aw kb,e2,hd]
 have:=Wp _ _ [] [] ca cb e3
 cases a;cases b;exact this
end Go.Eng
set_option maxRecDepth 20000
namespace Go.Eng
namespace Jp
def blank (c:UInt8):Bool:=decide (c=9∨c=10∨c=13∨c=32)
def Wj (c:UInt8):Bool:=Nr.dV c || List.contains [43,45,46,69,101] c
def four:Nat→Int→bz→Int
 | 0,v,_=>v
 | _+1,_,[]=>-2
 | n+1,v,c :: r=>if lE.digit c<0 then -1 else four n (v * 16+lE.digit c) r
def put (r:Int):bz :=
 if r<128 then [UInt8.ofInt r]
 else if r<2048 then [UInt8.ofInt (192+r / 64),UInt8.ofInt (128+r % 64)]
 else if r<65536 then [UInt8.ofInt (224+r / 4096),UInt8.ofInt (128+r / 64 % 64),UInt8.ofInt (128+r % 64)]
 else [UInt8.ofInt (240+r / 262144),UInt8.ofInt (128+r / 4096 % 64),UInt8.ofInt (128+r / 64 % 64),UInt8.ofInt (128+r % 64)]
def escape (c:UInt8):UInt8 :=
 if c=34 then 34 else if c=92 then 92 else if c=47 then 47 else if c=98 then 8 else if c=102 then 12 else if c=110 then 10 else if c=114 then 13 else if c=116 then 9 else 0
def Yj (r:bz):Option (Int × Nat) :=
 let v:=four 4 0 (r.drop 2)
 if 55296≤v∧v≤57343 then
  let w:=four 4 0 (r.drop 8)
  if 56320≤v∨(r.drop 6).take 2≠[92,117]∨w<56320∨57343<w then none else some (65536+(v - 55296) * 1024+w - 56320,12)
 else some (v,6)
abbrev R:=Tok × Int × Int
def no (e at_:Int):R:=(⟨0,0,0,[]⟩,e,at_)
def V2 (from_:Int):Nat→Int→bz→bz→R
 | 0,_,_,_=>no 2 from_
 | _+1,_,[],_=>no 2 from_
 | n+1,a,c :: r,acc =>
  if c=34 then (⟨8,from_,a+1,acc⟩,0,0)
  else if c<32 then no 3 a
  else if c≠92 then
   (if (fy.rune ((c :: r).take 4)).2=0 then no 4 a
   else V2 from_ n (a+(fy.rune ((c :: r).take 4)).2) ((c :: r).drop (fy.rune ((c :: r).take 4)).2.toNat) (acc++(c :: r).take (fy.rune ((c :: r).take 4)).2.toNat))
  else if r=[] then no 2 from_
  else if r.headD 0=117 then
   (if four 4 0 (r.drop 1)=-2 then no 2 from_
   else if four 4 0 (r.drop 1)=-1 then no 3 a
   else match Yj (c :: r) with
    | none=>no 4 a
    | some (v,k)=>V2 from_ n (a+k) ((c :: r).drop k) (acc++put v))
  else if escape (r.headD 0)=0 then no 3 a
  else V2 from_ n (a+2) (r.drop 1) (acc++[escape (r.headD 0)])
def plain (s:bz):Option (Int × Nat) :=
 if 0≤Lib.indexByte [123,125,91,93,58,44] (s.headD 0) then some (2+Lib.indexByte [123,125,91,93,58,44] (s.headD 0),1)
 else if List.isPrefixOf [116,114,117,101] s then some (10,4)
 else if List.isPrefixOf [102,97,108,115,101] s then some (11,5)
 else if List.isPrefixOf [110,117,108,108] s then some (12,4)
 else none
def V4 (s:bz) (a:Nat):R :=
 let r:=s.drop a
 if r=[] then (⟨1,a,a,[]⟩,0,0)
 else match plain r with
  | some (k,n)=>(⟨k,a,a+n,[]⟩,0,0)
  | none =>
   if r.headD 0=34 then V2 a r.length (a+1) (r.drop 1) []
   else if r.headD 0=45∨Nr.dV (r.headD 0)=true then
    (let t:=r.takeWhile Wj
    if Nr.iX t=0 then no 3 a
    else if 300<t.length then no 10 a
    else (⟨9,a,a+t.length,t⟩,0,0))
   else no 3 a
def WE (s:bz) (at_:Int):R :=
 if at_<0∨(s.length:Int)<at_ then no 1 0
 else V4 s (at_.toNat+((s.drop at_.toNat).takeWhile blank).length)
noncomputable def X1:{f:bz→Int→R // ∀s a,f s a=WE s a}:=Classical.choice ⟨⟨WE,fun _ _=>rfl⟩⟩
noncomputable def next (s:bz) (at_:Int):R:=X1.1 s at_
theorem Xk (s:bz) (at_:Int):next s at_=WE s at_:=X1.2 s at_
abbrev E:=Int × Int × Tok
noncomputable def Vs (s:bz) (at_:Int):Except E Tok:=if (next s at_).2.1=0 then .ok (next s at_).1 else .error ((next s at_).2.1,(next s at_).2.2,(next s at_).1)
def VT (t:Tok):E:=(if t.kind=1 then 2 else 3,t.at_,t)
mutual
noncomputable def value (s:bz) (d:Int):Nat→Tok→Int→Except E (bM × Int)
 | 0,t,_ => .error (VT t)
 | n+1,t,w =>
  if t.kind=12 then .ok (⟨1,[],[]⟩,t.end_)
  else if t.kind=11 then .ok (⟨2,[],[]⟩,t.end_)
  else if t.kind=10 then .ok (⟨3,[],[]⟩,t.end_)
  else if t.kind=9 then .ok (⟨4,t.text,[]⟩,t.end_)
  else if t.kind=8 then .ok (⟨5,t.text,[]⟩,t.end_)
  else if t.kind=2∨t.kind=4 then
   (if d≤w then .error (8,t.at_,t)
   else do
    let u ←Vs s t.end_
    if u.kind=t.kind+1 then .ok (⟨if t.kind=2 then 7 else 6,[],[]⟩,u.end_)
    else do
     let p ←loop s d n t.kind u (w+1) []
     .ok (⟨if t.kind=2 then 7 else 6,[],p.1⟩,p.2))
  else .error (VT t)
noncomputable def loop (s:bz) (d:Int):Nat→Int→Tok→Int→List Mem→Except E (List Mem × Int)
 | 0,_,t,_,_ => .error (VT t)
 | n+1,k,t,w,acc=>do
  let u ←(if k=2 then (if t.kind≠8 then .error (VT t) else do
    let c ←Vs s t.end_
    if c.kind≠6 then .error (VT c) else Vs s c.end_) else .ok t)
  let v ←value s d n u w
  let x ←Vs s v.2
  if x.kind=k+1 then .ok (acc++[Mem.of (if k=2 then t.text else []) v.1],x.end_)
  else if x.kind≠7 then .error (VT x)
  else do
   let y ←Vs s x.end_
   loop s d n k y w (acc++[Mem.of (if k=2 then t.text else []) v.1])
end
def fuel (s:bz):Nat:=2 * s.length+5
noncomputable def Vj (s:bz) (d:Int):bM × Int × Int :=
 if d<0∨1000<d then (⟨0,[],[]⟩,1,0)
 else match (do
   let t ←Vs s 0
   let v ←value s d (fuel s) t 0
   let x ←Vs s v.2
   if x.kind≠1 then .error (7,x.at_,x) else .ok v.1:Except E bM) with
  | .ok j=>(j,0,0)
  | .error e=>(⟨0,[],[]⟩,e.1,e.2.1)
noncomputable def VX:{f:bz→Int→bM × Int × Int // ∀s d,f s d=Vj s d}:=Classical.choice ⟨⟨Vj,fun _ _=>rfl⟩⟩
noncomputable def parse (s:bz) (d:Int):bM × Int × Int:=VX.1 s d
theorem Vr (s:bz) (d:Int):parse s d=Vj s d:=VX.2 s d
end Jp
end Go.Eng
