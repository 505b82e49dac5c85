/- Texts of my own, one behind the other: RxP12, RxP13, RxP14, RxP15, RxP16, RxN2, RxN3, RxN4, RxE1, RxE2, RxR1, RxM1, RxM2, RxM3, RxM4, RxM5, RxN5, RxM6, RxS1, RxS2, RxS3, RxS4, RxS5, RxFlip, RxQ1, RxQ2, RxQ3, RxQ4, RxQ5, RxQ6, RxQ7, RxQ8, RxUtfP, RxQ9, RxQ10, RxQ11, RxQ12, RxQ13, RxZ0. -/
import Derived.Test.YticoeljejdcofaaGreatDoorT4
import Derived.Lib.Mul64
set_option linter.unusedVariables false
set_option linter.unusedSimpArgs false
set_option maxRecDepth 20000
namespace Go.Eng
open Go.IntWalk Ieee
namespace Fl
theorem Ht {s:Bool} {X N d:Nat} (h:X=N * 2 ^ d):Toward.zero.cut s X d=N:=by
 have e:Toward.zero.cut s X d=X / (1 <<< min d (X.log2+2)):=by
  unfold Toward.cut
  simp
 rw [e,Nat.one_shiftLeft]
 rcases Nat.eq_zero_or_pos N with rfl | hN
 ·rw [h];simp
 ·have hl:X.log2=N.log2+d:=by rw [h];exact nK N d (by omega)
  rw [Nat.min_eq_left (by omega),h,Nat.mul_div_cancel _ (Nat.two_pow_pos d)]
theorem WD.integral {d:Datum} {n:Int} (h:WD d n):∃s,d.integral .zero = .number s n.natAbs 0∧(n<0→s=true)∧(0<n→s=false):=by
 obtain ⟨s,m,p,rfl,hv,h1,h2⟩:=h
 refine ⟨s,?_,h1,h2⟩
 show Datum.number s (Toward.zero.cut s (m <<< p.toNat) (-p).toNat) 0=_
 rw [Nat.shiftLeft_eq,Ht hv]
theorem WD.whole {s:Bool} {n:Int} (h1:n<0→s=true) (h2:0<n→s=false):WD (.number s n.natAbs 0) n:=⟨s,_,_,rfl,by unfold Val;simp,h1,h2⟩
theorem W.num {b:Nat} {n:Int} (h:W b n):Fl.num b=true:=by
 obtain ⟨s,m,p,hr,_⟩:=h
 show (!(double.read b).isNaN)=true
 rw [hr];rfl
theorem W.kU {b:Nat} {n:Int} (h:W b n) (hn:n.natAbs≤9007199254740992):W (Fl.kU b) n:=by
 obtain ⟨s,e,h1,h2⟩:=WD.integral h
 have e':(FloatKind.f64.decode b).integral .zero = .number s n.natAbs 0:=e
 unfold Fl.kU
 rw [e']
 exact (WD.whole h1 h2).write hn
theorem W.toInt {b:Nat} {n:Int} (h:W b n) (hn:n.natAbs≤9007199254740992):Fl.nv b=true∧Fl.toInt b=n:=by
 obtain ⟨s,e,h1,h2⟩:=WD.integral h
 have e':(FloatKind.f64.decode b).integral .zero = .number s n.natAbs 0:=e
 have e2:floatToIntVal .f64 b .i64=some n:=by
  unfold floatToIntVal Datum.toInt
  rw [e']
  have e3:signed s n.natAbs 0=n:=by
   have:=lN (s:=s) (m:=n.natAbs) (i:=0) (base:=0) (x:=n) (by unfold Val;simp) h1 h2 (by omega)
   simpa using this
  simp only [e3]
  have e4:IntKind.i64.min=-9223372036854775808:=by decide
  have e5:IntKind.i64.max=9223372036854775807:=by decide
  rw [e4,e5,au (by omega)]
 unfold Fl.nv Fl.toInt
 rw [e2]
 exact ⟨rfl,rfl⟩
theorem W.ofInt {n:Int} (hn:n.natAbs≤9007199254740992):W (Fl.ofInt n) n:=za n hn
theorem W.add {a b:Nat} {x y:Int} (ha:W a x) (hb:W b y) (h:(x+y).natAbs≤9007199254740992):Fl.lx a b=true∧W (Fl.add a b) (x+y):=by
 obtain ⟨r,e,hr⟩:=EL ha hb h
 unfold Fl.lx Fl.add
 rw [e];exact ⟨rfl,hr⟩
theorem W.sub {a b:Nat} {x y:Int} (ha:W a x) (hb:W b y) (h:(x - y).natAbs≤9007199254740992):Fl.sf a b=true∧W (Fl.sub a b) (x - y):=by
 obtain ⟨r,e,hr⟩:=Ds ha hb h
 unfold Fl.sf Fl.sub
 rw [e];exact ⟨rfl,hr⟩
theorem W.mul {a b:Nat} {x y:Int} (ha:W a x) (hb:W b y) (h:(x * y).natAbs≤9007199254740992):Fl.oH a b=true∧W (Fl.mul a b) (x * y):=by
 obtain ⟨r,e,hr⟩:=DV ha hb h
 unfold Fl.oH Fl.mul
 rw [e];exact ⟨rfl,hr⟩
theorem W.eq {a b:Nat} {x y:Int} (ha:W a x) (hb:W b y):Fl.eq a b=decide (x=y):=by
 unfold Fl.eq
 rw [ki ha hb]
 rcases Int.lt_trichotomy x y with c | c | c
 ·rw [Int.compare_eq_lt.2 c,ab (by omega)];rfl
 ·subst c;simp
 ·rw [Int.compare_eq_gt.2 c,ab (by omega)];rfl
theorem W.lt {a b:Nat} {x y:Int} (ha:W a x) (hb:W b y):Fl.lt a b=decide (x<y):=by
 unfold Fl.lt
 rw [ki ha hb]
 rcases Int.lt_trichotomy x y with c | c | c
 ·rw [Int.compare_eq_lt.2 c,aa c];rfl
 ·subst c;simp
 ·rw [Int.compare_eq_gt.2 c,ab (by omega)];rfl
theorem W.gt {a b:Nat} {x y:Int} (ha:W a x) (hb:W b y):Fl.gt a b=decide (y<x):=by
 unfold Fl.gt
 rw [ki ha hb]
 rcases Int.lt_trichotomy x y with c | c | c
 ·rw [Int.compare_eq_lt.2 c,ab (by omega)];rfl
 ·subst c;simp
 ·rw [Int.compare_eq_gt.2 c,aa c];rfl
theorem SB:W 4719772409484279808 33554432:=by
 have e:Fl.ofInt 33554432=4719772409484279808:=by decide +kernel
 rw [←e];exact W.ofInt (by decide)
theorem PE:W 4841369599423283200 4503599627370496:=by
 have e:Fl.ofInt 4503599627370496=4841369599423283200:=by decide +kernel
 rw [←e];exact W.ofInt (by decide)
theorem PF:W 4832362400168542208 1125899906842624:=by
 have e:Fl.ofInt 1125899906842624=4832362400168542208:=by decide +kernel
 rw [←e];exact W.ofInt (by decide)
theorem KT:W 14055734437023318016 (-1125899906842624):=by
 have e:Fl.ofInt (-1125899906842624)=14055734437023318016:=by decide +kernel
 rw [←e];exact W.ofInt (by decide)
theorem KU:W 0 0:=by
 have e:Fl.ofInt 0=0:=by decide +kernel
 rw [←e];exact W.ofInt (by decide)
theorem T9:W 4607182418800017408 1:=by
 have e:Fl.ofInt 1=4607182418800017408:=by decide +kernel
 rw [←e];exact W.ofInt (by decide)
theorem PD:W 13830554455654793216 (-1):=by
 have e:Fl.ofInt (-1)=13830554455654793216:=by decide +kernel
 rw [←e];exact W.ofInt (by decide)
end Fl
namespace Gz
theorem kP {z:Cx} {M:Nat}:vt z M=true ↔ In z M:=by classical exact (by unfold vt;exact decide_eq_true_iff)
theorem sX {l:Qd} {M:Nat}:ye l M=true ↔ KY l M:=by classical exact (by unfold ye;exact decide_eq_true_iff)
theorem CM {l:Qd}:LU l=true ↔ ∀k,k<4→UJ (part l (-1) k 4):=by unfold LU;simp only [aA]
theorem Bz {z:Cx} {b M:Nat} (h:In z M) (hb:Fl.W b (M:Int)) (hM:M≤9007199254740992):LS z b=true:=by
 classical
 unfold LS
 obtain ⟨x,y,h1,h2,h3⟩:=h
 exact aa ⟨x,y,M,h1,hb,by omega,by omega,by omega⟩
theorem In.le {z:Cx} {M N:Nat} (h:In z M) (hn:M≤N):In z N:=by
 obtain ⟨x,y,h1,h2,h3⟩:=h
 exact ⟨x,y,h1,by omega,by omega⟩
theorem Bp {z w:Cx} {x y u v:Int} (hz:Is z x y) (hw:Is w u v) (h1:(x * u).natAbs≤2251799813685248) (h2:(y * v).natAbs≤2251799813685248) (h3:(x * v).natAbs≤2251799813685248) (h4:(y * u).natAbs≤2251799813685248) :
  Fl.oR z.1 z.2 w.1 w.2=true∧Is (mul z w) (x * u - y * v) (x * v+y * u):=by
 obtain ⟨a1,b1⟩:=Fl.W.mul hz.1 hw.1 (by omega)
 obtain ⟨a2,b2⟩:=Fl.W.mul hz.2 hw.2 (by omega)
 obtain ⟨a3,b3⟩:=Fl.W.sub b1 b2 (by omega)
 obtain ⟨a4,b4⟩:=Fl.W.mul hz.1 hw.2 (by omega)
 obtain ⟨a5,b5⟩:=Fl.W.mul hz.2 hw.1 (by omega)
 obtain ⟨a6,b6⟩:=Fl.W.add b4 b5 (by omega)
 refine ⟨?_,b3,b6⟩
 unfold Fl.oR
 rw [a1,a2,a3,a4,a5,a6];rfl
theorem B0 {z w:Cx} {x y u v:Int} (hz:Is z x y) (hw:Is w u v) (h1:(x+u).natAbs≤9007199254740992) (h2:(y+v).natAbs≤9007199254740992):(Fl.lx z.1 w.1&&Fl.lx z.2 w.2)=true∧Is (add z w) (x+u) (y+v):=by
 obtain ⟨a1,b1⟩:=Fl.W.add hz.1 hw.1 h1
 obtain ⟨a2,b2⟩:=Fl.W.add hz.2 hw.2 h2
 rw [a1,a2]
 exact ⟨rfl,b1,b2⟩
def qU (k:Int):Int:=if k % 4=0 then 1 else if k % 4=2 then -1 else 0
def qV (k:Int):Int:=if k % 4=1 then 1 else if k % 4=3 then -1 else 0
theorem mQ (k:Int):qU k=0∨qU k=1∨qU k=-1:=by
 unfold qU
 split
 ·simp
 ·split <;> simp
theorem mR (k:Int):qV k=0∨qV k=1∨qV k=-1:=by
 unfold qV
 split
 ·simp
 ·split <;> simp
theorem Iw (k:Int):Is (unit k) (qU k) (qV k):=by
 have h:k % 4=0∨k % 4=1∨k % 4=2∨k % 4=3:=by omega
 unfold unit qU qV
 rcases h with h | h | h | h <;> rw [h]
 ·exact ⟨Fl.T9,Fl.KU⟩
 ·exact ⟨Fl.KU,Fl.T9⟩
 ·exact ⟨Fl.PD,Fl.KU⟩
 ·exact ⟨Fl.KU,Fl.PD⟩
theorem xa {z:Cx} {x y:Int} (k:Int) (hz:Is z x y) (hx:x.natAbs≤1125899906842624) (hy:y.natAbs≤1125899906842624) :
  Fl.oR z.1 z.2 (unit k).1 (unit k).2=true∧Is (ie z k) (x * qU k - y * qV k) (x * qV k+y * qU k):=by
 have hu:=Iw k
 have h1:qU k=0∨qU k=1∨qU k=-1:=mQ k
 have h2:qV k=0∨qV k=1∨qV k=-1:=mR k
 refine Bp hz hu ?_ ?_ ?_ ?_
 ·rcases h1 with e | e | e <;> rw [e] <;> omega
 ·rcases h2 with e | e | e <;> rw [e] <;> omega
 ·rcases h2 with e | e | e <;> rw [e] <;> omega
 ·rcases h1 with e | e | e <;> rw [e] <;> omega
theorem B7 {z:Cx} {k:Int} (h:In z 1125899906842624):In (ie z k) 2251799813685248:=by
 obtain ⟨x,y,hz,hx,hy⟩:=h
 refine ⟨_,_,(xa k hz hx hy).2,?_,?_⟩
 all_goals
  have h1:qU k=0∨qU k=1∨qU k=-1:=mQ k
  have h2:qV k=0∨qV k=1∨qV k=-1:=mR k
  rcases h1 with e | e | e <;> rcases h2 with f | f | f <;> rw [e,f] <;> omega
end Gz
theorem dE.goal (x:Nat) (hp:(Fl.num x)=true):dE.F x=some [.c (.float .f64 (Fl.kU x))]:=by
 rw [dE.dW,ah,hp];rfl
theorem fL.goal (z:Cx) (hp:(Gz.vt z 33554432)=true):fL.F z=some [.b true]:=by
 rw [fL.dW,Gz.Bz (Gz.kP.1 hp) Fl.SB (by omega)];rfl
theorem jN.goal (x y:Int) (hp:decide (-33554432≤x∧x≤33554432∧-33554432≤y∧y≤33554432)=true):jN.F x y=some [.c (.complex .f64 ((Fl.ofInt x,Fl.ofInt y):Cx).1 ((Fl.ofInt x,Fl.ofInt y):Cx).2)]:=by
 obtain ⟨h1,h2,h3,h4⟩:=aq hp
 refine jN.bY _ _ ?_
 intro v1 e1 v2 e2 v3 e3 v4 e4
 have d1:v1=false:=by rw [e1,ab (by omega),ae];exact ab (by omega)
 have d2:v2=false:=by rw [e2,d1,ae];exact ab (by omega)
 have d3:v3=false:=by rw [e3,d2,ae];exact ab (by omega)
 simp only [aW,bn,Bool.not_not,bU]
 rw [d3,ae,e4]
theorem fe.goal (z:Cx) (hp:(Gz.vt z 4503599627370496)=true):fe.F z=some [.i .i64 (Fl.toInt z.1),.i .i64 (Fl.toInt z.2),.b true]:=by
 have h:=Gz.kP.1 hp
 have hm:=Gz.Bz h Fl.PE (by omega)
 obtain ⟨x,y,hz,hx,hy⟩:=h
 rw [fe.dW,hm,(hz.1.toInt (by omega)).1,(hz.2.toInt (by omega)).1];rfl
theorem HZ (k:Int) (h1 : -100≤k) (h2:k≤100):cU .and .i64 k 3=k % 4:=by
 have:∀n:Nat,n<201→cU .and .i64 ((n:Int) - 100) 3=((n:Int) - 100) % 4:=by decide +kernel
 have:=this (k+100).toNat (by omega)
 rwa [show (((k+100).toNat:Nat):Int) - 100=k by omega] at this
theorem gN.goal (z:Cx) (k:Int) (hp:(Gz.vt z 1125899906842624&&decide (-100≤k∧k≤100))=true):gN.F z k=some [.c (.complex .f64 (Gz.ie z k).1 (Gz.ie z k).2)]:=by
 simp only [af,aA] at hp
 obtain ⟨h,k1,k2⟩:=hp
 have h:=Gz.kP.1 h
 have hm:=Gz.Bz (h.le (show 1125899906842624≤4503599627370496 by omega)) Fl.PE (by omega)
 obtain ⟨x,y,hz,hx,hy⟩:=h
 obtain ⟨c1,_⟩:=Gz.xa k hz hx hy
 refine gN.bY _ _ ?_
 intro v1 h1 v2 h2 v3 h3 v4 h4 v5 h5 v6 h6 v7 h7
 rw [HZ k k1 k2] at h5
 have e6:v6=Gz.unit k:=by rw [h6,h1,h2,h3,h4,h5];rfl
 rw [hm,bU,aG,ae,bx (bN (by omega) (by omega)),bx (aa (by omega)),e6,c1,bU,h7,e6]
 rfl
theorem fM.goal (z w:Cx) (hp:(Gz.vt z 33554432&&Gz.vt w 33554432)=true):fM.F z w=some [.c (.complex .f64 (Gz.mul z w).1 (Gz.mul z w).2)]:=by
 simp only [af] at hp
 obtain ⟨x,y,hz,hx,hy⟩:=Gz.kP.1 hp.1
 obtain ⟨u,v,hw,hu,hv⟩:=Gz.kP.1 hp.2
 have hm:∀a b:Int,a.natAbs≤33554432→b.natAbs≤33554432→(a * b).natAbs≤2251799813685248:=fun a b h1 h2=>by
  rw [Int.natAbs_mul]
  exact Nat.le_trans (Nat.mul_le_mul h1 h2) (by omega)
 obtain ⟨c1,_⟩:=Gz.Bp hz hw (hm _ _ hx hu) (hm _ _ hy hv) (hm _ _ hx hv) (hm _ _ hy hu)
 refine fM.bY _ _ ?_
 intro v1 h1 v2 h2
 have e1:v1=false:=h1
 rw [hp.1,hp.2,c1,e1,h2]
 rfl
theorem gF.goal (x:Nat) (hp:(Gz.Kp x)=true):gF.F x=some [.b true]:=by
 classical
 unfold Gz.Kp at hp
 obtain ⟨n,hn,hb⟩:=aq hp
 refine gF.bY _ ?_
 intro v1 h1 v2 h2 v3 h3
 have e1:v1=true:=by
  rw [h1,hn.gt Fl.KT,hn.eq Fl.KT]
  rcases Int.lt_or_eq_of_le (show (-1125899906842624:Int)≤n by omega) with c | c
  ·rw [aa c];rfl
  ·rw [aa c.symm,Bool.or_true]
 have e2:v2=true:=by
  rw [h2,hn.lt Fl.PF,hn.eq Fl.PF]
  rcases Int.lt_or_eq_of_le (show n≤(1125899906842624:Int) by omega) with c | c
  ·rw [aa c];rfl
  ·rw [aa c,Bool.or_true]
 have e3:v3=true:=by rw [h3,e1,e2,ah,ah,hn.eq (hn.kU (by omega)),aa rfl]
 rw [e1,e2,e3,hn.num]
 rfl
theorem Gz.In.parts {z:Cx} (h:Gz.In z 1125899906842624):Gz.Kp z.1=true∧Gz.Kp z.2=true:=by
 obtain ⟨x,y,h1,h2,h3⟩:=h
 classical
 unfold Gz.Kp
 exact ⟨aa ⟨x,h1.1,h2⟩,aa ⟨y,h1.2,h3⟩⟩
theorem Gz.KY.get {l:Qd} {M:Nat} (h:Gz.KY l M) (i:Nat) (hi:i<4):Gz.In (l.get i) M:=by
 obtain ⟨a,b,c,d⟩:=h
 have:i=0∨i=1∨i=2∨i=3:=by omega
 rcases this with rfl | rfl | rfl | rfl
 ·exact a
 ·exact b
 ·exact c
 ·exact d
theorem eW.cO (l:Qd) (h:Gz.KY l 1125899906842624):∀(m i:Nat),i+m=4→eW.l1 l i=some [.b true]:=by
 intro m
 induction m with
 | zero =>
  intro i hi
  refine eW.bX _ _ ?_
  intro v1 h1 v2 h2
  rw [ab (by omega),ae]
 | succ m ih =>
  intro i hi
  refine eW.bX _ _ ?_
  intro v1 h1 v2 h2
  have e1:v1=false:=h1
  have e2:v2=((i+1:Nat):Int):=by rw [h2,i64_in _ (by omega)];omega
  obtain ⟨p1,p2⟩:=(h.get i (by omega)).parts
  rw [aa (by omega),ah,bx (bN (by omega) (by omega)),ak,p1,p2,e1,e2]
  exact ih (i+1) (by omega)
theorem eW.goal (l:Qd) (hp:(Gz.ye l 1125899906842624)=true):eW.F l=some [.b true]:=by
 rw [eW.dW];exact eW.cO l (Gz.sX.1 hp) 4 0 (by omega)
theorem gG.goal (l:Qd) (hp:(Gz.ye l 1125899906842624)=true):gG.F l=some [.ag (Qd.cells (Gz.nx l 1))]:=by
 rw [gG.dW,hp];rfl
end Go.Eng
set_option maxRecDepth 20000
namespace Go.Eng
open Go.IntWalk
theorem Qd.Jy (q:Qd) (k:Nat) (x:Cx) (hk:k<4):(q.set k x).get k=x:=by
 have:k=0∨k=1∨k=2∨k=3:=by omega
 rcases this with rfl | rfl | rfl | rfl <;> rfl
theorem Qd.set_set (q:Qd) (k:Nat) (x y:Cx) (hk:k<4):(q.set k x).set k y=q.set k y:=by
 have:k=0∨k=1∨k=2∨k=3:=by omega
 rcases this with rfl | rfl | rfl | rfl <;> rfl
theorem Qd.IM (q:Qd) (k:Nat) (hk:k<4):q.set k (q.get k)=q:=by
 have:k=0∨k=1∨k=2∨k=3:=by omega
 rcases this with rfl | rfl | rfl | rfl <;> rfl
theorem Gz.Cr {l:Qd} (h:Gz.KY l 1125899906842624) (w:Int) (k:Nat):∀j,j≤4→Gz.In (Gz.part l w k j) (j * 2251799813685248)
 | 0,_=>⟨0,0,⟨Fl.KU,Fl.KU⟩,by omega,by omega⟩
 | j+1,hj=>by
  obtain ⟨x,y,h1,h2,h3⟩:=Gz.Cr h w k j (by omega)
  obtain ⟨u,v,g1,g2,g3⟩:=Gz.B7 (k:=j * k * w) (h.get j (by omega))
  obtain ⟨_,e⟩:=Gz.B0 h1 g1 (by omega) (by omega)
  exact ⟨_,_,e,by omega,by omega⟩
theorem cQ.jd (l:Qd) (w:Int) (h:Gz.KY l 1125899906842624) (hw:w=1∨w=-1) (k:Nat) (hk:k<4) (Z:Qd):∀(m j:Nat) (acc:Qd),j+m=4→acc.get k=Gz.part l w k j →
  cQ.l2 w k k l j l Z acc=cQ.l1 w ((k+1:Nat):Int) l Z (acc.set k (Gz.part l w k 4)):=by
 intro m
 induction m with
 | zero =>
  intro j acc hj ha
  refine cQ.iu _ _ _ _ _ _ _ _ ?_
  intro v1 h1 v2 h2 v3 h3 v4 h4 v5 h5
  obtain rfl:j=4:=by omega
  rw [ab (by omega),ae,←ha,Qd.IM _ _ hk,h5,i64_in _ (by omega)];rfl
 | succ m ih =>
  intro j acc hj ha
  refine cQ.iu _ _ _ _ _ _ _ _ ?_
  intro v1 h1 v2 h2 v3 h3 v4 h4 v5 h5
  rw [ak] at h2 h3
  have Th:((j:Int) * (k:Int))=((j * k:Nat):Int):=by rw [Int.natCast_mul]
  have VR:j * k≤3 * 3:=Nat.mul_le_mul (by omega) (by omega)
  have e1:v1=(j:Int) * k * w:=by
   rw [h1,Th,i64_in ((j * k:Nat):Int) (by omega)]
   rcases hw with rfl | rfl <;> rw [i64_in _ (by omega)]
  have b1 : -100≤v1∧v1≤100:=by
   rw [e1,Th]
   rcases hw with rfl | rfl <;> omega
  have e2:v2=Gz.ie (l.get j) ((j:Int) * k * w):=by rw [h2,e1]
  rw [ha] at h3
  obtain ⟨x,y,p1,p2,p3⟩:=Gz.Cr h w k j (by omega)
  obtain ⟨u,v,g1,g2,g3⟩:=Gz.B7 (k:=(j:Int) * k * w) (h.get j (by omega))
  obtain ⟨c1,_⟩:=Gz.B0 p1 g1 (by omega) (by omega)
  have e3:v3=Gz.part l w k (j+1):=by rw [h3,e2];rfl
  have e4:v4=((j+1:Nat):Int):=by rw [h4,i64_in _ (by omega)];omega
  have x1:bD (j:Int) 4=true:=bN (by omega) (by omega)
  have x2:bD (k:Int) 4=true:=bN (by omega) (by omega)
  have x3:decide ((k:Int).toNat<4)=true:=aa (by omega)
  rw [aa (show (j:Int)<4 by omega),ah,x1,x2,x3,ak,ak,Gz.kP.2 (h.get j (by omega)),aa b1,ha,e2,c1,e3,e4]
  simp only [aZ,bU]
  rw [ih (j+1) (acc.set k (Gz.part l w k (j+1))) (by omega) (Qd.Jy _ _ _ hk),Qd.set_set _ _ _ _ hk]
theorem cQ.goal (l:Qd) (w:Int) (hp:(Gz.ye l 1125899906842624&&decide (w=1∨w=-1))=true):cQ.F l w=some [.ag (Qd.cells (Gz.nx l w))]:=by
 simp only [af,aA] at hp
 obtain ⟨h,hw⟩:=hp
 have h:=Gz.sX.1 h
 have st:∀(k:Nat) (Z acc:Qd),k<4→acc.get k=(0,0)→cQ.l1 w k l Z acc=cQ.l1 w ((k+1:Nat):Int) l Z (acc.set k (Gz.part l w k 4)):=fun k Z acc hk ha=>by
  rw [cQ.zD,aa (by omega),ah]
  exact cQ.jd l w h hw k hk Z 4 0 acc (by omega) (by rw [ha];rfl)
 rw [cQ.dW]
 refine (st 0 _ _ (by omega) rfl).trans ?_
 refine (st 1 _ _ (by omega) rfl).trans ?_
 refine (st 2 _ _ (by omega) rfl).trans ?_
 refine (st 3 _ _ (by omega) rfl).trans ?_
 rw [cQ.zD,ab (by decide),ae]
 rfl
theorem Gz.tQ (l:Qd) (w:Int) (k:Nat) (hk:k<4):(Gz.nx l w).get k=Gz.part l w k 4:=by
 have:k=0∨k=1∨k=2∨k=3:=by omega
 rcases this with rfl | rfl | rfl | rfl <;> rfl
theorem ez.goal (l:Qd) (hp:(Gz.ye l 1125899906842624&&Gz.LU l)=true):ez.F l=some [.ag (Qd.cells (Gz.back l)),.b true]:=by
 simp only [af] at hp
 obtain ⟨h,h4⟩:=hp
 have hq:=h
 have h4:=Gz.CM.1 h4
 rw [ez.dW,hq,bU,aG,ae,Bool.true_and,bx (aa (.inr rfl))]
 have st:∀(k:Nat) (Y acc:Qd),k<4→ez.l1 (Gz.nx l (-1)) k Y acc=ez.l1 (Gz.nx l (-1)) ((k+1:Nat):Int) Y (acc.set k (Gz.quarter (Gz.part l (-1) k 4))):=fun k Y acc hk=>by
  refine ez.bX _ _ _ _ ?_
  intro v1 h1 v2 h2 v3 h3 v4 TJ v5 h5 v6 h6 v7 h7 v8 h8
  rw [ak,Gz.tQ l _ k hk] at h1 h2
  obtain ⟨x,y,p1,p2,p3⟩:=h4 k hk
  have e1:v1=4 * x:=by rw [h1];exact (p1.1.toInt (by omega)).2
  have e2:v2=4 * y:=by rw [h2];exact (p1.2.toInt (by omega)).2
  have m1:Int.tmod v1 4=0:=by rw [e1];exact Int.mul_tmod_right _ _
  have m2:Int.tmod v2 4=0:=by rw [e2];exact Int.mul_tmod_right _ _
  have e3:v3=false:=by rw [h3,m1];rfl
  have e4:v4=false:=by rw [TJ,e3,m2];rfl
  have d1:Int.tdiv v1 4=x:=by rw [e1];exact Int.mul_tdiv_cancel_left _ (by omega)
  have d2:Int.tdiv v2 4=y:=by rw [e2];exact Int.mul_tdiv_cancel_left _ (by omega)
  have e5:v5=Int.tdiv v1 4:=by rw [h5,i64_in _ (by rw [d1];omega)]
  have e6:v6=Int.tdiv v2 4:=by rw [h6,i64_in _ (by rw [d2];omega)]
  have e8:v8=((k+1:Nat):Int):=by rw [h8,i64_in _ (by omega)];omega
  have e7:v7=Gz.quarter (Gz.part l (-1) k 4):=by rw [h7,e5,e6,h1,h2];rfl
  have x1:bD (k:Int) 4=true:=bN (by omega) (by omega)
  have x2:decide ((k:Int).toNat<4)=true:=aa (by omega)
  have b1:Gz.vt (Gz.part l (-1) k 4) 4503599627370496=true:=Gz.kP.2 ⟨_,_,p1,by omega,by omega⟩
  rw [aa (show (k:Int)<4 by omega),ah,x1,x2,ak,Gz.tQ l _ k hk,b1,e3,e4,e7,e8]
  rfl
 refine (st 0 _ _ (by omega)).trans ?_
 refine (st 1 _ _ (by omega)).trans ?_
 refine (st 2 _ _ (by omega)).trans ?_
 refine (st 3 _ _ (by omega)).trans ?_
 refine ez.bX _ _ _ _ ?_
 intro v1 h1 v2 h2 v3 h3 v4 TJ v5 h5 v6 h6 v7 h7 v8 h8
 rw [ab (by decide),ae]
 rfl
theorem Gz.qG {l:List Int} (h:Gz.iT l=true) (i:Nat) (hi:i<l.length):0≤l.getD i 0∧l.getD i 0≤65535:=by
 unfold Gz.iT at h
 rw [ai,ar hi]
 simpa using aD.1 h _ (List.getElem_mem hi)
theorem cV.cO (l:List Int) (h:Gz.iT l=true) (hl:l.length≤256):∀(m i:Nat),i+m=l.length→cV.l1 l l l.length i=some [.b true]:=by
 intro m
 induction m with
 | zero =>
  intro i hi
  refine cV.bX _ _ _ _ ?_
  intro v1 h1 v2 h2 v3 h3
  rw [ab (by omega),ae,aa (by omega)]
 | succ m ih =>
  intro i hi
  refine cV.bX _ _ _ _ ?_
  intro v1 h1 v2 h2 v3 h3
  rw [ak] at h1
  have hd:=Gz.qG h i (by omega)
  rw [←h1] at hd
  have e2:v2=false:=by rw [h2,ab (by omega),ae];exact ab (by omega)
  have e3:v3=((i+1:Nat):Int):=by rw [h3,i64_in _ (by omega)];omega
  simp only [aW,bn,Bool.not_not,bU]
  rw [aa (by omega),ah,bx (bN (by omega) (by omega)),e2,ae,e3]
  exact ih (i+1) (by omega)
theorem cV.goal (l:List Int) (hp:(decide (l.length≤256)&&Gz.iT l)=true):cV.F l=some [.b true]:=by
 simp only [af,aA] at hp
 rw [cV.dW];exact cV.cO l hp.2 hp.1 l.length 0 (by omega)
theorem Gz.Bl {a:Int} (h:0≤a∧a≤65535):Gz.Is (Gz.yc a) a 0:=⟨Fl.W.ofInt (by omega),Fl.W.ofInt (n:=0) (by decide)⟩
theorem Gz.Bm {a:Int} (h:0≤a∧a≤65535):Gz.In (Gz.yc a) 1125899906842624:=⟨_,_,Gz.Bl h,by omega,by omega⟩
theorem Gz.sJ:Gz.Is (0,0) 0 0:=⟨Fl.KU,Fl.KU⟩
theorem Gz.p9:Gz.In (0,0) 1125899906842624:=⟨_,_,Gz.sJ,by omega,by omega⟩
theorem Gz.Bi (l:List Int) (i:Nat) (h:i<l.length):Gz.iE (l.drop i)=(if i+1<l.length then Gz.nx ⟨Gz.yc (l.getD i 0),Gz.yc (l.getD (i+1) 0),(0,0),(0,0)⟩ 1 else Gz.nx ⟨Gz.yc (l.getD i 0),(0,0),(0,0),(0,0)⟩ 1) :: Gz.iE (l.drop (i+2)):=by
 rw [drop_cons h 0]
 by_cases c:i+1<l.length
 ·rw [drop_cons c 0,Gz.iE,au c]
 ·rw [aC (i:=i+1) (by omega),aC (i:=i+2) (by omega),Gz.iE,ao c];rfl
theorem cK.cO (l:List Int) (h:Gz.iT l=true) (hl:l.length≤256):∀(m i:Nat) (acc:List Qd),l.length≤i+2 * m→i≤300→acc.length≤i→cK.l1 l acc i=some [.sl .qd (acc++Gz.iE (l.drop i))]:=by
 intro m
 induction m with
 | zero =>
  intro i acc hi OV ha
  refine cK.bX _ _ _ ?_
  intro v1 h1 v2 h2 v3 h3 v4 h4 v5 h5 v6 h6
  rw [ab (by omega),ae,aC (by omega),Gz.iE,bj]
 | succ m ih =>
  intro i acc hi OV ha
  refine cK.bX _ _ _ ?_
  intro v1 h1 v2 h2 v3 h3 v4 h4 v5 h5 v6 h6
  by_cases c0:i<l.length
  ·rw [ak] at h1
   have e3:v3=((i+1:Nat):Int):=by rw [h3,i64_in _ (by omega)];omega
   rw [e3,ak] at h4
   have hd:=Gz.qG h i (by omega)
   rw [←h1] at hd
   have jn:∀q:Qd,Gz.KY q 1125899906842624→cK.j2 l acc i q=some [.sl .qd (acc++[Gz.nx q 1]++Gz.iE (l.drop (i+2)))]:=fun q hq=>by
    refine cK.jx _ _ _ _ ?_
    intro u1 g1 u2 g2
    have e2:u2=((i+2:Nat):Int):=by rw [g2,i64_in _ (by omega)];omega
    rw [Gz.sX.2 hq,bU,bx (dP (by rw [ay];omega) (by rw [ay];omega)),g1,e2]
    exact ih (i+2) _ (by omega) (by omega) (by rw [aj,ay];omega)
   rw [aa (by omega),ah,bx (bN (by omega) (by omega)),bx (aa (by omega)),Gz.Bi l i c0]
   by_cases c:i+1<l.length
   ·have hd2:=Gz.qG h (i+1) c
    rw [←h4] at hd2
    rw [e3,aa (by omega),ah,bx (bN (by omega) (by omega)),bx (aa (by omega)),bx (bN (by omega) (by omega)),bx (by decide),au c]
    have e6:v6=⟨Gz.yc v1,Gz.yc v4,(0,0),(0,0)⟩:=by rw [h6,h5,h2];rfl
    rw [e6,jn _ ⟨Gz.Bm hd,Gz.Bm hd2,Gz.p9,Gz.p9⟩,←h1,←h4,aE];rfl
   ·rw [e3,ab (by omega),ae,ao c]
    have e6:(Qd.mk v2 (0,0) (0,0) (0,0))=⟨Gz.yc v1,(0,0),(0,0),(0,0)⟩:=by rw [h2];rfl
    rw [e6,jn _ ⟨Gz.Bm hd,Gz.p9,Gz.p9,Gz.p9⟩,←h1,aE];rfl
  ·rw [ab (by omega),ae,aC (by omega),Gz.iE,bj]
theorem cK.goal (l:List Int) (hp:(decide (l.length≤256)&&Gz.iT l)=true):cK.F l=some [.sl .qd (Gz.iE l)]:=by
 simp only [af,aA] at hp
 rw [cK.dW]
 have:=cK.cO l hp.2 hp.1 l.length 0 [] (by omega) (by omega) (by simp)
 rw [bh,bq] at this
 exact this
end Go.Eng
set_option maxRecDepth 20000
namespace Go.Eng
open Go.IntWalk
namespace Gz
def pre (X Y:Nat→Int) (w:Int) (k:Nat):Nat→Int
 | 0=>0
 | j+1=>pre X Y w k j+(X j * qU (j * k * w) - Y j * qV (j * k * w))
def I0 (X Y:Nat→Int) (w:Int) (k:Nat):Nat→Int
 | 0=>0
 | j+1=>I0 X Y w k j+(X j * qV (j * k * w)+Y j * qU (j * k * w))
theorem xj {l:Qd} {X Y:Nat→Int} {w:Int} {k:Nat} (h:∀j,j<4→Is (l.get j) (X j) (Y j)∧(X j).natAbs≤1125899906842624∧(Y j).natAbs≤1125899906842624) :
  ∀j,j≤4→Is (part l w k j) (pre X Y w k j) (I0 X Y w k j)∧(pre X Y w k j).natAbs≤j * 2251799813685248∧(I0 X Y w k j).natAbs≤j * 2251799813685248
 | 0,_=>⟨sJ,by show (0:Int).natAbs≤_;omega,by show (0:Int).natAbs≤_;omega⟩
 | j+1,hj=>by
  obtain ⟨i1,i2,i3⟩:=xj (w:=w) (k:=k) h j (by omega)
  obtain ⟨g1,g2,g3⟩:=h j (by omega)
  have t:=(xa (j * k * w) g1 g2 g3).2
  have b1:(X j * qU (j * k * w) - Y j * qV (j * k * w)).natAbs≤2251799813685248:=by
   rcases mQ (j * k * w) with e | e | e <;> rcases mR (j * k * w) with f | f | f <;> rw [e,f] <;> omega
  have b2:(X j * qV (j * k * w)+Y j * qU (j * k * w)).natAbs≤2251799813685248:=by
   rcases mQ (j * k * w) with e | e | e <;> rcases mR (j * k * w) with f | f | f <;> rw [e,f] <;> omega
  show Is (add (part l w k j) (ie (l.get j) (j * k * w))) (pre X Y w k j+(X j * qU (j * k * w) - Y j * qV (j * k * w))) (I0 X Y w k j+(X j * qV (j * k * w)+Y j * qU (j * k * w)))∧(pre X Y w k j+(X j * qU (j * k * w) - Y j * qV (j * k * w))).natAbs≤_∧(I0 X Y w k j+(X j * qV (j * k * w)+Y j * qU (j * k * w))).natAbs≤_
  generalize X j * qU (j * k * w) - Y j * qV (j * k * w)=A at *
  generalize X j * qV (j * k * w)+Y j * qU (j * k * w)=B at *
  exact ⟨(B0 i1 t (by omega) (by omega)).2,by omega,by omega⟩
def dg (x:Int):Prop:=0≤x∧x≤65535
def two (a b:Int):Qd:=nx ⟨yc a,yc b,(0,0),(0,0)⟩ 1
def rx (a b:Int) (k:Nat):Int:=a+b * qU k
def ry (b:Int) (k:Nat):Int:=b * qV k
theorem AW {a b:Int} (ha:dg a) (hb:dg b) (k:Nat) (hk:k<4):Is ((two a b).get k) (rx a b k) (ry b k):=by
 unfold two
 rw [tQ _ _ _ hk]
 have h:=(xj (l:=⟨yc a,yc b,(0,0),(0,0)⟩) (w:=1) (k:=k) (X:=fun j=>[a,b].getD j 0) (Y:=fun _=>0) (fun j hj=>by
  have:j=0∨j=1∨j=2∨j=3:=by omega
  obtain ⟨a1,a2⟩:=ha
  obtain ⟨b1,b2⟩:=hb
  rcases this with rfl | rfl | rfl | rfl
  ·exact ⟨Bl ⟨a1,a2⟩,by show a.natAbs≤_;omega,by decide⟩
  ·exact ⟨Bl ⟨b1,b2⟩,by show b.natAbs≤_;omega,by decide⟩
  ·exact ⟨sJ,by show (0:Int).natAbs≤_;omega,by show (0:Int).natAbs≤_;omega⟩
  ·exact ⟨sJ,by show (0:Int).natAbs≤_;omega,by show (0:Int).natAbs≤_;omega⟩) 4 (by omega)).1
 have e1:pre (fun j=>[a,b].getD j 0) (fun _=>0) 1 k 4=rx a b k:=by simp [pre,rx,qU]
 have e2:I0 (fun j=>[a,b].getD j 0) (fun _=>0) 1 k 4=ry b k:=by simp [I0,ry,qV]
 rw [e1,e2] at h
 exact h
theorem FE {a b:Int} (ha:dg a) (hb:dg b) (k:Nat):(rx a b k).natAbs≤131070:=by
 obtain ⟨a1,a2⟩:=ha
 obtain ⟨b1,b2⟩:=hb
 unfold rx
 rcases mQ k with e | e | e <;> rw [e] <;> omega
theorem FD {b:Int} (hb:dg b) (k:Nat):(ry b k).natAbs≤65535:=by
 obtain ⟨b1,b2⟩:=hb
 unfold ry
 rcases mR k with e | e | e <;> rw [e] <;> omega
def pB (x y:Qd):Qd:=⟨mul (x.get 0) (y.get 0),mul (x.get 1) (y.get 1),mul (x.get 2) (y.get 2),mul (x.get 3) (y.get 3)⟩
def zx (a b c d:Int) (k:Nat):Int:=rx a b k * rx c d k - ry b k * ry d k
def zy (a b c d:Int) (k:Nat):Int:=rx a b k * ry d k+ry b k * rx c d k
theorem DJ (x y:Qd) (k:Nat) (hk:k<4):(pB x y).get k=mul (x.get k) (y.get k):=by
 have:k=0∨k=1∨k=2∨k=3:=by omega
 rcases this with rfl | rfl | rfl | rfl <;> rfl
theorem rA {a b:Int} {m n:Nat} (h1:a.natAbs≤m) (h2:b.natAbs≤n):(a * b).natAbs≤m * n:=by
 rw [Int.natAbs_mul];exact Nat.mul_le_mul h1 h2
theorem Fa {a b:Int} (ha:dg a) (hb:dg b) (k:Nat) (hk:k<4):In ((two a b).get k) 33554432 :=
 ⟨_,_,AW ha hb k hk,by have:=FE ha hb k;omega,by have:=FD hb k;omega⟩
theorem Co {a b c d:Int} (ha:dg a) (hb:dg b) (hc:dg c) (hd:dg d) (k:Nat) (hk:k<4) :
  Is ((pB (two a b) (two c d)).get k) (zx a b c d k) (zy a b c d k)∧(zx a b c d k).natAbs≤1125899906842624∧(zy a b c d k).natAbs≤1125899906842624:=by
 have x1:=FE ha hb k
 have x2:=FD hb k
 have x3:=FE hc hd k
 have x4:=FD hd k
 have y1:=rA x1 x3
 have y2:=rA x2 x4
 have y3:=rA x1 x4
 have y4:=rA x2 x3
 rw [DJ _ _ _ hk]
 refine ⟨(Bp (AW ha hb k hk) (AW hc hd k hk) (by omega) (by omega) (by omega) (by omega)).2,?_,?_⟩
 ·unfold zx;omega
 ·unfold zy;omega
def co (a b c d:Int) (k:Nat):Int:=if k=0 then a * c else if k=1 then a * d+b * c else if k=2 then b * d else 0
theorem Aw (a b c d:Int) (k:Nat) (hk:k<4):pre (zx a b c d) (zy a b c d) (-1) k 4=4 * co a b c d k∧I0 (zx a b c d) (zy a b c d) (-1) k 4=4 * 0:=by
 have:k=0∨k=1∨k=2∨k=3:=by omega
 rcases this with rfl | rfl | rfl | rfl <;> constructor <;> simp [pre,I0,co,zx,zy,rx,ry,qU,qV,Int.add_mul,Int.mul_add,Int.sub_mul,Int.mul_sub,Int.neg_mul,Int.mul_neg] <;> omega
theorem Hz {a b c d:Int} (ha:dg a) (hb:dg b) (hc:dg c) (hd:dg d) (k:Nat):0≤co a b c d k∧co a b c d k≤8589672450:=by
 have m:∀{x y:Int},dg x→dg y→0≤x * y∧x * y≤4294836225:=fun {x y} h1 h2=>by
  have:=rA (a:=x) (b:=y) (m:=65535) (n:=65535) (by obtain ⟨_,_⟩:=h1;omega) (by obtain ⟨_,_⟩:=h2;omega)
  have h0:=Int.mul_nonneg h1.1 h2.1
  omega
 have m1:=m ha hc
 have m2:=m ha hd
 have m3:=m hb hc
 have m4:=m hb hd
 unfold co
 split
 ·omega
 ·split
  ·omega
  ·split <;> omega
theorem yZ {a b c d:Int} (ha:dg a) (hb:dg b) (hc:dg c) (hd:dg d) (k:Nat) (hk:k<4):Is (part (pB (two a b) (two c d)) (-1) k 4) (4 * co a b c d k) (4 * 0):=by
 have h:=(xj (w:=-1) (k:=k) (fun j hj=>Co ha hb hc hd j hj) 4 (by omega)).1
 rw [(Aw a b c d k hk).1,(Aw a b c d k hk).2] at h
 exact h
theorem HU (l:Qd) (k:Nat) (hk:k<4):(back l).get k=quarter (part l (-1) k 4):=by
 have:k=0∨k=1∨k=2∨k=3:=by omega
 rcases this with rfl | rfl | rfl | rfl <;> rfl
theorem Bg {z:Cx} {x y:Int} (h:Is z (4 * x) (4 * y)) (hx:x.natAbs≤562949953421312) (hy:y.natAbs≤562949953421312):Is (quarter z) x y:=by
 unfold quarter
 rw [(h.1.toInt (by omega)).2,(h.2.toInt (by omega)).2,Int.mul_tdiv_cancel_left _ (by omega),Int.mul_tdiv_cancel_left _ (by omega)]
 exact ⟨Fl.W.ofInt (by omega),Fl.W.ofInt (by omega)⟩
theorem JT {a b c d:Int} (ha:dg a) (hb:dg b) (hc:dg c) (hd:dg d) (k:Nat) (hk:k<4):Is ((back (pB (two a b) (two c d))).get k) (co a b c d k) 0:=by
 rw [HU _ _ hk]
 have:=Hz ha hb hc hd k
 exact Bg (yZ ha hb hc hd k hk) (by omega) (by omega)
theorem IZ {a b c d:Int} (ha:dg a) (hb:dg b) (hc:dg c) (hd:dg d):(ye (pB (two a b) (two c d)) 1125899906842624&&LU (pB (two a b) (two c d)))=true:=by
 have h:∀k,k<4→In ((pB (two a b) (two c d)).get k) 1125899906842624:=fun k hk=>by
  obtain ⟨h1,h2,h3⟩:=Co ha hb hc hd k hk
  exact ⟨_,_,h1,h2,h3⟩
 rw [sX.2 ⟨h 0 (by omega),h 1 (by omega),h 2 (by omega),h 3 (by omega)⟩,CM.2 fun k hk=>?_]
 ·rfl
 ·have:=Hz ha hb hc hd k
  exact ⟨_,_,yZ ha hb hc hd k hk,by omega,by omega⟩
theorem kv:∀l:List Int,(iE l).length=(l.length+1) / 2
 | []=>rfl
 | [a]=>by simp [iE]
 | a :: b :: r=>by rw [iE,az,kv r,az,az];omega
theorem Ok:yc 0=(0,0):=by
 have e:Fl.ofInt 0=0:=by decide +kernel
 unfold yc;rw [e]
theorem rk (e:Qd):∀(l:List Int) (i:Nat),i<(l.length+1) / 2→(iE l).getD i e=two (l.getD (2 * i) 0) (l.getD (2 * i+1) 0)
 | [],i,h=>by simp at h
 | [a],i,h=>by
  obtain rfl:i=0:=by simp at h;omega
  show nx ⟨yc a,(0,0),(0,0),(0,0)⟩ 1=two a 0
  unfold two;rw [Ok]
 | a :: b :: r,0,h=>rfl
 | a :: b :: r,i+1,h=>by
  rw [az,az] at h
  have:=rk e r i (by omega)
  rw [show 2 * (i+1)=2 * i+2 by omega]
  exact this
theorem tg {l:List Int} (h:iT l=true) (i:Nat):dg (l.getD i 0):=by
 by_cases c:i<l.length
 ·exact qG h i c
 ·rw [ai,List.getElem?_eq_none (by omega)];exact ⟨by decide,by decide⟩
end Gz
end Go.Eng
set_option maxRecDepth 20000
namespace Go.Eng
open Go.IntWalk
namespace Gz
def T (f g:Nat→Int) (m:Nat):Nat→Int
 | 0=>0
 | n+1=>T f g m n+if n≤m then f n * g (m - n) else 0
def U (f g:Nat→Int) (i n m:Nat):Int:=(if i≤m∧m - i<n then f i * g (m - i) else 0)+if i+1≤m∧m - (i+1)<n then f (i+1) * g (m - (i+1)) else 0
theorem MV {x y:Int} (h1:dg x) (h2:dg y):0≤x * y∧x * y≤4294836225:=by
 have:=rA (a:=x) (b:=y) (m:=65535) (n:=65535) (by obtain ⟨_,_⟩:=h1;omega) (by obtain ⟨_,_⟩:=h2;omega)
 have h0:=Int.mul_nonneg h1.1 h2.1
 omega
theorem Nk {f g:Nat→Int} (hf:∀i,dg (f i)) (hg:∀i,dg (g i)) (m:Nat):∀n,0≤T f g m n∧T f g m n≤n * 4294836225
 | 0=>⟨Int.le_refl _,by show (0:Int)≤_;omega⟩
 | n+1=>by
  have h:=Nk hf hg m n
  have h2:=MV (hf n) (hg (m - n))
  rw [T]
  split <;> omega
theorem SC {f g:Nat→Int} (hf:∀i,dg (f i)) (hg:∀i,dg (g i)) (i n m:Nat):0≤U f g i n m∧U f g i n m≤8589672450:=by
 have h1:=MV (hf i) (hg (m - i))
 have h2:=MV (hf (i+1)) (hg (m - (i+1)))
 unfold U
 split <;> split <;> omega
theorem WG (f g:Nat→Int) (i m:Nat):U f g i 0 m=0:=by
 unfold U
 rw [ao (by omega),ao (by omega)];rfl
theorem Ni (f g:Nat→Int) (i n m:Nat):U f g i (n+2) m=U f g i n m+if m=i+n then co (f i) (f (i+1)) (g n) (g (n+1)) 0 else if m=i+n+1 then co (f i) (f (i+1)) (g n) (g (n+1)) 1 else if m=i+n+2 then co (f i) (f (i+1)) (g n) (g (n+1)) 2 else 0:=by
 unfold U co
 by_cases c0:m=i+n
 ·subst c0
  rw [au (by omega),au rfl,au rfl,ao (show ¬(i≤i+n∧i+n - i<n) by omega),show i+n - i=n by omega]
  by_cases c:n=0
  ·rw [ao (by omega),ao (by omega)];omega
  ·rw [au (by omega),au (by omega)];omega
 ·rw [ao c0]
  by_cases c1:m=i+n+1
  ·subst c1
   rw [au (by omega),au (by omega),au rfl,ao (show ¬(i≤i+n+1∧i+n+1 - i<n) by omega),ao (show ¬(i+1≤i+n+1∧i+n+1 - (i+1)<n) by omega),show i+n+1 - i=n+1 by omega,show i+n+1 - (i+1)=n by omega,ao (by omega),au rfl];omega
  ·rw [ao c1]
   by_cases c2:m=i+n+2
   ·subst c2
    rw [ao (by omega),au (by omega),au rfl,ao (show ¬(i≤i+n+2∧i+n+2 - i<n) by omega),ao (show ¬(i+1≤i+n+2∧i+n+2 - (i+1)<n) by omega),show i+n+2 - (i+1)=n+1 by omega,ao (by omega),ao (by omega),au rfl];omega
   ·rw [ao c2]
    have e1:(i≤m∧m - i<n+2) ↔ (i≤m∧m - i<n):=by omega
    have e2:(i+1≤m∧m - (i+1)<n+2) ↔ (i+1≤m∧m - (i+1)<n):=by omega
    simp only [e1,e2,Int.add_zero]
theorem PJ {f g:Nat→Int} {n:Nat} (hg:∀i,n≤i→g i=0) (i m:Nat):T f g m (i+2)=T f g m i+U f g i n m:=by
 rw [T,T,U]
 have e:∀k,(if k≤m then f k * g (m - k) else 0)=if k≤m∧m - k<n then f k * g (m - k) else 0:=fun k=>by
  by_cases c:k≤m
  ·by_cases d:m - k<n
   ·rw [au c,au ⟨c,d⟩]
   ·rw [au c,ao (by omega),hg _ (by omega),Int.mul_zero]
  ·rw [ao c,ao (by omega)]
 rw [e,e];omega
theorem H6 {f g:Nat→Int} {m n:Nat} (h:∀i,n≤i→i≤m→f i=0):∀k,T f g m (n+k)=T f g m n
 | 0=>rfl
 | k+1=>by
  rw [←Nat.add_assoc,T,H6 h k]
  split
  ·rw [h _ (by omega) (by omega),Int.zero_mul,Int.add_zero]
  ·rw [Int.add_zero]
theorem JL (a b:List Int) (m:Nat):EH a b m=T (a.getD · 0) (b.getD · 0) m (m+1):=by
 unfold EH
 have:∀n,n≤m+1→(List.range n).foldl (fun s i=>s+a.getD i 0 * b.getD (m - i) 0) 0=T (a.getD · 0) (b.getD · 0) m n:=by
  intro n
  induction n with
  | zero=>intro _;rfl
  | succ n ih =>
   intro h
   rw [List.range_succ,List.foldl_append,ih (by omega),T,au (by omega)];rfl
 exact this _ (Nat.le_refl _)
theorem BN (a b:List Int) (m n:Nat) (hn:a.length≤n):T (a.getD · 0) (b.getD · 0) m n=EH a b m:=by
 rw [JL,←H6 (n:=n) (k:=m+1) (fun i h1 _=>by
  show a.getD i 0=0
  rw [ai,List.getElem?_eq_none (by omega)];rfl),Nat.add_comm n (m+1),H6 (fun i h1 h2=>by omega)]
theorem xq {l:List Int} {n:Nat} (x:Int) (m:Nat) (h:n<l.length):(l.set n x).getD m 0=if m=n then x else l.getD m 0:=by
 rw [ai,List.getElem?_set]
 by_cases c:n=m
 ·subst c;rw [au rfl,au h,au rfl];rfl
 ·rw [ao c,ao (fun e=>c e.symm),ai]
def grow (o:List Int) (p:Nat) (x y z:Int):List Int :=
 let o1:=o.set p (o.getD p 0+x)
 let o2:=o1.set (p+1) (o1.getD (p+1) 0+y)
 o2.set (p+2) (o2.getD (p+2) 0+z)
theorem GV {o:List Int} {p:Nat} (x y z:Int) (h:p+2<o.length) (m:Nat):(grow o p x y z).getD m 0=o.getD m 0+if m=p then x else if m=p+1 then y else if m=p+2 then z else 0:=by
 unfold grow
 simp only
 have hl:∀(o:List Int) (n:Nat) (x:Int),p+2<o.length→p+2<(o.set n x).length:=fun o n x h=>by rw [List.length_set];exact h
 have q1:=hl o p (o.getD p 0+x) h
 rw [xq (n:=p+2) _ m (hl _ _ _ q1),xq (n:=p+1) _ m (by omega),xq (n:=p+1) _ (p+2) (by omega),xq (n:=p) _ m (by omega),xq (n:=p) _ (p+1) (by omega),xq (n:=p) _ (p+2) (by omega)]
 by_cases c0:m=p
 ·subst c0
  rw [ao (by omega),ao (by omega),au rfl,au rfl]
 ·by_cases c1:m=p+1
  ·subst c1
   rw [ao (by omega),au rfl,ao (by omega),ao (by omega),au rfl]
  ·by_cases c2:m=p+2
   ·subst c2
    rw [au rfl,ao (by omega),ao (by omega),ao c0,ao c1,au rfl]
   ·rw [ao c2,ao c1,ao c0,ao c0,ao c1,ao c2,Int.add_zero]
theorem zU (o:List Int) (p:Nat) (x y z:Int):(grow o p x y z).length=o.length:=by
 unfold grow;simp
end Gz
open Gz
theorem bO.Gj (x0 x1:List Int) (x2:List Qd) (x3 x4:Int) (x5:List Qd) (x6 x7:Int) (x8:List Qd) (x9 mP:Int) (o:List Int) (x y:Qd) (hx:∀k,k<4→In (x.get k) 33554432) (hy:∀k,k<4→In (y.get k) 33554432) (ho:(ye (pB x y) 1125899906842624&&LU (pB x y))=true) :
  bO.l3 x0 x1 x2 x3 x4 x5 x6 x7 x8 x9 mP 0 x y ⟨(0,0),(0,0),(0,0),(0,0)⟩ o=bO.l4 x0 x1 x2 x3 x4 x5 x6 x7 x8 x9 mP 0 x (back (pB x y)) o:=by
 have st:∀(k:Nat) (z:Qd),k<4→bO.l3 x0 x1 x2 x3 x4 x5 x6 x7 x8 x9 mP k x y z o=bO.l3 x0 x1 x2 x3 x4 x5 x6 x7 x8 x9 mP ((k+1:Nat):Int) x y (z.set k (mul (x.get k) (y.get k))) o:=fun k z hk=>by
  refine bO.uH _ _ _ _ _ _ _ _ _ _ _ _ _ _ _ _ ?_
  intro v1 h1 v2 h2 v3 h3
  have e3:v3=((k+1:Nat):Int):=by rw [h3,i64_in _ (by omega)];omega
  rw [ak] at h1 h2
  rw [aa (by omega),ah,bx (bN (by omega) (by omega)),bx (aa (by omega)),bx (bN (by omega) (by omega)),bx (aa (by omega)),ak,kP.2 (hx k hk),kP.2 (hy k hk),aZ,bU,bx (bN (by omega) (by omega)),bx (aa (by omega)),e3,h2,h1]
 refine (st 0 _ (by omega)).trans ?_
 refine (st 1 _ (by omega)).trans ?_
 refine (st 2 _ (by omega)).trans ?_
 refine (st 3 _ (by omega)).trans ?_
 refine bO.uH _ _ _ _ _ _ _ _ _ _ _ _ _ _ _ _ ?_
 intro v1 h1 v2 h2 v3 h3
 rw [ab (by decide),ae]
 exact bx ho
theorem bO.Gi (x0 x1:List Int) (x2:List Qd) (x3:Int) (i j:Nat) (x5:List Qd) (x6 x7:Int) (x8:List Qd) (x9:Int) (o:List Int) (x y:Qd) (c:Nat→Int) (hc:∀k,k<4→Is (y.get k) (c k) 0∧0≤c k∧c k≤8589672450) (hi:i≤128) (hj:j≤128) (ho:2 * i+2 * j+2<o.length) (hb:∀m,0≤o.getD m 0∧o.getD m 0≤1125899906842624) (Vl:x3=i) :
  bO.l4 x0 x1 x2 x3 j x5 x6 x7 x8 x9 j 0 x y o=bO.l2 x0 x1 x2 x3 x5 x6 x7 x8 x9 ((j+1:Nat):Int) x (grow o (2 * i+2 * j) (c 0) (c 1) (c 2)):=by
 have st:∀(k:Nat) (o:List Int),k<3→2 * i+2 * j+2<o.length→(0≤o.getD (2 * i+2 * j+k) 0∧o.getD (2 * i+2 * j+k) 0≤1125899906842624)→bO.l4 x0 x1 x2 x3 j x5 x6 x7 x8 x9 j k x y o=bO.l4 x0 x1 x2 x3 j x5 x6 x7 x8 x9 j ((k+1:Nat):Int) x y (o.set (2 * i+2 * j+k) (o.getD (2 * i+2 * j+k) 0+c k)):=fun k o hk ho hb=>by
  refine bO.zC _ _ _ _ _ _ _ _ _ _ _ _ _ _ _ ?_
  intro v1 h1 v2 h2 v3 h3 v4 h4 v5 h5 v6 h6 v7 h7 v8 h8 v9 h9
  obtain ⟨q1,q2,q3⟩:=hc k (by omega)
  rw [ak] at h1 h2
  have e1:v1=c k:=by rw [h1];exact (q1.1.toInt (by omega)).2
  have e3:v3=2 * i:=by rw [h3,Vl,i64_in _ (by omega)]
  have e4:v4=2 * j:=by rw [h4,i64_in _ (by omega)]
  have e5:v5=((2 * i+2 * j+k:Nat):Int):=by rw [h5,e3,e4,i64_in (2 * (i:Int)+2 * j) (by omega),i64_in _ (by omega)];omega
  rw [e5,ak] at h6 h7
  have e7:v7=o.set (2 * i+2 * j+k) (o.getD (2 * i+2 * j+k) 0+c k):=by rw [h7,h6,e1,i64_in _ (by omega)]
  have e8:v8=((k+1:Nat):Int):=by rw [h8,i64_in _ (by omega)];omega
  have b1:vt (y.get k) 4503599627370496=true:=kP.2 ⟨_,_,q1,by omega,by omega⟩
  rw [aa (by omega),ah,bx (bN (by omega) (by omega)),bx (aa (by omega)),ak,bx b1,e5,bx (bN (by omega) (by omega)),ak,bx (aa (by omega)),bx (bN (by omega) (by omega)),bx (aa (by omega)),e7,e8]
 refine (st 0 _ (by omega) ho (hb _)).trans ?_
 refine (st 1 _ (by omega) (by rw [List.length_set];exact ho) (by rw [xq _ _ (by omega),ao (by omega)];exact hb _)).trans ?_
 refine (st 2 _ (by omega) (by rw [List.length_set,List.length_set];exact ho) (by rw [xq _ _ (by rw [List.length_set];omega),ao (by omega),xq _ _ (by omega),ao (by omega)];exact hb _)).trans ?_
 refine bO.zC _ _ _ _ _ _ _ _ _ _ _ _ _ _ _ ?_
 intro v1 h1 v2 h2 v3 h3 v4 h4 v5 h5 v6 h6 v7 h7 v8 h8 v9 h9
 have e9:v9=((j+1:Nat):Int):=by rw [h9,i64_in _ (by omega)];omega
 rw [ab (by decide),ae,e9]
 rfl
theorem bO.jd (a b:List Int) (ha:Gz.iT a=true) (hb:Gz.iT b=true) (la:a.length≤256) (lb:b.length≤256) (i:Nat) (hi:i<(a.length+1) / 2):∀(m j:Nat) (o:List Int),j+m=(b.length+1) / 2→o.length=a.length+b.length+2→(∀q,o.getD q 0=T (a.getD · 0) (b.getD · 0) q (2 * i)+U (a.getD · 0) (b.getD · 0) (2 * i) (2 * j) q) →
  ∃o':List Int,bO.l2 a b (iE b) i (iE a) ((iE a).length:Int) i (iE b) ((iE b).length:Int) j (two (a.getD (2 * i) 0) (a.getD (2 * i+1) 0)) o=bO.l1 a b (iE b) (iE a) ((iE a).length:Int) ((i+1:Nat):Int) o'∧o'.length=a.length+b.length+2∧∀q,o'.getD q 0=T (a.getD · 0) (b.getD · 0) q (2 * (i+1)):=by
 intro m
 induction m with
 | zero =>
  intro j o hj ho hv
  refine ⟨o,?_,ho,?_⟩
  ·refine bO.iu _ _ _ _ _ _ _ _ _ _ _ _ ?_
   intro v1 h1 v2 h2
   have e2:v2=((i+1:Nat):Int):=by rw [h2,i64_in _ (by omega)];omega
   rw [kv,ab (by omega),ae,e2]
  ·intro q
   rw [hv q,show 2 * (i+1)=2 * i+2 by omega,PJ (n:=2 * j) (fun k hk=>by
    show b.getD k 0=0
    rw [ai,List.getElem?_eq_none (by omega)];rfl)]
 | succ m ih =>
  intro j o hj ho hv
  have hf:=tg ha
  have hg:=tg hb
  have f0:=hf (2 * i)
  have f1:=hf (2 * i+1)
  have g0:=hg (2 * j)
  have g1:=hg (2 * j+1)
  obtain ⟨o',h1,h2,h3⟩:=ih (j+1) (grow o (2 * i+2 * j) (co (a.getD (2 * i) 0) (a.getD (2 * i+1) 0) (b.getD (2 * j) 0) (b.getD (2 * j+1) 0) 0) (co (a.getD (2 * i) 0) (a.getD (2 * i+1) 0) (b.getD (2 * j) 0) (b.getD (2 * j+1) 0) 1) (co (a.getD (2 * i) 0) (a.getD (2 * i+1) 0) (b.getD (2 * j) 0) (b.getD (2 * j+1) 0) 2)) (by omega) (by rw [zU];exact ho) (fun q=>by
   rw [GV _ _ _ (by omega),hv q,show 2 * (j+1)=2 * j+2 by omega,Ni,Int.add_assoc])
  refine ⟨o',Eq.trans ?_ h1,h2,h3⟩
  refine bO.iu _ _ _ _ _ _ _ _ _ _ _ _ ?_
  intro v1 h1 v2 h2
  rw [ak,rk _ _ _ (by omega)] at h1
  have hp:=kv b
  rw [aa (by omega),ah,bx (bN (by omega) (by omega)),h1]
  rw [bO.Gj _ _ _ _ _ _ _ _ _ _ _ _ _ _ (fun k hk=>Fa f0 f1 k hk) (fun k hk=>Fa g0 g1 k hk) (IZ f0 f1 g0 g1)]
  exact bO.Gi _ _ _ _ i j _ _ _ _ _ _ _ _ (co (a.getD (2 * i) 0) (a.getD (2 * i+1) 0) (b.getD (2 * j) 0) (b.getD (2 * j+1) 0)) (fun k hk=>⟨JT f0 f1 g0 g1 k hk,Hz f0 f1 g0 g1 k⟩) (by omega) (by omega) (by omega) (fun q=>by
   rw [hv q]
   have t1:=Nk (f:=(a.getD · 0)) (g:=(b.getD · 0)) hf hg q (2 * i)
   have t2:=SC (f:=(a.getD · 0)) (g:=(b.getD · 0)) hf hg (2 * i) (2 * j) q
   omega) rfl
theorem CC (o:List Int) (f:Nat→Int) (n:Nat) (hn:n≤o.length) (h:∀q,o.getD q 0=f q):o.take n=(List.range n).map f:=by
 apply List.ext_getElem
 ·rw [aF,bc,List.length_range];omega
 ·intro i h1 h2
  rw [aF] at h1
  have:=h i
  rw [ai,ar (by omega)] at this
  rw [List.getElem_take,List.getElem_map,List.getElem_range]
  exact this
theorem bO.cO (a b:List Int) (ha:Gz.iT a=true) (hb:Gz.iT b=true) (la:a.length≤256) (lb:b.length≤256) (na:a≠[]) (nb:b≠[]):∀(m i:Nat) (o:List Int),i+m=(a.length+1) / 2→o.length=a.length+b.length+2→(∀q,o.getD q 0=T (a.getD · 0) (b.getD · 0) q (2 * i)) →
  bO.l1 a b (iE b) (iE a) ((iE a).length:Int) i o=some [.sl .is (conv a b),.b true]:=by
 have pa:=List.length_pos_iff.2 na
 have pb:=List.length_pos_iff.2 nb
 intro m
 induction m with
 | zero =>
  intro i o hi ho hv
  refine bO.bX _ _ _ _ _ _ _ ?_
  intro v1 h1 v2 h2 v3 h3
  have e2:v2=a.length+b.length:=by rw [h2,i64_in _ (by omega)]
  have e3:v3=((a.length+b.length - 1:Nat):Int):=by rw [h3,e2,i64_in _ (by omega)];omega
  have e:o.take (a.length+b.length - 1)=conv a b:=by
   rw [CC o (EH a b) _ (by omega) (fun q=>by rw [hv q,BN a b q _ (by omega)])]
   unfold conv
   rw [ao (by simp [na,nb])]
  rw [kv,ab (by omega),ae,e3,ak,bx (j9 (by omega) (by omega) (by omega)),bx (dP (by rw [aF];omega) (by rw [aF];omega)),e]
 | succ m ih =>
  intro i o hi ho hv
  refine bO.bX _ _ _ _ _ _ _ ?_
  intro v1 h1 v2 h2 v3 h3
  have hp:=kv a
  rw [ak,rk _ _ _ (by omega)] at h1
  obtain ⟨o',q1,q2,q3⟩:=bO.jd a b ha hb la lb i (by omega) ((b.length+1) / 2) 0 o (by omega) ho (fun q=>by rw [hv q,Nat.mul_zero,WG,Int.add_zero])
  rw [aa (by omega),ah,bx (bN (by omega) (by omega)),h1]
  exact Eq.trans q1 (ih (i+1) o' (by omega) q2 q3)
theorem bO.goal (a b:List Int) (hp:(decide (a.length≤256∧b.length≤256)&&(Gz.iT a&&Gz.iT b))=true):bO.F a b=some [.sl .is (Gz.conv a b),.b true]:=by
 simp only [af,aA] at hp
 obtain ⟨⟨la,lb⟩,ha,hb⟩:=hp
 refine bO.bY _ _ ?_
 intro v1 h1 v2 h2 v3 h3 v4 h4 v5 h5 v6 h6
 have e1:v1=false:=h1
 have ca:(decide (a.length≤256)&&Gz.iT a)=true:=by rw [ha,aa la];rfl
 have cb:(decide (b.length≤256)&&Gz.iT b)=true:=by rw [hb,aa lb];rfl
 simp only [aW,bn,Bool.not_not,aG,Bool.true_and,Bool.false_or,Bool.or_self,bU,ca,cb,e1,ae]
 by_cases na:a=[]
 ·subst na
  have e2:v2=true:=h2
  rw [e2,ah];unfold conv;rw [au (Or.inl rfl)];rfl
 ·by_cases nb:b=[]
  ·subst nb
   have e2:v2=true:=by
    rw [h2]
    cases decide ((a.length:Int)=0) <;> rfl
   rw [e2,ah];unfold conv;rw [au (Or.inr rfl)];rfl
  ·have pa:=List.length_pos_iff.2 na
   have pb:=List.length_pos_iff.2 nb
   have e2:v2=false:=by rw [h2,ab (by omega),ae];exact ab (by omega)
   have e3:v3=a.length+b.length:=by rw [h3,i64_in _ (by omega)]
   have e4:v4=((a.length+b.length+2:Nat):Int):=by rw [h4,e3,i64_in _ (by omega)];omega
   rw [e4,ak] at h5
   rw [e2,ae,e4]
   refine Eq.trans (bx rfl) ?_
   rw [bx (kZ.2 ⟨by omega,by omega,by omega,by rw [jA];omega⟩),h6]
   exact bO.cO a b ha hb la lb na nb ((a.length+1) / 2) 0 v5 (by omega) (by rw [h5,List.length_replicate]) (fun q=>by
    rw [h5]
    show _=(0:Int)
    rw [ai,List.getElem?_replicate]
    split <;> rfl)
end Go.Eng
set_option maxRecDepth 20000
namespace Go.Eng
open Go.IntWalk
namespace Gz
def xN:List Int→Int
 | []=>0
 | x :: r=>x+65536 * xN r
def rL (h:Nat→Int):Nat→Int
 | 0=>0
 | n+1=>rL h n+h n * 65536 ^ n
theorem Ac:∀(l:List Int) (x:Int),xN (l++[x])=xN l+x * 65536 ^ l.length
 | [],x=>by simp [xN]
 | y :: r,x=>by
  rw [List.cons_append,xN,Ac r x,xN,az,Int.pow_succ,Int.mul_add,←Int.mul_assoc x,Int.mul_comm 65536 (x * _),Int.add_assoc]
theorem rM (f:Nat→Int):∀n,xN ((List.range n).map f)=rL f n
 | 0=>rfl
 | n+1=>by rw [List.range_succ,List.map_append,List.map_singleton,Ac,rM f n,bc,List.length_range];rfl
theorem Hg (l:List Int):xN l=rL (l.getD · 0) l.length:=by
 rw [←rM,←CC l _ l.length (Nat.le_refl _) (fun _=>rfl),List.take_length]
theorem rK {f g:Nat→Int}:∀n,(∀i,i<n→f i=g i)→rL f n=rL g n
 | 0,_=>rfl
 | n+1,h=>by rw [rL,rL,rK n (fun i hi=>h i (by omega)),h n (by omega)]
theorem CY (f g:Nat→Int):∀n,rL (fun i=>f i+g i) n=rL f n+rL g n
 | 0=>rfl
 | n+1=>by
  simp only [rL]
  rw [CY f g n,Int.add_mul];omega
theorem uR:∀n,rL (fun _=>0) n=0
 | 0=>rfl
 | n+1=>by
  simp only [rL]
  rw [uR n,Int.zero_mul];rfl
theorem CX {g:Nat→Int} {n:Nat} (h:∀i,n≤i→g i=0):∀k,rL g (n+k)=rL g n
 | 0=>rfl
 | k+1=>by rw [←Nat.add_assoc,rL,CX h k,h _ (by omega),Int.zero_mul,Int.add_zero]
theorem wD (c:Int) (g:Nat→Int) (n:Nat):∀k,rL (fun m=>if n≤m then c * g (m - n) else 0) (n+k)=c * 65536 ^ n * rL g k
 | 0=>by
  rw [Nat.add_zero,rK (g:=fun _=>0) n (fun i hi=>ao (by omega)),uR,rL,Int.mul_zero]
 | k+1=>by
  rw [←Nat.add_assoc,rL,wD c g n k,rL]
  rw [au (by omega),show n+k - n=k by omega,Int.mul_add,Int.pow_add,Int.mul_assoc c (g k),Int.mul_assoc c (65536 ^ n) (g k * 65536 ^ k),←Int.mul_assoc (g k),Int.mul_comm (g k) (65536 ^ n),Int.mul_assoc (65536 ^ n) (g k)]
theorem KG {f g:Nat→Int} {L:Nat} (hg:∀i,L≤i→g i=0) (N:Nat):∀n,n+L≤N+1→n≤N→rL (fun m=>T f g m n) N=rL f n * rL g L
 | 0,_,_=>by
  rw [rL,Int.zero_mul];exact uR N
 | n+1,h,h2=>by
  have e:=wD (f n) g n (N - n)
  rw [show n+(N - n)=N by omega] at e
  have e2:rL g (N - n)=rL g L:=by
   rw [show N - n=L+(N - n - L) by omega];exact CX hg _
  have:=CY (fun m=>T f g m n) (fun m=>if n≤m then f n * g (m - n) else 0) N
  rw [e,e2,KG hg N n (by omega) (by omega),←Int.add_mul] at this
  exact this
theorem Hh (a b:List Int):xN (conv a b)=xN a * xN b:=by
 by_cases na:a=[]
 ·subst na;unfold conv;rw [au (Or.inl rfl)];simp [xN]
 ·by_cases nb:b=[]
  ·subst nb;unfold conv;rw [au (Or.inr rfl)];simp [xN]
  ·have pa:=List.length_pos_iff.2 na
   have pb:=List.length_pos_iff.2 nb
   unfold conv
   rw [ao (by simp [na,nb]),rM,Hg a,Hg b]
   rw [rK (g:=fun m=>T (a.getD · 0) (b.getD · 0) m a.length) _ (fun i _=>(BN a b i _ (Nat.le_refl _)).symm)]
   exact KG (fun i hi=>by
    show b.getD i 0=0
    rw [ai,List.getElem?_eq_none (by omega)];rfl) _ _ (by omega) (by omega)
theorem xM:∀a:List UInt16,xN (a.map fun d=>(d.toNat:Int))=(Nt.val a:Int)
 | []=>rfl
 | d :: r=>by rw [aX,xN,xM r,Nt.val];omega
theorem sA (a b:List Int):(conv a b).length=if a=[]∨b=[] then 0 else a.length+b.length - 1:=by
 unfold conv
 split
 ·rfl
 ·rw [bc,List.length_range]
theorem Hv (a b:List Int) (ha:iT a=true) (hb:iT b=true) (la:a.length≤256) (i:Nat):0≤(conv a b).getD i 0∧(conv a b).getD i 0≤1099478073600:=by
 by_cases h:i<(conv a b).length
 ·have hl:=sA a b
  by_cases c:a=[]∨b=[]
  ·rw [hl,au c] at h;omega
  ·have e:(conv a b).getD i 0=EH a b i:=by
    rw [ai,ar h]
    unfold conv
    simp only [ao c,List.getElem_map,List.getElem_range,Option.getD_some]
   rw [e,←BN a b i _ (Nat.le_refl _)]
   have:=Nk (f:=(a.getD · 0)) (g:=(b.getD · 0)) (tg ha) (tg hb) i a.length
   omega
 ·rw [ai,List.getElem?_eq_none (by omega)];exact ⟨by decide,by decide⟩
end Gz
open Gz
theorem yx (acc:List UInt16) (c:Nat):Nt.val (acc++[UInt16.ofNat c])+65536 ^ (acc.length+1) * (c / 65536)=Nt.val acc+65536 ^ acc.length * c:=by
 rw [Nt.gh]
 simp only [Nt.val,Nat.mul_zero,Nat.add_zero,Nt.dI]
 rw [Nat.pow_succ,Nat.mul_assoc,Nat.add_assoc,←Nat.mul_add,Nat.mod_add_div]
theorem dB.jd (R:Nat):∀(k:Nat) (acc:List UInt16) (c:Nat),c<65536 ^ k→acc.length+k≤10000→Nt.val acc+65536 ^ acc.length * c=R→dB.l2 acc c=some [.sl .ws (Nt.of R)]:=by
 intro k
 induction k with
 | zero =>
  intro acc c hc hl hv
  obtain rfl:c=0:=by simpa using hc
  refine dB.iu _ _ ?_
  intro v1 h1 v2 h2
  rw [ab (by omega),ae,bx (aa (by omega)),←hv,Nat.mul_zero,Nat.add_zero]
 | succ k ih =>
  intro acc c hc hl hv
  refine dB.iu _ _ ?_
  intro v1 h1 v2 h2
  by_cases c0:c=0
  ·subst c0
   rw [ab (by omega),ae,bx (aa (by omega)),←hv,Nat.mul_zero,Nat.add_zero]
  ·rw [om] at h1
   rw [xL] at h2
   rw [aa (by omega),ah,h1,h2,bx (dP (by rw [ay];omega) (by rw [ay];omega))]
   exact ih _ _ (by rw [Nat.pow_succ] at hc;exact Nat.div_lt_of_lt_mul (by rw [Nat.mul_comm];exact hc)) (by rw [aj,ay];omega) (by
    rw [aj,ay,yx];exact hv)
theorem dB.cO (l:List Int) (hl:l.length≤600) (hb:∀i,0≤l.getD i 0∧l.getD i 0≤1099478073600) (R:Nat):∀(m i:Nat) (acc:List UInt16) (c:Nat),i+m=l.length→acc.length=i→c≤1099511627776→((Nt.val acc:Nat):Int)+65536 ^ i * (c+xN (l.drop i))=R→dB.l1 acc c l l.length i=some [.sl .ws (Nt.of R)]:=by
 intro m
 induction m with
 | zero =>
  intro i acc c hi ha hc hv
  refine dB.bX _ _ _ _ _ ?_
  intro v1 h1 v2 h2 v3 h3 v4 h4
  rw [aC (by omega),xN,Int.add_zero] at hv
  rw [ab (by omega),ae]
  refine dB.jd R 3 acc c (by omega) (by omega) ?_
  rw [ha]
  have e:((65536 ^ i * c:Nat):Int)=65536 ^ i * (c:Int):=by rw [Int.natCast_mul,Int.natCast_pow];rfl
  omega
 | succ m ih =>
  intro i acc c hi ha hc hv
  refine dB.bX _ _ _ _ _ ?_
  intro v1 h1 v2 h2 v3 h3 v4 h4
  rw [ak] at h1
  have hx:=hb i
  rw [←h1] at hx
  obtain ⟨x,rfl⟩:=Int.eq_ofNat_of_zero_le hx.1
  have e0:IntKind.i64.wrap ((c:Int)+(x:Int))=((c+x:Nat):Int):=by rw [i64_in _ (by omega)];omega
  rw [e0] at h2 h3
  rw [om] at h2
  rw [xL] at h3
  have e4:v4=((i+1:Nat):Int):=by rw [h4,i64_in _ (by omega)];omega
  rw [aa (by omega),ah,bx (bN (by omega) (by omega)),bx (dP (by rw [ay];omega) (by rw [ay];omega)),h2,h3,e4]
  refine ih (i+1) _ _ (by omega) (by rw [aj,ay];omega) (by omega) ?_
  rw [drop_cons (show i<l.length by omega) 0,xN,←h1] at hv
  have hm:=yx acc (c+x)
  rw [ha] at hm
  have OJ:((Nt.val (acc++[UInt16.ofNat (c+x)]):Nat):Int)+65536 ^ (i+1) * (((c+x) / 65536:Nat):Int)=(Nt.val acc:Int)+65536 ^ i * ((c+x:Nat):Int):=by
   have:=congrArg (Nat.cast:Nat→Int) hm
   rw [Int.natCast_add,Int.natCast_add,Int.natCast_mul,Int.natCast_mul,Int.natCast_pow,Int.natCast_pow] at this
   exact this
  generalize xN (l.drop (i+1))=E at *
  rw [Int.mul_add,←Int.add_assoc,OJ,←hv,Int.pow_succ,Int.mul_assoc,Int.add_assoc,←Int.mul_add]
  congr 2
  omega
theorem dB.goal (a b:List UInt16) (hp:(Nt.is a&&Nt.is b)=true):dB.F a b=some [.sl .ws (Nt.of (Nt.val a * Nt.val b))]:=by
 simp only [af] at hp
 obtain ⟨ha,hb⟩:=hp
 have la:=Nt.jH ha
 have lb:=Nt.jH hb
 have hd:∀a:List UInt16,Gz.iT (a.map fun d=>(d.toNat:Int))=true:=fun a=>by
  unfold Gz.iT
  rw [aD]
  intro x hx
  obtain ⟨d,_,rfl⟩:=bg.1 hx
  have:=d.toNat_lt
  exact aa (by omega)
 refine dB.bY _ _ ?_
 intro v1 h1 v2 h2 v3 h3 v4 h4
 have e1:v1=false:=by rw [h1,ha,hb];rfl
 have l2:v2.length=a.length:=by rw [h2,bc]
 have l3:v3.length=b.length:=by rw [h3,bc]
 have d2:Gz.iT v2=true:=by rw [h2];exact hd a
 have d3:Gz.iT v3=true:=by rw [h3];exact hd b
 have c1:(decide (v2.length≤256∧v3.length≤256)&&(Gz.iT v2&&Gz.iT v3))=true:=by rw [d2,d3,aa ⟨by omega,by omega⟩];rfl
 rw [e1,ha,h4,bx c1,aa (show a.length≤1099511627776 by omega),aa (show b.length≤1099511627776 by omega),aa (show a.length≤256 by omega),aa (show b.length≤256 by omega)]
 refine Eq.trans (b:=dB.l1 [] 0 (Gz.conv v2 v3) (Gz.conv v2 v3).length 0) rfl ?_
 have hl:(Gz.conv v2 v3).length≤600:=by
  rw [Gz.sA]
  split <;> omega
 refine dB.cO _ hl (Gz.Hv _ _ d2 d3 (by omega)) _ (Gz.conv v2 v3).length 0 [] 0 (by omega) rfl (by omega) ?_
 rw [bh,Gz.Hh,h2,h3,Gz.xM,Gz.xM,Int.natCast_mul]
 simp [Nt.val]
end Go.Eng
set_option maxRecDepth 20000
namespace Go.Eng
open Go.IntWalk
namespace Nr
theorem sR {a:Nat} (h:0<a) (e:Int):0<jE a e:=Nat.mul_pos h (Nat.two_pow_pos _)
def pt (Q F:Nat):Nat:=if Q<4503599627370496 then Q else (F+1) * 4503599627370496+(Q - 4503599627370496)
theorem Kg {Q F:Nat} (h:4503599627370496≤Q∨F=0) (h2:Q<9007199254740992):nI (pt Q F)=Q∧sh (pt Q F)=F:=by
 unfold pt
 split
 ·rename_i c
  obtain rfl:F=0:=by omega
  unfold nI sh
  rw [au c,show Q / 4503599627370496=0 by omega];exact ⟨rfl,rfl⟩
 ·rename_i c
  exact H4 (by omega) h2
theorem Lu (Q F:Nat):pt Q F % 2=Q % 2:=by
 unfold pt
 split <;> omega
theorem H3 {a b Q:Nat} {E:Int} {F:Nat} (hb:0<b) (hE:E+1074=F) (hQ:Q=jK a E / jE b E) (h:4503599627370496≤Q∨F=0) (h2:Q<9007199254740992) :
  (V (pt Q F) * b≤a * 2 ^ 1074∧a * 2 ^ 1074<V (pt Q F+1) * b)∧(gZ a b (pt Q F) ↔ (jE b E<2 * (jK a E % jE b E)∨(jE b E=2 * (jK a E % jE b E)∧Q % 2=1))):=by
 obtain ⟨m1,m2⟩:=Kg h h2
 have hB:=sR hb E
 have NH:=Nat.div_add_mod (jK a E) (jE b E)
 have hr:=Nat.mod_lt (jK a E) hB
 rw [←hQ] at NH
 generalize hR:jK a E % jE b E=R at *
 have Mt:V (pt Q F)=Q * 2 ^ F:=by unfold V;rw [m1,m2]
 have NK:V (pt Q F+1)=(Q+1) * 2 ^ F:=by rw [xZ,m1,m2]
 -- both SM times 2^(-E)
 have k1:∀n:Nat,n * 2 ^ F * b * 2 ^ (-E).toNat=n * jE b E * 2 ^ 1074:=fun n=>by
  unfold jE
  exact F1 (yX (a:=F) (b:=(-E).toNat) (c:=E.toNat) (d:=1074) (by omega))
 have k2:a * 2 ^ 1074 * 2 ^ (-E).toNat=jK a E * 2 ^ 1074:=by unfold jK;rw [Nat.mul_right_comm]
 have hp:=Nat.two_pow_pos (-E).toNat
 have Ii:=Nat.two_pow_pos 1074
 refine ⟨⟨?_,?_⟩,?_⟩
 ·refine Nat.le_of_mul_le_mul_right ?_ hp
  rw [Mt,k1,k2]
  refine av _ ?_
  rw [Nat.mul_comm];omega
 ·refine Nat.lt_of_mul_lt_mul_right (a:=2 ^ (-E).toNat) ?_
  rw [NK,k1,k2]
  refine Nat.mul_lt_mul_of_pos_right ?_ Ii
  rw [Nat.add_mul,Nat.mul_comm Q];omega
 ·unfold gZ
  rw [nH,Mt,NK,Lu,←Nat.add_mul]
  have e:a * jP * 2 ^ (-E).toNat=2 * jK a E * 2 ^ 1074:=by
   rw [mul_two (a:=a) lM,Nat.mul_assoc 2,k2,←Nat.mul_assoc]
  have k3:=k1 (Q+(Q+1))
  have g1:((Q+(Q+1)) * 2 ^ F * b<a * jP) ↔ (Q+(Q+1)) * jE b E<2 * jK a E:=by
   constructor
   ·intro h
    have:=Nat.mul_lt_mul_of_pos_right h hp
    rw [k3,e] at this
    exact Nat.lt_of_mul_lt_mul_right this
   ·intro h
    refine Nat.lt_of_mul_lt_mul_right (a:=2 ^ (-E).toNat) ?_
    rw [k3,e]
    exact Nat.mul_lt_mul_of_pos_right h Ii
  have g2:((Q+(Q+1)) * 2 ^ F * b=a * jP) ↔ (Q+(Q+1)) * jE b E=2 * jK a E:=by
   constructor
   ·intro h
    have this:(Q+(Q+1)) * 2 ^ F * b * 2 ^ (-E).toNat=a * jP * 2 ^ (-E).toNat:=by rw [h]
    rw [k3,e] at this
    exact Nat.eq_of_mul_eq_mul_right Ii this
   ·intro h
    refine Nat.eq_of_mul_eq_mul_right hp ?_
    rw [k3,e,h]
  rw [g1,g2,Nat.add_mul,Nat.add_mul,Nat.one_mul]
  have hc:Q * jE b E=jE b E * Q:=Nat.mul_comm _ _
  omega
theorem rb (A B:Nat):(vh A B=A / B+1∧(B<2 * (A % B)∨(B=2 * (A % B)∧A / B % 2=1)))∨(vh A B=A / B∧¬(B<2 * (A % B)∨(B=2 * (A % B)∧A / B % 2=1))):=by
 unfold vh
 split
 ·rename_i h;exact .inl ⟨rfl,h⟩
 ·rename_i h;exact .inr ⟨rfl,h⟩
theorem vV {a b:Nat} {E:Int} (hb:0<b) (hE : -1074≤E) (h:4503599627370496≤jK a E / jE b E∨E=-1074) (h2:jK a E / jE b E<9007199254740992):je a b=join false (vh (jK a E) (jE b E)) E:=by
 classical
 obtain ⟨F,hF⟩:=Int.eq_ofNat_of_zero_le (show 0≤E+1074 by omega)
 generalize hQ:jK a E / jE b E=Q at *
 have Tv:4503599627370496≤Q∨F=0:=by omega
 obtain ⟨⟨a1,a2⟩,a3⟩:=H3 hb hF hQ.symm Tv h2
 obtain ⟨m1,m2⟩:=Kg Tv h2
 have Mt:V (pt Q F)=Q * 2 ^ F:=by unfold V;rw [m1,m2]
 have NK:V (pt Q F+1)=(Q+1) * 2 ^ F:=by rw [xZ,m1,m2]
 have ex:(-(E+1074)).toNat=0:=by omega
 have ey:(E+1074).toNat=F:=by omega
 have hj:∀p M,V p=M * 2 ^ F→join false M E=if p≤top then some p else none:=fun p M hv=>by
  split
  ·rename_i ht
   exact join_some false ht (by rw [ex,ey,Nat.pow_zero,Nat.mul_one,hv])
  ·rename_i ht
   refine join_none false fun q hq e=>ht ?_
   rw [ex,ey,Nat.pow_zero,Nat.mul_one,←hv] at e
   exact KW e ▸ hq
 have hr:=rb (jK a E) (jE b E)
 rw [hQ] at hr
 by_cases hp:pt Q F≤top
 ·rw [Ja hb a1 a2 hp]
  rcases hr with ⟨r1,r2⟩ | ⟨r1,r2⟩
  ·rw [au (a3.2 r2),r1,hj _ _ NK]
  ·rw [ao (fun h=>r2 (a3.1 h)),r1,hj _ _ Mt,au hp]
 ·rw [F0 hb a1 (by omega)]
  rcases hr with ⟨r1,r2⟩ | ⟨r1,r2⟩
  ·rw [r1,hj _ _ NK,ao (by omega)]
  ·rw [r1,hj _ _ Mt,ao hp]
end Nr
theorem pd (a b:Nat):(Nt.cmp a b=-1∧a<b)∨(Nt.cmp a b=0∧a=b)∨(Nt.cmp a b=1∧b<a):=by
 unfold Nt.cmp
 by_cases c:a<b
 ·rw [au c];exact .inl ⟨rfl,c⟩
 ·rw [ao c]
  by_cases d:a=b
  ·rw [au d];exact .inr (.inl ⟨rfl,d⟩)
  ·rw [ao d];exact .inr (.inr ⟨rfl,by omega⟩)
theorem I3 {n:Nat} (h:n<2 ^ 64):(Nt.of n).length≤4:=(Nt.kj n 4).2 (by rw [show (65536:Nat) ^ 4=2 ^ 64 by decide];exact h)
theorem cJ.iz (A B:Nat) (hB:0<B) (hA:A<2 ^ 4090) (Sj:B<2 ^ 4090) (Mw:A<2 ^ 60 * B):cJ.j1 (Nt.of A) (Nt.of B)=some [.u64 (UInt64.ofNat (Nr.vh A B)),.b (Nr.mz A B)]:=by
 have Ys:(2:Nat) ^ (6+4090)=64 * 2 ^ 4090:=Nr.Lr 4090
 refine cJ.iR _ _ ?_
 intro v1 h1 v2 h2 v3 h3 v4 h4 v5 h5 v6 h6 v7 h7 v8 h8 v9 h9
 rw [Nt.eY,Nt.eY] at h1 h2
 have hr:=Nat.mod_lt A hB
 have hq:A / B<2 ^ 60:=(Nat.div_lt_iff_lt_mul hB).2 Mw
 have e1:Nt.val v1=A / B:=by rw [h1,Nt.eY]
 have e2:Nt.val v2=A % B:=by rw [h2,Nt.eY]
 have e3:Nt.val v3=2 * (A % B):=by rw [h3,Nt.eY,e2];exact Nat.mul_comm ..
 rw [e3,Nt.eY] at h4
 have i1:Nt.is (Nt.of A)=true:=Nt.pD (by omega)
 have i2:Nt.is (Nt.of B)=true:=Nt.pD (by omega)
 have i3:Nt.is v1=true:=by rw [h1];exact Nt.pD (by omega)
 have i4:Nt.is v2=true:=by rw [h2];exact Nt.pD (by omega)
 have i5:Nt.is v3=true:=by rw [h3];exact Nt.pD (by rw [e2];show A % B * 2 ^ 1<_;omega)
 have nb:Nt.of B≠[]:=by rw [Nt.lR hB];simp
 have l4:v1.length≤4:=by rw [h1];exact I3 (Nat.lt_of_lt_of_le hq (Nat.pow_le_pow_right (by omega) (by omega)))
 rw [i1,i2,i3,i4,i5,aa nb]
 refine (bx (by rfl)).trans ?_
 rw [bx (aa ⟨rfl,l4⟩)]
 refine (bx (by rfl)).trans ?_
 refine (bx (by rfl)).trans ?_
 rw [e1] at h6 h9 ⊢
 have V1:(2:Nat) ^ 60=1152921504606846976:=by decide
 have e6:decide (v6=1)=decide (A / B % 2=1):=by
  have e6:v6.toNat=A / B % 2:=by
   rw [h6,UInt64.toNat_mod,fA]
   show A / B % 18446744073709551616 % 2=_
   omega
  by_cases c:A / B % 2=1
  ·rw [aa c,aa (gf (by rw [e6,c];rfl))]
  ·rw [ab c,ab (fun h=>c (by rw [←e6,h];rfl))]
 have e9:v9=UInt64.ofNat (A / B+1):=gf (by
  rw [h9,UInt64.toNat_add,fA,fA]
  show (A / B % 18446744073709551616+1) % 18446744073709551616=_
  omega)
 have TU:decide (v9=9007199254740992)=decide (A / B+1=9007199254740992):=by
  by_cases c:A / B+1=9007199254740992
  ·rw [aa c,e9,c];rfl
  ·rw [ab c,ab (fun h=>c (by
    have:=congrArg UInt64.toNat h
    rw [e9,fA] at this
    have e0:(9007199254740992:UInt64).toNat=9007199254740992:=rfl
    omega))]
 rw [e6] at h7
 rcases pd (2 * (A % B)) B with ⟨q1,q2⟩ | ⟨q1,q2⟩ | ⟨q1,q2⟩
 ·rw [q1] at h4
  subst h4
  have e7:v7=false:=h7
  have e8:v8=false:=by rw [h8,e7];rfl
  have e5:v5=false:=h5
  have hn:Nr.vh A B=A / B:=by unfold Nr.vh;rw [ao (by omega)]
  have hu:Nr.mz A B=false:=by unfold Nr.mz;rw [hn];exact ab (by omega)
  rw [e8,e5,hn,hu];rfl
 ·rw [q1] at h4
  subst h4
  have e7:v7=decide (A / B % 2=1):=h7
  have e8:v8=decide (A / B % 2=1):=by rw [h8,e7];rfl
  have e5:v5=true:=h5
  rw [e8,e5]
  refine Eq.trans (b:=cond (decide (A / B % 2=1)) (some [.u64 v9,.b (decide (v9=9007199254740992))]) (some [.u64 (UInt64.ofNat (A / B)),.b false])) rfl ?_
  by_cases c:A / B % 2=1
  ·have hn:Nr.vh A B=A / B+1:=by unfold Nr.vh;rw [au (.inr ⟨q2.symm,c⟩)]
   have hu:Nr.mz A B=decide (A / B+1=9007199254740992):=by
    unfold Nr.mz;rw [hn]
    by_cases d:A / B+1=9007199254740992
    ·rw [aa d,aa ⟨rfl,d⟩]
    ·rw [ab d,ab (fun h=>d h.2)]
   rw [aa c,ah,TU,e9,hn,hu]
  ·have hn:Nr.vh A B=A / B:=by unfold Nr.vh;rw [ao (by omega)]
   have hu:Nr.mz A B=false:=by unfold Nr.mz;rw [hn];exact ab (by omega)
   rw [ab c,ae,hn,hu]
 ·rw [q1] at h4
  subst h4
  have e7:v7=false:=h7
  have e8:v8=true:=by rw [h8];rfl
  have e5:v5=false:=h5
  have hn:Nr.vh A B=A / B+1:=by unfold Nr.vh;rw [au (.inl q2)]
  have hu:Nr.mz A B=decide (A / B+1=9007199254740992):=by
   unfold Nr.mz;rw [hn]
   by_cases d:A / B+1=9007199254740992
   ·rw [aa d,aa ⟨rfl,d⟩]
   ·rw [ab d,ab (fun h=>d h.2)]
  rw [e8,e5]
  refine Eq.trans (b:=some [.u64 v9,.b (decide (v9=9007199254740992))]) rfl ?_
  rw [TU,e9,hn,hu]
theorem cJ.goal (a b:List UInt16) (e:Int) (hp:(Nt.is a&&Nt.is b&&decide (-4096≤e∧e≤4096∧0<Nt.val b∧Nr.jK (Nt.val a) e<2 ^ 4090∧Nr.jE (Nt.val b) e<2 ^ 4090∧Nr.jK (Nt.val a) e<2 ^ 60 * Nr.jE (Nt.val b) e))=true) :
  cJ.F a b e=some [.u64 (UInt64.ofNat (Nr.vh (Nr.jK (Nt.val a) e) (Nr.jE (Nt.val b) e))),.b (Nr.mz (Nr.jK (Nt.val a) e) (Nr.jE (Nt.val b) e))]:=by
 simp only [af,aA] at hp
 obtain ⟨⟨ha,hb⟩,p1,p2,p3,p4,p5,p6⟩:=hp
 have key:=cJ.iz (Nr.jK (Nt.val a) e) (Nr.jE (Nt.val b) e) (Nr.sR p3 e) p4 p5 p6
 refine cJ.bY _ _ _ ?_
 intro v1 h1 v2 h2
 by_cases c:e<0
 ·have ew:IntKind.i64.wrap (0 - e)=-e:=by rw [i64_in _ (by omega)];omega
  rw [ew] at h1
  have eB:Nr.jE (Nt.val b) e=Nt.val b:=by unfold Nr.jE;rw [show e.toNat=0 by omega,Nat.pow_zero,Nat.mul_one]
  rw [aa c,ah,ew,ha,aa (show 0≤-e∧-e≤4096 by omega)]
  refine (bx (by rfl)).trans ?_
  rw [h1,←Nt.dJ (Nt.jB hb)]
  rw [eB] at key
  rw [Nt.eY,eB]
  exact key
 ·have eA:Nr.jK (Nt.val a) e=Nt.val a:=by unfold Nr.jK;rw [show (-e).toNat=0 by omega,Nat.pow_zero,Nat.mul_one]
  rw [ab c,ae,hb,aa (show 0≤e∧e≤4096 by omega)]
  refine (bx (by rfl)).trans ?_
  rw [h2,←Nt.dJ (Nt.jB ha)]
  rw [eA] at key
  rw [Nt.eY,eA]
  exact key
end Go.Eng
set_option maxRecDepth 20000
namespace Go.Eng
open Go.IntWalk
namespace Nr
theorem FC {a b i j t:Nat} {E:Int} (ha:a<2 ^ i) (hb:2 ^ (j - 1)≤b) (hj:0<j) (h:(i:Int) - j+1 - E≤t):jK a E<2 ^ t * jE b E:=by
 unfold jK jE
 have h1:a * 2 ^ (-E).toNat<2 ^ (i+(-E).toNat):=by rw [Nat.pow_add];exact Nat.mul_lt_mul_of_pos_right ha (Nat.two_pow_pos _)
 have h2:2 ^ (t+(j - 1)+E.toNat)≤2 ^ t * (b * 2 ^ E.toNat):=by
  rw [Nat.pow_add,Nat.pow_add,Nat.mul_assoc];exact Nat.mul_le_mul_left _ (av _ hb)
 have h3:2 ^ (i+(-E).toNat)≤2 ^ (t+(j - 1)+E.toNat):=Nat.pow_le_pow_right (by omega) (by omega)
 exact Nat.lt_of_lt_of_le h1 (Nat.le_trans h3 h2)
theorem N9 {a b i j t:Nat} {E:Int} (ha:2 ^ (i - 1)≤a) (hi:0<i) (hb:b<2 ^ j) (h:(t:Int)≤(i:Int) - 1 - j - E):2 ^ t * jE b E≤jK a E:=by
 unfold jK jE
 have h1:2 ^ (i - 1+(-E).toNat)≤a * 2 ^ (-E).toNat:=by rw [Nat.pow_add];exact av _ ha
 have h2:2 ^ t * (b * 2 ^ E.toNat)≤2 ^ (t+j+E.toNat):=by
  rw [Nat.pow_add,Nat.pow_add,Nat.mul_assoc];exact Nat.mul_le_mul_left _ (av _ (Nat.le_of_lt hb))
 have h3:2 ^ (t+j+E.toNat)≤2 ^ (i - 1+(-E).toNat):=Nat.pow_le_pow_right (by omega) (by omega)
 exact Nat.le_trans h2 (Nat.le_trans h3 h1)
theorem IU (a b:Nat) (E:Int):(jK a (E+1)=jK a E∧jE b (E+1)=2 * jE b E)∨(jK a E=2 * jK a (E+1)∧jE b (E+1)=jE b E):=by
 unfold jK jE
 by_cases c:0≤E
 ·left
  rw [show (-(E+1)).toNat=0 by omega,show (-E).toNat=0 by omega,show (E+1).toNat=E.toNat+1 by omega,Nat.pow_succ,←Nat.mul_assoc,Nat.mul_comm _ 2]
  exact ⟨rfl,rfl⟩
 ·right
  rw [show (-E).toNat=(-(E+1)).toNat+1 by omega,show (E+1).toNat=0 by omega,show E.toNat=0 by omega,Nat.pow_succ,←Nat.mul_assoc,Nat.mul_comm _ 2]
  exact ⟨rfl,rfl⟩
end Nr
theorem kh {a i k:Nat} (h:a<2 ^ i) (hk:i≤k):a<2 ^ k:=Nat.lt_of_lt_of_le h (Nat.pow_le_pow_right (by omega) hk)
theorem uk {a i j k:Nat} (h:a<2 ^ i) (hk:i+j≤k):a * 2 ^ j<2 ^ k:=by
 refine kh (i:=i+j) ?_ hk
 rw [Nat.pow_add];exact Nat.mul_lt_mul_of_pos_right h (Nat.two_pow_pos _)
theorem dr.iz (E : Int) (M : Nat) (hM : M < 2 ^ 64) (hE : -1074 ≤ E ∧ E ≤ 2000) (a b : Nat) (h : Nr.je a b = Nr.join false M E) : dr.j1 E (UInt64.ofNat M) = some [.u64 (Nr.pat (Nr.je a b)), .b (Nr.je a b).isSome] := by
  refine dr.iR _ _ ?_
  intro v1 h1 v2 h2
  have e : (UInt64.ofNat M).toNat = M := by rw [fA]; have : (2 : Nat) ^ 64 = 18446744073709551616 := by decide
                                            omega
  rw [e, ← h] at h1 h2
  rw [bx (aa (by omega)), h1, h2]
theorem dr.goal (a b:List UInt16) (hp:(Nt.is a&&Nt.is b&&decide (0<Nt.val a∧0<Nt.val b∧Nt.val a<2 ^ 1100∧Nt.val b<2 ^ 2200))=true):dr.F a b=some [.u64 (Nr.pat (Nr.je (Nt.val a) (Nt.val b))),.b (Nr.je (Nt.val a) (Nt.val b)).isSome]:=by
 simp only [af,aA] at hp
 obtain ⟨⟨ha,hb⟩,p1,p2,p3,p4⟩:=hp
 refine dr.bY _ _ ?_
 intro v1 h1 v2 h2 v3 h3 v4 h4 v5 h5 v6 h6 v7 h7 v8 h8
 obtain ⟨i1,i2,i3⟩:=Nt.jy p1
 obtain ⟨j1,j2,j3⟩:=Nt.jy p2
 have i4:=Nt.kQ p3
 have j4:=Nt.kQ p4
 generalize Nt.bits (Nt.val a)=i at *
 generalize Nt.bits (Nt.val b)=j at *
 generalize Nt.val a=A at *
 generalize Nt.val b=B at *
 have e1:v1=(i:Int) - j:=by rw [h1,i64_in _ (by omega)]
 have e2:v2=(i:Int) - j - 53:=by rw [h2,e1,i64_in _ (by omega)]
 have em:nZ v2 (-1074)=max ((i:Int) - j - 53) (-1074):=by rw [e2];unfold nZ;split <;> omega
 rw [em] at h3 h4 h6 ⊢
 generalize hE:max ((i:Int) - j - 53) (-1074)=E at *
 have YQ : -1074≤E∧E≤1046:=by omega
 have e6:v6=E+1:=by rw [h6,i64_in _ (by omega)]
 rw [e6] at h7 h8
 have TF:∀E:Int,-1074≤E→E≤1047→Nr.jK A E<2 ^ 4090∧Nr.jE B E<2 ^ 4090:=fun E h1 h2=>by
  unfold Nr.jK Nr.jE
  constructor
  ·exact uk (k:=4090) i2 (by omega)
  ·exact uk (k:=4090) j2 (by omega)
 obtain ⟨a1,a2⟩:=TF E (by omega) (by omega)
 obtain ⟨a3,a4⟩:=TF (E+1) (by omega) (by omega)
 have t54:Nr.jK A E<2 ^ 54 * Nr.jE B E:=Nr.FC i2 j1 j3 (by omega)
 have t60:Nr.jK A E<2 ^ 60 * Nr.jE B E:=Nr.FC i2 j1 j3 (by omega)
 have QY:Nr.jK A (E+1)<2 ^ 60 * Nr.jE B (E+1):=Nr.FC i2 j1 j3 (by omega)
 have hB:=Nr.sR p2 E
 have TD:=Nr.sR p2 (E+1)
 have hn:=Nr.IU A B E
 have Yd:Nr.jK A E / Nr.jE B E<2 ^ 54:=(Nat.div_lt_iff_lt_mul hB).2 t54
 have R5:(2:Nat) ^ 54=18014398509481984:=by decide
 have VZ:(2:Nat) ^ 64=18446744073709551616:=by decide
 rw [ha,hb,bx rfl,bx rfl,e6,aa (show -4096≤E∧E≤4096∧0<B∧Nr.jK A E<2 ^ 4090∧Nr.jE B E<2 ^ 4090∧Nr.jK A E<2 ^ 60 * Nr.jE B E from ⟨by omega,by omega,p2,a1,a2,t60⟩),aa (show -4096≤E+1∧E+1≤4096∧0<B∧Nr.jK A (E+1)<2 ^ 4090∧Nr.jE B (E+1)<2 ^ 4090∧Nr.jK A (E+1)<2 ^ 60 * Nr.jE B (E+1) from ⟨by omega,by omega,p2,a3,a4,QY⟩)]
 refine (bx (by rfl)).trans ?_
 have px:∀b:Bool,(!b || b)=true:=by decide
 rw [bx (px _),bx (px _)]
 have hr:=Nr.rb (Nr.jK A E) (Nr.jE B E)
 have Vp:Nr.mz (Nr.jK A E) (Nr.jE B E)=decide (Nr.vh (Nr.jK A E) (Nr.jE B E)=Nr.jK A E / Nr.jE B E+1∧Nr.vh (Nr.jK A E) (Nr.jE B E)=9007199254740992):=rfl
 rw [Vp] at h4
 generalize hQ:Nr.jK A E / Nr.jE B E=Q at *
 generalize hM:Nr.vh (Nr.jK A E) (Nr.jE B E)=M at *
 have e3:decide ((9007199254740992:UInt64)≤v3)=decide (9007199254740992≤M):=by
  have ev:v3.toNat=M:=by rw [h3,fA];omega
  by_cases c:9007199254740992≤M
  ·rw [aa c,aa (aJ.2 (by rw [ev];exact c))]
  ·rw [ab c,ab (fun h=>c (by have:=aJ.1 h;rw [ev] at this;exact this))]
 have e5:v5=decide (9007199254740992≤M∧¬(M=Q+1∧M=9007199254740992)):=by
  rw [h5,e3,h4]
  by_cases c:9007199254740992≤M
  ·rw [aa c,ah]
   by_cases d:M=Q+1∧M=9007199254740992
   ·rw [aa d,ab (fun h=>h.2 d)];rfl
   ·rw [ab d,aa ⟨c,d⟩];rfl
  ·rw [ab c,ae,ab (fun h=>c h.1)]
 by_cases c:9007199254740992≤M∧¬(M=Q+1∧M=9007199254740992)
 ·have Sd:9007199254740992≤Q:=by omega
  rw [e5,aa c,ah]
  refine (bx (by rfl)).trans ?_
  have g1:9007199254740992 * Nr.jE B E≤Nr.jK A E:=(Nat.le_div_iff_mul_le hB).1 (by rw [hQ];exact Sd)
  have g2:4503599627370496≤Nr.jK A (E+1) / Nr.jE B (E+1):=(Nat.le_div_iff_mul_le TD).2 (by rcases hn with ⟨n1,n2⟩ | ⟨n1,n2⟩ <;> rw [n2] <;> omega)
  have g3:Nr.jK A (E+1) / Nr.jE B (E+1)<9007199254740992:=(Nat.div_lt_iff_lt_mul TD).2 (by rw [R5] at t54;rcases hn with ⟨n1,n2⟩ | ⟨n1,n2⟩ <;> rw [n2] <;> omega)
  have EN:=Nr.rb (Nr.jK A (E+1)) (Nr.jE B (E+1))
  rw [h7]
  exact dr.iz (E+1) _ (by omega) (by omega) A B (Nr.vV p2 (by omega) (.inl g2) g3)
 ·rw [e5,ab c,ae,h3]
  have g3:Q<9007199254740992:=by omega
  refine dr.iz E M (by omega) (by omega) A B ?_
  rw [←hM]
  refine Nr.vV p2 (by omega) ?_ (by rw [hQ];exact g3)
  by_cases d:E=-1074
  ·exact .inr d
  ·left
   refine (Nat.le_div_iff_mul_le hB).2 ?_
   have:=Nr.N9 (t:=52) (E:=E) i1 i3 j2 (by omega)
   rw [show (2:Nat) ^ 52=4503599627370496 by decide] at this
   exact this
end Go.Eng
set_option maxRecDepth 20000
namespace Go.Eng
open Go.IntWalk
namespace Nr
theorem I5 (b:bz):∀n:Nat,b.foldl (fun n c=>10 * n+(c.toNat - 48)) n=n * 10 ^ b.length+num b:=by
 induction b with
 | nil=>intro n;simp [num]
 | cons c r ih =>
  intro n
  unfold num
  rw [List.foldl_cons,List.foldl_cons,ih,ih,az,Nat.pow_succ,Nat.mul_zero,Nat.zero_add,Nat.add_mul,Nat.mul_comm 10 n,Nat.mul_assoc,Nat.mul_comm 10 (10 ^ _)]
  omega
theorem ia (a b:bz):num (a++b)=num a * 10 ^ b.length+num b:=by
 unfold num
 rw [List.foldl_append,I5];rfl
theorem zb (c:UInt8) (r:bz):num (c :: r)=(c.toNat - 48) * 10 ^ r.length+num r:=by
 have:=ia [c] r
 rw [List.singleton_append] at this
 rw [this];simp [num]
theorem kn (t:Nat):num (List.replicate t 48)=0:=by
 induction t with
 | zero=>rfl
 | succ t ih=>rw [List.replicate_succ,zb,ih];simp
theorem jQ (p:UInt8→Bool):∀d:bz,∃a,d=a++d.dropWhile p∧a.all p=true∧(d.dropWhile p=[]∨p ((d.dropWhile p).getD 0 0)=false)
 | []=>⟨[],rfl,rfl,.inl rfl⟩
 | c :: r=>by
  rw [List.dropWhile_cons]
  cases h:p c
  ·rw [ao (by simp)]
   exact ⟨[],rfl,rfl,.inr h⟩
  ·rw [au rfl]
   obtain ⟨a,h1,h2,h3⟩:=jQ p r
   exact ⟨c :: a,by rw [List.cons_append,←h1],by rw [List.all_cons,h,h2];rfl,h3⟩
theorem BZ:∀{a:bz},(a.all (· == 48))=true→a=List.replicate a.length 48
 | [],_=>rfl
 | c :: r,h=>by
  rw [List.all_cons,af] at h
  rw [az,List.replicate_succ,←BZ h.2]
  congr 1
  simpa using h.1
theorem xp (d:bz):∃z,d=List.replicate z 48++uz d∧(uz d=[]∨(uz d).getD 0 0≠48):=by
 obtain ⟨a,h1,h2,h3⟩:=jQ (· == 48) d
 refine ⟨a.length,?_,?_⟩
 ·rw [←BZ h2];exact h1
 ·rcases h3 with h3 | h3
  ·exact .inl h3
  ·exact .inr (by unfold uz;simpa using h3)
theorem lB (d:bz):∃t,d=gw d++List.replicate t 48∧(gw d=[]∨(gw d).getLast?≠some 48):=by
 obtain ⟨a,h1,h2,h3⟩:=jQ (· == 48) d.reverse
 refine ⟨a.length,?_,?_⟩
 ·have e:d=(a++d.reverse.dropWhile (· == 48)).reverse:=by rw [←h1,List.reverse_reverse]
  rw [List.reverse_append,BZ h2,List.reverse_replicate] at e
  exact e
 ·rcases h3 with h3 | h3
  ·left;unfold gw;rw [h3];rfl
  ·right
   unfold gw
   rw [List.getLast?_reverse]
   intro h
   cases hd:d.reverse.dropWhile (· == 48) with
   | nil=>rw [hd] at h;cases h
   | cons c r =>
    rw [hd] at h h3
    have:c=48:=by simpa using h
    subst this
    simp at h3
theorem vx (b:UInt8):([48,49,50,51,52,53,54,55,56,57]:bz).contains b=eU b:=by
 have h:∀n,n<256→([48,49,50,51,52,53,54,55,56,57]:bz).contains (UInt8.ofNat n)=eU (UInt8.ofNat n):=by decide +kernel
 have:=h b.toNat b.toNat_lt
 rwa [UInt8.ofNat_toNat] at this
theorem Fe (d:bz):Lib.trimLeftS d [48]=uz d:=by
 rw [Lib.trimLeftS_one];rfl
theorem yC (d:bz):Lib.trimRightS d [48]=gw d:=by
 rw [Lib.trimRightS_one];rfl
theorem dropWhile_nil {p:UInt8→Bool}:∀{l:bz},l.dropWhile p=[] ↔ l.all p=true
 | []=>by simp
 | c :: r=>by
  rw [List.dropWhile_cons,List.all_cons]
  cases h:p c
  ·simp
  ·rw [au rfl,dropWhile_nil];simp
theorem se (d:bz):(Lib.trimS d [48,49,50,51,52,53,54,55,56,57]=[]) ↔ d.all eU=true:=by
 have e:(fun b=>([48,49,50,51,52,53,54,55,56,57]:bz).contains b)=eU:=funext vx
 have h1:∀l:bz,Lib.trimLeftS l [48,49,50,51,52,53,54,55,56,57]=l.dropWhile eU:=fun l=>by unfold Lib.trimLeftS;rw [e]
 have h2:∀l:bz,Lib.trimRightS l [48,49,50,51,52,53,54,55,56,57]=(l.reverse.dropWhile eU).reverse:=fun l=>by unfold Lib.trimRightS;rw [e]
 unfold Lib.trimS
 rw [h1,h2,dropWhile_nil,List.all_reverse]
 constructor
 ·intro h
  obtain ⟨a,q1,q2,q3⟩:=jQ eU d.reverse
  have hn:d.reverse.dropWhile eU=[]:=by
   rcases q3 with q3 | q3
   ·exact q3
   ·cases hd:d.reverse.dropWhile eU with
    | nil=>rfl
    | cons c r =>
     rw [hd] at h q3
     rw [List.all_cons,af] at h
     have:eU c=false:=q3
     rw [this] at h;cases h.1
  rw [dropWhile_nil,List.all_reverse] at hn
  exact hn
 ·intro h
  rw [(dropWhile_nil (l:=d.reverse)).2 (by rw [List.all_reverse];exact h)];rfl
theorem xn {d:bz} (h:d.all eU=true) (h0:d≠[]) (h1:d.getD 0 0≠48):10 ^ (d.length - 1)≤num d:=by
 cases d with
 | nil=>exact (h0 rfl).elim
 | cons c r =>
  rw [List.all_cons,af] at h
  have hc:=mZ.1 h.1
  have h1:c≠48:=h1
  have Ik:c.toNat≠48:=fun e=>h1 (UInt8.toNat_inj.1 e)
  rw [zb,az,Nat.add_sub_cancel]
  have:1 * 10 ^ r.length≤(c.toNat - 48) * 10 ^ r.length:=av _ (by omega)
  omega
theorem AX:jP≤10 ^ 324:=by decide +kernel
theorem AY:wZ≤10 ^ 309:=by decide +kernel
theorem fT (k:Nat):0<10 ^ k:=Nat.pow_pos (by omega)
theorem mK {a b:Nat} (h:a≤b):10 ^ a≤10 ^ b:=Nat.pow_le_pow_right (by omega) h
theorem ID {a b i j k:Nat} (h1:a≤10 ^ i) (h2:b≤10 ^ j) (h:i+j≤k):a * b≤10 ^ k:=by
 refine Nat.le_trans (Nat.mul_le_mul h1 h2) ?_
 rw [←Nat.pow_add];exact mK h
theorem Fj {a b i j k l:Nat} (h1:a≤10 ^ i) (h2:10 ^ k≤b) (h:i+j≤k+l):a * 10 ^ j≤b * 10 ^ l:=by
 refine Nat.le_trans (av _ h1) (Nat.le_trans ?_ (av _ h2))
 rw [←Nat.pow_add,←Nat.pow_add];exact mK h
theorem FK {N L:Nat} {k:Int} (hN:N<10 ^ L) (h:k+L≤-324):rd N k=some 0:=by
 unfold rd
 refine FY (fT _) ?_
 rw [show k.toNat=0 by omega,Nat.pow_zero,Nat.mul_one]
 exact ID (Nat.le_of_lt hN) AX (by omega)
theorem Ck {N L:Nat} {k:Int} (hN:10 ^ (L - 1)≤N) (hL:0<L) (h:310≤k+L):rd N k=none:=by
 unfold rd
 refine DT (fT _) ?_
 exact Fj AY hN (by omega)
theorem IX (k:Int):rd 0 k=some 0:=by
 unfold rd
 rw [Nat.zero_mul];exact DS _ (fT _)
theorem uh (N t:Nat) (k:Int):rd (N * 10 ^ t) k=rd N (k+t):=by
 unfold rd
 refine Bo (fT _) (fT _) ?_
 rw [Nat.mul_assoc,Nat.mul_assoc,Nat.mul_assoc,←Nat.pow_add,←Nat.pow_add,←Nat.pow_add]
 congr 2
 omega
theorem iQ {p:UInt8→Bool} {d a b:bz} (h:d.all p=true) (e:d=a++b):a.all p=true∧b.all p=true:=by
 rw [e,List.all_append,af] at h
 exact h
end Nr
theorem jg {n i:Nat} (h:n<2 ^ i) (hi:i≤4096):Nt.is (Nt.of n)=true:=Nt.pD (kh (k:=4096) h hi)
theorem eh.iz (A B:Nat) (hA:0<A) (hB:0<B) (TG:A<2 ^ 1100) (Sj:B<2 ^ 2200):eh.j1 (Nt.of A) (Nt.of B)=some [.u64 (Nr.pat (Nr.je A B)),.b (Nr.je A B).isSome]:=by
 refine eh.iR _ _ ?_
 intro v1 h1 v2 h2
 rw [Nt.eY,Nt.eY] at h1 h2
 rw [Nt.eY,Nt.eY,jg TG (by omega),jg Sj (by omega),aa ⟨hA,hB,TG,Sj⟩]
 refine (bx (by rfl)).trans ?_
 rw [h1,h2]
theorem B9:(10:Nat) ^ 310<2 ^ 1100∧(10:Nat) ^ 631<2 ^ 2200:=by decide +kernel
theorem eh.goal (d:bz) (x:Int):eh.F d x=some [.u64 (Nr.pat (Nr.read d x)),.b (Nr.read d x).isSome]:=by
 refine eh.bY _ _ ?_
 intro v1 h1 v2 h2 v3 h3 v4 h4 v5 h5 v6 h6 v7 h7 v8 h8 v9 h9 v10 iS v11 kA v12 jM
 have px:∀b:Bool,(!(!b) || !b)=true∧(b || !b)=true:=by decide
 have e1:v1=!decide (1≤d.length∧d.length≤300):=by
  rw [h1]
  by_cases c:1≤d.length∧d.length≤300
  ·rw [aa c,ab (by omega),ae,ab (by omega)];rfl
  ·rw [ab c]
   by_cases d0:(d.length:Int)<1
   ·rw [aa d0];rfl
   ·rw [ab d0,ae,aa (by omega)];rfl
 have e3:v3=!Nr.valid d:=by
  unfold Nr.valid
  rw [h3,e1,h2]
  have:decide (Lib.trimS d [48,49,50,51,52,53,54,55,56,57]=[])=d.all Nr.eU:=by
   by_cases c:d.all Nr.eU=true
   ·rw [c,aa ((Nr.se d).2 c)]
   ·rw [ab (fun h=>c ((Nr.se d).1 h))];exact (Bool.eq_false_iff.2 c).symm
  rw [this]
  cases decide (1≤d.length∧d.length≤300) <;> cases d.all Nr.eU <;> rfl
 rw [bx (px _).1,bx (px _).1,bx (px _).2]
 have c4:(!(!v1) || ((!v1)&&(decide (d.length≤1099511627776∧([48,49,50,51,52,53,54,55,56,57]:bz).length≤100)&&([48,49,50,51,52,53,54,55,56,57]:bz).all (fun b=>decide (b.toNat<128)))))=true:=by
  rw [e1]
  by_cases c:1≤d.length∧d.length≤300
  ·rw [aa c,aa (show d.length≤1099511627776∧([48,49,50,51,52,53,54,55,56,57]:bz).length≤100 from ⟨by omega,by decide⟩)];rfl
  ·rw [ab c];rfl
 rw [bx c4,bx (px _).1,bx (px _).2,e3]
 unfold Nr.read
 cases hv:Nr.valid d
 ·rfl
 ·rw [au rfl]
  refine Eq.trans (b:=_) (ae _ _) ?_
  unfold Nr.valid at hv
  rw [af] at hv
  obtain ⟨hl,hd⟩:=hv
  obtain ⟨l1,l2⟩:=aq hl
  rw [Nr.Fe] at h4
  rw [Nr.yC] at h7
  obtain ⟨z,z1,z2⟩:=Nr.xp d
  rw [←h4] at z1 z2
  obtain ⟨t,t1,t2⟩:=Nr.lB v4
  rw [←h7] at t1 t2
  have hd4:=(Nr.iQ hd z1).2
  have R4:=(Nr.iQ hd4 t1).1
  have lz:d.length=z+v4.length:=by
   have:=congrArg List.length z1
   rw [aj,List.length_replicate] at this
   exact this
  have lt:v4.length=v7.length+t:=by
   have:=congrArg List.length t1
   rw [aj,List.length_replicate] at this
   exact this
  have nz:Nr.num d=Nr.num v4:=by
   have:=congrArg Nr.num z1
   rw [Nr.ia,Nr.kn,Nat.zero_mul,Nat.zero_add] at this
   exact this
  have nt:Nr.num v4=Nr.num v7 * 10 ^ t:=by
   have:=congrArg Nr.num t1
   rw [Nr.ia,Nr.kn,List.length_replicate,Nat.add_zero] at this
   exact this
  have Pu:∀s:bz,s.length≤300→(decide (s.length≤1099511627776∧([48]:bz).length≤100)&&([48]:bz).all (fun b=>decide (b.toNat<128)))=true:=fun s hs=>by
   rw [aa (show s.length≤1099511627776∧([48]:bz).length≤100 from ⟨by omega,by decide⟩)];rfl
  rw [bx (Pu d l2),bx (px _).1,bx (px _).2,nz]
  by_cases c0:v4=[]
  ·have e5:v5=true:=by rw [h5,aa c0];rfl
   rw [e5,ah,c0]
   rw [show Nr.num []=0 from rfl,Nr.IX];rfl
  ·rw [ab c0,ae] at h5
   have z2:v4.getD 0 0≠48:=z2.resolve_left c0
   have p4:0<v4.length:=List.length_pos_iff.2 c0
   have b1:=Nr.xm v4 hd4
   have b2:=Nr.xn hd4 c0 z2
   by_cases c1:x < -1000
   ·rw [h5,aa c1,ah,Nr.FK b1 (by omega)];rfl
   ·rw [h5,ab c1,ae]
    by_cases c2:1000<x
    ·rw [aa c2,ah,Nr.Ck b2 p4 (by omega)];rfl
    ·have e6:v6=z:=by rw [h6,i64_in _ (by omega)];omega
     have ex:IntKind.i64.wrap (x - v6)=x - z:=by rw [e6,i64_in _ (by omega)]
     rw [ab c2,ae,bx (Pu v4 (by omega)),ex]
     by_cases c3:x - z < -330
     ·rw [aa c3,ah,Nr.FK b1 (by omega)];rfl
     ·rw [ab c3,ae]
      by_cases c4:310<x - (z:Int)
      ·rw [aa c4,ah,Nr.Ck b2 p4 (by omega)];rfl
      ·rw [ab c4,ae]
       have n7:v7≠[]:=by
        intro e
        rw [e] at nt
        have:=Nr.fT (v4.length - 1)
        rw [show Nr.num []=0 from rfl,Nat.zero_mul] at nt
        omega
       have p7:0<v7.length:=List.length_pos_iff.2 n7
       have g7:v7.getD 0 0=v4.getD 0 0:=by
        rw [t1,ai,ai,List.getElem?_append_left (by omega)]
       have e9:v9=x - z - v7.length:=by rw [h9,ex,i64_in _ (by omega)]
       have w7:=Nr.xm v7 R4
       have UQ:=Nr.xn R4 n7 (by rw [g7];exact z2)
       have SJ:0<Nr.num v7:=Nat.lt_of_lt_of_le (Nr.fT _) UQ
       have L4:Nr.rd (Nr.num v4) (x - (d.length:Int))=Nr.rd (Nr.num v7) v9:=by
        rw [nt,Nr.uh];congr 1;omega
       rw [L4,bx (by rw [aa (show 1≤v7.length∧v7.length≤300∧v7.getD 0 0≠48 from ⟨by omega,by omega,by rw [g7];exact z2⟩),R4];rfl)]
       have hB:∀k:Nat,k≤631→(10:Nat) ^ k<2 ^ 2200:=fun k hk=>Nat.lt_of_le_of_lt (Nr.mK hk) B9.2
       have hA:∀k:Nat,k≤310→(10:Nat) ^ k<2 ^ 1100:=fun k hk=>Nat.lt_of_le_of_lt (Nr.mK hk) B9.1
       by_cases c5:0≤v9
       ·have ep:Nr.num v7 * 10 ^ v9.toNat<10 ^ (v7.length+v9.toNat):=by
         rw [Nat.pow_add];exact Nat.mul_lt_mul_of_pos_right w7 (Nr.fT _)
        have Ew:v10=Nt.of (10 ^ v9.toNat):=iS
        have MS:v11=Nt.of (Nr.num v7 * 10 ^ v9.toNat):=by rw [kA,Ew,Nt.eY,Nt.eY]
        have e8:v8=Nt.of 1:=h8
        rw [aa c5,ah,bx (aa ⟨by omega,by omega,by omega,by omega,kh (k:=4096) (hB v9.toNat (by omega)) (by omega)⟩),Ew,jg (hB v9.toNat (by omega)) (by omega),jg (Nat.lt_trans w7 (hB v7.length (by omega))) (by omega)]
        refine (bx (by rfl)).trans ?_
        rw [MS,e8,eh.iz _ 1 (Nat.mul_pos SJ (Nr.fT _)) (by omega) (Nat.lt_trans ep (hA _ (by omega))) (hB 0 (by omega))]
        unfold Nr.rd
        rw [show (-v9).toNat=0 by omega,Nat.pow_zero]
       ·have ew:IntKind.i64.wrap (0 - v9)=-v9:=by rw [i64_in _ (by omega)];omega
        rw [ew] at jM
        have JI:v12=Nt.of (10 ^ (-v9).toNat):=jM
        rw [ab c5,ae,ew,bx (aa ⟨by omega,by omega,by omega,by omega,kh (k:=4096) (hB (-v9).toNat (by omega)) (by omega)⟩),JI]
        rw [eh.iz _ _ SJ (Nr.fT _) (Nat.lt_trans w7 (hA v7.length (by omega))) (hB _ (by omega))]
        unfold Nr.rd
        rw [show v9.toNat=0 by omega,Nat.pow_zero,Nat.mul_one]
end Go.Eng
set_option maxRecDepth 20000
namespace Go.Eng
open Go.IntWalk
namespace Nr
end Nr
namespace Nr
theorem yS (s:bz) (c:UInt8):gw (s++[c])=if c=48 then gw s else s++[c]:=by
 unfold gw
 rw [List.reverse_append,List.reverse_singleton,List.singleton_append,List.dropWhile_cons]
 by_cases h:c=48
 ·rw [au (by simp [h]),au h]
 ·rw [ao (by simp [h]),ao h];simp
theorem A1 (s:bz):s=[]∨∃a c,s=a++[c]:=by
 cases h:s.reverse with
 | nil=>left;simpa using h
 | cons c r=>right;exact ⟨r.reverse,c,by have:=congrArg List.reverse h;simpa using this⟩
theorem qx {c:UInt8} (h:eU c=true):c=UInt8.ofNat (48+(c.toNat - 48)):=by
 have:=mZ.1 h
 rw [show 48+(c.toNat - 48)=c.toNat by omega,UInt8.ofNat_toNat]
theorem pW:∀(n:Nat) (s:bz),s.length=n→s.all eU=true→s≠[]→s.getD 0 0≠48→s=dec (num s):=by
 intro n
 induction n with
 | zero=>intro s hs _ h0 _;exact (h0 (List.length_eq_zero_iff.1 hs)).elim
 | succ n ih =>
  intro s hs hd h0 h1
  rcases A1 s with h | ⟨a,c,rfl⟩
  ·exact (h0 h).elim
  ·obtain ⟨d1,d2⟩:=iQ hd rfl
   rw [List.all_cons,af] at d2
   have hc:=mZ.1 d2.1
   rw [uu]
   by_cases ha:a=[]
   ·subst ha
    rw [show num []=0 from rfl,nn (by omega)]
    rw [Nat.mul_zero,Nat.zero_add,←qx d2.1];rfl
   ·have Tp:a.getD 0 0≠48:=by
     have hl:=List.length_pos_iff.2 ha
     rw [ai,List.getElem?_append_left hl,←ai] at h1
     exact h1
    have hg:=xn d1 ha Tp
    have:=fT (a.length - 1)
    rw [qH (by omega),show (10 * num a+(c.toNat - 48)) / 10=num a by omega,show (10 * num a+(c.toNat - 48)) % 10=c.toNat - 48 by omega,←qx d2.1]
    rw [aj,ay] at hs
    rw [←ih a (by omega) d1 ha Tp]
theorem j8 (n:Nat):(dec n).all eU=true∧num (dec n)=n∧(dec n≠[])∧(0<n→(dec n).getD 0 0≠48):=by
 induction n using Nat.strongRecOn with
 | _ n ih =>
  have O3:∀k,k<10→eU (UInt8.ofNat (48+k))=true∧(UInt8.ofNat (48+k)).toNat=48+k:=fun k hk=>by
   have:(UInt8.ofNat (48+k)).toNat=48+k:=by simp;omega
   exact ⟨mZ.2 (by omega),this⟩
  by_cases c:n<10
  ·rw [nn c]
   obtain ⟨h1,h2⟩:=O3 n c
   refine ⟨by rw [List.all_cons,h1];rfl,by simp only [num,List.foldl_cons,List.foldl_nil,h2];omega,by simp,fun h e=>?_⟩
   have:=congrArg UInt8.toNat e
   have e2:([UInt8.ofNat (48+n)].getD 0 0).toNat=48+n:=h2
   rw [e2] at this
   have e3:(48:UInt8).toNat=48:=rfl
   omega
  ·obtain ⟨i1,i2,i3,i4⟩:=ih (n / 10) (by omega)
   obtain ⟨h1,h2⟩:=O3 (n % 10) (by omega)
   rw [qH c]
   refine ⟨by rw [List.all_append,i1,List.all_cons,h1];rfl,by rw [uu,i2,h2];omega,by simp,fun _=>?_⟩
   rw [ai,List.getElem?_append_left (List.length_pos_iff.2 i3),←ai]
   exact i4 (by omega)
theorem mg (n:Nat):1≤(dec n).length:=List.length_pos_iff.2 (j8 n).2.2.1
end Nr
end Go.Eng
set_option maxRecDepth 20000
namespace Go.Eng
open Go.IntWalk
namespace Nr
theorem JD {m:Nat} (h:0<m) (e:Int):0<MJ m e:=Nat.mul_pos (Nat.mul_pos h (Nat.two_pow_pos _)) (Nat.pow_pos (by omega))
end Nr
end Go.Eng
set_option maxRecDepth 20000
namespace Go.Eng
namespace Sh
open Nr (V nI sh top je rd pr gZ)
theorem FZ {a b p:Nat} (hb:0<b):je a b=some p ↔ p≤top∧¬gZ a b p∧(p=0∨gZ a b (p - 1)):=by
 constructor
 ·intro h
  classical
  have s1:p≤top∧¬gZ a b p∧∀r,r<p→gZ a b r:=by
   unfold je at h
   split at h
   ·rename_i hx
    cases h
    exact hx.choose_spec
   ·cases h
  refine ⟨s1.1,s1.2.1,?_⟩
  by_cases c:p=0
  ·exact .inl c
  ·exact .inr (s1.2.2 _ (by omega))
 ·rintro ⟨h1,h2,h3⟩
  exact Nr.lJ hb h1 h2 h3
theorem Lp {p N:Nat} {k:Int} (hp:0<p):rd N k=some p ↔ p≤top ∧
  (2 * (N * 10 ^ k.toNat * 2 ^ 1074)<pr p * 10 ^ (-k).toNat∨(2 * (N * 10 ^ k.toNat * 2 ^ 1074)=pr p * 10 ^ (-k).toNat∧p % 2=0)) ∧
  (pr (p - 1) * 10 ^ (-k).toNat<2 * (N * 10 ^ k.toNat * 2 ^ 1074)∨(pr (p - 1) * 10 ^ (-k).toNat=2 * (N * 10 ^ k.toNat * 2 ^ 1074)∧p % 2=0)):=by
 unfold rd
 rw [FZ (Nr.fT _)]
 unfold gZ
 have e:=Nr.mul_two (a:=N * 10 ^ k.toNat) Nr.lM
 rw [e]
 generalize 2 * (N * 10 ^ k.toNat * 2 ^ 1074)=X
 generalize pr p * 10 ^ (-k).toNat=Y
 generalize pr (p - 1) * 10 ^ (-k).toNat=Z
 constructor
 ·rintro ⟨h1,h2,h3⟩
  refine ⟨h1,?_,?_⟩ <;> omega
 ·rintro ⟨h1,h2,h3⟩
  refine ⟨h1,?_,.inr ?_⟩ <;> omega
theorem sT {p:Nat} (hp:0<p):0<nI p:=by unfold nI;split <;> omega
theorem FB {m s:Nat} (K:Nat):m * 2 ^ ((s:Int) - K).toNat * 2 ^ K=m * 2 ^ s * 2 ^ (-((s:Int) - K)).toNat:=by
 rw [Nat.mul_assoc,Nat.mul_assoc,←Nat.pow_add,←Nat.pow_add]
 congr 2
 omega
theorem KS (p:Nat):jO p * 2 ^ 1074=V p * iG p:=FB 1074
theorem mJ (p:Nat):0<iG p:=Nat.two_pow_pos _
theorem C1 {p:Nat} (hp:0<p):10 ^ (dx p - 1).toNat * iG p≤jO p * 10 ^ (-(dx p - 1)).toNat∧jO p * 10 ^ (-(dx p)).toNat<10 ^ (dx p).toNat * iG p:=by
 have hm:=sT hp
 generalize he:(sh p:Int) - 1074=e
 obtain ⟨d1,d2,d3,d4⟩:=Nr.j8 (Nr.MJ (nI p) e)
 have hN:=Nr.JD hm e
 have g1:=Nr.xn d1 d3 (d4 hN)
 have g2:=Nr.xm _ d1
 rw [d2] at g1 g2
 have hl:=List.length_pos_iff.2 d3
 have hx:dx p=(Nr.dec (Nr.MJ (nI p) e)).length+min e 0:=by unfold dx;rw [he];rfl
 have ea:jO p=nI p * 2 ^ e.toNat:=by unfold jO;rw [he]
 have eb:iG p=2 ^ (-e).toNat:=by unfold iG;rw [he]
 have eN:Nr.MJ (nI p) e=nI p * 2 ^ e.toNat * 5 ^ (-e).toNat:=rfl
 generalize Nr.MJ (nI p) e=N at *
 generalize (Nr.dec N).length=L at *
 rw [ea,eb,hx]
 have t25:∀k:Nat,(10:Nat) ^ k=2 ^ k * 5 ^ k:=fun k=>by rw [←Nat.mul_pow]
 by_cases c:0≤e
 ·have h0:(-e).toNat=0:=by omega
  rw [h0,Nat.pow_zero,Nat.mul_one] at eN ⊢
  rw [Nat.mul_one]
  rw [←eN,show ((L:Int)+min e 0 - 1).toNat=L - 1 by omega,show (-((L:Int)+min e 0 - 1)).toNat=0 by omega,show (-((L:Int)+min e 0)).toNat=0 by omega,show ((L:Int)+min e 0).toNat=L by omega,Nat.pow_zero,Nat.mul_one]
  exact ⟨g1,g2⟩
 ·have h0:e.toNat=0:=by omega
  rw [h0,Nat.pow_zero,Nat.mul_one] at eN ⊢
  have RN:min e 0=e:=by omega
  rw [RN]
  generalize hj:(-e).toNat=j at *
  have VD:0<(5:Nat) ^ j:=Nat.pow_pos (by omega)
  have key:∀a b:Nat,a+j=L - 1+b→10 ^ a * 2 ^ j≤nI p * 10 ^ b:=fun a b ES=>by
   refine Nat.le_of_mul_le_mul_right (c:=5 ^ j) ?_ VD
   rw [Nat.mul_assoc,←t25,←Nat.pow_add,ES,Nat.pow_add,Nat.mul_right_comm,←eN]
   exact av _ g1
  have Rf:∀a b:Nat,a+j=L+b→nI p * 10 ^ b<10 ^ a * 2 ^ j:=fun a b ES=>by
   refine Nat.lt_of_mul_lt_mul_right (a:=5 ^ j) ?_
   rw [Nat.mul_assoc (10 ^ a),←t25,←Nat.pow_add,ES,Nat.pow_add,Nat.mul_right_comm,←eN]
   exact Nat.mul_lt_mul_of_pos_right g2 (Nr.fT _)
  exact ⟨key _ _ (by omega),Rf _ _ (by omega)⟩
theorem lQ {p N:Nat} {k:Int} (h:rd N k=some p):reads p N k=some (Nr.gw (Nr.dec N),(Nr.dec N).length+k):=au h
theorem pI {p N:Nat} {k:Int} (h:¬rd N k=some p):reads p N k=none:=ao h
theorem GZ {p:Nat} (hp:0<p):V p≤9007199254740992 * 2 ^ sh (p - 1)∧V p=V (p - 1)+2 ^ sh (p - 1):=by
 have h1:=Nr.xZ (p - 1)
 have h2:=Nr.vg (p - 1)
 rw [show p - 1+1=p by omega] at h1 h2
 refine ⟨?_,h2⟩
 rw [h1]
 exact av _ (by have:=Nr.uy (p - 1);omega)
theorem MC (p:Nat):V p<9007199254740992 * 2 ^ sh p∧V (p+1)=V p+2 ^ sh p :=
 ⟨Nat.mul_lt_mul_of_pos_right (Nr.uy p) (Nat.two_pow_pos _),Nr.vg p⟩
theorem unit_eq {a b V' K P Q:Nat} {S T:Nat} (h:a * K=V' * b) (hP:P=a * T) (hQ:Q=b * S) (N:Nat):N * S * K * b=N * Q * K∧P * K=V' * T * b:=by
 constructor
 ·rw [hQ];simp only [Nat.mul_assoc,Nat.mul_comm,Nat.mul_left_comm]
 ·rw [hP,Nat.mul_right_comm,h,Nat.mul_right_comm]
end Sh
end Go.Eng
set_option maxRecDepth 20000
namespace Go.Eng
namespace Sh
open Nr (V nI sh top je rd pr gZ)
theorem xe {b:Nat} (h:0<b) (k:Int):0<tB b k:=Nat.mul_pos h (Nr.fT _)
theorem IY {p:Nat} (hp:0<p) (ht:p≤top) (x n:Int) (K:Nat) (hK:jO p * K=V p * iG p) (Wf:K=2 ^ 1074) (N:Nat):rd N (x - n)=some p ↔
  (2 * (N * tB (iG p) (n - x) * K)<2 * (tA (jO p) (n - x) * K)+2 ^ sh p * 10 ^ (n - x).toNat * iG p∨(2 * (N * tB (iG p) (n - x) * K)=2 * (tA (jO p) (n - x) * K)+2 ^ sh p * 10 ^ (n - x).toNat * iG p∧p % 2=0)) ∧
  (2 * (tA (jO p) (n - x) * K)<2 * (N * tB (iG p) (n - x) * K)+2 ^ sh (p - 1) * 10 ^ (n - x).toNat * iG p∨(2 * (tA (jO p) (n - x) * K)=2 * (N * tB (iG p) (n - x) * K)+2 ^ sh (p - 1) * 10 ^ (n - x).toNat * iG p∧p % 2=0)):=by
 rw [Lp hp,←Wf]
 have hb:=mJ p
 rw [show (-(x - n))=n - x by omega]
 obtain ⟨u1,u2⟩:=unit_eq (S:=10 ^ (x - n).toNat) (T:=10 ^ (n - x).toNat) (Q:=tB (iG p) (n - x)) (P:=tA (jO p) (n - x)) hK rfl (by unfold tB;rw [show (-(n - x))=x - n by omega]) N
 rw [u2,←u1]
 have m1:pr p=2 * V p+2 ^ sh p:=by rw [Nr.nH,Nr.vg];omega
 have m2:2 * V p=pr (p - 1)+2 ^ sh (p - 1):=by
  have:=(GZ hp).2
  rw [Nr.nH,show p - 1+1=p by omega];omega
 generalize 10 ^ (n - x).toNat=T
 generalize hX:N * 10 ^ (x - n).toNat * K=X
 have c1:pr p * T * iG p=2 * (V p * T * iG p)+2 ^ sh p * T * iG p:=by rw [m1];simp only [Nat.add_mul,Nat.mul_assoc]
 have c2:2 * (V p * T * iG p)=pr (p - 1) * T * iG p+2 ^ sh (p - 1) * T * iG p:=by
  have:2 * (V p * T * iG p)=2 * V p * T * iG p:=by simp only [Nat.mul_assoc]
  rw [this,m2];simp only [Nat.add_mul]
 have c3:2 * (X * iG p)=2 * X * iG p:=by rw [Nat.mul_assoc]
 rw [c3,c2,Nat.add_lt_add_iff_right,Nat.add_right_cancel_iff,←c2,←c1]
 rw [Nat.mul_lt_mul_right hb,Nat.mul_lt_mul_right hb]
 have e1:2 * X * iG p=pr p * T * iG p ↔ 2 * X=pr p * T:=⟨Nat.eq_of_mul_eq_mul_right hb,fun h=>by rw [h]⟩
 have e2:pr (p - 1) * T * iG p=2 * X * iG p ↔ pr (p - 1) * T=2 * X:=⟨Nat.eq_of_mul_eq_mul_right hb,fun h=>by rw [h]⟩
 rw [e1,e2]
 exact ⟨fun h=>h.2,fun h=>⟨ht,h⟩⟩
theorem yD {a b:Nat} {y k m:Int} (hm:0≤m) (h:m=y+k):(10 ^ y.toNat * b≤a * 10 ^ (-y).toNat→10 ^ m.toNat * tB b k≤tA a k)∧(a * 10 ^ (-y).toNat<10 ^ y.toNat * b→tA a k<10 ^ m.toNat * tB b k):=by
 have he:m.toNat+(-k).toNat+(-y).toNat=y.toNat+k.toNat:=by omega
 have l:10 ^ m.toNat * tB b k * 10 ^ (-y).toNat=10 ^ y.toNat * b * 10 ^ k.toNat:=by
  unfold tB
  rw [←Nat.mul_assoc,Nat.mul_right_comm (10 ^ m.toNat),←Nat.pow_add,Nat.mul_right_comm,←Nat.pow_add,he,Nat.pow_add,Nat.mul_right_comm]
 have r:tA a k * 10 ^ (-y).toNat=a * 10 ^ (-y).toNat * 10 ^ k.toNat:=by unfold tA;rw [Nat.mul_right_comm]
 have h1:=Nr.fT (-y).toNat
 have h2:=Nr.fT k.toNat
 constructor
 ·intro h
  refine Nat.le_of_mul_le_mul_right ?_ h1
  rw [l,r];exact av _ h
 ·intro h
  refine Nat.lt_of_mul_lt_mul_right (a:=10 ^ (-y).toNat) ?_
  rw [l,r];exact Nat.mul_lt_mul_of_pos_right h h2
theorem tH {p:Nat} (hp:0<p) {n:Int} (hn:1≤n):10 ^ (n - 1).toNat * tB (iG p) (n - dx p)≤tA (jO p) (n - dx p)∧tA (jO p) (n - dx p)<10 ^ n.toNat * tB (iG p) (n - dx p):=by
 obtain ⟨h1,h2⟩:=C1 hp
 exact ⟨(yD (y:=dx p - 1) (k:=n - dx p) (m:=n - 1) (by omega) (by omega)).1 h1,(yD (y:=dx p) (k:=n - dx p) (m:=n) (by omega) (by omega)).2 h2⟩
theorem yL {p a b:Nat} {x n:Int} (h:rd (tA a (n - x) / tB b (n - x)) (x - n)=some p∨rd (tA a (n - x) / tB b (n - x)+1) (x - n)=some p):(some_ p a b x n).isSome=true:=by
 unfold some_
 simp only
 split
 ·rename_i c;exact c.1
 ·rename_i c
  rcases h with h | h
  ·by_cases h2:rd (tA a (n - x) / tB b (n - x)+1) (x - n)=some p
   ·rw [lQ h2];rfl
   ·exact (c ⟨by rw [lQ h];rfl,.inl (by rw [pI h2];rfl)⟩).elim
  ·rw [lQ h];rfl
theorem Lf {p:Nat} (hp:0<p) (ht:p≤top):(some_ p (jO p) (iG p) (dx p) 17).isSome=true:=by
 obtain ⟨r1,r2⟩:=tH hp (n:=17) (by omega)
 have hQ:=xe (mJ p) (17 - dx p)
 obtain ⟨K,hK⟩:∃K,K=2 ^ 1074:=⟨_,rfl⟩
 have TB:0<K:=by rw [hK];exact Nat.two_pow_pos 1074
 have ES:=KS p
 rw [←hK] at ES
 have gd:=(GZ hp).1
 have gu:=(MC p).1
 have ru:=IY hp ht (dx p) 17 K ES hK
 have Wb:tA (jO p) (17 - dx p) * K=V p * 10 ^ (17 - dx p).toNat * iG p:=by
  unfold tA;rw [Nat.mul_right_comm,ES,Nat.mul_right_comm]
 refine yL ?_
 have hT:0<10 ^ (17 - dx p).toNat * iG p:=Nat.mul_pos (Nr.fT _) (mJ p)
 have bd:V p * 10 ^ (17 - dx p).toNat * iG p≤9007199254740992 * (2 ^ sh (p - 1) * 10 ^ (17 - dx p).toNat * iG p):=by
  rw [Nat.mul_assoc (V p),Nat.mul_assoc (2 ^ sh (p - 1)),←Nat.mul_assoc 9007199254740992]
  exact av _ gd
 have bu:V p * 10 ^ (17 - dx p).toNat * iG p<9007199254740992 * (2 ^ sh p * 10 ^ (17 - dx p).toNat * iG p):=by
  rw [Nat.mul_assoc (V p),Nat.mul_assoc (2 ^ sh p),←Nat.mul_assoc 9007199254740992]
  exact Nat.mul_lt_mul_of_pos_right gu hT
 rw [←Wb] at bd bu
 generalize tA (jO p) (17 - dx p)=P at *
 generalize tB (iG p) (17 - dx p)=Q at *
 generalize 2 ^ sh (p - 1) * 10 ^ (17 - dx p).toNat * iG p=D at *
 generalize 2 ^ sh p * 10 ^ (17 - dx p).toNat * iG p=G at *
 have Qw:(10:Nat) ^ ((17:Int) - 1).toNat=10000000000000000:=by decide
 rw [Qw] at r1
 have hr:=Nat.mod_lt P hQ
 have NH:=Nat.div_add_mod P Q
 have q1:10000000000000000 * (Q * K)≤P * K:=by rw [←Nat.mul_assoc];exact av K r1
 have YO:0<Q * K:=Nat.mul_pos hQ TB
 have Wa:P * K=P / Q * Q * K+P % Q * K:=by rw [←Nat.add_mul,Nat.mul_comm (P / Q)];rw [NH]
 have Yq:P % Q * K<Q * K:=Nat.mul_lt_mul_of_pos_right hr TB
 by_cases c:2 * (P % Q)≤Q
 ·left
  have c':2 * (P % Q * K)≤Q * K:=by rw [←Nat.mul_assoc];exact av K c
  rw [ru]
  exact ⟨.inl (by omega),.inl (by omega)⟩
 ·right
  have c':Q * K≤2 * (P % Q * K):=by rw [←Nat.mul_assoc];exact av K (by omega)
  have hN:(P / Q+1) * Q * K=P / Q * Q * K+Q * K:=by rw [Nat.add_mul,Nat.add_mul,Nat.one_mul]
  rw [ru,hN]
  exact ⟨.inl (by omega),.inl (by omega)⟩
end Sh
end Go.Eng
set_option maxRecDepth 20000
namespace Go.Eng
namespace Sh
open Nr (V nI sh top je rd pr gZ)
theorem go_hit {p f i:Nat} {r:bz × Int} (h:some_ p (jO p) (iG p) (dx p) i=some r):go p (f+1) i=r:=by rw [go_succ,h];rfl
theorem go_miss {p f i:Nat} (h:some_ p (jO p) (iG p) (dx p) i=none):go p (f+1) i=go p f (i+1):=by rw [go_succ,h];rfl
theorem go_some {p:Nat} {r:bz × Int} {n:Nat} (h4:some_ p (jO p) (iG p) (dx p) n=some r):∀(m i f:Nat),i+m=n→m<f→(∀j:Nat,i≤j→j<n→some_ p (jO p) (iG p) (dx p) j=none)→go p f i=r:=by
 intro m
 induction m with
 | zero =>
  intro i f h1 h2 h3
  have h1:i=n:=h1
  obtain ⟨f,rfl⟩:∃g,f=g+1:=⟨f - 1,by omega⟩
  rw [h1];exact go_hit h4
 | succ m ih =>
  intro i f h1 h2 h3
  obtain ⟨f,rfl⟩:∃g,f=g+1:=⟨f - 1,by omega⟩
  rw [go_miss (h3 i (Nat.le_refl _) (by omega))]
  exact ih (i+1) f (by omega) (by omega) (fun j a b=>h3 j (by omega) b)
theorem first {p:Nat} (hp:0<p) (ht:p≤top):∃n:Nat,1≤n∧n≤17∧(∀j:Nat,1≤j→j<n→some_ p (jO p) (iG p) (dx p) j=none)∧some_ p (jO p) (iG p) (dx p) n=some (digits p):=by
 have zS:=Lf hp ht
 have key:∀m i:Nat,i+m=17→1≤i→(∀j:Nat,1≤j→j<i→some_ p (jO p) (iG p) (dx p) j=none)→∃n:Nat,1≤n∧n≤17∧(∀j:Nat,1≤j→j<n→some_ p (jO p) (iG p) (dx p) j=none)∧(some_ p (jO p) (iG p) (dx p) n).isSome=true:=by
  intro m
  induction m with
  | zero =>
   intro i hi h1 hn
   have hi:i=17:=hi
   exact ⟨17,by omega,by omega,by rw [←hi];exact hn,zS⟩
  | succ m ih =>
   intro i hi h1 hn
   cases hs:some_ p (jO p) (iG p) (dx p) i with
   | some r=>exact ⟨i,h1,by omega,hn,by rw [hs];rfl⟩
   | none =>
    refine ih (i+1) (by omega) (by omega) fun j a b=>?_
    by_cases c:j=i
    ·rw [c];exact hs
    ·exact hn j a (by omega)
 obtain ⟨n,n1,n2,n3,n4⟩:=key 16 1 rfl (by omega) (fun j a b=>by omega)
 obtain ⟨r,hr⟩:=Option.isSome_iff_exists.1 n4
 refine ⟨n,n1,n2,n3,?_⟩
 have hg:digits p=r:=go_some hr (n - 1) 1 17 (by omega) (by omega) n3
 rw [hr,hg]
theorem D5 {a b:Nat} (h:10 ^ a<10 ^ b):a<b:=by
 rcases Nat.lt_or_ge a b with c | c
 ·exact c
 ·have:=Nr.mK c;omega
theorem Bc {M:Nat} (h:0<M):Nr.gw (Nr.dec (10 * M))=Nr.gw (Nr.dec M):=by
 rw [Nr.qH (show ¬10 * M<10 by omega),Nr.yS,show 10 * M % 10=0 by omega,au (by rfl),show 10 * M / 10=M by omega]
theorem tX:∀n:Nat,Nr.gw (Nr.dec (10 ^ n))=[49]
 | 0=>by decide +kernel
 | n+1=>by rw [Nat.pow_succ,Nat.mul_comm,Bc (Nr.fT n),tX n]
theorem DD (d:bz):(Nr.gw d).length≤d.length:=by
 obtain ⟨t,h,_⟩:=Nr.lB d
 have:=congrArg List.length h
 rw [aj] at this;omega
theorem HD {N n:Nat} (hn:1≤n) (h:N≤10 ^ n):(Nr.gw (Nr.dec N)).length≤n:=by
 rcases Nat.lt_or_eq_of_le h with c | c
 ·exact Nat.le_trans (DD _) (Nr.iV n N c hn)
 ·rw [c,tX];exact hn
theorem vK {N:Nat} {k:Int} (h:0<N) (hl:(Nr.dec N).length≤300):Nr.read (Nr.gw (Nr.dec N)) ((Nr.dec N).length+k)=rd N k:=by
 obtain ⟨d1,d2,d3,d4⟩:=Nr.j8 N
 obtain ⟨t,t1,t2⟩:=Nr.lB (Nr.dec N)
 have hn:=congrArg Nr.num t1
 rw [Nr.ia,Nr.kn,List.length_replicate,Nat.add_zero,d2] at hn
 have hL:=congrArg List.length t1
 rw [aj,List.length_replicate] at hL
 have ne:Nr.gw (Nr.dec N)≠[]:=by
  intro e0;rw [e0,show Nr.num []=0 from rfl,Nat.zero_mul] at hn;omega
 have:=List.length_pos_iff.2 ne
 unfold Nr.read Nr.valid
 rw [(Nr.iQ d1 t1).1,aa (show 1≤(Nr.gw (Nr.dec N)).length∧(Nr.gw (Nr.dec N)).length≤300 by omega),au (by rfl)]
 have e:rd N k=rd (Nr.num (Nr.gw (Nr.dec N)) * 10 ^ t) k:=by rw [←hn]
 rw [e,Nr.uh,show ((Nr.dec N).length:Int)+k - (Nr.gw (Nr.dec N)).length=k+t by omega]
theorem Dv {p a b:Nat} {x n:Int} {r:bz × Int} (h:some_ p a b x n=some r):∃N,(N=tA a (n - x) / tB b (n - x)∨N=tA a (n - x) / tB b (n - x)+1)∧rd N (x - n)=some p∧r=(Nr.gw (Nr.dec N),(Nr.dec N).length+(x - n)):=by
 unfold some_ at h
 simp only at h
 have key:∀N,reads p N (x - n)=some r→rd N (x - n)=some p∧r=(Nr.gw (Nr.dec N),(Nr.dec N).length+(x - n)):=fun N hN=>by
  unfold reads at hN
  split at hN
  ·rename_i c;cases hN;exact ⟨c,rfl⟩
  ·cases hN
 split at h
 ·exact ⟨_,.inl rfl,key _ h⟩
 ·exact ⟨_,.inr rfl,key _ h⟩
theorem wH {p:Nat} (hp:0<p) (ht:p≤top):∃n N:Nat,1≤n∧n≤17∧0<N∧N≤10 ^ n∧rd N (dx p - n)=some p∧digits p=(Nr.gw (Nr.dec N),(Nr.dec N).length+(dx p - n)) ∧
  (∀j:Nat,1≤j→j<n→some_ p (jO p) (iG p) (dx p) j=none):=by
 obtain ⟨n,n1,n2,n3,n4⟩:=first hp ht
 obtain ⟨N,N1,N2,N3⟩:=Dv n4
 obtain ⟨r1,r2⟩:=tH hp (n:=n) (by omega)
 have hQ:=xe (mJ p) (n - dx p)
 rw [ak] at r2
 have lo:=(Nat.le_div_iff_mul_le hQ).2 r1
 have hi:=(Nat.div_lt_iff_lt_mul hQ).2 r2
 have:=Nr.fT ((n:Int) - 1).toNat
 refine ⟨n,N,n1,n2,?_,?_,N2,N3,n3⟩ <;> rcases N1 with h | h <;> omega
theorem Ai {p:Nat} (hp:0<p) (ht:p≤top):Nr.read (digits p).1 (digits p).2=some p:=by
 obtain ⟨n,N,n1,n2,n3,n4,n5,n6,n7⟩:=wH hp ht
 rw [n6,vK n3 ?_,n5]
 refine Nat.le_trans (Nr.iV (n+1) N ?_ (by omega)) (by omega)
 exact Nat.lt_of_le_of_lt n4 (Nat.pow_lt_pow_right (by omega) (by omega))
end Sh
end Go.Eng
set_option maxRecDepth 20000
namespace Go.Eng
namespace Sh
open Nr (V nI sh top je rd pr gZ)
structure B1 (d:bz):Prop where
 dg:d.all Nr.eU=true
 n:d≠[]
 h:d.getD 0 0≠48
theorem B1.eK {c:bz} (h:B1 c) (j:Nat):B1 (c++List.replicate j 48):=by
 refine ⟨?_,by simp [h.n],?_⟩
 ·rw [List.all_append,h.dg,Bool.true_and]
  rw [aD];intro x hx;rw [List.eq_of_mem_replicate hx];rfl
 ·rw [ai,List.getElem?_append_left (List.length_pos_iff.2 h.n),←ai]
  exact h.h
theorem Bn (c:bz) (j:Nat):Nr.num (c++List.replicate j 48)=Nr.num c * 10 ^ j:=by
 rw [Nr.ia,Nr.kn,List.length_replicate,Nat.add_zero]
theorem wc {d:bz} (h:B1 d) {n:Nat} (h1:1≤n) (h2:n≤d.length):B1 (d.take n):=by
 refine ⟨(Nr.iQ h.dg (List.take_append_drop n d).symm).1,?_,?_⟩
 ·intro e
  have:=congrArg List.length e
  rw [aF,aB] at this;omega
 ·rw [ai,List.getElem?_take_of_lt (by omega),←ai];exact h.h
end Sh
end Go.Eng
set_option maxRecDepth 20000
namespace Go.Eng
open Go.IntWalk
namespace Nr
structure Shape (t a b fr ex e:bz):Prop where
 eq:t=a++fr++ex
 a0:a≠[]
 ad:a.all eU=true
 fr:(fr=[]∧b=[])∨(fr=46 :: b∧b≠[])
 bd:b.all eU=true
 ex:(ex=[]∧e=[])∨(∃c,SU c=true∧ex=c :: e∧signed e≠[])
 ed:(signed e).all eU=true
theorem ZO {c:UInt8} (h:eU c=true):SU c=false∧c≠46∧c.toNat<128∧([101,69]:bz).contains c=false:=by
 have h1:=mZ.1 h
 have nN:∀d:UInt8,d.toNat<48∨57<d.toNat→c≠d:=fun d hd e=>by subst e;omega
 have n1:=nN 101 (by decide)
 have n2:=nN 69 (by decide)
 have n3:=nN 46 (by decide)
 refine ⟨ab (by simp [n1,n2]),n3,by omega,by simp [n1,n2]⟩
theorem Zk {p:UInt8→Bool} {a b:bz} (ha:a.all p=true) (hb:b=[]∨p (b.getD 0 0)=false):(a++b).takeWhile p=a∧(a++b).dropWhile p=b:=by
 induction a with
 | nil =>
  cases b with
  | nil=>exact ⟨rfl,rfl⟩
  | cons c r =>
   have hc:p c=false:=hb.resolve_left (by simp)
   rw [bq,List.takeWhile_cons,List.dropWhile_cons,ao (by rw [hc];simp),ao (by rw [hc];simp)]
   exact ⟨rfl,rfl⟩
 | cons c r ih =>
  rw [List.all_cons,af] at ha
  obtain ⟨i1,i2⟩:=ih ha.2
  rw [List.cons_append,List.takeWhile_cons,List.dropWhile_cons,au ha.1,au ha.1,i1,i2]
  exact ⟨rfl,rfl⟩
section
variable {s a b fr ex e:bz} (h:Shape (body s) a b fr ex e)
include h
theorem Shape.noE:(a++fr).all (fun c=>!SU c)=true:=by
 rw [List.all_append,af]
 constructor
 ·exact aD.2 fun x hx=>by rw [(ZO (aD.1 h.ad x hx)).1];rfl
 ·rcases h.fr with ⟨h1,_⟩ | ⟨h1,_⟩
  ·rw [h1];rfl
  ·rw [h1,List.all_cons,af]
   exact ⟨by decide,aD.2 fun x hx=>by rw [(ZO (aD.1 h.bd x hx)).1];rfl⟩
theorem Shape.parts:Z1 s=a++fr∧tail s=e∧ahead s=a∧behind s=b:=by
 have hx:ex=[]∨(!SU (ex.getD 0 0))=false:=by
  rcases h.ex with ⟨h1,_⟩ | ⟨c,h1,h2,_⟩
  ·exact .inl h1
  ·right;rw [h2];show (!SU c)=false;rw [h1];rfl
 obtain ⟨t1,t2⟩:=Zk h.noE hx
 rw [←h.eq] at t1 t2
 have hm:Z1 s=a++fr:=t1
 have ht:tail s=ex.drop 1:=by unfold tail;rw [t2]
 have hf:fr=[]∨(fr.getD 0 0 != 46)=false:=by
  rcases h.fr with ⟨h1,_⟩ | ⟨h1,_⟩
  ·exact .inl h1
  ·right;rw [h1];rfl
 have R9:a.all (· != 46)=true:=aD.2 fun x hx=>by
  have:=(ZO (aD.1 h.ad x hx)).2.1
  simpa using this
 obtain ⟨u1,u2⟩:=Zk R9 hf
 refine ⟨hm,?_,?_,?_⟩
 ·rw [ht]
  rcases h.ex with ⟨h1,h2⟩ | ⟨c,h1,h2,_⟩
  ·rw [h1,h2];rfl
  ·rw [h2];rfl
 ·unfold ahead;rw [hm];exact u1
 ·unfold behind;rw [hm,u2]
  rcases h.fr with ⟨h1,h2⟩ | ⟨h1,_⟩
  ·rw [h1,h2];rfl
  ·rw [h1];rfl
end
end Nr
end Go.Eng
set_option maxRecDepth 20000
namespace Go.Eng
namespace Sh
open Nr (V nI sh top je rd pr gZ eU SU signed run mC pQ body jf)
theorem Zv {a b:bz} (ha:a.all eU=true) (hb:b=[]∨eU (b.getD 0 0)=false):run (a++b)=a.length:=by
 unfold run
 rw [(Nr.Zk ha hb).1]
theorem ZJ {ex e:bz} {k:Int} (hk:k≠0) (hx:(ex=[]∧e=[])∨(∃c,SU c=true∧ex=c :: e∧signed e≠[])) (he:(signed e).all eU=true):pQ ex k≠0:=by
 rcases hx with ⟨h,_⟩ | ⟨c,h1,h2,h3⟩
 ·rw [h];exact hk
 ·have hc:c=101∨c=69:=aq h1
  have hr:=Zv he (b:=[]) (.inl rfl)
  rw [bj] at hr
  have hl:=List.length_pos_iff.2 h3
  rw [h2,Nr.zl,au hc,ao (by omega)];decide
theorem ZX {c:UInt8} (h:SU c=true):eU c=false∧c≠46:=by
 have:c=101∨c=69:=aq h
 rcases this with rfl | rfl <;> exact ⟨rfl,by decide⟩
theorem aaa (s:bz):jf s=if run (body s)=0∨((body s).getD 0 0=48∧1<run (body s)) then 0 else mC ((body s).drop (run (body s))):=rfl
theorem Zu {s a b fr ex e:bz} (h:Nr.Shape (body s) a b fr ex e) (h0:a=[48]∨a.getD 0 0≠48):jf s≠0:=by
 have hxd:ex=[]∨eU (ex.getD 0 0)=false:=by
  rcases h.ex with ⟨x,_⟩ | ⟨c,x1,x2,_⟩
  ·exact .inl x
  ·right;rw [x2];exact (ZX x1).1
 have hfd:fr++ex=[]∨eU ((fr++ex).getD 0 0)=false:=by
  rcases h.fr with ⟨f1,_⟩ | ⟨f1,_⟩
  ·rw [f1];exact hxd
  ·right;rw [f1];rfl
 have hr:run (body s)=a.length:=by rw [h.eq,aE];exact Zv h.ad hfd
 have O9:=List.length_pos_iff.2 h.a0
 have hg:(body s).getD 0 0=a.getD 0 0:=by
  rw [h.eq,aE,ai,List.getElem?_append_left O9,←ai]
 have Qm:(body s).drop a.length=fr++ex:=by rw [h.eq,aE,List.drop_left]
 rw [aaa,hr,hg,Qm,ao]
 ·rcases h.fr with ⟨f1,f2⟩ | ⟨f1,f2⟩
  ·rw [f1,bq]
   have OI:¬(0<ex.length∧ex.getD 0 0=46):=by
    rintro ⟨k1,k2⟩
    rcases h.ex with ⟨x,_⟩ | ⟨c,x1,x2,_⟩
    ·rw [x] at k1;simp at k1
    ·rw [x2] at k2;exact (ZX x1).2 k2
   rw [Nr.vq OI]
   exact ZJ (by decide) h.ex h.ed
  ·have hb:=Zv h.bd hxd
   have Eg:=List.length_pos_iff.2 f2
   rw [f1,List.cons_append,Nr.zk,hb,ao (by omega),List.drop_left]
   exact ZJ (by decide) h.ex h.ed
 ·rintro (k | ⟨k1,k2⟩)
  ·omega
  ·rcases h0 with h0 | h0
   ·rw [h0] at k2;simp at k2
   ·exact h0 k1
theorem Zy {s a b fr ex e:bz} {p:Nat} (h:Nr.Shape (body s) a b fr ex e) (h0:a=[48]∨a.getD 0 0≠48) (hs:s.length≤300) (hr:Nr.read (a++b) ((a.length:Int)+Nr.Ab e)=some p) :
  Nr.parse s=(UInt64.ofNat (p+if s.getD 0 0=45 then 9223372036854775808 else 0),0):=by
 obtain ⟨q1,q2,q3,q4⟩:=h.parts
 have hx:=Zu h h0
 have ep:Nr.parse s=match Nr.read (Nr.ahead s++Nr.behind s) ((Nr.ahead s).length+Nr.Ab (Nr.tail s)) with
  | none=>(0,10)
  | some p=>(UInt64.ofNat (p+if s.getD 0 0=45 then 9223372036854775808 else 0),0):=by
  rw [Nr.Zr];unfold Nr.Zo
  rw [ao hx,ao (by omega)]
  rfl
 rw [ep,q2,q3,q4,hr]
theorem qP (n:Int):(eK n).all eU=true:=by
 unfold eK
 rw [aD];intro x hx;rw [List.eq_of_mem_replicate hx];rfl
theorem vc {d:bz} (h:d.all eU=true) (n:Nat):(d.drop n).all eU=true∧(d.take n).all eU=true:=by
 have:=Nr.iQ h (List.take_append_drop n d).symm
 exact ⟨this.2,this.1⟩
theorem o8 {v:Int} (h:0≤v):Nr.itoa v=Nr.dec v.toNat∧(Nr.itoa v).all eU=true∧Nr.num (Nr.itoa v)=v.toNat∧Nr.itoa v≠[]:=by
 have e:Nr.itoa v=Nr.dec v.toNat:=by rw [Nr.lC,ao (by omega),show v.natAbs=v.toNat by omega]
 obtain ⟨d1,d2,d3,d4⟩:=Nr.j8 v.toNat
 rw [e];exact ⟨rfl,d1,d2,d3⟩
theorem Ha {v:Int} (h:0≤v):Nr.Ab (45 :: Nr.itoa v)=-v∧signed (45 :: Nr.itoa v)=Nr.itoa v:=by
 obtain ⟨_,d1,d2,d3⟩:=o8 h
 have e:signed (45 :: Nr.itoa v)=Nr.itoa v:=by rw [Nr.oo,au (.inr rfl)]
 refine ⟨?_,e⟩
 unfold Nr.Ab
 simp only
 rw [e,d2,au (by rfl)];omega
theorem G9 {v:Int} (h:0≤v):Nr.Ab (43 :: Nr.itoa v)=v∧signed (43 :: Nr.itoa v)=Nr.itoa v:=by
 obtain ⟨_,d1,d2,d3⟩:=o8 h
 have e:signed (43 :: Nr.itoa v)=Nr.itoa v:=by rw [Nr.oo,au (.inl rfl)]
 refine ⟨?_,e⟩
 unfold Nr.Ab
 simp only
 rw [e,d2,ao (by show ¬((43:UInt8)=45);decide)];omega
theorem Cj {D E:bz} {x y:Int} {j:Nat} (h1:Nr.valid D=true) (h2:Nr.valid E=true) (hn:Nr.num D=Nr.num E * 10 ^ j) (hx:x - D.length+j=y - E.length):Nr.read D x=Nr.read E y:=by
 unfold Nr.read
 rw [au h1,au h2,hn,Nr.uh,hx]
theorem tE {D:bz} (h:D.all eU=true) (h1:1≤D.length) (h2:D.length≤300):Nr.valid D=true:=by
 unfold Nr.valid
 rw [h,aa ⟨h1,h2⟩];rfl
theorem ZZ {t a b fr ex e:bz} (h:Nr.Shape t a b fr ex e):eU (t.getD 0 0)=true:=by
 have O9:=List.length_pos_iff.2 h.a0
 rw [h.eq,aE,ai,List.getElem?_append_left O9,ar O9]
 exact aD.1 h.ad _ (List.getElem_mem O9)
theorem ta {v:Int} (h:0≤v) (h2:v<1000):(Nr.itoa v).length≤3:=by
 rw [(o8 h).1]
 exact Nr.iV 3 v.toNat (by show v.toNat<1000;omega) (by omega)
theorem Bv {d:bz} (hd:B1 d) (hl:d.length≤17) {x:Int} (hx : -900≤x∧x≤900):∃a b fr ex e,Nr.Shape (laid d x) a b fr ex e∧(a=[48]∨a.getD 0 0≠48)∧(laid d x).length≤24∧Nr.read (a++b) ((a.length:Int)+Nr.Ab e)=Nr.read d x:=by
 have hn:=List.length_pos_iff.2 hd.n
 have hv:=tE hd.dg hn (by omega)
 unfold laid
 by_cases c1:1≤x∧x≤21∧(d.length:Int)≤x
 ·rw [au c1]
  have hz:=hd.eK (x - d.length).toNat
  have D9:(d++eK (x - d.length)).length=x.toNat:=by
   unfold eK;rw [aj,List.length_replicate];omega
  refine ⟨d++eK (x - d.length),[],[],[],[],⟨by simp,hz.n,hz.dg,.inl ⟨rfl,rfl⟩,rfl,.inl ⟨rfl,rfl⟩,rfl⟩,.inr hz.h,by omega,?_⟩
  rw [bj]
  refine Cj (j:=(x - d.length).toNat) (tE hz.dg (by omega) (by omega)) hv (Bn d _) ?_
  rw [D9,show Nr.Ab []=0 from rfl];omega
 ·rw [ao c1]
  by_cases c2:1≤x∧x≤21
  ·rw [au c2]
   have ht:=wc hd (n:=x.toNat) (by omega) (by omega)
   have L1:(d.take x.toNat).length=x.toNat:=by rw [aF];omega
   have O2:(d.drop x.toNat).length=d.length - x.toNat:=aV ..
   refine ⟨d.take x.toNat,d.drop x.toNat,46 :: d.drop x.toNat,[],[],⟨by simp,ht.n,ht.dg,.inr ⟨rfl,?_⟩,(vc hd.dg _).1,.inl ⟨rfl,rfl⟩,rfl⟩,.inr ht.h,?_,?_⟩
   ·intro e;rw [e,aB] at O2;omega
   ·rw [aj,aj,ay,L1,O2];omega
   ·rw [List.take_append_drop,L1,show Nr.Ab []=0 from rfl,show ((x.toNat:Nat):Int)+0=x by omega]
  ·rw [ao c2]
   by_cases c3 : -5≤x∧x≤0
   ·rw [au c3]
    have D9:(eK (-x)++d).length=(-x).toNat+d.length:=by
     unfold eK;rw [aj,List.length_replicate]
    have Rm:(eK (-x)++d).all eU=true:=by rw [List.all_append,qP,hd.dg];rfl
    refine ⟨[48],eK (-x)++d,46 :: (eK (-x)++d),[],[],⟨by simp,by simp,by rfl,.inr ⟨rfl,?_⟩,Rm,.inl ⟨rfl,rfl⟩,rfl⟩,.inl rfl,?_,?_⟩
    ·intro e;rw [e,aB] at D9;omega
    ·rw [aj,D9];show 2+_≤24;omega
    ·have hd1:([48]++(eK (-x)++d)).all eU=true:=by rw [List.all_append,Rm];rfl
     have OM:([48]++(eK (-x)++d)).length=1+((-x).toNat+d.length):=by rw [aj,D9];rfl
     refine Cj (j:=0) (tE hd1 (by omega) (by omega)) hv ?_ ?_
     ·rw [Nr.ia,Nr.ia]
      have:Nr.num (eK (-x))=0:=Nr.kn _
      rw [this,show Nr.num [48]=0 by decide];omega
     ·rw [OM,show Nr.Ab []=0 from rfl,ay];omega
   ·rw [ao c3]
    have ht:=wc hd (n:=1) (by omega) hn
    have L1:(d.take 1).length=1:=by rw [aF];omega
    have O2:(d.drop 1).length=d.length - 1:=aV ..
    have Tl:((if 1<d.length then 46 :: d.drop 1 else []:bz)=[]∧d.drop 1=[])∨((if 1<d.length then 46 :: d.drop 1 else []:bz)=46 :: d.drop 1∧d.drop 1≠[]):=by
     by_cases k:1<d.length
     ·right;rw [au k];refine ⟨rfl,fun e=>?_⟩;rw [e,aB] at O2;omega
     ·left;rw [ao k];exact ⟨rfl,List.length_eq_zero_iff.1 (by omega)⟩
    have GK:(if 1<d.length then 46 :: d.drop 1 else []:bz).length≤17:=by
     split
     ·rw [az,O2];omega
     ·simp
    generalize hF:(if 1<d.length then 46 :: d.drop 1 else []:bz)=F at *
    by_cases c4:x<1
    ·rw [au c4]
     obtain ⟨i1,i2,i3,i4⟩:=o8 (v:=1 - x) (by omega)
     obtain ⟨e1,e2⟩:=Ha (v:=1 - x) (by omega)
     have il:=ta (v:=1 - x) (by omega) (by omega)
     refine ⟨d.take 1,d.drop 1,F,101 :: 45 :: Nr.itoa (1 - x),45 :: Nr.itoa (1 - x),⟨by simp,ht.n,ht.dg,Tl,(vc hd.dg _).1,.inr ⟨101,by decide,rfl,by rw [e2];exact i4⟩,by rw [e2];exact i2⟩,.inr ht.h,?_,?_⟩
     ·rw [aj,aj,L1,aj];show 1+F.length+(2+_)≤24;omega
     ·rw [List.take_append_drop,L1,e1,show ((1:Nat):Int) + -(1 - x)=x by omega]
    ·rw [ao c4]
     obtain ⟨i1,i2,i3,i4⟩:=o8 (v:=x - 1) (by omega)
     obtain ⟨e1,e2⟩:=G9 (v:=x - 1) (by omega)
     have il:=ta (v:=x - 1) (by omega) (by omega)
     refine ⟨d.take 1,d.drop 1,F,101 :: 43 :: Nr.itoa (x - 1),43 :: Nr.itoa (x - 1),⟨by simp,ht.n,ht.dg,Tl,(vc hd.dg _).1,.inr ⟨101,by decide,rfl,by rw [e2];exact i4⟩,by rw [e2];exact i2⟩,.inr ht.h,?_,?_⟩
     ·rw [aj,aj,L1,aj];show 1+F.length+(2+_)≤24;omega
     ·rw [List.take_append_drop,L1,e1,show ((1:Nat):Int)+(x - 1)=x by omega]
theorem Z9 {t:bz} (h:eU (t.getD 0 0)=true):body t=t∧t.getD 0 0≠45:=by
 cases t with
 | nil=>exact absurd h (by decide)
 | cons c r =>
  have hc:eU c=true:=h
  have Ik:=Nr.mZ.1 hc
  have hn:c≠45:=fun e=>by subst e;exact absurd Ik.1 (by decide)
  refine ⟨?_,hn⟩
  unfold body
  split
  ·rename_i heq;injection heq with h1 _;exact (hn h1).elim
  ·rfl
theorem Z2 {d:bz} (hd:B1 d) (hl:d.length≤17) {x:Int} (hx : -900≤x∧x≤900) {p:Nat} (hr:Nr.read d x=some p) (neg:Bool) :
  Nr.parse ((if neg then [45] else [])++laid d x)=(UInt64.ofNat (p+if neg then 9223372036854775808 else 0),0)∧jf ((if neg then [45] else [])++laid d x)≠0∧((if neg then [45] else [])++laid d x).length≤25:=by
 obtain ⟨a,b,fr,ex,e,sh,h0,hlen,L4⟩:=Bv hd hl hx
 obtain ⟨b1,b2⟩:=Z9 (ZZ sh)
 rw [hr] at L4
 cases neg with
 | false =>
  have e0:((if false=true then [45] else []:bz)++laid d x)=laid d x:=rfl
  rw [e0]
  rw [←b1] at sh
  have hp:=Zy sh h0 (by omega) L4
  rw [ao b2] at hp
  exact ⟨hp,Zu sh h0,by omega⟩
 | true =>
  have e0:((if true=true then [45] else []:bz)++laid d x)=45 :: laid d x:=rfl
  rw [e0]
  have b3:body (45 :: laid d x)=laid d x:=rfl
  rw [←b3] at sh
  have hp:=Zy sh h0 (by rw [az];omega) L4
  rw [au (by rfl)] at hp
  exact ⟨hp,Zu sh h0,by rw [az];omega⟩
end Sh
end Go.Eng
set_option maxRecDepth 20000
namespace Go.Eng
open Go.IntWalk
theorem Oh (x:UInt64) (h:x.toNat<4503599627370496):((4503599627370496:UInt64) ||| x)=UInt64.ofNat (4503599627370496+x.toNat):=by
 apply gf
 rw [UInt64.toNat_or,fA]
 have:=nE (a:=1) (k:=52) (b:=x.toNat) h
 show 4503599627370496 ||| x.toNat=_
 rw [show (4503599627370496:Nat)=1 * 2 ^ 52 by decide,this]
 have:(1:Nat) * 2 ^ 52=4503599627370496:=by decide
 omega
theorem dN.goal (b:UInt64):dN.F b=some [.i .i64 (Nr.split b).1,.b (Nr.split b).2.1,.u64 (Nr.split b).2.2.1,.i .i64 (Nr.split b).2.2.2]:=by
 refine dN.bY _ ?_
 intro v1 h1 v2 h2 v3 h3 v4 h4 v5 h5 v6 h6 v7 h7 v8 h8
 have hb:=b.toNat_lt
 have hv4:v4.toNat=b.toNat / 9223372036854775808:=by rw [h4,ir];rfl
 have hv1:v1.toNat=b.toNat / 4503599627370496:=by rw [h1,ir];rfl
 have e2:v2=((b.toNat / 4503599627370496 % 2048:Nat):Int):=by rw [h2,LF,hv1,i64_in _ (by omega)]
 have e3:v3.toNat=b.toNat % 4503599627370496:=by rw [h3,F5]
 have en:decide (v4=1)=decide (9223372036854775808≤b.toNat):=by
  by_cases c:9223372036854775808≤b.toNat
  ·rw [aa c,aa (gf (by rw [hv4];show _=1;omega))]
  ·rw [ab c,ab (fun h=>by have:=congrArg UInt64.toNat h;rw [hv4] at this;have e1:(1:UInt64).toNat=1:=rfl;omega)]
 have ef:decide (v3=0)=decide (b.toNat % 4503599627370496=0):=by
  by_cases c:b.toNat % 4503599627370496=0
  ·rw [aa c,aa (gf (by rw [e3];exact c))]
  ·rw [ab c,ab (fun h=>by have:=congrArg UInt64.toNat h;rw [e3] at this;exact c this)]
 have Qv:v3=UInt64.ofNat (b.toNat % 4503599627370496):=gf (by rw [e3,fA];omega)
 have e7:v7=UInt64.ofNat (4503599627370496+b.toNat % 4503599627370496):=by rw [h7,Oh _ (by omega),e3]
 have e8:v8=((b.toNat / 4503599627370496 % 2048:Nat):Int) - 1075:=by rw [h8,e2,i64_in _ (by omega)]
 have px:∀b:Bool,(!b || b)=true:=by decide
 rw [bx (px _),bx (px _),bx (px _),bx (px _),en]
 unfold Nr.split
 simp only
 rw [ef] at h5 h6
 generalize b.toNat / 4503599627370496 % 2048=x at *
 by_cases c1:x=2047
 ·rw [au c1]
  have Po:decide (v2=2047)=true:=aa (by omega)
  rw [Po,ah] at h5
  rw [h5,Po]
  by_cases c2:b.toNat % 4503599627370496=0
  ·rw [aa c2,au c2];rfl
  ·rw [ab c2,ao c2];rfl
 ·rw [ao c1]
  have Po:decide (v2=2047)=false:=ab (by omega)
  rw [Po,ae] at h5
  rw [h5,Po,ae,ae]
  by_cases c2:x=0
  ·have Pp:decide (v2=0)=true:=aa (by omega)
   rw [Pp,ah] at h6
   rw [h6,Pp,au c2]
   by_cases c3:b.toNat % 4503599627370496=0
   ·rw [aa c3,au c3];rfl
   ·rw [ab c3,ao c3,Qv];rfl
  ·have Pp:decide (v2=0)=false:=ab (by omega)
   rw [Pp,ae] at h6
   rw [h6,Pp,ao c2,ae,ae,e7,e8]
theorem eM.goal (v:Int) (hp:Nr.i64 v=true):eM.F v=some [.s (Nr.itoa v)]:=by
 rw [eM.dW,hp];rfl
theorem xd (k:Nat) (h:k≤400):10 ^ k<2 ^ 1400:=by
 have hk:∀n:Nat,n=400→10 ^ k≤10 ^ n:=fun n hn=>Nat.pow_le_pow_right (by omega) (by omega)
 exact Nat.lt_of_le_of_lt (hk 400 rfl) (by decide +kernel)
theorem nG {a b i j k:Nat} (h1:a<2 ^ i) (h2:b<2 ^ j) (h:i+j≤k):a * b<2 ^ k:=by
 refine kh (i:=i+j) ?_ h
 rw [Nat.pow_add]
 exact Nat.mul_lt_mul'' h1 h2
theorem Ka {a:Nat} {k:Int} (ha:a<2 ^ 1100) (hk : -400≤k∧k≤400):Sh.tA a k<2 ^ 2500:=nG (i:=1100) (j:=1400) (k:=2500) ha (xd _ (by omega)) (by omega)
theorem J9 {a:Nat} {k:Int} (ha:a<2 ^ 1100) (hk : -400≤k∧k≤400):Sh.tB a k<2 ^ 2500:=nG (i:=1100) (j:=1400) (k:=2500) ha (xd _ (by omega)) (by omega)
theorem fU.goal (a b:List UInt16) (k:Int) (hp:(Nt.is a&&Nt.is b&&decide (-400≤k∧k≤400∧Nt.val a<2 ^ 1100∧Nt.val b<2 ^ 1100))=true):fU.F a b k=some [.sl .ws (Nt.of (Sh.tA (Nt.val a) k)),.sl .ws (Nt.of (Sh.tB (Nt.val b) k))]:=by
 rw [af,af] at hp
 obtain ⟨⟨ha,hb⟩,hp⟩:=hp
 obtain ⟨k1,k2,k3,k4⟩:=aq hp
 refine fU.bY _ _ _ ?_
 intro v1 h1 v2 h2 v3 h3 v4 h4
 by_cases c:0≤k
 ·have h1:v1=Nt.of (10 ^ k.toNat):=h1
  have e:=xd k.toNat (by omega)
  have Vd:Nt.is v1=true:=by rw [h1];exact jg (i:=1400) e (by omega)
  rw [aa c,ah,bx (aa ⟨by omega,by omega,c,by omega,kh (i:=1400) (k:=4096) e (by omega)⟩),ha,Vd]
  refine (bx (by rfl)).trans ?_
  rw [h2,h1,Nt.eY]
  unfold Sh.tA Sh.tB
  rw [show (-k).toNat=0 by omega,Nat.pow_zero,Nat.mul_one,Nt.dJ (Nt.jB hb)]
 ·have ew:IntKind.i64.wrap (0 - k)=-k:=by rw [i64_in _ (by omega)];omega
  rw [ew] at h3
  have h3:v3=Nt.of (10 ^ (-k).toNat):=h3
  have e:=xd (-k).toNat (by omega)
  have Vc:Nt.is v3=true:=by rw [h3];exact jg (i:=1400) e (by omega)
  rw [ab c,ae,ew,bx (aa ⟨by omega,by omega,by omega,by omega,kh (i:=1400) (k:=4096) e (by omega)⟩),hb,Vc]
  refine (bx (by rfl)).trans ?_
  rw [h4,h3,Nt.eY]
  unfold Sh.tA Sh.tB
  rw [show k.toNat=0 by omega,Nat.pow_zero,Nat.mul_one,Nt.dJ (Nt.jB ha)]
theorem fH.goal (a b:List UInt16) (x:Int) (hp:(Nt.is a&&Nt.is b&&decide (-400≤x∧x≤400∧Nt.val a<2 ^ 1100∧Nt.val b<2 ^ 1100))=true):fH.F a b x=some [.b (decide (Sh.tB (Nt.val b) (-x)≤Sh.tA (Nt.val a) (-x)))]:=by
 have Jr:=hp
 rw [af,af] at hp
 obtain ⟨⟨ha,hb⟩,hp⟩:=hp
 obtain ⟨k1,k2,k3,k4⟩:=aq hp
 refine fH.bY _ _ _ ?_
 intro v1 h1 v2 h2 v3 h3
 have ew:IntKind.i64.wrap (0 - x)=-x:=by rw [i64_in _ (by omega)];omega
 rw [ew] at h1 h2 ⊢
 have i1:Nt.is v1=true:=by rw [h1];exact jg (i:=2500) (Ka k3 (by omega)) (by omega)
 have i2:Nt.is v2=true:=by rw [h2];exact jg (i:=2500) (J9 k4 (by omega)) (by omega)
 rw [ha,hb,aa (⟨by omega,by omega,k3,k4⟩ : -400≤-x∧-x≤400∧Nt.val a<2 ^ 1100∧Nt.val b<2 ^ 1100),i1,i2]
 refine (bx (by rfl)).trans ((bx (by rfl)).trans ?_)
 rw [h3,h1,h2,Nt.eY,Nt.eY]
 rcases pd (Sh.tA (Nt.val a) (-x)) (Sh.tB (Nt.val b) (-x)) with ⟨k,l⟩ | ⟨k,l⟩ | ⟨k,l⟩
 ·rw [k,ab (by omega),ab (by omega)]
 ·rw [k,aa (by omega),aa (by omega)]
 ·rw [k,aa (by omega),aa (by omega)]
theorem La:(10:Nat) ^ 200<2 ^ 665:=by decide +kernel
theorem fG.goal (b:UInt64) (a:List UInt16) (p:Int) (hp:(Nt.is a&&decide (-1000≤p∧p≤1000∧0<Nt.val a∧Nt.val a<10 ^ 200))=true):fG.F b a p=some [.s ((Sh.kJ b.toNat (Nt.val a) p).getD ([],0)).1,.i .i64 ((Sh.kJ b.toNat (Nt.val a) p).getD ([],0)).2,.b (Sh.kJ b.toNat (Nt.val a) p).isSome]:=by
 rw [af] at hp
 obtain ⟨ha,hp⟩:=hp
 obtain ⟨k1,k2,k3,k4⟩:=aq hp
 refine fG.bY _ _ _ ?_
 intro v1 h1 v2 h2 v3 h3 v4 h4 v5 h5
 rw [Sh.vE] at h1 h2 ⊢
 rw [Sh.vJ]
 have hl:=Nr.iV 200 (Nt.val a) k4 (by omega)
 rw [Nr.yC] at h2
 have e1:IntKind.i64.wrap (v1+p)=(Nr.dec (Nt.val a)).length+p:=by rw [h1,i64_in _ (by omega)]
 rw [e1,h2,Sh.vK k3 (by omega)] at h3 h4
 have px:∀b:Bool,(!(!b) || ((!b)&&(!b)))=true∧(b || !b)=true:=by decide
 have O5:∀b:Bool,(!(!(!b)) || ((!(!b))&&(!(!b))))=true∧((!b) || (!(!b)))=true:=by decide
 rw [ha,bU,aa (show (Nr.dec (Nt.val a)).length≤1099511627776∧([48]:bz).length≤100 from ⟨by omega,by decide⟩)]
 refine (bx (by rfl)).trans ?_
 rw [bx (O5 _).1,bx (O5 _).2,e1]
 cases hq:Nr.rd (Nt.val a) p with
 | none =>
  rw [hq] at h4
  have e4:v4=false:=h4
  rw [e4] at h5
  have e5:v5=true:=h5
  rw [e5,Sh.pI (by rw [hq];simp)];rfl
 | some q =>
  have hle:q≤9218868437227405311:=by
   unfold Nr.rd at hq
   exact Nr.Jb hq
  rw [hq] at h3 h4
  have e4:v4=true:=h4
  have e3:v3=UInt64.ofNat q:=h3
  have Qv:v3.toNat=q:=by rw [e3,fA];omega
  rw [e4,aG,ae] at h5
  by_cases c:q=b.toNat
  ·have e5:v5=false:=by rw [h5,aa (gf (by rw [Qv,c]))];rfl
   rw [e5,Sh.lQ (by rw [hq,c]),h2];rfl
  ·have e5:v5=true:=by rw [h5,ab (fun e=>c (by rw [←Qv,e]))];rfl
   rw [e5,Sh.pI (by rw [hq];simp [c])];rfl
end Go.Eng
set_option maxRecDepth 20000
namespace Go.Eng
open Go.IntWalk
theorem Cu {d:List UInt16} {n:Nat} (hv:Nt.val d=n) (hl:d=[]∨65536 ^ (d.length - 1)≤n):d=Nt.of n:=by
 rw [←hv,Nt.dJ]
 rcases hl with h | h
 ·rw [h];rfl
 ·by_cases h0:d=[]
  ·rw [h0];rfl
  ·have Qh:=List.length_pos_iff.2 h0
   rw [mX h0]
   simp only [Bool.not_eq_true',decide_eq_false_iff_not]
   intro e0
   have Ih:=dA d (d.length - 1) (by omega)
   rw [show d.length - 1+1=d.length by omega,List.take_length,e0] at Ih
   have gk:=Nt.iJ (d.take (d.length - 1))
   rw [aF,Nat.min_eq_left (by omega)] at gk
   have Pr:(0:UInt16).toNat=0:=rfl
   rw [Pr,Nat.mul_zero] at Ih
   omega
theorem K2 {a:List UInt16} (hn:Nt.norm a=true) (h0:a≠[]):65536 ^ (a.length - 1)≤Nt.val a:=by
 obtain ⟨h1,h2⟩:=mW hn h0
 have:65536 ^ (a.length - 1) * 1≤65536 ^ (a.length - 1) * (a.getD (a.length - 1) 0).toNat:=Nat.mul_le_mul_left _ h1
 omega
theorem cP.jd (a b:List UInt16) (ha:a.length≤1000000) (ES:b.length≤a.length) (hn:Nt.norm a=true):∀(m i:Nat) (d:List UInt16) (k:Nat),i+m=a.length→d.length=i→k≤1→Nt.val d+65536 ^ i * k=Nt.val (a.take i)+Nt.val (b.take i) →
  cP.l2 b k a.length i (d++a.drop i)=some [.sl .ws (Nt.of (Nt.val a+Nt.val b))]:=by
 intro m
 induction m with
 | zero =>
  intro i d k hi hl hk hv
  have hi:i=a.length:=hi
  subst hi
  refine cP.iu _ _ _ _ _ ?_
  intro v1 h1 v2 h2 v3 h3 v4 h4 v5 h5 v6 h6
  rw [List.take_of_length_le (Nat.le_refl _),List.take_of_length_le ES] at hv
  rw [ab (by omega),ae,List.drop_length,bj]
  by_cases c0:k=0
  ·subst c0
   rw [Nat.mul_zero,Nat.add_zero] at hv
   have:d=Nt.of (Nt.val a+Nt.val b):=Cu hv (by
    by_cases h0:a=[]
    ·left;rw [h0] at hl;exact List.length_eq_zero_iff.1 hl
    ·right;rw [hl];have:=K2 hn h0;omega)
   rw [ab (by omega),ae,cP.wi,←this]
  ·have RS:k=1:=by omega
   subst RS
   have e6:v6=[(1:UInt16)]:=h6
   rw [aa (by omega),ah,e6,bx (dP (by rw [ay];omega) (by rw [ay];omega)),cP.wi]
   have hv2:Nt.val (d++[1])=Nt.val a+Nt.val b:=by
    rw [Nt.gh,hl,←hv];rfl
   have:d++[1]=Nt.of (Nt.val a+Nt.val b):=Cu hv2 (.inr (by
    rw [aj,ay,Nat.add_sub_cancel,hl];omega))
   rw [this]
 | succ m ih =>
  intro i d k hi hl hk hv
  refine cP.iu _ _ _ _ _ ?_
  intro v1 h1 v2 h2 v3 h3 v4 h4 v5 h5 v6 h6
  rw [ak] at h1 h3
  have Qm:a.drop i=a.getD i 0 :: a.drop (i+1):=drop_cons (by omega) 0
  have hL:(d++a.drop i).length=a.length:=by rw [aj,aV];omega
  have e1:v1=a.getD i 0:=by
   rw [h1,ai,aR (by omega),hl,Nat.sub_self,Qm];rfl
  have hd:=v1.toNat_lt
  have hd3:=v3.toNat_lt
  rw [i64_in _ (by omega)] at h2 h4
  have hx:bD (i:Int) (d++a.drop i).length=true:=bN (by omega) (by omega)
  have Ks:decide ((i:Int).toNat<(d++a.drop i).length)=true:=aa (by omega)
  have Jp:∀y:UInt16,(d++a.drop i).set i y=(d++[y])++a.drop (i+1):=fun y=>by
   rw [List.set_append_right _ _ (by omega),hl,Nat.sub_self,Qm,aE];rfl
  have next:∀q:Nat,q≤131071→q=k+v1.toNat+(if i<b.length then (b.getD i 0).toNat else 0)→cP.j3 b q i a.length i (d++a.drop i)=some [.sl .ws (Nt.of (Nt.val a+Nt.val b))]:=by
   intro q vu hq
   refine cP.qw _ _ _ _ _ _ ?_
   intro w1 g1 w2 g2 w3 g3
   rw [ak,om,Jp] at g1
   have e2:w2=((q / 65536:Nat):Int):=by rw [g2];exact xL q
   have e3:w3=((i+1:Nat):Int):=by rw [g3,i64_in _ (by omega)];omega
   rw [hx,Ks,bU,bU,g1,e2,e3]
   refine ih (i+1) _ _ (by omega) (by rw [aj,hl];rfl) (by omega) ?_
   have hb:Nt.val (b.take (i+1))=Nt.val (b.take i)+65536 ^ i * (if i<b.length then (b.getD i 0).toNat else 0):=by
    by_cases c:i<b.length
    ·rw [au c,dA b i c]
    ·rw [ao c,List.take_of_length_le (by omega),List.take_of_length_le (by omega)];omega
   rw [hb,dA a i (by omega),←e1,Nt.gh,hl]
   simp only [Nt.val,Nat.mul_zero,Nat.add_zero,Nt.dI]
   rw [Nat.pow_succ,Nat.mul_assoc,Nat.add_assoc,←Nat.mul_add]
   have:q % 65536+65536 * (q / 65536)=q:=Nat.mod_add_div q 65536
   rw [this,hq,Nat.mul_add,Nat.mul_add]
   omega
  rw [aa (by omega),ah,hx,Ks,bU,bU]
  by_cases c:i<b.length
  ·have e5:v5=((k+v1.toNat+v3.toNat:Nat):Int):=by
    rw [h5,h2,h4,i64_in ((k:Int)+v1.toNat) (by omega),i64_in _ (by omega)];omega
   rw [aa (by omega),ah,bx (bN (by omega) (by omega)),e5]
   exact next _ (by omega) (by rw [au c,h3])
  ·have e5:IntKind.i64.wrap ((k:Int)+v2)=((k+v1.toNat:Nat):Int):=by rw [h2,i64_in _ (by omega)];omega
   rw [ab (by omega),ae,e5]
   exact next _ (by omega) (by rw [ao c,Nat.add_zero])
theorem cP.goal (a b:List UInt16) (hp:(Nt.is a&&Nt.is b)=true):cP.F a b=some [.sl .ws (Nt.of (Nt.val a+Nt.val b))]:=by
 rw [af] at hp
 obtain ⟨ha,hb⟩:=hp
 have la:=Nt.jH ha
 have lb:=Nt.jH hb
 refine cP.bY _ _ ?_
 intro v1 h1
 have e1:v1=false:=by rw [h1,ha,hb];rfl
 have key:∀a b:List UInt16,Nt.is a=true→Nt.is b=true→b.length≤a.length→cP.j1 a b=some [.sl .ws (Nt.of (Nt.val a+Nt.val b))]∧True:=fun a b ha hb h=>⟨by
  have la:=Nt.jH ha
  have:=cP.jd a b (by omega) h (Nt.jB ha) a.length 0 [] 0 (by omega) rfl (by omega) (by simp [Nt.val])
  rw [bh,bq] at this
  rw [cP.lg]
  first
  | (rw [bx (dP (by omega) (by omega))];exact this)
  ,trivial⟩
 rw [bx (aa (by omega)),ha,bx (by rw [aa (show b.length≤1099511627776 by omega)];rfl),bx (by rfl),bx (by rfl),e1,ae]
 by_cases c:(a.length:Int)<b.length
 ·rw [aa c,ah]
  first
  | exact ((key b a hb ha (by omega)).1).trans (by rw [Nat.add_comm])
  | exact (key a b ha hb (by omega)).1
 ·rw [ab c,ae]
  first
  | exact (key a b ha hb (by omega)).1
  | exact ((key b a hb ha (by omega)).1).trans (by rw [Nat.add_comm])
theorem Hp {n:Nat} (h:10000≤n):Nr.dec n=Nr.dec (n / 10000)++(Sh.eK (4 - ((Nr.dec (n % 10000)).length:Int))++Nr.dec (n % 10000)):=by
 obtain ⟨q1,q2,q3,q4⟩:=Nr.j8 (n / 10000)
 obtain ⟨r1,r2,r3,r4⟩:=Nr.j8 (n % 10000)
 have rl:=Nr.iV 4 (n % 10000) (by show n % 10000<10000;omega) (by omega)
 have hz:=Sh.qP (4 - ((Nr.dec (n % 10000)).length:Int))
 have D9:(Sh.eK (4 - ((Nr.dec (n % 10000)).length:Int))++Nr.dec (n % 10000)).length=4:=by
  unfold Sh.eK;rw [aj,List.length_replicate];omega
 have Rk:Nr.num (Sh.eK (4 - ((Nr.dec (n % 10000)).length:Int)))=0:=Nr.kn _
 have Mb:Nr.num (Nr.dec (n / 10000)++(Sh.eK (4 - ((Nr.dec (n % 10000)).length:Int))++Nr.dec (n % 10000)))=n:=by
  rw [Nr.ia,D9,Nr.ia,Rk,q2,r2,Nat.zero_mul,Nat.zero_add]
  show n / 10000 * 10000+_=n
  omega
 have hu:=Nr.pW _ (Nr.dec (n / 10000)++(Sh.eK (4 - ((Nr.dec (n % 10000)).length:Int))++Nr.dec (n % 10000))) rfl (by rw [List.all_append,List.all_append,q1,hz,r1];rfl) (by simp [q3]) (by
  rw [ai,List.getElem?_append_left (List.length_pos_iff.2 q3),←ai];exact q4 (by omega))
 rw [Mb] at hu
 exact hu.symm
theorem FR {n K:Nat} (h:n<10000 ^ K):(Nt.of n).length≤K:=(Nt.kj n K).2 (Nat.lt_of_lt_of_le h (Nat.pow_le_pow_left (by omega) K))
theorem dc.cO:∀(K n:Nat) (ps:List bz),n<10000 ^ K→(n=0→ps≠[])→ps.length+K≤5000→(ps.map List.length).sum≤4 * ps.length →
  dc.l1 (Nt.of n) ps=some [.s ((if n=0 then [] else Nr.dec n)++ps.reverse.flatten)]:=by
 intro K
 induction K with
 | zero =>
  intro n ps hn h0 hl hs
  have S8:n=0:=by rw [Nat.pow_zero] at hn;omega
  exact fin n ps S8 (h0 S8) (by omega) hs
 | succ K ih =>
  intro n ps hn h0 hl hs
  by_cases c:n=0
  ·exact fin n ps c (h0 c) (by omega) hs
  ·refine dc.bX _ _ ?_
   intro v1 h1 v2 h2 v3 h3 v4 h4 v5 h5 v6 h6
   rw [Nt.eY] at h1 h2
   have h1:v1=Nt.of (n / 10000):=h1
   have e2:v2.toNat=n % 10000:=by
    rw [h2,Nt.dI];show n % 10000 % 65536=_;omega
   have e3:v3=((n % 10000:Nat):Int):=by rw [h3,e2,i64_in _ (by omega)]
   have ei:Nr.itoa v3=Nr.dec (n % 10000):=by rw [(Sh.o8 (by omega)).1,e3,ak]
   have i3:Nr.i64 v3=true:=aa (by omega)
   have rl:=Nr.iV 4 (n % 10000) (by show n % 10000<10000;omega) (by omega)
   have e5:v5=4 - ((Nr.dec (n % 10000)).length:Int):=by rw [h5,h4,ei,i64_in _ (by omega)]
   have hL:=FR hn
   have pT:0<(Nt.of n).length:=by rw [Nt.lR (by omega)];simp
   have hq:n / 10000<10000 ^ K:=by
    rw [Nat.div_lt_iff_lt_mul (by omega),←Nat.pow_succ];exact hn
   have iS:((10000:UInt16)≠0):=by decide
   rw [aa (show (0:Int)<((Nt.of n).length:Int) by omega),ah,bx (aa ⟨by omega,iS⟩),i3,bU,h1]
   by_cases c1:n / 10000=0
   ·rw [c1,Nt.iU]
    rw [ab (by simp),ae,dc.lf,bx (dP (by rw [ay];omega) (by rw [ay];omega)),ei]
    have:=ih 0 (ps++[Nr.dec (n % 10000)]) (by exact Nat.pow_pos (by omega)) (fun _=>by simp) (by rw [aj,ay];omega) (by
     rw [List.map_append,List.sum_append,aj,ay]
     simp only [aX,bw,List.sum_cons,List.sum_nil];omega)
    rw [Nt.iU] at this
    rw [this,au rfl,ao c,List.reverse_append,List.reverse_singleton,List.singleton_append,List.flatten_cons,show n % 10000=n by omega];rfl
   ·have OG:0<(Nt.of (n / 10000)).length:=by rw [Nt.lR (by omega)];simp
    have D9:(Sh.eK v5).length≤4:=by unfold Sh.eK;rw [List.length_replicate];omega
    have e6:v6.length=4:=by
     rw [h6,ei,e5];unfold Sh.eK;rw [aj,List.length_replicate];omega
    rw [aa (by omega),ah,bx (aa ⟨rfl,by omega,by omega⟩),bx (aa (by rw [ei];omega)),dc.lf,bx (dP (by rw [ay];omega) (by rw [ay];omega))]
    rw [ih (n / 10000) (ps++[v6]) hq (fun h=>(c1 h).elim) (by rw [aj,ay];omega) (by
     rw [List.map_append,List.sum_append,aj,ay]
     simp only [aX,bw,List.sum_cons,List.sum_nil];omega)]
    rw [ao c1,ao c,List.reverse_append,List.reverse_singleton,List.singleton_append,List.flatten_cons,Hp (show 10000≤n by omega),h6,ei,e5]
    simp only [aE]
where
 fin (n:Nat) (ps:List bz) (h:n=0) (h0:ps≠[]) (hl:ps.length≤5000) (hs:(ps.map List.length).sum≤4 * ps.length):dc.l1 (Nt.of n) ps=some [.s ((if n=0 then [] else Nr.dec n)++ps.reverse.flatten)]:=by
  subst h
  rw [Nt.iU]
  refine dc.bX _ _ ?_
  intro v1 h1 v2 h2 v3 h3 v4 h4 v5 h5 v6 h6
  have he:ps.isEmpty=false:=by cases ps <;> simp at h0 ⊢
  have hf:ps.reverse.flatten.length≤20000:=by
   rw [List.length_flatten,List.map_reverse,List.sum_reverse];omega
  rw [ab (by simp),ae,bx (aa (show ps.length≤100000 by omega))]
  rw [bx (aa ⟨rfl,by rw [List.length_reverse];omega,by omega⟩),au rfl];rfl
theorem IA:(2:Nat) ^ 4096≤10000 ^ 2000:=by decide +kernel
theorem dc.goal (a:List UInt16) (hp:Nt.is a=true):dc.F a=some [.s (Sh.qY (Nt.val a))]:=by
 have hl:=Nt.jH hp
 rw [dc.dW,bx (aa (by omega)),hp,Sh.vE]
 refine Eq.trans (b:=_) (ae _ _) ?_
 by_cases c:a=[]
 ·subst c
  show _=some [TV.s (Nr.dec 0)]
  rw [Nr.nn (by omega)];rfl
 ·have h0:=List.length_pos_iff.2 c
  have pT:=Nt.qn (Nt.jB hp) c
  rw [ab (by omega),ae]
  have:=dc.cO 2000 (Nt.val a) [] (Nat.lt_of_lt_of_le (Nt.is_lt hp) IA) (fun h=>by omega) (by simp) (by simp)
  rw [Nt.dJ (Nt.jB hp),ao (by omega)] at this
  rw [this];simp
end Go.Eng
set_option maxRecDepth 20000
namespace Go.Eng
open Go.IntWalk
open Nr (V nI sh top je rd)
theorem E8 (N:Nat):(UInt16.ofNat N % 2=0) ↔ N % 2=0:=by
 constructor
 ·intro h
  have:=congrArg UInt16.toNat h
  rw [UInt16.toNat_mod,Nt.dI] at this
  have e:N % 65536 % 2=0:=this
  omega
 ·intro h
  apply UInt16.toNat_inj.1
  rw [UInt16.toNat_mod,Nt.dI]
  show N % 65536 % 2=0
  omega
theorem J8:(10:Nat) ^ 17<10 ^ 200:=by decide +kernel
theorem gJ.goal (b:UInt64) (p q:List UInt16) (x n:Int) (hp:(Nt.is p&&Nt.is q&&Sh.oY (Nt.val p) (Nt.val q) x n)=true):gJ.F b p q x n=some [.s ((Sh.pA b.toNat (Nt.val p) (Nt.val q) x n).getD ([],0)).1,.i .i64 ((Sh.pA b.toNat (Nt.val p) (Nt.val q) x n).getD ([],0)).2,.b (Sh.pA b.toNat (Nt.val p) (Nt.val q) x n).isSome]:=by
 rw [af,af] at hp
 obtain ⟨⟨ha,hb⟩,hp⟩:=hp
 unfold Sh.oY at hp
 obtain ⟨n1,n2,x1,x2,a0,a1,b0,b1,r1,r2⟩:=aq hp
 rw [Sh.tU]
 refine gJ.bY _ _ _ _ _ ?_
 intro v1 h1 v2 h2 v3 h3 v4 h4 v5 h5 v6 h6 v7 h7 v8 h8 v9 h9 v10 iS v11 kA v12 jM kq nr jh oa jb nV lA sw tG zS tF wv wX ET
 have ew:IntKind.i64.wrap (n - x)=n - x:=i64_in _ (by omega)
 have Wq:IntKind.i64.wrap (x - n)=x - n:=i64_in _ (by omega)
 have hP:=Ka (k:=n - x) a1 (by omega)
 have hQ:=J9 (k:=n - x) b1 (by omega)
 have Mu:0<Sh.tB (Nt.val q) (n - x):=Sh.xe b0 _
 rw [ew] at h1 h2 ⊢
 rw [Wq] at h5 h6 h7 iS kA jM ⊢
 unfold Sh.some_
 simp only
 generalize Mv:Sh.tA (Nt.val p) (n - x)=P at *
 generalize YN:Sh.tB (Nt.val q) (n - x)=Q at *
 have w1:Nt.val v1=P:=by rw [h1,Nt.eY]
 have w2:Nt.val v2=Q:=by rw [h2,Nt.eY]
 rw [w1,w2] at h3 h4
 have w3:Nt.val v3=P / Q:=by rw [h3,Nt.eY]
 have w4:Nt.val v4=P % Q:=by rw [h4,Nt.eY]
 have w8:Nt.val v8=1:=by rw [h8,Nt.eY];rfl
 rw [w3,w8] at h9
 have w9:Nt.val v9=P / Q+1:=by rw [h9,Nt.eY]
 rw [w3] at h5 h6 h7 ⊢
 rw [w9] at iS kA jM ⊢
 rw [w4] at nr
 have UT:Nt.val kq=P % Q * 2:=by rw [nr,Nt.eY];rfl
 rw [UT,w2] at oa
 have N1:1≤P / Q:=(Nat.le_div_iff_mul_le Mu).2 (by omega)
 have N2:P / Q<10 ^ 17:=(Nat.div_lt_iff_lt_mul Mu).2 r2
 have N3:P / Q<2 ^ 2500:=Nat.lt_of_le_of_lt (Nat.div_le_self _ _) hP
 have N4:P / Q+1<10 ^ 200:=Nat.lt_of_le_of_lt (Nat.succ_le_of_lt N2) J8
 have R1:P % Q<2 ^ 2500:=Nat.lt_trans (Nat.mod_lt _ Mu) hQ
 have i1:Nt.is v1=true:=by rw [h1];exact jg (i:=2500) hP (by omega)
 have i2:Nt.is v2=true:=by rw [h2];exact jg (i:=2500) hQ (by omega)
 have i3:Nt.is v3=true:=by rw [h3];exact jg (i:=2500) N3 (by omega)
 have i4:Nt.is v4=true:=by rw [h4];exact jg (i:=2500) R1 (by omega)
 have i8:Nt.is v8=true:=by rw [h8];exact jg (i:=1) (by decide) (by omega)
 have i9:Nt.is v9=true:=by rw [h9];exact jg (i:=665) (Nat.lt_trans N4 La) (by omega)
 have i13:Nt.is kq=true:=by
  rw [nr]
  exact jg (i:=2502) (nG (i:=2500) (j:=2) (k:=2502) R1 (by decide) (by omega)) (by omega)
 have U9:v2≠[]:=by intro e;rw [e] at w2;simp [Nt.val] at w2;omega
 have U8:v3≠[]:=by intro e;rw [e] at w3;simp [Nt.val] at w3;omega
 have l3:=List.length_pos_iff.2 U8
 have Sr:tG=UInt16.ofNat (P / Q):=by rw [zS,h3,Nt.lR (by omega)];rfl
 have c1:(decide (-400≤n - x∧n - x≤400∧Nt.val p<2 ^ 1100∧Nt.val q<2 ^ 1100))=true:=aa ⟨by omega,by omega,a1,b1⟩
 have c3:(decide (-1000≤x - n∧x - n≤1000∧0<P / Q∧P / Q<10 ^ 200))=true:=aa ⟨by omega,by omega,by omega,Nat.lt_trans N2 J8⟩
 have c9:(decide (-1000≤x - n∧x - n≤1000∧0<P / Q+1∧P / Q+1<10 ^ 200))=true:=aa ⟨by omega,by omega,by omega,N4⟩
 have hx:bD (0:Int) v3.length=true:=bN (by omega) (by omega)
 rw [ha,hb,c1,i1,i2,aa U9,i3,c3,i8,i9,c9,i4,i13,hx]
 refine (bx (by rfl)).trans ((bx (by rfl)).trans ((bx (by rfl)).trans ((bx (by rfl)).trans ((bx (by rfl)).trans ((bx (by rfl)).trans ((bx (by rfl)).trans ?_))))))
 have Sq:tF=decide (P % Q * 2=Q∧P / Q % 2=0):=by
  have e0:decide (UInt16.ofNat (P / Q) % 2=0)=decide (P / Q % 2=0):=aY.2 (E8 _)
  rw [wv,Sr,e0,oa]
  rcases pd (P % Q * 2) Q with ⟨k,l⟩ | ⟨k,l⟩ | ⟨k,l⟩
  ·rw [k,ab (by decide),ae,ab (by omega)]
  ·rw [k,aa (by decide),ah,aY];omega
  ·rw [k,ab (by decide),ae,ab (by omega)]
 have Hn:decide (jh<0)=decide (P % Q * 2<Q):=by
  rw [oa,aY]
  rcases pd (P % Q * 2) Q with ⟨k,l⟩ | ⟨k,l⟩ | ⟨k,l⟩ <;> rw [k] <;> omega
 rw [Hn] at nV
 have hB:∀v7 v12 jb c:Bool,(!v7 || v7)=true∧(!(v7&&(!(!v12))) || (v7&&(!(!v12))))=true∧(!v7 || (v7&&((!v12) || (v7&&(!(!v12))))))=true∧(!(v7&&(!jb)) || (v7&&(!jb)))=true∧(!((v7&&(!jb))&&c) || (((v7&&(!jb))&&c)&&true))=true∧(!((v7&&(!jb))&&c) || ((v7&&(!jb))&&c))=true ∧
   (!(v7&&(!jb)) || ((v7&&(!jb))&&(!c || ((v7&&(!jb))&&c))))=true∧(!v7 || (v7&&(jb || (v7&&(!jb)))))=true:=by decide
 obtain ⟨t1,t2,t3,t4,t5,t6,t7,t8⟩:=hB v7 v12 jb (decide (jh=0))
 rw [←sw] at t5 t6 t7
 have hz:(!decide ((2:UInt16)=0))=true:=rfl
 rw [hz,bx t1,bx t1,bx t2,bx t3,bx t1,bx t4,bx t4,bx t5,bx t6,bx t5,bx t6,bx t7,bx t8,bx t1]
 rw [Sh.vJ] at h5 h6 h7 iS kA jM
 generalize Sh.reads b.toNat (P / Q) (x - n)=u at *
 generalize Sh.reads b.toNat (P / Q+1) (x - n)=o at *
 have Pq:wX=decide (u.isSome=true∧(o.isSome=false∨2 * (P % Q)<Q∨(2 * (P % Q)=Q∧P / Q % 2=0))):=by
  rw [ET,nV,Sq,h7,jM]
  have q1:decide (P % Q * 2<Q)=decide (2 * (P % Q)<Q):=aY.2 (by omega)
  have q2:decide (P % Q * 2=Q∧P / Q % 2=0)=decide (2 * (P % Q)=Q∧P / Q % 2=0):=aY.2 (by omega)
  rw [q1,q2]
  by_cases k1:2 * (P % Q)<Q <;> by_cases k2:(2 * (P % Q)=Q∧P / Q % 2=0) <;> cases u.isSome <;> cases o.isSome <;> simp [k1,k2]
 by_cases hc:u.isSome=true∧(o.isSome=false∨2 * (P % Q)<Q∨(2 * (P % Q)=Q∧P / Q % 2=0))
 ·rw [Pq,aa hc,ah,au hc,h5,h6,hc.1]
 ·rw [Pq,ab hc,ae,ao hc,iS,kA,jM]
theorem vb (b:UInt64):(b &&& ~~~(9223372036854775808:UInt64)).toNat=Sh.kx b:=by
 have e:(~~~(9223372036854775808:UInt64))=9223372036854775807:=by decide
 rw [e,UInt64.toNat_and]
 exact Nat.and_two_pow_sub_one_eq_mod b.toNat 63
theorem vG {b:UInt64} (h:(Nr.split b).1=2):0<Sh.kx b∧Sh.kx b≤top∧(Nr.split b).2.2.1.toNat=nI (Sh.kx b)∧(Nr.split b).2.2.2=(sh (Sh.kx b):Int) - 1074:=by
 have hb:=b.toNat_lt
 have hx:b.toNat / 4503599627370496 % 2048=Sh.kx b / 4503599627370496:=by unfold Sh.kx;omega
 have hf:b.toNat % 4503599627370496=Sh.kx b % 4503599627370496:=by unfold Sh.kx;omega
 have hm:Sh.kx b<9223372036854775808:=Nat.mod_lt _ (by omega)
 unfold Nr.split at h ⊢
 simp only [hx,hf] at h ⊢
 generalize Sh.kx b=p at *
 unfold nI sh top
 by_cases c1:p / 4503599627370496=2047
 ·rw [au c1] at h
  by_cases c2:p % 4503599627370496=0
  ·rw [au c2] at h;simp at h
  ·rw [ao c2] at h;simp at h
 ·rw [ao c1] at h ⊢
  by_cases c2:p / 4503599627370496=0
  ·rw [au c2] at h ⊢
   by_cases c3:p % 4503599627370496=0
   ·rw [au c3] at h;simp at h
   ·rw [ao c3,au (show p<4503599627370496 by omega)]
    refine ⟨by omega,by omega,?_,?_⟩
    ·show (UInt64.ofNat _).toNat=_;rw [fA];omega
    ·show (-1074:Int)=_;omega
  ·rw [ao c2,ao (show ¬p<4503599627370496 by omega)]
   refine ⟨by omega,by omega,?_,?_⟩
   ·show (UInt64.ofNat _).toNat=_;rw [fA];omega
   ·show ((p / 4503599627370496:Nat):Int) - 1075=_;omega
def xF (i:Nat):Bool :=
 let k:Int:=(i:Int) - 1100
 let x:=Int.tdiv (k * 30103) 100000 - 2
 decide (10 ^ (x - 1).toNat * 2 ^ (-(k - 1)).toNat≤2 ^ (k - 1).toNat * 10 ^ (-(x - 1)).toNat)&&decide (-390≤x)
theorem Ei:∀i,i<2201→xF i=true:=by
 have h:(List.range 2201).all xF=true:=by decide +kernel
 intro i hi
 exact aD.1 h i (List.mem_range.2 hi)
end Go.Eng
set_option maxRecDepth 20000
namespace Go.Eng
open Go.IntWalk
open Nr (V nI sh top je rd)
theorem nJ (a b:Int):a<b∨b≤a:=by omega
theorem At (n:Nat) (h:0<n):2 ^ (Nt.bits n - 1)≤n∧n<2 ^ Nt.bits n∧0<Nt.bits n:=Nt.jy h
theorem Cp {a b:Nat} (h:a<b):2 ^ a<2 ^ b:=Nat.pow_lt_pow_right (by omega) h
theorem vf (p:Nat) (ht:p≤top):Sh.jO p<2 ^ 1100∧Sh.iG p<2 ^ 1100∧Nt.bits (Sh.jO p)≤1100∧Nt.bits (Sh.iG p)≤1080:=by
 have h1:=Nr.uy p
 have h2:=Nr.A4 ht
 have hm:nI p<2 ^ 53:=h1
 have ha:Sh.jO p<2 ^ 1100:=nG (i:=53) (j:=972) (k:=1100) hm (Cp (b:=972) (by omega)) (by omega)
 have hb:Sh.iG p<2 ^ 1080:=Cp (b:=1080) (by omega)
 refine ⟨ha,kh (i:=1080) (k:=1100) hb (by omega),?_,?_⟩
 ·exact Nt.kQ (k:=1100) ha
 ·exact Nt.kQ (k:=1080) hb
theorem K8:(2:Nat) ^ 1024<10 ^ 310:=by decide +kernel
theorem K7:(2:Nat) ^ 1074<10 ^ 330:=by decide +kernel
theorem H5 {p:Nat} (h:p≤top):V p<2 ^ 1024 * 2 ^ 1074:=by
 have h1:=Nr.PH h
 have h2:=Nr.pn top
 have h3:V (top+1)=2 ^ 1024 * 2 ^ 1074:=by decide +kernel
 rw [←h3]
 exact Nat.lt_of_le_of_lt h1 h2
theorem Pt {a b A K T V':Nat} (hb:0<b) (h:a * K=V' * b) (hV:V'<T * K) (hA:T<A):a<A * b:=by
 by_cases c:K=0
 ·subst c;rw [Nat.mul_zero] at hV;omega
 ·have hK:0<K:=by omega
  refine Nat.lt_of_mul_lt_mul_right (a:=K) ?_
  rw [h]
  have:V' * b<T * K * b:=Nat.mul_lt_mul_of_pos_right hV hb
  refine Nat.lt_trans this ?_
  rw [Nat.mul_right_comm]
  exact Nat.mul_lt_mul_of_pos_right (Nat.mul_lt_mul_of_pos_right hA hb) hK
theorem Ps {a b A K V':Nat} (ha:0<a) (h:a * K=V' * b) (hV:0<V') (hA:K<A):b<a * A:=by
 have h1:1 * b≤V' * b:=av _ hV
 have h2:a * K<a * A:=Nat.mul_lt_mul_of_pos_left hA ha
 omega
theorem MT {a b n d:Nat} (hn:n≤d) (h:10 ^ d * b≤a) (g:a<10 ^ n * b):False:=by
 have:=av b (Nr.mK hn)
 omega
theorem xO {p:Nat} (hp:0<p) (ht:p≤top) : -330≤Sh.dx p∧Sh.dx p≤311:=by
 obtain ⟨h1,h2⟩:=Sh.C1 hp
 have ES:=Sh.KS p
 have hb:=Sh.mJ p
 have hV:0<V p:=by have:=Nr.AF hp;omega
 have ha:0<Sh.jO p:=Nat.mul_pos (Sh.sT hp) (Nat.two_pow_pos _)
 constructor
 ·rcases nJ (Sh.dx p) (-330) with c | c
  ·exfalso
   have g:=Ps ha ES hV K7
   have e0:(Sh.dx p).toNat=0:=by omega
   rw [e0,Nat.pow_zero,Nat.one_mul] at h2
   have e1:Sh.jO p * 10 ^ 330≤Sh.jO p * 10 ^ (-(Sh.dx p)).toNat:=Nat.mul_le_mul_left _ (Nr.mK (a:=330) (by omega))
   exact Nat.lt_irrefl _ (Nat.lt_trans g (Nat.lt_of_le_of_lt e1 h2))
  ·exact c
 ·rcases nJ 311 (Sh.dx p) with c | c
  ·exfalso
   have g:=Pt hb ES (H5 ht) K8
   have e0:(-(Sh.dx p - 1)).toNat=0:=by omega
   rw [e0,Nat.pow_zero,Nat.mul_one] at h1
   exact MT (n:=310) (by omega) h1 g
  ·exact c
theorem pk {p:Nat} (hp:0<p) (x:Int):Sh.tB (Sh.iG p) (-x)≤Sh.tA (Sh.jO p) (-x) ↔ x<Sh.dx p:=by
 obtain ⟨h1,h2⟩:=Sh.C1 hp
 have hb:=Sh.xe (Sh.mJ p) (-x)
 constructor
 ·intro h
  rcases nJ x (Sh.dx p) with c | c
  ·exact c
  ·exfalso
   have key:Sh.tA (Sh.jO p) (-x)<Sh.tB (Sh.iG p) (-x):=by
    unfold Sh.tA Sh.tB
    refine Nat.lt_of_mul_lt_mul_right (a:=10 ^ (-(Sh.dx p)).toNat) ?_
    rw [Nat.mul_right_comm]
    refine Nat.lt_of_lt_of_le (Nat.mul_lt_mul_of_pos_right h2 (Nr.fT _)) ?_
    rw [Nat.mul_comm (10 ^ (Sh.dx p).toNat),Nat.mul_assoc,Nat.mul_assoc,←Nat.pow_add,←Nat.pow_add]
    exact Nat.mul_le_mul_left _ (Nr.mK (by omega))
   omega
 ·intro h
  have h3:10 ^ (Sh.dx p - 1).toNat * Sh.iG p * 10 ^ (-x).toNat≤Sh.jO p * 10 ^ (-(Sh.dx p - 1)).toNat * 10 ^ (-x).toNat:=av _ h1
  unfold Sh.tA Sh.tB
  refine Nat.le_of_mul_le_mul_right (c:=10 ^ (-(Sh.dx p - 1)).toNat) ?_ (Nr.fT _)
  rw [Nat.mul_right_comm (Sh.jO p)]
  refine Nat.le_trans ?_ h3
  rw [Nat.mul_assoc,←Nat.pow_add,Nat.mul_comm (10 ^ (Sh.dx p - 1).toNat),Nat.mul_assoc,←Nat.pow_add]
  exact Nat.mul_le_mul_left _ (Nr.mK (by omega))
theorem GR {p:Nat} (hp:0<p) (ht:p≤top):Int.tdiv ((((Nt.bits (Sh.jO p):Nat):Int) - (Nt.bits (Sh.iG p):Nat)) * 30103) 100000 - 2≤Sh.dx p∧-390≤Int.tdiv ((((Nt.bits (Sh.jO p):Nat):Int) - (Nt.bits (Sh.iG p):Nat)) * 30103) 100000 - 2:=by
 have ha:0<Sh.jO p:=Nat.mul_pos (Sh.sT hp) (Nat.two_pow_pos _)
 obtain ⟨a1,a2,a3⟩:=At _ ha
 obtain ⟨b1,b2,b3⟩:=At _ (Sh.mJ p)
 obtain ⟨_,_,ba,bb⟩:=vf p ht
 obtain ⟨h1,h2⟩:=Sh.C1 hp
 generalize hi:(Nt.bits (Sh.jO p)+1100 - Nt.bits (Sh.iG p))=i
 have g:=Ei i (by omega)
 unfold xF at g
 have ek:(i:Int) - 1100=((Nt.bits (Sh.jO p):Nat):Int) - (Nt.bits (Sh.iG p):Nat):=by omega
 simp only [ek,af,aA] at g
 obtain ⟨g1,g2⟩:=g
 refine ⟨?_,g2⟩
 generalize Int.tdiv ((((Nt.bits (Sh.jO p):Nat):Int) - (Nt.bits (Sh.iG p):Nat)) * 30103) 100000 - 2=x at *
 rcases nJ (Sh.dx p) x with c | c
 ·exfalso
  generalize Nt.bits (Sh.jO p)=u at *
  generalize Nt.bits (Sh.iG p)=v at *
  generalize Sh.jO p=a at *
  generalize Sh.iG p=b at *
  generalize Sh.dx p=d at *
  -- 2^(u-1) * 10^(-d)<10^d * 2^v
  have s1:2 ^ (u - 1) * 10 ^ (-d).toNat<10 ^ d.toNat * 2 ^ v:=by
   refine Nat.lt_of_le_of_lt (av _ a1) (Nat.lt_trans h2 ?_)
   exact Nat.mul_lt_mul_of_pos_left b2 (Nr.fT _)
  -- 10^(x-1) * 2^(-(k-1)) <= 2^(k-1) * 10^(-(x-1)),2^(k-1)<10^d * ..,d <= x - 1
  have s5:10 ^ (x - 1).toNat * 2 ^ (-(((u:Nat):Int) - (v:Nat) - 1)).toNat * (2 ^ v * 10 ^ (-d).toNat)≤2 ^ (((u:Nat):Int) - (v:Nat) - 1).toNat * 10 ^ (-(x - 1)).toNat * (2 ^ v * 10 ^ (-d).toNat):=av _ g1
  have e4:2 ^ (((u:Nat):Int) - (v:Nat) - 1).toNat * 10 ^ (-(x - 1)).toNat * (2 ^ v * 10 ^ (-d).toNat)=(2 ^ (u - 1) * 10 ^ (-d).toNat) * (2 ^ (-(((u:Nat):Int) - (v:Nat) - 1)).toNat * 10 ^ (-(x - 1)).toNat):=by
   have:2 ^ (((u:Nat):Int) - (v:Nat) - 1).toNat * 2 ^ v=2 ^ (u - 1) * 2 ^ (-(((u:Nat):Int) - (v:Nat) - 1)).toNat:=Nr.yX (by omega)
   rw [show 2 ^ (((u:Nat):Int) - (v:Nat) - 1).toNat * 10 ^ (-(x - 1)).toNat * (2 ^ v * 10 ^ (-d).toNat)=(2 ^ (((u:Nat):Int) - (v:Nat) - 1).toNat * 2 ^ v) * (10 ^ (-(x - 1)).toNat * 10 ^ (-d).toNat) by simp only [Nat.mul_assoc,Nat.mul_comm,Nat.mul_left_comm],this]
   simp only [Nat.mul_assoc,Nat.mul_comm,Nat.mul_left_comm]
  rw [e4] at s5
  have s6:(2 ^ (u - 1) * 10 ^ (-d).toNat) * (2 ^ (-(((u:Nat):Int) - (v:Nat) - 1)).toNat * 10 ^ (-(x - 1)).toNat)<(10 ^ d.toNat * 2 ^ v) * (2 ^ (-(((u:Nat):Int) - (v:Nat) - 1)).toNat * 10 ^ (-(x - 1)).toNat):=Nat.mul_lt_mul_of_pos_right s1 (Nat.mul_pos (Nat.two_pow_pos _) (Nr.fT _))
  have s7:=Nat.lt_of_le_of_lt s5 s6
  have e5:10 ^ (x - 1).toNat * 2 ^ (-(((u:Nat):Int) - (v:Nat) - 1)).toNat * (2 ^ v * 10 ^ (-d).toNat)=10 ^ ((x - 1).toNat+(-d).toNat) * (2 ^ (-(((u:Nat):Int) - (v:Nat) - 1)).toNat * 2 ^ v):=by
   rw [Nat.pow_add 10];simp only [Nat.mul_assoc,Nat.mul_comm,Nat.mul_left_comm]
  have e6:10 ^ d.toNat * 2 ^ v * (2 ^ (-(((u:Nat):Int) - (v:Nat) - 1)).toNat * 10 ^ (-(x - 1)).toNat)=10 ^ (d.toNat+(-(x - 1)).toNat) * (2 ^ (-(((u:Nat):Int) - (v:Nat) - 1)).toNat * 2 ^ v):=by
   rw [Nat.pow_add 10];simp only [Nat.mul_assoc,Nat.mul_comm,Nat.mul_left_comm]
  rw [e5,e6] at s7
  have s8:=Sh.D5 (Nat.lt_of_mul_lt_mul_right s7)
  omega
 ·exact c
theorem bM.Gj (u:UInt64) (p:Nat) (hu:u.toNat=p) (hp:0<p) (ht:p≤top) (x2 x3:List UInt16) (i2:Nt.is x2=true) (i3:Nt.is x3=true) (w2:Nt.val x2=Sh.jO p) (w3:Nt.val x3=Sh.iG p) (n0:Nat) (hn:n0≤17) (h0:∀j:Nat,1≤j→j<n0→Sh.some_ p (Sh.jO p) (Sh.iG p) (Sh.dx p) j=none) (h1:Sh.some_ p (Sh.jO p) (Sh.iG p) (Sh.dx p) n0=some (Sh.digits p)) :
  ∀m i:Nat,i+m=n0→1≤i→bM.l3 u (Sh.dx p) x2 x3 i=some [.s (Sh.digits p).1,.i .i64 (Sh.digits p).2,.b true]:=by
 obtain ⟨d1,d2⟩:=xO hp ht
 obtain ⟨al,bl,_,_⟩:=vf p ht
 have ha:0<Sh.jO p:=Nat.mul_pos (Sh.sT hp) (Nat.two_pow_pos _)
 have pre:∀i:Nat,1≤i→i≤17→Sh.oY (Sh.jO p) (Sh.iG p) (Sh.dx p) i=true:=fun i h1 h2=>by
  obtain ⟨r1,r2⟩:=Sh.tH hp (n:=i) (by omega)
  have t1:1 * Sh.tB (Sh.iG p) (i - Sh.dx p)≤10 ^ ((i:Int) - 1).toNat * Sh.tB (Sh.iG p) (i - Sh.dx p):=av _ (Nr.fT _)
  have t2:10 ^ (i:Int).toNat * Sh.tB (Sh.iG p) (i - Sh.dx p)≤10 ^ 17 * Sh.tB (Sh.iG p) (i - Sh.dx p):=av _ (Nr.mK (by omega))
  unfold Sh.oY
  exact aa ⟨by omega,by omega,by omega,by omega,ha,al,Sh.mJ p,bl,by omega,Nat.lt_of_lt_of_le r2 t2⟩
 intro m
 induction m with
 | zero =>
  intro i hi Qu
  have hi:i=n0:=hi
  subst hi
  refine bM.uH _ _ _ _ _ ?_
  intro v1 g1 v2 g2 v3 g3 v4 g4
  rw [w2,w3,hu,Sh.tU,h1] at g1 g2 g3
  have e3:v3=true:=g3
  rw [i2,i3,w2,w3,pre i Qu hn,e3]
  refine (bx (by rfl)).trans ?_
  rw [Option.getD_some] at g1 g2
  rw [ah,g1,g2]
 | succ m ih =>
  intro i hi Qu
  refine bM.uH _ _ _ _ _ ?_
  intro v1 g1 v2 g2 v3 g3 v4 g4
  rw [w2,w3,hu,Sh.tU,h0 i Qu (by omega)] at g3
  have e3:v3=false:=g3
  have e4:v4=((i+1:Nat):Int):=by rw [g4,i64_in _ (by omega)];omega
  rw [i2,i3,w2,w3,pre i Qu (by omega),e3]
  refine (bx (by rfl)).trans ?_
  rw [ae,e4]
  exact ih (i+1) (by omega) (by omega)
theorem bM.jd (u:UInt64) (p:Nat) (hu:u.toNat=p) (hp:0<p) (ht:p≤top) (x2 x3:List UInt16) (i2:Nt.is x2=true) (i3:Nt.is x3=true) (w2:Nt.val x2=Sh.jO p) (w3:Nt.val x3=Sh.iG p) :
  ∀(m:Nat) (x:Int),x+m=Sh.dx p→-390≤x→bM.l2 u x x2 x3=some [.s (Sh.digits p).1,.i .i64 (Sh.digits p).2,.b true]:=by
 obtain ⟨d1,d2⟩:=xO hp ht
 obtain ⟨al,bl,_,_⟩:=vf p ht
 intro m
 induction m with
 | zero =>
  intro x hx Ks
  have hx:x=Sh.dx p:=by omega
  subst hx
  refine bM.iu _ _ _ _ ?_
  intro v1 g1
  have OI:¬(Sh.tB (Sh.iG p) (-(Sh.dx p))≤Sh.tA (Sh.jO p) (-(Sh.dx p))):=fun h=>by have:=(pk hp _).1 h;omega
  rw [i2,i3,w2,w3,aa (⟨by omega,by omega,al,bl⟩ : -400≤Sh.dx p∧Sh.dx p≤400∧Sh.jO p<2 ^ 1100∧Sh.iG p<2 ^ 1100)]
  refine (bx (by rfl)).trans ?_
  rw [ab OI,ae]
  obtain ⟨n,n1,n2,n3,n4⟩:=Sh.first hp ht
  exact bM.Gj u p hu hp ht x2 x3 i2 i3 w2 w3 n n2 n3 n4 (n - 1) 1 (by omega) (by omega)
 | succ m ih =>
  intro x hx Ks
  refine bM.iu _ _ _ _ ?_
  intro v1 g1
  have e1:v1=x+1:=by rw [g1,i64_in _ (by omega)]
  rw [i2,i3,w2,w3,aa (⟨by omega,by omega,al,bl⟩ : -400≤x∧x≤400∧Sh.jO p<2 ^ 1100∧Sh.iG p<2 ^ 1100)]
  refine (bx (by rfl)).trans ?_
  rw [aa ((pk hp x).2 (by omega)),ah,e1]
  exact ih (x+1) (by omega) (by omega)
theorem QW {α β γ:Type} (a:α) (b:β) (c:γ) (x:α × β × γ) (h:x=(a,b,c)):x.1=a∧x.2.1=b∧x.2.2=c:=by subst h;exact ⟨rfl,rfl,rfl⟩
theorem BM {b:UInt64} (h:(Nr.split b).1=2):(Sh.dg b).1=(Sh.digits (Sh.kx b)).1∧(Sh.dg b).2.1=(Sh.digits (Sh.kx b)).2∧(Sh.dg b).2.2=true :=
 QW _ _ _ _ ((Sh.KL b).trans (au h))
theorem MW {b:UInt64} (h:¬(Nr.split b).1=2):(Sh.dg b).1=[]∧(Sh.dg b).2.1=0∧(Sh.dg b).2.2=false:=by
 rw [Sh.KL]
 unfold Sh.Qz
 rw [ao h]
 exact ⟨rfl,rfl,rfl⟩
theorem bM.iz (u:UInt64) (p:Nat) (hu:u.toNat=p) (hp:0<p) (ht:p≤top) (x1 x2:List UInt16) (j1:Nt.is x1=true) (j2:Nt.is x2=true) (k1:Nt.val x1=Sh.jO p) (k2:Nt.val x2=Sh.iG p):bM.j1 u x1 x2=some [.s (Sh.digits p).1,.i .i64 (Sh.digits p).2,.b true]:=by
 obtain ⟨al,bl,ba,bb⟩:=vf _ ht
 refine bM.iR _ _ _ ?_
 intro u1 g1 u2 g2 u3 g3 u4 g4 u5 g5
 rw [k1] at g1
 rw [k2] at g2
 obtain ⟨q1,q2⟩:=GR hp ht
 obtain ⟨r1,r2⟩:=xO hp ht
 generalize hA:Nt.bits (Sh.jO p)=A at *
 generalize hB:Nt.bits (Sh.iG p)=B at *
 have e3:u3=((A:Int) - (B:Int)) * 30103:=by
  rw [g3,g1,g2,i64_in ((A:Int) - (B:Int)) (by omega),i64_in _ (by omega)]
 have e4:u4=Int.tdiv (((A:Int) - (B:Int)) * 30103) 100000:=by rw [g4,e3,i64_in _ (by omega)]
 have e5:u5=Int.tdiv (((A:Int) - (B:Int)) * 30103) 100000 - 2:=by rw [g5,e4,i64_in _ (by omega)]
 have hz:(!decide ((100000:Int)=0))=true:=by decide
 rw [j1,j2,bU,bU,hz,bU]
 rw [←e5] at q1 q2
 exact bM.jd u p hu hp ht x1 x2 j1 j2 k1 k2 (Sh.dx p - u5).toNat u5 (by omega) (by omega)
theorem bM.goal (b:UInt64):bM.F b=some [.s (Sh.dg b).1,.i .i64 (Sh.dg b).2.1,.b (Sh.dg b).2.2]:=by
 refine bM.bY _ ?_
 intro v1 h1 v2 h2 v3 h3 v4 h4 v5 h5 v6 h6
 by_cases c:(Nr.split b).1=2
 ·obtain ⟨z1,z2,z3⟩:=BM c
  rw [z1,z2,z3,aa c,aG,ae]
  clear z1 z2 z3
  obtain ⟨hp,ht,hm,he⟩:=vG c
  have hu:v1.toNat=Sh.kx b:=by rw [h1];exact vb b
  obtain ⟨al,bl,ba,bb⟩:=vf _ ht
  have L2:=Nr.A4 ht
  have Ed:=Nr.uy (Sh.kx b)
  rw [hm] at h2
  have w2:Nt.val v2=nI (Sh.kx b):=by rw [h2,Nt.eY]
  have w3:Nt.val v3=1:=by rw [h3,Nt.eY];rfl
  have i2:Nt.is v2=true:=by rw [h2];exact jg (i:=53) Ed (by omega)
  have i3:Nt.is v3=true:=by rw [h3];exact jg (i:=1) (by decide) (by omega)
  have key:∀x1 x2:List UInt16,Nt.is x1=true→Nt.is x2=true→Nt.val x1=Sh.jO (Sh.kx b)→Nt.val x2=Sh.iG (Sh.kx b)→bM.j1 v1 x1 x2=some [.s (Sh.digits (Sh.kx b)).1,.i .i64 (Sh.digits (Sh.kx b)).2,.b true]:=bM.iz v1 _ hu hp ht
  rw [he] at h4 h5 ⊢
  by_cases c2:0≤(sh (Sh.kx b):Int) - 1074
  ·have w4:Nt.val v4=Sh.jO (Sh.kx b):=by rw [h4,Nt.eY,w2];rfl
   have i4:Nt.is v4=true:=by rw [h4,w2];exact jg (i:=1100) al (by omega)
   have UR:Nt.val v3=Sh.iG (Sh.kx b):=by rw [w3];unfold Sh.iG;rw [show (-((sh (Sh.kx b):Int) - 1074)).toNat=0 by omega,Nat.pow_zero]
   rw [aa c2,ah,i2,aa (show 0≤(sh (Sh.kx b):Int) - 1074∧(sh (Sh.kx b):Int) - 1074≤4096 by omega)]
   refine (bx (by rfl)).trans ?_
   exact key v4 v3 i4 i3 w4 UR
  ·have e5:v5=-((sh (Sh.kx b):Int) - 1074):=by rw [h5,i64_in _ (by omega)];omega
   have w6:Nt.val v6=Sh.iG (Sh.kx b):=by rw [h6,Nt.eY,w3,e5,Nat.one_mul];rfl
   have i6:Nt.is v6=true:=by
    rw [h6,w3,e5,Nat.one_mul];exact jg (i:=1100) bl (by omega)
   have US:Nt.val v2=Sh.jO (Sh.kx b):=by rw [w2];unfold Sh.jO;rw [show ((sh (Sh.kx b):Int) - 1074).toNat=0 by omega,Nat.pow_zero,Nat.mul_one]
   rw [ab c2,ae,i3,e5,aa (show 0≤-((sh (Sh.kx b):Int) - 1074)∧-((sh (Sh.kx b):Int) - 1074)≤4096 by omega)]
   refine (bx (by rfl)).trans ?_
   exact key v2 v6 i2 i6 US w6
 ·obtain ⟨z1,z2,z3⟩:=MW c
  rw [z1,z2,z3,ab c];rfl
end Go.Eng
set_option maxRecDepth 20000
namespace Go.Eng
open Go.IntWalk
open Nr (V nI sh top je rd)
theorem qO (n:Int):(Sh.eK n).length=n.toNat:=by unfold Sh.eK;rw [List.length_replicate]
theorem zH {v:Int} (h : -1000000≤v∧v≤1000000):Nr.i64 v=true:=aa (by omega)
theorem dY.iz (x:Int) (t:bz) (hx : -900≤x∧x≤900) (ht:t.length≤1000):dY.j1 x t=some [.s (t++(if x<1 then [101,45]++Nr.itoa (1 - x) else [101,43]++Nr.itoa (x - 1)))]:=by
 refine dY.iR _ _ ?_
 intro v1 h1 v2 h2 v3 h3 v4 h4
 have e1:v1=1 - x:=by rw [h1,i64_in _ (by omega)]
 have e3:v3=x - 1:=by rw [h3,i64_in _ (by omega)]
 by_cases c:x<1
 ·have il:=Sh.ta (v:=1 - x) (by omega) (by omega)
  have i1:Nr.i64 v1=true:=by rw [e1];exact zH (by omega)
  rw [aa c,ah,au c,i1,bx (aa (by show t.length+2≤_;omega)),bU,bx (aa (by rw [aj,e1];show t.length+2+_≤_;omega)),h2,e1,aE]
 ·have il:=Sh.ta (v:=x - 1) (by omega) (by omega)
  have i3:Nr.i64 v3=true:=by rw [e3];exact zH (by omega)
  rw [ab c,ae,ao c,i3,bx (aa (by show t.length+2≤_;omega)),bU,bx (aa (by rw [aj,e3];show t.length+2+_≤_;omega)),h4,e3,aE]
theorem dY.goal (d:bz) (x:Int) (hp:decide (1≤d.length∧d.length≤17∧-900≤x∧x≤900)=true):dY.F d x=some [.s (Sh.CG d x)]:=by
 obtain ⟨p1,p2,p3,p4⟩:=aq hp
 rw [Sh.zB]
 unfold Sh.laid
 refine dY.bY _ _ ?_
 intro v1 h1 v2 h2 v3 h3 v4 h4 v5 h5 v6 h6 v7 h7 v8 h8 v9 h9 v10 iS v11 kA
 have px:∀b:Bool,(!b || b)=true∧(!b || (b&&b))=true:=by decide
 have e1:v1=decide (1≤x∧x≤21):=by rw [h1];by_cases c:1≤x <;> simp [c]
 have e2:v2=decide (1≤x∧x≤21∧(d.length:Int)≤x):=by
  rw [h2,e1]
  by_cases c:1≤x∧x≤21
  ·rw [aa c,ah,aY];omega
  ·rw [ab c,ae,ab (by omega)]
 have e6:v6=decide (-5≤x∧x≤0):=by rw [h6];by_cases c : -5≤x <;> simp [c]
 have e3:v3=x - d.length:=by rw [h3,i64_in _ (by omega)]
 have ew:IntKind.i64.wrap (0 - x)=-x:=by rw [i64_in _ (by omega)];omega
 rw [ew] at h7 ⊢
 rw [bx (px _).1,bx (px _).1,bx (px _).2,bx (px _).1,e2]
 by_cases c1:1≤x∧x≤21∧(d.length:Int)≤x
 ·rw [aa c1,ah,au c1,bx (aa ⟨rfl,by omega,by omega⟩),bx (aa (by rw [qO];omega)),e3]
 ·rw [ab c1,ae,ao c1,bx (px _).1,bx (px _).1,e1]
  by_cases c2:1≤x∧x≤21
  ·have l4:v4.length≤18:=by rw [h4,aj,aF];show min _ _+1≤18;omega
   rw [aa c2,ah,au c2,bx (j9 (by omega) (by omega) (by omega)),bx (aa (by rw [aF];show min _ _+1≤_;omega)),bx (j9 (by omega) (by omega) (by omega)),bx (aa (by rw [aV];omega)),h5,h4,aE]
  ·rw [ab c2,ae,ao c2,bx (px _).1,bx (px _).1,e6]
   by_cases c3 : -5≤x∧x≤0
   ·rw [aa c3,ah,au c3,bx (aa ⟨rfl,by omega,by omega⟩),bx (aa (by rw [h7,qO];show 2+_≤_;omega)),bx (aa (by rw [aj,h7,qO];show 2+_+_≤_;omega)),h8,h7,aE]
   ·have l9:v9.length≤1:=by rw [h9,aF];show min 1 _≤1;omega
    have l10:v10.length≤17:=by rw [iS,aV];omega
    have g9:v9=d.take 1:=h9
    have g10:v10=d.drop 1:=iS
    rw [ab c3,ae,ao c3,bx (j9 (by omega) (by omega) (by omega))]
    by_cases c4:1<d.length
    ·rw [aa (by omega),ah,bx (j9 (by omega) (by omega) (by omega)),bx (aa (by show 1+v10.length≤_;omega)),bx (aa (by rw [aj];show v9.length+(1+v10.length)≤_;omega)),dY.iz x v11 ⟨p3,p4⟩ (by rw [kA,aj,aj];show v9.length+(1+v10.length)≤_;omega),au c4,kA,g9,g10];rfl
    ·rw [ab (by omega),ae,dY.iz x v9 ⟨p3,p4⟩ (by omega),ao c4,bj,g9]
theorem Ho {b:UInt64} (h:(Nr.split b).1=2):(1≤(Sh.dg b).1.length∧(Sh.dg b).1.length≤17∧-900≤(Sh.dg b).2.1∧(Sh.dg b).2.1≤900)∧Sh.B1 (Sh.dg b).1∧Nr.read (Sh.dg b).1 (Sh.dg b).2.1=some (Sh.kx b):=by
 obtain ⟨hp,ht,hm,he⟩:=vG h
 obtain ⟨z1,z2,z3⟩:=BM h
 obtain ⟨n,N,n1,n2,n3,n4,n5,n6,n7⟩:=Sh.wH hp ht
 obtain ⟨d1,d2⟩:=xO hp ht
 have hl:=Sh.HD n1 n4
 have hN:N<10 ^ (n+1):=Nat.lt_of_le_of_lt n4 (Nat.pow_lt_pow_right (by omega) (by omega))
 have hL:=Nr.iV (n+1) N hN (by omega)
 have hr:=Sh.Ai hp ht
 obtain ⟨q1,q2,q3,q4⟩:=Nr.j8 N
 obtain ⟨t,t1,t2⟩:=Nr.lB (Nr.dec N)
 have ne:Nr.gw (Nr.dec N)≠[]:=by
  intro e0
  have hn:=congrArg Nr.num t1
  rw [Nr.ia,Nr.kn,List.length_replicate,Nat.add_zero,q2,e0,show Nr.num []=0 from rfl,Nat.zero_mul] at hn
  omega
 have We:=Nr.mg N
 have nN:=List.length_pos_iff.2 ne
 rw [z1,z2]
 refine ⟨?_,?_,hr⟩
 ·rw [n6]
  refine ⟨nN,Nat.le_trans hl n2,?_,?_⟩
  ·show -900≤((Nr.dec N).length:Int)+(Sh.dx (Sh.kx b) - n);omega
  ·show ((Nr.dec N).length:Int)+(Sh.dx (Sh.kx b) - n)≤900;omega
 ·rw [n6]
  refine ⟨(Nr.iQ q1 t1).1,ne,?_⟩
  have:=q4 n3
  rw [t1,ai,List.getElem?_append_left nN,←ai] at this
  exact this
theorem tR (b:UInt64):(Nr.split b).1=1∨(Nr.split b).1=2∨(Nr.split b).1=3∨(Nr.split b).1=4:=by
 unfold Nr.split
 simp only
 by_cases c1:b.toNat / 4503599627370496 % 2048=2047
 ·rw [au c1]
  by_cases c2:b.toNat % 4503599627370496=0
  ·rw [au c2];exact .inr (.inr (.inl rfl))
  ·rw [ao c2];exact .inr (.inr (.inr rfl))
 ·rw [ao c1]
  by_cases c2:b.toNat / 4503599627370496 % 2048=0
  ·rw [au c2]
   by_cases c3:b.toNat % 4503599627370496=0
   ·rw [au c3];exact .inl rfl
   ·rw [ao c3];exact .inr (.inl rfl)
  ·rw [ao c2];exact .inr (.inl rfl)
theorem zA {b:UInt64} (h:(Nr.split b).1=2):(Sh.laid (Sh.dg b).1 (Sh.dg b).2.1).length≤24:=by
 obtain ⟨⟨_,r2,r3,r4⟩,hL,_⟩:=Ho h
 obtain ⟨_,_,_,_,_,_,_,hlen,_⟩:=Sh.Bv hL r2 ⟨r3,r4⟩
 exact hlen
theorem dD.iz (b:UInt64) (t:bz) (ht:t.length≤1000):dD.j1 (Nr.split b).2.1 t=some [.s (Sh.sign b++t)]:=by
 rw [dD.lg]
 unfold Sh.sign
 cases (Nr.split b).2.1 with
 | true=>rw [ah,bx (aa (by show 1+t.length≤_;omega)),au rfl]
 | false=>rw [ae,ao (by decide)];rfl
theorem dD.goal (b:UInt64):dD.F b=some [.s (Sh.text b)]:=by
 refine dD.bY _ ?_
 intro v1 h1
 rw [Sh.zB] at h1
 rw [Sh.sL]
 unfold Sh.tP
 by_cases c4:(Nr.split b).1=4
 ·rw [aa c4,ah,au c4]
 ·rw [ab c4,ae,ao c4]
  by_cases c3:(Nr.split b).1=3
  ·rw [aa c3,ah,au c3,dD.iz b _ (by decide)]
  ·rw [ab c3,ae,ao c3]
   by_cases c1:(Nr.split b).1=1
   ·rw [aa c1,ah,au c1,dD.iz b _ (by decide)]
   ·have c2:(Nr.split b).1=2:=by have:=tR b;omega
    have hl:=zA c2
    rw [ab c1,ae,ao c1,bx (aa (Ho c2).1),h1,dD.iz b _ (by omega)]
end Go.Eng
set_option maxRecDepth 20000
namespace Go.Eng
open Nr (nI sh top)
namespace Sh
def Kl (m:Nat):Int:=if m / 4503599627370496=2047 then (if m % 4503599627370496=0 then 3 else 4) else if m / 4503599627370496=0 then (if m % 4503599627370496=0 then 1 else 2) else 2
theorem oX (b:UInt64):(Nr.split b).1=Kl (kx b)∧(Nr.split b).2.1=decide (9223372036854775808≤b.toNat):=by
 have hb:=b.toNat_lt
 have hx:b.toNat / 4503599627370496 % 2048=kx b / 4503599627370496:=by unfold kx;omega
 have hf:b.toNat % 4503599627370496=kx b % 4503599627370496:=by unfold kx;omega
 unfold Nr.split Kl
 simp only [hx,hf]
 generalize kx b=p
 by_cases c1:p / 4503599627370496=2047
 ·rw [au c1,au c1]
  by_cases c2:p % 4503599627370496=0
  ·rw [au c2,au c2];exact ⟨rfl,rfl⟩
  ·rw [ao c2,ao c2];exact ⟨rfl,rfl⟩
 ·rw [ao c1,ao c1]
  by_cases c2:p / 4503599627370496=0
  ·rw [au c2,au c2]
   by_cases c3:p % 4503599627370496=0
   ·rw [au c3,au c3];exact ⟨rfl,rfl⟩
   ·rw [ao c3,ao c3];exact ⟨rfl,rfl⟩
  ·rw [ao c2,ao c2];exact ⟨rfl,rfl⟩
noncomputable def tb (b:UInt64):bz:=if (Nr.split b).1=3 then [73,110,102,105,110,105,116,121] else if (Nr.split b).1=1 then [48] else laid (dg b).1 (dg b).2.1
theorem Fh {b:UInt64} (h:(Nr.split b).1=4):text b=[78,97,78]:=by rw [sL];unfold tP;rw [au h]
theorem IC {b:UInt64} (h:¬(Nr.split b).1=4):text b=sign b++tb b:=by
 rw [sL];unfold tP tb
 rw [ao h]
 by_cases c3:(Nr.split b).1=3
 ·rw [au c3,au c3]
 ·rw [ao c3,ao c3]
  by_cases c1:(Nr.split b).1=1
  ·rw [au c1,au c1]
  ·rw [ao c1,ao c1]
theorem Lc {b:UInt64} (h:¬(Nr.split b).1=4):(tb b).length≤24:=by
 unfold tb
 by_cases c3:(Nr.split b).1=3
 ·rw [au c3];decide
 ·rw [ao c3]
  by_cases c1:(Nr.split b).1=1
  ·rw [au c1];decide
  ·rw [ao c1]
   exact zA (by have:=tR b;omega)
theorem qc (b:UInt64):(text b).length≤25:=by
 by_cases c:(Nr.split b).1=4
 ·rw [Fh c];decide
 ·rw [IC c,aj]
  have:=Lc c
  have hs:(sign b).length≤1:=by unfold sign;split <;> decide
  omega
end Sh
end Go.Eng
set_option maxRecDepth 20000
namespace Go.Eng
open Go.IntWalk
theorem jR (a:Bool):(!a || a)=true:=by cases a <;> rfl
theorem M3 (a:Bool):(a || !a)=true:=by cases a <;> rfl
theorem y0 {t s:bz} (h:t.length≤s.length):List.isPrefixOf t s=decide (s.take t.length=t):=by
 rw [aS,List.isPrefixOf_iff_prefix,aA,List.prefix_iff_eq_take]
 exact ⟨fun h=>h.symm,fun h=>h.symm⟩
theorem dj.goal (s t:bz):dj.F s t=some [.b (List.isPrefixOf t s)]:=by
 refine dj.bY _ _ ?_
 intro v1 h1 v2 h2
 rw [bx (jR _),bx ?_,bx ?_,bx (jR _)]
 ·congr 3
  rw [h2,h1]
  by_cases h:t.length≤s.length
  ·rw [aa (by omega),ah,y0 h];rfl
  ·rw [ab (by omega),ae]
   cases hb:List.isPrefixOf t s with
   | false=>rfl
   | true=>exact absurd (List.isPrefixOf_iff_prefix.1 hb).length_le h
 ·cases decide ((t.length:Int)≤s.length) <;> rfl
 ·by_cases h:t.length≤s.length
  ·rw [j9 (by omega) (by omega) (by omega)];cases decide ((t.length:Int)≤s.length) <;> rfl
  ·rw [ab (by omega)];rfl
theorem cS.goal (s t:bz):cS.F s t=some [.b (List.isPrefixOf t s)]:=cS.dW s t
theorem di.goal (s:bz) (c:UInt8):di.F s c=some [.i .i64 (Lib.indexByte s c)]:=di.dW s c
theorem AD (x:UInt64):(x &&& (4294967295:UInt64)).toNat=x.toNat % 4294967296:=by
 rw [UInt64.toNat_and]
 exact Nat.and_two_pow_sub_one_eq_mod x.toNat 32
theorem tW (x:UInt64):(dQ x (32:UInt64).toNat).toNat=x.toNat / 4294967296:=ir x 32
theorem fJ.goal (a b:UInt64):fJ.F a b=some [.u64 (UInt64.ofNat (a.toNat * b.toNat / 18446744073709551616)),.u64 (UInt64.ofNat (a.toNat * b.toNat))]:=by
 refine fJ.bY _ _ ?_
 intro v1 h1 v2 h2 v3 h3 v4 h4 v5 h5 v6 h6 v7 h7 v8 h8
 have ha:=a.toNat_lt
 have hb:=b.toNat_lt
 obtain ⟨k1,k2,k3,k4⟩:=Lib.mul64_hi a.toNat b.toNat ha hb
 have e1:v1.toNat=a.toNat % 4294967296:=by rw [h1,AD]
 have e2:v2.toNat=a.toNat / 4294967296:=by rw [h2,tW]
 have e3:v3.toNat=b.toNat % 4294967296:=by rw [h3,AD]
 have e4:v4.toNat=b.toNat / 4294967296:=by rw [h4,tW]
 have m:∀x y:UInt64,x.toNat≤4294967295→y.toNat≤4294967295→(x * y).toNat=x.toNat * y.toNat:=fun x y hx hy=>by
  rw [UInt64.toNat_mul,Nat.mod_eq_of_lt]
  have:=Lib.half_mul_le hx hy
  omega
 have e5:v5.toNat=a.toNat % 4294967296 * (b.toNat % 4294967296) / 4294967296:=by rw [h5,tW,m _ _ (by omega) (by omega),e1,e3]
 have TW:(v2 * v3+v5).toNat=a.toNat / 4294967296 * (b.toNat % 4294967296)+a.toNat % 4294967296 * (b.toNat % 4294967296) / 4294967296:=by
  rw [UInt64.toNat_add,m _ _ (by omega) (by omega),e2,e3,e5];exact Nat.mod_eq_of_lt k2
 have e6:v6.toNat=(a.toNat / 4294967296 * (b.toNat % 4294967296)+a.toNat % 4294967296 * (b.toNat % 4294967296) / 4294967296) % 4294967296:=by rw [h6,AD,TW]
 have e7:v7.toNat=(a.toNat / 4294967296 * (b.toNat % 4294967296)+a.toNat % 4294967296 * (b.toNat % 4294967296) / 4294967296) / 4294967296:=by rw [h7,tW,TW]
 have e8:v8.toNat=((a.toNat / 4294967296 * (b.toNat % 4294967296)+a.toNat % 4294967296 * (b.toNat % 4294967296) / 4294967296) % 4294967296+a.toNat % 4294967296 * (b.toNat / 4294967296)) / 4294967296:=by
  rw [h8,tW,UInt64.toNat_add,m _ _ (by omega) (by omega),e6,e1,e4]
  congr 1
  exact Nat.mod_eq_of_lt k3
 have hi:((v2 * v4)+v7)+v8=UInt64.ofNat (a.toNat * b.toNat / 18446744073709551616):=by
  apply gf
  rw [UInt64.toNat_add,UInt64.toNat_add,m _ _ (by omega) (by omega),e2,e4,e7,e8,fA,←k4]
  omega
 have lo:a * b=UInt64.ofNat (a.toNat * b.toNat):=by
  apply gf
  rw [UInt64.toNat_mul,fA]
 rw [hi,lo]
theorem N0 {a b:dH}:dH.val a=dH.val b ↔ a.high=b.high∧a.low=b.low:=by
 rw [dH.kG,dH.kG]
 have:=a.low.toNat_lt
 have:=b.low.toNat_lt
 exact ⟨fun h=>⟨gf (by omega),gf (by omega)⟩,fun h=>by rw [h.1,h.2]⟩
theorem NZ {a b:dH}:dH.val a<dH.val b ↔ a.high<b.high∨(a.high=b.high∧a.low<b.low):=by
 rw [dH.kG,dH.kG,aT,aT,←bm]
 have:=a.low.toNat_lt
 have:=b.low.toNat_lt
 omega
theorem ij.goal (a b:dH):ij.F a b=some [.i .i64 (cond (decide (dH.val a=dH.val b)) 0 (cond (decide (dH.val a<dH.val b)) (-1) 1))]:=by
 refine ij.bY _ _ ?_
 intro v1 h1 v2 h2 v3 h3 v4 h4
 have c6:(!(!decide (a.high<b.high)) || ((!decide (a.high<b.high))&&(!decide (a.high=b.high) || v2)))=true:=by
  rw [h2];cases decide (a.high<b.high) <;> cases decide (a.high=b.high) <;> rfl
 have c7:(!v2 || (v2&&v2))=true:=by cases v2 <;> rfl
 have c8:∀x:Bool,(!(!x) || ((!x)&&(!x)))=true:=by decide
 rw [bx (jR _),bx (jR _),bx (c8 _),bx (jR _),bx (jR _),bx (jR _),bx c7,bx c6,bx (M3 _)]
 have hv1:v1=decide (dH.val a=dH.val b):=by rw [h1,aY.2 N0,Bool.decide_and]
 have hv4:v4=decide (dH.val a<dH.val b):=by
  rw [h4,h3,aY.2 NZ,Bool.decide_or,Bool.decide_and]
  cases decide (a.high<b.high) <;> cases decide (a.high=b.high) <;> rfl
 rw [hv1,hv4]
 cases decide (dH.val a=dH.val b) <;> cases decide (dH.val a<dH.val b) <;> rfl
theorem iH.goal (a b:UInt64):iH.F a b=some [.ag (dH.cells (dH.of (a.toNat * b.toNat)))]:=by
 refine iH.bY _ _ ?_
 intro v1 h1 v2 h2
 rw [h1,h2];rfl
theorem NW {n:Nat} (h:n<340282366920938463463374607431768211456):(dH.of n).val=n:=by
 rw [dH.kG];unfold dH.of;simp only [fA];omega
theorem NY {x v:UInt64} {z:Nat} (_:x.toNat<18446744073709551616) (hz:z<18446744073709551616) (h:v=UInt64.ofNat z):dH.of (x.toNat * 18446744073709551616+z)=⟨x,v⟩:=by
 have h1:UInt64.ofNat ((x.toNat * 18446744073709551616+z) / 18446744073709551616)=x:=by apply gf;rw [fA];omega
 have h2:UInt64.ofNat (x.toNat * 18446744073709551616+z)=v:=by rw [h];apply gf;rw [fA,fA];omega
 unfold dH.of
 rw [h1,h2]
theorem iI.goal (a:dH) (b:UInt64) (hp:(decide (9223372036854775808≤b.toNat))=true):iI.F a b=some [.ag (dH.cells (dH.of (dH.val a / b.toNat))),.u64 (UInt64.ofNat (dH.val a % b.toNat)),.b true]:=by
 have hb:=aq hp
 refine iI.bY _ _ ?_
 intro v1 h1 v2 h2 v3 h3 v4 h4
 have hl:=b.toNat_lt
 have ha:=a.high.toNat_lt
 have AN:=a.low.toNat_lt
 have h0:(0:UInt64).toNat=0:=rfl
 rw [h0,Nat.zero_mul,Nat.zero_add] at h1 h2
 have e2:v2.toNat=a.high.toNat % b.toNat:=by rw [h2,fA];have:=Nat.mod_lt a.high.toNat (show 0<b.toNat by omega);omega
 have e1:v1.toNat=a.high.toNat / b.toNat:=by rw [h1,fA];exact Nat.mod_eq_of_lt (Nat.lt_of_le_of_lt (Nat.div_le_self ..) ha)
 have hr:=Nat.mod_lt a.high.toNat (show 0<b.toNat by omega)
 rw [ab (fun h=>by rw [h] at hb;simp at hb),ae,bx (aa (by rw [h0];omega)),bx (aa (by rw [e2];omega))]
 have key:dH.val a=b.toNat * (a.high.toNat / b.toNat * 18446744073709551616)+(a.high.toNat % b.toNat * 18446744073709551616+a.low.toNat):=by
  rw [dH.kG]
  conv=>lhs;rw [←Nat.div_add_mod a.high.toNat b.toNat,Nat.add_mul,Nat.mul_assoc]
  omega
 have kd:dH.val a / b.toNat=a.high.toNat / b.toNat * 18446744073709551616+(a.high.toNat % b.toNat * 18446744073709551616+a.low.toNat) / b.toNat:=by
  rw [key,Nat.mul_add_div (by omega)]
 have km:dH.val a % b.toNat=(a.high.toNat % b.toNat * 18446744073709551616+a.low.toNat) % b.toNat:=by
  rw [key,Nat.mul_add_mod]
 have hq:(a.high.toNat % b.toNat * 18446744073709551616+a.low.toNat) / b.toNat<18446744073709551616:=by
  rw [Nat.div_lt_iff_lt_mul (by omega)]
  have:(a.high.toNat % b.toNat+1) * 18446744073709551616≤b.toNat * 18446744073709551616:=av _ hr
  omega
 rw [e2] at h3 h4
 rw [h4,←km]
 have hd:=Nat.lt_of_le_of_lt (Nat.div_le_self a.high.toNat b.toNat) ha
 rw [←e1] at kd hd
 have ew:dH.of (dH.val a / b.toNat)=⟨v1,v3⟩:=by rw [kd];exact NY hd hq h3
 rw [ew];rfl
end Go.Eng
set_option maxRecDepth 20000
namespace Go.Eng
open Go.IntWalk
theorem eP.goal (v:UInt64) (hp:(decide (9223372036854775808≤v.toNat))=true):eP.F v=some [.i .i64 0]:=by
 have hb:=aq hp
 refine eP.bY _ ?_
 intro v1 h1
 have hl:=v.toNat_lt
 have e:Nt.bits v.toNat=64:=Nt.C9 (k:=63) hb hl
 rw [h1,e];rfl
section
variable {B u d yh yl q r:Nat}
theorem Bw:q * (yh * B+yl)=q * yh * B+q * yl:=by rw [Nat.mul_add,Nat.mul_assoc]
theorem sV (hp:0<yh * B+yl) (hu:u=q * yh+r) (hq:(u * B+d) / (yh * B+yl)≤q) (h:q * yl≤r * B+d):(u * B+d) / (yh * B+yl)=q:=by
 refine Nat.le_antisymm hq ((Nat.le_div_iff_mul_le hp).2 ?_)
 rw [Bw,hu,Nat.add_mul];omega
theorem Kk (hp:0<yh * B+yl) (hd:d<B) (Kt:u<yh * B+yl) (hu:u=q * yh+r) (h:B≤q∨r * B+d<q * yl) :
  1≤q∧u=(q - 1) * yh+(r+yh)∧(u * B+d) / (yh * B+yl)≤q - 1:=by
 have vu:1≤q:=by
  rcases h with h | h
  ·omega
  ·rcases Nat.eq_zero_or_pos q with e | e
   ·rw [e] at h;omega
   ·exact e
 refine ⟨vu,?_,?_⟩
 ·have:q * yh=(q - 1) * yh+yh:=by
   conv=>lhs;rw [show q=q - 1+1 by omega,Nat.add_mul,Nat.one_mul]
  omega
 ·refine Nat.le_sub_one_of_lt ?_
  rw [Nat.div_lt_iff_lt_mul hp]
  rcases h with h | h
  ·have h1:B * (yh * B+yl)≤q * (yh * B+yl):=av _ h
   have h2:(u+1) * B≤(yh * B+yl) * B:=av _ Kt
   rw [Nat.mul_comm (yh * B+yl) B] at h2
   rw [Nat.add_mul] at h2
   omega
  ·rw [Bw,hu,Nat.add_mul];omega
theorem LJ (hy:B≤2 * yh) (Nz:yl<B) (Kt:u<yh * B+yl):u / yh≤B+1:=by
 refine Nat.le_of_lt_succ ?_
 have hp:0<yh:=by omega
 rw [Nat.div_lt_iff_lt_mul hp]
 have e:(B+1+1) * yh=yh * B+2 * yh:=by rw [Nat.add_assoc,Nat.add_mul,Nat.mul_comm B yh]
 show u<(B+1+1) * yh
 rw [e];omega
theorem Gk (hp:0<yh) (hB:0<B) (hd:d<B):(u * B+d) / (yh * B+yl)≤u / yh:=by
 refine Nat.le_of_lt_succ ?_
 have hm:0<yh * B:=Nat.mul_pos hp hB
 rw [Nat.div_lt_iff_lt_mul (by omega)]
 have h:=Nat.lt_mul_div_succ u hp
 have h2:(u+1) * B≤yh * (u / yh+1) * B:=av _ h
 rw [Nat.add_mul] at h2
 show _<(u / yh+1) * (yh * B+yl)
 rw [Bw,Nat.mul_comm (u / yh+1) yh]
 omega
end
theorem bI.Ot {Q u:Nat}:∀(k:Nat) (x0 x1 x2 x3 x4 x5 x6 x7 x8:UInt64),4294967296≤x8.toNat+k→2147483648≤x2.toNat→x3.toNat<4294967296→x5.toNat<4294967296→u<x2.toNat * 4294967296+x3.toNat→x8.toNat<4294967296 →
  x2.toNat<4294967296→x7.toNat≤4294967297→u=x7.toNat * x2.toNat+x8.toNat→(u * 4294967296+x5.toNat) / (x2.toNat * 4294967296+x3.toNat)≤x7.toNat→Q=(u * 4294967296+x5.toNat) / (x2.toNat * 4294967296+x3.toNat) →
  bI.l3 x0 x1 x2 x3 x4 x5 x6 x7 x8=bI.j4 x0 x1 x2 x3 x4 x5 x6 (UInt64.ofNat Q):=by
 intro k
 induction k with
 | zero=>intro x0 x1 x2 x3 x4 x5 x6 x7 x8 hk;intros;omega
 | succ k ih =>
  intro x0 x1 x2 x3 x4 x5 x6 x7 x8 hk hy Nz hd Kt hr Ea hq hu hQ eQ
  refine bI.uH _ _ _ _ _ _ _ _ _ ?_
  intro v1 h1 v2 h2
  have hv1:v1.toNat=x8.toNat * 4294967296+x5.toNat:=by
   rw [h1,UInt64.toNat_add,UInt64.toNat_mul,show (4294967296:UInt64).toNat=4294967296 from rfl];omega
  have hm:(x7 * x3).toNat=x7.toNat * x3.toNat:=by
   rw [UInt64.toNat_mul]
   refine Nat.mod_eq_of_lt ?_
   have:=Nat.mul_le_mul hq (show x3.toNat≤4294967295 by omega)
   omega
  have c1:∀b:Bool,(!(!b) || ((!b)&&(!b)))=true:=by decide
  rw [bx (c1 _),bx (jR _),bx (c1 _),bx (c1 _),bx (M3 _)]
  have hB:((4294967296:UInt64)≤x7) ↔ 4294967296≤x7.toNat:=aJ
  have hL:v1<x7 * x3 ↔ x8.toNat * 4294967296+x5.toNat<x7.toNat * x3.toNat:=by rw [aT,hv1,hm]
  have hv2:v2=decide (4294967296≤x7.toNat∨x8.toNat * 4294967296+x5.toNat<x7.toNat * x3.toNat):=by
   rw [h2,aY.2 hB,aY.2 hL,Bool.decide_or]
   cases decide (4294967296≤x7.toNat) <;> rfl
  have hp:0<x2.toNat * 4294967296+x3.toNat:=by omega
  by_cases c:4294967296≤x7.toNat∨x8.toNat * 4294967296+x5.toNat<x7.toNat * x3.toNat
  ·rw [hv2,aa c,ah]
   obtain ⟨g1,g2,g3⟩:=Kk hp hd Kt hu c
   have vu:(x7 - (1:UInt64)).toNat=x7.toNat - 1:=by exact UInt64.toNat_sub_of_le _ _ (aJ.2 (show (1:UInt64).toNat≤_ from g1))
   have EN:(x8+x2).toNat=x8.toNat+x2.toNat:=by rw [UInt64.toNat_add];omega
   by_cases c2:4294967296≤x8.toNat+x2.toNat
   ·rw [aa (aJ.2 (by rw [EN];exact c2)),ah]
    have h3:(x7.toNat - 1) * x3.toNat≤(x8.toNat+x2.toNat) * 4294967296+x5.toNat:=by
     have:=Nat.mul_le_mul (show x7.toNat - 1≤4294967296 by omega) (show x3.toNat≤4294967296 by omega)
     have:=av 4294967296 c2
     omega
    have:=sV hp g2 g3 h3
    rw [show x7 - (1:UInt64)=UInt64.ofNat Q from gf (by rw [vu,fA,eQ,this];omega)]
   ·rw [ab (fun h=>c2 (by have:=aJ.1 h;rwa [EN] at this)),ae]
    exact ih x0 x1 x2 x3 x4 x5 x6 _ _ (by rw [EN];omega) hy Nz hd Kt (by rw [EN];omega) Ea (by rw [vu];omega) (by rw [vu,EN];exact g2) (by rw [vu];exact g3) eQ
  ·rw [hv2,ab c,ae]
   have:=sV hp hu hQ (by omega)
   rw [show x7=UInt64.ofNat Q from gf (by rw [fA,eQ,this];omega)]
theorem bI.Oq {Q u:Nat}:∀(k:Nat) (x0 x1 x2 x3 x4 x5 x6 x7 x8:UInt64),4294967296≤x6.toNat+k→2147483648≤x2.toNat→x3.toNat<4294967296→x4.toNat<4294967296→u<x2.toNat * 4294967296+x3.toNat→x6.toNat<4294967296 →
  x2.toNat<4294967296→x8.toNat≤4294967297→u=x8.toNat * x2.toNat+x6.toNat→(u * 4294967296+x4.toNat) / (x2.toNat * 4294967296+x3.toNat)≤x8.toNat→Q=(u * 4294967296+x4.toNat) / (x2.toNat * 4294967296+x3.toNat) →
  bI.l5 x0 x1 x2 x3 x4 x5 x6 x7 x8=bI.j6 x0 x1 x4 x5 x7 (UInt64.ofNat Q):=by
 intro k
 induction k with
 | zero=>intro x0 x1 x2 x3 x4 x5 x6 x7 x8 hk;intros;omega
 | succ k ih =>
  intro x0 x1 x2 x3 x4 x5 x6 x7 x8 hk hy Nz hd Kt hr Ea hq hu hQ eQ
  refine bI.CH _ _ _ _ _ _ _ _ _ ?_
  intro v1 h1 v2 h2
  have hv1:v1.toNat=x6.toNat * 4294967296+x4.toNat:=by
   rw [h1,UInt64.toNat_add,UInt64.toNat_mul,show (4294967296:UInt64).toNat=4294967296 from rfl];omega
  have hm:(x8 * x3).toNat=x8.toNat * x3.toNat:=by
   rw [UInt64.toNat_mul]
   refine Nat.mod_eq_of_lt ?_
   have:=Nat.mul_le_mul hq (show x3.toNat≤4294967295 by omega)
   omega
  have c1:∀b:Bool,(!(!b) || ((!b)&&(!b)))=true:=by decide
  rw [bx (c1 _),bx (jR _),bx (c1 _),bx (c1 _),bx (M3 _)]
  have hB:((4294967296:UInt64)≤x8) ↔ 4294967296≤x8.toNat:=aJ
  have hL:v1<x8 * x3 ↔ x6.toNat * 4294967296+x4.toNat<x8.toNat * x3.toNat:=by rw [aT,hv1,hm]
  have hv2:v2=decide (4294967296≤x8.toNat∨x6.toNat * 4294967296+x4.toNat<x8.toNat * x3.toNat):=by
   rw [h2,aY.2 hB,aY.2 hL,Bool.decide_or]
   cases decide (4294967296≤x8.toNat) <;> rfl
  have hp:0<x2.toNat * 4294967296+x3.toNat:=by omega
  by_cases c:4294967296≤x8.toNat∨x6.toNat * 4294967296+x4.toNat<x8.toNat * x3.toNat
  ·rw [hv2,aa c,ah]
   obtain ⟨g1,g2,g3⟩:=Kk hp hd Kt hu c
   have vu:(x8 - (1:UInt64)).toNat=x8.toNat - 1:=by exact UInt64.toNat_sub_of_le _ _ (aJ.2 (show (1:UInt64).toNat≤_ from g1))
   have EN:(x6+x2).toNat=x6.toNat+x2.toNat:=by rw [UInt64.toNat_add];omega
   by_cases c2:4294967296≤x6.toNat+x2.toNat
   ·rw [aa (aJ.2 (by rw [EN];exact c2)),ah]
    have h3:(x8.toNat - 1) * x3.toNat≤(x6.toNat+x2.toNat) * 4294967296+x4.toNat:=by
     have:=Nat.mul_le_mul (show x8.toNat - 1≤4294967296 by omega) (show x3.toNat≤4294967296 by omega)
     have:=av 4294967296 c2
     omega
    have:=sV hp g2 g3 h3
    rw [show x8 - (1:UInt64)=UInt64.ofNat Q from gf (by rw [vu,fA,eQ,this];omega)]
   ·rw [ab (fun h=>c2 (by have:=aJ.1 h;rwa [EN] at this)),ae]
    exact ih x0 x1 x2 x3 x4 x5 _ x7 _ (by rw [EN];omega) hy Nz hd Kt (by rw [EN];omega) Ea (by rw [vu];omega) (by rw [vu,EN];exact g2) (by rw [vu];exact g3) eQ
  ·rw [hv2,ab c,ae]
   have:=sV hp hu hQ (by omega)
   rw [show x8=UInt64.ofNat Q from gf (by rw [fA,eQ,this];omega)]
theorem Li (x:UInt64):jr x (UInt64.ofInt 0).toNat=x:=by
 apply gf;unfold jr;rw [fA,show (UInt64.ofInt 0).toNat=0 from rfl];have:=x.toNat_lt;omega
theorem QZ (x:UInt64):dQ x (UInt64.ofInt 0).toNat=x:=by
 apply gf;rw [ir,show (UInt64.ofInt 0).toNat=0 from rfl];omega
theorem Ga {a d q y:UInt64} {N Q t:Nat} (hN:N=a.toNat * 4294967296+d.toNat) (hQ:q.toNat=Q) (ht:N=Q * y.toNat+t) (h:t<18446744073709551616):(((a * (4294967296:UInt64))+d) - (q * y)).toNat=t:=by
 have e1:((a * (4294967296:UInt64))+d).toNat=N % 18446744073709551616:=by
  rw [UInt64.toNat_add,UInt64.toNat_mul,show (4294967296:UInt64).toNat=4294967296 from rfl,hN];omega
 have e2:(q * y).toNat=(Q * y.toNat) % 18446744073709551616:=by rw [UInt64.toNat_mul,hQ]
 rw [UInt64.toNat_sub,e1,e2,ht]
 generalize Q * y.toNat=P
 omega
theorem IE {x y:UInt64}:(x - x / y * y).toNat=x.toNat % y.toNat:=by
 have h:=Nat.div_add_mod x.toNat y.toNat
 rw [Nat.mul_comm] at h
 have hl:=x.toNat_lt
 have e:(x / y * y).toNat=x.toNat / y.toNat * y.toNat:=by
  rw [UInt64.toNat_mul,UInt64.toNat_div];exact Nat.mod_eq_of_lt (by omega)
 rw [UInt64.toNat_sub_of_le _ _ (aJ.2 (by rw [e];omega)),e]
 omega
theorem KK {n y q:Nat} (hy:0<y) (h:n / y=q):∃t,n=q * y+t∧t<y:=⟨n % y,by rw [←h,Nat.mul_comm];exact (Nat.div_add_mod ..).symm,Nat.mod_lt _ hy⟩
theorem Pv {x z:Nat} (hx:x<4294967296) (hz:z<4294967296):UInt64.ofNat x * (4294967296:UInt64)+UInt64.ofNat z=UInt64.ofNat (x * 4294967296+z):=by
 apply gf
 rw [UInt64.toNat_add,UInt64.toNat_mul,show (4294967296:UInt64).toNat=4294967296 from rfl]
 simp only [fA]
 omega
theorem Iz {N hi b d1 d0 y q1 q0 t1 t0:Nat} (h1:hi * 4294967296+d1=q1 * y+t1) (h0:t1 * 4294967296+d0=q0 * y+t0) (ht:t0<y) (hb:b=d1 * 4294967296+d0) (hN:N=hi * 18446744073709551616+b):N / y=q1 * 4294967296+q0∧N % y=t0:=by
 have e:N=y * (q1 * 4294967296+q0)+t0:=by
  have x2:∀B:Nat,y * (q1 * B+q0)=q1 * y * B+q0 * y:=fun B=>by
   rw [Nat.mul_add,Nat.mul_comm y q0,←Nat.mul_assoc,Nat.mul_comm y q1]
  have x3:=x2 4294967296
  omega
 rw [e,Nat.mul_add_div (by omega),Nat.div_eq_of_lt ht,Nat.add_zero,Nat.mul_add_mod,Nat.mod_eq_of_lt ht]
 exact ⟨rfl,rfl⟩
theorem bI.goal (a b y:UInt64) (hp:(decide (9223372036854775808≤y.toNat∧a.toNat<y.toNat))=true):bI.F a b y=some [.u64 (UInt64.ofNat ((a.toNat * 18446744073709551616+b.toNat) / y.toNat)),.u64 (UInt64.ofNat ((a.toNat * 18446744073709551616+b.toNat) % y.toNat))]:=by
 obtain ⟨hy,ha⟩:=aq hp
 have Nz:=y.toNat_lt
 have Eg:=b.toNat_lt
 rw [bI.dW,ab (fun h=>by rw [h] at hy;exact absurd hy (by decide)),ae,bI.lg,ab (fun h=>by have:=aJ.1 h;omega),ae]
 refine bI.jx _ _ _ ?_
 intro v1 h1 v2 h2 v3 h3 v4 h4 v5 h5 v6 h6 v7 h7 v8 h8 v9 h9
 have SV:(!decide (y=0))=true:=by rw [ab (fun h=>by rw [h] at hy;exact absurd hy (by decide))];rfl
 by_cases c:a=0
 ·rw [aa c,ah,bx SV,c,show (0:UInt64).toNat=0 from rfl,Nat.zero_mul,Nat.zero_add]
  rw [show b / y=UInt64.ofNat (b.toNat / y.toNat) from gf (by rw [UInt64.toNat_div,fA];exact (Nat.mod_eq_of_lt (Nat.lt_of_le_of_lt (Nat.div_le_self ..) Eg)).symm),
   show b % y=UInt64.ofNat (b.toNat % y.toNat) from gf (by rw [UInt64.toNat_mod,fA];exact (Nat.mod_eq_of_lt (Nat.lt_of_le_of_lt (Nat.mod_le ..) Eg)).symm),bx SV]
 rw [ab c,ae,bx (aa hy)]
 have e1:v1=y:=by rw [h1,Li]
 have e4:v4=a:=by rw [h4,Li]
 have e7:v7=b:=by rw [h7,Li]
 have e5:v5.toNat=64:=by rw [h5];rfl
 have e6:v6=a:=by
  rw [h6,e4,e5]
  have:dQ b 64=0:=by apply gf;rw [ir];show _=0;omega
  rw [this];apply gf;rw [UInt64.toNat_or];exact Nat.or_zero _
 have n2:v2.toNat=y.toNat / 4294967296:=by rw [h2,e1,tW]
 have n3:v3.toNat=y.toNat % 4294967296:=by rw [h3,e1,AD]
 have n8:v8.toNat=b.toNat / 4294967296:=by rw [h8,e7,tW]
 have n9:v9.toNat=b.toNat % 4294967296:=by rw [h9,e7,AD]
 have hv2:(!decide (v2=0))=true:=by
  rw [ab (fun h=>by rw [h] at n2;have:(0:UInt64).toNat=0:=rfl;omega)];rfl
 have hY:v2.toNat * 4294967296+v3.toNat=y.toNat:=by omega
 have TI:v8.toNat<4294967296:=by omega
 have TH:v9.toNat<4294967296:=by omega
 have Sn:v3.toNat<4294967296:=by omega
 have TK:v2.toNat<4294967296:=by omega
 have TL:2147483648≤v2.toNat:=by omega
 have first:∀(u:UInt64) (d:Nat),u.toNat<y.toNat→d<4294967296→(u / v2).toNat≤4294967297∧u.toNat=(u / v2).toNat * v2.toNat+(u - u / v2 * v2).toNat∧(u.toNat * 4294967296+d) / (v2.toNat * 4294967296+v3.toNat)≤(u / v2).toNat∧(u - u / v2 * v2).toNat<4294967296:=fun u d hu hd=>by
  rw [IE,UInt64.toNat_div]
  refine ⟨LJ (B:=4294967296) (by omega) Sn (by rw [hY];exact hu),?_,Gk (by omega) (by omega) hd,?_⟩
  ·rw [Nat.mul_comm];exact (Nat.div_add_mod ..).symm
  ·have:=Nat.mod_lt u.toNat (show 0<v2.toNat by omega);omega
 rw [bx hv2,e1,e6]
 obtain ⟨f1,f2,f3,f4⟩:=first a v8.toNat ha TI
 obtain ⟨Q1,Se⟩:∃q,(a.toNat * 4294967296+v8.toNat) / y.toNat=q:=⟨_,rfl⟩
 rw [bI.Ot (Q:=Q1) (u:=a.toNat) 4294967296 y (UInt64.ofInt 0) v2 v3 a v8 v9 (a / v2) (a - a / v2 * v2) (by omega) TL Sn TI (by rw [hY];exact ha) f4 TK f1 f2 f3 (by rw [hY,Se])]
 refine bI.Gs _ _ _ _ _ _ _ _ ?_
 intro w1 g1 w2 g2
 have U2:Q1<4294967296:=by
  rw [←Se,Nat.div_lt_iff_lt_mul (by omega)]
  have:=av 4294967296 (show a.toNat+1≤y.toNat from ha)
  rw [Nat.mul_comm 4294967296 y.toNat];omega
 obtain ⟨t1,Ty,ht1⟩:=KK (show 0<y.toNat by omega) Se
 have Ku:(w1 - UInt64.ofNat Q1 * y).toNat=t1:=by rw [g1];exact Ga rfl (by rw [fA];omega) Ty (by omega)
 rw [bx hv2,g2]
 obtain ⟨u1,hu⟩:∃u,w1 - UInt64.ofNat Q1 * y=u:=⟨_,rfl⟩
 rw [hu] at Ku ⊢
 obtain ⟨k1,k2,k3,k4⟩:=first u1 v9.toNat (by rw [Ku];exact ht1) TH
 obtain ⟨Q0,Mu⟩:∃q,(t1 * 4294967296+v9.toNat) / y.toNat=q:=⟨_,rfl⟩
 rw [bI.Oq (Q:=Q0) (u:=u1.toNat) 4294967296 y (UInt64.ofInt 0) v2 v3 v9 (UInt64.ofNat Q1) (u1 - u1 / v2 * v2) u1 (u1 / v2) (by omega) TL Sn TH (by rw [hY,Ku];exact ht1) k4 TK k1 k2 k3 (by rw [hY,Ku,Mu])]
 refine bI.Gq _ _ _ _ _ _ ?_
 intro z1 j1 z2 j2 z3 j3
 have U3:Q0<4294967296:=by
  rw [←Mu,Nat.div_lt_iff_lt_mul (by omega)]
  have:=av 4294967296 (show t1+1≤y.toNat from ht1)
  rw [Nat.mul_comm 4294967296 y.toNat];omega
 obtain ⟨t0,KF,ht0⟩:=KK (show 0<y.toNat by omega) Mu
 have hr:z3.toNat=t0:=by
  rw [j3,QZ,j2]
  exact Ga (N:=t1 * 4294967296+v9.toNat) (by rw [Ku]) (by rw [fA];omega) KF (by omega)
 rw [j1,Pv U2 U3,show z3=UInt64.ofNat t0 from gf (by rw [hr,fA];omega)]
 obtain ⟨x1,x2⟩:=Iz (hi:=a.toNat) (b:=b.toNat) Ty KF ht0 (by omega) rfl
 rw [x1,x2]
end Go.Eng
set_option maxRecDepth 20000
namespace Go.Eng
open Go.IntWalk
theorem fW.goal:fW.F=some [.ag (dH.cells Cn.ux)]:=by
 refine fW.bY ?_
 intro v1 h1
 have:dH.of ((100000000000000000:UInt64).toNat * (100000000000000000:UInt64).toNat)=Cn.ux:=by kernel_rfl
 rw [h1,this]
theorem F2:dH.val Cn.ux=10000000000000000000000000000000000:=by
 rw [dH.kG];rfl
theorem M1 {a b:Nat}:(0:Int)≤cond (decide (a=b)) 0 (cond (decide (a<b)) (-1) 1) ↔ b≤a:=by
 by_cases h:a=b
 ·rw [aa h];simp;omega
 ·rw [ab h,ae]
  by_cases h2:a<b
  ·rw [aa h2,ah];omega
  ·rw [ab h2,ae];omega
theorem m14 (x:UInt64):((x &&& (16383:UInt64)).toNat:Int)<16384:=by
 rw [UInt64.toNat_and,show (16383:UInt64).toNat=2 ^ 14 - 1 from rfl,Nat.and_two_pow_sub_one_eq_mod];omega
theorem Hb (x:UInt64):IntKind.i64.wrap (IntKind.i64.wrap ((x &&& (16383:UInt64)).toNat:Int) - 6176)=((x &&& (16383:UInt64)).toNat:Int) - 6176:=by
 have:=m14 x
 rw [show IntKind.i64.wrap ((x &&& (16383:UInt64)).toNat:Int)=((x &&& (16383:UInt64)).toNat:Int) from i64_in _ (by omega),i64_in _ (by omega)]
theorem An (a:Nat):decide ((0:Int)≤cond (decide (a=dH.val Cn.ux)) 0 (cond (decide (a<dH.val Cn.ux)) (-1) 1))=decide (10000000000000000000000000000000000≤a):=aY.2 (M1.trans (by rw [F2]))
theorem va (a b:Bool):cond a b false=(a&&b):=by cases a <;> rfl
theorem dv.goal (h l:UInt64):dv.F h l=some [.i .i64 (Cn.split h l).1,.b (Cn.split h l).2.1,.ag (dH.cells (Cn.split h l).2.2.1),.i .i64 (Cn.split h l).2.2.2]:=by
 refine dv.bY _ _ ?_
 intro v1 h1 v2 h2 v3 h3 v4 h4 v5 h5 v6 h6 v7 h7 v8 h8 v9 h9 v10 iS
 rw [Cn.tS]
 unfold Cn.q7
 simp only
 have e1:v1=dQ h 63:=h1
 have e2:v2=dQ h 58:=h2
 have e6:v6=dQ h 47:=h6
 have e8:v8=((dQ h 47 &&& 16383).toNat:Int) - 6176:=by rw [h8,h7,e6];exact Hb _
 have e5:v5=dQ (dQ h 58 &&& 31) 3:=by rw [h5,e2];rfl
 rw [h3,h4,e1,e2,e5,e8]
 by_cases c1:dQ h 58 &&& 31=31
 ·rw [aa c1,ah,au c1];rfl
 rw [ab c1,ae,ao c1]
 by_cases c2:dQ h 58 &&& 31=30
 ·rw [aa c2,ah,au c2];rfl
 rw [ab c2,ae,ao c2]
 by_cases c3:dQ (dQ h 58 &&& 31) 3=3
 ·rw [aa c3,ah,au c3];rfl
 rw [ab c3,ae,ao c3,iS,An,h9]
 by_cases c4:dH.val ⟨h &&& 562949953421311,l⟩<10000000000000000000000000000000000
 ·rw [ab (by omega),ae,au c4]
  refine dv.iR _ _ _ _ ?_
  intro w1 g1 w2 g2 w3 g3
  rw [g3,g2,Hb,g1];rfl
 ·rw [aa (by omega),ah,ao c4]
  refine dv.iR _ _ _ _ ?_
  intro w1 g1 w2 g2 w3 g3
  rw [g3,g2,Hb,g1];rfl
theorem eH.goal (n:Bool) (c:dH) (x:Int) (hp:(Nr.i64 x)=true):eH.F n c x=some [.u64 (Cn.join n c x).1,.u64 (Cn.join n c x).2.1,.b (Cn.join n c x).2.2]:=by
 refine eH.bY _ _ _ ?_
 intro v1 h1 v2 h2 v3 h3 v4 h4 v5 h5 v6 h6
 have c1:∀b:Bool,(!(!b) || (!b))=true:=by decide
 rw [bx (c1 _),bx (M3 _),bx (c1 _),bx (M3 _)]
 rw [Cn.join_eq]
 unfold Cn.CI
 have e3:v3=decide (10000000000000000000000000000000000≤c.val∨x < -6176∨6111<x):=by
  rw [h3,h2,h1,An,Bool.decide_or,Bool.decide_or]
  cases decide (10000000000000000000000000000000000≤c.val) <;> cases decide (x < -6176) <;> rfl
 rw [e3]
 by_cases k:10000000000000000000000000000000000≤c.val∨x < -6176∨6111<x
 ·rw [aa k,ah,au k]
 ·rw [ab k,ae,ao k]
  have e4:v4=x+6176:=by rw [h4,i64_in _ (by omega)]
  have e5:v5=jr (UInt64.ofInt (x+6176)) 49:=by rw [h5,e4];rfl
  rw [eH.lg,eH.lg,h6,e5]
  cases n <;> rfl
theorem nc (x:Int):Nr.i64 (IntKind.i64.wrap x)=true:=by
 have h:=IntKind.wrap_i64 x
 unfold Nr.i64
 exact aa (by omega)
theorem qZ (h l:UInt64) : -6176≤(Cn.split h l).2.2.2∧(Cn.split h l).2.2.2<16384:=by
 rw [Cn.tS]
 unfold Cn.q7
 simp only
 have:=m14 (dQ h 47)
 have:=m14 (dQ h 49)
 split
 ·exact ⟨show (-6176:Int)≤0 by decide,show (0:Int)<16384 by decide⟩
 split
 ·exact ⟨show (-6176:Int)≤0 by decide,show (0:Int)<16384 by decide⟩
 split <;> dsimp only <;> omega
theorem fN.goal (h l:UInt64):fN.F h l=some [.b (Cn.ri h l)]:=by
 refine fN.bY _ _ ?_
 intro v1 h1 v2 h2 v3 h3 v4 h4 v5 h5 v6 h6 v7 h7 v8 h8
 have c6:∀x:Bool,(!x || (x&&x))=true:=by decide
 have hx:=qZ h l
 have Vk:Nr.i64 (Cn.split h l).2.2.2=true:=aa (by omega)
 rw [bx (jR _),bx (jR _),bx (jR _),bx (jR _),bx Vk,bx (c6 _),bx (jR _),bx (c6 _),bx (jR _)]
 unfold Cn.ri
 simp only
 by_cases c1:(Cn.split h l).1=3
 ·rw [aa c1,ah,au c1,h1,va]
 rw [ab c1,ae,ao c1]
 by_cases c2:(Cn.split h l).1=2
 ·rw [aa c2,ah,au c2,h3,h2,va]
 rw [ab c2,ae,ao c2,h8,h7,h6,h5,h4,va,va]
end Go.Eng
set_option maxRecDepth 20000
namespace Go.Eng
open Go.IntWalk
theorem JJ {n k p:Nat} (hp:p=10 ^ k) (hk:1≤k) (h:p≤n):Nr.dec n=Nr.dec (n / p)++(Sh.eK ((k:Int) - ((Nr.dec (n % p)).length:Int))++Nr.dec (n % p)):=by
 have Jr:0<p:=by rw [hp];exact Nat.pow_pos (by omega)
 obtain ⟨q1,q2,q3,q4⟩:=Nr.j8 (n / p)
 obtain ⟨r1,r2,r3,r4⟩:=Nr.j8 (n % p)
 have rl:=Nr.iV k (n % p) (by rw [←hp];exact Nat.mod_lt _ Jr) hk
 have hz:=Sh.qP ((k:Int) - ((Nr.dec (n % p)).length:Int))
 have D9:(Sh.eK ((k:Int) - ((Nr.dec (n % p)).length:Int))++Nr.dec (n % p)).length=k:=by
  unfold Sh.eK;rw [aj,List.length_replicate];omega
 have Rk:Nr.num (Sh.eK ((k:Int) - ((Nr.dec (n % p)).length:Int)))=0:=Nr.kn _
 have Mb:Nr.num (Nr.dec (n / p)++(Sh.eK ((k:Int) - ((Nr.dec (n % p)).length:Int))++Nr.dec (n % p)))=n:=by
  rw [Nr.ia,D9,Nr.ia,Rk,q2,r2,Nat.zero_mul,Nat.zero_add,←hp]
  exact Nat.div_add_mod' n p
 have hu:=Nr.pW _ (Nr.dec (n / p)++(Sh.eK ((k:Int) - ((Nr.dec (n % p)).length:Int))++Nr.dec (n % p))) rfl (by rw [List.all_append,List.all_append,q1,hz,r1];rfl) (by simp [q3]) (by
  rw [ai,List.getElem?_append_left (List.length_pos_iff.2 q3),←ai];exact q4 (Nat.div_pos h Jr))
 rw [Mb] at hu
 exact hu.symm
theorem K1 {N:Nat} (hl:(Nr.dec N).length≤1000):cZ.j2 (Nr.dec N)=some [.s (Nr.dec N)]:=by
 obtain ⟨q1,q2,q3,q4⟩:=Nr.j8 N
 have OM:=Nr.mg N
 refine cZ.jx _ ?_
 intro v1 h1 v2 h2 v3 h3
 have e1:v1=((Nr.dec N).length - 1:Nat):=by rw [h1,i64_in _ (by omega)];omega
 have e2:v2=(Nr.dec N).take ((Nr.dec N).length - 1):=by
  rw [h2,e1,ak]
  unfold Lib.trimLeftS
  by_cases c:N<10
  ·rw [Nr.nn c];rfl
  ·have Sm:=q4 (by omega)
   have hlen:2≤(Nr.dec N).length:=by
    rw [Nr.qH c,aj]
    have:=Nr.mg (N / 10)
    simp;omega
   generalize Nr.dec N=s at *
   match s,hlen,Sm with
   | x :: y :: r,_,Sm =>
    have hx:x≠48:=Sm
    simp [hx]
 have e3:v3=Nr.dec N:=by rw [h3,e2,e1,ak,List.take_append_drop]
 rw [bx (j9 (by omega) (by omega) (by omega)),bx ?_,bx (j9 (by omega) (by omega) (by omega)),bx (aa ?_),e3]
 ·rw [e2,e1,ak];simp only [aF,aV];omega
 ·rw [af]
  refine ⟨aa ⟨?_,by decide⟩,by decide⟩
  simp only [aF];omega
theorem t19:(10:Nat) ^ 19=10000000000000000000:=by decide
theorem t20:(10:Nat) ^ 20=100000000000000000000:=by decide
theorem t38:(10000000000000000000:Nat) ^ 2=100000000000000000000000000000000000000:=by decide
theorem t40:(10:Nat) ^ 40=10000000000000000000000000000000000000000:=by decide
theorem U4:(10000000000000000000:UInt64).toNat=10000000000000000000:=rfl
theorem cZ.cO:∀(k:Nat) (a:dH) (t:bz),a.val<18446744073709551616 * 10000000000000000000 ^ k→(t=[]∨1≤a.val)→t.length+20 * k≤900→cZ.l1 t a.high a.low=cZ.j2 (Nr.dec a.val++t):=by
 have last:∀(a:dH) (t:bz),a.high=0→(t=[]∨1≤a.val)→t.length≤900→cZ.l1 t a.high a.low=cZ.j2 (Nr.dec a.val++t):=fun a t h0 ht hl=>by
  refine cZ.bX _ _ _ ?_
  intro v1 h1 v2 h2 v3 h3 v4 h4 v5 h5 v6 h6
  have hv:a.val=a.low.toNat:=by rw [dH.kG,h0];show 0 * _+_=_;omega
  have hd:=Nr.iV 20 a.low.toNat (by rw [t20];have:=a.low.toNat_lt;omega) (by omega)
  rw [aa h0,aG,ae,bx (by cases decide (t=([]:bz)) <;> rfl),bx (by cases decide (t=([]:bz)) <;> rfl),bx (M3 _)]
  have e6:v6=true:=by
   rw [h6]
   rcases ht with rfl | ht
   ·rfl
   ·rw [ab (p:=a.low=0) (fun e=>by rw [hv,e] at ht;exact absurd ht (by decide))]
    cases decide (t=([]:bz)) <;> rfl
  rw [e6,ah,bx (by rfl),bx (aa (by omega)),hv]
 intro k
 induction k with
 | zero =>
  intro a t h ht hl
  refine last a t (gf ?_) ht (by omega)
  rw [dH.kG] at h
  show _=0
  omega
 | succ k ih =>
  intro a t h ht hl
  by_cases h0:a.high=0
  ·exact last a t h0 ht (by omega)
  have Mh:18446744073709551616≤a.val:=by
   rw [dH.kG]
   have:0<a.high.toNat:=by
    rcases Nat.eq_zero_or_pos a.high.toNat with e | e
    ·exact (h0 (gf e)).elim
    ·exact e
   omega
  refine cZ.bX _ _ _ ?_
  intro v1 h1 v2 h2 v3 h3 v4 h4 v5 h5 v6 h6
  rw [U4] at h1 h2
  have hm:=Nat.mod_lt a.val (show 0<10000000000000000000 by omega)
  have e1:v1=dH.of (a.val / 10000000000000000000):=h1
  have e2:v2.toNat=a.val % 10000000000000000000:=by rw [h2];show (UInt64.ofNat (a.val % 10000000000000000000)).toNat=_;rw [fA];omega
  have Oy:a.val<340282366920938463463374607431768211456:=by rw [dH.kG];have:=a.high.toNat_lt;have:=a.low.toNat_lt;omega
  have ev:v1.val=a.val / 10000000000000000000:=by rw [e1,NW (by omega)]
  have hd:=Nr.iV 19 (a.val % 10000000000000000000) (by rw [t19];exact hm) (by omega)
  have hd1:=Nr.mg (a.val % 10000000000000000000)
  rw [e2] at h3 h5
  have e4:v4=(19:Nat) - ((Nr.dec (a.val % 10000000000000000000)).length:Int):=by rw [h4,h3,i64_in _ (by omega)];rfl
  have hz:(Sh.eK v4).length=v4.toNat:=by unfold Sh.eK;rw [List.length_replicate]
  have YR:v5.length≤20:=by rw [h5,aj,hz];omega
  rw [ab h0,aI,ah,bx (by rfl),bx (by rfl),bx (aa ⟨rfl,by omega,by omega⟩),e2,bx (aa (by rw [hz];omega)),bx (aa (by omega))]
  rw [ih v1 (v5++t) (by rw [ev,Nat.div_lt_iff_lt_mul (by omega),Nat.mul_assoc,←Nat.pow_succ];exact h) (.inr (by rw [ev];omega)) (by rw [aj];omega),ev,
   JJ (n:=a.val) (k:=19) (p:=10000000000000000000) (by decide) (by omega) (by omega),h5,e4,aE,aE,aE]
theorem cZ.goal (a:dH):cZ.F a=some [.s (Nr.dec a.val)]:=by
 have Oy:a.val<340282366920938463463374607431768211456:=by rw [dH.kG];have:=a.high.toNat_lt;have:=a.low.toNat_lt;omega
 rw [cZ.dW,cZ.cO 2 a [] (by rw [t38];omega) (.inl rfl) (by simp),bj]
 exact K1 (Nat.le_trans (Nr.iV 40 a.val (by rw [t40];omega) (by omega)) (by omega))
end Go.Eng
set_option maxRecDepth 20000
namespace Go.Eng
open Go.IntWalk
theorem qN (n:Int):Sh.eK n=List.replicate n.toNat 48:=rfl
theorem dt.goal (d:bz) (x:Int) (hp:(decide (1≤d.length∧d.length≤40∧-10000≤x∧x≤100000))=true):dt.F d x=some [.s (Cn.laid d x)]:=by
 obtain ⟨l1,l2,x1,x2⟩:=aq hp
 refine dt.bY _ _ ?_
 intro v1 h1 v2 h2 v3 h3 v4 h4 v5 h5 v6 h6 v7 h7 v8 h8
 unfold Cn.laid
 simp only
 by_cases c0:x=0
 ·rw [aa c0,ah,au c0]
 rw [ab c0,ae,ao c0,bx (jR _),bx (jR _)]
 have e1:v1=x+d.length:=by rw [h1,i64_in _ (by omega)]
 have e2:v2=x+d.length - 1:=by rw [h2,e1,i64_in _ (by omega)]
 have e3:v3=decide (x<0∧-6≤x+d.length - 1):=by rw [h3,e2,Bool.decide_and,va]
 have e5:v5=1 - x - d.length:=by rw [h5,h4,i64_in (1 - x) (by omega),i64_in _ (by omega)]
 have en:IntKind.i64.wrap (0 - x)=-x:=by rw [i64_in _ (by omega)];omega
 rw [e3,en]
 by_cases c1:x<0∧-6≤x+d.length - 1
 ·rw [aa c1,ah,au c1]
  have key:∀s:bz,s.length≤200→-x≤s.length→dt.j1 s x (s.length:Int)=some [.s (s.take (s.length+x).toNat++46 :: s.drop (s.length+x).toNat)]:=fun s hs hx=>by
   refine dt.iR _ _ _ ?_
   intro w1 g1 w2 g2
   have e:IntKind.i64.wrap ((s.length:Int)+x)=s.length+x:=i64_in _ (by omega)
   rw [e] at g1 g2 ⊢
   rw [bx (j9 (by omega) (by omega) (by omega)),bx (aa ?_),bx (j9 (by omega) (by omega) (by omega)),bx (aa ?_),g1,g2]
   ·simp
   ·rw [g1,g2];simp;omega
   ·rw [g1];simp;omega
  by_cases c2:(d.length:Int)≤-x
  ·rw [aa c2,ah,au c2,bx (aa ⟨by trivial,by omega,by omega⟩),bx (aa (by rw [qN,List.length_replicate];omega)),h6,e5]
   exact key _ (by rw [aj,qN,List.length_replicate];omega) (by rw [aj,qN,List.length_replicate];omega)
  ·rw [ab c2,ae,ao c2]
   exact key _ (by omega) (by omega)
 ·rw [ab c1,ae,ao c1,bx (j9 (by omega) (by omega) (by omega))]
  have e7:v7=d.take 1:=h7
  have e8:v8=d.drop 1:=h8
  have key:∀s:bz,s.length≤200→dt.j2 v2 s=some [.s (if x+d.length - 1<0 then s++[69,45]++Nr.itoa (-(x+d.length - 1)) else s++[69,43]++Nr.itoa (x+d.length - 1))]:=fun s hs=>by
   refine dt.jx _ _ ?_
   intro w1 g1 w2 g2 w3 g3
   have hi:∀v:Int,-1000000≤v→v≤1000000→Nr.i64 v=true∧(Nr.itoa v).length≤30:=fun v a b=>by
    refine ⟨aa (by omega),?_⟩
    rw [Nr.lC]
    have:=Nr.iV 20 v.natAbs (by rw [t20];omega) (by omega)
    split
    ·simp only [az];omega
    ·omega
   have ew:IntKind.i64.wrap (0 - v2)=-(x+d.length - 1):=by rw [e2,i64_in _ (by omega)];omega
   rw [ew] at g1 ⊢
   rw [g2,g3,g1,e2]
   by_cases c:x+(d.length:Int) - 1<0
   ·rw [aa c,ah,au c,bx (aa (by simp;omega)),bx (hi _ (by omega) (by omega)).1,bx (aa ?_)]
    have:=(hi (-(x+d.length - 1)) (by omega) (by omega)).2
    simp;omega
   ·rw [ab c,ae,ao c,bx (aa (by simp;omega)),bx (hi _ (by omega) (by omega)).1,bx (aa ?_)]
    have:=(hi (x+d.length - 1) (by omega) (by omega)).2
    simp;omega
  by_cases c2:(1:Int)<d.length
  ·rw [aa c2,ah,au c2,bx (j9 (by omega) (by omega) (by omega)),bx (aa (by rw [e8];simp;omega)),bx (aa (by rw [e8,e7];simp;omega)),e7,e8]
   exact key _ (by simp;omega)
  ·rw [ab c2,ae,ao c2,e7]
   exact key _ (by simp;omega)
theorem tT (h l:UInt64):(Cn.split h l).2.2.1.val<10000000000000000000000000000000000:=by
 have z:dH.val ⟨0,0⟩=0:=by rw [dH.kG];rfl
 rw [Cn.tS]
 unfold Cn.q7
 simp only
 split
 ·rw [z];omega
 split
 ·rw [z];omega
 split
 ·rw [z];omega
 ·dsimp only
  split
  ·assumption
  ·rw [z];omega
theorem t34:(10:Nat) ^ 34=10000000000000000000000000000000000:=by decide
theorem wG {d:bz} {x:Int} (h1:d.length≤40) (h2 : -10000≤x) (h3:x≤100000):(Cn.laid d x).length≤20000:=by
 unfold Cn.laid
 simp only
 have hi:∀v:Int,-1000000≤v→v≤1000000→(Nr.itoa v).length≤30:=fun v a b=>by
  rw [Nr.lC]
  have:=Nr.iV 20 v.natAbs (by rw [t20];omega) (by omega)
  split
  ·simp only [az];omega
  ·omega
 have i1:=hi (-(x+d.length - 1)) (by omega) (by omega)
 have i2:=hi (x+d.length - 1) (by omega) (by omega)
 have tl:(if (1:Int)<(d.length:Int) then d.take 1++46 :: d.drop 1 else d.take 1).length≤60:=by
  split <;> simp <;> omega
 split
 ·omega
 split
 ·split <;> simp <;> omega
 ·split <;> rw [aj,aj] <;> simp only [az,aB] <;> omega
theorem eG.goal (h l:UInt64):eG.F h l=some [.s (Cn.uS h l)]:=by
 refine eG.bY _ _ ?_
 intro v1 h1 v2 h2
 have hx:=qZ h l
 have hc:=tT h l
 have hd:=Nr.iV 34 _ (by rw [t34];exact hc) (by omega)
 have hd1:=Nr.mg (Cn.split h l).2.2.1.val
 unfold Cn.uS
 simp only
 by_cases c1:(Cn.split h l).1=3
 ·rw [aa c1,ah,au c1]
 rw [ab c1,ae,ao c1]
 have key:∀t:bz,t.length≤20000→eG.j1 (Cn.split h l).2.1 t=some [.s (cond (Cn.split h l).2.1 (45 :: t) t)]:=fun t ht=>by
  rw [eG.lg]
  cases (Cn.split h l).2.1 with
  | true=>rw [ah,bx (aa (by simp;omega))];rfl
  | false=>rfl
 by_cases c2:(Cn.split h l).1=2
 ·rw [aa c2,ah,au c2];exact key _ (by decide)
 rw [ab c2,ae,ao c2,bx (aa (by rw [h1];omega)),h2,h1]
 exact key _ (wG (by omega) (by omega) (by omega))
end Go.Eng
set_option maxRecDepth 20000
namespace Go.Eng
open Go.IntWalk
theorem Lk:Cn.Fq.length=64:=rfl
theorem vH (n:UInt8) (h:n.toNat<64):bD (n.toNat:Int) Cn.Fq.length=true:=bN (by omega) (by rw [Lk];omega)
theorem Lj (x:UInt8) (k:Nat):(lO x k).toNat=x.toNat / 2 ^ k:=by
 unfold lO
 rw [UInt8.toNat_ofNat']
 exact Nat.mod_eq_of_lt (Nat.lt_of_le_of_lt (Nat.div_le_self ..) x.toNat_lt)
theorem M9 (x:UInt8):(lO x 2).toNat<64:=by rw [Lj];have:=x.toNat_lt;omega
theorem JU (x:UInt8):(x &&& (63:UInt8)).toNat<64:=by
 rw [UInt8.toNat_and,show (63:UInt8).toNat=2 ^ 6 - 1 from rfl,Nat.and_two_pow_sub_one_eq_mod];omega
theorem KQ (x:UInt8):(mj (x &&& 3) 4).toNat<64∧16 ∣ (mj (x &&& 3) 4).toNat:=by
 have h:(x &&& (3:UInt8)).toNat=x.toNat % 4:=by rw [UInt8.toNat_and,show (3:UInt8).toNat=2 ^ 2 - 1 from rfl,Nat.and_two_pow_sub_one_eq_mod]
 unfold mj
 rw [h,UInt8.toNat_ofNat']
 omega
theorem KR (x:UInt8):(mj (x &&& 15) 2).toNat<64∧4 ∣ (mj (x &&& 15) 2).toNat:=by
 have h:(x &&& (15:UInt8)).toNat=x.toNat % 16:=by rw [UInt8.toNat_and,show (15:UInt8).toNat=2 ^ 4 - 1 from rfl,Nat.and_two_pow_sub_one_eq_mod]
 unfold mj
 rw [h,UInt8.toNat_ofNat']
 omega
theorem Px {a b:UInt8} (h:a.toNat<64) (k:b.toNat<64):(a ||| b).toNat<64:=by
 rw [UInt8.toNat_or];exact Nat.or_lt_two_pow (n:=6) h k
theorem KP (x:UInt8) (k:Nat) (h:2≤k):(lO x k).toNat<64:=by
 rw [Lj]
 have h1:x.toNat / 2 ^ k≤x.toNat / 2 ^ 2:=Nat.div_le_div_left (Nat.pow_le_pow_right (by omega) h) (by decide)
 have:=x.toNat_lt
 omega
theorem Au:∀l:bz,(Cn.base l).length≤2 * l.length+4
 | []=>by simp [Cn.base]
 | [_]=>by simp [Cn.base]
 | [_,_]=>by simp [Cn.base]
 | _ :: _ :: _ :: r=>by have:=Au r;simp [Cn.base];omega
theorem db.cO:∀(n:Nat) (l t:bz),l.length≤n→l.length≤1099511627776→t.length+2 * l.length≤5000000000000→db.l1 l t=some [.s (t++Cn.base l)]:=by
 intro n
 induction n with
 | zero =>
  intro l t h _ _
  have:l=[]:=bf (by omega)
  subst this
  refine db.bX _ _ ?_
  intros
  rw [ab (by simp),ae,ab (by simp),ae,ab (by simp),ae,db.lf]
  simp [Cn.base]
 | succ n ih =>
  intro l t h hl ht
  refine db.bX _ _ ?_
  intro v1 h1 v2 h2 v3 h3 v4 h4 v5 h5 v6 h6 v7 h7 v8 h8 v9 h9 v10 iS v11 kA v12 jM kq nr jh oa jb nV lA sw tG zS tF wv
  have e2:v2=lO v1 2:=h2
  have e4:v4=mj (v1 &&& 3) 4:=h4
  have e6:v6=lO v5 4:=h6
  have e8:v8=mj (v5 &&& 15) 2:=h8
  have Ew:v10=lO v9 6:=iS
  have i1:=vH v2 (by rw [e2];exact M9 _)
  have i2:=vH (v4 ||| v6) (Px (by rw [e4];exact (KQ _).1) (by rw [e6];exact KP _ _ (by omega)))
  have i3:=vH (v8 ||| v10) (Px (by rw [e8];exact (KR _).1) (by rw [Ew];exact KP _ _ (by omega)))
  have i4:=vH (v9 &&& 63) (JU _)
  have i5:=vH v4 (by rw [e4];exact (KQ _).1)
  have i6:=vH v8 (by rw [e8];exact (KR _).1)
  have s3:v3=Cn.sign v2:=h3
  have s7:v7=Cn.sign (v4 ||| v6):=h7
  have U0:v11=Cn.sign (v8 ||| v10):=kA
  have UZ:v12=Cn.sign (v9 &&& 63):=jM
  have UY:jb=Cn.sign v4:=nV
  have UX:tG=Cn.sign v8:=zS
  change bD _ (([65,66,67,68,69,70,71,72,73,74,75,76,77,78,79,80,81,82,83,84,85,86,87,88,89,90,97,98,99,100,101,102,103,104,105,106,107,108,109,110,111,112,113,114,115,116,117,118,119,120,121,122,48,49,50,51,52,53,54,55,56,57,43,47]:bz)).length=true at i1 i2 i3 i4 i5 i6
  rw [i1,i2,i3,i4,i5,i6]
  match l,h,hl,ht with
  | [],_,_,_ =>
   rw [ab (by simp),ae,ab (by simp),ae,ab (by simp),ae,db.lf]
   simp [Cn.base]
  | [a],_,_,ht =>
   have ea:v1=a:=h1
   simp only [az,aB] at ht
   rw [ab (by simp),ae,aa (by simp),ah,bx (by rfl),bU,bx (by rfl),bU,bx (dP (by rw [sw];simp;omega) (by rw [sw];simp;omega)),db.lf]
   rw [sw,s3,UY,e4,e2,ea];rfl
  | [a,b],_,_,ht =>
   have ea:v1=a:=h1
   have eb:v5=b:=h5
   simp only [az,aB] at ht
   rw [ab (by simp),ae,ab (by simp),ae,aa (by simp),ah,bx (by rfl),bU,bx (by rfl),bx (by rfl),bU,bx (by rfl),bU,bx (dP (by rw [wv];simp;omega) (by rw [wv];simp;omega)),db.lf]
   rw [wv,s3,s7,UX,e8,e6,e4,e2,ea,eb];rfl
  | a :: b :: c :: r,h,hl,ht =>
   have ea:v1=a:=h1
   have eb:v5=b:=h5
   have ec:v9=c:=h9
   have er:jh=r:=oa
   simp only [az] at h hl ht
   have x:∀k:Int,0≤k→k<3→bD k (a :: b :: c :: r).length=true:=fun k h1 h2=>bN h1 (by simp;omega)
   rw [aa (by simp;omega),ah,bx (x _ (by omega) (by omega)),bU,bx (x _ (by omega) (by omega)),bx (x _ (by omega) (by omega)),bU,bx (x _ (by omega) (by omega)),bx (x _ (by omega) (by omega)),bU,bx (x _ (by omega) (by omega)),bU,
    bx (dP (by rw [nr];simp;omega) (by rw [nr];simp;omega)),bx (j9 (by omega) (by simp;omega) (by simp)),er,
    ih r _ (by omega) (by omega) (by rw [nr];simp;omega)]
   rw [nr,s3,s7,U0,UZ,Ew,e8,e6,e4,e2,ea,eb,ec,aE];rfl
theorem db.goal (b:bz) (hp:(decide (b.length≤1099511627776))=true):db.F b=some [.s (Cn.base b)]:=by
 have hp:=aq hp
 rw [db.dW,db.cO b.length b [] (Nat.le_refl _) hp (by simp;omega)];rfl
end Go.Eng
set_option maxRecDepth 20000
namespace Go.Eng
open Go.IntWalk
theorem gB.goal (s:bz):gB.F s=some [.ag (bP.cells (Cn.str s))]:=gB.dW s
theorem ik.goal (v:Int) (hp:(Nr.i64 v)=true):ik.F v=some [.ag (bP.cells (Cn.num v))]:=by rw [ik.dW,bx hp];rfl
theorem gC.goal (s:bz) (j:bP):gC.F s j=some [.ag (bP.cells (Cn.one s j))]:=by
 refine gC.bY _ _ ?_
 intro v1 h1
 rw [h1];rfl
theorem gA.goal (s:bz) (j:bP) (t:bz) (k:bP):gA.F s j t k=some [.ag (bP.cells (Cn.two s j t k))]:=by
 refine gA.bY _ _ _ _ ?_
 intro v1 h1
 rw [h1];rfl
theorem dR.cO (v:UInt64):∀(m:Nat) (b:bz),b.length+m≤100→dR.l1 v (8 * (m:Int) - 8) b=some [.s (mN.text (b++((List.range m).reverse.map fun k=>UInt8.ofInt ((dQ v (8 * k)).toNat:Int))))]
 | 0,b,hb=>by
  refine dR.bX _ _ _ ?_
  intro v1 h1 v2 h2
  rw [ab (by omega),ae,bx (aa (by omega))]
  simp
 | m+1,b,hb=>by
  refine dR.bX _ _ _ ?_
  intro v1 h1 v2 h2
  have e2:v2=8 * (m:Int) - 8:=by rw [h2,i64_in _ (by omega)];omega
  have ek:(8 * ((m+1:Nat):Int) - 8).toNat=8 * m:=by omega
  rw [ek] at h1
  rw [aa (by omega),ah,bU,bx (dP (by simp;omega) (by simp;omega)),e2,dR.cO v m (b++[v1]) (by simp;omega),h1]
  rw [List.range_succ,List.reverse_append]
  simp
theorem dR.goal (v:UInt64):dR.F v=some [.s (Cn.high v)]:=by
 rw [dR.dW,show (56:Int)=8 * ((8:Nat):Int) - 8 by omega,dR.cO v 8 [] (by simp)]
 rfl
theorem kz:∀l:bz,(mN.text l).length=2 * l.length
 | []=>rfl
 | x :: r=>by
  have:=kz r
  simp only [mN.text,mN.two,aj,az,aB,this];omega
theorem oM (v:UInt64):(Cn.high v).length≤100:=by
 unfold Cn.high Cn.b8
 rw [kz];simp
theorem eT.goal (v:Val):eT.F v=some [.ag (bP.cells (Cn.oD v).1),.b (Cn.oD v).2]:=by
 refine eT.bY _ ?_
 intro v1 h1 v2 h2 v3 h3 v4 h4 v5 h5 v6 h6 v7 h7 v8 h8 v9 h9 v10 iS v11 kA v12 jM kq nr jh oa jb nV lA sw tG zS tF wv wX ET v20 CR v21 Pf v22 Pe
 unfold Cn.oD
 have i6:Nr.i64 v6=true:=by rw [h6];exact nc _
 by_cases k1:v.kind=1
 ·rw [aa k1,ah,au k1,bx (jR _),bx (jR _),bx (jR _),h1,va]
  cases (decide (Sh.text v.bits=([78,97,78]:bz))&&!decide (v.bits=9221120237041090560)) with
  | true=>rw [ah,au rfl,h3,h2]
  | false=>rw [ae,ao (by simp),h5,h4]
 rw [ab k1,ae,ao k1]
 by_cases k2:v.kind=9
 ·rw [aa k2,ah,au k2,bx i6,h8,h7,h6];rfl
 rw [ab k2,ae,ao k2]
 by_cases k3:v.kind=16
 ·rw [aa k3,ah,au k3,bx (nc _),kA,iS,h9];rfl
 rw [ab k3,ae,ao k3]
 by_cases k4:v.kind=18
 ·rw [aa k4,ah,au k4,bx i6,h7,h6];rfl
 rw [ab k4,ae,ao k4]
 by_cases k5:v.kind=17
 ·rw [aa k5,ah,au k5,bx (by rw [nr];exact nc _),bx (by rw [nV];exact nc _),zS,sw,nV,oa,nr,jM];rfl
 rw [ab k5,ae,ao k5]
 by_cases k6:v.kind=19
 ·rw [aa k6,ah,au k6,wv]
  cases Cn.ri v.high v.low with
  | true=>rw [ah,au rfl,CR,ET]
  | false =>
   have:=oM v.high
   have:=oM v.low
   rw [ae,ao (by simp),bx (aa (by omega)),Pe,Pf]
 ·rw [ab k6,ae,ao k6];rfl
theorem gO.goal (v:Val) (hp:(decide (bA.bJ (bA.of [] v)≤1099511627776))=true):gO.F v=some [.ag (bP.cells (Cn.pz v))]:=by
 have hp:=aq hp
 have hb:v.bytes.length≤1099511627776:=by
  simp only [bA.of,bA.bJ] at hp;omega
 refine gO.bY _ ?_
 intro v1 h1 v2 h2 v3 h3 v4 h4 v5 h5 v6 h6 v7 h7 v8 h8 v9 h9 v10 iS v11 kA v12 jM
 unfold Cn.pz
 by_cases k1:v.kind=5
 ·rw [aa k1,ah,au k1,bx (aa hb),bx (aa (by rw [h2];simp)),h4,h3,h2,h1]
 rw [ab k1,ae,ao k1]
 by_cases k2:v.kind=7
 ·rw [aa k2,ah,au k2,bx (aa hb),h6,h5]
 rw [ab k2,ae,ao k2]
 by_cases k3:v.kind=11
 ·rw [aa k3,ah,au k3,h8,h7]
 rw [ab k3,ae,ao k3]
 by_cases k4:v.kind=12
 ·rw [aa k4,ah,au k4,bx (aa hb),iS,h9,h6,h5]
 rw [ab k4,ae,ao k4]
 by_cases k5:v.kind=13
 ·rw [aa k5,ah,au k5,kA]
 rw [ab k5,ae,ao k5]
 by_cases k6:v.kind=14
 ·rw [aa k6,ah,au k6,jM]
 rw [ab k6,ae,ao k6]
end Go.Eng
set_option maxRecDepth 20000
namespace Go.Eng
open Go.IntWalk
theorem JB:∀f:bA,1≤bA.bJ f
 | .mk _ _ _ _ _ _ _ _ _ _=>by simp only [bA.bJ];omega
theorem ma:∀l:List bA,l.length≤bA.cm l
 | []=>by simp [bA.cm]
 | f :: r=>by have:=ma r;have:=JB f;simp only [bA.cm,az];omega
theorem s4 (f:bA):bA.bJ (bA.of [] f.val)≤bA.bJ f:=by
 cases f;simp only [bA.of,bA.val,bA.kind,bA.bits,bA.high,bA.low,bA.text,bA.more,bA.sub,bA.bytes,bA.kids,bA.bJ,aB];omega
theorem xJ {l:List bA} {i:Nat} (h:i<l.length) (d:bA):bA.bJ (l.getD i d)≤bA.cm l:=by
 induction l generalizing i with
 | nil=>simp at h
 | cons f r ih =>
  cases i with
  | zero=>simp [bA.cm]
  | succ i=>have:=ih (i:=i) (by simpa using h);simp only [List.getD_cons_succ,bA.cm];omega
theorem G5 (f:bA):Cn.xK f=Cn.yy f.val:=by
 cases f;simp only [Cn.yy,bA.of,bA.val,bA.kind,bA.bits,bA.high,bA.low,bA.text,bA.more,bA.sub,bA.bytes,bA.kids,Cn.xK]
theorem vY:∀l:List bA,(Cn.kD l).length=l.length
 | []=>by simp [Cn.kD]
 | f :: r=>by simp [Cn.kD,vY r]
theorem cN.cO (n:Nat) (l:List bA) (hb:bA.cm l≤1099511627776) (hn:2 * bA.cm l<n) (x3:Int) (x4:bz) (x7:List Mem):∀(m i:Nat) (acc:List Mem),i+m=l.length→acc.length=i →
  cN.l1 n l (l.length:Int) (i:Int) x3 x4 7 [] x7 acc=some [.ag [.i .i64 7,.s [],.sl .ml (acc++Cn.kD (l.drop i))]]
 | 0,i,acc,hi,ha=>by
  refine cN.bX _ _ _ _ _ _ _ _ _ _ ?_
  intro v1 h1 v2 h2 v3 h3 v4 h4 v5 h5 v6 h6
  rw [ab (by omega),ae,aC (by omega)]
  simp [Cn.kD]
 | m+1,i,acc,hi,ha=>by
  have hlen:=ma l
  refine cN.bX _ _ _ _ _ _ _ _ _ _ ?_
  intro v1 h1 v2 h2 v3 h3 v4 h4 v5 h5 v6 h6
  rw [ak] at h1
  have hf:=xJ (l:=l) (i:=i) (by omega) (fx.gm .fl)
  rw [←h1] at hf
  have hv:=s4 v1
  have e6:v6=((i+1:Nat):Int):=by rw [h6,i64_in _ (by omega)];omega
  have cB:((decide (bA.bJ (bA.of [] (bA.val v1))≤1099511627776))&&decide ((2 * bA.bJ (bA.of [] (bA.val v1)))<n))=true:=by
   rw [af];exact ⟨aa (by omega),aa (by omega)⟩
  rw [aa (by omega),ah,bx (bN (by omega) (by omega)),bx cB,bx (dP (by rw [h5];simp;omega) (by rw [h5];simp;omega)),e6,
   cN.cO n l hb hn x3 x4 x7 m (i+1) (acc++v5) (by omega) (by rw [h5];simp;omega),drop_cons (l:=l) (i:=i) (by omega) (fx.gm .fl),←h1]
  have e5:v5=[Mem.of v1.name (Cn.xK v1)]:=by rw [h5,h2,h3,h4,G5];rfl
  rw [e5,aE]
  simp [Cn.kD]
theorem cN.goal (n:Nat) (l:List bA) (hp:((decide (bA.cm l≤1099511627776))&&decide ((2 * bA.cm l+1)<n+1))=true):cN.F n l=some [.ag (bP.cells (Cn.rP l))]:=by
 rw [af] at hp
 have h1:=aq hp.1
 have h2:=aq hp.2
 rw [cN.dW]
 exact cN.cO n l h1 (by omega) 0 [] [] l.length 0 [] (by omega) rfl
theorem cn_value.cO (n:Nat) (x2:Int) (x3:bz) (x5:bz) (x6:List Mem) (l:List Mem) (hl:l.length≤1099511627776):∀(m i:Nat) (acc:List Mem),i+m=l.length→acc=(l.take i).map Cn.oF++l.drop i →
  cn_value.l1 n (l.length:Int) (i:Int) x2 x3 6 x5 x6 acc=some [.ag [.i .i64 6,.s x5,.sl .ml (l.map Cn.oF)]]
 | 0,i,acc,hi,ha=>by
  refine cn_value.bX _ _ _ _ _ _ _ _ _ ?_
  intro v1 h1 v2 h2
  rw [ab (by omega),ae,ha,aC (by omega),List.take_of_length_le (by omega),bj]
 | m+1,i,acc,hi,ha=>by
  have O9:acc.length=l.length:=by rw [ha];simp;omega
  have qM:i<l.length:=by omega
  refine cn_value.bX _ _ _ _ _ _ _ _ _ ?_
  intro v1 h1 v2 h2
  rw [ak] at h1 ⊢
  have e2:v2=((i+1:Nat):Int):=by rw [h2,i64_in _ (by omega)];omega
  rw [aa (by omega),ah,bx (bN (by omega) (by omega)),bx (aa (by omega)),e2]
  refine cn_value.cO n x2 x3 x5 x6 l hl m (i+1) v1 (by omega) ?_
  have eg:acc.getD i (fx.gm .ml)=l[i]:=by
   rw [ha,ai,aR (by simp;omega)]
   simp only [bc,aF,Nat.min_eq_left (Nat.le_of_lt qM),Nat.sub_self,List.getElem?_drop,Nat.add_zero]
   rw [ar qM];rfl
  rw [h1,eg,ha,List.set_append_right _ _ (by simp;omega)]
  simp only [bc,aF,Nat.min_eq_left (Nat.le_of_lt qM),Nat.sub_self]
  rw [List.drop_eq_getElem_cons qM,List.set_cons_zero,List.take_succ_eq_append_getElem qM,List.map_append,aE]
  rfl
theorem cn_value.goal (n:Nat) (v:Val) (hp:((decide (bA.bJ (bA.of [] v)≤1099511627776))&&decide ((2 * bA.bJ (bA.of [] v))<n+1))=true):cn_value.F n v=some [.ag (bP.cells (Cn.yy v))]:=by
 rw [af] at hp
 have hb:=aq hp.1
 have hn:=aq hp.2
 have hk:bA.cm v.kids+1≤bA.bJ (bA.of [] v):=by simp only [bA.of,bA.bJ];omega
 have hlen:=ma v.kids
 refine cn_value.bY _ _ ?_
 intro v1 h1 v2 h2 v3 h3 v4 h4 v5 h5 v6 h6 v7 h7 v8 h8 v9 h9 v10 iS v11 kA v12 jM kq nr jh oa jb nV lA sw
 have cA:((decide (bA.cm v.kids≤1099511627776))&&decide ((2 * bA.cm v.kids+1)<n))=true:=by
  rw [af];exact ⟨aa (by omega),aa (by omega)⟩
 have hd:(⟨v6,v7,v5⟩:bP)=Cn.rP v.kids:=by rw [h5,h6,h7]
 have e5:v5=Cn.kD v.kids:=h5
 have e6:v6=7:=h6
 have e7:v7=[]:=h7
 unfold Cn.yy
 simp only [bA.of,Cn.xK]
 by_cases k1:v.kind=3
 ·have e4:v4=Cn.kM v.kids:=by
   rw [h4,h3,h2,h1]
   unfold Cn.kM
   cases v.kids with
   | nil=>rfl
   | cons f r =>
    rw [aa (by simp),ah]
    show List.isPrefixOf [36] f.name=decide (f.name.take 1=[36])
    generalize f.name=s
    cases s with
    | nil=>rfl
    | cons c t =>
     by_cases e:c=36
     ·subst e;simp [List.isPrefixOf]
     ·have e':¬(36:UInt8)=c:=fun h=>e h.symm
      simp [List.isPrefixOf,e,e']
  have ci:(!(decide ((0:Int)<v1)) || ((decide ((0:Int)<v1))&&(bD (0:Int) v.kids.length)))=true:=by
   by_cases c:(0:Int)<v1
   ·rw [bN (by omega) (by omega)];cases decide ((0:Int)<v1) <;> rfl
   ·rw [ab c];rfl
  rw [aa k1,ah,au k1,bx (jR _),bx ci,bx (jR _),bx (jR _),bx (jR _),bx (jR _),bx cA,bx cA,e4,h8,hd,e5,e6,e7]
  cases Cn.kM v.kids <;> rfl
 rw [ab k1,ae,ao k1]
 by_cases k2:v.kind=4
 ·rw [aa k2,ah,au k2,bx cA,bx (aa (by omega)),h9,iS,hd,e5,e7]
  cases Tree.regular v.kids with
  | false=>rfl
  | true =>
   rw [aG,ae,ah]
   have:=cn_value.cO n 0 [] [] [] (Cn.kD v.kids) (by rw [vY];omega) (Cn.kD v.kids).length 0 (Cn.kD v.kids) (by omega) (by simp)
   exact this
 rw [ab k2,ae,ao k2]
 by_cases k3:v.kind=15
 ·rw [aa k3,ah,au k3,bx cA,kA,hd];rfl
 rw [ab k3,ae,ao k3]
 have i1:Nr.i64 1=true:=aa (by decide)
 unfold Cn.qu
 by_cases k4:v.kind=6
 ·rw [aa k4,ah,au k4,jM]
 rw [ab k4,ae,ao k4]
 by_cases k5:v.kind=8
 ·rw [aa k5,ah,au k5,oa,nr];rfl
 rw [ab k5,ae,ao k5]
 by_cases k6:v.kind=10
 ·rw [aa k6,ah,au k6];rfl
 rw [ab k6,ae,ao k6]
 by_cases k7:v.kind=255
 ·rw [aa k7,ah,au k7,bx i1,nV]
 rw [ab k7,ae,ao k7]
 by_cases k8:v.kind=127
 ·rw [aa k8,ah,au k8,bx i1,sw]
 rw [ab k8,ae,ao k8]
 show cond (Cn.oD v).2 _ _=some [TV.ag (bP.cells (if (Cn.oD v).2=true then (Cn.oD v).1 else Cn.pz v))]
 cases (Cn.oD v).2 with
 | true=>rw [ah,au rfl]
 | false=>rw [ae,ao (by simp)];exact bx hp.1
theorem gP.goal (v:Val) (hp:(decide (bA.bJ (bA.of [] v)≤1099511627776))=true):gP.F v=some [.ag (bP.cells (Cn.zF v)),.ag [.i .i64 (Cn.iO v).2,.i .i64 0,.sl .is (Cn.iO v).1]]:=by
 have hb:=aq hp
 have hk:bA.cm v.kids+1≤bA.bJ (bA.of [] v):=by simp only [bA.of,bA.bJ];omega
 refine gP.bY _ ?_
 intro v1 h1 v2 h2 v3 h3 v4 h4 v5 h5
 rw [bx hp]
 unfold Cn.zF
 by_cases c:(Tree.gQ (bA.of [] v) []).2=0
 ·rw [h2,aa c,aG,ae]
  by_cases k:v.kind=3
  ·have e:Cn.iO v=([],0):=by unfold Cn.iO;rw [ao (by simp [c]),au k]
   rw [aa k,aG,ae,bx (aa (by omega)),e,au rfl,h3,h4,h5];rfl
  ·have e:Cn.iO v=([],5):=by unfold Cn.iO;rw [ao (by simp [c]),ao k]
   rw [ab k,aI,ah,e,ao (by decide)];rfl
 ·have e:Cn.iO v=Tree.gQ (bA.of [] v) []:=by unfold Cn.iO;rw [au c]
  rw [h2,ab c,aI,ah,e,ao c,h1];rfl
end Go.Eng
set_option maxRecDepth 20000
namespace Go.Eng
open Go.IntWalk
theorem iK.goal (r:Int):iK.F r=some [.b (fR.nM r)]:=by
 refine iK.bY r ?_
 intro v1 h1 v2 h2 v3 h3
 subst h1 h2 h3
 by_cases a:0≤r <;> by_cases b:r≤1114111 <;> by_cases c:r<55296 <;> simp [ck,a,b,c,fR.nM]
theorem Ng:∀n,n<256→((n &&& 192=128) ↔ (128≤n∧n<192)):=by decide +kernel
theorem Py:∀n,n<256→(128≤n∧n<192)→n &&& 63=n - 128:=by decide +kernel
theorem Pz:∀n,n<256→(192≤n∧n<224)→n &&& 31=n - 192:=by decide +kernel
theorem PB:∀n,n<256→(224≤n∧n<240)→n &&& 15=n - 224:=by decide +kernel
theorem SA:∀n,n<256→(240≤n∧n<248)→n &&& 7=n - 240:=by decide +kernel
theorem K4 (c:UInt8):c.toNat<256:=by have:=c.toNat_lt;simpa using this
theorem EG (c:UInt8):decide ((c &&& (192:UInt8))=(128:UInt8))=decide (128≤c.toNat∧c.toNat<192):=by
 have h:=Ng c.toNat (K4 c)
 rw [aS]
 simp only [aA]
 rw [←h,←UInt8.toNat_inj,UInt8.toNat_and]
 exact Iff.rfl
theorem Rc (c:UInt8) (h:128≤c.toNat∧c.toNat<192):((c &&& (63:UInt8)).toNat:Int)=((c.toNat - 128:Nat):Int):=by
 rw [UInt8.toNat_and]
 exact congrArg _ (Py c.toNat (K4 c) h)
def DX (r:Option Nat) (more least:Nat):OT:=match r with
 | some r=>if r<least∨fR.nM r=false then some [.i .i64 0,.i .i64 0] else some [.i .i64 r,.i .i64 (more+1:Int)]
 | none=>some [.i .i64 0,.i .i64 0]
theorem Jc (c:Nat) (more least:Nat) (l:bz):DX (fR.cont c more l) more least=some [.i .i64 (fR.oG c more least l).1,.i .i64 (fR.oG c more least l).2]:=by
 unfold DX fR.oG
 cases fR.cont c more l with
 | none=>rfl
 | some r=>simp only;split <;> rfl
theorem bK.end_ (r:Nat) (more least:Nat) (hm:more<8) :
  (ck (!(!(decide ((r:Int)<(least:Int)))) || (!(decide ((r:Int)<(least:Int))))) (ck (!(!(decide ((r:Int)<(least:Int)))) || (!(decide ((r:Int)<(least:Int))))) (ck ((decide ((r:Int)<(least:Int))) || (!(decide ((r:Int)<(least:Int))))) (cond (cond (decide ((r:Int)<(least:Int))) true (!(fR.nM r)))
  (bK.g1)
  (some [(.i .i64 (r:Int)),(.i .i64 (IntKind.i64.wrap ((more:Int)+(1:Int))))])))))=DX (some r) more least:=by
 simp only [aW,bn,bU]
 rw [i64_in _ (by omega),bK.wz]
 unfold DX
 by_cases h:r<least
 ·simp [h]
 ·simp only [show ¬((r:Int)<(least:Int)) by omega,decide_false,ae,h,false_or]
  cases fR.nM r <;> simp
theorem bK.Pk (b:bz) (at_:Nat) (more least:Nat) (hm:more<8) (hb:b.length≤1099511627776) (gk:at_+more<b.length):∀(k i r:Nat),i+k=more+1→r<2 ^ (10+6 * i) →
  bK.g3 b at_ r more least i=DX (fR.cont r k (b.drop (at_+i))) more least:=by
 intro k
 induction k with
 | zero =>
  intro i r hi hr
  refine bK.G0 _ _ _ _ _ _ ?_
  intro v1 h1 v2 h2 v3 h3 v4 h4 v5 h5 v6 h6 v7 h7
  rw [show decide ((i:Int)≤(more:Int))=false by simp;omega,ae]
  subst h6 h7
  rw [fR.cont]
  exact bK.end_ r more least hm
 | succ k ih =>
  intro i r hi hr
  refine bK.G0 _ _ _ _ _ _ ?_
  intro v1 h1 v2 h2 v3 h3 v4 h4 v5 h5 v6 h6 v7 h7
  have hw:IntKind.i64.wrap ((at_:Int)+(i:Int))=((at_+i:Nat):Int):=by rw [i64_in _ (by omega)];omega
  have Qm:=drop_cons (l:=b) (i:=at_+i) (by omega) 0
  rw [show decide ((i:Int)≤(more:Int))=true by simp;omega,ah,hw]
  rw [hw,ak] at h1
  rw [bx (bN (by omega) (by omega)),Qm,←h1,fR.cont,h2,EG]
  by_cases hc:128≤v1.toNat∧v1.toNat<192
  ·rw [au hc,aa hc]
   simp only [aG,ae]
   rw [bx (bN (by omega) (by omega))]
   have hp:2 ^ (10+6 * i) * 64=2 ^ (10+6 * (i+1)):=by rw [show 10+6 * (i+1)=(10+6 * i)+6 by omega,Nat.pow_add 2 (10+6 * i) 6]
   have Ii:2 ^ (10+6 * (i+1))≤2 ^ 58:=Nat.pow_le_pow_right (by omega) (by omega)
   have Vu:r * 64+64≤2 ^ (10+6 * (i+1)):=by
    rw [←hp];have:=av 64 (Nat.succ_le_of_lt hr);omega
   have e3:v3=((r * 64:Nat):Int):=by
    rw [h3]
    have:(min (((6:UInt64)).toNat) (IntKind.i64.bits))=6:=by decide
    rw [this,i64_in _ (by simp at Ii;omega)];simp
   have e4:v4=((v1.toNat - 128:Nat):Int):=by
    rw [h4,Rc v1 hc];exact i64_in _ (by omega)
   have e5:v5=((i+1:Nat):Int):=by rw [h5,i64_in _ (by omega)];omega
   have e6:cU .or .i64 v3 v4=((r * 64+(v1.toNat - 128):Nat):Int):=by
    rw [e3,e4,Lw _ _ (by simp at Ii;omega) (by omega)]
    have:=nE (a:=r) (b:=v1.toNat - 128) (k:=6) (by simp;omega)
    simp at this
    rw [this]
   rw [e6,e5,ih (i+1) _ (by omega) (by omega),Nat.add_assoc]
  ·rw [ao hc,ab hc]
   simp only [aI,ah]
   rw [bK.wz];rfl
theorem bK.nU (b : bz) (at_ : Nat) (r more least : Nat) (hm : 1 ≤ more ∧ more < 8) (hb : b.length ≤ 1099511627776) (gk : at_ < b.length) (hr : r < 1024) :
    bK.j2 b at_ r more least = DX (fR.cont r more (b.drop (at_ + 1))) more least := by
  have KE : ∀ (k r : Nat) (l : bz), l.length < k → fR.cont r k l = none := by
    intro k
    induction k with
    | zero => intro r l h; omega
    | succ k ih =>
      intro r l h
      cases l with
      | nil => rfl
      | cons c l => rw [fR.cont]; split
                    · exact ih _ _ (by simp at h; omega)
                    · rfl
  have key := fun (h : at_ + more < b.length) => bK.Pk b at_ more least hm.2 hb h more 1 r (by omega) (by simp; omega)
  by_cases hx : at_ + more < b.length
  · rw [← key hx]
    refine bK.jx _ _ _ _ _ ?_
    intro v1 h1 v2 h2 v3 h3 v4 h4 v5 h5 v6 h6 v7 h7 v8 h8 v9 h9 v10 iS
    symm
    refine bK.G0 _ _ _ _ _ _ ?_
    intro w1 k1 w2 k2 w3 k3 w4 k4 w5 k5 w6 k6 w7 k7
    have e1 : v1 = (b.length : Int) - at_ := by rw [h1]; exact i64_in _ (by omega)
    have e2 : v2 = (b.length : Int) - at_ - 1 := by rw [h2, e1]; exact i64_in _ (by omega)
    rw [show decide (v2 < (more : Int)) = false by simp; omega, ae]
    have a1 : ((1 : Nat) : Int) = 1 := rfl
    simp only [a1] at k1 k2 k3 k4 k5 k6 k7 ⊢
    subst h3; subst h4; subst h5; subst h6; subst h7; subst h8; subst h9; subst iS; subst k1; subst k2; subst k3; subst k4; subst k5; subst k6; subst k7
    rfl
  · refine bK.jx _ _ _ _ _ ?_
    intro v1 h1 v2 h2 v3 h3 v4 h4 v5 h5 v6 h6 v7 h7 v8 h8 v9 h9 v10 iS
    have e1 : v1 = (b.length : Int) - at_ := by rw [h1]; exact i64_in _ (by omega)
    have e2 : v2 = (b.length : Int) - at_ - 1 := by rw [h2, e1]; exact i64_in _ (by omega)
    rw [show decide (v2 < (more : Int)) = true by simp; omega, ah, bK.wz, KE _ _ _ (by simp; omega)]
    rfl
theorem Q7 (lo hi n:Nat):(cond (decide ((lo:Int)≤(n:Int))) (decide ((n:Int)<(hi:Int))) false)=decide (lo≤n∧n<hi):=by
 by_cases a:lo≤n
 ·rw [show decide ((lo:Int)≤(n:Int))=true by simp;omega,ah,aS];simp;omega
 ·rw [show decide ((lo:Int)≤(n:Int))=false by simp;omega,ae,ab (by omega)]
theorem bK.goal (b:bz) (at_:Int) (hp:decide (b.length≤1099511627776)=true):bK.F b at_=some [.i .i64 (fR.ny b at_).1,.i .i64 (fR.ny b at_).2]:=by
 have hb:b.length≤1099511627776:=aq hp
 refine bK.bY b at_ ?_
 intro v1 h1 v2 h2 v3 h3 v4 h4 v5 h5 v6 h6 v7 h7 v8 h8 v9 h9
 unfold fR.ny
 by_cases h0:at_<0
 ·subst h1
  simp [h0,ck,bK.wz]
 ·have hd0:decide (at_<0)=false:=ab h0
  obtain ⟨i,rfl⟩:=Int.eq_ofNat_of_zero_le (show 0≤at_ by omega)
  rw [hd0] at h1 ⊢
  subst h1
  simp only [aI,aG,Bool.false_or,Bool.or_true,bU,ae,ak] at h2 ⊢
  by_cases hl:b.length≤i
  ·rw [show decide ((b.length:Int)≤(i:Int))=true by simp;omega,au (.inr (by omega)),ah,bK.wz];rfl
  ·rw [show decide ((b.length:Int)≤(i:Int))=false by simp;omega,ao (by omega),ae,bx (bN (by omega) (by omega)),drop_cons (l:=b) (i:=i) (by omega) 0,←h2,fR.rune]
   have hc:=K4 v2
   have e3:v3=(v2.toNat:Int):=by rw [h3];exact i64_in _ (by omega)
   have an:∀(m:Nat),m<256→cU .and .i64 v3 m=((v2.toNat &&& m:Nat):Int):=fun m h=>by rw [e3,JZ _ _ (by omega) (by omega)]
   have WC:v5=((v2.toNat &&& 31:Nat):Int):=h5.trans (an 31 (by omega))
   have WB:v7=((v2.toNat &&& 15:Nat):Int):=h7.trans (an 15 (by omega))
   have WA:v9=((v2.toNat &&& 7:Nat):Int):=h9.trans (an 7 (by omega))
   have e4:v4=decide (192≤v2.toNat∧v2.toNat<224):=by rw [h4,e3];exact Q7 192 224 _
   have e6:v6=decide (224≤v2.toNat∧v2.toNat<240):=by rw [h6,e3];exact Q7 224 240 _
   have e8:v8=decide (240≤v2.toNat∧v2.toNat<248):=by rw [h8,e3];exact Q7 240 248 _
   have J:∀(r more least:Nat),1≤more∧more<8→r<1024→bK.j2 b i r more least=some [.i .i64 (fR.oG r more least (b.drop (i+1))).1,.i .i64 (fR.oG r more least (b.drop (i+1))).2]:=fun r more least h1 h2 =>
    (bK.nU b i r more least h1 hb (by omega) h2).trans (Jc _ _ _ _)
   simp only [aW,bU]
   by_cases c1:v2.toNat<128
   ·rw [au c1,e3,show decide ((v2.toNat:Int)<128)=true by simp;omega,ah];rfl
   ·rw [ao c1,show decide (v3<(128:Int))=false by rw [e3];simp;omega,ae,e4]
    by_cases c2:192≤v2.toNat∧v2.toNat<224
    ·rw [au c2,aa c2,ah,WC,Pz _ hc c2];exact J _ 1 128 (by omega) (by omega)
    ·rw [ao c2,ab c2,ae,e6]
     by_cases c3:224≤v2.toNat∧v2.toNat<240
     ·rw [au c3,aa c3,ah,WB,PB _ hc c3];exact J _ 2 2048 (by omega) (by omega)
     ·rw [ao c3,ab c3,ae,e8]
      by_cases c4:240≤v2.toNat∧v2.toNat<248
      ·rw [au c4,aa c4,ah,WA,SA _ hc c4];exact J _ 3 65536 (by omega) (by omega)
      ·rw [ao c4,ab c4,ae,bK.wz];rfl
theorem fR.q8 (l:bz):0≤(fR.rune l).2∧(fR.rune l).2≤l.length:=by
 have AO:∀(k r q:Nat) (l:bz),fR.cont r k l=some q→k≤l.length:=by
  intro k
  induction k with
  | zero=>intro r q l _;omega
  | succ k ih =>
   intro r q l h
   cases l with
   | nil=>cases h
   | cons c l =>
    rw [fR.cont] at h
    split at h
    ·have:=ih _ _ _ h;simp;omega
    ·cases h
 have RL:∀(r more least:Nat) (l:bz),0≤(fR.oG r more least l).2∧(fR.oG r more least l).2≤l.length+1:=by
  intro r more least l
  unfold fR.oG
  cases h:fR.cont r more l with
  | none=>simp;omega
  | some q =>
   have:=AO _ _ _ _ h
   simp only
   split <;> simp <;> omega
 cases l with
 | nil=>exact ⟨by decide,by decide⟩
 | cons c l =>
  unfold fR.rune
  simp only [az]
  split
  ·simp;omega
  ·split
   ·have:=RL (c.toNat - 192) 1 128 l;omega
   ·split
    ·have:=RL (c.toNat - 224) 2 2048 l;omega
    ·split
     ·have:=RL (c.toNat - 240) 3 65536 l;omega
     ·simp;omega
theorem fR.F7 (l:bz):∀n,l.length≤n→fR.qt n l=fR.qt l.length l:=by
 have key:∀(m:Nat) (l:bz),l.length≤m→∀n,l.length≤n→fR.qt n l=fR.qt l.length l:=by
  intro m
  induction m with
  | zero =>
   intro l hl n hn
   have:l=[]:=List.length_eq_zero_iff.1 (by omega)
   subst this
   cases n with
   | zero=>rfl
   | succ n=>rfl
  | succ m ih =>
   intro l hl n hn
   cases h:l.length with
   | zero =>
    have:l=[]:=List.length_eq_zero_iff.1 h
    subst this
    cases n <;> rfl
   | succ k =>
    cases n with
    | zero=>omega
    | succ n =>
     unfold fR.qt
     have hs:=fR.q8 l
     by_cases h0:(fR.rune l).2=0
     ·rw [au h0,au h0]
     ·rw [ao h0,ao h0]
      have hd:(l.drop (fR.rune l).2.toNat).length≤k:=by simp;omega
      rw [ih _ (by simp;omega) n (by simp;omega),ih _ (by simp;omega) k hd]
 exact fun n hn=>key _ l (Nat.le_refl _) n hn
theorem fR.D0 (l:bz) (h:(fR.rune l).2≠0):fR.look l=((fR.look (l.drop (fR.rune l).2.toNat)).1+(fR.rune l).2.toNat,(fR.look (l.drop (fR.rune l).2.toNat)).2+1):=by
 have hs:=fR.q8 l
 unfold fR.look
 cases hl:l.length with
 | zero=>omega
 | succ k =>
  rw [fR.qt,ao h]
  simp only
  rw [fR.F7 _ k (by simp;omega)]
theorem fR.D1 (l:bz) (h:(fR.rune l).2=0):fR.look l=(0,0):=by
 unfold fR.look
 cases l.length with
 | zero=>rfl
 | succ k=>rw [fR.qt,au h]
theorem fR.A9 (b:bz) (i:Nat) (h:i<b.length):fR.ny b i=fR.rune (b.drop i):=by
 unfold fR.ny;rw [ao (by omega),ak]
theorem cE.cO (b:bz) (hb:b.length≤1099511627776):∀(m i k:Nat),b.length - i≤m→i≤b.length→k≤i →
  cE.l1 b i k=some [.i .i64 ((i+(fR.look (b.drop i)).1:Nat):Int),.i .i64 ((k+(fR.look (b.drop i)).2:Nat):Int)]:=by
 intro m
 induction m with
 | zero =>
  intro i k hm hi hk
  refine cE.bX _ _ _ ?_
  intro v1 h1 v2 h2
  rw [show decide ((i:Int)<(b.length:Int))=false by simp;omega,ae,cE.lf,aC (by omega)]
  rfl
 | succ m ih =>
  intro i k hm hi hk
  by_cases gk:i<b.length
  ·refine cE.bX _ _ _ ?_
   intro v1 h1 v2 h2
   rw [fR.A9 b i gk] at h1 ⊢
   have hs:=fR.q8 (b.drop i)
   rw [aV] at hs
   rw [show decide ((i:Int)<(b.length:Int))=true by simp;omega,ah,bx (aa hb)]
   by_cases h0:(fR.rune (b.drop i)).2=0
   ·rw [aa h0,ah,cE.lf,fR.D1 _ h0];rfl
   ·rw [ab h0,ae,fR.D0 _ h0]
    have e1:v1=((i+(fR.rune (b.drop i)).2.toNat:Nat):Int):=by rw [h1,i64_in _ (by omega)];omega
    have e2:v2=((k+1:Nat):Int):=by rw [h2,i64_in _ (by omega)];omega
    rw [e1,e2,ih _ _ (by omega) (by omega) (by omega),List.drop_drop]
    simp only [aL,bt,TV.i.injEq,true_and,and_true]
    exact ⟨by omega,by omega⟩
  ·refine cE.bX _ _ _ ?_
   intro v1 h1 v2 h2
   rw [show decide ((i:Int)<(b.length:Int))=false by simp;omega,ae,cE.lf,aC (by omega)]
   rfl
theorem cE.goal (b:bz) (hp:decide (b.length≤1099511627776)=true):cE.F b=some [.i .i64 ((fR.look b).1:Int),.i .i64 ((fR.look b).2:Int)]:=by
 rw [cE.dW]
 have:=cE.cO b (aq hp) b.length 0 0 (by omega) (by omega) (by omega)
 simpa using this
theorem dX.goal (b:bz) (hp:decide (b.length≤1099511627776)=true):dX.F b=some [.i .i64 ((fR.look b).1:Int),.b (fR.whole b)]:=by
 have e:decide (((fR.look b).1:Int)=(b.length:Int))=fR.whole b:=by unfold fR.whole;rw [aS];simp;omega
 rw [dX.dW,bx hp,e]
theorem Y3.end_ (r:Nat) (more least:Nat) {v7 v9:Bool} (h7:v7=(cond (decide ((r:Int)<(least:Int))) true (decide ((1114111:Int)<(r:Int))))) (h9:v9=(cond (decide ((55296:Int)≤(r:Int))) (decide ((r:Int)≤(57343:Int))) false)) :
  cond (cond v7 true v9)
  (some [(.i .i64 (0:Int)),(.i .i64 (0:Int))])
  (some [(.i .i64 (r:Int)),(.i .i64 ((more+1:Nat):Int))])=DX (some r) more least:=by
 have e:cond v7 true v9=decide (r<least∨fR.nM r=false):=by
  subst h7 h9
  unfold fR.nM
  rw [aS]
  by_cases a:r<least
  ·simp [a]
  ·by_cases b:1114111<r
   ·simp [a,show (1114111:Int)<(r:Int) by omega] <;> omega
   ·by_cases c:55296≤r
    ·simp [a,show ¬(1114111:Int)<(r:Int) by omega,show (55296:Int)≤(r:Int) by omega] <;> omega
    ·simp [a,show ¬(1114111:Int)<(r:Int) by omega,show ¬(55296:Int)≤(r:Int) by omega] <;> omega
 rw [e]
 unfold DX
 by_cases h:r<least∨fR.nM r=false
 ·rw [aa h];simp only [h,if_true,ah]
 ·rw [ab h];simp only [h,if_false,ae];rfl
theorem ck6 (a b c:Bool) (hc:c=(!a&&b)):(!(!a) || ((!a)&&(!b || c)))=true:=by subst hc;cases a <;> cases b <;> rfl
theorem Y3.jd (b:bz) (at_:Nat) (more least:Nat) (hm:more<8) (hb:b.length≤1099511627776) (gk:at_+more<b.length):∀(k i r:Nat),i+k=more+1→r<2 ^ (10+6 * i) →
  Y3.l2 b at_ ((more+1:Nat):Int) r least i=DX (fR.cont r k (b.drop (at_+i))) more least:=by
 intro k
 induction k with
 | zero =>
  intro i r hi hr
  refine Y3.iu _ _ _ _ _ _ ?_
  intro v1 h1 v2 h2 v3 h3 v4 h4 v5 h5 v6 h6 v7 h7 v8 h8 v9 h9
  rw [show decide ((i:Int)<((more+1:Nat):Int))=false by simp;omega,ae]
  simp only [aW,bn,bU]
  rw [bx (ck6 _ _ _ h8),fR.cont]
  exact Y3.end_ r more least h7 h9
 | succ k ih =>
  intro i r hi hr
  refine Y3.iu _ _ _ _ _ _ ?_
  intro v1 h1 v2 h2 v3 h3 v4 h4 v5 h5 v6 h6 v7 h7 v8 h8 v9 h9
  have hw:IntKind.i64.wrap ((at_:Int)+(i:Int))=((at_+i:Nat):Int):=by rw [i64_in _ (by omega)];omega
  have Qm:=drop_cons (l:=b) (i:=at_+i) (by omega) 0
  have hu:=K4 v1
  rw [show decide ((i:Int)<((more+1:Nat):Int))=true by simp;omega,ah,hw]
  rw [hw,ak] at h1
  have e2:v2=(v1.toNat:Int):=by rw [h2];exact i64_in _ (by omega)
  have e3:v3=!decide (128≤v1.toNat∧v1.toNat<192):=by
   rw [h3,e2,aS]
   by_cases a:v1.toNat<128
   ·simp [a];omega
   ·simp [show ¬(v1.toNat:Int)<128 by omega];omega
  simp only [aW,bn,bU]
  rw [bx (bN (by omega) (by omega)),Qm,←h1,fR.cont,e3]
  by_cases hc:128≤v1.toNat∧v1.toNat<192
  ·rw [au hc,aa hc]
   simp only [aG,ae]
   have hp:2 ^ (10+6 * i) * 64=2 ^ (10+6 * (i+1)):=by rw [show 10+6 * (i+1)=(10+6 * i)+6 by omega,Nat.pow_add 2 (10+6 * i) 6]
   have Ii:2 ^ (10+6 * (i+1))≤2 ^ 58:=Nat.pow_le_pow_right (by omega) (by omega)
   have Vu:r * 64+64≤2 ^ (10+6 * (i+1)):=by
    rw [←hp];have:=av 64 (Nat.succ_le_of_lt hr);omega
   simp at Ii
   have e4:v4=((r * 64:Nat):Int):=by rw [h4,i64_in _ (by omega)];simp
   have e5:v5=((r * 64+(v1.toNat - 128):Nat):Int):=by
    rw [h5,e4,e2,i64_in (((r * 64:Nat):Int)+(v1.toNat:Int)) (by omega),i64_in _ (by omega)];omega
   have e6:v6=((i+1:Nat):Int):=by rw [h6,i64_in _ (by omega)];omega
   rw [e5,e6,ih (i+1) _ (by omega) (by omega),Nat.add_assoc]
  ·rw [ao hc,ab hc]
   simp only [aI,ah]
   rfl
theorem fR.ZV:∀(k r:Nat) (l:bz),l.length<k→fR.cont r k l=none:=by
 intro k
 induction k with
 | zero=>intro r l h;omega
 | succ k ih =>
  intro r l h
  cases l with
  | nil=>rfl
  | cons c l =>
   rw [fR.cont]
   split
   ·exact ih _ _ (by simp at h;omega)
   ·rfl
theorem Y3.iz (b:bz) (at_:Nat) (r more least:Nat) (hm:1≤more∧more<8) (hb:b.length≤1099511627776) (gk:at_<b.length) (hr:r<1024) :
  Y3.j1 b at_ ((more+1:Nat):Int) r least=DX (fR.cont r more (b.drop (at_+1))) more least:=by
 refine Y3.iR _ _ _ _ _ ?_
 intro v1 h1
 have e1:v1=(b.length:Int) - at_:=by rw [h1];exact i64_in _ (by omega)
 by_cases hx:at_+more<b.length
 ·rw [show decide (v1<((more+1:Nat):Int))=false by rw [e1];simp;omega,ae]
  exact Y3.jd b at_ more least hm.2 hb hx more 1 r (by omega) (by simp;omega)
 ·rw [show decide (v1<((more+1:Nat):Int))=true by rw [e1];simp;omega,ah,fR.ZV _ _ _ (by simp;omega)]
  rfl
theorem Y3.goal (b:bz) (at_:Int) (hp:decide (b.length≤1099511627776)=true):Y3.F b at_=some [.i .i64 (fR.ny b at_).1,.i .i64 (fR.ny b at_).2]:=by
 have hb:b.length≤1099511627776:=aq hp
 refine Y3.bY b at_ ?_
 intro v1 h1 v2 h2 v3 h3 v4 h4 v5 h5 v6 h6 v7 h7 v8 h8 v9 h9
 unfold fR.ny
 simp only [aW,bn,aZ,bU]
 by_cases h0:at_<0
 ·rw [h1,aa h0,ah,ah,au (.inl h0)]
 ·rw [h1,ab h0,ae]
  obtain ⟨i,rfl⟩:=Int.eq_ofNat_of_zero_le (show 0≤at_ by omega)
  rw [ak] at h2
  by_cases hl:b.length≤i
  ·rw [show decide ((b.length:Int)≤(i:Int))=true by simp;omega,au (.inr (by omega)),ah]
  ·rw [show decide ((b.length:Int)≤(i:Int))=false by simp;omega,ao (by omega),ae,bx (bN (by omega) (by omega)),ak,drop_cons (l:=b) (i:=i) (by omega) 0,←h2,fR.rune]
   have hc:=K4 v2
   have e3:v3=(v2.toNat:Int):=by rw [h3];exact i64_in _ (by omega)
   have e4:v4=decide (192≤v2.toNat∧v2.toNat<224):=by rw [h4,e3];exact Q7 192 224 _
   have e6:v6=decide (224≤v2.toNat∧v2.toNat<240):=by rw [h6,e3];exact Q7 224 240 _
   have e8:v8=decide (240≤v2.toNat∧v2.toNat<248):=by rw [h8,e3];exact Q7 240 248 _
   have J:∀(r more least:Nat),1≤more∧more<8→r<1024→Y3.j1 b i ((more+1:Nat):Int) r least=some [.i .i64 (fR.oG r more least (b.drop (i+1))).1,.i .i64 (fR.oG r more least (b.drop (i+1))).2]:=fun r more least h1 h2 =>
    (Y3.iz b i r more least h1 hb (by omega) h2).trans (Jc _ _ _ _)
   by_cases c1:v2.toNat<128
   ·rw [au c1,e3,show decide ((v2.toNat:Int)<128)=true by simp;omega,ah]
   ·rw [ao c1,show decide (v3<(128:Int))=false by rw [e3];simp;omega,ae,e4]
    by_cases c2:192≤v2.toNat∧v2.toNat<224
    ·rw [au c2,aa c2,ah,show v5=((v2.toNat - 192:Nat):Int) by rw [h5,e3,i64_in _ (by omega)];omega];exact J _ 1 128 (by omega) (by omega)
    ·rw [ao c2,ab c2,ae,e6]
     by_cases c3:224≤v2.toNat∧v2.toNat<240
     ·rw [au c3,aa c3,ah,show v7=((v2.toNat - 224:Nat):Int) by rw [h7,e3,i64_in _ (by omega)];omega];exact J _ 2 2048 (by omega) (by omega)
     ·rw [ao c3,ab c3,ae,e8]
      by_cases c4:240≤v2.toNat∧v2.toNat<248
      ·rw [au c4,aa c4,ah,show v9=((v2.toNat - 240:Nat):Int) by rw [h9,e3,i64_in _ (by omega)];omega];exact J _ 3 65536 (by omega) (by omega)
      ·rw [ao c4,ab c4,ae]
theorem Y6.cO (b:bz) (hb:b.length≤1099511627776):∀(m i:Nat),b.length - i≤m→i≤b.length →
  Y6.l1 b i=some [.i .i64 ((i+(fR.look (b.drop i)).1:Nat):Int),.b (decide (i+(fR.look (b.drop i)).1=b.length))]:=by
 intro m
 induction m with
 | zero =>
  intro i hm hi
  refine Y6.bX _ _ ?_
  intro v1 h1
  rw [show decide ((i:Int)<(b.length:Int))=false by simp;omega,ae,aC (by omega)]
  have:(fR.look []).1=0:=by decide
  rw [this,aa (show i+0=b.length by omega),show i+0=b.length by omega]
 | succ m ih =>
  intro i hm hi
  refine Y6.bX _ _ ?_
  intro v1 h1
  by_cases gk:i<b.length
  ·rw [fR.A9 b i gk] at h1 ⊢
   have hs:=fR.q8 (b.drop i)
   rw [aV] at hs
   rw [show decide ((i:Int)<(b.length:Int))=true by simp;omega,ah,bx (aa hb)]
   by_cases h0:(fR.rune (b.drop i)).2=0
   ·rw [aa h0,ah,fR.D1 _ h0,ab (show ¬i+(0,0).1=b.length by simp;omega)];rfl
   ·rw [ab h0,ae,fR.D0 _ h0]
    have e1:v1=((i+(fR.rune (b.drop i)).2.toNat:Nat):Int):=by rw [h1,i64_in _ (by omega)];omega
    rw [e1,ih _ (by omega) (by omega),List.drop_drop]
    simp only [aL,bt,TV.i.injEq,TV.b.injEq,true_and,and_true]
    refine ⟨by omega,?_⟩
    rw [aS];simp;omega
  ·rw [show decide ((i:Int)<(b.length:Int))=false by simp;omega,ae,aC (by omega)]
   have:(fR.look []).1=0:=by decide
   rw [this,aa (show i+0=b.length by omega),show i+0=b.length by omega]
theorem Y6.goal (b:bz) (hp:decide (b.length≤1099511627776)=true):Y6.F b=some [.i .i64 ((fR.look b).1:Int),.b (fR.whole b)]:=by
 rw [Y6.dW]
 have:=Y6.cO b (aq hp) b.length 0 (by omega) (by omega)
 simpa [fR.whole] using this
theorem Ln.goal (s:bz) (hp:decide (s.length≤1099511627776)=true):Ln.F s=some [.b (fR.whole s)]:=by
 rw [Ln.dW,bx (Db (aq hp)),bx hp]
theorem Y8.cO (s:bz) (hb:s.length≤1099511627776):∀(m i:Nat),s.length - i≤m→i≤s.length→Y8.l1 s i=some [.b ((s.drop i).contains 0)]:=by
 intro m
 induction m with
 | zero =>
  intro i hm hi
  refine Y8.bX _ _ ?_
  intro v1 h1 v2 h2
  rw [show decide ((i:Int)<(s.length:Int))=false by simp;omega,ae,aC (by omega)];rfl
 | succ m ih =>
  intro i hm hi
  refine Y8.bX _ _ ?_
  intro v1 h1 v2 h2
  rw [ak] at h1
  by_cases gk:i<s.length
  ·rw [show decide ((i:Int)<(s.length:Int))=true by simp;omega,ah,bx (bN (by omega) (by omega)),drop_cons (l:=s) gk 0,←h1]
   have e2:v2=((i+1:Nat):Int):=by rw [h2,i64_in _ (by omega)];omega
   by_cases h0:v1=0
   ·rw [h0];rfl
   ·rw [ab h0,ae,e2,ih _ (by omega) (by omega),List.contains_cons]
    have:((0:UInt8) == v1)=false:=by rw [beq_eq_false_iff_ne];exact fun e=>h0 e.symm
    rw [this,Bool.false_or]
  ·rw [show decide ((i:Int)<(s.length:Int))=false by simp;omega,ae,aC (by omega)];rfl
theorem Y8.goal (s:bz) (hp:decide (s.length≤1099511627776)=true):Y8.F s=some [.b (fR.zero s)]:=by
 rw [Y8.dW]
 have:=Y8.cO s (aq hp) s.length 0 (by omega) (by omega)
 simpa [fR.zero] using this
end Go.Eng
set_option maxRecDepth 20000
namespace Go.Eng
open Go.IntWalk
theorem jo.goal (s:bz) (hp:(decide (s.length≤1099511627776))=true):jo.F s=some [.b (fR.whole s)]:=by
 rw [jo.dW,bx (Db (aq hp)),bx hp]
theorem Kn:∀(l:bz) (c:UInt8),(l=[]∨Lib.indexByte l c<(l.length:Int))∧-1≤Lib.indexByte l c
 | [],c=>⟨.inl rfl,by show (-1:Int)≤-1;omega⟩
 | d :: r,c=>by
  obtain ⟨h1,h2⟩:=Kn r c
  rw [uK]
  refine ⟨.inr ?_,?_⟩
  ·split
   ·simp only [az];omega
   ·split
    ·simp only [az];omega
    ·rename_i h
     rcases h1 with rfl | h1
     ·exact (h (by rfl)).elim
     ·simp only [az];omega
  ·split
   ·omega
   ·split <;> omega
theorem CZ (c:UInt8):(Cn.Ip c).length≤6:=by
 unfold Cn.Ip
 split
 ·simp
 split
 ·rw [aj,kz];simp
 ·simp
theorem Ad:∀s:bz,(s.flatMap Cn.Ip).length≤6 * s.length
 | []=>by simp
 | c :: r=>by have:=Ad r;have:=CZ c;simp only [List.flatMap_cons,aj,az];omega
theorem nA (s:bz):(Cn.ku s).length≤6 * s.length+2:=by
 unfold Cn.ku
 cases fR.whole s with
 | false=>simp
 | true=>have:=Ad s;simp only [ah,Cn.quote,az,aj,aB];omega
theorem cF.cO (s:bz) (hs:s.length≤1000000000000):∀(m i:Nat) (b:bz),i+m=s.length→b.length+6 * m≤7000000000000 →
  cF.l1 s (s.length:Int) (i:Int) b=some [.s (b++((s.drop i).flatMap Cn.Ip++[34])),.b true]
 | 0,i,b,hi,hb=>by
  refine cF.bX _ _ _ _ ?_
  intro v1 h1 v2 h2 v3 h3 v4 h4 v5 h5 v6 h6 v7 h7
  rw [ab (by omega),ae,bx (dP (by rw [h7];simp;omega) (by rw [h7];simp;omega)),h7,aC (by omega)]
  rfl
 | m+1,i,b,hi,hb=>by
  refine cF.bX _ _ _ _ ?_
  intro v1 h1 v2 h2 v3 h3 v4 h4 v5 h5 v6 h6 v7 h7
  rw [ak] at h1
  have ND:=Kn [34,92,8,12,10,13,9] v1
  rw [←h2] at ND
  have ND:=ND.1.resolve_left (by simp)
  have next:∀e:bz,e=Cn.Ip v1→cF.j2 s (s.length:Int) (i:Int) (b++e)=some [.s (b++((s.drop i).flatMap Cn.Ip++[34])),.b true]:=fun e he=>by
   refine cF.jx _ _ _ _ ?_
   intro w1 g1
   have e1:w1=((i+1:Nat):Int):=by rw [g1,i64_in _ (by omega)];omega
   have hl:=CZ v1
   rw [e1,cF.cO s hs m (i+1) (b++e) (by omega) (by rw [he,aj];omega),drop_cons (l:=s) (i:=i) (by omega) (0:UInt8),←h1,he,List.flatMap_cons]
   simp only [aE]
  rw [aa (by omega),ah,bx (bN (by omega) (by omega))]
  by_cases c:(0:Int)≤v2
  ·rw [aa c,ah,bx (bN c (by simp at ND ⊢;omega)),bx (dP (by rw [h4];simp;omega) (by rw [h4];simp;omega))]
   refine next _ ?_
   unfold Cn.Ip
   rw [←h2,au c,h4,h3];rfl
  ·rw [ab c,ae]
   by_cases c2:v1<32
   ·rw [aa c2,ah,bx (dP (by simp;omega) (by simp;omega)),bx (aa (by simp)),bx (dP (by rw [h5,h6,kz];simp;omega) (by rw [h5,h6,kz];simp;omega)),h5,aE]
    refine next _ ?_
    unfold Cn.Ip
    rw [←h2,ao c,au c2,h6]
   ·rw [ab c2,ae,bx (dP (by simp;omega) (by simp;omega))]
    refine next _ ?_
    unfold Cn.Ip
    rw [←h2,ao c,ao c2]
theorem cF.goal (s:bz) (hp:(decide (s.length≤1000000000000))=true):cF.F s=some [.s (Cn.ku s),.b (fR.whole s)]:=by
 have hs:=aq hp
 refine cF.bY _ ?_
 intro v1 h1
 rw [bx (aa (by omega))]
 unfold Cn.ku
 cases fR.whole s with
 | false=>rfl
 | true =>
  rw [aG,ae,ah,h1]
  exact cF.cO s hs s.length 0 [34] (by omega) (by simp;omega)
theorem eS.goal (b s:bz) (hp:(decide (b.length+6 * s.length≤5000000000000))=true):eS.F b s=some [.sl .bs (b++Cn.ku s)]:=by
 have h:=aq hp
 have:=nA s
 rw [eS.dW,bx (aa (by omega)),bx (dP (by omega) (by omega))]
theorem fK.goal (j:bP) (hp:(decide (12 * bP.bJ j≤1000000000000))=true):fK.F j=some [.s (Cn.pK j),.i .i64 (Cn.mq j)]:=by
 have h:=aq hp
 refine fK.bY _ ?_
 intro v1 h1
 rw [bx (aa (by omega)),bx (aa (by simp;omega)),h1,bq]
 unfold Cn.pK
 by_cases c:Cn.mq j=0
 ·rw [aa c,aG,ae,ah,c]
 ·rw [ab c,aI,ah,ae]
end Go.Eng
set_option maxRecDepth 20000
namespace Go.Eng
open Go.IntWalk
theorem Cy (f:Mem):bP.bJ f.val≤Mem.bJ f:=by
 cases f;simp only [bP.bJ,Mem.of,Mem.val,Mem.kind,Mem.text,Mem.kids,Mem.bJ,aB];omega
theorem F3 {l:List Mem} {i:Nat} (h:i<l.length) (d:Mem):Mem.bJ (l.getD i d)≤Mem.cm l:=by
 induction l generalizing i with
 | nil=>simp at h
 | cons f r ih =>
  cases i with
  | zero=>simp [Mem.cm]
  | succ i=>have:=ih (i:=i) (by simpa using h);simp only [List.getD_cons_succ,Mem.cm];omega
theorem Je:∀f:Mem,1≤Mem.bJ f
 | .mk _ _ _ _=>by simp only [Mem.bJ];omega
theorem qq:∀l:List Mem,l.length≤Mem.cm l
 | []=>by simp [Mem.cm]
 | f :: r=>by have:=qq r;have:=Je f;simp only [Mem.cm,az];omega
theorem qv (j:bP):bP.bJ j=1+j.text.length+Mem.cm j.kids:=by
 simp only [bP.bJ,Mem.of,Mem.bJ,aB]
theorem zg (f:Mem):f.name.length+bP.bJ f.val=Mem.bJ f:=by
 cases f;simp only [bP.bJ,Mem.of,Mem.val,Mem.name,Mem.kind,Mem.text,Mem.kids,Mem.bJ,aB];omega
end Go.Eng
set_option maxRecDepth 20000
namespace Go.Eng
open Go.IntWalk
theorem HB (f:Mem):Cn.BO f=Cn.mq f.val:=by
 cases f;simp only [Cn.mq,Mem.of,Mem.val,Mem.kind,Mem.text,Mem.kids,Cn.BO]
theorem bZ.jd (n:Nat) (l:List Mem) (hb:Mem.cm l≤1099511627776) (hn:Mem.cm l<n):∀(m i:Nat),i+m=l.length→bZ.l2 n l (l.length:Int) (i:Int)=some [.i .i64 (Cn.uV (l.drop i))]
 | 0,i,hi=>by
  refine bZ.iu _ _ _ _ ?_
  intro v1 h1 v2 h2 v3 h3
  rw [ab (by omega),ae,aC (by omega)]
  simp [Cn.uV]
 | m+1,i,hi=>by
  have hlen:=qq l
  refine bZ.iu _ _ _ _ ?_
  intro v1 h1 v2 h2 v3 h3
  rw [ak] at h1
  have hf:=F3 (l:=l) (i:=i) (by omega) (fx.gm .ml)
  rw [←h1] at hf
  have hv:=Cy v1
  have RF:=zg v1
  have e3:v3=((i+1:Nat):Int):=by rw [h3,i64_in _ (by omega)];omega
  have cc:((decide (bP.bJ (Mem.val v1)≤1099511627776))&&decide ((bP.bJ (Mem.val v1))<n))=true:=by
   rw [af];exact ⟨aa (by omega),aa (by omega)⟩
  rw [aa (by omega),ah,bx (bN (by omega) (by omega)),bx (aa (by omega)),bx cc,e3,bZ.jd n l hb hn m (i+1) (by omega),drop_cons (l:=l) (i:=i) (by omega) (fx.gm .ml),←h1,h2]
  simp only [Cn.uV]
  rw [HB]
  cases hw:fR.whole v1.name with
  | false=>rw [au rfl];rfl
  | true =>
   rw [ao (by simp),aG,ae]
   by_cases c:Cn.mq v1.val=0
   ·rw [aa c,aG,ae,ao (by simp [c])]
   ·rw [ab c,aI,ah,au c]
theorem bZ.cO (n:Nat) (j:bP) (hb:bP.bJ j≤1099511627776) (hn:bP.bJ j<n+1):∀(m i:Nat),i+m=j.kids.length →
  bZ.l1 n j.kids (j.kids.length:Int) (i:Int) j=some [.i .i64 (if j.kind=6∧((j.kids.drop i).any fun m=>!decide (m.name=[]))=true then 1
   else if j.kind=4∧(Nr.jf j.text=0∨300<j.text.length) then 10
   else if j.kind=5∧fR.whole j.text=false then 4
   else Cn.uV j.kids)]
 | 0,i,hi=>by
  have hk:=qv j
  refine bZ.bX _ _ _ _ _ ?_
  intro v1 h1 v2 h2 v3 h3 v4 h4 v5 h5 v6 h6 v7 h7 v8 h8 v9 h9 v10 iS
  have ct:decide (j.text.length≤1099511627776)=true:=aa (by omega)
  have ca:∀a:Bool,(!a || (a&&true))=true:=by decide
  have c8:(!(decide (j.kind=4)) || ((decide (j.kind=4))&&((decide (Nr.jf j.text=0)) || v4)))=true:=by
   rw [h4];cases decide (j.kind=4) <;> cases decide (Nr.jf j.text=0) <;> rfl
  have e7:v7=decide (j.kind=4∧(Nr.jf j.text=0∨300<j.text.length)):=by
   have e5:decide ((300:Int)<v5)=decide (300<j.text.length):=aY.2 (by omega)
   rw [h7,h6,e5,Bool.decide_and,Bool.decide_or]
   cases decide (j.kind=4) <;> cases decide (Nr.jf j.text=0) <;> rfl
  have e9:v9=decide (j.kind=5∧fR.whole j.text=false):=by
   rw [h9,h8,Bool.decide_and];cases decide (j.kind=5) <;> cases fR.whole j.text <;> rfl
  rw [ab (show ¬((i:Int)<j.kids.length) by omega),ae,ct,bx (jR _),bx (ca _),bx (jR _),bx (jR _),bx (jR _),bx (jR _),bx (jR _),bx c8,bx (jR _),e7,
   ao (by rw [aC (by omega)];simp)]
  by_cases k1:j.kind=4∧(Nr.jf j.text=0∨300<j.text.length)
  ·rw [aa k1,ah,au k1]
  rw [ab k1,ae,ao k1,bx (jR _),bx (ca _),bx (jR _),bx (jR _),e9]
  by_cases k2:j.kind=5∧fR.whole j.text=false
  ·rw [aa k2,ah,au k2]
  rw [ab k2,ae,ao k2,iS]
  exact bZ.jd n j.kids (by omega) (by omega) j.kids.length 0 (by omega)
 | m+1,i,hi=>by
  have hk:=qv j
  have hlen:=qq j.kids
  have ih:=bZ.cO n j hb hn m (i+1) (by omega)
  refine bZ.bX _ _ _ _ _ ?_
  intro v1 h1 v2 h2 v3 h3 v4 h4 v5 h5 v6 h6 v7 h7 v8 h8 v9 h9 v10 iS
  rw [ak] at h1
  have e3:v3=((i+1:Nat):Int):=by rw [h3,i64_in _ (by omega)];omega
  rw [aa (show (i:Int)<j.kids.length by omega),ah,bx (bN (by omega) (by omega)),bx (jR _),bx (jR _),bx (jR _),e3,ih,drop_cons (l:=j.kids) (i:=i) (by omega) (fx.gm .ml),←h1,List.any_cons,h2]
  by_cases k:j.kind=6
  ·rw [aa k,ah]
   by_cases k2:v1.name=[]
   ·rw [aa k2,aG,ae,Bool.false_or]
   ·rw [ab k2,aI,ah,Bool.true_or,au ⟨k,rfl⟩]
  ·rw [ab k,ae,ae];simp only [k,false_and,if_false]
theorem bZ.goal (n:Nat) (j:bP) (hp:((decide (bP.bJ j≤1099511627776))&&decide ((bP.bJ j)<n+1))=true):bZ.F n j=some [.i .i64 (Cn.mq j)]:=by
 rw [af] at hp
 have hb:=aq hp.1
 have hn:=aq hp.2
 refine bZ.bY _ _ ?_
 intro v1 h1 v2 h2 v3 h3 v4 h4 v5 h5 v6 h6
 have e1:v1=decide (j.kind<1∨7<j.kind):=by rw [h1,Bool.decide_or];cases decide (j.kind<1) <;> rfl
 have e4:v4=decide (j.kids≠[]∧j.kind≠6∧j.kind≠7):=by
  have:decide ((0:Int)<v2)=decide (j.kids≠[]):=aY.2 (by rw [h2];exact ⟨fun h e=>by rw [e] at h;exact absurd h (by simp),fun h=>by have:=List.length_pos_iff.2 h;omega⟩)
  rw [h4,h3,this,Bool.decide_and,Bool.decide_and]
  simp only [ne_eq,decide_not]
  cases decide (j.kids=[]) <;> cases decide (j.kind=6) <;> rfl
 have e6:v6=decide (j.text≠[]∧j.kind≠4∧j.kind≠5):=by
  rw [h6,h5,Bool.decide_and,Bool.decide_and]
  simp only [ne_eq,decide_not]
  cases decide (j.text=[]) <;> cases decide (j.kind=4) <;> rfl
 have key:=bZ.cO n j hb hn j.kids.length 0 (by omega)
 simp only [Cn.mq,Mem.of,Cn.BO]
 rw [bx (jR _),bx (jR _),bx (M3 _),e1]
 by_cases k1:j.kind<1∨7<j.kind
 ·rw [aa k1,ah,au k1]
 rw [ab k1,ae,ao k1,bx (jR _),bx (jR _),bx (jR _),bx (jR _),bx (jR _),bx (jR _),e4]
 by_cases k2:j.kids≠[]∧j.kind≠6∧j.kind≠7
 ·rw [aa k2,ah,au k2]
 rw [ab k2,ae,ao k2,bx (jR _),bx (jR _),bx (jR _),bx (jR _),bx (jR _),bx (jR _),e6]
 by_cases k3:j.text≠[]∧j.kind≠4∧j.kind≠5
 ·rw [aa k3,ah,au k3]
 rw [ab k3,ae,ao k3,h2]
 exact key
end Go.Eng
set_option maxRecDepth 20000
namespace Go.Eng
open Go.IntWalk
mutual
theorem zw:∀m:Mem,(Cn.vr m).length+4+12 * m.name.length≤12 * Mem.bJ m
 | .mk n k t ks=>by
  have h:=we ks (decide (k=7)) true
  have hq:=nA t
  simp only [Cn.vr,Mem.bJ,Mem.name]
  split
  ·simp;omega
  split
  ·simp;omega
  split
  ·simp;omega
  split
  ·omega
  split
  ·omega
  ·simp only [az,aj,aB];omega
theorem we:∀(l:List Mem) (o f:Bool),(Cn.oK o f l).length≤12 * Mem.cm l
 | [],o,f=>by simp [Cn.oK]
 | m :: r,o,f=>by
  have h1:=zw m
  have h2:=we r o false
  have hq:=nA m.name
  simp only [Cn.oK,Mem.cm,aj]
  cases f <;> cases o <;> simp <;> omega
end
theorem Ge (f:Mem):Cn.vr f=Cn.uF f.val:=by
 cases f;simp only [Cn.uF,Mem.of,Mem.val,Mem.kind,Mem.text,Mem.kids,Cn.vr]
theorem cz.jd (n:Nat) (c:UInt8) (j:bP) (hn:bP.bJ j<n+1):∀(m i:Nat) (b:bz),i+m=j.kids.length→b.length+12 * Mem.cm (j.kids.drop i)+8≤4000000000000→Mem.cm j.kids≤1000000000000 →
  cz.l2 n c j.kids (j.kids.length:Int) (i:Int) j b=some [.sl .bs (b++(Cn.oK (decide (j.kind=7)) (decide (i=0)) (j.kids.drop i)++[c]))]
 | 0,i,b,hi,hb,hq=>by
  refine cz.iu _ _ _ _ _ _ _ ?_
  intro v1 h1 v2 h2
  rw [ab (show ¬((i:Int)<j.kids.length) by omega),ae,bx (dP (by simp;omega) (by simp;omega)),aC (by omega)]
  simp [Cn.oK]
 | m+1,i,b,hi,hb,hq=>by
  have hk:=qv j
  have hlen:=qq j.kids
  refine cz.iu _ _ _ _ _ _ _ ?_
  intro v1 h1 v2 h2
  rw [ak] at h1
  have hf:=F3 (l:=j.kids) (i:=i) (by omega) (fx.gm .ml)
  rw [←h1] at hf
  have hd:=drop_cons (l:=j.kids) (i:=i) (by omega) (fx.gm .ml)
  rw [←h1] at hd
  have hv:=zg v1
  have hl:=zw v1
  have Yr:=nA v1.name
  rw [hd] at hb ⊢
  simp only [Mem.cm] at hb
  have last:∀x:bz,x.length≤b.length+6 * v1.name.length+4→cz.j4 n c j.kids (j.kids.length:Int) (i:Int) j v1 x=some [.sl .bs (x++(Cn.vr v1++(Cn.oK (decide (j.kind=7)) false (j.kids.drop (i+1))++[c])))]:=fun x hx=>by
   refine cz.Gs _ _ _ _ _ _ _ _ ?_
   intro w1 g1 w2 g2
   have e2:w2=((i+1:Nat):Int):=by rw [g2,i64_in _ (by omega)];omega
   have cc:((decide (x.length+12 * bP.bJ (Mem.val v1)≤4000000000000))&&decide ((bP.bJ (Mem.val v1))<n))=true:=by
    rw [af];exact ⟨aa (by omega),aa (by omega)⟩
   rw [bx cc,e2,g1,←Ge,cz.jd n c j hn m (i+1) _ (by omega) (by rw [aj];omega) hq,show decide (i+1=0)=false from ab (by omega),aE]
  have pr:∀x:bz,x.length≤b.length+1→cz.j3 n c j.kids (j.kids.length:Int) (i:Int) j v1 x=some [.sl .bs (x++(cond (decide (j.kind=7)) (Cn.ku v1.name++[58]) []++(Cn.vr v1++(Cn.oK (decide (j.kind=7)) false (j.kids.drop (i+1))++[c]))))]:=fun x hx=>by
   refine cz.qw _ _ _ _ _ _ _ _ ?_
   intro w1 g1 w2 g2
   by_cases k:j.kind=7
   ·rw [aa k,ah,ah,bx (aa (by omega)),bx (dP (by rw [g1,g2];simp;omega) (by rw [g1,g2];simp;omega)),last _ (by rw [g1,g2];simp;omega),g1,g2,aa k]
    simp only [aE]
   ·rw [ab k,ae,ae,last x (by omega),ab k];rfl
  rw [aa (show (i:Int)<j.kids.length by omega),ah,bx (bN (by omega) (by omega))]
  simp only [Cn.oK]
  by_cases h0:i=0
  ·rw [ab (by omega),ae,pr b (by omega),aa h0,ah,bq]
   simp only [aE]
  ·rw [aa (by omega),ah,bx (dP (by rw [h2];simp;omega) (by rw [h2];simp;omega)),pr _ (by rw [h2];simp),ab h0,ae,h2]
   simp only [aE]
theorem cz.goal (n:Nat) (b:bz) (j:bP) (hp:((decide (b.length+12 * bP.bJ j≤4000000000000))&&decide ((bP.bJ j)<n+1))=true):cz.F n b j=some [.sl .bs (b++Cn.uF j)]:=by
 rw [af] at hp
 have hb:=aq hp.1
 have hn:=aq hp.2
 have hk:=qv j
 refine cz.bY _ _ _ ?_
 intro v1 h1 v2 h2 v3 h3 v4 h4
 simp only [Cn.uF,Mem.of,Cn.vr]
 by_cases k1:j.kind=1
 ·rw [aa k1,ah,au k1,bx (dP (by simp;omega) (by simp;omega)),h1]
 rw [ab k1,ae,ao k1]
 by_cases k2:j.kind=2
 ·rw [aa k2,ah,au k2,bx (dP (by simp;omega) (by simp;omega)),h2]
 rw [ab k2,ae,ao k2]
 by_cases k3:j.kind=3
 ·rw [aa k3,ah,au k3,bx (dP (by simp;omega) (by simp;omega)),h3]
 rw [ab k3,ae,ao k3]
 by_cases k4:j.kind=4
 ·rw [aa k4,ah,au k4,bx (dP (by omega) (by omega))]
 rw [ab k4,ae,ao k4]
 by_cases k5:j.kind=5
 ·rw [aa k5,ah,au k5,bx (aa (by omega)),h4]
 rw [ab k5,ae,ao k5]
 have go:∀x y:UInt8,cz.j1 n x y j b=some [.sl .bs (b++x :: (Cn.oK (decide (j.kind=7)) true j.kids++[y]))]:=fun x y=>by
  refine cz.iR _ _ _ _ _ ?_
  intro w1 g1
  rw [bx (dP (by simp;omega) (by simp;omega)),g1]
  have:=cz.jd n y j hn j.kids.length 0 (b++[x]) (by omega) (by rw [bh];simp;omega) (by omega)
  rw [bh,aa (rfl:0=0),aE] at this
  exact this
 by_cases k6:j.kind=7
 ·rw [aa k6,ah,ah,ah,go,aa k6]
 ·rw [ab k6,ae,ae,ae,go,ab k6]
end Go.Eng
set_option maxRecDepth 20000
namespace Go.Eng
open Go.IntWalk
theorem gq (n:bz) (j:bP):bP.bJ (Cn.one n j)=1+n.length+bP.bJ j:=by
 simp only [bP.bJ,Cn.one,Mem.of,Mem.bJ,Mem.cm,aB];omega
theorem kT (n m:bz) (j k:bP):bP.bJ (Cn.two n j m k)=1+n.length+m.length+bP.bJ j+bP.bJ k:=by
 simp only [bP.bJ,Cn.two,Mem.of,Mem.bJ,Mem.cm,aB];omega
theorem iB (s:bz):bP.bJ (Cn.str s)=1+s.length:=by
 simp only [bP.bJ,Cn.str,Mem.of,Mem.bJ,Mem.cm,aB];omega
theorem l0 (v:Int) (h:Nr.i64 v=true):(Nr.itoa v).length≤21:=by
 have h:=aq h
 rw [Nr.lC]
 have:=Nr.iV 20 v.natAbs (by rw [t20];omega) (by omega)
 split
 ·simp only [az];omega
 ·omega
theorem zd (v:Int) (h:Nr.i64 v=true):bP.bJ (Cn.num v)≤22:=by
 have:=l0 v h
 simp only [bP.bJ,Cn.num,Mem.of,Mem.bJ,Mem.cm,aB];omega
theorem Ey (h l:UInt64):(Cn.uS h l).length≤20001:=by
 have hx:=qZ h l
 have hc:=tT h l
 have hd:=Nr.iV 34 _ (by rw [t34];exact hc) (by omega)
 have hl:=wG (d:=Nr.dec (Cn.split h l).2.2.1.val) (x:=(Cn.split h l).2.2.2) (by omega) (by omega) (by omega)
 unfold Cn.uS
 simp only
 split
 ·simp
 ·cases (Cn.split h l).2.1 with
  | true=>rw [ah,az];split <;> simp <;> omega
  | false=>rw [ae];split <;> simp <;> omega
theorem DP (v:Val):bP.bJ (Cn.oD v).1≤30000:=by
 have h1:=oM v.bits
 have h2:=oM v.high
 have h3:=oM v.low
 have h4:=Sh.qc v.bits
 have h5:=Ey v.high v.low
 have i64:∀b,(Nr.itoa (Cn.i64 b)).length≤21:=fun b=>l0 _ (nc _)
 have i32:∀b,(Nr.itoa (Cn.i32 b)).length≤21:=fun b=>l0 _ (nc _)
 have n64:∀b,bP.bJ (Cn.num (Cn.i64 b))≤22:=fun b=>zd _ (nc _)
 have a1:=i64 v.bits
 have a2:=i32 v.bits
 have a3:=n64 (dQ v.bits 32)
 have a4:=n64 (v.bits &&& 4294967295)
 unfold Cn.oD
 split
 ·split <;> simp only [gq,iB,az,aB] <;> omega
 split
 ·simp only [gq,iB,az,aB];omega
 split
 ·simp only [gq,iB,az,aB];omega
 split
 ·simp only [gq,iB,az,aB];omega
 split
 ·simp only [gq,kT,az,aB];omega
 split
 ·split <;> simp only [gq,iB,az,aB,aj] <;> omega
 ·decide
theorem AZ (v:Val):bP.bJ (Cn.pz v)≤100+v.text.length+v.more.length+2 * v.bytes.length:=by
 have h1:=Au v.bytes
 unfold Cn.pz
 split
 ·simp only [gq,kT,iB,kz,az,aB];omega
 split
 ·simp only [gq,kT,iB,kz,az,aB];omega
 split
 ·simp only [gq,kT,iB,kz,az,aB];omega
 split
 ·simp only [gq,kT,iB,kz,az,aB];omega
 split
 ·simp only [gq,kT,iB,kz,az,aB];omega
 split
 ·simp only [gq,kT,iB,kz,az,aB];omega
 ·rw [iB];omega
end Go.Eng
set_option maxRecDepth 20000
namespace Go.Eng
open Go.IntWalk
theorem Bt (v:Val):bP.bJ (Cn.qu v)≤30000+v.text.length+v.more.length+2 * v.bytes.length:=by
 have h1:=DP v
 have h2:=AZ v
 have h3:=zd 1 (aa (by decide))
 have k:∀x:Int,bP.bJ ⟨x,[],[]⟩=1:=fun x=>by simp only [bP.bJ,Mem.of,Mem.bJ,Mem.cm,aB]
 unfold Cn.qu
 split
 ·rw [gq,k];simp only [az,aB];omega
 split
 ·rw [k];omega
 split
 ·rw [k];omega
 split
 ·rw [gq];simp only [az,aB];omega
 split
 ·rw [gq];simp only [az,aB];omega
 split
 ·omega
 ·omega
theorem sk:∀l:List Mem,Mem.cm (l.map Cn.oF)≤Mem.cm l
 | []=>by simp
 | m :: r=>by
  have:=sk r
  have h:=Cy m
  have e:Mem.bJ (Cn.oF m)=bP.bJ m.val:=rfl
  simp only [aX,Mem.cm,e];omega
end Go.Eng
